import Derived.Test.YtmaepljmefdhkaaTree4
namespace Go.Proofs.Ytmaepljmefdhkaa
open Go.RowKit
set_option maxHeartbeats 1000000
set_option maxRecDepth 100000

/-! tree.kids -/
def wantsN (n : Nd) (j : Int) : Int × Int × Int := wantsF n.kind n.num n.kids.length j
def kidOK (ns : List Nd) (n : Nd) (j : Nat) : Bool :=
  isB (nd ns (gi n.kids j).toNat).kind (wantsN n j).1 || (n.kind == 36 && (j : Int) == 2 && (nd ns (gi n.kids j).toNat).kind == 36)
/-- From the last kid on: the next one's place, and whether each is right. -/
def kidsLoop (ns : List Nd) (n : Nd) (fs : List Int) : Nat → Int → Bool
  | 0, _ => true
  | j + 1, next =>
    if decide (gi n.kids j < 0) || gi n.kids j != next then false
    else if !kidOK ns n j then false
    else kidsLoop ns n fs j (gi fs (gi n.kids j).toNat - 1)
def kidsB (ns : List Nd) (i : Nat) (fs : List Int) : Bool :=
  let n := nd ns i
  if decide ((n.kids.length : Int) < (wantsN n 0).2.1) || decide ((wantsN n 0).2.2 < (n.kids.length : Int)) then false
  else kidsLoop ns n fs n.kids.length ((i : Int) - 1)

def Nd.obj (n : Nd) : Obj := .cells #[.int .i64 n.kind, .int .i64 n.at_, .slice n.kA n.kids.length n.kc, .string n.name, .int .i64 n.num] 33
theorem Nd.obj_alloc (w : World) (n : Nd) : (w.alloc (.cells #[.int .i64 n.kind, .int .i64 n.at_, .slice n.kA n.kids.length n.kc, .string n.name, .int .i64 n.num] 33)).heap[w.heap.size]? = some n.obj := heap_alloc_new w _
theorem Nd.obj_cells {w : World} {g : Nat} {n : Nd} (h : w.heap[g]? = some n.obj) :
    w.cell? ⟨g, 0, none⟩ = some (.int .i64 n.kind) ∧ w.cell? ⟨g, 1, none⟩ = some (.int .i64 n.at_) ∧ w.cell? ⟨g, 2, none⟩ = some (.slice n.kA n.kids.length n.kc) ∧ w.cell? ⟨g, 3, none⟩ = some (.string n.name) ∧ w.cell? ⟨g, 4, none⟩ = some (.int .i64 n.num) ∧ g < w.heap.size := by
  refine ⟨cell_of_row w g 0 _ _ _ h, cell_of_row w g 1 _ _ _ h, cell_of_row w g 2 _ _ _ h, cell_of_row w g 3 _ _ _ h, cell_of_row w g 4 _ _ _ h, ?_⟩
  exact (Array.getElem?_eq_some_iff.1 h).1
theorem kids_any (A F : Option Addr) (c fc : Nat) (ns : List Nd) (fs : List Int) (i : Nat) (w : World) (hl : NodesAt w A ns) (hF : IntsAt w F fs) (hfl : fs.length = ns.length) (hi : i < ns.length)
    (hfs : ∀ j, j < i → 0 ≤ gi fs j ∧ gi fs j ≤ j) (hnum : (nd ns i).kind = 20 → 0 ≤ (nd ns i).num ∧ (nd ns i).num ≤ 1) :
    Calls Try.prog 115 #[.slice A ns.length c, .int .i64 i, .slice F ns.length fc] w fun e w' => e = .returned (.bool (kidsB ns i fs)) ∧ Below w.heap.size w w' := by
  have hm' := big_le hl.size
  have HFS := Lib.hid hfs
  have HNM := Lib.hid hnum
  have HFL := Lib.hid hfl
  clear hfs hnum hfl
  obtain ⟨b, o, rfl, hn⟩ := hl.node i hi
  obtain ⟨n1, n2, n3, n4, n5, n6, _, n7⟩ := hn
  have hbl := block_lt_of_cell n1
  have hmk := big_le n6
  have hwn := wants_any (nd ns i).kind (nd ns i).at_ (nd ns i).num 0 (nd ns i).kA (nd ns i).kids.length (nd ns i).kc (nd ns i).name (w.alloc (.cells #[.int .i64 (nd ns i).kind, .int .i64 (nd ns i).at_, .slice (nd ns i).kA (nd ns i).kids.length (nd ns i).kc, .string (nd ns i).name, .int .i64 (nd ns i).num] 33)) HNM.out (by omega)
  have HW := Lib.hid hwn
  clear hwn
  go_enter Try.func115, Try.ntmps115
  go_wp2_with fail
  refine HW.out.mono ?_
  rintro e w1 ⟨rfl, hb1⟩
  obtain ⟨hc1, hf1⟩ := bcell hb1
  have HC1 := Lib.hid hf1
  clear hf1 HW
  unfold tup3
  by_cases g1 : ((nd ns i).kids.length : Int) < (wantsF (nd ns i).kind (nd ns i).num (nd ns i).kids.length 0).2.1
  · have HFI : Hid (kidsB ns i fs = false) := by
      show kidsB ns i fs = false
      unfold kidsB wantsN
      simp [g1]
    go_wp2
    go_ret
    exact ⟨by rw [HFI.out]; rfl, (below_one _ _).trans (hb1.mono (by simp))⟩
  by_cases g2 : (wantsF (nd ns i).kind (nd ns i).num (nd ns i).kids.length 0).2.2 < ((nd ns i).kids.length : Int)
  · have HFI : Hid (kidsB ns i fs = false) := by
      show kidsB ns i fs = false
      unfold kidsB wantsN
      simp [g2]
    go_wp2
    go_ret
    exact ⟨by rw [HFI.out]; rfl, (below_one _ _).trans (hb1.mono (by simp))⟩
  have HFI : Hid (kidsB ns i fs = kidsLoop ns (nd ns i) fs (nd ns i).kids.length ((i : Int) - 1)) := by
    show kidsB ns i fs = _
    unfold kidsB wantsN
    simp [g1, g2]
  go_wp2_with fail
  go_loopg [11, 12] (nd ns i).kids.length (fun j next k wr => ∃ q : Int, next = .int .i64 q ∧ k = .int .i64 ((j : Int) - 1) ∧ j ≤ (nd ns i).kids.length ∧ kidsB ns i fs = kidsLoop ns (nd ns i) fs j q ∧ -2 ≤ q ∧ q ≤ (i : Int) - 1 ∧ wr.heap[w.heap.size]? = some (nd ns i).obj ∧ Below w.heap.size w wr)
  case atStart => exact ⟨_, rfl, rfl, Nat.le_refl _, HFI.out, by omega, by omega, (hb1.block _ (by simp)).trans (Nd.obj_alloc w _), (below_one _ _).trans (hb1.mono (by simp))⟩
  case round =>
    obtain ⟨q, rfl, rfl, hj, hx, q0, q1, hL, hbw⟩ := hrel
    have HX := Lib.hid hx
    have HL := Lib.hid hL
    clear hx hc1 hb1 g1 g2 n1 n2 n3 n4 n5 hL
    have hs := hbw.size
    obtain ⟨l0, l1, l2, l3, l4, l5⟩ := Nd.obj_cells HL.out
    rcases gk with _ | j
    · go_wp2_with fail
      go_ret
      exact ⟨by rw [HX.out]; rfl, hbw⟩
    obtain ⟨kb, ko, hkA, hk⟩ := n7.below hbw j (by omega)
    have hkb := block_lt_of_cell hk
    rw [hkA] at l2
    by_cases c0 : gi (nd ns i).kids j < 0
    · have HFJ : Hid (kidsB ns i fs = false) := HX.out.trans (by simp [kidsLoop, c0])
      clear n7 hkA
      go_wp2_with fail
      go_ret
      exact ⟨by rw [HFJ.out]; rfl, hbw⟩
    by_cases c1 : gi (nd ns i).kids j = q
    · obtain ⟨p, hp⟩ : ∃ p : Nat, q = (p : Int) := ⟨q.toNat, by omega⟩
      subst hp
      have c2 : (gi (nd ns i).kids j != (p : Int)) = false := by simpa using c1
      have HC := Lib.hid c1
      obtain ⟨f0, f1⟩ := HFS.out p (by omega)
      obtain ⟨b', o', hAA, hnp⟩ := (hl.below hbw).node p (by omega)
      obtain ⟨rfl, rfl⟩ : b = b' ∧ o = o' := by simpa using hAA
      obtain ⟨p1, p2, p3, p4, p5, p6, _, p7⟩ := hnp
      obtain ⟨fb, fo, rfl, hfc⟩ := hF.below hbw p (by rw [HFL.out]; omega)
      have hfb := block_lt_of_cell hfc
      have hbl' := block_lt_of_cell p1
      rw [c1] at hk
      clear hAA c1 c2 c0
      have hwn := wants_any (nd ns i).kind (nd ns i).at_ (nd ns i).num j (nd ns i).kA (nd ns i).kids.length (nd ns i).kc (nd ns i).name wr HNM.out (by omega)
      rw [hkA] at hwn
      have HW := Lib.hid hwn
      have hpn : p < ns.length := by omega
      clear hwn hkA n7 p7
      go_wp2_with (go_at_call 142; refine HW.out.mono ?_; rintro e w2 ⟨rfl, hb2⟩; obtain ⟨hc2, hf2⟩ := bcell hb2; have HF2 := Lib.hid hf2; clear hf2; unfold tup3)
      refine (is_any _ _ _ _ _ _ _ _ _).mono ?_
      rintro e w3 ⟨rfl, hb3⟩
      obtain ⟨hc3, hf3⟩ := bcell hb3
      have HF3 := Lib.hid hf3
      have hs2 := hb2.size
      have hs3 := hb3.size
      have hb23 : Below w.heap.size w w3 := (hbw.trans (hb2.mono hs)).trans (hb3.mono (by omega))
      have hL3 : w3.heap[w.heap.size]? = some (nd ns i).obj := (hb3.block _ (by omega)).trans ((hb2.block _ (by omega)).trans HL.out)
      have HL3 := Lib.hid hL3
      clear hf3 hL3 HW
      have g1 : w.heap.size < w2.heap.size := by omega
      have g2 : b < w2.heap.size := by omega
      have g3 : fb < w2.heap.size := by omega
      have hstep : kidsB ns i fs = if !kidOK ns (nd ns i) j then false else kidsLoop ns (nd ns i) fs j (gi fs p - 1) := by
        rw [HX.out]
        simp only [kidsLoop, HC.out, Int.toNat_natCast]
        simp
      have hok : kidOK ns (nd ns i) j = (isB (nd ns p).kind (wantsF (nd ns i).kind (nd ns i).num (nd ns i).kids.length j).1 || ((nd ns i).kind == 36 && (j : Int) == 2 && (nd ns p).kind == 36)) := by
        simp only [kidOK, wantsN, HC.out, Int.toNat_natCast]
      have HST := Lib.hid hstep
      have HOK := Lib.hid hok
      clear hstep hok
      have hok4 : (isB (nd ns p).kind (wantsF (nd ns i).kind (nd ns i).num (nd ns i).kids.length j).1 = true ∨ isB (nd ns p).kind (wantsF (nd ns i).kind (nd ns i).num (nd ns i).kids.length j).1 = false ∧ ((nd ns i).kind == 36) = true ∧ ((j : Int) == 2) = true ∧ ((nd ns p).kind == 36) = true) ∨
          (isB (nd ns p).kind (wantsF (nd ns i).kind (nd ns i).num (nd ns i).kids.length j).1 = false ∧ (((nd ns i).kind == 36) = false ∨ (((nd ns i).kind == 36) = true ∧ ((j : Int) == 2) = false) ∨ ((nd ns i).kind == 36) = true ∧ ((j : Int) == 2) = true ∧ ((nd ns p).kind == 36) = false)) := by
        cases isB (nd ns p).kind (wantsF (nd ns i).kind (nd ns i).num (nd ns i).kids.length j).1 <;> cases ((nd ns i).kind == 36) <;> cases ((j : Int) == 2) <;> cases ((nd ns p).kind == 36) <;> simp
      rcases hok4 with (e1 | ⟨e1, e2, e3, e4⟩) | ⟨e1, e2 | ⟨e2, e3⟩ | ⟨e2, e3, e4⟩⟩
      · have HE : Hid (kidsB ns i fs = kidsLoop ns (nd ns i) fs j (gi fs p - 1)) := HST.out.trans (by rw [HOK.out, e1]; simp)
        go_wp2_with fail
        go_roundg j
        case measure => omega
        case rel => exact ⟨_, rfl, rfl, by omega, HE.out, by omega, by omega, HL3.out, hb23⟩
      · have HE : Hid (kidsB ns i fs = kidsLoop ns (nd ns i) fs j (gi fs p - 1)) := HST.out.trans (by rw [HOK.out, e1, e2, e3, e4]; simp)
        go_wp2_with fail
        go_roundg j
        case measure => omega
        case rel => exact ⟨_, rfl, rfl, by omega, HE.out, by omega, by omega, HL3.out, hb23⟩
      · have HE : Hid (kidsB ns i fs = false) := HST.out.trans (by rw [HOK.out, e1, e2]; simp)
        go_wp2_with fail
        go_ret
        exact ⟨by rw [HE.out]; rfl, hb23⟩
      · have HE : Hid (kidsB ns i fs = false) := HST.out.trans (by rw [HOK.out, e1, e2, e3]; simp)
        go_wp2_with fail
        go_ret
        exact ⟨by rw [HE.out]; rfl, hb23⟩
      · have HE : Hid (kidsB ns i fs = false) := HST.out.trans (by rw [HOK.out, e1, e2, e3, e4]; simp)
        go_wp2_with fail
        go_ret
        exact ⟨by rw [HE.out]; rfl, hb23⟩
    · have HFJ : Hid (kidsB ns i fs = false) := HX.out.trans (by simp [kidsLoop, c0, c1])
      have c2 : (gi (nd ns i).kids j != q) = true := by simpa using c1
      clear n7 hkA c1
      go_wp2_with fail
      go_ret
      exact ⟨by rw [HFJ.out]; rfl, hbw⟩
end Go.Proofs.Ytmaepljmefdhkaa
