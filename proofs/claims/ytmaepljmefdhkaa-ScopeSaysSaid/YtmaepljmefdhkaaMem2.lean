import Derived.Test.YtmaepljmefdhkaaTree6
import Derived.Deep.OwnRows
namespace Go.Proofs.Ytmaepljmefdhkaa
open Go.RowKit
set_option maxHeartbeats 1000000
set_option maxRecDepth 100000

def intsV (l : List Int) : Array Value := (l.map (Value.int .i64)).toArray
theorem size_intsV (l : List Int) : (intsV l).size = l.length := by simp [intsV]
theorem info3 : (Try.prog.info? 3).map (fun i => (i.zero, i.size, i.bytes)) = some (some (.int .i64 0), 1, 8) := by kernel_rfl
theorem made_ints (n : Nat) : madeCells #[.int .i64 0] n = intsV (List.replicate n 0) := by
  apply Array.ext
  · simp [madeCells, intsV]
  · intro i h1 h2
    simp [madeCells, intsV, Nat.mod_one]
theorem make_ints (n : Nat) (hn : n ≤ big) (W : World) : (Instr.makeSlice 24 (.int .i64 (n : Int)) (.int .i64 (n : Int))).run Try.prog W = .ok (.slice (some ⟨W.heap.size, 0, none⟩) n n) (W.alloc (.cells (intsV (List.replicate n 0)) 3)) := by
  have h := run_make_row' (P := Try.prog) 24 3 (.int .i64 0) 8 Try.underlying24 info3 rfl .i64 .i64 n (by unfold big at hn; omega) (by unfold big at hn; omega) W
  rw [h, made_ints]

/-- Block g is just these numbers. -/
def IntsBlk (w : World) (g : Nat) (l : List Int) : Prop := w.heap[g]? = some (.cells (intsV l) 3 (0, 0))
section
variable {w w' : World} {g : Nat} {l : List Int}
theorem IntsBlk.lt (h : IntsBlk w g l) : g < w.heap.size := (Array.getElem?_eq_some_iff.1 h).1
theorem IntsBlk.cell (h : IntsBlk w g l) {i : Nat} (hi : i < l.length) : w.cell? ⟨g, i, none⟩ = some (.int .i64 (gi l i)) := by
  rw [cell_of_row w g i _ _ _ h]
  simp [intsV, gi, List.getElem?_eq_getElem hi, List.getD_eq_getElem?_getD]
theorem IntsBlk.frozen (h : IntsBlk w g l) (i : Nat) : w.frozen? ⟨g, i, none⟩ = false := frozen_of_row w g i _ _ h
theorem IntsBlk.at_ (h : IntsBlk w g l) : IntsAt w (some ⟨g, 0, none⟩) l := fun i hi => ⟨g, 0, rfl, by rw [Nat.zero_add]; exact h.cell hi⟩
theorem IntsBlk.new (w : World) (l : List Int) : IntsBlk (w.alloc (.cells (intsV l) 3)) w.heap.size l := heap_alloc_new w _
theorem IntsBlk.alloc (h : IntsBlk w g l) (o : Obj) : IntsBlk (w.alloc o) g l := (Below.heap_alloc w o g h.lt).trans h
theorem IntsBlk.after (h : IntsBlk w g l) (u : After w) : IntsBlk u.w g l := (u.h.block g h.lt).trans h
theorem IntsBlk.below (h : IntsBlk w g l) (hb : Below w.heap.size w w') : IntsBlk w' g l := (hb.block g h.lt).trans h
theorem IntsBlk.far (h : IntsBlk w g l) {p : Addr} (hp : g ≠ p.block) (u : Value) : IntsBlk (w.setCell p u) g l := (Below.heap_setCell w p u g hp).trans h
theorem IntsBlk.set (h : IntsBlk w g l) (i : Nat) (x : Int) : IntsBlk (w.setCell ⟨g, i, none⟩ (.int .i64 x)) g (l.set i x) := by
  unfold IntsBlk
  rw [heap_setCell_same w g i _ _ _ h]
  congr 2
  simp [intsV, List.map_set]
end
theorem gi_set {l : List Int} {i j : Nat} (x : Int) (hi : i < l.length) : gi (l.set i x) j = if j = i then x else gi l j := by
  unfold gi
  rw [List.getD_eq_getElem?_getD, List.getElem?_set]
  by_cases h : i = j
  · subst h; simp [hi]
  · rw [if_neg h, if_neg (fun e => h e.symm), List.getD_eq_getElem?_getD]
theorem gi_replicate (n i : Nat) : gi (List.replicate n 0) i = 0 := by
  unfold gi
  rw [List.getD_eq_getElem?_getD, List.getElem?_replicate]
  split <;> rfl

/-! tree.Check -/
def nodeErr (ns : List Nd) (i : Nat) (fs : List Int) : Int :=
  let n := nd ns i
  if !knownB n.kind || decide (n.at_ < 0) then 20
  else if !numB n.kind n.num n.kids.length then 23
  else if !nameB n.kind n.name then 22
  else if !kidsB ns i fs then 21
  else if !levelsB ns i then 24
  else 0
def firstVal (ns : List Nd) (i : Nat) (fs : List Int) : Int :=
  if 0 < (nd ns i).kids.length then gi fs (gi (nd ns i).kids 0).toNat else i
def checkEnd (ns : List Nd) (fs : List Int) : Int × Int :=
  if ns.length = 0 then (ns.length, 25)
  else if (nd ns (ns.length - 1)).kind != 46 || gi fs (ns.length - 1) != 0 then (ns.length, 25)
  else (0, 0)
def checkFrom (ns : List Nd) : Nat → Nat → List Int → Int × Int
  | 0, _, fs => checkEnd ns fs
  | d + 1, i, fs => if nodeErr ns i fs == 0 then checkFrom ns d (i + 1) (fs.set i (firstVal ns i fs)) else ((i : Int), nodeErr ns i fs)
def checkF (ns : List Nd) : Int × Int := checkFrom ns ns.length 0 (List.replicate ns.length 0)

structure Upto (ns : List Nd) (i : Nat) (fs : List Int) : Prop where
  len : fs.length = ns.length
  fst : ∀ j, j < i → 0 ≤ gi fs j ∧ gi fs j ≤ (j : Int)
  down : Down ns i
  has : Fst ns i

theorem kidsLoop_in {ns : List Nd} {n : Nd} {fs : List Int} {i : Nat} (hfs : ∀ j, j < i → 0 ≤ gi fs j ∧ gi fs j ≤ (j : Int)) : ∀ (j : Nat) (q : Int), q < (i : Int) → kidsLoop ns n fs j q = true → ∀ m, m < j → 0 ≤ gi n.kids m ∧ gi n.kids m ≤ q := by
  intro j
  induction j with
  | zero => intro q _ _ m hm; omega
  | succ j ih =>
    intro q hq h m hm
    simp only [kidsLoop] at h
    split at h
    · cases h
    · rename_i h1
      split at h
      · cases h
      · simp only [Bool.or_eq_true, decide_eq_true_eq, bne_iff_ne, not_or, Int.not_lt, Decidable.not_not] at h1
        obtain ⟨k0, k1⟩ := h1
        obtain ⟨p, hp⟩ : ∃ p : Nat, q = (p : Int) := ⟨q.toNat, by omega⟩
        subst hp
        rw [k1, Int.toNat_natCast] at h
        obtain ⟨f0, f1⟩ := hfs p (by omega)
        rcases Nat.lt_succ_iff_lt_or_eq.1 hm with hm | rfl
        · have := ih _ (by omega) h m hm
          omega
        · omega
theorem kidsB_in {ns : List Nd} {fs : List Int} {i : Nat} (hfs : ∀ j, j < i → 0 ≤ gi fs j ∧ gi fs j ≤ (j : Int)) (h : kidsB ns i fs = true) : ∀ m, m < (nd ns i).kids.length → 0 ≤ gi (nd ns i).kids m ∧ gi (nd ns i).kids m < (i : Int) := by
  intro m hm
  unfold kidsB at h
  simp only at h
  split at h
  · cases h
  · have := kidsLoop_in hfs _ _ (by omega) h m hm
    omega
theorem kidsB_many {ns : List Nd} {fs : List Int} {i : Nat} (h : kidsB ns i fs = true) : (wantsN (nd ns i) 0).2.1 ≤ ((nd ns i).kids.length : Int) ∧ ((nd ns i).kids.length : Int) ≤ (wantsN (nd ns i) 0).2.2 := by
  unfold kidsB at h
  simp only at h
  split at h
  · cases h
  · rename_i h1
    simp only [Bool.or_eq_true, decide_eq_true_eq, not_or, Int.not_lt] at h1
    exact h1
theorem wants_least {k num j : Int} {m : Nat} (h : k = 22 ∨ k = 23 ∨ k = 24 ∨ k = 25 ∨ k = 44) : 1 ≤ (wantsF k num m j).2.1 := by
  rcases h with h | h | h | h | h <;> subst h <;> simp [wantsF]
  split <;> simp
end Go.Proofs.Ytmaepljmefdhkaa
