import Derived.Test.YtmaepljmefdhkaaTree3
namespace Go.Proofs.Ytmaepljmefdhkaa
open Go.RowKit
set_option maxHeartbeats 1000000
set_option maxRecDepth 100000

def nameB (k : Int) (nm : ByteArray) : Bool :=
  if k == 20 || k == 43 then emptyS nm || namedB nm
  else if k == 3 || k == 13 || k == 31 || k == 32 || k == 42 || k == 45 then namedB nm
  else emptyS nm
theorem name_any (k at_ num : Int) (A : Option Addr) (m c : Nat) (nm : ByteArray) (w : World) (hsz : (nm.size : Int) ≤ 9223372036854775807) :
    Calls Try.prog 114 #[nodeV k at_ A m c nm num] w fun e w' => e = .returned (.bool (nameB k nm)) ∧ Below w.heap.size w w' := by
  have he := toList_empty nm
  cases hs : emptyS nm <;> rw [hs] at he <;> (
    have HS := Lib.hid hs
    clear hs
    go_enter Try.func114, Try.ntmps114
    go_wp2_with (go_at_call 141; refine (named_any _ _ hsz).mono ?_; rintro e w1 ⟨rfl, hb1⟩)
    all_goals (go_ret; refine ⟨?_, by first | exact below_one _ _ | exact (below_one _ _).trans (hb1.mono (by simp))⟩; simp [nameB, HS.out, *]))

/-! tree.receives -/
def recvB (l : List Nd) : Nat → Int → Bool
  | 0, _ => false
  | d + 1, i =>
    let n := nd l i.toNat
    if n.kind == 21 then n.num == 3
    else if n.kind == 22 || n.kind == 23 || n.kind == 24 || n.kind == 25 then recvB l d (gi n.kids 0)
    else false
/-- What a tree's first nodes have to be for the walk down the first kids. -/
def Down (l : List Nd) (N : Nat) : Prop := ∀ i, i < N → ∀ j, j < (nd l i).kids.length → 0 ≤ gi (nd l i).kids j ∧ gi (nd l i).kids j < (i : Int)
/-- Those with a first kid have one. -/
def Fst (l : List Nd) (N : Nat) : Prop := ∀ i, i < N → ((nd l i).kind = 22 ∨ (nd l i).kind = 23 ∨ (nd l i).kind = 24 ∨ (nd l i).kind = 25) → 0 < (nd l i).kids.length

theorem kinds4 {x : Int} (h : ¬ (x = 22 ∨ x = 23 ∨ x = 24 ∨ x = 25)) : (x == 22 || x == 23 || x == 24 || x == 25) = false := by
  simp only [Bool.or_eq_false_iff, beq_eq_false_iff_ne]; omega
theorem recv_irr (l : List Nd) (N : Nat) (hdn : Down l N) (hf : Fst l N) : ∀ (i d d' : Nat), i < N → i < d → i < d' → recvB l d (i : Int) = recvB l d' (i : Int) := by
  intro i
  induction i using Nat.strongRecOn with
  | ind i ih =>
    intro d d' hN h h'
    obtain ⟨d, rfl⟩ : ∃ m, d = m + 1 := ⟨d - 1, by omega⟩
    obtain ⟨d', rfl⟩ : ∃ m, d' = m + 1 := ⟨d' - 1, by omega⟩
    simp only [recvB, Int.toNat_natCast]
    by_cases c1 : (nd l i).kind = 21
    · simp [c1]
    · by_cases c2 : (nd l i).kind = 22 ∨ (nd l i).kind = 23 ∨ (nd l i).kind = 24 ∨ (nd l i).kind = 25
      · obtain ⟨d0, d1⟩ := hdn i hN 0 (hf i hN c2)
        obtain ⟨r, hr⟩ : ∃ r : Nat, gi (nd l i).kids 0 = (r : Int) := ⟨(gi (nd l i).kids 0).toNat, by omega⟩
        rw [hr, ih r (by omega) d d' (by omega) (by omega) (by omega)]
      · simp [c1, kinds4 c2]
theorem recvB_step (l : List Nd) (N k q : Nat) (hkN : k < N) (hk : (nd l k).kind = 22 ∨ (nd l k).kind = 23 ∨ (nd l k).kind = 24 ∨ (nd l k).kind = 25) (hq : gi (nd l k).kids 0 = (q : Int)) (hqk : q < k) (hdn : Down l N) (hf : Fst l N) :
    recvB l (k + 1) (k : Int) = recvB l (q + 1) (q : Int) := by
  rw [recvB]
  simp only [Int.toNat_natCast, hq]
  have c1 : ((nd l k).kind == 21) = false := by simp only [beq_eq_false_iff_ne]; omega
  have c2 : ((nd l k).kind == 22 || (nd l k).kind == 23 || (nd l k).kind == 24 || (nd l k).kind == 25) = true := by
    simp only [Bool.or_eq_true, beq_iff_eq]; omega
  rw [c1, c2]
  simp only [Bool.false_eq_true, if_false, if_true]
  exact recv_irr l N hdn hf q k (q + 1) (by omega) hqk (by omega)

theorem receives_any (A : Option Addr) (c : Nat) (ns : List Nd) (i : Nat) (w : World) (hl : NodesAt w A ns) (N : Nat) (hiN : i < N) (hN : N ≤ ns.length) (hdn : Down ns N) (hf : Fst ns N) :
    Calls Try.prog 145 #[.slice A ns.length c, .int .i64 i] w fun e w' => e = .returned (.bool (recvB ns (i + 1) i)) ∧ Below w.heap.size w w' := by
  have hm' := big_le hl.size
  have HD := Lib.hid hdn
  have HF := Lib.hid hf
  clear hdn hf
  go_enter Try.func145, Try.ntmps145
  go_wp2
  go_loopw [1] (fun i' wr => ∃ k : Nat, k < N ∧ i' = .int .i64 k ∧ recvB ns (i + 1) i = recvB ns (k + 1) k ∧ Below w.heap.size w wr) (fun i' _ => (intOf i').toNat)
  case atStart => exact ⟨i, hiN, rfl, rfl, Below.refl _ _⟩
  case round =>
    obtain ⟨k, hk, rfl, hx, hb⟩ := hrel
    have HX := Lib.hid hx
    clear hx
    have hs := hb.size
    obtain ⟨b, o, rfl, hn⟩ := (hl.below hb).node k (by omega)
    obtain ⟨n1, n2, n3, n4, n5, n6, _, n7⟩ := hn
    have hbl := block_lt_of_cell n1
    by_cases c2 : (nd ns k).kind = 22 ∨ (nd ns k).kind = 23 ∨ (nd ns k).kind = 24 ∨ (nd ns k).kind = 25
    · obtain ⟨d0, d1⟩ := HD.out k hk 0 (HF.out k hk c2)
      obtain ⟨q, hq⟩ : ∃ q : Nat, gi (nd ns k).kids 0 = (q : Int) := ⟨(gi (nd ns k).kids 0).toNat, by omega⟩
      have h0 := HF.out k hk c2
      obtain ⟨b2, o2, hA, hc0⟩ := n7 0 h0
      have hst := recvB_step ns N k q hk c2 hq (by omega) HD.out HF.out
      have HS : Hid (recvB ns (i + 1) i = recvB ns (q + 1) q) := HX.out.trans hst
      rw [hA] at n3
      rw [hq, Nat.add_zero] at hc0
      have hbl2 := block_lt_of_cell hc0
      have hq0 : 0 < (nd ns k).kids.length := h0
      clear hst hA n7
      have e21 : ((nd ns k).kind == 21) = false := by simp only [beq_eq_false_iff_ne]; omega
      have hor : (((nd ns k).kind == 22) = true) ∨ (((nd ns k).kind == 22) = false ∧ ((nd ns k).kind == 23) = true) ∨ (((nd ns k).kind == 22) = false ∧ ((nd ns k).kind == 23) = false ∧ ((nd ns k).kind == 24) = true) ∨
          (((nd ns k).kind == 22) = false ∧ ((nd ns k).kind == 23) = false ∧ ((nd ns k).kind == 24) = false ∧ ((nd ns k).kind == 25) = true) := by
        simp only [beq_eq_false_iff_ne, beq_iff_eq]; omega
      clear c2
      rcases hor with e22 | ⟨e22, e23⟩ | ⟨e22, e23, e24⟩ | ⟨e22, e23, e24, e25⟩ <;> (
        go_wp2
        go_roundw
        case rel => exact ⟨q, by omega, rfl, HS.out, hb.alloc hs _⟩
        case measure => simp [intOf]; omega)
    · have hk4 := kinds4 c2
      simp only [Bool.or_eq_false_iff] at hk4
      obtain ⟨⟨⟨e22, e23⟩, e24⟩, e25⟩ := hk4
      clear c2
      cases e21 : ((nd ns k).kind == 21) with
      | true =>
        have HF' : Hid (recvB ns (i + 1) i = ((nd ns k).num == 3)) := HX.out.trans (by rw [recvB]; simp [e21])
        go_wp2
        go_ret
        exact ⟨by rw [HF'.out]; rfl, hb.alloc hs _⟩
      | false =>
        have HF' : Hid (recvB ns (i + 1) i = false) := HX.out.trans (by rw [recvB]; simp [e21, e22, e23, e24, e25])
        go_wp2
        go_ret
        exact ⟨by rw [HF'.out]; rfl, hb.alloc hs _⟩
end Go.Proofs.Ytmaepljmefdhkaa
