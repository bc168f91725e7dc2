import Derived.Test.YtmaepljmefdhkaaScan1
namespace Go.Proofs.Ytmaepljmefdhkaa
open Go.RowKit
set_option maxHeartbeats 1000000
set_option maxRecDepth 100000

/-- A node's value. -/
abbrev nodeV (k at_ : Int) (A : Option Addr) (m c : Nat) (nm : ByteArray) (num : Int) : Value := .agg #[.int .i64 k, .int .i64 at_, .slice A m c, .string nm, .int .i64 num]

theorem below_one (w : World) (o : Obj) : Below w.heap.size w (w.alloc o) := (Below.refl _ _).alloc (Nat.le_refl _) _

theorem ret_bool {a b : Bool} (h : a = true ↔ b = true) : Ending.returned (.bool a) = .returned (.bool b) := by
  rw [Bool.eq_iff_iff.2 h]

def knownB (k : Int) : Bool := (decide (1 ≤ k) && decide (k ≤ 7)) || (decide (11 ≤ k) && decide (k ≤ 25)) || (decide (31 ≤ k) && decide (k ≤ 46))
theorem known_any (k : Int) (w : World) : Calls Try.prog 112 #[.int .i64 k] w fun e w' => e = .returned (.bool (knownB k)) ∧ w = w' := by
  go_enter Try.func112, Try.ntmps112
  go_wp2
  all_goals (go_ret; refine ⟨ret_bool ?_, rfl⟩; simp [knownB]; omega)

def isB (k cls : Int) : Bool :=
  if cls == 0 then decide (1 ≤ k) && decide (k ≤ 7)
  else if cls == 1 then decide (11 ≤ k) && decide (k ≤ 25)
  else if cls == 2 then decide (31 ≤ k) && decide (k ≤ 41)
  else if cls == 3 then k == 41
  else if cls == 4 then k == 42
  else if cls == 5 then k == 43 || k == 44
  else if cls == 6 then k == 45
  else k == 6
theorem is_any (k at_ num cls : Int) (A : Option Addr) (m c : Nat) (nm : ByteArray) (w : World) :
    Calls Try.prog 143 #[nodeV k at_ A m c nm num, .int .i64 cls] w fun e w' => e = .returned (.bool (isB k cls)) ∧ Below w.heap.size w w' := by
  go_enter Try.func143, Try.ntmps143
  go_wp2
  all_goals (go_ret; refine ⟨?_, below_one _ _⟩; simp [isB, *] <;> (intros; omega))

def levelF (k num : Int) : Int :=
  if k == 22 then
    if num == 11 then 1 else if num == 12 then 2
    else if num == 21 || num == 22 || num == 23 || num == 24 || num == 25 || num == 26 then 3
    else if num == 31 || num == 32 then 4
    else if num == 41 || num == 42 || num == 43 then 5
    else 0
  else if k == 21 then (if decide (1 ≤ num) && decide (num ≤ 3) then 6 else 0)
  else if k == 23 || k == 24 || k == 25 then 7
  else if isB k 1 then 8 else 0
theorem level_any (k at_ num : Int) (A : Option Addr) (m c : Nat) (nm : ByteArray) (w : World) :
    Calls Try.prog 140 #[nodeV k at_ A m c nm num] w fun e w' => e = .returned (.int .i64 (levelF k num)) ∧ Below w.heap.size w w' := by
  go_enter Try.func140, Try.ntmps140
  go_wp2_with (go_at_call 143; refine (is_any _ _ _ _ _ _ _ _ _).mono ?_; rintro e w1 ⟨rfl, hb1⟩)
  all_goals (go_ret; refine ⟨?_, by first | exact below_one _ _ | exact (below_one _ _).trans (hb1.mono (by simp))⟩; simp [levelF, *] <;> (intros; omega))

def numB (k num : Int) (m : Nat) : Bool :=
  if k == 11 || k == 25 then decide (0 ≤ num)
  else if k == 7 then num == 0 || (num == 1 && decide (0 < (m : Int)))
  else if k == 12 || k == 20 then num == 0 || num == 1
  else if k == 21 || k == 22 then decide (0 < levelF k num)
  else if k == 46 then decide (0 ≤ num) && decide (num ≤ (m : Int))
  else num == 0
theorem num_any (k at_ num : Int) (A : Option Addr) (m c : Nat) (nm : ByteArray) (w : World) :
    Calls Try.prog 113 #[nodeV k at_ A m c nm num] w fun e w' => e = .returned (.bool (numB k num m)) ∧ Below w.heap.size w w' := by
  go_enter Try.func113, Try.ntmps113
  go_wp2_with (go_at_call 140; refine (level_any _ _ _ _ _ _ _ _).mono ?_; rintro e w1 ⟨rfl, hb1⟩)
  all_goals (go_ret; refine ⟨?_, by first | exact below_one _ _ | exact (below_one _ _).trans (hb1.mono (by simp))⟩; simp [numB, *] <;> (intros; omega))
end Go.Proofs.Ytmaepljmefdhkaa
