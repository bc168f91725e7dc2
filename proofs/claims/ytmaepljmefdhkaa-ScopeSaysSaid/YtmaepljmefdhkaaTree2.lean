import Derived.Test.YtmaepljmefdhkaaTree1
import Derived.Deep.QuietTactic
import Derived.BigQuiet
namespace Go.Proofs.Ytmaepljmefdhkaa
open Go.RowKit
set_option maxHeartbeats 2000000
set_option maxRecDepth 100000

theorem below_drewN {B : Nat} {w W : World} (h : Below B w W) (n : Nat) : Below B w (W.drewN n) := ⟨h.os, h.tape, h.output, h.size, h.block⟩

def paramF (num : Int) (m : Nat) (j : Int) : Int × Int × Int :=
  if j == (m : Int) - 1 then (3, 1 + num, m)
  else if num == 1 && j == (m : Int) - 2 then (0, 2, m)
  else (4, 1 + num, m)
def tup3 (x : Int × Int × Int) : Value := .tuple #[.int .i64 x.1, .int .i64 x.2.1, .int .i64 x.2.2]
theorem param_any (k at_ num j : Int) (A : Option Addr) (m c : Nat) (nm : ByteArray) (w : World) (h0 : 0 ≤ num) (h1 : num ≤ 1) (hm : (m : Int) ≤ 4611686018427387904) :
    Calls Try.prog 190 #[nodeV k at_ A m c nm num, .int .i64 j] w fun e w' => e = .returned (tup3 (paramF num m j)) ∧ Below w.heap.size w w' := by
  by_cases g1 : j = (m : Int) - 1
  · have g : (j == (m : Int) - 1) = true := by simp [g1]
    go_enter Try.func190, Try.ntmps190
    go_wp2
    go_quiet (fail)
    go_wp2
    go_ret3
    refine ⟨?_, below_drewN (below_one _ _) _⟩
    simp [tup3, paramF, g]
  · have g : (j == (m : Int) - 1) = false := by simp [g1]
    by_cases g2 : num = 1
    · subst g2
      by_cases g3 : j = (m : Int) - 2
      · have g' : (j == (m : Int) - 2) = true := by simp [g3]
        go_enter Try.func190, Try.ntmps190
        go_wp2
        go_ret3
        refine ⟨?_, below_one _ _⟩
        simp [tup3, paramF, g, g']
      · have g' : (j == (m : Int) - 2) = false := by simp [g3]
        go_enter Try.func190, Try.ntmps190
        go_wp2
        go_quiet (fail)
        go_wp2
        go_ret3
        refine ⟨?_, below_drewN (below_one _ _) _⟩
        simp [tup3, paramF, g, g']
    · have g' : (num == 1) = false := by simp [g2]
      go_enter Try.func190, Try.ntmps190
      go_wp2
      go_quiet (fail)
      go_wp2
      go_ret3
      refine ⟨?_, below_drewN (below_one _ _) _⟩
      simp [tup3, paramF, g, g']

def wantsF (k num : Int) (m : Nat) (j : Int) : Int × Int × Int :=
  if k == 4 || k == 6 || k == 42 || k == 45 then (0, 1, 1)
  else if k == 5 then (0, 2, m) else if k == 7 then (0, 0, m) else if k == 19 then (7, 1, 1)
  else if k == 15 then (1, 2, m) else if k == 16 || k == 23 then (1, 1, m) else if k == 20 then paramF num m j
  else if k == 17 || k == 22 || k == 24 || k == 33 || k == 34 then (1, 2, 2)
  else if k == 14 || k == 18 || k == 21 || k == 25 || k == 31 || k == 35 || k == 39 then (1, 1, 1)
  else if k == 38 then (1, 0, 1) else if k == 32 then (if j == 0 then (0, 1, 2) else (1, 1, 2))
  else if k == 40 then (5, 0, m) else if k == 41 then (2, 0, m)
  else if k == 46 then (if decide (j < num) then (6, 0, m) else (2, 0, m))
  else if k == 44 then (if j == (m : Int) - 1 then (3, 3, 3) else (1, 3, 3))
  else if k == 37 || k == 43 then (if j == (m : Int) - 1 then (3, 2, 2) else (1, 2, 2))
  else if k == 36 then (if j == 2 then (3, 2, 3) else if j == 1 then (3, 2, 3) else (1, 2, 3))
  else (if j == (m : Int) - 1 then (3, 0, 0) else (1, 0, 0))
theorem wants_any (k at_ num j : Int) (A : Option Addr) (m c : Nat) (nm : ByteArray) (w : World) (hn : k = 20 → 0 ≤ num ∧ num ≤ 1) (hm : (m : Int) ≤ 4611686018427387904) :
    Calls Try.prog 142 #[nodeV k at_ A m c nm num, .int .i64 j] w fun e w' => e = .returned (tup3 (wantsF k num m j)) ∧ Below w.heap.size w w' := by
  by_cases g20 : k = 20
  · subst g20
    obtain ⟨h0, h1⟩ := hn rfl
    clear hn
    go_enter Try.func142, Try.ntmps142
    go_wp2_with (go_at_call 190; refine (param_any _ _ _ _ _ _ _ _ _ h0 h1 hm).mono ?_; rintro e w1 ⟨rfl, hb1⟩; unfold tup3)
    go_ret3
    exact ⟨rfl, (below_one _ _).trans (hb1.mono (by simp))⟩
  · have g : (k == 20) = false := by simp [g20]
    clear hn g20
    by_cases gj : j = (m : Int) - 1
    · have gl : (j == (m : Int) - 1) = true := by simp [gj]
      go_enter Try.func142, Try.ntmps142
      go_wp2
      all_goals go_ret3
      all_goals refine ⟨?_, below_one _ _⟩
      all_goals first | (simp [tup3, wantsF, *]; done) | (simp [tup3, wantsF, *]; omega) | (simp [tup3, wantsF, *]; rw [if_neg (by omega)]; simp)
    · have gl : (j == (m : Int) - 1) = false := by simp [gj]
      go_enter Try.func142, Try.ntmps142
      go_wp2
      all_goals go_ret3
      all_goals refine ⟨?_, below_one _ _⟩
      all_goals first | (simp [tup3, wantsF, *]; done) | (simp [tup3, wantsF, *]; omega) | (simp [tup3, wantsF, *]; rw [if_neg (by omega)]; simp)

def leastF (k num j : Int) : Int :=
  if k == 22 then (if levelF k num == 3 || j == 1 then levelF k num + 1 else levelF k num)
  else if k == 21 then 6
  else if k == 43 then (if j == 0 then 6 else 1)
  else if k == 25 then 7
  else if k == 23 || k == 24 then (if j == 0 then 7 else 1)
  else 1
theorem level_bd (k num : Int) : 0 ≤ levelF k num ∧ levelF k num ≤ 8 := by
  unfold levelF
  repeat' split
  all_goals omega
theorem least_any (k at_ num j : Int) (A : Option Addr) (m c : Nat) (nm : ByteArray) (w : World) :
    Calls Try.prog 144 #[nodeV k at_ A m c nm num, .int .i64 j] w fun e w' => e = .returned (.int .i64 (leastF k num j)) ∧ Below w.heap.size w w' := by
  obtain ⟨hl0, hl1⟩ := level_bd k num
  go_enter Try.func144, Try.ntmps144
  go_wp2_with (go_at_call 140; refine (level_any _ _ _ _ _ _ _ _).mono ?_; rintro e w1 ⟨rfl, hb1⟩)
  all_goals go_ret
  all_goals refine ⟨?_, by first | exact below_one _ _ | exact (below_one _ _).trans (hb1.mono (by simp))⟩
  all_goals first | (simp [leastF, *]; done) | (simp_all [leastF]; done) | (simp_all [leastF]; omega)
end Go.Proofs.Ytmaepljmefdhkaa
