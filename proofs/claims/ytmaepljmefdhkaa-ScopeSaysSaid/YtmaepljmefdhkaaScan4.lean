import Derived.Test.YtmaepljmefdhkaaScan3
import Derived.Laws.BytesArg
namespace Go.Proofs.Ytmaepljmefdhkaa
open Go.RowKit
set_option maxHeartbeats 1000000
set_option maxRecDepth 100000

def strOf (l : List UInt8) : ByteArray := ⟨l.toArray⟩
/-- string(b[:n]) -/
theorem conv_bytes (A : Option Addr) (c n : Nat) (l : List UInt8) (w : World) (hl : BytesAt w A l) (hn : n ≤ l.length) (h0 : 0 < n) :
    (convert 54 9 (.slice A n c)).run Try.prog w = .ok (.string (strOf (l.take n))) w := by
  obtain ⟨b, o, rfl, _⟩ := hl 0 (by omega)
  have h := run_convert_bytes_arg (P := Try.prog) w 54 5 Try.underlying54 Try.underlying5 b o n c ((l.take n).map fun c => (c.toNat : Int)) (by simp; omega)
    (fun i hi => by
      obtain ⟨b', o', e, hc⟩ := hl i (by omega)
      injection e with e
      injection e with e1 e2
      subst e1 e2
      rw [hc]
      have hil : i < l.length := by omega
      have e1 : bi l i = ((l[i].toNat : Nat) : Int) := by simp [bi, List.getD_eq_getElem?_getD, List.getElem?_eq_getElem hil]
      have e2 : ((l.take n).map fun c => (c.toNat : Int)).getD i 0 = ((l[i].toNat : Nat) : Int) := by
        rw [List.getD_eq_getElem?_getD, List.getElem?_map, List.getElem?_take, if_pos hi, List.getElem?_eq_getElem hil]; rfl
      rw [e1, e2]) 9 Try.underlying9
  rw [h]
  congr 2
  unfold strOfNums strOf
  congr 2
  rw [List.map_map]
  have : ((fun n : Int => UInt8.ofNat n.toNat) ∘ fun c : UInt8 => (c.toNat : Int)) = id := by funext c; simp
  rw [this, List.map_id]

/-- A token. -/
structure Tok where
  kind : Int
  at_ : Int
  len : Int
  num : Int
  deriving Inhabited
abbrev tokV (t : Tok) : Value := .agg #[.int .i64 t.kind, .int .i64 t.at_, .int .i64 t.len, .int .i64 t.num]
abbrev tokR (t : Tok) (e : Int) : Value := .tuple #[tokV t, .int .i64 e]

def wordF (l : List UInt8) : Tok × Int :=
  let n := runLen (fun c => letterI c || digitI c) l
  let k := kindOf (strOf (l.take n))
  if k != 0 then (⟨k, 0, n, 0⟩, 0) else if decide (32 < (n : Int)) then (⟨0, 0, 0, 0⟩, 13) else (⟨1, 0, n, 0⟩, 0)
theorem word_any (A : Option Addr) (c : Nat) (l : List UInt8) (w : World) (hl : BytesAt w A l) (hm : l.length ≤ big) (hlc : l.length ≤ c) (h0 : 0 < l.length) (h1 : letterI (bi l 0) = true) :
    Calls Try.prog 126 #[.slice A l.length c] w fun e w' => e = .returned (tokR (wordF l).1 (wordF l).2) ∧ Below w.heap.size w w' := by
  have hm' := big_le hm
  obtain ⟨n, hn⟩ : ∃ n, n = runLen (fun c => letterI c || digitI c) l := ⟨_, rfl⟩
  have hnl : n ≤ l.length := by rw [hn]; exact runLen_le _ _
  have hn0 : 0 < n := by
    obtain ⟨x, l', rfl⟩ : ∃ x l', l = x :: l' := by cases l with | nil => simp at h0 | cons x l' => exact ⟨x, l', rfl⟩
    rw [hn, runLen]
    simp only [bi, List.getD_cons_zero] at h1
    simp [h1]
  have hcv := fun w' (hw : BytesAt w' A l) c => conv_bytes A c n l w' hw hnl hn0
  have HCV := Lib.hid hcv
  have hw : wordF l = if kindOf (strOf (l.take n)) != 0 then (⟨kindOf (strOf (l.take n)), 0, n, 0⟩, 0) else if decide (32 < (n : Int)) then (⟨0, 0, 0, 0⟩, 13) else (⟨1, 0, n, 0⟩, 0) := by
    rw [wordF, hn]
  have HW := Lib.hid hw
  have HN := Lib.hid hn
  have hcv1 : ∀ c, (convert 54 9 (.slice A n c)).run Try.prog (w.alloc (.cells #[.int .i64 0, .int .i64 0, .int .i64 0, .int .i64 0] 73)) = .ok (.string (strOf (l.take n))) (w.alloc (.cells #[.int .i64 0, .int .i64 0, .int .i64 0, .int .i64 0] 73)) :=
    fun c => HCV.out _ (hl.below (below_one _ _)) c
  have hnc : (n : Int) ≤ c := by omega
  clear hcv hw h1 hn
  cases e1 : (kindOf (strOf (l.take n)) != 0) with
  | true =>
    have HE : Hid (wordF l = (⟨kindOf (strOf (l.take n)), 0, n, 0⟩, 0)) := HW.out.trans (by rw [if_pos e1])
    go_enter Try.func126, Try.ntmps126
    go_wp2_with (first | (go_at_call 83; refine (run_any 170 _ tells170 A _ l _ (hl.below (below_one _ _)) hm).mono ?_; rintro e w1 ⟨rfl, rfl⟩; rw [← HN.out]) | (go_at_call 171; refine (kind_any _ _).mono ?_; rintro e w1 ⟨rfl, hb1⟩; obtain ⟨u1, rfl⟩ := below_after hb1))
    refine bodyPost_ret (v := tokR ⟨kindOf (strOf (l.take n)), 0, n, 0⟩ 0) (by simp [results, Try.results126, go_sem]) rfl ⟨by rw [HE.out], ?_⟩
    repeat (refine Below.setCell ?_ (by simp) _)
    exact (below_one _ _).trans (u1.h.mono (by simp))
  | false =>
    by_cases e2 : 32 < (n : Int)
    · have HE : Hid (wordF l = (⟨0, 0, 0, 0⟩, 13)) := HW.out.trans (by rw [if_neg (by simp [e1]), if_pos (by simpa using e2)])
      go_enter Try.func126, Try.ntmps126
      go_wp2_with (first | (go_at_call 83; refine (run_any 170 _ tells170 A _ l _ (hl.below (below_one _ _)) hm).mono ?_; rintro e w1 ⟨rfl, rfl⟩; rw [← HN.out]) | (go_at_call 171; refine (kind_any _ _).mono ?_; rintro e w1 ⟨rfl, hb1⟩; obtain ⟨u1, rfl⟩ := below_after hb1))
      refine bodyPost_ret (v := tokR ⟨0, 0, 0, 0⟩ 13) (by simp [results, Try.results126, go_sem]) rfl ⟨by rw [HE.out], ?_⟩
      repeat (refine Below.setCell ?_ (by simp) _)
      exact (below_one _ _).trans (u1.h.mono (by simp))
    · have HE : Hid (wordF l = (⟨1, 0, n, 0⟩, 0)) := HW.out.trans (by rw [if_neg (by simp [e1]), if_neg (by simpa using e2)])
      go_enter Try.func126, Try.ntmps126
      go_wp2_with (first | (go_at_call 83; refine (run_any 170 _ tells170 A _ l _ (hl.below (below_one _ _)) hm).mono ?_; rintro e w1 ⟨rfl, rfl⟩; rw [← HN.out]) | (go_at_call 171; refine (kind_any _ _).mono ?_; rintro e w1 ⟨rfl, hb1⟩; obtain ⟨u1, rfl⟩ := below_after hb1))
      refine bodyPost_ret (v := tokR ⟨1, 0, n, 0⟩ 0) (by simp [results, Try.results126, go_sem]) rfl ⟨by rw [HE.out], ?_⟩
      repeat (refine Below.setCell ?_ (by simp) _)
      exact (below_one _ _).trans (u1.h.mono (by simp))
end Go.Proofs.Ytmaepljmefdhkaa
