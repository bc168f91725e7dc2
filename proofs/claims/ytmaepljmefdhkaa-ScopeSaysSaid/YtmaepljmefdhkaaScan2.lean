import Derived.Test.YtmaepljmefdhkaaMem1
namespace Go.Proofs.Ytmaepljmefdhkaa
open Go.RowKit
set_option maxHeartbeats 1000000
set_option maxRecDepth 100000

def emptyS (s : ByteArray) : Bool := s.size == 0
theorem toList_empty (s : ByteArray) : s.toList.isEmpty = emptyS s := by
  rw [ByteArray.toList_eq, emptyS, Bool.eq_iff_iff, List.isEmpty_iff, beq_iff_eq]
  constructor
  · intro h
    have : s.data.toList.length = 0 := by rw [h]; rfl
    simpa using this
  · intro h
    exact List.eq_nil_of_length_eq_zero (by simpa using h)

/-- Are two strings the same? -/
def seqB (a b : ByteArray) : Bool := a.data.toList == b.data.toList
theorem seqB_iff {a b : ByteArray} : seqB a b = true ↔ a = b := by
  unfold seqB
  rw [beq_iff_eq]
  constructor
  · intro h
    cases a; cases b
    simpa using h
  · rintro rfl; rfl
theorem seqB_false {a b : ByteArray} : seqB a b = false ↔ a ≠ b := by
  rw [← Bool.not_eq_true, seqB_iff]
theorem toList_beq (a b : ByteArray) : (a.toList == b.toList) = seqB a b := by
  rw [ByteArray.toList_eq, ByteArray.toList_eq]; rfl

/-! scan.Kind: the first number whose text it is -/
def kindFrom (s : ByteArray) : Nat → Nat → Int
  | 0, _ => 0
  | d + 1, k => if seqB (textOf k) s then (k : Int) else kindFrom s d (k + 1)
def kindOf (s : ByteArray) : Int := if emptyS s then 0 else kindFrom s 67 0

theorem kind_any (s : ByteArray) (w : World) : Calls Try.prog 171 #[.string s] w fun e w' => e = .returned (.int .i64 (kindOf s)) ∧ Below w.heap.size w w' := by
  have he := toList_empty s
  cases hs : emptyS s with
  | true =>
    rw [hs] at he
    have HS := Lib.hid hs
    clear hs
    go_enter Try.func171, Try.ntmps171
    go_wp2
    go_ret
    exact ⟨by simp [kindOf, HS.out], Below.refl _ _⟩
  | false =>
    rw [hs] at he
    have HS := Lib.hid hs
    clear hs
    go_enter Try.func171, Try.ntmps171
    go_wp2_with fail
    refine (signs_any _).mono ?_
    rintro e w1 ⟨rfl, rfl⟩
    go_wp2_with fail
    go_loopw [9] (fun i wr => ∃ k : Nat, k ≤ 67 ∧ i = .int .i64 k ∧ kindFrom s 67 0 = kindFrom s (67 - k) k ∧ Below w.heap.size w wr) (fun i _ => 67 - (intOf i).toNat)
    case atStart => exact ⟨0, by omega, rfl, rfl, below_one _ _⟩
    case round =>
      obtain ⟨k, hk, rfl, hx, hb⟩ := hrel
      have HX := Lib.hid hx
      clear hx
      by_cases hlt : k < 67
      · obtain ⟨d, hd⟩ : ∃ d, 67 - k = d + 1 := ⟨66 - k, by omega⟩
        have hd' : 67 - (k + 1) = d := by omega
        have hm := hb.size
        cases ht : seqB (textOf k) s with
        | true =>
          have HT : ((textOf k).toList == s.toList) = true := by rw [toList_beq]; exact ht
          have HF : Hid (kindOf s = (k : Int)) := by
            have h1 : kindFrom s (67 - k) k = (k : Int) := by rw [hd]; simp only [kindFrom]; rw [if_pos ht]
            show kindOf s = (k : Int)
            unfold kindOf
            rw [HS.out, HX.out, h1]; simp
          clear ht hd hd'
          go_wp2_with (go_at_call 209; refine (text_any _ _).mono ?_; rintro e w2 ⟨rfl, hb2⟩)
          go_ret
          exact ⟨by rw [HF.out]; rfl, hb.trans (hb2.mono hm)⟩
        | false =>
          have HT : ((textOf k).toList == s.toList) = false := by rw [toList_beq]; exact ht
          have HF : Hid (kindFrom s 67 0 = kindFrom s (67 - (k + 1)) (k + 1)) := by
            show kindFrom s 67 0 = kindFrom s (67 - (k + 1)) (k + 1)
            rw [HX.out, hd, hd']; simp only [kindFrom]; rw [if_neg (by simp [ht])]
          clear ht hd hd'
          go_wp2_with (go_at_call 209; refine (text_any _ _).mono ?_; rintro e w2 ⟨rfl, hb2⟩)
          go_roundw
          case rel => exact ⟨k + 1, by omega, by go_num, HF.out, hb.trans (hb2.mono hm)⟩
          case measure => simp [intOf]; omega
      · have HF : Hid (kindOf s = 0) := by
          obtain rfl : k = 67 := by omega
          show kindOf s = 0
          unfold kindOf
          rw [HS.out, HX.out]; rfl
        go_wp2_with fail
        go_ret
        exact ⟨by rw [HF.out]; rfl, hb⟩
end Go.Proofs.Ytmaepljmefdhkaa
