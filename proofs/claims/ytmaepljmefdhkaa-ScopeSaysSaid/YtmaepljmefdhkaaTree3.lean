import Derived.Test.YtmaepljmefdhkaaScan2
namespace Go.Proofs.Ytmaepljmefdhkaa
open Go.RowKit
set_option maxHeartbeats 1000000
set_option maxRecDepth 100000

def letterI (c : Int) : Bool := (decide (97 ≤ c) && decide (c ≤ 122)) || (decide (65 ≤ c) && decide (c ≤ 90)) || c == 95
def digitI (c : Int) : Bool := decide (48 ≤ c) && decide (c ≤ 57)
/-- The byte at a place of a string (0: there is none). -/
def bat (s : ByteArray) (i : Nat) : Int := if h : i < s.size then ((s[i]'h).toNat : Int) else 0
theorem bat_at (s : ByteArray) (i : Nat) (h : i < s.size) : bat s i = ((s[i]'h).toNat : Int) := by simp [bat, h]
def identAt (s : ByteArray) (j : Nat) : Bool := letterI (bat s j) || (j != 0 && digitI (bat s j))
def namedB (s : ByteArray) : Bool := !emptyS s && decide ((s.size : Int) ≤ 32) && kindOf s == 0 && (List.range s.size).all (identAt s)

theorem all_range {n : Nat} {p : Nat → Bool} : (List.range n).all p = true ↔ ∀ j, j < n → p j = true := by
  rw [List.all_eq_true]; simp
theorem range_no {n : Nat} {p : Nat → Bool} {j : Nat} (hj : j < n) (h : p j = false) : (List.range n).all p = false := by
  rw [List.all_eq_false]; exact ⟨j, by simpa using hj, by simp [h]⟩

theorem ident_iff (s : ByteArray) (k : Nat) (h : k < s.size) : identAt s k = true ↔ ((97 ≤ ((s[k]'h).toNat : Int) ∧ ((s[k]'h).toNat : Int) ≤ 122) ∨ (65 ≤ ((s[k]'h).toNat : Int) ∧ ((s[k]'h).toNat : Int) ≤ 90) ∨ ((s[k]'h).toNat : Int) = 95 ∨ (k ≠ 0 ∧ 48 ≤ ((s[k]'h).toNat : Int) ∧ ((s[k]'h).toNat : Int) ≤ 57)) := by
  unfold identAt
  rw [bat_at s k h]
  generalize ((s[k]'h).toNat : Int) = c
  simp [letterI, digitI]
  omega
theorem named_no (s : ByteArray) (k : Nat) (h : k < s.size) (hn : identAt s k = false) : namedB s = false := by
  simp [namedB, range_no h hn]
theorem byte_cases (c : Int) : ((c < 48 ∧ c < 95) ∧ (c == 95) = false) ∨ ((48 ≤ c ∧ c ≤ 57) ∧ (c == 95) = false) ∨ ((57 < c ∧ c < 65) ∧ (c == 95) = false) ∨ ((65 ≤ c ∧ c ≤ 90) ∧ (c == 95) = false) ∨ ((90 < c ∧ c < 95 ∧ decide (c ≤ 90) = false) ∧ (c == 95) = false) ∨
    ((95 ≤ c ∧ c ≤ 95) ∧ (c == 95) = true) ∨ ((95 < c ∧ c < 97 ∧ decide (c ≤ 90) = false) ∧ (c == 95) = false) ∨ ((97 ≤ c ∧ c ≤ 122) ∧ (c == 95) = false) ∨ ((122 < c ∧ decide (c ≤ 90) = false ∧ decide (c ≤ 122) = false) ∧ (c == 95) = false) := by
  simp only [beq_iff_eq, beq_eq_false_iff_ne, decide_eq_false_iff_not]
  omega
theorem named_any (s : ByteArray) (w : World) (hsz : (s.size : Int) ≤ 9223372036854775807) : Calls Try.prog 141 #[.string s] w fun e w' => e = .returned (.bool (namedB s)) ∧ Below w.heap.size w w' := by
  have he := toList_empty s
  cases hs : emptyS s with
  | true =>
    rw [hs] at he
    have HF : Hid (namedB s = false) := by show namedB s = false; simp [namedB, hs]
    clear hs
    go_enter Try.func141, Try.ntmps141
    go_wp2_with fail
    go_ret
    exact ⟨by rw [HF.out]; rfl, Below.refl _ _⟩
  | false =>
    rw [hs] at he
    have HS := Lib.hid hs
    clear hs
    by_cases h32 : (s.size : Int) ≤ 32
    · cases hk : (kindOf s == 0) with
      | false =>
        have HF : Hid (namedB s = false) := by show namedB s = false; simp [namedB, hk]
        have hk2 : (kindOf s != 0) = true := by rw [bne, hk]; rfl
        clear hk
        go_enter Try.func141, Try.ntmps141
        go_wp2_with (go_at_call 171; refine (kind_any _ _).mono ?_; rintro e w2 ⟨rfl, hb2⟩)
        go_ret
        exact ⟨by rw [HF.out]; rfl, hb2⟩
      | true =>
        have HK := Lib.hid hk
        have hk2 : (kindOf s != 0) = false := by rw [bne, hk]; rfl
        clear hk
        go_enter Try.func141, Try.ntmps141
        go_wp2_with (go_at_call 171; refine (kind_any _ _).mono ?_; rintro e w2 ⟨rfl, hb2⟩)
        go_loop [20] (fun i => ∃ k : Nat, k ≤ s.size ∧ i = .int .i64 k ∧ ∀ j, j < k → identAt s j = true) (fun i => s.size - (intOf i).toNat)
        case atStart => exact ⟨0, by omega, rfl, by intro j hj; omega⟩
        case round =>
          obtain ⟨k, hk, rfl, hx⟩ := hrel
          have HX := Lib.hid hx
          clear hx
          by_cases hlt : k < s.size
          · have hbt := bat_at s k hlt
            have hid := ident_iff s k hlt
            have HB := Lib.hid hid
            have hno := named_no s k hlt
            have HNO := Lib.hid hno
            clear hbt hid hno
            have hcls := byte_cases ((s[k]'hlt).toNat : Int)
            have hk0 : ((k : Int) == 0) = true ∨ ((k : Int) == 0) = false := by cases ((k : Int) == 0) <;> simp
            rcases hcls with ⟨⟨c1, c2⟩, c3⟩ | ⟨⟨c1, c2⟩, c3⟩ | ⟨⟨c1, c2⟩, c3⟩ | ⟨⟨c1, c2⟩, c3⟩ | ⟨⟨c1, c2, c4⟩, c3⟩ | ⟨⟨c1, c2⟩, c3⟩ | ⟨⟨c1, c2, c4⟩, c3⟩ | ⟨⟨c1, c2⟩, c3⟩ | ⟨⟨c1, c4, c5⟩, c3⟩ <;> rcases hk0 with hk0 | hk0
            all_goals
              go_wp2
              first
                | (go_round
                   case rel => exact ⟨k + 1, by omega, by go_num, fun j hj => by
                     rcases Nat.lt_succ_iff_lt_or_eq.1 hj with h | rfl
                     · exact HX.out j h
                     · exact HB.out.2 (by simp at hk0 c3 ⊢; omega)⟩
                   case measure => simp [intOf]; omega)
                | (go_ret
                   exact ⟨by rw [HNO.out (Bool.eq_false_iff.2 (fun h => by have := HB.out.1 h; simp at hk0 c3; omega))]; rfl, hb2⟩)
          · have HF : Hid (namedB s = true) := by
              obtain rfl : k = s.size := by omega
              show namedB s = true
              simp only [namedB, HS.out, HK.out, Bool.and_eq_true, decide_eq_true_eq, all_range]
              exact ⟨⟨⟨rfl, h32⟩, trivial⟩, HX.out⟩
            go_wp2
            go_ret
            exact ⟨by rw [HF.out]; rfl, hb2⟩
    · have HF : Hid (namedB s = false) := by show namedB s = false; simp [namedB, h32]
      go_enter Try.func141, Try.ntmps141
      go_wp2_with fail
      go_ret
      exact ⟨by rw [HF.out]; rfl, Below.refl _ _⟩
end Go.Proofs.Ytmaepljmefdhkaa
