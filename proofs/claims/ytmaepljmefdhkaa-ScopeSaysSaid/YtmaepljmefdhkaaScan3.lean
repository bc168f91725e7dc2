import Derived.Test.YtmaepljmefdhkaaMem2
namespace Go.Proofs.Ytmaepljmefdhkaa
open Go.RowKit
set_option maxHeartbeats 1000000
set_option maxRecDepth 100000

def blankI (c : Int) : Bool := c == 9 || c == 10 || c == 13 || c == 32
theorem letter_any (c : Int) (w : World) : Calls Try.prog 125 #[.int .u8 c] w fun e w' => e = .returned (.bool (letterI c)) ∧ w = w' := by
  go_enter Try.func125, Try.ntmps125
  go_wp2
  all_goals (go_ret; refine ⟨ret_bool ?_, rfl⟩; simp [letterI]; omega)
theorem digit_any (c : Int) (w : World) : Calls Try.prog 127 #[.int .u8 c] w fun e w' => e = .returned (.bool (digitI c)) ∧ w = w' := by
  go_enter Try.func127, Try.ntmps127
  go_wp2
  all_goals (go_ret; refine ⟨ret_bool ?_, rfl⟩; simp [digitI]; omega)
theorem blank_any (c : Int) (w : World) : Calls Try.prog 82 #[.int .u8 c] w fun e w' => e = .returned (.bool (blankI c)) ∧ w = w' := by
  go_enter Try.func82, Try.ntmps82
  go_wp2
  all_goals (go_ret; refine ⟨?_, rfl⟩; simp [blankI, *])
theorem remark_any (c : Int) (w : World) : Calls Try.prog 84 #[.int .u8 c] w fun e w' => e = .returned (.bool (c != 10)) ∧ w = w' := by
  go_enter Try.func84, Try.ntmps84
  go_wp2
  go_ret
  exact ⟨rfl, rfl⟩
theorem wordly_any (c : Int) (w : World) : Calls Try.prog 170 #[.int .u8 c] w fun e w' => e = .returned (.bool (letterI c || digitI c)) ∧ w = w' := by
  cases h1 : letterI c
  all_goals
    go_enter Try.func170, Try.ntmps170
    go_wp2_with (first | (go_at_call 125; refine (letter_any _ _).mono ?_; rintro e w1 ⟨rfl, rfl⟩) | (go_at_call 127; refine (digit_any _ _).mono ?_; rintro e w1 ⟨rfl, rfl⟩))
    go_ret
    exact ⟨by simp [*], rfl⟩

/-! bytes -/
def bi (l : List UInt8) (i : Nat) : Int := ((l.getD i 0).toNat : Int)
def BytesAt (w : World) (A : Option Addr) (l : List UInt8) : Prop :=
  ∀ i, i < l.length → ∃ b o, A = some ⟨b, o, none⟩ ∧ w.cell? ⟨b, o + i, none⟩ = some (.int .u8 (bi l i))
theorem BytesAt.below {w w' : World} {A : Option Addr} {l : List UInt8} (h : BytesAt w A l) (hb : Below w.heap.size w w') : BytesAt w' A l := fun i hi => by
  obtain ⟨b, o, e, hc⟩ := h i hi
  exact ⟨b, o, e, cell_below hc hb⟩
theorem bi_range (l : List UInt8) (i : Nat) : 0 ≤ bi l i ∧ bi l i ≤ 255 := by
  unfold bi
  have := (l.getD i 0).toNat_lt
  omega
/-- How many bytes from the first on are such. -/
def runLen (p : Int → Bool) : List UInt8 → Nat
  | [] => 0
  | c :: l => if p (c.toNat : Int) then runLen p l + 1 else 0
theorem runLen_le (p : Int → Bool) : ∀ l : List UInt8, runLen p l ≤ l.length
  | [] => Nat.le_refl _
  | c :: l => by
    simp only [runLen, List.length_cons]
    have := runLen_le p l
    split <;> omega
theorem runLen_go {p : Int → Bool} : ∀ (l : List UInt8) (k : Nat), k ≤ l.length → (∀ j, j < k → p (bi l j) = true) → (k < l.length → p (bi l k) = false) → runLen p l = k
  | [], k, hk, _, _ => by simp at hk; subst hk; rfl
  | c :: l, 0, _, _, h => by
    have := h (by simp)
    simp only [bi, List.getD_cons_zero] at this
    simp [runLen, this]
  | c :: l, k + 1, hk, h1, h2 => by
    have h0 := h1 0 (by omega)
    simp only [bi, List.getD_cons_zero] at h0
    have := runLen_go (p := p) l k (by simpa using hk) (fun j hj => by have := h1 (j + 1) (by omega); simpa [bi] using this) (fun hj => by have := h2 (by simpa using hj); simpa [bi] using this)
    simp [runLen, h0, this]

/-- A function value that tells a byte's kind, and does nothing else. -/
structure Tells (f : Nat) (p : Int → Bool) : Prop where
  into : ∀ (args : Array Value) (w : World), (callFunc f args).run Try.prog w = .ok (.enter f args) w
  out : ∀ (c : Int) (w : World), Calls Try.prog f #[.int .u8 c] w fun e w' => e = .returned (.bool (p c)) ∧ w = w'
theorem tells84 : Tells 84 (fun c => c != 10) := ⟨fun args w => by simp [go_sem], fun c w => remark_any c w⟩
theorem tells170 : Tells 170 (fun c => letterI c || digitI c) := ⟨fun args w => by simp [go_sem], fun c w => wordly_any c w⟩
theorem tells127 : Tells 127 digitI := ⟨fun args w => by simp [go_sem], fun c w => digit_any c w⟩

theorem run_any (f : Nat) (p : Int → Bool) (hf : Tells f p) (A : Option Addr) (c : Nat) (l : List UInt8) (w : World) (hl : BytesAt w A l) (hm : l.length ≤ big) :
    Calls Try.prog 83 #[.slice A l.length c, .func (.func f) #[] #[]] w fun e w' => e = .returned (.int .i64 (runLen p l)) ∧ w = w' := by
  have hm' := big_le hm
  have hinto := hf.into
  have HF := Lib.hid hf.out
  clear hf
  go_enter Try.func83, Try.ntmps83
  go_wp2_with fail
  go_loopg [5] l.length (fun d i wr => ∃ k : Nat, i = .int .i64 k ∧ k + d = l.length ∧ (∀ j, j < k → p (bi l j) = true) ∧ w = wr)
  case atStart => exact ⟨0, rfl, by omega, fun j hj => by omega, rfl⟩
  case round =>
    obtain ⟨k, rfl, hkd, hx, rfl⟩ := hrel
    have HX := Lib.hid hx
    have HJ := Lib.hid hkd
    clear hx hkd
    rcases gk with _ | d
    · have hkl : k = l.length := by have := HJ.out; omega
      subst hkl
      have HR : Hid (runLen p l = l.length) := runLen_go l l.length (Nat.le_refl _) HX.out (fun h => by omega)
      clear hl
      go_wp2_with fail
      go_ret
      exact ⟨by rw [HR.out]; rfl, rfl⟩
    · have hkl : k < l.length := by have := HJ.out; omega
      obtain ⟨b, o, rfl, hc⟩ := hl k hkl
      clear hl
      cases hp : p (bi l k) with
      | true =>
        have HN : Hid (∀ j, j < k + 1 → p (bi l j) = true) := fun j hj => by
          rcases Nat.lt_succ_iff_lt_or_eq.1 hj with h | rfl
          · exact HX.out j h
          · exact hp
        go_wp2_with fail
        refine (HF.out _ _).mono ?_
        rintro e w1 ⟨rfl, rfl⟩
        go_wp2_with fail
        go_roundg d
        case measure => omega
        case rel => exact ⟨k + 1, by go_num, by have := HJ.out; omega, HN.out, rfl⟩
      | false =>
        have HR : Hid (runLen p l = k) := runLen_go l k (by omega) HX.out (fun _ => hp)
        go_wp2_with fail
        refine (HF.out _ _).mono ?_
        rintro e w1 ⟨rfl, rfl⟩
        go_wp2_with fail
        go_ret
        exact ⟨by rw [HR.out]; rfl, rfl⟩
end Go.Proofs.Ytmaepljmefdhkaa
