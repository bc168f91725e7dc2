import Derived.Test.YtmaepljmefdhkaaScopeB
namespace Go.Proofs.Ytmaepljmefdhkaa
open Go.RowKit Go.Maps
set_option maxHeartbeats 1000000
set_option maxRecDepth 100000

def wrongF (l : List Nd) (st : St) (i : Nat) (e : Int) : St := if st.code = 0 then { st with at_ := (nd l i).at_, code := e } else st

theorem wrong_any {C : Ctx} {w : World} {G : Nat → Nat} {st : St} (h : Rep C w G st) (i : Nat) (hi : i < C.l.length) (e : Int) :
    Calls Try.prog 191 #[.pointer (some ⟨C.wk, 0, none⟩), .int .i64 i, .int .i64 e] w fun en w' => en = .returned (.tuple #[]) ∧ Rep C w' G (wrongF C.l st i e) ∧ Stp G w G w' := by
  obtain ⟨pv, hc, hf, hrow, hpr, hpb⟩ := h.cells
  obtain ⟨b, o, hA, hn⟩ := h.nodesAt.node i hi
  have c0 : w.cell? ⟨C.wk, 0, none⟩ = some (.slice (some ⟨b, o, none⟩) C.l.length C.lc) := hA ▸ hc 0
  have c10 : w.cell? ⟨C.wk, 10, none⟩ = some (.int .i64 st.code) := hc 10
  have c9 : w.cell? ⟨C.wk, 9, none⟩ = some (.int .i64 st.at_) := hc 9
  have y9 := hf 9
  have y10 := hf 10
  have n1 := hn.at_
  have hsz := h.nodes.size
  have hbig := big_le hsz
  have H := Lib.hid h
  have HR := Lib.hid hrow
  have HP := Lib.hid hpr
  have HB := Lib.hid hpb
  clear h hc hf hrow hn hpr hpb hsz
  cases e1 : (st.code == 0) with
  | true =>
    have HE : Hid (wrongF C.l st i e = { st with at_ := (nd C.l i).at_, code := e }) := by show wrongF C.l st i e = _; rw [wrongF, if_pos (by simpa using e1)]
    go_enter Try.func191, Try.ntmps191
    go_wp2_with fail
    go_end0
    refine ⟨rfl, ?_⟩
    rw [HE.out]
    exact H.out.wkset (by simp) rfl rfl rfl (fun k hk => by rw [Below.heap_setCell _ _ _ _ hk, Below.heap_setCell _ _ _ _ hk]) (by rw [heap_setCell_same _ _ _ _ _ _ (heap_setCell_same _ _ _ _ _ _ HR.out)]; rfl) HP.out HB.out rfl rfl rfl rfl
  | false =>
    have HE : Hid (wrongF C.l st i e = st) := by show wrongF C.l st i e = _; rw [wrongF, if_neg (by simpa using e1)]
    go_enter Try.func191, Try.ntmps191
    go_wp2_with fail
    go_end0
    refine ⟨rfl, ?_⟩
    rw [HE.out]
    exact ⟨H.out, Stp.refl _ _⟩

def insideB (first : List Int) (decl prog : Int) : Bool := decide (gi first prog.toNat ≤ decl) && decide (decl ≤ prog)
theorem inside_any {C : Ctx} {w : World} {G : Nat → Nat} {st : St} (h : Rep C w G st) (decl : Int) (p : Nat) (hp : p < C.l.length) :
    Calls Try.prog 192 #[.pointer (some ⟨C.wk, 0, none⟩), .int .i64 decl, .int .i64 p] w fun en w' => en = .returned (.bool (insideB C.first decl p)) ∧ w = w' := by
  obtain ⟨pv, hc, hf, -, -, -⟩ := h.cells
  have c1 : w.cell? ⟨C.wk, 1, none⟩ = some (.slice (some ⟨C.ffb, 0, none⟩) C.l.length C.fc) := hc 1
  obtain ⟨b, o, hA, hx⟩ := h.first p (by rw [h.flen]; exact hp)
  obtain ⟨rfl, rfl⟩ : C.ffb = b ∧ 0 = o := by simpa using hA
  have hbig := big_le h.nodes.size
  have hp' : (p : Int) < C.l.length := by omega
  rw [Nat.zero_add] at hx
  clear h hc hf hA hp
  cases e1 : decide (gi C.first p ≤ decl) with
  | true =>
    have HE : Hid (insideB C.first decl p = decide (decl ≤ (p : Int))) := by show insideB C.first decl p = _; simp [insideB, e1]
    have e1' : gi C.first p ≤ decl := of_decide_eq_true e1
    clear e1
    go_enter Try.func192, Try.ntmps192
    go_wp2_with fail
    go_ret
    exact ⟨by rw [HE.out]; rfl, rfl⟩
  | false =>
    have HE : Hid (insideB C.first decl p = false) := by show insideB C.first decl p = _; simp [insideB, e1]
    have e1' : ¬ gi C.first p ≤ decl := of_decide_eq_false e1
    clear e1
    go_enter Try.func192, Try.ntmps192
    go_wp2_with fail
    go_ret
    exact ⟨by rw [HE.out]; rfl, rfl⟩

theorem index_any (A : Option Addr) (c : Nat) (l : List Int) (n : Int) (w : World) (hm : l.length ≤ 1099511627776) (hl : IntsAt w A l) :
    Calls Try.prog 236 #[.slice A l.length c, .int .i64 n] w fun e w' => (∃ r : Int, e = .returned (.int .i64 r) ∧ decide (0 ≤ r) = hasB l n) ∧ w = w' := by
  have hm' : (l.length : Int) ≤ 1099511627776 := by omega
  go_enter Try.func236, Try.ntmps236
  go_wp2
  go_loop [8] (fun i => ∃ k : Nat, k ≤ l.length ∧ i = .int .i64 k ∧ ∀ j, j < k → gi l j ≠ n) (fun i => l.length - (intOf i).toNat)
  case atStart => exact ⟨0, by omega, rfl, by intro j hj; omega⟩
  case round =>
    obtain ⟨k, hk, rfl, hne⟩ := hrel
    have HN := Lib.hid hne
    clear hne
    by_cases hlt : k < l.length
    · obtain ⟨b, o, rfl, hx⟩ := hl k hlt
      clear hl
      cases e1 : (n == gi l k) with
      | true =>
        go_wp2
        go_ret
        exact ⟨⟨_, rfl, by rw [hasB_yes hlt (by rw [BEq.comm]; exact e1)]; simp⟩, rfl⟩
      | false =>
        go_wp2
        go_round
        case rel => exact ⟨k + 1, by omega, by go_num, fun j hj => by
            rcases Nat.lt_succ_iff_lt_or_eq.1 hj with h | rfl
            · exact HN.out j h
            · intro e; rw [e] at e1; simp at e1⟩
        case measure => simp [intOf]; omega
    · clear hl
      go_wp2
      go_ret
      exact ⟨⟨_, rfl, by rw [hasB_no (fun j hj => HN.out j (by omega))]; rfl⟩, rfl⟩
theorem contains_any (A : Option Addr) (c : Nat) (l : List Int) (n : Int) (w : World) (hm : l.length ≤ 1099511627776) (hl : IntsAt w A l) :
    Calls Try.prog 193 #[.slice A l.length c, .int .i64 n] w fun e w' => e = .returned (.bool (hasB l n)) ∧ w = w' := by
  go_enter Try.func193, Try.ntmps193
  go_wp2_with (go_at_call 236; refine (index_any A c l n _ hm hl).mono ?_; rintro e w1 ⟨⟨r, rfl, hr⟩, rfl⟩)
  go_ret
  exact ⟨by rw [← hr]; rfl, rfl⟩
theorem clip_any (b o n c : Nat) (w : World) (hc : n ≤ c) (hm : n ≤ 1099511627776) :
    Calls Try.prog 196 #[.slice (some ⟨b, o, none⟩) n c] w fun e w' => e = .returned (.slice (some ⟨b, o, none⟩) n n) ∧ w = w' := by
  have hm' : (n : Int) ≤ 1099511627776 := by omega
  go_enter Try.func196, Try.ntmps196
  go_wp2_with fail
  go_ret
  exact ⟨by simp, rfl⟩
theorem clip_nil (w : World) : Calls Try.prog 196 #[.slice none 0 0] w fun e w' => e = .returned (.slice none 0 0) ∧ w = w' := by
  go_enter Try.func196, Try.ntmps196
  go_wp2_with fail
  go_ret
  exact ⟨rfl, rfl⟩
end Go.Proofs.Ytmaepljmefdhkaa
