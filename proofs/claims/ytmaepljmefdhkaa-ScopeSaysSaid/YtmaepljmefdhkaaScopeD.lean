import Derived.Test.YtmaepljmefdhkaaScopeC
namespace Go.Proofs.Ytmaepljmefdhkaa
open Go.RowKit Go.Maps
set_option maxHeartbeats 1000000
set_option maxRecDepth 100000

/-- What Check has seen to, as far as the walker leans on it. -/
structure Wf (l : List Nd) : Prop where
  down : ∀ i, i < l.length → ∀ j, j < (nd l i).kids.length → 0 ≤ gi (nd l i).kids j ∧ gi (nd l i).kids j < (i : Int)
  one : ∀ i, i < l.length → (nd l i).kind = 24 ∨ (nd l i).kind = 25 ∨ (nd l i).kind = 33 ∨ (nd l i).kind = 20 → 1 ≤ (nd l i).kids.length
  two : ∀ i, i < l.length → (nd l i).kind = 43 → 2 ≤ (nd l i).kids.length

/-- The node of a place that is set. -/
def placeI (l : List Nd) : Nat → Nat → Nat
  | 0, i => i
  | f + 1, i => if (nd l i).kind = 24 ∨ (nd l i).kind = 25 then placeI l f (gi (nd l i).kids 0).toNat else i
def placeF (l : List Nd) (st : St) (i : Nat) : St :=
  if (nd l (placeI l (i + 1) i)).kind = 13 then { st with set := fun j => if j = (placeI l (i + 1) i : Nat) then true else st.set j } else st

section
variable {C : Ctx} {w w' : World} {G : Nat → Nat} {st : St}
theorem Rep.setput (h : Rep C w G st) {D : DataW Value} (hD : w.ownsMap Try.prog 3 unitElem C.sm (Maps.size D) D) (h1 : ∀ i, Maps.has D (.int .i64 i) = st.set i) (h2 : ∀ kl, Maps.has D kl = true → ∃ i : Nat, i < C.l.length ∧ kl = .int .i64 i)
    {i n : Nat} (hi : i < C.l.length) (ho : w'.ownsMap Try.prog 3 unitElem C.sm n (D.put (.int .i64 i) (.agg []))) (hg : w.grownBy w' (some C.sm)) :
    Rep C w' G { st with set := fun j => if j = (i : Nat) then true else st.set j } ∧ Stp G w G w' := by
  have hM : IsMap D := by
    obtain ⟨es, e, _⟩ := hD.entries law3
    exact ⟨es, e⟩
  have gs := h.gs
  have kk : ∀ k n, G k = n → n ≠ 3 → n ≠ 0 → w'.heap[k]? = w.heap[k]? := fun k n e hn h0 => hg.block k (h.own k (by omega)).2 (fun e' => by cases e'; omega)
  obtain ⟨pv, r1, r2, r3⟩ := h.wkr
  refine ⟨{ h with
    below := ⟨hg.os.trans h.below.os, hg.tape.trans h.below.tape, hg.output.trans h.below.output, Nat.le_trans h.below.size hg.size, fun k hk => (hg.block k (Nat.lt_of_lt_of_le hk h.below.size) (fun e => by cases e; have := (h.own C.sm (by omega)).1; omega)).trans (h.below.block k hk)⟩
    own := fun k hk => ⟨(h.own k hk).1, Nat.lt_of_lt_of_le (h.own k hk).2 hg.size⟩
    first := h.first.of_block (kk _ _ h.gff (by omega) (by omega))
    wkr := ⟨pv, (kk _ _ h.gw (by omega) (by omega)).trans r1, ownsRow_of_block r2 (fun j hj => kk _ _ (r3 j hj) (by omega) (by omega)), r3⟩
    names := h.names.kept (kk _ _ h.gn (by omega) (by omega)) (fun k hk => kk _ _ hk (by omega) (by omega)) (fun _ hk => hk)
    set := ⟨_, owns_exact ho, ?_, ?_⟩
    ref := (kk _ _ h.gr (by omega) (by omega)).trans h.ref
    free := h.free.kept (kk _ _ h.gf (by omega) (by omega)) (fun k hk0 => kk k _ rfl (by omega) (by omega)) (fun _ _ => rfl) }, ?_⟩
  · intro j
    by_cases e : j = (i : Int)
    · subst e
      show _ = (if (i : Int) = i then true else st.set i)
      rw [if_pos rfl]
      exact has_put_same hM (by trivial) _
    · show _ = (if j = (i : Int) then true else st.set j)
      rw [if_neg e, has_put_other (fun e' => e (by cases e'; rfl))]
      exact h1 j
  · intro kl hkl
    by_cases e : kl = .int .i64 i
    · exact ⟨i, hi, e⟩
    · rw [has_put_other e] at hkl
      exact h2 kl hkl
  · exact ⟨hg.os, hg.tape, hg.output, hg.size, fun k hk h0 => hg.block k hk (fun e => by cases e; omega), fun _ _ => rfl⟩
theorem set_size {D : DataW Value} {sm N n : Nat} (hD : w.ownsMap Try.prog 3 unitElem sm n D) (h2 : ∀ kl, Maps.has D kl = true → ∃ i : Nat, i < N ∧ kl = .int .i64 i) : Maps.size D ≤ N := by
  obtain ⟨es, e, hp, hk⟩ := hD.entries law3
  have := size_le_keys e hp hk ((List.range N).map fun i => Lit.int .i64 (i : Nat)) (fun kl hkl => by
    obtain ⟨i, hi, rfl⟩ := h2 kl hkl
    exact List.mem_map.2 ⟨i, by simpa using hi, rfl⟩)
  simpa using this
end
theorem wf_nat {i : Nat} (hi : i ≤ big) : (Lit.int .i64 (i : Int)).wf = true := WalkArith.wf_i64 (by unfold big at hi; omega)

theorem placeI_lt {l : List Nd} (hw : Wf l) : ∀ (f i : Nat), i < l.length → placeI l f i < l.length
  | 0, i, hi => hi
  | f + 1, i, hi => by
    unfold placeI
    split
    · rename_i hk
      have h1 := hw.one i hi (by rcases hk with h | h <;> simp [h])
      have := hw.down i hi 0 h1
      exact placeI_lt hw f _ (by omega)
    · exact hi

theorem place_any {C : Ctx} {w : World} {G : Nat → Nat} {st : St} (hw : Wf C.l) (h : Rep C w G st) (i : Nat) (hi : i < C.l.length) :
    Calls Try.prog 149 #[.pointer (some ⟨C.wk, 0, none⟩), .int .i64 i] w fun en w' => en = .returned (.tuple #[]) ∧ Rep C w' G (placeF C.l st i) ∧ Stp G w G w' := by
  obtain ⟨pv, hc, hf, hrow, hpr, hpb⟩ := h.cells
  have c6 : w.cell? ⟨C.wk, 6, none⟩ = some (.map (some C.sm)) := hc 6
  have c00 : w.cell? ⟨C.wk, 0, none⟩ = some (.slice C.LA C.l.length C.lc) := hc 0
  have hsz := h.nodes.size
  have hbig := big_le hsz
  have hN := h.nodesAt
  have H := Lib.hid h
  clear h hc hf hrow hpr hpb
  go_enter Try.func149, Try.ntmps149
  go_wp2_with fail
  go_loop [1] (fun v => ∃ (k f : Nat), v = .int .i64 k ∧ k < f ∧ k < C.l.length ∧ placeI C.l (i + 1) i = placeI C.l f k) (fun v => (intOf v).toNat)
  case atStart => exact ⟨i, i + 1, rfl, by omega, hi, rfl⟩
  case round =>
    obtain ⟨k, f, rfl, hkf, hk, hp⟩ := hrel
    obtain ⟨f, rfl⟩ : ∃ g, f = g + 1 := ⟨f - 1, by omega⟩
    obtain ⟨b, o, hA, hn⟩ := hN.node k hk
    have c0 : w.cell? ⟨C.wk, 0, none⟩ = some (.slice (some ⟨b, o, none⟩) C.l.length C.lc) := hA ▸ c00
    have n0 := hn.kind
    have n2 := hn.kids
    have hP := Lib.hid hp
    have hk' : (k : Int) < C.l.length := by omega
    have HK := Lib.hid hn
    clear hp hn c00 hN
    by_cases hkind : (nd C.l k).kind = 24 ∨ (nd C.l k).kind = 25
    · have h1 := hw.one k hk (by rcases hkind with h | h <;> simp [h])
      have hd := hw.down k hk 0 h1
      obtain ⟨m, hm⟩ : ∃ m : Nat, gi (nd C.l k).kids 0 = m := ⟨_, (Int.toNat_of_nonneg hd.1).symm⟩
      obtain ⟨b2, o2, hA2, hx⟩ := HK.out.row 0 h1
      rw [Nat.add_zero, hm] at hx
      rw [hA2] at n2
      have HE : Hid (placeI C.l (i + 1) i = placeI C.l f m) := hP.out.trans (by show placeI C.l (f + 1) k = _; rw [placeI, if_pos hkind, hm, Int.toNat_natCast])
      have hkk : 0 < (nd C.l k).kids.length := h1
      rw [hm] at hd
      cases e1 : ((nd C.l k).kind == 24) with
      | true =>
        clear hkind
        go_wp2_with fail
        go_round
        case rel => exact ⟨m, f, rfl, by omega, by omega, HE.out⟩
        case measure => simp [intOf]; omega
      | false =>
        have e2 : ((nd C.l k).kind == 25) = true := by
          rcases hkind with h | h
          · rw [h] at e1; simp at e1
          · rw [h]; rfl
        clear hkind
        go_wp2_with fail
        go_round
        case rel => exact ⟨m, f, rfl, by omega, by omega, HE.out⟩
        case measure => simp [intOf]; omega
    · have HE : Hid (placeI C.l (i + 1) i = k) := hP.out.trans (by show placeI C.l (f + 1) k = _; rw [placeI, if_neg hkind])
      have e1 : ((nd C.l k).kind == 24) = false := by simpa using fun h => hkind (Or.inl h)
      have e2 : ((nd C.l k).kind == 25) = false := by simpa using fun h => hkind (Or.inr h)
      clear hkind
      obtain ⟨D, hD, hs1, hs2⟩ := H.out.set
      have hsl := set_size hD hs2
      cases e3 : ((nd C.l k).kind == 13) with
      | true =>
        have HF : Hid (placeF C.l st i = { st with set := fun j => if j = (k : Nat) then true else st.set j }) := by show placeF C.l st i = _; rw [placeF, HE.out, if_pos (by simpa using e3)]
        have HD := Lib.hid hD
        have H1 := Lib.hid hs1
        have H2 := Lib.hid hs2
        clear hD hs1 hs2
        go_wp2_with (at_mapUpdate; refine wpList_mapUpdate_own _ rfl _ _ _ 113 rfl 3 205 law3 Try.underlying113 unitElem _ _ _ rfl HD.out (by unfold maxLen; unfold big at hsz; omega) _ _ _ rfl rfl (keyOf_int_mk Try.underlying3 (wf_nat (by unfold big at *; omega))) _ [] unitElem_mk ?_; intro w1 hown1 hgrow1)
        go_end0
        refine ⟨rfl, ?_⟩
        rw [HF.out]
        exact H.out.setput HD.out H1.out H2.out hk hown1 hgrow1
      | false =>
        have HF : Hid (placeF C.l st i = st) := by show placeF C.l st i = _; rw [placeF, HE.out, if_neg (by simpa using e3)]
        clear hD hs1 hs2
        go_wp2_with fail
        go_end0
        refine ⟨rfl, ?_⟩
        rw [HF.out]
        exact ⟨H.out, Stp.refl _ _⟩
end Go.Proofs.Ytmaepljmefdhkaa
