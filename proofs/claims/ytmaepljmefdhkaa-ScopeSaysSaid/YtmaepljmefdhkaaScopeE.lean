import Derived.Test.YtmaepljmefdhkaaScopeD
import Derived.Deep.RegionHeld3
import Derived.Deep.RegionLawGrows
namespace Go.Proofs.Ytmaepljmefdhkaa
open Go.RowKit Go.Maps
set_option maxHeartbeats 1000000
set_option maxRecDepth 100000

def meanL (ms : List Mean) : List Value := ms.flatMap fun m => [.int .i64 m.1, .int .i64 m.2]
theorem meanL_len (ms : List Mean) : (meanL ms).length = ms.length * 2 := by
  induction ms with
  | nil => rfl
  | cons m ms ih => simp only [meanL, List.flatMap_cons, List.length_append, List.length_cons] at ih ⊢; rw [ih]; simp; omega
theorem meanL_get : ∀ (ms : List Mean) (j : Nat) (u : Value), (meanL ms)[j]? = some u → ∃ i, i < ms.length ∧ ((j = i * 2 ∧ u = .int .i64 (mi ms i).1) ∨ (j = i * 2 + 1 ∧ u = .int .i64 (mi ms i).2))
  | [], j, u, h => by simp [meanL] at h
  | m :: ms, 0, u, h => ⟨0, by simp, Or.inl ⟨rfl, by simpa [meanL, mi] using h.symm⟩⟩
  | m :: ms, 1, u, h => ⟨0, by simp, Or.inr ⟨rfl, by simpa [meanL, mi] using h.symm⟩⟩
  | m :: ms, j + 2, u, h => by
    have h' : (meanL ms)[j]? = some u := by simpa [meanL] using h
    obtain ⟨i, hi, hc⟩ := meanL_get ms j u h'
    refine ⟨i + 1, by simp; omega, ?_⟩
    rcases hc with ⟨rfl, rfl⟩ | ⟨rfl, rfl⟩
    · exact Or.inl ⟨by omega, by simp [mi]⟩
    · exact Or.inr ⟨by omega, by simp [mi]⟩
theorem meanL_at (ms : List Mean) : ∀ i, i < ms.length → (meanL ms)[i * 2]? = some (.int .i64 (mi ms i).1) ∧ (meanL ms)[i * 2 + 1]? = some (.int .i64 (mi ms i).2) := by
  induction ms with
  | nil => intro i hi; simp at hi
  | cons m ms ih =>
    intro i hi
    cases i with
    | zero => simp [meanL, mi]
    | succ i =>
      have := ih i (by simpa using hi)
      have e1 : (i + 1) * 2 = i * 2 + 2 := by omega
      rw [e1]
      simpa [meanL, mi] using this
theorem meanL_snoc (ms : List Mean) (m : Mean) : meanL (ms ++ [m]) = meanL ms ++ [.int .i64 m.1, .int .i64 m.2] := by simp [meanL]
theorem meanL_one (ms : List Mean) : ∀ u ∈ meanL ms, u.oneCell' = true := fun u hu => by
  obtain ⟨m, _, h⟩ := List.mem_flatMap.1 hu
  simp only [List.mem_cons, List.not_mem_nil, or_false] at h
  rcases h with rfl | rfl <;> rfl
theorem info110 : (Try.prog.info? 110).map (fun i => (i.zero, i.size, i.bytes)) = some (some (.agg #[.int .i64 0, .int .i64 0]), 2, 16) := by kernel_rfl
theorem zero111 (w : World) : (zeroValue 111).run Try.prog w = .ok (.slice none 0 0) w := by kernel_rfl

section
variable {C : Ctx} {w w' : World} {G : Nat → Nat} {st : St}
theorem names_look {nm : Nat} {f : List UInt8 → List Mean} (h : NamesRep w G nm f) (s : ByteArray) (hs : s.size ≤ maxLen) :
    ∃ v, (Instr.lookup 112 (.map (some nm)) (.string s) false).run Try.prog w = .ok v w ∧ ((f s.data.toList = [] ∧ v = .slice none 0 0) ∨ (f s.data.toList ≠ [] ∧ MeanAt w G v (f s.data.toList))) := by
  obtain ⟨D, hD, _, hn⟩ := h
  obtain ⟨v, ps, hrun, hv⟩ := hD.lookup law9 Try.underlying112 (zero111 w) (zd := .held (.slice none 0 0)) (zp := []) rfl (WideMaps.keyOf_string_mk Try.underlying9 hs)
  have hv' : DataW.held v = D.atKey (.string s.data.toList) (.held (.slice none 0 0)) := by
    simp only [RV, Option.some.injEq, Prod.mk.injEq] at hv
    exact hv.1
  refine ⟨v, hrun, ?_⟩
  rcases hn s.data.toList with ⟨h1, h2⟩ | ⟨h1, v', h2, h3⟩
  · rw [atKey_of_not_has h2] at hv'
    cases hv'
    exact Or.inl ⟨h1, rfl⟩
  · rw [h2] at hv'
    cases hv'
    exact Or.inr ⟨h1, h3⟩
/-- The same in every world where the map lies so. -/
theorem names_look_all {nm : Nat} {f : List UInt8 → List Mean} (h : NamesRep w G nm f) (s : ByteArray) (hs : s.size ≤ maxLen) :
    ∃ v, (∀ w', w'.heap[nm]? = w.heap[nm]? → (Instr.lookup 112 (.map (some nm)) (.string s) false).run Try.prog w' = .ok v w') ∧ ((f s.data.toList = [] ∧ v = .slice none 0 0) ∨ (f s.data.toList ≠ [] ∧ MeanAt w G v (f s.data.toList))) := by
  obtain ⟨D, hD, _, hn⟩ := h
  have look : ∀ w', w'.heap[nm]? = w.heap[nm]? → ∃ v, (Instr.lookup 112 (.map (some nm)) (.string s) false).run Try.prog w' = .ok v w' ∧ DataW.held v = D.atKey (.string s.data.toList) (.held (.slice none 0 0)) := fun w' hw' => by
    obtain ⟨v, ps, hrun, hv⟩ := (ownsMap_of_block hD hw').lookup law9 Try.underlying112 (zero111 w') (zd := .held (.slice none 0 0)) (zp := []) rfl (WideMaps.keyOf_string_mk Try.underlying9 hs)
    refine ⟨v, hrun, ?_⟩
    simp only [RV, Option.some.injEq, Prod.mk.injEq] at hv
    exact hv.1
  rcases hn s.data.toList with ⟨h1, h2⟩ | ⟨h1, v', h2, h3⟩
  · refine ⟨.slice none 0 0, fun w' hw' => ?_, Or.inl ⟨h1, rfl⟩⟩
    obtain ⟨v, hrun, hv⟩ := look w' hw'
    rw [atKey_of_not_has h2] at hv
    cases hv
    exact hrun
  · refine ⟨v', fun w' hw' => ?_, Or.inr ⟨h1, h3⟩⟩
    obtain ⟨v, hrun, hv⟩ := look w' hw'
    rw [h2] at hv
    cases hv
    exact hrun
theorem names_size {n : Nat} {D : DataW Value} {f : List UInt8 → List Mean} (hD : w.ownsMap Try.prog 9 RV n (Maps.size D) D) (h1 : ∀ kl, Maps.has D kl = true → ∃ s, kl = .string s ∧ f s ≠ []) {l : List Nd} (hk : ∀ s, f s ≠ [] → s ∈ knownL l) : Maps.size D ≤ l.length + 2 := by
  obtain ⟨es, e, hp, hkl⟩ := hD.entries law9
  have := size_le_keys e hp hkl ((knownL l).map Lit.string) (fun kl hkl => by
    obtain ⟨s, rfl, hs⟩ := h1 kl hkl
    exact List.mem_map.2 ⟨s, hk s hs, rfl⟩)
  simpa [knownL] using this

def setName (st : St) (s : List UInt8) (ms : List Mean) : St := { st with names := fun t => if t = s then ms else st.names t }
/-- A name means something more: a new row of meanings, and the map leads to it. -/
theorem Rep.declared (h : Rep C w G st) {B : Nat} {v : Value} {ms : List Mean} (hms : ms ≠ []) (hB : ∀ k, G k ≠ 0 → k < B) (hB0 : C.w0.heap.size ≤ B) (hown : w.ownsRow B 110 2 v ms.length (meanL ms)) (s : ByteArray) (hs : s.size ≤ maxLen) (hk : s.data.toList ∈ knownL C.l) :
    ∃ w2, (Instr.mapUpdate 112 (.map (some C.nm)) (.string s) v).run Try.prog w = .ok () w2 ∧ ∃ G', Rep C w2 G' (setName st s.data.toList ms) ∧ (∀ k, k < B → G' k = G k) ∧ w.grownBy w2 (some C.nm) := by
  obtain ⟨D, hD, hn1, hn2⟩ := h.names
  have hsz := names_size hD hn1 h.known
  have hbig := h.nodes.size
  obtain ⟨w2, hrun, ho, hg⟩ := hD.update law9 Try.underlying112 (by unfold maxLen; unfold big at hbig; omega) (val := v) (d := .held v) (ps := []) (WideMaps.keyOf_string_mk Try.underlying9 hs) rfl
  obtain ⟨g, cap, cur, rfl, hg1, hg2, hg3, hg4, hg5, hg6⟩ : ∃ g cap cur, v = .slice (some ⟨g, 0, none⟩) ms.length cap ∧ B ≤ g ∧ w.heap[g]? = some (.cells cur 110 (0, 0)) ∧ ms.length ≤ cap ∧ cap ≤ maxLen ∧ cur.size = cap * 2 ∧ cur.toList.take (ms.length * 2) = meanL ms := by
    rcases hown.2 with ⟨_, h0⟩ | h0
    · exact absurd (List.eq_nil_of_length_eq_zero h0) hms
    · exact h0
  have hglt : g < w.heap.size := (Array.getElem?_eq_some_iff.1 hg2).1
  have hG0 : G g = 0 := by
    rcases Nat.eq_zero_or_pos (G g) with e | e
    · exact e
    · have := hB g (by omega); omega
  have gn := h.gn
  have hgn : g ≠ C.nm := fun e => by subst e; omega
  have kk : ∀ k n, G k = n → n ≠ 2 → n ≠ 0 → w2.heap[k]? = w.heap[k]? := fun k n e hn h0 => hg.block k (h.own k (by omega)).2 (fun e' => by cases e'; omega)
  have hG' : ∀ k, G k ≠ 0 → (if k = g then 7 else G k) = G k := fun k hk => by
    rw [if_neg (fun e => by subst e; exact hk hG0)]
  have hM : IsMap D := by
    obtain ⟨es, e, _⟩ := hD.entries law9
    exact ⟨es, e⟩
  obtain ⟨pv, r1, r2, r3⟩ := h.wkr
  refine ⟨w2, hrun, fun k => if k = g then 7 else G k, { h with
    below := ⟨hg.os.trans h.below.os, hg.tape.trans h.below.tape, hg.output.trans h.below.output, Nat.le_trans h.below.size hg.size, fun k hk => (hg.block k (Nat.lt_of_lt_of_le hk h.below.size) (fun e => by cases e; have := (h.own C.nm (by omega)).1; omega)).trans (h.below.block k hk)⟩
    own := fun k hk => ?_
    gw := (hG' _ (by rw [h.gw]; decide)).trans h.gw
    gn := (hG' _ (by rw [h.gn]; decide)).trans h.gn
    gs := (hG' _ (by rw [h.gs]; decide)).trans h.gs
    gr := (hG' _ (by rw [h.gr]; decide)).trans h.gr
    gf := (hG' _ (by rw [h.gf]; decide)).trans h.gf
    gff := (hG' _ (by rw [h.gff]; decide)).trans h.gff
    known := fun t ht => ?_
    first := h.first.of_block (kk _ _ h.gff (by omega) (by omega))
    wkr := ⟨pv, (kk _ _ h.gw (by omega) (by omega)).trans r1, ownsRow_of_block r2 (fun j hj => kk _ _ (r3 j hj) (by omega) (by omega)), fun j hj => (hG' j (by rw [r3 j hj]; decide)).trans (r3 j hj)⟩
    names := ⟨_, owns_exact ho, ?_, ?_⟩
    set := h.set.kept (kk _ _ h.gs (by omega) (by omega))
    ref := (kk _ _ h.gr (by omega) (by omega)).trans h.ref
    free := h.free.kept (kk _ _ h.gf (by omega) (by omega)) (fun k hk0 => kk k _ rfl (by omega) (by omega)) (fun k hk0 => hG' k (by omega)) }, fun k hk => if_neg (by omega), hg⟩
  · by_cases e : k = g
    · subst e
      exact ⟨by omega, Nat.lt_of_lt_of_le hglt hg.size⟩
    · rw [if_neg e] at hk
      exact ⟨(h.own k hk).1, Nat.lt_of_lt_of_le (h.own k hk).2 hg.size⟩
  · show t ∈ knownL C.l
    by_cases e : t = s.data.toList
    · rw [e]; exact hk
    · exact h.known t (by simpa [setName, e] using ht)
  · intro kl hkl
    by_cases e : kl = .string s.data.toList
    · exact ⟨_, e, by simp [setName, hms]⟩
    · rw [has_put_other e] at hkl
      obtain ⟨t, rfl, ht⟩ := hn1 kl hkl
      exact ⟨t, rfl, by
        show (if t = s.data.toList then ms else st.names t) ≠ []
        rw [if_neg (fun e' => e (by rw [e']))]; exact ht⟩
  · intro t
    unfold NameAt
    by_cases e : t = s.data.toList
    · subst e
      have e1 : (setName st s.data.toList ms).names s.data.toList = ms := by simp [setName]
      rw [e1]
      refine Or.inr ⟨hms, _, fun z => atKey_put_same hM (by trivial) _ _, g, 0, cap, rfl, hg3, if_pos rfl, fun i hi => ?_⟩
      have hrow : w2.heap[g]? = some (.cells cur 110 (0, 0)) := (hg.block g hglt (fun e => hgn (by cases e; rfl))).trans hg2
      have hlook : ∀ j u, j < ms.length * 2 → (meanL ms)[j]? = some u → w2.cell? ⟨g, j, none⟩ = some u := fun j u hj hu => by
        rw [cell_of_row w2 g j _ _ _ hrow]
        rw [← hg6, List.getElem?_take_of_lt hj] at hu
        simpa using hu
      have := meanL_at ms i hi
      simp only [Nat.zero_add]
      exact ⟨hlook _ _ (by omega) this.1, hlook _ _ (by omega) this.2⟩
    · have e1 : (setName st s.data.toList ms).names t = st.names t := by simp [setName, e]
      rw [e1, has_put_other (fun e' => e (by cases e'; rfl))]
      refine (hn2 t).imp id ?_
      rintro ⟨h1, v', h2, h3⟩
      exact ⟨h1, v', fun z => by rw [atKey_put_other (fun e' => e (by cases e'; rfl))]; exact h2 z, h3.kept (fun k hk => kk _ _ hk (by omega) (by omega)) (fun k hk => (hG' k (by rw [hk]; decide)).trans hk)⟩
end
end Go.Proofs.Ytmaepljmefdhkaa
