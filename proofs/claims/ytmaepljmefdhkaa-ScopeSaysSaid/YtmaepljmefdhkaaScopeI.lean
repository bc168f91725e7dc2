import Derived.Test.YtmaepljmefdhkaaScopeG
namespace Go.Proofs.Ytmaepljmefdhkaa
open Go.RowKit Go.Maps
set_option maxHeartbeats 1000000
set_option maxRecDepth 100000

/-- What a name means behind a block: what the block declared is out of scope. -/
def stripM (b : Int) (ms : List Mean) : List Mean := if ms ≠ [] ∧ (lastM ms).2 = b then ms.dropLast else ms
def enterF (st : St) : St := { st with blocks := wrap64 (st.blocks + 1), block := wrap64 (st.blocks + 1) }
def leaveF (st : St) (about : Int) : St := { st with names := fun s => stripM st.block (st.names s), block := about }
/-- While the map is ranged over: what has been handed out is stripped. -/
def mixN (b : Int) (f : List UInt8 → List Mean) (left : Lit → Bool) (s : List UInt8) : List Mean := if left (.string s) then f s else stripM b (f s)

theorem ownsMap_inj {H : Type} {P : Program} {k : TypeId} {R : Value → Option (DataW H × List MemPlace)} {w : World} {b n n' : Nat} {D D' : DataW H} (h : w.ownsMap P k R b n D) (h' : w.ownsMap P k R b n' D') : D = D' := by
  obtain ⟨es, clock, hb, _, _, hD⟩ := h
  obtain ⟨es', clock', hb', _, _, hD'⟩ := h'
  rw [hb] at hb'
  cases hb'
  rw [hD, hD']

section
variable {C : Ctx} {w w' : World} {G : Nat → Nat} {st : St}
/-- The names' map alone has turned. -/
theorem Rep.renamed (h : Rep C w G st) {n : Nat} {D : DataW Value} {f : List UInt8 → List Mean} (ho : w'.ownsMap Try.prog 9 RV C.nm n D) (hg : w.grownBy w' (some C.nm)) (hn : NamesIn w G D f) (hk : ∀ s, f s ≠ [] → s ∈ knownL C.l) :
    Rep C w' G { st with names := f } ∧ Stp G w G w' := by
  have gn := h.gn
  have kk : ∀ k n, G k = n → n ≠ 2 → n ≠ 0 → w'.heap[k]? = w.heap[k]? := fun k n e hn h0 => hg.block k (h.own k (by omega)).2 (fun e' => by cases e'; omega)
  obtain ⟨pv, r1, r2, r3⟩ := h.wkr
  refine ⟨{ h with
    below := ⟨hg.os.trans h.below.os, hg.tape.trans h.below.tape, hg.output.trans h.below.output, Nat.le_trans h.below.size hg.size, fun k hk => (hg.block k (Nat.lt_of_lt_of_le hk h.below.size) (fun e => by cases e; have := (h.own C.nm (by omega)).1; omega)).trans (h.below.block k hk)⟩
    own := fun k hk => ⟨(h.own k hk).1, Nat.lt_of_lt_of_le (h.own k hk).2 hg.size⟩
    first := h.first.of_block (kk _ _ h.gff (by omega) (by omega))
    known := hk
    wkr := ⟨pv, (kk _ _ h.gw (by omega) (by omega)).trans r1, ownsRow_of_block r2 (fun j hj => kk _ _ (r3 j hj) (by omega) (by omega)), r3⟩
    names := ⟨D, owns_exact ho, hn.kept (fun k hk => kk _ _ hk (by omega) (by omega)) (fun _ hk => hk)⟩
    set := h.set.kept (kk _ _ h.gs (by omega) (by omega))
    ref := (kk _ _ h.gr (by omega) (by omega)).trans h.ref
    free := h.free.kept (kk _ _ h.gf (by omega) (by omega)) (fun k hk0 => kk k _ rfl (by omega) (by omega)) (fun _ _ => rfl) }, ?_⟩
  exact ⟨hg.os, hg.tape, hg.output, hg.size, fun k hk h0 => hg.block k hk (fun e => by cases e; omega), fun _ _ => rfl⟩
theorem lit_same {s t : List UInt8} : (Lit.string t).sameKey (.string s) = decide (t = s) := by
  by_cases e : t = s
  · subst e; rw [WideAt.sameKey_self (by trivial)]; simp
  · rw [sameKey_ne (fun e' => e (by cases e'; rfl))]; simp [e]
theorem mixN_other {b : Int} {f : List UInt8 → List Mean} {left : Lit → Bool} {s t : List UInt8} (h : t ≠ s) : mixN b f (fun z => left z && !z.sameKey (.string s)) t = mixN b f left t := by
  unfold mixN
  simp only [lit_same]
  simp [h]
theorem mixN_same {b : Int} {f : List UInt8 → List Mean} {left : Lit → Bool} {s : List UInt8} : mixN b f (fun z => left z && !z.sameKey (.string s)) s = stripM b (f s) := by
  unfold mixN
  simp only [lit_same]
  simp
theorem NamesIn.congr {D : DataW Value} {f g : List UInt8 → List Mean} (h : NamesIn w G D f) (e : ∀ s, f s = g s) : NamesIn w G D g := by
  have : f = g := funext e
  rw [← this]; exact h
/-- One key has turned: it means less now. -/
theorem NamesIn.put {D : DataW Value} {f g : List UInt8 → List Mean} (h : NamesIn w G D f) (hM : IsMap D) {s : List UInt8} {v : Value} (hv : MeanAt w G v (g s)) (hg : g s ≠ []) (he : ∀ t, t ≠ s → f t = g t) : NamesIn w G (D.put (.string s) (.held v)) g := by
  refine ⟨fun kl hkl => ?_, fun t => ?_⟩
  · by_cases e : kl = .string s
    · exact ⟨s, e, hg⟩
    · rw [has_put_other e] at hkl
      obtain ⟨t, rfl, ht⟩ := h.1 kl hkl
      exact ⟨t, rfl, by rw [← he t (fun e' => e (by rw [e']))]; exact ht⟩
  · by_cases e : t = s
    · subst e
      exact Or.inr ⟨hg, v, fun z => atKey_put_same hM (by trivial) _ _, hv⟩
    · have e1 : (Lit.string t) ≠ .string s := fun e' => e (by cases e'; rfl)
      unfold NameAt
      rw [has_put_other e1, ← he t e]
      exact (h.2 t).imp id (fun ⟨h1, v', h2, h3⟩ => ⟨h1, v', fun z => by rw [atKey_put_other e1]; exact h2 z, h3⟩)
theorem NamesIn.del {D : DataW Value} {f g : List UInt8 → List Mean} (h : NamesIn w G D f) {s : List UInt8} (hg : g s = []) (he : ∀ t, t ≠ s → f t = g t) : NamesIn w G (D.del (.string s)) g := by
  refine ⟨fun kl hkl => ?_, fun t => ?_⟩
  · by_cases e : kl = .string s
    · rw [e, has_del_same] at hkl; exact Bool.noConfusion hkl
    · rw [has_del_other e] at hkl
      obtain ⟨t, rfl, ht⟩ := h.1 kl hkl
      exact ⟨t, rfl, by rw [← he t (fun e' => e (by rw [e']))]; exact ht⟩
  · by_cases e : t = s
    · subst e
      exact Or.inl ⟨hg, has_del_same⟩
    · have e1 : (Lit.string t) ≠ .string s := fun e' => e (by cases e'; rfl)
      unfold NameAt
      rw [has_del_other e1, ← he t e]
      exact (h.2 t).imp id (fun ⟨h1, v', h2, h3⟩ => ⟨h1, v', fun z => by rw [atKey_del_other e1]; exact h2 z, h3⟩)
theorem NamesIn.putdel {D d : DataW Value} {f g : List UInt8 → List Mean} (h : NamesIn w G D f) {s : List UInt8} (hg : g s = []) (he : ∀ t, t ≠ s → f t = g t) : NamesIn w G ((D.put (.string s) d).del (.string s)) g := by
  refine ⟨fun kl hkl => ?_, fun t => ?_⟩
  · by_cases e : kl = .string s
    · rw [e, has_del_same] at hkl; exact Bool.noConfusion hkl
    · rw [has_del_other e, has_put_other e] at hkl
      obtain ⟨t, rfl, ht⟩ := h.1 kl hkl
      exact ⟨t, rfl, by rw [← he t (fun e' => e (by rw [e']))]; exact ht⟩
  · by_cases e : t = s
    · subst e
      exact Or.inl ⟨hg, has_del_same⟩
    · have e1 : (Lit.string t) ≠ .string s := fun e' => e (by cases e'; rfl)
      unfold NameAt
      rw [has_del_other e1, has_put_other e1, ← he t e]
      exact (h.2 t).imp id (fun ⟨h1, v', h2, h3⟩ => ⟨h1, v', fun z => by rw [atKey_del_other e1, atKey_put_other e1]; exact h2 z, h3⟩)
theorem MeanAt.pop {ms : List Mean} {b o c : Nat} (h : MeanAt w G (.slice (some ⟨b, o, none⟩) ms.length c) ms) : MeanAt w G (.slice (some ⟨b, o, none⟩) (ms.length - 1) c) ms.dropLast := by
  obtain ⟨b', o', c', e, hc, hb, hm⟩ := h
  obtain ⟨⟨rfl, rfl⟩, rfl⟩ : (b = b' ∧ o = o') ∧ c = c' := by simpa using e
  refine ⟨b, o, c, by rw [List.length_dropLast], by rw [List.length_dropLast]; omega, hb, fun i hi => ?_⟩
  rw [List.length_dropLast] at hi
  have e1 : mi ms.dropLast i = mi ms i := by
    unfold mi
    rw [List.getD_eq_getElem?_getD, List.getD_eq_getElem?_getD, List.getElem?_dropLast, if_pos hi]
  rw [e1]
  exact hm i (by omega)
end
end Go.Proofs.Ytmaepljmefdhkaa
