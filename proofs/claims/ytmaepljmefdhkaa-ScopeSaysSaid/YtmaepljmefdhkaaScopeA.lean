import Derived.Test.YtmaepljmefdhkaaScan8
import Derived.Maps.OwnSet
import Derived.Maps.RangeWalk
namespace Go.Proofs.Ytmaepljmefdhkaa
open Go.RowKit Go.Maps
open Go.ChangeMaps
open Go.WideElems (Fit rd rg rd_key rg_of rd_mk other_key)
set_option maxRecDepth 100000

/-- A STORE AT A KEY THAT IS THERE, INTO THE MAP THAT IS RANGED OVER. -/
theorem ranges_put {H : Type} {P : Program} {k t e : TypeId} {R : Value → Option (DataW H × List MemPlace)} {w : World} {b r n : Nat} {D : DataW H} {left : Lit → Bool} {cnt : Nat}
    (h : w.ranges P k R b r n D left cnt) (K : Keyed P k) (ht : P.underlying t = some (.map k e)) (hn : n < maxLen) {key val : Value} {kl : Lit} (hkey : keyOf P k key = some kl) {d : DataW H} {ps : List MemPlace} (hv : R val = some (d, ps)) (hhas : Maps.has D kl = true) :
    ∃ w', (Instr.mapUpdate t (.map (some b)) key val).run P w = .ok () w' ∧ w'.ranges P k R b r n (D.put kl d) left cnt ∧ w.grownBy w' (some b) ∧ w'.heap.size = w.heap.size := by
  have hne := h.ne
  obtain ⟨es, clock, since, seen, c0, hb, F, hs, rfl, hr, hold, rfl, hl1, hl2, hsc, hsk⟩ := h
  obtain ⟨es', clock', hrun, F', hput, _⟩ := Maps.fit_store (R' := R) K ht hb F (Nat.lt_of_le_of_lt hs hn) (fun _ _ _ _ hz => hz) hkey hv
  rcases K.find w hkey es.toList F.keys with ⟨h1, h2⟩ | ⟨j, e0, h1, h2, h3⟩
  · exfalso
    obtain ⟨p, hp, hpk⟩ := List.any_eq_true.1 hhas
    obtain ⟨x, hx, rfl⟩ := List.mem_map.1 (mem_sorted.1 hp)
    obtain ⟨y, hy⟩ := F.reads x hx
    have e1 := WideAt.sameKey_eq hpk
    rw [rg_of hy] at e1
    exact h2 x hx (K.inj (e1 ▸ rd_key hy) hkey)
  · have hj : es[j]? = some e0 := by simpa using h2
    have hlist : (es.modify j (fun e' => { e' with key := key, val := val })).toList = es.toList.set j { e0 with key := key, val := val } := by rw [Array.toList_modify, modify_eq_set _ _ _ _ h2]
    have hrun2 : (Instr.mapUpdate t (.map (some b)) key val).run P w = .ok () (setBlock w b (.map (es.modify j (fun e' => { e' with key := key, val := val })) clock)) := by
      simp [Instr.mapUpdate, run_underlying ht, MapKept.run_getObj_map hb, K.check w false hkey, h1, hj, h3, K.stays w hkey, MapKept.run_setObj_map _ hb, Result.andThen, setBlock]
    have heq := hrun.symm.trans hrun2
    simp only [Result.ok.injEq, true_and] at heq
    have hob := congrArg (fun W : World => W.heap[b]?) heq
    simp only [heap_setBlock_same hb, Option.some.injEq, Obj.map.injEq] at hob
    obtain ⟨rfl, rfl⟩ := hob
    have who : ∀ x ∈ (es.modify j (fun e' => { e' with key := key, val := val })).toList, ∃ y ∈ es.toList, x.born = y.born ∧ x.key = y.key := by
      intro x hx
      rw [hlist] at hx
      obtain ⟨i, hi, ex⟩ := List.getElem_of_mem hx
      rw [List.getElem_set] at ex
      split at ex
      · exact ⟨e0, List.mem_of_getElem? h2, by rw [← ex], by rw [← ex, h3]⟩
      · exact ⟨x, ex ▸ List.getElem_mem (by simpa using hi), rfl, rfl⟩
    have hborn : (es.modify j (fun e' => { e' with key := key, val := val })).toList.map (·.born) = es.toList.map (·.born) := by
      rw [hlist, List.map_set]
      show (es.toList.map (·.born)).set j e0.born = _
      have hj2 : (es.toList.map (·.born))[j]? = some e0.born := by rw [List.getElem?_map, h2]; rfl
      have hjl : j < (es.toList.map (·.born)).length := (List.getElem?_eq_some_iff.1 hj2).1
      rw [← (List.getElem?_eq_some_iff.1 hj2).2, List.set_getElem_self]
    have keyOfEq : ∀ x ∈ (es.modify j (fun e' => { e' with key := key, val := val })).toList, ∀ y ∈ es.toList, x.key = y.key → (rg P k R x).1 = (rg P k R y).1 := by
      intro x hx y hy hxy
      obtain ⟨z, hz⟩ := F'.reads x hx
      obtain ⟨z', hz'⟩ := F.reads y hy
      rw [rg_of hz, rg_of hz']
      have m1 := rd_key hz
      rw [hxy, rd_key hz'] at m1
      exact (Option.some.inj m1).symm
    refine ⟨_, hrun2, ⟨_, _, since, seen, c0, heap_setBlock_same hb _, F', by simpa using hs, ?_, (heap_setBlock_other hb _ hne).trans hr, ?_, ?_, ?_, ?_, hsc, hsk⟩, ⟨rfl, rfl, rfl, by simp [setBlock], fun i _ hi => heap_setBlock_other hb _ (fun e1 => hi (by rw [e1]))⟩, by simp [setBlock]⟩
    · rw [hput]; rfl
    · intro x hx
      obtain ⟨y, hy, e1, _⟩ := who x hx
      rw [e1]; exact hold y hy
    · have e1 : ∀ a : Array MapEntry, (leftOf a seen).size = ((a.toList.map (·.born)).filter fun z => !seen.contains z).length := fun a => by
        unfold leftOf
        rw [List.filter_map, List.length_map, ← Array.length_toList, Array.toList_filter]
        rfl
      rw [e1, e1, hborn]
    · intro x hx
      obtain ⟨y, hy, e1, e2⟩ := who x hx
      rw [keyOfEq x hx y hy e2, e1]
      exact hl1 y hy
    · intro kl' hkl'
      obtain ⟨y, hy, hyk⟩ := hl2 kl' hkl'
      have hbm : y.born ∈ (es.modify j (fun e' => { e' with key := key, val := val })).toList.map (·.born) := by rw [hborn]; exact List.mem_map.2 ⟨y, hy, rfl⟩
      obtain ⟨x, hx, hxb⟩ := List.mem_map.1 hbm
      obtain ⟨y', hy', e1, e2⟩ := who x hx
      have : y' = y := born_inj ((MapKept.stamped_iff es _).1 F.stamped).2.1 hy' hy (e1.symm.trans hxb)
      subst this
      exact ⟨x, hx, (keyOfEq x hx y' hy' e2).trans hyk⟩

/-- How many entries: just so many. -/
theorem owns_exact {H : Type} {P : Program} {k : TypeId} {R : Value → Option (DataW H × List MemPlace)} {w : World} {b n : Nat} {D : DataW H} (h : w.ownsMap P k R b n D) : w.ownsMap P k R b (Maps.size D) D := by
  obtain ⟨es, clock, hb, F, hs, rfl⟩ := h
  refine ⟨es, clock, hb, F, ?_, rfl⟩
  simp [Maps.size, length_sorted]

theorem nodup_len {α : Type} [DecidableEq α] : ∀ (l m : List α), l.Pairwise (· ≠ ·) → (∀ x ∈ l, x ∈ m) → l.length ≤ m.length
  | [], _, _, _ => by simp
  | x :: l, m, hp, hm => by
    obtain ⟨h1, h2⟩ := List.pairwise_cons.1 hp
    have hx : x ∈ m := hm x (by simp)
    have := nodup_len l (m.erase x) h2 (fun y hy => (List.mem_erase_of_ne (h1 y hy).symm).2 (hm y (by simp [hy])))
    rw [List.length_erase_of_mem hx] at this
    have : 0 < m.length := List.length_pos_of_mem hx
    simp only [List.length_cons]
    omega
/-- A map whose keys stand on a list has no more entries than that. -/
theorem size_le_keys {H : Type} {D : DataW H} {es : List (Lit × DataW H)} (hD : D = .map es) (hp : es.Pairwise (fun p q => p.1 ≠ q.1)) (hk : ∀ p ∈ es, WideAt.IsKeyLit p.1) (ks : List Lit) (h : ∀ kl, Maps.has D kl = true → kl ∈ ks) : Maps.size D ≤ ks.length := by
  subst hD
  haveI : DecidableEq Lit := fun a b => Classical.propDecidable _
  have := nodup_len (es.map (·.1)) ks (by rw [List.pairwise_map]; exact hp) (fun x hx => by
    obtain ⟨p, hpm, rfl⟩ := List.mem_map.1 hx
    exact h _ (List.any_eq_true.2 ⟨p, hpm, WideAt.sameKey_self (hk p hpm)⟩))
  simpa [Maps.size] using this
end Go.Proofs.Ytmaepljmefdhkaa
