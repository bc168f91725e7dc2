import Derived.Test.YtmaepljmefdhkaaScopeM
namespace Go.Proofs.Ytmaepljmefdhkaa
open Go.RowKit Go.Maps
set_option maxHeartbeats 1000000

def FreeOk (N : Int) (fr : List (List Int)) : Prop := (∀ q, (fr.getD q []).Pairwise (· ≠ ·)) ∧ ∀ q x, x ∈ fr.getD q [] → -3 ≤ x ∧ x < N
theorem addFree_ok {N : Int} {first : List Int} {d : Int} (hd : -3 ≤ d ∧ d < N) {fr : List (List Int)} (h : FreeOk N fr) (p : Int) : FreeOk N (addFree first d fr p) := by
  unfold addFree
  split
  · exact h
  · rename_i hc
    have hno : ∀ x ∈ fr.getD p.toNat [], x ≠ d := fun x hx e => hc (by
      have : hasB (fr.getD p.toNat []) d = true := by unfold hasB; rw [List.any_eq_true]; exact ⟨x, hx, by simp [e]⟩
      simp only [this, Bool.or_true])
    have row : ∀ q, (fr.set p.toNat (fr.getD p.toNat [] ++ [d])).getD q [] = fr.getD q [] ∨ (fr.set p.toNat (fr.getD p.toNat [] ++ [d])).getD q [] = fr.getD p.toNat [] ++ [d] := fun q => by
      rw [List.getD_eq_getElem?_getD, List.getElem?_set]
      split
      · split
        · exact Or.inr rfl
        · rename_i e h2
          subst e
          exact Or.inl (by rw [List.getD_eq_getElem?_getD, List.getElem?_eq_none (by omega)])
      · exact Or.inl (by rw [List.getD_eq_getElem?_getD])
    refine ⟨fun q => ?_, fun q x hx => ?_⟩
    · rcases row q with e | e <;> rw [e]
      · exact h.1 q
      · rw [List.pairwise_append]
        exact ⟨h.1 _, by simp, fun x hx y hy => by simp only [List.mem_singleton] at hy; subst hy; exact hno x hx⟩
    · rcases row q with e | e <;> rw [e] at hx
      · exact h.2 q x hx
      · rw [List.mem_append, List.mem_singleton] at hx
        rcases hx with hx | rfl
        · exact h.2 _ x hx
        · exact hd
theorem fold_ok {N : Int} {first : List Int} {d : Int} (hd : -3 ≤ d ∧ d < N) : ∀ (ps : List Int) (fr : List (List Int)), FreeOk N fr → FreeOk N (ps.foldl (addFree first d) fr)
  | [], _, h => h
  | p :: ps, fr, h => fold_ok hd ps _ (addFree_ok hd h p)
theorem lastM_mem {ms : List Mean} (h : ms ≠ []) : lastM ms ∈ ms := by
  have := List.length_pos_iff.2 h
  unfold lastM mi
  rw [List.getD_eq_getElem?_getD, List.getElem?_eq_getElem (by omega)]
  exact List.getElem_mem _
theorem Good.name {l : List Nd} {op : List Int} {st : St} (h : Good l op st) (first : List Int) (i : Nat) : Good l op (nameF l first st i) := by
  unfold nameF
  split
  · exact h.wrong _ _
  · rename_i hne
    split
    · exact h.wrong _ _
    · split
      · exact h.wrong _ _
      · have := fold_ok (first := first) (h.dec _ _ (lastM_mem hne)) st.progs st.free ⟨h.frn, h.frr⟩
        exact ⟨h.sub, h.dec, h.prg, this.1, this.2⟩
theorem Good.place {l : List Nd} {op : List Int} {st : St} (h : Good l op st) (i : Nat) : Good l op (placeF l st i) := by
  unfold placeF
  split
  · exact ⟨h.sub, h.dec, h.prg, h.frn, h.frr⟩
  · exact h
theorem Good.push {l : List Nd} {op : List Int} {st : St} (h : Good l op st) {i : Nat} (hi : i < l.length) : Good l op { st with progs := st.progs ++ [(i : Int)] } := by
  refine ⟨h.sub, h.dec, fun k hk => ?_, h.frn, h.frr⟩
  have hk' : k < st.progs.length + 1 := by simpa using hk
  show 0 ≤ gi (st.progs ++ [(i : Int)]) k ∧ gi (st.progs ++ [(i : Int)]) k < _
  unfold gi
  rw [List.getD_eq_getElem?_getD]
  by_cases e : k < st.progs.length
  · rw [List.getElem?_append_left e, ← List.getD_eq_getElem?_getD]
    exact h.prg k e
  · have : k = st.progs.length := by omega
    subst this
    simp; omega
theorem Good.pop {l : List Nd} {op : List Int} {st : St} (h : Good l op st) : Good l op { st with progs := st.progs.dropLast } := by
  refine ⟨h.sub, h.dec, fun k hk => ?_, h.frn, h.frr⟩
  have hk' : k < st.progs.length - 1 := by simpa using hk
  have e : gi st.progs.dropLast k = gi st.progs k := by
    unfold gi
    rw [List.getD_eq_getElem?_getD, List.getD_eq_getElem?_getD, List.getElem?_dropLast, if_pos hk']
  show 0 ≤ gi st.progs.dropLast k ∧ gi st.progs.dropLast k < _
  rw [e]
  exact h.prg k (by omega)
end Go.Proofs.Ytmaepljmefdhkaa
