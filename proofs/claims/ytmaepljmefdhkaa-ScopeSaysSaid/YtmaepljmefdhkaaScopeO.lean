import Derived.Test.YtmaepljmefdhkaaScopeN
namespace Go.Proofs.Ytmaepljmefdhkaa
open Go.RowKit Go.Maps
set_option maxHeartbeats 1000000

/-- The invariant, and what a node leaves as it found it. -/
structure Ok (l : List Nd) (op : List Int) (b : Int) (ps : List Int) (st : St) : Prop where
  good : Good l (op ++ [b]) st
  blk : st.block = b
  prg : st.progs = ps
theorem wrong_blk {l : List Nd} {st : St} {i : Nat} {e : Int} : (wrongF l st i e).block = st.block ∧ (wrongF l st i e).progs = st.progs := by unfold wrongF; split <;> exact ⟨rfl, rfl⟩
theorem declare_blk {l : List Nd} {st : St} {i : Nat} : (declareF l st i).block = st.block ∧ (declareF l st i).progs = st.progs := by
  unfold declareF
  split
  · exact ⟨rfl, rfl⟩
  · split
    · exact wrong_blk
    · exact ⟨rfl, rfl⟩
theorem name_blk {l : List Nd} {first : List Int} {st : St} {i : Nat} : (nameF l first st i).block = st.block ∧ (nameF l first st i).progs = st.progs := by
  unfold nameF
  split
  · exact wrong_blk
  · split
    · exact wrong_blk
    · split
      · exact wrong_blk
      · exact ⟨rfl, rfl⟩
theorem place_blk {l : List Nd} {st : St} {i : Nat} : (placeF l st i).block = st.block ∧ (placeF l st i).progs = st.progs := by unfold placeF; split <;> exact ⟨rfl, rfl⟩
section
variable {l : List Nd} {op : List Int} {b : Int} {ps : List Int} {st : St}
theorem Ok.declare (h : Ok l op b ps st) {i : Nat} (hi : i < l.length) : Ok l op b ps (declareF l st i) := ⟨h.good.declare h.blk hi, declare_blk.1.trans h.blk, declare_blk.2.trans h.prg⟩
theorem Ok.name (h : Ok l op b ps st) (first : List Int) (i : Nat) : Ok l op b ps (nameF l first st i) := ⟨h.good.name first i, name_blk.1.trans h.blk, name_blk.2.trans h.prg⟩
theorem Ok.place (h : Ok l op b ps st) (i : Nat) : Ok l op b ps (placeF l st i) := ⟨h.good.place i, place_blk.1.trans h.blk, place_blk.2.trans h.prg⟩
theorem Ok.within (h : Ok l op b ps st) {body : St → St} (hb : ∀ b' s, Ok l (op ++ [b]) b' ps s → s.block = b' → Ok l (op ++ [b]) b' ps (body s)) : Ok l op b ps (withinF body st) := by
  have h1 : Ok l (op ++ [b]) (enterF st).block ps (enterF st) := ⟨h.good.enter, rfl, h.prg⟩
  have h2 := hb _ _ h1 rfl
  exact ⟨h2.good.leave h2.blk _, h.blk, h2.prg⟩
theorem all_ok {node : St → Nat → St} {kids : List Int} (hn : ∀ st k, k ∈ kids → Ok l op b ps st → Ok l op b ps (node st k.toNat)) : ∀ st, Ok l op b ps st → Ok l op b ps (allF node kids st) := by
  unfold allF
  induction kids with
  | nil => intro st h; exact h
  | cons k kids ih =>
    intro st h
    exact ih (fun st k hk => hn st k (List.mem_cons_of_mem _ hk)) _ (hn st k (by simp) h)
theorem params_ok {kids : List Int} (hk : ∀ k ∈ kids, 0 ≤ k ∧ k < (l.length : Int)) : ∀ st, Ok l op b ps st → Ok l op b ps (kids.foldl (declParam l) st) := by
  induction kids with
  | nil => intro st h; exact h
  | cons k kids ih =>
    intro st h
    refine ih (fun k hk' => hk k (List.mem_cons_of_mem _ hk')) _ ?_
    unfold declParam
    split
    · exact h.declare (by have := hk k (by simp); omega)
    · exact h
end
theorem kids_in {l : List Nd} (hw : Wf l) {i : Nat} (hi : i < l.length) {k : Int} (hk : k ∈ (nd l i).kids) : 0 ≤ k ∧ k < (i : Int) := by
  obtain ⟨j, hj, rfl⟩ := List.getElem_of_mem hk
  have := hw.down i hi j hj
  unfold gi at this
  rwa [List.getD_eq_getElem?_getD, List.getElem?_eq_getElem hj, Option.getD_some] at this
theorem kid_lt {l : List Nd} (hw : Wf l) {i : Nat} (hi : i < l.length) {k : Nat} (hk : k < (nd l i).kids.length) : kid l i k < i := by
  have := hw.down i hi k hk
  unfold kid
  omega
theorem node_ok {l : List Nd} (hw : Wf l) (first : List Int) : ∀ (f : Nat) (op : List Int) (b : Int) (ps : List Int) (st : St) (i : Nat), i < l.length → Ok l op b ps st → Ok l op b ps (nodeF l first f st i)
  | 0, _, _, _, _, _, _, h => h
  | f + 1, op, b, ps, st, i, hi, h => by
    have hall : ∀ (op : List Int) (b : Int) (ps : List Int) (j : Nat), j < l.length → ∀ st, Ok l op b ps st → Ok l op b ps (allF (nodeF l first f) (nd l j).kids st) := fun op b ps j hj st h =>
      all_ok (fun st k hk h => node_ok hw first f op b ps st k.toNat (by have := kids_in hw hj hk; omega) h) st h
    have hkid : ∀ k, kid l i k < l.length ∨ ¬ k < (nd l i).kids.length := fun k => by
      by_cases hk : k < (nd l i).kids.length
      · exact Or.inl (Nat.lt_trans (kid_lt hw hi hk) hi)
      · exact Or.inr hk
    unfold nodeF
    split; · exact h
    split; · exact h.name first i
    split
    · rename_i hk
      have h1 := hw.one i hi (by simp [hk])
      have hlast := (hkid ((nd l i).kids.length - 1)).resolve_right (by omega)
      have hp : Ok l op b (ps ++ [(i : Int)]) { st with progs := st.progs ++ [(i : Int)] } := ⟨h.good.push hi, h.blk, by show st.progs ++ _ = _; rw [h.prg]⟩
      have h2 := hp.within (body := fun s => withinF (bodyF l (nodeF l first f) i) (declareF l s i)) (fun b' s hs _ => (hs.declare hi).within (fun b'' s' hs' _ => hall _ _ _ _ hlast _ (params_ok (fun k hk => by have := kids_in hw hi hk; omega) _ hs')))
      refine ⟨h2.good.pop, h2.blk, ?_⟩
      show List.dropLast _ = _
      rw [h2.prg, List.dropLast_concat]
    split
    · have h2 := hall op b ps i hi st h
      simp only
      split
      · exact h2.declare hi
      · exact h2
    split; · exact hall op b ps i hi _ (h.place _)
    split; · exact h.within (fun b' s hs _ => hall _ _ _ i hi s hs)
    split
    · rename_i hk
      have h1 := hw.two i hi hk
      have k0 := (hkid 0).resolve_right (by omega)
      have k1 := (hkid 1).resolve_right (by omega)
      exact (node_ok hw first f op b ps st _ k0 h).within (fun b' s hs _ => hall _ _ _ _ k1 _ (hs.declare hi))
    split; · exact h
    exact hall op b ps i hi st h
end Go.Proofs.Ytmaepljmefdhkaa
