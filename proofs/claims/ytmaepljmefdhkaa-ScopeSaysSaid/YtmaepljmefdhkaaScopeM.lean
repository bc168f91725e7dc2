import Derived.Test.YtmaepljmefdhkaaScopeL
namespace Go.Proofs.Ytmaepljmefdhkaa
open Go.RowKit Go.Maps
set_option maxHeartbeats 1000000

/-- What holds of the walker between two nodes; op: the blocks that are open. -/
structure Good (l : List Nd) (op : List Int) (st : St) : Prop where
  sub : ∀ s, ((st.names s).map (·.2)).Sublist ((-1) :: op)
  dec : ∀ s m, m ∈ st.names s → -3 ≤ m.1 ∧ m.1 < (l.length : Int)
  prg : ∀ k, k < st.progs.length → 0 ≤ gi st.progs k ∧ gi st.progs k < (l.length : Int)
  frn : ∀ q, (st.free.getD q []).Pairwise (· ≠ ·)
  frr : ∀ q x, x ∈ st.free.getD q [] → -3 ≤ x ∧ x < (l.length : Int)

theorem sub_last {α : Type} {xs L : List α} {b : α} (h : xs.Sublist (L ++ [b])) : xs.Sublist L ∨ ∃ ys, xs = ys ++ [b] ∧ ys.Sublist L := by
  obtain ⟨a, c, rfl, ha, hc⟩ := List.sublist_append_iff.1 h
  cases c with
  | nil => exact Or.inl (by simpa using ha)
  | cons x c =>
    have h1 : c = [] ∧ x = b := by
      cases hc with
      | cons _ h => cases h
      | cons_cons _ h => exact ⟨List.sublist_nil.1 h, rfl⟩
    obtain ⟨rfl, rfl⟩ := h1
    exact Or.inr ⟨a, rfl, ha⟩
theorem last_snd {ms : List Mean} {ys : List Int} {b : Int} (h : ms.map (·.2) = ys ++ [b]) : ms ≠ [] ∧ (lastM ms).2 = b ∧ ms.dropLast.map (·.2) = ys := by
  have hne : ms ≠ [] := fun e => by subst e; simp at h
  refine ⟨hne, ?_, ?_⟩
  · have hl : ms.length = ys.length + 1 := by have := congrArg List.length h; simpa using this
    have h1 := congrArg (fun l => l[ys.length]?) h
    simp only [List.getElem?_map, List.getElem?_append_right (Nat.le_refl _), Nat.sub_self, List.getElem?_cons_zero] at h1
    unfold lastM mi
    rw [hl, Nat.add_sub_cancel, List.getD_eq_getElem?_getD]
    rw [List.getElem?_eq_getElem (by omega)] at h1 ⊢
    simpa using h1
  · rw [List.map_dropLast, h, List.dropLast_concat]
theorem Good.len {l : List Nd} {op : List Int} {st : St} (h : Good l op st) (s : List UInt8) : (st.names s).length ≤ op.length + 1 := by
  have := (h.sub s).length_le
  simpa using this
theorem Good.free_len {l : List Nd} {op : List Int} {st : St} (h : Good l op st) (q : Nat) : (st.free.getD q []).length ≤ l.length + 3 := by
  have := nodup_len _ ((List.range (l.length + 3)).map (fun i : Nat => (i : Int) - 3)) (h.frn q) (fun x hx => by
    have := h.frr q x hx
    exact List.mem_map.2 ⟨(x + 3).toNat, by rw [List.mem_range]; omega, by omega⟩)
  simpa using this
theorem Good.wrong {l : List Nd} {op : List Int} {st : St} (h : Good l op st) (i : Nat) (e : Int) : Good l op (wrongF l st i e) := by
  unfold wrongF
  split
  · exact ⟨h.sub, h.dec, h.prg, h.frn, h.frr⟩
  · exact h
theorem Good.declare {l : List Nd} {op : List Int} {st : St} {b : Int} (h : Good l (op ++ [b]) st) (hb : st.block = b) {i : Nat} (hi : i < l.length) : Good l (op ++ [b]) (declareF l st i) := by
  unfold declareF
  split
  · exact h
  · split
    · exact h.wrong _ _
    · rename_i hn
      refine ⟨fun s => ?_, fun s m hm => ?_, h.prg, h.frn, h.frr⟩
      · by_cases e : s = nameL l i
        · have e1 : (setName st (nameL l i) (st.names (nameL l i) ++ [((i : Int), st.block)])).names s = st.names (nameL l i) ++ [((i : Int), st.block)] := by simp [setName, e]
          rw [e1, List.map_append, hb]
          show List.Sublist _ (((-1) :: op) ++ [b])
          have hs := h.sub (nameL l i)
          rcases sub_last (L := (-1) :: op) (by simpa using hs) with h1 | ⟨ys, h1, h2⟩
          · exact h1.append (List.Sublist.refl _)
          · obtain ⟨h3, h4, _⟩ := last_snd h1
            exact absurd ⟨h3, h4.trans hb.symm⟩ hn
        · have e1 : (setName st (nameL l i) (st.names (nameL l i) ++ [((i : Int), st.block)])).names s = st.names s := by simp [setName, e]
          rw [e1]; exact h.sub s
      · by_cases e : s = nameL l i
        · have e1 : (setName st (nameL l i) (st.names (nameL l i) ++ [((i : Int), st.block)])).names s = st.names (nameL l i) ++ [((i : Int), st.block)] := by simp [setName, e]
          rw [e1, List.mem_append, List.mem_singleton] at hm
          rcases hm with hm | rfl
          · exact h.dec _ _ hm
          · exact ⟨by show (-3 : Int) ≤ (i : Int); omega, by show (i : Int) < _; omega⟩
        · have e1 : (setName st (nameL l i) (st.names (nameL l i) ++ [((i : Int), st.block)])).names s = st.names s := by simp [setName, e]
          rw [e1] at hm; exact h.dec s m hm
theorem Good.enter {l : List Nd} {op : List Int} {st : St} (h : Good l op st) : Good l (op ++ [(enterF st).block]) (enterF st) :=
  ⟨fun s => (h.sub s).trans (by rw [← List.cons_append]; exact List.sublist_append_left _ _), h.dec, h.prg, h.frn, h.frr⟩
theorem Good.leave {l : List Nd} {op : List Int} {st : St} {b : Int} (h : Good l (op ++ [b]) st) (hb : st.block = b) (a : Int) : Good l op (leaveF st a) := by
  refine ⟨fun s => ?_, fun s m hm => ?_, h.prg, h.frn, h.frr⟩
  · show List.Sublist ((stripM st.block (st.names s)).map (·.2)) _
    have hs := h.sub s
    unfold stripM
    rcases sub_last (L := (-1) :: op) (by simpa using hs) with h1 | ⟨ys, h1, h2⟩
    · split
      · rw [List.map_dropLast]; exact (List.dropLast_sublist _).trans h1
      · exact h1
    · obtain ⟨h3, h4, h5⟩ := last_snd h1
      rw [if_pos ⟨h3, h4.trans hb.symm⟩, h5]
      exact h2
  · have hm' : m ∈ stripM st.block (st.names s) := hm
    unfold stripM at hm'
    split at hm'
    · exact h.dec s m ((List.dropLast_sublist _).subset hm')
    · exact h.dec s m hm'
end Go.Proofs.Ytmaepljmefdhkaa
