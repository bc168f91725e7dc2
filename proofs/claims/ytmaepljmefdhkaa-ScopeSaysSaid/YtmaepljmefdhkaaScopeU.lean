import Derived.Test.YtmaepljmefdhkaaScopeI
namespace Go.Proofs.Ytmaepljmefdhkaa
open Go.RowKit Go.Maps
set_option maxHeartbeats 2000000
set_option maxRecDepth 100000

section
variable {C : Ctx} {w w' w1 : World} {G : Nat → Nat} {st : St}
/-- The row of progs has grown by one; it is written into its place. -/
theorem Rep.push (h : Rep C w G st) {pv : Value} (hrow : w.heap[C.wk]? = some (.cells (wkRow C st pv) 115 (0, 0))) (hpb : ∀ j, pv.ownBlock = some j → G j = 4) {g cap : Nat} {d : Int}
    (hown : w1.ownsRow 0 3 1 (.slice (some ⟨g, 0, none⟩) (st.progs.length + 1) cap) (st.progs.length + 1) (intL (st.progs ++ [d])))
    (hg : w.grownBy w1 pv.ownBlock) (hat : pv.ownBlock = some g ∨ g = w.heap.size) :
    ∃ G', Rep C (w1.setCell ⟨C.wk, 5, none⟩ (.slice (some ⟨g, 0, none⟩) (st.progs.length + 1) cap)) G' { st with progs := st.progs ++ [d] } ∧ Stp G w G' (w1.setCell ⟨C.wk, 5, none⟩ (.slice (some ⟨g, 0, none⟩) (st.progs.length + 1) cap)) := by
  have gw := h.gw
  have hwk := (h.own C.wk (by omega))
  have hgwk : g ≠ C.wk := fun e => by
    rcases hat with e1 | e1
    · have := hpb g e1; rw [e] at this; omega
    · omega
  have hgG : ∀ k, G k ≠ 0 → (if k = g then 4 else G k) = G k := fun k hk => by
    by_cases e : k = g
    · rw [if_pos e]
      rcases hat with e1 | e1
      · rw [e]; exact (hpb g e1).symm
      · have := (h.own k hk).2; omega
    · rw [if_neg e]
  have kk : ∀ k n, G k = n → n ≠ 1 → n ≠ 4 → n ≠ 0 → (w1.setCell ⟨C.wk, 5, none⟩ (.slice (some ⟨g, 0, none⟩) (st.progs.length + 1) cap)).heap[k]? = w.heap[k]? := fun k n e hn hn2 h0 => by
    rw [Below.heap_setCell _ _ _ _ (show k ≠ C.wk from fun e' => by subst e'; omega)]
    exact hg.block k (h.own k (by omega)).2 (fun e' => by have := hpb k e'.symm; omega)
  have hb1 : w1.heap[C.wk]? = some (.cells (wkRow C st pv) 115 (0, 0)) := (hg.block C.wk hwk.2 (fun e' => by have := hpb _ e'.symm; omega)).trans hrow
  have hlow : ∀ k, k < C.w0.heap.size → (w1.setCell ⟨C.wk, 5, none⟩ (.slice (some ⟨g, 0, none⟩) (st.progs.length + 1) cap)).heap[k]? = w.heap[k]? := fun k hk => by
    rw [Below.heap_setCell _ _ _ _ (show k ≠ C.wk from fun e' => by omega)]
    exact hg.block k (Nat.lt_of_lt_of_le hk h.below.size) (fun e' => by have h1 := hpb k e'.symm; have := (h.own k (by omega)).1; omega)
  refine ⟨fun k => if k = g then 4 else G k, { h with
    below := ⟨hg.os.trans h.below.os, hg.tape.trans h.below.tape, hg.output.trans h.below.output, by simpa using Nat.le_trans h.below.size hg.size, fun k hk => (hlow k hk).trans (h.below.block k hk)⟩
    own := fun k hk => ?_
    gw := (hgG _ (by rw [h.gw]; decide)).trans h.gw
    gn := (hgG _ (by rw [h.gn]; decide)).trans h.gn
    gs := (hgG _ (by rw [h.gs]; decide)).trans h.gs
    gr := (hgG _ (by rw [h.gr]; decide)).trans h.gr
    gf := (hgG _ (by rw [h.gf]; decide)).trans h.gf
    gff := (hgG _ (by rw [h.gff]; decide)).trans h.gff
    first := h.first.of_block (kk _ _ h.gff (by omega) (by omega) (by omega))
    wkr := ⟨.slice (some ⟨g, 0, none⟩) (st.progs.length + 1) cap, ?_, ?_, ?_⟩
    names := h.names.kept (kk _ _ h.gn (by omega) (by omega) (by omega)) (fun k hk => kk _ _ hk (by omega) (by omega) (by omega)) (fun k hk => (hgG k (by rw [hk]; decide)).trans hk)
    set := h.set.kept (kk _ _ h.gs (by omega) (by omega) (by omega))
    ref := (kk _ _ h.gr (by omega) (by omega) (by omega)).trans h.ref
    free := h.free.kept (kk _ _ h.gf (by omega) (by omega) (by omega)) (fun k hk0 => kk k _ rfl (by omega) (by omega) (by omega)) (fun k hk => hgG k (by omega)) }, ?_⟩
  · by_cases e : k = g
    · subst e
      have hlt : k < w1.heap.size := (hown.lt k rfl).2
      refine ⟨?_, by simpa using hlt⟩
      rcases hat with e1 | e1
      · have h1 := hpb k e1
        exact (h.own k (by omega)).1
      · have := h.below.size; omega
    · rw [if_neg e] at hk
      exact ⟨(h.own k hk).1, by simpa using Nat.lt_of_lt_of_le (h.own k hk).2 hg.size⟩
  · rw [heap_setCell_same _ _ _ _ _ _ hb1]
    rfl
  · show World.ownsRow _ 0 3 1 _ (st.progs ++ [d]).length _
    rw [List.length_append, List.length_singleton]
    exact ownsRow_of_block hown (fun j hj => by cases hj; exact Below.heap_setCell _ _ _ _ hgwk)
  · intro j hj
    cases hj
    exact if_pos rfl
  · refine ⟨hg.os, hg.tape, hg.output, by simpa using hg.size, fun k hk h0 => ?_, fun k hk => ?_⟩
    · rw [Below.heap_setCell _ _ _ _ (show k ≠ C.wk from fun e' => by subst e'; omega)]
      exact hg.block k hk (fun e' => by have := hpb k e'.symm; omega)
    · by_cases e : k = g
      · rw [if_pos e]
        rcases hat with e1 | e1
        · rw [e]; exact (hpb g e1).symm
        · omega
      · exact if_neg e
/-- The row of progs is cut by one. -/
theorem Rep.cut (h : Rep C w G st) {A : Option Addr} {n c : Nat} (hrow : w.heap[C.wk]? = some (.cells (wkRow C st (.slice A (n + 1) c)) 115 (0, 0))) (hn : st.progs.length = n + 1)
    (hown : w.ownsRow 0 3 1 (.slice A (n + 1) c) st.progs.length (intL st.progs)) (hpb : ∀ j, (Value.slice A (n + 1) c).ownBlock = some j → G j = 4) :
    Rep C (w.setCell ⟨C.wk, 5, none⟩ (.slice A n c)) G { st with progs := st.progs.dropLast } ∧ Stp G w G (w.setCell ⟨C.wk, 5, none⟩ (.slice A n c)) := by
  have hl : st.progs.dropLast.length = n := by rw [List.length_dropLast]; omega
  refine h.wkset (pv := .slice A n c) (by simp) rfl rfl rfl (fun k hk => Below.heap_setCell _ _ _ _ hk) (by rw [heap_setCell_same _ _ _ _ _ _ hrow]; rfl) ?_ ?_ rfl rfl rfl rfl
  · show w.ownsRow 0 3 1 _ st.progs.dropLast.length (intL st.progs.dropLast)
    rw [hl]
    obtain ⟨h1, h2⟩ := hown
    rcases h2 with ⟨_, h0⟩ | ⟨g, cap, cur, e, h3, h4, h5, h6, h7, h8⟩
    · omega
    · rw [hn] at e
      injection e with e1 e2 e3
      subst e1; subst e3
      refine ⟨by simp [intL]; omega, Or.inr ⟨g, c, cur, rfl, h3, h4, by omega, h6, h7, ?_⟩⟩
      have e4 : cur.toList.take (n * 1) = (cur.toList.take (st.progs.length * 1)).take (n * 1) := by rw [List.take_take]; congr 1; omega
      rw [e4, h8]
      simp [intL, List.dropLast_eq_take, hn]
  · intro j hj
    cases A with
    | none => cases hj
    | some a => exact hpb j hj
end
end Go.Proofs.Ytmaepljmefdhkaa
