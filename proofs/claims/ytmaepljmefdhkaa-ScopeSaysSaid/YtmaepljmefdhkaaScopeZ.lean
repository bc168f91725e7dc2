import Derived.Test.YtmaepljmefdhkaaScopeY
namespace Go.Proofs.Ytmaepljmefdhkaa
open Go.RowKit Go.Maps
set_option maxHeartbeats 8000000
set_option maxRecDepth 100000
def row1 (LA : Option Addr) (N lc nm sm : Nat) (FV : Value) : Array Value :=
  #[.slice LA N lc, FV, .map (some nm), .int .i64 0, .int .i64 0, .slice none 0 0, .map (some sm), .slice none 0 0, .slice none 0 0, .int .i64 0, .int .i64 0]
/-- What stands behind the head of Names, but for the walker's own row. -/
structure Start (w : World) (LA : Option Addr) (N lc : Nat) (W : World) (nm b2 sm : Nat) : Prop where
  below : Below w.heap.size w W
  b1 : W.heap[w.heap.size]? = some (.cells #[.slice LA N lc] 22 (0, 0))
  br : W.heap[w.heap.size + 1]? = some (.cells #[.slice none 0 0, .slice none 0 0] 39 (0, 0))
  bf : W.heap[w.heap.size + 1 + 1]? = some (.cells #[.int .i64 0, .int .i64 0] 42 (0, 0))
  map : W.ownsMap Try.prog 9 RV nm 2 (((DataW.map []).put (.string bIn.data.toList) (.held (.slice (some ⟨nm + 1, 0, none⟩) 1 1))).put (.string bOut.data.toList) (.held (.slice (some ⟨b2, 0, none⟩) 1 1)))
  m1 : W.heap[nm + 1]? = some (.cells #[.int .i64 (-2), .int .i64 (-1)] 110 (0, 0))
  m2 : W.heap[b2]? = some (.cells #[.int .i64 (-3), .int .i64 (-1)] 110 (0, 0))
  set : W.heap[sm]? = some (.map #[] 0)
  ptr : W.heap[sm + 1 + 1]? = some (.cells #[.pointer (some ⟨sm + 1, 0, none⟩)] 108 (0, 0))
  ord : w.heap.size + 1 + 1 < nm ∧ nm + 2 ≤ b2 ∧ b2 + 1 ≤ sm ∧ sm + 3 ≤ W.heap.size
theorem Start.kept {w : World} {LA : Option Addr} {N lc : Nat} {W W' : World} {nm b2 sm : Nat} (h : Start w LA N lc W nm b2 sm) (ho : W'.os = W.os) (ht : W'.tape = W.tape) (hu : W'.output = W.output) (hs : W.heap.size ≤ W'.heap.size) (hb : ∀ b, b < sm + 3 → b ≠ sm + 1 → W'.heap[b]? = W.heap[b]?) : Start w LA N lc W' nm b2 sm := by
  obtain ⟨o1, o2, o3, o4⟩ := h.ord
  exact ⟨⟨ho.trans h.below.os, ht.trans h.below.tape, hu.trans h.below.output, Nat.le_trans h.below.size hs, fun k hk => (hb k (by omega) (by omega)).trans (h.below.block k hk)⟩,
    (hb _ (by omega) (by omega)).trans h.b1, (hb _ (by omega) (by omega)).trans h.br, (hb _ (by omega) (by omega)).trans h.bf, ownsMap_of_block h.map (hb _ (by omega) (by omega)), (hb _ (by omega) (by omega)).trans h.m1, (hb _ (by omega) (by omega)).trans h.m2,
    (hb _ (by omega) (by omega)).trans h.set, (hb _ (by omega) (by omega)).trans h.ptr, ⟨o1, o2, o3, by omega⟩⟩
theorem start_facts {w w1 w2 w3 : World} {LA : Option Addr} {N lc : Nat} {o : Obj} (hb1 : Below w.heap.size w w1) (hz : w.heap.size + 1 + 1 < w1.heap.size)
    (p1 : w1.heap[w.heap.size]? = some (.cells #[.slice LA N lc] 22 (0, 0))) (p2 : w1.heap[w.heap.size + 1]? = some (.cells #[.slice none 0 0, .slice none 0 0] 39 (0, 0))) (p3 : w1.heap[w.heap.size + 1 + 1]? = some (.cells #[.int .i64 0, .int .i64 0] 42 (0, 0)))
    (hb3 : Below w1.heap.size w1 w3) (hm : w3.ownsMap Try.prog 9 RV w1.heap.size 2 (((DataW.map []).put (.string bIn.data.toList) (.held (.slice (some ⟨w1.heap.size + 1, 0, none⟩) 1 1))).put (.string bOut.data.toList) (.held (.slice (some ⟨w2.heap.size, 0, none⟩) 1 1))))
    (h2 : w1.heap.size + 2 ≤ w2.heap.size) (h3 : w2.heap.size + 1 ≤ w3.heap.size) (m1 : w3.heap[w1.heap.size + 1]? = some (.cells #[.int .i64 (-2), .int .i64 (-1)] 110 (0, 0))) (m2 : w3.heap[w2.heap.size]? = some (.cells #[.int .i64 (-3), .int .i64 (-1)] 110 (0, 0))) :
    Start w LA N lc (((w3.alloc (.map #[] 0)).alloc o).alloc (.cells #[.pointer (some ⟨w3.heap.size + 1, 0, none⟩)] 108)) w1.heap.size w2.heap.size w3.heap.size ∧ (((w3.alloc (.map #[] 0)).alloc o).alloc (.cells #[.pointer (some ⟨w3.heap.size + 1, 0, none⟩)] 108)).heap[w3.heap.size + 1]? = some o := by
  have hk := blk3 w3 (.map #[] 0) o (.cells #[.pointer (some ⟨w3.heap.size + 1, 0, none⟩)] 108)
  have hl : ∀ b, b < w3.heap.size → (((w3.alloc (.map #[] 0)).alloc o).alloc (.cells #[.pointer (some ⟨w3.heap.size + 1, 0, none⟩)] 108)).heap[b]? = w3.heap[b]? := fun b hb =>
    (Below.heap_alloc _ _ _ (by simp; omega)).trans ((Below.heap_alloc _ _ _ (by simp; omega)).trans (Below.heap_alloc _ _ _ hb))
  refine ⟨⟨?_, (hl _ (by omega)).trans ((hb3.block _ (by omega)).trans p1), (hl _ (by omega)).trans ((hb3.block _ (by omega)).trans p2), (hl _ (by omega)).trans ((hb3.block _ (by omega)).trans p3), ownsMap_of_block hm (hl _ (by omega)), (hl _ (by omega)).trans m1, (hl _ (by omega)).trans m2, hk.1, hk.2.2, ⟨hz, h2, h3, by simp⟩⟩, hk.2.1⟩
  have h4 := hb1.trans (hb3.mono hb1.size)
  have h5 := h4.size
  exact ((h4.alloc h5 _).alloc (by simp; omega) _).alloc (by simp; omega) _
theorem first_step {w W w1 : World} {LA : Option Addr} {N lc nm b2 sm k m : Nat} {FV : Value} {fs : List Int} {o : Obj} {g cap : Nat} {d : Int} (hst : Start w LA N lc W nm b2 sm) (hrow : W.heap[sm + 1]? = some (.cells (row1 LA N lc nm sm FV) 115 (0, 0))) (hF : W.ownsRow (sm + 3) 3 1 FV k (intL fs))
    (hown : w1.ownsRow (sm + 3) 3 1 (.slice (some ⟨g, 0, none⟩) (k + 1) cap) (k + 1) (intL fs ++ [.int .i64 d])) (hg : ((W.drewN m).alloc o).grownBy w1 FV.ownBlock) :
    Hid (Start w LA N lc (w1.setCell ⟨sm + 1, 1, none⟩ (.slice (some ⟨g, 0, none⟩) (k + 1) cap)) nm b2 sm ∧ (w1.setCell ⟨sm + 1, 1, none⟩ (.slice (some ⟨g, 0, none⟩) (k + 1) cap)).heap[sm + 1]? = some (.cells (row1 LA N lc nm sm (.slice (some ⟨g, 0, none⟩) (k + 1) cap)) 115 (0, 0)) ∧
      (w1.setCell ⟨sm + 1, 1, none⟩ (.slice (some ⟨g, 0, none⟩) (k + 1) cap)).ownsRow (sm + 3) 3 1 (.slice (some ⟨g, 0, none⟩) (k + 1) cap) (k + 1) (intL (fs ++ [d])) ∧
      ∀ b, b < W.heap.size → b ≠ sm + 1 → FV.ownBlock ≠ some b → (w1.setCell ⟨sm + 1, 1, none⟩ (.slice (some ⟨g, 0, none⟩) (k + 1) cap)).heap[b]? = W.heap[b]?) ∧
    w1.frozen? ⟨sm + 1, 1, none⟩ = false ∧ w1.cell? ⟨sm + 1, 1, none⟩ = some FV ∧ w1.cell? ⟨sm + 1 + 1, 0, none⟩ = some (.pointer (some ⟨sm + 1, 0, none⟩)) := by
  obtain ⟨o1, o2, o3, o4⟩ := hst.ord
  have hFl := hF.lt
  have hall : ∀ b, b < W.heap.size → FV.ownBlock ≠ some b → w1.heap[b]? = W.heap[b]? := fun b hb hne => (hg.block b (by simpa using Nat.lt_succ_of_lt hb) (fun e => hne e.symm)).trans (Below.heap_alloc (W.drewN m) o b hb)
  have hfar : ∀ b, b < sm + 3 → FV.ownBlock ≠ some b := fun b hb e => by have := (hFl b e).1; omega
  have hs : W.heap.size ≤ w1.heap.size := by have := hg.size; simp at this; omega
  have hr1 : w1.heap[sm + 1]? = some (.cells (row1 LA N lc nm sm FV) 115 (0, 0)) := (hall _ (by omega) (hfar _ (by omega))).trans hrow
  have hgb := (hown.lt g rfl).1
  refine ⟨Lib.hid ⟨hst.kept hg.os hg.tape hg.output (by simpa using hs) (fun b hb hne => ?_), by rw [heap_setCell_same _ _ _ _ _ _ hr1]; rfl, ?_, fun b hb hne hF => ?_⟩, frozen_of_row w1 _ 1 _ _ hr1, by rw [cell_of_row w1 _ 1 _ _ _ hr1]; rfl, ?_⟩
  · rw [Below.heap_setCell _ _ _ _ hne]
    exact hall b (by omega) (hfar b hb)
  · have h2 := ownsRow_of_block (w' := w1.setCell ⟨sm + 1, 1, none⟩ (.slice (some ⟨g, 0, none⟩) (k + 1) cap)) hown (fun j hj => by cases hj; exact Below.heap_setCell _ _ _ _ (by show g ≠ sm + 1; omega))
    simpa [intL] using h2
  · rw [Below.heap_setCell _ _ _ _ hne]
    exact hall b hb hF
  · rw [cell_of_row w1 _ 0 _ _ _ ((hall _ (by omega) (hfar _ (by omega))).trans hst.ptr)]
    rfl
/-- What the three blocks at the head of Names are behind a call that makes memory alone. -/
theorem head_cells {w w1 : World} {x : Value} {a b c d : Value} {t1 t2 t3 : TypeId} (hb : Below (((w.alloc (.cells #[x] t1)).alloc (.cells #[a, b] t2)).alloc (.cells #[c, d] t3)).heap.size (((w.alloc (.cells #[x] t1)).alloc (.cells #[a, b] t2)).alloc (.cells #[c, d] t3)) w1) :
    (w1.heap[w.heap.size]? = some (.cells #[x] t1 (0, 0)) ∧ w1.heap[w.heap.size + 1]? = some (.cells #[a, b] t2 (0, 0)) ∧ w1.heap[w.heap.size + 1 + 1]? = some (.cells #[c, d] t3 (0, 0))) ∧ w.heap.size + 1 + 1 < w1.heap.size ∧ Below w.heap.size w w1 := by
  have h := blk3 w (.cells #[x] t1) (.cells #[a, b] t2) (.cells #[c, d] t3)
  have hs := hb.size
  simp only [World.size_alloc] at hs
  exact ⟨⟨(hb.block _ (by simp; omega)).trans h.1, (hb.block _ (by simp)).trans h.2.1, (hb.block _ (by simp)).trans h.2.2⟩, by omega,
    (((Below.refl _ w).alloc (Nat.le_refl _) _ |>.alloc (by simp) _).alloc (by simp; omega) _).trans (hb.mono (by simp; omega))⟩
theorem cells1 {w : World} {g : Nat} {x : Value} {t : TypeId} (h : w.heap[g]? = some (.cells #[x] t (0, 0))) : w.cell? ⟨g, 0, none⟩ = some x ∧ w.frozen? ⟨g, 0, none⟩ = false := ⟨by rw [cell_of_row w g 0 _ _ _ h]; rfl, frozen_of_row w g 0 _ _ h⟩
theorem cells2 {w : World} {g : Nat} {x y : Value} {t : TypeId} (h : w.heap[g]? = some (.cells #[x, y] t (0, 0))) : (w.cell? ⟨g, 0, none⟩ = some x ∧ w.cell? ⟨g, 1, none⟩ = some y) ∧ w.frozen? ⟨g, 0, none⟩ = false ∧ w.frozen? ⟨g, 1, none⟩ = false :=
  ⟨⟨by rw [cell_of_row w g 0 _ _ _ h]; rfl, by rw [cell_of_row w g 1 _ _ _ h]; rfl⟩, frozen_of_row w g 0 _ _ h, frozen_of_row w g 1 _ _ h⟩
theorem names_fault (LA : Option Addr) (lc : Nat) (l : List Nd) (w : World) (hl : NodesAt w LA l) (hc : (checkF l).2 ≠ 0) :
    Calls Try.prog 24 #[.slice LA l.length lc] w fun e w' => e = .returned (.tuple #[.agg #[.slice none 0 0, .slice none 0 0], .agg #[.int .i64 (checkF l).1, .int .i64 (checkF l).2]]) ∧ Below w.heap.size w w' := by
  have hbig := big_le hl.size
  have HX := Lib.hid (fun w' (hb : Below w.heap.size w w') => check_any LA lc l w' (hl.below hb))
  have ec : ((checkF l).2 != 0) = true := by simpa using hc
  clear hc hl
  go_enter Try.func24, Try.ntmps24
  go_wp2_with (go_at_call 70; refine (HX.out _ (((Below.refl _ _).alloc (Nat.le_refl _) _ |>.alloc (by simp) _).alloc (by simp; omega) _)).mono ?_; rintro e w1 ⟨rfl, hb1⟩; obtain ⟨⟨p1, p2, p3⟩, hz1, hb⟩ := head_cells hb1; obtain ⟨⟨q1, q2⟩, q3, q4⟩ := cells2 p2; obtain ⟨⟨s1, s2⟩, s3, s4⟩ := cells2 p3; have HB1 := Lib.hid hb; clear hb1 hb p1 p2 p3)
  refine bodyPost_ret (v := .tuple #[.agg #[.slice none 0 0, .slice none 0 0], .agg #[.int .i64 (checkF l).1, .int .i64 (checkF l).2]]) (by simp [results, Try.results24, go_sem, q1, q2, q3, q4, s1, s2, s3, s4]) rfl ⟨rfl, ?_⟩
  exact ((((HB1.out.setCell (by simp) _).setCell (by simp) _).setCell (by simp; omega) _).setCell (by simp; omega) _)
end Go.Proofs.Ytmaepljmefdhkaa
