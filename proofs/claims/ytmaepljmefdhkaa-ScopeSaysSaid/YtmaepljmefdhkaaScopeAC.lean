import Derived.Test.YtmaepljmefdhkaaScopeAB
namespace Go.Proofs.Ytmaepljmefdhkaa
open Go.RowKit Go.Maps
set_option maxHeartbeats 4000000
set_option maxRecDepth 100000

def made (wr : World) (sm n rb fb : Nat) (A B : Obj) : World := ((((wr.alloc A).alloc B).setCell ⟨sm + 1, 7, none⟩ (.slice (some ⟨rb, 0, none⟩) n n)).setCell ⟨sm + 1, 8, none⟩ (.slice (some ⟨fb, 0, none⟩) n n)).drew
theorem made_facts {w wr : World} {LA : Option Addr} {lc : Nat} {l : List Nd} {nm b2 sm g cap rb fb : Nat} {fs : List Int} {A B : Obj} (hl : NodesAt w LA l) (hst : Start w LA l.length lc wr nm b2 sm) (hrow : wr.heap[sm + 1]? = some (.cells (row1 LA l.length lc nm sm (.slice (some ⟨g, 0, none⟩) l.length cap)) 115 (0, 0)))
    (hF : wr.ownsRow (sm + 3) 3 1 (.slice (some ⟨g, 0, none⟩) l.length cap) l.length (intL fs)) (hfl : fs.length = l.length)
    (h : (A = .cells (intsV (List.replicate l.length 0)) 3 ∧ B = .cells (nilRows l.length).toArray 24 ∧ rb = wr.heap.size ∧ fb = wr.heap.size + 1) ∨ (B = .cells (intsV (List.replicate l.length 0)) 3 ∧ A = .cells (nilRows l.length).toArray 24 ∧ fb = wr.heap.size ∧ rb = wr.heap.size + 1)) :
    Start w LA l.length lc (made wr sm l.length rb fb A B) nm b2 sm ∧ Rep (ctx w LA lc l nm sm rb fb g cap fs) (made wr sm l.length rb fb A B) (ghost (sm + 1) nm sm rb fb g b2) { st0 l with ref := List.replicate l.length 0 } := by
  obtain ⟨o1, o2, o3, o4⟩ := hst.ord
  have hg := hF.lt g rfl
  have hb : ∀ b, b ≠ sm + 1 → (made wr sm l.length rb fb A B).heap[b]? = ((wr.alloc A).alloc B).heap[b]? := fun b hne => by
    show ((((wr.alloc A).alloc B).setCell _ _).setCell _ _).heap[b]? = _
    rw [Below.heap_setCell _ _ _ _ hne, Below.heap_setCell _ _ _ _ hne]
  have hold : ∀ b, b < wr.heap.size → ((wr.alloc A).alloc B).heap[b]? = wr.heap[b]? := fun b hb => (Below.heap_alloc _ _ _ (by simp; omega)).trans (Below.heap_alloc _ _ _ hb)
  have hA : (made wr sm l.length rb fb A B).heap[wr.heap.size]? = some A := (hb _ (by omega)).trans ((Below.heap_alloc _ _ _ (by simp)).trans (heap_alloc_new wr A))
  have hB : (made wr sm l.length rb fb A B).heap[wr.heap.size + 1]? = some B := by
    rw [hb _ (by omega)]
    have := heap_alloc_new (wr.alloc A) B
    rw [World.size_alloc] at this
    exact this
  have hsz : wr.heap.size ≤ (made wr sm l.length rb fb A B).heap.size := by simp [made, World.drew]; omega
  have hS : Start w LA l.length lc (made wr sm l.length rb fb A B) nm b2 sm := hst.kept rfl rfl rfl hsz (fun b hlt hne => (hb b hne).trans (hold b (by omega)))
  have hR : (made wr sm l.length rb fb A B).heap[sm + 1]? = some (.cells (row2 LA l.length lc nm sm g cap rb fb) 115 (0, 0)) := by
    show ((((wr.alloc A).alloc B).setCell _ _).setCell _ _).heap[sm + 1]? = _
    rw [heap_setCell_same _ _ _ _ _ _ (heap_setCell_same _ _ _ _ _ _ ((hold _ (by omega)).trans hrow))]
    rfl
  have hF2 : (made wr sm l.length rb fb A B).ownsRow (sm + 3) 3 1 (.slice (some ⟨g, 0, none⟩) l.length cap) l.length (intL fs) := ownsRow_of_block hF (fun j hj => by cases hj; exact (hb g (by omega)).trans (hold g hg.2))
  refine ⟨hS, ?_⟩
  rcases h with ⟨rfl, rfl, rfl, rfl⟩ | ⟨rfl, rfl, rfl, rfl⟩
  · exact rep0 hl hS hR hF2 hfl (by simp) hA hB (by omega) (by omega) (by omega) (by omega) (by omega)
  · exact rep0 hl hS hR hF2 hfl (by simp) hB hA (by omega) (by omega) (by omega) (by omega) (by omega)
theorem set_next {N k : Nat} (hk : k < N) : (List.replicate k (-1 : Int) ++ List.replicate (N - k) 0).set k (-1) = List.replicate (k + 1) (-1) ++ List.replicate (N - (k + 1)) 0 := by
  rw [List.set_append]
  simp only [List.length_replicate, Nat.lt_irrefl, if_false, Nat.sub_self]
  obtain ⟨d, hd⟩ : ∃ d, N - k = d + 1 := ⟨N - k - 1, by omega⟩
  rw [hd, show N - (k + 1) = d from by omega, List.replicate_succ, List.set_cons_zero, List.replicate_succ']
  simp
theorem ref_end (l : List Nd) : List.replicate l.length (-1 : Int) ++ List.replicate (l.length - l.length) 0 = (st0 l).ref := by
  simp [st0, List.map_const']
theorem ghost_low {wk nm sm rb fb g b2 k : Nat} (h1 : k < nm) (h2 : nm < b2) (h3 : b2 < sm) (h4 : sm < wk) (h5 : wk < rb) (h6 : wk < fb) (h7 : wk < g) : ghost wk nm sm rb fb g b2 k = 0 := by
  unfold ghost
  rw [if_neg (by omega), if_neg (by omega), if_neg (by omega), if_neg (by omega), if_neg (by omega), if_neg (by omega), if_neg (by omega)]
theorem ghost_ptr {nm sm rb fb g b2 : Nat} (h1 : nm < b2) (h3 : b2 < sm) (h5 : sm + 2 < rb) (h6 : sm + 2 < fb) (h7 : sm + 2 < g) : ghost (sm + 1) nm sm rb fb g b2 (sm + 1 + 1) = 0 := by
  unfold ghost
  rw [if_neg (by omega), if_neg (by omega), if_neg (by omega), if_neg (by omega), if_neg (by omega), if_neg (by omega), if_neg (by omega)]

theorem row_slice_cap {w : World} {v : Value} {xs : List Int} (h : w.ownsRow 0 3 1 v xs.length (intL xs)) : ∃ A c, v = .slice A xs.length c ∧ IntsAt w A xs ∧ xs.length ≤ c := by
  obtain ⟨A, c, e, hA⟩ := row_slice h
  refine ⟨A, c, e, hA, ?_⟩
  obtain ⟨h1, h2⟩ := h
  rcases h2 with ⟨rfl, h0⟩ | ⟨g, cap, cur, rfl, _, hg, h3, h4, h5, h6⟩
  · omega
  · cases e; omega
/-- What Names hands back, as it is read. -/
structure NamesOut (w : World) (rV fV : Value) (ref : List Int) (free : List (List Int)) : Prop where
  r : ∃ A c, rV = .slice A ref.length c ∧ IntsAt w A ref
  f : ∃ A c, fV = .slice A free.length c ∧ ∀ p, p < free.length → ∃ b o A' c', A = some ⟨b, o, none⟩ ∧ w.cell? ⟨b, o + p, none⟩ = some (.slice A' (free.getD p []).length c') ∧ IntsAt w A' (free.getD p []) ∧ (free.getD p []).length ≤ c'
  rs : ref.length ≤ big
  fs : free.length ≤ big
  ps : ∀ p, (free.getD p []).length ≤ big + 3
theorem NamesOut.below {w w' : World} {rV fV : Value} {ref : List Int} {free : List (List Int)} (h : NamesOut w rV fV ref free) (hb : Below w.heap.size w w') : NamesOut w' rV fV ref free := by
  obtain ⟨⟨A, c, e, h1⟩, ⟨A2, c2, e2, h2⟩, h3, h4, h5⟩ := h
  refine ⟨⟨A, c, e, h1.below hb⟩, ⟨A2, c2, e2, fun p hp => ?_⟩, h3, h4, h5⟩
  obtain ⟨b, o, A', c', q1, q2, q3, q4⟩ := h2 p hp
  exact ⟨b, o, A', c', q1, cell_below q2 hb, q3.below hb, q4⟩
theorem out_of_rep {C : Ctx} {w : World} {G : Nat → Nat} {op : List Int} {st : St} (h : Rep C w G st) (hg : Good C.l op st) : NamesOut w (.slice (some ⟨C.rb, 0, none⟩) C.l.length C.l.length) (.slice (some ⟨C.fb, 0, none⟩) C.l.length C.l.length) st.ref st.free := by
  have hN := h.nodes.size
  refine ⟨⟨_, C.l.length, by rw [h.rlen], h.ref.at_⟩, ⟨_, C.l.length, by rw [h.frlen], fun p hp => ?_⟩, by rw [h.rlen]; exact hN, by rw [h.frlen]; exact hN, fun p => by have := hg.free_len p; omega⟩
  obtain ⟨vs, h1, h2, h3⟩ := h.free
  obtain ⟨A', c', e, hA, hcap⟩ := row_slice_cap (h3 p hp).1
  refine ⟨C.fb, 0, A', c', rfl, ?_, hA, hcap⟩
  rw [Nat.zero_add, cell_of_row w C.fb p _ _ _ h2, ← e]
  simp [List.getD_eq_getElem?_getD, List.getElem?_eq_getElem (show p < vs.length by omega)]
/-- What Names does, as its callers see it. -/
def NamesPost (l : List Nd) (w : World) (e : Ending) (w' : World) : Prop :=
  ∃ rV fV, e = .returned (.tuple #[.agg #[rV, fV], .agg #[.int .i64 (namesF l).2.1, .int .i64 (namesF l).2.2]]) ∧ NamesOut w' rV fV (namesF l).1.1 (namesF l).1.2 ∧ Below w.heap.size w w'
theorem Below.set4 {B : Nat} {w w' : World} (h : Below B w w') {a b : Nat} (ha : B ≤ a) (hb : B ≤ b) {x y z u : Value} : Below B w ((((w'.setCell ⟨a, 0, none⟩ x).setCell ⟨a, 1, none⟩ y).setCell ⟨b, 0, none⟩ z).setCell ⟨b, 1, none⟩ u) :=
  (((h.setCell (p := ⟨a, 0, none⟩) ha _).setCell (p := ⟨a, 1, none⟩) ha _).setCell (p := ⟨b, 0, none⟩) hb _).setCell (p := ⟨b, 1, none⟩) hb _
theorem names_post_fault {l : List Nd} {w w' : World} {a c : Int} (h : namesF l = (([], []), a, c)) (hb : Below w.heap.size w w') : NamesPost l w (.returned (.tuple #[.agg #[.slice none 0 0, .slice none 0 0], .agg #[.int .i64 a, .int .i64 c]])) w' := by
  refine ⟨_, _, by rw [h], ?_, hb⟩
  rw [h]
  exact ⟨⟨none, 0, rfl, fun i hi => by simp at hi⟩, ⟨none, 0, rfl, fun i hi => by simp at hi⟩, by simp [big], by simp [big], fun p => by simp⟩
theorem names_post_ok {C : Ctx} {w3 : World} {G : Nat → Nat} {op : List Int} {st : St} (h : namesF C.l = ((st.ref, st.free), 0, 0)) (hR : Rep C w3 G st) (hg : Good C.l op st) (g1 : G (C.w0.heap.size + 1) = 0) (g2 : G (C.w0.heap.size + 1 + 1) = 0) {x y z u : Value} :
    NamesPost C.l C.w0 (.returned (.tuple #[.agg #[.slice (some ⟨C.rb, 0, none⟩) C.l.length C.l.length, .slice (some ⟨C.fb, 0, none⟩) C.l.length C.l.length], .agg #[.int .i64 0, .int .i64 0]]))
      ((((w3.setCell ⟨C.w0.heap.size + 1, 0, none⟩ x).setCell ⟨C.w0.heap.size + 1, 1, none⟩ y).setCell ⟨C.w0.heap.size + 1 + 1, 0, none⟩ z).setCell ⟨C.w0.heap.size + 1 + 1, 1, none⟩ u) := by
  have hR2 := (((hR.setCell (a := ⟨C.w0.heap.size + 1, 0, none⟩) g1 (by show C.w0.heap.size ≤ C.w0.heap.size + 1; omega) x).setCell (a := ⟨C.w0.heap.size + 1, 1, none⟩) g1 (by show C.w0.heap.size ≤ C.w0.heap.size + 1; omega) y).setCell (a := ⟨C.w0.heap.size + 1 + 1, 0, none⟩) g2 (by show C.w0.heap.size ≤ C.w0.heap.size + 1 + 1; omega) z).setCell (a := ⟨C.w0.heap.size + 1 + 1, 1, none⟩) g2 (by show C.w0.heap.size ≤ C.w0.heap.size + 1 + 1; omega) u
  refine ⟨_, _, by rw [h], ?_, hR2.below⟩
  rw [h]
  exact out_of_rep hR2 hg
end Go.Proofs.Ytmaepljmefdhkaa
