import Derived.Test.YtmaepljmefdhkaaScopeF
namespace Go.Proofs.Ytmaepljmefdhkaa
open Go.RowKit Go.Maps
set_option maxHeartbeats 4000000
set_option maxRecDepth 100000

def isVarB (l : List Nd) (d : Int) : Bool := decide (0 ≤ d) && (nd l d.toNat).kind == 32
def addFree (first : List Int) (d : Int) (fr : List (List Int)) (p : Int) : List (List Int) :=
  if insideB first d p || hasB (fr.getD p.toNat []) d then fr else fr.set p.toNat (fr.getD p.toNat [] ++ [d])
def bindF (first : List Int) (st : St) (i : Nat) (d : Int) : St := { st with ref := st.ref.set i d, free := st.progs.foldl (addFree first d) st.free }
def nameF (l : List Nd) (first : List Int) (st : St) (i : Nat) : St :=
  if st.names (nameL l i) = [] then wrongF l st i 51
  else if isVarB l (lastM (st.names (nameL l i))).1 && decide (0 < st.progs.length) && !insideB first (lastM (st.names (nameL l i))).1 (gi st.progs (st.progs.length - 1)) then wrongF l st i 53
  else if st.set i && !isVarB l (lastM (st.names (nameL l i))).1 then wrongF l st i 52
  else bindF first st i (lastM (st.names (nameL l i))).1

section
variable {C : Ctx} {w w' w1 : World} {G : Nat → Nat} {st : St}
/-- A number is written into the row of what names mean. -/
theorem Rep.refset (h : Rep C w G st) (i : Nat) (d : Int) : Rep C (w.setCell ⟨C.rb, i, none⟩ (.int .i64 d)) G { st with ref := st.ref.set i d } ∧ Stp G w G (w.setCell ⟨C.rb, i, none⟩ (.int .i64 d)) := by
  have gr := h.gr
  have kk : ∀ k n, G k = n → n ≠ 5 → (w.setCell ⟨C.rb, i, none⟩ (.int .i64 d)).heap[k]? = w.heap[k]? := fun k n e hn => Below.heap_setCell _ _ _ _ (fun e' => by rw [show k = C.rb from e'] at e; omega)
  obtain ⟨pv, r1, r2, r3⟩ := h.wkr
  have hbase := (h.own C.rb (by omega)).1
  exact ⟨{ h with
    below := h.below.setCell hbase _
    own := fun k hk => by simpa using h.own k hk
    first := h.first.of_block (kk _ _ h.gff (by omega))
    rlen := by show (st.ref.set i d).length = _; rw [List.length_set]; exact h.rlen
    wkr := ⟨pv, (kk _ _ h.gw (by omega)).trans r1, ownsRow_of_block r2 (fun j hj => kk _ _ (r3 j hj) (by omega)), r3⟩
    names := h.names.kept (kk _ _ h.gn (by omega)) (fun k hk => kk _ _ hk (by omega)) (fun _ hk => hk)
    set := h.set.kept (kk _ _ h.gs (by omega))
    ref := h.ref.set i d
    free := h.free.kept (kk _ _ h.gf (by omega)) (fun k hk0 => kk k _ rfl (by omega)) (fun _ _ => rfl) }, (Stp.refl G w).setCell (Or.inr (by show G C.rb ≠ 0; omega)) _⟩
/-- One row of what is captured has grown by one; it is written into its place. -/
theorem Rep.freeset (h : Rep C w G st) {p g cap : Nat} {d : Int} (hp : p < st.free.length) (vs : List Value) (hv : vs.length = st.free.length) (hb : w.heap[C.fb]? = some (.cells vs.toArray 24 (0, 0)))
    (hr : ∀ q, q < st.free.length → w.ownsRow 0 3 1 (vs.getD q undef) (st.free.getD q []).length (intL (st.free.getD q [])) ∧ ∀ j, (vs.getD q undef).ownBlock = some j → G j = 9 + q)
    (hown : w1.ownsRow 0 3 1 (.slice (some ⟨g, 0, none⟩) ((st.free.getD p []).length + 1) cap) ((st.free.getD p []).length + 1) (intL (st.free.getD p [] ++ [d])))
    (hg : w.grownBy w1 (vs.getD p undef).ownBlock) (hat : (vs.getD p undef).ownBlock = some g ∨ g = w.heap.size) :
    ∃ G', Rep C (w1.setCell ⟨C.fb, p, none⟩ (.slice (some ⟨g, 0, none⟩) ((st.free.getD p []).length + 1) cap)) G' { st with free := st.free.set p (st.free.getD p [] ++ [d]) } ∧ Stp G w G' (w1.setCell ⟨C.fb, p, none⟩ (.slice (some ⟨g, 0, none⟩) ((st.free.getD p []).length + 1) cap)) ∧ ∀ k, G k = 4 → G' k = 4 ∧ (w1.setCell ⟨C.fb, p, none⟩ (.slice (some ⟨g, 0, none⟩) ((st.free.getD p []).length + 1) cap)).heap[k]? = w.heap[k]? := by
  have gf := h.gf
  have hfb := (h.own C.fb (by omega))
  have hp' : p < vs.length := by omega
  have hrp := hr p hp
  have hgfb : g ≠ C.fb := fun e => by
    rcases hat with e1 | e1
    · have := hrp.2 g e1; rw [e] at this; omega
    · omega
  have hgG : ∀ k, G k ≠ 0 → (if k = g then 9 + p else G k) = G k := fun k hk => by
    by_cases e : k = g
    · rw [if_pos e]
      rcases hat with e1 | e1
      · rw [e]; exact (hrp.2 g e1).symm
      · have := (h.own k hk).2; omega
    · rw [if_neg e]
  have kk : ∀ k n, G k = n → n ≠ 6 → n ≠ 9 + p → n ≠ 0 → (w1.setCell ⟨C.fb, p, none⟩ (.slice (some ⟨g, 0, none⟩) ((st.free.getD p []).length + 1) cap)).heap[k]? = w.heap[k]? := fun k n e hn hn2 h0 => by
    rw [Below.heap_setCell _ _ _ _ (show k ≠ C.fb from fun e' => by subst e'; omega)]
    exact hg.block k (h.own k (by omega)).2 (fun e' => by have := hrp.2 k e'.symm; omega)
  have hb1 : w1.heap[C.fb]? = some (.cells vs.toArray 24 (0, 0)) := (hg.block C.fb hfb.2 (fun e' => by have := hrp.2 _ e'.symm; omega)).trans hb
  obtain ⟨pv, r1, r2, r3⟩ := h.wkr
  have hlow : ∀ k, k < C.w0.heap.size → (w1.setCell ⟨C.fb, p, none⟩ (.slice (some ⟨g, 0, none⟩) ((st.free.getD p []).length + 1) cap)).heap[k]? = w.heap[k]? := fun k hk => by
    rw [Below.heap_setCell _ _ _ _ (show k ≠ C.fb from fun e' => by omega)]
    exact hg.block k (Nat.lt_of_lt_of_le hk h.below.size) (fun e' => by have h1 := hrp.2 k e'.symm; have := (h.own k (by omega)).1; omega)
  refine ⟨fun k => if k = g then 9 + p else G k, { h with
    below := ⟨hg.os.trans h.below.os, hg.tape.trans h.below.tape, hg.output.trans h.below.output, by simpa using Nat.le_trans h.below.size hg.size, fun k hk => (hlow k hk).trans (h.below.block k hk)⟩
    own := fun k hk => ?_
    gw := (hgG _ (by rw [h.gw]; decide)).trans h.gw
    gn := (hgG _ (by rw [h.gn]; decide)).trans h.gn
    gs := (hgG _ (by rw [h.gs]; decide)).trans h.gs
    gr := (hgG _ (by rw [h.gr]; decide)).trans h.gr
    gf := (hgG _ (by rw [h.gf]; decide)).trans h.gf
    gff := (hgG _ (by rw [h.gff]; decide)).trans h.gff
    first := h.first.of_block (kk _ _ h.gff (by omega) (by omega) (by omega))
    frlen := by show (st.free.set p _).length = _; rw [List.length_set]; exact h.frlen
    wkr := ⟨pv, (kk _ _ h.gw (by omega) (by omega) (by omega)).trans r1, ownsRow_of_block r2 (fun j hj => kk _ _ (r3 j hj) (by omega) (by omega) (by omega)), fun j hj => (hgG j (by rw [r3 j hj]; decide)).trans (r3 j hj)⟩
    names := h.names.kept (kk _ _ h.gn (by omega) (by omega) (by omega)) (fun k hk => kk _ _ hk (by omega) (by omega) (by omega)) (fun k hk => (hgG k (by rw [hk]; decide)).trans hk)
    set := h.set.kept (kk _ _ h.gs (by omega) (by omega) (by omega))
    ref := (kk _ _ h.gr (by omega) (by omega) (by omega)).trans h.ref
    free := ⟨vs.set p (.slice (some ⟨g, 0, none⟩) ((st.free.getD p []).length + 1) cap), by simp [hv], ?_, fun q hq => ?_⟩ }, ?_, fun k hk => ⟨(hgG k (by omega)).trans hk, kk k 4 hk (by omega) (by omega) (by omega)⟩⟩
  · by_cases e : k = g
    · subst e
      have hlt : k < w1.heap.size := (hown.lt k rfl).2
      refine ⟨?_, by simpa using hlt⟩
      rcases hat with e1 | e1
      · have h1 := hrp.2 k e1
        exact (h.own k (by omega)).1
      · have := h.below.size; omega
    · rw [if_neg e] at hk
      exact ⟨(h.own k hk).1, by simpa using Nat.lt_of_lt_of_le (h.own k hk).2 hg.size⟩
  · rw [heap_setCell_same _ _ _ _ _ _ hb1]
    simp
  · have hq' : q < st.free.length := by simpa using hq
    by_cases e : q = p
    · subst e
      simp only [List.getD_eq_getElem?_getD, List.getElem?_set_self hp', List.getElem?_set_self hp, Option.getD_some] at hown ⊢
      refine ⟨?_, fun j hj => ?_⟩
      · rw [List.length_append]
        exact ownsRow_of_block hown (fun j hj => by cases hj; exact Below.heap_setCell _ _ _ _ hgfb)
      · cases hj; exact if_pos rfl
    · have e1 : (vs.set p (.slice (some ⟨g, 0, none⟩) ((st.free.getD p []).length + 1) cap)).getD q undef = vs.getD q undef := by simp [List.getD_eq_getElem?_getD, List.getElem?_set_ne (fun e' => e e'.symm)]
      have e2 : (st.free.set p (st.free.getD p [] ++ [d])).getD q [] = st.free.getD q [] := by simp [List.getD_eq_getElem?_getD, List.getElem?_set_ne (fun e' => e e'.symm)]
      rw [e1, e2]
      exact ⟨ownsRow_of_block (hr q hq').1 (fun j hj => kk _ _ ((hr q hq').2 j hj) (by omega) (by omega) (by omega)), fun j hj => (hgG j (by rw [(hr q hq').2 j hj]; omega)).trans ((hr q hq').2 j hj)⟩
  · refine ⟨hg.os, hg.tape, hg.output, by simpa using hg.size, fun k hk h0 => ?_, fun k hk => ?_⟩
    · rw [Below.heap_setCell _ _ _ _ (show k ≠ C.fb from fun e' => by subst e'; omega)]
      exact hg.block k hk (fun e' => by have := hrp.2 k e'.symm; omega)
    · by_cases e : k = g
      · rw [if_pos e]
        rcases hat with e1 | e1
        · rw [e]; exact (hrp.2 g e1).symm
        · omega
      · exact if_neg e
theorem free_step (h : Rep C w G st) {vs : List Value} (hv : vs.length = st.free.length) (hb : w.heap[C.fb]? = some (.cells vs.toArray 24 (0, 0)))
    (hr : ∀ q, q < st.free.length → w.ownsRow 0 3 1 (vs.getD q undef) (st.free.getD q []).length (intL (st.free.getD q [])) ∧ ∀ j, (vs.getD q undef).ownBlock = some j → G j = 9 + q) {p g cap : Nat} {d : Int} (hp : p < st.free.length) {m : Nat} {o : Obj}
    (hown : w1.ownsRow 0 3 1 (.slice (some ⟨g, 0, none⟩) ((st.free.getD p []).length + 1) cap) ((st.free.getD p []).length + 1) (intL (st.free.getD p []) ++ [.int .i64 d]))
    (hg : ((w.drewN m).alloc o).grownBy w1 (vs.getD p undef).ownBlock) (hat : (vs.getD p undef).ownBlock = some g ∨ g = ((w.drewN m).alloc o).heap.size) :
    ∃ G', Hid (Rep C (w1.setCell ⟨C.fb, p, none⟩ (.slice (some ⟨g, 0, none⟩) ((st.free.getD p []).length + 1) cap)) G' { st with free := st.free.set p (st.free.getD p [] ++ [d]) } ∧ Stp G w G' (w1.setCell ⟨C.fb, p, none⟩ (.slice (some ⟨g, 0, none⟩) ((st.free.getD p []).length + 1) cap)) ∧ ∀ k, G k = 4 → G' k = 4 ∧ (w1.setCell ⟨C.fb, p, none⟩ (.slice (some ⟨g, 0, none⟩) ((st.free.getD p []).length + 1) cap)).heap[k]? = w.heap[k]?) ∧
      w1.cell? ⟨C.wk, 8, none⟩ = some (.slice (some ⟨C.fb, 0, none⟩) C.l.length C.l.length) ∧ w1.frozen? ⟨C.fb, p, none⟩ = false ∧ w1.cell? ⟨C.fb, p, none⟩ = some (vs.getD p undef) := by
  have hR := (h.drewN m).alloc o
  have hS := ((Stp.refl G w).drewN m).alloc o
  have hall : ∀ k, k < w.heap.size → ((w.drewN m).alloc o).heap[k]? = w.heap[k]? := fun k hk => Below.heap_alloc (w.drewN m) o k hk
  have gf := h.gf
  have gw := h.gw
  have hfb := (h.own C.fb (by omega)).2
  have hwk := (h.own C.wk (by omega)).2
  have hr2 : ∀ q, q < st.free.length → ((w.drewN m).alloc o).ownsRow 0 3 1 (vs.getD q undef) (st.free.getD q []).length (intL (st.free.getD q [])) ∧ ∀ j, (vs.getD q undef).ownBlock = some j → G j = 9 + q := fun q hq => ⟨ownsRow_of_block (hr q hq).1 (fun j hj => hall j ((hr q hq).1.lt j hj).2), (hr q hq).2⟩
  obtain ⟨G', h1, h2, h3⟩ := hR.freeset (p := p) (d := d) hp vs hv ((hall _ hfb).trans hb) hr2 (by rw [intL, List.map_append]; exact hown) hg hat
  refine ⟨G', Lib.hid ⟨h1, hS.trans h2, fun k hk => ⟨(h3 k hk).1, (h3 k hk).2.trans (hall k (h.own k (by omega)).2)⟩⟩, ?_, ?_, ?_⟩
  · obtain ⟨pv, hc, _⟩ := hR.cells
    exact (World.cell?_of_block (a := ⟨C.wk, 8, none⟩) (hg.block C.wk (by simpa using Nat.lt_succ_of_lt hwk) (fun e' => by have := (hr p hp).2 _ e'.symm; omega))).trans (hc 8)
  · have e1 : w1.heap[C.fb]? = some (.cells vs.toArray 24 (0, 0)) := (hg.block C.fb (by simpa using Nat.lt_succ_of_lt hfb) (fun e' => by have := (hr p hp).2 _ e'.symm; omega)).trans ((hall _ hfb).trans hb)
    exact frozen_of_row w1 C.fb p _ _ e1
  · have e1 : w1.heap[C.fb]? = some (.cells vs.toArray 24 (0, 0)) := (hg.block C.fb (by simpa using Nat.lt_succ_of_lt hfb) (fun e' => by have := (hr p hp).2 _ e'.symm; omega)).trans ((hall _ hfb).trans hb)
    rw [cell_of_row w1 C.fb p _ _ _ e1]; simp [show p < vs.length by omega]
end
end Go.Proofs.Ytmaepljmefdhkaa
