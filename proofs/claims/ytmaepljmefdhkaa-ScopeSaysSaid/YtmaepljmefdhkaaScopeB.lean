import Derived.Test.YtmaepljmefdhkaaScopeA
namespace Go.Proofs.Ytmaepljmefdhkaa
open Go.RowKit Go.Maps
set_option maxRecDepth 100000

def RV : Value → Option (DataW Value × List MemPlace) := fun v => some (.held v, [])
theorem law9 : Keyed Try.prog 9 := string_keyed Try.underlying9
theorem law3 : Keyed Try.prog 3 := int_keyed Try.underlying3
abbrev Mean := Int × Int
def mi (ms : List Mean) (i : Nat) : Mean := ms.getD i (0, 0)
def intL (xs : List Int) : List Value := xs.map (Value.int .i64)

/-- What the walker knows: of names, by their letters, what they mean, the innermost last. -/
structure St where
  names : List UInt8 → List Mean
  block : Int
  blocks : Int
  progs : List Int
  set : Int → Bool
  ref : List Int
  free : List (List Int)
  at_ : Int
  code : Int

structure Ctx where
  w0 : World
  LA : Option Addr
  l : List Nd
  lc : Nat
  wk : Nat
  nm : Nat
  sm : Nat
  rb : Nat
  fb : Nat
  ffb : Nat
  fc : Nat
  first : List Int

def knownL (l : List Nd) : List (List UInt8) := "input".toUTF8.data.toList :: "output".toUTF8.data.toList :: l.map (fun n => n.name.data.toList)
def wkRow (C : Ctx) (st : St) (pv : Value) : Array Value :=
  #[.slice C.LA C.l.length C.lc, .slice (some ⟨C.ffb, 0, none⟩) C.l.length C.fc, .map (some C.nm), .int .i64 st.block, .int .i64 st.blocks, pv, .map (some C.sm), .slice (some ⟨C.rb, 0, none⟩) C.l.length C.l.length, .slice (some ⟨C.fb, 0, none⟩) C.l.length C.l.length, .int .i64 st.at_, .int .i64 st.code]

/-- A row of meanings, in a block that nobody writes any more. -/
def MeanAt (w : World) (G : Nat → Nat) (v : Value) (ms : List Mean) : Prop :=
  ∃ b o c, v = .slice (some ⟨b, o, none⟩) ms.length c ∧ ms.length ≤ c ∧ G b = 7 ∧ ∀ i, i < ms.length → w.cell? ⟨b, o + i * 2, none⟩ = some (.int .i64 (mi ms i).1) ∧ w.cell? ⟨b, o + i * 2 + 1, none⟩ = some (.int .i64 (mi ms i).2)
def NameAt (w : World) (G : Nat → Nat) (D : DataW Value) (f : List UInt8 → List Mean) (s : List UInt8) : Prop :=
  (f s = [] ∧ Maps.has D (.string s) = false) ∨ (f s ≠ [] ∧ ∃ v, (∀ z, D.atKey (.string s) z = .held v) ∧ MeanAt w G v (f s))
def NamesIn (w : World) (G : Nat → Nat) (D : DataW Value) (f : List UInt8 → List Mean) : Prop :=
  (∀ kl, Maps.has D kl = true → ∃ s, kl = .string s ∧ f s ≠ []) ∧ ∀ s, NameAt w G D f s
def NamesRep (w : World) (G : Nat → Nat) (nm : Nat) (f : List UInt8 → List Mean) : Prop :=
  ∃ D, w.ownsMap Try.prog 9 RV nm (Maps.size D) D ∧ NamesIn w G D f
def SetRep (w : World) (sm N : Nat) (f : Int → Bool) : Prop :=
  ∃ D : DataW Value, w.ownsMap Try.prog 3 unitElem sm (Maps.size D) D ∧ (∀ i, Maps.has D (.int .i64 i) = f i) ∧ ∀ kl, Maps.has D kl = true → ∃ i : Nat, i < N ∧ kl = .int .i64 i
def FreeRep (w : World) (G : Nat → Nat) (fb : Nat) (free : List (List Int)) : Prop :=
  ∃ vs : List Value, vs.length = free.length ∧ w.heap[fb]? = some (.cells vs.toArray 24 (0, 0)) ∧
    ∀ p, p < free.length → w.ownsRow 0 3 1 (vs.getD p undef) (free.getD p []).length (intL (free.getD p [])) ∧ ∀ j, (vs.getD p undef).ownBlock = some j → G j = 9 + p

structure Rep (C : Ctx) (w : World) (G : Nat → Nat) (st : St) : Prop where
  below : Below C.w0.heap.size C.w0 w
  own : ∀ k, G k ≠ 0 → C.w0.heap.size ≤ k ∧ k < w.heap.size
  gw : G C.wk = 1
  gn : G C.nm = 2
  gs : G C.sm = 3
  gr : G C.rb = 5
  gf : G C.fb = 6
  gff : G C.ffb = 8
  nodes : NodesAt C.w0 C.LA C.l
  first : IntsAt w (some ⟨C.ffb, 0, none⟩) C.first
  flen : C.first.length = C.l.length
  known : ∀ s, st.names s ≠ [] → s ∈ knownL C.l
  rlen : st.ref.length = C.l.length
  frlen : st.free.length = C.l.length
  wkr : ∃ pv, w.heap[C.wk]? = some (.cells (wkRow C st pv) 115 (0, 0)) ∧ w.ownsRow 0 3 1 pv st.progs.length (intL st.progs) ∧ ∀ j, pv.ownBlock = some j → G j = 4
  names : NamesRep w G C.nm st.names
  set : SetRep w C.sm C.l.length st.set
  ref : IntsBlk w C.rb st.ref
  free : FreeRep w G C.fb st.free

/-- One step on: the foreign blocks stand; who owns what of old stays. -/
structure Stp (G : Nat → Nat) (w : World) (G' : Nat → Nat) (w' : World) : Prop where
  os : w'.os = w.os
  tape : w'.tape = w.tape
  output : w'.output = w.output
  size : w.heap.size ≤ w'.heap.size
  block : ∀ k, k < w.heap.size → G k = 0 → w'.heap[k]? = w.heap[k]?
  own : ∀ k, k < w.heap.size → G' k = G k
theorem Stp.refl (G : Nat → Nat) (w : World) : Stp G w G w := ⟨rfl, rfl, rfl, Nat.le_refl _, fun _ _ _ => rfl, fun _ _ => rfl⟩
theorem Stp.trans {G G1 G2 : Nat → Nat} {w w1 w2 : World} (h : Stp G w G1 w1) (k : Stp G1 w1 G2 w2) : Stp G w G2 w2 :=
  ⟨k.os.trans h.os, k.tape.trans h.tape, k.output.trans h.output, Nat.le_trans h.size k.size,
   fun i hi h0 => (k.block i (Nat.lt_of_lt_of_le hi h.size) ((h.own i hi).trans h0)).trans (h.block i hi h0), fun i hi => (k.own i (Nat.lt_of_lt_of_le hi h.size)).trans (h.own i hi)⟩
theorem Stp.cell {G G' : Nat → Nat} {w w' : World} (h : Stp G w G' w') {b o : Nat} (hb : b < w.heap.size) (h0 : G b = 0) : w'.cell? ⟨b, o, none⟩ = w.cell? ⟨b, o, none⟩ := World.cell?_of_block (h.block b hb h0)
theorem Stp.frozen {G G' : Nat → Nat} {w w' : World} (h : Stp G w G' w') {b o : Nat} (hb : b < w.heap.size) (h0 : G b = 0) : w'.frozen? ⟨b, o, none⟩ = w.frozen? ⟨b, o, none⟩ := World.frozen?_of_block (h.block b hb h0)
theorem Stp.alloc {G G' : Nat → Nat} {w w' : World} (h : Stp G w G' w') (o : Obj) : Stp G w G' (w'.alloc o) :=
  ⟨h.os, h.tape, h.output, Nat.le_trans h.size (by simp), fun k hk h0 => (Below.heap_alloc w' o k (Nat.lt_of_lt_of_le hk h.size)).trans (h.block k hk h0), h.own⟩
theorem Stp.drew {G G' : Nat → Nat} {w w' : World} (h : Stp G w G' w') : Stp G w G' w'.drew := ⟨h.os, h.tape, h.output, h.size, h.block, h.own⟩
theorem Stp.drewN {G G' : Nat → Nat} {w w' : World} (h : Stp G w G' w') (n : Nat) : Stp G w G' (w'.drewN n) := ⟨h.os, h.tape, h.output, h.size, h.block, h.own⟩
theorem Stp.setCell {G G' : Nat → Nat} {w w' : World} (h : Stp G w G' w') {a : Addr} (ha : w.heap.size ≤ a.block ∨ G a.block ≠ 0) (u : Value) : Stp G w G' (w'.setCell a u) :=
  ⟨h.os, h.tape, h.output, by simpa using h.size, fun k hk h0 => (Below.heap_setCell w' a u k (fun e => by subst e; rcases ha with ha | ha; omega; exact ha h0)).trans (h.block k hk h0), h.own⟩

section
variable {w w' : World} {G G' : Nat → Nat}
theorem MeanAt.kept {v : Value} {ms : List Mean} (h : MeanAt w G v ms) (hk : ∀ k, G k = 7 → w'.heap[k]? = w.heap[k]?) (hG : ∀ k, G k = 7 → G' k = 7) : MeanAt w' G' v ms := by
  obtain ⟨b, o, c, rfl, hc, hb, hm⟩ := h
  exact ⟨b, o, c, rfl, hc, hG b hb, fun i hi => ⟨(World.cell?_of_block (a := ⟨b, _, none⟩) (hk b hb)).trans (hm i hi).1, (World.cell?_of_block (a := ⟨b, _, none⟩) (hk b hb)).trans (hm i hi).2⟩⟩
theorem NamesIn.kept {D : DataW Value} {f : List UInt8 → List Mean} (h : NamesIn w G D f) (hk : ∀ k, G k = 7 → w'.heap[k]? = w.heap[k]?) (hG : ∀ k, G k = 7 → G' k = 7) : NamesIn w' G' D f :=
  ⟨h.1, fun s => (h.2 s).imp id (fun ⟨h1, v, hv, hm⟩ => ⟨h1, v, hv, hm.kept hk hG⟩)⟩
theorem ownsMap_of_block {H : Type} {P : Program} {k : TypeId} {R : Value → Option (DataW H × List MemPlace)} {b n : Nat} {D : DataW H} (h : w.ownsMap P k R b n D) (hb : w'.heap[b]? = w.heap[b]?) : w'.ownsMap P k R b n D := by
  obtain ⟨es, clock, h1, h2⟩ := h
  exact ⟨es, clock, hb.trans h1, h2⟩
theorem ownsRow_of_block {base : Nat} {e : TypeId} {size n : Nat} {v : Value} {xs : List Value} (h : w.ownsRow base e size v n xs) (hb : ∀ j, v.ownBlock = some j → w'.heap[j]? = w.heap[j]?) : w'.ownsRow base e size v n xs := by
  obtain ⟨h1, h2⟩ := h
  refine ⟨h1, h2.imp id ?_⟩
  rintro ⟨g, cap, cur, rfl, h3, h4, h5⟩
  exact ⟨g, cap, cur, rfl, h3, (hb g rfl).trans h4, h5⟩
theorem NamesRep.kept {nm : Nat} {f : List UInt8 → List Mean} (h : NamesRep w G nm f) (hn : w'.heap[nm]? = w.heap[nm]?) (hk : ∀ k, G k = 7 → w'.heap[k]? = w.heap[k]?) (hG : ∀ k, G k = 7 → G' k = 7) : NamesRep w' G' nm f := by
  obtain ⟨D, h1, h2⟩ := h
  exact ⟨D, ownsMap_of_block h1 hn, h2.kept hk hG⟩
theorem SetRep.kept {sm N : Nat} {f : Int → Bool} (h : SetRep w sm N f) (hn : w'.heap[sm]? = w.heap[sm]?) : SetRep w' sm N f := by
  obtain ⟨D, h1, h2⟩ := h
  exact ⟨D, ownsMap_of_block h1 hn, h2⟩
theorem FreeRep.kept {fb : Nat} {free : List (List Int)} (h : FreeRep w G fb free) (hn : w'.heap[fb]? = w.heap[fb]?) (hk : ∀ k, 9 ≤ G k → w'.heap[k]? = w.heap[k]?) (hG : ∀ k, 9 ≤ G k → G' k = G k) : FreeRep w' G' fb free := by
  obtain ⟨vs, h1, h2, h3⟩ := h
  exact ⟨vs, h1, hn.trans h2, fun p hp => ⟨ownsRow_of_block (h3 p hp).1 (fun j hj => hk j (by rw [(h3 p hp).2 j hj]; omega)), fun j hj => by rw [hG j (by rw [(h3 p hp).2 j hj]; omega)]; exact (h3 p hp).2 j hj⟩⟩
theorem IntsAt.of_block {b o : Nat} {xs : List Int} (h : IntsAt w (some ⟨b, o, none⟩) xs) (hn : w'.heap[b]? = w.heap[b]?) : IntsAt w' (some ⟨b, o, none⟩) xs := fun i hi => by
  obtain ⟨b', o', e, hc⟩ := h i hi
  obtain ⟨rfl, rfl⟩ : b = b' ∧ o = o' := by simpa using e
  exact ⟨b, o, rfl, (World.cell?_of_block (a := ⟨b, _, none⟩) hn).trans hc⟩

variable {C : Ctx} {st : St}
/-- What is owned stands as it was: the walker is as it was. -/
theorem Rep.kept (h : Rep C w G st) (hb : Below C.w0.heap.size C.w0 w') (hs : w.heap.size ≤ w'.heap.size) (hk : ∀ k, G k ≠ 0 → w'.heap[k]? = w.heap[k]?) : Rep C w' G st := by
  have k0 : ∀ k n, G k = n → n ≠ 0 → w'.heap[k]? = w.heap[k]? := fun k n e hn => hk k (by omega)
  obtain ⟨pv, h1, h2, h3⟩ := h.wkr
  exact { h with
    below := hb
    own := fun k hk => ⟨(h.own k hk).1, Nat.lt_of_lt_of_le (h.own k hk).2 hs⟩
    first := h.first.of_block (k0 _ _ h.gff (by omega))
    wkr := ⟨pv, (k0 _ _ h.gw (by omega)).trans h1, ownsRow_of_block h2 (fun j hj => k0 _ _ (h3 j hj) (by omega)), h3⟩
    names := h.names.kept (k0 _ _ h.gn (by omega)) (fun k hk => k0 _ _ hk (by omega)) (fun _ hk => hk)
    set := h.set.kept (k0 _ _ h.gs (by omega))
    ref := (k0 _ _ h.gr (by omega)).trans h.ref
    free := h.free.kept (k0 _ _ h.gf (by omega)) (fun k hk0 => hk k (by omega)) (fun _ _ => rfl) }
theorem Rep.alloc (h : Rep C w G st) (o : Obj) : Rep C (w.alloc o) G st :=
  h.kept (h.below.alloc h.below.size _) (by simp) (fun k hk => Below.heap_alloc w o k (h.own k hk).2)
theorem Rep.drewN (h : Rep C w G st) (n : Nat) : Rep C (w.drewN n) G st := h.kept ⟨h.below.os, h.below.tape, h.below.output, h.below.size, h.below.block⟩ (Nat.le_refl _) (fun _ _ => rfl)
theorem Rep.drew (h : Rep C w G st) : Rep C w.drew G st := h.kept ⟨h.below.os, h.below.tape, h.below.output, h.below.size, h.below.block⟩ (Nat.le_refl _) (fun _ _ => rfl)
theorem Rep.ne (h : Rep C w G st) {k : Nat} (hk : w.heap.size ≤ k) : G k = 0 := by
  rcases Nat.eq_zero_or_pos (G k) with e | e
  · exact e
  · have := (h.own k (by omega)).2
    omega
/-- A store into a block that is not the walker's. -/
theorem Rep.setCell (h : Rep C w G st) {a : Addr} (ha : G a.block = 0) (hb : C.w0.heap.size ≤ a.block) (u : Value) : Rep C (w.setCell a u) G st :=
  h.kept (h.below.setCell hb u) (by simp) (fun k hk => Below.heap_setCell w a u k (fun e => by subst e; exact hk ha))
theorem Rep.nodesAt (h : Rep C w G st) : NodesAt w C.LA C.l := h.nodes.below h.below
theorem Rep.cells (h : Rep C w G st) : ∃ pv, (∀ i, w.cell? ⟨C.wk, i, none⟩ = (wkRow C st pv)[i]?) ∧ (∀ i, w.frozen? ⟨C.wk, i, none⟩ = false) ∧ w.heap[C.wk]? = some (.cells (wkRow C st pv) 115 (0, 0)) ∧ w.ownsRow 0 3 1 pv st.progs.length (intL st.progs) ∧ ∀ j, pv.ownBlock = some j → G j = 4 := by
  obtain ⟨pv, h1, h2, h3⟩ := h.wkr
  exact ⟨pv, fun i => cell_of_row w C.wk i _ _ _ h1, fun i => frozen_of_row w C.wk i _ _ h1, h1, h2, h3⟩
/-- The walker's own row is written. -/
theorem Rep.wkset (h : Rep C w G st) {st' : St} {pv : Value} (hs : w'.heap.size = w.heap.size) (ho : w'.os = w.os) (ht : w'.tape = w.tape) (hu : w'.output = w.output) (hk : ∀ k, k ≠ C.wk → w'.heap[k]? = w.heap[k]?)
    (h1 : w'.heap[C.wk]? = some (.cells (wkRow C st' pv) 115 (0, 0))) (h2 : w.ownsRow 0 3 1 pv st'.progs.length (intL st'.progs)) (h3 : ∀ j, pv.ownBlock = some j → G j = 4)
    (e1 : st'.names = st.names) (e2 : st'.set = st.set) (e3 : st'.ref = st.ref) (e4 : st'.free = st.free) : Rep C w' G st' ∧ Stp G w G w' := by
  have gw := h.gw
  have kk : ∀ k n, G k = n → n ≠ 1 → w'.heap[k]? = w.heap[k]? := fun k n e hn => hk k (fun e' => by subst e'; omega)
  refine ⟨{ h with
    below := ⟨ho.trans h.below.os, ht.trans h.below.tape, hu.trans h.below.output, by rw [hs]; exact h.below.size, fun k hk' => (hk k (fun e => by rw [e] at hk'; have := (h.own C.wk (by rw [gw]; decide)).1; omega)).trans (h.below.block k hk')⟩
    own := fun k hk => by rw [hs]; exact h.own k hk
    first := h.first.of_block (kk _ _ h.gff (by omega))
    wkr := ⟨pv, h1, ownsRow_of_block h2 (fun j hj => kk _ _ (h3 j hj) (by omega)), h3⟩
    rlen := by rw [e3]; exact h.rlen
    frlen := by rw [e4]; exact h.frlen
    known := by rw [e1]; exact h.known
    names := by rw [e1]; exact h.names.kept (kk _ _ h.gn (by omega)) (fun k hk => kk _ _ hk (by omega)) (fun _ hk => hk)
    set := by rw [e2]; exact h.set.kept (kk _ _ h.gs (by omega))
    ref := by rw [e3]; exact (kk _ _ h.gr (by omega)).trans h.ref
    free := by rw [e4]; exact h.free.kept (kk _ _ h.gf (by omega)) (fun k hk0 => kk k _ rfl (by omega)) (fun _ _ => rfl) }, ?_⟩
  exact ⟨ho, ht, hu, by omega, fun k _ h0 => hk k (fun e => by subst e; omega), fun _ _ => rfl⟩
end
end Go.Proofs.Ytmaepljmefdhkaa
