import Derived.Test.YtmaepljmefdhkaaScopeZ
namespace Go.Proofs.Ytmaepljmefdhkaa
open Go.RowKit Go.Maps
set_option maxHeartbeats 4000000
set_option maxRecDepth 100000

theorem own_base {w : World} {base n : Nat} {v : Value} {xs : List Value} (h : w.ownsRow base 3 1 v n xs) : w.ownsRow 0 3 1 v n xs := ⟨h.1, h.2.imp id (fun ⟨g, cap, cur, h1, _, h3⟩ => ⟨g, cap, cur, h1, Nat.zero_le _, h3⟩)⟩
theorem own_get {w : World} {base g n cap : Nat} {xs : List Int} (h : w.ownsRow base 3 1 (.slice (some ⟨g, 0, none⟩) n cap) n (intL xs)) {j : Nat} (hj : j < n) : w.cell? ⟨g, j, none⟩ = some (.int .i64 (gi xs j)) := by
  have hl : xs.length = n := by have := h.1; simpa [intL] using this
  rw [h.cellAt j (by omega)]
  simp [intL, gi, List.getElem?_eq_getElem (show j < xs.length by omega), List.getD_eq_getElem?_getD]
theorem own_set {w : World} {base g n cap : Nat} {xs : List Int} (h : w.ownsRow base 3 1 (.slice (some ⟨g, 0, none⟩) n cap) n (intL xs)) {j : Nat} (x : Int) : (w.setCell ⟨g, j, none⟩ (.int .i64 x)).ownsRow base 3 1 (.slice (some ⟨g, 0, none⟩) n cap) n (intL (xs.set j x)) := by
  have h2 := (h.stored j (.int .i64 x)).1
  simpa [intL, List.map_set] using h2
theorem info24 : (Try.prog.info? 24).map (fun i => (i.zero, i.size, i.bytes)) = some (some (.slice none 0 0), 1, 24) := by kernel_rfl
def nilRows (n : Nat) : List Value := List.replicate n (.slice none 0 0)
theorem made_rows (n : Nat) : madeCells #[.slice none 0 0] n = (nilRows n).toArray := by
  apply Array.ext
  · simp [madeCells, nilRows]
  · intro i h1 h2
    simp [madeCells, nilRows, Nat.mod_one]
theorem make_rows (n : Nat) (hn : n ≤ big) (W : World) : (Instr.makeSlice 37 (.int .i64 (n : Int)) (.int .i64 (n : Int))).run Try.prog W = .ok (.slice (some ⟨W.heap.size, 0, none⟩) n n) (W.alloc (.cells (nilRows n).toArray 24)) := by
  have h := run_make_row' (P := Try.prog) 37 24 (.slice none 0 0) 24 Try.underlying37 info24 rfl .i64 .i64 n (by unfold big at hn; omega) (by unfold big at hn; omega) W
  rw [h, made_rows]

/-- Who owns what, when the walk begins. -/
def ghost (wk nm sm rb fb g b2 : Nat) (k : Nat) : Nat :=
  if k = wk then 1 else if k = nm then 2 else if k = sm then 3 else if k = rb then 5 else if k = fb then 6 else if k = g then 8 else if k = nm + 1 ∨ k = b2 then 7 else 0
theorem name_in : bIn.data.toList = "input".toUTF8.data.toList := by decide
theorem name_out : bOut.data.toList = "output".toUTF8.data.toList := by decide
theorem in_ne_out : bIn.data.toList ≠ bOut.data.toList := by decide
theorem good0 (l : List Nd) : Good l [] (st0 l) := by
  refine ⟨fun s => ?_, fun s m hm => ?_, fun k hk => ?_, fun q => ?_, fun q x hx => ?_⟩
  · simp only [st0]
    split
    · simp
    · split <;> simp
  · simp only [st0] at hm
    split at hm
    · simp at hm; subst hm; exact ⟨by decide, by show (-2 : Int) < _; omega⟩
    · split at hm
      · simp at hm; subst hm; exact ⟨by decide, by show (-3 : Int) < _; omega⟩
      · simp at hm
  · simp [st0] at hk
  · have : (st0 l).free.getD q [] = [] := by
      simp only [st0]
      rw [List.getD_eq_getElem?_getD, List.getElem?_map]
      cases l[q]? <;> rfl
    rw [this]; simp
  · have : (st0 l).free.getD q [] = [] := by
      simp only [st0]
      rw [List.getD_eq_getElem?_getD, List.getElem?_map]
      cases l[q]? <;> rfl
    rw [this] at hx; simp at hx

def row2 (LA : Option Addr) (N lc nm sm g cap rb fb : Nat) : Array Value :=
  #[.slice LA N lc, .slice (some ⟨g, 0, none⟩) N cap, .map (some nm), .int .i64 0, .int .i64 0, .slice none 0 0, .map (some sm), .slice (some ⟨rb, 0, none⟩) N N, .slice (some ⟨fb, 0, none⟩) N N, .int .i64 0, .int .i64 0]
def ctx (w : World) (LA : Option Addr) (lc : Nat) (l : List Nd) (nm sm rb fb g cap : Nat) (fs : List Int) : Ctx :=
  { w0 := w, LA := LA, l := l, lc := lc, wk := sm + 1, nm := nm, sm := sm, rb := rb, fb := fb, ffb := g, fc := cap, first := fs }
theorem rep0 {w W : World} {LA : Option Addr} {lc : Nat} {l : List Nd} {nm b2 sm rb fb g cap : Nat} {fs rs : List Int} (hl : NodesAt w LA l) (hst : Start w LA l.length lc W nm b2 sm) (hrow : W.heap[sm + 1]? = some (.cells (row2 LA l.length lc nm sm g cap rb fb) 115 (0, 0)))
    (hF : W.ownsRow (sm + 3) 3 1 (.slice (some ⟨g, 0, none⟩) l.length cap) l.length (intL fs)) (hfl : fs.length = l.length) (hrl : rs.length = l.length)
    (hr : IntsBlk W rb rs) (hf : W.heap[fb]? = some (.cells (nilRows l.length).toArray 24 (0, 0))) (hrb : sm + 3 ≤ rb) (hfb : sm + 3 ≤ fb) (n1 : rb ≠ fb) (n2 : rb ≠ g) (n3 : fb ≠ g) :
    Rep (ctx w LA lc l nm sm rb fb g cap fs) W (ghost (sm + 1) nm sm rb fb g b2) { st0 l with ref := rs } := by
  obtain ⟨o1, o2, o3, o4⟩ := hst.ord
  have hg := hF.lt g rfl
  have hrlt := hr.lt
  have hflt : fb < W.heap.size := (Array.getElem?_eq_some_iff.1 hf).1
  have hz7 : ∀ k, k = nm + 1 ∨ k = b2 → ghost (sm + 1) nm sm rb fb g b2 k = 7 := fun k hk => by
    unfold ghost
    rw [if_neg (by omega), if_neg (by omega), if_neg (by omega), if_neg (by omega), if_neg (by omega), if_neg (by omega), if_pos hk]
  have hM0 : IsMap (DataW.map [] : DataW Value) := ⟨[], rfl⟩
  have hM1 : IsMap ((DataW.map [] : DataW Value).put (.string bIn.data.toList) (.held (.slice (some ⟨nm + 1, 0, none⟩) 1 1))) := ⟨_, rfl⟩
  have hio : (Lit.string bIn.data.toList) ≠ .string bOut.data.toList := fun e => by cases e
  refine
    { below := hst.below
      own := fun k hk => ?_
      gw := by simp [ctx, ghost]
      gn := by show ghost _ _ _ _ _ _ _ nm = 2; unfold ghost; rw [if_neg (by omega), if_pos rfl]
      gs := by show ghost _ _ _ _ _ _ _ sm = 3; unfold ghost; rw [if_neg (by omega), if_neg (by omega), if_pos rfl]
      gr := by show ghost _ _ _ _ _ _ _ rb = 5; unfold ghost; rw [if_neg (by omega), if_neg (by omega), if_neg (by omega), if_pos rfl]
      gf := by show ghost _ _ _ _ _ _ _ fb = 6; unfold ghost; rw [if_neg (by omega), if_neg (by omega), if_neg (by omega), if_neg (by omega), if_pos rfl]
      gff := by show ghost _ _ _ _ _ _ _ g = 8; unfold ghost; rw [if_neg (by omega), if_neg (by omega), if_neg (by omega), if_neg (by omega), if_neg (by omega), if_pos rfl]
      nodes := hl
      first := ?_
      flen := hfl
      known := fun s hs => ?_
      rlen := hrl
      frlen := by simp [st0, ctx]
      wkr := ⟨.slice none 0 0, hrow, ⟨rfl, Or.inl ⟨rfl, rfl⟩⟩, fun j hj => by cases hj⟩
      names := ⟨_, owns_exact hst.map, ?_, ?_⟩
      set := ⟨.map [], ⟨#[], 0, hst.set, ⟨by simp, MapKept.stamped_empty 0, by simp⟩, Nat.zero_le _, rfl⟩, fun i => rfl, fun kl hkl => by cases hkl⟩
      ref := hr
      free := ⟨nilRows l.length, by simp [st0, nilRows], hf, fun p hp => ?_⟩ }
  · show w.heap.size ≤ k ∧ k < W.heap.size
    unfold ghost at hk
    split at hk; · omega
    split at hk; · omega
    split at hk; · omega
    split at hk; · omega
    split at hk; · omega
    split at hk; · omega
    split at hk
    · rename_i h; omega
    · omega
  · intro i hi
    exact ⟨g, 0, rfl, by rw [Nat.zero_add]; exact own_get hF (by rw [← hfl]; exact hi)⟩
  · show s ∈ knownL l
    unfold knownL
    simp only [st0] at hs
    split at hs
    · rename_i e; rw [e]; exact List.mem_cons_self
    · split at hs
      · rename_i e; rw [e]; exact List.mem_cons_of_mem _ List.mem_cons_self
      · exact absurd rfl hs
  · intro kl hkl
    by_cases e : kl = .string bOut.data.toList
    · exact ⟨_, e, by show (st0 l).names bOut.data.toList ≠ []; simp only [st0]; rw [if_neg (by rw [← name_in]; exact fun e => in_ne_out e.symm), if_pos name_out]; simp⟩
    · rw [has_put_other e] at hkl
      by_cases e2 : kl = .string bIn.data.toList
      · exact ⟨_, e2, by show (st0 l).names bIn.data.toList ≠ []; simp only [st0]; rw [if_pos name_in]; simp⟩
      · rw [has_put_other e2] at hkl
        cases hkl
  · intro s
    by_cases e : s = bIn.data.toList
    · subst e
      have en : (st0 l).names bIn.data.toList = [(-2, -1)] := by simp only [st0]; rw [if_pos name_in]
      refine Or.inr ⟨by show (st0 l).names bIn.data.toList ≠ []; rw [en]; simp, .slice (some ⟨nm + 1, 0, none⟩) 1 1, fun z => by rw [atKey_put_other hio]; exact atKey_put_same hM0 (by trivial) _ _, ?_⟩
      show MeanAt W (ghost (sm + 1) nm sm rb fb g b2) (.slice (some ⟨nm + 1, 0, none⟩) 1 1) ((st0 l).names bIn.data.toList)
      rw [en]
      refine ⟨nm + 1, 0, 1, rfl, by simp, hz7 _ (Or.inl rfl), fun i hi => ?_⟩
      obtain rfl : i = 0 := by simp at hi; omega
      exact ⟨by rw [cell_of_row W _ _ _ _ _ hst.m1]; rfl, by rw [cell_of_row W _ _ _ _ _ hst.m1]; rfl⟩
    · by_cases e2 : s = bOut.data.toList
      · subst e2
        have en : (st0 l).names bOut.data.toList = [(-3, -1)] := by simp only [st0]; rw [if_neg (by rw [← name_in]; exact e), if_pos name_out]
        refine Or.inr ⟨by show (st0 l).names bOut.data.toList ≠ []; rw [en]; simp, .slice (some ⟨b2, 0, none⟩) 1 1, fun z => atKey_put_same hM1 (by trivial) _ _, ?_⟩
        show MeanAt W (ghost (sm + 1) nm sm rb fb g b2) (.slice (some ⟨b2, 0, none⟩) 1 1) ((st0 l).names bOut.data.toList)
        rw [en]
        refine ⟨b2, 0, 1, rfl, by simp, hz7 _ (Or.inr rfl), fun i hi => ?_⟩
        obtain rfl : i = 0 := by simp at hi; omega
        exact ⟨by rw [cell_of_row W _ _ _ _ _ hst.m2]; rfl, by rw [cell_of_row W _ _ _ _ _ hst.m2]; rfl⟩
      · refine Or.inl ⟨by show (st0 l).names s = []; simp only [st0]; rw [if_neg (by rw [← name_in]; exact e), if_neg (by rw [← name_out]; exact e2)], ?_⟩
        rw [has_put_other (fun e' => e2 (by cases e'; rfl)), has_put_other (fun e' => e (by cases e'; rfl))]
        rfl
  · have hp' : p < l.length := by simpa [st0] using hp
    have e1 : (nilRows l.length).getD p undef = .slice none 0 0 := by simp [nilRows, List.getD_eq_getElem?_getD, List.getElem?_replicate, hp']
    have e2 : (st0 l).free.getD p [] = [] := by simp [st0, List.getD_eq_getElem?_getD, List.getElem?_map, List.getElem?_eq_getElem hp']
    show W.ownsRow 0 3 1 ((nilRows l.length).getD p undef) ((st0 l).free.getD p []).length (intL ((st0 l).free.getD p [])) ∧ _
    rw [e1, e2]
    exact ⟨⟨rfl, Or.inl ⟨rfl, rfl⟩⟩, fun j hj => by cases hj⟩
end Go.Proofs.Ytmaepljmefdhkaa
