import Derived.Test.YtmaepljmefdhkaaScopeE
namespace Go.Proofs.Ytmaepljmefdhkaa
open Go.RowKit Go.Maps
set_option maxHeartbeats 2000000
set_option maxRecDepth 100000

def nameL (l : List Nd) (i : Nat) : List UInt8 := (nd l i).name.data.toList
def lastM (ms : List Mean) : Mean := mi ms (ms.length - 1)
def declareF (l : List Nd) (st : St) (i : Nat) : St :=
  if nameL l i = [] then st
  else if st.names (nameL l i) ≠ [] ∧ (lastM (st.names (nameL l i))).2 = st.block then wrongF l st i 50
  else setName st (nameL l i) (st.names (nameL l i) ++ [((i : Int), st.block)])

section
variable {C : Ctx} {w w1 w2 : World} {G G1 G' : Nat → Nat} {st : St}
theorem Rep.grown (h : Rep C w G st) (hg : w.grownBy w1 none) : Rep C w1 G st :=
  h.kept ⟨hg.os.trans h.below.os, hg.tape.trans h.below.tape, hg.output.trans h.below.output, Nat.le_trans h.below.size hg.size, fun k hk => (hg.block k (Nat.lt_of_lt_of_le hk h.below.size) (by simp)).trans (h.below.block k hk)⟩ hg.size (fun k hk => hg.block k (h.own k hk).2 (by simp))
theorem Stp.grown (h : Stp G w G1 w1) (hg : w1.grownBy w2 none) : Stp G w G1 w2 :=
  ⟨hg.os.trans h.os, hg.tape.trans h.tape, hg.output.trans h.output, Nat.le_trans h.size hg.size, fun k hk h0 => (hg.block k (Nat.lt_of_lt_of_le hk h.size) (by simp)).trans (h.block k hk h0), h.own⟩
theorem Stp.named (h : Stp G w G w1) {b B : Nat} (hg : w1.grownBy w2 (some b)) (hb : G b ≠ 0) (hG : ∀ k, k < B → G' k = G k) (hB : w.heap.size ≤ B) : Stp G w G' w2 :=
  ⟨hg.os.trans h.os, hg.tape.trans h.tape, hg.output.trans h.output, Nat.le_trans h.size hg.size, fun k hk h0 => (hg.block k (Nat.lt_of_lt_of_le hk h.size) (fun e => by cases e; exact hb h0)).trans (h.block k hk h0), fun k hk => hG k (by omega)⟩
end
theorem wanted_step {c : Prop} [Decidable c] {A E : Prop} (hc : c) (h : A) : if c then A else E := by rw [if_pos hc]; exact h
theorem wp_append_grows {P : Program} {w : World} {o : Oper} {a : Act} {K : Act → World → Prop} {Q : Exit → Act → World → Prop} (hg : o.guard = none) (s x : Operand) (t : TypeId)
    (hop : o.op = Op.call { callee := Callee.builtin Builtin.append, args := #[s, x], argTypes := #[t, t] })
    (e : TypeId) (i : TypeInfo) (z : Value) (size bytes : Nat) (h1 : P.underlying t = some (.slice e)) (h2 : P.info? e = some i) (h3 : i.zero = some z) (h4 : i.size = size) (h5 : i.bytes = bytes) (h6 : z.cells.size = size) (h7 : 0 < size)
    (ao : Option Addr) (n : Nat) (olds : List Value) (hs : a.eval s = .slice ao n n) (hnone : ao = none → n = 0) (hlo : olds.length = n * size) (holds : ∀ b, ao = some b → ∀ j u, olds[j]? = some u → w.cell? (b.add j) = some u)
    (g : Nat) (news : List Value) (te : TypeId) (hx : a.eval x = .slice (some ⟨g, 0, none⟩) 1 1) (hn : news.length = size) (hgw : w.heap[g]? = some (.cells news.toArray te (0, 0))) (h1c : ∀ u ∈ news, u.oneCell' = true)
    (b1 : n + 1 ≤ maxLen) (b2 : (n + 1) * bytes ≤ 140737488355328)
    (hK : ∀ v' w', w'.ownsRow w.heap.size e size v' (n + 1) (olds ++ news) → w.grownBy w' none → K (a.put o.dst v') w') : o.wp P a w K Q := by
  have h := step_append_grows (P := P) (ops := #[]) (E := False) hg s x t hop e i z size bytes h1 h2 h3 h4 h5 h6 h7 ao n n olds hs (fun e => ⟨hnone e, hnone e⟩) hlo holds ⟨g, 0, none⟩ 1 1 news hx (by omega) (World.news_of_block hgw) h1c (by omega) b1 b2 hK (Q := Q)
  rwa [if_pos (by simp [Region.wanted, hg])] at h
theorem declared_step {C : Ctx} {w W w1 : World} {G : Nat → Nat} {st : St} (hR : Rep C W G st) (hS : Stp G w G W) {v : Value} {ms : List Mean} (hms : ms ≠ []) (hown : w1.ownsRow W.heap.size 110 2 v ms.length (meanL ms)) (hg : W.grownBy w1 none) (s : ByteArray) (hs : s.size ≤ maxLen) (hk : s.data.toList ∈ knownL C.l) :
    ∃ w2 G', (Instr.mapUpdate 112 (.map (some C.nm)) (.string s) v).run Try.prog w1 = .ok () w2 ∧ Hid (Rep C w2 G' (setName st s.data.toList ms) ∧ Stp G w G' w2) ∧ w1.cell? ⟨C.wk, 2, none⟩ = some (.map (some C.nm)) ∧ w1.cell? ⟨C.wk, 3, none⟩ = some (.int .i64 st.block) ∧ w2.cell? ⟨C.wk, 2, none⟩ = some (.map (some C.nm)) ∧ w2.cell? ⟨C.wk, 3, none⟩ = some (.int .i64 st.block) := by
  have hR1 := hR.grown hg
  obtain ⟨w2, hup, G', hR', hG', hg2⟩ := hR1.declared hms (fun k hk => (hR.own k hk).2) hR.below.size hown s hs hk
  obtain ⟨pv, hc, _⟩ := hR1.cells
  obtain ⟨pv2, hc2, _⟩ := hR'.cells
  exact ⟨w2, G', hup, Lib.hid ⟨hR', (hS.grown hg).named hg2 (by rw [hR.gn]; decide) hG' hS.size⟩, hc 2, hc 3, hc2 2, hc2 3⟩
theorem name_empty {l : List Nd} {i : Nat} (h : (nd l i).name.toList.isEmpty = true) : nameL l i = [] := by
  rw [ByteArray.toList_eq] at h
  exact List.isEmpty_iff.1 h
theorem name_full {l : List Nd} {i : Nat} (h : (nd l i).name.toList.isEmpty = false) : ¬ nameL l i = [] := fun e => by
  rw [ByteArray.toList_eq] at h
  rw [List.isEmpty_iff.2 (show (nd l i).name.data.toList = [] from e)] at h
  exact Bool.noConfusion h
theorem known_name {l : List Nd} {i : Nat} (hi : i < l.length) : nameL l i ∈ knownL l := by
  unfold knownL nameL nd
  refine List.mem_cons_of_mem _ (List.mem_cons_of_mem _ (List.mem_map.2 ⟨l[i], List.getElem_mem hi, ?_⟩))
  rw [List.getD_eq_getElem?_getD, List.getElem?_eq_getElem hi]
  rfl
theorem mean_cells {w : World} {b o : Nat} {ms : List Mean} (h : ∀ i, i < ms.length → w.cell? ⟨b, o + i * 2, none⟩ = some (.int .i64 (mi ms i).1) ∧ w.cell? ⟨b, o + i * 2 + 1, none⟩ = some (.int .i64 (mi ms i).2)) :
    ∀ j u, (meanL ms)[j]? = some u → w.cell? ((⟨b, o, none⟩ : Addr).add j) = some u := fun j u hu => by
  have hadd : (⟨b, o, none⟩ : Addr).add j = ⟨b, o + j, none⟩ := by unfold Addr.add; split <;> simp_all
  rw [hadd]
  obtain ⟨i, hi, hc⟩ := meanL_get ms j u hu
  rcases hc with ⟨rfl, rfl⟩ | ⟨rfl, rfl⟩
  · exact (h i hi).1
  · exact (h i hi).2
theorem mean_new {w : World} {b o : Nat} {ms : List Mean} (hb : b < w.heap.size) (h : ∀ i, i < ms.length → w.cell? ⟨b, o + i * 2, none⟩ = some (.int .i64 (mi ms i).1) ∧ w.cell? ⟨b, o + i * 2 + 1, none⟩ = some (.int .i64 (mi ms i).2)) (n : Nat) (x : Obj) :
    ∀ i, i < ms.length → ((w.drewN n).alloc x).cell? ⟨b, o + i * 2, none⟩ = some (.int .i64 (mi ms i).1) ∧ ((w.drewN n).alloc x).cell? ⟨b, o + i * 2 + 1, none⟩ = some (.int .i64 (mi ms i).2) := fun i hi => by
  have e : ((w.drewN n).alloc x).heap[b]? = w.heap[b]? := Below.heap_alloc (w.drewN n) x b hb
  exact ⟨(World.cell?_of_block (a := ⟨b, _, none⟩) e).trans (h i hi).1, (World.cell?_of_block (a := ⟨b, _, none⟩) e).trans (h i hi).2⟩
theorem declare_any {C : Ctx} {w : World} {G : Nat → Nat} {st : St} (h : Rep C w G st) (i : Nat) (hi : i < C.l.length) (hlen : (st.names (nameL C.l i)).length ≤ 1099511627776) :
    Calls Try.prog 148 #[.pointer (some ⟨C.wk, 0, none⟩), .int .i64 i] w fun en w' => en = .returned (.tuple #[]) ∧ ∃ G', Rep C w' G' (declareF C.l st i) ∧ Stp G w G' w' := by
  obtain ⟨pv, hc, hf, hrow, hpr, hpb⟩ := h.cells
  obtain ⟨b, o, hA, hn⟩ := h.nodesAt.node i hi
  have c0 : w.cell? ⟨C.wk, 0, none⟩ = some (.slice (some ⟨b, o, none⟩) C.l.length C.lc) := hA ▸ hc 0
  have c2 : w.cell? ⟨C.wk, 2, none⟩ = some (.map (some C.nm)) := hc 2
  have c3 : w.cell? ⟨C.wk, 3, none⟩ = some (.int .i64 st.block) := hc 3
  have n3 := hn.name
  have hbig := big_le h.nodes.size
  have hi' : (i : Int) < C.l.length := by omega
  have hns := hn.nsz
  obtain ⟨v, hlook, hv⟩ := names_look h.names (nd C.l i).name (by unfold maxLen; unfold big at hns; omega)
  have H := Lib.hid h
  have HV := Lib.hid hv
  obtain ⟨i0, hi0, hz0, hz1, hz2⟩ := info_parts info110
  have hns' : (nd C.l i).name.size ≤ maxLen := by unfold maxLen; unfold big at hns; omega
  clear h hc hf hrow hpr hpb hn hv hns
  cases e0 : (nd C.l i).name.toList.isEmpty with
  | true =>
    have HE : Hid (declareF C.l st i = st) := by show declareF C.l st i = _; rw [declareF, if_pos (name_empty e0)]
    go_enter Try.func148, Try.ntmps148
    go_wp2_with fail
    exact bodyPost_ret (v := .tuple #[]) (by simp [results, Try.results148, go_sem]) rfl ⟨rfl, G, by rw [HE.out]; exact H.out, Stp.refl _ _⟩
  | false =>
    have HE : Hid (declareF C.l st i = if st.names (nameL C.l i) ≠ [] ∧ (lastM (st.names (nameL C.l i))).2 = st.block then wrongF C.l st i 50
  else setName st (nameL C.l i) (st.names (nameL C.l i) ++ [((i : Int), st.block)])) := by show declareF C.l st i = _; rw [declareF, if_neg (name_full e0)]
    rcases HV.out with ⟨hv1, rfl⟩ | ⟨hv1, hv2⟩
    · go_enter Try.func148, Try.ntmps148
      go_wp2_with fail
      go_quiet (fail)
      go_wp2_with fail
      have hR0 := ((H.out.drewN nq).drew).alloc (.cells #[.int .i64 i, .int .i64 st.block] 110)
      have hS0 := (((Stp.refl G w).drewN nq).drew).alloc (.cells #[.int .i64 i, .int .i64 st.block] 110)
      have HR0 := Lib.hid hR0
      have HS0 := Lib.hid hS0
      clear hR0 hS0
      go_region_held3 (fun w' => w'.cell? ⟨C.wk, 2, none⟩ = some (.map (some C.nm)) ∧ w'.cell? ⟨C.wk, 3, none⟩ = some (.int .i64 st.block)) (go_keep)
        (first
          | (go_at_call 196; refine (clip_nil _).mono ?_; rintro e w1 ⟨rfl, rfl⟩)
          | (refine wanted_step rfl ?_; (refine wp_append_grows rfl (.tmp 48) (.tmp 55) 111 rfl 110 i0 _ 2 16 Try.underlying111 hi0 hz0 hz1 hz2 rfl (by decide) none 0 [] rfl (fun _ => rfl) rfl (by simp) w.heap.size [.int .i64 i, .int .i64 st.block] 110 rfl rfl (heap_alloc_new _ _) (by simp [Value.oneCell']) (by unfold maxLen; decide) (by decide) ?_); intro v' w1 hown hg; obtain ⟨w2, G', hup, HF, c2', c3', c2'', c3''⟩ := declared_step HR0.out HS0.out (ms := [((i : Int), st.block)]) (by simp) hown hg (nd C.l i).name hns' (known_name hi); clear hown hg))
      all_goals (go_end0; exact ⟨rfl, _, by rw [HE.out, if_neg (fun e => e.1 hv1), show st.names (nameL C.l i) = [] from hv1]; exact HF.out⟩)
    · obtain ⟨b1, o1, c1, rfl, hcc, hg7, hcells⟩ := hv2
      have hms2 : st.names (nameL C.l i) = st.names (nd C.l i).name.data.toList := rfl
      rw [hms2] at hlen
      obtain ⟨ms, hms⟩ : ∃ ms, ms = st.names (nd C.l i).name.data.toList := ⟨_, rfl⟩
      rw [← hms] at hlook hcc hcells hlen hv1 hms2
      obtain ⟨n1, hn1⟩ : ∃ n, ms.length = n + 1 := ⟨ms.length - 1, by have := List.length_pos_iff.2 hv1; omega⟩
      have hM : MeanAt w G (.slice (some ⟨b1, o1, none⟩) ms.length c1) ms := ⟨b1, o1, c1, rfl, hcc, hg7, hcells⟩
      have HM := Lib.hid hcells
      have hx := (hcells n1 (by omega)).2
      rw [hn1] at hlook hcc hlen
      have hbl := block_lt_of_cell hx
      have HMS := Lib.hid hms
      have hlast : (lastM ms).2 = (mi ms n1).2 := by unfold lastM; rw [hn1]; rfl
      clear hcells hM hms hg7
      cases e5 : ((mi ms n1).2 == st.block) with
      | true =>
        have HE2 : Hid (declareF C.l st i = wrongF C.l st i 50) := HE.out.trans (by rw [if_pos]; rw [hms2]; exact ⟨hv1, by rw [hlast]; simpa using e5⟩)
        clear HE hms2 hv1
        go_enter Try.func148, Try.ntmps148
        go_wp2_with fail
        go_quiet (fail)
        go_wp2_with fail
        refine (wrong_any (H.out.drewN nq) i hi 50).mono ?_
        rintro e w1 ⟨rfl, hR, hS⟩
        go_wp2_with fail
        exact bodyPost_ret (v := .tuple #[]) (by simp [results, Try.results148, go_sem]) rfl ⟨rfl, G, by rw [HE2.out]; exact hR, ((Stp.refl G w).drewN nq).trans hS⟩
      | false =>
        go_enter Try.func148, Try.ntmps148
        go_wp2_with fail
        go_quiet (fail)
        go_wp2_with fail
        have hR0 := ((H.out.drewN nq).drew).alloc (.cells #[.int .i64 i, .int .i64 st.block] 110)
        have hS0 := (((Stp.refl G w).drewN nq).drew).alloc (.cells #[.int .i64 i, .int .i64 st.block] 110)
        have HR0 := Lib.hid hR0
        have HS0 := Lib.hid hS0
        clear hR0 hS0
        go_region_held3 (fun w' => w'.cell? ⟨C.wk, 2, none⟩ = some (.map (some C.nm)) ∧ w'.cell? ⟨C.wk, 3, none⟩ = some (.int .i64 st.block)) (go_keep)
          (first
            | (go_at_call 196; refine (clip_any b1 o1 (n1 + 1) c1 _ hcc hlen).mono ?_; rintro e w1 ⟨rfl, rfl⟩)
            | (refine wanted_step rfl ?_; (refine wp_append_grows rfl (.tmp 48) (.tmp 55) 111 rfl 110 i0 _ 2 16 Try.underlying111 hi0 hz0 hz1 hz2 rfl (by decide) (some ⟨b1, o1, none⟩) (n1 + 1) (meanL ms) rfl (fun h => by cases h) (by rw [meanL_len, hn1]) (fun ad had => by cases had; exact mean_cells (mean_new hbl HM.out _ _)) w.heap.size [.int .i64 i, .int .i64 st.block] 110 rfl rfl (heap_alloc_new _ _) (by simp [Value.oneCell']) (by unfold maxLen; omega) (by omega) ?_); intro v' w1 hown hg; obtain ⟨w2, G', hup, HF, c2', c3', c2'', c3''⟩ := declared_step HR0.out HS0.out (ms := ms ++ [((i : Int), st.block)]) (by simp) (by rw [List.length_append, hn1, meanL_snoc]; exact hown) hg (nd C.l i).name hns' (known_name hi); clear hown hg))
        all_goals (go_end0; exact ⟨rfl, _, by rw [HE.out, if_neg (fun e => by have := e.2; rw [hms2, hlast] at this; rw [this] at e5; simp at e5), hms2]; exact HF.out⟩)
end Go.Proofs.Ytmaepljmefdhkaa
