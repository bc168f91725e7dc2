import Derived.Test.YtmaepljmefdhkaaScopeV
namespace Go.Proofs.Ytmaepljmefdhkaa
open Go.RowKit Go.Maps
set_option maxHeartbeats 8000000
set_option maxRecDepth 100000

theorem Rep.foreign {C : Ctx} {w : World} {G : Nat → Nat} {st : St} (h : Rep C w G st) {b o i k : Nat} (hi : i < C.l.length) (hA : (nd C.l i).kA = some ⟨b, o, none⟩) (hk : k < (nd C.l i).kids.length) : G b = 0 := by
  obtain ⟨bb, oo, _, hn⟩ := h.nodes.node i hi
  obtain ⟨b', o', hA', hx⟩ := hn.row k hk
  rw [hA] at hA'
  obtain ⟨rfl, rfl⟩ : b = b' ∧ o = o' := by simpa using hA'
  have hlt : b < C.w0.heap.size := block_lt_of_cell hx
  rcases Nat.eq_zero_or_pos (G b) with e | e
  · exact e
  · have := (h.own b (by omega)).1
    omega
def NodeAll (C : Ctx) (f : Nat) : Prop := ∀ op ps, op.length + 3 * f ≤ 8589934000 → ps.length + f ≤ 8589934000 → NodeDoes C f op ps

theorem node_any {C : Ctx} (hw : Wf C.l) {f : Nat} (ih : NodeAll C f) {op ps : List Int} (hlo : op.length + 3 * (f + 1) ≤ 8589934000) (hlp : ps.length + (f + 1) ≤ 8589934000) : NodeDoes C (f + 1) op ps := by
  intro b w G st i hif hi h hok
  obtain ⟨pv, hc, hf, hrow, hpro, hpb⟩ := h.cells
  obtain ⟨bb, o, hA, hn⟩ := h.nodesAt.node i hi
  have c0 : w.cell? ⟨C.wk, 0, none⟩ = some (.slice (some ⟨bb, o, none⟩) C.l.length C.lc) := hA ▸ hc 0
  have c10 : w.cell? ⟨C.wk, 10, none⟩ = some (.int .i64 st.code) := hc 10
  obtain ⟨n1, n2, n3, n4, n5, n6, nz, n7⟩ := hn
  have hbig := big_le h.nodes.size
  have hi' : (i : Int) < C.l.length := by omega
  have hwk := (h.own C.wk (by rw [h.gw]; decide)).2
  have hbl : bb < w.heap.size := block_lt_of_cell n1
  have H := Lib.hid h
  have HOK := Lib.hid hok
  have IH := Lib.hid ih
  have N7 := Lib.hid n7
  have HA := Lib.hid hA
  clear h hok ih hc hf hrow hpro hpb n6 nz n7 hA
  cases ec : (st.code != 0) with
  | true =>
    have HE : Hid (nodeF C.l C.first (f + 1) st i = st) := by show nodeF C.l C.first (f + 1) st i = st; rw [nodeF, if_pos (by simpa using ec)]
    go_enter Try.func117, Try.ntmps117
    go_wp2_with fail
    exact bodyPost_ret (v := .tuple #[]) (by simp [results, Try.results117, go_sem]) rfl ⟨rfl, G, by rw [HE.out]; exact (H.out.alloc _).alloc _, ((Stp.refl G w).alloc _).alloc _⟩
  | false =>
    have hcode : ¬ st.code ≠ 0 := by simpa using ec
    have HC := Lib.hid hcode
    clear hcode
    go_enter Try.func117, Try.ntmps117
    go_wp2_with fail
    go_region_held3 (fun w' => w'.cell? ⟨w.heap.size, 0, none⟩ = some (.pointer (some ⟨C.wk, 0, none⟩)) ∧ w'.cell? ⟨w.heap.size + 1, 0, none⟩ = some (.int .i64 i) ∧ w'.cell? ⟨C.wk, 0, none⟩ = some (.slice (some ⟨bb, o, none⟩) C.l.length C.lc) ∧ w'.cell? ⟨bb, o + i * 5, none⟩ = some (.int .i64 (nd C.l i).kind) ∧ w'.cell? ⟨bb, o + i * 5 + 1, none⟩ = some (.int .i64 (nd C.l i).at_) ∧ w'.cell? ⟨bb, o + i * 5 + 2, none⟩ = some (.slice (nd C.l i).kA (nd C.l i).kids.length (nd C.l i).kc) ∧ w'.cell? ⟨bb, o + i * 5 + 3, none⟩ = some (.string (nd C.l i).name) ∧ w'.cell? ⟨bb, o + i * 5 + 4, none⟩ = some (.int .i64 (nd C.l i).num)) (first | (refine ⟨?_, ?_, cell3 c0, cell3 n1, cell3 n2, cell3 n3, cell3 n4, cell3 n5⟩ <;> go_keep) | go_keep) (fail)
    generalize hW : (((w.alloc (.cells #[.pointer (some ⟨C.wk, 0, none⟩)] 108)).alloc (.cells #[.int .i64 i] 3)).alloc (.cells #[.int .i64 (nd C.l i).kind, .int .i64 (nd C.l i).at_, .slice (nd C.l i).kA (nd C.l i).kids.length (nd C.l i).kc, .string (nd C.l i).name, .int .i64 (nd C.l i).num] 33)).drew = W
    rename_i hHeld
    clear hHeld c0 c10 n1 n2 n3 n4 n5
    have hRW : Rep C W G st := by rw [← hW]; exact (((H.out.alloc _).alloc _).alloc _).drew
    have hSW : Stp G w G W := by rw [← hW]; exact ((((Stp.refl G w).alloc _).alloc _).alloc _).drew
    have hsW : W.heap.size = w.heap.size + 3 := by rw [← hW]; simp
    have d2 : W.cell? ⟨w.heap.size, 0, none⟩ = some (.pointer (some ⟨C.wk, 0, none⟩)) := by rw [← hW, cell_of_row _ _ _ _ _ _ (blk3 w _ _ _).1]; rfl
    have d3 : W.cell? ⟨w.heap.size + 1, 0, none⟩ = some (.int .i64 i) := by rw [← hW, cell_of_row _ _ _ _ _ _ (blk3 w _ _ _).2.1]; rfl
    have d40 : W.cell? ⟨w.heap.size + 1 + 1, 0, none⟩ = some (.int .i64 (nd C.l i).kind) := by rw [← hW, cell_of_row _ _ _ _ _ _ (blk3 w _ _ _).2.2]; rfl
    have d42 : W.cell? ⟨w.heap.size + 1 + 1, 2, none⟩ = some (.slice (nd C.l i).kA (nd C.l i).kids.length (nd C.l i).kc) := by rw [← hW, cell_of_row _ _ _ _ _ _ (blk3 w _ _ _).2.2]; rfl
    have g0 : ∀ k, w.heap.size ≤ k → G k = 0 := fun k hk => H.out.ne hk
    have k0 : w.heap.size < W.heap.size ∧ G w.heap.size = 0 := ⟨by omega, g0 _ (Nat.le_refl _)⟩
    have k1 : w.heap.size + 1 < W.heap.size ∧ G (w.heap.size + 1) = 0 := ⟨by omega, g0 _ (by omega)⟩
    have k2 : w.heap.size + 1 + 1 < W.heap.size ∧ G (w.heap.size + 1 + 1) = 0 := ⟨by omega, g0 _ (by omega)⟩
    have HR := Lib.hid hRW
    have HS := Lib.hid hSW
    have K0 := Lib.hid k0
    have K1 := Lib.hid k1
    have K2 := Lib.hid k2
    clear hW hRW hSW hsW g0 k0 k1 k2
    have HND : Hid (∀ op' ps' : List Int, op'.length ≤ op.length + 2 → ps'.length ≤ ps.length + 1 → NodeDoes C f op' ps') := Lib.hid (fun op' ps' h1 h2 => IH.out op' ps' (by omega) (by omega))
    clear IH
    by_cases hk : (nd C.l i).kind = 13
    · have HE : Hid (nodeF C.l C.first (f + 1) st i = nameF C.l C.first st i) := by show nodeF C.l C.first (f + 1) st i = _; rw [nodeF, if_neg HC.out]; simp [hk]
      have HX := Lib.hid (nameW_any HR.out i hi (fun m hm => (HOK.out.good.dec _ m hm).2) (by have := HOK.out.good.len (nameL C.l i); simp at this; omega) HOK.out.good.prg (by rw [HOK.out.prg]; omega) (fun q => by have := HOK.out.good.free_len q; omega))
      rw [hk] at d40
      clear hk
      go_wp2_with fail
      refine HX.out.mono ?_
      rintro e w1 ⟨rfl, G1, hR1, hS1⟩
      have HF := Lib.hid (And.intro hR1 (HS.out.trans hS1))
      clear hR1 hS1 HX
      go_wp2_with fail
      go_end0
      exact ⟨rfl, G1, by rw [HE.out]; exact HF.out.1, HF.out.2⟩
    by_cases hk2 : (nd C.l i).kind = 20
    · have HE : Hid (nodeF C.l C.first (f + 1) st i = progF C.l (nodeF C.l C.first f) st i) := by show nodeF C.l C.first (f + 1) st i = _; rw [nodeF, if_neg HC.out]; simp [hk2]
      have HX := Lib.hid (prog_any hw (f := f) (op := op) (ps := ps) (b := b) (fun b' => HND.out _ _ (by simp) (by simp)) hi (by omega) hk2 HR.out HOK.out (by omega) (by omega))
      rw [hk2] at d40
      clear hk hk2
      go_wp2_with fail
      refine HX.out.mono ?_
      rintro e w1 ⟨rfl, G1, hR1, hS1⟩
      have HF := Lib.hid (And.intro hR1 (HS.out.trans hS1))
      clear hR1 hS1 HX
      go_wp2_with fail
      go_end0
      exact ⟨rfl, G1, by rw [HE.out]; exact HF.out.1, HF.out.2⟩
    have HX := Lib.hid (nodeKids_any hw (HND.out op ps (by omega) (by omega)) hi (by omega) HR.out HOK.out)
    by_cases hk3 : (nd C.l i).kind = 31 ∨ (nd C.l i).kind = 32
    · have HE : Hid (nodeF C.l C.first (f + 1) st i = (let s := allF (nodeF C.l C.first f) (nd C.l i).kids st; if s.code = 0 then declareF C.l s i else s)) := by show nodeF C.l C.first (f + 1) st i = _; rw [nodeF, if_neg HC.out, if_neg hk, if_neg hk2, if_pos hk3]
      have HOK2 := Lib.hid (all_ok (fun st k hk h => node_ok hw C.first f op b ps st k.toNat (by have := kids_in hw hi hk; omega) h) _ HOK.out : Ok C.l op b ps (allF (nodeF C.l C.first f) (nd C.l i).kids st))
      rcases hk3 with hk3 | hk3
      all_goals
        rw [hk3] at d40
        clear hk hk2 hk3
        go_wp2_with fail
        refine HX.out.mono ?_
        rintro e w1 ⟨rfl, G1, hR1, hS1⟩
        have e2 := (hS1.cell K0.out.1 K0.out.2).trans d2
        have e3 := (hS1.cell K1.out.1 K1.out.2).trans d3
        obtain ⟨pv1, hc1, _⟩ := hR1.cells
        have c10 : w1.cell? ⟨C.wk, 10, none⟩ = some (.int .i64 (allF (nodeF C.l C.first f) (nd C.l i).kids st).code) := hc1 10
        have HR1 := Lib.hid hR1
        have HS1 := Lib.hid (HS.out.trans hS1)
        clear hR1 hS1 hc1 HX
        cases ec1 : ((allF (nodeF C.l C.first f) (nd C.l i).kids st).code == 0) with
        | true =>
          have HE2 : Hid (nodeF C.l C.first (f + 1) st i = declareF C.l (allF (nodeF C.l C.first f) (nd C.l i).kids st) i) := HE.out.trans (if_pos (by simpa using ec1))
          go_wp2_with fail
          refine (declare_any HR1.out i hi (by have := HOK2.out.good.len (nameL C.l i); simp at this; omega)).mono ?_
          rintro e w2 ⟨rfl, G2, hR2, hS2⟩
          have HF := Lib.hid (And.intro hR2 (HS1.out.trans hS2))
          clear hR2 hS2
          go_wp2_with fail
          go_end0
          exact ⟨rfl, G2, by rw [HE2.out]; exact HF.out.1, HF.out.2⟩
        | false =>
          have HE2 : Hid (nodeF C.l C.first (f + 1) st i = allF (nodeF C.l C.first f) (nd C.l i).kids st) := HE.out.trans (if_neg (by simpa using ec1))
          go_wp2_with fail
          go_end0
          exact ⟨rfl, G1, by rw [HE2.out]; exact HR1.out, HS1.out⟩
    by_cases hk4 : (nd C.l i).kind = 33
    · have HE : Hid (nodeF C.l C.first (f + 1) st i = allF (nodeF C.l C.first f) (nd C.l i).kids (placeF C.l st (kid C.l i 0))) := by show nodeF C.l C.first (f + 1) st i = _; rw [nodeF, if_neg HC.out, if_neg hk, if_neg hk2, if_neg hk3, if_pos hk4]
      have h1 := hw.one i hi (by simp [hk4])
      have hd := hw.down i hi 0 (by omega)
      obtain ⟨m, hmk⟩ : ∃ m : Nat, gi (nd C.l i).kids 0 = m := ⟨_, (Int.toNat_of_nonneg hd.1).symm⟩
      have hkid : kid C.l i 0 = m := by unfold kid; rw [hmk]; simp
      rw [hkid] at HE
      obtain ⟨b2, o2, hA2, hx⟩ := (N7.out.below (Below.refl _ _)) 0 (by omega)
      have hxW := (HS.out.cell (block_lt_of_cell hx) (H.out.foreign (k := 0) hi hA2 h1)).trans hx
      rw [Nat.add_zero, hmk] at hxW
      rw [hA2] at d42
      have hmN : m < C.l.length := by have := hd.2; rw [hmk] at this; omega
      have HX2 := Lib.hid (fun (n : Nat) => place_any hw (HR.out.drewN n) m hmN)
      have HD2 := Lib.hid hA2
      have h10 : (0 : Int) < ((nd C.l i).kids.length : Int) := by omega
      have h10' : 0 < (nd C.l i).kids.length := h1
      rw [hk4] at d40
      clear hk hk2 hk3 hk4 hx hA2 hkid hmk hd HX
      go_wp2_with fail
      go_still_tail 5, (by kernel_rfl)
      go_wp2_with fail
      refine (HX2.out 1).mono ?_
      rintro e w1 ⟨rfl, hR1, hS1⟩
      have e2 := (hS1.cell K0.out.1 K0.out.2).trans d2
      have e42 := (hS1.cell K2.out.1 K2.out.2).trans d42
      rw [← HD2.out] at e42
      have HX := Lib.hid (nodeKids_any hw (HND.out op ps (by omega) (by omega)) hi (by omega) hR1 (HOK.out.place m))
      have HS1 := Lib.hid (HS.out.trans (((Stp.refl G W).drewN 1).trans hS1))
      clear hR1 hS1
      go_wp2_with fail
      refine HX.out.mono ?_
      rintro e w2 ⟨rfl, G2, hR2, hS2⟩
      have HF := Lib.hid (And.intro hR2 (HS1.out.trans hS2))
      clear hR2 hS2
      go_wp2_with fail
      go_end0
      exact ⟨rfl, G2, by rw [HE.out]; exact HF.out.1, HF.out.2⟩
    by_cases hk5 : (nd C.l i).kind = 41
    · have HE : Hid (nodeF C.l C.first (f + 1) st i = withinF (allF (nodeF C.l C.first f) (nd C.l i).kids) st) := by show nodeF C.l C.first (f + 1) st i = _; rw [nodeF, if_neg HC.out, if_neg hk, if_neg hk2, if_neg hk3, if_neg hk4, if_pos hk5]
      have hEn : Ok C.l (op ++ [b]) (enterF st).block ps (enterF st) := ⟨HOK.out.good.enter, rfl, HOK.out.prg⟩
      have HEN := Lib.hid hEn
      have hB1 : Ok C.l (op ++ [b]) (enterF st).block ps (allF (nodeF C.l C.first f) (nd C.l i).kids (enterF st)) := all_ok (fun st k hk h => node_ok hw C.first f _ _ ps st k.toNat (by have := kids_in hw hi hk; omega) h) _ hEn
      have HB1 := Lib.hid hB1
      have HW := Lib.hid (within_any HR.out 150 #[.pointer (some ⟨w.heap.size, 0, none⟩), .pointer (some ⟨w.heap.size + 1 + 1, 0, none⟩)] (fun w => by rfl) (st2 := allF (nodeF C.l C.first f) (nd C.l i).kids (enterF st))
        (fun w2 hR2 hS2 => node1_any hw (HND.out _ _ (by simp) (by omega)) hi (by omega) hR2 HEN.out w.heap.size (w.heap.size + 1 + 1) ((hS2.cell K0.out.1 K0.out.2).trans d2) ((hS2.cell K2.out.1 K2.out.2).trans d42))
        (fun s => by have := HB1.out.good.len s; simp at this; omega))
      rw [hk5] at d40
      clear hk hk2 hk3 hk4 hk5 HX hEn hB1
      go_wp2_with fail
      refine HW.out.mono ?_
      rintro e w1 ⟨rfl, G1, hR1, hS1⟩
      have HF := Lib.hid (And.intro hR1 (HS.out.trans hS1))
      clear hR1 hS1 HW
      go_wp2_with fail
      go_end0
      exact ⟨rfl, G1, by rw [HE.out]; exact HF.out.1, HF.out.2⟩
    by_cases hk6 : (nd C.l i).kind = 43
    · have HE : Hid (nodeF C.l C.first (f + 1) st i = withinF (fun s => allF (nodeF C.l C.first f) (nd C.l (kid C.l i 1)).kids (declareF C.l s i)) (nodeF C.l C.first f st (kid C.l i 0))) := by show nodeF C.l C.first (f + 1) st i = _; rw [nodeF, if_neg HC.out, if_neg hk, if_neg hk2, if_neg hk3, if_neg hk4, if_neg hk5, if_pos hk6]
      have h2k := hw.two i hi hk6
      have h1 : 0 < (nd C.l i).kids.length := by omega
      have hd := hw.down i hi 0 h1
      obtain ⟨m, hmk⟩ : ∃ m : Nat, gi (nd C.l i).kids 0 = m := ⟨_, (Int.toNat_of_nonneg hd.1).symm⟩
      have hkid : kid C.l i 0 = m := by unfold kid; rw [hmk]; simp
      rw [hkid] at HE
      obtain ⟨b2, o2, hA2, hx⟩ := (N7.out.below (Below.refl _ _)) 0 h1
      have hxW := (HS.out.cell (block_lt_of_cell hx) (H.out.foreign (k := 0) hi hA2 h1)).trans hx
      rw [Nat.add_zero, hmk] at hxW
      rw [hA2] at d42
      rw [hmk] at hd
      have hmN : m < C.l.length := by omega
      have hmi : m < f := by omega
      have hNO : Ok C.l op b ps (nodeF C.l C.first f st m) := node_ok hw C.first f op b ps st m hmN HOK.out
      have HNO := Lib.hid hNO
      have HX2 := Lib.hid (fun (n : Nat) => HND.out op ps (by omega) (by omega) b (W.drewN n) G st m hmi hmN (HR.out.drewN n) HOK.out)
      have HD2 := Lib.hid hA2
      have h10 : (0 : Int) < ((nd C.l i).kids.length : Int) := by omega
      have HK6 := Lib.hid hk6
      have hEn : Ok C.l (op ++ [b]) (enterF (nodeF C.l C.first f st m)).block ps (enterF (nodeF C.l C.first f st m)) := ⟨hNO.good.enter, rfl, hNO.prg⟩
      have HEN := Lib.hid hEn
      have k1l := kid_lt hw hi (k := 1) (by omega)
      have hB1 : Ok C.l (op ++ [b]) (enterF (nodeF C.l C.first f st m)).block ps (allF (nodeF C.l C.first f) (nd C.l (kid C.l i 1)).kids (declareF C.l (enterF (nodeF C.l C.first f st m)) i)) := all_ok (fun st k hk h => node_ok hw C.first f _ _ ps st k.toNat (by have := kids_in hw (show kid C.l i 1 < C.l.length by omega) hk; omega) h) _ (hEn.declare hi)
      have HB1 := Lib.hid hB1
      rw [hk6] at d40
      clear hk hk2 hk3 hk4 hk5 hk6 hx hA2 hkid hmk hd HX hNO hEn hB1
      go_wp2_with fail
      go_still_tail 5, (by kernel_rfl)
      go_wp2_with fail
      refine (HX2.out 1).mono ?_
      rintro e w1 ⟨rfl, G1, hR1, hS1⟩
      have e2 := (hS1.cell K0.out.1 K0.out.2).trans d2
      have e3 := (hS1.cell K1.out.1 K1.out.2).trans d3
      have e42 := (hS1.cell K2.out.1 K2.out.2).trans d42
      have j0 : w.heap.size < w1.heap.size ∧ G1 w.heap.size = 0 := ⟨Nat.lt_of_lt_of_le K0.out.1 hS1.size, (hS1.own _ K0.out.1).trans K0.out.2⟩
      have j1 : w.heap.size + 1 < w1.heap.size ∧ G1 (w.heap.size + 1) = 0 := ⟨Nat.lt_of_lt_of_le K1.out.1 hS1.size, (hS1.own _ K1.out.1).trans K1.out.2⟩
      have j2 : w.heap.size + 1 + 1 < w1.heap.size ∧ G1 (w.heap.size + 1 + 1) = 0 := ⟨Nat.lt_of_lt_of_le K2.out.1 hS1.size, (hS1.own _ K2.out.1).trans K2.out.2⟩
      rw [← HD2.out] at e42
      have HW := Lib.hid (within_any hR1 151 #[.pointer (some ⟨w.heap.size, 0, none⟩), .pointer (some ⟨w.heap.size + 1, 0, none⟩), .pointer (some ⟨w.heap.size + 1 + 1, 0, none⟩)] (fun w => by rfl) (st2 := allF (nodeF C.l C.first f) (nd C.l (kid C.l i 1)).kids (declareF C.l (enterF (nodeF C.l C.first f st m)) i))
        (fun w2 hR2 hS2 => node2_any hw (HND.out _ _ (by simp) (by omega)) hi (by omega) HK6.out hR2 HEN.out (by simp; omega) w.heap.size (w.heap.size + 1) (w.heap.size + 1 + 1) ⟨Nat.lt_of_lt_of_le j0.1 hS2.size, j0.2⟩ ⟨Nat.lt_of_lt_of_le j1.1 hS2.size, j1.2⟩ ⟨Nat.lt_of_lt_of_le j2.1 hS2.size, j2.2⟩ ((hS2.cell j0.1 j0.2).trans e2) ((hS2.cell j1.1 j1.2).trans e3) ((hS2.cell j2.1 j2.2).trans e42))
        (fun s => by have := HB1.out.good.len s; simp at this; omega))
      have HS1 := Lib.hid (HS.out.trans (((Stp.refl G W).drewN 1).trans hS1))
      clear hR1 hS1 j0 j1 j2
      go_wp2_with fail
      refine HW.out.mono ?_
      rintro e w2 ⟨rfl, G2, hR2, hS2⟩
      have HF := Lib.hid (And.intro hR2 (HS1.out.trans hS2))
      clear hR2 hS2
      go_wp2_with fail
      go_end0
      exact ⟨rfl, G2, by rw [HE.out]; exact HF.out.1, HF.out.2⟩
    by_cases hk7 : (nd C.l i).kind = 4 ∨ (nd C.l i).kind = 5 ∨ (nd C.l i).kind = 6 ∨ (nd C.l i).kind = 7 ∨ (nd C.l i).kind = 45 ∨ (nd C.l i).kind = 19
    · have HE : Hid (nodeF C.l C.first (f + 1) st i = st) := by show nodeF C.l C.first (f + 1) st i = _; rw [nodeF, if_neg HC.out, if_neg hk, if_neg hk2, if_neg hk3, if_neg hk4, if_neg hk5, if_neg hk6, if_pos hk7]
      rcases hk7 with hk7 | hk7 | hk7 | hk7 | hk7 | hk7
      all_goals
        rw [hk7] at d40
        clear hk hk2 hk3 hk4 hk5 hk6 hk7 HX
        go_wp2_with fail
        go_end0
        exact ⟨rfl, G, by rw [HE.out]; exact HR.out, HS.out⟩
    · have HE : Hid (nodeF C.l C.first (f + 1) st i = allF (nodeF C.l C.first f) (nd C.l i).kids st) := by show nodeF C.l C.first (f + 1) st i = _; rw [nodeF, if_neg HC.out, if_neg hk, if_neg hk2, if_neg hk3, if_neg hk4, if_neg hk5, if_neg hk6, if_neg hk7]
      have t1 : ((nd C.l i).kind == 13) = false := by simpa using hk
      have t2 : ((nd C.l i).kind == 20) = false := by simpa using hk2
      have t3 : ((nd C.l i).kind == 31) = false := by simp; omega
      have t4 : ((nd C.l i).kind == 32) = false := by simp; omega
      have t5 : ((nd C.l i).kind == 33) = false := by simpa using hk4
      have t6 : ((nd C.l i).kind == 41) = false := by simpa using hk5
      have t7 : ((nd C.l i).kind == 43) = false := by simpa using hk6
      have u1 : ((nd C.l i).kind == 4) = false := by simp; omega
      have u2 : ((nd C.l i).kind == 5) = false := by simp; omega
      have u3 : ((nd C.l i).kind == 6) = false := by simp; omega
      have u4 : ((nd C.l i).kind == 7) = false := by simp; omega
      have u5 : ((nd C.l i).kind == 45) = false := by simp; omega
      have u6 : ((nd C.l i).kind == 19) = false := by simp; omega
      clear hk hk2 hk3 hk4 hk5 hk6 hk7
      go_wp2_with fail
      refine HX.out.mono ?_
      rintro e w1 ⟨rfl, G1, hR1, hS1⟩
      have HF := Lib.hid (And.intro hR1 (HS.out.trans hS1))
      clear hR1 hS1 HX
      go_wp2_with fail
      go_end0
      exact ⟨rfl, G1, by rw [HE.out]; exact HF.out.1, HF.out.2⟩
theorem node_all {C : Ctx} (hw : Wf C.l) : ∀ f, NodeAll C f
  | 0 => fun op ps _ _ b w G st i hi => by omega
  | f + 1 => fun op ps h1 h2 => node_any hw (node_all hw f) h1 h2
end Go.Proofs.Ytmaepljmefdhkaa
