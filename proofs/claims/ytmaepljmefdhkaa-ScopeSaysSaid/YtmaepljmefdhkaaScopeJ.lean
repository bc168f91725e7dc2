import Derived.Test.YtmaepljmefdhkaaScopeI
namespace Go.Proofs.Ytmaepljmefdhkaa
open Go.RowKit Go.Maps
set_option maxHeartbeats 2000000
set_option maxRecDepth 100000

theorem key_str_inv {key : Value} {kl : Lit} (h : keyOf Try.prog 9 key = some kl) : ∃ x : ByteArray, key = .string x := by
  cases key <;> simp [keyOf, Try.underlying9, mapKey] at h
  exact ⟨_, rfl⟩
theorem key_str {x : ByteArray} {kl : Lit} (h : keyOf Try.prog 9 (.string x) = some kl) : kl = .string x.data.toList ∧ x.size ≤ maxLen := by
  simp [keyOf, Try.underlying9, mapKey] at h
  exact ⟨h.2.symm, h.1⟩
theorem Rep.blkset {C : Ctx} {w : World} {G : Nat → Nat} {st : St} (h : Rep C w G st) (x y : Int) : Rep C ((w.setCell ⟨C.wk, 4, none⟩ (.int .i64 x)).setCell ⟨C.wk, 3, none⟩ (.int .i64 y)) G { st with blocks := x, block := y } ∧ Stp G w G ((w.setCell ⟨C.wk, 4, none⟩ (.int .i64 x)).setCell ⟨C.wk, 3, none⟩ (.int .i64 y)) := by
  obtain ⟨pv, hc, hf, hrow, hpr, hpb⟩ := h.cells
  exact h.wkset (by simp) rfl rfl rfl (fun k hk => by rw [Below.heap_setCell _ _ _ _ hk, Below.heap_setCell _ _ _ _ hk]) (by rw [heap_setCell_same _ _ _ _ _ _ (heap_setCell_same _ _ _ _ _ _ hrow)]; rfl) hpr hpb rfl rfl rfl rfl

theorem mix_start {w : World} {G : Nat → Nat} {D : DataW Value} {b : Int} {f : List UInt8 → List Mean} (h : NamesIn w G D f) (s : List UInt8) : f s = mixN b f (Maps.has D) s := by
  unfold mixN
  rcases h.2 s with ⟨h1, h2⟩ | ⟨h1, v, h2, _⟩
  · rw [h2, h1]; rfl
  · rw [has_true_of_atKey h2]; rfl
theorem Rep.blk3 {C : Ctx} {w : World} {G : Nat → Nat} {st : St} (h : Rep C w G st) (y : Int) : Rep C (w.setCell ⟨C.wk, 3, none⟩ (.int .i64 y)) G { st with block := y } ∧ Stp G w G (w.setCell ⟨C.wk, 3, none⟩ (.int .i64 y)) := by
  obtain ⟨pv, hc, hf, hrow, hpr, hpb⟩ := h.cells
  exact h.wkset (by simp) rfl rfl rfl (fun k hk => Below.heap_setCell _ _ _ _ hk) (by rw [heap_setCell_same _ _ _ _ _ _ hrow]; rfl) hpr hpb rfl rfl rfl rfl
theorem strip_ne {b : Int} {ms : List Mean} (h : stripM b ms ≠ []) : ms ≠ [] := fun e => by subst e; exact h (by simp [stripM])
theorem mix_known {b : Int} {f : List UInt8 → List Mean} {left : Lit → Bool} {s : List UInt8} (h : mixN b f left s ≠ []) : f s ≠ [] := by
  unfold mixN at h
  split at h
  · exact h
  · exact strip_ne h
theorem ranges_drewN {H : Type} {P : Program} {k : TypeId} {R : Value → Option (DataW H × List MemPlace)} {w : World} {b r n cnt : Nat} {D : DataW H} {left : Lit → Bool} (h : w.ranges P k R b r n D left cnt) (m : Nat) : (w.drewN m).ranges P k R b r n D left cnt := h
theorem grown_drewN {w w1 : World} {row : Option Nat} (h : w.grownBy w1 row) (m : Nat) : w.grownBy (w1.drewN m) row := ⟨h.os, h.tape, h.output, h.size, h.block⟩
theorem within_any {C : Ctx} {w : World} {G : Nat → Nat} {st st2 : St} (h : Rep C w G st) (N : Nat) (caps : Array Value) (hcall : ∀ w, (callFunc N caps).run Try.prog w = .ok (.enter N caps) w)
    (hbody : ∀ w1, Rep C w1 G (enterF st) → Stp G w G w1 → Calls Try.prog N caps w1 fun e w' => e = .returned (.tuple #[]) ∧ ∃ G', Rep C w' G' st2 ∧ Stp G w1 G' w')
    (hlen : ∀ s, (st2.names s).length ≤ 1099511627776) :
    Calls Try.prog 71 #[.pointer (some ⟨C.wk, 0, none⟩), .func (.func N) #[] caps] w fun e w' => e = .returned (.tuple #[]) ∧ ∃ G', Rep C w' G' (leaveF st2 st.block) ∧ Stp G w G' w' := by
  obtain ⟨pv, hc, hf, hrow, hpro, hpb⟩ := h.cells
  have c3 : w.cell? ⟨C.wk, 3, none⟩ = some (.int .i64 st.block) := hc 3
  have c4 : w.cell? ⟨C.wk, 4, none⟩ = some (.int .i64 st.blocks) := hc 4
  have y3 := hf 3
  have y4 := hf 4
  obtain ⟨hR1, hS1⟩ := h.blkset (wrap64 (st.blocks + 1)) (wrap64 (st.blocks + 1))
  have HB := Lib.hid (hbody _ hR1 hS1)
  have HS1 := Lib.hid hS1
  have HLEN := Lib.hid hlen
  clear h hc hf hrow hpro hpb hR1 hS1 hbody hlen
  go_enter Try.func71, Try.ntmps71
  go_wp2_with fail
  refine HB.out.mono ?_
  rintro e w2 ⟨rfl, G2, hR2, hS2⟩
  obtain ⟨pv2, hc2, hf2, _⟩ := hR2.cells
  have c2 : w2.cell? ⟨C.wk, 2, none⟩ = some (.map (some C.nm)) := hc2 2
  obtain ⟨D, hD, hN⟩ := hR2.names
  have HR2 := Lib.hid hR2
  have HS2 := Lib.hid (HS1.out.trans hS2)
  have hDl : Maps.size D < maxLen := by have := names_size hD hN.1 hR2.known; have := hR2.nodes.size; unfold big at this; unfold maxLen; omega
  have HD := Lib.hid hD
  have HN := Lib.hid hN
  clear hc2 hf2 hR2 hS2 hD hN
  go_wp2_with (first | (at_range; refine wpList_range_own _ rfl _ 112 rfl 9 111 law9 Try.underlying112 RV C.nm _ _ rfl HD.out ?_; intro w0 hrg0 hg0 hs0))
  go_frame
  have hN0 : NamesIn w2 G2 D (mixN st2.block st2.names (Maps.has D)) := HN.out.congr (fun s => mix_start HN.out s)
  have HN0 := Lib.hid hN0
  have HG0 := Lib.hid hg0
  clear hN0 hg0
  go_loopw [5, 6] (fun _ _ wr => ∃ (left : Lit → Bool) (cnt : Nat) (n : Nat) (D' : DataW Value), n < maxLen ∧ wr.ranges Try.prog 9 RV C.nm w2.heap.size n D' left cnt ∧ w2.grownBy wr (some C.nm) ∧ NamesIn w2 G2 D' (mixN st2.block st2.names left))
    (fun _ _ wr => wr.rangeLeft C.nm w2.heap.size)
  case atStart => exact ⟨_, _, _, D, hDl, hrg0, HG0.out.but _, HN0.out⟩
  case round =>
    obtain ⟨left, cnt, n, D', hn, hrg, hgw, hNI⟩ := hrel
    have HN1 := Lib.hid hNI
    have HGW := Lib.hid hgw
    obtain ⟨hRr, hSr⟩ := HR2.out.renamed hrg.owns hgw hNI (fun s hs => HR2.out.known s (mix_known hs))
    obtain ⟨pvr, hcr, hfr, _⟩ := hRr.cells
    have c2r : wr.cell? ⟨C.wk, 2, none⟩ = some (.map (some C.nm)) := hcr 2
    have c3r : wr.cell? ⟨C.wk, 3, none⟩ = some (.int .i64 st2.block) := hcr 3
    have y3r := hfr 3
    have HRr := Lib.hid hRr
    have HSr := Lib.hid hSr
    clear hNI hgw hRr hSr hcr hfr
    go_wp2_with (first
      | (at_next; refine wpList_next_ranges (α := ByteArray) (β := Value) _ rfl _ rfl 9 law9 RV (fun x => .string x) (fun v => v) (fun _ _ hk => key_str_inv hk) (fun v _ _ => ⟨v, rfl⟩) C.nm w2.heap.size n _ _ _ rfl hrg ?_ ?_))
    · intro _ hl0
      have HF : Hid (Rep C (wr.setCell ⟨C.wk, 3, none⟩ (.int .i64 st.block)) G2 (leaveF st2 st.block) ∧ Stp G2 wr G2 (wr.setCell ⟨C.wk, 3, none⟩ (.int .i64 st.block))) := by
        have h1 := HRr.out.blk3 st.block
        have e : mixN st2.block st2.names left = fun s => stripM st2.block (st2.names s) := funext fun s => by unfold mixN; rw [hl0]; rfl
        rw [e] at h1
        exact h1
      go_wp2_with fail
      go_end0
      exact ⟨rfl, G2, HF.out.1, (HS2.out.trans HSr.out).trans HF.out.2⟩
    · intro x c kl y1 y2 w1 cnt1 hkx hlx hy hat hrg1 hlt hg1 hs1 hen
      obtain ⟨rfl, hxs⟩ := key_str hkx
      obtain ⟨hM, hne⟩ : MeanAt w2 G2 c (st2.names x.data.toList) ∧ st2.names x.data.toList ≠ [] := by
        have e : mixN st2.block st2.names left x.data.toList = st2.names x.data.toList := by unfold mixN; rw [hlx]; rfl
        rcases HN1.out.2 x.data.toList with ⟨_, h2⟩ | ⟨h1, v', h2, h3⟩
        · rw [has_true_of_atKey hat] at h2; exact Bool.noConfusion h2
        · rw [e] at h1 h3
          have h4 := (hat (.nil)).symm.trans (h2 .nil)
          simp only [RV, Option.some.injEq, Prod.mk.injEq] at hy
          rw [← hy.1] at h4
          cases h4
          exact ⟨h3, h1⟩
      have hgw1 : w2.grownBy w1 (some C.nm) := HGW.out.andThen hg1 (fun j hj => by cases hj; exact Or.inl (Nat.le_refl _))
      obtain ⟨hR1, hS1⟩ := HR2.out.renamed hrg1.owns hgw1 HN1.out (fun s hs => HR2.out.known s (mix_known hs))
      obtain ⟨pv1, hc1, hf1, _⟩ := hR1.cells
      have c2w : w1.cell? ⟨C.wk, 2, none⟩ = some (.map (some C.nm)) := hc1 2
      have c3w : w1.cell? ⟨C.wk, 3, none⟩ = some (.int .i64 st2.block) := hc1 3
      have hM1 := hM.kept (w' := w1) (G' := G2) (fun k hk => hgw1.block k (HR2.out.own k (by omega)).2 (fun e => by cases e; have := HR2.out.gn; omega)) (fun _ hk => hk)
      obtain ⟨ms, hms⟩ : ∃ ms, ms = st2.names x.data.toList := ⟨_, rfl⟩
      have hlm := HLEN.out x.data.toList
      rw [← hms] at hM hM1 hne hlm
      obtain ⟨n1, hn1⟩ : ∃ n, ms.length = n + 1 := ⟨ms.length - 1, by have := List.length_pos_iff.2 hne; omega⟩
      obtain ⟨b1, o1, cc, rfl, hcc, hg7, hcells⟩ := hM1
      have hx1 := (hcells n1 (by omega)).2
      rw [hn1] at hcc hlm
      have hen' := hen
      rw [hn1] at hen'
      have HMS := Lib.hid hms
      have HM := Lib.hid hM
      have HG1 := Lib.hid hgw1
      have HRG := Lib.hid hrg1
      have hlast : (lastM ms).2 = (mi ms n1).2 := by unfold lastM; rw [hn1]; rfl
      rw [hn1]
      clear hen hR1 hS1 hc1 hf1 hM hms hcells hg7 hgw1 hat hy
      cases e5 : ((mi ms n1).2 == st2.block) with
      | false =>
        go_wp2_with fail
        go_quiet (fail)
        go_wp2_with fail
        go_roundw
        case rel =>
          refine ⟨_, cnt1, n, D', hn, ranges_drewN HRG.out nq, grown_drewN HG1.out nq, HN1.out.congr (fun t => ?_)⟩
          by_cases e : t = x.data.toList
          · subst e
            rw [mixN_same]
            unfold mixN stripM
            rw [hlx, if_pos rfl, if_neg (fun h => by have := h.2; rw [← HMS.out, hlast] at this; rw [this] at e5; simp at e5)]
          · rw [mixN_other e]
        case measure => rw [(ranges_drewN HRG.out nq).left_eq, hrg.left_eq]; exact hlt
      | true =>
        go_wp2_with fail
        go_quiet (fail)
        go_wp2_with fail
        have hrgN := ranges_drewN HRG.out (nq + 1)
        have hhas : Maps.has D' (.string x.data.toList) = true := by
          have := HN1.out.2 x.data.toList
          rcases this with ⟨h1, h2⟩ | ⟨h1, v', h2, _⟩
          · exfalso
            unfold mixN at h1
            rw [hlx, if_pos rfl, ← HMS.out] at h1
            exact hne h1
          · exact has_true_of_atKey h2
        obtain ⟨w3, hup, hrg3, hg3, hs3⟩ := ranges_put hrgN law9 Try.underlying112 hn hkx (val := .slice (some ⟨b1, o1, none⟩) n1 cc) (d := .held (.slice (some ⟨b1, o1, none⟩) n1 cc)) (ps := []) rfl hhas
        have HRG3 := Lib.hid hrg3
        have HG3 := Lib.hid ((grown_drewN HG1.out (nq + 1)).andThen hg3 (fun j hj => Or.inr hj))
        have c2w3 : w3.cell? ⟨C.wk, 2, none⟩ = some (.map (some C.nm)) := (World.cell?_of_block (a := ⟨C.wk, 2, none⟩) (hg3.block C.wk (block_lt_of_cell c2w) (fun e => by have h1 := HR2.out.gw; rw [Option.some.inj e, HR2.out.gn] at h1; omega))).trans c2w
        clear hrgN hrg3 hg3
        have hcc2 : (n1 : Int) ≤ (cc : Int) := by omega
        have hcc3 : n1 ≤ cc := by omega
        have hstrip : stripM st2.block (st2.names x.data.toList) = ms.dropLast := by
          rw [← HMS.out]
          unfold stripM
          rw [if_pos ⟨hne, by rw [hlast]; simpa using e5⟩]
        have hoth : ∀ t, t ≠ x.data.toList → mixN st2.block st2.names left t = mixN st2.block st2.names (fun z => left z && !z.sameKey (.string x.data.toList)) t := fun t ht => (mixN_other ht).symm
        by_cases h0 : n1 = 0
        · subst h0
          have HN3 := Lib.hid (HN1.out.putdel (d := .held (.slice (some ⟨b1, o1, none⟩) 0 cc)) (s := x.data.toList) (g := mixN st2.block st2.names (fun z => left z && !z.sameKey (.string x.data.toList))) (by rw [mixN_same, hstrip]; exact List.eq_nil_of_length_eq_zero (by rw [List.length_dropLast, hn1])) hoth)
          clear hstrip hoth hhas
          go_region
          go_wp2_with (at_delete; refine wpList_delete_ranges _ rfl _ _ 112 9 rfl 111 law9 Try.underlying112 _ C.nm w2.heap.size n _ _ _ rfl HRG3.out _ _ rfl hkx ?_; intro w4 cnt4 hrg4 hle4 hturn4; go_frame)
          have hS4 : (fun z : Lit => (left z && !z.sameKey (.string x.data.toList)) && !z.sameKey (.string x.data.toList)) = fun z => left z && !z.sameKey (.string x.data.toList) := Maps.strike_twice left _
          rw [hS4] at hrg4
          go_roundw
          case rel => exact ⟨_, cnt4, n, _, hn, hrg4, HG3.out.andThen hturn4.grown (fun j hj => Or.inr hj), HN3.out⟩
          case measure => rw [hrg4.left_eq, hrg.left_eq]; omega
        · have hg0 : ms.dropLast ≠ [] := fun e => by have h1 := congrArg List.length e; rw [List.length_dropLast, hn1] at h1; simp at h1; exact h0 h1
          have hMp : MeanAt w2 G2 (.slice (some ⟨b1, o1, none⟩) n1 cc) ms.dropLast := by
            have h1 := HM.out
            have h2 := h1.pop
            rw [hn1, Nat.add_sub_cancel] at h2
            exact h2
          have hM0 : IsMap D' := by
            obtain ⟨es, e, _⟩ := hrg.owns.entries law9
            exact ⟨es, e⟩
          have HN3 := Lib.hid (HN1.out.put hM0 (s := x.data.toList) (g := mixN st2.block st2.names (fun z => left z && !z.sameKey (.string x.data.toList))) (by rw [mixN_same, hstrip]; exact hMp) (by rw [mixN_same, hstrip]; exact hg0) hoth)
          have h00 : 0 < (n1 : Int) := by omega
          clear hstrip hoth hhas hMp hg0 hM0
          go_region
          go_wp2_with fail
          go_roundw
          case rel => exact ⟨_, cnt1, n, _, hn, HRG3.out, HG3.out, HN3.out⟩
          case measure => rw [HRG3.out.left_eq, hrg.left_eq]; exact hlt
end Go.Proofs.Ytmaepljmefdhkaa
