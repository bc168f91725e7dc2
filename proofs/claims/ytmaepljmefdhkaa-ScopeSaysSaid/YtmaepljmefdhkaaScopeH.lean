import Derived.Test.YtmaepljmefdhkaaScopeG
import Derived.Test.YtmaepljmefdhkaaReg1
namespace Go.Proofs.Ytmaepljmefdhkaa
open Go.RowKit Go.Maps
set_option maxHeartbeats 8000000
set_option maxRecDepth 100000

theorem zero205 (w : World) : (zeroValue 205).run Try.prog w = .ok (.agg #[]) w := by kernel_rfl
theorem row_slice {w : World} {v : Value} {xs : List Int} (h : w.ownsRow 0 3 1 v xs.length (intL xs)) : ∃ A c, v = .slice A xs.length c ∧ IntsAt w A xs := by
  obtain ⟨h1, h2⟩ := h
  rcases h2 with ⟨rfl, h0⟩ | ⟨g, cap, cur, rfl, _, hg, h3, h4, h5, h6⟩
  · refine ⟨none, 0, by rw [h0], fun i hi => by omega⟩
  · refine ⟨_, cap, rfl, fun i hi => ⟨g, 0, rfl, ?_⟩⟩
    rw [Nat.zero_add, cell_of_row w g i _ _ _ hg]
    have e : cur.toList[i]? = (intL xs)[i]? := by rw [← h6, List.getElem?_take_of_lt (by omega)]
    have e2 : cur[i]? = cur.toList[i]? := by simp
    rw [e2, e]
    simp [intL, gi, List.getElem?_eq_getElem hi, List.getD_eq_getElem?_getD]
theorem free_row {C : Ctx} {w : World} {G : Nat → Nat} {st : St} (h : Rep C w G st) : ∃ vs : List Value, vs.length = st.free.length ∧ w.heap[C.fb]? = some (.cells vs.toArray 24 (0, 0)) ∧
    (∀ q, q < st.free.length → w.ownsRow 0 3 1 (vs.getD q undef) (st.free.getD q []).length (intL (st.free.getD q [])) ∧ ∀ j, (vs.getD q undef).ownBlock = some j → G j = 9 + q) := h.free

theorem row_far {C : Ctx} {w : World} {G : Nat → Nat} {st : St} {v : Value} {n i : Nat} {d : Int} {o : Obj} (h : Rep C w G st) (hp : ∀ j, v.ownBlock = some j → G j = 4) {j : Nat} (hj : v.ownBlock = some j) (hlt : j < w.heap.size) :
    (((w.drewN n).alloc o).setCell ⟨C.rb, i, none⟩ (.int .i64 d)).heap[j]? = w.heap[j]? := by
  have gr := h.gr
  have gj := hp j hj
  exact (Below.heap_setCell _ _ _ _ (fun e => by rw [show j = C.rb from e] at gj; omega)).trans (Below.heap_alloc (w.drewN n) o j hlt)
theorem len_set {fr : List (List Int)} {B k pn : Nat} {xs : List Int} (h : ∀ q, (fr.getD q []).length ≤ B + k) (hx : xs.length ≤ (fr.getD pn []).length + 1) (q : Nat) : ((fr.set pn xs).getD q []).length ≤ B + (k + 1) := by
  have h1 := h q
  have h2 := h pn
  rw [List.getD_eq_getElem?_getD, List.getElem?_set]
  split
  · split
    · simp only [Option.getD_some]; omega
    · simp
  · rw [← List.getD_eq_getElem?_getD]; omega
/-- What stands behind the tests: the name is bound, and captured by each prog around it that it is not of. -/
theorem nameW_any {C : Ctx} {w : World} {G : Nat → Nat} {st : St} (h : Rep C w G st) (i : Nat) (hi : i < C.l.length) (hmd : ∀ m ∈ st.names (nameL C.l i), m.1 < (C.l.length : Int))
    (hlm : (st.names (nameL C.l i)).length ≤ 1099511627776) (hpr : ∀ k, k < st.progs.length → 0 ≤ gi st.progs k ∧ gi st.progs k < (C.l.length : Int)) (hpl : st.progs.length ≤ 8589934592) (hfl : ∀ q, (st.free.getD q []).length ≤ 8589934592) :
    Calls Try.prog 146 #[.pointer (some ⟨C.wk, 0, none⟩), .int .i64 i] w fun en w' => en = .returned (.tuple #[]) ∧ ∃ G', Rep C w' G' (nameF C.l C.first st i) ∧ Stp G w G' w' := by
  obtain ⟨pv, hc, hf, hrow, hpro, hpb⟩ := h.cells
  obtain ⟨b, o, hA, hn⟩ := h.nodesAt.node i hi
  obtain ⟨PA, pc, rfl, hPA⟩ := row_slice hpro
  have c0 : w.cell? ⟨C.wk, 0, none⟩ = some (.slice (some ⟨b, o, none⟩) C.l.length C.lc) := hA ▸ hc 0
  have c2 : w.cell? ⟨C.wk, 2, none⟩ = some (.map (some C.nm)) := hc 2
  have c5 : w.cell? ⟨C.wk, 5, none⟩ = some (.slice PA st.progs.length pc) := hc 5
  have c6 : w.cell? ⟨C.wk, 6, none⟩ = some (.map (some C.sm)) := hc 6
  have c7 : w.cell? ⟨C.wk, 7, none⟩ = some (.slice (some ⟨C.rb, 0, none⟩) C.l.length C.l.length) := hc 7
  have n3 := hn.name
  have hsz := h.nodes.size
  have hbig := big_le hsz
  have hi' : (i : Int) < C.l.length := by omega
  have hns := hn.nsz
  have hns' : (nd C.l i).name.size ≤ maxLen := by unfold maxLen; unfold big at hns; omega
  obtain ⟨v, hlook, hv⟩ := names_look_all h.names (nd C.l i).name hns'
  have hlookN : ∀ n, (Instr.lookup 112 (.map (some C.nm)) (.string (nd C.l i).name) false).run Try.prog (w.drewN n) = .ok v (w.drewN n) := fun n => hlook _ rfl
  have hNA := Lib.hid h.nodesAt
  have hwk := (h.own C.wk (by rw [h.gw]; decide)).2
  have hwr : ¬ C.wk = C.rb := fun e => by have h1 := h.gw; rw [e, h.gr] at h1; omega
  have HPA := Lib.hid hPA
  have HPR := Lib.hid hpr
  have H := Lib.hid h
  have HPO := Lib.hid hpro
  have HPB := Lib.hid hpb
  have HFL := Lib.hid hfl
  have HMD := Lib.hid hmd
  have hname : nameL C.l i = (nd C.l i).name.data.toList := rfl
  clear h hc hf hrow hpro hpb hn hns hlook hPA hpr hfl hmd hns'
  rcases hv with ⟨hv1, rfl⟩ | ⟨hv1, hv2⟩
  · have HE : Hid (nameF C.l C.first st i = wrongF C.l st i 51) := by show nameF C.l C.first st i = _; rw [nameF, if_pos (show st.names (nameL C.l i) = [] from hv1)]
    clear hv1
    go_enter Try.func146, Try.ntmps146
    go_wp2_with fail
    go_quiet (fail)
    go_wp2_with fail
    refine (wrong_any (H.out.drewN nq) i hi 51).mono ?_
    rintro e w1 ⟨rfl, hR, hS⟩
    go_wp2_with fail
    exact bodyPost_ret (v := .tuple #[]) (by simp [results, Try.results146, go_sem]) rfl ⟨rfl, G, by rw [HE.out]; exact hR, ((Stp.refl G w).drewN nq).trans hS⟩
  · obtain ⟨b1, o1, c1, rfl, hcc, hg7, hcells⟩ := hv2
    rw [← hname] at *
    obtain ⟨ms, hms⟩ : ∃ ms, ms = st.names (nameL C.l i) := ⟨_, rfl⟩
    rw [← hms] at hlookN hcc hcells hlm hv1
    obtain ⟨n1, hn1⟩ : ∃ n, ms.length = n + 1 := ⟨ms.length - 1, by have := List.length_pos_iff.2 hv1; omega⟩
    have hx := (hcells n1 (by omega)).1
    rw [hn1] at hlookN hcc hlm
    have hlast : (lastM ms) = (mi ms n1) := by unfold lastM; rw [hn1]; rfl
    have hdN : (mi ms n1).1 < (C.l.length : Int) := HMD.out (mi ms n1) (by rw [← hms]; unfold mi; rw [List.getD_eq_getElem?_getD, List.getElem?_eq_getElem (by omega)]; exact List.getElem_mem _)
    obtain ⟨d, hd⟩ : ∃ d, d = (mi ms n1).1 := ⟨_, rfl⟩
    rw [← hd] at hx hdN
    have HE : Hid (nameF C.l C.first st i = if isVarB C.l d && decide (0 < st.progs.length) && !insideB C.first d (gi st.progs (st.progs.length - 1)) then wrongF C.l st i 53
        else if st.set i && !isVarB C.l d then wrongF C.l st i 52 else bindF C.first st i d) := by
      show nameF C.l C.first st i = _
      rw [nameF, ← hms, if_neg hv1, hlast, hd]
    clear hv1 hlast hd hms hcells hg7 HMD
    have hbl : b1 < w.heap.size := block_lt_of_cell hx
    -- THE WAYS
    have HSD0 := H.out.set
    obtain ⟨SD, hSD, hs1, hs2⟩ := HSD0
    have HSD := Lib.hid hSD
    have hseti := hs1 i
    clear hSD hs1 hs2
    have hrl := H.out.rlen
    have r0 : w.cell? ⟨C.rb, i, none⟩ = some (.int .i64 (gi st.ref i)) := H.out.ref.cell (by omega)
    have f0 := H.out.ref.frozen i
    have hrb := H.out.ref.lt
    by_cases hd0 : d < 0
    · have hiv : isVarB C.l d = false := by unfold isVarB; rw [decide_eq_false (by omega)]; rfl
      have HE1 := Lib.hid (HE.out.trans (by rw [hiv]; simp) : nameF C.l C.first st i = if st.set i then wrongF C.l st i 52 else bindF C.first st i d)
      cases hss : st.set i with
      | true =>
        rw [hss] at hseti HE1
        have hset := hseti
        have HE2 : Hid (nameF C.l C.first st i = wrongF C.l st i 52) := HE1.out
        clear HE HE1
        go_enter Try.func146, Try.ntmps146
        go_wp2_with fail
        go_quiet (fail)
        obtain ⟨pvx, hcx, hfx, _⟩ := ((H.out.drewN nq).alloc (.cells #[] 205)).cells
        have c7x : ((w.drewN nq).alloc (.cells #[] 205)).cell? ⟨C.wk, 7, none⟩ = some (.slice (some ⟨C.rb, 0, none⟩) C.l.length C.l.length) := hcx 7
        have r0x : ((w.drewN nq).alloc (.cells #[] 205)).cell? ⟨C.rb, i, none⟩ = some (.int .i64 (gi st.ref i)) := ((H.out.drewN nq).alloc (.cells #[] 205)).ref.cell (by omega)
        have f0x := ((H.out.drewN nq).alloc (.cells #[] 205)).ref.frozen i
        have c5x : ((w.drewN nq).alloc (.cells #[] 205)).cell? ⟨C.wk, 5, none⟩ = some (.slice PA st.progs.length pc) := (World.cell?_of_block (a := ⟨C.wk, 5, none⟩) (Below.heap_alloc (w.drewN nq) _ C.wk hwk)).trans c5
        clear hcx hfx
        go_wp2_with (first | (at_lookup; refine wpList_lookup_own_unit _ rfl _ _ 113 rfl 3 205 law3 Try.underlying113 (zero205 _) C.sm _ _ rfl (ownsMap_of_block HSD.out rfl) _ _ rfl (keyOf_int_mk Try.underlying3 (wf_nat (by unfold big at *; omega))) ?_; rw [hset]))
        refine (wrong_any ((H.out.drewN nq).alloc (.cells #[] 205)) i hi 52).mono ?_
        rintro e w1 ⟨rfl, hR, hS⟩
        go_wp2_with fail
        exact bodyPost_ret (v := .tuple #[]) (by simp [results, Try.results146, go_sem]) rfl ⟨rfl, G, by rw [HE2.out]; exact hR, (((Stp.refl G w).drewN nq).alloc _).trans hS⟩

      | false =>
        rw [hss] at hseti HE1
        have hset := hseti
        have HE2 : Hid (nameF C.l C.first st i = bindF C.first st i d) := HE1.out
        clear HE HE1
        go_enter Try.func146, Try.ntmps146
        go_wp2_with fail
        go_quiet (fail)
        obtain ⟨pvx, hcx, hfx, _⟩ := ((H.out.drewN nq).alloc (.cells #[] 205)).cells
        have c7x : ((w.drewN nq).alloc (.cells #[] 205)).cell? ⟨C.wk, 7, none⟩ = some (.slice (some ⟨C.rb, 0, none⟩) C.l.length C.l.length) := hcx 7
        have r0x : ((w.drewN nq).alloc (.cells #[] 205)).cell? ⟨C.rb, i, none⟩ = some (.int .i64 (gi st.ref i)) := ((H.out.drewN nq).alloc (.cells #[] 205)).ref.cell (by omega)
        have f0x := ((H.out.drewN nq).alloc (.cells #[] 205)).ref.frozen i
        have c5x : ((w.drewN nq).alloc (.cells #[] 205)).cell? ⟨C.wk, 5, none⟩ = some (.slice PA st.progs.length pc) := (World.cell?_of_block (a := ⟨C.wk, 5, none⟩) (Below.heap_alloc (w.drewN nq) _ C.wk hwk)).trans c5
        clear hcx hfx
        go_wp2_with (first | (at_lookup; refine wpList_lookup_own_unit _ rfl _ _ 113 rfl 3 205 law3 Try.underlying113 (zero205 _) C.sm _ _ rfl (ownsMap_of_block HSD.out rfl) _ _ rfl (keyOf_int_mk Try.underlying3 (wf_nat (by unfold big at *; omega))) ?_; rw [hset]))
        obtain ⟨hR1, hS1⟩ := ((H.out.drewN nq).alloc (.cells #[] 205)).refset i d
        have HR1 := Lib.hid hR1
        have HS1 := Lib.hid ((((Stp.refl G w).drewN nq).alloc (.cells #[] 205)).trans hS1)
        have hrow1 := ownsRow_of_block (w' := ((w.drewN nq).alloc (.cells #[] 205)).setCell ⟨C.rb, i, none⟩ (.int .i64 d)) HPO.out (fun j hj => row_far (H.out) HPB.out hj ((HPO.out.lt j hj).2))
        have HO1 := Lib.hid hrow1
        clear hR1 hS1 hrow1
        go_loopg [108] st.progs.length (fun gk v wr => ∃ (k : Nat) (fr : List (List Int)) (G' : Nat → Nat), v = .int .i64 k ∧ k + gk = st.progs.length ∧ Rep C wr G' { st with ref := st.ref.set i d, free := fr } ∧ Stp G w G' wr ∧ bindF C.first st i d = { st with ref := st.ref.set i d, free := (st.progs.drop k).foldl (addFree C.first d) fr } ∧ (∀ q, (fr.getD q []).length ≤ 8589934592 + k) ∧ wr.ownsRow 0 3 1 (.slice PA st.progs.length pc) st.progs.length (intL st.progs) ∧ (∀ j, (Value.slice PA st.progs.length pc).ownBlock = some j → G' j = 4))
        case atStart => exact ⟨0, st.free, G, rfl, by omega, HR1.out, HS1.out, by simp [bindF], fun q => HFL.out q, HO1.out, HPB.out⟩
        case round =>
          obtain ⟨k, fr, G1, rfl, hkd, hR, hS, hB, hfr, hpo, hpb⟩ := hrel
          have HRR := Lib.hid hR
          have HSS := Lib.hid hS
          have HBB := Lib.hid hB
          have HFF := Lib.hid hfr
          have HPO2 := Lib.hid hpo
          have HPB2 := Lib.hid hpb
          have HKD := Lib.hid hkd
          obtain ⟨pv2, hc2, _⟩ := hR.cells
          have e8 : wr.cell? ⟨C.wk, 8, none⟩ = some (.slice (some ⟨C.fb, 0, none⟩) C.l.length C.l.length) := hc2 8
          have hwkl := (hR.own C.wk (by rw [hR.gw]; decide)).2
          have hfbl := (hR.own C.fb (by rw [hR.gf]; decide)).2
          have hne : ¬ C.wk = C.fb := fun e => by have h1 := hR.gw; rw [e, hR.gf] at h1; omega
          clear hB hfr hpb hkd hc2 hS
          rcases gk with _ | gk
          · clear hR hpo
            obtain rfl : k = st.progs.length := by have := HKD.out; omega
            go_wp2_with fail
            go_end0
            refine ⟨rfl, G1, ?_⟩
            rw [HE2.out, HBB.out, List.drop_of_length_le (by omega)]
            exact ⟨HRR.out, HSS.out⟩
          · have hk : k < st.progs.length := by have := HKD.out; omega
            have hkp : k < st.progs.length := by omega
            obtain ⟨PA2, pc2, ePA, hPA2⟩ := row_slice (w := wr) (v := .slice PA st.progs.length pc) (xs := st.progs) (by exact hpo)
            obtain ⟨rfl, -, rfl⟩ : PA = PA2 ∧ st.progs.length = st.progs.length ∧ pc = pc2 := by simpa using ePA
            have hPAk := hPA2 k hkp
            obtain ⟨gp, op, rfl, hxk⟩ := hPAk
            obtain ⟨pn, hpn⟩ : ∃ pn : Nat, gi st.progs k = pn := ⟨_, (Int.toNat_of_nonneg (HPR.out k hkp).1).symm⟩
            rw [hpn] at hxk
            have hpN : pn < C.l.length := by have := (HPR.out k hkp).2; omega
            have hfrl := hR.frlen
            have hdrop : st.progs.drop k = (pn : Int) :: st.progs.drop (k + 1) := by
              rw [List.drop_eq_getElem_cons hkp]
              congr 1
              rw [← hpn]; simp [gi, List.getD_eq_getElem?_getD, List.getElem?_eq_getElem hkp]
            have HB2 : Hid (bindF C.first st i d = { st with ref := st.ref.set i d, free := (st.progs.drop (k + 1)).foldl (addFree C.first d) (addFree C.first d fr pn) }) := HBB.out.trans (by rw [hdrop]; rfl)
            obtain ⟨vs, hv1, hv2, hv3⟩ := free_row hR
            have hpf : pn < fr.length := by rw [hfrl]; exact hpN
            have hv3p := (hv3 pn hpf).1
            have hvp : vs.getD pn undef = vs[pn]'(by omega) := by simp [List.getD_eq_getElem?_getD, List.getElem?_eq_getElem (show pn < vs.length by omega)]
            obtain ⟨FA, fc, hfv, hFA⟩ := row_slice hv3p
            have efp : wr.cell? ⟨C.fb, pn, none⟩ = some (.slice FA (fr.getD pn []).length fc) := by
              rw [cell_of_row wr C.fb pn _ _ _ hv2, ← hfv, hvp]; simp [show pn < vs.length by omega]
            have yfp := frozen_of_row wr C.fb pn _ _ hv2
            have hflen : (fr.getD pn []).length ≤ 1099511627776 := by have := HFF.out pn; omega
            obtain ⟨fl, hflv⟩ : ∃ fl, fl = fr.getD pn [] := ⟨_, rfl⟩
            rw [← hflv] at efp hflen hFA
            have HFLV := Lib.hid hflv
            have HFA := Lib.hid hFA
            have HV1 := Lib.hid hv1
            have HV2 := Lib.hid hv2
            have HV3 := Lib.hid hv3
            have HFV : Hid (vs.getD pn undef = .slice FA fl.length fc) := by rw [hflv]; exact hfv
            have HVP := Lib.hid hv3p
            have hvq : wr.ownsRow 0 3 1 (.slice FA fl.length fc) fl.length (intL fl) := by rw [hflv, ← hfv]; exact hv3p
            have HVQ := Lib.hid hvq
            obtain ⟨i0, hi0, hz0, hz1, hz2⟩ := info_parts info3
            clear hvq hflv hR hpo hdrop hv1 hv2 hv3 hv3p hvp hfv hFA hpn hPA2 ePA hfrl
            cases e1 : insideB C.first d pn with
            | true =>
              go_wp2_with (go_at_call 192; refine (inside_any HRR.out _ pn hpN).mono ?_; rintro e w1 ⟨rfl, rfl⟩; rw [e1])
              go_roundg gk
              case measure => omega
              case rel => exact ⟨k + 1, fr, G1, by go_num, by have := HKD.out; omega, HRR.out, HSS.out, by rw [HB2.out, show addFree C.first d fr pn = fr from by simp [addFree, e1]], fun q => by have := HFF.out q; omega, HPO2.out, HPB2.out⟩
            | false =>
              cases e2 : hasB fl d with
              | true =>
                go_wp2_with (first | (go_at_call 192; refine (inside_any HRR.out _ pn hpN).mono ?_; rintro e w1 ⟨rfl, rfl⟩; rw [e1]) | (go_at_call 193; refine (contains_any FA fc fl _ _ hflen HFA.out).mono ?_; rintro e w1 ⟨rfl, rfl⟩; rw [e2]))
                go_roundg gk
                case measure => omega
                case rel => exact ⟨k + 1, fr, G1, by go_num, by have := HKD.out; omega, HRR.out, HSS.out, by rw [HB2.out, show addFree C.first d fr pn = fr from by simp only [addFree, e1, Int.toNat_natCast, ← HFLV.out, e2]; rfl], fun q => by have := HFF.out q; omega, HPO2.out, HPB2.out⟩
              | false =>
                go_wp2_with (first | (go_at_call 192; refine (inside_any HRR.out _ pn hpN).mono ?_; rintro e w1 ⟨rfl, rfl⟩; rw [e1]) | (go_at_call 193; refine (contains_any FA fc fl _ _ hflen HFA.out).mono ?_; rintro e w1 ⟨rfl, rfl⟩; rw [e2]))
                refine wp_region_E (fun w' => w'.cell? ⟨C.wk, 8, none⟩ = some (.slice (some ⟨C.fb, 0, none⟩) C.l.length C.l.length) ∧ w'.cell? ⟨C.fb, pn, none⟩ = some (.slice FA fl.length fc)) 18 (by kernel_rfl) ⟨e8, efp⟩ (fun hS0 => ?_)
                refine wpAnyE_take (i := 0) (oi := { dst := (some 130), op := (Op.move (Operand.tmp 0)), type := 108, pos := "scope.go:185", after := #[], guard := none }) (v := ?_) rfl (by kernel_rfl) (fun _ _ _ h => h) ⟨by rfl, ?_⟩ hS0 ?_
                rotate_left
                · (intro w hSw; (try dsimp only at hSw); go_simp; try with_reducible rfl)
                try simp only [Act.put, List.setIfInBounds_toArray, List.set_cons_zero, List.set_cons_succ]
                refine wpAnyE_take (i := 1) (oi := { dst := (some 131), op := (Op.nilCheck (Operand.tmp 130)), type := 0, pos := "scope.go:185", after := #[{ on := 0, ground := Ground.data }], guard := none }) (v := ?_) rfl (by kernel_rfl) (fun _ _ _ h => h) ⟨by rfl, ?_⟩ hS0 ?_
                rotate_left
                · (intro w hSw; (try dsimp only at hSw); go_simp; try with_reducible rfl)
                try simp only [Act.put, List.setIfInBounds_toArray, List.set_cons_zero, List.set_cons_succ]
                refine wpAnyE_take (i := 2) (oi := { dst := (some 132), op := (Op.fieldAddr 115 (Operand.tmp 131) 7), type := 0, pos := "scope.go:185", after := #[{ on := 1, ground := Ground.data }], guard := none }) (v := ?_) rfl (by kernel_rfl) (fun _ _ _ h => h) ⟨by rfl, ?_⟩ hS0 ?_
                rotate_left
                · (intro w hSw; (try dsimp only at hSw); go_simp; try with_reducible rfl)
                try simp only [Act.put, List.setIfInBounds_toArray, List.set_cons_zero, List.set_cons_succ]
                refine wpAnyE_take (i := 3) (oi := { dst := (some 133), op := (Op.fieldAddr 39 (Operand.tmp 132) 1), type := 0, pos := "scope.go:185", after := #[{ on := 2, ground := Ground.data }], guard := none }) (v := ?_) rfl (by kernel_rfl) (fun _ _ _ h => h) ⟨by rfl, ?_⟩ hS0 ?_
                rotate_left
                · (intro w hSw; (try dsimp only at hSw); go_simp; try with_reducible rfl)
                try simp only [Act.put, List.setIfInBounds_toArray, List.set_cons_zero, List.set_cons_succ]
                refine wpAnyE_take (i := 4) (oi := { dst := (some 134), op := (Op.load 37 (Operand.tmp 133)), type := 37, pos := "scope.go:185", after := #[{ on := 3, ground := Ground.data }], guard := none }) (v := ?_) rfl (by kernel_rfl) (fun _ _ _ h => h) ⟨by rfl, ?_⟩ hS0 ?_
                rotate_left
                · (intro w hSw; (try dsimp only at hSw); go_simp; try with_reducible rfl)
                try simp only [Act.put, List.setIfInBounds_toArray, List.set_cons_zero, List.set_cons_succ]
                refine wpAnyE_take (i := 5) (oi := { dst := (some 135), op := (Op.move (Operand.tmp 11)), type := 3, pos := "scope.go:185", after := #[], guard := none }) (v := ?_) rfl (by kernel_rfl) (fun _ _ _ h => h) ⟨by rfl, ?_⟩ hS0 ?_
                rotate_left
                · (intro w hSw; (try dsimp only at hSw); go_simp; try with_reducible rfl)
                try simp only [Act.put, List.setIfInBounds_toArray, List.set_cons_zero, List.set_cons_succ]
                refine wpAnyE_take (i := 6) (oi := { dst := (some 136), op := (Op.move (Operand.tmp 0)), type := 108, pos := "scope.go:185", after := #[], guard := none }) (v := ?_) rfl (by kernel_rfl) (fun _ _ _ h => h) ⟨by rfl, ?_⟩ hS0 ?_
                rotate_left
                · (intro w hSw; (try dsimp only at hSw); go_simp; try with_reducible rfl)
                try simp only [Act.put, List.setIfInBounds_toArray, List.set_cons_zero, List.set_cons_succ]
                refine wpAnyE_take (i := 7) (oi := { dst := (some 137), op := (Op.nilCheck (Operand.tmp 136)), type := 0, pos := "scope.go:185", after := #[{ on := 6, ground := Ground.data }], guard := none }) (v := ?_) rfl (by kernel_rfl) (fun _ _ _ h => h) ⟨by rfl, ?_⟩ hS0 ?_
                rotate_left
                · (intro w hSw; (try dsimp only at hSw); go_simp; try with_reducible rfl)
                try simp only [Act.put, List.setIfInBounds_toArray, List.set_cons_zero, List.set_cons_succ]
                refine wpAnyE_take (i := 8) (oi := { dst := (some 138), op := (Op.fieldAddr 115 (Operand.tmp 137) 7), type := 0, pos := "scope.go:185", after := #[{ on := 7, ground := Ground.data }], guard := none }) (v := ?_) rfl (by kernel_rfl) (fun _ _ _ h => h) ⟨by rfl, ?_⟩ hS0 ?_
                rotate_left
                · (intro w hSw; (try dsimp only at hSw); go_simp; try with_reducible rfl)
                try simp only [Act.put, List.setIfInBounds_toArray, List.set_cons_zero, List.set_cons_succ]
                refine wpAnyE_take (i := 9) (oi := { dst := (some 139), op := (Op.fieldAddr 39 (Operand.tmp 138) 1), type := 0, pos := "scope.go:185", after := #[{ on := 8, ground := Ground.data }], guard := none }) (v := ?_) rfl (by kernel_rfl) (fun _ _ _ h => h) ⟨by rfl, ?_⟩ hS0 ?_
                rotate_left
                · (intro w hSw; (try dsimp only at hSw); go_simp; try with_reducible rfl)
                try simp only [Act.put, List.setIfInBounds_toArray, List.set_cons_zero, List.set_cons_succ]
                refine wpAnyE_take (i := 10) (oi := { dst := (some 140), op := (Op.load 37 (Operand.tmp 139)), type := 37, pos := "scope.go:185", after := #[{ on := 9, ground := Ground.data }], guard := none }) (v := ?_) rfl (by kernel_rfl) (fun _ _ _ h => h) ⟨by rfl, ?_⟩ hS0 ?_
                rotate_left
                · (intro w hSw; (try dsimp only at hSw); go_simp; try with_reducible rfl)
                try simp only [Act.put, List.setIfInBounds_toArray, List.set_cons_zero, List.set_cons_succ]
                refine wpAnyE_take (i := 11) (oi := { dst := (some 141), op := (Op.move (Operand.tmp 11)), type := 3, pos := "scope.go:185", after := #[], guard := none }) (v := ?_) rfl (by kernel_rfl) (fun _ _ _ h => h) ⟨by rfl, ?_⟩ hS0 ?_
                rotate_left
                · (intro w hSw; (try dsimp only at hSw); go_simp; try with_reducible rfl)
                try simp only [Act.put, List.setIfInBounds_toArray, List.set_cons_zero, List.set_cons_succ]
                refine wpAnyE_take (i := 12) (oi := { dst := (some 142), op := (Op.indexAddr 37 (Operand.tmp 140) (Operand.tmp 141)), type := 0, pos := "scope.go:185", after := #[{ on := 10, ground := Ground.data }, { on := 11, ground := Ground.data }], guard := none }) (v := ?_) rfl (by kernel_rfl) (fun _ _ _ h => h) ⟨by rfl, ?_⟩ hS0 ?_
                rotate_left
                · (intro w hSw; (try dsimp only at hSw); go_simp; try with_reducible rfl)
                try simp only [Act.put, List.setIfInBounds_toArray, List.set_cons_zero, List.set_cons_succ]
                refine wpAnyE_take (i := 13) (oi := { dst := (some 143), op := (Op.load 24 (Operand.tmp 142)), type := 24, pos := "scope.go:185", after := #[{ on := 12, ground := Ground.data }], guard := none }) (v := ?_) rfl (by kernel_rfl) (fun _ _ _ h => h) ⟨by rfl, ?_⟩ hS0 ?_
                rotate_left
                · (intro w hSw; (try dsimp only at hSw); go_simp; try with_reducible rfl)
                try simp only [Act.put, List.setIfInBounds_toArray, List.set_cons_zero, List.set_cons_succ]
                refine wpAnyE_take (i := 14) (oi := { dst := (some 144), op := (Op.move (Operand.tmp 5)), type := 3, pos := "scope.go:185", after := #[], guard := none }) (v := ?_) rfl (by kernel_rfl) (fun _ _ _ h => h) ⟨by rfl, ?_⟩ hS0 ?_
                rotate_left
                · (intro w hSw; (try dsimp only at hSw); go_simp; try with_reducible rfl)
                try simp only [Act.put, List.setIfInBounds_toArray, List.set_cons_zero, List.set_cons_succ]
                refine wpAnyE_one (i := 15) (o := { dst := (some 145), op := (Op.buildSlice 24 1 #[(0, (Operand.tmp 144))]), type := 24, pos := "scope.go:185", after := #[{ on := 14, ground := Ground.data }], guard := none }) (by kernel_rfl) rfl (fun K hK => ?_)
                go_simp
                have hS6 : (fun w' => w'.cell? ⟨C.wk, 8, none⟩ = some (.slice (some ⟨C.fb, 0, none⟩) C.l.length C.l.length) ∧ w'.cell? ⟨C.fb, pn, none⟩ = some (.slice FA fl.length fc)) (wr.drew.alloc (.cells #[.int .i64 d] 3)) := ⟨(World.cell?_alloc_lt _ _ _ hwkl).trans e8, (World.cell?_alloc_lt _ _ _ hfbl).trans efp⟩
                refine hK.out _ _ (Or.inr hS6) ?_
                clear hK K
                try simp only [Act.put, List.setIfInBounds_toArray, List.set_cons_zero, List.set_cons_succ]
                refine wpAnyE_one (i := 16) (o := { dst := (some 146), op := (Op.call { callee := (Callee.builtin Builtin.append), args := #[(Operand.tmp 143), (Operand.tmp 145)], argTypes := #[24, 24] }), type := 24, pos := "scope.go:185", after := #[{ on := 13, ground := Ground.data }, { on := 15, ground := Ground.data }], guard := none }) (by kernel_rfl) rfl (fun K hK => ?_)
                refine wanted_step rfl ?_
                refine wp_append_lies _ (.tmp 143) (.tmp 145) 24 rfl 0 3 i0 (.int .i64 0) 1 8 Try.underlying24 hi0 hz0 hz1 hz2 rfl (by decide) _ fl.length (intL fl) rfl (World.ownsRow.alloc (w := wr.drewN 1) HVQ.out _) ⟨wr.heap.size, 0, none⟩ 1 1 [.int .i64 d] rfl rfl (World.news_of_block (cs := #[.int .i64 d]) (t := 3) (fr := (0, 0)) (heap_alloc_new _ _)) (by simp [Value.oneCell']) (by decide) (by unfold maxLen; omega) (by omega) (Nat.zero_le _) _ rfl ?_
                intro g cap w1 hown hg hat hlt
                obtain ⟨G2, HF, c8', y8', hz⟩ := free_step HRR.out HV1.out HV2.out HV3.out hpf (p := pn) (by rw [← HFLV.out]; exact hown) (by rw [HFV.out]; exact hg) (by rw [HFV.out]; exact hat)
                rw [← HFLV.out] at HF
                rw [HFV.out] at hz
                have hS7 : (fun w' => w'.cell? ⟨C.wk, 8, none⟩ = some (.slice (some ⟨C.fb, 0, none⟩) C.l.length C.l.length) ∧ w'.cell? ⟨C.fb, pn, none⟩ = some (.slice FA fl.length fc)) w1 := ⟨c8', hz⟩
                clear hown hg hat hlt
                refine hK.out _ _ (Or.inr hS7) ?_
                clear hK K
                try simp only [Act.put, List.setIfInBounds_toArray, List.set_cons_zero, List.set_cons_succ]
                refine wpAnyE_one (i := 17) (o := { dst := (some 147), op := (Op.indexAddr 37 (Operand.tmp 134) (Operand.tmp 135)), type := 0, pos := "scope.go:185", after := #[{ on := 4, ground := Ground.data }, { on := 5, ground := Ground.data }, { on := 0, ground := Ground.phase }, { on := 1, ground := Ground.phase }, { on := 2, ground := Ground.phase }, { on := 3, ground := Ground.phase }, { on := 4, ground := Ground.phase }, { on := 5, ground := Ground.phase }, { on := 6, ground := Ground.phase }, { on := 7, ground := Ground.phase }, { on := 8, ground := Ground.phase }, { on := 9, ground := Ground.phase }, { on := 10, ground := Ground.phase }, { on := 11, ground := Ground.phase }, { on := 12, ground := Ground.phase }, { on := 13, ground := Ground.phase }, { on := 14, ground := Ground.phase }, { on := 15, ground := Ground.phase }, { on := 16, ground := Ground.phase }], guard := none }) (by kernel_rfl) rfl (fun K hK => ?_)
                go_simp
                refine hK.out _ _ (Or.inr hS7) ?_
                clear hK K
                try simp only [Act.put, List.setIfInBounds_toArray, List.set_cons_zero, List.set_cons_succ]
                refine wpAnyE_one (i := 18) (o := { dst := none, op := (Op.store 24 (Operand.tmp 147) (Operand.tmp 146)), type := 0, pos := "scope.go:185", after := #[{ on := 17, ground := Ground.data }, { on := 16, ground := Ground.data }, { on := 16, ground := Ground.chain }, { on := 0, ground := Ground.phase }, { on := 1, ground := Ground.phase }, { on := 2, ground := Ground.phase }, { on := 3, ground := Ground.phase }, { on := 4, ground := Ground.phase }, { on := 5, ground := Ground.phase }, { on := 6, ground := Ground.phase }, { on := 7, ground := Ground.phase }, { on := 8, ground := Ground.phase }, { on := 9, ground := Ground.phase }, { on := 10, ground := Ground.phase }, { on := 11, ground := Ground.phase }, { on := 12, ground := Ground.phase }, { on := 13, ground := Ground.phase }, { on := 14, ground := Ground.phase }, { on := 15, ground := Ground.phase }, { on := 16, ground := Ground.phase }], guard := none }) (by kernel_rfl) rfl (fun K hK => ?_)
                go_simp
                refine hK.out _ _ (Or.inl rfl) ?_
                clear hK K hS0 hS6 hS7
                refine wpAnyE_done (by kernel_rfl) ?_
                all_goals
                  go_wp2_with fail
                  go_roundg gk
                  case measure => omega
                  case rel => exact ⟨k + 1, fr.set pn (fl ++ [d]), G2, by go_num, by have := HKD.out; omega, HF.out.1, HSS.out.trans HF.out.2.1, by rw [HB2.out, show addFree C.first d fr pn = fr.set pn (fl ++ [d]) from by simp only [addFree, e1, Int.toNat_natCast, ← HFLV.out, e2]; rfl], fun q => len_set HFF.out (by rw [HFLV.out]; simp) q, ownsRow_of_block HPO2.out (fun j hj => (HF.out.2.2 j (HPB2.out j hj)).2), fun j hj => (HF.out.2.2 j (HPB2.out j hj)).1⟩

    · obtain ⟨dn, rfl⟩ : ∃ dn : Nat, d = dn := ⟨d.toNat, by omega⟩
      have hdl : dn < C.l.length := by omega
      obtain ⟨b2, o2, hA2, hnd⟩ := hNA.out.node dn hdl
      obtain ⟨rfl, rfl⟩ : b = b2 ∧ o = o2 := by simpa [hA] using hA2
      have nk := hnd.kind
      clear hnd hA2
      cases ek : ((nd C.l dn).kind == 32) with
      | false =>
        have hiv : isVarB C.l (dn : Int) = false := by simp [isVarB, ek]
        have HE1 := Lib.hid (HE.out.trans (by rw [hiv]; simp) : nameF C.l C.first st i = if st.set i then wrongF C.l st i 52 else bindF C.first st i dn)
        cases hss : st.set i with
        | true =>
          rw [hss] at hseti HE1
          have hset := hseti
          have HE2 : Hid (nameF C.l C.first st i = wrongF C.l st i 52) := HE1.out
          clear HE HE1
          go_enter Try.func146, Try.ntmps146
          go_wp2_with fail
          go_quiet (fail)
          obtain ⟨pvx, hcx, hfx, _⟩ := ((H.out.drewN nq).alloc (.cells #[] 205)).cells
          have c7x : ((w.drewN nq).alloc (.cells #[] 205)).cell? ⟨C.wk, 7, none⟩ = some (.slice (some ⟨C.rb, 0, none⟩) C.l.length C.l.length) := hcx 7
          have r0x : ((w.drewN nq).alloc (.cells #[] 205)).cell? ⟨C.rb, i, none⟩ = some (.int .i64 (gi st.ref i)) := ((H.out.drewN nq).alloc (.cells #[] 205)).ref.cell (by omega)
          have f0x := ((H.out.drewN nq).alloc (.cells #[] 205)).ref.frozen i
          have c5x : ((w.drewN nq).alloc (.cells #[] 205)).cell? ⟨C.wk, 5, none⟩ = some (.slice PA st.progs.length pc) := (World.cell?_of_block (a := ⟨C.wk, 5, none⟩) (Below.heap_alloc (w.drewN nq) _ C.wk hwk)).trans c5
          clear hcx hfx
          go_wp2_with (first | (at_lookup; refine wpList_lookup_own_unit _ rfl _ _ 113 rfl 3 205 law3 Try.underlying113 (zero205 _) C.sm _ _ rfl (ownsMap_of_block HSD.out rfl) _ _ rfl (keyOf_int_mk Try.underlying3 (wf_nat (by unfold big at *; omega))) ?_; rw [hset]))
          refine (wrong_any ((H.out.drewN nq).alloc (.cells #[] 205)) i hi 52).mono ?_
          rintro e w1 ⟨rfl, hR, hS⟩
          go_wp2_with fail
          exact bodyPost_ret (v := .tuple #[]) (by simp [results, Try.results146, go_sem]) rfl ⟨rfl, G, by rw [HE2.out]; exact hR, (((Stp.refl G w).drewN nq).alloc _).trans hS⟩

        | false =>
          rw [hss] at hseti HE1
          have hset := hseti
          have HE2 : Hid (nameF C.l C.first st i = bindF C.first st i dn) := HE1.out
          clear HE HE1
          go_enter Try.func146, Try.ntmps146
          go_wp2_with fail
          go_quiet (fail)
          obtain ⟨pvx, hcx, hfx, _⟩ := ((H.out.drewN nq).alloc (.cells #[] 205)).cells
          have c7x : ((w.drewN nq).alloc (.cells #[] 205)).cell? ⟨C.wk, 7, none⟩ = some (.slice (some ⟨C.rb, 0, none⟩) C.l.length C.l.length) := hcx 7
          have r0x : ((w.drewN nq).alloc (.cells #[] 205)).cell? ⟨C.rb, i, none⟩ = some (.int .i64 (gi st.ref i)) := ((H.out.drewN nq).alloc (.cells #[] 205)).ref.cell (by omega)
          have f0x := ((H.out.drewN nq).alloc (.cells #[] 205)).ref.frozen i
          have c5x : ((w.drewN nq).alloc (.cells #[] 205)).cell? ⟨C.wk, 5, none⟩ = some (.slice PA st.progs.length pc) := (World.cell?_of_block (a := ⟨C.wk, 5, none⟩) (Below.heap_alloc (w.drewN nq) _ C.wk hwk)).trans c5
          clear hcx hfx
          go_wp2_with (first | (at_lookup; refine wpList_lookup_own_unit _ rfl _ _ 113 rfl 3 205 law3 Try.underlying113 (zero205 _) C.sm _ _ rfl (ownsMap_of_block HSD.out rfl) _ _ rfl (keyOf_int_mk Try.underlying3 (wf_nat (by unfold big at *; omega))) ?_; rw [hset]))
          obtain ⟨hR1, hS1⟩ := ((H.out.drewN nq).alloc (.cells #[] 205)).refset i (dn : Int)
          have HR1 := Lib.hid hR1
          have HS1 := Lib.hid ((((Stp.refl G w).drewN nq).alloc (.cells #[] 205)).trans hS1)
          have hrow1 := ownsRow_of_block (w' := ((w.drewN nq).alloc (.cells #[] 205)).setCell ⟨C.rb, i, none⟩ (.int .i64 (dn : Int))) HPO.out (fun j hj => row_far (H.out) HPB.out hj ((HPO.out.lt j hj).2))
          have HO1 := Lib.hid hrow1
          clear hR1 hS1 hrow1
          go_loopg [108] st.progs.length (fun gk v wr => ∃ (k : Nat) (fr : List (List Int)) (G' : Nat → Nat), v = .int .i64 k ∧ k + gk = st.progs.length ∧ Rep C wr G' { st with ref := st.ref.set i (dn : Int), free := fr } ∧ Stp G w G' wr ∧ bindF C.first st i (dn : Int) = { st with ref := st.ref.set i (dn : Int), free := (st.progs.drop k).foldl (addFree C.first (dn : Int)) fr } ∧ (∀ q, (fr.getD q []).length ≤ 8589934592 + k) ∧ wr.ownsRow 0 3 1 (.slice PA st.progs.length pc) st.progs.length (intL st.progs) ∧ (∀ j, (Value.slice PA st.progs.length pc).ownBlock = some j → G' j = 4))
          case atStart => exact ⟨0, st.free, G, rfl, by omega, HR1.out, HS1.out, by simp [bindF], fun q => HFL.out q, HO1.out, HPB.out⟩
          case round =>
            obtain ⟨k, fr, G1, rfl, hkd, hR, hS, hB, hfr, hpo, hpb⟩ := hrel
            have HRR := Lib.hid hR
            have HSS := Lib.hid hS
            have HBB := Lib.hid hB
            have HFF := Lib.hid hfr
            have HPO2 := Lib.hid hpo
            have HPB2 := Lib.hid hpb
            have HKD := Lib.hid hkd
            obtain ⟨pv2, hc2, _⟩ := hR.cells
            have e8 : wr.cell? ⟨C.wk, 8, none⟩ = some (.slice (some ⟨C.fb, 0, none⟩) C.l.length C.l.length) := hc2 8
            have hwkl := (hR.own C.wk (by rw [hR.gw]; decide)).2
            have hfbl := (hR.own C.fb (by rw [hR.gf]; decide)).2
            have hne : ¬ C.wk = C.fb := fun e => by have h1 := hR.gw; rw [e, hR.gf] at h1; omega
            clear hB hfr hpb hkd hc2 hS
            rcases gk with _ | gk
            · clear hR hpo
              obtain rfl : k = st.progs.length := by have := HKD.out; omega
              go_wp2_with fail
              go_end0
              refine ⟨rfl, G1, ?_⟩
              rw [HE2.out, HBB.out, List.drop_of_length_le (by omega)]
              exact ⟨HRR.out, HSS.out⟩
            · have hk : k < st.progs.length := by have := HKD.out; omega
              have hkp : k < st.progs.length := by omega
              obtain ⟨PA2, pc2, ePA, hPA2⟩ := row_slice (w := wr) (v := .slice PA st.progs.length pc) (xs := st.progs) (by exact hpo)
              obtain ⟨rfl, -, rfl⟩ : PA = PA2 ∧ st.progs.length = st.progs.length ∧ pc = pc2 := by simpa using ePA
              have hPAk := hPA2 k hkp
              obtain ⟨gp, op, rfl, hxk⟩ := hPAk
              obtain ⟨pn, hpn⟩ : ∃ pn : Nat, gi st.progs k = pn := ⟨_, (Int.toNat_of_nonneg (HPR.out k hkp).1).symm⟩
              rw [hpn] at hxk
              have hpN : pn < C.l.length := by have := (HPR.out k hkp).2; omega
              have hfrl := hR.frlen
              have hdrop : st.progs.drop k = (pn : Int) :: st.progs.drop (k + 1) := by
                rw [List.drop_eq_getElem_cons hkp]
                congr 1
                rw [← hpn]; simp [gi, List.getD_eq_getElem?_getD, List.getElem?_eq_getElem hkp]
              have HB2 : Hid (bindF C.first st i (dn : Int) = { st with ref := st.ref.set i (dn : Int), free := (st.progs.drop (k + 1)).foldl (addFree C.first (dn : Int)) (addFree C.first (dn : Int) fr pn) }) := HBB.out.trans (by rw [hdrop]; rfl)
              obtain ⟨vs, hv1, hv2, hv3⟩ := free_row hR
              have hpf : pn < fr.length := by rw [hfrl]; exact hpN
              have hv3p := (hv3 pn hpf).1
              have hvp : vs.getD pn undef = vs[pn]'(by omega) := by simp [List.getD_eq_getElem?_getD, List.getElem?_eq_getElem (show pn < vs.length by omega)]
              obtain ⟨FA, fc, hfv, hFA⟩ := row_slice hv3p
              have efp : wr.cell? ⟨C.fb, pn, none⟩ = some (.slice FA (fr.getD pn []).length fc) := by
                rw [cell_of_row wr C.fb pn _ _ _ hv2, ← hfv, hvp]; simp [show pn < vs.length by omega]
              have yfp := frozen_of_row wr C.fb pn _ _ hv2
              have hflen : (fr.getD pn []).length ≤ 1099511627776 := by have := HFF.out pn; omega
              obtain ⟨fl, hflv⟩ : ∃ fl, fl = fr.getD pn [] := ⟨_, rfl⟩
              rw [← hflv] at efp hflen hFA
              have HFLV := Lib.hid hflv
              have HFA := Lib.hid hFA
              have HV1 := Lib.hid hv1
              have HV2 := Lib.hid hv2
              have HV3 := Lib.hid hv3
              have HFV : Hid (vs.getD pn undef = .slice FA fl.length fc) := by rw [hflv]; exact hfv
              have HVP := Lib.hid hv3p
              have hvq : wr.ownsRow 0 3 1 (.slice FA fl.length fc) fl.length (intL fl) := by rw [hflv, ← hfv]; exact hv3p
              have HVQ := Lib.hid hvq
              obtain ⟨i0, hi0, hz0, hz1, hz2⟩ := info_parts info3
              clear hvq hflv hR hpo hdrop hv1 hv2 hv3 hv3p hvp hfv hFA hpn hPA2 ePA hfrl
              cases e1 : insideB C.first (dn : Int) pn with
              | true =>
                go_wp2_with (go_at_call 192; refine (inside_any HRR.out _ pn hpN).mono ?_; rintro e w1 ⟨rfl, rfl⟩; rw [e1])
                go_roundg gk
                case measure => omega
                case rel => exact ⟨k + 1, fr, G1, by go_num, by have := HKD.out; omega, HRR.out, HSS.out, by rw [HB2.out, show addFree C.first (dn : Int) fr pn = fr from by simp [addFree, e1]], fun q => by have := HFF.out q; omega, HPO2.out, HPB2.out⟩
              | false =>
                cases e2 : hasB fl (dn : Int) with
                | true =>
                  go_wp2_with (first | (go_at_call 192; refine (inside_any HRR.out _ pn hpN).mono ?_; rintro e w1 ⟨rfl, rfl⟩; rw [e1]) | (go_at_call 193; refine (contains_any FA fc fl _ _ hflen HFA.out).mono ?_; rintro e w1 ⟨rfl, rfl⟩; rw [e2]))
                  go_roundg gk
                  case measure => omega
                  case rel => exact ⟨k + 1, fr, G1, by go_num, by have := HKD.out; omega, HRR.out, HSS.out, by rw [HB2.out, show addFree C.first (dn : Int) fr pn = fr from by simp only [addFree, e1, Int.toNat_natCast, ← HFLV.out, e2]; rfl], fun q => by have := HFF.out q; omega, HPO2.out, HPB2.out⟩
                | false =>
                  go_wp2_with (first | (go_at_call 192; refine (inside_any HRR.out _ pn hpN).mono ?_; rintro e w1 ⟨rfl, rfl⟩; rw [e1]) | (go_at_call 193; refine (contains_any FA fc fl _ _ hflen HFA.out).mono ?_; rintro e w1 ⟨rfl, rfl⟩; rw [e2]))
                  refine wp_region_E (fun w' => w'.cell? ⟨C.wk, 8, none⟩ = some (.slice (some ⟨C.fb, 0, none⟩) C.l.length C.l.length) ∧ w'.cell? ⟨C.fb, pn, none⟩ = some (.slice FA fl.length fc)) 18 (by kernel_rfl) ⟨e8, efp⟩ (fun hS0 => ?_)
                  refine wpAnyE_take (i := 0) (oi := { dst := (some 130), op := (Op.move (Operand.tmp 0)), type := 108, pos := "scope.go:185", after := #[], guard := none }) (v := ?_) rfl (by kernel_rfl) (fun _ _ _ h => h) ⟨by rfl, ?_⟩ hS0 ?_
                  rotate_left
                  · (intro w hSw; (try dsimp only at hSw); go_simp; try with_reducible rfl)
                  try simp only [Act.put, List.setIfInBounds_toArray, List.set_cons_zero, List.set_cons_succ]
                  refine wpAnyE_take (i := 1) (oi := { dst := (some 131), op := (Op.nilCheck (Operand.tmp 130)), type := 0, pos := "scope.go:185", after := #[{ on := 0, ground := Ground.data }], guard := none }) (v := ?_) rfl (by kernel_rfl) (fun _ _ _ h => h) ⟨by rfl, ?_⟩ hS0 ?_
                  rotate_left
                  · (intro w hSw; (try dsimp only at hSw); go_simp; try with_reducible rfl)
                  try simp only [Act.put, List.setIfInBounds_toArray, List.set_cons_zero, List.set_cons_succ]
                  refine wpAnyE_take (i := 2) (oi := { dst := (some 132), op := (Op.fieldAddr 115 (Operand.tmp 131) 7), type := 0, pos := "scope.go:185", after := #[{ on := 1, ground := Ground.data }], guard := none }) (v := ?_) rfl (by kernel_rfl) (fun _ _ _ h => h) ⟨by rfl, ?_⟩ hS0 ?_
                  rotate_left
                  · (intro w hSw; (try dsimp only at hSw); go_simp; try with_reducible rfl)
                  try simp only [Act.put, List.setIfInBounds_toArray, List.set_cons_zero, List.set_cons_succ]
                  refine wpAnyE_take (i := 3) (oi := { dst := (some 133), op := (Op.fieldAddr 39 (Operand.tmp 132) 1), type := 0, pos := "scope.go:185", after := #[{ on := 2, ground := Ground.data }], guard := none }) (v := ?_) rfl (by kernel_rfl) (fun _ _ _ h => h) ⟨by rfl, ?_⟩ hS0 ?_
                  rotate_left
                  · (intro w hSw; (try dsimp only at hSw); go_simp; try with_reducible rfl)
                  try simp only [Act.put, List.setIfInBounds_toArray, List.set_cons_zero, List.set_cons_succ]
                  refine wpAnyE_take (i := 4) (oi := { dst := (some 134), op := (Op.load 37 (Operand.tmp 133)), type := 37, pos := "scope.go:185", after := #[{ on := 3, ground := Ground.data }], guard := none }) (v := ?_) rfl (by kernel_rfl) (fun _ _ _ h => h) ⟨by rfl, ?_⟩ hS0 ?_
                  rotate_left
                  · (intro w hSw; (try dsimp only at hSw); go_simp; try with_reducible rfl)
                  try simp only [Act.put, List.setIfInBounds_toArray, List.set_cons_zero, List.set_cons_succ]
                  refine wpAnyE_take (i := 5) (oi := { dst := (some 135), op := (Op.move (Operand.tmp 11)), type := 3, pos := "scope.go:185", after := #[], guard := none }) (v := ?_) rfl (by kernel_rfl) (fun _ _ _ h => h) ⟨by rfl, ?_⟩ hS0 ?_
                  rotate_left
                  · (intro w hSw; (try dsimp only at hSw); go_simp; try with_reducible rfl)
                  try simp only [Act.put, List.setIfInBounds_toArray, List.set_cons_zero, List.set_cons_succ]
                  refine wpAnyE_take (i := 6) (oi := { dst := (some 136), op := (Op.move (Operand.tmp 0)), type := 108, pos := "scope.go:185", after := #[], guard := none }) (v := ?_) rfl (by kernel_rfl) (fun _ _ _ h => h) ⟨by rfl, ?_⟩ hS0 ?_
                  rotate_left
                  · (intro w hSw; (try dsimp only at hSw); go_simp; try with_reducible rfl)
                  try simp only [Act.put, List.setIfInBounds_toArray, List.set_cons_zero, List.set_cons_succ]
                  refine wpAnyE_take (i := 7) (oi := { dst := (some 137), op := (Op.nilCheck (Operand.tmp 136)), type := 0, pos := "scope.go:185", after := #[{ on := 6, ground := Ground.data }], guard := none }) (v := ?_) rfl (by kernel_rfl) (fun _ _ _ h => h) ⟨by rfl, ?_⟩ hS0 ?_
                  rotate_left
                  · (intro w hSw; (try dsimp only at hSw); go_simp; try with_reducible rfl)
                  try simp only [Act.put, List.setIfInBounds_toArray, List.set_cons_zero, List.set_cons_succ]
                  refine wpAnyE_take (i := 8) (oi := { dst := (some 138), op := (Op.fieldAddr 115 (Operand.tmp 137) 7), type := 0, pos := "scope.go:185", after := #[{ on := 7, ground := Ground.data }], guard := none }) (v := ?_) rfl (by kernel_rfl) (fun _ _ _ h => h) ⟨by rfl, ?_⟩ hS0 ?_
                  rotate_left
                  · (intro w hSw; (try dsimp only at hSw); go_simp; try with_reducible rfl)
                  try simp only [Act.put, List.setIfInBounds_toArray, List.set_cons_zero, List.set_cons_succ]
                  refine wpAnyE_take (i := 9) (oi := { dst := (some 139), op := (Op.fieldAddr 39 (Operand.tmp 138) 1), type := 0, pos := "scope.go:185", after := #[{ on := 8, ground := Ground.data }], guard := none }) (v := ?_) rfl (by kernel_rfl) (fun _ _ _ h => h) ⟨by rfl, ?_⟩ hS0 ?_
                  rotate_left
                  · (intro w hSw; (try dsimp only at hSw); go_simp; try with_reducible rfl)
                  try simp only [Act.put, List.setIfInBounds_toArray, List.set_cons_zero, List.set_cons_succ]
                  refine wpAnyE_take (i := 10) (oi := { dst := (some 140), op := (Op.load 37 (Operand.tmp 139)), type := 37, pos := "scope.go:185", after := #[{ on := 9, ground := Ground.data }], guard := none }) (v := ?_) rfl (by kernel_rfl) (fun _ _ _ h => h) ⟨by rfl, ?_⟩ hS0 ?_
                  rotate_left
                  · (intro w hSw; (try dsimp only at hSw); go_simp; try with_reducible rfl)
                  try simp only [Act.put, List.setIfInBounds_toArray, List.set_cons_zero, List.set_cons_succ]
                  refine wpAnyE_take (i := 11) (oi := { dst := (some 141), op := (Op.move (Operand.tmp 11)), type := 3, pos := "scope.go:185", after := #[], guard := none }) (v := ?_) rfl (by kernel_rfl) (fun _ _ _ h => h) ⟨by rfl, ?_⟩ hS0 ?_
                  rotate_left
                  · (intro w hSw; (try dsimp only at hSw); go_simp; try with_reducible rfl)
                  try simp only [Act.put, List.setIfInBounds_toArray, List.set_cons_zero, List.set_cons_succ]
                  refine wpAnyE_take (i := 12) (oi := { dst := (some 142), op := (Op.indexAddr 37 (Operand.tmp 140) (Operand.tmp 141)), type := 0, pos := "scope.go:185", after := #[{ on := 10, ground := Ground.data }, { on := 11, ground := Ground.data }], guard := none }) (v := ?_) rfl (by kernel_rfl) (fun _ _ _ h => h) ⟨by rfl, ?_⟩ hS0 ?_
                  rotate_left
                  · (intro w hSw; (try dsimp only at hSw); go_simp; try with_reducible rfl)
                  try simp only [Act.put, List.setIfInBounds_toArray, List.set_cons_zero, List.set_cons_succ]
                  refine wpAnyE_take (i := 13) (oi := { dst := (some 143), op := (Op.load 24 (Operand.tmp 142)), type := 24, pos := "scope.go:185", after := #[{ on := 12, ground := Ground.data }], guard := none }) (v := ?_) rfl (by kernel_rfl) (fun _ _ _ h => h) ⟨by rfl, ?_⟩ hS0 ?_
                  rotate_left
                  · (intro w hSw; (try dsimp only at hSw); go_simp; try with_reducible rfl)
                  try simp only [Act.put, List.setIfInBounds_toArray, List.set_cons_zero, List.set_cons_succ]
                  refine wpAnyE_take (i := 14) (oi := { dst := (some 144), op := (Op.move (Operand.tmp 5)), type := 3, pos := "scope.go:185", after := #[], guard := none }) (v := ?_) rfl (by kernel_rfl) (fun _ _ _ h => h) ⟨by rfl, ?_⟩ hS0 ?_
                  rotate_left
                  · (intro w hSw; (try dsimp only at hSw); go_simp; try with_reducible rfl)
                  try simp only [Act.put, List.setIfInBounds_toArray, List.set_cons_zero, List.set_cons_succ]
                  refine wpAnyE_one (i := 15) (o := { dst := (some 145), op := (Op.buildSlice 24 1 #[(0, (Operand.tmp 144))]), type := 24, pos := "scope.go:185", after := #[{ on := 14, ground := Ground.data }], guard := none }) (by kernel_rfl) rfl (fun K hK => ?_)
                  go_simp
                  have hS6 : (fun w' => w'.cell? ⟨C.wk, 8, none⟩ = some (.slice (some ⟨C.fb, 0, none⟩) C.l.length C.l.length) ∧ w'.cell? ⟨C.fb, pn, none⟩ = some (.slice FA fl.length fc)) (wr.drew.alloc (.cells #[.int .i64 (dn : Int)] 3)) := ⟨(World.cell?_alloc_lt _ _ _ hwkl).trans e8, (World.cell?_alloc_lt _ _ _ hfbl).trans efp⟩
                  refine hK.out _ _ (Or.inr hS6) ?_
                  clear hK K
                  try simp only [Act.put, List.setIfInBounds_toArray, List.set_cons_zero, List.set_cons_succ]
                  refine wpAnyE_one (i := 16) (o := { dst := (some 146), op := (Op.call { callee := (Callee.builtin Builtin.append), args := #[(Operand.tmp 143), (Operand.tmp 145)], argTypes := #[24, 24] }), type := 24, pos := "scope.go:185", after := #[{ on := 13, ground := Ground.data }, { on := 15, ground := Ground.data }], guard := none }) (by kernel_rfl) rfl (fun K hK => ?_)
                  refine wanted_step rfl ?_
                  refine wp_append_lies _ (.tmp 143) (.tmp 145) 24 rfl 0 3 i0 (.int .i64 0) 1 8 Try.underlying24 hi0 hz0 hz1 hz2 rfl (by decide) _ fl.length (intL fl) rfl (World.ownsRow.alloc (w := wr.drewN 1) HVQ.out _) ⟨wr.heap.size, 0, none⟩ 1 1 [.int .i64 (dn : Int)] rfl rfl (World.news_of_block (cs := #[.int .i64 (dn : Int)]) (t := 3) (fr := (0, 0)) (heap_alloc_new _ _)) (by simp [Value.oneCell']) (by decide) (by unfold maxLen; omega) (by omega) (Nat.zero_le _) _ rfl ?_
                  intro g cap w1 hown hg hat hlt
                  obtain ⟨G2, HF, c8', y8', hz⟩ := free_step HRR.out HV1.out HV2.out HV3.out hpf (p := pn) (by rw [← HFLV.out]; exact hown) (by rw [HFV.out]; exact hg) (by rw [HFV.out]; exact hat)
                  rw [← HFLV.out] at HF
                  rw [HFV.out] at hz
                  have hS7 : (fun w' => w'.cell? ⟨C.wk, 8, none⟩ = some (.slice (some ⟨C.fb, 0, none⟩) C.l.length C.l.length) ∧ w'.cell? ⟨C.fb, pn, none⟩ = some (.slice FA fl.length fc)) w1 := ⟨c8', hz⟩
                  clear hown hg hat hlt
                  refine hK.out _ _ (Or.inr hS7) ?_
                  clear hK K
                  try simp only [Act.put, List.setIfInBounds_toArray, List.set_cons_zero, List.set_cons_succ]
                  refine wpAnyE_one (i := 17) (o := { dst := (some 147), op := (Op.indexAddr 37 (Operand.tmp 134) (Operand.tmp 135)), type := 0, pos := "scope.go:185", after := #[{ on := 4, ground := Ground.data }, { on := 5, ground := Ground.data }, { on := 0, ground := Ground.phase }, { on := 1, ground := Ground.phase }, { on := 2, ground := Ground.phase }, { on := 3, ground := Ground.phase }, { on := 4, ground := Ground.phase }, { on := 5, ground := Ground.phase }, { on := 6, ground := Ground.phase }, { on := 7, ground := Ground.phase }, { on := 8, ground := Ground.phase }, { on := 9, ground := Ground.phase }, { on := 10, ground := Ground.phase }, { on := 11, ground := Ground.phase }, { on := 12, ground := Ground.phase }, { on := 13, ground := Ground.phase }, { on := 14, ground := Ground.phase }, { on := 15, ground := Ground.phase }, { on := 16, ground := Ground.phase }], guard := none }) (by kernel_rfl) rfl (fun K hK => ?_)
                  go_simp
                  refine hK.out _ _ (Or.inr hS7) ?_
                  clear hK K
                  try simp only [Act.put, List.setIfInBounds_toArray, List.set_cons_zero, List.set_cons_succ]
                  refine wpAnyE_one (i := 18) (o := { dst := none, op := (Op.store 24 (Operand.tmp 147) (Operand.tmp 146)), type := 0, pos := "scope.go:185", after := #[{ on := 17, ground := Ground.data }, { on := 16, ground := Ground.data }, { on := 16, ground := Ground.chain }, { on := 0, ground := Ground.phase }, { on := 1, ground := Ground.phase }, { on := 2, ground := Ground.phase }, { on := 3, ground := Ground.phase }, { on := 4, ground := Ground.phase }, { on := 5, ground := Ground.phase }, { on := 6, ground := Ground.phase }, { on := 7, ground := Ground.phase }, { on := 8, ground := Ground.phase }, { on := 9, ground := Ground.phase }, { on := 10, ground := Ground.phase }, { on := 11, ground := Ground.phase }, { on := 12, ground := Ground.phase }, { on := 13, ground := Ground.phase }, { on := 14, ground := Ground.phase }, { on := 15, ground := Ground.phase }, { on := 16, ground := Ground.phase }], guard := none }) (by kernel_rfl) rfl (fun K hK => ?_)
                  go_simp
                  refine hK.out _ _ (Or.inl rfl) ?_
                  clear hK K hS0 hS6 hS7
                  refine wpAnyE_done (by kernel_rfl) ?_
                  all_goals
                    go_wp2_with fail
                    go_roundg gk
                    case measure => omega
                    case rel => exact ⟨k + 1, fr.set pn (fl ++ [(dn : Int)]), G2, by go_num, by have := HKD.out; omega, HF.out.1, HSS.out.trans HF.out.2.1, by rw [HB2.out, show addFree C.first (dn : Int) fr pn = fr.set pn (fl ++ [(dn : Int)]) from by simp only [addFree, e1, Int.toNat_natCast, ← HFLV.out, e2]; rfl], fun q => len_set HFF.out (by rw [HFLV.out]; simp) q, ownsRow_of_block HPO2.out (fun j hj => (HF.out.2.2 j (HPB2.out j hj)).2), fun j hj => (HF.out.2.2 j (HPB2.out j hj)).1⟩

      | true =>
        have hiv : isVarB C.l (dn : Int) = true := by simp [isVarB, ek]
        have hset := hseti
        by_cases h0 : st.progs.length = 0
        · have HE2 : Hid (nameF C.l C.first st i = bindF C.first st i dn) := HE.out.trans (by rw [hiv, h0]; simp)
          rw [h0] at c5 HPO HPB
          have HM := Lib.hid h0
          clear HE h0 hpl
          cases hss : st.set i
          all_goals
            rw [hss] at hset
            go_enter Try.func146, Try.ntmps146
            go_wp2_with fail
            go_quiet (fail)
            obtain ⟨pvx, hcx, hfx, _⟩ := ((H.out.drewN nq).alloc (.cells #[] 205)).cells
            have c7x : ((w.drewN nq).alloc (.cells #[] 205)).cell? ⟨C.wk, 7, none⟩ = some (.slice (some ⟨C.rb, 0, none⟩) C.l.length C.l.length) := hcx 7
            have r0x : ((w.drewN nq).alloc (.cells #[] 205)).cell? ⟨C.rb, i, none⟩ = some (.int .i64 (gi st.ref i)) := ((H.out.drewN nq).alloc (.cells #[] 205)).ref.cell (by omega)
            have f0x := ((H.out.drewN nq).alloc (.cells #[] 205)).ref.frozen i
            have c5x : ((w.drewN nq).alloc (.cells #[] 205)).cell? ⟨C.wk, 5, none⟩ = some (.slice PA 0 pc) := (World.cell?_of_block (a := ⟨C.wk, 5, none⟩) (Below.heap_alloc (w.drewN nq) _ C.wk hwk)).trans c5
            clear hcx hfx
            go_wp2_with (first | (at_lookup; refine wpList_lookup_own_unit _ rfl _ _ 113 rfl 3 205 law3 Try.underlying113 (zero205 _) C.sm _ _ rfl (ownsMap_of_block HSD.out rfl) _ _ rfl (keyOf_int_mk Try.underlying3 (wf_nat (by unfold big at *; omega))) ?_; rw [hset]))
            obtain ⟨hR1, hS1⟩ := ((H.out.drewN nq).alloc (.cells #[] 205)).refset i (dn : Int)
            have HR1 := Lib.hid hR1
            have HS1 := Lib.hid ((((Stp.refl G w).drewN nq).alloc (.cells #[] 205)).trans hS1)
            have hrow1 := ownsRow_of_block (w' := ((w.drewN nq).alloc (.cells #[] 205)).setCell ⟨C.rb, i, none⟩ (.int .i64 (dn : Int))) HPO.out (fun j hj => row_far (H.out) HPB.out hj ((HPO.out.lt j hj).2))
            have HO1 := Lib.hid hrow1
            clear hR1 hS1 hrow1
            go_loopg [108] 0 (fun gk v wr => ∃ (k : Nat) (fr : List (List Int)) (G' : Nat → Nat), v = .int .i64 k ∧ k + gk = 0 ∧ Rep C wr G' { st with ref := st.ref.set i (dn : Int), free := fr } ∧ Stp G w G' wr ∧ bindF C.first st i (dn : Int) = { st with ref := st.ref.set i (dn : Int), free := (st.progs.drop k).foldl (addFree C.first (dn : Int)) fr } ∧ (∀ q, (fr.getD q []).length ≤ 8589934592 + k) ∧ wr.ownsRow 0 3 1 (.slice PA 0 pc) 0 (intL st.progs) ∧ (∀ j, (Value.slice PA 0 pc).ownBlock = some j → G' j = 4))
            case atStart => exact ⟨0, st.free, G, rfl, by omega, HR1.out, HS1.out, by simp [bindF], fun q => HFL.out q, HO1.out, HPB.out⟩
            case round =>
              obtain ⟨k, fr, G1, rfl, hkd, hR, hS, hB, hfr, hpo, hpb⟩ := hrel
              have HRR := Lib.hid hR
              have HSS := Lib.hid hS
              have HBB := Lib.hid hB
              have HFF := Lib.hid hfr
              have HPO2 := Lib.hid hpo
              have HPB2 := Lib.hid hpb
              have HKD := Lib.hid hkd
              obtain ⟨pv2, hc2, _⟩ := hR.cells
              have e8 : wr.cell? ⟨C.wk, 8, none⟩ = some (.slice (some ⟨C.fb, 0, none⟩) C.l.length C.l.length) := hc2 8
              have hwkl := (hR.own C.wk (by rw [hR.gw]; decide)).2
              have hfbl := (hR.own C.fb (by rw [hR.gf]; decide)).2
              have hne : ¬ C.wk = C.fb := fun e => by have h1 := hR.gw; rw [e, hR.gf] at h1; omega
              clear hB hfr hpb hkd hc2 hS
              rcases gk with _ | gk
              · clear hR hpo
                obtain rfl : k = 0 := by have := HKD.out; omega
                go_wp2_with fail
                go_end0
                refine ⟨rfl, G1, ?_⟩
                rw [HE2.out, HBB.out, List.drop_of_length_le (by have := HM.out; omega)]
                exact ⟨HRR.out, HSS.out⟩
              · exact absurd HKD.out (by omega)

        · obtain ⟨m, hm⟩ : ∃ m, st.progs.length = m + 1 := ⟨st.progs.length - 1, by omega⟩
          have hmb : (m : Int) ≤ 8589934592 := by omega
          have hlp0 := HPR.out m (by omega)
          obtain ⟨lp, hlpe⟩ : ∃ lp : Nat, gi st.progs m = lp := ⟨_, (Int.toNat_of_nonneg hlp0.1).symm⟩
          have hlp : lp < C.l.length := by omega
          obtain ⟨gp, op, rfl, hxl⟩ := HPA.out m (by omega)
          rw [hlpe] at hxl
          rw [hm] at c5 HPO HPB
          have hgl := block_lt_of_cell hxl
          cases ein : insideB C.first (dn : Int) lp with
          | false =>
            have HE2 : Hid (nameF C.l C.first st i = wrongF C.l st i 53) := HE.out.trans (by rw [if_pos]; rw [hiv, hm, Nat.add_sub_cancel, hlpe, ein]; simp)
            clear HE hm
            go_enter Try.func146, Try.ntmps146
            go_wp2_with fail
            go_quiet (fail)
            go_wp2_with (go_at_call 192; refine (inside_any (H.out.drewN nq) _ lp hlp).mono ?_; rintro e w1 ⟨rfl, rfl⟩; rw [ein])
            refine (wrong_any (H.out.drewN nq) i hi 53).mono ?_
            rintro e w1 ⟨rfl, hR, hS⟩
            go_wp2_with fail
            exact bodyPost_ret (v := .tuple #[]) (by simp [results, Try.results146, go_sem]) rfl ⟨rfl, G, by rw [HE2.out]; exact hR, ((Stp.refl G w).drewN nq).trans hS⟩
          | true =>
            have HE2 : Hid (nameF C.l C.first st i = bindF C.first st i dn) := HE.out.trans (by rw [if_neg]; rw [hiv]; simp; rw [hiv, hm, Nat.add_sub_cancel, hlpe, ein]; simp)
            have HM := Lib.hid hm
            clear HE hm h0 hlp0 hlpe hpl
            cases hss : st.set i
            all_goals
              rw [hss] at hset
              go_enter Try.func146, Try.ntmps146
              go_wp2_with fail
              go_quiet (fail)
              obtain ⟨pvx, hcx, hfx, _⟩ := ((H.out.drewN nq).alloc (.cells #[] 205)).cells
              have c7x : ((w.drewN nq).alloc (.cells #[] 205)).cell? ⟨C.wk, 7, none⟩ = some (.slice (some ⟨C.rb, 0, none⟩) C.l.length C.l.length) := hcx 7
              have r0x : ((w.drewN nq).alloc (.cells #[] 205)).cell? ⟨C.rb, i, none⟩ = some (.int .i64 (gi st.ref i)) := ((H.out.drewN nq).alloc (.cells #[] 205)).ref.cell (by omega)
              have f0x := ((H.out.drewN nq).alloc (.cells #[] 205)).ref.frozen i
              have c5x : ((w.drewN nq).alloc (.cells #[] 205)).cell? ⟨C.wk, 5, none⟩ = some (.slice (some ⟨gp, op, none⟩) (m + 1) pc) := (World.cell?_of_block (a := ⟨C.wk, 5, none⟩) (Below.heap_alloc (w.drewN nq) _ C.wk hwk)).trans c5
              clear hcx hfx
              go_wp2_with (first | (go_at_call 192; refine (inside_any (H.out.drewN nq) _ lp hlp).mono ?_; rintro e w1 ⟨rfl, rfl⟩; rw [ein]) | (at_lookup; refine wpList_lookup_own_unit _ rfl _ _ 113 rfl 3 205 law3 Try.underlying113 (zero205 _) C.sm _ _ rfl (ownsMap_of_block HSD.out rfl) _ _ rfl (keyOf_int_mk Try.underlying3 (wf_nat (by unfold big at *; omega))) ?_; rw [hset]))
              obtain ⟨hR1, hS1⟩ := ((H.out.drewN nq).alloc (.cells #[] 205)).refset i (dn : Int)
              have HR1 := Lib.hid hR1
              have HS1 := Lib.hid ((((Stp.refl G w).drewN nq).alloc (.cells #[] 205)).trans hS1)
              have hrow1 := ownsRow_of_block (w' := ((w.drewN nq).alloc (.cells #[] 205)).setCell ⟨C.rb, i, none⟩ (.int .i64 (dn : Int))) HPO.out (fun j hj => row_far (H.out) HPB.out hj ((HPO.out.lt j hj).2))
              have HO1 := Lib.hid hrow1
              clear hR1 hS1 hrow1
              go_loopg [108] (m + 1) (fun gk v wr => ∃ (k : Nat) (fr : List (List Int)) (G' : Nat → Nat), v = .int .i64 k ∧ k + gk = (m + 1) ∧ Rep C wr G' { st with ref := st.ref.set i (dn : Int), free := fr } ∧ Stp G w G' wr ∧ bindF C.first st i (dn : Int) = { st with ref := st.ref.set i (dn : Int), free := (st.progs.drop k).foldl (addFree C.first (dn : Int)) fr } ∧ (∀ q, (fr.getD q []).length ≤ 8589934592 + k) ∧ wr.ownsRow 0 3 1 (.slice (some ⟨gp, op, none⟩) (m + 1) pc) (m + 1) (intL st.progs) ∧ (∀ j, (Value.slice (some ⟨gp, op, none⟩) (m + 1) pc).ownBlock = some j → G' j = 4))
              case atStart => exact ⟨0, st.free, G, rfl, by omega, HR1.out, HS1.out, by simp [bindF], fun q => HFL.out q, HO1.out, HPB.out⟩
              case round =>
                obtain ⟨k, fr, G1, rfl, hkd, hR, hS, hB, hfr, hpo, hpb⟩ := hrel
                have HRR := Lib.hid hR
                have HSS := Lib.hid hS
                have HBB := Lib.hid hB
                have HFF := Lib.hid hfr
                have HPO2 := Lib.hid hpo
                have HPB2 := Lib.hid hpb
                have HKD := Lib.hid hkd
                obtain ⟨pv2, hc2, _⟩ := hR.cells
                have e8 : wr.cell? ⟨C.wk, 8, none⟩ = some (.slice (some ⟨C.fb, 0, none⟩) C.l.length C.l.length) := hc2 8
                have hwkl := (hR.own C.wk (by rw [hR.gw]; decide)).2
                have hfbl := (hR.own C.fb (by rw [hR.gf]; decide)).2
                have hne : ¬ C.wk = C.fb := fun e => by have h1 := hR.gw; rw [e, hR.gf] at h1; omega
                clear hB hfr hpb hkd hc2 hS
                rcases gk with _ | gk
                · clear hR hpo
                  obtain rfl : k = (m + 1) := by have := HKD.out; omega
                  go_wp2_with fail
                  go_end0
                  refine ⟨rfl, G1, ?_⟩
                  rw [HE2.out, HBB.out, List.drop_of_length_le (by have := HM.out; omega)]
                  exact ⟨HRR.out, HSS.out⟩
                · have hk : k < (m + 1) := by have := HKD.out; omega
                  have hkp : k < st.progs.length := by have := HM.out; omega
                  obtain ⟨PA2, pc2, ePA, hPA2⟩ := row_slice (w := wr) (v := .slice (some ⟨gp, op, none⟩) (m + 1) pc) (xs := st.progs) (by rw [HM.out]; exact hpo)
                  obtain ⟨rfl, -, rfl⟩ : (some ⟨gp, op, none⟩) = PA2 ∧ (m + 1) = st.progs.length ∧ pc = pc2 := by simpa using ePA
                  have hPAk := hPA2 k hkp
                  obtain ⟨gp', op', e', hxk⟩ := hPAk
                  obtain ⟨rfl, rfl⟩ : gp = gp' ∧ op = op' := by simpa using e'
                  obtain ⟨pn, hpn⟩ : ∃ pn : Nat, gi st.progs k = pn := ⟨_, (Int.toNat_of_nonneg (HPR.out k hkp).1).symm⟩
                  rw [hpn] at hxk
                  have hpN : pn < C.l.length := by have := (HPR.out k hkp).2; omega
                  have hfrl := hR.frlen
                  have hdrop : st.progs.drop k = (pn : Int) :: st.progs.drop (k + 1) := by
                    rw [List.drop_eq_getElem_cons hkp]
                    congr 1
                    rw [← hpn]; simp [gi, List.getD_eq_getElem?_getD, List.getElem?_eq_getElem hkp]
                  have HB2 : Hid (bindF C.first st i (dn : Int) = { st with ref := st.ref.set i (dn : Int), free := (st.progs.drop (k + 1)).foldl (addFree C.first (dn : Int)) (addFree C.first (dn : Int) fr pn) }) := HBB.out.trans (by rw [hdrop]; rfl)
                  obtain ⟨vs, hv1, hv2, hv3⟩ := free_row hR
                  have hpf : pn < fr.length := by rw [hfrl]; exact hpN
                  have hv3p := (hv3 pn hpf).1
                  have hvp : vs.getD pn undef = vs[pn]'(by omega) := by simp [List.getD_eq_getElem?_getD, List.getElem?_eq_getElem (show pn < vs.length by omega)]
                  obtain ⟨FA, fc, hfv, hFA⟩ := row_slice hv3p
                  have efp : wr.cell? ⟨C.fb, pn, none⟩ = some (.slice FA (fr.getD pn []).length fc) := by
                    rw [cell_of_row wr C.fb pn _ _ _ hv2, ← hfv, hvp]; simp [show pn < vs.length by omega]
                  have yfp := frozen_of_row wr C.fb pn _ _ hv2
                  have hflen : (fr.getD pn []).length ≤ 1099511627776 := by have := HFF.out pn; omega
                  obtain ⟨fl, hflv⟩ : ∃ fl, fl = fr.getD pn [] := ⟨_, rfl⟩
                  rw [← hflv] at efp hflen hFA
                  have HFLV := Lib.hid hflv
                  have HFA := Lib.hid hFA
                  have HV1 := Lib.hid hv1
                  have HV2 := Lib.hid hv2
                  have HV3 := Lib.hid hv3
                  have HFV : Hid (vs.getD pn undef = .slice FA fl.length fc) := by rw [hflv]; exact hfv
                  have HVP := Lib.hid hv3p
                  have hvq : wr.ownsRow 0 3 1 (.slice FA fl.length fc) fl.length (intL fl) := by rw [hflv, ← hfv]; exact hv3p
                  have HVQ := Lib.hid hvq
                  obtain ⟨i0, hi0, hz0, hz1, hz2⟩ := info_parts info3
                  clear hvq hflv hR hpo hdrop hv1 hv2 hv3 hv3p hvp hfv hFA hpn hPA2 ePA hfrl
                  cases e1 : insideB C.first (dn : Int) pn with
                  | true =>
                    go_wp2_with (go_at_call 192; refine (inside_any HRR.out _ pn hpN).mono ?_; rintro e w1 ⟨rfl, rfl⟩; rw [e1])
                    go_roundg gk
                    case measure => omega
                    case rel => exact ⟨k + 1, fr, G1, by go_num, by have := HKD.out; omega, HRR.out, HSS.out, by rw [HB2.out, show addFree C.first (dn : Int) fr pn = fr from by simp [addFree, e1]], fun q => by have := HFF.out q; omega, HPO2.out, HPB2.out⟩
                  | false =>
                    cases e2 : hasB fl (dn : Int) with
                    | true =>
                      go_wp2_with (first | (go_at_call 192; refine (inside_any HRR.out _ pn hpN).mono ?_; rintro e w1 ⟨rfl, rfl⟩; rw [e1]) | (go_at_call 193; refine (contains_any FA fc fl _ _ hflen HFA.out).mono ?_; rintro e w1 ⟨rfl, rfl⟩; rw [e2]))
                      go_roundg gk
                      case measure => omega
                      case rel => exact ⟨k + 1, fr, G1, by go_num, by have := HKD.out; omega, HRR.out, HSS.out, by rw [HB2.out, show addFree C.first (dn : Int) fr pn = fr from by simp only [addFree, e1, Int.toNat_natCast, ← HFLV.out, e2]; rfl], fun q => by have := HFF.out q; omega, HPO2.out, HPB2.out⟩
                    | false =>
                      go_wp2_with (first | (go_at_call 192; refine (inside_any HRR.out _ pn hpN).mono ?_; rintro e w1 ⟨rfl, rfl⟩; rw [e1]) | (go_at_call 193; refine (contains_any FA fc fl _ _ hflen HFA.out).mono ?_; rintro e w1 ⟨rfl, rfl⟩; rw [e2]))
                      refine wp_region_E (fun w' => w'.cell? ⟨C.wk, 8, none⟩ = some (.slice (some ⟨C.fb, 0, none⟩) C.l.length C.l.length) ∧ w'.cell? ⟨C.fb, pn, none⟩ = some (.slice FA fl.length fc)) 18 (by kernel_rfl) ⟨e8, efp⟩ (fun hS0 => ?_)
                      refine wpAnyE_take (i := 0) (oi := { dst := (some 130), op := (Op.move (Operand.tmp 0)), type := 108, pos := "scope.go:185", after := #[], guard := none }) (v := ?_) rfl (by kernel_rfl) (fun _ _ _ h => h) ⟨by rfl, ?_⟩ hS0 ?_
                      rotate_left
                      · (intro w hSw; (try dsimp only at hSw); go_simp; try with_reducible rfl)
                      try simp only [Act.put, List.setIfInBounds_toArray, List.set_cons_zero, List.set_cons_succ]
                      refine wpAnyE_take (i := 1) (oi := { dst := (some 131), op := (Op.nilCheck (Operand.tmp 130)), type := 0, pos := "scope.go:185", after := #[{ on := 0, ground := Ground.data }], guard := none }) (v := ?_) rfl (by kernel_rfl) (fun _ _ _ h => h) ⟨by rfl, ?_⟩ hS0 ?_
                      rotate_left
                      · (intro w hSw; (try dsimp only at hSw); go_simp; try with_reducible rfl)
                      try simp only [Act.put, List.setIfInBounds_toArray, List.set_cons_zero, List.set_cons_succ]
                      refine wpAnyE_take (i := 2) (oi := { dst := (some 132), op := (Op.fieldAddr 115 (Operand.tmp 131) 7), type := 0, pos := "scope.go:185", after := #[{ on := 1, ground := Ground.data }], guard := none }) (v := ?_) rfl (by kernel_rfl) (fun _ _ _ h => h) ⟨by rfl, ?_⟩ hS0 ?_
                      rotate_left
                      · (intro w hSw; (try dsimp only at hSw); go_simp; try with_reducible rfl)
                      try simp only [Act.put, List.setIfInBounds_toArray, List.set_cons_zero, List.set_cons_succ]
                      refine wpAnyE_take (i := 3) (oi := { dst := (some 133), op := (Op.fieldAddr 39 (Operand.tmp 132) 1), type := 0, pos := "scope.go:185", after := #[{ on := 2, ground := Ground.data }], guard := none }) (v := ?_) rfl (by kernel_rfl) (fun _ _ _ h => h) ⟨by rfl, ?_⟩ hS0 ?_
                      rotate_left
                      · (intro w hSw; (try dsimp only at hSw); go_simp; try with_reducible rfl)
                      try simp only [Act.put, List.setIfInBounds_toArray, List.set_cons_zero, List.set_cons_succ]
                      refine wpAnyE_take (i := 4) (oi := { dst := (some 134), op := (Op.load 37 (Operand.tmp 133)), type := 37, pos := "scope.go:185", after := #[{ on := 3, ground := Ground.data }], guard := none }) (v := ?_) rfl (by kernel_rfl) (fun _ _ _ h => h) ⟨by rfl, ?_⟩ hS0 ?_
                      rotate_left
                      · (intro w hSw; (try dsimp only at hSw); go_simp; try with_reducible rfl)
                      try simp only [Act.put, List.setIfInBounds_toArray, List.set_cons_zero, List.set_cons_succ]
                      refine wpAnyE_take (i := 5) (oi := { dst := (some 135), op := (Op.move (Operand.tmp 11)), type := 3, pos := "scope.go:185", after := #[], guard := none }) (v := ?_) rfl (by kernel_rfl) (fun _ _ _ h => h) ⟨by rfl, ?_⟩ hS0 ?_
                      rotate_left
                      · (intro w hSw; (try dsimp only at hSw); go_simp; try with_reducible rfl)
                      try simp only [Act.put, List.setIfInBounds_toArray, List.set_cons_zero, List.set_cons_succ]
                      refine wpAnyE_take (i := 6) (oi := { dst := (some 136), op := (Op.move (Operand.tmp 0)), type := 108, pos := "scope.go:185", after := #[], guard := none }) (v := ?_) rfl (by kernel_rfl) (fun _ _ _ h => h) ⟨by rfl, ?_⟩ hS0 ?_
                      rotate_left
                      · (intro w hSw; (try dsimp only at hSw); go_simp; try with_reducible rfl)
                      try simp only [Act.put, List.setIfInBounds_toArray, List.set_cons_zero, List.set_cons_succ]
                      refine wpAnyE_take (i := 7) (oi := { dst := (some 137), op := (Op.nilCheck (Operand.tmp 136)), type := 0, pos := "scope.go:185", after := #[{ on := 6, ground := Ground.data }], guard := none }) (v := ?_) rfl (by kernel_rfl) (fun _ _ _ h => h) ⟨by rfl, ?_⟩ hS0 ?_
                      rotate_left
                      · (intro w hSw; (try dsimp only at hSw); go_simp; try with_reducible rfl)
                      try simp only [Act.put, List.setIfInBounds_toArray, List.set_cons_zero, List.set_cons_succ]
                      refine wpAnyE_take (i := 8) (oi := { dst := (some 138), op := (Op.fieldAddr 115 (Operand.tmp 137) 7), type := 0, pos := "scope.go:185", after := #[{ on := 7, ground := Ground.data }], guard := none }) (v := ?_) rfl (by kernel_rfl) (fun _ _ _ h => h) ⟨by rfl, ?_⟩ hS0 ?_
                      rotate_left
                      · (intro w hSw; (try dsimp only at hSw); go_simp; try with_reducible rfl)
                      try simp only [Act.put, List.setIfInBounds_toArray, List.set_cons_zero, List.set_cons_succ]
                      refine wpAnyE_take (i := 9) (oi := { dst := (some 139), op := (Op.fieldAddr 39 (Operand.tmp 138) 1), type := 0, pos := "scope.go:185", after := #[{ on := 8, ground := Ground.data }], guard := none }) (v := ?_) rfl (by kernel_rfl) (fun _ _ _ h => h) ⟨by rfl, ?_⟩ hS0 ?_
                      rotate_left
                      · (intro w hSw; (try dsimp only at hSw); go_simp; try with_reducible rfl)
                      try simp only [Act.put, List.setIfInBounds_toArray, List.set_cons_zero, List.set_cons_succ]
                      refine wpAnyE_take (i := 10) (oi := { dst := (some 140), op := (Op.load 37 (Operand.tmp 139)), type := 37, pos := "scope.go:185", after := #[{ on := 9, ground := Ground.data }], guard := none }) (v := ?_) rfl (by kernel_rfl) (fun _ _ _ h => h) ⟨by rfl, ?_⟩ hS0 ?_
                      rotate_left
                      · (intro w hSw; (try dsimp only at hSw); go_simp; try with_reducible rfl)
                      try simp only [Act.put, List.setIfInBounds_toArray, List.set_cons_zero, List.set_cons_succ]
                      refine wpAnyE_take (i := 11) (oi := { dst := (some 141), op := (Op.move (Operand.tmp 11)), type := 3, pos := "scope.go:185", after := #[], guard := none }) (v := ?_) rfl (by kernel_rfl) (fun _ _ _ h => h) ⟨by rfl, ?_⟩ hS0 ?_
                      rotate_left
                      · (intro w hSw; (try dsimp only at hSw); go_simp; try with_reducible rfl)
                      try simp only [Act.put, List.setIfInBounds_toArray, List.set_cons_zero, List.set_cons_succ]
                      refine wpAnyE_take (i := 12) (oi := { dst := (some 142), op := (Op.indexAddr 37 (Operand.tmp 140) (Operand.tmp 141)), type := 0, pos := "scope.go:185", after := #[{ on := 10, ground := Ground.data }, { on := 11, ground := Ground.data }], guard := none }) (v := ?_) rfl (by kernel_rfl) (fun _ _ _ h => h) ⟨by rfl, ?_⟩ hS0 ?_
                      rotate_left
                      · (intro w hSw; (try dsimp only at hSw); go_simp; try with_reducible rfl)
                      try simp only [Act.put, List.setIfInBounds_toArray, List.set_cons_zero, List.set_cons_succ]
                      refine wpAnyE_take (i := 13) (oi := { dst := (some 143), op := (Op.load 24 (Operand.tmp 142)), type := 24, pos := "scope.go:185", after := #[{ on := 12, ground := Ground.data }], guard := none }) (v := ?_) rfl (by kernel_rfl) (fun _ _ _ h => h) ⟨by rfl, ?_⟩ hS0 ?_
                      rotate_left
                      · (intro w hSw; (try dsimp only at hSw); go_simp; try with_reducible rfl)
                      try simp only [Act.put, List.setIfInBounds_toArray, List.set_cons_zero, List.set_cons_succ]
                      refine wpAnyE_take (i := 14) (oi := { dst := (some 144), op := (Op.move (Operand.tmp 5)), type := 3, pos := "scope.go:185", after := #[], guard := none }) (v := ?_) rfl (by kernel_rfl) (fun _ _ _ h => h) ⟨by rfl, ?_⟩ hS0 ?_
                      rotate_left
                      · (intro w hSw; (try dsimp only at hSw); go_simp; try with_reducible rfl)
                      try simp only [Act.put, List.setIfInBounds_toArray, List.set_cons_zero, List.set_cons_succ]
                      refine wpAnyE_one (i := 15) (o := { dst := (some 145), op := (Op.buildSlice 24 1 #[(0, (Operand.tmp 144))]), type := 24, pos := "scope.go:185", after := #[{ on := 14, ground := Ground.data }], guard := none }) (by kernel_rfl) rfl (fun K hK => ?_)
                      go_simp
                      have hS6 : (fun w' => w'.cell? ⟨C.wk, 8, none⟩ = some (.slice (some ⟨C.fb, 0, none⟩) C.l.length C.l.length) ∧ w'.cell? ⟨C.fb, pn, none⟩ = some (.slice FA fl.length fc)) (wr.drew.alloc (.cells #[.int .i64 (dn : Int)] 3)) := ⟨(World.cell?_alloc_lt _ _ _ hwkl).trans e8, (World.cell?_alloc_lt _ _ _ hfbl).trans efp⟩
                      refine hK.out _ _ (Or.inr hS6) ?_
                      clear hK K
                      try simp only [Act.put, List.setIfInBounds_toArray, List.set_cons_zero, List.set_cons_succ]
                      refine wpAnyE_one (i := 16) (o := { dst := (some 146), op := (Op.call { callee := (Callee.builtin Builtin.append), args := #[(Operand.tmp 143), (Operand.tmp 145)], argTypes := #[24, 24] }), type := 24, pos := "scope.go:185", after := #[{ on := 13, ground := Ground.data }, { on := 15, ground := Ground.data }], guard := none }) (by kernel_rfl) rfl (fun K hK => ?_)
                      refine wanted_step rfl ?_
                      refine wp_append_lies _ (.tmp 143) (.tmp 145) 24 rfl 0 3 i0 (.int .i64 0) 1 8 Try.underlying24 hi0 hz0 hz1 hz2 rfl (by decide) _ fl.length (intL fl) rfl (World.ownsRow.alloc (w := wr.drewN 1) HVQ.out _) ⟨wr.heap.size, 0, none⟩ 1 1 [.int .i64 (dn : Int)] rfl rfl (World.news_of_block (cs := #[.int .i64 (dn : Int)]) (t := 3) (fr := (0, 0)) (heap_alloc_new _ _)) (by simp [Value.oneCell']) (by decide) (by unfold maxLen; omega) (by omega) (Nat.zero_le _) _ rfl ?_
                      intro g cap w1 hown hg hat hlt
                      obtain ⟨G2, HF, c8', y8', hz⟩ := free_step HRR.out HV1.out HV2.out HV3.out hpf (p := pn) (by rw [← HFLV.out]; exact hown) (by rw [HFV.out]; exact hg) (by rw [HFV.out]; exact hat)
                      rw [← HFLV.out] at HF
                      rw [HFV.out] at hz
                      have hS7 : (fun w' => w'.cell? ⟨C.wk, 8, none⟩ = some (.slice (some ⟨C.fb, 0, none⟩) C.l.length C.l.length) ∧ w'.cell? ⟨C.fb, pn, none⟩ = some (.slice FA fl.length fc)) w1 := ⟨c8', hz⟩
                      clear hown hg hat hlt
                      refine hK.out _ _ (Or.inr hS7) ?_
                      clear hK K
                      try simp only [Act.put, List.setIfInBounds_toArray, List.set_cons_zero, List.set_cons_succ]
                      refine wpAnyE_one (i := 17) (o := { dst := (some 147), op := (Op.indexAddr 37 (Operand.tmp 134) (Operand.tmp 135)), type := 0, pos := "scope.go:185", after := #[{ on := 4, ground := Ground.data }, { on := 5, ground := Ground.data }, { on := 0, ground := Ground.phase }, { on := 1, ground := Ground.phase }, { on := 2, ground := Ground.phase }, { on := 3, ground := Ground.phase }, { on := 4, ground := Ground.phase }, { on := 5, ground := Ground.phase }, { on := 6, ground := Ground.phase }, { on := 7, ground := Ground.phase }, { on := 8, ground := Ground.phase }, { on := 9, ground := Ground.phase }, { on := 10, ground := Ground.phase }, { on := 11, ground := Ground.phase }, { on := 12, ground := Ground.phase }, { on := 13, ground := Ground.phase }, { on := 14, ground := Ground.phase }, { on := 15, ground := Ground.phase }, { on := 16, ground := Ground.phase }], guard := none }) (by kernel_rfl) rfl (fun K hK => ?_)
                      go_simp
                      refine hK.out _ _ (Or.inr hS7) ?_
                      clear hK K
                      try simp only [Act.put, List.setIfInBounds_toArray, List.set_cons_zero, List.set_cons_succ]
                      refine wpAnyE_one (i := 18) (o := { dst := none, op := (Op.store 24 (Operand.tmp 147) (Operand.tmp 146)), type := 0, pos := "scope.go:185", after := #[{ on := 17, ground := Ground.data }, { on := 16, ground := Ground.data }, { on := 16, ground := Ground.chain }, { on := 0, ground := Ground.phase }, { on := 1, ground := Ground.phase }, { on := 2, ground := Ground.phase }, { on := 3, ground := Ground.phase }, { on := 4, ground := Ground.phase }, { on := 5, ground := Ground.phase }, { on := 6, ground := Ground.phase }, { on := 7, ground := Ground.phase }, { on := 8, ground := Ground.phase }, { on := 9, ground := Ground.phase }, { on := 10, ground := Ground.phase }, { on := 11, ground := Ground.phase }, { on := 12, ground := Ground.phase }, { on := 13, ground := Ground.phase }, { on := 14, ground := Ground.phase }, { on := 15, ground := Ground.phase }, { on := 16, ground := Ground.phase }], guard := none }) (by kernel_rfl) rfl (fun K hK => ?_)
                      go_simp
                      refine hK.out _ _ (Or.inl rfl) ?_
                      clear hK K hS0 hS6 hS7
                      refine wpAnyE_done (by kernel_rfl) ?_
                      all_goals
                        go_wp2_with fail
                        go_roundg gk
                        case measure => omega
                        case rel => exact ⟨k + 1, fr.set pn (fl ++ [(dn : Int)]), G2, by go_num, by have := HKD.out; omega, HF.out.1, HSS.out.trans HF.out.2.1, by rw [HB2.out, show addFree C.first (dn : Int) fr pn = fr.set pn (fl ++ [(dn : Int)]) from by simp only [addFree, e1, Int.toNat_natCast, ← HFLV.out, e2]; rfl], fun q => len_set HFF.out (by rw [HFLV.out]; simp) q, ownsRow_of_block HPO2.out (fun j hj => (HF.out.2.2 j (HPB2.out j hj)).2), fun j hj => (HF.out.2.2 j (HPB2.out j hj)).1⟩

end Go.Proofs.Ytmaepljmefdhkaa
