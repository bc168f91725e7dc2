import Derived.Test.YtmaepljmefdhkaaScopeAC
import Derived.Test.YtmaepljmefdhkaaReg1
namespace Go.Proofs.Ytmaepljmefdhkaa
open Go.RowKit Go.Maps
set_option maxHeartbeats 16000000
set_option maxRecDepth 100000
def nextFirst (l : List Nd) (fs : List Int) : List Int := fs ++ [if 0 < (nd l fs.length).kids.length then gi fs (kid l fs.length 0) else (fs.length : Int)]
theorem first_none {l : List Nd} {fs : List Int} {k : Nat} (hk : fs.length = k) (h : ¬ 0 < (nd l k).kids.length) : nextFirst l fs = fs ++ [(k : Int)] := by
  subst hk; unfold nextFirst; rw [if_neg h]
theorem first_some {l : List Nd} {fs : List Int} {k p : Nat} (hk : fs.length = k) (h : 0 < (nd l k).kids.length) (hp : gi (nd l k).kids 0 = (p : Int)) (hpk : p < k) : nextFirst l fs = (fs ++ [(k : Int)]).set k (gi (fs ++ [(k : Int)]) p) := by
  subst hk
  unfold nextFirst
  rw [if_pos h]
  have e1 : kid l fs.length 0 = p := by unfold kid; rw [hp]; simp
  have e2 : gi (fs ++ [(fs.length : Int)]) p = gi fs p := by unfold gi; rw [List.getD_eq_getElem?_getD, List.getD_eq_getElem?_getD, List.getElem?_append_left hpk]
  rw [e1, e2]
  simp [List.set_append]
theorem names_x (LA : Option Addr) (lc : Nat) (l : List Nd) (w : World) (hl : NodesAt w LA l) (hc : (checkF l).2 = 0) :
    Calls Try.prog 24 #[.slice LA l.length lc] w (NamesPost l w) := by
  have hbig := big_le hl.size
  have HX := Lib.hid (fun w' (hb : Below w.heap.size w w') => check_any LA lc l w' (hl.below hb))
  have ec : ((checkF l).2 != 0) = false := by simpa using hc
  have HC := Lib.hid hc
  have HL := Lib.hid hl
  have hmm := @run_makeMap Try.prog
  clear hc hl
  go_enter Try.func24, Try.ntmps24
  go_wp2_with (go_at_call 70; refine (HX.out _ (((Below.refl _ _).alloc (Nat.le_refl _) _ |>.alloc (by simp) _).alloc (by simp; omega) _)).mono ?_; rintro e w1 ⟨rfl, hb1⟩; obtain ⟨⟨p1, p2, p3⟩, hz1, hb⟩ := head_cells hb1; obtain ⟨q1, q2⟩ := cells1 p1; obtain ⟨w2, w3, r1, r2, HO, hs2, hs3, hb3, HM1, HM2⟩ := start_maps w1; have t1 := cell_below q1 hb3; have t1a : ∀ o1 o2 o3, (((w3.alloc o1).alloc o2).alloc o3).cell? ⟨w.heap.size, 0, none⟩ = some (.slice LA l.length lc) := (fun o1 o2 o3 => cell3 (w := w3) (o1 := o1) (o2 := o2) (o3 := o3) t1); clear t1; have HST0 := Lib.hid (fun (o : Obj) => start_facts (o := o) hb hz1 p1 p2 p3 hb3 HO.out hs2 hs3 HM1.out HM2.out); have P1 := Lib.hid p1; have P2 := Lib.hid p2; have P3 := Lib.hid p3; have HB1 := Lib.hid hb; have HB3 := Lib.hid hb3; have HZ2 := Lib.hid hs2; have HZ3 := Lib.hid hs3; clear hb3 hs2 hs3 hb p1 p2 p3 hb1)
  obtain ⟨h0st, h0row⟩ := HST0.out (.cells #[.slice LA l.length lc, .slice none 0 0, .map (some w1.heap.size), .int .i64 0, .int .i64 0, .slice none 0 0, .map (some w3.heap.size), .slice none 0 0, .slice none 0 0, .int .i64 0, .int .i64 0] 115)
  generalize hW0 : (((w3.alloc (.map #[] 0)).alloc (.cells #[.slice LA l.length lc, .slice none 0 0, .map (some w1.heap.size), .int .i64 0, .int .i64 0, .slice none 0 0, .map (some w3.heap.size), .slice none 0 0, .slice none 0 0, .int .i64 0, .int .i64 0] 115)).alloc (.cells #[.pointer (some ⟨w3.heap.size + 1, 0, none⟩)] 108)) = W0 at *
  clear HST0 hW0 r1 r2 t1a q1 q2 hz1 HO HZ2 HZ3 P1 P2 P3 HB1 HB3 HM1 HM2 hmm
  generalize w3.heap.size = sm at h0st h0row ⊢
  generalize w2.heap.size = b2 at h0st h0row ⊢
  generalize w1.heap.size = nm at h0st h0row ⊢
  clear w1 w2 w3
  have HS0 := Lib.hid h0st
  have hrow0 : Hid (W0.heap[sm + 1]? = some (.cells (row1 LA l.length lc nm sm (.slice none 0 0)) 115 (0, 0))) := Lib.hid h0row
  clear h0st h0row
  go_loopg [33] l.length (fun gk v wr => ∃ (k : Nat) (fs : List Int) (FV : Value), v = .int .i64 k ∧ k + gk = l.length ∧ fs.length = k ∧ firstGo l l.length [] = firstGo l gk fs ∧ Start w LA l.length lc wr nm b2 sm ∧ wr.heap[sm + 1]? = some (.cells (row1 LA l.length lc nm sm FV) 115 (0, 0)) ∧ wr.ownsRow (sm + 3) 3 1 FV k (intL fs))
  case atStart => exact ⟨0, [], .slice none 0 0, rfl, by omega, rfl, rfl, HS0.out, hrow0.out, ⟨by simp [intL], Or.inl ⟨rfl, rfl⟩⟩⟩
  case round =>
    obtain ⟨k, fs, FV, rfl, hkd, hfl, hgo, hst, hrw, hown⟩ := hrel
    have HKD := Lib.hid hkd
    have HFL := Lib.hid hfl
    have HGO := Lib.hid hgo
    have HST := Lib.hid hst
    have HRW := Lib.hid hrw
    have HOWN := Lib.hid hown
    obtain ⟨o1, o2, o3, o4⟩ := hst.ord
    have a1 := (cells1 hst.b1).1
    have a6 := (cells1 hst.ptr).1
    have hbw := hst.below
    clear hkd hfl hgo hst hrw hown
    rcases gk with _ | gk
    · obtain rfl : k = l.length := by have := HKD.out; omega
      have hfs : firstGo l l.length [] = fs := HGO.out
      have HFS := Lib.hid hfs
      have hgF : ∃ g cap, FV = .slice (some ⟨g, 0, none⟩) l.length cap := by
        rcases HOWN.out.2 with ⟨_, h0⟩ | ⟨g, cap, cur, e, _⟩
        · exfalso
          have hne : l.length ≠ 0 := fun e => by have := HC.out; rw [checkF, e] at this; simp [checkFrom, checkEnd, e] at this
          exact hne h0
        · exact ⟨g, cap, e⟩
      obtain ⟨g, cap, rfl⟩ := hgF
      have hmk1 := make_ints l.length HL.out.size
      have hmk2 := make_rows l.length HL.out.size
      have hw1 : sm + 1 < wr.heap.size := by omega
      have hz7 : wr.frozen? ⟨sm + 1, 7, none⟩ = false := frozen_of_row wr _ 7 _ _ HRW.out
      have hz8 : wr.frozen? ⟨sm + 1, 8, none⟩ = false := frozen_of_row wr _ 8 _ _ HRW.out
      have hy7 : wr.cell? ⟨sm + 1, 7, none⟩ = some (.slice none 0 0) := by rw [cell_of_row wr _ 7 _ _ _ HRW.out]; rfl
      have hy8 : wr.cell? ⟨sm + 1, 8, none⟩ = some (.slice none 0 0) := by rw [cell_of_row wr _ 8 _ _ _ HRW.out]; rfl
      have hc7 : ∀ o1 o2, ((wr.alloc o1).alloc o2).cell? ⟨sm + 1, 7, none⟩ = some (.slice none 0 0) := fun o1 o2 => (World.cell?_alloc_lt _ _ _ (by simp; omega)).trans ((World.cell?_alloc_lt _ _ _ hw1).trans hy7)
      have hc8 : ∀ o1 o2, ((wr.alloc o1).alloc o2).cell? ⟨sm + 1, 8, none⟩ = some (.slice none 0 0) := fun o1 o2 => (World.cell?_alloc_lt _ _ _ (by simp; omega)).trans ((World.cell?_alloc_lt _ _ _ hw1).trans hy8)
      have hb9 : ∀ o1 o2, ((wr.alloc o1).alloc o2).heap[sm + 1]? = some (.cells (row1 LA l.length lc nm sm (.slice (some ⟨g, 0, none⟩) l.length cap)) 115 (0, 0)) := fun o1 o2 => (Below.heap_alloc _ _ _ (by simp; omega)).trans ((Below.heap_alloc _ _ _ hw1).trans HRW.out)
      have hf7 : ∀ o1 o2, ((wr.alloc o1).alloc o2).frozen? ⟨sm + 1, 7, none⟩ = false := fun o1 o2 => frozen_of_row _ _ 7 _ _ (hb9 o1 o2)
      have hf8 : ∀ o1 o2, ((wr.alloc o1).alloc o2).frozen? ⟨sm + 1, 8, none⟩ = false := fun o1 o2 => frozen_of_row _ _ 8 _ _ (hb9 o1 o2)
      have HB9 := Lib.hid hb9
      clear hb9 hz7 hz8 hy7 hy8
      have hd1 : ¬ sm + 1 = w.heap.size := by omega
      have hd2 : ¬ w.heap.size = sm + 1 := by omega
      have hd3 : ¬ sm + 1 + 1 = sm + 1 := by omega
      have hd4 : ¬ sm + 1 = sm + 1 + 1 := by omega
      clear hfs
      go_wp2_with fail
      go_region_held3 (fun w' => w'.cell? ⟨sm + 1 + 1, 0, none⟩ = some (.pointer (some ⟨sm + 1, 0, none⟩)) ∧ w'.cell? ⟨w.heap.size, 0, none⟩ = some (.slice LA l.length lc)) (go_keep) (fail)
      · clear hc7 hc8 hf7 hf8 hd1 hd2 hd3 hd4 a1 a6 hmk1 hmk2 hbw
        go_wp2_with fail
        obtain ⟨hS, hR⟩ := made_facts (A := Obj.cells (intsV (List.replicate l.length 0)) 3) (B := Obj.cells (nilRows l.length).toArray 24) (rb := wr.heap.size) (fb := wr.heap.size + 1) HL.out HST.out HRW.out HOWN.out HFL.out (Or.inl ⟨rfl, rfl, rfl, rfl⟩)
        have hrbl : sm + 3 ≤ wr.heap.size := by omega
        have hfbl : sm + 3 ≤ wr.heap.size + 1 := by omega
        have hgbl : sm + 3 ≤ g := (HOWN.out.lt g rfl).1
        generalize hW : made wr sm l.length (wr.heap.size) (wr.heap.size + 1) (Obj.cells (intsV (List.replicate l.length 0)) 3) (Obj.cells (nilRows l.length).toArray 24) = W at hS hR
        unfold made at hW
        generalize ((((wr.alloc (Obj.cells (intsV (List.replicate l.length 0)) 3)).alloc (Obj.cells (nilRows l.length).toArray 24)).setCell ⟨sm + 1, 7, none⟩ (.slice (some ⟨wr.heap.size, 0, none⟩) l.length l.length)).setCell ⟨sm + 1, 8, none⟩ (.slice (some ⟨wr.heap.size + 1, 0, none⟩) l.length l.length)).drew = W2 at hW ⊢
        subst hW
        obtain ⟨rb, hrb⟩ : ∃ n, n = wr.heap.size := ⟨_, rfl⟩
        obtain ⟨fb, hfb⟩ : ∃ n, n = wr.heap.size + 1 := ⟨_, rfl⟩
        rw [← hfb] at hR hfbl
        simp only [← hfb]
        rw [← hrb] at hR hrbl
        simp only [← hrb]
        clear hrb hfb
        have HS2 := Lib.hid hS
        have HRR := Lib.hid hR
        clear hS hR
        have hbig2 := hbig
        have hlt6 : sm + 1 + 1 < W2.heap.size := by have := HS2.out.ord; omega
        have hlt1 : w.heap.size + 1 + 1 < W2.heap.size := by have := HS2.out.ord; omega
        have g6 : ghost (sm + 1) nm sm rb fb g b2 (sm + 1 + 1) = 0 := ghost_ptr (by omega) (by omega) (by omega) (by omega) (by omega)
        have glow : ∀ k, k ≤ w.heap.size + 1 + 1 → ghost (sm + 1) nm sm rb fb g b2 k = 0 := fun k hk => ghost_low (by omega) (by omega) (by omega) (by omega) (by omega) (by omega) (by omega)
        have HG6 := Lib.hid g6
        have HGL := Lib.hid glow
        clear g6 glow
        go_loopg [81] l.length (fun gk v wr2 => ∃ (k : Nat), v = .int .i64 k ∧ k + gk = l.length ∧ Rep (ctx w LA lc l nm sm rb fb g cap fs) wr2 (ghost (sm + 1) nm sm rb fb g b2) { st0 l with ref := List.replicate k (-1) ++ List.replicate (l.length - k) 0 } ∧ Stp (ghost (sm + 1) nm sm rb fb g b2) W2 (ghost (sm + 1) nm sm rb fb g b2) wr2)
        case atStart => exact ⟨0, rfl, by omega, HRR.out, Stp.refl _ _⟩
        case round =>
          obtain ⟨k, rfl, hkd, hR2, hS2⟩ := hrel
          have HK2 := Lib.hid hkd
          have HR2 := Lib.hid hR2
          have HSS := Lib.hid hS2
          obtain ⟨pv2, hc2, hf2, _⟩ := hR2.cells
          have e7 : wr.cell? ⟨sm + 1, 7, none⟩ = some (.slice (some ⟨rb, 0, none⟩) l.length l.length) := hc2 7
          have e6 : wr.cell? ⟨sm + 1 + 1, 0, none⟩ = some (.pointer (some ⟨sm + 1, 0, none⟩)) := (hS2.cell hlt6 HG6.out).trans (cells1 HS2.out.ptr).1
          have e1 : wr.cell? ⟨w.heap.size, 0, none⟩ = some (.slice LA l.length lc) := (hS2.cell (by omega) (HGL.out _ (by omega))).trans (cells1 HS2.out.b1).1
          clear hkd hR2 hS2 hc2 hf2
          rcases gk with _ | gk
          · obtain rfl : k = l.length := by have := HK2.out; omega
            have hR3 : Rep (ctx w LA lc l nm sm rb fb g cap fs) wr (ghost (sm + 1) nm sm rb fb g b2) (st0 l) := by
              have h := HR2.out
              rw [ref_end] at h
              exact h
            have hw := wf_of_check HC.out
            obtain ⟨m, hm⟩ : ∃ m, l.length = m + 1 := ⟨l.length - 1, by
              have hne : l.length ≠ 0 := fun e => by have := HC.out; rw [checkF, e] at this; simp [checkFrom, checkEnd, e] at this
              omega⟩
            have hOk0 : Ok l [] (enterF (st0 l)).block [] (enterF (st0 l)) := ⟨(good0 l).enter, rfl, rfl⟩
            have hB1 : Ok l [] (enterF (st0 l)).block [] (allF (nodeF l fs l.length) (nd l m).kids (enterF (st0 l))) := all_ok (fun st k hk h => node_ok hw fs l.length _ _ [] st k.toNat (by have := kids_in hw (show m < l.length by omega) hk; omega) h) _ hOk0
            have HB1 := Lib.hid hB1
            have HR3 := Lib.hid hR3
            have j6 : sm + 1 + 1 < wr.heap.size := block_lt_of_cell e6
            have j1 : w.heap.size < wr.heap.size := block_lt_of_cell e1
            have HW := Lib.hid (within_any hR3 72 #[.pointer (some ⟨sm + 1 + 1, 0, none⟩), .pointer (some ⟨w.heap.size, 0, none⟩)] (fun w => by rfl) (st2 := allF (nodeF l fs l.length) (nd l m).kids (enterF (st0 l)))
              (fun w2 hR4 hS4 => names1_any (C := ctx w LA lc l nm sm rb fb g cap fs) hw (node_all hw l.length [] [] (by show 0 + 3 * l.length ≤ _; omega) (by show 0 + l.length ≤ _; omega)) hm (by omega) hR4 hOk0 (sm + 1 + 1) w.heap.size ((hS4.cell j6 HG6.out).trans e6) ((hS4.cell j1 (HGL.out _ (by omega))).trans e1))
              (fun s => by have := HB1.out.good.len s; simp at this; omega))
            have HM := Lib.hid hm
            clear hR3 hOk0 hB1 hm
            go_wp2_with fail
            refine HW.out.mono ?_
            rintro e w3 ⟨rfl, G3, hR5, hS5⟩
            have HR5 := Lib.hid hR5
            have HS5 := Lib.hid (HSS.out.trans hS5)
            have t6 : w3.cell? ⟨sm + 1 + 1, 0, none⟩ = some (.pointer (some ⟨sm + 1, 0, none⟩)) := (hS5.cell j6 HG6.out).trans e6
            obtain ⟨pv3, hc3, hf3, _⟩ := hR5.cells
            obtain ⟨S3, hS3⟩ : ∃ S3, S3 = leaveF (allF (nodeF l fs l.length) (nd l m).kids (enterF (st0 l))) (st0 l).block := ⟨_, rfl⟩
            rw [← hS3] at hc3
            have HS3 := Lib.hid hS3
            have d9 : w3.cell? ⟨sm + 1, 9, none⟩ = some (.int .i64 S3.at_) := hc3 9
            have d10 : w3.cell? ⟨sm + 1, 10, none⟩ = some (.int .i64 S3.code) := hc3 10
            have d7 : w3.cell? ⟨sm + 1, 7, none⟩ = some (.slice (some ⟨rb, 0, none⟩) l.length l.length) := hc3 7
            have d8 : w3.cell? ⟨sm + 1, 8, none⟩ = some (.slice (some ⟨fb, 0, none⟩) l.length l.length) := hc3 8
            have br3 : w3.heap[w.heap.size + 1]? = some (.cells #[.slice none 0 0, .slice none 0 0] 39 (0, 0)) := ((HSS.out.trans hS5).block _ (by omega) (HGL.out _ (by omega))).trans HS2.out.br
            have bf3 : w3.heap[w.heap.size + 1 + 1]? = some (.cells #[.int .i64 0, .int .i64 0] 42 (0, 0)) := ((HSS.out.trans hS5).block _ (by omega) (HGL.out _ (by omega))).trans HS2.out.bf
            have gr3 : G3 (w.heap.size + 1) = 0 := ((HSS.out.trans hS5).own _ (by omega)).trans (HGL.out _ (by omega))
            have gf3 : G3 (w.heap.size + 1 + 1) = 0 := ((HSS.out.trans hS5).own _ (by omega)).trans (HGL.out _ (by omega))
            obtain ⟨⟨q1, q2⟩, q3, q4⟩ := cells2 br3
            obtain ⟨⟨s1, s2⟩, s3, s4⟩ := cells2 bf3
            have GR3 := Lib.hid gr3
            have GF3 := Lib.hid gf3
            have hgood : Good l [] S3 := by rw [hS3]; exact HB1.out.good.leave (b := (enterF (st0 l)).block) HB1.out.blk _
            have HGD := Lib.hid hgood
            have HNF : Hid (namesF l = if S3.code ≠ 0 then (([], []), S3.at_, S3.code) else ((S3.ref, S3.free), 0, 0)) := by
              have hmm : l.length - 1 = m := by have := HM.out; omega
              show namesF l = _
              rw [namesF, if_neg (by rw [HC.out]; simp), hmm, HFS.out, hS3]
              rfl
            have HR6 : Hid (Rep (ctx w LA lc l nm sm rb fb g cap fs) w3 G3 S3) := by rw [hS3]; exact HR5.out
            have hne1 : ¬ sm + 1 = w.heap.size + 1 := by omega
            have hne2 : ¬ sm + 1 = w.heap.size + 1 + 1 := by omega
            have hne3 : ¬ w.heap.size + 1 = sm + 1 := by omega
            have hne4 : ¬ w.heap.size + 1 + 1 = sm + 1 := by omega
            clear hR5 hS5 e6 e7 e1 HW hc3 hf3 hS3 br3 bf3 gr3 gf3 hgood HR5
            cases ec3 : (S3.code != 0) with
            | true =>
              have hc0 : S3.code ≠ 0 := by simpa using ec3
              have HNF2 : Hid (namesF l = (([], []), S3.at_, S3.code)) := HNF.out.trans (if_pos hc0)
              clear hc0 d7 d8
              go_wp2_with fail
              have hnf1 : ¬ w.heap.size = sm := by omega
              have hnf2 : ¬ sm = w.heap.size := by omega
              have hnf3 : ¬ w.heap.size + 1 = sm := by omega
              have hnf4 : ¬ sm = w.heap.size + 1 := by omega
              have hnf5 : ¬ w.heap.size = sm + 1 := by omega
              have hnf6 : ¬ sm + 1 = w.heap.size := by omega
              have hne5 : ¬ sm + 1 + 1 = w.heap.size + 1 := by omega
              have hne6 : ¬ sm + 1 + 1 = w.heap.size + 1 + 1 := by omega
              have hne7 : ¬ w.heap.size + 1 = sm + 1 + 1 := by omega
              have hne8 : ¬ w.heap.size + 1 + 1 = sm + 1 + 1 := by omega
              go_region_held3 (fun w' => w'.cell? ⟨sm + 1 + 1, 0, none⟩ = some (.pointer (some ⟨sm + 1, 0, none⟩)) ∧ w'.cell? ⟨sm + 1, 9, none⟩ = some (.int .i64 S3.at_) ∧ w'.cell? ⟨sm + 1, 10, none⟩ = some (.int .i64 S3.code)) (go_keep) (fail)
              go_wp2_with fail
              refine bodyPost_ret (v := .tuple #[.agg #[.slice none 0 0, .slice none 0 0], .agg #[.int .i64 S3.at_, .int .i64 S3.code]]) (by simp [results, Try.results24, go_sem, q1, q2, q3, q4, s1, s2, s3, s4]) rfl ?_
              exact names_post_fault HNF2.out (Below.set4 (HR6.out.below.drew) (Nat.le_succ _) (by show w.heap.size ≤ w.heap.size + 1 + 1; omega))
            | false =>
              have hc0 : ¬ S3.code ≠ 0 := by simpa using ec3
              have HNF2 : Hid (namesF l = ((S3.ref, S3.free), 0, 0)) := HNF.out.trans (if_neg hc0)
              clear hc0
              go_wp2_with fail
              refine bodyPost_ret (v := .tuple #[.agg #[.slice (some ⟨rb, 0, none⟩) l.length l.length, .slice (some ⟨fb, 0, none⟩) l.length l.length], .agg #[.int .i64 0, .int .i64 0]]) (by simp [results, Try.results24, go_sem, q1, q2, q3, q4, s1, s2, s3, s4]) rfl ?_
              exact names_post_ok (C := ctx w LA lc l nm sm rb fb g cap fs) HNF2.out HR6.out HGD.out GR3.out GF3.out
          · have hk : k < l.length := by have := HK2.out; omega
            have hlen : (List.replicate k (-1 : Int) ++ List.replicate (l.length - k) 0).length = l.length := by simp; omega
            have v1 := HR2.out.ref.cell (i := k) (by show k < (List.replicate k (-1 : Int) ++ List.replicate (l.length - k) 0).length; omega)
            have v2 := HR2.out.ref.frozen k
            have v1' : wr.cell? ⟨rb, k, none⟩ = some (.int .i64 (gi (List.replicate k (-1 : Int) ++ List.replicate (l.length - k) 0) k)) := v1
            have v2' : wr.frozen? ⟨rb, k, none⟩ = false := v2
            have HRS := Lib.hid (HR2.out.refset k (-1))
            have hnb : ¬ rb = sm + 1 := by omega
            have hnb2 : ¬ sm + 1 = rb := by omega
            clear v1 v2 hlen
            go_wp2_with fail
            go_roundg gk
            case measure => omega
            case rel =>
              refine ⟨k + 1, by go_num, by have := HK2.out; omega, ?_, HSS.out.trans HRS.out.2⟩
              have h := HRS.out.1
              simp only [set_next hk] at h
              exact h
      · clear hc7 hc8 hf7 hf8 hd1 hd2 hd3 hd4 a1 a6 hmk1 hmk2 hbw
        go_wp2_with fail
        obtain ⟨hS, hR⟩ := made_facts (A := Obj.cells (nilRows l.length).toArray 24) (B := Obj.cells (intsV (List.replicate l.length 0)) 3) (rb := wr.heap.size + 1) (fb := wr.heap.size) HL.out HST.out HRW.out HOWN.out HFL.out (Or.inr ⟨rfl, rfl, rfl, rfl⟩)
        have hrbl : sm + 3 ≤ wr.heap.size + 1 := by omega
        have hfbl : sm + 3 ≤ wr.heap.size := by omega
        have hgbl : sm + 3 ≤ g := (HOWN.out.lt g rfl).1
        generalize hW : made wr sm l.length (wr.heap.size + 1) (wr.heap.size) (Obj.cells (nilRows l.length).toArray 24) (Obj.cells (intsV (List.replicate l.length 0)) 3) = W at hS hR
        unfold made at hW
        generalize ((((wr.alloc (Obj.cells (nilRows l.length).toArray 24)).alloc (Obj.cells (intsV (List.replicate l.length 0)) 3)).setCell ⟨sm + 1, 7, none⟩ (.slice (some ⟨wr.heap.size + 1, 0, none⟩) l.length l.length)).setCell ⟨sm + 1, 8, none⟩ (.slice (some ⟨wr.heap.size, 0, none⟩) l.length l.length)).drew = W2 at hW ⊢
        subst hW
        obtain ⟨rb, hrb⟩ : ∃ n, n = wr.heap.size + 1 := ⟨_, rfl⟩
        obtain ⟨fb, hfb⟩ : ∃ n, n = wr.heap.size := ⟨_, rfl⟩
        rw [← hrb] at hR hrbl
        simp only [← hrb]
        rw [← hfb] at hR hfbl
        simp only [← hfb]
        clear hrb hfb
        have HS2 := Lib.hid hS
        have HRR := Lib.hid hR
        clear hS hR
        have hbig2 := hbig
        have hlt6 : sm + 1 + 1 < W2.heap.size := by have := HS2.out.ord; omega
        have hlt1 : w.heap.size + 1 + 1 < W2.heap.size := by have := HS2.out.ord; omega
        have g6 : ghost (sm + 1) nm sm rb fb g b2 (sm + 1 + 1) = 0 := ghost_ptr (by omega) (by omega) (by omega) (by omega) (by omega)
        have glow : ∀ k, k ≤ w.heap.size + 1 + 1 → ghost (sm + 1) nm sm rb fb g b2 k = 0 := fun k hk => ghost_low (by omega) (by omega) (by omega) (by omega) (by omega) (by omega) (by omega)
        have HG6 := Lib.hid g6
        have HGL := Lib.hid glow
        clear g6 glow
        go_loopg [81] l.length (fun gk v wr2 => ∃ (k : Nat), v = .int .i64 k ∧ k + gk = l.length ∧ Rep (ctx w LA lc l nm sm rb fb g cap fs) wr2 (ghost (sm + 1) nm sm rb fb g b2) { st0 l with ref := List.replicate k (-1) ++ List.replicate (l.length - k) 0 } ∧ Stp (ghost (sm + 1) nm sm rb fb g b2) W2 (ghost (sm + 1) nm sm rb fb g b2) wr2)
        case atStart => exact ⟨0, rfl, by omega, HRR.out, Stp.refl _ _⟩
        case round =>
          obtain ⟨k, rfl, hkd, hR2, hS2⟩ := hrel
          have HK2 := Lib.hid hkd
          have HR2 := Lib.hid hR2
          have HSS := Lib.hid hS2
          obtain ⟨pv2, hc2, hf2, _⟩ := hR2.cells
          have e7 : wr.cell? ⟨sm + 1, 7, none⟩ = some (.slice (some ⟨rb, 0, none⟩) l.length l.length) := hc2 7
          have e6 : wr.cell? ⟨sm + 1 + 1, 0, none⟩ = some (.pointer (some ⟨sm + 1, 0, none⟩)) := (hS2.cell hlt6 HG6.out).trans (cells1 HS2.out.ptr).1
          have e1 : wr.cell? ⟨w.heap.size, 0, none⟩ = some (.slice LA l.length lc) := (hS2.cell (by omega) (HGL.out _ (by omega))).trans (cells1 HS2.out.b1).1
          clear hkd hR2 hS2 hc2 hf2
          rcases gk with _ | gk
          · obtain rfl : k = l.length := by have := HK2.out; omega
            have hR3 : Rep (ctx w LA lc l nm sm rb fb g cap fs) wr (ghost (sm + 1) nm sm rb fb g b2) (st0 l) := by
              have h := HR2.out
              rw [ref_end] at h
              exact h
            have hw := wf_of_check HC.out
            obtain ⟨m, hm⟩ : ∃ m, l.length = m + 1 := ⟨l.length - 1, by
              have hne : l.length ≠ 0 := fun e => by have := HC.out; rw [checkF, e] at this; simp [checkFrom, checkEnd, e] at this
              omega⟩
            have hOk0 : Ok l [] (enterF (st0 l)).block [] (enterF (st0 l)) := ⟨(good0 l).enter, rfl, rfl⟩
            have hB1 : Ok l [] (enterF (st0 l)).block [] (allF (nodeF l fs l.length) (nd l m).kids (enterF (st0 l))) := all_ok (fun st k hk h => node_ok hw fs l.length _ _ [] st k.toNat (by have := kids_in hw (show m < l.length by omega) hk; omega) h) _ hOk0
            have HB1 := Lib.hid hB1
            have HR3 := Lib.hid hR3
            have j6 : sm + 1 + 1 < wr.heap.size := block_lt_of_cell e6
            have j1 : w.heap.size < wr.heap.size := block_lt_of_cell e1
            have HW := Lib.hid (within_any hR3 72 #[.pointer (some ⟨sm + 1 + 1, 0, none⟩), .pointer (some ⟨w.heap.size, 0, none⟩)] (fun w => by rfl) (st2 := allF (nodeF l fs l.length) (nd l m).kids (enterF (st0 l)))
              (fun w2 hR4 hS4 => names1_any (C := ctx w LA lc l nm sm rb fb g cap fs) hw (node_all hw l.length [] [] (by show 0 + 3 * l.length ≤ _; omega) (by show 0 + l.length ≤ _; omega)) hm (by omega) hR4 hOk0 (sm + 1 + 1) w.heap.size ((hS4.cell j6 HG6.out).trans e6) ((hS4.cell j1 (HGL.out _ (by omega))).trans e1))
              (fun s => by have := HB1.out.good.len s; simp at this; omega))
            have HM := Lib.hid hm
            clear hR3 hOk0 hB1 hm
            go_wp2_with fail
            refine HW.out.mono ?_
            rintro e w3 ⟨rfl, G3, hR5, hS5⟩
            have HR5 := Lib.hid hR5
            have HS5 := Lib.hid (HSS.out.trans hS5)
            have t6 : w3.cell? ⟨sm + 1 + 1, 0, none⟩ = some (.pointer (some ⟨sm + 1, 0, none⟩)) := (hS5.cell j6 HG6.out).trans e6
            obtain ⟨pv3, hc3, hf3, _⟩ := hR5.cells
            obtain ⟨S3, hS3⟩ : ∃ S3, S3 = leaveF (allF (nodeF l fs l.length) (nd l m).kids (enterF (st0 l))) (st0 l).block := ⟨_, rfl⟩
            rw [← hS3] at hc3
            have HS3 := Lib.hid hS3
            have d9 : w3.cell? ⟨sm + 1, 9, none⟩ = some (.int .i64 S3.at_) := hc3 9
            have d10 : w3.cell? ⟨sm + 1, 10, none⟩ = some (.int .i64 S3.code) := hc3 10
            have d7 : w3.cell? ⟨sm + 1, 7, none⟩ = some (.slice (some ⟨rb, 0, none⟩) l.length l.length) := hc3 7
            have d8 : w3.cell? ⟨sm + 1, 8, none⟩ = some (.slice (some ⟨fb, 0, none⟩) l.length l.length) := hc3 8
            have br3 : w3.heap[w.heap.size + 1]? = some (.cells #[.slice none 0 0, .slice none 0 0] 39 (0, 0)) := ((HSS.out.trans hS5).block _ (by omega) (HGL.out _ (by omega))).trans HS2.out.br
            have bf3 : w3.heap[w.heap.size + 1 + 1]? = some (.cells #[.int .i64 0, .int .i64 0] 42 (0, 0)) := ((HSS.out.trans hS5).block _ (by omega) (HGL.out _ (by omega))).trans HS2.out.bf
            have gr3 : G3 (w.heap.size + 1) = 0 := ((HSS.out.trans hS5).own _ (by omega)).trans (HGL.out _ (by omega))
            have gf3 : G3 (w.heap.size + 1 + 1) = 0 := ((HSS.out.trans hS5).own _ (by omega)).trans (HGL.out _ (by omega))
            obtain ⟨⟨q1, q2⟩, q3, q4⟩ := cells2 br3
            obtain ⟨⟨s1, s2⟩, s3, s4⟩ := cells2 bf3
            have GR3 := Lib.hid gr3
            have GF3 := Lib.hid gf3
            have hgood : Good l [] S3 := by rw [hS3]; exact HB1.out.good.leave (b := (enterF (st0 l)).block) HB1.out.blk _
            have HGD := Lib.hid hgood
            have HNF : Hid (namesF l = if S3.code ≠ 0 then (([], []), S3.at_, S3.code) else ((S3.ref, S3.free), 0, 0)) := by
              have hmm : l.length - 1 = m := by have := HM.out; omega
              show namesF l = _
              rw [namesF, if_neg (by rw [HC.out]; simp), hmm, HFS.out, hS3]
              rfl
            have HR6 : Hid (Rep (ctx w LA lc l nm sm rb fb g cap fs) w3 G3 S3) := by rw [hS3]; exact HR5.out
            have hne1 : ¬ sm + 1 = w.heap.size + 1 := by omega
            have hne2 : ¬ sm + 1 = w.heap.size + 1 + 1 := by omega
            have hne3 : ¬ w.heap.size + 1 = sm + 1 := by omega
            have hne4 : ¬ w.heap.size + 1 + 1 = sm + 1 := by omega
            clear hR5 hS5 e6 e7 e1 HW hc3 hf3 hS3 br3 bf3 gr3 gf3 hgood HR5
            cases ec3 : (S3.code != 0) with
            | true =>
              have hc0 : S3.code ≠ 0 := by simpa using ec3
              have HNF2 : Hid (namesF l = (([], []), S3.at_, S3.code)) := HNF.out.trans (if_pos hc0)
              clear hc0 d7 d8
              go_wp2_with fail
              have hnf1 : ¬ w.heap.size = sm := by omega
              have hnf2 : ¬ sm = w.heap.size := by omega
              have hnf3 : ¬ w.heap.size + 1 = sm := by omega
              have hnf4 : ¬ sm = w.heap.size + 1 := by omega
              have hnf5 : ¬ w.heap.size = sm + 1 := by omega
              have hnf6 : ¬ sm + 1 = w.heap.size := by omega
              have hne5 : ¬ sm + 1 + 1 = w.heap.size + 1 := by omega
              have hne6 : ¬ sm + 1 + 1 = w.heap.size + 1 + 1 := by omega
              have hne7 : ¬ w.heap.size + 1 = sm + 1 + 1 := by omega
              have hne8 : ¬ w.heap.size + 1 + 1 = sm + 1 + 1 := by omega
              go_region_held3 (fun w' => w'.cell? ⟨sm + 1 + 1, 0, none⟩ = some (.pointer (some ⟨sm + 1, 0, none⟩)) ∧ w'.cell? ⟨sm + 1, 9, none⟩ = some (.int .i64 S3.at_) ∧ w'.cell? ⟨sm + 1, 10, none⟩ = some (.int .i64 S3.code)) (go_keep) (fail)
              go_wp2_with fail
              refine bodyPost_ret (v := .tuple #[.agg #[.slice none 0 0, .slice none 0 0], .agg #[.int .i64 S3.at_, .int .i64 S3.code]]) (by simp [results, Try.results24, go_sem, q1, q2, q3, q4, s1, s2, s3, s4]) rfl ?_
              exact names_post_fault HNF2.out (Below.set4 (HR6.out.below.drew) (Nat.le_succ _) (by show w.heap.size ≤ w.heap.size + 1 + 1; omega))
            | false =>
              have hc0 : ¬ S3.code ≠ 0 := by simpa using ec3
              have HNF2 : Hid (namesF l = ((S3.ref, S3.free), 0, 0)) := HNF.out.trans (if_neg hc0)
              clear hc0
              go_wp2_with fail
              refine bodyPost_ret (v := .tuple #[.agg #[.slice (some ⟨rb, 0, none⟩) l.length l.length, .slice (some ⟨fb, 0, none⟩) l.length l.length], .agg #[.int .i64 0, .int .i64 0]]) (by simp [results, Try.results24, go_sem, q1, q2, q3, q4, s1, s2, s3, s4]) rfl ?_
              exact names_post_ok (C := ctx w LA lc l nm sm rb fb g cap fs) HNF2.out HR6.out HGD.out GR3.out GF3.out
          · have hk : k < l.length := by have := HK2.out; omega
            have hlen : (List.replicate k (-1 : Int) ++ List.replicate (l.length - k) 0).length = l.length := by simp; omega
            have v1 := HR2.out.ref.cell (i := k) (by show k < (List.replicate k (-1 : Int) ++ List.replicate (l.length - k) 0).length; omega)
            have v2 := HR2.out.ref.frozen k
            have v1' : wr.cell? ⟨rb, k, none⟩ = some (.int .i64 (gi (List.replicate k (-1 : Int) ++ List.replicate (l.length - k) 0) k)) := v1
            have v2' : wr.frozen? ⟨rb, k, none⟩ = false := v2
            have HRS := Lib.hid (HR2.out.refset k (-1))
            have hnb : ¬ rb = sm + 1 := by omega
            have hnb2 : ¬ sm + 1 = rb := by omega
            clear v1 v2 hlen
            go_wp2_with fail
            go_roundg gk
            case measure => omega
            case rel =>
              refine ⟨k + 1, by go_num, by have := HK2.out; omega, ?_, HSS.out.trans HRS.out.2⟩
              have h := HRS.out.1
              simp only [set_next hk] at h
              exact h
    · have hk : k < l.length := by have := HKD.out; omega
      obtain ⟨bb, o, hA, hn⟩ := (HL.out.below hbw).node k hk
      obtain ⟨n1, n2, n3, n4, n5, n6, nz, n7⟩ := hn
      subst hA
      have hbk := big_le n6
      have c1 : wr.cell? ⟨sm + 1, 1, none⟩ = some FV := by rw [cell_of_row wr _ 1 _ _ _ HRW.out]; rfl
      have hw1 : sm + 1 < wr.heap.size := by omega
      have c1a : ∀ o n, ((wr.drewN n).alloc o).cell? ⟨sm + 1, 1, none⟩ = some FV := fun o n => (World.cell?_alloc_lt _ _ _ hw1).trans c1
      obtain ⟨FA, fc, hFV, hFA⟩ := row_slice (xs := fs) (v := FV) (by rw [HFL.out]; exact own_base HOWN.out)
      rw [HFL.out] at hFV
      subst hFV
      obtain ⟨i0, hi0, hz0, hz1, hz2⟩ := info_parts info3
      have hkb : k ≤ 2147483648 := by omega
      go_wp2_with fail
      have hWb : ∀ b, b < wr.heap.size → (wr.alloc (nd l k).obj).heap[b]? = wr.heap[b]? := fun b hb => Below.heap_alloc wr _ b hb
      have hWn : (wr.alloc (nd l k).obj).heap[wr.heap.size]? = some (nd l k).obj := heap_alloc_new wr _
      have hsz : (wr.alloc (nd l k).obj).heap.size = wr.heap.size + 1 := World.size_alloc _ _
      have hst1 : Start w (some ⟨bb, o, none⟩) l.length lc (wr.alloc (nd l k).obj) nm b2 sm := HST.out.kept rfl rfl rfl (by simp) (fun b hb _ => hWb b (by omega))
      have hrw1 : (wr.alloc (nd l k).obj).heap[sm + 1]? = some (.cells (row1 (some ⟨bb, o, none⟩) l.length lc nm sm (.slice FA k fc)) 115 (0, 0)) := (hWb _ hw1).trans HRW.out
      have hown1 : (wr.alloc (nd l k).obj).ownsRow (sm + 3) 3 1 (.slice FA k fc) k (intL fs) := HOWN.out.alloc _
      have hgw : World.grownBy wr (wr.alloc (nd l k).obj) none := World.grownBy_alloc wr _ none
      obtain ⟨n, hnk⟩ : ∃ n, n = nd l k := ⟨_, rfl⟩
      rw [← hnk] at hWb hWn hsz hst1 hrw1 hown1
      simp only [← hnk]
      generalize hWA : wr.alloc (.cells #[.int .i64 n.kind, .int .i64 n.at_, .slice n.kA n.kids.length n.kc, .string n.name, .int .i64 n.num] 33) = WA
      change wr.alloc n.obj = WA at hWA
      rw [hWA] at hWb hWn hsz hst1 hrw1 hown1
      have HWB := Lib.hid hWb
      have HWN := Lib.hid hWn
      have HSZ := Lib.hid hsz
      have HST1 := Lib.hid hst1
      have HRW1 := Lib.hid hrw1
      have HOWN1 := Lib.hid hown1
      have HNK := Lib.hid hnk
      have b6 := (cells1 hst1.ptr).1
      have hw2 : sm + 1 < WA.heap.size := by omega
      have c1 : WA.cell? ⟨sm + 1, 1, none⟩ = some (.slice FA k fc) := by rw [cell_of_row WA _ 1 _ _ _ hrw1]; rfl
      have c1b : ∀ o n, ((WA.drewN n).alloc o).cell? ⟨sm + 1, 1, none⟩ = some (.slice FA k fc) := fun o n => (World.cell?_alloc_lt _ _ _ hw2).trans c1
      clear hWb hWn hsz hst1 hrw1 hown1 hWA c1a n1 n2 n3 n4 n5 hnk hgw a1 a6
      refine wp_region_E (fun w' => w'.cell? ⟨sm + 1 + 1, 0, none⟩ = some (.pointer (some ⟨sm + 1, 0, none⟩)) ∧ w'.cell? ⟨sm + 1, 1, none⟩ = some (.slice FA k fc)) 10 (by kernel_rfl) ⟨b6, c1⟩ (fun hS0 => ?_)
      refine wpAnyE_take (i := 0) (oi := { dst := (some 38), op := (Op.load 108 (Operand.tmp 6)), type := 108, pos := "scope.go:40", after := #[], guard := none }) (v := ?_) rfl (by kernel_rfl) (fun _ _ _ h => h) ⟨by rfl, ?_⟩ hS0 ?_
      rotate_left
      · (intro w hSw; (try dsimp only at hSw); go_simp; try with_reducible rfl)
      try simp only [Act.put, List.setIfInBounds_toArray, List.set_cons_zero, List.set_cons_succ]
      refine wpAnyE_take (i := 1) (oi := { dst := (some 39), op := (Op.load 108 (Operand.tmp 6)), type := 108, pos := "scope.go:40", after := #[], guard := none }) (v := ?_) rfl (by kernel_rfl) (fun _ _ _ h => h) ⟨by rfl, ?_⟩ hS0 ?_
      rotate_left
      · (intro w hSw; (try dsimp only at hSw); go_simp; try with_reducible rfl)
      try simp only [Act.put, List.setIfInBounds_toArray, List.set_cons_zero, List.set_cons_succ]
      refine wpAnyE_take (i := 2) (oi := { dst := (some 40), op := (Op.nilCheck (Operand.tmp 39)), type := 0, pos := "scope.go:40", after := #[{ on := 1, ground := Ground.data }], guard := none }) (v := ?_) rfl (by kernel_rfl) (fun _ _ _ h => h) ⟨by rfl, ?_⟩ hS0 ?_
      rotate_left
      · (intro w hSw; (try dsimp only at hSw); go_simp; try with_reducible rfl)
      try simp only [Act.put, List.setIfInBounds_toArray, List.set_cons_zero, List.set_cons_succ]
      refine wpAnyE_take (i := 3) (oi := { dst := (some 41), op := (Op.fieldAddr 115 (Operand.tmp 40) 1), type := 0, pos := "scope.go:40", after := #[{ on := 2, ground := Ground.data }], guard := none }) (v := ?_) rfl (by kernel_rfl) (fun _ _ _ h => h) ⟨by rfl, ?_⟩ hS0 ?_
      rotate_left
      · (intro w hSw; (try dsimp only at hSw); go_simp; try with_reducible rfl)
      try simp only [Act.put, List.setIfInBounds_toArray, List.set_cons_zero, List.set_cons_succ]
      refine wpAnyE_take (i := 4) (oi := { dst := (some 42), op := (Op.load 24 (Operand.tmp 41)), type := 24, pos := "scope.go:40", after := #[{ on := 3, ground := Ground.data }], guard := none }) (v := ?_) rfl (by kernel_rfl) (fun _ _ _ h => h) ⟨by rfl, ?_⟩ hS0 ?_
      rotate_left
      · (intro w hSw; (try dsimp only at hSw); go_simp; try with_reducible rfl)
      try simp only [Act.put, List.setIfInBounds_toArray, List.set_cons_zero, List.set_cons_succ]
      refine wpAnyE_take (i := 5) (oi := { dst := (some 43), op := (Op.move (Operand.tmp 7)), type := 3, pos := "scope.go:40", after := #[], guard := none }) (v := ?_) rfl (by kernel_rfl) (fun _ _ _ h => h) ⟨by rfl, ?_⟩ hS0 ?_
      rotate_left
      · (intro w hSw; (try dsimp only at hSw); go_simp; try with_reducible rfl)
      try simp only [Act.put, List.setIfInBounds_toArray, List.set_cons_zero, List.set_cons_succ]
      refine wpAnyE_one (i := 6) (o := { dst := (some 44), op := (Op.buildSlice 24 1 #[(0, (Operand.tmp 43))]), type := 24, pos := "scope.go:40", after := #[{ on := 5, ground := Ground.data }], guard := none }) (by kernel_rfl) rfl (fun K hK => ?_)
      go_simp
      have hS6 : (fun w' => w'.cell? ⟨sm + 1 + 1, 0, none⟩ = some (.pointer (some ⟨sm + 1, 0, none⟩)) ∧ w'.cell? ⟨sm + 1, 1, none⟩ = some (.slice FA k fc)) (WA.drew.alloc (.cells #[.int .i64 k] 3)) := ⟨(World.cell?_alloc_lt _ _ _ (by show sm + 1 + 1 < WA.heap.size; have := HSZ.out; omega)).trans b6, (World.cell?_alloc_lt _ _ _ hw2).trans c1⟩
      refine hK.out _ _ (Or.inr hS6) ?_
      clear hK K
      try simp only [Act.put, List.setIfInBounds_toArray, List.set_cons_zero, List.set_cons_succ]
      refine wpAnyE_one (i := 7) (o := { dst := (some 45), op := (Op.call { callee := (Callee.builtin Builtin.append), args := #[(Operand.tmp 42), (Operand.tmp 44)], argTypes := #[24, 24] }), type := 24, pos := "scope.go:40", after := #[{ on := 4, ground := Ground.data }, { on := 6, ground := Ground.data }], guard := none }) (by kernel_rfl) rfl (fun K hK => ?_)
      refine wanted_step rfl ?_
      refine wp_append_lies _ (.tmp 42) (.tmp 44) 24 rfl (sm + 3) 3 i0 (.int .i64 0) 1 8 Try.underlying24 hi0 hz0 hz1 hz2 rfl (by decide) _ k (intL fs) rfl (World.ownsRow.alloc (w := WA.drewN 1) HOWN1.out _) ⟨WA.heap.size, 0, none⟩ 1 1 [.int .i64 k] rfl rfl (World.news_of_block (cs := #[.int .i64 k]) (t := 3) (fr := (0, 0)) (heap_alloc_new _ _)) (by simp [Value.oneCell']) (by decide) (by unfold maxLen; omega) (by omega) (by simp; omega) _ rfl ?_
      intro g cap w1 hown hg hat hlt
      obtain ⟨HF, f1, hz, q6⟩ := first_step HST1.out HRW1.out HOWN1.out hown hg
      have hx1 : ¬ sm + 1 + 1 = sm + 1 := by omega
      have hx2 : ¬ sm + 1 = sm + 1 + 1 := by omega
      have hS7 : (fun w' => w'.cell? ⟨sm + 1 + 1, 0, none⟩ = some (.pointer (some ⟨sm + 1, 0, none⟩)) ∧ w'.cell? ⟨sm + 1, 1, none⟩ = some (.slice FA k fc)) w1 := ⟨q6, hz⟩
      clear hown hg hat hlt
      refine hK.out _ _ (Or.inr hS7) ?_
      clear hK K
      try simp only [Act.put, List.setIfInBounds_toArray, List.set_cons_zero, List.set_cons_succ]
      refine wpAnyE_one (i := 8) (o := { dst := (some 46), op := (Op.nilCheck (Operand.tmp 38)), type := 0, pos := "scope.go:40", after := #[{ on := 0, ground := Ground.data }, { on := 0, ground := Ground.phase }, { on := 1, ground := Ground.phase }, { on := 2, ground := Ground.phase }, { on := 3, ground := Ground.phase }, { on := 4, ground := Ground.phase }, { on := 5, ground := Ground.phase }, { on := 6, ground := Ground.phase }, { on := 7, ground := Ground.phase }], guard := none }) (by kernel_rfl) rfl (fun K hK => ?_)
      go_simp
      refine hK.out _ _ (Or.inr hS7) ?_
      clear hK K
      try simp only [Act.put, List.setIfInBounds_toArray, List.set_cons_zero, List.set_cons_succ]
      refine wpAnyE_one (i := 9) (o := { dst := (some 47), op := (Op.fieldAddr 115 (Operand.tmp 46) 1), type := 0, pos := "scope.go:40", after := #[{ on := 8, ground := Ground.data }, { on := 0, ground := Ground.phase }, { on := 1, ground := Ground.phase }, { on := 2, ground := Ground.phase }, { on := 3, ground := Ground.phase }, { on := 4, ground := Ground.phase }, { on := 5, ground := Ground.phase }, { on := 6, ground := Ground.phase }, { on := 7, ground := Ground.phase }], guard := none }) (by kernel_rfl) rfl (fun K hK => ?_)
      go_simp
      refine hK.out _ _ (Or.inr hS7) ?_
      clear hK K
      try simp only [Act.put, List.setIfInBounds_toArray, List.set_cons_zero, List.set_cons_succ]
      refine wpAnyE_one (i := 10) (o := { dst := none, op := (Op.store 24 (Operand.tmp 47) (Operand.tmp 45)), type := 0, pos := "scope.go:40", after := #[{ on := 9, ground := Ground.data }, { on := 7, ground := Ground.data }, { on := 7, ground := Ground.chain }, { on := 0, ground := Ground.phase }, { on := 1, ground := Ground.phase }, { on := 2, ground := Ground.phase }, { on := 3, ground := Ground.phase }, { on := 4, ground := Ground.phase }, { on := 5, ground := Ground.phase }, { on := 6, ground := Ground.phase }, { on := 7, ground := Ground.phase }], guard := none }) (by kernel_rfl) rfl (fun K hK => ?_)
      go_simp
      refine hK.out _ _ (Or.inl rfl) ?_
      clear hK K hS0 hS6 hS7
      refine wpAnyE_done (by kernel_rfl) ?_
      all_goals
        generalize hW1 : w1.setCell ⟨sm + 1, 1, none⟩ (.slice (some ⟨g, 0, none⟩) (k + 1) cap) = W1 at *
        obtain ⟨hst2, hrw2, hown2, hsame⟩ := HF.out
        have hwrs := hst2.ord
        have t8 : W1.heap[wr.heap.size]? = some n.obj := (hsame _ (by have := HSZ.out; omega) (by omega) (fun e => by have := (HOWN.out.lt _ e).2; omega)).trans HWN.out
        obtain ⟨u0, u1, u2, u3, u4, u5⟩ := Nd.obj_cells t8
        have b61 := (cells1 hst2.ptr).1
        have c11 : W1.cell? ⟨sm + 1, 1, none⟩ = some (.slice (some ⟨g, 0, none⟩) (k + 1) cap) := by rw [cell_of_row W1 _ 1 _ _ _ hrw2]; rfl
        have hgs : g < W1.heap.size := (hown2.lt g rfl).2
        have hgb : sm + 3 ≤ g := (hown2.lt g rfl).1
        have HST2 := Lib.hid hst2
        have HRW2 := Lib.hid hrw2
        have HOWN2 := Lib.hid hown2
        have hlen2 : (nextFirst l fs).length = k + 1 := by unfold nextFirst; simp [HFL.out]
        have HLEN2 := Lib.hid hlen2
        have hcap := own_cap (own_base hown2)
        by_cases h0 : 0 < n.kids.length
        · have hd := (wf_of_check HC.out).down k hk 0 (by rw [← HNK.out]; exact h0)
          obtain ⟨p, hp⟩ : ∃ p : Nat, gi (nd l k).kids 0 = p := ⟨_, (Int.toNat_of_nonneg hd.1).symm⟩
          have hpk : p < k := by have := hd.2; rw [hp] at this; omega
          have hnx := first_some HFL.out (by rw [← HNK.out]; exact h0) hp hpk
          obtain ⟨bb', o', hA', hn'⟩ := (HL.out.below hst2.below).node k hk
          obtain ⟨b3, o3, hkA, hkc⟩ := hn'.row 0 (by rw [← HNK.out]; exact h0)
          rw [hp, Nat.add_zero] at hkc
          rw [← HNK.out] at hkA
          rw [hkA] at u2
          have v1 := own_get hown2 (j := p) (by omega)
          have v2 := hown2.frozenAt k
          have v3 := own_get hown2 (j := k) (by omega)
          have hz9 : (0 : Int) < (n.kids.length : Int) := by omega
          have hpk1 : (p : Int) < (k : Int) + 1 := by omega
          have hkk1 : (k : Int) < (k : Int) + 1 := by omega
          have hne8 : ¬ g = sm + 1 := by omega
          have hne9 : ¬ sm + 1 = g := by omega
          have HNX := Lib.hid hnx
          have hfin : (W1.drew.setCell ⟨g, k, none⟩ (.int .i64 (gi (fs ++ [(k : Int)]) p))).ownsRow (sm + 3) 3 1 (.slice (some ⟨g, 0, none⟩) (k + 1) cap) (k + 1) (intL ((fs ++ [(k : Int)]).set k (gi (fs ++ [(k : Int)]) p))) := own_set (w := W1.drew) hown2 _
          have HFIN := Lib.hid hfin
          clear hfin hnx hp hd hA' hn' hkA hst2 hrw2 hown2 hsame HF hW1 hlen2 t8 q6 f1 hz hwrs
          go_wp2_with fail
          go_still_tail 15, (by kernel_rfl)
          go_wp2_with fail
          go_roundg gk
          case measure => omega
          case rel =>
            refine ⟨k + 1, nextFirst l fs, .slice (some ⟨g, 0, none⟩) (k + 1) cap, by go_num, by have := HKD.out; omega, HLEN2.out, HGO.out.trans (by rfl), ?_, ?_, ?_⟩
            · exact HST2.out.kept rfl rfl rfl (by simp) (fun b hb _ => Below.heap_setCell _ _ _ _ (by show b ≠ g; omega))
            · exact (Below.heap_setCell _ _ _ _ (by show sm + 1 ≠ g; omega)).trans HRW2.out
            · rw [HNX.out]; exact HFIN.out
        · have hnx := first_none HFL.out (by rw [← HNK.out]; exact h0)
          have HNX := Lib.hid hnx
          have hz9 : ¬ (0 : Int) < (n.kids.length : Int) := by omega
          clear hnx hst2 hrw2 hown2 hsame HF hW1 hlen2 t8 q6 f1 hz hwrs
          go_wp2_with fail
          go_roundg gk
          case measure => omega
          case rel =>
            exact ⟨k + 1, nextFirst l fs, .slice (some ⟨g, 0, none⟩) (k + 1) cap, by go_num, by have := HKD.out; omega, HLEN2.out, HGO.out.trans (by rfl), HST2.out, HRW2.out, by rw [HNX.out]; exact HOWN2.out⟩
end Go.Proofs.Ytmaepljmefdhkaa
