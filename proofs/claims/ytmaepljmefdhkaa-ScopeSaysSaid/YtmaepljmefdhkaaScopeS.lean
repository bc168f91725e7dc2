import Derived.Test.YtmaepljmefdhkaaScopeR
namespace Go.Proofs.Ytmaepljmefdhkaa
open Go.RowKit Go.Maps
set_option maxHeartbeats 2000000
set_option maxRecDepth 100000

/-- A prog's parameters, then its body: the innermost closure. -/
theorem prog11_any {C : Ctx} (hw : Wf C.l) {f : Nat} {op ps : List Int} (hnd : NodeDoes C f op ps) {b : Int} {w : World} {G : Nat → Nat} {st : St} {j : Nat} (hj : j < C.l.length) (hjf : j ≤ f) (hk : (nd C.l j).kind = 20) (h : Rep C w G st) (hok : Ok C.l op b ps st) (hlen : op.length ≤ 8589934592) (B2 B4 : Nat)
    (g2 : B2 < w.heap.size ∧ G B2 = 0) (g4 : B4 < w.heap.size ∧ G B4 = 0)
    (h2 : w.cell? ⟨B2, 0, none⟩ = some (.pointer (some ⟨C.wk, 0, none⟩))) (h4 : w.cell? ⟨B4, 2, none⟩ = some (.slice (nd C.l j).kA (nd C.l j).kids.length (nd C.l j).kc)) :
    Calls Try.prog 195 #[.pointer (some ⟨B4, 0, none⟩), .pointer (some ⟨B2, 0, none⟩)] w fun e w' => e = .returned (.tuple #[]) ∧ ∃ G', Rep C w' G' (bodyF C.l (nodeF C.l C.first f) j st) ∧ Stp G w G' w' := by
  have h1 := hw.one j hj (by simp [hk])
  have H := Lib.hid h
  have HOK := Lib.hid hok
  have HND := Lib.hid hnd
  have hm0 := (h.nodesAt.node j hj)
  obtain ⟨b0, o0, _, hn0⟩ := hm0
  have hbk := big_le hn0.many
  obtain ⟨A, hAe⟩ : ∃ A, A = (nd C.l j).kA := ⟨_, rfl⟩
  rw [← hAe] at h4
  have HAE := Lib.hid hAe
  clear h hok hnd hn0 hAe
  go_enter Try.func195, Try.ntmps195
  go_wp2_with fail
  go_loopg [7] (nd C.l j).kids.length (fun gk v wr => ∃ (k : Nat) (st' : St) (G' : Nat → Nat), v = .int .i64 k ∧ k + gk = (nd C.l j).kids.length ∧ Rep C wr G' st' ∧ Stp G w G' wr ∧ Ok C.l op b ps st' ∧ (nd C.l j).kids.foldl (declParam C.l) st = ((nd C.l j).kids.drop k).foldl (declParam C.l) st')
  case atStart => exact ⟨0, st, G, rfl, by omega, H.out, Stp.refl _ _, HOK.out, by simp⟩
  case round =>
    obtain ⟨k, st', G', rfl, hkd, hR, hS, hO, hfold⟩ := hrel
    have h2' : wr.cell? ⟨B2, 0, none⟩ = some (.pointer (some ⟨C.wk, 0, none⟩)) := (hS.cell g2.1 g2.2).trans h2
    have h4' : wr.cell? ⟨B4, 2, none⟩ = some (.slice A (nd C.l j).kids.length (nd C.l j).kc) := (hS.cell g4.1 g4.2).trans h4
    obtain ⟨pv, hc, _⟩ := hR.cells
    have c10 : wr.cell? ⟨C.wk, 10, none⟩ = some (.int .i64 st'.code) := hc 10
    have c00 : wr.cell? ⟨C.wk, 0, none⟩ = some (.slice C.LA C.l.length C.lc) := hc 0
    obtain ⟨bb, o, hA, hn⟩ := hR.nodesAt.node j hj
    have hbig := big_le hR.nodes.size
    have HR := Lib.hid hR
    have HS := Lib.hid hS
    have HO := Lib.hid hO
    have HF := Lib.hid hfold
    have HK := Lib.hid hkd
    rcases gk with _ | gk
    · obtain rfl : k = (nd C.l j).kids.length := by have := HK.out; omega
      obtain ⟨n1, hn1⟩ : ∃ n1, (nd C.l j).kids.length = n1 + 1 := ⟨(nd C.l j).kids.length - 1, by omega⟩
      obtain ⟨b2, o2, hA2, hx⟩ := hn.row n1 (by omega)
      rw [← HAE.out] at hA2
      subst hA2
      have hd := hw.down j hj n1 (by omega)
      obtain ⟨m, hmk⟩ : ∃ m : Nat, gi (nd C.l j).kids n1 = m := ⟨_, (Int.toNat_of_nonneg hd.1).symm⟩
      rw [hmk] at hx hd
      have hmN : m < C.l.length := by omega
      have hmj : m < j := by omega
      obtain ⟨bb', o', hA', hn'⟩ := hR.nodesAt.node m hmN
      have nk := hn'.kids
      have c0 : wr.cell? ⟨C.wk, 0, none⟩ = some (.slice (some ⟨bb', o', none⟩) C.l.length C.lc) := hA' ▸ c00
      have hm' : (m : Int) < C.l.length := by omega
      have hkid : kid C.l j ((nd C.l j).kids.length - 1) = m := by rw [hn1, Nat.add_sub_cancel]; unfold kid; rw [hmk]; simp
      have HKID := Lib.hid hkid
      have hfin : (nd C.l j).kids.foldl (declParam C.l) st = st' := by rw [HF.out, List.drop_of_length_le (Nat.le_refl _)]; rfl
      have HFIN := Lib.hid hfin
      rw [hn1] at h4'
      have hn1b : (n1 : Int) ≤ 2147483648 := by omega
      clear hR hS hO hfold hkd hc hA hn hn' hA' c00 hmk hkid hfin
      have hz1 : (0 : Int) ≤ (n1 : Int) := by omega
      have hz2 : (n1 : Int) < (n1 : Int) + 1 := by omega
      have hwr : IntKind.i64.wrap (n1 : Int) = (n1 : Int) := IntWalk.i64_in _ (by omega)
      go_wp2_with fail
      go_still_tail 16, (by kernel_rfl)
      clear hwr
      go_wp2_with (go_at_call 73; refine (nodeKids_any hw HND.out hmN (by omega) HR.out.drew HO.out).mono ?_; rintro e w2 ⟨rfl, G2, hR2, hS2⟩; have HFF := Lib.hid (And.intro hR2 hS2); clear hR2 hS2)
      go_end0
      exact ⟨rfl, G2, by unfold bodyF; rw [HKID.out, HFIN.out]; exact HFF.out.1, (HS.out.drew).trans HFF.out.2⟩
    · have hkk : k < (nd C.l j).kids.length := by omega
      obtain ⟨b2, o2, hA2, hx⟩ := hn.row k hkk
      rw [← HAE.out] at hA2
      subst hA2
      have hd := hw.down j hj k hkk
      obtain ⟨m, hmk⟩ : ∃ m : Nat, gi (nd C.l j).kids k = m := ⟨_, (Int.toNat_of_nonneg hd.1).symm⟩
      rw [hmk] at hx hd
      have hmN : m < C.l.length := by omega
      obtain ⟨bb', o', hA', hn'⟩ := hR.nodesAt.node m hmN
      have nk := hn'.kind
      have c0 : wr.cell? ⟨C.wk, 0, none⟩ = some (.slice (some ⟨bb', o', none⟩) C.l.length C.lc) := hA' ▸ c00
      have hm' : (m : Int) < C.l.length := by omega
      have hdrop : (nd C.l j).kids.drop k = (m : Int) :: (nd C.l j).kids.drop (k + 1) := by
        rw [List.drop_eq_getElem_cons hkk]
        congr 1
        rw [← hmk]; simp [gi, List.getD_eq_getElem?_getD, List.getElem?_eq_getElem hkk]
      have HF2 : Hid ((nd C.l j).kids.foldl (declParam C.l) st = ((nd C.l j).kids.drop (k + 1)).foldl (declParam C.l) (declParam C.l st' m)) := HF.out.trans (by rw [hdrop]; rfl)
      have HD := Lib.hid (declare_any hR m hmN (by have := hO.good.len (nameL C.l m); simp at this; omega))
      clear hR hS hO hfold hkd hc hA hn hn' hA' c00 hdrop hmk
      cases e1 : ((nd C.l m).kind == 42) with
      | false =>
        have hE : declParam C.l st' m = st' := by unfold declParam; rw [Int.toNat_natCast, if_neg (fun h => by rw [h.1] at e1; simp at e1)]
        have HE := Lib.hid hE
        clear hE
        go_wp2_with fail
        go_roundg gk
        case measure => omega
        case rel => exact ⟨k + 1, st', G', by go_num, by have := HK.out; omega, HR.out, HS.out, HO.out, by rw [HF2.out, HE.out]⟩
      | true =>
        cases e2 : (st'.code == 0) with
        | false =>
          have hE : declParam C.l st' m = st' := by unfold declParam; rw [Int.toNat_natCast, if_neg (fun h => by rw [h.2] at e2; simp at e2)]
          have HE := Lib.hid hE
          clear hE
          go_wp2_with fail
          go_roundg gk
          case measure => omega
          case rel => exact ⟨k + 1, st', G', by go_num, by have := HK.out; omega, HR.out, HS.out, HO.out, by rw [HF2.out, HE.out]⟩
        | true =>
          have hE : declParam C.l st' m = declareF C.l st' m := by unfold declParam; rw [Int.toNat_natCast, if_pos ⟨by simpa using e1, by simpa using e2⟩]
          have HE := Lib.hid hE
          clear hE
          go_wp2_with (go_at_call 148; refine HD.out.mono ?_; rintro e w1 ⟨rfl, G2, hR2, hS2⟩; have HR2 := Lib.hid (And.intro hR2 hS2); clear hR2 hS2)
          go_roundg gk
          case measure => omega
          case rel => exact ⟨k + 1, declareF C.l st' m, G2, by go_num, by have := HK.out; omega, HR2.out.1, HS.out.trans HR2.out.2, HO.out.declare hmN, by rw [HF2.out, HE.out]⟩
end Go.Proofs.Ytmaepljmefdhkaa
