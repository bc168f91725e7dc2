import Derived.Test.YtmaepljmefdhkaaScopeQ
import Derived.StillTailTactics
namespace Go.Proofs.Ytmaepljmefdhkaa
open Go.RowKit Go.Maps
set_option maxHeartbeats 2000000
set_option maxRecDepth 100000

/-- What is received, and the block behind it: the closure that node hands to within. -/
theorem node2_any {C : Ctx} (hw : Wf C.l) {f : Nat} {op ps : List Int} (hnd : NodeDoes C f op ps) {b : Int} {w : World} {G : Nat → Nat} {st : St} {j : Nat} (hj : j < C.l.length) (hjf : j ≤ f) (hk : (nd C.l j).kind = 43) (h : Rep C w G st) (hok : Ok C.l op b ps st) (hlen : op.length ≤ 8589934592) (B2 B3 B4 : Nat)
    (g2 : B2 < w.heap.size ∧ G B2 = 0) (g3 : B3 < w.heap.size ∧ G B3 = 0) (g4 : B4 < w.heap.size ∧ G B4 = 0)
    (h2 : w.cell? ⟨B2, 0, none⟩ = some (.pointer (some ⟨C.wk, 0, none⟩))) (h3 : w.cell? ⟨B3, 0, none⟩ = some (.int .i64 j)) (h4 : w.cell? ⟨B4, 2, none⟩ = some (.slice (nd C.l j).kA (nd C.l j).kids.length (nd C.l j).kc)) :
    Calls Try.prog 151 #[.pointer (some ⟨B2, 0, none⟩), .pointer (some ⟨B3, 0, none⟩), .pointer (some ⟨B4, 0, none⟩)] w fun e w' => e = .returned (.tuple #[]) ∧ ∃ G', Rep C w' G' (allF (nodeF C.l C.first f) (nd C.l (kid C.l j 1)).kids (declareF C.l st j)) ∧ Stp G w G' w' := by
  have HD := Lib.hid (declare_any h j hj (by have := hok.good.len (nameL C.l j); simp at this; omega))
  have HOK := Lib.hid (hok.declare hj)
  have HND := Lib.hid hnd
  have h1 := hw.two j hj hk
  have hkl := kid_lt hw hj (k := 1) (by omega)
  clear h hok hnd
  go_enter Try.func151, Try.ntmps151
  go_wp2_with fail
  refine HD.out.mono ?_
  rintro e w1 ⟨rfl, G1, hR, hS⟩
  have h2' : w1.cell? ⟨B2, 0, none⟩ = some (.pointer (some ⟨C.wk, 0, none⟩)) := (hS.cell g2.1 g2.2).trans h2
  have h4' : w1.cell? ⟨B4, 2, none⟩ = some (.slice (nd C.l j).kA (nd C.l j).kids.length (nd C.l j).kc) := (hS.cell g4.1 g4.2).trans h4
  obtain ⟨pv, hc, _⟩ := hR.cells
  obtain ⟨bb, o, hA, hn⟩ := hR.nodesAt.node j hj
  obtain ⟨bb', o', hA', hn'⟩ := hR.nodesAt.node (kid C.l j 1) (by omega)
  obtain ⟨rfl, rfl⟩ : bb = bb' ∧ o = o' := by rw [hA] at hA'; simpa using hA'
  have c0 : w1.cell? ⟨C.wk, 0, none⟩ = some (.slice (some ⟨bb, o, none⟩) C.l.length C.lc) := hA ▸ hc 0
  obtain ⟨b2, o2, hA2, hx⟩ := hn.row 1 (by omega)
  rw [hA2] at h4'
  have hke : gi (nd C.l j).kids 1 = (kid C.l j 1 : Nat) := (Int.toNat_of_nonneg (hw.down j hj 1 (by omega)).1).symm
  rw [hke] at hx
  have n2 := hn'.kids
  have hm : kid C.l j 1 < C.l.length := by omega
  obtain ⟨m, hmm⟩ : ∃ m, m = kid C.l j 1 := ⟨_, rfl⟩
  rw [← hmm] at hx n2 hm hkl
  have HMM := Lib.hid hmm
  have hbig := big_le hR.nodes.size
  have hm' : (m : Int) < C.l.length := by omega
  have h1' : (1 : Int) < (nd C.l j).kids.length := by omega
  have HR := Lib.hid hR
  have HS := Lib.hid hS
  clear hR hS hc hn hn' hA hA' hke HD hmm
  go_wp2_with fail
  go_still_tail 12, (by kernel_rfl)
  go_wp2_with (go_at_call 73; refine (nodeKids_any hw HND.out hm (by omega) HR.out.drew HOK.out).mono ?_; rintro e w2 ⟨rfl, G2, hR2, hS2⟩; have HF := Lib.hid (And.intro hR2 hS2); clear hR2 hS2)
  go_end0
  exact ⟨rfl, G2, by rw [← HMM.out]; exact HF.out.1, (HS.out.drew).trans HF.out.2⟩
end Go.Proofs.Ytmaepljmefdhkaa
