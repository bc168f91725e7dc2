import Derived.Test.YtmaepljmefdhkaaScopeW
namespace Go.Proofs.Ytmaepljmefdhkaa
open Go.RowKit Go.Maps
set_option maxHeartbeats 8000000
set_option maxRecDepth 100000

/-- All statements of the program: the closure that Names hands to within. -/
theorem names1_any {C : Ctx} (hw : Wf C.l) {f : Nat} {op ps : List Int} (hnd : NodeDoes C f op ps) {b : Int} {w : World} {G : Nat → Nat} {st : St} {m : Nat} (hm : C.l.length = m + 1) (hmf : m ≤ f) (h : Rep C w G st) (hok : Ok C.l op b ps st) (B6 B1 : Nat)
    (h6 : w.cell? ⟨B6, 0, none⟩ = some (.pointer (some ⟨C.wk, 0, none⟩))) (h1 : w.cell? ⟨B1, 0, none⟩ = some (.slice C.LA C.l.length C.lc)) :
    Calls Try.prog 72 #[.pointer (some ⟨B6, 0, none⟩), .pointer (some ⟨B1, 0, none⟩)] w fun e w' => e = .returned (.tuple #[]) ∧ ∃ G', Rep C w' G' (allF (nodeF C.l C.first f) (nd C.l m).kids st) ∧ Stp G w G' w' := by
  obtain ⟨bb, o, hA, hn⟩ := h.nodesAt.node m (by omega)
  have n2 := hn.kids
  rw [hA, hm] at h1
  have hbig := big_le h.nodes.size
  rw [hm] at hbig
  have hz1 : (0 : Int) ≤ (m : Int) := by omega
  have hz2 : (m : Int) < (m : Int) + 1 := by omega
  have hwr : IntKind.i64.wrap (m : Int) = (m : Int) := IntWalk.i64_in _ (by omega)
  have HX := Lib.hid (nodeKids_any hw hnd (show m < C.l.length by omega) hmf h.drew hok)
  have HM := Lib.hid hm
  clear h hok hnd hn hm
  go_enter Try.func72, Try.ntmps72
  go_wp2_with fail
  go_still_tail 8, (by kernel_rfl)
  clear hwr
  go_wp2_with fail
  refine HX.out.mono ?_
  rintro e w1 ⟨rfl, G1, hR, hS⟩
  have HF := Lib.hid (And.intro hR ((Stp.refl G w).drew.trans hS))
  clear hR hS
  go_wp2_with fail
  go_end0
  exact ⟨rfl, G1, HF.out.1, HF.out.2⟩
end Go.Proofs.Ytmaepljmefdhkaa
