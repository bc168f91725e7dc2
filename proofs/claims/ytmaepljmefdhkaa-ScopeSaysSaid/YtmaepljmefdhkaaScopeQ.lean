import Derived.Test.YtmaepljmefdhkaaScopeP
namespace Go.Proofs.Ytmaepljmefdhkaa
open Go.RowKit Go.Maps
set_option maxHeartbeats 2000000
set_option maxRecDepth 100000

/-- What node is shown to do, at some depth. -/
def NodeDoes (C : Ctx) (f : Nat) (op : List Int) (ps : List Int) : Prop :=
  ∀ (b : Int) (w : World) (G : Nat → Nat) (st : St) (i : Nat), i < f → i < C.l.length → Rep C w G st → Ok C.l op b ps st →
    Calls Try.prog 117 #[.pointer (some ⟨C.wk, 0, none⟩), .int .i64 i] w fun e w' => e = .returned (.tuple #[]) ∧ ∃ G', Rep C w' G' (nodeF C.l C.first f st i) ∧ Stp G w G' w'
/-- All kids of a node that stands below the depth. -/
theorem nodeKids_any {C : Ctx} (hw : Wf C.l) {f : Nat} {op ps : List Int} (hnd : NodeDoes C f op ps) {b : Int} {w : World} {G : Nat → Nat} {st : St} {j : Nat} (hj : j < C.l.length) (hjf : j ≤ f) (h : Rep C w G st) (hok : Ok C.l op b ps st) :
    Calls Try.prog 73 #[.pointer (some ⟨C.wk, 0, none⟩), .slice (nd C.l j).kA (nd C.l j).kids.length (nd C.l j).kc] w fun e w' => e = .returned (.tuple #[]) ∧ ∃ G', Rep C w' G' (allF (nodeF C.l C.first f) (nd C.l j).kids st) ∧ Stp G w G' w' := by
  obtain ⟨bb, o, hA, hn⟩ := h.nodes.node j hj
  refine (all_any (Ok C.l op b ps) (nodeF C.l C.first f) (nd C.l j).kids (nd C.l j).kA (nd C.l j).kc hn.many hn.row (fun k hk => (hw.down j hj k hk).1) (fun k hk w G st hR hI => ?_) h hok).mono ?_
  · have h1 := kid_lt hw hj hk
    unfold kid at h1
    refine (hnd b w G st _ (by omega) (by omega) hR hI).mono ?_
    rintro e w' ⟨rfl, G', h2, h3⟩
    exact ⟨rfl, G', h2, h3, node_ok hw _ _ _ _ _ _ _ (by omega) hI⟩
  · rintro e w' ⟨rfl, G', h2, h3, _⟩
    exact ⟨rfl, G', h2, h3⟩
/-- A block's statements: the closure that node hands to within. -/
theorem node1_any {C : Ctx} (hw : Wf C.l) {f : Nat} {op ps : List Int} (hnd : NodeDoes C f op ps) {b : Int} {w : World} {G : Nat → Nat} {st : St} {j : Nat} (hj : j < C.l.length) (hjf : j ≤ f) (h : Rep C w G st) (hok : Ok C.l op b ps st) (B2 B4 : Nat)
    (h2 : w.cell? ⟨B2, 0, none⟩ = some (.pointer (some ⟨C.wk, 0, none⟩))) (h4 : w.cell? ⟨B4, 2, none⟩ = some (.slice (nd C.l j).kA (nd C.l j).kids.length (nd C.l j).kc)) :
    Calls Try.prog 150 #[.pointer (some ⟨B2, 0, none⟩), .pointer (some ⟨B4, 0, none⟩)] w fun e w' => e = .returned (.tuple #[]) ∧ ∃ G', Rep C w' G' (allF (nodeF C.l C.first f) (nd C.l j).kids st) ∧ Stp G w G' w' := by
  have HK := Lib.hid (nodeKids_any hw hnd hj hjf h hok)
  clear h hok hnd
  go_enter Try.func150, Try.ntmps150
  go_wp2_with (go_at_call 73; refine HK.out.mono ?_; rintro e w1 ⟨rfl, G1, hR, hS⟩; have HF := Lib.hid (And.intro hR hS); clear hR hS)
  go_end0
  exact ⟨rfl, G1, HF.out.1, HF.out.2⟩
end Go.Proofs.Ytmaepljmefdhkaa
