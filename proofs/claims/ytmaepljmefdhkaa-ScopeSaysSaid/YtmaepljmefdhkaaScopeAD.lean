import Derived.Test.YtmaepljmefdhkaaScopeAA
namespace Go.Proofs.Ytmaepljmefdhkaa
open Go.RowKit Go.Maps
set_option maxHeartbeats 4000000
set_option maxRecDepth 100000
/-- scope.Names, for every list of nodes. -/
theorem names_any (LA : Option Addr) (lc : Nat) (l : List Nd) (w : World) (hl : NodesAt w LA l) : Calls Try.prog 24 #[.slice LA l.length lc] w (NamesPost l w) := by
  by_cases hc : (checkF l).2 = 0
  · exact names_x LA lc l w hl hc
  · refine (names_fault LA lc l w hl hc).mono ?_
    rintro e w' ⟨rfl, hb⟩
    exact names_post_fault (by rw [namesF, if_pos hc]) hb
end Go.Proofs.Ytmaepljmefdhkaa
