import Derived.Test.YtmaepljmefdhkaaScopeX
import Derived.Test.YtmaepljmefdhkaaCheck1
namespace Go.Proofs.Ytmaepljmefdhkaa
open Go.RowKit Go.Maps
set_option maxHeartbeats 8000000
set_option maxRecDepth 100000

def bIn : ByteArray := ⟨#[105, 110, 112, 117, 116]⟩
def bOut : ByteArray := ⟨#[111, 117, 116, 112, 117, 116]⟩
theorem start_maps (w1 : World) : ∃ w2 w3 : World,
    (Instr.mapUpdate 112 (.map (some w1.heap.size)) (.string ⟨#[105, 110, 112, 117, 116]⟩) (.slice (some ⟨w1.heap.size + 1, 0, none⟩) 1 1)).run Try.prog ((w1.alloc (.map #[] 0)).alloc (.cells #[.int .i64 (-2), .int .i64 (-1)] 110)) = .ok () w2 ∧
    (Instr.mapUpdate 112 (.map (some w1.heap.size)) (.string ⟨#[111, 117, 116, 112, 117, 116]⟩) (.slice (some ⟨w2.heap.size, 0, none⟩) 1 1)).run Try.prog (w2.alloc (.cells #[.int .i64 (-3), .int .i64 (-1)] 110)) = .ok () w3 ∧
    Hid (w3.ownsMap Try.prog 9 RV w1.heap.size 2 (((DataW.map []).put (.string bIn.data.toList) (.held (.slice (some ⟨w1.heap.size + 1, 0, none⟩) 1 1))).put (.string bOut.data.toList) (.held (.slice (some ⟨w2.heap.size, 0, none⟩) 1 1)))) ∧
    w1.heap.size + 2 ≤ w2.heap.size ∧ w2.heap.size + 1 ≤ w3.heap.size ∧ Below w1.heap.size w1 w3 ∧
    Hid (w3.heap[w1.heap.size + 1]? = some (.cells #[.int .i64 (-2), .int .i64 (-1)] 110 (0, 0))) ∧ Hid (w3.heap[w2.heap.size]? = some (.cells #[.int .i64 (-3), .int .i64 (-1)] 110 (0, 0))) := by
  obtain ⟨w2, r1, o1, g1⟩ := ((World.ownsMap_made w1 Try.prog 9 RV).alloc (.cells #[.int .i64 (-2), .int .i64 (-1)] 110)).update law9 Try.underlying112 (by unfold maxLen; decide) (val := .slice (some ⟨w1.heap.size + 1, 0, none⟩) 1 1) (d := .held (.slice (some ⟨w1.heap.size + 1, 0, none⟩) 1 1)) (ps := []) (WideMaps.keyOf_string_mk (s := bIn) Try.underlying9 (by unfold maxLen bIn; decide)) rfl
  obtain ⟨w3, r2, o2, g2⟩ := (o1.alloc (.cells #[.int .i64 (-3), .int .i64 (-1)] 110)).update law9 Try.underlying112 (by unfold maxLen; decide) (val := .slice (some ⟨w2.heap.size, 0, none⟩) 1 1) (d := .held (.slice (some ⟨w2.heap.size, 0, none⟩) 1 1)) (ps := []) (WideMaps.keyOf_string_mk (s := bOut) Try.underlying9 (by unfold maxLen bOut; decide)) rfl
  have s1 := g1.size
  have s2 := g2.size
  simp only [World.size_alloc] at s1 s2
  have b1 : Below w1.heap.size w1 w3 := by
    refine ((((Below.refl _ _).alloc (Nat.le_refl _) _).alloc (by simp) _).grown g1 (by simp; omega) (fun k hk => ?_)).alloc (by omega) _ |>.grown g2 (by simp; omega) (fun k hk => ?_)
    · cases hk; exact Nat.le_refl _
    · cases hk; exact Nat.le_refl _
  refine ⟨w2, w3, r1, r2, Lib.hid o2, by omega, by omega, b1, Lib.hid ?_, Lib.hid ?_⟩
  · refine (g2.block _ (by simp; omega) (by simp)).trans ((Below.heap_alloc _ _ _ (by omega)).trans ((g1.block _ (by simp) (by simp)).trans ?_))
    have := heap_alloc_new (w1.alloc (.map #[] 0)) (.cells #[.int .i64 (-2), .int .i64 (-1)] 110)
    rw [World.size_alloc] at this
    exact this
  · refine (g2.block _ (by simp) (by simp; omega)).trans (heap_alloc_new w2 _)
end Go.Proofs.Ytmaepljmefdhkaa
