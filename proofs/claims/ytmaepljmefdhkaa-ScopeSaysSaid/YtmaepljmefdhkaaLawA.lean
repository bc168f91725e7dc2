import Derived.Test.YtmaepljmefdhkaaScopeAD
namespace Go.Proofs.Ytmaepljmefdhkaa
open Go.RowKit Go.Maps
set_option maxHeartbeats 4000000
set_option maxRecDepth 100000
def sh1 (nm : ByteArray) (A1 A2 : Option Addr) : List Nd := [⟨13, 8, [], nm, 0, none, 0⟩, ⟨31, 0, [0], ⟨#[120]⟩, 0, A1, 1⟩, ⟨46, 0, [1], ⟨#[]⟩, 0, A2, 1⟩]
theorem sh1_names (A1 A2 : Option Addr) : namesF (sh1 ⟨#[120]⟩ A1 A2) = (([], []), 8, 51) := by kernel_rfl
theorem sh2_names (A1 A2 : Option Addr) : namesF (sh1 bIn A1 A2) = (([-2, -1, -1], [[], [], []]), 0, 0) := by kernel_rfl
theorem sh3_names : namesF [] = (([], []), 0, 25) := by kernel_rfl
def shRow (nm : ByteArray) (g1 g2 : Nat) : Array Value :=
  #[.int .i64 13, .int .i64 8, .slice none 0 0, .string nm, .int .i64 0, .int .i64 31, .int .i64 0, .slice (some ⟨g1, 0, none⟩) 1 1, .string ⟨#[120]⟩, .int .i64 0, .int .i64 46, .int .i64 0, .slice (some ⟨g2, 0, none⟩) 1 1, .string ⟨#[]⟩, .int .i64 0]
theorem sh_nodes {W : World} {g g1 g2 : Nat} {nm : ByteArray} (hn : nm.size ≤ big) (h : W.heap[g]? = some (.cells (shRow nm g1 g2) 33 (0, 0))) (h1 : W.heap[g1]? = some (.cells #[.int .i64 0] 3 (0, 0))) (h2 : W.heap[g2]? = some (.cells #[.int .i64 1] 3 (0, 0))) :
    NodesAt W (some ⟨g, 0, none⟩) (sh1 nm (some ⟨g1, 0, none⟩) (some ⟨g2, 0, none⟩)) := by
  have hc : ∀ i, W.cell? ⟨g, i, none⟩ = (shRow nm g1 g2)[i]? := fun i => cell_of_row W g i _ _ _ h
  have one : ∀ {b : Nat} {x : Int}, W.heap[b]? = some (.cells #[.int .i64 x] 3 (0, 0)) → IntsAt W (some ⟨b, 0, none⟩) [x] := fun {b x} hb i hi => by
    obtain rfl : i = 0 := by simp at hi; omega
    exact ⟨b, 0, rfl, by rw [cell_of_row W b _ _ _ _ hb]; rfl⟩
  refine ⟨by show 3 ≤ big; unfold big; omega, fun i hi => ⟨g, 0, rfl, ?_⟩⟩
  have hi' : i < 3 := hi
  rcases i with _ | _ | _ | i
  · exact ⟨hc 0, hc 1, hc 2, hc 3, hc 4, Nat.zero_le _, hn, fun j hj => absurd hj (Nat.not_lt_zero _)⟩
  · exact ⟨hc 5, hc 6, hc 7, hc 8, hc 9, by show 1 ≤ big; unfold big; omega, by show 1 ≤ big; unfold big; omega, one h1⟩
  · exact ⟨hc 10, hc 11, hc 12, hc 13, hc 14, by show 1 ≤ big; unfold big; omega, Nat.zero_le _, one h2⟩
  · omega
theorem cell_two {w : World} {a : Addr} {v : Value} (h : w.cell? a = some v) : ∀ o1 o2, ((w.alloc o1).alloc o2).cell? a = some v := fun o1 o2 => by
  have hb := block_lt_of_cell h
  rw [World.cell?_alloc_lt _ _ _ (by simp; omega), World.cell?_alloc_lt _ _ _ hb]
  exact h
theorem shown_any (w : World) : Calls Try.prog 23 #[] w fun e w' => e = .returned (.bool true) ∧ Below w.heap.size w w' := by
  go_enter Try.func23, Try.ntmps23
  go_wp2_with fail
  have hk := blk3 w (.cells #[.int .i64 0] 3) (.cells #[.int .i64 1] 3) (.cells (shRow ⟨#[120]⟩ w.heap.size (w.heap.size + 1)) 33)
  have hb0 : Below w.heap.size w (((w.alloc (.cells #[.int .i64 0] 3)).alloc (.cells #[.int .i64 1] 3)).alloc (.cells (shRow ⟨#[120]⟩ w.heap.size (w.heap.size + 1)) 33)) := (((Below.refl _ _).alloc (Nat.le_refl _) _ |>.alloc (by simp) _).alloc (by simp; omega) _)
  have hs0 : (((w.alloc (.cells #[.int .i64 0] 3)).alloc (.cells #[.int .i64 1] 3)).alloc (.cells (shRow ⟨#[120]⟩ w.heap.size (w.heap.size + 1)) 33)).heap.size = w.heap.size + 3 := by simp
  obtain ⟨W0, hW0⟩ : ∃ W0, W0 = (((w.alloc (.cells #[.int .i64 0] 3)).alloc (.cells #[.int .i64 1] 3)).alloc (.cells (shRow ⟨#[120]⟩ w.heap.size (w.heap.size + 1)) 33)) := ⟨_, rfl⟩
  change (W0 = ((w.alloc (.cells #[.int .i64 0] 3)).alloc (.cells #[.int .i64 1] 3)).alloc (.cells #[.int .i64 13, .int .i64 8, .slice none 0 0, .string ⟨#[120]⟩, .int .i64 0, .int .i64 31, .int .i64 0, .slice (some ⟨w.heap.size, 0, none⟩) 1 1, .string ⟨#[120]⟩, .int .i64 0, .int .i64 46, .int .i64 0, .slice (some ⟨w.heap.size + 1, 0, none⟩) 1 1, .string ⟨#[]⟩, .int .i64 0] 33)) at hW0
  rw [← hW0]
  change W0 = ((w.alloc (.cells #[.int .i64 0] 3)).alloc (.cells #[.int .i64 1] 3)).alloc (.cells (shRow ⟨#[120]⟩ w.heap.size (w.heap.size + 1)) 33) at hW0
  obtain ⟨k1, k2, k3⟩ : W0.heap[w.heap.size]? = some (.cells #[.int .i64 0] 3 (0, 0)) ∧ W0.heap[w.heap.size + 1]? = some (.cells #[.int .i64 1] 3 (0, 0)) ∧ W0.heap[w.heap.size + 1 + 1]? = some (.cells (shRow ⟨#[120]⟩ w.heap.size (w.heap.size + 1)) 33 (0, 0)) := by rw [hW0]; exact hk
  rw [← hW0] at hb0 hs0
  clear hk hW0
  refine (names_any _ _ (sh1 ⟨#[120]⟩ (some ⟨w.heap.size, 0, none⟩) (some ⟨w.heap.size + 1, 0, none⟩)) W0 (sh_nodes (by unfold big; decide) k3 k1 k2)).mono ?_
  rintro e w1 ⟨rV, fV, rfl, hN, hB⟩
  rw [sh1_names] at hN ⊢
  obtain ⟨⟨A1, c1, rfl, -⟩, ⟨A2, c2, rfl, -⟩, -, -, -⟩ := hN
  have b1 := (hB.block _ (by omega)).trans k1
  have b2 := (hB.block _ (by omega)).trans k2
  have b3 := (hB.block _ (by omega)).trans k3
  have hbw := hb0.trans (hB.mono (by omega))
  have hsz : w.heap.size + 3 ≤ w1.heap.size := by have := hB.size; omega
  have c3 : w1.cell? ⟨w.heap.size + 1 + 1, 3, none⟩ = some (.string ⟨#[120]⟩) := by rw [cell_of_row w1 _ 3 _ _ _ b3]; rfl
  have y3 := frozen_of_row w1 _ 3 _ _ b3
  have B1 := Lib.hid b1
  have B2 := Lib.hid b2
  have B3 := Lib.hid b3
  have HBW := Lib.hid hbw
  have HSZ := Lib.hid hsz
  clear b1 b2 b3 hbw hB k1 k2 k3 hb0 hs0
  have c3a : ∀ o1 o2, ((w1.alloc o1).alloc o2).cell? ⟨w.heap.size + 1 + 1, 3, none⟩ = some (.string ⟨#[120]⟩) := fun o1 o2 => (World.cell?_alloc_lt _ _ _ (by simp; omega)).trans ((World.cell?_alloc_lt _ _ _ (by show w.heap.size + 1 + 1 < w1.heap.size; omega)).trans c3)
  have y3a : ∀ o1 o2, ((w1.alloc o1).alloc o2).frozen? ⟨w.heap.size + 1 + 1, 3, none⟩ = false := fun o1 o2 => frozen_of_row _ _ 3 _ _ ((Below.heap_alloc _ _ _ (by simp; omega)).trans ((Below.heap_alloc _ _ _ (by omega)).trans B3.out))
  clear c3 y3 hsz
  go_wp2_with fail
  clear c3a y3a
  have hW : ∃ W, W = ((w1.alloc (.cells #[.slice A1 0 c1, .slice A2 0 c2] 39)).alloc (.cells #[.int .i64 8, .int .i64 51] 42)).setCell ⟨w.heap.size + 1 + 1, 3, none⟩ (.string ⟨#[105, 110, 112, 117, 116]⟩) := ⟨_, rfl⟩
  obtain ⟨W, hW⟩ := hW
  change W = ((w1.alloc (.cells #[.slice A1 0 c1, .slice A2 0 c2] 39)).alloc (.cells #[.int .i64 8, .int .i64 51] 42)).setCell ⟨w.heap.size + 1 + 1, 3, none⟩ (.string ⟨#[105, 110, 112, 117, 116]⟩) at hW
  rw [← hW]
  have hall : ∀ b, b < w1.heap.size → b ≠ w.heap.size + 1 + 1 → W.heap[b]? = w1.heap[b]? := fun b hb hne => by
    rw [hW, Below.heap_setCell _ _ _ _ hne]
    exact (Below.heap_alloc _ _ _ (by simp; omega)).trans (Below.heap_alloc _ _ _ hb)
  have s0 := HSZ.out
  have e1 := (hall w.heap.size (by omega) (by omega)).trans B1.out
  have e2 := (hall (w.heap.size + 1) (by omega) (by omega)).trans B2.out
  have e3 : W.heap[w.heap.size + 1 + 1]? = some (.cells (shRow bIn w.heap.size (w.heap.size + 1)) 33 (0, 0)) := by
    rw [hW, heap_setCell_same _ _ _ _ _ _ ((Below.heap_alloc _ _ _ (by simp; omega)).trans ((Below.heap_alloc _ _ _ (by omega)).trans B3.out))]
    rfl
  have e5 : W.heap[w1.heap.size + 1]? = some (.cells #[.int .i64 8, .int .i64 51] 42 (0, 0)) := by
    rw [hW, Below.heap_setCell _ _ _ _ (by show w1.heap.size + 1 ≠ w.heap.size + 1 + 1; omega)]
    have := heap_alloc_new (w1.alloc (.cells #[.slice A1 0 c1, .slice A2 0 c2] 39)) (.cells #[.int .i64 8, .int .i64 51] 42)
    rw [World.size_alloc] at this
    exact this
  have hbW : Below w.heap.size w W := by
    rw [hW]
    exact ((HBW.out.alloc (by omega) _).alloc (by simp; omega) _).setCell (by show w.heap.size ≤ w.heap.size + 1 + 1; omega) _
  have hsW : W.heap.size = w1.heap.size + 2 := by rw [hW]; simp
  have E5 := Lib.hid e5
  have HBW2 := Lib.hid hbW
  have HSW := Lib.hid hsW
  clear hall hW e5 hbW
  refine (names_any _ _ (sh1 bIn (some ⟨w.heap.size, 0, none⟩) (some ⟨w.heap.size + 1, 0, none⟩)) W (sh_nodes (by unfold big; decide) e3 e1 e2)).mono ?_
  rintro e w2 ⟨rV, fV, rfl, hN, hB⟩
  rw [sh2_names] at hN ⊢
  obtain ⟨⟨A3, c3, rfl, hA3⟩, ⟨A4, c4, rfl, -⟩, -, -, -⟩ := hN
  obtain ⟨b3, o3, rfl, x0⟩ := hA3 0 (by simp)
  obtain ⟨b3', o3', e3', x1⟩ := hA3 1 (by simp)
  obtain ⟨rfl, rfl⟩ : b3 = b3' ∧ o3 = o3' := by simpa using e3'
  have x0 : w2.cell? ⟨b3, o3, none⟩ = some (.int .i64 (-2)) := x0
  have x1 : w2.cell? ⟨b3, o3 + 1, none⟩ = some (.int .i64 (-1)) := x1
  have f5 := (hB.block _ (by omega)).trans E5.out
  have hb2 := HBW2.out.trans (hB.mono HBW2.out.size)
  have F5 := Lib.hid f5
  have HB2 := Lib.hid hb2
  have hs2 : w1.heap.size + 2 ≤ w2.heap.size := by have := hB.size; omega
  have HS2 := Lib.hid hs2
  clear f5 hb2 hB e1 e2 e3 e3' hsW hA3 hs2
  go_wp2_with fail
  have hV : ∃ V, V = (w2.alloc (.cells #[.slice (some ⟨b3, o3, none⟩) 3 c3, .slice A4 3 c4] 39)).alloc (.cells #[.int .i64 0, .int .i64 0] 42) := ⟨_, rfl⟩
  obtain ⟨V, hV⟩ := hV
  rw [← hV]
  have hallV : ∀ b, b < w2.heap.size → V.heap[b]? = w2.heap[b]? := fun b hb => by
    rw [hV]
    exact (Below.heap_alloc _ _ _ (by simp; omega)).trans (Below.heap_alloc _ _ _ hb)
  have h2s := HS2.out
  have v5 := (hallV (w1.heap.size + 1) (by omega)).trans F5.out
  have v4 : V.heap[w2.heap.size]? = some (.cells #[.slice (some ⟨b3, o3, none⟩) 3 c3, .slice A4 3 c4] 39 (0, 0)) := by
    rw [hV]
    exact (Below.heap_alloc _ _ _ (by simp)).trans (heap_alloc_new w2 _)
  have v6 : V.heap[w2.heap.size + 1]? = some (.cells #[.int .i64 0, .int .i64 0] 42 (0, 0)) := by
    rw [hV]
    have := heap_alloc_new (w2.alloc (.cells #[.slice (some ⟨b3, o3, none⟩) 3 c3, .slice A4 3 c4] 39)) (.cells #[.int .i64 0, .int .i64 0] 42)
    rw [World.size_alloc] at this
    exact this
  have z0 : V.cell? ⟨b3, o3, none⟩ = some (.int .i64 (-2)) := (World.cell?_of_block (a := ⟨b3, o3, none⟩) (hallV b3 (block_lt_of_cell x0))).trans x0
  have z1 : V.cell? ⟨b3, o3 + 1, none⟩ = some (.int .i64 (-1)) := (World.cell?_of_block (a := ⟨b3, o3 + 1, none⟩) (hallV b3 (block_lt_of_cell x0))).trans x1
  have hbV : Below w.heap.size w V := by rw [hV]; exact (HB2.out.alloc HB2.out.size _).alloc (by simp; have := HB2.out.size; omega) _
  clear hallV hV x0 x1
  refine (names_any none 0 [] V ⟨by simp [big], fun i hi => by simp at hi⟩).mono ?_
  rintro e w4 ⟨rV, fV, rfl, hN, hB⟩
  rw [sh3_names] at hN ⊢
  obtain ⟨⟨A5, c5, rfl, -⟩, ⟨A6, c6, rfl, -⟩, -, -, -⟩ := hN
  have lt5 := (Array.getElem?_eq_some_iff.1 v5).1
  have lt4 := (Array.getElem?_eq_some_iff.1 v4).1
  have lt6 := (Array.getElem?_eq_some_iff.1 v6).1
  obtain ⟨⟨p1, p2⟩, -⟩ := cells2 ((hB.block _ lt5).trans v5)
  obtain ⟨⟨p3, p4⟩, -⟩ := cells2 ((hB.block _ lt4).trans v4)
  obtain ⟨⟨p5, p6⟩, -⟩ := cells2 ((hB.block _ lt6).trans v6)
  have u0 := cell_below z0 hB
  have u1 := cell_below z1 hB
  have hbF := hbV.trans (hB.mono hbV.size)
  have HBF := Lib.hid hbF
  replace p1 := cell_two p1; replace p2 := cell_two p2; replace p3 := cell_two p3; replace p4 := cell_two p4; replace p5 := cell_two p5; replace p6 := cell_two p6; replace u0 := cell_two u0; replace u1 := cell_two u1
  clear z0 z1 v4 v5 v6 hB hbV hbF
  go_wp2_with fail
  go_ret
  exact ⟨rfl, (HBF.out.alloc HBF.out.size _).alloc (by simp; have := HBF.out.size; omega) _⟩
end Go.Proofs.Ytmaepljmefdhkaa
