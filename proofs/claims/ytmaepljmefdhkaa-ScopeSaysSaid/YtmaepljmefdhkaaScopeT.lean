import Derived.Test.YtmaepljmefdhkaaScopeS
namespace Go.Proofs.Ytmaepljmefdhkaa
open Go.RowKit Go.Maps
set_option maxHeartbeats 2000000
set_option maxRecDepth 100000

theorem body_ok {l : List Nd} (hw : Wf l) (first : List Int) (f : Nat) {op : List Int} {b : Int} {ps : List Int} {st : St} {j : Nat} (hj : j < l.length) (hk : (nd l j).kind = 20) (h : Ok l op b ps st) : Ok l op b ps (bodyF l (nodeF l first f) j st) := by
  have h1 := hw.one j hj (by simp [hk])
  have hlast := Nat.lt_trans (kid_lt hw hj (k := (nd l j).kids.length - 1) (by omega)) hj
  exact all_ok (fun st k hk h => node_ok hw first f op b ps st k.toNat (by have := kids_in hw hlast hk; omega) h) _ (params_ok (fun k hk => by have := kids_in hw hj hk; omega) _ h)

/-- A prog's name, then what is in it: the closure that prog hands to within. -/
theorem prog1_any {C : Ctx} (hw : Wf C.l) {f : Nat} {op ps : List Int} {b : Int} (hnd : NodeDoes C f (op ++ [b]) ps) {w : World} {G : Nat → Nat} {st : St} {j : Nat} (hj : j < C.l.length) (hjf : j ≤ f) (hk : (nd C.l j).kind = 20) (h : Rep C w G st) (hok : Ok C.l op b ps st) (hlen : op.length ≤ 8589934580) (B2 B3 B4 : Nat)
    (g2 : B2 < w.heap.size ∧ G B2 = 0) (g3 : B3 < w.heap.size ∧ G B3 = 0) (g4 : B4 < w.heap.size ∧ G B4 = 0)
    (h2 : w.cell? ⟨B2, 0, none⟩ = some (.pointer (some ⟨C.wk, 0, none⟩))) (h3 : w.cell? ⟨B3, 0, none⟩ = some (.int .i64 j)) (h4 : w.cell? ⟨B4, 2, none⟩ = some (.slice (nd C.l j).kA (nd C.l j).kids.length (nd C.l j).kc)) :
    Calls Try.prog 194 #[.pointer (some ⟨B2, 0, none⟩), .pointer (some ⟨B3, 0, none⟩), .pointer (some ⟨B4, 0, none⟩)] w fun e w' => e = .returned (.tuple #[]) ∧ ∃ G', Rep C w' G' (withinF (bodyF C.l (nodeF C.l C.first f) j) (declareF C.l st j)) ∧ Stp G w G' w' := by
  have HD := Lib.hid (declare_any h j hj (by have := hok.good.len (nameL C.l j); simp at this; omega))
  have HOK := Lib.hid (hok.declare hj)
  have HND := Lib.hid hnd
  clear h hok hnd
  go_enter Try.func194, Try.ntmps194
  go_wp2_with fail
  refine HD.out.mono ?_
  rintro e w1 ⟨rfl, G1, hR, hS⟩
  have h2' : w1.cell? ⟨B2, 0, none⟩ = some (.pointer (some ⟨C.wk, 0, none⟩)) := (hS.cell g2.1 g2.2).trans h2
  have HR := Lib.hid hR
  have HS := Lib.hid hS
  clear hR hS HD
  have he : Ok C.l (op ++ [b]) (enterF (declareF C.l st j)).block ps (enterF (declareF C.l st j)) := ⟨HOK.out.good.enter, rfl, HOK.out.prg⟩
  have HE := Lib.hid he
  clear he
  have HW := Lib.hid (within_any HR.out 195 #[.pointer (some ⟨B4, 0, none⟩), .pointer (some ⟨B2, 0, none⟩)] (fun w => by rfl) (st2 := bodyF C.l (nodeF C.l C.first f) j (enterF (declareF C.l st j)))
    (fun w2 hR2 hS2 => prog11_any hw HND.out hj hjf hk hR2 HE.out (by simp; omega) B2 B4 ⟨Nat.lt_of_lt_of_le (Nat.lt_of_lt_of_le g2.1 HS.out.size) hS2.size, (HS.out.own _ g2.1).trans g2.2⟩ ⟨Nat.lt_of_lt_of_le (Nat.lt_of_lt_of_le g4.1 HS.out.size) hS2.size, (HS.out.own _ g4.1).trans g4.2⟩
      ((hS2.cell (Nat.lt_of_lt_of_le g2.1 HS.out.size) ((HS.out.own _ g2.1).trans g2.2)).trans h2') ((hS2.cell (Nat.lt_of_lt_of_le g4.1 HS.out.size) ((HS.out.own _ g4.1).trans g4.2)).trans ((HS.out.cell g4.1 g4.2).trans h4)))
    (fun s => by have := (body_ok hw C.first f hj hk HE.out).good.len s; simp at this; omega))
  go_wp2_with fail
  refine HW.out.mono ?_
  rintro e w3 ⟨rfl, G3, hR3, hS3⟩
  have HF := Lib.hid (And.intro hR3 (HS.out.trans hS3))
  clear hR3 hS3
  go_wp2_with fail
  go_end0
  exact ⟨rfl, G3, HF.out.1, HF.out.2⟩
end Go.Proofs.Ytmaepljmefdhkaa
