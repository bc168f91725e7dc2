import Derived.Test.YtmaepljmefdhkaaScan4
namespace Go.Proofs.Ytmaepljmefdhkaa
open Go.RowKit
set_option maxHeartbeats 1000000
set_option maxRecDepth 100000

/-- A token's variable. -/
def TokBlk (w : World) (g : Nat) (t : Tok) : Prop := w.heap[g]? = some (.cells #[.int .i64 t.kind, .int .i64 t.at_, .int .i64 t.len, .int .i64 t.num] 73 (0, 0))
theorem TokBlk.lt {w : World} {g : Nat} {t : Tok} (h : TokBlk w g t) : g < w.heap.size := (Array.getElem?_eq_some_iff.1 h).1
theorem TokBlk.cells {w : World} {g : Nat} {t : Tok} (h : TokBlk w g t) :
    w.cell? ⟨g, 0, none⟩ = some (.int .i64 t.kind) ∧ w.cell? ⟨g, 1, none⟩ = some (.int .i64 t.at_) ∧ w.cell? ⟨g, 2, none⟩ = some (.int .i64 t.len) ∧ w.cell? ⟨g, 3, none⟩ = some (.int .i64 t.num) ∧
    w.frozen? ⟨g, 0, none⟩ = false ∧ w.frozen? ⟨g, 1, none⟩ = false ∧ w.frozen? ⟨g, 2, none⟩ = false ∧ w.frozen? ⟨g, 3, none⟩ = false ∧ g < w.heap.size :=
  ⟨cell_of_row w g 0 _ _ _ h, cell_of_row w g 1 _ _ _ h, cell_of_row w g 2 _ _ _ h, cell_of_row w g 3 _ _ _ h, frozen_of_row w g 0 _ _ h, frozen_of_row w g 1 _ _ h, frozen_of_row w g 2 _ _ h, frozen_of_row w g 3 _ _ h, h.lt⟩
theorem TokBlk.new (w : World) (t : Tok) : TokBlk (w.alloc (.cells #[.int .i64 t.kind, .int .i64 t.at_, .int .i64 t.len, .int .i64 t.num] 73)) w.heap.size t := heap_alloc_new w _
theorem TokBlk.alloc {w : World} {g : Nat} {t : Tok} (h : TokBlk w g t) (o : Obj) : TokBlk (w.alloc o) g t := (Below.heap_alloc w o g h.lt).trans h
theorem TokBlk.below {w w' : World} {g : Nat} {t : Tok} (h : TokBlk w g t) (hb : Below w.heap.size w w') : TokBlk w' g t := (hb.block g h.lt).trans h
theorem TokBlk.num_ {w : World} {g : Nat} {t : Tok} (h : TokBlk w g t) (x : Int) : TokBlk (w.setCell ⟨g, 3, none⟩ (.int .i64 x)) g { t with num := x } := heap_setCell_same w g 3 _ _ _ h
theorem TokBlk.far {w : World} {g : Nat} {t : Tok} (h : TokBlk w g t) {p : Addr} (hp : g ≠ p.block) (u : Value) : TokBlk (w.setCell p u) g t := (Below.heap_setCell w p u g hp).trans h

def signFrom (l : List UInt8) : Nat → Tok × Int
  | 0 => (⟨0, 0, 0, 0⟩, 11)
  | n + 1 => if kindOf (strOf (l.take (n + 1))) != 0 then (⟨kindOf (strOf (l.take (n + 1))), 0, ((n + 1 : Nat) : Int), 0⟩, 0) else signFrom l n
def signF (l : List UInt8) : Tok × Int := signFrom l (min 3 l.length)

theorem int_eq {a b : Int} (h : a = b) : Value.int .i64 a = .int .i64 b := by rw [h]
theorem sign_any (A : Option Addr) (c : Nat) (l : List UInt8) (w : World) (hl : BytesAt w A l) (hm : l.length ≤ big) (hlc : l.length ≤ c) :
    Calls Try.prog 129 #[.slice A l.length c] w fun e w' => e = .returned (tokR (signF l).1 (signF l).2) ∧ Below w.heap.size w w' := by
  have hm' := big_le hm
  go_enter Try.func129, Try.ntmps129
  go_wp2_with fail
  all_goals
    go_loopg [4] (min 3 l.length) (fun j i wr => i = .int .i64 (j : Int) ∧ j ≤ min 3 l.length ∧ signF l = signFrom l j ∧ TokBlk wr w.heap.size ⟨0, 0, 0, 0⟩ ∧ Below w.heap.size w wr)
    case atStart => exact ⟨int_eq (by omega), Nat.le_refl _, rfl, TokBlk.new w ⟨0, 0, 0, 0⟩, below_one _ _⟩
    case round =>
      obtain ⟨rfl, hj, hx, hT, hbw⟩ := hrel
      have HX := Lib.hid hx
      have HT := Lib.hid hT
      have hs := hbw.size
      clear hx hT
      rcases gk with _ | j
      · have HE : Hid (signF l = (⟨0, 0, 0, 0⟩, 11)) := HX.out
        obtain ⟨t0, t1, t2, t3, f0, f1, f2, f3, tl⟩ := HT.out.cells
        go_wp2_with fail
        refine bodyPost_ret (v := tokR ⟨0, 0, 0, 0⟩ 11) (by simp [results, Try.results129, go_sem, *]) rfl ⟨by rw [HE.out], ?_⟩
        repeat (refine Below.setCell ?_ (by simp) _)
        exact hbw
      · have hj0 : j + 1 ≤ l.length := by omega
        have hjc : j + 1 ≤ c := by omega
        have hcv := fun c => conv_bytes A c (j + 1) l wr (hl.below hbw) hj0 (by omega)
        have hcv' : ∀ c, (convert 54 9 (.slice A (j + 1) c)).run Try.prog wr = .ok (.string (strOf (l.take (j + 1)))) wr := hcv
        obtain ⟨t0, t1, t2, t3, f0, f1, f2, f3, tl⟩ := HT.out.cells
        clear hcv
        cases e1 : (kindOf (strOf (l.take (j + 1))) != 0) with
        | true =>
          have HE : Hid (signF l = (⟨kindOf (strOf (l.take (j + 1))), 0, ((j + 1 : Nat) : Int), 0⟩, 0)) := HX.out.trans (by rw [signFrom, if_pos e1])
          go_wp2_with (go_at_call 171; refine (kind_any _ _).mono ?_; rintro e w1 ⟨rfl, hb1⟩; obtain ⟨u1, rfl⟩ := below_after hb1)
          refine bodyPost_ret (v := tokR ⟨kindOf (strOf (l.take (j + 1))), 0, ((j + 1 : Nat) : Int), 0⟩ 0) (by simp [results, Try.results129, go_sem, *]) rfl ⟨by rw [HE.out], ?_⟩
          repeat (refine Below.setCell ?_ (by simp) _)
          exact hbw.trans (u1.h.mono hs)
        | false =>
          have HE : Hid (signF l = signFrom l j) := HX.out.trans (by rw [signFrom, if_neg (by simp [e1])])
          go_wp2_with (go_at_call 171; refine (kind_any _ _).mono ?_; rintro e w1 ⟨rfl, hb1⟩)
          go_roundg j
          case measure => omega
          case rel => exact ⟨by go_num, by omega, HE.out, HT.out.below hb1, hbw.trans (hb1.mono hs)⟩
end Go.Proofs.Ytmaepljmefdhkaa
