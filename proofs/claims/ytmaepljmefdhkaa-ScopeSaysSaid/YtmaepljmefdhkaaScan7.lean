import Derived.Test.YtmaepljmefdhkaaScan6
import Derived.Maps.AppendAt
import Derived.Deep.AppendLies
namespace Go.Proofs.Ytmaepljmefdhkaa
open Go.RowKit
set_option maxHeartbeats 1000000
set_option maxRecDepth 100000

def tokenF (l : List UInt8) : Tok × Int := if letterI (bi l 0) then wordF l else if digitI (bi l 0) then numberF l else signF l
theorem token_any (A : Option Addr) (c : Nat) (l : List UInt8) (w : World) (hl : BytesAt w A l) (hm : l.length ≤ big) (hlc : l.length ≤ c) (h0 : 0 < l.length) :
    Calls Try.prog 85 #[.slice A l.length c] w fun e w' => e = .returned (tokR (tokenF l).1 (tokenF l).2) ∧ Below w.heap.size w w' := by
  have hm' := big_le hm
  obtain ⟨b, o, rfl, hc0⟩ := hl 0 h0
  rw [Nat.add_zero] at hc0
  have hbl := block_lt_of_cell hc0
  have hl1 : BytesAt (w.alloc (.cells #[.int .i64 0, .int .i64 0, .int .i64 0, .int .i64 0] 73)) (some ⟨b, o, none⟩) l := hl.below (below_one _ _)
  have HL1 := Lib.hid hl1
  clear hl1
  cases e1 : letterI (bi l 0) with
  | true =>
    have HE : Hid (tokenF l = wordF l) := by show tokenF l = _; rw [tokenF, if_pos e1]
    have HE1 := Lib.hid e1
    go_enter Try.func85, Try.ntmps85
    go_wp2_with (first | (go_at_call 125; refine (letter_any _ _).mono ?_; rintro e w1 ⟨rfl, rfl⟩) | (go_at_call 126; refine (word_any _ _ l _ HL1.out hm hlc h0 HE1.out).mono ?_; rintro e w1 ⟨rfl, hb1⟩; obtain ⟨u1, rfl⟩ := below_after hb1))
    refine bodyPost_ret (v := tokR (wordF l).1 (wordF l).2) (by simp [results, Try.results85, go_sem]) rfl ⟨by rw [HE.out], ?_⟩
    repeat (refine Below.setCell ?_ (by simp) _)
    exact (below_one _ _).trans (u1.h.mono (by simp))
  | false =>
    cases e2 : digitI (bi l 0) with
    | true =>
      have HE : Hid (tokenF l = numberF l) := by show tokenF l = _; rw [tokenF, if_neg (by simp [e1]), if_pos e2]
      go_enter Try.func85, Try.ntmps85
      go_wp2_with (first | (go_at_call 125; refine (letter_any _ _).mono ?_; rintro e w1 ⟨rfl, rfl⟩) | (go_at_call 127; refine (digit_any _ _).mono ?_; rintro e w1 ⟨rfl, rfl⟩) | (go_at_call 128; refine (number_any _ _ l _ HL1.out hm hlc h0).mono ?_; rintro e w1 ⟨rfl, hb1⟩; obtain ⟨u1, rfl⟩ := below_after hb1))
      refine bodyPost_ret (v := tokR (numberF l).1 (numberF l).2) (by simp [results, Try.results85, go_sem]) rfl ⟨by rw [HE.out], ?_⟩
      repeat (refine Below.setCell ?_ (by simp) _)
      exact (below_one _ _).trans (u1.h.mono (by simp))
    | false =>
      have HE : Hid (tokenF l = signF l) := by show tokenF l = _; rw [tokenF, if_neg (by simp [e1]), if_neg (by simp [e2])]
      go_enter Try.func85, Try.ntmps85
      go_wp2_with (first | (go_at_call 125; refine (letter_any _ _).mono ?_; rintro e w1 ⟨rfl, rfl⟩) | (go_at_call 127; refine (digit_any _ _).mono ?_; rintro e w1 ⟨rfl, rfl⟩) | (go_at_call 129; refine (sign_any _ _ l _ HL1.out hm hlc).mono ?_; rintro e w1 ⟨rfl, hb1⟩; obtain ⟨u1, rfl⟩ := below_after hb1))
      refine bodyPost_ret (v := tokR (signF l).1 (signF l).2) (by simp [results, Try.results85, go_sem]) rfl ⟨by rw [HE.out], ?_⟩
      repeat (refine Below.setCell ?_ (by simp) _)
      exact (below_one _ _).trans (u1.h.mono (by simp))

/-! append of one element to a row of the call's own -/
theorem st_append_one {P : Program} {ops : Array Oper} {rest : List Oper} {o : Oper} {a : Act} {W : World} {Q : Exit → Act → World → Prop} (base : Nat) (hgd : o.guard = none) (s x : Operand) (t e : TypeId) (z : Value) (size bytes : Nat)
    (ho : o.op = .call { callee := .builtin .append, args := #[s, x], argTypes := #[t, t] })
    (ht : P.underlying t = some (.slice e)) (hinfo : (P.info? e).map (fun i => (i.zero, i.size, i.bytes)) = some (some z, size, bytes)) (hz : z.cells.size = size) (hs0 : 0 < size) (hb0 : 0 < bytes)
    (v : Value) (n : Nat) (xs : List Value) (cs : List Value) (te : TypeId) (hs : a.eval s = v) (g : Nat) (hx : a.eval x = .slice (some ⟨g, 0, none⟩) 1 1) (hgW : g = W.heap.size) (hcs : cs.length = size) (h1 : cs.all (·.oneCell') = true)
    (HO : W.ownsRow base e size v n xs) (hbase : base ≤ W.heap.size) (hl : (n + 1) * bytes ≤ 140737488355328)
    (h : ∀ v1 w1, w1.ownsRow base e size v1 (n + 1) (xs ++ cs) → W.grownBy w1 v.ownBlock → wpList P ops Q rest (a.put o.dst v1) w1) :
    wpList P ops Q (o :: rest) a (W.alloc (.cells cs.toArray te)) := by
  subst hgW
  obtain ⟨i0, hi, hzz⟩ := Option.map_eq_some_iff.1 hinfo
  simp only [Prod.mk.injEq] at hzz
  obtain ⟨hz0, hz1, hz2⟩ := hzz
  have hlen : n + 1 ≤ 140737488355328 := Nat.le_trans (Nat.le_mul_of_pos_right _ hb0) hl
  refine wpList_append_own_at (W.alloc (.cells cs.toArray te)) hgd s x t ho base e i0 z size bytes ht hi hz0 hz1 hz2 hz hs0 v n xs hs (HO.alloc _) ⟨W.heap.size, 0, none⟩ 1 1 cs hx (by omega)
    (World.news_of_block (cs := cs.toArray) (t := te) (fr := (0, 0)) (heap_alloc_new W _)) (fun u hu => (List.all_eq_true.1 h1) u hu) (by simp only [maxLen]; omega) hl (by simp; omega) ?_
  intro v1 w1 hown hg _ _
  exact h v1 w1 hown (World.grownBy.trans (World.grownBy_alloc W _ _) hg)

def tokCells (t : Tok) : List Value := [.int .i64 t.kind, .int .i64 t.at_, .int .i64 t.len, .int .i64 t.num]
def toksV (ts : List Tok) : List Value := ts.flatMap tokCells
theorem toksV_length (ts : List Tok) : (toksV ts).length = ts.length * 4 := by
  induction ts with
  | nil => rfl
  | cons t ts ih => simp only [toksV, List.flatMap_cons, List.length_append, List.length_cons] at *; rw [ih]; simp [tokCells]; omega
theorem toksV_snoc (ts : List Tok) (t : Tok) : toksV (ts ++ [t]) = toksV ts ++ tokCells t := by simp [toksV]
/-- A row of tokens of the call's own. -/
def TokRow (w : World) (base : Nat) (v : Value) (ts : List Tok) : Prop := w.ownsRow base 73 4 v ts.length (toksV ts)
theorem info73 : (Try.prog.info? 73).map (fun i => (i.zero, i.size, i.bytes)) = some (some (tokV ⟨0, 0, 0, 0⟩), 4, 32) := by kernel_rfl
end Go.Proofs.Ytmaepljmefdhkaa
