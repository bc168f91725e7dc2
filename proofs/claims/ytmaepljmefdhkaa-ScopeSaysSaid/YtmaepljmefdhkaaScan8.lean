import Derived.Test.YtmaepljmefdhkaaScan7
import Derived.Deep.Cut
namespace Go.Proofs.Ytmaepljmefdhkaa
open Go.RowKit
set_option maxHeartbeats 1000000
set_option maxRecDepth 100000

def tokAt (t : Tok) (k : Int) : Tok := ⟨t.kind, k, t.len, t.num⟩
/-- What is read from a place on: the tokens, or none and the fault. -/
def scanGo : Nat → Nat → List UInt8 → List Tok → List Tok × Int × Int
  | 0, _, _, acc => (acc, 0, 0)
  | f + 1, pos, rest, acc =>
    if rest.length = 0 then (acc, 0, 0)
    else if blankI (bi rest 0) then scanGo f (pos + 1) (rest.drop 1) acc
    else if bi rest 0 == 35 then scanGo f (pos + runLen (fun c => c != 10) rest) (rest.drop (runLen (fun c => c != 10) rest)) acc
    else if (tokenF rest).2 != 0 then ([], pos, (tokenF rest).2)
    else scanGo f (pos + (tokenF rest).1.len.toNat) (rest.drop (tokenF rest).1.len.toNat) (acc ++ [tokAt (tokenF rest).1 pos])
def scanF (src : List UInt8) : List Tok × Int × Int := if 65536 < src.length then ([], 65536, 10) else scanGo src.length 0 src []

theorem runLen_pos {p : Int → Bool} {l : List UInt8} (h0 : 0 < l.length) (h : p (bi l 0) = true) : 0 < runLen p l := by
  cases l with
  | nil => simp at h0
  | cons c l =>
    simp only [bi, List.getD_cons_zero] at h
    simp [runLen, h]
theorem sign_len (l : List UInt8) : ∀ j, j ≤ l.length → (signFrom l j).2 = 0 → 1 ≤ (signFrom l j).1.len ∧ (signFrom l j).1.len ≤ (l.length : Int)
  | 0, _, h => by simp [signFrom] at h
  | j + 1, hj, h => by
    simp only [signFrom] at h ⊢
    split at h
    · rename_i hk
      rw [if_pos hk]
      simp only
      omega
    · rename_i hk
      rw [if_neg hk]
      exact sign_len l j (by omega) h
theorem token_len {l : List UInt8} (h0 : 0 < l.length) (h : (tokenF l).2 = 0) : 1 ≤ (tokenF l).1.len ∧ (tokenF l).1.len ≤ (l.length : Int) := by
  unfold tokenF at h ⊢
  split at h
  · rename_i hl
    rw [if_pos hl]
    have h1 : 0 < runLen (fun c => letterI c || digitI c) l := runLen_pos h0 (by simp [hl])
    have h2 := runLen_le (fun c => letterI c || digitI c) l
    unfold wordF at h ⊢
    simp only at h ⊢
    split at h
    · rename_i hk; rw [if_pos hk]; simp only; omega
    · rename_i hk
      rw [if_neg hk]
      split at h
      · simp at h
      · rename_i hk2; rw [if_neg hk2]; simp only; omega
  · rename_i hl
    rw [if_neg hl]
    split at h
    · rename_i hd
      rw [if_pos hd]
      have h1 : 0 < runLen digitI l := runLen_pos h0 hd
      have h2 := runLen_le digitI l
      unfold numberF at h ⊢
      simp only at h ⊢
      split at h
      · simp at h
      · rename_i hk
        rw [if_neg hk]
        cases hn : numLoop (List.take (runLen digitI l) l) 0 with
        | none => rw [hn] at h; simp [numEnd] at h
        | some v => simp only [numEnd, numTok]; omega
    · rename_i hd
      rw [if_neg hd]
      exact sign_len l _ (by omega) h

theorem BytesAt.drop {w : World} {b o : Nat} {l : List UInt8} (h : BytesAt w (some ⟨b, o, none⟩) l) (k : Nat) : BytesAt w (some ⟨b, o + k, none⟩) (l.drop k) := fun i hi => by
  have hik : k + i < l.length := by simp at hi; omega
  obtain ⟨b', o', e, hc⟩ := h (k + i) hik
  obtain ⟨rfl, rfl⟩ : b = b' ∧ o = o' := by simpa using e
  refine ⟨b, o + k, rfl, ?_⟩
  rw [Nat.add_assoc, hc]
  simp [bi, List.getD_eq_getElem?_getD, List.getElem?_drop]

theorem fault_row {w : World} {base : Nat} {v : Value} {ts : List Tok} (h : TokRow w (base + 1) v ts) {x y : Value} : TokRow ((w.setCell ⟨base, 0, none⟩ x).setCell ⟨base, 1, none⟩ y) (base + 1) v ts :=
  ownsRow_setCell_below (ownsRow_setCell_below h (by simp) _) (by simp) _
theorem own_below {w w1 : World} {base : Nat} {e : TypeId} {size n : Nat} {v : Value} {xs : List Value} (h : w.ownsRow base e size v n xs) (hb : Below w.heap.size w w1) : w1.ownsRow base e size v n xs :=
  h.kept (row := none) ⟨hb.os, hb.tape, hb.output, hb.size, fun i hi _ => hb.block i hi⟩ (by cases v.ownBlock <;> simp)
theorem own_ne {v : Value} {b0 r r' : Nat} (h : ∀ j, v.ownBlock = some j → b0 ≤ j ∧ j < r) (hr : r ≤ r') : some r' ≠ v.ownBlock := fun e => by
  have := h r' e.symm
  omega
theorem own_ne' {v : Value} {b0 r : Nat} (h : ∀ j, v.ownBlock = some j → b0 + 1 ≤ j ∧ j < r) : some b0 ≠ v.ownBlock := fun e => by
  have := h b0 e.symm
  omega
theorem below_grown {n r : Nat} {w w1 w2 : World} {v : Value} (hb : Below n w w1) (hg : w1.grownBy w2 v.ownBlock) (h : ∀ j, v.ownBlock = some j → n + 1 ≤ j ∧ j < r) (hn : n ≤ w1.heap.size) : Below n w w2 :=
  ⟨hg.os.trans hb.os, hg.tape.trans hb.tape, hg.output.trans hb.output, Nat.le_trans hb.size hg.size, fun k hk => (hg.block k (by omega) (fun e => by have := h k e.symm; omega)).trans (hb.block k hk)⟩
theorem grown_tok {w w1 : World} {x0 x1 x2 x3 : Value} {t : TypeId} {row : Option Nat} (hg : (w.alloc (.cells #[x0, x1, x2, x3] t)).grownBy w1 row) (hne : some w.heap.size ≠ row) : w1.cell? ⟨w.heap.size, 2, none⟩ = some x2 := by
  rw [World.grownBy.cell_far hg _ (by simp) hne]
  exact cell_of_row _ _ 2 _ _ _ (heap_alloc_new w _)
theorem scan_any (A : Option Addr) (c : Nat) (src : List UInt8) (w : World) (hl : BytesAt w A src) (hm : src.length ≤ big) (hlc : src.length ≤ c) :
    Calls Try.prog 39 #[.slice A src.length c] w fun e w' => ∃ v, e = .returned (.tuple #[v, .agg #[.int .i64 (scanF src).2.1, .int .i64 (scanF src).2.2]]) ∧ TokRow w' (w.heap.size + 1) v (scanF src).1 ∧ Below w.heap.size w w' := by
  have hm' := big_le hm
  by_cases hlong : 65536 < (src.length : Int)
  · have HE : Hid (scanF src = ([], 65536, 10)) := by show scanF src = _; rw [scanF, if_pos (by omega)]
    go_enter Try.func39, Try.ntmps39
    go_wp2_with fail
    refine bodyPost_ret (v := .tuple #[.slice none 0 0, .agg #[.int .i64 65536, .int .i64 10]]) (by simp [results, Try.results39, go_sem]) rfl ⟨_, by rw [HE.out], by rw [HE.out]; exact World.ownsRow_nil _ _ _ _, ?_⟩
    repeat (first | refine Below.setCell ?_ (by simp) _ | refine Below.alloc ?_ (by simp) _)
    exact Below.refl _ _
  · have HE : Hid (scanF src = scanGo src.length 0 src []) := by show scanF src = _; rw [scanF, if_neg (by omega)]
    go_enter Try.func39, Try.ntmps39
    go_wp2_with fail
    go_loopg [4, 5] src.length (fun d v i wr => ∃ (k f : Nat) (ts : List Tok), i = .int .i64 k ∧ k + d = src.length ∧ d ≤ f ∧ scanF src = scanGo f k (src.drop k) ts ∧ ts.length ≤ k ∧ TokRow wr (w.heap.size + 1) v ts ∧
      wr.heap[w.heap.size]? = some (.cells #[.int .i64 0, .int .i64 0] 42 (0, 0)) ∧ Below w.heap.size w wr)
    case atStart => exact ⟨0, _, [], rfl, by omega, Nat.le_refl _, HE.out, by simp, World.ownsRow_nil _ _ _ _, heap_alloc_new w _, below_one _ _⟩
    case round =>
      obtain ⟨k, f, ts, rfl, hkd, hdf, hx, htk, hT, hF, hbw⟩ := hrel
      have HX := Lib.hid hx
      have HT := Lib.hid hT
      have HF := Lib.hid hF
      have HJ := Lib.hid hkd
      have hs := hbw.size
      have hfl : w.heap.size < wr.heap.size := (Array.getElem?_eq_some_iff.1 hF).1
      have z0 : wr.cell? ⟨w.heap.size, 0, none⟩ = some (.int .i64 0) := cell_of_row wr _ 0 _ _ _ hF
      have z1 : wr.cell? ⟨w.heap.size, 1, none⟩ = some (.int .i64 0) := cell_of_row wr _ 1 _ _ _ hF
      have y0 := frozen_of_row wr _ 0 _ _ hF
      have y1 := frozen_of_row wr _ 1 _ _ hF
      clear hx hT hF hkd
      rcases gk with _ | d
      · have hk : k = src.length := by have := HJ.out; omega
        have HE2 : Hid (scanF src = (ts, 0, 0)) := HX.out.trans (by
          rw [hk, List.drop_length]; cases f <;> simp [scanGo])
        subst hk
        clear hl
        go_wp2_with fail
        refine bodyPost_ret (v := .tuple #[u4, .agg #[.int .i64 0, .int .i64 0]]) (by simp [results, Try.results39, go_sem, *]) rfl ⟨_, by rw [HE2.out], by rw [HE2.out]; exact fault_row HT.out, ?_⟩
        repeat (first | refine Below.setCell ?_ (by simp) _)
        exact hbw
      · obtain ⟨f, rfl⟩ : ∃ g, f = g + 1 := ⟨f - 1, by omega⟩
        have hks : k < src.length := by have := HJ.out; omega
        obtain ⟨b, o, rfl, hck⟩ := hl k hks
        have hbl := block_lt_of_cell hck
        have hck' := cell_below hck hbw
        have hbk : bi (src.drop k) 0 = bi src k := by simp [bi, List.getD_eq_getElem?_getD]
        have hlen : (src.drop k).length = src.length - k := by simp
        have hne : ¬ (src.drop k).length = 0 := by omega
        have hstep : scanF src = if blankI (bi src k) then scanGo f (k + 1) ((src.drop k).drop 1) ts
            else if bi src k == 35 then scanGo f (k + runLen (fun c => c != 10) (src.drop k)) ((src.drop k).drop (runLen (fun c => c != 10) (src.drop k))) ts
            else if (tokenF (src.drop k)).2 != 0 then ([], (k : Int), (tokenF (src.drop k)).2)
            else scanGo f (k + (tokenF (src.drop k)).1.len.toNat) ((src.drop k).drop (tokenF (src.drop k)).1.len.toNat) (ts ++ [tokAt (tokenF (src.drop k)).1 k]) := by
          rw [HX.out, scanGo, if_neg hne, hbk]
        have HST := Lib.hid hstep
        have HBK := Lib.hid hbk
        have HLN := Lib.hid hlen
        clear hstep hbk hlen hne hck
        cases e1 : blankI (bi src k) with
        | true =>
          have HE2 : Hid (scanF src = scanGo f (k + 1) (src.drop (k + 1)) ts) := HST.out.trans (by rw [if_pos e1, List.drop_drop])
          go_wp2_with (go_at_call 82; refine (blank_any _ _).mono ?_; rintro e w1 ⟨rfl, rfl⟩)
          go_roundg d
          case measure => omega
          case rel => exact ⟨k + 1, f, ts, by go_num, by have := HJ.out; omega, by omega, HE2.out, by omega, HT.out, HF.out, hbw⟩
        | false =>
          cases e2 : (bi src k == 35) with
          | true =>
            have hn0 : 0 < runLen (fun c => c != 10) (src.drop k) := runLen_pos (by have := HLN.out; omega) (by
              have h35 : bi src k = 35 := by simpa using e2
              rw [HBK.out, h35]; rfl)
            have hn1 := runLen_le (fun c => c != 10) (src.drop k)
            rw [HLN.out] at hn1
            obtain ⟨n, hn⟩ : ∃ n, n = runLen (fun c => c != 10) (src.drop k) := ⟨_, rfl⟩
            rw [← hn] at hn0 hn1
            have HN := Lib.hid hn
            have HE2 : Hid (scanF src = scanGo f (k + n) (src.drop (k + n)) ts) := HST.out.trans (by rw [if_neg (by simp [e1]), if_pos e2, ← HN.out, List.drop_drop])
            clear hn
            go_wp2_with (go_at_call 82; refine (blank_any _ _).mono ?_; rintro e w1 ⟨rfl, rfl⟩)
            rw [← HLN.out]
            refine (run_any 84 _ tells84 _ _ (src.drop k) _ ((hl.below hbw).drop k) (by have := HLN.out; omega)).mono ?_
            rintro e w1 ⟨rfl, rfl⟩
            rw [← HN.out, HLN.out]
            go_wp2_with fail
            go_roundg (d + 1 - n)
            case measure => omega
            case rel => exact ⟨k + n, f, ts, by go_num, by have := HJ.out; omega, by omega, HE2.out, by omega, HT.out, HF.out, hbw⟩
          | false =>
            have hl1 := (hl.below hbw).drop k
            have hm1 : (src.drop k).length ≤ big := by have := HLN.out; omega
            have h01 : 0 < (src.drop k).length := by have := HLN.out; omega
            have HL1 := Lib.hid hl1
            clear hl1
            cases e3 : ((tokenF (src.drop k)).2 != 0) with
            | true =>
              have HE2 : Hid (scanF src = ([], (k : Int), (tokenF (src.drop k)).2)) := HST.out.trans (by rw [if_neg (by simp [e1]), if_neg (by simp [e2]), if_pos e3])
              go_wp2_with (go_at_call 82; refine (blank_any _ _).mono ?_; rintro e w1 ⟨rfl, rfl⟩)
              rw [← HLN.out]
              refine (token_any _ _ (src.drop k) _ HL1.out hm1 (by have := HLN.out; omega) h01).mono ?_
              rintro e w1 ⟨rfl, hb1⟩
              obtain ⟨u, rfl⟩ := below_after hb1
              rw [HLN.out]
              go_wp2_with fail
              refine bodyPost_ret (v := .tuple #[.slice none 0 0, .agg #[.int .i64 k, .int .i64 (tokenF (src.drop k)).2]]) (by simp [results, Try.results39, go_sem, *]) rfl ⟨_, by rw [HE2.out], by rw [HE2.out]; exact World.ownsRow_nil _ _ _ _, ?_⟩
              have hbu := hbw.trans (u.h.mono hs)
              exact (((hbu.setCell (by simp) _).setCell (by simp) _).alloc (by simp [World.setCell]; exact hbu.size) _)
            | false =>
              go_wp2_with (go_at_call 82; refine (blank_any _ _).mono ?_; rintro e w1 ⟨rfl, rfl⟩)
              rw [← HLN.out]
              refine (token_any _ _ (src.drop k) _ HL1.out hm1 (by have := HLN.out; omega) h01).mono ?_
              rintro e w1 ⟨rfl, hb1⟩
              obtain ⟨u, rfl⟩ := below_after hb1
              rw [HLN.out]
              obtain ⟨tl0, tl1⟩ := token_len h01 (by simpa using e3)
              obtain ⟨n, hn⟩ : ∃ n : Nat, (tokenF (src.drop k)).1.len = (n : Int) := ⟨(tokenF (src.drop k)).1.len.toNat, by omega⟩
              have hn1 : n ≤ src.length - k := by have := HLN.out; omega
              have hn0 : 0 < n := by omega
              have HE2 : Hid (scanF src = scanGo f (k + n) (src.drop (k + n)) (ts ++ [tokAt (tokenF (src.drop k)).1 k])) := HST.out.trans (by
                rw [if_neg (by simp [e1]), if_neg (by simp [e2]), if_neg (by simp [e3]), List.drop_drop]; congr 2 <;> omega)
              have HN := Lib.hid hn
              have hus := u.h.size
              have hT5 := own_below HT.out u.h
              have HT5 := Lib.hid hT5
              have hlt5 := fun j hj => ((HT.out).lt j hj)
              have HLT := Lib.hid hlt5
              clear hn tl0 tl1 hT5 hlt5 HX HST
              have hb2 := hbw.trans ((below_one u.w (.cells #[.int .i64 (tokenF (src.drop k)).1.kind, .int .i64 k, .int .i64 (tokenF (src.drop k)).1.len, .int .i64 (tokenF (src.drop k)).1.num] 73)).mono (Nat.le_trans hs hus) |> (u.h.mono hs).trans)
              go_wp2_with (at_builtin; refine st_append_one (P := Try.prog) (w.heap.size + 1) rfl _ _ _ 73 _ 4 32 rfl Try.underlying69 info73 rfl (by decide) (by decide) u4 ts.length (toksV ts) (tokCells (tokAt (tokenF (src.drop k)).1 k)) 73 rfl _ rfl (by simp) rfl rfl (HT5.out.alloc _) (by simp; omega) (by omega) ?_; intro v1 w1 hown hg; have hc6 := grown_tok hg (own_ne HLT.out hus); have HC := Lib.hid hown; have HG := Lib.hid hg; clear hown hg)
              rw [HN.out]
              go_wp2_with fail
              go_roundg (d + 1 - n)
              case measure => omega
              case rel =>
                refine ⟨k + n, f, ts ++ [tokAt (tokenF (src.drop k)).1 k], by rw [show wrap64 ((k : Int) + n) = k + n from by unfold wrap64; omega]; rfl, by have := HJ.out; omega, by omega, HE2.out, by simp; omega, ?_, ?_, ?_⟩
                · have := HC.out
                  rw [TokRow, toksV_snoc, List.length_append]
                  exact this
                · refine ((HG.out.block _ (by simp; omega) (own_ne' HLT.out)).trans ?_).trans HF.out
                  rw [heap_alloc_old _ _ (by omega)]
                  exact u.h.block _ hfl
                · exact below_grown hb2 HG.out HLT.out (by simp; omega)
end Go.Proofs.Ytmaepljmefdhkaa
