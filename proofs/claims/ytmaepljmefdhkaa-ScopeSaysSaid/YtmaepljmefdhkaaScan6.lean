import Derived.Test.YtmaepljmefdhkaaScan5
namespace Go.Proofs.Ytmaepljmefdhkaa
open Go.RowKit
set_option maxHeartbeats 1000000
set_option maxRecDepth 100000

/-- The greatest int less a digit, by ten. -/
def room (d : Int) : Int := (9223372036854775807 - d) / 10
def numLoop : List UInt8 → Int → Option Int
  | [], acc => some acc
  | c :: r, acc => if room ((c.toNat : Int) - 48) < acc then none else numLoop r (10 * acc + ((c.toNat : Int) - 48))
def noTok : Tok := ⟨0, 0, 0, 0⟩
def numTok (n v : Int) : Tok := ⟨2, 0, n, v⟩
def numEnd (n : Nat) : Option Int → Tok × Int
  | none => (noTok, 12)
  | some v => (numTok n v, 0)
def numberF (l : List UInt8) : Tok × Int :=
  let n := runLen digitI l
  if (decide (1 < (n : Int)) && bi l 0 == 48) || (decide ((n : Int) < (l.length : Int)) && letterI (bi l n)) then (noTok, 12)
  else numEnd n (numLoop (l.take n) 0)
theorem runLen_is {p : Int → Bool} : ∀ (l : List UInt8) (j : Nat), j < runLen p l → p (bi l j) = true
  | [], j, h => by simp [runLen] at h
  | c :: l, j, h => by
    simp only [runLen] at h
    split at h
    · rename_i hc
      cases j with
      | zero => simpa [bi] using hc
      | succ j => simpa [bi] using runLen_is l j (by omega)
    · omega
theorem drop_cons (l : List UInt8) (n k : Nat) (hk : k < n) (hn : n ≤ l.length) : (l.take n).drop k = l.getD k 0 :: (l.take n).drop (k + 1) := by
  have h : k < (l.take n).length := by simp; omega
  rw [List.drop_eq_getElem_cons h]
  simp [List.getD_eq_getElem?_getD, List.getElem?_eq_getElem (show k < l.length by omega)]

theorem TokBlk.new2 (w : World) (o : Obj) (t : Tok) : TokBlk ((w.alloc o).alloc (.cells #[.int .i64 t.kind, .int .i64 t.at_, .int .i64 t.len, .int .i64 t.num] 73)) (w.heap.size + 1) t := heap_alloc2_new w o _
theorem digit_range {c : Int} (h : digitI c = true) : 48 ≤ c ∧ c ≤ 57 := by simpa [digitI] using h
theorem number_any (A : Option Addr) (c : Nat) (l : List UInt8) (w : World) (hl : BytesAt w A l) (hm : l.length ≤ big) (hlc : l.length ≤ c) (h0 : 0 < l.length) :
    Calls Try.prog 128 #[.slice A l.length c] w fun e w' => e = .returned (tokR (numberF l).1 (numberF l).2) ∧ Below w.heap.size w w' := by
  have hm' := big_le hm
  obtain ⟨n, hn⟩ : ∃ n, n = runLen digitI l := ⟨_, rfl⟩
  have hnl : n ≤ l.length := by rw [hn]; exact runLen_le _ _
  have hnc : (n : Int) ≤ c := by omega
  have HD : Hid (∀ j, j < n → digitI (bi l j) = true) := fun j hj => runLen_is l j (by rw [← hn]; exact hj)
  have HW : Hid (numberF l = if (decide (1 < (n : Int)) && bi l 0 == 48) || (decide ((n : Int) < (l.length : Int)) && letterI (bi l n)) then (noTok, 12) else numEnd n (numLoop (l.take n) 0)) := by
    show numberF l = _
    rw [numberF, ← hn]
  have HN := Lib.hid hn
  obtain ⟨b, o, rfl, hc0⟩ := hl 0 h0
  rw [Nat.add_zero] at hc0
  have hbl := block_lt_of_cell hc0
  clear hn
  cases e1 : (decide (1 < (n : Int)) && bi l 0 == 48) with
  | true =>
    have HE : Hid (numberF l = (noTok, 12)) := HW.out.trans (by rw [e1]; rfl)
    simp only [Bool.and_eq_true, decide_eq_true_eq] at e1
    obtain ⟨g1, g2⟩ := e1
    go_enter Try.func128, Try.ntmps128
    go_wp2_with (go_at_call 83; refine (run_any 127 _ tells127 _ _ l _ (hl.below (below_one _ _)) hm).mono ?_; rintro e w1 ⟨rfl, rfl⟩; rw [← HN.out])
    refine bodyPost_ret (v := tokR noTok 12) (by simp [results, Try.results128, go_sem, noTok]) rfl ⟨by rw [HE.out], ?_⟩
    repeat (first | refine Below.setCell ?_ (by simp) _ | refine Below.alloc ?_ (by simp) _)
    exact Below.refl _ _
  | false =>
    have hg : ¬ (1 < (n : Int)) ∨ (1 < (n : Int)) ∧ (bi l 0 == 48) = false := by
      cases h : decide (1 < (n : Int)) with
      | true => rw [h] at e1; exact .inr ⟨by simpa using h, by simpa using e1⟩
      | false => exact .inl (by simpa using h)
    cases e2 : (decide ((n : Int) < (l.length : Int)) && letterI (bi l n)) with
    | true =>
      have HE : Hid (numberF l = (noTok, 12)) := HW.out.trans (by rw [e1, e2]; rfl)
      simp only [Bool.and_eq_true, decide_eq_true_eq] at e2
      obtain ⟨g3, g4⟩ := e2
      obtain ⟨b', o', hA, hcn⟩ := hl n (by omega)
      obtain ⟨rfl, rfl⟩ : b = b' ∧ o = o' := by simpa using hA
      clear hA e1
      rcases hg with hg | ⟨hg, hg2⟩
      all_goals
        go_enter Try.func128, Try.ntmps128
        go_wp2_with (first | (go_at_call 83; refine (run_any 127 _ tells127 _ _ l _ (hl.below (below_one _ _)) hm).mono ?_; rintro e w1 ⟨rfl, rfl⟩; rw [← HN.out]) | (go_at_call 125; refine (letter_any _ _).mono ?_; rintro e w1 ⟨rfl, rfl⟩))
        refine bodyPost_ret (v := tokR noTok 12) (by simp [results, Try.results128, go_sem, noTok]) rfl ⟨by rw [HE.out], ?_⟩
        repeat (first | refine Below.setCell ?_ (by simp) _ | refine Below.alloc ?_ (by simp) _)
        exact Below.refl _ _
    | false =>
      have HE : Hid (numberF l = numEnd n (numLoop (l.take n) 0)) := HW.out.trans (by rw [e1, e2]; rfl)
      have hg' : ¬ ((n : Int) < (l.length : Int)) ∨ ((n : Int) < (l.length : Int)) ∧ letterI (bi l n) = false ∧ w.cell? ⟨b, o + n, none⟩ = some (.int .u8 (bi l n)) := by
        cases h : decide ((n : Int) < (l.length : Int)) with
        | true =>
          rw [h] at e2
          have h' : (n : Int) < (l.length : Int) := by simpa using h
          obtain ⟨b', o', hA, hcn⟩ := hl n (by omega)
          obtain ⟨rfl, rfl⟩ : b = b' ∧ o = o' := by simpa using hA
          exact .inr ⟨h', by simpa using e2, hcn⟩
        | false => exact .inl (by simpa using h)
      clear e1 e2
      rcases hg with hg | ⟨hg, hg2⟩ <;> rcases hg' with hg' | ⟨hg', hg3, hg4⟩
      all_goals
        go_enter Try.func128, Try.ntmps128
        go_wp2_with (first | (go_at_call 83; refine (run_any 127 _ tells127 _ _ l _ (hl.below (below_one _ _)) hm).mono ?_; rintro e w1 ⟨rfl, rfl⟩; rw [← HN.out]) | (go_at_call 125; refine (letter_any _ _).mono ?_; rintro e w1 ⟨rfl, rfl⟩))
      all_goals
        go_loopg [39] n (fun d i wr => ∃ (k : Nat) (acc : Int), i = .int .i64 k ∧ k + d = n ∧ numLoop (l.take n) 0 = numLoop ((l.take n).drop k) acc ∧ (0 ≤ acc ∧ acc ≤ 9223372036854775807) ∧ TokBlk wr w.heap.size noTok ∧ TokBlk wr (w.heap.size + 1) (numTok n acc) ∧ Below w.heap.size w wr)
        case atStart => exact ⟨0, 0, rfl, by omega, rfl, by omega, (TokBlk.new w noTok).alloc _, TokBlk.new2 w _ (numTok n 0), (below_one _ _).alloc (by simp) _⟩
        case round =>
          obtain ⟨k, acc, rfl, hkd, hx, ⟨ha0, ha1⟩, hT, hT2, hbw⟩ := hrel
          have HX := Lib.hid hx
          have HT := Lib.hid hT
          have HT2 := Lib.hid hT2
          have HJ := Lib.hid hkd
          have hs := hbw.size
          clear hx hT hT2 hkd
          obtain ⟨t0, t1, t2, t3, f0, f1, f2, f3, tl⟩ := HT.out.cells
          obtain ⟨s0, s1, s2, s3, y0, y1, y2, y3, sl⟩ := HT2.out.cells
          replace s0 : wr.cell? ⟨w.heap.size + 1, 0, none⟩ = some (.int .i64 2) := s0
          replace s1 : wr.cell? ⟨w.heap.size + 1, 1, none⟩ = some (.int .i64 0) := s1
          replace s2 : wr.cell? ⟨w.heap.size + 1, 2, none⟩ = some (.int .i64 n) := s2
          replace s3 : wr.cell? ⟨w.heap.size + 1, 3, none⟩ = some (.int .i64 acc) := s3
          rcases gk with _ | d
          · have hk : k = n := by have := HJ.out; omega
            have HE2 : Hid (numberF l = (numTok n acc, 0)) := HE.out.trans (by
              rw [HX.out, hk, List.drop_eq_nil_of_le (by simp; omega)]; rfl)
            subst hk
            clear hc0
            go_wp2_with fail
            refine bodyPost_ret (v := tokR (numTok k acc) 0) (by simp [results, Try.results128, go_sem, numTok, *]) rfl ⟨by rw [HE2.out], ?_⟩
            repeat (refine Below.setCell ?_ (by simp) _)
            exact hbw
          · have hkn : k < n := by have := HJ.out; omega
            obtain ⟨b', o', hA, hck⟩ := hl k (by omega)
            obtain ⟨rfl, rfl⟩ : b = b' ∧ o = o' := by simpa using hA
            obtain ⟨d0, d1⟩ := digit_range (HD.out k hkn)
            have hck' := cell_below hck hbw
            have hcons := drop_cons l n k hkn hnl
            have hstep : numLoop (l.take n) 0 = if room (bi l k - 48) < acc then none else numLoop ((l.take n).drop (k + 1)) (10 * acc + (bi l k - 48)) := by
              rw [HX.out, hcons, numLoop]; rfl
            have HST := Lib.hid hstep
            have hkl : k < l.length := by omega
            clear hA hck hc0 hcons hstep
            by_cases hr : (9223372036854775807 - (bi l k - 48)) / 10 < acc
            · have HE2 : Hid (numberF l = (noTok, 12)) := HE.out.trans (by rw [HST.out]; unfold room; rw [if_pos hr]; rfl)
              go_wp2_with fail
              refine bodyPost_ret (v := tokR noTok 12) (by simp [results, Try.results128, go_sem, noTok, *]) rfl ⟨by rw [HE2.out], ?_⟩
              repeat (refine Below.setCell ?_ (by simp) _)
              exact hbw
            · have HN2 : Hid (numLoop (l.take n) 0 = numLoop ((l.take n).drop (k + 1)) (10 * acc + (bi l k - 48))) := HST.out.trans (by unfold room; rw [if_neg hr])
              have hacc : 0 ≤ 10 * acc + (bi l k - 48) ∧ 10 * acc + (bi l k - 48) ≤ 9223372036854775807 := by omega
              have HA := Lib.hid hacc
              obtain ⟨h10, h11⟩ : 0 ≤ 10 * acc ∧ 10 * acc ≤ 9223372036854775807 := by omega
              go_wp2_with fail
              go_roundg d
              case measure => omega
              case rel => exact ⟨k + 1, 10 * acc + (bi l k - 48), by go_num, by have := HJ.out; omega, HN2.out, HA.out, HT.out.far (by simp) _, HT2.out.num_ _, hbw.setCell (by simp) _⟩
end Go.Proofs.Ytmaepljmefdhkaa
