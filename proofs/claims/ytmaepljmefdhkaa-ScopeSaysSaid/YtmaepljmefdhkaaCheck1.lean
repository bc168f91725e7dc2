import Derived.Test.YtmaepljmefdhkaaMem2
import Derived.Deep.Cut
namespace Go.Proofs.Ytmaepljmefdhkaa
open Go.RowKit
set_option maxHeartbeats 1000000
set_option maxRecDepth 100000

theorem after4 {w : World} {o : Obj} (u1 : After (w.alloc o)) (u2 : After u1.w) (u3 : After u2.w) (u4 : After u3.w) : Below w.heap.size w u4.w :=
  (below_one w _).trans ((((u1.h.trans (u2.h.mono u1.h.size)).trans (u3.h.mono (Nat.le_trans u1.h.size u2.h.size))).trans (u4.h.mono (Nat.le_trans (Nat.le_trans u1.h.size u2.h.size) u3.h.size))).mono (by simp))
theorem after_obj {w : World} {n : Nd} (u1 : After (w.alloc (.cells #[.int .i64 n.kind, .int .i64 n.at_, .slice n.kA n.kids.length n.kc, .string n.name, .int .i64 n.num] 33))) (u2 : After u1.w) (u3 : After u2.w) (u4 : After u3.w) : u4.w.heap[w.heap.size]? = some n.obj := by
  have h1 := u1.h.size
  have h2 := u2.h.size
  have h3 := u3.h.size
  simp only [World.size_alloc] at h1
  rw [u4.h.block _ (by omega), u3.h.block _ (by omega), u2.h.block _ (by omega), u1.h.block _ (by simp)]
  exact Nd.obj_alloc w n
theorem upto_next {ns : List Nd} {k : Nat} {fs : List Int} (h : Upto ns k fs) (hk : k < ns.length) (hin : ∀ m, m < (nd ns k).kids.length → 0 ≤ gi (nd ns k).kids m ∧ gi (nd ns k).kids m < (k : Int))
    (h25 : ((nd ns k).kind = 22 ∨ (nd ns k).kind = 23 ∨ (nd ns k).kind = 24 ∨ (nd ns k).kind = 25) → 0 < (nd ns k).kids.length) : Upto ns (k + 1) (fs.set k (firstVal ns k fs)) := by
  have hv : 0 ≤ firstVal ns k fs ∧ firstVal ns k fs ≤ k := by
    unfold firstVal
    split
    · rename_i h0
      obtain ⟨a, b⟩ := hin 0 h0
      have := h.fst (gi (nd ns k).kids 0).toNat (by omega)
      omega
    · omega
  refine ⟨by simp [h.len], fun j hj => ?_, fun j hj => ?_, fun j hj => ?_⟩
  · rw [gi_set _ (by rw [h.len]; exact hk)]
    split
    · rename_i e; subst e; exact hv
    · exact h.fst j (by omega)
  · rcases Nat.lt_succ_iff_lt_or_eq.1 hj with hj | rfl
    · exact h.down j hj
    · exact hin
  · rcases Nat.lt_succ_iff_lt_or_eq.1 hj with hj | rfl
    · exact h.has j hj
    · exact h25
theorem check_any (A : Option Addr) (c : Nat) (ns : List Nd) (w : World) (hl : NodesAt w A ns) :
    Calls Try.prog 70 #[.slice A ns.length c] w fun e w' => e = .returned (.tuple #[.int .i64 (checkF ns).1, .int .i64 (checkF ns).2]) ∧ Below w.heap.size w w' := by
  have hm' := big_le hl.size
  have hmk := make_ints ns.length hl.size
  go_enter Try.func70, Try.ntmps70
  go_wp2_with fail
  clear hmk
  go_loopg [13] ns.length (fun d i wr => ∃ (k : Nat) (fs : List Int), i = .int .i64 k ∧ k + d = ns.length ∧ Upto ns k fs ∧ checkF ns = checkFrom ns d k fs ∧ IntsBlk wr w.heap.size fs ∧ Below w.heap.size w wr)
  case atStart => exact ⟨0, _, rfl, by omega, ⟨by simp, fun j hj => by omega, fun j hj => by omega, fun j hj => by omega⟩, rfl, IntsBlk.new w _, below_one _ _⟩
  case round =>
    obtain ⟨k, fs, rfl, hkd, hup, hx, hI, hbw⟩ := hrel
    have HX := Lib.hid hx
    have HJ := Lib.hid hkd
    have HU := Lib.hid hup
    have HI := Lib.hid hI
    clear hx hkd hup hI
    have hs := hbw.size
    have hg := HI.out.lt
    rcases gk with _ | d
    · have hkl : k = ns.length := by have := HJ.out; omega
      have hlen := HU.out.len
      have hx0 := HX.out
      subst hkl
      have HE : Hid (checkF ns = checkEnd ns fs) := hx0
      clear hx0
      by_cases hn : ns.length = 0
      · have hE2 : checkF ns = ((ns.length : Int), 25) := HE.out.trans (by simp [checkEnd, hn])
        have HE2 := Lib.hid hE2
        have h0 : (ns.length : Int) < 1 := by omega
        have hn' := Lib.hid hn
        clear hn hE2
        go_wp2_with fail
        go_ret2
        exact ⟨by rw [HE2.out]; rfl, hbw⟩
      · obtain ⟨m, hm⟩ : ∃ m, ns.length = m + 1 := ⟨ns.length - 1, by omega⟩
        have hmi : (ns.length : Int) - 1 = (m : Int) := by omega
        have HMI := Lib.hid hmi
        have hml : m < ns.length := by omega
        have hmp : ns.length - 1 = m := by omega
        have hce : checkF ns = if (nd ns m).kind != 46 || gi fs m != 0 then ((ns.length : Int), 25) else (0, 0) := by
          rw [HE.out]; unfold checkEnd; rw [if_neg hn, hmp]
        have HCE := Lib.hid hce
        obtain ⟨b, o, rfl, hn1⟩ := (hl.below hbw).node m hml
        obtain ⟨n1, n2, n3, n4, n5, n6, nz, n7⟩ := hn1
        have hcm := HI.out.cell (i := m) (by rw [hlen]; exact hml)
        clear hmi hce hmp hm n7
        go_upto_region 20 with fail
        rw [HMI.out]
        cases e1 : ((nd ns m).kind != 46) with
        | true =>
          have HE2 : Hid (checkF ns = ((ns.length : Int), 25)) := HCE.out.trans (by simp [e1])
          clear hlen
          go_wp2_with fail
          go_ret2
          exact ⟨by rw [HE2.out]; rfl, hbw⟩
        | false =>
          cases e2 : (gi fs m != 0) with
          | true =>
            have HE2 : Hid (checkF ns = ((ns.length : Int), 25)) := HCE.out.trans (by simp [e2])
            clear hlen
            go_wp2_with fail
            go_ret2
            exact ⟨by rw [HE2.out]; rfl, hbw⟩
          | false =>
            have HE2 : Hid (checkF ns = (0, 0)) := HCE.out.trans (by simp [e1, e2])
            clear hlen
            go_wp2_with fail
            go_ret2
            exact ⟨by rw [HE2.out]; rfl, hbw⟩
    · have hkl : k < ns.length := by have := HJ.out; omega
      obtain ⟨b, o, rfl, hn⟩ := (hl.below hbw).node k hkl
      obtain ⟨n1, n2, n3, n4, n5, n6, nz, n7⟩ := hn
      have hbl := block_lt_of_cell n1
      have hmk := big_le n6
      have hnz := big_le nz
      have HNZ := Lib.hid (show ((nd ns k).name.size : Int) ≤ 9223372036854775807 by omega)
      have hl0 := hl.below hbw
      have hst : checkF ns = if nodeErr ns k fs == 0 then checkFrom ns d (k + 1) (fs.set k (firstVal ns k fs)) else ((k : Int), nodeErr ns k fs) := HX.out
      have HST := Lib.hid hst
      clear hst
      cases e1 : knownB (nd ns k).kind with
      | false =>
        have HE : Hid (checkF ns = ((k : Int), 20)) := HST.out.trans (by simp [nodeErr, e1])
        go_wp2_with (go_at_call 112; refine (known_any _ _).mono ?_; rintro e w1 ⟨rfl, rfl⟩)
        go_ret2
        exact ⟨by rw [HE.out]; rfl, hbw.alloc hs _⟩
      | true =>
        by_cases e2 : (nd ns k).at_ < 0
        · have HE : Hid (checkF ns = ((k : Int), 20)) := HST.out.trans (by simp [nodeErr, e2])
          go_wp2_with (go_at_call 112; refine (known_any _ _).mono ?_; rintro e w1 ⟨rfl, rfl⟩)
          go_ret2
          exact ⟨by rw [HE.out]; rfl, hbw.alloc hs _⟩
        cases e3 : numB (nd ns k).kind (nd ns k).num (nd ns k).kids.length with
        | false =>
          have HE : Hid (checkF ns = ((k : Int), 23)) := HST.out.trans (by simp [nodeErr, e1, e2, e3])
          go_wp2_with (first | (go_at_call 112; refine (known_any _ _).mono ?_; rintro e w1 ⟨rfl, rfl⟩) | (go_at_call 113; refine (num_any _ _ _ _ _ _ _ _).mono ?_; rintro e w1 ⟨rfl, hb1⟩))
          go_ret2
          exact ⟨by rw [HE.out]; rfl, (hbw.alloc hs _).trans (hb1.mono (by simp; omega))⟩
        | true =>
          cases e4 : nameB (nd ns k).kind (nd ns k).name with
          | false =>
            have HE : Hid (checkF ns = ((k : Int), 22)) := HST.out.trans (by simp [nodeErr, e1, e2, e3, e4])
            go_wp2_with (first | (go_at_call 112; refine (known_any _ _).mono ?_; rintro e w1 ⟨rfl, rfl⟩) | (go_at_call 113; refine (num_any _ _ _ _ _ _ _ _).mono ?_; rintro e w1 ⟨rfl, hb1⟩; obtain ⟨u1, rfl⟩ := below_after hb1) | (go_at_call 114; refine (name_any _ _ _ _ _ _ _ _ HNZ.out).mono ?_; rintro e w1 ⟨rfl, hb2⟩))
            go_ret2
            exact ⟨by rw [HE.out]; rfl, ((hbw.alloc hs _).trans (u1.h.mono (by simp; omega))).trans (hb2.mono (by have := u1.h.size; simp at this; omega))⟩
          | true =>
            have hnum : (nd ns k).kind = 20 → 0 ≤ (nd ns k).num ∧ (nd ns k).num ≤ 1 := by
              intro h
              rw [h] at e3
              simp [numB] at e3
              omega
            have HNM := Lib.hid hnum
            clear hnum
            have H2 := Lib.hid hl0
            cases e5 : kidsB ns k fs with
            | false =>
              have HE : Hid (checkF ns = ((k : Int), 21)) := HST.out.trans (by simp [nodeErr, e1, e2, e3, e4, e5])
              go_wp2_with (first | (go_at_call 112; refine (known_any _ _).mono ?_; rintro e w1 ⟨rfl, rfl⟩) | (go_at_call 113; refine (num_any _ _ _ _ _ _ _ _).mono ?_; rintro e w1 ⟨rfl, hb1⟩; obtain ⟨u1, rfl⟩ := below_after hb1) | (go_at_call 114; refine (name_any _ _ _ _ _ _ _ _ HNZ.out).mono ?_; rintro e w1 ⟨rfl, hb2⟩; obtain ⟨u2, rfl⟩ := below_after hb2) | (go_at_call 115; refine (kids_any _ _ _ _ ns fs k _ (((H2.out.alloc _).after u1).after u2) ((((HI.out.at_).alloc _).after u1).after u2) HU.out.len hkl HU.out.fst HNM.out).mono ?_; rintro e w1 ⟨rfl, hb3⟩; obtain ⟨u3, rfl⟩ := below_after hb3))
              go_ret2
              exact ⟨by rw [HE.out]; rfl, (hbw.alloc hs _).trans (((u1.h.trans (u2.h.mono u1.h.size)).trans (u3.h.mono (Nat.le_trans u1.h.size u2.h.size))).mono (by simp; omega))⟩
            | true =>
              have HKI := Lib.hid (kidsB_in HU.out.fst e5)
              have hmany := (kidsB_many e5).1
              have h44 : (nd ns k).kind = 44 → 0 < (nd ns k).kids.length := fun h => by
                have : 1 ≤ (wantsN (nd ns k) 0).2.1 := wants_least (by omega)
                omega
              have h25 : ((nd ns k).kind = 22 ∨ (nd ns k).kind = 23 ∨ (nd ns k).kind = 24 ∨ (nd ns k).kind = 25) → 0 < (nd ns k).kids.length := fun h => by
                have : 1 ≤ (wantsN (nd ns k) 0).2.1 := wants_least (by omega)
                omega
              have H44 := Lib.hid h44
              have H25 := Lib.hid h25
              clear hmany h44 h25
              cases e6 : levelsB ns k with
              | false =>
                have HE : Hid (checkF ns = ((k : Int), 24)) := HST.out.trans (by simp [nodeErr, e1, e2, e3, e4, e5, e6])
                go_wp2_with (first | (go_at_call 112; refine (known_any _ _).mono ?_; rintro e w1 ⟨rfl, rfl⟩) | (go_at_call 113; refine (num_any _ _ _ _ _ _ _ _).mono ?_; rintro e w1 ⟨rfl, hb1⟩; obtain ⟨u1, rfl⟩ := below_after hb1) | (go_at_call 114; refine (name_any _ _ _ _ _ _ _ _ HNZ.out).mono ?_; rintro e w1 ⟨rfl, hb2⟩; obtain ⟨u2, rfl⟩ := below_after hb2) | (go_at_call 115; refine (kids_any _ _ _ _ ns fs k _ (((H2.out.alloc _).after u1).after u2) ((((HI.out.at_).alloc _).after u1).after u2) HU.out.len hkl HU.out.fst HNM.out).mono ?_; rintro e w1 ⟨rfl, hb3⟩; obtain ⟨u3, rfl⟩ := below_after hb3) | (go_at_call 116; refine (levels_any _ _ ns k _ ((((H2.out.alloc _).after u1).after u2).after u3) hkl HKI.out H44.out HU.out.down HU.out.has).mono ?_; rintro e w1 ⟨rfl, hb4⟩; obtain ⟨u4, rfl⟩ := below_after hb4))
                go_ret2
                exact ⟨by rw [HE.out]; rfl, hbw.trans ((after4 u1 u2 u3 u4).mono hs)⟩
              | true =>
                have HE : Hid (checkF ns = checkFrom ns d (k + 1) (fs.set k (firstVal ns k fs))) := HST.out.trans (by simp [nodeErr, e1, e2, e3, e4, e5, e6])
                have hUN : Upto ns (k + 1) (fs.set k (firstVal ns k fs)) := upto_next HU.out hkl HKI.out H25.out
                have HUN := Lib.hid hUN
                have hne4 : ¬ wr.heap.size = w.heap.size := by omega
                go_upto_region 15 with (first | (go_at_call 112; refine (known_any _ _).mono ?_; rintro e w1 ⟨rfl, rfl⟩) | (go_at_call 113; refine (num_any _ _ _ _ _ _ _ _).mono ?_; rintro e w1 ⟨rfl, hb1⟩; obtain ⟨u1, rfl⟩ := below_after hb1) | (go_at_call 114; refine (name_any _ _ _ _ _ _ _ _ HNZ.out).mono ?_; rintro e w1 ⟨rfl, hb2⟩; obtain ⟨u2, rfl⟩ := below_after hb2) | (go_at_call 115; refine (kids_any _ _ _ _ ns fs k _ (((H2.out.alloc _).after u1).after u2) ((((HI.out.at_).alloc _).after u1).after u2) HU.out.len hkl HU.out.fst HNM.out).mono ?_; rintro e w1 ⟨rfl, hb3⟩; obtain ⟨u3, rfl⟩ := below_after hb3) | (go_at_call 116; refine (levels_any _ _ ns k _ ((((H2.out.alloc _).after u1).after u2).after u3) hkl HKI.out H44.out HU.out.down HU.out.has).mono ?_; rintro e w5 ⟨rfl, hb4⟩; have hb5 : Below wr.heap.size wr w5 := after4 u1 u2 u3 ⟨w5, hb4⟩; have hL5 : w5.heap[wr.heap.size]? = some (nd ns k).obj := after_obj u1 u2 u3 ⟨w5, hb4⟩; have HL5 := Lib.hid hL5; clear hL5 hb4))
                have hI5 : IntsBlk w5 w.heap.size fs := HI.out.below hb5
                have HI5 := Lib.hid hI5
                have hfr := hI5.frozen k
                have hck := hI5.cell (i := k) (by rw [HU.out.len]; exact hkl)
                obtain ⟨l0, l1, l2, l3, l4, l5⟩ := Nd.obj_cells HL5.out
                have hg5 : w.heap.size < w5.heap.size := by omega
                clear hI5 n1 n2 n3 n4 n5
                by_cases h0 : 0 < (nd ns k).kids.length
                · obtain ⟨q0, q1⟩ := HKI.out 0 h0
                  obtain ⟨p, hp⟩ : ∃ p : Nat, gi (nd ns k).kids 0 = (p : Int) := ⟨(gi (nd ns k).kids 0).toNat, by omega⟩
                  have hpk : p < k := by omega
                  obtain ⟨kb, ko, hkA, hkc⟩ := n7.below hb5 0 h0
                  rw [hp, Nat.add_zero] at hkc
                  have hkb := block_lt_of_cell hkc
                  have hkbw : kb < w.heap.size := by
                    obtain ⟨_, _, _, hn0⟩ := hl.node k hkl
                    obtain ⟨b9, o9, hA9, hc9⟩ := hn0.row 0 h0
                    rw [hkA] at hA9
                    injection hA9 with hA9
                    injection hA9 with hA9 _
                    subst hA9
                    exact block_lt_of_cell hc9
                  have hcp := HI5.out.cell (i := p) (by rw [HU.out.len]; omega)
                  have HV : Hid (firstVal ns k fs = gi fs p) := by show firstVal ns k fs = gi fs p; unfold firstVal; rw [if_pos h0, hp, Int.toNat_natCast]
                  rw [hkA] at l2
                  have hpn : p < ns.length := by omega
                  have hne1 : ¬ p = k := by omega
                  have hne2 : ¬ k = p := by omega
                  have hne3 : ¬ kb = w.heap.size := by omega
                  have hne3' : ¬ w.heap.size = kb := by omega
                  have hne4' : ¬ w.heap.size = wr.heap.size := by omega
                  clear hp hkA n7 q0 q1
                  have hI6 : IntsBlk ((w5.setCell ⟨w.heap.size, k, none⟩ (.int .i64 k)).setCell ⟨w.heap.size, k, none⟩ (.int .i64 (gi fs p))) w.heap.size (fs.set k (firstVal ns k fs)) := by
                    have h := (HI5.out.set k k).set k (gi fs p)
                    rw [List.set_set] at h
                    rw [HV.out]; exact h
                  have HI6 := Lib.hid hI6
                  clear hI6
                  go_wp2_with fail
                  go_roundg d
                  case measure => omega
                  case rel => exact ⟨k + 1, _, by go_num, by have := HJ.out; omega, HUN.out, HE.out, HI6.out, (hbw.trans ((hb5.mono hs).setCell (by simp) _)).setCell (by simp) _⟩
                · have HV : Hid (firstVal ns k fs = k) := by show firstVal ns k fs = k; unfold firstVal; rw [if_neg h0]
                  have hI6 : IntsBlk (w5.setCell ⟨w.heap.size, k, none⟩ (.int .i64 k)) w.heap.size (fs.set k (firstVal ns k fs)) := by
                    rw [HV.out]; exact HI5.out.set k k
                  have HI6 := Lib.hid hI6
                  have hne4' : ¬ w.heap.size = wr.heap.size := by omega
                  clear hI6 n7
                  go_wp2_with fail
                  go_roundg d
                  case measure => omega
                  case rel => exact ⟨k + 1, _, by go_num, by have := HJ.out; omega, HUN.out, HE.out, HI6.out, hbw.trans ((hb5.mono hs).setCell (by simp) _)⟩
end Go.Proofs.Ytmaepljmefdhkaa
