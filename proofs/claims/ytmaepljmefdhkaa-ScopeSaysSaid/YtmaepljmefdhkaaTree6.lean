import Derived.Test.YtmaepljmefdhkaaTree5
namespace Go.Proofs.Ytmaepljmefdhkaa
open Go.RowKit
set_option maxHeartbeats 1000000
set_option maxRecDepth 100000

/-! tree.levels -/
def levOK (ns : List Nd) (n : Nd) (j : Nat) : Bool :=
  !(isB (nd ns (gi n.kids j).toNat).kind 1 && decide (levelF (nd ns (gi n.kids j).toNat).kind (nd ns (gi n.kids j).toNat).num < leastF n.kind n.num j))
def levelsB (ns : List Nd) (i : Nat) : Bool :=
  (List.range (nd ns i).kids.length).all (levOK ns (nd ns i)) && ((nd ns i).kind != 44 || !recvB ns ((gi (nd ns i).kids 0).toNat + 1) (gi (nd ns i).kids 0))

theorem ret_eq {P : Program} {f : FuncId} {args : Array Value} {w : World} {v v' : Value} {R : World → Prop} (h : Calls P f args w fun e w' => e = .returned v ∧ R w') (hv : v = v') : Calls P f args w fun e w' => e = .returned v' ∧ R w' := hv ▸ h
theorem levels_any (A : Option Addr) (c : Nat) (ns : List Nd) (i : Nat) (w : World) (hl : NodesAt w A ns) (hi : i < ns.length)
    (hk : ∀ j, j < (nd ns i).kids.length → 0 ≤ gi (nd ns i).kids j ∧ gi (nd ns i).kids j < (i : Int)) (h44 : (nd ns i).kind = 44 → 0 < (nd ns i).kids.length) (hdn : Down ns i) (hf : Fst ns i) :
    Calls Try.prog 116 #[.slice A ns.length c, .int .i64 i] w fun e w' => e = .returned (.bool (levelsB ns i)) ∧ Below w.heap.size w w' := by
  have hm' := big_le hl.size
  have HK := Lib.hid hk
  have H44 := Lib.hid h44
  have HD := Lib.hid hdn
  have HF := Lib.hid hf
  clear hk h44 hdn hf
  obtain ⟨b, o, rfl, hn⟩ := hl.node i hi
  obtain ⟨n1, n2, n3, n4, n5, n6, _, n7⟩ := hn
  have hbl := block_lt_of_cell n1
  have hmk := big_le n6
  go_enter Try.func116, Try.ntmps116
  go_wp2_with fail
  go_loopg [15] (nd ns i).kids.length (fun d k wr => ∃ j : Nat, k = .int .i64 (j : Int) ∧ j + d = (nd ns i).kids.length ∧ (∀ m, m < j → levOK ns (nd ns i) m = true) ∧ wr.heap[w.heap.size]? = some (nd ns i).obj ∧ Below w.heap.size w wr)
  case atStart => exact ⟨0, rfl, by omega, fun m hm => by omega, Nd.obj_alloc w _, below_one _ _⟩
  case round =>
    obtain ⟨j, rfl, hjd, hx, hL, hbw⟩ := hrel
    have HX := Lib.hid hx
    have HL := Lib.hid hL
    have HJ := Lib.hid hjd
    clear hx n1 n2 n3 n4 n5 hL hjd
    have hs := hbw.size
    obtain ⟨l0, l1, l2, l3, l4, l5⟩ := Nd.obj_cells HL.out
    rcases gk with _ | d
    · have hall : Hid ((List.range (nd ns i).kids.length).all (levOK ns (nd ns i)) = true) := by
        show _ = true
        rw [all_range]
        intro m hm
        exact HX.out m (by have := HJ.out; omega)
      have hje := HJ.out
      have hjj : j = (nd ns i).kids.length := by omega
      clear hje
      subst hjj
      cases e44 : ((nd ns i).kind != 44) with
      | true =>
        have HE : Hid (levelsB ns i = true) := by show levelsB ns i = true; unfold levelsB; rw [hall.out, e44]; rfl
        go_wp2_with fail
        go_ret
        exact ⟨by rw [HE.out]; rfl, hbw⟩
      | false =>
        have h0 := H44.out (by simpa using e44)
        obtain ⟨kb, ko, hkA, hk⟩ := n7.below hbw 0 h0
        have hkb := block_lt_of_cell hk
        obtain ⟨q0, q1⟩ := HK.out 0 h0
        obtain ⟨p, hp⟩ : ∃ p : Nat, gi (nd ns i).kids 0 = (p : Int) := ⟨(gi (nd ns i).kids 0).toNat, by omega⟩
        have HE : Hid (levelsB ns i = !recvB ns (p + 1) p) := by show levelsB ns i = _; unfold levelsB; rw [hall.out, e44, hp]; rfl
        rw [hp, Nat.add_zero] at hk
        rw [hkA] at l2
        have hlw := hl.below hbw
        have hpi : p < i := by omega
        clear hp q0 q1 hkA n7
        go_wp2_with (go_at_call 145; refine (receives_any _ _ ns p _ hlw i hpi (by omega) HD.out HF.out).mono ?_; rintro e w3 ⟨rfl, hb3⟩)
        go_ret
        exact ⟨by rw [HE.out]; rfl, hbw.trans (hb3.mono hs)⟩
    · have hjl : j < (nd ns i).kids.length := by have := HJ.out; omega
      obtain ⟨kb, ko, hkA, hk⟩ := n7.below hbw j hjl
      have hkb := block_lt_of_cell hk
      obtain ⟨q0, q1⟩ := HK.out j hjl
      obtain ⟨p, hp⟩ : ∃ p : Nat, gi (nd ns i).kids j = (p : Int) := ⟨(gi (nd ns i).kids j).toNat, by omega⟩
      have hpi : p < i := by omega
      obtain ⟨b', o', hAA, hnp⟩ := (hl.below hbw).node p (by omega)
      obtain ⟨rfl, rfl⟩ : b = b' ∧ o = o' := by simpa using hAA
      obtain ⟨p1, p2, p3, p4, p5, p6, _, p7⟩ := hnp
      have hbl' := block_lt_of_cell p1
      have hlo : levOK ns (nd ns i) j = !(isB (nd ns p).kind 1 && decide (levelF (nd ns p).kind (nd ns p).num < leastF (nd ns i).kind (nd ns i).num j)) := by
        simp [levOK, hp]
      have HLO := Lib.hid hlo
      have hpn : p < ns.length := by omega
      rw [hp] at hk
      rw [hkA] at l2
      rw [hkA]
      have HKA := Lib.hid hkA
      clear hp hAA q0 q1 hkA n7 p7 hlo
      cases e1 : isB (nd ns p).kind 1 with
      | false =>
        have HE : Hid (∀ m, m < j + 1 → levOK ns (nd ns i) m = true) := fun m hm => by
          rcases Nat.lt_succ_iff_lt_or_eq.1 hm with h | rfl
          · exact HX.out m h
          · rw [HLO.out, e1]; rfl
        go_wp2_with fail
        refine wp_region_after (by kernel_rfl) (by kernel_rfl) ?_
        repeat (go_big_quiet_step (first | (go_at_call 143; exact After.of (ret_eq (is_any _ _ _ _ _ _ _ _ _) (congrArg Value.bool e1))) | (go_at_call 140; exact After.of (level_any _ _ _ _ _ _ _ _)) | (go_at_call 144; exact After.of (least_any _ _ _ _ _ _ _ _ _))))
        refine wpQuiet_nil ?_
        rintro _ ⟨⟨w5, hbS⟩, rfl⟩
        go_wp2_with fail
        rw [← HKA.out]
        go_roundg d
        case measure => omega
        case rel =>
          exact ⟨j + 1, by go_num, by have := HJ.out; omega, HE.out, (hbS.block _ l5).trans HL.out, hbw.trans (hbS.mono hs)⟩
      | true =>
        cases e2 : decide (levelF (nd ns p).kind (nd ns p).num < leastF (nd ns i).kind (nd ns i).num j) with
        | true =>
          have HE : Hid (levelsB ns i = false) := by
            show levelsB ns i = false
            unfold levelsB
            rw [range_no hjl (by rw [HLO.out, e1, e2]; rfl)]; rfl
          go_wp2_with fail
          refine wp_region_after (by kernel_rfl) (by kernel_rfl) ?_
          repeat (go_big_quiet_step (first | (go_at_call 143; exact After.of (ret_eq (is_any _ _ _ _ _ _ _ _ _) (congrArg Value.bool e1))) | (go_at_call 140; exact After.of (level_any _ _ _ _ _ _ _ _)) | (go_at_call 144; exact After.of (least_any _ _ _ _ _ _ _ _ _))))
          refine wpQuiet_nil ?_
          rintro _ ⟨⟨w5, hbS⟩, rfl⟩
          go_wp2_with fail
          go_ret
          exact ⟨by rw [HE.out]; rfl, hbw.trans (hbS.mono hs)⟩
        | false =>
          have HE : Hid (∀ m, m < j + 1 → levOK ns (nd ns i) m = true) := fun m hm => by
            rcases Nat.lt_succ_iff_lt_or_eq.1 hm with h | rfl
            · exact HX.out m h
            · rw [HLO.out, e1, e2]; rfl
          go_wp2_with fail
          refine wp_region_after (by kernel_rfl) (by kernel_rfl) ?_
          repeat (go_big_quiet_step (first | (go_at_call 143; exact After.of (ret_eq (is_any _ _ _ _ _ _ _ _ _) (congrArg Value.bool e1))) | (go_at_call 140; exact After.of (level_any _ _ _ _ _ _ _ _)) | (go_at_call 144; exact After.of (least_any _ _ _ _ _ _ _ _ _))))
          refine wpQuiet_nil ?_
          rintro _ ⟨⟨w5, hbS⟩, rfl⟩
          go_wp2_with fail
          rw [← HKA.out]
          go_roundg d
          case measure => omega
          case rel =>
            exact ⟨j + 1, by go_num, by have := HJ.out; omega, HE.out, (hbS.block _ l5).trans HL.out, hbw.trans (hbS.mono hs)⟩
end Go.Proofs.Ytmaepljmefdhkaa
