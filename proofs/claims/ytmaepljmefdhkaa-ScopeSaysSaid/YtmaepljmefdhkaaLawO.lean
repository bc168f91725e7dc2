import Derived.Test.YtmaepljmefdhkaaLawN
namespace Go.Proofs.Ytmaepljmefdhkaa
open Go.RowKit Go.Maps
set_option maxHeartbeats 16000000
set_option maxRecDepth 100000

theorem saysP2 (A : Option Addr) (c : Nat) (ns : List Nd) (w : World) : (saysA A c ns w).2.1 := by
  dsimp -zeta only [saysA]
  intro hby eb hsz hbig HC Q' w1 w2 B d B2 d2 a ref fr HS HT HQ w3 K hK HSW HBB wr u2 u7 u8 u52 u53 u54 u55 u56 u57 u58 u59 u60 u61 u62 u63 u64 u65 u66 u67 u68 u69 u70 u71 u72 u73 u74 u75 u76 u77 u78 u79 u80 u81 u82 u83 u84 u85 u86 u87 u88 u89 u90 u91 u92 u93 u94 u95 u96 u97 u98 u99 u100 u101 u102 u103 u104 u105 u106 u107 u108 u109 u110 u111 u112 u113 u114 u115 u116 u117 u118 u119 u120 u121 u122 u123 u124 u125 u126 u127 u128 u129 u130 u131 u132 u133 u134 u135 u136 u137 u138 u139 u140 u141 u142 u143 u144 u145 u146 u147 u148 u149 u150 u151 u152 u153 u154 u155 u156 u157 u158 u159 u160 u161 u162 u163 u164 u165 u166 u167 u168 u169 u170 u171 u172 u173 u174 k n0 hk HX HW hlt
  go_wp2_with fail
  go_loop [9] (fun i => ∃ p : Nat, p ≤ ns.length ∧ i = .int .i64 p) (fun i => ns.length - (intOf i).toNat)
  case atStart => exact ⟨0, by omega, rfl⟩
  case round =>
    obtain ⟨p, hp, rfl⟩ := hrel
    by_cases hlt2 : p < ns.length
    · obtain ⟨ab, ao, rfl, np⟩ := HX.out.nodes.node p hlt2
      have xpk := np.kind
      have yc0 := HX.out.c0
      have yc1 := HX.out.c1
      obtain ⟨lb, lo, A', c', rfl, xl, il, hcap⟩ := HX.out.f p (by rw [HS.out.flen]; exact hlt2)
      obtain ⟨hfr1, hfr2, hfr3⟩ := HS.out.fre p hlt2
      have hql := HQ.out p
      obtain ⟨xs, hxs⟩ : ∃ xs, xs = fr.getD p [] := ⟨_, rfl⟩
      rw [← hxs] at xl il hcap hfr1 hfr2 hfr3 hql
      have HIL := Lib.hid il
      have HF1 := Lib.hid hfr1
      have HF2 := Lib.hid hfr2
      have HF3 := Lib.hid hfr3
      have hqlI : (xs.length : Int) ≤ 2147483651 := by unfold big at hql; omega
      clear hxs il hfr1 hfr2 hfr3 np
      by_cases h20 : (nd ns p).kind = 20
      · rw [h20] at xpk
        clear h20
        go_wp2_with fail
        go_loop [10] (fun i => ∃ j : Nat, j ≤ xs.length ∧ i = .int .i64 j) (fun i => xs.length - (intOf i).toNat)
        case atStart => exact ⟨0, by omega, rfl⟩
        case round =>
          obtain ⟨j, hj, rfl⟩ := hrel
          by_cases hlt3 : j < xs.length
          · obtain ⟨xb, xo, rfl, xd⟩ := HIL.out j hlt3
            have hmm := gi_mem hlt3
            obtain ⟨_, hins, hvar, hne, i0, hi0, hr0, hi1, hi2⟩ := HF1.out _ hmm
            obtain ⟨hd1, hd2⟩ := HF3.out _ hmm
            have HPRE := Lib.hid (has_before HF2.out hlt3)
            have HJ := Lib.hid (inside_rng hi1 hi2)
            obtain ⟨dd, hdd⟩ : ∃ dd, dd = gi xs j := ⟨_, rfl⟩
            rw [← hdd] at xd hins hvar hne hr0 hd1 hd2 HPRE
            have HR0 := Lib.hid hr0
            have hjc : j ≤ c' := by omega
            have hjcI : (j : Int) ≤ c' := by omega
            clear hmm hdd hi1 hi2 hr0
            by_cases hd0 : 0 ≤ dd
            · obtain ⟨m, rfl⟩ : ∃ m : Nat, dd = m := ⟨dd.toNat, by omega⟩
              have hmp : ((m : Int) == (p : Int)) = false := by
                rw [beq_eq_false_iff_ne]
                intro e
                rw [e, inside_self HT.out hlt2] at hins
                cases hins
              have hml : m < ns.length := by omega
              have h32 : ((nd ns m).kind == 32) = false := by simpa [isVarB] using hvar
              obtain ⟨ab3, ao3, e3', nm3⟩ := HX.out.nodes.node m hml
              obtain ⟨rfl, rfl⟩ : ab = ab3 ∧ ao = ao3 := by simpa using e3'
              have xmk := nm3.kind
              have HIN := Lib.hid hins
              clear hins hvar hne nm3 e3'
              go_wp2_with (first | (go_at_call 27; refine (has_pre _ _ xs m _ j hj hql (by exact HIL.out)).mono ?_; rintro e w4 ⟨rfl, rfl⟩; rw [HPRE.out]) | (go_at_call 26; refine (within5_any HT.out hbig _ m p _ (by exact HX.out.up) hml hlt2).mono ?_; rintro e w4 ⟨rfl, rfl⟩; rw [HIN.out]))
              go_loop [12, 13] (fun b i => ∃ (i2 : Nat) (bb : Bool), i = .int .i64 i2 ∧ b = .bool bb ∧ i2 ≤ ns.length ∧ (bb = false → i2 ≤ i0)) (fun _ i => ns.length - (intOf i).toNat)
              case atStart => exact ⟨0, false, rfl, rfl, by omega, fun _ => by omega⟩
              case round =>
                obtain ⟨i2, bb, rfl, rfl, hi3, hi4⟩ := hrel
                cases bb with
                | true =>
                  clear hi4
                  by_cases hlt4 : i2 < ns.length
                  · go_wp2_with fail
                    go_round
                    case rel => exact ⟨j + 1, by omega, by go_num⟩
                    case measure => simp [intOf]; omega
                  · have hge : ¬ (i2 : Int) < ns.length := by omega
                    go_wp2_with fail
                    go_round
                    case rel => exact ⟨j + 1, by omega, by go_num⟩
                    case measure => simp [intOf]; omega
                | false =>
                  have hi5 := hi4 rfl
                  have hlt4 : i2 < ns.length := by omega
                  obtain ⟨rb, ro, rfl, xr⟩ := HX.out.r i2 (by rw [HS.out.rlen]; exact hlt4)
                  clear hi4
                  cases hq : (gi ref i2 == (m : Int)) with
                  | true =>
                    cases hins2 : insideB (FF ns) (i2 : Int) p with
                    | true =>
                      have HIN2 := Lib.hid hins2
                      clear hins2
                      go_wp2_with (first | (go_at_call 26; refine (within5_any HT.out hbig _ i2 p _ (by exact HX.out.up) hlt4 hlt2).mono ?_; rintro e w4 ⟨rfl, rfl⟩; rw [HIN2.out]))
                      go_round
                      case rel => exact ⟨i2 + 1, true, by go_num, rfl, by omega, fun h => by cases h⟩
                      case measure => simp [intOf]; omega
                    | false =>
                      have HIN2 := Lib.hid hins2
                      have hi6 : i2 ≠ i0 := by rintro rfl; rw [HJ.out] at hins2; cases hins2
                      clear hins2
                      go_wp2_with (first | (go_at_call 26; refine (within5_any HT.out hbig _ i2 p _ (by exact HX.out.up) hlt4 hlt2).mono ?_; rintro e w4 ⟨rfl, rfl⟩; rw [HIN2.out]))
                      go_round
                      case rel => exact ⟨i2 + 1, false, by go_num, rfl, by omega, fun _ => by omega⟩
                      case measure => simp [intOf]; omega
                  | false =>
                    have hi6 : i2 ≠ i0 := by rintro rfl; rw [HR0.out] at hq; simp at hq
                    go_wp2_with fail
                    go_round
                    case rel => exact ⟨i2 + 1, false, by go_num, rfl, by omega, fun _ => by omega⟩
                    case measure => simp [intOf]; omega
            · have e10 : decide ((0 : Int) ≤ dd) = false := decide_eq_false hd0
              have hmp : (dd == (p : Int)) = false := by rw [beq_eq_false_iff_ne]; omega
              clear hins hvar
              go_wp2_with (first | (go_at_call 27; refine (has_pre _ _ xs dd _ j hj hql (by exact HIL.out)).mono ?_; rintro e w4 ⟨rfl, rfl⟩; rw [HPRE.out]))
              go_loop [12, 13] (fun b i => ∃ (i2 : Nat) (bb : Bool), i = .int .i64 i2 ∧ b = .bool bb ∧ i2 ≤ ns.length ∧ (bb = false → i2 ≤ i0)) (fun _ i => ns.length - (intOf i).toNat)
              case atStart => exact ⟨0, false, rfl, rfl, by omega, fun _ => by omega⟩
              case round =>
                obtain ⟨i2, bb, rfl, rfl, hi3, hi4⟩ := hrel
                cases bb with
                | true =>
                  clear hi4
                  by_cases hlt4 : i2 < ns.length
                  · go_wp2_with fail
                    go_round
                    case rel => exact ⟨j + 1, by omega, by go_num⟩
                    case measure => simp [intOf]; omega
                  · have hge : ¬ (i2 : Int) < ns.length := by omega
                    go_wp2_with fail
                    go_round
                    case rel => exact ⟨j + 1, by omega, by go_num⟩
                    case measure => simp [intOf]; omega
                | false =>
                  have hi5 := hi4 rfl
                  have hlt4 : i2 < ns.length := by omega
                  obtain ⟨rb, ro, rfl, xr⟩ := HX.out.r i2 (by rw [HS.out.rlen]; exact hlt4)
                  clear hi4
                  cases hq : (gi ref i2 == dd) with
                  | true =>
                    cases hins2 : insideB (FF ns) (i2 : Int) p with
                    | true =>
                      have HIN2 := Lib.hid hins2
                      clear hins2
                      go_wp2_with (first | (go_at_call 26; refine (within5_any HT.out hbig _ i2 p _ (by exact HX.out.up) hlt4 hlt2).mono ?_; rintro e w4 ⟨rfl, rfl⟩; rw [HIN2.out]))
                      go_round
                      case rel => exact ⟨i2 + 1, true, by go_num, rfl, by omega, fun h => by cases h⟩
                      case measure => simp [intOf]; omega
                    | false =>
                      have HIN2 := Lib.hid hins2
                      have hi6 : i2 ≠ i0 := by rintro rfl; rw [HJ.out] at hins2; cases hins2
                      clear hins2
                      go_wp2_with (first | (go_at_call 26; refine (within5_any HT.out hbig _ i2 p _ (by exact HX.out.up) hlt4 hlt2).mono ?_; rintro e w4 ⟨rfl, rfl⟩; rw [HIN2.out]))
                      go_round
                      case rel => exact ⟨i2 + 1, false, by go_num, rfl, by omega, fun _ => by omega⟩
                      case measure => simp [intOf]; omega
                  | false =>
                    have hi6 : i2 ≠ i0 := by rintro rfl; rw [HR0.out] at hq; simp at hq
                    go_wp2_with fail
                    go_round
                    case rel => exact ⟨i2 + 1, false, by go_num, rfl, by omega, fun _ => by omega⟩
                    case measure => simp [intOf]; omega
          · go_wp2_with fail
            go_round
            case rel => exact ⟨p + 1, by omega, by go_num⟩
            case measure => simp [intOf]; omega
      · obtain rfl : xs = [] := List.eq_nil_iff_forall_not_mem.2 (fun d hd => h20 (HF1.out d hd).1)
        have h20b : ((nd ns p).kind == 20) = false := by simpa using h20
        clear hcap
        go_wp2_with fail
        go_loop [10] (fun i => i = .int .i64 0) (fun _ => 0)
        case atStart => rfl
        case round =>
          obtain rfl := hrel
          go_wp2_with fail
          go_round
          case rel => exact ⟨p + 1, by omega, by go_num⟩
          case measure => simp [intOf]; omega
    · go_wp2_with fail
      go_ret
      exact ⟨rfl, by rw [HW.out]; exact below_drewN' HBB.out _⟩
theorem says_walk (A : Option Addr) (c : Nat) (ns : List Nd) (w : World) (hl : NodesRaw w A ns) :
    Calls Try.prog 4 #[.slice A ns.length c] w fun e w' => e = .returned (.bool true) ∧ Below w.heap.size w w' :=
  (saysA A c ns w).2.2 (fun _ => saysP1 A c ns w) (fun _ => saysP2 A c ns w) hl
end Go.Proofs.Ytmaepljmefdhkaa
