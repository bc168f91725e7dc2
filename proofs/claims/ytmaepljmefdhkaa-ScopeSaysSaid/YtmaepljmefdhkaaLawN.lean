import Derived.Test.YtmaepljmefdhkaaLawM
namespace Go.Proofs.Ytmaepljmefdhkaa
open Go.RowKit Go.Maps
set_option maxHeartbeats 16000000
set_option maxRecDepth 100000

theorem saysP1 (A : Option Addr) (c : Nat) (ns : List Nd) (w : World) : (saysA A c ns w).1 := by
  dsimp -zeta only [saysA]
  intro hby eb hsz hbig HC Q' w1 w2 B d B2 d2 a ref fr HS HT HQ w3 K hK HSW HBB wr u2 u7 u8 u52 u53 u54 u55 u56 u57 u58 u59 u60 u61 u62 u63 u64 u65 u66 u67 u68 u69 u70 u71 u72 u73 u74 u75 u76 u77 u78 u79 u80 u81 u82 u83 u84 u85 u86 u87 u88 u89 u90 u91 u92 u93 u94 u95 u96 u97 u98 u99 u100 u101 u102 u103 u104 u105 u106 u107 u108 u109 u110 u111 u112 u113 u114 u115 u116 u117 u118 u119 u120 u121 u122 u123 u124 u125 u126 u127 u128 u129 u130 u131 u132 u133 u134 u135 u136 u137 u138 u139 u140 u141 u142 u143 u144 u145 u146 u147 u148 u149 u150 u151 u152 u153 u154 u155 u156 u157 u158 u159 u160 u161 u162 u163 u164 u165 u166 u167 u168 u169 u170 u171 u172 u173 u174 k n0 hk HX HW hlt
  obtain ⟨rb, ro, rfl, xr⟩ := HX.out.r k (by rw [HS.out.rlen]; exact hlt)
  obtain ⟨ab, ao, rfl, nk⟩ := HX.out.nodes.node k hlt
  have xk := nk.kind
  have xc0 := HX.out.c0
  have xc1 := HX.out.c1
  by_cases h13 : (nd ns k).kind = 13
  · obtain ⟨hM, hsome⟩ := HS.out.some k hlt h13
    rw [h13] at xk
    have xnm := nk.name
    clear nk h13
    rcases hM with ⟨hd, hnm⟩ | ⟨hd, hnm⟩ | ⟨m, hm, hd, hnm⟩
    case inl =>
      rw [hd] at xr hsome
      rw [show (nd ns k).name = ⟨#[105, 110, 112, 117, 116]⟩ from bytes_ext hnm] at xnm
      have HSM := Lib.hid hsome
      clear hd hnm hsome
      go_wp2_with fail
      have e1 : ((-2 : Int) == -1) = false := rfl
      have e2 : ((-2 : Int) == -2) = true := rfl
      have e3 : ((-2 : Int) == -3) = false := rfl
      have e4 : ¬ (-2 : Int) < -3 := by omega
      have e5 : decide ((-2 : Int) < -3) = false := decide_eq_false e4
      have e6 : ¬ (ns.length : Int) ≤ (-2 : Int) := by omega
      have e7 : decide ((ns.length : Int) ≤ (-2 : Int)) = false := decide_eq_false e6
      have e10 : decide ((0 : Int) ≤ (-2 : Int)) = false := rfl
      go_quiet (fail)
      have HXo : Hid (SaysW (wr.drewN nq) (some ⟨ab, ao, none⟩) (some ⟨rb, ro, none⟩) B2 ns ref fr d d2 w2.heap.size (w2.heap.size + 1 + 1)) := HX.out.drew nq
      have HWo : Hid (wr.drewN nq = w3.drewN (n0 + nq)) := Lib.hid (by rw [HW.out, World.drewN_drewN])
      clear HX HW xr xk xc0 xc1 xnm
      obtain ⟨wo, hwo⟩ : ∃ wo, wo = wr.drewN nq := ⟨_, rfl⟩
      rw [← hwo] at HXo HWo ⊢
      clear hwo
      obtain ⟨c0, hc0, hclm0, _, hl0, hl1⟩ := up_clm2 HT.out hlt (ff_le HT.out k hlt).2 (Nat.le_refl k)
      have xup := HXo.out.up.cell (i := k) (by rw [upF_len]; exact hlt)
      rw [hc0] at xup
      have HC0 := Lib.hid hclm0
      clear hc0 hclm0
      go_wp2_with fail
      go_loop [8] (fun v => ∃ cur : Int, v = .int .i64 cur ∧ -1 ≤ cur ∧ cur < ns.length ∧ Clm ns k cur) (fun v => if intOf v < 0 then 0 else ns.length - (intOf v).toNat)
      case atStart => exact ⟨c0, rfl, hl0, hl1, HC0.out⟩
      case round =>
        obtain ⟨cur, rfl, h1, h2, hcl⟩ := hrel
        clear xup HC0
        rcases hcl with rfl | ⟨q, rfl, hq, hq1, hq2⟩
        · go_wp2_with fail
          go_roundw
          case rel => exact ⟨k + 1, n0 + nq, by omega, by go_num, HWo.out⟩
          case measure => simp [intOf]; omega
        · obtain ⟨ab2, ao2, e2', nq2⟩ := HXo.out.nodes.node q hq
          obtain ⟨rfl, rfl⟩ : ab = ab2 ∧ ao = ao2 := by simpa using e2'
          have xqk := nq2.kind
          obtain ⟨c1, hc1, hclm1, hlt1, hl2, hl3⟩ := up_clm2 HT.out hq hq1 hq2
          have xuq := HXo.out.up.cell (i := q) (by rw [upF_len]; exact hq)
          rw [hc1] at xuq
          have HC1 := Lib.hid hclm1
          have yc1 := HXo.out.c1
          clear hc1 hclm1 nq2 e2'
          have rest : ∀ u : Prop, u → u := fun _ h => h
          clear rest
          by_cases h20 : (nd ns q).kind = 20
          · rw [h20] at xqk
            have hsm := HSM.out q hq h20 hq1 hq2
            obtain ⟨lb, lo, A', c', rfl, xl, il, _⟩ := HXo.out.f q (by rw [HS.out.flen]; exact hq)
            have HIL := Lib.hid il
            have hql := HQ.out q
            obtain ⟨xs, hxs⟩ : ∃ xs, xs = fr.getD q [] := ⟨_, rfl⟩
            rw [← hxs] at xl hql HIL hsm
            clear hxs il h20
            rw [inside_neg HT.out hq (by omega : ((-2) : Int) < 0)] at hsm
            have hmem := has_mem (hsm.resolve_left (by simp)).1
            have eq1 : (((-2) : Int) == (q : Int)) = false := by rw [beq_eq_false_iff_ne]; omega
            have HME := Lib.hid hmem
            clear hsm hmem
            go_wp2_with (first | (go_at_call 27; refine (has_any3 _ _ xs (-2) _ hql (by exact HIL.out)).mono ?_; rintro e w4 ⟨rfl, rfl⟩; rw [HME.out]))
            go_round
            case rel => exact ⟨c1, rfl, hl2, hl3, HC1.out⟩
            case measure => exact clm_measure hq hl3 hlt1
          · have h20b : ((nd ns q).kind == 20) = false := by simpa using h20
            go_wp2_with fail
            go_round
            case rel => exact ⟨c1, rfl, hl2, hl3, HC1.out⟩
            case measure => exact clm_measure hq hl3 hlt1
    case inr.inl =>
      rw [hd] at xr hsome
      rw [show (nd ns k).name = ⟨#[111, 117, 116, 112, 117, 116]⟩ from bytes_ext hnm] at xnm
      have HSM := Lib.hid hsome
      clear hd hnm hsome
      go_wp2_with fail
      have e1 : ((-3 : Int) == -1) = false := rfl
      have e2 : ((-3 : Int) == -2) = false := rfl
      have e3 : ((-3 : Int) == -3) = true := rfl
      have e4 : ¬ (-3 : Int) < -3 := by omega
      have e5 : decide ((-3 : Int) < -3) = false := decide_eq_false e4
      have e6 : ¬ (ns.length : Int) ≤ (-3 : Int) := by omega
      have e7 : decide ((ns.length : Int) ≤ (-3 : Int)) = false := decide_eq_false e6
      have e10 : decide ((0 : Int) ≤ (-3 : Int)) = false := rfl
      go_quiet (fail)
      have HXo : Hid (SaysW (wr.drewN nq) (some ⟨ab, ao, none⟩) (some ⟨rb, ro, none⟩) B2 ns ref fr d d2 w2.heap.size (w2.heap.size + 1 + 1)) := HX.out.drew nq
      have HWo : Hid (wr.drewN nq = w3.drewN (n0 + nq)) := Lib.hid (by rw [HW.out, World.drewN_drewN])
      clear HX HW xr xk xc0 xc1 xnm
      obtain ⟨wo, hwo⟩ : ∃ wo, wo = wr.drewN nq := ⟨_, rfl⟩
      rw [← hwo] at HXo HWo ⊢
      clear hwo
      obtain ⟨c0, hc0, hclm0, _, hl0, hl1⟩ := up_clm2 HT.out hlt (ff_le HT.out k hlt).2 (Nat.le_refl k)
      have xup := HXo.out.up.cell (i := k) (by rw [upF_len]; exact hlt)
      rw [hc0] at xup
      have HC0 := Lib.hid hclm0
      clear hc0 hclm0
      go_wp2_with fail
      go_loop [8] (fun v => ∃ cur : Int, v = .int .i64 cur ∧ -1 ≤ cur ∧ cur < ns.length ∧ Clm ns k cur) (fun v => if intOf v < 0 then 0 else ns.length - (intOf v).toNat)
      case atStart => exact ⟨c0, rfl, hl0, hl1, HC0.out⟩
      case round =>
        obtain ⟨cur, rfl, h1, h2, hcl⟩ := hrel
        clear xup HC0
        rcases hcl with rfl | ⟨q, rfl, hq, hq1, hq2⟩
        · go_wp2_with fail
          go_roundw
          case rel => exact ⟨k + 1, n0 + nq, by omega, by go_num, HWo.out⟩
          case measure => simp [intOf]; omega
        · obtain ⟨ab2, ao2, e2', nq2⟩ := HXo.out.nodes.node q hq
          obtain ⟨rfl, rfl⟩ : ab = ab2 ∧ ao = ao2 := by simpa using e2'
          have xqk := nq2.kind
          obtain ⟨c1, hc1, hclm1, hlt1, hl2, hl3⟩ := up_clm2 HT.out hq hq1 hq2
          have xuq := HXo.out.up.cell (i := q) (by rw [upF_len]; exact hq)
          rw [hc1] at xuq
          have HC1 := Lib.hid hclm1
          have yc1 := HXo.out.c1
          clear hc1 hclm1 nq2 e2'
          have rest : ∀ u : Prop, u → u := fun _ h => h
          clear rest
          by_cases h20 : (nd ns q).kind = 20
          · rw [h20] at xqk
            have hsm := HSM.out q hq h20 hq1 hq2
            obtain ⟨lb, lo, A', c', rfl, xl, il, _⟩ := HXo.out.f q (by rw [HS.out.flen]; exact hq)
            have HIL := Lib.hid il
            have hql := HQ.out q
            obtain ⟨xs, hxs⟩ : ∃ xs, xs = fr.getD q [] := ⟨_, rfl⟩
            rw [← hxs] at xl hql HIL hsm
            clear hxs il h20
            rw [inside_neg HT.out hq (by omega : ((-3) : Int) < 0)] at hsm
            have hmem := has_mem (hsm.resolve_left (by simp)).1
            have eq1 : (((-3) : Int) == (q : Int)) = false := by rw [beq_eq_false_iff_ne]; omega
            have HME := Lib.hid hmem
            clear hsm hmem
            go_wp2_with (first | (go_at_call 27; refine (has_any3 _ _ xs (-3) _ hql (by exact HIL.out)).mono ?_; rintro e w4 ⟨rfl, rfl⟩; rw [HME.out]))
            go_round
            case rel => exact ⟨c1, rfl, hl2, hl3, HC1.out⟩
            case measure => exact clm_measure hq hl3 hlt1
          · have h20b : ((nd ns q).kind == 20) = false := by simpa using h20
            go_wp2_with fail
            go_round
            case rel => exact ⟨c1, rfl, hl2, hl3, HC1.out⟩
            case measure => exact clm_measure hq hl3 hlt1
    case inr.inr =>
      rw [hd] at xr hsome
      obtain ⟨ab', ao', e', nm⟩ := HX.out.nodes.node m hm
      obtain ⟨rfl, rfl⟩ : ab = ab' ∧ ao = ao' := by simpa using e'
      have xmn := nm.name
      rw [show (nd ns m).name = (nd ns k).name from bytes_ext hnm] at xmn
      have HSM := Lib.hid hsome
      clear hd hnm hsome nm e'
      go_wp2_with fail
      have e1 : ((m : Int) == -1) = false := by rw [beq_eq_false_iff_ne]; omega
      have e2 : ((m : Int) == -2) = false := by rw [beq_eq_false_iff_ne]; omega
      have e3 : ((m : Int) == -3) = false := by rw [beq_eq_false_iff_ne]; omega
      have e4 : ¬ (m : Int) < -3 := by omega
      have e5 : decide ((m : Int) < -3) = false := decide_eq_false e4
      have e6 : ¬ (ns.length : Int) ≤ (m : Int) := by omega
      have e7 : decide ((ns.length : Int) ≤ (m : Int)) = false := decide_eq_false e6
      have e8 : ¬ ns.length ≤ m := by omega
      have e9 : decide (ns.length ≤ m) = false := decide_eq_false e8
      have e10 : decide ((0 : Int) ≤ m) = true := decide_eq_true (by omega)
      go_quiet (fail)
      have HXo : Hid (SaysW (wr.drewN nq) (some ⟨ab, ao, none⟩) (some ⟨rb, ro, none⟩) B2 ns ref fr d d2 w2.heap.size (w2.heap.size + 1 + 1)) := HX.out.drew nq
      have HWo : Hid (wr.drewN nq = w3.drewN (n0 + nq)) := Lib.hid (by rw [HW.out, World.drewN_drewN])
      clear HX HW xr xk xc0 xc1 xnm xmn
      obtain ⟨wo, hwo⟩ : ∃ wo, wo = wr.drewN nq := ⟨_, rfl⟩
      rw [← hwo] at HXo HWo ⊢
      clear hwo
      obtain ⟨c0, hc0, hclm0, _, hl0, hl1⟩ := up_clm2 HT.out hlt (ff_le HT.out k hlt).2 (Nat.le_refl k)
      have xup := HXo.out.up.cell (i := k) (by rw [upF_len]; exact hlt)
      rw [hc0] at xup
      have HC0 := Lib.hid hclm0
      clear hc0 hclm0
      go_wp2_with fail
      go_loop [8] (fun v => ∃ cur : Int, v = .int .i64 cur ∧ -1 ≤ cur ∧ cur < ns.length ∧ Clm ns k cur) (fun v => if intOf v < 0 then 0 else ns.length - (intOf v).toNat)
      case atStart => exact ⟨c0, rfl, hl0, hl1, HC0.out⟩
      case round =>
        obtain ⟨cur, rfl, h1, h2, hcl⟩ := hrel
        clear xup HC0
        rcases hcl with rfl | ⟨q, rfl, hq, hq1, hq2⟩
        · go_wp2_with fail
          go_roundw
          case rel => exact ⟨k + 1, n0 + nq, by omega, by go_num, HWo.out⟩
          case measure => simp [intOf]; omega
        · obtain ⟨ab2, ao2, e2', nq2⟩ := HXo.out.nodes.node q hq
          obtain ⟨rfl, rfl⟩ : ab = ab2 ∧ ao = ao2 := by simpa using e2'
          have xqk := nq2.kind
          obtain ⟨c1, hc1, hclm1, hlt1, hl2, hl3⟩ := up_clm2 HT.out hq hq1 hq2
          have xuq := HXo.out.up.cell (i := q) (by rw [upF_len]; exact hq)
          rw [hc1] at xuq
          have HC1 := Lib.hid hclm1
          have yc1 := HXo.out.c1
          clear hc1 hclm1 nq2 e2'
          have rest : ∀ u : Prop, u → u := fun _ h => h
          clear rest
          by_cases h20 : (nd ns q).kind = 20
          · rw [h20] at xqk
            have hsm := HSM.out q hq h20 hq1 hq2
            obtain ⟨lb, lo, A', c', rfl, xl, il, _⟩ := HXo.out.f q (by rw [HS.out.flen]; exact hq)
            have HIL := Lib.hid il
            have hql := HQ.out q
            obtain ⟨xs, hxs⟩ : ∃ xs, xs = fr.getD q [] := ⟨_, rfl⟩
            rw [← hxs] at xl hql HIL hsm
            clear hxs il h20
            by_cases hqm : m = q
            · subst hqm
              have eq1 : ((m : Int) == (m : Int)) = true := by simp
              clear hsm
              go_wp2_with fail
              go_round
              case rel => exact ⟨c1, rfl, hl2, hl3, HC1.out⟩
              case measure => exact clm_measure hq hl3 hlt1
            · have eq1 : ((m : Int) == (q : Int)) = false := by rw [beq_eq_false_iff_ne]; omega
              cases hin : insideB (FF ns) (m : Int) q with
              | true =>
                have HIN := Lib.hid hin
                clear hsm hin
                go_wp2_with (first | (go_at_call 26; refine (within5_any HT.out hbig _ m q _ (by exact HXo.out.up) hm hq).mono ?_; rintro e w4 ⟨rfl, rfl⟩; rw [HIN.out]))
                go_round
                case rel => exact ⟨c1, rfl, hl2, hl3, HC1.out⟩
                case measure => exact clm_measure hq hl3 hlt1
              | false =>
                rw [hin] at hsm
                obtain ⟨hmem0, hvar⟩ := hsm.resolve_left (by simp)
                have HME := Lib.hid (has_mem hmem0)
                have HIN := Lib.hid hin
                have h32 : ((nd ns m).kind == 32) = false := by simpa [isVarB] using hvar
                obtain ⟨ab3, ao3, e3', nm3⟩ := HXo.out.nodes.node m hm
                obtain ⟨rfl, rfl⟩ : ab = ab3 ∧ ao = ao3 := by simpa using e3'
                have xmk := nm3.kind
                clear hsm hmem0 hin hvar nm3 e3'
                go_wp2_with (first | (go_at_call 26; refine (within5_any HT.out hbig _ m q _ (by exact HXo.out.up) hm hq).mono ?_; rintro e w4 ⟨rfl, rfl⟩; rw [HIN.out]) | (go_at_call 27; refine (has_any3 _ _ xs m _ hql (by exact HIL.out)).mono ?_; rintro e w4 ⟨rfl, rfl⟩; rw [HME.out]))
                go_round
                case rel => exact ⟨c1, rfl, hl2, hl3, HC1.out⟩
                case measure => exact clm_measure hq hl3 hlt1
          · have h20b : ((nd ns q).kind == 20) = false := by simpa using h20
            go_wp2_with fail
            go_round
            case rel => exact ⟨c1, rfl, hl2, hl3, HC1.out⟩
            case measure => exact clm_measure hq hl3 hlt1
  · have hno := HS.out.none k hlt h13
    rw [hno] at xr
    have hk13 : ((nd ns k).kind == 13) = false := by simpa using h13
    clear nk
    go_wp2_with fail
    go_roundw
    case rel => exact ⟨k + 1, n0, by omega, by go_num, HW.out⟩
    case measure => simp [intOf]; omega
end Go.Proofs.Ytmaepljmefdhkaa
