import Derived.Test.YtmaepljmefdhkaaLawA
import Derived.Test.YtmaepljmefdhkaaLawCF
import Derived.Test.YtmaepljmefdhkaaLawGL
namespace Go.Proofs.Ytmaepljmefdhkaa
open Go.RowKit Go.Maps
set_option maxHeartbeats 16000000
set_option maxRecDepth 100000

theorem names_code {l : List Nd} (h : (namesF l).2.2 ≠ 0) : (namesF l).1 = ([], []) := by
  by_cases hc : (checkF l).2 ≠ 0
  · rw [namesF, if_pos hc]
  · obtain ⟨A, hA⟩ : ∃ A, A = withinF (allF (nodeF l (FF l) l.length) (nd l (l.length - 1)).kids) (st0 l) := ⟨_, rfl⟩
    have e1 : namesF l = if A.code ≠ 0 then (([], []), A.at_, A.code) else ((A.ref, A.free), 0, 0) := by rw [namesF, if_neg hc, hA]; rfl
    rw [e1] at h ⊢
    by_cases h1 : A.code ≠ 0
    · rw [if_pos h1]
    · rw [if_neg h1] at h; exact absurd rfl h
theorem names_check {l : List Nd} (h : (namesF l).2.2 = 0) : (checkF l).2 = 0 := by
  by_cases hc : (checkF l).2 ≠ 0
  · rw [namesF, if_pos hc] at h; exact absurd h hc
  · simpa using hc
theorem names_bad (A : Option Addr) (c : Nat) (ns : List Nd) (w : World) (hl : NodesAt w A ns) (h : (namesF ns).2.2 ≠ 0) :
    Calls Try.prog 24 #[.slice A ns.length c] w fun e w' => ∃ B d B2 d2 a co, co ≠ 0 ∧ e = .returned (.tuple #[.agg #[.slice B 0 d, .slice B2 0 d2], .agg #[.int .i64 a, .int .i64 co]]) ∧ Below w.heap.size w w' := by
  refine (names_any A c ns w hl).mono ?_
  rintro e w' ⟨rV, fV, rfl, ⟨⟨B, d, rfl, _⟩, ⟨B2, d2, rfl, _⟩, _, _, _⟩, hb⟩
  rw [names_code h]
  exact ⟨B, d, B2, d2, _, _, h, rfl, hb⟩
theorem names_good (A : Option Addr) (c : Nat) (ns : List Nd) (w : World) (hl : NodesAt w A ns) (h : (namesF ns).2.2 = 0) :
    Calls Try.prog 24 #[.slice A ns.length c] w fun e w' => ∃ B d B2 d2 a ref fr, e = .returned (.tuple #[.agg #[.slice B ns.length d, .slice B2 ns.length d2], .agg #[.int .i64 a, .int .i64 0]]) ∧ Below w.heap.size w w' ∧
      SaysOk ns ref fr ∧ TreeOk ns ∧ IntsAt w' B ref ∧ ListsAt w' B2 fr ∧ (∀ p, (fr.getD p []).length ≤ big + 3) := by
  refine (names_any A c ns w hl).mono ?_
  rintro e w' ⟨rV, fV, rfl, ⟨⟨B, d, rfl, i1⟩, ⟨B2, d2, rfl, i2⟩, q1, q2, q3⟩, hb⟩
  obtain ⟨S, T⟩ := says_ok (names_check h) h
  refine ⟨B, d, B2, d2, (namesF ns).2.1, _, _, ?_, hb, S, T, i1, i2, q3⟩
  rw [S.rlen, S.flen, h]
theorem nodes_alloc2 {w : World} {A : Option Addr} {ns : List Nd} (h : NodesAt w A ns) (o o' : Obj) : NodesAt ((w.alloc o).alloc o') A ns :=
  h.below (((Below.refl _ _).alloc (Nat.le_refl _) o).alloc (by simp) o')
theorem has_any3 (A : Option Addr) (c : Nat) (l : List Int) (n : Int) (w : World) (hm : l.length ≤ big + 3) (hl : IntsAt w A l) :
    Calls Try.prog 27 #[.slice A l.length c, .int .i64 n] w fun e w' => e = .returned (.bool (hasB l n)) ∧ w = w' := by
  have hm' : (l.length : Int) ≤ 2147483651 := by unfold big at hm; omega
  go_enter Try.func27, Try.ntmps27
  go_wp2
  go_loop [5] (fun i => ∃ k : Nat, k ≤ l.length ∧ i = .int .i64 k ∧ ∀ j, j < k → gi l j ≠ n) (fun i => l.length - (intOf i).toNat)
  case atStart => exact ⟨0, by omega, rfl, by intro j hj; omega⟩
  case round =>
    obtain ⟨k, hk, rfl, hne⟩ := hrel
    have HN := Lib.hid hne
    clear hne
    by_cases hlt : k < l.length
    · obtain ⟨b, o, rfl, hx⟩ := hl k hlt
      clear hl
      go_wp2
      · go_ret
        exact ⟨by rw [hasB_yes hlt ‹_›]; rfl, rfl⟩
      · go_round
        case rel => exact ⟨k + 1, by omega, by go_num, fun j hj => by
            rcases Nat.lt_succ_iff_lt_or_eq.1 hj with h | rfl
            · exact HN.out j h
            · simpa using ‹(gi l _ == n) = false›⟩
        case measure => simp [intOf]; omega
    · clear hl
      go_wp2
      go_ret
      exact ⟨by rw [hasB_no (fun j hj => HN.out j (by omega))]; rfl, rfl⟩
theorem has_mem {l : List Int} {d : Int} (h : d ∈ l) : hasB l d = true := by
  unfold hasB
  rw [List.any_eq_true]
  exact ⟨d, h, by simp⟩
structure SaysW (W : World) (A B B2 : Option Addr) (ns : List Nd) (ref : List Int) (fr : List (List Int)) (d d2 g1 g3 : Nat) : Prop where
  nodes : NodesAt W A ns
  r : IntsAt W B ref
  f : ListsAt W B2 fr
  up : IntsBlk W g3 (upF ns)
  c0 : W.cell? ⟨g1, 0, none⟩ = some (.slice B ns.length d)
  c1 : W.cell? ⟨g1, 1, none⟩ = some (.slice B2 ns.length d2)
theorem SaysW.drew {W : World} {A B B2 : Option Addr} {ns : List Nd} {ref : List Int} {fr : List (List Int)} {d d2 g1 g3 : Nat} (h : SaysW W A B B2 ns ref fr d d2 g1 g3) (n : Nat) : SaysW (W.drewN n) A B B2 ns ref fr d d2 g1 g3 :=
  ⟨⟨h.nodes.size, fun i hi => by obtain ⟨b, o, e, q⟩ := h.nodes.node i hi; exact ⟨b, o, e, ⟨q.kind, q.at_, q.kids, q.name, q.num, q.many, q.nsz, q.row⟩⟩⟩, h.r, h.f, h.up, h.c0, h.c1⟩
theorem lists_below {w w' : World} {A : Option Addr} {fr : List (List Int)} (h : ListsAt w A fr) (hb : Below w.heap.size w w') : ListsAt w' A fr := fun p hp => by
  obtain ⟨b, o, A', c', e, hc, hi, hq⟩ := h p hp
  exact ⟨b, o, A', c', e, cell_below hc hb, hi.below hb, hq⟩
theorem says_world {w2 w3 : World} {A B B2 : Option Addr} {ns : List Nd} {ref : List Int} {fr : List (List Int)} {d d2 : Nat} {y z : Value}
    (hN : NodesAt w2 A ns) (h1 : IntsAt w2 B ref) (h2 : ListsAt w2 B2 fr) (hb : Below (w2.heap.size + 1 + 1) ((w2.alloc (.cells #[.slice B ns.length d, .slice B2 ns.length d2] 39)).alloc (.cells #[y, z] 42)) w3) (hU : IntsBlk w3 (w2.heap.size + 1 + 1) (upF ns)) :
    SaysW w3 A B B2 ns ref fr d d2 w2.heap.size (w2.heap.size + 1 + 1) := by
  have hb2 : Below w2.heap.size w2 ((w2.alloc (.cells #[.slice B ns.length d, .slice B2 ns.length d2] 39)).alloc (.cells #[y, z] 42)) := ((Below.refl _ _).alloc (Nat.le_refl _) _).alloc (by simp) _
  have hb3 := hb2.trans (hb.mono (by omega))
  have hx : ((w2.alloc (.cells #[.slice B ns.length d, .slice B2 ns.length d2] 39)).alloc (.cells #[y, z] 42)).heap[w2.heap.size]? = some (.cells #[.slice B ns.length d, .slice B2 ns.length d2] 39) := by
    rw [Below.heap_alloc _ _ _ (by show _ < (World.alloc _ _).heap.size; rw [World.size_alloc]; omega)]
    exact heap_alloc_new w2 _
  have hx3 := (hb.block w2.heap.size (by omega)).trans hx
  exact ⟨hN.below hb3, h1.below hb3, lists_below h2 hb3, hU, by rw [cell_of_row _ _ _ _ _ _ hx3]; rfl, by rw [cell_of_row _ _ _ _ _ _ hx3]; rfl⟩
theorem bytes_ext {a b : ByteArray} (h : a.data.toList = b.data.toList) : a = b := by
  cases a; cases b
  simp only [ByteArray.mk.injEq]
  exact Array.ext' h
theorem up_clm {l : List Nd} (T : TreeOk l) {m i : Nat} (hm : m < l.length) (h1 : gi (FF l) m ≤ (i : Int)) (h2 : i ≤ m) : gi (upF l) m = -1 ∨ ∃ q : Nat, gi (upF l) m = q ∧ m < q ∧ q < l.length ∧ gi (FF l) q ≤ (i : Int) ∧ i ≤ q := by
  rcases up_spec T m hm with ⟨h, _⟩ | ⟨q, ⟨_, hq, j, hj, hk⟩, h⟩
  · exact Or.inl h
  · have h3 := ff_kid T hq hj
    have h4 := kid_lt T.wf hq hj
    rw [hk] at h3
    exact Or.inr ⟨q, h, by omega, hq, by omega, by omega⟩
/-- The climb of says. -/
def Clm (l : List Nd) (i : Nat) (cur : Int) : Prop := cur = -1 ∨ ∃ m : Nat, cur = m ∧ m < l.length ∧ gi (FF l) m ≤ (i : Int) ∧ i ≤ m
theorem up_clm2 {l : List Nd} (T : TreeOk l) {m i : Nat} (hm : m < l.length) (h1 : gi (FF l) m ≤ (i : Int)) (h2 : i ≤ m) : ∃ c : Int, gi (upF l) m = c ∧ Clm l i c ∧ (c < 0 ∨ (m : Int) < c) ∧ -1 ≤ c ∧ c < l.length := by
  rcases up_clm T hm h1 h2 with h | ⟨q, h, q1, q2, q3, q4⟩
  · exact ⟨-1, h, Or.inl rfl, Or.inl (by omega), by omega, by omega⟩
  · exact ⟨q, h, Or.inr ⟨q, rfl, q2, q3, q4⟩, Or.inr (by omega), by omega, by omega⟩
theorem inside_neg {l : List Nd} (T : TreeOk l) {m : Nat} {d : Int} (hm : m < l.length) (hd : d < 0) : insideB (FF l) d m = false := by
  unfold insideB
  rw [decide_eq_false (by have := (ff_le T m hm).1; simp only [Int.toNat_natCast]; omega)]
  rfl
theorem clm_measure {N q : Nat} {c : Int} (hq : q < N) (h3 : c < N) (h : c < 0 ∨ (q : Int) < c) : (if c < 0 then 0 else N - c.toNat) < (if (q : Int) < 0 then 0 else N - (q : Int).toNat) := by
  rw [if_neg (by omega : ¬ (q : Int) < 0)]
  split <;> omega
theorem has_pre (A : Option Addr) (c : Nat) (xs : List Int) (d : Int) (w : World) (j : Nat) (hj : j ≤ xs.length) (hm : xs.length ≤ big + 3) (hl : IntsAt w A xs) :
    Calls Try.prog 27 #[.slice A j c, .int .i64 d] w fun e w' => e = .returned (.bool (hasB (xs.take j) d)) ∧ w = w' := by
  have hlen : (xs.take j).length = j := by rw [List.length_take, Nat.min_eq_left hj]
  have h := has_any3 A c (xs.take j) d w (by rw [hlen]; omega) (fun i hi => by
    rw [hlen] at hi
    obtain ⟨b, o, e, hc⟩ := hl i (by omega)
    refine ⟨b, o, e, ?_⟩
    rw [hc]
    simp [gi, List.getD_eq_getElem?_getD, List.getElem?_take, hi])
  rw [hlen] at h
  exact h
theorem gi_mem {xs : List Int} {j : Nat} (h : j < xs.length) : gi xs j ∈ xs := by
  have : gi xs j = xs[j] := by simp [gi, List.getD_eq_getElem?_getD, List.getElem?_eq_getElem h]
  rw [this]; exact List.getElem_mem h
theorem has_before {xs : List Int} {j : Nat} (hp : xs.Pairwise (· ≠ ·)) (h : j < xs.length) : hasB (xs.take j) (gi xs j) = false := by
  refine hasB_no (fun i hi => ?_)
  rw [List.length_take] at hi
  have hp' := List.pairwise_iff_getElem.1 hp i j (by omega) h (by omega)
  have e1 : gi (xs.take j) i = xs[i] := by simp [gi, List.getD_eq_getElem?_getD, List.getElem?_take, show i < j by omega, List.getElem?_eq_getElem (show i < xs.length by omega)]
  have e2 : gi xs j = xs[j] := by simp [gi, List.getD_eq_getElem?_getD, List.getElem?_eq_getElem h]
  rw [e1, e2]; exact hp'
theorem inside_rng {l : List Nd} {i p : Nat} (h1 : gi (FF l) p ≤ (i : Int)) (h2 : i ≤ p) : insideB (FF l) (i : Int) p = true := by
  simp only [insideB, Bool.and_eq_true, decide_eq_true_eq, Int.toNat_natCast]
  omega
def saysA (A : Option Addr) (c : Nat) (ns : List Nd) (w : World) :
    PSigma fun P : Prop => PSigma fun Q : Prop => (Unit → P) → (Unit → Q) → NodesRaw w A ns → Calls Try.prog 4 #[.slice A ns.length c] w fun e w' => e = .returned (.bool true) ∧ Below w.heap.size w w' := by
  apply PSigma.mk
  apply PSigma.mk
  intro HP1 HP2 hl
  have hby := Lib.hid (beyond_any A c ns w hl)
  cases eb : beyondB ns with
  | true =>
    clear hl
    go_enter Try.func4, Try.ntmps4
    go_wp2_with (go_at_call 22; refine hby.out.mono ?_; rintro e w1 ⟨rfl, rfl⟩; rw [eb])
    go_ret
    exact ⟨rfl, Below.refl _ _⟩
  | false =>
    have hN := nodes_of_raw hl eb
    have HL := Lib.hid hN
    have hsz := big_le hN.size
    have hbig := hN.size
    by_cases hcode : (namesF ns).2.2 = 0
    case neg =>
      have HC := Lib.hid hcode
      clear hl hN hcode
      go_enter Try.func4, Try.ntmps4
      go_wp2_with (first
        | (go_at_call 22; refine hby.out.mono ?_; rintro e w1 ⟨rfl, rfl⟩; rw [eb])
        | (go_at_call 23; refine (shown_any _).mono ?_; rintro e w1 ⟨rfl, hb1⟩; have HB1 := Lib.hid hb1; clear hb1)
        | (go_at_call 24; refine (names_bad _ _ ns _ (HL.out.below HB1.out) HC.out).mono ?_; rintro e w2 ⟨B, d, B2, d2, a, co, hco, rfl, hb2⟩; have HB2 := Lib.hid hb2; have hcb : (co != 0) = true := (by simpa using hco); clear hb2))
      go_ret
      exact ⟨rfl, ((HB1.out.trans (HB2.out.mono HB1.out.size)).alloc (Nat.le_trans HB1.out.size HB2.out.size) _).alloc (Nat.le_trans HB1.out.size (Nat.le_trans HB2.out.size (by simp))) _⟩
    case pos =>
      have HC := Lib.hid hcode
      clear hl hN hcode
      go_enter Try.func4, Try.ntmps4
      go_wp2_with (first
        | (go_at_call 22; refine hby.out.mono ?_; rintro e w1 ⟨rfl, rfl⟩; rw [eb])
        | (go_at_call 23; refine (shown_any _).mono ?_; rintro e w1 ⟨rfl, hb1⟩; have HB1 := Lib.hid hb1; clear hb1)
        | (go_at_call 24; refine (names_good _ _ ns _ (HL.out.below HB1.out) HC.out).mono ?_; rintro e w2 ⟨B, d, B2, d2, a, ref, fr, rfl, hb2, hS, hT, hi1, hi2, hq3⟩; have HN2 := Lib.hid ((HL.out.below HB1.out).below hb2); have HB2 := Lib.hid (HB1.out.trans (hb2.mono HB1.out.size)); have HS := Lib.hid hS; have HT := Lib.hid hT; have H1 := Lib.hid hi1; have H2 := Lib.hid hi2; have HQ := Lib.hid hq3; clear hb2 hS hT hi1 hi2 hq3)
        | (go_at_call 25; refine (kidOf_any _ _ ns _ (nodes_alloc2 HN2.out _ _) HT.out.wf).mono ?_; rintro e w3 ⟨rfl, hup, hb3⟩; have HU := Lib.hid hup; have HB3 := Lib.hid hb3; clear hup hb3))
      have HSW := Lib.hid (says_world HN2.out H1.out H2.out (by simpa using HB3.out) (by simpa using HU.out))
      have HBB : Hid (Below w.heap.size w w3) := ((HB2.out.trans ((((Below.refl _ _).alloc (Nat.le_refl _) _).alloc (by simp) _).mono HB2.out.size)).trans (HB3.out.mono (by have h1 := HB2.out.size; rw [World.size_alloc, World.size_alloc]; omega)))
      clear HB1 HB2 HB3 HU H1 H2 HN2 HL
      have hTw := HT.out
      go_loopw [6] (fun i wr => ∃ (k n : Nat), k ≤ ns.length ∧ i = .int .i64 k ∧ wr = w3.drewN n) (fun i _ => ns.length - (intOf i).toNat)
      case atStart => exact ⟨0, 0, by omega, rfl, rfl⟩
      case round =>
        obtain ⟨k, n0, hk, rfl, hw⟩ := hrel
        have HX : Hid (SaysW wr A B B2 ns ref fr d d2 w2.heap.size (w2.heap.size + 1 + 1)) := by rw [hw]; exact HSW.out.drew n0
        have HW := Lib.hid hw
        clear hw hTw
        by_cases hlt : k < ns.length
        · clear HP2
          rename_i Q' K hK
          revert hby eb hsz hbig HC Q' w1 w2 B d B2 d2 a ref fr HS HT HQ w3 K hK HSW HBB wr u2 u7 u8 u52 u53 u54 u55 u56 u57 u58 u59 u60 u61 u62 u63 u64 u65 u66 u67 u68 u69 u70 u71 u72 u73 u74 u75 u76 u77 u78 u79 u80 u81 u82 u83 u84 u85 u86 u87 u88 u89 u90 u91 u92 u93 u94 u95 u96 u97 u98 u99 u100 u101 u102 u103 u104 u105 u106 u107 u108 u109 u110 u111 u112 u113 u114 u115 u116 u117 u118 u119 u120 u121 u122 u123 u124 u125 u126 u127 u128 u129 u130 u131 u132 u133 u134 u135 u136 u137 u138 u139 u140 u141 u142 u143 u144 u145 u146 u147 u148 u149 u150 u151 u152 u153 u154 u155 u156 u157 u158 u159 u160 u161 u162 u163 u164 u165 u166 u167 u168 u169 u170 u171 u172 u173 u174 k n0 hk HX HW hlt
          exact HP1 ()
        · clear HP1
          rename_i Q' K hK
          revert hby eb hsz hbig HC Q' w1 w2 B d B2 d2 a ref fr HS HT HQ w3 K hK HSW HBB wr u2 u7 u8 u52 u53 u54 u55 u56 u57 u58 u59 u60 u61 u62 u63 u64 u65 u66 u67 u68 u69 u70 u71 u72 u73 u74 u75 u76 u77 u78 u79 u80 u81 u82 u83 u84 u85 u86 u87 u88 u89 u90 u91 u92 u93 u94 u95 u96 u97 u98 u99 u100 u101 u102 u103 u104 u105 u106 u107 u108 u109 u110 u111 u112 u113 u114 u115 u116 u117 u118 u119 u120 u121 u122 u123 u124 u125 u126 u127 u128 u129 u130 u131 u132 u133 u134 u135 u136 u137 u138 u139 u140 u141 u142 u143 u144 u145 u146 u147 u148 u149 u150 u151 u152 u153 u154 u155 u156 u157 u158 u159 u160 u161 u162 u163 u164 u165 u166 u167 u168 u169 u170 u171 u172 u173 u174 k n0 hk HX HW hlt
          exact HP2 ()
end Go.Proofs.Ytmaepljmefdhkaa
