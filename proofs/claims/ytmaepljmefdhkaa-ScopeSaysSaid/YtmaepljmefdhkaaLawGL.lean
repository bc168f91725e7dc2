import Derived.Test.YtmaepljmefdhkaaScopeAC
import Derived.OpenShut
import Derived.ChangeSame
import Derived.Deep.Slices
import Derived.DataShut
import Derived.Test.YtmaepljmefdhkaaLawCF
import Derived.Test.YtmaepljmefdhkaaRows
import Derived.WalkKit
import Derived.ProofKit
import Derived.Below
import Derived.WideShapes
section
namespace Go.Proofs.Ytmaepljmefdhkaa
open Go.RowKit Go.Maps
set_option maxHeartbeats 2000000
set_option maxRecDepth 100000

/-! law05: more, beyond, sameInts, sameLists, sameNames. -/
def moreF (n k : Int) : Int := if 2147483647 < n ∨ 2147483647 - n < k then 2147483648 else n + k
theorem moreF_bd {n k : Int} (hn : 0 ≤ n ∧ n ≤ 2147483648) (hk : 0 ≤ k) : 0 ≤ moreF n k ∧ moreF n k ≤ 2147483648 := by
  unfold moreF; split <;> omega
theorem more_any (n k : Int) (w : World) (hn : 0 ≤ n ∧ n ≤ 2147483648) (hk : 0 ≤ k ∧ k ≤ 9223372036854775807) :
    Calls Try.prog 69 #[.int .i64 n, .int .i64 k] w fun e w' => e = .returned (.int .i64 (moreF n k)) ∧ w = w' := by
  obtain ⟨n0, n1⟩ := hn
  obtain ⟨k0, k1⟩ := hk
  by_cases h1 : 2147483647 < n
  · have HE : Hid (moreF n k = 2147483648) := by show moreF n k = _; rw [moreF, if_pos (Or.inl h1)]
    have h1' : (2147483647 : Int) < n := h1
    go_enter Try.func69, Try.ntmps69
    go_wp2
    go_ret
    exact ⟨by rw [HE.out]; rfl, rfl⟩
  · by_cases h2 : 2147483647 - n < k
    · have HE : Hid (moreF n k = 2147483648) := by show moreF n k = _; rw [moreF, if_pos (Or.inr h2)]
      go_enter Try.func69, Try.ntmps69
      go_wp2
      go_ret
      exact ⟨by rw [HE.out]; rfl, rfl⟩
    · have HE : Hid (moreF n k = n + k) := by show moreF n k = _; rw [moreF, if_neg (by omega)]
      go_enter Try.func69, Try.ntmps69
      go_wp2
      go_ret
      exact ⟨by rw [HE.out]; rfl, rfl⟩

/-- A list as it came in: of any length that memory holds. -/
structure NdRaw (w : World) (b o : Nat) (n : Nd) : Prop where
  kind : w.cell? ⟨b, o, none⟩ = some (.int .i64 n.kind)
  at_ : w.cell? ⟨b, o + 1, none⟩ = some (.int .i64 n.at_)
  kids : w.cell? ⟨b, o + 2, none⟩ = some (.slice n.kA n.kids.length n.kc)
  name : w.cell? ⟨b, o + 3, none⟩ = some (.string n.name)
  num : w.cell? ⟨b, o + 4, none⟩ = some (.int .i64 n.num)
  many : n.kids.length ≤ 9223372036854775807
  nsz : n.name.size ≤ 9223372036854775807
  row : IntsAt w n.kA n.kids
structure NodesRaw (w : World) (A : Option Addr) (ns : List Nd) : Prop where
  size : ns.length ≤ 9223372036854775807
  node : ∀ i, i < ns.length → ∃ b o, A = some ⟨b, o, none⟩ ∧ NdRaw w b (o + i * 5) (nd ns i)
def beyondGo : List Nd → Int → Int
  | [], n => n
  | x :: xs, n => if n ≤ 2147483647 then beyondGo xs (moreF (moreF (moreF n x.kids.length) x.name.size) 1) else n
def beyondB (l : List Nd) : Bool := decide (2147483647 < beyondGo l 0)
theorem beyond_low : ∀ (l : List Nd) (n : Int), 0 ≤ n → beyondGo l n ≤ 2147483647 → n + l.length ≤ 2147483647 ∧ ∀ i, i < l.length → ((nd l i).kids.length : Int) ≤ 2147483647 ∧ ((nd l i).name.size : Int) ≤ 2147483647
  | [], n, h0, h => ⟨by simpa [beyondGo] using h, fun i hi => by simp at hi⟩
  | x :: xs, n, h0, h => by
    unfold beyondGo at h
    split at h
    · rename_i hn
      have ih := beyond_low xs _ ?_ h
      · obtain ⟨h1, h2⟩ := ih
        have h3 : moreF (moreF (moreF n x.kids.length) x.name.size) 1 ≤ 2147483647 := by omega
        have e3 : moreF (moreF n x.kids.length) x.name.size ≤ 2147483647 ∧ moreF (moreF (moreF n x.kids.length) x.name.size) 1 = moreF (moreF n x.kids.length) x.name.size + 1 := by
          generalize moreF (moreF n x.kids.length) x.name.size = m at h3 ⊢
          unfold moreF at h3 ⊢
          split at h3
          · omega
          · rename_i hc; rw [if_neg hc]; omega
        have e2 : moreF n x.kids.length ≤ 2147483647 ∧ moreF (moreF n x.kids.length) x.name.size = moreF n x.kids.length + x.name.size := by
          have := e3.1
          generalize moreF n x.kids.length = m at this ⊢
          unfold moreF at this ⊢
          split at this
          · omega
          · rename_i hc; rw [if_neg hc]; omega
        have e1 : moreF n x.kids.length = n + x.kids.length := by
          have := e2.1
          unfold moreF at this ⊢
          split at this
          · omega
          · rename_i hc; rw [if_neg hc]
        refine ⟨by simp only [List.length_cons]; omega, fun i hi => ?_⟩
        cases i with
        | zero =>
          show ((x.kids.length : Nat) : Int) ≤ _ ∧ ((x.name.size : Nat) : Int) ≤ _
          omega
        | succ i => exact h2 i (by simpa using hi)
      · have a := moreF_bd (k := (x.kids.length : Int)) ⟨h0, by omega⟩ (by omega)
        have b := moreF_bd (k := (x.name.size : Int)) a (by omega)
        exact (moreF_bd (k := 1) b (by omega)).1
    · omega
theorem nodes_of_raw {w : World} {A : Option Addr} {ns : List Nd} (h : NodesRaw w A ns) (hb : beyondB ns = false) : NodesAt w A ns := by
  have h1 : beyondGo ns 0 ≤ 2147483647 := by
    unfold beyondB at hb
    simp only [decide_eq_false_iff_not] at hb
    omega
  obtain ⟨h2, h3⟩ := beyond_low ns 0 (by omega) h1
  refine ⟨by unfold big; omega, fun i hi => ?_⟩
  obtain ⟨b, o, hA, hn⟩ := h.node i hi
  have := h3 i hi
  exact ⟨b, o, hA, ⟨hn.kind, hn.at_, hn.kids, hn.name, hn.num, by unfold big; omega, by unfold big; omega, hn.row⟩⟩
theorem beyond_any (A : Option Addr) (c : Nat) (ns : List Nd) (w : World) (hl : NodesRaw w A ns) :
    Calls Try.prog 22 #[.slice A ns.length c] w fun e w' => e = .returned (.bool (beyondB ns)) ∧ w = w' := by
  have hsz := hl.size
  have hszI : (ns.length : Int) ≤ 9223372036854775807 := by omega
  go_enter Try.func22, Try.ntmps22
  go_wp2
  go_loop [3, 4] (fun n i => ∃ (k : Nat) (acc : Int), k ≤ ns.length ∧ i = .int .i64 k ∧ n = .int .i64 acc ∧ 0 ≤ acc ∧ acc ≤ 2147483648 ∧ beyondGo ns 0 = beyondGo (ns.drop k) acc) (fun _ i => ns.length - (intOf i).toNat)
  case atStart => exact ⟨0, 0, by omega, rfl, rfl, by omega, by omega, by simp⟩
  case round =>
    obtain ⟨k, acc, hk, rfl, rfl, h0, h1, hgo⟩ := hrel
    have HG := Lib.hid hgo
    clear hgo
    by_cases hlt : k < ns.length
    · obtain ⟨b, o, rfl, hn⟩ := hl.node k hlt
      have n2 := hn.kids
      have n3 := hn.name
      have m2 := hn.many
      have m3 := hn.nsz
      have hdrop : ns.drop k = nd ns k :: ns.drop (k + 1) := by
        rw [List.drop_eq_getElem_cons hlt]
        congr 1
        simp [nd, List.getD_eq_getElem?_getD, List.getElem?_eq_getElem hlt]
      by_cases hb : acc ≤ 2147483647
      · have hs1 := moreF_bd (n := acc) (k := ((nd ns k).kids.length : Int)) ⟨h0, by omega⟩ (by omega)
        have hs2 := moreF_bd (k := ((nd ns k).name.size : Int)) hs1 (by omega)
        have hs3 := moreF_bd (k := 1) hs2 (by omega)
        have k1 : (0 : Int) ≤ ((nd ns k).kids.length : Int) ∧ ((nd ns k).kids.length : Int) ≤ 9223372036854775807 := by omega
        have k2 : (0 : Int) ≤ ((nd ns k).name.size : Int) ∧ ((nd ns k).name.size : Int) ≤ 9223372036854775807 := by omega
        have h01 : 0 ≤ acc ∧ acc ≤ 2147483648 := ⟨h0, h1⟩
        have H01 := Lib.hid h01
        have HS1 := Lib.hid hs1
        have HS2 := Lib.hid hs2
        have HK1 := Lib.hid k1
        have HK2 := Lib.hid k2
        have HST : Hid (beyondGo ns 0 = beyondGo (ns.drop (k + 1)) (moreF (moreF (moreF acc (nd ns k).kids.length) (nd ns k).name.size) 1)) := by
          show beyondGo ns 0 = _
          rw [HG.out, hdrop, beyondGo, if_pos hb]
        clear hl hdrop h01 hs1 hs2 k1 k2 hn
        go_wp2_with (go_at_call 69; refine (more_any _ _ _ (by first | exact H01.out | exact HS1.out | exact HS2.out) (by first | exact HK1.out | exact HK2.out | exact ⟨by decide, by decide⟩)).mono ?_; rintro e w1 ⟨rfl, rfl⟩)
        go_round
        case rel => exact ⟨k + 1, _, by omega, by go_num, rfl, hs3.1, hs3.2, HST.out⟩
        case measure => simp [intOf]; omega
      · have HE : Hid (beyondB ns = true) := by
          show beyondB ns = true
          unfold beyondB
          rw [HG.out, hdrop, beyondGo, if_neg hb]
          simp; omega
        have hb' : 2147483647 < acc := by omega
        clear hl hdrop
        go_wp2
        go_ret
        exact ⟨by rw [HE.out]; simp [hb'], rfl⟩
    · have HE : Hid (beyondB ns = decide (2147483647 < acc)) := by
        show beyondB ns = _
        unfold beyondB
        rw [HG.out, List.drop_of_length_le (by omega)]
        rfl
      clear hl
      go_wp2
      all_goals
        go_ret
        exact ⟨by rw [HE.out]; simp [*], rfl⟩

theorem sameInts_yes (xs : List Int) (A B : Option Addr) (c d : Nat) (w : World) (hm : xs.length ≤ 4294967296) (hA : IntsAt w A xs) (hB : IntsAt w B xs) :
    Calls Try.prog 74 #[.slice A xs.length c, .slice B xs.length d] w fun e w' => e = .returned (.bool true) ∧ ∃ n, w' = w.drewN n := by
  have hm' : (xs.length : Int) ≤ 4294967296 := by omega
  go_enter Try.func74, Try.ntmps74
  go_wp2
  go_loopw [5] (fun i wr => ∃ (k n : Nat), k ≤ xs.length ∧ i = .int .i64 k ∧ wr = w.drewN n) (fun i _ => xs.length - (intOf i).toNat)
  case atStart => exact ⟨0, 0, by omega, rfl, rfl⟩
  case round =>
    obtain ⟨k, n, hk, rfl, rfl⟩ := hrel
    by_cases hlt : k < xs.length
    · obtain ⟨b1, o1, rfl, x1⟩ := hA k hlt
      obtain ⟨b2, o2, rfl, x2⟩ := hB k hlt
      clear hA hB
      go_wp2_with fail
      go_quiet (fail)
      go_wp2_with fail
      go_roundw
      case rel => exact ⟨k + 1, n + nq, by omega, by go_num, rfl⟩
      case measure => simp [intOf]; omega
    · clear hA hB
      go_wp2_with fail
      go_ret
      exact ⟨rfl, n, rfl⟩
end Go.Proofs.Ytmaepljmefdhkaa
end

section
namespace Go.Proofs.Ytmaepljmefdhkaa
open Go.RowKit Go.Maps Go.ChangeShapes Go.WideShapes Go.Deep
set_option maxHeartbeats 2000000
set_option maxRecDepth 100000

/-! What comes in, read as data: the list of nodes that it is. -/
theorem cell_plain {w : World} {a : Addr} {i : Nat} {v : Value} (h : w.cell? (a.add i) = some v) : a.add i = ⟨a.block, a.off + i, none⟩ := by
  have hspot : (a.add i).spot = none := by
    cases hsp : (a.add i).spot with
    | none => rfl
    | some s =>
      simp only [World.cell?] at h
      split at h
      · simp [hsp] at h
      · cases h
  unfold Addr.add at hspot ⊢
  split
  · rename_i h0
    subst h0
    rw [if_pos rfl] at hspot
    cases a
    simp_all
  · rfl
section
variable {H : Type} {enc : TypeId × Value → H} {w : World} {base : Nat} {sp : Nat → Bool} {held : Bool}
theorem open_kids {fuel : Nat} {v : Value} {x : DataW H × List MemPlace} (h : DataW.trod enc Try.prog w base sp held fuel 24 [v] = some x) : ∃ A c xs, v = .slice A xs.length c ∧ xs.length ≤ maxLen ∧ IntsAt w A xs := by
  rcases open_ints Try.underlying24 Try.underlying3 (by kernel_rfl) h with ⟨e, _⟩ | ⟨a, len, cap, zs, e, hb, hl, hm, hz, _, hc, _⟩
  · exact ⟨none, 0, [], by simpa using e, by unfold maxLen; decide, fun i hi => by simp at hi⟩
  · have hlz : len ≤ zs.length := by rw [hz]; split <;> omega
    refine ⟨some a, cap, zs.take len, by simp [hlz] at e ⊢; exact e, by simp; omega, fun i hi => ?_⟩
    have hi' : i < len := by simp at hi; omega
    have h0 := hc 0 (by omega)
    have hp0 := cell_plain h0
    rw [show a.add 0 = a from by simp [Addr.add]] at hp0
    have h1 := hc i (by omega)
    rw [cell_plain h1] at h1
    refine ⟨a.block, a.off, congrArg some hp0, ?_⟩
    rw [h1]
    simp [gi, List.getD_eq_getElem?_getD, List.getElem?_take_of_lt hi']
theorem open_nodes {fuel : Nat} {cs : List Value} {x : DataW H × List MemPlace} (h : DataW.trod enc Try.prog w base sp held fuel 22 cs = some x) : ∃ A c ns, cs = [.slice A ns.length c] ∧ NodesRaw w A ns := by
  rcases open_slice Try.underlying22 h with ⟨rfl, _⟩ | ⟨a, len, cap, m, n, D, Pl, rfl, hb, hl, hm, hmm, hx, hi⟩
  · exact ⟨none, 0, [], rfl, ⟨by simp, fun i hi => by simp at hi⟩⟩
  · have hlm : len ≤ m := by rw [hmm]; split <;> omega
    have hC : Try.prog.cellsOf 33 = 5 := by kernel_rfl
    have hC3 : Try.prog.cellsOf 3 = 1 := by kernel_rfl
    have hC24 : Try.prog.cellsOf 24 = 1 := by kernel_rfl
    have hC9 : Try.prog.cellsOf 9 = 1 := by kernel_rfl
    have each : ∀ i, i < len → ∃ nn : Nd, NdRaw w a.block (a.off + i * 5) nn ∧ a.add (i * 5) = ⟨a.block, a.off + i * 5, none⟩ := fun i hi' => by
      obtain ⟨cs', hc, ht⟩ := hi i (by omega)
      rw [hC] at hc
      obtain ⟨_, hcl, hat⟩ := World.cells?_some hc
      obtain ⟨ys, n', hn', hy, hlen, hyl, hf⟩ := DataW.trod_struct Try.underlying33 ht
      match cs', hcl with
      | [c0, c1, c2, c3, c4], _ =>
        have hyl5 : ys.length = 5 := hyl
        obtain ⟨y0, hy0⟩ : ∃ y, ys[0]? = some y := ⟨_, List.getElem?_eq_getElem (by omega)⟩
        obtain ⟨y1, hy1⟩ : ∃ y, ys[1]? = some y := ⟨_, List.getElem?_eq_getElem (by omega)⟩
        obtain ⟨y2, hy2⟩ : ∃ y, ys[2]? = some y := ⟨_, List.getElem?_eq_getElem (by omega)⟩
        obtain ⟨y3, hy3⟩ : ∃ y, ys[3]? = some y := ⟨_, List.getElem?_eq_getElem (by omega)⟩
        obtain ⟨y4, hy4⟩ : ∃ y, ys[4]? = some y := ⟨_, List.getElem?_eq_getElem (by omega)⟩
        have t0 : DataW.trod enc Try.prog w base sp held n' 3 (([c0, c1, c2, c3, c4].drop 0).take (Try.prog.cellsOf 3)) = some y0 := (hf 0 _ rfl).trans hy0
        have t1 : DataW.trod enc Try.prog w base sp held n' 3 (([c0, c1, c2, c3, c4].drop 1).take (Try.prog.cellsOf 3)) = some y1 := (hf 1 _ rfl).trans hy1
        have t2 : DataW.trod enc Try.prog w base sp held n' 24 (([c0, c1, c2, c3, c4].drop 2).take (Try.prog.cellsOf 24)) = some y2 := (hf 2 _ rfl).trans hy2
        have t3 : DataW.trod enc Try.prog w base sp held n' 9 (([c0, c1, c2, c3, c4].drop 3).take (Try.prog.cellsOf 9)) = some y3 := (hf 3 _ rfl).trans hy3
        have t4 : DataW.trod enc Try.prog w base sp held n' 3 (([c0, c1, c2, c3, c4].drop 4).take (Try.prog.cellsOf 3)) = some y4 := (hf 4 _ rfl).trans hy4
        rw [hC3] at t0
        change DataW.trod enc Try.prog w base sp held n' 3 [c0] = some y0 at t0
        rw [hC3] at t1
        change DataW.trod enc Try.prog w base sp held n' 3 [c1] = some y1 at t1
        rw [hC24] at t2
        change DataW.trod enc Try.prog w base sp held n' 24 [c2] = some y2 at t2
        rw [hC9] at t3
        change DataW.trod enc Try.prog w base sp held n' 9 [c3] = some y3 at t3
        rw [hC3] at t4
        change DataW.trod enc Try.prog w base sp held n' 3 [c4] = some y4 at t4
        obtain ⟨z0, e0, _⟩ := DataW.trod_int Try.underlying3 t0
        obtain ⟨z1, e1, _⟩ := DataW.trod_int Try.underlying3 t1
        obtain ⟨A2, k2, xs, e2, hx2, hI⟩ := open_kids t2
        obtain ⟨s3, e3, _, hs3⟩ := DataW.trod_string Try.underlying9 t3
        obtain ⟨z4, e4, _⟩ := DataW.trod_int Try.underlying3 t4
        have a0 := hat 0 (by omega)
        have a1 := hat 1 (by omega)
        have a2 := hat 2 (by omega)
        have a3 := hat 3 (by omega)
        have a4 := hat 4 (by omega)
        have q0 : w.cell? (a.add (i * 5)) = some c0 := by
          have : (a.add (i * 5)).add 0 = a.add (i * 5) := by simp [Addr.add]
          rw [this] at a0; exact a0
        have hp := cell_plain q0
        have add : ∀ j, (⟨a.block, a.off + i * 5, none⟩ : Addr).add j = ⟨a.block, a.off + i * 5 + j, none⟩ := fun j => by unfold Addr.add; split <;> simp_all
        rw [hp] at q0 a1 a2 a3 a4
        rw [add] at a1 a2 a3 a4
        simp at e0 e1 e3 e4
        subst e0; subst e1; subst e2; subst e3; subst e4
        exact ⟨⟨z0, z1, xs, s3, z4, A2, k2⟩, ⟨q0, a1, a2, a3, a4, hx2, hs3, hI⟩, hp⟩
    obtain ⟨f, hf⟩ : ∃ f : Nat → Nd, ∀ i, i < len → NdRaw w a.block (a.off + i * 5) (f i) ∧ a.add (i * 5) = ⟨a.block, a.off + i * 5, none⟩ := by
      refine ⟨fun i => if h : i < len then (each i h).choose else default, fun i hi => ?_⟩
      show NdRaw w a.block (a.off + i * 5) (dite (i < len) _ _) ∧ _
      rw [dif_pos hi]
      exact (each i hi).choose_spec
    refine ⟨some a, cap, (List.range len).map f, by simp, ⟨by simp; unfold maxLen at hm; omega, fun i hi => ?_⟩⟩
    have hi' : i < len := by simpa using hi
    have h0 := (hf 0 (by omega)).2
    refine ⟨a.block, a.off, ?_, ?_⟩
    · rw [show a.add (0 * 5) = a from by simp [Addr.add]] at h0
      exact congrArg some h0
    · have : nd ((List.range len).map f) i = f i := by simp [nd, List.getD_eq_getElem?_getD, hi']
      rw [this]
      exact (hf i hi').1
end
end Go.Proofs.Ytmaepljmefdhkaa
end

section
namespace Go.Proofs.Ytmaepljmefdhkaa
open Go.RowKit Go.Maps Go.ChangeShapes Go.WideShapes Go.Deep
set_option maxHeartbeats 2000000
set_option maxRecDepth 100000

/-! What reads with all spare places told reads the same where just its own blocks' are. -/
section
variable {H : Type} {enc : TypeId × Value → H} {w : World} {base : Nat} {held : Bool} {sp : Nat → Bool}
def SpOk (enc : TypeId × Value → H) (w : World) (base : Nat) (held : Bool) (sp : Nat → Bool) (t : TypeId) : Prop :=
  ∀ (n : Nat) (cs : List Value) (x : DataW H × List MemPlace), DataW.trod enc Try.prog w base (fun _ => true) held n t cs = some x → (∀ p ∈ x.2, sp p.block = true) → DataW.trod enc Try.prog w base sp held n t cs = some x
theorem sp_int {t : TypeId} {k : IntKind} (ht : Try.prog.underlying t = some (.int k)) : SpOk enc w base held sp t := fun n cs x h _ => by
  obtain ⟨z, rfl, rfl, hz⟩ := DataW.trod_int ht h
  cases n with
  | zero => simp [DataW.trod] at h
  | succ n => unfold DataW.trod; rw [ht]; simp [hz]
theorem sp_string {t : TypeId} (ht : Try.prog.underlying t = some .string) : SpOk enc w base held sp t := fun n cs x h _ => by
  obtain ⟨s, rfl, rfl, hs⟩ := DataW.trod_string ht h
  cases n with
  | zero => simp [DataW.trod] at h
  | succ n => unfold DataW.trod; rw [ht]; simp [hs]
theorem sp_slice {t e : TypeId} (ht : Try.prog.underlying t = some (.slice e)) (hz : Try.prog.cellsOf e ≠ 0) (he : SpOk enc w base held sp e) : SpOk enc w base held sp t := fun n cs x h hp => by
  rcases DataW.trod_slice ht h with ⟨rfl, rfl⟩ | ⟨a, len, cap, elems, rest, m, rfl, rfl, rfl, hb, hl, hm, hlen, hel, hsp, _⟩
  · cases n with
    | zero => simp [DataW.trod] at h
    | succ n => unfold DataW.trod; rw [ht]; rfl
  · obtain ⟨hr, hre⟩ := hsp rfl
    have hsub : ∀ y ∈ elems ++ rest, ∀ p ∈ y.2, sp p.block = true := fun y hy p hpy => hp p (by
      show p ∈ MemPlace.row a _ ++ (elems ++ rest).flatMap (·.2)
      rw [List.mem_append]
      exact Or.inr (List.mem_flatMap.2 ⟨y, hy, hpy⟩))
    have conv : ∀ (i : Nat) (y : DataW H × List MemPlace), y ∈ elems ++ rest → (w.cells? base (a.add (i * Try.prog.cellsOf e)) (Try.prog.cellsOf e)).bind (DataW.trod enc Try.prog w base (fun _ => true) held m e) = some y → (w.cells? base (a.add (i * Try.prog.cellsOf e)) (Try.prog.cellsOf e)).bind (DataW.trod enc Try.prog w base sp held m e) = some y := fun i y hy h1 => by
      rw [Option.bind_eq_some_iff] at h1 ⊢
      obtain ⟨c, hc, h2⟩ := h1
      exact ⟨c, hc, he _ _ _ h2 (hsub y hy)⟩
    have e1 : (List.range len).mapM (fun i => (w.cells? base (a.add (i * Try.prog.cellsOf e)) (Try.prog.cellsOf e)).bind (DataW.trod enc Try.prog w base sp held m e)) = some elems := by
      refine mapM_some_of_get _ _ (by simp [hlen]) (fun i x hx => ?_)
      obtain ⟨hi, rfl⟩ : i < len ∧ i = x := by
        obtain ⟨h1, h2⟩ := List.getElem?_eq_some_iff.1 hx
        exact ⟨by simpa using h1, by simpa using h2⟩
      have hy : elems[i]? = some (elems[i]'(by omega)) := List.getElem?_eq_getElem (by omega)
      rw [hy]
      exact conv i _ (List.mem_append_left _ (List.getElem_mem _)) ((hel i hi).trans hy)
    unfold DataW.trod
    rw [ht]
    simp only
    rw [if_pos ⟨hb, hl, hm⟩, e1]
    cases hs : sp a.block with
    | true =>
      have e2 : (List.range (cap - len)).mapM (fun j => (w.cells? base (a.add ((len + j) * Try.prog.cellsOf e)) (Try.prog.cellsOf e)).bind (DataW.trod enc Try.prog w base sp held m e)) = some rest := by
        refine mapM_some_of_get _ _ (by simp [hr]) (fun i x hx => ?_)
        obtain ⟨hi, rfl⟩ : i < cap - len ∧ i = x := by
          obtain ⟨h1, h2⟩ := List.getElem?_eq_some_iff.1 hx
          exact ⟨by simpa using h1, by simpa using h2⟩
        have hy : rest[i]? = some (rest[i]'(by omega)) := List.getElem?_eq_getElem (by omega)
        rw [hy]
        exact conv (len + i) _ (List.mem_append_right _ (List.getElem_mem _)) ((hre i hi).trans hy)
      simp [e2]
    | false =>
      have h0 : (elems.length + rest.length) * Try.prog.cellsOf e = 0 := by
        rcases Nat.eq_zero_or_pos ((elems.length + rest.length) * Try.prog.cellsOf e) with h0 | h0
        · exact h0
        · exfalso
          have := hp (.cell a.block (a.off + 0)) (by
            show _ ∈ MemPlace.row a _ ++ (elems ++ rest).flatMap (·.2)
            rw [List.mem_append]
            exact Or.inl (MemPlace.mem_row.2 ⟨0, h0, rfl⟩))
          rw [show (MemPlace.cell a.block (a.off + 0)).block = a.block from rfl, hs] at this
          cases this
      have h1 : elems.length + rest.length = 0 := by
        rcases Nat.mul_eq_zero.1 h0 with h1 | h1
        · exact h1
        · exact absurd h1 hz
      obtain rfl : rest = [] := List.eq_nil_of_length_eq_zero (by omega)
      simp
theorem mapM_ext {α β : Type} {f g : α → Option β} : ∀ (l : List α) (r : List β), l.mapM f = some r → (∀ x ∈ l, ∀ y ∈ r, f x = some y → g x = some y) → l.mapM g = some r := fun l r h hh => mapM_carry h (fun x y hx hy hf => hh x hx y hy hf)
theorem sp_struct {t : TypeId} {fs : Array Field} (ht : Try.prog.underlying t = some (.struct fs)) (hf : ∀ f ∈ fs.toList, SpOk enc w base held sp f.type) : SpOk enc w base held sp t := fun n cs x h hp => by
  cases n with
  | zero => simp [DataW.trod] at h
  | succ n =>
    unfold DataW.trod at h ⊢
    rw [ht] at h ⊢
    simp only at h ⊢
    split at h
    · rename_i hc
      rw [if_pos hc]
      rw [Option.map_eq_some_iff] at h ⊢
      obtain ⟨xs, h1, rfl⟩ := h
      refine ⟨xs, mapM_ext _ _ h1 (fun f hfm y hy hfy => hf f hfm _ _ _ hfy (fun p hpy => hp p ?_)), rfl⟩
      exact List.mem_flatMap.2 ⟨y, hy, hpy⟩
    · cases h
theorem sp_nodes : SpOk enc w base held sp 22 := by
  refine sp_slice Try.underlying22 (by rw [show Try.prog.cellsOf 33 = 5 from by kernel_rfl]; decide) (sp_struct Try.underlying33 (fun f hf => ?_))
  have h3 : SpOk enc w base held sp 3 := sp_int Try.underlying3
  have h9 : SpOk enc w base held sp 9 := sp_string Try.underlying9
  have h24 : SpOk enc w base held sp 24 := sp_slice Try.underlying24 (by rw [show Try.prog.cellsOf 3 = 1 from by kernel_rfl]; decide) h3
  simp only [List.mem_cons, List.not_mem_nil, or_false] at hf
  rcases hf with rfl | rfl | rfl | rfl | rfl <;> assumption
end
/-- An argument reads behind a call that makes memory alone as it did ahead of it. -/
theorem carry_arg {H : Type} {enc : TypeId × Value → H} {W W' : World} {sp : Nat → Bool} {t : TypeId} {v : Value} {d : DataW H} {p : List MemPlace} (hS : SpOk enc W' 0 true sp t) (h : DataW.Trod enc Try.prog W 0 (fun _ => true) true t v d p) (hb : Below W.heap.size W W') (hlt : ∀ q ∈ p, q.block < W.heap.size) (hsp : ∀ q ∈ p, sp q.block = true) :
    DataW.Trod enc Try.prog W' 0 sp true t v d p := by
  obtain ⟨n, hn⟩ := h
  exact ⟨n, hS n _ _ (DataW.trod_carry n _ _ _ hn (fun q hq => hb.same (hlt q hq))) hsp⟩
end Go.Proofs.Ytmaepljmefdhkaa
end

section
namespace Go.Proofs.Ytmaepljmefdhkaa
open Go.RowKit Go.Maps
set_option maxHeartbeats 2000000
set_option maxRecDepth 100000

def ListsAt (w : World) (A : Option Addr) (fr : List (List Int)) : Prop :=
  ∀ p, p < fr.length → ∃ b o A' c', A = some ⟨b, o, none⟩ ∧ w.cell? ⟨b, o + p, none⟩ = some (.slice A' (fr.getD p []).length c') ∧ IntsAt w A' (fr.getD p []) ∧ (fr.getD p []).length ≤ c'
theorem sameLists_yes (fr : List (List Int)) (A B : Option Addr) (c d : Nat) (w : World) (hm : fr.length ≤ 4294967296) (hp : ∀ p, (fr.getD p []).length ≤ 4294967296) (hA : ListsAt w A fr) (hB : ListsAt w B fr) :
    Calls Try.prog 75 #[.slice A fr.length c, .slice B fr.length d] w fun e w' => e = .returned (.bool true) ∧ ∃ n, w' = w.drewN n := by
  have hm' : (fr.length : Int) ≤ 4294967296 := by omega
  have HP := Lib.hid hp
  clear hp
  go_enter Try.func75, Try.ntmps75
  go_wp2
  go_loopw [5] (fun i wr => ∃ (k n : Nat), k ≤ fr.length ∧ i = .int .i64 k ∧ wr = w.drewN n) (fun i _ => fr.length - (intOf i).toNat)
  case atStart => exact ⟨0, 0, by omega, rfl, rfl⟩
  case round =>
    obtain ⟨k, n, hk, rfl, hw⟩ := hrel
    have hA' : ListsAt wr A fr := by rw [hw]; exact hA
    have hB' : ListsAt wr B fr := by rw [hw]; exact hB
    have HW := Lib.hid hw
    clear hw
    by_cases hlt : k < fr.length
    · obtain ⟨b1, o1, A1, c1, rfl, x1, i1, _⟩ := hA' k hlt
      obtain ⟨b2, o2, A2, c2, rfl, x2, i2, _⟩ := hB' k hlt
      have hx := HP.out k
      clear hA hB hA' hB'
      obtain ⟨xs, hxs⟩ : ∃ xs, xs = fr.getD k [] := ⟨_, rfl⟩
      rw [← hxs] at x1 x2 i1 i2 hx
      have H1 := Lib.hid i1
      have H2 := Lib.hid i2
      clear i1 i2 hxs
      go_wp2_with fail
      go_quiet ((go_at_call 74; exact Calls.quiet_of (sameInts_yes xs _ _ _ _ _ hx (by exact H1.out) (by exact H2.out))))
      go_wp2_with fail
      go_roundw
      case rel => exact ⟨k + 1, n + nq, by omega, by go_num, by rw [HW.out, World.drewN_drewN]⟩
      case measure => simp [intOf]; omega
    · clear hA hB hA' hB'
      go_wp2_with fail
      go_ret
      exact ⟨rfl, n, HW.out⟩
theorem below_drewN' {B : Nat} {w W : World} (h : Below B w W) (n : Nat) : Below B w (W.drewN n) := ⟨h.os, h.tape, h.output, h.size, h.block⟩
theorem sameNames_yes {w : World} {r1 f1 r2 f2 : Value} {ref : List Int} {fr : List (List Int)} (h1 : NamesOut w r1 f1 ref fr) (h2 : NamesOut w r2 f2 ref fr) :
    Calls Try.prog 29 #[.agg #[r1, f1], .agg #[r2, f2]] w fun e w' => e = .returned (.bool true) ∧ Below w.heap.size w w' := by
  obtain ⟨⟨A1, c1, rfl, i1⟩, ⟨B1, d1, rfl, l1⟩, s1, s2, s3⟩ := h1
  obtain ⟨⟨A2, c2, rfl, i2⟩, ⟨B2, d2, rfl, l2⟩, -, -, -⟩ := h2
  have hb2 : Below w.heap.size w ((w.alloc (.cells #[.slice A1 ref.length c1, .slice B1 fr.length d1] 39)).alloc (.cells #[.slice A2 ref.length c2, .slice B2 fr.length d2] 39)) := ((Below.refl _ _).alloc (Nat.le_refl _) _).alloc (by simp) _
  have carry : ∀ {A : Option Addr}, ListsAt w A fr → ListsAt ((w.alloc (.cells #[.slice A1 ref.length c1, .slice B1 fr.length d1] 39)).alloc (.cells #[.slice A2 ref.length c2, .slice B2 fr.length d2] 39)) A fr := fun {A} h p hp => by
    obtain ⟨b, o, A', c', e, hc, hi, hq⟩ := h p hp
    exact ⟨b, o, A', c', e, cell_below hc hb2, hi.below hb2, hq⟩
  have S1 := Lib.hid (i1.below hb2)
  have S2 := Lib.hid (i2.below hb2)
  have L1 := Lib.hid (carry l1)
  have L2 := Lib.hid (carry l2)
  have hr : ref.length ≤ 4294967296 := by unfold big at s1; omega
  have hf : fr.length ≤ 4294967296 := by unfold big at s2; omega
  have HP := Lib.hid (fun p => (by have := s3 p; unfold big at this; omega : (fr.getD p []).length ≤ 4294967296))
  have HB := Lib.hid hb2
  clear i1 i2 l1 l2 s1 s2 s3 hb2 carry
  go_enter Try.func29, Try.ntmps29
  go_wp2_with (first
    | (go_at_call 74; refine (sameInts_yes ref A1 A2 c1 c2 _ hr (by exact S1.out) (by exact S2.out)).mono ?_; rintro e w1 ⟨rfl, n1, rfl⟩)
    | (go_at_call 75; refine (sameLists_yes fr B1 B2 d1 d2 _ hf HP.out (by exact L1.out) (by exact L2.out)).mono ?_; rintro e w2 ⟨rfl, n2, rfl⟩))
  go_ret
  exact ⟨rfl, below_drewN' HB.out _⟩
end Go.Proofs.Ytmaepljmefdhkaa
end

section
namespace Go.Proofs.Ytmaepljmefdhkaa
open Go.RowKit Go.Maps
set_option maxHeartbeats 4000000
set_option maxRecDepth 100000

/-! law05.kidOf: whose kid each node is. -/
def upRow (i : Nat) (ks : List Int) (up : List Int) : List Int := ks.foldl (fun up k => up.set k.toNat (i : Int)) up
def upGo (l : List Nd) : Nat → Nat → List Int → List Int
  | 0, _, up => up
  | d + 1, i, up => upGo l d (i + 1) (upRow i (nd l i).kids up)
def upF (l : List Nd) : List Int := upGo l l.length 0 (List.replicate l.length (-1))
theorem upRow_len {i : Nat} : ∀ (ks up : List Int), (upRow i ks up).length = up.length
  | [], _ => rfl
  | k :: ks, up => by
    show (upRow i ks (up.set k.toNat i)).length = _
    rw [upRow_len ks]; simp
theorem kidOf_any (A : Option Addr) (c : Nat) (l : List Nd) (w : World) (hl : NodesAt w A l) (hw : Wf l) :
    Calls Try.prog 25 #[.slice A l.length c] w fun e w' => e = .returned (.slice (some ⟨w.heap.size, 0, none⟩) l.length l.length) ∧ IntsBlk w' w.heap.size (upF l) ∧ Below w.heap.size w w' := by
  have hbig := big_le hl.size
  have hmk := make_ints l.length hl.size
  go_enter Try.func25, Try.ntmps25
  go_wp2_with fail
  clear hmk
  go_loopg [4] l.length (fun gk v wr => ∃ k : Nat, v = .int .i64 k ∧ k + gk = l.length ∧ IntsBlk wr w.heap.size (List.replicate k (-1) ++ List.replicate (l.length - k) 0) ∧ Below w.heap.size w wr)
  case atStart => exact ⟨0, rfl, by omega, IntsBlk.new w _, below_one _ _⟩
  case round =>
    obtain ⟨k, rfl, hkd, hI, hbw⟩ := hrel
    have HK := Lib.hid hkd
    have HI := Lib.hid hI
    have HB := Lib.hid hbw
    clear hkd hI hbw
    rcases gk with _ | d
    · obtain rfl : k = l.length := by have := HK.out; omega
      have hI2 : IntsBlk wr w.heap.size (List.replicate l.length (-1)) := by
        have h := HI.out
        rwa [Nat.sub_self, List.replicate_zero, List.append_nil] at h
      have HI2 := Lib.hid hI2
      clear hI2
      go_wp2_with fail
      obtain ⟨wo, rfl⟩ : ∃ wo : World, wo = wr := ⟨_, rfl⟩
      go_loopg [5] l.length (fun gk v wr => ∃ (k : Nat) (up : List Int), v = .int .i64 k ∧ k + gk = l.length ∧ up.length = l.length ∧ upF l = upGo l gk k up ∧ IntsBlk wr w.heap.size up ∧ Below w.heap.size w wr)
      case atStart => exact ⟨0, _, rfl, by omega, by simp, rfl, HI2.out, HB.out⟩
      case round =>
        obtain ⟨k, up, rfl, hkd, hul, hup, hI, hbw⟩ := hrel
        have HK := Lib.hid hkd
        have HUL := Lib.hid hul
        have HUP := Lib.hid hup
        have HI := Lib.hid hI
        have HB := Lib.hid hbw
        clear hkd hul hup hI
        rcases gk with _ | d
        · obtain rfl : k = l.length := by have := HK.out; omega
          clear hbw
          go_wp2_with fail
          go_ret
          exact ⟨rfl, by rw [show upF l = up from HUP.out]; exact HI.out, HB.out⟩
        · have hk : k < l.length := by have := HK.out; omega
          have hkI : (k : Int) < l.length := by omega
          obtain ⟨b, o, rfl, hn⟩ := (hl.below hbw).node k hk
          have n2 := hn.kids
          have hmany := big_le hn.many
          have HN := Lib.hid hn
          clear hn hbw
          go_wp2_with fail
          obtain ⟨wq, rfl⟩ : ∃ wq : World, wq = wr := ⟨_, rfl⟩
          go_loopg [6] (nd l k).kids.length (fun gk v wr => ∃ (m : Nat) (uq : List Int), v = .int .i64 m ∧ m + gk = (nd l k).kids.length ∧ uq.length = l.length ∧ upRow k (nd l k).kids up = upRow k ((nd l k).kids.drop m) uq ∧ IntsBlk wr w.heap.size uq ∧ Below w.heap.size w wr)
          case atStart => exact ⟨0, up, rfl, by omega, HUL.out, rfl, HI.out, HB.out⟩
          case round =>
            obtain ⟨m, uq, rfl, hmd, hql, hqu, hI, hbw⟩ := hrel
            have HMD := Lib.hid hmd
            have HQL := Lib.hid hql
            have HQU := Lib.hid hqu
            have HI2 := Lib.hid hI
            have HB2 := Lib.hid hbw
            obtain ⟨b', o', hA', hn'⟩ := (hl.below hbw).node k hk
            obtain ⟨rfl, rfl⟩ : b = b' ∧ o = o' := by simpa using hA'
            have n2' := hn'.kids
            clear hmd hql hqu hI hbw n2 hA'
            rcases gk with _ | gk
            · obtain rfl : m = (nd l k).kids.length := by have := HMD.out; omega
              have hfin : upRow k (nd l k).kids up = uq := by rw [HQU.out, List.drop_of_length_le (Nat.le_refl _)]; rfl
              have HFIN := Lib.hid hfin
              clear hfin
              go_wp2_with fail
              go_roundg d
              case measure => omega
              case rel => exact ⟨k + 1, uq, by go_num, by have := HK.out; omega, HQL.out, by rw [HUP.out, ← HFIN.out]; rfl, HI2.out, HB2.out⟩
            · have hm : m < (nd l k).kids.length := by have := HMD.out; omega
              have hmI : (m : Int) < (nd l k).kids.length := by omega
              have hd := hw.down k hk m hm
              obtain ⟨p, hp⟩ : ∃ p : Nat, gi (nd l k).kids m = p := ⟨_, (Int.toNat_of_nonneg hd.1).symm⟩
              obtain ⟨b3, o3, hkA, hx⟩ := hn'.row m hm
              rw [hp] at hx hd
              rw [hkA] at n2'
              have hpl : p < l.length := by omega
              have hpI : (p : Int) < l.length := by omega
              have hcell := HI2.out.cell (i := p) (by rw [HQL.out]; exact hpl)
              have hfz := HI2.out.frozen p
              have hne : ¬ b3 = w.heap.size := by
                obtain ⟨_, _, _, hn0⟩ := hl.node k hk
                obtain ⟨b4, o4, hk4, hx4⟩ := hn0.row m hm
                rw [hkA] at hk4
                obtain ⟨rfl, rfl⟩ : b3 = b4 ∧ o3 = o4 := by simpa using hk4
                have := block_lt_of_cell hx4
                have h9 : b3 < w.heap.size := this
                omega
              have hdrop : (nd l k).kids.drop m = (p : Int) :: (nd l k).kids.drop (m + 1) := by
                rw [List.drop_eq_getElem_cons hm]
                congr 1
                rw [← hp]; simp [gi, List.getD_eq_getElem?_getD, List.getElem?_eq_getElem hm]
              have HQ2 : Hid (upRow k (nd l k).kids up = upRow k ((nd l k).kids.drop (m + 1)) (uq.set p k)) := by
                show upRow k (nd l k).kids up = _
                rw [HQU.out, hdrop]
                show upRow k _ (uq.set (p : Int).toNat k) = _
                rw [Int.toNat_natCast]
              clear hdrop hp hkA hn'
              go_wp2_with fail
              go_roundg gk
              case measure => omega
              case rel => exact ⟨m + 1, uq.set p k, by go_num, by have := HMD.out; omega, by rw [List.length_set]; exact HQL.out, HQ2.out, HI2.out.set p k, HB2.out.setCell (by simp) _⟩
    · have hk : k < l.length := by have := HK.out; omega
      have hkI : (k : Int) < l.length := by omega
      have hlen : (List.replicate k (-1 : Int) ++ List.replicate (l.length - k) 0).length = l.length := by simp; omega
      have hcell := HI.out.cell (i := k) (by omega)
      have hfz := HI.out.frozen k
      have hI2 := HI.out.set k (-1)
      rw [set_next hk] at hI2
      have HI2 := Lib.hid hI2
      clear hI2 hlen
      go_wp2_with fail
      go_roundg d
      case measure => omega
      case rel => exact ⟨k + 1, by go_num, by have := HK.out; omega, HI2.out, HB.out.setCell (by simp) _⟩
end Go.Proofs.Ytmaepljmefdhkaa
end

section
namespace Go.Proofs.Ytmaepljmefdhkaa
open Go.RowKit Go.Maps
set_option maxHeartbeats 4000000
set_option maxRecDepth 100000

theorem upRow_get {i n : Nat} : ∀ (ks up : List Int), (∀ k ∈ ks, 0 ≤ k) → n < up.length → gi (upRow i ks up) n = if (n : Int) ∈ ks then (i : Int) else gi up n
  | [], up, _, _ => by simp [upRow]
  | k :: ks, up, hk, hn => by
    show gi (upRow i ks (up.set k.toNat i)) n = _
    have hk0 := hk k (by simp)
    rw [upRow_get ks _ (fun x hx => hk x (by simp [hx])) (by simpa using hn)]
    by_cases h1 : (n : Int) ∈ ks
    · rw [if_pos h1, if_pos (by simp [h1])]
    · rw [if_neg h1]
      by_cases h2 : k.toNat < up.length
      · rw [gi_set _ h2]
        by_cases h3 : n = k.toNat
        · rw [if_pos h3, if_pos (by rw [List.mem_cons]; left; omega)]
        · rw [if_neg h3, if_neg (by rw [List.mem_cons]; rintro (h | h); omega; exact h1 h)]
      · rw [List.set_eq_of_length_le (by omega), if_neg (by rw [List.mem_cons]; rintro (h | h); omega; exact h1 h)]
/-- Has a node a parent among the first so many? -/
def Parent (l : List Nd) (b n p : Nat) : Prop := p < b ∧ p < l.length ∧ ∃ j, j < (nd l p).kids.length ∧ kid l p j = n
theorem upGo_spec {l : List Nd} (T : TreeOk l) : ∀ (d i : Nat) (up : List Int), i + d = l.length → up.length = l.length → (∀ n, n < l.length → (gi up n = -1 ∧ ∀ p, ¬ Parent l i n p) ∨ ∃ p, Parent l i n p ∧ gi up n = p) →
    ∀ n, n < l.length → (gi (upGo l d i up) n = -1 ∧ ∀ p, ¬ Parent l l.length n p) ∨ ∃ p, Parent l l.length n p ∧ gi (upGo l d i up) n = p
  | 0, i, up, hd, hl, h => by
    obtain rfl : i = l.length := by omega
    exact h
  | d + 1, i, up, hd, hl, h => by
    have hi : i < l.length := by omega
    refine upGo_spec T d (i + 1) _ (by omega) (by rw [upRow_len]; exact hl) (fun n hn => ?_)
    rw [upRow_get _ _ (fun k hk => (kids_in T.wf hi hk).1) (by rw [hl]; exact hn)]
    by_cases hm : (n : Int) ∈ (nd l i).kids
    · rw [if_pos hm]
      obtain ⟨j, hj, he⟩ := List.getElem_of_mem hm
      refine Or.inr ⟨i, ⟨by omega, hi, j, hj, ?_⟩, rfl⟩
      have := kid_eq T hi hj
      have e2 : gi (nd l i).kids j = n := by simp [gi, List.getD_eq_getElem?_getD, List.getElem?_eq_getElem hj, he]
      omega
    · rw [if_neg hm]
      have hno : ¬ ∃ j, j < (nd l i).kids.length ∧ kid l i j = n := fun ⟨j, hj, he⟩ => hm (by
        have e1 := kid_eq T hi hj
        rw [he] at e1
        rw [← e1]
        unfold gi
        rw [List.getD_eq_getElem?_getD, List.getElem?_eq_getElem hj]
        exact List.getElem_mem _)
      rcases h n hn with ⟨h1, h2⟩ | ⟨p, ⟨hp1, hp2, hp3⟩, hp4⟩
      · refine Or.inl ⟨h1, fun p ⟨a, b, c⟩ => ?_⟩
        by_cases e : p = i
        · subst e; exact hno c
        · exact h2 p ⟨by omega, b, c⟩
      · exact Or.inr ⟨p, ⟨by omega, hp2, hp3⟩, hp4⟩
theorem up_spec {l : List Nd} (T : TreeOk l) (n : Nat) (hn : n < l.length) : (gi (upF l) n = -1 ∧ ∀ p, ¬ Parent l l.length n p) ∨ ∃ p, Parent l l.length n p ∧ gi (upF l) n = p :=
  upGo_spec T l.length 0 _ (by omega) (by simp) (fun m hm => Or.inl ⟨by simp [gi, List.getD_eq_getElem?_getD, List.getElem?_replicate, hm], fun p hp => by have := hp.1; omega⟩) n hn
theorem upF_len {l : List Nd} : (upF l).length = l.length := by
  have : ∀ (d i : Nat) (up : List Int), (upGo l d i up).length = up.length := by
    intro d
    induction d with
    | zero => intro i up; rfl
    | succ d ih => intro i up; show (upGo l d (i + 1) (upRow i (nd l i).kids up)).length = _; rw [ih, upRow_len]
  unfold upF
  rw [this]; simp
theorem inside_up {l : List Nd} (T : TreeOk l) {m q p : Nat} (hp : p < l.length) (hq : Parent l l.length m q) (hne : ¬ m = p) : insideB (FF l) q p = insideB (FF l) m p := by
  obtain ⟨h1, h2, j, hj, hk⟩ := hq
  rw [Bool.eq_iff_iff]
  simp only [insideB, Bool.and_eq_true, decide_eq_true_eq, Int.toNat_natCast]
  constructor
  · rintro ⟨a, b⟩
    have := rng_down T hp h2 hj hk a (by omega)
    omega
  · rintro ⟨a, b⟩
    have := rng_up T hp h2 hj hk a (by omega)
    omega
theorem inside_none {l : List Nd} (T : TreeOk l) {m p : Nat} (hp : p < l.length) (hq : ∀ q, ¬ Parent l l.length m q) (hne : ¬ m = p) : insideB (FF l) m p = false := by
  cases h : insideB (FF l) m p with
  | false => rfl
  | true =>
    exfalso
    simp only [insideB, Bool.and_eq_true, decide_eq_true_eq, Int.toNat_natCast] at h
    obtain ⟨k, j, hk, hj, he⟩ := has_parent T p m hp h.1 (by omega)
    exact hq k ⟨hk, hk, j, hj, he⟩
theorem inside_self {l : List Nd} (T : TreeOk l) {p : Nat} (hp : p < l.length) : insideB (FF l) p p = true := by
  simp only [insideB, Bool.and_eq_true, decide_eq_true_eq, Int.toNat_natCast]
  have := ff_le T p hp
  omega
/-- law05.within. -/
theorem within5_any {l : List Nd} (T : TreeOk l) (hbig : l.length ≤ big) (g n p : Nat) (w : World) (hI : IntsBlk w g (upF l)) (hn : n < l.length) (hp : p < l.length) :
    Calls Try.prog 26 #[.slice (some ⟨g, 0, none⟩) l.length l.length, .int .i64 n, .int .i64 p] w fun e w' => e = .returned (.bool (insideB (FF l) n p)) ∧ w = w' := by
  have hb := big_le hbig
  have HI := Lib.hid hI
  clear hI
  go_enter Try.func26, Try.ntmps26
  go_wp2_with fail
  go_loop [1] (fun v => ∃ cur : Int, v = .int .i64 cur ∧ -1 ≤ cur ∧ cur < l.length ∧ (∀ m : Nat, cur = m → insideB (FF l) m p = insideB (FF l) n p) ∧ (cur = -1 → insideB (FF l) n p = false)) (fun v => if intOf v < 0 then 0 else l.length - (intOf v).toNat)
  case atStart => exact ⟨n, rfl, by omega, by omega, fun m hm => by rw [show m = n by omega], fun h => by omega⟩
  case round =>
    obtain ⟨cur, rfl, h1, h2, h3, h4⟩ := hrel
    by_cases hc : cur = -1
    · subst hc
      have HE : Hid (insideB (FF l) n p = false) := h4 rfl
      clear h3 h4
      go_wp2_with fail
      go_ret
      exact ⟨by rw [HE.out]; rfl, rfl⟩
    · obtain ⟨m, rfl⟩ : ∃ m : Nat, cur = m := ⟨cur.toNat, by omega⟩
      have HE : Hid (insideB (FF l) m p = insideB (FF l) n p) := h3 m rfl
      clear h3 h4
      by_cases he : m = p
      · subst he
        have HT : Hid (insideB (FF l) n m = true) := HE.out.symm.trans (inside_self T hp)
        go_wp2_with fail
        go_ret
        exact ⟨by rw [HT.out]; rfl, rfl⟩
      · have hml : m < l.length := by omega
        have hx := HI.out.cell (i := m) (by rw [upF_len]; exact hml)
        have heb : ((m : Int) == (p : Int)) = false := by simp; omega
        have heI : ¬ (m : Int) = (p : Int) := by omega
        rcases up_spec T m hml with ⟨hu, hno⟩ | ⟨q, hq, hu⟩
        · rw [hu] at hx
          have HN : Hid (insideB (FF l) n p = false) := HE.out.symm.trans (inside_none T hp hno he)
          clear hu hno
          go_wp2_with fail
          go_round
          case rel => exact ⟨-1, rfl, by omega, by omega, fun m hm => by omega, fun _ => HN.out⟩
          case measure =>
            show (if (-1 : Int) < 0 then 0 else l.length - (-1 : Int).toNat) < (if (m : Int) < 0 then 0 else l.length - (m : Int).toNat)
            rw [if_pos (by omega), if_neg (by omega)]; omega
        · rw [hu] at hx
          have HN : Hid (insideB (FF l) q p = insideB (FF l) n p) := (inside_up T hp hq he).trans HE.out
          have hqm : m < q := by
            obtain ⟨_, q2, j, hj, hk⟩ := hq
            have := kid_lt T.wf q2 hj
            omega
          have hql : q < l.length := hq.2.1
          clear hu hq
          go_wp2_with fail
          go_round
          case rel => exact ⟨q, rfl, by omega, by omega, fun m hm => by rw [show m = q by omega]; exact HN.out, fun h => by omega⟩
          case measure =>
            show (if (q : Int) < 0 then 0 else l.length - (q : Int).toNat) < (if (m : Int) < 0 then 0 else l.length - (m : Int).toNat)
            rw [if_neg (by omega), if_neg (by omega)]; omega
end Go.Proofs.Ytmaepljmefdhkaa
end

section
namespace Go.Proofs.Ytmaepljmefdhkaa
open Go.ChangeShapes Go.WideShapes Go.ChangeAt Go.RowKit
theorem ownTry' : ownKnob Try.prog.godebug = none := by kernel_rfl
/-- A law's last step: what came in reads as it did, the answer is one bool; the call has made memory alone. -/
theorem law_end {H : Type} {enc : TypeId × Value → H} {f : Func} {s : ChangeSpec} {W W' : World} {args : Array Value} {b : Bool} {ds gs : List (DataW H)} {before : List MemPlace}
    (hW : DataW.Whole enc Try.prog f.params.toList s.vars false W args.toList ds gs before) (hr : f.resultTypes = #[4]) (hvs : s.vars = []) (hf1 : (s.fn H (ds ++ gs)).results = [.lit (.bool b)]) (hf2 : (s.fn H (ds ++ gs)).vars = [])
    (hargs : ∀ sp : Nat → Bool, (∀ p ∈ before, sp p.block = true) → DataW.TrodAll enc Try.prog W' 0 sp true f.params.toList args.toList (s.fn H (ds ++ gs)).args before)
    (hb : Below W.heap.size W W') : s.post enc Try.prog f false true false false W args (.bool b) W' := by
  have hlt : ∀ p ∈ before, p.block < W.heap.size := fun p hp => hW.lt p hp
  have hvars : ∀ sp : Nat → Bool, DataW.TrodVars enc Try.prog W' sp s.vars (s.fn H (ds ++ gs)).vars [] := fun sp => by rw [hvs, hf2]; rfl
  have hres : ∀ (k : Nat) (sp : Nat → Bool) (hd : Bool), DataW.TrodAll enc Try.prog W' k sp hd f.resultTypes.toList ((Value.bool b).resultList f.resultTypes.size) (s.fn H (ds ++ gs)).results [] := fun k sp hd => by
    rw [hr, hf1]
    exact trodAll_cons_mk (shut_bool Try.underlying4 _) trodAll_mk0
  refine ⟨ds, gs, before, [], before, [], hW, hres _ _ _, hargs _ (fun p hp => by simpa using hlt p hp), hvars _, World.keptBut_mono (fun p hp => ⟨hp, Or.inr (Or.inl hp)⟩) (hb.frame (· ∈ before)), fun h => by cases h⟩
set_option maxRecDepth 100000 in
theorem arg_nodes {H : Type} {enc : TypeId × Value → H} {W : World} {v : Value} {d : DataW H} {p : List MemPlace} {b0 : Nat} (hv : Value.okWide Try.prog W .any b0 22 v) (h : DataW.Trod enc Try.prog W 0 (fun _ => true) true 22 v d p) : ∃ A c ns, v = .slice A ns.length c ∧ NodesRaw W A ns := by
  obtain ⟨n, hn⟩ := h
  obtain ⟨A, c, ns, e, hr⟩ := open_nodes hn
  refine ⟨A, c, ns, ?_, hr⟩
  obtain ⟨a, len, cap, rfl⟩ := okWide_slice Try.underlying22 hv
  simpa [Value.cells] using e
end Go.Proofs.Ytmaepljmefdhkaa
end
