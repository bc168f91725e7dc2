import Derived.Test.YtmaepljmefdhkaaScopeP
import Derived.Test.YtmaepljmefdhkaaScopeAB
section
namespace Go.Proofs.Ytmaepljmefdhkaa
open Go.RowKit Go.Maps
set_option maxHeartbeats 1000000
set_option maxRecDepth 100000

/-! A tree's ranges: of each node, from the first one below it up to it. -/
def FF (l : List Nd) : List Int := firstGo l l.length []
def Rng (l : List Nd) (p i : Int) : Prop := gi (FF l) p.toNat ≤ i ∧ i ≤ p
theorem gi_append_left {fs gs : List Int} {j : Nat} (h : j < fs.length) : gi (fs ++ gs) j = gi fs j := by
  unfold gi; rw [List.getD_eq_getElem?_getD, List.getD_eq_getElem?_getD, List.getElem?_append_left h]
theorem firstGo_spec {l : List Nd} (hw : Wf l) : ∀ (d : Nat) (fs : List Int), fs.length + d = l.length → (∀ i, i < fs.length → gi fs i = if 0 < (nd l i).kids.length then gi fs (kid l i 0) else (i : Int)) →
    (firstGo l d fs).length = l.length ∧ ∀ i, i < l.length → gi (firstGo l d fs) i = if 0 < (nd l i).kids.length then gi (firstGo l d fs) (kid l i 0) else (i : Int)
  | 0, fs, hd, h => ⟨by unfold firstGo; omega, fun i hi => h i (by omega)⟩
  | d + 1, fs, hd, h => by
    unfold firstGo
    refine firstGo_spec hw d _ (by simp; omega) (fun i hi => ?_)
    have hi' : i < fs.length + 1 := by simpa using hi
    by_cases e : i < fs.length
    · rw [gi_append_left e, h i e]
      split
      · rename_i h0
        have := kid_lt hw (show i < l.length by omega) h0
        rw [gi_append_left (by omega)]
      · rfl
    · obtain rfl : i = fs.length := by omega
      have e1 : ∀ x : Int, gi (fs ++ [x]) fs.length = x := fun x => by simp [gi, List.getD_eq_getElem?_getD]
      rw [e1]
      split
      · rename_i h0
        have := kid_lt hw (show fs.length < l.length by omega) h0
        rw [gi_append_left this]
      · rfl
theorem ff_spec {l : List Nd} (hw : Wf l) : (FF l).length = l.length ∧ ∀ i, i < l.length → gi (FF l) i = if 0 < (nd l i).kids.length then gi (FF l) (kid l i 0) else (i : Int) :=
  firstGo_spec hw l.length [] (by simp) (fun i hi => by simp at hi)
/-- What Check has seen of a node, its kids' ranges told by FF. -/
theorem check_tree {l : List Nd} (hw : Wf l) : ∀ (d i : Nat) (fs : List Int), i + d = l.length → fs.length = l.length → (∀ j, j < i → gi fs j = gi (FF l) j) → (checkFrom l d i fs).2 = 0 →
    (∀ k, i ≤ k → k < l.length → ∃ fs', (∀ j, j < k → gi fs' j = gi (FF l) j) ∧ nodeErr l k fs' = 0) ∧ 0 < l.length ∧ (nd l (l.length - 1)).kind = 46 ∧ gi (FF l) (l.length - 1) = 0
  | 0, i, fs, hd, hlen, hfs, h => by
    unfold checkFrom checkEnd at h
    split at h
    · simp at h
    · rename_i h0
      split at h
      · simp at h
      · rename_i h1
        simp only [Bool.or_eq_true, bne_iff_ne, ne_eq, not_or, Decidable.not_not] at h1
        exact ⟨fun k hk hk2 => by omega, by omega, h1.1, by rw [← hfs _ (by omega)]; exact h1.2⟩
  | d + 1, i, fs, hd, hlen, hfs, h => by
    unfold checkFrom at h
    split at h
    · rename_i he
      have he' : nodeErr l i fs = 0 := by simpa using he
      have ih := check_tree hw d (i + 1) _ (by omega) (by rw [List.length_set]; exact hlen) (fun j hj => by
        rw [gi_set _ (by omega)]
        split
        · rename_i e2
          subst e2
          rw [(ff_spec hw).2 j (by omega)]
          unfold firstVal
          split
          · rename_i h0
            have := kid_lt hw (show j < l.length by omega) h0
            exact hfs _ this
          · rfl
        · exact hfs j (by omega)) h
      refine ⟨fun k hik hk => ?_, ih.2⟩
      by_cases e : k = i
      · subst e; exact ⟨fs, hfs, he'⟩
      · exact ih.1 k (by omega) hk
    · rename_i he
      exact absurd h (by simpa using he)
theorem loop_kids {l : List Nd} {n : Nd} {fs gs : List Int} {i : Nat} (hfs : ∀ j, j < i → gi fs j = gi gs j) (hd : ∀ j, j < n.kids.length → 0 ≤ gi n.kids j ∧ gi n.kids j < (i : Int)) : ∀ (j : Nat) (q : Int), j ≤ n.kids.length → kidsLoop l n fs j q = true →
    (∀ m, m < j → kidOK l n m = true) ∧ (0 < j → gi n.kids (j - 1) = q) ∧ ∀ m, m + 1 < j → gi n.kids m = gi gs (gi n.kids (m + 1)).toNat - 1
  | 0, q, _, _ => ⟨fun m hm => by omega, fun h => by omega, fun m hm => by omega⟩
  | j + 1, q, hj, h => by
    simp only [kidsLoop] at h
    split at h
    · cases h
    · rename_i h1
      split at h
      · cases h
      · rename_i h2
        simp only [Bool.or_eq_true, decide_eq_true_eq, bne_iff_ne, not_or, Int.not_lt, Decidable.not_not] at h1
        have hdj := hd j (by omega)
        obtain ⟨a, b, c⟩ := loop_kids hfs hd j _ (by omega) h
        refine ⟨fun m hm => ?_, fun _ => by simpa using h1.2, fun m hm => ?_⟩
        · by_cases e : m = j
          · subst e; simpa using h2
          · exact a m (by omega)
        · by_cases e : m + 1 = j
          · subst e
            have := b (by omega)
            rw [Nat.add_sub_cancel] at this
            rw [this, hfs _ (by omega)]
          · exact c m (by omega)
/-- A tree. -/
structure TreeOk (l : List Nd) : Prop where
  wf : Wf l
  pos : 0 < l.length
  root : (nd l (l.length - 1)).kind = 46 ∧ gi (FF l) (l.length - 1) = 0
  last : ∀ k, k < l.length → 0 < (nd l k).kids.length → gi (nd l k).kids ((nd l k).kids.length - 1) = (k : Int) - 1
  next : ∀ k, k < l.length → ∀ m, m + 1 < (nd l k).kids.length → gi (nd l k).kids m = gi (FF l) (gi (nd l k).kids (m + 1)).toNat - 1
  okk : ∀ k, k < l.length → ∀ m, m < (nd l k).kids.length → kidOK l (nd l k) m = true
  many : ∀ k, k < l.length → (wantsN (nd l k) 0).2.1 ≤ ((nd l k).kids.length : Int) ∧ ((nd l k).kids.length : Int) ≤ (wantsN (nd l k) 0).2.2
  num : ∀ k, k < l.length → numB (nd l k).kind (nd l k).num (nd l k).kids.length = true
theorem tree_ok {l : List Nd} (hc : (checkF l).2 = 0) : TreeOk l := by
  have hw := wf_of_check hc
  obtain ⟨h1, h2, h3, h4⟩ := check_tree hw l.length 0 _ (by omega) (by simp) (fun j hj => by omega) hc
  have hk : ∀ k, k < l.length → (∀ m, m < (nd l k).kids.length → kidOK l (nd l k) m = true) ∧ (0 < (nd l k).kids.length → gi (nd l k).kids ((nd l k).kids.length - 1) = (k : Int) - 1) ∧ (∀ m, m + 1 < (nd l k).kids.length → gi (nd l k).kids m = gi (FF l) (gi (nd l k).kids (m + 1)).toNat - 1) ∧ (wantsN (nd l k) 0).2.1 ≤ ((nd l k).kids.length : Int) ∧ ((nd l k).kids.length : Int) ≤ (wantsN (nd l k) 0).2.2 ∧ numB (nd l k).kind (nd l k).num (nd l k).kids.length = true := fun k hk => by
    obtain ⟨fs', hfs, he⟩ := h1 k (by omega) hk
    obtain ⟨e1, e2⟩ := err_kids he
    have e3 := kidsB_many e1
    unfold kidsB at e1
    simp only at e1
    split at e1
    · cases e1
    · obtain ⟨a, b, c⟩ := loop_kids hfs (hw.down k hk) _ _ (Nat.le_refl _) e1
      exact ⟨a, b, c, e3.1, e3.2, e2⟩
  exact ⟨hw, h2, ⟨h3, h4⟩, fun k h => (hk k h).2.1, fun k h => (hk k h).2.2.1, fun k h => (hk k h).1, fun k h => ⟨(hk k h).2.2.2.1, (hk k h).2.2.2.2.1⟩, fun k h => (hk k h).2.2.2.2.2⟩
section
variable {l : List Nd} (T : TreeOk l)
include T
theorem ff_le : ∀ (k : Nat), k < l.length → 0 ≤ gi (FF l) k ∧ gi (FF l) k ≤ (k : Int) := by
  intro k
  induction k using Nat.strongRecOn with
  | _ k ih =>
    intro hk
    rw [(ff_spec T.wf).2 k hk]
    split
    · rename_i h0
      have h1 := kid_lt T.wf hk h0
      have := ih _ h1 (by omega)
      omega
    · omega
theorem kid_eq {k j : Nat} (hk : k < l.length) (hj : j < (nd l k).kids.length) : gi (nd l k).kids j = (kid l k j : Int) := by
  have := (T.wf.down k hk j hj).1
  unfold kid; omega
theorem kid_next {k j : Nat} (hk : k < l.length) (hj : j + 1 < (nd l k).kids.length) : (kid l k j : Int) + 1 = gi (FF l) (kid l k (j + 1)) := by
  have h1 := T.next k hk j hj
  rw [kid_eq T hk (by omega), kid_eq T hk hj, Int.toNat_natCast] at h1
  omega
/-- The kids' ranges lie one behind the other. -/
theorem kid_order {k : Nat} (hk : k < l.length) : ∀ (d i : Nat), i + d + 1 < (nd l k).kids.length → (kid l k i : Int) < gi (FF l) (kid l k (i + d + 1))
  | 0, i, h => by have := kid_next T hk (j := i) (by omega); show (kid l k i : Int) < gi (FF l) (kid l k (i + 1)); omega
  | d + 1, i, h => by
    have h1 := kid_order hk d (i + 1) (by omega)
    have h2 := kid_next T hk (j := i) (by omega)
    have h3 := kid_lt T.wf hk (k := i + 1) (by omega)
    have h4 := ff_le T (kid l k (i + 1)) (by omega)
    have e : i + 1 + d + 1 = i + (d + 1) + 1 := by omega
    rw [e] at h1
    omega
theorem kid_before {k i j : Nat} (hk : k < l.length) (hij : i < j) (hj : j < (nd l k).kids.length) : (kid l k i : Int) < gi (FF l) (kid l k j) := by
  have := kid_order T hk (j - i - 1) i (by omega)
  rwa [show i + (j - i - 1) + 1 = j from by omega] at this
theorem ff_kid {k j : Nat} (hk : k < l.length) (hj : j < (nd l k).kids.length) : gi (FF l) k ≤ gi (FF l) (kid l k j) := by
  rw [(ff_spec T.wf).2 k hk, if_pos (by omega)]
  rcases Nat.eq_zero_or_pos j with e | e
  · rw [e]; omega
  · have h1 := kid_before T hk e hj
    have h2 := kid_lt T.wf hk (k := 0) (by omega)
    have h3 := ff_le T (kid l k 0) (by omega)
    omega
/-- What is in a range, but is not the node: it is in one kid's range. -/
theorem rng_kid {k i : Nat} (hk : k < l.length) (h1 : gi (FF l) k ≤ (i : Int)) (h2 : i < k) : ∃ j, j < (nd l k).kids.length ∧ gi (FF l) (kid l k j) ≤ (i : Int) ∧ i ≤ kid l k j := by
  by_cases h0 : 0 < (nd l k).kids.length
  · have go : ∀ d, d < (nd l k).kids.length → i ≤ kid l k d → ∃ j, j < (nd l k).kids.length ∧ gi (FF l) (kid l k j) ≤ (i : Int) ∧ i ≤ kid l k j := by
      intro d
      induction d with
      | zero =>
        intro hd hi
        refine ⟨0, hd, ?_, hi⟩
        rw [(ff_spec T.wf).2 k hk, if_pos h0] at h1
        exact h1
      | succ d ih =>
        intro hd hi
        by_cases hc : gi (FF l) (kid l k (d + 1)) ≤ (i : Int)
        · exact ⟨d + 1, hd, hc, hi⟩
        · have := kid_next T hk (j := d) hd
          exact ih (by omega) (by omega)
    refine go ((nd l k).kids.length - 1) (by omega) ?_
    have h3 := T.last k hk h0
    rw [kid_eq T hk (by omega)] at h3
    omega
  · rw [(ff_spec T.wf).2 k hk, if_neg h0] at h1
    omega
/-- Ranges lie in each other. -/
theorem rng_nest : ∀ (p q : Nat), p < l.length → gi (FF l) p ≤ (q : Int) → q ≤ p → gi (FF l) p ≤ gi (FF l) q := by
  intro p
  induction p using Nat.strongRecOn with
  | _ p ih =>
    intro q hp h1 h2
    by_cases e : q = p
    · subst e; omega
    · obtain ⟨j, hj, h3, h4⟩ := rng_kid T hp h1 (by omega)
      have h5 := kid_lt T.wf hp hj
      have h6 := ih _ h5 q (by omega) h3 h4
      have h7 := ff_kid T hp hj
      omega
/-- A node's parent lies in whatever the node lies in, but is not. -/
theorem rng_up {p n k j : Nat} (hp : p < l.length) (hk : k < l.length) (hj : j < (nd l k).kids.length) (hn : kid l k j = n) (h1 : gi (FF l) p ≤ (n : Int)) (h2 : n < p) : gi (FF l) p ≤ (k : Int) ∧ k ≤ p := by
  have hnk := kid_lt T.wf hk hj
  refine ⟨by omega, ?_⟩
  by_cases hc : k ≤ p
  · exact hc
  · exfalso
    have h3 := ff_kid T hk hj
    have h4 := ff_le T (kid l k j) (by omega)
    obtain ⟨j', hj', h5, h6⟩ := rng_kid T hk (i := p) (by omega) (by omega)
    rcases Nat.lt_trichotomy j' j with h | h | h
    · have := kid_before T hk h hj; omega
    · subst h; omega
    · have h7 := kid_before T hk h hj'
      have h8 := rng_nest T _ p (by have := kid_lt T.wf hk hj'; omega) h5 h6
      omega
theorem rng_down {p n k j : Nat} (hp : p < l.length) (hk : k < l.length) (hj : j < (nd l k).kids.length) (hn : kid l k j = n) (h1 : gi (FF l) p ≤ (k : Int)) (h2 : k ≤ p) : gi (FF l) p ≤ (n : Int) ∧ n < p := by
  have h3 := rng_nest T p k hp h1 h2
  have h4 := ff_kid T hk hj
  have h5 := kid_lt T.wf hk hj
  have h6 := ff_le T (kid l k j) (by omega)
  omega
theorem has_parent : ∀ (p n : Nat), p < l.length → gi (FF l) p ≤ (n : Int) → n < p → ∃ k j, k < l.length ∧ j < (nd l k).kids.length ∧ kid l k j = n := by
  intro p
  induction p using Nat.strongRecOn with
  | _ p ih =>
    intro n hp h1 h2
    obtain ⟨j, hj, h3, h4⟩ := rng_kid T hp h1 h2
    by_cases e : n = kid l p j
    · exact ⟨p, j, hp, hj, e.symm⟩
    · have := kid_lt T.wf hp hj
      exact ih _ this n (by omega) h3 (by omega)
end
end Go.Proofs.Ytmaepljmefdhkaa
end

section
namespace Go.Proofs.Ytmaepljmefdhkaa
open Go.RowKit Go.Maps
set_option maxHeartbeats 1000000
set_option maxRecDepth 100000

section
variable {l : List Nd} (T : TreeOk l)
include T
theorem kid_class {k m : Nat} (hk : k < l.length) (hm : m < (nd l k).kids.length) : isB (nd l (kid l k m)).kind (wantsN (nd l k) m).1 = true ∨ ((nd l k).kind = 36 ∧ m = 2 ∧ (nd l (kid l k m)).kind = 36) := by
  have := T.okk k hk m hm
  unfold kidOK at this
  rw [kid_eq T hk hm, Int.toNat_natCast] at this
  simp only [Bool.or_eq_true, Bool.and_eq_true, beq_iff_eq] at this
  rcases this with h | ⟨⟨h1, h2⟩, h3⟩
  · exact Or.inl h
  · exact Or.inr ⟨h1, by omega, h3⟩
theorem kid_type {k m : Nat} (hk : k < l.length) (hm : m < (nd l k).kids.length) (h : (nd l k).kind = 4 ∨ (nd l k).kind = 5 ∨ (nd l k).kind = 6 ∨ (nd l k).kind = 7 ∨ (nd l k).kind = 42 ∨ (nd l k).kind = 45 ∨ (nd l k).kind = 19) : 1 ≤ (nd l (kid l k m)).kind ∧ (nd l (kid l k m)).kind ≤ 7 := by
  rcases kid_class T hk hm with h1 | h1
  · unfold wantsN at h1
    rcases h with h | h | h | h | h | h | h <;> rw [h] at h1 <;> simp [wantsF, isB] at h1 <;> omega
  · omega
theorem no_kids {k : Nat} (hk : k < l.length) (h : (nd l k).kind = 1 ∨ (nd l k).kind = 2 ∨ (nd l k).kind = 3 ∨ (nd l k).kind = 13) : (nd l k).kids.length = 0 := by
  have := (T.many k hk).2
  unfold wantsN at this
  rcases h with h | h | h | h <;> rw [h] at this <;> simp [wantsF] at this
  all_goals
    first
      | exact this
      | (split at this <;> simp at this <;> simp [this])
/-- In a type there are types alone. -/
theorem type_range : ∀ (k i : Nat), k < l.length → 1 ≤ (nd l k).kind ∧ (nd l k).kind ≤ 7 → gi (FF l) k ≤ (i : Int) → i ≤ k → 1 ≤ (nd l i).kind ∧ (nd l i).kind ≤ 7 := by
  intro k
  induction k using Nat.strongRecOn with
  | _ k ih =>
    intro i hk ht h1 h2
    by_cases e : i = k
    · subst e; exact ht
    · obtain ⟨j, hj, h3, h4⟩ := rng_kid T hk h1 (by omega)
      have h5 := kid_lt T.wf hk hj
      have h6 : (nd l (kid l k j)).kind ≥ 1 ∧ (nd l (kid l k j)).kind ≤ 7 := by
        by_cases hs : (nd l k).kind = 1 ∨ (nd l k).kind = 2 ∨ (nd l k).kind = 3 ∨ (nd l k).kind = 13
        · have := no_kids T hk hs; omega
        · exact kid_type T hk hj (by omega)
      exact ih _ h5 i (by omega) h6 h3 h4
/-- Below these there is no name in an expression. -/
theorem no_name {k i : Nat} (hk : k < l.length) (h : (nd l k).kind = 4 ∨ (nd l k).kind = 5 ∨ (nd l k).kind = 6 ∨ (nd l k).kind = 7 ∨ (nd l k).kind = 42 ∨ (nd l k).kind = 45 ∨ (nd l k).kind = 19) (h1 : gi (FF l) k ≤ (i : Int)) (h2 : i ≤ k) : (nd l i).kind ≠ 13 := by
  by_cases e : i = k
  · subst e; omega
  · obtain ⟨j, hj, h3, h4⟩ := rng_kid T hk h1 (by omega)
    have h5 := kid_lt T.wf hk hj
    have h6 := type_range T _ i (by omega) (kid_type T hk hj h) h3 h4
    omega
theorem prog_num {k : Nat} (hk : k < l.length) (h : (nd l k).kind = 20) : 0 ≤ (nd l k).num ∧ (nd l k).num ≤ 1 := by
  have := T.num k hk
  rw [h] at this
  simp [numB] at this
  omega
theorem prog_kids {k m : Nat} (hk : k < l.length) (h : (nd l k).kind = 20) (hm : m < (nd l k).kids.length) : (m + 1 = (nd l k).kids.length → (nd l (kid l k m)).kind = 41) ∧ (m + 1 < (nd l k).kids.length → (nd l (kid l k m)).kind = 42 ∨ (1 ≤ (nd l (kid l k m)).kind ∧ (nd l (kid l k m)).kind ≤ 7)) := by
  rcases kid_class T hk hm with h1 | h1
  · unfold wantsN at h1
    rw [h] at h1
    simp only [wantsF] at h1
    refine ⟨fun e => ?_, fun e => ?_⟩
    · have e2 : ((m : Int) == ((nd l k).kids.length : Int) - 1) = true := by simp; omega
      simp [paramF, e2, isB] at h1
      exact h1
    · have e2 : ((m : Int) == ((nd l k).kids.length : Int) - 1) = false := by simp; omega
      simp only [paramF, e2] at h1
      simp at h1
      split at h1
      · simp [isB] at h1; exact Or.inr (by omega)
      · simp [isB] at h1; exact Or.inl h1
  · omega
theorem recv_kids {k : Nat} (hk : k < l.length) (h : (nd l k).kind = 43) : (nd l k).kids.length = 2 ∧ (nd l (kid l k 1)).kind = 41 := by
  have h1 := T.many k hk
  unfold wantsN at h1
  rw [h] at h1
  simp only [wantsF] at h1
  have h2 : (nd l k).kids.length = 2 := by
    simp at h1
    split at h1 <;> simp at h1 <;> omega
  refine ⟨h2, ?_⟩
  rcases kid_class T hk (m := 1) (by omega) with h3 | h3
  · unfold wantsN at h3
    rw [h, h2] at h3
    simp [wantsF, isB] at h3
    exact h3
  · omega
end

/-! What holds of what the walker has told. -/
def inL : List UInt8 := "input".toUTF8.data.toList
def outL : List UInt8 := "output".toUTF8.data.toList
/-- What a name may mean. -/
def MeansB (l : List Nd) (s : List UInt8) (d : Int) : Prop := (d = -2 ∧ s = inL) ∨ (d = -3 ∧ s = outL) ∨ ∃ n : Nat, n < l.length ∧ d = n ∧ nameL l n = s
structure Inv (l : List Nd) (st : St) : Prop where
  nm : ∀ s m, m ∈ st.names s → MeansB l s m.1
  rlen : st.ref.length = l.length
  flen : st.free.length = l.length
  ref : ∀ i : Nat, i < l.length → gi st.ref i ≠ -1 → (nd l i).kind = 13 ∧ MeansB l (nameL l i) (gi st.ref i) ∧
    ∀ p : Nat, p < l.length → (nd l p).kind = 20 → gi (FF l) p ≤ (i : Int) → i ≤ p → insideB (FF l) (gi st.ref i) p = true ∨ (gi st.ref i ∈ st.free.getD p [] ∧ isVarB l (gi st.ref i) = false)
  fre : ∀ p : Nat, p < l.length → ∀ d, d ∈ st.free.getD p [] → (nd l p).kind = 20 ∧ insideB (FF l) d p = false ∧ isVarB l d = false ∧ d ≠ -1 ∧ ∃ i : Nat, i < l.length ∧ gi st.ref i = d ∧ gi (FF l) p ≤ (i : Int) ∧ i ≤ p
/-- The progs about a node. -/
def Stack (l : List Nd) (i : Nat) (ps : List Int) : Prop := (∀ x : Int, x ∈ ps ↔ ∃ p : Nat, x = p ∧ p < l.length ∧ (nd l p).kind = 20 ∧ gi (FF l) p ≤ (i : Int) ∧ i < p) ∧ ∀ x ∈ ps, ∀ k, ps.length = k + 1 → gi ps k ≤ x
structure Done (l : List Nd) (i : Nat) (a b : St) : Prop where
  inv : Inv l b
  far : ∀ j : Nat, j < l.length → ¬ (gi (FF l) i ≤ (j : Int) ∧ j ≤ i) → gi b.ref j = gi a.ref j
  all : b.code = 0 → a.code = 0 ∧ ∀ j : Nat, gi (FF l) i ≤ (j : Int) → j ≤ i → (nd l j).kind = 13 → gi b.ref j ≠ -1
theorem means_ne {l : List Nd} {s : List UInt8} {d : Int} (h : MeansB l s d) : d ≠ -1 := by
  rcases h with ⟨h, _⟩ | ⟨h, _⟩ | ⟨n, _, h, _⟩ <;> omega
section
variable {l : List Nd} {st : St}
theorem Inv.wrong (h : Inv l st) (i : Nat) (e : Int) : Inv l (wrongF l st i e) := by
  unfold wrongF
  split
  · exact ⟨h.nm, h.rlen, h.flen, h.ref, h.fre⟩
  · exact h
theorem Inv.declare (h : Inv l st) {i : Nat} (hi : i < l.length) : Inv l (declareF l st i) := by
  unfold declareF
  split
  · exact h
  · split
    · exact h.wrong _ _
    · refine ⟨fun s m hm => ?_, h.rlen, h.flen, h.ref, h.fre⟩
      by_cases e : s = nameL l i
      · have e1 : (setName st (nameL l i) (st.names (nameL l i) ++ [((i : Int), st.block)])).names s = st.names (nameL l i) ++ [((i : Int), st.block)] := by simp [setName, e]
        rw [e1, List.mem_append, List.mem_singleton] at hm
        rcases hm with hm | rfl
        · rw [e]; exact h.nm _ _ hm
        · exact Or.inr (Or.inr ⟨i, hi, rfl, e.symm⟩)
      · have e1 : (setName st (nameL l i) (st.names (nameL l i) ++ [((i : Int), st.block)])).names s = st.names s := by simp [setName, e]
        rw [e1] at hm; exact h.nm s m hm
theorem Inv.enter (h : Inv l st) : Inv l (enterF st) := ⟨h.nm, h.rlen, h.flen, h.ref, h.fre⟩
theorem Inv.leave (h : Inv l st) (a : Int) : Inv l (leaveF st a) := by
  refine ⟨fun s m hm => ?_, h.rlen, h.flen, h.ref, h.fre⟩
  have hm' : m ∈ stripM st.block (st.names s) := hm
  unfold stripM at hm'
  split at hm'
  · exact h.nm s m ((List.dropLast_sublist _).subset hm')
  · exact h.nm s m hm'
theorem Inv.place (h : Inv l st) (i : Nat) : Inv l (placeF l st i) := by
  unfold placeF
  split
  · exact ⟨h.nm, h.rlen, h.flen, h.ref, h.fre⟩
  · exact h
theorem declare_rf {i : Nat} : (declareF l st i).ref = st.ref ∧ (declareF l st i).free = st.free ∧ ((declareF l st i).code = 0 → st.code = 0) := by
  unfold declareF wrongF setName
  split
  · exact ⟨rfl, rfl, id⟩
  · split
    · split
      · exact ⟨rfl, rfl, fun h => by simp at h⟩
      · exact ⟨rfl, rfl, id⟩
    · exact ⟨rfl, rfl, id⟩
theorem place_rf {i : Nat} : (placeF l st i).ref = st.ref ∧ (placeF l st i).code = st.code := by unfold placeF; split <;> exact ⟨rfl, rfl⟩
/-- What binding a name does to what is captured. -/
theorem addFree_mem {first : List Int} {d : Int} {fr : List (List Int)} {p : Int} (hp : p.toNat < fr.length) (q : Nat) (x : Int) : x ∈ (addFree first d fr p).getD q [] ↔ x ∈ fr.getD q [] ∨ (x = d ∧ q = p.toNat ∧ insideB first d p = false) := by
  unfold addFree
  split
  · rename_i hc
    simp only [Bool.or_eq_true] at hc
    refine ⟨Or.inl, fun h => h.elim id (fun ⟨h1, h2, h3⟩ => ?_)⟩
    subst h1; subst h2
    rcases hc with hc | hc
    · rw [h3] at hc; cases hc
    · unfold hasB at hc
      obtain ⟨y, hy, hyx⟩ := List.any_eq_true.1 hc
      rw [beq_iff_eq] at hyx
      rw [← hyx]; exact hy
  · rename_i hc
    simp only [Bool.or_eq_true, not_or, Bool.not_eq_true] at hc
    by_cases e : q = p.toNat
    · subst e
      have e1 : (fr.set p.toNat (fr.getD p.toNat [] ++ [d])).getD p.toNat [] = fr.getD p.toNat [] ++ [d] := by simp [List.getD_eq_getElem?_getD, List.getElem?_set_self hp]
      rw [e1, List.mem_append, List.mem_singleton]
      exact ⟨fun h => h.imp id (fun h => ⟨h, rfl, hc.1⟩), fun h => h.imp id (fun h => h.1)⟩
    · have e1 : (fr.set p.toNat (fr.getD p.toNat [] ++ [d])).getD q [] = fr.getD q [] := by simp [List.getD_eq_getElem?_getD, List.getElem?_set_ne (fun h => e h.symm)]
      rw [e1]
      exact ⟨Or.inl, fun h => h.elim id (fun h => absurd h.2.1 e)⟩
theorem addFree_len {first : List Int} {d : Int} {fr : List (List Int)} {p : Int} : (addFree first d fr p).length = fr.length := by
  unfold addFree; split <;> simp
theorem fold_mem {first : List Int} {d : Int} (q : Nat) (x : Int) : ∀ (ps : List Int) (fr : List (List Int)), (∀ p ∈ ps, 0 ≤ p ∧ p.toNat < fr.length) → (x ∈ (ps.foldl (addFree first d) fr).getD q [] ↔ x ∈ fr.getD q [] ∨ (x = d ∧ (q : Int) ∈ ps ∧ insideB first d q = false))
  | [], fr, _ => by simp
  | p :: ps, fr, hp => by
    have h0 := hp p (by simp)
    rw [List.foldl_cons, fold_mem q x ps _ (fun y hy => by rw [addFree_len]; exact hp y (by simp [hy])), addFree_mem h0.2]
    have e : q = p.toNat ↔ (q : Int) = p := by omega
    rw [List.mem_cons, e]
    constructor
    · rintro ((h | ⟨h1, h2, h3⟩) | ⟨h1, h2, h3⟩)
      · exact Or.inl h
      · exact Or.inr ⟨h1, Or.inl h2, by rw [h2]; exact h3⟩
      · exact Or.inr ⟨h1, Or.inr h2, h3⟩
    · rintro (h | ⟨h1, h2 | h2, h3⟩)
      · exact Or.inl (Or.inl h)
      · exact Or.inl (Or.inr ⟨h1, h2, by rw [← h2]; exact h3⟩)
      · exact Or.inr ⟨h1, h2, h3⟩
theorem fold_len {first : List Int} {d : Int} : ∀ (ps : List Int) (fr : List (List Int)), (ps.foldl (addFree first d) fr).length = fr.length
  | [], _ => rfl
  | p :: ps, fr => by rw [List.foldl_cons, fold_len ps, addFree_len]
end
end Go.Proofs.Ytmaepljmefdhkaa
end

section
namespace Go.Proofs.Ytmaepljmefdhkaa
open Go.RowKit Go.Maps
set_option maxHeartbeats 2000000
set_option maxRecDepth 100000

/-! The progs about a place stand as they stood. -/
section
variable {l : List Nd} {first : List Int}
theorem all_progs {node : St → Nat → St} (hn : ∀ st k, (node st k).progs = st.progs) : ∀ (ks : List Int) (st : St), (allF node ks st).progs = st.progs
  | [], _ => rfl
  | k :: ks, st => by
    have := all_progs hn ks (node st k.toNat)
    unfold allF at this ⊢
    rw [List.foldl_cons, this, hn]
theorem params_progs : ∀ (ks : List Int) (st : St), (ks.foldl (declParam l) st).progs = st.progs
  | [], _ => rfl
  | k :: ks, st => by
    rw [List.foldl_cons, params_progs ks]
    unfold declParam
    split
    · exact declare_blk.2
    · rfl
theorem node_progs : ∀ (f : Nat) (st : St) (i : Nat), (nodeF l first f st i).progs = st.progs
  | 0, _, _ => rfl
  | f + 1, st, i => by
    have hall : ∀ ks st, (allF (nodeF l first f) ks st).progs = st.progs := all_progs (fun st k => node_progs f st k)
    unfold nodeF
    split; · rfl
    split; · exact name_blk.2
    split
    · show List.dropLast (withinF (fun s => withinF (bodyF l (nodeF l first f) i) (declareF l s i)) { st with progs := st.progs ++ [(i : Int)] }).progs = st.progs
      have : (withinF (fun s => withinF (bodyF l (nodeF l first f) i) (declareF l s i)) { st with progs := st.progs ++ [(i : Int)] }).progs = st.progs ++ [(i : Int)] := by
        show (bodyF l (nodeF l first f) i (enterF (declareF l (enterF { st with progs := st.progs ++ [(i : Int)] }) i))).progs = _
        unfold bodyF
        rw [hall, params_progs]
        show (declareF l (enterF { st with progs := st.progs ++ [(i : Int)] }) i).progs = _
        rw [declare_blk.2]
        rfl
      rw [this, List.dropLast_concat]
    split
    · simp only
      split
      · rw [declare_blk.2, hall]
      · exact hall _ _
    split; · rw [hall, place_blk.2]
    split; · show (allF (nodeF l first f) _ (enterF st)).progs = _; rw [hall]; rfl
    split
    · show (allF (nodeF l first f) _ (declareF l (enterF _) i)).progs = _
      rw [hall, declare_blk.2]
      show (nodeF l first f st _).progs = _
      exact node_progs f st _
    split; · rfl
    exact hall _ _
end
theorem wrong_code {l : List Nd} {st : St} {i : Nat} {e : Int} (he : e ≠ 0) : (wrongF l st i e).code ≠ 0 := by
  unfold wrongF
  split
  · exact he
  · assumption
theorem wrong_ref {l : List Nd} {st : St} {i : Nat} {e : Int} : (wrongF l st i e).ref = st.ref := by unfold wrongF; split <;> rfl

section
variable {l : List Nd} (T : TreeOk l)
include T
theorem stack_kid {k t : Nat} {ps : List Int} (hk : k < l.length) (ht : t < (nd l k).kids.length) (h20 : (nd l k).kind ≠ 20) (h : Stack l k ps) : Stack l (kid l k t) ps := by
  refine ⟨fun x => (h.1 x).trans ⟨?_, ?_⟩, h.2⟩
  · rintro ⟨p, rfl, hp, h1, h2, h3⟩
    obtain ⟨a, b⟩ := rng_down T hp hk ht rfl h2 (by omega)
    exact ⟨p, rfl, hp, h1, a, b⟩
  · rintro ⟨p, rfl, hp, h1, h2, h3⟩
    obtain ⟨a, b⟩ := rng_up T hp hk ht rfl h2 h3
    refine ⟨p, rfl, hp, h1, a, ?_⟩
    rcases Nat.lt_or_ge k p with h | h
    · exact h
    · exfalso
      obtain rfl : k = p := by omega
      exact h20 h1
theorem stack_prog {k t : Nat} {ps : List Int} (hk : k < l.length) (ht : t < (nd l k).kids.length) (h20 : (nd l k).kind = 20) (h : Stack l k ps) : Stack l (kid l k t) (ps ++ [(k : Int)]) := by
  have hkt := kid_lt T.wf hk ht
  have hff := ff_kid T hk ht
  have hle := ff_le T (kid l k t) (by omega)
  refine ⟨fun x => ?_, fun x hx n hn => ?_⟩
  · rw [List.mem_append, List.mem_singleton, h.1 x]
    constructor
    · rintro (⟨p, rfl, hp, h1, h2, h3⟩ | rfl)
      · obtain ⟨a, b⟩ := rng_down T hp hk ht rfl h2 (by omega)
        exact ⟨p, rfl, hp, h1, a, b⟩
      · exact ⟨k, rfl, hk, h20, by omega, hkt⟩
    · rintro ⟨p, rfl, hp, h1, h2, h3⟩
      obtain ⟨a, b⟩ := rng_up T hp hk ht rfl h2 h3
      rcases Nat.lt_or_ge k p with h | h
      · exact Or.inl ⟨p, rfl, hp, h1, a, h⟩
      · exact Or.inr (by omega)
  · have hn' : ps.length = n := by simpa using hn
    have e : gi (ps ++ [(k : Int)]) n = k := by subst hn'; simp [gi, List.getD_eq_getElem?_getD]
    rw [e]
    rw [List.mem_append, List.mem_singleton, h.1 x] at hx
    rcases hx with ⟨p, rfl, _, _, _, h3⟩ | rfl <;> omega
/-- The innermost prog stands in all. -/
theorem inside_all {i : Nat} {ps : List Int} {d : Int} (h : Stack l i ps) (hd : ∀ k, ps.length = k + 1 → insideB (FF l) d (gi ps k) = true) {p : Nat} (hp : (p : Int) ∈ ps) : insideB (FF l) d p = true := by
  obtain ⟨k, hk⟩ : ∃ k, ps.length = k + 1 := ⟨ps.length - 1, by have := List.length_pos_of_mem hp; omega⟩
  have h1 := hd k hk
  have hmem : gi ps k ∈ ps := by
    unfold gi
    rw [List.getD_eq_getElem?_getD, List.getElem?_eq_getElem (by omega)]
    exact List.getElem_mem _
  obtain ⟨q, hq, hql, hq20, hq1, hq2⟩ := (h.1 _).1 hmem
  obtain ⟨p', hp', hpl, hp20, hp1, hp2⟩ := (h.1 _).1 hp
  obtain rfl : p = p' := by omega
  have hle := h.2 _ hp k hk
  rw [hq] at h1 hle
  unfold insideB at h1 ⊢
  simp only [Bool.and_eq_true, decide_eq_true_eq, Int.toNat_natCast] at h1 ⊢
  have h2 := rng_nest T p q hpl (by omega) (by omega)
  omega
theorem inv_name {i : Nat} {st : St} (hI : Inv l st) (hi : i < l.length) (hk : (nd l i).kind = 13) (hps : Stack l i st.progs) (hfr : gi st.ref i = -1) : Done l i st (nameF l (FF l) st i) := by
  have hno := no_kids T hi (by simp [hk])
  have hFi : gi (FF l) i = i := by rw [(ff_spec T.wf).2 i hi, if_neg (by omega)]
  have hw : ∀ e : Int, e ≠ 0 → Done l i st (wrongF l st i e) := fun e he => ⟨hI.wrong i e, fun j _ _ => by rw [wrong_ref], fun h => absurd h (wrong_code he)⟩
  unfold nameF
  split
  · exact hw 51 (by decide)
  · rename_i hne
    split
    · exact hw 53 (by decide)
    · rename_i hv
      split
      · exact hw 52 (by decide)
      · obtain ⟨d, hd⟩ : ∃ d, d = (lastM (st.names (nameL l i))).1 := ⟨_, rfl⟩
        rw [← hd] at hv ⊢
        have hm : MeansB l (nameL l i) d := by rw [hd]; exact hI.nm _ _ (lastM_mem hne)
        have hvar : isVarB l d = true → ∀ p : Nat, (p : Int) ∈ st.progs → insideB (FF l) d p = true := fun hv1 p hp => inside_all T hps (fun k hk => by
          simp only [hv1, Bool.true_and, Bool.and_eq_true, decide_eq_true_eq, Bool.not_eq_true', not_and, Bool.not_eq_false] at hv
          have := hv (by omega)
          rwa [hk, Nat.add_sub_cancel] at this) hp
        have hpl : ∀ p ∈ st.progs, 0 ≤ p ∧ p.toNat < st.free.length := fun p hp => by
          obtain ⟨q, rfl, hq, _⟩ := (hps.1 p).1 hp
          rw [hI.flen]
          omega
        have hset : ∀ j : Nat, gi (st.ref.set i d) j = if j = i then d else gi st.ref j := fun j => gi_set d (by rw [hI.rlen]; exact hi)
        unfold bindF
        refine ⟨⟨hI.nm, by show (st.ref.set i d).length = _; rw [List.length_set]; exact hI.rlen, by show (st.progs.foldl (addFree (FF l) d) st.free).length = _; rw [fold_len]; exact hI.flen, fun j hj hne2 => ?_, fun p hp x hx => ?_⟩, fun j hj hfar => ?_, fun h => ⟨h, fun j h1 h2 hkj => ?_⟩⟩
        · have hne2' : gi (st.ref.set i d) j ≠ -1 := hne2
          show _ ∧ MeansB l (nameL l j) (gi (st.ref.set i d) j) ∧ ∀ p : Nat, p < l.length → _ → _ → _ → insideB (FF l) (gi (st.ref.set i d) j) p = true ∨ (gi (st.ref.set i d) j ∈ (st.progs.foldl (addFree (FF l) d) st.free).getD p [] ∧ _)
          rw [hset] at hne2' ⊢
          by_cases e : j = i
          · subst e
            rw [if_pos rfl]
            refine ⟨hk, hm, fun p hp h20 h1 h2 => ?_⟩
            have hjp : j < p := by
              rcases Nat.lt_or_ge j p with h | h
              · exact h
              · obtain rfl : p = j := by omega
                omega
            have hmem : (p : Int) ∈ st.progs := (hps.1 _).2 ⟨p, rfl, hp, h20, h1, hjp⟩
            cases hin : insideB (FF l) d p with
            | true => exact Or.inl rfl
            | false =>
              refine Or.inr ⟨(fold_mem p d st.progs st.free hpl).2 (Or.inr ⟨rfl, hmem, hin⟩), ?_⟩
              cases hvv : isVarB l d with
              | false => rfl
              | true => rw [hvar hvv p hmem] at hin; cases hin
          · rw [if_neg e] at hne2' ⊢
            obtain ⟨a, b, c⟩ := hI.ref j hj hne2'
            refine ⟨a, b, fun p hp h20 h1 h2 => (c p hp h20 h1 h2).imp id (fun ⟨c1, c2⟩ => ⟨(fold_mem p _ st.progs st.free hpl).2 (Or.inl c1), c2⟩)⟩
        · have hx' : x ∈ (st.progs.foldl (addFree (FF l) d) st.free).getD p [] := hx
          rw [fold_mem p x st.progs st.free hpl] at hx'
          rcases hx' with hx' | ⟨rfl, hmem, hin⟩
          · obtain ⟨a, b, c, e, i0, h1, h2, h3, h4⟩ := hI.fre p hp x hx'
            refine ⟨a, b, c, e, i0, h1, ?_, h3, h4⟩
            show gi (st.ref.set i d) i0 = x
            rw [hset, if_neg (fun e' => e (by rw [← h2, e', hfr]))]
            exact h2
          · obtain ⟨q, hq, hql, hq20, hq1, hq2⟩ := (hps.1 _).1 hmem
            obtain rfl : p = q := by omega
            refine ⟨hq20, hin, ?_, means_ne hm, i, hi, ?_, hq1, by omega⟩
            · cases hvv : isVarB l x with
              | false => rfl
              | true => rw [hvar hvv p hmem] at hin; cases hin
            · show gi (st.ref.set i x) i = x
              rw [hset, if_pos rfl]
        · show gi (st.ref.set i d) j = _
          rw [hset, if_neg (fun e => hfar (by subst e; omega))]
        · show gi (st.ref.set i d) j ≠ -1
          obtain rfl : j = i := by omega
          rw [hset, if_pos rfl]
          exact means_ne hm
/-- What going through a node's kids, from some kid on, does. -/
structure SeqDone (l : List Nd) (k m : Nat) (a b : St) : Prop where
  inv : Inv l b
  far : ∀ j : Nat, j < l.length → (∀ t, m ≤ t → t < (nd l k).kids.length → ¬ (gi (FF l) (kid l k t) ≤ (j : Int) ∧ j ≤ kid l k t)) → gi b.ref j = gi a.ref j
  all : b.code = 0 → a.code = 0 ∧ ∀ t, m ≤ t → t < (nd l k).kids.length → ∀ j : Nat, gi (FF l) (kid l k t) ≤ (j : Int) → j ≤ kid l k t → (nd l j).kind = 13 → gi b.ref j ≠ -1
theorem inv_kids {node : St → Nat → St} (hpr : ∀ st k, (node st k).progs = st.progs) {k : Nat} (hk : k < l.length)
    (IH : ∀ t, t < (nd l k).kids.length → ∀ st, Inv l st → Stack l (kid l k t) st.progs → (∀ j : Nat, gi (FF l) (kid l k t) ≤ (j : Int) → j ≤ kid l k t → gi st.ref j = -1) → Done l (kid l k t) st (node st (kid l k t))) :
    ∀ (d m : Nat) (st : St), m + d = (nd l k).kids.length → Inv l st → (∀ t, t < (nd l k).kids.length → Stack l (kid l k t) st.progs) →
      (∀ t, m ≤ t → t < (nd l k).kids.length → ∀ j : Nat, gi (FF l) (kid l k t) ≤ (j : Int) → j ≤ kid l k t → gi st.ref j = -1) → SeqDone l k m st (allF node ((nd l k).kids.drop m) st)
  | 0, m, st, hd, hI, _, _ => by
    rw [List.drop_of_length_le (by omega)]
    exact ⟨hI, fun j _ _ => rfl, fun h => ⟨h, fun t h1 h2 => by omega⟩⟩
  | d + 1, m, st, hd, hI, hS, hF => by
    have hm : m < (nd l k).kids.length := by omega
    have hdrop : (nd l k).kids.drop m = (kid l k m : Int) :: (nd l k).kids.drop (m + 1) := by
      rw [List.drop_eq_getElem_cons hm]
      congr 1
      have := kid_eq T hk hm
      rw [← this]; simp [gi, List.getD_eq_getElem?_getD, List.getElem?_eq_getElem hm]
    rw [hdrop]
    show SeqDone l k m st (allF node ((nd l k).kids.drop (m + 1)) (node st (kid l k m : Int).toNat))
    rw [Int.toNat_natCast]
    have h1 := IH m hm st hI (hS m hm) (fun j a b => hF m (Nat.le_refl _) hm j a b)
    have hlt : ∀ t, t < (nd l k).kids.length → kid l k t < l.length := fun t ht => by have := kid_lt T.wf hk ht; omega
    have hsep : ∀ t, m + 1 ≤ t → t < (nd l k).kids.length → ∀ j : Nat, gi (FF l) (kid l k t) ≤ (j : Int) → ¬ (gi (FF l) (kid l k m) ≤ (j : Int) ∧ j ≤ kid l k m) := fun t h1 h2 j hj hc => by
      have := kid_before T hk (show m < t by omega) h2
      omega
    have h2 := inv_kids hpr hk IH d (m + 1) (node st (kid l k m)) (by omega) h1.inv (fun t ht => by rw [hpr]; exact hS t ht) (fun t ht1 ht2 j a b => by
      rw [h1.far j (by have := hlt t ht2; omega) (hsep t ht1 ht2 j a)]
      exact hF t (by omega) ht2 j a b)
    refine ⟨h2.inv, fun j hj hn => ?_, fun hc => ?_⟩
    · rw [h2.far j hj (fun t a b => hn t (by omega) b)]
      exact h1.far j hj (hn m (Nat.le_refl _) hm)
    · obtain ⟨c1, c2⟩ := h2.all hc
      obtain ⟨d1, d2⟩ := h1.all c1
      refine ⟨d1, fun t ht1 ht2 j a b hkj => ?_⟩
      by_cases e : t = m
      · subst e
        rw [h2.far j (by have := hlt t ht2; omega) (fun t' a' b' hc' => hsep t' a' b' j hc'.1 ⟨a, b⟩)]
        exact d2 j a b hkj
      · exact c2 t (by omega) ht2 j a b hkj
theorem seq_done {k : Nat} {a b : St} (hk : k < l.length) (h13 : (nd l k).kind ≠ 13) (h : SeqDone l k 0 a b) : Done l k a b := by
  refine ⟨h.inv, fun j hj hn => h.far j hj (fun t _ ht hc => hn ?_), fun hc => ⟨(h.all hc).1, fun j h1 h2 hkj => ?_⟩⟩
  · have h1 := ff_kid T hk ht
    have h2 := kid_lt T.wf hk ht
    omega
  · by_cases e : j = k
    · subst e; exact absurd hkj h13
    · obtain ⟨t, ht, a, b⟩ := rng_kid T hk h1 (by omega)
      exact (h.all hc).2 t (by omega) ht j a b hkj
end
end Go.Proofs.Ytmaepljmefdhkaa
end

section
namespace Go.Proofs.Ytmaepljmefdhkaa
open Go.RowKit Go.Maps
set_option maxHeartbeats 2000000
set_option maxRecDepth 100000

/-- The parameters are declared: nothing is bound. -/
theorem params_inv {l : List Nd} {ks : List Int} (hk : ∀ k ∈ ks, 0 ≤ k ∧ k < (l.length : Int)) : ∀ st, Inv l st → Inv l (ks.foldl (declParam l) st) ∧ (ks.foldl (declParam l) st).ref = st.ref ∧ ((ks.foldl (declParam l) st).code = 0 → st.code = 0) := by
  induction ks with
  | nil => intro st h; exact ⟨h, rfl, id⟩
  | cons k ks ih =>
    intro st h
    have h1 : Inv l (declParam l st k) ∧ (declParam l st k).ref = st.ref ∧ ((declParam l st k).code = 0 → st.code = 0) := by
      unfold declParam
      split
      · exact ⟨h.declare (by have := hk k (by simp); omega), declare_rf.1, declare_rf.2.2⟩
      · exact ⟨h, rfl, id⟩
    obtain ⟨a, b, c⟩ := ih (fun k hk' => hk k (List.mem_cons_of_mem _ hk')) _ h1.1
    exact ⟨a, by rw [List.foldl_cons, b, h1.2.1], fun hc => h1.2.2 (c hc)⟩
section
variable {l : List Nd} (T : TreeOk l)
include T
theorem inv_node : ∀ (f i : Nat) (st : St), i < f → i < l.length → Inv l st → Stack l i st.progs → (∀ j : Nat, gi (FF l) i ≤ (j : Int) → j ≤ i → gi st.ref j = -1) → Done l i st (nodeF l (FF l) f st i)
  | 0, i, st, hif, _, _, _, _ => by omega
  | f + 1, i, st, hif, hi, hI, hS, hF => by
    have hle := ff_le T i hi
    -- the kids of some node below the depth
    have seq : ∀ (k : Nat) (a : St), k < l.length → k ≤ f → Inv l a → (∀ t, t < (nd l k).kids.length → Stack l (kid l k t) a.progs) → (∀ j : Nat, gi (FF l) k ≤ (j : Int) → j < k → gi a.ref j = -1) → SeqDone l k 0 a (allF (nodeF l (FF l) f) (nd l k).kids a) := fun k a hk hkf hIa hSa hFa => by
      have h := inv_kids T (node := nodeF l (FF l) f) (fun st k => node_progs f st k) hk (fun t ht st hI hS hF => inv_node f _ st (by have := kid_lt T.wf hk ht; omega) (by have := kid_lt T.wf hk ht; omega) hI hS hF) (nd l k).kids.length 0 a (by omega) hIa hSa (fun t _ ht j h1 h2 => hFa j (by have := ff_kid T hk ht; omega) (by have := kid_lt T.wf hk ht; omega))
      rwa [List.drop_zero] at h
    unfold nodeF
    split
    · rename_i hc
      exact ⟨hI, fun j _ _ => rfl, fun h => absurd h hc⟩
    split
    · rename_i hk
      exact inv_name T hI hi hk hS (hF i (by omega) (Nat.le_refl _))
    split
    · -- a prog
      rename_i hk
      have h1 := T.wf.one i hi (by simp [hk])
      obtain ⟨m, hm⟩ : ∃ m, (nd l i).kids.length = m + 1 := ⟨(nd l i).kids.length - 1, by omega⟩
      have hml : m < (nd l i).kids.length := by omega
      have hbi := kid_lt T.wf hi hml
      obtain ⟨b, hb⟩ : ∃ b, b = kid l i m := ⟨_, rfl⟩
      rw [← hb] at hbi
      have hb41 : (nd l b).kind = 41 := by rw [hb]; exact (prog_kids T hi hk hml).1 (by omega)
      have hfb := ff_kid T hi hml
      rw [← hb] at hfb
      obtain ⟨a3, ha3⟩ : ∃ a, a = declareF l (enterF { st with progs := st.progs ++ [(i : Int)] }) i := ⟨_, rfl⟩
      have hI0 : Inv l { st with progs := st.progs ++ [(i : Int)] } := ⟨hI.nm, hI.rlen, hI.flen, hI.ref, hI.fre⟩
      have hI3 : Inv l a3 := by rw [ha3]; exact hI0.enter.declare hi
      have hr3 : a3.ref = st.ref := by rw [ha3, declare_rf.1]; rfl
      have hc3 : a3.code = 0 → st.code = 0 := fun h => by rw [ha3] at h; exact (declare_rf (l := l) (st := enterF { st with progs := st.progs ++ [(i : Int)] }) (i := i)).2.2 h
      have hp3 : a3.progs = st.progs ++ [(i : Int)] := by rw [ha3, declare_blk.2]; rfl
      obtain ⟨a5, ha5⟩ : ∃ a, a = (nd l i).kids.foldl (declParam l) (enterF a3) := ⟨_, rfl⟩
      obtain ⟨hI5, hr5, hc5⟩ := params_inv (l := l) (ks := (nd l i).kids) (fun k hk => by have := kids_in T.wf hi hk; omega) (enterF a3) hI3.enter
      rw [← ha5] at hI5 hr5 hc5
      have hr5' : a5.ref = st.ref := hr5.trans hr3
      have hp5 : a5.progs = st.progs ++ [(i : Int)] := by rw [ha5, params_progs]; exact hp3
      have hSb : Stack l b a5.progs := by rw [hp5, hb]; exact stack_prog T hi hml hk hS
      have hq := seq b a5 (by omega) (by omega) hI5 (fun t ht => stack_kid T (by omega) ht (by omega) hSb) (fun j h1 h2 => by rw [hr5']; exact hF j (by omega) (by omega))
      have hdone : Done l i st { leaveF (leaveF (allF (nodeF l (FF l) f) (nd l b).kids a5) a3.block) ({ st with progs := st.progs ++ [(i : Int)] } : St).block with progs := (leaveF (leaveF (allF (nodeF l (FF l) f) (nd l b).kids a5) a3.block) ({ st with progs := st.progs ++ [(i : Int)] } : St).block).progs.dropLast } := by
        have hIe := (hq.inv.leave a3.block).leave ({ st with progs := st.progs ++ [(i : Int)] } : St).block
        refine ⟨⟨hIe.nm, hIe.rlen, hIe.flen, hIe.ref, hIe.fre⟩, fun j hj hn => ?_, fun hc => ?_⟩
        · show gi (allF (nodeF l (FF l) f) (nd l b).kids a5).ref j = _
          rw [hq.far j hj (fun t _ ht hc => hn ?_), hr5']
          have h2 := ff_kid T (show b < l.length by omega) ht
          have h3 := kid_lt T.wf (show b < l.length by omega) ht
          omega
        · obtain ⟨c1, c2⟩ := hq.all hc
          refine ⟨hc3 (hc5 c1), fun j h1 h2 hkj => ?_⟩
          show gi (allF (nodeF l (FF l) f) (nd l b).kids a5).ref j ≠ -1
          by_cases e : j = i
          · subst e; omega
          · obtain ⟨t, ht, ta, tb⟩ := rng_kid T hi h1 (by omega)
            by_cases et : t = m
            · subst et
              rw [← hb] at ta tb
              by_cases e2 : j = b
              · subst e2; omega
              · obtain ⟨t', ht', ta', tb'⟩ := rng_kid T (show b < l.length by omega) ta (by omega)
                exact c2 t' (by omega) ht' j ta' tb' hkj
            · exfalso
              have hlt := kid_lt T.wf hi ht
              rcases (prog_kids T hi hk ht).2 (by omega) with h42 | hty
              · exact no_name T (show kid l i t < l.length by omega) (by simp [h42]) ta tb hkj
              · have := type_range T _ j (show kid l i t < l.length by omega) hty ta tb
                omega
      have heq : progF l (nodeF l (FF l) f) st i = { leaveF (leaveF (allF (nodeF l (FF l) f) (nd l b).kids a5) a3.block) ({ st with progs := st.progs ++ [(i : Int)] } : St).block with progs := (leaveF (leaveF (allF (nodeF l (FF l) f) (nd l b).kids a5) a3.block) ({ st with progs := st.progs ++ [(i : Int)] } : St).block).progs.dropLast } := by
        rw [ha5, ha3, hb]
        unfold progF withinF bodyF
        rw [hm, Nat.add_sub_cancel]
      rw [heq]
      exact hdone
    rename_i hk13 hk20
    have hSk : ∀ t, t < (nd l i).kids.length → Stack l (kid l i t) st.progs := fun t ht => stack_kid T hi ht hk20 hS
    have hFk : ∀ j : Nat, gi (FF l) i ≤ (j : Int) → j < i → gi st.ref j = -1 := fun j h1 h2 => hF j h1 (by omega)
    split
    · -- a value's or a variable's declaration
      have hq := seq_done T hi hk13 (seq i st hi (by omega) hI hSk hFk)
      simp only
      split
      · exact ⟨hq.inv.declare hi, fun j hj hn => by rw [declare_rf.1]; exact hq.far j hj hn, fun hc => by
          obtain ⟨c1, c2⟩ := hq.all (declare_rf.2.2 hc)
          exact ⟨c1, fun j h1 h2 hkj => by rw [declare_rf.1]; exact c2 j h1 h2 hkj⟩⟩
      · exact hq
    split
    · -- what is set
      have hq := seq_done T hi hk13 (seq i (placeF l st (kid l i 0)) hi (by omega) (hI.place _) (fun t ht => by rw [place_blk.2]; exact hSk t ht) (fun j h1 h2 => by rw [place_rf.1]; exact hFk j h1 h2))
      exact ⟨hq.inv, fun j hj hn => by rw [hq.far j hj hn, place_rf.1], fun hc => by
        obtain ⟨c1, c2⟩ := hq.all hc
        exact ⟨by rw [← place_rf.2]; exact c1, c2⟩⟩
    split
    · -- a block
      have hq := seq_done T hi hk13 (seq i (enterF st) hi (by omega) hI.enter hSk hFk)
      exact ⟨hq.inv.leave _, fun j hj hn => hq.far j hj hn, fun hc => hq.all hc⟩
    split
    · -- what is received
      rename_i hk
      obtain ⟨h2k, h41⟩ := recv_kids T hi hk
      have k0 := kid_lt T.wf hi (k := 0) (by omega)
      have k1 := kid_lt T.wf hi (k := 1) (by omega)
      have f0 := ff_kid T hi (j := 0) (by omega)
      have f1 := ff_kid T hi (j := 1) (by omega)
      have hsep := kid_before T hi (i := 0) (j := 1) (by omega) (by omega)
      have hd0 := inv_node f (kid l i 0) st (by omega) (by omega) hI (hSk 0 (by omega)) (fun j h1 h2 => hF j (by omega) (by omega))
      obtain ⟨a, ha⟩ : ∃ a, a = nodeF l (FF l) f st (kid l i 0) := ⟨_, rfl⟩
      rw [← ha] at hd0
      have hpa : a.progs = st.progs := by rw [ha]; exact node_progs f st _
      have hSb : Stack l (kid l i 1) (declareF l (enterF a) i).progs := by rw [declare_blk.2]; show Stack l _ a.progs; rw [hpa]; exact hSk 1 (by omega)
      have hq := seq (kid l i 1) (declareF l (enterF a) i) (by omega) (by omega) (hd0.inv.enter.declare hi) (fun t ht => stack_kid T (by omega) ht (by omega) hSb) (fun j h1 h2 => by
        rw [declare_rf.1]
        show gi a.ref j = -1
        rw [hd0.far j (by omega) (fun hc => by omega)]
        exact hF j (by omega) (by omega))
      rw [← ha]
      refine ⟨hq.inv.leave _, fun j hj hn => ?_, fun hc => ?_⟩
      · show gi (allF (nodeF l (FF l) f) (nd l (kid l i 1)).kids (declareF l (enterF a) i)).ref j = _
        rw [hq.far j hj (fun t _ ht hc => hn (by
          have h2 := ff_kid T (show kid l i 1 < l.length by omega) ht
          have h3 := kid_lt T.wf (show kid l i 1 < l.length by omega) ht
          omega)), declare_rf.1]
        exact hd0.far j hj (fun hc => hn (by omega))
      · obtain ⟨c1, c2⟩ := hq.all hc
        obtain ⟨d1, d2⟩ := hd0.all ((declare_rf (l := l) (st := enterF a) (i := i)).2.2 c1)
        refine ⟨d1, fun j h1 h2 hkj => ?_⟩
        show gi (allF (nodeF l (FF l) f) (nd l (kid l i 1)).kids (declareF l (enterF a) i)).ref j ≠ -1
        by_cases e : j = i
        · subst e; omega
        · obtain ⟨t, ht, ta, tb⟩ := rng_kid T hi h1 (by omega)
          have ht' : t = 0 ∨ t = 1 := by omega
          rcases ht' with rfl | rfl
          · rw [hq.far j (by omega) (fun t' _ ht' hc' => by
              have h2 := ff_kid T (show kid l i 1 < l.length by omega) ht'
              omega), declare_rf.1]
            exact d2 j ta tb hkj
          · by_cases e2 : j = kid l i 1
            · subst e2; omega
            · obtain ⟨t', ht', ta', tb'⟩ := rng_kid T (show kid l i 1 < l.length by omega) ta (by omega)
              exact c2 t' (by omega) ht' j ta' tb' hkj
    split
    · -- types, and what makes a channel
      rename_i hk
      exact ⟨hI, fun j _ _ => rfl, fun hc => ⟨hc, fun j h1 h2 hkj => absurd hkj (no_name T hi (by rcases hk with h | h | h | h | h | h <;> simp [h]) h1 h2)⟩⟩
    · exact seq_done T hi hk13 (seq i st hi (by omega) hI hSk hFk)
end
theorem inv_st0 (l : List Nd) : Inv l (st0 l) := by
  have hf : ∀ p, (st0 l).free.getD p [] = [] := fun p => by
    simp only [st0]
    rw [List.getD_eq_getElem?_getD, List.getElem?_map]
    cases l[p]? <;> rfl
  refine ⟨fun s m hm => ?_, by simp [st0], by simp [st0], fun i hi hne => ?_, fun p hp d hd => ?_⟩
  · simp only [st0] at hm
    split at hm
    · rename_i e
      simp at hm; subst hm
      exact Or.inl ⟨rfl, e⟩
    · split at hm
      · rename_i e
        simp at hm; subst hm
        exact Or.inr (Or.inl ⟨rfl, e⟩)
      · simp at hm
  · exfalso
    apply hne
    simp [st0, gi, List.getD_eq_getElem?_getD, List.getElem?_map, List.getElem?_eq_getElem hi]
  · rw [hf] at hd; simp at hd
/-- What Names tells, of any list that it takes. -/
structure SaysOk (l : List Nd) (ref : List Int) (free : List (List Int)) : Prop where
  rlen : ref.length = l.length
  flen : free.length = l.length
  none : ∀ i : Nat, i < l.length → (nd l i).kind ≠ 13 → gi ref i = -1
  some : ∀ i : Nat, i < l.length → (nd l i).kind = 13 → MeansB l (nameL l i) (gi ref i) ∧ ∀ p : Nat, p < l.length → (nd l p).kind = 20 → gi (FF l) p ≤ (i : Int) → i ≤ p → insideB (FF l) (gi ref i) p = true ∨ (gi ref i ∈ free.getD p [] ∧ isVarB l (gi ref i) = false)
  fre : ∀ p : Nat, p < l.length → (∀ d, d ∈ free.getD p [] → (nd l p).kind = 20 ∧ insideB (FF l) d p = false ∧ isVarB l d = false ∧ d ≠ -1 ∧ ∃ i : Nat, i < l.length ∧ gi ref i = d ∧ gi (FF l) p ≤ (i : Int) ∧ i ≤ p) ∧ (free.getD p []).Pairwise (· ≠ ·) ∧ ∀ d, d ∈ free.getD p [] → -3 ≤ d ∧ d < (l.length : Int)
theorem says_ok {l : List Nd} (hc : (checkF l).2 = 0) (h0 : (namesF l).2.2 = 0) : SaysOk l (namesF l).1.1 (namesF l).1.2 ∧ TreeOk l := by
  have T := tree_ok hc
  refine ⟨?_, T⟩
  obtain ⟨A, hA⟩ : ∃ A, A = withinF (allF (nodeF l (FF l) l.length) (nd l (l.length - 1)).kids) (st0 l) := ⟨_, rfl⟩
  have e1 : namesF l = if A.code ≠ 0 then (([], []), A.at_, A.code) else ((A.ref, A.free), 0, 0) := by rw [namesF, if_neg (by simp [hc]), hA]; rfl
  have hroot := T.pos
  obtain ⟨m, hm⟩ : ∃ m, l.length = m + 1 := ⟨l.length - 1, by omega⟩
  have hmr := T.root
  rw [hm, Nat.add_sub_cancel] at hmr
  have hf0 : ∀ i, gi (st0 l).ref i = -1 ∨ l.length ≤ i := fun i => by
    by_cases hi : i < l.length
    · left; simp [st0, gi, List.getD_eq_getElem?_getD, List.getElem?_map, List.getElem?_eq_getElem hi]
    · right; omega
  have hstack : Stack l m (enterF (st0 l)).progs := by
    refine ⟨fun x => ⟨fun h => by simp [enterF, st0] at h, fun ⟨p, _, hp, _, _, h3⟩ => by omega⟩, fun x hx => by simp [enterF, st0] at hx⟩
  have hq := inv_kids T (node := nodeF l (FF l) l.length) (fun st k => node_progs _ st k) (show m < l.length by omega) (fun t ht st hI hS hF => inv_node T l.length _ st (by have := kid_lt T.wf (show m < l.length by omega) ht; omega) (by have := kid_lt T.wf (show m < l.length by omega) ht; omega) hI hS hF) (nd l m).kids.length 0 (enterF (st0 l)) (by omega) (inv_st0 l).enter (fun t ht => stack_kid T (by omega) ht (by rw [hmr.1]; decide) hstack) (fun t _ ht j h1 h2 => by
    have := kid_lt T.wf (show m < l.length by omega) ht
    exact (hf0 j).resolve_right (by omega))
  rw [List.drop_zero] at hq
  have hd := seq_done T (show m < l.length by omega) (by rw [hmr.1]; decide) hq
  have hAr : A.ref = (allF (nodeF l (FF l) l.length) (nd l m).kids (enterF (st0 l))).ref ∧ A.free = (allF (nodeF l (FF l) l.length) (nd l m).kids (enterF (st0 l))).free ∧ A.code = (allF (nodeF l (FF l) l.length) (nd l m).kids (enterF (st0 l))).code := by
    rw [hA, hm, Nat.add_sub_cancel]
    exact ⟨rfl, rfl, rfl⟩
  have hcode : A.code = 0 := by
    by_cases h : A.code = 0
    · exact h
    · rw [e1, if_pos h] at h0; exact h0
  rw [e1, if_neg (by simp [hcode])]
  show SaysOk l A.ref A.free
  rw [hAr.1, hAr.2.1]
  have hI := hd.inv
  have hall := hd.all (by rw [← hAr.2.2]; exact hcode)
  have hgood : Good l ([] ++ [(enterF (st0 l)).block]) (allF (nodeF l (FF l) l.length) (nd l m).kids (enterF (st0 l))) := (all_ok (fun st k hk h => node_ok T.wf (FF l) l.length _ _ [] st k.toNat (by have := kids_in T.wf (show m < l.length by omega) hk; omega) h) _ (⟨(good0 l).enter, rfl, rfl⟩ : Ok l [] (enterF (st0 l)).block [] (enterF (st0 l)))).good
  refine ⟨hI.rlen, hI.flen, fun i hi h13 => ?_, fun i hi h13 => ?_, fun p hp => ⟨hI.fre p hp, hgood.frn p, hgood.frr p⟩⟩
  · by_cases hne : gi (allF (nodeF l (FF l) l.length) (nd l m).kids (enterF (st0 l))).ref i = -1
    · exact hne
    · exact absurd (hI.ref i hi hne).1 h13
  · have hne := hall.2 i (by rw [hmr.2]; omega) (by omega) h13
    exact (hI.ref i hi hne).2
end Go.Proofs.Ytmaepljmefdhkaa
end
