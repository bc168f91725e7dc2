import Derived.Test.YtmaepljmefdhkaaScopeO
namespace Go.Proofs.Ytmaepljmefdhkaa
open Go.RowKit Go.Maps
set_option maxHeartbeats 1000000

theorem err_kids {ns : List Nd} {i : Nat} {fs : List Int} (h : nodeErr ns i fs = 0) : kidsB ns i fs = true ∧ numB (nd ns i).kind (nd ns i).num (nd ns i).kids.length = true := by
  unfold nodeErr at h
  simp only at h
  split at h
  · omega
  · split at h
    · omega
    · rename_i h2
      split at h
      · omega
      · split at h
        · omega
        · rename_i h4
          exact ⟨by simpa using h4, by simpa using h2⟩
theorem check_nodes {ns : List Nd} : ∀ (d i : Nat) (fs : List Int), i + d = ns.length → fs.length = ns.length → (∀ j, j < i → 0 ≤ gi fs j ∧ gi fs j ≤ (j : Int)) → (checkFrom ns d i fs).2 = 0 →
    ∀ k, i ≤ k → k < ns.length → ∃ fs', (∀ j, j < k → 0 ≤ gi fs' j ∧ gi fs' j ≤ (j : Int)) ∧ nodeErr ns k fs' = 0
  | 0, i, fs, hd, _, _, _, k, hik, hk => by omega
  | d + 1, i, fs, hd, hl, hfs, h, k, hik, hk => by
    unfold checkFrom at h
    split at h
    · rename_i he
      have he' : nodeErr ns i fs = 0 := by simpa using he
      by_cases e : k = i
      · subst e; exact ⟨fs, hfs, he'⟩
      · refine check_nodes d (i + 1) _ (by omega) (by rw [List.length_set]; exact hl) (fun j hj => ?_) h k (by omega) hk
        rw [gi_set _ (by omega)]
        split
        · rename_i e2
          subst e2
          unfold firstVal
          split
          · rename_i h0
            have h1 := kidsB_in hfs (err_kids he').1 0 h0
            have h2 := hfs (gi (nd ns j).kids 0).toNat (by omega)
            omega
          · omega
        · exact hfs j (by omega)
    · rename_i he
      exact absurd h (by simpa using he)
theorem wf_of_check {ns : List Nd} (h : (checkF ns).2 = 0) : Wf ns := by
  have H : ∀ k, k < ns.length → ∃ fs', (∀ j, j < k → 0 ≤ gi fs' j ∧ gi fs' j ≤ (j : Int)) ∧ nodeErr ns k fs' = 0 := fun k hk =>
    check_nodes ns.length 0 _ (by omega) (by simp) (fun j hj => by omega) h k (by omega) hk
  refine ⟨fun i hi j hj => ?_, fun i hi hk => ?_, fun i hi hk => ?_⟩
  · obtain ⟨fs, h1, h2⟩ := H i hi
    exact kidsB_in h1 (err_kids h2).1 j hj
  · obtain ⟨fs, h1, h2⟩ := H i hi
    have h3 := (kidsB_many (err_kids h2).1).1
    have h4 := (err_kids h2).2
    unfold wantsN at h3
    rcases hk with e | e | e | e <;> rw [e] at h3 h4 <;> simp [wantsF] at h3
    · omega
    · omega
    · omega
    · have h5 : 0 ≤ (nd ns i).num := by
        simp [numB] at h4
        omega
      unfold paramF at h3
      split at h3
      · simp at h3; omega
      · split at h3
        · simp at h3; omega
        · simp at h3; omega
  · obtain ⟨fs, h1, h2⟩ := H i hi
    have h3 := (kidsB_many (err_kids h2).1).1
    unfold wantsN at h3
    rw [hk] at h3
    simp [wantsF] at h3
    split at h3 <;> simp at h3 <;> omega
end Go.Proofs.Ytmaepljmefdhkaa
