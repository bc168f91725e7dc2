import Derived.Test.YtmaepljmefdhkaaScopeJ
namespace Go.Proofs.Ytmaepljmefdhkaa
open Go.RowKit Go.Maps
set_option maxHeartbeats 2000000
set_option maxRecDepth 100000

/-- Some nodes, one behind the other, given what one of them does (I: what holds between them). -/
theorem all_any {C : Ctx} {w : World} {G : Nat → Nat} {st : St} (I : St → Prop) (nodeG : St → Nat → St) (kids : List Int) (A : Option Addr) (c : Nat) (hm : kids.length ≤ big) (hA : IntsAt C.w0 A kids) (hpos : ∀ k, k < kids.length → 0 ≤ gi kids k)
    (hnode : ∀ k, k < kids.length → ∀ w G st, Rep C w G st → I st → Calls Try.prog 117 #[.pointer (some ⟨C.wk, 0, none⟩), .int .i64 (gi kids k).toNat] w fun e w' => e = .returned (.tuple #[]) ∧ ∃ G', Rep C w' G' (nodeG st (gi kids k).toNat) ∧ Stp G w G' w' ∧ I (nodeG st (gi kids k).toNat))
    (h : Rep C w G st) (hI : I st) :
    Calls Try.prog 73 #[.pointer (some ⟨C.wk, 0, none⟩), .slice A kids.length c] w fun e w' => e = .returned (.tuple #[]) ∧ ∃ G', Rep C w' G' (kids.foldl (fun s k => nodeG s k.toNat) st) ∧ Stp G w G' w' ∧ I (kids.foldl (fun s k => nodeG s k.toNat) st) := by
  have hbig := big_le hm
  have H := Lib.hid h
  have HI := Lib.hid hI
  have HN := Lib.hid hnode
  have HA := Lib.hid hA
  clear h hI hnode hA
  go_enter Try.func73, Try.ntmps73
  go_wp2_with fail
  go_loopg [8] kids.length (fun gk v wr => ∃ (k : Nat) (st' : St) (G' : Nat → Nat), v = .int .i64 k ∧ k + gk = kids.length ∧ Rep C wr G' st' ∧ Stp G w G' wr ∧ I st' ∧ kids.foldl (fun s k => nodeG s k.toNat) st = (kids.drop k).foldl (fun s k => nodeG s k.toNat) st')
  case atStart => exact ⟨0, st, G, rfl, by omega, H.out, Stp.refl _ _, HI.out, by simp⟩
  case round =>
    obtain ⟨k, st', G', rfl, hkd, hR, hS, hI, hfold⟩ := hrel
    have HR := Lib.hid hR
    have HS := Lib.hid hS
    have HI2 := Lib.hid hI
    have HF := Lib.hid hfold
    have HK := Lib.hid hkd
    have hIA : IntsAt wr A kids := HA.out.below hR.below
    clear hR hS hI hfold hkd
    rcases gk with _ | gk
    · obtain rfl : k = kids.length := by have := HK.out; omega
      clear hIA
      go_wp2_with fail
      go_end0
      refine ⟨rfl, G', ?_⟩
      rw [HF.out, List.drop_of_length_le (Nat.le_refl _)]
      exact ⟨HR.out, HS.out, HI2.out⟩
    · have hk : k < kids.length := by have := HK.out; omega
      obtain ⟨b, o, rfl, hx⟩ := hIA k hk
      obtain ⟨m, hmk⟩ : ∃ m : Nat, gi kids k = m := ⟨_, (Int.toNat_of_nonneg (hpos k hk)).symm⟩
      have hnk := HN.out k hk wr G' st' HR.out HI2.out
      rw [hmk] at hx hnk
      rw [Int.toNat_natCast] at hnk
      have HNK := Lib.hid hnk
      have hdrop : kids.drop k = (m : Int) :: kids.drop (k + 1) := by
        rw [List.drop_eq_getElem_cons hk]
        congr 1
        rw [← hmk]; simp [gi, List.getD_eq_getElem?_getD, List.getElem?_eq_getElem hk]
      have HF2 : Hid (kids.foldl (fun s k => nodeG s k.toNat) st = (kids.drop (k + 1)).foldl (fun s k => nodeG s k.toNat) (nodeG st' m)) := HF.out.trans (by rw [hdrop]; rfl)
      clear hnk hdrop hmk
      go_wp2_with (go_at_call 117; refine HNK.out.mono ?_; rintro e w1 ⟨rfl, G2, hR2, hS2, hI2⟩; have HR2 := Lib.hid hR2; have HS2 := Lib.hid hS2; have HI3 := Lib.hid hI2; clear hR2 hS2 hI2)
      go_roundg gk
      case measure => omega
      case rel => exact ⟨k + 1, nodeG st' m, G2, by go_num, by have := HK.out; omega, HR2.out, HS.out.trans HS2.out, HI3.out, HF2.out⟩
end Go.Proofs.Ytmaepljmefdhkaa
