import Derived.Test.YtmaepljmefdhkaaProg
import Derived.WalkKit
import Derived.WalkSpells
import Derived.WalkLawsBesides
import Derived.KernelRfl
import Derived.Deep.Cut
import Derived.Deep.CutBlock
import Derived.Lib.Hide
namespace Go.Proofs.Ytmaepljmefdhkaa
open Go.RowKit
set_option maxHeartbeats 400000
set_option maxRecDepth 100000

def wordsL : List ByteArray := [⟨#[97, 114, 114, 97, 121]⟩, ⟨#[98, 101, 103, 105, 110]⟩, ⟨#[98, 111, 111, 108]⟩, ⟨#[99, 97, 115, 101]⟩, ⟨#[99, 104, 97, 110]⟩, ⟨#[101, 108, 115, 101]⟩, ⟨#[102, 97, 108, 115, 101]⟩, ⟨#[102, 105, 108, 108]⟩, ⟨#[105, 102]⟩, ⟨#[105, 110, 116]⟩, ⟨#[108, 101, 110]⟩, ⟨#[109, 97, 107, 101]⟩, ⟨#[111, 102]⟩, ⟨#[112, 114, 111, 103]⟩, ⟨#[114, 101, 116, 117, 114, 110]⟩, ⟨#[115, 101, 108, 101, 99, 116]⟩, ⟨#[116, 114, 117, 101]⟩, ⟨#[116, 121, 112, 101]⟩, ⟨#[118, 97, 108]⟩, ⟨#[118, 97, 114]⟩, ⟨#[119, 104, 105, 108, 101]⟩]
def signsL : List ByteArray := [⟨#[40]⟩, ⟨#[41]⟩, ⟨#[91]⟩, ⟨#[93]⟩, ⟨#[123]⟩, ⟨#[125]⟩, ⟨#[44]⟩, ⟨#[59]⟩, ⟨#[58]⟩, ⟨#[46]⟩, ⟨#[61]⟩, ⟨#[61, 61]⟩, ⟨#[33, 61]⟩, ⟨#[60]⟩, ⟨#[60, 61]⟩, ⟨#[62]⟩, ⟨#[62, 61]⟩, ⟨#[43]⟩, ⟨#[45]⟩, ⟨#[42]⟩, ⟨#[47]⟩, ⟨#[37]⟩, ⟨#[38, 38]⟩, ⟨#[124, 124]⟩, ⟨#[33]⟩, ⟨#[60, 45]⟩, ⟨#[60, 45, 61]⟩]
def wordsV : Array Value := (wordsL.map Value.string).toArray
def signsV : Array Value := (signsL.map Value.string).toArray
def noneV (n : Nat) : Array Value := Array.replicate n (.string ⟨#[]⟩)

theorem setRow_alloc (w : World) (old cs : Array Value) (t : TypeId) (fr : Nat × Nat) : (w.alloc (.cells old t fr)).setRow w.heap.size cs = w.alloc (.cells cs t fr) := by
  unfold World.setRow World.alloc
  simp only
  congr 1
  apply Array.ext
  · simp
  · intro i h1 h2
    rw [Array.getElem_modify]
    simp only [Array.getElem_push]
    split <;> split <;> simp_all
    omega

theorem words_any (w : World) : Calls Try.prog 239 #[] w fun e w' => e = .returned (.agg wordsV) ∧ w' = w.alloc (.cells wordsV 223) := by
  go_enter Try.func239, Try.ntmps239
  go_wp2_with (first
    | (refine wpList_build rfl 223 _ rfl (by kernel_rfl) ?_)
    | (refine wpList_store_row rfl 223 _ _ rfl w.heap.size wordsV rfl (by kernel_rfl) 223 _ (heap_alloc_new w _) (by kernel_rfl) (by kernel_rfl) (by kernel_rfl) ?_; rw [setRow_alloc]))
  refine bodyPost_ret (results_cell_row (P := Try.prog) rfl _ _ w.heap.size 223 wordsV (0, 0) _ rfl (heap_alloc_new w _) Try.underlying223 rfl (by kernel_rfl)) rfl ⟨rfl, rfl⟩
theorem signs_any (w : World) : Calls Try.prog 221 #[] w fun e w' => e = .returned (.agg signsV) ∧ w' = w.alloc (.cells signsV 212) := by
  go_enter Try.func221, Try.ntmps221
  go_wp2_with (first
    | (refine wpList_build rfl 212 _ rfl (by kernel_rfl) ?_)
    | (refine wpList_store_row rfl 212 _ _ rfl w.heap.size signsV rfl (by kernel_rfl) 212 _ (heap_alloc_new w _) (by kernel_rfl) (by kernel_rfl) (by kernel_rfl) ?_; rw [setRow_alloc]))
  refine bodyPost_ret (results_cell_row (P := Try.prog) rfl _ _ w.heap.size 212 signsV (0, 0) _ rfl (heap_alloc_new w _) Try.underlying212 rfl (by kernel_rfl)) rfl ⟨rfl, rfl⟩

/-- The block g of w' holds o; all else is as it was in w. -/
structure PutAt (w w' : World) (g : Nat) (o : Obj) : Prop where
  os : w'.os = w.os
  tape : w'.tape = w.tape
  output : w'.output = w.output
  size : w'.heap.size = w.heap.size
  here : w'.heap[g]? = some o
  other : ∀ k, k ≠ g → w'.heap[k]? = w.heap[k]?
theorem PutAt.below {w w' : World} {g : Nat} {o : Obj} (h : PutAt w w' g o) {B : Nat} (hB : B ≤ g) : Below B w w' := ⟨h.os, h.tape, h.output, by rw [h.size]; exact Nat.le_refl _, fun k hk => h.other k (by omega)⟩
theorem PutAt.cell {w w' : World} {g : Nat} {cs : Array Value} {t : TypeId} {fr : Nat × Nat} (h : PutAt w w' g (.cells cs t fr)) (i : Nat) : w'.cell? ⟨g, i, none⟩ = cs[i]? := cell_of_row w' g i cs t fr h.here
theorem PutAt.cells_ne {w w' : World} {g : Nat} {o : Obj} (h : PutAt w w' g o) {a : Addr} (ha : a.block ≠ g) : w'.cell? a = w.cell? a := World.cell?_of_block (h.other _ ha)
theorem PutAt.frozen_ne {w w' : World} {g : Nat} {o : Obj} (h : PutAt w w' g o) {a : Addr} (ha : a.block ≠ g) : w'.frozen? a = w.frozen? a := World.frozen?_of_block (h.other _ ha)

def RowIs (w : World) (g : Nat) (t : TypeId) (n : Nat) : Prop := ∃ old : Array Value, w.heap[g]? = some (.cells old t (0, 0)) ∧ old.size = n
theorem RowIs.new (w : World) (cs : Array Value) (t : TypeId) : RowIs (w.alloc (.cells cs t)) w.heap.size t cs.size := ⟨cs, heap_alloc_new w _, rfl⟩
theorem RowIs.newE {w : World} {cs : Array Value} {t g n : Nat} (hg : g = w.heap.size) (hn : cs.size = n) : RowIs (w.alloc (.cells cs t)) g t n := by subst hg hn; exact RowIs.new w cs t
theorem RowIs.alloc {w : World} {g t n : Nat} (h : RowIs w g t n) (o : Obj) : RowIs (w.alloc o) g t n := by
  obtain ⟨old, h1, h2⟩ := h
  exact ⟨old, (Below.heap_alloc w o g (Array.getElem?_eq_some_iff.1 h1).1).trans h1, h2⟩
theorem RowIs.put {w w' : World} {g t n : Nat} (h : RowIs w g t n) {g' : Nat} {o : Obj} (hp : PutAt w w' g' o) (hne : g ≠ g') : RowIs w' g t n := by
  obtain ⟨old, h1, h2⟩ := h
  exact ⟨old, (hp.other g hne).trans h1, h2⟩
theorem PutAt.row {w w' : World} {g : Nat} {cs : Array Value} {t : TypeId} (h : PutAt w w' g (.cells cs t)) : RowIs w' g t cs.size := ⟨cs, h.here, rfl⟩
theorem st_row {P : Program} {ops : Array Oper} {rest : List Oper} {o : Oper} {a : Act} {w : World} {Q : Exit → Act → World → Prop} (hgd : o.guard = none) (ty : TypeId) (x y : Operand) (ho : o.op = .store ty x y)
    (g : Nat) (cells : Array Value) (hx : a.eval x = .pointer (some ⟨g, 0, none⟩)) (hy : a.eval y = .agg cells)
    (t : TypeId) (hr : RowIs w g t cells.size) (hi : (P.info? ty).map (·.size) = some cells.size) (h1 : cells.all (·.oneCell') = true)
    (h : ∀ w', PutAt w w' g (.cells cells t) → wpList P ops Q rest (a.put o.dst undef) w') : wpList P ops Q (o :: rest) a w := by
  obtain ⟨old, hg, hs⟩ := hr
  exact wpList_store_row hgd ty x y ho g cells hx hy t old hg hi hs h1 (h _ ⟨rfl, rfl, rfl, by simp, setRow_heap w g old cells t _ hg, fun k hk => setRow_other w g k cells hk⟩)

def textOf (k : Int) : ByteArray := if 10 ≤ k ∧ k < 31 then wordsL.getD (k - 10).toNat ⟨#[]⟩ else if 40 ≤ k ∧ k < 67 then signsL.getD (k - 40).toNat ⟨#[]⟩ else ⟨#[]⟩
theorem wordsV_get (i : Nat) (h : i < 21) : wordsV[i]? = some (.string (wordsL.getD i ⟨#[]⟩)) := by
  have hl : wordsL.length = 21 := rfl
  simp only [wordsV, List.getElem?_toArray, List.getElem?_map, List.getD_eq_getElem?_getD]
  rw [List.getElem?_eq_getElem (by omega)]; simp
theorem signsV_get (i : Nat) (h : i < 27) : signsV[i]? = some (.string (signsL.getD i ⟨#[]⟩)) := by
  have hl : signsL.length = 27 := rfl
  simp only [signsV, List.getElem?_toArray, List.getElem?_map, List.getD_eq_getElem?_getD]
  rw [List.getElem?_eq_getElem (by omega)]; simp

theorem text_any (k : Int) (w : World) : Calls Try.prog 209 #[.int .i64 k] w fun e w' => e = .returned (.string (textOf k)) ∧ Below w.heap.size w w' := by
  go_enter Try.func209, Try.ntmps209
  go_wp2_with fail
  refine (words_any _).mono ?_
  rintro e w1 ⟨rfl, rfl⟩
  go_wp2_with fail
  refine (signs_any _).mono ?_
  rintro e w1 ⟨rfl, rfl⟩
  go_upto_block 0 with (first
    | (refine st_row rfl 223 _ _ rfl _ wordsV rfl rfl 223 (RowIs.alloc (RowIs.newE (by simp) (by rfl)) _) (by kernel_rfl) (by kernel_rfl) ?_; intro w3 h3)
    | (refine st_row rfl 212 _ _ rfl _ signsV rfl rfl 212 (RowIs.put (RowIs.newE (by simp) (by rfl)) h3 (by simp)) (by kernel_rfl) (by kernel_rfl) ?_; intro w4 h4))
  have hb : Below w.heap.size w w4 := by
    refine Below.trans (Below.trans ?_ (h3.below (by omega))) (h4.below (by omega))
    exact ((((Below.refl _ _).alloc (by simp) _).alloc (by simp) _).alloc (by simp; omega) _).alloc (by simp; omega) _
  have c1 : ∀ i, i < 21 → w4.cell? ⟨w.heap.size + 2, i, none⟩ = some (.string (wordsL.getD i ⟨#[]⟩)) := fun i hi => by
    rw [h4.cells_ne (by simp), ← wordsV_get i hi]
    exact h3.cell i
  have c2 : ∀ i, i < 27 → w4.cell? ⟨w.heap.size + 3, i, none⟩ = some (.string (signsL.getD i ⟨#[]⟩)) := fun i hi => by
    rw [← signsV_get i hi]; exact h4.cell i
  clear h3 h4
  by_cases g1 : 10 ≤ k ∧ k < 31
  · obtain ⟨g1, g2⟩ := g1
    have c := c1 (k - 10).toNat (by omega)
    clear c1 c2
    go_wp2
    go_ret
    exact ⟨by unfold textOf; rw [if_pos ⟨g1, g2⟩]; simp, hb⟩
  · by_cases g2 : 40 ≤ k ∧ k < 67
    · obtain ⟨g2, g3⟩ := g2
      have c := c2 (k - 40).toNat (by omega)
      have g4 : ¬ k < 31 := by omega
      clear c1 c2
      go_wp2
      go_ret
      exact ⟨by unfold textOf; rw [if_neg g1, if_pos ⟨g2, g3⟩]; simp, hb⟩
    · clear c1 c2
      go_wp2
      all_goals (go_ret; exact ⟨by unfold textOf; rw [if_neg g1, if_neg g2]; simp, hb⟩)
end Go.Proofs.Ytmaepljmefdhkaa
