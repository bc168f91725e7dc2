import Derived.Test.YtmaepljmefdhkaaTree2
import Derived.Deep.LoopGhost
import Derived.Deep.QuietTactic
import Derived.BigQuiet
namespace Go.Proofs.Ytmaepljmefdhkaa
open Go.RowKit
set_option maxHeartbeats 1000000
set_option maxRecDepth 100000

def gi (l : List Int) (k : Nat) : Int := l.getD k 0
structure Nd where
  kind : Int
  at_ : Int
  kids : List Int
  name : ByteArray
  num : Int
  kA : Option Addr
  kc : Nat
  deriving Inhabited
def nd (l : List Nd) (i : Nat) : Nd := l.getD i default
def Nd.val (n : Nd) : Value := nodeV n.kind n.at_ n.kA n.kids.length n.kc n.name n.num

/-- The bound of one row (the statements look no further: DOC.md bounds all by 2^31 - 1). -/
def big : Nat := 2147483648
theorem big_le {n : Nat} (h : n ≤ big) : (n : Int) ≤ 2147483648 := by unfold big at h; omega

def IntsAt (w : World) (A : Option Addr) (xs : List Int) : Prop :=
  ∀ i, i < xs.length → ∃ b o, A = some ⟨b, o, none⟩ ∧ w.cell? ⟨b, o + i, none⟩ = some (.int .i64 (gi xs i))
structure NdAt (w : World) (b o : Nat) (n : Nd) : Prop where
  kind : w.cell? ⟨b, o, none⟩ = some (.int .i64 n.kind)
  at_ : w.cell? ⟨b, o + 1, none⟩ = some (.int .i64 n.at_)
  kids : w.cell? ⟨b, o + 2, none⟩ = some (.slice n.kA n.kids.length n.kc)
  name : w.cell? ⟨b, o + 3, none⟩ = some (.string n.name)
  num : w.cell? ⟨b, o + 4, none⟩ = some (.int .i64 n.num)
  many : n.kids.length ≤ big
  nsz : n.name.size ≤ big
  row : IntsAt w n.kA n.kids
structure NodesAt (w : World) (A : Option Addr) (ns : List Nd) : Prop where
  size : ns.length ≤ big
  node : ∀ i, i < ns.length → ∃ b o, A = some ⟨b, o, none⟩ ∧ NdAt w b (o + i * 5) (nd ns i)

theorem cell_below {w w' : World} {a : Addr} {v : Value} (h : w.cell? a = some v) (hb : Below w.heap.size w w') : w'.cell? a = some v := (hb.cell (block_lt_of_cell h)).trans h
theorem IntsAt.below {w w' : World} {A : Option Addr} {xs : List Int} (h : IntsAt w A xs) (hb : Below w.heap.size w w') : IntsAt w' A xs := fun i hi => by
  obtain ⟨b, o, e, hc⟩ := h i hi
  exact ⟨b, o, e, cell_below hc hb⟩
theorem NdAt.below {w w' : World} {b o : Nat} {n : Nd} (h : NdAt w b o n) (hb : Below w.heap.size w w') : NdAt w' b o n :=
  ⟨cell_below h.kind hb, cell_below h.at_ hb, cell_below h.kids hb, cell_below h.name hb, cell_below h.num hb, h.many, h.nsz, h.row.below hb⟩
theorem NodesAt.below {w w' : World} {A : Option Addr} {ns : List Nd} (h : NodesAt w A ns) (hb : Below w.heap.size w w') : NodesAt w' A ns :=
  ⟨h.size, fun i hi => by
    obtain ⟨b, o, e, hn⟩ := h.node i hi
    exact ⟨b, o, e, hn.below hb⟩⟩
theorem NdAt.lt {w : World} {b o : Nat} {n : Nd} (h : NdAt w b o n) : b < w.heap.size := block_lt_of_cell h.kind
theorem bcell {W w1 : World} (hb : Below W.heap.size W w1) : (∀ b o, b < W.heap.size → w1.cell? ⟨b, o, none⟩ = W.cell? ⟨b, o, none⟩) ∧ (∀ b o, b < W.heap.size → w1.frozen? ⟨b, o, none⟩ = W.frozen? ⟨b, o, none⟩) :=
  ⟨fun b o h => hb.cell (p := ⟨b, o, none⟩) h, fun b o h => hb.frozen (p := ⟨b, o, none⟩) h⟩

/-! ### A world behind calls that make memory alone -/
structure After (w0 : World) where
  w : World
  h : Below w0.heap.size w0 w
instance After.some_ (w : World) : Nonempty (After w) := ⟨⟨w, Below.refl _ _⟩⟩
theorem below_after {w w' : World} (h : Below w.heap.size w w') : ∃ u : After w, w' = u.w := ⟨⟨w', h⟩, rfl⟩
@[go_sem] theorem After.cell {w : World} (u : After w) (b o : Nat) (h : b < w.heap.size) : u.w.cell? ⟨b, o, none⟩ = w.cell? ⟨b, o, none⟩ := u.h.cell (p := ⟨b, o, none⟩) h
@[go_sem] theorem After.frozen {w : World} (u : After w) (b o : Nat) (h : b < w.heap.size) : u.w.frozen? ⟨b, o, none⟩ = w.frozen? ⟨b, o, none⟩ := u.h.frozen (p := ⟨b, o, none⟩) h
@[go_sem] theorem After.lt {w : World} (u : After w) {b : Nat} (h : b < w.heap.size) : b < u.w.heap.size := Nat.lt_of_lt_of_le h u.h.size
/-- A region that draws its order, whose operations read, and whose callees make memory alone: one walk, in the text's order. -/
theorem wp_region_after {P : Program} {id : Nat} {Q : Exit → Act → World → Prop} {a : Act} {w : World} {l : List Oper} (hm : P.follows .mixedOrders = true) (hB : Region.lexB .any l.toArray = true)
    (h : wpQuiet P l.toArray (fun w' => ∃ u : After w, w' = u.w) (fun a' => ∀ w', (∃ u : After w, w' = u.w) → Q .normal a' w') l a) : (Code.region id l.toArray true).wp P Q a w :=
  wp_region_quiet (C := fun w' => ∃ u : After w, w' = u.w) hm hB ⟨⟨w.drew, (Below.refl _ _).drew⟩, rfl⟩ (by simpa using h)
theorem After.of {P : Program} {f : FuncId} {args : Array Value} {w : World} {u : After w} {v : Value} (h : Calls P f args u.w fun e w' => e = .returned v ∧ Below u.w.heap.size u.w w') :
    Calls P f args u.w fun e w'' => e = .returned v ∧ ∃ u' : After w, w'' = u'.w :=
  h.mono fun _ w' ⟨he, hb⟩ => ⟨he, ⟨w', u.h.trans (hb.mono u.h.size)⟩, rfl⟩
theorem After.of_same {P : Program} {f : FuncId} {args : Array Value} {w : World} {u : After w} {v : Value} (h : Calls P f args u.w fun e w' => e = .returned v ∧ u.w = w') :
    Calls P f args u.w fun e w'' => e = .returned v ∧ ∃ u' : After w, w'' = u'.w :=
  h.mono fun _ _ ⟨he, hb⟩ => ⟨he, u, hb.symm⟩

theorem NodesAt.after {w : World} {A : Option Addr} {ns : List Nd} (h : NodesAt w A ns) (u : After w) : NodesAt u.w A ns := h.below u.h
theorem NodesAt.alloc {w : World} {A : Option Addr} {ns : List Nd} (h : NodesAt w A ns) (o : Obj) : NodesAt (w.alloc o) A ns := h.below (below_one w o)
theorem IntsAt.after {w : World} {A : Option Addr} {xs : List Int} (h : IntsAt w A xs) (u : After w) : IntsAt u.w A xs := h.below u.h
theorem IntsAt.alloc {w : World} {A : Option Addr} {xs : List Int} (h : IntsAt w A xs) (o : Obj) : IntsAt (w.alloc o) A xs := h.below (below_one w o)

/-! law05.has -/
def hasB (l : List Int) (n : Int) : Bool := l.any (· == n)
theorem hasB_no {l : List Int} {n : Int} (h : ∀ j, j < l.length → gi l j ≠ n) : hasB l n = false := by
  unfold hasB
  rw [List.any_eq_false]
  intro x hx
  obtain ⟨i, hi, rfl⟩ := List.getElem_of_mem hx
  have := h i hi
  simpa [gi, List.getD_eq_getElem?_getD, List.getElem?_eq_getElem hi] using this
theorem hasB_yes {l : List Int} {n : Int} {j : Nat} (hj : j < l.length) (h : (gi l j == n) = true) : hasB l n = true := by
  unfold hasB
  rw [List.any_eq_true]
  exact ⟨l[j], List.getElem_mem hj, by simpa [gi, List.getD_eq_getElem?_getD, List.getElem?_eq_getElem hj] using h⟩
theorem has_any (A : Option Addr) (c : Nat) (l : List Int) (n : Int) (w : World) (hm : l.length ≤ big) (hl : IntsAt w A l) :
    Calls Try.prog 27 #[.slice A l.length c, .int .i64 n] w fun e w' => e = .returned (.bool (hasB l n)) ∧ w = w' := by
  have hm' := big_le hm
  go_enter Try.func27, Try.ntmps27
  go_wp2
  go_loop [5] (fun i => ∃ k : Nat, k ≤ l.length ∧ i = .int .i64 k ∧ ∀ j, j < k → gi l j ≠ n) (fun i => l.length - (intOf i).toNat)
  case atStart => exact ⟨0, by omega, rfl, by intro j hj; omega⟩
  case round =>
    obtain ⟨k, hk, rfl, hne⟩ := hrel
    have HN := Lib.hid hne
    clear hne
    by_cases hlt : k < l.length
    · obtain ⟨b, o, rfl, hx⟩ := hl k hlt
      clear hl
      go_wp2
      · go_ret
        exact ⟨by rw [hasB_yes hlt ‹_›]; rfl, rfl⟩
      · go_round
        case rel => exact ⟨k + 1, by omega, by go_num, fun j hj => by
            rcases Nat.lt_succ_iff_lt_or_eq.1 hj with h | rfl
            · exact HN.out j h
            · simpa using ‹(gi l _ == n) = false›⟩
        case measure => simp [intOf]; omega
    · clear hl
      go_wp2
      go_ret
      exact ⟨by rw [hasB_no (fun j hj => HN.out j (by omega))]; rfl, rfl⟩
end Go.Proofs.Ytmaepljmefdhkaa
