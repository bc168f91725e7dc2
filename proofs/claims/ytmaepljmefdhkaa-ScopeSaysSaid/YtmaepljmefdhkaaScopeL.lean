import Derived.Test.YtmaepljmefdhkaaScopeK
import Derived.Test.YtmaepljmefdhkaaScopeH
namespace Go.Proofs.Ytmaepljmefdhkaa
open Go.RowKit Go.Maps
set_option maxHeartbeats 2000000
set_option maxRecDepth 100000

/-! The walker, in plain Lean. -/
def allF (node : St → Nat → St) (kids : List Int) (st : St) : St := kids.foldl (fun s k => node s k.toNat) st
def withinF (body : St → St) (st : St) : St := leaveF (body (enterF st)) st.block
def kid (l : List Nd) (i k : Nat) : Nat := (gi (nd l i).kids k).toNat
def declParam (l : List Nd) (s : St) (k : Int) : St := if (nd l k.toNat).kind = 42 ∧ s.code = 0 then declareF l s k.toNat else s
/-- The innermost part of a prog: its parameters, then its body's statements. -/
def bodyF (l : List Nd) (node : St → Nat → St) (i : Nat) (st : St) : St :=
  allF node (nd l (kid l i ((nd l i).kids.length - 1))).kids ((nd l i).kids.foldl (declParam l) st)
def progF (l : List Nd) (node : St → Nat → St) (st : St) (i : Nat) : St :=
  let s := withinF (fun s => withinF (bodyF l node i) (declareF l s i)) { st with progs := st.progs ++ [(i : Int)] }
  { s with progs := s.progs.dropLast }
def nodeF (l : List Nd) (first : List Int) : Nat → St → Nat → St
  | 0, st, _ => st
  | f + 1, st, i =>
    if st.code ≠ 0 then st
    else if (nd l i).kind = 13 then nameF l first st i
    else if (nd l i).kind = 20 then progF l (nodeF l first f) st i
    else if (nd l i).kind = 31 ∨ (nd l i).kind = 32 then
      (let s := allF (nodeF l first f) (nd l i).kids st
       if s.code = 0 then declareF l s i else s)
    else if (nd l i).kind = 33 then allF (nodeF l first f) (nd l i).kids (placeF l st (kid l i 0))
    else if (nd l i).kind = 41 then withinF (allF (nodeF l first f) (nd l i).kids) st
    else if (nd l i).kind = 43 then withinF (fun s => allF (nodeF l first f) (nd l (kid l i 1)).kids (declareF l s i)) (nodeF l first f st (kid l i 0))
    else if (nd l i).kind = 4 ∨ (nd l i).kind = 5 ∨ (nd l i).kind = 6 ∨ (nd l i).kind = 7 ∨ (nd l i).kind = 45 ∨ (nd l i).kind = 19 then st
    else allF (nodeF l first f) (nd l i).kids st

def st0 (l : List Nd) : St :=
  { names := fun s => if s = "input".toUTF8.data.toList then [(-2, -1)] else if s = "output".toUTF8.data.toList then [(-3, -1)] else []
    block := 0, blocks := 0, progs := [], set := fun _ => false, ref := l.map (fun _ => -1), free := l.map (fun _ => []), at_ := 0, code := 0 }
def firstGo (l : List Nd) : Nat → List Int → List Int
  | 0, fs => fs
  | d + 1, fs => firstGo l d (fs ++ [if 0 < (nd l fs.length).kids.length then gi fs (kid l fs.length 0) else (fs.length : Int)])
/-- scope.Names: what each name means, what each prog captures; the fault. -/
def namesF (l : List Nd) : (List Int × List (List Int)) × Int × Int :=
  if (checkF l).2 ≠ 0 then (([], []), (checkF l).1, (checkF l).2)
  else
    let s := withinF (allF (nodeF l (firstGo l l.length []) l.length) (nd l (l.length - 1)).kids) (st0 l)
    if s.code ≠ 0 then (([], []), s.at_, s.code) else ((s.ref, s.free), 0, 0)

def exNode (k a : Int) (kids : List Int) (name : String) (num : Int) : Nd := ⟨k, a, kids, name.toUTF8, num, none, 0⟩
def ex1 : List Nd := [exNode 13 8 [] "x" 0, exNode 31 0 [0] "x" 0, exNode 46 0 [1] "" 0]
def ex2 : List Nd := [exNode 13 8 [] "input" 0, exNode 31 0 [0] "x" 0, exNode 46 0 [1] "" 0]
end Go.Proofs.Ytmaepljmefdhkaa
