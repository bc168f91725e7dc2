/-
  NARROWER THAN 'FOR EVERY INPUT', by the rows' own cells (each row's printed sentence says how): ValueParts: loops.
  DERIVED. THE GIVEN ROWS OF THIS SEAT. 11 by the template 'for every input the law returns true; each argument reads behind the call as it read before'; 0 by the template 'total and deterministic' (their statements: YtmaepljmefdhkaaTotals.lean).
  GIVEN WITH THE SEED: the statements are not yours to turn. If you find one false, say at which input.
  Laid BY PROGRAM, IN A SANDBOX (cutbox-rows.mjs): the forced cells as the released guide's own fill.sh prints them over the translation 63112530bff050c4… (all of the seat's roots in one cut). By AI agents, Wed Nov 11 2026. No macro, syntax, notation, axiom, sorry.
-/
import Derived.Test.YtmaepljmefdhkaaChecked
import GoSem.Claim
import GoSem.ClaimJoined
import GoSem.ClaimMapViews
import Derived.JoinedTies
import Derived.KernelRfl
namespace Go.Proofs.Ytmaepljmefdhkaa
/- THE CELL 'sum', in the pinned program and in every row, IS THE sha256 OF THE DUMP (.gsa) THAT YtmaepljmefdhkaaProg.lean LOADS. Nothing in Lean hashes anything: it is a label: what it is worth is what the hold of that sum in a sandbox is worth. -/
noncomputable def Try.pinned : Pinned := { name := "ytmaepljmefdhkaa", sum := "63112530bff050c44255d2f948ef6b94e88d07739cecb8b1be0dc306ed4089e7", checked := Try.checked }
namespace Rows
def none {H : Type} : Left H := { results := [], args := [] }

/-- 'squintlaw04.KindsTables': WHATEVER THE INPUT: true; the input reads as it did. -/
def kindsTablesSpec : ChangeSpec := { name := "kindsTables", fn := fun _ => fun
  | [d1, d2] => { results := [.lit (.bool true)], args := [d1, d2] }
  | _ => none }
def kindsTablesRow : OpenClaim := { program := "ytmaepljmefdhkaa", sum := "63112530bff050c44255d2f948ef6b94e88d07739cecb8b1be0dc306ed4089e7", func := "squint/squintlaw04.KindsTables", spec := "kindsTables", recurses := true, plainKeys := false, apart := false }
def KindsTablesSaid : Prop := kindsTablesRow.holds Try.pinned (OpenSpec.ofChange kindsTablesSpec)

/-- ITS FALSE NEIGHBOUR: 'it returns false'. Refute it at one input. -/
def kindsTablesWrong : ChangeSpec := { name := "kindsTables", fn := fun _ => fun
  | [d1, d2] => { results := [.lit (.bool false)], args := [d1, d2] }
  | _ => none }
def KindsTablesWrongFalsely : Prop := kindsTablesRow.holds Try.pinned (OpenSpec.ofChange kindsTablesWrong)

/-- 'squintlaw05.ScopeSays': WHATEVER THE INPUT: true; the input reads as it did. -/
def scopeSaysSpec : ChangeSpec := { name := "scopeSays", fn := fun _ => fun
  | [d] => { results := [.lit (.bool true)], args := [d] }
  | _ => none }
def scopeSaysRow : OpenClaim := { program := "ytmaepljmefdhkaa", sum := "63112530bff050c44255d2f948ef6b94e88d07739cecb8b1be0dc306ed4089e7", func := "squint/squintlaw05.ScopeSays", spec := "scopeSays", unfollowed := true, recurses := true, plainKeys := false, apart := false }
def ScopeSaysSaid : Prop := scopeSaysRow.holds Try.pinned (OpenSpec.ofChange scopeSaysSpec)

/-- ITS FALSE NEIGHBOUR: 'it returns false'. Refute it at one input. -/
def scopeSaysWrong : ChangeSpec := { name := "scopeSays", fn := fun _ => fun
  | [d] => { results := [.lit (.bool false)], args := [d] }
  | _ => none }
def ScopeSaysWrongFalsely : Prop := scopeSaysRow.holds Try.pinned (OpenSpec.ofChange scopeSaysWrong)

/-- 'squintlaw05.ScopeBlind': WHATEVER THE INPUT: true; the input reads as it did. -/
def scopeBlindSpec : ChangeSpec := { name := "scopeBlind", fn := fun _ => fun
  | [d1, d2] => { results := [.lit (.bool true)], args := [d1, d2] }
  | _ => none }
def scopeBlindRow : OpenClaim := { program := "ytmaepljmefdhkaa", sum := "63112530bff050c44255d2f948ef6b94e88d07739cecb8b1be0dc306ed4089e7", func := "squint/squintlaw05.ScopeBlind", spec := "scopeBlind", unfollowed := true, recurses := true, plainKeys := false, apart := false }
def ScopeBlindSaid : Prop := scopeBlindRow.holds Try.pinned (OpenSpec.ofChange scopeBlindSpec)

/-- ITS FALSE NEIGHBOUR: 'it returns false'. Refute it at one input. -/
def scopeBlindWrong : ChangeSpec := { name := "scopeBlind", fn := fun _ => fun
  | [d1, d2] => { results := [.lit (.bool false)], args := [d1, d2] }
  | _ => none }
def ScopeBlindWrongFalsely : Prop := scopeBlindRow.holds Try.pinned (OpenSpec.ofChange scopeBlindWrong)

/-- 'squintlaw05.ScopeRenames': WHATEVER THE INPUT: true; the input reads as it did. -/
def scopeRenamesSpec : ChangeSpec := { name := "scopeRenames", fn := fun _ => fun
  | [d1, d2, d3] => { results := [.lit (.bool true)], args := [d1, d2, d3] }
  | _ => none }
def scopeRenamesRow : OpenClaim := { program := "ytmaepljmefdhkaa", sum := "63112530bff050c44255d2f948ef6b94e88d07739cecb8b1be0dc306ed4089e7", func := "squint/squintlaw05.ScopeRenames", spec := "scopeRenames", unfollowed := true, recurses := true, plainKeys := false, apart := false }
def ScopeRenamesSaid : Prop := scopeRenamesRow.holds Try.pinned (OpenSpec.ofChange scopeRenamesSpec)

/-- ITS FALSE NEIGHBOUR: 'it returns false'. Refute it at one input. -/
def scopeRenamesWrong : ChangeSpec := { name := "scopeRenames", fn := fun _ => fun
  | [d1, d2, d3] => { results := [.lit (.bool false)], args := [d1, d2, d3] }
  | _ => none }
def ScopeRenamesWrongFalsely : Prop := scopeRenamesRow.holds Try.pinned (OpenSpec.ofChange scopeRenamesWrong)

/-- 'squintlaw05.ScopeFits': WHATEVER THE INPUT: true; the input reads as it did. -/
def scopeFitsSpec : ChangeSpec := { name := "scopeFits", fn := fun _ => fun
  | [] => { results := [.lit (.bool true)], args := [] }
  | _ => none }
def scopeFitsRow : OpenClaim := { program := "ytmaepljmefdhkaa", sum := "63112530bff050c44255d2f948ef6b94e88d07739cecb8b1be0dc306ed4089e7", func := "squint/squintlaw05.ScopeFits", spec := "scopeFits", unfollowed := true, recurses := true, plainKeys := false, apart := false }
def ScopeFitsSaid : Prop := scopeFitsRow.holds Try.pinned (OpenSpec.ofChange scopeFitsSpec)

/-- ITS FALSE NEIGHBOUR: 'it returns false'. Refute it at one input. -/
def scopeFitsWrong : ChangeSpec := { name := "scopeFits", fn := fun _ => fun
  | [] => { results := [.lit (.bool false)], args := [] }
  | _ => none }
def ScopeFitsWrongFalsely : Prop := scopeFitsRow.holds Try.pinned (OpenSpec.ofChange scopeFitsWrong)

/-- 'squintlaw03.ParseReads': WHATEVER THE INPUT: true; the input reads as it did. -/
def parseReadsSpec : ChangeSpec := { name := "parseReads", fn := fun _ => fun
  | [d1, d2, d3] => { results := [.lit (.bool true)], args := [d1, d2, d3] }
  | _ => none }
def parseReadsRow : OpenClaim := { program := "ytmaepljmefdhkaa", sum := "63112530bff050c44255d2f948ef6b94e88d07739cecb8b1be0dc306ed4089e7", func := "squint/squintlaw03.ParseReads", spec := "parseReads", unfollowed := true, recurses := true, plainKeys := false, apart := false }
def ParseReadsSaid : Prop := parseReadsRow.holds Try.pinned (OpenSpec.ofChange parseReadsSpec)

/-- ITS FALSE NEIGHBOUR: 'it returns false'. Refute it at one input. -/
def parseReadsWrong : ChangeSpec := { name := "parseReads", fn := fun _ => fun
  | [d1, d2, d3] => { results := [.lit (.bool false)], args := [d1, d2, d3] }
  | _ => none }
def ParseReadsWrongFalsely : Prop := parseReadsRow.holds Try.pinned (OpenSpec.ofChange parseReadsWrong)

/-- 'squintlaw03.ParseBlanks': WHATEVER THE INPUT: true; the input reads as it did. -/
def parseBlanksSpec : ChangeSpec := { name := "parseBlanks", fn := fun _ => fun
  | [d1, d2] => { results := [.lit (.bool true)], args := [d1, d2] }
  | _ => none }
def parseBlanksRow : OpenClaim := { program := "ytmaepljmefdhkaa", sum := "63112530bff050c44255d2f948ef6b94e88d07739cecb8b1be0dc306ed4089e7", func := "squint/squintlaw03.ParseBlanks", spec := "parseBlanks", unfollowed := true, recurses := true, plainKeys := false, apart := false }
def ParseBlanksSaid : Prop := parseBlanksRow.holds Try.pinned (OpenSpec.ofChange parseBlanksSpec)

/-- ITS FALSE NEIGHBOUR: 'it returns false'. Refute it at one input. -/
def parseBlanksWrong : ChangeSpec := { name := "parseBlanks", fn := fun _ => fun
  | [d1, d2] => { results := [.lit (.bool false)], args := [d1, d2] }
  | _ => none }
def ParseBlanksWrongFalsely : Prop := parseBlanksRow.holds Try.pinned (OpenSpec.ofChange parseBlanksWrong)

/-- 'squintlaw03.ParseBeginnings': WHATEVER THE INPUT: true; the input reads as it did. -/
def parseBeginningsSpec : ChangeSpec := { name := "parseBeginnings", fn := fun _ => fun
  | [d1, d2] => { results := [.lit (.bool true)], args := [d1, d2] }
  | _ => none }
def parseBeginningsRow : OpenClaim := { program := "ytmaepljmefdhkaa", sum := "63112530bff050c44255d2f948ef6b94e88d07739cecb8b1be0dc306ed4089e7", func := "squint/squintlaw03.ParseBeginnings", spec := "parseBeginnings", unfollowed := true, recurses := true, plainKeys := false, apart := false }
def ParseBeginningsSaid : Prop := parseBeginningsRow.holds Try.pinned (OpenSpec.ofChange parseBeginningsSpec)

/-- ITS FALSE NEIGHBOUR: 'it returns false'. Refute it at one input. -/
def parseBeginningsWrong : ChangeSpec := { name := "parseBeginnings", fn := fun _ => fun
  | [d1, d2] => { results := [.lit (.bool false)], args := [d1, d2] }
  | _ => none }
def ParseBeginningsWrongFalsely : Prop := parseBeginningsRow.holds Try.pinned (OpenSpec.ofChange parseBeginningsWrong)

/-- 'squintlaw03.ParseNest': WHATEVER THE INPUT: true; the input reads as it did. -/
def parseNestSpec : ChangeSpec := { name := "parseNest", fn := fun _ => fun
  | [d1, d2] => { results := [.lit (.bool true)], args := [d1, d2] }
  | _ => none }
def parseNestRow : OpenClaim := { program := "ytmaepljmefdhkaa", sum := "63112530bff050c44255d2f948ef6b94e88d07739cecb8b1be0dc306ed4089e7", func := "squint/squintlaw03.ParseNest", spec := "parseNest", unfollowed := true, recurses := true, plainKeys := false, apart := false }
def ParseNestSaid : Prop := parseNestRow.holds Try.pinned (OpenSpec.ofChange parseNestSpec)

/-- ITS FALSE NEIGHBOUR: 'it returns false'. Refute it at one input. -/
def parseNestWrong : ChangeSpec := { name := "parseNest", fn := fun _ => fun
  | [d1, d2] => { results := [.lit (.bool false)], args := [d1, d2] }
  | _ => none }
def ParseNestWrongFalsely : Prop := parseNestRow.holds Try.pinned (OpenSpec.ofChange parseNestWrong)

/-- 'squintlaw07.ValueParts': WHATEVER THE INPUT: true; the input reads as it did. -/
def valuePartsSpec : ChangeSpec := { name := "valueParts", fn := fun _ => fun
  | [d1, d2, d3] => { results := [.lit (.bool true)], args := [d1, d2, d3] }
  | _ => none }
def valuePartsRow : OpenClaim := { program := "ytmaepljmefdhkaa", sum := "63112530bff050c44255d2f948ef6b94e88d07739cecb8b1be0dc306ed4089e7", func := "squint/squintlaw07.ValueParts", spec := "valueParts", unfollowed := true, recurses := true, loops := true, plainKeys := false, apart := false }
def ValuePartsSaid : Prop := valuePartsRow.holds Try.pinned (OpenSpec.ofChange valuePartsSpec)

/-- ITS FALSE NEIGHBOUR: 'it returns false'. Refute it at one input. -/
def valuePartsWrong : ChangeSpec := { name := "valueParts", fn := fun _ => fun
  | [d1, d2, d3] => { results := [.lit (.bool false)], args := [d1, d2, d3] }
  | _ => none }
def ValuePartsWrongFalsely : Prop := valuePartsRow.holds Try.pinned (OpenSpec.ofChange valuePartsWrong)

/-- 'squintlaw07.ValueZero': WHATEVER THE INPUT: true; the input reads as it did. -/
def valueZeroSpec : ChangeSpec := { name := "valueZero", fn := fun _ => fun
  | [d1, d2, d3] => { results := [.lit (.bool true)], args := [d1, d2, d3] }
  | _ => none }
def valueZeroRow : OpenClaim := { program := "ytmaepljmefdhkaa", sum := "63112530bff050c44255d2f948ef6b94e88d07739cecb8b1be0dc306ed4089e7", func := "squint/squintlaw07.ValueZero", spec := "valueZero", unfollowed := true, recurses := true, plainKeys := false, apart := false }
def ValueZeroSaid : Prop := valueZeroRow.holds Try.pinned (OpenSpec.ofChange valueZeroSpec)

/-- ITS FALSE NEIGHBOUR: 'it returns false'. Refute it at one input. -/
def valueZeroWrong : ChangeSpec := { name := "valueZero", fn := fun _ => fun
  | [d1, d2, d3] => { results := [.lit (.bool false)], args := [d1, d2, d3] }
  | _ => none }
def ValueZeroWrongFalsely : Prop := valueZeroRow.holds Try.pinned (OpenSpec.ofChange valueZeroWrong)

/- THE SECOND FORM. 'bulk': how many values and letters a reading holds, each counted each time it is reached (what is shared counts as often as it is met; a slice's spare places count too). A statement '..UptoSaid' is the law's where the arguments, and the package variables that the reading takes, are together of bulk at most 1048576: NARROWER than '..Said'. Prove '..Said' where nothing that the law and all that it calls make is longer than what came in: it says more and counts as full. Else prove '..UptoSaid'. A law counts once. -/
mutual
def uptoBulk {H : Type} : DataW H → Nat
  | .lit (.string bytes) => bytes.length + 1
  | .lit _ => 1
  | .nil => 1
  | .ptr d => uptoBulk d + 1
  | .slice elems spare => uptoBulkAll elems + uptoBulkAll spare + 1
  | .agg parts => uptoBulkAll parts + 1
  | .iface _ d => uptoBulk d + 1
  | .map entries => uptoBulkEntries entries + 1
  | .held _ => 1
def uptoBulkAll {H : Type} : List (DataW H) → Nat
  | [] => 0
  | d :: r => uptoBulk d + uptoBulkAll r
def uptoBulkEntries {H : Type} : List (Lit × DataW H) → Nat
  | [] => 0
  | x :: r => uptoBulkEntry x + uptoBulkEntries r
def uptoBulkEntry {H : Type} : Lit × DataW H → Nat
  | (.string bytes, d) => bytes.length + uptoBulk d + 1
  | (_, d) => uptoBulk d + 1
 end
def uptoSmall : (H : Type) → List (DataW H) → Bool := fun _ ds => decide (uptoBulkAll ds ≤ 1048576)
def OpenSpec.upto (s : _root_.Go.ChangeSpec) : _root_.Go.OpenSpec := { _root_.Go.OpenSpec.ofChange s with cond := some uptoSmall }

/-- 'squintlaw04.KindsTables', WHERE WHAT IT READS IS OF BULK AT MOST 1048576: true; the input reads as it did. -/
def kindsTablesUptoRow : OpenClaim := { program := "ytmaepljmefdhkaa", sum := "63112530bff050c44255d2f948ef6b94e88d07739cecb8b1be0dc306ed4089e7", func := "squint/squintlaw04.KindsTables", spec := "kindsTables", recurses := true, plainKeys := false, apart := false, narrowed := true }
def KindsTablesUptoSaid : Prop := kindsTablesUptoRow.holds Try.pinned (OpenSpec.upto kindsTablesSpec)

/-- 'squintlaw05.ScopeSays', WHERE WHAT IT READS IS OF BULK AT MOST 1048576: true; the input reads as it did. -/
def scopeSaysUptoRow : OpenClaim := { program := "ytmaepljmefdhkaa", sum := "63112530bff050c44255d2f948ef6b94e88d07739cecb8b1be0dc306ed4089e7", func := "squint/squintlaw05.ScopeSays", spec := "scopeSays", unfollowed := true, recurses := true, plainKeys := false, apart := false, narrowed := true }
def ScopeSaysUptoSaid : Prop := scopeSaysUptoRow.holds Try.pinned (OpenSpec.upto scopeSaysSpec)

/-- 'squintlaw05.ScopeBlind', WHERE WHAT IT READS IS OF BULK AT MOST 1048576: true; the input reads as it did. -/
def scopeBlindUptoRow : OpenClaim := { program := "ytmaepljmefdhkaa", sum := "63112530bff050c44255d2f948ef6b94e88d07739cecb8b1be0dc306ed4089e7", func := "squint/squintlaw05.ScopeBlind", spec := "scopeBlind", unfollowed := true, recurses := true, plainKeys := false, apart := false, narrowed := true }
def ScopeBlindUptoSaid : Prop := scopeBlindUptoRow.holds Try.pinned (OpenSpec.upto scopeBlindSpec)

/-- 'squintlaw05.ScopeRenames', WHERE WHAT IT READS IS OF BULK AT MOST 1048576: true; the input reads as it did. -/
def scopeRenamesUptoRow : OpenClaim := { program := "ytmaepljmefdhkaa", sum := "63112530bff050c44255d2f948ef6b94e88d07739cecb8b1be0dc306ed4089e7", func := "squint/squintlaw05.ScopeRenames", spec := "scopeRenames", unfollowed := true, recurses := true, plainKeys := false, apart := false, narrowed := true }
def ScopeRenamesUptoSaid : Prop := scopeRenamesUptoRow.holds Try.pinned (OpenSpec.upto scopeRenamesSpec)

/-- 'squintlaw05.ScopeFits', WHERE WHAT IT READS IS OF BULK AT MOST 1048576: true; the input reads as it did. -/
def scopeFitsUptoRow : OpenClaim := { program := "ytmaepljmefdhkaa", sum := "63112530bff050c44255d2f948ef6b94e88d07739cecb8b1be0dc306ed4089e7", func := "squint/squintlaw05.ScopeFits", spec := "scopeFits", unfollowed := true, recurses := true, plainKeys := false, apart := false, narrowed := true }
def ScopeFitsUptoSaid : Prop := scopeFitsUptoRow.holds Try.pinned (OpenSpec.upto scopeFitsSpec)

/-- 'squintlaw03.ParseReads', WHERE WHAT IT READS IS OF BULK AT MOST 1048576: true; the input reads as it did. -/
def parseReadsUptoRow : OpenClaim := { program := "ytmaepljmefdhkaa", sum := "63112530bff050c44255d2f948ef6b94e88d07739cecb8b1be0dc306ed4089e7", func := "squint/squintlaw03.ParseReads", spec := "parseReads", unfollowed := true, recurses := true, plainKeys := false, apart := false, narrowed := true }
def ParseReadsUptoSaid : Prop := parseReadsUptoRow.holds Try.pinned (OpenSpec.upto parseReadsSpec)

/-- 'squintlaw03.ParseBlanks', WHERE WHAT IT READS IS OF BULK AT MOST 1048576: true; the input reads as it did. -/
def parseBlanksUptoRow : OpenClaim := { program := "ytmaepljmefdhkaa", sum := "63112530bff050c44255d2f948ef6b94e88d07739cecb8b1be0dc306ed4089e7", func := "squint/squintlaw03.ParseBlanks", spec := "parseBlanks", unfollowed := true, recurses := true, plainKeys := false, apart := false, narrowed := true }
def ParseBlanksUptoSaid : Prop := parseBlanksUptoRow.holds Try.pinned (OpenSpec.upto parseBlanksSpec)

/-- 'squintlaw03.ParseBeginnings', WHERE WHAT IT READS IS OF BULK AT MOST 1048576: true; the input reads as it did. -/
def parseBeginningsUptoRow : OpenClaim := { program := "ytmaepljmefdhkaa", sum := "63112530bff050c44255d2f948ef6b94e88d07739cecb8b1be0dc306ed4089e7", func := "squint/squintlaw03.ParseBeginnings", spec := "parseBeginnings", unfollowed := true, recurses := true, plainKeys := false, apart := false, narrowed := true }
def ParseBeginningsUptoSaid : Prop := parseBeginningsUptoRow.holds Try.pinned (OpenSpec.upto parseBeginningsSpec)

/-- 'squintlaw03.ParseNest', WHERE WHAT IT READS IS OF BULK AT MOST 1048576: true; the input reads as it did. -/
def parseNestUptoRow : OpenClaim := { program := "ytmaepljmefdhkaa", sum := "63112530bff050c44255d2f948ef6b94e88d07739cecb8b1be0dc306ed4089e7", func := "squint/squintlaw03.ParseNest", spec := "parseNest", unfollowed := true, recurses := true, plainKeys := false, apart := false, narrowed := true }
def ParseNestUptoSaid : Prop := parseNestUptoRow.holds Try.pinned (OpenSpec.upto parseNestSpec)

/-- 'squintlaw07.ValueParts', WHERE WHAT IT READS IS OF BULK AT MOST 1048576: true; the input reads as it did. -/
def valuePartsUptoRow : OpenClaim := { program := "ytmaepljmefdhkaa", sum := "63112530bff050c44255d2f948ef6b94e88d07739cecb8b1be0dc306ed4089e7", func := "squint/squintlaw07.ValueParts", spec := "valueParts", unfollowed := true, recurses := true, loops := true, plainKeys := false, apart := false, narrowed := true }
def ValuePartsUptoSaid : Prop := valuePartsUptoRow.holds Try.pinned (OpenSpec.upto valuePartsSpec)

/-- 'squintlaw07.ValueZero', WHERE WHAT IT READS IS OF BULK AT MOST 1048576: true; the input reads as it did. -/
def valueZeroUptoRow : OpenClaim := { program := "ytmaepljmefdhkaa", sum := "63112530bff050c44255d2f948ef6b94e88d07739cecb8b1be0dc306ed4089e7", func := "squint/squintlaw07.ValueZero", spec := "valueZero", unfollowed := true, recurses := true, plainKeys := false, apart := false, narrowed := true }
def ValueZeroUptoSaid : Prop := valueZeroUptoRow.holds Try.pinned (OpenSpec.upto valueZeroSpec)

end Rows
end Go.Proofs.Ytmaepljmefdhkaa
