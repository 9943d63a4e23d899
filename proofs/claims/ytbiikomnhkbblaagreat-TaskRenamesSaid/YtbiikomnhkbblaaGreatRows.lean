/-
  No cell of these rows narrows 'for every input' (looked for: loops, veiled, ifaces, maps, wideKeys, modest, calm, conditions, laid).
  DERIVED. THE GIVEN ROWS OF THIS SEAT. 7 by the template 'for every input the law returns true; each argument reads behind the call as it read before'; 0 by the template 'total and deterministic' (their statements: YtbiikomnhkbblaaGreatTotals.lean).
  GIVEN WITH THE SEED: the statements are not yours to turn. If you find one false, say at which input.
  Laid BY PROGRAM, IN A SANDBOX (cutbox-rows.mjs): the forced cells as the released guide's own fill.sh prints them over the translation ef2e296dea49dbe0… (all of the seat's roots in one cut). By AI agents, Wed Nov 11 2026. No macro, syntax, notation, axiom, sorry.
-/
import Derived.Test.YtbiikomnhkbblaaGreatChecked
import GoSem.Claim
import GoSem.ClaimJoined
import GoSem.ClaimMapViews
import Derived.JoinedTies
import Derived.KernelRfl
namespace Go.Proofs.YtbiikomnhkbblaaGreat
/- THE CELL 'sum', in the pinned program and in every row, IS THE sha256 OF THE DUMP (.gsa) THAT YtbiikomnhkbblaaGreatProg.lean LOADS. Nothing in Lean hashes anything: it is a label: what it is worth is what the hold of that sum in a sandbox is worth. -/
noncomputable def Tryz.pinned : Pinned := { name := "ytbiikomnhkbblaagreat", sum := "ef2e296dea49dbe0aed5fc6b791f9a33366a49fc48aab03fceebc46cfad05dab", checked := Tryz.checked }
namespace Rows
def none {H : Type} : Left H := { results := [], args := [] }

/-- 'roundtablelaw11.TaskChecks': WHATEVER THE INPUT: true; the input reads as it did. -/
def taskChecksSpec : ChangeSpec := { name := "taskChecks", fn := fun _ => fun
  | [d1, d2] => { results := [.lit (.bool true)], args := [d1, d2] }
  | _ => none }
def taskChecksRow : OpenClaim := { program := "ytbiikomnhkbblaagreat", sum := "ef2e296dea49dbe0aed5fc6b791f9a33366a49fc48aab03fceebc46cfad05dab", func := "roundtable/roundtablelaw11.TaskChecks", spec := "taskChecks", unfollowed := true, recurses := true, apart := false }
def TaskChecksSaid : Prop := taskChecksRow.holds Tryz.pinned (OpenSpec.ofChange taskChecksSpec)

/-- ITS FALSE NEIGHBOUR: 'it returns false'. Refute it at one input. -/
def taskChecksWrong : ChangeSpec := { name := "taskChecks", fn := fun _ => fun
  | [d1, d2] => { results := [.lit (.bool false)], args := [d1, d2] }
  | _ => none }
def TaskChecksWrongFalsely : Prop := taskChecksRow.holds Tryz.pinned (OpenSpec.ofChange taskChecksWrong)

/-- 'roundtablelaw11.TaskAllows': WHATEVER THE INPUT: true; the input reads as it did. -/
def taskAllowsSpec : ChangeSpec := { name := "taskAllows", fn := fun _ => fun
  | [d1, d2] => { results := [.lit (.bool true)], args := [d1, d2] }
  | _ => none }
def taskAllowsRow : OpenClaim := { program := "ytbiikomnhkbblaagreat", sum := "ef2e296dea49dbe0aed5fc6b791f9a33366a49fc48aab03fceebc46cfad05dab", func := "roundtable/roundtablelaw11.TaskAllows", spec := "taskAllows", unfollowed := true, recurses := true, apart := false }
def TaskAllowsSaid : Prop := taskAllowsRow.holds Tryz.pinned (OpenSpec.ofChange taskAllowsSpec)

/-- ITS FALSE NEIGHBOUR: 'it returns false'. Refute it at one input. -/
def taskAllowsWrong : ChangeSpec := { name := "taskAllows", fn := fun _ => fun
  | [d1, d2] => { results := [.lit (.bool false)], args := [d1, d2] }
  | _ => none }
def TaskAllowsWrongFalsely : Prop := taskAllowsRow.holds Tryz.pinned (OpenSpec.ofChange taskAllowsWrong)

/-- 'roundtablelaw11.TaskChanges': WHATEVER THE INPUT: true; the input reads as it did. -/
def taskChangesSpec : ChangeSpec := { name := "taskChanges", fn := fun _ => fun
  | [d1, d2, d3] => { results := [.lit (.bool true)], args := [d1, d2, d3] }
  | _ => none }
def taskChangesRow : OpenClaim := { program := "ytbiikomnhkbblaagreat", sum := "ef2e296dea49dbe0aed5fc6b791f9a33366a49fc48aab03fceebc46cfad05dab", func := "roundtable/roundtablelaw11.TaskChanges", spec := "taskChanges", unfollowed := true, recurses := true, apart := false }
def TaskChangesSaid : Prop := taskChangesRow.holds Tryz.pinned (OpenSpec.ofChange taskChangesSpec)

/-- ITS FALSE NEIGHBOUR: 'it returns false'. Refute it at one input. -/
def taskChangesWrong : ChangeSpec := { name := "taskChanges", fn := fun _ => fun
  | [d1, d2, d3] => { results := [.lit (.bool false)], args := [d1, d2, d3] }
  | _ => none }
def TaskChangesWrongFalsely : Prop := taskChangesRow.holds Tryz.pinned (OpenSpec.ofChange taskChangesWrong)

/-- 'roundtablelaw11.TaskRenames': WHATEVER THE INPUT: true; the input reads as it did. -/
def taskRenamesSpec : ChangeSpec := { name := "taskRenames", fn := fun _ => fun
  | [d1, d2, d3] => { results := [.lit (.bool true)], args := [d1, d2, d3] }
  | _ => none }
def taskRenamesRow : OpenClaim := { program := "ytbiikomnhkbblaagreat", sum := "ef2e296dea49dbe0aed5fc6b791f9a33366a49fc48aab03fceebc46cfad05dab", func := "roundtable/roundtablelaw11.TaskRenames", spec := "taskRenames", unfollowed := true, recurses := true, apart := false }
def TaskRenamesSaid : Prop := taskRenamesRow.holds Tryz.pinned (OpenSpec.ofChange taskRenamesSpec)

/-- ITS FALSE NEIGHBOUR: 'it returns false'. Refute it at one input. -/
def taskRenamesWrong : ChangeSpec := { name := "taskRenames", fn := fun _ => fun
  | [d1, d2, d3] => { results := [.lit (.bool false)], args := [d1, d2, d3] }
  | _ => none }
def TaskRenamesWrongFalsely : Prop := taskRenamesRow.holds Tryz.pinned (OpenSpec.ofChange taskRenamesWrong)

/-- 'roundtablelaw11.TaskGrows': WHATEVER THE INPUT: true; the input reads as it did. -/
def taskGrowsSpec : ChangeSpec := { name := "taskGrows", fn := fun _ => fun
  | [d1, d2] => { results := [.lit (.bool true)], args := [d1, d2] }
  | _ => none }
def taskGrowsRow : OpenClaim := { program := "ytbiikomnhkbblaagreat", sum := "ef2e296dea49dbe0aed5fc6b791f9a33366a49fc48aab03fceebc46cfad05dab", func := "roundtable/roundtablelaw11.TaskGrows", spec := "taskGrows", unfollowed := true, recurses := true, apart := false }
def TaskGrowsSaid : Prop := taskGrowsRow.holds Tryz.pinned (OpenSpec.ofChange taskGrowsSpec)

/-- ITS FALSE NEIGHBOUR: 'it returns false'. Refute it at one input. -/
def taskGrowsWrong : ChangeSpec := { name := "taskGrows", fn := fun _ => fun
  | [d1, d2] => { results := [.lit (.bool false)], args := [d1, d2] }
  | _ => none }
def TaskGrowsWrongFalsely : Prop := taskGrowsRow.holds Tryz.pinned (OpenSpec.ofChange taskGrowsWrong)

/-- 'roundtablelaw11.TaskRestricts': WHATEVER THE INPUT: true; the input reads as it did. -/
def taskRestrictsSpec : ChangeSpec := { name := "taskRestricts", fn := fun _ => fun
  | [d1, d2] => { results := [.lit (.bool true)], args := [d1, d2] }
  | _ => none }
def taskRestrictsRow : OpenClaim := { program := "ytbiikomnhkbblaagreat", sum := "ef2e296dea49dbe0aed5fc6b791f9a33366a49fc48aab03fceebc46cfad05dab", func := "roundtable/roundtablelaw11.TaskRestricts", spec := "taskRestricts", unfollowed := true, recurses := true, apart := false }
def TaskRestrictsSaid : Prop := taskRestrictsRow.holds Tryz.pinned (OpenSpec.ofChange taskRestrictsSpec)

/-- ITS FALSE NEIGHBOUR: 'it returns false'. Refute it at one input. -/
def taskRestrictsWrong : ChangeSpec := { name := "taskRestricts", fn := fun _ => fun
  | [d1, d2] => { results := [.lit (.bool false)], args := [d1, d2] }
  | _ => none }
def TaskRestrictsWrongFalsely : Prop := taskRestrictsRow.holds Tryz.pinned (OpenSpec.ofChange taskRestrictsWrong)

/-- 'roundtablelaw11.TaskCovers': WHATEVER THE INPUT: true; the input reads as it did. -/
def taskCoversSpec : ChangeSpec := { name := "taskCovers", fn := fun _ => fun
  | [d1, d2] => { results := [.lit (.bool true)], args := [d1, d2] }
  | _ => none }
def taskCoversRow : OpenClaim := { program := "ytbiikomnhkbblaagreat", sum := "ef2e296dea49dbe0aed5fc6b791f9a33366a49fc48aab03fceebc46cfad05dab", func := "roundtable/roundtablelaw11.TaskCovers", spec := "taskCovers", unfollowed := true, recurses := true, apart := false }
def TaskCoversSaid : Prop := taskCoversRow.holds Tryz.pinned (OpenSpec.ofChange taskCoversSpec)

/-- ITS FALSE NEIGHBOUR: 'it returns false'. Refute it at one input. -/
def taskCoversWrong : ChangeSpec := { name := "taskCovers", fn := fun _ => fun
  | [d1, d2] => { results := [.lit (.bool false)], args := [d1, d2] }
  | _ => none }
def TaskCoversWrongFalsely : Prop := taskCoversRow.holds Tryz.pinned (OpenSpec.ofChange taskCoversWrong)

/- THE SECOND FORM. 'bulk': how many values and letters a reading holds, each counted each time it is reached (what is shared counts as often as it is met; a slice's spare places count too). A statement '..UptoSaid' is the law's where the arguments, and the package variables that the reading takes, are together of bulk at most 1048576: NARROWER than '..Said'. Prove '..Said' where nothing that the law and all that it calls make is longer than what came in: it says more and counts as full. Else prove '..UptoSaid'. A law counts once. -/
mutual
def uptoBulk {H : Type} : DataW H → Nat
  | .lit (.string bytes) => bytes.length + 1
  | .lit _ => 1
  | .nil => 1
  | .ptr d => uptoBulk d + 1
  | .slice elems spare => uptoBulkAll elems + uptoBulkAll spare + 1
  | .agg parts => uptoBulkAll parts + 1
  | .iface _ d => uptoBulk d + 1
  | .map entries => uptoBulkEntries entries + 1
  | .held _ => 1
def uptoBulkAll {H : Type} : List (DataW H) → Nat
  | [] => 0
  | d :: r => uptoBulk d + uptoBulkAll r
def uptoBulkEntries {H : Type} : List (Lit × DataW H) → Nat
  | [] => 0
  | x :: r => uptoBulkEntry x + uptoBulkEntries r
def uptoBulkEntry {H : Type} : Lit × DataW H → Nat
  | (.string bytes, d) => bytes.length + uptoBulk d + 1
  | (_, d) => uptoBulk d + 1
 end
def uptoSmall : (H : Type) → List (DataW H) → Bool := fun _ ds => decide (uptoBulkAll ds ≤ 1048576)
def OpenSpec.upto (s : _root_.Go.ChangeSpec) : _root_.Go.OpenSpec := { _root_.Go.OpenSpec.ofChange s with cond := some uptoSmall }

/-- 'roundtablelaw11.TaskChecks', WHERE WHAT IT READS IS OF BULK AT MOST 1048576: true; the input reads as it did. -/
def taskChecksUptoRow : OpenClaim := { program := "ytbiikomnhkbblaagreat", sum := "ef2e296dea49dbe0aed5fc6b791f9a33366a49fc48aab03fceebc46cfad05dab", func := "roundtable/roundtablelaw11.TaskChecks", spec := "taskChecks", unfollowed := true, recurses := true, apart := false, narrowed := true }
def TaskChecksUptoSaid : Prop := taskChecksUptoRow.holds Tryz.pinned (OpenSpec.upto taskChecksSpec)

/-- 'roundtablelaw11.TaskAllows', WHERE WHAT IT READS IS OF BULK AT MOST 1048576: true; the input reads as it did. -/
def taskAllowsUptoRow : OpenClaim := { program := "ytbiikomnhkbblaagreat", sum := "ef2e296dea49dbe0aed5fc6b791f9a33366a49fc48aab03fceebc46cfad05dab", func := "roundtable/roundtablelaw11.TaskAllows", spec := "taskAllows", unfollowed := true, recurses := true, apart := false, narrowed := true }
def TaskAllowsUptoSaid : Prop := taskAllowsUptoRow.holds Tryz.pinned (OpenSpec.upto taskAllowsSpec)

/-- 'roundtablelaw11.TaskChanges', WHERE WHAT IT READS IS OF BULK AT MOST 1048576: true; the input reads as it did. -/
def taskChangesUptoRow : OpenClaim := { program := "ytbiikomnhkbblaagreat", sum := "ef2e296dea49dbe0aed5fc6b791f9a33366a49fc48aab03fceebc46cfad05dab", func := "roundtable/roundtablelaw11.TaskChanges", spec := "taskChanges", unfollowed := true, recurses := true, apart := false, narrowed := true }
def TaskChangesUptoSaid : Prop := taskChangesUptoRow.holds Tryz.pinned (OpenSpec.upto taskChangesSpec)

/-- 'roundtablelaw11.TaskRenames', WHERE WHAT IT READS IS OF BULK AT MOST 1048576: true; the input reads as it did. -/
def taskRenamesUptoRow : OpenClaim := { program := "ytbiikomnhkbblaagreat", sum := "ef2e296dea49dbe0aed5fc6b791f9a33366a49fc48aab03fceebc46cfad05dab", func := "roundtable/roundtablelaw11.TaskRenames", spec := "taskRenames", unfollowed := true, recurses := true, apart := false, narrowed := true }
def TaskRenamesUptoSaid : Prop := taskRenamesUptoRow.holds Tryz.pinned (OpenSpec.upto taskRenamesSpec)

/-- 'roundtablelaw11.TaskGrows', WHERE WHAT IT READS IS OF BULK AT MOST 1048576: true; the input reads as it did. -/
def taskGrowsUptoRow : OpenClaim := { program := "ytbiikomnhkbblaagreat", sum := "ef2e296dea49dbe0aed5fc6b791f9a33366a49fc48aab03fceebc46cfad05dab", func := "roundtable/roundtablelaw11.TaskGrows", spec := "taskGrows", unfollowed := true, recurses := true, apart := false, narrowed := true }
def TaskGrowsUptoSaid : Prop := taskGrowsUptoRow.holds Tryz.pinned (OpenSpec.upto taskGrowsSpec)

/-- 'roundtablelaw11.TaskRestricts', WHERE WHAT IT READS IS OF BULK AT MOST 1048576: true; the input reads as it did. -/
def taskRestrictsUptoRow : OpenClaim := { program := "ytbiikomnhkbblaagreat", sum := "ef2e296dea49dbe0aed5fc6b791f9a33366a49fc48aab03fceebc46cfad05dab", func := "roundtable/roundtablelaw11.TaskRestricts", spec := "taskRestricts", unfollowed := true, recurses := true, apart := false, narrowed := true }
def TaskRestrictsUptoSaid : Prop := taskRestrictsUptoRow.holds Tryz.pinned (OpenSpec.upto taskRestrictsSpec)

/-- 'roundtablelaw11.TaskCovers', WHERE WHAT IT READS IS OF BULK AT MOST 1048576: true; the input reads as it did. -/
def taskCoversUptoRow : OpenClaim := { program := "ytbiikomnhkbblaagreat", sum := "ef2e296dea49dbe0aed5fc6b791f9a33366a49fc48aab03fceebc46cfad05dab", func := "roundtable/roundtablelaw11.TaskCovers", spec := "taskCovers", unfollowed := true, recurses := true, apart := false, narrowed := true }
def TaskCoversUptoSaid : Prop := taskCoversUptoRow.holds Tryz.pinned (OpenSpec.upto taskCoversSpec)

end Rows
end Go.Proofs.YtbiikomnhkbblaaGreat
