/-
  No cell of these rows narrows 'for every input' (looked for: loops, veiled, ifaces, maps, wideKeys, modest, calm, conditions, laid).
  DERIVED. THE GIVEN ROWS OF THIS SEAT. 8 by the template 'for every input the law returns true; each argument reads behind the call as it read before'; 0 by the template 'total and deterministic' (their statements: YtjgpfclngkcedaaGreatTotals.lean).
  GIVEN WITH THE SEED: the statements are not yours to turn. If you find one false, say at which input.
  Laid BY PROGRAM, IN A SANDBOX (cutbox-rows.mjs): the forced cells as the released guide's own fill.sh prints them over the translation 095007af750a4d71… (all of the seat's roots in one cut). By AI agents, Wed Nov 11 2026. No macro, syntax, notation, axiom, sorry.
-/
import Derived.Test.YtjgpfclngkcedaaGreatChecked
import GoSem.Claim
import GoSem.ClaimJoined
import GoSem.ClaimMapViews
import Derived.JoinedTies
import Derived.KernelRfl
namespace Go.Proofs.YtjgpfclngkcedaaGreat
/- THE CELL 'sum', in the pinned program and in every row, IS THE sha256 OF THE DUMP (.gsa) THAT YtjgpfclngkcedaaGreatProg.lean LOADS. Nothing in Lean hashes anything: it is a label: what it is worth is what the hold of that sum in a sandbox is worth. -/
noncomputable def Tryz.pinned : Pinned := { name := "ytjgpfclngkcedaagreat", sum := "095007af750a4d7103488b332643cca397f48684d8f6f27dd583fa3d7400138c", checked := Tryz.checked }
namespace Rows
def none {H : Type} : Left H := { results := [], args := [] }

/-- 'roundtablelaw14.RelateCompares': WHATEVER THE INPUT: true; the input reads as it did. -/
def relateComparesSpec : ChangeSpec := { name := "relateCompares", fn := fun _ => fun
  | [d1, d2] => { results := [.lit (.bool true)], args := [d1, d2] }
  | _ => none }
def relateComparesRow : OpenClaim := { program := "ytjgpfclngkcedaagreat", sum := "095007af750a4d7103488b332643cca397f48684d8f6f27dd583fa3d7400138c", func := "roundtable/roundtablelaw14.RelateCompares", spec := "relateCompares", unfollowed := true, recurses := true, apart := false }
def RelateComparesSaid : Prop := relateComparesRow.holds Tryz.pinned (OpenSpec.ofChange relateComparesSpec)

/-- ITS FALSE NEIGHBOUR: 'it returns false'. Refute it at one input. -/
def relateComparesWrong : ChangeSpec := { name := "relateCompares", fn := fun _ => fun
  | [d1, d2] => { results := [.lit (.bool false)], args := [d1, d2] }
  | _ => none }
def RelateComparesWrongFalsely : Prop := relateComparesRow.holds Tryz.pinned (OpenSpec.ofChange relateComparesWrong)

/-- 'roundtablelaw14.RelateCombines': WHATEVER THE INPUT: true; the input reads as it did. -/
def relateCombinesSpec : ChangeSpec := { name := "relateCombines", fn := fun _ => fun
  | [d1, d2] => { results := [.lit (.bool true)], args := [d1, d2] }
  | _ => none }
def relateCombinesRow : OpenClaim := { program := "ytjgpfclngkcedaagreat", sum := "095007af750a4d7103488b332643cca397f48684d8f6f27dd583fa3d7400138c", func := "roundtable/roundtablelaw14.RelateCombines", spec := "relateCombines", unfollowed := true, recurses := true, apart := false }
def RelateCombinesSaid : Prop := relateCombinesRow.holds Tryz.pinned (OpenSpec.ofChange relateCombinesSpec)

/-- ITS FALSE NEIGHBOUR: 'it returns false'. Refute it at one input. -/
def relateCombinesWrong : ChangeSpec := { name := "relateCombines", fn := fun _ => fun
  | [d1, d2] => { results := [.lit (.bool false)], args := [d1, d2] }
  | _ => none }
def RelateCombinesWrongFalsely : Prop := relateCombinesRow.holds Tryz.pinned (OpenSpec.ofChange relateCombinesWrong)

/-- 'roundtablelaw14.RelateMultiplies': WHATEVER THE INPUT: true; the input reads as it did. -/
def relateMultipliesSpec : ChangeSpec := { name := "relateMultiplies", fn := fun _ => fun
  | [d1, d2] => { results := [.lit (.bool true)], args := [d1, d2] }
  | _ => none }
def relateMultipliesRow : OpenClaim := { program := "ytjgpfclngkcedaagreat", sum := "095007af750a4d7103488b332643cca397f48684d8f6f27dd583fa3d7400138c", func := "roundtable/roundtablelaw14.RelateMultiplies", spec := "relateMultiplies", unfollowed := true, recurses := true, apart := false }
def RelateMultipliesSaid : Prop := relateMultipliesRow.holds Tryz.pinned (OpenSpec.ofChange relateMultipliesSpec)

/-- ITS FALSE NEIGHBOUR: 'it returns false'. Refute it at one input. -/
def relateMultipliesWrong : ChangeSpec := { name := "relateMultiplies", fn := fun _ => fun
  | [d1, d2] => { results := [.lit (.bool false)], args := [d1, d2] }
  | _ => none }
def RelateMultipliesWrongFalsely : Prop := relateMultipliesRow.holds Tryz.pinned (OpenSpec.ofChange relateMultipliesWrong)

/-- 'roundtablelaw14.RelateRelabels': WHATEVER THE INPUT: true; the input reads as it did. -/
def relateRelabelsSpec : ChangeSpec := { name := "relateRelabels", fn := fun _ => fun
  | [d1, d2, d3] => { results := [.lit (.bool true)], args := [d1, d2, d3] }
  | _ => none }
def relateRelabelsRow : OpenClaim := { program := "ytjgpfclngkcedaagreat", sum := "095007af750a4d7103488b332643cca397f48684d8f6f27dd583fa3d7400138c", func := "roundtable/roundtablelaw14.RelateRelabels", spec := "relateRelabels", unfollowed := true, recurses := true, apart := false }
def RelateRelabelsSaid : Prop := relateRelabelsRow.holds Tryz.pinned (OpenSpec.ofChange relateRelabelsSpec)

/-- ITS FALSE NEIGHBOUR: 'it returns false'. Refute it at one input. -/
def relateRelabelsWrong : ChangeSpec := { name := "relateRelabels", fn := fun _ => fun
  | [d1, d2, d3] => { results := [.lit (.bool false)], args := [d1, d2, d3] }
  | _ => none }
def RelateRelabelsWrongFalsely : Prop := relateRelabelsRow.holds Tryz.pinned (OpenSpec.ofChange relateRelabelsWrong)

/-- 'roundtablelaw14.RelateBounds': WHATEVER THE INPUT: true; the input reads as it did. -/
def relateBoundsSpec : ChangeSpec := { name := "relateBounds", fn := fun _ => fun
  | [d1, d2] => { results := [.lit (.bool true)], args := [d1, d2] }
  | _ => none }
def relateBoundsRow : OpenClaim := { program := "ytjgpfclngkcedaagreat", sum := "095007af750a4d7103488b332643cca397f48684d8f6f27dd583fa3d7400138c", func := "roundtable/roundtablelaw14.RelateBounds", spec := "relateBounds", unfollowed := true, recurses := true, apart := false }
def RelateBoundsSaid : Prop := relateBoundsRow.holds Tryz.pinned (OpenSpec.ofChange relateBoundsSpec)

/-- ITS FALSE NEIGHBOUR: 'it returns false'. Refute it at one input. -/
def relateBoundsWrong : ChangeSpec := { name := "relateBounds", fn := fun _ => fun
  | [d1, d2] => { results := [.lit (.bool false)], args := [d1, d2] }
  | _ => none }
def RelateBoundsWrongFalsely : Prop := relateBoundsRow.holds Tryz.pinned (OpenSpec.ofChange relateBoundsWrong)

/-- 'roundtablelaw14.RelateProjects': WHATEVER THE INPUT: true; the input reads as it did. -/
def relateProjectsSpec : ChangeSpec := { name := "relateProjects", fn := fun _ => fun
  | [d1, d2] => { results := [.lit (.bool true)], args := [d1, d2] }
  | _ => none }
def relateProjectsRow : OpenClaim := { program := "ytjgpfclngkcedaagreat", sum := "095007af750a4d7103488b332643cca397f48684d8f6f27dd583fa3d7400138c", func := "roundtable/roundtablelaw14.RelateProjects", spec := "relateProjects", unfollowed := true, recurses := true, apart := false }
def RelateProjectsSaid : Prop := relateProjectsRow.holds Tryz.pinned (OpenSpec.ofChange relateProjectsSpec)

/-- ITS FALSE NEIGHBOUR: 'it returns false'. Refute it at one input. -/
def relateProjectsWrong : ChangeSpec := { name := "relateProjects", fn := fun _ => fun
  | [d1, d2] => { results := [.lit (.bool false)], args := [d1, d2] }
  | _ => none }
def RelateProjectsWrongFalsely : Prop := relateProjectsRow.holds Tryz.pinned (OpenSpec.ofChange relateProjectsWrong)

/-- 'roundtablelaw14.RelateKeeps': WHATEVER THE INPUT: true; the input reads as it did. -/
def relateKeepsSpec : ChangeSpec := { name := "relateKeeps", fn := fun _ => fun
  | [d1, d2, d3] => { results := [.lit (.bool true)], args := [d1, d2, d3] }
  | _ => none }
def relateKeepsRow : OpenClaim := { program := "ytjgpfclngkcedaagreat", sum := "095007af750a4d7103488b332643cca397f48684d8f6f27dd583fa3d7400138c", func := "roundtable/roundtablelaw14.RelateKeeps", spec := "relateKeeps", unfollowed := true, recurses := true, apart := false }
def RelateKeepsSaid : Prop := relateKeepsRow.holds Tryz.pinned (OpenSpec.ofChange relateKeepsSpec)

/-- ITS FALSE NEIGHBOUR: 'it returns false'. Refute it at one input. -/
def relateKeepsWrong : ChangeSpec := { name := "relateKeeps", fn := fun _ => fun
  | [d1, d2, d3] => { results := [.lit (.bool false)], args := [d1, d2, d3] }
  | _ => none }
def RelateKeepsWrongFalsely : Prop := relateKeepsRow.holds Tryz.pinned (OpenSpec.ofChange relateKeepsWrong)

/-- 'roundtablelaw14.RelateOrders': WHATEVER THE INPUT: true; the input reads as it did. -/
def relateOrdersSpec : ChangeSpec := { name := "relateOrders", fn := fun _ => fun
  | [d1, d2, d3] => { results := [.lit (.bool true)], args := [d1, d2, d3] }
  | _ => none }
def relateOrdersRow : OpenClaim := { program := "ytjgpfclngkcedaagreat", sum := "095007af750a4d7103488b332643cca397f48684d8f6f27dd583fa3d7400138c", func := "roundtable/roundtablelaw14.RelateOrders", spec := "relateOrders", unfollowed := true, recurses := true, apart := false }
def RelateOrdersSaid : Prop := relateOrdersRow.holds Tryz.pinned (OpenSpec.ofChange relateOrdersSpec)

/-- ITS FALSE NEIGHBOUR: 'it returns false'. Refute it at one input. -/
def relateOrdersWrong : ChangeSpec := { name := "relateOrders", fn := fun _ => fun
  | [d1, d2, d3] => { results := [.lit (.bool false)], args := [d1, d2, d3] }
  | _ => none }
def RelateOrdersWrongFalsely : Prop := relateOrdersRow.holds Tryz.pinned (OpenSpec.ofChange relateOrdersWrong)

/- THE SECOND FORM. 'bulk': how many values and letters a reading holds, each counted each time it is reached (what is shared counts as often as it is met; a slice's spare places count too). A statement '..UptoSaid' is the law's where the arguments, and the package variables that the reading takes, are together of bulk at most 1048576: NARROWER than '..Said'. Prove '..Said' where nothing that the law and all that it calls make is longer than what came in: it says more and counts as full. Else prove '..UptoSaid'. A law counts once. -/
mutual
def uptoBulk {H : Type} : DataW H → Nat
  | .lit (.string bytes) => bytes.length + 1
  | .lit _ => 1
  | .nil => 1
  | .ptr d => uptoBulk d + 1
  | .slice elems spare => uptoBulkAll elems + uptoBulkAll spare + 1
  | .agg parts => uptoBulkAll parts + 1
  | .iface _ d => uptoBulk d + 1
  | .map entries => uptoBulkEntries entries + 1
  | .held _ => 1
def uptoBulkAll {H : Type} : List (DataW H) → Nat
  | [] => 0
  | d :: r => uptoBulk d + uptoBulkAll r
def uptoBulkEntries {H : Type} : List (Lit × DataW H) → Nat
  | [] => 0
  | x :: r => uptoBulkEntry x + uptoBulkEntries r
def uptoBulkEntry {H : Type} : Lit × DataW H → Nat
  | (.string bytes, d) => bytes.length + uptoBulk d + 1
  | (_, d) => uptoBulk d + 1
 end
def uptoSmall : (H : Type) → List (DataW H) → Bool := fun _ ds => decide (uptoBulkAll ds ≤ 1048576)
def OpenSpec.upto (s : _root_.Go.ChangeSpec) : _root_.Go.OpenSpec := { _root_.Go.OpenSpec.ofChange s with cond := some uptoSmall }

/-- 'roundtablelaw14.RelateCompares', WHERE WHAT IT READS IS OF BULK AT MOST 1048576: true; the input reads as it did. -/
def relateComparesUptoRow : OpenClaim := { program := "ytjgpfclngkcedaagreat", sum := "095007af750a4d7103488b332643cca397f48684d8f6f27dd583fa3d7400138c", func := "roundtable/roundtablelaw14.RelateCompares", spec := "relateCompares", unfollowed := true, recurses := true, apart := false, narrowed := true }
def RelateComparesUptoSaid : Prop := relateComparesUptoRow.holds Tryz.pinned (OpenSpec.upto relateComparesSpec)

/-- 'roundtablelaw14.RelateCombines', WHERE WHAT IT READS IS OF BULK AT MOST 1048576: true; the input reads as it did. -/
def relateCombinesUptoRow : OpenClaim := { program := "ytjgpfclngkcedaagreat", sum := "095007af750a4d7103488b332643cca397f48684d8f6f27dd583fa3d7400138c", func := "roundtable/roundtablelaw14.RelateCombines", spec := "relateCombines", unfollowed := true, recurses := true, apart := false, narrowed := true }
def RelateCombinesUptoSaid : Prop := relateCombinesUptoRow.holds Tryz.pinned (OpenSpec.upto relateCombinesSpec)

/-- 'roundtablelaw14.RelateMultiplies', WHERE WHAT IT READS IS OF BULK AT MOST 1048576: true; the input reads as it did. -/
def relateMultipliesUptoRow : OpenClaim := { program := "ytjgpfclngkcedaagreat", sum := "095007af750a4d7103488b332643cca397f48684d8f6f27dd583fa3d7400138c", func := "roundtable/roundtablelaw14.RelateMultiplies", spec := "relateMultiplies", unfollowed := true, recurses := true, apart := false, narrowed := true }
def RelateMultipliesUptoSaid : Prop := relateMultipliesUptoRow.holds Tryz.pinned (OpenSpec.upto relateMultipliesSpec)

/-- 'roundtablelaw14.RelateRelabels', WHERE WHAT IT READS IS OF BULK AT MOST 1048576: true; the input reads as it did. -/
def relateRelabelsUptoRow : OpenClaim := { program := "ytjgpfclngkcedaagreat", sum := "095007af750a4d7103488b332643cca397f48684d8f6f27dd583fa3d7400138c", func := "roundtable/roundtablelaw14.RelateRelabels", spec := "relateRelabels", unfollowed := true, recurses := true, apart := false, narrowed := true }
def RelateRelabelsUptoSaid : Prop := relateRelabelsUptoRow.holds Tryz.pinned (OpenSpec.upto relateRelabelsSpec)

/-- 'roundtablelaw14.RelateBounds', WHERE WHAT IT READS IS OF BULK AT MOST 1048576: true; the input reads as it did. -/
def relateBoundsUptoRow : OpenClaim := { program := "ytjgpfclngkcedaagreat", sum := "095007af750a4d7103488b332643cca397f48684d8f6f27dd583fa3d7400138c", func := "roundtable/roundtablelaw14.RelateBounds", spec := "relateBounds", unfollowed := true, recurses := true, apart := false, narrowed := true }
def RelateBoundsUptoSaid : Prop := relateBoundsUptoRow.holds Tryz.pinned (OpenSpec.upto relateBoundsSpec)

/-- 'roundtablelaw14.RelateProjects', WHERE WHAT IT READS IS OF BULK AT MOST 1048576: true; the input reads as it did. -/
def relateProjectsUptoRow : OpenClaim := { program := "ytjgpfclngkcedaagreat", sum := "095007af750a4d7103488b332643cca397f48684d8f6f27dd583fa3d7400138c", func := "roundtable/roundtablelaw14.RelateProjects", spec := "relateProjects", unfollowed := true, recurses := true, apart := false, narrowed := true }
def RelateProjectsUptoSaid : Prop := relateProjectsUptoRow.holds Tryz.pinned (OpenSpec.upto relateProjectsSpec)

/-- 'roundtablelaw14.RelateKeeps', WHERE WHAT IT READS IS OF BULK AT MOST 1048576: true; the input reads as it did. -/
def relateKeepsUptoRow : OpenClaim := { program := "ytjgpfclngkcedaagreat", sum := "095007af750a4d7103488b332643cca397f48684d8f6f27dd583fa3d7400138c", func := "roundtable/roundtablelaw14.RelateKeeps", spec := "relateKeeps", unfollowed := true, recurses := true, apart := false, narrowed := true }
def RelateKeepsUptoSaid : Prop := relateKeepsUptoRow.holds Tryz.pinned (OpenSpec.upto relateKeepsSpec)

/-- 'roundtablelaw14.RelateOrders', WHERE WHAT IT READS IS OF BULK AT MOST 1048576: true; the input reads as it did. -/
def relateOrdersUptoRow : OpenClaim := { program := "ytjgpfclngkcedaagreat", sum := "095007af750a4d7103488b332643cca397f48684d8f6f27dd583fa3d7400138c", func := "roundtable/roundtablelaw14.RelateOrders", spec := "relateOrders", unfollowed := true, recurses := true, apart := false, narrowed := true }
def RelateOrdersUptoSaid : Prop := relateOrdersUptoRow.holds Tryz.pinned (OpenSpec.upto relateOrdersSpec)

end Rows
end Go.Proofs.YtjgpfclngkcedaaGreat
