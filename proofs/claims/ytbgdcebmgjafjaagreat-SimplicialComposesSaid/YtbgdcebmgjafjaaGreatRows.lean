/-
  No cell of these rows narrows 'for every input' (looked for: loops, veiled, ifaces, maps, wideKeys, modest, calm, conditions, laid).
  DERIVED. THE GIVEN ROWS OF THIS SEAT. 6 by the template 'for every input the law returns true; each argument reads behind the call as it read before'; 0 by the template 'total and deterministic' (their statements: YtbgdcebmgjafjaaGreatTotals.lean).
  GIVEN WITH THE SEED: the statements are not yours to turn. If you find one false, say at which input.
  Laid BY PROGRAM, IN A SANDBOX (cutbox-rows.mjs): the forced cells as the released guide's own fill.sh prints them over the translation 8ea479b03d0eef13… (all of the seat's roots in one cut). By AI agents, Wed Nov 11 2026. No macro, syntax, notation, axiom, sorry.
-/
import Derived.Test.YtbgdcebmgjafjaaGreatChecked
import GoSem.Claim
import GoSem.ClaimJoined
import GoSem.ClaimMapViews
import Derived.JoinedTies
import Derived.KernelRfl
namespace Go.Proofs.YtbgdcebmgjafjaaGreat
/- THE CELL 'sum', in the pinned program and in every row, IS THE sha256 OF THE DUMP (.gsa) THAT YtbgdcebmgjafjaaGreatProg.lean LOADS. Nothing in Lean hashes anything: it is a label: what it is worth is what the hold of that sum in a sandbox is worth. -/
noncomputable def Tryz.pinned : Pinned := { name := "ytbgdcebmgjafjaagreat", sum := "8ea479b03d0eef13fac85b809e20d80d0cbe7d6f3403c8eb9015f9acfd990ce2", checked := Tryz.checked }
namespace Rows
def none {H : Type} : Left H := { results := [], args := [] }

/-- 'roundtablelaw33.SimplicialMaps': WHATEVER THE INPUT: true; the input reads as it did. -/
def simplicialMapsSpec : ChangeSpec := { name := "simplicialMaps", fn := fun _ => fun
  | [d1, d2, d3] => { results := [.lit (.bool true)], args := [d1, d2, d3] }
  | _ => none }
def simplicialMapsRow : OpenClaim := { program := "ytbgdcebmgjafjaagreat", sum := "8ea479b03d0eef13fac85b809e20d80d0cbe7d6f3403c8eb9015f9acfd990ce2", func := "roundtable/roundtablelaw33.SimplicialMaps", spec := "simplicialMaps", unfollowed := true, recurses := true, plainKeys := false, apart := false }
def SimplicialMapsSaid : Prop := simplicialMapsRow.holds Tryz.pinned (OpenSpec.ofChange simplicialMapsSpec)

/-- ITS FALSE NEIGHBOUR: 'it returns false'. Refute it at one input. -/
def simplicialMapsWrong : ChangeSpec := { name := "simplicialMaps", fn := fun _ => fun
  | [d1, d2, d3] => { results := [.lit (.bool false)], args := [d1, d2, d3] }
  | _ => none }
def SimplicialMapsWrongFalsely : Prop := simplicialMapsRow.holds Tryz.pinned (OpenSpec.ofChange simplicialMapsWrong)

/-- 'roundtablelaw33.SimplicialInduces': WHATEVER THE INPUT: true; the input reads as it did. -/
def simplicialInducesSpec : ChangeSpec := { name := "simplicialInduces", fn := fun _ => fun
  | [d1, d2, d3] => { results := [.lit (.bool true)], args := [d1, d2, d3] }
  | _ => none }
def simplicialInducesRow : OpenClaim := { program := "ytbgdcebmgjafjaagreat", sum := "8ea479b03d0eef13fac85b809e20d80d0cbe7d6f3403c8eb9015f9acfd990ce2", func := "roundtable/roundtablelaw33.SimplicialInduces", spec := "simplicialInduces", unfollowed := true, recurses := true, plainKeys := false, apart := false }
def SimplicialInducesSaid : Prop := simplicialInducesRow.holds Tryz.pinned (OpenSpec.ofChange simplicialInducesSpec)

/-- ITS FALSE NEIGHBOUR: 'it returns false'. Refute it at one input. -/
def simplicialInducesWrong : ChangeSpec := { name := "simplicialInduces", fn := fun _ => fun
  | [d1, d2, d3] => { results := [.lit (.bool false)], args := [d1, d2, d3] }
  | _ => none }
def SimplicialInducesWrongFalsely : Prop := simplicialInducesRow.holds Tryz.pinned (OpenSpec.ofChange simplicialInducesWrong)

/-- 'roundtablelaw33.SimplicialApplies': WHATEVER THE INPUT: true; the input reads as it did. -/
def simplicialAppliesSpec : ChangeSpec := { name := "simplicialApplies", fn := fun _ => fun
  | [d1, d2, d3] => { results := [.lit (.bool true)], args := [d1, d2, d3] }
  | _ => none }
def simplicialAppliesRow : OpenClaim := { program := "ytbgdcebmgjafjaagreat", sum := "8ea479b03d0eef13fac85b809e20d80d0cbe7d6f3403c8eb9015f9acfd990ce2", func := "roundtable/roundtablelaw33.SimplicialApplies", spec := "simplicialApplies", unfollowed := true, recurses := true, plainKeys := false, apart := false }
def SimplicialAppliesSaid : Prop := simplicialAppliesRow.holds Tryz.pinned (OpenSpec.ofChange simplicialAppliesSpec)

/-- ITS FALSE NEIGHBOUR: 'it returns false'. Refute it at one input. -/
def simplicialAppliesWrong : ChangeSpec := { name := "simplicialApplies", fn := fun _ => fun
  | [d1, d2, d3] => { results := [.lit (.bool false)], args := [d1, d2, d3] }
  | _ => none }
def SimplicialAppliesWrongFalsely : Prop := simplicialAppliesRow.holds Tryz.pinned (OpenSpec.ofChange simplicialAppliesWrong)

/-- 'roundtablelaw33.SimplicialKeeps': WHATEVER THE INPUT: true; the input reads as it did. -/
def simplicialKeepsSpec : ChangeSpec := { name := "simplicialKeeps", fn := fun _ => fun
  | [d1, d2] => { results := [.lit (.bool true)], args := [d1, d2] }
  | _ => none }
def simplicialKeepsRow : OpenClaim := { program := "ytbgdcebmgjafjaagreat", sum := "8ea479b03d0eef13fac85b809e20d80d0cbe7d6f3403c8eb9015f9acfd990ce2", func := "roundtable/roundtablelaw33.SimplicialKeeps", spec := "simplicialKeeps", unfollowed := true, recurses := true, plainKeys := false, apart := false }
def SimplicialKeepsSaid : Prop := simplicialKeepsRow.holds Tryz.pinned (OpenSpec.ofChange simplicialKeepsSpec)

/-- ITS FALSE NEIGHBOUR: 'it returns false'. Refute it at one input. -/
def simplicialKeepsWrong : ChangeSpec := { name := "simplicialKeeps", fn := fun _ => fun
  | [d1, d2] => { results := [.lit (.bool false)], args := [d1, d2] }
  | _ => none }
def SimplicialKeepsWrongFalsely : Prop := simplicialKeepsRow.holds Tryz.pinned (OpenSpec.ofChange simplicialKeepsWrong)

/-- 'roundtablelaw33.SimplicialFaces': WHATEVER THE INPUT: true; the input reads as it did. -/
def simplicialFacesSpec : ChangeSpec := { name := "simplicialFaces", fn := fun _ => fun
  | [d1, d2] => { results := [.lit (.bool true)], args := [d1, d2] }
  | _ => none }
def simplicialFacesRow : OpenClaim := { program := "ytbgdcebmgjafjaagreat", sum := "8ea479b03d0eef13fac85b809e20d80d0cbe7d6f3403c8eb9015f9acfd990ce2", func := "roundtable/roundtablelaw33.SimplicialFaces", spec := "simplicialFaces", unfollowed := true, recurses := true, plainKeys := false, apart := false }
def SimplicialFacesSaid : Prop := simplicialFacesRow.holds Tryz.pinned (OpenSpec.ofChange simplicialFacesSpec)

/-- ITS FALSE NEIGHBOUR: 'it returns false'. Refute it at one input. -/
def simplicialFacesWrong : ChangeSpec := { name := "simplicialFaces", fn := fun _ => fun
  | [d1, d2] => { results := [.lit (.bool false)], args := [d1, d2] }
  | _ => none }
def SimplicialFacesWrongFalsely : Prop := simplicialFacesRow.holds Tryz.pinned (OpenSpec.ofChange simplicialFacesWrong)

/-- 'roundtablelaw33.SimplicialComposes': WHATEVER THE INPUT: true; the input reads as it did. -/
def simplicialComposesSpec : ChangeSpec := { name := "simplicialComposes", fn := fun _ => fun
  | [d1, d2, d3] => { results := [.lit (.bool true)], args := [d1, d2, d3] }
  | _ => none }
def simplicialComposesRow : OpenClaim := { program := "ytbgdcebmgjafjaagreat", sum := "8ea479b03d0eef13fac85b809e20d80d0cbe7d6f3403c8eb9015f9acfd990ce2", func := "roundtable/roundtablelaw33.SimplicialComposes", spec := "simplicialComposes", unfollowed := true, recurses := true, plainKeys := false, apart := false }
def SimplicialComposesSaid : Prop := simplicialComposesRow.holds Tryz.pinned (OpenSpec.ofChange simplicialComposesSpec)

/-- ITS FALSE NEIGHBOUR: 'it returns false'. Refute it at one input. -/
def simplicialComposesWrong : ChangeSpec := { name := "simplicialComposes", fn := fun _ => fun
  | [d1, d2, d3] => { results := [.lit (.bool false)], args := [d1, d2, d3] }
  | _ => none }
def SimplicialComposesWrongFalsely : Prop := simplicialComposesRow.holds Tryz.pinned (OpenSpec.ofChange simplicialComposesWrong)

/- THE SECOND FORM. 'bulk': how many values and letters a reading holds, each counted each time it is reached (what is shared counts as often as it is met; a slice's spare places count too). A statement '..UptoSaid' is the law's where the arguments, and the package variables that the reading takes, are together of bulk at most 1048576: NARROWER than '..Said'. Prove '..Said' where nothing that the law and all that it calls make is longer than what came in: it says more and counts as full. Else prove '..UptoSaid'. A law counts once. -/
mutual
def uptoBulk {H : Type} : DataW H → Nat
  | .lit (.string bytes) => bytes.length + 1
  | .lit _ => 1
  | .nil => 1
  | .ptr d => uptoBulk d + 1
  | .slice elems spare => uptoBulkAll elems + uptoBulkAll spare + 1
  | .agg parts => uptoBulkAll parts + 1
  | .iface _ d => uptoBulk d + 1
  | .map entries => uptoBulkEntries entries + 1
  | .held _ => 1
def uptoBulkAll {H : Type} : List (DataW H) → Nat
  | [] => 0
  | d :: r => uptoBulk d + uptoBulkAll r
def uptoBulkEntries {H : Type} : List (Lit × DataW H) → Nat
  | [] => 0
  | x :: r => uptoBulkEntry x + uptoBulkEntries r
def uptoBulkEntry {H : Type} : Lit × DataW H → Nat
  | (.string bytes, d) => bytes.length + uptoBulk d + 1
  | (_, d) => uptoBulk d + 1
 end
def uptoSmall : (H : Type) → List (DataW H) → Bool := fun _ ds => decide (uptoBulkAll ds ≤ 1048576)
def OpenSpec.upto (s : _root_.Go.ChangeSpec) : _root_.Go.OpenSpec := { _root_.Go.OpenSpec.ofChange s with cond := some uptoSmall }

/-- 'roundtablelaw33.SimplicialMaps', WHERE WHAT IT READS IS OF BULK AT MOST 1048576: true; the input reads as it did. -/
def simplicialMapsUptoRow : OpenClaim := { program := "ytbgdcebmgjafjaagreat", sum := "8ea479b03d0eef13fac85b809e20d80d0cbe7d6f3403c8eb9015f9acfd990ce2", func := "roundtable/roundtablelaw33.SimplicialMaps", spec := "simplicialMaps", unfollowed := true, recurses := true, plainKeys := false, apart := false, narrowed := true }
def SimplicialMapsUptoSaid : Prop := simplicialMapsUptoRow.holds Tryz.pinned (OpenSpec.upto simplicialMapsSpec)

/-- 'roundtablelaw33.SimplicialInduces', WHERE WHAT IT READS IS OF BULK AT MOST 1048576: true; the input reads as it did. -/
def simplicialInducesUptoRow : OpenClaim := { program := "ytbgdcebmgjafjaagreat", sum := "8ea479b03d0eef13fac85b809e20d80d0cbe7d6f3403c8eb9015f9acfd990ce2", func := "roundtable/roundtablelaw33.SimplicialInduces", spec := "simplicialInduces", unfollowed := true, recurses := true, plainKeys := false, apart := false, narrowed := true }
def SimplicialInducesUptoSaid : Prop := simplicialInducesUptoRow.holds Tryz.pinned (OpenSpec.upto simplicialInducesSpec)

/-- 'roundtablelaw33.SimplicialApplies', WHERE WHAT IT READS IS OF BULK AT MOST 1048576: true; the input reads as it did. -/
def simplicialAppliesUptoRow : OpenClaim := { program := "ytbgdcebmgjafjaagreat", sum := "8ea479b03d0eef13fac85b809e20d80d0cbe7d6f3403c8eb9015f9acfd990ce2", func := "roundtable/roundtablelaw33.SimplicialApplies", spec := "simplicialApplies", unfollowed := true, recurses := true, plainKeys := false, apart := false, narrowed := true }
def SimplicialAppliesUptoSaid : Prop := simplicialAppliesUptoRow.holds Tryz.pinned (OpenSpec.upto simplicialAppliesSpec)

/-- 'roundtablelaw33.SimplicialKeeps', WHERE WHAT IT READS IS OF BULK AT MOST 1048576: true; the input reads as it did. -/
def simplicialKeepsUptoRow : OpenClaim := { program := "ytbgdcebmgjafjaagreat", sum := "8ea479b03d0eef13fac85b809e20d80d0cbe7d6f3403c8eb9015f9acfd990ce2", func := "roundtable/roundtablelaw33.SimplicialKeeps", spec := "simplicialKeeps", unfollowed := true, recurses := true, plainKeys := false, apart := false, narrowed := true }
def SimplicialKeepsUptoSaid : Prop := simplicialKeepsUptoRow.holds Tryz.pinned (OpenSpec.upto simplicialKeepsSpec)

/-- 'roundtablelaw33.SimplicialFaces', WHERE WHAT IT READS IS OF BULK AT MOST 1048576: true; the input reads as it did. -/
def simplicialFacesUptoRow : OpenClaim := { program := "ytbgdcebmgjafjaagreat", sum := "8ea479b03d0eef13fac85b809e20d80d0cbe7d6f3403c8eb9015f9acfd990ce2", func := "roundtable/roundtablelaw33.SimplicialFaces", spec := "simplicialFaces", unfollowed := true, recurses := true, plainKeys := false, apart := false, narrowed := true }
def SimplicialFacesUptoSaid : Prop := simplicialFacesUptoRow.holds Tryz.pinned (OpenSpec.upto simplicialFacesSpec)

/-- 'roundtablelaw33.SimplicialComposes', WHERE WHAT IT READS IS OF BULK AT MOST 1048576: true; the input reads as it did. -/
def simplicialComposesUptoRow : OpenClaim := { program := "ytbgdcebmgjafjaagreat", sum := "8ea479b03d0eef13fac85b809e20d80d0cbe7d6f3403c8eb9015f9acfd990ce2", func := "roundtable/roundtablelaw33.SimplicialComposes", spec := "simplicialComposes", unfollowed := true, recurses := true, plainKeys := false, apart := false, narrowed := true }
def SimplicialComposesUptoSaid : Prop := simplicialComposesUptoRow.holds Tryz.pinned (OpenSpec.upto simplicialComposesSpec)

end Rows
end Go.Proofs.YtbgdcebmgjafjaaGreat
