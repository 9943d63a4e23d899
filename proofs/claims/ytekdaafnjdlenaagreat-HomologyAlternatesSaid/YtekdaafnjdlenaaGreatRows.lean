/-
  No cell of these rows narrows 'for every input' (looked for: loops, veiled, ifaces, maps, wideKeys, modest, calm, conditions, laid).
  DERIVED. THE GIVEN ROWS OF THIS SEAT. 8 by the template 'for every input the law returns true; each argument reads behind the call as it read before'; 0 by the template 'total and deterministic' (their statements: YtekdaafnjdlenaaGreatTotals.lean).
  GIVEN WITH THE SEED: the statements are not yours to turn. If you find one false, say at which input.
  Laid BY PROGRAM, IN A SANDBOX (cutbox-rows.mjs): the forced cells as the released guide's own fill.sh prints them over the translation 1fb759f3e7c71a9a… (all of the seat's roots in one cut). By AI agents, Wed Nov 11 2026. No macro, syntax, notation, axiom, sorry.
-/
import Derived.Test.YtekdaafnjdlenaaGreatChecked
import GoSem.Claim
import GoSem.ClaimJoined
import GoSem.ClaimMapViews
import Derived.JoinedTies
import Derived.KernelRfl
namespace Go.Proofs.YtekdaafnjdlenaaGreat
/- THE CELL 'sum', in the pinned program and in every row, IS THE sha256 OF THE DUMP (.gsa) THAT YtekdaafnjdlenaaGreatProg.lean LOADS. Nothing in Lean hashes anything: it is a label: what it is worth is what the hold of that sum in a sandbox is worth. -/
noncomputable def Tryz.pinned : Pinned := { name := "ytekdaafnjdlenaagreat", sum := "1fb759f3e7c71a9a1eb4889e7042f48a4d62f61e0930b61619fc787578fcceb5", checked := Tryz.checked }
namespace Rows
def none {H : Type} : Left H := { results := [], args := [] }

/-- 'roundtablelaw31.HomologyCounts': WHATEVER THE INPUT: true; the input reads as it did. -/
def homologyCountsSpec : ChangeSpec := { name := "homologyCounts", fn := fun _ => fun
  | [d1, d2] => { results := [.lit (.bool true)], args := [d1, d2] }
  | _ => none }
def homologyCountsRow : OpenClaim := { program := "ytekdaafnjdlenaagreat", sum := "1fb759f3e7c71a9a1eb4889e7042f48a4d62f61e0930b61619fc787578fcceb5", func := "roundtable/roundtablelaw31.HomologyCounts", spec := "homologyCounts", unfollowed := true, recurses := true, plainKeys := false, apart := false }
def HomologyCountsSaid : Prop := homologyCountsRow.holds Tryz.pinned (OpenSpec.ofChange homologyCountsSpec)

/-- ITS FALSE NEIGHBOUR: 'it returns false'. Refute it at one input. -/
def homologyCountsWrong : ChangeSpec := { name := "homologyCounts", fn := fun _ => fun
  | [d1, d2] => { results := [.lit (.bool false)], args := [d1, d2] }
  | _ => none }
def HomologyCountsWrongFalsely : Prop := homologyCountsRow.holds Tryz.pinned (OpenSpec.ofChange homologyCountsWrong)

/-- 'roundtablelaw31.HomologyCycles': WHATEVER THE INPUT: true; the input reads as it did. -/
def homologyCyclesSpec : ChangeSpec := { name := "homologyCycles", fn := fun _ => fun
  | [d1, d2] => { results := [.lit (.bool true)], args := [d1, d2] }
  | _ => none }
def homologyCyclesRow : OpenClaim := { program := "ytekdaafnjdlenaagreat", sum := "1fb759f3e7c71a9a1eb4889e7042f48a4d62f61e0930b61619fc787578fcceb5", func := "roundtable/roundtablelaw31.HomologyCycles", spec := "homologyCycles", unfollowed := true, recurses := true, plainKeys := false, apart := false }
def HomologyCyclesSaid : Prop := homologyCyclesRow.holds Tryz.pinned (OpenSpec.ofChange homologyCyclesSpec)

/-- ITS FALSE NEIGHBOUR: 'it returns false'. Refute it at one input. -/
def homologyCyclesWrong : ChangeSpec := { name := "homologyCycles", fn := fun _ => fun
  | [d1, d2] => { results := [.lit (.bool false)], args := [d1, d2] }
  | _ => none }
def HomologyCyclesWrongFalsely : Prop := homologyCyclesRow.holds Tryz.pinned (OpenSpec.ofChange homologyCyclesWrong)

/-- 'roundtablelaw31.HomologyBounds': WHATEVER THE INPUT: true; the input reads as it did. -/
def homologyBoundsSpec : ChangeSpec := { name := "homologyBounds", fn := fun _ => fun
  | [d1, d2] => { results := [.lit (.bool true)], args := [d1, d2] }
  | _ => none }
def homologyBoundsRow : OpenClaim := { program := "ytekdaafnjdlenaagreat", sum := "1fb759f3e7c71a9a1eb4889e7042f48a4d62f61e0930b61619fc787578fcceb5", func := "roundtable/roundtablelaw31.HomologyBounds", spec := "homologyBounds", unfollowed := true, recurses := true, plainKeys := false, apart := false }
def HomologyBoundsSaid : Prop := homologyBoundsRow.holds Tryz.pinned (OpenSpec.ofChange homologyBoundsSpec)

/-- ITS FALSE NEIGHBOUR: 'it returns false'. Refute it at one input. -/
def homologyBoundsWrong : ChangeSpec := { name := "homologyBounds", fn := fun _ => fun
  | [d1, d2] => { results := [.lit (.bool false)], args := [d1, d2] }
  | _ => none }
def HomologyBoundsWrongFalsely : Prop := homologyBoundsRow.holds Tryz.pinned (OpenSpec.ofChange homologyBoundsWrong)

/-- 'roundtablelaw31.HomologyVerifies': WHATEVER THE INPUT: true; the input reads as it did. -/
def homologyVerifiesSpec : ChangeSpec := { name := "homologyVerifies", fn := fun _ => fun
  | [d1, d2, d3] => { results := [.lit (.bool true)], args := [d1, d2, d3] }
  | _ => none }
def homologyVerifiesRow : OpenClaim := { program := "ytekdaafnjdlenaagreat", sum := "1fb759f3e7c71a9a1eb4889e7042f48a4d62f61e0930b61619fc787578fcceb5", func := "roundtable/roundtablelaw31.HomologyVerifies", spec := "homologyVerifies", unfollowed := true, recurses := true, plainKeys := false, apart := false }
def HomologyVerifiesSaid : Prop := homologyVerifiesRow.holds Tryz.pinned (OpenSpec.ofChange homologyVerifiesSpec)

/-- ITS FALSE NEIGHBOUR: 'it returns false'. Refute it at one input. -/
def homologyVerifiesWrong : ChangeSpec := { name := "homologyVerifies", fn := fun _ => fun
  | [d1, d2, d3] => { results := [.lit (.bool false)], args := [d1, d2, d3] }
  | _ => none }
def HomologyVerifiesWrongFalsely : Prop := homologyVerifiesRow.holds Tryz.pinned (OpenSpec.ofChange homologyVerifiesWrong)

/-- 'roundtablelaw31.HomologyDecides': WHATEVER THE INPUT: true; the input reads as it did. -/
def homologyDecidesSpec : ChangeSpec := { name := "homologyDecides", fn := fun _ => fun
  | [d1, d2, d3] => { results := [.lit (.bool true)], args := [d1, d2, d3] }
  | _ => none }
def homologyDecidesRow : OpenClaim := { program := "ytekdaafnjdlenaagreat", sum := "1fb759f3e7c71a9a1eb4889e7042f48a4d62f61e0930b61619fc787578fcceb5", func := "roundtable/roundtablelaw31.HomologyDecides", spec := "homologyDecides", unfollowed := true, recurses := true, plainKeys := false, apart := false }
def HomologyDecidesSaid : Prop := homologyDecidesRow.holds Tryz.pinned (OpenSpec.ofChange homologyDecidesSpec)

/-- ITS FALSE NEIGHBOUR: 'it returns false'. Refute it at one input. -/
def homologyDecidesWrong : ChangeSpec := { name := "homologyDecides", fn := fun _ => fun
  | [d1, d2, d3] => { results := [.lit (.bool false)], args := [d1, d2, d3] }
  | _ => none }
def HomologyDecidesWrongFalsely : Prop := homologyDecidesRow.holds Tryz.pinned (OpenSpec.ofChange homologyDecidesWrong)

/-- 'roundtablelaw31.HomologyDepends': WHATEVER THE INPUT: true; the input reads as it did. -/
def homologyDependsSpec : ChangeSpec := { name := "homologyDepends", fn := fun _ => fun
  | [d1, d2, d3] => { results := [.lit (.bool true)], args := [d1, d2, d3] }
  | _ => none }
def homologyDependsRow : OpenClaim := { program := "ytekdaafnjdlenaagreat", sum := "1fb759f3e7c71a9a1eb4889e7042f48a4d62f61e0930b61619fc787578fcceb5", func := "roundtable/roundtablelaw31.HomologyDepends", spec := "homologyDepends", unfollowed := true, recurses := true, plainKeys := false, apart := false }
def HomologyDependsSaid : Prop := homologyDependsRow.holds Tryz.pinned (OpenSpec.ofChange homologyDependsSpec)

/-- ITS FALSE NEIGHBOUR: 'it returns false'. Refute it at one input. -/
def homologyDependsWrong : ChangeSpec := { name := "homologyDepends", fn := fun _ => fun
  | [d1, d2, d3] => { results := [.lit (.bool false)], args := [d1, d2, d3] }
  | _ => none }
def HomologyDependsWrongFalsely : Prop := homologyDependsRow.holds Tryz.pinned (OpenSpec.ofChange homologyDependsWrong)

/-- 'roundtablelaw31.HomologyBases': WHATEVER THE INPUT: true; the input reads as it did. -/
def homologyBasesSpec : ChangeSpec := { name := "homologyBases", fn := fun _ => fun
  | [d1, d2, d3] => { results := [.lit (.bool true)], args := [d1, d2, d3] }
  | _ => none }
def homologyBasesRow : OpenClaim := { program := "ytekdaafnjdlenaagreat", sum := "1fb759f3e7c71a9a1eb4889e7042f48a4d62f61e0930b61619fc787578fcceb5", func := "roundtable/roundtablelaw31.HomologyBases", spec := "homologyBases", unfollowed := true, recurses := true, plainKeys := false, apart := false }
def HomologyBasesSaid : Prop := homologyBasesRow.holds Tryz.pinned (OpenSpec.ofChange homologyBasesSpec)

/-- ITS FALSE NEIGHBOUR: 'it returns false'. Refute it at one input. -/
def homologyBasesWrong : ChangeSpec := { name := "homologyBases", fn := fun _ => fun
  | [d1, d2, d3] => { results := [.lit (.bool false)], args := [d1, d2, d3] }
  | _ => none }
def HomologyBasesWrongFalsely : Prop := homologyBasesRow.holds Tryz.pinned (OpenSpec.ofChange homologyBasesWrong)

/-- 'roundtablelaw31.HomologyAlternates': WHATEVER THE INPUT: true; the input reads as it did. -/
def homologyAlternatesSpec : ChangeSpec := { name := "homologyAlternates", fn := fun _ => fun
  | [d] => { results := [.lit (.bool true)], args := [d] }
  | _ => none }
def homologyAlternatesRow : OpenClaim := { program := "ytekdaafnjdlenaagreat", sum := "1fb759f3e7c71a9a1eb4889e7042f48a4d62f61e0930b61619fc787578fcceb5", func := "roundtable/roundtablelaw31.HomologyAlternates", spec := "homologyAlternates", unfollowed := true, recurses := true, plainKeys := false, apart := false }
def HomologyAlternatesSaid : Prop := homologyAlternatesRow.holds Tryz.pinned (OpenSpec.ofChange homologyAlternatesSpec)

/-- ITS FALSE NEIGHBOUR: 'it returns false'. Refute it at one input. -/
def homologyAlternatesWrong : ChangeSpec := { name := "homologyAlternates", fn := fun _ => fun
  | [d] => { results := [.lit (.bool false)], args := [d] }
  | _ => none }
def HomologyAlternatesWrongFalsely : Prop := homologyAlternatesRow.holds Tryz.pinned (OpenSpec.ofChange homologyAlternatesWrong)

/- THE SECOND FORM. 'bulk': how many values and letters a reading holds, each counted each time it is reached (what is shared counts as often as it is met; a slice's spare places count too). A statement '..UptoSaid' is the law's where the arguments, and the package variables that the reading takes, are together of bulk at most 1048576: NARROWER than '..Said'. Prove '..Said' where nothing that the law and all that it calls make is longer than what came in: it says more and counts as full. Else prove '..UptoSaid'. A law counts once. -/
mutual
def uptoBulk {H : Type} : DataW H → Nat
  | .lit (.string bytes) => bytes.length + 1
  | .lit _ => 1
  | .nil => 1
  | .ptr d => uptoBulk d + 1
  | .slice elems spare => uptoBulkAll elems + uptoBulkAll spare + 1
  | .agg parts => uptoBulkAll parts + 1
  | .iface _ d => uptoBulk d + 1
  | .map entries => uptoBulkEntries entries + 1
  | .held _ => 1
def uptoBulkAll {H : Type} : List (DataW H) → Nat
  | [] => 0
  | d :: r => uptoBulk d + uptoBulkAll r
def uptoBulkEntries {H : Type} : List (Lit × DataW H) → Nat
  | [] => 0
  | x :: r => uptoBulkEntry x + uptoBulkEntries r
def uptoBulkEntry {H : Type} : Lit × DataW H → Nat
  | (.string bytes, d) => bytes.length + uptoBulk d + 1
  | (_, d) => uptoBulk d + 1
 end
def uptoSmall : (H : Type) → List (DataW H) → Bool := fun _ ds => decide (uptoBulkAll ds ≤ 1048576)
def OpenSpec.upto (s : _root_.Go.ChangeSpec) : _root_.Go.OpenSpec := { _root_.Go.OpenSpec.ofChange s with cond := some uptoSmall }

/-- 'roundtablelaw31.HomologyCounts', WHERE WHAT IT READS IS OF BULK AT MOST 1048576: true; the input reads as it did. -/
def homologyCountsUptoRow : OpenClaim := { program := "ytekdaafnjdlenaagreat", sum := "1fb759f3e7c71a9a1eb4889e7042f48a4d62f61e0930b61619fc787578fcceb5", func := "roundtable/roundtablelaw31.HomologyCounts", spec := "homologyCounts", unfollowed := true, recurses := true, plainKeys := false, apart := false, narrowed := true }
def HomologyCountsUptoSaid : Prop := homologyCountsUptoRow.holds Tryz.pinned (OpenSpec.upto homologyCountsSpec)

/-- 'roundtablelaw31.HomologyCycles', WHERE WHAT IT READS IS OF BULK AT MOST 1048576: true; the input reads as it did. -/
def homologyCyclesUptoRow : OpenClaim := { program := "ytekdaafnjdlenaagreat", sum := "1fb759f3e7c71a9a1eb4889e7042f48a4d62f61e0930b61619fc787578fcceb5", func := "roundtable/roundtablelaw31.HomologyCycles", spec := "homologyCycles", unfollowed := true, recurses := true, plainKeys := false, apart := false, narrowed := true }
def HomologyCyclesUptoSaid : Prop := homologyCyclesUptoRow.holds Tryz.pinned (OpenSpec.upto homologyCyclesSpec)

/-- 'roundtablelaw31.HomologyBounds', WHERE WHAT IT READS IS OF BULK AT MOST 1048576: true; the input reads as it did. -/
def homologyBoundsUptoRow : OpenClaim := { program := "ytekdaafnjdlenaagreat", sum := "1fb759f3e7c71a9a1eb4889e7042f48a4d62f61e0930b61619fc787578fcceb5", func := "roundtable/roundtablelaw31.HomologyBounds", spec := "homologyBounds", unfollowed := true, recurses := true, plainKeys := false, apart := false, narrowed := true }
def HomologyBoundsUptoSaid : Prop := homologyBoundsUptoRow.holds Tryz.pinned (OpenSpec.upto homologyBoundsSpec)

/-- 'roundtablelaw31.HomologyVerifies', WHERE WHAT IT READS IS OF BULK AT MOST 1048576: true; the input reads as it did. -/
def homologyVerifiesUptoRow : OpenClaim := { program := "ytekdaafnjdlenaagreat", sum := "1fb759f3e7c71a9a1eb4889e7042f48a4d62f61e0930b61619fc787578fcceb5", func := "roundtable/roundtablelaw31.HomologyVerifies", spec := "homologyVerifies", unfollowed := true, recurses := true, plainKeys := false, apart := false, narrowed := true }
def HomologyVerifiesUptoSaid : Prop := homologyVerifiesUptoRow.holds Tryz.pinned (OpenSpec.upto homologyVerifiesSpec)

/-- 'roundtablelaw31.HomologyDecides', WHERE WHAT IT READS IS OF BULK AT MOST 1048576: true; the input reads as it did. -/
def homologyDecidesUptoRow : OpenClaim := { program := "ytekdaafnjdlenaagreat", sum := "1fb759f3e7c71a9a1eb4889e7042f48a4d62f61e0930b61619fc787578fcceb5", func := "roundtable/roundtablelaw31.HomologyDecides", spec := "homologyDecides", unfollowed := true, recurses := true, plainKeys := false, apart := false, narrowed := true }
def HomologyDecidesUptoSaid : Prop := homologyDecidesUptoRow.holds Tryz.pinned (OpenSpec.upto homologyDecidesSpec)

/-- 'roundtablelaw31.HomologyDepends', WHERE WHAT IT READS IS OF BULK AT MOST 1048576: true; the input reads as it did. -/
def homologyDependsUptoRow : OpenClaim := { program := "ytekdaafnjdlenaagreat", sum := "1fb759f3e7c71a9a1eb4889e7042f48a4d62f61e0930b61619fc787578fcceb5", func := "roundtable/roundtablelaw31.HomologyDepends", spec := "homologyDepends", unfollowed := true, recurses := true, plainKeys := false, apart := false, narrowed := true }
def HomologyDependsUptoSaid : Prop := homologyDependsUptoRow.holds Tryz.pinned (OpenSpec.upto homologyDependsSpec)

/-- 'roundtablelaw31.HomologyBases', WHERE WHAT IT READS IS OF BULK AT MOST 1048576: true; the input reads as it did. -/
def homologyBasesUptoRow : OpenClaim := { program := "ytekdaafnjdlenaagreat", sum := "1fb759f3e7c71a9a1eb4889e7042f48a4d62f61e0930b61619fc787578fcceb5", func := "roundtable/roundtablelaw31.HomologyBases", spec := "homologyBases", unfollowed := true, recurses := true, plainKeys := false, apart := false, narrowed := true }
def HomologyBasesUptoSaid : Prop := homologyBasesUptoRow.holds Tryz.pinned (OpenSpec.upto homologyBasesSpec)

/-- 'roundtablelaw31.HomologyAlternates', WHERE WHAT IT READS IS OF BULK AT MOST 1048576: true; the input reads as it did. -/
def homologyAlternatesUptoRow : OpenClaim := { program := "ytekdaafnjdlenaagreat", sum := "1fb759f3e7c71a9a1eb4889e7042f48a4d62f61e0930b61619fc787578fcceb5", func := "roundtable/roundtablelaw31.HomologyAlternates", spec := "homologyAlternates", unfollowed := true, recurses := true, plainKeys := false, apart := false, narrowed := true }
def HomologyAlternatesUptoSaid : Prop := homologyAlternatesUptoRow.holds Tryz.pinned (OpenSpec.upto homologyAlternatesSpec)

end Rows
end Go.Proofs.YtekdaafnjdlenaaGreat
