/-
  No cell of these rows narrows 'for every input' (looked for: loops, veiled, ifaces, maps, wideKeys, modest, calm, conditions, laid).
  DERIVED. THE GIVEN ROWS OF THIS SEAT. 7 by the template 'for every input the law returns true; each argument reads behind the call as it read before'; 0 by the template 'total and deterministic' (their statements: YtfcenbapjhecfaaTotals.lean).
  GIVEN WITH THE SEED: the statements are not yours to turn. If you find one false, say at which input.
  Laid BY PROGRAM, IN A SANDBOX (cutbox-rows.mjs): the forced cells as the released guide's own fill.sh prints them over the translation a86ad4264907b17d… (all of the seat's roots in one cut). By AI agents, Wed Nov 11 2026. No macro, syntax, notation, axiom, sorry.
-/
import Derived.Test.YtfcenbapjhecfaaChecked
import GoSem.Claim
import GoSem.ClaimJoined
import GoSem.ClaimMapViews
import Derived.JoinedTies
import Derived.KernelRfl
namespace Go.Proofs.Ytfcenbapjhecfaa
/- THE CELL 'sum', in the pinned program and in every row, IS THE sha256 OF THE DUMP (.gsa) THAT YtfcenbapjhecfaaProg.lean LOADS. Nothing in Lean hashes anything: it is a label: what it is worth is what the hold of that sum in a sandbox is worth. -/
noncomputable def Try.pinned : Pinned := { name := "ytfcenbapjhecfaa", sum := "a86ad4264907b17d6982029404fc2efb3c0f82429c6a78e7e44eb7c263a5022f", checked := Try.checked }
namespace Rows
def none {H : Type} : Left H := { results := [], args := [] }

/-- 'roundtablelaw30.ChainSums': WHATEVER THE INPUT: true; the input reads as it did. -/
def chainSumsSpec : ChangeSpec := { name := "chainSums", fn := fun _ => fun
  | [d1, d2] => { results := [.lit (.bool true)], args := [d1, d2] }
  | _ => none }
def chainSumsRow : OpenClaim := { program := "ytfcenbapjhecfaa", sum := "a86ad4264907b17d6982029404fc2efb3c0f82429c6a78e7e44eb7c263a5022f", func := "roundtable/roundtablelaw30.ChainSums", spec := "chainSums", unfollowed := true, recurses := true, plainKeys := false, apart := false }
def ChainSumsSaid : Prop := chainSumsRow.holds Try.pinned (OpenSpec.ofChange chainSumsSpec)

/-- ITS FALSE NEIGHBOUR: 'it returns false'. Refute it at one input. -/
def chainSumsWrong : ChangeSpec := { name := "chainSums", fn := fun _ => fun
  | [d1, d2] => { results := [.lit (.bool false)], args := [d1, d2] }
  | _ => none }
def ChainSumsWrongFalsely : Prop := chainSumsRow.holds Try.pinned (OpenSpec.ofChange chainSumsWrong)

/-- 'roundtablelaw30.ChainBounds': WHATEVER THE INPUT: true; the input reads as it did. -/
def chainBoundsSpec : ChangeSpec := { name := "chainBounds", fn := fun _ => fun
  | [d] => { results := [.lit (.bool true)], args := [d] }
  | _ => none }
def chainBoundsRow : OpenClaim := { program := "ytfcenbapjhecfaa", sum := "a86ad4264907b17d6982029404fc2efb3c0f82429c6a78e7e44eb7c263a5022f", func := "roundtable/roundtablelaw30.ChainBounds", spec := "chainBounds", unfollowed := true, recurses := true, plainKeys := false, apart := false }
def ChainBoundsSaid : Prop := chainBoundsRow.holds Try.pinned (OpenSpec.ofChange chainBoundsSpec)

/-- ITS FALSE NEIGHBOUR: 'it returns false'. Refute it at one input. -/
def chainBoundsWrong : ChangeSpec := { name := "chainBounds", fn := fun _ => fun
  | [d] => { results := [.lit (.bool false)], args := [d] }
  | _ => none }
def ChainBoundsWrongFalsely : Prop := chainBoundsRow.holds Try.pinned (OpenSpec.ofChange chainBoundsWrong)

/-- 'roundtablelaw30.ChainMatrices': WHATEVER THE INPUT: true; the input reads as it did. -/
def chainMatricesSpec : ChangeSpec := { name := "chainMatrices", fn := fun _ => fun
  | [d1, d2] => { results := [.lit (.bool true)], args := [d1, d2] }
  | _ => none }
def chainMatricesRow : OpenClaim := { program := "ytfcenbapjhecfaa", sum := "a86ad4264907b17d6982029404fc2efb3c0f82429c6a78e7e44eb7c263a5022f", func := "roundtable/roundtablelaw30.ChainMatrices", spec := "chainMatrices", unfollowed := true, recurses := true, plainKeys := false, apart := false }
def ChainMatricesSaid : Prop := chainMatricesRow.holds Try.pinned (OpenSpec.ofChange chainMatricesSpec)

/-- ITS FALSE NEIGHBOUR: 'it returns false'. Refute it at one input. -/
def chainMatricesWrong : ChangeSpec := { name := "chainMatrices", fn := fun _ => fun
  | [d1, d2] => { results := [.lit (.bool false)], args := [d1, d2] }
  | _ => none }
def ChainMatricesWrongFalsely : Prop := chainMatricesRow.holds Try.pinned (OpenSpec.ofChange chainMatricesWrong)

/-- 'roundtablelaw30.ChainGroup': WHATEVER THE INPUT: true; the input reads as it did. -/
def chainGroupSpec : ChangeSpec := { name := "chainGroup", fn := fun _ => fun
  | [d1, d2, d3] => { results := [.lit (.bool true)], args := [d1, d2, d3] }
  | _ => none }
def chainGroupRow : OpenClaim := { program := "ytfcenbapjhecfaa", sum := "a86ad4264907b17d6982029404fc2efb3c0f82429c6a78e7e44eb7c263a5022f", func := "roundtable/roundtablelaw30.ChainGroup", spec := "chainGroup", unfollowed := true, recurses := true, plainKeys := false, apart := false }
def ChainGroupSaid : Prop := chainGroupRow.holds Try.pinned (OpenSpec.ofChange chainGroupSpec)

/-- ITS FALSE NEIGHBOUR: 'it returns false'. Refute it at one input. -/
def chainGroupWrong : ChangeSpec := { name := "chainGroup", fn := fun _ => fun
  | [d1, d2, d3] => { results := [.lit (.bool false)], args := [d1, d2, d3] }
  | _ => none }
def ChainGroupWrongFalsely : Prop := chainGroupRow.holds Try.pinned (OpenSpec.ofChange chainGroupWrong)

/-- 'roundtablelaw30.ChainVectors': WHATEVER THE INPUT: true; the input reads as it did. -/
def chainVectorsSpec : ChangeSpec := { name := "chainVectors", fn := fun _ => fun
  | [d1, d2, d3] => { results := [.lit (.bool true)], args := [d1, d2, d3] }
  | _ => none }
def chainVectorsRow : OpenClaim := { program := "ytfcenbapjhecfaa", sum := "a86ad4264907b17d6982029404fc2efb3c0f82429c6a78e7e44eb7c263a5022f", func := "roundtable/roundtablelaw30.ChainVectors", spec := "chainVectors", unfollowed := true, recurses := true, plainKeys := false, apart := false }
def ChainVectorsSaid : Prop := chainVectorsRow.holds Try.pinned (OpenSpec.ofChange chainVectorsSpec)

/-- ITS FALSE NEIGHBOUR: 'it returns false'. Refute it at one input. -/
def chainVectorsWrong : ChangeSpec := { name := "chainVectors", fn := fun _ => fun
  | [d1, d2, d3] => { results := [.lit (.bool false)], args := [d1, d2, d3] }
  | _ => none }
def ChainVectorsWrongFalsely : Prop := chainVectorsRow.holds Try.pinned (OpenSpec.ofChange chainVectorsWrong)

/-- 'roundtablelaw30.ChainApplies': WHATEVER THE INPUT: true; the input reads as it did. -/
def chainAppliesSpec : ChangeSpec := { name := "chainApplies", fn := fun _ => fun
  | [d1, d2, d3] => { results := [.lit (.bool true)], args := [d1, d2, d3] }
  | _ => none }
def chainAppliesRow : OpenClaim := { program := "ytfcenbapjhecfaa", sum := "a86ad4264907b17d6982029404fc2efb3c0f82429c6a78e7e44eb7c263a5022f", func := "roundtable/roundtablelaw30.ChainApplies", spec := "chainApplies", unfollowed := true, recurses := true, plainKeys := false, apart := false }
def ChainAppliesSaid : Prop := chainAppliesRow.holds Try.pinned (OpenSpec.ofChange chainAppliesSpec)

/-- ITS FALSE NEIGHBOUR: 'it returns false'. Refute it at one input. -/
def chainAppliesWrong : ChangeSpec := { name := "chainApplies", fn := fun _ => fun
  | [d1, d2, d3] => { results := [.lit (.bool false)], args := [d1, d2, d3] }
  | _ => none }
def ChainAppliesWrongFalsely : Prop := chainAppliesRow.holds Try.pinned (OpenSpec.ofChange chainAppliesWrong)

/-- 'roundtablelaw30.ChainSquares': WHATEVER THE INPUT: true; the input reads as it did. -/
def chainSquaresSpec : ChangeSpec := { name := "chainSquares", fn := fun _ => fun
  | [d1, d2] => { results := [.lit (.bool true)], args := [d1, d2] }
  | _ => none }
def chainSquaresRow : OpenClaim := { program := "ytfcenbapjhecfaa", sum := "a86ad4264907b17d6982029404fc2efb3c0f82429c6a78e7e44eb7c263a5022f", func := "roundtable/roundtablelaw30.ChainSquares", spec := "chainSquares", unfollowed := true, recurses := true, plainKeys := false, apart := false }
def ChainSquaresSaid : Prop := chainSquaresRow.holds Try.pinned (OpenSpec.ofChange chainSquaresSpec)

/-- ITS FALSE NEIGHBOUR: 'it returns false'. Refute it at one input. -/
def chainSquaresWrong : ChangeSpec := { name := "chainSquares", fn := fun _ => fun
  | [d1, d2] => { results := [.lit (.bool false)], args := [d1, d2] }
  | _ => none }
def ChainSquaresWrongFalsely : Prop := chainSquaresRow.holds Try.pinned (OpenSpec.ofChange chainSquaresWrong)

/- THE SECOND FORM. 'bulk': how many values and letters a reading holds, each counted each time it is reached (what is shared counts as often as it is met; a slice's spare places count too). A statement '..UptoSaid' is the law's where the arguments, and the package variables that the reading takes, are together of bulk at most 1048576: NARROWER than '..Said'. Prove '..Said' where nothing that the law and all that it calls make is longer than what came in: it says more and counts as full. Else prove '..UptoSaid'. A law counts once. -/
mutual
def uptoBulk {H : Type} : DataW H → Nat
  | .lit (.string bytes) => bytes.length + 1
  | .lit _ => 1
  | .nil => 1
  | .ptr d => uptoBulk d + 1
  | .slice elems spare => uptoBulkAll elems + uptoBulkAll spare + 1
  | .agg parts => uptoBulkAll parts + 1
  | .iface _ d => uptoBulk d + 1
  | .map entries => uptoBulkEntries entries + 1
  | .held _ => 1
def uptoBulkAll {H : Type} : List (DataW H) → Nat
  | [] => 0
  | d :: r => uptoBulk d + uptoBulkAll r
def uptoBulkEntries {H : Type} : List (Lit × DataW H) → Nat
  | [] => 0
  | x :: r => uptoBulkEntry x + uptoBulkEntries r
def uptoBulkEntry {H : Type} : Lit × DataW H → Nat
  | (.string bytes, d) => bytes.length + uptoBulk d + 1
  | (_, d) => uptoBulk d + 1
 end
def uptoSmall : (H : Type) → List (DataW H) → Bool := fun _ ds => decide (uptoBulkAll ds ≤ 1048576)
def OpenSpec.upto (s : _root_.Go.ChangeSpec) : _root_.Go.OpenSpec := { _root_.Go.OpenSpec.ofChange s with cond := some uptoSmall }

/-- 'roundtablelaw30.ChainSums', WHERE WHAT IT READS IS OF BULK AT MOST 1048576: true; the input reads as it did. -/
def chainSumsUptoRow : OpenClaim := { program := "ytfcenbapjhecfaa", sum := "a86ad4264907b17d6982029404fc2efb3c0f82429c6a78e7e44eb7c263a5022f", func := "roundtable/roundtablelaw30.ChainSums", spec := "chainSums", unfollowed := true, recurses := true, plainKeys := false, apart := false, narrowed := true }
def ChainSumsUptoSaid : Prop := chainSumsUptoRow.holds Try.pinned (OpenSpec.upto chainSumsSpec)

/-- 'roundtablelaw30.ChainBounds', WHERE WHAT IT READS IS OF BULK AT MOST 1048576: true; the input reads as it did. -/
def chainBoundsUptoRow : OpenClaim := { program := "ytfcenbapjhecfaa", sum := "a86ad4264907b17d6982029404fc2efb3c0f82429c6a78e7e44eb7c263a5022f", func := "roundtable/roundtablelaw30.ChainBounds", spec := "chainBounds", unfollowed := true, recurses := true, plainKeys := false, apart := false, narrowed := true }
def ChainBoundsUptoSaid : Prop := chainBoundsUptoRow.holds Try.pinned (OpenSpec.upto chainBoundsSpec)

/-- 'roundtablelaw30.ChainMatrices', WHERE WHAT IT READS IS OF BULK AT MOST 1048576: true; the input reads as it did. -/
def chainMatricesUptoRow : OpenClaim := { program := "ytfcenbapjhecfaa", sum := "a86ad4264907b17d6982029404fc2efb3c0f82429c6a78e7e44eb7c263a5022f", func := "roundtable/roundtablelaw30.ChainMatrices", spec := "chainMatrices", unfollowed := true, recurses := true, plainKeys := false, apart := false, narrowed := true }
def ChainMatricesUptoSaid : Prop := chainMatricesUptoRow.holds Try.pinned (OpenSpec.upto chainMatricesSpec)

/-- 'roundtablelaw30.ChainGroup', WHERE WHAT IT READS IS OF BULK AT MOST 1048576: true; the input reads as it did. -/
def chainGroupUptoRow : OpenClaim := { program := "ytfcenbapjhecfaa", sum := "a86ad4264907b17d6982029404fc2efb3c0f82429c6a78e7e44eb7c263a5022f", func := "roundtable/roundtablelaw30.ChainGroup", spec := "chainGroup", unfollowed := true, recurses := true, plainKeys := false, apart := false, narrowed := true }
def ChainGroupUptoSaid : Prop := chainGroupUptoRow.holds Try.pinned (OpenSpec.upto chainGroupSpec)

/-- 'roundtablelaw30.ChainVectors', WHERE WHAT IT READS IS OF BULK AT MOST 1048576: true; the input reads as it did. -/
def chainVectorsUptoRow : OpenClaim := { program := "ytfcenbapjhecfaa", sum := "a86ad4264907b17d6982029404fc2efb3c0f82429c6a78e7e44eb7c263a5022f", func := "roundtable/roundtablelaw30.ChainVectors", spec := "chainVectors", unfollowed := true, recurses := true, plainKeys := false, apart := false, narrowed := true }
def ChainVectorsUptoSaid : Prop := chainVectorsUptoRow.holds Try.pinned (OpenSpec.upto chainVectorsSpec)

/-- 'roundtablelaw30.ChainApplies', WHERE WHAT IT READS IS OF BULK AT MOST 1048576: true; the input reads as it did. -/
def chainAppliesUptoRow : OpenClaim := { program := "ytfcenbapjhecfaa", sum := "a86ad4264907b17d6982029404fc2efb3c0f82429c6a78e7e44eb7c263a5022f", func := "roundtable/roundtablelaw30.ChainApplies", spec := "chainApplies", unfollowed := true, recurses := true, plainKeys := false, apart := false, narrowed := true }
def ChainAppliesUptoSaid : Prop := chainAppliesUptoRow.holds Try.pinned (OpenSpec.upto chainAppliesSpec)

/-- 'roundtablelaw30.ChainSquares', WHERE WHAT IT READS IS OF BULK AT MOST 1048576: true; the input reads as it did. -/
def chainSquaresUptoRow : OpenClaim := { program := "ytfcenbapjhecfaa", sum := "a86ad4264907b17d6982029404fc2efb3c0f82429c6a78e7e44eb7c263a5022f", func := "roundtable/roundtablelaw30.ChainSquares", spec := "chainSquares", unfollowed := true, recurses := true, plainKeys := false, apart := false, narrowed := true }
def ChainSquaresUptoSaid : Prop := chainSquaresUptoRow.holds Try.pinned (OpenSpec.upto chainSquaresSpec)

end Rows
end Go.Proofs.Ytfcenbapjhecfaa
