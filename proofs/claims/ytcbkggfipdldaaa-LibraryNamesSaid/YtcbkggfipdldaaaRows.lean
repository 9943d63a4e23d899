/-
  No cell of these rows narrows 'for every input' (looked for: loops, veiled, ifaces, maps, wideKeys, modest, calm, conditions, laid).
  DERIVED. THE GIVEN ROWS OF THIS SEAT. 6 by the template 'for every input the law returns true; each argument reads behind the call as it read before'; 0 by the template 'total and deterministic' (their statements: YtcbkggfipdldaaaTotals.lean).
  GIVEN WITH THE SEED: the statements are not yours to turn. If you find one false, say at which input.
  Laid BY PROGRAM, IN A SANDBOX (cutbox-rows.mjs): the forced cells as the released guide's own fill.sh prints them over the translation 73b8c17f1c92098d… (all of the seat's roots in one cut). By AI agents, Wed Nov 11 2026. No macro, syntax, notation, axiom, sorry.
-/
import Derived.Test.YtcbkggfipdldaaaChecked
import GoSem.Claim
import GoSem.ClaimJoined
import GoSem.ClaimMapViews
import Derived.JoinedTies
import Derived.KernelRfl
namespace Go.Proofs.Ytcbkggfipdldaaa
/- THE CELL 'sum', in the pinned program and in every row, IS THE sha256 OF THE DUMP (.gsa) THAT YtcbkggfipdldaaaProg.lean LOADS. Nothing in Lean hashes anything: it is a label: what it is worth is what the hold of that sum in a sandbox is worth. -/
noncomputable def Try.pinned : Pinned := { name := "ytcbkggfipdldaaa", sum := "73b8c17f1c92098de92f263ce5f621ff31d1a010b48d3611f05bdf4de7c083df", checked := Try.checked }
namespace Rows
def none {H : Type} : Left H := { results := [], args := [] }

/-- 'roundtablelaw12.LibraryApproaches': WHATEVER THE INPUT: true; the input reads as it did. -/
def libraryApproachesSpec : ChangeSpec := { name := "libraryApproaches", fn := fun _ => fun
  | [d1, d2, d3] => { results := [.lit (.bool true)], args := [d1, d2, d3] }
  | _ => none }
def libraryApproachesRow : OpenClaim := { program := "ytcbkggfipdldaaa", sum := "73b8c17f1c92098de92f263ce5f621ff31d1a010b48d3611f05bdf4de7c083df", func := "roundtable/roundtablelaw12.LibraryApproaches", spec := "libraryApproaches", unfollowed := true, recurses := true, apart := false }
def LibraryApproachesSaid : Prop := libraryApproachesRow.holds Try.pinned (OpenSpec.ofChange libraryApproachesSpec)

/-- ITS FALSE NEIGHBOUR: 'it returns false'. Refute it at one input. -/
def libraryApproachesWrong : ChangeSpec := { name := "libraryApproaches", fn := fun _ => fun
  | [d1, d2, d3] => { results := [.lit (.bool false)], args := [d1, d2, d3] }
  | _ => none }
def LibraryApproachesWrongFalsely : Prop := libraryApproachesRow.holds Try.pinned (OpenSpec.ofChange libraryApproachesWrong)

/-- 'roundtablelaw12.LibraryAgrees': WHATEVER THE INPUT: true; the input reads as it did. -/
def libraryAgreesSpec : ChangeSpec := { name := "libraryAgrees", fn := fun _ => fun
  | [d1, d2, d3] => { results := [.lit (.bool true)], args := [d1, d2, d3] }
  | _ => none }
def libraryAgreesRow : OpenClaim := { program := "ytcbkggfipdldaaa", sum := "73b8c17f1c92098de92f263ce5f621ff31d1a010b48d3611f05bdf4de7c083df", func := "roundtable/roundtablelaw12.LibraryAgrees", spec := "libraryAgrees", unfollowed := true, recurses := true, apart := false }
def LibraryAgreesSaid : Prop := libraryAgreesRow.holds Try.pinned (OpenSpec.ofChange libraryAgreesSpec)

/-- ITS FALSE NEIGHBOUR: 'it returns false'. Refute it at one input. -/
def libraryAgreesWrong : ChangeSpec := { name := "libraryAgrees", fn := fun _ => fun
  | [d1, d2, d3] => { results := [.lit (.bool false)], args := [d1, d2, d3] }
  | _ => none }
def LibraryAgreesWrongFalsely : Prop := libraryAgreesRow.holds Try.pinned (OpenSpec.ofChange libraryAgreesWrong)

/-- 'roundtablelaw12.LibraryGets': WHATEVER THE INPUT: true; the input reads as it did. -/
def libraryGetsSpec : ChangeSpec := { name := "libraryGets", fn := fun _ => fun
  | [d1, d2] => { results := [.lit (.bool true)], args := [d1, d2] }
  | _ => none }
def libraryGetsRow : OpenClaim := { program := "ytcbkggfipdldaaa", sum := "73b8c17f1c92098de92f263ce5f621ff31d1a010b48d3611f05bdf4de7c083df", func := "roundtable/roundtablelaw12.LibraryGets", spec := "libraryGets", unfollowed := true, recurses := true, apart := false }
def LibraryGetsSaid : Prop := libraryGetsRow.holds Try.pinned (OpenSpec.ofChange libraryGetsSpec)

/-- ITS FALSE NEIGHBOUR: 'it returns false'. Refute it at one input. -/
def libraryGetsWrong : ChangeSpec := { name := "libraryGets", fn := fun _ => fun
  | [d1, d2] => { results := [.lit (.bool false)], args := [d1, d2] }
  | _ => none }
def LibraryGetsWrongFalsely : Prop := libraryGetsRow.holds Try.pinned (OpenSpec.ofChange libraryGetsWrong)

/-- 'roundtablelaw12.LibraryCalms': WHATEVER THE INPUT: true; the input reads as it did. -/
def libraryCalmsSpec : ChangeSpec := { name := "libraryCalms", fn := fun _ => fun
  | [d1, d2] => { results := [.lit (.bool true)], args := [d1, d2] }
  | _ => none }
def libraryCalmsRow : OpenClaim := { program := "ytcbkggfipdldaaa", sum := "73b8c17f1c92098de92f263ce5f621ff31d1a010b48d3611f05bdf4de7c083df", func := "roundtable/roundtablelaw12.LibraryCalms", spec := "libraryCalms", unfollowed := true, recurses := true, apart := false }
def LibraryCalmsSaid : Prop := libraryCalmsRow.holds Try.pinned (OpenSpec.ofChange libraryCalmsSpec)

/-- ITS FALSE NEIGHBOUR: 'it returns false'. Refute it at one input. -/
def libraryCalmsWrong : ChangeSpec := { name := "libraryCalms", fn := fun _ => fun
  | [d1, d2] => { results := [.lit (.bool false)], args := [d1, d2] }
  | _ => none }
def LibraryCalmsWrongFalsely : Prop := libraryCalmsRow.holds Try.pinned (OpenSpec.ofChange libraryCalmsWrong)

/-- 'roundtablelaw12.LibraryWeakens': WHATEVER THE INPUT: true; the input reads as it did. -/
def libraryWeakensSpec : ChangeSpec := { name := "libraryWeakens", fn := fun _ => fun
  | [d1, d2, d3] => { results := [.lit (.bool true)], args := [d1, d2, d3] }
  | _ => none }
def libraryWeakensRow : OpenClaim := { program := "ytcbkggfipdldaaa", sum := "73b8c17f1c92098de92f263ce5f621ff31d1a010b48d3611f05bdf4de7c083df", func := "roundtable/roundtablelaw12.LibraryWeakens", spec := "libraryWeakens", unfollowed := true, recurses := true, apart := false }
def LibraryWeakensSaid : Prop := libraryWeakensRow.holds Try.pinned (OpenSpec.ofChange libraryWeakensSpec)

/-- ITS FALSE NEIGHBOUR: 'it returns false'. Refute it at one input. -/
def libraryWeakensWrong : ChangeSpec := { name := "libraryWeakens", fn := fun _ => fun
  | [d1, d2, d3] => { results := [.lit (.bool false)], args := [d1, d2, d3] }
  | _ => none }
def LibraryWeakensWrongFalsely : Prop := libraryWeakensRow.holds Try.pinned (OpenSpec.ofChange libraryWeakensWrong)

/-- 'roundtablelaw12.LibraryNames': WHATEVER THE INPUT: true; the input reads as it did. -/
def libraryNamesSpec : ChangeSpec := { name := "libraryNames", fn := fun _ => fun
  | [d1, d2, d3] => { results := [.lit (.bool true)], args := [d1, d2, d3] }
  | _ => none }
def libraryNamesRow : OpenClaim := { program := "ytcbkggfipdldaaa", sum := "73b8c17f1c92098de92f263ce5f621ff31d1a010b48d3611f05bdf4de7c083df", func := "roundtable/roundtablelaw12.LibraryNames", spec := "libraryNames", unfollowed := true, recurses := true, apart := false }
def LibraryNamesSaid : Prop := libraryNamesRow.holds Try.pinned (OpenSpec.ofChange libraryNamesSpec)

/-- ITS FALSE NEIGHBOUR: 'it returns false'. Refute it at one input. -/
def libraryNamesWrong : ChangeSpec := { name := "libraryNames", fn := fun _ => fun
  | [d1, d2, d3] => { results := [.lit (.bool false)], args := [d1, d2, d3] }
  | _ => none }
def LibraryNamesWrongFalsely : Prop := libraryNamesRow.holds Try.pinned (OpenSpec.ofChange libraryNamesWrong)

/- THE SECOND FORM. 'bulk': how many values and letters a reading holds, each counted each time it is reached (what is shared counts as often as it is met; a slice's spare places count too). A statement '..UptoSaid' is the law's where the arguments, and the package variables that the reading takes, are together of bulk at most 1048576: NARROWER than '..Said'. Prove '..Said' where nothing that the law and all that it calls make is longer than what came in: it says more and counts as full. Else prove '..UptoSaid'. A law counts once. -/
mutual
def uptoBulk {H : Type} : DataW H → Nat
  | .lit (.string bytes) => bytes.length + 1
  | .lit _ => 1
  | .nil => 1
  | .ptr d => uptoBulk d + 1
  | .slice elems spare => uptoBulkAll elems + uptoBulkAll spare + 1
  | .agg parts => uptoBulkAll parts + 1
  | .iface _ d => uptoBulk d + 1
  | .map entries => uptoBulkEntries entries + 1
  | .held _ => 1
def uptoBulkAll {H : Type} : List (DataW H) → Nat
  | [] => 0
  | d :: r => uptoBulk d + uptoBulkAll r
def uptoBulkEntries {H : Type} : List (Lit × DataW H) → Nat
  | [] => 0
  | x :: r => uptoBulkEntry x + uptoBulkEntries r
def uptoBulkEntry {H : Type} : Lit × DataW H → Nat
  | (.string bytes, d) => bytes.length + uptoBulk d + 1
  | (_, d) => uptoBulk d + 1
 end
def uptoSmall : (H : Type) → List (DataW H) → Bool := fun _ ds => decide (uptoBulkAll ds ≤ 1048576)
def OpenSpec.upto (s : _root_.Go.ChangeSpec) : _root_.Go.OpenSpec := { _root_.Go.OpenSpec.ofChange s with cond := some uptoSmall }

/-- 'roundtablelaw12.LibraryApproaches', WHERE WHAT IT READS IS OF BULK AT MOST 1048576: true; the input reads as it did. -/
def libraryApproachesUptoRow : OpenClaim := { program := "ytcbkggfipdldaaa", sum := "73b8c17f1c92098de92f263ce5f621ff31d1a010b48d3611f05bdf4de7c083df", func := "roundtable/roundtablelaw12.LibraryApproaches", spec := "libraryApproaches", unfollowed := true, recurses := true, apart := false, narrowed := true }
def LibraryApproachesUptoSaid : Prop := libraryApproachesUptoRow.holds Try.pinned (OpenSpec.upto libraryApproachesSpec)

/-- 'roundtablelaw12.LibraryAgrees', WHERE WHAT IT READS IS OF BULK AT MOST 1048576: true; the input reads as it did. -/
def libraryAgreesUptoRow : OpenClaim := { program := "ytcbkggfipdldaaa", sum := "73b8c17f1c92098de92f263ce5f621ff31d1a010b48d3611f05bdf4de7c083df", func := "roundtable/roundtablelaw12.LibraryAgrees", spec := "libraryAgrees", unfollowed := true, recurses := true, apart := false, narrowed := true }
def LibraryAgreesUptoSaid : Prop := libraryAgreesUptoRow.holds Try.pinned (OpenSpec.upto libraryAgreesSpec)

/-- 'roundtablelaw12.LibraryGets', WHERE WHAT IT READS IS OF BULK AT MOST 1048576: true; the input reads as it did. -/
def libraryGetsUptoRow : OpenClaim := { program := "ytcbkggfipdldaaa", sum := "73b8c17f1c92098de92f263ce5f621ff31d1a010b48d3611f05bdf4de7c083df", func := "roundtable/roundtablelaw12.LibraryGets", spec := "libraryGets", unfollowed := true, recurses := true, apart := false, narrowed := true }
def LibraryGetsUptoSaid : Prop := libraryGetsUptoRow.holds Try.pinned (OpenSpec.upto libraryGetsSpec)

/-- 'roundtablelaw12.LibraryCalms', WHERE WHAT IT READS IS OF BULK AT MOST 1048576: true; the input reads as it did. -/
def libraryCalmsUptoRow : OpenClaim := { program := "ytcbkggfipdldaaa", sum := "73b8c17f1c92098de92f263ce5f621ff31d1a010b48d3611f05bdf4de7c083df", func := "roundtable/roundtablelaw12.LibraryCalms", spec := "libraryCalms", unfollowed := true, recurses := true, apart := false, narrowed := true }
def LibraryCalmsUptoSaid : Prop := libraryCalmsUptoRow.holds Try.pinned (OpenSpec.upto libraryCalmsSpec)

/-- 'roundtablelaw12.LibraryWeakens', WHERE WHAT IT READS IS OF BULK AT MOST 1048576: true; the input reads as it did. -/
def libraryWeakensUptoRow : OpenClaim := { program := "ytcbkggfipdldaaa", sum := "73b8c17f1c92098de92f263ce5f621ff31d1a010b48d3611f05bdf4de7c083df", func := "roundtable/roundtablelaw12.LibraryWeakens", spec := "libraryWeakens", unfollowed := true, recurses := true, apart := false, narrowed := true }
def LibraryWeakensUptoSaid : Prop := libraryWeakensUptoRow.holds Try.pinned (OpenSpec.upto libraryWeakensSpec)

/-- 'roundtablelaw12.LibraryNames', WHERE WHAT IT READS IS OF BULK AT MOST 1048576: true; the input reads as it did. -/
def libraryNamesUptoRow : OpenClaim := { program := "ytcbkggfipdldaaa", sum := "73b8c17f1c92098de92f263ce5f621ff31d1a010b48d3611f05bdf4de7c083df", func := "roundtable/roundtablelaw12.LibraryNames", spec := "libraryNames", unfollowed := true, recurses := true, apart := false, narrowed := true }
def LibraryNamesUptoSaid : Prop := libraryNamesUptoRow.holds Try.pinned (OpenSpec.upto libraryNamesSpec)

end Rows
end Go.Proofs.Ytcbkggfipdldaaa
