/-
  No cell of these rows narrows 'for every input' (looked for: loops, veiled, ifaces, maps, wideKeys, modest, calm, conditions, laid).
  DERIVED. THE GIVEN ROWS OF THIS SEAT. 2 by the template 'for every input the law returns true; each argument reads behind the call as it read before'; 0 by the template 'total and deterministic' (their statements: YtbmjaojeplmhnaaGreatTotals.lean).
  GIVEN WITH THE SEED: the statements are not yours to turn. If you find one false, say at which input.
  Laid BY PROGRAM, IN A SANDBOX (cutbox-rows.mjs): the forced cells as the released guide's own fill.sh prints them over the translation 2495fa9abaca0bc4… (all of the seat's roots in one cut). By AI agents, Wed Nov 11 2026. No macro, syntax, notation, axiom, sorry.
-/
import Derived.Test.YtbmjaojeplmhnaaGreatChecked
import GoSem.Claim
import GoSem.ClaimJoined
import GoSem.ClaimMapViews
import Derived.JoinedTies
import Derived.KernelRfl
namespace Go.Proofs.YtbmjaojeplmhnaaGreat
/- THE CELL 'sum', in the pinned program and in every row, IS THE sha256 OF THE DUMP (.gsa) THAT YtbmjaojeplmhnaaGreatProg.lean LOADS. Nothing in Lean hashes anything: it is a label: what it is worth is what the hold of that sum in a sandbox is worth. -/
noncomputable def Tryz.pinned : Pinned := { name := "ytbmjaojeplmhnaagreat", sum := "2495fa9abaca0bc4b0d3368ff07a928d138a1a762c46e8e080c3bc0210edd5d2", checked := Tryz.checked }
namespace Rows
def none {H : Type} : Left H := { results := [], args := [] }

/-- 'roundtabletop.TopViewsRenamed': WHATEVER THE INPUT: true; the input reads as it did. -/
def topViewsRenamedSpec : ChangeSpec := { name := "topViewsRenamed", fn := fun _ => fun
  | [d1, d2, d3] => { results := [.lit (.bool true)], args := [d1, d2, d3] }
  | _ => none }
def topViewsRenamedRow : OpenClaim := { program := "ytbmjaojeplmhnaagreat", sum := "2495fa9abaca0bc4b0d3368ff07a928d138a1a762c46e8e080c3bc0210edd5d2", func := "roundtable/roundtabletop.TopViewsRenamed", spec := "topViewsRenamed", unfollowed := true, recurses := true, plainKeys := false, apart := false }
def TopViewsRenamedSaid : Prop := topViewsRenamedRow.holds Tryz.pinned (OpenSpec.ofChange topViewsRenamedSpec)

/-- ITS FALSE NEIGHBOUR: 'it returns false'. Refute it at one input. -/
def topViewsRenamedWrong : ChangeSpec := { name := "topViewsRenamed", fn := fun _ => fun
  | [d1, d2, d3] => { results := [.lit (.bool false)], args := [d1, d2, d3] }
  | _ => none }
def TopViewsRenamedWrongFalsely : Prop := topViewsRenamedRow.holds Tryz.pinned (OpenSpec.ofChange topViewsRenamedWrong)

/-- 'roundtabletop.TopSystemsUnfold': WHATEVER THE INPUT: true; the input reads as it did. -/
def topSystemsUnfoldSpec : ChangeSpec := { name := "topSystemsUnfold", fn := fun _ => fun
  | [d] => { results := [.lit (.bool true)], args := [d] }
  | _ => none }
def topSystemsUnfoldRow : OpenClaim := { program := "ytbmjaojeplmhnaagreat", sum := "2495fa9abaca0bc4b0d3368ff07a928d138a1a762c46e8e080c3bc0210edd5d2", func := "roundtable/roundtabletop.TopSystemsUnfold", spec := "topSystemsUnfold", unfollowed := true, recurses := true, plainKeys := false, apart := false }
def TopSystemsUnfoldSaid : Prop := topSystemsUnfoldRow.holds Tryz.pinned (OpenSpec.ofChange topSystemsUnfoldSpec)

/-- ITS FALSE NEIGHBOUR: 'it returns false'. Refute it at one input. -/
def topSystemsUnfoldWrong : ChangeSpec := { name := "topSystemsUnfold", fn := fun _ => fun
  | [d] => { results := [.lit (.bool false)], args := [d] }
  | _ => none }
def TopSystemsUnfoldWrongFalsely : Prop := topSystemsUnfoldRow.holds Tryz.pinned (OpenSpec.ofChange topSystemsUnfoldWrong)

/- THE SECOND FORM. 'bulk': how many values and letters a reading holds, each counted each time it is reached (what is shared counts as often as it is met; a slice's spare places count too). A statement '..UptoSaid' is the law's where the arguments, and the package variables that the reading takes, are together of bulk at most 1048576: NARROWER than '..Said'. Prove '..Said' where nothing that the law and all that it calls make is longer than what came in: it says more and counts as full. Else prove '..UptoSaid'. A law counts once. -/
mutual
def uptoBulk {H : Type} : DataW H → Nat
  | .lit (.string bytes) => bytes.length + 1
  | .lit _ => 1
  | .nil => 1
  | .ptr d => uptoBulk d + 1
  | .slice elems spare => uptoBulkAll elems + uptoBulkAll spare + 1
  | .agg parts => uptoBulkAll parts + 1
  | .iface _ d => uptoBulk d + 1
  | .map entries => uptoBulkEntries entries + 1
  | .held _ => 1
def uptoBulkAll {H : Type} : List (DataW H) → Nat
  | [] => 0
  | d :: r => uptoBulk d + uptoBulkAll r
def uptoBulkEntries {H : Type} : List (Lit × DataW H) → Nat
  | [] => 0
  | x :: r => uptoBulkEntry x + uptoBulkEntries r
def uptoBulkEntry {H : Type} : Lit × DataW H → Nat
  | (.string bytes, d) => bytes.length + uptoBulk d + 1
  | (_, d) => uptoBulk d + 1
 end
def uptoSmall : (H : Type) → List (DataW H) → Bool := fun _ ds => decide (uptoBulkAll ds ≤ 1048576)
def OpenSpec.upto (s : _root_.Go.ChangeSpec) : _root_.Go.OpenSpec := { _root_.Go.OpenSpec.ofChange s with cond := some uptoSmall }

/-- 'roundtabletop.TopViewsRenamed', WHERE WHAT IT READS IS OF BULK AT MOST 1048576: true; the input reads as it did. -/
def topViewsRenamedUptoRow : OpenClaim := { program := "ytbmjaojeplmhnaagreat", sum := "2495fa9abaca0bc4b0d3368ff07a928d138a1a762c46e8e080c3bc0210edd5d2", func := "roundtable/roundtabletop.TopViewsRenamed", spec := "topViewsRenamed", unfollowed := true, recurses := true, plainKeys := false, apart := false, narrowed := true }
def TopViewsRenamedUptoSaid : Prop := topViewsRenamedUptoRow.holds Tryz.pinned (OpenSpec.upto topViewsRenamedSpec)

/-- 'roundtabletop.TopSystemsUnfold', WHERE WHAT IT READS IS OF BULK AT MOST 1048576: true; the input reads as it did. -/
def topSystemsUnfoldUptoRow : OpenClaim := { program := "ytbmjaojeplmhnaagreat", sum := "2495fa9abaca0bc4b0d3368ff07a928d138a1a762c46e8e080c3bc0210edd5d2", func := "roundtable/roundtabletop.TopSystemsUnfold", spec := "topSystemsUnfold", unfollowed := true, recurses := true, plainKeys := false, apart := false, narrowed := true }
def TopSystemsUnfoldUptoSaid : Prop := topSystemsUnfoldUptoRow.holds Tryz.pinned (OpenSpec.upto topSystemsUnfoldSpec)

end Rows
end Go.Proofs.YtbmjaojeplmhnaaGreat
