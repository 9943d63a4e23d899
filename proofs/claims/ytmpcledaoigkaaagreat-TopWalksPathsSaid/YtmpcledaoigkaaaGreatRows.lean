/-
  No cell of these rows narrows 'for every input' (looked for: loops, veiled, ifaces, maps, wideKeys, modest, calm, conditions, laid).
  DERIVED. THE GIVEN ROWS OF THIS SEAT. 2 by the template 'for every input the law returns true; each argument reads behind the call as it read before'; 0 by the template 'total and deterministic' (their statements: YtmpcledaoigkaaaGreatTotals.lean).
  GIVEN WITH THE SEED: the statements are not yours to turn. If you find one false, say at which input.
  Laid BY PROGRAM, IN A SANDBOX (cutbox-rows.mjs): the forced cells as the released guide's own fill.sh prints them over the translation 6c9880ad22d32afd… (all of the seat's roots in one cut). By AI agents, Wed Nov 11 2026. No macro, syntax, notation, axiom, sorry.
-/
import Derived.Test.YtmpcledaoigkaaaGreatChecked
import GoSem.Claim
import GoSem.ClaimJoined
import GoSem.ClaimMapViews
import Derived.JoinedTies
import Derived.KernelRfl
namespace Go.Proofs.YtmpcledaoigkaaaGreat
/- THE CELL 'sum', in the pinned program and in every row, IS THE sha256 OF THE DUMP (.gsa) THAT YtmpcledaoigkaaaGreatProg.lean LOADS. Nothing in Lean hashes anything: it is a label: what it is worth is what the hold of that sum in a sandbox is worth. -/
noncomputable def Tryz.pinned : Pinned := { name := "ytmpcledaoigkaaagreat", sum := "6c9880ad22d32afdbb8ca421611ae758c4e83ed3230814b9df9d42f6bb07b069", checked := Tryz.checked }
namespace Rows
def none {H : Type} : Left H := { results := [], args := [] }

/-- 'roundtabletop.TopWalksPaths': WHATEVER THE INPUT: true; the input reads as it did. -/
def topWalksPathsSpec : ChangeSpec := { name := "topWalksPaths", fn := fun _ => fun
  | [d1, d2] => { results := [.lit (.bool true)], args := [d1, d2] }
  | _ => none }
def topWalksPathsRow : OpenClaim := { program := "ytmpcledaoigkaaagreat", sum := "6c9880ad22d32afdbb8ca421611ae758c4e83ed3230814b9df9d42f6bb07b069", func := "roundtable/roundtabletop.TopWalksPaths", spec := "topWalksPaths", unfollowed := true, recurses := true, plainKeys := false, apart := false }
def TopWalksPathsSaid : Prop := topWalksPathsRow.holds Tryz.pinned (OpenSpec.ofChange topWalksPathsSpec)

/-- ITS FALSE NEIGHBOUR: 'it returns false'. Refute it at one input. -/
def topWalksPathsWrong : ChangeSpec := { name := "topWalksPaths", fn := fun _ => fun
  | [d1, d2] => { results := [.lit (.bool false)], args := [d1, d2] }
  | _ => none }
def TopWalksPathsWrongFalsely : Prop := topWalksPathsRow.holds Tryz.pinned (OpenSpec.ofChange topWalksPathsWrong)

/-- 'roundtabletop.TopComponentsAgree': WHATEVER THE INPUT: true; the input reads as it did. -/
def topComponentsAgreeSpec : ChangeSpec := { name := "topComponentsAgree", fn := fun _ => fun
  | [d1, d2] => { results := [.lit (.bool true)], args := [d1, d2] }
  | _ => none }
def topComponentsAgreeRow : OpenClaim := { program := "ytmpcledaoigkaaagreat", sum := "6c9880ad22d32afdbb8ca421611ae758c4e83ed3230814b9df9d42f6bb07b069", func := "roundtable/roundtabletop.TopComponentsAgree", spec := "topComponentsAgree", unfollowed := true, recurses := true, plainKeys := false, apart := false }
def TopComponentsAgreeSaid : Prop := topComponentsAgreeRow.holds Tryz.pinned (OpenSpec.ofChange topComponentsAgreeSpec)

/-- ITS FALSE NEIGHBOUR: 'it returns false'. Refute it at one input. -/
def topComponentsAgreeWrong : ChangeSpec := { name := "topComponentsAgree", fn := fun _ => fun
  | [d1, d2] => { results := [.lit (.bool false)], args := [d1, d2] }
  | _ => none }
def TopComponentsAgreeWrongFalsely : Prop := topComponentsAgreeRow.holds Tryz.pinned (OpenSpec.ofChange topComponentsAgreeWrong)

/- THE SECOND FORM. 'bulk': how many values and letters a reading holds, each counted each time it is reached (what is shared counts as often as it is met; a slice's spare places count too). A statement '..UptoSaid' is the law's where the arguments, and the package variables that the reading takes, are together of bulk at most 1048576: NARROWER than '..Said'. Prove '..Said' where nothing that the law and all that it calls make is longer than what came in: it says more and counts as full. Else prove '..UptoSaid'. A law counts once. -/
mutual
def uptoBulk {H : Type} : DataW H → Nat
  | .lit (.string bytes) => bytes.length + 1
  | .lit _ => 1
  | .nil => 1
  | .ptr d => uptoBulk d + 1
  | .slice elems spare => uptoBulkAll elems + uptoBulkAll spare + 1
  | .agg parts => uptoBulkAll parts + 1
  | .iface _ d => uptoBulk d + 1
  | .map entries => uptoBulkEntries entries + 1
  | .held _ => 1
def uptoBulkAll {H : Type} : List (DataW H) → Nat
  | [] => 0
  | d :: r => uptoBulk d + uptoBulkAll r
def uptoBulkEntries {H : Type} : List (Lit × DataW H) → Nat
  | [] => 0
  | x :: r => uptoBulkEntry x + uptoBulkEntries r
def uptoBulkEntry {H : Type} : Lit × DataW H → Nat
  | (.string bytes, d) => bytes.length + uptoBulk d + 1
  | (_, d) => uptoBulk d + 1
 end
def uptoSmall : (H : Type) → List (DataW H) → Bool := fun _ ds => decide (uptoBulkAll ds ≤ 1048576)
def OpenSpec.upto (s : _root_.Go.ChangeSpec) : _root_.Go.OpenSpec := { _root_.Go.OpenSpec.ofChange s with cond := some uptoSmall }

/-- 'roundtabletop.TopWalksPaths', WHERE WHAT IT READS IS OF BULK AT MOST 1048576: true; the input reads as it did. -/
def topWalksPathsUptoRow : OpenClaim := { program := "ytmpcledaoigkaaagreat", sum := "6c9880ad22d32afdbb8ca421611ae758c4e83ed3230814b9df9d42f6bb07b069", func := "roundtable/roundtabletop.TopWalksPaths", spec := "topWalksPaths", unfollowed := true, recurses := true, plainKeys := false, apart := false, narrowed := true }
def TopWalksPathsUptoSaid : Prop := topWalksPathsUptoRow.holds Tryz.pinned (OpenSpec.upto topWalksPathsSpec)

/-- 'roundtabletop.TopComponentsAgree', WHERE WHAT IT READS IS OF BULK AT MOST 1048576: true; the input reads as it did. -/
def topComponentsAgreeUptoRow : OpenClaim := { program := "ytmpcledaoigkaaagreat", sum := "6c9880ad22d32afdbb8ca421611ae758c4e83ed3230814b9df9d42f6bb07b069", func := "roundtable/roundtabletop.TopComponentsAgree", spec := "topComponentsAgree", unfollowed := true, recurses := true, plainKeys := false, apart := false, narrowed := true }
def TopComponentsAgreeUptoSaid : Prop := topComponentsAgreeUptoRow.holds Tryz.pinned (OpenSpec.upto topComponentsAgreeSpec)

end Rows
end Go.Proofs.YtmpcledaoigkaaaGreat
