/-
  No cell of these rows narrows 'for every input' (looked for: loops, veiled, ifaces, maps, wideKeys, modest, calm, conditions, laid).
  DERIVED. THE GIVEN ROWS OF THIS SEAT. 8 by the template 'for every input the law returns true; each argument reads behind the call as it read before'; 0 by the template 'total and deterministic' (their statements: YtpbjhjkfobapeaaTotals.lean).
  GIVEN WITH THE SEED: the statements are not yours to turn. If you find one false, say at which input.
  Laid BY PROGRAM, IN A SANDBOX (cutbox-rows.mjs): the forced cells as the released guide's own fill.sh prints them over the translation 3c479cd815f500d3… (all of the seat's roots in one cut). By AI agents, Wed Nov 11 2026. No macro, syntax, notation, axiom, sorry.
-/
import Derived.Test.YtpbjhjkfobapeaaChecked
import GoSem.Claim
import GoSem.ClaimJoined
import GoSem.ClaimMapViews
import Derived.JoinedTies
import Derived.KernelRfl
namespace Go.Proofs.Ytpbjhjkfobapeaa
/- THE CELL 'sum', in the pinned program and in every row, IS THE sha256 OF THE DUMP (.gsa) THAT YtpbjhjkfobapeaaProg.lean LOADS. Nothing in Lean hashes anything: it is a label: what it is worth is what the hold of that sum in a sandbox is worth. -/
noncomputable def Try.pinned : Pinned := { name := "ytpbjhjkfobapeaa", sum := "3c479cd815f500d3371d12052243159e03b2b4e1267e875b0fd5b6af53de00e9", checked := Try.checked }
namespace Rows
def none {H : Type} : Left H := { results := [], args := [] }

/-- 'roundtablelaw55.WireMessages': WHATEVER THE INPUT: true; the input reads as it did. -/
def wireMessagesSpec : ChangeSpec := { name := "wireMessages", fn := fun _ => fun
  | [d1, d2, d3] => { results := [.lit (.bool true)], args := [d1, d2, d3] }
  | _ => none }
def wireMessagesRow : OpenClaim := { program := "ytpbjhjkfobapeaa", sum := "3c479cd815f500d3371d12052243159e03b2b4e1267e875b0fd5b6af53de00e9", func := "roundtable/roundtablelaw55.WireMessages", spec := "wireMessages", unfollowed := true, recurses := true, plainKeys := false, apart := false }
def WireMessagesSaid : Prop := wireMessagesRow.holds Try.pinned (OpenSpec.ofChange wireMessagesSpec)

/-- ITS FALSE NEIGHBOUR: 'it returns false'. Refute it at one input. -/
def wireMessagesWrong : ChangeSpec := { name := "wireMessages", fn := fun _ => fun
  | [d1, d2, d3] => { results := [.lit (.bool false)], args := [d1, d2, d3] }
  | _ => none }
def WireMessagesWrongFalsely : Prop := wireMessagesRow.holds Try.pinned (OpenSpec.ofChange wireMessagesWrong)

/-- 'roundtablelaw55.WireMachines': WHATEVER THE INPUT: true; the input reads as it did. -/
def wireMachinesSpec : ChangeSpec := { name := "wireMachines", fn := fun _ => fun
  | [d1, d2] => { results := [.lit (.bool true)], args := [d1, d2] }
  | _ => none }
def wireMachinesRow : OpenClaim := { program := "ytpbjhjkfobapeaa", sum := "3c479cd815f500d3371d12052243159e03b2b4e1267e875b0fd5b6af53de00e9", func := "roundtable/roundtablelaw55.WireMachines", spec := "wireMachines", unfollowed := true, recurses := true, plainKeys := false, apart := false }
def WireMachinesSaid : Prop := wireMachinesRow.holds Try.pinned (OpenSpec.ofChange wireMachinesSpec)

/-- ITS FALSE NEIGHBOUR: 'it returns false'. Refute it at one input. -/
def wireMachinesWrong : ChangeSpec := { name := "wireMachines", fn := fun _ => fun
  | [d1, d2] => { results := [.lit (.bool false)], args := [d1, d2] }
  | _ => none }
def WireMachinesWrongFalsely : Prop := wireMachinesRow.holds Try.pinned (OpenSpec.ofChange wireMachinesWrong)

/-- 'roundtablelaw55.WireSums': WHATEVER THE INPUT: true; the input reads as it did. -/
def wireSumsSpec : ChangeSpec := { name := "wireSums", fn := fun _ => fun
  | [d] => { results := [.lit (.bool true)], args := [d] }
  | _ => none }
def wireSumsRow : OpenClaim := { program := "ytpbjhjkfobapeaa", sum := "3c479cd815f500d3371d12052243159e03b2b4e1267e875b0fd5b6af53de00e9", func := "roundtable/roundtablelaw55.WireSums", spec := "wireSums", unfollowed := true, recurses := true, plainKeys := false, apart := false }
def WireSumsSaid : Prop := wireSumsRow.holds Try.pinned (OpenSpec.ofChange wireSumsSpec)

/-- ITS FALSE NEIGHBOUR: 'it returns false'. Refute it at one input. -/
def wireSumsWrong : ChangeSpec := { name := "wireSums", fn := fun _ => fun
  | [d] => { results := [.lit (.bool false)], args := [d] }
  | _ => none }
def WireSumsWrongFalsely : Prop := wireSumsRow.holds Try.pinned (OpenSpec.ofChange wireSumsWrong)

/-- 'roundtablelaw55.WireDiffers': WHATEVER THE INPUT: true; the input reads as it did. -/
def wireDiffersSpec : ChangeSpec := { name := "wireDiffers", fn := fun _ => fun
  | [d1, d2, d3] => { results := [.lit (.bool true)], args := [d1, d2, d3] }
  | _ => none }
def wireDiffersRow : OpenClaim := { program := "ytpbjhjkfobapeaa", sum := "3c479cd815f500d3371d12052243159e03b2b4e1267e875b0fd5b6af53de00e9", func := "roundtable/roundtablelaw55.WireDiffers", spec := "wireDiffers", unfollowed := true, recurses := true, plainKeys := false, apart := false }
def WireDiffersSaid : Prop := wireDiffersRow.holds Try.pinned (OpenSpec.ofChange wireDiffersSpec)

/-- ITS FALSE NEIGHBOUR: 'it returns false'. Refute it at one input. -/
def wireDiffersWrong : ChangeSpec := { name := "wireDiffers", fn := fun _ => fun
  | [d1, d2, d3] => { results := [.lit (.bool false)], args := [d1, d2, d3] }
  | _ => none }
def WireDiffersWrongFalsely : Prop := wireDiffersRow.holds Try.pinned (OpenSpec.ofChange wireDiffersWrong)

/-- 'roundtablelaw55.WireReturns': WHATEVER THE INPUT: true; the input reads as it did. -/
def wireReturnsSpec : ChangeSpec := { name := "wireReturns", fn := fun _ => fun
  | [d1, d2] => { results := [.lit (.bool true)], args := [d1, d2] }
  | _ => none }
def wireReturnsRow : OpenClaim := { program := "ytpbjhjkfobapeaa", sum := "3c479cd815f500d3371d12052243159e03b2b4e1267e875b0fd5b6af53de00e9", func := "roundtable/roundtablelaw55.WireReturns", spec := "wireReturns", unfollowed := true, recurses := true, plainKeys := false, apart := false }
def WireReturnsSaid : Prop := wireReturnsRow.holds Try.pinned (OpenSpec.ofChange wireReturnsSpec)

/-- ITS FALSE NEIGHBOUR: 'it returns false'. Refute it at one input. -/
def wireReturnsWrong : ChangeSpec := { name := "wireReturns", fn := fun _ => fun
  | [d1, d2] => { results := [.lit (.bool false)], args := [d1, d2] }
  | _ => none }
def WireReturnsWrongFalsely : Prop := wireReturnsRow.holds Try.pinned (OpenSpec.ofChange wireReturnsWrong)

/-- 'roundtablelaw55.WireDamages': WHATEVER THE INPUT: true; the input reads as it did. -/
def wireDamagesSpec : ChangeSpec := { name := "wireDamages", fn := fun _ => fun
  | [d1, d2, d3] => { results := [.lit (.bool true)], args := [d1, d2, d3] }
  | _ => none }
def wireDamagesRow : OpenClaim := { program := "ytpbjhjkfobapeaa", sum := "3c479cd815f500d3371d12052243159e03b2b4e1267e875b0fd5b6af53de00e9", func := "roundtable/roundtablelaw55.WireDamages", spec := "wireDamages", unfollowed := true, recurses := true, plainKeys := false, apart := false }
def WireDamagesSaid : Prop := wireDamagesRow.holds Try.pinned (OpenSpec.ofChange wireDamagesSpec)

/-- ITS FALSE NEIGHBOUR: 'it returns false'. Refute it at one input. -/
def wireDamagesWrong : ChangeSpec := { name := "wireDamages", fn := fun _ => fun
  | [d1, d2, d3] => { results := [.lit (.bool false)], args := [d1, d2, d3] }
  | _ => none }
def WireDamagesWrongFalsely : Prop := wireDamagesRow.holds Try.pinned (OpenSpec.ofChange wireDamagesWrong)

/-- 'roundtablelaw55.WireKeeps': WHATEVER THE INPUT: true; the input reads as it did. -/
def wireKeepsSpec : ChangeSpec := { name := "wireKeeps", fn := fun _ => fun
  | [d1, d2] => { results := [.lit (.bool true)], args := [d1, d2] }
  | _ => none }
def wireKeepsRow : OpenClaim := { program := "ytpbjhjkfobapeaa", sum := "3c479cd815f500d3371d12052243159e03b2b4e1267e875b0fd5b6af53de00e9", func := "roundtable/roundtablelaw55.WireKeeps", spec := "wireKeeps", unfollowed := true, recurses := true, plainKeys := false, apart := false }
def WireKeepsSaid : Prop := wireKeepsRow.holds Try.pinned (OpenSpec.ofChange wireKeepsSpec)

/-- ITS FALSE NEIGHBOUR: 'it returns false'. Refute it at one input. -/
def wireKeepsWrong : ChangeSpec := { name := "wireKeeps", fn := fun _ => fun
  | [d1, d2] => { results := [.lit (.bool false)], args := [d1, d2] }
  | _ => none }
def WireKeepsWrongFalsely : Prop := wireKeepsRow.holds Try.pinned (OpenSpec.ofChange wireKeepsWrong)

/-- 'roundtablelaw55.WireReads': WHATEVER THE INPUT: true; the input reads as it did. -/
def wireReadsSpec : ChangeSpec := { name := "wireReads", fn := fun _ => fun
  | [d] => { results := [.lit (.bool true)], args := [d] }
  | _ => none }
def wireReadsRow : OpenClaim := { program := "ytpbjhjkfobapeaa", sum := "3c479cd815f500d3371d12052243159e03b2b4e1267e875b0fd5b6af53de00e9", func := "roundtable/roundtablelaw55.WireReads", spec := "wireReads", unfollowed := true, recurses := true, plainKeys := false, apart := false }
def WireReadsSaid : Prop := wireReadsRow.holds Try.pinned (OpenSpec.ofChange wireReadsSpec)

/-- ITS FALSE NEIGHBOUR: 'it returns false'. Refute it at one input. -/
def wireReadsWrong : ChangeSpec := { name := "wireReads", fn := fun _ => fun
  | [d] => { results := [.lit (.bool false)], args := [d] }
  | _ => none }
def WireReadsWrongFalsely : Prop := wireReadsRow.holds Try.pinned (OpenSpec.ofChange wireReadsWrong)

/- THE SECOND FORM. 'bulk': how many values and letters a reading holds, each counted each time it is reached (what is shared counts as often as it is met; a slice's spare places count too). A statement '..UptoSaid' is the law's where the arguments, and the package variables that the reading takes, are together of bulk at most 1048576: NARROWER than '..Said'. Prove '..Said' where nothing that the law and all that it calls make is longer than what came in: it says more and counts as full. Else prove '..UptoSaid'. A law counts once. -/
mutual
def uptoBulk {H : Type} : DataW H → Nat
  | .lit (.string bytes) => bytes.length + 1
  | .lit _ => 1
  | .nil => 1
  | .ptr d => uptoBulk d + 1
  | .slice elems spare => uptoBulkAll elems + uptoBulkAll spare + 1
  | .agg parts => uptoBulkAll parts + 1
  | .iface _ d => uptoBulk d + 1
  | .map entries => uptoBulkEntries entries + 1
  | .held _ => 1
def uptoBulkAll {H : Type} : List (DataW H) → Nat
  | [] => 0
  | d :: r => uptoBulk d + uptoBulkAll r
def uptoBulkEntries {H : Type} : List (Lit × DataW H) → Nat
  | [] => 0
  | x :: r => uptoBulkEntry x + uptoBulkEntries r
def uptoBulkEntry {H : Type} : Lit × DataW H → Nat
  | (.string bytes, d) => bytes.length + uptoBulk d + 1
  | (_, d) => uptoBulk d + 1
 end
def uptoSmall : (H : Type) → List (DataW H) → Bool := fun _ ds => decide (uptoBulkAll ds ≤ 1048576)
def OpenSpec.upto (s : _root_.Go.ChangeSpec) : _root_.Go.OpenSpec := { _root_.Go.OpenSpec.ofChange s with cond := some uptoSmall }

/-- 'roundtablelaw55.WireMessages', WHERE WHAT IT READS IS OF BULK AT MOST 1048576: true; the input reads as it did. -/
def wireMessagesUptoRow : OpenClaim := { program := "ytpbjhjkfobapeaa", sum := "3c479cd815f500d3371d12052243159e03b2b4e1267e875b0fd5b6af53de00e9", func := "roundtable/roundtablelaw55.WireMessages", spec := "wireMessages", unfollowed := true, recurses := true, plainKeys := false, apart := false, narrowed := true }
def WireMessagesUptoSaid : Prop := wireMessagesUptoRow.holds Try.pinned (OpenSpec.upto wireMessagesSpec)

/-- 'roundtablelaw55.WireMachines', WHERE WHAT IT READS IS OF BULK AT MOST 1048576: true; the input reads as it did. -/
def wireMachinesUptoRow : OpenClaim := { program := "ytpbjhjkfobapeaa", sum := "3c479cd815f500d3371d12052243159e03b2b4e1267e875b0fd5b6af53de00e9", func := "roundtable/roundtablelaw55.WireMachines", spec := "wireMachines", unfollowed := true, recurses := true, plainKeys := false, apart := false, narrowed := true }
def WireMachinesUptoSaid : Prop := wireMachinesUptoRow.holds Try.pinned (OpenSpec.upto wireMachinesSpec)

/-- 'roundtablelaw55.WireSums', WHERE WHAT IT READS IS OF BULK AT MOST 1048576: true; the input reads as it did. -/
def wireSumsUptoRow : OpenClaim := { program := "ytpbjhjkfobapeaa", sum := "3c479cd815f500d3371d12052243159e03b2b4e1267e875b0fd5b6af53de00e9", func := "roundtable/roundtablelaw55.WireSums", spec := "wireSums", unfollowed := true, recurses := true, plainKeys := false, apart := false, narrowed := true }
def WireSumsUptoSaid : Prop := wireSumsUptoRow.holds Try.pinned (OpenSpec.upto wireSumsSpec)

/-- 'roundtablelaw55.WireDiffers', WHERE WHAT IT READS IS OF BULK AT MOST 1048576: true; the input reads as it did. -/
def wireDiffersUptoRow : OpenClaim := { program := "ytpbjhjkfobapeaa", sum := "3c479cd815f500d3371d12052243159e03b2b4e1267e875b0fd5b6af53de00e9", func := "roundtable/roundtablelaw55.WireDiffers", spec := "wireDiffers", unfollowed := true, recurses := true, plainKeys := false, apart := false, narrowed := true }
def WireDiffersUptoSaid : Prop := wireDiffersUptoRow.holds Try.pinned (OpenSpec.upto wireDiffersSpec)

/-- 'roundtablelaw55.WireReturns', WHERE WHAT IT READS IS OF BULK AT MOST 1048576: true; the input reads as it did. -/
def wireReturnsUptoRow : OpenClaim := { program := "ytpbjhjkfobapeaa", sum := "3c479cd815f500d3371d12052243159e03b2b4e1267e875b0fd5b6af53de00e9", func := "roundtable/roundtablelaw55.WireReturns", spec := "wireReturns", unfollowed := true, recurses := true, plainKeys := false, apart := false, narrowed := true }
def WireReturnsUptoSaid : Prop := wireReturnsUptoRow.holds Try.pinned (OpenSpec.upto wireReturnsSpec)

/-- 'roundtablelaw55.WireDamages', WHERE WHAT IT READS IS OF BULK AT MOST 1048576: true; the input reads as it did. -/
def wireDamagesUptoRow : OpenClaim := { program := "ytpbjhjkfobapeaa", sum := "3c479cd815f500d3371d12052243159e03b2b4e1267e875b0fd5b6af53de00e9", func := "roundtable/roundtablelaw55.WireDamages", spec := "wireDamages", unfollowed := true, recurses := true, plainKeys := false, apart := false, narrowed := true }
def WireDamagesUptoSaid : Prop := wireDamagesUptoRow.holds Try.pinned (OpenSpec.upto wireDamagesSpec)

/-- 'roundtablelaw55.WireKeeps', WHERE WHAT IT READS IS OF BULK AT MOST 1048576: true; the input reads as it did. -/
def wireKeepsUptoRow : OpenClaim := { program := "ytpbjhjkfobapeaa", sum := "3c479cd815f500d3371d12052243159e03b2b4e1267e875b0fd5b6af53de00e9", func := "roundtable/roundtablelaw55.WireKeeps", spec := "wireKeeps", unfollowed := true, recurses := true, plainKeys := false, apart := false, narrowed := true }
def WireKeepsUptoSaid : Prop := wireKeepsUptoRow.holds Try.pinned (OpenSpec.upto wireKeepsSpec)

/-- 'roundtablelaw55.WireReads', WHERE WHAT IT READS IS OF BULK AT MOST 1048576: true; the input reads as it did. -/
def wireReadsUptoRow : OpenClaim := { program := "ytpbjhjkfobapeaa", sum := "3c479cd815f500d3371d12052243159e03b2b4e1267e875b0fd5b6af53de00e9", func := "roundtable/roundtablelaw55.WireReads", spec := "wireReads", unfollowed := true, recurses := true, plainKeys := false, apart := false, narrowed := true }
def WireReadsUptoSaid : Prop := wireReadsUptoRow.holds Try.pinned (OpenSpec.upto wireReadsSpec)

end Rows
end Go.Proofs.Ytpbjhjkfobapeaa
