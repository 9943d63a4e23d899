/- Contracts of functions and plain laws, for all inputs that the theorems name. -/
import Derived.Test.YtpbjhjkfobapeaaXG4
import Derived.Test.YtpbjhjkfobapeaaXG5
import Derived.Lib.SmallJoins
import Derived.ChangeMaps5
import Derived.SizedLaws

/- WireMachines: for every input the law returns true, and each argument reads behind the call as it read before; no condition. -/
set_option linter.unusedVariables false
namespace Go.Proofs.Ytpbjhjkfobapeaa.wireMachines
open Go Go.Abs Go.RowKit Go.ChangeShapes Go.WideShapes Go.ChangeAt Go.Joins
open Go.ChangeMaps (open_string shut_string)
set_option maxRecDepth 100000 in
theorem lifted (os:Os) (started:os.Started) (H:Type) (enc:TypeId × Value→H) :
    ReturnsInHanded {} Try.checked os 4 .any (Rows.wireMachinesSpec.pre6 enc Try.prog Try.f4 Rows.wireMachinesRow.domain false) (Rows.wireMachinesSpec.post enc Try.prog Try.f4 false true false false):=by
 refine returnsInHanded_of_change_sized (C:=Try.checked) own started (by kernel_rfl) Try.func4
  (ChangeSpec.witness6 (enc:=enc) (C:=Try.checked) false ⟨#[],#[.agg #[.int .i64 0,.int .i64 0,.int .i64 0,.int .i64 0,.slice none 0 0,.slice none 0 0,.slice none 0 0,.slice none 0 0],.string ⟨#[]⟩],[]⟩ 20 (by kernel_rfl) (by kernel_rfl) (by kernel_rfl) (by kernel_rfl)) ?_
 intro W base args ds gs before hval0 hW hcnd hwt _
 have hval:∀ (j:Nat) t v,Try.f4.params[j]?=some t→args[j]?=some v→Value.okWide Try.prog W .any base t v:=hval0
 have hW':=hW
 obtain ⟨p,q,hA0,hV,rfl,hfz,hnd⟩:=hW
 have hA:DataW.TrodAll enc Try.prog W 0 (fun _=>true) true Try.f4.params.toList args.toList ds p:=hA0
 have hA1:=hA
 obtain ⟨rfl,rfl⟩:=trodVars_none hV
 have hlt:∀ x ∈ p,x.block < W.heap.size:=fun x hx=>by simpa using hW'.lt x (List.mem_append_left _ hx)
 have hwt1:∀ {i:Nat} {t:TypeId} {d:DataW H},Try.f4.params.toList[i]?=some t→ds[i]?=some d→∀ k ∈ d.weights Try.prog t,k ≤ reachBytes:=fun {i t d} h1 h2 k hk=>by
  have h3:=lk (P:=Try.prog) h1 h2 k hk
  have h4:(DataW.weightsEach Try.prog (Try.f4.params.toList ++ (Rows.wireMachinesSpec.plain.varTypes Try.prog)) (ds ++ [])).all (· ≤ reachBytes)=true:=hwt
  rw [List.append_nil,show Rows.wireMachinesSpec.plain.varTypes Try.prog=[] by kernel_rfl,List.append_nil,List.all_eq_true] at h4
  exact of_decide_eq_true (h4 _ h3)
 rw [Try.params4] at hA hval hwt1
 obtain ⟨v0,v1,d0,d1,p0,p1,hax,rfl,rfl,h0,h1⟩:=trodAll_two hA
 subst hax
 obtain ⟨m,hm,r0⟩:=oM.argA (by kernel_rfl) (fun m=>⟨_,rfl⟩) (hval 0 27 v0 rfl rfl) h0 (hwt1 (i:=0) rfl rfl)
 obtain ⟨s,rfl,_,_,ws⟩:=open_string Try.underlying9 (hval 1 9 v1 rfl rfl) h1
 have hcall:Calls Try.prog 4 (([v0,.string s]):List Value).toArray W fun e w'=>e=.returned (.bool true)∧Below W.heap.size W w':=pt (Ca m s.data.toList hm (by show s.data.toList.length ≤ 9223372036854775807; rw [Array.length_toList]; exact ws)) W (so r0 (so (.str _) yF))
 refine hcall.mono fun e W' ⟨he,hg⟩=>?_
 subst he
 exact ⟨_,rfl,ri (pv:=[]) hW' (fun _ _ _=>(trodAll_cons_mk (shut_bool Try.underlying4 _) trodAll_mk0))
  (fun sp hsp=>lV CM hg (by rw [Try.params4]; intro t ht; simp only [List.mem_cons,List.not_mem_nil,or_false] at ht; rcases ht with rfl | rfl <;> exact ⟨by kernel_rfl,of_decide_eq_true (by kernel_rfl)⟩) hA1 hlt (fun x hx=>hsp x (List.mem_append_left _ hx))) (fun _ _=>rfl) rfl
  hg (ok_one (by kernel_rfl) rfl (okWide_bool_mk Try.underlying4 _))⟩
theorem over:Rows.wireMachinesRow.holds Try.pinned (OpenSpec.ofChange Rows.wireMachinesSpec) :=
 OpenClaim.holds_of_wide 4 Try.f4 rfl rfl rfl rfl rfl rfl rfl ⟨rfl,rfl,rfl,rfl,rfl⟩ rfl rfl rfl rfl rfl (by kernel_rfl) Try.func4 (by kernel_rfl)
  (of_decide_eq_true (by kernel_rfl)) (by unfold Func.isWrapper; first | (rw [if_pos (by decide +kernel)]; kernel_rfl) | (rw [if_neg (by decide +kernel)]; exact ⟨rfl,rfl⟩))
  (fun os started H enc _=>lifted os started H enc)
theorem proved:Rows.WireMachinesSaid :=
 over
end Go.Proofs.Ytpbjhjkfobapeaa.wireMachines