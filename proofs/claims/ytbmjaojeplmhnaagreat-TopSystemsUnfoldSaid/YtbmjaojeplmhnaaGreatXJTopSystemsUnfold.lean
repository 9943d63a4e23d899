/- Contracts of functions and plain laws, for all inputs that the theorems name. -/
import Derived.Test.YtbmjaojeplmhnaaGreatXG4
import Derived.Test.YtbmjaojeplmhnaaGreatXG6
import Derived.Test.YtbmjaojeplmhnaaGreatXG3
import Derived.Lib.SmallJoins
import Derived.ChangeMaps5
import Derived.SizedLaws

/- TopSystemsUnfold: for every input the law returns true, and each argument reads behind the call as it read before; no condition. -/
set_option linter.unusedVariables false
namespace Go.Proofs.YtbmjaojeplmhnaaGreat.topSystemsUnfold
open Go Go.Abs Go.RowKit Go.ChangeShapes Go.WideShapes Go.ChangeAt Go.Joins
set_option maxRecDepth 100000 in
theorem lifted (os:Os) (started:os.Started) (H:Type) (enc:TypeId × Value→H) :
    ReturnsInHanded {} Tryz.checked os 4 .any (Rows.topSystemsUnfoldSpec.pre6 enc Tryz.prog Tryz.f4 Rows.topSystemsUnfoldRow.domain false) (Rows.topSystemsUnfoldSpec.post enc Tryz.prog Tryz.f4 false true false false):=by
 refine returnsInHanded_of_change_sized (C:=Tryz.checked) own started (by kernel_rfl) Tryz.func4
  (ChangeSpec.witness6 (enc:=enc) (C:=Tryz.checked) false ⟨#[],#[.agg #[.int .i64 0,.int .i64 0,.int .i64 0,.slice none 0 0,.int .i64 0,.slice none 0 0,.int .i64 0]],[]⟩ 20 (by kernel_rfl) (by kernel_rfl) (by kernel_rfl) (by kernel_rfl)) ?_
 intro W base args ds gs before hval0 hW hcnd hwt _
 have hval:∀ (j:Nat) t v,Tryz.f4.params[j]?=some t→args[j]?=some v→Value.okWide Tryz.prog W .any base t v:=hval0
 have hW':=hW
 obtain ⟨p,q,hA0,hV,rfl,hfz,hnd⟩:=hW
 have hA:DataW.TrodAll enc Tryz.prog W 0 (fun _=>true) true Tryz.f4.params.toList args.toList ds p:=hA0
 have hA1:=hA
 obtain ⟨rfl,rfl⟩:=trodVars_none hV
 have hlt:∀ x ∈ p,x.block < W.heap.size:=fun x hx=>by simpa using hW'.lt x (List.mem_append_left _ hx)
 have hwt1:∀ {i:Nat} {t:TypeId} {d:DataW H},Tryz.f4.params.toList[i]?=some t→ds[i]?=some d→∀ k ∈ d.weights Tryz.prog t,k ≤ reachBytes:=fun {i t d} h1 h2 k hk=>by
  have h3:=oV (P:=Tryz.prog) h1 h2 k hk
  have h4:(DataW.weightsEach Tryz.prog (Tryz.f4.params.toList ++ (Rows.topSystemsUnfoldSpec.plain.varTypes Tryz.prog)) (ds ++ [])).all (· ≤ reachBytes)=true:=hwt
  rw [List.append_nil,show Rows.topSystemsUnfoldSpec.plain.varTypes Tryz.prog=[] by kernel_rfl,List.append_nil,List.all_eq_true] at h4
  exact of_decide_eq_true (h4 _ h3)
 rw [Tryz.params4] at hA hval hwt1
 obtain ⟨v0,d0,hax,rfl,h0⟩:=trodAll_one hA
 subst hax
 obtain ⟨a0,g0,r0⟩:=RU.argA (by kernel_rfl) (fun m=>⟨_,rfl⟩) (hval 0 29 v0 rfl rfl) h0 (hwt1 (i:=0) rfl rfl)
 have hcall:Calls Tryz.prog 4 (([v0]):List Value).toArray W fun e w'=>e=.returned (.bool true)∧Below W.heap.size W w':=ud (Cw a0 g0) W (FA r0 Gl)
 refine hcall.mono fun e W' ⟨he,hg⟩=>?_
 subst he
 exact ⟨_,rfl,wB (pv:=[]) hW' (fun _ _ _=>(trodAll_cons_mk (shut_bool Tryz.underlying4 _) trodAll_mk0))
  (fun sp hsp=>pN QM hg (by rw [Tryz.params4]; intro t ht; simp only [List.mem_cons,List.not_mem_nil,or_false] at ht; subst ht; exact ⟨by kernel_rfl,of_decide_eq_true (by kernel_rfl)⟩) hA1 hlt (fun x hx=>hsp x (List.mem_append_left _ hx))) (fun _ _=>rfl) rfl
  hg (ok_one (by kernel_rfl) rfl (okWide_bool_mk Tryz.underlying4 _))⟩
theorem over:Rows.topSystemsUnfoldRow.holds Tryz.pinned (OpenSpec.ofChange Rows.topSystemsUnfoldSpec) :=
 OpenClaim.holds_of_wide 4 Tryz.f4 rfl rfl rfl rfl rfl rfl rfl ⟨rfl,rfl,rfl,rfl,rfl⟩ rfl rfl rfl rfl rfl (by kernel_rfl) Tryz.func4 (by kernel_rfl)
  (of_decide_eq_true (by kernel_rfl)) (by unfold Func.isWrapper; first | (rw [if_pos (by decide +kernel)]; kernel_rfl) | (rw [if_neg (by decide +kernel)]; exact ⟨rfl,rfl⟩))
  (fun os started H enc _=>lifted os started H enc)
theorem proved:Rows.TopSystemsUnfoldSaid :=
 over
end Go.Proofs.YtbmjaojeplmhnaaGreat.topSystemsUnfold