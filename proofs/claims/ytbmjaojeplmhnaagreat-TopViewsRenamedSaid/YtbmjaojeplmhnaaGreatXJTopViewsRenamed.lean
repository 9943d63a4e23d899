/- Contracts of functions and plain laws, for all inputs that the theorems name. -/
import Derived.Test.YtbmjaojeplmhnaaGreatXG6
import Derived.Test.YtbmjaojeplmhnaaGreatXG3
import Derived.Lib.SmallJoins
import Derived.ChangeMaps5
import Derived.SizedLaws

/- TopViewsRenamed: for every input the law returns true, and each argument reads behind the call as it read before; no condition. -/
set_option linter.unusedVariables false
namespace Go.Proofs.YtbmjaojeplmhnaaGreat.topViewsRenamed
open Go Go.Abs Go.RowKit Go.ChangeShapes Go.WideShapes Go.ChangeAt Go.Joins
set_option maxRecDepth 100000 in
theorem lifted (os:Os) (started:os.Started) (H:Type) (enc:TypeId × Value→H) :
    ReturnsInHanded {} Tryz.checked os 3 .any (Rows.topViewsRenamedSpec.pre6 enc Tryz.prog Tryz.f3 Rows.topViewsRenamedRow.domain false) (Rows.topViewsRenamedSpec.post enc Tryz.prog Tryz.f3 false true false false):=by
 refine returnsInHanded_of_change_sized (C:=Tryz.checked) own started (by kernel_rfl) Tryz.func3
  (ChangeSpec.witness6 (enc:=enc) (C:=Tryz.checked) false ⟨#[],#[.agg #[.int .i64 0,.int .i64 0,.int .i64 0,.slice none 0 0,.int .i64 0,.slice none 0 0,.int .i64 0],.int .u8 0,.int .u8 0],[]⟩ 20 (by kernel_rfl) (by kernel_rfl) (by kernel_rfl) (by kernel_rfl)) ?_
 intro W base args ds gs before hval0 hW hcnd hwt _
 have hval:∀ (j:Nat) t v,Tryz.f3.params[j]?=some t→args[j]?=some v→Value.okWide Tryz.prog W .any base t v:=hval0
 have hW':=hW
 obtain ⟨p,q,hA0,hV,rfl,hfz,hnd⟩:=hW
 have hA:DataW.TrodAll enc Tryz.prog W 0 (fun _=>true) true Tryz.f3.params.toList args.toList ds p:=hA0
 have hA1:=hA
 obtain ⟨rfl,rfl⟩:=trodVars_none hV
 have hlt:∀ x ∈ p,x.block < W.heap.size:=fun x hx=>by simpa using hW'.lt x (List.mem_append_left _ hx)
 have hwt1:∀ {i:Nat} {t:TypeId} {d:DataW H},Tryz.f3.params.toList[i]?=some t→ds[i]?=some d→∀ k ∈ d.weights Tryz.prog t,k ≤ reachBytes:=fun {i t d} h1 h2 k hk=>by
  have h3:=oU (P:=Tryz.prog) h1 h2 k hk
  have h4:(DataW.weightsEach Tryz.prog (Tryz.f3.params.toList ++ (Rows.topViewsRenamedSpec.plain.varTypes Tryz.prog)) (ds ++ [])).all (· ≤ reachBytes)=true:=hwt
  rw [List.append_nil,show Rows.topViewsRenamedSpec.plain.varTypes Tryz.prog=[] by kernel_rfl,List.append_nil,List.all_eq_true] at h4
  exact of_decide_eq_true (h4 _ h3)
 rw [Tryz.params3] at hA hval hwt1
 obtain ⟨v0,v1,v2,d0,d1,d2,p0,p1,p2,hax,rfl,rfl,h0,h1,h2⟩:=trodAll_three hA
 subst hax
 obtain ⟨a0,g0,r0⟩:=RJ.argA (by kernel_rfl) (fun m=>⟨_,rfl⟩) (hval 0 29 v0 rfl rfl) h0 (hwt1 (i:=0) rfl rfl)
 obtain ⟨a1,g1,r1⟩:=oU8.arg1 (fun m=>rfl) (xO (by kernel_rfl) (hval 1 5 v1 rfl rfl)) h1 (hwt1 (i:=1) rfl rfl)
 obtain ⟨a2,g2,r2⟩:=oU8.arg1 (fun m=>rfl) (xO (by kernel_rfl) (hval 2 5 v2 rfl rfl)) h2 (hwt1 (i:=2) rfl rfl)
 have hcall:Calls Tryz.prog 3 (([v0,v1,v2]):List Value).toArray W fun e w'=>e=.returned (.bool true)∧Below W.heap.size W w':=ua (y7 a0 g0 a1 a2 g1 g2) W (sy r0 (sy r1 (sy r2 Gl)))
 refine hcall.mono fun e W' ⟨he,hg⟩=>?_
 subst he
 exact ⟨_,rfl,wz (pv:=[]) hW' (fun _ _ _=>(trodAll_cons_mk (shut_bool Tryz.underlying4 _) trodAll_mk0))
  (fun sp hsp=>pK QB hg (by rw [Tryz.params3]; intro t ht; simp only [List.mem_cons,List.not_mem_nil,or_false] at ht; rcases ht with rfl | rfl | rfl <;> exact ⟨by kernel_rfl,of_decide_eq_true (by kernel_rfl)⟩) hA1 hlt (fun x hx=>hsp x (List.mem_append_left _ hx))) (fun _ _=>rfl) rfl
  hg (ok_one (by kernel_rfl) rfl (okWide_bool_mk Tryz.underlying4 _))⟩
theorem over:Rows.topViewsRenamedRow.holds Tryz.pinned (OpenSpec.ofChange Rows.topViewsRenamedSpec) :=
 OpenClaim.holds_of_wide 3 Tryz.f3 rfl rfl rfl rfl rfl rfl rfl ⟨rfl,rfl,rfl,rfl,rfl⟩ rfl rfl rfl rfl rfl (by kernel_rfl) Tryz.func3 (by kernel_rfl)
  (of_decide_eq_true (by kernel_rfl)) (by unfold Func.isWrapper; first | (rw [if_pos (by decide +kernel)]; kernel_rfl) | (rw [if_neg (by decide +kernel)]; exact ⟨rfl,rfl⟩))
  (fun os started H enc _=>lifted os started H enc)
theorem proved:Rows.TopViewsRenamedSaid :=
 over
end Go.Proofs.YtbmjaojeplmhnaaGreat.topViewsRenamed