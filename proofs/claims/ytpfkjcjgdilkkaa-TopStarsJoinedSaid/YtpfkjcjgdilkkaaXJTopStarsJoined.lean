/- Texts of this claim, one after the other: JTopStarsJoined. -/
import Derived.Test.YtpfkjcjgdilkkaaXG6
import Derived.Lib.SmallJoins
import Derived.ChangeMaps5
import Derived.SizedLaws

/- TopStarsJoined: for every input the law returns true, and each argument reads behind the call as it read before; no condition. -/
set_option linter.unusedVariables false
namespace Go.Proofs.Ytpfkjcjgdilkkaa.topStarsJoined
open Go Go.Abs Go.RowKit Go.ChangeShapes Go.WideShapes Go.ChangeAt Go.Joins
set_option maxRecDepth 100000 in
theorem lifted (os:Os) (started:os.Started) (H:Type) (enc:TypeId × Value→H) :
    ReturnsInHanded {} Try.checked os 3 .any (Rows.topStarsJoinedSpec.pre6 enc Try.prog Try.f3 Rows.topStarsJoinedRow.domain false) (Rows.topStarsJoinedSpec.post enc Try.prog Try.f3 false true false false):=by
 refine returnsInHanded_of_change_sized (C:=Try.checked) own started (by kernel_rfl) Try.func3
  (ChangeSpec.witness6 (enc:=enc) (C:=Try.checked) false ⟨#[],#[.agg #[.slice none 0 0],.int .u8 0],[]⟩ 20 (by kernel_rfl) (by kernel_rfl) (by kernel_rfl) (by kernel_rfl)) ?_
 intro W base args ds gs before hval0 hW hcnd hwt _
 have hval:∀ (j:Nat) t v,Try.f3.params[j]?=some t→args[j]?=some v→Value.okWide Try.prog W .any base t v:=hval0
 have hW':=hW
 obtain ⟨p,q,hA0,hV,rfl,hfz,hnd⟩:=hW
 have hA:DataW.TrodAll enc Try.prog W 0 (fun _=>true) true Try.f3.params.toList args.toList ds p:=hA0
 have hA1:=hA
 obtain ⟨rfl,rfl⟩:=trodVars_none hV
 have hlt:∀ x ∈ p,x.block < W.heap.size:=fun x hx=>by simpa using hW'.lt x (List.mem_append_left _ hx)
 have hwt1:∀ {i:Nat} {t:TypeId} {d:DataW H},Try.f3.params.toList[i]?=some t→ds[i]?=some d→∀ k ∈ d.weights Try.prog t,k ≤ reachBytes:=fun {i t d} h1 h2 k hk=>by
  have h3:=gU (P:=Try.prog) h1 h2 k hk
  have h4:(DataW.weightsEach Try.prog (Try.f3.params.toList ++ (Rows.topStarsJoinedSpec.plain.varTypes Try.prog)) (ds ++ [])).all (· ≤ reachBytes)=true:=hwt
  rw [List.append_nil,show Rows.topStarsJoinedSpec.plain.varTypes Try.prog=[] by kernel_rfl,List.append_nil,List.all_eq_true] at h4
  exact of_decide_eq_true (h4 _ h3)
 rw [Try.params3] at hA hval hwt1
 obtain ⟨v0,v1,d0,d1,p0,p1,hax,rfl,rfl,h0,h1⟩:=trodAll_two hA
 subst hax
 obtain ⟨a0,g0,r0⟩:=oCx.argA (by kernel_rfl) (fun m=>⟨_,rfl⟩) (hval 0 24 v0 rfl rfl) h0 (hwt1 (i:=0) rfl rfl)
 obtain ⟨a1,g1,r1⟩:=ou8.arg1 (fun m=>rfl) (tI (by kernel_rfl) (hval 1 5 v1 rfl rfl)) h1 (hwt1 (i:=1) rfl rfl)
 have hcall:Calls Try.prog 3 (([v0,v1]):List Value).toArray W fun e w'=>e=.returned (.bool true)∧Below W.heap.size W w':=lk (tN a0 a1 g0 g1) W (nR r0 (nR r1 uk))
 refine hcall.mono fun e W' ⟨he,hg⟩=>?_
 subst he
 exact ⟨_,rfl,mZ (pv:=[]) hW' (fun _ _ _=>(trodAll_cons_mk (shut_bool Try.underlying4 _) trodAll_mk0))
  (fun sp hsp=>iu zP hg (by rw [Try.params3]; intro t ht; simp only [List.mem_cons,List.not_mem_nil,or_false] at ht; rcases ht with rfl | rfl <;> exact ⟨by kernel_rfl,of_decide_eq_true (by kernel_rfl)⟩) hA1 hlt (fun x hx=>hsp x (List.mem_append_left _ hx))) (fun _ _=>rfl) rfl
  hg (ok_one (by kernel_rfl) rfl (okWide_bool_mk Try.underlying4 _))⟩
theorem over:Rows.topStarsJoinedRow.holds Try.pinned (OpenSpec.ofChange Rows.topStarsJoinedSpec) :=
 OpenClaim.holds_of_wide 3 Try.f3 rfl rfl rfl rfl rfl rfl rfl ⟨rfl,rfl,rfl,rfl,rfl⟩ rfl rfl rfl rfl rfl (by kernel_rfl) Try.func3 (by kernel_rfl)
  (of_decide_eq_true (by kernel_rfl)) (by unfold Func.isWrapper; first | (rw [if_pos (by decide +kernel)]; kernel_rfl) | (rw [if_neg (by decide +kernel)]; exact ⟨rfl,rfl⟩))
  (fun os started H enc _=>lifted os started H enc)
theorem proved:Rows.TopStarsJoinedSaid :=
 over
end Go.Proofs.Ytpfkjcjgdilkkaa.topStarsJoined