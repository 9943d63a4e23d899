/- Texts of this claim, one after the other: T134, A33, T122, T133, T144, T118, T145, T121. -/
import Derived.Test.YtbgdcebmgjafjaaGreatXG6
import Derived.Test.YtbgdcebmgjafjaaGreatXG4
import Derived.Test.YtbgdcebmgjafjaaGreatXG3
import Derived.Test.YtbgdcebmgjafjaaGreatRows
import Derived.WalkKit
import Derived.ProofKit
import Derived.OpenShut

set_option linter.unusedSimpArgs false
set_option linter.unusedVariables false
namespace Go.Proofs.YtbgdcebmgjafjaaGreat
open Go Go.Abs
def dA (a b:MapV):MapV × Int:=if cT a ≠ 0 then (⟨[],[]⟩,cT a) else if cT b ≠ 0 then (⟨[],[]⟩,cT b) else if bD b a.to=false then (⟨[],[]⟩,6) else (⟨a.fr,a.to.map (de b)⟩,0)
theorem ij {H:Hp} {s r:AV} {l n:Spx} {e f:Int} (h:Snap H s (ao l)) (h2:Snap H r (ao n)) (he:e=f):Snap H (.tup [.agg [s,r],.int .i64 e]) (.tup [eD ⟨l,n⟩,.int .i64 f]):=by
 subst he; exact fi (ax (q9 (ax h (ax h2 ab))) (ax (.int _ _) ab))
attribute [local irreducible] aG al bg bc aN aR aE aS bf br Go.Abs.Fn aY Go.Abs.Pure aA aL Yl
theorem ue (a b:MapV) (ha:ShM a) (hb:ShM b):Pure Tryz.prog 16 [eD a,eD b] (.tup [eD (dA a b).1,.int .i64 (dA a b).2]):=by
 refine Pure.of_c2 follows Ab (Nat.le_of_ble_eq_true rfl) ?_
 simp only [b16,cO,cG,cN,cM,cD,cF,cB,au,aH]
 have hca:=qv a ha
 unfold dA
 by_cases hea:cT a=0
 rotate_left
 ·rw [if_pos hea]
  have z:decide (cT a ≠ 0)=true:=decide_eq_true hea
  (have zz:=aI @ay (aI @ap @z); repeat' (first|refine zW ?_|apply a_n|apply a_r|refine zO ?_|refine vY ?_|refine cY ?_ (hp:=hca) (hs:=by (first | refine aa ?_ rfl | apply ac); (repeat' (first | exact ab | apply ag | apply ae | exact aW _)); first | done | fail)|refine alY ?_|refine bxY ?_|refine stY ?_|refine cTY ?_|refine ah rfl ?_|refine r2Y ?_|fail)) <;> (try clear zz)
  exact ij (.eslsl _) (.eslsl _) rfl
 rw [if_neg (fun h=>h hea)]
 rw [hea] at hca
 have z0:decide ((0:Int) ≠ 0)=false:=rfl
 obtain ⟨p1,p2,p3,p4,p5⟩:=go hea
 (have zz:=aI @ay (aI @ap @z0); repeat' (first|refine zW ?_|apply a_n|refine zO ?_|refine vY ?_|refine cY ?_ (hp:=hca) (hs:=by (first | refine aa ?_ rfl | apply ac); (repeat' (first | exact ab | apply ag | apply ae | exact aW _)); first | done | fail)|refine alY ?_|refine bxY ?_|refine cFY ?_|fail)) <;> (try clear zz)
 refine aD ev0 ev0 (ry b hb _ _) ?_
 rintro _ H1 nx1 ⟨hsm,hle,h⟩
 have g0:H1 0=some [ao a.fr,ao a.to]:=(hsm 0 (by omega)).trans (by rw [af (by omega),af (by omega),aj])
 have g2:H1 2=some [.esl,.esl]:=(hsm 2 (by omega)).trans aj
 rcases h with ⟨he,B,rfl,hB1,hB2,hB3⟩ | ⟨he,rfl⟩
 rotate_left
 ·rw [if_pos he]
  have z:decide (cT b ≠ 0)=true:=decide_eq_true he
  (have zz:=aI @g2 @z; repeat' (first|refine zW ?_|apply a_n|apply a_r|refine zO ?_|refine vY ?_|refine stY ?_|refine cTY ?_|refine ah rfl ?_|refine r2Y ?_|fail)) <;> (try clear zz)
  exact ij (.eslsl _) (.eslsl _) rfl
 rw [if_neg (fun h=>h he)]
 obtain ⟨q1,q2,q3,q4,q5⟩:=go he
 (have zz:=aI @g0 (aI @g2 @z0); repeat' (first|refine zW ?_|apply a_n|refine zO ?_|refine vY ?_|refine cFY ?_|fail)) <;> (try clear zz)
 refine xw ev0 ev0 (ug a.fr (by omega)) (ax (an _ _) ab) ?_
 (have zz:=aI @g0 (aI @ay (aI @ap @ai)); repeat' (first|refine zW ?_|apply a_n|refine zO ?_|refine vY ?_|refine alY ?_|refine stY ?_|fail)) <;> (try clear zz)
 refine aM (X:=Nat × AV) (fun x=>[(4,.ptr 2 2 0),(7,.mp B),(9,.ptr nx1 2 0),(34,ao a.to),(35,.int .i64 a.to.length),(36,.int .i64 x.1)]) (fun x H' nx'=>x.1 ≤ a.to.length∧nx1 < nx'∧(∀ y,y < nx1→H' y=H1 y)∧H' nx1=some [ao a.fr,x.2]∧Row H' 2 x.2 (cX ((a.to.take x.1).map (de b)))∧(∀ C,bE x.2=some C→nx1 < C∧C < nx')∧∀ i,i < x.1→decide (a.to.getD i default ∈ b.fr)=true) (fun x=>a.to.length - x.1) (0,.esl) ⟨Nat.zero_le _,by omega,fun y hy=>by (repeat rw [af (by omega)]),by rw [aj]; rfl,Row.nil,fun C h=>(by cases h),fun i h=>absurd h (by omega)⟩ (by (iterate 6 refine And.intro rfl ?_); trivial) ?_
 rintro ⟨k,sv⟩ H' nx' ⟨h1,h2,h3,h4,hrow,hbd,hz⟩
 dsimp only at h1 h4 hrow hbd hz ⊢
 by_cases hk:k < a.to.length
 rotate_left
 ·rw [List.take_of_length_le (by omega)] at hrow
  have ht:bD b a.to=true:=eA fun i hi=>hz i (by omega)
  rw [if_neg (by rw [ht]; exact fun h=>by cases h)]
  obtain ⟨o1,o2⟩:=hrow.one
  have g6:H' 2=some [.esl,.esl]:=(h3 2 (by omega)).trans g2
  (have zz:=aI @h4 (aI @g6 (aI @o1 (aI @o2 (aI @ay @ap)))); repeat' (first|refine zW ?_|apply a_n|apply a_x|refine zO ?_|refine vY ?_|refine stY ?_|(refine zGY ?_ ?_ <;> (intro _hg; try (exfalso; omega)))|refine ah rfl ?_|refine r2Y ?_|fail)) <;> (try clear zz)
  exact ij (an _).snap (ik (hrow.same fun C hC=>af (by have:=hbd C hC; omega))) rfl
 have ix:=ix2 hk
 have hb1:H' B=some [.omap (b.fr.map bh) (b.to.map bh)]:=(h3 B hB2).trans hB3
 have hmf:=lP (a.to.getD k default) b.fr
 have hcl:(cX ((a.to.take k).map (de b))).length=k * 2:=by rw [ci,List.length_map,List.length_take]; omega
 have e1:(a.to.take (k + 1)).map (de b)=(a.to.take k).map (de b) ++ [de b (a.to.getD k default)]:=by rw [bt hk,List.map_append]; rfl
 by_cases hv:a.to.getD k default ∈ b.fr
 rotate_left
 ·have ht:bD b a.to=false:=dM hk (decide_eq_false hv)
  rw [if_pos ht]
  rw [if_neg hv] at hmf
  have g6:H' 2=some [.esl,.esl]:=(h3 2 (by omega)).trans g2
  generalize a.to.getD k default=v at *
  (have zz:=@ix; repeat' (first|refine zW ?_|apply a_n|refine zO ?_|refine vY ?_|refine alY ?_|refine stY ?_|(refine zGY ?_ ?_ <;> (intro _hg; try (exfalso; omega)))|fail)) <;> (try clear zz)
  refine i5 ev0 (by (repeat rw [af (by omega)]); exact hb1) ev0 (kQ v) hmf ?_
  rw [show mget (.agg [.int .i64 0,.int .i64 0]) true none (b.to.map bh)=.tup [.agg [.int .i64 0,.int .i64 0],.bool false] from rfl]
  (have zz:=@g6; repeat' (first|refine zW ?_|apply a_n|apply a_r|refine zO ?_|refine vY ?_|refine alY ?_|refine stY ?_|refine cTY ?_|refine ah rfl ?_|refine r2Y ?_|fail)) <;> (try clear zz)
  exact ij (.eslsl _) (.eslsl _) rfl
 rw [if_pos hv] at hmf
 have hmg:=pZ q2 hv
 have hzz:∀ i,i < k + 1→decide (a.to.getD i default ∈ b.fr)=true:=fun i hi=>by
  rcases Nat.lt_succ_iff_lt_or_eq.1 hi with h' | rfl
  ·exact hz i h'
  ·exact decide_eq_true hv
 generalize a.to.getD k default=v at *
 generalize de b v=w at *
 (have zz:=@ix; repeat' (first|refine zW ?_|apply a_n|refine zO ?_|refine vY ?_|refine alY ?_|refine stY ?_|(refine zGY ?_ ?_ <;> (intro _hg; try (exfalso; omega)))|fail)) <;> (try clear zz)
 refine i5 ev0 (by (repeat rw [af (by omega)]); exact hb1) ev0 (kQ v) hmf ?_
 rw [show mget (.agg [.int .i64 0,.int .i64 0]) true (some (b.fr.idxOf v)) (b.to.map bh)=.tup [(b.to.map bh).getD (b.fr.idxOf v) .undef,.bool true] from rfl,hmg]
 (have zz:=@h4; repeat' (first|refine zW ?_|apply a_n|refine zO ?_|refine vY ?_|refine alY ?_|refine stY ?_|refine blY ?_|refine cFY ?_|fail)) <;> (try clear zz)
 refine cH rfl ev0 (hrow.same fun C hC=>?_) ev0 cV rfl rfl (by omega) (by omega) (by omega) ?_
 ·have:=hbd C hC; (repeat rw [af (by omega)])
 rintro s2 H2 nx2 hr2 i1 i2 i3 i4
 have h4':H2 nx1=some [ao a.fr,sv]:=(i3 nx1 (by omega) (fun h=>by have:=hbd _ h; omega)).trans (by (repeat rw [af (by omega)]); exact h4)
 obtain ⟨o1,o2⟩:=hr2.one
 (have zz:=aI @h4' (aI @o1 @o2); repeat' (first|apply a_n|refine zO ?_|refine vY ?_|refine stY ?_|fail)) <;> (try clear zz)
 refine ⟨(k + 1,s2),by dsimp only; omega,⟨by dsimp only; omega,by omega,fun y hy=>?_,by rw [aj]; rfl,?_,fun C hC=>?_,hzz⟩,ag0⟩
 ·rw [af (by omega),i3 y (by omega) (fun h=>by have:=hbd _ h; omega)]; (repeat rw [af (by omega)]); exact h3 y hy
 ·dsimp only
  rw [e1,cq]
  refine hr2.same fun C hC=>af ?_
  rcases i4 C hC with h | h
  ·have:=hbd C h; omega
  ·omega
 ·rcases i4 C hC with h | h
  ·have:=hbd C h; omega
  ·omega
theorem rX (a b:MapV) (ha:ShM a) (hb:ShM b):Pure Tryz.prog 17 [eD a,eD b] (.tup [eD (dA a b).1,.int .i64 (dA a b).2]):=by
 refine Pure.of_c2 follows BN (Nat.le_of_ble_eq_true rfl) ?_
 simp only [b17,cO,cG,cN,cM,cD,cF,cB,au,aH]
 have hca:=oT a ha
 have hcb:=oT b hb
 have htt:=qR b a.to hb ha.2
 unfold dA
 by_cases hea:cT a=0
 rotate_left
 ·rw [if_pos hea]
  have z:decide (cT a ≠ 0)=true:=decide_eq_true hea
  (have zz:=aI @ay (aI @ap @z); repeat' (first|refine zW ?_|apply a_n|apply a_r|refine zO ?_|refine vY ?_|refine cY ?_ (hp:=hca) (hs:=by (first | refine aa ?_ rfl | apply ac); (repeat' (first | exact ab | apply ag | apply ae | exact aW _)); first | done | fail)|refine alY ?_|refine bxY ?_|refine stY ?_|refine cTY ?_|refine ah rfl ?_|refine r2Y ?_|fail)) <;> (try clear zz)
  exact ij (.eslsl _) (.eslsl _) rfl
 rw [if_neg (fun h=>h hea)]
 rw [hea] at hca
 have z0:decide ((0:Int) ≠ 0)=false:=rfl
 obtain ⟨p1,p2,p3,p4,p5⟩:=go hea
 by_cases heb:cT b=0
 rotate_left
 ·rw [if_pos heb]
  have z:decide (cT b ≠ 0)=true:=decide_eq_true heb
  (have zz:=aI @ay (aI @ap (aI @z @z0)); repeat' (first|refine zW ?_|apply a_n|apply a_r|refine zO ?_|refine vY ?_|refine cY ?_ (hp:=by first | exact hca | exact hcb) (hs:=by (first | refine aa ?_ rfl | apply ac); (repeat' (first | exact ab | apply ag | apply ae | exact aW _)); first | done | fail)|refine alY ?_|refine bxY ?_|refine stY ?_|refine cTY ?_|refine cFY ?_|refine ah rfl ?_|refine r2Y ?_|fail)) <;> (try clear zz)
  exact ij (.eslsl _) (.eslsl _) rfl
 rw [if_neg (fun h=>h heb)]
 rw [heb] at hcb
 obtain ⟨q1,q2,q3,q4,q5⟩:=go heb
 cases ht:bD b a.to
 ·rw [ht] at htt
  rw [if_pos rfl]
  (have zz:=aI @ay (aI @ap @z0); repeat' (first|refine zW ?_|apply a_n|apply a_r|refine zO ?_|refine vY ?_|refine cY ?_ (hp:=by first | exact hca | exact hcb | exact htt) (hs:=by (first | refine aa ?_ rfl | apply ac); (repeat' (first | exact ab | apply ag | apply ae | exact aW _ | exact an _)); first | done | fail)|refine alY ?_|refine bxY ?_|refine stY ?_|refine cTY ?_|refine cFY ?_|refine ah rfl ?_|refine r2Y ?_|fail)) <;> (try clear zz)
  exact ij (.eslsl _) (.eslsl _) rfl
 rw [ht] at htt
 rw [if_neg (fun h=>by cases h)]
 have htm:∀ v ∈ a.to,v ∈ b.fr:=ff.1 ht
 (have zz:=aI @ay (aI @ap @z0); repeat' (first|refine zW ?_|apply a_n|refine zO ?_|refine vY ?_|refine cY ?_ (hp:=by first | exact hca | exact hcb | exact htt) (hs:=by (first | refine aa ?_ rfl | apply ac); (repeat' (first | exact ab | apply ag | apply ae | exact aW _ | exact an _)); first | done | fail)|refine alY ?_|refine bxY ?_|refine cFY ?_|fail)) <;> (try clear zz)
 refine aM (X:=Nat × AV × AV) (fun x=>[(2,.ptr 0 2 0),(3,.ptr 1 2 0),(4,.ptr 2 2 0),(8,.ptr 3 2 0),(9,.int .i64 x.1)]) (fun x H' nx'=>x.1 ≤ a.fr.length∧4 ≤ nx'∧H' 0=some [ao a.fr,ao a.to]∧H' 1=some [ao b.fr,ao b.to]∧H' 2=some [.esl,.esl]∧H' 3=some [x.2.1,x.2.2]∧Row H' 2 x.2.1 (cX (a.fr.take x.1))∧Row H' 2 x.2.2 (cX ((a.to.take x.1).map (de b)))∧(∀ C,bE x.2.1=some C→4 ≤ C∧C < nx')∧(∀ C,bE x.2.2=some C→4 ≤ C∧C < nx')∧∀ C,bE x.2.1=some C→bE x.2.2 ≠ some C) (fun x=>a.fr.length - x.1) (0,.esl,.esl) ⟨Nat.zero_le _,by omega,by (repeat rw [af (by omega)]); rw [aj],by (repeat rw [af (by omega)]); rw [aj],by (repeat rw [af (by omega)]); rw [aj],by rw [aj],Row.nil,Row.nil,fun C h=>(by cases h),fun C h=>(by cases h),fun C h=>(by cases h)⟩ (by (iterate 5 refine And.intro rfl ?_); trivial) ?_
 rintro ⟨k,sv,tv⟩ H' nx' ⟨h1,h2,g0,g1,g2,g3,hr1,hr2,hb1,hb2,hne⟩
 dsimp only at h1 g3 hr1 hr2 hb1 hb2 hne ⊢
 by_cases hk:k < a.fr.length
 rotate_left
 ·rw [List.take_of_length_le (by omega)] at hr1 hr2
  obtain ⟨o1,o2⟩:=hr1.one
  obtain ⟨o3,o4⟩:=hr2.one
  (have zz:=aI @g0 (aI @g2 (aI @g3 (aI @o1 (aI @o2 (aI @o3 (aI @o4 @ai)))))); repeat' (first|refine zW ?_|apply a_n|apply a_x|refine zO ?_|refine vY ?_|refine stY ?_|(refine zGY ?_ ?_ <;> (intro _hg; try (exfalso; omega)))|refine ah rfl ?_|refine r2Y ?_|fail)) <;> (try clear zz)
  exact ij (ik (hr1.same fun C hC=>af (by have:=hb1 C hC; omega))) (ik (hr2.same fun C hC=>af (by have:=hb2 C hC; omega))) rfl
 have hk2:k < a.to.length:=by omega
 have ix:=ix2 hk
 have iy:=ix2 hk2
 have hv:=htm _ (aO hk2)
 have hi:=mc b (a.to.getD k default) hb
 rw [if_pos hv] at hi
 have it:=ix2 (l:=b.to) (k:=b.fr.idxOf (a.to.getD k default)) (by have:=(iA hv).1; omega)
 rw [show b.to.getD (b.fr.idxOf (a.to.getD k default)) default=de b (a.to.getD k default) from rfl] at it
 have c1:(cX (a.fr.take k)).length=k * 2:=by rw [ci,List.length_take]; omega
 have c2:(cX ((a.to.take k).map (de b))).length=k * 2:=by rw [ci,List.length_map,List.length_take]; omega
 have e1:a.fr.take (k + 1)=a.fr.take k ++ [a.fr.getD k default]:=bt hk
 have e2:(a.to.take (k + 1)).map (de b)=(a.to.take k).map (de b) ++ [de b (a.to.getD k default)]:=by rw [bt hk2,List.map_append]; rfl
 generalize b.fr.idxOf (a.to.getD k default)=ii at *
 generalize de b (a.to.getD k default)=w at *
 generalize a.to.getD k default=v at *
 generalize a.fr.getD k default=u at *
 (have zz:=aI @g0 (aI @g3 (aI @ix @ai)); repeat' (first|refine zW ?_|apply a_n|refine zO ?_|refine vY ?_|refine blY ?_|(refine zGY ?_ ?_ <;> (intro _hg; try (exfalso; omega)))|fail)) <;> (try clear zz)
 refine cH rfl ev0 (hr1.same fun C hC=>?_) ev0 cV rfl rfl (by omega) (by omega) (by omega) ?_
 ·have:=hb1 C hC; rw [af (by omega)]
 rintro s2 H2 nx2 hs2 i1 i2 i3 i4
 have lo:∀ x,x < 4→H2 x=H' x:=fun x hx=>(i3 x (by omega) (fun h=>by have:=hb1 x h; omega)).trans (af (by omega))
 have g0':=(lo 0 (by omega)).trans g0
 have g1':=(lo 1 (by omega)).trans g1
 have g2':=(lo 2 (by omega)).trans g2
 have g3':=(lo 3 (by omega)).trans g3
 have hr2':Row H2 2 tv (cX ((a.to.take k).map (de b))):=hr2.same fun C hC=>(i3 C (by have:=hb2 C hC; omega) (fun h=>hne C h hC)).trans (af (by have:=hb2 C hC; omega))
 have hbs:∀ C,bE s2=some C→4 ≤ C∧C < nx2:=fun C hC=>by
  rcases i4 C hC with h | h
  ·have:=hb1 C h; omega
  ·omega
 have hbt:∀ C,bE tv=some C→4 ≤ C∧C < nx2:=fun C hC=>by have:=hb2 C hC; omega
 have hn2:∀ C,bE s2=some C→bE tv ≠ some C:=fun C hC e=>by
  rcases i4 C hC with h | h
  ·exact hne C h e
  ·have:=hb2 C e; omega
 obtain ⟨o1,o2⟩:=hs2.one
 (have zz:=aI @g3' (aI @o1 @o2); repeat' (first|apply a_n|refine zO ?_|refine vY ?_|refine stY ?_|fail)) <;> (try clear zz)
 have u3:am H2 3 (bb [sv,tv] 0 [s2]) 3=some [s2,tv]:=by rw [aj]; rfl
 have u0:am H2 3 (bb [sv,tv] 0 [s2]) 0=some [ao a.fr,ao a.to]:=by rw [af (by omega)]; exact g0'
 have u1:am H2 3 (bb [sv,tv] 0 [s2]) 1=some [ao b.fr,ao b.to]:=by rw [af (by omega)]; exact g1'
 have u2:am H2 3 (bb [sv,tv] 0 [s2]) 2=some [.esl,.esl]:=by rw [af (by omega)]; exact g2'
 have us:Row (am H2 3 (bb [sv,tv] 0 [s2])) 2 s2 (cX (a.fr.take k) ++ cX [u]):=hs2.same fun C hC=>af (by have:=hbs C hC; omega)
 have ut:Row (am H2 3 (bb [sv,tv] 0 [s2])) 2 tv (cX ((a.to.take k).map (de b))):=hr2'.same fun C hC=>af (by have:=hbt C hC; omega)
 clear hs2 hr2' hr2 hr1 g0' g1' g2' g3' lo i3 i4 g0 g1 g2 g3
 generalize am H2 3 (bb [sv,tv] 0 [s2])=H3 at *
 refine pi (fun y=>if y=0 ∨ y=1 ∨ y=3 then H3 y else none) rfl (fun y cs h=>by
  dsimp only at h
  split at h
  ·exact h
  ·cases h) ?_
 have hS0:(fun y=>if y=0 ∨ y=1 ∨ y=3 then H3 y else none) 0=some [ao a.fr,ao a.to]:=by dsimp only; rw [if_pos (.inl rfl)]; exact u0
 have hS1:(fun y=>if y=0 ∨ y=1 ∨ y=3 then H3 y else none) 1=some [ao b.fr,ao b.to]:=by dsimp only; rw [if_pos (.inr (.inl rfl))]; exact u1
 have hS3:(fun y=>if y=0 ∨ y=1 ∨ y=3 then H3 y else none) 3=some [s2,tv]:=by dsimp only; rw [if_pos (.inr (.inr rfl))]; exact u3
 have hsub:∀ H',(∀ x,x < 4→H' x=H3 x)→Sub (fun y=>if y=0 ∨ y=1 ∨ y=3 then H3 y else none) H':=fun H' h y cs hy=>by
  dsimp only at hy
  split at hy
  ·rw [h y (by omega)]; exact hy
  ·cases hy
 generalize (fun y=>if y=0 ∨ y=1 ∨ y=3 then H3 y else none)=S0 at hS0 hS1 hS3 hsub ⊢
 (have zz:=aI @hS0 (aI @hS1 (aI @hS3 (aI @iy (aI @ay @ap)))); repeat' (first|apply a_n|refine zO ?_|refine nvY ?_|fail)) <;> (try clear zz)
 refine fF ?_
 refine co ev0 ev0 hi (ac (ax (aW _ _) (ax (aP _ _) ab))) ?_
 refine kW ⟨hsub _ fun x hx=>rfl,?_⟩
 (have zz:=@it; repeat' (first|apply a_n|refine zO ?_|refine nvY ?_|fail)) <;> (try clear zz)
 refine fF ?_
 (have zz:=and_self; repeat' (first|apply a_n|refine zO ?_|refine blY ?_|fail)) <;> (try clear zz)
 refine ⟨hsub _ fun x hx=>af (by omega),?_⟩
 refine gD ?_
 refine cH rfl ev0 (ut.same fun C hC=>?_) ev0 cV rfl rfl (by omega) (by omega) (by omega) ?_
 ·have:=hbt C hC; rw [af (by omega)]
 rintro t2 H4 nx4 ht2 j1 j2 j3 j4
 have lo:∀ x,x < nx2→bE tv ≠ some x→H4 x=H3 x:=fun x hx hx2=>(j3 x (by omega) hx2).trans (af (by omega))
 have lo4:∀ x,x < 4→H4 x=H3 x:=fun x hx=>lo x (by omega) (fun h=>by have:=hbt x h; omega)
 have v3:=(lo4 3 (by omega)).trans u3
 obtain ⟨o3,o4⟩:=ht2.one
 have hbt2:∀ C,bE t2=some C→4 ≤ C∧C < nx4:=fun C hC=>by
  rcases j4 C hC with h | h
  ·have:=hbt C h; omega
  ·omega
 (have zz:=aI @v3 (aI @o3 @o4); repeat' (first|apply a_n|refine zO ?_|refine vY ?_|refine nvY ?_|apply gD|refine stY ?_|fail)) <;> (try clear zz)
 refine ⟨(k + 1,s2,t2),by dsimp only; omega,⟨by dsimp only; omega,by omega,?_,?_,?_,by rw [aj]; rfl,?_,?_,fun C hC=>?_,hbt2,fun C hC e=>?_⟩,ag0⟩
 ·rw [af (by omega),lo4 _ (by omega)]; exact u0
 ·rw [af (by omega),lo4 _ (by omega)]; exact u1
 ·rw [af (by omega),lo4 _ (by omega)]; exact u2
 ·dsimp only
  rw [e1,cq]
  exact us.same fun C hC=>by rw [af (by have:=hbs C hC; omega)]; exact lo C (by have:=hbs C hC; omega) (hn2 C hC)
 ·dsimp only
  rw [e2,cq]
  exact ht2.same fun C hC=>af (by have:=hbt2 C hC; omega)
 ·have:=hbs C hC; omega
 ·dsimp only at hC e
  rcases j4 C e with h | h
  ·exact hn2 C hC h
  ·have:=hbs C hC; omega
end Go.Proofs.YtbgdcebmgjafjaaGreat
namespace Go.Proofs.YtbgdcebmgjafjaaGreat
open Go Go.Abs
def zY:List (Nat × F2):=[(11,b11),(12,b12),(14,b14),(16,b16),(18,b18),(21,b21),(23,b23),(27,b27),(29,b29),(31,b31),(32,b32),(34,b34),(35,b35),(40,b40),(41,b41),(42,b42),(43,b43),(44,b44),(45,b45),(46,b46),(47,b47),(48,b48),(49,b49),(57,b57),(58,b58),(59,b59),(62,b62),(63,b63),(64,b64),(69,b69),(70,b70),(72,b72),(73,b73),(74,b74),(75,b75),(76,b76),(84,b84),(85,b85),(86,b86),(88,b88),(91,b91),(92,b92),(93,b93),(94,b94),(95,b95),(99,b99),(103,yx),(104,yZ),(108,yh),(109,w7),(110,yd),(111,x7),(112,yz),(113,yo),(114,w9),(122,yq),(123,xx),(127,yO),(129,wY),(130,yw),(132,yU),(141,xq),(142,wL)]
theorem zJ:gQ Tryz.prog (lookup zY) :=
 (av BI (av AY (av BL (av Ab (av Bh (av zb (av BV (av ze (av zF (av yX (av zi (av zy (av zT (av BH (av AK (av A8 (av zE (av zI (av zg (av zh (av Bl (av Bu (av AU (av AR (av zR (av Bi (av zv (av z8 (av zf (av A7 (av Bn (av AA (av Ae (av zl (av zp (av Ar (av z7 (av Bm (av zU (av zH (av AQ (av AW (av AX (av zK (av Be (av zN (av xG (av xH (av x6 (av uW (av xI (av xY (av xK (av x5 (av wk (av xO (av vj (av xC (av uH (av xR (av xQ (av vA (av uJ tI)))))))))))))))))))))))))))))))))))))))))))))))))))))))))))))))
set_option maxRecDepth 100000 in
theorem jR:Go.Abs.Pure Tryz.prog 11 [] (.bool true):=Pure.of_run follows zJ (pf:=xM [23,14,12,18,16,27,21,40]) (n:=2000) (good:=isTrue) (by decide +kernel) tB
end Go.Proofs.YtbgdcebmgjafjaaGreat
namespace Go.Proofs.YtbgdcebmgjafjaaGreat
open Go Go.Abs
attribute [local irreducible] aG al bg bc aN aR aE aS bf br Go.Abs.Fn aY Go.Abs.Pure aA aL Yl
end Go.Proofs.YtbgdcebmgjafjaaGreat
namespace Go.Proofs.YtbgdcebmgjafjaaGreat
open Go Go.Abs
attribute [local irreducible] aG al bg bc aN aR aE aS bf br Go.Abs.Fn aY Go.Abs.Pure aA aL Yl
end Go.Proofs.YtbgdcebmgjafjaaGreat
namespace Go.Proofs.YtbgdcebmgjafjaaGreat
open Go Go.Abs
structure PairV where
 a:List Spx
 b:List Spx
 d:Int
abbrev Al (p:PairV):AV:=.agg [aC p.a,aC p.b,.int .i64 p.d]
theorem pe {a b:MapV} (ha:ShM a):ShM (dA a b).1:=by
 unfold dA
 split
 ·exact ⟨Nat.zero_le _,Nat.zero_le _⟩
 split
 ·exact ⟨Nat.zero_le _,Nat.zero_le _⟩
 split
 ·exact ⟨Nat.zero_le _,Nat.zero_le _⟩
 ·exact ⟨ha.1,by have:=ha.2; show _ ≤ _; rw [List.length_map]; exact this⟩
theorem pU {m:MapV} {a b:List Spx} {d:Int} (ha:a.length ≤ 50) (hb:b.length ≤ 50):(bT m a b d).1.2.length ≤ 1000000∧∀ r ∈ (bT m a b d).1.2,r.length ≤ 1000000:=by
 have h0:([]:List (List Int)).length ≤ 1000000∧∀ r ∈ ([]:List (List Int)),r.length ≤ 1000000:=⟨Nat.zero_le _,fun r h=>(by cases h)⟩
 unfold bT
 split
 ·exact h0
 split
 ·exact h0
 split
 ·exact h0
 ·rename_i g1 g2 g3
  obtain ⟨w1,w2,w3,w4,w5⟩:=nC (Decidable.of_not_not g1) (by cases e:(ck m a b).1 with | true=>rfl | false=>exact absurd e g2)
  obtain ⟨v1,v2,v3,v4⟩:=cK w2
  obtain ⟨u1,u2,u3,u4⟩:=cK w3
  have hXl:=fK (k:=(d + 1).toNat) ha (fun s h=>(c8 (v2 s h)).2.1)
  have hYl:=fK (k:=(d + 1).toNat) hb (fun s h=>(c8 (u2 s h)).2.1)
  refine ⟨?_,fun r hr=>?_⟩
  ·show (rF m _ _).length ≤ _
   unfold rF
   simp; omega
  ·unfold rF at hr
   obtain ⟨i,_,rfl⟩:=List.mem_map.1 hr
   have:=mE (m:=m) (X:=dY a (d + 1).toNat) (Y:=dY b (d + 1).toNat) (n:=(dY a (d + 1).toNat).length) (i:=i)
   unfold iK
   rw [List.length_map]; omega
attribute [local irreducible] aG al bg bc aN aR aE aS bf br Go.Abs.Fn aY Go.Abs.Pure aA aL Yl
theorem tC (m n:MapV) (p:PairV) (hm:ShM m) (hn:ShM n) (ha:Shn p.a∧∀ s ∈ p.a,Shn s) (hb:Shn p.b∧∀ s ∈ p.b,Shn s):Pure Tryz.prog 4 [eD m,eD n,Al p] (.bool true):=by
 refine Pure.of_c2 follows is4 (Nat.le_of_ble_eq_true rfl) ?_
 simp only [b4,cO,cG,cN,cM,cD,cF,cB,au,aH]
 obtain ⟨a,b,d⟩:=p
 dsimp only at ha hb ⊢
 have f1:=wh m hm
 have f2:=wh n hn
 have f3:=sd a ha.1 ha.2
 have f4:=sd b hb.1 hb.2
 cases e1:sO m
 ·rw [e1] at f1
  (have zz:=aI @ay (aI @ap (aI @az @ar)); repeat' (first|refine zW ?_|apply a_n|apply a_r|refine zO ?_|refine vY ?_|refine cY ?_ (hp:=by first | exact f1 | exact jR) (hs:=by (first | refine aa ?_ rfl | apply ac); (repeat' (first | exact ab | apply ag | apply ae | exact aW _)); first | done | fail)|refine bxY ?_|refine gFY ?_|refine cTY ?_|refine ah rfl ?_|refine r1Y ?_|fail)) <;> (try clear zz)
  exact .bool _
 rw [e1] at f1
 cases e2:sO n
 ·rw [e2] at f2
  (have zz:=aI @ay (aI @ap (aI @az @ar)); repeat' (first|refine zW ?_|apply a_n|apply a_r|refine zO ?_|refine vY ?_|refine cY ?_ (hp:=by first | exact f1 | exact f2 | exact jR) (hs:=by (first | refine aa ?_ rfl | apply ac); (repeat' (first | exact ab | apply ag | apply ae | exact aW _)); first | done | fail)|refine bxY ?_|refine gTY ?_|refine gFY ?_|refine cTY ?_|refine ah rfl ?_|refine r1Y ?_|fail)) <;> (try clear zz)
  exact .bool _
 rw [e2] at f2
 cases e3:dZ a
 ·rw [e3] at f3
  (have zz:=aI @ay (aI @ap (aI @az @ar)); repeat' (first|refine zW ?_|apply a_n|apply a_r|refine zO ?_|refine vY ?_|refine cY ?_ (hp:=by first | exact f1 | exact f2 | exact f3 | exact jR) (hs:=by (first | refine aa ?_ rfl | apply ac); (repeat' (first | exact ab | apply ag | apply ae | exact aW _ | exact a7 _)); first | done | fail)|refine bxY ?_|refine gTY ?_|refine gFY ?_|refine cTY ?_|refine ah rfl ?_|refine r1Y ?_|fail)) <;> (try clear zz)
  exact .bool _
 rw [e3] at f3
 cases e4:dZ b
 ·rw [e4] at f4
  (have zz:=aI @ay (aI @ap (aI @az @ar)); repeat' (first|refine zW ?_|apply a_n|apply a_r|refine zO ?_|refine vY ?_|refine cY ?_ (hp:=by first | exact f1 | exact f2 | exact f3 | exact f4 | exact jR) (hs:=by (first | refine aa ?_ rfl | apply ac); (repeat' (first | exact ab | apply ag | apply ae | exact aW _ | exact a7 _)); first | done | fail)|refine bxY ?_|refine gTY ?_|refine cTY ?_|refine ah rfl ?_|refine r1Y ?_|fail)) <;> (try clear zz)
  exact .bool _
 rw [e4] at f4
 obtain ⟨fa1,fa2⟩:=eb.1 e3
 obtain ⟨fb1,fb2⟩:=eb.1 e4
 have s1:=ue m n hm hn
 have s2:=rX m n hm hn
 have s3:=tP m a b d hm (by omega) ha.2 (by omega) hb.2
 have s4:=rK m a b d hm e3 e4
 have h1:=pe (b:=n) hm
 have h2:=pU (m:=m) (d:=d) (show a.length ≤ 50 by omega) (show b.length ≤ 50 by omega)
 have s5:=wF (dA m n).1 h1
 have s6:=tE (bT m a b d).1.1 (bT m a b d).1.2 h2.1 h2.2
 have dm:=rV (bT m a b d).1.1 (bT m a b d).1.2
 unfold ig at s3 s4 s6 dm
 generalize dA m n=P at *
 generalize bT m a b d=q at *
 obtain ⟨p1,p2⟩:=P
 obtain ⟨⟨q1,q2⟩,q3⟩:=q
 have z1:decide (p2=p2)=true:=decide_eq_true rfl
 have z2:decide (q3=q3)=true:=decide_eq_true rfl
 (have zz:=aI @ay (aI @ap (aI @az (aI @ar (aI @z1 @z2)))); repeat' (first|refine zW ?_|apply a_n|refine zO ?_|refine vY ?_|refine cY ?_ (hp:=by first | exact f1 | exact f2 | exact f3 | exact f4 | exact s1 | exact s2 | exact s3 | exact s4 | exact s5 | exact s6 | exact jR) (hs:=by (first | refine aa ?_ rfl | apply ac); (repeat' (first | exact ab | apply ag | apply ae | exact aW _ | exact an _ | exact a7 _ | exact dm)); first | done | fail)|refine alY ?_|refine bxY ?_|refine stY ?_|refine gTY ?_|(refine zGY ?_ ?_ <;> (intro _hg; try (exfalso; omega)))|refine cFY ?_|refine ah rfl ?_|refine r1Y ?_|fail)) <;> (try clear zz)
 exact .bool _
end Go.Proofs.YtbgdcebmgjafjaaGreat
namespace Go.Proofs.YtbgdcebmgjafjaaGreat
open Go Go.Abs Go.RowKit
section
variable {H:Type} {enc:TypeId × Value→H} {W:World}
theorem oi:dg enc Tryz.prog W 3 (AV.int .i64) (fun n=>(Lit.int .i64 n).wf=true):=uw Tryz.underlying3
set_option maxRecDepth 100000 in
theorem Bz:dg enc Tryz.prog W 71 bh (fun _=>True) :=
 (eS Tryz.underlying71 (by kernel_rfl) (cJ (off:=0) (off':=1) rfl (by kernel_rfl) oi (cJ (off:=1) (off':=2) rfl (by kernel_rfl) oi gv))).map
  (fun a=>(⟨a.1,a.2.1⟩:Vtx)) (fun _ _=>trivial) (fun _ _=>rfl)
theorem oXs:dg enc Tryz.prog W 22 ao Shn :=
 (kZ Tryz.underlying22 (sz:=2) (by_:=16) (by kernel_rfl) (by kernel_rfl) (by omega) (fun _=>rfl) Bz).mono fun l h=>by have:=h.2.2; show _ ≤ _; omega
theorem BA:dg enc Tryz.prog W 25 aC (fun l=>Shn l∧∀ x ∈ l,Shn x) :=
 (kZ Tryz.underlying25 (sz:=1) (by_:=24) (by kernel_rfl) (by kernel_rfl) Nat.one_pos (fun _=>rfl) oXs).mono fun l h=>⟨by have:=h.2.2; show _ ≤ _; omega,h.1⟩
set_option maxRecDepth 100000 in
theorem AM:dg enc Tryz.prog W 24 eD ShM :=
 (eS Tryz.underlying24 (by kernel_rfl) (cJ (off:=0) (off':=1) rfl (by kernel_rfl) oXs (cJ (off:=1) (off':=2) rfl (by kernel_rfl) oXs gv))).map
  (fun a=>(⟨a.1,a.2.1⟩:MapV)) (by rintro ⟨n,i,u⟩ ⟨h1,h2,_⟩; exact ⟨h1,h2⟩) (fun _ _=>rfl)
set_option maxRecDepth 100000 in
theorem oCx:dg enc Tryz.prog W 27 dD (fun l=>Shn l∧∀ x ∈ l,Shn x) :=
 (eS Tryz.underlying27 (by kernel_rfl) (cJ (off:=0) (off':=1) rfl (by kernel_rfl) BA gv)).map
  (fun a=>a.1) (by rintro ⟨n,u⟩ ⟨h1,_⟩; exact h1) (fun _ _=>rfl)
end
theorem lM {f:FuncId} {xs:List AV} {vs:List Value} (h:Go.Abs.Pure Tryz.prog f xs (.bool true)) (w:World) (hv:bS (E0 (pm w)) w xs vs) :
    Calls Tryz.prog f vs.toArray w fun e w'=>e=.returned (.bool true)∧Below w.heap.size w w':=by
 refine (h.2 (pm w) w vs (fun _ h=>h) hv).mono ?_
 rintro e w' ⟨v,imm',rfl,hb,_,_,_,hr⟩
 cases hr
 exact ⟨rfl,hb⟩
theorem Bw:laidOutB Tryz.prog=true:=by kernel_rfl
end Go.Proofs.YtbgdcebmgjafjaaGreat
namespace Go.Proofs.YtbgdcebmgjafjaaGreat
open Go Go.Abs Go.RowKit
section
variable {H:Type} {enc:TypeId × Value→H} {W:World}
set_option maxRecDepth 100000 in
theorem AI:dg enc Tryz.prog W 40 Al (fun p=>(Shn p.a∧∀ x ∈ p.a,Shn x)∧(Shn p.b∧∀ x ∈ p.b,Shn x)) :=
 (eS Tryz.underlying40 (by kernel_rfl) (cJ (off:=0) (off':=1) rfl (by kernel_rfl) oCx (cJ (off:=1) (off':=2) rfl (by kernel_rfl) oCx (cJ (off:=2) (off':=3) rfl (by kernel_rfl) oi gv)))).map
  (fun a=>(⟨a.1,a.2.1,a.2.2.1⟩:PairV)) (by rintro ⟨n,i,k,u⟩ ⟨h1,h2,_⟩; exact ⟨h1,h2⟩) (fun _ _=>rfl)
end
end Go.Proofs.YtbgdcebmgjafjaaGreat
namespace Go.Proofs.YtbgdcebmgjafjaaGreat
open Go Go.Abs Go.RowKit Go.ChangeShapes Go.WideShapes Go.ChangeAt
theorem nM {H:Type} {enc:TypeId × Value→H} {P:Program} {f:Func} {s:ChangeSpec} {apart fresh handsOn again:Bool} {W W':World} {args:Array Value} {v:Value} {ds gs:List (DataW H)} {before pa pv:List MemPlace}
    (hW:DataW.Whole enc P f.params.toList s.vars apart W args.toList ds gs before)
    (hres:∀ (b:Nat) (sp:Nat→Bool) (hd:Bool),DataW.TrodAll enc P W' b sp hd f.resultTypes.toList (v.resultList f.resultTypes.size) (s.fn H (ds ++ gs)).results [])
    (hargs:∀ sp:Nat→Bool,(∀ p ∈ before,sp p.block=true)→DataW.TrodAll enc P W' 0 sp true f.params.toList args.toList (s.fn H (ds ++ gs)).args pa)
    (hvars:∀ sp:Nat→Bool,(∀ p ∈ before,sp p.block=true)→DataW.TrodVars enc P W' sp s.vars (s.fn H (ds ++ gs)).vars pv)
    (hps:before=pa ++ pv) (hb:Below W.heap.size W W')
    (hok:∀ (j:Nat) (t:TypeId) (r:Value),f.resultTypes[j]?=some t→(v.resultList f.resultTypes.size)[j]?=some r→Value.okWide P W' .any 0 t r) :
    s.post enc P f apart fresh handsOn again W args v W':=by
 have hold:∀ p ∈ before,(fun b=>decide (b < W.heap.size)) p.block=true:=fun p hp=>by simpa using hW.lt p hp
 have hlt:=fun p hp=>hW.lt p hp
 refine ⟨ds,gs,before,[],pa,pv,hW,hres _ _ _,hargs _ hold,hvars _ hold,World.keptBut_mono (fun p hp=>⟨hp,?_⟩) (hb.frame _),fun _=>?_⟩
 ·rw [hps,List.mem_append] at hp
  exact Or.inr hp
 ·obtain ⟨_,_,_,_,_,hz,hn⟩:=hW
  refine ⟨hok,_,_,([] ++ pa) ++ pv,⟨[] ++ pa,pv,trodAll_append (hargs _ (fun _ _=>rfl)) (hres _ _ _),hvars _ (fun _ _=>rfl),rfl,?_,?_⟩,?_⟩
  ·intro b off hp
   have hp':MemPlace.cell b off ∈ before:=by rw [hps]; simpa using hp
   rw [hb.frozen (hlt _ hp')]
   exact hz b off hp'
  ·intro ha
   have:=hn ha
   rw [hps] at this
   simpa using this
  ·intro p hp _
   rw [hps]
   simpa using hp
theorem uM {E:Env} {w:World}:bS E w [] []:=⟨rfl,fun i x y h=>(by cases h)⟩
theorem kE {E:Env} {w:World} {x:AV} {y:Value} {xs:List AV} {ys:List Value} (h:Rel E w x y) (hs:bS E w xs ys):bS E w (x :: xs) (y :: ys):=by
 refine ⟨by simp [hs.1],fun i a b ha hb=>?_⟩
 cases i with
 | zero=>simp at ha hb; subst ha hb; exact h
 | succ i=>simp at ha hb; exact hs.2 i a b ha hb
theorem own:ownKnob Tryz.prog.godebug=none:=by kernel_rfl
end Go.Proofs.YtbgdcebmgjafjaaGreat