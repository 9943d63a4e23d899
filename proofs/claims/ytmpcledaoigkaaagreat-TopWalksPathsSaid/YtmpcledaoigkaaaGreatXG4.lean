/- Contracts of functions and plain laws, for all inputs that the theorems name. -/
import Derived.Test.YtmpcledaoigkaaaGreatXG3

set_option linter.unusedSimpArgs false
set_option linter.unusedVariables false
set_option maxHeartbeats 4000000
namespace Go.Proofs.YtmpcledaoigkaaaGreat.Tk
open Go Go.Abs
open Nat (reduceEqDiff reduceAdd reduceLeDiff)
theorem ET(t:TaskV)(k:Nat)(hk:k<t.cases.length):jn t k=if ct (t.cases.getD k default).inp t.n t.ins≠0 then ct (t.cases.getD k default).inp t.n t.ins else if (decide (0<k)&&decide (0<=bu (t.cases.getD (k-1) default).inp (t.cases.getD k default).inp)) then 14 else ew t.n t.outs (t.cases.getD k default):=by
 unfold jn iv;rw[pu hk,pu (by omega)]
section
attribute [local irreducible] aE ai be aP aJ aK ay aL aR bn Go.Abs.Fn aO Go.Abs.Pure ak aD Yl
theorem ym(a b:List Int)(ha:Sh a)(hb:Sh b):pU 164 [aH a,aH b] (.int .i64 (bu a b)):=by
 refine pO M8 ?_;simp only[Nl,aw];have ha':a.length<=17592186044416:=ha;have hb':b.length<=17592186044416:=hb;refine wnZ and_self ?_;refine fS (X:=Nat) (λk=>[(0,aH a),(1,aH b),(5,.int .i64 k)]) (λk=>k<=a.length/\k<=b.length/\bu a b=bu (a.drop k) (b.drop k)) (λk=>a.length-k) 0 ⟨bz _,bz _,rfl⟩ ag0 ?_;rintro k ⟨h1,h2,h3⟩;by_cases hka:k<a.length
 ·by_cases hkb:k<b.length
  ·rw[du (l:=a) hka,du (l:=b) hkb,bu] at h3;by_cases c1:a.getD k default<b.getD k default
   ·rw[if_pos c1] at h3;rw[h3];refine wnZ and_self ?_;exact .int _ _
   ·rw[if_neg c1] at h3;by_cases c2:a.getD k default>b.getD k default
    ·rw[if_pos c2] at h3;rw[h3];refine wnZ and_self ?_;exact .int _ _
    ·rw[if_neg c2] at h3;refine wnZ and_self ?_;exact⟨k+1,⟨by omega,by omega,h3⟩,by omega,ag0,rfl,rfl⟩
  ·rw[nC (show b.length<=k by omega),du (l:=a) hka] at h3;have h3:bu a b=1:=h3;rw[h3];refine wnZ and_self ?_;exact .int _ _
 ·by_cases hkb:k<b.length
  ·rw[nC (show a.length<=k by omega),du (l:=b) hkb] at h3;have h3:bu a b=-1:=h3;rw[h3];refine wnZ and_self ?_;exact .int _ _
  ·rw[nC (show a.length<=k by omega),nC (show b.length<=k by omega)] at h3;have h3:bu a b=0:=h3;rw[h3];refine wnZ and_self ?_;exact .int _ _
theorem PM(l:List (List Int))(v:List Int)(hl:Sh l)(hs:∀x∈l,Sh x)(hv:Sh v):pU 165 [bi l,aH v] (.bool (decide (v∈l))):=by
 refine pO Lz ?_;simp only[N4,aw];have hl':l.length<=17592186044416:=hl;refine wnZ and_self ?_;refine qo (λk=>[(0,bi l),(1,aH v),(5,.int .i64 k)]) l.length (λk=>l.getD k default≠v) ag0 ?_;intro k hk hp;by_cases hk2:k<l.length
 rotate_left
 ·refine wnZ and_self ?_
  exact cf (bK (fun hm=>by
   obtain⟨i,hi,e⟩:=zy.1 hm;exact hp i (by omega) e)).symm
 have hc:=ym (l.getD k default) v (hs _ (au hk2)) hv;by_cases he:bu (l.getD k default) v=0
 ·refine wnZ and_self ?_;exact cf (bG (zy.2 ⟨k,hk2,tL he⟩)).symm
 ·refine wnZ and_self ?_;exact⟨hk2,λh=>he (by rw[h];exact pi v),ag0,rfl,rfl⟩
theorem CE(v:List Int)(n most:Int)(hv:Sh v):pU 163 [aH v,.int .i64 n,.int .i64 most] (.int .i64 (ct v n most)):=by
 refine pO LU ?_;simp only[MD,aw];have hv':v.length<=17592186044416:=hv;by_cases hn:(v.length:Int)=n
 rotate_left
 ·have e:ct v n most=15:=by unfold ct;rw[if_pos hn]
  rw[e];refine wnZ and_self ?_
  all_goals exact .int _ _
 have e:ct v n most=if v.any (λx=>decide (x<0\/most<=x)) then 2 else 0:=by unfold ct;rw[if_neg (λh=>h hn)]
 rw[e];subst hn;refine wnZ and_self ?_;refine qo (λk=>[(0,aH v),(1,.int .i64 v.length),(2,.int .i64 most),(7,.int .i64 k)]) v.length (λk=>decide (v.getD k default<0\/most<=v.getD k default)=false) ag0 ?_;intro k hk hp;by_cases hk2:k<v.length
 rotate_left
 ·refine wnZ and_self ?_;rw[lD λi hi=>hp i (by omega)];exact .int _ _
 by_cases hb:v.getD k default<0\/most<=v.getD k default
 ·repeat' (first|refine zW ?_|apply a_n|apply a_r|refine zO ?_|refine vZ ?_|refine gTZ ?_|refine gFZ ?_|refine cTZ ?_|(refine zGZ ?_ ?_<;>(intro _hg;try (exfalso;omega)))|refine bk rfl ?_|refine r1Z ?_|fail)
  all_goals first
   |(rw[Fm (p:=λx=>decide (x<0\/most<=x)) hk2 (bG hb)];exact .int _ _)
 ·refine wnZ and_self ?_;exact⟨hk2,bK hb,ag0,rfl,rfl⟩
theorem Pz(t:TaskV)(j:Nat)(hs:∀c∈t.cases,ShC c)(hsc:Sh t.cases)(hj:j<t.cases.length):pU 146 [pJ t,.int .i64 j] (.int .i64 (jn t j)):=by
 refine pO NS ?_;simp only[Nz,aw];rw[ET t j hj];have hsc':t.cases.length<=17592186044416:=hsc;have hm:=au hj;obtain⟨s1,s2,s3,s4,s5⟩:=hs _ hm;have ix:=aixS_encCs hj;have hv:=CE _ t.n t.ins s1;unfold pJ;by_cases hV:ct (t.cases.getD j default).inp t.n t.ins=0
 rotate_left
 ·rw[if_pos hV];generalize ct (t.cases.getD j default).inp t.n t.ins=V at *;refine wnZ (zI4 @bC @bg @bc @ix) ?_;exact .int _ _
 rw[if_neg (λh=>h hV)];rw[hV] at hv;have hO:=ym (t.cases.getD (j-1) default).inp (t.cases.getD j default).inp (hs _ (au (by omega))).1 s1;have hi1:=aixS_encCs (l:=t.cases) (k:=j-1) (by omega);generalize hC:t.cases.getD j default=c at *;obtain⟨inp,out,calm⟩:=c;dsimp only at *;have s2':out.length<=17592186044416:=s2;have s4':calm.length<=17592186044416:=s4;refine jw ?_;have zz:=aI @bC (aI @bg (aI @bc @ix));repeat' (first|apply a_n|refine zO ?_|refine vZ ?_|refine bxZ ?_|fail)
 refine jw ?_;clear zz;have zz:=aI @bC (aI @bg (aI @bc @ix));repeat' (first|apply a_n|refine zO ?_|refine vZ ?_|refine alZ ?_|refine stZ ?_|fail)
 refine cS (λT H nx=>T 1=.int .i64 j/\T 2=.ptr 0 4 0/\T 5=.ptr 1 3 0/\H 0=some [.int .i64 t.n,.int .i64 t.ins,.int .i64 t.outs,cC t.cases]/\H 1=some [aH inp,bi out,bi calm]) ?_ ?_
 ·refine wnZ (zI4 @bC @bg @bc @ix) ?_;exact⟨rfl,rfl,rfl,rfl,rfl⟩
 rintro T H nx ⟨t1,t2,t5,g0,g1⟩;refine cS (λT H nx=>T 1=.int .i64 j/\T 2=.ptr 0 4 0/\T 5=.ptr 1 3 0/\H 0=some [.int .i64 t.n,.int .i64 t.ins,.int .i64 t.outs,cC t.cases]/\H 1=some [aH inp,bi out,bi calm]/\(decide (0<j)&&decide (0<=bu (t.cases.getD (j-1) default).inp inp))=false) ?_ ?_
 ·by_cases hj0:j=0
  ·subst hj0;refine wkZ (fk @t1 @t2 @t5 @g0 @g1 @bC @bg @bc @ix @dX) ?_
   all_goals first|exact⟨(have zz:=aI @t1 (aI @t2 (aI @t5 (aI @g0 @g1)));evZ),(have zz:=aI @t1 (aI @t2 (aI @t5 (aI @g0 @g1)));evZ),(have zz:=aI @t1 (aI @t2 (aI @t5 (aI @g0 @g1)));evZ),(have zz:=aI @t1 (aI @t2 (aI @t5 (aI @g0 @g1)));evZ),(have zz:=aI @t1 (aI @t2 (aI @t5 (aI @g0 @g1)));evZ),by first|rfl|simp⟩|trace_state
  ·have e1:(j:Int)-1=((j-1:Nat):Int):=by omega
   rw[<-e1] at hi1;rw[bG (show 0<j by omega),Bool.true_and];have hj1:decide ((0:Int)<(j:Int))=true:=bG (by omega);by_cases ho:0<=bu (t.cases.getD (j-1) default).inp inp
   ·rw[bG ho,if_pos rfl];refine wkZ (aI @t1 (aI @t2 (fk @t5 @g0 @g1 @bC @bg @bc @ix @hi1 @hj1 @dX))) ?_
    all_goals first|exact .int _ _|trace_state
   ·rw[bK ho];refine wkZ (aI @t1 (aI @t2 (fk @t5 @g0 @g1 @bC @bg @bc @ix @hi1 @hj1 @dX))) ?_
    all_goals first|exact⟨(have zz:=aI @t1 (aI @t2 (aI @t5 (aI @g0 @g1)));evZ),(have zz:=aI @t1 (aI @t2 (aI @t5 (aI @g0 @g1)));evZ),(have zz:=aI @t1 (aI @t2 (aI @t5 (aI @g0 @g1)));evZ),(have zz:=aI @t1 (aI @t2 (aI @t5 (aI @g0 @g1)));evZ),(have zz:=aI @t1 (aI @t2 (aI @t5 (aI @g0 @g1)));evZ),by first|rfl|simp⟩|trace_state
 clear zz;clear t1 t2 t5 g0 g1 hO hi1;rintro T H nx ⟨t1,t2,t5,g0,g1,hu⟩;rw[hu,if_neg (by simp)];by_cases h0:out.length<1\/1024<out.length
 ·have e:ew t.n t.outs ⟨inp,out,calm⟩=5:=by unfold ew;rw[if_pos h0]
  rw[e];have zz:=aI @t1 (aI @t2 (aI @t5 (aI @g0 @g1)));repeat' (first|refine zW ?_|apply a_n|apply a_r|refine zO ?_|refine vZ ?_|refine gTZ ?_|refine gFZ ?_|refine cTZ ?_|(refine zGZ ?_ ?_<;>(intro _hg;try (exfalso;omega)))|refine bk rfl ?_|refine r1Z ?_|fail)
  all_goals exact .int _ _
 have e:ew t.n t.outs ⟨inp,out,calm⟩=if cH (oh t.n t.outs out) out.length≠0 then cH (oh t.n t.outs out) out.length else cH (oB out calm) calm.length:=by unfold ew;rw[if_neg h0]
 rw[e];refine cS (λT H nx=>T 2=.ptr 0 4 0/\T 5=.ptr 1 3 0/\H 0=some [.int .i64 t.n,.int .i64 t.ins,.int .i64 t.outs,cC t.cases]/\H 1=some [aH inp,bi out,bi calm]) ?_ ?_
 ·refine wnZ (zI5 @t1 @t2 @t5 @g0 @g1) ?_
  all_goals first|exact⟨(have zz:=aI @t1 (aI @t2 (aI @t5 (aI @g0 @g1)));evZ),(have zz:=aI @t1 (aI @t2 (aI @t5 (aI @g0 @g1)));evZ),(have zz:=aI @t1 (aI @t2 (aI @t5 (aI @g0 @g1)));evZ),(have zz:=aI @t1 (aI @t2 (aI @t5 (aI @g0 @g1)));evZ)⟩|trace_state
 clear t1 t2 t5 g0 g1;rintro T H nx ⟨t2,t5,g0,g1⟩;refine cS (λT H nx=>T 2=.ptr 0 4 0/\T 5=.ptr 1 3 0/\H 0=some [.int .i64 t.n,.int .i64 t.ins,.int .i64 t.outs,cC t.cases]/\H 1=some [aH inp,bi out,bi calm]/\∀i,i<out.length->oh t.n t.outs out i=0) ?_ ?_
 ·refine wnZ (zI4 @t2 @t5 @g0 @g1) ?_;refine qo (λk=>[(2,.ptr 0 4 0),(5,.ptr 1 3 0),(7,.int .i64 k)]) out.length (λk=>oh t.n t.outs out k=0) (have zz:=aI @t2 @t5;agZ) ?_;intro k hk hz;by_cases hk2:k<out.length
  rotate_left
  ·refine wnZ (aI @g0 @g1) ?_;exact⟨rfl,rfl,g0,g1,λi hi=>hz i (by omega)⟩
  have hvk:=CE (out.getD k default) t.n t.outs (s3 _ (au hk2));have hok:=ym (out.getD (k-1) default) (out.getD k default) (s3 _ (au (by omega))) (s3 _ (au hk2));have ho:oh t.n t.outs out k=if ct (out.getD k default) t.n t.outs≠0 then ct (out.getD k default) t.n t.outs else if (decide (0<k)&&decide (0<=bu (out.getD (k-1) default) (out.getD k default))) then 14 else 0:=rfl
  have fin:∀r,oh t.n t.outs out k=r->r≠0->(if cH (oh t.n t.outs out) out.length≠0 then cH (oh t.n t.outs out) out.length else cH (oB out calm) calm.length)=r:=λr hr h0=>by
   rw[dN hk2 hz (by rw[hr];exact h0),hr,if_pos h0]
  generalize ct (out.getD k default) t.n t.outs=V at *;by_cases hV0:V=0
  rotate_left
  ·rw[if_pos hV0] at ho;rw[fin V ho hV0];refine wkZ (aI @g0 @g1) ?_;exact .int _ _
  subst hV0;rw[if_neg (λh=>h rfl)] at ho;by_cases hk0:k=0
  ·subst hk0;refine wkZ (zI3 @g0 @g1 @dX) ?_
   all_goals first|exact⟨hk2,ho,ag0,rfl,rfl⟩|trace_state
  ·have e1:(k:Int)-1=((k-1:Nat):Int):=by omega
   have e2:((k:Int)-1).toNat=k-1:=by omega
   have hj1:decide ((0:Int)<(k:Int))=true:=bG (by omega);rw[bG (show 0<k by omega),Bool.true_and] at ho;generalize bu (out.getD (k-1) default) (out.getD k default)=O at *;by_cases hO0:0<=O
   ·rw[bG hO0,if_pos rfl] at ho;rw[fin 14 ho (by decide)];refine wkZ (zI5 @g0 @g1 @hj1 @e2 @dX) ?_
    all_goals first|exact .int _ _|trace_state
   ·rw[bK hO0,if_neg (by simp)] at ho;refine wkZ (zI5 @g0 @g1 @hj1 @e2 @dX) ?_
    all_goals first|exact⟨hk2,ho,ag0,rfl,rfl⟩|trace_state
 clear t2 t5 g0 g1;rintro T H nx ⟨t2,t5,g0,g1,hz0⟩;rw[dC hz0,if_neg (λh=>h rfl)];refine wnZ (zI4 @t2 @t5 @g0 @g1) ?_;refine qo (λk=>[(2,.ptr 0 4 0),(5,.ptr 1 3 0),(9,.int .i64 k)]) calm.length (λk=>oB out calm k=0) (have zz:=aI @t2 @t5;agZ) ?_;intro k hk hz;by_cases hk2:k<calm.length
 rotate_left
 ·refine wnZ (aI @g0 @g1) ?_;rw[dC λi hi=>hz i (by omega)];exact .int _ _
 have hh:=PM out (calm.getD k default) s2 s3 (s5 _ (au hk2));have hok:=ym (calm.getD (k-1) default) (calm.getD k default) (s5 _ (au (by omega))) (s5 _ (au hk2));have ho:oB out calm k=if calm.getD k default∈out then(if (decide (0<k)&&decide (0<=bu (calm.getD (k-1) default) (calm.getD k default))) then 14 else 0) else 6:=rfl
 have fin:∀r,oB out calm k=r->r≠0->cH (oB out calm) calm.length=r:=λr hr h0=>by
  rw[dN hk2 hz (by rw[hr];exact h0),hr]
 by_cases hm2:calm.getD k default∈out
 rotate_left
 ·rw[if_neg hm2] at ho;rw[bK hm2] at hh;rw[fin 6 ho (by decide)];refine wkZ (zI3 @g0 @g1 @dX) ?_;exact .int _ _
 rw[if_pos hm2] at ho;rw[bG hm2] at hh;by_cases hk0:k=0
 ·subst hk0;refine wkZ (zI3 @g0 @g1 @dX) ?_
  all_goals first|exact⟨hk2,ho,ag0,rfl,rfl⟩|trace_state
 ·have e2:((k:Int)-1).toNat=k-1:=by omega
  have hj1:decide ((0:Int)<(k:Int))=true:=bG (by omega);rw[bG (show 0<k by omega),Bool.true_and] at ho;generalize bu (calm.getD (k-1) default) (calm.getD k default)=O at *;by_cases hO0:0<=O
  ·rw[bG hO0,if_pos rfl] at ho;rw[fin 14 ho (by decide)];refine wkZ (zI5 @g0 @g1 @hj1 @e2 @dX) ?_
   all_goals first|exact .int _ _|trace_state
  ·rw[bK hO0,if_neg (by simp)] at ho;refine wkZ (zI5 @g0 @g1 @hj1 @e2 @dX) ?_
   all_goals first|exact⟨hk2,ho,ag0,rfl,rfl⟩|trace_state
theorem J7(t:TaskV)(hs:∀c∈t.cases,ShC c)(hsc:Sh t.cases):pU 114 [pJ t] (.int .i64 (en t)):=by
 refine pO NI ?_;simp only[Nb,aw];have hsc':t.cases.length<=17592186044416:=hsc;have d2:=mP t;have hone:=λj hj=>Pz t j hs hsc hj;unfold pJ at d2 hone |-;by_cases h0:t.n<1\/5<t.n\/t.ins<1\/8<t.ins\/t.outs<1\/8<t.outs
 ·have e:en t=2:=by unfold en;rw[if_pos h0]
  rw[e];have zz:=aI @bC (aI @bg @bc);repeat' (first|refine zW ?_|apply a_n|apply a_r|refine zO ?_|refine vZ ?_|refine bxZ ?_|refine gTZ ?_|refine gFZ ?_|refine cTZ ?_|(refine zGZ ?_ ?_<;>(intro _hg;try (exfalso;omega)))|refine bk rfl ?_|refine r1Z ?_|fail)
  all_goals exact .int _ _
 by_cases h1:t.cases.length<1\/1024<t.cases.length
 ·have e:en t=5:=by unfold en;rw[if_neg h0,if_pos h1]
  rw[e];have zz:=aI @bC (aI @bg @bc);repeat' (first|refine zW ?_|apply a_n|apply a_r|refine zO ?_|refine vZ ?_|refine bxZ ?_|refine gTZ ?_|refine gFZ ?_|refine cTZ ?_|(refine zGZ ?_ ?_<;>(intro _hg;try (exfalso;omega)))|refine bk rfl ?_|refine r1Z ?_|fail)
  all_goals exact .int _ _
 have e:en t=cH (jn t) t.cases.length:=by unfold en;rw[if_neg h0,if_neg h1]
 rw[e];have zz:=aI @bC (aI @bg @bc);repeat' (first|refine zW ?_|apply a_n|refine zO ?_|refine vZ ?_|refine bxZ ?_|refine gTZ ?_|(refine zGZ ?_ ?_<;>(intro _hg;try (exfalso;omega)))|fail)
 refine qo (λk=>[(1,.ptr 0 4 0),(3,.int .i64 k)]) t.cases.length (λk=>jn t k=0) (by simp (disch:=omega) only[agr,ZG,reduceEqDiff,↓reduceIte,dJ,hZ]) ?_;intro k hk hz;by_cases hk2:k<t.cases.length
 rotate_left
 ·clear zz;have zz:=aI @bC (aI @bg @bc);repeat' (first|refine zW ?_|apply a_n|apply a_x|refine zO ?_|refine vZ ?_|(refine zGZ ?_ ?_<;>(intro _hg;try (exfalso;omega)))|refine bk rfl ?_|refine r1Z ?_|fail)
  rw[dC λi hi=>hz i (by omega)];exact .int _ _
 have hc:=hone k hk2;by_cases hE:jn t k=0
 ·rw[hE] at hc;clear zz;have zz:=aI @bC (aI @bg @bc);repeat' (first|refine zW ?_|apply a_n|refine zO ?_|refine vZ ?_|refine cZ ?_ (hp:=hc)|(refine zGZ ?_ ?_<;>(intro _hg;try (exfalso;omega)))|fail)
  exact⟨hk2,hE,ag0,rfl,rfl⟩
 ·rw[dN hk2 hz hE];generalize jn t k=V at *;clear zz;have zz:=aI @bC (aI @bg @bc);repeat' (first|refine zW ?_|apply a_n|apply a_r|refine zO ?_|refine vZ ?_|refine cZ ?_ (hp:=hc)|(refine zGZ ?_ ?_<;>(intro _hg;try (exfalso;omega)))|refine bk rfl ?_|refine r1Z ?_|fail)
  exact .int _ _
theorem FV(l:List (List Int))(hl:Sh l)(hs:∀x∈l,Sh x):pU 112 [bi l,.int .i64 30] (.bool (pk l)):=by
 refine pO Mq ?_;simp only[Mb,aw];have hl':l.length<=17592186044416:=hl;unfold pk;by_cases h0:l.length<=30
 rotate_left
 ·rw[bK h0];refine wnZ and_self ?_;exact .bool _
 rw[bG h0,Bool.true_and];refine wnZ and_self ?_;refine qo (λk=>[(0,bi l),(5,.int .i64 k)]) l.length (λk=>decide ((l.getD k default).length<=10)=true) ag0 ?_;intro k hk hz;by_cases hk2:k<l.length
 rotate_left
 ·refine wnZ and_self ?_;rw[lh λi hi=>hz i (by omega)];exact .bool _
 have hsk:(l.getD k default).length<=17592186044416:=hs _ (au hk2);by_cases hE:(l.getD k default).length<=10
 ·refine wnZ and_self ?_;exact⟨hk2,bG hE,ag0,rfl,rfl⟩
 ·refine wnZ and_self ?_;rw[iK (p:=λv=>decide (v.length<=10)) hk2 (bK hE)];exact .bool _
theorem OD(t:TaskV)(hs:∀c∈t.cases,ShC c)(hsc:Sh t.cases):pU 88 [pJ t] (.bool (BJ t)):=by
 refine pO OC ?_;simp only[b88,aw];have hsc':t.cases.length<=17592186044416:=hsc;unfold BJ pJ;by_cases h0:t.cases.length<=30
 rotate_left
 ·rw[bK h0];refine wnZ (zI3 @bC @bg @bc) ?_;exact .bool _
 rw[bG h0,Bool.true_and];refine wnZ (zI3 @bC @bg @bc) ?_;refine bj (X:=Nat) (λk=>[(1,.ptr 0 4 0),(3,.int .i64 k)]) (λk H nx=>k<=t.cases.length/\(∀i,i<k->vG (t.cases.getD i default)=true)/\1<=nx/\H 0=some [.int .i64 t.n,.int .i64 t.ins,.int .i64 t.outs,cC t.cases]) (λk=>t.cases.length-k) 0 ⟨bz _,λi h=>absurd h (by omega),aZ _,rfl⟩ (by simp (disch:=omega) only[agr,ZG,reduceEqDiff,↓reduceIte,dJ,hZ]) ?_;rintro k H nx ⟨hk,hz,hn,g0⟩;by_cases hk2:k<t.cases.length
 rotate_left
 ·refine wnY (zI4 @g0 @bC @bg @bc) ?_;rw[lh λi hi=>hz i (by omega)];exact .bool _
 have ix:=aixS_encCs hk2;obtain⟨s1,s2,s3,s4,s5⟩:=hs _ (au hk2);have hf1:=FV _ s2 s3;have hf2:=FV _ s4 s5;have hF:vG (t.cases.getD k default)=(decide ((t.cases.getD k default).inp.length<=10)&&pk (t.cases.getD k default).out&&pk (t.cases.getD k default).calm):=rfl
 have hno:vG (t.cases.getD k default)=false->Snap H (.bool false) (.bool (t.cases.all vG)):=λh=>by
  rw[iK hk2 h];exact .bool _
 have hno':∀{H'},vG (t.cases.getD k default)=false->Snap H' (.bool false) (.bool (t.cases.all vG)):=λh=>by
  rw[iK hk2 h];exact .bool _
 have s1':(t.cases.getD k default).inp.length<=17592186044416:=s1;generalize pk (t.cases.getD k default).out=F1 at *;generalize pk (t.cases.getD k default).calm=F2 at *;by_cases hl:(t.cases.getD k default).inp.length<=10
 rotate_left
 ·rw[bK hl] at hF;refine wnY (zI5 @g0 @bC @bg @bc @ix) ?_
  all_goals exact hno' hF
 rw[bG hl,Bool.true_and] at hF;cases F1 with
 |false=>
  refine wnY (zI6 @g0 @bC @bg @bc @ix @dX) ?_
  all_goals exact hno' hF
 |true=>
  cases F2 with
  |false=>
   refine wnY (zI6 @g0 @bC @bg @bc @ix @dX) ?_
   all_goals exact hno' hF
  |true=>
   have zz:=aI @g0 (aI @bC (aI @bg (aI @bc (aI @ix @dX))));repeat' (first|refine zW ?_|apply a_n|refine zO ?_|refine vY ?_|refine cY ?_ (hp:=by first|exact hf1|exact hf2)|refine alY ?_|refine stY ?_|refine gTY ?_|refine cFY ?_|(refine zGY ?_ ?_<;>(intro _hg;try (exfalso;omega)))|fail)
   refine⟨k+1,by omega,⟨by omega,λi hi=>?_,by omega,?_⟩,ag0⟩
   ·rcases ij.1 hi with h|rfl
    ·exact hz i h
    ·exact hF
   ·rw[ab (by omega),ab (by omega),g0]
end
end Go.Proofs.YtmpcledaoigkaaaGreat.Tk
namespace Go.Proofs.YtmpcledaoigkaaaGreat
open Go Go.Abs
open Nat (reduceEqDiff reduceAdd reduceLeDiff)
def swp{α:Type}[Inhabited α](L:List α)(i j:Nat):List α:=(L.set i (L.getD j default)).set j (L.getD i default)
structure PermR{α:Type}[Inhabited α](a b:Nat)(L L':List α):Prop where
 len:L'.length=L.length
 out:∀i,i<a\/b<=i->L'.getD i default=L.getD i default
 perm:L'.Perm L
section
variable{α:Type}[Inhabited α]{a b a' b':Nat}{L L' L'':List α}
theorem dW{l:List α}{i j:Nat}{x:α}(h:i<l.length):(l.set i x).getD j default=if i=j then x else l.getD j default:=by
 simp only[List.getD,List.getElem?_set];split
 ·rename_i e;subst e;simp[h]
 ·rfl
theorem CB(i j:Nat):(swp L i j).length=L.length:=by simp[swp]
theorem fC{i j:Nat}(hi:i<L.length)(hj:j<L.length)(k:Nat):(swp L i j).getD k default=if k=j then L.getD i default else if k=i then L.getD j default else L.getD k default:=by
 unfold swp;rw[dW (by simpa using hj),dW hi];by_cases e:k=j
 ·subst e;simp
 ·rw[if_neg (λh=>e h.symm),if_neg e];by_cases e2:k=i
  ·subst e2;simp
  ·rw[if_neg (λh=>e2 h.symm),if_neg e2]
theorem FC{i j:Nat}(hi:i<L.length)(hj:j<L.length):(swp L i j).Perm L:=by
 unfold swp;have e1:L.getD i default=L[i]:=by simp[List.getD,hi]
 have e2:L.getD j default=L[j]:=by simp[List.getD,hj]
 rw[e1,e2];exact List.set_set_perm hi hj
theorem PermR.refl:PermR a b L L:=⟨rfl,λ_ _=>rfl,List.Perm.refl _⟩
theorem PermR.trans(h:PermR a b L L')(k:PermR a b L' L''):PermR a b L L'':=⟨k.len.trans h.len,λi hi=>(k.out i hi).trans (h.out i hi),k.perm.trans h.perm⟩
theorem PermR.mono(h:PermR a' b' L L')(h1:a<=a')(h2:b'<=b):PermR a b L L':=⟨h.len,λi hi=>h.out i (by omega),h.perm⟩
theorem PermR.swap{i j:Nat}(h1:a<=i/\i<b)(h2:a<=j/\j<b)(hb:b<=L.length):PermR a b L (swp L i j):=
 ⟨CB i j,λk hk=>by rw[fC (by omega) (by omega),if_neg (by omega),if_neg (by omega)],FC (by omega) (by omega)⟩
theorem y8{l m:List α}(hl:l.length=m.length)(h:∀i,i<l.length->l.getD i default=m.getD i default):l=m:=
 List.ext_getElem hl (fun i h1 h2=>by
  have:=h i h1;simpa[List.getD,h1,h2] using this)
theorem PermR.mid(h:PermR a b L L')(hab:a<=b)(hb:b<=L.length):((L'.drop a).take (b-a)).Perm ((L.drop a).take (b-a)):=by
 have e1:∀M:List α,b<=M.length->M=M.take a++((M.drop a).take (b-a)++M.drop b):=λM hM=>by
  have:M.drop b=(M.drop a).drop (b-a):=by rw[List.drop_drop];congr 1;omega
  rw[this,xC,xC]
 have t:L'.take a=L.take a:=y8 (by simp [h.len]) (fun i hi=>by
  have hi':i<a:=by simp at hi;omega
  rw[wy hi',wy hi'];exact h.out i (.inl hi'))
 have d:L'.drop b=L.drop b:=y8 (by simp [h.len]) (fun i hi=>by
  have e:∀M:List α,(M.drop b).getD i default=M.getD (b+i) default:=λM=>by simp[List.getD,ka]
  rw[e,e];exact h.out (b+i) (.inr (by omega)))
 have p:=h.perm;rw[e1 L' (by rw[h.len];exact hb),e1 L hb,t,d] at p;exact(List.perm_append_right_iff _).1 ((List.perm_append_left_iff _).1 p)
theorem B4{M:List α}{x:α}(hab:a<=b)(hb:b<=M.length):x∈(M.drop a).take (b-a)↔ ∃i,a<=i/\i<b/\M.getD i default=x:=by
 constructor
 ·intro h;obtain⟨j,hj,e⟩:=mM h;have hj':j<b-a:=by simp at hj;omega
  refine⟨a+j,by omega,by omega,?_⟩;rw[<-e];simp[List.getD,List.getElem_take,List.getElem_drop,show a+j<M.length by omega]
 ·rintro⟨i,h1,h2,rfl⟩;rw[List.mem_iff_getElem?];refine⟨i-a,?_⟩;rw[jq,if_pos (by omega),ka,show a+(i-a)=i by omega];simp[List.getD,show i<M.length by omega]
theorem PermR.all{p:α->Prop}(h:PermR a b L L')(hab:a<=b)(hb:b<=L.length)(hp:∀i,a<=i->i<b->p (L.getD i default)):∀i,a<=i->i<b->p (L'.getD i default):=by
 intro i h1 h2;have hm:L'.getD i default∈(L'.drop a).take (b-a):=(B4 hab (by rw[h.len];exact hb)).2 ⟨i,h1,h2,rfl⟩;obtain⟨j,k1,k2,e⟩:=(B4 hab hb).1 ((h.mid hab hb).mem_iff.1 hm);rw[<-e];exact hp j k1 k2
end
structure Ord{α:Type}(K:α->α->Int):Prop where
 irr:∀x,¬K x x<0
 asym:∀x y,K x y<0->¬K y x<0
 negtr:∀x y z,¬K y x<0->¬K z y<0->¬K z x<0
def bA{α:Type}[Inhabited α](K:α->α->Int)(a b:Nat)(L:List α):Prop:=∀i j,a<=i->i<j->j<b->¬K (L.getD j default) (L.getD i default)<0
theorem bA.one{α:Type}[Inhabited α]{K:α->α->Int}{a b:Nat}{L:List α}(h:b<=a+1):bA K a b L:=λi j h1 h2 h3=>by omega
structure LinK{α:Type}(K:α->α->Int):Prop where
 ord:Ord K
 eq:∀x y,¬K x y<0->¬K y x<0->x=y
def fM{α:Type}(K:α->α->Int)(l:List α):Prop:=l.Pairwise λx y=>K x y<0
def xT{α:Type}(K:α->α->Int):List α->α->List α
 |[],v=>[v]
 |a::l,v=>if K v a<0 then v::a::l else a::xT K l v
section
variable{α:Type}[DecidableEq α]{K:α->α->Int}
def vC(K:α->α->Int)(acc:List α)(v:α):List α:=if v∈acc then acc else xT K acc v
def vJ(K:α->α->Int)(acc l:List α):List α:=l.foldl (vC K) acc
def kG(K:α->α->Int)(l:List α):List α:=vJ K [] l
omit [DecidableEq α] in
theorem fM.nil:fM K ([]:List α):=A6
omit [DecidableEq α] in
theorem fM.nodup{l:List α}(hK:LinK K)(h:fM K l):l.Nodup:=List.Pairwise.imp (λ{a b} h e=>by subst e;exact hK.ord.irr a h) h
omit [DecidableEq α] in
theorem LinK.tri(hK:LinK K)(x y:α):K x y<0\/x=y\/K y x<0:=by
 by_cases h1:K x y<0
 ·exact .inl h1
 ·by_cases h2:K y x<0
  ·exact .inr (.inr h2)
  ·exact .inr (.inl (hK.eq x y h1 h2))
omit [DecidableEq α] in
theorem LinK.trans(hK:LinK K){x y z:α}(h1:K x y<0)(h2:K y z<0):K x z<0:=by
 refine Decidable.byContradiction λhn=>?_;exact hK.ord.negtr z x y hn (hK.ord.asym _ _ h1) h2
omit [DecidableEq α] in
theorem wW{a b:List α}(hK:LinK K)(ha:fM K a)(hb:fM K b)(h:∀x,x∈a↔x∈b):a=b:=by
 classical
 have hp:a.Perm b:=(List.perm_ext_iff_of_nodup (ha.nodup hK) (hb.nodup hK)).2 h;exact List.Perm.eq_of_pairwise (λx y _ _ h1 h2=>absurd h2 (hK.ord.asym _ _ h1)) ha hb hp
omit [DecidableEq α] in
theorem AA{l:List α}{v x:α}:x∈xT K l v↔x∈l\/x=v:=by
 induction l with
 |nil=>simp[xT]
 |cons a l ih=>
  unfold xT;split
  ·simp only[gg];exact⟨λh=>h.elim .inr .inl,λh=>h.elim .inr .inl⟩
  ·rw[gg,ih,gg,or_assoc]
omit [DecidableEq α] in
theorem EB{l:List α}{v:α}(hK:LinK K)(h:fM K l)(hv:v∉l):fM K (xT K l v):=by
 induction l with
 |nil=>exact List.pairwise_singleton _ _
 |cons a l ih=>
  unfold fM at h;rw[qG] at h;unfold xT;split
  ·rename_i hlt
   exact qG.2 ⟨fun y hy=>by
    rcases gg.1 hy with rfl|hy
    ·exact hlt
    ·exact hK.trans hlt (h.1 y hy),qG.2 h⟩
  ·rename_i hlt;refine qG.2 ⟨λy hy=>?_,ih h.2 λhm=>hv (qq _ hm)⟩;rcases AA.1 hy with hy|rfl
   ·exact h.1 y hy
   ·rcases hK.tri y a with k|k|k
    ·exact absurd k hlt
    ·exact absurd (k▸ju) hv
    ·exact k
omit [DecidableEq α] in
theorem Fu{l:List α}{v:α}:(xT K l v).length=l.length+1:=by
 induction l with
 |nil=>rfl
 |cons a l ih=>unfold xT;split<;>simp[ih]
theorem Ga{acc:List α}{v x:α}:x∈vC K acc v↔x∈acc\/x=v:=by
 unfold vC;split
 ·rename_i h;exact⟨.inl,λh2=>h2.elim id (λe=>e▸h)⟩
 ·exact AA
theorem GB{acc:List α}{v:α}(hK:LinK K)(h:fM K acc):fM K (vC K acc v):=by
 unfold vC;split
 ·exact h
 ·rename_i hn;exact EB hK h hn
theorem Ex{acc:List α}{v:α}:(vC K acc v).length<=acc.length+1:=by
 unfold vC;split
 ·omega
 ·rw[Fu];exact aZ _
theorem zS:∀{l acc:List α}{x:α},x∈vJ K acc l↔x∈acc\/x∈l
 |[],acc,x=>by simp[vJ]
 |v::l,acc,x=>by
  rw[show vJ K acc (v::l)=vJ K (vC K acc v) l from rfl,zS,Ga,gg,or_assoc]
theorem Ah(hK:LinK K):∀{l acc:List α},fM K acc->fM K (vJ K acc l)
 |[],_,h=>h
 |v::l,acc,h=>Ah hK (l:=l) (GB hK (v:=v) h)
theorem zx:∀{l acc:List α},(vJ K acc l).length<=acc.length+l.length
 |[],acc=>by simp[vJ]
 |v::l,acc=>by
  rw[show vJ K acc (v::l)=vJ K (vC K acc v) l from rfl];have:=zx (l:=l) (acc:=vC K acc v);have:=Ex (K:=K) (acc:=acc) (v:=v);rw[dJ];omega
theorem tO(hK:LinK K)(l:List α):fM K (kG K l):=Ah hK A6
theorem pW{l:List α}{x:α}:x∈kG K l↔x∈l:=by
 unfold kG;rw[zS];simp
theorem zt{l:List α}:(kG K l).length<=l.length:=by
 have:=zx (K:=K) (l:=l) (acc:=[]);unfold kG;rw[hZ] at this;omega
theorem zf{l:List α}:kG K l=[]↔l=[]:=by
 constructor
 ·intro h;cases l with
  |nil=>rfl
  |cons a l=>
   have:a∈kG K (a::l):=pW.2 (ju ..);rw[h] at this;exact absurd this (by simp)
 ·rintro rfl;rfl
end
section
variable{α:Type}[Inhabited α][DecidableEq α]
def d9(l:List α):Nat->Nat
 |0=>0
 |k+1=>d9 l k+if k=0\/l.getD k default≠l.getD (k-1) default then 1 else 0
theorem FP(l:List α)(k:Nat):d9 l k<=k:=by
 induction k with
 |zero=>exact aZ _
 |succ k ih=>unfold d9;split<;>omega
theorem lN{l:List α}{k:Nat}(hk:k≠0)(h:l.getD k default=l.getD (k-1) default):d9 l (k+1)=d9 l k:=by
 rw[d9,if_neg (by rintro(h'|h');exact hk h';exact h' h)];rfl
theorem ud{l:List α}{k:Nat}(h:l.getD k default≠l.getD (k-1) default):d9 l (k+1)=d9 l k+1:=by
 rw[d9,if_pos (.inr h)]
def gX(l:List α):Nat->List α
 |0=>[]
 |k+1=>gX l k++if k=0\/l.getD k default≠l.getD (k-1) default then [l.getD k default] else []
theorem DY(l:List α)(k:Nat):(gX l k).length=d9 l k:=by
 induction k with
 |zero=>rfl
 |succ k ih=>rw[gX,d9,cq,ih];split<;>rfl
theorem uH{l:List α}{k:Nat}(hk:k≠0)(h:l.getD k default=l.getD (k-1) default):gX l (k+1)=gX l k:=by
 rw[gX,if_neg (by rintro(h'|h');exact hk h';exact h' h),gI]
theorem vu{l:List α}{k:Nat}(h:l.getD k default≠l.getD (k-1) default):gX l (k+1)=gX l k++[l.getD k default]:=by
 rw[gX,if_pos (.inr h)]
theorem rc{l:List α}:∀{k:Nat},k<=l.length->∀x,x∈gX l k↔ ∃j,j<k/\l.getD j default=x
 |0,_,x=>by simp[gX]
 |k+1,hk,x=>by
  have ih:=rc (l:=l) (k:=k) (by omega) x;rw[gX,iG,ih];constructor
  ·rintro(⟨j,h1,h2⟩|h)
   ·exact⟨j,by omega,h2⟩
   ·split at h
    ·rw[eM] at h;exact⟨k,by omega,h.symm⟩
    ·simp at h
  ·rintro⟨j,h1,h2⟩;by_cases e:j=k
   ·subst e;by_cases c:j=0\/l.getD j default≠l.getD (j-1) default
    ·right;rw[if_pos c,eM];exact h2.symm
    ·left;have c1:j≠0:=λh=>c (.inl h);have c2:l.getD j default=l.getD (j-1) default:=Dy λh=>c (.inr h);exact⟨j-1,by omega,by rw[<-c2];exact h2⟩
   ·left;exact⟨j,by omega,h2⟩
theorem wL{K:α->α->Int}(hK:LinK K){l:List α}(hs:∀i j,i<j->j<l.length->¬K (l.getD j default) (l.getD i default)<0):∀{k:Nat},k<=l.length->fM K (gX l k)
 |0,_=>A6
 |k+1,hk=>by
  have ih:=wL hK hs (k:=k) (by omega);unfold fM;rw[gX,List.pairwise_append];refine⟨ih,by split<;>simp,λx hx y hy=>?_⟩;split at hy
  ·rename_i c;rw[eM] at hy;subst hy;obtain⟨j,h1,rfl⟩:=(rc (by omega) x).1 hx;rcases c with c|c
   ·omega
   ·refine Decidable.byContradiction λhn=>?_;have a2:=hs (k-1) k (by omega) (by omega);have hne:K (l.getD (k-1) default) (l.getD k default)<0:=Decidable.byContradiction λh3=>c (hK.eq _ _ a2 h3);by_cases e:j=k-1
    ·rw[e] at hn;exact hn hne
    ·have a1:=hs j (k-1) (by omega) (by omega);exact hK.ord.negtr _ _ _ hn a1 hne
  ·simp at hy
omit [DecidableEq α] in
theorem Gc{M:List α}{x:α}:(∃j,j<M.length/\M.getD j default=x)↔x∈M:=by
 constructor
 ·rintro⟨j,h1,rfl⟩;simp[List.getD,h1]
 ·intro h;obtain⟨j,hj,rfl⟩:=mM h;exact⟨j,hj,by simp[List.getD,hj]⟩
theorem Ej{K:α->α->Int}(hK:LinK K){l M:List α}(hp:M.Perm l)(hs:bA K 0 M.length M):gX M M.length=kG K l:=by
 refine wW hK (wL hK (λi j h1 h2=>hs i j (bz _) h1 h2) (aZ _)) (tO hK l) λx=>?_;rw[rc (aZ _),Gc,hp.mem_iff,pW]
end
abbrev Shn{α:Type}(l:List α):Prop:=l.length<=17592186044416
structure Vtx where
 color:Int
 label:Int
 deriving Inhabited,DecidableEq
abbrev Spx:=List Vtx
def Et(v:Vtx):List AV:=[.int .i64 v.color,.int .i64 v.label]
abbrev dL(v:Vtx):AV:=.agg [.int .i64 v.color,.int .i64 v.label]
def aG(l:Spx):AV:=gq 2 dL l
def bo(l:List Spx):AV:=gq 1 aG l
def cX(l:Spx):List AV:=l.flatMap Et
theorem nj(v:Vtx):Dat (dL v):=Dat.agg (DatL.cons .int (DatL.cons .int DatL.nil))
theorem bT (l:Spx):Dat (aG l):=jP (fun x _ c hc=>by
 simp only[dL,AV.cells,gg,List.not_mem_nil,or_false] at hc;rcases hc with rfl|rfl<;>exact .int)
theorem cR (l:List Spx):Dat (bo l):=jP (fun x _ c hc=>by
 simp only[aG,gq,AV.cells,eM] at hc;subst hc;exact bT x)
instance datI_encX{v:Vtx}:DatI (dL v):=⟨nj v⟩
instance datI_encXs{l:Spx}:DatI (aG l):=⟨bT l⟩
instance datI_encXss{l:List Spx}:DatI (bo l):=⟨cR l⟩
theorem bH{l:Spx}:(aG l).cells=[aG l]:=rfl
theorem bO{l:Spx}:(aG l).one=true:=rfl
theorem br{l:List Spx}:(bo l).cells=[bo l]:=rfl
theorem bJ{l:List Spx}:(bo l).one=true:=rfl
theorem BC{l:Spx}{k:IntKind}{n:Int}:cA 2 (aG l) (.int k n)=if 0<=n/\n<l.length then some (.iptr [.int .i64 (l.getD n.toNat default).color,.int .i64 (l.getD n.toNat default).label] 0) else none:=fW
theorem aS{l:Spx}:dl (aG l)=some (.int .i64 l.length):=fQ
theorem AK{l:List Spx}{k:IntKind}{n:Int}:cA 1 (bo l) (.int k n)=if 0<=n/\n<l.length then some (.iptr [aG (l.getD n.toNat default)] 0) else none:=fW
theorem aW{l:List Spx}:dl (bo l)=some (.int .i64 l.length):=fQ
theorem ix2{l:Spx}{k:Nat}(h:k<l.length):cA 2 (aG l) (.int .i64 (k:Int))=some (.iptr [.int .i64 (l.getD k default).color,.int .i64 (l.getD k default).label] 0):=by
 rw[BC,if_pos ⟨by omega,by omega⟩,bQ]
theorem o0{l:List Spx}{k:Nat}(h:k<l.length):cA 1 (bo l) (.int .i64 (k:Int))=some (.iptr [aG (l.getD k default)] 0):=by
 rw[AK,if_pos ⟨by omega,by omega⟩,bQ]
theorem lV(l:Spx):(cX l).length=l.length*2:=by
 induction l with
 |nil=>rfl
 |cons a l ih=>rw[cX,lJ,cq,dJ,show(l.flatMap Et).length=l.length*2 from ih];show 2+_=_;omega
theorem kP(l m:Spx):cX (l++m)=cX l++cX m:=List.flatMap_append
theorem EG(v:Vtx):cX [v]=[.int .i64 v.color,.int .i64 v.label]:=rfl
theorem BK(l:Spx):(l.map dL).flatMap AV.cells=cX l:=by
 induction l with
 |nil=>rfl
 |cons a l ih=>rw[gu,lJ,ih];rfl
theorem yB{H:Hp}{s:AV}{l:Spx}(h:Row H 2 s (cX l)):Snap H s (aG l):=by
 refine Row.snap (elems:=l.map dL) (by rw[BK];exact h) (λy hy=>?_) (by omega) (λy hy c hx=>?_)
 ·obtain⟨n,_,rfl⟩:=dK.1 hy;rfl
 ·obtain⟨n,_,rfl⟩:=dK.1 hy;simp only[dL,AV.cells,gg,List.not_mem_nil,or_false] at hx;rcases hx with rfl|rfl<;>exact .int
theorem pj{H:Hp}{s:AV}{l:List Spx}(h:Row H 1 s (l.map aG)):Snap H s (bo l):=h.snapL' (λ_=>rfl) (λx _=>bT x)
theorem Fb{H:Hp}{l:Spx}:eU 2 H (aG l)=some (l.length,cX l):=by
 unfold aG gq;rw[iY,BK];simp
theorem Jl{H:Hp}{l:List Spx}:eU 1 H (bo l)=some (l.length,l.map aG):=v7 (λ_=>rfl)
theorem sN(l:Spx):AV.ones (cX l)=true:=by
 unfold AV.ones;rw[ee];intro x hx;obtain⟨v,_,hv⟩:=List.mem_flatMap.1 hx;simp only[Et,gg,List.not_mem_nil,or_false] at hv;rcases hv with rfl|rfl<;>rfl
def eB(v w:Vtx):Int:=if v.color<w.color then-1 else if v.color>w.color then 1 else if v.label<w.label then-1 else if v.label>w.label then 1 else 0
def dy:Spx->Spx->Int
 |[],[]=>0
 |[],_::_=>-1
 |_::_,[]=>1
 |a::l,b::m=>if eB a b≠0 then eB a b else dy l m
theorem py{v w:Vtx}:eB v w<0↔v.color<w.color\/(v.color=w.color/\v.label<w.label):=by
 unfold eB;(repeat' split)<;>constructor<;>intro h<;>omega
theorem sK{v w:Vtx}:v=w↔v.color=w.color/\v.label=w.label:=by
 obtain⟨a,b⟩:=v;obtain⟨c,d⟩:=w;simp
theorem lr{v w:Vtx}:eB v w=0↔v=w:=by
 rw[sK];unfold eB;(repeat' split)<;>constructor<;>intro h<;>omega
theorem wg(v w:Vtx):eB w v=- eB v w:=by
 unfold eB;(repeat' split)<;>omega
theorem Iq:LinK eB where
 ord:={irr:=λx=>by rw[py];omega,asym:=λx y h=>by rw[py] at *;omega,negtr:=λx y z h1 h2=>by rw[py] at *;omega}
 eq:=λx y h1 h2=>by rw[py] at *;rw[sK];omega
theorem wh:∀l:Spx,dy l l=0
 |[]=>rfl
 |a::l=>by rw[dy,lr.2 rfl,if_neg (by simp)];exact wh l
theorem CF:∀{l m:Spx},dy l m=0->l=m
 |[],[],_=>rfl
 |[],_::_,h=>by simp[dy] at h
 |_::_,[],h=>by simp[dy] at h
 |a::l,b::m,h=>by
  rw[dy] at h;by_cases e:eB a b=0
  ·rw[if_neg (λh=>h e)] at h;rw[lr.1 e,CF h]
  ·rw[if_pos e] at h;exact absurd h e
theorem qL:∀l m:Spx,dy m l=- dy l m
 |[],[]=>rfl
 |[],_::_=>rfl
 |_::_,[]=>rfl
 |a::l,b::m=>by
  rw[dy,dy,wg a b];by_cases e:eB a b=0
  ·rw[e,if_neg (by simp),if_neg (by simp)];exact qL l m
  ·rw[if_pos (by omega),if_pos e]
theorem tC:∀(x y z:Spx),¬dy y x<0->¬dy z y<0->¬dy z x<0
 |[],_,[],_,_=>by simp[dy]
 |[],_,_::_,_,_=>by simp[dy]
 |_::_,[],_,h,_=>by simp[dy] at h
 |_::_,_::_,[],_,h=>by simp[dy] at h
 |a::x,b::y,c::z,h1,h2=>by
  rw[dy] at h1 h2 |-;have n:=Iq.ord.negtr a b c;by_cases e1:eB b a=0
  ·have e1':=lr.1 e1;subst e1';rw[if_neg (λh=>h e1)] at h1;by_cases e2:eB c b=0
   ·rw[if_neg (λh=>h e2)] at h2 |-;exact tC x y z h1 h2
   ·rw[if_pos e2] at h2 |-;exact h2
  ·rw[if_pos e1] at h1;by_cases e2:eB c b=0
   ·have e2':=lr.1 e2;subst e2';rw[if_pos e1];exact h1
   ·rw[if_pos e2] at h2;have h3:=n h1 h2;by_cases e3:eB c a=0
    ·exfalso;have e3':=lr.1 e3;subst e3';have:=wg b c;omega
    ·rw[if_pos e3];exact h3
theorem BD:LinK dy where
 ord:={irr:=λx=>by rw[wh];omega,asym:=λx y h=>by rw[qL];omega,negtr:=tC}
 eq:=λx y h1 h2=>by
  have:=qL x y;exact CF (by omega)
theorem Ea{l m:Spx}{k:Nat}(h1:k<l.length)(h2:k<m.length):dy (l.drop k) (m.drop k)=if eB (l.getD k default) (m.getD k default)≠0 then eB (l.getD k default) (m.getD k default) else dy (l.drop (k+1)) (m.drop (k+1)):=by
 rw[du h1,du h2,dy]
theorem Ae{l m:Spx}{k:Nat}(h:l.length<=k\/m.length<=k)(hk:k<=l.length/\k<=m.length):dy (l.drop k) (m.drop k)=if l.length<m.length then-1 else if m.length<l.length then 1 else 0:=by
 by_cases e1:l.length=k
 ·rw[nC (show l.length<=k by omega)];by_cases e2:m.length=k
  ·rw[nC (by omega),if_neg (by omega),if_neg (by omega)];rfl
  ·rw[du (l:=m) (k:=k) (by omega),if_pos (by omega)];rfl
 ·have e2:m.length=k:=by omega
  rw[du (l:=l) (k:=k) (by omega),nC (show m.length<=k by omega),if_neg (by omega),if_pos (by omega)];rfl
def fH(f:Nat->Int):Nat->Int
 |0=>0
 |n+1=>if fH f n≠0 then fH f n else f n
theorem jl{f:Nat->Int}:∀{n:Nat},(∀i,i<n->f i=0)->fH f n=0
 |0,_=>rfl
 |n+1,h=>by
  have:=jl (f:=f) (n:=n) (λi hi=>h i (by omega));rw[fH,this,if_neg (by simp)];exact h n (by omega)
theorem jT{f:Nat->Int}:∀{n k:Nat},k<n->(∀i,i<k->f i=0)->f k≠0->fH f n=f k
 |0,k,h,_,_=>absurd h (by omega)
 |n+1,k,h,h0,hk=>by
  rw[fH];by_cases e:k=n
  ·subst e;rw[jl h0,if_neg (by simp)]
  ·rw[jT (n:=n) (by omega) h0 hk,if_pos hk]
theorem lL{f:Nat->Int}:∀{n:Nat},fH f n=0->∀i,i<n->f i=0
 |0,_,i,h=>absurd h (by omega)
 |n+1,h,i,hi=>by
  rw[fH] at h;by_cases e:fH f n=0
  ·rw[e,if_neg (by simp)] at h;by_cases ei:i=n
   ·subst ei;exact h
   ·exact lL e i (by omega)
  ·rw[if_pos e] at h;exact absurd h e
def i7(v:Vtx):Bool:=decide (0<=v.color)&&decide (v.color<8)&&(decide (0<=v.label)&&decide (v.label<=1048576))
def wH(l:Spx)(k:Nat):Int:=if i7 (l.getD k default)=false then 2 else if 0<k/\0<=eB (l.getD (k-1) default) (l.getD k default) then 14 else 0
def eu(l:Spx):Int:=if l.length=0 then 16 else if 8<l.length then 5 else fH (wH l) l.length
theorem i5{l:Spx}(h:eu l=0):1<=l.length/\l.length<=8/\fM eB l/\∀v∈l,i7 v=true:=by
 unfold eu at h;split at h
 ·exact absurd h (by decide)
 split at h
 ·exact absurd h (by decide)
 rename_i h1 h2;have hz:=lL h
 have h3:∀k,k<l.length->i7 (l.getD k default)=true/\(0<k->eB (l.getD (k-1) default) (l.getD k default)<0):=λk hk=>by
  have:=hz k hk;unfold wH at this;split at this
  ·exact absurd this (by decide)
  rename_i g1;split at this
  ·exact absurd this (by decide)
  rename_i g2;exact⟨by simpa using g1,λh0=>by omega⟩
 refine⟨by omega,by omega,?_,λv hv=>?_⟩
 ·have step:∀j i,i<j->j<l.length->eB (l.getD i default) (l.getD j default)<0:=by
    intro j
    induction j with
    |zero=>intro i h;omega
    |succ j ih=>
     intro i hi hj;have hs:=(h3 (j+1) hj).2 (by omega);rw[uC] at hs;by_cases e:i=j
     ·subst e;exact hs
     ·exact Iq.trans (ih i (by omega) (by omega)) hs
  unfold fM;rw[Dn];intro i j hi hj hij;have:=step j i hij hj;simpa[List.getD,hi,hj] using this
 ·obtain⟨i,hi,rfl⟩:=mM hv;have:=(h3 i hi).1;simpa[List.getD,hi] using this
theorem mQ{α:Type}[Inhabited α]{K:α->α->Int}{l:List α}(h:fM K l){i j:Nat}(hij:i<j)(hj:j<l.length):K (l.getD i default) (l.getD j default)<0:=by
 have:=Dn.1 h i j (by omega) hj hij;simpa[List.getD,hj,show i<l.length by omega] using this
theorem Ff{l:Spx}(h1:1<=l.length/\l.length<=8)(h2:fM eB l)(h3:∀v∈l,i7 v=true):eu l=0:=by
 unfold eu;rw[if_neg (by omega),if_neg (by omega)];refine jl λk hk=>?_;unfold wH;rw[h3 _ (au hk),if_neg (by simp),if_neg];rintro⟨h0,h4⟩;have:=mQ h2 (i:=k-1) (j:=k) (by omega) hk;omega
def c3i(a b:Int):Int:=if a<b then-1 else if a>b then 1 else 0
theorem Hm(v w:Vtx):(if c3i v.color w.color≠0 then c3i v.color w.color else c3i v.label w.label)=eB v w:=by
 unfold c3i eB;by_cases h1:v.color<w.color
 ·rw[if_pos h1,if_pos h1,if_pos (by simp)]
 ·rw[if_neg h1,if_neg h1];by_cases h2:v.color>w.color
  ·rw[if_pos h2,if_pos h2,if_pos (by simp)]
  ·rw[if_neg h2,if_neg h2,if_neg (by simp)]
theorem BM(a b c d:Int):cT [.int,.int] [.int .i64 a,.int .i64 b] [.int .i64 c,.int .i64 d]=some (decide (a=c/\b=d)):=by
 have e:∀x y:Int,(x==y)=decide (x=y):=λx y=>rfl;by_cases h1:a=c
 ·by_cases h2:b=d
  ·subst h1 h2;simp[cT,jB]
  ·subst h1;simp only[cT,jB,if_true,e,bK h2,decide_true,h2,and_false,decide_false]
 ·simp only[cT,jB,if_true,e,bK h1,h1,false_and,decide_false]
theorem acq(a b c d:Int):gP .eql [.int,.int] [.int .i64 a,.int .i64 b] [.int .i64 c,.int .i64 d]=some (.bool (decide (a=c/\b=d))):=by
 unfold gP;rw[BM]
theorem acn(a b c d:Int):gP .neq [.int,.int] [.int .i64 a,.int .i64 b] [.int .i64 c,.int .i64 d]=some (.bool (!decide (a=c/\b=d))):=by
 unfold gP;rw[BM]
theorem tc(v w:Vtx):decide (v.color=w.color/\v.label=w.label)=decide (v=w):=decide_eq_decide.2 sK.symm
theorem wK{H:Hp}{d:Nat}{x y:AV}:eU 2 (ar H d [x,y]) (.msl d 2 2 0 1)=some (1,[x,y]):=eY (n:=2) (len:=1) (off:=0) (cs:=[x,y]) ac rfl (by simp)
theorem cu{α:Type}[Inhabited α]{l:List α}{k:Nat}(h:k<l.length):l.take (k+1)=l.take k++[l.getD k default]:=by
 rw[List.take_add_one];simp[List.getD,h]
def kw(a b:Spx):Bool:=a.all λv=>decide (v∈b)
section
attribute [local irreducible] aE ai be aP aJ aK ay aL aR bn Go.Abs.Fn aO Go.Abs.Pure ak aD Yl
theorem ze(n:Int):pU 151 [.int .i64 n] (.bool false):=by
 refine pO IB ?_;simp only[J8,aw];refine wnZ and_self ?_;exact cf (bK (λh=>h rfl))
theorem EV(a b:Int):pU 126 [.int .i64 a,.int .i64 b] (.int .i64 (c3i a b)):=by
 refine pO Iw ?_;simp only[Jw,aw];have h1:=ze a;have h2:=ze b;unfold c3i
 repeat' (first|refine zW ?_|apply a_n|apply a_r|refine zO ?_|refine vZ ?_|refine cZ ?_ (hp:=by first|exact h1|exact h2)|refine cFZ ?_|(refine zGZ ?_ ?_<;>(intro _hg;try (exfalso;omega)))|refine bk rfl ?_|refine r1Z ?_|fail)
 all_goals (refine aA ?_)
 ·rw[if_pos (by omega)]
 ·rw[if_neg (by omega),if_pos (by omega)]
 ·rw[if_neg (by omega),if_neg (by omega)]
theorem MV(a b:Int):pU 125 [aH [a,b]] (.int .i64 (if a≠0 then a else b)):=by
 refine pO Lw ?_;simp only[Mv,aw];refine wnZ and_self ?_;refine qo (λk=>[(3,.int .i64 0),(6,aH [a,b]),(7,.int .i64 2),(8,.int .i64 k)]) 2 (λk=>[a,b].getD k default=0) (by(iterate 4 refine And.intro rfl ?_);trivial) ?_;intro k hk hz;rcases(by omega:k=0\/k=1\/k=2) with rfl|rfl|rfl
 ·have e:[a,b].getD 0 default=a:=rfl;have ix:cA 1 (aH [a,b]) (.int .i64 ((0:Nat):Int))=some (.iptr [.int .i64 a] 0):=rfl;by_cases h0:a=0
  ·have z:decide (a≠0)=false:=bK (λh=>h h0);refine wnZ (aI @ix @z) ?_;exact⟨by omega,h0,by(iterate 4 refine And.intro rfl ?_);trivial,rfl,rfl⟩
  ·have z:decide (a≠0)=true:=bG h0;refine wnZ (aI @ix @z) ?_;rw[if_pos h0];exact .int _ _
 ·have h0:a=0:=hz 0 (by omega);have ix:cA 1 (aH [a,b]) (.int .i64 ((1:Nat):Int))=some (.iptr [.int .i64 b] 0):=rfl;rw[if_neg (λh=>h h0)];by_cases h1:b=0
  ·have z:decide (b≠0)=false:=bK (λh=>h h1);refine wnZ (aI @ix @z) ?_;exact⟨by omega,h1,by(iterate 4 refine And.intro rfl ?_);trivial,rfl,rfl⟩
  ·have z:decide (b≠0)=true:=bG h1;refine wnZ (aI @ix @z) ?_;exact .int _ _
 ·have h0:a=0:=hz 0 (by omega);have h1:b=0:=hz 1 (by omega);rw[if_neg (λh=>h h0),h1];refine wnZ and_self ?_;exact .int _ _
theorem B2(v w:Vtx):pU 100 [dL v,dL w] (.int .i64 (eB v w)):=by
 refine pO Ml ?_;simp only[Mo,aw];have h1:=EV v.color w.color;have h2:=EV v.label w.label;have h3:=MV (c3i v.color w.color) (c3i v.label w.label);rw[Hm] at h3;refine wkZ and_self ?_;refine ec ev0 (by((try simp only[bN,ZA,reduceEqDiff,↓reduceIte,reduceAdd,reduceLeDiff]);(try with_reducible rfl));rfl) h3 (aC (af (GL ac rfl rfl) aj) rfl) ?_;refine wnZ and_self ?_;exact .int _ _
theorem Bi(v:Vtx):pU 99 [dL v] (.bool (i7 v)):=by
 refine pO OL ?_;simp only[b99,aw];unfold i7
 repeat' (first|refine zW ?_|apply a_n|refine zO ?_|refine vZ ?_|refine bxZ ?_|refine gTZ ?_|refine gFZ ?_|(refine zGZ ?_ ?_<;>(intro _hg;try (exfalso;omega)))|refine bk rfl ?_|refine r1Z ?_|fail)
 all_goals (refine cf ?_;rw[Bool.eq_iff_iff];simp only[ed,Im,dX,false_iff];omega)
theorem An(l m:Spx)(hl:Shn l)(hm:Shn m):pU 101 [aG l,aG m,.func 100 []] (.int .i64 (dy l m)):=by
 refine pO Mr ?_;simp only[MN,aw];have hl':l.length<=17592186044416:=hl;have hm':m.length<=17592186044416:=hm;refine wnZ @aS ?_;refine bj (X:=Nat) (λk=>[(0,aG l),(1,aG m),(2,.func 100 []),(11,aG l),(12,.int .i64 l.length),(13,.int .i64 k)]) (λk H nx=>k<=l.length/\k<=m.length/\dy l m=dy (l.drop k) (m.drop k)) (λk=>l.length-k) 0 ⟨bz _,bz _,rfl⟩ ag0 ?_;rintro k H nx ⟨h1,h2,h3⟩;by_cases hk:k<l.length
 rotate_left
 ·rw[h3,Ae (by omega) ⟨h1,h2⟩];have zz:=@aS;repeat' (first|refine zW ?_|apply a_n|apply a_x|apply a_r|refine zO ?_|refine vY ?_|(refine zGY ?_ ?_<;>(intro _hg;try (exfalso;omega)))|refine bk rfl ?_|refine r1Y ?_|fail)
  all_goals (refine aA ?_)
  ·rw[if_pos (by omega)]
  ·rw[if_neg (by omega),if_neg (by omega)]
 have ix:=ix2 hk;by_cases hk2:k<m.length
 rotate_left
 ·rw[h3,Ae (by omega) ⟨h1,h2⟩,if_neg (by omega),if_pos (by omega)];refine wnY (aI @aS @ix) ?_
  all_goals exact aA rfl
 have iy:=ix2 hk2;have hc:=B2 (l.getD k default) (m.getD k default);have hd:=Ea hk hk2;by_cases he:eB (l.getD k default) (m.getD k default)=0
 ·rw[if_neg (λh=>h he)] at hd;rw[he] at hc;have z:decide ((0:Int)≠0)=false:=rfl;refine wnY (zI4 @aS @ix @iy @z) ?_;exact⟨k+1,by omega,⟨by omega,by omega,h3.trans hd⟩,ag0⟩
 ·rw[if_pos he] at hd;have z:decide (eB (l.getD k default) (m.getD k default)≠0)=true:=bG he;rw[h3,hd];refine wnY (zI4 @aS @ix @iy @z) ?_;exact .int _ _
theorem jM(l m:Spx)(hl:Shn l)(hm:Shn m):pU 65 [aG l,aG m] (.int .i64 (dy l m)):=by
 refine pO OH ?_;simp only[b65,aw];have h:=An l m hl hm;refine wnZ and_self ?_;exact .int _ _
theorem Ay{l:Spx}{k:Nat}:wH l k=if i7 (l.getD k default)=false then 2 else if 0<k/\0<=eB (l.getD (k-1) default) (l.getD k default) then 14 else 0:=rfl
theorem qm(l:Spx)(hl:Shn l):pU 64 [aG l] (.int .i64 (eu l)):=by
 refine pO Oq ?_;simp only[b64,aw];have hl':l.length<=17592186044416:=hl;by_cases h0:l.length=0
 ·rw[show eu l=16 by unfold eu;rw[if_pos h0]];refine wnZ @aS ?_
  all_goals exact aA rfl
 by_cases h8:8<l.length
 ·rw[show eu l=5 by unfold eu;rw[if_neg h0,if_pos h8]];refine wnZ @aS ?_
  all_goals exact aA rfl
 rw[show eu l=fH (wH l) l.length by unfold eu;rw[if_neg h0,if_neg h8]];refine wnZ @aS ?_;refine bj (X:=Nat) (λk=>[(0,aG l),(13,aG l),(14,.int .i64 l.length),(15,.int .i64 k)]) (λk H nx=>k<=l.length/\∀i,i<k->wH l i=0) (λk=>l.length-k) 0 ⟨bz _,λi h=>absurd h (by omega)⟩ ag0 ?_;rintro k H nx ⟨h1,h2⟩;by_cases hk:k<l.length
 rotate_left
 ·rw[jl λi hi=>h2 i (by omega)];refine wnY @aS ?_;exact .int _ _
 have ix:=ix2 hk;have hp:=Bi (l.getD k default);have hs:=Ay (l:=l) (k:=k);cases hr:i7 (l.getD k default)
 ·rw[hr] at hp;rw[hr,if_pos rfl] at hs;rw[jT hk h2 (by rw[hs];decide),hs];refine wnY (aI @aS @ix) ?_;exact .int _ _
 rw[hr] at hp;rw[hr,if_neg (by decide)] at hs;by_cases hk0:0<k
 rotate_left
 ·rw[if_neg (λh=>hk0 h.1)] at hs;have zk:decide (0<(k:Int))=false:=bK (by omega);refine wkY (zI3 @aS @ix @zk) ?_
  exact ⟨k + 1,by omega,⟨by omega,fun i hi=>by
   rcases ij.1 hi with h|rfl
   ·exact h2 i h
   ·exact hs⟩,ag0⟩
 have zk:decide (0<(k:Int))=true:=bG (by omega)
 have iy:cA 2 (aG l) (.int .i64 ((k:Int)-1))=some (.iptr [.int .i64 (l.getD (k-1) default).color,.int .i64 (l.getD (k-1) default).label] 0):=by
  have:=ix2 (l:=l) (k:=k-1) (by omega)
  rwa [show((k-1:Nat):Int)=(k:Int)-1 by omega] at this
 have hc:=B2 (l.getD (k-1) default) (l.getD k default);by_cases hv:0<=eB (l.getD (k-1) default) (l.getD k default)
 ·have z:decide (0<=eB (l.getD (k-1) default) (l.getD k default))=true:=bG hv;rw[if_pos ⟨hk0,hv⟩] at hs;rw[jT hk h2 (by rw[hs];decide),hs];refine wkY (zI5 @aS @ix @iy @zk @z) ?_;exact .int _ _
 ·have z:decide (0<=eB (l.getD (k-1) default) (l.getD k default))=false:=bK hv;rw[if_neg (λh=>hv h.2)] at hs;refine wkY (zI5 @aS @ix @iy @zk @z) ?_
  exact ⟨k + 1,by omega,⟨by omega,fun i hi=>by
   rcases ij.1 hi with h|rfl
   ·exact h2 i h
   ·exact hs⟩,ag0⟩
abbrev me(c:List Spx):AV:=.agg [bo c]
theorem Ds(c:List Spx):Dat (me c):=Dat.agg (DatL.cons (cR c) DatL.nil)
instance datI_encCx{c:List Spx}:DatI (me c):=⟨Ds c⟩
end
end Go.Proofs.YtmpcledaoigkaaaGreat
namespace Go.Proofs.YtmpcledaoigkaaaGreat
open Go Go.Abs Tk
open Nat (reduceEqDiff reduceAdd reduceLeDiff)
structure RndV where
 n:Int
 h0:Int
 h1:Int
 h2:Int
 h3:Int
 h4:Int
 f:Int
 deriving DecidableEq,Inhabited
def RndV.hs(r:RndV):List Int:=[r.h0,r.h1,r.h2,r.h3,r.h4]
def RndV.ints(r:RndV):List Int:=[r.n,r.h0,r.h1,r.h2,r.h3,r.h4,r.f]
def RndV.gc(r:RndV):List AV:=[.int .i64 r.n,.int .i64 r.h0,.int .i64 r.h1,.int .i64 r.h2,.int .i64 r.h3,.int .i64 r.h4]
def RndV.cs(r:RndV):List AV:=[.int .i64 r.n,.int .i64 r.h0,.int .i64 r.h1,.int .i64 r.h2,.int .i64 r.h3,.int .i64 r.h4,.int .i64 r.f]
structure MvV where
 r:RndV
 to:Int
 deriving DecidableEq,Inhabited
def MvV.cs(m:MvV):List AV:=[.int .i64 m.r.n,.int .i64 m.r.h0,.int .i64 m.r.h1,.int .i64 m.r.h2,.int .i64 m.r.h3,.int .i64 m.r.h4,.int .i64 m.r.f,.int .i64 m.to]
structure AdvV where
 n:Int
 states:List (List MvV)
 deriving DecidableEq,Inhabited
structure PrbV where
 task:TaskV
 adv:AdvV
 rounds:Int
 deriving DecidableEq,Inhabited
structure VwV where
 proc:Int
 round:Int
 input:Int
 h0:Int
 h1:Int
 h2:Int
 h3:Int
 h4:Int
 deriving DecidableEq,Inhabited
def VwV.cs(v:VwV):List AV:=[.int .i64 v.proc,.int .i64 v.round,.int .i64 v.input,.int .i64 v.h0,.int .i64 v.h1,.int .i64 v.h2,.int .i64 v.h3,.int .i64 v.h4]
structure ExV where
 case:Int
 word:List RndV
 views:List (List Int)
 deriving DecidableEq,Inhabited
structure SysV where
 prob:PrbV
 tn:Int
 views:List VwV
 execs:List ExV
 deriving DecidableEq,Inhabited
def j9(r:RndV):AV:=.agg r.gc
def fi(r:RndV):AV:=.agg r.cs
def iA(m:MvV):AV:=.agg m.cs
def bS(l:List RndV):AV:=gq 7 fi l
def dP(l:List (List RndV)):AV:=gq 1 bS l
def di(l:List MvV):AV:=gq 8 iA l
def bh(l:List (List MvV)):AV:=gq 1 di l
def AdvV.cs(a:AdvV):List AV:=[.int .i64 a.n,bh a.states]
def d6(a:AdvV):AV:=.agg a.cs
def PrbV.cs(p:PrbV):List AV:=[.int .i64 p.task.n,.int .i64 p.task.ins,.int .i64 p.task.outs,cC p.task.cases,.int .i64 p.adv.n,bh p.adv.states,.int .i64 p.rounds]
def cI(p:PrbV):AV:=.agg p.cs
def dx(v:VwV):AV:=.agg v.cs
def dE(l:List VwV):AV:=gq 8 dx l
def ExV.cs(x:ExV):List AV:=[.int .i64 x.case,bS x.word,bi x.views]
def gJ(x:ExV):AV:=.agg x.cs
def ef(l:List ExV):AV:=gq 3 gJ l
def SysV.cs(s:SysV):List AV:=[.int .i64 s.prob.task.n,.int .i64 s.prob.task.ins,.int .i64 s.prob.task.outs,cC s.prob.task.cases,.int .i64 s.prob.adv.n,bh s.prob.adv.states,.int .i64 s.prob.rounds,.int .i64 s.tn,dE s.views,ef s.execs]
def fq(s:SysV):AV:=.agg s.cs
theorem xR(r:RndV):∀x∈r.cs,Dat x:=DatL.cons .int (DatL.cons .int (DatL.cons .int (DatL.cons .int (DatL.cons .int (DatL.cons .int (DatL.cons .int DatL.nil))))))
theorem Fa(r:RndV):∀x∈r.gc,Dat x:=DatL.cons .int (DatL.cons .int (DatL.cons .int (DatL.cons .int (DatL.cons .int (DatL.cons .int DatL.nil)))))
theorem x8(r:MvV):∀x∈r.cs,Dat x:=DatL.cons .int (DatL.cons .int (DatL.cons .int (DatL.cons .int (DatL.cons .int (DatL.cons .int (DatL.cons .int (DatL.cons .int DatL.nil)))))))
theorem Bu(r:VwV):∀x∈r.cs,Dat x:=DatL.cons .int (DatL.cons .int (DatL.cons .int (DatL.cons .int (DatL.cons .int (DatL.cons .int (DatL.cons .int (DatL.cons .int DatL.nil)))))))
theorem jd(r:RndV):Dat (j9 r):=Dat.agg (Fa r)
theorem np(r:RndV):Dat (fi r):=Dat.agg (xR r)
theorem CX(m:MvV):Dat (iA m):=Dat.agg (x8 m)
theorem kW(l:List RndV):Dat (bS l):=jP (λx _ c hc=>xR x c hc)
theorem uS(l:List (List RndV)):Dat (dP l):=ri (λ_=>rfl) kW
theorem jO(l:List MvV):Dat (di l):=jP (λx _ c hc=>x8 x c hc)
theorem fP(l:List (List MvV)):Dat (bh l):=ri (λ_=>rfl) jO
theorem Il(a:AdvV):∀x∈a.cs,Dat x:=DatL.cons .int (DatL.cons (fP _) DatL.nil)
theorem dG(a:AdvV):Dat (d6 a):=Dat.agg (Il a)
theorem HD(p:PrbV):∀x∈p.cs,Dat x:=DatL.cons .int (DatL.cons .int (DatL.cons .int (DatL.cons (iL _) (DatL.cons .int (DatL.cons (fP _) (DatL.cons .int DatL.nil))))))
theorem eZ(p:PrbV):Dat (cI p):=Dat.agg (HD p)
theorem ms(v:VwV):Dat (dx v):=Dat.agg (Bu v)
theorem lq(l:List VwV):Dat (dE l):=jP (λx _ c hc=>Bu x c hc)
theorem Bb(x:ExV):∀c∈x.cs,Dat c:=DatL.cons .int (DatL.cons (kW _) (DatL.cons (dZ _) DatL.nil))
theorem po(x:ExV):Dat (gJ x):=Dat.agg (Bb x)
theorem wj(l:List ExV):Dat (ef l):=jP (λx _ c hc=>Bb x c hc)
theorem yg(s:SysV):∀x∈s.cs,Dat x:=DatL.cons .int (DatL.cons .int (DatL.cons .int (DatL.cons (iL _) (DatL.cons .int (DatL.cons (fP _) (DatL.cons .int (DatL.cons .int (DatL.cons (lq _) (DatL.cons (wj _) DatL.nil)))))))))
theorem ea(s:SysV):Dat (fq s):=Dat.agg (yg s)
instance datI_encG{r:RndV}:DatI (j9 r):=⟨jd r⟩
instance datI_encR{r:RndV}:DatI (fi r):=⟨np r⟩
instance datI_encMv{r:MvV}:DatI (iA r):=⟨CX r⟩
instance datI_encRs{l:List RndV}:DatI (bS l):=⟨kW l⟩
instance datI_encRss{l:List (List RndV)}:DatI (dP l):=⟨uS l⟩
instance datI_encMs{l:List MvV}:DatI (di l):=⟨jO l⟩
instance datI_encMss{l:List (List MvV)}:DatI (bh l):=⟨fP l⟩
instance datI_encA{a:AdvV}:DatI (d6 a):=⟨dG a⟩
instance datI_encP{p:PrbV}:DatI (cI p):=⟨eZ p⟩
instance datI_encW{v:VwV}:DatI (dx v):=⟨ms v⟩
instance datI_encWs{l:List VwV}:DatI (dE l):=⟨lq l⟩
instance datI_encE{x:ExV}:DatI (gJ x):=⟨po x⟩
instance datI_encEs{l:List ExV}:DatI (ef l):=⟨wj l⟩
instance datI_encS{s:SysV}:DatI (fq s):=⟨ea s⟩
theorem PE:(∀l:List RndV,(bS l).cells=[bS l])/\(∀l,(dP l).cells=[dP l])/\(∀l:List MvV,(di l).cells=[di l])/\(∀l,(bh l).cells=[bh l])/\(∀l:List VwV,(dE l).cells=[dE l])/\(∀l:List ExV,(ef l).cells=[ef l])/\(∀l:List CaseV,(cC l).cells=[cC l])/\
    (∀l:List RndV,(bS l).one=true)/\(∀l,(dP l).one=true)/\(∀l:List MvV,(di l).one=true)/\(∀l,(bh l).one=true)/\(∀l:List VwV,(dE l).one=true)/\(∀l:List ExV,(ef l).one=true)/\(∀l:List CaseV,(cC l).one=true)/\
    (∀l:List RndV,dl (bS l)=some (.int .i64 l.length))/\(∀l,dl (dP l)=some (.int .i64 l.length))/\(∀l:List MvV,dl (di l)=some (.int .i64 l.length))/\(∀l,dl (bh l)=some (.int .i64 l.length))/\(∀l:List VwV,dl (dE l)=some (.int .i64 l.length))/\(∀l:List ExV,dl (ef l)=some (.int .i64 l.length))/\(∀l:List CaseV,dl (cC l)=some (.int .i64 l.length))/\
    (∀r:RndV,(fi r).cells=r.cs)/\(∀r:RndV,(j9 r).cells=r.gc)/\(∀m:MvV,(iA m).cells=m.cs)/\(∀a:AdvV,(d6 a).cells=a.cs)/\(∀p:PrbV,(cI p).cells=p.cs)/\(∀v:VwV,(dx v).cells=v.cs)/\(∀x:ExV,(gJ x).cells=x.cs)/\(∀s:SysV,(fq s).cells=s.cs):=
 ⟨λ_=>rfl,λ_=>rfl,λ_=>rfl,λ_=>rfl,λ_=>rfl,λ_=>rfl,λ_=>rfl,λ_=>rfl,λ_=>rfl,λ_=>rfl,λ_=>rfl,λ_=>rfl,λ_=>rfl,λ_=>rfl,λ_=>fQ,λ_=>fQ,λ_=>fQ,λ_=>fQ,λ_=>fQ,λ_=>fQ,λl=>bc l,λ_=>rfl,λ_=>rfl,λ_=>rfl,λ_=>rfl,λ_=>rfl,λ_=>rfl,λ_=>rfl,λ_=>rfl⟩
theorem PC:(∀r:RndV,r.cs=[.int .i64 r.n,.int .i64 r.h0,.int .i64 r.h1,.int .i64 r.h2,.int .i64 r.h3,.int .i64 r.h4,.int .i64 r.f])/\(∀r:RndV,r.gc=[.int .i64 r.n,.int .i64 r.h0,.int .i64 r.h1,.int .i64 r.h2,.int .i64 r.h3,.int .i64 r.h4])/\
    (∀m:MvV,m.cs=[.int .i64 m.r.n,.int .i64 m.r.h0,.int .i64 m.r.h1,.int .i64 m.r.h2,.int .i64 m.r.h3,.int .i64 m.r.h4,.int .i64 m.r.f,.int .i64 m.to])/\
    (∀a:AdvV,a.cs=[.int .i64 a.n,bh a.states])/\(∀p:PrbV,p.cs=[.int .i64 p.task.n,.int .i64 p.task.ins,.int .i64 p.task.outs,cC p.task.cases,.int .i64 p.adv.n,bh p.adv.states,.int .i64 p.rounds])/\
    (∀v:VwV,v.cs=[.int .i64 v.proc,.int .i64 v.round,.int .i64 v.input,.int .i64 v.h0,.int .i64 v.h1,.int .i64 v.h2,.int .i64 v.h3,.int .i64 v.h4])/\(∀x:ExV,x.cs=[.int .i64 x.case,bS x.word,bi x.views])/\
    (∀s:SysV,s.cs=[.int .i64 s.prob.task.n,.int .i64 s.prob.task.ins,.int .i64 s.prob.task.outs,cC s.prob.task.cases,.int .i64 s.prob.adv.n,bh s.prob.adv.states,.int .i64 s.prob.rounds,.int .i64 s.tn,dE s.views,ef s.execs]):=
 ⟨λ_=>rfl,λ_=>rfl,λ_=>rfl,λ_=>rfl,λ_=>rfl,λ_=>rfl,λ_=>rfl,λ_=>rfl⟩
theorem ixR{l:List RndV}{k:Nat}(h:k<l.length):cA 7 (bS l) (.int .i64 (k:Int))=some (.iptr (l.getD k default).cs 0):=by
 unfold bS;rw[fW,if_pos ⟨by omega,by omega⟩,bQ];rfl
theorem JZ{l:List (List RndV)}{k:Nat}(h:k<l.length):cA 1 (dP l) (.int .i64 (k:Int))=some (.iptr [bS (l.getD k default)] 0):=by
 unfold dP;rw[fW,if_pos ⟨by omega,by omega⟩,bQ];rfl
theorem ixM{l:List MvV}{k:Nat}(h:k<l.length):cA 8 (di l) (.int .i64 (k:Int))=some (.iptr (l.getD k default).cs 0):=by
 unfold di;rw[fW,if_pos ⟨by omega,by omega⟩,bQ];rfl
theorem zu{l:List (List MvV)}{k:Nat}(h:k<l.length):cA 1 (bh l) (.int .i64 (k:Int))=some (.iptr [di (l.getD k default)] 0):=by
 unfold bh;rw[fW,if_pos ⟨by omega,by omega⟩,bQ];rfl
theorem IJ{l:List (List MvV)}{n:Int}(h:0<=n/\n<l.length):cA 1 (bh l) (.int .i64 n)=some (.iptr [di (l.getD n.toNat default)] 0):=by
 unfold bh;rw[fW,if_pos h];rfl
theorem ixW{l:List VwV}{k:Nat}(h:k<l.length):cA 8 (dE l) (.int .i64 (k:Int))=some (.iptr (l.getD k default).cs 0):=by
 unfold dE;rw[fW,if_pos ⟨by omega,by omega⟩,bQ];rfl
theorem ixE{l:List ExV}{k:Nat}(h:k<l.length):cA 3 (ef l) (.int .i64 (k:Int))=some (.iptr (l.getD k default).cs 0):=by
 unfold ef;rw[fW,if_pos ⟨by omega,by omega⟩,bQ];rfl
def AdvV.st(a:AdvV)(s:Nat):List MvV:=a.states.getD s []
def bq(a:AdvV):Nat->Nat->List (List RndV)
 |0,_=>[[]]
 |k+1,s=>(a.st s).flatMap λm=>(bq a k m.to.toNat).map λw=>m.r::w
def r9(lim:Int)(c:List Int)(l:List MvV):Int:=l.foldl (λn m=>min (n+c.getD m.to.toNat 0) (lim+1)) 0
def fF(a:AdvV)(lim:Int):Nat->List Int
 |0=>a.states.map λ_=>1
 |k+1=>a.states.map λl=>r9 lim (fF a lim k) l
def kI(a:AdvV)(k:Nat)(lim:Int):Int:=(fF a lim k).getD 0 0
def jY(vs:List VwV)(v:VwV):List VwV:=if v∈vs then vs else vs++[v]
def fu(f:Nat->VwV):Nat->List VwV->List VwV
 |0,vs=>vs
 |q+1,vs=>jY (fu f q vs) (f q)
def eL(f:Nat->VwV):Nat->List VwV->List Int
 |0,_=>[]
 |q+1,vs=>eL f q vs++[(((fu f (q+1) vs).idxOf (f q):Nat):Int)]
def hasFl(f:Int)(p:Nat):Bool:=decide (f/((2^p:Nat):Int)%2=1)
def hrd(set:Int)(now:List Int)(q:Nat):Int:=if q<now.length/\hasFl set q=true then now.getD q 0 else-1
def oV(inp:List Int)(q:Nat):VwV:=⟨q,0,inp.getD q 0,-1,-1,-1,-1,-1⟩
def l9(r:RndV)(k:Nat)(now:List Int)(q:Nat):VwV:=⟨q,k,0,hrd (r.hs.getD q 0) now 0,hrd (r.hs.getD q 0) now 1,hrd (r.hs.getD q 0) now 2,hrd (r.hs.getD q 0) now 3,hrd (r.hs.getD q 0) now 4⟩
def Fc(n:Nat)(inp:List Int)(w:List RndV)(vs:List VwV):Nat->List VwV×List (List Int)
 |0=>(fu (oV inp) n vs,[eL (oV inp) n vs])
 |k+1=>
  let s:=Fc n inp w vs k
  let f:=l9 (w.getD k default) (k+1) (s.2.getD k [])
  (fu f n s.1,s.2++[eL f n s.1])
structure BldS where
 views:List VwV
 execs:List ExV
def sw(p:PrbV)(c:Nat)(s:BldS)(w:List RndV):BldS:=
 let q:=Fc p.task.n.toNat (p.task.cases.getD c default).inp w s.views p.rounds.toNat
 ⟨q.1,s.execs++[⟨c,w,q.2⟩]⟩
def B5(p:PrbV)(s:BldS)(c:Nat):BldS:=(bq p.adv p.rounds.toNat 0).foldl (sw p c) s
def bldS(p:PrbV)(c:Nat):BldS:=(List.range c).foldl (B5 p) ⟨[],[]⟩
def bw(p:PrbV):SysV:=⟨p,p.task.n,(bldS p p.task.cases.length).views,(bldS p p.task.cases.length).execs⟩
def BO(a:AdvV):Prop:=∀l∈a.states,∀m∈l,0<=m.to/\m.to<a.states.length
theorem gW{α:Type}[Inhabited α]{l:List (List α)}{s:Nat}(h:s<l.length):l.getD s []∈l:=by
 simp[List.getD,h]
theorem Ax{L:Int}{c:List Int}{w:MvV->Nat}(hL:1<=L):∀(l:List MvV)(n0:Nat),(∀m∈l,c.getD m.to.toNat 0=min (w m:Int) L)->
    l.foldl (λn m=>min (n+c.getD m.to.toNat 0) L) (min (n0:Int) L)=min ((n0+(l.map w).sum:Nat):Int) L
 |[],n0,_=>by simp
 |m::l,n0,h=>by
  have h1:=h m (ju ..);have e:min (min (n0:Int) L+min (w m:Int) L) L=min ((n0+w m:Nat):Int) L:=by omega
  rw[List.foldl_cons,h1,e,Ax hL l (n0+w m) λm hm=>h m (qq _ hm),gu,List.sum_cons]
  congr 2;omega
theorem wG{a:AdvV}{k s:Nat}:(bq a (k+1) s).length=((a.st s).map λm=>(bq a k m.to.toNat).length).sum:=by
 rw[bq,List.length_flatMap]
 congr 1
 refine vP λm _=>?_;rw[bD]
theorem tw{a:AdvV}{lim:Int}:∀k,(fF a lim k).length=a.states.length
 |0=>by simp[fF]
 |k+1=>by simp[fF]
theorem Cq{a:AdvV}(h:BO a){lim:Int}(hL:0<=lim):∀(k s:Nat),s<a.states.length->(fF a lim k).getD s 0=min ((bq a k s).length:Int) (lim+1)
 |0,s,hs=>by
  simp only[fF,bq,ml,jQ,vU hs,mi,vH,List.length_singleton];omega
 |k+1,s,hs=>by
  have e:(fF a lim (k+1)).getD s 0=r9 lim (fF a lim k) (a.st s):=by
   unfold AdvV.st;simp only[fF,ml,jQ,vU hs,mi,vH]
  rw[e,wG]
  have:=Ax (L:=lim+1) (c:=fF a lim k) (w:=λm=>(bq a k m.to.toNat).length) (by omega) (a.st s) 0 λm hm=>by
   have:=h _ (gW hs) m hm;exact Cq h hL k _ (by omega)
  unfold r9;rw[show min ((0:Nat):Int) (lim+1)=0 by omega] at this;rw[this,cp]
theorem sS{a:AdvV}(h:BO a)(h0:0<a.states.length){lim:Int}(hL:0<=lim)(k:Nat):kI a k lim=min ((bq a k 0).length:Int) (lim+1):=Cq h hL k 0 h0
theorem nr{a:AdvV}:∀{k s:Nat}{w:List RndV},w∈bq a k s->w.length=k
 |0,s,w,h=>by rw[bq,eM] at h;rw[h];rfl
 |k+1,s,w,h=>by
  rw[bq,List.mem_flatMap] at h;obtain⟨m,_,h⟩:=h;obtain⟨v,hv,rfl⟩:=dK.1 h;rw[dJ,nr hv]
theorem pY{a:AdvV}:∀{k s:Nat}{w:List RndV},w∈bq a k s->∀r∈w,∃l∈a.states,∃m∈l,m.r=r
 |0,s,w,h,r,hr=>by rw[bq,eM] at h;subst h;cases hr
 |k+1,s,w,h,r,hr=>by
  rw[bq,List.mem_flatMap] at h;obtain⟨m,hm,h⟩:=h;obtain⟨v,hv,rfl⟩:=dK.1 h;rcases gg.1 hr with rfl|hr
  ·unfold AdvV.st at hm;by_cases hs:s<a.states.length
   ·exact⟨_,gW hs,m,hm,rfl⟩
   ·rw[show a.states.getD s []=[] by simp[List.getD,show a.states.length<=s by omega]] at hm;cases hm
  ·exact pY hv r hr
theorem rf{a:AdvV}(h:BO a)(hn:∀l∈a.states,l≠[]):∀(k s:Nat),s<a.states.length->bq a k s≠[]
 |0,s,_=>by simp[bq]
 |k+1,s,hs=>by
  rw[bq];have h1:a.st s∈a.states:=gW hs;cases e:a.st s with
  |nil=>exact absurd e (hn _ h1)
  |cons m l=>
   have:=h _ h1 m (by rw[e];exact ju ..);have:=rf h hn k m.to.toNat (by omega);rw[lJ];intro q;rw[List.append_eq_nil_iff,List.map_eq_nil_iff] at q;exact this q.1
theorem FT(vs:List VwV)(v:VwV):(jY vs v).length<=vs.length+1:=by
 unfold jY;split
 ·omega
 ·rw[cq];exact aZ _
theorem lg(f:Nat->VwV):∀(q:Nat)(vs:List VwV),(fu f q vs).length<=vs.length+q
 |0,_=>aZ _
 |q+1,vs=>by
  have:=FT (fu f q vs) (f q);have:=lg f q vs;rw[fu];omega
theorem iu(f:Nat->VwV):∀(q:Nat)(vs:List VwV),(eL f q vs).length=q
 |0,_=>rfl
 |q+1,vs=>by rw[eL,cq,iu f q vs];rfl
theorem IX:(∀(T:Tm)(H:Hp)(len sz:Nat)(x i:Opd),bW T H (.ixaA len sz x i)=mZ (ov T i) λn=>if 0<=n/\n<len then jp (n.toNat*sz) (ov T x) else none)/\(∀(T:Tm)(H:Hp)(len sz:Nat)(x i:Opd),bW T H (.ixA1 len sz x i)=fg (ov T x) λcs=>mZ (ov T i) λn=>if 0<=n/\n<len then cs[n.toNat*sz]? else none)/\
    (∀(k:IntKind)(n:Int)(f:Int->Option AV),mZ (.int k n) f=f n)/\(∀(cs:List AV)(f:List AV->Option AV),fg (.agg cs) f=f cs):=⟨λ_ _ _ _ _ _=>rfl,λ_ _ _ _ _ _=>rfl,λ_ _ _=>rfl,λ_ _=>rfl⟩
theorem nJ{a:Nat}:pK (a:Int)=((a%2:Nat):Int):=by
 have h:(BitVec.ofInt 64 (a:Int) &&& BitVec.ofInt 64 1).toNat=a%2:=by
  rw[BitVec.toNat_and];have e:(BitVec.ofInt 64 1).toNat=2^1-1:=rfl;rw[e,Nat.and_two_pow_sub_one_eq_mod];simp[BitVec.toNat_ofInt]
 unfold pK;rw[h,iU (by omega) (by omega)]
def pw(n:Int):Int:=((2^n.toNat:Nat):Int)
def mo(r:RndV)(p:Nat):Int:=if r.n<=p then(if r.hs.getD p 0=0 then 0 else 3) else if r.hs.getD p 0<0\/pw r.n-1<r.hs.getD p 0 then 2 else if hasFl (r.hs.getD p 0) p=true then 0 else 3
def kD(r:RndV):Int:=if r.n<1\/5<r.n then 2 else cH (mo r) 5
def Ht(n f:Int):Int:=if n<1\/5<n then 1 else if f<0\/pw n<=f then 2 else 0
def kJ(r:RndV):Int:=if kD r≠0 then kD r else Ht r.n r.f
theorem AN{n:Int}{k:Nat}(h:n=k):pw n=((2^k:Nat):Int):=by subst h;rfl
theorem x5{n:Int}(h:n<=5):1<=pw n/\pw n<=32:=by
 unfold pw;have h1:2^n.toNat<=2^5:=Nat.pow_le_pow_right (by omega) (by omega);have h2:0<2^n.toNat:=Nat.pow_pos (by omega);omega
theorem nN(r:RndV){q:Nat}(h:q<5):([.int .i64 r.n,.int .i64 r.h0,.int .i64 r.h1,.int .i64 r.h2,.int .i64 r.h3,.int .i64 r.h4]:List AV)[1+q]?=some (.int .i64 (r.hs.getD q 0)):=by
 rcases(by omega:q=0\/q=1\/q=2\/q=3\/q=4) with rfl|rfl|rfl|rfl|rfl<;>rfl
theorem FJ(r:RndV){q:Nat}(h:q<5):([.int .i64 r.h0,.int .i64 r.h1,.int .i64 r.h2,.int .i64 r.h3,.int .i64 r.h4]:List AV)[q]?=some (.int .i64 (r.hs.getD q 0)):=by
 rcases(by omega:q=0\/q=1\/q=2\/q=3\/q=4) with rfl|rfl|rfl|rfl|rfl<;>rfl
def RndV.gi(r:RndV):List Int:=[r.n,r.h0,r.h1,r.h2,r.h3,r.h4]
theorem sL(r:RndV):r.ints=r.gi++[r.f]:=rfl
theorem qH:∀{l m:List Int}(a b:List Int),l.length=m.length->bu (l++a) (m++b)=if bu l m≠0 then bu l m else bu a b
 |[],[],a,b,_=>by simp[bu]
 |[],_::_,_,_,h=>by cases h
 |_::_,[],_,_,h=>by cases h
 |x::l,y::m,a,b,h=>by
  rw[List.cons_append,List.cons_append,bu,bu];split
  ·rfl
  ·split
   ·rfl
   ·exact qH a b (by simpa using h)
theorem mI:∀{l m:List Int}{q:Nat},q<l.length->q<m.length->(∀i,i<q->l.getD i 0=m.getD i 0)->l.getD q 0≠m.getD q 0->bu l m=if l.getD q 0<m.getD q 0 then-1 else 1
 |x::l,y::m,0,_,_,_,h=>by
  have h:x≠y:=h;show bu (x::l) (y::m)=if x<y then-1 else 1
  rw[bu];split
  ·rfl
  ·rw[if_pos (by omega)]
 |x::l,y::m,q+1,h1,h2,h3,h=>by
  have e:x=y:=h3 0 (by omega);subst e;rw[bu,if_neg (by omega),if_neg (by omega)];exact mI (l:=l) (m:=m) (q:=q) (by simpa using h1) (by simpa using h2) (λi hi=>h3 (i+1) (by omega)) h
theorem yw:∀{l m:List Int},l.length=m.length->(∀i,i<l.length->l.getD i 0=m.getD i 0)->bu l m=0
 |[],[],_,_=>rfl
 |[],_::_,h,_=>by cases h
 |_::_,[],h,_=>by cases h
 |x::l,y::m,h,h2=>by
  have e:x=y:=h2 0 (by simp);subst e;rw[bu,if_neg (by omega),if_neg (by omega)];exact yw (by simpa using h) λi hi=>h2 (i+1) (by simpa using hi)
theorem rb:∀(l m:List Int),l.length=m.length->cT (List.replicate l.length .int) (l.map (AV.int .i64)) (m.map (AV.int .i64))=some (decide (l=m))
 |[],[],_=>by simp[cT]
 |[],_::_,h=>by cases h
 |_::_,[],h=>by cases h
 |x::l,y::m,h=>by
  have ih:=rb l m (by simpa using h);simp only[dJ,List.replicate_succ,gu,cT,jB,if_true];by_cases e:x=y
  ·subst e;simp[ih]
  ·have:(x==y)=false:=by simpa using e
   rw[this];simp[e]
theorem EQ:(∀a b c d e f a' b' c' d' e' f':Int,gP .eql [.int,.int,.int,.int,.int,.int] [.int .i64 a,.int .i64 b,.int .i64 c,.int .i64 d,.int .i64 e,.int .i64 f] [.int .i64 a',.int .i64 b',.int .i64 c',.int .i64 d',.int .i64 e',.int .i64 f']=some (.bool (decide ([a,b,c,d,e,f]=[a',b',c',d',e',f']))))/\
    (∀a b c d e f a' b' c' d' e' f':Int,gP .neq [.int,.int,.int,.int,.int,.int] [.int .i64 a,.int .i64 b,.int .i64 c,.int .i64 d,.int .i64 e,.int .i64 f] [.int .i64 a',.int .i64 b',.int .i64 c',.int .i64 d',.int .i64 e',.int .i64 f']=some (.bool (!decide ([a,b,c,d,e,f]=[a',b',c',d',e',f']))))/\
    (∀a b c d e f g a' b' c' d' e' f' g':Int,gP .eql [.int,.int,.int,.int,.int,.int,.int] [.int .i64 a,.int .i64 b,.int .i64 c,.int .i64 d,.int .i64 e,.int .i64 f,.int .i64 g] [.int .i64 a',.int .i64 b',.int .i64 c',.int .i64 d',.int .i64 e',.int .i64 f',.int .i64 g']=some (.bool (decide ([a,b,c,d,e,f,g]=[a',b',c',d',e',f',g']))))/\
    (∀a b c d e f g a' b' c' d' e' f' g':Int,gP .neq [.int,.int,.int,.int,.int,.int,.int] [.int .i64 a,.int .i64 b,.int .i64 c,.int .i64 d,.int .i64 e,.int .i64 f,.int .i64 g] [.int .i64 a',.int .i64 b',.int .i64 c',.int .i64 d',.int .i64 e',.int .i64 f',.int .i64 g']=some (.bool (!decide ([a,b,c,d,e,f,g]=[a',b',c',d',e',f',g']))))/\
    (∀a b c d e f g h a' b' c' d' e' f' g' h':Int,gP .eql [.int,.int,.int,.int,.int,.int,.int,.int] [.int .i64 a,.int .i64 b,.int .i64 c,.int .i64 d,.int .i64 e,.int .i64 f,.int .i64 g,.int .i64 h] [.int .i64 a',.int .i64 b',.int .i64 c',.int .i64 d',.int .i64 e',.int .i64 f',.int .i64 g',.int .i64 h']=some (.bool (decide ([a,b,c,d,e,f,g,h]=[a',b',c',d',e',f',g',h']))))/\
    (∀a b c d e f g h a' b' c' d' e' f' g' h':Int,gP .neq [.int,.int,.int,.int,.int,.int,.int,.int] [.int .i64 a,.int .i64 b,.int .i64 c,.int .i64 d,.int .i64 e,.int .i64 f,.int .i64 g,.int .i64 h] [.int .i64 a',.int .i64 b',.int .i64 c',.int .i64 d',.int .i64 e',.int .i64 f',.int .i64 g',.int .i64 h']=some (.bool (!decide ([a,b,c,d,e,f,g,h]=[a',b',c',d',e',f',g',h'])))):=by
 have key:∀l m:List Int,l.length=m.length->gP .eql (List.replicate l.length .int) (l.map (AV.int .i64)) (m.map (AV.int .i64))=some (.bool (decide (l=m)))/\gP .neq (List.replicate l.length .int) (l.map (AV.int .i64)) (m.map (AV.int .i64))=some (.bool (!decide (l=m))):=λl m h=>by
  unfold gP;rw[rb l m h];exact⟨rfl,rfl⟩
 exact⟨λa b c d e f a' b' c' d' e' f'=>(key [a,b,c,d,e,f] [a',b',c',d',e',f'] rfl).1,λa b c d e f a' b' c' d' e' f'=>(key [a,b,c,d,e,f] [a',b',c',d',e',f'] rfl).2,λa b c d e f g a' b' c' d' e' f' g'=>(key [a,b,c,d,e,f,g] [a',b',c',d',e',f',g'] rfl).1,λa b c d e f g a' b' c' d' e' f' g'=>(key [a,b,c,d,e,f,g] [a',b',c',d',e',f',g'] rfl).2,λa b c d e f g h a' b' c' d' e' f' g' h'=>(key [a,b,c,d,e,f,g,h] [a',b',c',d',e',f',g',h'] rfl).1,λa b c d e f g h a' b' c' d' e' f' g' h'=>(key [a,b,c,d,e,f,g,h] [a',b',c',d',e',f',g',h'] rfl).2⟩
def dp(l:List (List MvV)):Nat:=(l.map List.length).sum
def mf(a:AdvV)(l:List MvV)(i:Nat):Int:=
 if kJ (l.getD i default).r≠0 then kJ (l.getD i default).r else if (l.getD i default).r.n≠a.n then 22
 else if 0<i/\0<=bu (l.getD (i-1) default).r.ints (l.getD i default).r.ints then 14 else if (l.getD i default).to<0\/(a.states.length:Int)<=(l.getD i default).to then 2 else 0
def eW(a:AdvV)(s:Nat):Int:=if (a.st s).length=0 then 19 else cH (mf a (a.st s)) (a.st s).length
def kf(a b:Int):Bool:=(List.range 5).all λp=>!hasFl a p || hasFl b p
def oJ(a:AdvV)(m:MvV):Bool:=(a.st m.to.toNat).all λk=>kf m.r.f k.r.f
def j6(a:AdvV):Bool:=a.states.all λl=>l.all (oJ a)
def sB(a:AdvV):Int:=if a.n<1\/5<a.n then 2 else if a.states.length<1\/256<a.states.length\/4096<dp a.states then 5 else if cH (eW a) a.states.length≠0 then cH (eW a) a.states.length else if j6 a=true then 0 else 21
def xB(a:AdvV):Bool:=decide (a.states.length<=8)&&decide (dp a.states<=40)
theorem rF{l:List (List MvV)}{k:Nat}(h:k<l.length):dp (l.take (k+1))=dp (l.take k)+(l.getD k default).length:=by
 unfold dp;rw[cu h,dq,List.sum_append];simp
theorem we:∀{l:List (List MvV)}{B:Nat},(∀x∈l,x.length<=B)->dp l<=l.length*B
 |[],_,_=>by simp[dp]
 |x::l,B,h=>by
  have h1:=we (l:=l) λy hy=>h y (qq _ hy);have h2:=h x (ju ..);unfold dp at h1 |-;rw[gu,List.sum_cons,dJ,ez,Nat.one_mul];omega
theorem pc:∀{l:List (List MvV)}{x:List MvV},x∈l->x.length<=dp l
 |y::l,x,h=>by
  unfold dp;rw[gu,List.sum_cons];rcases gg.1 h with rfl|h
  ·omega
  ·have:=pc (l:=l) h;unfold dp at this;omega
structure ShA(a:AdvV):Prop where
 len:a.states.length<=8
 each:∀l∈a.states,l.length<=17592186044416
theorem AD{f:Nat->Int}{n k:Nat}(h1:k<n)(h2:∀i,i<k->f i=0){c:Int}(h3:f k=c)(h4:c≠0):cH f n=c:=by
 rw[dN h1 h2 (by rw[h3];exact h4),h3]
theorem Gv{f:Nat->Int}{k:Nat}(h2:∀i,i<k->f i=0)(h3:f k=0):∀i,i<k+1->f i=0:=λi hi=>by
 rcases ij.1 hi with h|rfl
 ·exact h2 i h
 ·exact h3
theorem mY{r:RndV}(h:kD r=0):1<=r.n/\r.n<=5/\∀p:Nat,p<5->(r.n<=p->r.hs.getD p 0=0)/\((p:Int)<r.n->0<=r.hs.getD p 0/\r.hs.getD p 0<pw r.n/\hasFl (r.hs.getD p 0) p=true):=by
 unfold kD at h;by_cases hn:r.n<1\/5<r.n
 ·rw[if_pos hn] at h;exact absurd h (by decide)
 rw[if_neg hn] at h;refine⟨by omega,by omega,λp hp=>?_⟩;have hz:=iI h p hp;unfold mo at hz;constructor
 ·intro hle;rw[if_pos hle] at hz;by_cases h0:r.hs.getD p 0=0
  ·exact h0
  ·rw[if_neg h0] at hz;exact absurd hz (by decide)
 ·intro hlt;rw[if_neg (by omega)] at hz;by_cases hx:r.hs.getD p 0<0\/pw r.n-1<r.hs.getD p 0
  ·rw[if_pos hx] at hz;exact absurd hz (by decide)
  rw[if_neg hx] at hz;by_cases hb:hasFl (r.hs.getD p 0) p=true
  ·exact⟨by omega,by omega,hb⟩
  ·rw[if_neg hb] at hz;exact absurd hz (by decide)
theorem jX{r:RndV}(h:kJ r=0):kD r=0/\0<=r.f/\r.f<pw r.n:=by
 unfold kJ at h;by_cases hg:kD r=0
 ·rw[if_neg (by omega)] at h;obtain⟨h1,h2,-⟩:=mY hg;unfold Ht at h;rw[if_neg (by omega)] at h;by_cases hx:r.f<0\/pw r.n<=r.f
  ·rw[if_pos hx] at h;exact absurd h (by decide)
  ·exact⟨hg,by omega,by omega⟩
 ·rw[if_pos hg] at h;exact absurd h hg
structure MvOk(a:AdvV)(m:MvV):Prop where
 r:kJ m.r=0
 n:m.r.n=a.n
 to0:0<=m.to
 to1:m.to<a.states.length
theorem CT{a:AdvV}{l:List MvV}{i:Nat}(h:mf a l i=0):MvOk a (l.getD i default)/\(0<i->bu (l.getD (i-1) default).r.ints (l.getD i default).r.ints<0):=by
 unfold mf at h;split at h
 ·rename_i q;exact absurd h q
 split at h
 ·exact absurd h (by decide)
 split at h
 ·exact absurd h (by decide)
 split at h
 ·exact absurd h (by decide)
 exact⟨⟨by omega,by omega,by omega,by omega⟩,λq=>by omega⟩
structure AdvOk(a:AdvV):Prop where
 n1:1<=a.n
 n5:a.n<=5
 s1:1<=a.states.length
 s256:a.states.length<=256
 m4096:dp a.states<=4096
 ne:∀l∈a.states,l≠[]
 mv:∀l∈a.states,∀m∈l,MvOk a m
 asc:∀l∈a.states,∀i,0<i->i<l.length->bu (l.getD (i-1) default).r.ints (l.getD i default).r.ints<0
 grow:j6 a=true
theorem zX{a:AdvV}{s:Nat}(h:eW a s=0):a.st s≠[]/\(∀m∈a.st s,MvOk a m)/\∀i,0<i->i<(a.st s).length->bu ((a.st s).getD (i-1) default).r.ints ((a.st s).getD i default).r.ints<0:=by
 unfold eW at h;split at h
 ·exact absurd h (by decide)
 rename_i hl;refine⟨λq=>hl (by rw[q];rfl),λm hm=>?_,λi h0 hi=>(CT (iI h i hi)).2 h0⟩;obtain⟨i,hi,rfl⟩:=mM hm;have:=(CT (iI h i hi)).1
 rwa [show(a.st s).getD i default=(a.st s)[i] by simp[List.getD,hi]] at this
theorem JV{a:AdvV}(h:sB a=0):AdvOk a:=by
 unfold sB at h;split at h
 ·exact absurd h (by decide)
 split at h
 ·exact absurd h (by decide)
 split at h
 ·rename_i q;exact absurd h q
 split at h
 rotate_left
 ·exact absurd h (by decide)
 rename_i h1 h2 h3 h4
 have hs:∀l∈a.states,∃s,s<a.states.length/\a.st s=l:=λl hl=>by
  obtain⟨s,hs,rfl⟩:=mM hl;exact⟨s,hs,by simp[AdvV.st,List.getD,hs]⟩
 have hz:∀s,s<a.states.length->eW a s=0:=λs hs=>iI (by omega) s hs;refine⟨by omega,by omega,by omega,by omega,by omega,λl hl=>?_,λl hl=>?_,λl hl=>?_,h4⟩
 all_goals
  obtain⟨s,s1,rfl⟩:=hs l hl;have:=zX (hz s s1)
 ·exact this.1
 ·exact this.2.1
 ·exact this.2.2
theorem lR{a:AdvV}{s:Nat}(h:s<a.states.length):a.st s∈a.states:=gW h
theorem oM{a:AdvV}{s:Nat}:a.states.getD s default=a.st s:=rfl
section
attribute [local irreducible] aE ai be aP aJ aK ay aL aR bn Go.Abs.Fn aO Go.Abs.Pure ak aD Yl
theorem tU(n:Nat)(hn:n<=60):pU 169 [.int .i64 n] (.int .i64 ((2^n:Nat):Int)):=by
 refine pO L6 ?_;simp only[LK,aw];refine wnZ and_self ?_;refine bj (X:=Nat) (λk=>[(0,.int .i64 n),(3,.int .i64 ((2^k:Nat):Int)),(4,.int .i64 (k:Nat))]) (λk H' nx'=>k<=n) (λk=>n-k) 0 (bz _) (by simp (disch:=omega) only[agr,ZG,reduceEqDiff,↓reduceIte,Nat.pow_zero]) ?_;intro k H nx hk;by_cases e:k=n
 ·subst e;refine wnZ and_self ?_;exact aA rfl
 ·have h2:2^k<=2^60:=Nat.pow_le_pow_right (by omega) (by omega);have hs:2^(k+1)=2^k*2:=Nat.pow_succ ..;rw[show(2:Nat)^60=1152921504606846976 from rfl] at h2;obtain⟨w,hw⟩:∃w,2^k=w:=⟨_,rfl⟩
  obtain⟨w2,hw2⟩:∃w,2^(k+1)=w:=⟨_,rfl⟩
  rw[hw] at h2 hs |-;rw[hw2] at hs;have h3:((w:Nat):Int)*2=(w2:Int):=by omega
  have h5:IntKind.wrap .i64 ((w2:Nat):Int)=(w2:Int):=iU (by omega) (by omega);refine wnZ (aI @h3 @h5) ?_;exact⟨k+1,by omega,by omega,by rw[hw2];simp (disch:=omega) only[agr,ZG,reduceEqDiff,↓reduceIte]⟩
theorem HZ(n:Nat)(hn:n<=60):pU 182 [.int .i64 n] (.int .i64 (((2^n:Nat):Int)-1)):=by
 have hp:=tU n hn;have h2:2^n<=2^60:=Nat.pow_le_pow_right (by omega) (by omega);have h3:0<2^n:=Nat.pow_pos (by omega);generalize 2^n=w at *;refine pO Mp ?_;simp only[Mm,aw];refine wnZ and_self ?_;exact aA rfl
theorem qf(f:Int)(p:Nat)(h0:0<=f)(h1:f<=9223372036854775807)(hp:p<=60):pU 149 [.int .i64 f,.int .i64 p] (.bool (hasFl f p)):=by
 have hw:=tU p hp;have h3:0<2^p:=Nat.pow_pos (by omega);unfold hasFl;generalize 2^p=w at *;refine pO Ld ?_;simp only[L4,aw];have hq:=pP (tb:=false) (tf:=false) h0 h1 (b:=(w:Int)) (by omega);have hr:=xJ (k:=.i64) (tb:=false) (tf:=false) (a:=f/(w:Int)) (b:=2) (Int.ediv_nonneg h0 (by omega)) (by omega);refine wnZ (aI @hq @hr) ?_;exact cf rfl
theorem Hj(n:Int):pU 183 [.int .i64 n] (.int .i64 (if n<1\/5<n then 1 else 0)):=by
 refine pO MF ?_;simp only[LI,aw]
 repeat' (first|refine zW ?_|apply a_n|apply a_r|refine zO ?_|refine vZ ?_|refine gTZ ?_|refine gFZ ?_|refine cTZ ?_|(refine zGZ ?_ ?_<;>(intro _hg;try (exfalso;omega)))|refine bk rfl ?_|refine r1Z ?_|fail)
 all_goals (refine aA ?_;split<;>first|rfl|omega)
theorem GY(n:Int):pU 181 [.int .i64 n] (.int .i64 (if n<1\/5<n then 1 else 0)):=by
 refine pO Lc ?_;simp only[Lx,aw]
 repeat' (first|refine zW ?_|apply a_n|apply a_r|refine zO ?_|refine vZ ?_|refine gTZ ?_|refine gFZ ?_|refine cTZ ?_|(refine zGZ ?_ ?_<;>(intro _hg;try (exfalso;omega)))|refine bk rfl ?_|refine r1Z ?_|fail)
 all_goals (refine aA ?_;split<;>first|rfl|omega)
theorem D8(n f:Int):pU 177 [.int .i64 n,.int .i64 f] (.int .i64 (Ht n f)):=by
 refine pO MX ?_;simp only[LZ,aw];have hp:=Hj n;unfold Ht;by_cases h:n<1\/5<n
 ·rw[if_pos h] at hp |-;refine wnZ and_self ?_;exact aA rfl
 rw[if_neg h] at hp |-;obtain⟨k,rfl⟩:∃k:Nat,n=k:=⟨n.toNat,by omega⟩
 have hw:=tU k (by omega);rw[show pw (k:Int)=((2^k:Nat):Int) from rfl];generalize ((2^k:Nat):Int)=w at *
 repeat' (first|refine zW ?_|apply a_n|apply a_r|refine zO ?_|refine vZ ?_|refine cZ ?_ (hp:=by first|exact hp|exact hw)|refine gTZ ?_|refine gFZ ?_|refine cTZ ?_|(refine zGZ ?_ ?_<;>(intro _hg;try (exfalso;omega)))|refine bk rfl ?_|refine r1Z ?_|fail)
 all_goals (refine aA ?_;split<;>first|rfl|omega)
theorem DC(r:RndV):pU 176 [j9 r] (.int .i64 (kD r)):=by
 refine pO NV ?_;simp only[Nw,aw];unfold kD j9;rw[PC.2.1];by_cases h:r.n<1\/5<r.n
 ·rw[if_pos h]
  repeat' (first|refine zW ?_|apply a_n|apply a_r|refine zO ?_|refine vZ ?_|refine bxZ ?_|refine gTZ ?_|refine gFZ ?_|refine cTZ ?_|(refine zGZ ?_ ?_<;>(intro _hg;try (exfalso;omega)))|refine bk rfl ?_|refine r1Z ?_|fail)
  all_goals first|exact aA rfl|omega
 rw[if_neg h];obtain⟨k,hk⟩:∃k:Nat,r.n=k:=⟨r.n.toNat,by omega⟩
 have hfu:=HZ k (by omega);have hg:∀p,mo r p=if r.n<=p then(if r.hs.getD p 0=0 then 0 else 3) else if r.hs.getD p 0<0\/pw r.n-1<r.hs.getD p 0 then 2 else if hasFl (r.hs.getD p 0) p=true then 0 else 3:=λ_=>rfl
 have hcell:=λq hq=>nN r (q:=q) hq;have hpw:=x5 (n:=r.n) (by omega);rw[hk] at hcell hpw;rw[<-AN hk,hk] at hfu;rw[hk] at hg h |-;refine wnZ and_self ?_;generalize pw (k:Int)=w at *;refine fS (X:=Nat) (λq=>[(1,.ptr 0 6 0),(3,.int .i64 q)]) (λq=>q<=5/\∀i,i<q->mo r i=0) (λq=>5-q) 0 ⟨bz _,λi hi=>absurd hi (Nat.not_lt_zero _)⟩ (by simp (disch:=omega) only[agr,ZG,reduceEqDiff,↓reduceIte,SL]) ?_;rintro q ⟨h1,h2⟩;by_cases hq:q<5
 rotate_left
 ·refine wnZ and_self ?_;refine aA ?_;exact(dC λi hi=>h2 i (by omega)).symm
 have hc:=hcell q hq;have hgq:=hg q;have hstop:∀(c:Int)(H:Hp),mo r q=c->c≠0->Snap H (.int .i64 c) (.int .i64 (cH (mo r) 5)):=λc H hc h0=>aA (by rw[dN (by omega) h2 (by rw[hc];exact h0),hc])
 have hgo:mo r q=0→(q + 1 ≤ 5∧∀ i,i < q + 1→mo r i=0)∧5 - (q + 1) < 5 - q:=fun hc=>⟨⟨by omega,fun i hi=>by
  rcases ij.1 hi with h|rfl
  ·exact h2 i h
  ·exact hc⟩,by omega⟩
 generalize r.hs.getD q 0=x at *;by_cases hn:(k:Int)<=q
 ·rw[if_pos hn] at hgq;by_cases hx:x=0
  ·rw[if_pos hx] at hgq;refine wnZ (aI @IX @hc) ?_;exact⟨q+1,(hgo hgq).1,(hgo hgq).2,ag0,rfl,rfl⟩
  ·rw[if_neg hx] at hgq;refine wnZ (aI @IX @hc) ?_;exact hstop _ _ hgq (by decide)
 rw[if_neg hn] at hgq;by_cases hx:x<0\/w-1<x
 ·rw[if_pos hx] at hgq;have zz:=aI @IX @hc;repeat' (first|refine zW ?_|apply a_n|apply a_r|refine zO ?_|refine vZ ?_|refine cZ ?_ (hp:=hfu)|refine gTZ ?_|refine gFZ ?_|refine cTZ ?_|(refine zGZ ?_ ?_<;>(intro _hg;try (exfalso;omega)))|refine bk rfl ?_|refine r1Z ?_|fail)
  all_goals first|exact hstop _ _ hgq (by decide)|omega
 ·rw[if_neg hx] at hgq;have hhas:=qf x q (by omega) (by omega) (by omega);cases hb:hasFl x q with
  |true=>
   rw[hb,if_pos rfl] at hgq;rw[hb] at hhas;refine wnZ (aI @IX @hc) ?_;exact⟨q+1,(hgo hgq).1,(hgo hgq).2,ag0,rfl,rfl⟩
  |false=>
   rw[hb,if_neg (by decide)] at hgq;rw[hb] at hhas;refine wnZ (aI @IX @hc) ?_;exact hstop _ _ hgq (by decide)
theorem Da(r:RndV):pU 166 [fi r] (.int .i64 (kJ r)):=by
 refine pO L1 ?_;simp only[K2,aw];have hg:=DC r;have hs:=D8 r.n r.f;have hd:=jd r;unfold kJ fi;unfold j9 at hg hd;rw[PC.2.1] at hg hd;rw[PC.1];generalize kD r=e at *
 repeat' (first|refine zW ?_|apply a_n|apply a_r|refine zO ?_|refine vZ ?_|refine cZ ?_ (hp:=by first|exact hg|exact hs)|refine bxZ ?_|(refine zGZ ?_ ?_<;>(intro _hg;try (exfalso;omega)))|refine bk rfl ?_|refine r1Z ?_|fail)
 ·rw[if_pos _hg];exact .int _ _
 ·rw[if_neg (by omega)];exact .int _ _
theorem Av(r s:RndV):pU 178 [j9 r,j9 s] (.int .i64 (bu r.gi s.gi)):=by
 refine pO KZ ?_;simp only[Ob,aw];have h0:r.n≠s.n->bu r.gi s.gi=if r.n<s.n then-1 else 1:=λh=>mI (q:=0) (l:=r.gi) (m:=s.gi) (Nat.zero_lt_succ _) (Nat.zero_lt_succ _) (λi hi=>absurd hi (Nat.not_lt_zero _)) h
 have hq1:∀ q,q < 5→r.n=s.n→(∀ i,i < q→r.hs.getD i 0=s.hs.getD i 0)→r.hs.getD q 0 ≠ s.hs.getD q 0→bu r.gi s.gi=if r.hs.getD q 0 < s.hs.getD q 0 then -1 else 1:=fun q hq h1 h2 h3=>mI (q:=q + 1) (l:=r.gi) (m:=s.gi) (show q + 1 < 6 by omega) (show q + 1 < 6 by omega) (fun i hi=>by
  cases i with
  |zero=>exact h1
  |succ i=>exact h2 i (by omega)) h3
 have he:r.n=s.n->(∀i,i<5->r.hs.getD i 0=s.hs.getD i 0)->bu r.gi s.gi=0:=λh1 h2=>yw (l:=r.gi) (m:=s.gi) rfl λi hi=>by
  cases i with
  |zero=>exact h1
  |succ i=>exact h2 i (by have:i+1<6:=hi;omega)
 have hc1:=λq hq=>nN r (q:=q) hq;have hc2:=λq hq=>nN s (q:=q) hq;unfold j9;rw[PC.2.1,PC.2.1];generalize bu r.gi s.gi=O at *
 repeat' (first|refine zW ?_|apply a_n|apply a_r|refine zO ?_|refine vZ ?_|refine bxZ ?_|(refine zGZ ?_ ?_<;>(intro _hg;try (exfalso;omega)))|refine bk rfl ?_|refine r1Z ?_|fail)
 ·exact aA (by rw[h0 (by omega),if_pos _hg])
 ·exact aA (by rw[h0 (by omega),if_neg (by omega)])
 have hrs:r.n=s.n:=by omega
 refine fS (X:=Nat) (λq=>[(2,.ptr 0 6 0),(3,.ptr 1 6 0),(5,.int .i64 q)]) (λq=>q<=5/\∀i,i<q->r.hs.getD i 0=s.hs.getD i 0) (λq=>5-q) 0 ⟨bz _,λi hi=>absurd hi (Nat.not_lt_zero _)⟩ (by simp (disch:=omega) only[agr,ZG,reduceEqDiff,↓reduceIte,SL]) ?_;rintro q ⟨h1,h2⟩;by_cases hq:q<5
 rotate_left
 ·refine wnZ and_self ?_;exact aA (he hrs λi hi=>h2 i (by omega)).symm
 have hx:=hc1 q hq;have hy:=hc2 q hq;have hz:=hq1 q hq hrs h2
 have hgo:r.hs.getD q 0=s.hs.getD q 0->∀i,i<q+1->r.hs.getD i 0=s.hs.getD i 0:=λh i hi=>by
  rcases ij.1 hi with h|rfl
  ·exact h2 i h
  ·exact h
 generalize r.hs.getD q 0=x at *;generalize s.hs.getD q 0=y at *;have zz:=aI @IX (aI @hx @hy);repeat' (first|refine zW ?_|apply a_n|apply a_r|refine zO ?_|refine vZ ?_|(refine zGZ ?_ ?_<;>(intro _hg;try (exfalso;omega)))|refine bk rfl ?_|refine r1Z ?_|fail)
 ·exact aA (by rw[hz (by omega),if_pos _hg])
 ·exact aA (by rw[hz (by omega),if_neg (by omega)])
 ·exact⟨q+1,⟨by omega,hgo (by omega)⟩,by omega,ag0,rfl,rfl⟩
theorem zD(r s:RndV):pU 167 [fi r,fi s] (.int .i64 (bu r.ints s.ints)):=by
 refine pO Mc ?_;simp only[K9,aw];have hg:=Av r s
 have e:bu r.ints s.ints=if bu r.gi s.gi≠0 then bu r.gi s.gi else if r.f<s.f then-1 else if r.f>s.f then 1 else 0:=by
  rw[sL,sL,qH (l:=r.gi) (m:=s.gi) _ _ rfl];rfl
 have d1:=jd r;have d2:=jd s;unfold fi;unfold j9 at hg d1 d2;rw[PC.2.1] at d1 d2;rw[PC.2.1,PC.2.1] at hg;rw[PC.1,PC.1,e];generalize bu r.gi s.gi=O at *
 repeat' (first|refine zW ?_|apply a_n|apply a_r|refine zO ?_|refine vZ ?_|refine cZ ?_ (hp:=hg)|refine bxZ ?_|(refine zGZ ?_ ?_<;>(intro _hg;try (exfalso;omega)))|refine bk rfl ?_|refine r1Z ?_|fail)
 all_goals refine aA ?_
 ·rw[if_pos _hg]
 ·rw[if_neg (by omega),if_pos (by omega)]
 ·rw[if_neg (by omega),if_neg (by omega),if_pos (by omega)]
 ·rw[if_neg (by omega),if_neg (by omega),if_neg (by omega)]
theorem Dr(r s:RndV):pU 174 [j9 r,j9 s] (.int .i64 (bu r.gi s.gi)):=by
 refine pO Ni ?_;simp only[M9,aw];have h0:r.n≠s.n->bu r.gi s.gi=if r.n<s.n then-1 else 1:=λh=>mI (q:=0) (l:=r.gi) (m:=s.gi) (Nat.zero_lt_succ _) (Nat.zero_lt_succ _) (λi hi=>absurd hi (Nat.not_lt_zero _)) h
 have hq1:∀ q,q < 5→r.n=s.n→(∀ i,i < q→r.hs.getD i 0=s.hs.getD i 0)→r.hs.getD q 0 ≠ s.hs.getD q 0→bu r.gi s.gi=if r.hs.getD q 0 < s.hs.getD q 0 then -1 else 1:=fun q hq h1 h2 h3=>mI (q:=q + 1) (l:=r.gi) (m:=s.gi) (show q + 1 < 6 by omega) (show q + 1 < 6 by omega) (fun i hi=>by
  cases i with
  |zero=>exact h1
  |succ i=>exact h2 i (by omega)) h3
 have he:r.n=s.n->(∀i,i<5->r.hs.getD i 0=s.hs.getD i 0)->bu r.gi s.gi=0:=λh1 h2=>yw (l:=r.gi) (m:=s.gi) rfl λi hi=>by
  cases i with
  |zero=>exact h1
  |succ i=>exact h2 i (by have:i+1<6:=hi;omega)
 have hs0:[r.n,r.h0,r.h1,r.h2,r.h3,r.h4]=[s.n,s.h0,s.h1,s.h2,s.h3,s.h4]->bu r.gi s.gi=0:=λh=>qY.2 h;have hc1:=λq hq=>nN r (q:=q) hq;have hc2:=λq hq=>nN s (q:=q) hq;have hcn:=BV r.n s.n;unfold j9;rw[PC.2.1,PC.2.1];generalize bu r.gi s.gi=O at *;have zz:=@EQ;repeat' (first|refine zW ?_|apply a_n|apply a_r|refine zO ?_|refine vZ ?_|refine cZ ?_ (hp:=hcn)|refine bxZ ?_|(refine zGZ ?_ ?_<;>(intro _hg;try (exfalso;omega)))|refine bk rfl ?_|refine r1Z ?_|fail)
 ·exact aA (hs0 _hg).symm
 ·refine aA ?_;rw[h0 (by omega)];split
  ·rfl
  ·rw[if_pos (by omega)]
 have hrs:r.n=s.n:=by omega
 refine fS (X:=Nat) (λq=>[(2,.ptr 0 6 0),(3,.ptr 1 6 0),(20,.int .i64 q)]) (λq=>q<=5/\∀i,i<q->r.hs.getD i 0=s.hs.getD i 0) (λq=>5-q) 0 ⟨bz _,λi hi=>absurd hi (Nat.not_lt_zero _)⟩ (by simp (disch:=omega) only[agr,ZG,reduceEqDiff,↓reduceIte,SL]) ?_;rintro q ⟨h1,h2⟩;by_cases hq:q<5
 rotate_left
 ·refine wnZ and_self ?_;exact aA (he hrs λi hi=>h2 i (by omega)).symm
 have hx:=hc1 q hq;have hy:=hc2 q hq;have hz:=hq1 q hq hrs h2
 have hgo:r.hs.getD q 0=s.hs.getD q 0->∀i,i<q+1->r.hs.getD i 0=s.hs.getD i 0:=λh i hi=>by
  rcases ij.1 hi with h|rfl
  ·exact h2 i h
  ·exact h
 generalize r.hs.getD q 0=x at *;generalize s.hs.getD q 0=y at *;have hcq:=BV x y;by_cases hxy:x=y
 ·rw[if_neg (by omega),if_neg (by omega)] at hcq;refine wkZ (zI3 @IX @hx @hy) ?_;exact⟨q+1,⟨by omega,hgo hxy⟩,by omega,ag0,rfl,rfl⟩
 ·rw[hz hxy]
  have e:(if x<y then(-1:Int) else if x>y then 1 else 0)=if x<y then-1 else 1:=by
   split
   ·rfl
   ·rw[if_pos (by omega)]
  rw[e] at hcq;have ne:(if x<y then(-1:Int) else 1)≠0:=by split<;>decide
  generalize (if x<y then(-1:Int) else 1)=z at *;refine wkZ (zI3 @IX @hx @hy) ?_;exact aA rfl
theorem DK(r s:RndV):pU 156 [fi r,fi s] (.int .i64 (bu r.ints s.ints)):=by
 refine pO Mw ?_;simp only[Lh,aw];have hg:=Dr r s
 have e:bu r.ints s.ints=if bu r.gi s.gi≠0 then bu r.gi s.gi else if r.f<s.f then-1 else if r.f>s.f then 1 else 0:=by
  rw[sL,sL,qH (l:=r.gi) (m:=s.gi) _ _ rfl];rfl
 have e0:[r.n,r.h0,r.h1,r.h2,r.h3,r.h4,r.f]=[s.n,s.h0,s.h1,s.h2,s.h3,s.h4,s.f]->bu r.ints s.ints=0:=λh=>qY.2 h;have e1:[r.n,r.h0,r.h1,r.h2,r.h3,r.h4]=[s.n,s.h0,s.h1,s.h2,s.h3,s.h4]↔bu r.gi s.gi=0:=qY.symm;have hc:=BV r.f s.f;have d1:=jd r;have d2:=jd s;unfold fi;unfold j9 at hg d1 d2;rw[PC.2.1] at d1 d2;rw[PC.2.1,PC.2.1] at hg;rw[PC.1,PC.1];generalize bu r.ints s.ints=OO at *;generalize bu r.gi s.gi=O at *;generalize (if r.f<s.f then(-1:Int) else if r.f>s.f then 1 else 0)=z at *;have zz:=@EQ;repeat' (first|refine zW ?_|apply a_n|apply a_r|refine zO ?_|refine vZ ?_|refine cZ ?_ (hp:=by first|exact hg|exact hc)|refine bxZ ?_|(refine zGZ ?_ ?_<;>(intro _hg;try (exfalso;omega)))|refine bk rfl ?_|refine r1Z ?_|fail)
 all_goals refine aA ?_
 ·exact(e0 _hg).symm
 ·rw[e,if_pos λh=>_hg (e1.2 h)]
 ·rw[e,if_neg λh=>h (e1.1 _hg)]
theorem BS(a:AdvV)(h:ShA a):pU 113 [d6 a] (.int .i64 (dp a.states:Nat)):=by
 refine pO Oc ?_;simp only[LF,aw];obtain⟨h1,h2⟩:=h
 have ht:∀k,dp (a.states.take k)<=140737488355328:=λk=>by
  have:=we (l:=a.states.take k) (B:=17592186044416) λx hx=>h2 x (vj hx);have h3:=List.length_take_le k a.states;have h4:(a.states.take k).length<=8:=by rw[jt];omega
  omega
 unfold d6;rw[PC.2.2.2.1];refine wnZ @PE ?_;refine fS (X:=Nat) (λk=>[(1,.ptr 0 2 0),(3,.int .i64 (dp (a.states.take k):Nat)),(4,.int .i64 k)]) (λk=>k<=a.states.length) (λk=>a.states.length-k) 0 (bz _) (by have e0:dp (a.states.take 0)=0:=rfl;simp (disch:=omega) only[agr,ZG,reduceEqDiff,↓reduceIte,SL,e0]) ?_;intro k hk;by_cases hlt:k<a.states.length
 ·have ix:=zu hlt;have e:=rF hlt;have b1:=ht k;have b2:=ht (k+1);rw[e] at b2;have e3:((dp (a.states.take k):Nat):Int)+((a.states.getD k default).length:Nat)=((dp (a.states.take (k+1)):Nat):Int):=by rw[e];omega
  refine wnZ (aI @PE @ix) ?_;exact⟨k+1,by omega,by omega,(have zz:=@e3;agZ),rfl,rfl⟩
 ·obtain rfl:k=a.states.length:=by omega
  rw[List.take_length];refine wnZ @PE ?_;exact aA rfl
theorem Hq(a:AdvV)(h:a.states.length<=8->ShA a)(hl:a.states.length<=17592186044416):pU 89 [d6 a] (.bool (xB a)):=by
 refine pO O9 ?_;simp only[b89,aw];have hd:=dG a;unfold xB;by_cases h1:a.states.length<=8
 ·have hm:=BS a (h h1);unfold d6 at hm hd |-;rw[PC.2.2.2.1] at hm hd |-;rw[bG h1,Bool.true_and];generalize dp a.states=M at *;refine wnZ @PE ?_;exact cf (decide_eq_decide.2 (by omega))
 ·rw[bK h1];unfold d6;rw[PC.2.2.2.1];refine wnZ @PE ?_;exact .bool _
theorem Fv(a b:Int)(ha:0<=a/\a<=9223372036854775807)(hb:0<=b/\b<=9223372036854775807):pU 168 [.int .i64 a,.int .i64 b] (.bool (kf a b)):=by
 refine pO Ly ?_;simp only[NY,aw];unfold kf;refine wnZ and_self ?_;refine qo (λk=>[(0,.int .i64 a),(1,.int .i64 b),(5,.int .i64 k)]) 5 (λp=>(!hasFl a p || hasFl b p)=true) ag0 ?_;intro k hk hp;by_cases hlt:k<5
 rotate_left
 ·refine wnZ and_self ?_;rw[uX λi hi=>hp i (by omega)];exact .bool _
 have h1:=qf a k ha.1 ha.2 (by omega);have h2:=qf b k hb.1 hb.2 (by omega);have hf:(!hasFl a k || hasFl b k)=false->(List.range 5).all (λp=>!hasFl a p || hasFl b p)=false:=λh=>sJ hlt h;cases e1:hasFl a k<;>cases e2:hasFl b k
 all_goals rw[e1] at h1 hf;rw[e2] at h2 hf
 ·refine wnZ and_self ?_;exact⟨hlt,rfl,ag0,rfl,rfl⟩
 ·refine wnZ and_self ?_;exact⟨hlt,rfl,ag0,rfl,rfl⟩
 ·refine wnZ and_self ?_;rw[hf rfl];exact .bool _
 ·refine wnZ and_self ?_;exact⟨hlt,rfl,ag0,rfl,rfl⟩
theorem JG(a:AdvV)(l:List MvV)(i:Nat)(hi:i<l.length)(hl:l.length<=17592186044416):pU 147 [d6 a,di l,.int .i64 i] (.int .i64 (mf a l i)):=by
 refine pO Li ?_;simp only[Ms,aw];have ix:=ixM hi;have hc:=Da (l.getD i default).r;have hd:=np (l.getD i default).r;have hcm:=λp=>zD p (l.getD i default).r;rw[PC.2.2.1] at ix;unfold d6 mf;unfold fi at hc hd hcm;rw[PC.1] at hc hd
 have hcm1:∀p:RndV,pU 167 [.agg [.int .i64 p.n,.int .i64 p.h0,.int .i64 p.h1,.int .i64 p.h2,.int .i64 p.h3,.int .i64 p.h4,.int .i64 p.f],.agg [.int .i64 (l.getD i default).r.n,.int .i64 (l.getD i default).r.h0,.int .i64 (l.getD i default).r.h1,.int .i64 (l.getD i default).r.h2,.int .i64 (l.getD i default).r.h3,.int .i64 (l.getD i default).r.h4,.int .i64 (l.getD i default).r.f]] (.int .i64 (bu p.ints (l.getD i default).r.ints)):=λp=>by
  have:=hcm p;rw[PC.1,PC.1] at this;exact this
 clear hcm;rw[PC.2.2.2.1];cases i with
 |zero=>
  rw[show(0:Nat)-1=0 from rfl];generalize l.getD 0 default=m at *;generalize kJ m.r=e at *;have zz:=aI @PE @ix;repeat' (first|refine zW ?_|refine zM ?_|apply a_n|apply a_r|refine zO ?_|refine vZ ?_|refine cZ ?_ (hp:=hc)|refine alZ ?_|refine bxZ ?_|refine stZ ?_|refine gTZ ?_|refine gFZ ?_|refine cTZ ?_|refine cFZ ?_|(refine zGZ ?_ ?_<;>(intro _hg;try (exfalso;omega)))|refine bk rfl ?_|refine r1Z ?_|fail)
  all_goals (refine aA ?_;(repeat' split)<;>omega)
 |succ j=>
  have ix2:cA 8 (di l) (.int .i64 (((j+1:Nat):Int)-1))=some (.iptr (l.getD j default).cs 0):=by
   rw[show((j+1:Nat):Int)-1=(j:Int) by omega];exact ixM (by omega)
  rw[PC.2.2.1] at ix2;rw[show j+1-1=j from rfl];have hcp:=hcm1 (l.getD j default).r;have hdp:=np (l.getD j default).r;unfold fi at hdp;rw[PC.1] at hdp;clear hcm1;generalize l.getD (j+1) default=m at *;generalize l.getD j default=p at *;generalize kJ m.r=e at *;generalize bu p.r.ints m.r.ints=O at *;have zz:=aI @PE (aI @ix @ix2);repeat' (first|refine zW ?_|refine zM ?_|apply a_n|apply a_r|refine zO ?_|refine vZ ?_|refine cZ ?_ (hp:=by first|exact hc|exact hcp)|refine alZ ?_|refine bxZ ?_|refine stZ ?_|refine gTZ ?_|refine gFZ ?_|refine cTZ ?_|(refine zGZ ?_ ?_<;>(intro _hg;try (exfalso;omega)))|refine bk rfl ?_|refine r1Z ?_|fail)
  all_goals (refine aA ?_;(repeat' split)<;>omega)
theorem G9(a:AdvV)(hs:ShA a)(h:∀l∈a.states,∀m∈l,MvOk a m)(h5:a.n<=5):pU 148 [d6 a] (.bool (j6 a)):=by
 refine pO L3 ?_;simp only[MM,aw];obtain⟨h1,h2⟩:=hs;have hp:=x5 h5
 have hf:∀l∈a.states,∀m∈l,0<=m.r.f/\m.r.f<=9223372036854775807:=λl hl m hm=>by
  obtain⟨q1,q2,_,_⟩:=h l hl m hm;obtain⟨_,q3,q4⟩:=jX q1;rw[q2] at q4;omega
 have hto:∀l∈a.states,∀m∈l,0<=m.to/\m.to<a.states.length:=λl hl m hm=>⟨(h l hl m hm).to0,(h l hl m hm).to1⟩
 unfold d6;rw[PC.2.2.2.1];refine wnZ @PE ?_;refine bj (X:=Nat) (λs=>[(1,.ptr 0 2 0),(3,.int .i64 s)]) (λs H nx=>s<=a.states.length/\(∀i,i<s->(a.states.getD i default).all (oJ a)=true)/\H 0=some [.int .i64 a.n,bh a.states]/\0<nx) (λs=>a.states.length-s) 0 ⟨bz _,λi hi=>absurd hi (Nat.not_lt_zero _),rfl,g8⟩ (by simp (disch:=omega) only[agr,ZG,reduceEqDiff,↓reduceIte,SL]) ?_;rintro s H1 n1 ⟨s1,s2,g1,b1⟩;by_cases hs:s<a.states.length
 rotate_left
 ·refine wnY (aI @PE @g1) ?_;rw[show j6 a=true from lh λi hi=>s2 i (by omega)];exact .bool _
 have ix:=zu hs;have hl:=au (l:=a.states) hs;have hgl:(a.states.getD s default).all (oJ a)=false->j6 a=false:=λq=>iK hs q
 have hgt:(a.states.getD s default).all (oJ a)=true->∀i,i<s+1->(a.states.getD i default).all (oJ a)=true:=λq i hi=>by
  rcases ij.1 hi with e|rfl
  ·exact s2 i e
  ·exact q
 have hl2:=h2 _ hl;have hfl:=hf _ hl;have htl:=hto _ hl;generalize a.states.getD s default=l at *;refine wnY (aI @PE @g1) ?_;refine bj (X:=Nat) (λk=>[(1,.ptr 0 2 0),(3,.int .i64 s),(4,.int .i64 k)]) (λk H nx=>k<=l.length/\(∀i,i<k->oJ a (l.getD i default)=true)/\H 0=some [.int .i64 a.n,bh a.states]/\0<nx) (λk=>l.length-k) 0 ⟨bz _,λi hi=>absurd hi (Nat.not_lt_zero _),g1,b1⟩ ag0 ?_;clear g1 b1;rintro k H2 n2 ⟨k1,k2,g1,b1⟩;by_cases hk:k<l.length
 rotate_left
 ·refine wnY (zI3 @PE @ix @g1) ?_;exact⟨s+1,by omega,⟨by omega,hgt (lh λi hi=>k2 i (by omega)),g1,b1⟩,ag0⟩
 have ixm:=ixM hk;rw[PC.2.2.1] at ixm;have hm:=au hk;have hml:oJ a (l.getD k default)=false->j6 a=false:=λq=>hgl (iK hk q)
 have hmt:oJ a (l.getD k default)=true->∀i,i<k+1->oJ a (l.getD i default)=true:=λq i hi=>by
  rcases ij.1 hi with e|rfl
  ·exact k2 i e
  ·exact q
 have hfm:=hfl _ hm;have htm:=htl _ hm;unfold oJ at hml hmt;rw[<-oM] at hml hmt;generalize l.getD k default=m at *;have ixs:=IJ (l:=a.states) htm;have hl':=au (l:=a.states) (k:=m.to.toNat) (by omega);have hl2':=h2 _ hl';have hfl':=hf _ hl';generalize a.states.getD m.to.toNat default=l' at *;refine wnY (zI4 @PE @ix @ixm @g1) ?_;have gm:∀cs,ar (ar H2 n2 cs) n2 (bE cs 0 [.int .i64 m.r.n,.int .i64 m.r.h0,.int .i64 m.r.h1,.int .i64 m.r.h2,.int .i64 m.r.h3,.int .i64 m.r.h4,.int .i64 m.r.f,.int .i64 m.to]) 0=H2 0:=λcs=>by rw[ab (by omega),ab (by omega)]
 refine bj (X:=Nat) (λj=>[(1,.ptr 0 2 0),(3,.int .i64 s),(4,.int .i64 k),(5,.ptr n2 8 0),(6,.int .i64 j)]) (λj H nx=>j<=l'.length/\(∀i,i<j->kf m.r.f (l'.getD i default).r.f=true)/\H 0=some [.int .i64 a.n,bh a.states]/\0<nx/\H n2=some [.int .i64 m.r.n,.int .i64 m.r.h0,.int .i64 m.r.h1,.int .i64 m.r.h2,.int .i64 m.r.h3,.int .i64 m.r.h4,.int .i64 m.r.f,.int .i64 m.to]) (λj=>l'.length-j) 0 ⟨bz _,λi hi=>absurd hi (Nat.not_lt_zero _),(gm _).trans g1,by omega,ac⟩ (by simp (disch:=omega) only[agr,ZG,reduceEqDiff,↓reduceIte,SL]) ?_;clear g1 b1 gm;rintro j H3 n3 ⟨j1,j2,g1,b1,gm⟩;by_cases hj:j<l'.length
 rotate_left
 ·refine wnY (zI4 @PE @ixs @g1 @gm) ?_;exact⟨k+1,by omega,⟨by omega,hmt (lh λi hi=>j2 i (by omega)),g1,b1⟩,ag0⟩
 have ixj:=ixM hj;rw[PC.2.2.1] at ixj;have hin:=Fv m.r.f (l'.getD j default).r.f hfm (hfl' _ (au hj));have hjl:kf m.r.f (l'.getD j default).r.f=false->j6 a=false:=λq=>hml (iK hj q);generalize hvj:kf m.r.f (l'.getD j default).r.f=v at *;cases v with
 |true=>
  refine wkY (zI5 @PE @ixs @ixj @g1 @gm) ?_
  exact ⟨j + 1,by omega,⟨by omega,fun i hi=>by
   rcases ij.1 hi with e|rfl
   ·exact j2 i e
   ·exact hvj,g1,b1,gm⟩,ag0⟩
 |false=>
  refine wkY (zI5 @PE @ixs @ixj @g1 @gm) ?_;rw[hjl rfl];exact .bool _
theorem Dw(a:AdvV)(hs:ShA a)(h40:dp a.states<=4096):pU 115 [d6 a] (.int .i64 (sB a)):=by
 refine pO Mn ?_;simp only[MO,aw];have hmo:=BS a hs;have hd:=dG a;have hgr:(∀l∈a.states,∀m∈l,MvOk a m)->a.n<=5->pU 148 [d6 a] (.bool (j6 a)):=λh1 h2=>G9 a hs h1 h2;have hmv:=JG a;obtain⟨h1,h2⟩:=hs;unfold d6 at hmo hd hgr hmv |-;rw[PC.2.2.2.1] at hmo hd hgr hmv |-;generalize hM:dp a.states=M at *;have e0:(a.n<1\/5<a.n)->sB a=2:=λh=>by unfold sB;rw[if_pos h]
 have e1:¬(a.n<1\/5<a.n)->a.states.length<1->sB a=5:=λh h'=>by unfold sB;rw[if_neg h,if_pos (.inl h')]
 have e2:¬(a.n<1\/5<a.n)->¬a.states.length<1->sB a=if cH (eW a) a.states.length≠0 then cH (eW a) a.states.length else if j6 a=true then 0 else 21:=λh h'=>by
  unfold sB;rw[if_neg h,if_neg (by omega)]
 by_cases c0:a.n<1\/5<a.n
 ·rw[e0 c0];have zz:=@PE;repeat' (first|refine zW ?_|apply a_n|apply a_r|refine zO ?_|refine vZ ?_|refine bxZ ?_|refine gTZ ?_|refine gFZ ?_|refine cTZ ?_|(refine zGZ ?_ ?_<;>(intro _hg;try (exfalso;omega)))|refine bk rfl ?_|refine r1Z ?_|fail)
  all_goals exact aA rfl
 by_cases c1:a.states.length<1
 ·rw[e1 c0 c1];refine wnZ @PE ?_;exact aA rfl
 rw[e2 c0 c1];have hok:∀i,eW a i=0->(∀m∈a.st i,MvOk a m):=λi h=>(zX h).2.1;have hst:∀s,s<a.states.length->(a.st s).length≠0->eW a s=cH (mf a (a.st s)) (a.st s).length:=λs _ h=>by unfold eW;rw[if_neg h]
 have hst0:∀s,s<a.states.length->(a.st s).length=0->eW a s=19:=λs _ h=>by unfold eW;rw[if_pos h]
 refine wnZ @PE ?_;refine fS (X:=Nat) (λs=>[(1,.ptr 0 2 0),(3,.int .i64 s)]) (λs=>s<=a.states.length/\∀i,i<s->eW a i=0) (λs=>a.states.length-s) 0 ⟨bz _,λi hi=>absurd hi (Nat.not_lt_zero _)⟩ (by simp (disch:=omega) only[agr,ZG,reduceEqDiff,↓reduceIte,SL]) ?_;rintro s ⟨s1,s2⟩;by_cases hs:s<a.states.length
 rotate_left
 ·have hz:∀i,i<a.states.length->eW a i=0:=λi hi=>s2 i (by omega);rw[if_neg λq=>q (dC hz)]
  have hg:=hgr (fun l hl=>by
   obtain⟨i,hi,rfl⟩:=mM hl;have:=hok i (hz i hi)
   rwa [show a.st i=a.states[i] by simp[AdvV.st,List.getD,hi]] at this) (by omega)
  cases hgv:j6 a with
  |true=>
   rw[hgv] at hg;refine wnZ @PE ?_;exact aA (by rw[if_pos rfl])
  |false=>
   rw[hgv] at hg;refine wnZ @PE ?_;exact aA (by rw[if_neg (by decide)])
 have hstop:∀{c:Int}{H:Hp},eW a s=c->c≠0->Snap H (.int .i64 c) (.int .i64 (if cH (eW a) a.states.length≠0 then cH (eW a) a.states.length else if j6 a=true then 0 else 21)):=λ{c H} q1 q2=>by
  have:=AD hs s2 q1 q2;exact aA (by rw[this,if_pos q2])
 have hgo:eW a s=0->∀i,i<s+1->eW a i=0:=Gv s2;have ix:=zu hs;have hmvl:=λi hi hl=>hmv (a.states.getD s default) i hi hl;have hl2:=h2 _ (au (l:=a.states) hs);have q1:=hst s hs;have q2:=hst0 s hs;rw[<-oM] at q1 q2;have hd2:=jO (a.states.getD s default);generalize a.states.getD s default=l at *;by_cases h0:l.length=0
 ·refine wnZ (aI @PE @ix) ?_;exact hstop (q2 h0) (by decide)
 have q3:=q1 h0;refine wnZ (aI @PE @ix) ?_;refine fS (X:=Nat) (λk=>[(1,.ptr 0 2 0),(3,.int .i64 s),(4,.int .i64 k)]) (λk=>k<=l.length/\∀i,i<k->mf a l i=0) (λk=>l.length-k) 0 ⟨bz _,λi hi=>absurd hi (Nat.not_lt_zero _)⟩ ag0 ?_;rintro k ⟨k1,k2⟩;by_cases hk:k<l.length
 rotate_left
 ·refine wnZ (aI @PE @ix) ?_;exact⟨s+1,⟨by omega,hgo (by rw[q3];exact dC λi hi=>k2 i (by omega))⟩,by omega,ag0,rfl,rfl⟩
 have hm:=hmvl k hk (by omega);have hms:mf a l k≠0->eW a s=mf a l k:=λh=>by rw[q3];exact dN hk k2 h
 have hmg:mf a l k=0->∀i,i<k+1->mf a l i=0:=Gv k2;generalize mf a l k=e at *;have zz:=aI @PE @ix;repeat' (first|refine zW ?_|refine zM ?_|apply a_n|apply a_r|refine zO ?_|refine vZ ?_|refine cZ ?_ (hp:=hm)|(refine zGZ ?_ ?_<;>(intro _hg;try (exfalso;omega)))|refine bk rfl ?_|refine r1Z ?_|fail)
 ·exact hstop (hms _hg) _hg
 ·exact⟨k+1,⟨by omega,hmg (by omega)⟩,by omega,ag0,rfl,rfl⟩
end
end Go.Proofs.YtmpcledaoigkaaaGreat
namespace Go.Proofs.YtmpcledaoigkaaaGreat
open Go Go.Abs
open Nat (reduceEqDiff reduceAdd reduceLeDiff)
theorem mA{α:Type}[Inhabited α]{l:List α}{p:α->Bool}{k:Nat}(hk:k<l.length)(h:∀i,i<k->p (l.getD i default)=false)(hv:p (l.getD k default)=true):l.any p=true/\l.findIdx p=k:=by
 have e:l.getD k default=l[k]:=by simp[List.getD,hk]
 refine⟨lu.2 ⟨l[k],mJ hk,by rw[<-e];exact hv⟩,(List.findIdx_eq hk).2 ⟨by rw[<-e];exact hv,λj hj=>by have:=h j hj;rwa [show l.getD j default=l[j] by simp[List.getD,show j<l.length by omega]] at this⟩⟩
theorem C7{l:Spx}{j:Nat}(h:j<l.length):(l.drop j).getD 0 default=l.getD j default:=by simp[List.getD,ka]
theorem A7{l:Spx}{v:Vtx}(h:∀i,i<l.length->l.getD i default≠v):v∉l:=λhm=>by
 obtain⟨i,hi,e⟩:=mM hm;exact h i hi (by simp[List.getD,hi,e])
theorem cP{α:Type}[Inhabited α]{l:List α}{i:Nat}(h:i<l.length):l.getD i default∈l:=au h
section
attribute [local irreducible] aE ai be aP aJ aK ay aL aR bn Go.Abs.Fn aO Go.Abs.Pure ak aD Yl
section
theorem Ee(l:Spx)(p:Vtx->Bool)(g:Nat)(caps:List AV)(hd:∀x∈caps,Dat x)(hg:∀x∈l,pU g (dL x::caps) (.bool (p x)))(hl:Shn l):pU 31 [aG l,.func g caps] (.int .i64 (if l.any p then(l.findIdx p:Nat) else-1)):=by
 refine pO PG ?_;simp only[b31,aw];have hl':l.length<=17592186044416:=hl;have zz:=@aS;repeat' (first|refine zW ?_|apply a_n|refine zO ?_|refine vZ ?_|fail)
 refine bj (X:=Nat) (λk=>[(0,aG l),(1,.func g caps),(6,aG l),(7,.int .i64 l.length),(8,.int .i64 k)]) (λk H nx=>k<=l.length/\∀i,i<k->p (l.getD i default)=false) (λk=>l.length-k) 0 ⟨bz _,λi h=>absurd h (by omega)⟩ ag0 ?_;rintro k H nx ⟨hk,hz⟩;by_cases hk2:k<l.length
 rotate_left
 ·rw[lD λi hi=>hz i (by omega),if_neg (by decide)]
  repeat' (first|refine zW ?_|apply a_n|apply a_x|refine zO ?_|refine vY ?_|(refine zGY ?_ ?_<;>(intro _hg;try (exfalso;omega)))|refine bk rfl ?_|refine r1Y ?_|fail)
  exact aA rfl
 have ix:=ix2 hk2;have hc:=hg _ (au hk2);cases hp:p (l.getD k default)
 ·rw[hp] at hc;clear zz;have zz:=@ix;repeat' (first|refine zW ?_|apply a_n|refine zO ?_|refine vY ?_|(refine zGY ?_ ?_<;>(intro _hg;try (exfalso;omega)))|fail)
  refine ec ev0 ev0 hc (aQ (af (nj _ _) (a9 hd))) ?_
  repeat' (first|apply a_n|refine zO ?_|refine vY ?_|refine cFY ?_|fail)
  exact ⟨k + 1,by omega,⟨by omega,fun i hi=>by
   rcases ij.1 hi with h|rfl
   ·exact hz i h
   ·exact hp⟩,ag0⟩
 ·rw[hp] at hc;obtain⟨e1,e2⟩:=mA hk2 hz hp;rw[e1,e2,if_pos rfl];clear zz;have zz:=@ix;repeat' (first|refine zW ?_|apply a_n|refine zO ?_|refine vY ?_|(refine zGY ?_ ?_<;>(intro _hg;try (exfalso;omega)))|fail)
  refine ec ev0 ev0 hc (aQ (af (nj _ _) (a9 hd))) ?_
  repeat' (first|refine zW ?_|apply a_n|apply a_r|refine zO ?_|refine vY ?_|refine cTY ?_|refine bk rfl ?_|refine r1Y ?_|fail)
  exact .int _ _
theorem pZ(l:Spx)(p:Vtx->Bool)(g:Nat)(caps:List AV)(hd:∀x∈caps,Dat x)(hg:∀x∈l,pU g (dL x::caps) (.bool (p x)))(hl:Shn l):pU 9 [aG l,.func g caps] (.bool (l.any p)):=by
 refine pO is9 ?_;simp only[b9,aw];have h:=Ee l p g caps hd hg hl
 repeat' (first|refine zW ?_|apply a_n|refine zO ?_|refine vZ ?_|refine cZ ?_ (hp:=h) (hs:=by(first|refine aC ?_ rfl|apply aQ);(repeat' (first|exact aj|apply bB|apply a8|exact bT _|exact Dat.func hd));first|done|fail)|refine bk rfl ?_|refine r1Z ?_|fail)
 cases hA:l.any p
 ·exact cf (by simp)
 ·exact cf (by simp)
theorem EP(l:Spx)(v:Vtx)(hl:Shn l):∃r:Int,pU 32 [aG l,dL v] (.int .i64 r)/\decide (0<=r)=decide (v∈l):=by
 have hl':l.length<=17592186044416:=hl;have hn:l.findIdx (λx=>decide (x=v))=l.findIdx (λx=>decide (x=v)):=rfl;refine⟨if l.any (λx=>decide (x=v)) then(l.findIdx (λx=>decide (x=v)):Nat) else-1,?_,?_⟩
 rotate_left
 ·by_cases hm:v∈l
  ·rw[if_pos (lu.2 ⟨v,hm,by simp⟩),bG hm];simp
  ·rw[if_neg,bK hm]
   ·rfl
   ·rw[lu];rintro⟨x,hx,e⟩;exact hm ((pG e)▸hx)
 refine pO Ov ?_;simp only[b32,aw];have zz:=@aS;repeat' (first|refine zW ?_|apply a_n|refine zO ?_|refine vZ ?_|refine bxZ ?_|fail)
 refine lpI (X:=Nat) (λk=>[(0,aG l),(3,.ptr 0 2 0),(6,aG l),(7,.int .i64 l.length),(8,.int .i64 k)]) (λk H nx=>k<=l.length/\H 0=some [.int .i64 v.color,.int .i64 v.label]/\∀i,i<k->decide (l.getD i default=v)=false) (λk=>l.length-k) 0 ⟨bz _,rfl,λi h=>absurd h (by omega)⟩ ?_;rintro k H nx ⟨hk,g0,hz⟩;by_cases hk2:k<l.length
 rotate_left
 ·rw[lD λi hi=>hz i (by omega),if_neg (by decide)]
  repeat' (first|refine zW ?_|apply a_n|apply a_x|refine zO ?_|refine vY ?_|(refine zGY ?_ ?_<;>(intro _hg;try (exfalso;omega)))|refine bk rfl ?_|refine r1Y ?_|fail)
  exact aA rfl
 have ix:=ix2 hk2;have hd:=tc v (l.getD k default);cases hp:decide (l.getD k default=v)
 ·rw[bK (p:=v=l.getD k default) (λh=>of_decide_eq_false hp h.symm)] at hd;clear zz;have zz:=aI @ix (aI @g0 (aI @acq @hd));repeat' (first|refine zW ?_|apply a_n|refine zO ?_|refine vY ?_|refine cFY ?_|(refine zGY ?_ ?_<;>(intro _hg;try (exfalso;omega)))|fail)
  exact ⟨k + 1,by omega,⟨by omega,g0,fun i hi=>by
   rcases ij.1 hi with h|rfl
   ·exact hz i h
   ·exact hp⟩,ag0⟩
 ·rw[bG (p:=v=l.getD k default) (pG hp).symm] at hd;obtain⟨e1,e2⟩:=mA (p:=λx=>decide (x=v)) hk2 hz hp;rw[e1,e2,if_pos rfl];clear zz;have zz:=aI @ix (aI @g0 (aI @acq @hd));repeat' (first|refine zW ?_|apply a_n|apply a_r|refine zO ?_|refine vY ?_|refine cTY ?_|(refine zGY ?_ ?_<;>(intro _hg;try (exfalso;omega)))|refine bk rfl ?_|refine r1Y ?_|fail)
  exact .int _ _
theorem rZ(l:Spx)(v:Vtx)(hl:Shn l):pU 11 [aG l,dL v] (.bool (decide (v∈l))):=by
 refine pO O4 ?_;simp only[b11,aw];obtain⟨r,h,e⟩:=EP l v hl
 repeat' (first|refine zW ?_|apply a_n|refine zO ?_|refine vZ ?_|refine cZ ?_ (hp:=h) (hs:=by(first|refine aC ?_ rfl|apply aQ);(repeat' (first|exact aj|apply bB|apply a8|exact bT _|exact nj _));first|done|fail)|refine bxZ ?_|refine bk rfl ?_|refine r1Z ?_|fail)
 exact cf e
theorem zL(x y:Spx)(hx:Shn x)(hy:Shn y):pU 123 [aG x,aG y] (.bool (decide (x=y))):=by
 refine pO L8 ?_;simp only[Oe,aw];have hx':x.length<=17592186044416:=hx;have hy':y.length<=17592186044416:=hy;by_cases hlen:x.length=y.length
 rotate_left
 ·have z:decide ((x.length:Int)≠y.length)=true:=bG (by omega);rw[bK (λe=>hlen (by rw[e]))];refine wnZ (aI @aS @z) ?_;exact .bool _
 have z:decide ((x.length:Int)≠y.length)=false:=bK (by omega);refine wnZ (aI @aS @z) ?_;refine qo (λk=>[(0,aG x),(1,aG y),(11,aG x),(12,.int .i64 x.length),(13,.int .i64 k)]) x.length (λk=>x.getD k default=y.getD k default) ag0 ?_;intro k hk hz;by_cases hk2:k<x.length
 rotate_left
 ·refine wnZ and_self ?_;refine cf ?_
  symm;rw[Im]
  refine List.ext_getElem hlen λi h3 h4=>?_;have:=hz i (by omega);simpa[List.getD,h3,h4] using this
 have ix:=ix2 hk2;have iy:=ix2 (l:=y) (k:=k) (by omega);have hd:=tc (x.getD k default) (y.getD k default);by_cases he:x.getD k default=y.getD k default
 ·rw[bG he] at hd;refine wnZ (zI4 @ix @iy @acn @hd) ?_;exact⟨hk2,he,ag0,rfl,rfl⟩
 ·rw[bK he] at hd;rw[bK (p:=x=y) (λe=>he (by rw[e]))];refine wnZ (zI4 @ix @iy @acn @hd) ?_;exact .bool _
end
theorem Kr(a b:Spx)(ha:fM eB a)(hb:fM eB b)(la:a.length<=1000000)(lb:b.length<=1000000):pU 104 [aG a,aG b] (.bool (kw a b)):=by
 refine pO LQ ?_;simp only[N0,aw];refine wnZ @aS ?_;refine bj (X:=Nat×Nat) (λx=>[(1,aG (b.drop x.2)),(7,aG a),(8,.int .i64 a.length),(9,.int .i64 x.1)]) (λx H nx=>x.1<=a.length/\x.2<=b.length/\(∀i,i<x.1->decide (a.getD i default∈b)=true)/\∀i m,i<x.2->x.1<=m->m<a.length->b.getD i default≠a.getD m default) (λx=>a.length-x.1) (0,0) ⟨bz _,bz _,λi h=>absurd h (by omega),λi m h=>absurd h (by omega)⟩ (by simp (disch:=omega) only[agr,ZG,reduceEqDiff,↓reduceIte,List.drop_zero]) ?_;rintro⟨k,j⟩ H nx ⟨h1,h2,h3,h4⟩;dsimp only at h1 h2 h3 h4 |-;by_cases hk:k<a.length
 rotate_left
 ·refine wnY and_self ?_;exact cf (lh λi hi=>h3 i (by omega)).symm
 have ix:=ix2 hk;have hlt:∀m,k<m->m<a.length->eB (a.getD k default) (a.getD m default)<0:=λm h5 h6=>mQ ha h5 h6;have hkm:∀j',(∀i,i<j'->b.getD i default≠a.getD k default)->b.length<=j'->decide (a.getD k default∈b)=false:=λj' h5 h6=>bK (A7 λi hi=>h5 i (by omega));have hall:decide (a.getD k default∈b)=false->kw a b=false:=λh=>iK hk h;have hdec:=λi=>tc (b.getD i default) (a.getD k default);have h40:=λi hi=>h4 i k hi (aZ _) hk;generalize hv:a.getD k default=v at *;refine wnY @ix ?_;refine bj (X:=Nat) (λj'=>[(1,aG (b.drop j')),(6,.ptr nx 2 0),(7,aG a),(8,.int .i64 a.length),(9,.int .i64 k)]) (λj' H' nx'=>j'<=b.length/\H' nx=some [.int .i64 v.color,.int .i64 v.label]/\nx<nx'/\∀i,i<j'->b.getD i default≠v) (λj'=>b.length-j') j ⟨h2,by rw[ac];rfl,by omega,h40⟩ (by simp (disch:=omega) only[agr,ZG,reduceEqDiff,↓reduceIte,dJ,hZ,cp,reduceAdd]) ?_;rintro j' H' nx' ⟨k1,g0,hnx,k2⟩;have hlen:(b.drop j').length=b.length-j':=sH ..;by_cases hj:j'<b.length
 rotate_left
 ·have z1:decide (0<((b.drop j').length:Int))=false:=bK (by omega);have z2:decide (((b.drop j').length:Int)=0)=true:=bG (by omega);rw[hall (hkm j' k2 (by omega))];refine wnY (zI3 @aS @z1 @z2) ?_;exact .bool _
 have z1:decide (0<((b.drop j').length:Int))=true:=bG (by omega);have z2:decide (((b.drop j').length:Int)=0)=false:=bK (by omega);have iy:=ix2 (l:=b.drop j') (k:=0) (by omega);rw[C7 hj,show((0:Nat):Int)=0 from rfl] at iy;have hd:=hdec j';by_cases he:b.getD j' default=v
 ·rw[bG he] at hd;refine wnY (zI7 @aS @z1 @z2 @iy @g0 @acn @hd) ?_;refine⟨(k+1,j'),by dsimp only;omega,⟨by dsimp only;omega,by dsimp only;omega,λi hi=>?_,λi m h5 h6 h7 e=>?_⟩,ag0⟩
  ·rcases ij.1 hi with h'|rfl
   ·exact h3 i h'
   ·rw[hv,<-he];exact bG (cP hj)
  ·have q1:=mQ hb h5 hj;have q2:=hlt m (by dsimp only at h6;omega) h7;rw[e,he] at q1;exact Iq.ord.asym _ _ q1 q2
 ·rw[bK he] at hd
  have hs:kC 2 (aG (b.drop j')) (some (.int .i64 1)) none none=some (aG (b.drop (j'+1))):=by
   have:=xq (sz:=2) (f:=dL) (l:=b.drop j') (k:=1) (by omega);rw[List.drop_drop] at this;exact this
  refine wnY (zI8 @aS @z1 @z2 @iy @g0 @acn @hd @hs) ?_
  exact ⟨j' + 1,by omega,⟨by omega,g0,hnx,fun i hi=>by
   rcases ij.1 hi with h'|rfl
   ·exact k2 i h'
   ·exact he⟩,ag0⟩
end
end Go.Proofs.YtmpcledaoigkaaaGreat
namespace Go.Proofs.YtmpcledaoigkaaaGreat
open Go Go.Abs
structure Cmp{α:Type}(P:Program)(f:α->AV)(K:α->α->Int)(G:α->Prop)(g:Nat)(caps:List AV):Prop where
 cells:∀x,(f x).cells=[f x]
 one:∀x,(f x).one=true
 dat:∀x,Dat (f x)
 dcaps:∀x∈caps,Dat x
 run:∀x y,G x->G y->Go.Abs.Pure P g (f x::f y::caps) (.int .i64 (K x y))
 ord:Ord K
theorem kO{α:Type}{f:α->AV}{l:List α}{k:Nat}{x:α}(h:k<l.length):bE (l.map f) k [f x]=(l.set k x).map f:=by
 simp only[bE,List.map_set,dJ,hZ,cp];rw[List.set_eq_take_append_cons_drop,if_pos (by simpa using h)];simp
theorem bf(H:Hp)(b:Nat)(x y:List AV):ar (ar H b x) b y=ar H b y:=by
 funext i;unfold ar;split<;>rfl
theorem l6{H:Hp}{b:Nat}{cs:List AV}(h:H b=some cs):H=ar H b cs:=by
 funext i
 by_cases e:i=b
 ·subst e;rw[ac,h]
 ·rw[ab e]
def iZ{α:Type}[Inhabited α](K:α->α->Int)(a i j:Nat)(M:List α):Prop:=∀p q,a<=p->p<q->q<=i->q≠j->¬K (M.getD q default) (M.getD p default)<0
section
variable{α:Type}[Inhabited α]{f:α->AV}{K:α->α->Int}{G:α->Prop}{g:Nat}{caps:List AV}
theorem iZ.start{a i:Nat}{M:List α}(h:bA K a i M):iZ K a i i M:=λp q h1 h2 h3 h4=>h p q h1 h2 (by omega)
theorem iZ.done{a i j:Nat}{M:List α}(hK:Ord K)(h:iZ K a i j M)(hj:j=a\/(a<j/\¬K (M.getD j default) (M.getD (j-1) default)<0)):bA K a (i+1) M:=by
 intro p q h1 h2 h3;by_cases e:q=j
 ·subst e;rcases hj with hj|⟨hj,hk⟩
  ·omega
  ·by_cases e2:p=q-1
   ·rw[e2];exact hk
   ·exact hK.negtr _ _ _ (h p (q-1) h1 (by omega) (by omega) (by omega)) hk
 ·exact h p q h1 h2 (by omega) e
theorem iZ.step{a i j:Nat}{M:List α}(hK:Ord K)(h:iZ K a i (j+1) M)(haj:a<=j)(hji:j+1<=i)(hi:i<M.length)(hk:K (M.getD (j+1) default) (M.getD j default)<0):iZ K a i j (swp M (j+1) j):=by
 intro p q h1 h2 h3 h4;rw[fC (by omega) (by omega),fC (by omega) (by omega)];rw[if_neg h4];by_cases e1:q=j+1
 ·rw[if_pos e1];by_cases e2:p=j
  ·rw[if_pos e2];exact hK.asym _ _ hk
  ·rw[if_neg e2,if_neg (by omega)];exact h p j h1 (by omega) (by omega) (by omega)
 ·rw[if_neg e1];by_cases e2:p=j
  ·rw[if_pos e2];exact h (j+1) q (by omega) (by omega) h3 e1
  ·rw[if_neg e2];by_cases e3:p=j+1
   ·rw[if_pos e3];exact h j q (by omega) (by omega) h3 e1
   ·rw[if_neg e3];exact h p q h1 h2 h3 e1
theorem bA.mono{a b a' b':Nat}{M:List α}(h:bA K a b M)(h1:a<=a')(h2:b'<=b):bA K a' b' M:=λp q k1 k2 k3=>h p q (by omega) k2 (by omega)
theorem PermR.mem{a b:Nat}{L M:List α}(h:PermR a b L M)(hG:∀x∈L,G x):∀x∈M,G x:=λx hx=>hG x (h.perm.mem_iff.1 hx)
attribute [local irreducible] aE ai be aP aJ aK ay aL aR bn Go.Abs.Fn aO Go.Abs.Pure ak aD Yl
theorem MA(hc:Cmp Tryz.prog f K G g caps){L:List α}{H:Hp}{b nx n a e:Nat}(hH:H b=some (L.map f))(hn:L.length=n)(hG:∀x∈L,G x)(hae:a<=e)(hen:e<=n)(hn2:n<=1000000000):
    Abs.Fn Tryz.prog 136 [.msl b n 1 0 n,.int .i64 a,.int .i64 e,.func g caps] H nx λr H' nx'=>nx'=nx/\∃L',H'=ar H b (L'.map f)/\PermR a e L L'/\bA K a e L':=by
 refine fO IV ?_;simp only[Kj,aw];refine wnZ and_self ?_;refine bj (X:=Nat×List α) (λx=>[(0,.msl b n 1 0 n),(1,.int .i64 a),(2,.int .i64 e),(3,.func g caps),(8,.int .i64 (x.1:Nat))]) (λx H' nx'=>a+1<=x.1/\(x.1<=e\/x.1=a+1)/\H'=ar H b (x.2.map f)/\nx'=nx/\PermR a e L x.2/\bA K a x.1 x.2) (λx=>e+1-x.1) (a+1,L) ⟨aZ _,.inr rfl,l6 hH,rfl,.refl,bA.one (aZ _)⟩ ag0 ?_;rintro⟨i,M0⟩ H' nx' ⟨h1,h2,rfl,rfl,hp0,hs0⟩;dsimp only at *;have hl0:M0.length=n:=by rw[hp0.len,hn]
 by_cases hi:i<e
 rotate_left
 ·refine wnZ and_self ?_;exact⟨rfl,M0,rfl,hp0,hs0.mono (aZ _) (by omega)⟩
 refine wnZ and_self ?_;refine bj (X:=Nat×List α) (λx=>[(0,.msl b n 1 0 n),(1,.int .i64 a),(2,.int .i64 e),(3,.func g caps),(8,.int .i64 (i:Nat)),(9,.int .i64 (x.1:Nat))]) (λx H' nxx=>a<=x.1/\x.1<=i/\H'=ar H b (x.2.map f)/\nxx=nx'/\PermR a e L x.2/\iZ K a i x.1 x.2) (λx=>x.1) (i,M0) ⟨by omega,aZ _,rfl,rfl,hp0,.start hs0⟩ ag0 ?_;clear hp0 hs0 hl0;rintro⟨j,M⟩ H' nxx ⟨a1,a2,rfl,rfl,hp,hal⟩;dsimp only at *;have hl:M.length=n:=by rw[hp.len,hn]
 have hGM:=hp.mem hG;by_cases hja:j=a
 ·subst hja;refine wkZ and_self ?_;exact⟨(i+1,M),by dsimp only;omega,⟨by dsimp only;omega,.inl (by dsimp only;omega),rfl,rfl,hp,hal.done hc.ord (.inl rfl)⟩,ag0⟩
 ·obtain⟨k,rfl⟩:∃k,j=k+1:=⟨j-1,by omega⟩
  have tj:((k+1:Nat):Int)-1=(k:Int):=by omega
  have lc:=hc.run (M.getD (k+1) default) (M.getD k default) (hGM _ (au (by omega))) (hGM _ (au (by omega)));have d1:=hc.dat (M.getD (k+1) default);have d2:=hc.dat (M.getD k default);have dcap:=hc.dcaps;generalize hKK:K (M.getD (k+1) default) (M.getD k default)=kk at lc;by_cases hlt:kk<0
  ·obtain⟨M1,hl1,lm1,lm2⟩:∃M1:List α,M1.length=n/\bE (M.map f) (k+1) [f (M.getD k default)]=M1.map f/\bE (M1.map f) k [f (M.getD (k+1) default)]=(swp M (k+1) k).map f:=
     ⟨M.set (k+1) (M.getD k default),by simp[hl],kO (by omega),by rw[kO (by simp;omega)];rfl⟩
   have lm3:=lm2;simp only[bE,dJ,hZ,cp] at lm1 lm2;have zz:=aI @tj (aI @bQ (aI @lm1 (aI @lm2 (aI hc.cells hc.one))));repeat' (first|refine zW ?_|refine zM ?_|apply a_n|refine zO ?_|refine vZ ?_|refine cZ ?_ (hp:=lc) (hs:=by(first|refine aC ?_ rfl|apply aQ);(repeat' (first|exact aj|apply bB|apply a8|exact d1|exact d2|exact a9 dcap));first|done|fail)|refine stZ ?_|refine gTZ ?_|(refine zGZ ?_ ?_<;>(intro _hg;try (exfalso;omega)))|fail)
   refine⟨(k,swp M (k+1) k),by dsimp only;omega,⟨by dsimp only;omega,by dsimp only;omega,?_,rfl,hp.trans (PermR.swap (by omega) (by omega) (by omega)),hal.step hc.ord (by omega) (by omega) (by omega) (by rw[hKK];exact hlt)⟩,(have zz:=@tj;agZ)⟩;dsimp only;rw[bf,bf,lm3]
  ·have zz:=aI @tj (aI @bQ (aI hc.cells hc.one));repeat' (first|refine zW ?_|refine zM ?_|apply a_n|apply a_x|refine zO ?_|refine vZ ?_|refine cZ ?_ (hp:=lc) (hs:=by(first|refine aC ?_ rfl|apply aQ);(repeat' (first|exact aj|apply bB|apply a8|exact d1|exact d2|exact a9 dcap));first|done|fail)|refine gTZ ?_|(refine zGZ ?_ ?_<;>(intro _hg;try (exfalso;omega)))|fail)
   exact⟨(i+1,M),by dsimp only;omega,⟨by dsimp only;omega,.inl (by dsimp only;omega),rfl,rfl,hp,hal.done hc.ord (.inr ⟨by omega,by rw[uC,hKK];exact hlt⟩)⟩,ag0⟩
end
end Go.Proofs.YtmpcledaoigkaaaGreat
namespace Go.Proofs.YtmpcledaoigkaaaGreat
open Go Go.Abs
def Kid(p c:Nat):Prop:=c=2*p+1\/c=2*p+2
def jA{α:Type}[Inhabited α](K:α->α->Int)(a hi r:Nat)(M:List α):Prop:=∀p c,r<=p->Kid p c->c<hi->¬K (M.getD (a+p) default) (M.getD (a+c) default)<0
structure SiftR{α:Type}[Inhabited α](K:α->α->Int)(a hi lo root:Nat)(M:List α):Prop where
 le:lo<=root
 heap:∀p c,lo<=p->p≠root->Kid p c->c<hi->¬K (M.getD (a+p) default) (M.getD (a+c) default)<0
 up:∀q c,lo<=q->Kid q root->Kid root c->c<hi->¬K (M.getD (a+q) default) (M.getD (a+c) default)<0
section
variable{α:Type}[Inhabited α]{f:α->AV}{K:α->α->Int}{G:α->Prop}{g:Nat}{caps:List AV}
theorem SiftR.start{a hi lo:Nat}{M:List α}(h:jA K a hi (lo+1) M):SiftR K a hi lo lo M:=
 ⟨aZ _,λp c h1 h2=>h p c (by omega),λq c h1 h2=>by unfold Kid at h2;omega⟩
theorem SiftR.leaf{a hi lo root:Nat}{M:List α}(h:SiftR K a hi lo root M)(hr:hi<=2*root+1):jA K a hi lo M:=λp c h1 h2 h3=>by
 by_cases e:p=root
 ·subst e;unfold Kid at h2;omega
 ·exact h.heap p c h1 e h2 h3
theorem SiftR.stop{a hi lo root c:Nat}{M:List α}(hK:Ord K)(h:SiftR K a hi lo root M)(hb:∀d,Kid root d->d<hi->¬K (M.getD (a+c) default) (M.getD (a+d) default)<0)(hn:¬K (M.getD (a+root) default) (M.getD (a+c) default)<0):jA K a hi lo M:=λp d h1 h2 h3=>by
 by_cases e:p=root
 ·subst e;exact hK.negtr _ _ _ (hb d h2 h3) hn
 ·exact h.heap p d h1 e h2 h3
theorem SiftR.step{a hi lo root c:Nat}{M:List α}(hK:Ord K)(h:SiftR K a hi lo root M)(hkid:Kid root c)(hc:c<hi)(hM:a+hi<=M.length)(hb:∀d,Kid root d->d<hi->¬K (M.getD (a+c) default) (M.getD (a+d) default)<0)(hn:K (M.getD (a+root) default) (M.getD (a+c) default)<0):SiftR K a hi lo c (swp M (a+root) (a+c)):=by
 have hrc:root<c:=by unfold Kid at hkid;omega
 have hg:∀k,(swp M (a+root) (a+c)).getD (a+k) default=if k=c then M.getD (a+root) default else if k=root then M.getD (a+c) default else M.getD (a+k) default:=λk=>by
  rw[fC (by omega) (by omega)];by_cases e:k=c
  ·rw[if_pos (by omega),if_pos e]
  ·rw[if_neg (by omega),if_neg e];by_cases e2:k=root
   ·rw[if_pos (by omega),if_pos e2]
   ·rw[if_neg (by omega),if_neg e2]
 refine⟨by have:=h.le;omega,λp d h1 h2 h3 h4=>?_,λq d h1 h2 h3 h4=>?_⟩
 ·rw[hg,hg,if_neg h2];by_cases e1:p=root
  ·rw[if_pos e1];subst e1;by_cases e2:d=c
   ·rw[if_pos e2];exact hK.asym _ _ hn
   ·rw[if_neg e2,if_neg (by unfold Kid at h3;omega)];exact hb d h3 h4
  ·rw[if_neg e1];have hdc:d≠c:=λe=>by subst e;unfold Kid at h3 hkid;omega
   rw[if_neg hdc];by_cases e2:d=root
   ·rw[if_pos e2];subst e2;exact h.up p c h1 h3 hkid hc
   ·rw[if_neg e2];exact h.heap p d h1 e1 h3 h4
 ·have eq:q=root:=by unfold Kid at h2 hkid;omega
  subst eq;rw[hg,hg,if_neg (by omega),if_pos rfl,if_neg (by unfold Kid at h3;omega),if_neg (by unfold Kid at h3;omega)];exact h.heap c d (by omega) (by omega) h3 h4
theorem eC{M:List α}{i j:Nat}(hi:i<M.length)(hj:j<M.length):∃M1:List α,M1.length=M.length/\bE (M.map f) i [f (M.getD j default)]=M1.map f/\bE (M1.map f) j [f (M.getD i default)]=(swp M i j).map f:=
 ⟨M.set i (M.getD j default),by simp,kO hi,by rw[kO (by simpa using hj)];rfl⟩
theorem iR{a c:Nat}:((a:Int)+(c:Int)).toNat=a+c:=by omega
theorem rk{a c:Nat}:((a:Int)+(c:Int)+1).toNat=a+(c+1):=by omega
attribute [local irreducible] aE ai be aP aJ aK ay aL aR bn Go.Abs.Fn aO Go.Abs.Pure ak aD Yl
theorem GD(hc:Cmp Tryz.prog f K G g caps){L:List α}{H:Hp}{b nx n a lo hi:Nat}(hH:H b=some (L.map f))(hn:L.length=n)(hG:∀x∈L,G x)(hhi:a+hi<=n)(hn2:n<=1000000000)(hlo:lo<=n)(hheap:jA K a hi (lo+1) L):
    Abs.Fn Tryz.prog 158 [.msl b n 1 0 n,.int .i64 lo,.int .i64 hi,.int .i64 a,.func g caps] H nx λr H' nx'=>nx'=nx/\∃L',H'=ar H b (L'.map f)/\PermR a (a+hi) L L'/\jA K a hi lo L':=by
 refine fO MB ?_;simp only[NP,aw];refine wnZ and_self ?_;refine bj (X:=Nat×List α) (λx=>[(0,.msl b n 1 0 n),(2,.int .i64 hi),(3,.int .i64 a),(4,.func g caps),(10,.int .i64 (x.1:Nat))]) (λx H' nx'=>x.1<=n/\H'=ar H b (x.2.map f)/\nx'=nx/\PermR a (a+hi) L x.2/\SiftR K a hi lo x.1 x.2) (λx=>n+1-x.1) (lo,L) ⟨hlo,l6 hH,rfl,.refl,.start hheap⟩ ag0 ?_;rintro⟨root,M⟩ H' nx' ⟨h0,rfl,rfl,hp,hs⟩;dsimp only at *;have hl:M.length=n:=by rw[hp.len,hn]
 have hGM:=hp.mem hG;by_cases hch:2*root+1<hi
 rotate_left
 ·refine wnZ and_self ?_;exact⟨rfl,M,rfl,hp,hs.leaf (by omega)⟩
 have dcap:=hc.dcaps;have tch:(2:Int)*(root:Int)+1=((2*root+1:Nat):Int):=by omega
 have tch2:((2*root+1:Nat):Int)+1=((2*root+1+1:Nat):Int):=by omega
 have w1:IntKind.wrap .i64 (2*(root:Int))=2*(root:Int):=iU (by omega) (by omega)
 obtain⟨c,hkid,hchi,hbest,hsel⟩:∃c,Kid root c/\c<hi/\(∀d,Kid root d->d<hi->¬K (M.getD (a+c) default) (M.getD (a+d) default)<0)/\((c=2*root+1+1/\K (M.getD (a+(2*root+1)) default) (M.getD (a+(2*root+1+1)) default)<0)\/(c=2*root+1/\(2*root+1+1<hi->¬K (M.getD (a+(2*root+1)) default) (M.getD (a+(2*root+1+1)) default)<0))):=by
  by_cases h2:2*root+1+1<hi/\K (M.getD (a+(2*root+1)) default) (M.getD (a+(2*root+1+1)) default)<0
  ·refine⟨2*root+1+1,.inr rfl,h2.1,λd hd hd2=>?_,.inl ⟨rfl,h2.2⟩⟩;rcases hd with rfl|rfl
   ·exact hc.ord.asym _ _ h2.2
   ·exact hc.ord.irr _
  ·refine⟨2*root+1,.inl rfl,hch,λd hd hd2=>?_,.inr ⟨rfl,λh h3=>h2 ⟨h,h3⟩⟩⟩;rcases hd with rfl|rfl
   ·exact hc.ord.irr _
   ·exact λh3=>h2 ⟨hd2,h3⟩
 have lc2:=hc.run (M.getD (a+root) default) (M.getD (a+c) default) (hGM _ (au (by omega))) (hGM _ (au (by omega)));have e1:=hc.dat (M.getD (a+root) default);have e2:=hc.dat (M.getD (a+c) default);generalize hK2:K (M.getD (a+root) default) (M.getD (a+c) default)=k2 at lc2;refine lW ?_;refine cS (λT H'' nx''=>T 0=.msl b n 1 0 n/\T 2=.int .i64 hi/\T 3=.int .i64 a/\T 4=.func g caps/\T 10=.int .i64 (root:Nat)/\T 11=.int .i64 ((2*root+1:Nat):Int)/\H''=ar H b (M.map f)/\nx'=nx'') ?_ ?_
 ·refine wnZ (aI @w1 @tch) ?_;exact⟨rfl,rfl,rfl,rfl,rfl,rfl,rfl,rfl⟩
 rintro T _ _ ⟨t0,t2,t3,t4,t10,t11,rfl,rfl⟩;refine cS (λT H'' nx''=>T 0=.msl b n 1 0 n/\T 2=.int .i64 hi/\T 3=.int .i64 a/\T 4=.func g caps/\T 10=.int .i64 (root:Nat)/\T 11=.int .i64 ((2*root+1:Nat):Int)/\H''=ar H b (M.map f)/\nx'=nx'') ?_ ?_
 ·refine wnZ (zI6 @t0 @t2 @t3 @t4 @t10 @t11) ?_
  all_goals exact⟨(have zz:=@t0;evZ),(have zz:=@t2;evZ),(have zz:=@t3;evZ),(have zz:=@t4;evZ),(have zz:=@t10;evZ),(have zz:=@t11;evZ),rfl,rfl⟩
 clear t0 t2 t3 t4 t10 t11;rintro T _ _ ⟨t0,t2,t3,t4,t10,t11,rfl,rfl⟩;refine cS (λT H'' nx''=>T 0=.msl b n 1 0 n/\T 2=.int .i64 hi/\T 3=.int .i64 a/\T 4=.func g caps/\T 10=.int .i64 (root:Nat)/\T 11=.int .i64 (c:Nat)/\H''=ar H b (M.map f)/\nx'=nx'') ?_ ?_
 ·by_cases h2:2*root+1+1<hi
  ·have lc1:=hc.run (M.getD (a+(2*root+1)) default) (M.getD (a+(2*root+1+1)) default) (hGM _ (au (by omega))) (hGM _ (au (by omega)));have e3:=hc.dat (M.getD (a+(2*root+1)) default);have e4:=hc.dat (M.getD (a+(2*root+1+1)) default);generalize hK1:K (M.getD (a+(2*root+1)) default) (M.getD (a+(2*root+1+1)) default)=k1 at lc1 hsel;have hlt:decide (((2*root+1+1:Nat):Int)<(hi:Int))=true:=bG (by omega);generalize 2*root+1=ch at *;rcases hsel with⟨rfl,hk1⟩|⟨rfl,hk1⟩
   ·have zz:=aI @t0 (aI @t2 (aI @t3 (aI @t4 (aI @t10 (aI @t11 (aI @tch2 (aI @hlt (aI @iR (aI @rk (aI hc.cells hc.one))))))))));repeat' (first|refine zW ?_|refine zM ?_|apply a_n|refine zO ?_|refine vZ ?_|refine cZ ?_ (hp:=lc1) (hs:=by(first|refine aC ?_ rfl|apply aQ);(repeat' (first|exact aj|apply bB|apply a8|exact e3|exact e4|exact a9 dcap));first|done|fail)|refine gTZ ?_|(refine zGZ ?_ ?_<;>(intro _hg;try (exfalso;omega)))|fail)
    all_goals exact⟨(have zz:=@t0;evZ),(have zz:=@t2;evZ),(have zz:=@t3;evZ),(have zz:=@t4;evZ),(have zz:=@t10;evZ),(have zz:=@t11;evZ),rfl,rfl⟩
   ·have hk1:=hk1 h2;have zz:=aI @t0 (aI @t2 (aI @t3 (aI @t4 (aI @t10 (aI @t11 (aI @tch2 (aI @hlt (aI @iR (aI @rk (aI hc.cells hc.one))))))))));repeat' (first|refine zW ?_|refine zM ?_|apply a_n|refine zO ?_|refine vZ ?_|refine cZ ?_ (hp:=lc1) (hs:=by(first|refine aC ?_ rfl|apply aQ);(repeat' (first|exact aj|apply bB|apply a8|exact e3|exact e4|exact a9 dcap));first|done|fail)|refine gTZ ?_|(refine zGZ ?_ ?_<;>(intro _hg;try (exfalso;omega)))|fail)
    all_goals exact⟨(have zz:=@t0;evZ),(have zz:=@t2;evZ),(have zz:=@t3;evZ),(have zz:=@t4;evZ),(have zz:=@t10;evZ),(have zz:=@t11;evZ),rfl,rfl⟩
  ·have hlt:decide (((2*root+1+1:Nat):Int)<(hi:Int))=false:=bK (by omega)
   have hcc:c=2*root+1:=by
    rcases hsel with⟨rfl,_⟩|⟨rfl,_⟩
    ·omega
    ·rfl
   subst hcc;refine wkZ (zI8 @t0 @t2 @t3 @t4 @t10 @t11 @tch2 @hlt) ?_
   all_goals exact⟨(have zz:=@t0;evZ),(have zz:=@t2;evZ),(have zz:=@t3;evZ),(have zz:=@t4;evZ),(have zz:=@t10;evZ),(have zz:=@t11;evZ),rfl,rfl⟩
 clear t0 t2 t3 t4 t10 t11 hsel;rintro T _ _ ⟨t0,t2,t3,t4,t10,t11,rfl,rfl⟩;by_cases hk2:k2<0
 ·obtain⟨M1,hl1,lm1,lm2⟩:=eC (f:=f) (M:=M) (i:=a+root) (j:=a+c) (by omega) (by omega);have lm3:=lm2;simp only[bE,dJ,hZ,cp] at lm1 lm2;have zz:=aI @t0 (aI @t2 (aI @t3 (aI @t4 (aI @t10 (aI @t11 (aI @iR (aI @lm1 (aI @lm2 (aI hc.cells hc.one)))))))));repeat' (first|refine zW ?_|refine zM ?_|apply a_n|refine zO ?_|refine vZ ?_|refine cZ ?_ (hp:=lc2) (hs:=by(first|refine aC ?_ rfl|apply aQ);(repeat' (first|exact aj|apply bB|apply a8|exact e1|exact e2|exact a9 dcap));first|done|fail)|refine stZ ?_|(refine zGZ ?_ ?_<;>(intro _hg;try (exfalso;omega)))|fail)
  have hrc:root<c:=by unfold Kid at hkid;omega
  have hcn:c<n:=by omega
  refine⟨(c,swp M (a+root) (a+c)),by dsimp only;omega,⟨by dsimp only;omega,?_,rfl,hp.trans (PermR.swap (by omega) (by omega) (by omega)),hs.step hc.ord hkid hchi (by omega) hbest (by rw[hK2];exact hk2)⟩,(have zz:=aI @t0 (aI @t2 (aI @t3 @t4));agZ)⟩;dsimp only;rw[bf,bf,lm3]
 ·have zz:=aI @t0 (aI @t2 (aI @t3 (aI @t4 (aI @t10 (aI @t11 (aI @iR (aI hc.cells hc.one)))))));repeat' (first|refine zW ?_|refine zM ?_|apply a_n|apply a_r|refine zO ?_|refine vZ ?_|refine cZ ?_ (hp:=lc2) (hs:=by(first|refine aC ?_ rfl|apply aQ);(repeat' (first|exact aj|apply bB|apply a8|exact e1|exact e2|exact a9 dcap));first|done|fail)|(refine zGZ ?_ ?_<;>(intro _hg;try (exfalso;omega)))|refine bk rfl ?_|fail)
  exact⟨rfl,M,rfl,hp,hs.stop hc.ord hbest (by rw[hK2];exact hk2)⟩
end
end Go.Proofs.YtmpcledaoigkaaaGreat
namespace Go.Proofs.YtmpcledaoigkaaaGreat
open Go Go.Abs
open Nat (reduceEqDiff reduceAdd reduceLeDiff)
section
variable{α:Type}[Inhabited α]{f:α->AV}{K:α->α->Int}{G:α->Prop}{g:Nat}{caps:List AV}
theorem jA.top{a hi:Nat}{M:List α}(hK:Ord K)(h:jA K a hi 0 M):∀p,p<hi->¬K (M.getD a default) (M.getD (a+p) default)<0:=by
 intro p
 induction p using Nat.strongRecOn with
 |ind p ih=>
  intro hp;by_cases e:p=0
  ·subst e;exact hK.irr _
  ·have k:Kid ((p-1)/2) p:=by unfold Kid;omega
   exact hK.negtr _ _ _ (h _ p (bz _) k hp) (ih ((p-1)/2) (by omega) (by omega))
structure TailR{α:Type}[Inhabited α](K:α->α->Int)(a e k:Nat)(M:List α):Prop where
 sort:bA K k e M
 ge:∀p q,a<=p->p<k->k<=q->q<e->¬K (M.getD q default) (M.getD p default)<0
theorem TailR.step{a e k:Nat}{M N:List α}(hK:Ord K)(ht:TailR K a e (a+(k+1)) M)(hh:jA K a (k+1) 0 M)(he:a+(k+1)<=e)(hM:e<=M.length)(hp:PermR a (a+k) (swp M a (a+k)) N):TailR K a e (a+k) N:=by
 have hg:∀j,(swp M a (a+k)).getD j default=if j=a+k then M.getD a default else if j=a then M.getD (a+k) default else M.getD j default:=λj=>fC (by omega) (by omega) j
 have hmax:=hh.top hK
 have lo:∀q,a+k<=q->q<e->∀p,a<=p->p<a+k->¬K (N.getD q default) (N.getD p default)<0:=by
  intro q h1 h2;rw[hp.out q (.inr h1),hg];have hl:(swp M a (a+k)).length=M.length:=CB _ _;refine hp.all (p:=λx=>¬K (if q=a+k then M.getD a default else if q=a then M.getD (a+k) default else M.getD q default) x<0) (by omega) (by omega) ?_;intro p k1 k2;rw[hg,if_neg (by omega:¬p=a+k)];by_cases e1:q=a+k
  ·rw[if_pos e1];by_cases e2:p=a
   ·rw[if_pos e2];exact hmax k (by omega)
   ·rw[if_neg e2];have:=hmax (p-a) (by omega);rw[show a+(p-a)=p by omega] at this;exact this
  ·rw[if_neg e1,if_neg (by omega:¬q=a)];by_cases e2:p=a
   ·rw[if_pos e2];exact ht.ge (a+k) q (by omega) (by omega) (by omega) h2
   ·rw[if_neg e2];exact ht.ge p q k1 (by omega) (by omega) h2
 refine⟨λp q h1 h2 h3=>?_,λp q h1 h2 h3 h4=>lo q h3 h4 p h1 h2⟩;rw[hp.out p (.inr h1),hp.out q (.inr (by omega)),hg,hg,if_neg (by omega:¬q=a+k),if_neg (by omega:¬q=a)];by_cases e1:p=a+k
 ·rw[if_pos e1];exact ht.ge a q (aZ _) (by omega) (by omega) h3
 ·rw[if_neg e1,if_neg (by omega:¬p=a)];exact ht.sort p q (by omega) h2 h3
theorem jA.swapTop{a k:Nat}{M:List α}(h:jA K a (k+1) 0 M)(hM:a+(k+1)<=M.length):jA K a k 1 (swp M a (a+k)):=by
 intro p c h1 h2 h3;have hg:∀j,(swp M a (a+k)).getD j default=if j=a+k then M.getD a default else if j=a then M.getD (a+k) default else M.getD j default:=λj=>fC (by omega) (by omega) j
 have:p<c:=by unfold Kid at h2;omega
 rw[hg,hg,if_neg (by omega),if_neg (by omega),if_neg (by omega),if_neg (by omega)];exact h p c (bz _) h2 (by omega)
theorem TailR.start{a e:Nat}{M:List α}:TailR K a e e M:=⟨λp q h1 h2 h3=>by omega,λp q h1 h2 h3 h4=>by omega⟩
theorem TailR.done{a e:Nat}{M:List α}(h:TailR K a e a M):bA K a e M:=h.sort
theorem jA.start{a hi r:Nat}{M:List α}(hr:hi<=2*r+1):jA K a hi r M:=λp c h1 h2 h3=>by unfold Kid at h2;omega
attribute [local irreducible] aE ai be aP aJ aK ay aL aR bn Go.Abs.Fn aO Go.Abs.Pure ak aD Yl
theorem Jx(hc:Cmp Tryz.prog f K G g caps){L:List α}{H:Hp}{b nx n a e:Nat}(hH:H b=some (L.map f))(hn:L.length=n)(hG:∀x∈L,G x)(hae:a<=e)(hen:e<=n)(hn2:n<=1000000000):
    Abs.Fn Tryz.prog 137 [.msl b n 1 0 n,.int .i64 a,.int .i64 e,.func g caps] H nx λr H' nx'=>nx'=nx/\∃L',H'=ar H b (L'.map f)/\PermR a e L L'/\bA K a e L':=by
 obtain⟨h,rfl⟩:∃h,e=a+h:=⟨e-a,by omega⟩
 refine fO Mi ?_;simp only[Lv,aw];have dcap:=hc.dcaps;have te:((a+h:Nat):Int)-(a:Int)=(h:Int):=by omega
 obtain⟨r,tr,hr,hrn⟩:∃r:Nat,bm .quo false false (.int .i64 ((h:Int)-1)) (.int .i64 2)=some (.int .i64 (r:Int))/\h<=2*(r+1)+1/\r<=h:=by
  rcases wZ h with e|e
  ·subst e;exact⟨0,rfl,by omega,by omega⟩
  ·refine⟨(h-1)/2,?_,by omega,by omega⟩;rw[pP (by omega) (by omega) (by omega)]
   congr 2
   omega
 refine wnZ (aI @te @tr) ?_;refine bj (X:=Nat×List α) (λx=>[(0,.msl b n 1 0 n),(1,.int .i64 a),(3,.func g caps),(8,.int .i64 a),(9,.int .i64 0),(10,.int .i64 h),(11,.int .i64 ((x.1:Nat)-1))]) (λx H' nxx=>x.1<=n+1/\H'=ar H b (x.2.map f)/\nx=nxx/\PermR a (a+h) L x.2/\jA K a h x.1 x.2) (λx=>x.1) (r+1,L) ⟨by dsimp only;omega,l6 hH,rfl,.refl,jA.start (by dsimp only;omega)⟩ (by simp (disch:=omega) only[agr,ZG,reduceEqDiff,↓reduceIte,Int.add_sub_cancel]) ?_;rintro⟨i,M⟩ H' nxx ⟨h1,rfl,rfl,hp,hh⟩;dsimp only at *;have hl:M.length=n:=by rw[hp.len,hn]
 have hGM:=hp.mem hG;rcases wZ i with e|e
 ·subst e;refine wnZ and_self ?_;clear hGM;refine bj (X:=Nat×List α) (λx=>[(0,.msl b n 1 0 n),(3,.func g caps),(8,.int .i64 a),(9,.int .i64 0),(12,.int .i64 ((x.1:Nat)-1))]) (λx H' nxx'=>x.1<=h/\H'=ar H b (x.2.map f)/\nx=nxx'/\PermR a (a+h) L x.2/\jA K a x.1 0 x.2/\TailR K a (a+h) (a+x.1) x.2) (λx=>x.1) (h,M) ⟨aZ _,rfl,rfl,hp,hh,.start⟩ (by simp (disch:=omega) only[agr,ZG,reduceEqDiff,↓reduceIte,Int.add_sub_cancel]) ?_;clear hp hh hl;rintro⟨i,M⟩ H' nxx ⟨h1,rfl,rfl,hp,hh,ht⟩;dsimp only at *;have hl:M.length=n:=by rw[hp.len,hn]
  have hGM:=hp.mem hG;rcases wZ i with e|e
  ·subst e;refine wnZ and_self ?_;exact⟨rfl,M,rfl,hp,ht.done⟩
  ·obtain⟨k,rfl⟩:∃k,i=k+1:=⟨i-1,by omega⟩
   have tj:((k+1:Nat):Int)-1=(k:Int):=by omega
   obtain⟨M1,hl1,lm1,lm2⟩:=eC (f:=f) (M:=M) (i:=a) (j:=a+k) (by omega) (by omega);have lm3:=lm2;simp only[bE,dJ,hZ,cp] at lm1 lm2;have hp1:PermR a (a+h) L (swp M a (a+k)):=hp.trans (PermR.swap (by omega) (by omega) (by omega));have hsl:(swp M a (a+k)).length=n:=by rw[hp1.len,hn]
   refine wnZ (zI6 @tj @iR @lm1 @lm2 hc.cells hc.one) ?_;refine a7 ev0 (have zz:=aI @tj @Int.natCast_zero;evZ) (GD hc (b:=b) (L:=swp M a (a+k)) (a:=a) (lo:=0) (hi:=k) (by rw[bf,bf,ac,<-lm3]) hsl (hp1.mem hG) (by omega) (by omega) (by omega) (hh.swapTop (by omega))) ?_;rintro _ _ _ ⟨rfl,N,rfl,hpN,hhN⟩;refine wnZ @tj ?_;exact⟨(k,N),by dsimp only;omega,⟨by dsimp only;omega,by dsimp only;rw[bf,bf,bf],rfl,hp1.trans (hpN.mono (aZ _) (by omega)),hhN,ht.step hc.ord hh (by omega) (by omega) hpN⟩,ag0⟩
 ·obtain⟨k,rfl⟩:∃k,i=k+1:=⟨i-1,by omega⟩
  have tj:((k+1:Nat):Int)-1=(k:Int):=by omega
  refine wnZ @tj ?_;refine a7 ev0 ev0 (GD hc (L:=M) (a:=a) (lo:=k) (hi:=h) ac hl hGM (by omega) (by omega) (by omega) hh) ?_;rintro _ _ _ ⟨rfl,N,rfl,hpN,hhN⟩;refine wnZ @tj ?_;exact⟨(k,N),by dsimp only;omega,⟨by dsimp only;omega,by dsimp only;rw[bf],rfl,hp.trans hpN,hhN⟩,ag0⟩
end
end Go.Proofs.YtmpcledaoigkaaaGreat
namespace Go.Proofs.YtmpcledaoigkaaaGreat
open Go Go.Abs
section
variable{α:Type}[Inhabited α]{f:α->AV}{K:α->α->Int}{G:α->Prop}{g:Nat}{caps:List AV}
def Jm:AV->Option AV
 |.ptr b n o=>some (.ptr b n o)
 |.iptr c o=>some (.iptr c o)
 |.func f c=>some (.func f c)
 |_=>none
theorem SV3:(∀ (T:Tm) (H:Hp) (x:Opd),bW T H (.nilck x)=Jm (ov T x))∧(∀ b n o:Nat,Jm (.ptr b n o)=some (.ptr b n o)):=⟨fun T H x=>by
 simp only[bW];cases ov T x<;>rfl,λ_ _ _=>rfl⟩
attribute [local irreducible] aE ai be aP aJ aK ay aL aR bn Go.Abs.Fn aO Go.Abs.Pure ak aD Yl
theorem LP(hc:Cmp Tryz.prog f K G g caps){L:List α}{H:Hp}{b nx n a e:Nat}(hH:H b=some (L.map f))(hn:L.length=n)(hae:a<e)(hen:e<=n)(hn2:n<=1000000000):
    Abs.Fn Tryz.prog 140 [.msl b n 1 0 n,.int .i64 a,.int .i64 e,.func g caps] H nx λr H' nx'=>nx'=nx/\∃L',H'=ar H b (L'.map f)/\PermR a e L L':=by
 obtain⟨m,rfl⟩:∃m,e=m+1:=⟨e-1,by omega⟩
 have te:((m+1:Nat):Int)-1=(m:Int):=by omega
 refine fO M5 ?_;simp only[Mf,aw];refine wnZ @te ?_;refine bj (X:=Nat×Nat×List α) (λx=>[(0,.msl b n 1 0 n),(8,.int .i64 (x.1:Nat)),(9,.int .i64 (x.2.1:Nat))]) (λx H' nxx=>a<=x.1/\x.2.1<=m/\H'=ar H b (x.2.2.map f)/\nx=nxx/\PermR a (m+1) L x.2.2) (λx=>x.2.1) (a,m,L) ⟨aZ _,aZ _,l6 hH,rfl,.refl⟩ ag0 ?_;rintro⟨i,j,M⟩ H' nxx ⟨h1,h2,rfl,rfl,hp⟩;dsimp only at *;have hl:M.length=n:=by rw[hp.len,hn]
 by_cases hij:i<j
 ·obtain⟨k,rfl⟩:∃k,j=k+1:=⟨j-1,by omega⟩
  have tj:((k+1:Nat):Int)-1=(k:Int):=by omega
  have ti:((i:Nat):Int)+1=((i+1:Nat):Int):=by omega
  obtain⟨M1,hl1,lm1,lm2⟩:=eC (f:=f) (M:=M) (i:=i) (j:=k+1) (by omega) (by omega);have lm3:=lm2;simp only[bE,dJ,hZ,cp] at lm1 lm2;refine wnZ (zI6 @tj @ti @lm1 @lm2 hc.cells hc.one) ?_;exact⟨(i+1,k,swp M i (k+1)),by dsimp only;omega,⟨by dsimp only;omega,by dsimp only;omega,by dsimp only;rw[bf,bf,lm3],rfl,hp.trans (PermR.swap (by omega) (by omega) (by omega))⟩,ag0⟩
 ·refine wnZ and_self ?_;exact⟨rfl,M,rfl,hp⟩
theorem uO(hc:Cmp Tryz.prog f K G g caps){L:List α}{H:Hp}{b c nx n i j s:Nat}(hH:H b=some (L.map f))(hcc:H c=some [.int .i64 (s:Nat)])(hn:L.length=n)(hG:∀x∈L,G x)(hi:i<n)(hj:j<n)(hn2:n<=1000000000)(hs:s<=100):
    Abs.Fn Tryz.prog 175 [.msl b n 1 0 n,.int .i64 i,.int .i64 j,.ptr c 1 0,.func g caps] H nx λr H' nx'=>nx'=nx/\∃i' j' s':Nat,r=.tup [.int .i64 i',.int .i64 j']/\((i'=i/\j'=j)\/(i'=j/\j'=i))/\s'<=s+1/\H'=ar H c [.int .i64 s']:=by
 refine fO MJ ?_;simp only[KW,aw];have dcap:=hc.dcaps;have lc:=hc.run (L.getD j default) (L.getD i default) (hG _ (au (by omega))) (hG _ (au (by omega)));have e1:=hc.dat (L.getD j default);have e2:=hc.dat (L.getD i default);have ts:((s:Nat):Int)+1=((s+1:Nat):Int):=by omega
 have ls:∀x y:AV,bE [x] 0 [y]=[y]:=λ_ _=>rfl;simp only[bE,dJ,hZ,cp] at ls;generalize hKK:K (L.getD j default) (L.getD i default)=kk at lc;by_cases hlt:kk<0
 ·have zz:=aI @hH (aI @hcc (aI @bQ (aI hc.cells (aI hc.one (aI @ts (aI @ls @SV3))))));repeat' (first|refine zW ?_|refine zM ?_|apply a_n|apply a_r|refine zO ?_|refine vZ ?_|refine cZ ?_ (hp:=lc) (hs:=by(first|refine aC ?_ rfl|apply aQ);(repeat' (first|exact aj|apply bB|apply a8|exact e1|exact e2|exact a9 dcap));first|done|fail)|refine stZ ?_|(refine zGZ ?_ ?_<;>(intro _hg;try (exfalso;omega)))|refine bk rfl ?_|refine r2Z ?_|fail)
  exact⟨rfl,j,i,s+1,rfl,.inr ⟨rfl,rfl⟩,aZ _,rfl⟩
 ·have zz:=aI @hH (aI @hcc (aI @bQ (aI hc.cells hc.one)));repeat' (first|refine zW ?_|refine zM ?_|apply a_n|refine zO ?_|refine vZ ?_|refine cZ ?_ (hp:=lc) (hs:=by(first|refine aC ?_ rfl|apply aQ);(repeat' (first|exact aj|apply bB|apply a8|exact e1|exact e2|exact a9 dcap));first|done|fail)|(refine zGZ ?_ ?_<;>(intro _hg;try (exfalso;omega)))|refine bk rfl ?_|refine r2Z ?_|fail)
  exact⟨rfl,i,j,s,rfl,.inl ⟨rfl,rfl⟩,Nat.le_succ _,l6 hcc⟩
end
end Go.Proofs.YtmpcledaoigkaaaGreat
namespace Go.Proofs.YtmpcledaoigkaaaGreat
open Go Go.Abs
section
attribute [local irreducible] aE ai be aP aJ aK ay aL aR bn Go.Abs.Fn aO Go.Abs.Pure ak aD Yl
section
variable{α:Type}[Inhabited α]{f:α->AV}{K:α->α->Int}{G:α->Prop}{g:Nat}{caps:List AV}
theorem uA(hc:Cmp Tryz.prog f K G g caps){L:List α}{H:Hp}{b c nx n i j k s lo hi:Nat}(hH:H b=some (L.map f))(hbc:b≠c)(hcc:H c=some [.int .i64 (s:Nat)])(hn:L.length=n)(hG:∀x∈L,G x)(hi1:lo<=i/\i<hi)(hj1:lo<=j/\j<hi)(hk1:lo<=k/\k<hi)(hhi:hi<=n)(hn2:n<=1000000000)(hs:s<=50):
    Abs.Fn Tryz.prog 162 [.msl b n 1 0 n,.int .i64 i,.int .i64 j,.int .i64 k,.ptr c 1 0,.func g caps] H nx λr H' nx'=>nx'=nx/\∃p s':Nat,r=.int .i64 p/\lo<=p/\p<hi/\s'<=s+3/\H'=ar H c [.int .i64 s']:=by
 refine fO Nv ?_;simp only[LM,aw];refine wnZ and_self ?_;refine a7 ev0 ev0 (uO hc (b:=b) hH hcc hn hG (i:=i) (j:=j) (by omega) (by omega) hn2 (by omega)) ?_;rintro _ _ _ ⟨rfl,i1,j1,s1,rfl,h1,hs1,rfl⟩;refine wnZ and_self ?_;refine a7 ev0 ev0 (uO hc (b:=b) (by rw[ab hbc];exact hH) ac hn hG (i:=j1) (j:=k) (by omega) (by omega) hn2 (by omega)) ?_;rintro _ _ _ ⟨rfl,j2,k2,s2,rfl,h2,hs2,rfl⟩;refine wnZ and_self ?_;refine a7 ev0 ev0 (uO hc (b:=b) (by rw[bf,ab hbc];exact hH) ac hn hG (i:=i1) (j:=j2) (by omega) (by omega) hn2 (by omega)) ?_;rintro _ _ _ ⟨rfl,i3,j3,s3,rfl,h3,hs3,rfl⟩;refine wnZ and_self ?_;exact⟨rfl,j3,s3,rfl,by omega,by omega,by omega,by rw[bf,bf]⟩
theorem uh(hc:Cmp Tryz.prog f K G g caps){L:List α}{H:Hp}{b c nx n i s lo hi:Nat}(hH:H b=some (L.map f))(hbc:b≠c)(hcc:H c=some [.int .i64 (s:Nat)])(hn:L.length=n)(hG:∀x∈L,G x)(hi1:lo+1<=i/\i+1<hi)(hhi:hi<=n)(hn2:n<=1000000000)(hs:s<=50):
    Abs.Fn Tryz.prog 161 [.msl b n 1 0 n,.int .i64 i,.ptr c 1 0,.func g caps] H nx λr H' nx'=>nx'=nx/\∃p s':Nat,r=.int .i64 p/\lo<=p/\p<hi/\s'<=s+3/\H'=ar H c [.int .i64 s']:=by
 obtain⟨m,rfl⟩:∃m,i=m+1:=⟨i-1,by omega⟩
 have t1:((m+1:Nat):Int)-1=(m:Int):=by omega
 have t2:((m+1:Nat):Int)+1=((m+1+1:Nat):Int):=by omega
 refine fO M3 ?_;simp only[Nj,aw];refine wnZ (aI @t1 @t2) ?_;refine a7 ev0 ev0 (uA hc (b:=b) hH hbc hcc hn hG (i:=m) (j:=m+1) (k:=m+1+1) (lo:=lo) (hi:=hi) (by omega) (by omega) (by omega) hhi hn2 hs) ?_;rintro _ _ _ ⟨rfl,p,s1,rfl,h1,h2,hs1,rfl⟩;refine wnZ and_self ?_;exact⟨rfl,p,s1,rfl,h1,h2,hs1,rfl⟩
theorem Fh(hc:Cmp Tryz.prog f K G g caps){L:List α}{H:Hp}{b nx n a e:Nat}(hH:H b=some (L.map f))(hbx:b<nx)(hn:L.length=n)(hG:∀x∈L,G x)(hae:a+8<=e)(hen:e<=n)(hn2:n<=1000000000):
    Abs.Fn Tryz.prog 139 [.msl b n 1 0 n,.int .i64 a,.int .i64 e,.func g caps] H nx λr H' nx'=>nx'=nx+1/\∃(p:Nat)(hint:Int)(v:List AV),r=.tup [.int .i64 p,.int .i64 hint]/\a<=p/\p<e/\H'=ar H nx v:=by
 obtain⟨l,rfl⟩:∃l,e=a+l:=⟨e-a,by omega⟩
 have te:((a+l:Nat):Int)-(a:Int)=(l:Int):=by omega
 obtain⟨q,hq⟩:∃q,l/4=q:=⟨_,rfl⟩
 have tq:bm .quo false false (.int .i64 (l:Int)) (.int .i64 4)=some (.int .i64 (q:Int)):=by
  rw[pP (by omega) (by omega) (by omega)]
  congr 2
  omega
 have w1:(a:Int)+(q:Int)*1=((a+q:Nat):Int):=by omega
 have w2:(a:Int)+(q:Int)*2=((a+q*2:Nat):Int):=by omega
 have w3:(a:Int)+(q:Int)*3=((a+q*3:Nat):Int):=by omega
 have hbn:b≠nx:=by omega
 refine fO Lr ?_;simp only[MY,aw];have last:∀(s:Nat)(H1:Hp),H1=ar (ar H nx [.int .i64 0]) nx [.int .i64 s]->H1 nx=some [.int .i64 (s:Nat)]:=λs H1 h=>by rw[h];exact ac
 have hHn:∀v,ar H nx v b=some (L.map f):=λv=>by rw[ab hbn];exact hH
 by_cases h50:50<=l
 ·refine wnZ (zI5 @te @tq @w1 @w2 @w3) ?_;refine a7 ev0 ev0 (uh hc (b:=b) (c:=nx) (s:=0) (i:=a+q) (lo:=a) (hi:=a+l) (hHn _) hbn ac hn hG (by omega) (by omega) hn2 (by omega)) ?_;rintro _ _ _ ⟨rfl,p1,s1,rfl,k1,k2,hs1,rfl⟩;rw[bf];refine wnZ and_self ?_;refine a7 ev0 ev0 (uh hc (b:=b) (c:=nx) (s:=s1) (i:=a+q*2) (lo:=a) (hi:=a+l) (hHn _) hbn ac hn hG (by omega) (by omega) hn2 (by omega)) ?_;rintro _ _ _ ⟨rfl,p2,s2,rfl,k3,k4,hs2,rfl⟩;rw[bf];refine wnZ and_self ?_;refine a7 ev0 ev0 (uh hc (b:=b) (c:=nx) (s:=s2) (i:=a+q*3) (lo:=a) (hi:=a+l) (hHn _) hbn ac hn hG (by omega) (by omega) hn2 (by omega)) ?_;rintro _ _ _ ⟨rfl,p3,s3,rfl,k5,k6,hs3,rfl⟩;rw[bf];refine wnZ and_self ?_;refine a7 ev0 ev0 (uA hc (b:=b) (c:=nx) (s:=s3) (i:=p1) (j:=p2) (k:=p3) (lo:=a) (hi:=a+l) (hHn _) hbn ac hn hG (by omega) (by omega) (by omega) (by omega) hn2 (by omega)) ?_;rintro _ _ _ ⟨rfl,p4,s4,rfl,k7,k8,hs4,rfl⟩;rw[bf]
  repeat' (first|refine zW ?_|apply a_n|refine zO ?_|refine vZ ?_|(refine zGZ ?_ ?_<;>(intro _hg;try (exfalso;omega)))|refine bk rfl ?_|refine r2Z ?_|fail)
  all_goals exact⟨rfl,p4,_,_,rfl,by omega,by omega,rfl⟩
 ·refine wnZ (zI5 @te @tq @w1 @w2 @w3) ?_;refine a7 ev0 ev0 (uA hc (b:=b) (c:=nx) (s:=0) (i:=a+q) (j:=a+q*2) (k:=a+q*3) (lo:=a) (hi:=a+l) (hHn _) hbn ac hn hG (by omega) (by omega) (by omega) (by omega) hn2 (by omega)) ?_;rintro _ _ _ ⟨rfl,p4,s4,rfl,k7,k8,hs4,rfl⟩;rw[bf]
  repeat' (first|refine zW ?_|apply a_n|refine zO ?_|refine vZ ?_|(refine zGZ ?_ ?_<;>(intro _hg;try (exfalso;omega)))|refine bk rfl ?_|refine r2Z ?_|fail)
  all_goals exact⟨rfl,p4,_,_,rfl,by omega,by omega,rfl⟩
end
end
end Go.Proofs.YtmpcledaoigkaaaGreat
namespace Go.Proofs.YtmpcledaoigkaaaGreat
open Go Go.Abs
def vS{α:Type}[Inhabited α](K:α->α->Int)(a e:Nat)(M:List α):Prop:=∀q,0<a->a<=q->q<e->¬K (M.getD q default) (M.getD (a-1) default)<0
section
variable{α:Type}[Inhabited α]{f:α->AV}{K:α->α->Int}{G:α->Prop}{g:Nat}{caps:List AV}
theorem vS.perm{a e:Nat}{L M:List α}(h:vS K a e L)(hp:PermR a e L M)(hae:a<=e)(he:e<=L.length):vS K a e M:=λq h0 h1 h2=>by
 rw[hp.out (a-1) (.inl (by omega))];exact hp.all (p:=λx=>¬K x (L.getD (a-1) default)<0) hae he (λi k1 k2=>h i h0 k1 k2) q h1 h2
theorem bA.out{a i e:Nat}{L M:List α}(h:bA K a i L)(hp:PermR i e L M):bA K a i M:=λp q h1 h2 h3=>by
 rw[hp.out p (.inl (by omega)),hp.out q (.inl h3)];exact h p q h1 h2 h3
theorem bA.snoc{a i:Nat}{M:List α}(hK:Ord K)(h:bA K a i M)(ha:a<i)(hn:¬K (M.getD i default) (M.getD (i-1) default)<0):bA K a (i+1) M:=λp q h1 h2 h3=>by
 by_cases e:q=i
 ·subst e;by_cases e2:p=q-1
  ·rw[e2];exact hn
  ·exact hK.negtr _ _ _ (h p (q-1) h1 (by omega) (by omega)) hn
 ·exact h p q h1 h2 (by omega)
attribute [local irreducible] aE ai be aP aJ aK ay aL aR bn Go.Abs.Fn aO Go.Abs.Pure ak aD Yl
theorem Ef(hc:Cmp Tryz.prog f K G g caps){L:List α}{H:Hp}{b nx n a e:Nat}(hH:H b=some (L.map f))(hn:L.length=n)(hG:∀x∈L,G x)(hae:a<e)(hen:e<=n)(hn2:n<=1000000000)(hlow:vS K a e L):
    Abs.Fn Tryz.prog 141 [.msl b n 1 0 n,.int .i64 a,.int .i64 e,.func g caps] H nx λr H' nx'=>nx'=nx/\∃L' t,r=.bool t/\H'=ar H b (L'.map f)/\PermR a e L L'/\(t=true->bA K a e L'):=by
 have dcap:=hc.dcaps;refine fO Mu ?_;simp only[N8,aw];refine wnZ and_self ?_;refine bj (X:=Nat×Nat×List α) (λx=>[(0,.msl b n 1 0 n),(1,.int .i64 a),(2,.int .i64 e),(3,.func g caps),(9,.int .i64 (x.2.1:Nat)),(10,.int .i64 (x.1:Nat))]) (λx H' nxx=>x.1<=5/\a+1<=x.2.1/\x.2.1<=e/\H'=ar H b (x.2.2.map f)/\nx=nxx/\PermR a e L x.2.2/\bA K a x.2.1 x.2.2) (λx=>5-x.1) (0,a+1,L) ⟨by dsimp only;omega,aZ _,hae,l6 hH,rfl,.refl,bA.one (aZ _)⟩ ag0 ?_;rintro⟨jj,i0,M0⟩ H' nxx ⟨h1,h2,h3,rfl,rfl,hp0,hs0⟩;dsimp only at *;by_cases h5:jj=5
 ·subst h5;refine wnZ and_self ?_;exact⟨rfl,M0,false,rfl,rfl,hp0,λh=>absurd h (by decide)⟩
 have hl:M0.length=n:=by rw[hp0.len,hn]
 have hGM:=hp0.mem hG;refine cS (λT H'' nx''=>T 0=.msl b n 1 0 n/\T 1=.int .i64 a/\T 2=.int .i64 e/\T 3=.func g caps/\T 9=.int .i64 (i0:Nat)/\T 10=.int .i64 (jj:Nat)/\H''=ar H b ((M0).map f)/\nx=nx'') ?_ ?_
 ·refine wnZ and_self ?_;exact⟨rfl,rfl,rfl,rfl,rfl,rfl,rfl,rfl⟩
 rintro T _ _ ⟨t0,t1,t2,t3,t9,t10,rfl,rfl⟩;refine cS (λT H'' nx''=>∃(i:Nat)(M:List α),a+1<=i/\i<=e/\PermR a e L M/\bA K a i M/\T 0=.msl b n 1 0 n/\T 1=.int .i64 a/\T 2=.int .i64 e/\T 3=.func g caps/\T 9=.int .i64 (i:Nat)/\T 10=.int .i64 (jj:Nat)/\H''=ar H b ((M).map f)/\nx=nx'') ?_ ?_
 rotate_left
 ·clear t0 t1 t2 t3 t9 t10;rintro T _ _ ⟨i,M,k1,k2,hp,hs,t0,t1,t2,t3,t9,t10,rfl,rfl⟩;refine wnZ (zI6 @t0 @t1 @t2 @t3 @t9 @t10) ?_;exact⟨(jj+1,i,M),by dsimp only;omega,⟨by dsimp only;omega,k1,k2,rfl,rfl,hp,hs⟩,(have zz:=aI @t0 (aI @t1 (aI @t2 (aI @t3 (aI @t9 @t10))));agZ)⟩
 refine lW ?_;refine cS (λT H'' nx''=>∃(i:Nat),a+1<=i/\i<=e/\bA K a i M0/\(i<e->K (M0.getD i default) (M0.getD (i-1) default)<0)/\T 0=.msl b n 1 0 n/\T 1=.int .i64 a/\T 2=.int .i64 e/\T 3=.func g caps/\T 9=.int .i64 (i:Nat)/\T 10=.int .i64 (jj:Nat)/\H''=ar H b ((M0).map f)/\nx=nx'') ?_ ?_
 ·refine wnZ (zI6 @t0 @t1 @t2 @t3 @t9 @t10) ?_;refine bj (X:=Nat) (λi=>[(0,.msl b n 1 0 n),(1,.int .i64 a),(2,.int .i64 e),(3,.func g caps),(9,.int .i64 (i:Nat)),(10,.int .i64 (jj:Nat))]) (λi H' nxx=>a+1<=i/\i<=e/\H'=ar H b (M0.map f)/\nx=nxx/\bA K a i M0) (λi=>e-i) i0 ⟨h2,h3,rfl,rfl,hs0⟩ (have zz:=aI @t0 (aI @t1 (aI @t2 (aI @t3 (aI @t9 @t10))));agZ) ?_;clear hs0 h2 h3;rintro i H' nxx ⟨h2,h3,rfl,rfl,hs⟩;by_cases hie:i=e
  ·subst hie;refine wkZ and_self ?_;exact⟨i,h2,h3,hs,λh=>absurd h (Nat.lt_irrefl _),rfl,rfl,rfl,rfl,rfl,rfl,rfl,rfl⟩
  obtain⟨m,rfl⟩:∃m,i=m+1:=⟨i-1,by omega⟩
  have tj:((m+1:Nat):Int)-1=(m:Int):=by omega
  have lc:=hc.run (M0.getD (m+1) default) (M0.getD m default) (hGM _ (au (by omega))) (hGM _ (au (by omega)));have e1:=hc.dat (M0.getD (m+1) default);have e2:=hc.dat (M0.getD m default);generalize hKK:K (M0.getD (m+1) default) (M0.getD m default)=kk at lc;by_cases hlt:kk<0
  ·have zz:=aI @tj (aI @bQ (aI hc.cells hc.one));repeat' (first|refine zW ?_|refine zM ?_|apply a_n|apply a_x|refine zO ?_|refine vZ ?_|refine cZ ?_ (hp:=lc) (hs:=by(first|refine aC ?_ rfl|apply aQ);(repeat' (first|exact aj|apply bB|apply a8|exact e1|exact e2|exact a9 dcap));first|done|fail)|refine gTZ ?_|(refine zGZ ?_ ?_<;>(intro _hg;try (exfalso;omega)))|fail)
   exact⟨m+1,h2,h3,hs,λ_=>by rw[uC,hKK];exact hlt,rfl,rfl,rfl,rfl,rfl,rfl,rfl,rfl⟩
  ·have zz:=aI @tj (aI @bQ (aI hc.cells hc.one));repeat' (first|refine zW ?_|refine zM ?_|apply a_n|refine zO ?_|refine vZ ?_|refine cZ ?_ (hp:=lc) (hs:=by(first|refine aC ?_ rfl|apply aQ);(repeat' (first|exact aj|apply bB|apply a8|exact e1|exact e2|exact a9 dcap));first|done|fail)|refine gTZ ?_|(refine zGZ ?_ ?_<;>(intro _hg;try (exfalso;omega)))|fail)
   exact⟨m+1+1,by omega,⟨by omega,by omega,rfl,rfl,hs.snoc hc.ord (by omega) (by rw[uC,hKK];exact hlt)⟩,ag0⟩
 clear t0 t1 t2 t3 t9 t10 hs0 h2 h3;rintro T _ _ ⟨i,h2,h3,hs,hless,t0,t1,t2,t3,t9,t10,rfl,rfl⟩;by_cases hie:i=e
 ·subst hie;have ten:decide ((i:Int)=(i:Int))=true:=bG rfl;refine wnZ (zI7 @t0 @t1 @t2 @t3 @t9 @t10 @ten) ?_;exact⟨rfl,M0,true,rfl,rfl,hp0,λ_=>hs⟩
 replace hless:=hless (by omega);have ten:decide ((i:Int)=(e:Int))=false:=bK (by omega);refine cS (λT H'' nx''=>T 0=.msl b n 1 0 n/\T 1=.int .i64 a/\T 2=.int .i64 e/\T 3=.func g caps/\T 9=.int .i64 (i:Nat)/\T 10=.int .i64 (jj:Nat)/\H''=ar H b ((M0).map f)/\nx=nx'') ?_ ?_
 ·refine wnZ (zI7 @t0 @t1 @t2 @t3 @t9 @t10 @ten) ?_;exact⟨(have zz:=@t0;evZ),(have zz:=@t1;evZ),(have zz:=@t2;evZ),(have zz:=@t3;evZ),(have zz:=@t9;evZ),(have zz:=@t10;evZ),rfl,rfl⟩
 clear t0 t1 t2 t3 t9 t10 ten;rintro T _ _ ⟨t0,t1,t2,t3,t9,t10,rfl,rfl⟩;refine cS (λT H'' nx''=>T 0=.msl b n 1 0 n/\T 1=.int .i64 a/\T 2=.int .i64 e/\T 3=.func g caps/\T 9=.int .i64 (i:Nat)/\T 10=.int .i64 (jj:Nat)/\H''=ar H b ((M0).map f)/\nx=nx'') ?_ ?_
 ·have zz:=aI @t0 (aI @t1 (aI @t2 (aI @t3 (aI @t9 @t10))));repeat' (first|refine zW ?_|apply a_n|apply a_r|refine zO ?_|refine vZ ?_|(refine zGZ ?_ ?_<;>(intro _hg;try (exfalso;omega)))|refine bk rfl ?_|refine r1Z ?_|fail)
  ·exact⟨rfl,M0,false,rfl,rfl,hp0,λh=>absurd h (by decide)⟩
  ·exact⟨(have zz:=@t0;evZ),(have zz:=@t1;evZ),(have zz:=@t2;evZ),(have zz:=@t3;evZ),(have zz:=@t9;evZ),(have zz:=@t10;evZ),rfl,rfl⟩
 clear t0 t1 t2 t3 t9 t10;rintro T _ _ ⟨t0,t1,t2,t3,t9,t10,rfl,rfl⟩;obtain⟨m,rfl⟩:∃m,i=m+1:=⟨i-1,by omega⟩
 have tj:((m+1:Nat):Int)-1=(m:Int):=by omega
 rw[uC] at hless;obtain⟨M1,hl1,lm1,lm2⟩:=eC (f:=f) (M:=M0) (i:=m+1) (j:=m) (by omega) (by omega);have lm3:=lm2;simp only[bE,dJ,hZ,cp] at lm1 lm2;refine cS (λT H'' nx''=>T 0=.msl b n 1 0 n/\T 1=.int .i64 a/\T 2=.int .i64 e/\T 3=.func g caps/\T 9=.int .i64 (m+1:Nat)/\T 10=.int .i64 (jj:Nat)/\H''=ar H b ((swp M0 (m+1) m).map f)/\nx=nx'') ?_ ?_
 ·refine wnZ (aI @t0 (aI @t1 (fk @t2 @t3 @t9 @t10 @bQ hc.cells hc.one @tj @lm1 @lm2))) ?_;exact⟨(have zz:=@t0;evZ),(have zz:=@t1;evZ),(have zz:=@t2;evZ),(have zz:=@t3;evZ),(have zz:=@t9;evZ),(have zz:=@t10;evZ),by rw[bf,bf,lm3],rfl⟩
 clear t0 t1 t2 t3 t9 t10;have hp1:PermR a e L (swp M0 (m+1) m):=hp0.trans (PermR.swap (by omega) (by omega) (by omega));have hal:=(iZ.start hs).step hc.ord (by omega) (aZ _) (by omega) hless;clear hs hless lm1 lm2 lm3 hl1 M1;generalize swp M0 (m+1) m=M2 at hp1 hal;clear hp0 hGM hl;rintro T _ _ ⟨t0,t1,t2,t3,t9,t10,rfl,rfl⟩;refine cS (λT H'' nx''=>∃M:List α,PermR a e L M/\bA K a (m+1) M/\T 0=.msl b n 1 0 n/\T 1=.int .i64 a/\T 2=.int .i64 e/\T 3=.func g caps/\T 9=.int .i64 (m+1:Nat)/\T 10=.int .i64 (jj:Nat)/\H''=ar H b ((M).map f)/\nx=nx'') ?_ ?_
 ·by_cases h2a:m=a
  ·subst h2a;have td:decide ((2:Int)<=((m+1:Nat):Int)-(m:Int))=false:=bK (by omega);refine wnZ (zI7 @t0 @t1 @t2 @t3 @t9 @t10 @td) ?_;exact⟨M2,hp1,(hal.done hc.ord (.inl rfl)).mono (aZ _) (by omega),(have zz:=@t0;evZ),(have zz:=@t1;evZ),(have zz:=@t2;evZ),(have zz:=@t3;evZ),(have zz:=@t9;evZ),(have zz:=@t10;evZ),rfl,rfl⟩
  have td:decide ((2:Int)<=((m+1:Nat):Int)-(a:Int))=true:=bG (by omega);refine wnZ (zI8 @t0 @t1 @t2 @t3 @t9 @t10 @td @tj) ?_;refine bj (X:=Nat×List α) (λx=>[(0,.msl b n 1 0 n),(1,.int .i64 a),(2,.int .i64 e),(3,.func g caps),(9,.int .i64 (m+1:Nat)),(10,.int .i64 (jj:Nat)),(11,.int .i64 (x.1:Nat))]) (λx H' nxx=>a<=x.1/\x.1<=m/\H'=ar H b (x.2.map f)/\nx=nxx/\PermR a e L x.2/\iZ K a (m+1) x.1 x.2) (λx=>x.1) (m,M2) ⟨by dsimp only;omega,aZ _,rfl,rfl,hp1,hal⟩ (have zz:=aI @t0 (aI @t1 (aI @t2 (aI @t3 (aI @t9 @t10))));agZ) ?_;clear t0 t1 t2 t3 t9 t10 hp1 hal M2;rintro⟨j,M⟩ H' nxx ⟨a1,a2,rfl,rfl,hp,hal⟩;dsimp only at *;have hl:M.length=n:=by rw[hp.len,hn]
  have hGM:=hp.mem hG;rcases wZ j with ej|ej
  ·subst ej;refine wnZ and_self ?_;exact⟨M,hp,(hal.done hc.ord (.inl (by omega))).mono (aZ _) (by omega),rfl,rfl,rfl,rfl,rfl,rfl,rfl,rfl⟩
  obtain⟨k,rfl⟩:∃k,j=k+1:=⟨j-1,by omega⟩
  have tk:((k+1:Nat):Int)-1=(k:Int):=by omega
  have lc:=hc.run (M.getD (k+1) default) (M.getD k default) (hGM _ (au (by omega))) (hGM _ (au (by omega)));have e1:=hc.dat (M.getD (k+1) default);have e2:=hc.dat (M.getD k default);have hlw:=hlow.perm hp (by omega) (by omega);generalize hKK:K (M.getD (k+1) default) (M.getD k default)=kk at lc;by_cases hlt:kk<0
  ·have hak:k+1≠a:=λh=>by
     subst h;have:=hlw (k+1) (by omega) (aZ _) (by omega);rw[uC,hKK] at this;exact this hlt
   obtain⟨M1,hl1,lm1,lm2⟩:=eC (f:=f) (M:=M) (i:=k+1) (j:=k) (by omega) (by omega);have lm3:=lm2;simp only[bE,dJ,hZ,cp] at lm1 lm2;have zz:=aI @tk (aI @bQ (aI hc.cells (aI hc.one (aI @lm1 @lm2))));repeat' (first|refine zW ?_|refine zM ?_|apply a_n|refine zO ?_|refine vZ ?_|refine cZ ?_ (hp:=lc) (hs:=by(first|refine aC ?_ rfl|apply aQ);(repeat' (first|exact aj|apply bB|apply a8|exact e1|exact e2|exact a9 dcap));first|done|fail)|refine stZ ?_|(refine zGZ ?_ ?_<;>(intro _hg;try (exfalso;omega)))|fail)
   exact⟨(k,swp M (k+1) k),by dsimp only;omega,⟨by dsimp only;omega,by dsimp only;omega,by dsimp only;rw[bf,bf,lm3],rfl,hp.trans (PermR.swap (by omega) (by omega) (by omega)),hal.step hc.ord (by omega) (by omega) (by omega) (by rw[hKK];exact hlt)⟩,(have zz:=@tk;agZ)⟩
  ·have hd:k+1=a\/(a<k+1/\¬K (M.getD (k+1) default) (M.getD (k+1-1) default)<0):=by
     by_cases h:k+1=a
     ·exact .inl h
     ·exact .inr ⟨by omega,by rw[uC,hKK];exact hlt⟩
   have zz:=aI @tk (aI @bQ (aI hc.cells hc.one));repeat' (first|refine zW ?_|refine zM ?_|apply a_n|apply a_x|refine zO ?_|refine vZ ?_|refine cZ ?_ (hp:=lc) (hs:=by(first|refine aC ?_ rfl|apply aQ);(repeat' (first|exact aj|apply bB|apply a8|exact e1|exact e2|exact a9 dcap));first|done|fail)|(refine zGZ ?_ ?_<;>(intro _hg;try (exfalso;omega)))|fail)
   exact⟨M,hp,(hal.done hc.ord hd).mono (aZ _) (by omega),rfl,rfl,rfl,rfl,rfl,rfl,rfl,rfl⟩
 clear t0 t1 t2 t3 t9 t10 hp1 hal M2;rintro T _ _ ⟨M2,hp1,hs,t0,t1,t2,t3,t9,t10,rfl,rfl⟩;by_cases h2a:m+1+2<=e
 rotate_left
 ·have td:decide ((2:Int)<=(e:Int)-((m+1:Nat):Int))=false:=bK (by omega);refine wnZ (zI7 @t0 @t1 @t2 @t3 @t9 @t10 @td) ?_;exact⟨m+1,M2,h2,h3,hp1,hs,(have zz:=@t0;evZ),(have zz:=@t1;evZ),(have zz:=@t2;evZ),(have zz:=@t3;evZ),(have zz:=@t9;evZ),(have zz:=@t10;evZ),rfl,rfl⟩
 have td:decide ((2:Int)<=(e:Int)-((m+1:Nat):Int))=true:=bG (by omega);have tj2:((m+1:Nat):Int)+1=((m+1+1:Nat):Int):=by omega
 refine wnZ (zI8 @t0 @t1 @t2 @t3 @t9 @t10 @td @tj2) ?_;refine bj (X:=Nat×List α) (λx=>[(0,.msl b n 1 0 n),(1,.int .i64 a),(2,.int .i64 e),(3,.func g caps),(9,.int .i64 (m+1:Nat)),(10,.int .i64 (jj:Nat)),(12,.int .i64 (x.1:Nat))]) (λx H' nxx=>m+1+1<=x.1/\x.1<=e/\H'=ar H b (x.2.map f)/\nx=nxx/\PermR a e L x.2/\bA K a (m+1) x.2) (λx=>e-x.1) (m+1+1,M2) ⟨aZ _,by dsimp only;omega,rfl,rfl,hp1,hs⟩ (have zz:=aI @t0 (aI @t1 (aI @t2 (aI @t3 (aI @t9 @t10))));agZ) ?_;clear t0 t1 t2 t3 t9 t10 hp1 hs M2;rintro⟨j,M⟩ H' nxx ⟨a1,a2,rfl,rfl,hp,hs⟩;dsimp only at *;have hl:M.length=n:=by rw[hp.len,hn]
 have hGM:=hp.mem hG;by_cases hje:j=e
 ·subst hje;refine wnZ and_self ?_;exact⟨m+1,M,h2,h3,hp,hs,rfl,rfl,rfl,rfl,rfl,rfl,rfl,rfl⟩
 obtain⟨k,rfl⟩:∃k,j=k+1:=⟨j-1,by omega⟩
 have tk:((k+1:Nat):Int)-1=(k:Int):=by omega
 have lc:=hc.run (M.getD (k+1) default) (M.getD k default) (hGM _ (au (by omega))) (hGM _ (au (by omega)));have e1:=hc.dat (M.getD (k+1) default);have e2:=hc.dat (M.getD k default);generalize hKK:K (M.getD (k+1) default) (M.getD k default)=kk at lc;by_cases hlt:kk<0
 ·obtain⟨M1,hl1,lm1,lm2⟩:=eC (f:=f) (M:=M) (i:=k+1) (j:=k) (by omega) (by omega);have lm3:=lm2;simp only[bE,dJ,hZ,cp] at lm1 lm2;have zz:=aI @tk (aI @bQ (aI hc.cells (aI hc.one (aI @lm1 @lm2))));repeat' (first|refine zW ?_|refine zM ?_|apply a_n|refine zO ?_|refine vZ ?_|refine cZ ?_ (hp:=lc) (hs:=by(first|refine aC ?_ rfl|apply aQ);(repeat' (first|exact aj|apply bB|apply a8|exact e1|exact e2|exact a9 dcap));first|done|fail)|refine stZ ?_|(refine zGZ ?_ ?_<;>(intro _hg;try (exfalso;omega)))|fail)
  exact⟨(k+1+1,swp M (k+1) k),by dsimp only;omega,⟨by dsimp only;omega,by dsimp only;omega,by dsimp only;rw[bf,bf,lm3],rfl,hp.trans (PermR.swap (by omega) (by omega) (by omega)),hs.out (e:=e) (PermR.swap (by omega) (by omega) (by omega))⟩,ag0⟩
 ·have zz:=aI @tk (aI @bQ (aI hc.cells hc.one));repeat' (first|refine zW ?_|refine zM ?_|apply a_n|apply a_x|refine zO ?_|refine vZ ?_|refine cZ ?_ (hp:=lc) (hs:=by(first|refine aC ?_ rfl|apply aQ);(repeat' (first|exact aj|apply bB|apply a8|exact e1|exact e2|exact a9 dcap));first|done|fail)|(refine zGZ ?_ ?_<;>(intro _hg;try (exfalso;omega)))|fail)
  exact⟨m+1,M,h2,h3,hp,hs,rfl,rfl,rfl,rfl,rfl,rfl,rfl,rfl⟩
end
end Go.Proofs.YtmpcledaoigkaaaGreat
namespace Go.Proofs.YtmpcledaoigkaaaGreat
open Go Go.Abs
structure PartR{α:Type}[Inhabited α](P:α->Prop)(a e mu i j:Nat)(M:List α):Prop where
 lo:a+1<=i
 mid:i<=j+1
 hi:j<e
 mu:j+1-i<=mu
 up:∀p,a+1<=p->p<i->P (M.getD p default)
 dn:∀q,j<q->q<e->¬P (M.getD q default)
section
variable{α:Type}[Inhabited α]{f:α->AV}{K:α->α->Int}{G:α->Prop}{g:Nat}{caps:List AV}
theorem PartR.start{P:α->Prop}{a m:Nat}{M:List α}(h:a<=m):PartR P a (m+1) (m+1-(a+1)) (a+1) m M:=⟨aZ _,by omega,by omega,aZ _,λp h1 h2=>by omega,λq h1 h2=>by omega⟩
theorem PartR.stepUp{P:α->Prop}{a e mu i j:Nat}{M:List α}(h:PartR P a e mu i j M)(hij:i<=j)(hp:P (M.getD i default)):PartR P a e mu (i+1) j M:=
 ⟨by have:=h.lo; omega,by omega,h.hi,by have:=h.mu; omega,fun p h1 h2=>by
  by_cases e:p=i
  ·rw[e];exact hp
  ·exact h.up p h1 (by omega),h.dn⟩
theorem PartR.stepDn{P:α->Prop}{a e mu i k:Nat}{M:List α}(h:PartR P a e mu i (k+1) M)(hij:i<=k+1)(hp:¬P (M.getD (k+1) default)):PartR P a e mu i k M:=
 ⟨h.lo,hij,by have:=h.hi; omega,by have:=h.mu; omega,h.up,fun q h1 h2=>by
  by_cases e:q=k+1
  ·rw[e];exact hp
  ·exact h.dn q (by omega) h2⟩
theorem PartR.swap{P:α->Prop}{a e mu i k:Nat}{M:List α}(h:PartR P a e mu i (k+1) M)(hM:e<=M.length)(hij:i<=k+1)(hi:¬P (M.getD i default))(hj:P (M.getD (k+1) default)):PartR P a e (k+1-(i+1)) (i+1) k (swp M i (k+1))/\k+1-(i+1)<mu:=by
 have hne:i≠k+1:=λe=>hi (by rw[e];exact hj);have hh:=h.hi;have hlo:=h.lo;have hmu:=h.mu;refine⟨⟨by omega,by omega,by omega,aZ _,λp h1 h2=>?_,λq h1 h2=>?_⟩,by omega⟩
 ·rw[fC (by omega) (by omega),if_neg (by omega)];by_cases e:p=i
  ·rw[if_pos e];exact hj
  ·rw[if_neg e];exact h.up p h1 (by omega)
 ·rw[fC (by omega) (by omega)];by_cases e:q=k+1
  ·rw[if_pos e];exact hi
  ·rw[if_neg e,if_neg (by omega)];exact h.dn q (by omega) h2
theorem uD{M:List α}{i j k:Nat}(hi:i<M.length)(hj:j<M.length)(h1:k≠i)(h2:k≠j):(swp M i j).getD k default=M.getD k default:=by
 rw[fC hi hj,if_neg h2,if_neg h1]
attribute [local irreducible] aE ai be aP aJ aK ay aL aR bn Go.Abs.Fn aO Go.Abs.Pure ak aD Yl
theorem PartR.done{P:α->Prop}{a e mu i j:Nat}{M:List α}{v:α}(hK:Ord K)(h:PartR P a e mu i j M)(hM:e<=M.length)(hji:j<i)(hv:M.getD a default=v)(hP:∀x,P x↔K x v<0):a<=j/\j<e/\(∀p,a<=p->p<j->K ((swp M j a).getD p default) ((swp M j a).getD j default)<0)/\(∀q,j<q->q<e->¬K ((swp M j a).getD q default) ((swp M j a).getD j default)<0):=by
 have hlo:=h.lo;have hmid:=h.mid;have hhi:=h.hi
 have ej:(swp M j a).getD j default=v:=by
  rw[fC (by omega) (by omega)];split
  ·rename_i e;rw[e,hv]
  ·rw[if_pos rfl,hv]
 rw[ej];refine⟨by omega,by omega,λp h1 h2=>?_,λq h1 h2=>?_⟩
 ·rw[fC (by omega) (by omega)];by_cases e:p=a
  ·rw[if_pos e];exact(hP _).1 (h.up j (by omega) hji)
  ·rw[if_neg e,if_neg (by omega)];exact(hP _).1 (h.up p (by omega) (by omega))
 ·rw[fC (by omega) (by omega),if_neg (by omega),if_neg (by omega),<-hP];exact h.dn q h1 h2
theorem Gy(hc:Cmp Tryz.prog f K G g caps){L:List α}{H:Hp}{b nx n a e pv:Nat}(hH:H b=some (L.map f))(hn:L.length=n)(hG:∀x∈L,G x)(hae:a<e)(hen:e<=n)(hn2:n<=1000000000)(hpv:a<=pv/\pv<e):
    Abs.Fn Tryz.prog 142 [.msl b n 1 0 n,.int .i64 a,.int .i64 e,.int .i64 pv,.func g caps] H nx λr H' nx'=>nx'=nx/\∃(L':List α)(m:Nat),r=.int .i64 m/\a<m/\m<=e/\H'=ar H b (L'.map f)/\PermR a e L L'/\(∀p,a<=p->p<m->¬K (L.getD pv default) (L'.getD p default)<0)/\(∀q,m<=q->q<e->K (L.getD pv default) (L'.getD q default)<0):=by
 have dcap:=hc.dcaps;obtain⟨v,hv0⟩:∃v,L.getD pv default=v:=⟨_,rfl⟩
 rw[hv0];obtain⟨P,hP⟩:∃P:α->Prop,∀x,P x↔ ¬K v x<0:=⟨_,λ_=>Iff.rfl⟩
 obtain⟨N,hN⟩:∃N,swp L a pv=N:=⟨_,rfl⟩
 have hp1:PermR a e L N:=hN▸PermR.swap (by omega) (by omega) (by omega)
 have hv1:N.getD a default=v:=by
  rw[<-hN,fC (by omega) (by omega),<-hv0];split
  ·rename_i h;rw[h]
  ·rw[if_pos rfl]
 obtain⟨M1,hl1,lm1,lm2⟩:=eC (f:=f) (M:=L) (i:=a) (j:=pv) (by omega) (by omega);rw[hN] at lm2;have lm3:=lm2;simp only[bE,dJ,hZ,cp] at lm1 lm2;obtain⟨m,hm⟩:∃m,e=m+1:=⟨e-1,by omega⟩
 have te:(e:Int)-1=(m:Int):=by omega
 have ta:((a:Nat):Int)+1=((a+1:Nat):Int):=by omega
 refine fO K7 ?_;simp only[LN,aw];refine wnZ (zI8 @hH @te @ta @bQ hc.cells hc.one @lm1 @lm2) ?_;refine bj (X:=Nat×Nat×List α) (λx=>[(0,.msl b n 1 0 n),(1,.int .i64 a),(4,.func g caps),(11,.int .i64 (x.1:Nat)),(12,.int .i64 (x.2.1:Nat))]) (λx H' nxx=>PartR P a e (x.2.1+1-x.1) x.1 x.2.1 x.2.2/\H'=ar H b (x.2.2.map f)/\nx=nxx/\PermR a e L x.2.2/\x.2.2.getD a default=v) (λx=>x.2.1+1-x.1) (a+1,m,N) ⟨by dsimp only;rw[hm];exact .start (by omega),by dsimp only;rw[bf,lm3],rfl,hp1,hv1⟩ ag0 ?_;clear lm1 lm2 lm3 hl1 M1 hp1 hv1 hN N te ta hm m;rintro⟨i,j,M⟩ H' nxx ⟨hpt,rfl,rfl,hp,hv⟩;dsimp only at *;have hl:M.length=n:=by rw[hp.len,hn]
 have hGM:=hp.mem hG;generalize hmu:j+1-i=mu at hpt |-;clear hmu;obtain⟨T,hT,t0,t1,t4,t11,t12⟩:∃T,tl [(0,.msl b n 1 0 n),(1,.int .i64 a),(4,.func g caps),(11,.int .i64 (i:Nat)),(12,.int .i64 (j:Nat))]=T/\T 0=.msl b n 1 0 n/\T 1=.int .i64 a/\T 4=.func g caps/\T 11=.int .i64 (i:Nat)/\T 12=.int .i64 (j:Nat):=⟨_,rfl,rfl,rfl,rfl,rfl,rfl⟩
 rw[hT];clear hT;refine lW ?_;refine cS (λT H'' nx''=>∃i:Nat,PartR P a e mu i j M/\(i<=j->¬P (M.getD i default))/\T 0=.msl b n 1 0 n/\T 1=.int .i64 a/\T 4=.func g caps/\T 11=.int .i64 (i:Nat)/\T 12=.int .i64 (j:Nat)/\H''=ar H b ((M).map f)/\nx=nx'') ?_ ?_
 ·refine wnZ (zI5 @t0 @t1 @t4 @t11 @t12) ?_;refine bj (X:=Nat) (λi=>[(0,.msl b n 1 0 n),(1,.int .i64 a),(4,.func g caps),(11,.int .i64 (i:Nat)),(12,.int .i64 (j:Nat))]) (λi H' nxx=>PartR P a e mu i j M/\H'=ar H b (M.map f)/\nx=nxx) (λi=>j+1-i) i ⟨hpt,rfl,rfl⟩ (have zz:=aI @t0 (aI @t1 (aI @t4 (aI @t11 @t12)));agZ) ?_;clear t0 t1 t4 t11 t12 hpt i;rintro i H' nxx ⟨hpt,rfl,rfl⟩;have hlo:=hpt.lo;have hmid:=hpt.mid;have hhi:=hpt.hi;have ii:((i:Nat):Int)+1=((i+1:Nat):Int):=by omega
  by_cases hij:j<i
  ·refine wkZ and_self ?_;exact⟨i,hpt,λh=>absurd h (by omega),rfl,rfl,rfl,rfl,rfl,rfl,rfl⟩
  have lc:=hc.run (M.getD (a) default) (M.getD (i) default) (hGM _ (au (by omega))) (hGM _ (au (by omega)));have e1:=hc.dat (M.getD (a) default);have e2:=hc.dat (M.getD (i) default);have hPk:P (M.getD (i) default)↔ ¬K (M.getD (a) default) (M.getD (i) default)<0:=by rw[hP,hv]
  generalize hKK:K (M.getD (a) default) (M.getD (i) default)=kk at lc hPk;by_cases hlt:kk<0
  ·have zz:=aI @ii (aI @bQ (aI hc.cells hc.one));repeat' (first|refine zW ?_|refine zM ?_|apply a_n|apply a_x|refine zO ?_|refine vZ ?_|refine cZ ?_ (hp:=lc) (hs:=by(first|refine aC ?_ rfl|apply aQ);(repeat' (first|exact aj|apply bB|apply a8|exact e1|exact e2|exact a9 dcap));first|done|fail)|refine gTZ ?_|(refine zGZ ?_ ?_<;>(intro _hg;try (exfalso;omega)))|fail)
   exact⟨i,hpt,λ_=>(by rw[hPk];first|exact hlt|exact λh=>h hlt),rfl,rfl,rfl,rfl,rfl,rfl,rfl⟩
  ·have zz:=aI @ii (aI @bQ (aI hc.cells hc.one));repeat' (first|refine zW ?_|refine zM ?_|apply a_n|refine zO ?_|refine vZ ?_|refine cZ ?_ (hp:=lc) (hs:=by(first|refine aC ?_ rfl|apply aQ);(repeat' (first|exact aj|apply bB|apply a8|exact e1|exact e2|exact a9 dcap));first|done|fail)|refine gTZ ?_|(refine zGZ ?_ ?_<;>(intro _hg;try (exfalso;omega)))|fail)
   exact⟨i+1,by omega,⟨hpt.stepUp (by omega) (by rw[hPk];exact hlt),rfl,rfl⟩,ag0⟩
 clear t0 t1 t4 t11 t12 hpt i;rintro T _ _ ⟨i,hpt,hni,t0,t1,t4,t11,t12,rfl,rfl⟩;refine cS (λT H'' nx''=>∃j:Nat,PartR P a e mu i j M/\(i<=j->¬P (M.getD i default))/\(i<=j->P (M.getD j default))/\T 0=.msl b n 1 0 n/\T 1=.int .i64 a/\T 4=.func g caps/\T 11=.int .i64 (i:Nat)/\T 12=.int .i64 (j:Nat)/\H''=ar H b ((M).map f)/\nx=nx'') ?_ ?_
 ·refine wnZ (zI5 @t0 @t1 @t4 @t11 @t12) ?_;refine bj (X:=Nat) (λj=>[(0,.msl b n 1 0 n),(1,.int .i64 a),(4,.func g caps),(11,.int .i64 (i:Nat)),(12,.int .i64 (j:Nat))]) (λj H' nxx=>PartR P a e mu i j M/\(i<=j->¬P (M.getD i default))/\H'=ar H b (M.map f)/\nx=nxx) (λj=>j) j ⟨hpt,hni,rfl,rfl⟩ (have zz:=aI @t0 (aI @t1 (aI @t4 (aI @t11 @t12)));agZ) ?_;clear t0 t1 t4 t11 t12 hpt hni j;rintro j H' nxx ⟨hpt,hni,rfl,rfl⟩;have hlo:=hpt.lo;have hmid:=hpt.mid;have hhi:=hpt.hi;by_cases hij:j<i
  ·refine wkZ and_self ?_;exact⟨j,hpt,hni,λh=>absurd h (by omega),rfl,rfl,rfl,rfl,rfl,rfl,rfl⟩
  obtain⟨k,rfl⟩:∃k,j=k+1:=⟨j-1,by omega⟩
  have tk:((k+1:Nat):Int)-1=(k:Int):=by omega
  have lc:=hc.run (M.getD (a) default) (M.getD (k+1) default) (hGM _ (au (by omega))) (hGM _ (au (by omega)));have e1:=hc.dat (M.getD (a) default);have e2:=hc.dat (M.getD (k+1) default);have hPk:P (M.getD (k+1) default)↔ ¬K (M.getD (a) default) (M.getD (k+1) default)<0:=by rw[hP,hv]
  generalize hKK:K (M.getD (a) default) (M.getD (k+1) default)=kk at lc hPk;by_cases hlt:kk<0
  ·have zz:=aI @tk (aI @bQ (aI hc.cells hc.one));repeat' (first|refine zW ?_|refine zM ?_|apply a_n|refine zO ?_|refine vZ ?_|refine cZ ?_ (hp:=lc) (hs:=by(first|refine aC ?_ rfl|apply aQ);(repeat' (first|exact aj|apply bB|apply a8|exact e1|exact e2|exact a9 dcap));first|done|fail)|refine gTZ ?_|(refine zGZ ?_ ?_<;>(intro _hg;try (exfalso;omega)))|fail)
   exact⟨k,by omega,⟨hpt.stepDn (by omega) (by rw[hPk];first|exact hlt|exact λh=>h hlt),λ_=>hni (by omega),rfl,rfl⟩,ag0⟩
  ·have zz:=aI @tk (aI @bQ (aI hc.cells hc.one));repeat' (first|refine zW ?_|refine zM ?_|apply a_n|apply a_x|refine zO ?_|refine vZ ?_|refine cZ ?_ (hp:=lc) (hs:=by(first|refine aC ?_ rfl|apply aQ);(repeat' (first|exact aj|apply bB|apply a8|exact e1|exact e2|exact a9 dcap));first|done|fail)|refine gTZ ?_|(refine zGZ ?_ ?_<;>(intro _hg;try (exfalso;omega)))|fail)
   exact⟨k+1,hpt,hni,λ_=>(by rw[hPk];exact hlt),rfl,rfl,rfl,rfl,rfl,rfl,rfl⟩
 clear t0 t1 t4 t11 t12 hpt hni j;rintro T _ _ ⟨j,hpt,hni,hnj,t0,t1,t4,t11,t12,rfl,rfl⟩;have hlo:=hpt.lo;have hmid:=hpt.mid;have hhi:=hpt.hi;by_cases hji:j<i
 ·refine wnZ (zI5 @t0 @t1 @t4 @t11 @t12) ?_;refine⟨rfl,M,i,rfl,by omega,by omega,rfl,hp,λp h1 h2=>?_,λq h1 h2=>by have:=hpt.dn q (by omega) h2;rw[hP] at this;exact Dy this⟩;by_cases ep:p=a
  ·rw[ep,hv];exact hc.ord.irr _
  ·exact(hP _).1 (hpt.up p (by omega) h2)
 obtain⟨k,rfl⟩:∃k,j=k+1:=⟨j-1,by omega⟩
 have tk:((k+1:Nat):Int)-1=(k:Int):=by omega
 have ii:((i:Nat):Int)+1=((i+1:Nat):Int):=by omega
 obtain⟨M1,hl1,lm1,lm2⟩:=eC (f:=f) (M:=M) (i:=i) (j:=k+1) (by omega) (by omega);have lm3:=lm2;simp only[bE,dJ,hZ,cp] at lm1 lm2;refine wnZ (aI @t0 (aI @t1 (fk @t4 @t11 @t12 @tk @ii @bQ hc.cells hc.one @lm1 @lm2))) ?_;obtain⟨hq1,hq2⟩:=hpt.swap (by omega) (by omega) (hni (by omega)) (hnj (by omega));exact⟨(i+1,k,swp M i (k+1)),hq2,⟨hq1,by dsimp only;rw[bf,bf,lm3],rfl,hp.trans (PermR.swap (by omega) (by omega) (by omega)),by dsimp only;rw[uD (by omega) (by omega) (by omega) (by omega)];exact hv⟩,(have zz:=aI @t0 (aI @t1 (aI @t4 (aI @t11 @t12)));agZ)⟩
theorem Kk(hc:Cmp Tryz.prog f K G g caps){L:List α}{H:Hp}{b nx n a e pv:Nat}(hH:H b=some (L.map f))(hn:L.length=n)(hG:∀x∈L,G x)(hae:a<e)(hen:e<=n)(hn2:n<=1000000000)(hpv:a<=pv/\pv<e):
    Abs.Fn Tryz.prog 143 [.msl b n 1 0 n,.int .i64 a,.int .i64 e,.int .i64 pv,.func g caps] H nx λr H' nx'=>nx'=nx/\∃(L':List α)(m:Nat)(t:Bool),r=.tup [.int .i64 m,.bool t]/\a<=m/\m<e/\H'=ar H b (L'.map f)/\PermR a e L L'/\(∀p,a<=p->p<m->K (L'.getD p default) (L'.getD m default)<0)/\(∀q,m<q->q<e->¬K (L'.getD q default) (L'.getD m default)<0):=by
 have dcap:=hc.dcaps;obtain⟨v,hv0⟩:∃v,L.getD pv default=v:=⟨_,rfl⟩
 obtain⟨P,hP⟩:∃P:α->Prop,∀x,P x↔K x v<0:=⟨_,λ_=>Iff.rfl⟩
 obtain⟨M,hN⟩:∃N,swp L a pv=N:=⟨_,rfl⟩
 have hp:PermR a e L M:=hN▸PermR.swap (by omega) (by omega) (by omega)
 have hv:M.getD a default=v:=by
  rw[<-hN,fC (by omega) (by omega),<-hv0];split
  ·rename_i h;rw[h]
  ·rw[if_pos rfl]
 obtain⟨M1,hl1,lm1,lm2⟩:=eC (f:=f) (M:=L) (i:=a) (j:=pv) (by omega) (by omega);rw[hN] at lm2;have lm3:=lm2;simp only[bE,dJ,hZ,cp] at lm1 lm2;obtain⟨m,hm⟩:∃m,e=m+1:=⟨e-1,by omega⟩
 have te:(e:Int)-1=(m:Int):=by omega
 have ta:((a:Nat):Int)+1=((a+1:Nat):Int):=by omega
 refine fO NB ?_;simp only[Lk,aw];refine cS (λT H'' nx''=>T 0=.msl b n 1 0 n/\T 1=.int .i64 a/\T 2=.int .i64 e/\T 3=.int .i64 pv/\T 4=.func g caps/\H=H''/\nx=nx'') ?_ ?_
 ·refine wnZ and_self ?_;exact⟨rfl,rfl,rfl,rfl,rfl,rfl,rfl⟩
 rintro T _ _ ⟨t0,t1,t2,t3,t4,rfl,rfl⟩;refine cS (λT H'' nx''=>T 0=.msl b n 1 0 n/\T 1=.int .i64 a/\T 2=.int .i64 e/\T 3=.int .i64 pv/\T 4=.func g caps/\H''=ar H b (M.map f)/\nx=nx'') ?_ ?_
 ·refine wnZ (aI @t0 (fk @t1 @t2 @t3 @t4 @hH @bQ hc.cells hc.one @lm1 @lm2)) ?_;exact⟨(have zz:=@t0;evZ),(have zz:=@t1;evZ),(have zz:=@t2;evZ),(have zz:=@t3;evZ),(have zz:=@t4;evZ),by rw[bf,lm3],rfl⟩
 clear t0 t1 t2 t3 t4 lm1 lm2 lm3 hl1 M1 hN;rintro T _ _ ⟨t0,t1,t2,t3,t4,rfl,rfl⟩;refine cS (λT H'' nx''=>∃mu i j:Nat,PartR P a e mu i j M/\T 0=.msl b n 1 0 n/\T 1=.int .i64 a/\T 4=.func g caps/\T 12=.int .i64 (i:Nat)/\T 13=.int .i64 (j:Nat)/\H''=ar H b ((M).map f)/\nx=nx'') ?_ ?_
 ·refine wnZ (zI7 @t0 @t1 @t2 @t3 @t4 @ta @te) ?_;exact⟨_,a+1,m,by rw[hm];exact .start (by omega),(have zz:=@t0;evZ),(have zz:=@t1;evZ),(have zz:=@t4;evZ),ev0,ev0,rfl,rfl⟩
 clear t0 t1 t2 t3 t4 ta te hm m;rintro T _ _ ⟨mu,i,j,hpt,t0,t1,t4,t12,t13,rfl,rfl⟩;have hl:M.length=n:=by rw[hp.len,hn]
 have hGM:=hp.mem hG;refine cS (λT H'' nx''=>∃i:Nat,PartR P a e mu i j M/\(i<=j->¬P (M.getD i default))/\T 0=.msl b n 1 0 n/\T 1=.int .i64 a/\T 4=.func g caps/\T 12=.int .i64 (i:Nat)/\T 13=.int .i64 (j:Nat)/\H''=ar H b ((M).map f)/\nx=nx'') ?_ ?_
 ·refine wnZ (zI5 @t0 @t1 @t4 @t12 @t13) ?_;refine bj (X:=Nat) (λi=>[(0,.msl b n 1 0 n),(1,.int .i64 a),(4,.func g caps),(12,.int .i64 (i:Nat)),(13,.int .i64 (j:Nat))]) (λi H' nxx=>PartR P a e mu i j M/\H'=ar H b (M.map f)/\nx=nxx) (λi=>j+1-i) i ⟨hpt,rfl,rfl⟩ (have zz:=aI @t0 (aI @t1 (aI @t4 (aI @t12 @t13)));agZ) ?_;clear t0 t1 t4 t12 t13 hpt i;rintro i H' nxx ⟨hpt,rfl,rfl⟩;have hlo:=hpt.lo;have hmid:=hpt.mid;have hhi:=hpt.hi;have ii:((i:Nat):Int)+1=((i+1:Nat):Int):=by omega
  by_cases hij:j<i
  ·refine wkZ and_self ?_;exact⟨i,hpt,λh=>absurd h (by omega),rfl,rfl,rfl,rfl,rfl,rfl,rfl⟩
  have lc:=hc.run (M.getD (i) default) (M.getD (a) default) (hGM _ (au (by omega))) (hGM _ (au (by omega)));have e1:=hc.dat (M.getD (i) default);have e2:=hc.dat (M.getD (a) default);have hPk:P (M.getD (i) default)↔K (M.getD (i) default) (M.getD (a) default)<0:=by rw[hP,hv]
  generalize hKK:K (M.getD (i) default) (M.getD (a) default)=kk at lc hPk;by_cases hlt:kk<0
  ·have zz:=aI @ii (aI @bQ (aI hc.cells hc.one));repeat' (first|refine zW ?_|refine zM ?_|apply a_n|refine zO ?_|refine vZ ?_|refine cZ ?_ (hp:=lc) (hs:=by(first|refine aC ?_ rfl|apply aQ);(repeat' (first|exact aj|apply bB|apply a8|exact e1|exact e2|exact a9 dcap));first|done|fail)|refine gTZ ?_|(refine zGZ ?_ ?_<;>(intro _hg;try (exfalso;omega)))|fail)
   exact⟨i+1,by omega,⟨hpt.stepUp (by omega) (by rw[hPk];exact hlt),rfl,rfl⟩,ag0⟩
  ·have zz:=aI @ii (aI @bQ (aI hc.cells hc.one));repeat' (first|refine zW ?_|refine zM ?_|apply a_n|apply a_x|refine zO ?_|refine vZ ?_|refine cZ ?_ (hp:=lc) (hs:=by(first|refine aC ?_ rfl|apply aQ);(repeat' (first|exact aj|apply bB|apply a8|exact e1|exact e2|exact a9 dcap));first|done|fail)|refine gTZ ?_|(refine zGZ ?_ ?_<;>(intro _hg;try (exfalso;omega)))|fail)
   exact⟨i,hpt,λ_=>(by rw[hPk];first|exact hlt|exact λh=>h hlt),rfl,rfl,rfl,rfl,rfl,rfl,rfl⟩
 clear t0 t1 t4 t12 t13 hpt i;rintro T _ _ ⟨i,hpt,hni,t0,t1,t4,t12,t13,rfl,rfl⟩;refine cS (λT H'' nx''=>∃j:Nat,PartR P a e mu i j M/\(i<=j->¬P (M.getD i default))/\(i<=j->P (M.getD j default))/\T 0=.msl b n 1 0 n/\T 1=.int .i64 a/\T 4=.func g caps/\T 12=.int .i64 (i:Nat)/\T 13=.int .i64 (j:Nat)/\H''=ar H b ((M).map f)/\nx=nx'') ?_ ?_
 ·refine wnZ (zI5 @t0 @t1 @t4 @t12 @t13) ?_;refine bj (X:=Nat) (λj=>[(0,.msl b n 1 0 n),(1,.int .i64 a),(4,.func g caps),(12,.int .i64 (i:Nat)),(13,.int .i64 (j:Nat))]) (λj H' nxx=>PartR P a e mu i j M/\(i<=j->¬P (M.getD i default))/\H'=ar H b (M.map f)/\nx=nxx) (λj=>j) j ⟨hpt,hni,rfl,rfl⟩ (have zz:=aI @t0 (aI @t1 (aI @t4 (aI @t12 @t13)));agZ) ?_;clear t0 t1 t4 t12 t13 hpt hni j;rintro j H' nxx ⟨hpt,hni,rfl,rfl⟩;have hlo:=hpt.lo;have hmid:=hpt.mid;have hhi:=hpt.hi;by_cases hij:j<i
  ·refine wkZ and_self ?_;exact⟨j,hpt,hni,λh=>absurd h (by omega),rfl,rfl,rfl,rfl,rfl,rfl,rfl⟩
  obtain⟨k,rfl⟩:∃k,j=k+1:=⟨j-1,by omega⟩
  have tk:((k+1:Nat):Int)-1=(k:Int):=by omega
  have lc:=hc.run (M.getD (k+1) default) (M.getD (a) default) (hGM _ (au (by omega))) (hGM _ (au (by omega)));have e1:=hc.dat (M.getD (k+1) default);have e2:=hc.dat (M.getD (a) default);have hPk:P (M.getD (k+1) default)↔K (M.getD (k+1) default) (M.getD (a) default)<0:=by rw[hP,hv]
  generalize hKK:K (M.getD (k+1) default) (M.getD (a) default)=kk at lc hPk;by_cases hlt:kk<0
  ·have zz:=aI @tk (aI @bQ (aI hc.cells hc.one));repeat' (first|refine zW ?_|refine zM ?_|apply a_n|apply a_x|refine zO ?_|refine vZ ?_|refine cZ ?_ (hp:=lc) (hs:=by(first|refine aC ?_ rfl|apply aQ);(repeat' (first|exact aj|apply bB|apply a8|exact e1|exact e2|exact a9 dcap));first|done|fail)|refine gTZ ?_|(refine zGZ ?_ ?_<;>(intro _hg;try (exfalso;omega)))|fail)
   exact⟨k+1,hpt,hni,λ_=>(by rw[hPk];exact hlt),rfl,rfl,rfl,rfl,rfl,rfl,rfl⟩
  ·have zz:=aI @tk (aI @bQ (aI hc.cells hc.one));repeat' (first|refine zW ?_|refine zM ?_|apply a_n|refine zO ?_|refine vZ ?_|refine cZ ?_ (hp:=lc) (hs:=by(first|refine aC ?_ rfl|apply aQ);(repeat' (first|exact aj|apply bB|apply a8|exact e1|exact e2|exact a9 dcap));first|done|fail)|refine gTZ ?_|(refine zGZ ?_ ?_<;>(intro _hg;try (exfalso;omega)))|fail)
   exact⟨k,by omega,⟨hpt.stepDn (by omega) (by rw[hPk];first|exact hlt|exact λh=>h hlt),λ_=>hni (by omega),rfl,rfl⟩,ag0⟩
 clear t0 t1 t4 t12 t13 hpt hni j;rintro T _ _ ⟨j,hpt,hni,hnj,t0,t1,t4,t12,t13,rfl,rfl⟩;have hlo:=hpt.lo;have hmid:=hpt.mid;have hhi:=hpt.hi;by_cases hji:j<i
 ·clear hni hnj;obtain⟨z1,z2,z3,z4⟩:=hpt.done hc.ord (by omega) hji hv hP;obtain⟨M1,hl1,lm1,lm2⟩:=eC (f:=f) (M:=M) (i:=j) (j:=a) (by omega) (by omega);have lm3:=lm2;simp only[bE,dJ,hZ,cp] at lm1 lm2;refine wnZ (fk @t0 @t1 @t4 @t12 @t13 @bQ hc.cells hc.one @lm1 @lm2) ?_;exact⟨rfl,swp M j a,j,true,rfl,z1,z2,by rw[bf,bf,lm3],hp.trans (PermR.swap (by omega) (by omega) (by omega)),z3,z4⟩
 obtain⟨k,rfl⟩:∃k,j=k+1:=⟨j-1,by omega⟩
 have tk:((k+1:Nat):Int)-1=(k:Int):=by omega
 have ii:((i:Nat):Int)+1=((i+1:Nat):Int):=by omega
 obtain⟨M1,hl1,lm1,lm2⟩:=eC (f:=f) (M:=M) (i:=i) (j:=k+1) (by omega) (by omega);have lm3:=lm2;simp only[bE,dJ,hZ,cp] at lm1 lm2;refine wnZ (aI @t0 (aI @t1 (fk @t4 @t12 @t13 @tk @ii @bQ hc.cells hc.one @lm1 @lm2))) ?_;obtain⟨hq1,hq2⟩:=hpt.swap (by omega) (by omega) (hni (by omega)) (hnj (by omega));have hp2:PermR a e L (swp M i (k+1)):=hp.trans (PermR.swap (by omega) (by omega) (by omega));have hv2:(swp M i (k+1)).getD a default=v:=by rw[uD (by omega) (by omega) (by omega) (by omega)];exact hv
 refine bj (X:=Nat×Nat×List α) (λx=>[(0,.msl b n 1 0 n),(1,.int .i64 a),(4,.func g caps),(12,.int .i64 (x.1:Nat)),(13,.int .i64 (x.2.1:Nat))]) (λx H' nxx=>PartR P a e (x.2.1+1-x.1) x.1 x.2.1 x.2.2/\H'=ar H b (x.2.2.map f)/\nx=nxx/\PermR a e L x.2.2/\x.2.2.getD a default=v) (λx=>x.2.1+1-x.1) (i+1,k,swp M i (k+1)) ⟨hq1,by dsimp only;rw[bf,bf,lm3],rfl,hp2,hv2⟩ (have zz:=aI @t0 (aI @t1 (aI @t4 (aI @t12 @t13)));agZ) ?_;clear t0 t1 t4 t12 t13 lm1 lm2 lm3 hl1 M1 hp2 hv2 hq1 hq2 hpt hni hnj hp hv hGM;rintro⟨i,j,M⟩ H' nxx ⟨hpt,rfl,rfl,hp,hv⟩;dsimp only at *;have hl:M.length=n:=by rw[hp.len,hn]
 have hGM:=hp.mem hG;generalize hmu:j+1-i=mu at hpt |-;clear hmu;obtain⟨T,hT,t0,t1,t4,t12,t13⟩:∃T,tl [(0,.msl b n 1 0 n),(1,.int .i64 a),(4,.func g caps),(12,.int .i64 (i:Nat)),(13,.int .i64 (j:Nat))]=T/\T 0=.msl b n 1 0 n/\T 1=.int .i64 a/\T 4=.func g caps/\T 12=.int .i64 (i:Nat)/\T 13=.int .i64 (j:Nat):=⟨_,rfl,rfl,rfl,rfl,rfl,rfl⟩
 rw[hT];clear hT;refine lW ?_;refine cS (λT H'' nx''=>∃i:Nat,PartR P a e mu i j M/\(i<=j->¬P (M.getD i default))/\T 0=.msl b n 1 0 n/\T 1=.int .i64 a/\T 4=.func g caps/\T 12=.int .i64 (i:Nat)/\T 13=.int .i64 (j:Nat)/\H''=ar H b ((M).map f)/\nx=nx'') ?_ ?_
 ·refine wnZ (zI5 @t0 @t1 @t4 @t12 @t13) ?_;refine bj (X:=Nat) (λi=>[(0,.msl b n 1 0 n),(1,.int .i64 a),(4,.func g caps),(12,.int .i64 (i:Nat)),(13,.int .i64 (j:Nat))]) (λi H' nxx=>PartR P a e mu i j M/\H'=ar H b (M.map f)/\nx=nxx) (λi=>j+1-i) i ⟨hpt,rfl,rfl⟩ (have zz:=aI @t0 (aI @t1 (aI @t4 (aI @t12 @t13)));agZ) ?_;clear t0 t1 t4 t12 t13 hpt i;rintro i H' nxx ⟨hpt,rfl,rfl⟩;have hlo:=hpt.lo;have hmid:=hpt.mid;have hhi:=hpt.hi;have ii:((i:Nat):Int)+1=((i+1:Nat):Int):=by omega
  by_cases hij:j<i
  ·repeat' (first|refine zW ?_|refine zM ?_|apply a_n|apply a_x|refine zO ?_|refine vZ ?_|refine gFZ ?_|(refine zGZ ?_ ?_<;>(intro _hg;try (exfalso;omega)))|refine cFZ ?_|fail)
   exact⟨i,hpt,λh=>absurd h (by omega),rfl,rfl,rfl,rfl,rfl,rfl,rfl⟩
  have lc:=hc.run (M.getD (i) default) (M.getD (a) default) (hGM _ (au (by omega))) (hGM _ (au (by omega)));have e1:=hc.dat (M.getD (i) default);have e2:=hc.dat (M.getD (a) default);have hPk:P (M.getD (i) default)↔K (M.getD (i) default) (M.getD (a) default)<0:=by rw[hP,hv]
  generalize hKK:K (M.getD (i) default) (M.getD (a) default)=kk at lc hPk;by_cases hlt:kk<0
  ·have zz:=aI @ii (aI @bQ (aI hc.cells hc.one));repeat' (first|refine zW ?_|refine zM ?_|apply a_n|refine zO ?_|refine vZ ?_|refine cZ ?_ (hp:=lc) (hs:=by(first|refine aC ?_ rfl|apply aQ);(repeat' (first|exact aj|apply bB|apply a8|exact e1|exact e2|exact a9 dcap));first|done|fail)|refine gTZ ?_|(refine zGZ ?_ ?_<;>(intro _hg;try (exfalso;omega)))|fail)
   exact⟨i+1,by omega,⟨hpt.stepUp (by omega) (by rw[hPk];exact hlt),rfl,rfl⟩,ag0⟩
  ·have zz:=aI @ii (aI @bQ (aI hc.cells hc.one));repeat' (first|refine zW ?_|refine zM ?_|apply a_n|apply a_x|refine zO ?_|refine vZ ?_|refine cZ ?_ (hp:=lc) (hs:=by(first|refine aC ?_ rfl|apply aQ);(repeat' (first|exact aj|apply bB|apply a8|exact e1|exact e2|exact a9 dcap));first|done|fail)|refine gTZ ?_|(refine zGZ ?_ ?_<;>(intro _hg;try (exfalso;omega)))|fail)
   exact⟨i,hpt,λ_=>(by rw[hPk];first|exact hlt|exact λh=>h hlt),rfl,rfl,rfl,rfl,rfl,rfl,rfl⟩
 clear t0 t1 t4 t12 t13 hpt i;rintro T _ _ ⟨i,hpt,hni,t0,t1,t4,t12,t13,rfl,rfl⟩;refine cS (λT H'' nx''=>∃j:Nat,PartR P a e mu i j M/\(i<=j->¬P (M.getD i default))/\(i<=j->P (M.getD j default))/\T 0=.msl b n 1 0 n/\T 1=.int .i64 a/\T 4=.func g caps/\T 12=.int .i64 (i:Nat)/\T 13=.int .i64 (j:Nat)/\H''=ar H b ((M).map f)/\nx=nx'') ?_ ?_
 ·have zz:=aI @t0 (aI @t1 (aI @t4 (aI @t12 @t13)));repeat' (first|refine zW ?_|apply a_n|refine zO ?_|fail)
  refine bj (X:=Nat) (λj=>[(0,.msl b n 1 0 n),(1,.int .i64 a),(4,.func g caps),(12,.int .i64 (i:Nat)),(13,.int .i64 (j:Nat))]) (λj H' nxx=>PartR P a e mu i j M/\(i<=j->¬P (M.getD i default))/\H'=ar H b (M.map f)/\nx=nxx) (λj=>j) j ⟨hpt,hni,rfl,rfl⟩ (have zz:=aI @t0 (aI @t1 (aI @t4 (aI @t12 @t13)));agZ) ?_;clear zz;clear t0 t1 t4 t12 t13 hpt hni j;rintro j H' nxx ⟨hpt,hni,rfl,rfl⟩;have hlo:=hpt.lo;have hmid:=hpt.mid;have hhi:=hpt.hi;by_cases hij:j<i
  ·repeat' (first|refine zW ?_|refine zM ?_|apply a_n|apply a_x|refine zO ?_|refine vZ ?_|refine gFZ ?_|(refine zGZ ?_ ?_<;>(intro _hg;try (exfalso;omega)))|refine cFZ ?_|fail)
   exact⟨j,hpt,hni,λh=>absurd h (by omega),rfl,rfl,rfl,rfl,rfl,rfl,rfl⟩
  obtain⟨k,rfl⟩:∃k,j=k+1:=⟨j-1,by omega⟩
  have tk:((k+1:Nat):Int)-1=(k:Int):=by omega
  have lc:=hc.run (M.getD (k+1) default) (M.getD (a) default) (hGM _ (au (by omega))) (hGM _ (au (by omega)));have e1:=hc.dat (M.getD (k+1) default);have e2:=hc.dat (M.getD (a) default);have hPk:P (M.getD (k+1) default)↔K (M.getD (k+1) default) (M.getD (a) default)<0:=by rw[hP,hv]
  generalize hKK:K (M.getD (k+1) default) (M.getD (a) default)=kk at lc hPk;by_cases hlt:kk<0
  ·have zz:=aI @tk (aI @bQ (aI hc.cells hc.one));repeat' (first|refine zW ?_|refine zM ?_|apply a_n|apply a_x|refine zO ?_|refine vZ ?_|refine cZ ?_ (hp:=lc) (hs:=by(first|refine aC ?_ rfl|apply aQ);(repeat' (first|exact aj|apply bB|apply a8|exact e1|exact e2|exact a9 dcap));first|done|fail)|refine gTZ ?_|(refine zGZ ?_ ?_<;>(intro _hg;try (exfalso;omega)))|fail)
   exact⟨k+1,hpt,hni,λ_=>(by rw[hPk];exact hlt),rfl,rfl,rfl,rfl,rfl,rfl,rfl⟩
  ·have zz:=aI @tk (aI @bQ (aI hc.cells hc.one));repeat' (first|refine zW ?_|refine zM ?_|apply a_n|refine zO ?_|refine vZ ?_|refine cZ ?_ (hp:=lc) (hs:=by(first|refine aC ?_ rfl|apply aQ);(repeat' (first|exact aj|apply bB|apply a8|exact e1|exact e2|exact a9 dcap));first|done|fail)|refine gTZ ?_|(refine zGZ ?_ ?_<;>(intro _hg;try (exfalso;omega)))|fail)
   exact⟨k,by omega,⟨hpt.stepDn (by omega) (by rw[hPk];first|exact hlt|exact λh=>h hlt),λ_=>hni (by omega),rfl,rfl⟩,ag0⟩
 clear t0 t1 t4 t12 t13 hpt hni j;rintro T _ _ ⟨j,hpt,hni,hnj,t0,t1,t4,t12,t13,rfl,rfl⟩;have hlo:=hpt.lo;have hmid:=hpt.mid;have hhi:=hpt.hi;by_cases hji:j<i
 ·clear hni hnj;obtain⟨z1,z2,z3,z4⟩:=hpt.done hc.ord (by omega) hji hv hP;obtain⟨M1,hl1,lm1,lm2⟩:=eC (f:=f) (M:=M) (i:=j) (j:=a) (by omega) (by omega);have lm3:=lm2;simp only[bE,dJ,hZ,cp] at lm1 lm2;have zz:=aI @t0 (aI @t1 (aI @t4 (aI @t12 (aI @t13 (aI @bQ (aI hc.cells (aI hc.one (aI @lm1 @lm2))))))));repeat' (first|refine zW ?_|apply a_n|apply a_x|refine zO ?_|refine vZ ?_|refine stZ ?_|(refine zGZ ?_ ?_<;>(intro _hg;try (exfalso;omega)))|refine bk rfl ?_|refine r2Z ?_|fail)
  exact⟨rfl,swp M j a,j,false,rfl,z1,z2,by rw[bf,bf,lm3],hp.trans (PermR.swap (by omega) (by omega) (by omega)),z3,z4⟩
 obtain⟨k,rfl⟩:∃k,j=k+1:=⟨j-1,by omega⟩
 have tk:((k+1:Nat):Int)-1=(k:Int):=by omega
 have ii:((i:Nat):Int)+1=((i+1:Nat):Int):=by omega
 obtain⟨M1,hl1,lm1,lm2⟩:=eC (f:=f) (M:=M) (i:=i) (j:=k+1) (by omega) (by omega);have lm3:=lm2;simp only[bE,dJ,hZ,cp] at lm1 lm2;have zz:=aI @t0 (aI @t1 (aI @t4 (aI @t12 (aI @t13 (aI @tk (aI @ii (aI @bQ (aI hc.cells (aI hc.one (aI @lm1 @lm2))))))))));repeat' (first|refine zW ?_|apply a_n|refine zO ?_|refine vZ ?_|refine stZ ?_|(refine zGZ ?_ ?_<;>(intro _hg;try (exfalso;omega)))|fail)
 obtain⟨hq1,hq2⟩:=hpt.swap (by omega) (by omega) (hni (by omega)) (hnj (by omega));exact⟨(i+1,k,swp M i (k+1)),hq2,⟨hq1,by dsimp only;rw[bf,bf,lm3],rfl,hp.trans (PermR.swap (by omega) (by omega) (by omega)),by dsimp only;rw[uD (by omega) (by omega) (by omega) (by omega)];exact hv⟩,(have zz:=aI @t0 (aI @t1 (aI @t4 (aI @t12 @t13)));agZ)⟩
end
end Go.Proofs.YtmpcledaoigkaaaGreat
namespace Go.Proofs.YtmpcledaoigkaaaGreat
open Go Go.Abs
def ph(x:Nat):Nat:=if x=0 then 0 else Nat.log2 x+1
def s9:ByteArray:=ByteArray.mk (Array.mk [0,1,2,2,3,3,3,3,4,4,4,4,4,4,4,4,5,5,5,5,5,5,5,5,5,5,5,5,5,5,5,5,6,6,6,6,6,6,6,6,6,6,6,6,6,6,6,6,6,6,6,6,6,6,6,6,6,6,6,6,6,6,6,6,7,7,7,7,7,7,7,7,7,7,7,7,7,7,7,7,7,7,7,7,7,7,7,7,7,7,7,7,7,7,7,7,7,7,7,7,7,7,7,7,7,7,7,7,7,7,7,7,7,7,7,7,7,7,7,7,7,7,7,7,7,7,7,7,8,8,8,8,8,8,8,8,8,8,8,8,8,8,8,8,8,8,8,8,8,8,8,8,8,8,8,8,8,8,8,8,8,8,8,8,8,8,8,8,8,8,8,8,8,8,8,8,8,8,8,8,8,8,8,8,8,8,8,8,8,8,8,8,8,8,8,8,8,8,8,8,8,8,8,8,8,8,8,8,8,8,8,8,8,8,8,8,8,8,8,8,8,8,8,8,8,8,8,8,8,8,8,8,8,8,8,8,8,8,8,8,8,8,8,8,8,8,8,8,8,8,8,8,8,8,8,8])
theorem Ig(x:Nat):x<2^ph x:=by
 unfold ph;split
 ·omega
 ·exact Nat.lt_log2_self
theorem CQ{x:Nat}(h:0<x):2^ph x<=2*x:=by
 unfold ph;rw[if_neg (by omega),Nat.pow_succ];have:=Nat.log2_self_le (n:=x) (by omega);omega
theorem Aa{x:Nat}(hx:x<256):oT (.str (ByteArray.mk (Array.mk [0,1,2,2,3,3,3,3,4,4,4,4,4,4,4,4,5,5,5,5,5,5,5,5,5,5,5,5,5,5,5,5,6,6,6,6,6,6,6,6,6,6,6,6,6,6,6,6,6,6,6,6,6,6,6,6,6,6,6,6,6,6,6,6,7,7,7,7,7,7,7,7,7,7,7,7,7,7,7,7,7,7,7,7,7,7,7,7,7,7,7,7,7,7,7,7,7,7,7,7,7,7,7,7,7,7,7,7,7,7,7,7,7,7,7,7,7,7,7,7,7,7,7,7,7,7,7,7,8,8,8,8,8,8,8,8,8,8,8,8,8,8,8,8,8,8,8,8,8,8,8,8,8,8,8,8,8,8,8,8,8,8,8,8,8,8,8,8,8,8,8,8,8,8,8,8,8,8,8,8,8,8,8,8,8,8,8,8,8,8,8,8,8,8,8,8,8,8,8,8,8,8,8,8,8,8,8,8,8,8,8,8,8,8,8,8,8,8,8,8,8,8,8,8,8,8,8,8,8,8,8,8,8,8,8,8,8,8,8,8,8,8,8,8,8,8,8,8,8,8,8,8,8,8,8,8]))) (.int .u8 (x:Nat))=some (.int .u8 (ph x:Nat)):=by
 have h1:s9.size=256:=by decide+kernel
 have h2:∀i:Fin 256,(s9[i.val]?.getD 0).toNat=ph i.val:=by decide+kernel
 rw[SV2.2];have h3:=h2 ⟨x,hx⟩;change (if 0<=(x:Int)/\(x:Int)<s9.size then some (AV.int .u8 (s9[(x:Int).toNat]?.getD 0).toNat) else none)=_;rw[if_pos ⟨by omega,by rw[h1];omega⟩,bQ];simp only at h3;rw[h3]
theorem sQ{x s k:Nat}(hk:k=ph (x/2^s))(h:0<x/2^s):x<2^(k+s)/\2^(k+s)<=2*x:=by
 subst hk;have h1:=Ig (x/2^s);have h2:=CQ h;have hp:0<2^s:=Nat.pow_pos (by omega);rw[Nat.pow_add];constructor
 ·have:=(Nat.div_lt_iff_lt_mul hp).1 h1;exact this
 ·calc 2^ph (x/2^s)*2^s<=2*(x/2^s)*2^s:=jJ _ h2
    _=2*(x/2^s*2^s):=by rw[Nat.mul_assoc]
    _<=2*x:=Nat.mul_le_mul_left _ (Nat.div_mul_le_self x (2^s))
theorem lP{x:Nat}(hx:x<256):ph x<=8:=by
 rcases wZ x with e|e
 ·subst e;decide
 ·have h:=CQ e;rcases xX 8 (ph x) with h1|h1
  ·have:=Nat.pow_le_pow_right (n:=2) (by omega) h1;omega
  ·exact h1
theorem ig{x:Int}(h:0<=x)(h2:x<18446744073709551616):IntKind.wrap .u64 x=x:=by
 simp only[IntKind.bits,IntKind.wrap,IntKind.signed];simp;omega
theorem uV{x:Int}(h:0<=x)(h2:x<256):IntKind.wrap .u8 x=x:=by
 simp only[IntKind.bits,IntKind.wrap,IntKind.signed];simp;omega
def xr(a b:Int):Int:=IntKind.wrap .u64 (BitVec.ofInt 64 a ^^^ BitVec.ofInt 64 b).toNat
def LD(a:Int):Int:=IntKind.wrap .u64 (a*2^13)
def MW(a:Int):Int:=IntKind.wrap .u64 (a*2^17)
def sr7(a:Int):Int:=a.fdiv (2^7)
theorem SX:(∀a b:Int,bm .xor false false (.int .u64 a) (.int .u64 b)=some (.int .u64 (xr a b)))/\(∀a:Int,bm .shl false false (.int .u64 a) (.int .u64 13)=some (.int .u64 (LD a)))/\
    (∀a:Int,bm .shl false false (.int .u64 a) (.int .u64 17)=some (.int .u64 (MW a)))/\(∀a:Int,bm .shr false false (.int .u64 a) (.int .u64 7)=some (.int .u64 (sr7 a))):=
 ⟨λ_ _=>rfl,λ_=>rfl,λ_=>rfl,λ_=>rfl⟩
attribute [irreducible] xr LD MW sr7
attribute [local irreducible] aE ai be aP aJ aK ay aL aR bn Go.Abs.Fn aO Go.Abs.Pure ak aD Yl
theorem J3{H:Hp}{c nx:Nat}{s:Int}(hcc:H c=some [.int .u64 s]):Abs.Fn Tryz.prog 160 [.ptr c 1 0] H nx λr H' nx'=>nx'=nx/\∃s':Int,r=.int .u64 s'/\H'=ar H c [.int .u64 s']:=by
 refine fO M4 ?_;simp only[N9,aw];have ls:∀x y:AV,bE [x] 0 [y]=[y]:=λ_ _=>rfl;simp only[bE,dJ,hZ,cp] at ls;refine wnZ (zI4 @hcc @SV3 @SX @ls) ?_;exact⟨rfl,_,rfl,by rw[bf,bf];rfl⟩
set_option maxRecDepth 100000 in
theorem H8{H:Hp}{nx x:Nat}(hx:0<x)(h2:x<4294967296):Abs.Fn Tryz.prog 145 [.int .u64 x] H nx λr H' nx'=>nx'=nx/\H'=H/\∃k:Nat,r=.int .i64 k/\x<2^k/\2^k<=2*x:=by
 refine fO II ?_;simp only[KR,aw];generalize hT:AV.str (ByteArray.mk (Array.mk [0,1,2,2,3,3,3,3,4,4,4,4,4,4,4,4,5,5,5,5,5,5,5,5,5,5,5,5,5,5,5,5,6,6,6,6,6,6,6,6,6,6,6,6,6,6,6,6,6,6,6,6,6,6,6,6,6,6,6,6,6,6,6,6,7,7,7,7,7,7,7,7,7,7,7,7,7,7,7,7,7,7,7,7,7,7,7,7,7,7,7,7,7,7,7,7,7,7,7,7,7,7,7,7,7,7,7,7,7,7,7,7,7,7,7,7,7,7,7,7,7,7,7,7,7,7,7,7,8,8,8,8,8,8,8,8,8,8,8,8,8,8,8,8,8,8,8,8,8,8,8,8,8,8,8,8,8,8,8,8,8,8,8,8,8,8,8,8,8,8,8,8,8,8,8,8,8,8,8,8,8,8,8,8,8,8,8,8,8,8,8,8,8,8,8,8,8,8,8,8,8,8,8,8,8,8,8,8,8,8,8,8,8,8,8,8,8,8,8,8,8,8,8,8,8,8,8,8,8,8,8,8,8,8,8,8,8,8,8,8,8,8,8,8,8,8,8,8,8,8,8,8,8,8,8,8]))=tb;have htab:∀x:Nat,x<256->oT tb (.int .u8 (x:Nat))=some (.int .u8 (ph x:Nat)):=λx hx=>by rw[<-hT];exact Aa hx
 clear hT;have s16:∀z:Nat,bm .shr false false (.int .u64 (z:Nat)) (.int .u64 16)=some (.int .u64 ((z/2^16:Nat):Int)):=λz=>xA (b:=16) (k:=.u64) (k':=.u64) (by decide);have s8:∀z:Nat,bm .shr false false (.int .u64 (z:Nat)) (.int .u64 8)=some (.int .u64 ((z/2^8:Nat):Int)):=λz=>xA (b:=8) (k:=.u64) (k':=.u64) (by decide);by_cases h16:65536<=x
 ·obtain⟨y,hy⟩:∃y,x/2^16=y:=⟨_,rfl⟩
  have hy1:0<y:=by omega
  have hy2:y<65536:=by omega
  by_cases h8:256<=y
  ·obtain⟨z,hz⟩:∃z,y/2^8=z:=⟨_,rfl⟩
   have hz1:0<z:=by omega
   have hz2:z<256:=by omega
   have hl:=lP hz2;have w8:IntKind.wrap .u8 (z:Int)=z:=uV (by omega) (by omega);have ht:=htab z hz2;refine wnZ (zI6 @s16 @s8 @hy @hz @w8 @ht) ?_;have e:x/2^24=z:=by rw[<-hz,<-hy,Nat.div_div_eq_div_mul]
   exact⟨rfl,rfl,ph z+24,by congr 1;omega,sQ (by rw[e]) (by omega)⟩
  ·have hl:=lP (x:=y) (by omega);have w8:IntKind.wrap .u8 (y:Int)=y:=uV (by omega) (by omega);have ht:=htab y (by omega);refine wnZ (zI5 @s16 @s8 @hy @w8 @ht) ?_;exact⟨rfl,rfl,ph y+16,by congr 1;omega,sQ (by rw[hy]) (by omega)⟩
 ·by_cases h8:256<=x
  ·obtain⟨z,hz⟩:∃z,x/2^8=z:=⟨_,rfl⟩
   have hz1:0<z:=by omega
   have hz2:z<256:=by omega
   have hl:=lP hz2;have w8:IntKind.wrap .u8 (z:Int)=z:=uV (by omega) (by omega);have ht:=htab z hz2;refine wnZ (zI5 @s16 @s8 @hz @w8 @ht) ?_;exact⟨rfl,rfl,ph z+8,by congr 1;omega,sQ (by rw[hz]) (by omega)⟩
  ·have hl:=lP (x:=x) (by omega);have w8:IntKind.wrap .u8 (x:Int)=x:=uV (by omega) (by omega);have ht:=htab x (by omega);refine wnZ (aI @w8 @ht) ?_;exact⟨rfl,rfl,ph x+0,by congr 1;omega,sQ (s:=0) (by simp) (by simpa using hx)⟩
theorem I1{H:Hp}{nx x:Nat}(hx:0<x)(h2:x<4294967296):Abs.Fn Tryz.prog 111 [.int .u64 x] H nx λr H' nx'=>nx'=nx/\H'=H/\∃k:Nat,r=.int .i64 k/\x<2^k/\2^k<=2*x:=by
 refine fO I9 ?_;simp only[Ja,aw];refine wnZ and_self ?_;refine a7 ev0 ev0 (H8 hx h2) ?_;rintro _ _ _ ⟨rfl,rfl,k,rfl,h3,h4⟩;refine wnZ and_self ?_;exact⟨rfl,rfl,k,rfl,h3,h4⟩
theorem JF{H:Hp}{nx x:Nat}(hx:0<x)(h2:x<=1000000000):Abs.Fn Tryz.prog 159 [.int .i64 x] H nx λr H' nx'=>nx'=nx/\H'=H/\∃k:Nat,r=.int .u64 ((2^k:Nat):Int)/\x<2^k/\2^k<=2*x:=by
 have w:IntKind.wrap .u64 (x:Int)=x:=ig (by omega) (by omega);refine fO ND ?_;simp only[Me,aw];refine wnZ @w ?_;refine a7 ev0 (have zz:=@w;evZ) (I1 hx (by omega)) ?_;rintro _ _ _ ⟨rfl,rfl,k,rfl,h3,h4⟩
 have hk:k<=62:=by
  rcases xX 62 k with h|h
  ·have:=Nat.pow_le_pow_right (n:=2) (by omega) h;omega
  ·exact h
 have sh:bm .shl false false (.int .u64 1) (.int .i64 (k:Int))=some (.int .u64 ((2^k:Nat):Int)):=by
  have h:=Hz (k:=.u64) (k':=.i64) (a:=1) (b:=k) (tb:=false) (tf:=false) (by show k<=64;omega) (by show 1*2^k<2^63;omega);rw[Nat.one_mul] at h;exact h
 refine wnZ @sh ?_;exact⟨rfl,rfl,k,rfl,h3,h4⟩
end Go.Proofs.YtmpcledaoigkaaaGreat
namespace Go.Proofs.YtmpcledaoigkaaaGreat
open Go Go.Abs
open Nat (reduceEqDiff reduceAdd reduceLeDiff)
theorem GK{a:Int}{m:Nat}(hm:m<18446744073709551616):∃r:Nat,bm .and false false (.int .u64 a) (.int .u64 (m:Nat))=some (.int .u64 (r:Nat))/\r<=m:=by
 refine⟨(BitVec.ofInt 64 a).toNat &&& m,?_,Nat.and_le_right⟩;show(if (IntKind.u64=IntKind.u64) then eg .and .u64 a m else none)=_;rw[if_pos rfl]
 have h:(BitVec.ofInt 64 a &&& BitVec.ofInt 64 (m:Int)).toNat=(BitVec.ofInt 64 a).toNat &&& m:=by
  rw[BitVec.toNat_and]
  congr 1
  simp[BitVec.toNat_ofInt];omega
 have h2:(BitVec.ofInt 64 a).toNat &&& m<=m:=Nat.and_le_right;show some (AV.int .u64 (IntKind.wrap .u64 ((BitVec.ofInt 64 a &&& BitVec.ofInt 64 (m:Int)).toNat:Int)))=_;rw[h,ig (by omega) (by omega)]
structure PS(H H1:Hp)(nx n1 b:Nat)(cs:List AV):Prop where
 at_:H1 b=some cs
 fr:∀i,i<nx->i≠b->H1 i=H i
 le:nx<=n1
section
variable{H H1 H2:Hp}{nx n1 n2 b:Nat}{cs cs':List AV}
theorem PS.upd(h:PS H H1 nx n1 b cs):PS H (ar H1 b cs') nx n1 b cs':=⟨ac,λi k1 k2=>by rw[ab k2];exact h.fr i k1 k2,h.le⟩
theorem PS.new{v:List AV}(hb:b<nx)(h:PS H H1 nx n1 b cs):PS H (ar H1 n1 v) nx (n1+1) b cs:=
 have h1:=h.le
 ⟨by rw[ab (by omega)];exact h.at_,λi k1 k2=>by rw[ab (by omega)];exact h.fr i k1 k2,by omega⟩
theorem PS.rec_(h:PS H H1 nx n1 b cs)(h1:H2 b=some cs')(h2:∀i,i<n1->i≠b->H2 i=H1 i)(h3:n1<=n2):PS H H2 nx n2 b cs':=
 have h4:=h.le
 ⟨h1,λi k1 k2=>by rw[h2 i (by omega) k2];exact h.fr i k1 k2,by omega⟩
end
section
variable{α:Type}[Inhabited α]{f:α->AV}{K:α->α->Int}{G:α->Prop}{g:Nat}{caps:List AV}
structure PI{α:Type}[Inhabited α](K:α->α->Int)(a e:Nat)(L:List α)(a1 e1:Nat)(M:List α):Prop where
 lo:a<=a1
 mid:a1<=e1
 hi:e1<=e
 len:e<=L.length
 perm:PermR a e L M
 low:vS K a1 e1 M
 close:∀N,PermR a1 e1 M N->bA K a1 e1 N->bA K a e N
variable{a e a1 e1:Nat}{L M N:List α}
theorem PI.mlen(h:PI K a e L a1 e1 M):e1<=M.length:=by rw[h.perm.len];exact gf h.hi h.len
theorem PI.start(h1:a<=e)(h2:e<=L.length)(h3:vS K a e L):PI K a e L a e L:=⟨aZ _,h1,aZ _,h2,.refl,h3,λ_ _ h=>h⟩
theorem PI.swap(h:PI K a e L a1 e1 M)(hp:PermR a1 e1 M N):PI K a e L a1 e1 N:=
 ⟨h.lo,h.mid,h.hi,h.len,h.perm.trans (hp.mono h.lo h.hi),h.low.perm hp h.mid h.mlen,λN' k1 k2=>h.close N' (hp.trans k1) k2⟩
theorem PI.done(h:PI K a e L a1 e1 M)(hp:PermR a1 e1 M N)(hs:bA K a1 e1 N):PermR a e L N/\bA K a e N:=⟨h.perm.trans (hp.mono h.lo h.hi),h.close N hp hs⟩
theorem PI.equal{v:α}{m:Nat}(hK:Ord K)(h:PI K a e L a1 e1 M)(hp:PermR a1 e1 M N)(hv:¬K (M.getD (a1-1) default) v<0)(ha:0<a1)(hm:a1<m/\m<=e1)(h1:∀p,a1<=p->p<m->¬K v (N.getD p default)<0)(h2:∀q,m<=q->q<e1->K v (N.getD q default)<0):PI K a e L m e1 N:=by
 have hN:=h.swap hp;have hlow:=hN.low;have ho:N.getD (a1-1) default=M.getD (a1-1) default:=hp.out _ (.inl (by omega));refine⟨by have:=h.lo;omega,hm.2,h.hi,h.len,hN.perm,λq k0 k1 k2=>hK.negtr _ _ _ (h1 (m-1) (by omega) (by omega)) (hK.asym _ _ (h2 q k1 k2)),λN' k1 k2=>hN.close N' (k1.mono (by omega) (aZ _)) (λp q c1 c2 c3=>?_)⟩;by_cases e1':m<=p
 ·exact k2 p q e1' c2 c3
 ·rw[k1.out p (.inl (by omega))];refine hK.negtr _ _ _ (h1 p c1 (by omega)) ?_;by_cases e2:m<=q
  ·exact hK.asym _ _ (k1.all (p:=λx=>K v x<0) hm.2 hN.mlen h2 q e2 c3)
  ·rw[k1.out q (.inl (by omega))];exact hK.negtr _ _ _ hv (by rw[<-ho];exact hlow q ha (by omega) c3)
theorem bA.glue{m:Nat}(hK:Ord K)(h1:bA K a1 m N)(h2:bA K (m+1) e1 N)(h3:∀p,a1<=p->p<m->¬K (N.getD m default) (N.getD p default)<0)(h4:∀q,m<q->q<e1->¬K (N.getD q default) (N.getD m default)<0):bA K a1 e1 N:=λp q k1 k2 k3=>by
 by_cases c1:q<m
 ·exact h1 p q k1 k2 c1
 ·by_cases c2:m<p
  ·exact h2 p q c2 k2 k3
  ·by_cases c3:p=m
   ·subst c3;exact h4 q (by omega) k3
   ·by_cases c4:q=m
    ·subst c4;exact h3 p k1 k2
    ·exact hK.negtr _ _ _ (h3 p k1 (by omega)) (h4 q (by omega) k3)
structure TwoS{α:Type}[Inhabited α](K:α->α->Int)(a1 e1 m:Nat)(N:List α):Prop where
 mid:a1<=m/\m<e1
 lt:∀p,a1<=p->p<m->¬K (N.getD m default) (N.getD p default)<0
 ge:∀q,m<q->q<e1->¬K (N.getD q default) (N.getD m default)<0
theorem TwoS.left{m:Nat}{N':List α}(h:TwoS K a1 e1 m N)(hp:PermR a1 m N N')(hl:e1<=N.length):TwoS K a1 e1 m N':=
 have hm:=h.mid
 ⟨hm,by
  rw[hp.out m (.inr (aZ _))];exact hp.all (p:=λx=>¬K (N.getD m default) x<0) hm.1 (by omega) h.lt,λq k1 k2=>by rw[hp.out m (.inr (aZ _)),hp.out q (.inr (by omega))];exact h.ge q k1 k2⟩
theorem TwoS.right{m:Nat}{N':List α}(h:TwoS K a1 e1 m N)(hp:PermR (m+1) e1 N N')(hl:e1<=N.length):TwoS K a1 e1 m N':=
 have hm:=h.mid
 ⟨hm,fun p k1 k2=>by rw [hp.out m (.inl (by omega)),hp.out p (.inl (by omega))]; exact h.lt p k1 k2,by
  rw[hp.out m (.inl (by omega))];exact λq k1 k2=>hp.all (p:=λx=>¬K x (N.getD m default)<0) (by omega) hl (λi c1 c2=>h.ge i (by omega) c2) q (by omega) k2⟩
theorem PI.left{m:Nat}(hK:Ord K)(h:PI K a e L a1 e1 M)(ht:TwoS K a1 e1 m M)(hp:PermR a1 m M N)(hs:bA K a1 m N):PI K a e L (m+1) e1 N:=by
 have hm:=ht.mid;have hN:=h.swap (hp.mono (aZ _) (by omega));have htN:=ht.left hp h.mlen;refine⟨by have:=h.lo;omega,by omega,h.hi,h.len,hN.perm,λq k0 k1 k2=>by rw[uC];exact htN.ge q k1 k2,λN' k1 k2=>hN.close N' (k1.mono (by omega) (aZ _)) ?_⟩;have ht':=htN.right k1 hN.mlen;exact bA.glue hK (λp q c1 c2 c3=>by rw[k1.out p (.inl (by omega)),k1.out q (.inl (by omega))];exact hs p q c1 c2 c3) k2 ht'.lt ht'.ge
theorem PI.right{m:Nat}(hK:Ord K)(h:PI K a e L a1 e1 M)(ht:TwoS K a1 e1 m M)(hp:PermR (m+1) e1 M N)(hs:bA K (m+1) e1 N):PI K a e L a1 m N:=by
 have hm:=ht.mid;have hN:=h.swap (hp.mono (by omega) (aZ _));have htN:=ht.right hp h.mlen;refine⟨h.lo,hm.1,by have:=h.hi;omega,h.len,hN.perm,λq k0 k1 k2=>hN.low q k0 k1 (by omega),λN' k1 k2=>hN.close N' (k1.mono (aZ _) (by omega)) ?_⟩;have ht':=htN.left k1 hN.mlen;exact bA.glue hK k2 (λp q c1 c2 c3=>by rw[k1.out p (.inr (by omega)),k1.out q (.inr (by omega))];exact hs p q c1 c2 c3) ht'.lt ht'.ge
theorem vS.sub{a e a' e':Nat}{M:List α}(h:vS K a e M)(ha:a'=a)(he:e'<=e):vS K a' e' M:=λq k0 k1 k2=>by subst ha;exact h q k0 k1 (by omega)
end
def _root_.List.c2{α:Type}(l:List α)(f:α->AV):List AV:=l.flatMap λx=>(f x).cells
structure Cmp2{α:Type}(P:Program)(f:α->AV)(K:α->α->Int)(G:α->Prop)(g:Nat)(caps:List AV):Prop where
 len:∀x,(f x).cells.length=2
 agg:∀x,AV.agg (f x).cells=f x
 ones:∀x,AV.ones (f x).cells=true
 dat:∀x,Dat (f x)
 dcaps:∀x∈caps,Dat x
 run:∀x y,G x->G y->Go.Abs.Pure P g (f x::f y::caps) (.int .i64 (K x y))
 ord:Ord K
section
variable{α:Type}{f:α->AV}(h:∀x,(f x).cells.length=2)
include h
end
section
attribute [local irreducible] aE ai be aP aJ aK ay aL aR bn Go.Abs.Fn aO Go.Abs.Pure ak aD Yl
section
variable{α:Type}[Inhabited α]{f:α->AV}{K:α->α->Int}{G:α->Prop}{g:Nat}{caps:List AV}
theorem HI(hc:Cmp Tryz.prog f K G g caps){L:List α}{H:Hp}{b nx n a e:Nat}(hH:H b=some (L.map f))(hbx:b<nx)(hn:L.length=n)(hae:a+8<=e)(hen:e<=n)(hn2:n<=1000000000):
    Abs.Fn Tryz.prog 138 [.msl b n 1 0 n,.int .i64 a,.int .i64 e,.func g caps] H nx λr H' nx'=>nx'=nx+1/\∃L',H' b=some (L'.map f)/\(∀i,i<nx->i≠b->H' i=H i)/\PermR a e L L':=by
 obtain⟨l,rfl⟩:∃l,e=a+l:=⟨e-a,by omega⟩
 have te:((a+l:Nat):Int)-(a:Int)=(l:Int):=by omega
 obtain⟨w,hw⟩:∃w,a+l/4*2-1=w:=⟨_,rfl⟩
 have tq:bm .quo false false (.int .i64 (l:Int)) (.int .i64 4)=some (.int .i64 ((l/4:Nat):Int)):=by
  rw[pP (by omega) (by omega) (by omega)]
  congr 2
 have w1:(a:Int)+((l/4:Nat):Int)*2-1=(w:Int):=by omega
 have w2:(a:Int)+((l/4:Nat):Int)*2+1=((w+2:Nat):Int):=by omega
 have hbn:b≠nx:=by omega
 have wl:IntKind.wrap .u64 (l:Int)=l:=ig (by omega) (by omega);refine fO L9 ?_;simp only[ML,aw];have ls:∀x y:AV,bE [x] 0 [y]=[y]:=λ_ _=>rfl;simp only[bE,dJ,hZ,cp] at ls;refine wnZ (zI3 @te @wl @ls) ?_;refine a7 ev0 ev0 (JF (x:=l) (by omega) (by omega)) ?_;rintro _ _ _ ⟨rfl,rfl,k,rfl,hk1,hk2⟩;obtain⟨p,hp⟩:∃p,2^k=p+1:=⟨2^k-1,by omega⟩
 rw[hp] at hk1 hk2 |-;refine wnZ (zI3 @te @tq @w1) ?_;have wm:IntKind.wrap .u64 (((p+1:Nat):Int)-1)=(p:Int):=by rw[ig (by omega) (by omega)];omega
 refine bj (X:=Nat×List α) (λx=>[(0,.msl b n 1 0 n),(1,.int .i64 a),(8,.int .i64 l),(9,.ptr nx 1 0),(10,.int .u64 ((p+1:Nat):Int)),(11,.int .i64 (x.1:Nat))]) (λx H' nxx=>w<=x.1/\x.1<=w+3/\H' b=some (x.2.map f)/\(∃s,H' nx=some [.int .u64 s])/\(∀i,i<nx->i≠b->H' i=H i)/\nxx=nx+1/\PermR a (a+l) L x.2) (λx=>w+3-x.1) (w,L) ⟨aZ _,by dsimp only;omega,by dsimp only;rw[ab hbn];first|exact hH|(rw[ab hbn];exact hH),⟨_,ac⟩,λi h1 h2=>by rw[ab (by omega)];first|rfl|exact ab (by omega),rfl,.refl⟩ (by simp (disch:=omega) only[agr,ZG,reduceEqDiff,↓reduceIte,dJ,hZ,cp,true_and]) ?_;rintro⟨i,M⟩ H1 nxx ⟨h1,h2,hb1,⟨s,hs⟩,hfr,rfl,hp1⟩;dsimp only at *;have hl:M.length=n:=by rw[hp1.len,hn]
 by_cases hi:i=w+3
 ·subst hi;refine wnZ (aI @tq @w2) ?_;exact⟨rfl,M,hb1,hfr,hp1⟩
 have ti:((i:Nat):Int)+1=((i+1:Nat):Int):=by omega
 refine wnZ (aI @tq @w2) ?_;refine a7 ev0 ev0 (J3 hs) ?_;rintro _ _ _ ⟨rfl,s1,rfl,rfl⟩;obtain⟨r,hr1,hr2⟩:=GK (a:=s1) (m:=p) (by omega);obtain⟨H2,hH2⟩:∃H2,ar H1 nx [.int .u64 s1]=H2:=⟨_,rfl⟩
 have hb2:H2 b=some (M.map f):=by rw[<-hH2,ab hbn];exact hb1
 have hs2:H2 nx=some [.int .u64 s1]:=by rw[<-hH2];exact ac
 have hfr2:∀i,i<nx->i≠b->H2 i=H i:=λi k1 k2=>by rw[<-hH2,ab (by omega)];exact hfr i k1 k2
 rw[hH2];clear hH2 hb1 hs hfr
 obtain⟨z,hz,hzl⟩:∃z:Nat,(if l<=r then(r:Int)-l else(r:Int))=(z:Int)/\z<l:=by
  split
  ·exact⟨r-l,by omega,by omega⟩
  ·exact⟨r,rfl,by omega⟩
 obtain⟨M1,hl1,lm1,lm2⟩:=eC (f:=f) (M:=M) (i:=i) (j:=a+z) (by omega) (by omega);have lm3:=lm2;simp only[bE,dJ,hZ,cp] at lm1 lm2;by_cases hrl:l<=r
 ·rw[if_pos hrl] at hz;refine wnZ (fk @wm @hr1 @hz @hb2 @ti @iR hc.cells hc.one @lm1 @lm2) ?_;exact⟨(i+1,swp M i (a+z)),by dsimp only;omega,⟨by dsimp only;omega,by dsimp only;omega,by dsimp only;rw[bf,lm3,ac],⟨s1,by rw[bf,ab (Ne.symm hbn)];exact hs2⟩,λi k1 k2=>by rw[bf,ab k2];exact hfr2 i k1 k2,rfl,hp1.trans (PermR.swap (by omega) (by omega) (by omega))⟩,ag0⟩
 ·rw[if_neg hrl] at hz;have hz':r=z:=by omega
  subst hz';refine wnZ (zI9 @wm @hr1 @hb2 @ti @iR hc.cells hc.one @lm1 @lm2) ?_;exact⟨(i+1,swp M i (a+r)),by dsimp only;omega,⟨by dsimp only;omega,by dsimp only;omega,by dsimp only;rw[bf,lm3,ac],⟨s1,by rw[bf,ab (Ne.symm hbn)];exact hs2⟩,λi k1 k2=>by rw[bf,ab k2];exact hfr2 i k1 k2,rfl,hp1.trans (PermR.swap (by omega) (by omega) (by omega))⟩,ag0⟩
end
section
variable{α:Type}[Inhabited α]{f:α->AV}{K:α->α->Int}{G:α->Prop}{g:Nat}{caps:List AV}
theorem NC(hc:Cmp Tryz.prog f K G g caps){b n:Nat}(hn2:n<=1000000000):∀(sz a e lim:Nat)(L:List α)(H:Hp)(nx:Nat),e-a<sz->H b=some (L.map f)->b<nx->L.length=n->(∀x∈L,G x)->a<=e->e<=n->lim<=64->vS K a e L->
    Abs.Fn Tryz.prog 110 [.msl b n 1 0 n,.int .i64 a,.int .i64 e,.int .i64 lim,.func g caps] H nx λr H' nx'=>∃L',PS H H' nx nx' b (L'.map f)/\PermR a e L L'/\bA K a e L':=by
 intro sz
 induction sz with
 |zero=>intro a e lim L H nx h;omega
 |succ sz ih=>
 intro a e lim L H nx hsz hH hbx hn hG hae hen hlim hlow;have dcap:=hc.dcaps;refine fO IL ?_;simp only[Jn,aw];refine wnZ and_self ?_;refine bj (X:=Nat×Nat×Nat×Bool×Bool×List α) (λx=>[(0,.msl b n 1 0 n),(1,.int .i64 (x.1:Nat)),(2,.int .i64 (x.2.1:Nat)),(3,.int .i64 (x.2.2.1:Nat)),(4,.func g caps),(10,.bool x.2.2.2.1),(11,.bool x.2.2.2.2.1)]) (λx H' nxx=>PI K a e L x.1 x.2.1 x.2.2.2.2.2/\PS H H' nx nxx b (x.2.2.2.2.2.map f)/\x.2.2.1<=64) (λx=>x.2.1-x.1) (a,e,lim,true,true,L) ⟨.start hae (by rw[hn];exact hen) hlow,⟨hH,λ_ _ _=>rfl,aZ _⟩,hlim⟩ ag0 ?_;clear hlim hlow lim;rintro⟨a1,e1,lim,wb,wp,M⟩ H1 n1 ⟨hpi,hps,hlim⟩;dsimp only at *;have hlo:=hpi.lo;have hmid:=hpi.mid;have hhi:=hpi.hi;obtain⟨l,hl0⟩:∃l,e1-a1=l:=⟨_,rfl⟩
 rw[hl0];have te:(e1:Int)-(a1:Int)=(l:Int):=by omega
 have hlen:∀M:List α,PI K a e L a1 e1 M->M.length=n:=λM h=>by rw[h.perm.len,hn]
 have hGA:∀M:List α,PI K a e L a1 e1 M->∀x∈M,G x:=λM h=>h.perm.mem hG;have hbn:∀(M:List α)(H1:Hp)(n1:Nat),PS H H1 nx n1 b (M.map f)->b<n1:=λM H1 n1 h=>by have:=h.le;omega
 obtain⟨T,hT,t0,t1,t2,t3,t4,t10,t11⟩:∃T,tl [(0,.msl b n 1 0 n),(1,.int .i64 (a1:Nat)),(2,.int .i64 (e1:Nat)),(3,.int .i64 (lim:Nat)),(4,.func g caps),(10,.bool wb),(11,.bool wp)]=T/\T 0=.msl b n 1 0 n/\T 1=.int .i64 (a1:Nat)/\T 2=.int .i64 (e1:Nat)/\T 3=.int .i64 (lim:Nat)/\T 4=.func g caps/\T 10=.bool wb/\T 11=.bool wp:=⟨_,rfl,rfl,rfl,rfl,rfl,rfl,rfl,rfl⟩
 rw[hT];clear hT;refine lW ?_;refine cS (λT H'' nx''=>T 0=.msl b n 1 0 n/\T 1=.int .i64 (a1:Nat)/\T 2=.int .i64 (e1:Nat)/\T 3=.int .i64 (lim:Nat)/\T 4=.func g caps/\T 10=.bool wb/\T 11=.bool wp/\T 12=.int .i64 (l:Nat)/\H1=H''/\n1=nx'') ?_ ?_
 ·refine wnZ (zI8 @t0 @t1 @t2 @t3 @t4 @t10 @t11 @te) ?_;exact⟨(have zz:=@t0;evZ),(have zz:=@t1;evZ),(have zz:=@t2;evZ),(have zz:=@t3;evZ),(have zz:=@t4;evZ),(have zz:=@t10;evZ),(have zz:=@t11;evZ),ev0,rfl,rfl⟩
 clear t0 t1 t2 t3 t4 t10 t11;rintro T _ _ ⟨t0,t1,t2,t3,t4,t10,t11,t12,rfl,rfl⟩;refine cS (λT H'' nx''=>T 0=.msl b n 1 0 n/\T 1=.int .i64 (a1:Nat)/\T 2=.int .i64 (e1:Nat)/\T 3=.int .i64 (lim:Nat)/\T 4=.func g caps/\T 10=.bool wb/\T 11=.bool wp/\T 12=.int .i64 (l:Nat)/\13<=l/\H1=H''/\n1=nx'') ?_ ?_
 ·by_cases h12:l<=12
  ·refine wnZ (zI8 @t0 @t1 @t2 @t3 @t4 @t10 @t11 @t12) ?_;refine a7 ev0 (have zz:=aI @t0 (aI @t1 (aI @t2 (aI @t3 (aI @t4 (aI @t10 (aI @t11 @t12))))));evZ) (MA hc (b:=b) hps.at_ (hlen _ hpi) (hGA _ hpi) (a:=a1) (e:=e1) hmid (by omega) hn2) ?_;rintro _ _ _ ⟨rfl,N,rfl,hpN,hsN⟩;refine wnZ and_self ?_;exact⟨N,hps.upd,hpi.done hpN hsN⟩
  ·refine wnZ (zI8 @t0 @t1 @t2 @t3 @t4 @t10 @t11 @t12) ?_;exact⟨(have zz:=@t0;evZ),(have zz:=@t1;evZ),(have zz:=@t2;evZ),(have zz:=@t3;evZ),(have zz:=@t4;evZ),(have zz:=@t10;evZ),(have zz:=@t11;evZ),(have zz:=@t12;evZ),by omega,rfl,rfl⟩
 clear t0 t1 t2 t3 t4 t10 t11 t12;rintro T _ _ ⟨t0,t1,t2,t3,t4,t10,t11,t12,h13,rfl,rfl⟩;refine cS (λT H'' nx''=>T 0=.msl b n 1 0 n/\T 1=.int .i64 (a1:Nat)/\T 2=.int .i64 (e1:Nat)/\T 3=.int .i64 (lim:Nat)/\T 4=.func g caps/\T 10=.bool wb/\T 11=.bool wp/\T 12=.int .i64 (l:Nat)/\0<lim/\H1=H''/\n1=nx'') ?_ ?_
 ·by_cases h12:lim=0
  ·subst h12;have tz:decide (((0:Nat):Int)=0)=true:=rfl;refine wnZ (zI9 @t0 @t1 @t2 @t3 @t4 @t10 @t11 @t12 @tz) ?_;refine a7 ev0 (have zz:=aI @t0 (aI @t1 (aI @t2 (aI @t3 (aI @t4 (aI @t10 (aI @t11 @t12))))));evZ) (Jx hc (b:=b) hps.at_ (hlen _ hpi) (hGA _ hpi) (a:=a1) (e:=e1) hmid (by omega) hn2) ?_;rintro _ _ _ ⟨rfl,N,rfl,hpN,hsN⟩;refine wnZ and_self ?_;exact⟨N,hps.upd,hpi.done hpN hsN⟩
  ·have tz:decide ((lim:Int)=0)=false:=bK (by omega);refine wnZ (zI9 @t0 @t1 @t2 @t3 @t4 @t10 @t11 @t12 @tz) ?_;exact⟨(have zz:=@t0;evZ),(have zz:=@t1;evZ),(have zz:=@t2;evZ),(have zz:=@t3;evZ),(have zz:=@t4;evZ),(have zz:=@t10;evZ),(have zz:=@t11;evZ),(have zz:=@t12;evZ),by omega,rfl,rfl⟩
 clear t0 t1 t2 t3 t4 t10 t11 t12;rintro T _ _ ⟨t0,t1,t2,t3,t4,t10,t11,t12,hlim1,rfl,rfl⟩;refine cS (λT H'' nx''=>∃(lim:Nat)(M:List α),lim<=64/\PI K a e L a1 e1 M/\PS H H'' nx nx'' b (M.map f)/\T 0=.msl b n 1 0 n/\T 1=.int .i64 (a1:Nat)/\T 2=.int .i64 (e1:Nat)/\T 3=.int .i64 (lim:Nat)/\T 4=.func g caps/\T 10=.bool wb/\T 11=.bool wp/\T 12=.int .i64 (l:Nat)) ?_ ?_
 ·cases wb
  ·obtain⟨k,rfl⟩:∃k,lim=k+1:=⟨lim-1,by omega⟩
   have tk:((k+1:Nat):Int)-1=(k:Int):=by omega
   refine wnZ (zI8 @t0 @t1 @t2 @t3 @t4 @t10 @t11 @t12) ?_;refine a7 ev0 (have zz:=aI @t0 (aI @t1 (aI @t2 (aI @t3 (aI @t4 (aI @t10 (aI @t11 @t12))))));evZ) (HI hc (b:=b) hps.at_ (hbn _ _ _ hps) (hlen _ hpi) (a:=a1) (e:=e1) (by omega) (by omega) hn2) ?_;rintro _ _ _ ⟨rfl,N,hN1,hN2,hpN⟩;refine wnZ (zI9 @t0 @t1 @t2 @t3 @t4 @t10 @t11 @t12 @tk) ?_;exact⟨k,N,by omega,hpi.swap hpN,hps.rec_ hN1 hN2 (Nat.le_succ _),(have zz:=@t0;evZ),(have zz:=@t1;evZ),(have zz:=@t2;evZ),(have zz:=@t3;evZ),(have zz:=@t4;evZ),(have zz:=@t10;evZ),(have zz:=@t11;evZ),(have zz:=@t12;evZ)⟩
  ·refine wnZ (zI8 @t0 @t1 @t2 @t3 @t4 @t10 @t11 @t12) ?_;exact⟨lim,M,hlim,hpi,hps,(have zz:=@t0;evZ),(have zz:=@t1;evZ),(have zz:=@t2;evZ),(have zz:=@t3;evZ),(have zz:=@t4;evZ),(have zz:=@t10;evZ),(have zz:=@t11;evZ),(have zz:=@t12;evZ)⟩
 clear t0 t1 t2 t3 t4 t10 t11 t12 hpi hps hlim hlim1;rintro T H1 n1 ⟨lim,M,hlim,hpi,hps,t0,t1,t2,t3,t4,t10,t11,t12⟩;refine cS (λT H'' nx''=>∃(p:Nat)(hint:Int),a1<=p/\p<e1/\PS H H'' nx nx'' b (M.map f)/\T 0=.msl b n 1 0 n/\T 1=.int .i64 (a1:Nat)/\T 2=.int .i64 (e1:Nat)/\T 3=.int .i64 (lim:Nat)/\T 4=.func g caps/\T 10=.bool wb/\T 11=.bool wp/\T 12=.int .i64 (l:Nat)/\T 13=.int .i64 (p:Nat)/\T 14=.int .i64 hint) ?_ ?_
 ·refine wnZ (zI8 @t0 @t1 @t2 @t3 @t4 @t10 @t11 @t12) ?_;refine a7 ev0 (have zz:=aI @t0 (aI @t1 (aI @t2 (aI @t3 (aI @t4 (aI @t10 (aI @t11 @t12))))));evZ) (Fh hc (b:=b) hps.at_ (hbn _ _ _ hps) (hlen _ hpi) (hGA _ hpi) (a:=a1) (e:=e1) (by omega) (by omega) hn2) ?_;rintro _ _ _ ⟨rfl,p,hint,v,rfl,hp1,hp2,rfl⟩;refine wnZ (zI8 @t0 @t1 @t2 @t3 @t4 @t10 @t11 @t12) ?_;exact⟨p,hint,hp1,hp2,hps.new hbx,(have zz:=@t0;evZ),(have zz:=@t1;evZ),(have zz:=@t2;evZ),(have zz:=@t3;evZ),(have zz:=@t4;evZ),(have zz:=@t10;evZ),(have zz:=@t11;evZ),(have zz:=@t12;evZ),ev0,ev0⟩
 clear t0 t1 t2 t3 t4 t10 t11 t12 hps;rintro T H1 n1 ⟨p,hint,hp1,hp2,hps,t0,t1,t2,t3,t4,t10,t11,t12,t13,t14⟩;refine cS (λT H'' nx''=>∃(p:Nat)(hint:Int)(M:List α),a1<=p/\p<e1/\PI K a e L a1 e1 M/\PS H H'' nx nx'' b (M.map f)/\T 0=.msl b n 1 0 n/\T 1=.int .i64 (a1:Nat)/\T 2=.int .i64 (e1:Nat)/\T 3=.int .i64 (lim:Nat)/\T 4=.func g caps/\T 10=.bool wb/\T 11=.bool wp/\T 12=.int .i64 (l:Nat)/\T 13=.int .i64 (p:Nat)/\T 14=.int .i64 hint) ?_ ?_
 ·by_cases h2:hint=2
  ·subst h2;obtain⟨p2,hp3⟩:∃p2,e1-1-(p-a1)=p2:=⟨_,rfl⟩
   have tp:(e1:Int)-1-((p:Int)-(a1:Int))=(p2:Int):=by omega
   have tz:decide ((2:Int)=2)=true:=rfl;refine wnZ (aI @t0 (fk @t1 @t2 @t3 @t4 @t10 @t11 @t12 @t13 @t14 @tz)) ?_;refine a7 ev0 (have zz:=aI @t0 (aI @t1 (aI @t2 (aI @t3 (aI @t4 (aI @t10 (aI @t11 @t12))))));evZ) (LP hc (b:=b) hps.at_ (hlen _ hpi) (a:=a1) (e:=e1) (by omega) (by omega) hn2) ?_;rintro _ _ _ ⟨rfl,N,rfl,hpN⟩;refine wnZ (aI @t0 (fk @t1 @t2 @t3 @t4 @t10 @t11 @t12 @t13 @t14 @tp)) ?_;exact⟨p2,1,N,by omega,by omega,hpi.swap hpN,hps.upd,(have zz:=@t0;evZ),(have zz:=@t1;evZ),(have zz:=@t2;evZ),(have zz:=@t3;evZ),(have zz:=@t4;evZ),(have zz:=@t10;evZ),(have zz:=@t11;evZ),(have zz:=@t12;evZ),ev0,ev0⟩
  ·have tz:decide (hint=2)=false:=bK h2;refine wnZ (aI @t0 (fk @t1 @t2 @t3 @t4 @t10 @t11 @t12 @t13 @t14 @tz)) ?_;exact⟨p,hint,M,hp1,hp2,hpi,hps,(have zz:=@t0;evZ),(have zz:=@t1;evZ),(have zz:=@t2;evZ),(have zz:=@t3;evZ),(have zz:=@t4;evZ),(have zz:=@t10;evZ),(have zz:=@t11;evZ),(have zz:=@t12;evZ),(have zz:=@t13;evZ),(have zz:=@t14;evZ)⟩
 clear t0 t1 t2 t3 t4 t10 t11 t12 t13 t14 hps hpi hp1 hp2;rintro T H1 n1 ⟨p,hint,M,hp1,hp2,hpi,hps,t0,t1,t2,t3,t4,t10,t11,t12,t13,t14⟩;refine cS (λT H'' nx''=>∃(M:List α),PI K a e L a1 e1 M/\PS H H'' nx nx'' b (M.map f)/\T 0=.msl b n 1 0 n/\T 1=.int .i64 (a1:Nat)/\T 2=.int .i64 (e1:Nat)/\T 3=.int .i64 (lim:Nat)/\T 4=.func g caps/\T 10=.bool wb/\T 11=.bool wp/\T 12=.int .i64 (l:Nat)/\T 13=.int .i64 (p:Nat)) ?_ ?_
 ·cases wb
  ·cases wp
   ·refine wnZ (fk @t0 @t1 @t2 @t3 @t4 @t10 @t11 @t12 @t13 @t14) ?_;exact⟨M,hpi,hps,(have zz:=@t0;evZ),(have zz:=@t1;evZ),(have zz:=@t2;evZ),(have zz:=@t3;evZ),(have zz:=@t4;evZ),(have zz:=@t10;evZ),(have zz:=@t11;evZ),(have zz:=@t12;evZ),(have zz:=@t13;evZ)⟩
   ·refine wnZ (fk @t0 @t1 @t2 @t3 @t4 @t10 @t11 @t12 @t13 @t14) ?_;exact⟨M,hpi,hps,(have zz:=@t0;evZ),(have zz:=@t1;evZ),(have zz:=@t2;evZ),(have zz:=@t3;evZ),(have zz:=@t4;evZ),(have zz:=@t10;evZ),(have zz:=@t11;evZ),(have zz:=@t12;evZ),(have zz:=@t13;evZ)⟩
  ·cases wp
   ·refine wnZ (fk @t0 @t1 @t2 @t3 @t4 @t10 @t11 @t12 @t13 @t14) ?_;exact⟨M,hpi,hps,(have zz:=@t0;evZ),(have zz:=@t1;evZ),(have zz:=@t2;evZ),(have zz:=@t3;evZ),(have zz:=@t4;evZ),(have zz:=@t10;evZ),(have zz:=@t11;evZ),(have zz:=@t12;evZ),(have zz:=@t13;evZ)⟩
   ·by_cases h1:hint=1
    ·subst h1;have tz:decide ((1:Int)=1)=true:=rfl;refine wnZ (aI @t0 (fk @t1 @t2 @t3 @t4 @t10 @t11 @t12 @t13 @t14 @tz)) ?_;refine a7 ev0 (have zz:=aI @t0 (aI @t1 (aI @t2 (aI @t3 (aI @t4 (aI @t10 (aI @t11 @t12))))));evZ) (Ef hc (b:=b) hps.at_ (hlen _ hpi) (hGA _ hpi) (a:=a1) (e:=e1) (by omega) (by omega) hn2 hpi.low) ?_;rintro _ _ _ ⟨rfl,N,t,rfl,rfl,hpN,hsN⟩;cases t
     ·refine wnZ (fk @t0 @t1 @t2 @t3 @t4 @t10 @t11 @t12 @t13 @t14) ?_;exact⟨N,hpi.swap hpN,hps.upd,(have zz:=@t0;evZ),(have zz:=@t1;evZ),(have zz:=@t2;evZ),(have zz:=@t3;evZ),(have zz:=@t4;evZ),(have zz:=@t10;evZ),(have zz:=@t11;evZ),(have zz:=@t12;evZ),(have zz:=@t13;evZ)⟩
     ·refine wnZ (fk @t0 @t1 @t2 @t3 @t4 @t10 @t11 @t12 @t13 @t14) ?_;exact⟨N,hps.upd,hpi.done hpN (hsN rfl)⟩
    ·have tz:decide (hint=1)=false:=bK h1;refine wnZ (aI @t0 (fk @t1 @t2 @t3 @t4 @t10 @t11 @t12 @t13 @t14 @tz)) ?_;exact⟨M,hpi,hps,(have zz:=@t0;evZ),(have zz:=@t1;evZ),(have zz:=@t2;evZ),(have zz:=@t3;evZ),(have zz:=@t4;evZ),(have zz:=@t10;evZ),(have zz:=@t11;evZ),(have zz:=@t12;evZ),(have zz:=@t13;evZ)⟩
 clear t0 t1 t2 t3 t4 t10 t11 t12 t13 t14 hps hpi hint;rintro T H1 n1 ⟨M,hpi,hps,t0,t1,t2,t3,t4,t10,t11,t12,t13⟩;have hbb:=hps.at_;have hl:=hlen _ hpi;have hGM:=hGA _ hpi;refine cS (λT H'' nx''=>T 0=.msl b n 1 0 n/\T 1=.int .i64 (a1:Nat)/\T 2=.int .i64 (e1:Nat)/\T 3=.int .i64 (lim:Nat)/\T 4=.func g caps/\T 10=.bool wb/\T 11=.bool wp/\T 12=.int .i64 (l:Nat)/\T 13=.int .i64 (p:Nat)/\H1=H''/\n1=nx'') ?_ ?_
 ·by_cases ha0:a1=0
  ·have tz:decide ((0:Int)<(a1:Int))=false:=bK (by omega);refine wkZ (fk @t0 @t1 @t2 @t3 @t4 @t10 @t11 @t12 @t13 @tz) ?_;exact⟨(have zz:=@t0;evZ),(have zz:=@t1;evZ),(have zz:=@t2;evZ),(have zz:=@t3;evZ),(have zz:=@t4;evZ),(have zz:=@t10;evZ),(have zz:=@t11;evZ),(have zz:=@t12;evZ),(have zz:=@t13;evZ),rfl,rfl⟩
  have tz:decide ((0:Int)<(a1:Int))=true:=bG (by omega);obtain⟨k,hk⟩:∃k,a1-1=k:=⟨_,rfl⟩
  have tk:(a1:Int)-1=(k:Int):=by omega
  have lc:=hc.run (M.getD k default) (M.getD p default) (hGM _ (au (by omega))) (hGM _ (au (by omega)));have d1:=hc.dat (M.getD k default);have d2:=hc.dat (M.getD p default);generalize hKK:K (M.getD k default) (M.getD p default)=kk at lc;by_cases hlt:kk<0
  ·have zz:=aI @t0 (aI @t1 (aI @t2 (aI @t3 (aI @t4 (aI @t10 (aI @t11 (aI @t12 (aI @t13 (aI @tz (aI @tk (aI @hbb (aI @bQ (aI hc.cells hc.one)))))))))))));repeat' (first|refine zW ?_|refine zM ?_|apply a_n|refine zO ?_|refine vZ ?_|refine cZ ?_ (hp:=lc) (hs:=by(first|refine aC ?_ rfl|apply aQ);(repeat' (first|exact aj|apply bB|apply a8|exact d1|exact d2|exact a9 dcap));first|done|fail)|refine gTZ ?_|(refine zGZ ?_ ?_<;>(intro _hg;try (exfalso;omega)))|fail)
   exact⟨(have zz:=@t0;evZ),(have zz:=@t1;evZ),(have zz:=@t2;evZ),(have zz:=@t3;evZ),(have zz:=@t4;evZ),(have zz:=@t10;evZ),(have zz:=@t11;evZ),(have zz:=@t12;evZ),(have zz:=@t13;evZ),rfl,rfl⟩
  ·have zz:=aI @t0 (aI @t1 (aI @t2 (aI @t3 (aI @t4 (aI @t10 (aI @t11 (aI @t12 (aI @t13 (aI @tz (aI @tk (aI @hbb (aI @bQ (aI hc.cells hc.one)))))))))))));repeat' (first|refine zW ?_|refine zM ?_|apply a_n|refine zO ?_|refine vZ ?_|refine cZ ?_ (hp:=lc) (hs:=by(first|refine aC ?_ rfl|apply aQ);(repeat' (first|exact aj|apply bB|apply a8|exact d1|exact d2|exact a9 dcap));first|done|fail)|refine gTZ ?_|(refine zGZ ?_ ?_<;>(intro _hg;try (exfalso;omega)))|fail)
   refine a7 ev0 (have zz:=aI @t0 (aI @t1 (aI @t2 (aI @t3 (aI @t4 (aI @t10 (aI @t11 (aI @t12 @t13)))))));evZ) (Gy hc (b:=b) hps.at_ (hlen _ hpi) (hGA _ hpi) (a:=a1) (e:=e1) (pv:=p) (by omega) (by omega) hn2 ⟨hp1,hp2⟩) ?_;rintro _ _ _ ⟨rfl,N,m,rfl,hm1,hm2,rfl,hpN,q1,q2⟩;refine wnZ (zI9 @t0 @t1 @t2 @t3 @t4 @t10 @t11 @t12 @t13) ?_;exact⟨(m,e1,lim,wb,wp,N),by dsimp only;omega,⟨hpi.equal hc.ord hpN (by rw[hk,hKK];exact hlt) (by omega) ⟨hm1,hm2⟩ q1 q2,hps.upd,hlim⟩,(have zz:=aI @t0 (aI @t1 (aI @t2 (aI @t3 (aI @t4 (aI @t10 (aI @t11 @t12))))));agZ)⟩
 clear t0 t1 t2 t3 t4 t10 t11 t12 t13;rintro T _ _ ⟨t0,t1,t2,t3,t4,t10,t11,t12,t13,rfl,rfl⟩;refine cS (λT H'' nx''=>∃(M:List α)(m:Nat)(t:Bool),PI K a e L a1 e1 M/\TwoS K a1 e1 m M/\PS H H'' nx nx'' b (M.map f)/\T 0=.msl b n 1 0 n/\T 1=.int .i64 (a1:Nat)/\T 2=.int .i64 (e1:Nat)/\T 3=.int .i64 (lim:Nat)/\T 4=.func g caps/\T 10=.bool wb/\T 11=.bool wp/\T 12=.int .i64 (l:Nat)/\T 16=.int .i64 (m:Nat)/\T 17=.bool t) ?_ ?_
 ·refine wnZ (zI9 @t0 @t1 @t2 @t3 @t4 @t10 @t11 @t12 @t13) ?_;refine a7 ev0 (have zz:=aI @t0 (aI @t1 (aI @t2 (aI @t3 (aI @t4 (aI @t10 (aI @t11 (aI @t12 @t13)))))));evZ) (Kk hc (b:=b) hps.at_ (hlen _ hpi) (hGA _ hpi) (a:=a1) (e:=e1) (pv:=p) (by omega) (by omega) hn2 ⟨hp1,hp2⟩) ?_;rintro _ _ _ ⟨rfl,N,m,t,rfl,hm1,hm2,rfl,hpN,q1,q2⟩;refine wnZ (zI9 @t0 @t1 @t2 @t3 @t4 @t10 @t11 @t12 @t13) ?_;exact⟨N,m,t,hpi.swap hpN,⟨⟨hm1,hm2⟩,λp k1 k2=>hc.ord.asym _ _ (q1 p k1 k2),q2⟩,hps.upd,(have zz:=@t0;evZ),(have zz:=@t1;evZ),(have zz:=@t2;evZ),(have zz:=@t3;evZ),(have zz:=@t4;evZ),(have zz:=@t10;evZ),(have zz:=@t11;evZ),(have zz:=@t12;evZ),ev0,ev0⟩
 clear t0 t1 t2 t3 t4 t10 t11 t12 t13 hbb hl hGM hpi hps hp1 hp2 p;rintro T H1 n1 ⟨M,m,t,hpi,hts,hps,t0,t1,t2,t3,t4,t10,t11,t12,t16,t17⟩;have hm:=hts.mid;have hl:=hlen _ hpi
 have tq:bm .quo false false (.int .i64 (l:Int)) (.int .i64 8)=some (.int .i64 ((l/8:Nat):Int)):=by
  rw[pP (by omega) (by omega) (by omega)]
  congr 2
 have tm:(m:Int)+1=((m+1:Nat):Int):=by omega
 by_cases hlr:(m:Int)-(a1:Int)<(e1:Int)-(m:Int)
 ·have tz:decide ((m:Int)-(a1:Int)<(e1:Int)-(m:Int))=true:=bG hlr;refine wnZ (aI @t0 (aI @t1 (fk @t2 @t3 @t4 @t10 @t11 @t12 @t16 @t17 @tq @tz))) ?_;refine a7 ev0 (have zz:=aI @t0 (aI @t1 (aI @t2 (aI @t3 (aI @t4 (aI @t10 (aI @t11 (aI @t12 (aI @t16 @t17))))))));evZ) (ih a1 m lim M H1 n1 (by omega) hps.at_ (hbn _ _ _ hps) hl (hGA _ hpi) (by omega) (by omega) hlim (hpi.low.sub rfl (by omega))) ?_;rintro _ H2 n2 ⟨N,hps2,hpN,hsN⟩;refine wnZ (aI @t0 (fk @t1 @t2 @t3 @t4 @t10 @t11 @t12 @t16 @t17 @tm)) ?_;exact⟨(m+1,e1,lim,decide (((l/8:Nat):Int)<=(m:Int)-(a1:Int)),t,N),by dsimp only;omega,⟨hpi.left hc.ord hts hpN hsN,hps.rec_ hps2.at_ hps2.fr hps2.le,hlim⟩,(have zz:=aI @t0 (aI @t1 (aI @t2 (aI @t3 (aI @t4 (aI @t10 (aI @t11 (aI @t12 (aI @t16 @t17))))))));agZ)⟩
 ·have tz:decide ((m:Int)-(a1:Int)<(e1:Int)-(m:Int))=false:=bK hlr;refine wnZ (aI @t0 (aI @t1 (aI @t2 (fk @t3 @t4 @t10 @t11 @t12 @t16 @t17 @tq @tz @tm)))) ?_;refine a7 ev0 (have zz:=aI @t0 (aI @t1 (aI @t2 (aI @t3 (aI @t4 (aI @t10 (aI @t11 (aI @t12 (aI @t16 @t17))))))));evZ) (ih (m+1) e1 lim M H1 n1 (by omega) hps.at_ (hbn _ _ _ hps) hl (hGA _ hpi) (by omega) (by omega) hlim (λq k0 k1 k2=>by rw[uC];exact hts.ge q k1 k2)) ?_;rintro _ H2 n2 ⟨N,hps2,hpN,hsN⟩;refine wnZ (fk @t0 @t1 @t2 @t3 @t4 @t10 @t11 @t12 @t16 @t17) ?_;exact⟨(a1,m,lim,decide (((l/8:Nat):Int)<=(e1:Int)-(m:Int)),t,N),by dsimp only;omega,⟨hpi.right hc.ord hts hpN hsN,hps.rec_ hps2.at_ hps2.fr hps2.le,hlim⟩,(have zz:=aI @t0 (aI @t1 (aI @t2 (aI @t3 (aI @t4 (aI @t10 (aI @t11 (aI @t12 (aI @t16 @t17))))))));agZ)⟩
end
section
variable{α:Type}[Inhabited α]{f:α->AV}{K:α->α->Int}{G:α->Prop}{g:Nat}{caps:List AV}
set_option maxRecDepth 100000 in
theorem Hi{H:Hp}{nx:Nat}:Abs.Fn Tryz.prog 145 [.int .u64 0] H nx λr H' nx'=>nx'=nx/\H'=H/\r=.int .i64 0:=by
 refine fO II ?_;simp only[KR,aw];generalize hT:AV.str (ByteArray.mk (Array.mk [0,1,2,2,3,3,3,3,4,4,4,4,4,4,4,4,5,5,5,5,5,5,5,5,5,5,5,5,5,5,5,5,6,6,6,6,6,6,6,6,6,6,6,6,6,6,6,6,6,6,6,6,6,6,6,6,6,6,6,6,6,6,6,6,7,7,7,7,7,7,7,7,7,7,7,7,7,7,7,7,7,7,7,7,7,7,7,7,7,7,7,7,7,7,7,7,7,7,7,7,7,7,7,7,7,7,7,7,7,7,7,7,7,7,7,7,7,7,7,7,7,7,7,7,7,7,7,7,8,8,8,8,8,8,8,8,8,8,8,8,8,8,8,8,8,8,8,8,8,8,8,8,8,8,8,8,8,8,8,8,8,8,8,8,8,8,8,8,8,8,8,8,8,8,8,8,8,8,8,8,8,8,8,8,8,8,8,8,8,8,8,8,8,8,8,8,8,8,8,8,8,8,8,8,8,8,8,8,8,8,8,8,8,8,8,8,8,8,8,8,8,8,8,8,8,8,8,8,8,8,8,8,8,8,8,8,8,8,8,8,8,8,8,8,8,8,8,8,8,8,8,8,8,8,8,8]))=tb;have ht:oT tb (.int .u8 0)=some (.int .u8 0):=by rw[<-hT];exact Aa (x:=0) (by decide)
 clear hT;have w8:IntKind.wrap .u8 0=0:=by decide
 refine wnZ (aI @w8 @ht) ?_;exact⟨rfl,rfl,by congr 1⟩
theorem K3{H:Hp}{nx:Nat}:Abs.Fn Tryz.prog 111 [.int .u64 0] H nx λr H' nx'=>nx'=nx/\H'=H/\r=.int .i64 0:=by
 refine fO I9 ?_;simp only[Ja,aw];refine wnZ and_self ?_;refine a7 ev0 ev0 Hi ?_;rintro _ _ _ ⟨rfl,rfl,rfl⟩;refine wnZ and_self ?_;exact⟨rfl,rfl,rfl⟩
theorem Ce(hc:Cmp Tryz.prog f K G g caps){L:List α}{H:Hp}{b nx n:Nat}(hH:H b=some (L.map f))(hbx:b<nx)(hn:L.length=n)(hn0:0<n)(hG:∀x∈L,G x)(hn2:n<=1000000000):
    Abs.Fn Tryz.prog 87 [.msl b n 1 0 n,.func g caps] H nx λr H' nx'=>∃L',PS H H' nx nx' b (L'.map f)/\L'.Perm L/\bA K 0 n L':=by
 refine fO ME ?_;simp only[b87,aw];have w:IntKind.wrap .u64 (n:Int)=n:=ig (by omega) (by omega);refine wnZ @w ?_;refine a7 ev0 (have zz:=@w;evZ) (I1 hn0 (by omega)) ?_;rintro _ _ _ ⟨rfl,rfl,k,rfl,h3,h4⟩
 have hk:k<=62:=by
  rcases xX 62 k with h|h
  ·have:=Nat.pow_le_pow_right (n:=2) (by omega) h;omega
  ·exact h
 refine wnZ and_self ?_;refine a7 ev0 (have zz:=@Int.natCast_zero;evZ) (NC hc hn2 (n+1) 0 n k L _ _ (by omega) hH hbx hn hG (by omega) (aZ _) (by omega) (λq h=>by omega)) ?_;rintro _ _ _ ⟨N,hps,hp,hs⟩;refine wnZ and_self ?_;exact⟨N,hps,hp.perm,hs⟩
end
end
end Go.Proofs.YtmpcledaoigkaaaGreat
namespace Go.Proofs.YtmpcledaoigkaaaGreat
open Go Go.Abs
attribute [local irreducible] aE ai be aP aJ aK ay aL aR bn Go.Abs.Fn aO Go.Abs.Pure ak aD Yl
end Go.Proofs.YtmpcledaoigkaaaGreat
namespace Go.Proofs.YtmpcledaoigkaaaGreat
open Go Go.Abs
theorem Ji(a b:Vtx):nf (.st [.int,.int]) (dL a) (dL b)=some (decide (a=b)):=by
 show cT [.int,.int] [.int .i64 a.color,.int .i64 a.label] [.int .i64 b.color,.int .i64 b.label]=_;rw[BM,tc]
theorem AO(v:Vtx)(ks:List Vtx):eF (.st [.int,.int]) (dL v) (ks.map dL)=some (if v∈ks then some (ks.idxOf v) else none):=k9 _ dL Ji v ks
theorem Cb(v:Vtx):oq (.st [.int,.int]) (dL v)=true:=rfl
def mh(l:List Spx)(i:Nat)(v:Vtx):List Nat:=(List.range i).filter λk=>decide (v∈l.getD k default)
def pQ(l:List Spx)(i j:Nat)(v:Vtx):List Nat:=mh l i v++if v∈(l.getD i default).take j then [i] else []
theorem CZ{l:List Spx}{i:Nat}{v:Vtx}:mh l (i+1) v=pQ l i (l.getD i default).length v:=by
 unfold mh pQ;rw[List.range_succ,Dt,List.take_length]
 congr 1
 by_cases h:v∈l.getD i default
 ·rw[if_pos h];simp only[List.filter,h,decide_true]
 ·rw[if_neg h];simp only[List.filter,h,decide_false]
theorem DH{l:List Spx}{i:Nat}{v:Vtx}:pQ l i 0 v=mh l i v:=by unfold pQ;simp
theorem Eg{l:List Spx}{i j:Nat}{v:Vtx}(hj:j<(l.getD i default).length)(ha:fM eB (l.getD i default)):pQ l i (j+1) v=if v=(l.getD i default).getD j default then pQ l i j v++[i] else pQ l i j v:=by
 unfold pQ;generalize l.getD i default=s at *;rw[cu hj];by_cases h:v=s.getD j default
 ·have hn:v∉s.take j:=λhm=>by
    obtain⟨k,hk,e⟩:=mM hm;rw[jt] at hk;rw[List.getElem_take] at e;have:=mQ ha (i:=k) (j:=j) (by omega) hj;rw[<-h,<-e] at this;have e2:s.getD k default=s[k]:=by simp[List.getD,show k<s.length by omega]
    rw[e2] at this;exact Iq.ord.irr _ this
  rw[if_pos h,if_neg hn,if_pos (by rw[iG,h];simp)];simp
 ·rw[if_neg h]
  congr 1
  have e:v∈s.take j++[s.getD j default]↔v∈s.take j:=by rw[iG,eM];exact⟨λh'=>h'.resolve_right h,.inl⟩
  by_cases h2:v∈s.take j
  ·rw[if_pos (e.2 h2),if_pos h2]
  ·rw[if_neg (λh=>h2 (e.1 h)),if_neg h2]
def Dm(i:Nat):AV:=.int .i64 (i:Int)
structure IncOk(H:Hp)(b lo hi:Nat)(F:Vtx->List Nat)(ks:List Vtx)(vs:List AV):Prop where
 box:H b=some [.omap (ks.map dL) vs]
 len:vs.length=ks.length
 nodup:ks.Nodup
 dom:∀v,v∈ks↔F v≠[]
 row:∀j,j<ks.length->Row H 1 (vs.getD j .undef) ((F (ks.getD j default)).map Dm)
 bnd:∀j B,j<ks.length->bd (vs.getD j .undef)=some B->lo<=B/\B<hi/\B≠b
 apart:∀i j B,i<ks.length->j<ks.length->i≠j->bd (vs.getD i .undef)=some B->bd (vs.getD j .undef)≠some B
 lt:b<hi
theorem wT{l:List AV}{i j:Nat}{x:AV}(h:i<l.length):(l.set i x).getD j .undef=if i=j then x else l.getD j .undef:=by
 simp only[List.getD,List.getElem?_set];split
 ·rename_i e;subst e;simp[h]
 ·rfl
theorem yV{α:Type}{l m:List α}{j:Nat}{d:α}(h:j<l.length):(l++m).getD j d=l.getD j d:=by
 simp[List.getD,gy h]
theorem wJ{α:Type}{l:List α}{x d:α}:(l++[x]).getD l.length d=x:=by simp[List.getD]
theorem sU{l:List Vtx}{v:Vtx}(h:v∈l):l.idxOf v<l.length/\l.getD (l.idxOf v) default=v:=by
 have h1:=List.idxOf_lt_length_iff.2 h;exact⟨h1,by simp[List.getD,h1]⟩
theorem DQ{l:List Vtx}(h:l.Nodup){i j:Nat}(hi:i<l.length)(hj:j<l.length)(e:l.getD i default=l.getD j default):i=j:=by
 have hp:=Dn.1 (List.nodup_iff_pairwise_ne.1 h);rw[show l.getD i default=l[i] by simp[List.getD,hi],show l.getD j default=l[j] by simp[List.getD,hj]] at e;rcases FI i j with c|c|c
 ·exact absurd e (hp i j hi hj c)
 ·exact c
 ·exact absurd e.symm (hp j i hj hi c)
theorem IncOk.same{H H':Hp}{b lo hi hi':Nat}{F:Vtx->List Nat}{ks:List Vtx}{vs:List AV}(h:IncOk H b lo hi F ks vs)(hb:H' b=H b)(hs:∀x,lo<=x->x<hi->x≠b->H' x=H x)(hh:hi<=hi'):IncOk H' b lo hi' F ks vs:=
 ⟨hb.trans h.box,h.len,h.nodup,h.dom,λj hj=>(h.row j hj).same λB hB=>by have:=h.bnd j B hj hB;exact hs B this.1 this.2.1 this.2.2,λj B hj hB=>by have:=h.bnd j B hj hB;exact⟨this.1,by omega,this.2.2⟩,h.apart,by have:=h.lt;omega⟩
theorem IncOk.put{H H':Hp}{b lo hi hi' i:Nat}{F G:Vtx->List Nat}{ks:List Vtx}{vs:List AV}{w:Vtx}{sv:AV}(h:IncOk H b lo hi F ks vs)(hw:w∈ks)(hG:∀v,G v=if v=w then F v++[i] else F v)(hrow:Row H' 1 sv ((F w++[i]).map Dm))(hB:∀B,bd sv=some B->bd (vs.getD (ks.idxOf w) .undef)=some B\/hi<=B/\B<hi'/\B≠b)(hb:H' b=some [.omap (ks.map dL) (vs.set (ks.idxOf w) sv)])
    (hs:∀x,lo<=x->x<hi->x≠b->bd (vs.getD (ks.idxOf w) .undef)≠some x->H' x=H x) (hh:hi<=hi') (hlo:lo<=hi):IncOk H' b lo hi' G ks (vs.set (ks.idxOf w) sv):=by
 obtain⟨k1,k2⟩:=sU hw;have hl:=h.len;have hg:∀j,(vs.set (ks.idxOf w) sv).getD j .undef=if ks.idxOf w=j then sv else vs.getD j .undef:=λj=>wT (by omega)
 have hne:∀j,j<ks.length->ks.idxOf w≠j->ks.getD j default≠w:=λj hj hn e=>hn (DQ h.nodup k1 hj (by rw[k2,e]));refine⟨hb,by simp[hl],h.nodup,λv=>?_,λj hj=>?_,λj B hj=>?_,λp q B hp hq hpq=>?_,by have:=h.lt;omega⟩
 ·rw[hG,h.dom];by_cases e:v=w
  ·subst e;rw[if_pos rfl];exact⟨λ_=>by simp,λ_=>(h.dom v).1 hw⟩
  ·rw[if_neg e]
 ·rw[hg,hG];by_cases e:ks.idxOf w=j
  ·rw[if_pos e,if_pos (by rw[<-e];exact k2),<-e,k2];exact hrow
  ·rw[if_neg e,if_neg (hne j hj e)]
   exact(h.row j hj).same λB hB'=>by
    have:=h.bnd j B hj hB';exact hs B this.1 this.2.1 this.2.2 λh'=>h.apart (ks.idxOf w) j B k1 hj e h' hB'
 ·rw[hg];by_cases e:ks.idxOf w=j
  ·rw[if_pos e];intro hB';rcases hB B hB' with h'|h'
   ·have:=h.bnd _ B k1 h';exact⟨this.1,by omega,this.2.2⟩
   ·exact⟨by omega,h'.2⟩
  ·rw[if_neg e];intro hB';have:=h.bnd j B hj hB';exact⟨this.1,by omega,this.2.2⟩
 ·rw[hg,hg];by_cases e1:ks.idxOf w=p
  ·rw[if_pos e1,if_neg (by omega)];intro h1 h2;rcases hB B h1 with h'|h'
   ·exact h.apart (ks.idxOf w) q B k1 hq (by omega) h' h2
   ·have:=h.bnd q B hq h2;omega
  ·rw[if_neg e1];by_cases e2:ks.idxOf w=q
   ·rw[if_pos e2];intro h1 h2;rcases hB B h2 with h'|h'
    ·exact h.apart p (ks.idxOf w) B hp k1 (by omega) h1 h'
    ·have:=h.bnd p B hp h1;omega
   ·rw[if_neg e2];exact h.apart p q B hp hq hpq
theorem IncOk.new{H H':Hp}{b lo hi hi' i:Nat}{F G:Vtx->List Nat}{ks:List Vtx}{vs:List AV}{w:Vtx}{sv:AV}(h:IncOk H b lo hi F ks vs)(hw:w∉ks)(hG:∀v,G v=if v=w then F v++[i] else F v)(hrow:Row H' 1 sv ([i].map Dm))(hB:∀B,bd sv=some B->hi<=B/\B<hi'/\B≠b)(hb:H' b=some [.omap ((ks++[w]).map dL) (vs++[sv])])
    (hs:∀x,lo<=x->x<hi->x≠b->H' x=H x) (hh:hi<=hi') (hlo:lo<=hi):IncOk H' b lo hi' G (ks++[w]) (vs++[sv]):=by
 have hl:=h.len
 have hF:F w=[]:=by
  cases hf:F w with
  |nil=>rfl
  |cons a r=>exact absurd ((h.dom w).2 (by rw[hf];simp)) hw
 have g1:∀j,j<ks.length->(ks++[w]).getD j default=ks.getD j default/\(vs++[sv]).getD j .undef=vs.getD j .undef:=λj hj=>⟨yV hj,yV (by omega)⟩
 have g2:(ks++[w]).getD ks.length default=w/\(vs++[sv]).getD ks.length .undef=sv:=⟨wJ,by rw[<-hl];exact wJ⟩
 refine⟨hb,by simp[hl],?_,λv=>?_,λj hj=>?_,λj B hj=>?_,λp q B hp hq hpq=>?_,by have:=h.lt;omega⟩
 ·rw[List.nodup_append];exact⟨h.nodup,by simp,λa ha c hc e=>by rw[eM] at hc;exact hw (by rw[<-hc,<-e];exact ha)⟩
 ·rw[hG,iG,eM];by_cases e:v=w
  ·subst e;rw[if_pos rfl];simp
  ·rw[if_neg e,<-h.dom];simp[e]
 ·rw[cq,List.length_singleton] at hj;by_cases e:j=ks.length
  ·subst e;rw[g2.1,g2.2,hG,if_pos rfl,hF];exact hrow
  ·obtain⟨e1,e2⟩:=g1 j (by omega);have hne:ks.getD j default≠w:=λe'=>hw (e'▸cP (by omega));rw[e1,e2,hG,if_neg hne];exact(h.row j (by omega)).same λB hB'=>by have:=h.bnd j B (by omega) hB';exact hs B this.1 this.2.1 this.2.2
 ·rw[cq,List.length_singleton] at hj;by_cases e:j=ks.length
  ·subst e;rw[g2.2];intro hB';have:=hB B hB';exact⟨by omega,this.2⟩
  ·rw[(g1 j (by omega)).2];intro hB';have:=h.bnd j B (by omega) hB';exact⟨this.1,by omega,this.2.2⟩
 ·rw[cq,List.length_singleton] at hp hq;by_cases e1:p=ks.length
  ·subst e1;rw[g2.2,(g1 q (by omega)).2];intro h1 h2;have:=hB B h1;have:=h.bnd q B (by omega) h2;omega
  ·rw[(g1 p (by omega)).2];by_cases e2:q=ks.length
   ·subst e2;rw[g2.2];intro h1 h2;have:=hB B h2;have:=h.bnd p B (by omega) h1;omega
   ·rw[(g1 q (by omega)).2];exact h.apart p q B (by omega) (by omega) hpq
theorem n7{H:Hp}{d:Nat}{x:AV}:eU 1 (ar H d [x]) (.msl d 1 1 0 1)=some (1,[x]):=eY (n:=1) (len:=1) (off:=0) (cs:=[x]) ac rfl (by simp)
theorem yD{l:List Spx}{i:Nat}{v:Vtx}:(mh l i v).length<=i:=by
 unfold mh;have:=List.length_filter_le (λk=>decide (v∈l.getD k default)) (List.range i)
 rwa [List.length_range] at this
theorem Gn{l:List Spx}{i j:Nat}{v:Vtx}:(pQ l i j v).length<=i+1:=by
 unfold pQ;have:=yD (l:=l) (i:=i) (v:=v);rw[cq];split<;>simp <;>omega
section
attribute [local irreducible] aE ai be aP aJ aK ay aL aR bn Go.Abs.Fn aO Go.Abs.Pure ak aD Yl
theorem rW(l:List Spx)(hl:l.length<=100000)(hs:∀s∈l,fM eB s/\s.length<=1000000)(H:Hp)(nx:Nat):Abs.Fn Tryz.prog 66 [bo l] H nx λr H' nx'=>∃ks vs,r=.mp nx/\IncOk H' nx nx nx' (mh l l.length) ks vs/\(∀x,x<nx->H' x=H x)/\nx<nx':=by
 refine fO PO ?_;simp only[b66,aw];refine jw ?_
 repeat' (first|apply a_n|refine zO ?_|refine vZ ?_|fail)
 refine jw ?_;refine wnZ and_self ?_;refine tY ?_;refine wnY @aW ?_;refine bj (X:=Nat×List Vtx×List AV) (λx=>[(3,.mp nx),(9,bo l),(10,.int .i64 l.length),(11,.int .i64 x.1)]) (λx H' nx'=>x.1<=l.length/\IncOk H' nx nx nx' (mh l x.1) x.2.1 x.2.2/\(∀y,y<nx->H' y=H y)/\nx<nx') (λx=>l.length-x.1) (0,[],[]) ⟨bz _,⟨ac,rfl,List.nodup_nil,λv=>by simp[mh],λj h=>absurd h (by simp),λj B h=>absurd h (by simp),λi j B h=>absurd h (by simp),by omega⟩,λy hy=>ab (by omega),by omega⟩ ag0 ?_;rintro⟨i,ks,vs⟩ H1 nx1 ⟨h1,h2,h3,h4⟩;dsimp only at h1 h2 |-;by_cases hi:i<l.length
 rotate_left
 ·obtain rfl:i=l.length:=by omega
  refine wnY and_self ?_;exact⟨ks,vs,rfl,h2,h3,h4⟩
 have ix:=o0 hi;obtain⟨hsa,hsl⟩:=hs _ (cP hi);have hstep:=λj v hj=>Eg (l:=l) (i:=i) (j:=j) (v:=v) hj hsa;have hend:=λv=>CZ (l:=l) (i:=i) (v:=v);have hlen:=λj v=>Gn (l:=l) (i:=i) (j:=j) (v:=v);have h20:IncOk H1 nx nx nx1 (pQ l i 0) ks vs:=by rw[show pQ l i 0=mh l i from funext λv=>DH];exact h2
 have hend':mh l (i+1)=pQ l i (l.getD i default).length:=funext hend;clear h2;generalize l.getD i default=s at *;refine wnY (aI @ix @aS) ?_;refine bj (X:=Nat×List Vtx×List AV) (λx=>[(3,.mp nx),(9,bo l),(10,.int .i64 l.length),(11,.int .i64 i),(4,.int .i64 i),(5,aG s),(16,aG s),(17,.int .i64 s.length),(18,.int .i64 x.1)]) (λx H' nx'=>x.1<=s.length/\IncOk H' nx nx nx' (pQ l i x.1) x.2.1 x.2.2/\(∀y,y<nx->H' y=H y)/\nx<nx') (λx=>s.length-x.1) (0,ks,vs) ⟨bz _,h20,h3,h4⟩ ag0 ?_;clear h20 h3 h4;rintro⟨j,ks,vs⟩ H2 nx2 ⟨k1,k2,k3,k4⟩;dsimp only at k1 k2 |-;by_cases hj:j<s.length
 rotate_left
 ·obtain rfl:j=s.length:=by omega
  refine wnY and_self ?_;exact⟨(i+1,ks,vs),by dsimp only;omega,⟨by dsimp only;omega,by dsimp only;rw[hend'];exact k2,k3,k4⟩,ag0⟩
 have iy:=ix2 hj;have hG:=λv=>hstep j v hj;have hcl:=hlen j (s.getD j default);generalize s.getD j default=w at *;refine wnY @iy ?_;have g3:∀x,x<nx2->ar (ar (ar H2 nx2 [.int .i64 0,.int .i64 0]) nx2 (bE [.int .i64 0,.int .i64 0] 0 [.int .i64 w.color,.int .i64 w.label])) (nx2+1) [.int .i64 i] x=H2 x:=λx hx=>by rw[ab (by omega),ab (by omega),ab (by omega)]
 have g4:ar (ar (ar H2 nx2 [.int .i64 0,.int .i64 0]) nx2 (bE [.int .i64 0,.int .i64 0] 0 [.int .i64 w.color,.int .i64 w.label])) (nx2+1) [.int .i64 i] (nx2+1)=some [.int .i64 i]:=ac;generalize ar (ar (ar H2 nx2 [.int .i64 0,.int .i64 0]) nx2 (bE [.int .i64 0,.int .i64 0] 0 [.int .i64 w.color,.int .i64 w.label])) (nx2+1) [.int .i64 i]=H3 at *;have hmf:=AO w ks;have hkl:(ks.map dL).length=ks.length:=bD ..;by_cases hw:w∈ks
 ·rw[if_pos hw] at hmf;obtain⟨m1,m2⟩:=sU hw;have hr:=k2.row (ks.idxOf w) m1;rw[m2] at hr;refine F8 ev0 ((g3 nx (by omega)).trans k2.box) ev0 (Cb w) hmf ?_;have g5:∀x,x<nx2->x≠nx->ar H3 nx [.omap (eD (dL w) (some (ks.idxOf w)) (ks.map dL)) (od .esl (some (ks.idxOf w)) vs)] x=H2 x:=λx hx hn=>by rw[ab hn,g3 x hx]
  have g6:ar H3 nx [.omap (eD (dL w) (some (ks.idxOf w)) (ks.map dL)) (od .esl (some (ks.idxOf w)) vs)] nx=some [.omap (ks.map dL) vs]:=ac;have g7:ar H3 nx [.omap (eD (dL w) (some (ks.idxOf w)) (ks.map dL)) (od .esl (some (ks.idxOf w)) vs)] (nx2+1)=some [.int .i64 i]:=by rw[ab (by omega)];exact g4
  generalize ar H3 nx [.omap (eD (dL w) (some (ks.idxOf w)) (ks.map dL)) (od .esl (some (ks.idxOf w)) vs)]=H4 at *;rw[show C9 .esl (some (ks.idxOf w)) vs=vs.getD (ks.idxOf w) .undef from rfl,show A1 (some (ks.idxOf w)) (ks.map dL)=ks.idxOf w from rfl];refine wnY and_self ?_;refine d7 (k:=1) (new:=[.int .i64 i]) rfl ev0 (hr.same λB hB=>?_) ev0 (eY (n:=1) (len:=1) (off:=0) g7 rfl (by omega)) rfl rfl g8 (by rw[bD];omega) (by rw[bD];omega) ?_
  ·have:=k2.bnd _ B m1 hB;exact g5 B this.2.1 this.2.2
  rintro s2 H5 nx5 hr5 i1 i2 i3 i4;refine wnY and_self ?_;refine EN ev0 ((i3 nx (by omega) (λh=>(k2.bnd _ nx m1 h).2.2 rfl)).trans g6) ev0 (by rw[hkl];exact m1) ev0 ?_;refine wnY and_self ?_;refine⟨(j+1,ks,vs.set (ks.idxOf w) s2),by dsimp only;omega,⟨by dsimp only;omega,IncOk.put k2 hw hG ?_ (λB hB=>?_) ac (λx hx hx2 hxn hxr=>?_) (by omega) (by omega),λy hy=>?_,by omega⟩,ag0⟩
  ·rw[dq]
   exact hr5.same λB hB=>ab λe=>by
    rcases i4 B hB with h|h
    ·exact(k2.bnd _ B m1 h).2.2 e
    ·omega
  ·rcases i4 B hB with h|h
   ·exact .inl h
   ·exact .inr (by omega)
  ·rw[ab hxn,i3 x (by omega) hxr,g5 x hx2 hxn]
  ·rw[ab (by omega),i3 y (by omega) (λh=>by have:=k2.bnd _ y m1 h;omega),g5 y (by omega) (by omega)];exact k3 y hy
 ·rw[if_neg hw] at hmf;refine F8 ev0 ((g3 nx (by omega)).trans k2.box) ev0 (Cb w) hmf ?_;have g5:∀x,x<nx2->x≠nx->ar H3 nx [.omap (eD (dL w) none (ks.map dL)) (od .esl none vs)] x=H2 x:=λx hx hn=>by rw[ab hn,g3 x hx]
  have g6:ar H3 nx [.omap (eD (dL w) none (ks.map dL)) (od .esl none vs)] nx=some [.omap (ks.map dL++[dL w]) (vs++[.esl])]:=ac;have g7:ar H3 nx [.omap (eD (dL w) none (ks.map dL)) (od .esl none vs)] (nx2+1)=some [.int .i64 i]:=by rw[ab (by omega)];exact g4
  generalize ar H3 nx [.omap (eD (dL w) none (ks.map dL)) (od .esl none vs)]=H4 at *;rw[show C9 .esl none vs=.esl from rfl,show A1 none (ks.map dL)=ks.length from hkl];refine wnY and_self ?_;refine d7 (k:=1) (new:=[.int .i64 i]) (cs:=[]) rfl ev0 Row.nil ev0 (eY (n:=1) (len:=1) (off:=0) g7 rfl (by omega)) rfl rfl g8 (by simp) (by simp) ?_;rintro s2 H5 nx5 hr5 i1 i2 i3 i4;have i4':∀B,bd s2=some B->B=nx2+1+1/\nx5=nx2+1+1+1:=λB hB=>(i4 B hB).elim (λh=>by cases h) id;refine wnY and_self ?_;refine EN (i:=ks.length) ev0 ((i3 nx (by omega) (λh=>by cases h)).trans g6) ev0 (by rw[cq,hkl];simp) ev0 ?_;have hset:(vs++[AV.esl]).set ks.length s2=vs++[s2]:=by rw[<-k2.len];simp
  rw[hset];refine wnY and_self ?_;refine⟨(j+1,ks++[w],vs++[s2]),by dsimp only;omega,⟨by dsimp only;omega,IncOk.new k2 hw hG ?_ (λB hB=>?_) (by rw[dq];exact ac) (λx hx hx2 hxn=>?_) (by omega) (by omega),λy hy=>?_,by omega⟩,ag0⟩
  ·exact hr5.same λB hB=>ab (by have:=i4' B hB;omega)
  ·have:=i4' B hB;omega
  ·rw[ab hxn,i3 x (by omega) (λh=>by cases h),g5 x hx2 hxn]
  ·rw[ab (by omega),i3 y (by omega) (λh=>by cases h),g5 y (by omega) (by omega)];exact k3 y hy
end
end Go.Proofs.YtmpcledaoigkaaaGreat
namespace Go.Proofs.YtmpcledaoigkaaaGreat
open Go Go.Abs Tk
open Nat (reduceEqDiff reduceAdd reduceLeDiff)
theorem yo{H:Hp}{sz:Nat}{s d:AV}{cs:List AV}(h:Row H sz s cs)(hs:∀H',Row H' sz s cs->Snap H' s d):∃Hf H',Fz Hf H H'/\Snap Hf s d/\∀x,bd s≠some x->H' x=H x:=by
 cases h with
 |nil=>exact⟨bM,H,Fz.none,hs _ .nil,λ_ _=>rfl⟩
 |box b len cs hb hl=>exact⟨only b cs,cl H b,Fz.one hb,hs _ (.box b len cs eO hl),λx hx=>ca (λe=>hx (by rw[e];rfl))⟩
theorem iM{l:List Int}{i:Nat}(h:i<l.length):l.getD i 0∈l:=by
 rw[show l.getD i 0=l[i] by simp[List.getD,h]];exact mJ h
theorem mg{l:List Int}{n:Int}(h0:0<=n)(h:n<l.length):cA 1 (aH l) (.int .i64 n)=some (.iptr [.int .i64 (l.getD n.toNat 0)] 0):=by
 rw[vX,if_pos ⟨h0,h⟩];simp[List.getD,show n.toNat<l.length by omega]
def vM(lim:Int)(c:List Int)(l:List MvV)(i:Nat):Int:=r9 lim c (l.take i)
theorem wn{lim:Int}{c:List Int}{l:List MvV}{i:Nat}(h:i<l.length):vM lim c l (i+1)=min (vM lim c l i+c.getD (l.getD i default).to.toNat 0) (lim+1):=by
 unfold vM r9;rw[cu h,List.foldl_append];rfl
theorem Ab{lim:Int}{c:List Int}{l:List MvV}:vM lim c l l.length=r9 lim c l:=by unfold vM;rw[List.take_length]
theorem yv{lim:Int}(hl:0<=lim){c:List Int}(hc:∀x∈c,0<=x/\x<=lim+1)(l:List MvV):∀i,i<=l.length->0<=vM lim c l i/\vM lim c l i<=lim+1
 |0,_=>by show 0<=(0:Int)/\(0:Int)<=lim+1;omega
 |i+1,hi=>by
  have h1:=yv hl hc l i (by omega);rw[wn (by omega)]
  have h2:0<=c.getD (l.getD i default).to.toNat 0:=by
   by_cases hb:(l.getD i default).to.toNat<c.length
   ·exact(hc _ (iM hb)).1
   ·rw[ml,List.getElem?_eq_none (by omega)];exact Int.le_refl _
  omega
theorem sP{a:AdvV}{lim:Int}(hl:0<=lim):∀(k:Nat),∀x∈fF a lim k,0<=x/\x<=lim+1
 |0,x,hx=>by
  obtain⟨_,_,rfl⟩:=dK.1 hx;omega
 |k+1,x,hx=>by
  obtain⟨l,_,rfl⟩:=dK.1 hx;have:=yv hl (sP (a:=a) hl k) l l.length (aZ _)
  rwa [Ab] at this
theorem Ft{a:AdvV}{lim:Int}{k s:Nat}(h:s<a.states.length):(fF a lim (k+1)).getD s default=r9 lim (fF a lim k) (a.st s):=by
 simp only[fF,AdvV.st,ml,jQ,vU h,mi,vH]
section
attribute [local irreducible] aE ai be aP aJ aK ay aL aR bn Go.Abs.Fn aO Go.Abs.Pure ak aD Yl
theorem Bz(a:AdvV)(ha:ShA a)(ho:AdvOk a)(k:Nat)(hk:k<=6)(lim:Int)(hl:0<=lim)(hl2:lim<=1048576):pU 116 [d6 a,.int .i64 k,.int .i64 lim] (.int .i64 (kI a k lim)):=by
 refine pO Ng ?_;simp only[L7,aw];obtain⟨h1,h2⟩:=ha;have hto:∀l∈a.states,∀m∈l,0<=m.to/\m.to<a.states.length:=λl hl m hm=>⟨(ho.mv l hl m hm).to0,(ho.mv l hl m hm).to1⟩
 have h0:=ho.s1;have hcl:=tw (a:=a) (lim:=lim);have hcb:=sP (a:=a) (lim:=lim) hl;unfold d6 kI;rw[PC.2.2.2.1];refine wnY @PE ?_;refine bj (X:=Nat×AV) (λx=>[(1,.int .i64 k),(2,.int .i64 lim),(3,.ptr 0 2 0),(7,x.2),(8,.int .i64 x.1)]) (λx H nx=>x.1<=a.states.length/\H 0=some [.int .i64 a.n,bh a.states]/\0<nx/\Row H 1 x.2 ((List.replicate x.1 (1:Int)).map (AV.int .i64))/\∀b,bd x.2=some b->0<b/\b<nx) (λx=>a.states.length-x.1) (0,.esl) ⟨bz _,ac,g8,.nil,λb h=>(by cases h)⟩ (by simp (disch:=omega) only[agr,ZG,reduceEqDiff,↓reduceIte,SL]) ?_;rintro⟨i,sv⟩ H1 n1 ⟨i1,g0,hn,hrow,hb⟩;dsimp only at i1 hrow hb |-;by_cases hi:i<a.states.length
 ·refine wnY (aI @PE @g0) ?_;refine d7 (k:=1) (new:=[.int .i64 1]) rfl ev0 (hrow.same λb h=>by have:=hb b h;rw[ab (by omega)]) ev0 n7 rfl rfl g8 (by simp;omega) (by simp;omega) ?_;rintro s' H' nx' r1 r2 r3 r4 r5;refine wnY @PE ?_;refine⟨(i+1,s'),by dsimp only;omega,⟨by dsimp only;omega,?_,by omega,?_,λb h=>?_⟩,ag0⟩
  ·rw[r4 0 (by omega) (λh=>by have:=hb 0 h;omega),ab (by omega)];exact g0
  ·dsimp only;rw[List.replicate_succ',dq];exact r1
  ·rcases r5 b h with h|h
   ·have:=hb b h;omega
   ·omega
 obtain rfl:i=a.states.length:=by omega
 have e0:fF a lim 0=List.replicate a.states.length (1:Int):=by unfold fF;exact List.map_const' ..
 rw[<-e0] at hrow;refine wnY (aI @PE @g0) ?_;obtain⟨Hf,H2,z1,z2,z3⟩:=yo hrow λ_ h=>h.snapI;refine rQ (X:=Nat) (λj=>[(1,.int .i64 k),(2,.int .i64 lim),(3,.ptr 0 2 0),(7,aH (fF a lim j)),(9,.int .i64 j)]) (λj H nx=>j<=k/\H 0=some [.int .i64 a.n,bh a.states]/\0<nx) (λj=>k-j) 0 ⟨Hf,H2,z1,⟨bz _,(z3 0 λh=>by have:=hb 0 h;omega).trans g0,hn⟩,.inl rfl,.inl rfl,.inl rfl,.inr z2,.inl rfl,trivial⟩ ?_;clear z1 z2 z3 hrow hb g0 H2 Hf hn;rintro j H2 n2 ⟨j1,g0,hn⟩;by_cases hj:j<k
 rotate_left
 ·obtain rfl:j=k:=by omega
  have ix:cA 1 (aH (fF a lim j)) (.int .i64 0)=some (.iptr [.int .i64 ((fF a lim j).getD 0 0)] 0):=mg (Int.le_refl _) (by rw[hcl];omega);refine wnY @ix ?_;exact aA rfl
 have hcj:=hcb j;have hcn:∀s,s<a.states.length->(fF a lim (j+1)).getD s default=r9 lim (fF a lim j) (a.st s):=λs hs=>Ft hs;have hlj:=hcl j;have hlj1:=hcl (j+1);generalize fF a lim j=C at *;refine wnY and_self ?_;refine bj (X:=Nat×AV) (λx=>[(1,.int .i64 k),(2,.int .i64 lim),(3,.ptr 0 2 0),(7,aH C),(9,.int .i64 j),(10,x.2),(11,.int .i64 x.1)]) (λx H nx=>x.1<=a.states.length/\H 0=some [.int .i64 a.n,bh a.states]/\0<nx/\Row H 1 x.2 (((fF a lim (j+1)).take x.1).map (AV.int .i64))/\∀b,bd x.2=some b->0<b/\b<nx) (λx=>a.states.length-x.1) (0,.esl) ⟨bz _,g0,hn,.nil,λb h=>(by cases h)⟩ ag0 ?_;clear g0 hn;rintro⟨s,sv⟩ H3 n3 ⟨s1,g0,hn,hrow,hb⟩;dsimp only at s1 hrow hb |-;by_cases hs:s<a.states.length
 rotate_left
 ·rw[ji (by omega)] at hrow;refine wnY (aI @PE @g0) ?_;obtain⟨Hf,H2,z1,z2,z3⟩:=yo hrow λ_ h=>h.snapI;have ej:((j:Nat):Int)+1=((j+1:Nat):Int):=by omega
  refine⟨j+1,by omega,Hf,H2,z1,⟨by omega,(z3 0 λh=>by have:=hb 0 h;omega).trans g0,hn⟩,?_⟩;refine⟨.inl ev0,.inl ev0,.inl ev0,.inr ?_,.inl (have zz:=@ej;evZ),trivial⟩;have e:∀v,v=sv->Snap Hf v (aH (fF a lim (j+1))):=λv h=>h▸z2;exact e _ ev0
 have ix:=zu hs;have hv:=hcn s hs;rw[<-oM] at hv;have htk:=cu (l:=fF a lim (j+1)) (k:=s) (by omega);rw[hv] at htk;have htl:=hto _ (au (l:=a.states) hs);have hll:=h2 _ (au (l:=a.states) hs);generalize a.states.getD s default=l at *;refine wnY (aI @PE @g0) ?_;have hct:=yv hl hcj l;refine fS (X:=Nat) (λi=>[(1,.int .i64 k),(2,.int .i64 lim),(3,.ptr 0 2 0),(7,aH C),(9,.int .i64 j),(10,sv),(11,.int .i64 s),(12,.int .i64 (vM lim C l i)),(13,.int .i64 i)]) (λi=>i<=l.length) (λi=>l.length-i) 0 (bz _) (by have e:vM lim C l 0=0:=rfl;simp (disch:=omega) only[agr,ZG,reduceEqDiff,↓reduceIte,e]) ?_;intro i hi;by_cases hil:i<l.length
 rotate_left
 ·obtain rfl:i=l.length:=by omega
  rw[Ab];generalize r9 lim C l=z at *;refine wnY (zI3 @PE @g0 @ix) ?_;refine d7 (k:=1) (new:=[.int .i64 z]) rfl ev0 (hrow.same λb h=>by have:=hb b h;rw[ab (by omega)]) ev0 n7 rfl rfl g8 (by simp;omega) (by simp;omega) ?_;rintro s' H' nx' r1 r2 r3 r4 r5;refine wnY and_self ?_;refine⟨(s+1,s'),by dsimp only;omega,⟨by dsimp only;omega,?_,by omega,?_,λb h=>?_⟩,ag0⟩
  ·rw[r4 0 (by omega) (λh=>by have:=hb 0 h;omega),ab (by omega)];exact g0
  ·dsimp only;rw[htk,dq];exact r1
  ·rcases r5 b h with h|h
   ·have:=hb b h;omega
   ·omega
 have ixm:=ixM hil;rw[PC.2.2.1] at ixm;have hm:=htl _ (au hil);have hcv:=wn (lim:=lim) (c:=C) hil;have hci:=hct i hi;generalize l.getD i default=m at *;have ixc:cA 1 (aH C) (.int .i64 m.to)=some (.iptr [.int .i64 (C.getD m.to.toNat 0)] 0):=mg hm.1 (by omega);have hcm:=hcj (C.getD m.to.toNat 0) (iM (by omega));generalize C.getD m.to.toNat 0=y at *;generalize vM lim C l i=z at *;refine wnY (zI5 @PE @g0 @ix @ixm @ixc) ?_;exact⟨i+1,by omega,by omega,(have zz:=@hcv;agZ),rfl,rfl⟩
end
end Go.Proofs.YtmpcledaoigkaaaGreat
namespace Go.Proofs.YtmpcledaoigkaaaGreat
open Go Go.Abs
def dU(l:List Spx)(s:Spx):Bool:=l.any λt=>decide (s.length<t.length)&&kw s t
def xz(c:List Spx)(k:Nat):Int:=if eu (c.getD k default)≠0 then eu (c.getD k default) else if 0<k/\0<=dy (c.getD (k-1) default) (c.getD k default) then 14 else 0
def gl(c:List Spx):Int:=if 4096<c.length then 5 else if fH (xz c) c.length≠0 then fH (xz c) c.length else if c.any (dU c)=true then 7 else 0
theorem yU{a b:Spx}:kw a b=true↔ ∀v∈a,v∈b:=by
 unfold kw;rw[ee];exact⟨λh v hv=>pG (h v hv),λh v hv=>bG (h v hv)⟩
theorem GF{c:List Spx}(h:fH (xz c) c.length=0):(∀s∈c,eu s=0)/\fM dy c:=by
 have hz:=lL h
 have h3:∀k,k<c.length->eu (c.getD k default)=0/\(0<k->dy (c.getD (k-1) default) (c.getD k default)<0):=λk hk=>by
  have:=hz k hk;unfold xz at this;split at this
  ·exact absurd this ‹_›
  rename_i g1;split at this
  ·exact absurd this (by decide)
  rename_i g2;exact⟨Dy g1,λh0=>by omega⟩
 constructor
 ·intro s hs;obtain⟨i,hi,rfl⟩:=mM hs;have:=(h3 i hi).1
  rwa [show c.getD i default=c[i] by simp[List.getD,hi]] at this
 ·have step:∀j i,i<j->j<c.length->dy (c.getD i default) (c.getD j default)<0:=by
    intro j
    induction j with
    |zero=>intro i h;omega
    |succ j ih=>
     intro i hi hj;have hs:=(h3 (j+1) hj).2 (by omega);rw[uC] at hs;by_cases e:i=j
     ·subst e;exact hs
     ·exact BD.trans (ih i (by omega) (by omega)) hs
  unfold fM;rw[Dn];intro i j hi hj hij;have:=step j i hij hj;simpa[List.getD,hi,hj] using this
theorem lK{c:List Spx}(h:gl c=0):c.length<=4096/\(∀s∈c,eu s=0)/\fM dy c/\∀s∈c,dU c s=false:=by
 unfold gl at h;split at h
 ·exact absurd h (by decide)
 split at h
 ·exact absurd h ‹_›
 split at h
 ·exact absurd h (by decide)
 rename_i h1 h2 h3;have:=GF (Dy h2);refine⟨by omega,this.1,this.2,λs hs=>?_⟩;cases hc:dU c s
 ·rfl
 ·exact absurd (lu.2 ⟨s,hs,hc⟩) h3
theorem HO{l:List Spx}{s:Spx}{p:Spx->Bool}(h0:0<s.length)(hp:∀t,p t=true->s.getD 0 default∈t):((mh l l.length (s.getD 0 default)).map λ(n:Nat)=>(n:Int)).any (λi=>p (l.getD i.toNat default))=l.any p:=by
 rw[Bool.eq_iff_iff,lu,lu];constructor
 ·rintro⟨x,hx,h⟩;obtain⟨n,hn,rfl⟩:=dK.1 hx;unfold mh at hn;obtain⟨h1,_⟩:=kd.1 hn;rw[bQ] at h;exact⟨_,cP (gG.1 h1),h⟩
 ·rintro⟨t,ht,h⟩;obtain⟨i,hi,rfl⟩:=mM ht;have e:l.getD i default=l[i]:=by simp[List.getD,hi]
  refine⟨(i:Int),dK.2 ⟨i,kd.2 ⟨gG.2 hi,bG ?_⟩,rfl⟩,?_⟩
  ·rw[e];exact hp _ h
  ·rw[bQ,e];exact h
section
attribute [local irreducible] aE ai be aP aJ aK ay aL aR bn Go.Abs.Fn aO Go.Abs.Pure ak aD Yl
theorem DP(l:List Int)(p:Int->Bool)(g:Nat)(caps:List AV)(hd:∀x∈caps,Dat x)(hg:∀x∈l,pU g (.int .i64 x::caps) (.bool (p x)))(hl:Shn l):pU 127 [aH l,.func g caps] (.int .i64 (if l.any p then(l.findIdx p:Nat) else-1)):=by
 refine pO Iz ?_;simp only[Km,aw];have hl':l.length<=17592186044416:=hl;refine wnZ and_self ?_;refine bj (X:=Nat) (λk=>[(0,aH l),(1,.func g caps),(6,aH l),(7,.int .i64 l.length),(8,.int .i64 k)]) (λk H nx=>k<=l.length/\∀i,i<k->p (l.getD i default)=false) (λk=>l.length-k) 0 ⟨bz _,λi h=>absurd h (by omega)⟩ ag0 ?_;rintro k H nx ⟨hk,hz⟩;by_cases hk2:k<l.length
 rotate_left
 ·rw[lD λi hi=>hz i (by omega),if_neg (by decide)];refine wnY and_self ?_;exact aA rfl
 have hc:=hg _ (au hk2);cases hp:p (l.getD k default)
 ·rw[hp] at hc;refine wnY and_self ?_;refine ec ev0 ev0 hc (aQ (af (.int _ _) (a9 hd))) ?_;refine wnY and_self ?_
  exact ⟨k + 1,by omega,⟨by omega,fun i hi=>by
   rcases ij.1 hi with h|rfl
   ·exact hz i h
   ·exact hp⟩,ag0⟩
 ·rw[hp] at hc;obtain⟨e1,e2⟩:=mA hk2 hz hp;rw[e1,e2,if_pos rfl];refine wnY and_self ?_;refine ec ev0 ev0 hc (aQ (af (.int _ _) (a9 hd))) ?_;refine wnY and_self ?_;exact .int _ _
theorem yp(l:List Int)(p:Int->Bool)(g:Nat)(caps:List AV)(hd:∀x∈caps,Dat x)(hg:∀x∈l,pU g (.int .i64 x::caps) (.bool (p x)))(hl:Shn l):pU 102 [aH l,.func g caps] (.bool (l.any p)):=by
 refine pO IW ?_;simp only[Kf,aw];have h:=DP l p g caps hd hg hl
 repeat' (first|refine zW ?_|apply a_n|refine zO ?_|refine vZ ?_|refine cZ ?_ (hp:=h) (hs:=by(first|refine aC ?_ rfl|apply aQ);(repeat' (first|exact aj|apply bB|apply a8|exact eV _|exact Dat.func hd));first|done|fail)|refine bk rfl ?_|refine r1Z ?_|fail)
 cases hA:l.any p
 ·exact cf (by simp)
 ·exact cf (by simp)
def OkS(l:List Spx):Prop:=l.length<=100000/\∀s∈l,fM eB s/\s.length<=1000
theorem Bp(l:List Spx)(s:Spx)(i:Nat)(hl:OkS l)(hs:fM eB s/\s.length<=1000)(hi:i<l.length):pU 103 [.int .i64 i,.iptr [bo l] 0,.iptr [aG s] 0] (.bool (decide (s.length<(l.getD i default).length)&&kw s (l.getD i default))):=by
 refine pO LA ?_;simp only[L5,aw];have ix:=o0 hi;obtain⟨t1,t2⟩:=hl.2 _ (cP hi);have hf:=Kr s (l.getD i default) hs.1 t1 (by omega) (by omega);generalize l.getD i default=t at *;by_cases h:s.length<t.length
 ·have z:decide ((s.length:Int)<t.length)=true:=bG (by omega);rw[bG h,Bool.true_and];refine wkZ (zI3 @aS @ix @z) ?_;exact .bool _
 ·have z:decide ((s.length:Int)<t.length)=false:=bK (by omega);rw[bK h,Bool.false_and];refine wkZ (zI3 @aS @ix @z) ?_;exact .bool _
theorem wz(l:List Spx)(s:Spx)(hl:OkS l)(hs:fM eB s/\s.length<=1000)(h0:0<s.length):pU 67 [bo l,aH ((mh l l.length (s.getD 0 default)).map λ(n:Nat)=>(n:Int)),aG s] (.bool (dU l s)):=by
 refine pO PB ?_;simp only[b67,aw];have hll:=hl.1
 have h:=yp ((mh l l.length (s.getD 0 default)).map fun (n:Nat)=>(n:Int)) (fun i=>decide (s.length < (l.getD i.toNat default).length) && kw s (l.getD i.toNat default)) 103 [.iptr [bo l] 0,.iptr [aG s] 0] (DatL.cons (Dat.iptr (DatL.cons (cR _) DatL.nil)) (DatL.cons (Dat.iptr (DatL.cons (bT _) DatL.nil)) DatL.nil)) (fun x hx=>by
  obtain⟨n,hn,rfl⟩:=dK.1 hx;have hn2:n<l.length:=gG.1 (kd.1 hn).1;rw[bQ];exact Bp l s n hl hs hn2) (by rw[Shn,bD];have:=yD (l:=l) (i:=l.length) (v:=s.getD 0 default);omega)
 rw [HO (p:=fun t=>decide (s.length < t.length) && kw s t) h0 (fun t ht=>by
  rw[ed,yU] at ht;exact ht.2 _ (cP h0))] at h
 refine wnZ (zI4 @bJ @br @bO @bH) ?_;refine ec (have zz:=aI @bJ (aI @br (aI @bO @bH));evZ) (have zz:=aI @bJ (aI @br (aI @bO @bH));evZ) h (aC (af (eV _ _) (af (fY (af (dF rfl rfl (af (cR _ _) aj)) (af (dF rfl rfl (af (bT _ _) aj)) aj))) aj)) rfl) ?_;refine wnZ and_self ?_;exact .bool _
end
theorem zB{H:Hp}{sv:AV}{F:List Nat}(h:Row H 1 sv (F.map Dm)):Snap H sv (aH (F.map λ(n:Nat)=>(n:Int))):=by
 refine Row.snapI ?_;rw[List.map_map];exact h
theorem BE{c:List Spx}{k:Nat}:xz c k=if eu (c.getD k default)≠0 then eu (c.getD k default) else if 0<k/\0<=dy (c.getD (k-1) default) (c.getD k default) then 14 else 0:=rfl
theorem Ke {c:List Spx} (h1:c.length ≤ 4096) (h:∀ s ∈ c,eu s=0):OkS c:=⟨by omega,fun s hs=>by
 obtain⟨a1,a2,a3,a4⟩:=i5 (h s hs);exact⟨a3,by omega⟩⟩
theorem yE{H:Hp}{b:Nat}{cs:List AV}(h:H b=some cs):Sub (only b cs) H:=λx c hx=>by
 unfold only at hx;split at hx
 ·rename_i e;rw[e,h];exact hx
 ·cases hx
def on2(b1:Nat)(c1:List AV)(b2:Nat)(c2:List AV):Hp:=λx=>if x=b1 then some c1 else if x=b2 then some c2 else none
theorem LL{b1 b2:Nat}{c1 c2:List AV}:on2 b1 c1 b2 c2 b1=some c1:=if_pos rfl
theorem L0{b1 b2:Nat}{c1 c2:List AV}(h:b2≠b1):on2 b1 c1 b2 c2 b2=some c2:=by unfold on2;rw[if_neg h,if_pos rfl]
theorem B6{b1 b2:Nat}{c1 c2:List AV}{H:Hp}(h1:H b1=some c1)(h2:H b2=some c2):Sub (on2 b1 c1 b2 c2) H:=λx cs h=>by
 unfold on2 at h;split at h
 ·rename_i e;rw[e,h1];exact h
 ·split at h
  ·rename_i e;rw[e,h2];exact h
  ·cases h
theorem xp{P:Program}{T:Tm}{H:Hp}{nx:Nat}(b1 b2:Nat){c1 c2:List AV}{K:CP}{m:Nat}{l:List Op2}{C:List (Nat×Nat)}(h1:H b1=some c1)(h2:H b2=some c2)(hne:b2≠b1)(k:∀S:Hp,S b1=some c1->S b2=some c2->(∀H':Hp,H' b1=some c1->H' b2=some c2->Sub S H')->bv P S (C.map λk=>(l.getD k.1 ⟨none,none,.dead⟩,k.2)) T H nx λT H nx=>K .normal T H nx):aE P (.mixS m l C) T H nx K:=
 ir (on2 b1 c1 b2 c2) rfl (B6 h1 h2) (k _ LL (L0 hne) λ_ a b=>B6 a b)
theorem uk{P:Program}{T:Tm}{H:Hp}{nx:Nat}(b:Nat){c:List AV}{K:CP}{m:Nat}{l:List Op2}{C:List (Nat×Nat)}(h:H b=some c)(k:∀S:Hp,S b=some c->(∀H':Hp,H' b=some c->Sub S H')->bv P S (C.map λk=>(l.getD k.1 ⟨none,none,.dead⟩,k.2)) T H nx λT H nx=>K .normal T H nx):aE P (.mixS m l C) T H nx K:=
 ir (only b c) rfl (yE h) (k _ eO λ_ h=>yE h)
structure MapV where
 fr:Spx
 to:Spx
 deriving Inhabited,DecidableEq
abbrev Np(m:MapV):AV:=.agg [aG m.fr,aG m.to]
theorem Fy(m:MapV):Dat (Np m):=Dat.agg (DatL.cons (bT _) (DatL.cons (bT _) DatL.nil))
instance datI_encM{m:MapV}:DatI (Np m):=⟨Fy m⟩
def dS:Spx->Nat->List Spx
 |_,0=>[[]]
 |[],_+1=>[]
 |x::l,k+1=>(dS l k).map (x:: ·)++dS l (k+1)
theorem xW{l:Spx}:dS l 0=[[]]:=by cases l<;>rfl
theorem zR{k:Nat}:dS [] (k+1)=[]:=rfl
theorem qW{x:Vtx}{l:Spx}{k:Nat}:dS (x::l) (k+1)=(dS l k).map (x:: ·)++dS l (k+1):=rfl
theorem nA:∀{l:Spx}{k:Nat}{s:Spx},s∈dS l k↔s.Sublist l/\s.length=k
 |l,0,s=>by
  rw[xW,eM];exact⟨λh=>by subst h;exact⟨List.nil_sublist _,rfl⟩,λh=>eI.1 h.2⟩
 |[],k+1,s=>by
  rw[zR];refine⟨λh=>(by cases h),λ⟨h1,h2⟩=>?_⟩;rw[List.sublist_nil] at h1;subst h1;simp at h2
 |x::l,k+1,s=>by
  rw[qW,iG,dK,nA];constructor
  ·rintro(⟨t,ht,rfl⟩|⟨h1,h2⟩)
   ·have:=nA.1 ht;exact⟨this.1.cons_cons x,by simp[this.2]⟩
   ·exact⟨h1.cons x,h2⟩
  ·rintro⟨h1,h2⟩;cases h1 with
   |cons _ h=>exact .inr ⟨h,h2⟩
   |cons_cons _ h=>exact .inl ⟨_,nA.2 ⟨h,by simpa using h2⟩,rfl⟩
theorem Bs{l:Spx}{k:Nat}(h:l.length<k):dS l k=[]:=by
 cases e:dS l k with
 |nil=>rfl
 |cons a r=>
  have:=nA.1 (show a∈dS l k by rw[e];exact ju);have:=this.1.length_le;omega
def chK:Nat->Nat->Nat
 |_,0=>1
 |0,_+1=>0
 |n+1,k+1=>chK n k+chK n (k+1)
theorem LJ{n:Nat}:chK n 0=1:=by cases n<;>rfl
theorem vo:∀{l:Spx}{k:Nat},(dS l k).length=chK l.length k
 |l,0=>by rw[xW,LJ];rfl
 |[],k+1=>rfl
 |x::l,k+1=>by
  rw[qW,cq,bD,vo,vo];rfl
theorem Jy{n k:Nat}(hn:n<=8):chK n k<=70:=by
 by_cases hk:k<=8
 ·have:∀n,n<9->∀k,k<9->chK n k<=70:=by decide
  exact this n (by omega) k (by omega)
 ·have:∀n k,n<k->chK n k=0:=by
    intro n
    induction n with
    |zero=>intro k h;match k,h with|k+1,_=>rfl
    |succ n ih=>intro k h;match k,h with|k+1,h=>show chK n k+chK n (k+1)=0;rw[ih k (by omega),ih (k+1) (by omega)]
  rw[this n k (by omega)];omega
theorem B7{l:Spx}{k:Nat}(h:l.length<=8):(dS l k).length<=70:=by rw[vo];exact Jy h
theorem CY{l:Spx}{i k:Nat}(hi:i<l.length):dS (l.drop i) (k+1)=(dS (l.drop (i+1)) k).map (l.getD i default:: ·)++dS (l.drop (i+1)) (k+1):=by
 rw[List.drop_eq_getElem_cons hi,qW];simp[List.getD,hi]
section
attribute [local irreducible] aE ai be aP aJ aK ay aL aR bn Go.Abs.Fn aO Go.Abs.Pure ak aD Yl
theorem Gl(c:List Spx)(hc:Shn c)(hs:∀s∈c,Shn s):pU 35 [me c] (.int .i64 (gl c)):=by
 refine pO OU ?_;simp only[b35,aw];have hc':c.length<=17592186044416:=hc;by_cases h0:4096<c.length
 ·rw[show gl c=5 by unfold gl;rw[if_pos h0]];refine wnZ (zI3 @aW @bJ @br) ?_
  all_goals exact aA rfl
 rw[show gl c=if fH (xz c) c.length≠0 then fH (xz c) c.length else if c.any (dU c)=true then 7 else 0 by unfold gl;rw[if_neg h0]];refine jw ?_;have zz:=aI @aW (aI @bJ @br);repeat' (first|apply a_n|refine zO ?_|refine vZ ?_|refine bxZ ?_|fail)
 refine jw (jw ?_);clear zz;have zz:=aI @aW (aI @bJ @br);repeat' (first|apply a_n|refine zO ?_|refine vZ ?_|(refine zGZ ?_ ?_<;>(intro _hg;try (exfalso;omega)))|fail)
 by_cases hz:fH (xz c) c.length≠0
 ·rw[if_pos hz];refine wnZ (zI3 @aW @bJ @br) ?_;refine lpI (X:=Nat) (λk=>[(1,.ptr 0 1 0),(14,bo c),(15,.int .i64 c.length),(16,.int .i64 k)]) (λk H nx=>k<=c.length/\H 0=some [bo c]/\∀i,i<k->xz c i=0) (λk=>c.length-k) 0 ⟨bz _,rfl,λi h=>absurd h (by omega)⟩ ?_;rintro k H nx ⟨h1,g0,h2⟩;by_cases hk:k<c.length
  rotate_left
  ·exact absurd (jl λi hi=>h2 i (by omega)) hz
  have ix:=o0 hk;have hs1:=hs _ (cP hk);have hp:=qm (c.getD k default) hs1;have hsp:=BE (c:=c) (k:=k);by_cases he:eu (c.getD k default)≠0
  ·rw[if_pos he] at hsp;rw[jT hk h2 (by rw[hsp];exact he),hsp];have z:decide (eu (c.getD k default)≠0)=true:=bG he;refine wnY (zI3 @aW @ix @z) ?_;exact .int _ _
  rw[if_neg he] at hsp;have he:=Dy he;rw[he] at hp;have z:decide ((0:Int)≠0)=false:=rfl;by_cases hk0:0<k
  rotate_left
  ·rw[if_neg (λh=>hk0 h.1)] at hsp;have zk:decide (0<(k:Int))=false:=bK (by omega);refine wnY (zI4 @aW @ix @z @zk) ?_
   exact ⟨k + 1,by omega,⟨by omega,g0,fun i hi=>by
    rcases ij.1 hi with h'|rfl
    ·exact h2 i h'
    ·exact hsp⟩,ag0⟩
  have zk:decide (0<(k:Int))=true:=bG (by omega)
  have iy:cA 1 (bo c) (.int .i64 ((k:Int)-1))=some (.iptr [aG (c.getD (k-1) default)] 0):=by
   have:=o0 (l:=c) (k:=k-1) (by omega)
   rwa [show((k-1:Nat):Int)=(k:Int)-1 by omega] at this
  have hcm:=jM (c.getD (k-1) default) (c.getD k default) (hs _ (cP (by omega))) hs1;by_cases hv:0<=dy (c.getD (k-1) default) (c.getD k default)
  ·have z2:decide (0<=dy (c.getD (k-1) default) (c.getD k default))=true:=bG hv;rw[if_pos ⟨hk0,hv⟩] at hsp;rw[jT hk h2 (by rw[hsp];decide),hsp];refine wnY (zI7 @aW @ix @iy @z @zk @z2 @g0) ?_;exact .int _ _
  ·have z2:decide (0<=dy (c.getD (k-1) default) (c.getD k default))=false:=bK hv;rw[if_neg (λh=>hv h.2)] at hsp;refine wnY (zI7 @aW @ix @iy @z @zk @z2 @g0) ?_
   exact ⟨k + 1,by omega,⟨by omega,g0,fun i hi=>by
    rcases ij.1 hi with h'|rfl
    ·exact h2 i h'
    ·exact hsp⟩,ag0⟩
 have hz:=Dy hz;rw[if_neg (λh=>h hz)];obtain⟨a1,a2⟩:=GF hz;have hall:=lL hz;have hok:=Ke (by omega) a1;refine cS (λT H nx=>T 1=.ptr 0 1 0/\H 0=some [bo c]/\1<=nx) ?_ ?_
 ·refine wnZ (zI3 @aW @bJ @br) ?_;refine lpI (X:=Nat) (λk=>[(1,.ptr 0 1 0),(14,bo c),(15,.int .i64 c.length),(16,.int .i64 k)]) (λk H nx=>k<=c.length/\H 0=some [bo c]/\1<=nx) (λk=>c.length-k) 0 ⟨bz _,rfl,by omega⟩ ?_;rintro k H nx ⟨h1,g0,hnx⟩;by_cases hk:k<c.length
  rotate_left
  ·refine wnY and_self ?_;exact⟨rfl,g0,hnx⟩
  have ix:=o0 hk;have hs1:=hs _ (cP hk);have hp:=qm (c.getD k default) hs1;rw[a1 _ (cP hk)] at hp;have z:decide ((0:Int)≠0)=false:=rfl;by_cases hk0:0<k
  rotate_left
  ·have zk:decide (0<(k:Int))=false:=bK (by omega);refine wnY (zI4 @aW @ix @z @zk) ?_;exact⟨k+1,by omega,⟨by omega,g0,hnx⟩,ag0⟩
  have zk:decide (0<(k:Int))=true:=bG (by omega)
  have iy:cA 1 (bo c) (.int .i64 ((k:Int)-1))=some (.iptr [aG (c.getD (k-1) default)] 0):=by
   have:=o0 (l:=c) (k:=k-1) (by omega)
   rwa [show((k-1:Nat):Int)=(k:Int)-1 by omega] at this
  have hcm:=jM (c.getD (k-1) default) (c.getD k default) (hs _ (cP (by omega))) hs1;have z2:decide (0<=dy (c.getD (k-1) default) (c.getD k default))=false:=bK (by have:=mQ a2 (i:=k-1) (j:=k) (by omega) hk;omega);refine wnY (zI7 @aW @ix @iy @z @zk @z2 @g0) ?_;exact⟨k+1,by omega,⟨by omega,g0,hnx⟩,ag0⟩
 rintro T H nx ⟨t1,g0,hnx⟩;refine wnY (aI @t1 @g0) ?_;refine a7 ev0 (have zz:=@t1;evZ) (rW c hok.1 (λs hs=>⟨(hok.2 s hs).1,by have:=(hok.2 s hs).2;omega⟩) _ _) ?_;rintro _ H1 nx1 ⟨ks,vs,rfl,hinc,hsame,hlt⟩;have g0':H1 0=some [bo c]:=(hsame 0 (by omega)).trans g0;refine wnY (zI3 @t1 @g0' @aW) ?_;refine bj (X:=Nat) (λk=>[(1,.ptr 0 1 0),(6,.mp nx),(44,bo c),(45,.int .i64 c.length),(46,.int .i64 k)]) (λk H' nx'=>k<=c.length/\H'=H1/\nx'=nx1/\∀i,i<k->dU c (c.getD i default)=false) (λk=>c.length-k) 0 ⟨bz _,rfl,rfl,λi h=>absurd h (by omega)⟩ (have zz:=@t1;agZ) ?_;rintro k H' nx' ⟨h1,rfl,rfl,h2⟩;by_cases hk:k<c.length
 rotate_left
 ·rw[lD λi hi=>h2 i (by omega),if_neg (by decide)];refine wnY and_self ?_;exact .int _ _
 have ix:=o0 hk;obtain⟨p1,p2,p3,p4⟩:=i5 (a1 _ (cP hk));have hcv:=wz c (c.getD k default) hok (hok.2 _ (cP hk)) (by omega);have iy:=ix2 (l:=c.getD k default) (k:=0) (by omega);rw[show((0:Nat):Int)=0 from rfl] at iy
 have hks:(c.getD k default).getD 0 default∈ks:=(hinc.dom _).2 λe=>by
  have:k∈mh c c.length ((c.getD k default).getD 0 default):=kd.2 ⟨gG.2 hk,bG (cP (by omega))⟩;rw[e] at this;cases this
 have hmf:=AO ((c.getD k default).getD 0 default) ks;rw[if_pos hks] at hmf;obtain⟨m1,m2⟩:=sU hks;have hr:=hinc.row _ m1;rw[m2] at hr;have hcb:dU c (c.getD k default)=true->c.any (dU c)=true:=λh=>lu.2 ⟨_,cP hk,h⟩;generalize hsk:c.getD k default=s at *;refine wnY @ix ?_;refine uk 0 g0' λS hS0 hsub'=>?_;have hsub:=hsub' H' g0';refine wnY (aI @hS0 @iy) ?_;refine eh ?_;refine il ev0 hinc.box ev0 (Cb _) hmf ?_;refine jg ⟨hsub,?_⟩;rw[show mget .esl false (some (ks.idxOf (s.getD 0 default))) vs=vs.getD (ks.idxOf (s.getD 0 default)) .undef from rfl];refine ga ?_;cases hb:dU c s
 ·rw[hb] at hcv;refine ec ev0 ev0 hcv (aC (af (cR _ _) (af (zB hr) (af (bT _ _) aj))) rfl) ?_;refine wnY and_self ?_
  exact ⟨k + 1,by omega,⟨by omega,rfl,rfl,fun i hi=>by
   rcases ij.1 hi with h'|rfl
   ·exact h2 i h'
   ·rw[hsk];exact hb⟩,ag0⟩
 ·rw[hb] at hcv;rw[hcb hb,if_pos rfl];refine ec ev0 ev0 hcv (aC (af (cR _ _) (af (zB hr) (af (bT _ _) aj))) rfl) ?_;refine wnY and_self ?_;exact .int _ _
end
end Go.Proofs.YtmpcledaoigkaaaGreat
