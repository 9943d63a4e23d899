/- Contracts of functions and plain laws, for all inputs that the theorems name. -/
import Derived.Test.YtbmjaojeplmhnaaGreatXG5
import Derived.Test.YtbmjaojeplmhnaaGreatXG4
import Derived.Test.YtbmjaojeplmhnaaGreatXG3
import Derived.Test.YtbmjaojeplmhnaaGreatRows
import Derived.WalkKit
import Derived.ProofKit
import Derived.OpenShut

set_option linter.unusedSimpArgs false
set_option linter.unusedVariables false
set_option maxHeartbeats 4000000
namespace Go.Proofs.YtbmjaojeplmhnaaGreat
open Go Go.Abs
open Nat (reduceEqDiff reduceAdd reduceLeDiff)
structure SMem(a b:AdvV)(nx:Nat)(H0 H:Hp)(V:List VisV)(lv:AV)(n:Nat):Prop where
 ga:H nx=some [.int .i64 a.n,aN a.states]
 gb:H (nx+1)=some [.int .i64 b.n,aN b.states]
 gf:H (nx+2)=some [.func 101 []]
 g6:H (nx+3)=some [.esl]
 g7:H (nx+4)=some [.esl]
 g8:H (nx+6)=some [lv]
 gm:H (nx+7)=some [.omap ((V.map prV).map pkV) (pW V.length)]
 g9:H (nx+8)=some [.mp (nx+7)]
 row:Row H 10 lv (cL hU V)
 rb:∀c,bk lv=some c->c=nx+5\/(nx+9<=c/\c<n)
 le:nx+9<=n
 fr:∀y,y<nx->H y=H0 y
theorem SMem.same{a b:AdvV}{nx:Nat}{H0 H H':Hp}{V:List VisV}{lv:AV}{n n':Nat}(h:SMem a b nx H0 H V lv n)(hn:n<=n')(hs:∀y,y<nx+9->H' y=H y)(hl:∀c,bk lv=some c->H' c=H c):SMem a b nx H0 H' V lv n':=
 ⟨(hs _ (by omega)).trans h.ga,(hs _ (by omega)).trans h.gb,(hs _ (by omega)).trans h.gf,(hs _ (by omega)).trans h.g6,(hs _ (by omega)).trans h.g7,(hs _ (by omega)).trans h.g8,(hs _ (by omega)).trans h.gm,(hs _ (by omega)).trans h.g9,h.row.same hl,λc hc=>(h.rb c hc).imp id λq=>⟨q.1,by omega⟩,by have:=h.le;omega,λy hy=>(hs y (by omega)).trans (h.fr y hy)⟩
section
attribute [local irreducible] aF ai bh aY aO aM ax aS a7 bm Go.Abs.Fn aX Go.Abs.Pure ap aJ Yl
set_option maxHeartbeats 8000000 in
def Nx:C2->C2
 |.seq a (.seq b (.seq c (.seq d _)))=>.seq a (.seq b (.seq c (.seq d .skip)))
 |x=>x
def L3(a b:AdvV)(H0:Hp)(nx:Nat):CP
 |.normal,T,H,n=>EqA a b/\T 6=.ptr (nx+3) 1 0/\T 7=.ptr (nx+4) 1 0/\T 8=.ptr (nx+6) 1 0/\H (nx+3)=some [.esl]/\H (nx+4)=some [.esl]/\(∃lv,H (nx+6)=some [lv]/\lv.one=true/\lv.cells=[lv])/\nx+9<=n/\∀y,y<nx->H y=H0 y
 |.ret,T,H,n=>¬EqA a b/\T 6=.ptr (nx+3) 1 0/\T 7=.ptr (nx+4) 1 0/\nx<=n/\(∀y,y<nx->H y=H0 y)/\∃lv b' k,H (nx+3)=some [lv]/\H (nx+4)=some [.msl b' (k*7) 7 0 k]/\0<k
 |.exit _,_,_,_=>False
theorem Gk(a b:AdvV)(sa:ShA a)(sb:ShA b)(oa:AdvOk a)(ob:AdvOk b)(H0:Hp)(nx:Nat):
    aF Tryz.prog (Nx (L6).body) (T0 [ce a,ce b,.func 101 []]) H0 nx (L3 a b H0 nx):=by
 simp only[L6,aw];simp only[Nx];unfold ce;rw[PC.2.2.2.1,PC.2.2.2.1];have zz:=@PE;repeat' (first|refine zW ?_|apply a_n|refine zO ?_|refine vY ?_|refine alY ?_|refine bxY ?_|refine stY ?_|refine blY ?_|fail)
 refine Ag ?_;clear zz;have zz:=@PE;repeat' (first|apply a_n|refine zO ?_|refine vY ?_|fail)
 refine pN (b:=nx+5+1+1) (kv:=pkV (0,0)) (ks:=[]) (vs:=[]) (r:=none) ev0 (by simp (disch:=omega) only[ae]) (by((try simp only[bf,ZA,reduceEqDiff,↓reduceIte,reduceAdd,reduceLeDiff]);(try with_reducible rfl));rfl) ev0 rfl rfl ?_;clear zz;have zz:=@PE;repeat' (first|apply a_n|refine zO ?_|refine vY ?_|fail)
 refine yw (cs:=[.nilm]) rfl rfl rfl ?_;clear zz;have zz:=@PE;repeat' (first|refine zW ?_|apply a_n|refine zO ?_|refine alY ?_|refine stY ?_|fail)
 refine bt (X:=Nat×Nat×List VisV×AV) (λx=>[(3,.ptr nx 2 0),(4,.ptr (nx+1) 2 0),(5,.ptr (nx+2) 1 0),(6,.ptr (nx+3) 1 0),(7,.ptr (nx+4) 1 0),(8,.ptr (nx+6) 1 0),(9,.ptr (nx+8) 1 0),(10,.ptr x.2.1 1 0)])
  (λx H n=>x.1<=x.2.2.1.length/\VOk a b x.2.2.1/\(∀j,j<x.1->Clo a b (x.2.2.1.map prV) (prV (x.2.2.1.getD j default)))/\SMem a b nx H0 H x.2.2.1 x.2.2.2 n/\nx+9<=x.2.1/\x.2.1<n/\H x.2.1=some [.int .i64 x.1]/\bk x.2.2.2≠some x.2.1)
  (λx=>65-x.1) (0,nx+9,[⟨0,0,0,⟨0,0,0,0,0,0,0⟩⟩],.msl (nx+5) 10 10 0 1)
  ⟨bo _,VOk.start oa ob _,λj hj=>absurd hj (Nat.not_lt_zero _),⟨by simp (disch:=omega) only[ab,ae],by simp (disch:=omega) only[ab,ae],by simp (disch:=omega) only[ab,ae],by simp (disch:=omega) only[ab,ae],by simp (disch:=omega) only[ab,ae],by simp (disch:=omega) only[ab,ae];rfl,by simp (disch:=omega) only[ab,ae];rfl,by simp (disch:=omega) only[ab,ae];rfl,Row.box (sz:=10) (nx+5) 1 _ (by simp (disch:=omega) only[ab,ae];rfl) rfl,λc h=>by cases h;exact .inl rfl,by omega,λy hy=>by simp (disch:=omega) only[ab]⟩,bd _,by dsimp only;omega,by simp (disch:=omega) only[ae];rfl,λh=>by cases h⟩ (by simp (disch:=omega) only[agr,ZG,reduceEqDiff,↓reduceIte,SL,kV]) ?_
 rintro⟨i,c,V,lv⟩ H1 n1 ⟨hi,hV,hD,hM,hc1,hc2,gc,hlc⟩;dsimp only at hi hV hD hM hc1 hc2 gc hlc |-;have hV64:=hV.len sa.len sb.len;have hcl:=eu (f:=hU) (sz:=10) (λ_=>rfl) V;have hlen:=hM.row.lenS hcl (by omega);obtain⟨o1,o2⟩:=hM.row.one;by_cases hi2:i<V.length
 rotate_left
 ·obtain rfl:i=V.length:=by omega
  have z:decide ((V.length:Int)<V.length)=false:=bR (by omega);have k8:=hM.g8;have k6:=hM.g6;have k7:=hM.g7;have hle:=hM.le;clear zz;have zz:=aI @PE (aI @gc (aI @k8 (aI @k6 (aI @k7 (aI @hlen (aI @z (aI @o1 @o2)))))));repeat' (first|refine zW ?_|apply a_n|apply a_x|refine zO ?_|refine vY ?_|refine cFY ?_|fail)
  refine⟨EP hV.hd λq hq=>?_,(have zz:=@SL;evZ),(have zz:=@SL;evZ),(have zz:=@SL;evZ),k6,k7,⟨lv,k8,o1,o2⟩,hle,hM.fr⟩;obtain⟨v,hv,rfl⟩:=cC.1 hq;obtain⟨j,hj,e⟩:=fS hv;have:=hD j hj
  rwa [show V.getD j default=v by rw[<-e];simp[List.getD,hj]] at this
 obtain⟨B,len,rfl,hB,hBl⟩:=jO hM.row (λe=>by rw[e] at hcl;simp at hcl;omega);rw[hcl] at hBl;obtain rfl:len=V.length:=by omega
 have hBn:B=nx+5\/(nx+9<=B/\B<n1):=hM.rb B rfl;have hBc:B≠c:=λe=>hlc (by rw[e];rfl);have hle:=hM.le;have z:decide ((i:Int)<V.length)=true:=bV (by omega);have e1:=ixN (b:=B) (n:=V.length*10) (sz:=10) (k:=i) (len:=V.length) hi2;have hr:rd H1 2 (.ptr B (V.length*10) (i*10))=some [.int .i64 (V.getD i default).p0,.int .i64 (V.getD i default).p1]:=rdP (f:=hU) (sz:=10) (λ_=>rfl) hB rfl (k:=i) (o:=0) (q:=2) hi2 (by omega);have hvm:=ao hi2;obtain⟨hs1,hs2⟩:=hV.rng _ hvm;have hbo:=hV.both _ hvm;have ka:=hM.ga;have kb:=hM.gb;have k8:=hM.g8;have ixa:=tA hs1;have ixb:=tA hs2;rw[nI] at ixa ixb;clear zz;have zz:=aI @PE (aI @gc (aI @k8 (aI @hlen (aI @z (aI @o1 (aI @o2 (aI @e1 @hr)))))));repeat' (first|refine zW ?_|apply a_n|refine zO ?_|refine vY ?_|refine alY ?_|refine stY ?_|refine cTY ?_|fail)
 refine ff _ rfl (λ_ _ h=>h) ?_;clear zz;have zz:=aI @PE (aI @ka (aI @kb (aI @EB (aI @ixa @ixb))));repeat' (first|apply a_n|refine zO ?_|refine nvY ?_|apply fj|fail)
 refine ci ev0 ev0 (Kw (a.st (V.getD i default).p0) (b.st (V.getD i default).p1) _ _) ?_;rintro _ _ _ ⟨rfl,rfl,rfl⟩;clear zz;have zz:=@PE;repeat' (first|refine zW ?_|apply a_n|refine zO ?_|fail)
 have hxa:(a.st (V.getD i default).p0).length<=1000000:=fu (jA (fF hs1)) (fu oa.m4096 (by omega));have hxb:(b.st (V.getD i default).p1).length<=1000000:=fu (jA (fF hs2)) (fu ob.m4096 (by omega));have hmo:=yO _ _ _ (oV oa hs1) (oV ob hs2) (bd _);have hcl2:=λP h=>Mg oa ob (P:=P) (q:=prV (V.getD i default)) hs1 hs2 h;have hnd:=λs hs hd=>Co oa ob (q:=prV (V.getD i default)) hs1 hs2 hbo (s:=s) hs hd;refine kw (n1+1+1+1) (n1+1+1+1+1) rfl rfl ev0 (λc0 cj hy=>?_)
 refine Abs.Fn.mono (Hy (a.st (V.getD i default).p0) (b.st (V.getD i default).p1) hxa hxb (n1 + 1) (n1 + 1 + 1) (by omega) (by omega) (by simp (disch:=omega) only [ab,ae]) (by simp (disch:=omega) only [ab,ae])
  (I:=λD H n=>n1+4<=n/\H (n1+3)=some [c0]/\H c=some [.int .i64 i]/\∃V' lv' R,SMem a b nx H0 H V' lv' n/\VOk a b V'/\V'=V++R/\(∀s∈D,0<=s.t0/\0<=s.t1/\(s.t0.toNat,s.t1.toNat)∈V'.map prV)/\∀x,bk lv'=some x->x≠c/\x≠n1+1/\x≠n1+2/\x≠n1+3)
  (Q:=λH n=>H (n1+3)=some [cj .ret]/\n1+4<=n/\(∀y,y<nx->H y=H0 y)/\∃lv wv,H (nx+3)=some [lv]/\H (nx+4)=some [wv]/\lv.one=true/\lv.cells=[lv]/\¬EqA a b/\∃b' k,0<k/\wv=.msl b' (k*7) 7 0 k) ?_ ?_ ?_) ?_
 ·rintro D H n H' n' ⟨q1,q2,q3,V',lv',R,q4,q5,q6,q7,q8⟩ hn hs;exact⟨by omega,(hs _ (by omega) (by omega) (by omega)).trans q2,(hs _ (by omega) (by omega) (by omega)).trans q3,V',lv',R,q4.same hn (λy hy=>hs y (by omega) (by omega) (by omega)) (λx hx=>hs x (by rcases q4.rb x hx with h|h<;>omega) (q8 x hx).2.1 (q8 x hx).2.2.1),q5,q6,q7,q8⟩
 ·rintro D s H n ⟨q1,q2,q3,V',lv',R,q4,q5,q6,q7,q8⟩ hnn ⟨R',hR'⟩;have hsm:s∈mrg (a.st (V.getD i default).p0) (b.st (V.getD i default).p1):=by rw[hR'];exact wA _ (iE ..)
  refine hy _ _ _ _ q2 rfl ?_;clear zz;clear hy;have hsc:s.cs=[.int .i64 s.r.n,.int .i64 s.r.h0,.int .i64 s.r.h1,.int .i64 s.r.h2,.int .i64 s.r.h3,.int .i64 s.r.h4,.int .i64 s.r.f,.int .i64 s.t0,.int .i64 s.t1]:=rfl;rw[hsc];have zz:=@PE;repeat' (first|apply a_n|refine zO ?_|refine alY ?_|refine stY ?_|fail)
  refine⟨by simp (disch:=omega) only[ab];exact q2,?_⟩;generalize hX:dw (av _ _ _) (n1+1+1+1)=H3;have w:∀y,y<n->y≠n1+3->H3 y=H y:=λy h1 h2=>by rw[<-hX];simp (disch:=omega) only[bQ,ab]
  have w12:H3 n=some [.int .i64 s.r.n,.int .i64 s.r.h0,.int .i64 s.r.h1,.int .i64 s.r.h2,.int .i64 s.r.h3,.int .i64 s.r.h4,.int .i64 s.r.f,.int .i64 s.t0,.int .i64 s.t1]:=by rw[<-hX];simp (disch:=omega) only[bQ,ae];rfl
  clear zz;clear hX;have hle4:=q4.le;have m:=q4.same (H':=H3) (n':=n+1) (by omega) (λy hy=>w y (by omega) (by omega)) (λx hx=>w x (by rcases q4.rb x hx with h|h<;>omega) (q8 x hx).2.2.2);have m5:=m.gf;have m8:=m.g8;have m9:=m.g9;have mc:=(w c (by omega) (by omega)).trans q3;have hdf:=Mq s;rw[hsc] at hdf;obtain⟨p1,p2⟩:=m.row.one;have hds:Dat (.agg [.int .i64 s.r.n,.int .i64 s.r.h0,.int .i64 s.r.h1,.int .i64 s.r.h2,.int .i64 s.r.h3,.int .i64 s.r.h4,.int .i64 s.r.f,.int .i64 s.t0,.int .i64 s.t1]):=Dat.agg (DatL.cons .int (DatL.cons .int (DatL.cons .int (DatL.cons .int (DatL.cons .int (DatL.cons .int (DatL.cons .int (DatL.cons .int (DatL.cons .int DatL.nil)))))))));by_cases hd:s.t0<0\/s.t1<0
  ·have zd:(decide (s.t0<0) || decide (s.t1<0))=true:=by
     rcases hd with h|h
     ·rw[bV h];rfl
     ·rw[bV h,Bool.or_true]
   rw[zd] at hdf;have zz:=aI @PE (aI @m5 @w12);repeat' (first|refine zW ?_|apply a_n|refine zO ?_|refine vY ?_|refine cY ?_ (hp:=hdf)|refine cTY ?_|fail)
   obtain⟨S,hSub,zS,zN⟩:∃S:Hp,Sub S H3/\(∀x,x<n+1->S x=H3 x)/\∀x,¬x<n+1->S x=none:=by
    refine⟨λx=>if x<n+1 then H3 x else none,?_,λx h=>if_pos h,λx h=>if_neg h⟩;intro x cs h;by_cases q:x<n+1
    ·exact(if_pos q).symm.trans h
    ·have h2:none=some cs:=(if_neg q).symm.trans h;cases h2
   have s8:=(zS (nx+6) (by omega)).trans m8;have sc:=(zS c (by omega)).trans mc;have s12:=(zS n (by omega)).trans w12;refine ff S rfl hSub ?_;clear zz;have zz:=aI @PE (aI @s8 (aI @sc (aI @s12 (aI @p1 @p2))));repeat' (first|apply a_n|refine zO ?_|refine nvY ?_|fail)
   have hcl':=eu (f:=hU) (sz:=10) (λ_=>rfl) V';obtain⟨B',len,rfl,hB',hBl'⟩:=jO m.row (λe=>by have:=q5.ne;rw[e] at hcl';simp at hcl';omega);rw[hcl'] at hBl';obtain rfl:len=V'.length:=by omega
   have hB1:=m.rb B' rfl;have hwc:=MM V' i B' s.r H3 (n+1) hB' (by rcases hB1 with h|h<;>omega) (by have:=q5.len sa.len sb.len;omega) (by rw[q6,cQ];omega) q5.fr;rw[PC.1] at hwc;refine dB ?_;refine ci ev0 ev0 hwc ?_;rintro _ H5 n5 ⟨⟨b',k,hk,rfl⟩,hle5,fr5⟩;refine iq ⟨λx cs h=>?_,?_⟩
   ·by_cases q:x<n+1
    ·rw[fr5 x q,<-zS x q];exact h
    ·rw[zN x q] at h;cases h
   have f6:=(fr5 (nx+3) (by omega)).trans m.g6;have f7:=(fr5 (nx+4) (by omega)).trans m.g7;clear zz;have zz:=aI @PE (aI @f6 @f7);repeat' (first|apply a_n|apply a_r|refine zO ?_|apply fj|refine stY ?_|fail)
   exact .inr ⟨rfl,ae,by omega,λy hy=>by simp (disch:=omega) only[ab];exact(fr5 y (by omega)).trans (m.fr y hy),_,_,by simp (disch:=omega) only[ab,ae];rfl,by simp (disch:=omega) only[ab,ae];rfl,rfl,rfl,hnd s hsm hd,b',k,hk,rfl⟩
  have zd:(decide (s.t0<0) || decide (s.t1<0))=false:=by
   rw[bR (λh=>hd (.inl h)),bR (λh=>hd (.inr h))];rfl
  rw[zd] at hdf;have z1:decide (s.t0≥0)=true:=bV (by omega);have z2:decide (s.t1≥0)=true:=bV (by omega)
  have hkey:AV.agg [.int .i64 s.t0,.int .i64 s.t1]=pkV (s.t0.toNat,s.t1.toNat):=by
   unfold pkV;rw[Int.toNat_of_nonneg (by omega),Int.toNat_of_nonneg (by omega)]
  have zz:=aI @PE (aI @m5 (aI @m9 (aI @w12 (aI @z1 (aI @z2 @EB)))));repeat' (first|refine zW ?_|apply a_n|refine zO ?_|refine vY ?_|refine cY ?_ (hp:=hdf)|refine gTY ?_|refine cFY ?_|fail)
  by_cases hmem:(s.t0.toNat,s.t1.toNat)∈V'.map prV
  ·obtain⟨k,hk,hf⟩:=GW hmem;rw[<-hkey] at hf;refine n9 (b:=nx+7) ev0 m.gm ev0 rfl hf ?_;rw[show mget (AV.bool false) false (some k) (pW V'.length)=(pW V'.length).getD k .undef from rfl,Bw (by rw[bj] at hk;exact hk)];clear zz;have zz:=@PE;repeat' (first|apply a_n|refine zO ?_|refine vY ?_|refine gTY ?_|refine cFY ?_|fail)
   refine .inl ⟨rfl,⟨by omega,by simp (disch:=omega) only[ae],by simp (disch:=omega) only[ab];exact mc,V',lv',R,m.same (bd _) (λy hy=>by simp (disch:=omega) only[ab]) (λx hx=>by have:=(q8 x hx).2.2.2;simp (disch:=omega) only[ab]),q5,q6,?_,q8⟩,by omega,by simp (disch:=omega) only[ab];exact w _ (by omega) (by omega),by simp (disch:=omega) only[ab];exact w _ (by omega) (by omega)⟩;intro s' hs';rcases mL.1 hs' with h|h
   ·exact q7 s' h
   ·obtain rfl:=fX.1 h;exact⟨by omega,by omega,hmem⟩
  ·have hf:=Hl hmem;rw[<-hkey] at hf;refine n9 (b:=nx+7) ev0 m.gm ev0 rfl hf ?_;rw[show mget (AV.bool false) false none (pW V'.length)=.bool false from rfl];clear zz;have zz:=aI @PE (aI @m9 @w12);repeat' (first|refine zW ?_|apply a_n|refine zO ?_|refine vY ?_|refine gTY ?_|refine cTY ?_|fail)
   refine pN (b:=nx+7) ev0 m.gm ev0 ev0 rfl hf ?_;clear zz;have zz:=aI @PE (aI @m8 (aI @w12 @mc));repeat' (first|apply a_n|refine zO ?_|refine vY ?_|refine blY ?_|fail)
   have hcl':=eu (f:=hU) (sz:=10) (λ_=>rfl) V';have hl':=q5.len sa.len sb.len;have hB1:=m.rb;refine ed (k:=1) (sv:=lv') (xv:=.msl (n+1) 10 10 0 1) (cs:=cL hU V') (new:=[.int .i64 s.t0,.int .i64 s.t1,.int .i64 i,.int .i64 s.r.n,.int .i64 s.r.h0,.int .i64 s.r.h1,.int .i64 s.r.h2,.int .i64 s.r.h3,.int .i64 s.r.h4,.int .i64 s.r.f]) rfl ev0 (m.row.same λx hx=>by rcases hB1 x hx with h|h<;>simp (disch:=omega) only[ab]) ev0 (dz rfl) rfl rfl (by omega) (by omega) (by omega) ?_;rintro lv2 H4 n4 r1 r2 r3 r4 r5
   have f:∀y,y<n+1->y≠nx+7->bk lv'≠some y->H4 y=H3 y:=λy h1 h2 h3=>by
    rw[r4 y (by omega) h3];simp (disch:=omega) only[ab]
   have f7:H4 (nx+7)=some [.omap ((V'.map prV).map pkV++[pkV (s.t0.toNat,s.t1.toNat)]) (pW V'.length++[.bool true])]:=by
    rw[r4 (nx+7) (by omega) (λh=>by rcases hB1 _ h with h|h<;>omega),<-hkey];simp (disch:=omega) only[ab,ae];rfl
   rw[wQ] at f7;have f8:=(f (nx+6) (by omega) (by omega) (λh=>by rcases hB1 _ h with h|h<;>omega)).trans m8;have hg:V'.getD i default=V.getD i default:=by rw[q6];simp[List.getD,fT hi2]
   have hiV:i<V'.length:=by rw[q6,cQ];omega
   have ht0:=(ms oa hs1 (hmo s hsm).1).2 (by omega);have ht1:=(ms ob hs2 (hmo s hsm).2).2 (by omega);rw[<-hg] at ht0 ht1;have hV2:=q5.snoc oa ob hiV ht0.1 ht1.1 hmem;have hf9:∀y,y<nx+9->y≠nx+5->y≠nx+7->H4 y=H3 y:=λy h1 h2 h3=>f y (by omega) h3 (λh=>by rcases hB1 _ h with h|h<;>omega);have hc0:∀y,y=c\/y=n1+1\/y=n1+2->H4 y=H3 y:=λy h=>f y (by omega) (by omega) (λhx=>by have:=q8 y hx;omega);obtain⟨p3,p4⟩:=r1.one;clear zz;have zz:=aI @PE (aI @f8 (aI @p3 @p4));repeat' (first|apply a_n|refine zO ?_|refine stY ?_|fail)
   refine .inl ⟨rfl,⟨by omega,by simp (disch:=omega) only[ae],by simp (disch:=omega) only[ab];exact(hc0 c (.inl rfl)).trans mc,V'++[⟨s.t0.toNat,s.t1.toNat,i,s.r⟩],lv2,R++[⟨s.t0.toNat,s.t1.toNat,i,s.r⟩],⟨?_,?_,?_,?_,?_,?_,?_,?_,?_,?_,by omega,?_⟩,hV2,by rw[q6,iw],?_,?_⟩,by omega,by simp (disch:=omega) only[ab];exact(hc0 _ (.inr (.inl rfl))).trans (w _ (by omega) (by omega)),by simp (disch:=omega) only[ab];exact(hc0 _ (.inr (.inr rfl))).trans (w _ (by omega) (by omega))⟩
   ·simp (disch:=omega) only[ab];exact(hf9 _ (by omega) (by omega) (by omega)).trans m.ga
   ·simp (disch:=omega) only[ab];exact(hf9 _ (by omega) (by omega) (by omega)).trans m.gb
   ·simp (disch:=omega) only[ab];exact(hf9 _ (by omega) (by omega) (by omega)).trans m.gf
   ·simp (disch:=omega) only[ab];exact(hf9 _ (by omega) (by omega) (by omega)).trans m.g6
   ·simp (disch:=omega) only[ab];exact(hf9 _ (by omega) (by omega) (by omega)).trans m.g7
   ·simp (disch:=omega) only[ab,ae];rfl
   ·simp (disch:=omega) only[ab];rw[dv,dv,cQ];exact f7
   ·simp (disch:=omega) only[ab];exact(hf9 _ (by omega) (by omega) (by omega)).trans m.g9
   ·rw[eR,mG]
    have r1':Row H4 10 lv2 (cL hU V'++(hU ⟨s.t0.toNat,s.t1.toNat,i,s.r⟩).cells):=by
     show Row H4 10 lv2 (cL hU V'++VisV.cs ⟨s.t0.toNat,s.t1.toNat,i,s.r⟩);unfold VisV.cs;simp only[Int.toNat_of_nonneg (show 0<=s.t0 by omega),Int.toNat_of_nonneg (show 0<=s.t1 by omega)];exact r1
    exact r1'.same λx hx=>by
     have h5:=r5 x hx
     have:x≠n1+3/\(x=nx+5\/nx+9<=x):=by
      rcases h5 with h|h
      ·exact⟨(q8 x h).2.2.2,(hB1 x h).imp id (·.1)⟩
      ·omega
     simp (disch:=omega) only[ab]
   ·intro x hx;rcases r5 x hx with h|h
    ·exact(hB1 x h).imp id λq=>⟨q.1,by omega⟩
    ·exact .inr (by omega)
   ·intro y hy;simp (disch:=omega) only[ab];exact(hf9 y (by omega) (by omega) (by omega)).trans (m.fr y hy)
   ·intro s' hs';rcases mL.1 hs' with h|h
    ·obtain⟨z1,z2,z3⟩:=q7 s' h;exact⟨z1,z2,by rw[dv];exact qD _ z3⟩
    ·obtain rfl:=fX.1 h;exact⟨by omega,by omega,by rw[dv];exact wA _ (fX.2 rfl)⟩
   ·intro x hx;rcases r5 x hx with h|h
    ·exact q8 x h
    ·omega
 ·refine ⟨by omega,by simp (disch:=omega) only [ae],by simp (disch:=omega) only [ab]; exact gc,V,_,[],hM.same (by omega) (fun y hy=>by simp (disch:=omega) only [ab]) (fun x hx=>by have:=hM.rb x hx; simp (disch:=omega) only [ab]),hV,(jc _).symm,fun s hs=>(by cases hs),fun x hx=>by
    have:=hM.rb x hx;cases hx;omega⟩
 ·rintro _ H4 n4 (⟨q1,q2,q3,V',lv',R,q4,q5,q6,q7,q8⟩|⟨q2,q1,q3,lv',wv,k6,k7,o1,o2,ne,hw⟩)
  ·refine .inl ⟨q2,?_⟩;clear zz;have zz:=aI @PE @q3;repeat' (first|refine zW ?_|apply a_n|refine zO ?_|refine vY ?_|refine alY ?_|refine stY ?_|fail)
   have hle4:=q4.le;have hB1:=q4.rb
   refine ⟨(i + 1,n4,V',lv'),by dsimp only; omega,⟨by dsimp only; rw [q6,cQ]; omega,q5,fun j hj=>?_,q4.same (by omega) (fun y hy=>by simp (disch:=omega) only [bQ,ab]) (fun x hx=>by
    have:=(q8 x hx).2.2.2;have:x=nx+5\/x<n4:=(hB1 x hx).imp id (·.2);simp (disch:=omega) only[bQ,ab]),by dsimp only;omega,by dsimp only;omega,by simp (disch:=omega) only[ae];rfl,λh=>by
    have h:bk lv'=some n4:=h;rcases hB1 _ h with h|h<;>omega⟩,by simp (disch:=omega) only[agr,ZG,reduceEqDiff,↓reduceIte,SL,kV]⟩
   dsimp only at hj |-;by_cases hji:j<i
   ·have hg:V'.getD j default=V.getD j default:=by rw[q6];simp[List.getD,fT (show j<V.length by omega)]
    rw[hg];exact(hD j hji).mono λx hx=>by rw[q6,dv];exact qD _ hx
   ·obtain rfl:j=i:=by omega
    have hg:V'.getD j default=V.getD j default:=by rw[q6];simp[List.getD,fT hi2]
    rw[hg];exact hcl2 _ q7
  ·refine .inr ⟨.ret,(λh=>by cases h),q2,?_⟩;clear zz;have zz:=aI @PE (aI @k6 @k7);repeat' (first|apply a_n|apply a_r|refine zO ?_|fail)
   obtain⟨b',k,hk,rfl⟩:=hw;exact⟨ne,(have zz:=@SL;evZ),(have zz:=@SL;evZ),by omega,λy hy=>by simp (disch:=omega) only[bQ];exact q3 y hy,lv',b',k,by simp (disch:=omega) only[bQ];exact k6,by simp (disch:=omega) only[bQ];exact k7,hk⟩
end
end Go.Proofs.YtbmjaojeplmhnaaGreat
namespace Go.Proofs.YtbmjaojeplmhnaaGreat
open Go Go.Abs
section
open Go.RowKit
abbrev NIL:Value:=.slice none 0 0
theorem pn{P:Program}{N:Cfg}{x y:Code}{x2 y2:C2}{E:Env}{T:Tm}{H:Hp}{nx:Nat}{a:Act}{w:World}{K:CP}{Q:Exit->Act->World->Prop}(hm:P.follows .mixedOrders=true)(hS:Sim E N ⟨T,H,nx⟩ a w)
    (hx:nA P N.n x=some x2) (h:aF P (.seq x2 y2) T H nx K)
    (hy:∀E' T' H' nx' a' w',Ext E w E' w'->Sim E' N ⟨T',H',nx'⟩ a' w'->aF P y2 T' H' nx' K->y.wpIn (FW N.rd) 0 P Q a' w')
    (hz:∀e E' T' H' nx' a' w',e≠AEx.normal->Ext E w E' w'->Sim E' N ⟨T',H',nx'⟩ a' w'->K e T' H' nx'->Q e.cv a' w'):
    (Code.seq x y).wpIn (FW N.rd) 0 P Q a w:=by
 refine wpIn_seq ?_;have h:aF P x2 T H nx (λe T H nx=>aO e (aF P y2 T H nx K) (K e T H nx)):=h;refine wpIn_mono (gg hm x hS (iz hm x x2 hx h)) ?_;rintro e a' w' ⟨e',E',T',H',nx',rfl,he,hS',hk⟩;cases e' with
 |normal=>exact hy E' T' H' nx' a' w' he hS' hk
 |exit i=>exact hz (.exit i) E' T' H' nx' a' w' (λh=>by cases h) he hS' hk
 |ret=>exact hz .ret E' T' H' nx' a' w' (λh=>by cases h) he hS' hk
def FnV(P:Program)(f:FuncId)(args:List AV)(H:Hp)(nx:Nat)(R:AV->Value->Hp->Nat->Prop):Prop:=
 cok P f=true/\∀(E:Env)(w:World)(vs:List Value),EnvOk E w->HeapOk E H nx w->cI E nx->dJ E w args vs->
  Calls P f vs.toArray w λe w'=>∃v E' r H' nx',e=.returned v/\Ext E w E' w'/\EnvOk E' w'/\HeapOk E' H' nx' w'/\cI E' nx'/\Rel E' w' r v/\R r v H' nx'
theorem FnV.fn{P:Program}{f:FuncId}{args:List AV}{H:Hp}{nx:Nat}{R:AV->Value->Hp->Nat->Prop}{R':AV->Hp->Nat->Prop}(h:FnV P f args H nx R)(hR:∀r v H' nx',R r v H' nx'->R' r H' nx'):Abs.Fn P f args H nx R':=
 ⟨h.1,λE w vs h1 h2 h3 h4=>(h.2 E w vs h1 h2 h3 h4).mono λ_ _ ⟨v,E',r,H',nx',k1,k2,k3,k4,k5,k6,k7⟩=>⟨v,E',r,H',nx',k1,k2,k3,k4,k5,k6,hR _ _ _ _ k7⟩⟩
theorem FnV.of{P:Program}{f:FuncId}{fn:Func}{c:Code}{args:List AV}{H:Hp}{nx:Nat}{R:AV->Value->Hp->Nat->Prop}(hk:cok P f=true)(hf:P.funcs[f]?=some fn)(hc:fn.body=some c)(hlen:args.length<=fn.ntmps)
    (h:∀(E:Env)(w:World)(a:Act)(N:Cfg),N.n=fn.ntmps->N.rd=none->Sim E N ⟨T0 args,H,nx⟩ a w->c.wpIn (FW N.rd) 0 P (λe a' w'=>(e=.normal\/e=.ret)/\∃E' T' H' nx' r v,Ext E w E' w'/\Sim E' N ⟨T',H',nx'⟩ a' w'/\(∀w2,Cells w' w2->(results fn a'.tmps).run P w2=.ok v w2)/\Rel E' w' r v/\R r v H' nx') a w):FnV P f args H nx R:=by
 refine⟨hk,λE w vs hE hh hfr hv=>?_⟩;refine(callsIn_wide (n:=0)).1 (callsIn_of_wp_marks hf hc trivial ?_)
 have hS:Sim E ⟨fn.ntmps,w.heap.size,none⟩ ⟨T0 args,H,nx⟩ {tmps:=vs.toArray++Array.replicate (fn.ntmps-vs.toArray.size) Go.undef,defers:=[]} w:=by
  refine⟨hE,hh,hfr,λl hl=>(by cases hl),bd _,?_,F6 hv _,⟨Gm,λd hd=>(by cases hd)⟩⟩;simp[hv.1];omega
 refine wpIn_mono (F:=Fence.wide) (h E w _ ⟨fn.ntmps,w.heap.size,none⟩ rfl rfl hS) ?_;rintro e a' w₁ ⟨hx,E',T',H',nx',r,v,he,hS',h1,h2,hk⟩
 have:LeavesInM Fence.wide 0 P fn a'.tmps (λe w'=>∃v E' r H' nx',e=.returned v/\Ext E w E' w'/\EnvOk E' w'/\HeapOk E' H' nx' w'/\cI E' nx'/\Rel E' w' r v/\R r v H' nx') a'.defers .returning w₁:=by
  refine mJ (E:=E') (N:=⟨fn.ntmps,w.heap.size,none⟩) (w₀:=w₁) h1 (λw' hb hb2 hs hu hc=>?_) a'.defers w₁ hS'.defers (Below.refl _ _) (Below.refl _ _) ⟨rfl,bd _⟩ (λ_ _ h _=>h) (λ_ _ h=>h);obtain⟨k1,k2,k3,k4⟩:=wX hE he hS'.env hS'.heap hb hb2 hs hu hc;exact⟨v,_,r,H',nx',rfl,k1,k2,k3,hS'.fresh,k4 _ _ h2,hk⟩
 rcases hx with rfl|rfl
 ·exact this
 ·exact this
theorem FF{P:Program}{E:Env}{H H':Hp}{nx:Nat}{w:World}(hh:HeapOk E H nx w){t:TypeId}{p:AV}{vp:Value}(hp:Rel E w p vp)(h:lQ P t p .esl H=some H'):
    ∃ad w',vp=.pointer (some ad)/\(Instr.storeAt t vp NIL).run P w=.ok () w'/\w'.cell? ad=some NIL:=by
 unfold lQ at h;split at h
 ·rename_i b n off;split at h
  ·rename_i cs hb;split at h
   case isFalse=>cases h
   case isTrue hc=>
    obtain⟨rfl,ht,hf,hsz,hfit,hpos⟩:=hc;cases h;cases hp with
    |ptr _ _ _ blk bsz hm=>
    rcases hh.box b cs hb with hn0|⟨blk',sz',hx⟩
    ·rw[hn0] at hm;cases hm
    ·rw[hx.mu] at hm;cases hm;obtain⟨vals,ty,fz,k1,kz,k2,k3,k4⟩:=hx.cells;have hrun:=eD P blk off ty fz [NIL] 0 vals w k1 kz (by have:(AV.esl).cells.length=1:=rfl;simp;omega) (λv hv=>by rw[fX.1 hv];rfl);simp only[ur] at hrun;have h1c:(AV.esl).cells.length=1:=rfl;refine⟨⟨blk,off,none⟩,w.setRow blk (vals.toList.take off++[NIL]++vals.toList.drop (off+[NIL].length)).toArray,rfl,?_,?_⟩
     ·have hs:P.cellsOf t=1:=by rw[<-hsz];rfl
      have hcs:(NIL).cells=#[NIL]:=rfl;simp[Instr.storeAt,Instr.sureAddr,storeVar,aU ht,hcs,hs];simpa using hrun
     ·have:=setRow_heap w blk vals (vals.toList.take off++[NIL]++vals.toList.drop (off+[NIL].length)).toArray ty fz k1;have hl:off<vals.size:=by omega
      simp only[World.cell?,this];have e:(List.take off vals.toList).length=off:=by simp;omega
      simp[List.getElem?_append,e,Nat.min_eq_left (Nat.le_of_lt hl)]
  ·cases h
 ·cases h
theorem DE{P:Program}{N:Nat}{dsts:List (Option Nat)}{o:Oper}{i:Op2}{l:List Op2}{T:Tm}{H:Hp}{nx:Nat}{K:SP}(hc:lc P N dsts [o]=some [i])(h:ai P .text (i::l) T H nx K):
    aop P N .text dsts o T H nx (λT H nx=>ai P .text l T H nx K):=gH (K:=λT H nx=>ai P .text l T H nx K) [o] [i] hc h
theorem yC{P:Program}{N:Cfg}{rr:Option Nat}{ops:Array Oper}{Q:Exit->Act->World->Prop}{o:Oper}{rest:List Oper}{i:Op2}{l:List Op2}{E:Env}{T:Tm}{H:Hp}{nx:Nat}{a:Act}{w:World}{K:SP}(hS:Sim E N ⟨T,H,nx⟩ a w)
    (hc:lc P N.n (ops.toList.map (·.dst)) [o]=some [i]) (h:ai P .text (i::l) T H nx K)
    (hK:∀E' T' H' nx' a' w',Ext E w E' w'->Sim E' N ⟨T',H',nx'⟩ a' w'->ai P .text l T' H' nx' K->wpListIn (FW rr) 0 P ops Q rest a' w'):wpListIn (FW rr) 0 P ops Q (o::rest) a w:=
 jC (rr:=rr) (ops:=ops) (Q:=Q) (next:=wpListIn (FW rr) 0 P ops Q rest) hS (DE hc h) hK
theorem GD{P:Program}{N:Cfg}{rr:Option Nat}{ops:Array Oper}{Q:Exit->Act->World->Prop}{o:Oper}{ty:TypeId}{t:Nat}{E:Env}{T:Tm}{H:Hp}{nx:Nat}{a:Act}{w:World}{K:SP}
    (ho:o.op=.store ty (.tmp t) (.const NIL)) (hg:o.guard=none) (hd:o.dst=none) (ht:tok P ty=true) (hk:P.cellsOf ty=1) (hS:Sim E N ⟨T,H,nx⟩ a w)
    (hc:lc P N.n (ops.toList.map (·.dst)) [o]=some [⟨none,none,.st 1 (.t t) (.c .esl)⟩]) (h:ai P .text [⟨none,none,.st 1 (.t t) (.c .esl)⟩] T H nx K)
    (hK:∀E' T' H' nx' w',Ext E w E' w'->Sim E' N ⟨T',H',nx'⟩ a w'->K T' H' nx'->(∃ad,a.tmps.getD t Go.undef=.pointer (some ad)/\w'.cell? ad=some NIL)->Q .normal a w'):wpListIn (FW rr) 0 P ops Q [o] a w:=by
 have h0:=jC (rr:=rr) (ops:=ops) (Q:=λ_ _ _=>False) (next:=λa' w'=>∃E' T' H' nx',Ext E w E' w'/\Sim E' N ⟨T',H',nx'⟩ a' w'/\K T' H' nx') hS (DE hc h) (λE' T' H' nx' a' w' h1 h2 h3=>⟨E',T',H',nx',h1,h2,h3⟩);have hw:Region.wanted o (yielded ops a.tmps)=true:=by simp[Region.wanted,hg]
 rw[if_pos hw] at h0;have h0:=h0.2;have hnd:∀c,o.op≠.defer c:=λc=>by rw[ho];intro h;cases h
 have hst:∃H',lQ P ty (T t) .esl H=some H':=by
  simp only[ai,g2,aS,bh,ic,Cy,and_false,or_false] at h;have h:=h.2;simp only[kQ,ov] at h;unfold lQ;split at h
  ·rename_i b n off hp;rw[hp];dsimp only;cases hb:H b with
   |none=>rw[hb] at h;exact h.elim
   |some cs=>
    rw[hb] at h;dsimp only at h |-;by_cases q:cs.length=n/\(AV.esl).flat=true/\(AV.esl).cells.length=1/\off+1<=n
    ·exact⟨_,if_pos ⟨q.1,ht,q.2.1,by rw[hk];exact q.2.2.1,by rw[hk];exact q.2.2.2,by omega⟩⟩
    ·change ax (if cs.length=n/\(AV.esl).flat=true/\(AV.esl).cells.length=1/\off+1<=n then some (AV.tup [],av H b (cE cs off (AV.esl).cells),nx) else none) _ at h;rw[if_neg q] at h;exact h.elim
  ·exact h.elim
 obtain⟨H',hst⟩:=hst;obtain⟨ad,w1,e1,e2,e3⟩:=FF hS.heap (hS.tmps t) hst
 have hrun:(execOp a.eval o).run P w=.ok .skip w1:=by
  unfold execOp;rw[ho];have e2':(Instr.storeAt ty (a.eval (.tmp t)) (a.eval (.const NIL))).run P w=.ok () w1:=e2;show(do Instr.storeAt ty (a.eval (.tmp t)) (a.eval (.const NIL));pure Next.skip:Sem Next).run P w=_;rw[bB,e2'];rfl
 rw[fU hnd,hrun,Oper.uponIn_skip,hd] at h0;obtain⟨E',T',H',nx',k1,k2,k3⟩:=h0;show(if _ then _ else _);rw[if_pos hw];refine⟨λ_ _=>trivial,?_⟩;rw[fU hnd,hrun,Oper.uponIn_skip,hd];exact hK E' T' H' nx' w1 k1 k2 k3 ⟨ad,e1,e3⟩
theorem Ji{P:Program}{E:Env}{w:World}{H:Hp}{nx:Nat}{T:Tm}{tmps:Array Value}{fn:Func}{x:AV}{s t:Nat}{ts tt:TypeId}(hh:HeapOk E H nx w)(ht:∀t,Rel E w (T t) (tmps.getD t Go.undef))(hf:fn.results=#[.cell s ts,.cell t tt])
    (h:l9 P T H fn.results.toList=some x) (hk:tok P tt=true) (ha:qd P tt=false) (hn:∃ad,tmps.getD t Go.undef=.pointer (some ad)/\w.cell? ad=some NIL):
    ∃v1,(∀w',Cells w w'->(results fn tmps).run P w'=.ok (.tuple #[v1,NIL]) w')/\Rel E w x (.tuple #[v1,NIL]):=by
 obtain⟨v,h1,h2⟩:=rN (P:=P) (fn:=fn) hh ht h;rw[hf] at h;have h:(match mU P T H [.cell s ts,.cell t tt] with|some [x]=>some x|some xs=>some (.tup xs)|none=>none)=some x:=h;obtain⟨ad,e1,e2⟩:=hn;cases hs:lB P H ts (T s) with
 |none=>simp only[mU,hs] at h;cases h
 |some x1=>
  obtain⟨y,k1,k2⟩:=sQ (P:=P) hh (ht s) hs
  have hrun:∀w',Cells w w'->(results fn tmps).run P w'=.ok (.tuple #[y,NIL]) w':=λw' hw=>by
   have a1:=k1 w' hw
   have a2:(do loadVar tt (<-asAddr (tmps.getD t Go.undef)):Sem Value).run P w'=.ok NIL w':=by
    rw[e1];simp[asAddr,loadVar,iR hk,ha,hw _ _ e2]
   unfold results;rw[Array.mapM_eq_mapM_toList,hf];simp only[map_eq_pure_bind,List.mapM_cons,List.mapM_nil,bB,eE,a1,bv];simp only[bB] at a2;rw[a2];rfl
  refine⟨y,hrun,?_⟩;have:=h1 w (λ_ _ h=>h);rw[hrun w (λ_ _ h=>h)] at this;cases this;exact h2
abbrev MZ(a b:AdvV)(H0:Hp)(nx:Nat)(r:AV)(H':Hp)(nx':Nat):Prop:=nx<=nx'/\(∀y,y<nx->H' y=H0 y)/\∃lv wv,r=.tup [lv,wv]/\((EqA a b/\wv=.esl)\/(¬EqA a b/\∃b' k,0<k/\wv=.msl b' (k*7) 7 0 k))
theorem zQ{P:Program}{T:Tm}{H:Hp}{l:List ResultVar}{s t b c:Nat}{x y:AV}(hc:jT P l=some [.c1 s,.c1 t])(h1:T s=.ptr b 1 0)(h2:T t=.ptr c 1 0)(h3:H b=some [x])(h4:H c=some [y]):l9 P T H l=some (.tup [x,y]):=by
 have h:bm T H (λr=>r=.tup [x,y]) [.c1 s,.c1 t]:=by
  simp[bm,Bc,rv,ax,h1,h2,rd1,h3,h4]
 have:=zc hc h;cases e:l9 P T H l with
 |none=>rw[e] at this;exact this.elim
 |some r=>rw[e] at this;have this:r=_:=this;rw[this]
end
section
attribute [local irreducible] aF ai bh aY aO aM ax aS a7 bm Go.Abs.Fn aX Go.Abs.Pure ap aJ Yl
theorem Mv(H0:Hp)(nx:Nat){T4:Tm}{H4:Hp}{n4:Nat}{lv:AV}(t6:T4 6=.ptr (nx+3) 1 0)(t7:T4 7=.ptr (nx+4) 1 0)(t8:T4 8=.ptr (nx+6) 1 0)(g3:H4 (nx+3)=some [.esl])(g4:H4 (nx+4)=some [.esl])(g6:H4 (nx+6)=some [lv])(o1:lv.one=true)(o2:lv.cells=[lv])(hn4:nx+9<=n4)(hfr:∀y,y<nx->H4 y=H0 y):
    aF Tryz.prog (.ops 0 [⟨some 82,none,.ld1 (.t 8)⟩,⟨none,none,.st 1 (.t 6) (.t 82)⟩,⟨none,none,.st 1 (.t 7) (.c .esl)⟩]) T4 H4 n4 (λ_ T H n=>T 6=.ptr (nx+3) 1 0/\T 7=.ptr (nx+4) 1 0/\H (nx+3)=some [lv]/\H (nx+4)=some [.esl]/\nx<=n/\∀y,y<nx->H y=H0 y):=by
 refine wnY (zI9 @PE @t6 @t7 @t8 @g3 @g4 @g6 @o1 @o2) ?_;exact⟨(have zz:=@t6;evZ),(have zz:=@t7;evZ),by simp (disch:=omega) only[ab,ae];rfl,by simp (disch:=omega) only[ae];rfl,by omega,λy hy=>by simp (disch:=omega) only[ab];exact hfr y hy⟩
end
theorem zZ(a b:AdvV)(sa:ShA a)(sb:ShA b)(oa:AdvOk a)(ob:AdvOk b)(H0:Hp)(nx:Nat):
    FnV Tryz.prog 100 [ce a,ce b,.func 101 []] H0 nx λr v H' nx'=>MZ a b H0 nx r H' nx'/\(EqA a b->∃v1,v=.tuple #[v1,NIL]):=by
 have hw:=Gk a b sa sb oa ob H0 nx;have hres:jT Tryz.prog Tryz.f100.results.toList=some [.c1 6,.c1 7]:=by kernel_rfl
 refine FnV.of KW.cok Tryz.func100 rfl (Cg rfl) ?_;rintro E w a0 ⟨n,fl,rd⟩ hn hr hS;obtain rfl:n=_:=hn;obtain rfl:rd=none:=hr;generalize hQ:(λ(e:Exit)(a':Act)(w':World)=>(e=.normal\/e=.ret)/\∃E' T' H' nx' r v,Ext E w E' w'/\Sim E' ⟨Tryz.f100.ntmps,fl,none⟩ ⟨T',H',nx'⟩ a' w'/\(∀w2,Cells w' w2->(results Tryz.f100 a'.tmps).run Tryz.prog w2=.ok v w2)/\Rel E' w' r v/\MZ a b H0 nx r H' nx'/\(EqA a b->∃v1,v=.tuple #[v1,NIL]))=Q
 have hz:∀(e:AEx)(E':Env)(T':Tm)(H':Hp)(nx':Nat)(a':Act)(w':World),e≠.normal->Ext E w E' w'->Sim E' ⟨Tryz.f100.ntmps,fl,none⟩ ⟨T',H',nx'⟩ a' w'->L3 a b H0 nx e T' H' nx'->Q e.cv a' w':=by
  intro e E' T' H' nx' a' w' hne he hS' hk;cases e with
  |normal=>exact absurd rfl hne
  |exit i=>exact hk.elim
  |ret=>
   obtain⟨k1,k2,k3,k4,k5,lv,b',k,k6,k7,k8⟩:=hk;obtain⟨v,h1,h2⟩:=rN (P:=Tryz.prog) (fn:=Tryz.f100) hS'.heap hS'.tmps (zQ hres k2 k3 k6 k7);rw[<-hQ];exact⟨.inr rfl,E',T',H',nx',_,v,he,hS',h1,h2,⟨k4,k5,_,_,rfl,.inr ⟨k1,b',k,k8,rfl⟩⟩,λh=>absurd h k1⟩
 refine pn follows hS (by kernel_rfl) hw (λE1 T1 H1 n1 a1 w1 he1 hS1 h1=>?_) hz;refine pn follows hS1 (by kernel_rfl) h1 (λE2 T2 H2 n2 a2 w2 he2 hS2 h2=>?_) (λe E' T' H' n' a' w' hne he hS' hk=>hz e E' T' H' n' a' w' hne (he1.trans he) hS' hk);refine pn follows hS2 (by kernel_rfl) h2 (λE3 T3 H3 n3 a3 w3 he3 hS3 h3=>?_) (λe E' T' H' n' a' w' hne he hS' hk=>hz e E' T' H' n' a' w' hne ((he1.trans he2).trans he) hS' hk);refine pn follows hS3 (by kernel_rfl) h3 (λE4 T4 H4 n4 a4 w4 he4 hS4 h4=>?_) (λe E' T' H' n' a' w' hne he hS' hk=>hz e E' T' H' n' a' w' hne (((he1.trans he2).trans he3).trans he) hS' hk);obtain⟨heq,t6,t7,t8,g3,g4,⟨lv,g6,o1,o2⟩,hn4,hfr⟩:=(h4:L3 a b H0 nx .normal T4 H4 n4)
 have ha:=Mv H0 nx t6 t7 t8 g3 g4 g6 o1 o2 hn4 hfr;obtain⟨_,_,_,_,hgh,ha⟩:=ha;obtain⟨E4',he4',hS4⟩:=hS4.ghost hgh;refine wpIn_seq (wpIn_region_list ?_);refine yC hS4 (by kernel_rfl) ha (λE5 T5 H5 n5 a5 w5 he5 hS5 h5=>?_);refine yC hS5 (by kernel_rfl) h5 (λE6 T6 H6 n6 a6 w6 he6 hS6 h6=>?_);refine GD (ty:=48) (t:=7) rfl rfl rfl (by kernel_rfl) (by kernel_rfl) hS6 (by kernel_rfl) h6 (λE7 T7 H7 n7 w7 he7 hS7 h7 hnil=>?_);refine wpIn_ret ?_;obtain⟨k1,k2,k3,k4,k5,k6⟩:=h7;obtain⟨v1,r1,r2⟩:=Ji (P:=Tryz.prog) (fn:=Tryz.f100) hS7.heap hS7.tmps rfl (zQ hres k1 k2 k3 k4) (by kernel_rfl) (by kernel_rfl) hnil;rw[<-hQ];exact⟨.inr rfl,E7,T7,H7,n7,_,_,((((he1.trans he2).trans he3).trans he4).trans he4').trans ((he5.trans he6).trans he7),hS7,r1,r2,⟨k5,k6,_,_,rfl,.inl ⟨heq,rfl⟩⟩,λ_=>⟨v1,rfl⟩⟩
end Go.Proofs.YtbmjaojeplmhnaaGreat
namespace Go.Proofs.YtbmjaojeplmhnaaGreat
open Go Go.Abs
section
theorem Cf{P:Program}{rr:Option Nat}{ops:Array Oper}{Q:Exit->Act->World->Prop}{o:Oper}{rest:List Oper}{a:Act}{w:World}{v:Value}{d:Nat}(hg:o.guard=none)(hd:o.dst=some d)(hnd:∀c,o.op≠.defer c)
    (hrun:(execOp a.eval o).run P w=.ok (.value v) w) (k:wpListIn (FW rr) 0 P ops Q rest (a.put (some d) v) w):wpListIn (FW rr) 0 P ops Q (o::rest) a w:=by
 have hw:Region.wanted o (yielded ops a.tmps)=true:=by simp[Region.wanted,hg]
 show(if _ then _ else _);rw[if_pos hw];refine⟨λ_ _=>trivial,?_⟩;rw[fU hnd,hrun,Oper.uponIn_value,hd];exact k
theorem sW{P:Program}{rr:Option Nat}{ops:Array Oper}{Q:Exit->Act->World->Prop}{o:Oper}{rest:List Oper}{a:Act}{w:World}{v:Value}{x:Operand}{d:Nat}(hg:o.guard=none)(hd:o.dst=some d)(h:o.op=.move x\/o.op=.assign x)(hv:a.eval x=v)
    (k:wpListIn (FW rr) 0 P ops Q rest (a.put (some d) v) w):wpListIn (FW rr) 0 P ops Q (o::rest) a w:=
 Cf hg hd (λc=>by rcases h with h|h<;>rw[h]<;>intro h<;>cases h) (by unfold execOp;rcases h with h|h<;>rw[h,<-hv]<;>rfl) k
theorem FV{P:Program}{rr:Option Nat}{ops:Array Oper}{Q:Exit->Act->World->Prop}{o:Oper}{rest:List Oper}{a:Act}{w:World}{v:Value}{vs:Array Value}{x:Operand}{i d:Nat}(hg:o.guard=none)(hd:o.dst=some d)(h:o.op=.extract x i)(hv:a.eval x=.tuple vs)(hi:vs[i]?=some v)
    (k:wpListIn (FW rr) 0 P ops Q rest (a.put (some d) v) w):wpListIn (FW rr) 0 P ops Q (o::rest) a w:=
 Cf hg hd (fun c=>by rw [h]; intro h; cases h) (by
  unfold execOp;rw[h];show(do pure (Next.value (<-Instr.extract (a.eval x) i)):Sem Next).run P w=_;rw[hv];simp only[Instr.extract,hi];rfl) k
theorem LO{P:Program}{rr:Option Nat}{ops:Array Oper}{Q:Exit->Act->World->Prop}{o:Oper}{rest:List Oper}{a:Act}{w:World}{x:Operand}{t e ty:TypeId}{d:Nat}(hg:o.guard=none)(hd:o.dst=some d)(ht:gr P t=some e)(h:o.op=.binOp .eql t x (.const NIL) ty)(hv:a.eval x=NIL)
    (k:wpListIn (FW rr) 0 P ops Q rest (a.put (some d) (.bool true)) w):wpListIn (FW rr) 0 P ops Q (o::rest) a w:=
 Cf hg hd (fun c=>by rw [h]; intro h; cases h) (by
  have hu:=io ht
  have he0:∀d,(Op.equalIn (d+1) t NIL NIL).run P w=.ok true w:=by
   intro d;simp only[Op.equalIn,bB,cp hu,bv];rfl
  have he:=he0 9999
  have hrun:(do eqGuard .eql t x (.const NIL) NIL NIL;binOp .eql t NIL NIL:Sem Value).run P w=.ok (.bool true) w:=by
   rw[bB,gD (by simp) (by simp)];simp only[bv,binOp,Op.equal,Op.maxDepth,bB,he];rfl
  have hexec:(execOp a.eval ⟨o.dst,.binOp .eql t x (.const NIL) ty,o.type,o.pos,o.after,o.guard⟩).run P w=.ok (.value (.bool true)) w:=by
   refine kK ?_;show(do eqGuard _ t x (.const NIL) (a.eval x) NIL;binOp _ t (a.eval x) NIL:Sem Value).run P w=_;rw[hv];exact hrun
  rw[<-h] at hexec;exact hexec) k
theorem Jy{P:Program}{rr:Option Nat}{ops:Array Oper}{Q:Exit->Act->World->Prop}{o:Oper}{rest:List Oper}{a:Act}{w:World}{f:Operand}{args:Array Operand}{tys:Array TypeId}{g:FuncId}{d:Nat}(hg:o.guard=none)(hd:o.dst=some d)(ho:o.op=.call {callee:=.value f,args:=args,argTypes:=tys})
    (hf:a.eval f=.func (.func g) #[] #[]) (hk:cok P g=true) {vs:List Value} (hl:args.toList.map a.eval=vs) (hc:Calls P g vs.toArray w λe w'=>∃v,e=.returned v/\wpListIn (FW rr) 0 P ops Q rest (a.put (some d) v) w'):wpListIn (FW rr) 0 P ops Q (o::rest) a w:=by
 have hw:Region.wanted o (yielded ops a.tmps)=true:=by simp[Region.wanted,hg]
 show(if _ then _ else _);rw[if_pos hw];refine⟨λ_ _=>trivial,?_⟩;rw[fU (λc=>by rw[ho];intro h;cases h),lO ho hf hk,Oper.uponIn_enter];refine⟨(λh=>by cases h),?_⟩;have e:args.map a.eval++ #[]=vs.toArray:=by rw[<-hl,jF];simp
 rw[e];refine(kY hc).mono ?_;rintro e w' ⟨v,rfl,h⟩;show wpListIn (FW rr) 0 P ops Q rest (a.put o.dst v) w';rw[hd];exact h
theorem Jl{P:Program}{tmps:Array Value}{fn:Func}{s t u:Nat}{x y z:Value}{w:World}(hf:fn.results=#[.tmp s,.tmp t,.tmp u])(h1:tmps.getD s Go.undef=x)(h2:tmps.getD t Go.undef=y)(h3:tmps.getD u Go.undef=z):
    (results fn tmps).run P w=.ok (.tuple #[x,y,z]) w:=by
 unfold results;rw[Array.mapM_eq_mapM_toList,hf];simp only[map_eq_pure_bind,List.mapM_cons,List.mapM_nil,bB,eE,bv,h1,h2,h3];rfl
theorem jz{a:Act}{d:Nat}{v:Value}:(a.put (some d) v).tmps.size=a.tmps.size:=by simp[Act.put]
theorem re{a:Act}{d:Nat}{v:Value}(h:d<a.tmps.size):(a.put (some d) v).tmps.getD d Go.undef=v:=by
 simp[Act.put,Array.getD,h]
theorem y9{a:Act}{d t:Nat}{v:Value}(h:d≠t):(a.put (some d) v).tmps.getD t Go.undef=a.tmps.getD t Go.undef:=by
 simp[Act.put,Array.getElem?_setIfInBounds,h]
theorem jH{a:Act}{d:Nat}{v:Value}(h:d<a.tmps.size):(a.put (some d) v).eval (.tmp d)=v:=re h
theorem vW{a:Act}{d t:Nat}{v:Value}(h:d≠t):(a.put (some d) v).eval (.tmp t)=a.eval (.tmp t):=y9 h
theorem Sk{E:Env}{N:Cfg}{T:Tm}{H:Hp}{nx:Nat}{a:Act}{w:World}(h:Sim E N ⟨T,H,nx⟩ a w):Sim E N ⟨λ_=>.undef,H,nx⟩ a w:=⟨h.env,h.heap,h.fresh,h.round,h.floor,h.size,λ_=>.undef _,h.defers⟩
theorem ol{E:Env}{N:Cfg}{H:Hp}{nx:Nat}{a:Act}{w:World}{d:Nat}{v:Value}(h:Sim E N ⟨λ_=>.undef,H,nx⟩ a w):Sim E N ⟨λ_=>.undef,H,nx⟩ (a.put (some d) v) w:=⟨h.env,h.heap,h.fresh,h.round,h.floor,jz.trans h.size,λ_=>.undef _,h.defers⟩
end
def PH:C2->C2
 |.seq a (.seq b _)=>.seq a (.seq b .skip)
 |x=>x
def MA(a b:AdvV)(H0:Hp)(nx:Nat):CP
 |.normal,T,H,n=>T 2=.ptr nx 2 0/\T 3=.ptr (nx+1) 2 0/\H nx=some [.int .i64 a.n,aN a.states]/\H (nx+1)=some [.int .i64 b.n,aN b.states]/\nx+2<=n/\∀y,y<nx->H y=H0 y
 |_,_,_,_=>False
section
attribute [local irreducible] aF ai bh aY aO aM ax aS a7 bm Go.Abs.Fn aX Go.Abs.Pure ap aJ Yl
theorem Jh(a b:AdvV)(sa:ShA a)(sb:ShA b)(oa:AdvOk a)(ob:AdvOk b)(hn:a.n=b.n)(H0:Hp)(nx:Nat):
    aF Tryz.prog (PH (b59).body) (T0 [ce a,ce b]) H0 nx (MA a b H0 nx):=by
 simp only[b59,aw];simp only[PH];have hb:=xm a b sa sb oa ob hn;have d1:=bI a;have d2:=bI b;simp only[ce,PC.2.2.2.1] at hb d1 d2 |-;refine wnY @PE ?_;exact⟨ev0,ev0,by simp (disch:=omega) only[ab,ae],by simp (disch:=omega) only[ae],by omega,λy hy=>by simp (disch:=omega) only[ab]⟩
theorem NU(a b:AdvV)(H0:Hp)(nx:Nat){T4:Tm}{H4:Hp}{n4:Nat}(t2:T4 2=.ptr nx 2 0)(t3:T4 3=.ptr (nx+1) 2 0)(g0:H4 nx=some [.int .i64 a.n,aN a.states])(g1:H4 (nx+1)=some [.int .i64 b.n,aN b.states])(hn4:nx+2<=n4)(hfr:∀y,y<nx->H4 y=H0 y):
    aF Tryz.prog (.ops 0 [⟨some 17,none,.ldn 2 (.t 2)⟩,⟨some 18,none,.ldn 2 (.t 3)⟩]) T4 H4 n4 (λ_ T H n=>T 17=.agg [.int .i64 a.n,aN a.states]/\T 18=.agg [.int .i64 b.n,aN b.states]/\nx+2<=n/\∀y,y<nx->H y=H0 y):=by
 refine wnY (zI5 @PE @t2 @t3 @g0 @g1) ?_;exact⟨ev0,ev0,hn4,hfr⟩
end
abbrev Ll(a b:AdvV)(H0:Hp)(nx:Nat)(r:AV)(H':Hp)(nx':Nat):Prop:=nx<=nx'/\(∀y,y<nx->H' y=H0 y)/\∃wv,r=.tup [wv,.bool (eqB a b),.int .i64 0]
set_option maxHeartbeats 8000000 in
theorem Kh(a b:AdvV)(sa:ShA a)(sb:ShA b)(oa:AdvOk a)(ob:AdvOk b)(hn:a.n=b.n)(heq:EqA a b)(H0:Hp)(nx:Nat):
    FnV Tryz.prog 59 [ce a,ce b] H0 nx λr _ H' nx'=>Ll a b H0 nx r H' nx':=by
 have hw:=Jh a b sa sb oa ob hn H0 nx;refine FnV.of P9.cok Tryz.func59 rfl (Cg rfl) ?_;rintro E w a0 ⟨n,fl,rd⟩ hn hr hS;obtain rfl:n=_:=hn;obtain rfl:rd=none:=hr;generalize hQ:(λ(e:Exit)(a':Act)(w':World)=>(e=.normal\/e=.ret)/\∃E' T' H' nx' r v,Ext E w E' w'/\Sim E' ⟨Tryz.f59.ntmps,fl,none⟩ ⟨T',H',nx'⟩ a' w'/\(∀w2,Cells w' w2->(results Tryz.f59 a'.tmps).run Tryz.prog w2=.ok v w2)/\Rel E' w' r v/\Ll a b H0 nx r H' nx')=Q
 have hz:∀(e:AEx)(E':Env)(T':Tm)(H':Hp)(nx':Nat)(a':Act)(w':World),e≠.normal->Ext E w E' w'->Sim E' ⟨Tryz.f59.ntmps,fl,none⟩ ⟨T',H',nx'⟩ a' w'->MA a b H0 nx e T' H' nx'->Q e.cv a' w':=by
  intro e E' T' H' nx' a' w' hne he hS' hk;cases e with
  |normal=>exact absurd rfl hne
  |exit i=>exact hk.elim
  |ret=>exact hk.elim
 refine pn follows hS (by kernel_rfl) hw (λE1 T1 H1 n1 a1 w1 he1 hS1 h1=>?_) hz;refine pn follows hS1 (by kernel_rfl) h1 (λE2 T2 H2 n2 a2 w2 he2 hS2 h2=>?_) (λe E' T' H' n' a' w' hne he hS' hk=>hz e E' T' H' n' a' w' hne (he1.trans he) hS' hk);obtain⟨t2,t3,g0,g1,hn4,hfr⟩:=(h2:MA a b H0 nx .normal T2 H2 n2)
 obtain⟨_,_,_,_,hgh,ha⟩:=NU a b H0 nx t2 t3 g0 g1 hn4 hfr;obtain⟨E2',he2',hS2⟩:=hS2.ghost hgh;refine wpIn_seq (wpIn_region_list ?_);refine yC hS2 (by kernel_rfl) ha (λE5 T5 H5 n5 a5 w5 he5 hS5 h5=>?_);refine yC hS5 (by kernel_rfl) h5 (λE6 T6 H6 n6 a6 w6 he6 hS6 h6=>?_);obtain⟨t17,t18,hn6,hfr6⟩:=h6;have z:a6.tmps.size=25:=hS6.size;have hdok:dok Tryz.f59.ntmps (some 19)=true:=by kernel_rfl
 obtain⟨el,hel⟩:=E8.1 (show(gr Tryz.prog 48).isSome=true by kernel_rfl)
 have hcalls:=(zZ a b sa sb oa ob H6 n6).2 E6 w6 [a6.eval (.tmp 17),a6.eval (.tmp 18),a6.eval (.func 101)] hS6.env hS6.heap hS6.fresh ⟨rfl,fun i x y hx hy=>by
  match i,hx,hy with
  |0,hx,hy=>cases hx;cases hy;have:Rel E6 w6 (T6 17) _:=hS6.tmps 17;rw[t17] at this;unfold ce;rw[PC.2.2.2.1];exact this
  |1,hx,hy=>cases hx;cases hy;have:Rel E6 w6 (T6 18) _:=hS6.tmps 18;rw[t18] at this;unfold ce;rw[PC.2.2.2.1];exact this
  |2,hx,hy=>cases hx;cases hy;exact .func _ [] [] rfl (λi x y h=>by simp at h)
  |i+3,hx,hy=>simp at hx⟩
 refine Jy rfl rfl rfl rfl KW.cok rfl (Calls.mono hcalls ?_);rintro e w7 ⟨v,E7,r,H7,n7,rfl,he7,hE7,hH7,hF7,hrel,⟨q1,q2,lv,wv,rfl,q3⟩,q4⟩;obtain⟨v1,rfl⟩:=q4 heq;refine⟨_,rfl,?_⟩;have hS7:=Sk (hS6.put he7 hE7 hH7 hF7 hdok hrel);refine sW (v:=.tuple #[v1,NIL]) rfl rfl (.inl rfl) (jH (by omega)) ?_;refine FV (v:=v1) (vs:=#[v1,NIL]) rfl rfl rfl (jH (by simp only[jz];omega)) rfl ?_;refine FV (v:=NIL) (vs:=#[v1,NIL]) rfl rfl rfl ((vW (by decide)).trans (jH (by simp only[jz];omega))) rfl ?_;refine sW (v:=v1) rfl rfl (.inr rfl) ((vW (by decide)).trans (jH (by simp only[jz];omega))) ?_;refine sW (v:=NIL) rfl rfl (.inr rfl) ((vW (by decide)).trans (jH (by simp only[jz];omega))) ?_;refine wpIn_seq (wpIn_region_list ?_);refine sW (v:=NIL) rfl rfl (.inl rfl) (jH (by simp only[jz];omega)) ?_;refine sW (v:=NIL) rfl rfl (.inl rfl) ((vW (by decide)).trans (jH (by simp only[jz];omega))) ?_;refine LO rfl rfl hel rfl (jH (by simp only[jz];omega)) ?_;refine sW (v:=NIL) rfl rfl (.inr rfl) ((vW (by decide)).trans ((vW (by decide)).trans (jH (by simp only[jz];omega)))) ?_;refine sW (v:=.bool true) rfl rfl (.inr rfl) ((vW (by decide)).trans (jH (by simp only[jz];omega))) ?_;refine sW (v:=.int .i64 0) rfl rfl (.inr rfl) rfl ?_;refine wpIn_ret ?_;rw[<-hQ];refine⟨.inr rfl,E7,λ_=>.undef,H7,n7,.tup [.esl,.bool true,.int .i64 0],.tuple #[NIL,.bool true,.int .i64 0],(((he1.trans he2).trans he2').trans (he5.trans he6)).trans he7,ol (ol (ol (ol (ol (ol (ol (ol (ol (ol (ol hS7)))))))))),λw2 _=>Jl rfl ((y9 (by decide)).trans ((y9 (by decide)).trans (re (by simp only[jz];omega)))) ((y9 (by decide)).trans (re (by simp only[jz];omega))) (re (by simp only[jz];omega)),?_,by omega,λy hy=>(q2 y (by omega)).trans (hfr6 y hy),.esl,by rw[xP.2 heq]⟩
 exact .tup [.esl,.bool true,.int .i64 0] [NIL,.bool true,.int .i64 0] rfl λi x y hx hy=>by
  match i,hx,hy with
  |0,hx,hy=>cases hx;cases hy;exact .eslnil
  |1,hx,hy=>cases hx;cases hy;exact .bool _
  |2,hx,hy=>cases hx;cases hy;exact .int _ _
  |i+3,hx,hy=>simp at hx
end Go.Proofs.YtbmjaojeplmhnaaGreat
namespace Go.Proofs.YtbmjaojeplmhnaaGreat
open Go Go.Abs
open Nat (reduceEqDiff reduceAdd reduceLeDiff)
theorem mvI{n:Nat}(h1:1<=n)(h5:n<=5):mvK (idL n) (idL n) n=idL n:=by
 have e:bH (idL n) (idL n)=mvK (idL n) (idL n) n:=by unfold bH;rw[cm]
 rw[<-e];refine List.ext_getElem (by rw[bM,cm]) λi h2 h3=>?_;have hi:i<n:=by rwa [cm] at h3
 have:=eA (kJ h1 h5) (cm n▸rfl:(idL n).length=(idL n).length) (i:=i) (by rw[cm];exact hi);rw[jd hi,cK] at this;have e2:(idL n)[i]=(i:Int):=by simp[idL]
 rw[e2];simpa[List.getD,h2] using this
section
attribute [local irreducible] aF ai bh aY aO aM ax aS a7 bm Go.Abs.Fn aX Go.Abs.Pure ap aJ Yl
theorem JL(a b:AdvV)(sa:ShA a)(sb:ShA b)(oa:AdvOk a)(ob:AdvOk b)(hn:a.n=b.n)(H0:Hp)(nx:Nat):
    Abs.Fn Tryz.prog 59 [ce a,ce b] H0 nx (Ll a b H0 nx):=by
 by_cases he:EqA a b
 ·exact(Kh a b sa sb oa ob hn he H0 nx).fn λ_ _ _ _ h=>h
 refine fO P9 ?_;simp only[b59,aw];have hb:=xm a b sa sb oa ob hn;have hs:=λH n=>(zZ a b sa sb oa ob H n).fn (R':=MZ a b H n) λ_ _ _ _ h=>h.1;have d1:=bI a;have d2:=bI b;simp only[ce,PC.2.2.2.1] at hb hs d1 d2 |-;refine wnY @PE ?_;refine ci ev0 ev0 (hs _ _) ?_;rintro _ H1 n1 ⟨h1,h2,lv,wv,rfl,h3⟩;rcases h3 with⟨he',rfl⟩|⟨_,b',k,hk,rfl⟩
 ·exact absurd he' he
 have z:eqB a b=false:=by
  cases h:eqB a b
  ·rfl
  ·exact absurd (xP.1 h) he
 refine wnY @PE ?_;refine pR (k:=k) (by((try simp only[bf,ZA,reduceEqDiff,↓reduceIte,reduceAdd,reduceLeDiff]);(try with_reducible rfl));rfl) (λh=>?_) (λh=>by omega) (λh=>by omega);refine wnY @PE ?_;exact⟨by omega,λy hy=>(h2 y (by omega)).trans (by simp (disch:=omega) only[ab]),_,by rw[z]⟩
theorem Mb(p:List Int)(hp:ba p=0):pU 97 [aq p,.int .i64 (p.length:Nat)] (.int .i64 0):=by
 obtain⟨p1,p2,p3,p4⟩:=bZ hp;have hc:=gL p (show p.length<=_ by omega);rw[hp] at hc;have z:decide ((p.length:Int)≠p.length)=false:=bR (λh=>h rfl);refine pO Rr ?_;simp only[b97,aw];refine wnY @z ?_;exact .int _ _
theorem CF(p:List Int)(a:AdvV)(hp:ba p=0)(ha:ShA a)(ho:AdvOk a)(hn:(p.length:Int)=a.n):pU 58 [ce a,aq p] (.tup [ce (e7 p a),.int .i64 0]):=by
 have hck:=oW a ha ho;have hf:=Mb p hp;have hr:=FG p a hp ha ho hn;have d1:=bI a;have d2:=bI (e7 p a);rw[hn] at hf;refine pO Q9 ?_;simp only[b58,aw];simp only[ce,PC.2.2.2.1] at hck hr d1 d2 |-;generalize (e7 p a).n=n' at *;generalize (e7 p a).states=S' at *;refine wnY @PE ?_;exact bG (ac (eo (ac (.int _ _) (ac (fG _ _) al))) (ac (.int _ _) al))
theorem JV(p:List Int)(a:AdvV)(hp:ba p=0)(ha:ShA a)(ho:AdvOk a)(hn:(p.length:Int)=a.n):pU 26 [ce a,aq p] (.tup [.bool (eqB a (e7 p a)),.int .i64 0]):=by
 have hr:=CF p a hp ha ho hn;have he:=λH n=>JL a (e7 p a) ha (IK ha) ho (yp hp ho hn) rfl H n;have d1:=bI a;have d2:=bI (e7 p a);simp only[ce,PC.2.2.2.1] at hr he d1 d2 |-;refine Pure.of_fn (Abs.Fn.of_c2 follows QI (Cg rfl) ?_);simp only[b26,aw];refine wnY @PE ?_;refine ci ev0 ev0 (he _ _) ?_;rintro _ H1 n1 ⟨h1,h2,wv,rfl⟩;refine wnY @PE ?_;exact bG (ac (.bool _) (ac (.int _ _) al))
theorem Jd(q:List Int)(p:PrbV)(h:OkP p)(hq:ba q=0)(hn:(q.length:Int)=p.task.n):pU 25 [aq q,.iptr p.cs 0] (.tup [.bool (eqB p.adv (e7 q p.adv)),.int .i64 0]):=by
 obtain⟨-,ho,hn2,-⟩:=cu h.e0;have hi:=JV q p.adv hq h.sa ho (by rw[hn,hn2]);have d1:=bI p.adv;generalize eqB p.adv (e7 q p.adv)=e at *;simp only[ce,PC.2.2.2.1,PC.2.2.2.2.1] at hi d1 |-;refine pO RB ?_;simp only[b25,aw];refine wnY (aI @PE @aG) ?_;exact bG (ac (.bool _) (ac (.int _ _) al))
theorem FE(l:List (List Int))(p:List Int->Bool)(g:Nat)(caps:List AV)(hd:∀x∈caps,Dat x)(hg:∀x∈l,pU g (aq x::caps) (.tup [.bool (p x),.int .i64 0]))(hl:l.length<=100000):pU 24 [ay l,.func g caps] (.tup [ay (l.filter p),.int .i64 0]):=by
 refine pO Sm ?_;simp only[b24,aw];refine wnZ and_self ?_;refine bt (X:=AV×Nat) (λx=>[(0,ay l),(1,.func g caps),(6,x.1),(11,ay l),(12,.int .i64 l.length),(13,.int .i64 x.2)]) (λx H nx=>x.2<=l.length/\Row H 1 x.1 (((l.take x.2).filter p).map aq)/\∀b,bk x.1=some b->b<nx) (λx=>l.length-x.2) (.esl,0) ⟨bo _,Row.nil,λb hb=>(by cases hb)⟩ ag0 ?_;rintro⟨s,j⟩ H nx ⟨h1,h2,h3⟩;dsimp only at h1 h2 h3 |-;by_cases hj:j<l.length
 rotate_left
 ·refine wnY @h1 ?_;rw[js (by omega)] at h2;exact bG (ac h2.snapV (ac (.int _ _) al))
 have hw:=ao hj;have hc:=hg _ hw
 have hst:(l.take (j+1)).filter p=(l.take j).filter p++(if p (l.getD j default) then [l.getD j default] else []):=by
  rw[gP hj,Ha,va]
 have hlen:((l.take j).filter p).length<=l.length:=fu (List.length_filter_le _ _) (by rw[jg];omega);cases hp:p (l.getD j default)
 ·rw[hp] at hc hst;have zz:=@h1;repeat' (first|refine zW ?_|apply a_n|refine zO ?_|refine vY ?_|refine cY ?_ (hp:=hc) (hs:=by(first|refine bJ ?_ rfl|apply bC);(repeat' (first|exact al|apply fh|apply cU|exact dj hd));first|done|fail)|refine cFY ?_|(refine zGY ?_ ?_<;>(intro _hg;try (exfalso;omega)))|fail)
  exact⟨(s,j+1),by dsimp only;omega,⟨by dsimp only;omega,by dsimp only;rw[hst,if_neg (by decide),jc];exact h2,h3⟩,ag0⟩
 ·rw[hp] at hc hst;have zz:=@h1;repeat' (first|refine zW ?_|apply a_n|refine zO ?_|refine vY ?_|refine cY ?_ (hp:=hc) (hs:=by(first|refine bJ ?_ rfl|apply bC);(repeat' (first|exact al|apply fh|apply cU|exact dj hd));first|done|fail)|refine blY ?_|refine cTY ?_|(refine zGY ?_ ?_<;>(intro _hg;try (exfalso;omega)))|fail)
  refine ed rfl ev0 (h2.same λb hb=>?_) ev0 vq rfl rfl ji (by simp;omega) (by simp;omega) ?_
  ·have:=h3 b hb;rw[ab (by omega)]
  rintro s2 E e hrow hle1 hle2 hsame hb2;refine wnZ and_self ?_;refine⟨(s2,j+1),by dsimp only;omega,⟨by dsimp only;omega,?_,λb hb=>?_⟩,ag0⟩
  ·dsimp only;rw[hst,if_pos rfl,dv];exact hrow
  ·rcases hb2 b hb with h|h
   ·have:=h3 b h;omega
   ·omega
theorem Ei(p:PrbV)(h:OkP p):pU 22 [ca p] (.int .i64 0):=by
 obtain⟨ht,ho,hn,r0,r6⟩:=cu h.e0;have hc:=tM p.task h.sh.c h.sh.t;have ha:=oW p.adv h.sa ho;have d1:=bI p.adv;have d2:=fR p.task;have z1:decide (p.task.n≠p.adv.n)=false:=bR (λh=>h hn);have z2:decide (p.rounds<0)=false:=bR (by omega);have z3:decide (p.rounds>6)=false:=bR (by omega);rw[ht] at hc;unfold gu at hc d2;simp only[ca,ce,PC.2.2.2.1,PC.2.2.2.2.1] at ha d1 |-;refine pO RH ?_;simp only[b22,aw];refine wnY (zI5 @PE @aG @z1 @z2 @z3) ?_;exact .int _ _
theorem J4(p:PrbV)(h:OkP p):pU 8 [ca p] (.tup [ay ((zf p.task).filter λq=>eqB p.adv (e7 q p.adv)),.int .i64 0]):=by
 obtain⟨ht,ho,hn,r0,r6⟩:=cu h.e0;have hp:=Ei p h;have nn:=nZ ht;have hs:=zp p.task (Fit30.of h.few).fit;have hsT:Gn p.task=(zf p.task,0):=by unfold Gn;rw[if_neg (λk=>k ht)]
 rw[hsT] at hs;dsimp only at hs;have d1:=e9 p;have d2:=fR p.task;have dA:=DB p
 have hk:=FE (zf p.task) (fun q=>eqB p.adv (e7 q p.adv)) 25 [.iptr p.cs 0] (DatL.cons (Dat.iptr dA) DatL.nil) (fun q hq=>by
  obtain⟨q1,q2,-⟩:=qm ht hq;exact Jd q p h q1 q2) (fu (List.length_filter_le _ _) (by have:=wq p.task.n.toNat (by omega) (by omega);omega))
 refine pO is8 ?_;simp only[b8,aw];generalize zf p.task=L at *;generalize L.filter (λq=>eqB p.adv (e7 q p.adv))=L' at *;unfold gu at hs d2;simp only[ca,PC.2.2.2.2.1] at hp d1 dA hk |-;generalize hAA:[AV.int .i64 p.task.n,.int .i64 p.task.ins,.int .i64 p.task.outs,bu p.task.cases,.int .i64 p.adv.n,aN p.adv.states,.int .i64 p.rounds]=A at *;refine eO (λT H nx=>T 1=.ptr 0 7 0/\H=av aQ 0 A/\nx=1) ?_ ?_
 ·subst hAA;refine wnY (aI @PE @aG) ?_;exact⟨rfl,rfl,rfl⟩
 rintro T H _ ⟨t1,rfl,rfl⟩;refine eO (λT H nx=>T 1=.ptr 0 7 0/\H=av aQ 0 A/\nx=1) ?_ ?_
 ·subst hAA;refine wnY (zI3 @t1 @PE @aG) ?_;exact⟨(have zz:=@t1;evZ),rfl,rfl⟩
 clear t1;rintro T H _ ⟨t1,rfl,rfl⟩;refine eO (λT H nx=>T 1=.ptr 0 7 0/\T 5=ay L/\T 6=.int .i64 0/\H=av aQ 0 A/\nx=1) ?_ ?_
 ·subst hAA;refine wnY (zI3 @t1 @PE @aG) ?_;exact⟨(have zz:=@t1;evZ),ev0,ev0,rfl,rfl⟩
 clear t1;rintro T H _ ⟨t1,t5,t6,rfl,rfl⟩;refine eO (λT H nx=>T 1=.ptr 0 7 0/\T 5=ay L/\H=av aQ 0 A/\nx=1) ?_ ?_
 ·refine wnZ (zI3 @t1 @t5 @t6) ?_;exact⟨(have zz:=@t1;evZ),(by((try simp only[bf,ZA,reduceEqDiff,↓reduceIte,reduceAdd,reduceLeDiff,t5]);(try with_reducible rfl))),rfl,rfl⟩
 clear t1 t5 t6;rintro T H _ ⟨t1,t5,rfl,rfl⟩;have hAl:A.length=7:=by subst hAA;rfl
 refine nK ?_;refine ri (only 0 A) (dw (av aQ 0 A) 0) [(1,.iptr A 0),(5,ay L)] (Fz.one ae) ⟨.inr (by rw[t1];exact fP ez hAl (dj dA)),.inl t5,trivial⟩ ?_;refine wnY and_self ?_;refine eM (evY) (evY) hk (bC (ac (bS _ _) (ac (iO (ac (Dat.iptr dA _) al)) al))) ?_;refine wnY and_self ?_;exact bG (ac (bS _ _) (ac (.int _ _) al))
theorem Ku(n:Nat)(h1:1<=n)(h5:n<=5):pU 112 [.int .i64 n] (aq (idL n)):=by
 have hz:bc (.agg [.int .i64 0]) n=(mvK (idL n) (idL n) 0).map (AV.int .i64):=by
  simp[bc,mvK,AV.cells,cm]
 refine pO OE ?_;simp only[Ou,aw];refine wnZ and_self ?_;refine nj rfl ev0 ev0 (by omega) (by omega) (by omega) (by omega) ?_;rw[cK,hz];refine wnZ and_self ?_;refine bt (X:=Nat) (λk=>[(3,.msl 0 n 1 0 n),(8,.int .i64 n),(9,.int .i64 k)]) (λk H nx=>k<=n/\H=av aQ 0 ((mvK (idL n) (idL n) k).map (AV.int .i64))/\nx=1) (λk=>n-k) 0 ⟨bo _,rfl,rfl⟩ (by simp (disch:=omega) only[agr,ZG,reduceEqDiff,↓reduceIte,Nat.mul_one]) ?_;rintro k H nx ⟨hk,rfl,rfl⟩;have hml:=pb (idL n) (idL n) k;rw[cm] at hml;by_cases hk2:k<n
 ·have hlm:=gd (f:=AV.int .i64) (l:=mvK (idL n) (idL n) k) (k:=k) (x:=(k:Int)) (by omega);refine wnZ and_self ?_;refine⟨k+1,by omega,⟨by omega,?_,rfl⟩,ag0⟩;rw[je,hlm,mvK,jd hk2];rfl
 ·obtain rfl:k=n:=by omega
  refine wnZ and_self ?_;rw[mvI h1 h5];exact oT ae rfl (cm k)
theorem QF(p:PrbV)(h:OkP p)(q:List Int)(hq:ba q=0)(hn:(q.length:Int)=p.task.n):pU 28 [gn (bg p),aq q] (.int .i64 0):=by
 obtain⟨p1,p2,p3,p4⟩:=bZ hq;have hv:=Az p h;have hc:=gL q (show q.length<=_ by omega);rw[hq] at hc;have d1:=gJ (bg p);have hpt:(bg p).prob=p:=rfl;have z:decide ((q.length:Int)≠(bg p).tn)=false:=bR (λh=>h hn);refine pO QA ?_;simp only[b28,aw];unfold gn at hv d1 |-;rw[PC.2.2.2.2.2.2.2,hpt] at hv d1 |-;refine wnY (aI @PE @z) ?_;exact .int _ _
end
end Go.Proofs.YtbmjaojeplmhnaaGreat
namespace Go.Proofs.YtbmjaojeplmhnaaGreat
open Go Go.Abs
open Nat (reduceEqDiff reduceAdd reduceLeDiff)
def k5(p:List Int):AV:=.agg [.int .i64 (p.getD 0 0),.int .i64 (p.getD 1 0),.int .i64 (p.getD 2 0),.int .i64 (p.getD 3 0),.int .i64 (p.getD 4 0)]
theorem OQ{P:Program}{l:List ResultVar}{T:Tm}{H:Hp}{R:AV->Prop}{e:AEx}{rs:List RV}(hres:jT P l=some rs)(h:aM e.ends (bm T H R rs)):aM e.ends (ax (l9 P T H l) R):=⟨h.1,zc hres h.2⟩
theorem A3{P:Program}{N:Nat}{x y:Code}{x2:C2}{Y:Tm->Hp->Nat->Prop}{T:Tm}{H:Hp}{nx:Nat}{K:CP}(hm:P.follows .mixedOrders=true)(hx:nA P N x=some x2)(h:aF P x2 T H nx (λe T H nx=>e=.normal/\Y T H nx))(hy:∀T H nx,Y T H nx->awp P N y T H nx K):
    awp P N (.seq x y) T H nx K:=
 f9 x (iz hm x x2 hx h) (λe T H nx ⟨he,hY⟩=>by subst he;exact hy T H nx hY)
abbrev Z5:List AV:=[.int .i64 0,.int .i64 0,.int .i64 0,.int .i64 0,.int .i64 0]
section
attribute [local irreducible] aF ai bh aY aO aM ax aS a7 bm Go.Abs.Fn aX Go.Abs.Pure ap aJ Yl
theorem L8(p:List Int):aF Tryz.prog (.ops 0 [⟨some 2,none,.alloc (.agg Z5)⟩]) (T0 [aq p]) aQ 0 (λe T H nx=>e=.normal/\T 0=aq p/\T 2=.ptr 0 5 0/\H=av aQ 0 Z5/\nx=1):=by
 refine wnY and_self ?_;exact⟨rfl,ev0,ev0,rfl,rfl⟩
theorem Lw(p:List Int){T:Tm}(t0:T 0=aq p)(t2:T 2=.ptr 0 5 0):aF Tryz.prog (.ops 0 [⟨some 3,none,.alloc (.agg Z5)⟩]) T (av aQ 0 Z5) 1 (λe T H nx=>e=.normal/\T 0=aq p/\T 2=.ptr 0 5 0/\T 3=.ptr 1 5 0/\H=av (av aQ 0 Z5) 1 Z5/\nx=2):=by
 refine wnY (aI @t0 @t2) ?_;exact⟨rfl,(have zz:=@t0;evZ),(have zz:=@t2;evZ),ev0,rfl,rfl⟩
theorem Mn(p:List Int)(x0 x1 x2 x3 x4:Int)(h:cE Z5 0 (p.map (AV.int .i64))=[.int .i64 x0,.int .i64 x1,.int .i64 x2,.int .i64 x3,.int .i64 x4])(h1:1<=p.length)(h5:p.length<=5){T:Tm}(t0:T 0=aq p)(t2:T 2=.ptr 0 5 0)(t3:T 3=.ptr 1 5 0)(t4:T 4=.msl 1 5 1 0 5):
    ai Tryz.prog .text [⟨some 5,none,.mov (.t 0)⟩,⟨some 6,none,.cpy 1 (.t 4) (.t 5)⟩] T (av (av aQ 0 Z5) 1 Z5) 2 (λT H nx=>T 2=.ptr 0 5 0/\T 3=.ptr 1 5 0/\H=av (av aQ 0 Z5) 1 [.int .i64 x0,.int .i64 x1,.int .i64 x2,.int .i64 x3,.int .i64 x4]/\nx=2):=by
 have htr:Ao p.length (aq p)=aq p:=by unfold aq;simp only[Ao];rw[js (by simp)]
 refine wnY (aI @t0 @t4) ?_;refine Hg (n:=p.length) (by((try simp only[bf,ZA,reduceEqDiff,↓reduceIte,reduceAdd,reduceLeDiff,t4]);(try with_reducible rfl));exact sD (m:=p.length) (new:=p.map (AV.int .i64)) (k:=p.length) (ls:=p.length) mQ (by omega) (by omega) ae rfl (by rw[htr];exact jy) (by omega) jP) ?_;rw[h];refine wnY and_self ?_;exact⟨(have zz:=@t2;evZ),(have zz:=@t3;evZ),by rw[je],rfl⟩
theorem LK(x0 x1 x2 x3 x4:Int){T:Tm}(t2:T 2=.ptr 0 5 0)(t3:T 3=.ptr 1 5 0):aF Tryz.prog (.seq (.ops 0 [⟨some 7,none,.ldn 5 (.t 3)⟩,⟨none,none,.st 5 (.t 2) (.t 7)⟩]) .ret) T (av (av aQ 0 Z5) 1 [.int .i64 x0,.int .i64 x1,.int .i64 x2,.int .i64 x3,.int .i64 x4]) 2 λe T H _=>aM e.ends (bm T H (λx=>Snap H x (.agg [.int .i64 x0,.int .i64 x1,.int .i64 x2,.int .i64 x3,.int .i64 x4])) [.cn 2 5]):=by
 refine wnY (aI @t2 @t3) ?_;exact eo (ac (.int _ _) (ac (.int _ _) (ac (.int _ _) (ac (.int _ _) (ac (.int _ _) al)))))
end
theorem Ko(p:List Int)(x0 x1 x2 x3 x4:Int)(h:cE Z5 0 (p.map (AV.int .i64))=[.int .i64 x0,.int .i64 x1,.int .i64 x2,.int .i64 x3,.int .i64 x4])(h1:1<=p.length)(h5:p.length<=5):
    pU 113 [aq p] (.agg [.int .i64 x0,.int .i64 x1,.int .i64 x2,.int .i64 x3,.int .i64 x4]):=by
 refine Pure.of_body follows Tryz.func113 Qt.cok ⟨_,rfl,Cg rfl,?_⟩;refine A3 follows (by kernel_rfl) (L8 p) ?_;rintro T _ _ ⟨t0,t2,rfl,rfl⟩;refine A3 follows (by kernel_rfl) (Lw p t0 t2) ?_;clear t0 t2;rintro T _ _ ⟨t0,t2,t3,rfl,rfl⟩;refine⟨T,_,_,aQ,Gh.refl _ _ _,?_⟩;have hc3:Tryz.prog.cellsOf 3=1:=by kernel_rfl
 have hres:jT Tryz.prog Tryz.f113.results.toList=some [.cn 2 5]:=by kernel_rfl
 have hu:Tryz.prog.underlying 72=some (.array 5 3):=by kernel_rfl
 have htk:tok Tryz.prog 3=true:=by kernel_rfl
 have hf5:0+5*Tryz.prog.cellsOf 3=5:=by rw[hc3]
 refine⟨rfl,?_⟩;refine .inr ⟨rfl,?_⟩;refine wY (n:=5) (e:=3) (b:=1) (n':=5) (off:=0) (cs:=Z5) hu htk (Nat.succ_pos _) t3 ae rfl hf5 ?_;rw[hc3];refine l5 (λT H nx hk=>?_) _ (gH _ _ (by kernel_rfl) (Mn p x0 x1 x2 x3 x4 h h1 h5 (T:=aP T (some 4) (.msl 1 5 1 0 5)) t0 t2 t3 rfl));obtain⟨t2,t3,rfl,rfl⟩:=hk;refine f9 _ (iz follows _ _ (by kernel_rfl) (LK x0 x1 x2 x3 x4 t2 t3)) (λe T H nx hh=>?_);exact OQ hres hh
theorem K1(p:List Int)(hp:ba p=0):pU 113 [aq p] (k5 p):=by
 obtain⟨p1,p2,-,-⟩:=bZ hp;refine Ko p _ _ _ _ _ ?_ (by omega) p2;rcases p with _|⟨a,_|⟨b,_|⟨c,_|⟨d,_|⟨e,_|⟨f,l⟩⟩⟩⟩⟩⟩
 ·simp at p1
 ·rfl
 ·rfl
 ·rfl
 ·rfl
 ·rfl
 ·simp at p2
end Go.Proofs.YtbmjaojeplmhnaaGreat
namespace Go.Proofs.YtbmjaojeplmhnaaGreat
open Go Go.Abs
open Nat (reduceEqDiff reduceAdd reduceLeDiff)
abbrev K5:=Int×Int×Int×Int×Int
def t5(p:List Int):K5:=(p.getD 0 0,p.getD 1 0,p.getD 2 0,p.getD 3 0,p.getD 4 0)
def kv5(x:K5):AV:=.agg [.int .i64 x.1,.int .i64 x.2.1,.int .i64 x.2.2.1,.int .i64 x.2.2.2.1,.int .i64 x.2.2.2.2]
theorem KR(p:List Int):k5 p=kv5 (t5 p):=rfl
theorem GR(v w:K5):kT (.st [.int,.int,.int,.int,.int]) (kv5 v) (kv5 w)=some (decide (v=w)):=by
 have h:=mw [v.1,v.2.1,v.2.2.1,v.2.2.2.1,v.2.2.2.2] [w.1,w.2.1,w.2.2.1,w.2.2.2.1,w.2.2.2.2] rfl;refine(show kT (.st [.int,.int,.int,.int,.int]) (kv5 v) (kv5 w)=_ from h).trans ?_
 congr 1
 refine decide_eq_decide.2 ⟨λe=>?_,λe=>by rw[e]⟩;simp only[List.cons.injEq,and_true] at e;exact Prod.ext e.1 (Prod.ext e.2.1 (Prod.ext e.2.2.1 (Prod.ext e.2.2.2.1 e.2.2.2.2)))
theorem Lv{p q:List Int}(hl:p.length=q.length)(h5:p.length<=5)(h:t5 p=t5 q):p=q:=by
 simp only[t5,Prod.mk.injEq] at h;obtain⟨h0,h1,h2,h3,h4⟩:=h;refine List.ext_getElem hl λi i1 i2=>?_;have e:∀j,j=i->p.getD j 0=q.getD j 0->p[i]=q[i]:=λj hj hh=>by subst hj;simpa[List.getD,i1,i2] using hh
 rcases(by omega:i=0\/i=1\/i=2\/i=3\/i=4) with r|r|r|r|r
 ·exact e 0 r.symm h0
 ·exact e 1 r.symm h1
 ·exact e 2 r.symm h2
 ·exact e 3 r.symm h3
 ·exact e 4 r.symm h4
theorem F5{v:K5}{ks:List K5}(h:v∈ks):∃i,i<ks.length/\eI (.st [.int,.int,.int,.int,.int]) (kv5 v) (ks.map kv5)=some (some i):=by
 have q:=iL (.st [.int,.int,.int,.int,.int]) kv5 GR v ks;rw[if_pos h] at q;exact⟨_,@List.idxOf_lt_length_of_mem _ _ instBEqOfDecidableEq _ _ h,q⟩
theorem HB{v:K5}{ks:List K5}(h:v∉ks):eI (.st [.int,.int,.int,.int,.int]) (kv5 v) (ks.map kv5)=some none:=by
 have q:=iL (.st [.int,.int,.int,.int,.int]) kv5 GR v ks
 rwa [if_neg h] at q
theorem Ho{n:Nat}(h1:1<=n)(h3:n<=3):(kc n).length<=6:=by
 have key:∀n∈[1,2,3],(kc n).length<=6:=by decide+kernel
 exact key n (by rcases(by omega:n=1\/n=2\/n=3) with rfl|rfl|rfl<;>decide)
structure GenV(n:Nat)(L:List (List Int)):Prop where
 ne:0<L.length
 ok:∀x∈L,ba x=0/\x.length=n
 nd:L.Nodup
theorem GenV.len{n:Nat}{L:List (List Int)}(h:GenV n L)(h1:1<=n)(h3:n<=3):L.length<=6:=
 fu (h.nd.length_le_of_subset (l₂:=kc n) fun x hx=>by
  obtain⟨a,b⟩:=h.ok x hx;have:=su a
  rwa [b] at this) (Ho h1 h3)
theorem GenV.snoc{n:Nat}{L:List (List Int)}(h:GenV n L){x:List Int}(hx:ba x=0/\x.length=n)(hn:x∉L):GenV n (L++[x]):=
 ⟨by simp,fun y hy=>by
  rcases mL.1 hy with q|q
  ·exact h.ok y q
  ·rw[fX.1 q];exact hx,by
  rw[Bp];exact⟨h.nd,by simp,λa ha b hb e=>by rw[fX.1 hb] at e;exact hn (e▸ha)⟩⟩
theorem Hw{n:Nat}(h5:n<=5){L:List (List Int)}(h:∀x∈L,x.length=n){x:List Int}(hx:x.length=n):t5 x∈L.map t5↔x∈L:=by
 constructor
 ·intro q;obtain⟨y,hy,e⟩:=cC.1 q
  rwa [<-Lv ((h y hy).trans hx.symm) (by rw[h y hy];exact h5) e]
 ·exact λq=>cC.2 ⟨x,q,rfl⟩
def mH(v:List Int):List UInt8:=v.map λx=>UInt8.ofNat x.toNat
theorem uG:∀{v w:List Int},(∀x∈v,0<=x/\x<256)->(∀x∈w,0<=x/\x<256)->mH v=mH w->v=w
 |[],[],_,_,_=>rfl
 |[],y::w,_,_,h=>by simp[mH] at h
 |x::v,[],_,_,h=>by simp[mH] at h
 |x::v,y::w,hv,hw,h=>by
  simp only[mH,fY,List.cons.injEq] at h;have h1:=hv x (iE ..);have h2:=hw y (iE ..);have e:=congrArg UInt8.toNat h.1;simp only[UInt8.toNat_ofNat'] at e;have:x=y:=by omega
  rw[this,uG (λz hz=>hv z (qk _ hz)) (λz hz=>hw z (qk _ hz)) h.2]
def tC(v:List Int)(k:Nat):List UInt8:=(mH v).take k++List.replicate (v.length-k) 0
theorem rh{v:List Int}{k:Nat}(h:k<=v.length):(tC v k).length=v.length:=by simp[tC,mH];omega
theorem Gw{v:List Int}{k:Nat}(h:k<v.length):(tC v k).set k (UInt8.ofNat (v.getD k default).toNat)=tC v (k+1):=by
 refine List.ext_getElem (by rw[List.length_set,rh (by omega),rh (by omega)]) λi i1 i2=>?_;rw[rh (by omega)] at i2;rw[List.getElem_set];by_cases e:k=i
 ·subst e;simp[tC,mH,List.getElem_append,List.getD,h,Nat.min_eq_left (show k+1<=v.length by omega)]
 ·rw[if_neg e];simp only[tC,List.getElem_append,jg,mH,bj];by_cases q:i<k
  ·rw[dif_pos (by omega),dif_pos (by omega)];simp
  ·rw[dif_neg (by omega),dif_neg (by omega)];simp
theorem IE{x:Int}(h:0<=x/\x<256):lN (UInt8.ofNat x.toNat)=.int .u8 x:=by
 unfold lN;rw[UInt8.toNat_ofNat']
 congr 1
 omega
def Ac(r:RndV):List Int:=[r.h0,r.h1,r.h2,r.h3,r.h4,r.f]
def ke(w:List RndV):List Int:=w.flatMap Ac
theorem Fb(w:List RndV)(r:RndV):ke (w++[r])=ke w++Ac r:=by simp[ke]
theorem kL:∀w:List RndV,(ke w).length=6*w.length
 |[]=>rfl
 |r::w=>by
  have:=kL w;simp only[ke,lk,cQ,il] at this |-;rw[this];simp[Ac];omega
theorem QO(n h0 h1 h2 h3 h4 f:Int):xM 5 (.iptr [.int .i64 n,.int .i64 h0,.int .i64 h1,.int .i64 h2,.int .i64 h3,.int .i64 h4,.int .i64 f] 1) none none none=some (aq [h0,h1,h2,h3,h4]):=rfl
theorem JP{P:Program}{T:Tm}{H:Hp}{nx:Nat}(S Hf H':Hp)(L:List (Nat×AV)){K:CP}{m:Nat}{l:List Op2}{alt:List (Op2×Nat)}{C:List (Nat×Nat)}(hf:Fz Hf H H')(ha:Ae Hf T L)(hc:(C.map λk=>(l.getD k.1 ⟨none,none,.dead⟩,k.2))=alt)(hs:Sub S H')(h:bn P S alt (tl L) H' nx λT H nx=>K .normal T H nx):aF P (.mixS m l C) T H nx K:=by
 subst hc;exact .inr ⟨_,H',nx,Hf,S,hf.gh ha,hs,h⟩
def CB(c:Nat)(w:List RndV):List UInt8:=mH (((c/64:Nat):Int)::((c%64:Nat):Int)::ke w)
def rj(b:List UInt8):AV:=.str ⟨b.toArray⟩
theorem Ir(v w:List UInt8):kT (.one .str) (rj v) (rj w)=some (decide (v=w)):=by
 by_cases h:v=w
 ·subst h;simp[kT,rj,mh]
 ·simp[kT,rj,mh,h]
theorem zT{v:List UInt8}{ks:List (List UInt8)}(h:v∈ks):eI (.one .str) (rj v) (ks.map rj)=some (some (@List.idxOf _ instBEqOfDecidableEq v ks)):=by
 have q:=iL (.one .str) rj Ir v ks
 rwa [if_pos h] at q
theorem AR{v:List UInt8}{ks:List (List UInt8)}(h:v∉ks):eI (.one .str) (rj v) (ks.map rj)=some none:=by
 have q:=iL (.one .str) rj Ir v ks
 rwa [if_neg h] at q
def si(n:Nat):List AV:=(List.range n).map λi=>.int .i64 (i:Nat)
theorem A2{n k:Nat}(h:k<n):(si n).getD k .undef=.int .i64 (k:Nat):=by simp[si,List.getD,h]
theorem wR(n:Nat):si n++[.int .i64 (n:Nat)]=si (n+1):=by simp[si,List.range_succ]
def K4(x:AV):Option AV:=match x with|.ptr b n o=>some (.ptr b n o)|.iptr c o=>some (.iptr c o)|.func f c=>some (.func f c)|_=>none
theorem NKF:(∀(T:Tm)(H:Hp)(x:Opd),bw T H (.nilck x)=K4 (ov T x))/\(∀b n o:Nat,K4 (.ptr b n o)=some (.ptr b n o)):=⟨λ_ _ _=>rfl,λ_ _ _=>rfl⟩
def nR(c:CaseV):List UInt8:=mH c.inp
def pC(x:ExV):List UInt8:=CB x.case.toNat x.word
structure FinOk(s:SysV):Prop where
 cn:(s.prob.task.cases.map nR).Nodup
 cb:∀c∈s.prob.task.cases,(∀x∈c.inp,0<=x/\x<256)/\c.inp.length<=1000000
 cl:s.prob.task.cases.length<=1000000
 en:(s.execs.map pC).Nodup
 eb:∀x∈s.execs,0<=x.case/\x.case<16384/\x.word.length<=1000/\∀y∈ke x.word,0<=y/\y<256
 el:s.execs.length<=1000000
structure FMem(s:SysV)(nx:Nat)(H0 H:Hp)(i j m:Nat):Prop where
 gs:H nx=some s.cs
 ga:H (nx+1)=some [.omap (((s.prob.task.cases.take i).map nR).map rj) (si i)]
 gb:H (nx+2)=some [.omap (((s.execs.take j).map pC).map rj) (si j)]
 gf:H (nx+3)=some (s.cs++[.mp (nx+1),.mp (nx+2)])
 le:nx+4<=m
 fr:∀y,y<nx->H y=H0 y
theorem iM{α β:Type}{f:α->β}:∀{l:List α},(∀x∈l,∀y∈l,f x=f y->x=y)->l.Nodup->(l.map f).Nodup
 |[],_,_=>List.nodup_nil
 |a::l,h,hn=>by
  rw[List.nodup_cons] at hn;rw[fY,List.nodup_cons];refine⟨λhm=>?_,iM (λx hx y hy=>h x (qk _ hx) y (qk _ hy)) hn.2⟩;obtain⟨x,hx,e⟩:=cC.1 hm;have:=h x (qk _ hx) a (iE ..) e;exact hn.1 (this▸hx)
structure GAct{α:Type}(G:List α)(act:α->Nat->Nat)(M:Nat):Prop where
 nd:G.Nodup
 lt:∀g∈G,∀e,e<M->act g e<M
 one:∃i∈G,∀e,e<M->act i e=e
 mul:∀g∈G,∀h∈G,∃k∈G,∀e,e<M->act k e=act g (act h e)
 inv:∀g∈G,∃h∈G,(∀e,e<M->act h (act g e)=e)
 rmul:∀h∈G,∃f:α->α,(∀g∈G,f g∈G/\∀e,e<M->act (f g) e=act g (act h e))/\∀g∈G,∀g'∈G,f g=f g'->g=g'
def Orb{α:Type}(G:List α)(act:α->Nat->Nat)(e f:Nat):Prop:=∃g∈G,act g e=f
section
variable{α:Type}{G:List α}{act:α->Nat->Nat}{M:Nat}
theorem GAct.refl(h:GAct G act M){e:Nat}(he:e<M):Orb G act e e:=by
 obtain⟨i,h1,h2⟩:=h.one;exact⟨i,h1,h2 e he⟩
theorem GAct.trans(h:GAct G act M){e f k:Nat}(he:e<M)(h1:Orb G act e f)(h2:Orb G act f k):Orb G act e k:=by
 obtain⟨g,g1,rfl⟩:=h1;obtain⟨g',g2,rfl⟩:=h2;obtain⟨q,q1,q2⟩:=h.mul g' g2 g g1;exact⟨q,q1,q2 e he⟩
theorem GAct.symm(h:GAct G act M){e f:Nat}(he:e<M)(h1:Orb G act e f):Orb G act f e:=by
 obtain⟨g,g1,rfl⟩:=h1;obtain⟨q,q1,q2⟩:=h.inv g g1;exact⟨q,q1,q2 e he⟩
theorem GAct.olt(h:GAct G act M){e f:Nat}(he:e<M)(h1:Orb G act e f):f<M:=by
 obtain⟨g,g1,rfl⟩:=h1;exact h.lt g g1 e he
end
theorem xu(p:PrbV):∀(D:List (Nat×List RndV))(s:BldS),(D.foldl (λs x=>qA p x.1 s x.2) s).execs.map (λx=>(x.case,x.word))=s.execs.map (λx=>(x.case,x.word))++D.map λd=>((d.1:Int),d.2)
 |[],s=>by simp
 |d::D,s=>by
  rw[List.foldl_cons,xu p D];simp[qA]
theorem EH(p:PrbV)(D:List (Nat×List RndV)):(stD p D).execs.map (λx=>(x.case,x.word))=D.map λd=>((d.1:Int),d.2):=(xu p D _).trans (by simp)
theorem pe(p:PrbV):(bg p).execs.map (λx=>(x.case,x.word))=(iU p.task.cases.length (dX p)).map λd=>((d.1:Int),d.2):=by
 rw[<-EH p,qX p];rfl
theorem qM{n:Nat}{W:List (List RndV)}{c:Nat}{w:List RndV}:(c,w)∈iU n W↔c<n/\w∈W:=by
 unfold iU;simp only[List.mem_flatMap,gI,cC,Prod.mk.injEq];constructor
 ·rintro⟨a,h,b,hb,rfl,rfl⟩;exact⟨h,hb⟩
 ·rintro⟨h,hb⟩;exact⟨c,h,w,hb,rfl,rfl⟩
theorem yn{W:List (List RndV)}(hW:W.Nodup):∀n,(iU n W).Nodup
 |0=>by simp[iU]
 |n+1=>by
  rw[ml,Bp];refine⟨yn hW n,iM (λx _ y _ e=>by simpa using e) hW,λa ha b hb e=>?_⟩;obtain⟨c,w⟩:=a;obtain⟨v,_,rfl⟩:=cC.1 hb;have:=(qM.1 ha).1;cases e;omega
theorem u7{a:AdvV}(ho:AdvOk a):∀(k s:Nat),s<a.states.length->(be a k s).Nodup
 |0,s,_=>by simp[be]
 |k+1,s,hs=>by
  have hl:=fF hs;unfold be;rw[List.Nodup,List.pairwise_flatMap];refine⟨λm hm=>?_,?_⟩
  ·have ht:m.to.toNat<a.states.length:=nH ho hs ((eG ho hs).2 ⟨m,hm,rfl,rfl⟩);exact iM (λx _ y _ e=>by simpa using e) (u7 ho k _ ht)
  ·have hn:=Ak ho hl;rw[List.Nodup] at hn;refine List.Pairwise.imp_of_mem (λ{m m'} hm hm' hne x hx y hy e=>?_) hn;obtain⟨v,_,rfl⟩:=cC.1 hx;obtain⟨v',_,rfl⟩:=cC.1 hy;simp only[List.cons.injEq] at e;exact hne (tO ho hl hm hm' e.1)
theorem Mp{p:PrbV}(h:OkP p):((bg p).execs.map λx=>(x.case,x.word)).Nodup:=by
 obtain⟨-,ho,-⟩:=cu h.e0;rw[pe]
 exact iM (fun x _ y _ e=>by
  simp only[Prod.mk.injEq] at e;exact Prod.ext (by omega) e.2) (yn (u7 ho _ _ ho.s1) _)
theorem Kv{p:PrbV}{x:ExV}(hx:x∈(bg p).execs):∃c:Nat,x.case=c/\c<p.task.cases.length/\x.word∈dX p:=by
 have:(x.case,x.word)∈(bg p).execs.map λx=>(x.case,x.word):=cC.2 ⟨x,hx,rfl⟩;rw[pe] at this;obtain⟨⟨c,w⟩,h1,h2⟩:=cC.1 this;obtain⟨h3,h4⟩:=qM.1 h1;simp only[Prod.mk.injEq] at h2;exact⟨c,h2.1.symm,h3,h2.2▸h4⟩
theorem As{n:Nat}:∀{v w:List RndV},(∀r∈v,RdOk n r)->(∀r∈w,RdOk n r)->ke v=ke w->v=w
 |[],[],_,_,_=>rfl
 |[],r::w,_,_,h=>by have:=congrArg List.length h;rw[kL,kL] at this;simp at this
 |r::v,[],_,_,h=>by have:=congrArg List.length h;rw[kL,kL] at this;simp at this
 |r::v,q::w,hv,hw,h=>by
  have h:Ac r++ke v=Ac q++ke w:=h;simp only[Ac,List.cons_append,List.nil_append,List.cons.injEq] at h;obtain⟨h0,h1,h2,h3,h4,hf,ht⟩:=h;have e1:=(hv r (iE ..)).n;have e2:=(hw q (iE ..)).n;rw[As (λz hz=>hv z (qk _ hz)) (λz hz=>hw z (qk _ hz)) ht]
  have:r=q:=by
   cases r;cases q;simp only[RndV.mk.injEq] at *;exact⟨e1.trans e2.symm,h0,h1,h2,h3,h4,hf⟩
  rw[this]
noncomputable def l4(p:PrbV):List (List Int):=(zf p.task).filter λq=>eqB p.adv (e7 q p.adv)
structure SymOk(p:PrbV)(q:List Int):Prop where
 pm:ba q=0
 ln:(q.length:Int)=p.task.n
 la:(q.length:Int)=p.adv.n
 rt:d8 p.task q=p.task
 eq:EqA p.adv (e7 q p.adv)
theorem dH{p:PrbV}(h:OkP p){q:List Int}:q∈l4 p↔SymOk p q:=by
 obtain⟨hc,ho,hn,-⟩:=cu h.e0;unfold l4;rw[kW];constructor
 ·rintro⟨h1,h2⟩;obtain⟨a,b,c⟩:=qm hc h1;exact⟨a,b,by omega,c,xP.1 h2⟩
 ·rintro⟨a,b,_,c,d⟩;refine⟨kW.2 ⟨?_,bV c.symm⟩,xP.2 d⟩;have:=su a
  rwa [show q.length=p.task.n.toNat by omega] at this
theorem KG{p:PrbV}(h:OkP p):(l4 p).Nodup:=by
 obtain⟨hc,ho,hn,-⟩:=cu h.e0;have h1:=cV hc;have h3:=h.n3
 have:(kc p.task.n.toNat).Nodup:=by
  generalize e:p.task.n.toNat=n;have:n=1\/n=2\/n=3:=by omega
  rcases this with rfl|rfl|rfl<;>decide+kernel
 exact(this.sublist List.filter_sublist).sublist List.filter_sublist
theorem tU{p:PrbV}(h:OkP p):SymOk p (idL p.task.n.toNat):=by
 obtain⟨hc,ho,hn,-⟩:=cu h.e0;have h1:=cV hc;obtain⟨a,b,c⟩:=qm hc (JT hc);refine⟨a,b,by omega,c,λw=>?_⟩;rw[jI a ho (by omega)]
 have key:∀v,Lng p.adv v->v.map (dq (idL p.task.n.toNat))=v:=λv hv=>by
  have:=rz ho (n:=p.task.n.toNat) (by omega) hv
  conv=>rhs;rw[<-List.map_id v]
  exact pz λr hr=>zj (by omega) (by omega) (this r hr)
 constructor
 ·intro hw;exact⟨w,hw,(key w hw).symm⟩
 ·rintro⟨v,hv,rfl⟩;rw[key v hv];exact hv
theorem ou{p:PrbV}(h:OkP p){g k:List Int}(hg:SymOk p g)(hk:SymOk p k):SymOk p (d6 g k):=by
 obtain⟨hc,ho,hn,-⟩:=cu h.e0;have hl:k.length=g.length:=by have:=hg.ln;have:=hk.ln;omega
 exact⟨gN hg.pm hk.pm hl,by rw[ct];exact hk.ln,by rw[ct];exact hk.la,by rw[FO hg.pm hk.pm hl hc hg.ln,hk.rt,hg.rt],HS hg.pm hk.pm ho hg.la hl hg.eq hk.eq⟩
theorem ze{p:PrbV}(h:OkP p){g:List Int}(hg:SymOk p g):SymOk p (fg g):=by
 obtain⟨hc,ho,hn,-⟩:=cu h.e0;refine⟨pc hg.pm,by rw[fL];exact hg.ln,by rw[fL];exact hg.la,?_,JF hg.pm ho hg.la hg.eq⟩;have:=Em hc hg.pm hg.ln
 rwa [hg.rt] at this
def wK(p:PrbV)(q:List Int)(c:Nat):Nat:=(p.task.cases.map CaseV.inp).idxOf (bH (p.task.cases.getD c default).inp q)
theorem oM{α:Type}[BEq α][LawfulBEq α][Inhabited α]{l:List α}{x:α}(h:x∈l):l.idxOf x<l.length/\l.getD (l.idxOf x) default=x:=by
 have h1:=List.idxOf_lt_length_iff.2 h;refine⟨h1,?_⟩;have:=List.getElem_idxOf h1;simp[List.getD,h1]
theorem lL{p:PrbV}(h:OkP p){q:List Int}(hq:SymOk p q){c:Nat}(hc:c<p.task.cases.length):wK p q c<p.task.cases.length/\(p.task.cases.getD (wK p q c) default).inp=bH (p.task.cases.getD c default).inp q:=by
 obtain⟨ck,-⟩:=cu h.e0;obtain⟨j,h1,h2,-⟩:=Gu ck hq.pm hq.ln hc;rw[hq.rt] at h1 h2;have hm:bH (p.task.cases.getD c default).inp q∈p.task.cases.map CaseV.inp:=cC.2 ⟨_,ao h1,by rw[h2];rfl⟩;obtain⟨k1,k2⟩:=oM hm;rw[bj] at k1;refine⟨k1,?_⟩;rw[<-k2];exact(iX k1).symm
theorem pq{p:PrbV}(h:OkP p){q:List Int}(hq:SymOk p q){c:Nat}(hc:c<p.task.cases.length):(p.task.cases.getD c default).inp.length=q.length:=by
 obtain⟨ck,-⟩:=cu h.e0;have:=yo ck hc;have:=hq.ln;omega
theorem zA{p:PrbV}(h:OkP p){i j:Nat}(hi:i<p.task.cases.length)(hj:j<p.task.cases.length)(e:(p.task.cases.getD i default).inp=(p.task.cases.getD j default).inp):i=j:=rk (cu h.e0).1 hi hj e
def ja(p:PrbV):List (Nat×List RndV):=iU p.task.cases.length (dX p)
def tF(p:PrbV)(q:List Int)(d:Nat×List RndV):Nat×List RndV:=(wK p q d.1,d.2.map (dq q))
def ij(p:PrbV)(q:List Int)(e:Nat):Nat:=(ja p).idxOf (tF p q ((ja p).getD e default))
theorem md{α β:Type}[Inhabited α][Inhabited β]{f:α->β}{l:List α}{i:Nat}(h:i<l.length):(l.map f).getD i default=f (l.getD i default):=by simp[List.getD,h]
theorem w8{α:Type}[Inhabited α]{l:List α}(hn:l.Nodup){i j:Nat}(hi:i<l.length)(hj:j<l.length)(k:l.getD i default=l.getD j default):i=j:=by
 simp only[List.getD,mB hi,mB hj,tw] at k;rw[List.Nodup,nu] at hn;rcases vJ i j with q|q|q
 ·exact absurd k (hn i j hi hj q)
 ·exact q
 ·exact absurd k.symm (hn j i hj hi q)
theorem Mc{p:PrbV}(h:OkP p):(ja p).Nodup:=yn (u7 (cu h.e0).2.1 _ _ (cu h.e0).2.1.s1) _
theorem tQ{p:PrbV}:(ja p).length=(bg p).execs.length:=by
 have:=congrArg List.length (pe p);rw[bj,bj] at this;exact this.symm
theorem ye{p:PrbV}{e:Nat}(he:e<(bg p).execs.length):((bg p).execs.getD e default).case=((((ja p).getD e default).1:Nat):Int)/\((bg p).execs.getD e default).word=((ja p).getD e default).2:=by
 have h1:=pe p;have h2:e<(ja p).length:=by rw[tQ];exact he
 have h3:=congrArg (λl=>l.getD e default) h1;rw[md he,md (f:=λd:Nat×List RndV=>((d.1:Int),d.2)) (l:=iU p.task.cases.length (dX p)) h2] at h3;rw[Prod.mk.injEq] at h3;exact h3
theorem lG{p:PrbV}{e:Nat}(he:e<(ja p).length):((ja p).getD e default).1<p.task.cases.length/\((ja p).getD e default).2∈dX p:=qM.1 (show(((ja p).getD e default).1,((ja p).getD e default).2)∈iU _ _ from ao he)
theorem pP{p:PrbV}(h:OkP p){n:Nat}(hn:(n:Int)=p.adv.n){w:List RndV}(hw:w∈dX p):∀r∈w,RdOk n r:=by
 obtain⟨hc,ho,-⟩:=cu h.e0;exact rz ho hn ((my ho _ _ w ho.s1).1 hw).2
theorem Jr{p:PrbV}(h:OkP p){q:List Int}(hq:SymOk p q){d:Nat×List RndV}(hd:d.1<p.task.cases.length/\d.2∈dX p):(tF p q d).1<p.task.cases.length/\(tF p q d).2∈dX p:=
 ⟨(lL h hq hd.1).1,FR hq.pm (cu h.e0).2.1 hq.la hq.eq hd.2⟩
theorem i7{p:PrbV}(h:OkP p){q:List Int}(hq:SymOk p q){e:Nat}(he:e<(ja p).length):ij p q e<(ja p).length/\(ja p).getD (ij p q e) default=tF p q ((ja p).getD e default):=oM (qM.2 (Jr h hq (lG he)))
theorem tL{p:PrbV}(h:OkP p){e f:Nat}(he:e<(ja p).length)(hf:f<(ja p).length)(k:(ja p).getD e default=(ja p).getD f default):e=f:=by
 exact w8 (Mc h) he hf k
theorem JY{p:PrbV}(h:OkP p){d:Nat×List RndV}(hd:d.1<p.task.cases.length/\d.2∈dX p):tF p (idL p.task.n.toNat) d=d:=by
 obtain⟨hc,ho,hn,-⟩:=cu h.e0;have h1:=cV hc;have hs:=tU h;obtain⟨c1,c2⟩:=lL h hs hd.1;have hl:=pq h hs hd.1;rw[cm] at hl;rw[qP hc (by omega) (by omega) hl] at c2;refine Prod.ext (zA h c1 hd.1 c2) ?_;show d.2.map _=d.2
 conv=>rhs;rw[<-List.map_id d.2]
 exact pz λr hr=>zj (by omega) (by omega) (pP h (by omega) hd.2 r hr)
theorem Bl{p:PrbV}(h:OkP p){g k:List Int}(hg:SymOk p g)(hk:SymOk p k){d:Nat×List RndV}(hd:d.1<p.task.cases.length/\d.2∈dX p):tF p (d6 g k) d=tF p g (tF p k d):=by
 have hl:k.length=g.length:=by have:=hg.ln;have:=hk.ln;omega
 have hs:=ou h hg hk;obtain⟨c1,c2⟩:=lL h hs hd.1;obtain⟨k1,k2⟩:=lL h hk hd.1;obtain⟨g1,g2⟩:=lL h hg k1;have hv:=pq h hg hd.1;refine Prod.ext (zA h c1 g1 ?_) ?_
 ·show(p.task.cases.getD (wK p (d6 g k) d.1) default).inp=(p.task.cases.getD (wK p g (wK p k d.1)) default).inp;rw[c2,g2,k2,mV hg.pm hk.pm hl hv]
 ·exact uV hg.pm hk.pm hl (pP h hg.la hd.2)
theorem Gg{p:PrbV}(h:OkP p){g:List Int}(hg:SymOk p g){d:Nat×List RndV}(hd:d.1<p.task.cases.length/\d.2∈dX p):tF p (fg g) (tF p g d)=d:=by
 obtain⟨g1,g2⟩:=lL h hg hd.1;obtain⟨c1,c2⟩:=lL h (ze h hg) g1;have hv:=pq h hg hd.1;refine Prod.ext (zA h c1 hd.1 ?_) ?_
 ·show(p.task.cases.getD (wK p (fg g) (wK p g d.1)) default).inp=_;rw[c2,g2,ql hg.pm hv]
 ·show(d.2.map (dq g)).map (dq (fg g))=d.2;rw[List.map_map]
  conv=>rhs;rw[<-List.map_id d.2]
  exact pz λr hr=>qv hg.pm (pP h hg.la hd.2 r hr)
theorem HC{a b k:List Int}(hk:ba k=0)(ha:a.length=k.length)(hb:b.length=k.length)(e:d6 a k=d6 b k):a=b:=by
 refine List.ext_getElem (ha.trans hb.symm) λi h1 h2=>?_;obtain⟨j,j1,j2⟩:=iT hk (show i<k.length by omega);have e1:=gR (p:=a) j1;have e2:=gR (p:=b) j1;rw[e,e2,j2,cK] at e1;simpa[List.getD,h1,h2] using e1.symm
theorem Sa{p:PrbV}(h:OkP p):GAct (l4 p) (ij p) (ja p).length where
 nd:=KG h
 lt g hg e he:=(i7 h ((dH h).1 hg) he).1
 one:=⟨_,(dH h).2 (tU h),λe he=>tL h (i7 h (tU h) he).1 he (by rw[(i7 h (tU h) he).2,JY h (lG he)])⟩
 mul g hg k hk:=by
  have hg:=(dH h).1 hg;have hk:=(dH h).1 hk;refine⟨_,(dH h).2 (ou h hg hk),λe he=>?_⟩;obtain⟨k1,k2⟩:=i7 h hk he;obtain⟨g1,g2⟩:=i7 h hg k1;obtain⟨c1,c2⟩:=i7 h (ou h hg hk) he;exact tL h c1 g1 (by rw[c2,g2,k2,Bl h hg hk (lG he)])
 inv g hg:=by
  have hg:=(dH h).1 hg;refine⟨_,(dH h).2 (ze h hg),λe he=>?_⟩;obtain⟨g1,g2⟩:=i7 h hg he;obtain⟨c1,c2⟩:=i7 h (ze h hg) g1;exact tL h c1 he (by rw[c2,g2,Gg h hg (lG he)])
 rmul k hk:=by
  have hk:=(dH h).1 hk;refine⟨λg=>d6 g k,λg hg=>?_,λg hg g' hg' e=>?_⟩
  ·have hg:=(dH h).1 hg;refine⟨(dH h).2 (ou h hg hk),λe he=>?_⟩;obtain⟨k1,k2⟩:=i7 h hk he;obtain⟨g1,g2⟩:=i7 h hg k1;obtain⟨c1,c2⟩:=i7 h (ou h hg hk) he;exact tL h c1 g1 (by rw[c2,g2,k2,Bl h hg hk (lG he)])
  ·have a:=((dH h).1 hg).ln;have b:=((dH h).1 hg').ln;have c:=hk.ln;exact HC hk.pm (by omega) (by omega) e
theorem Cp{t:TaskV}(h:a8 t=0):t.ins<=8:=by
 unfold a8 at h;split at h
 ·exact absurd h (by decide)
 ·omega
theorem zh{n:Nat}(hn:n<=3){w:List RndV}(h:∀r∈w,RdOk n r):∀y∈ke w,0<=y/\y<256:=λy hy=>by
 obtain⟨r,hr,hy⟩:=List.mem_flatMap.1 hy;have ok:=h r hr
 have h8:((2^n:Nat):Int)<=8:=by
  have:n=0\/n=1\/n=2\/n=3:=by omega
  rcases this with rfl|rfl|rfl|rfl<;>decide
 have key:∀i,i<5->0<=r.hs.getD i 0/\r.hs.getD i 0<256:=λi hi=>by
  by_cases q:i<n
  ·have:=ok.row q;omega
  ·rw[ok.out (by omega) hi];omega
 have hf:=ok.flt;simp only[Ac,gV,List.not_mem_nil,or_false] at hy;rcases hy with rfl|rfl|rfl|rfl|rfl|rfl
 ·exact key 0 (by omega)
 ·exact key 1 (by omega)
 ·exact key 2 (by omega)
 ·exact key 3 (by omega)
 ·exact key 4 (by omega)
 ·omega
theorem GK{c d:Nat}{v w:List RndV}{n:Nat}(hn:n<=3)(hc:c<1025)(hd:d<1025)(hv:∀r∈v,RdOk n r)(hw:∀r∈w,RdOk n r)(h:CB c v=CB d w):c=d/\v=w:=by
 unfold CB at h;have h1:=uG (λx hx=>?_) (λx hx=>?_) h
 ·simp only[List.cons.injEq] at h1;obtain⟨a,b,e⟩:=h1;exact⟨by omega,As hv hw e⟩
 ·simp only[gV] at hx;rcases hx with rfl|rfl|hx
  ·omega
  ·omega
  ·exact zh hn hv x hx
 ·simp only[gV] at hx;rcases hx with rfl|rfl|hx
  ·omega
  ·omega
  ·exact zh hn hw x hx
theorem G8{t:TaskV}(h:a8 t=0):(t.cases.map CaseV.inp).Nodup:=by
 rw[List.Nodup,nu];intro i j hi hj hij e;rw[bj] at hi hj;have:=rk h hi hj (by simpa[List.getD,hi,hj] using e);omega
theorem GN{p:PrbV}(h:OkP p):FinOk (bg p):=by
 obtain⟨hc,ho,hn,hr0,hr6⟩:=cu h.e0;have h1:=cV hc;have h3:=h.n3;obtain⟨s1,s2,s3,s4⟩:=we p h
 have cb:∀c∈p.task.cases,(∀x∈c.inp,0<=x/\x<256)/\c.inp.length<=1000000:=λc hm=>by
  have hv:=(jq hc hm).1;obtain⟨l1,l2⟩:=oY hv;have:=Cp hc;exact⟨λx hx=>by have:=l2 x hx;omega,by omega⟩
 have ex:∀x∈(bg p).execs,∃c:Nat,x.case=c/\c<1025/\x.word.length<=1000/\∀r∈x.word,RdOk p.task.n.toNat r:=λx hx=>by
  obtain⟨c,e,hl,hw⟩:=Kv hx;exact⟨c,e,by omega,by rw[jU hw];omega,pP h (by omega) hw⟩
 refine⟨?_,cb,by show p.task.cases.length<=_;omega,?_,λx hx=>?_,by omega⟩
 ·show(p.task.cases.map nR).Nodup;have:p.task.cases.map nR=(p.task.cases.map CaseV.inp).map mH:=by rw[List.map_map];rfl
  rw[this];refine iM (λx hx y hy e=>?_) (G8 hc);obtain⟨c,hc1,rfl⟩:=cC.1 hx;obtain⟨d,hd1,rfl⟩:=cC.1 hy;exact uG (cb c hc1).1 (cb d hd1).1 e
 ·have:(bg p).execs.map pC=((bg p).execs.map λx=>(x.case,x.word)).map λd=>CB d.1.toNat d.2:=by rw[List.map_map];rfl
  rw[this];refine iM (λx hx y hy e=>?_) (Mp h);obtain⟨c,hc1,rfl⟩:=cC.1 hx;obtain⟨d,hd1,rfl⟩:=cC.1 hy;obtain⟨a,a1,a2,a3,a4⟩:=ex c hc1;obtain⟨b,b1,b2,b3,b4⟩:=ex d hd1;dsimp only at e |-;rw[a1,b1,cK,cK] at e;obtain⟨e1,e2⟩:=GK (by omega) a2 b2 a4 b4 e;rw[a1,b1,e1,e2]
 ·obtain⟨a,a1,a2,a3,a4⟩:=ex x hx;exact⟨by omega,by omega,a3,zh (by omega) a4⟩
structure FAt(s:SysV)(B:Nat)(H:Hp):Prop where
 gs:H B=some s.cs
 ga:H (B+1)=some [.omap ((s.prob.task.cases.map nR).map rj) (si s.prob.task.cases.length)]
 gb:H (B+2)=some [.omap ((s.execs.map pC).map rj) (si s.execs.length)]
 gf:H (B+3)=some (s.cs++[.mp (B+1),.mp (B+2)])
theorem FMem.at{s:SysV}{nx m:Nat}{H0 H:Hp}(h:FMem s nx H0 H s.prob.task.cases.length s.execs.length m):FAt s nx H:=by
 have ga:=h.ga;have gb:=h.gb;rw[List.take_length] at ga gb;exact⟨h.gs,ga,gb,h.gf⟩
theorem FAt.same{s:SysV}{B n:Nat}{H H':Hp}(h:FAt s B H)(hn:B+4<=n)(hs:∀y,y<n->H' y=H y):FAt s B H':=
 ⟨(hs _ (by omega)).trans h.gs,(hs _ (by omega)).trans h.ga,(hs _ (by omega)).trans h.gb,(hs _ (by omega)).trans h.gf⟩
theorem OB{l:List (List UInt8)}(hn:l.Nodup){i:Nat}(hi:i<l.length){x:List UInt8}(e:l.getD i default=x):x∈l/\@List.idxOf _ instBEqOfDecidableEq x l=i:=by
 have hm:x∈l:=by rw[<-e];exact ao hi
 refine⟨hm,?_⟩;obtain⟨h1,h2⟩:=@oM _ instBEqOfDecidableEq _ _ l x hm;exact w8 hn h1 hi (h2.trans e.symm)
structure Img(s:SysV)(q:List Int)(e i:Nat):Prop where
 he:e<s.execs.length
 hi:i<s.execs.length
 ex:∃c j:Nat,(s.execs.getD e default).case=c/\(s.execs.getD i default).case=j/\c<s.prob.task.cases.length/\j<s.prob.task.cases.length/\(s.prob.task.cases.getD c default).inp.length=q.length/\(s.prob.task.cases.getD j default).inp=bH (s.prob.task.cases.getD c default).inp q
 wr:∀r∈(s.execs.getD e default).word,RdOk q.length r
 wi:(s.execs.getD i default).word=(s.execs.getD e default).word.map (dq q)
def imL(im:Nat->Nat)(M:Nat):List Int:=(List.range M).map λe=>((im e:Nat):Int)
theorem Gp(im:Nat->Nat)(M:Nat):imL im (M+1)=imL im M++[((im M:Nat):Int)]:=by simp[imL,List.range_succ]
theorem yT(im:Nat->Nat)(M:Nat):(imL im M).length=M:=by simp[imL]
theorem zB{im:Nat->Nat}{M e:Nat}(h:e<M):(imL im M).getD e default=((im e:Nat):Int):=by simp[imL,List.getD,h]
theorem FZ{p:PrbV}(h:OkP p){q:List Int}(hq:SymOk p q){e:Nat}(he:e<(bg p).execs.length):Img (bg p) q e (ij p q e):=by
 have hl:=tQ (p:=p);have he2:e<(ja p).length:=by omega
 obtain⟨a1,a2⟩:=i7 h hq he2;have ha:ij p q e<(bg p).execs.length:=by omega
 have hm:=lG he2;obtain⟨c1,c2⟩:=lL h hq hm.1;obtain⟨g1,g2⟩:=ye he;obtain⟨k1,k2⟩:=ye ha;rw[a2] at k1 k2;refine⟨he,ha,⟨_,_,g1,k1,hm.1,c1,pq h hq hm.1,c2⟩,?_,?_⟩
 ·rw[g2];exact pP h hq.la hm.2
 ·rw[k2,g2];rfl
section
attribute [local irreducible] aF ai bh aY aO aM ax aS a7 bm Go.Abs.Fn aX Go.Abs.Pure ap aJ Yl
theorem Nu(n:Nat)(h1:1<=n)(h5:n<=5):pU 87 [.int .i64 n] (.int .i64 0):=by
 have z1:decide ((n:Int)<1)=false:=bR (by omega);have z2:decide ((n:Int)>5)=false:=bR (by omega);refine pO OV ?_;simp only[b87,aw];refine wnY (aI @z1 @z2) ?_;exact .int _ _
structure GMem(n nx:Nat)(H0 H:Hp)(L:List (List Int))(lv:AV)(m:Nat):Prop where
 gm:H (nx+1)=some [.omap ((L.map t5).map kv5) (pW L.length)]
 row:Row H 1 lv (L.map aq)
 rb:∀c,bk lv=some c->c=nx\/(nx+2<=c/\c<m)
 le:nx+2<=m
 fr:∀y,y<nx->H y=H0 y
theorem PQ(G:List (List Int))(n:Nat)(h1:1<=n)(h3:n<=3)(hG:∀g∈G,ba g=0/\g.length=n)(hGl:G.length<=1024)(H0:Hp)(nx:Nat):
    Abs.Fn Tryz.prog 68 [.int .i64 n,ay G] H0 nx λr H' nx'=>nx<=nx'/\(∀y,y<nx->H' y=H0 y)/\∃rv,r=.tup [rv,.int .i64 0]:=by
 refine fO RQ ?_;simp only[b68,aw];have hnum:=Nu n h1 (by omega);have hid:=Ku n h1 (by omega);have hidp:=kJ h1 (show n<=5 by omega);have hkid:=K1 (idL n) hidp;have zl:decide ((G.length:Int)>1024)=false:=bR (by omega);refine wnY @zl ?_;refine bt (X:=Nat) (λj=>[(0,.int .i64 n),(1,ay G),(24,ay G),(25,.int .i64 G.length),(26,.int .i64 j)]) (λj H m=>j<=G.length/\H0=H/\nx=m) (λj=>G.length-j) 0 ⟨bo _,rfl,rfl⟩ ag0 ?_;rintro j _ _ ⟨hj,rfl,rfl⟩;by_cases hj2:j<G.length
 ·obtain⟨q1,q2⟩:=hG _ (ao hj2);have hc:=gL (G.getD j default) (show(G.getD j default).length<=_ by omega);rw[q1] at hc;have z:decide (((G.getD j default).length:Int)≠n)=false:=bR (by omega);refine wnY @z ?_;exact⟨j+1,by omega,⟨by omega,rfl,rfl⟩,ag0⟩
 refine wnY and_self ?_;refine Ag ?_;have tn0:Int.toNat 0=0:=rfl;rw[KR] at hkid;refine wnY @tn0 ?_;refine pN (b:=nx+1) (kv:=kv5 (t5 (idL n))) (ks:=[]) (vs:=[]) (r:=none) ev0 (by simp (disch:=omega) only[ae]) ev0 ev0 rfl rfl ?_;refine wnY and_self ?_
 refine bt (X:=Nat×List (List Int)×AV) (λx=>[(0,.int .i64 n),(1,ay G),(10,x.2.2),(11,.mp (nx+1)),(12,.int .i64 x.1)])
  (λx H m=>x.1<=x.2.1.length/\GenV n x.2.1/\GMem n nx H0 H x.2.1 x.2.2 m) (λx=>7-x.1) (0,[idL n],.msl nx 1 1 0 1)
  ⟨bo _,⟨ji,λx hx=>by rw[fX.1 hx];exact⟨hidp,cm n⟩,by simp⟩,⟨by simp (disch:=omega) only[ae];rfl,Row.box (sz:=1) nx 1 _ (by simp (disch:=omega) only[ab,ae];rfl) rfl,λc h=>by cases h;exact .inl rfl,by omega,λy hy=>by simp (disch:=omega) only[ab]⟩⟩ (by simp (disch:=omega) only[agr,ZG,reduceEqDiff,↓reduceIte,SL,kV]) ?_
 rintro⟨i,L,lv⟩ H1 m1 ⟨hi,hV,hM⟩;dsimp only at hi hV hM |-;have hL6:=hV.len h1 h3;have hlen:=hM.row.lenS (by rw[bj,Nat.mul_one]) (by omega);by_cases hi2:i<L.length
 rotate_left
 ·obtain rfl:i=L.length:=by omega
  have hne:=hV.ne;obtain⟨B,len,rfl,hB,hBl⟩:=jO hM.row (λe=>by have:=congrArg List.length e;rw[bj,so] at this;omega);simp only[Nat.mul_one,bj] at hB hBl |-;subst hBl;have hlen:eW (.msl B L.length 1 0 L.length)=some (.int .i64 L.length):=by simpa only[Nat.mul_one] using hlen
  have hB1:=hM.rb B rfl;have hle:=hM.le;refine wnY @hlen ?_;refine ci ev0 ev0 (Dm Pq (L:=L) hB (by omega) rfl hV.ne (λx hx=>by obtain⟨a,b⟩:=hV.ok x hx;show x.length<=_;omega) (by omega)) ?_;rintro _ H3 m3 ⟨L',hps,-,-⟩;refine wnY and_self ?_;have:=hps.le;exact⟨by omega,λy hy=>(hps.fr y (by omega) (by omega)).trans (hM.fr y hy),_,rfl⟩
 refine wnY @hlen ?_
 refine bt (X:=Nat×List (List Int)×AV) (λx=>[(0,.int .i64 n),(1,ay G),(10,x.2.2),(11,.mp (nx+1)),(12,.int .i64 i),(55,ay G),(56,.int .i64 G.length),(57,.int .i64 x.1)])
  (λx H m=>x.1<=G.length/\i<x.2.1.length/\GenV n x.2.1/\GMem n nx H0 H x.2.1 x.2.2 m) (λx=>G.length-x.1) (0,L,lv) ⟨bo _,hi2,hV,hM⟩ (by simp (disch:=omega) only[agr,ZG,reduceEqDiff,↓reduceIte,SL,kV]) ?_
 rintro⟨j,L2,lv2⟩ H2 m2 ⟨hj,hi3,hV2,hM2⟩;dsimp only at hj hi3 hV2 hM2 |-;have hL26:=hV2.len h1 h3;by_cases hj2:j<G.length
 rotate_left
 ·refine wnY and_self ?_;exact⟨(i+1,L2,lv2),by dsimp only;omega,⟨by dsimp only;omega,hV2,hM2⟩,by simp (disch:=omega) only[agr,ZG,reduceEqDiff,↓reduceIte,SL,kV]⟩
 obtain⟨g1,g2⟩:=hG _ (ao hj2);obtain⟨x1,x2⟩:=hV2.ok _ (ao hi3);have hcomp:=CA (G.getD j default) (L2.getD i default) g1 x1 (by omega);have hxp:ba (d6 (G.getD j default) (L2.getD i default))=0:=gN g1 x1 (by omega);have hxl:(d6 (G.getD j default) (L2.getD i default)).length=n:=by rw[ct];exact x2
 have hk:=K1 _ hxp;rw[KR] at hk;generalize d6 (G.getD j default) (L2.getD i default)=x at *;obtain⟨B,len,rfl,hB,hBl⟩:=jO hM2.row (λe=>by have:=congrArg List.length e;rw[bj,so] at this;omega);simp only[Nat.mul_one,bj] at hB hBl |-;subst hBl
 have e1:d9 1 (.msl B L2.length 1 0 L2.length) (.int .i64 (i:Int))=some (.ptr B L2.length i):=by
  have:=ixN (b:=B) (n:=L2.length) (sz:=1) (k:=i) (len:=L2.length) hi3
  rwa [Nat.mul_one] at this
 have hr:rd1 H2 (.ptr B L2.length i)=some (aq (L2.getD i default)):=by
  rw[SR.1,hB];simp[hi3,List.getD]
 refine wnY (aI @e1 @hr) ?_;have hM2:GMem n nx H0 H2 L2 (.msl B L2.length 1 0 L2.length) m2:=by simpa only[Nat.mul_one] using hM2
 have hB1:=hM2.rb B rfl;have hle:=hM2.le;have hlx:∀y∈L2,y.length=n:=λy hy=>(hV2.ok y hy).2;by_cases hmem:x∈L2
 ·obtain⟨k,hk1,hf⟩:=F5 ((Hw (by omega) hlx hxl).2 hmem);rw[bj] at hk1;refine n9 (b:=nx+1) ev0 hM2.gm ev0 rfl hf ?_;rw[show mget (AV.bool false) false (some k) (pW L2.length)=(pW L2.length).getD k .undef from rfl,Bw hk1];refine wnY and_self ?_;exact⟨(j+1,L2,.msl B L2.length 1 0 L2.length),by dsimp only;omega,⟨by dsimp only;omega,hi3,hV2,hM2⟩,by simp (disch:=omega) only[agr,ZG,reduceEqDiff,↓reduceIte,SL,kV]⟩
 ·have hf:=HB (λh=>hmem ((Hw (by omega) hlx hxl).1 h));refine n9 (b:=nx+1) ev0 hM2.gm ev0 rfl hf ?_;rw[show mget (AV.bool false) false none (pW L2.length)=.bool false from rfl];refine wnY and_self ?_;refine pN (b:=nx+1) ev0 hM2.gm ev0 ev0 rfl hf ?_;refine wnY and_self ?_;refine ed (k:=1) (sv:=.msl B L2.length 1 0 L2.length) (xv:=.msl m2 1 1 0 1) (cs:=L2.map aq) (new:=[aq x]) rfl ev0 (hM2.row.same λc hc=>by cases hc;rcases hB1 with h|h<;>simp (disch:=omega) only[ab]) ev0 pp rfl rfl ji (by rw[bj];omega) (by rw[bj];omega) ?_;rintro lv3 H4 m4 r1 r2 r3 r4 r5;refine wnY and_self ?_;refine⟨(j+1,L2++[x],lv3),by dsimp only;omega,⟨by dsimp only;omega,by dsimp only;rw[cQ];omega,hV2.snoc ⟨hxp,hxl⟩ hmem,⟨?_,?_,?_,by omega,?_⟩⟩,by simp (disch:=omega) only[agr,ZG,reduceEqDiff,↓reduceIte,SL,kV]⟩
  ·dsimp only;rw[r4 (nx+1) (by omega) (λh=>by cases h;omega)];simp (disch:=omega) only[ab,ae];rw[dv,dv,cQ];show some [AV.omap _ (pW L2.length++[.bool true])]=_;rw[wQ];rfl
  ·dsimp only;rw[dv];exact r1
  ·intro c hc;rcases r5 c hc with h|h
   ·cases h;exact hB1.imp id λq=>⟨q.1,by omega⟩
   ·exact .inr (by omega)
  ·intro y hy;rw[r4 y (by omega) (λh=>by cases h;omega)];simp (disch:=omega) only[ab];exact hM2.fr y hy
theorem BB(v:List Int)(h:∀x∈v,0<=x/\x<256)(hl:v.length<=1000000):pU 65 [aq v] (.str ⟨(mH v).toArray⟩):=by
 have hz:bc (.agg [.int .u8 0]) v.length=(tC v 0).map lN:=by
  simp[bc,tC,AV.cells,mH];exact .inr rfl
 refine pO Q2 ?_;simp only[b65,aw];refine wnZ and_self ?_;refine nj rfl ev0 ev0 (by omega) (by omega) (by omega) (by omega) ?_;rw[cK,hz];refine wnZ and_self ?_;refine bt (X:=Nat) (λk=>[(3,.msl 0 v.length 1 0 v.length),(9,aq v),(10,.int .i64 v.length),(11,.int .i64 k)]) (λk H nx=>k<=v.length/\H=av aQ 0 ((tC v k).map lN)/\nx=1) (λk=>v.length-k) 0 ⟨bo _,rfl,rfl⟩ (by simp (disch:=omega) only[agr,ZG,reduceEqDiff,↓reduceIte,Nat.mul_one]) ?_;rintro k H nx ⟨hk,rfl,rfl⟩;have hml:=rh hk;by_cases hk2:k<v.length
 ·have hx:=h _ (ao hk2);have hlm:=gd (f:=lN) (l:=tC v k) (k:=k) (x:=UInt8.ofNat (v.getD k default).toNat) (by omega);rw[Gw hk2,IE hx] at hlm
  have ew:IntKind.wrap .u8 (v.getD k default)=v.getD k default:=by
   generalize v.getD k default=z at hx |-;simp only[IntKind.bits,IntKind.wrap,IntKind.signed];simp;omega
  refine wnY @ew ?_;refine⟨k+1,by omega,⟨by omega,?_,rfl⟩,ag0⟩;rw[je,hlm]
 ·obtain rfl:k=v.length:=by omega
  have ht:tC v v.length=mH v:=by unfold tC;rw[Nat.sub_self,List.replicate_zero,jc,js (by simp[mH])]
  rw[ht] at hml |-;refine wnZ and_self ?_;refine NR (n:=v.length) (bs:=mH v) (by((try simp only[bf,ZA,reduceEqDiff,↓reduceIte,reduceAdd,reduceLeDiff]);(try with_reducible rfl));exact Ck ae (by simp[mH])) ?_;refine wnZ and_self ?_;exact .str _
theorem FT(w:List RndV)(hl:w.length<=1000):pU 109 [bA w] (aq (ke w)):=by
 refine pO N0 ?_;simp only[Pt,aw];refine wnZ @PE ?_;refine bt (X:=Nat×AV) (λx=>[(3,x.2),(6,bA w),(7,.int .i64 w.length),(8,.int .i64 x.1)]) (λx H nx=>x.1<=w.length/\Row H 1 x.2 ((ke (w.take x.1)).map (AV.int .i64))/\∀c,bk x.2=some c->c<nx) (λx=>w.length-x.1) (0,.esl) ⟨bo _,Row.nil,λc h=>(by cases h)⟩ ag0 ?_;rintro⟨k,sv⟩ H nx ⟨hk,hrow,hb⟩;dsimp only at hk hrow hb |-;by_cases hk2:k<w.length
 rotate_left
 ·refine wnY @PE ?_;rw[js (by omega)] at hrow;exact hrow.snapI
 have ix:=ixR hk2;rw[PC.1] at ix;have hst:ke (w.take (k+1))=ke (w.take k)++Ac (w.getD k default):=by rw[cT hk2,Fb]
 have hll:=kL (w.take k);rw[jg,Nat.min_eq_left hk] at hll;generalize w.getD k default=r at *;refine wnY (aI @PE @ix) ?_;refine JP aQ (only nx [.int .i64 r.n,.int .i64 r.h0,.int .i64 r.h1,.int .i64 r.h2,.int .i64 r.h3,.int .i64 r.h4,.int .i64 r.f]) (dw _ nx) [(3,sv),(5,.iptr [.int .i64 r.n,.int .i64 r.h0,.int .i64 r.h1,.int .i64 r.h2,.int .i64 r.h3,.int .i64 r.h4,.int .i64 r.f] 0),(6,bA w),(7,.int .i64 w.length),(8,.int .i64 k)] (Fz.one (by simp only[ae];rfl)) ⟨.inl (have zz:=@SL;evZ),.inr ?_,.inl (have zz:=@SL;evZ),.inl (have zz:=@SL;evZ),.inl (have zz:=@SL;evZ),trivial⟩ rfl (λ_ _ h=>by cases h) ?_
 ·have e:∀x,x=AV.ptr nx 7 0->Snap (only nx [.int .i64 r.n,.int .i64 r.h0,.int .i64 r.h1,.int .i64 r.h2,.int .i64 r.h3,.int .i64 r.h4,.int .i64 r.f]) x (.iptr [.int .i64 r.n,.int .i64 r.h0,.int .i64 r.h1,.int .i64 r.h2,.int .i64 r.h3,.int .i64 r.h4,.int .i64 r.f] 0):=λx hx=>by
    rw[hx];exact fP ez rfl (ac (.int _ _) (ac (.int _ _) (ac (.int _ _) (ac (.int _ _) (ac (.int _ _) (ac (.int _ _) (ac (.int _ _) al)))))))
  exact e _ (have zz:=@SL;evZ)
 have hs7:=QO r.n r.h0 r.h1 r.h2 r.h3 r.h4 r.f;simp only[fY,List.map_nil,List.getD_cons_succ,List.getD_cons_zero];refine wnY (aI @PE @hs7) ?_;refine KP (pv:=[(0,1,.int .i64 r.f)]) (cs:=[.int .i64 r.f]) ev0 rfl (by decide) rfl rfl ?_;refine dB ?_;refine ed (k:=5) (sv:=sv) (xv:=aq [r.h0,r.h1,r.h2,r.h3,r.h4]) (cs:=(ke (w.take k)).map (AV.int .i64)) (new:=[r.h0,r.h1,r.h2,r.h3,r.h4].map (AV.int .i64)) rfl ev0 (hrow.same λc hc=>by have:=hb c hc;simp (disch:=omega) only[bQ,ab]) ev0 jy jP rfl ji (by rw[bj];omega) (by rw[bj];omega) ?_;rintro s2 H2 m2 r1 r2 r3 r4 r5;refine iq ⟨(λ_ _ h=>by cases h),?_⟩;refine fj ?_;refine ed (k:=1) (sv:=s2) (xv:=aq [r.f]) (new:=[r.f].map (AV.int .i64)) rfl ev0 r1 (by((try simp only[bf,ZA,reduceEqDiff,↓reduceIte,reduceAdd,reduceLeDiff]);(try with_reducible rfl));rfl) jy jP rfl ji (by rw[cQ,bj];simp;omega) (by rw[cQ,bj];simp;omega) ?_;rintro s3 H3 m3 t1 t2 t3 t4 t5;refine wnY @PE ?_;refine⟨(k+1,s3),by dsimp only;omega,⟨by dsimp only;omega,?_,λc hc=>?_⟩,by simp (disch:=omega) only[agr,ZG,reduceEqDiff,↓reduceIte,SL]⟩
 ·dsimp only;rw[hst,dv];rw[iw] at t1;exact t1
 ·rcases t5 c hc with h|h
  ·rcases r5 c h with h|h
   ·have:=hb c h;omega
   ·omega
  ·omega
theorem CR(c:Nat)(w:List RndV)(hc:c<16384)(hl:w.length<=1000)(hw:∀x∈ke w,0<=x/\x<256):pU 66 [.int .i64 (c:Nat),bA w] (.str ⟨(CB c w).toArray⟩):=by
 have hle:=FT w hl;have hll:=kL w
 have hk:=BB (((c / 64:Nat):Int) :: ((c % 64:Nat):Int) :: ke w) (fun x hx=>by
  rcases gV.1 hx with rfl|hx
  ·omega
  ·rcases gV.1 hx with rfl|hx
   ·omega
   ·exact hw x hx) (by simp only[il];omega)
 have hq:=λtb tf=>Dq (a:=(c:Int)) (b:=64) (tb:=tb) (tf:=tf) (by omega) (by omega) (by omega);have hr:=λtb tf=>yE (k:=.i64) (a:=(c:Int)) (b:=64) (tb:=tb) (tf:=tf) (by omega) (by omega);have e1:(c:Int)/64=((c/64:Nat):Int):=by omega
 have e2:(c:Int)%64=((c%64:Nat):Int):=by omega
 rw[e1] at hq;rw[e2] at hr;refine pO Si ?_;simp only[b66,aw];refine wnY (aI @hq @hr) ?_
 have hrow:Row (av (av aQ 0 [AV.int .i64 ((c/64:Nat):Int),AV.int .i64 ((c%64:Nat):Int)]) 0 ([AV.int .i64 ((c/64:Nat):Int),AV.int .i64 ((c%64:Nat):Int)]++(ke w).map (AV.int .i64))) 1 (.msl 0 ((2+(ke w).length)*1) 1 0 (2+(ke w).length)) ((((c/64:Nat):Int)::((c%64:Nat):Int)::ke w).map (AV.int .i64)):=
  Row.box 0 (2+(ke w).length) _ ae (by simp;omega)
 refine eM ev0 ev0 hk (bJ (ac hrow.snapI al) rfl) ?_;refine wnY and_self ?_;exact .str _
theorem A7(s:SysV)(hs:FinOk s)(H0:Hp)(nx:Nat):Abs.Fn Tryz.prog 29 [gn s] H0 nx λr H' nx'=>r=.ptr (nx+3) 12 0/\FMem s nx H0 H' s.prob.task.cases.length s.execs.length nx':=by
 refine fO QW ?_;simp only[b29,aw];unfold gn;rw[PC.2.2.2.2.2.2.2];refine wnY @PE ?_;refine Ag ?_
 skip
 refine Ag ?_;refine wnY @PE ?_;refine bt (X:=Nat) (λk=>[(1,.ptr nx 10 0),(3,.ptr (nx+3) 12 0),(16,bu s.prob.task.cases),(17,.int .i64 s.prob.task.cases.length),(18,.int .i64 k)]) (λk H m=>k<=s.prob.task.cases.length/\FMem s nx H0 H k 0 m) (λk=>s.prob.task.cases.length-k) 0 ⟨bo _,⟨by rw[PC.2.2.2.2.2.2.2];simp (disch:=omega) only[ab,ae],by simp (disch:=omega) only[ab,ae];rfl,by simp (disch:=omega) only[ab,ae];rfl,by rw[PC.2.2.2.2.2.2.2];simp (disch:=omega) only[ab,ae];rfl,by omega,λy hy=>by simp (disch:=omega) only[ab]⟩⟩ (by simp (disch:=omega) only[agr,ZG,reduceEqDiff,↓reduceIte,SL,kV]) ?_;rintro k H m ⟨hk,hM⟩;by_cases hk2:k<s.prob.task.cases.length
 ·have ix:=bK hk2;have gf:=hM.gf;have ga:=hM.ga;rw[PC.2.2.2.2.2.2.2] at gf;obtain⟨q1,q2⟩:=hs.cb _ (ao hk2);have hkey:=BB _ q1 q2;have hst:(s.prob.task.cases.take (k+1)).map nR=(s.prob.task.cases.take k).map nR++[nR (s.prob.task.cases.getD k default)]:=by rw[cT hk2,dv];rfl
  have hnm:nR (s.prob.task.cases.getD k default)∉(s.prob.task.cases.take k).map nR:=λhmem=>by
   have h1:=hs.cn;rw[<-tH (k+1) s.prob.task.cases,dv,hst,Bp,Bp] at h1;exact h1.1.2.2 _ hmem _ (fX.2 rfl) rfl
  have hf:=AR hnm;have hle:=hM.le;have hcl:=hs.cl;refine wnY (aI @PE @ix) ?_;refine ff _ rfl (λ_ _ h=>h) ?_;simp only[fY,List.map_nil,List.getD_cons_succ,List.getD_cons_zero];refine wnY (zI3 @PE @NKF @gf) ?_;refine dB ?_;refine eM ev0 ev0 hkey (bC (ac (bP _ _) al)) ?_;refine iq ⟨(λ_ _ h=>h),?_⟩;refine fj ?_;refine pN (b:=nx+1) ev0 (by simp (disch:=omega) only[ab];exact ga) (by((try simp only[bf,ZA,reduceEqDiff,↓reduceIte,reduceAdd,reduceLeDiff]);(try with_reducible rfl));rfl) ev0 rfl hf ?_;refine wnY @PE ?_;refine⟨k+1,by omega,⟨by omega,?_,?_,?_,?_,by omega,λy hy=>by simp (disch:=omega) only[ab];exact hM.fr y hy⟩,by simp (disch:=omega) only[agr,ZG,reduceEqDiff,↓reduceIte,SL]⟩
  ·simp (disch:=omega) only[ab];exact hM.gs
  ·simp (disch:=omega) only[ae];rw[hst,dv];show some [AV.omap _ (si k++[.int .i64 (k:Nat)])]=_;rw[wR];rfl
  ·simp (disch:=omega) only[ab];exact hM.gb
  ·simp (disch:=omega) only[ab];exact hM.gf
 obtain rfl:k=s.prob.task.cases.length:=by omega
 have gs:=hM.gs;rw[PC.2.2.2.2.2.2.2] at gs;refine wnY (aI @PE @gs) ?_;refine bt (X:=Nat) (λk=>[(1,.ptr nx 10 0),(3,.ptr (nx+3) 12 0),(33,fM s.execs),(34,.int .i64 s.execs.length),(35,.int .i64 k)]) (λk H m=>k<=s.execs.length/\FMem s nx H0 H s.prob.task.cases.length k m) (λk=>s.execs.length-k) 0 ⟨bo _,hM⟩ (by simp (disch:=omega) only[agr,ZG,reduceEqDiff,↓reduceIte,SL,kV]) ?_;clear gs hM hk2 hk;rintro k H m ⟨hk,hM⟩;by_cases hk2:k<s.execs.length
 ·have ix:=ixE hk2;rw[PC.2.2.2.2.2.2.1] at ix;have gf:=hM.gf;have ga:=hM.gb;rw[PC.2.2.2.2.2.2.2] at gf;obtain⟨q1,q2,q3,q4⟩:=hs.eb _ (ao hk2);have hcn:(((s.execs.getD k default).case.toNat:Nat):Int)=(s.execs.getD k default).case:=by omega
  have hkey:=CR (s.execs.getD k default).case.toNat (s.execs.getD k default).word (by omega) q3 q4
  rw[hcn] at hkey;have hst:(s.execs.take (k+1)).map pC=(s.execs.take k).map pC++[pC (s.execs.getD k default)]:=by rw[cT hk2,dv];rfl
  have hnm:pC (s.execs.getD k default)∉(s.execs.take k).map pC:=λhmem=>by
   have h1:=hs.en;rw[<-tH (k+1) s.execs,dv,hst,Bp,Bp] at h1;exact h1.1.2.2 _ hmem _ (fX.2 rfl) rfl
  have hf:=AR hnm;have hle:=hM.le;have hcl:=hs.el;refine wnY (aI @PE @ix) ?_;refine ff _ rfl (λ_ _ h=>h) ?_;simp only[fY,List.map_nil,List.getD_cons_succ,List.getD_cons_zero];refine wnY (zI3 @PE @NKF @gf) ?_;refine dB ?_;refine eM ev0 ev0 hkey (bC (ac (.int _ _) (ac (kr _ _) al))) ?_;refine iq ⟨(λ_ _ h=>h),?_⟩;refine fj ?_;refine pN (b:=nx+2) ev0 (by simp (disch:=omega) only[ab];exact ga) (by((try simp only[bf,ZA,reduceEqDiff,↓reduceIte,reduceAdd,reduceLeDiff]);(try with_reducible rfl));rfl) ev0 rfl hf ?_;refine wnY @PE ?_;refine⟨k+1,by omega,⟨by omega,?_,?_,?_,?_,by omega,λy hy=>by simp (disch:=omega) only[ab];exact hM.fr y hy⟩,by simp (disch:=omega) only[agr,ZG,reduceEqDiff,↓reduceIte,SL]⟩
  ·simp (disch:=omega) only[ab];exact hM.gs
  ·simp (disch:=omega) only[ab];exact hM.ga
  ·simp (disch:=omega) only[ae];rw[hst,dv];show some [AV.omap _ (si k++[.int .i64 (k:Nat)])]=_;rw[wR];rfl
  ·simp (disch:=omega) only[ab];exact hM.gf
 obtain rfl:k=s.execs.length:=by omega
 refine wnY @PE ?_;exact⟨rfl,hM⟩
set_option maxHeartbeats 8000000 in
theorem FU(s:SysV)(hs:FinOk s)(q:List Int)(hq:ba q=0)(e i:Nat)(hI:Img s q e i)(B:Nat)(H0:Hp)(nx:Nat)(hB:B+4<=nx)(hF:FAt s B H0):
    Abs.Fn Tryz.prog 111 [.ptr (B+3) 12 0,aq q,.int .i64 e] H0 nx λr H' nx'=>r=.int .i64 (i:Nat)/\nx<=nx'/\∀y,y<nx->H' y=H0 y:=by
 refine fO Qh ?_;simp only[M6,aw];obtain⟨he,hi,⟨c,j,hc,hj,hcl,hjl,hil,hji⟩,hwr,hwi⟩:=hI;have gf:=hF.gf;rw[PC.2.2.2.2.2.2.2] at gf;have ix:=ixE he;rw[PC.2.2.2.2.2.2.1] at ix;rw[hc] at ix;obtain⟨b1,b2⟩:=hs.cb _ (ao hjl);have hwl:=(hs.eb _ (ao he)).2.2.1;obtain⟨e1,e2,e3,e4⟩:=hs.eb _ (ao hi);have hcl2:=hs.cl;have hpl:=CR j ((s.execs.getD e default).word.map (dq q)) (by omega) (by rw[bj];exact hwl) (by rw[<-hwi];exact e4);obtain⟨m1,m2⟩:=OB hs.cn (i:=j) (by rw[bj];exact hjl) (x:=mH (bH (s.prob.task.cases.getD c default).inp q)) (by rw[md hjl];unfold nR;rw[hji]);obtain⟨p1,p2⟩:=OB hs.en (i:=i) (by rw[bj];exact hi) (x:=CB j ((s.execs.getD e default).word.map (dq q))) (by rw[md hi];unfold pC;rw[hwi,hj,cK]);have f1:=zT m1;rw[m2] at f1;have f2:=zT p1;rw[p2] at f2;have hvc:=xD (s.prob.task.cases.getD c default).inp q hq hil;rw[<-hji] at hvc f1;have hok:=BB _ b1 b2;have ix2:=bK hcl;generalize s.execs.getD e default=X at *;refine wkY (zI5 @PE @gf @NKF @ix @ix2) ?_;refine ff _ rfl (λ_ _ h=>h) ?_;simp only[fY,List.map_nil,List.getD_cons_succ,List.getD_cons_zero];refine wnY (zI3 @PE @NKF @gf) ?_;refine dB ?_;refine eM ev0 ev0 hok (bC (ac (bP _ _) al)) ?_;refine iq ⟨(λ_ _ h=>h),?_⟩;refine fj ?_;refine n9 (b:=B+1) ev0 (by simp (disch:=omega) only[ab];exact hF.ga) (by((try simp only[bf,ZA,reduceEqDiff,↓reduceIte,reduceAdd,reduceLeDiff]);(try with_reducible rfl));rfl) rfl f1 ?_
 have hg1:mget (.int .i64 0) true (some j) (si s.prob.task.cases.length)=.tup [.int .i64 (j:Nat),.bool true]:=by rw[<-A2 hjl];rfl
 rw[hg1];refine wnY (zI3 @PE @NKF @gf) ?_
 refine bt (X:=Nat×AV) (λx=>[(0,.ptr (B+3) 12 0),(1,aq q),(10,.int .i64 (j:Nat)),(12,x.2),(61,bA X.word),(62,.int .i64 X.word.length),(63,.int .i64 x.1)]) (λx H n=>x.1<=X.word.length/\nx<=n/\(∀y,y<nx->H y=H0 y)/\Row H 7 x.2 (cL cJ ((X.word.take x.1).map (dq q)))/\∀c,bk x.2=some c->nx<=c/\c<n) (λx=>X.word.length-x.1) (0,.esl)
  ⟨bo _,by omega,λy hy=>by simp (disch:=omega) only[ab],.nil,λb h=>(by cases h)⟩ (by simp (disch:=omega) only[agr,ZG,reduceEqDiff,↓reduceIte,SL]) ?_
 rintro⟨k,sv⟩ H n ⟨hk,hn,fr,hr1,hb1⟩;dsimp only at hk hr1 hb1 |-;obtain⟨q1,q2⟩:=hr1.one;by_cases hk2:k<X.word.length
 ·have ixr:=ixR hk2;have hm:=Ay q (X.word.getD k default) hq (hwr _ (ao hk2)).e (hwr _ (ao hk2)).n.symm;have htj:(X.word.take (k+1)).map (dq q)=(X.word.take k).map (dq q)++[dq q (X.word.getD k default)]:=by rw[cT hk2,dv];rfl
  have hd:=fV (X.word.getD k default);have hcl:=eu (f:=cJ) (sz:=7) (λ_=>rfl) ((X.word.take k).map (dq q));rw[bj,jg,Nat.min_eq_left hk] at hcl;have hc1:cL cJ [dq q (X.word.getD k default)]=(dq q (X.word.getD k default)).cs:=mG _;generalize dq q (X.word.getD k default)=m' at *;generalize X.word.getD k default=m at *;unfold cJ at hm hd;rw[PC.1] at ixr hd hc1;rw[PC.1,PC.1] at hm;refine wnY (zI4 @PE @q1 @q2 @ixr) ?_;refine ed (k:=1) (sv:=sv) (xv:=.msl (n+2) 7 7 0 1) (cs:=cL cJ ((X.word.take k).map (dq q))) (new:=[.int .i64 m'.n,.int .i64 m'.h0,.int .i64 m'.h1,.int .i64 m'.h2,.int .i64 m'.h3,.int .i64 m'.h4,.int .i64 m'.f]) rfl ev0 (hr1.same λb h=>by have:=hb1 b h;simp (disch:=omega) only[ab]) ev0 (dz rfl) rfl rfl (by omega) (by omega) (by omega) ?_;rintro ro' H3 n3 r1 r2 r3 r4 r5;refine wnY @PE ?_;refine⟨(k+1,ro'),by dsimp only;omega,⟨by dsimp only;omega,by omega,λy hy=>?_,by dsimp only;rw[htj,eR,hc1];exact r1,λb h=>?_⟩,by simp (disch:=omega) only[agr,ZG,reduceEqDiff,↓reduceIte,SL]⟩
  ·rw[r4 y (by omega) (λh=>by have:=hb1 y h;omega)];simp (disch:=omega) only[ab];exact fr y hy
  ·rcases r5 b h with h|h
   ·have:=hb1 b h;omega
   ·omega
 obtain rfl:k=X.word.length:=by omega
 rw[List.take_length] at hr1;have hF':=hF.same hB fr;have gf':=hF'.gf;rw[PC.2.2.2.2.2.2.2] at gf';refine wnY @PE ?_;refine ff _ rfl (λ_ _ h=>h) ?_;simp only[fY,List.map_nil,List.getD_cons_succ,List.getD_cons_zero];refine wnY (zI5 @PE @NKF @gf' @q1 @q2) ?_;refine dB ?_;refine eM ev0 ev0 hpl (bJ (ac (.int _ _) (ac (BZ hr1) al)) rfl) ?_;refine iq ⟨(λ_ _ h=>h),?_⟩;refine fj ?_;refine n9 (b:=B+2) ev0 hF'.gb (by((try simp only[bf,ZA,reduceEqDiff,↓reduceIte,reduceAdd,reduceLeDiff]);(try with_reducible rfl));rfl) rfl f2 ?_;have hg2:mget (.int .i64 0) true (some i) (si s.execs.length)=.tup [.int .i64 (i:Nat),.bool true]:=by rw[<-A2 hi];rfl
 rw[hg2];refine wnY @PE ?_;exact⟨rfl,hn,fr⟩
theorem LC(s:SysV)(hs:FinOk s)(q:List Int)(hq:ba q=0)(im:Nat->Nat)(hI:∀e,e<s.execs.length->Img s q e (im e))(B b1 b2 y:Nat)(H0:Hp)(nx:Nat)(I:Nat->Hp->Nat->Prop)
    (pre:∀k H n,I k H n->FAt s B H/\H b1=some [.ptr (B+3) 12 0]/\H b2=some [aq q]/\B+4<=n)
    (stab:∀k H n H' n',I k H n->n<=n'->(∀y,y<n->H' y=H y)->I k H' n')
    (rnd:∀k H n,I k H n->k<s.execs.length->Yl Tryz.prog y [.int .i64 (k:Nat),.int .i64 (im k:Nat)] H n λr H' n'=>r=.bool true/\I (k+1) H' n')
    (h0:I 0 H0 nx):
    Abs.Fn Tryz.prog 110 [.yld y,.ptr b1 1 0,.ptr b2 1 0] H0 nx λ_ H' nx'=>I s.execs.length H' nx':=by
 refine fO Ow ?_;simp only[Nr,aw];have hel:=hs.el;obtain⟨hF,g1,g2,-⟩:=pre _ _ _ h0;have gf:=hF.gf;rw[PC.2.2.2.2.2.2.2] at gf;refine wnY (zI4 @PE @gf @NKF @g1) ?_;refine bt (X:=Nat) (λk=>[(0,.yld y),(1,.ptr b1 1 0),(2,.ptr b2 1 0),(10,.int .i64 s.execs.length),(11,.int .i64 k)]) (λk H n=>k<=s.execs.length/\I k H n) (λk=>s.execs.length-k) 0 ⟨bo _,h0⟩ (by simp (disch:=omega) only[agr,ZG,reduceEqDiff,↓reduceIte,SL]) ?_;clear h0 hF g1 g2 gf;rintro k H n ⟨hk,hi⟩;by_cases hk2:k<s.execs.length
 rotate_left
 ·obtain rfl:k=s.execs.length:=by omega
  refine wnY @PE ?_;exact hi
 obtain⟨hF,g1,g2,hB⟩:=pre _ _ _ hi;refine wnY (zI3 @PE @g1 @g2) ?_;refine ci ev0 ev0 (FU s hs q hq k (im k) (hI k hk2) B _ _ hB hF) ?_;rintro _ H1 n1 ⟨rfl,hn1,hs1⟩
 skip
 refine tV ev0 ev0 (Yl.mono (rnd k H1 n1 (stab _ _ _ _ _ hi hn1 hs1) hk2) ?_);rintro r H3 n3 ⟨rfl,q⟩;refine wnY @PE ?_;exact⟨k+1,by omega,⟨by omega,q⟩,ag0⟩
theorem LQ(B:Nat)(q:List Int)(H0:Hp)(nx:Nat):Abs.Fn Tryz.prog 67 [.ptr (B+3) 12 0,aq q] H0 nx λr H' nx'=>r=.func 110 [.ptr nx 1 0,.ptr (nx+1) 1 0]/\nx'=nx+2/\H' nx=some [.ptr (B+3) 12 0]/\H' (nx+1)=some [aq q]/\∀y,y<nx->H' y=H0 y:=by
 refine fO R7 ?_;simp only[b67,aw];refine wnY @PE ?_;exact⟨rfl,rfl,by simp (disch:=omega) only[ab,ae],by simp (disch:=omega) only[ae],λy hy=>by simp (disch:=omega) only[ab]⟩
structure IMem(s:SysV)(q:List Int)(im:Nat->Nat)(B:Nat)(c0:AV)(nx:Nat)(H0:Hp)(k:Nat)(H:Hp)(n:Nat):Prop where
 le:nx+6<=n
 gy:H (nx+5)=some [c0]
 fa:FAt s B H
 g1:H (nx+3)=some [.ptr (B+3) 12 0]
 g2:H (nx+4)=some [aq q]
 g4:H nx=some [.esl]
 g5:H (nx+1)=some [.bool false]
 fr:∀y,y<nx->H y=H0 y
 g6:∃sv,H (nx+2)=some [sv]/\Row H 1 sv ((imL im k).map (AV.int .i64))/\∀c,bk sv=some c->nx+6<=c/\c<n
theorem IMem.same{s:SysV}{q:List Int}{im:Nat->Nat}{B:Nat}{c0:AV}{nx:Nat}{H0:Hp}{k:Nat}{H H':Hp}{n n':Nat}(h:IMem s q im B c0 nx H0 k H n)(hB:B+4<=nx)(hn:n<=n')(hs:∀y,y<n->H' y=H y):IMem s q im B c0 nx H0 k H' n':=by
 have le:=h.le;obtain⟨sv,s1,s2,s3⟩:=h.g6;exact⟨by omega,(hs _ (by omega)).trans h.gy,h.fa.same (n:=n) (by omega) hs,(hs _ (by omega)).trans h.g1,(hs _ (by omega)).trans h.g2,(hs _ (by omega)).trans h.g4,(hs _ (by omega)).trans h.g5,λy hy=>(hs y (by omega)).trans (h.fr y hy),sv,(hs _ (by omega)).trans s1,s2.same λc hc=>hs c (s3 c hc).2,λc hc=>by have:=s3 c hc;omega⟩
theorem Am(s:SysV)(hs:FinOk s)(q:List Int)(hq:ba q=0)(im:Nat->Nat)(hI:∀e,e<s.execs.length->Img s q e (im e))(B:Nat)(H0:Hp)(nx:Nat)(hB:B+4<=nx)(hF:FAt s B H0):
    Abs.Fn Tryz.prog 30 [.ptr (B+3) 12 0,aq q] H0 nx λr H' nx'=>∃sv,r=.tup [sv,.bool true]/\Row H' 1 sv ((imL im s.execs.length).map (AV.int .i64))/\(∀c,bk sv=some c->nx<=c/\c<nx')/\nx<=nx'/\∀y,y<nx->H' y=H0 y:=by
 refine fO RN ?_;simp only[b30,aw];have hel:=hs.el;refine wnY @PE ?_;refine ci ev0 ev0 (LQ B q _ _) ?_;rintro _ H1 n1 ⟨rfl,rfl,k1,k2,k3⟩;refine wnY @PE ?_;refine kw (nx+1+1+1+2) (nx+1+1+1+2+1) rfl rfl ev0 (λc0 cj hy=>?_);refine Abs.Fn.mono (LC s hs q hq im hI B (nx+3) (nx+4) (nx+5) _ _ (IMem s q im B c0 nx H0) (λk H n h=>⟨h.fa,h.g1,h.g2,by have:=h.le;omega⟩) (λk H n H' n' h h1 h2=>h.same hB h1 h2) (λk H n h hk=>?_) ?_) ?_
 ·obtain⟨le,gy,fa,g1,g2,g4,g5,fr,sv,g6,row,rb⟩:=h;refine hy _ _ _ _ gy rfl ?_;clear hy;have hnn:decide (((im k:Nat):Int)<0)=false:=bR (by omega);obtain⟨o1,o2⟩:=row.one;refine wnY @PE ?_;refine⟨gy,?_⟩;have hlk:((imL im k).map (AV.int .i64)).length=k:=by rw[bj,yT]
  refine wnY (zI5 @PE @hnn @g6 @o1 @o2) ?_;refine ed rfl ev0 (row.same λz hz=>?_) ev0 xx rfl rfl ji (by rw[hlk];omega) (by rw[hlk];omega) ?_
  ·have:=rb z hz;simp (disch:=omega) only[bQ,ab]
  rintro s2 E e hrw hle1 hle2 hsm hb2;obtain⟨p1,p2⟩:=hrw.one
  have hE:∀y,y<n->y≠nx+5->bk sv≠some y->E y=H y:=λy h1 h2 h3=>by
   rw[hsm y (by omega) h3];simp (disch:=omega) only[bQ,ab]
  have e6:E (nx+2)=some [sv]:=by rw[hE _ (by omega) (by omega) (λh=>by have:=rb _ h;omega)];exact g6
  refine wnY (zI4 @PE @e6 @p1 @p2) ?_
  have hw:∀y,y<n->y≠nx+5->y≠nx+2->bk sv≠some y->(av (av E (nx+2) [s2]) (nx+5) [c0]) y=H y:=λy h1 h2 h3 h4=>by
   rw[ab h2,ab h3];exact hE y h1 h2 h4
  have nr:∀y,y<nx+6->bk sv≠some y:=λy hy h=>by have:=rb _ h;omega
  refine⟨rfl,by omega,ae,fa.same (n:=nx) hB (λy hy=>hw y (by omega) (by omega) (by omega) (nr _ (by omega))),(hw _ (by omega) (by omega) (by omega) (nr _ (by omega))).trans g1,(hw _ (by omega) (by omega) (by omega) (nr _ (by omega))).trans g2,(hw _ (by omega) (by omega) (by omega) (nr _ (by omega))).trans g4,(hw _ (by omega) (by omega) (by omega) (nr _ (by omega))).trans g5,λy hy=>(hw _ (by omega) (by omega) (by omega) (nr _ (by omega))).trans (fr y hy),s2,?_,?_,λc hc=>?_⟩
  ·rw[ab (by omega)];exact ae
  ·rw[Gp,dv];refine hrw.same λc hc=>?_
   have:n<=c\/(nx+6<=c/\c<n):=by
    rcases hb2 c hc with h|h
    ·exact .inr (rb c h)
    ·exact .inl (by omega)
   simp (disch:=omega) only[ab]
  ·rcases hb2 c hc with h|h
   ·have:=rb c h;omega
   ·omega
 ·have hz:∀y,y<nx->H1 y=H0 y:=λy hy=>by rw[k3 y (by omega)];simp (disch:=omega) only[ab]
  refine⟨by omega,ae,hF.same hB (λy hy=>by rw[ab (by omega)];exact hz y hy),by rw[ab (by omega)];exact k1,by rw[ab (by omega)];exact k2,?_,?_,λy hy=>by rw[ab (by omega)];exact hz y hy,.esl,?_,Row.nil,λc h=>(by cases h)⟩
  ·rw[ab (by omega),k3 _ (by omega)];simp (disch:=omega) only[ab,ae]
  ·rw[ab (by omega),k3 _ (by omega)];simp (disch:=omega) only[ab,ae]
  ·rw[ab (by omega),k3 _ (by omega)];simp (disch:=omega) only[ae]
 ·rintro _ H' n' ⟨le,gy,fa,g1,g2,g4,g5,fr,sv,g6,row,rb⟩;refine .inl ⟨gy,?_⟩;obtain⟨o1,o2⟩:=row.one;refine wnY (zI6 @PE @g4 @g5 @g6 @o1 @o2) ?_;refine⟨sv,rfl,row.same λc hc=>?_,λc hc=>by have:=rb c hc;omega,by omega,λy hy=>?_⟩
  ·have:=rb c hc;simp (disch:=omega) only[bQ,ab]
  ·simp (disch:=omega) only[bQ,ab];exact fr y hy
theorem Kk(s:SysV)(hs:FinOk s)(q:List Int)(hq:ba q=0)(im:Nat->Nat)(hI:∀e,e<s.execs.length->Img s q e (im e))(hat:pU 28 [gn s,aq q] (.int .i64 0)):
    pU 10 [gn s,aq q] (.tup [aq (imL im s.execs.length),.int .i64 0]):=by
 refine pO RR ?_;simp only[b10,aw];have hd:=gJ s;have hf:=λH nx=>A7 s hs H nx;unfold gn at *;rw[PC.2.2.2.2.2.2.2] at *;refine wnZ @PE ?_;refine ci ev0 ev0 (hf _ _) ?_;rintro _ H1 n1 ⟨rfl,hM⟩;refine wnY @PE ?_;refine ci ev0 ev0 (Am s hs q hq im hI (0+1) H1 n1 hM.le hM.at) ?_;rintro _ H2 n2 ⟨sv,rfl,row,-⟩;obtain⟨o1,o2⟩:=row.one;refine wnY (zI3 @PE @o1 @o2) ?_;exact bG (ac row.snapI (ac (.int _ _) al))
theorem J8(p:PrbV)(h:OkP p)(q:List Int)(hq:SymOk p q):pU 10 [gn (bg p),aq q] (.tup [aq (imL (ij p q) (bg p).execs.length),.int .i64 0]):=
 Kk (bg p) (GN h) q hq.pm (ij p q) (λ_ he=>FZ h hq he) (QF p h q hq.pm hq.ln)
end
end Go.Proofs.YtbmjaojeplmhnaaGreat
namespace Go.Proofs.YtbmjaojeplmhnaaGreat
open Go Go.Abs
def wtI(L:List Int):Nat:=(L.map Int.toNat).sum
theorem B1:∀{L:List Int}{k:Nat},k<L.length->∀v:Int,wtI (L.set k v)+(L.getD k default).toNat=wtI L+v.toNat
 |x::L,0,_,v=>by
  show(v.toNat+(L.map Int.toNat).sum)+x.toNat=(x.toNat+(L.map Int.toNat).sum)+v.toNat;omega
 |x::L,k+1,h,v=>by
  have:=B1 (L:=L) (k:=k) (by simp at h;omega) v;show(x.toNat+wtI (L.set k v))+(L.getD k default).toNat=(x.toNat+wtI L)+v.toNat;omega
def HI(L:List Int)(e i:Nat):List Int:=(L.set e (min (L.getD e default) (L.getD i default))).set i (min (L.getD e default) (L.getD i default))
structure LOk{α:Type}(G:List α)(act:α->Nat->Nat)(M:Nat)(L:List Int):Prop where
 ln:L.length=M
 ob:∀e,e<M->∃f:Nat,L.getD e default=f/\f<=e/\Orb G act e f
theorem wo{L:List Int}{k j:Nat}{v:Int}(hk:k<L.length):(L.set k v).getD j default=if j=k then v else L.getD j default:=by
 by_cases e:j=k
 ·subst e;simp[List.getD,hk]
 ·rw[if_neg e];simp[List.getD,List.getElem?_set,Ne.symm e]
variable{α:Type}{G:List α}{act:α->Nat->Nat}{M:Nat}
theorem IT[DecidableEq α](h:GAct G act M){L:List Int}(hL:LOk G act M L){e i:Nat}(he:e<M)(hi:i<M)(ho:Orb G act e i):LOk G act M (HI L e i):=by
 have hl:=hL.ln;obtain⟨a,a1,a2,a3⟩:=hL.ob e he;obtain⟨b,b1,b2,b3⟩:=hL.ob i hi
 have hx:∃f:Nat,min (L.getD e default) (L.getD i default)=f/\f<=e/\f<=i/\Orb G act e f:=by
  rw[a1,b1];by_cases q:(a:Int)<=b
  ·exact⟨a,by omega,a2,by omega,a3⟩
  ·exact⟨b,by omega,by omega,b2,h.trans he ho b3⟩
 obtain⟨f,f1,f2,f2',f3⟩:=hx;unfold HI;rw[f1];refine⟨by rw[List.length_set,List.length_set];exact hl,λj hj=>?_⟩;rw[wo (by rw[List.length_set];omega),wo (by omega)];by_cases q:j=i
 ·rw[if_pos q,q];exact⟨f,rfl,f2',h.trans hi (h.symm he ho) f3⟩
 ·rw[if_neg q];by_cases q2:j=e
  ·rw[if_pos q2,q2];exact⟨f,rfl,f2,f3⟩
  ·rw[if_neg q2];exact hL.ob j hj
theorem Iu{L:List Int}(hL:LOk G act M L){e i:Nat}(he:e<M)(hi:i<M)(hne:L.getD e default≠L.getD i default):wtI (HI L e i)<wtI L:=by
 have hl:=hL.ln;obtain⟨a,a1,-⟩:=hL.ob e he;obtain⟨b,b1,-⟩:=hL.ob i hi;have hei:e≠i:=λq=>hne (by rw[q]);have h1:=B1 (L:=L) (k:=e) (by omega) (min (L.getD e default) (L.getD i default));have h2:=B1 (L:=L.set e (min (L.getD e default) (L.getD i default))) (k:=i) (by rw[List.length_set];omega) (min (L.getD e default) (L.getD i default));rw[wo (by omega),if_neg (Ne.symm hei)] at h2;unfold HI;generalize hm:min (L.getD e default) (L.getD i default)=m at *;rw[a1] at h1;rw[b1] at h2;rw[a1,b1] at hm hne;omega
structure LFin(G:List α)(act:α->Nat->Nat)(M:Nat)(L:List Int):Prop where
 ok:LOk G act M L
 co:∀g∈G,∀e,e<M->L.getD e default=L.getD (act g e) default
def lst(L:List Int)(e:Nat):Nat:=(L.getD e default).toNat
theorem LFin.get{L:List Int}(h:LFin G act M L){e:Nat}(he:e<M):L.getD e default=((lst L e:Nat):Int):=by
 obtain⟨f,h1,-⟩:=h.ok.ob e he;unfold lst;omega
theorem LFin.orb{L:List Int}(h:LFin G act M L){e:Nat}(he:e<M):Orb G act e (lst L e):=by
 obtain⟨f,h1,-,h2⟩:=h.ok.ob e he;rw[show lst L e=f by unfold lst;omega];exact h2
theorem LFin.eq{L:List Int}(h:LFin G act M L){e f:Nat}(he:e<M)(ho:Orb G act e f):lst L e=lst L f:=by
 obtain⟨g,hg,rfl⟩:=ho;unfold lst;rw[h.co g hg e he]
theorem LFin.lt[DecidableEq α]{L:List Int}(hG:GAct G act M)(h:LFin G act M L){e:Nat}(he:e<M):lst L e<M:=hG.olt he (h.orb he)
theorem LFin.idem[DecidableEq α]{L:List Int}(hG:GAct G act M)(h:LFin G act M L){e:Nat}(he:e<M):lst L (lst L e)=lst L e:=(h.eq he (h.orb he)).symm
theorem LFin.le{L:List Int}(h:LFin G act M L){e:Nat}(he:e<M):lst L e<=e:=by
 obtain⟨f,h1,h2,-⟩:=h.ok.ob e he;unfold lst;omega
theorem LFin.uniq[DecidableEq α]{L K:List Int}(hG:GAct G act M)(h:LFin G act M L)(k:LFin G act M K):L=K:=by
 refine List.ext_getElem (h.ok.ln.trans k.ok.ln.symm) λe h1 h2=>?_;have he:e<M:=by have:=h.ok.ln;omega
 have a:=h.get he;have b:=k.get he
 have c:lst L e<=lst K e:=by
  rw[h.eq he (k.orb he)];exact h.le (k.lt hG he)
 have d:lst K e<=lst L e:=by
  rw[k.eq he (h.orb he)];exact k.le (h.lt hG he)
 simp only[List.getD,h1,h2,mB,tw] at a b;omega
noncomputable def BG(G:List α)(act:α->Nat->Nat)(M:Nat):List Int:=@dite _ (∃L,LFin G act M L) (Classical.propDecidable _) (λh=>h.choose) λ_=>[]
theorem LFin.is[DecidableEq α]{L:List Int}(hG:GAct G act M)(h:LFin G act M L):BG G act M=L:=by
 unfold BG;have hx:∃L,LFin G act M L:=⟨L,h⟩
 rw[dif_pos hx];exact hx.choose_spec.uniq hG h
end Go.Proofs.YtbmjaojeplmhnaaGreat
namespace Go.Proofs.YtbmjaojeplmhnaaGreat
open Go Go.Abs
open Nat (reduceEqDiff reduceAdd reduceLeDiff)
theorem y4{H:Hp}{t x:AV}{cs:List AV}{l:List Int}(hrow:Row H 1 t (cs++[x]))(hx:Row H 1 x (l.map (AV.int .i64)))(hne:∀b,bk x=some b->bk t≠some b):∃Hf H',Fz Hf H H'/\Row H' 1 t (cs++[aq l])/\∀y,bk x≠some y->bk t≠some y->H' y=H y:=by
 generalize hds:l.map (AV.int .i64)=ds at hx;cases hx with
 |nil=>
  have hl:l=[]:=List.map_eq_nil_iff.1 hds;generalize hcs:cs++[AV.esl]=es at hrow;cases hrow with
  |nil=>exact absurd (congrArg List.length hcs) (by simp)
  |box b len es g1 g2=>
   refine⟨aQ,av H b (cs++[aq l]),⟨λy d h=>(by cases h),λy d h=>?_⟩,Row.box b len _ ae (by rw[<-g2,<-hcs];simp),λy h1 h2=>?_⟩
   ·by_cases e:y=b
    ·subst e;rw[ae] at h;cases h;exact⟨es,g1,rfl,by rw[<-hcs];exact d7.snoc (by rw[hl];exact .eslsl 1)⟩
    ·rw[ab e] at h;exact⟨d,h,rfl,d7.refl _ _⟩
   ·rw[ab (λe=>h2 (by rw[e];rfl))]
 |box b len ds g1 g2=>
  obtain⟨H',h1,h2,h3⟩:=nY (x':=aq l) hrow g1 (Row.snapI (by rw[hds];exact Row.box b len ds ez g2)) (hne b rfl);exact⟨_,H',h1,h2,λy y1 y2=>h3 y (λe=>y1 (by rw[e];rfl)) y2⟩
theorem HY{H:Hp}{mv:AV}{l:List (List Int)}(h:Row H 1 mv (l.map aq)):∃Hf H',Fz Hf H H'/\Snap Hf mv (ay l)/\∀y,bk mv≠some y->H' y=H y:=by
 generalize hds:l.map aq=ds at h;cases h with
 |nil=>exact⟨aQ,H,Fz.none,(show Row aQ 1 .esl (l.map aq) by rw[hds];exact Row.nil).snapL' (λ_=>rfl) (λx _=>bP x),λ_ _=>rfl⟩
 |box b len ds g1 g2=>
  exact⟨_,_,Fz.one g1,(show Row (only b ds) 1 _ (l.map aq) by rw[hds];exact Row.box b len ds ez g2).snapL' (λ_=>rfl) (λx _=>bP x),λy hy=>bQ (λe=>hy (by rw[e];rfl))⟩
def idT(M k:Nat):List Int:=(List.range M).map λe=>if e<k then(e:Int) else 0
theorem yX(M k:Nat):(idT M k).length=M:=by simp[idT]
theorem Kd{M k:Nat}(h:k<M):(idT M k).set k (k:Int)=idT M (k+1):=by
 refine List.ext_getElem (by simp[idT]) λi i1 i2=>?_;rw[List.length_set,yX] at i1;rw[List.getElem_set];simp only[idT,List.getElem_map,List.getElem_range];by_cases q:k=i
 ·subst q;rw[if_pos rfl,if_pos (by omega)]
 ·rw[if_neg q];by_cases q2:i<k
  ·rw[if_pos q2,if_pos (by omega)]
  ·rw[if_neg q2,if_neg (by omega)]
theorem Kb{M e:Nat}(h:e<M):(idT M M).getD e default=(e:Int):=by simp[idT,List.getD,h]
theorem zcM(M:Nat):bc (.agg [.int .i64 0]) M=(idT M 0).map (AV.int .i64):=by
 refine List.ext_getElem (by simp[bc,idT,AV.cells]) λi h1 h2=>?_;simp[bc,idT,AV.cells]
theorem Dl{l:List (List Int)}{k:Nat}(h:k<l.length):d9 1 (ay l) (.int .i64 (k:Int))=some (.iptr [aq (l.getD k default)] 0):=by
 rw[vT,if_pos ⟨by omega,by omega⟩,cK]
structure OrbIn(s:SysV)(l:List (List Int))(act:List Int->Nat->Nat):Prop where
 fo:FinOk s
 ga:GAct l act s.execs.length
 pm:∀q∈l,ba q=0/\(q.length:Int)=s.tn
 im:∀q∈l,∀e,e<s.execs.length->Img s q e (act q e)
 ll:l.length<=1024
 m1:1<=s.execs.length
 n3:1<=s.tn/\s.tn<=3
 ve:pU 63 [gn s] (.int .i64 0)
def ww(L:List Int)(M:Nat):List Int:=((List.range M).filter λe=>decide (lst L e=e)).map λ(e:Nat)=>(e:Int)
theorem F4(L:List Int)(M:Nat):(ww L M).Pairwise (· < ·):=by
 unfold ww;rw[List.pairwise_map];exact(List.Pairwise.filter _ List.pairwise_lt_range).imp (λh=>Int.ofNat_lt.2 h)
theorem Lj{α:Type}[DecidableEq α]{G:List α}{act:α->Nat->Nat}{M:Nat}{L K:List Int}(hG:GAct G act M)(hL:LFin G act M L)(hp:K.Perm L)(hs:K.Pairwise (· <= ·)):dd K K.length=ww L M:=by
 refine BX (HZ (λi j h1 h2=>?_) (bd _)) (F4 L M) (λx=>?_)
 ·have:=nu.1 hs i j (by omega) h2 h1;simpa[List.getD,h2,show i<K.length by omega] using this
 ·rw[Cb (bd _)]
  have e:(∃j,j<K.length/\K.getD j default=x)↔x∈K:=by
   constructor
   ·rintro⟨j,h1,rfl⟩;exact ao h1
   ·intro h;obtain⟨j,hj,rfl⟩:=fS h;exact⟨j,hj,by simp[List.getD,hj]⟩
  rw[e,hp.mem_iff];unfold ww;rw[cC];constructor
  ·intro hx;obtain⟨j,hj,e⟩:=fS hx;have hjM:j<M:=by have:=hL.ok.ln;omega
   refine⟨lst L j,?_,?_⟩
   ·rw[kW,gI,iC];exact⟨hL.lt hG hjM,hL.idem hG hjM⟩
   ·rw[<-e,<-hL.get hjM];simp[List.getD,hj]
  ·rintro⟨v,hv,rfl⟩;rw[kW,gI,iC] at hv;have:=hL.get hv.1;rw[hv.2] at this;rw[<-this];exact ao (by have:=hL.ok.ln;omega)
section
attribute [local irreducible] aF ai bh aY aO aM ax aS a7 bm Go.Abs.Fn aX Go.Abs.Pure ap aJ Yl
set_option maxHeartbeats 16000000 in
theorem Il(s:SysV)(hs:FinOk s)(l:List (List Int))(act:List Int->Nat->Nat)(hG:GAct l act s.execs.length)(hl:∀q∈l,ba q=0/\(q.length:Int)=s.tn)(hI:∀q∈l,∀e,e<s.execs.length->Img s q e (act q e))
    (hll:l.length<=1024) (hM:1<=s.execs.length) (hn:1<=s.tn/\s.tn<=3) (hv:pU 63 [gn s] (.int .i64 0)) (H0:Hp) (nx:Nat):
    Abs.Fn Tryz.prog 31 [gn s,ay l] H0 nx λr H' nx'=>∃b L,r=.tup [.msl b s.execs.length 1 0 s.execs.length,.int .i64 0]/\H' b=some (L.map (AV.int .i64))/\LFin l act s.execs.length L/\nx<=b/\b<nx'/\∀y,y<nx->H' y=H0 y:=by
 refine fO Sc ?_;simp only[b31,aw];have hd:=gJ s;have hf:=λH nx=>A7 s hs H nx;have hg:=λH nx=>PQ l s.tn.toNat (by omega) (by omega) (λg hgm=>⟨(hl g hgm).1,by have:=(hl g hgm).2;omega⟩) hll H nx;rw[show((s.tn.toNat:Nat):Int)=s.tn by omega] at hg;have hel:=hs.el;unfold gn at *;rw[PC.2.2.2.2.2.2.2] at *;refine wnY @PE ?_;refine ci ev0 ev0 (hg _ _) ?_;rintro _ H1 n1 ⟨hn1,fr1,wv,rfl⟩;have k0:H1 nx=some [.int .i64 s.prob.task.n,.int .i64 s.prob.task.ins,.int .i64 s.prob.task.outs,bu s.prob.task.cases,.int .i64 s.prob.adv.n,aN s.prob.adv.states,.int .i64 s.prob.rounds,.int .i64 s.tn,de s.views,fM s.execs]:=by rw[fr1 _ (by omega)];exact ae
 have fr2:∀y,y<nx->H1 y=H0 y:=λy hy=>by rw[fr1 y (by omega)];exact ab (by omega)
 clear fr1;refine wnY (aI @PE @k0) ?_;refine ci ev0 ev0 (hf _ _) ?_;rintro _ H2 n2 ⟨rfl,hF⟩;have hle2:=hF.le;have k2:=(hF.fr nx (by omega)).trans k0;have fr3:∀y,y<nx->H2 y=H0 y:=λy hy=>(hF.fr y (by omega)).trans (fr2 y hy);have hA:=hF.at
 clear fr2 k0 hF hv hf hg;refine wnY (aI @PE @k2) ?_;refine nj rfl ev0 ev0 (by omega) (by omega) (by omega) (by omega) ?_;rw[cK,zcM];refine wnY @PE ?_;have hMs:s.execs.length=s.execs.length:=rfl;refine bt (X:=Nat) (λk=>[(1,ay l),(9,.ptr (n1+3) 12 0),(10,.msl n2 s.execs.length 1 0 s.execs.length),(46,.int .i64 s.execs.length),(47,.int .i64 k)]) (λk H n=>k<=s.execs.length/\n=n2+1/\(∀y,y<n2->H y=H2 y)/\H n2=some ((idT s.execs.length k).map (AV.int .i64))) (λk=>s.execs.length-k) 0 ⟨bo _,rfl,λy hy=>ab (by omega),ae⟩ (by simp (disch:=omega) only[agr,ZG,reduceEqDiff,↓reduceIte,SL,Nat.mul_one]) ?_;rintro k H n ⟨hk,rfl,fr,gb⟩;by_cases hk2:k<s.execs.length
 ·have hidl:=yX s.execs.length k;have hlm:=gd (f:=AV.int .i64) (l:=idT s.execs.length k) (k:=k) (x:=(k:Int)) (by omega);rw[Kd hk2] at hlm;refine wnY (aI @PE @gb) ?_;refine⟨k+1,by omega,⟨by omega,rfl,λy hy=>by rw[ab (by omega)];exact fr y hy,by rw[ae,hlm]⟩,by simp (disch:=omega) only[agr,ZG,reduceEqDiff,↓reduceIte,SL]⟩
 obtain rfl:k=s.execs.length:=by omega
 refine wnY (aI @PE @gb) ?_
 refine pJ (X:=Nat×AV) (λx=>[(9,.ptr (n1+3) 12 0),(10,.msl n2 s.execs.length 1 0 s.execs.length),(12,x.2),(55,ay l),(56,.int .i64 l.length),(57,.int .i64 x.1)]) (λx H n=>x.1<=l.length/\n2+1<=n/\(∀y,y<n2->H y=H2 y)/\H n2=some ((idT s.execs.length s.execs.length).map (AV.int .i64))/\Row H 1 x.2 (((l.take x.1).map λq=>imL (act q) s.execs.length).map aq)/\∀c,bk x.2=some c->n2+1<=c/\c<n) (λx=>l.length-x.1) (0,.esl)
  ⟨aQ,_,Fz.none,⟨bo _,bd _,fr,gb,.nil,λb h=>(by cases h)⟩,eT (by simp (disch:=omega) only[agr,ZG,reduceEqDiff,↓reduceIte,SL])⟩ ?_
 clear fr gb;rintro⟨j,mv⟩ H n ⟨hj,hnn,fr,gb,row,rb⟩;dsimp only at hj row rb |-;obtain⟨o1,o2⟩:=row.one;have hjl:(((l.take j).map λq=>imL (act q) s.execs.length).map aq).length=j:=by rw[bj,bj,jg];omega
 by_cases hj2:j<l.length
 ·have ix:=Dl hj2;have hm:=ao hj2
  have htk:((l.take (j+1)).map λq=>imL (act q) s.execs.length).map aq=(((l.take j).map λq=>imL (act q) s.execs.length).map aq)++[aq (imL (act (l.getD j default)) s.execs.length)]:=by
   rw[cT hj2,dv,dv];rfl
  have him:=Am s hs (l.getD j default) (hl _ hm).1 (act (l.getD j default)) (hI _ hm) n1 H n (by omega) (hA.same hle2 fr);generalize l.getD j default=q at *;refine wnY (zI4 @PE @o1 @o2 @ix) ?_;refine ci ev0 ev0 him ?_;rintro _ H3 n3 ⟨sv,rfl,rowS,rbS,hn3,fr3'⟩;obtain⟨p1,p2⟩:=rowS.one;refine wnY (zI5 @PE @o1 @o2 @p1 @p2) ?_;refine ed (k:=1) (sv:=mv) (xv:=.msl n3 1 1 0 1) (cs:=((l.take j).map λq=>imL (act q) s.execs.length).map aq) (new:=[sv]) rfl ev0 (row.same λb h=>by have:=rb b h;rw[ab (by omega),fr3' b (by omega)]) ev0 (dz rfl) (by simp[AV.ones,p1]) rfl (by omega) (by rw[hjl];omega) (by rw[hjl];omega) ?_;rintro mv' H4 n4 r1 r2 r3 r4 r5
  have hS4:Row H4 1 sv ((imL (act q) s.execs.length).map (AV.int .i64)):=rowS.same λc hc=>by
   have:=rbS c hc;rw[r4 c (by omega) (λh=>by have:=rb c h;omega),ab (by omega)]
  have h4:∀y,y<n2+1->H4 y=H y:=λy hy=>by
   rw[r4 y (by omega) (λh=>by have:=rb y h;omega),ab (by omega),fr3' y (by omega)]
  have rb4:∀b,bk mv'=some b->n2+1<=b/\b<n4/\(b<n\/n3<=b):=λb h=>by
   rcases r5 b h with h|h
   ·have:=rb b h;omega
   ·omega
  obtain⟨Hf,H5,hfz,hr5,hs5⟩:=y4 r1 hS4 (λb hb h=>by have:=rbS b hb;have:=rb4 b h;omega)
  have h5:∀y,y<n2+1->H5 y=H y:=λy hy=>by
   rw[hs5 y (λh=>by have:=rbS y h;omega) (λh=>by have:=rb4 y h;omega)];exact h4 y hy
  refine wnY @PE ?_;refine⟨(j+1,mv'),by dsimp only;omega,Hf,H5,hfz,⟨by dsimp only;omega,by omega,λy hy=>(h5 y (by omega)).trans (fr y hy),(h5 n2 (by omega)).trans gb,by dsimp only;rw[htk];exact hr5,λb h=>by have:=rb4 b h;omega⟩,eT (by simp (disch:=omega) only[agr,ZG,reduceEqDiff,↓reduceIte,SL])⟩
 obtain rfl:j=l.length:=by omega
 rw[List.take_length] at row;obtain⟨Hf,H5,hfz,hsn,hs5⟩:=HY row;refine wnY (zI3 @PE @o1 @o2) ?_
 refine pJ (X:=List Int×Bool) (λx=>[(10,.msl n2 s.execs.length 1 0 s.execs.length),(12,ay (l.map λq=>imL (act q) s.execs.length)),(17,.bool x.2)]) (λx H n=>LOk l act s.execs.length x.1/\n2+1<=n/\(∀y,y<n2->H y=H2 y)/\H n2=some (x.1.map (AV.int .i64))/\(x.2=false->∀g∈l,∀e,e<s.execs.length->x.1.getD e default=x.1.getD (act g e) default)) (λx=>2*wtI x.1+x.2.toNat) (idT s.execs.length s.execs.length,true)
  ⟨Hf,H5,hfz,⟨⟨yX _ _,λe he=>⟨e,Kb he,bd _,hG.refl he⟩⟩,hnn,λy hy=>(hs5 y (λh=>by have:=rb y h;omega)).trans (fr y hy),(hs5 n2 (λh=>by have:=rb n2 h;omega)).trans gb,λh=>by cases h⟩,⟨.inl (have zz:=@SL;evZ),.inr ?_,.inl (have zz:=@SL;evZ),trivial⟩⟩ ?_
 ·have e:∀x,x=mv->Snap Hf x (ay (l.map λq=>imL (act q) s.execs.length)):=λx hx=>by rw[hx];exact hsn
  exact e _ (have zz:=@SL;evZ)
 clear row rb o1 o2 hfz hsn hs5 gb fr hjl;rintro⟨L,ch⟩ H n ⟨hL,hnn,fr,gb,hch⟩;dsimp only at hL gb hch |-;cases ch with
 |false=>
  refine wnY @PE ?_;exact⟨n2,L,rfl,gb,⟨hL,hch rfl⟩,by omega,by omega,λy hy=>(fr y (by omega)).trans (fr3 y hy)⟩
 |true=>
  refine wnY @PE ?_
  refine bt (X:=Nat×List Int×Bool) (λx=>[(10,.msl n2 s.execs.length 1 0 s.execs.length),(12,ay (l.map λq=>imL (act q) s.execs.length)),(17,.bool x.2.2),(75,ay (l.map λq=>imL (act q) s.execs.length)),(76,.int .i64 l.length),(77,.int .i64 x.1)])
   (λx H n=>x.1<=l.length/\LOk l act s.execs.length x.2.1/\n2+1<=n/\(∀y,y<n2->H y=H2 y)/\H n2=some (x.2.1.map (AV.int .i64))/\(x.2.2=false->x.2.1=L/\∀g∈l.take x.1,∀e,e<s.execs.length->L.getD e default=L.getD (act g e) default)/\(x.2.2=true->wtI x.2.1<wtI L)) (λx=>l.length-x.1) (0,L,false) ⟨bo _,hL,hnn,fr,gb,λ_=>⟨rfl,λg hg=>by cases hg⟩,λh=>by cases h⟩ (by simp (disch:=omega) only[agr,ZG,reduceEqDiff,↓reduceIte,SL]) ?_
  clear fr gb hnn;rintro⟨k,L1,c1⟩ H n ⟨hk,hL1,hnn,fr,gb,hf1,ht1⟩;dsimp only at hk hL1 gb hf1 ht1 |-;by_cases hk2:k<l.length
  rotate_left
  ·obtain rfl:k=l.length:=by omega
   rw[List.take_length] at hf1;refine wnY @PE ?_;refine⟨(L1,c1),?_,aQ,_,Fz.none,⟨hL1,hnn,fr,gb,λh=>?_⟩,eT (by simp (disch:=omega) only[agr,ZG,reduceEqDiff,↓reduceIte,SL])⟩
   ·dsimp only;cases c1 with
    |false=>rw[(hf1 rfl).1];show 2*wtI L+0<2*wtI L+1;omega
    |true=>have:=ht1 rfl;show 2*wtI L1+1<2*wtI L+1;omega
   ·obtain⟨h1,h2⟩:=hf1 h;dsimp only;rw[h1];exact h2
  have ix:=Dl (l:=l.map λq=>imL (act q) s.execs.length) (k:=k) (by rw[bj];exact hk2);rw[md hk2] at ix;have hm:=ao hk2;have hst:l.take (k+1)=l.take k++[l.getD k default]:=cT hk2;generalize l.getD k default=q at *;have hil:=yT (act q) s.execs.length;refine wnY (aI @PE @ix) ?_
  refine bt (X:=Nat×List Int×Bool) (λx=>[(10,.msl n2 s.execs.length 1 0 s.execs.length),(12,ay (l.map λq=>imL (act q) s.execs.length)),(17,.bool x.2.2),(75,ay (l.map λq=>imL (act q) s.execs.length)),(76,.int .i64 l.length),(77,.int .i64 k),(81,aq (imL (act q) s.execs.length)),(82,.int .i64 s.execs.length),(83,.int .i64 x.1)])
   (λx H n=>x.1<=s.execs.length/\LOk l act s.execs.length x.2.1/\n2+1<=n/\(∀y,y<n2->H y=H2 y)/\H n2=some (x.2.1.map (AV.int .i64))/\(x.2.2=false->x.2.1=L/\(∀g∈l.take k,∀e,e<s.execs.length->L.getD e default=L.getD (act g e) default)/\∀e,e<x.1->L.getD e default=L.getD (act q e) default)/\(x.2.2=true->wtI x.2.1<wtI L)) (λx=>s.execs.length-x.1) (0,L1,c1) ⟨bo _,hL1,hnn,fr,gb,λh=>⟨(hf1 h).1,(hf1 h).2,λe he=>by omega⟩,ht1⟩ (by simp (disch:=omega) only[agr,ZG,reduceEqDiff,↓reduceIte,SL,hil]) ?_
  clear fr gb hnn hf1 ht1 hL1;rintro⟨e,L2,c2⟩ H n ⟨he,hL2,hnn,fr,gb,hf2,ht2⟩;dsimp only at he hL2 gb hf2 ht2 |-;by_cases he2:e<s.execs.length
  rotate_left
  ·obtain rfl:e=s.execs.length:=by omega
   refine wnY @PE ?_;refine⟨(k+1,L2,c2),by dsimp only;omega,⟨by dsimp only;omega,hL2,hnn,fr,gb,λh=>?_,ht2⟩,by simp (disch:=omega) only[agr,ZG,reduceEqDiff,↓reduceIte,SL]⟩;obtain⟨h1,h2,h3⟩:=hf2 h;refine⟨h1,λg hg=>?_⟩;dsimp only at hg;rw[hst] at hg;rcases mL.1 hg with hg|hg
   ·exact h2 g hg
   ·rw[fX.1 hg];exact h3
  have hie:=zB (im:=act q) he2;have hlt:=hG.lt q hm e he2;have hl2:=hL2.ln;have hlm1:=gd (f:=AV.int .i64) (l:=L2) (k:=e) (x:=min (L2.getD e default) (L2.getD (act q e) default)) (by omega);have hlm2:=gd (f:=AV.int .i64) (l:=L2.set e (min (L2.getD e default) (L2.getD (act q e) default))) (k:=act q e) (x:=min (L2.getD e default) (L2.getD (act q e) default)) (by rw[List.length_set];omega);have hls:(L2.set e (min (L2.getD e default) (L2.getD (act q e) default))).length=s.execs.length:=by rw[List.length_set];exact hl2
  have hok:=IT hG hL2 he2 hlt ⟨q,hm,rfl⟩;have hwl:=λh=>Iu hL2 he2 hlt h;unfold HI at hok hwl;by_cases hq:L2.getD e default=L2.getD (act q e) default
  ·have z1:decide (min (L2.getD e default) (L2.getD (act q e) default)≠L2.getD e default)=false:=bR (λh=>h (by omega));have z2:decide (min (L2.getD e default) (L2.getD (act q e) default)≠L2.getD (act q e) default)=false:=bR (λh=>h (by omega));refine wnY (zI5 @PE @hie @gb @z1 @z2) ?_;refine⟨(e+1,L2,c2),by dsimp only;omega,⟨by dsimp only;omega,hL2,hnn,fr,gb,λh=>?_,ht2⟩,by simp (disch:=omega) only[agr,ZG,reduceEqDiff,↓reduceIte,SL]⟩;obtain⟨h1,h2,h3⟩:=hf2 h;refine⟨h1,h2,λj hj=>?_⟩;dsimp only at hj h1;by_cases hje:j=e
   ·rw[hje,<-h1];exact hq
   ·exact h3 j (by omega)
  have hwl:=hwl hq
  have hwt:wtI ((L2.set e (min (L2.getD e default) (L2.getD (act q e) default))).set (act q e) (min (L2.getD e default) (L2.getD (act q e) default)))<wtI L:=by
   cases c2 with
   |false=>rw[<-(hf2 rfl).1];exact hwl
   |true=>exact Nat.lt_trans hwl (ht2 rfl)
  by_cases hq2:L2.getD e default<L2.getD (act q e) default
  ·have z1:decide (min (L2.getD e default) (L2.getD (act q e) default)≠L2.getD e default)=false:=bR (λh=>h (by omega));have z2:decide (min (L2.getD e default) (L2.getD (act q e) default)≠L2.getD (act q e) default)=true:=bV (λh=>by omega);refine wnY (zI5 @PE @hie @gb @z1 @z2) ?_;refine vw (b:=n2) (n:=s.execs.length) (off:=act q e) (v:=.int .i64 (min (L2.getD e default) (L2.getD (act q e) default))) (vs:=[.int .i64 (min (L2.getD e default) (L2.getD (act q e) default))]) (cs:=(L2.set e (min (L2.getD e default) (L2.getD (act q e) default))).map (AV.int .i64)) rfl (have zz:=@SL;evZ) (have zz:=@SL;evZ) (by rw[hlm1];exact ae) rfl rfl (by rw[bj];exact hls) rfl (by omega) ?_;rw[hlm2];refine wnY @PE ?_;exact⟨(e+1,_,true),by dsimp only;omega,⟨by dsimp only;omega,hok,hnn,λy hy=>by rw[ab (by omega),ab (by omega)];exact fr y hy,ae,λh=>(by cases h),λ_=>hwt⟩,by simp (disch:=omega) only[agr,ZG,reduceEqDiff,↓reduceIte,SL]⟩
  ·have z1:decide (min (L2.getD e default) (L2.getD (act q e) default)≠L2.getD e default)=true:=bV (λh=>by omega);refine wnY (zI4 @PE @hie @gb @z1) ?_;refine vw (b:=n2) (n:=s.execs.length) (off:=act q e) (v:=.int .i64 (min (L2.getD e default) (L2.getD (act q e) default))) (vs:=[.int .i64 (min (L2.getD e default) (L2.getD (act q e) default))]) (cs:=(L2.set e (min (L2.getD e default) (L2.getD (act q e) default))).map (AV.int .i64)) rfl (have zz:=@SL;evZ) (have zz:=@SL;evZ) (by rw[hlm1];exact ae) rfl rfl (by rw[bj];exact hls) rfl (by omega) ?_;rw[hlm2];refine wnY @PE ?_;exact⟨(e+1,_,true),by dsimp only;omega,⟨by dsimp only;omega,hok,hnn,λy hy=>by rw[ab (by omega),ab (by omega)];exact fr y hy,ae,λh=>(by cases h),λ_=>hwt⟩,by simp (disch:=omega) only[agr,ZG,reduceEqDiff,↓reduceIte,SL]⟩
theorem L0(s:SysV)(l:List (List Int))(act:List Int->Nat->Nat)(h:OrbIn s l act)(L:List Int)(hL:LFin l act s.execs.length L):pU 11 [gn s,ay l] (.tup [aq (ww L s.execs.length),.int .i64 0]):=by
 refine pO Rp ?_;simp only[b11,aw];have ho:=λH nx=>Il s h.fo l act h.ga h.pm h.im h.ll h.m1 h.n3 h.ve H nx;have hel:=h.fo.el;have h1:=h.m1;unfold gn at *;rw[PC.2.2.2.2.2.2.2] at *;refine wnY @PE ?_;refine ci ev0 ev0 (ho _ _) ?_;rintro _ H1 n1 ⟨b,K,rfl,hb,hK,hb1,hb2,-⟩;obtain rfl:=hK.uniq h.ga hL;have hln:=hK.ok.ln;refine wnY @PE ?_;refine ci ev0 ev0 (JW hb hb2 hln (by omega) (by omega)) ?_;rintro _ H2 n2 ⟨M,hps,hpM,hsM⟩;have hMl:M.length=s.execs.length:=by rw[hpM.length_eq];exact hln
 have hcc:=Eo M (by show _<=_;omega) (λh=>by rw[h] at hMl;simp at hMl;omega) H2 b n2 hps.at_ (by have:=hps.le;omega);have hdd:=Lj h.ga hK hpM hsM;have hle:=Ij M M.length;have hdl:=MF M M.length;rw[hMl] at hcc hdd hle hdl;refine wnY @PE ?_;refine ci ev0 ev0 hcc ?_;rintro _ _ _ ⟨rfl,⟨C,rfl,hC1,hC2⟩,rfl⟩;refine wnY @PE ?_;rw[<-hdd];refine bG (ac ?_ (ac (.int _ _) al));refine oh ae hC1 (by omega) (by rw[bj];exact hdl) (λy hy=>?_) (λi a c h4 h5=>?_)
 ·obtain⟨n,_,rfl⟩:=cC.1 hy;rfl
 ·rw[dt] at h4;rw[<-hC2,jj] at h5;split at h5
  ·rw[h4] at h5;obtain rfl:=Option.some.inj h5
   have hmem:a∈(dd M s.execs.length).map (AV.int .i64):=by
    rw[<-hC2];exact hJ (i:=i) (by rw[jj,if_pos ‹_›];exact h4)
   obtain⟨n,_,rfl⟩:=cC.1 hmem;exact .int _ _
  ·cases h5
end
theorem LI(P:Nat->Prop):∀n,P n->∃m,m<=n/\P m/\∀k,P k->m<=k:=λn=>by
 induction n using Nat.strongRecOn with
 |_ n ih=>
  intro hn;by_cases q:∃k,k<n/\P k
  ·obtain⟨k,k1,k2⟩:=q;obtain⟨m,m1,m2,m3⟩:=ih k k1 k2;exact⟨m,by omega,m2,m3⟩
  ·refine⟨n,bd _,hn,λk hk=>?_⟩;rcases B7 k n with h|h
   ·exact absurd ⟨k,h,hk⟩ q
   ·exact h
theorem Hq{α:Type}[DecidableEq α]{G:List α}{act:α->Nat->Nat}{M:Nat}(h:GAct G act M):∃L,LFin G act M L:=by
 have hx:∀e,∃m:Nat,e<M->m<=e/\Orb G act e m/\∀k,Orb G act e k->m<=k:=λe=>by
  by_cases he:e<M
  ·obtain⟨m,m1,m2,m3⟩:=LI (Orb G act e) e (h.refl he);exact⟨m,λ_=>⟨m1,m2,m3⟩⟩
  ·exact⟨0,λk=>absurd k he⟩
 have hc:=λe=>Classical.choose_spec (hx e);generalize hf:(λe=>Classical.choose (hx e))=f at *;have hc:∀e,e<M->f e<=e/\Orb G act e (f e)/\∀k,Orb G act e k->f e<=k:=λe he=>by rw[<-hf];exact hc e he
 have hg:∀e,e<M->((List.range M).map λe=>((f e:Nat):Int)).getD e default=((f e:Nat):Int):=λe he=>by simp[List.getD,he]
 refine⟨(List.range M).map λe=>((f e:Nat):Int),⟨by simp,λe he=>⟨f e,hg e he,(hc e he).1,(hc e he).2.1⟩⟩,λg hm e he=>?_⟩;have hl:=h.lt g hm e he;rw[hg e he,hg _ hl];have ho:Orb G act e (act g e):=⟨g,hm,rfl⟩
 have a:=(hc e he).2.2 _ (h.trans he ho (hc _ hl).2.1);have b:=(hc _ hl).2.2 _ (h.trans hl (h.symm he ho) (hc e he).2.1);omega
theorem Bg{p:PrbV}(h:OkP p):GAct (l4 p) (ij p) (bg p).execs.length:=by
 have:=Sa h
 rwa [tQ] at this
theorem Bv{p:PrbV}(h:OkP p):(l4 p).length<=6:=by
 have hc:=cV (cu h.e0).1;have h3:=h.n3;refine fu (List.length_filter_le _ _) (fu (List.length_filter_le _ _) ?_);exact Ho (by omega) (by omega)
theorem Ln{p:PrbV}(h:OkP p):OrbIn (bg p) (l4 p) (ij p) where
 fo:=GN h
 ga:=Bg h
 pm q hq:=⟨((dH h).1 hq).pm,((dH h).1 hq).ln⟩
 im q hq e he:=FZ h ((dH h).1 hq) he
 ll:=fu (Bv h) (by omega)
 m1:=(we p h).1
 n3:=⟨(cV (cu h.e0).1).1,h.n3⟩
 ve:=Az p h
noncomputable def uZ(p:PrbV):List Int:=BG (l4 p) (ij p) (bg p).execs.length
theorem CM{p:PrbV}(h:OkP p):LFin (l4 p) (ij p) (bg p).execs.length (uZ p):=by
 obtain⟨L,hL⟩:=Hq (Bg h);unfold uZ;rw[hL.is (Bg h)];exact hL
theorem MH(p:PrbV)(h:OkP p):pU 11 [gn (bg p),ay (l4 p)] (.tup [aq (ww (uZ p) (bg p).execs.length),.int .i64 0]):=L0 _ _ _ (Ln h) _ (CM h)
theorem Dn(p:PrbV)(h:OkP p):pU 8 [ca p] (.tup [ay (l4 p),.int .i64 0]):=J4 p h
def EW(a b:Int):MvV:=⟨⟨2,a,b,0,0,0,0⟩,0⟩
def P14:PrbV:=⟨⟨2,2,2,[⟨[0,0],[[0,0]],[]⟩,⟨[0,1],[[0,0],[1,1]],[]⟩,⟨[1,0],[[0,0],[1,1]],[]⟩,⟨[1,1],[[1,1]],[]⟩]⟩,⟨2,[[EW 1 3,EW 3 2,EW 3 3]]⟩,1⟩
theorem JI:OkP P14:=by
 refine wj ⟨?_,?_,?_,?_⟩ (by decide+kernel)
 ·intro c hc;simp only[P14,gV,List.not_mem_nil,or_false] at hc;rcases hc with rfl|rfl|rfl|rfl<;>exact⟨by show _<=_;decide,by show _<=_;decide,λx hx=>by simp at hx;rcases hx with rfl|rfl<;>(show _<=_;decide),by show _<=_;decide,λx hx=>(by cases hx)⟩
 ·show _<=_;decide
 ·decide
 ·intro l hl;simp only[P14,gV,List.not_mem_nil,or_false] at hl;subst hl;decide
theorem Be{sz:Nat}:∀{l:List AV}{i j:Nat}{y c:AV},(∀y∈l,y.cells.length=sz)->l[i]?=some y->y.cells[j]?=some c->(l.flatMap AV.cells)[i*sz+j]?=some c
 |[],i,j,y,c,_,h,_=>by simp at h
 |x::l,0,j,y,c,hc,h,hj=>by
  simp at h;subst h;have hlt:=(bF.1 hj).1;rw[lk,nz,dt,fT hlt];exact hj
 |x::l,i+1,j,y,c,hc,h,hj=>by
  have hx:=hc x (iE ..);rw[lk,ia (by rw[hx,eh];omega),hx,show(i+1)*sz+j-sz=i*sz+j by rw[eh];omega];exact Be (λy hy=>hc y (qk _ hy)) (by simpa using h) hj
theorem mg{H:Hp}{b n sz off len:Nat}{cs l':List AV}(hb:H b=some cs)(hn:cs.length=n)(hfit:off+len*sz<=n)(hl:l'.length=len)(hc:∀y∈l',y.cells.length=sz)(h:aJ H ((cs.drop off).take (len*sz)) (l'.flatMap AV.cells)):Snap H (.msl b n sz off len) (.sl sz l'):=
 .msl b n sz off len cs l' hb hn hfit hl hc λi j y a c hy hcj ha=>by
  have h1:=Be hc hy hcj;have hi:i<len:=by have:=(bF.1 hy).1;omega
  have hj:j<sz:=by have:=(bF.1 hcj).1;rw[hc y (hJ hy)] at this;exact this
  have hij:i*sz+j<len*sz:=by
   have:(i+1)*sz<=len*sz:=jt _ hi;rw[eh] at this;omega
  refine h.2 (i*sz+j) a c ?_ h1;rw[jj,if_pos hij,kD,<-kV];exact ha
def wW:List MvV:=[EW 1 3,EW 3 2,EW 3 3]
theorem TN3:(0:Int).toNat=0/\(1:Int).toNat=1/\(2:Int).toNat=2/\0*2=0/\1*2=2/\2*2=4:=⟨rfl,rfl,rfl,rfl,rfl,rfl⟩
theorem LH:zf P14.task=[[0,1],[1,0]]:=by decide+kernel
theorem KS:e7 [0,1] P14.adv=P14.adv/\e7 [1,0] P14.adv=P14.adv:=by decide+kernel
theorem Gc:l4 P14=[[0,1],[1,0]]:=by
 unfold l4;rw[LH,List.filter_cons,if_pos (xP.2 (by rw[KS.1];exact λ_=>Iff.rfl)),List.filter_cons,if_pos (xP.2 (by rw[KS.2];exact λ_=>Iff.rfl))];rfl
theorem K6:(bg P14).execs.length=12:=by decide+kernel
def L14:List Int:=(List.range 12).map λe=>((min e (ij P14 [1,0] e):Nat):Int)
theorem NB:((List.range 12).all λe=>decide (ij P14 [0,1] e=e/\ij P14 [1,0] e<12/\L14.getD e default=L14.getD (ij P14 [1,0] e) default))=true:=by decide+kernel
theorem PZ:(ww L14 12).length=7:=by decide+kernel
theorem O4:LFin (l4 P14) (ij P14) (bg P14).execs.length L14:=by
 rw[Gc,K6];have h:=dS.1 NB;have h:∀e,e<12->ij P14 [0,1] e=e/\ij P14 [1,0] e<12/\L14.getD e default=L14.getD (ij P14 [1,0] e) default:=λe he=>qh (h e (gI.2 he));have hg:∀e,e<12->L14.getD e default=((min e (ij P14 [1,0] e):Nat):Int):=λe he=>by simp[L14,List.getD,he]
 refine⟨⟨by simp[L14],λe he=>⟨_,hg e he,Nat.min_le_left _ _,?_⟩⟩,λg hm e he=>?_⟩
 ·by_cases q:e<=ij P14 [1,0] e
  ·rw[Nat.min_eq_left q];exact⟨[0,1],by simp,(h e he).1⟩
  ·rw[Nat.min_eq_right (by omega)];exact⟨[1,0],by simp,rfl⟩
 ·simp only[gV,List.not_mem_nil,or_false] at hm;rcases hm with rfl|rfl
  ·rw[(h e he).1]
  ·exact(h e he).2.2
theorem Kr:ww (uZ P14) (bg P14).execs.length=ww L14 12:=by
 unfold uZ;rw[O4.is (Bg JI),K6]
structure Vws(n:Nat)(inp:List Int)(w:List RndV)(V:List VwV)(rows:List (List Int))(K:Nat):Prop where
 ln:rows.length=K
 rl:∀k,k<K->(rows.getD k []).length=n
 rv:∀k,k<K->∀q,q<n->vf inp w k rows q∈V/\(rows.getD k []).getD q 0=(V.idxOf (vf inp w k rows q):Nat)
theorem sr{α:Type}{a b:List α}{i:Nat}{d:α}(h:i<a.length):(a++b).getD i d=a.getD i d:=by simp[List.getD,fT h]
theorem xq{α:Type}{a:List α}{x d:α}:(a++[x]).getD a.length d=x:=by simp[List.getD]
theorem MU{inp:List Int}{w:List RndV}{a b:List (List Int)}{k:Nat}(h:k<=a.length):vf inp w k (a++b)=vf inp w k a:=by
 cases k with
 |zero=>rfl
 |succ k=>
  show ii _ _ ((a++b).getD k [])=ii _ _ (a.getD k []);rw[sr (by omega)]
theorem Vws.grow{n:Nat}{inp:List Int}{w:List RndV}{V:List VwV}{rows:List (List Int)}{K:Nat}(h:Vws n inp w V rows K)(R:List VwV):Vws n inp w (V++R) rows K:=
 ⟨h.ln,h.rl,fun k hk q hq=>by
  obtain⟨h1,h2⟩:=h.rv k hk q hq;exact⟨qD _ h1,by rw[xw h1];exact h2⟩⟩
theorem CX(n:Nat)(inp:List Int)(w:List RndV)(vs:List VwV):∀k,Vws n inp w (plV n inp w vs k).1 (plV n inp w vs k).2 k
 |0=>⟨rfl,λk h=>by omega,λk h=>by omega⟩
 |k+1=>by
  have ih:=CX n inp w vs k;have e1:(plV n inp w vs (k+1)).1=eC (vf inp w k (plV n inp w vs k).2) n (plV n inp w vs k).1:=rfl;have e2:(plV n inp w vs (k+1)).2=(plV n inp w vs k).2++[eL (vf inp w k (plV n inp w vs k).2) n (plV n inp w vs k).1]:=rfl;rw[e1,e2];generalize (plV n inp w vs k).2=rows at *;generalize (plV n inp w vs k).1=V at *;have hl:=ih.ln;refine⟨by rw[cQ,hl];rfl,λj hj=>?_,λj hj q hq=>?_⟩
  ·by_cases e:j<k
   ·rw[sr (by omega)];exact ih.rl j e
   ·obtain rfl:j=rows.length:=by omega
    rw[xq,fQ]
  ·rw[MU (by omega)];by_cases e:j<k
   ·rw[sr (by omega)];obtain⟨r,hr⟩:=vM (vf inp w k rows) n V;rw[hr];exact(ih.grow r).rv j e q hq
   ·obtain rfl:j=rows.length:=by omega
    rw[xq,hl,DV _ hq];exact⟨uI _ hq,rfl⟩
theorem D4(n:Nat)(inp:List Int)(w:List RndV)(vs:List VwV):∀k,∃r,(plV n inp w vs k).1=vs++r
 |0=>⟨[],(jc _).symm⟩
 |k+1=>by
  obtain⟨r,h⟩:=D4 n inp w vs k;obtain⟨s,h2⟩:=vM (vf inp w k (plV n inp w vs k).2) n (plV n inp w vs k).1;exact⟨r++s,by rw[show(plV n inp w vs (k+1)).1=eC (vf inp w k (plV n inp w vs k).2) n (plV n inp w vs k).1 from rfl,h2,h,iw]⟩
def XV(p:PrbV)(V:List VwV)(x:ExV):Prop:=∃c:Nat,x.case=(c:Int)/\Vws p.task.n.toNat (p.task.cases.getD c default).inp x.word V x.views (p.rounds.toNat+1)
theorem Jf(p:PrbV):∀D:List (Nat×List RndV),∀x∈(stD p D).execs,XV p (stD p D).views x:=by
 refine K2 (λx h=>(by cases h)) λD d ih=>?_;obtain⟨c,w⟩:=d;rw[wg,uW];obtain⟨r,hr⟩:=D4 p.task.n.toNat (p.task.cases.getD c default).inp w (stD p D).views (p.rounds.toNat+1);intro x hx;rcases mL.1 hx with h|h
 ·obtain⟨c',e,hv⟩:=ih x h;refine⟨c',e,?_⟩;dsimp only;rw[hr];exact hv.grow r
 ·rw[fX.1 h];exact⟨c,rfl,CX _ _ _ _ _⟩
theorem I9(p:PrbV):∀x∈(bg p).execs,XV p (bg p).views x:=by
 have:=Jf p (iU p.task.cases.length (dX p));rw[qX] at this;exact this
theorem FB{l:List VwV}{a b:VwV}(ha:a∈l)(hb:b∈l)(h:l.idxOf a=l.idxOf b):a=b:=by
 have h1:=(oM ha).2;have h2:=(oM hb).2;rw[<-h1,<-h2,h]
theorem y8{n K:Nat}{i1 i2:List Int}{w1 w2:List RndV}{V:List VwV}{r1 r2:List (List Int)}(a:Vws n i1 w1 V r1 K)(b:Vws n i2 w2 V r2 K){k q:Nat}(hk:k<K)(hq:q<n):(r1.getD k []).getD q 0=(r2.getD k []).getD q 0↔vf i1 w1 k r1 q=vf i2 w2 k r2 q:=by
 obtain⟨a1,a2⟩:=a.rv k hk q hq;obtain⟨b1,b2⟩:=b.rv k hk q hq;rw[a2,b2];constructor
 ·intro h;exact FB a1 b1 (by omega)
 ·intro h;rw[h]
theorem y5{n K:Nat}{i:List Int}{w:List RndV}{V:List VwV}{r:List (List Int)}(a:Vws n i w V r K){k q:Nat}(hk:k<K)(hq:q<n):0<=(r.getD k []).getD q 0:=by
 rw[(a.rv k hk q hq).2];omega
theorem yq{f:Int}{now:List Int}{x:Nat}(h:x<now.length):hrd f now x=if hasFl f x=true then now.getD x 0 else-1:=by unfold hrd;simp[h]
theorem DQ{f:Int}{now:List Int}{x:Nat}(h:now.length<=x):hrd f now x=-1:=by unfold hrd;rw[if_neg (λk=>by omega)]
theorem Gr{f g:Int}{now now':List Int}{n:Nat}(h1:now.length=n)(h2:now'.length=n)(hn:n<=5)(p1:∀x,x<n->0<=now.getD x 0)(p2:∀x,x<n->0<=now'.getD x 0):
    (∀x,x<5->hrd f now x=hrd g now' x)↔ ∀x,x<n->hasFl f x=hasFl g x/\(hasFl f x=true->now.getD x 0=now'.getD x 0):=by
 constructor
 ·intro h x hx;have:=h x (by omega);rw[yq (by omega),yq (by omega)] at this;have a:=p1 x hx;have b:=p2 x hx;generalize now.getD x 0=u at *;generalize now'.getD x 0=v at *;cases e1:hasFl f x<;>cases e2:hasFl g x<;>simp[e1,e2] at this |- <;>omega
 ·intro h x hx;by_cases q:x<n
  ·obtain⟨a,b⟩:=h x q;rw[yq (by omega),yq (by omega),<-a];split
   ·rename_i e;exact b e
   ·rfl
  ·rw[DQ (by omega),DQ (by omega)]
theorem QX{P:Nat->Prop}:(∀x,x<5->P x)↔P 0/\P 1/\P 2/\P 3/\P 4:=by
 constructor
 ·intro h;exact⟨h 0 (by omega),h 1 (by omega),h 2 (by omega),h 3 (by omega),h 4 (by omega)⟩
 ·rintro⟨a,b,c,d,e⟩ x hx;have:x=0\/x=1\/x=2\/x=3\/x=4:=by omega
  rcases this with rfl|rfl|rfl|rfl|rfl<;>assumption
theorem DU{a b:RndV}{m q:Nat}{now now':List Int}:ii a m now q=ii b m now' q↔ ∀x,x<5->hrd (a.hs.getD q 0) now x=hrd (b.hs.getD q 0) now' x:=by
 rw[QX];unfold ii;rw[VwV.mk.injEq];simp
theorem Au{i j:List Int}{q:Nat}:iZ i q=iZ j q↔i.getD q 0=j.getD q 0:=by
 unfold iZ;rw[VwV.mk.injEq];simp
theorem D3{w:List RndV}{f:RndV->RndV}{k:Nat}(h:k<w.length):(w.map f).getD k default=f (w.getD k default):=by simp[List.getD,h]
theorem xy{q:List Int}(hq:ba q=0){K:Nat}{i j:List Int}{v w:List RndV}{V:List VwV}{r r' s s':List (List Int)}
    (li:i.length=q.length) (lj:j.length=q.length) (lv:K<=v.length+1) (lw:K<=w.length+1) (hv:∀x∈v,RdOk q.length x) (hw:∀x∈w,RdOk q.length x)
    (a:Vws q.length i v V r K) (a':Vws q.length (bH i q) (v.map (dq q)) V r' K) (b:Vws q.length j w V s K) (b':Vws q.length (bH j q) (w.map (dq q)) V s' K):
    ∀k,k<K->∀t,t<q.length->((r.getD k []).getD t 0=(s.getD k []).getD t 0↔(r'.getD k []).getD (q.getD t default).toNat 0=(s'.getD k []).getD (q.getD t default).toNat 0)
 |0,hk,t,ht=>by
  obtain⟨-,h5,hr,-⟩:=bZ hq;have hr:=hr t ht;have hlt:(q.getD t default).toNat<q.length:=by omega
  rw[y8 a b hk ht,y8 a' b' hk hlt];show iZ i t=iZ j t↔iZ (bH i q) _=iZ (bH j q) _;rw[Au,Au];have e1:=eA hq li ht;have e2:=eA hq lj ht;rw[show(bH i q).getD (q.getD t default).toNat 0=i.getD t 0 from e1,show(bH j q).getD (q.getD t default).toNat 0=j.getD t 0 from e2]
 |k+1,hk,t,ht=>by
  have ih:=xy hq li lj lv lw hv hw a a' b b' k (by omega);obtain⟨-,h5,hr,-⟩:=bZ hq;have hrt:=hr t ht;have hlt:(q.getD t default).toNat<q.length:=by omega
  rw[y8 a b hk ht,y8 a' b' hk hlt];show ii (v.getD k default) _ (r.getD k []) t=ii (w.getD k default) _ (s.getD k []) t↔ii ((v.map (dq q)).getD k default) _ (r'.getD k []) _=ii ((w.map (dq q)).getD k default) _ (s'.getD k []) _;rw[D3 (by omega),D3 (by omega),DU,DU,pt hq ht,pt hq ht];have ov:=hv _ (ao (show k<v.length by omega));have ow:=hw _ (ao (show k<w.length by omega));have kk:k<K:=by omega
  rw[Gr (a.rl k kk) (b.rl k kk) h5 (λx hx=>y5 a kk hx) (λx hx=>y5 b kk hx),Gr (a'.rl k kk) (b'.rl k kk) h5 (λx hx=>y5 a' kk hx) (λx hx=>y5 b' kk hx)];have p1:=(ov.row ht).1;have p2:=(ow.row ht).1;constructor
  ·intro h y hy;obtain⟨x,hx,e⟩:=iT hq hy;have e2:y=(q.getD x default).toNat:=by omega
   rw[e2,iv hq p1 hx,iv hq p2 hx,<-ih x hx];exact h x hx
  ·intro h x hx;have hrx:=hr x hx;have:=h (q.getD x default).toNat (by omega);rw[iv hq p1 hx,iv hq p2 hx,<-ih x hx] at this;exact this
theorem qI{p:PrbV}(h:OkP p){e:Nat}(he:e<(bg p).execs.length):Vws p.task.n.toNat (p.task.cases.getD ((ja p).getD e default).1 default).inp ((ja p).getD e default).2 (bg p).views ((bg p).execs.getD e default).views (p.rounds.toNat+1):=by
 obtain⟨c,h1,h2⟩:=I9 p _ (ao he);obtain⟨g1,g2⟩:=ye he;rw[g2] at h2;rw[g1] at h1;rw[show((ja p).getD e default).1=c by omega];exact h2
def nbV(p:PrbV)(e k q:Nat):Int:=((((bg p).execs.getD e default).views.getD k []).getD q 0)
theorem EA{p:PrbV}(h:OkP p){q:List Int}(hq:SymOk p q){e f k t:Nat}(he:e<(bg p).execs.length)(hf:f<(bg p).execs.length)(hk:k<=p.rounds.toNat)(ht:t<q.length):
    nbV p e k t=nbV p f k t↔nbV p (ij p q e) k (q.getD t default).toNat=nbV p (ij p q f) k (q.getD t default).toNat:=by
 have hl:=tQ (p:=p);have hn:p.task.n.toNat=q.length:=by have:=hq.ln;omega
 have me:=lG (p:=p) (e:=e) (by omega);have mf:=lG (p:=p) (e:=f) (by omega);obtain⟨e1,e2⟩:=i7 h hq (e:=e) (by omega);obtain⟨f1,f2⟩:=i7 h hq (e:=f) (by omega);have a:=qI h he;have b:=qI h hf;have a':=qI h (e:=ij p q e) (by omega);have b':=qI h (e:=ij p q f) (by omega);rw[e2] at a';rw[f2] at b';rw[show(tF p q ((ja p).getD e default)).1=wK p q ((ja p).getD e default).1 from rfl,(lL h hq me.1).2] at a';rw[show(tF p q ((ja p).getD f default)).1=wK p q ((ja p).getD f default).1 from rfl,(lL h hq mf.1).2] at b';rw[hn] at a b a' b';exact xy hq.pm (pq h hq me.1) (pq h hq mf.1) (by rw[jU me.2];omega) (by rw[jU mf.2];omega) (pP h hq.la me.2) (pP h hq.la mf.2) a a' b b' k (by omega) t ht
theorem BBT:(true==true)=true/\(false==false)=true/\(!true)=false:=⟨rfl,rfl,rfl⟩
section
attribute [local irreducible] aF ai bh aY aO aM ax aS a7 bm Go.Abs.Fn aX Go.Abs.Pure ap aJ Yl
theorem GV:pU 13 [.int .i64 1] (ca P14):=by
 refine pO Rl ?_;simp only[b13,aw];have q1:nt 1 (.msl 3 2 1 0 2) none (some (.int .i64 1)) none=some (.msl 3 2 1 0 1):=rfl;have q2:nt 1 (.msl 3 2 1 0 2) (some (.int .i64 1)) none none=some (.msl 3 2 1 1 1):=rfl;refine wnY (aI @q1 @q2) ?_;generalize hB:av (av _ _ _) _ _=B;have b0:B 0=some [.int .i64 0,.int .i64 0,.int .i64 0,.esl,.int .i64 0,.esl,.int .i64 0]:=by rw[<-hB];simp (disch:=omega) only[ab,ae]
 have b1:B 1=some [.int .i64 0,.int .i64 0]:=by rw[<-hB];simp (disch:=omega) only[ab,ae]
 have b2:B 2=some [.int .i64 1,.int .i64 1]:=by rw[<-hB];simp (disch:=omega) only[ab,ae]
 have b3:B 3=some [.msl 1 2 1 0 2,.msl 2 2 1 0 2]:=by rw[<-hB];simp (disch:=omega) only[ab,ae]
 have b4:B 4=some [.int .i64 0,.int .i64 0]:=by rw[<-hB];simp (disch:=omega) only[ab,ae]
 have b5:B 5=some [.int .i64 0,.int .i64 1]:=by rw[<-hB];simp (disch:=omega) only[ab,ae]
 have b6:B 6=some [.int .i64 1,.int .i64 0]:=by rw[<-hB];simp (disch:=omega) only[ab,ae]
 have b7:B 7=some [.int .i64 1,.int .i64 1]:=by rw[<-hB];simp (disch:=omega) only[ab,ae]
 have b8:B 8=some [.msl 4 2 1 0 2,.msl 3 2 1 0 1,.esl,.msl 5 2 1 0 2,.msl 3 2 1 0 2,.esl,.msl 6 2 1 0 2,.msl 3 2 1 0 2,.esl,.msl 7 2 1 0 2,.msl 3 2 1 1 1,.esl]:=by rw[<-hB];simp (disch:=omega) only[ab,ae]
 have b9:B 9=some [.int .i64 2,.int .i64 2,.int .i64 2,.msl 8 12 3 0 4]:=by rw[<-hB];simp (disch:=omega) only[ab,ae];rfl
 have b10:B 10=some [.int .i64 1,.int .i64 3,.int .i64 3,.int .i64 2,.int .i64 3,.int .i64 3]:=by rw[<-hB];simp (disch:=omega) only[ab,ae]
 clear hB;refine bt (X:=Nat×AV) (λx=>[(0,.int .i64 1),(2,.ptr 0 7 0),(4,.ptr 9 4 0),(5,x.2),(30,.msl 10 6 2 0 3),(31,.int .i64 (3:Nat)),(32,.int .i64 x.1)]) (λx H n'=>x.1<=3/\11<=n'/\(∀y,y<11->H y=B y)/\Row H 8 x.2 (cL dC (wW.take x.1))/\∀b,bk x.2=some b->11<=b/\b<n') (λx=>3-x.1) (0,.esl) ⟨by omega,by omega,λ_ _=>rfl,.nil,λb h=>(by cases h)⟩ (by simp (disch:=omega) only[agr,ZG,reduceEqDiff,↓reduceIte,SL]) ?_;rintro⟨k,ro⟩ H nx ⟨hk,hnx,fr,hrow,hb⟩;dsimp only at hk hrow hb |-;obtain⟨o1,o2⟩:=hrow.one;have gA:=(fr 10 (by omega)).trans b10;have i0:d9 2 (.msl 10 6 2 0 3) (.int .i64 ((0:Nat):Int))=some (.ptr 10 6 0):=rfl;have i1:d9 2 (.msl 10 6 2 0 3) (.int .i64 ((1:Nat):Int))=some (.ptr 10 6 2):=rfl;have i2:d9 2 (.msl 10 6 2 0 3) (.int .i64 ((2:Nat):Int))=some (.ptr 10 6 4):=rfl;have r0:rd H 2 (.ptr 10 6 0)=some [.int .i64 1,.int .i64 3]:=by rw[SR.2.1,gA];rfl
 have r1:rd H 2 (.ptr 10 6 2)=some [.int .i64 3,.int .i64 2]:=by rw[SR.2.1,gA];rfl
 have r2:rd H 2 (.ptr 10 6 4)=some [.int .i64 3,.int .i64 3]:=by rw[SR.2.1,gA];rfl
 rcases(by omega:k=0\/k=1\/k=2\/k=3) with rfl|rfl|rfl|rfl
 ·refine wnY (zI8 @IX @TN3 @r0 @r1 @r2 @i0 @i1 @i2) ?_;refine ed (k:=1) (sv:=ro) (xv:=.msl (nx+1) 8 8 0 1) (cs:=cL dC (wW.take 0)) (new:=[.int .i64 2,.int .i64 1,.int .i64 3,.int .i64 0,.int .i64 0,.int .i64 0,.int .i64 0,.int .i64 0]) rfl ev0 (hrow.same λb h=>by have:=hb b h;simp (disch:=omega) only[ab]) ev0 (dz rfl) rfl rfl (by omega) (by decide) (by decide) ?_;rintro r2 H3 n3 r1 r2' r3 r4 r5;refine wnY and_self ?_;refine⟨(0+1,r2),by dsimp only;omega,⟨by dsimp only;omega,by omega,λy hy=>by rw[r4 y (by omega) (λh=>by have:=hb y h;omega)];simp (disch:=omega) only[ab];exact fr y hy,r1,λb h=>?_⟩,ag0⟩;rcases r5 b h with h|h
  ·have:=hb b h;omega
  ·omega
 ·refine wnY (zI8 @IX @TN3 @r0 @r1 @r2 @i0 @i1 @i2) ?_;refine ed (k:=1) (sv:=ro) (xv:=.msl (nx+1) 8 8 0 1) (cs:=cL dC (wW.take 1)) (new:=[.int .i64 2,.int .i64 3,.int .i64 2,.int .i64 0,.int .i64 0,.int .i64 0,.int .i64 0,.int .i64 0]) rfl ev0 (hrow.same λb h=>by have:=hb b h;simp (disch:=omega) only[ab]) ev0 (dz rfl) rfl rfl (by omega) (by decide) (by decide) ?_;rintro r2 H3 n3 r1 r2' r3 r4 r5;refine wnY and_self ?_;refine⟨(1+1,r2),by dsimp only;omega,⟨by dsimp only;omega,by omega,λy hy=>by rw[r4 y (by omega) (λh=>by have:=hb y h;omega)];simp (disch:=omega) only[ab];exact fr y hy,r1,λb h=>?_⟩,ag0⟩;rcases r5 b h with h|h
  ·have:=hb b h;omega
  ·omega
 ·refine wnY (zI8 @IX @TN3 @r0 @r1 @r2 @i0 @i1 @i2) ?_;refine ed (k:=1) (sv:=ro) (xv:=.msl (nx+1) 8 8 0 1) (cs:=cL dC (wW.take 2)) (new:=[.int .i64 2,.int .i64 3,.int .i64 3,.int .i64 0,.int .i64 0,.int .i64 0,.int .i64 0,.int .i64 0]) rfl ev0 (hrow.same λb h=>by have:=hb b h;simp (disch:=omega) only[ab]) ev0 (dz rfl) rfl rfl (by omega) (by decide) (by decide) ?_;rintro r2 H3 n3 r1 r2' r3 r4 r5;refine wnY and_self ?_;refine⟨(2+1,r2),by dsimp only;omega,⟨by dsimp only;omega,by omega,λy hy=>by rw[r4 y (by omega) (λh=>by have:=hb y h;omega)];simp (disch:=omega) only[ab];exact fr y hy,r1,λb h=>?_⟩,ag0⟩;rcases r5 b h with h|h
  ·have:=hb b h;omega
  ·omega
 ·have g0:=(fr 0 (by omega)).trans b0;have g9:=(fr 9 (by omega)).trans b9;refine wnY (zI4 @g0 @g9 @o1 @o2) ?_;generalize hH5:av (av H nx [ro]) 0 _=H5;have f5:∀y,0<y->y<11->H5 y=B y:=λy h1 h2=>by rw[<-hH5];simp (disch:=omega) only[ab];exact fr y h2
  have cn:H5 nx=some [ro]:=by rw[<-hH5];simp (disch:=omega) only[ab,ae]
  have hr5:Row H5 8 ro (cL dC wW):=hrow.same λb h=>by have:=hb b h;rw[<-hH5];simp (disch:=omega) only[ab]
  have s1:Snap H5 (.msl 1 2 1 0 2) (aq [0,0]):=Row.snapI (Row.box1 ((f5 1 (by omega) (by omega)).trans b1) rfl);have s2:Snap H5 (.msl 2 2 1 0 2) (aq [1,1]):=Row.snapI (Row.box1 ((f5 2 (by omega) (by omega)).trans b2) rfl);have s4:Snap H5 (.msl 4 2 1 0 2) (aq [0,0]):=Row.snapI (Row.box1 ((f5 4 (by omega) (by omega)).trans b4) rfl);have s5:Snap H5 (.msl 5 2 1 0 2) (aq [0,1]):=Row.snapI (Row.box1 ((f5 5 (by omega) (by omega)).trans b5) rfl);have s6:Snap H5 (.msl 6 2 1 0 2) (aq [1,0]):=Row.snapI (Row.box1 ((f5 6 (by omega) (by omega)).trans b6) rfl);have s7:Snap H5 (.msl 7 2 1 0 2) (aq [1,1]):=Row.snapI (Row.box1 ((f5 7 (by omega) (by omega)).trans b7) rfl);have e3:=(f5 3 (by omega) (by omega)).trans b3;have e8:=(f5 8 (by omega) (by omega)).trans b8;have sb:Snap H5 (.msl 3 2 1 0 2) (ay [[0,0],[1,1]]):=mg e3 rfl (by decide) rfl (λy hy=>by simp at hy;rcases hy with rfl|rfl<;>rfl) (ac s1 (ac s2 al));have sb1:Snap H5 (.msl 3 2 1 0 1) (ay [[0,0]]):=mg e3 rfl (by decide) rfl (λy hy=>by simp at hy;subst hy;rfl) (ac s1 al);have sb2:Snap H5 (.msl 3 2 1 1 1) (ay [[1,1]]):=mg e3 rfl (by decide) rfl (λy hy=>by simp at hy;subst hy;rfl) (ac s2 al);have se:Snap H5 .esl (ay []):=.eslsl 1
  have sc:Snap H5 (.msl 8 12 3 0 4) (bu P14.task.cases):=mg e8 rfl (by decide) rfl (fun y hy=>by
   obtain⟨c,_,rfl⟩:=cC.1 hy;rfl) (ac s4 (ac sb1 (ac se (ac s5 (ac sb (ac se (ac s6 (ac sb (ac se (ac s7 (ac sb2 (ac se al))))))))))))
  have sm:Snap H5 (.msl nx 1 1 0 1) (aN [wW]):=mg cn rfl (by decide) rfl (fun y hy=>by
   obtain⟨c,_,rfl⟩:=cC.1 hy;rfl) (ac (rE (f:=dC) (by omega) (λ_=>rfl) (λx=>yZ x) hr5) al)
  exact eo (ac (.int _ _) (ac (.int _ _) (ac (.int _ _) (ac sc (ac (.int _ _) (ac sm (ac (.int _ _) al)))))))
theorem EK:pU 5 [] (.bool true):=by
 refine pO is5 ?_;simp only[b5,aw];have h1:=GV;have h2:=zC P14 JI;have h3:=Dn P14 JI;have h4:=MH P14 JI;rw[Kr] at h4;have hr:=PZ;have hs:(l4 P14).length=2:=by rw[Gc];rfl
 have hd1:=e9 P14;have hd2:=gJ (bg P14);generalize l4 P14=G at *;generalize ww L14 12=R at *;rw[show gn (bg P14)=.agg (bg P14).cs from rfl,PC.2.2.2.2.2.2.2] at h2 h4 hd2;unfold ca at h1 h2 h3 hd1;rw[PC.2.2.2.2.1] at h1 h2 h3 hd1;have z1:decide ((G.length:Int)=2)=true:=bV (by omega);have z2:decide ((R.length:Int)=7)=true:=bV (by omega);refine wnY (zI3 @PE @z1 @z2) ?_;exact .bool _
set_option maxHeartbeats 8000000 in
theorem zD(p:PrbV)(hs:ShP p)(w0 w1:Nat)(hw0:w0<256)(hw1:w1<256):pU 3 [ca p,.int .u8 w0,.int .u8 w1] (.bool true):=by
 refine pO is3 ?_;simp only[b3,aw];have ha:=EK;have hz:=JQ p hs;have hd:=e9 p;cases hr:jZ p with
 |false=>
  rw[hr] at hz;unfold ca at hd hz |-;rw[PC.2.2.2.2.1] at hd hz |-;refine wnY @PE ?_;exact .bool _
 |true=>
 rw[hr] at hz;have hok:=wj hs hr;have h2:=zC p hok;have h3:=Dn p hok;have h4:=HD p hok;obtain⟨s1,s2,s3,s4⟩:=we p hok;obtain⟨-,-,-,r0,r6⟩:=cu hok.e0;have h5:=λq(hq:q∈l4 p)=>J8 p hok q ((dH hok).1 hq);have h6:=λq(hq:q∈l4 p) e f k t h1 h2 h3 h4=>EA hok ((dH hok).1 hq) (e:=e) (f:=f) (k:=k) (t:=t) h1 h2 h3 h4;have h7:=λq(hq:q∈l4 p)=>(dH hok).1 hq;have h8:=(Bg hok).lt;have hsl:=Bv hok;have hds:=gJ (bg p);rw[show gn (bg p)=.agg (bg p).cs from rfl,PC.2.2.2.2.2.2.2] at h2 h4 h5 hds;unfold ca at hd hz h2 h3 |-;rw[PC.2.2.2.2.1] at hd hz h2 h3 |-;generalize l4 p=G at *;have hL0:0<(bg p).execs.length:=by omega
 have hrm:∀(w:Nat)(tb tf:Bool),br .rem tb tf (.int .i64 (w:Int)) (.int .i64 ((bg p).execs.length:Int))=some (.int .i64 ((w%(bg p).execs.length:Nat):Int)):=λw tb tf=>(yE (by omega) (by omega)).trans (by rw[Int.natCast_emod]);have hr0:=hrm w0;have hr1:=hrm w1;have hal:=Nat.mod_lt w0 hL0;have hbl:=Nat.mod_lt w1 hL0;generalize w0%(bg p).execs.length=a at *;generalize w1%(bg p).execs.length=b at *;clear hrm;have cv0:IntKind.wrap .i64 (w0:Int)=w0:=i9 (by omega) (by omega);have cv1:IntKind.wrap .i64 (w1:Int)=w1:=i9 (by omega) (by omega);refine wnY (zI5 @PE @hr0 @hr1 @cv0 @cv1) ?_;obtain⟨R,hR⟩:∃R:Nat,p.rounds=(R:Int):=⟨p.rounds.toNat,by omega⟩
 obtain⟨N,hN⟩:∃N:Nat,p.task.n=(N:Int):=⟨p.task.n.toNat,by have:=(cV (cu hok.e0).1).1;omega⟩
 rw[hR,hN,cK,cK] at s4;rw[hR,cK] at h6;have hM:(bg p).execs.length<=60:=s2;have hN5:N<=3:=by have:=hok.n3;omega
 refine bt (X:=Nat) (λi=>[(3,.ptr 0 7 0),(7,.ptr 1 10 0),(11,.int .i64 a),(12,.int .i64 b),(59,ay G),(60,.int .i64 G.length),(61,.int .i64 i)])
  (λi H n=>i<=G.length/\H 0=some [.int .i64 p.task.n,.int .i64 p.task.ins,.int .i64 p.task.outs,bu p.task.cases,.int .i64 p.adv.n,aN p.adv.states,.int .i64 p.rounds]/\H 1=some [.int .i64 (bg p).prob.task.n,.int .i64 (bg p).prob.task.ins,.int .i64 (bg p).prob.task.outs,bu (bg p).prob.task.cases,.int .i64 (bg p).prob.adv.n,aN (bg p).prob.adv.states,.int .i64 (bg p).prob.rounds,.int .i64 (bg p).tn,de (bg p).views,fM (bg p).execs]) (λi=>G.length-i) 0 ⟨bo _,by simp (disch:=omega) only[ab,ae],by simp (disch:=omega) only[ab,ae];rfl⟩ (by simp (disch:=omega) only[agr,ZG,reduceEqDiff,↓reduceIte,SL]) ?_
 rintro i H n ⟨hi,g0,g1⟩;by_cases hi2:i<G.length
 rotate_left
 ·refine wnY @PE ?_;exact .bool _
 have ixq:=Dl hi2;have hm:=ao hi2;have hx:=h5 _ hm;have hsy:=h7 _ hm;have hvw:=h6 _ hm;have hal2:=h8 _ hm a hal;have hbl2:=h8 _ hm b hbl;generalize G.getD i default=q at *;clear h5 h6 h7 h8;have hil:=yT (ij p q) (bg p).execs.length;have zn:decide ((q.length:Int)≠p.task.n)=false:=bR (λh=>h hsy.ln);have hqN:q.length=N:=by have:=hsy.ln;omega
 obtain⟨-,-,hpr,-⟩:=bZ hsy.pm;refine wnY (zI7 @PE @g0 @g1 @ixq @zn @hil @hR) ?_
 refine bt (X:=Nat) (λk=>[(3,.ptr 0 7 0),(7,.ptr 1 10 0),(11,.int .i64 a),(12,.int .i64 b),(14,aq q),(15,aq (imL (ij p q) (bg p).execs.length)),(59,ay G),(60,.int .i64 G.length),(61,.int .i64 i),(91,.int .i64 ((R:Int)+1)),(92,.int .i64 k)])
  (λk H n=>k<=R+1/\H 0=some [.int .i64 p.task.n,.int .i64 p.task.ins,.int .i64 p.task.outs,bu p.task.cases,.int .i64 p.adv.n,aN p.adv.states,.int .i64 p.rounds]/\H 1=some [.int .i64 (bg p).prob.task.n,.int .i64 (bg p).prob.task.ins,.int .i64 (bg p).prob.task.outs,bu (bg p).prob.task.cases,.int .i64 (bg p).prob.adv.n,aN (bg p).prob.adv.states,.int .i64 (bg p).prob.rounds,.int .i64 (bg p).tn,de (bg p).views,fM (bg p).execs]) (λk=>R+1-k) 0 ⟨bo _,g0,g1⟩ (by simp (disch:=omega) only[agr,ZG,reduceEqDiff,↓reduceIte,SL]) ?_
 clear g0 g1;rintro k H n ⟨hk,g0,g1⟩;by_cases hk2:k<R+1
 rotate_left
 ·obtain rfl:k=R+1:=by omega
  refine wnY @PE ?_;exact⟨i+1,by omega,⟨by omega,g0,g1⟩,by simp (disch:=omega) only[agr,ZG,reduceEqDiff,↓reduceIte,SL]⟩
 refine wnY (zI4 @PE @g0 @g1 @hN) ?_
 refine bt (X:=Nat) (λt=>[(3,.ptr 0 7 0),(7,.ptr 1 10 0),(11,.int .i64 a),(12,.int .i64 b),(14,aq q),(15,aq (imL (ij p q) (bg p).execs.length)),(17,.int .i64 k),(59,ay G),(60,.int .i64 G.length),(61,.int .i64 i),(91,.int .i64 ((R:Int)+1)),(92,.int .i64 k),(97,.int .i64 N),(98,.int .i64 t)])
  (λt H n=>t<=N/\H 0=some [.int .i64 p.task.n,.int .i64 p.task.ins,.int .i64 p.task.outs,bu p.task.cases,.int .i64 p.adv.n,aN p.adv.states,.int .i64 p.rounds]/\H 1=some [.int .i64 (bg p).prob.task.n,.int .i64 (bg p).prob.task.ins,.int .i64 (bg p).prob.task.outs,bu (bg p).prob.task.cases,.int .i64 (bg p).prob.adv.n,aN (bg p).prob.adv.states,.int .i64 (bg p).prob.rounds,.int .i64 (bg p).tn,de (bg p).views,fM (bg p).execs]) (λt=>N-t) 0 ⟨bo _,g0,g1⟩ (by simp (disch:=omega) only[agr,ZG,reduceEqDiff,↓reduceIte,SL]) ?_
 clear g0 g1;rintro t H n ⟨ht,g0,g1⟩;by_cases ht2:t<N
 rotate_left
 ·obtain rfl:t=N:=by omega
  refine wnY @PE ?_;exact⟨k+1,by omega,⟨by omega,g0,g1⟩,by simp (disch:=omega) only[agr,ZG,reduceEqDiff,↓reduceIte,SL]⟩
 have hv:=hvw a b k t hal hbl (by omega) (by omega);have hpt:=hpr t (by omega);obtain⟨u,hu⟩:∃u:Nat,q.getD t default=(u:Int):=⟨(q.getD t default).toNat,by omega⟩
 have hul:u<N:=by omega
 rw[hu,cK] at hv;have ga:=zB (im:=ij p q) hal;have gb:=zB (im:=ij p q) hbl;unfold nbV at hv
 have row:∀e,e<(bg p).execs.length->d9 3 (fM (bg p).execs) (.int .i64 (e:Nat))=some (.iptr [.int .i64 ((bg p).execs.getD e default).case,bA ((bg p).execs.getD e default).word,ay ((bg p).execs.getD e default).views] 0)/\d9 1 (ay ((bg p).execs.getD e default).views) (.int .i64 (k:Nat))=some (.iptr [aq (((bg p).execs.getD e default).views.getD k default)] 0)/\(((bg p).execs.getD e default).views.getD k default).length=N:=λe he=>by
  have ix:=ixE he;rw[PC.2.2.2.2.2.2.1] at ix;have ok:=s4 _ (ao he);have hkl:k<((bg p).execs.getD e default).views.length:=by rw[ok.vl];exact hk2
  exact⟨ix,Dl hkl,(ok.vr _ (ao hkl)).1⟩
 obtain⟨a1,a2,a3⟩:=row a hal;obtain⟨b1,b2,b3⟩:=row b hbl;obtain⟨c1,c2,c3⟩:=row _ hal2;obtain⟨d1,d2,d3⟩:=row _ hbl2;change _=_ at a3 b3 c3 d3;generalize ij p q a=a' at *;generalize ij p q b=b' at *;change ((((bg p).execs.getD a default).views.getD k default).getD t default=(((bg p).execs.getD b default).views.getD k default).getD t default↔(((bg p).execs.getD a' default).views.getD k default).getD u default=(((bg p).execs.getD b' default).views.getD k default).getD u default) at hv;generalize (((bg p).execs.getD a default).views.getD k default)=ra at *;generalize (((bg p).execs.getD b default).views.getD k default)=rb at *;generalize (((bg p).execs.getD a' default).views.getD k default)=ra' at *;generalize (((bg p).execs.getD b' default).views.getD k default)=rb' at *;by_cases hq:ra.getD t default=rb.getD t default
 ·have z1:decide (ra.getD t default=rb.getD t default)=true:=bV hq;have z2:decide (ra'.getD u default=rb'.getD u default)=true:=bV (hv.1 hq);refine wnY (aI @PE (aI @g0 (aI @g1 (aI @hu (aI @ga (aI @gb (aI @a1 (aI @a2 (aI @a3 (aI @b1 (aI @b2 (aI @b3 (JG @c1 @c2 @c3 @d1 @d2 @d3 @hil @z1 @z2 @BBT))))))))))))) ?_;exact⟨t+1,by omega,⟨by omega,g0,g1⟩,by simp (disch:=omega) only[agr,ZG,reduceEqDiff,↓reduceIte,SL]⟩
 ·have z1:decide (ra.getD t default=rb.getD t default)=false:=bR hq;have z2:decide (ra'.getD u default=rb'.getD u default)=false:=bR (λh=>hq (hv.2 h));refine wnY (aI @PE (aI @g0 (aI @g1 (aI @hu (aI @ga (aI @gb (aI @a1 (aI @a2 (aI @a3 (aI @b1 (aI @b2 (aI @b3 (JG @c1 @c2 @c3 @d1 @d2 @d3 @hil @z1 @z2 @BBT))))))))))))) ?_;exact⟨t+1,by omega,⟨by omega,g0,g1⟩,by simp (disch:=omega) only[agr,ZG,reduceEqDiff,↓reduceIte,SL]⟩
end
theorem y7(p:PrbV)(hs:ShP p)(a b:Int)(ha:(Lit.int .u8 a).wf=true)(hb:(Lit.int .u8 b).wf=true):pU 3 [ca p,.int .u8 a,.int .u8 b] (.bool true):=by
 obtain⟨x,rfl,hx⟩:=Qn ha;obtain⟨y,rfl,hy⟩:=Qn hb;exact zD p hs x y hx hy
end Go.Proofs.YtbmjaojeplmhnaaGreat
namespace Go.Proofs.YtbmjaojeplmhnaaGreat
open Go Go.Abs Go.RowKit Go.ChangeShapes Go.WideShapes Go.ChangeAt
theorem wz{H:Type}{enc:TypeId×Value->H}{P:Program}{f:Func}{s:ChangeSpec}{apart fresh handsOn again:Bool}{W W':World}{args:Array Value}{v:Value}{ds gs:List (DataW H)}{before pa pv:List MemPlace}
    (hW:DataW.Whole enc P f.params.toList s.vars apart W args.toList ds gs before)
    (hres:∀(b:Nat)(sp:Nat->Bool)(hd:Bool),DataW.TrodAll enc P W' b sp hd f.resultTypes.toList (v.resultList f.resultTypes.size) (s.fn H (ds++gs)).results [])
    (hargs:∀sp:Nat->Bool,(∀p∈before,sp p.block=true)->DataW.TrodAll enc P W' 0 sp true f.params.toList args.toList (s.fn H (ds++gs)).args pa)
    (hvars:∀sp:Nat->Bool,(∀p∈before,sp p.block=true)->DataW.TrodVars enc P W' sp s.vars (s.fn H (ds++gs)).vars pv)
    (hps:before=pa++pv) (hb:Below W.heap.size W W')
    (hok:∀(j:Nat)(t:TypeId)(r:Value),f.resultTypes[j]?=some t->(v.resultList f.resultTypes.size)[j]?=some r->Value.okWide P W' .any 0 t r):
    s.post enc P f apart fresh handsOn again W args v W':=by
 have hold:∀p∈before,(λb=>decide (b<W.heap.size)) p.block=true:=λp hp=>by simpa using hW.lt p hp
 have hlt:=λp hp=>hW.lt p hp;refine⟨ds,gs,before,[],pa,pv,hW,hres _ _ _,hargs _ hold,hvars _ hold,World.keptBut_mono (λp hp=>⟨hp,?_⟩) (hb.frame _),λ_=>?_⟩
 ·rw[hps,mL] at hp;exact Or.inr hp
 ·obtain⟨_,_,_,_,_,hz,hn⟩:=hW;refine⟨hok,_,_,([]++pa)++pv,⟨[]++pa,pv,trodAll_append (hargs _ (λ_ _=>rfl)) (hres _ _ _),hvars _ (λ_ _=>rfl),rfl,?_,?_⟩,?_⟩
  ·intro b off hp;have hp':MemPlace.cell b off∈before:=by rw[hps];simpa using hp
   rw[hb.frozen (hlt _ hp')];exact hz b off hp'
  ·intro ha;have:=hn ha;rw[hps] at this;simpa using this
  ·intro p hp _;rw[hps];simpa using hp
theorem Gl{E:Env}{w:World}:dJ E w [] []:=⟨rfl,λi x y h=>(by cases h)⟩
theorem sy{E:Env}{w:World}{x:AV}{y:Value}{xs:List AV}{ys:List Value}(h:Rel E w x y)(hs:dJ E w xs ys):dJ E w (x::xs) (y::ys):=by
 refine⟨by simp[hs.1],λi a b ha hb=>?_⟩;cases i with
 |zero=>simp at ha hb;subst ha hb;exact h
 |succ i=>simp at ha hb;exact hs.2 i a b ha hb
theorem own:ownKnob Tryz.prog.godebug=none:=by kernel_rfl
end Go.Proofs.YtbmjaojeplmhnaaGreat
