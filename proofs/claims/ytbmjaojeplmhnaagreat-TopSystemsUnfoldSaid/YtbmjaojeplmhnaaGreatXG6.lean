/- Contracts of functions and plain laws, for all inputs that the theorems name. -/
import Derived.Test.YtbmjaojeplmhnaaGreatXG5
import Derived.Test.YtbmjaojeplmhnaaGreatXG4
import Derived.Test.YtbmjaojeplmhnaaGreatXG3
import Derived.Test.YtbmjaojeplmhnaaGreatRows
import Derived.WalkKit
import Derived.ProofKit
import Derived.OpenShut

set_option linter.unusedSimpArgs false
set_option linter.unusedVariables false
set_option maxHeartbeats 4000000
namespace Go.Proofs.YtbmjaojeplmhnaaGreat
open Go Go.Abs
open Nat (reduceEqDiff reduceAdd reduceLeDiff)
structure SMem(a b:AdvV)(nx:Nat)(H0 H:Hp)(V:List VisV)(lv:AV)(n:Nat):Prop where
 ga:H nx=some [.int .i64 a.n,aQ a.states]
 gb:H (nx+1)=some [.int .i64 b.n,aQ b.states]
 gf:H (nx+2)=some [.func 101 []]
 g6:H (nx+3)=some [.esl]
 g7:H (nx+4)=some [.esl]
 g8:H (nx+6)=some [lv]
 gm:H (nx+7)=some [.omap ((V.map prV).map pkV) (j4 V.length)]
 g9:H (nx+8)=some [.mp (nx+7)]
 row:Row H 10 lv (cL iu V)
 rb:∀c,bk lv=some c->c=nx+5\/(nx+9<=c/\c<n)
 le:nx+9<=n
 fr:∀y,y<nx->H y=H0 y
theorem SMem.same{a b:AdvV}{nx:Nat}{H0 H H':Hp}{V:List VisV}{lv:AV}{n n':Nat}(h:SMem a b nx H0 H V lv n)(hn:n<=n')(hs:∀y,y<nx+9->H' y=H y)(hl:∀c,bk lv=some c->H' c=H c):SMem a b nx H0 H' V lv n':=
 ⟨(hs _ (by omega)).trans h.ga,(hs _ (by omega)).trans h.gb,(hs _ (by omega)).trans h.gf,(hs _ (by omega)).trans h.g6,(hs _ (by omega)).trans h.g7,(hs _ (by omega)).trans h.g8,(hs _ (by omega)).trans h.gm,(hs _ (by omega)).trans h.g9,h.row.same hl,λc hc=>(h.rb c hc).imp id λq=>⟨q.1,by omega⟩,by have:=h.le;omega,λy hy=>(hs y (by omega)).trans (h.fr y hy)⟩
section
attribute [local irreducible] aF ai bj aY aN aM ax aS a8 bm Go.Abs.Fn aX Go.Abs.Pure ap aK Yl
set_option maxHeartbeats 8000000 in
def NI:C2->C2
 |.seq a (.seq b (.seq c (.seq d _)))=>.seq a (.seq b (.seq c (.seq d .skip)))
 |x=>x
def Mb(a b:AdvV)(H0:Hp)(nx:Nat):CP
 |.normal,T,H,n=>EqA a b/\T 6=.ptr (nx+3) 1 0/\T 7=.ptr (nx+4) 1 0/\T 8=.ptr (nx+6) 1 0/\H (nx+3)=some [.esl]/\H (nx+4)=some [.esl]/\(∃lv,H (nx+6)=some [lv]/\lv.one=true/\lv.cells=[lv])/\nx+9<=n/\∀y,y<nx->H y=H0 y
 |.ret,T,H,n=>¬EqA a b/\T 6=.ptr (nx+3) 1 0/\T 7=.ptr (nx+4) 1 0/\nx<=n/\(∀y,y<nx->H y=H0 y)/\∃lv b' k,H (nx+3)=some [lv]/\H (nx+4)=some [.msl b' (k*7) 7 0 k]/\0<k
 |.exit _,_,_,_=>False
theorem Gj(a b:AdvV)(sa:ShA a)(sb:ShA b)(oa:AdvOk a)(ob:AdvOk b)(H0:Hp)(nx:Nat):
    aF Tryz.prog (NI (Mf).body) (T0 [ca a,ca b,.func 101 []]) H0 nx (Mb a b H0 nx):=by
 simp only[Mf,aw];simp only[NI];unfold ca;rw[PC.2.2.2.1,PC.2.2.2.1];have zz:=@PE;repeat' (first|refine zW ?_|apply a_n|refine zO ?_|refine vY ?_|refine alY ?_|refine bxY ?_|refine stY ?_|refine blY ?_|fail)
 refine xn ?_;clear zz;have zz:=@PE;repeat' (first|apply a_n|refine zO ?_|refine vY ?_|fail)
 refine nJ (b:=nx+5+1+1) (kv:=pkV (0,0)) (ks:=[]) (vs:=[]) (r:=none) ev0 (by simp (disch:=omega) only[ae]) (by((try simp only[bg,ZA,reduceEqDiff,↓reduceIte,reduceAdd,reduceLeDiff]);(try with_reducible rfl));rfl) ev0 rfl rfl ?_;clear zz;have zz:=@PE;repeat' (first|apply a_n|refine zO ?_|refine vY ?_|fail)
 refine yr (cs:=[.nilm]) rfl rfl rfl ?_;clear zz;have zz:=@PE;repeat' (first|refine zW ?_|apply a_n|refine zO ?_|refine alY ?_|refine stY ?_|fail)
 refine bq (X:=Nat×Nat×List VisV×AV) (λx=>[(3,.ptr nx 2 0),(4,.ptr (nx+1) 2 0),(5,.ptr (nx+2) 1 0),(6,.ptr (nx+3) 1 0),(7,.ptr (nx+4) 1 0),(8,.ptr (nx+6) 1 0),(9,.ptr (nx+8) 1 0),(10,.ptr x.2.1 1 0)])
  (λx H n=>x.1<=x.2.2.1.length/\VOk a b x.2.2.1/\(∀j,j<x.1->Clo a b (x.2.2.1.map prV) (prV (x.2.2.1.getD j default)))/\SMem a b nx H0 H x.2.2.1 x.2.2.2 n/\nx+9<=x.2.1/\x.2.1<n/\H x.2.1=some [.int .i64 x.1]/\bk x.2.2.2≠some x.2.1)
  (λx=>65-x.1) (0,nx+9,[⟨0,0,0,⟨0,0,0,0,0,0,0⟩⟩],.msl (nx+5) 10 10 0 1)
  ⟨bo _,VOk.start oa ob _,λj hj=>absurd hj (Nat.not_lt_zero _),⟨by simp (disch:=omega) only[ab,ae],by simp (disch:=omega) only[ab,ae],by simp (disch:=omega) only[ab,ae],by simp (disch:=omega) only[ab,ae],by simp (disch:=omega) only[ab,ae],by simp (disch:=omega) only[ab,ae];rfl,by simp (disch:=omega) only[ab,ae];rfl,by simp (disch:=omega) only[ab,ae];rfl,Row.box (sz:=10) (nx+5) 1 _ (by simp (disch:=omega) only[ab,ae];rfl) rfl,λc h=>by cases h;exact .inl rfl,by omega,λy hy=>by simp (disch:=omega) only[ab]⟩,bc _,by dsimp only;omega,by simp (disch:=omega) only[ae];rfl,λh=>by cases h⟩ (by simp (disch:=omega) only[agr,ZG,reduceEqDiff,↓reduceIte,SL,kw]) ?_
 rintro⟨i,c,V,lv⟩ H1 n1 ⟨hi,hV,hD,hM,hc1,hc2,gc,hlc⟩;dsimp only at hi hV hD hM hc1 hc2 gc hlc |-;have hV64:=hV.len sa.len sb.len;have hcl:=eu (f:=iu) (sz:=10) (λ_=>rfl) V;have hlen:=hM.row.lenS hcl (by omega);obtain⟨o1,o2⟩:=hM.row.one;by_cases hi2:i<V.length
 rotate_left
 ·obtain rfl:i=V.length:=by omega
  have z:decide ((V.length:Int)<V.length)=false:=bJ (by omega);have k8:=hM.g8;have k6:=hM.g6;have k7:=hM.g7;have hle:=hM.le;clear zz;have zz:=aI @PE (aI @gc (aI @k8 (aI @k6 (aI @k7 (aI @hlen (aI @z (aI @o1 @o2)))))));repeat' (first|refine zW ?_|apply a_n|apply a_x|refine zO ?_|refine vY ?_|refine cFY ?_|fail)
  refine⟨EL hV.hd λq hq=>?_,(have zz:=@SL;evZ),(have zz:=@SL;evZ),(have zz:=@SL;evZ),k6,k7,⟨lv,k8,o1,o2⟩,hle,hM.fr⟩;obtain⟨v,hv,rfl⟩:=cE.1 hq;obtain⟨j,hj,e⟩:=fW hv;have:=hD j hj
  rwa [show V.getD j default=v by rw[<-e];simp[List.getD,hj]] at this
 obtain⟨B,len,rfl,hB,hBl⟩:=jR hM.row (λe=>by rw[e] at hcl;simp at hcl;omega);rw[hcl] at hBl;obtain rfl:len=V.length:=by omega
 have hBn:B=nx+5\/(nx+9<=B/\B<n1):=hM.rb B rfl;have hBc:B≠c:=λe=>hlc (by rw[e];rfl);have hle:=hM.le;have z:decide ((i:Int)<V.length)=true:=bR (by omega);have e1:=ixN (b:=B) (n:=V.length*10) (sz:=10) (k:=i) (len:=V.length) hi2;have hr:rd H1 2 (.ptr B (V.length*10) (i*10))=some [.int .i64 (V.getD i default).p0,.int .i64 (V.getD i default).p1]:=rdP (f:=iu) (sz:=10) (λ_=>rfl) hB rfl (k:=i) (o:=0) (q:=2) hi2 (by omega);have hvm:=ao hi2;obtain⟨hs1,hs2⟩:=hV.rng _ hvm;have hbo:=hV.both _ hvm;have ka:=hM.ga;have kb:=hM.gb;have k8:=hM.g8;have ixa:=tz hs1;have ixb:=tz hs2;rw[nK] at ixa ixb;clear zz;have zz:=aI @PE (aI @gc (aI @k8 (aI @hlen (aI @z (aI @o1 (aI @o2 (aI @e1 @hr)))))));repeat' (first|refine zW ?_|apply a_n|refine zO ?_|refine vY ?_|refine alY ?_|refine stY ?_|refine cTY ?_|fail)
 refine fg _ rfl (λ_ _ h=>h) ?_;clear zz;have zz:=aI @PE (aI @ka (aI @kb (aI @Et (aI @ixa @ixb))));repeat' (first|apply a_n|refine zO ?_|refine nvY ?_|apply fm|fail)
 refine ce ev0 ev0 (KH (a.st (V.getD i default).p0) (b.st (V.getD i default).p1) _ _) ?_;rintro _ _ _ ⟨rfl,rfl,rfl⟩;clear zz;have zz:=@PE;repeat' (first|refine zW ?_|apply a_n|refine zO ?_|fail)
 have hxa:(a.st (V.getD i default).p0).length<=1000000:=eK (jB (fJ hs1)) (eK oa.m4096 (by omega));have hxb:(b.st (V.getD i default).p1).length<=1000000:=eK (jB (fJ hs2)) (eK ob.m4096 (by omega));have hmo:=yL _ _ _ (oW oa hs1) (oW ob hs2) (bc _);have hcl2:=λP h=>Mu oa ob (P:=P) (q:=prV (V.getD i default)) hs1 hs2 h;have hnd:=λs hs hd=>Ci oa ob (q:=prV (V.getD i default)) hs1 hs2 hbo (s:=s) hs hd;refine kF (n1+1+1+1) (n1+1+1+1+1) rfl rfl ev0 (λc0 cj hy=>?_)
 refine Abs.Fn.mono (HB (a.st (V.getD i default).p0) (b.st (V.getD i default).p1) hxa hxb (n1 + 1) (n1 + 1 + 1) (by omega) (by omega) (by simp (disch:=omega) only [ab,ae]) (by simp (disch:=omega) only [ab,ae])
  (I:=λD H n=>n1+4<=n/\H (n1+3)=some [c0]/\H c=some [.int .i64 i]/\∃V' lv' R,SMem a b nx H0 H V' lv' n/\VOk a b V'/\V'=V++R/\(∀s∈D,0<=s.t0/\0<=s.t1/\(s.t0.toNat,s.t1.toNat)∈V'.map prV)/\∀x,bk lv'=some x->x≠c/\x≠n1+1/\x≠n1+2/\x≠n1+3)
  (Q:=λH n=>H (n1+3)=some [cj .ret]/\n1+4<=n/\(∀y,y<nx->H y=H0 y)/\∃lv wv,H (nx+3)=some [lv]/\H (nx+4)=some [wv]/\lv.one=true/\lv.cells=[lv]/\¬EqA a b/\∃b' k,0<k/\wv=.msl b' (k*7) 7 0 k) ?_ ?_ ?_) ?_
 ·rintro D H n H' n' ⟨q1,q2,q3,V',lv',R,q4,q5,q6,q7,q8⟩ hn hs;exact⟨by omega,(hs _ (by omega) (by omega) (by omega)).trans q2,(hs _ (by omega) (by omega) (by omega)).trans q3,V',lv',R,q4.same hn (λy hy=>hs y (by omega) (by omega) (by omega)) (λx hx=>hs x (by rcases q4.rb x hx with h|h<;>omega) (q8 x hx).2.1 (q8 x hx).2.2.1),q5,q6,q7,q8⟩
 ·rintro D s H n ⟨q1,q2,q3,V',lv',R,q4,q5,q6,q7,q8⟩ hnn ⟨R',hR'⟩;have hsm:s∈mrg (a.st (V.getD i default).p0) (b.st (V.getD i default).p1):=by rw[hR'];exact wz _ (gP ..)
  refine hy _ _ _ _ q2 rfl ?_;clear zz;clear hy;have hsc:s.cs=[.int .i64 s.r.n,.int .i64 s.r.h0,.int .i64 s.r.h1,.int .i64 s.r.h2,.int .i64 s.r.h3,.int .i64 s.r.h4,.int .i64 s.r.f,.int .i64 s.t0,.int .i64 s.t1]:=rfl;rw[hsc];have zz:=@PE;repeat' (first|apply a_n|refine zO ?_|refine alY ?_|refine stY ?_|fail)
  refine⟨by simp (disch:=omega) only[ab];exact q2,?_⟩;generalize hX:dv (av _ _ _) (n1+1+1+1)=H3;have w:∀y,y<n->y≠n1+3->H3 y=H y:=λy h1 h2=>by rw[<-hX];simp (disch:=omega) only[bQ,ab]
  have w12:H3 n=some [.int .i64 s.r.n,.int .i64 s.r.h0,.int .i64 s.r.h1,.int .i64 s.r.h2,.int .i64 s.r.h3,.int .i64 s.r.h4,.int .i64 s.r.f,.int .i64 s.t0,.int .i64 s.t1]:=by rw[<-hX];simp (disch:=omega) only[bQ,ae];rfl
  clear zz;clear hX;have hle4:=q4.le;have m:=q4.same (H':=H3) (n':=n+1) (by omega) (λy hy=>w y (by omega) (by omega)) (λx hx=>w x (by rcases q4.rb x hx with h|h<;>omega) (q8 x hx).2.2.2);have m5:=m.gf;have m8:=m.g8;have m9:=m.g9;have mc:=(w c (by omega) (by omega)).trans q3;have hdf:=MD s;rw[hsc] at hdf;obtain⟨p1,p2⟩:=m.row.one;have hds:Dat (.agg [.int .i64 s.r.n,.int .i64 s.r.h0,.int .i64 s.r.h1,.int .i64 s.r.h2,.int .i64 s.r.h3,.int .i64 s.r.h4,.int .i64 s.r.f,.int .i64 s.t0,.int .i64 s.t1]):=Dat.agg (DatL.cons .int (DatL.cons .int (DatL.cons .int (DatL.cons .int (DatL.cons .int (DatL.cons .int (DatL.cons .int (DatL.cons .int (DatL.cons .int DatL.nil)))))))));by_cases hd:s.t0<0\/s.t1<0
  ·have zd:(decide (s.t0<0) || decide (s.t1<0))=true:=by
     rcases hd with h|h
     ·rw[bR h];rfl
     ·rw[bR h,Bool.or_true]
   rw[zd] at hdf;have zz:=aI @PE (aI @m5 @w12);repeat' (first|refine zW ?_|apply a_n|refine zO ?_|refine vY ?_|refine cY ?_ (hp:=hdf)|refine cTY ?_|fail)
   obtain⟨S,hSub,zS,zN⟩:∃S:Hp,Sub S H3/\(∀x,x<n+1->S x=H3 x)/\∀x,¬x<n+1->S x=none:=by
    refine⟨λx=>if x<n+1 then H3 x else none,?_,λx h=>if_pos h,λx h=>if_neg h⟩;intro x cs h;by_cases q:x<n+1
    ·exact(if_pos q).symm.trans h
    ·have h2:none=some cs:=(if_neg q).symm.trans h;cases h2
   have s8:=(zS (nx+6) (by omega)).trans m8;have sc:=(zS c (by omega)).trans mc;have s12:=(zS n (by omega)).trans w12;refine fg S rfl hSub ?_;clear zz;have zz:=aI @PE (aI @s8 (aI @sc (aI @s12 (aI @p1 @p2))));repeat' (first|apply a_n|refine zO ?_|refine nvY ?_|fail)
   have hcl':=eu (f:=iu) (sz:=10) (λ_=>rfl) V';obtain⟨B',len,rfl,hB',hBl'⟩:=jR m.row (λe=>by have:=q5.ne;rw[e] at hcl';simp at hcl';omega);rw[hcl'] at hBl';obtain rfl:len=V'.length:=by omega
   have hB1:=m.rb B' rfl;have hwc:=MY V' i B' s.r H3 (n+1) hB' (by rcases hB1 with h|h<;>omega) (by have:=q5.len sa.len sb.len;omega) (by rw[q6,cP];omega) q5.fr;rw[PC.1] at hwc;refine dz ?_;refine ce ev0 ev0 hwc ?_;rintro _ H5 n5 ⟨⟨b',k,hk,rfl⟩,hle5,fr5⟩;refine iE ⟨λx cs h=>?_,?_⟩
   ·by_cases q:x<n+1
    ·rw[fr5 x q,<-zS x q];exact h
    ·rw[zN x q] at h;cases h
   have f6:=(fr5 (nx+3) (by omega)).trans m.g6;have f7:=(fr5 (nx+4) (by omega)).trans m.g7;clear zz;have zz:=aI @PE (aI @f6 @f7);repeat' (first|apply a_n|apply a_r|refine zO ?_|apply fm|refine stY ?_|fail)
   exact .inr ⟨rfl,ae,by omega,λy hy=>by simp (disch:=omega) only[ab];exact(fr5 y (by omega)).trans (m.fr y hy),_,_,by simp (disch:=omega) only[ab,ae];rfl,by simp (disch:=omega) only[ab,ae];rfl,rfl,rfl,hnd s hsm hd,b',k,hk,rfl⟩
  have zd:(decide (s.t0<0) || decide (s.t1<0))=false:=by
   rw[bJ (λh=>hd (.inl h)),bJ (λh=>hd (.inr h))];rfl
  rw[zd] at hdf;have z1:decide (s.t0≥0)=true:=bR (by omega);have z2:decide (s.t1≥0)=true:=bR (by omega)
  have hkey:AV.agg [.int .i64 s.t0,.int .i64 s.t1]=pkV (s.t0.toNat,s.t1.toNat):=by
   unfold pkV;rw[Int.toNat_of_nonneg (by omega),Int.toNat_of_nonneg (by omega)]
  have zz:=aI @PE (aI @m5 (aI @m9 (aI @w12 (aI @z1 (aI @z2 @Et)))));repeat' (first|refine zW ?_|apply a_n|refine zO ?_|refine vY ?_|refine cY ?_ (hp:=hdf)|refine gTY ?_|refine cFY ?_|fail)
  by_cases hmem:(s.t0.toNat,s.t1.toNat)∈V'.map prV
  ·obtain⟨k,hk,hf⟩:=GY hmem;rw[<-hkey] at hf;refine mJ (b:=nx+7) ev0 m.gm ev0 rfl hf ?_;rw[show mget (AV.bool false) false (some k) (j4 V'.length)=(j4 V'.length).getD k .undef from rfl,Bs (by rw[bi] at hk;exact hk)];clear zz;have zz:=@PE;repeat' (first|apply a_n|refine zO ?_|refine vY ?_|refine gTY ?_|refine cFY ?_|fail)
   refine .inl ⟨rfl,⟨by omega,by simp (disch:=omega) only[ae],by simp (disch:=omega) only[ab];exact mc,V',lv',R,m.same (bc _) (λy hy=>by simp (disch:=omega) only[ab]) (λx hx=>by have:=(q8 x hx).2.2.2;simp (disch:=omega) only[ab]),q5,q6,?_,q8⟩,by omega,by simp (disch:=omega) only[ab];exact w _ (by omega) (by omega),by simp (disch:=omega) only[ab];exact w _ (by omega) (by omega)⟩;intro s' hs';rcases oh.1 hs' with h|h
   ·exact q7 s' h
   ·obtain rfl:=gH.1 h;exact⟨by omega,by omega,hmem⟩
  ·have hf:=Hn hmem;rw[<-hkey] at hf;refine mJ (b:=nx+7) ev0 m.gm ev0 rfl hf ?_;rw[show mget (AV.bool false) false none (j4 V'.length)=.bool false from rfl];clear zz;have zz:=aI @PE (aI @m9 @w12);repeat' (first|refine zW ?_|apply a_n|refine zO ?_|refine vY ?_|refine gTY ?_|refine cTY ?_|fail)
   refine nJ (b:=nx+7) ev0 m.gm ev0 ev0 rfl hf ?_;clear zz;have zz:=aI @PE (aI @m8 (aI @w12 @mc));repeat' (first|apply a_n|refine zO ?_|refine vY ?_|refine blY ?_|fail)
   have hcl':=eu (f:=iu) (sz:=10) (λ_=>rfl) V';have hl':=q5.len sa.len sb.len;have hB1:=m.rb;refine dY (k:=1) (sv:=lv') (xv:=.msl (n+1) 10 10 0 1) (cs:=cL iu V') (new:=[.int .i64 s.t0,.int .i64 s.t1,.int .i64 i,.int .i64 s.r.n,.int .i64 s.r.h0,.int .i64 s.r.h1,.int .i64 s.r.h2,.int .i64 s.r.h3,.int .i64 s.r.h4,.int .i64 s.r.f]) rfl ev0 (m.row.same λx hx=>by rcases hB1 x hx with h|h<;>simp (disch:=omega) only[ab]) ev0 (dw rfl) rfl rfl (by omega) (by omega) (by omega) ?_;rintro lv2 H4 n4 r1 r2 r3 r4 r5
   have f:∀y,y<n+1->y≠nx+7->bk lv'≠some y->H4 y=H3 y:=λy h1 h2 h3=>by
    rw[r4 y (by omega) h3];simp (disch:=omega) only[ab]
   have f7:H4 (nx+7)=some [.omap ((V'.map prV).map pkV++[pkV (s.t0.toNat,s.t1.toNat)]) (j4 V'.length++[.bool true])]:=by
    rw[r4 (nx+7) (by omega) (λh=>by rcases hB1 _ h with h|h<;>omega),<-hkey];simp (disch:=omega) only[ab,ae];rfl
   rw[wR] at f7;have f8:=(f (nx+6) (by omega) (by omega) (λh=>by rcases hB1 _ h with h|h<;>omega)).trans m8;have hg:V'.getD i default=V.getD i default:=by rw[q6];simp[List.getD,gG hi2]
   have hiV:i<V'.length:=by rw[q6,cP];omega
   have ht0:=(mo oa hs1 (hmo s hsm).1).2 (by omega);have ht1:=(mo ob hs2 (hmo s hsm).2).2 (by omega);rw[<-hg] at ht0 ht1;have hV2:=q5.snoc oa ob hiV ht0.1 ht1.1 hmem;have hf9:∀y,y<nx+9->y≠nx+5->y≠nx+7->H4 y=H3 y:=λy h1 h2 h3=>f y (by omega) h3 (λh=>by rcases hB1 _ h with h|h<;>omega);have hc0:∀y,y=c\/y=n1+1\/y=n1+2->H4 y=H3 y:=λy h=>f y (by omega) (by omega) (λhx=>by have:=q8 y hx;omega);obtain⟨p3,p4⟩:=r1.one;clear zz;have zz:=aI @PE (aI @f8 (aI @p3 @p4));repeat' (first|apply a_n|refine zO ?_|refine stY ?_|fail)
   refine .inl ⟨rfl,⟨by omega,by simp (disch:=omega) only[ae],by simp (disch:=omega) only[ab];exact(hc0 c (.inl rfl)).trans mc,V'++[⟨s.t0.toNat,s.t1.toNat,i,s.r⟩],lv2,R++[⟨s.t0.toNat,s.t1.toNat,i,s.r⟩],⟨?_,?_,?_,?_,?_,?_,?_,?_,?_,?_,by omega,?_⟩,hV2,by rw[q6,io],?_,?_⟩,by omega,by simp (disch:=omega) only[ab];exact(hc0 _ (.inr (.inl rfl))).trans (w _ (by omega) (by omega)),by simp (disch:=omega) only[ab];exact(hc0 _ (.inr (.inr rfl))).trans (w _ (by omega) (by omega))⟩
   ·simp (disch:=omega) only[ab];exact(hf9 _ (by omega) (by omega) (by omega)).trans m.ga
   ·simp (disch:=omega) only[ab];exact(hf9 _ (by omega) (by omega) (by omega)).trans m.gb
   ·simp (disch:=omega) only[ab];exact(hf9 _ (by omega) (by omega) (by omega)).trans m.gf
   ·simp (disch:=omega) only[ab];exact(hf9 _ (by omega) (by omega) (by omega)).trans m.g6
   ·simp (disch:=omega) only[ab];exact(hf9 _ (by omega) (by omega) (by omega)).trans m.g7
   ·simp (disch:=omega) only[ab,ae];rfl
   ·simp (disch:=omega) only[ab];rw[dp,dp,cP];exact f7
   ·simp (disch:=omega) only[ab];exact(hf9 _ (by omega) (by omega) (by omega)).trans m.g9
   ·rw[eR,mH]
    have r1':Row H4 10 lv2 (cL iu V'++(iu ⟨s.t0.toNat,s.t1.toNat,i,s.r⟩).cells):=by
     show Row H4 10 lv2 (cL iu V'++VisV.cs ⟨s.t0.toNat,s.t1.toNat,i,s.r⟩);unfold VisV.cs;simp only[Int.toNat_of_nonneg (show 0<=s.t0 by omega),Int.toNat_of_nonneg (show 0<=s.t1 by omega)];exact r1
    exact r1'.same λx hx=>by
     have h5:=r5 x hx
     have:x≠n1+3/\(x=nx+5\/nx+9<=x):=by
      rcases h5 with h|h
      ·exact⟨(q8 x h).2.2.2,(hB1 x h).imp id (·.1)⟩
      ·omega
     simp (disch:=omega) only[ab]
   ·intro x hx;rcases r5 x hx with h|h
    ·exact(hB1 x h).imp id λq=>⟨q.1,by omega⟩
    ·exact .inr (by omega)
   ·intro y hy;simp (disch:=omega) only[ab];exact(hf9 y (by omega) (by omega) (by omega)).trans (m.fr y hy)
   ·intro s' hs';rcases oh.1 hs' with h|h
    ·obtain⟨z1,z2,z3⟩:=q7 s' h;exact⟨z1,z2,by rw[dp];exact rm _ z3⟩
    ·obtain rfl:=gH.1 h;exact⟨by omega,by omega,by rw[dp];exact wz _ (gH.2 rfl)⟩
   ·intro x hx;rcases r5 x hx with h|h
    ·exact q8 x h
    ·omega
 ·refine ⟨by omega,by simp (disch:=omega) only [ae],by simp (disch:=omega) only [ab]; exact gc,V,_,[],hM.same (by omega) (fun y hy=>by simp (disch:=omega) only [ab]) (fun x hx=>by have:=hM.rb x hx; simp (disch:=omega) only [ab]),hV,(jd _).symm,fun s hs=>(by cases hs),fun x hx=>by
    have:=hM.rb x hx;cases hx;omega⟩
 ·rintro _ H4 n4 (⟨q1,q2,q3,V',lv',R,q4,q5,q6,q7,q8⟩|⟨q2,q1,q3,lv',wv,k6,k7,o1,o2,ne,hw⟩)
  ·refine .inl ⟨q2,?_⟩;clear zz;have zz:=aI @PE @q3;repeat' (first|refine zW ?_|apply a_n|refine zO ?_|refine vY ?_|refine alY ?_|refine stY ?_|fail)
   have hle4:=q4.le;have hB1:=q4.rb
   refine ⟨(i + 1,n4,V',lv'),by dsimp only; omega,⟨by dsimp only; rw [q6,cP]; omega,q5,fun j hj=>?_,q4.same (by omega) (fun y hy=>by simp (disch:=omega) only [bQ,ab]) (fun x hx=>by
    have:=(q8 x hx).2.2.2;have:x=nx+5\/x<n4:=(hB1 x hx).imp id (·.2);simp (disch:=omega) only[bQ,ab]),by dsimp only;omega,by dsimp only;omega,by simp (disch:=omega) only[ae];rfl,λh=>by
    have h:bk lv'=some n4:=h;rcases hB1 _ h with h|h<;>omega⟩,by simp (disch:=omega) only[agr,ZG,reduceEqDiff,↓reduceIte,SL,kw]⟩
   dsimp only at hj |-;by_cases hji:j<i
   ·have hg:V'.getD j default=V.getD j default:=by rw[q6];simp[List.getD,gG (show j<V.length by omega)]
    rw[hg];exact(hD j hji).mono λx hx=>by rw[q6,dp];exact rm _ hx
   ·obtain rfl:j=i:=by omega
    have hg:V'.getD j default=V.getD j default:=by rw[q6];simp[List.getD,gG hi2]
    rw[hg];exact hcl2 _ q7
  ·refine .inr ⟨.ret,(λh=>by cases h),q2,?_⟩;clear zz;have zz:=aI @PE (aI @k6 @k7);repeat' (first|apply a_n|apply a_r|refine zO ?_|fail)
   obtain⟨b',k,hk,rfl⟩:=hw;exact⟨ne,(have zz:=@SL;evZ),(have zz:=@SL;evZ),by omega,λy hy=>by simp (disch:=omega) only[bQ];exact q3 y hy,lv',b',k,by simp (disch:=omega) only[bQ];exact k6,by simp (disch:=omega) only[bQ];exact k7,hk⟩
end
end Go.Proofs.YtbmjaojeplmhnaaGreat
namespace Go.Proofs.YtbmjaojeplmhnaaGreat
open Go Go.Abs
section
open Go.RowKit
abbrev NIL:Value:=.slice none 0 0
theorem pp{P:Program}{N:Cfg}{x y:Code}{x2 y2:C2}{E:Env}{T:Tm}{H:Hp}{nx:Nat}{a:Act}{w:World}{K:CP}{Q:Exit->Act->World->Prop}(hm:P.follows .mixedOrders=true)(hS:Sim E N ⟨T,H,nx⟩ a w)
    (hx:nB P N.n x=some x2) (h:aF P (.seq x2 y2) T H nx K)
    (hy:∀E' T' H' nx' a' w',Ext E w E' w'->Sim E' N ⟨T',H',nx'⟩ a' w'->aF P y2 T' H' nx' K->y.wpIn (FW N.rd) 0 P Q a' w')
    (hz:∀e E' T' H' nx' a' w',e≠AEx.normal->Ext E w E' w'->Sim E' N ⟨T',H',nx'⟩ a' w'->K e T' H' nx'->Q e.cv a' w'):
    (Code.seq x y).wpIn (FW N.rd) 0 P Q a w:=by
 refine wpIn_seq ?_;have h:aF P x2 T H nx (λe T H nx=>aN e (aF P y2 T H nx K) (K e T H nx)):=h;refine wpIn_mono (gl hm x hS (iI hm x x2 hx h)) ?_;rintro e a' w' ⟨e',E',T',H',nx',rfl,he,hS',hk⟩;cases e' with
 |normal=>exact hy E' T' H' nx' a' w' he hS' hk
 |exit i=>exact hz (.exit i) E' T' H' nx' a' w' (λh=>by cases h) he hS' hk
 |ret=>exact hz .ret E' T' H' nx' a' w' (λh=>by cases h) he hS' hk
def FnV(P:Program)(f:FuncId)(args:List AV)(H:Hp)(nx:Nat)(R:AV->Value->Hp->Nat->Prop):Prop:=
 cok P f=true/\∀(E:Env)(w:World)(vs:List Value),EnvOk E w->HeapOk E H nx w->cJ E nx->dI E w args vs->
  Calls P f vs.toArray w λe w'=>∃v E' r H' nx',e=.returned v/\Ext E w E' w'/\EnvOk E' w'/\HeapOk E' H' nx' w'/\cJ E' nx'/\Rel E' w' r v/\R r v H' nx'
theorem FnV.fn{P:Program}{f:FuncId}{args:List AV}{H:Hp}{nx:Nat}{R:AV->Value->Hp->Nat->Prop}{R':AV->Hp->Nat->Prop}(h:FnV P f args H nx R)(hR:∀r v H' nx',R r v H' nx'->R' r H' nx'):Abs.Fn P f args H nx R':=
 ⟨h.1,λE w vs h1 h2 h3 h4=>(h.2 E w vs h1 h2 h3 h4).mono λ_ _ ⟨v,E',r,H',nx',k1,k2,k3,k4,k5,k6,k7⟩=>⟨v,E',r,H',nx',k1,k2,k3,k4,k5,k6,hR _ _ _ _ k7⟩⟩
theorem FnV.of{P:Program}{f:FuncId}{fn:Func}{c:Code}{args:List AV}{H:Hp}{nx:Nat}{R:AV->Value->Hp->Nat->Prop}(hk:cok P f=true)(hf:P.funcs[f]?=some fn)(hc:fn.body=some c)(hlen:args.length<=fn.ntmps)
    (h:∀(E:Env)(w:World)(a:Act)(N:Cfg),N.n=fn.ntmps->N.rd=none->Sim E N ⟨T0 args,H,nx⟩ a w->c.wpIn (FW N.rd) 0 P (λe a' w'=>(e=.normal\/e=.ret)/\∃E' T' H' nx' r v,Ext E w E' w'/\Sim E' N ⟨T',H',nx'⟩ a' w'/\(∀w2,Cells w' w2->(results fn a'.tmps).run P w2=.ok v w2)/\Rel E' w' r v/\R r v H' nx') a w):FnV P f args H nx R:=by
 refine⟨hk,λE w vs hE hh hfr hv=>?_⟩;refine(callsIn_wide (n:=0)).1 (callsIn_of_wp_marks hf hc trivial ?_)
 have hS:Sim E ⟨fn.ntmps,w.heap.size,none⟩ ⟨T0 args,H,nx⟩ {tmps:=vs.toArray++Array.replicate (fn.ntmps-vs.toArray.size) Go.undef,defers:=[]} w:=by
  refine⟨hE,hh,hfr,λl hl=>(by cases hl),bc _,?_,F5 hv _,⟨It,λd hd=>(by cases hd)⟩⟩;simp[hv.1];omega
 refine wpIn_mono (F:=Fence.wide) (h E w _ ⟨fn.ntmps,w.heap.size,none⟩ rfl rfl hS) ?_;rintro e a' w₁ ⟨hx,E',T',H',nx',r,v,he,hS',h1,h2,hk⟩
 have:LeavesInM Fence.wide 0 P fn a'.tmps (λe w'=>∃v E' r H' nx',e=.returned v/\Ext E w E' w'/\EnvOk E' w'/\HeapOk E' H' nx' w'/\cJ E' nx'/\Rel E' w' r v/\R r v H' nx') a'.defers .returning w₁:=by
  refine mM (E:=E') (N:=⟨fn.ntmps,w.heap.size,none⟩) (w₀:=w₁) h1 (λw' hb hb2 hs hu hc=>?_) a'.defers w₁ hS'.defers (Below.refl _ _) (Below.refl _ _) ⟨rfl,bc _⟩ (λ_ _ h _=>h) (λ_ _ h=>h);obtain⟨k1,k2,k3,k4⟩:=wY hE he hS'.env hS'.heap hb hb2 hs hu hc;exact⟨v,_,r,H',nx',rfl,k1,k2,k3,hS'.fresh,k4 _ _ h2,hk⟩
 rcases hx with rfl|rfl
 ·exact this
 ·exact this
theorem Fy{P:Program}{E:Env}{H H':Hp}{nx:Nat}{w:World}(hh:HeapOk E H nx w){t:TypeId}{p:AV}{vp:Value}(hp:Rel E w p vp)(h:lQ P t p .esl H=some H'):
    ∃ad w',vp=.pointer (some ad)/\(Instr.storeAt t vp NIL).run P w=.ok () w'/\w'.cell? ad=some NIL:=by
 unfold lQ at h;split at h
 ·rename_i b n off;split at h
  ·rename_i cs hb;split at h
   case isFalse=>cases h
   case isTrue hc=>
    obtain⟨rfl,ht,hf,hsz,hfit,hpos⟩:=hc;cases h;cases hp with
    |ptr _ _ _ blk bsz hm=>
    rcases hh.box b cs hb with hn0|⟨blk',sz',hx⟩
    ·rw[hn0] at hm;cases hm
    ·rw[hx.mu] at hm;cases hm;obtain⟨vals,ty,fz,k1,kz,k2,k3,k4⟩:=hx.cells;have hrun:=eC P blk off ty fz [NIL] 0 vals w k1 kz (by have:(AV.esl).cells.length=1:=rfl;simp;omega) (λv hv=>by rw[gH.1 hv];rfl);simp only[uM] at hrun;have h1c:(AV.esl).cells.length=1:=rfl;refine⟨⟨blk,off,none⟩,w.setRow blk (vals.toList.take off++[NIL]++vals.toList.drop (off+[NIL].length)).toArray,rfl,?_,?_⟩
     ·have hs:P.cellsOf t=1:=by rw[<-hsz];rfl
      have hcs:(NIL).cells=#[NIL]:=rfl;simp[Instr.storeAt,Instr.sureAddr,storeVar,aU ht,hcs,hs];simpa using hrun
     ·have:=setRow_heap w blk vals (vals.toList.take off++[NIL]++vals.toList.drop (off+[NIL].length)).toArray ty fz k1;have hl:off<vals.size:=by omega
      simp only[World.cell?,this];have e:(List.take off vals.toList).length=off:=by simp;omega
      simp[List.getElem?_append,e,Nat.min_eq_left (Nat.le_of_lt hl)]
  ·cases h
 ·cases h
theorem Dz{P:Program}{N:Nat}{dsts:List (Option Nat)}{o:Oper}{i:Op2}{l:List Op2}{T:Tm}{H:Hp}{nx:Nat}{K:SP}(hc:li P N dsts [o]=some [i])(h:ai P .text (i::l) T H nx K):
    aop P N .text dsts o T H nx (λT H nx=>ai P .text l T H nx K):=gN (K:=λT H nx=>ai P .text l T H nx K) [o] [i] hc h
theorem yy{P:Program}{N:Cfg}{rr:Option Nat}{ops:Array Oper}{Q:Exit->Act->World->Prop}{o:Oper}{rest:List Oper}{i:Op2}{l:List Op2}{E:Env}{T:Tm}{H:Hp}{nx:Nat}{a:Act}{w:World}{K:SP}(hS:Sim E N ⟨T,H,nx⟩ a w)
    (hc:li P N.n (ops.toList.map (·.dst)) [o]=some [i]) (h:ai P .text (i::l) T H nx K)
    (hK:∀E' T' H' nx' a' w',Ext E w E' w'->Sim E' N ⟨T',H',nx'⟩ a' w'->ai P .text l T' H' nx' K->wpListIn (FW rr) 0 P ops Q rest a' w'):wpListIn (FW rr) 0 P ops Q (o::rest) a w:=
 jE (rr:=rr) (ops:=ops) (Q:=Q) (next:=wpListIn (FW rr) 0 P ops Q rest) hS (Dz hc h) hK
theorem GC{P:Program}{N:Cfg}{rr:Option Nat}{ops:Array Oper}{Q:Exit->Act->World->Prop}{o:Oper}{ty:TypeId}{t:Nat}{E:Env}{T:Tm}{H:Hp}{nx:Nat}{a:Act}{w:World}{K:SP}
    (ho:o.op=.store ty (.tmp t) (.const NIL)) (hg:o.guard=none) (hd:o.dst=none) (ht:tok P ty=true) (hk:P.cellsOf ty=1) (hS:Sim E N ⟨T,H,nx⟩ a w)
    (hc:li P N.n (ops.toList.map (·.dst)) [o]=some [⟨none,none,.st 1 (.t t) (.c .esl)⟩]) (h:ai P .text [⟨none,none,.st 1 (.t t) (.c .esl)⟩] T H nx K)
    (hK:∀E' T' H' nx' w',Ext E w E' w'->Sim E' N ⟨T',H',nx'⟩ a w'->K T' H' nx'->(∃ad,a.tmps.getD t Go.undef=.pointer (some ad)/\w'.cell? ad=some NIL)->Q .normal a w'):wpListIn (FW rr) 0 P ops Q [o] a w:=by
 have h0:=jE (rr:=rr) (ops:=ops) (Q:=λ_ _ _=>False) (next:=λa' w'=>∃E' T' H' nx',Ext E w E' w'/\Sim E' N ⟨T',H',nx'⟩ a' w'/\K T' H' nx') hS (Dz hc h) (λE' T' H' nx' a' w' h1 h2 h3=>⟨E',T',H',nx',h1,h2,h3⟩);have hw:Region.wanted o (yielded ops a.tmps)=true:=by simp[Region.wanted,hg]
 rw[if_pos hw] at h0;have h0:=h0.2;have hnd:∀c,o.op≠.defer c:=λc=>by rw[ho];intro h;cases h
 have hst:∃H',lQ P ty (T t) .esl H=some H':=by
  simp only[ai,g2,aS,bj,ic,Cs,and_false,or_false] at h;have h:=h.2;simp only[kW,ov] at h;unfold lQ;split at h
  ·rename_i b n off hp;rw[hp];dsimp only;cases hb:H b with
   |none=>rw[hb] at h;exact h.elim
   |some cs=>
    rw[hb] at h;dsimp only at h |-;by_cases q:cs.length=n/\(AV.esl).flat=true/\(AV.esl).cells.length=1/\off+1<=n
    ·exact⟨_,if_pos ⟨q.1,ht,q.2.1,by rw[hk];exact q.2.2.1,by rw[hk];exact q.2.2.2,by omega⟩⟩
    ·change ax (if cs.length=n/\(AV.esl).flat=true/\(AV.esl).cells.length=1/\off+1<=n then some (AV.tup [],av H b (cI cs off (AV.esl).cells),nx) else none) _ at h;rw[if_neg q] at h;exact h.elim
  ·exact h.elim
 obtain⟨H',hst⟩:=hst;obtain⟨ad,w1,e1,e2,e3⟩:=Fy hS.heap (hS.tmps t) hst
 have hrun:(execOp a.eval o).run P w=.ok .skip w1:=by
  unfold execOp;rw[ho];have e2':(Instr.storeAt ty (a.eval (.tmp t)) (a.eval (.const NIL))).run P w=.ok () w1:=e2;show(do Instr.storeAt ty (a.eval (.tmp t)) (a.eval (.const NIL));pure Next.skip:Sem Next).run P w=_;rw[bA,e2'];rfl
 rw[fX hnd,hrun,Oper.uponIn_skip,hd] at h0;obtain⟨E',T',H',nx',k1,k2,k3⟩:=h0;show(if _ then _ else _);rw[if_pos hw];refine⟨λ_ _=>trivial,?_⟩;rw[fX hnd,hrun,Oper.uponIn_skip,hd];exact hK E' T' H' nx' w1 k1 k2 k3 ⟨ad,e1,e3⟩
theorem Jm{P:Program}{E:Env}{w:World}{H:Hp}{nx:Nat}{T:Tm}{tmps:Array Value}{fn:Func}{x:AV}{s t:Nat}{ts tt:TypeId}(hh:HeapOk E H nx w)(ht:∀t,Rel E w (T t) (tmps.getD t Go.undef))(hf:fn.results=#[.cell s ts,.cell t tt])
    (h:ma P T H fn.results.toList=some x) (hk:tok P tt=true) (ha:sf P tt=false) (hn:∃ad,tmps.getD t Go.undef=.pointer (some ad)/\w.cell? ad=some NIL):
    ∃v1,(∀w',Cells w w'->(results fn tmps).run P w'=.ok (.tuple #[v1,NIL]) w')/\Rel E w x (.tuple #[v1,NIL]):=by
 obtain⟨v,h1,h2⟩:=rO (P:=P) (fn:=fn) hh ht h;rw[hf] at h;have h:(match mU P T H [.cell s ts,.cell t tt] with|some [x]=>some x|some xs=>some (.tup xs)|none=>none)=some x:=h;obtain⟨ad,e1,e2⟩:=hn;cases hs:lF P H ts (T s) with
 |none=>simp only[mU,hs] at h;cases h
 |some x1=>
  obtain⟨y,k1,k2⟩:=sQ (P:=P) hh (ht s) hs
  have hrun:∀w',Cells w w'->(results fn tmps).run P w'=.ok (.tuple #[y,NIL]) w':=λw' hw=>by
   have a1:=k1 w' hw
   have a2:(do loadVar tt (<-asAddr (tmps.getD t Go.undef)):Sem Value).run P w'=.ok NIL w':=by
    rw[e1];simp[asAddr,loadVar,iV hk,ha,hw _ _ e2]
   unfold results;rw[Array.mapM_eq_mapM_toList,hf];simp only[map_eq_pure_bind,List.mapM_cons,List.mapM_nil,bA,eG,a1,bu];simp only[bA] at a2;rw[a2];rfl
  refine⟨y,hrun,?_⟩;have:=h1 w (λ_ _ h=>h);rw[hrun w (λ_ _ h=>h)] at this;cases this;exact h2
abbrev Nc(a b:AdvV)(H0:Hp)(nx:Nat)(r:AV)(H':Hp)(nx':Nat):Prop:=nx<=nx'/\(∀y,y<nx->H' y=H0 y)/\∃lv wv,r=.tup [lv,wv]/\((EqA a b/\wv=.esl)\/(¬EqA a b/\∃b' k,0<k/\wv=.msl b' (k*7) 7 0 k))
theorem zI{P:Program}{T:Tm}{H:Hp}{l:List ResultVar}{s t b c:Nat}{x y:AV}(hc:jX P l=some [.c1 s,.c1 t])(h1:T s=.ptr b 1 0)(h2:T t=.ptr c 1 0)(h3:H b=some [x])(h4:H c=some [y]):ma P T H l=some (.tup [x,y]):=by
 have h:bm T H (λr=>r=.tup [x,y]) [.c1 s,.c1 t]:=by
  simp[bm,A9,rv,ax,h1,h2,rd1,h3,h4]
 have:=y9 hc h;cases e:ma P T H l with
 |none=>rw[e] at this;exact this.elim
 |some r=>rw[e] at this;have this:r=_:=this;rw[this]
end
section
attribute [local irreducible] aF ai bj aY aN aM ax aS a8 bm Go.Abs.Fn aX Go.Abs.Pure ap aK Yl
theorem MH(H0:Hp)(nx:Nat){T4:Tm}{H4:Hp}{n4:Nat}{lv:AV}(t6:T4 6=.ptr (nx+3) 1 0)(t7:T4 7=.ptr (nx+4) 1 0)(t8:T4 8=.ptr (nx+6) 1 0)(g3:H4 (nx+3)=some [.esl])(g4:H4 (nx+4)=some [.esl])(g6:H4 (nx+6)=some [lv])(o1:lv.one=true)(o2:lv.cells=[lv])(hn4:nx+9<=n4)(hfr:∀y,y<nx->H4 y=H0 y):
    aF Tryz.prog (.ops 0 [⟨some 82,none,.ld1 (.t 8)⟩,⟨none,none,.st 1 (.t 6) (.t 82)⟩,⟨none,none,.st 1 (.t 7) (.c .esl)⟩]) T4 H4 n4 (λ_ T H n=>T 6=.ptr (nx+3) 1 0/\T 7=.ptr (nx+4) 1 0/\H (nx+3)=some [lv]/\H (nx+4)=some [.esl]/\nx<=n/\∀y,y<nx->H y=H0 y):=by
 refine wnY (zI9 @PE @t6 @t7 @t8 @g3 @g4 @g6 @o1 @o2) ?_;exact⟨(have zz:=@t6;evZ),(have zz:=@t7;evZ),by simp (disch:=omega) only[ab,ae];rfl,by simp (disch:=omega) only[ae];rfl,by omega,λy hy=>by simp (disch:=omega) only[ab];exact hfr y hy⟩
end
theorem zT(a b:AdvV)(sa:ShA a)(sb:ShA b)(oa:AdvOk a)(ob:AdvOk b)(H0:Hp)(nx:Nat):
    FnV Tryz.prog 100 [ca a,ca b,.func 101 []] H0 nx λr v H' nx'=>Nc a b H0 nx r H' nx'/\(EqA a b->∃v1,v=.tuple #[v1,NIL]):=by
 have hw:=Gj a b sa sb oa ob H0 nx;have hres:jX Tryz.prog Tryz.f100.results.toList=some [.c1 6,.c1 7]:=by kernel_rfl
 refine FnV.of K7.cok Tryz.func100 rfl (B9 rfl) ?_;rintro E w a0 ⟨n,fl,rd⟩ hn hr hS;obtain rfl:n=_:=hn;obtain rfl:rd=none:=hr;generalize hQ:(λ(e:Exit)(a':Act)(w':World)=>(e=.normal\/e=.ret)/\∃E' T' H' nx' r v,Ext E w E' w'/\Sim E' ⟨Tryz.f100.ntmps,fl,none⟩ ⟨T',H',nx'⟩ a' w'/\(∀w2,Cells w' w2->(results Tryz.f100 a'.tmps).run Tryz.prog w2=.ok v w2)/\Rel E' w' r v/\Nc a b H0 nx r H' nx'/\(EqA a b->∃v1,v=.tuple #[v1,NIL]))=Q
 have hz:∀(e:AEx)(E':Env)(T':Tm)(H':Hp)(nx':Nat)(a':Act)(w':World),e≠.normal->Ext E w E' w'->Sim E' ⟨Tryz.f100.ntmps,fl,none⟩ ⟨T',H',nx'⟩ a' w'->Mb a b H0 nx e T' H' nx'->Q e.cv a' w':=by
  intro e E' T' H' nx' a' w' hne he hS' hk;cases e with
  |normal=>exact absurd rfl hne
  |exit i=>exact hk.elim
  |ret=>
   obtain⟨k1,k2,k3,k4,k5,lv,b',k,k6,k7,k8⟩:=hk;obtain⟨v,h1,h2⟩:=rO (P:=Tryz.prog) (fn:=Tryz.f100) hS'.heap hS'.tmps (zI hres k2 k3 k6 k7);rw[<-hQ];exact⟨.inr rfl,E',T',H',nx',_,v,he,hS',h1,h2,⟨k4,k5,_,_,rfl,.inr ⟨k1,b',k,k8,rfl⟩⟩,λh=>absurd h k1⟩
 refine pp follows hS (by kernel_rfl) hw (λE1 T1 H1 n1 a1 w1 he1 hS1 h1=>?_) hz;refine pp follows hS1 (by kernel_rfl) h1 (λE2 T2 H2 n2 a2 w2 he2 hS2 h2=>?_) (λe E' T' H' n' a' w' hne he hS' hk=>hz e E' T' H' n' a' w' hne (he1.trans he) hS' hk);refine pp follows hS2 (by kernel_rfl) h2 (λE3 T3 H3 n3 a3 w3 he3 hS3 h3=>?_) (λe E' T' H' n' a' w' hne he hS' hk=>hz e E' T' H' n' a' w' hne ((he1.trans he2).trans he) hS' hk);refine pp follows hS3 (by kernel_rfl) h3 (λE4 T4 H4 n4 a4 w4 he4 hS4 h4=>?_) (λe E' T' H' n' a' w' hne he hS' hk=>hz e E' T' H' n' a' w' hne (((he1.trans he2).trans he3).trans he) hS' hk);obtain⟨heq,t6,t7,t8,g3,g4,⟨lv,g6,o1,o2⟩,hn4,hfr⟩:=(h4:Mb a b H0 nx .normal T4 H4 n4)
 have ha:=MH H0 nx t6 t7 t8 g3 g4 g6 o1 o2 hn4 hfr;obtain⟨_,_,_,_,hgh,ha⟩:=ha;obtain⟨E4',he4',hS4⟩:=hS4.ghost hgh;refine wpIn_seq (wpIn_region_list ?_);refine yy hS4 (by kernel_rfl) ha (λE5 T5 H5 n5 a5 w5 he5 hS5 h5=>?_);refine yy hS5 (by kernel_rfl) h5 (λE6 T6 H6 n6 a6 w6 he6 hS6 h6=>?_);refine GC (ty:=48) (t:=7) rfl rfl rfl (by kernel_rfl) (by kernel_rfl) hS6 (by kernel_rfl) h6 (λE7 T7 H7 n7 w7 he7 hS7 h7 hnil=>?_);refine wpIn_ret ?_;obtain⟨k1,k2,k3,k4,k5,k6⟩:=h7;obtain⟨v1,r1,r2⟩:=Jm (P:=Tryz.prog) (fn:=Tryz.f100) hS7.heap hS7.tmps rfl (zI hres k1 k2 k3 k4) (by kernel_rfl) (by kernel_rfl) hnil;rw[<-hQ];exact⟨.inr rfl,E7,T7,H7,n7,_,_,((((he1.trans he2).trans he3).trans he4).trans he4').trans ((he5.trans he6).trans he7),hS7,r1,r2,⟨k5,k6,_,_,rfl,.inl ⟨heq,rfl⟩⟩,λ_=>⟨v1,rfl⟩⟩
end Go.Proofs.YtbmjaojeplmhnaaGreat
namespace Go.Proofs.YtbmjaojeplmhnaaGreat
open Go Go.Abs
section
theorem B8{P:Program}{rr:Option Nat}{ops:Array Oper}{Q:Exit->Act->World->Prop}{o:Oper}{rest:List Oper}{a:Act}{w:World}{v:Value}{d:Nat}(hg:o.guard=none)(hd:o.dst=some d)(hnd:∀c,o.op≠.defer c)
    (hrun:(execOp a.eval o).run P w=.ok (.value v) w) (k:wpListIn (FW rr) 0 P ops Q rest (a.put (some d) v) w):wpListIn (FW rr) 0 P ops Q (o::rest) a w:=by
 have hw:Region.wanted o (yielded ops a.tmps)=true:=by simp[Region.wanted,hg]
 show(if _ then _ else _);rw[if_pos hw];refine⟨λ_ _=>trivial,?_⟩;rw[fX hnd,hrun,Oper.uponIn_value,hd];exact k
theorem sW{P:Program}{rr:Option Nat}{ops:Array Oper}{Q:Exit->Act->World->Prop}{o:Oper}{rest:List Oper}{a:Act}{w:World}{v:Value}{x:Operand}{d:Nat}(hg:o.guard=none)(hd:o.dst=some d)(h:o.op=.move x\/o.op=.assign x)(hv:a.eval x=v)
    (k:wpListIn (FW rr) 0 P ops Q rest (a.put (some d) v) w):wpListIn (FW rr) 0 P ops Q (o::rest) a w:=
 B8 hg hd (λc=>by rcases h with h|h<;>rw[h]<;>intro h<;>cases h) (by unfold execOp;rcases h with h|h<;>rw[h,<-hv]<;>rfl) k
theorem FU{P:Program}{rr:Option Nat}{ops:Array Oper}{Q:Exit->Act->World->Prop}{o:Oper}{rest:List Oper}{a:Act}{w:World}{v:Value}{vs:Array Value}{x:Operand}{i d:Nat}(hg:o.guard=none)(hd:o.dst=some d)(h:o.op=.extract x i)(hv:a.eval x=.tuple vs)(hi:vs[i]?=some v)
    (k:wpListIn (FW rr) 0 P ops Q rest (a.put (some d) v) w):wpListIn (FW rr) 0 P ops Q (o::rest) a w:=
 B8 hg hd (fun c=>by rw [h]; intro h; cases h) (by
  unfold execOp;rw[h];show(do pure (Next.value (<-Instr.extract (a.eval x) i)):Sem Next).run P w=_;rw[hv];simp only[Instr.extract,hi];rfl) k
theorem LW{P:Program}{rr:Option Nat}{ops:Array Oper}{Q:Exit->Act->World->Prop}{o:Oper}{rest:List Oper}{a:Act}{w:World}{x:Operand}{t e ty:TypeId}{d:Nat}(hg:o.guard=none)(hd:o.dst=some d)(ht:gw P t=some e)(h:o.op=.binOp .eql t x (.const NIL) ty)(hv:a.eval x=NIL)
    (k:wpListIn (FW rr) 0 P ops Q rest (a.put (some d) (.bool true)) w):wpListIn (FW rr) 0 P ops Q (o::rest) a w:=
 B8 hg hd (fun c=>by rw [h]; intro h; cases h) (by
  have hu:=iC ht
  have he0:∀d,(Op.equalIn (d+1) t NIL NIL).run P w=.ok true w:=by
   intro d;simp only[Op.equalIn,bA,cp hu,bu];rfl
  have he:=he0 9999
  have hrun:(do eqGuard .eql t x (.const NIL) NIL NIL;binOp .eql t NIL NIL:Sem Value).run P w=.ok (.bool true) w:=by
   rw[bA,gK (by simp) (by simp)];simp only[bu,binOp,Op.equal,Op.maxDepth,bA,he];rfl
  have hexec:(execOp a.eval ⟨o.dst,.binOp .eql t x (.const NIL) ty,o.type,o.pos,o.after,o.guard⟩).run P w=.ok (.value (.bool true)) w:=by
   refine kQ ?_;show(do eqGuard _ t x (.const NIL) (a.eval x) NIL;binOp _ t (a.eval x) NIL:Sem Value).run P w=_;rw[hv];exact hrun
  rw[<-h] at hexec;exact hexec) k
theorem JE{P:Program}{rr:Option Nat}{ops:Array Oper}{Q:Exit->Act->World->Prop}{o:Oper}{rest:List Oper}{a:Act}{w:World}{f:Operand}{args:Array Operand}{tys:Array TypeId}{g:FuncId}{d:Nat}(hg:o.guard=none)(hd:o.dst=some d)(ho:o.op=.call {callee:=.value f,args:=args,argTypes:=tys})
    (hf:a.eval f=.func (.func g) #[] #[]) (hk:cok P g=true) {vs:List Value} (hl:args.toList.map a.eval=vs) (hc:Calls P g vs.toArray w λe w'=>∃v,e=.returned v/\wpListIn (FW rr) 0 P ops Q rest (a.put (some d) v) w'):wpListIn (FW rr) 0 P ops Q (o::rest) a w:=by
 have hw:Region.wanted o (yielded ops a.tmps)=true:=by simp[Region.wanted,hg]
 show(if _ then _ else _);rw[if_pos hw];refine⟨λ_ _=>trivial,?_⟩;rw[fX (λc=>by rw[ho];intro h;cases h),lO ho hf hk,Oper.uponIn_enter];refine⟨(λh=>by cases h),?_⟩;have e:args.map a.eval++ #[]=vs.toArray:=by rw[<-hl,jH];simp
 rw[e];refine(lc hc).mono ?_;rintro e w' ⟨v,rfl,h⟩;show wpListIn (FW rr) 0 P ops Q rest (a.put o.dst v) w';rw[hd];exact h
theorem Jp{P:Program}{tmps:Array Value}{fn:Func}{s t u:Nat}{x y z:Value}{w:World}(hf:fn.results=#[.tmp s,.tmp t,.tmp u])(h1:tmps.getD s Go.undef=x)(h2:tmps.getD t Go.undef=y)(h3:tmps.getD u Go.undef=z):
    (results fn tmps).run P w=.ok (.tuple #[x,y,z]) w:=by
 unfold results;rw[Array.mapM_eq_mapM_toList,hf];simp only[map_eq_pure_bind,List.mapM_cons,List.mapM_nil,bA,eG,bu,h1,h2,h3];rfl
theorem jA{a:Act}{d:Nat}{v:Value}:(a.put (some d) v).tmps.size=a.tmps.size:=by simp[Act.put]
theorem rc{a:Act}{d:Nat}{v:Value}(h:d<a.tmps.size):(a.put (some d) v).tmps.getD d Go.undef=v:=by
 simp[Act.put,Array.getD,h]
theorem y6{a:Act}{d t:Nat}{v:Value}(h:d≠t):(a.put (some d) v).tmps.getD t Go.undef=a.tmps.getD t Go.undef:=by
 simp[Act.put,Array.getElem?_setIfInBounds,h]
theorem jJ{a:Act}{d:Nat}{v:Value}(h:d<a.tmps.size):(a.put (some d) v).eval (.tmp d)=v:=rc h
theorem vX{a:Act}{d t:Nat}{v:Value}(h:d≠t):(a.put (some d) v).eval (.tmp t)=a.eval (.tmp t):=y6 h
theorem Sw{E:Env}{N:Cfg}{T:Tm}{H:Hp}{nx:Nat}{a:Act}{w:World}(h:Sim E N ⟨T,H,nx⟩ a w):Sim E N ⟨λ_=>.undef,H,nx⟩ a w:=⟨h.env,h.heap,h.fresh,h.round,h.floor,h.size,λ_=>.undef _,h.defers⟩
theorem ot{E:Env}{N:Cfg}{H:Hp}{nx:Nat}{a:Act}{w:World}{d:Nat}{v:Value}(h:Sim E N ⟨λ_=>.undef,H,nx⟩ a w):Sim E N ⟨λ_=>.undef,H,nx⟩ (a.put (some d) v) w:=⟨h.env,h.heap,h.fresh,h.round,h.floor,jA.trans h.size,λ_=>.undef _,h.defers⟩
end
def PV:C2->C2
 |.seq a (.seq b _)=>.seq a (.seq b .skip)
 |x=>x
def MN(a b:AdvV)(H0:Hp)(nx:Nat):CP
 |.normal,T,H,n=>T 2=.ptr nx 2 0/\T 3=.ptr (nx+1) 2 0/\H nx=some [.int .i64 a.n,aQ a.states]/\H (nx+1)=some [.int .i64 b.n,aQ b.states]/\nx+2<=n/\∀y,y<nx->H y=H0 y
 |_,_,_,_=>False
section
attribute [local irreducible] aF ai bj aY aN aM ax aS a8 bm Go.Abs.Fn aX Go.Abs.Pure ap aK Yl
theorem Jl(a b:AdvV)(sa:ShA a)(sb:ShA b)(oa:AdvOk a)(ob:AdvOk b)(hn:a.n=b.n)(H0:Hp)(nx:Nat):
    aF Tryz.prog (PV (b59).body) (T0 [ca a,ca b]) H0 nx (MN a b H0 nx):=by
 simp only[b59,aw];simp only[PV];have hb:=xp a b sa sb oa ob hn;have d1:=bI a;have d2:=bI b;simp only[ca,PC.2.2.2.1] at hb d1 d2 |-;refine wnY @PE ?_;exact⟨ev0,ev0,by simp (disch:=omega) only[ab,ae],by simp (disch:=omega) only[ae],by omega,λy hy=>by simp (disch:=omega) only[ab]⟩
theorem N6(a b:AdvV)(H0:Hp)(nx:Nat){T4:Tm}{H4:Hp}{n4:Nat}(t2:T4 2=.ptr nx 2 0)(t3:T4 3=.ptr (nx+1) 2 0)(g0:H4 nx=some [.int .i64 a.n,aQ a.states])(g1:H4 (nx+1)=some [.int .i64 b.n,aQ b.states])(hn4:nx+2<=n4)(hfr:∀y,y<nx->H4 y=H0 y):
    aF Tryz.prog (.ops 0 [⟨some 17,none,.ldn 2 (.t 2)⟩,⟨some 18,none,.ldn 2 (.t 3)⟩]) T4 H4 n4 (λ_ T H n=>T 17=.agg [.int .i64 a.n,aQ a.states]/\T 18=.agg [.int .i64 b.n,aQ b.states]/\nx+2<=n/\∀y,y<nx->H y=H0 y):=by
 refine wnY (zI5 @PE @t2 @t3 @g0 @g1) ?_;exact⟨ev0,ev0,hn4,hfr⟩
end
abbrev Lv(a b:AdvV)(H0:Hp)(nx:Nat)(r:AV)(H':Hp)(nx':Nat):Prop:=nx<=nx'/\(∀y,y<nx->H' y=H0 y)/\∃wv,r=.tup [wv,.bool (eqB a b),.int .i64 0]
set_option maxHeartbeats 8000000 in
theorem Kp(a b:AdvV)(sa:ShA a)(sb:ShA b)(oa:AdvOk a)(ob:AdvOk b)(hn:a.n=b.n)(heq:EqA a b)(H0:Hp)(nx:Nat):
    FnV Tryz.prog 59 [ca a,ca b] H0 nx λr _ H' nx'=>Lv a b H0 nx r H' nx':=by
 have hw:=Jl a b sa sb oa ob hn H0 nx;refine FnV.of Ql.cok Tryz.func59 rfl (B9 rfl) ?_;rintro E w a0 ⟨n,fl,rd⟩ hn hr hS;obtain rfl:n=_:=hn;obtain rfl:rd=none:=hr;generalize hQ:(λ(e:Exit)(a':Act)(w':World)=>(e=.normal\/e=.ret)/\∃E' T' H' nx' r v,Ext E w E' w'/\Sim E' ⟨Tryz.f59.ntmps,fl,none⟩ ⟨T',H',nx'⟩ a' w'/\(∀w2,Cells w' w2->(results Tryz.f59 a'.tmps).run Tryz.prog w2=.ok v w2)/\Rel E' w' r v/\Lv a b H0 nx r H' nx')=Q
 have hz:∀(e:AEx)(E':Env)(T':Tm)(H':Hp)(nx':Nat)(a':Act)(w':World),e≠.normal->Ext E w E' w'->Sim E' ⟨Tryz.f59.ntmps,fl,none⟩ ⟨T',H',nx'⟩ a' w'->MN a b H0 nx e T' H' nx'->Q e.cv a' w':=by
  intro e E' T' H' nx' a' w' hne he hS' hk;cases e with
  |normal=>exact absurd rfl hne
  |exit i=>exact hk.elim
  |ret=>exact hk.elim
 refine pp follows hS (by kernel_rfl) hw (λE1 T1 H1 n1 a1 w1 he1 hS1 h1=>?_) hz;refine pp follows hS1 (by kernel_rfl) h1 (λE2 T2 H2 n2 a2 w2 he2 hS2 h2=>?_) (λe E' T' H' n' a' w' hne he hS' hk=>hz e E' T' H' n' a' w' hne (he1.trans he) hS' hk);obtain⟨t2,t3,g0,g1,hn4,hfr⟩:=(h2:MN a b H0 nx .normal T2 H2 n2)
 obtain⟨_,_,_,_,hgh,ha⟩:=N6 a b H0 nx t2 t3 g0 g1 hn4 hfr;obtain⟨E2',he2',hS2⟩:=hS2.ghost hgh;refine wpIn_seq (wpIn_region_list ?_);refine yy hS2 (by kernel_rfl) ha (λE5 T5 H5 n5 a5 w5 he5 hS5 h5=>?_);refine yy hS5 (by kernel_rfl) h5 (λE6 T6 H6 n6 a6 w6 he6 hS6 h6=>?_);obtain⟨t17,t18,hn6,hfr6⟩:=h6;have z:a6.tmps.size=25:=hS6.size;have hdok:dok Tryz.f59.ntmps (some 19)=true:=by kernel_rfl
 obtain⟨el,hel⟩:=Er.1 (show(gw Tryz.prog 48).isSome=true by kernel_rfl)
 have hcalls:=(zT a b sa sb oa ob H6 n6).2 E6 w6 [a6.eval (.tmp 17),a6.eval (.tmp 18),a6.eval (.func 101)] hS6.env hS6.heap hS6.fresh ⟨rfl,fun i x y hx hy=>by
  match i,hx,hy with
  |0,hx,hy=>cases hx;cases hy;have:Rel E6 w6 (T6 17) _:=hS6.tmps 17;rw[t17] at this;unfold ca;rw[PC.2.2.2.1];exact this
  |1,hx,hy=>cases hx;cases hy;have:Rel E6 w6 (T6 18) _:=hS6.tmps 18;rw[t18] at this;unfold ca;rw[PC.2.2.2.1];exact this
  |2,hx,hy=>cases hx;cases hy;exact .func _ [] [] rfl (λi x y h=>by simp at h)
  |i+3,hx,hy=>simp at hx⟩
 refine JE rfl rfl rfl rfl K7.cok rfl (Calls.mono hcalls ?_);rintro e w7 ⟨v,E7,r,H7,n7,rfl,he7,hE7,hH7,hF7,hrel,⟨q1,q2,lv,wv,rfl,q3⟩,q4⟩;obtain⟨v1,rfl⟩:=q4 heq;refine⟨_,rfl,?_⟩;have hS7:=Sw (hS6.put he7 hE7 hH7 hF7 hdok hrel);refine sW (v:=.tuple #[v1,NIL]) rfl rfl (.inl rfl) (jJ (by omega)) ?_;refine FU (v:=v1) (vs:=#[v1,NIL]) rfl rfl rfl (jJ (by simp only[jA];omega)) rfl ?_;refine FU (v:=NIL) (vs:=#[v1,NIL]) rfl rfl rfl ((vX (by decide)).trans (jJ (by simp only[jA];omega))) rfl ?_;refine sW (v:=v1) rfl rfl (.inr rfl) ((vX (by decide)).trans (jJ (by simp only[jA];omega))) ?_;refine sW (v:=NIL) rfl rfl (.inr rfl) ((vX (by decide)).trans (jJ (by simp only[jA];omega))) ?_;refine wpIn_seq (wpIn_region_list ?_);refine sW (v:=NIL) rfl rfl (.inl rfl) (jJ (by simp only[jA];omega)) ?_;refine sW (v:=NIL) rfl rfl (.inl rfl) ((vX (by decide)).trans (jJ (by simp only[jA];omega))) ?_;refine LW rfl rfl hel rfl (jJ (by simp only[jA];omega)) ?_;refine sW (v:=NIL) rfl rfl (.inr rfl) ((vX (by decide)).trans ((vX (by decide)).trans (jJ (by simp only[jA];omega)))) ?_;refine sW (v:=.bool true) rfl rfl (.inr rfl) ((vX (by decide)).trans (jJ (by simp only[jA];omega))) ?_;refine sW (v:=.int .i64 0) rfl rfl (.inr rfl) rfl ?_;refine wpIn_ret ?_;rw[<-hQ];refine⟨.inr rfl,E7,λ_=>.undef,H7,n7,.tup [.esl,.bool true,.int .i64 0],.tuple #[NIL,.bool true,.int .i64 0],(((he1.trans he2).trans he2').trans (he5.trans he6)).trans he7,ot (ot (ot (ot (ot (ot (ot (ot (ot (ot (ot hS7)))))))))),λw2 _=>Jp rfl ((y6 (by decide)).trans ((y6 (by decide)).trans (rc (by simp only[jA];omega)))) ((y6 (by decide)).trans (rc (by simp only[jA];omega))) (rc (by simp only[jA];omega)),?_,by omega,λy hy=>(q2 y (by omega)).trans (hfr6 y hy),.esl,by rw[xN.2 heq]⟩
 exact .tup [.esl,.bool true,.int .i64 0] [NIL,.bool true,.int .i64 0] rfl λi x y hx hy=>by
  match i,hx,hy with
  |0,hx,hy=>cases hx;cases hy;exact .eslnil
  |1,hx,hy=>cases hx;cases hy;exact .bool _
  |2,hx,hy=>cases hx;cases hy;exact .int _ _
  |i+3,hx,hy=>simp at hx
end Go.Proofs.YtbmjaojeplmhnaaGreat
namespace Go.Proofs.YtbmjaojeplmhnaaGreat
open Go Go.Abs
open Nat (reduceEqDiff reduceAdd reduceLeDiff)
theorem mvI{n:Nat}(h1:1<=n)(h5:n<=5):mvK (idL n) (idL n) n=idL n:=by
 have e:bX (idL n) (idL n)=mvK (idL n) (idL n) n:=by unfold bX;rw[cm]
 rw[<-e];refine List.ext_getElem (by rw[bN,cm]) λi h2 h3=>?_;have hi:i<n:=by rwa [cm] at h3
 have:=fp (kP h1 h5) (cm n▸rfl:(idL n).length=(idL n).length) (i:=i) (by rw[cm];exact hi);rw[je hi,c9] at this;have e2:(idL n)[i]=(i:Int):=by simp[idL]
 rw[e2];simpa[List.getD,h2] using this
section
attribute [local irreducible] aF ai bj aY aN aM ax aS a8 bm Go.Abs.Fn aX Go.Abs.Pure ap aK Yl
theorem JS(a b:AdvV)(sa:ShA a)(sb:ShA b)(oa:AdvOk a)(ob:AdvOk b)(hn:a.n=b.n)(H0:Hp)(nx:Nat):
    Abs.Fn Tryz.prog 59 [ca a,ca b] H0 nx (Lv a b H0 nx):=by
 by_cases he:EqA a b
 ·exact(Kp a b sa sb oa ob hn he H0 nx).fn λ_ _ _ _ h=>h
 refine fO Ql ?_;simp only[b59,aw];have hb:=xp a b sa sb oa ob hn;have hs:=λH n=>(zT a b sa sb oa ob H n).fn (R':=Nc a b H n) λ_ _ _ _ h=>h.1;have d1:=bI a;have d2:=bI b;simp only[ca,PC.2.2.2.1] at hb hs d1 d2 |-;refine wnY @PE ?_;refine ce ev0 ev0 (hs _ _) ?_;rintro _ H1 n1 ⟨h1,h2,lv,wv,rfl,h3⟩;rcases h3 with⟨he',rfl⟩|⟨_,b',k,hk,rfl⟩
 ·exact absurd he' he
 have z:eqB a b=false:=by
  cases h:eqB a b
  ·rfl
  ·exact absurd (xN.1 h) he
 refine wnY @PE ?_;refine pR (k:=k) (by((try simp only[bg,ZA,reduceEqDiff,↓reduceIte,reduceAdd,reduceLeDiff]);(try with_reducible rfl));rfl) (λh=>?_) (λh=>by omega) (λh=>by omega);refine wnY @PE ?_;exact⟨by omega,λy hy=>(h2 y (by omega)).trans (by simp (disch:=omega) only[ab]),_,by rw[z]⟩
theorem Mn(p:List Int)(hp:be p=0):pU 97 [aq p,.int .i64 (p.length:Nat)] (.int .i64 0):=by
 obtain⟨p1,p2,p3,p4⟩:=cC hp;have hc:=gW p (show p.length<=_ by omega);rw[hp] at hc;have z:decide ((p.length:Int)≠p.length)=false:=bJ (λh=>h rfl);refine pO RE ?_;simp only[b97,aw];refine wnY @z ?_;exact .int _ _
theorem CB(p:List Int)(a:AdvV)(hp:be p=0)(ha:ShA a)(ho:AdvOk a)(hn:(p.length:Int)=a.n):pU 58 [ca a,aq p] (.tup [ca (e7 p a),.int .i64 0]):=by
 have hck:=oX a ha ho;have hf:=Mn p hp;have hr:=FC p a hp ha ho hn;have d1:=bI a;have d2:=bI (e7 p a);rw[hn] at hf;refine pO Rl ?_;simp only[b58,aw];simp only[ca,PC.2.2.2.1] at hck hr d1 d2 |-;generalize (e7 p a).n=n' at *;generalize (e7 p a).states=S' at *;refine wnY @PE ?_;exact bE (ac (eh (ac (.int _ _) (ac (fL _ _) al))) (ac (.int _ _) al))
theorem J3(p:List Int)(a:AdvV)(hp:be p=0)(ha:ShA a)(ho:AdvOk a)(hn:(p.length:Int)=a.n):pU 26 [ca a,aq p] (.tup [.bool (eqB a (e7 p a)),.int .i64 0]):=by
 have hr:=CB p a hp ha ho hn;have he:=λH n=>JS a (e7 p a) ha (IT ha) ho (ym hp ho hn) rfl H n;have d1:=bI a;have d2:=bI (e7 p a);simp only[ca,PC.2.2.2.1] at hr he d1 d2 |-;refine Pure.of_fn (Abs.Fn.of_c2 follows QT (B9 rfl) ?_);simp only[b26,aw];refine wnY @PE ?_;refine ce ev0 ev0 (he _ _) ?_;rintro _ H1 n1 ⟨h1,h2,wv,rfl⟩;refine wnY @PE ?_;exact bE (ac (.bool _) (ac (.int _ _) al))
theorem Ji(q:List Int)(p:PrbV)(h:OkP p)(hq:be q=0)(hn:(q.length:Int)=p.task.n):pU 25 [aq q,.iptr p.cs 0] (.tup [.bool (eqB p.adv (e7 q p.adv)),.int .i64 0]):=by
 obtain⟨-,ho,hn2,-⟩:=cH h.e0;have hi:=J3 q p.adv hq h.sa ho (by rw[hn,hn2]);have d1:=bI p.adv;generalize eqB p.adv (e7 q p.adv)=e at *;simp only[ca,PC.2.2.2.1,PC.2.2.2.2.1] at hi d1 |-;refine pO RO ?_;simp only[b25,aw];refine wnY (aI @PE @aG) ?_;exact bE (ac (.bool _) (ac (.int _ _) al))
theorem Fx(l:List (List Int))(p:List Int->Bool)(g:Nat)(caps:List AV)(hd:∀x∈caps,Dat x)(hg:∀x∈l,pU g (aq x::caps) (.tup [.bool (p x),.int .i64 0]))(hl:l.length<=100000):pU 24 [ay l,.func g caps] (.tup [ay (l.filter p),.int .i64 0]):=by
 refine pO Sy ?_;simp only[b24,aw];refine wnZ and_self ?_;refine bq (X:=AV×Nat) (λx=>[(0,ay l),(1,.func g caps),(6,x.1),(11,ay l),(12,.int .i64 l.length),(13,.int .i64 x.2)]) (λx H nx=>x.2<=l.length/\Row H 1 x.1 (((l.take x.2).filter p).map aq)/\∀b,bk x.1=some b->b<nx) (λx=>l.length-x.2) (.esl,0) ⟨bo _,Row.nil,λb hb=>(by cases hb)⟩ ag0 ?_;rintro⟨s,j⟩ H nx ⟨h1,h2,h3⟩;dsimp only at h1 h2 h3 |-;by_cases hj:j<l.length
 rotate_left
 ·refine wnY @h1 ?_;rw[ju (by omega)] at h2;exact bE (ac h2.snapV (ac (.int _ _) al))
 have hw:=ao hj;have hc:=hg _ hw
 have hst:(l.take (j+1)).filter p=(l.take j).filter p++(if p (l.getD j default) then [l.getD j default] else []):=by
  rw[gZ hj,EG,va]
 have hlen:((l.take j).filter p).length<=l.length:=eK (List.length_filter_le _ _) (by rw[iX];omega);cases hp:p (l.getD j default)
 ·rw[hp] at hc hst;have zz:=@h1;repeat' (first|refine zW ?_|apply a_n|refine zO ?_|refine vY ?_|refine cY ?_ (hp:=hc) (hs:=by(first|refine bK ?_ rfl|apply bC);(repeat' (first|exact al|apply fj|apply cU|exact di hd));first|done|fail)|refine cFY ?_|(refine zGY ?_ ?_<;>(intro _hg;try (exfalso;omega)))|fail)
  exact⟨(s,j+1),by dsimp only;omega,⟨by dsimp only;omega,by dsimp only;rw[hst,if_neg (by decide),jd];exact h2,h3⟩,ag0⟩
 ·rw[hp] at hc hst;have zz:=@h1;repeat' (first|refine zW ?_|apply a_n|refine zO ?_|refine vY ?_|refine cY ?_ (hp:=hc) (hs:=by(first|refine bK ?_ rfl|apply bC);(repeat' (first|exact al|apply fj|apply cU|exact di hd));first|done|fail)|refine blY ?_|refine cTY ?_|(refine zGY ?_ ?_<;>(intro _hg;try (exfalso;omega)))|fail)
  refine dY rfl ev0 (h2.same λb hb=>?_) ev0 vq rfl rfl jf (by simp;omega) (by simp;omega) ?_
  ·have:=h3 b hb;rw[ab (by omega)]
  rintro s2 E e hrow hle1 hle2 hsame hb2;refine wnZ and_self ?_;refine⟨(s2,j+1),by dsimp only;omega,⟨by dsimp only;omega,?_,λb hb=>?_⟩,ag0⟩
  ·dsimp only;rw[hst,if_pos rfl,dp];exact hrow
  ·rcases hb2 b hb with h|h
   ·have:=h3 b h;omega
   ·omega
theorem D9(p:PrbV)(h:OkP p):pU 22 [cf p] (.int .i64 0):=by
 obtain⟨ht,ho,hn,r0,r6⟩:=cH h.e0;have hc:=tL p.task h.sh.c h.sh.t;have ha:=oX p.adv h.sa ho;have d1:=bI p.adv;have d2:=fV p.task;have z1:decide (p.task.n≠p.adv.n)=false:=bJ (λh=>h hn);have z2:decide (p.rounds<0)=false:=bJ (by omega);have z3:decide (p.rounds>6)=false:=bJ (by omega);rw[ht] at hc;unfold gF at hc d2;simp only[cf,ca,PC.2.2.2.1,PC.2.2.2.2.1] at ha d1 |-;refine pO RR ?_;simp only[b22,aw];refine wnY (zI5 @PE @aG @z1 @z2 @z3) ?_;exact .int _ _
theorem Kc(p:PrbV)(h:OkP p):pU 8 [cf p] (.tup [ay ((zb p.task).filter λq=>eqB p.adv (e7 q p.adv)),.int .i64 0]):=by
 obtain⟨ht,ho,hn,r0,r6⟩:=cH h.e0;have hp:=D9 p h;have nn:=n9 ht;have hs:=zj p.task (Fit30.of h.few).fit;have hsT:Gn p.task=(zb p.task,0):=by unfold Gn;rw[if_neg (λk=>k ht)]
 rw[hsT] at hs;dsimp only at hs;have d1:=e9 p;have d2:=fV p.task;have dA:=Dw p
 have hk:=Fx (zb p.task) (fun q=>eqB p.adv (e7 q p.adv)) 25 [.iptr p.cs 0] (DatL.cons (Dat.iptr dA) DatL.nil) (fun q hq=>by
  obtain⟨q1,q2,-⟩:=ql ht hq;exact Ji q p h q1 q2) (eK (List.length_filter_le _ _) (by have:=wu p.task.n.toNat (by omega) (by omega);omega))
 refine pO is8 ?_;simp only[b8,aw];generalize zb p.task=L at *;generalize L.filter (λq=>eqB p.adv (e7 q p.adv))=L' at *;unfold gF at hs d2;simp only[cf,PC.2.2.2.2.1] at hp d1 dA hk |-;generalize hAA:[AV.int .i64 p.task.n,.int .i64 p.task.ins,.int .i64 p.task.outs,bw p.task.cases,.int .i64 p.adv.n,aQ p.adv.states,.int .i64 p.rounds]=A at *;refine eN (λT H nx=>T 1=.ptr 0 7 0/\H=av aP 0 A/\nx=1) ?_ ?_
 ·subst hAA;refine wnY (aI @PE @aG) ?_;exact⟨rfl,rfl,rfl⟩
 rintro T H _ ⟨t1,rfl,rfl⟩;refine eN (λT H nx=>T 1=.ptr 0 7 0/\H=av aP 0 A/\nx=1) ?_ ?_
 ·subst hAA;refine wnY (zI3 @t1 @PE @aG) ?_;exact⟨(have zz:=@t1;evZ),rfl,rfl⟩
 clear t1;rintro T H _ ⟨t1,rfl,rfl⟩;refine eN (λT H nx=>T 1=.ptr 0 7 0/\T 5=ay L/\T 6=.int .i64 0/\H=av aP 0 A/\nx=1) ?_ ?_
 ·subst hAA;refine wnY (zI3 @t1 @PE @aG) ?_;exact⟨(have zz:=@t1;evZ),ev0,ev0,rfl,rfl⟩
 clear t1;rintro T H _ ⟨t1,t5,t6,rfl,rfl⟩;refine eN (λT H nx=>T 1=.ptr 0 7 0/\T 5=ay L/\H=av aP 0 A/\nx=1) ?_ ?_
 ·refine wnZ (zI3 @t1 @t5 @t6) ?_;exact⟨(have zz:=@t1;evZ),(by((try simp only[bg,ZA,reduceEqDiff,↓reduceIte,reduceAdd,reduceLeDiff,t5]);(try with_reducible rfl))),rfl,rfl⟩
 clear t1 t5 t6;rintro T H _ ⟨t1,t5,rfl,rfl⟩;have hAl:A.length=7:=by subst hAA;rfl
 refine nM ?_;refine rh (only 0 A) (dv (av aP 0 A) 0) [(1,.iptr A 0),(5,ay L)] (Fz.one ae) ⟨.inr (by rw[t1];exact fU ez hAl (di dA)),.inl t5,trivial⟩ ?_;refine wnY and_self ?_;refine eJ (evY) (evY) hk (bC (ac (bS _ _) (ac (iT (ac (Dat.iptr dA _) al)) al))) ?_;refine wnY and_self ?_;exact bE (ac (bS _ _) (ac (.int _ _) al))
theorem KF(n:Nat)(h1:1<=n)(h5:n<=5):pU 112 [.int .i64 n] (aq (idL n)):=by
 have hz:bd (.agg [.int .i64 0]) n=(mvK (idL n) (idL n) 0).map (AV.int .i64):=by
  simp[bd,mvK,AV.cells,cm]
 refine pO OV ?_;simp only[OE,aw];refine wnZ and_self ?_;refine nj rfl ev0 ev0 (by omega) (by omega) (by omega) (by omega) ?_;rw[c9,hz];refine wnZ and_self ?_;refine bq (X:=Nat) (λk=>[(3,.msl 0 n 1 0 n),(8,.int .i64 n),(9,.int .i64 k)]) (λk H nx=>k<=n/\H=av aP 0 ((mvK (idL n) (idL n) k).map (AV.int .i64))/\nx=1) (λk=>n-k) 0 ⟨bo _,rfl,rfl⟩ (by simp (disch:=omega) only[agr,ZG,reduceEqDiff,↓reduceIte,Nat.mul_one]) ?_;rintro k H nx ⟨hk,rfl,rfl⟩;have hml:=pc (idL n) (idL n) k;rw[cm] at hml;by_cases hk2:k<n
 ·have hlm:=gk (f:=AV.int .i64) (l:=mvK (idL n) (idL n) k) (k:=k) (x:=(k:Int)) (by omega);refine wnZ and_self ?_;refine⟨k+1,by omega,⟨by omega,?_,rfl⟩,ag0⟩;rw[jg,hlm,mvK,je hk2];rfl
 ·obtain rfl:k=n:=by omega
  refine wnZ and_self ?_;rw[mvI h1 h5];exact oU ae rfl (cm k)
theorem QQ(p:PrbV)(h:OkP p)(q:List Int)(hq:be q=0)(hn:(q.length:Int)=p.task.n):pU 28 [fE (aZ p),aq q] (.int .i64 0):=by
 obtain⟨p1,p2,p3,p4⟩:=cC hq;have hv:=Au p h;have hc:=gW q (show q.length<=_ by omega);rw[hq] at hc;have d1:=gU (aZ p);have hpt:(aZ p).prob=p:=rfl;have z:decide ((q.length:Int)≠(aZ p).tn)=false:=bJ (λh=>h hn);refine pO QL ?_;simp only[b28,aw];unfold fE at hv d1 |-;rw[PC.2.2.2.2.2.2.2,hpt] at hv d1 |-;refine wnY (aI @PE @z) ?_;exact .int _ _
end
end Go.Proofs.YtbmjaojeplmhnaaGreat
namespace Go.Proofs.YtbmjaojeplmhnaaGreat
open Go Go.Abs
open Nat (reduceEqDiff reduceAdd reduceLeDiff)
def k5(p:List Int):AV:=.agg [.int .i64 (p.getD 0 0),.int .i64 (p.getD 1 0),.int .i64 (p.getD 2 0),.int .i64 (p.getD 3 0),.int .i64 (p.getD 4 0)]
theorem O2{P:Program}{l:List ResultVar}{T:Tm}{H:Hp}{R:AV->Prop}{e:AEx}{rs:List RV}(hres:jX P l=some rs)(h:aM e.ends (bm T H R rs)):aM e.ends (ax (ma P T H l) R):=⟨h.1,y9 hres h.2⟩
theorem A0{P:Program}{N:Nat}{x y:Code}{x2:C2}{Y:Tm->Hp->Nat->Prop}{T:Tm}{H:Hp}{nx:Nat}{K:CP}(hm:P.follows .mixedOrders=true)(hx:nB P N x=some x2)(h:aF P x2 T H nx (λe T H nx=>e=.normal/\Y T H nx))(hy:∀T H nx,Y T H nx->awp P N y T H nx K):
    awp P N (.seq x y) T H nx K:=
 gg x (iI hm x x2 hx h) (λe T H nx ⟨he,hY⟩=>by subst he;exact hy T H nx hY)
abbrev Z5:List AV:=[.int .i64 0,.int .i64 0,.int .i64 0,.int .i64 0,.int .i64 0]
section
attribute [local irreducible] aF ai bj aY aN aM ax aS a8 bm Go.Abs.Fn aX Go.Abs.Pure ap aK Yl
theorem Mi(p:List Int):aF Tryz.prog (.ops 0 [⟨some 2,none,.alloc (.agg Z5)⟩]) (T0 [aq p]) aP 0 (λe T H nx=>e=.normal/\T 0=aq p/\T 2=.ptr 0 5 0/\H=av aP 0 Z5/\nx=1):=by
 refine wnY and_self ?_;exact⟨rfl,ev0,ev0,rfl,rfl⟩
theorem LF(p:List Int){T:Tm}(t0:T 0=aq p)(t2:T 2=.ptr 0 5 0):aF Tryz.prog (.ops 0 [⟨some 3,none,.alloc (.agg Z5)⟩]) T (av aP 0 Z5) 1 (λe T H nx=>e=.normal/\T 0=aq p/\T 2=.ptr 0 5 0/\T 3=.ptr 1 5 0/\H=av (av aP 0 Z5) 1 Z5/\nx=2):=by
 refine wnY (aI @t0 @t2) ?_;exact⟨rfl,(have zz:=@t0;evZ),(have zz:=@t2;evZ),ev0,rfl,rfl⟩
theorem MA(p:List Int)(x0 x1 x2 x3 x4:Int)(h:cI Z5 0 (p.map (AV.int .i64))=[.int .i64 x0,.int .i64 x1,.int .i64 x2,.int .i64 x3,.int .i64 x4])(h1:1<=p.length)(h5:p.length<=5){T:Tm}(t0:T 0=aq p)(t2:T 2=.ptr 0 5 0)(t3:T 3=.ptr 1 5 0)(t4:T 4=.msl 1 5 1 0 5):
    ai Tryz.prog .text [⟨some 5,none,.mov (.t 0)⟩,⟨some 6,none,.cpy 1 (.t 4) (.t 5)⟩] T (av (av aP 0 Z5) 1 Z5) 2 (λT H nx=>T 2=.ptr 0 5 0/\T 3=.ptr 1 5 0/\H=av (av aP 0 Z5) 1 [.int .i64 x0,.int .i64 x1,.int .i64 x2,.int .i64 x3,.int .i64 x4]/\nx=2):=by
 have htr:Ai p.length (aq p)=aq p:=by unfold aq;simp only[Ai];rw[ju (by simp)]
 refine wnY (aI @t0 @t4) ?_;refine Hi (n:=p.length) (by((try simp only[bg,ZA,reduceEqDiff,↓reduceIte,reduceAdd,reduceLeDiff,t4]);(try with_reducible rfl));exact sD (m:=p.length) (new:=p.map (AV.int .i64)) (k:=p.length) (ls:=p.length) mR (by omega) (by omega) ae rfl (by rw[htr];exact jz) (by omega) jS) ?_;rw[h];refine wnY and_self ?_;exact⟨(have zz:=@t2;evZ),(have zz:=@t3;evZ),by rw[jg],rfl⟩
theorem LR(x0 x1 x2 x3 x4:Int){T:Tm}(t2:T 2=.ptr 0 5 0)(t3:T 3=.ptr 1 5 0):aF Tryz.prog (.seq (.ops 0 [⟨some 7,none,.ldn 5 (.t 3)⟩,⟨none,none,.st 5 (.t 2) (.t 7)⟩]) .ret) T (av (av aP 0 Z5) 1 [.int .i64 x0,.int .i64 x1,.int .i64 x2,.int .i64 x3,.int .i64 x4]) 2 λe T H _=>aM e.ends (bm T H (λx=>Snap H x (.agg [.int .i64 x0,.int .i64 x1,.int .i64 x2,.int .i64 x3,.int .i64 x4])) [.cn 2 5]):=by
 refine wnY (aI @t2 @t3) ?_;exact eh (ac (.int _ _) (ac (.int _ _) (ac (.int _ _) (ac (.int _ _) (ac (.int _ _) al)))))
end
theorem Kx(p:List Int)(x0 x1 x2 x3 x4:Int)(h:cI Z5 0 (p.map (AV.int .i64))=[.int .i64 x0,.int .i64 x1,.int .i64 x2,.int .i64 x3,.int .i64 x4])(h1:1<=p.length)(h5:p.length<=5):
    pU 113 [aq p] (.agg [.int .i64 x0,.int .i64 x1,.int .i64 x2,.int .i64 x3,.int .i64 x4]):=by
 refine Pure.of_body follows Tryz.func113 QE.cok ⟨_,rfl,B9 rfl,?_⟩;refine A0 follows (by kernel_rfl) (Mi p) ?_;rintro T _ _ ⟨t0,t2,rfl,rfl⟩;refine A0 follows (by kernel_rfl) (LF p t0 t2) ?_;clear t0 t2;rintro T _ _ ⟨t0,t2,t3,rfl,rfl⟩;refine⟨T,_,_,aP,Gh.refl _ _ _,?_⟩;have hc3:Tryz.prog.cellsOf 3=1:=by kernel_rfl
 have hres:jX Tryz.prog Tryz.f113.results.toList=some [.cn 2 5]:=by kernel_rfl
 have hu:Tryz.prog.underlying 72=some (.array 5 3):=by kernel_rfl
 have htk:tok Tryz.prog 3=true:=by kernel_rfl
 have hf5:0+5*Tryz.prog.cellsOf 3=5:=by rw[hc3]
 refine⟨rfl,?_⟩;refine .inr ⟨rfl,?_⟩;refine wZ (n:=5) (e:=3) (b:=1) (n':=5) (off:=0) (cs:=Z5) hu htk (Nat.succ_pos _) t3 ae rfl hf5 ?_;rw[hc3];refine l6 (λT H nx hk=>?_) _ (gN _ _ (by kernel_rfl) (MA p x0 x1 x2 x3 x4 h h1 h5 (T:=aO T (some 4) (.msl 1 5 1 0 5)) t0 t2 t3 rfl));obtain⟨t2,t3,rfl,rfl⟩:=hk;refine gg _ (iI follows _ _ (by kernel_rfl) (LR x0 x1 x2 x3 x4 t2 t3)) (λe T H nx hh=>?_);exact O2 hres hh
theorem Lc(p:List Int)(hp:be p=0):pU 113 [aq p] (k5 p):=by
 obtain⟨p1,p2,-,-⟩:=cC hp;refine Kx p _ _ _ _ _ ?_ (by omega) p2;rcases p with _|⟨a,_|⟨b,_|⟨c,_|⟨d,_|⟨e,_|⟨f,l⟩⟩⟩⟩⟩⟩
 ·simp at p1
 ·rfl
 ·rfl
 ·rfl
 ·rfl
 ·rfl
 ·simp at p2
end Go.Proofs.YtbmjaojeplmhnaaGreat
namespace Go.Proofs.YtbmjaojeplmhnaaGreat
open Go Go.Abs
open Nat (reduceEqDiff reduceAdd reduceLeDiff)
abbrev K5:=Int×Int×Int×Int×Int
def t5(p:List Int):K5:=(p.getD 0 0,p.getD 1 0,p.getD 2 0,p.getD 3 0,p.getD 4 0)
def kv5(x:K5):AV:=.agg [.int .i64 x.1,.int .i64 x.2.1,.int .i64 x.2.2.1,.int .i64 x.2.2.2.1,.int .i64 x.2.2.2.2]
theorem K1(p:List Int):k5 p=kv5 (t5 p):=rfl
theorem GU(v w:K5):jV (.st [.int,.int,.int,.int,.int]) (kv5 v) (kv5 w)=some (decide (v=w)):=by
 have h:=mr [v.1,v.2.1,v.2.2.1,v.2.2.2.1,v.2.2.2.2] [w.1,w.2.1,w.2.2.1,w.2.2.2.1,w.2.2.2.2] rfl;refine(show jV (.st [.int,.int,.int,.int,.int]) (kv5 v) (kv5 w)=_ from h).trans ?_
 congr 1
 refine decide_eq_decide.2 ⟨λe=>?_,λe=>by rw[e]⟩;simp only[List.cons.injEq,and_true] at e;exact Prod.ext e.1 (Prod.ext e.2.1 (Prod.ext e.2.2.1 (Prod.ext e.2.2.2.1 e.2.2.2.2)))
theorem LD{p q:List Int}(hl:p.length=q.length)(h5:p.length<=5)(h:t5 p=t5 q):p=q:=by
 simp only[t5,Prod.mk.injEq] at h;obtain⟨h0,h1,h2,h3,h4⟩:=h;refine List.ext_getElem hl λi i1 i2=>?_;have e:∀j,j=i->p.getD j 0=q.getD j 0->p[i]=q[i]:=λj hj hh=>by subst hj;simpa[List.getD,i1,i2] using hh
 rcases(by omega:i=0\/i=1\/i=2\/i=3\/i=4) with r|r|r|r|r
 ·exact e 0 r.symm h0
 ·exact e 1 r.symm h1
 ·exact e 2 r.symm h2
 ·exact e 3 r.symm h3
 ·exact e 4 r.symm h4
theorem F4{v:K5}{ks:List K5}(h:v∈ks):∃i,i<ks.length/\ef (.st [.int,.int,.int,.int,.int]) (kv5 v) (ks.map kv5)=some (some i):=by
 have q:=ie (.st [.int,.int,.int,.int,.int]) kv5 GU v ks;rw[if_pos h] at q;exact⟨_,@List.idxOf_lt_length_of_mem _ _ instBEqOfDecidableEq _ _ h,q⟩
theorem HE{v:K5}{ks:List K5}(h:v∉ks):ef (.st [.int,.int,.int,.int,.int]) (kv5 v) (ks.map kv5)=some none:=by
 have q:=ie (.st [.int,.int,.int,.int,.int]) kv5 GU v ks
 rwa [if_neg h] at q
theorem Hr{n:Nat}(h1:1<=n)(h3:n<=3):(kg n).length<=6:=by
 have key:∀n∈[1,2,3],(kg n).length<=6:=by decide+kernel
 exact key n (by rcases(by omega:n=1\/n=2\/n=3) with rfl|rfl|rfl<;>decide)
structure GenV(n:Nat)(L:List (List Int)):Prop where
 ne:0<L.length
 ok:∀x∈L,be x=0/\x.length=n
 nd:L.Nodup
theorem GenV.len{n:Nat}{L:List (List Int)}(h:GenV n L)(h1:1<=n)(h3:n<=3):L.length<=6:=
 eK (h.nd.length_le_of_subset (l₂:=kg n) fun x hx=>by
  obtain⟨a,b⟩:=h.ok x hx;have:=sy a
  rwa [b] at this) (Hr h1 h3)
theorem GenV.snoc{n:Nat}{L:List (List Int)}(h:GenV n L){x:List Int}(hx:be x=0/\x.length=n)(hn:x∉L):GenV n (L++[x]):=
 ⟨by simp,fun y hy=>by
  rcases oh.1 hy with q|q
  ·exact h.ok y q
  ·rw[gH.1 q];exact hx,by
  rw[yf];exact⟨h.nd,by simp,λa ha b hb e=>by rw[gH.1 hb] at e;exact hn (e▸ha)⟩⟩
theorem Hz{n:Nat}(h5:n<=5){L:List (List Int)}(h:∀x∈L,x.length=n){x:List Int}(hx:x.length=n):t5 x∈L.map t5↔x∈L:=by
 constructor
 ·intro q;obtain⟨y,hy,e⟩:=cE.1 q
  rwa [<-LD ((h y hy).trans hx.symm) (by rw[h y hy];exact h5) e]
 ·exact λq=>cE.2 ⟨x,q,rfl⟩
def mI(v:List Int):List UInt8:=v.map λx=>UInt8.ofNat x.toNat
theorem uJ:∀{v w:List Int},(∀x∈v,0<=x/\x<256)->(∀x∈w,0<=x/\x<256)->mI v=mI w->v=w
 |[],[],_,_,_=>rfl
 |[],y::w,_,_,h=>by simp[mI] at h
 |x::v,[],_,_,h=>by simp[mI] at h
 |x::v,y::w,hv,hw,h=>by
  simp only[mI,f9,List.cons.injEq] at h;have h1:=hv x (gP ..);have h2:=hw y (gP ..);have e:=congrArg UInt8.toNat h.1;simp only[UInt8.toNat_ofNat'] at e;have:x=y:=by omega
  rw[this,uJ (λz hz=>hv z (oQ _ hz)) (λz hz=>hw z (oQ _ hz)) h.2]
def tE(v:List Int)(k:Nat):List UInt8:=(mI v).take k++List.replicate (v.length-k) 0
theorem rf{v:List Int}{k:Nat}(h:k<=v.length):(tE v k).length=v.length:=by simp[tE,mI];omega
theorem Gv{v:List Int}{k:Nat}(h:k<v.length):(tE v k).set k (UInt8.ofNat (v.getD k default).toNat)=tE v (k+1):=by
 refine List.ext_getElem (by rw[List.length_set,rf (by omega),rf (by omega)]) λi i1 i2=>?_;rw[rf (by omega)] at i2;rw[List.getElem_set];by_cases e:k=i
 ·subst e;simp[tE,mI,List.getElem_append,List.getD,h,Nat.min_eq_left (show k+1<=v.length by omega)]
 ·rw[if_neg e];simp only[tE,List.getElem_append,iX,mI,bi];by_cases q:i<k
  ·rw[dif_pos (by omega),dif_pos (by omega)];simp
  ·rw[dif_neg (by omega),dif_neg (by omega)];simp
theorem IM{x:Int}(h:0<=x/\x<256):lN (UInt8.ofNat x.toNat)=.int .u8 x:=by
 unfold lN;rw[UInt8.toNat_ofNat']
 congr 1
 omega
def z7(r:RndV):List Int:=[r.h0,r.h1,r.h2,r.h3,r.h4,r.f]
def kj(w:List RndV):List Int:=w.flatMap z7
theorem EW(w:List RndV)(r:RndV):kj (w++[r])=kj w++z7 r:=by simp[kj]
theorem kR:∀w:List RndV,(kj w).length=6*w.length
 |[]=>rfl
 |r::w=>by
  have:=kR w;simp only[kj,lj,cP,ig] at this |-;rw[this];simp[z7];omega
theorem QZ(n h0 h1 h2 h3 h4 f:Int):xL 5 (.iptr [.int .i64 n,.int .i64 h0,.int .i64 h1,.int .i64 h2,.int .i64 h3,.int .i64 h4,.int .i64 f] 1) none none none=some (aq [h0,h1,h2,h3,h4]):=rfl
theorem JX{P:Program}{T:Tm}{H:Hp}{nx:Nat}(S Hf H':Hp)(L:List (Nat×AV)){K:CP}{m:Nat}{l:List Op2}{alt:List (Op2×Nat)}{C:List (Nat×Nat)}(hf:Fz Hf H H')(ha:Aa Hf T L)(hc:(C.map λk=>(l.getD k.1 ⟨none,none,.dead⟩,k.2))=alt)(hs:Sub S H')(h:bn P S alt (tl L) H' nx λT H nx=>K .normal T H nx):aF P (.mixS m l C) T H nx K:=by
 subst hc;exact .inr ⟨_,H',nx,Hf,S,hf.gh ha,hs,h⟩
def Cv(c:Nat)(w:List RndV):List UInt8:=mI (((c/64:Nat):Int)::((c%64:Nat):Int)::kj w)
def ri(b:List UInt8):AV:=.str ⟨b.toArray⟩
theorem Ix(v w:List UInt8):jV (.one .str) (ri v) (ri w)=some (decide (v=w)):=by
 by_cases h:v=w
 ·subst h;simp[jV,ri,lw]
 ·simp[jV,ri,lw,h]
theorem zK{v:List UInt8}{ks:List (List UInt8)}(h:v∈ks):ef (.one .str) (ri v) (ks.map ri)=some (some (@List.idxOf _ instBEqOfDecidableEq v ks)):=by
 have q:=ie (.one .str) ri Ix v ks
 rwa [if_pos h] at q
theorem AL{v:List UInt8}{ks:List (List UInt8)}(h:v∉ks):ef (.one .str) (ri v) (ks.map ri)=some none:=by
 have q:=ie (.one .str) ri Ix v ks
 rwa [if_neg h] at q
def so(n:Nat):List AV:=(List.range n).map λi=>.int .i64 (i:Nat)
theorem AX{n k:Nat}(h:k<n):(so n).getD k .undef=.int .i64 (k:Nat):=by simp[so,List.getD,h]
theorem wS(n:Nat):so n++[.int .i64 (n:Nat)]=so (n+1):=by simp[so,List.range_succ]
def Lf(x:AV):Option AV:=match x with|.ptr b n o=>some (.ptr b n o)|.iptr c o=>some (.iptr c o)|.func f c=>some (.func f c)|_=>none
theorem NKF:(∀(T:Tm)(H:Hp)(x:Opd),bv T H (.nilck x)=Lf (ov T x))/\(∀b n o:Nat,Lf (.ptr b n o)=some (.ptr b n o)):=⟨λ_ _ _=>rfl,λ_ _ _=>rfl⟩
def nT(c:CaseV):List UInt8:=mI c.inp
def pE(x:ExV):List UInt8:=Cv x.case.toNat x.word
structure FinOk(s:SysV):Prop where
 cn:(s.prob.task.cases.map nT).Nodup
 cb:∀c∈s.prob.task.cases,(∀x∈c.inp,0<=x/\x<256)/\c.inp.length<=1000000
 cl:s.prob.task.cases.length<=1000000
 en:(s.execs.map pE).Nodup
 eb:∀x∈s.execs,0<=x.case/\x.case<16384/\x.word.length<=1000/\∀y∈kj x.word,0<=y/\y<256
 el:s.execs.length<=1000000
structure FMem(s:SysV)(nx:Nat)(H0 H:Hp)(i j m:Nat):Prop where
 gs:H nx=some s.cs
 ga:H (nx+1)=some [.omap (((s.prob.task.cases.take i).map nT).map ri) (so i)]
 gb:H (nx+2)=some [.omap (((s.execs.take j).map pE).map ri) (so j)]
 gf:H (nx+3)=some (s.cs++[.mp (nx+1),.mp (nx+2)])
 le:nx+4<=m
 fr:∀y,y<nx->H y=H0 y
def fI{α:Type}(f:α->Nat)(l:List α):Nat:=(l.map f).sum
theorem eP{α:Type}(f:α->Nat)(x:α)(l:List α):fI f (x::l)=f x+fI f l:=by simp[fI]
theorem iL{α:Type}{f g:α->Nat}:∀{l:List α},(∀x∈l,f x=g x)->fI f l=fI g l
 |[],_=>rfl
 |x::l,h=>by rw[eP,eP,h x (gP ..),iL λy hy=>h y (oQ _ hy)]
theorem AO{α:Type}{f g:α->Nat}:∀{l:List α},fI (λx=>f x+g x) l=fI f l+fI g l
 |[]=>rfl
 |x::l=>by rw[eP,eP,eP,AO];omega
theorem xl{α:Type}:∀{l:List α},fI (λ_=>0) l=0
 |[]=>rfl
 |x::l=>by rw[eP,xl]
theorem qd{α:Type}(k:Nat):∀(l:List α),fI (λ_=>k) l=l.length*k
 |[]=>by simp[fI]
 |x::l=>by rw[eP,qd k l,ig,Nat.succ_mul];omega
theorem r9{α β:Type}(f:α->β->Nat):∀(X:List α)(Y:List β),fI (λx=>fI (f x) Y) X=fI (λy=>fI (λx=>f x y) X) Y
 |[],Y=>by rw[show fI (λx=>fI (f x) Y) []=0 from rfl];exact(xl (l:=Y)).symm
 |x::X,Y=>by
  rw[eP,r9 f X Y,<-AO];exact iL λy _=>(eP (λx=>f x y) x X).symm
theorem qj{α:Type}(p:α->Bool):∀(l:List α),l.countP p=fI (λx=>if p x=true then 1 else 0) l
 |[]=>rfl
 |x::l=>by
  rw[eP,List.countP_cons,qj p l];omega
theorem uB{α β:Type}(p:α->β->Bool)(X:List α)(Y:List β):fI (λx=>Y.countP (p x)) X=fI (λy=>X.countP λx=>p x y) Y:=by
 rw[iL (g:=λx=>fI (λy=>if p x y=true then 1 else 0) Y) λx _=>qj (p x) Y,r9];exact iL λy _=>(qj (λx=>p x y) X).symm
theorem gQ{α β:Type}{f:α->β}:∀{l:List α},(∀x∈l,∀y∈l,f x=f y->x=y)->l.Nodup->(l.map f).Nodup
 |[],_,_=>List.nodup_nil
 |a::l,h,hn=>by
  rw[List.nodup_cons] at hn;rw[f9,List.nodup_cons];refine⟨λhm=>?_,gQ (λx hx y hy=>h x (oQ _ hx) y (oQ _ hy)) hn.2⟩;obtain⟨x,hx,e⟩:=cE.1 hm;have:=h x (oQ _ hx) a (gP ..) e;exact hn.1 (this▸hx)
theorem qn{α:Type}[DecidableEq α]{G:List α}(hn:G.Nodup){p q:α->Bool}(f:α->α)(hm:∀x∈G,p x=true->f x∈G/\q (f x)=true)(hi:∀x∈G,∀y∈G,f x=f y->x=y):G.countP p<=G.countP q:=by
 rw[List.countP_eq_length_filter,List.countP_eq_length_filter,<-bi (f:=f)];refine Mr (gQ (λx hx y hy=>hi x (ik.1 hx).1 y (ik.1 hy).1) (hn.sublist Kz)) λz hz=>?_;obtain⟨x,hx,rfl⟩:=cE.1 hz;obtain⟨h1,h2⟩:=ik.1 hx;obtain⟨h3,h4⟩:=hm x h1 h2;exact ik.2 ⟨h3,h4⟩
theorem Ft{M x:Nat}(h:x<M):(List.range M).countP (λe=>decide (x=e))=1:=by
 induction M with
 |zero=>omega
 |succ M ih=>
  rw[List.range_succ,List.countP_append];by_cases e:x=M
  ·subst e
   have:(List.range x).countP (λe=>decide (x=e))=0:=by
    rw[List.countP_eq_zero];intro y hy;have:=eM.1 hy;simp;omega
   rw[this];simp
  ·rw[ih (by omega)];simp[e]
structure GAct{α:Type}(G:List α)(act:α->Nat->Nat)(M:Nat):Prop where
 nd:G.Nodup
 lt:∀g∈G,∀e,e<M->act g e<M
 one:∃i∈G,∀e,e<M->act i e=e
 mul:∀g∈G,∀h∈G,∃k∈G,∀e,e<M->act k e=act g (act h e)
 inv:∀g∈G,∃h∈G,(∀e,e<M->act h (act g e)=e)
 rmul:∀h∈G,∃f:α->α,(∀g∈G,f g∈G/\∀e,e<M->act (f g) e=act g (act h e))/\∀g∈G,∀g'∈G,f g=f g'->g=g'
def Orb{α:Type}(G:List α)(act:α->Nat->Nat)(e f:Nat):Prop:=∃g∈G,act g e=f
section
variable{α:Type}{G:List α}{act:α->Nat->Nat}{M:Nat}
theorem GAct.refl(h:GAct G act M){e:Nat}(he:e<M):Orb G act e e:=by
 obtain⟨i,h1,h2⟩:=h.one;exact⟨i,h1,h2 e he⟩
theorem GAct.trans(h:GAct G act M){e f k:Nat}(he:e<M)(h1:Orb G act e f)(h2:Orb G act f k):Orb G act e k:=by
 obtain⟨g,g1,rfl⟩:=h1;obtain⟨g',g2,rfl⟩:=h2;obtain⟨q,q1,q2⟩:=h.mul g' g2 g g1;exact⟨q,q1,q2 e he⟩
theorem GAct.symm(h:GAct G act M){e f:Nat}(he:e<M)(h1:Orb G act e f):Orb G act f e:=by
 obtain⟨g,g1,rfl⟩:=h1;obtain⟨q,q1,q2⟩:=h.inv g g1;exact⟨q,q1,q2 e he⟩
theorem GAct.olt(h:GAct G act M){e f:Nat}(he:e<M)(h1:Orb G act e f):f<M:=by
 obtain⟨g,g1,rfl⟩:=h1;exact h.lt g g1 e he
theorem Ks[DecidableEq α](h:GAct G act M){r e:Nat}(hr:r<M)(ho:Orb G act r e):G.countP (λg=>decide (act g e=e))=G.countP λg=>decide (act g r=e):=by
 have he:=h.olt hr ho;obtain⟨s,s1,s2⟩:=ho;obtain⟨t,t1,t2⟩:=h.inv s s1;obtain⟨f,f1,f2⟩:=h.rmul s s1;obtain⟨k,k1,k2⟩:=h.rmul t t1;have t3:act t e=r:=by rw[<-s2];exact t2 r hr
 refine Nat.le_antisymm (qn h.nd f (λg hg hp=>⟨(f1 g hg).1,?_⟩) f2) (qn h.nd k (λg hg hp=>⟨(k1 g hg).1,?_⟩) k2)
 ·rw[gq] at hp |-;rw[(f1 g hg).2 r hr,s2];exact hp
 ·rw[gq] at hp |-;rw[(k1 g hg).2 e he,t3];exact hp
theorem GV[DecidableEq α](h:GAct G act M){fc:Nat->Nat}(hl:∀e,e<M->Orb G act e (fc e))(hu:∀e f,e<M->f<M->Orb G act e f->fc e=fc f):
    fI (λg=>(List.range M).countP λe=>decide (act g e=e)) G=((List.range M).filter λe=>decide (fc e=e)).length*G.length:=by
 have hlt:∀e,e<M->fc e<M:=λe he=>h.olt he (hl e he);have hll:∀e,e<M->fc (fc e)=fc e:=λe he=>(hu e (fc e) he (hlt e he) (hl e he)).symm;generalize hR:(List.range M).filter (λe=>decide (fc e=e))=R;have hmem:∀r,r∈R↔r<M/\fc r=r:=λr=>by rw[<-hR,ik,eM,gq]
 have hRn:R.Nodup:=by rw[<-hR];exact List.nodup_range.sublist Kz
 rw[uB]
 have e1:fI (λe=>G.countP λg=>decide (act g e=e)) (List.range M)=fI (λe=>fI (λr=>G.countP λg=>decide (act g r=e)) R) (List.range M):=by
  refine iL λe he=>?_;have he:=eM.1 he;rw[Ks h (hlt e he) (h.symm he (hl e he))]
  have hone:∀(R:List Nat),R.Nodup->(∀r∈R,r<M/\fc r=r)->fI (λr=>G.countP λg=>decide (act g r=e)) R=if fc e∈R then G.countP (λg=>decide (act g (fc e)=e)) else 0:=λR=>by
   induction R with
   |nil=>intro _ _;simp[fI]
   |cons r R ih=>
    intro hn hm;rw[List.nodup_cons] at hn;rw[eP,ih hn.2 λx hx=>hm x (oQ _ hx)];obtain⟨r1,r2⟩:=hm r (gP ..);by_cases q:fc e=r
    ·rw[q,if_pos (gP ..),if_neg hn.1];rfl
    ·have z:G.countP (λg=>decide (act g r=e))=0:=by
       rw[List.countP_eq_zero];intro g hg hp;rw[gq] at hp;have:=hu r e r1 he ⟨g,hg,hp⟩;exact q (by rw[<-this,r2])
     rw[z,dt];have:fc e∈r::R↔fc e∈R:=by rw[gR];exact⟨λh=>h.elim (λh=>absurd h q) id,.inr⟩
     simp only[this]
  rw[hone R hRn λr hr=>(hmem r).1 hr,if_pos ((hmem _).2 ⟨hlt e he,hll e he⟩)]
 rw[e1,r9]
 have e2:fI (λr=>fI (λe=>G.countP λg=>decide (act g r=e)) (List.range M)) R=fI (λ_=>G.length) R:=by
  refine iL λr hr=>?_;have hr:=((hmem r).1 hr).1;rw[<-uB (λg e=>decide (act g r=e))];rw[iL (g:=λ_=>1) λg hg=>Ft (h.lt g hg r hr),qd,Nat.mul_one]
 rw[e2,qd]
end
theorem xx(p:PrbV):∀(D:List (Nat×List RndV))(s:BldS),(D.foldl (λs x=>qB p x.1 s x.2) s).execs.map (λx=>(x.case,x.word))=s.execs.map (λx=>(x.case,x.word))++D.map λd=>((d.1:Int),d.2)
 |[],s=>by simp
 |d::D,s=>by
  rw[List.foldl_cons,xx p D];simp[qB]
theorem Ez(p:PrbV)(D:List (Nat×List RndV)):(stD p D).execs.map (λx=>(x.case,x.word))=D.map λd=>((d.1:Int),d.2):=(xx p D _).trans (by simp)
theorem pf(p:PrbV):(aZ p).execs.map (λx=>(x.case,x.word))=(jb p.task.cases.length (dW p)).map λd=>((d.1:Int),d.2):=by
 rw[<-Ez p,tW p];rfl
theorem qM{n:Nat}{W:List (List RndV)}{c:Nat}{w:List RndV}:(c,w)∈jb n W↔c<n/\w∈W:=by
 unfold jb;simp only[List.mem_flatMap,eM,cE,Prod.mk.injEq];constructor
 ·rintro⟨a,h,b,hb,rfl,rfl⟩;exact⟨h,hb⟩
 ·rintro⟨h,hb⟩;exact⟨c,h,w,hb,rfl,rfl⟩
theorem yk{W:List (List RndV)}(hW:W.Nodup):∀n,(jb n W).Nodup
 |0=>by simp[jb]
 |n+1=>by
  rw[mi,yf];refine⟨yk hW n,gQ (λx _ y _ e=>by simpa using e) hW,λa ha b hb e=>?_⟩;obtain⟨c,w⟩:=a;obtain⟨v,_,rfl⟩:=cE.1 hb;have:=(qM.1 ha).1;cases e;omega
theorem u7{a:AdvV}(ho:AdvOk a):∀(k s:Nat),s<a.states.length->(bf a k s).Nodup
 |0,s,_=>by simp[bf]
 |k+1,s,hs=>by
  have hl:=fJ hs;unfold bf;rw[List.Nodup,List.pairwise_flatMap];refine⟨λm hm=>?_,?_⟩
  ·have ht:m.to.toNat<a.states.length:=nI ho hs ((eE ho hs).2 ⟨m,hm,rfl,rfl⟩);exact gQ (λx _ y _ e=>by simpa using e) (u7 ho k _ ht)
  ·have hn:=Af ho hl;rw[List.Nodup] at hn;refine List.Pairwise.imp_of_mem (λ{m m'} hm hm' hne x hx y hy e=>?_) hn;obtain⟨v,_,rfl⟩:=cE.1 hx;obtain⟨v',_,rfl⟩:=cE.1 hy;simp only[List.cons.injEq] at e;exact hne (tN ho hl hm hm' e.1)
theorem MC{p:PrbV}(h:OkP p):((aZ p).execs.map λx=>(x.case,x.word)).Nodup:=by
 obtain⟨-,ho,-⟩:=cH h.e0;rw[pf]
 exact gQ (fun x _ y _ e=>by
  simp only[Prod.mk.injEq] at e;exact Prod.ext (by omega) e.2) (yk (u7 ho _ _ ho.s1) _)
theorem KG{p:PrbV}{x:ExV}(hx:x∈(aZ p).execs):∃c:Nat,x.case=c/\c<p.task.cases.length/\x.word∈dW p:=by
 have:(x.case,x.word)∈(aZ p).execs.map λx=>(x.case,x.word):=cE.2 ⟨x,hx,rfl⟩;rw[pf] at this;obtain⟨⟨c,w⟩,h1,h2⟩:=cE.1 this;obtain⟨h3,h4⟩:=qM.1 h1;simp only[Prod.mk.injEq] at h2;exact⟨c,h2.1.symm,h3,h2.2▸h4⟩
theorem An{n:Nat}:∀{v w:List RndV},(∀r∈v,RdOk n r)->(∀r∈w,RdOk n r)->kj v=kj w->v=w
 |[],[],_,_,_=>rfl
 |[],r::w,_,_,h=>by have:=congrArg List.length h;rw[kR,kR] at this;simp at this
 |r::v,[],_,_,h=>by have:=congrArg List.length h;rw[kR,kR] at this;simp at this
 |r::v,q::w,hv,hw,h=>by
  have h:z7 r++kj v=z7 q++kj w:=h;simp only[z7,List.cons_append,List.nil_append,List.cons.injEq] at h;obtain⟨h0,h1,h2,h3,h4,hf,ht⟩:=h;have e1:=(hv r (gP ..)).n;have e2:=(hw q (gP ..)).n;rw[An (λz hz=>hv z (oQ _ hz)) (λz hz=>hw z (oQ _ hz)) ht]
  have:r=q:=by
   cases r;cases q;simp only[RndV.mk.injEq] at *;exact⟨e1.trans e2.symm,h0,h1,h2,h3,h4,hf⟩
  rw[this]
noncomputable def l5(p:PrbV):List (List Int):=(zb p.task).filter λq=>eqB p.adv (e7 q p.adv)
structure SymOk(p:PrbV)(q:List Int):Prop where
 pm:be q=0
 ln:(q.length:Int)=p.task.n
 la:(q.length:Int)=p.adv.n
 rt:d7 p.task q=p.task
 eq:EqA p.adv (e7 q p.adv)
theorem ec{p:PrbV}(h:OkP p){q:List Int}:q∈l5 p↔SymOk p q:=by
 obtain⟨hc,ho,hn,-⟩:=cH h.e0;unfold l5;rw[ik];constructor
 ·rintro⟨h1,h2⟩;obtain⟨a,b,c⟩:=ql hc h1;exact⟨a,b,by omega,c,xN.1 h2⟩
 ·rintro⟨a,b,_,c,d⟩;refine⟨ik.2 ⟨?_,bR c.symm⟩,xN.2 d⟩;have:=sy a
  rwa [show q.length=p.task.n.toNat by omega] at this
theorem KR{p:PrbV}(h:OkP p):(l5 p).Nodup:=by
 obtain⟨hc,ho,hn,-⟩:=cH h.e0;have h1:=dq hc;have h3:=h.n3
 have:(kg p.task.n.toNat).Nodup:=by
  generalize e:p.task.n.toNat=n;have:n=1\/n=2\/n=3:=by omega
  rcases this with rfl|rfl|rfl<;>decide+kernel
 exact(this.sublist Kz).sublist Kz
theorem tR{p:PrbV}(h:OkP p):SymOk p (idL p.task.n.toNat):=by
 obtain⟨hc,ho,hn,-⟩:=cH h.e0;have h1:=dq hc;obtain⟨a,b,c⟩:=ql hc (J1 hc);refine⟨a,b,by omega,c,λw=>?_⟩;rw[jK a ho (by omega)]
 have key:∀v,Lng p.adv v->v.map (dG (idL p.task.n.toNat))=v:=λv hv=>by
  have:=rz ho (n:=p.task.n.toNat) (by omega) hv
  conv=>rhs;rw[<-List.map_id v]
  exact pz λr hr=>zg (by omega) (by omega) (this r hr)
 constructor
 ·intro hw;exact⟨w,hw,(key w hw).symm⟩
 ·rintro⟨v,hv,rfl⟩;rw[key v hv];exact hv
theorem oA{p:PrbV}(h:OkP p){g k:List Int}(hg:SymOk p g)(hk:SymOk p k):SymOk p (dZ g k):=by
 obtain⟨hc,ho,hn,-⟩:=cH h.e0;have hl:k.length=g.length:=by have:=hg.ln;have:=hk.ln;omega
 exact⟨gY hg.pm hk.pm hl,by rw[ct];exact hk.ln,by rw[ct];exact hk.la,by rw[FL hg.pm hk.pm hl hc hg.ln,hk.rt,hg.rt],HV hg.pm hk.pm ho hg.la hl hg.eq hk.eq⟩
theorem za{p:PrbV}(h:OkP p){g:List Int}(hg:SymOk p g):SymOk p (fi g):=by
 obtain⟨hc,ho,hn,-⟩:=cH h.e0;refine⟨pd hg.pm,by rw[fS];exact hg.ln,by rw[fS];exact hg.la,?_,JM hg.pm ho hg.la hg.eq⟩;have:=Ed hc hg.pm hg.ln
 rwa [hg.rt] at this
def AY(p:PrbV)(q:List Int)(c:Nat):Nat:=(p.task.cases.map CaseV.inp).idxOf (bX (p.task.cases.getD c default).inp q)
theorem wj{α:Type}[BEq α][LawfulBEq α][Inhabited α]{l:List α}{x:α}(h:x∈l):l.idxOf x<l.length/\l.getD (l.idxOf x) default=x:=by
 have h1:=List.idxOf_lt_length_iff.2 h;refine⟨h1,?_⟩;have:=List.getElem_idxOf h1;simp[List.getD,h1]
theorem oe{p:PrbV}(h:OkP p){q:List Int}(hq:SymOk p q){c:Nat}(hc:c<p.task.cases.length):AY p q c<p.task.cases.length/\(p.task.cases.getD (AY p q c) default).inp=bX (p.task.cases.getD c default).inp q:=by
 obtain⟨ck,-⟩:=cH h.e0;obtain⟨j,h1,h2,-⟩:=Gr ck hq.pm hq.ln hc;rw[hq.rt] at h1 h2;have hm:bX (p.task.cases.getD c default).inp q∈p.task.cases.map CaseV.inp:=cE.2 ⟨_,ao h1,by rw[h2];rfl⟩;obtain⟨k1,k2⟩:=wj hm;rw[bi] at k1;refine⟨k1,?_⟩;rw[<-k2];exact(i4 k1).symm
theorem tZ{p:PrbV}(h:OkP p){q:List Int}(hq:SymOk p q){c:Nat}(hc:c<p.task.cases.length):(p.task.cases.getD c default).inp.length=q.length:=by
 obtain⟨ck,-⟩:=cH h.e0;have:=yl ck hc;have:=hq.ln;omega
theorem zv{p:PrbV}(h:OkP p){i j:Nat}(hi:i<p.task.cases.length)(hj:j<p.task.cases.length)(e:(p.task.cases.getD i default).inp=(p.task.cases.getD j default).inp):i=j:=rk (cH h.e0).1 hi hj e
def lq(p:PrbV):List (Nat×List RndV):=jb p.task.cases.length (dW p)
def wL(p:PrbV)(q:List Int)(d:Nat×List RndV):Nat×List RndV:=(AY p q d.1,d.2.map (dG q))
def gD(p:PrbV)(q:List Int)(e:Nat):Nat:=(lq p).idxOf (wL p q ((lq p).getD e default))
theorem me{α β:Type}[Inhabited α][Inhabited β]{f:α->β}{l:List α}{i:Nat}(h:i<l.length):(l.map f).getD i default=f (l.getD i default):=by simp[List.getD,h]
theorem w9{α:Type}[Inhabited α]{l:List α}(hn:l.Nodup){i j:Nat}(hi:i<l.length)(hj:j<l.length)(k:l.getD i default=l.getD j default):i=j:=by
 simp only[List.getD,mB hi,mB hj,tC] at k;rw[List.Nodup,nw] at hn;rcases vv i j with q|q|q
 ·exact absurd k (hn i j hi hj q)
 ·exact q
 ·exact absurd k.symm (hn j i hj hi q)
theorem Mo{p:PrbV}(h:OkP p):(lq p).Nodup:=yk (u7 (cH h.e0).2.1 _ _ (cH h.e0).2.1.s1) _
theorem yG{p:PrbV}:(lq p).length=(aZ p).execs.length:=by
 have:=congrArg List.length (pf p);rw[bi,bi] at this;exact this.symm
theorem CS{p:PrbV}{e:Nat}(he:e<(aZ p).execs.length):((aZ p).execs.getD e default).case=((((lq p).getD e default).1:Nat):Int)/\((aZ p).execs.getD e default).word=((lq p).getD e default).2:=by
 have h1:=pf p;have h2:e<(lq p).length:=by rw[yG];exact he
 have h3:=congrArg (λl=>l.getD e default) h1;rw[me he,me (f:=λd:Nat×List RndV=>((d.1:Int),d.2)) (l:=jb p.task.cases.length (dW p)) h2] at h3;rw[Prod.mk.injEq] at h3;exact h3
theorem pj{p:PrbV}{e:Nat}(he:e<(lq p).length):((lq p).getD e default).1<p.task.cases.length/\((lq p).getD e default).2∈dW p:=qM.1 (show(((lq p).getD e default).1,((lq p).getD e default).2)∈jb _ _ from ao he)
theorem up{p:PrbV}(h:OkP p){n:Nat}(hn:(n:Int)=p.adv.n){w:List RndV}(hw:w∈dW p):∀r∈w,RdOk n r:=by
 obtain⟨hc,ho,-⟩:=cH h.e0;exact rz ho hn ((mw ho _ _ w ho.s1).1 hw).2
theorem Jw{p:PrbV}(h:OkP p){q:List Int}(hq:SymOk p q){d:Nat×List RndV}(hd:d.1<p.task.cases.length/\d.2∈dW p):(wL p q d).1<p.task.cases.length/\(wL p q d).2∈dW p:=
 ⟨(oe h hq hd.1).1,FP hq.pm (cH h.e0).2.1 hq.la hq.eq hd.2⟩
theorem j6{p:PrbV}(h:OkP p){q:List Int}(hq:SymOk p q){e:Nat}(he:e<(lq p).length):gD p q e<(lq p).length/\(lq p).getD (gD p q e) default=wL p q ((lq p).getD e default):=wj (qM.2 (Jw h hq (pj he)))
theorem tK{p:PrbV}(h:OkP p){e f:Nat}(he:e<(lq p).length)(hf:f<(lq p).length)(k:(lq p).getD e default=(lq p).getD f default):e=f:=by
 exact w9 (Mo h) he hf k
theorem J6{p:PrbV}(h:OkP p){d:Nat×List RndV}(hd:d.1<p.task.cases.length/\d.2∈dW p):wL p (idL p.task.n.toNat) d=d:=by
 obtain⟨hc,ho,hn,-⟩:=cH h.e0;have h1:=dq hc;have hs:=tR h;obtain⟨c1,c2⟩:=oe h hs hd.1;have hl:=tZ h hs hd.1;rw[cm] at hl;rw[qP hc (by omega) (by omega) hl] at c2;refine Prod.ext (zv h c1 hd.1 c2) ?_;show d.2.map _=d.2
 conv=>rhs;rw[<-List.map_id d.2]
 exact pz λr hr=>zg (by omega) (by omega) (up h (by omega) hd.2 r hr)
theorem Bg{p:PrbV}(h:OkP p){g k:List Int}(hg:SymOk p g)(hk:SymOk p k){d:Nat×List RndV}(hd:d.1<p.task.cases.length/\d.2∈dW p):wL p (dZ g k) d=wL p g (wL p k d):=by
 have hl:k.length=g.length:=by have:=hg.ln;have:=hk.ln;omega
 have hs:=oA h hg hk;obtain⟨c1,c2⟩:=oe h hs hd.1;obtain⟨k1,k2⟩:=oe h hk hd.1;obtain⟨g1,g2⟩:=oe h hg k1;have hv:=tZ h hg hd.1;refine Prod.ext (zv h c1 g1 ?_) ?_
 ·show(p.task.cases.getD (AY p (dZ g k) d.1) default).inp=(p.task.cases.getD (AY p g (AY p k d.1)) default).inp;rw[c2,g2,k2,mV hg.pm hk.pm hl hv]
 ·exact uX hg.pm hk.pm hl (up h hg.la hd.2)
theorem Gf{p:PrbV}(h:OkP p){g:List Int}(hg:SymOk p g){d:Nat×List RndV}(hd:d.1<p.task.cases.length/\d.2∈dW p):wL p (fi g) (wL p g d)=d:=by
 obtain⟨g1,g2⟩:=oe h hg hd.1;obtain⟨c1,c2⟩:=oe h (za h hg) g1;have hv:=tZ h hg hd.1;refine Prod.ext (zv h c1 hd.1 ?_) ?_
 ·show(p.task.cases.getD (AY p (fi g) (AY p g d.1)) default).inp=_;rw[c2,g2,qk hg.pm hv]
 ·show(d.2.map (dG g)).map (dG (fi g))=d.2;rw[List.map_map]
  conv=>rhs;rw[<-List.map_id d.2]
  exact pz λr hr=>qw hg.pm (up h hg.la hd.2 r hr)
theorem HF{a b k:List Int}(hk:be k=0)(ha:a.length=k.length)(hb:b.length=k.length)(e:dZ a k=dZ b k):a=b:=by
 refine List.ext_getElem (ha.trans hb.symm) λi h1 h2=>?_;obtain⟨j,j1,j2⟩:=jD hk (show i<k.length by omega);have e1:=ia (p:=a) j1;have e2:=ia (p:=b) j1;rw[e,e2,j2,c9] at e1;simpa[List.getD,h1,h2] using e1.symm
theorem Sm{p:PrbV}(h:OkP p):GAct (l5 p) (gD p) (lq p).length where
 nd:=KR h
 lt g hg e he:=(j6 h ((ec h).1 hg) he).1
 one:=⟨_,(ec h).2 (tR h),λe he=>tK h (j6 h (tR h) he).1 he (by rw[(j6 h (tR h) he).2,J6 h (pj he)])⟩
 mul g hg k hk:=by
  have hg:=(ec h).1 hg;have hk:=(ec h).1 hk;refine⟨_,(ec h).2 (oA h hg hk),λe he=>?_⟩;obtain⟨k1,k2⟩:=j6 h hk he;obtain⟨g1,g2⟩:=j6 h hg k1;obtain⟨c1,c2⟩:=j6 h (oA h hg hk) he;exact tK h c1 g1 (by rw[c2,g2,k2,Bg h hg hk (pj he)])
 inv g hg:=by
  have hg:=(ec h).1 hg;refine⟨_,(ec h).2 (za h hg),λe he=>?_⟩;obtain⟨g1,g2⟩:=j6 h hg he;obtain⟨c1,c2⟩:=j6 h (za h hg) g1;exact tK h c1 he (by rw[c2,g2,Gf h hg (pj he)])
 rmul k hk:=by
  have hk:=(ec h).1 hk;refine⟨λg=>dZ g k,λg hg=>?_,λg hg g' hg' e=>?_⟩
  ·have hg:=(ec h).1 hg;refine⟨(ec h).2 (oA h hg hk),λe he=>?_⟩;obtain⟨k1,k2⟩:=j6 h hk he;obtain⟨g1,g2⟩:=j6 h hg k1;obtain⟨c1,c2⟩:=j6 h (oA h hg hk) he;exact tK h c1 g1 (by rw[c2,g2,k2,Bg h hg hk (pj he)])
  ·have a:=((ec h).1 hg).ln;have b:=((ec h).1 hg').ln;have c:=hk.ln;exact HF hk.pm (by omega) (by omega) e
theorem Cj{t:TaskV}(h:ba t=0):t.ins<=8:=by
 unfold ba at h;split at h
 ·exact absurd h (by decide)
 ·omega
theorem ze{n:Nat}(hn:n<=3){w:List RndV}(h:∀r∈w,RdOk n r):∀y∈kj w,0<=y/\y<256:=λy hy=>by
 obtain⟨r,hr,hy⟩:=List.mem_flatMap.1 hy;have ok:=h r hr
 have h8:((2^n:Nat):Int)<=8:=by
  have:n=0\/n=1\/n=2\/n=3:=by omega
  rcases this with rfl|rfl|rfl|rfl<;>decide
 have key:∀i,i<5->0<=r.hs.getD i 0/\r.hs.getD i 0<256:=λi hi=>by
  by_cases q:i<n
  ·have:=ok.row q;omega
  ·rw[ok.out (by omega) hi];omega
 have hf:=ok.flt;simp only[z7,gR,List.not_mem_nil,or_false] at hy;rcases hy with rfl|rfl|rfl|rfl|rfl|rfl
 ·exact key 0 (by omega)
 ·exact key 1 (by omega)
 ·exact key 2 (by omega)
 ·exact key 3 (by omega)
 ·exact key 4 (by omega)
 ·omega
theorem GJ{c d:Nat}{v w:List RndV}{n:Nat}(hn:n<=3)(hc:c<1025)(hd:d<1025)(hv:∀r∈v,RdOk n r)(hw:∀r∈w,RdOk n r)(h:Cv c v=Cv d w):c=d/\v=w:=by
 unfold Cv at h;have h1:=uJ (λx hx=>?_) (λx hx=>?_) h
 ·simp only[List.cons.injEq] at h1;obtain⟨a,b,e⟩:=h1;exact⟨by omega,An hv hw e⟩
 ·simp only[gR] at hx;rcases hx with rfl|rfl|hx
  ·omega
  ·omega
  ·exact ze hn hv x hx
 ·simp only[gR] at hx;rcases hx with rfl|rfl|hx
  ·omega
  ·omega
  ·exact ze hn hw x hx
theorem Hc{t:TaskV}(h:ba t=0):(t.cases.map CaseV.inp).Nodup:=by
 rw[List.Nodup,nw];intro i j hi hj hij e;rw[bi] at hi hj;have:=rk h hi hj (by simpa[List.getD,hi,hj] using e);omega
theorem GM{p:PrbV}(h:OkP p):FinOk (aZ p):=by
 obtain⟨hc,ho,hn,hr0,hr6⟩:=cH h.e0;have h1:=dq hc;have h3:=h.n3;obtain⟨s1,s2,s3,s4⟩:=wh p h
 have cb:∀c∈p.task.cases,(∀x∈c.inp,0<=x/\x<256)/\c.inp.length<=1000000:=λc hm=>by
  have hv:=(js hc hm).1;obtain⟨l1,l2⟩:=oZ hv;have:=Cj hc;exact⟨λx hx=>by have:=l2 x hx;omega,by omega⟩
 have ex:∀x∈(aZ p).execs,∃c:Nat,x.case=c/\c<1025/\x.word.length<=1000/\∀r∈x.word,RdOk p.task.n.toNat r:=λx hx=>by
  obtain⟨c,e,hl,hw⟩:=KG hx;exact⟨c,e,by omega,by rw[ms hw];omega,up h (by omega) hw⟩
 refine⟨?_,cb,by show p.task.cases.length<=_;omega,?_,λx hx=>?_,by omega⟩
 ·show(p.task.cases.map nT).Nodup;have:p.task.cases.map nT=(p.task.cases.map CaseV.inp).map mI:=by rw[List.map_map];rfl
  rw[this];refine gQ (λx hx y hy e=>?_) (Hc hc);obtain⟨c,hc1,rfl⟩:=cE.1 hx;obtain⟨d,hd1,rfl⟩:=cE.1 hy;exact uJ (cb c hc1).1 (cb d hd1).1 e
 ·have:(aZ p).execs.map pE=((aZ p).execs.map λx=>(x.case,x.word)).map λd=>Cv d.1.toNat d.2:=by rw[List.map_map];rfl
  rw[this];refine gQ (λx hx y hy e=>?_) (MC h);obtain⟨c,hc1,rfl⟩:=cE.1 hx;obtain⟨d,hd1,rfl⟩:=cE.1 hy;obtain⟨a,a1,a2,a3,a4⟩:=ex c hc1;obtain⟨b,b1,b2,b3,b4⟩:=ex d hd1;dsimp only at e |-;rw[a1,b1,c9,c9] at e;obtain⟨e1,e2⟩:=GJ (by omega) a2 b2 a4 b4 e;rw[a1,b1,e1,e2]
 ·obtain⟨a,a1,a2,a3,a4⟩:=ex x hx;exact⟨by omega,by omega,a3,ze (by omega) a4⟩
structure FAt(s:SysV)(B:Nat)(H:Hp):Prop where
 gs:H B=some s.cs
 ga:H (B+1)=some [.omap ((s.prob.task.cases.map nT).map ri) (so s.prob.task.cases.length)]
 gb:H (B+2)=some [.omap ((s.execs.map pE).map ri) (so s.execs.length)]
 gf:H (B+3)=some (s.cs++[.mp (B+1),.mp (B+2)])
theorem FMem.at{s:SysV}{nx m:Nat}{H0 H:Hp}(h:FMem s nx H0 H s.prob.task.cases.length s.execs.length m):FAt s nx H:=by
 have ga:=h.ga;have gb:=h.gb;rw[List.take_length] at ga gb;exact⟨h.gs,ga,gb,h.gf⟩
theorem FAt.same{s:SysV}{B n:Nat}{H H':Hp}(h:FAt s B H)(hn:B+4<=n)(hs:∀y,y<n->H' y=H y):FAt s B H':=
 ⟨(hs _ (by omega)).trans h.gs,(hs _ (by omega)).trans h.ga,(hs _ (by omega)).trans h.gb,(hs _ (by omega)).trans h.gf⟩
theorem OQ{l:List (List UInt8)}(hn:l.Nodup){i:Nat}(hi:i<l.length){x:List UInt8}(e:l.getD i default=x):x∈l/\@List.idxOf _ instBEqOfDecidableEq x l=i:=by
 have hm:x∈l:=by rw[<-e];exact ao hi
 refine⟨hm,?_⟩;obtain⟨h1,h2⟩:=@wj _ instBEqOfDecidableEq _ _ l x hm;exact w9 hn h1 hi (h2.trans e.symm)
structure Img(s:SysV)(q:List Int)(e i:Nat):Prop where
 he:e<s.execs.length
 hi:i<s.execs.length
 ex:∃c j:Nat,(s.execs.getD e default).case=c/\(s.execs.getD i default).case=j/\c<s.prob.task.cases.length/\j<s.prob.task.cases.length/\(s.prob.task.cases.getD c default).inp.length=q.length/\(s.prob.task.cases.getD j default).inp=bX (s.prob.task.cases.getD c default).inp q
 wr:∀r∈(s.execs.getD e default).word,RdOk q.length r
 wi:(s.execs.getD i default).word=(s.execs.getD e default).word.map (dG q)
def imL(im:Nat->Nat)(M:Nat):List Int:=(List.range M).map λe=>((im e:Nat):Int)
theorem Gp(im:Nat->Nat)(M:Nat):imL im (M+1)=imL im M++[((im M:Nat):Int)]:=by simp[imL,List.range_succ]
theorem yQ(im:Nat->Nat)(M:Nat):(imL im M).length=M:=by simp[imL]
theorem D4{im:Nat->Nat}{M e:Nat}(h:e<M):(imL im M).getD e default=((im e:Nat):Int):=by simp[imL,List.getD,h]
theorem FY{p:PrbV}(h:OkP p){q:List Int}(hq:SymOk p q){e:Nat}(he:e<(aZ p).execs.length):Img (aZ p) q e (gD p q e):=by
 have hl:=yG (p:=p);have he2:e<(lq p).length:=by omega
 obtain⟨a1,a2⟩:=j6 h hq he2;have ha:gD p q e<(aZ p).execs.length:=by omega
 have hm:=pj he2;obtain⟨c1,c2⟩:=oe h hq hm.1;obtain⟨g1,g2⟩:=CS he;obtain⟨k1,k2⟩:=CS ha;rw[a2] at k1 k2;refine⟨he,ha,⟨_,_,g1,k1,hm.1,c1,tZ h hq hm.1,c2⟩,?_,?_⟩
 ·rw[g2];exact up h hq.la hm.2
 ·rw[k2,g2];rfl
section
attribute [local irreducible] aF ai bj aY aN aM ax aS a8 bm Go.Abs.Fn aX Go.Abs.Pure ap aK Yl
theorem NF(n:Nat)(h1:1<=n)(h5:n<=5):pU 87 [.int .i64 n] (.int .i64 0):=by
 have z1:decide ((n:Int)<1)=false:=bJ (by omega);have z2:decide ((n:Int)>5)=false:=bJ (by omega);refine pO O5 ?_;simp only[b87,aw];refine wnY (aI @z1 @z2) ?_;exact .int _ _
structure GMem(n nx:Nat)(H0 H:Hp)(L:List (List Int))(lv:AV)(m:Nat):Prop where
 gm:H (nx+1)=some [.omap ((L.map t5).map kv5) (j4 L.length)]
 row:Row H 1 lv (L.map aq)
 rb:∀c,bk lv=some c->c=nx\/(nx+2<=c/\c<m)
 le:nx+2<=m
 fr:∀y,y<nx->H y=H0 y
theorem P3(G:List (List Int))(n:Nat)(h1:1<=n)(h3:n<=3)(hG:∀g∈G,be g=0/\g.length=n)(hGl:G.length<=1024)(H0:Hp)(nx:Nat):
    Abs.Fn Tryz.prog 68 [.int .i64 n,ay G] H0 nx λr H' nx'=>nx<=nx'/\(∀y,y<nx->H' y=H0 y)/\∃rv,r=.tup [rv,.int .i64 0]:=by
 refine fO R3 ?_;simp only[b68,aw];have hnum:=NF n h1 (by omega);have hid:=KF n h1 (by omega);have hidp:=kP h1 (show n<=5 by omega);have hkid:=Lc (idL n) hidp;have zl:decide ((G.length:Int)>1024)=false:=bJ (by omega);refine wnY @zl ?_;refine bq (X:=Nat) (λj=>[(0,.int .i64 n),(1,ay G),(24,ay G),(25,.int .i64 G.length),(26,.int .i64 j)]) (λj H m=>j<=G.length/\H0=H/\nx=m) (λj=>G.length-j) 0 ⟨bo _,rfl,rfl⟩ ag0 ?_;rintro j _ _ ⟨hj,rfl,rfl⟩;by_cases hj2:j<G.length
 ·obtain⟨q1,q2⟩:=hG _ (ao hj2);have hc:=gW (G.getD j default) (show(G.getD j default).length<=_ by omega);rw[q1] at hc;have z:decide (((G.getD j default).length:Int)≠n)=false:=bJ (by omega);refine wnY @z ?_;exact⟨j+1,by omega,⟨by omega,rfl,rfl⟩,ag0⟩
 refine wnY and_self ?_;refine xn ?_;have tn0:Int.toNat 0=0:=rfl;rw[K1] at hkid;refine wnY @tn0 ?_;refine nJ (b:=nx+1) (kv:=kv5 (t5 (idL n))) (ks:=[]) (vs:=[]) (r:=none) ev0 (by simp (disch:=omega) only[ae]) ev0 ev0 rfl rfl ?_;refine wnY and_self ?_
 refine bq (X:=Nat×List (List Int)×AV) (λx=>[(0,.int .i64 n),(1,ay G),(10,x.2.2),(11,.mp (nx+1)),(12,.int .i64 x.1)])
  (λx H m=>x.1<=x.2.1.length/\GenV n x.2.1/\GMem n nx H0 H x.2.1 x.2.2 m) (λx=>7-x.1) (0,[idL n],.msl nx 1 1 0 1)
  ⟨bo _,⟨jf,λx hx=>by rw[gH.1 hx];exact⟨hidp,cm n⟩,by simp⟩,⟨by simp (disch:=omega) only[ae];rfl,Row.box (sz:=1) nx 1 _ (by simp (disch:=omega) only[ab,ae];rfl) rfl,λc h=>by cases h;exact .inl rfl,by omega,λy hy=>by simp (disch:=omega) only[ab]⟩⟩ (by simp (disch:=omega) only[agr,ZG,reduceEqDiff,↓reduceIte,SL,kw]) ?_
 rintro⟨i,L,lv⟩ H1 m1 ⟨hi,hV,hM⟩;dsimp only at hi hV hM |-;have hL6:=hV.len h1 h3;have hlen:=hM.row.lenS (by rw[bi,Nat.mul_one]) (by omega);by_cases hi2:i<L.length
 rotate_left
 ·obtain rfl:i=L.length:=by omega
  have hne:=hV.ne;obtain⟨B,len,rfl,hB,hBl⟩:=jR hM.row (λe=>by have:=congrArg List.length e;rw[bi,ss] at this;omega);simp only[Nat.mul_one,bi] at hB hBl |-;subst hBl;have hlen:eW (.msl B L.length 1 0 L.length)=some (.int .i64 L.length):=by simpa only[Nat.mul_one] using hlen
  have hB1:=hM.rb B rfl;have hle:=hM.le;refine wnY @hlen ?_;refine ce ev0 ev0 (Dh PB (L:=L) hB (by omega) rfl hV.ne (λx hx=>by obtain⟨a,b⟩:=hV.ok x hx;show x.length<=_;omega) (by omega)) ?_;rintro _ H3 m3 ⟨L',hps,-,-⟩;refine wnY and_self ?_;have:=hps.le;exact⟨by omega,λy hy=>(hps.fr y (by omega) (by omega)).trans (hM.fr y hy),_,rfl⟩
 refine wnY @hlen ?_
 refine bq (X:=Nat×List (List Int)×AV) (λx=>[(0,.int .i64 n),(1,ay G),(10,x.2.2),(11,.mp (nx+1)),(12,.int .i64 i),(55,ay G),(56,.int .i64 G.length),(57,.int .i64 x.1)])
  (λx H m=>x.1<=G.length/\i<x.2.1.length/\GenV n x.2.1/\GMem n nx H0 H x.2.1 x.2.2 m) (λx=>G.length-x.1) (0,L,lv) ⟨bo _,hi2,hV,hM⟩ (by simp (disch:=omega) only[agr,ZG,reduceEqDiff,↓reduceIte,SL,kw]) ?_
 rintro⟨j,L2,lv2⟩ H2 m2 ⟨hj,hi3,hV2,hM2⟩;dsimp only at hj hi3 hV2 hM2 |-;have hL26:=hV2.len h1 h3;by_cases hj2:j<G.length
 rotate_left
 ·refine wnY and_self ?_;exact⟨(i+1,L2,lv2),by dsimp only;omega,⟨by dsimp only;omega,hV2,hM2⟩,by simp (disch:=omega) only[agr,ZG,reduceEqDiff,↓reduceIte,SL,kw]⟩
 obtain⟨g1,g2⟩:=hG _ (ao hj2);obtain⟨x1,x2⟩:=hV2.ok _ (ao hi3);have hcomp:=Cu (G.getD j default) (L2.getD i default) g1 x1 (by omega);have hxp:be (dZ (G.getD j default) (L2.getD i default))=0:=gY g1 x1 (by omega);have hxl:(dZ (G.getD j default) (L2.getD i default)).length=n:=by rw[ct];exact x2
 have hk:=Lc _ hxp;rw[K1] at hk;generalize dZ (G.getD j default) (L2.getD i default)=x at *;obtain⟨B,len,rfl,hB,hBl⟩:=jR hM2.row (λe=>by have:=congrArg List.length e;rw[bi,ss] at this;omega);simp only[Nat.mul_one,bi] at hB hBl |-;subst hBl
 have e1:eo 1 (.msl B L2.length 1 0 L2.length) (.int .i64 (i:Int))=some (.ptr B L2.length i):=by
  have:=ixN (b:=B) (n:=L2.length) (sz:=1) (k:=i) (len:=L2.length) hi3
  rwa [Nat.mul_one] at this
 have hr:rd1 H2 (.ptr B L2.length i)=some (aq (L2.getD i default)):=by
  rw[SR.1,hB];simp[hi3,List.getD]
 refine wnY (aI @e1 @hr) ?_;have hM2:GMem n nx H0 H2 L2 (.msl B L2.length 1 0 L2.length) m2:=by simpa only[Nat.mul_one] using hM2
 have hB1:=hM2.rb B rfl;have hle:=hM2.le;have hlx:∀y∈L2,y.length=n:=λy hy=>(hV2.ok y hy).2;by_cases hmem:x∈L2
 ·obtain⟨k,hk1,hf⟩:=F4 ((Hz (by omega) hlx hxl).2 hmem);rw[bi] at hk1;refine mJ (b:=nx+1) ev0 hM2.gm ev0 rfl hf ?_;rw[show mget (AV.bool false) false (some k) (j4 L2.length)=(j4 L2.length).getD k .undef from rfl,Bs hk1];refine wnY and_self ?_;exact⟨(j+1,L2,.msl B L2.length 1 0 L2.length),by dsimp only;omega,⟨by dsimp only;omega,hi3,hV2,hM2⟩,by simp (disch:=omega) only[agr,ZG,reduceEqDiff,↓reduceIte,SL,kw]⟩
 ·have hf:=HE (λh=>hmem ((Hz (by omega) hlx hxl).1 h));refine mJ (b:=nx+1) ev0 hM2.gm ev0 rfl hf ?_;rw[show mget (AV.bool false) false none (j4 L2.length)=.bool false from rfl];refine wnY and_self ?_;refine nJ (b:=nx+1) ev0 hM2.gm ev0 ev0 rfl hf ?_;refine wnY and_self ?_;refine dY (k:=1) (sv:=.msl B L2.length 1 0 L2.length) (xv:=.msl m2 1 1 0 1) (cs:=L2.map aq) (new:=[aq x]) rfl ev0 (hM2.row.same λc hc=>by cases hc;rcases hB1 with h|h<;>simp (disch:=omega) only[ab]) ev0 pr rfl rfl jf (by rw[bi];omega) (by rw[bi];omega) ?_;rintro lv3 H4 m4 r1 r2 r3 r4 r5;refine wnY and_self ?_;refine⟨(j+1,L2++[x],lv3),by dsimp only;omega,⟨by dsimp only;omega,by dsimp only;rw[cP];omega,hV2.snoc ⟨hxp,hxl⟩ hmem,⟨?_,?_,?_,by omega,?_⟩⟩,by simp (disch:=omega) only[agr,ZG,reduceEqDiff,↓reduceIte,SL,kw]⟩
  ·dsimp only;rw[r4 (nx+1) (by omega) (λh=>by cases h;omega)];simp (disch:=omega) only[ab,ae];rw[dp,dp,cP];show some [AV.omap _ (j4 L2.length++[.bool true])]=_;rw[wR];rfl
  ·dsimp only;rw[dp];exact r1
  ·intro c hc;rcases r5 c hc with h|h
   ·cases h;exact hB1.imp id λq=>⟨q.1,by omega⟩
   ·exact .inr (by omega)
  ·intro y hy;rw[r4 y (by omega) (λh=>by cases h;omega)];simp (disch:=omega) only[ab];exact hM2.fr y hy
theorem Bw(v:List Int)(h:∀x∈v,0<=x/\x<256)(hl:v.length<=1000000):pU 65 [aq v] (.str ⟨(mI v).toArray⟩):=by
 have hz:bd (.agg [.int .u8 0]) v.length=(tE v 0).map lN:=by
  simp[bd,tE,AV.cells,mI];exact .inr rfl
 refine pO Rc ?_;simp only[b65,aw];refine wnZ and_self ?_;refine nj rfl ev0 ev0 (by omega) (by omega) (by omega) (by omega) ?_;rw[c9,hz];refine wnZ and_self ?_;refine bq (X:=Nat) (λk=>[(3,.msl 0 v.length 1 0 v.length),(9,aq v),(10,.int .i64 v.length),(11,.int .i64 k)]) (λk H nx=>k<=v.length/\H=av aP 0 ((tE v k).map lN)/\nx=1) (λk=>v.length-k) 0 ⟨bo _,rfl,rfl⟩ (by simp (disch:=omega) only[agr,ZG,reduceEqDiff,↓reduceIte,Nat.mul_one]) ?_;rintro k H nx ⟨hk,rfl,rfl⟩;have hml:=rf hk;by_cases hk2:k<v.length
 ·have hx:=h _ (ao hk2);have hlm:=gk (f:=lN) (l:=tE v k) (k:=k) (x:=UInt8.ofNat (v.getD k default).toNat) (by omega);rw[Gv hk2,IM hx] at hlm
  have ew:IntKind.wrap .u8 (v.getD k default)=v.getD k default:=by
   generalize v.getD k default=z at hx |-;simp only[IntKind.bits,IntKind.wrap,IntKind.signed];simp;omega
  refine wnY @ew ?_;refine⟨k+1,by omega,⟨by omega,?_,rfl⟩,ag0⟩;rw[jg,hlm]
 ·obtain rfl:k=v.length:=by omega
  have ht:tE v v.length=mI v:=by unfold tE;rw[Nat.sub_self,List.replicate_zero,jd,ju (by simp[mI])]
  rw[ht] at hml |-;refine wnZ and_self ?_;refine N3 (n:=v.length) (bs:=mI v) (by((try simp only[bg,ZA,reduceEqDiff,↓reduceIte,reduceAdd,reduceLeDiff]);(try with_reducible rfl));exact Cd ae (by simp[mI])) ?_;refine wnZ and_self ?_;exact .str _
theorem FS(w:List RndV)(hl:w.length<=1000):pU 109 [bB w] (aq (kj w)):=by
 refine pO Oa ?_;simp only[PH,aw];refine wnZ @PE ?_;refine bq (X:=Nat×AV) (λx=>[(3,x.2),(6,bB w),(7,.int .i64 w.length),(8,.int .i64 x.1)]) (λx H nx=>x.1<=w.length/\Row H 1 x.2 ((kj (w.take x.1)).map (AV.int .i64))/\∀c,bk x.2=some c->c<nx) (λx=>w.length-x.1) (0,.esl) ⟨bo _,Row.nil,λc h=>(by cases h)⟩ ag0 ?_;rintro⟨k,sv⟩ H nx ⟨hk,hrow,hb⟩;dsimp only at hk hrow hb |-;by_cases hk2:k<w.length
 rotate_left
 ·refine wnY @PE ?_;rw[ju (by omega)] at hrow;exact hrow.snapI
 have ix:=ixR hk2;rw[PC.1] at ix;have hst:kj (w.take (k+1))=kj (w.take k)++z7 (w.getD k default):=by rw[bZ hk2,EW]
 have hll:=kR (w.take k);rw[iX,Nat.min_eq_left hk] at hll;generalize w.getD k default=r at *;refine wnY (aI @PE @ix) ?_;refine JX aP (only nx [.int .i64 r.n,.int .i64 r.h0,.int .i64 r.h1,.int .i64 r.h2,.int .i64 r.h3,.int .i64 r.h4,.int .i64 r.f]) (dv _ nx) [(3,sv),(5,.iptr [.int .i64 r.n,.int .i64 r.h0,.int .i64 r.h1,.int .i64 r.h2,.int .i64 r.h3,.int .i64 r.h4,.int .i64 r.f] 0),(6,bB w),(7,.int .i64 w.length),(8,.int .i64 k)] (Fz.one (by simp only[ae];rfl)) ⟨.inl (have zz:=@SL;evZ),.inr ?_,.inl (have zz:=@SL;evZ),.inl (have zz:=@SL;evZ),.inl (have zz:=@SL;evZ),trivial⟩ rfl (λ_ _ h=>by cases h) ?_
 ·have e:∀x,x=AV.ptr nx 7 0->Snap (only nx [.int .i64 r.n,.int .i64 r.h0,.int .i64 r.h1,.int .i64 r.h2,.int .i64 r.h3,.int .i64 r.h4,.int .i64 r.f]) x (.iptr [.int .i64 r.n,.int .i64 r.h0,.int .i64 r.h1,.int .i64 r.h2,.int .i64 r.h3,.int .i64 r.h4,.int .i64 r.f] 0):=λx hx=>by
    rw[hx];exact fU ez rfl (ac (.int _ _) (ac (.int _ _) (ac (.int _ _) (ac (.int _ _) (ac (.int _ _) (ac (.int _ _) (ac (.int _ _) al)))))))
  exact e _ (have zz:=@SL;evZ)
 have hs7:=QZ r.n r.h0 r.h1 r.h2 r.h3 r.h4 r.f;simp only[f9,List.map_nil,List.getD_cons_succ,List.getD_cons_zero];refine wnY (aI @PE @hs7) ?_;refine KZ (pv:=[(0,1,.int .i64 r.f)]) (cs:=[.int .i64 r.f]) ev0 rfl (by decide) rfl rfl ?_;refine dz ?_;refine dY (k:=5) (sv:=sv) (xv:=aq [r.h0,r.h1,r.h2,r.h3,r.h4]) (cs:=(kj (w.take k)).map (AV.int .i64)) (new:=[r.h0,r.h1,r.h2,r.h3,r.h4].map (AV.int .i64)) rfl ev0 (hrow.same λc hc=>by have:=hb c hc;simp (disch:=omega) only[bQ,ab]) ev0 jz jS rfl jf (by rw[bi];omega) (by rw[bi];omega) ?_;rintro s2 H2 m2 r1 r2 r3 r4 r5;refine iE ⟨(λ_ _ h=>by cases h),?_⟩;refine fm ?_;refine dY (k:=1) (sv:=s2) (xv:=aq [r.f]) (new:=[r.f].map (AV.int .i64)) rfl ev0 r1 (by((try simp only[bg,ZA,reduceEqDiff,↓reduceIte,reduceAdd,reduceLeDiff]);(try with_reducible rfl));rfl) jz jS rfl jf (by rw[cP,bi];simp;omega) (by rw[cP,bi];simp;omega) ?_;rintro s3 H3 m3 t1 t2 t3 t4 t5;refine wnY @PE ?_;refine⟨(k+1,s3),by dsimp only;omega,⟨by dsimp only;omega,?_,λc hc=>?_⟩,by simp (disch:=omega) only[agr,ZG,reduceEqDiff,↓reduceIte,SL]⟩
 ·dsimp only;rw[hst,dp];rw[io] at t1;exact t1
 ·rcases t5 c hc with h|h
  ·rcases r5 c h with h|h
   ·have:=hb c h;omega
   ·omega
  ·omega
theorem CK(c:Nat)(w:List RndV)(hc:c<16384)(hl:w.length<=1000)(hw:∀x∈kj w,0<=x/\x<256):pU 66 [.int .i64 (c:Nat),bB w] (.str ⟨(Cv c w).toArray⟩):=by
 have hle:=FS w hl;have hll:=kR w
 have hk:=Bw (((c / 64:Nat):Int) :: ((c % 64:Nat):Int) :: kj w) (fun x hx=>by
  rcases gR.1 hx with rfl|hx
  ·omega
  ·rcases gR.1 hx with rfl|hx
   ·omega
   ·exact hw x hx) (by simp only[ig];omega)
 have hq:=λtb tf=>Dk (a:=(c:Int)) (b:=64) (tb:=tb) (tf:=tf) (by omega) (by omega) (by omega);have hr:=λtb tf=>Da (k:=.i64) (a:=(c:Int)) (b:=64) (tb:=tb) (tf:=tf) (by omega) (by omega);have e1:(c:Int)/64=((c/64:Nat):Int):=by omega
 have e2:(c:Int)%64=((c%64:Nat):Int):=by omega
 rw[e1] at hq;rw[e2] at hr;refine pO Su ?_;simp only[b66,aw];refine wnY (aI @hq @hr) ?_
 have hrow:Row (av (av aP 0 [AV.int .i64 ((c/64:Nat):Int),AV.int .i64 ((c%64:Nat):Int)]) 0 ([AV.int .i64 ((c/64:Nat):Int),AV.int .i64 ((c%64:Nat):Int)]++(kj w).map (AV.int .i64))) 1 (.msl 0 ((2+(kj w).length)*1) 1 0 (2+(kj w).length)) ((((c/64:Nat):Int)::((c%64:Nat):Int)::kj w).map (AV.int .i64)):=
  Row.box 0 (2+(kj w).length) _ ae (by simp;omega)
 refine eJ ev0 ev0 hk (bK (ac hrow.snapI al) rfl) ?_;refine wnY and_self ?_;exact .str _
theorem A4(s:SysV)(hs:FinOk s)(H0:Hp)(nx:Nat):Abs.Fn Tryz.prog 29 [fE s] H0 nx λr H' nx'=>r=.ptr (nx+3) 12 0/\FMem s nx H0 H' s.prob.task.cases.length s.execs.length nx':=by
 refine fO Q7 ?_;simp only[b29,aw];unfold fE;rw[PC.2.2.2.2.2.2.2];refine wnY @PE ?_;refine xn ?_
 skip
 refine xn ?_;refine wnY @PE ?_;refine bq (X:=Nat) (λk=>[(1,.ptr nx 10 0),(3,.ptr (nx+3) 12 0),(16,bw s.prob.task.cases),(17,.int .i64 s.prob.task.cases.length),(18,.int .i64 k)]) (λk H m=>k<=s.prob.task.cases.length/\FMem s nx H0 H k 0 m) (λk=>s.prob.task.cases.length-k) 0 ⟨bo _,⟨by rw[PC.2.2.2.2.2.2.2];simp (disch:=omega) only[ab,ae],by simp (disch:=omega) only[ab,ae];rfl,by simp (disch:=omega) only[ab,ae];rfl,by rw[PC.2.2.2.2.2.2.2];simp (disch:=omega) only[ab,ae];rfl,by omega,λy hy=>by simp (disch:=omega) only[ab]⟩⟩ (by simp (disch:=omega) only[agr,ZG,reduceEqDiff,↓reduceIte,SL,kw]) ?_;rintro k H m ⟨hk,hM⟩;by_cases hk2:k<s.prob.task.cases.length
 ·have ix:=bL hk2;have gf:=hM.gf;have ga:=hM.ga;rw[PC.2.2.2.2.2.2.2] at gf;obtain⟨q1,q2⟩:=hs.cb _ (ao hk2);have hkey:=Bw _ q1 q2;have hst:(s.prob.task.cases.take (k+1)).map nT=(s.prob.task.cases.take k).map nT++[nT (s.prob.task.cases.getD k default)]:=by rw[bZ hk2,dp];rfl
  have hnm:nT (s.prob.task.cases.getD k default)∉(s.prob.task.cases.take k).map nT:=λhmem=>by
   have h1:=hs.cn;rw[<-qI (k+1) s.prob.task.cases,dp,hst,yf,yf] at h1;exact h1.1.2.2 _ hmem _ (gH.2 rfl) rfl
  have hf:=AL hnm;have hle:=hM.le;have hcl:=hs.cl;refine wnY (aI @PE @ix) ?_;refine fg _ rfl (λ_ _ h=>h) ?_;simp only[f9,List.map_nil,List.getD_cons_succ,List.getD_cons_zero];refine wnY (zI3 @PE @NKF @gf) ?_;refine dz ?_;refine eJ ev0 ev0 hkey (bC (ac (bP _ _) al)) ?_;refine iE ⟨(λ_ _ h=>h),?_⟩;refine fm ?_;refine nJ (b:=nx+1) ev0 (by simp (disch:=omega) only[ab];exact ga) (by((try simp only[bg,ZA,reduceEqDiff,↓reduceIte,reduceAdd,reduceLeDiff]);(try with_reducible rfl));rfl) ev0 rfl hf ?_;refine wnY @PE ?_;refine⟨k+1,by omega,⟨by omega,?_,?_,?_,?_,by omega,λy hy=>by simp (disch:=omega) only[ab];exact hM.fr y hy⟩,by simp (disch:=omega) only[agr,ZG,reduceEqDiff,↓reduceIte,SL]⟩
  ·simp (disch:=omega) only[ab];exact hM.gs
  ·simp (disch:=omega) only[ae];rw[hst,dp];show some [AV.omap _ (so k++[.int .i64 (k:Nat)])]=_;rw[wS];rfl
  ·simp (disch:=omega) only[ab];exact hM.gb
  ·simp (disch:=omega) only[ab];exact hM.gf
 obtain rfl:k=s.prob.task.cases.length:=by omega
 have gs:=hM.gs;rw[PC.2.2.2.2.2.2.2] at gs;refine wnY (aI @PE @gs) ?_;refine bq (X:=Nat) (λk=>[(1,.ptr nx 10 0),(3,.ptr (nx+3) 12 0),(33,fT s.execs),(34,.int .i64 s.execs.length),(35,.int .i64 k)]) (λk H m=>k<=s.execs.length/\FMem s nx H0 H s.prob.task.cases.length k m) (λk=>s.execs.length-k) 0 ⟨bo _,hM⟩ (by simp (disch:=omega) only[agr,ZG,reduceEqDiff,↓reduceIte,SL,kw]) ?_;clear gs hM hk2 hk;rintro k H m ⟨hk,hM⟩;by_cases hk2:k<s.execs.length
 ·have ix:=ixE hk2;rw[PC.2.2.2.2.2.2.1] at ix;have gf:=hM.gf;have ga:=hM.gb;rw[PC.2.2.2.2.2.2.2] at gf;obtain⟨q1,q2,q3,q4⟩:=hs.eb _ (ao hk2);have hcn:(((s.execs.getD k default).case.toNat:Nat):Int)=(s.execs.getD k default).case:=by omega
  have hkey:=CK (s.execs.getD k default).case.toNat (s.execs.getD k default).word (by omega) q3 q4
  rw[hcn] at hkey;have hst:(s.execs.take (k+1)).map pE=(s.execs.take k).map pE++[pE (s.execs.getD k default)]:=by rw[bZ hk2,dp];rfl
  have hnm:pE (s.execs.getD k default)∉(s.execs.take k).map pE:=λhmem=>by
   have h1:=hs.en;rw[<-qI (k+1) s.execs,dp,hst,yf,yf] at h1;exact h1.1.2.2 _ hmem _ (gH.2 rfl) rfl
  have hf:=AL hnm;have hle:=hM.le;have hcl:=hs.el;refine wnY (aI @PE @ix) ?_;refine fg _ rfl (λ_ _ h=>h) ?_;simp only[f9,List.map_nil,List.getD_cons_succ,List.getD_cons_zero];refine wnY (zI3 @PE @NKF @gf) ?_;refine dz ?_;refine eJ ev0 ev0 hkey (bC (ac (.int _ _) (ac (kD _ _) al))) ?_;refine iE ⟨(λ_ _ h=>h),?_⟩;refine fm ?_;refine nJ (b:=nx+2) ev0 (by simp (disch:=omega) only[ab];exact ga) (by((try simp only[bg,ZA,reduceEqDiff,↓reduceIte,reduceAdd,reduceLeDiff]);(try with_reducible rfl));rfl) ev0 rfl hf ?_;refine wnY @PE ?_;refine⟨k+1,by omega,⟨by omega,?_,?_,?_,?_,by omega,λy hy=>by simp (disch:=omega) only[ab];exact hM.fr y hy⟩,by simp (disch:=omega) only[agr,ZG,reduceEqDiff,↓reduceIte,SL]⟩
  ·simp (disch:=omega) only[ab];exact hM.gs
  ·simp (disch:=omega) only[ab];exact hM.ga
  ·simp (disch:=omega) only[ae];rw[hst,dp];show some [AV.omap _ (so k++[.int .i64 (k:Nat)])]=_;rw[wS];rfl
  ·simp (disch:=omega) only[ab];exact hM.gf
 obtain rfl:k=s.execs.length:=by omega
 refine wnY @PE ?_;exact⟨rfl,hM⟩
set_option maxHeartbeats 8000000 in
theorem FT(s:SysV)(hs:FinOk s)(q:List Int)(hq:be q=0)(e i:Nat)(hI:Img s q e i)(B:Nat)(H0:Hp)(nx:Nat)(hB:B+4<=nx)(hF:FAt s B H0):
    Abs.Fn Tryz.prog 111 [.ptr (B+3) 12 0,aq q,.int .i64 e] H0 nx λr H' nx'=>r=.int .i64 (i:Nat)/\nx<=nx'/\∀y,y<nx->H' y=H0 y:=by
 refine fO Qt ?_;simp only[Nh,aw];obtain⟨he,hi,⟨c,j,hc,hj,hcl,hjl,hil,hji⟩,hwr,hwi⟩:=hI;have gf:=hF.gf;rw[PC.2.2.2.2.2.2.2] at gf;have ix:=ixE he;rw[PC.2.2.2.2.2.2.1] at ix;rw[hc] at ix;obtain⟨b1,b2⟩:=hs.cb _ (ao hjl);have hwl:=(hs.eb _ (ao he)).2.2.1;obtain⟨e1,e2,e3,e4⟩:=hs.eb _ (ao hi);have hcl2:=hs.cl;have hpl:=CK j ((s.execs.getD e default).word.map (dG q)) (by omega) (by rw[bi];exact hwl) (by rw[<-hwi];exact e4);obtain⟨m1,m2⟩:=OQ hs.cn (i:=j) (by rw[bi];exact hjl) (x:=mI (bX (s.prob.task.cases.getD c default).inp q)) (by rw[me hjl];unfold nT;rw[hji]);obtain⟨p1,p2⟩:=OQ hs.en (i:=i) (by rw[bi];exact hi) (x:=Cv j ((s.execs.getD e default).word.map (dG q))) (by rw[me hi];unfold pE;rw[hwi,hj,c9]);have f1:=zK m1;rw[m2] at f1;have f2:=zK p1;rw[p2] at f2;have hvc:=xC (s.prob.task.cases.getD c default).inp q hq hil;rw[<-hji] at hvc f1;have hok:=Bw _ b1 b2;have ix2:=bL hcl;generalize s.execs.getD e default=X at *;refine wkY (zI5 @PE @gf @NKF @ix @ix2) ?_;refine fg _ rfl (λ_ _ h=>h) ?_;simp only[f9,List.map_nil,List.getD_cons_succ,List.getD_cons_zero];refine wnY (zI3 @PE @NKF @gf) ?_;refine dz ?_;refine eJ ev0 ev0 hok (bC (ac (bP _ _) al)) ?_;refine iE ⟨(λ_ _ h=>h),?_⟩;refine fm ?_;refine mJ (b:=B+1) ev0 (by simp (disch:=omega) only[ab];exact hF.ga) (by((try simp only[bg,ZA,reduceEqDiff,↓reduceIte,reduceAdd,reduceLeDiff]);(try with_reducible rfl));rfl) rfl f1 ?_
 have hg1:mget (.int .i64 0) true (some j) (so s.prob.task.cases.length)=.tup [.int .i64 (j:Nat),.bool true]:=by rw[<-AX hjl];rfl
 rw[hg1];refine wnY (zI3 @PE @NKF @gf) ?_
 refine bq (X:=Nat×AV) (λx=>[(0,.ptr (B+3) 12 0),(1,aq q),(10,.int .i64 (j:Nat)),(12,x.2),(61,bB X.word),(62,.int .i64 X.word.length),(63,.int .i64 x.1)]) (λx H n=>x.1<=X.word.length/\nx<=n/\(∀y,y<nx->H y=H0 y)/\Row H 7 x.2 (cL cK ((X.word.take x.1).map (dG q)))/\∀c,bk x.2=some c->nx<=c/\c<n) (λx=>X.word.length-x.1) (0,.esl)
  ⟨bo _,by omega,λy hy=>by simp (disch:=omega) only[ab],.nil,λb h=>(by cases h)⟩ (by simp (disch:=omega) only[agr,ZG,reduceEqDiff,↓reduceIte,SL]) ?_
 rintro⟨k,sv⟩ H n ⟨hk,hn,fr,hr1,hb1⟩;dsimp only at hk hr1 hb1 |-;obtain⟨q1,q2⟩:=hr1.one;by_cases hk2:k<X.word.length
 ·have ixr:=ixR hk2;have hm:=As q (X.word.getD k default) hq (hwr _ (ao hk2)).e (hwr _ (ao hk2)).n.symm;have htj:(X.word.take (k+1)).map (dG q)=(X.word.take k).map (dG q)++[dG q (X.word.getD k default)]:=by rw[bZ hk2,dp];rfl
  have hd:=fY (X.word.getD k default);have hcl:=eu (f:=cK) (sz:=7) (λ_=>rfl) ((X.word.take k).map (dG q));rw[bi,iX,Nat.min_eq_left hk] at hcl;have hc1:cL cK [dG q (X.word.getD k default)]=(dG q (X.word.getD k default)).cs:=mH _;generalize dG q (X.word.getD k default)=m' at *;generalize X.word.getD k default=m at *;unfold cK at hm hd;rw[PC.1] at ixr hd hc1;rw[PC.1,PC.1] at hm;refine wnY (zI4 @PE @q1 @q2 @ixr) ?_;refine dY (k:=1) (sv:=sv) (xv:=.msl (n+2) 7 7 0 1) (cs:=cL cK ((X.word.take k).map (dG q))) (new:=[.int .i64 m'.n,.int .i64 m'.h0,.int .i64 m'.h1,.int .i64 m'.h2,.int .i64 m'.h3,.int .i64 m'.h4,.int .i64 m'.f]) rfl ev0 (hr1.same λb h=>by have:=hb1 b h;simp (disch:=omega) only[ab]) ev0 (dw rfl) rfl rfl (by omega) (by omega) (by omega) ?_;rintro ro' H3 n3 r1 r2 r3 r4 r5;refine wnY @PE ?_;refine⟨(k+1,ro'),by dsimp only;omega,⟨by dsimp only;omega,by omega,λy hy=>?_,by dsimp only;rw[htj,eR,hc1];exact r1,λb h=>?_⟩,by simp (disch:=omega) only[agr,ZG,reduceEqDiff,↓reduceIte,SL]⟩
  ·rw[r4 y (by omega) (λh=>by have:=hb1 y h;omega)];simp (disch:=omega) only[ab];exact fr y hy
  ·rcases r5 b h with h|h
   ·have:=hb1 b h;omega
   ·omega
 obtain rfl:k=X.word.length:=by omega
 rw[List.take_length] at hr1;have hF':=hF.same hB fr;have gf':=hF'.gf;rw[PC.2.2.2.2.2.2.2] at gf';refine wnY @PE ?_;refine fg _ rfl (λ_ _ h=>h) ?_;simp only[f9,List.map_nil,List.getD_cons_succ,List.getD_cons_zero];refine wnY (zI5 @PE @NKF @gf' @q1 @q2) ?_;refine dz ?_;refine eJ ev0 ev0 hpl (bK (ac (.int _ _) (ac (BQ hr1) al)) rfl) ?_;refine iE ⟨(λ_ _ h=>h),?_⟩;refine fm ?_;refine mJ (b:=B+2) ev0 hF'.gb (by((try simp only[bg,ZA,reduceEqDiff,↓reduceIte,reduceAdd,reduceLeDiff]);(try with_reducible rfl));rfl) rfl f2 ?_;have hg2:mget (.int .i64 0) true (some i) (so s.execs.length)=.tup [.int .i64 (i:Nat),.bool true]:=by rw[<-AX hi];rfl
 rw[hg2];refine wnY @PE ?_;exact⟨rfl,hn,fr⟩
theorem LK(s:SysV)(hs:FinOk s)(q:List Int)(hq:be q=0)(im:Nat->Nat)(hI:∀e,e<s.execs.length->Img s q e (im e))(B b1 b2 y:Nat)(H0:Hp)(nx:Nat)(I:Nat->Hp->Nat->Prop)
    (pre:∀k H n,I k H n->FAt s B H/\H b1=some [.ptr (B+3) 12 0]/\H b2=some [aq q]/\B+4<=n)
    (stab:∀k H n H' n',I k H n->n<=n'->(∀y,y<n->H' y=H y)->I k H' n')
    (rnd:∀k H n,I k H n->k<s.execs.length->Yl Tryz.prog y [.int .i64 (k:Nat),.int .i64 (im k:Nat)] H n λr H' n'=>r=.bool true/\I (k+1) H' n')
    (h0:I 0 H0 nx):
    Abs.Fn Tryz.prog 110 [.yld y,.ptr b1 1 0,.ptr b2 1 0] H0 nx λ_ H' nx'=>I s.execs.length H' nx':=by
 refine fO OH ?_;simp only[NB,aw];have hel:=hs.el;obtain⟨hF,g1,g2,-⟩:=pre _ _ _ h0;have gf:=hF.gf;rw[PC.2.2.2.2.2.2.2] at gf;refine wnY (zI4 @PE @gf @NKF @g1) ?_;refine bq (X:=Nat) (λk=>[(0,.yld y),(1,.ptr b1 1 0),(2,.ptr b2 1 0),(10,.int .i64 s.execs.length),(11,.int .i64 k)]) (λk H n=>k<=s.execs.length/\I k H n) (λk=>s.execs.length-k) 0 ⟨bo _,h0⟩ (by simp (disch:=omega) only[agr,ZG,reduceEqDiff,↓reduceIte,SL]) ?_;clear h0 hF g1 g2 gf;rintro k H n ⟨hk,hi⟩;by_cases hk2:k<s.execs.length
 rotate_left
 ·obtain rfl:k=s.execs.length:=by omega
  refine wnY @PE ?_;exact hi
 obtain⟨hF,g1,g2,hB⟩:=pre _ _ _ hi;refine wnY (zI3 @PE @g1 @g2) ?_;refine ce ev0 ev0 (FT s hs q hq k (im k) (hI k hk2) B _ _ hB hF) ?_;rintro _ H1 n1 ⟨rfl,hn1,hs1⟩
 skip
 refine tT ev0 ev0 (Yl.mono (rnd k H1 n1 (stab _ _ _ _ _ hi hn1 hs1) hk2) ?_);rintro r H3 n3 ⟨rfl,q⟩;refine wnY @PE ?_;exact⟨k+1,by omega,⟨by omega,q⟩,ag0⟩
theorem LZ(B:Nat)(q:List Int)(H0:Hp)(nx:Nat):Abs.Fn Tryz.prog 67 [.ptr (B+3) 12 0,aq q] H0 nx λr H' nx'=>r=.func 110 [.ptr nx 1 0,.ptr (nx+1) 1 0]/\nx'=nx+2/\H' nx=some [.ptr (B+3) 12 0]/\H' (nx+1)=some [aq q]/\∀y,y<nx->H' y=H0 y:=by
 refine fO Sj ?_;simp only[b67,aw];refine wnY @PE ?_;exact⟨rfl,rfl,by simp (disch:=omega) only[ab,ae],by simp (disch:=omega) only[ae],λy hy=>by simp (disch:=omega) only[ab]⟩
structure IMem(s:SysV)(q:List Int)(im:Nat->Nat)(B:Nat)(c0:AV)(nx:Nat)(H0:Hp)(k:Nat)(H:Hp)(n:Nat):Prop where
 le:nx+6<=n
 gy:H (nx+5)=some [c0]
 fa:FAt s B H
 g1:H (nx+3)=some [.ptr (B+3) 12 0]
 g2:H (nx+4)=some [aq q]
 g4:H nx=some [.esl]
 g5:H (nx+1)=some [.bool false]
 fr:∀y,y<nx->H y=H0 y
 g6:∃sv,H (nx+2)=some [sv]/\Row H 1 sv ((imL im k).map (AV.int .i64))/\∀c,bk sv=some c->nx+6<=c/\c<n
theorem IMem.same{s:SysV}{q:List Int}{im:Nat->Nat}{B:Nat}{c0:AV}{nx:Nat}{H0:Hp}{k:Nat}{H H':Hp}{n n':Nat}(h:IMem s q im B c0 nx H0 k H n)(hB:B+4<=nx)(hn:n<=n')(hs:∀y,y<n->H' y=H y):IMem s q im B c0 nx H0 k H' n':=by
 have le:=h.le;obtain⟨sv,s1,s2,s3⟩:=h.g6;exact⟨by omega,(hs _ (by omega)).trans h.gy,h.fa.same (n:=n) (by omega) hs,(hs _ (by omega)).trans h.g1,(hs _ (by omega)).trans h.g2,(hs _ (by omega)).trans h.g4,(hs _ (by omega)).trans h.g5,λy hy=>(hs y (by omega)).trans (h.fr y hy),sv,(hs _ (by omega)).trans s1,s2.same λc hc=>hs c (s3 c hc).2,λc hc=>by have:=s3 c hc;omega⟩
theorem Ag(s:SysV)(hs:FinOk s)(q:List Int)(hq:be q=0)(im:Nat->Nat)(hI:∀e,e<s.execs.length->Img s q e (im e))(B:Nat)(H0:Hp)(nx:Nat)(hB:B+4<=nx)(hF:FAt s B H0):
    Abs.Fn Tryz.prog 30 [.ptr (B+3) 12 0,aq q] H0 nx λr H' nx'=>∃sv,r=.tup [sv,.bool true]/\Row H' 1 sv ((imL im s.execs.length).map (AV.int .i64))/\(∀c,bk sv=some c->nx<=c/\c<nx')/\nx<=nx'/\∀y,y<nx->H' y=H0 y:=by
 refine fO R0 ?_;simp only[b30,aw];have hel:=hs.el;refine wnY @PE ?_;refine ce ev0 ev0 (LZ B q _ _) ?_;rintro _ H1 n1 ⟨rfl,rfl,k1,k2,k3⟩;refine wnY @PE ?_;refine kF (nx+1+1+1+2) (nx+1+1+1+2+1) rfl rfl ev0 (λc0 cj hy=>?_);refine Abs.Fn.mono (LK s hs q hq im hI B (nx+3) (nx+4) (nx+5) _ _ (IMem s q im B c0 nx H0) (λk H n h=>⟨h.fa,h.g1,h.g2,by have:=h.le;omega⟩) (λk H n H' n' h h1 h2=>h.same hB h1 h2) (λk H n h hk=>?_) ?_) ?_
 ·obtain⟨le,gy,fa,g1,g2,g4,g5,fr,sv,g6,row,rb⟩:=h;refine hy _ _ _ _ gy rfl ?_;clear hy;have hnn:decide (((im k:Nat):Int)<0)=false:=bJ (by omega);obtain⟨o1,o2⟩:=row.one;refine wnY @PE ?_;refine⟨gy,?_⟩;have hlk:((imL im k).map (AV.int .i64)).length=k:=by rw[bi,yQ]
  refine wnY (zI5 @PE @hnn @g6 @o1 @o2) ?_;refine dY rfl ev0 (row.same λz hz=>?_) ev0 rN rfl rfl jf (by rw[hlk];omega) (by rw[hlk];omega) ?_
  ·have:=rb z hz;simp (disch:=omega) only[bQ,ab]
  rintro s2 E e hrw hle1 hle2 hsm hb2;obtain⟨p1,p2⟩:=hrw.one
  have hE:∀y,y<n->y≠nx+5->bk sv≠some y->E y=H y:=λy h1 h2 h3=>by
   rw[hsm y (by omega) h3];simp (disch:=omega) only[bQ,ab]
  have e6:E (nx+2)=some [sv]:=by rw[hE _ (by omega) (by omega) (λh=>by have:=rb _ h;omega)];exact g6
  refine wnY (zI4 @PE @e6 @p1 @p2) ?_
  have hw:∀y,y<n->y≠nx+5->y≠nx+2->bk sv≠some y->(av (av E (nx+2) [s2]) (nx+5) [c0]) y=H y:=λy h1 h2 h3 h4=>by
   rw[ab h2,ab h3];exact hE y h1 h2 h4
  have nr:∀y,y<nx+6->bk sv≠some y:=λy hy h=>by have:=rb _ h;omega
  refine⟨rfl,by omega,ae,fa.same (n:=nx) hB (λy hy=>hw y (by omega) (by omega) (by omega) (nr _ (by omega))),(hw _ (by omega) (by omega) (by omega) (nr _ (by omega))).trans g1,(hw _ (by omega) (by omega) (by omega) (nr _ (by omega))).trans g2,(hw _ (by omega) (by omega) (by omega) (nr _ (by omega))).trans g4,(hw _ (by omega) (by omega) (by omega) (nr _ (by omega))).trans g5,λy hy=>(hw _ (by omega) (by omega) (by omega) (nr _ (by omega))).trans (fr y hy),s2,?_,?_,λc hc=>?_⟩
  ·rw[ab (by omega)];exact ae
  ·rw[Gp,dp];refine hrw.same λc hc=>?_
   have:n<=c\/(nx+6<=c/\c<n):=by
    rcases hb2 c hc with h|h
    ·exact .inr (rb c h)
    ·exact .inl (by omega)
   simp (disch:=omega) only[ab]
  ·rcases hb2 c hc with h|h
   ·have:=rb c h;omega
   ·omega
 ·have hz:∀y,y<nx->H1 y=H0 y:=λy hy=>by rw[k3 y (by omega)];simp (disch:=omega) only[ab]
  refine⟨by omega,ae,hF.same hB (λy hy=>by rw[ab (by omega)];exact hz y hy),by rw[ab (by omega)];exact k1,by rw[ab (by omega)];exact k2,?_,?_,λy hy=>by rw[ab (by omega)];exact hz y hy,.esl,?_,Row.nil,λc h=>(by cases h)⟩
  ·rw[ab (by omega),k3 _ (by omega)];simp (disch:=omega) only[ab,ae]
  ·rw[ab (by omega),k3 _ (by omega)];simp (disch:=omega) only[ab,ae]
  ·rw[ab (by omega),k3 _ (by omega)];simp (disch:=omega) only[ae]
 ·rintro _ H' n' ⟨le,gy,fa,g1,g2,g4,g5,fr,sv,g6,row,rb⟩;refine .inl ⟨gy,?_⟩;obtain⟨o1,o2⟩:=row.one;refine wnY (zI6 @PE @g4 @g5 @g6 @o1 @o2) ?_;refine⟨sv,rfl,row.same λc hc=>?_,λc hc=>by have:=rb c hc;omega,by omega,λy hy=>?_⟩
  ·have:=rb c hc;simp (disch:=omega) only[bQ,ab]
  ·simp (disch:=omega) only[bQ,ab];exact fr y hy
theorem Kt(s:SysV)(hs:FinOk s)(q:List Int)(hq:be q=0)(im:Nat->Nat)(hI:∀e,e<s.execs.length->Img s q e (im e))(hat:pU 28 [fE s,aq q] (.int .i64 0)):
    pU 10 [fE s,aq q] (.tup [aq (imL im s.execs.length),.int .i64 0]):=by
 refine pO R4 ?_;simp only[b10,aw];have hd:=gU s;have hf:=λH nx=>A4 s hs H nx;unfold fE at *;rw[PC.2.2.2.2.2.2.2] at *;refine wnZ @PE ?_;refine ce ev0 ev0 (hf _ _) ?_;rintro _ H1 n1 ⟨rfl,hM⟩;refine wnY @PE ?_;refine ce ev0 ev0 (Ag s hs q hq im hI (0+1) H1 n1 hM.le hM.at) ?_;rintro _ H2 n2 ⟨sv,rfl,row,-⟩;obtain⟨o1,o2⟩:=row.one;refine wnY (zI3 @PE @o1 @o2) ?_;exact bE (ac row.snapI (ac (.int _ _) al))
theorem Kg(p:PrbV)(h:OkP p)(q:List Int)(hq:SymOk p q):pU 10 [fE (aZ p),aq q] (.tup [aq (imL (gD p q) (aZ p).execs.length),.int .i64 0]):=
 Kt (aZ p) (GM h) q hq.pm (gD p q) (λ_ he=>FY h hq he) (QQ p h q hq.pm hq.ln)
end
end Go.Proofs.YtbmjaojeplmhnaaGreat
namespace Go.Proofs.YtbmjaojeplmhnaaGreat
open Go Go.Abs
def wtI(L:List Int):Nat:=(L.map Int.toNat).sum
theorem BR:∀{L:List Int}{k:Nat},k<L.length->∀v:Int,wtI (L.set k v)+(L.getD k default).toNat=wtI L+v.toNat
 |x::L,0,_,v=>by
  show(v.toNat+(L.map Int.toNat).sum)+x.toNat=(x.toNat+(L.map Int.toNat).sum)+v.toNat;omega
 |x::L,k+1,h,v=>by
  have:=BR (L:=L) (k:=k) (by simp at h;omega) v;show(x.toNat+wtI (L.set k v))+(L.getD k default).toNat=(x.toNat+wtI L)+v.toNat;omega
def HL(L:List Int)(e i:Nat):List Int:=(L.set e (min (L.getD e default) (L.getD i default))).set i (min (L.getD e default) (L.getD i default))
structure LOk{α:Type}(G:List α)(act:α->Nat->Nat)(M:Nat)(L:List Int):Prop where
 ln:L.length=M
 ob:∀e,e<M->∃f:Nat,L.getD e default=f/\f<=e/\Orb G act e f
theorem ws{L:List Int}{k j:Nat}{v:Int}(hk:k<L.length):(L.set k v).getD j default=if j=k then v else L.getD j default:=by
 by_cases e:j=k
 ·subst e;simp[List.getD,hk]
 ·rw[if_neg e];simp[List.getD,List.getElem?_set,Ne.symm e]
variable{α:Type}{G:List α}{act:α->Nat->Nat}{M:Nat}
theorem I0[DecidableEq α](h:GAct G act M){L:List Int}(hL:LOk G act M L){e i:Nat}(he:e<M)(hi:i<M)(ho:Orb G act e i):LOk G act M (HL L e i):=by
 have hl:=hL.ln;obtain⟨a,a1,a2,a3⟩:=hL.ob e he;obtain⟨b,b1,b2,b3⟩:=hL.ob i hi
 have hx:∃f:Nat,min (L.getD e default) (L.getD i default)=f/\f<=e/\f<=i/\Orb G act e f:=by
  rw[a1,b1];by_cases q:(a:Int)<=b
  ·exact⟨a,by omega,a2,by omega,a3⟩
  ·exact⟨b,by omega,by omega,b2,h.trans he ho b3⟩
 obtain⟨f,f1,f2,f2',f3⟩:=hx;unfold HL;rw[f1];refine⟨by rw[List.length_set,List.length_set];exact hl,λj hj=>?_⟩;rw[ws (by rw[List.length_set];omega),ws (by omega)];by_cases q:j=i
 ·rw[if_pos q,q];exact⟨f,rfl,f2',h.trans hi (h.symm he ho) f3⟩
 ·rw[if_neg q];by_cases q2:j=e
  ·rw[if_pos q2,q2];exact⟨f,rfl,f2,f3⟩
  ·rw[if_neg q2];exact hL.ob j hj
theorem IA{L:List Int}(hL:LOk G act M L){e i:Nat}(he:e<M)(hi:i<M)(hne:L.getD e default≠L.getD i default):wtI (HL L e i)<wtI L:=by
 have hl:=hL.ln;obtain⟨a,a1,-⟩:=hL.ob e he;obtain⟨b,b1,-⟩:=hL.ob i hi;have hei:e≠i:=λq=>hne (by rw[q]);have h1:=BR (L:=L) (k:=e) (by omega) (min (L.getD e default) (L.getD i default));have h2:=BR (L:=L.set e (min (L.getD e default) (L.getD i default))) (k:=i) (by rw[List.length_set];omega) (min (L.getD e default) (L.getD i default));rw[ws (by omega),if_neg (Ne.symm hei)] at h2;unfold HL;generalize hm:min (L.getD e default) (L.getD i default)=m at *;rw[a1] at h1;rw[b1] at h2;rw[a1,b1] at hm hne;omega
structure LFin(G:List α)(act:α->Nat->Nat)(M:Nat)(L:List Int):Prop where
 ok:LOk G act M L
 co:∀g∈G,∀e,e<M->L.getD e default=L.getD (act g e) default
def lst(L:List Int)(e:Nat):Nat:=(L.getD e default).toNat
theorem LFin.get{L:List Int}(h:LFin G act M L){e:Nat}(he:e<M):L.getD e default=((lst L e:Nat):Int):=by
 obtain⟨f,h1,-⟩:=h.ok.ob e he;unfold lst;omega
theorem LFin.orb{L:List Int}(h:LFin G act M L){e:Nat}(he:e<M):Orb G act e (lst L e):=by
 obtain⟨f,h1,-,h2⟩:=h.ok.ob e he;rw[show lst L e=f by unfold lst;omega];exact h2
theorem LFin.eq{L:List Int}(h:LFin G act M L){e f:Nat}(he:e<M)(ho:Orb G act e f):lst L e=lst L f:=by
 obtain⟨g,hg,rfl⟩:=ho;unfold lst;rw[h.co g hg e he]
theorem LFin.lt[DecidableEq α]{L:List Int}(hG:GAct G act M)(h:LFin G act M L){e:Nat}(he:e<M):lst L e<M:=hG.olt he (h.orb he)
theorem LFin.idem[DecidableEq α]{L:List Int}(hG:GAct G act M)(h:LFin G act M L){e:Nat}(he:e<M):lst L (lst L e)=lst L e:=(h.eq he (h.orb he)).symm
theorem LFin.burn[DecidableEq α]{L:List Int}(hG:GAct G act M)(h:LFin G act M L):fI (λg=>(List.range M).countP λe=>decide (act g e=e)) G=((List.range M).filter λe=>decide (lst L e=e)).length*G.length:=
 GV hG (λ_ he=>h.orb he) (λ_ _ he _ ho=>h.eq he ho)
theorem LFin.le{L:List Int}(h:LFin G act M L){e:Nat}(he:e<M):lst L e<=e:=by
 obtain⟨f,h1,h2,-⟩:=h.ok.ob e he;unfold lst;omega
theorem LFin.uniq[DecidableEq α]{L K:List Int}(hG:GAct G act M)(h:LFin G act M L)(k:LFin G act M K):L=K:=by
 refine List.ext_getElem (h.ok.ln.trans k.ok.ln.symm) λe h1 h2=>?_;have he:e<M:=by have:=h.ok.ln;omega
 have a:=h.get he;have b:=k.get he
 have c:lst L e<=lst K e:=by
  rw[h.eq he (k.orb he)];exact h.le (k.lt hG he)
 have d:lst K e<=lst L e:=by
  rw[k.eq he (h.orb he)];exact k.le (h.lt hG he)
 simp only[List.getD,h1,h2,mB,tC] at a b;omega
noncomputable def BB(G:List α)(act:α->Nat->Nat)(M:Nat):List Int:=@dite _ (∃L,LFin G act M L) (Classical.propDecidable _) (λh=>h.choose) λ_=>[]
theorem LFin.is[DecidableEq α]{L:List Int}(hG:GAct G act M)(h:LFin G act M L):BB G act M=L:=by
 unfold BB;have hx:∃L,LFin G act M L:=⟨L,h⟩
 rw[dif_pos hx];exact hx.choose_spec.uniq hG h
end Go.Proofs.YtbmjaojeplmhnaaGreat
namespace Go.Proofs.YtbmjaojeplmhnaaGreat
open Go Go.Abs
open Nat (reduceEqDiff reduceAdd reduceLeDiff)
theorem y3{H:Hp}{t x:AV}{cs:List AV}{l:List Int}(hrow:Row H 1 t (cs++[x]))(hx:Row H 1 x (l.map (AV.int .i64)))(hne:∀b,bk x=some b->bk t≠some b):∃Hf H',Fz Hf H H'/\Row H' 1 t (cs++[aq l])/\∀y,bk x≠some y->bk t≠some y->H' y=H y:=by
 generalize hds:l.map (AV.int .i64)=ds at hx;cases hx with
 |nil=>
  have hl:l=[]:=List.map_eq_nil_iff.1 hds;generalize hcs:cs++[AV.esl]=es at hrow;cases hrow with
  |nil=>exact absurd (congrArg List.length hcs) (by simp)
  |box b len es g1 g2=>
   refine⟨aP,av H b (cs++[aq l]),⟨λy d h=>(by cases h),λy d h=>?_⟩,Row.box b len _ ae (by rw[<-g2,<-hcs];simp),λy h1 h2=>?_⟩
   ·by_cases e:y=b
    ·subst e;rw[ae] at h;cases h;exact⟨es,g1,rfl,by rw[<-hcs];exact d6.snoc (by rw[hl];exact .eslsl 1)⟩
    ·rw[ab e] at h;exact⟨d,h,rfl,d6.refl _ _⟩
   ·rw[ab (λe=>h2 (by rw[e];rfl))]
 |box b len ds g1 g2=>
  obtain⟨H',h1,h2,h3⟩:=n8 (x':=aq l) hrow g1 (Row.snapI (by rw[hds];exact Row.box b len ds ez g2)) (hne b rfl);exact⟨_,H',h1,h2,λy y1 y2=>h3 y (λe=>y1 (by rw[e];rfl)) y2⟩
theorem Ia{H:Hp}{mv:AV}{l:List (List Int)}(h:Row H 1 mv (l.map aq)):∃Hf H',Fz Hf H H'/\Snap Hf mv (ay l)/\∀y,bk mv≠some y->H' y=H y:=by
 generalize hds:l.map aq=ds at h;cases h with
 |nil=>exact⟨aP,H,Fz.none,(show Row aP 1 .esl (l.map aq) by rw[hds];exact Row.nil).snapL' (λ_=>rfl) (λx _=>bP x),λ_ _=>rfl⟩
 |box b len ds g1 g2=>
  exact⟨_,_,Fz.one g1,(show Row (only b ds) 1 _ (l.map aq) by rw[hds];exact Row.box b len ds ez g2).snapL' (λ_=>rfl) (λx _=>bP x),λy hy=>bQ (λe=>hy (by rw[e];rfl))⟩
def idT(M k:Nat):List Int:=(List.range M).map λe=>if e<k then(e:Int) else 0
theorem yU(M k:Nat):(idT M k).length=M:=by simp[idT]
theorem Kl{M k:Nat}(h:k<M):(idT M k).set k (k:Int)=idT M (k+1):=by
 refine List.ext_getElem (by simp[idT]) λi i1 i2=>?_;rw[List.length_set,yU] at i1;rw[List.getElem_set];simp only[idT,List.getElem_map,List.getElem_range];by_cases q:k=i
 ·subst q;rw[if_pos rfl,if_pos (by omega)]
 ·rw[if_neg q];by_cases q2:i<k
  ·rw[if_pos q2,if_pos (by omega)]
  ·rw[if_neg q2,if_neg (by omega)]
theorem Kj{M e:Nat}(h:e<M):(idT M M).getD e default=(e:Int):=by simp[idT,List.getD,h]
theorem zcM(M:Nat):bd (.agg [.int .i64 0]) M=(idT M 0).map (AV.int .i64):=by
 refine List.ext_getElem (by simp[bd,idT,AV.cells]) λi h1 h2=>?_;simp[bd,idT,AV.cells]
theorem GR{l:List (List Int)}{k:Nat}(h:k<l.length):eo 1 (ay l) (.int .i64 (k:Int))=some (.iptr [aq (l.getD k default)] 0):=by
 rw[vU,if_pos ⟨by omega,by omega⟩,c9]
structure OrbIn(s:SysV)(l:List (List Int))(act:List Int->Nat->Nat):Prop where
 fo:FinOk s
 ga:GAct l act s.execs.length
 pm:∀q∈l,be q=0/\(q.length:Int)=s.tn
 im:∀q∈l,∀e,e<s.execs.length->Img s q e (act q e)
 ll:l.length<=1024
 m1:1<=s.execs.length
 n3:1<=s.tn/\s.tn<=3
 ve:pU 63 [fE s] (.int .i64 0)
def uc(L:List Int)(M:Nat):List Int:=((List.range M).filter λe=>decide (lst L e=e)).map λ(e:Nat)=>(e:Int)
def y4(L:List Int)(x M:Nat):List Int:=((List.range M).filter λe=>decide (L.getD e default=L.getD x default)).map λ(e:Nat)=>(e:Int)
theorem F3(L:List Int)(M:Nat):(uc L M).Pairwise (· < ·):=by
 unfold uc;rw[List.pairwise_map];exact(List.Pairwise.filter _ List.pairwise_lt_range).imp (λh=>Int.ofNat_lt.2 h)
theorem Ls{α:Type}[DecidableEq α]{G:List α}{act:α->Nat->Nat}{M:Nat}{L K:List Int}(hG:GAct G act M)(hL:LFin G act M L)(hp:K.Perm L)(hs:K.Pairwise (· <= ·)):dd K K.length=uc L M:=by
 refine BO (Ic (λi j h1 h2=>?_) (bc _)) (F3 L M) (λx=>?_)
 ·have:=nw.1 hs i j (by omega) h2 h1;simpa[List.getD,h2,show i<K.length by omega] using this
 ·rw[B4 (bc _)]
  have e:(∃j,j<K.length/\K.getD j default=x)↔x∈K:=by
   constructor
   ·rintro⟨j,h1,rfl⟩;exact ao h1
   ·intro h;obtain⟨j,hj,rfl⟩:=fW h;exact⟨j,hj,by simp[List.getD,hj]⟩
  rw[e,hp.mem_iff];unfold uc;rw[cE];constructor
  ·intro hx;obtain⟨j,hj,e⟩:=fW hx;have hjM:j<M:=by have:=hL.ok.ln;omega
   refine⟨lst L j,?_,?_⟩
   ·rw[ik,eM,gq];exact⟨hL.lt hG hjM,hL.idem hG hjM⟩
   ·rw[<-e,<-hL.get hjM];simp[List.getD,hj]
  ·rintro⟨v,hv,rfl⟩;rw[ik,eM,gq] at hv;have:=hL.get hv.1;rw[hv.2] at this;rw[<-this];exact ao (by have:=hL.ok.ln;omega)
section
attribute [local irreducible] aF ai bj aY aN aM ax aS a8 bm Go.Abs.Fn aX Go.Abs.Pure ap aK Yl
set_option maxHeartbeats 16000000 in
theorem Bp(s:SysV)(hs:FinOk s)(l:List (List Int))(act:List Int->Nat->Nat)(hG:GAct l act s.execs.length)(hl:∀q∈l,be q=0/\(q.length:Int)=s.tn)(hI:∀q∈l,∀e,e<s.execs.length->Img s q e (act q e))
    (hll:l.length<=1024) (hM:1<=s.execs.length) (hn:1<=s.tn/\s.tn<=3) (hv:pU 63 [fE s] (.int .i64 0)) (H0:Hp) (nx:Nat):
    Abs.Fn Tryz.prog 31 [fE s,ay l] H0 nx λr H' nx'=>∃b L,r=.tup [.msl b s.execs.length 1 0 s.execs.length,.int .i64 0]/\H' b=some (L.map (AV.int .i64))/\LFin l act s.execs.length L/\nx<=b/\b<nx'/\∀y,y<nx->H' y=H0 y:=by
 refine fO So ?_;simp only[b31,aw];have hd:=gU s;have hf:=λH nx=>A4 s hs H nx;have hg:=λH nx=>P3 l s.tn.toNat (by omega) (by omega) (λg hgm=>⟨(hl g hgm).1,by have:=(hl g hgm).2;omega⟩) hll H nx;rw[show((s.tn.toNat:Nat):Int)=s.tn by omega] at hg;have hel:=hs.el;unfold fE at *;rw[PC.2.2.2.2.2.2.2] at *;refine wnY @PE ?_;refine ce ev0 ev0 (hg _ _) ?_;rintro _ H1 n1 ⟨hn1,fr1,wv,rfl⟩;have k0:H1 nx=some [.int .i64 s.prob.task.n,.int .i64 s.prob.task.ins,.int .i64 s.prob.task.outs,bw s.prob.task.cases,.int .i64 s.prob.adv.n,aQ s.prob.adv.states,.int .i64 s.prob.rounds,.int .i64 s.tn,cW s.views,fT s.execs]:=by rw[fr1 _ (by omega)];exact ae
 have fr2:∀y,y<nx->H1 y=H0 y:=λy hy=>by rw[fr1 y (by omega)];exact ab (by omega)
 clear fr1;refine wnY (aI @PE @k0) ?_;refine ce ev0 ev0 (hf _ _) ?_;rintro _ H2 n2 ⟨rfl,hF⟩;have hle2:=hF.le;have k2:=(hF.fr nx (by omega)).trans k0;have fr3:∀y,y<nx->H2 y=H0 y:=λy hy=>(hF.fr y (by omega)).trans (fr2 y hy);have hA:=hF.at
 clear fr2 k0 hF hv hf hg;refine wnY (aI @PE @k2) ?_;refine nj rfl ev0 ev0 (by omega) (by omega) (by omega) (by omega) ?_;rw[c9,zcM];refine wnY @PE ?_;have hMs:s.execs.length=s.execs.length:=rfl;refine bq (X:=Nat) (λk=>[(1,ay l),(9,.ptr (n1+3) 12 0),(10,.msl n2 s.execs.length 1 0 s.execs.length),(46,.int .i64 s.execs.length),(47,.int .i64 k)]) (λk H n=>k<=s.execs.length/\n=n2+1/\(∀y,y<n2->H y=H2 y)/\H n2=some ((idT s.execs.length k).map (AV.int .i64))) (λk=>s.execs.length-k) 0 ⟨bo _,rfl,λy hy=>ab (by omega),ae⟩ (by simp (disch:=omega) only[agr,ZG,reduceEqDiff,↓reduceIte,SL,Nat.mul_one]) ?_;rintro k H n ⟨hk,rfl,fr,gb⟩;by_cases hk2:k<s.execs.length
 ·have hidl:=yU s.execs.length k;have hlm:=gk (f:=AV.int .i64) (l:=idT s.execs.length k) (k:=k) (x:=(k:Int)) (by omega);rw[Kl hk2] at hlm;refine wnY (aI @PE @gb) ?_;refine⟨k+1,by omega,⟨by omega,rfl,λy hy=>by rw[ab (by omega)];exact fr y hy,by rw[ae,hlm]⟩,by simp (disch:=omega) only[agr,ZG,reduceEqDiff,↓reduceIte,SL]⟩
 obtain rfl:k=s.execs.length:=by omega
 refine wnY (aI @PE @gb) ?_
 refine pM (X:=Nat×AV) (λx=>[(9,.ptr (n1+3) 12 0),(10,.msl n2 s.execs.length 1 0 s.execs.length),(12,x.2),(55,ay l),(56,.int .i64 l.length),(57,.int .i64 x.1)]) (λx H n=>x.1<=l.length/\n2+1<=n/\(∀y,y<n2->H y=H2 y)/\H n2=some ((idT s.execs.length s.execs.length).map (AV.int .i64))/\Row H 1 x.2 (((l.take x.1).map λq=>imL (act q) s.execs.length).map aq)/\∀c,bk x.2=some c->n2+1<=c/\c<n) (λx=>l.length-x.1) (0,.esl)
  ⟨aP,_,Fz.none,⟨bo _,bc _,fr,gb,.nil,λb h=>(by cases h)⟩,eT (by simp (disch:=omega) only[agr,ZG,reduceEqDiff,↓reduceIte,SL])⟩ ?_
 clear fr gb;rintro⟨j,mv⟩ H n ⟨hj,hnn,fr,gb,row,rb⟩;dsimp only at hj row rb |-;obtain⟨o1,o2⟩:=row.one;have hjl:(((l.take j).map λq=>imL (act q) s.execs.length).map aq).length=j:=by rw[bi,bi,iX];omega
 by_cases hj2:j<l.length
 ·have ix:=GR hj2;have hm:=ao hj2
  have htk:((l.take (j+1)).map λq=>imL (act q) s.execs.length).map aq=(((l.take j).map λq=>imL (act q) s.execs.length).map aq)++[aq (imL (act (l.getD j default)) s.execs.length)]:=by
   rw[bZ hj2,dp,dp];rfl
  have him:=Ag s hs (l.getD j default) (hl _ hm).1 (act (l.getD j default)) (hI _ hm) n1 H n (by omega) (hA.same hle2 fr);generalize l.getD j default=q at *;refine wnY (zI4 @PE @o1 @o2 @ix) ?_;refine ce ev0 ev0 him ?_;rintro _ H3 n3 ⟨sv,rfl,rowS,rbS,hn3,fr3'⟩;obtain⟨p1,p2⟩:=rowS.one;refine wnY (zI5 @PE @o1 @o2 @p1 @p2) ?_;refine dY (k:=1) (sv:=mv) (xv:=.msl n3 1 1 0 1) (cs:=((l.take j).map λq=>imL (act q) s.execs.length).map aq) (new:=[sv]) rfl ev0 (row.same λb h=>by have:=rb b h;rw[ab (by omega),fr3' b (by omega)]) ev0 (dw rfl) (by simp[AV.ones,p1]) rfl (by omega) (by rw[hjl];omega) (by rw[hjl];omega) ?_;rintro mv' H4 n4 r1 r2 r3 r4 r5
  have hS4:Row H4 1 sv ((imL (act q) s.execs.length).map (AV.int .i64)):=rowS.same λc hc=>by
   have:=rbS c hc;rw[r4 c (by omega) (λh=>by have:=rb c h;omega),ab (by omega)]
  have h4:∀y,y<n2+1->H4 y=H y:=λy hy=>by
   rw[r4 y (by omega) (λh=>by have:=rb y h;omega),ab (by omega),fr3' y (by omega)]
  have rb4:∀b,bk mv'=some b->n2+1<=b/\b<n4/\(b<n\/n3<=b):=λb h=>by
   rcases r5 b h with h|h
   ·have:=rb b h;omega
   ·omega
  obtain⟨Hf,H5,hfz,hr5,hs5⟩:=y3 r1 hS4 (λb hb h=>by have:=rbS b hb;have:=rb4 b h;omega)
  have h5:∀y,y<n2+1->H5 y=H y:=λy hy=>by
   rw[hs5 y (λh=>by have:=rbS y h;omega) (λh=>by have:=rb4 y h;omega)];exact h4 y hy
  refine wnY @PE ?_;refine⟨(j+1,mv'),by dsimp only;omega,Hf,H5,hfz,⟨by dsimp only;omega,by omega,λy hy=>(h5 y (by omega)).trans (fr y hy),(h5 n2 (by omega)).trans gb,by dsimp only;rw[htk];exact hr5,λb h=>by have:=rb4 b h;omega⟩,eT (by simp (disch:=omega) only[agr,ZG,reduceEqDiff,↓reduceIte,SL])⟩
 obtain rfl:j=l.length:=by omega
 rw[List.take_length] at row;obtain⟨Hf,H5,hfz,hsn,hs5⟩:=Ia row;refine wnY (zI3 @PE @o1 @o2) ?_
 refine pM (X:=List Int×Bool) (λx=>[(10,.msl n2 s.execs.length 1 0 s.execs.length),(12,ay (l.map λq=>imL (act q) s.execs.length)),(17,.bool x.2)]) (λx H n=>LOk l act s.execs.length x.1/\n2+1<=n/\(∀y,y<n2->H y=H2 y)/\H n2=some (x.1.map (AV.int .i64))/\(x.2=false->∀g∈l,∀e,e<s.execs.length->x.1.getD e default=x.1.getD (act g e) default)) (λx=>2*wtI x.1+x.2.toNat) (idT s.execs.length s.execs.length,true)
  ⟨Hf,H5,hfz,⟨⟨yU _ _,λe he=>⟨e,Kj he,bc _,hG.refl he⟩⟩,hnn,λy hy=>(hs5 y (λh=>by have:=rb y h;omega)).trans (fr y hy),(hs5 n2 (λh=>by have:=rb n2 h;omega)).trans gb,λh=>by cases h⟩,⟨.inl (have zz:=@SL;evZ),.inr ?_,.inl (have zz:=@SL;evZ),trivial⟩⟩ ?_
 ·have e:∀x,x=mv->Snap Hf x (ay (l.map λq=>imL (act q) s.execs.length)):=λx hx=>by rw[hx];exact hsn
  exact e _ (have zz:=@SL;evZ)
 clear row rb o1 o2 hfz hsn hs5 gb fr hjl;rintro⟨L,ch⟩ H n ⟨hL,hnn,fr,gb,hch⟩;dsimp only at hL gb hch |-;cases ch with
 |false=>
  refine wnY @PE ?_;exact⟨n2,L,rfl,gb,⟨hL,hch rfl⟩,by omega,by omega,λy hy=>(fr y (by omega)).trans (fr3 y hy)⟩
 |true=>
  refine wnY @PE ?_
  refine bq (X:=Nat×List Int×Bool) (λx=>[(10,.msl n2 s.execs.length 1 0 s.execs.length),(12,ay (l.map λq=>imL (act q) s.execs.length)),(17,.bool x.2.2),(75,ay (l.map λq=>imL (act q) s.execs.length)),(76,.int .i64 l.length),(77,.int .i64 x.1)])
   (λx H n=>x.1<=l.length/\LOk l act s.execs.length x.2.1/\n2+1<=n/\(∀y,y<n2->H y=H2 y)/\H n2=some (x.2.1.map (AV.int .i64))/\(x.2.2=false->x.2.1=L/\∀g∈l.take x.1,∀e,e<s.execs.length->L.getD e default=L.getD (act g e) default)/\(x.2.2=true->wtI x.2.1<wtI L)) (λx=>l.length-x.1) (0,L,false) ⟨bo _,hL,hnn,fr,gb,λ_=>⟨rfl,λg hg=>by cases hg⟩,λh=>by cases h⟩ (by simp (disch:=omega) only[agr,ZG,reduceEqDiff,↓reduceIte,SL]) ?_
  clear fr gb hnn;rintro⟨k,L1,c1⟩ H n ⟨hk,hL1,hnn,fr,gb,hf1,ht1⟩;dsimp only at hk hL1 gb hf1 ht1 |-;by_cases hk2:k<l.length
  rotate_left
  ·obtain rfl:k=l.length:=by omega
   rw[List.take_length] at hf1;refine wnY @PE ?_;refine⟨(L1,c1),?_,aP,_,Fz.none,⟨hL1,hnn,fr,gb,λh=>?_⟩,eT (by simp (disch:=omega) only[agr,ZG,reduceEqDiff,↓reduceIte,SL])⟩
   ·dsimp only;cases c1 with
    |false=>rw[(hf1 rfl).1];show 2*wtI L+0<2*wtI L+1;omega
    |true=>have:=ht1 rfl;show 2*wtI L1+1<2*wtI L+1;omega
   ·obtain⟨h1,h2⟩:=hf1 h;dsimp only;rw[h1];exact h2
  have ix:=GR (l:=l.map λq=>imL (act q) s.execs.length) (k:=k) (by rw[bi];exact hk2);rw[me hk2] at ix;have hm:=ao hk2;have hst:l.take (k+1)=l.take k++[l.getD k default]:=bZ hk2;generalize l.getD k default=q at *;have hil:=yQ (act q) s.execs.length;refine wnY (aI @PE @ix) ?_
  refine bq (X:=Nat×List Int×Bool) (λx=>[(10,.msl n2 s.execs.length 1 0 s.execs.length),(12,ay (l.map λq=>imL (act q) s.execs.length)),(17,.bool x.2.2),(75,ay (l.map λq=>imL (act q) s.execs.length)),(76,.int .i64 l.length),(77,.int .i64 k),(81,aq (imL (act q) s.execs.length)),(82,.int .i64 s.execs.length),(83,.int .i64 x.1)])
   (λx H n=>x.1<=s.execs.length/\LOk l act s.execs.length x.2.1/\n2+1<=n/\(∀y,y<n2->H y=H2 y)/\H n2=some (x.2.1.map (AV.int .i64))/\(x.2.2=false->x.2.1=L/\(∀g∈l.take k,∀e,e<s.execs.length->L.getD e default=L.getD (act g e) default)/\∀e,e<x.1->L.getD e default=L.getD (act q e) default)/\(x.2.2=true->wtI x.2.1<wtI L)) (λx=>s.execs.length-x.1) (0,L1,c1) ⟨bo _,hL1,hnn,fr,gb,λh=>⟨(hf1 h).1,(hf1 h).2,λe he=>by omega⟩,ht1⟩ (by simp (disch:=omega) only[agr,ZG,reduceEqDiff,↓reduceIte,SL,hil]) ?_
  clear fr gb hnn hf1 ht1 hL1;rintro⟨e,L2,c2⟩ H n ⟨he,hL2,hnn,fr,gb,hf2,ht2⟩;dsimp only at he hL2 gb hf2 ht2 |-;by_cases he2:e<s.execs.length
  rotate_left
  ·obtain rfl:e=s.execs.length:=by omega
   refine wnY @PE ?_;refine⟨(k+1,L2,c2),by dsimp only;omega,⟨by dsimp only;omega,hL2,hnn,fr,gb,λh=>?_,ht2⟩,by simp (disch:=omega) only[agr,ZG,reduceEqDiff,↓reduceIte,SL]⟩;obtain⟨h1,h2,h3⟩:=hf2 h;refine⟨h1,λg hg=>?_⟩;dsimp only at hg;rw[hst] at hg;rcases oh.1 hg with hg|hg
   ·exact h2 g hg
   ·rw[gH.1 hg];exact h3
  have hie:=D4 (im:=act q) he2;have hlt:=hG.lt q hm e he2;have hl2:=hL2.ln;have hlm1:=gk (f:=AV.int .i64) (l:=L2) (k:=e) (x:=min (L2.getD e default) (L2.getD (act q e) default)) (by omega);have hlm2:=gk (f:=AV.int .i64) (l:=L2.set e (min (L2.getD e default) (L2.getD (act q e) default))) (k:=act q e) (x:=min (L2.getD e default) (L2.getD (act q e) default)) (by rw[List.length_set];omega);have hls:(L2.set e (min (L2.getD e default) (L2.getD (act q e) default))).length=s.execs.length:=by rw[List.length_set];exact hl2
  have hok:=I0 hG hL2 he2 hlt ⟨q,hm,rfl⟩;have hwl:=λh=>IA hL2 he2 hlt h;unfold HL at hok hwl;by_cases hq:L2.getD e default=L2.getD (act q e) default
  ·have z1:decide (min (L2.getD e default) (L2.getD (act q e) default)≠L2.getD e default)=false:=bJ (λh=>h (by omega));have z2:decide (min (L2.getD e default) (L2.getD (act q e) default)≠L2.getD (act q e) default)=false:=bJ (λh=>h (by omega));refine wnY (zI5 @PE @hie @gb @z1 @z2) ?_;refine⟨(e+1,L2,c2),by dsimp only;omega,⟨by dsimp only;omega,hL2,hnn,fr,gb,λh=>?_,ht2⟩,by simp (disch:=omega) only[agr,ZG,reduceEqDiff,↓reduceIte,SL]⟩;obtain⟨h1,h2,h3⟩:=hf2 h;refine⟨h1,h2,λj hj=>?_⟩;dsimp only at hj h1;by_cases hje:j=e
   ·rw[hje,<-h1];exact hq
   ·exact h3 j (by omega)
  have hwl:=hwl hq
  have hwt:wtI ((L2.set e (min (L2.getD e default) (L2.getD (act q e) default))).set (act q e) (min (L2.getD e default) (L2.getD (act q e) default)))<wtI L:=by
   cases c2 with
   |false=>rw[<-(hf2 rfl).1];exact hwl
   |true=>exact Nat.lt_trans hwl (ht2 rfl)
  by_cases hq2:L2.getD e default<L2.getD (act q e) default
  ·have z1:decide (min (L2.getD e default) (L2.getD (act q e) default)≠L2.getD e default)=false:=bJ (λh=>h (by omega));have z2:decide (min (L2.getD e default) (L2.getD (act q e) default)≠L2.getD (act q e) default)=true:=bR (λh=>by omega);refine wnY (zI5 @PE @hie @gb @z1 @z2) ?_;refine vD (b:=n2) (n:=s.execs.length) (off:=act q e) (v:=.int .i64 (min (L2.getD e default) (L2.getD (act q e) default))) (vs:=[.int .i64 (min (L2.getD e default) (L2.getD (act q e) default))]) (cs:=(L2.set e (min (L2.getD e default) (L2.getD (act q e) default))).map (AV.int .i64)) rfl (have zz:=@SL;evZ) (have zz:=@SL;evZ) (by rw[hlm1];exact ae) rfl rfl (by rw[bi];exact hls) rfl (by omega) ?_;rw[hlm2];refine wnY @PE ?_;exact⟨(e+1,_,true),by dsimp only;omega,⟨by dsimp only;omega,hok,hnn,λy hy=>by rw[ab (by omega),ab (by omega)];exact fr y hy,ae,λh=>(by cases h),λ_=>hwt⟩,by simp (disch:=omega) only[agr,ZG,reduceEqDiff,↓reduceIte,SL]⟩
  ·have z1:decide (min (L2.getD e default) (L2.getD (act q e) default)≠L2.getD e default)=true:=bR (λh=>by omega);refine wnY (zI4 @PE @hie @gb @z1) ?_;refine vD (b:=n2) (n:=s.execs.length) (off:=act q e) (v:=.int .i64 (min (L2.getD e default) (L2.getD (act q e) default))) (vs:=[.int .i64 (min (L2.getD e default) (L2.getD (act q e) default))]) (cs:=(L2.set e (min (L2.getD e default) (L2.getD (act q e) default))).map (AV.int .i64)) rfl (have zz:=@SL;evZ) (have zz:=@SL;evZ) (by rw[hlm1];exact ae) rfl rfl (by rw[bi];exact hls) rfl (by omega) ?_;rw[hlm2];refine wnY @PE ?_;exact⟨(e+1,_,true),by dsimp only;omega,⟨by dsimp only;omega,hok,hnn,λy hy=>by rw[ab (by omega),ab (by omega)];exact fr y hy,ae,λh=>(by cases h),λ_=>hwt⟩,by simp (disch:=omega) only[agr,ZG,reduceEqDiff,↓reduceIte,SL]⟩
theorem Ma(s:SysV)(l:List (List Int))(act:List Int->Nat->Nat)(h:OrbIn s l act)(L:List Int)(hL:LFin l act s.execs.length L):pU 11 [fE s,ay l] (.tup [aq (uc L s.execs.length),.int .i64 0]):=by
 refine pO RB ?_;simp only[b11,aw];have ho:=λH nx=>Bp s h.fo l act h.ga h.pm h.im h.ll h.m1 h.n3 h.ve H nx;have hel:=h.fo.el;have h1:=h.m1;unfold fE at *;rw[PC.2.2.2.2.2.2.2] at *;refine wnY @PE ?_;refine ce ev0 ev0 (ho _ _) ?_;rintro _ H1 n1 ⟨b,K,rfl,hb,hK,hb1,hb2,-⟩;obtain rfl:=hK.uniq h.ga hL;have hln:=hK.ok.ln;refine wnY @PE ?_;refine ce ev0 ev0 (J4 hb hb2 hln (by omega) (by omega)) ?_;rintro _ H2 n2 ⟨M,hps,hpM,hsM⟩;have hMl:M.length=s.execs.length:=by rw[hpM.length_eq];exact hln
 have hcc:=Eg M (by show _<=_;omega) (λh=>by rw[h] at hMl;simp at hMl;omega) H2 b n2 hps.at_ (by have:=hps.le;omega);have hdd:=Ls h.ga hK hpM hsM;have hle:=Iq M M.length;have hdl:=MS M M.length;rw[hMl] at hcc hdd hle hdl;refine wnY @PE ?_;refine ce ev0 ev0 hcc ?_;rintro _ _ _ ⟨rfl,⟨C,rfl,hC1,hC2⟩,rfl⟩;refine wnY @PE ?_;rw[<-hdd];refine bE (ac ?_ (ac (.int _ _) al));refine oq ae hC1 (by omega) (by rw[bi];exact hdl) (λy hy=>?_) (λi a c h4 h5=>?_)
 ·obtain⟨n,_,rfl⟩:=cE.1 hy;rfl
 ·rw[dt] at h4;rw[<-hC2,jl] at h5;split at h5
  ·rw[h4] at h5;obtain rfl:=Option.some.inj h5
   have hmem:a∈(dd M s.execs.length).map (AV.int .i64):=by
    rw[<-hC2];exact ir (i:=i) (by rw[jl,if_pos ‹_›];exact h4)
   obtain⟨n,_,rfl⟩:=cE.1 hmem;exact .int _ _
  ·cases h5
theorem H9(s:SysV)(l:List (List Int))(act:List Int->Nat->Nat)(h:OrbIn s l act)(L:List Int)(hL:LFin l act s.execs.length L)(x:Nat)(hx:x<s.execs.length):pU 12 [fE s,ay l,.int .i64 (x:Nat)] (.tup [aq (y4 L x s.execs.length),.int .i64 0]):=by
 refine pO Sc ?_;simp only[b12,aw];have ho:=λH nx=>Bp s h.fo l act h.ga h.pm h.im h.ll h.m1 h.n3 h.ve H nx;have hel:=h.fo.el;unfold fE at *;rw[PC.2.2.2.2.2.2.2] at *;refine wnY @PE ?_;refine ce ev0 ev0 (ho _ _) ?_;rintro _ H1 n1 ⟨b,K,rfl,hb,hK,hb1,hb2,-⟩;obtain rfl:=hK.uniq h.ga hL;have hln:=hK.ok.ln;have z1:decide ((x:Int)<0)=false:=bJ (by omega);have z2:decide ((s.execs.length:Int)<=(x:Int))=false:=bJ (by omega);refine wnY (zI3 @PE @z1 @z2) ?_;refine bq (X:=Nat×AV) (λy=>[(2,.int .i64 (x:Nat)),(8,.msl b s.execs.length 1 0 s.execs.length),(10,y.2),(30,.msl b s.execs.length 1 0 s.execs.length),(31,.int .i64 s.execs.length),(32,.int .i64 y.1)]) (λy H n=>y.1<=s.execs.length/\H b=some (K.map (AV.int .i64))/\b<n/\Row H 1 y.2 ((y4 K x y.1).map (AV.int .i64))/\∀c,bk y.2=some c->b<c/\c<n) (λy=>s.execs.length-y.1) (0,.esl) ⟨bo _,hb,hb2,Row.nil,λc hc=>(by cases hc)⟩ (by simp (disch:=omega) only[agr,ZG,reduceEqDiff,↓reduceIte,SL]) ?_;clear hb hb2;rintro⟨k,sv⟩ H n ⟨hk,hb,hb2,row,rb⟩;dsimp only at hk row rb |-;by_cases hk2:k<s.execs.length
 rotate_left
 ·obtain rfl:k=s.execs.length:=by omega
  obtain⟨o1,o2⟩:=row.one;refine wnY (zI3 @PE @o1 @o2) ?_;exact bE (ac row.snapI (ac (.int _ _) al))
 have hul:(y4 K x k).length<=k:=by
  unfold y4;rw[bi];exact eK (List.length_filter_le _ _) (by rw[List.length_range];exact bc _)
 have hst:y4 K x (k+1)=y4 K x k++if K.getD k default=K.getD x default then [(k:Int)] else []:=by
  unfold y4;rw[List.range_succ,EG,dp]
  congr 1
  by_cases q:K.getD k default=K.getD x default
  ·rw[if_pos q,List.filter_cons,if_pos (bR q)];rfl
  ·rw[if_neg q,List.filter_cons,if_neg (λh=>q (pB h))];rfl
 by_cases q:K.getD k default=K.getD x default
 ·rw[if_pos q] at hst;have zq:decide (K.getD k default=K.getD x default)=true:=bR q;refine wnY (zI3 @PE @hb @zq) ?_;refine dY rfl ev0 (row.same λz hz=>?_) ev0 rN rfl rfl jf (by rw[bi];omega) (by rw[bi];omega) ?_
  ·have:=rb z hz;rw[ab (by omega)]
  rintro s2 E e hrw hle1 hle2 hsm hb3;refine wnY @PE ?_;refine⟨(k+1,s2),by dsimp only;omega,⟨by dsimp only;omega,?_,by omega,by dsimp only;rw[hst,dp];exact hrw,λc hc=>?_⟩,by simp (disch:=omega) only[agr,ZG,reduceEqDiff,↓reduceIte,SL]⟩
  ·rw[hsm b (by omega) (λh=>by have:=rb b h;omega),ab (by omega)];exact hb
  ·rcases hb3 c hc with h|h
   ·have:=rb c h;omega
   ·omega
 ·rw[if_neg q,jd] at hst;have zq:decide (K.getD k default=K.getD x default)=false:=bJ q;refine wnY (zI3 @PE @hb @zq) ?_;refine⟨(k+1,sv),by dsimp only;omega,⟨by dsimp only;omega,hb,hb2,by dsimp only;rw[hst];exact row,rb⟩,by simp (disch:=omega) only[agr,ZG,reduceEqDiff,↓reduceIte,SL]⟩
end
theorem LP(P:Nat->Prop):∀n,P n->∃m,m<=n/\P m/\∀k,P k->m<=k:=λn=>by
 induction n using Nat.strongRecOn with
 |_ n ih=>
  intro hn;by_cases q:∃k,k<n/\P k
  ·obtain⟨k,k1,k2⟩:=q;obtain⟨m,m1,m2,m3⟩:=ih k k1 k2;exact⟨m,by omega,m2,m3⟩
  ·refine⟨n,bc _,hn,λk hk=>?_⟩;rcases CG k n with h|h
   ·exact absurd ⟨k,h,hk⟩ q
   ·exact h
theorem Hs{α:Type}[DecidableEq α]{G:List α}{act:α->Nat->Nat}{M:Nat}(h:GAct G act M):∃L,LFin G act M L:=by
 have hx:∀e,∃m:Nat,e<M->m<=e/\Orb G act e m/\∀k,Orb G act e k->m<=k:=λe=>by
  by_cases he:e<M
  ·obtain⟨m,m1,m2,m3⟩:=LP (Orb G act e) e (h.refl he);exact⟨m,λ_=>⟨m1,m2,m3⟩⟩
  ·exact⟨0,λk=>absurd k he⟩
 have hc:=λe=>Classical.choose_spec (hx e);generalize hf:(λe=>Classical.choose (hx e))=f at *;have hc:∀e,e<M->f e<=e/\Orb G act e (f e)/\∀k,Orb G act e k->f e<=k:=λe he=>by rw[<-hf];exact hc e he
 have hg:∀e,e<M->((List.range M).map λe=>((f e:Nat):Int)).getD e default=((f e:Nat):Int):=λe he=>by simp[List.getD,he]
 refine⟨(List.range M).map λe=>((f e:Nat):Int),⟨by simp,λe he=>⟨f e,hg e he,(hc e he).1,(hc e he).2.1⟩⟩,λg hm e he=>?_⟩;have hl:=h.lt g hm e he;rw[hg e he,hg _ hl];have ho:Orb G act e (act g e):=⟨g,hm,rfl⟩
 have a:=(hc e he).2.2 _ (h.trans he ho (hc _ hl).2.1);have b:=(hc _ hl).2.2 _ (h.trans hl (h.symm he ho) (hc e he).2.1);omega
theorem v8{p:PrbV}(h:OkP p):GAct (l5 p) (gD p) (aZ p).execs.length:=by
 have:=Sm h
 rwa [yG] at this
theorem Br{p:PrbV}(h:OkP p):(l5 p).length<=6:=by
 have hc:=dq (cH h.e0).1;have h3:=h.n3;refine eK (List.length_filter_le _ _) (eK (List.length_filter_le _ _) ?_);exact Hr (by omega) (by omega)
theorem F7{p:PrbV}(h:OkP p):OrbIn (aZ p) (l5 p) (gD p) where
 fo:=GM h
 ga:=v8 h
 pm q hq:=⟨((ec h).1 hq).pm,((ec h).1 hq).ln⟩
 im q hq e he:=FY h ((ec h).1 hq) he
 ll:=eK (Br h) (by omega)
 m1:=(wh p h).1
 n3:=⟨(dq (cH h.e0).1).1,h.n3⟩
 ve:=Au p h
noncomputable def fK(p:PrbV):List Int:=BB (l5 p) (gD p) (aZ p).execs.length
theorem qm{p:PrbV}(h:OkP p):LFin (l5 p) (gD p) (aZ p).execs.length (fK p):=by
 obtain⟨L,hL⟩:=Hs (v8 h);unfold fK;rw[hL.is (v8 h)];exact hL
theorem Ib(p:PrbV)(h:OkP p):pU 11 [fE (aZ p),ay (l5 p)] (.tup [aq (uc (fK p) (aZ p).execs.length),.int .i64 0]):=Ma _ _ _ (F7 h) _ (qm h)
theorem G2(p:PrbV)(h:OkP p)(x:Nat)(hx:x<(aZ p).execs.length):pU 12 [fE (aZ p),ay (l5 p),.int .i64 (x:Nat)] (.tup [aq (y4 (fK p) x (aZ p).execs.length),.int .i64 0]):=H9 _ _ _ (F7 h) _ (qm h) x hx
theorem Di(p:PrbV)(h:OkP p):pU 8 [cf p] (.tup [ay (l5 p),.int .i64 0]):=Kc p h
def ER(a b:Int):MvV:=⟨⟨2,a,b,0,0,0,0⟩,0⟩
def P14:PrbV:=⟨⟨2,2,2,[⟨[0,0],[[0,0]],[]⟩,⟨[0,1],[[0,0],[1,1]],[]⟩,⟨[1,0],[[0,0],[1,1]],[]⟩,⟨[1,1],[[1,1]],[]⟩]⟩,⟨2,[[ER 1 3,ER 3 2,ER 3 3]]⟩,1⟩
theorem JO:OkP P14:=by
 refine wn ⟨?_,?_,?_,?_⟩ (by decide+kernel)
 ·intro c hc;simp only[P14,gR,List.not_mem_nil,or_false] at hc;rcases hc with rfl|rfl|rfl|rfl<;>exact⟨by show _<=_;decide,by show _<=_;decide,λx hx=>by simp at hx;rcases hx with rfl|rfl<;>(show _<=_;decide),by show _<=_;decide,λx hx=>(by cases hx)⟩
 ·show _<=_;decide
 ·decide
 ·intro l hl;simp only[P14,gR,List.not_mem_nil,or_false] at hl;subst hl;decide
theorem Ba{sz:Nat}:∀{l:List AV}{i j:Nat}{y c:AV},(∀y∈l,y.cells.length=sz)->l[i]?=some y->y.cells[j]?=some c->(l.flatMap AV.cells)[i*sz+j]?=some c
 |[],i,j,y,c,_,h,_=>by simp at h
 |x::l,0,j,y,c,hc,h,hj=>by
  simp at h;subst h;have hlt:=(bH.1 hj).1;rw[lj,nA,dt,gG hlt];exact hj
 |x::l,i+1,j,y,c,hc,h,hj=>by
  have hx:=hc x (gP ..);rw[lj,iA (by rw[hx,d8];omega),hx,show(i+1)*sz+j-sz=i*sz+j by rw[d8];omega];exact Ba (λy hy=>hc y (oQ _ hy)) (by simpa using h) hj
theorem mf{H:Hp}{b n sz off len:Nat}{cs l':List AV}(hb:H b=some cs)(hn:cs.length=n)(hfit:off+len*sz<=n)(hl:l'.length=len)(hc:∀y∈l',y.cells.length=sz)(h:aK H ((cs.drop off).take (len*sz)) (l'.flatMap AV.cells)):Snap H (.msl b n sz off len) (.sl sz l'):=
 .msl b n sz off len cs l' hb hn hfit hl hc λi j y a c hy hcj ha=>by
  have h1:=Ba hc hy hcj;have hi:i<len:=by have:=(bH.1 hy).1;omega
  have hj:j<sz:=by have:=(bH.1 hcj).1;rw[hc y (ir hy)] at this;exact this
  have hij:i*sz+j<len*sz:=by
   have:(i+1)*sz<=len*sz:=jv _ hi;rw[d8] at this;omega
  refine h.2 (i*sz+j) a c ?_ h1;rw[jl,if_pos hij,kJ,<-kw];exact ha
def wX:List MvV:=[ER 1 3,ER 3 2,ER 3 3]
theorem TN3:(0:Int).toNat=0/\(1:Int).toNat=1/\(2:Int).toNat=2/\0*2=0/\1*2=2/\2*2=4:=⟨rfl,rfl,rfl,rfl,rfl,rfl⟩
theorem LO:zb P14.task=[[0,1],[1,0]]:=by decide+kernel
theorem K2:e7 [0,1] P14.adv=P14.adv/\e7 [1,0] P14.adv=P14.adv:=by decide+kernel
theorem Gc:l5 P14=[[0,1],[1,0]]:=by
 unfold l5;rw[LO,List.filter_cons,if_pos (xN.2 (by rw[K2.1];exact λ_=>Iff.rfl)),List.filter_cons,if_pos (xN.2 (by rw[K2.2];exact λ_=>Iff.rfl))];rfl
theorem Lg:(aZ P14).execs.length=12:=by decide+kernel
def L14:List Int:=(List.range 12).map λe=>((min e (gD P14 [1,0] e):Nat):Int)
theorem NM:((List.range 12).all λe=>decide (gD P14 [0,1] e=e/\gD P14 [1,0] e<12/\L14.getD e default=L14.getD (gD P14 [1,0] e) default))=true:=by decide+kernel
theorem Qb:(uc L14 12).length=7:=by decide+kernel
theorem Pe:LFin (l5 P14) (gD P14) (aZ P14).execs.length L14:=by
 rw[Gc,Lg];have h:=dQ.1 NM;have h:∀e,e<12->gD P14 [0,1] e=e/\gD P14 [1,0] e<12/\L14.getD e default=L14.getD (gD P14 [1,0] e) default:=λe he=>pB (h e (eM.2 he));have hg:∀e,e<12->L14.getD e default=((min e (gD P14 [1,0] e):Nat):Int):=λe he=>by simp[L14,List.getD,he]
 refine⟨⟨by simp[L14],λe he=>⟨_,hg e he,Nat.min_le_left _ _,?_⟩⟩,λg hm e he=>?_⟩
 ·by_cases q:e<=gD P14 [1,0] e
  ·rw[Nat.min_eq_left q];exact⟨[0,1],by simp,(h e he).1⟩
  ·rw[Nat.min_eq_right (by omega)];exact⟨[1,0],by simp,rfl⟩
 ·simp only[gR,List.not_mem_nil,or_false] at hm;rcases hm with rfl|rfl
  ·rw[(h e he).1]
  ·exact(h e he).2.2
theorem KB:uc (fK P14) (aZ P14).execs.length=uc L14 12:=by
 unfold fK;rw[Pe.is (v8 JO),Lg]
def qZ(L:List Int)(M:Nat):List Nat:=(List.range M).filter λe=>decide (lst L e=e)
def rj(L:List Int)(x M:Nat):List Nat:=(List.range M).filter λe=>decide (L.getD e default=L.getD x default)
def jO(l:List Nat):List Int:=l.map λ(e:Nat)=>(e:Int)
theorem AZ{l:List Nat}{i:Nat}(h:i<l.length):(jO l).getD i default=((l.getD i default:Nat):Int):=by simp[jO,List.getD,h]
theorem vu(l:List Nat):(jO l).length=l.length:=by simp[jO]
theorem Ht{l:List Nat}{x:Nat}:((x:Nat):Int)∈jO l↔x∈l:=by
 unfold jO;rw[cE];constructor
 ·rintro⟨a,h,e⟩;rw[<-Int.ofNat_inj.1 e];exact h
 ·intro h;exact⟨x,h,rfl⟩
theorem DZ{α:Type}[DecidableEq α]{G:List α}{act:α->Nat->Nat}{M:Nat}{L:List Int}(hL:LFin G act M L):((qZ L M).flatMap λx=>rj L x M).Nodup:=by
 rw[List.Nodup,List.pairwise_flatMap];refine⟨λx _=>List.Pairwise.filter _ List.nodup_range,?_⟩;have hn:(qZ L M).Nodup:=List.Pairwise.filter _ List.nodup_range;rw[List.Nodup] at hn;refine List.Pairwise.imp_of_mem (λ{a b} ha hb hne x hx y hy e=>?_) hn;unfold qZ at ha hb;unfold rj at hx hy;rw[ik,eM,gq] at ha hb hx hy;subst e;have h1:=hL.get ha.1;have h2:=hL.get hb.1;rw[ha.2] at h1;rw[hb.2] at h2;have:=hx.2.symm.trans hy.2;exact hne (by omega)
theorem GP{α:Type}[DecidableEq α]{G:List α}{act:α->Nat->Nat}{M:Nat}{L:List Int}(hG:GAct G act M)(hL:LFin G act M L){y:Nat}:y∈((qZ L M).flatMap λx=>rj L x M)↔y<M:=by
 rw[List.mem_flatMap];constructor
 ·rintro⟨x,-,hy⟩;unfold rj at hy;exact eM.1 (ik.1 hy).1
 ·intro hy;refine⟨lst L y,?_,?_⟩
  ·unfold qZ;rw[ik,eM,gq];exact⟨hL.lt hG hy,hL.idem hG hy⟩
  ·unfold rj;rw[ik,eM,gq];refine⟨hy,?_⟩;rw[hL.get hy,hL.get (hL.lt hG hy),hL.idem hG hy]
theorem Gk{α:Type}[DecidableEq α]{G:List α}{act:α->Nat->Nat}{M:Nat}{L:List Int}(hG:GAct G act M)(hL:LFin G act M L):((qZ L M).flatMap λx=>rj L x M).length=M:=by
 have hp:((qZ L M).flatMap λx=>rj L x M).Perm (List.range M):=(List.perm_ext_iff_of_nodup (DZ hL) List.nodup_range).2 λy=>by rw[GP hG hL,eM]
 rw[hp.length_eq,List.length_range]
def jj(R:List Nat)(U:Nat->List Nat)(i j:Nat):List Nat:=(R.take i).flatMap U++(U (R.getD i default)).take j
theorem Gm(R:List Nat)(U:Nat->List Nat):jj R U 0 0=[]:=by simp[jj]
theorem JR{R:List Nat}{U:Nat->List Nat}{i:Nat}(h:i<R.length):jj R U i (U (R.getD i default)).length=jj R U (i+1) 0:=by
 unfold jj;rw[List.take_length,bZ h,List.flatMap_append,List.take_zero,jd];simp
theorem Aq{R:List Nat}{U:Nat->List Nat}{i j:Nat}(h:j<(U (R.getD i default)).length):jj R U i (j+1)=jj R U i j++[(U (R.getD i default)).getD j default]:=by
 unfold jj;rw[bZ h,io]
theorem Jr{R:List Nat}{U:Nat->List Nat}:jj R U R.length 0=R.flatMap U:=by
 unfold jj;rw[List.take_length,List.take_zero,jd]
theorem CL{R:List Nat}{U:Nat->List Nat}{i j:Nat}(h:i<R.length)(hj:j<(U (R.getD i default)).length):∃Q,jj R U i j++(U (R.getD i default)).getD j default::Q=R.flatMap U:=by
 refine⟨(U (R.getD i default)).drop (j+1)++(R.drop (i+1)).flatMap U,?_⟩
 have h1:jj R U i j++(U (R.getD i default)).getD j default::((U (R.getD i default)).drop (j+1)++(R.drop (i+1)).flatMap U)=jj R U i (j+1)++((U (R.getD i default)).drop (j+1)++(R.drop (i+1)).flatMap U):=by
  rw[Aq hj,io];rfl
 rw[h1];unfold jj;rw[io,<-io (List.take _ _),qI]
 have h2:(R.take i).flatMap U++(U (R.getD i default)++(R.drop (i+1)).flatMap U)=((R.take i++[R.getD i default])++R.drop (i+1)).flatMap U:=by
  rw[List.flatMap_append,List.flatMap_append];simp
 rw[h2,<-bZ h,qI]
theorem JF{R:List Nat}{U:Nat->List Nat}(hn:(R.flatMap U).Nodup){i j:Nat}(h:i<R.length)(hj:j<(U (R.getD i default)).length):(U (R.getD i default)).getD j default∉jj R U i j:=λhm=>by
 obtain⟨Q,hQ⟩:=CL h hj;rw[<-hQ,yf] at hn;exact hn.2.2 _ hm _ (gP ..) rfl
theorem Ml{R:List Nat}{U:Nat->List Nat}{i j:Nat}(h:i<R.length)(hj:j<(U (R.getD i default)).length):(jj R U i j).length<(R.flatMap U).length:=by
 obtain⟨Q,hQ⟩:=CL h hj;rw[<-hQ,cP];simp
def px{α:Type}[Inhabited α](G:List α)(act:α->Nat->Nat)(M i j:Nat):Nat:=fI (λg=>(List.range M).countP λe=>decide (act g e=e)) (G.take i)+(List.range j).countP λe=>decide (act (G.getD i default) e=e)
theorem FB{α:Type}(f:α->Nat)(l:List α)(x:α):fI f (l++[x])=fI f l+f x:=by simp[fI]
theorem JA{α:Type}[Inhabited α]{G:List α}{act:α->Nat->Nat}{M i:Nat}(h:i<G.length):px G act M i M=px G act M (i+1) 0:=by
 unfold px;rw[bZ h,FB];simp
theorem G3{α:Type}[Inhabited α]{G:List α}{act:α->Nat->Nat}{M i j:Nat}:px G act M i (j+1)=px G act M i j+if act (G.getD i default) j=j then 1 else 0:=by
 unfold px;rw[List.range_succ,List.countP_append,List.countP_singleton,kw]
 congr 1
 simp
theorem JU{α:Type}[Inhabited α]{G:List α}{act:α->Nat->Nat}{M:Nat}:px G act M G.length 0=fI (λg=>(List.range M).countP λe=>decide (act g e=e)) G:=by
 unfold px;rw[List.take_length];simp
theorem Mh{α:Type}[Inhabited α]{G:List α}{act:α->Nat->Nat}{M:Nat}:∀{i j:Nat},i<=G.length->px G act M i j<=i*M+j:=λ{i j} hi=>by
 unfold px
 have h1:∀l:List α,fI (λg=>(List.range M).countP λe=>decide (act g e=e)) l<=l.length*M:=λl=>by
  induction l with
  |nil=>simp[fI]
  |cons x l ih=>
   rw[eP,ig,d8];have:=List.countP_le_length (p:=λe=>decide (act x e=e)) (l:=List.range M);rw[List.length_range] at this;omega
 have h2:=h1 (G.take i);rw[iX,Nat.min_eq_left hi] at h2;have h3:=List.countP_le_length (p:=λe=>decide (act (G.getD i default) e=e)) (l:=List.range j);rw[List.length_range] at h3;omega
theorem ED(l:List Nat)(x:Nat):jO (l++[x])=jO l++[(x:Int)]:=by simp[jO]
theorem Fc(n:Nat):j4 n++[.bool true]=j4 (n+1):=by simp[j4,List.replicate_succ']
section
attribute [local irreducible] aF ai bj aY aN aM ax aS a8 bm Go.Abs.Fn aX Go.Abs.Pure ap aK Yl
theorem GX:pU 13 [.int .i64 1] (cf P14):=by
 refine pO Rw ?_;simp only[b13,aw];have q1:nu 1 (.msl 3 2 1 0 2) none (some (.int .i64 1)) none=some (.msl 3 2 1 0 1):=rfl;have q2:nu 1 (.msl 3 2 1 0 2) (some (.int .i64 1)) none none=some (.msl 3 2 1 1 1):=rfl;refine wnY (aI @q1 @q2) ?_;generalize hB:av (av _ _ _) _ _=B;have b0:B 0=some [.int .i64 0,.int .i64 0,.int .i64 0,.esl,.int .i64 0,.esl,.int .i64 0]:=by rw[<-hB];simp (disch:=omega) only[ab,ae]
 have b1:B 1=some [.int .i64 0,.int .i64 0]:=by rw[<-hB];simp (disch:=omega) only[ab,ae]
 have b2:B 2=some [.int .i64 1,.int .i64 1]:=by rw[<-hB];simp (disch:=omega) only[ab,ae]
 have b3:B 3=some [.msl 1 2 1 0 2,.msl 2 2 1 0 2]:=by rw[<-hB];simp (disch:=omega) only[ab,ae]
 have b4:B 4=some [.int .i64 0,.int .i64 0]:=by rw[<-hB];simp (disch:=omega) only[ab,ae]
 have b5:B 5=some [.int .i64 0,.int .i64 1]:=by rw[<-hB];simp (disch:=omega) only[ab,ae]
 have b6:B 6=some [.int .i64 1,.int .i64 0]:=by rw[<-hB];simp (disch:=omega) only[ab,ae]
 have b7:B 7=some [.int .i64 1,.int .i64 1]:=by rw[<-hB];simp (disch:=omega) only[ab,ae]
 have b8:B 8=some [.msl 4 2 1 0 2,.msl 3 2 1 0 1,.esl,.msl 5 2 1 0 2,.msl 3 2 1 0 2,.esl,.msl 6 2 1 0 2,.msl 3 2 1 0 2,.esl,.msl 7 2 1 0 2,.msl 3 2 1 1 1,.esl]:=by rw[<-hB];simp (disch:=omega) only[ab,ae]
 have b9:B 9=some [.int .i64 2,.int .i64 2,.int .i64 2,.msl 8 12 3 0 4]:=by rw[<-hB];simp (disch:=omega) only[ab,ae];rfl
 have b10:B 10=some [.int .i64 1,.int .i64 3,.int .i64 3,.int .i64 2,.int .i64 3,.int .i64 3]:=by rw[<-hB];simp (disch:=omega) only[ab,ae]
 clear hB;refine bq (X:=Nat×AV) (λx=>[(0,.int .i64 1),(2,.ptr 0 7 0),(4,.ptr 9 4 0),(5,x.2),(30,.msl 10 6 2 0 3),(31,.int .i64 (3:Nat)),(32,.int .i64 x.1)]) (λx H n'=>x.1<=3/\11<=n'/\(∀y,y<11->H y=B y)/\Row H 8 x.2 (cL dB (wX.take x.1))/\∀b,bk x.2=some b->11<=b/\b<n') (λx=>3-x.1) (0,.esl) ⟨by omega,by omega,λ_ _=>rfl,.nil,λb h=>(by cases h)⟩ (by simp (disch:=omega) only[agr,ZG,reduceEqDiff,↓reduceIte,SL]) ?_;rintro⟨k,ro⟩ H nx ⟨hk,hnx,fr,hrow,hb⟩;dsimp only at hk hrow hb |-;obtain⟨o1,o2⟩:=hrow.one;have gA:=(fr 10 (by omega)).trans b10;have i0:eo 2 (.msl 10 6 2 0 3) (.int .i64 ((0:Nat):Int))=some (.ptr 10 6 0):=rfl;have i1:eo 2 (.msl 10 6 2 0 3) (.int .i64 ((1:Nat):Int))=some (.ptr 10 6 2):=rfl;have i2:eo 2 (.msl 10 6 2 0 3) (.int .i64 ((2:Nat):Int))=some (.ptr 10 6 4):=rfl;have r0:rd H 2 (.ptr 10 6 0)=some [.int .i64 1,.int .i64 3]:=by rw[SR.2.1,gA];rfl
 have r1:rd H 2 (.ptr 10 6 2)=some [.int .i64 3,.int .i64 2]:=by rw[SR.2.1,gA];rfl
 have r2:rd H 2 (.ptr 10 6 4)=some [.int .i64 3,.int .i64 3]:=by rw[SR.2.1,gA];rfl
 rcases(by omega:k=0\/k=1\/k=2\/k=3) with rfl|rfl|rfl|rfl
 ·refine wnY (zI8 @IX @TN3 @r0 @r1 @r2 @i0 @i1 @i2) ?_;refine dY (k:=1) (sv:=ro) (xv:=.msl (nx+1) 8 8 0 1) (cs:=cL dB (wX.take 0)) (new:=[.int .i64 2,.int .i64 1,.int .i64 3,.int .i64 0,.int .i64 0,.int .i64 0,.int .i64 0,.int .i64 0]) rfl ev0 (hrow.same λb h=>by have:=hb b h;simp (disch:=omega) only[ab]) ev0 (dw rfl) rfl rfl (by omega) (by decide) (by decide) ?_;rintro r2 H3 n3 r1 r2' r3 r4 r5;refine wnY and_self ?_;refine⟨(0+1,r2),by dsimp only;omega,⟨by dsimp only;omega,by omega,λy hy=>by rw[r4 y (by omega) (λh=>by have:=hb y h;omega)];simp (disch:=omega) only[ab];exact fr y hy,r1,λb h=>?_⟩,ag0⟩;rcases r5 b h with h|h
  ·have:=hb b h;omega
  ·omega
 ·refine wnY (zI8 @IX @TN3 @r0 @r1 @r2 @i0 @i1 @i2) ?_;refine dY (k:=1) (sv:=ro) (xv:=.msl (nx+1) 8 8 0 1) (cs:=cL dB (wX.take 1)) (new:=[.int .i64 2,.int .i64 3,.int .i64 2,.int .i64 0,.int .i64 0,.int .i64 0,.int .i64 0,.int .i64 0]) rfl ev0 (hrow.same λb h=>by have:=hb b h;simp (disch:=omega) only[ab]) ev0 (dw rfl) rfl rfl (by omega) (by decide) (by decide) ?_;rintro r2 H3 n3 r1 r2' r3 r4 r5;refine wnY and_self ?_;refine⟨(1+1,r2),by dsimp only;omega,⟨by dsimp only;omega,by omega,λy hy=>by rw[r4 y (by omega) (λh=>by have:=hb y h;omega)];simp (disch:=omega) only[ab];exact fr y hy,r1,λb h=>?_⟩,ag0⟩;rcases r5 b h with h|h
  ·have:=hb b h;omega
  ·omega
 ·refine wnY (zI8 @IX @TN3 @r0 @r1 @r2 @i0 @i1 @i2) ?_;refine dY (k:=1) (sv:=ro) (xv:=.msl (nx+1) 8 8 0 1) (cs:=cL dB (wX.take 2)) (new:=[.int .i64 2,.int .i64 3,.int .i64 3,.int .i64 0,.int .i64 0,.int .i64 0,.int .i64 0,.int .i64 0]) rfl ev0 (hrow.same λb h=>by have:=hb b h;simp (disch:=omega) only[ab]) ev0 (dw rfl) rfl rfl (by omega) (by decide) (by decide) ?_;rintro r2 H3 n3 r1 r2' r3 r4 r5;refine wnY and_self ?_;refine⟨(2+1,r2),by dsimp only;omega,⟨by dsimp only;omega,by omega,λy hy=>by rw[r4 y (by omega) (λh=>by have:=hb y h;omega)];simp (disch:=omega) only[ab];exact fr y hy,r1,λb h=>?_⟩,ag0⟩;rcases r5 b h with h|h
  ·have:=hb b h;omega
  ·omega
 ·have g0:=(fr 0 (by omega)).trans b0;have g9:=(fr 9 (by omega)).trans b9;refine wnY (zI4 @g0 @g9 @o1 @o2) ?_;generalize hH5:av (av H nx [ro]) 0 _=H5;have f5:∀y,0<y->y<11->H5 y=B y:=λy h1 h2=>by rw[<-hH5];simp (disch:=omega) only[ab];exact fr y h2
  have cn:H5 nx=some [ro]:=by rw[<-hH5];simp (disch:=omega) only[ab,ae]
  have hr5:Row H5 8 ro (cL dB wX):=hrow.same λb h=>by have:=hb b h;rw[<-hH5];simp (disch:=omega) only[ab]
  have s1:Snap H5 (.msl 1 2 1 0 2) (aq [0,0]):=Row.snapI (Row.box1 ((f5 1 (by omega) (by omega)).trans b1) rfl);have s2:Snap H5 (.msl 2 2 1 0 2) (aq [1,1]):=Row.snapI (Row.box1 ((f5 2 (by omega) (by omega)).trans b2) rfl);have s4:Snap H5 (.msl 4 2 1 0 2) (aq [0,0]):=Row.snapI (Row.box1 ((f5 4 (by omega) (by omega)).trans b4) rfl);have s5:Snap H5 (.msl 5 2 1 0 2) (aq [0,1]):=Row.snapI (Row.box1 ((f5 5 (by omega) (by omega)).trans b5) rfl);have s6:Snap H5 (.msl 6 2 1 0 2) (aq [1,0]):=Row.snapI (Row.box1 ((f5 6 (by omega) (by omega)).trans b6) rfl);have s7:Snap H5 (.msl 7 2 1 0 2) (aq [1,1]):=Row.snapI (Row.box1 ((f5 7 (by omega) (by omega)).trans b7) rfl);have e3:=(f5 3 (by omega) (by omega)).trans b3;have e8:=(f5 8 (by omega) (by omega)).trans b8;have sb:Snap H5 (.msl 3 2 1 0 2) (ay [[0,0],[1,1]]):=mf e3 rfl (by decide) rfl (λy hy=>by simp at hy;rcases hy with rfl|rfl<;>rfl) (ac s1 (ac s2 al));have sb1:Snap H5 (.msl 3 2 1 0 1) (ay [[0,0]]):=mf e3 rfl (by decide) rfl (λy hy=>by simp at hy;subst hy;rfl) (ac s1 al);have sb2:Snap H5 (.msl 3 2 1 1 1) (ay [[1,1]]):=mf e3 rfl (by decide) rfl (λy hy=>by simp at hy;subst hy;rfl) (ac s2 al);have se:Snap H5 .esl (ay []):=.eslsl 1
  have sc:Snap H5 (.msl 8 12 3 0 4) (bw P14.task.cases):=mf e8 rfl (by decide) rfl (fun y hy=>by
   obtain⟨c,_,rfl⟩:=cE.1 hy;rfl) (ac s4 (ac sb1 (ac se (ac s5 (ac sb (ac se (ac s6 (ac sb (ac se (ac s7 (ac sb2 (ac se al))))))))))))
  have sm:Snap H5 (.msl nx 1 1 0 1) (aQ [wX]):=mf cn rfl (by decide) rfl (fun y hy=>by
   obtain⟨c,_,rfl⟩:=cE.1 hy;rfl) (ac (rE (f:=dB) (by omega) (λ_=>rfl) (λx=>yY x) hr5) al)
  exact eh (ac (.int _ _) (ac (.int _ _) (ac (.int _ _) (ac sc (ac (.int _ _) (ac sm (ac (.int _ _) al)))))))
theorem EE:pU 5 [] (.bool true):=by
 refine pO is5 ?_;simp only[b5,aw];have h1:=GX;have h2:=zw P14 JO;have h3:=Di P14 JO;have h4:=Ib P14 JO;rw[KB] at h4;have hr:=Qb;have hs:(l5 P14).length=2:=by rw[Gc];rfl
 have hd1:=e9 P14;have hd2:=gU (aZ P14);generalize l5 P14=G at *;generalize uc L14 12=R at *;rw[show fE (aZ P14)=.agg (aZ P14).cs from rfl,PC.2.2.2.2.2.2.2] at h2 h4 hd2;unfold cf at h1 h2 h3 hd1;rw[PC.2.2.2.2.1] at h1 h2 h3 hd1;have z1:decide ((G.length:Int)=2)=true:=bR (by omega);have z2:decide ((R.length:Int)=7)=true:=bR (by omega);refine wnY (zI3 @PE @z1 @z2) ?_;exact .bool _
set_option maxHeartbeats 8000000 in
theorem Cw(p:PrbV)(hs:ShP p):pU 4 [cf p] (.bool true):=by
 refine pO is4 ?_;simp only[b4,aw];have ha:=EE;have hz:=JY p hs;have hd:=e9 p;cases hr:j5 p with
 |false=>
  rw[hr] at hz;unfold cf at hd hz |-;rw[PC.2.2.2.2.1] at hd hz |-;refine wnY @PE ?_;exact .bool _
 |true=>
 rw[hr] at hz;have hok:=wn hs hr;have h2:=zw p hok;have h3:=Di p hok;have h4:=HG p hok;have h5:=Ib p hok;have h6:=λx hx=>G2 p hok x hx;have h7:=λq(hq:q∈l5 p)=>Kg p hok q ((ec hok).1 hq);obtain⟨s1,s2,s3,s4⟩:=wh p hok;have hsl:=Br hok
 have hs0:0<(l5 p).length:=by
  obtain⟨i,hi,-⟩:=(v8 hok).one;exact yV.2 (λe=>by rw[e] at hi;cases hi)
 have hL:=qm hok;have hbn:=hL.burn (v8 hok);have hfn:=DZ hL;have hfl:=Gk (v8 hok) hL;have hrr:uc (fK p) (aZ p).execs.length=jO (qZ (fK p) (aZ p).execs.length):=rfl;have huu:∀x,y4 (fK p) x (aZ p).execs.length=jO (rj (fK p) x (aZ p).execs.length):=λ_=>rfl
 have hub:∀x,∀y∈rj (fK p) x (aZ p).execs.length,y<(aZ p).execs.length:=λx y hy=>by
  unfold rj at hy;exact eM.1 (ik.1 hy).1
 have hlen:∀x,(rj (fK p) x (aZ p).execs.length).length<=(aZ p).execs.length:=λx=>by
  unfold rj;exact eK (List.length_filter_le _ _) (by rw[List.length_range];exact bc _)
 have hrb:∀y∈qZ (fK p) (aZ p).execs.length,y<(aZ p).execs.length:=λy hy=>by
  unfold qZ at hy;exact eM.1 (ik.1 hy).1
 have hrl:(qZ (fK p) (aZ p).execs.length).length<=(aZ p).execs.length:=by
  unfold qZ;exact eK (List.length_filter_le _ _) (by rw[List.length_range];exact bc _)
 rw[hrr] at h5;simp only[huu] at h6;rw[show((List.range (aZ p).execs.length).filter λe=>decide (lst (fK p) e=e))=qZ (fK p) (aZ p).execs.length from rfl] at hbn;clear hrr huu;have hds:=gU (aZ p);rw[show fE (aZ p)=.agg (aZ p).cs from rfl,PC.2.2.2.2.2.2.2] at h2 h4 h5 h6 h7 hds;unfold cf at hd hz h2 h3 |-;rw[PC.2.2.2.2.1] at hd hz h2 h3 |-;generalize l5 p=G at *;generalize qZ (fK p) (aZ p).execs.length=R at *;generalize hU:(λx=>rj (fK p) x (aZ p).execs.length)=U at *;have hUx:∀x,rj (fK p) x (aZ p).execs.length=U x:=λx=>by rw[<-hU]
 simp only[hUx] at h6 hub hlen;clear hUx hU hL;have hRl:=vu R;have z1:decide ((G.length:Int)=0)=false:=bJ (by omega);refine wnY (zI3 @PE @z1 @hRl) ?_;refine xn ?_;refine wnY (aI @PE @hRl) ?_
 refine bq (X:=Nat) (λi=>[(3,.ptr 1 10 0),(5,ay G),(7,aq (jO R)),(9,.mp 2),(61,aq (jO R)),(62,.int .i64 R.length),(63,.int .i64 i)])
  (λi H n=>i<=R.length/\H 1=some [.int .i64 (aZ p).prob.task.n,.int .i64 (aZ p).prob.task.ins,.int .i64 (aZ p).prob.task.outs,bw (aZ p).prob.task.cases,.int .i64 (aZ p).prob.adv.n,aQ (aZ p).prob.adv.states,.int .i64 (aZ p).prob.rounds,.int .i64 (aZ p).tn,cW (aZ p).views,fT (aZ p).execs]/\H 2=some [.omap ((jO (jj R U i 0)).map (AV.int .i64)) (j4 (jj R U i 0).length)]) (λi=>R.length-i) 0 ⟨bo _,by simp (disch:=omega) only[ab,ae];rfl,by rw[Gm];simp (disch:=omega) only[ab,ae];rfl⟩ (by simp (disch:=omega) only[agr,ZG,reduceEqDiff,↓reduceIte,SL]) ?_
 rintro i H n ⟨hi,g1,g2⟩;by_cases hi2:i<R.length
 ·have hx:=AZ hi2;have hxm:=hrb _ (ao hi2);have hun:=h6 _ hxm;have hUl:=vu (U (R.getD i default));have hub':=hub (R.getD i default);have hrow:=JR (U:=U) hi2;have hsn:=λj(h:j<(U (R.getD i default)).length)=>Aq h;have hnew:=λj(h:j<(U (R.getD i default)).length)=>JF hfn hi2 h;have hle:=λj(h:j<(U (R.getD i default)).length)=>Ml hi2 h;have hm0:jj R U i 0=jj R U i 0:=rfl;generalize R.getD i default=x at *;refine wnY (zI4 @PE @g1 @hx @hUl) ?_
  refine bq (X:=Nat) (λj=>[(3,.ptr 1 10 0),(5,ay G),(7,aq (jO R)),(9,.mp 2),(61,aq (jO R)),(62,.int .i64 R.length),(63,.int .i64 i),(76,aq (jO (U x))),(77,.int .i64 (U x).length),(78,.int .i64 j)])
   (λj H n=>j<=(U x).length/\H 1=some [.int .i64 (aZ p).prob.task.n,.int .i64 (aZ p).prob.task.ins,.int .i64 (aZ p).prob.task.outs,bw (aZ p).prob.task.cases,.int .i64 (aZ p).prob.adv.n,aQ (aZ p).prob.adv.states,.int .i64 (aZ p).prob.rounds,.int .i64 (aZ p).tn,cW (aZ p).views,fT (aZ p).execs]/\H 2=some [.omap ((jO (jj R U i j)).map (AV.int .i64)) (j4 (jj R U i j).length)]) (λj=>(U x).length-j) 0 ⟨bo _,g1,g2⟩ (by simp (disch:=omega) only[agr,ZG,reduceEqDiff,↓reduceIte,SL]) ?_
  clear g1 g2;rintro j H n ⟨hj,g1,g2⟩;by_cases hj2:j<(U x).length
  rotate_left
  ·obtain rfl:j=(U x).length:=by omega
   refine wnY @PE ?_;exact⟨i+1,by omega,⟨by omega,g1,by rw[<-hrow];exact g2⟩,by simp (disch:=omega) only[agr,ZG,reduceEqDiff,↓reduceIte,SL]⟩
  have hy:=AZ hj2;have hyM:=hub' _ (ao hj2);have hnj:=hnew j hj2;have hsj:=hsn j hj2;have hlj:=hle j hj2;rw[hfl] at hlj;have hjl:=hlen x;generalize (U x).getD j default=y at *;have y1:decide ((y:Int)<0)=false:=bJ (by omega);have y2:decide (((aZ p).execs.length:Int)<=(y:Int))=false:=bJ (by omega)
  have hf:ef (.one .int) (.int .i64 (y:Int)) ((jO (jj R U i j)).map (AV.int .i64))=some none:=by
   rw[Ef,if_neg (λh=>hnj (Ht.1 h))]
  have hend:[AV.omap ((jO (jj R U i j)).map (AV.int .i64)++[.int .i64 (y:Int)]) (j4 (jj R U i j).length++[.bool true])]=[AV.omap ((jO (jj R U i (j+1))).map (AV.int .i64)) (j4 (jj R U i (j+1)).length)]:=by
   rw[hsj,ED,dp,Fc,cP];rfl
  refine wnY (zI5 @PE @g1 @hy @y1 @y2) ?_;refine mJ (b:=2) ev0 g2 ev0 rfl hf ?_;rw[show mget (.bool false) false none (j4 (jj R U i j).length)=.bool false from rfl];refine wnY @PE ?_;refine nJ (b:=2) ev0 g2 ev0 ev0 rfl hf ?_;refine wnY @PE ?_;refine⟨j+1,by omega,⟨by omega,by rw[ab (by omega)];exact g1,by rw[ae];exact congrArg some hend⟩,by simp (disch:=omega) only[agr,ZG,reduceEqDiff,↓reduceIte,SL]⟩
 obtain rfl:i=R.length:=by omega
 rw[Jr] at g2;refine wnY @PE ?_;have hf0:px G (gD p) (aZ p).execs.length 0 0=0:=by simp[px,fI]
 have hGl:G.length<=6:=hsl;have hM:(aZ p).execs.length<=60:=s2
 refine bq (X:=Nat) (λi=>[(3,.ptr 1 10 0),(5,ay G),(7,aq (jO R)),(9,.mp 2),(16,.int .i64 (px G (gD p) (aZ p).execs.length i 0:Nat)),(100,ay G),(101,.int .i64 G.length),(102,.int .i64 i)])
  (λi H n=>i<=G.length/\H 1=some [.int .i64 (aZ p).prob.task.n,.int .i64 (aZ p).prob.task.ins,.int .i64 (aZ p).prob.task.outs,bw (aZ p).prob.task.cases,.int .i64 (aZ p).prob.adv.n,aQ (aZ p).prob.adv.states,.int .i64 (aZ p).prob.rounds,.int .i64 (aZ p).tn,cW (aZ p).views,fT (aZ p).execs]/\H 2=some [.omap ((jO (R.flatMap U)).map (AV.int .i64)) (j4 (R.flatMap U).length)]) (λi=>G.length-i) 0 ⟨bo _,g1,g2⟩ (by rw[hf0];simp (disch:=omega) only[agr,ZG,reduceEqDiff,↓reduceIte,SL]) ?_
 clear g1 g2;rintro i H n ⟨hi,g1,g2⟩;by_cases hi2:i<G.length
 ·have ixq:=GR hi2;have hm:=ao hi2;have hx:=h7 _ hm;have hrow:=JA (act:=gD p) (M:=(aZ p).execs.length) hi2;have hsn:=λj=>G3 (G:=G) (act:=gD p) (M:=(aZ p).execs.length) (i:=i) (j:=j);have hfle:=λj=>Mh (G:=G) (act:=gD p) (M:=(aZ p).execs.length) (i:=i) (j:=j) hi;have hil:=yQ (gD p (G.getD i default)) (aZ p).execs.length;have hig:=λj(h:j<(aZ p).execs.length)=>D4 (im:=gD p (G.getD i default)) h;have hib:i*(aZ p).execs.length<=360:=eK (Nat.mul_le_mul (show i<=6 by omega) hM) (by omega);generalize G.getD i default=q at *;refine wnY (zI4 @PE @g1 @ixq @hil) ?_
  refine bq (X:=Nat) (λj=>[(3,.ptr 1 10 0),(5,ay G),(7,aq (jO R)),(9,.mp 2),(16,.int .i64 (px G (gD p) (aZ p).execs.length i j:Nat)),(100,ay G),(101,.int .i64 G.length),(102,.int .i64 i),(114,aq (imL (gD p q) (aZ p).execs.length)),(115,.int .i64 (aZ p).execs.length),(116,.int .i64 j)])
   (λj H n=>j<=(aZ p).execs.length/\H 1=some [.int .i64 (aZ p).prob.task.n,.int .i64 (aZ p).prob.task.ins,.int .i64 (aZ p).prob.task.outs,bw (aZ p).prob.task.cases,.int .i64 (aZ p).prob.adv.n,aQ (aZ p).prob.adv.states,.int .i64 (aZ p).prob.rounds,.int .i64 (aZ p).tn,cW (aZ p).views,fT (aZ p).execs]/\H 2=some [.omap ((jO (R.flatMap U)).map (AV.int .i64)) (j4 (R.flatMap U).length)]) (λj=>(aZ p).execs.length-j) 0 ⟨bo _,g1,g2⟩ (by simp (disch:=omega) only[agr,ZG,reduceEqDiff,↓reduceIte,SL]) ?_
  clear g1 g2;rintro j H n ⟨hj,g1,g2⟩;by_cases hj2:j<(aZ p).execs.length
  rotate_left
  ·obtain rfl:j=(aZ p).execs.length:=by omega
   refine wnY @PE ?_;exact⟨i+1,by omega,⟨by omega,g1,g2⟩,by rw[<-hrow];simp (disch:=omega) only[agr,ZG,reduceEqDiff,↓reduceIte,SL]⟩
  have hjg:=hig j hj2;have hsj:=hsn j;have hfj:=hfle j;by_cases hq:gD p q j=j
  ·rw[if_pos hq] at hsj;have z:decide ((j:Int)=((gD p q j:Nat):Int))=true:=bR (by omega);refine wnY (zI3 @PE @hjg @z) ?_;exact⟨j+1,by omega,⟨by omega,g1,g2⟩,by rw[hsj];simp (disch:=omega) only[agr,ZG,reduceEqDiff,↓reduceIte,SL]⟩
  ·rw[if_neg hq] at hsj;have hsj:px G (gD p) (aZ p).execs.length i (j+1)=px G (gD p) (aZ p).execs.length i j:=hsj;have z:decide ((j:Int)=((gD p q j:Nat):Int))=false:=bJ (by omega);refine wnY (zI3 @PE @hjg @z) ?_;exact⟨j+1,by omega,⟨by omega,g1,g2⟩,by rw[hsj];simp (disch:=omega) only[agr,ZG,reduceEqDiff,↓reduceIte,SL]⟩
 obtain rfl:i=G.length:=by omega
 refine wnY @PE ?_;refine Me (b:=2) ev0 g2 ?_;have hkl:((jO (R.flatMap U)).map (AV.int .i64)).length=(aZ p).execs.length:=by rw[bi,vu];exact hfl
 have hmul:R.length*G.length<=360:=eK (Nat.mul_le_mul (show R.length<=60 by omega) hGl) (by omega);have hfa:=JU (G:=G) (act:=gD p) (M:=(aZ p).execs.length);rw[hbn] at hfa
 have wm:IntKind.wrap .i64 ((R.length:Int)*(G.length:Int))=((R.length*G.length:Nat):Int):=by
  rw[<-Int.natCast_mul];exact jy (by omega) (by omega)
 have e1:decide (((aZ p).execs.length:Int)=((aZ p).execs.length:Int))=true:=bR rfl;have e2:decide (((R.length*G.length:Nat):Int)=((R.length*G.length:Nat):Int))=true:=bR rfl;rw[hkl,hfa];refine wnY (zI6 @PE @g1 @hRl @wm @e1 @e2) ?_;exact .bool _
end
end Go.Proofs.YtbmjaojeplmhnaaGreat
namespace Go.Proofs.YtbmjaojeplmhnaaGreat
open Go Go.Abs Go.RowKit Go.ChangeShapes Go.WideShapes Go.ChangeAt
theorem wB{H:Type}{enc:TypeId×Value->H}{P:Program}{f:Func}{s:ChangeSpec}{apart fresh handsOn again:Bool}{W W':World}{args:Array Value}{v:Value}{ds gs:List (DataW H)}{before pa pv:List MemPlace}
    (hW:DataW.Whole enc P f.params.toList s.vars apart W args.toList ds gs before)
    (hres:∀(b:Nat)(sp:Nat->Bool)(hd:Bool),DataW.TrodAll enc P W' b sp hd f.resultTypes.toList (v.resultList f.resultTypes.size) (s.fn H (ds++gs)).results [])
    (hargs:∀sp:Nat->Bool,(∀p∈before,sp p.block=true)->DataW.TrodAll enc P W' 0 sp true f.params.toList args.toList (s.fn H (ds++gs)).args pa)
    (hvars:∀sp:Nat->Bool,(∀p∈before,sp p.block=true)->DataW.TrodVars enc P W' sp s.vars (s.fn H (ds++gs)).vars pv)
    (hps:before=pa++pv) (hb:Below W.heap.size W W')
    (hok:∀(j:Nat)(t:TypeId)(r:Value),f.resultTypes[j]?=some t->(v.resultList f.resultTypes.size)[j]?=some r->Value.okWide P W' .any 0 t r):
    s.post enc P f apart fresh handsOn again W args v W':=by
 have hold:∀p∈before,(λb=>decide (b<W.heap.size)) p.block=true:=λp hp=>by simpa using hW.lt p hp
 have hlt:=λp hp=>hW.lt p hp;refine⟨ds,gs,before,[],pa,pv,hW,hres _ _ _,hargs _ hold,hvars _ hold,World.keptBut_mono (λp hp=>⟨hp,?_⟩) (hb.frame _),λ_=>?_⟩
 ·rw[hps,oh] at hp;exact Or.inr hp
 ·obtain⟨_,_,_,_,_,hz,hn⟩:=hW;refine⟨hok,_,_,([]++pa)++pv,⟨[]++pa,pv,trodAll_append (hargs _ (λ_ _=>rfl)) (hres _ _ _),hvars _ (λ_ _=>rfl),rfl,?_,?_⟩,?_⟩
  ·intro b off hp;have hp':MemPlace.cell b off∈before:=by rw[hps];simpa using hp
   rw[hb.frozen (hlt _ hp')];exact hz b off hp'
  ·intro ha;have:=hn ha;rw[hps] at this;simpa using this
  ·intro p hp _;rw[hps];simpa using hp
theorem Gl{E:Env}{w:World}:dI E w [] []:=⟨rfl,λi x y h=>(by cases h)⟩
theorem FA{E:Env}{w:World}{x:AV}{y:Value}{xs:List AV}{ys:List Value}(h:Rel E w x y)(hs:dI E w xs ys):dI E w (x::xs) (y::ys):=by
 refine⟨by simp[hs.1],λi a b ha hb=>?_⟩;cases i with
 |zero=>simp at ha hb;subst ha hb;exact h
 |succ i=>simp at ha hb;exact hs.2 i a b ha hb
theorem own:ownKnob Tryz.prog.godebug=none:=by kernel_rfl
end Go.Proofs.YtbmjaojeplmhnaaGreat
