/- Contracts of functions and plain laws, for all inputs that the theorems name. -/
import Derived.Test.YtekdaafnjdlenaaGreatXG4
import Derived.Test.YtekdaafnjdlenaaGreatXG3

set_option linter.unusedSimpArgs false
set_option linter.unusedVariables false
set_option maxHeartbeats 4000000
namespace Go.Proofs.YtekdaafnjdlenaaGreat
open Go Go.Abs
open Nat (reduceEqDiff reduceAdd reduceLeDiff)
abbrev Ln:=List Int×List Int
def ml(f:Ln->List Int)(z:Int)(p:Ln->Bool):List Ln->Nat
 |[]=>0
 |r::E=>(if p r=true then bit z (f r) else 0)+ml f z p E
theorem je{f:Ln->List Int}{z:Int}{p q:Ln->Bool}:∀{E:List Ln},(∀r∈E,p r=q r)->ml f z p E=ml f z q E
 |[],_=>rfl
 |r::E,h=>by
  unfold ml;rw[h r (cW ..),je λx hx=>h x (dS _ hx)]
theorem py{f:Ln->List Int}{z:Int}:∀{E:List Ln},ml f z (λ_=>false) E=0
 |[]=>rfl
 |r::E=>by unfold ml;rw[py];rfl
theorem tV{f:Ln->List Int}{z:Int}{p:Ln->Bool}{r:Ln}:∀{E:List Ln},E.Nodup->r∈E->ml f z (λq=>(p q).xor (decide (q=r))) E%2=(ml f z p E+bit z (f r))%2
 |[],_,h=>by cases h
 |q::E,hn,h=>by
  obtain⟨n1,n2⟩:=List.nodup_cons.1 hn;unfold ml;by_cases e:q=r
  ·subst e
   rw [je (q:=p) (fun x hx=>by
    have:x≠q:=λe=>n1 (e▸hx);simp[this])]
   cases hp:p q<;>simp <;>have:=ia (z:=z) (a:=f q)<;>omega
  ·have h2:r∈E:=(cU.1 h).resolve_left λx=>e x.symm;have:=tV (f:=f) (z:=z) (p:=p) n2 h2;simp only[e,decide_false,Bool.xor_false];omega
structure RedU(M:List Ln):Prop where
 asc:∀l∈M,bo l.1/\bo l.2
 ne:∀l∈M,l.1≠[]
 own:∀l∈M,∀m∈M,ld l.1∈m.1->m=l
 nodup:M.Nodup
def eH(x l:Ln):Ln:=(bX x.1 l.1,bX x.2 l.2)
def rdL(M:List Ln)(p:Ln->Bool)(x:Ln):Ln:=M.foldl (λa l=>if p l=true then eH a l else a) x
def cT(x:Ln):Prop:=bo x.1/\bo x.2
theorem fB{x l:Ln}(hx:cT x)(hl:cT l):cT (eH x l):=⟨dE hx.1 hl.1,dE hx.2 hl.2⟩
theorem ji{p:Ln->Bool}:∀{M:List Ln}{x:Ln},(∀l∈M,cT l)->cT x->cT (rdL M p x)
 |[],_,_,hx=>hx
 |l::M,x,hM,hx=>by
  unfold rdL;rw[List.foldl_cons];refine ji (M:=M) (λm hm=>hM m (dS _ hm)) ?_;split
  ·exact fB hx (hM l (cW ..))
  ·exact hx
theorem lR{p:Ln->Bool}{z:Int}:∀{M:List Ln}{x:Ln},(∀l∈M,cT l)->cT x->bit z (rdL M p x).1=(bit z x.1+ml Prod.fst z p M)%2
 |[],x,_,_=>by
  have:=ia (z:=z) (a:=x.1);show bit z x.1=(bit z x.1+0)%2;omega
 |l::M,x,hM,hx=>by
  have hl:=hM l (cW ..)
  have hx':cT (if p l=true then eH x l else x):=by
   split
   ·exact fB hx hl
   ·exact hx
  have ih:=lR (p:=p) (z:=z) (M:=M) (λm hm=>hM m (dS _ hm)) hx';show bit z (rdL M p (if p l=true then eH x l else x)).1=(bit z x.1+((if p l=true then bit z l.1 else 0)+ml Prod.fst z p M))%2;rw[ih];clear ih;by_cases h:p l=true
  ·rw[if_pos h,if_pos h];unfold eH;rw[dh hx.1 hl.1];omega
  ·rw[if_neg h,if_neg h];omega
theorem lH{p:Ln->Bool}{z:Int}:∀{M:List Ln}{x:Ln},(∀l∈M,cT l)->cT x->bit z (rdL M p x).2=(bit z x.2+ml Prod.snd z p M)%2
 |[],x,_,_=>by
  have:=ia (z:=z) (a:=x.2);show bit z x.2=(bit z x.2+0)%2;omega
 |l::M,x,hM,hx=>by
  have hl:=hM l (cW ..)
  have hx':cT (if p l=true then eH x l else x):=by
   split
   ·exact fB hx hl
   ·exact hx
  have ih:=lH (p:=p) (z:=z) (M:=M) (λm hm=>hM m (dS _ hm)) hx';show bit z (rdL M p (if p l=true then eH x l else x)).2=(bit z x.2+((if p l=true then bit z l.2 else 0)+ml Prod.snd z p M))%2;rw[ih];clear ih;by_cases h:p l=true
  ·rw[if_pos h,if_pos h];unfold eH;rw[dh hx.2 hl.2];omega
  ·rw[if_neg h,if_neg h];omega
def fI(x:Ln)(l:Ln):Bool:=decide (ld l.1∈x.1)
def ew(M:List Ln)(x:Ln):Ln:=rdL M (fI x) x
theorem Ii{x y:Ln}(hx:cT x)(hy:cT y)(h1:∀z,bit z x.1=bit z y.1)(h2:∀z,bit z x.2=bit z y.2):x=y:=
 Prod.ext (gu hx.1 hy.1 h1) (gu hx.2 hy.2 h2)
theorem FF{M:List Ln}{x l:Ln}(hM:RedU M)(hx:cT x)(hl:l∈M):ew M (eH x l)=ew M x:=by
 have hla:cT l:=hM.asc l hl;have hxl:=fB hx hla
 have hp:∀m∈M,fI (eH x l) m=(fI x m).xor (decide (m=l)):=λm hm=>by
  unfold fI;have h1:ld m.1∈l.1↔m=l:=⟨λh=>(hM.own m hm l hl h).symm,λe=>e▸dy (hM.ne m hm)⟩
  have h2:=(jA _ x.1 l.1 (aJ _) hx.1 hla.1).2 (ld m.1);show decide (ld m.1∈bX x.1 l.1)=_;by_cases b:m=l
  ·subst b;have h3:=dy (hM.ne m hm);by_cases a:ld m.1∈x.1<;>simp[h2,h3,a]
  ·have h3:ld m.1∉l.1:=λh=>b (h1.1 h);by_cases a:ld m.1∈x.1<;>simp[h2,h3,a,b]
 refine Ii (ji hM.asc hxl) (ji hM.asc hx) (λz=>?_) (λz=>?_)
 ·unfold ew;rw[lR hM.asc hxl,lR hM.asc hx,je hp];have:=tV (f:=Prod.fst) (z:=z) (p:=fI x) hM.nodup hl;unfold eH;rw[dh hx.1 hla.1];omega
 ·unfold ew;rw[lH hM.asc hxl,lH hM.asc hx,je hp];have:=tV (f:=Prod.snd) (z:=z) (p:=fI x) hM.nodup hl;unfold eH;rw[dh hx.2 hla.2];omega
theorem FP{M:List Ln}{x:Ln}(hM:RedU M)(hx:cT x)(h:∀l∈M,ld l.1∉x.1):ew M x=x:=by
 have hp:∀m∈M,fI x m=false:=λm hm=>bh (h m hm);refine Ii (ji hM.asc hx) hx (λz=>?_) (λz=>?_)
 ·unfold ew;rw[lR hM.asc hx,je hp,py];have:=ia (z:=z) (a:=x.1);omega
 ·unfold ew;rw[lH hM.asc hx,je hp,py];have:=ia (z:=z) (a:=x.2);omega
theorem c6{a b:List Int}{z:Int}(ha:bo a)(hb:bo b):z∈bX a b↔(z∈a/\z∉b)\/(z∈b/\z∉a):=(jA _ a b (aJ _) ha hb).2 z
theorem er{a b c:List Int}(ha:bo a)(hb:bo b)(hc:bo c):bX a (bX b c)=bX (bX a b) c:=
 gu (dE ha (dE hb hc)) (dE (dE ha hb) hc) λz=>by
  rw[dh ha (dE hb hc),dh hb hc,dh (dE ha hb) hc,dh ha hb];omega
theorem Gr{a b:List Int}(ha:bo a)(hb:bo b):bX a b=bX b a:=
 gu (dE ha hb) (dE hb ha) λz=>by rw[dh ha hb,dh hb ha,Nat.add_comm]
theorem eD{a:List Int}(ha:bo a):bX a a=[]:=
 tF λz=>by rw[dh ha ha];omega
theorem gD{S:List (List Int)}{v w:List Int}(hS:∀r∈S,bo r)(hv:Sp S v)(hw:Sp S w):Sp S (bX v w):=by
 induction hw with
 |nil=>rw[gA];exact hv
 | @add w r h1 h2 ih=>
  rw[er (lw hS hv) (lw hS h1) (hS _ h2)];exact Sp.add ih h2
theorem jB{R S:List (List Int)}{v:List Int}(hS:∀r∈S,bo r)(h:∀r∈R,Sp S r)(hv:Sp R v):Sp S v:=by
 induction hv with
 |nil=>exact Sp.nil
 |add h1 h2 ih=>exact gD hS ih (h _ h2)
theorem lz{R S:List (List Int)}{v:List Int}(h:∀r∈R,r∈S)(hv:Sp R v):Sp S v:=by
 induction hv with
 |nil=>exact Sp.nil
 |add h1 h2 ih=>exact Sp.add ih (h _ h2)
theorem v9{p:Ln->Bool}{S:List (List Int)}(hS:∀r∈S,bo r):∀{M:List Ln}{x:Ln},(∀l∈M,cT l/\l.1∈S)->cT x->Sp S (bX x.1 (rdL M p x).1)
 |[],x,_,hx=>by
  show Sp S (bX x.1 x.1);rw[eD hx.1];exact Sp.nil
 |l::M,x,hM,hx=>by
  obtain⟨hl,hlS⟩:=hM l (cW ..);have hM':=λm hm=>hM m (dS _ hm)
  have hx':cT (if p l=true then eH x l else x):=by
   split
   ·exact fB hx hl
   ·exact hx
  have ih:=v9 (p:=p) hS (M:=M) hM' hx';have hr:=ji (p:=p) (M:=M) (λm hm=>(hM' m hm).1) hx';show Sp S (bX x.1 (rdL M p (if p l=true then eH x l else x)).1);by_cases h:p l=true
  ·rw[if_pos h] at ih hr hx' |-
   have e:bX x.1 (rdL M p (eH x l)).1=bX (bX (eH x l).1 (rdL M p (eH x l)).1) l.1:=
    gu (dE hx.1 hr.1) (dE (dE hx'.1 hr.1) hl.1) λz=>by
     rw[dh hx.1 hr.1,dh (dE hx'.1 hr.1) hl.1,dh hx'.1 hr.1];show _=((bit z (bX x.1 l.1)+_)%2+_)%2;rw[dh hx.1 hl.1];omega
   rw[e];exact Sp.add ih hlS
  ·rw[if_neg h] at ih |-;exact ih
theorem lM{M:List Ln}{x:Ln}(hM:RedU M)(hx:cT x){l:Ln}(hl:l∈M):ld l.1∉(ew M x).1:=by
 rw[<-cS];unfold ew;rw[lR hM.asc hx]
 have hc:∀{E:List Ln},E.Nodup->(∀m∈E,ld l.1∈m.1->m=l)->ml Prod.fst (ld l.1) (fI x) E=if l∈E/\fI x l=true then 1 else 0:=by
  intro E
  induction E with
  |nil=>intro _ _;simp[ml]
  |cons m E ih=>
   intro hn ho;obtain⟨n1,n2⟩:=List.nodup_cons.1 hn;have ih:=ih n2 λm hm=>ho m (dS _ hm);show(if fI x m=true then bit (ld l.1) m.1 else 0)+ml Prod.fst (ld l.1) (fI x) E=_;rw[ih];by_cases e:m=l
   ·subst e;have hb:bit (ld m.1) m.1=1:=cS.2 (dy (hM.ne m hl));simp[n1,hb]
   ·have hb:bit (ld l.1) m.1=0:=by
      unfold bit;rw[if_neg λh=>e (ho m (cW ..) h)]
    have e2:l≠m:=λh=>e h.symm;simp[hb,e2]
 rw[hc hM.nodup λm hm h=>hM.own l hl m hm h];unfold fI bit;by_cases h:ld l.1∈x.1<;>simp[h,hl]
def kG(y l:Ln):Ln:=if ld y.1∈l.1 then eH l y else l
def kV(M:List Ln)(y:Ln):List Ln:=M.map (kG y)++[y]
theorem vS{M:List Ln}{y l:Ln}(hM:RedU M)(hy:cT y)(h0:y.1≠[])(hn:∀l∈M,ld l.1∉y.1)(hl:l∈M):
    cT (kG y l)/\(∀m∈M,ld m.1∈(kG y l).1↔l=m)/\ld y.1∉(kG y l).1/\ld (kG y l).1=ld l.1:=by
 have hla:=hM.asc l hl;have how:∀m∈M,ld m.1∈l.1↔l=m:=λm hm=>⟨λh=>hM.own m hm l hl h,λe=>e▸dy (hM.ne l hl)⟩
 unfold kG;by_cases h:ld y.1∈l.1
 ·rw[if_pos h];have hs:=λz=>c6 (z:=z) hla.1 hy.1
  have ho:∀m∈M,ld m.1∈(eH l y).1↔l=m:=λm hm=>by
   show ld m.1∈bX l.1 y.1↔_;rw[hs];have:=hn m hm;rw[<-how m hm];simp[this]
  refine⟨fB hla hy,ho,?_,?_⟩
  ·show ld y.1∉bX l.1 y.1;rw[hs];have:=dy h0;simp[this,h]
  ·have hm:=(ho l hl).2 rfl;refine Int.le_antisymm (pt (fB hla hy).1 hm) ?_;have hne:(eH l y).1≠[]:=λe=>by rw[e] at hm;cases hm
   have hq:=dy hne;rcases(hs _).1 hq with q|q
   ·exact pt hla.1 q.1
   ·exact Int.le_trans (pt hla.1 h) (pt hy.1 q.1)
 ·rw[if_neg h];exact⟨hla,how,h,rfl⟩
theorem FC{M:List Ln}{y:Ln}(hM:RedU M)(hy:cT y)(h0:y.1≠[])(hn:∀l∈M,ld l.1∉y.1):RedU (kV M y):=by
 have hf:=λl(hl:l∈M)=>vS hM hy h0 hn hl
 have hmem:∀{m},m∈kV M y->(∃l∈M,kG y l=m)\/m=y:=λ{m} h=>by
  rcases dZ.1 h with h|h
  ·exact .inl (bu.1 h)
  ·exact .inr (bT.1 h)
 constructor
 ·intro m hm;rcases hmem hm with⟨l,hl,rfl⟩|rfl
  ·exact(hf l hl).1
  ·exact hy
 ·intro m hm;rcases hmem hm with⟨l,hl,rfl⟩|rfl
  ·intro e;have:=((hf l hl).2.1 l hl).2 rfl;rw[e] at this;cases this
  ·exact h0
 ·intro m hm k hk h;rcases hmem hm with⟨l,hl,rfl⟩|rfl
  ·rw[(hf l hl).2.2.2] at h;rcases hmem hk with⟨q,hq,rfl⟩|rfl
   ·rw[((hf q hq).2.1 l hl).1 h]
   ·exact absurd h (hn l hl)
  ·rcases hmem hk with⟨q,hq,rfl⟩|rfl
   ·exact absurd h (hf q hq).2.2.1
   ·rfl
 ·refine s0.2 ⟨?_,by simp,λa ha b hb e=>?_⟩
  ·refine List.pairwise_map.2 (List.Pairwise.imp_of_mem (λ{a b} ha hb hab e=>hab ?_) hM.nodup);have h1:=(hf a ha).2.2.2;rw[e,(hf b hb).2.2.2] at h1;refine(hM.own b hb a ha ?_);rw[h1];exact dy (hM.ne a ha)
  ·obtain⟨l,hl,rfl⟩:=bu.1 ha;rw[bT] at hb;subst hb;have:=(hf l hl).2.2.1;rw[e] at this;exact this (dy h0)
def cm(g:Int->Nat):List Int->Nat
 |[]=>0
 |x::l=>g x+cm g l
theorem fV{g:Int->Nat}:∀(n:Nat)(a b:List Int),a.length+b.length<=n->cm g (bX a b)%2=(cm g a+cm g b)%2
 |_,[],b,_=>by rw[jK];show _=(0+cm g b)%2;rw[cE]
 |_,x::a,[],_=>by rw[gA];show _=(cm g (x::a)+0)%2;rw[nq]
 |0,x::a,y::b,h=>by simp only[bL] at h;omega
 |n+1,x::a,y::b,h=>by
  simp only[bL] at h;rw[oo];by_cases g1:x<y
  ·rw[if_pos g1];have ih:=fV (g:=g) n a (y::b) (by simp only[bL];omega);show(g x+cm g (bX a (y::b)))%2=(g x+cm g a+cm g (y::b))%2;omega
  rw[if_neg g1];by_cases g2:y<x
  ·rw[if_pos g2];have ih:=fV (g:=g) n (x::a) b (by simp only[bL];omega);show(g y+cm g (bX (x::a) b))%2=(cm g (x::a)+(g y+cm g b))%2;omega
  rw[if_neg g2];obtain rfl:x=y:=by omega
  have ih:=fV (g:=g) n a b (by omega);show cm g (bX a b)%2=(g x+cm g a+(g x+cm g b))%2;omega
def nk(R:List (List Int))(n:Nat)(l:Ln):Prop:=(∀z,bit z l.1=cm (λj=>bit z (R.getD j.toNat default)) l.2%2)/\∀j∈l.2,0<=j/\j<(n:Int)
theorem Aa{R:List (List Int)}{n:Nat}{x l:Ln}(hx:cT x)(hl:cT l)(h1:nk R n x)(h2:nk R n l):nk R n (eH x l):=by
 refine⟨λz=>?_,λj hj=>?_⟩
 ·show bit z (bX x.1 l.1)=cm _ (bX x.2 l.2)%2;rw[dh hx.1 hl.1,fV _ _ _ (aJ _),h1.1,h2.1];omega
 ·rcases(c6 hx.2 hl.2).1 hj with h|h
  ·exact h1.2 j h.1
  ·exact h2.2 j h.1
theorem tW{R:List (List Int)}{n:Nat}{p:Ln->Bool}:∀{M:List Ln}{x:Ln},(∀l∈M,cT l/\nk R n l)->cT x->nk R n x->nk R n (rdL M p x)
 |[],_,_,_,h=>h
 |l::M,x,hM,hx,h=>by
  obtain⟨hl,hlo⟩:=hM l (cW ..);have hM':=λm hm=>hM m (dS _ hm);show nk R n (rdL M p (if p l=true then eH x l else x));by_cases hp:p l=true
  ·rw[if_pos hp];exact tW hM' (fB hx hl) (Aa hx hl h hlo)
  ·rw[if_neg hp];exact tW hM' hx h
theorem nk.mono{R:List (List Int)}{n m:Nat}{l:Ln}(h:nk R n l)(hn:n<=m):nk R m l:=⟨h.1,λj hj=>by have:=h.2 j hj;omega⟩
def stE(R:List (List Int)):Nat->List Ln×List (List Int)
 |0=>([],[])
 |i+1=>if (ew (stE R i).1 (R.getD i default,[(i:Int)])).1=[] then((stE R i).1,(stE R i).2++[(ew (stE R i).1 (R.getD i default,[(i:Int)])).2]) else(kV (stE R i).1 (ew (stE R i).1 (R.getD i default,[(i:Int)])),(stE R i).2)
structure StOk(R:List (List Int))(i:Nat)(M:List Ln)(D:List (List Int)):Prop where
 red:RedU M
 ok:∀l∈M,nk R i l
 dep:∀y∈D,cT ([],y)/\nk R i ([],y)
 len:M.length+D.length=i
 inS:∀l∈M,Sp (R.take i) l.1
 all:∀r∈R.take i,Sp (M.map Prod.fst) r
theorem fc{M:List Ln}(h:RedU M):∀r∈M.map Prod.fst,bo r:=λr hr=>by
 obtain⟨l,hl,rfl⟩:=bu.1 hr;exact(h.asc l hl).1
theorem fJ{R:List (List Int)}(hR:∀r∈R,bo r):∀{i:Nat},i<=R.length->StOk R i (stE R i).1 (stE R i).2
 |0,_=>⟨⟨λ_ h=>(by cases h),λ_ h=>(by cases h),λ_ h=>(by cases h),List.nodup_nil⟩,λ_ h=>(by cases h),λ_ h=>(by cases h),rfl,λ_ h=>(by cases h),λ_ h=>(by cases h)⟩
 |i+1,hi=>by
  have ih:=fJ hR (i:=i) (by omega);have hx:cT (R.getD i default,[(i:Int)]):=⟨hR _ (az (by omega)),List.pairwise_singleton ..⟩
  have hxo:nk R (i + 1) (R.getD i default,[(i:Int)]):=⟨fun z=>by
   have:=ia (z:=z) (a:=R.getD i default);show bit z (R.getD i default)=(bit z (R.getD ((i:Nat):Int).toNat default)+0)%2;rw[cC];omega,λj hj=>by rw[bT.1 hj];omega⟩
  have hMo:∀l∈(stE R i).1,cT l/\nk R (i+1) l:=λl hl=>⟨ih.red.asc l hl,(ih.ok l hl).mono (by omega)⟩
  have hya:cT (ew (stE R i).1 (R.getD i default,[(i:Int)])):=ji ih.red.asc hx;have hyo:nk R (i+1) (ew (stE R i).1 (R.getD i default,[(i:Int)])):=tW hMo hx hxo;have hyn:=λl hl=>lM ih.red hx (l:=l) hl;have hysp:Sp ((stE R i).1.map Prod.fst) (bX (R.getD i default) (ew (stE R i).1 (R.getD i default,[(i:Int)])).1):=v9 (fc ih.red) (λl hl=>⟨ih.red.asc l hl,bu.2 ⟨l,hl,rfl⟩⟩) hx;have htk:R.take (i+1)=R.take i++[R.getD i default]:=bD (by omega);have hTa:∀r∈R.take (i+1),bo r:=λr hr=>hR r (lr hr);unfold stE;generalize ew (stE R i).1 (R.getD i default,[(i:Int)])=y at *;generalize (stE R i).1=M at *;generalize (stE R i).2=D at *;have hup:∀l∈M,Sp (R.take (i+1)) l.1:=λl hl=>lz (λr hr=>by rw[htk];exact nj _ hr) (ih.inS l hl)
  have hMsp:∀ {v},Sp (M.map Prod.fst) v→Sp (R.take (i + 1)) v:=fun hv=>jB hTa (fun r hr=>by
   obtain⟨l,hl,rfl⟩:=bu.1 hr;exact hup l hl) hv
  by_cases h0:y.1=[]
  ·rw[if_pos h0];rw[h0,gA] at hysp;refine⟨ih.red,λl hl=>(hMo l hl).2,λz hz=>?_,?_,hup,λr hr=>?_⟩
   ·rcases dZ.1 hz with h|h
    ·exact⟨(ih.dep z h).1,(ih.dep z h).2.mono (by omega)⟩
    ·rw[bT.1 h];have e:(([],y.2):Ln)=y:=by rw[<-h0]
     rw[e];exact⟨hya,hyo⟩
   ·show M.length+(D++[y.2]).length=i+1;rw[cA,List.length_singleton];have:=ih.len;omega
   ·rw[htk] at hr;rcases dZ.1 hr with h|h
    ·exact ih.all r h
    ·rw[bT.1 h];exact hysp
  ·rw[if_neg h0];have hi2:=FC ih.red hya h0 hyn
   have hyS:Sp (R.take (i+1)) y.1:=by
    have h1:=hMsp hysp;have h2:Sp (R.take (i+1)) (R.getD i default):=dC (by rw[htk];exact mh _ (bT.2 rfl));have h3:=gD hTa h2 h1
    rwa [er hx.1 hx.1 hya.1,eD hx.1,jK] at h3
   have hyI:y∈kV M y:=mh _ (bT.2 rfl)
   have hcl:∀l∈M,Sp ((kV M y).map Prod.fst) l.1:=λl hl=>by
    have hm:kG y l∈kV M y:=nj _ (bu.2 ⟨l,hl,rfl⟩);have h1:=dC (bu.2 ⟨_,hm,rfl⟩:(kG y l).1∈(kV M y).map Prod.fst);unfold kG at h1;by_cases h:ld y.1∈l.1
    ·rw[if_pos h] at h1;have h2:=gD (fc hi2) h1 (dC (bu.2 ⟨_,hyI,rfl⟩));have hla:=(ih.red.asc l hl).1
     rwa [show(eH l y).1=bX l.1 y.1 from rfl,<-er hla hya.1 hya.1,eD hya.1,gA] at h2
    ·rwa [if_neg h] at h1
   refine⟨hi2,λm hm=>?_,λz hz=>⟨(ih.dep z hz).1,(ih.dep z hz).2.mono (by omega)⟩,?_,λm hm=>?_,λr hr=>?_⟩
   ·rcases dZ.1 hm with h|h
    ·obtain⟨l,hl,rfl⟩:=bu.1 h;unfold kG;split
     ·exact Aa (hMo l hl).1 hya (hMo l hl).2 hyo
     ·exact(hMo l hl).2
    ·rw[bT.1 h];exact hyo
   ·show(kV M y).length+D.length=i+1;unfold kV;rw[cA,bt,List.length_singleton];have:=ih.len;omega
   ·rcases dZ.1 hm with h|h
    ·obtain⟨l,hl,rfl⟩:=bu.1 h;unfold kG;split
     ·exact gD hTa (hup l hl) hyS
     ·exact hup l hl
    ·rw[bT.1 h];exact hyS
   ·have hMI:∀ {v},Sp (M.map Prod.fst) v→Sp ((kV M y).map Prod.fst) v:=fun hv=>jB (fc hi2) (fun r hr=>by
      obtain⟨l,hl,rfl⟩:=bu.1 hr;exact hcl l hl) hv
    rw[htk] at hr;rcases dZ.1 hr with h|h
    ·exact hMI (ih.all r h)
    ·rw[bT.1 h];have h2:=gD (fc hi2) (hMI hysp) (dC (bu.2 ⟨_,hyI,rfl⟩))
     rwa [<-er hx.1 hya.1 hya.1,eD hya.1,gA] at h2
def mR(M:List Ln)(c:Nat):List Ln:=(List.range c).filterMap λ(k:Nat)=>M.find? λl=>decide (ld l.1=(k:Int))
theorem oQ{M:List Ln}{c:Nat}:mR M (c+1)=mR M c++(M.find? λl=>decide (ld l.1=(c:Int))).toList:=by
 unfold mR;rw[List.range_succ,List.filterMap_append]
 congr 1
theorem q6{M:List Ln}{c:Nat}{l:Ln}(hM:RedU M):l∈mR M c↔l∈M/\0<=ld l.1/\ld l.1<c:=by
 unfold mR;rw[List.mem_filterMap];constructor
 ·rintro⟨k,hk,h⟩;have h1:=List.mem_of_find?_eq_some h;have h2:ld l.1=(k:Int):=by simpa using List.find?_some h
  have:=du.1 hk;exact⟨h1,by omega,by omega⟩
 ·rintro⟨h1,h2,h3⟩;refine⟨(ld l.1).toNat,du.2 (by omega),?_⟩;cases h:M.find? λm=>decide (ld m.1=((ld l.1).toNat:Int)) with
  |none=>
   have:=List.find?_eq_none.1 h l h1;rw[iG] at this;omega
  |some m=>
   have e:ld m.1=((ld l.1).toNat:Int):=by simpa using List.find?_some h
   have hm:=List.mem_of_find?_eq_some h
   congr 1
   refine hM.own l h1 m hm ?_;rw[show ld l.1=ld m.1 by omega];exact dy (hM.ne m hm)
theorem nB{M:List Ln}(hM:RedU M):∀{c:Nat},(mR M c).Pairwise λa b=>ld a.1<ld b.1
 |0=>lS
 |c+1=>by
  rw[oQ];refine List.pairwise_append.2 ⟨nB hM,?_,λa ha b hb=>?_⟩
  ·cases M.find? λl=>decide (ld l.1=(c:Int))
   ·exact lS
   ·exact List.pairwise_singleton ..
  ·have h1:=((q6 hM).1 ha).2.2;have h2:ld b.1=(c:Int):=by simpa using List.find?_some (Option.mem_toList.1 hb)
   omega
theorem G5{M:List Ln}{c:Nat}(hM:RedU M):Red ((mR M c).map Prod.fst):=by
 have hm:∀r∈(mR M c).map Prod.fst,∃l∈M,l.1=r:=λr hr=>by
  obtain⟨l,hl,rfl⟩:=bu.1 hr;exact⟨l,((q6 hM).1 hl).1,rfl⟩
 refine⟨λr hr=>?_,λr hr=>?_,λr hr q hq h=>?_,List.pairwise_map.2 (nB hM)⟩
 ·obtain⟨l,hl,rfl⟩:=hm r hr;exact(hM.asc l hl).1
 ·obtain⟨l,hl,rfl⟩:=hm r hr;exact hM.ne l hl
 ·obtain⟨l,hl,rfl⟩:=hm r hr;obtain⟨k,hk,rfl⟩:=hm q hq;rw[hM.own l hl k hk h]
def lZ(R:List (List Int))(c:Nat):List Ln:=mR (stE R R.length).1 c
def ed(R:List (List Int))(c:Nat):List (List Int):=(lZ R c).map Prod.fst
theorem gV{S:List (List Int)}{v:List Int}{P:Int->Prop}(hS:∀r∈S,bo r)(hP:∀r∈S,∀z∈r,P z)(h:Sp S v):∀z∈v,P z:=by
 induction h with
 |nil=>exact λz hz=>by cases hz
 | @add w r h1 h2 ih=>
  intro z hz;rcases(c6 (lw hS h1) (hS r h2)).1 hz with q|q
  ·exact ih z q.1
  ·exact hP r h2 z q.1
theorem gF{R:List (List Int)}{c:Nat}(hR:∀r∈R,bo r)(hv:∀r∈R,∀z∈r,0<=z/\z<(c:Int)):Red (ed R c)/\(∀v,Sp (ed R c) v↔Sp R v)/\∀l,l∈lZ R c↔l∈(stE R R.length).1:=by
 have hs:=fJ hR (aJ R.length);have hin:=hs.inS;have hall:=hs.all;rw[show R.take R.length=R from List.take_length] at hin hall
 have hmem:∀l,l∈lZ R c↔l∈(stE R R.length).1:=λl=>by
  unfold lZ;rw[q6 hs.red];refine⟨λh=>h.1,λh=>?_⟩;have:=gV hR hv (hin l h) _ (dy (hs.red.ne l h));exact⟨h,this.1,this.2⟩
 have hred:Red (ed R c):=G5 hs.red;refine⟨hred,λv=>⟨λh=>jB hR (λr hr=>?_) h,λh=>jB hred.asc (λr hr=>?_) h⟩,hmem⟩
 ·obtain⟨l,hl,rfl⟩:=bu.1 hr;exact hin l ((hmem l).1 hl)
 ·refine jB hred.asc (λq hq=>?_) (hall r hr);obtain⟨l,hl,rfl⟩:=bu.1 hq;exact dC (bu.2 ⟨l,(hmem l).2 hl,rfl⟩)
theorem tL{α:Type}[Inhabited α]{f:Nat->α}{n i:Nat}(h:i<n):((List.range n).map f).getD i default=f i:=by
 simp[List.getD,h]
theorem mq{α:Type}[Inhabited α]{l:List α}{x:α}(h:x∈l):∃i,i<l.length/\l.getD i default=x:=by
 obtain⟨i,hi,e⟩:=lm h;exact⟨i,hi,by simp[List.getD,hi,e]⟩
def PJ(rows:List (List Int))(n c:Nat):Option Nat:=(List.range rows.length).find? λi=>decide (n<=i)&&decide ((c:Int)∈rows.getD i default)
def swI(n k i:Nat):Nat:=if i=n then k else if i=k then n else i
def swL(rows:List (List Int))(n k:Nat):List (List Int):=(List.range rows.length).map λi=>rows.getD (swI n k i) default
def elF(rows:List (List Int))(n c i:Nat):List Int:=if i≠n/\(c:Int)∈rows.getD i default then bX (rows.getD i default) (rows.getD n default) else rows.getD i default
def elL(rows:List (List Int))(n c:Nat):List (List Int):=(List.range rows.length).map (elF rows n c)
def stR(R:List (List Int)):Nat->List (List Int)×Nat
 |0=>(R,0)
 |c+1=>match PJ (stR R c).1 (stR R c).2 c with
  |none=>stR R c
  |some k=>(elL (swL (stR R c).1 (stR R c).2 k) (stR R c).2 c,(stR R c).2+1)
structure RdOk(R rows:List (List Int))(n c:Nat):Prop where
 asc:∀i,i<R.length->bo (rows.getD i default)
 len:rows.length=R.length
 nle:n<=R.length
 sp:∀v,Sp rows v↔Sp R v
 top:∀i,i<n->rows.getD i default≠[]/\ld (rows.getD i default)<c
 own:∀i,i<n->∀j,j<R.length->ld (rows.getD i default)∈rows.getD j default->j=i
 ord:∀i j,i<j->j<n->ld (rows.getD i default)<ld (rows.getD j default)
 low:∀i,n<=i->i<R.length->∀z∈rows.getD i default,(c:Int)<=z
theorem pY{n k i N:Nat}(hn:n<N)(hk:k<N)(hi:i<N):swI n k i<N:=by
 unfold swI;split
 ·exact hk
 ·split
  ·exact hn
  ·exact hi
theorem As{n k i:Nat}:swI n k (swI n k i)=i:=by
 unfold swI;by_cases h1:i=n
 ·subst h1;rw[if_pos rfl];by_cases h2:k=i
  ·rw[if_pos h2];exact h2
  ·rw[if_neg h2,if_pos rfl]
 ·rw[if_neg h1];by_cases h2:i=k
  ·rw[if_pos h2,if_pos rfl];exact h2.symm
  ·rw[if_neg h2,if_neg h1,if_neg h2]
theorem Kp{rows:List (List Int)}{N:Nat}(hl:rows.length=N)(h:∀i,i<N->bo (rows.getD i default)):∀r∈rows,bo r:=λr hr=>by
 obtain⟨i,hi,e⟩:=mq hr;rw[<-e];exact h i (by omega)
theorem K5{rows:List (List Int)}{n k:Nat}(hn:n<rows.length)(hk:k<rows.length)(v:List Int):Sp (swL rows n k) v↔Sp rows v:=by
 constructor
 ·refine lz λr hr=>?_;obtain⟨i,hi,rfl⟩:=bu.1 hr;exact az (pY hn hk (du.1 hi))
 ·refine lz λr hr=>?_;obtain⟨i,hi,rfl⟩:=mq hr;refine bu.2 ⟨swI n k i,du.2 (pY hn hk hi),?_⟩;rw[As]
theorem L3{rows:List (List Int)}{n c:Nat}(ha:∀i,i<rows.length->bo (rows.getD i default))(hn:n<rows.length)(v:List Int):Sp (elL rows n c) v↔Sp rows v:=by
 have hE:∀i,i<rows.length->bo (elF rows n c i):=λi hi=>by
  unfold elF;split
  ·exact dE (ha i hi) (ha n hn)
  ·exact ha i hi
 have hEa:∀r∈elL rows n c,bo r:=λr hr=>by
  obtain⟨i,hi,rfl⟩:=bu.1 hr;exact hE i (du.1 hi)
 have hRa:=Kp rfl ha;have hin:∀i,i<rows.length->elF rows n c i∈elL rows n c:=λi hi=>bu.2 ⟨i,du.2 hi,rfl⟩
 have hpn:Sp (elL rows n c) (rows.getD n default):=by
  have h:=dC (hin n hn);unfold elF at h
  rwa [if_neg (λq=>q.1 rfl)] at h
 constructor
 ·refine jB hRa λr hr=>?_;obtain⟨i,hi,rfl⟩:=bu.1 hr;have hi:=du.1 hi;unfold elF;split
  ·exact gD hRa (dC (az hi)) (dC (az hn))
  ·exact dC (az hi)
 ·refine jB hEa λr hr=>?_;obtain⟨i,hi,rfl⟩:=mq hr;have h:=dC (hin i hi);unfold elF at h;split at h
  ·have h2:=gD hEa h hpn
   rwa [<-er (ha i hi) (ha n hn) (ha n hn),eD (ha n hn),gA] at h2
  ·exact h
theorem IR{R:List (List Int)}(hR:∀r∈R,bo r)(hv:∀r∈R,∀z∈r,(0:Int)<=z):∀{c:Nat},RdOk R (stR R c).1 (stR R c).2 c
 |0=>⟨λi hi=>hR _ (az hi),rfl,bW _,λ_=>Iff.rfl,λi h=>absurd h (Nat.not_lt_zero _),λi h=>absurd h (Nat.not_lt_zero _),λi j _ h=>absurd h (Nat.not_lt_zero _),λi _ hi z hz=>hv _ (az hi) z hz⟩
 |c+1=>by
  have ih:=IR hR hv (c:=c);unfold stR;generalize e1:(stR R c).1=rows at *;generalize e2:(stR R c).2=n at *;obtain⟨i1,i2,i3,i4,i5,i6,i7,i8⟩:=ih;cases hp:PJ rows n c with
  |none=>
   show RdOk R (stR R c).1 (stR R c).2 (c+1);rw[e1,e2];refine⟨i1,i2,i3,i4,λi hi=>⟨(i5 i hi).1,by have:=(i5 i hi).2;omega⟩,i6,i7,λi h1 h2 z hz=>?_⟩;have h3:=i8 i h1 h2 z hz;have h4:=List.find?_eq_none.1 hp i (du.2 (by omega));have h5:z≠(c:Int):=λe=>h4 (by rw[<-e];simp only[eh,iG];exact⟨h1,hz⟩);omega
  |some k=>
   show RdOk R (elL (swL rows n k) n c) (n+1) (c+1);have k1:=du.1 (List.mem_of_find?_eq_some hp)
   have k2:n<=k/\(c:Int)∈rows.getD k default:=by
    have:=List.find?_some hp;simpa only[eh,iG] using this
   obtain⟨k3,k4⟩:=k2;have hkN:k<R.length:=by omega
   have hnN:n<R.length:=by omega
   have sl:(swL rows n k).length=R.length:=by unfold swL;rw[bt,List.length_range,i2]
   have gs:∀i,i<R.length->(swL rows n k).getD i default=rows.getD (swI n k i) default:=λi hi=>tL (by omega)
   have gp:(swL rows n k).getD n default=rows.getD k default:=by
    rw[gs n hnN];unfold swI;rw[if_pos rfl]
   have ge:∀i,i<R.length->(elL (swL rows n k) n c).getD i default=elF (swL rows n k) n c i:=λi hi=>tL (by omega)
   have gn:(elL (swL rows n k) n c).getD n default=rows.getD k default:=by
    rw[ge n hnN];unfold elF;rw[if_neg (λq=>q.1 rfl),gp]
   have gi:∀i,i<R.length->i≠n->(elL (swL rows n k) n c).getD i default=if (c:Int)∈rows.getD (swI n k i) default then bX (rows.getD (swI n k i) default) (rows.getD k default) else rows.getD (swI n k i) default:=λi hi hn=>by
    rw[ge i hi];unfold elF;rw[gs i hi,gp];by_cases h:(c:Int)∈rows.getD (swI n k i) default
    ·rw[if_pos ⟨hn,h⟩,if_pos h]
    ·rw[if_neg (λq=>h q.2),if_neg h]
   have hpa:=i1 k hkN;have hpl:=i8 k k3 hkN;have hsa:∀i,i<R.length->bo (rows.getD (swI n k i) default):=λi hi=>i1 _ (pY hnN hkN hi);have hld:ld (rows.getD k default)=c:=Int.le_antisymm (pt hpa k4) (hpl _ (dy (λe=>by rw[e] at k4;cases k4)));have hpne:rows.getD k default≠[]:=λe=>by rw[e] at k4;cases k4
   have hsw:∀i,i<n->swI n k i=i:=λi hi=>by unfold swI;rw[if_neg (by omega),if_neg (by omega)]
   have hnp:∀i,i<n->ld (rows.getD i default)∉rows.getD k default:=λi hi h=>by have:=i6 i hi k hkN h;omega
   have hsw2:∀v,Sp (swL rows n k) v↔Sp rows v:=λv=>K5 (by omega) (by omega) v;have hda:∀i,i<(swL rows n k).length->bo ((swL rows n k).getD i default):=λi hi=>by rw[gs i (by omega)];exact hsa i (by omega)
   have hmem:∀j,j<R.length->j≠n->∀z,z∈(elL (swL rows n k) n c).getD j default->z∉rows.getD k default->z∈rows.getD (swI n k j) default:=λj hj hn z hz hzp=>by
    rw[gi j hj hn] at hz;split at hz
    ·rcases(c6 (hsa j hj) hpa).1 hz with q|q
     ·exact q.1
     ·exact absurd q.1 hzp
    ·exact hz
   have hlow:∀j,j<R.length->j≠n->(c:Int)∉(elL (swL rows n k) n c).getD j default:=λj hj hn hz=>by
    rw[gi j hj hn] at hz;split at hz
    ·rename_i h;rcases(c6 (hsa j hj) hpa).1 hz with q|q
     ·exact q.2 k4
     ·exact q.2 h
    ·rename_i h;exact h hz
   have htop:∀i,i<n->ld ((elL (swL rows n k) n c).getD i default)=ld (rows.getD i default)/\(elL (swL rows n k) n c).getD i default≠[]:=λi hi=>by
    obtain⟨t1,t2⟩:=i5 i hi;rw[gi i (by omega) (by omega),hsw i hi];split
    ·have hm:ld (rows.getD i default)∈bX (rows.getD i default) (rows.getD k default):=(c6 (i1 i (by omega)) hpa).2 (.inl ⟨dy t1,hnp i hi⟩);have hne:bX (rows.getD i default) (rows.getD k default)≠[]:=λe=>by rw[e] at hm;cases hm
     refine⟨Int.le_antisymm (pt (dE (i1 i (by omega)) hpa) hm) ?_,hne⟩;rcases(c6 (i1 i (by omega)) hpa).1 (dy hne) with q|q
     ·exact pt (i1 i (by omega)) q.1
     ·have:=hpl _ q.1;omega
    ·exact⟨rfl,t1⟩
   refine⟨λi hi=>?_,?_,by omega,λv=>?_,λi hi=>?_,λi hi j hj h=>?_,λi j hij hj=>?_,λi h1 h2 z hz=>?_⟩
   ·rw[ge i hi];unfold elF;split
    ·exact dE (hda i (by omega)) (hda n (by omega))
    ·exact hda i (by omega)
   ·unfold elL;rw[bt,List.length_range,sl]
   ·rw[L3 hda (by omega),hsw2,i4]
   ·by_cases hin:i=n
    ·subst hin;rw[gn,hld];exact⟨hpne,by omega⟩
    ·obtain⟨t1,t2⟩:=htop i (by omega);rw[t1];have:=(i5 i (by omega)).2;exact⟨t2,by omega⟩
   ·by_cases hin:i=n
    ·subst hin;rw[gn,hld] at h;exact Decidable.byContradiction λhne=>hlow j hj hne h
    ·have hi':i<n:=by omega
     rw[(htop i hi').1] at h;by_cases hjn:j=n
     ·subst hjn;rw[gn] at h;exact absurd h (hnp i hi')
     ·have h3:=i6 i hi' _ (pY hnN hkN hj) (hmem j hj hjn _ h (hnp i hi'));have h4:=congrArg (swI n k) h3;rw[As,hsw i hi'] at h4;exact h4
   ·by_cases hjn:j=n
    ·subst hjn;rw[gn,hld,(htop i hij).1];exact(i5 i hij).2
    ·rw[(htop i (by omega)).1,(htop j (by omega)).1];exact i7 i j hij (by omega)
   ·have hz2:z≠(c:Int):=λe=>hlow i h2 (by omega) (e▸hz);have hs:n<=swI n k i:=by unfold swI;split<;>(try split)<;>omega
    rw[gi i h2 (by omega)] at hz
    have hz3:(c:Int)<=z:=by
     split at hz
     ·rcases(c6 (hsa i h2) hpa).1 hz with q|q
      ·exact i8 _ hs (pY hnN hkN h2) z q.1
      ·exact hpl z q.1
     ·exact i8 _ hs (pY hnN hkN h2) z hz
    omega
def Lc(R:List (List Int))(c:Nat):List (List Int):=(stR R c).1.take (stR R c).2
theorem AI{R:List (List Int)}{c:Nat}(hR:∀r∈R,bo r)(hv:∀r∈R,∀z∈r,0<=z/\z<(c:Int)):Lc R c=ed R c:=by
 have h:=IR hR (λr hr z hz=>(hv r hr z hz).1) (c:=c);obtain⟨e1,e2,_⟩:=gF hR hv;unfold Lc;generalize (stR R c).1=rows at *;generalize (stR R c).2=n at *;obtain⟨i1,i2,i3,i4,i5,i6,i7,i8⟩:=h;have hlt:(rows.take n).length=n:=by rw[fY];omega
 have hg:∀i,i<n->(rows.take n).getD i default=rows.getD i default:=λi hi=>by
  simp[List.getD,iQ,hi]
 have hex:∀r∈rows.take n,∃i,i<n/\rows.getD i default=r:=λr hr=>by
  obtain⟨i,hi,e⟩:=mq hr;exact⟨i,by omega,by rw[<-e,hg i (by omega)]⟩
 have hsub:∀r∈R,∀z∈r,0<=z/\z<(c:Int):=hv
 have hred:Red (rows.take n):=by
  refine⟨λr hr=>?_,λr hr=>?_,λr hr q hq hl=>?_,?_⟩
  ·obtain⟨i,hi,rfl⟩:=hex r hr;exact i1 i (by omega)
  ·obtain⟨i,hi,rfl⟩:=hex r hr;exact(i5 i hi).1
  ·obtain⟨i,hi,rfl⟩:=hex r hr;obtain⟨j,hj,rfl⟩:=hex q hq;rw[i6 i hi j (by omega) hl]
  ·rw[my];intro i j hi hj hij;have h1:=hg i (by omega);have h2:=hg j (by omega);simp only[List.getD,hi,hj,p6,ru] at h1 h2;rw[h1,h2];exact i7 i j hij (by omega)
 refine qu hred e1 λv=>?_;rw[e2,<-i4];constructor
 ·exact lz λr hr=>lr hr
 ·refine jB hred.asc λr hr=>?_;obtain⟨i,hi,e⟩:=mq hr;by_cases hin:i<n
  ·refine dC ?_;rw[<-e,<-hg i hin];exact az (by omega)
  ·have hnil:r=[]:=by
     cases hr0:r with
     |nil=>rfl
     |cons z l=>
      have hz:z∈rows.getD i default:=by rw[e,hr0];exact cW ..
      have h1:=i8 i (by omega) (by omega) z hz;have h2:=gV hR hv ((i4 r).1 (dC hr)) z (by rw[hr0];exact cW ..);omega
   rw[hnil];exact Sp.nil
theorem sc{M:List Ln}{v:List Int}(hM:RedU M)(hv:Sp (M.map Prod.fst) v)(h:∀l∈M,ld l.1∉v):v=[]:=by
 have hn:(M.map Prod.fst).Nodup:=List.pairwise_map.2 (List.Pairwise.imp_of_mem (λ{a b} ha hb hab e=>hab (hM.own b hb a ha (by rw[e];exact dy (hM.ne b hb)))) hM.nodup);obtain⟨av,p,hp⟩:=yD (fc hM) hn hv
 have hpf:∀r∈M.map Prod.fst,¬p r=true:=λr hr hpr=>by
  obtain⟨l,hl,rfl⟩:=bu.1 hr;have h1:=hp (ld l.1)
  rw [uW hn hr (dy (hM.ne l hl)) (fun q hq hz=>by
   obtain⟨m,hm,rfl⟩:=bu.1 hq;rw[hM.own l hl m hm hz]),if_pos hpr] at h1
  exact h l hl (cS.1 (by omega))
 exact tF λz=>by rw[hp z,o0 λq hq hpq=>absurd hpq (hpf q hq)]
def mG(R:List (List Int))(z j:Int):Nat:=bit z (R.getD j.toNat default)
theorem ri{f:Ln->List Int}{z:Int}{p:Ln->Bool}:∀{E:List Ln},(∀l∈E,z∉f l)->ml f z p E=0
 |[],_=>rfl
 |r::E,h=>by
  unfold ml;have hb:bit z (f r)=0:=by unfold bit;rw[if_neg (h r (cW ..))]
  rw[hb,ri λl hl=>h l (dS _ hl)];split<;>rfl
theorem zo{R:List (List Int)}(hR:∀r∈R,bo r){i:Nat}(hi:i<=R.length):∀{w:List Int},(∀j∈w,0<=j/\j<(i:Int))->∃v,Sp (R.take i) v/\∀z,bit z v=cm (mG R z) w%2
 |[],_=>⟨[],Sp.nil,λz=>iE⟩
 |j::w,h=>by
  obtain⟨v,h1,h2⟩:=zo hR hi (w:=w) λk hk=>h k (dS _ hk);have hj:=h j (cW ..);have hT:∀r∈R.take i,bo r:=λr hr=>hR r (lr hr)
  have hm:R.getD j.toNat default∈R.take i:=by
   have hk:j.toNat<(R.take i).length:=by rw[fY];omega
   have:=az hk
   rwa [show(R.take i).getD j.toNat default=R.getD j.toNat default by simp[List.getD,iQ,show j.toNat<i by omega]] at this
  refine⟨_,Sp.add h1 hm,λz=>?_⟩;rw[dh (lw hT h1) (hT _ hm),h2];show _=(bit z (R.getD j.toNat default)+cm (mG R z) w)%2;omega
theorem uC{R:List (List Int)}(hR:∀r∈R,bo r):∀{i:Nat},i<=R.length->∀{y:List Int},bo y->(∀j∈y,0<=j/\j<(i:Int))->(∀z,cm (mG R z) y%2=0)->Sp (stE R i).2 y
 |0,_,y,_,hr,_=>by
  cases y with
  |nil=>exact Sp.nil
  |cons j l=>have:=hr j (cW ..);omega
 |i+1,hi,y,hy,hr,h0=>by
  have ih:=λ{y}=>uC hR (i:=i) (by omega) (y:=y);have hs:=fJ hR (i:=i) (by omega);have hx:cT (R.getD i default,[(i:Int)]):=⟨hR _ (az (by omega)),List.pairwise_singleton ..⟩
  have hya:cT (ew (stE R i).1 (R.getD i default,[(i:Int)])):=ji hs.red.asc hx;have hyn:=λl hl=>lM hs.red hx (l:=l) hl;have hysp:Sp ((stE R i).1.map Prod.fst) (bX (R.getD i default) (ew (stE R i).1 (R.getD i default,[(i:Int)])).1):=v9 (fc hs.red) (λl hl=>⟨hs.red.asc l hl,bu.2 ⟨l,hl,rfl⟩⟩) hx
  have hxo:nk R (i + 1) (R.getD i default,[(i:Int)]):=⟨fun z=>by
   have:=ia (z:=z) (a:=R.getD i default);show bit z (R.getD i default)=(bit z (R.getD ((i:Nat):Int).toNat default)+0)%2;rw[cC];omega,λj hj=>by rw[bT.1 hj];omega⟩
  have hyo:nk R (i+1) (ew (stE R i).1 (R.getD i default,[(i:Int)])):=tW (λl hl=>⟨hs.red.asc l hl,(hs.ok l hl).mono (by omega)⟩) hx hxo
  have hbi:bit (i:Int) (ew (stE R i).1 (R.getD i default,[(i:Int)])).2=1:=by
   unfold ew;rw[lH hs.red.asc hx,ri λl hl h=>by have:=(hs.ok l hl).2 _ h;omega];show(bit (i:Int) [(i:Int)]+0)%2=1;rw[cS.2 (bT.2 rfl)]
  have ha:∀r∈(stE R i).2,bo r:=λr hr=>(hs.dep r hr).1.2;by_cases hiy:(i:Int)∈y
  ·have hone:bo [(i:Int)]:=List.pairwise_singleton ..;by_cases hd:(ew (stE R i).1 (R.getD i default,[(i:Int)])).1=[]
   ·have hst:(stE R (i+1)).2=(stE R i).2++[(ew (stE R i).1 (R.getD i default,[(i:Int)])).2]:=by
      show(if _ then _ else _:List Ln×List (List Int)).2=_;rw[if_pos hd]
    rw[hst];obtain⟨hy1,hy2⟩:=hyo;rw[hd] at hy1;have hxa:=hya.2;generalize (ew (stE R i).1 (R.getD i default,[(i:Int)])).2=x at *
    have h1:Sp (stE R i).2 (bX y x):=ih (dE hy hxa) (fun j hj=>by
     have hne:j≠(i:Int):=λe=>by
      rw[e] at hj;have hb:=cS.2 hj;rw[dh hy hxa,hbi,cS.2 hiy] at hb;cases hb
     rcases(c6 hy hxa).1 hj with q|q
     ·have:=hr j q.1;omega
     ·have:=hy2 j q.1;omega) (λz=>by
     rw[fV _ _ _ (aJ _)];have e1:=h0 z;have e2:bit z []=cm (mG R z) x%2:=hy1 z;rw[iE] at e2;omega)
    have hm:x∈(stE R i).2++[x]:=mh _ (bT.2 rfl);have h2:=Sp.add (lz (λr hr=>nj [x] hr) h1) hm
    rwa [<-er hy hxa hxa,eD hxa,gA] at h2
   ·exfalso;refine hd (sc hs.red ?_ hyn)
    have hw:∀j∈bX y [(i:Int)],0<=j/\j<(i:Int):=λj hj=>by
     rcases(c6 hy hone).1 hj with q|q
     ·have h1:=hr j q.1;have h2:j≠(i:Int):=λe=>q.2 (bT.2 e);omega
     ·exact absurd (bT.1 q.1▸hiy) q.2
    obtain⟨v,v1,v2⟩:=zo hR (i:=i) (by omega) hw;have hT:∀r∈R.take i,bo r:=λr hr=>hR r (lr hr)
    have hv:v=R.getD i default:=gu (lw hT v1) hx.1 λz=>by
     rw[v2,fV _ _ _ (aJ _)];have e1:=h0 z;have e2:=ia (z:=z) (a:=R.getD i default);show(cm (mG R z) y+(bit z (R.getD ((i:Nat):Int).toNat default)+0))%2=_;rw[cC];omega
    rw[hv] at v1;have h3:=jB (fc hs.red) hs.all v1;have h4:=gD (fc hs.red) h3 hysp
    rwa [er hx.1 hx.1 hya.1,eD hx.1,jK] at h4
  ·refine lz (fun r hr=>?_) (ih hy (fun j hj=>by
     have h1:=hr j hj;have h2:j≠(i:Int):=λe=>hiy (e▸hj);omega) h0)
   show r∈(if _ then _ else _:List Ln×List (List Int)).2;split
   ·exact nj _ hr
   ·exact hr
def pd(b y:List Int):Bool:=decide (cm (λj=>bit j b) y%2=1)
def wdR(R:List (List Int))(c:Nat)(b:List Int)(i:Nat):List Int:=if (i:Int)∈b then R.getD i default++[(c:Int)] else R.getD i default
def na(R:List (List Int))(c:Nat)(b:List Int):List (List Int):=(List.range R.length).map (wdR R c b)
def wdL(c:Nat)(b:List Int)(l:Ln):List Int:=if pd b l.2=true then l.1++[(c:Int)] else l.1
theorem DQ{a:List Int}{c:Nat}{t:Bool}(hc:∀z∈a,z<(c:Int))(z:Int):bit z (if t=true then a++[(c:Int)] else a)=if z=c then(if t=true then 1 else 0) else bit z a:=by
 unfold bit;by_cases hz:z=c
 ·have:z∉a:=λh=>by have:=hc z h;omega
  cases t<;>simp[hz,this]
  ·exact λh=>by have:=hc _ h;omega
 ·cases t<;>simp[hz]
theorem DN{a:List Int}{c:Nat}{t:Bool}(ha:bo a)(hc:∀z∈a,z<(c:Int)):bo (if t=true then a++[(c:Int)] else a):=by
 cases t
 ·simpa using ha
 ·rw[if_pos rfl];exact List.pairwise_append.2 ⟨ha,List.pairwise_singleton ..,λx hx y hy=>by rw[bT.1 hy];exact hc x hx⟩
theorem fi{g h:Int->Nat}:∀{l:List Int},(∀x∈l,g x=h x)->cm g l=cm h l
 |[],_=>rfl
 |x::l,e=>by
  unfold cm;rw[e x (cW ..),fi λy hy=>e y (dS _ hy)]
theorem q8{g:Int->Nat}{D:List (List Int)}{y:List Int}(h:Sp D y)(h0:∀d∈D,cm g d%2=0):cm g y%2=0:=by
 induction h with
 |nil=>rfl
 |add h1 h2 ih=>rw[fV _ _ _ (aJ _)];have:=h0 _ h2;omega
theorem BS{g:Int->Nat}{p:Ln->Bool}:∀{M:List Ln}{x:Ln},cm g (rdL M p x).2%2=(cm g x.2+(M.map λl=>if p l=true then cm g l.2%2 else 0).sum)%2
 |[],x=>by show cm g x.2%2=(cm g x.2+0)%2;rfl
 |l::M,x=>by
  have ih:=BS (g:=g) (p:=p) (M:=M) (x:=if p l=true then eH x l else x);show cm g (rdL M p (if p l=true then eH x l else x)).2%2=(cm g x.2+((if p l=true then cm g l.2%2 else 0)+(M.map λl=>if p l=true then cm g l.2%2 else 0).sum))%2;rw[ih];clear ih;by_cases h:p l=true
  ·rw[if_pos h,if_pos h];have:=fV (g:=g) _ x.2 l.2 (aJ _);show(cm g (bX x.2 l.2)+_)%2=_;omega
  ·rw[if_neg h,if_neg h];omega
theorem D4{f:Ln->List Int}{p:Ln->Bool}{S:List (List Int)}(hS:∀r∈S,bo r):∀{E:List Ln},(∀l∈E,f l∈S)->∃v,Sp S v/\∀z,bit z v=(E.map λl=>if p l=true then bit z (f l) else 0).sum%2
 |[],_=>⟨[],Sp.nil,λz=>iE⟩
 |l::E,h=>by
  obtain⟨v,v1,v2⟩:=D4 (f:=f) (p:=p) hS (E:=E) λm hm=>h m (dS _ hm);have hl:=h l (cW ..);by_cases hp:p l=true
  ·refine⟨_,Sp.add v1 hl,λz=>?_⟩;rw[dh (lw hS v1) (hS _ hl),v2];show _=((if p l=true then bit z (f l) else 0)+(E.map λl=>if p l=true then bit z (f l) else 0).sum)%2;rw[if_pos hp];omega
  ·refine⟨v,v1,λz=>?_⟩;rw[v2];show _=((if p l=true then bit z (f l) else 0)+(E.map λl=>if p l=true then bit z (f l) else 0).sum)%2;rw[if_neg hp,cE]
theorem Am{f:Ln->List Int}{z:Int}{p:Ln->Bool}:∀{E:List Ln},(E.map λl=>if p l=true then bit z (f l) else 0).sum=ml f z p E
 |[]=>rfl
 |l::E=>by
  show(if p l=true then bit z (f l) else 0)+(E.map λl=>if p l=true then bit z (f l) else 0).sum=_;rw[Am];rfl
theorem Bs{R:List (List Int)}{c:Nat}{b:List Int}{i:Nat}(h:i<R.length):(na R c b).getD i default=wdR R c b i:=tL h
theorem pH{R:List (List Int)}{c:Nat}{b:List Int}(hR:∀r∈R,bo r)(hv:∀r∈R,∀z∈r,0<=z/\z<(c:Int)):
    (∀r∈na R c b,bo r)/\(∀r∈na R c b,∀z∈r,0<=z/\z<((c+1:Nat):Int))/\∀i,i<R.length->∀z,bit z ((na R c b).getD i default)=if z=c then bit (i:Int) b else bit z (R.getD i default):=by
 have hw:∀i,wdR R c b i=if decide ((i:Int)∈b)=true then R.getD i default++[(c:Int)] else R.getD i default:=λi=>by
  unfold wdR;by_cases h:(i:Int)∈b<;>simp[h]
 refine⟨λr hr=>?_,λr hr z hz=>?_,λi hi z=>?_⟩
 ·obtain⟨i,hi,rfl⟩:=bu.1 hr;have hi:=du.1 hi;rw[hw];exact DN (hR _ (az hi)) λz hz=>(hv _ (az hi) z hz).2
 ·obtain⟨i,hi,rfl⟩:=bu.1 hr;have hi:=du.1 hi;have hvi:=hv _ (az hi);unfold wdR at hz;split at hz
  ·rcases dZ.1 hz with h|h
   ·have:=hvi z h;omega
   ·rw[bT.1 h];omega
  ·have:=hvi z hz;omega
 ·rw[Bs hi,hw,DQ (λz hz=>(hv _ (az hi) z hz).2)];by_cases h:z=c
  ·rw[if_pos h,if_pos h];by_cases hb:(i:Int)∈b<;>simp[hb,bit]
  ·rw[if_neg h,if_neg h]
theorem F0{R:List (List Int)}{c:Nat}{b:List Int}(hR:∀r∈R,bo r)(hv:∀r∈R,∀z∈r,0<=z/\z<(c:Int)){y:List Int}(hy:∀j∈y,0<=j/\j<(R.length:Int))(z:Int):
    cm (mG (na R c b) z) y=if z=c then cm (λj=>bit j b) y else cm (mG R z) y:=by
 obtain⟨_,_,h3⟩:=pH (b:=b) hR hv;by_cases h:z=c
 ·rw[if_pos h];refine fi λj hj=>?_;have:=hy j hj;unfold mG;rw[h3 j.toNat (by omega),if_pos h,show((j.toNat:Nat):Int)=j by omega]
 ·rw[if_neg h];refine fi λj hj=>?_;have:=hy j hj;unfold mG;rw[h3 j.toNat (by omega),if_neg h]
theorem Fk{R:List (List Int)}{c:Nat}{b:List Int}(hR:∀r∈R,bo r)(hv:∀r∈R,∀z∈r,0<=z/\z<(c:Int))(h0:∀y∈(stE R R.length).2,pd b y=false):Lc (na R c b) (c+1)=(lZ R c).map (wdL c b):=by
 obtain⟨h1,h2,h3⟩:=pH (b:=b) hR hv;have hs:=fJ hR (aJ R.length);obtain⟨e1,e2,_⟩:=gF h1 h2;obtain⟨d1,d2,d3⟩:=gF hR hv;rw[AI h1 h2];have hl:(na R c b).length=R.length:=by unfold na;simp
 have hlv:∀l∈(stE R R.length).1,∀z∈l.1,0<=z/\z<(c:Int):=λl hl=>gV hR hv (lz (λr hr=>lr hr) (hs.inS l hl))
 have hbw:∀l∈(stE R R.length).1,∀z,bit z (wdL c b l)=if z=c then cm (λj=>bit j b) l.2%2 else bit z l.1:=λl hl z=>by
  unfold wdL;rw[DQ λz hz=>(hlv l hl z hz).2];by_cases h:z=c
  ·rw[if_pos h,if_pos h];unfold pd;by_cases ho:cm (λj=>bit j b) l.2%2=1
   ·simp[ho]
   ·simp[ho];omega
  ·rw[if_neg h,if_neg h]
 have hwa:∀l∈(stE R R.length).1,bo (wdL c b l):=λl hl=>DN (hs.red.asc l hl).1 λz hz=>(hlv l hl z hz).2
 have hldw:∀l∈(stE R R.length).1,ld (wdL c b l)=ld l.1:=λl hl=>by
  have hne:=hs.red.ne l hl;unfold wdL;split
  ·cases hq:l.1 with
   |nil=>exact absurd hq hne
   |cons x t=>rfl
  ·rfl
 have hF:Red ((lZ R c).map (wdL c b)):=by
  refine⟨λr hr=>?_,λr hr=>?_,λr hr q hq h=>?_,?_⟩
  ·obtain⟨l,hl,rfl⟩:=bu.1 hr;exact hwa l ((d3 l).1 hl)
  ·obtain⟨l,hl,rfl⟩:=bu.1 hr;have hne:=hs.red.ne l ((d3 l).1 hl);unfold wdL;split
   ·simp
   ·exact hne
  ·obtain⟨l,hl,rfl⟩:=bu.1 hr;obtain⟨m,hm,rfl⟩:=bu.1 hq;have hl:=(d3 l).1 hl;have hm:=(d3 m).1 hm;rw[hldw l hl] at h;have h4:=cS.2 h;have h5:=hlv l hl _ (dy (hs.red.ne l hl));rw[hbw m hm,if_neg (by omega)] at h4;rw[hs.red.own l hl m hm (cS.1 h4)]
  ·rw[List.pairwise_map];refine List.Pairwise.imp_of_mem (λ{x y} hx hy h=>?_) (nB hs.red (c:=c));rw[hldw x ((d3 x).1 hx),hldw y ((d3 y).1 hy)];exact h
 refine qu e1 hF λv=>?_;rw[e2];have hTk:∀r∈(na R c b).take R.length,bo r:=λr hr=>h1 r (lr hr);constructor
 ·refine jB hF.asc λr hr=>?_;obtain⟨i,hi,e⟩:=mq hr;have hiR:i<R.length:=by omega
  have hx:cT (R.getD i default,[(i:Int)]):=⟨hR _ (az hiR),List.pairwise_singleton ..⟩
  have hxo:nk R R.length (R.getD i default,[(i:Int)]):=⟨fun z=>by
   have:=ia (z:=z) (a:=R.getD i default);show bit z (R.getD i default)=(bit z (R.getD ((i:Nat):Int).toNat default)+0)%2;rw[cC];omega,λj hj=>by rw[bT.1 hj];omega⟩
  have hya:=ji (p:=fI (R.getD i default,[(i:Int)])) hs.red.asc hx;have hyo:=tW (p:=fI (R.getD i default,[(i:Int)])) (λl hl=>⟨hs.red.asc l hl,hs.ok l hl⟩) hx hxo;have hysp:=v9 (p:=fI (R.getD i default,[(i:Int)])) (fc hs.red) (λl hl=>⟨hs.red.asc l hl,bu.2 ⟨l,hl,rfl⟩⟩) hx;have hyn:=λl hl=>lM hs.red hx (l:=l) hl;have hb1:=λz=>lR (p:=fI (R.getD i default,[(i:Int)])) (z:=z) hs.red.asc hx;have hg:=BS (g:=λj=>bit j b) (p:=fI (R.getD i default,[(i:Int)])) (M:=(stE R R.length).1) (x:=(R.getD i default,[(i:Int)]));unfold ew at hyn;generalize hpp:fI (R.getD i default,[(i:Int)])=p at *;have hRi:Sp ((stE R R.length).1.map Prod.fst) (R.getD i default):=hs.all _ (by rw[List.take_length];exact az hiR)
  have hnil:(rdL (stE R R.length).1 p (R.getD i default,[(i:Int)])).1=[]:=by
   refine sc hs.red ?_ hyn;have h4:=gD (fc hs.red) hRi hysp
   rwa [er hx.1 hx.1 hya.1,eD hx.1,jK] at h4
  obtain⟨q1,q2⟩:=hyo;rw[hnil] at q1
  have hdep:=uC hR (aJ R.length) hya.2 q2 λz=>by
   have:=q1 z;rw[iE] at this;exact this.symm
  have hev:=q8 (g:=λj=>bit j b) hdep λd hd=>by
   have:=h0 d hd;unfold pd at this;have:=of_decide_eq_false this;omega
  obtain⟨u,u1,u2⟩:=D4 (f:=wdL c b) (p:=p) hF.asc (E:=(stE R R.length).1) λl hl=>bu.2 ⟨l,(d3 l).2 hl,rfl⟩
  have hur:u=r:=by
   refine gu (lw hF.asc u1) (h1 r hr) λz=>?_;rw[<-e,h3 i hiR,u2];by_cases h:z=c
   ·rw[if_pos h,h]
    have hm:((stE R R.length).1.map λl=>if p l=true then bit (c:Int) (wdL c b l) else 0)=(stE R R.length).1.map λl=>if p l=true then cm (λj=>bit j b) l.2%2 else 0:=
     wJ λl hl=>by rw[hbw l hl,if_pos rfl]
    rw[hm];rw[hev] at hg;have hone:cm (λj=>bit j b) [(i:Int)]=bit (i:Int) b+0:=rfl;have hlt:=ia (z:=(i:Int)) (a:=b);change 0=(cm (λj=>bit j b) [(i:Int)]+_)%2 at hg;rw[hone] at hg;omega
   ·rw[if_neg h]
    have hm:((stE R R.length).1.map λl=>if p l=true then bit z (wdL c b l) else 0)=(stE R R.length).1.map λl=>if p l=true then bit z l.1 else 0:=
     wJ λl hl=>by rw[hbw l hl,if_neg h]
    rw[hm,Am (f:=Prod.fst)];have h5:=hb1 z;rw[hnil,iE] at h5;have hlt:=ia (z:=z) (a:=R.getD i default);change 0=(bit z (R.getD i default)+_)%2 at h5;omega
  rw[<-hur];exact u1
 ·refine jB h1 λr hr=>?_;obtain⟨l,hl,rfl⟩:=bu.1 hr;have hl:=(d3 l).1 hl;obtain⟨k1,k2⟩:=hs.ok l hl;obtain⟨v,v1,v2⟩:=zo h1 (i:=R.length) (by omega) k2
  have:v=wdL c b l:=gu (lw hTk v1) (hwa l hl) λz=>by
   rw[v2,F0 hR hv k2,hbw l hl];by_cases h:z=c
   ·rw[if_pos h,if_pos h]
   ·rw[if_neg h,if_neg h];exact(k1 z).symm
  rw[<-this];exact lz (λr hr=>lr hr) v1
section
variable{α:Type}{K:α->α->Int}
def yl(K:α->α->Int):Nat->List α->List α->List α
 |0,_,_=>[]
 |_+1,[],b=>b
 |_+1,x::a,[]=>x::a
 |n+1,x::a,y::b=>if K x y<0 then x::yl K n a (y::b) else if K y x<0 then y::yl K n (x::a) b else yl K n a b
def ni(K:α->α->Int)(a b:List α):List α:=yl K (a.length+b.length+1) a b
theorem oW:∀(n m:Nat)(a b:List α),a.length+b.length<n->a.length+b.length<m->yl K n a b=yl K m a b
 |0,_,_,_,h,_=>absurd h (by omega)
 |_+1,0,_,_,_,h=>absurd h (by omega)
 |_+1,_+1,[],b,_,_=>rfl
 |_+1,_+1,x::a,[],_,_=>rfl
 |n+1,m+1,x::a,y::b,h1,h2=>by
  simp only[bL] at h1 h2;simp only[yl];rw[oW n m a (y::b) (by simp only[bL];omega) (by simp only[bL];omega),oW n m (x::a) b (by simp only[bL];omega) (by simp only[bL];omega),oW n m a b (by omega) (by omega)]
theorem G7{b:List α}:ni K [] b=b:=rfl
theorem HF{a:List α}:ni K a []=a:=by cases a<;>rfl
theorem Jb{x y:α}{a b:List α}:ni K (x::a) (y::b)=if K x y<0 then x::ni K a (y::b) else if K y x<0 then y::ni K (x::a) b else ni K a b:=by
 show yl K (a.length+1+(b.length+1)+1) (x::a) (y::b)=_;simp only[yl];unfold ni;rw[oW (a.length+1+(b.length+1)) (a.length+(y::b).length+1) a (y::b) (by simp only[bL];omega) (by simp only[bL];omega),oW (a.length+1+(b.length+1)) ((x::a).length+b.length+1) (x::a) b (by simp only[bL];omega) (by simp only[bL];omega),oW (a.length+1+(b.length+1)) (a.length+b.length+1) a b (by omega) (by omega)]
theorem qc:∀(n:Nat)(a b:List α),a.length+b.length<=n->(ni K a b).length<=a.length+b.length
 |_,[],b,_=>by rw[G7];simp
 |_,x::a,[],_=>by rw[HF];simp
 |0,x::a,y::b,h=>by simp only[bL] at h;omega
 |n+1,x::a,y::b,h=>by
  simp only[bL] at h |-;rw[Jb];have h1:=qc n a (y::b) (by simp only[bL];omega);have h2:=qc n (x::a) b (by simp only[bL];omega);have h3:=qc n a b (by omega);simp only[bL] at h1 h2;split
  ·simp only[bL];omega
  split
  ·simp only[bL];omega
  ·omega
theorem nZ(hK:LinK K):∀(n:Nat)(a b:List α),a.length+b.length<=n->bM K a->bM K b->bM K (ni K a b)/\∀z,z∈ni K a b↔(z∈a/\z∉b)\/(z∈b/\z∉a)
 |_,[],b,_,_,hb=>by rw[G7];exact⟨hb,λz=>by simp⟩
 |_,x::a,[],_,ha,_=>by rw[HF];exact⟨ha,λz=>by simp⟩
 |0,x::a,y::b,h,_,_=>by simp only[bL] at h;omega
 |n+1,x::a,y::b,h,ha,hb=>by
  simp only[bL] at h;obtain⟨a1,a2⟩:=iz.1 ha;obtain⟨b1,b2⟩:=iz.1 hb;have irr:=λv=>hK.ord.irr v;rw[Jb];by_cases g1:K x y<0
  ·rw[if_pos g1];obtain⟨h1,h2⟩:=nZ hK n a (y::b) (by simp only[bL];omega) a2 hb
   have hxb:∀z∈y::b,K x z<0:=λz hz=>by
    rcases cU.1 hz with rfl|hz
    ·exact g1
    ·exact hK.trans g1 (b1 z hz)
   refine⟨iz.2 ⟨λz hz=>?_,h1⟩,λz=>?_⟩
   ·rcases(h2 z).1 hz with⟨q,_⟩|⟨q,_⟩
    ·exact a1 z q
    ·exact hxb z q
   ·rw[cU,h2,cU (a:=z) (b:=x)];by_cases hz:z=x
    ·subst hz;have:z∉y::b:=λq=>irr _ (hxb z q);simp[this]
    ·simp[hz]
  rw[if_neg g1];by_cases g2:K y x<0
  ·rw[if_pos g2];obtain⟨h1,h2⟩:=nZ hK n (x::a) b (by simp only[bL];omega) ha b2
   have hya:∀z∈x::a,K y z<0:=λz hz=>by
    rcases cU.1 hz with rfl|hz
    ·exact g2
    ·exact hK.trans g2 (a1 z hz)
   refine⟨iz.2 ⟨λz hz=>?_,h1⟩,λz=>?_⟩
   ·rcases(h2 z).1 hz with⟨q,_⟩|⟨q,_⟩
    ·exact hya z q
    ·exact b1 z q
   ·rw[cU,h2,cU (a:=z) (b:=y)];by_cases hz:z=y
    ·subst hz;have:z∉x::a:=λq=>irr _ (hya z q);simp[this]
    ·simp[hz]
  rw[if_neg g2]
  obtain rfl:x=y:=by
   rcases hK.tri x y with q|q|q
   ·exact absurd q g1
   ·exact q
   ·exact absurd q g2
  obtain⟨h1,h2⟩:=nZ hK n a b (by omega) a2 b2;refine⟨h1,λz=>?_⟩;rw[h2];by_cases hz:z=x
  ·subst hz;have q1:z∉a:=λq=>irr _ (a1 z q);have q2:z∉b:=λq=>irr _ (b1 z q);simp[q1,q2]
  ·simp[hz]
theorem JH(hK:LinK K){a b:List α}(ha:bM K a)(hb:bM K b):bM K (ni K a b):=(nZ hK _ a b (aJ _) ha hb).1
theorem Jq(hK:LinK K){a b:List α}(ha:bM K a)(hb:bM K b){z:α}:z∈ni K a b↔(z∈a/\z∉b)\/(z∈b/\z∉a):=(nZ hK _ a b (aJ _) ha hb).2 z
theorem Ju{a b:List α}:(ni K a b).length<=a.length+b.length:=qc _ a b (aJ _)
end
def bF(s:Spx):List Spx:=if s.length<2 then [] else dw s (s.length-1)
def u0(a:List Spx)(o:List Spx):List Spx:=a.foldl (λo s=>ni bK o (bF s)) o
def dA(a:List Spx):List Spx:=u0 a []
theorem vO{s:Spx}(h:bM cl s):bM bK (bF s):=by
 unfold bF;split
 ·exact bM.nil
 ·exact nV h
theorem en{s f:Spx}:f∈bF s↔2<=s.length/\f.Sublist s/\f.length=s.length-1:=by
 unfold bF;split
 ·exact⟨λh=>(by cases h),λh=>absurd h.1 (by omega)⟩
 ·rw[fe];exact⟨λh=>⟨by omega,h⟩,λh=>h.2⟩
def pP(a:List Spx)(f:Spx):Nat:=(a.map λs=>(bF s).count f).sum
theorem xz{s:Spx}{a:List Spx}{f:Spx}:pP (s::a) f=(bF s).count f+pP a f:=by unfold pP;rw[ff,List.sum_cons]
theorem Fa{L:List Spx}(h:bM bK L)(f:Spx):L.count f%2=1↔f∈L:=by
 by_cases hf:f∈L
 ·have h1:=List.count_pos_iff.2 hf;have h2:=List.nodup_iff_count.1 (h.nodup jc) f;exact⟨λ_=>hf,λ_=>by omega⟩
 ·rw[Kd hf];exact⟨λh=>absurd h (by decide),λh=>absurd h hf⟩
theorem uD:∀(a o:List Spx)(c:Spx->Nat),(∀s∈a,bM cl s)->bM bK o->(∀f,f∈o↔c f%2=1)->bM bK (u0 a o)/\∀f,f∈u0 a o↔(c f+pP a f)%2=1
 |[],o,c,_,ho,hc=>⟨ho,λf=>by show f∈o↔_;rw[hc];rfl⟩
 |s::a,o,c,hs,ho,hc=>by
  have hf:=vO (hs s cW)
  obtain⟨h1,h2⟩:=uD a (ni bK o (bF s)) (λf=>c f+(bF s).count f) (λt ht=>hs t (dS _ ht)) (JH jc ho hf) λf=>by
   rw[Jq jc ho hf,hc,<-Fa hf f];omega
  refine⟨h1,λf=>?_⟩;show f∈u0 a (ni bK o (bF s))↔_;rw[h2,xz,ra]
theorem mj{a:List Spx}(hs:∀s∈a,bM cl s):bM bK (dA a)/\∀f,f∈dA a↔pP a f%2=1:=by
 obtain⟨h1,h2⟩:=uD a [] (λ_=>0) hs bM.nil λf=>⟨λh=>(by cases h),λh=>absurd h (by decide)⟩
 exact⟨h1,λf=>by rw[show dA a=u0 a [] from rfl,h2,cE]⟩
theorem F4{a:List Spx}(hs:∀s∈a,bM cl s):bM bK (dA a):=(mj hs).1
theorem C8{a:List Spx}(hs:∀s∈a,bM cl s){f:Spx}(hf:f∈dA a):∃s∈a,f∈bF s:=by
 have h:=((mj hs).2 f).1 hf;have hp:0<pP a f:=by omega
 clear h hf hs
 induction a with
 |nil=>exact absurd hp (Nat.lt_irrefl 0)
 |cons s a ih=>
  rw[xz] at hp;by_cases h:0<(bF s).count f
  ·exact⟨s,cW,List.count_pos_iff.1 h⟩
  ·obtain⟨t,h1,h2⟩:=ih (by omega);exact⟨t,dS _ h1,h2⟩
theorem wW:∀(a o:List Spx),(∀s∈a,s.length<=8)->(u0 a o).length<=o.length+a.length*70
 |[],o,_=>Nat.le_add_right _ _
 |s::a,o,h=>by
  have h1:=wW a (ni bK o (bF s)) λt ht=>h t (dS _ ht);have h2:=Ju (K:=bK) (a:=o) (b:=bF s)
  have h3:(bF s).length<=70:=by
   unfold bF;split
   ·exact bW _
   ·exact yv (h s cW)
  show(u0 a (ni bK o (bF s))).length<=_;rw[bL];omega
theorem yc{a:List Spx}(h:∀s∈a,s.length<=8):(dA a).length<=a.length*70:=by
 have:=wW a [] h;rw[eW,cE] at this;exact this
def fc0:Spx->List Spx
 |[]=>[]
 |x::s=>s::(fc0 s).map (x:: ·)
theorem x7:∀{s:Spx},dw s s.length=[s]
 |[]=>rfl
 |x::s=>by rw[bL,ki,x7,vE (by omega)];rfl
theorem qF:∀{s:Spx},s≠[]->(dw s (s.length-1)).Perm (fc0 s)
 |[],h=>absurd rfl h
 |[x],_=>by show(dw [x] 0).Perm _;rw[rO];exact List.Perm.refl _
 |x::y::s,_=>by
  show(dw (x::y::s) (s.length+1)).Perm _;rw[ki,show s.length+1=(y::s).length from rfl,x7];have ih:=qF (s:=y::s) (by simp);show((dw (y::s) s.length).map (x:: ·)++[y::s]).Perm ((y::s)::(fc0 (y::s)).map (x:: ·));exact List.perm_append_comm.trans ((ih.map (x:: ·)).cons _)
theorem FL{s g:Spx}(h:s≠[]):(dw s (s.length-1)).count g=(fc0 s).count g:=(qF h).count_eq g
theorem D5{α:Type}{f g:α->Nat}:∀{l:List α},(l.map λx=>f x+g x).sum=(l.map f).sum+(l.map g).sum
 |[]=>rfl
 |x::l=>by simp only[ff,List.sum_cons];rw[D5];omega
theorem og{x:Vtx}{g:Spx}:∀{L:List Spx},(L.map (x:: ·)).count (x::g)=L.count g
 |[]=>rfl
 |f::L=>by
  rw[ff,List.count_cons,List.count_cons,og]
  congr 1
  by_cases h:f=g
  ·subst h;simp
  ·simp[h]
theorem EC{g:Spx}:∀{L:List Spx},(L.map λf=>if f=g then 1 else 0).sum=L.count g
 |[]=>rfl
 |f::L=>by
  rw[ff,List.sum_cons,EC,List.count_cons,Nat.add_comm]
  congr 1
  by_cases h:f=g
  ·subst h;simp
  ·simp[h]
theorem dd0:∀(s g:Spx),((fc0 s).map λf=>(fc0 f).count g).sum%2=0
 |[],_=>rfl
 |x::s,g=>by
  show(((s::(fc0 s).map (x:: ·)).map λf=>(fc0 f).count g).sum)%2=0;rw[ff,List.sum_cons,List.map_map]
  have e:((λf=>(fc0 f).count g) ∘ (x:: ·):Spx->Nat)=λf=>(if f=g then 1 else 0)+((fc0 f).map (x:: ·)).count g:=by
   funext f
   show(f::(fc0 f).map (x:: ·)).count g=_;rw[List.count_cons,Nat.add_comm]
   congr 1
   by_cases h:f=g
   ·subst h;simp
   ·simp[h]
  rw[e,D5,EC]
  match g with
  |[]=>
   have:∀L:List Spx,(L.map λf=>((fc0 f).map (x:: ·)).count ([]:Spx)).sum=0:=λL=>by
    induction L with
    |nil=>rfl
    |cons f L ih=>
     rw[ff,List.sum_cons,ih,Kd (by simp)]
   rw[this];omega
  |y::g'=>
   by_cases h:x=y
   ·subst h;have h1:(λf:Spx=>((fc0 f).map (x:: ·)).count (x::g'))=λf=>(fc0 f).count g':=by funext f;exact og
    rw[h1];have:=dd0 s g';omega
   ·have:∀L:List Spx,(L.map λf=>((fc0 f).map (x:: ·)).count (y::g')).sum=0:=λL=>by
      induction L with
      |nil=>rfl
      |cons f L ih=>
       rw[ff,List.sum_cons,ih,Kd (by simp[h])]
    rw[this];omega
theorem dd1(s g:Spx):((bF s).map λf=>(bF f).count g).sum%2=0:=by
 by_cases h:s.length<=2
 ·have:∀f∈bF s,(bF f).count g=0:=λf hf=>by
    obtain⟨_,_,h3⟩:=en.1 hf;unfold bF;rw[if_pos (by omega)];rfl
  have h2:∀L:List Spx,(∀f∈L,(bF f).count g=0)->(L.map λf=>(bF f).count g).sum=0:=λL hL=>by
   induction L with
   |nil=>rfl
   |cons f L ih=>
    rw[ff,List.sum_cons,ih λt ht=>hL t (dS _ ht),hL f cW]
  rw[h2 _ this]
 ·have h1:(bF s).map (λf=>(bF f).count g)=(dw s (s.length-1)).map λf=>(fc0 f).count g:=by
    rw[show bF s=dw s (s.length-1) by unfold bF;rw[if_neg (by omega)]];refine wJ λf hf=>?_;have hl:=(fe.1 hf).2;have hne:f≠[]:=λe=>by rw[e] at hl;simp at hl;omega
    rw[<-FL hne];unfold bF;rw[if_neg (by omega)]
  rw[h1,((qF (s:=s) (λe=>by rw[e] at h;simp at h)).map _).sum_nat];exact dd0 s g
def Jj(a:List Spx)(k:Nat):Int:=if ce (a.getD k default)≠0 then ce (a.getD k default) else if (a.getD k default).length≠(a.getD 0 default).length then 15 else if 0<k/\0<=bK (a.getD (k-1) default) (a.getD k default) then 14 else 0
def ll(a:List Spx):Int:=if 4096<a.length then 5 else d9 (Jj a) a.length
theorem pW{a:List Spx}(h:ll a=0):a.length<=4096/\(∀s∈a,ce s=0)/\bM bK a/\∀s∈a,s.length=(a.getD 0 default).length:=by
 unfold ll at h;split at h
 ·exact absurd h (by decide)
 rename_i hl;have h0:=kj h
 have hk:∀k,k<a.length->ce (a.getD k default)=0/\(a.getD k default).length=(a.getD 0 default).length/\(0<k->bK (a.getD (k-1) default) (a.getD k default)<0):=λk hk=>by
  have q:=h0 k hk;unfold Jj at q;split at q
  ·exact absurd q ‹_›
  split at q
  ·exact absurd q (by decide)
  split at q
  ·exact absurd q (by decide)
  ·rename_i q1 q2 q3;exact⟨tt q1,tt q2,λh0=>by omega⟩
 have hm:∀s∈a,∃k,k<a.length/\a.getD k default=s:=λs hs=>by
  obtain⟨k,h1,h2⟩:=lm hs;exact⟨k,h1,by simp[List.getD,h1,h2]⟩
 refine⟨by omega,λs hs=>?_,?_,λs hs=>?_⟩
 ·obtain⟨k,h1,rfl⟩:=hm s hs;exact(hk k h1).1
 ·have hchain:∀j i,i<j->j<a.length->bK (a.getD i default) (a.getD j default)<0:=λj=>by
    induction j with
    |zero=>intro i hi;omega
    |succ j ih=>
     intro i hi hj;have q:=(hk (j+1) hj).2.2 (by omega);rw[rM] at q;rcases(by omega:i<j\/i=j) with h|rfl
     ·exact jc.trans (ih i h (by omega)) q
     ·exact q
  unfold bM;rw[my];intro i j hi hj hij;have:=hchain j i hij hj
  rwa [show a.getD i default=a[i] by simp[List.getD,hi],show a.getD j default=a[j] by simp[List.getD,hj]] at this
 ·obtain⟨k,h1,rfl⟩:=hm s hs;exact(hk k h1).2.1
theorem Av{a:List Spx}(h:∀s∈a,ce s=0):∀s∈a,bM cl s:=λs hs=>(bQ (h s hs)).2.2.1
theorem Cj{a:List Spx}{k:Nat}:Jj a k=if ce (a.getD k default)≠0 then ce (a.getD k default) else if (a.getD k default).length≠(a.getD 0 default).length then 15 else if 0<k/\0<=bK (a.getD (k-1) default) (a.getD k default) then 14 else 0:=rfl
def gX(l:List (List Spx)):AV:=iO 1 ak l
theorem kM(l:List (List Spx)):Dat (gX l):=Gp (λ_=>rfl) bJ
instance datI_encXsss{l:List (List Spx)}:DatI (gX l):=⟨kM l⟩
theorem wj{l:List (List Spx)}:dH (gX l)=some (.int .i64 l.length):=mH
theorem Qj{l:List (List Spx)}{k:Nat}(h:k<l.length):eP 1 (gX l) (.int .i64 (k:Int))=some (.iptr [ak (l.getD k default)] 0):=by
 unfold gX;rw[oE,if_pos ⟨by omega,by omega⟩,cC];rfl
theorem PP{l:List Spx}(h:0<l.length):eP 1 (ak l) (.int .i64 0)=some (.iptr [ar (l.getD 0 default)] 0):=eO h
abbrev ShC(a:List Spx):Prop:=Shn a/\∀s∈a,Shn s
def fcs(s:Spx):List Spx:=if s.length<2 then [] else fc0 s
theorem qh{s:Spx}:(fcs s).Perm (bF s):=by
 unfold fcs bF;split
 ·exact List.Perm.refl _
 ·rename_i h;exact(qF λe=>by rw[e] at h;simp at h).symm
theorem Er{s f:Spx}:f∈fcs s↔f∈bF s:=qh.mem_iff
theorem yJ:∀{s:Spx},(fc0 s).length=s.length
 |[]=>rfl
 |x::s=>by show((fc0 s).map (x:: ·)).length+1=_;rw[bt,yJ];rfl
theorem DT:∀{s:Spx}{i:Nat},i<s.length->(fc0 s).getD i default=s.take i++s.drop (i+1)
 |[],_,h=>absurd h (by simp)
 |x::s,0,_=>by simp[fc0]
 |x::s,i+1,h=>by
  have hi:i<s.length:=by simpa using h
  have:=DT hi;show((s::(fc0 s).map (x:: ·)).getD (i+1) default)=_;have hl:i<(fc0 s).length:=by rw[yJ];exact hi
  simp only[List.getD,CN,lf,p6 hl,lq,ru,List.take_succ_cons,List.drop_succ_cons,List.cons_append] at this |-;rw[this]
theorem jY{s:Spx}(h:bM cl s):(bF s).Nodup:=(vO h).nodup jc
theorem F9{s:Spx}(h:bM cl s):(fcs s).Nodup:=qh.nodup_iff.2 (jY h)
def jX(X Y:List Spx)(n i:Nat):List Nat:=(List.range n).filter λk=>decide (Y.getD i default∈bF (X.getD k default))
theorem FA{X Y:List Spx}{n i:Nat}:jX X Y (n+1) i=jX X Y n i++if Y.getD i default∈bF (X.getD n default) then [n] else []:=by
 unfold jX;rw[List.range_succ,vj]
 congr 1
 by_cases h:Y.getD i default∈bF (X.getD n default)
 ·rw[if_pos h,tC (by simpa using h)];rfl
 ·rw[if_neg h,tB (by simpa using h)];rfl
theorem Ac{X Y:List Spx}{n i:Nat}:(jX X Y n i).length<=n:=by
 unfold jX;exact fp (List.length_filter_le _ _) (by simp)
def bZ(X Y:List Spx):List (List Int):=(List.range Y.length).map λi=>cq (jX X Y X.length i)
section
variable{P:Program}{T:Tm}{H:Hp}{nx:Nat}
theorem Ms{dm:DM}{K:SP}{l:List Op2}{d:Option Nat}{sz bytes:Nat}{z:List AV}{s x:Opd}{k:IntKind}{n:Int}(hd:dm2 dm T (.apz sz bytes z s x)=true)(hs:ov T s=.esl)(hx:ov T x=.int k n)(h0:0<n)(h1:n<=9223372036854775807)(h2:n.toNat*bytes<=140737488355328)
    (kk:am P dm l (aP T d (.msl nx (n.toNat*sz) sz 0 n.toNat)) (ao H nx (bv (.agg z) n.toNat)) (nx+1) K):am P dm (⟨d,none,.apz sz bytes z s x⟩::l) T H nx K:=by
 refine pu rfl hd ?_ kk;simp only[kI,hs,hx];rw[if_pos ⟨h0,h1,h2⟩]
end
theorem JO(T:Tm)(H:Hp)(x:Opd):cw T H (.capE x)=match ov T x with|.esl=>some (.int .i64 0)|_=>none:=rfl
theorem DF(n:Nat):(bv (.agg [.int .i64 0,.int .i64 0]) n).length=n*2:=by simp[bv,AV.cells]
theorem LU{P:Program}{T:Tm}{H:Hp}{nx:Nat}{dm:DM}{K:SP}{l:List Op2}{d:Option Nat}{sz bytes b N len n:Nat}{s x:Opd}{v:AV}{new C:List AV}(hd:dm2 dm T (.app sz bytes s x)=true)(hs:ov T s=.msl b N sz 0 len)(hb:H b=some C)(hN:C.length=N)(hx:ov T x=v)(hsrc:gC sz H v=some (n,new))(ho:AV.ones new=true)(hnl:new.length=n*sz)(hz:0<sz)(h0:0<N)(hle:(len+n)*sz<=N)(h1:(len+n)*bytes<=140737488355328)(h2:len+n<=9223372036854775807)
    (next:∀C':List AV,C'.length=N->C'.take ((len+n)*sz)=C.take (len*sz)++new->am P dm l (aP T d (.msl b N sz 0 (len+n))) (ao H b C') nx K):
    am P dm (⟨d,none,.app sz bytes s x⟩::l) T H nx K:=by
 by_cases e:N=len*sz
 ·have hn:n=0:=by
    rcases Dm n with h|h
    ·exact h
    ·have:len*sz+1*1<=len*sz+n*sz:=Nat.add_le_add_left (Nat.mul_le_mul h hz) _;rw[gd] at hle;omega
  subst hn;obtain rfl:new=[]:=List.eq_nil_of_length_eq_zero (by rw[hnl,wt]);refine BJ hd hs hb hx hsrc ho hN e h1 h2 ?_;rw[nq] at next |-;rw[<-e];exact next _ (by rw[gJ];exact hN) (by rw[gJ,gJ])
 ·refine y7 hd hs hb hx hsrc ho hN (λ_=>e) h0 (by rw[cE];exact hle) ?_;have hlen:len*sz+new.length<=N:=by rw[hnl,<-gd];exact hle
  refine next _ ?_ ?_
  ·rw[jo (by rw[hN];omega)];exact hN
  ·simp only[bB,cE];rw[Bk (by rw[cA,fY,hN,hnl,gd];omega),eM (by rw[cA,fY,hN,hnl,gd];omega)]
def jg:Nat->Spx->List Int
 |0,_=>[]
 |n+1,[]=>0::0::jg n []
 |n+1,v::l=>v.color::v.label::jg n l
theorem q9:∀{n:Nat}{s:Spx},(jg n s).length=2*n
 |0,_=>rfl
 |n+1,[]=>by show(jg n []).length+1+1=_;rw[q9];omega
 |n+1,v::l=>by show(jg n l).length+1+1=_;rw[q9];omega
theorem B8:∀{n:Nat}{s t:Spx},s.length=t.length->t.length<=n->jg n s=jg n t->s=t
 |_,[],[],_,_,_=>rfl
 |_,[],w::m,h,_,_=>absurd h (by simp)
 |_,v::l,[],h,_,_=>absurd h (by simp)
 |0,v::l,w::m,_,h,_=>absurd h (by simp)
 |n+1,v::l,w::m,hl,hm,e=>by
  obtain⟨e1,e2⟩:=List.cons.inj e;obtain⟨e2,e3⟩:=List.cons.inj e2;have:=B8 (n:=n) (by simpa using hl) (by simpa using hm) e3;rw[this,p9.2 ⟨e1,e2⟩]
abbrev z16:List AV:=[.int .i64 0,.int .i64 0,.int .i64 0,.int .i64 0,.int .i64 0,.int .i64 0,.int .i64 0,.int .i64 0,.int .i64 0,.int .i64 0,.int .i64 0,.int .i64 0,.int .i64 0,.int .i64 0,.int .i64 0,.int .i64 0]
theorem LA:z16=(jg 8 []).map (AV.int .i64):=rfl
theorem Ak:∀{n:Nat}{s:Spx},s.length<=n->cX s++((jg n []).map (AV.int .i64)).drop (s.length*2)=(jg n s).map (AV.int .i64)
 |n,[],_=>by simp[cX]
 |0,_::_,h=>absurd h (by simp)
 |n+1,v::l,h=>by
  have:=Ak (n:=n) (s:=l) (by simp at h;omega);show [AV.int .i64 v.color,AV.int .i64 v.label]++cX l++_=AV.int .i64 v.color::AV.int .i64 v.label::(jg n l).map (AV.int .i64);rw[<-this,bL,show(l.length+1)*2=l.length*2+1+1 by omega];rfl
def kZ(s:Spx):K16:=⟨jg 8 s,by rw[q9]⟩
theorem GJ{s t:Spx}(h:s.length=t.length)(h8:t.length<=8)(e:kZ s=kZ t):s=t:=B8 h h8 (congrArg Subtype.val e)
theorem IB{O:List Spx}{f:Spx}{n:Nat}(hn:n<=8)(hO:∀s∈O,s.length=n)(hf:f.length=n):kZ f∈O.map kZ↔f∈O:=by
 rw[bu];exact⟨λ⟨s,h1,h2⟩=>by rw[<-GJ (by rw[hO s h1,hf]) (by omega) h2];exact h1,λh=>⟨f,h,rfl⟩⟩
theorem Hk{f:Spx}{n:Nat}(hn:n<=8)(hf:f.length=n):∀{O:List Spx},(∀s∈O,s.length=n)->(O.map kZ).idxOf (kZ f)=O.idxOf f
 |[],_=>rfl
 |g::O,hO=>by
  have ih:=Hk hn hf (O:=O) λs hs=>hO s (dS _ hs);have hg:=hO g cW;rw[ff,List.idxOf_cons,List.idxOf_cons,ih]
  have e:(kZ g==kZ f)=(g==f):=by
   rw[Bool.eq_iff_iff,beq_iff_eq,beq_iff_eq];exact⟨λh=>GJ (by rw[hg,hf]) (by omega) h,λh=>by rw[h]⟩
  rw[e]
structure BOk(H:Hp)(n:Nat)(c:Spx->Nat)(O:List Spx)(bs:List Nat)(ck:Nat):Prop where
 box:H 0=some [.bmap ((O.map kZ).map eK) (O.map ar) bs ck]
 len:bs.length=O.length
 asc:bs.Pairwise (· < ·)
 below:∀s∈bs,s<ck
 nd:O.Nodup
 all:∀f∈O,f.length=n
 odd:∀f,f∈O↔c f%2=1
theorem BOk.same{H H':Hp}{n:Nat}{c c':Spx->Nat}{O:List Spx}{bs:List Nat}{ck:Nat}(h:BOk H n c O bs ck)(hs:H' 0=H 0)(hc:∀f,c' f%2=c f%2):BOk H' n c' O bs ck:=
 ⟨hs.trans h.box,h.len,h.asc,h.below,h.nd,h.all,λf=>by rw[hc];exact h.odd f⟩
theorem BOk.put{H H':Hp}{n:Nat}{c c':Spx->Nat}{O:List Spx}{bs:List Nat}{ck:Nat}{f:Spx}(h:BOk H n c O bs ck)(hf:f∉O)(hl:f.length=n)(hH:H' 0=some [.bmap ((O.map kZ).map eK++[eK (kZ f)]) (O.map ar++[ar f]) (bs++[ck]) (ck+1)])(hc:∀g,c' g=c g+if g=f then 1 else 0):BOk H' n c' (O++[f]) (bs++[ck]) (ck+1):=by
 refine⟨by rw[hH];simp,by rw[cA,cA,h.len];rfl,?_,λs hs=>?_,?_,λg hg=>?_,λg=>?_⟩
 ·exact List.pairwise_append.2 ⟨h.asc,List.pairwise_singleton _ _,λa ha b hb=>by rw[bT.1 hb];exact h.below a ha⟩
 ·rcases dZ.1 hs with q|q
  ·have:=h.below s q;omega
  ·rw[bT.1 q];omega
 ·exact s0.2 ⟨h.nd,by simp,λa ha b hb e=>by rw[e,bT.1 hb] at ha;exact hf ha⟩
 ·rcases dZ.1 hg with q|q
  ·exact h.all g q
  ·rw[bT.1 q];exact hl
 ·rw[dZ,bT,h.odd,hc];by_cases e:g=f
  ·subst e;have:¬c g%2=1:=λq=>hf ((h.odd g).2 q);rw[if_pos rfl];exact⟨λ_=>by omega,λ_=>.inr rfl⟩
  ·rw[if_neg e];simp[e]
theorem jk{α β:Type}{f:α->β}:∀{l:List α}{i:Nat},(l.map f).eraseIdx i=(l.eraseIdx i).map f
 |[],_=>rfl
 |a::l,0=>rfl
 |a::l,i+1=>by show f a::(l.map f).eraseIdx i=f a::(l.eraseIdx i).map f;rw[jk]
theorem BOk.del{H H':Hp}{n:Nat}{c c':Spx->Nat}{O:List Spx}{bs:List Nat}{ck i:Nat}{f:Spx}(h:BOk H n c O bs ck)(hf:f∈O)(hi:O.idxOf f=i)(hH:H' 0=some [.bmap (((O.map kZ).map eK).eraseIdx i) ((O.map ar).eraseIdx i) (bs.eraseIdx i) ck])(hc:∀g,c' g=c g+if g=f then 1 else 0):BOk H' n c' (O.erase f) (bs.eraseIdx i) ck:=by
 have hil:i<O.length:=by rw[<-hi];exact qU.2 hf
 have he:O.erase f=O.eraseIdx i:=List.erase_eq_eraseIdx_of_idxOf hi;refine⟨?_,?_,h.asc.sublist (List.eraseIdx_sublist _ _),λs hs=>h.below s ((List.eraseIdx_sublist _ _).subset hs),h.nd.erase _,λg hg=>h.all g (List.mem_of_mem_erase hg),λg=>?_⟩
 ·rw[hH,he];rw[jk,jk,jk]
 ·rw[he,List.length_eraseIdx_of_lt hil,List.length_eraseIdx_of_lt (by rw[h.len];exact hil),h.len]
 ·rw[h.nd.mem_erase_iff,h.odd,hc];by_cases e:g=f
  ·subst e;have:=(h.odd g).1 hf;rw[if_pos rfl];constructor
   ·exact λq=>absurd rfl q.1
   ·intro q;omega
  ·rw[if_neg e];simp[e]
theorem js{α:Type}[DecidableEq α]{a b:List α}(h:a.Nodup)(hs:∀x∈a,x∈b):a.length<=b.length:=tw h hs
theorem FZ{l:List Spx}{s f:Spx}:pP (l++[s]) f=pP l f+(bF s).count f:=by unfold pP;simp
theorem CU{D:List Spx}{f g:Spx}{m:Nat}:m+(D++[f]).count g=m+D.count g+if g=f then 1 else 0:=by
 rw[List.count_append,List.count_singleton,ra]
 congr 2
 by_cases e:g=f
 ·subst e;simp
 ·rw[if_neg e,if_neg];simp only[beq_iff_eq];exact λh=>e h.symm
theorem xC{O:List Spx}{i:Nat}(h:i<O.length):(O.map ar).getD i .undef=ar (O.getD i default):=by simp[List.getD,h]
theorem Fi{s f:Spx}(hs:ce s=0)(hf:f∈bF s):ce f=0:=by
 obtain⟨h1,h2,h3⟩:=en.1 hf;obtain⟨p1,p2,p3,p4⟩:=bQ hs;exact uN ⟨by omega,by omega⟩ (p3.sublist h2) λv hv=>p4 v (h2.subset hv)
theorem xm{a:List Spx}(ha:∀s∈a,ce s=0):∀f∈dA a,ce f=0:=λf hf=>by
 obtain⟨s,h1,h2⟩:=C8 (Av ha) hf;exact Fi (ha s h1) h2
theorem HJ{a:List Spx}(h:∀s∈a,ce s=0):∀s∈a,s.length<=8:=λs hs=>(bQ (h s hs)).2.1
def oq(a:List Spx):List Spx×Int:=if ll a≠0 then([],ll a) else if 4096<(dA a).length then([],5) else(dA a,0)
def Kl(a:List Spx):Bool×Int:=if ll a≠0 then(false,ll a) else(decide (dA a=[]),0)
def on3(b1:Nat)(c1:List AV)(b2:Nat)(c2:List AV)(b3:Nat)(c3:List AV):Hp:=λx=>if x=b1 then some c1 else if x=b2 then some c2 else if x=b3 then some c3 else none
theorem Dd{P:Program}{T:Tm}{H:Hp}{nx:Nat}(b1 b2 b3:Nat){c1 c2 c3:List AV}{K:CP}{m:Nat}{l:List Op2}{C:List (Nat×Nat)}(h1:H b1=some c1)(h2:H b2=some c2)(h3:H b3=some c3)(n1:b2≠b1)(n2:b3≠b1)(n3:b3≠b2)(k:∀S:Hp,S b1=some c1->S b2=some c2->S b3=some c3->(∀H':Hp,H' b1=some c1->H' b2=some c2->H' b3=some c3->Sub S H')->bm P S (C.map λk=>(l.getD k.1 ⟨none,none,.dead⟩,k.2)) T H nx λT H nx=>K .normal T H nx):aM P (.mixS m l C) T H nx K:=by
 have hsub:∀H':Hp,H' b1=some c1->H' b2=some c2->H' b3=some c3->Sub (on3 b1 c1 b2 c2 b3 c3) H':=λH' a b c x cs h=>by
  unfold on3 at h;split at h
  ·rename_i e;rw[e,a];exact h
  split at h
  ·rename_i e;rw[e,b];exact h
  split at h
  ·rename_i e;rw[e,c];exact h
  ·cases h
 refine CD (on3 b1 c1 b2 c2 b3 c3) rfl (hsub H h1 h2 h3) (k _ ?_ ?_ ?_ hsub)
 ·unfold on3;rw[if_pos rfl]
 ·unfold on3;rw[if_neg n1,if_pos rfl]
 ·unfold on3;rw[if_neg n2,if_neg n3,if_pos rfl]
theorem zu{α:Type}{p q:Prop}[Decidable p][Decidable q](h:p↔q){a b:α}:(if p then a else b)=if q then a else b:=by
 by_cases hq:q
 ·rw[if_pos hq,if_pos (h.2 hq)]
 ·rw[if_neg hq,if_neg λx=>hq (h.1 x)]
def Gz(c:List Spx)(d:Int):List Spx×Int:=if d<0 then([],0) else f8 c (d+1)
def an(c:List Spx)(d:Int):List Spx:=if d<=0 then [] else iY c d.toNat
def xn(c:List Spx)(d:Int):(Int×List (List Int))×Int:=if ay c≠0 then((0,[]),ay c) else if d<0\/8<=d then((0,[]),2) else((((an c (d+1)).length:Nat),bZ (an c (d+1)) (an c d)),0)
theorem Ex{c:List Spx}{d:Int}(hc:ay c=0)(h1:-1<=d)(h2:d<8):Gz c d=(an c (d+1),0):=by
 unfold Gz an f8;by_cases h:d<0
 ·rw[if_pos h,if_pos (by omega)]
 ·rw[if_neg h,if_neg (λq=>q hc),if_neg (by omega),if_neg (by omega)]
theorem eZ{c:List Spx}{d:Int}:bM bK (an c d):=by
 unfold an;split
 ·exact bM.nil
 ·exact HC
theorem o5{c:List Spx}{d:Int}(hc:c.length<=50)(h:ay c=0):(an c d).length<=3500:=by
 unfold an;split
 ·exact bW _
 ·exact nr hc (HJ (cp h).2.1)
theorem dY{c:List Spx}{d:Int}{s:Spx}:s∈an c d↔0<d/\s.length=d.toNat/\∃t∈c,s.Sublist t:=by
 unfold an;split
 ·exact⟨λh=>(by cases h),λh=>absurd h.1 (by omega)⟩
 ·rw[ue];constructor
  ·rintro⟨t,t1,t2⟩;exact⟨by omega,(fe.1 t2).2,t,t1,(fe.1 t2).1⟩
  ·rintro⟨_,h1,t,t1,t2⟩;exact⟨t,t1,fe.2 ⟨t2,h1⟩⟩
theorem kF{c:List Spx}{d:Int}(h:ay c=0):∀s∈an c d,ce s=0:=λs hs=>by
 obtain⟨h1,h2,t,t1,t2⟩:=dY.1 hs;obtain⟨p1,p2,p3,p4⟩:=bQ ((cp h).2.1 t t1);have:=t2.length_le;exact uN ⟨by omega,by omega⟩ (p3.sublist t2) λv hv=>p4 v (t2.subset hv)
theorem pG{c:List Spx}{d:Int}{s f:Spx}(hs:s∈an c (d+1))(hf:f∈bF s):f∈an c d:=by
 obtain⟨h1,h2,t,t1,t2⟩:=dY.1 hs;obtain⟨g1,g2,g3⟩:=en.1 hf;exact dY.2 ⟨by omega,by omega,t,t1,g2.trans t2⟩
def vT(L a:List Spx):List Nat:=a.map λs=>L.idxOf s
abbrev ft(a:List Spx):Nat:=(a.getD 0 default).length
def jI(c a:List Spx):List Int×Int:=if ay c≠0 then([],ay c) else if ll a≠0 then([],ll a) else if a=[] then([],0) else if (a.all λs=>decide (s∈an c (ft a)))=true then(cq (vT (an c (ft a)) a),0) else([],6)
theorem AO{l:List Nat}{n:Nat}:cq (l++[n])=cq l++[(n:Int)]:=by unfold cq;rw[dr];rfl
theorem Gi{L a:List Spx}{k:Nat}(h:k<a.length):vT L (a.take (k+1))=vT L (a.take k)++[L.idxOf (a.getD k default)]:=by
 unfold vT;rw[bD h,dr];rfl
theorem JJ{l:List Spx}(hn:l.Nodup){v:Spx}{k:Nat}(hk:k<l.length)(hv:l.getD k default=v):l.idxOf v=k:=by
 have hm:v∈l:=by rw[<-hv];exact az hk
 have h1:=qU.2 hm;have h2:l[l.idxOf v]=v:=List.getElem_idxOf h1;have h3:l[k]=v:=by simpa[List.getD,hk] using hv
 exact(List.getElem_inj hn).1 (h2.trans h3.symm)
theorem li{H:Hp}{s:AV}{l:List Int}{e f:Int}(h:Snap H s (aH l))(he:e=f):Snap H (.tup [s,.int .i64 e]) (.tup [aH l,.int .i64 f]):=by
 subst he;exact bS (ag h (ag (.int _ _) aj))
def EH(n:Nat)(v:List Int)(k:Nat):Int:=if v.getD k default<0\/(n:Int)<=v.getD k default then 2 else if 0<k/\v.getD k default<=v.getD (k-1) default then 14 else 0
def u4(n:Nat)(v:List Int):Int:=d9 (EH n v) v.length
theorem uL{n:Nat}{v:List Int}{k:Nat}:EH n v k=if v.getD k default<0\/(n:Int)<=v.getD k default then 2 else if 0<k/\v.getD k default<=v.getD (k-1) default then 14 else 0:=rfl
def eX(X:List Spx)(v:List Int):List Spx:=v.map λi=>X.getD i.toNat default
theorem Cc{X:List Spx}{v:List Int}{k:Nat}(h:k<v.length):eX X (v.take (k+1))=eX X (v.take k)++[X.getD (v.getD k default).toNat default]:=by
 unfold eX;rw[bD h,dr];rfl
def Cl(c:List Spx)(d:Int)(v:List Int):List Spx×Int:=if ay c≠0 then([],ay c) else if d<0\/8<=d then([],2) else if u4 (an c (d+1)).length v≠0 then([],u4 (an c (d+1)).length v) else(eX (an c (d+1)) v,0)
theorem ixV{l:List Int}{k:Nat}(h:k<l.length):eP 1 (aH l) (.int .i64 (k:Int))=some (.iptr [.int .i64 (l.getD k default)] 0):=by
 rw[oH,if_pos ⟨by omega,by omega⟩,cC]
theorem d8{l:List Int}:dH (aH l)=some (.int .i64 l.length):=v8
def eG(l:List Int):Spx:=l.map λc=>⟨c,0⟩
theorem F6{l:List Int}{k:Nat}(h:k<l.length):eG (l.take (k+1))=eG (l.take k)++[⟨l.getD k default,0⟩]:=by
 unfold eG;rw[bD h,dr];rfl
structure PairV where
 a:List Spx
 b:List Spx
 d:Int
theorem qL{H:Hp}{b n:Nat}{l:List Spx}(h:H b=some (l.map ar))(hn:n=l.length):Snap H (.msl b n 1 0 n) (ak l):=by
 subst hn;have:=Row.box (H:=H) (sz:=1) b l.length (l.map ar) h (by simp);rw[Nat.mul_one] at this;exact iu this
theorem GM{H:Hp}{b n:Nat}{cs:List AV}{l:List (List Int)}(hb:H b=some cs)(hn:cs.length=n)(h:aO H cs (l.map aH)):Snap H (.msl b n 1 0 n) (bU l):=by
 have hl:=h.1;refine jr (l:=l.map aH) hb hn (by omega) (by omega) (λy hy=>?_) (λi a c ha hc=>?_)
 ·obtain⟨z,_,rfl⟩:=bu.1 hy;rfl
 ·rw[cE] at ha;exact h.2 i a c ha hc
theorem q7:∀(n:Nat)(a b:List Int),a.length+b.length<=n->bo a->bo b->(bX a b).length+2*(a.filter λx=>decide (x∈b)).length=a.length+b.length
 |_,[],b,_,_,_=>by rw[jK];simp
 |_,x::a,[],_,_,_=>by
  rw[gA,HQ.2 (λz _=>by simp)];rfl
 |0,x::a,y::b,h,_,_=>by simp only[bL] at h;omega
 |n+1,x::a,y::b,h,ha,hb=>by
  simp only[bL] at h |-;obtain⟨a1,a2⟩:=iz.1 ha;obtain⟨b1,b2⟩:=iz.1 hb;rw[oo];by_cases g1:x<y
  ·have hx:x∉y::b:=λq=>by
     rcases cU.1 q with rfl|q
     ·omega
     ·have:=b1 x q;omega
   have ih:=q7 n a (y::b) (by simp only[bL];omega) a2 hb;rw[if_pos g1,bL,tB (by simpa using hx)];simp only[bL] at ih;omega
  rw[if_neg g1];by_cases g2:y<x
  ·have hf:(x::a).filter (λz=>decide (z∈y::b))=(x::a).filter λz=>decide (z∈b):=by
     refine List.filter_congr λz hz=>decide_eq_decide.2 ?_;rw[cU];refine⟨λh=>h.resolve_left ?_,.inr⟩;rintro rfl;rcases cU.1 hz with rfl|hz
     ·omega
     ·have:=a1 z hz;omega
   have ih:=q7 n (x::a) b (by simp only[bL];omega) ha b2;rw[if_pos g2,bL,hf];simp only[bL] at ih;omega
  rw[if_neg g2];obtain rfl:x=y:=by omega
  have hf:a.filter (λz=>decide (z∈x::b))=a.filter λz=>decide (z∈b):=by
   refine List.filter_congr λz hz=>decide_eq_decide.2 ?_;rw[cU];refine⟨λh=>h.resolve_left ?_,.inr⟩;rintro rfl;have:=a1 z hz;omega
  have ih:=q7 n a b (by omega) a2 b2;rw[tC (by simp),bL,hf];omega
theorem BK{a b:List Int}(ha:a.Nodup)(hb:b.Nodup):(a.filter λx=>decide (x∈b)).length=(b.filter λx=>decide (x∈a)).length:=
 ((List.perm_ext_iff_of_nodup (ha.sublist wx) (hb.sublist wx)).2 fun x=>by
  simp only[dJ,iG];exact And.comm).length_eq
theorem bo.nodup{l:List Int}(h:bo l):l.Nodup:=yO (λ{x y}(h:x<y) e=>by omega) h
theorem lP{l:List Nat}{n:Nat}:(n:Int)∈cq l↔n∈l:=by
 unfold cq;rw[bu];exact⟨λ⟨m,h1,h2⟩=>by rwa [<-(by omega:m=n)],λh=>⟨n,h,rfl⟩⟩
theorem kE{l:List Nat}{x:Int}:x∈cq l↔ ∃i:Nat,i∈l/\(i:Int)=x:=by unfold cq;exact bu
theorem fH{l:List Nat}(h:l.Pairwise (· < ·)):bo (cq l):=by
 unfold cq bo;rw[List.pairwise_map];exact yO (λ{a b}(h:a<b)=>by omega) h
theorem nG{X Y:List Spx}{n i:Nat}:(jX X Y n i).Pairwise (· < ·):=List.pairwise_lt_range.sublist wx
theorem fT{X Y:List Spx}{n i j:Nat}:j∈jX X Y n i↔j<n/\Y.getD i default∈bF (X.getD j default):=by
 unfold jX;simp only[dJ,du,iG]
theorem dF{X Y:List Spx}:(bZ X Y).length=Y.length:=by unfold bZ;simp
theorem kC{X Y:List Spx}{i:Nat}(h:i<Y.length):(bZ X Y).getD i default=cq (jX X Y X.length i):=by
 unfold bZ;simp[List.getD,h]
theorem oX{X Y:List Spx}(hX:X.length<=4096)(hY:Y.length<=4096):jp X.length (bZ X Y):=by
 refine⟨by omega,by omega,by rw[dF];exact hY,λr hr=>?_⟩;unfold bZ at hr;obtain⟨i,hi,rfl⟩:=bu.1 hr;refine⟨λv hv=>?_,?_,wc (fH nG)⟩
 ·unfold cq at hv;obtain⟨j,hj,rfl⟩:=bu.1 hv;have:=(fT.1 hj).1;omega
 ·unfold cq;rw[bt];exact fp Ac hX
def kY(a b:List Int):Bool:=decide ((a.length+b.length-(bX a b).length)/2%2=1)
theorem fG{Y:List Spx}{f:Spx}(h:f∈Y):Y.idxOf f<Y.length/\Y.getD (Y.idxOf f) default=f:=by
 have hl:=qU.2 h;exact⟨hl,by simp[List.getD,hl]⟩
theorem sf{Y:List Spx}(hY:Y.Nodup){i:Nat}(h:i<Y.length):Y.idxOf (Y.getD i default)=i:=by
 have h1:=fG (bg h);have e1:Y[Y.idxOf (Y.getD i default)]'h1.1=Y[i]:=(List.getElem_idxOf h1.1).trans (by simp[List.getD,h]);exact(List.getElem_inj hY).1 e1
theorem Gq{X Y Z:List Spx}{i:Nat}(hi:i<Z.length)(hY:∀s∈Y,bM cl s)(hX:∀s∈X,bM cl s)(hYa:bM bK Y)(hin:∀s∈X,∀f∈bF s,f∈Y):v4 (bZ X Y) (cq (jX Y Z Y.length i))=[]:=by
 have hkey:∀(l:List Nat),l.Pairwise (· < ·)->(∀j∈l,j<Y.length)->∀k,k<=l.length->bo (v4 (bZ X Y) (cq (l.take k)))/\∀x:Nat,(x:Int)∈v4 (bZ X Y) (cq (l.take k))↔((l.take k).filter λj=>decide (x<X.length/\Y.getD j default∈bF (X.getD x default))).length%2=1:=by
  intro l hl hb k
  induction k with
  |zero=>exact λ_=>⟨lS,λx=>⟨λh=>(by cases h),λh=>absurd h (by simp)⟩⟩
  |succ k ih=>
   intro hk;obtain⟨h1,h2⟩:=ih (by omega);rw[bD (by omega)];have hj:=hb _ (bg (l:=l) (k:=k) (by omega));generalize l.getD k default=j at *;rw[show cq (l.take k++[j])=cq (l.take k)++[(j:Int)] by unfold cq;simp,CS,cC,kC hj];obtain⟨h3,h4⟩:=jA _ _ _ (aJ _) h1 (fH (nG (X:=X) (Y:=Y) (n:=X.length) (i:=j)));refine⟨h3,λx=>?_⟩;rw[h4,h2,lP,fT,vj,cA];by_cases hx:x<X.length/\Y.getD j default∈bF (X.getD x default)
   ·rw[tC (by simpa using hx)];simp only[hx,not_true_eq_false,and_false,true_and,false_or,List.filter_nil,bL,eW,cE,and_self];omega
   ·rw[tB (by simpa using hx)];simp only[hx,not_false_eq_true,and_true,false_and,or_false,List.filter_nil,eW,nq]
 obtain⟨r1,r2⟩:=hkey (jX Y Z Y.length i) nG (λj hj=>(fT.1 hj).1) _ (aJ _);rw[List.take_length] at r1 r2;refine qE.2 λx hx=>?_
 have hnat:∀(l:List Nat)(x:Int),(∀j∈l,j<Y.length)->x∈v4 (bZ X Y) (cq l)->∃n:Nat,x=n:=by
  intro l
  have hS:∀s∈bZ X Y,∀x∈s,∃n:Nat,x=(n:Int):=λs hs x hx=>by
   unfold bZ at hs;obtain⟨i,_,rfl⟩:=bu.1 hs;unfold cq at hx;obtain⟨n,_,rfl⟩:=bu.1 hx;exact⟨n,rfl⟩
  have hsum:∀(n:Nat)(a b:List Int),a.length+b.length<=n->∀x∈bX a b,x∈a\/x∈b:=by
   intro n
   induction n with
   |zero=>
    intro a b h x hx;have ea:a=[]:=fj.1 (by omega);subst ea;rw[jK] at hx;exact .inr hx
   |succ n ih=>
    intro a b h x hx
    match a,b with
    |[],b=>rw[jK] at hx;exact .inr hx
    |u::a,[]=>rw[gA] at hx;exact .inl hx
    |u::a,v::b=>
     simp only[bL] at h;rw[oo] at hx;split at hx
     ·rcases cU.1 hx with rfl|hx
      ·exact .inl cW
      ·rcases ih a (v::b) (by simp only[bL];omega) x hx with q|q
       ·exact .inl (dS _ q)
       ·exact .inr q
     split at hx
     ·rcases cU.1 hx with rfl|hx
      ·exact .inr cW
      ·rcases ih (u::a) b (by simp only[bL];omega) x hx with q|q
       ·exact .inl q
       ·exact .inr (dS _ q)
     ·rcases ih a b (by omega) x hx with q|q
      ·exact .inl (dS _ q)
      ·exact .inr (dS _ q)
  have hfold:∀(l:List Int)(acc:List Int),(∀x∈acc,∃n:Nat,x=(n:Int))->∀x∈l.foldl (λx j=>bX x ((bZ X Y).getD j.toNat default)) acc,∃n:Nat,x=(n:Int):=by
   intro l
   induction l with
   |nil=>exact λacc h=>h
   |cons j l ih=>
    intro acc h;refine ih _ λx hx=>?_;rcases hsum _ _ _ (aJ _) x hx with q|q
    ·exact h x q
    ·by_cases hj:j.toNat<(bZ X Y).length
     ·exact hS _ (bg hj) x q
     ·rw[show(bZ X Y).getD j.toNat default=[] by unfold List.getD;rw[List.getElem?_eq_none (by omega)];rfl] at q;cases q
  intro x _ hx;exact hfold _ [] (λ_ h=>(by cases h)) x hx
 obtain⟨n,rfl⟩:=hnat _ x (λj hj=>(fT.1 hj).1) hx;have hodd:=(r2 n).1 hx;by_cases hn:n<X.length
 rotate_left
 ·rw[HQ.2 (λj _=>by simp[hn])] at hodd;exact absurd hodd (by decide)
 have hXs:=hX _ (bg hn);have hfin:=hin _ (bg hn);have hdd:=dd1 (X.getD n default) (Z.getD i default);generalize X.getD n default=s at *;generalize hZg:Z.getD i default=g at *
 have hcnt:∀L:List Spx,(∀f∈L,bM cl f)->(L.map λf=>(bF f).count g).sum=(L.filter λf=>decide (g∈bF f)).length:=λL hL=>by
  induction L with
  |nil=>rfl
  |cons f L ih=>
   have ih:=ih λt ht=>hL t (dS _ ht);have hnd:=jY (hL f cW);rw[ff,List.sum_cons,ih];by_cases hf:g∈bF f
   ·have h1:=List.count_pos_iff.2 hf;have h2:=List.nodup_iff_count.1 hnd g;rw[tC (by simpa using hf),bL];omega
   ·rw[tB (by simpa using hf),Kd hf,cE]
 rw[hcnt _ λf hf=>hXs.sublist (en.1 hf).2.1] at hdd
 have hperm:(((jX Y Z Y.length i).filter λj=>decide (n<X.length/\Y.getD j default∈bF s)).map λj=>Y.getD j default).Perm ((bF s).filter λf=>decide (g∈bF f)):=by
  refine(List.perm_ext_iff_of_nodup ?_ ((jY hXs).sublist wx)).2 λf=>?_
  ·refine List.nodup_iff_pairwise_ne.2 ?_;rw[List.pairwise_map];refine List.Pairwise.imp_of_mem (λ{j j'} hj hj' hlt e=>?_) (nG.sublist wx);have h2:=(fT.1 (dJ.1 hj').1).1;have:=eo hYa hlt h2;rw[e,fC] at this;omega
  ·rw[bu,dJ,iG];constructor
   ·rintro⟨j,hj,rfl⟩;obtain⟨h1,h2⟩:=dJ.1 hj;exact⟨(nf h2).2,hZg▸(fT.1 h1).2⟩
   ·rintro⟨h1,h2⟩;obtain⟨h3,h4⟩:=fG (hfin f h1);exact⟨Y.idxOf f,dJ.2 ⟨fT.2 ⟨h3,by rw[h4,hZg];exact h2⟩,bd ⟨hn,by rw[h4];exact h1⟩⟩,h4⟩
 have:=hperm.length_eq;rw[bt] at this;omega
def trF(R:List (List Int))(n q:Nat):List Nat:=(List.range n).filter λi=>decide ((q:Int)∈R.getD i default)
theorem He{R:List (List Int)}{n q:Nat}:trF R (n+1) q=trF R n q++if (q:Int)∈R.getD n default then [n] else []:=by
 unfold trF;rw[List.range_succ,vj]
 congr 1
 by_cases h:(q:Int)∈R.getD n default
 ·rw[if_pos h,tC (by simpa using h)];rfl
 ·rw[if_neg h,tB (by simpa using h)];rfl
theorem Eb{R:List (List Int)}{n q:Nat}:(trF R n q).length<=n:=by
 unfold trF;exact fp (List.length_filter_le _ _) (by simp)
def trL(c:Nat)(R:List (List Int)):List (List Int):=(List.range c).map λq=>cq (trF R R.length q)
theorem jD(v:Int)(ks:List Int):dK (.one .int) (.int .i64 v) (ks.map (AV.int .i64))=some (if v∈ks then some (ks.idxOf v) else none):=
 oV _ (AV.int .i64) (λa b=>rfl) v ks
theorem PT(v:Int):∀{l:List Int},bo l->∃b,b<=l.length/\(∀i,i<b->l.getD i default<v)/\∀i,b<=i->i<l.length->v<=l.getD i default
 |[],_=>⟨0,aJ _,λi h=>absurd h (by omega),λi _ h=>absurd h (by simp)⟩
 |x::l,h=>by
  obtain⟨h1,h2⟩:=iz.1 h;by_cases hx:x<v
  ·obtain⟨b,b1,b2,b3⟩:=PT v h2;refine⟨b+1,by simp;omega,λi hi=>?_,λi hi hl=>?_⟩
   ·match i with
    |0=>exact hx
    |i+1=>exact b2 i (by omega)
   ·match i with
    |0=>omega
    |i+1=>exact b3 i (by omega) (by simp at hl;omega)
  ·refine⟨0,bW _,λi h=>absurd h (by omega),λi _ hl=>?_⟩
   match i with
   |0=>show v<=x;omega
   |i+1=>
    have:=h1 (l.getD i default) (az (by simp at hl;omega));show v<=l.getD i default;omega
theorem Lq{v:Int}{l:List Int}{b:Nat}(h1:∀i,i<b->l.getD i default<v)(h2:∀i,b<=i->i<l.length->v<=l.getD i default)(ha:bo l):(decide (b<l.length)&&decide (l.getD b default=v))=decide (v∈l):=by
 by_cases hm:v∈l
 ·obtain⟨i,hi,e⟩:=lm hm;have e':l.getD i default=v:=by simp[List.getD,hi,e]
  have hbi:b=i:=by
   rcases uQ b i with h|h|h
   ·have h3:=h2 b (aJ _) (by omega);have h4:=my.1 ha b i (by omega) hi h;have e5:l.getD b default=l[b]:=by simp[List.getD,show b<l.length by omega]
    omega
   ·exact h
   ·have:=h1 i h;omega
  subst hbi;rw[bd hi,bd hm,bd e'];rfl
 ·rw[bh hm];by_cases hlt:b<l.length
  ·rw[bd hlt,Bool.true_and,bh];intro h;exact hm (by rw[<-h];exact az hlt)
  ·rw[bh hlt,Bool.false_and]
def BL(c n:Nat)(x:Ln):Prop:=(∀z∈x.1,0<=z/\z<(c:Int))/\∀j∈x.2,0<=j/\j<(n:Int)
theorem gx{a:List Int}{c:Nat}(ha:bo a)(h:∀z∈a,0<=z/\z<(c:Int)):a.length<=c:=by
 have hn:a.Nodup:=yO (λ{x y}(q:x<y) e=>by omega) ha
 have:=tw hn (l₂:=(List.range c).map λ(k:Nat)=>(k:Int)) λz hz=>by
  have:=h z hz;exact bu.2 ⟨z.toNat,du.2 (by omega),by show((z.toNat:Nat):Int)=z;omega⟩
 simpa using this
theorem BL.len{c n:Nat}{x:Ln}(h:BL c n x)(ha:cT x):x.1.length<=c/\x.2.length<=n:=⟨gx ha.1 h.1,gx ha.2 h.2⟩
theorem BL.add{c n:Nat}{x l:Ln}(hx:BL c n x)(hl:BL c n l)(ax:cT x)(al:cT l):BL c n (eH x l):=by
 refine⟨λz hz=>?_,λz hz=>?_⟩
 ·rcases(c6 ax.1 al.1).1 hz with q|q
  ·exact hx.1 z q.1
  ·exact hl.1 z q.1
 ·rcases(c6 ax.2 al.2).1 hz with q|q
  ·exact hx.2 z q.1
  ·exact hl.2 z q.1
theorem CW{c n:Nat}{p:Ln->Bool}:∀{M:List Ln}{x:Ln},(∀l∈M,cT l/\BL c n l)->cT x->BL c n x->BL c n (rdL M p x)
 |[],_,_,_,h=>h
 |l::M,x,hM,hx,h=>by
  unfold rdL;rw[List.foldl_cons];have hl:=hM l cW;have hM':=λm hm=>hM m (dS _ hm);show BL c n (rdL M p (if p l=true then eH x l else x));split
  ·exact CW hM' (fB hx hl.1) (h.add hl.2 hx hl.1)
  ·exact CW hM' hx h
theorem A2:∀{i:Nat}{a b:List Int},i<=a.length->(∀j,j<i->∀z∈b,a.getD j default<z)->∀j,j<i->(bX a b).getD j default=a.getD j default
 |0,_,_,_,_,j,hj=>absurd hj (by omega)
 |i+1,[],_,h,_,_,_=>absurd h (by simp)
 |i+1,x::a,[],h,_,j,_=>by rw[gA]
 |i+1,x::a,y::b,h,hz,j,hj=>by
  have h0:x<y:=hz 0 (by omega) y cW;rw[oo,if_pos h0]
  match j with
  |0=>rfl
  |j+1=>exact A2 (i:=i) (a:=a) (b:=y::b) (by simpa using h) (λk hk z hz'=>hz (k+1) (by omega) z hz') j (by omega)
theorem ye:∀{i:Nat}{a b:List Int},i<=a.length->(∀j,j<i->∀z∈b,a.getD j default<z)->i<=(bX a b).length
 |0,_,_,_,_=>bW _
 |i+1,[],_,h,_=>absurd h (by simp)
 |i+1,x::a,[],h,_=>by rw[gA];exact h
 |i+1,x::a,y::b,h,hz=>by
  have h0:x<y:=hz 0 (by omega) y cW;rw[oo,if_pos h0,bL];have:=ye (i:=i) (a:=a) (b:=y::b) (by simpa using h) (λk hk z hz'=>hz (k+1) (by omega) z hz');omega
theorem Ga{M:List Ln}{p q:Ln->Bool}{l:Ln}(h:∀m∈M,q m=true->p m=true)(hl:l∈M)(h1:p l=true)(h2:q l=false):M.countP q<M.countP p:=by
 induction M with
 |nil=>cases hl
 |cons m M ih=>
  rw[List.countP_cons,List.countP_cons];have hle:M.countP q<=M.countP p:=List.countP_mono_left λx hx=>h x (dS _ hx);rcases cU.1 hl with rfl|hl
  ·rw[if_pos h1,if_neg (by rw[h2];decide)];omega
  ·have:=ih (λx hx=>h x (dS _ hx)) hl;have h3:=h m cW;by_cases hq:q m=true
   ·rw[if_pos hq,if_pos (h3 hq)];omega
   ·rw[if_neg hq];split<;>omega
def nL(M:List Ln)(x:Ln):Nat:=M.countP λl=>decide (ld l.1∈x.1)
theorem MB{M:List Ln}{x l:Ln}(hM:RedU M)(hx:cT x)(hl:l∈M)(h:ld l.1∈x.1):nL M (eH x l)<nL M x:=by
 have hla:=hM.asc l hl;refine Ga (l:=l) (λm hm hq=>?_) hl (bd h) (bh λhq=>?_)
 ·have hq:=nf hq;refine bd ?_;rcases(c6 hx.1 hla.1).1 hq with q|q
  ·exact q.1
  ·have:=hM.own m hm l hl q.1;rw[<-this];exact h
 ·rcases(c6 hx.1 hla.1).1 hq with q|q
  ·exact q.2 (dy (hM.ne l hl))
  ·exact q.2 h
def cu(M:List Ln):List Int:=M.map λl=>ld l.1
def fu(x:Ln):AV:=.agg [aH x.1,aH x.2]
def LM(H:Hp)(m:Nat)(M:List Ln):Prop:=H m=some [.omap ((cu M).map (AV.int .i64)) (M.map fu)]
theorem xG{M:List Ln}{v:Int}(h:v∈cu M):∃l∈M,ld l.1=v/\(M.map fu).getD ((cu M).idxOf v) .undef=fu l:=by
 have hi:=qU.2 h;have h2:(cu M)[(cu M).idxOf v]=v:=List.getElem_idxOf hi;generalize (cu M).idxOf v=i at *;have hi':i<M.length:=by unfold cu at hi;simpa using hi
 refine⟨M[i],pe hi',?_,?_⟩
 ·have h3:(cu M)[i]'hi=ld M[i].1:=List.getElem_map ..;rw[<-h3];exact h2
 ·simp[List.getD,hi']
theorem oT{M:List Ln}{v:Int}:v∈cu M↔ ∃l∈M,ld l.1=v:=by unfold cu;rw[bu]
theorem MJ{T:Tm}{S:Hp}{m:Nat}{ks:List Int}{vs:List AV}{mo ko:Opd}{v:Int}{z:AV}{ok:Bool}(h1:ov T mo=.mp m)(h2:S m=some [.omap (ks.map (AV.int .i64)) vs])(h3:ov T ko=.int .i64 v):ilk T S (.mget (.one .int) z ok mo ko)=some (Go.Abs.mget z ok (if v∈ks then some (ks.idxOf v) else none) vs):=by
 show lkS _ _ _ (ov T mo) (ov T ko) S=_;rw[h1,h3];simp only[lkS,h2,jD];rfl
def cLs(l:List Ln):List AV:=l.flatMap λx=>[aH x.1,aH x.2]
def nM(l:List Ln):AV:=iO 2 fu l
theorem Ig{l:List Ln}{x:Ln}:cLs (l++[x])=cLs l++[aH x.1,aH x.2]:=by unfold cLs;simp
theorem Ez{l:List Ln}:(cLs l).length=l.length*2:=by
 induction l with
 |nil=>rfl
 |cons x l ih=>show([aH x.1,aH x.2]++cLs l).length=_;rw[cA,ih,bL];simp;omega
theorem JF{l:List Ln}:cLs l=(l.map fu).flatMap AV.cells:=by
 induction l with
 |nil=>rfl
 |cons x l ih=>show [aH x.1,aH x.2]++cLs l=_;rw[ih];rfl
theorem J0{H:Hp}{s:AV}{l:List Ln}(h:Row H 2 s (cLs l)):Snap H s (nM l):=by
 refine Row.snap (elems:=l.map fu) (by rw[<-JF];exact h) (λy hy=>?_) (by omega) (λy hy c hx=>?_)
 ·obtain⟨n,_,rfl⟩:=bu.1 hy;rfl
 ·obtain⟨n,_,rfl⟩:=bu.1 hy;simp only[fu,AV.cells,cU,List.not_mem_nil,or_false] at hx;rcases hx with rfl|rfl<;>exact dz _
theorem AK{M:List Ln}(hM:RedU M):(cu M).Nodup:=by
 unfold cu;refine List.pairwise_map.2 (List.Pairwise.imp_of_mem (λ{x y} hx hy hne e=>?_) hM.nodup);have:=dy (hM.ne y hy);rw[<-e] at this;exact hne (hM.own x hx y hy this).symm
def vsS(M:List Ln)(y:Ln)(seen:List Nat):List AV:=(List.range M.length).map λi=>fu (if i∈seen then kG y (M.getD i default) else M.getD i default)
theorem Jm{M:List Ln}{y:Ln}:vsS M y []=M.map fu:=by
 refine List.ext_getElem (by simp[vsS]) λi h1 h2=>?_;have h2:i<M.length:=by simpa using h2
 simp[vsS,List.getD,h2]
theorem Dx{M:List Ln}{y:Ln}{seen:List Nat}{i:Nat}(hi:i<M.length)(h:i∉seen):(vsS M y seen).getD i .undef=fu (M.getD i default):=by
 simp[vsS,List.getD,hi,h]
theorem Ew{M:List Ln}{y:Ln}{seen:List Nat}{i:Nat}:(vsS M y seen).set i (fu (kG y (M.getD i default)))=vsS M y (seen++[i]):=by
 refine List.ext_getElem (by simp[vsS]) λj h1 h2=>?_;have h2:j<M.length:=by simpa[vsS] using h2
 rw[List.getElem_set];by_cases e:i=j
 ·subst e;simp[vsS]
 ·have e':¬j=i:=λh=>e h.symm;simp[vsS,e,e']
theorem Hz{M:List Ln}{y:Ln}{seen:List Nat}{i:Nat}(hi:i<M.length)(hs:i∉seen)(h:ld y.1∉(M.getD i default).1):vsS M y (seen++[i])=vsS M y seen:=by
 rw[<-Ew,show kG y (M.getD i default)=M.getD i default by unfold kG;rw[if_neg h],<-Dx (y:=y) hi hs];refine List.ext_getElem (by simp) λj h1 h2=>?_;rw[List.getElem_set];split
 ·rename_i e;subst e;simp[List.getD,h2]
 ·rfl
theorem JW{M:List Ln}{y:Ln}{seen:List Nat}(h:∀i,i<M.length->i∈seen):vsS M y seen=(M.map (kG y)).map fu:=by
 refine List.ext_getElem (by simp[vsS]) λi h1 h2=>?_;have h2:i<M.length:=by simpa using h2
 simp[vsS,List.getD,h2,h i h2]
theorem CH{R:List (List Int)}{c k:Nat}(hR:∀r∈R,bo r)(hv:∀r∈R,∀z∈r,0<=z/\z<(c:Int))(hk:k<=R.length):∀l∈(stE R k).1,BL c R.length l:=λl hl=>by
 have hs:=fJ hR hk;refine⟨gV (λr hr=>hR r (lr hr)) (λr hr=>hv r (lr hr)) (hs.inS l hl),λj hj=>?_⟩;have:=(hs.ok l hl).2 j hj;omega
theorem zx{R:List (List Int)}(hR:∀r∈R,bo r){k:Nat}(hk:k<=R.length):(stE R k).1.length<=k/\(stE R k).2.length<=k:=by
 have:=(fJ hR hk).len;omega
theorem JX{l:List Int}(h:l≠[]):eP 1 (aH l) (.int .i64 0)=some (.iptr [.int .i64 (ld l)] 0):=by
 have:=ixV (l:=l) (k:=0) (iM.2 h);exact this
theorem Bl{M:List Ln}{y:Ln}(hM:RedU M)(hy:cT y)(h0:y.1≠[])(hn:∀l∈M,ld l.1∉y.1):cu (M.map (kG y))=cu M:=by
 unfold cu;rw[List.map_map];exact wJ λl hl=>(vS hM hy h0 hn hl).2.2.2
theorem Ic{M:List Ln}(hM:RedU M){l:Ln}{v:Int}(hl:l∈M)(e:ld l.1=v):(M.find? λl=>decide (ld l.1=v))=some l:=by
 cases h:M.find? λl=>decide (ld l.1=v) with
 |none=>
  have:=List.find?_eq_none.1 h l hl;exact absurd (bd e) this
 |some m=>
  have h1:=nf (List.find?_some (p:=λl:Ln=>decide (ld l.1=v)) h);have h2:=List.mem_of_find?_eq_some h;have:=dy (hM.ne m h2);rw[h1,<-e] at this;rw[hM.own l hl m h2 this]
theorem CL{M:List Ln}{v:Int}(h:v∉cu M):(M.find? λl=>decide (ld l.1=v))=none:=
 List.find?_eq_none.2 λl hl hd=>h (oT.2 ⟨l,hl,nf hd⟩)
theorem B7{M:List Ln}{c:Nat}:(mR M c).length<=c:=by
 induction c with
 |zero=>simp[mR]
 |succ c ih=>
  rw[oQ,cA];have:(M.find? λl=>decide (ld l.1=(c:Int))).toList.length<=1:=by cases M.find? λl=>decide (ld l.1=(c:Int))<;>simp
  omega
theorem qS{H:Hp}{s:AV}{l:List (List Int)}(h:Row H 1 s (l.map aH)):Snap H s (bU l):=by
 rw[JU];exact h.snapL' (λ_=>rfl) (λx _=>dz x)
theorem dR{c:Int}{R:List (List Int)}:eB c R=.agg [.int .i64 c,bU R]:=rfl
theorem FB{r:List Int}(h:∀i,i+1<r.length->r.getD i default<r.getD (i+1) default):bo r:=by
 have hchain:∀b a,a<b->b<r.length->r.getD a default<r.getD b default:=λb=>by
  induction b with
  |zero=>intro a ha;omega
  |succ b ih=>
   intro a ha hb;have q:=h b hb;rcases(by omega:a<b\/a=b) with h|rfl
   ·have:=ih a h (by omega);omega
   ·exact q
 refine my.2 λi j hi hj hij=>?_;have:=hchain j i hij hj;simpa[List.getD,hi,hj] using this
theorem gN{c:Int}{R:List (List Int)}(h:jp c R):∀r∈R,bo r:=λr hr=>FB (h.2.2.2 r hr).2.2
theorem Oo{l:List Ln}{k:Nat}(h:k<l.length):eP 2 (nM l) (.int .i64 (k:Int))=some (.iptr [aH (l.getD k default).1,aH (l.getD k default).2] 0):=by
 unfold nM;rw[oE,if_pos ⟨by omega,by omega⟩,cC];rfl
theorem vR{l:List Ln}:dH (nM l)=some (.int .i64 l.length):=mH
theorem mc{R:List (List Int)}{c:Nat}:(lZ R c).length<=c:=B7
theorem r_4{T:Tm}{H:Hp}{K:AV->Prop}{a b c d:RV}{x y z u:AV}(ha:rv T H a=some x)(hb:rv T H b=some y)(hc:rv T H c=some z)(hd:rv T H d=some u)(h:K (.tup [x,y,z,u])):bw T H K [a,b,c,d]:=by
 show zq T H [a,b,c,d] λxs=>K (.tup xs);simp only[zq,ha,hb,hc,hd];exact h
theorem mU{c:List Spx}(h:ay c=0):∀s∈c,Shn s:=λs hs=>show _<=_ by
 have:=(bQ ((cp h).2.1 s hs)).2.1;omega
def jE(c:List Spx):Nat->Int
 |0=>0
 |k+1=>if (k+1)%2=1 then jE c k+((iY c (k+1)).length:Int) else jE c k-((iY c (k+1)).length:Int)
theorem yU{c:List Spx}(h:∀k,(iY c k).length<=3500):∀k:Nat,-(3500*(k:Int))<=jE c k/\jE c k<=3500*(k:Int)
 |0=>⟨by show -(3500*((0:Nat):Int))<=(0:Int);omega,by show(0:Int)<=3500*((0:Nat):Int);omega⟩
 |k+1=>by
  have:=yU h k;have h2:=h (k+1);unfold jE;split<;>omega
def ol(c:List Spx):Nat->Int×Int
 |0=>(8,0)
 |k+1=>(min (ol c k).1 ((c.getD k default).length:Int),max (ol c k).2 ((c.getD k default).length:Int))
theorem zd{c:List Spx}{m:Int}(h0:0<=m)(h:∀s∈c,(s.length:Int)<=m):∀{k:Nat},k<=c.length->0<=(ol c k).2/\(ol c k).2<=m
 |0,_=>⟨Int.le_refl _,h0⟩
 |k+1,hk=>by
  have:=zd h0 h (k:=k) (by omega);have h2:=h _ (az (l:=c) (i:=k) (by omega));unfold ol;dsimp only;omega
def fM(c:List Spx):Int:=(ol c c.length).2
def HV(c:List Spx):Bool:=decide ((ol c c.length).2=0) || decide ((ol c c.length).1=(ol c c.length).2)
theorem L5{c:List Spx}(hc:ay c=0){k:Nat}(hk:8<k):iY c k=[]:=by
 refine qE.2 λs hs=>?_;obtain⟨t,ht,h⟩:=ue.1 hs;obtain⟨h1,h2⟩:=fe.1 h;have:=(bQ ((cp hc).2.1 t ht)).2.1;have:=h1.length_le;omega
theorem AG{c:List Spx}{k:Nat}:an c (k:Int)=if k=0 then [] else iY c k:=by
 unfold an;by_cases h:k=0
 ·rw[if_pos (by omega),if_pos h]
 ·rw[if_neg (by omega),if_neg h,cC]
theorem de{c:List Spx}(hc:ay c=0)(hl:c.length<=50){d:Int}:(an c d).length<=3500:=by
 unfold an;split
 ·simp
 ·exact nr hl λs hs=>(bQ ((cp hc).2.1 s hs)).2.1
theorem Dk{c:List Spx}(hc:ay c=0){d:Int}(h:8<d):an c d=[]:=by
 unfold an;rw[if_neg (by omega)];exact L5 hc (by omega)
theorem A6{Y:List Spx}:bZ [] Y=List.replicate Y.length []:=by
 refine List.ext_getElem (by simp[bZ]) λi h1 h2=>?_;simp[bZ,cq,jX]
theorem FM{H:Hp}{b n:Nat}(h:H b=some (List.replicate n .esl)):Snap H (.msl b n 1 0 n) (bU (List.replicate n [])):=by
 refine GM h (by simp) ⟨by simp,λi x y hx hy=>?_⟩;obtain⟨h1,rfl⟩:=bN.1 hx;obtain⟨h2,rfl⟩:=bN.1 hy;simp only[List.getElem_map,List.getElem_replicate];exact .eslsl 1
def rkF(c:List Spx)(d:Nat):Nat:=(ed (bZ (an c ((d:Int)+1)) (an c d)) (an c ((d:Int)+1)).length).length
def btF(c:List Spx)(d:Nat):Int:=((an c ((d:Int)+1)).length:Int)-(rkF c d:Int)-(rkF c (d+1):Int)
def btL(c:List Spx)(m:Nat):List Int:=(List.range m).map (btF c)
theorem oa{c:List Spx}{d:Nat}:rkF c d<=(an c ((d:Int)+1)).length:=by
 unfold rkF ed;rw[bt];exact mc
theorem nF{c:List Spx}(hc:ay c=0):∃m:Nat,fM c=m/\m<=8:=by
 have h:=zd (c:=c) (m:=8) (by omega) (λs hs=>by have:=(bQ ((cp hc).2.1 s hs)).2.1;omega) (aJ _);exact⟨(fM c).toNat,by unfold fM;omega,by unfold fM;omega⟩
def rkK(n:Nat):List Int:=cq (List.range n)
theorem ms{n d:Nat}:(d:Int)∈rkK n↔d<n:=by
 unfold rkK;rw[kE];exact⟨λ⟨i,h1,h2⟩=>by have:=du.1 h1;omega,λh=>⟨d,du.2 h,rfl⟩⟩
theorem tP{n d:Nat}(h:d<n):(rkK n).idxOf (d:Int)=d:=by
 have hn:(rkK n).Nodup:=yO (λ{x y}(q:x<y) e=>by omega) (fH List.pairwise_lt_range);have h1:=qU.2 (ms.2 h);have hl:d<(rkK n).length:=by unfold rkK cq;simpa using h
 have h2:(rkK n)[d]=(d:Int):=by
  have h4:(rkK n)[d]=(((List.range n)[d]'(by simpa using h):Nat):Int):=List.getElem_map ..;rw[h4,List.getElem_range]
 have h3:(rkK n)[(rkK n).idxOf (d:Int)]=(rkK n)[d]:=by rw[List.getElem_idxOf h1,h2]
 exact(List.getElem_inj hn).1 h3
theorem zT{n:Nat}:rkK (n+1)=rkK n++[(n:Int)]:=by unfold rkK cq;rw[List.range_succ,dr];rfl
def rkV(c:List Spx)(n:Nat):List AV:=(List.range n).map λd=>.int .i64 (rkF c d)
theorem BD{c:List Spx}{n:Nat}:rkV c (n+1)=rkV c n++[.int .i64 (rkF c n)]:=by unfold rkV;rw[List.range_succ,dr];rfl
theorem tG{c:List Spx}{n d:Nat}(h:d<n):(rkV c n).getD d .undef=.int .i64 (rkF c d):=by unfold rkV;simp[List.getD,h]
theorem BU{c:List Spx}{n:Nat}:btL c (n+1)=btL c n++[btF c n]:=by unfold btL;rw[List.range_succ,dr];rfl
theorem BM{a:List Spx}(h:a≠[]):eP 1 (ak a) (.int .i64 0)=some (.iptr [ar (a.getD 0 default)] 0):=by
 have:=eO (l:=a) (k:=0) (iM.2 h);exact this
def nP(R:List (List Int))(y:List Int):List Int:=y.foldl (λa i=>bX a (R.getD i.toNat default)) []
theorem xH{R:List (List Int)}{y:List Int}{i:Int}:nP R (y++[i])=bX (nP R y) (R.getD i.toNat default):=by unfold nP;rw[List.foldl_append];rfl
theorem D7{R:List (List Int)}{c:Nat}(hR:∀r∈R,bo r)(hv:∀r∈R,∀z∈r,0<=z/\z<(c:Int)){y:List Int}(hy:∀i∈y,0<=i/\i<(R.length:Int)):∀k,k<=y.length->bo (nP R (y.take k))/\∀z∈nP R (y.take k),0<=z/\z<(c:Int)
 |0,_=>⟨lS,λz h=>(by cases h)⟩
 |k+1,hk=>by
  obtain⟨h1,h2⟩:=D7 hR hv hy k (by omega);have hi:=hy _ (az (l:=y) (i:=k) (by omega));have hm:R.getD (y.getD k default).toNat default∈R:=az (by omega);rw[bD (show k<y.length by omega),xH];refine⟨dE h1 (hR _ hm),λz hz=>?_⟩;rcases(c6 h1 (hR _ hm)).1 hz with q|q
  ·exact h2 z q.1
  ·exact hv _ hm z q.1
def Md(R:List (List Int))(b y:List Int):Int:=if nP R y=[] then(if kY y b=true then 0 else 18) else 18
def n7(H:Hp)(s:AV)(l:List (List Int)):Prop:=s=bU l\/Row H 1 s (l.map aH)
theorem n7.src{H H':Hp}{s:AV}{l:List (List Int)}(h:n7 H s l)(hs:∀b,cf s=some b->H' b=H b):gC 1 H' s=some (l.length,l.map aH):=by
 rcases h with rfl|h
 ·exact kr
 ·have h:=h.same hs;generalize hc:l.map aH=cs at h;have hl:l.length=cs.length:=by rw[<-hc,bt]
  cases h with
  |nil=>rw[hl];rfl
  |box b len cs hb hn=>
   rw[Nat.mul_one] at hn;rw[gK hb (by rw[hn,Nat.mul_one]) (by omega),hl,hn,Nat.mul_one,List.drop_zero,eM (by omega)]
theorem n7.len{H:Hp}{s:AV}{l:List (List Int)}(h:n7 H s l):eT s=some l.length:=by
 rcases h with rfl|h
 ·exact Aq
 ·generalize hc:l.map aH=cs at h;have hl:l.length=cs.length:=by rw[<-hc,bt]
  cases h with
  |nil=>rw[hl];rfl
  |box b len cs hb hn=>rw[hl,hn,Nat.mul_one];rfl
theorem n7.snap{H:Hp}{s:AV}{l:List (List Int)}(h:n7 H s l):Snap H s (bU l):=by
 rcases h with rfl|h
 ·exact(oG l).snap
 ·exact qS h
theorem vL{H:Hp}{s:AV}{cs:List AV}(h:Row H 1 s cs)(c:Int):eU [AV.int .i64 0,.esl] [(0,1,.int .i64 c),(1,1,s)]=some [.int .i64 c,s]:=by cases h<;>rfl
theorem Eo{l:List (List Int)}:AV.ones (l.map aH)=true:=by
 unfold AV.ones;rw[eA];intro x hx;obtain⟨y,_,rfl⟩:=bu.1 hx;rfl
def Ja(x:AV):Option AV:=match x with|.ptr b n o=>some (.ptr b n o)|.iptr c o=>some (.iptr c o)|.func f c=>some (.func f c)|_=>none
theorem NK:(∀(T:Tm)(H:Hp)(x:Opd),cw T H (.nilck x)=Ja (ov T x))/\(∀b n o:Nat,Ja (.ptr b n o)=some (.ptr b n o)):=⟨λ_ _ _=>rfl,λ_ _ _=>rfl⟩
structure CmpO{α:Type}(P:Program)(f:α->AV)(K:α->α->Int)(G:α->Prop):Prop where
 cells:∀x,(f x).cells=[f x]
 one:∀x,(f x).one=true
 dat:∀x,Dat (f x)
 run:∀x y,G x->G y->Go.Abs.Pure P 187 [f x,f y] (.bool (decide (K x y<0)))
 ord:Ord K
theorem Qg:Ord (λx y:Int=>x-y):=⟨λx=>by omega,λx y h=>by omega,λx y z h1 h2=>by omega⟩
theorem BG{H:Hp}{sv:AV}{l:List Int}(h:Row H 1 sv (l.map (AV.int .i64)))(h0:0<l.length):∃B,sv=.msl B l.length 1 0 l.length/\H B=some (l.map (AV.int .i64)):=by
 generalize hcs:l.map (AV.int .i64)=cs at h;have hl:cs.length=l.length:=by rw[<-hcs,bt]
 cases h with
 |nil=>simp at hl;omega
 |box B len cs h1 h2=>
  have e:len=l.length:=by omega
  subst e;exact⟨B,by rw[Nat.mul_one],h1⟩
def rb(E:List (List Int))(q:Nat):List Int:=E.foldl (λa r=>if (q:Int)∈r then bX a [ld r] else a) [(q:Int)]
def qD(E:List (List Int))(q:Nat):List Int:=(q:Int)::(E.filter λr=>decide ((q:Int)∈r)).map ld
def zt(E:List (List Int))(c:Nat):List Nat:=(List.range c).filter λq=>decide ((q:Int)∉E.map ld)
def iK(E:List (List Int))(c:Nat):List (List Int):=(zt E c).map (rb E)
theorem xo{E:List (List Int)}{k:Nat}:iK E (k+1)=iK E k++if (k:Int)∈E.map ld then [] else [rb E k]:=by
 unfold iK zt;rw[List.range_succ,vj,dr]
 congr 1
 by_cases h:(k:Int)∈E.map ld
 ·rw[if_pos h,tB (by simpa using h)];rfl
 ·rw[if_neg h,tC (by simpa using h)];rfl
theorem B9{E:List (List Int)}{k:Nat}:(iK E k).length<=k:=by
 unfold iK zt;rw[bt];exact fp (List.length_filter_le _ _) (by simp)
theorem EU{E:List (List Int)}{q j:Nat}(h:j<E.length):qD (E.take (j+1)) q=qD (E.take j) q++if (q:Int)∈E.getD j default then [ld (E.getD j default)] else []:=by
 unfold qD;rw[bD h,vj,dr,List.cons_append]
 congr 2
 by_cases h:(q:Int)∈E.getD j default
 ·rw[if_pos h,tC (by simpa using h)];rfl
 ·rw[if_neg h,tB (by simpa using h)];rfl
theorem A4{E:List (List Int)}{q:Nat}:(qD E q).length<=E.length+1:=by
 unfold qD;rw[bL,bt];exact Nat.succ_le_succ (List.length_filter_le _ _)
theorem rU{q:Nat}:∀{E:List (List Int)}{a:List Int},E.Pairwise (λr s=>ld r<ld s)->bo a->(∀r∈E,ld r∉a)->
    bo (E.foldl (λa r=>if (q:Int)∈r then bX a [ld r] else a) a)/\∀z,z∈E.foldl (λa r=>if (q:Int)∈r then bX a [ld r] else a) a↔z∈a\/ ∃r∈E,(q:Int)∈r/\z=ld r
 |[],a,_,h2,_=>⟨h2,λz=>⟨.inl,λh=>h.elim id λ⟨r,hr,_⟩=>by cases hr⟩⟩
 |x::E,a,h1,h2,h3=>by
  have hx:=iz.1 h1;rw[List.foldl_cons];by_cases h:(q:Int)∈x
  ·rw[if_pos h];have hs:bo [ld x]:=List.pairwise_singleton _ _;have hna:=h3 x (cW ..)
   have hm:∀z,z∈bX a [ld x]↔z∈a\/z=ld x:=λz=>by
    rw[c6 h2 hs,bT];constructor
    ·rintro(q|q)
     ·exact .inl q.1
     ·exact .inr q.1
    ·rintro(q|rfl)
     ·exact .inl ⟨q,λe=>hna (e▸q)⟩
     ·exact .inr ⟨rfl,hna⟩
   obtain ⟨i1,i2⟩:=rU (q:=q) hx.2 (dE h2 hs) (fun r hr hz=>by
    rcases(hm _).1 hz with g|g
    ·exact h3 r (dS _ hr) g
    ·have:=hx.1 r hr;omega)
   refine⟨i1,λz=>(i2 z).trans ?_⟩;rw[hm];constructor
   ·rintro((g|g)|⟨r,hr,g⟩)
    ·exact .inl g
    ·exact .inr ⟨x,cW ..,h,g⟩
    ·exact .inr ⟨r,dS _ hr,g⟩
   ·rintro(g|⟨r,hr,g1,g2⟩)
    ·exact .inl (.inl g)
    ·rcases cU.1 hr with rfl|hr
     ·exact .inl (.inr g2)
     ·exact .inr ⟨r,hr,g1,g2⟩
  ·rw[if_neg h];obtain⟨i1,i2⟩:=rU (q:=q) hx.2 h2 (λr hr=>h3 r (dS _ hr));refine⟨i1,λz=>(i2 z).trans ?_⟩;constructor
   ·rintro(g|⟨r,hr,g⟩)
    ·exact .inl g
    ·exact .inr ⟨r,dS _ hr,g⟩
   ·rintro(g|⟨r,hr,g1,g2⟩)
    ·exact .inl g
    ·rcases cU.1 hr with rfl|hr
     ·exact absurd g1 h
     ·exact .inr ⟨r,hr,g1,g2⟩
theorem ky{E:List (List Int)}{q:Nat}(hE:Red E)(hq:(q:Int)∉E.map ld):bo (rb E q)/\∀z,z∈rb E q↔z=q\/ ∃r∈E,(q:Int)∈r/\z=ld r:=by
 have:=rU (q:=q) (a:=[(q:Int)]) hE.ord (List.pairwise_singleton _ _) (λr hr h=>hq (by rw[bT] at h;rw[<-h];exact List.mem_map_of_mem hr));exact⟨this.1,λz=>(this.2 z).trans (by rw[bT])⟩
theorem H7{E:List (List Int)}{q:Nat}{z:Int}:z∈qD E q↔z=q\/ ∃r∈E,(q:Int)∈r/\z=ld r:=by
 unfold qD;rw[cU,bu];constructor
 ·rintro(h|⟨r,hr,e⟩)
  ·exact .inl h
  ·have:=dJ.1 hr;exact .inr ⟨r,this.1,nf this.2,e.symm⟩
 ·rintro(h|⟨r,hr,g,e⟩)
  ·exact .inl h
  ·exact .inr ⟨r,dJ.2 ⟨hr,bd g⟩,e.symm⟩
theorem C0{E:List (List Int)}{q:Nat}(hE:Red E)(hq:(q:Int)∉E.map ld):(qD E q).Nodup:=by
 unfold qD;refine List.nodup_cons.2 ⟨λh=>?_,?_⟩
 ·obtain⟨r,hr,e⟩:=bu.1 h;exact hq (e▸List.mem_map_of_mem (dJ.1 hr).1)
 ·rw[List.Nodup,List.pairwise_map];exact(hE.ord.sublist wx).imp λ{x y} h e=>by omega
theorem EL{E:List (List Int)}{q:Nat}(hE:Red E)(hq:(q:Int)∉E.map ld){L:List Int}(hp:L.Perm (qD E q))(hs:L.Pairwise (· <= ·)):L=rb E q:=by
 have hn:L.Nodup:=hp.nodup_iff.2 (C0 hE hq)
 have ha:bo L:=(hs.and hn).imp λ{x y} h=>by
  have h1:=h.1;have h2:x≠y:=h.2;show x<y;omega
 obtain⟨k1,k2⟩:=ky hE hq;refine nN ha k1 λz=>?_;rw[hp.mem_iff,k2,H7]
def pp(k:Nat):List AV:=List.replicate k (.bool true)
theorem Fx{k i:Nat}(h:i<k):Go.Abs.mget (.bool false) false (some i) (pp k)=.bool true:=by
 show(pp k).getD i _=_;simp[pp,List.getD,h]
theorem tK{R:List (List Int)}{n q:Nat}:(trF R n q).Pairwise (· < ·):=List.Pairwise.filter _ List.pairwise_lt_range
theorem L4{R:List (List Int)}{c:Nat}(hR:R.length<=4096)(hc:c<=4096):jp R.length (trL c R):=by
 refine⟨by omega,by omega,by unfold trL;rw[bt,List.length_range];exact hc,λr hr=>?_⟩;unfold trL at hr;obtain⟨q,hq,rfl⟩:=bu.1 hr;refine⟨λv hv=>?_,?_,wc (fH tK)⟩
 ·unfold cq at hv;obtain⟨j,hj,rfl⟩:=bu.1 hv;unfold trF at hj;have:=du.1 (dJ.1 hj).1;omega
 ·unfold cq;rw[bt];exact fp Eb hR
def bdN(c:List Spx)(d:Nat):Nat:=(an c ((d:Int)+1)).length
def bdM(c:List Spx)(d:Nat):List (List Int):=trL (an c ((d:Int)+1+1)).length (bZ (an c ((d:Int)+1+1)) (an c ((d:Int)+1)))
def bdE(c:List Spx)(d:Nat):List (List Int):=ed (bdM c d) (bdN c d)
theorem rf{c:List Spx}{d:Nat}(hc:ay c=0)(hl:c.length<=50):jp (bdN c d) (bdM c d):=by
 have h1:=de hc hl (d:=(d:Int)+1);have h2:=de hc hl (d:=(d:Int)+1+1);have:=L4 (R:=bZ (an c ((d:Int)+1+1)) (an c ((d:Int)+1))) (c:=(an c ((d:Int)+1+1)).length) (by rw[dF];omega) (by omega);rw[dF] at this;exact this
theorem Ep{c:List Spx}{d:Nat}:(bdE c d).length<=bdN c d:=by unfold bdE ed;rw[bt];exact mc
def bsT(E:List (List Int))(n:Nat)(K:List (List Int)):Nat->List (List Int)
 |0=>[]
 |k+1=>if (ed ((E++bsT E n K k)++[K.getD k default]) n).length=(ed (E++bsT E n K k) n).length then bsT E n K k else bsT E n K k++[K.getD k default]
theorem Ed{E:List (List Int)}{n:Nat}{K:List (List Int)}:∀{k:Nat},(bsT E n K k).length<=k
 |0=>aJ _
 |k+1=>by
  have:=Ed (E:=E) (n:=n) (K:=K) (k:=k);unfold bsT;split
  ·omega
  ·rw[cA];simp only[bL,eW];omega
theorem zD{E:List (List Int)}{n:Nat}{K:List (List Int)}:∀{k:Nat},k<=K.length->∀v∈bsT E n K k,v∈K
 |0,_,v,h=>by cases h
 |k+1,hk,v,h=>by
  unfold bsT at h;split at h
  ·exact zD (by omega) v h
  ·rcases dZ.1 h with h|h
   ·exact zD (by omega) v h
   ·rw[bT] at h;subst h;exact az (by omega)
theorem Jg{E:List (List Int)}{n:Nat}(hE:Red E)(hv:∀r∈E,∀z∈r,0<=z/\z<(n:Int)):ed E n=E:=by
 obtain⟨h1,h2,-⟩:=gF hE.asc hv;exact qu h1 hE h2
theorem Bo{c:Int}{R S:List (List Int)}(h:jp c R)(hl:S.length<=4096)(hs:∀r∈S,r∈R):jp c S:=⟨h.1,h.2.1,hl,λr hr=>h.2.2.2 r (hs r hr)⟩
theorem Bh{c:Int}{R S:List (List Int)}(h:jp c R)(h2:jp c S)(hl:R.length+S.length<=4096):jp c (R++S):=⟨h.1,h.2.1,by rw[cA];exact hl,λr hr=>(dZ.1 hr).elim (h.2.2.2 r) (h2.2.2.2 r)⟩
theorem n7.same{H H':Hp}{s:AV}{l:List (List Int)}(h:n7 H s l)(hs:∀b,cf s=some b->H' b=H b):n7 H' s l:=by
 rcases h with h|h
 ·exact .inl h
 ·exact .inr (h.same hs)
theorem vV{c:List Spx}:b7 c=.agg [ak c]:=rfl
def bsK(c:List Spx)(d:Nat):List (List Int):=iK (ed (bZ (an c ((d:Int)+1)) (an c d)) (bdN c d)) (bdN c d)
theorem yj{c:List Spx}{d:Nat}(hc:ay c=0)(hl:c.length<=50):jp (bdN c d) (bZ (an c ((d:Int)+1)) (an c d)):=by
 have h1:=de hc hl (d:=(d:Int)+1);have h2:=de hc hl (d:=(d:Int));exact oX (X:=an c ((d:Int)+1)) (Y:=an c d) (by omega) (by omega)
theorem rh{c:Nat}{R:List (List Int)}(h:jp c R):∀r∈R,∀z∈r,0<=z/\z<(c:Int):=λr hr=>(h.2.2.2 r hr).1
theorem Ey{c:Nat}{R:List (List Int)}(hc:c<=4096)(hl:R.length<=4096)(ha:∀r∈R,bo r)(hv:∀r∈R,∀z∈r,0<=z/\z<(c:Int)):jp c R:=
 ⟨by omega,by omega,hl,λr hr=>⟨hv r hr,by have:=gx (ha r hr) (hv r hr);omega,wc (ha r hr)⟩⟩
theorem DG{c:Nat}{R:List (List Int)}(h:jp c R):Red (ed R c)/\(∀v,Sp (ed R c) v↔Sp R v)/\(∀r∈ed R c,∀z∈r,0<=z/\z<(c:Int))/\(ed R c).length<=c:=by
 obtain⟨h1,h2,-⟩:=gF (gN h) (rh h);exact⟨h1,h2,λr hr=>gV (gN h) (rh h) ((h2 r).1 (dC hr)),by unfold ed;rw[bt];exact mc⟩
theorem yR{E:List (List Int)}{c:Nat}(hE:Red E)(hv:∀r∈E,∀z∈r,0<=z/\z<(c:Int)):∀v∈iK E c,bo v/\∀z∈v,0<=z/\z<(c:Int):=λv h=>by
 unfold iK at h;obtain⟨q,hq,rfl⟩:=bu.1 h;have hq:=dJ.1 hq;have hqc:=du.1 hq.1;obtain⟨k1,k2⟩:=ky hE (nf hq.2);refine⟨k1,λz hz=>?_⟩;rcases(k2 z).1 hz with rfl|⟨r,hr,_,rfl⟩
 ·omega
 ·exact hv r hr _ (dy (hE.ne r hr))
theorem CV{c:List Spx}{d:Nat}(hc:ay c=0)(hl:c.length<=50):jp (bdN c d) (bsK c d)/\(bsK c d).length<=bdN c d:=by
 have hn:bdN c d<=3500:=de hc hl;obtain⟨h1,-,h2,-⟩:=DG (yj (d:=d) hc hl);have hk:=yR h1 h2;have hll:(bsK c d).length<=bdN c d:=B9;exact⟨Ey (by omega) (by omega) (λv h=>(hk v h).1) λv h=>(hk v h).2,hll⟩
theorem Lf{c:List Spx}{d:Nat}(hc:ay c=0)(hl:c.length<=50):jp (bdN c d) (bdE c d)/\Red (bdE c d)/\(∀v,Sp (bdE c d) v↔Sp (bdM c d) v):=by
 have hn:bdN c d<=3500:=de hc hl;obtain⟨h1,h2,h3,h4⟩:=DG (rf (d:=d) hc hl);exact⟨Ey (by omega) (fp h4 (by omega)) h1.asc h3,h1,h2⟩
def JL(o:Option Nat):List Nat:=match o with|some x=>[x]|none=>[]
theorem Bj{o:Option Nat}{x:Nat}:x∈JL o↔o=some x:=by cases o<;>simp[JL];exact eq_comm
section
attribute [local irreducible] aM am bn aZ aS aV aD aX ba bw Go.Abs.Fn aY Go.Abs.Pure aq aO Yl
theorem vX(a:List Spx)(ha:ShC a):pU 75 [ak a] (.int .i64 (ll a)):=by
 refine pO P6 ?_;simp only[b75,aK];have ha':a.length<=17592186044416:=ha.1;unfold ll;by_cases h0:4096<a.length
 ·rw[if_pos h0];refine wnZ (zI3 @ah @ai @af) ?_
  all_goals exact eV rfl
 rw[if_neg h0];refine wnZ (zI3 @ah @ai @af) ?_;refine od (X:=Nat) (λk=>[(0,ak a),(9,ak a),(10,.int .i64 a.length),(11,.int .i64 k)]) (λk=>k<=a.length/\∀i,i<k->Jj a i=0) (λk=>a.length-k) 0 ⟨bW _,λi h=>absurd h (by omega)⟩ ag0 ?_;rintro k ⟨h1,h2⟩;by_cases hk:k<a.length
 rotate_left
 ·rw[dU λi hi=>h2 i (by omega)];refine wnY and_self ?_;exact .int _ _
 have ix:=eO hk;have i0:=PP (l:=a) (by omega);have hs1:=ha.2 _ (az hk);have hp:=qW (a.getD k default) hs1;have hsp:=Cj (a:=a) (k:=k);by_cases he:ce (a.getD k default)≠0
 ·rw[if_pos he] at hsp;rw[dM hk h2 (by rw[hsp];exact he),hsp];have z:decide (ce (a.getD k default)≠0)=true:=bd he;refine wnY (zI4 @ah @au @ix @z) ?_;exact .int _ _
 rw[if_neg he] at hsp;have he:=tt he;rw[he] at hp;have z:decide ((0:Int)≠0)=false:=rfl;by_cases hl:(a.getD k default).length≠(a.getD 0 default).length
 ·rw[if_pos hl] at hsp;rw[dM hk h2 (by rw[hsp];decide),hsp];have z1:decide (((a.getD k default).length:Int)≠(a.getD 0 default).length)=true:=bd (by omega);refine wnY (zI6 @ah @au @ix @i0 @z @z1) ?_;exact .int _ _
 rw[if_neg hl] at hsp;have z1:decide (((a.getD k default).length:Int)≠(a.getD 0 default).length)=false:=bh (by omega);by_cases hk0:0<k
 rotate_left
 ·rw[if_neg (λh=>hk0 h.1)] at hsp;have zk:decide (0<(k:Int))=false:=bh (by omega);refine wnY (zI7 @ah @au @ix @i0 @z @z1 @zk) ?_
  exact ⟨k + 1,⟨by omega,fun i hi=>by
   rcases kH.1 hi with h'|rfl
   ·exact h2 i h'
   ·exact hsp⟩,by omega,ag0,rfl,rfl⟩
 have zk:decide (0<(k:Int))=true:=bd (by omega)
 have iy:eP 1 (ak a) (.int .i64 ((k:Int)-1))=some (.iptr [ar (a.getD (k-1) default)] 0):=by
  have:=eO (l:=a) (k:=k-1) (by omega)
  rwa [show((k-1:Nat):Int)=(k:Int)-1 by omega] at this
 have hcm:=im (a.getD (k-1) default) (a.getD k default) (ha.2 _ (az (by omega))) hs1;by_cases hv:0<=bK (a.getD (k-1) default) (a.getD k default)
 ·have z2:decide (0<=bK (a.getD (k-1) default) (a.getD k default))=true:=bd hv;rw[if_pos ⟨hk0,hv⟩] at hsp;rw[dM hk h2 (by rw[hsp];decide),hsp];refine wnY (zI9 @ah @au @ix @i0 @iy @z @z1 @zk @z2) ?_;exact .int _ _
 ·have z2:decide (0<=bK (a.getD (k-1) default) (a.getD k default))=false:=bh hv;rw[if_neg (λh=>hv h.2)] at hsp;refine wnY (zI9 @ah @au @ix @i0 @iy @z @z1 @zk @z2) ?_
  exact ⟨k + 1,⟨by omega,fun i hi=>by
   rcases kH.1 hi with h'|rfl
   ·exact h2 i h'
   ·exact hsp⟩,by omega,ag0,rfl,rfl⟩
def wz(a:List Spx):Bool:=((a.take 50).all λs=>decide (s.length<=10))&&(decide (a.length<=40) || decide (4096<a.length))
theorem K8(a:List Spx)(ha:ShC a):pU 40 [ak a] (.bool (wz a)):=by
 refine pO Qn ?_;simp only[b40,aK];have ha':a.length<=17592186044416:=ha.1;have hlt:(a.take 50).length=min 50 a.length:=fY;refine wnZ @ah ?_;refine od (X:=Nat) (λk=>[(0,ak a),(3,.int .i64 k)]) (λk=>k<=(a.take 50).length/\∀i,i<k->decide (((a.take 50).getD i default).length<=10)=true) (λk=>(a.take 50).length-k) 0 ⟨bW _,λi h=>absurd h (by omega)⟩ ag0 ?_;rintro k ⟨h1,h2⟩;by_cases hk:k<(a.take 50).length
 rotate_left
 ·have e:wz a=(decide (a.length<=40) || decide (4096<a.length)):=by
    unfold wz;rw[lN λi hi=>h2 i (by omega),Bool.true_and]
  rw[e];by_cases h3:a.length<=40
  ·have y1:decide ((a.length:Int)<=40)=true:=bd (by omega);have y2:decide ((k:Int)<a.length)=false:=bh (by omega);rw[bd h3];refine wnY (zI3 @ah @y1 @y2) ?_;exact .bool _
  ·have y1:decide ((a.length:Int)<=40)=false:=bh (by omega);rw[bh h3,Bool.false_or];by_cases h4:k<a.length
   ·have y2:decide ((k:Int)<a.length)=true:=bd (by omega);have y3:decide ((k:Int)<50)=false:=bh (by omega);refine wnY (zI4 @ah @y1 @y2 @y3) ?_;exact cQ (decide_eq_decide.2 (by omega))
   ·have y2:decide ((k:Int)<a.length)=false:=bh (by omega);refine wnY (zI3 @ah @y1 @y2) ?_;exact cQ (decide_eq_decide.2 (by omega))
 have hk1:k<a.length:=by omega
 have ix:=eO hk1;have e:(a.take 50).getD k default=a.getD k default:=rP (by omega);have y2:decide ((k:Int)<a.length)=true:=bd (by omega);have y3:decide ((k:Int)<50)=true:=bd (by omega);by_cases hs:(a.getD k default).length<=10
 ·have y4:decide ((10:Int)<(a.getD k default).length)=false:=bh (by omega);refine wnY (zI6 @ah @au @ix @y2 @y3 @y4) ?_
  exact ⟨k + 1,⟨by omega,fun i hi=>by
   rcases kH.1 hi with h'|rfl
   ·exact h2 i h'
   ·rw[e];exact bd hs⟩,by omega,ag0,rfl,rfl⟩
 ·have y4:decide ((10:Int)<(a.getD k default).length)=true:=bd (by omega)
  have e2:wz a=false:=by
   unfold wz;rw[ke hk (by rw[e];exact bh hs),Bool.false_and]
  rw[e2];refine wnY (zI6 @ah @au @ix @y2 @y3 @y4) ?_;exact .bool _
theorem xU(l:List Spx)(hl:l.length<=100000)(hs:∀x∈l,x.length<=1000000):pU 84 [ak l] (ak l):=by
 refine pO Qh ?_;simp only[b84,aK];refine wnZ @ah ?_;refine ca (X:=AV×Nat) (λx=>[(3,x.1),(6,ak l),(7,.int .i64 l.length),(8,.int .i64 x.2)]) (λx H nx=>x.2<=l.length/\Row H 1 x.1 ((l.take x.2).map ar)/\∀b,cf x.1=some b->b<nx) (λx=>l.length-x.2) (.esl,0) ⟨bW _,Row.nil,λb hb=>(by cases hb)⟩ ag0 ?_;rintro⟨s,j⟩ H nx ⟨h1,h2,h3⟩;dsimp only at h1 h2 h3 |-;by_cases hj:j<l.length
 ·have hw:=az hj;have hcl:=xQ _ (hs _ hw);have ix:=eO hj;refine wnY @ix ?_;refine gy ev0 ev0 hcl (ag (c8 _ _) aj) ?_;refine wnY (aI @bf @aR) ?_;refine mY rfl ev0 (h2.same λb hb=>?_) ev0 jh rfl rfl ng (by simp;omega) (by simp;omega) ?_
  ·have:=h3 b hb;rw[ab (by omega)]
  rintro s2 E e hrow hle1 hle2 hsame hb2;refine wnY and_self ?_;refine⟨(s2,j+1),by dsimp only;omega,⟨by dsimp only;omega,?_,λb hb=>?_⟩,ag0⟩
  ·dsimp only;rw[Dh hj,dr];exact hrow
  ·rcases hb2 b hb with h|h
   ·have:=h3 b h;omega
   ·omega
 ·refine wnY and_self ?_;rw[eM (by omega)] at h2;exact iu h2
theorem FR(l:List Spx)(hl:Shn l)(hs:∀x∈l,x.length<=1000000):pU 76 [ak l] (.tup [ak (if 4096<l.length then [] else l),.int .i64 (if 4096<l.length then 5 else 0)]):=by
 refine pO Qs ?_;simp only[b76,aK];have hl':l.length<=17592186044416:=hl;by_cases h:4096<l.length
 ·have z:decide ((4096:Int)<l.length)=true:=bd (by omega);rw[if_pos h,if_pos h];refine wnY (aI @ah @z) ?_;exact fg (.eslsl _) rfl
 ·have z:decide ((4096:Int)<l.length)=false:=bh (by omega);rw[if_neg h,if_neg h];have hc:=xU l (by omega) hs;refine wnY (aI @ah @z) ?_;exact fg (bJ _).snap rfl
theorem AC{a:List Spx}(h:∀s∈a,ce s=0):∀s∈a,Shn s:=λs hs=>by have:=(bQ (h s hs)).2.1;show _<=_;omega
theorem Bw{a:List Spx}(h:∀s∈a,ce s=0):∀s∈a,s.length<=1000000:=λs hs=>by have:=(bQ (h s hs)).2.1;omega
theorem Dn(n:Nat)(h0:0<n)(h1:n<=1000000)(H:Hp)(nx:Nat):Abs.Fn Tryz.prog 161 [.esl,.int .i64 n] H nx λr H' nx'=>r=.msl nx (n*2) 2 0 0/\H'=ao H nx (bv (.agg [.int .i64 0,.int .i64 0]) n)/\nx'=nx+1:=by
 refine fO OT ?_;simp only[Pa,aK];have z1:decide ((n:Int)<0)=false:=bh (by omega);have z2:decide ((0:Int)<n)=true:=bd (by omega);have s2:jC 2 .esl none (some (.int .i64 0)) none=some .esl:=rfl;have s3:=uG (B:=nx) (n:=n*2) (len:=n) (k:=0) (by omega) (by omega);rw[show((0:Nat):Int)=0 from rfl] at s3;refine wnY (zI6 @z1 @z2 @s2 @Int.sub_zero @Int.sub_self @JO) ?_;refine Ms rfl (have zz:=@s2;evY) ev0 (by omega) (by omega) (by omega) ?_;refine wnY @s3 ?_;exact⟨rfl,rfl,rfl⟩
theorem oY{c:List Spx}{k:Nat}(hk:k<c.length):(c.take (k+1)).flatten=(c.take k).flatten++c.getD k default:=by
 rw[bD hk,List.flatten_append];simp
theorem E5(c:List Spx)(h0:c≠[])(hs:∀s∈c,s≠[])(hl:c.flatten.length<=1000000)(hc:c.length<=1000000)(H:Hp)(nx:Nat):
    Abs.Fn Tryz.prog 141 [ak c] H nx λr H' nx'=>r=.msl nx (c.flatten.length*2) 2 0 c.flatten.length/\H'=ao H nx (cX c.flatten)/\nx'=nx+1:=by
 refine fO KJ ?_;simp only[Mu,aK]
 have hpos:0<c.flatten.length:=by
  rw[iM];intro e;obtain⟨s,hm⟩:=List.exists_mem_of_ne_nil c h0;exact hs s hm (List.flatten_eq_nil_iff.1 e s hm)
 have hle:∀k,(c.take k).flatten.length<=c.flatten.length:=λk=>by
  have:c.flatten=(c.take k).flatten++(c.drop k).flatten:=by rw[<-List.flatten_append,Cf]
  rw[this,cA];omega
 refine dT ?_
 repeat' (first|apply a_n|refine zO ?_|refine vY ?_|fail)
 refine dT ?_
 repeat' (first|apply a_n|refine zO ?_|refine vY ?_|fail)
 refine cR (λT H' nx'=>T 0=ak c/\T 3=.int .i64 (c.flatten.length:Nat)/\H=H'/\nx=nx') ?_ ?_
 ·refine wnY @ah ?_;refine od (X:=Nat) (λk=>[(0,ak c),(3,.int .i64 ((c.take k).flatten.length:Nat)),(9,ak c),(10,.int .i64 c.length),(11,.int .i64 (k:Nat))]) (λk=>k<=c.length) (λk=>c.length-k) 0 (by omega) (by simp (disch:=omega) only[agr,ZG,reduceEqDiff,↓reduceIte,List.take_zero,List.flatten_nil,eW]<;>simp) ?_;intro k hk;by_cases hk2:k<c.length
  rotate_left
  ·rw[eM (by omega)];refine wnY and_self ?_;exact⟨rfl,rfl,rfl,rfl⟩
  have ix:=eO hk2;have hle2:=hle (k+1);have e:(((c.take (k+1)).flatten.length:Nat):Int)=((c.take k).flatten.length:Nat)+((c.getD k default).length:Nat):=by rw[oY hk2,cA];omega
  rw[oY hk2,cA] at hle2;have z:decide ((((c.take k).flatten.length:Nat):Int)+((c.getD k default).length:Nat)<0)=false:=bh (by omega);generalize c.getD k default=s at *;refine wnY (zI3 @ix @au @z) ?_;exact⟨k+1,by omega,by omega,(have zz:=@e;agZ),rfl,rfl⟩
 rintro T _ _ ⟨t0,t3,rfl,rfl⟩;refine wnY @t3 ?_;refine aU ev0 (have zz:=@t3;evY) (Dn c.flatten.length (by omega) (by omega) H nx) ?_;rintro _ _ _ ⟨rfl,rfl,rfl⟩;refine wnY (aI @t0 @ah) ?_;refine ca (X:=Nat) (λk=>[(6,.msl nx (c.flatten.length*2) 2 0 (c.take k).flatten.length),(25,ak c),(26,.int .i64 c.length),(27,.int .i64 (k:Nat))]) (λk H' nx'=>k<=c.length/\(∃C,H'=ao H nx C/\C.length=c.flatten.length*2/\C.take ((c.take k).flatten.length*2)=cX (c.take k).flatten)/\nx'=nx+1) (λk=>c.length-k) 0 ⟨by omega,⟨_,rfl,DF _,rfl⟩,rfl⟩ (by simp (disch:=omega) only[agr,ZG,reduceEqDiff,↓reduceIte,List.take_zero,List.flatten_nil,eW]) ?_;rintro k _ _ ⟨hk,⟨C,rfl,h1,h2⟩,rfl⟩;by_cases hk2:k<c.length
 rotate_left
 ·have ek:c.take k=c:=eM (by omega);rw[ek] at h2 |-;rw[eM (by omega)] at h2;subst h2;refine wnY and_self ?_;exact⟨rfl,rfl,rfl⟩
 have ix:=eO hk2;have hle2:=hle (k+1);have e:=oY hk2;have hsp:0<(c.getD k default).length:=iM.2 (hs _ (az hk2));rw[e,cA] at hle2;have hcl:=gB (c.getD k default);have hcp:=gB (c.take k).flatten;generalize c.getD k default=s at *;refine wnY @ix ?_;refine y7 (b:=nx) (m:=c.flatten.length*2) (off:=0) (len:=(c.take k).flatten.length) (n:=s.length) (cs:=C) rfl ev0 ae ev0 xw (mg _) h1 (λ_=>by omega) (by omega) (by omega) ?_;refine wnY and_self ?_;refine⟨k+1,by omega,⟨by omega,⟨_,a7 _ _ _ _,?_,?_⟩,rfl⟩,by simp (disch:=omega) only[agr,ZG,reduceEqDiff,↓reduceIte,e,cA]⟩
 ·simp only[bB,cA,fY,AL,hcl,h1];omega
 ·rw[e,lB,cA,<-h2];simp only[bB,cE];rw[Bk (by rw[cA,fY,h1,hcl];omega),eM (by rw[cA,fY,h1,hcl];omega)]
theorem GX{v w:Vtx}:bK [v] [w]=cl v w:=by
 rw[rl];split
 ·rfl
 ·rename_i h;have:=tt h;rw[this];rfl
theorem GQ(v w:Vtx):pU 143 [bP v,bP w] (.int .i64 (cl v w)):=by
 refine pO Pp ?_;simp only[M9,aK];have hc:=im [v] [w] (show 1<=_ by omega) (show 1<=_ by omega);rw[GX] at hc;refine wnY and_self ?_;refine ey ev0 ev0 hc (aB (ag (zN (Row.box 2 1 (cX [v]) ?_ rfl)) (ag (zN (Row.box 3 1 (cX [w]) ?_ rfl)) aj)) rfl) ?_
 ·rw[ab (by omega),ae];rfl
 ·rw[ae];rfl
 refine wnY and_self ?_;exact .int _ _
theorem Nn:Cmp2 Tryz.prog bP cl (λ_=>True) 143 [] where
 len _:=rfl
 agg _:=rfl
 ones _:=rfl
 dat x:=Bz x
 dcaps x hx:=by cases hx
 run x y _ _:=GQ x y
 ord:=oz.ord
theorem F7(c:List Spx)(hpos:0<c.flatten.length)(hl:c.flatten.length<=1000000)(hc:c.length<=1000000)(H:Hp)(nx:Nat):
    Abs.Fn Tryz.prog 141 [ak c] H nx λr H' nx'=>r=.msl nx (c.flatten.length*2) 2 0 c.flatten.length/\H'=ao H nx (cX c.flatten)/\nx'=nx+1:=by
 refine fO KJ ?_;simp only[Mu,aK]
 have hle:∀k,(c.take k).flatten.length<=c.flatten.length:=λk=>by
  have:c.flatten=(c.take k).flatten++(c.drop k).flatten:=by rw[<-List.flatten_append,Cf]
  rw[this,cA];omega
 refine dT ?_
 repeat' (first|apply a_n|refine zO ?_|refine vY ?_|fail)
 refine dT ?_
 repeat' (first|apply a_n|refine zO ?_|refine vY ?_|fail)
 refine cR (λT H' nx'=>T 0=ak c/\T 3=.int .i64 (c.flatten.length:Nat)/\H=H'/\nx=nx') ?_ ?_
 ·refine wnY @ah ?_;refine od (X:=Nat) (λk=>[(0,ak c),(3,.int .i64 ((c.take k).flatten.length:Nat)),(9,ak c),(10,.int .i64 c.length),(11,.int .i64 (k:Nat))]) (λk=>k<=c.length) (λk=>c.length-k) 0 (by omega) (by simp (disch:=omega) only[agr,ZG,reduceEqDiff,↓reduceIte,List.take_zero,List.flatten_nil,eW]<;>simp) ?_;intro k hk;by_cases hk2:k<c.length
  rotate_left
  ·rw[eM (by omega)];refine wnY and_self ?_;exact⟨rfl,rfl,rfl,rfl⟩
  have ix:=eO hk2;have hle2:=hle (k+1);have e:(((c.take (k+1)).flatten.length:Nat):Int)=((c.take k).flatten.length:Nat)+((c.getD k default).length:Nat):=by rw[oY hk2,cA];omega
  rw[oY hk2,cA] at hle2;have z:decide ((((c.take k).flatten.length:Nat):Int)+((c.getD k default).length:Nat)<0)=false:=bh (by omega);generalize c.getD k default=s at *;refine wnY (zI3 @ix @au @z) ?_;exact⟨k+1,by omega,by omega,(have zz:=@e;agZ),rfl,rfl⟩
 rintro T _ _ ⟨t0,t3,rfl,rfl⟩;refine wnY @t3 ?_;refine aU ev0 (have zz:=@t3;evY) (Dn c.flatten.length (by omega) (by omega) H nx) ?_;rintro _ _ _ ⟨rfl,rfl,rfl⟩;refine wnY (aI @t0 @ah) ?_;refine ca (X:=Nat) (λk=>[(6,.msl nx (c.flatten.length*2) 2 0 (c.take k).flatten.length),(25,ak c),(26,.int .i64 c.length),(27,.int .i64 (k:Nat))]) (λk H' nx'=>k<=c.length/\(∃C,H'=ao H nx C/\C.length=c.flatten.length*2/\C.take ((c.take k).flatten.length*2)=cX (c.take k).flatten)/\nx'=nx+1) (λk=>c.length-k) 0 ⟨by omega,⟨_,rfl,DF _,rfl⟩,rfl⟩ (by simp (disch:=omega) only[agr,ZG,reduceEqDiff,↓reduceIte,List.take_zero,List.flatten_nil,eW]) ?_;rintro k _ _ ⟨hk,⟨C,rfl,h1,h2⟩,rfl⟩;by_cases hk2:k<c.length
 rotate_left
 ·have ek:c.take k=c:=eM (by omega);rw[ek] at h2 |-;rw[eM (by omega)] at h2;subst h2;refine wnY and_self ?_;exact⟨rfl,rfl,rfl⟩
 have ix:=eO hk2;have hle2:=hle (k+1);have e:=oY hk2;rw[e,cA] at hle2;have hcl:=gB (c.getD k default);have hcp:=gB (c.take k).flatten;generalize c.getD k default=s at *;refine wnY @ix ?_;refine LU (b:=nx) (N:=c.flatten.length*2) (len:=(c.take k).flatten.length) (n:=s.length) (C:=C) rfl ev0 ae h1 ev0 xw (mg _) (by rw[hcl]) (by omega) (by omega) (by omega) (by omega) (by omega) λC2 c1 c2=>?_;refine wnY and_self ?_;refine⟨k+1,by omega,⟨by omega,⟨_,a7 _ _ _ _,c1,?_⟩,rfl⟩,by simp (disch:=omega) only[agr,ZG,reduceEqDiff,↓reduceIte,e,cA]⟩;rw[e,lB,cA,<-h2];exact c2
theorem QF{P:Program}{T:Tm}{H S:Hp}{nx n:Nat}{K:SP}{l:List (Op2×Nat)}{d:Option Nat}{i:Ins}{t:Nat}{w:Bool}(h:T t=.bool w)(k:bm P S ((⟨d,none,i⟩,n)::l) T H nx K):bm P S ((⟨d,some (t,w),i⟩,n)::l) T H nx K:=by
 have e:g2 T (some (t,w))=some true:=by simp[g2,h]
 cases n with
 |zero=>show aX (g2 T (some (t,w))) _ _;rw[e];exact k
 |succ n=>show aX (g2 T (some (t,w))) _ _;rw[e];exact k
theorem Fj(x y:Spx)(h:0<(x++y).length)(hl:(x++y).length<=1000000):PureF Tryz.prog 141 [ak [x,y]] (ar (x++y)):=by
 refine PureF.of_fn ?_;have e:[x,y].flatten=x++y:=by simp
 have hc:=F7 [x,y] (by rw[e];exact h) (by rw[e];exact hl) (by simp) b9 0;rw[e] at hc;refine Abs.Fn.mono hc ?_;rintro _ _ _ ⟨rfl,rfl,rfl⟩;exact tH (Row.box _ (x++y).length (cX (x++y)) ae (gB _))
theorem xA(s:Spx)(H:Hp)(nx:Nat):Abs.Fn Tryz.prog 129 [ar s] H nx λr H' nx'=>r=.func 154 [.ptr nx 1 0]/\H'=ao H nx [ar s]/\nx'=nx+1:=by
 refine fO MP ?_;simp only[OJ,aK];refine wnY (aI @bf @aR) ?_;exact⟨rfl,rfl,rfl⟩
theorem Gx{H:Hp}{b:Nat}{x y:Spx}(h:H b=some [ar x,ar y]):aO H [.msl b 2 1 0 2] [ak [x,y]]:=
 ag (E8 (l:=[ar x,ar y]) h rfl rfl (by
  intro z hz;simp only[cU,List.not_mem_nil,or_false] at hz;rcases hz with rfl|rfl
  ·exact⟨rfl,c8 _⟩
  ·exact⟨rfl,c8 _⟩)) aj
theorem tE{s:Spx}(h:2<=s.length):(fcs s).length=s.length:=by
 unfold fcs;rw[if_neg (by omega),yJ]
theorem DL{s:Spx}{i:Nat}(h:2<=s.length)(hi:i<s.length):(fcs s).getD i default=s.take i++s.drop (i+1):=by
 unfold fcs;rw[if_neg (by omega),DT hi]
theorem w9{y sb:Nat}{s:Spx}{H:Hp}{nx:Nat}(hs:s.length<=1000)(I:List Spx->Hp->Nat->Prop)
    (hp:∀D H nx,I D H nx->H sb=some [ar s])
    (stab:∀D H H' nx1 nx',I D H nx1->nx1<=nx'->(∀i,i<nx1->H' i=H i)->I D H' nx')
    (rnd:∀D f H nx1,I D H nx1->D.length<(fcs s).length->f=(fcs s).getD D.length default->D=(fcs s).take D.length->Yl Tryz.prog y [ar f] H nx1 λr H' nx'=>r=.bool true/\I (D++[f]) H' nx')
    (h0:I [] H nx):
    Abs.Fn Tryz.prog 154 [.yld y,.ptr sb 1 0] H nx λ_ H' nx'=>I (fcs s) H' nx':=by
 refine fO M4 ?_;simp only[Nf,aK];have g1:=hp _ _ _ h0;refine wnY (zI4 @g1 @bf @aR @au) ?_;by_cases h2:2<=s.length
 rotate_left
 ·have e:fcs s=[]:=by unfold fcs;rw[if_pos (by omega)]
  rw[e];refine ca (X:=Nat) (λk=>[(0,.yld y),(1,.ptr sb 1 0),(5,.int .i64 s.length),(6,.int .i64 k)]) (λk H' nx'=>k<=s.length/\I [] H' nx') (λk=>s.length-k) 0 ⟨bW _,h0⟩ ag0 ?_;rintro k H1 nx1 ⟨h1,hI⟩;have q1:=hp _ _ _ hI;by_cases hk:k<s.length
  rotate_left
  ·refine wnY and_self ?_;exact hI
  have z:decide ((1:Int)<s.length)=false:=bh (by omega);refine wkY (zI5 @q1 @bf @aR @au @z) ?_;exact⟨k+1,by omega,⟨by omega,hI⟩,ag0⟩
 have z:decide ((1:Int)<s.length)=true:=bd (by omega);have hfl:=tE h2;have hfg:=λ{i:Nat}(hi:i<s.length)=>DL (i:=i) h2 hi;refine ca (X:=Nat) (λk=>[(0,.yld y),(1,.ptr sb 1 0),(5,.int .i64 s.length),(6,.int .i64 k)]) (λk H' nx'=>k<=s.length/\I ((fcs s).take k) H' nx') (λk=>s.length-k) 0 ⟨bW _,h0⟩ ag0 ?_;rintro k H1 nx1 ⟨h1,hI⟩;have q1:=hp _ _ _ hI;by_cases hk:k<s.length
 rotate_left
 ·rw[eM (by omega)] at hI;refine wnY and_self ?_;exact hI
 have a1:jC 2 (ar s) none (some (.int .i64 (k:Int))) none=some (ar (s.take k)):=y5 (by omega);have a2:jC 2 (ar s) (some (.int .i64 ((k:Int)+1))) none none=some (ar (s.drop (k+1))):=CC (k:=k+1) (by omega);have hc:=Fj (s.take k) (s.drop (k+1)) (by rw[cA,fY,AL];omega) (by rw[cA,fY,AL];omega);have hr:=rnd ((fcs s).take k) ((fcs s).getD k default) (ao H1 nx1 [ar (s.take k),ar (s.drop (k+1))]) (nx1+1) (stab _ _ _ _ _ hI (by omega) λi hi=>ab (by omega)) (by rw[fY];omega) (by rw[fY,Nat.min_eq_left (by omega)]) (by rw[fY,Nat.min_eq_left (by omega)]);rw[<-bD (by omega),hfg hk] at hr;refine wnY (zI7 @q1 @bf @aR @au @z @a1 @a2) ?_;refine w_mix1 sb q1 λS0 hS1 hsub=>?_;simp only[ff,List.map_nil,List.getD_cons_succ,List.getD_cons_zero];have zz:=aI @hS1 (aI @bf (aI @aR (aI @au (aI @z (aI @a1 @a2)))));repeat' (first|apply a_n|refine zO ?_|refine nvY ?_|apply iR|refine blY ?_|fail)
 repeat (refine QF ev0 ?_;skip)
 refine gy ev0 ev0 hc (Gx (by rw[ae])) ?_
 repeat' (first|apply a_n|refine zO ?_|apply iR|fail)
 refine zh ev0 ev0 (Yl.mono hr ?_);rintro v H3 nx3 ⟨rfl,e1⟩;refine wnY and_self ?_;exact⟨k+1,by omega,⟨by omega,e1⟩,ag0⟩
theorem IJ{n:Nat}{c:Spx->Nat}{O:List Spx}{bs:List Nat}{ck:Nat}{f:Spx}{H:Hp}(hn:n<=8)(h:BOk H n c O bs ck)(hf:f.length=n):
    dK (.st [.int,.int,.int,.int,.int,.int,.int,.int,.int,.int,.int,.int,.int,.int,.int,.int]) (eK (kZ f)) ((O.map kZ).map eK)=some (if f∈O then some (O.idxOf f) else none):=by
 rw[Jd,Hk hn hf h.all];by_cases e:f∈O
 ·rw[if_pos e,if_pos ((IB hn h.all hf).2 e)]
 ·rw[if_neg e,if_neg λq=>e ((IB hn h.all hf).1 q)]
theorem ul(a:List Spx)(n:Nat)(hn:n<=8)(ha:a.length<=4096)(hv:∀s∈a,bM cl s)(hl:∀s∈a,s.length=n+1\/s.length<2)(h8:∀s∈a,s.length<=8):pU 77 [ak a] (ak (dA a)):=by
 refine pO Qy ?_;simp only[b77,aK];refine dT ?_
 repeat' (first|apply a_n|refine zO ?_|refine vY ?_|fail)
 refine dT ?_;refine wnY and_self ?_;refine Lj ?_;refine ql (cs:=[.nilm]) rfl rfl rfl ?_
 repeat' (first|apply a_n|refine zO ?_|refine stY ?_|fail)
 refine cR (λT H nx=>T 3=.ptr 1 1 0/\2<=nx/\H 1=some [.mp 0]/\∃O bs ck,BOk H n (pP a) O bs ck) ?_ ?_
 ·refine wnY @ah ?_;refine lpI (X:=Nat) (λk=>[(3,.ptr 1 1 0),(14,ak a),(15,.int .i64 a.length),(16,.int .i64 k)]) (λk H nx=>k<=a.length/\2<=nx/\H 1=some [.mp 0]/\∃O bs ck,BOk H n (pP (a.take k)) O bs ck) (λk=>a.length-k) 0 ⟨bW _,aJ _,by rw[ae];rfl,[],[],0,⟨by rw[ab (by omega),ab (by omega),ae];rfl,rfl,lS,λs h=>(by cases h),List.nodup_nil,λs h=>(by cases h),λf=>⟨λh=>(by cases h),λh=>absurd h (by rw[List.take_zero];exact(by decide:¬(0:Nat)%2=1))⟩⟩⟩ ?_;rintro k H nx ⟨h1,h2,h3,O,bs,ck,h4⟩;by_cases hk:k<a.length
  rotate_left
  ·rw[eM (by omega)] at h4;refine wnY and_self ?_;exact⟨rfl,h2,h3,O,bs,ck,h4⟩
  have ix:=eO hk;have hts:=bD hk;have hvs:=hv _ (az hk);have hls:=hl _ (az hk);have h8s:=h8 _ (az hk);generalize a.getD k default=s at *;refine wnY @ix ?_;refine aU ev0 ev0 (xA s H nx) ?_;rintro _ H1 nx1 ⟨rfl,rfl,rfl⟩;refine wnY and_self ?_;refine oZ (nx+1) (nx+2) rfl rfl ev0 (λc0 cj hy=>?_);refine Abs.Fn.mono (w9 (nx:=nx+2) (y:=nx+1) (sb:=nx) (s:=s) (by omega) (λD H' nx'=>nx+2<=nx'/\H' nx=some [ar s]/\H' (nx+1)=some [c0]/\H' 1=some [.mp 0]/\∃O bs ck,BOk H' n (λf=>pP (a.take k) f+D.count f) O bs ck) ?_ ?_ ?_ ?_) ?_
  ·rintro D H' nx' ⟨g1,g2,g3,g4⟩;exact g2
  ·rintro D H' H'' n1 n2 ⟨g1,g2,g3,g4,O,bs,ck,g5⟩ hle hsm;exact⟨by omega,(hsm _ (by omega)).trans g2,(hsm _ (by omega)).trans g3,(hsm _ (by omega)).trans g4,O,bs,ck,g5.same (hsm _ (by omega)) λ_=>rfl⟩
  ·rintro D f H' nx' ⟨g1,g2,g3,g4,O,bs,ck,g5⟩ hlt hfe hDe;refine hy _ _ _ _ g3 rfl ?_;clear hy
   have h2s:2<=s.length:=Nat.le_of_not_lt λh=>by
    have:fcs s=[]:=by unfold fcs;rw[if_pos h]
    rw[this] at hlt;simp at hlt
   have hfl:f.length=n:=by
    rw[hfe,DL h2s (by rw[tE h2s] at hlt;exact hlt),cA,fY,AL];rw[tE h2s] at hlt;omega
   clear hfe hDe;refine wnY and_self ?_;refine⟨g3,?_⟩;have hmf:=IJ hn g5 hfl;have q0:=(cK (H:=H') (b:=nx+1) (x:=0) (by omega)).trans g5.box;have q1:=(cK (H:=H') (b:=nx+1) (x:=1) (by omega)).trans g4;have q2:=(cK (H:=H') (b:=nx+1) (x:=nx) (by omega)).trans g2;generalize c9 H' (nx+1)=H2 at *;refine wnY and_self ?_;generalize hH3:ao H2 nx' z16=H3;have p0:H3 0=H2 0:=by rw[<-hH3];exact ab (by omega)
   have p1:H3 1=H2 1:=by rw[<-hH3];exact ab (by omega)
   have p2:H3 nx=H2 nx:=by rw[<-hH3];exact ab (by omega)
   have p3:H3 nx'=some z16:=by rw[<-hH3];exact ae
   clear hH3;refine KY rfl p3 rfl rfl ?_;refine wnY and_self ?_;refine KR (n:=f.length) (H':=ao H3 nx' ((jg 8 f).map (AV.int .i64))) ?_ ?_
   ·((try simp only[ct,ZA,reduceEqDiff,↓reduceIte,reduceAdd,reduceLeDiff]);(try with_reducible rfl))
    have hnn:eT (ar f)=some f.length:=by unfold ar iO;simp[eT]
    have htr:xq f.length (ar f)=ar f:=by unfold ar iO;simp[xq];exact eM (by simp)
    have hmin:min f.length 8=f.length:=Nat.min_eq_left (by omega);have hal:eT (.msl nx' 16 2 0 8)=some 8:=rfl
    have hlp:bB z16 0 (cX f)=(jg 8 f).map (AV.int .i64):=by
     rw[<-Ak (n:=8) (s:=f) (by omega),LA];simp only[bB,List.take_zero,List.nil_append,cE,gB]
    by_cases hf0:f.length=0
    ·obtain rfl:=fj.1 hf0;have e0:(jg 8 []).map (AV.int .i64)=z16:=rfl;rw[e0,<-wY p3];simp only[uI,hal,hnn,hmin];rfl
    ·simp only[uI,hal,hnn,hmin,if_neg hf0,p3,htr,xw];rw[if_pos (by refine⟨?_,?_,?_,?_⟩<;>first|rfl|trivial|omega|exact mg f),hlp]
   have hl16:((jg 8 f).map (AV.int .i64)).length=16:=by rw[bt,q9]
   have ht:((jg 8 f).map (AV.int .i64)).take 16=(jg 8 f).map (AV.int .i64):=eM (by omega);have r0:=(ab (H:=H3) (b:=nx') (x:=0) (cs:=(jg 8 f).map (AV.int .i64)) (by omega)).trans (p0.trans q0);have r1:=(ab (H:=H3) (b:=nx') (x:=1) (cs:=(jg 8 f).map (AV.int .i64)) (by omega)).trans (p1.trans q1);have r2:=(ab (H:=H3) (b:=nx') (x:=nx) (cs:=(jg 8 f).map (AV.int .i64)) (by omega)).trans (p2.trans q2);have r3:ao H3 nx' ((jg 8 f).map (AV.int .i64)) nx'=some ((jg 8 f).map (AV.int .i64)):=ae;generalize ao H3 nx' ((jg 8 f).map (AV.int .i64))=H4 at *;have hek:eK (kZ f)=.agg ((jg 8 f).map (AV.int .i64)):=rfl;have hkf:=Ec (kZ f);rw[hek] at hmf hkf;have hcnt:∀g,pP (a.take k) g+(D++[f]).count g=pP (a.take k) g+D.count g+if g=f then 1 else 0:=λg=>CU
   by_cases hf:f∈O
   ·rw[if_pos hf] at hmf;have hil:O.idxOf f<O.length:=qU.2 hf
    have hgv:mget .esl true (some (O.idxOf f)) (O.map ar)=.tup [ar (O.getD (O.idxOf f) default),.bool true]:=by
     rw[<-xC hil];rfl
    generalize hKK:(jg 8 f).map (AV.int .i64)=KK at *;refine wnY (zI4 @r1 @r3 @hl16 @ht) ?_;refine DS ev0 r0 ev0 hkf hmf ?_;rw[hgv];refine wnY (zI4 @r1 @r3 @hl16 @ht) ?_;refine LO ev0 r0 ev0 hkf hmf ?_;refine wnY and_self ?_;exact⟨rfl,by omega,by rw[ab (by omega),ab (by omega)];exact r2,ae,by rw[ab (by omega),ab (by omega)];exact r1,O.erase f,bs.eraseIdx (O.idxOf f),ck,g5.del hf rfl (by rw[ab (by omega),ae];rfl) hcnt⟩
   ·rw[if_neg hf] at hmf;have hgv:mget .esl true none (O.map ar)=.tup [.esl,.bool false]:=rfl;generalize hKK:(jg 8 f).map (AV.int .i64)=KK at *;refine wnY (zI4 @r1 @r3 @hl16 @ht) ?_;refine DS ev0 r0 ev0 hkf hmf ?_;rw[hgv];refine wnY (zI4 @r1 @r3 @hl16 @ht) ?_;refine Kq ev0 r0 ev0 ev0 hkf hmf ?_;refine wnY and_self ?_;exact⟨rfl,by omega,by rw[ab (by omega),ab (by omega)];exact r2,ae,by rw[ab (by omega),ab (by omega)];exact r1,O++[f],bs++[ck],ck+1,g5.put hf hfl (by rw[ab (by omega),ae,hek];rfl) hcnt⟩
  ·exact⟨aJ _,by rw[ab (by omega),ae],ae,by rw[ab (by omega),ab (by omega)];exact h3,O,bs,ck,h4.same (by rw[ab (by omega),ab (by omega)]) λf=>by simp⟩
  ·rintro r H' nx' ⟨g1,g2,g3,g4,O,bs,ck,g5⟩;refine .inl ⟨g3,?_⟩;refine wnY and_self ?_;exact⟨k+1,by omega,⟨by omega,by omega,by rw[cK (by omega)];exact g4,O,bs,ck,g5.same (cK (by omega)) λf=>by rw[hts,FZ,qh.count_eq]⟩,ag0⟩
 rintro T H nx ⟨t3,h2,h3,O,bs,ck,h4⟩
 have hO70:O.length<=300000:=by
  have he:=mj hv;have h5:O.length<=(dA a).length:=js h4.nd λf hf=>(he.2 f).2 ((h4.odd f).1 hf);have:=yc h8;omega
 refine wnY (aI @t3 @h3) ?_;refine JZ ev0 h4.box ?_;refine wnY and_self ?_;have hbn:bs.Nodup:=yO (λ{x y}(h:x<y) e=>by omega) h4.asc;refine lpI (X:=List Nat×List Spx×AV) (λx=>[(10,x.2.2),(40,.itr nx)]) (λx H' nx'=>H' nx=some [.biter 0 ck x.1]/\nx<nx'/\BOk H' n (pP a) O bs ck/\x.1.Nodup/\(∀s∈x.1,s∈bs)/\x.2.1=x.1.map (λs=>O.getD (bs.idxOf s) default)/\Row H' 1 x.2.2 (x.2.1.map ar)/\∀b,cf x.2.2=some b->nx<b/\b<nx') (λx=>bs.length-x.1.length) ([],[],.esl) ⟨ae,yG _,h4.same (ab (by omega)) λ_=>rfl,List.nodup_nil,λs h=>(by cases h),rfl,Row.nil,λb h=>(by cases h)⟩ ?_;rintro⟨seen,D,sv⟩ H1 nx1 ⟨hit,hnx,k4,hsn,hsb,hD,hrow,hbd⟩;dsimp only at hit hsn hsb hD hrow hbd |-;have hsl:seen.length<=bs.length:=js hsn hsb;have hDl:D.length=seen.length:=by rw[hD,bt]
 have hbl:=k4.len;refine wnY and_self ?_;refine JM ev0 hit k4.box (λi s hi hns=>?_) (λhall=>?_)
 ·refine wnY and_self ?_;refine Jl (i:=i) (s:=s) ev0 ae (by rw[ab (by omega)];exact k4.box) (by simp) hi ?_;obtain⟨hil,his⟩:=bN.1 hi;have hgx:=xC (O:=O) (i:=i) (by omega)
  have hidx:bs.idxOf s=i:=by
   have h5:=qU.2 (show s∈bs by rw[<-his];exact pe hil);have h6:bs[bs.idxOf s]=bs[i]:=by rw[List.getElem_idxOf h5,his]
   exact(List.getElem_inj hbn).1 h6
  have hsnd:(seen++[s]).Nodup:=s0.2 ⟨hsn,by simp,λx hx y hy e=>by rw[e,bT.1 hy] at hx;exact hns hx⟩
  have hssb:∀x∈seen++[s],x∈bs:=λx hx=>by
   rcases dZ.1 hx with q|q
   ·exact hsb x q
   ·rw[bT.1 q,<-his];exact pe hil
  have hsl2:=js hsnd hssb;rw[cA,List.length_singleton] at hsl2;refine wnY (zI3 @hgx @bf @aR) ?_;refine eR (hrow.same λb hb=>?_) ?_
  ·have:=hbd b hb;rw[ab (by omega),ab (by omega)]
  rintro s2 H2 nx2 hr2 i1 i2 i3 i4;have lo:∀x,x<=nx->H2 x=ao H1 nx [.biter 0 ck (seen++[s])] x:=λx hx=>(i3 x (by omega) (λh=>by have:=hbd x h;omega)).trans (ab (by omega));refine wnY and_self ?_;refine⟨(seen++[s],D++[O.getD i default],s2),by dsimp only;rw[cA,List.length_singleton];omega,⟨(lo nx (aJ _)).trans ae,by omega,k4.same ((lo 0 (by omega)).trans (ab (by omega))) λ_=>rfl,hsnd,hssb,?_,?_,λb hb=>?_⟩,ag0⟩
  ·dsimp only;rw[hD,dr,List.map_singleton,hidx]
  ·dsimp only;rw[dr];exact hr2
  ·rcases i4 b hb with h|h
   ·have:=hbd b h;omega
   ·omega
 ·have hperm:seen.Perm bs:=(List.perm_ext_iff_of_nodup hsn hbn).2 λx=>⟨hsb x,hall x⟩
  have hDO:D.Perm O:=by
   rw[hD];refine(hperm.map _).trans (List.Perm.of_eq ?_);refine List.ext_getElem (by rw[bt];exact hbl) λj g1 g2=>?_;rw[bt] at g1
   have h5:bs.idxOf bs[j]=j:=by
    have h5:=qU.2 (pe g1);have h6:bs[bs.idxOf bs[j]]=bs[j]:=List.getElem_idxOf h5;exact(List.getElem_inj hbn).1 h6
   rw[List.getElem_map,h5];simp[List.getD,g2]
  have hDn:D.Nodup:=hDO.nodup_iff.2 k4.nd;have hDm:∀s,s∈D↔s∈dA a:=λs=>by rw[hDO.mem_iff,k4.odd,(mj hv).2]
  have hfin:=Jt jc (F4 hv)
  have hsort:Abs.Fn Tryz.prog 130 [sv,.func 70 []] H1 nx1 λ_ H' nx'=>Row H' 1 sv ((dA a).map ar):=by
   generalize hcs:D.map ar=cs at hrow;cases hrow with
   |nil=>
    have hD0:D=[]:=List.map_eq_nil_iff.1 hcs;refine Abs.Fn.mono (n6 rfl) ?_;rintro _ _ _ ⟨rfl,rfl⟩
    have:dA a=[]:=by
     rw[qE];intro s h;have:=(hDm s).2 h;rw[hD0] at this;cases this
    rw[this];exact Row.nil
   |box b len cs k1 k2=>
    obtain rfl:len=D.length:=by rw[<-hcs,bt] at k2;omega
    have hb:=hbd b rfl;subst hcs;by_cases h0:D.length=0
    ·have hD0:D=[]:=fj.1 h0
     have he:dA a=[]:=by
      rw[qE];intro s h;have:=(hDm s).2 h;rw[hD0] at this;cases this
     have hrw:Row H1 1 (.msl b (D.length*1) 1 0 D.length) ((dA a).map ar):=by
      have:=Row.box (H:=H1) (sz:=1) b D.length _ k1 (by rw[bt,Nat.mul_one]);rw[he];rwa [hD0] at this |-
     refine Abs.Fn.mono (n6 (by rw[h0];rfl)) ?_;rintro _ _ _ ⟨_,e⟩;rw[e];exact hrw
    ·have hg:∀s∈D,Shn s:=λs h=>show s.length<=_ by have:=k4.all s (hDO.mem_iff.1 h);omega
     have hsf:=yM K9 (L:=D) (b:=b) (nx:=nx1) (n:=D.length) k1 hb.2 rfl (by omega) hg (by omega);rw[Nat.mul_one];refine Abs.Fn.mono hsf ?_;rintro _ H' nx' ⟨L',ps,p1,p2⟩;have hlen:=p1.length_eq;have:=sQ p1 (by rw[hlen];exact p2) hDn hDm;rw[hfin] at this;rw[<-this,<-hlen];have:=Row.box (H:=H') (sz:=1) b L'.length (L'.map ar) ps.at_ (by simp)
     rwa [Nat.mul_one] at this
  refine wnY and_self ?_;refine aU ev0 ev0 hsort ?_;rintro r H' nx' hr;refine wnY and_self ?_;exact iu hr
theorem wX{a:List Spx}(h:ll a=0):pU 77 [ak a] (ak (dA a)):=by
 obtain⟨h1,h2,h3,h4⟩:=pW h;by_cases h0:a=[]
 ·subst h0;exact ul [] 0 (by omega) (by simp) (by simp) (by simp) (by simp)
 ·have hm:a.getD 0 default∈a:=az (iM.2 h0);have h5:=bQ (h2 _ hm);exact ul a ((a.getD 0 default).length-1) (by omega) h1 (Av h2) (λs hs=>.inl (by rw[h4 s hs];omega)) (HJ h2)
theorem Bn{a:List Spx}(h:ll a=0):Shn (dA a)/\∀s∈dA a,s.length<=1000000:=by
 obtain⟨h1,h2,h3,h4⟩:=pW h;have:=yc (HJ h2);exact⟨show _<=_ by omega,Bw (xm h2)⟩
theorem JT(a:List Spx)(ha:ShC a):pU 29 [ak a] (.tup [ak (oq a).1,.int .i64 (oq a).2]):=by
 refine pO P8 ?_;simp only[b29,aK];have f1:=vX a ha;unfold oq;by_cases h:ll a=0
 rotate_left
 ·have z:decide (ll a≠0)=true:=bd h;rw[if_pos h];refine wnY @z ?_;exact fg (.eslsl _) rfl
 rw[if_neg (λq=>q h)];have f2:=wX h;have f3:=FR (dA a) (Bn h).1 (Bn h).2;have z:decide ((0:Int)≠0)=false:=rfl;rw[h] at f1
 have hfin:(if 4096<(dA a).length then(([]:List Spx),(5:Int)) else(dA a,0))=(if 4096<(dA a).length then [] else dA a,if 4096<(dA a).length then 5 else 0):=by
  split<;>rfl
 rw[hfin];refine wnY @z ?_;exact fg (bJ _).snap rfl
theorem MX(a:List Spx)(ha:ShC a):pU 33 [ak a] (.tup [.bool (Kl a).1,.int .i64 (Kl a).2]):=by
 refine pO QW ?_;simp only[b33,aK];have f1:=vX a ha;unfold Kl;by_cases h:ll a=0
 rotate_left
 ·have z:decide (ll a≠0)=true:=bd h;rw[if_pos h];refine wnY @z ?_;exact HR rfl rfl
 rw[if_neg (λq=>q h)];have f2:=wX h;have z:decide ((0:Int)≠0)=false:=rfl;have z2:decide ((((dA a).length:Nat):Int)=0)=decide (dA a=[]):=decide_eq_decide.2 (by rw[<-fj];omega);rw[h] at f1;refine wnY (zI3 @z @z2 @ah) ?_;exact HR rfl rfl
theorem A1(l:List Spx)(v:Spx)(hl:Shn l)(hs:∀c∈l,Shn c)(hv:Shn v)(ha:bM bK l):∃b:Nat,pU 80 [ak l,ar v] (.tup [.int .i64 b,.bool (decide (v∈l))])/\(v∈l->b<l.length/\l.getD b default=v):=by
 obtain⟨b,hb,h1,h2⟩:=vn (λi=>bK (l.getD i default) v) l.length (λi j hij hj h=>jc.trans (eo ha hij hj) h);have hc:=Ct l v hl hs hv hb h1 h2
 have he:(decide (b<l.length)&&decide (bK (l.getD b default) v=0))=decide (v∈l)/\(v∈l->b<l.length/\l.getD b default=v):=by
  by_cases hm:v∈l
  ·obtain⟨i,hi,e⟩:=lm hm;have e':l.getD i default=v:=by simp[List.getD,hi,e]
   have hbi:b=i:=by
    rcases uQ b i with h|h|h
    ·have h3:=h2 b (aJ _) (by omega);have h4:=eo ha h hi;rw[e'] at h4;omega
    ·exact h
    ·have h3:=h1 i h;rw[e',fC] at h3;omega
   subst hbi;rw[bd hi,bd hm,e',bd (fC v)];exact⟨rfl,λ_=>⟨hi,rfl⟩⟩
  ·rw[bh hm];refine⟨?_,λh=>absurd h hm⟩;by_cases hlt:b<l.length
   ·rw[bd hlt,Bool.true_and,bh];intro h;exact hm (by rw[<-qP h];exact az hlt)
   ·rw[bh hlt,Bool.false_and]
 rw[he.1] at hc;refine⟨b,?_,he.2⟩;refine pO Qw ?_;simp only[b80,aK];refine wnZ (zI4 @bf @aR @ai @af) ?_;exact bS (ag (.int _ _) (ag (.bool _) aj))
theorem GD(c:List Spx)(d:Int)(hd:d<=1000)(hc:c.length<=50)(hs:∀s∈c,Shn s):pU 83 [b7 c,.int .i64 d] (.tup [ak (Gz c d).1,.int .i64 (Gz c d).2]):=by
 refine pO QB ?_;simp only[b83,aK];unfold Gz;by_cases h:d<0
 ·have z:decide (d<0)=true:=bd h;rw[if_pos h];refine wnY (zI3 @z @ai @af) ?_;exact fg (.eslsl _) rfl
 ·have z:decide (d<0)=false:=bh h;rw[if_neg h];have hS:=mD c (d+1) hc hs;refine wnY (zI3 @z @ai @af) ?_;exact fg (bJ _).snap rfl
theorem Mx(c:List Spx)(d:Int)(hc:c.length<=50)(hs:∀s∈c,Shn s):pU 112 [b7 c,.int .i64 d] (.tup [eB (xn c d).1.1 (xn c d).1.2,.int .i64 (xn c d).2]):=by
 refine pO Oi ?_;simp only[N4,aK];have hcc:=gM c (show _<=_ by omega) hs;unfold xn;by_cases he:ay c=0
 rotate_left
 ·rw[if_pos he];have z:decide (ay c≠0)=true:=bd he;refine wnY (zI3 @ai @af @z) ?_;exact kW (.eslsl _) rfl
 rw[if_neg (λh=>h he)];rw[he] at hcc;have z0:decide ((0:Int)≠0)=false:=rfl;by_cases hd:d<0\/8<=d
 ·rw[if_pos hd];have zz:=aI @ai (aI @af @z0);repeat' (first|refine zW ?_|apply a_n|apply a_r|refine zO ?_|refine vY ?_|refine cY ?_ (hp:=hcc) (hs:=by(first|refine aB ?_ rfl|apply aL);(repeat' (first|exact aj|apply bk|apply aN|exact bI _));first|done|fail)|refine alY ?_|refine bxY ?_|refine stY ?_|refine gTY ?_|refine gFY ?_|refine cTY ?_|refine cFY ?_|(refine zGY ?_ ?_<;>(intro _hg;try (exfalso;omega)))|refine bC rfl ?_|refine r2Y ?_|fail)
  all_goals first|exact kW (.eslsl _) rfl|(exfalso;omega)
 rw[if_neg hd];have hX:=GD c d (by omega) hc hs;have hY:=GD c (d-1) (by omega) hc hs;rw[Ex he (by omega) (by omega)] at hX hY;rw[show d-1+1=d by omega] at hY;have hXl:=o5 (d:=d+1) hc he;have hYl:=o5 (d:=d) hc he;have hXm:=kF (d:=d+1) he;have hYm:=AC (kF (d:=d) he);have hYa:=eZ (c:=c) (d:=d);generalize an c (d+1)=X at *;generalize an c d=Y at *;have z1:decide (d<0)=false:=bh (by omega);have z2:decide (8<=d)=false:=bh (by omega);have hzc:bv (AV.agg [AV.esl]) Y.length=List.replicate Y.length .esl:=by simp[bv,AV.cells]
 refine wnY (zI6 @ai @af @ah @z0 @z1 @z2) ?_;refine zR (k1:=.i64) (k2:=.i64) (n:=Y.length) (m:=Y.length) rfl ev0 ev0 (by omega) (Int.le_refl _) (by omega) (by omega) ?_;rw[cC,hzc,Nat.mul_one];refine wnY @ah ?_;refine lpI (X:=Nat×List AV) (λx=>[(4,.ptr 1 2 0),(9,.ptr 2 1 0),(10,.ptr 4 2 0),(56,ak X),(57,.int .i64 X.length),(58,.int .i64 x.1)]) (λx H' nx'=>x.1<=X.length/\5<=nx'/\H' 1=some [.int .i64 0,.esl]/\H' 2=some [ak Y]/\H' 4=some [.int .i64 X.length,.msl 3 Y.length 1 0 Y.length]/\MatOk H' 3 5 nx' Y.length (jX X Y x.1) x.2) (λx=>X.length-x.1) (0,List.replicate Y.length .esl) ⟨bW _,aJ _,by(repeat rw[ab (by omega)]);rw[ae],by(repeat rw[ab (by omega)]);rw[ae];rfl,by rw[ae];rfl,MatOk.new (by(repeat rw[ab (by omega)]);rw[ae]) (λj _=>rfl)⟩ ?_;rintro⟨k,vs⟩ H nx ⟨h1,h2,g1,g2,g4,hmat⟩;dsimp only at h1 h2 g1 g2 g4 hmat |-;by_cases hk:k<X.length
 rotate_left
 ·obtain rfl:k=X.length:=by omega
  have hst:Snap (ao H 1 [.int .i64 X.length,.msl 3 Y.length 1 0 Y.length]) (.msl 3 Y.length 1 0 Y.length) (bU (bZ X Y)):=(hmat.same (hi':=nx) (G:=jX X Y X.length) (ab (by omega)) (λx x1 x2 x3=>ab (by omega)) (aJ _) (λj _=>rfl)).snap;refine wnY (aI @g4 @g1) ?_;exact kW hst rfl
 have ix:=eO hk;have hsim:=hXm _ (az hk);have hF:∀i,jX X Y (k+1) i=jX X Y k i++if Y.getD i default∈bF (X.getD k default) then [k] else []:=λi=>FA
 generalize X.getD k default=s at *;obtain⟨p1,p2,p3,p4⟩:=bQ hsim;refine wnY @ix ?_;refine aU ev0 ev0 (xA s _ _) ?_;rintro _ H1 nx1 ⟨rfl,rfl,rfl⟩;refine wnY and_self ?_;refine oZ (nx+2) (nx+3) rfl rfl ev0 (λc0 cj hy=>?_);refine Abs.Fn.mono (w9 (nx:=nx+3) (y:=nx+2) (sb:=nx+1) (s:=s) (by omega) (λD H' nx'=>nx+3<=nx'/\H' (nx+1)=some [ar s]/\H' (nx+2)=some [c0]/\H' nx=some [.int .i64 (k:Int)]/\H' 1=some [.int .i64 0,.esl]/\H' 2=some [ak Y]/\H' 4=some [.int .i64 X.length,.msl 3 Y.length 1 0 Y.length]/\∃vs,MatOk H' 3 5 nx' Y.length (λi=>jX X Y k i++if Y.getD i default∈D then [k] else []) vs/\∀j B,j<Y.length->cf (vs.getD j .undef)=some B->B<nx\/nx+3<=B) ?_ ?_ ?_ ?_) ?_
 ·rintro D H' nx' ⟨j1,j2,_⟩;exact j2
 ·rintro D H' H'' n1 n2 ⟨j1,j2,j3,j4,j5,j6,j7,vs,j8,j9⟩ hle hsm;exact⟨by omega,(hsm _ (by omega)).trans j2,(hsm _ (by omega)).trans j3,(hsm _ (by omega)).trans j4,(hsm _ (by omega)).trans j5,(hsm _ (by omega)).trans j6,(hsm _ (by omega)).trans j7,vs,j8.same (hsm _ (by omega)) (λx x1 x2 x3=>hsm x x2) hle (λ_ _=>rfl),j9⟩
 ·rintro D f H' nx' ⟨j1,j2,j3,j4,j5,j6,j7,vs,j8,j9⟩ hlt hfe hDe;refine hy _ _ _ _ j3 rfl ?_;clear hy;have hfm:f∈fcs s:=by rw[hfe];exact az hlt
  have hfD:f∉D:=λh=>by
   rw[hDe] at h;have hnd:=F9 p3;have e:=bD hlt;have h5:=(s0.1 (by rw[<-e];exact hnd.sublist (List.take_sublist _ _):((fcs s).take D.length++[(fcs s).getD D.length default]).Nodup)).2.2 _ h _ (bT.2 rfl);exact h5 hfe
  have hfs:=en.1 (Er.1 hfm);have hfn:Shn f:=by show _<=_;omega
  clear hfe hDe hlt hfm;refine wnY and_self ?_;refine⟨j3,?_⟩;have hd:∀x,x≠nx+2->c9 H' (nx+2) x=H' x:=λx hx=>cK hx;generalize c9 H' (nx+2)=H2 at *;have q2:=(hd 2 (by omega)).trans j6;have q3:=(hd 3 (by omega)).trans j8.box;have q4:=(hd 4 (by omega)).trans j7;have qk:=(hd nx (by omega)).trans j4;obtain⟨p,hpl,hpm⟩:=A1 Y f (show _<=_ by omega) hYm hfn hYa;by_cases hin:f∈Y
  rotate_left
  ·rw[bh hin] at hpl;refine wnY (zI3 @q2 @ai @af) ?_;refine⟨rfl,j1,(ab (by omega)).trans ((hd _ (by omega)).trans j2),ae,(ab (by omega)).trans qk,(ab (by omega)).trans ((hd _ (by omega)).trans j5),(ab (by omega)).trans q2,(ab (by omega)).trans q4,vs,j8.same ((ab (by omega)).trans (hd _ (by omega))) (λx x1 x2 x3=>?_) (aJ _) (λj hj=>?_),j9⟩
   ·by_cases e:x=nx+2
    ·rw[e,ae,j3]
    ·rw[ab e,hd x e]
   ·have hne:Y.getD j default≠f:=λe=>hin (by rw[<-e];exact az hj)
    congr 1
    exact zu (by rw[dZ,bT];exact⟨λh=>h.resolve_right hne,.inl⟩)
  rw[bd hin] at hpl;obtain⟨pl1,pl2⟩:=hpm hin;have hFD:jX X Y k p++(if Y.getD p default∈D then [k] else [])=jX X Y k p:=by rw[pl2,if_neg hfD,gJ]
  have hrow:Row H2 1 (vs.getD p .undef) ((jX X Y k p).map AE):=by
   have:=j8.row p pl1;rw[hFD] at this;exact this.same λb hb=>hd b (by have:=j9 p b pl1 hb;omega)
  have hvs:vs[p]?=some (vs.getD p .undef):=by
   have:=j8.len;simp[List.getD,show p<vs.length by omega]
  have hlen:=j8.len
  have hb3:∀b,cf (vs.getD p .undef)=some b->5<=b/\b<nx'/\b≠3/\(b<nx\/nx+3<=b):=λb hb=>by
   have h5:=j8.bnd p b pl1 hb;have h6:=j9 p b pl1 hb;exact⟨h5.1,h5.2.1,h5.2.2,h6⟩
  generalize hrv:vs.getD p .undef=rv at *;refine wnY (zI3 @q2 @ai @af) ?_;refine Dd 4 3 nx q4 q3 qk (by omega) (by omega) (by omega) λS0 hS1 hS2 hS3 hsub=>?_;have hFl:=Ac (X:=X) (Y:=Y) (n:=k) (i:=p);refine wnY (zI5 @hS1 @hS2 @hS3 @hvs @hlen) ?_;refine eb ?_;refine wnY and_self ?_;refine⟨hsub _ (by rw[ab (by omega)];exact q4) (by rw[ab (by omega)];exact q3) (by rw[ab (by omega)];exact qk),?_⟩;refine eb ?_;refine eR (hrow.same λb hb=>?_) ?_
  ·have:=hb3 b hb;rw[ab (by omega)]
  rintro s2 H4 nx4 hr2 i1 i2 i3 i4;have lo:∀x,x<nx'->cf rv≠some x->H4 x=H2 x:=λx x1 x2=>(i3 x (by omega) x2).trans (ab (by omega));have l3:H4 3=H2 3:=lo 3 (by omega) (λh=>by have:=hb3 _ h;omega);have l4:H4 4=H2 4:=lo 4 (by omega) (λh=>by have:=hb3 _ h;omega);have lk:H4 nx=H2 nx:=lo nx (by omega) (λh=>by have:=hb3 _ h;omega);have lo2:∀x,x<nx+3->5<=x->nx<=x->H4 x=H2 x:=λx x1 x2 x3=>lo x (by omega) (λh=>by have:=hb3 _ h;omega);have lo5:∀x,x<5->H4 x=H2 x:=λx x1=>lo x (by omega) (λh=>by have:=hb3 _ h;omega);obtain⟨o1,o2⟩:=hr2.one;have m3:=l3.trans q3;refine jv ⟨hsub _ (l4.trans q4) m3 (lk.trans qk),?_⟩
  have hlp:bB vs p [s2]=vs.set p s2:=by
   simp only[bB,bL,eW,cE];rw[I1,if_pos (by omega)];simp
  have zz:=aI @m3 (aI @o1 (aI @o2 (aI @hlen @hlp)));repeat' (first|apply a_n|refine zO ?_|refine nvY ?_|apply iR|refine stY ?_|fail)
  have hB2:∀b,cf s2=some b->(cf rv=some b\/nx'<=b)/\b<nx4:=λb hb=>by
   rcases i4 b hb with h|h
   ·exact⟨.inl h,by have:=hb3 b h;omega⟩
   ·exact⟨.inr (by omega),by omega⟩
  have hwd:∀x,x≠3->x≠nx+2->ao (ao H4 3 (vs.set p s2)) (nx+2) [c0] x=H4 x:=λx x1 x2=>by rw[ab x2,ab x1]
  rw[hlp];refine⟨rfl,by omega,?_,ae,?_,?_,?_,?_,vs.set p s2,?_,?_⟩
  ·rw[hwd _ (by omega) (by omega),lo2 _ (by omega) (by omega) (by omega),hd _ (by omega)];exact j2
  ·rw[hwd _ (by omega) (by omega),lk];exact qk
  ·rw[hwd _ (by omega) (by omega),lo5 _ (by omega),hd _ (by omega)];exact j5
  ·rw[hwd _ (by omega) (by omega),lo5 _ (by omega)];exact q2
  ·rw[hwd _ (by omega) (by omega),l4];exact q4
  ·refine j8.put (sv:=s2) (x:=k) (i:=p) pl1 (λj hj=>?_) ?_ (λb hb=>?_) (by rw[ab (by omega),ae]) (λx x1 x2 x3 x4=>?_) (by omega) (by omega)
   ·by_cases e:j=p
    ·subst e;rw[if_pos rfl,pl2,if_neg hfD,if_pos (mh _ (bT.2 rfl)),gJ]
    ·rw[if_neg e]
     have hne:Y.getD j default ≠ f:=fun h=>e (by
      rcases uQ j p with h'|h'|h'
      ·have:=eo hYa h' pl1;rw[h,pl2,fC] at this;omega
      ·exact h'
      ·have:=eo hYa h' hj;rw[h,pl2,fC] at this;omega)
     congr 1
     exact zu (by rw[dZ,bT];exact⟨λh=>h.resolve_right hne,.inl⟩)
   ·rw[hFD,dr];refine hr2.same λb hb=>hwd b ?_ ?_
    ·have:=hB2 b hb;rcases this.1 with h|h
     ·have:=hb3 b h;omega
     ·omega
    ·have:=hB2 b hb;rcases this.1 with h|h
     ·have:=hb3 b h;omega
     ·omega
   ·rw[hrv];have:=hB2 b hb;rcases this.1 with h|h
    ·exact .inl h
    ·exact .inr ⟨h,this.2,by omega⟩
   ·rw[hrv] at x4;by_cases e:x=nx+2
    ·rw[e,ae,j3]
    ·rw[hwd x x3 e,lo x x2 x4,hd x e]
  ·intro j B hj hB;rw[sg (by omega)] at hB;by_cases e:p=j
   ·rw[if_pos e] at hB;have:=hB2 B hB;rcases this.1 with h|h
    ·have:=hb3 B h;omega
    ·omega
   ·rw[if_neg e] at hB;exact j9 j B hj hB
 ·have hlk:bB [AV.int .i64 0] 0 [.int .i64 (k:Int)]=[.int .i64 (k:Int)]:=rfl;have hw:∀x,x≠nx->x≠nx+1->x≠nx+2->ao (ao (ao (ao H nx [.int .i64 0]) nx (bB [.int .i64 0] 0 [.int .i64 (k:Int)])) (nx+1) [ar s]) (nx+2) [c0] x=H x:=λx x1 x2 x3=>by rw[ab x3,ab x2,ab x1,ab x1]
  refine⟨aJ _,by rw[ab (by omega),ae],ae,by rw[ab (by omega),ab (by omega),ae];rfl,(hw _ (by omega) (by omega) (by omega)).trans g1,(hw _ (by omega) (by omega) (by omega)).trans g2,(hw _ (by omega) (by omega) (by omega)).trans g4,vs,hmat.same (hw _ (by omega) (by omega) (by omega)) (λx x1 x2 x3=>hw x (by omega) (by omega) (by omega)) (by omega) (λj _=>by simp),λj B hj hB=>by have:=hmat.bnd j B hj hB;omega⟩
 ·rintro r H' nx' ⟨j1,j2,j3,j4,j5,j6,j7,vs2,j8,j9⟩;refine .inl ⟨j3,?_⟩;refine wnY and_self ?_;refine⟨(k+1,vs2),by dsimp only;omega,⟨by dsimp only;omega,by omega,(cK (by omega)).trans j5,(cK (by omega)).trans j6,(cK (by omega)).trans j7,?_⟩,ag0⟩;dsimp only
  have hrows:∀j,j<Y.length->jX X Y (k+1) j=jX X Y k j++if Y.getD j default∈fcs s then [k] else []:=λj _=>by
   rw[hF];congr 1;exact zu Er.symm
  exact⟨(cK (by omega)).trans j8.box,j8.len,λj hj=>by rw[hrows j hj];exact(j8.row j hj).same λb hb=>cK (by have:=j9 j b hj hb;omega),λj B hj hB=>by have:=j8.bnd j B hj hB;exact this,j8.apart⟩
theorem Cr(c a:List Spx)(hc:c.length<=50)(hs:∀s∈c,Shn s)(ha:ShC a):pU 30 [b7 c,ak a] (.tup [aH (jI c a).1,.int .i64 (jI c a).2]):=by
 refine pO Qz ?_;simp only[b30,aK];have hcc:=gM c (show _<=_ by omega) hs;have hca:=vX a ha;have z0:decide ((0:Int)≠0)=false:=rfl;unfold jI;by_cases he:ay c=0
 rotate_left
 ·rw[if_pos he];have z:decide (ay c≠0)=true:=bd he;refine wnY (zI3 @ai @af @z) ?_;exact li (.eslsl _) rfl
 rw[if_neg (λh=>h he)];rw[he] at hcc;by_cases h2:ll a=0
 rotate_left
 ·rw[if_pos h2];have z:decide (ll a≠0)=true:=bd h2;refine wnY (zI4 @ai @af @z @z0) ?_;exact li (.eslsl _) rfl
 rw[if_neg (λh=>h h2)];rw[h2] at hca;by_cases h3:a=[]
 ·rw[if_pos h3];subst h3;have al:dH (ak [])=some (.int .i64 0):=rfl;refine wnY (zI4 @ai @af @al @z0) ?_;exact li (.eslsl _) rfl
 rw[if_neg h3];have hpos:=iM.2 h3;have z3:decide ((a.length:Int)=0)=false:=bh (by omega);obtain⟨p1,p2,p3,p4⟩:=pW h2;have p5:=bQ (p2 _ (az hpos));have i0:=PP hpos;have hS:=mD c (ft a) hc hs;unfold f8 at hS;rw[if_neg (λh=>h he),if_neg (by unfold ft;omega),cC] at hS;have eL:iY c (ft a)=an c (ft a):=by unfold an;rw[if_neg (by unfold ft;omega),cC]
 rw[eL] at hS;have hLs:=AC (kF (d:=(ft a:Nat)) he);have hLl:=o5 (d:=(ft a:Nat)) hc he;have hLa:=eZ (c:=c) (d:=(ft a:Nat));generalize an c (ft a)=L at *;unfold ft at hS;refine wkY (zI7 @ai @af @ah @au @i0 @z0 @z3) ?_;refine ca (X:=AV×Nat) (λx=>[(8,ak L),(10,x.1),(40,ak a),(41,.int .i64 a.length),(42,.int .i64 x.2)]) (λx H nx=>x.2<=a.length/\(∀i,i<x.2->decide (a.getD i default∈L)=true)/\Row H 1 x.1 ((cq (vT L (a.take x.2))).map (AV.int .i64))/\∀b,cf x.1=some b->b<nx) (λx=>a.length-x.2) (.esl,0) ⟨bW _,λi h=>absurd h (by omega),Row.nil,λb hb=>(by cases hb)⟩ ag0 ?_;rintro⟨sv,k⟩ H nx ⟨k1,k2,k3,k4⟩;dsimp only at k1 k2 k3 k4 |-;by_cases hk:k<a.length
 rotate_left
 ·rw[eM (by omega)] at k3;rw[if_pos (lN λi hi=>k2 i (by omega))];refine wnY and_self ?_;exact li k3.snapI rfl
 have ix:=eO hk;have hsx:=ha.2 _ (az hk);obtain⟨p,hpl,hpm⟩:=A1 L (a.getD k default) (show _<=_ by omega) hLs hsx hLa;by_cases hin:a.getD k default∈L
 rotate_left
 ·rw[bh hin] at hpl
  have hall:¬(a.all λs=>decide (s∈L))=true:=by
   rw[ke hk (bh hin)];decide
  rw[if_neg hall];refine wnY @ix ?_;exact li (.eslsl _) rfl
 rw[bd hin] at hpl;obtain⟨p1',p2'⟩:=hpm hin;have hidx:=JJ (hLa.nodup jc) p1' p2';have hpt:=Gi (L:=L) hk;rw[hidx] at hpt;have hnl:(cq (vT L (a.take k))).length=k:=by unfold cq vT;rw[bt,bt,fY];omega
 refine wnY @ix ?_;refine eR (k3.same λb hb=>?_) ?_
 ·have:=k4 b hb;rw[ab (by omega)]
 rintro s2 E e hrow hle1 hle2 hsame hb2;refine wnY and_self ?_;refine⟨(s2,k+1),by dsimp only;omega,⟨by dsimp only;omega,λi hi=>?_,?_,λb hb=>?_⟩,ag0⟩
 ·rcases kH.1 hi with h'|rfl
  ·exact k2 i h'
  ·exact bd hin
 ·dsimp only;rw[hpt,AO,dr];exact hrow
 ·rcases hb2 b hb with h|h
  ·have:=k4 b h;omega
  ·omega
theorem yY(c:List Spx)(d:Int)(v:List Int)(hc:c.length<=50)(hs:∀s∈c,Shn s)(hv:v.length<=100000):pU 34 [b7 c,.int .i64 d,aH v] (.tup [ak (Cl c d v).1,.int .i64 (Cl c d v).2]):=by
 refine pO P7 ?_;simp only[b34,aK];have hcc:=gM c (show _<=_ by omega) hs;have z0:decide ((0:Int)≠0)=false:=rfl;unfold Cl;by_cases he:ay c=0
 rotate_left
 ·rw[if_pos he];have z:decide (ay c≠0)=true:=bd he;refine wnY (zI3 @ai @af @z) ?_;exact fg (.eslsl _) rfl
 rw[if_neg (λh=>h he)];rw[he] at hcc;by_cases hd:d<0\/8<=d
 ·rw[if_pos hd];have zz:=aI @ai (aI @af @z0);repeat' (first|refine zW ?_|apply a_n|apply a_r|refine zO ?_|refine vY ?_|refine cY ?_ (hp:=hcc) (hs:=by(first|refine aB ?_ rfl|apply aL);(repeat' (first|exact aj|apply bk|apply aN|exact bI _));first|done|fail)|refine bxY ?_|refine gTY ?_|refine gFY ?_|refine cTY ?_|refine cFY ?_|(refine zGY ?_ ?_<;>(intro _hg;try (exfalso;omega)))|refine bC rfl ?_|refine r2Y ?_|fail)
  all_goals first|exact fg (.eslsl _) rfl|(exfalso;omega)
 rw[if_neg hd];have hX:=GD c d (by omega) hc hs;rw[Ex he (by omega) (by omega)] at hX;have hXl:=o5 (d:=d+1) hc he;have hXm:=kF (d:=d+1) he;generalize an c (d+1)=X at *;have z1:decide (d<0)=false:=bh (by omega);have z2:decide (8<=d)=false:=bh (by omega);refine wnY (zI5 @ai @af @z0 @z1 @z2) ?_;refine ca (X:=AV×Nat) (λx=>[(2,aH v),(9,ak X),(11,x.1),(34,aH v),(35,.int .i64 v.length),(36,.int .i64 x.2)]) (λx H nx=>x.2<=v.length/\(∀i,i<x.2->EH X.length v i=0)/\Row H 1 x.1 ((eX X (v.take x.2)).map ar)/\∀b,cf x.1=some b->b<nx) (λx=>v.length-x.2) (.esl,0) ⟨bW _,λi h=>absurd h (by omega),Row.nil,λb hb=>(by cases hb)⟩ ag0 ?_;rintro⟨sv,k⟩ H nx ⟨k1,k2,k3,k4⟩;dsimp only at k1 k2 k3 k4 |-;by_cases hk:k<v.length
 rotate_left
 ·have hz:u4 X.length v=0:=dU λi hi=>k2 i (by omega);rw[if_neg (λh=>h hz)];rw[eM (by omega)] at k3;have hpl:(eX X v).length=v.length:=by unfold eX;rw[bt]
  have hcp:=xU (eX X v) (by omega) λs hs=>by
   unfold eX at hs;obtain⟨i,hi,rfl⟩:=bu.1 hs;by_cases hl:i.toNat<X.length
   ·exact Bw hXm _ (az hl)
   ·rw[show X.getD i.toNat default=[] by unfold List.getD;rw[List.getElem?_eq_none (by omega)];rfl];exact bW _
  obtain⟨Hf,H4,hfz,hsn,hoth⟩:=L8 k3;have z6:decide ((k:Int)<v.length)=false:=bh (by omega);refine dT ?_;have zz:=@z6;repeat' (first|apply a_n|refine zO ?_|refine vY ?_|fail)
  refine dT ?_;clear zz;have zz:=@z6;repeat' (first|apply a_n|apply a_x|refine zO ?_|refine cFY ?_|fail)
  refine dT ?_;refine o9 Hf H4 [(11,ak (eX X v))] hfz ⟨.inr hsn,trivial⟩ ?_;refine wnY and_self ?_;exact fg (bJ _).snap rfl
 have ix:=ixV hk;have hsp:=uL (n:=X.length) (v:=v) (k:=k)
 have hfin:∀e:Int,e≠0->EH X.length v k=e->(if u4 X.length v≠0 then(([]:List Spx),u4 X.length v) else(eX X v,0))=([],e):=λe h0 he=>by
  have h5:u4 X.length v=e:=by
   unfold u4;rw[dM hk k2 (by rw[he];exact h0),he]
  rw[if_pos (by rw[h5];exact h0),h5]
 by_cases g1:v.getD k default<0
 ·rw[if_pos (.inl g1)] at hsp;rw[hfin 2 (by decide) hsp];have z1:decide (v.getD k default<0)=true:=bd g1;refine wnY (aI @ix @z1) ?_;exact fg (.eslsl _) rfl
 have z3:decide (v.getD k default<0)=false:=bh g1;by_cases g2:(X.length:Int)<=v.getD k default
 ·rw[if_pos (.inr g2)] at hsp;rw[hfin 2 (by decide) hsp];have z4:decide ((X.length:Int)<=v.getD k default)=true:=bd g2;refine wnY (zI4 @ix @z3 @z4 @ah) ?_;exact fg (.eslsl _) rfl
 have z4:decide ((X.length:Int)<=v.getD k default)=false:=bh g2;rw[if_neg (by omega)] at hsp
 have iw:eP 1 (ak X) (.int .i64 (v.getD k default))=some (.iptr [ar (X.getD (v.getD k default).toNat default)] 0):=by
  rw[sW,if_pos ⟨by omega,by omega⟩]
 have hpt:=Cc (X:=X) hk;have hnl:(eX X (v.take k)).length=k:=by unfold eX;rw[bt,fY];omega
 have hstep:∀ (s2:AV) (E:Hp) (e:Nat),EH X.length v k=0→Row E 1 s2 ((eX X (v.take k)).map ar ++ [ar (X.getD (v.getD k default).toNat default)])→(∀ i,i < k + 1→EH X.length v i=0)∧Row E 1 s2 ((eX X (v.take (k + 1))).map ar):=fun s2 E e hz hr=>⟨fun i hi=>by
  rcases kH.1 hi with h'|rfl
  ·exact k2 i h'
  ·exact hz,by rw[hpt,dr];exact hr⟩
 generalize X.getD (v.getD k default).toNat default=x at *;by_cases hk0:0<k
 rotate_left
 ·rw[if_neg (λh=>hk0 h.1)] at hsp;have zk:decide (0<(k:Int))=false:=bh (by omega);refine wnY (zI8 @ix @iw @z3 @z4 @zk @ah @bf @aR) ?_;refine eR (k3.same λb hb=>?_) ?_
  ·have:=k4 b hb;rw[ab (by omega)]
  rintro s2 E e hrow hle1 hle2 hsame hb2;refine wnY and_self ?_
  exact ⟨(s2,k + 1),by dsimp only; omega,⟨by dsimp only; omega,(hstep s2 E e hsp hrow).1,(hstep s2 E e hsp hrow).2,fun b hb=>by
   rcases hb2 b hb with h|h
   ·have:=k4 b h;omega
   ·omega⟩,ag0⟩
 have zk:decide (0<(k:Int))=true:=bd (by omega)
 have iy:eP 1 (aH v) (.int .i64 ((k:Int)-1))=some (.iptr [.int .i64 (v.getD (k-1) default)] 0):=by
  have:=ixV (l:=v) (k:=k-1) (by omega)
  rwa [show((k-1:Nat):Int)=(k:Int)-1 by omega] at this
 by_cases g3:v.getD k default<=v.getD (k-1) default
 ·rw[if_pos ⟨hk0,g3⟩] at hsp;rw[hfin 14 (by decide) hsp];have z5:decide (v.getD k default<=v.getD (k-1) default)=true:=bd g3;refine wnY (zI7 @ix @iy @z3 @z4 @zk @z5 @ah) ?_;exact fg (.eslsl _) rfl
 ·rw[if_neg (λh=>g3 h.2)] at hsp;have z5:decide (v.getD k default<=v.getD (k-1) default)=false:=bh g3;refine wnY (lu @ix @iy @iw @z3 @z4 @zk @z5 @ah @bf @aR) ?_;refine eR (k3.same λb hb=>?_) ?_
  ·have:=k4 b hb;rw[ab (by omega)]
  rintro s2 E e hrow hle1 hle2 hsame hb2;refine wnY and_self ?_
  exact ⟨(s2,k + 1),by dsimp only; omega,⟨by dsimp only; omega,(hstep s2 E e hsp hrow).1,(hstep s2 E e hsp hrow).2,fun b hb=>by
   rcases hb2 b hb with h|h
   ·have:=k4 b h;omega
   ·omega⟩,ag0⟩
theorem v7(l m:List Int)(hl:l.length<=1000000)(hm:m.length<=1000000):pU 17 [aH l,aH m] (.bool (decide (l=m))):=by
 refine pO Qr ?_;simp only[b17,aK]
 repeat' (first|refine zW ?_|apply a_n|apply a_r|refine zO ?_|refine vZ ?_|(refine zGZ ?_ ?_<;>(intro _hg;try (exfalso;omega)))|refine bC rfl ?_|refine r1Z ?_|fail)
 ·refine cQ ?_
  symm;rw[decide_eq_false_iff_not];rintro rfl;omega
 refine od (X:=Nat) (λk=>[(0,aH l),(1,aH m),(12,.int .i64 l.length),(13,.int .i64 k)]) (λk=>k<=l.length/\∀i,i<k->l.getD i default=m.getD i default) (λk=>l.length-k) 0 ⟨bW _,by simp⟩ ag0 ?_;rintro k ⟨h1,h2⟩
 repeat' (first|refine zW ?_|apply a_n|apply a_x|apply a_r|refine zO ?_|refine vZ ?_|(refine zGZ ?_ ?_<;>(intro _hg;try (exfalso;omega)))|refine bC rfl ?_|refine r1Z ?_|fail)
 ·refine cQ ?_
  symm;rw[decide_eq_false_iff_not];rintro rfl;exact absurd rfl ‹_›
 ·refine⟨k+1,⟨by omega,λi hi=>?_⟩,by omega,ag0,rfl,rfl⟩;rcases kH.1 hi with h|rfl
  ·exact h2 i h
  ·omega
 ·refine cQ ?_
  symm;rw[wK]
  refine List.ext_getElem (by omega) (λi h3 h4=>?_);have:=h2 i (by omega);simpa[List.getD,h3,h4] using this
theorem Ha(a b:List Int)(ha:a.length<=1000000)(hb:b.length<=1000000):pU 116 [aH a,aH b] (.bool (kY a b)):=by
 refine pO O7 ?_;simp only[N0,aK];have hs:=xR a b (by omega) (by omega);have hl:=qq _ a b (aJ _);unfold kY;generalize bX a b=S at *
 have hq:∀tb tf,bE .quo tb tf (.int .i64 ((a.length:Int)+b.length-S.length)) (.int .i64 2)=some (.int .i64 (((a.length+b.length-S.length)/2:Nat):Int)):=λtb tf=>by
  rw[qw (by omega) (by omega) (by omega)]
  congr 2;omega
 have hr:∀tb tf,bE .rem tb tf (.int .i64 (((a.length+b.length-S.length)/2:Nat):Int)) (.int .i64 2)=some (.int .i64 (((a.length+b.length-S.length)/2%2:Nat):Int)):=λtb tf=>by
  rw[DJ (by omega) (by omega)]
  congr 2
 have z:decide ((((a.length+b.length-S.length)/2%2:Nat):Int)=1)=decide ((a.length+b.length-S.length)/2%2=1):=decide_eq_decide.2 (by omega);refine wnY (zI4 @d8 @hq @hr @z) ?_;exact .bool _
theorem Gj{l:List (List Int)}{k:Nat}(h:k<l.length):eP 1 (bU l) (.int .i64 (k:Int))=some (.iptr [aH (l.getD k default)] 0):=by
 rw[pR,if_pos ⟨by omega,by omega⟩,cC]
theorem fv{l:List (List Int)}:dH (bU l)=some (.int .i64 l.length):=sE
theorem AQ(c:Nat)(R:List (List Int))(hm:jp c R):pU 133 [eB c R] (.tup [eB R.length (trL c R),.int .i64 0]):=by
 refine pO Ow ?_;simp only[Ph,aK];have h1:=mV c R hm;have z0:decide ((0:Int)≠0)=false:=rfl;have dm:Dat (.agg [.int .i64 c,bU R]):=dP c R;obtain⟨m1,m2,m3,m4⟩:=hm;have hzc:bv (AV.agg [AV.esl]) c=List.replicate c .esl:=by simp[bv,AV.cells]
 unfold eB;refine wnY (aI @z0 @fv) ?_;refine zR (k1:=.i64) (k2:=.i64) (n:=c) (m:=c) rfl ev0 ev0 (by omega) (Int.le_refl _) (by omega) (by omega) ?_;rw[cC,hzc,Nat.mul_one];refine wnY @fv ?_;refine lpI (X:=Nat×List AV) (λx=>[(2,.ptr 1 2 0),(5,.ptr 3 2 0),(24,bU R),(25,.int .i64 R.length),(26,.int .i64 x.1)]) (λx H' nx'=>x.1<=R.length/\4<=nx'/\H' 1=some [.int .i64 0,.esl]/\H' 3=some [.int .i64 R.length,.msl 2 c 1 0 c]/\MatOk H' 2 4 nx' c (trF R x.1) x.2) (λx=>R.length-x.1) (0,List.replicate c .esl) ⟨bW _,aJ _,by(repeat rw[ab (by omega)]);rw[ae],by rw[ae];rfl,MatOk.new (by(repeat rw[ab (by omega)]);rw[ae]) (λj _=>rfl)⟩ ?_;rintro⟨i,vs⟩ H nx ⟨i1,i2,g1,g3,hmat⟩;dsimp only at i1 i2 g1 g3 hmat |-;by_cases hi:i<R.length
 rotate_left
 ·obtain rfl:i=R.length:=by omega
  have hst:Snap (ao H 1 [.int .i64 R.length,.msl 2 c 1 0 c]) (.msl 2 c 1 0 c) (bU (trL c R)):=(hmat.same (hi':=nx) (G:=trF R R.length) (ab (by omega)) (λx x1 x2 x3=>ab (by omega)) (aJ _) (λj _=>rfl)).snap;refine wnY (aI @g1 @g3) ?_;exact kW hst rfl
 have ix:=Gj hi;have hrow:=m4 _ (bg hi);have hF:∀q,trF R (i+1) q=trF R i q++if (q:Int)∈R.getD i default then [i] else []:=λq=>He
 generalize R.getD i default=r at *
 have hrasc:∀j,j<r.length->r.getD j default∉r.take j:=λj hj hm=>by
  have hchain:∀b a,a<b->b<r.length->r.getD a default<r.getD b default:=λb=>by
   induction b with
   |zero=>intro a ha;omega
   |succ b ih=>
    intro a ha hb;have q:=hrow.2.2 b hb;rcases(by omega:a<b\/a=b) with h|rfl
    ·have:=ih a h (by omega);omega
    ·exact q
  obtain⟨a,ha,e⟩:=lm hm;rw[fY] at ha;have h5:=hchain j a (by omega) hj;have e2:r.getD a default=r.getD j default:=by rw[<-e];simp[List.getD,show a<r.length by omega]
  omega
 refine wnY @ix ?_;refine lpI (X:=Nat×List AV) (λx=>[(2,.ptr 1 2 0),(5,.ptr 3 2 0),(6,.int .i64 i),(24,bU R),(25,.int .i64 R.length),(26,.int .i64 i),(31,aH r),(32,.int .i64 r.length),(33,.int .i64 x.1)]) (λx H' nx'=>x.1<=r.length/\nx<=nx'/\H' 1=some [.int .i64 0,.esl]/\H' 3=some [.int .i64 R.length,.msl 2 c 1 0 c]/\MatOk H' 2 4 nx' c (λq=>trF R i q++if (q:Int)∈r.take x.1 then [i] else []) x.2) (λx=>r.length-x.1) (0,vs) ⟨bW _,aJ _,g1,g3,hmat.same rfl (λ_ _ _ _=>rfl) (aJ _) (λj _=>by simp)⟩ ?_;clear hmat g1 g3;rintro⟨j,vs⟩ H' nx' ⟨j1,j2,g1,g3,hmat⟩;dsimp only at j1 g1 g3 hmat |-;by_cases hj:j<r.length
 rotate_left
 ·rw[eM (by omega)] at hmat;refine wnY and_self ?_;exact⟨(i+1,vs),by dsimp only;omega,⟨by dsimp only;omega,by omega,g1,g3,hmat.same rfl (λ_ _ _ _=>rfl) (aJ _) (λq _=>hF q)⟩,ag0⟩
 have iy:=ixV hj;have hjr:=hrow.1 _ (bg hj);have htk:=bD hj;have hnm:=hrasc j hj;generalize r.getD j default=v at *;obtain⟨p,rfl⟩:∃p:Nat,v=p:=⟨v.toNat,by omega⟩
 have p1:p<c:=by omega
 refine wnY @iy ?_;refine pz 3 2 g3 hmat.box (by omega) λS0 hS1 hS2 hsub=>?_;have hFp:trF R i p++(if (p:Int)∈r.take j then [i] else [])=trF R i p:=by rw[if_neg hnm,gJ]
 have hrow2:=hmat.row p p1;rw[hFp] at hrow2
 have hvs:vs[p]?=some (vs.getD p .undef):=by
  have:=hmat.len;simp[List.getD,show p<vs.length by omega]
 have hlen:=hmat.len;have hb3:∀b,cf (vs.getD p .undef)=some b->4<=b/\b<nx'/\b≠2:=λb hb=>hmat.bnd p b p1 hb;have hFl:=Eb (R:=R) (n:=i) (q:=p);generalize hrv:vs.getD p .undef=rv at *;refine wnY (zI4 @hS1 @hS2 @hvs @hlen) ?_;refine eb ?_;refine wnY and_self ?_;refine⟨hsub _ (by rw[ab (by omega)];exact g3) (by rw[ab (by omega)];exact hmat.box),?_⟩;refine eb ?_;refine eR (hrow2.same λb hb=>?_) ?_
 ·have:=hb3 b hb;rw[ab (by omega)]
 rintro s2 H4 nx4 hr2 k1 k2 k3 k4;have lo:∀x,x<nx'->cf rv≠some x->H4 x=H' x:=λx x1 x2=>(k3 x (by omega) x2).trans (ab (by omega));have l5:∀x,x<4->H4 x=H' x:=λx hx=>lo x (by omega) (λh=>by have:=hb3 _ h;omega);have q2:=(l5 2 (by omega)).trans hmat.box;have q3:=(l5 3 (by omega)).trans g3;obtain⟨o1,o2⟩:=hr2.one;refine jv ⟨hsub _ q3 q2,?_⟩
 have hlp:bB vs p [s2]=vs.set p s2:=by
  simp only[bB,bL,eW,cE];rw[I1,if_pos (by omega)];simp
 have zz:=aI @q2 (aI @o1 (aI @o2 (aI @hlen @hlp)));repeat' (first|apply a_n|refine zO ?_|refine vY ?_|refine nvY ?_|apply iR|refine stY ?_|fail)
 refine⟨(j+1,vs.set p s2),by dsimp only;omega,⟨by dsimp only;omega,by omega,?_,?_,?_⟩,ag0⟩
 ·rw[ab (by omega),l5 _ (by omega)];exact g1
 ·rw[ab (by omega)];exact q3
 ·dsimp only;refine hmat.put (sv:=s2) (x:=i) p1 (λq hq=>?_) ?_ (λb hb=>?_) (by rw[ae,hlp]) (λx x1 x2 x3 x4=>?_) (by omega) (by omega)
  ·rw[htk];by_cases e:q=p
   ·subst e;rw[if_pos rfl,if_neg hnm,if_pos (mh _ (bT.2 rfl)),gJ]
   ·rw[if_neg e]
    congr 1
    refine zu ?_;rw[dZ,bT];exact⟨λh=>h.resolve_right (by omega),.inl⟩
  ·rw[hFp,dr]
   exact hr2.same fun b hb=>ab (by
    rcases k4 b hb with h|h
    ·have:=hb3 b h;omega
    ·omega)
  ·rw[hrv];rcases k4 b hb with h|h
   ·exact .inl h
   ·exact .inr ⟨by omega,by omega,by omega⟩
  ·rw[ab x3,lo x x2 (by rw[hrv] at x4;exact x4)]
theorem Ku{X Y:List Spx}{q:Nat}(hq:q<X.length)(hX:∀s∈X,bM cl s)(hYa:bM bK Y)(hin:∀f∈bF (X.getD q default),f∈Y)(h2:2<=(X.getD q default).length):(cq (trF (bZ X Y) (bZ X Y).length q)).length=(X.getD q default).length:=by
 have hXs:=hX _ (bg hq)
 have hperm:((trF (bZ X Y) (bZ X Y).length q).map λi=>Y.getD i default).Perm (bF (X.getD q default)):=by
  refine(List.perm_ext_iff_of_nodup ?_ (jY hXs)).2 λf=>?_
  ·refine List.nodup_iff_pairwise_ne.2 ?_;rw[List.pairwise_map];refine List.Pairwise.imp_of_mem (λ{j j'} hj hj' hlt e=>?_) (List.pairwise_lt_range.sublist wx);have h3:=du.1 (dJ.1 hj').1;rw[dF] at h3;have:=eo hYa hlt h3;rw[e,fC] at this;omega
  ·rw[bu];constructor
   ·rintro⟨j,hj,rfl⟩;obtain⟨h3,h4⟩:=dJ.1 hj;have h3:=du.1 h3;rw[dF] at h3;have h4:=nf h4;rw[kC h3,lP,fT] at h4;exact h4.2
   ·intro hf;obtain⟨h3,h4⟩:=fG (hin f hf);refine⟨Y.idxOf f,dJ.2 ⟨du.2 (by rw[dF];exact h3),bd ?_⟩,h4⟩;rw[kC h3,lP,fT,h4];exact⟨hq,hf⟩
 have:=hperm.length_eq;rw[bt,<-qh.length_eq,tE h2] at this;unfold cq;rw[bt];exact this
theorem Jr(x y:Int):pU 187 [.int .i64 x,.int .i64 y] (.bool (decide (x<y))):=by
 have h1:=kp x;have h2:=kp y;refine pO KG ?_;simp only[L7,aK];refine wnZ and_self ?_;exact .bool _
theorem CJ(l:List Int)(v:Int)(hl:l.length<=1000000000)(ha:bo l):∃b:Nat,pU 163 [aH l,.int .i64 v] (.tup [.int .i64 b,.bool (decide (v∈l))]):=by
 obtain⟨b,hb,h1,h2⟩:=PT v ha;refine⟨b,?_⟩;rw[<-Lq h1 h2 ha];refine pO NJ ?_;simp only[Oz,aK];refine wnZ @d8 ?_;refine od (X:=Nat×Nat) (λx=>[(0,aH l),(1,.int .i64 v),(6,.int .i64 l.length),(7,.int .i64 x.1),(8,.int .i64 x.2)]) (λx=>x.1<=b/\b<=x.2/\x.2<=l.length) (λx=>x.2-x.1) (0,l.length) ⟨bW _,hb,aJ _⟩ ag0 ?_;rintro⟨i,j⟩ ⟨g1,g2,g3⟩;dsimp only at g1 g2 g3 |-;by_cases hij:i<j
 ·have hh:(i+j)/2<l.length:=by omega
  have hc:=Jr (l.getD ((i+j)/2) default) v;have ix:=ixV hh;by_cases hn:l.getD ((i+j)/2) default<v
  ·rw[bd hn] at hc;have hbb:(i+j)/2<b:=Nat.lt_of_not_le λh=>by have:=h2 _ h hh;omega
   refine wnZ (zI4 @d8 @gR @D6 @ix) ?_;exact⟨((i+j)/2+1,j),⟨by omega,by omega,by omega⟩,by dsimp only;omega,ag0,rfl,rfl⟩
  ·rw[bh hn] at hc;have hbb:b<=(i+j)/2:=Nat.le_of_not_lt λh=>hn (h1 _ h);refine wnZ (zI4 @d8 @gR @D6 @ix) ?_;exact⟨(i,(i+j)/2),⟨by omega,by omega,by omega⟩,by dsimp only;omega,ag0,rfl,rfl⟩
 ·have ei:i=b:=by omega
  have ej:j=b:=by omega
  clear hij g1 g2 g3;subst ei;have dij:decide ((i:Int)<(j:Int))=false:=bh (by omega);by_cases hlt:i<l.length
  ·have hc:=kp (l.getD i default);have ix:=ixV hlt;have hna:=kp v
   have hn2:∀n:Int,pU 188 [.int .i64 n] (.bool false):=λn=>by
    refine pO Nj ?_;simp only[Oq,aK];refine wnZ and_self ?_;exact cQ (by simp)
   have dlt:decide ((i:Int)<(l.length:Int))=true:=bd (by omega);by_cases hv:l.getD i default=v
   ·have dv:decide (l.getD i default=v)=true:=bd hv;rw[dv,bd hlt,Bool.true_and];refine wnZ (zI5 @d8 @ix @dlt @dij @dv) ?_;exact bS (ag (.int _ _) (ag (.bool _) aj))
   ·have dv:decide (l.getD i default=v)=false:=bh hv;rw[dv,Bool.and_false];have zz:=aI @d8 (aI @ix (aI @dlt (aI @dij @dv)));repeat' (first|refine zW ?_|apply a_n|apply a_x|refine zO ?_|refine vZ ?_|refine cZ ?_ (hp:=by exact hn2 _)|refine gTZ ?_|refine gFZ ?_|refine cFZ ?_|refine bC rfl ?_|refine r2Z ?_|fail)
    exact bS (ag (.int _ _) (ag (.bool _) aj))
  ·have dlt:decide ((i:Int)<(l.length:Int))=false:=bh (by omega);rw[bh hlt,Bool.false_and];refine wnZ (zI3 @d8 @dlt @dij) ?_;exact bS (ag (.int _ _) (ag (.bool _) aj))
theorem I7(l:List Int)(v:Int)(hl:l.length<=1000000000)(ha:bo l):pU 146 [aH l,.int .i64 v] (.bool (decide (v∈l))):=by
 obtain⟨b,hb⟩:=CJ l v hl ha;refine pO PA ?_;simp only[Pn,aK];refine wnZ and_self ?_;exact .bool _
theorem Ir(M:List Ln)(c n:Nat)(hc:c<=4096)(hn:n<=4096)(hM:RedU M)(hMb:∀l∈M,BL c n l)(x:Ln)(hx:cT x)(hxb:BL c n x){a:AV}{Hf HA H:Hp}(hfz:Fz Hf HA H)(hs:Snap Hf a (fu x)){nx m lb:Nat}(hlb:lb<nx)(hm:m<nx)(hne:m≠lb)(h1:H lb=some [.mp m])(h2:LM H m M):
    Abs.Fn Tryz.prog 149 [a,.ptr lb 1 0] HA nx λr H' nx'=>r=fu (ew M x)/\(∀b,b<nx->H' b=H b)/\nx<=nx':=by
 refine fO MZ ?_;simp only[NU,aK];have hx0:fu x=.agg [aH x.1,aH x.2]:=rfl;refine dT ?_;refine o9 Hf H [(0,fu x),(1,.ptr lb 1 0)] hfz ⟨.inr hs,.inl rfl,trivial⟩ ?_;rw[hx0];clear hs hfz;refine wnY @h1 ?_;refine lpI (X:=Ln×Nat) (λy=>[(1,.ptr lb 1 0),(2,.ptr nx 2 0),(3,.ptr (nx+1) 2 0),(4,.int .i64 y.2)]) (λy H' nx'=>y.2<=y.1.1.length/\nx+2<=nx'/\cT y.1/\BL c n y.1/\ew M y.1=ew M x/\(∀j,j<y.2->∀l∈M,ld l.1≠y.1.1.getD j default)/\H' nx=some [aH y.1.1,aH y.1.2]/\H' (nx+1)=some [.esl,.esl]/\∀b,b<nx->H' b=H b) (λy=>nL M y.1*10000+(y.1.1.length-y.2)) (x,0) ⟨bW _,aJ _,hx,hxb,rfl,λj h=>absurd h (by omega),by rw[ab (by omega),ae],by rw[ae],λb hb=>by rw[ab (by omega),ab (by omega)]⟩ ?_;clear hx hxb hx0;rintro⟨y,i⟩ H' nx' ⟨g1,g2,g3,g4,g5,g6,g7,g8,g9⟩;dsimp only at g1 g2 g3 g4 g5 g6 g7 g8 g9 |-;obtain⟨l1,l2⟩:=g4.len g3;have k1:H' lb=some [.mp m]:=(g9 lb hlb).trans h1;have k2:LM H' m M:=(g9 m hm).trans h2;by_cases hi:i<y.1.length
 rotate_left
 ·have hr:ew M y=y:=FP hM g3 λl hl hz=>by
    obtain⟨j,hj,e⟩:=lm hz;refine g6 j (by omega) l hl ?_;rw[<-e];simp[List.getD,hj]
  have z:decide ((i:Int)<y.1.length)=false:=bh (by omega);rw[<-g5,hr];refine wnY (zI4 @d8 @z @g7 @g8) ?_;exact⟨rfl,λb hb=>by rw[ab (by omega)];exact g9 b hb,by omega⟩
 have z:decide ((i:Int)<y.1.length)=true:=bd (by omega);have ix:=ixV hi;have hvm:=az hi;generalize hv:y.1.getD i default=v at *;refine wnY (zI4 @d8 @z @ix @g7) ?_;refine Dd lb m nx k1 k2 g7 (by omega) (by omega) (by omega) λS hS1 hS2 hS3 hsub=>?_;refine wnY (zI4 @hS1 @hS2 @hS3 @ix) ?_;simp only[ff,List.map_nil,List.getD_cons_succ,List.getD_cons_zero];by_cases hk:v∈cu M
 rotate_left
 ·have hmg:Go.Abs.mget (.agg [.esl,.esl]) true (if v∈cu M then some ((cu M).idxOf v) else none) (M.map fu)=.tup [.agg [.esl,.esl],.bool false]:=by rw[if_neg hk];rfl
  refine MF (MJ ev0 hS2 ev0) ?_;rw[hmg];refine wnY and_self ?_;refine eb ?_;refine wnY and_self ?_;refine⟨hsub _ (by rw[ab (by omega)];exact k1) (by rw[ab (by omega)];exact k2) (by rw[ab (by omega)];exact g7),?_⟩;refine wnY and_self ?_;refine⟨(y,i+1),by dsimp only;omega,⟨by dsimp only;omega,by omega,g3,g4,g5,λj hj l hl=>?_,by rw[ab (by omega),ab (by omega)];exact g7,by rw[ab (by omega),ab (by omega)];exact g8,λb hb=>by rw[ab (by omega),ab (by omega)];exact g9 b hb⟩,ag0⟩;dsimp only;rcases(by omega:j<i\/j=i) with q|rfl
  ·exact g6 j q l hl
  ·rw[hv];exact λe=>hk (oT.2 ⟨l,hl,e⟩)
 obtain⟨l,hl,hld,hgd⟩:=xG hk
 have hmg:Go.Abs.mget (.agg [.esl,.esl]) true (if v∈cu M then some ((cu M).idxOf v) else none) (M.map fu)=.tup [.agg [aH l.1,aH l.2],.bool true]:=by
  rw[if_pos hk];show AV.tup [(M.map fu).getD ((cu M).idxOf v) .undef,.bool true]=_;rw[hgd];rfl
 refine MF (MJ ev0 hS2 ev0) ?_;rw[hmg];refine wnY and_self ?_;refine eb ?_;refine wnY and_self ?_;refine⟨hsub _ (by rw[ab (by omega)];exact k1) (by rw[ab (by omega)];exact k2) (by rw[ab (by omega)];exact g7),?_⟩;refine wnY and_self ?_;have hla:=hM.asc l hl;have hlb':=hMb l hl;obtain⟨l3,l4⟩:=hlb'.len hla;have hs1:=xR y.1 l.1 (by omega) (by omega);have hs2:=xR y.2 l.2 (by omega) (by omega)
 have hlt:∀j,j<i->∀w∈l.1,y.1.getD j default<w:=λj hj w hw=>by
  have h5:=pt hla.1 hw;have h6:=my.1 g3.1 j i (by omega) hi hj;have e1:y.1.getD j default=y.1[j]:=by simp[List.getD,show j<y.1.length by omega]
  have e2:y.1.getD i default=y.1[i]:=by simp[List.getD,hi]
  omega
 have hp1:=A2 (i:=i) (a:=y.1) (b:=l.1) (by omega) hlt;have hp2:=ye (i:=i) (a:=y.1) (b:=l.1) (by omega) hlt;have hnl:=MB hM g3 hl (by rw[hld];exact hvm);have ha':=fB g3 hla;have hb':=g4.add hlb' g3 hla;obtain⟨l5,_⟩:=hb'.len ha';have hrx:=FF hM g3 hl;have e7:ao (ao H' nx' [AV.esl,AV.esl]) nx' (bB [AV.esl,AV.esl] 0 [aH l.1,aH l.2]) nx'=some [aH l.1,aH l.2]:=by rw[ae];rfl
 have e8:ao (ao H' nx' [AV.esl,AV.esl]) nx' (bB [AV.esl,AV.esl] 0 [aH l.1,aH l.2]) nx=some [aH y.1,aH y.2]:=by rw[ab (by omega),ab (by omega)];exact g7
 have e9:∀b,b≠nx->b<nx'->ao (ao H' nx' [AV.esl,AV.esl]) nx' (bB [AV.esl,AV.esl] 0 [aH l.1,aH l.2]) b=H' b:=λb h1 h2=>by rw[ab (by omega),ab (by omega)]
 generalize ao (ao H' nx' [AV.esl,AV.esl]) nx' (bB [AV.esl,AV.esl] 0 [aH l.1,aH l.2])=H2 at *;have hadd:eH y l=(bX y.1 l.1,bX y.2 l.2):=rfl;generalize bX y.1 l.1=s1 at *;generalize bX y.2 l.2=s2 at *;refine wkY (aI @e7 @e8) ?_;refine⟨((s1,s2),i),?_,⟨hp2,by omega,by rw[<-hadd];exact ha',by rw[<-hadd];exact hb',by rw[<-hadd,hrx];exact g5,λj hj l' hl'=>by dsimp only;rw[hp1 j hj];exact g6 j hj l' hl',by rw[ae];rfl,by rw[ab (by omega),e9 _ (by omega) (by omega)];exact g8,λb hb=>by rw[ab (by omega),e9 _ (by omega) (by omega)];exact g9 b hb⟩,ag0⟩;rw[hadd] at hnl l5;dsimp only at hnl l5 |-;omega
theorem Hm(l:List Int)(hl:l.length<=1000000000):PureF Tryz.prog 150 [aH l] (aH l):=by
 refine qO OI ?_;simp only[O8,aK];refine wnZ and_self ?_;refine rp (k:=l.length) (by((try simp only[ct,ZA,reduceEqDiff,↓reduceIte,reduceAdd,reduceLeDiff]);(try with_reducible rfl));exact CI) (λh=>?_) (λh=>?_) (λh=>?_)
 ((all_goals (try have zz:=and_self));(repeat' (first|refine zW ?_|apply a_n|apply a_r|refine zO ?_|refine vZ ?_|refine b0Z ?_|refine a0Z ?_|refine cTZ ?_|refine cFZ ?_|refine bC rfl ?_|refine r1Z ?_|fail));(all_goals (try clear zz)))
 ·exact x6 ae (by omega) rfl
 ·exact Fg h
 ·exact x6 ae (by omega) rfl
theorem xN(c:Nat)(R:List (List Int))(hc:c<=4096)(hl:R.length<=4096)(hR:∀r∈R,bo r)(hv:∀r∈R,∀z∈r,0<=z/\z<(c:Int)):pU 115 [eB c R] (.tup [nM (lZ R c),bU (stE R R.length).2]):=by
 refine pO Oh ?_;simp only[OD,aK];rw[dR];refine dT ?_
 repeat' (first|apply a_n|refine zO ?_|refine vY ?_|refine bxY ?_|fail)
 refine dT ?_;refine wnY and_self ?_;refine sy ?_;refine ql (cs:=[.nilm]) rfl rfl rfl ?_
 repeat' (first|apply a_n|refine zO ?_|refine stY ?_|fail)
 refine dT ?_
 repeat' (first|apply a_n|refine zO ?_|refine vY ?_|fail)
 refine dT ?_
 repeat' (first|apply a_n|refine zO ?_|refine vY ?_|fail)
 refine cR (λT H nx=>T 1=.ptr 0 2 0/\T 4=.ptr 2 1 0/\3<=nx/\H 0=some [.int .i64 c,bU R]/\H 2=some [.mp 1]/\LM H 1 (stE R R.length).1/\∃dv,T 6=dv/\Row H 1 dv ((stE R R.length).2.map aH)/\∀b,cf dv=some b->2<b/\b<nx) ?_ ?_
 ·refine wnY @fv ?_;refine lpI (X:=AV×Nat) (λx=>[(1,.ptr 0 2 0),(4,.ptr 2 1 0),(5,.func 149 [.ptr 2 1 0]),(6,x.1),(19,bU R),(20,.int .i64 R.length),(21,.int .i64 x.2)]) (λx H nx=>x.2<=R.length/\3<=nx/\H 0=some [.int .i64 c,bU R]/\H 2=some [.mp 1]/\LM H 1 (stE R x.2).1/\Row H 1 x.1 ((stE R x.2).2.map aH)/\∀b,cf x.1=some b->2<b/\b<nx) (λx=>R.length-x.2) (.esl,0) ⟨bW _,aJ _,rfl,rfl,rfl,Row.nil,λb h=>(by cases h)⟩ ?_;rintro⟨dv,k⟩ H nx ⟨h1,h2,h3,h4,h5,h6,h7⟩;dsimp only at h1 h2 h3 h4 h5 h6 h7 |-;by_cases hk:k<R.length
  rotate_left
  ·obtain rfl:k=R.length:=by omega
   refine wnY and_self ?_;exact⟨rfl,rfl,h2,h3,h4,h5,dv,rfl,h6,h7⟩
  have ix:=Gj hk;have hrow:=hR _ (az hk);have hrv:=hv _ (az hk);have hst:=fJ hR (i:=k) (by omega);have hbl:=CH hR hv (k:=k) (by omega);have hsl:=zx hR (k:=k) (by omega);have hss:stE R (k+1)=if (ew (stE R k).1 (R.getD k default,[(k:Int)])).1=[] then((stE R k).1,(stE R k).2++[(ew (stE R k).1 (R.getD k default,[(k:Int)])).2]) else(kV (stE R k).1 (ew (stE R k).1 (R.getD k default,[(k:Int)])),(stE R k).2):=rfl
  generalize R.getD k default=r at *;generalize stE R k=MD at *;obtain⟨M,D⟩:=MD;dsimp only at *;have hrl:=gx hrow hrv;have hcl:=Hm r (by omega);refine wnY @ix ?_;refine gy ev0 ev0 hcl (ag (dz _ _) aj) ?_;refine wnY @ix ?_;have hM:=hst.red;have hax:cT (r,[(k:Int)]):=⟨hrow,List.pairwise_singleton _ _⟩
  have hbx:BL c R.length (r,[(k:Int)]):=⟨hrv,λj hj=>by rw[bT.1 hj];omega⟩
  refine aU ev0 ev0 (Ir M c R.length hc hl hM hbl (r,[(k:Int)]) hax hbx (Fz.one ae) (mb (ag (dz _ _) (ag (eN (n:=1) (len:=1) (l:=[(k:Int)]) jl rfl rfl) aj))) (m:=1) (lb:=2) (by omega) (by omega) (by omega) (by rw[cK (by omega),ab (by omega)];exact h4) (by unfold LM;rw[cK (by omega),ab (by omega)];exact h5)) ?_;rintro _ H1 nx1 ⟨rfl,g1,g2⟩;have hay:cT (ew M (r,[(k:Int)])):=ji (λl hl=>hM.asc l hl) hax;have hby:BL c R.length (ew M (r,[(k:Int)])):=CW (λl hl=>⟨hM.asc l hl,hbl l hl⟩) hax hbx;have hno:∀l∈M,ld l.1∉(ew M (r,[(k:Int)])).1:=λl hl=>lM hM hax hl;generalize ew M (r,[(k:Int)])=y at *;have lo:∀b,b<nx->H1 b=H b:=λb hb=>(g1 b (by omega)).trans (by rw[cK (by omega),ab (by omega)]);have e1:fu y=.agg [aH y.1,aH y.2]:=rfl;rw[e1];by_cases h0:y.1=[]
  ·rw[if_pos h0] at hss;have z:decide ((y.1.length:Int)=0)=true:=by rw[h0];rfl
   refine wnY (aI @d8 @z) ?_;refine eR (h6.same λb hb=>?_) ?_
   ·have:=h7 b hb;rw[ab (by omega),ab (by omega),ab (by omega)];exact lo b (by omega)
   rintro s2 H2 nx2 hr2 i1 i2 i3 i4;have lo2:∀b,b<nx->cf dv≠some b->H2 b=H b:=λb hb hn=>(i3 b (by omega) hn).trans (by rw[ab (by omega),ab (by omega),ab (by omega)];exact lo b hb);have hd:∀b,b<=2->cf dv≠some b:=λb hb e=>by have:=h7 b e;omega
   refine wnY and_self ?_;refine⟨(s2,k+1),by dsimp only;omega,⟨by dsimp only;omega,by omega,(lo2 0 (by omega) (hd 0 (by omega))).trans h3,(lo2 2 (by omega) (hd 2 (by omega))).trans h4,?_,?_,λb hb=>?_⟩,ag0⟩
   ·dsimp only;rw[hss];exact(lo2 1 (by omega) (hd 1 (by omega))).trans h5
   ·dsimp only;rw[hss,dr];exact hr2
   ·rcases i4 b hb with h|h
    ·have:=h7 b h;omega
    ·omega
  rw[if_neg h0] at hss;have z:decide ((y.1.length:Int)=0)=false:=bh (by have:=iM.2 h0;omega);refine wnY (aI @d8 @z) ?_;have hd:∀b,b<=2->cf dv≠some b:=λb hb e=>by have:=h7 b e;omega
  have q0:ao (ao H1 nx1 [AV.esl,AV.esl]) nx1 (bB [AV.esl,AV.esl] 0 [aH y.1,aH y.2]) 0=some [.int .i64 c,bU R]:=by rw[ab (by omega),ab (by omega)];exact(lo 0 (by omega)).trans h3
  have q2:ao (ao H1 nx1 [AV.esl,AV.esl]) nx1 (bB [AV.esl,AV.esl] 0 [aH y.1,aH y.2]) 2=some [.mp 1]:=by rw[ab (by omega),ab (by omega)];exact(lo 2 (by omega)).trans h4
  have q1:LM (ao (ao H1 nx1 [AV.esl,AV.esl]) nx1 (bB [AV.esl,AV.esl] 0 [aH y.1,aH y.2])) 1 M:=by unfold LM;rw[ab (by omega),ab (by omega)];exact(lo 1 (by omega)).trans h5
  have qy:ao (ao H1 nx1 [AV.esl,AV.esl]) nx1 (bB [AV.esl,AV.esl] 0 [aH y.1,aH y.2]) nx1=some [aH y.1,aH y.2]:=by rw[ae];rfl
  have qd:Row (ao (ao H1 nx1 [AV.esl,AV.esl]) nx1 (bB [AV.esl,AV.esl] 0 [aH y.1,aH y.2])) 1 dv (D.map aH):=h6.same λb hb=>by
   have:=h7 b hb;rw[ab (by omega),ab (by omega)];exact lo b (by omega)
  generalize ao (ao H1 nx1 [AV.esl,AV.esl]) nx1 (bB [AV.esl,AV.esl] 0 [aH y.1,aH y.2])=H2 at *;clear lo g1;refine wnY @q2 ?_;refine LK ev0 q1 ?_;refine wnY and_self ?_;have hkl:(cu M).length=M.length:=by unfold cu;rw[bt]
  have hkn:=AK hM;have ix0:=JX h0;obtain⟨yl1,yl2⟩:=hby.len hay;refine lpI (X:=List Nat) (λx=>[(1,.ptr 0 2 0),(4,.ptr 2 1 0),(5,.func 149 [.ptr 2 1 0]),(6,dv),(9,.ptr nx1 2 0),(19,bU R),(20,.int .i64 R.length),(21,.int .i64 k),(43,.itr (nx1+1))]) (λseen H nx'=>H (nx1+1)=some [.oiter 1 ((cu M).map (AV.int .i64)).length seen]/\nx1+2<=nx'/\seen.Nodup/\(∀i∈seen,i<M.length)/\H 0=some [.int .i64 c,bU R]/\H 2=some [.mp 1]/\H nx1=some [aH y.1,aH y.2]/\H 1=some [.omap ((cu M).map (AV.int .i64)) (vsS M y seen)]/\Row H 1 dv (D.map aH)) (λseen=>M.length-seen.length) [] ⟨ae,aJ _,List.nodup_nil,λi h=>(by cases h),(ab (by omega)).trans q0,(ab (by omega)).trans q2,(ab (by omega)).trans qy,by rw[Jm];exact(ab (by omega)).trans q1,qd.same λb hb=>by have:=h7 b hb;rw[ab (by omega)]⟩ ?_;clear q0 q2 q1 qy qd;rintro seen H3 nx3 ⟨r1,r2,r3,r4,q0,q2,qy,q1,qd⟩
  have hsl:seen.length<=M.length:=by
   have:=tw r3 (l₂:=List.range M.length) λi hi=>du.2 (r4 i hi);simpa using this
  refine wnY and_self ?_;refine Mn ev0 r1 q1 rfl (λi hi hns=>?_) (λhall=>?_)
  ·have hi:i<M.length:=by rw[bt,hkl] at hi;exact hi
   have ek:((cu M).map (AV.int .i64)).getD i .undef=.int .i64 (ld (M.getD i default).1):=by
    unfold cu;simp[List.getD,hi]
   have evv:(vsS M y seen).getD i .undef=.agg [aH (M.getD i default).1,aH (M.getD i default).2]:=Dx hi hns
   have hidx:(cu M).idxOf (ld (M.getD i default).1)=i:=by
    have h5:i<(cu M).length:=by rw[hkl];exact hi
    have h6:(cu M)[i]=ld (M.getD i default).1:=by
     have:(cu M)[i]=ld M[i].1:=List.getElem_map ..;rw[this];simp[List.getD,hi]
    have h7:=qU.2 (show ld (M.getD i default).1∈cu M by rw[<-h6];exact pe h5);have h8:(cu M)[(cu M).idxOf (ld (M.getD i default).1)]=(cu M)[i]:=by rw[List.getElem_idxOf h7,h6]
    exact(List.getElem_inj hkn).1 h8
   have hkm:ld (M.getD i default).1∈cu M:=oT.2 ⟨_,az hi,rfl⟩;have hla:=hM.asc _ (az hi);have hlb:=hbl _ (az hi);obtain⟨ll1,ll2⟩:=hlb.len hla;have hset:=Ew (M:=M) (y:=y) (seen:=seen) (i:=i);have hsame:=Hz (M:=M) (y:=y) (seen:=seen) (i:=i) hi hns;have r3':(seen++[i]).Nodup:=s0.2 ⟨r3,by simp,λx hx z hz e=>by rw[e,bT.1 hz] at hx;exact hns hx⟩
   have r4':∀x∈seen++[i],x<M.length:=λx hx=>by
    rcases dZ.1 hx with q|q
    ·exact r4 x q
    ·rw[bT.1 q];exact hi
   have hsl2:(seen++[i]).length<=M.length:=by
    have:=tw r3' (l₂:=List.range M.length) λi hi=>du.2 (r4' i hi);simpa using this
   rw[cA,List.length_singleton] at hsl2;generalize M.getD i default=l at *;have hhas:=I7 l.1 (ld y.1) (by omega) hla.1;refine wnY (aI @ek @evv) ?_;refine LJ (i:=i) ev0 ae (by rw[ab (by omega)];exact q1) rfl (by simp) (by rw[bt,hkl];exact hi) ?_;refine wnY (aI @ek @evv) ?_;have w0:ao (ao (ao H3 (nx1+1) [AV.oiter 1 ((cu M).map (AV.int .i64)).length (seen++[i])]) nx3 [AV.esl,AV.esl]) nx3 (bB [AV.esl,AV.esl] 0 [aH l.1,aH l.2]) 0=some [.int .i64 c,bU R]:=by rw[ab (by omega),ab (by omega),ab (by omega)];exact q0
   have w2:ao (ao (ao H3 (nx1+1) [AV.oiter 1 ((cu M).map (AV.int .i64)).length (seen++[i])]) nx3 [AV.esl,AV.esl]) nx3 (bB [AV.esl,AV.esl] 0 [aH l.1,aH l.2]) 2=some [.mp 1]:=by rw[ab (by omega),ab (by omega),ab (by omega)];exact q2
   have w1:ao (ao (ao H3 (nx1+1) [AV.oiter 1 ((cu M).map (AV.int .i64)).length (seen++[i])]) nx3 [AV.esl,AV.esl]) nx3 (bB [AV.esl,AV.esl] 0 [aH l.1,aH l.2]) 1=some [.omap ((cu M).map (AV.int .i64)) (vsS M y seen)]:=by rw[ab (by omega),ab (by omega),ab (by omega)];exact q1
   have wy:ao (ao (ao H3 (nx1+1) [AV.oiter 1 ((cu M).map (AV.int .i64)).length (seen++[i])]) nx3 [AV.esl,AV.esl]) nx3 (bB [AV.esl,AV.esl] 0 [aH l.1,aH l.2]) nx1=some [aH y.1,aH y.2]:=by rw[ab (by omega),ab (by omega),ab (by omega)];exact qy
   have wl:ao (ao (ao H3 (nx1+1) [AV.oiter 1 ((cu M).map (AV.int .i64)).length (seen++[i])]) nx3 [AV.esl,AV.esl]) nx3 (bB [AV.esl,AV.esl] 0 [aH l.1,aH l.2]) nx3=some [aH l.1,aH l.2]:=by rw[ae];rfl
   have wi:ao (ao (ao H3 (nx1+1) [AV.oiter 1 ((cu M).map (AV.int .i64)).length (seen++[i])]) nx3 [AV.esl,AV.esl]) nx3 (bB [AV.esl,AV.esl] 0 [aH l.1,aH l.2]) (nx1+1)=some [.oiter 1 ((cu M).map (AV.int .i64)).length (seen++[i])]:=by rw[ab (by omega),ab (by omega),ae]
   have wd:Row (ao (ao (ao H3 (nx1+1) [AV.oiter 1 ((cu M).map (AV.int .i64)).length (seen++[i])]) nx3 [AV.esl,AV.esl]) nx3 (bB [AV.esl,AV.esl] 0 [aH l.1,aH l.2])) 1 dv (D.map aH):=qd.same λb hb=>by
    have:=h7 b hb;rw[ab (by omega),ab (by omega),ab (by omega)]
   generalize ao (ao (ao H3 (nx1+1) [AV.oiter 1 ((cu M).map (AV.int .i64)).length (seen++[i])]) nx3 [AV.esl,AV.esl]) nx3 (bB [AV.esl,AV.esl] 0 [aH l.1,aH l.2])=H4 at *;clear q0 q2 q1 qy qd;by_cases hin:ld y.1∈l.1
   ·rw[bd hin] at hhas;have hs1:=xR l.1 y.1 (by omega) (by omega);have hs2:=xR l.2 y.2 (by omega) (by omega);have hcl:fu (kG y l)=.agg [aH (bX l.1 y.1),aH (bX l.2 y.2)]:=by unfold kG;rw[if_pos hin];rfl
    rw[hcl] at hset;clear hcl;generalize bX l.1 y.1=s1 at *;generalize bX l.2 y.2=s2 at *;refine wkY (zI3 @wy @wl @ix0) ?_;refine Dd 2 nx3 nx1 w2 wl wy (by omega) (by omega) (by omega) λS hS1 hS2 hS3 hsub=>?_;refine wnY (zI3 @hS1 @hS2 @hS3) ?_;simp only[ff,List.map_nil,List.getD_cons_succ,List.getD_cons_zero];refine eb ?_;refine wnY and_self ?_;refine⟨hsub _ w2 wl wy,?_⟩;refine eb ?_;refine wnY and_self ?_;refine⟨hsub _ w2 wl wy,?_⟩;refine wnY and_self ?_;have hmf:=jD (ld l.1) (cu M);rw[if_pos hkm,hidx] at hmf;refine nw ev0 w1 ev0 ev0 rfl hmf ?_;refine wnY and_self ?_;refine⟨seen++[i],by rw[cA,List.length_singleton];omega,⟨(ab (by omega)).trans wi,by omega,r3',r4',(ab (by omega)).trans w0,(ab (by omega)).trans w2,(ab (by omega)).trans wy,?_,wd.same λb hb=>by have:=h7 b hb;rw[ab (by omega)]⟩,ag0⟩;rw[ae,<-hset];rfl
   ·rw[bh hin] at hhas;refine wkY (zI3 @wy @wl @ix0) ?_;exact⟨seen++[i],by rw[cA,List.length_singleton];omega,⟨wi,by omega,r3',r4',w0,w2,wy,by rw[hsame hin];exact w1,wd⟩,ag0⟩
  ·have hall:∀i,i<M.length->i∈seen:=λi hi=>hall i (by rw[bt,hkl];exact hi) (by rw[bt,hkl];exact hi);rw[JW hall,<-Bl hM hay h0 hno] at q1
   have hkk:ld y.1∉cu (M.map (kG y)):=by
    rw[Bl hM hay h0 hno,oT];rintro⟨l,hl,e⟩;exact hno l hl (by rw[e];exact dy h0)
   refine wnY (zI3 @q2 @qy @ix0) ?_;refine pz 2 nx1 q2 qy (by omega) λS hS1 hS2 hsub=>?_;have zz:=aI @hS1 (aI @hS2 @ix0);repeat' (first|apply a_n|refine zO ?_|refine nvY ?_|apply iR|fail)
   simp only[ff,List.map_nil,List.getD_cons_succ,List.getD_cons_zero]
   skip
   have hmf:=jD (ld y.1) (cu (M.map (kG y)));rw[if_neg hkk] at hmf;refine nw ev0 q1 ev0 ev0 rfl hmf ?_;refine wnY and_self ?_;refine⟨(dv,k+1),by dsimp only;omega,⟨by dsimp only;omega,by omega,(ab (by omega)).trans q0,(ab (by omega)).trans q2,?_,?_,λb hb=>by have:=h7 b hb;omega⟩,ag0⟩
   ·dsimp only;rw[hss];unfold LM;rw[ae];unfold kV cu;simp[dl,gL,fu]
   ·dsimp only;rw[hss];exact qd.same λb hb=>by have:=h7 b hb;rw[ab (by omega)]
 rintro T H nx ⟨t1,t4,h2,h3,h4,h5,dv,t6,h6,h7⟩;have hst:=fJ hR (aJ R.length);have hbl:=CH hR hv (aJ R.length);have hsl:=zx hR (aJ R.length);unfold lZ;generalize stE R R.length=MD at *;obtain⟨M,D⟩:=MD;dsimp only at *;have hM:=hst.red;refine wnY (zI5 @t1 @t4 @t6 @h3 @h4) ?_;refine ca (X:=AV×Nat) (λx=>[(4,.ptr 2 1 0),(6,dv),(12,x.1),(77,.int .i64 c),(78,.int .i64 x.2)]) (λx H' nx'=>x.2<=c/\nx<=nx'/\H' 2=some [.mp 1]/\LM H' 1 M/\Row H' 1 dv (D.map aH)/\Row H' 2 x.1 (cLs (mR M x.2))/\∀b,cf x.1=some b->nx<=b/\b<nx') (λx=>c-x.2) (.esl,0) ⟨bW _,aJ _,h4,h5,h6,Row.nil,λb h=>(by cases h)⟩ (have zz:=aI @t4 @t6;agZ) ?_;clear h3 h4 h5 h6;rintro⟨ov,k⟩ H' nx' ⟨g1,g2,g3,g4,g5,g6,g7⟩;dsimp only at g1 g2 g3 g4 g5 g6 g7 |-;by_cases hk:k<c
 rotate_left
 ·obtain rfl:k=c:=by omega
  refine wnY and_self ?_;exact bS (ag (J0 g6) (ag (qS g5) aj))
 have hos:=oQ (M:=M) (c:=k);have hol:=B7 (M:=M) (c:=k);have hmf:=jD (k:Int) (cu M);refine wnY @g3 ?_;by_cases hm:(k:Int)∈cu M
 rotate_left
 ·rw[if_neg hm] at hmf;refine fh ev0 g4 ev0 rfl hmf ?_;have hmg:Go.Abs.mget (.agg [.esl,.esl]) true none (M.map fu)=.tup [.agg [.esl,.esl],.bool false]:=rfl;rw[hmg];refine wnY and_self ?_;rw[CL hm] at hos;have hos:mR M (k+1)=mR M k:=by rw[hos];simp
  refine⟨(ov,k+1),by dsimp only;omega,⟨by dsimp only;omega,by omega,by rw[ab (by omega),ab (by omega)];exact g3,?_,g5.same λb hb=>by have:=h7 b hb;rw[ab (by omega),ab (by omega)],?_,λb hb=>by have:=g7 b hb;omega⟩,ag0⟩
  ·unfold LM;rw[ab (by omega),ab (by omega)];exact g4
  ·dsimp only;rw[hos];exact g6.same λb hb=>by have:=g7 b hb;rw[ab (by omega),ab (by omega)]
 obtain⟨l,hl,hld,hgd⟩:=xG hm;rw[if_pos hm] at hmf;refine fh ev0 g4 ev0 rfl hmf ?_
 have hmg:Go.Abs.mget (.agg [.esl,.esl]) true (some ((cu M).idxOf (k:Int))) (M.map fu)=.tup [.agg [aH l.1,aH l.2],.bool true]:=by
  show AV.tup [(M.map fu).getD ((cu M).idxOf (k:Int)) .undef,.bool true]=_;rw[hgd];rfl
 rw[hmg];rw[Ic hM hl hld] at hos;have hos:mR M (k+1)=mR M k++[l]:=hos;refine wnY and_self ?_;refine mY rfl ev0 (g6.same λb hb=>?_) ev0 r6 rfl rfl (by omega) (by rw[Ez];omega) (by rw[Ez];omega) ?_
 ·have:=g7 b hb;rw[ab (by omega),ab (by omega),ab (by omega)]
 rintro s2 H2 nx2 hr2 i1 i2 i3 i4;have hdo:∀b,b<nx->cf ov≠some b:=λb hb e=>by have:=g7 b e;omega
 have lo2:∀b,b<nx->H2 b=H' b:=λb hb=>(i3 b (by omega) (hdo b hb)).trans (by rw[ab (by omega),ab (by omega),ab (by omega)]);refine wnY and_self ?_;refine⟨(s2,k+1),by dsimp only;omega,⟨by dsimp only;omega,by omega,(lo2 2 (by omega)).trans g3,(lo2 1 (by omega)).trans g4,g5.same λb hb=>by have:=h7 b hb;rw[lo2 b (by omega)],?_,λb hb=>?_⟩,ag0⟩
 ·dsimp only;rw[hos,Ig];exact hr2
 ·rcases i4 b hb with h|h
  ·have:=g7 b h;omega
  ·omega
theorem pN(c:Nat)(R:List (List Int))(hm:jp c R):pU 134 [eB c R] (.tup [eB c (ed R c),.int .i64 0]):=by
 refine pO Pv ?_;simp only[Oc,aK];have h1:=mV c R hm;have z0:decide ((0:Int)≠0)=false:=rfl;have hd:Dat (.agg [.int .i64 c,bU R]):=dP c R;have hec:=xN c R (by have:=hm.2.1;omega) hm.2.2.1 (gN hm) (λr hr z hz=>(hm.2.2.2 r hr).1 z hz);have hll:=mc (R:=R) (c:=c);have hmc:=hm.2.1;rw[dR] at hec |-;unfold ed;generalize lZ R c=L at *;refine wnY (aI @z0 @vR) ?_;refine lpI (X:=AV×Nat) (λx=>[(2,.ptr 1 2 0),(5,.ptr 2 2 0),(24,nM L),(25,.int .i64 L.length),(26,.int .i64 x.2)]) (λx H nx=>x.2<=L.length/\3<=nx/\H 1=some [.int .i64 0,.esl]/\H 2=some [.int .i64 c,x.1]/\Row H 1 x.1 (((L.take x.2).map Prod.fst).map aH)/\∀b,cf x.1=some b->2<b/\b<nx) (λx=>L.length-x.2) (.esl,0) ⟨bW _,aJ _,rfl,rfl,Row.nil,λb h=>(by cases h)⟩ ?_;rintro⟨sv,k⟩ H nx ⟨g1,g2,g3,g4,g5,g6⟩;dsimp only at g1 g2 g3 g4 g5 g6 |-;by_cases hk:k<L.length
 rotate_left
 ·rw[eM (by omega)] at g5;obtain⟨o1,o2⟩:=g5.one;refine wnY (zI4 @g3 @g4 @o1 @o2) ?_;refine kW (qS (g5.same λb hb=>?_)) rfl;have:=g6 b hb;rw[ab (by omega)]
 have ix:=Oo hk;have hts:=bD hk;have hlt:(L.take k).length<=k:=by rw[fY];omega
 generalize L.getD k default=l at *;refine wnY (aI @ix @g4) ?_;refine mY rfl ev0 (g5.same λb hb=>?_) ev0 jh rfl rfl ng (by rw[bt,bt];omega) (by rw[bt,bt];omega) ?_
 ·have:=g6 b hb;rw[ab (by omega),ab (by omega),ab (by omega)]
 rintro s2 H2 nx2 hr2 i1 i2 i3 i4;have hdo:∀b,b<=2->cf sv≠some b:=λb hb e=>by have:=g6 b e;omega
 have lo2:∀b,b<=2->H2 b=H b:=λb hb=>(i3 b (by omega) (hdo b hb)).trans (by rw[ab (by omega),ab (by omega),ab (by omega)])
 have hn2:∀b,cf s2=some b->2<b/\b<nx2:=λb hb=>by
  rcases i4 b hb with h|h
  ·have:=g6 b h;omega
  ·omega
 have k4:=(lo2 2 (by omega)).trans g4;obtain⟨o1,o2⟩:=hr2.one;refine wnY (zI3 @k4 @o1 @o2) ?_;refine⟨(s2,k+1),by dsimp only;omega,⟨by dsimp only;omega,by omega,by rw[ab (by omega)];exact(lo2 1 (by omega)).trans g3,by rw[ae];rfl,?_,hn2⟩,ag0⟩;dsimp only;rw[hts,dr,dr];exact hr2.same λb hb=>by have:=hn2 b hb;rw[ab (by omega)]
theorem C9(c:Nat)(R:List (List Int))(hm:jp c R):pU 97 [eB c R] (.tup [.int .i64 (ed R c).length,.int .i64 0]):=by
 refine pO Qp ?_;simp only[b97,aK];have he:=pN c R hm;have hd:Dat (.agg [.int .i64 c,bU R]):=dP c R;rw[dR,dR] at he;rw[dR];generalize ed R c=E at *;refine wnY @fv ?_;exact bS (ag (.int _ _) (ag (.int _ _) aj))
def Km(D:List (List Int))(b:List Int):Option (List Int):=D.find? λy=>kY y b
def nD(L:List Ln)(b:List Int):List Int:=(L.filter λl=>kY l.2 b).map λl=>ld l.1
def wQ(R:List (List Int))(c:Nat)(b:List Int):List Int×List Int×Bool:=match Km (stE R R.length).2 b with
 |some y=>([],y,false)
 |none=>(nD (lZ R c) b,[],true)
theorem FQ{L:List Ln}{x:Ln}{b:List Int}:nD (L++[x]) b=nD L b++if kY x.2 b=true then [ld x.1] else []:=by
 unfold nD;rw[vj,dr]
 congr 1
 by_cases h:kY x.2 b=true
 ·rw[if_pos h,tC (by simpa using h)];rfl
 ·rw[if_neg h,tB (by simpa using h)];rfl
theorem Fw{D:List (List Int)}{p:List Int->Bool}{k:Nat}(h:∀i,i<k->p (D.getD i default)=false)(hk:k<D.length)(hp:p (D.getD k default)=true):D.find? p=some (D.getD k default):=by
 induction D generalizing k with
 |nil=>simp at hk
 |cons y D ih=>
  match k with
  | 0 => have hp : p y = true := hp
         show List.find? p (y::D)=some y;rw[List.find?_cons_of_pos hp]
  |k+1=>
   have h0:¬p y=true:=by have:=h 0 (by omega);rw[show(y::D).getD 0 default=y from rfl] at this;rw[this];decide
   rw[List.find?_cons_of_neg h0];exact ih (k:=k) (λi hi=>h (i+1) (by omega)) (by simpa using hk) hp
theorem JB(c:Nat)(R:List (List Int))(b:List Int)(hm:jp c R)(hbr:∀v∈b,0<=v/\v<(R.length:Int))(hba:bo b):pU 59 [eB c R,aH b] (.tup [aH (wQ R c b).1,aH (wQ R c b).2.1,.bool (wQ R c b).2.2,.int .i64 0]):=by
 refine pO QV ?_;simp only[b59,aK];have hmR:=gN hm;have hmv:∀r∈R,∀z∈r,0<=z/\z<(c:Int):=λr hr z hz=>(hm.2.2.2 r hr).1 z hz;have hbl:=gx hba hbr;have h1:=mV c R hm
 have h2:=re b (R.length:Int) (by have:=hm.2.2.1; omega) hbr (fun i hi=>by
  have:=my.1 hba i (i+1) (by omega) hi (by omega);simpa[List.getD,show i<b.length by omega,hi] using this)
 have z0:decide ((0:Int)≠0)=false:=rfl;have hd:Dat (.agg [.int .i64 c,bU R]):=dP c R;have hec:=xN c R (by have:=hm.2.1;omega) hm.2.2.1 hmR hmv;have hll:=mc (R:=R) (c:=c);have hmc:=hm.2.1;have hrl:=hm.2.2.1;have hsl:=zx hmR (aJ R.length);have hok:=fJ hmR (aJ R.length)
 have hel:∀l∈lZ R c,l.1≠[]/\l.2.length<=4096:=λl hl=>by
  have hl':=((gF hmR hmv).2.2 l).1 hl;refine⟨hok.red.ne l hl',?_⟩;have:=((CH hmR hmv (aJ R.length)) l hl').len (hok.red.asc l hl');omega
 have hdl:∀y∈(stE R R.length).2,y.length<=4096:=λy hy=>by
  have h3:=hok.dep y hy;have h4:y.length<=R.length:=gx h3.1.2 h3.2.2;omega
 rw[dR] at hec |-;unfold wQ;generalize lZ R c=L at *;generalize (stE R R.length).2=D at *;refine dT ?_
 repeat' (first|apply a_n|refine zO ?_|refine vY ?_|refine bxY ?_|fail)
 refine dT ?_;refine wnY (zI3 @z0 @vR @fv) ?_;refine lpI (X:=Nat) (λk=>[(1,aH b),(10,nM L),(35,bU D),(36,.int .i64 D.length),(37,.int .i64 k)]) (λk H nx=>k<=D.length/\∀i,i<k->kY (D.getD i default) b=false) (λk=>D.length-k) 0 ⟨bW _,λi h=>absurd h (by omega)⟩ ?_;rintro k H nx ⟨g1,g2⟩;by_cases hk:k<D.length
 ·have ix:=Gj hk;have hyl:=hdl _ (az hk);have hod:=Ha (D.getD k default) b (by omega) (by omega);by_cases ho:kY (D.getD k default) b=true
  ·have hsy:Km D b=some (D.getD k default):=Fw (p:=λy=>kY y b) g2 hk ho;rw[hsy];rw[ho] at hod;generalize D.getD k default=y at *;refine wnY @ix ?_;refine r_4 rfl rfl rfl rfl ?_;exact bS (ag (.eslsl 1) (ag (dz y).snap (ag (.bool _) (ag (.int _ _) aj))))
  ·have ho:kY (D.getD k default) b=false:=by simpa using ho
   have hg2:∀i,i<k+1->kY (D.getD i default) b=false:=λi hi=>by
    rcases(by omega:i<k\/i=k) with h|rfl
    ·exact g2 i h
    ·exact ho
   rw[ho] at hod;generalize D.getD k default=y at *;refine wnY @ix ?_;exact⟨k+1,by omega,⟨by omega,hg2⟩,ag0⟩
 have hsy:Km D b=none:=by
  refine List.find?_eq_none.2 λy hy=>?_;obtain⟨i,hi,e⟩:=lm hy;have:=g2 i (by omega);rw[show D.getD i default=y by simp[List.getD,hi,e]] at this;rw[this];decide
 rw[hsy];clear hsy g2;refine wnY @vR ?_;refine lpI (X:=AV×Nat) (λx=>[(1,aH b),(14,x.1),(46,nM L),(47,.int .i64 L.length),(48,.int .i64 x.2)]) (λx H nx=>x.2<=L.length/\Row H 1 x.1 ((nD (L.take x.2) b).map (AV.int .i64))/\∀b,cf x.1=some b->b<nx) (λx=>L.length-x.2) (.esl,0) ⟨bW _,Row.nil,λb h=>(by cases h)⟩ ?_;rintro⟨sv,k⟩ H nx ⟨g1,g2,g3⟩;dsimp only at g1 g2 g3 |-;by_cases hk:k<L.length
 rotate_left
 ·rw[eM (by omega)] at g2;refine wnY and_self ?_;refine r_4 rfl rfl rfl rfl ?_;exact bS (ag g2.snapI (ag (.eslsl 1) (ag (.bool _) (ag (.int _ _) aj))))
 have ix:=Oo hk;have hts:=bD hk;obtain⟨hn,hl2⟩:=hel _ (az hk)
 have hxl:(nD (L.take k) b).length<=k:=by
  unfold nD;rw[bt];refine fp (List.length_filter_le _ _) ?_;rw[fY];omega
 have hsx:=FQ (L:=L.take k) (x:=L.getD k default) (b:=b);rw[<-hts] at hsx;generalize L.getD k default=l at *;have hod:=Ha l.2 b (by omega) (by omega);have ix0:=JX hn;by_cases ho:kY l.2 b=true
 ·rw[ho] at hod;rw[if_pos ho] at hsx;refine wnY (aI @ix @ix0) ?_;refine eR (g2.same λb hb=>?_) ?_
  ·have:=g3 b hb;rw[ab (by omega),ab (by omega),ab (by omega)]
  rintro s2 H2 nx2 hr2 i1 i2 i3 i4;refine wnY and_self ?_;refine⟨(s2,k+1),by dsimp only;omega,⟨by dsimp only;omega,?_,λb hb=>?_⟩,ag0⟩
  ·dsimp only;rw[hsx,dr];exact hr2
  ·rcases i4 b hb with h|h
   ·have:=g3 b h;omega
   ·omega
 ·have ho:kY l.2 b=false:=by simpa using ho
  rw[ho] at hod;rw[ho,if_neg (by decide),gJ] at hsx;refine wnY (aI @ix @ix0) ?_;refine⟨(sv,k+1),by dsimp only;omega,⟨by dsimp only;omega,?_,λb hb=>by have:=g3 b hb;omega⟩,ag0⟩;dsimp only;rw[hsx];exact g2.same λb hb=>by have:=g3 b hb;rw[ab (by omega),ab (by omega)]
theorem zE(c:List Spx)(hc:ay c=0)(hl:c.length<=50):pU 37 [b7 c] (.tup [.int .i64 (jE c 8),.int .i64 0]):=by
 refine pO NL ?_;simp only[b37,aK];have hcc:=gM c (show _<=_ by omega) (mU hc);rw[hc] at hcc;have z0:decide ((0:Int)≠0)=false:=rfl;have hbd:=λk:Nat=>yU (c:=c) (λk=>nr (k:=k) hl λs hs=>(bQ ((cp hc).2.1 s hs)).2.1) k;have hll:=λk=>nr (k:=k) hl λs hs=>(bQ ((cp hc).2.1 s hs)).2.1;have hf:=λk(hk:1<=k/\k<=8)=>B2 c k hl (cp hc).2.1 hk;refine wnY (zI3 @z0 @ai @af) ?_;refine lpI (X:=Nat) (λk=>[(1,.ptr 0 1 0),(5,.int .i64 (jE c k)),(6,.int .i64 (k+1:Nat))]) (λk H nx=>k<=8/\H 0=some [ak c]) (λk=>8-k) 0 ⟨bW _,rfl⟩ ?_;rintro k H nx ⟨g1,g2⟩;by_cases hk:k<8
 rotate_left
 ·obtain rfl:k=8:=by omega
  refine wnY and_self ?_;exact bS (ag (.int _ _) (ag (.int _ _) aj))
 have hf1:=hf (k+1) ⟨by omega,by omega⟩;have hl1:=hll (k+1);have hb1:=hbd k;have hb2:=hbd (k+1);have hes:jE c (k+1)=if (k+1)%2=1 then jE c k+((iY c (k+1)).length:Int) else jE c k-((iY c (k+1)).length:Int):=rfl
 have hr:∀tb tf,bE .rem tb tf (.int .i64 ((k+1:Nat):Int)) (.int .i64 2)=some (.int .i64 (((k+1)%2:Nat):Int)):=λtb tf=>by
  rw[DJ (by omega) (by omega)]
  congr 2
 generalize iY c (k+1)=L at *;generalize jE c k=E0 at *;by_cases hodd:(k+1)%2=1
 ·rw[if_pos hodd] at hes;rw[hes] at hb2;have zr:decide ((((k+1)%2:Nat):Int)=1)=true:=bd (by omega);refine wnY (zI5 @g2 @z0 @hr @zr @ah) ?_;exact⟨k+1,by omega,⟨by omega,g2⟩,by rw[hes,show((k+1+1:Nat):Int)=((k+1:Nat):Int)+1 by omega];simp (disch:=omega) only[agr,ZG,reduceEqDiff,↓reduceIte]⟩
 ·rw[if_neg hodd] at hes;rw[hes] at hb2;have zr:decide ((((k+1)%2:Nat):Int)=1)=false:=bh (by omega);refine wnY (zI5 @g2 @z0 @hr @zr @ah) ?_;exact⟨k+1,by omega,⟨by omega,g2⟩,by rw[hes,show((k+1+1:Nat):Int)=((k+1:Nat):Int)+1 by omega];simp (disch:=omega) only[agr,ZG,reduceEqDiff,↓reduceIte]⟩
theorem nH(c:List Spx)(hc:Shn c)(hs:∀s∈c,Shn s):pU 94 [b7 c] (.tup [.int .i64 (fM c-1),.bool (HV c)]):=by
 refine pO Qe ?_;simp only[b94,aK];unfold fM HV;have hc':c.length<=17592186044416:=hc;refine wnY (zI3 @ai @af @ah) ?_;refine lpI (X:=Nat) (λk=>[(4,.int .i64 (ol c k).1),(5,.int .i64 (ol c k).2),(9,ak c),(10,.int .i64 c.length),(11,.int .i64 k)]) (λk H nx=>k<=c.length) (λk=>c.length-k) 0 (bW _) ?_;rintro k H nx h1;have hb:=zd (m:=17592186044416) (by omega) (λs h=>by have:s.length<=_:=hs s h;omega) h1;by_cases hk:k<c.length
 rotate_left
 ·obtain rfl:k=c.length:=by omega
  generalize ol c c.length=P at *;obtain⟨a,m⟩:=P;dsimp only at hb |-;by_cases h0:m=0
  ·have z:decide (m=0)=true:=bd h0;rw[z,Bool.true_or];refine wnY @z ?_;exact bS (ag (.int _ _) (ag (.bool _) aj))
  ·have z:decide (m=0)=false:=bh h0;rw[z,Bool.false_or];refine wnY @z ?_;exact bS (ag (.int _ _) (ag (.bool _) aj))
 have ix:=eO hk;have hsl:(c.getD k default).length<=17592186044416:=hs _ (az hk);have e:ol c (k+1)=(min (ol c k).1 ((c.getD k default).length:Int),max (ol c k).2 ((c.getD k default).length:Int)):=rfl;generalize c.getD k default=s at *;refine wnY (aI @ix @au) ?_;exact⟨k+1,by omega,by omega,by rw[e];simp (disch:=omega) only[agr,ZG,reduceEqDiff,↓reduceIte]⟩
theorem qx(c:List Spx)(hc:ay c=0)(hl:c.length<=50):pU 96 [b7 c] (.tup [.int .i64 (fM c-1),.bool (HV c),.int .i64 0]):=by
 refine pO QA ?_;simp only[b96,aK];have hcc:=gM c (show _<=_ by omega) (mU hc);rw[hc] at hcc;have hd:=nH c (show _<=_ by omega) (mU hc);have z0:decide ((0:Int)≠0)=false:=rfl;refine wnY (zI3 @z0 @ai @af) ?_;refine bS (ag (.int _ _) (ag (.bool _) (ag (.int _ _) aj)))
theorem tR(c:List Spx)(d:Nat)(hc:ay c=0)(hl:c.length<=50)(hd:d<=8):pU 98 [b7 c,.int .i64 d] (.tup [.int .i64 (an c ((d:Int)+1)).length,.int .i64 0]):=by
 refine pO QS ?_;simp only[b98,aK];by_cases h8:d=8
 ·rw[Dk hc (by omega)];subst h8;refine wnY (aI @ai @af) ?_;exact bS (ag (.int _ _) (ag (.int _ _) aj))
 have hs:=mD c ((d:Int)+1) hl (mU hc)
 have e:f8 c ((d:Int)+1)=(an c ((d:Int)+1),0):=by
  unfold f8 an;rw[if_neg (λq=>q hc),if_neg (by omega),if_neg (by omega)]
 rw[e] at hs;dsimp only at hs;have hll:=de hc hl (d:=(d:Int)+1);generalize an c ((d:Int)+1)=X at *;have z1:decide ((d:Int)<0)=false:=bh (by omega);have z2:decide ((8:Int)<=d)=false:=bh (by omega);refine wnY (zI5 @ai @af @ah @z1 @z2) ?_;exact bS (ag (.int _ _) (ag (.int _ _) aj))
theorem oI(c:List Spx)(d:Nat)(hc:ay c=0)(hl:c.length<=50)(hd:d<=8):pU 58 [b7 c,.int .i64 d] (.tup [eB (an c ((d:Int)+1)).length (bZ (an c ((d:Int)+1)) (an c d)),.int .i64 0]):=by
 refine pO Qf ?_;simp only[b58,aK];by_cases h8:d=8
 ·rw[Dk hc (by omega),A6];subst h8;have hs:pU 98 [b7 c,.int .i64 (((8:Nat):Int)-1)] (.tup [.int .i64 (an c ((8:Nat):Int)).length,.int .i64 0]):=tR c 7 hc hl (by omega);have hll:=de hc hl (d:=((8:Nat):Int));generalize (an c ((8:Nat):Int)).length=n at *;have hzc:bv (AV.agg [AV.esl]) n=List.replicate n .esl:=by simp[bv,AV.cells]
  refine wnY (aI @ai @af) ?_;refine zR (k1:=.i64) (k2:=.i64) (n:=n) (m:=n) rfl ev0 ev0 (by omega) (Int.le_refl _) (by omega) (by omega) ?_;rw[cC,hzc,Nat.mul_one];refine wnY and_self ?_;exact kW (FM (by rw[ab (by omega),ae])) rfl
 have hm:=Mx c d hl (mU hc)
 have e:xn c d=(((((an c ((d:Int)+1)).length:Nat):Int),bZ (an c ((d:Int)+1)) (an c d)),0):=by
  unfold xn;rw[if_neg (λq=>q hc),if_neg (by omega)]
 rw[e] at hm;dsimp only at hm;generalize bZ (an c ((d:Int)+1)) (an c d)=R at *;generalize (an c ((d:Int)+1)).length=n at *;rw[dR] at hm |-;have z2:decide ((d:Int)<8)=true:=bd (by omega);refine wnY (zI3 @ai @af @z2) ?_;exact kW (oG _).snap rfl
theorem Jz(c:List Spx)(m:Nat)(hc:ay c=0)(hl:c.length<=50)(hm:fM c=m)(hm8:m<=8):pU 44 [b7 c] (.tup [aH (btL c m),.int .i64 0]):=by
 refine pO Np ?_;simp only[b44,aK];have hdi:=qx c hc hl;rw[hm] at hdi;have z0:decide ((0:Int)≠0)=false:=rfl;have hed:=λd(h:d<=8)=>oI c d hc hl h;have hsz:=λd(h:d<=8)=>tR c d hc hl h;have hrl:=λd:Int=>de hc hl (d:=d);have hrk:=λd:Nat=>C9 (an c ((d:Int)+1)).length (bZ (an c ((d:Int)+1)) (an c d)) (oX (by have:=hrl ((d:Int)+1);omega) (by have:=hrl d;omega));have hrf:=λd:Nat=>oa (c:=c) (d:=d);refine wnY (zI3 @z0 @ai @af) ?_;refine sy ?_;refine wnY and_self ?_;refine lpI (X:=Nat) (λk=>[(1,.ptr 0 1 0),(4,.int .i64 ((m:Int)-1)),(7,.mp 1),(26,.int .i64 ((m:Int)-1+2)),(27,.int .i64 k)]) (λk H nx=>k<=m+1/\2<=nx/\H 0=some [ak c]/\H 1=some [.omap ((rkK k).map (AV.int .i64)) (rkV c k)]) (λk=>m+1-k) 0 ⟨bW _,aJ _,rfl,rfl⟩ ?_;rintro k H nx ⟨g1,g2,g3,g4⟩;by_cases hk:k<m+1
 ·have hed1:=hed k (by omega);have hrk1:=hrk k;have hr1:=hrl ((k:Int)+1);have hd1:Dat (eB (an c ((k:Int)+1)).length (bZ (an c ((k:Int)+1)) (an c k))):=dP _ _;change pU 97 _ (.tup [.int .i64 (rkF c k),.int .i64 0]) at hrk1;rw[dR] at hed1 hrk1 hd1;generalize bZ (an c ((k:Int)+1)) (an c k)=R at *;generalize (an c ((k:Int)+1)).length=n at *;have z1:decide ((k:Int)<(m:Int)-1+2)=true:=bd (by omega);refine wnY (zI5 @g3 @z0 @z1 @ai @af) ?_;have hmf:=jD (k:Int) (rkK k);rw[if_neg (λq=>by have:=ms.1 q;omega)] at hmf;refine nw ev0 ((ab (by omega)).trans ((ab (by omega)).trans g4)) ev0 ev0 rfl hmf ?_;refine wnY @z0 ?_;refine⟨k+1,by omega,⟨by omega,by omega,by rw[ab (by omega),ab (by omega),ab (by omega)];exact g3,?_⟩,ag0⟩;rw[ae,zT,BD,dr];rfl
 obtain rfl:k=m+1:=by omega
 have z1:decide (((m+1:Nat):Int)<(m:Int)-1+2)=false:=bh (by omega);refine wnY @z1 ?_;refine lpI (X:=AV×Nat) (λx=>[(1,.ptr 0 1 0),(7,.mp 1),(11,x.1),(51,.int .i64 ((m:Int)-1+1)),(52,.int .i64 x.2)]) (λx H nx=>x.2<=m/\2<=nx/\H 0=some [ak c]/\H 1=some [.omap ((rkK (m+1)).map (AV.int .i64)) (rkV c (m+1))]/\Row H 1 x.1 ((btL c x.2).map (AV.int .i64))/\∀b,cf x.1=some b->2<=b/\b<nx) (λx=>m-x.2) (.esl,0) ⟨bW _,g2,g3,g4,Row.nil,λb h=>(by cases h)⟩ ?_;clear g1 g2 g3 g4;rintro⟨sv,k⟩ H nx ⟨g1,g2,g3,g4,g5,g6⟩;dsimp only at g1 g2 g3 g4 g5 g6 |-;by_cases hk:k<m
 rotate_left
 ·obtain rfl:k=m:=by omega
  have z1:decide ((k:Int)<(k:Int)-1+1)=false:=bh (by omega);refine wnY @z1 ?_;exact li g5.snapI rfl
 have hsz1:=hsz k (by omega);have hr1:=hrl ((k:Int)+1);have hr2:=hrl (((k+1:Nat):Int)+1);have hf1:=hrf k;have hf2:=hrf (k+1);have hmf1:=jD (k:Int) (rkK (m+1));rw[if_pos (ms.2 (by omega)),tP (by omega)] at hmf1;have hmf2:=jD ((k+1:Nat):Int) (rkK (m+1));rw[if_pos (ms.2 (by omega)),tP (by omega)] at hmf2;rw[show((k+1:Nat):Int)=(k:Int)+1 by omega] at hmf2;have hv1:Go.Abs.mget (.int .i64 0) false (some k) (rkV c (m+1))=.int .i64 (rkF c k):=tG (by omega);have hv2:Go.Abs.mget (.int .i64 0) false (some (k+1)) (rkV c (m+1))=.int .i64 (rkF c (k+1)):=tG (by omega);have hsn:=BU (c:=c) (n:=k);have hbl:(btL c k).length=k:=by unfold btL;simp
 have hbf:btF c k=((an c ((k:Int)+1)).length:Int)-(rkF c k:Int)-(rkF c (k+1):Int):=rfl;rw[hbf] at hsn;generalize rkF c k=f1 at *;generalize rkF c (k+1)=f2 at *;generalize (an c ((k:Int)+1)).length=n at *;generalize (an c (((k+1:Nat):Int)+1)).length=n2 at *;have z1:decide ((k:Int)<(m:Int)-1+1)=true:=bd (by omega);refine wnY (zI5 @g3 @z0 @z1 @ai @af) ?_;refine fh ev0 g4 ev0 rfl hmf1 ?_;rw[hv1];refine wnY and_self ?_;refine fh ev0 g4 ev0 rfl hmf2 ?_;rw[hv2];refine wnY and_self ?_;refine eR (g5.same λb hb=>?_) ?_
 ·have:=g6 b hb;rw[ab (by omega)]
 rintro s2 H2 nx2 hr3 i1 i2 i3 i4;have hdo:∀b,b<2->cf sv≠some b:=λb hb e=>by have:=g6 b e;omega
 have lo2:∀b,b<2->H2 b=H b:=λb hb=>(i3 b (by omega) (hdo b hb)).trans (by rw[ab (by omega)]);refine wnY and_self ?_;refine⟨(s2,k+1),by dsimp only;omega,⟨by dsimp only;omega,by omega,(lo2 0 (by omega)).trans g3,(lo2 1 (by omega)).trans g4,?_,λb hb=>?_⟩,ag0⟩
 ·dsimp only;rw[hsn,dr];exact hr3
 ·rcases i4 b hb with h|h
  ·have:=g6 b h;omega
  ·omega
theorem rc(c:List Spx)(m:Nat)(hc:ay c=0)(hl:c.length<=50)(hm:fM c=m)(hm8:m<=8):pU 13 [b7 c] (.tup [aH (btL c m),.int .i64 0]):=by
 have hch:pU 43 [b7 c] (.int .i64 0):=by
  refine pO Lu ?_;simp only[b43,aK];have he:=zE c hc hl;refine wnY (aI @ai @af) ?_;exact .int _ _
 refine pO Ql ?_;simp only[b13,aK];have hb:=Jz c m hc hl hm hm8;have z0:decide ((0:Int)≠0)=false:=rfl;refine wnY (zI3 @z0 @ai @af) ?_;exact li (dz _).snap rfl
theorem pS(c:List Spx)(hc:ay c=0)(hl:c.length<=50):pU 43 [b7 c] (.int .i64 0):=by
 refine pO Lu ?_;simp only[b43,aK];have he:=zE c hc hl;refine wnY (aI @ai @af) ?_;exact .int _ _
theorem PF(s t:Spx)(hs:Shn s)(ht:Shn t):pU 69 [ar s,ar t] (.bool (decide (s=t))):=by
 refine pO QP ?_;simp only[b69,aK];have hc:=im s t hs ht;have e:decide (bK s t=0)=decide (s=t):=decide_eq_decide.2 ⟨λh=>qP h,λh=>by rw[h];exact fC t⟩;refine wnY @e ?_;exact .bool _
theorem OH(a b:List Spx)(ha:ShC a)(hb:ShC b):pU 68 [ak a,ak b,.func 69 []] (.bool (decide (a=b))):=by
 refine pO QC ?_;simp only[b68,aK];by_cases hl:a.length=b.length
 rotate_left
 ·have z:decide ((a.length:Int)≠b.length)=true:=bd (by omega);rw[bh (λe=>hl (by rw[e]))];refine wnY (aI @ah @z) ?_;exact .bool _
 have z:decide ((a.length:Int)≠b.length)=false:=by rw[hl];exact bh (λh=>h rfl)
 have hal:=ha.1;refine wnY (aI @ah @z) ?_;refine od (X:=Nat) (λk=>[(0,ak a),(1,ak b),(2,.func 69 []),(15,ak a),(16,.int .i64 a.length),(17,.int .i64 k)]) (λk=>k<=a.length/\∀i,i<k->a.getD i default=b.getD i default) (λk=>a.length-k) 0 ⟨bW _,λi h=>absurd h (by omega)⟩ ag0 ?_;rintro k ⟨h1,h2⟩;by_cases hk:k<a.length
 rotate_left
 ·obtain rfl:k=a.length:=by omega
  have e:a=b:=List.ext_getElem hl λi i1 i2=>by
   have:=h2 i i1;simpa[List.getD,i1,i2] using this
  rw[bd e];refine wnY and_self ?_;exact .bool _
 have ix:=eO hk;have iy:=eO (l:=b) (k:=k) (by omega);have hcl:=PF _ _ (ha.2 _ (az hk)) (hb.2 _ (az (l:=b) (i:=k) (by omega)));by_cases e:a.getD k default=b.getD k default
 ·rw[bd e] at hcl
  have hn:∀i,i<k+1->a.getD i default=b.getD i default:=λi hi=>by
   rcases(by omega:i<k\/i=k) with h|rfl
   ·exact h2 i h
   ·exact e
  generalize a.getD k default=s at *;generalize b.getD k default=t at *;refine wnY (aI @ix @iy) ?_;exact⟨k+1,⟨by omega,hn⟩,by omega,ag0,rfl,rfl⟩
 ·rw[bh e] at hcl;rw[bh (λq=>e (by rw[q]))];generalize a.getD k default=s at *;generalize b.getD k default=t at *;refine wnY (aI @ix @iy) ?_;exact .bool _
theorem GP(c:Nat)(R:List (List Int))(b y:List Int)(hm:jp c R)(hbr:∀v∈b,0<=v/\v<(R.length:Int))(hba:bo b)(hyr:∀v∈y,0<=v/\v<(R.length:Int))(hya:bo y):pU 71 [eB c R,aH b,aH y] (.int .i64 (Md R b y)):=by
 refine pO P9 ?_;simp only[b71,aK];have hmR:=gN hm;have hmv:∀r∈R,∀z∈r,0<=z/\z<(c:Int):=λr hr z hz=>(hm.2.2.2 r hr).1 z hz;have hbl:=gx hba hbr;have hyl:=gx hya hyr
 have hvec:∀ {x:List Int},x.length ≤ R.length→(∀ v ∈ x,0 ≤ v∧v < (R.length:Int))→bo x→pU 114 [aH x,.int .i64 R.length] (.int .i64 0):=fun {x} h1 h2 h3=>re x (R.length:Int) (by have:=hm.2.2.1; omega) h2 (fun i hi=>by
  have:=my.1 h3 i (i+1) (by omega) hi (by omega);simpa[List.getD,show i<x.length by omega,hi] using this)
 have h1:=mV c R hm;have h2:=hvec hbl hbr hba;have h3:=hvec hyl hyr hya;have z0:decide ((0:Int)≠0)=false:=rfl;have hd:Dat (.agg [.int .i64 c,bU R]):=dP c R;have hmc:=hm.2.1;have hrl:=hm.2.2.1;have hod:=Ha y b (by omega) (by omega);rw[dR];refine wnY (zI3 @z0 @fv @d8) ?_;refine OY (X:=Nat) (λk=>[(1,aH b),(2,aH y),(3,.ptr 0 2 0),(10,aH (nP R (y.take k))),(34,aH y),(35,.int .i64 y.length),(36,.int .i64 k)]) (λk H nx=>k<=y.length/\H 0=some [.int .i64 c,bU R]) (λk=>y.length-k) 0 ⟨_,_,Fz.none,⟨bW _,rfl⟩,⟨.inl rfl,.inl rfl,.inl rfl,.inr (.eslsl 1),.inl rfl,.inl rfl,.inl rfl,trivial⟩⟩ ?_;rintro k H nx ⟨g1,g2⟩;obtain⟨a1,a2⟩:=D7 hmR hmv hyr k g1;have al:=gx a1 a2;by_cases hk:k<y.length
 ·have ix:=ixV hk;have hi:=hyr _ (az hk);have hts:=bD hk;have hsn:nP R (y.take (k+1))=bX (nP R (y.take k)) (R.getD (y.getD k default).toNat default):=by rw[hts,xH]
  have iy:eP 1 (bU R) (.int .i64 (y.getD k default))=some (.iptr [aH (R.getD (y.getD k default).toNat default)] 0):=by
   rw[pR,if_pos ⟨hi.1,hi.2⟩]
  have hrow:R.getD (y.getD k default).toNat default∈R:=az (by omega);have hrl2:=(hm.2.2.2 _ hrow).2.1;have hsu:=xR (nP R (y.take k)) (R.getD (y.getD k default).toNat default) (by omega) (by omega);rw[<-hsn] at hsu;generalize R.getD (y.getD k default).toNat default=r at *;generalize y.getD k default=i at *;generalize nP R (y.take k)=s1 at *;refine wnY (zI3 @g2 @ix @iy) ?_;exact⟨k+1,by omega,_,_,Fz.none,⟨by omega,g2⟩,Dp ag0⟩
 obtain rfl:k=y.length:=by omega
 rw[List.take_length] at *;unfold Md;by_cases hs:nP R y=[]
 ·rw[if_pos hs];have z:decide ((0:Int)<(nP R y).length)=false:=by rw[hs];rfl
  cases ho:kY y b
  ·rw[ho] at hod;refine wnY (aI @z @d8) ?_;exact .int _ _
  ·rw[ho] at hod;refine wnY (aI @z @d8) ?_;exact .int _ _
 ·rw[if_neg hs];have z:decide ((0:Int)<(nP R y).length)=true:=bd (by have:=iM.2 hs;omega);refine wnY (aI @z @d8) ?_;exact .int _ _
theorem Ft(s:AV)(l:List (List Int))(hl:l.length<=1000000)(H:Hp)(nx:Nat)(hr:n7 H s l)(hb:∀b,cf s=some b->b<nx):Abs.Fn Tryz.prog 135 [s] H nx λr H' nx'=>Row H' 1 r (l.map aH)/\nx<=nx'/\(∀x,x<nx->H' x=H x)/\∀b,cf r=some b->nx<=b/\b<nx':=by
 refine fO Py ?_;simp only[NR,aK];have hsrc:=hr.src (H':=H) λ_ _=>rfl;have hn:=hr.len;have fin:l.length=0->l.map aH=[]:=λh=>by rw[fj.1 h];rfl
 repeat' (first|refine zW ?_|apply a_n|refine zO ?_|refine vY ?_|fail)
 refine rp (k:=l.length) (by((try simp only[ct,ZA,reduceEqDiff,↓reduceIte,reduceAdd,reduceLeDiff]);(try with_reducible rfl));exact hn) (λh=>?_) (λh=>?_) (λh=>?_)
 ·repeat' (first|refine zW ?_|apply a_n|refine zO ?_|refine vY ?_|refine b0Y ?_|refine cFY ?_|fail)
  refine jG rfl ev0 ev0 hsrc Eo (by omega) (by omega) ?_
  repeat' (first|apply a_n|refine zO ?_|refine vY ?_|refine bC rfl ?_|refine r1Y ?_|fail)
  refine⟨by simpa only[Nat.mul_one] using Row.box (sz:=1) nx l.length (l.map aH) (ae (H:=H)) (by rw[bt,Nat.mul_one]),by omega,λx hx=>ab (by omega),λb hb=>by cases hb;omega⟩
 ·repeat' (first|refine zW ?_|apply a_n|apply a_r|refine zO ?_|refine vY ?_|refine cTY ?_|refine bC rfl ?_|refine r1Y ?_|fail)
  refine⟨by rw[fin h];exact Row.nil,aJ _,λx hx=>rfl,λb hb=>(by cases hb)⟩
 ·repeat' (first|refine zW ?_|apply a_n|refine zO ?_|refine vY ?_|refine b0Y ?_|refine cFY ?_|fail)
  refine jG rfl ev0 ev0 hsrc Eo (by omega) (by omega) ?_
  repeat' (first|apply a_n|refine zO ?_|refine vY ?_|refine bC rfl ?_|refine r1Y ?_|fail)
  refine⟨by simpa only[Nat.mul_one] using Row.box (sz:=1) nx l.length (l.map aH) (ae (H:=H)) (by rw[bt,Nat.mul_one]),by omega,λx hx=>ab (by omega),λb hb=>by cases hb;omega⟩
theorem N9(c:Nat)(E:List (List Int))(rk:Nat)(v:List Int)(s:AV)(b:Nat)(H:Hp)(nx:Nat)(hm:jp c (E++[v]))(hb:H b=some [.int .i64 c,s,.int .i64 rk])(hbn:b<nx)(hr:n7 H s E)(hs:∀x,cf s=some x->x<nx):
    Abs.Fn Tryz.prog 82 [.ptr b 3 0,aH v] H nx λr H' nx'=>nx<=nx'/\(∀x,x<nx->x≠b->H' x=H x)/\((ed (E++[v]) c).length=rk/\r=.tup [.bool false,.int .i64 0]/\H' b=H b\/(ed (E++[v]) c).length≠rk/\r=.tup [.bool true,.int .i64 0]/\∃rv,H' b=some [.int .i64 c,rv,.int .i64 (ed (E++[v]) c).length]/\n7 H' rv (E++[v])/\∀x,cf rv=some x->nx<=x/\x<nx'):=by
 refine fO QE ?_;simp only[b82,aK];have hrank:=C9 c (E++[v]) hm;have hel:E.length<=4096:=by have:=hm.2.2.1;rw[cA] at this;omega
 have hcl:=fun H' nx' (h1:∀ x,x < nx→H' x=H x) (h2:nx ≤ nx')=>Ft s E (by omega) H' nx' (by
  rcases hr with h|h
  ·exact .inl h
  ·exact .inr (h.same λx hx=>h1 x (hs x hx))) (λx hx=>by have:=hs x hx;omega)
 refine dT ?_
 repeat' (first|apply a_n|refine zO ?_|refine vY ?_|fail)
 refine cR (λT H' nx'=>∃nb rv,T 0=.ptr b 3 0/\T 1=aH v/\T 6=.ptr nb 2 0/\nx<=nb/\nb<nx'/\H' nb=some [.int .i64 c,rv]/\Row H' 1 rv ((E++[v]).map aH)/\(∀x,cf rv=some x->nx<=x/\x<nx'/\x≠nb)/\∀x,x<nx->H' x=H x) ?_ ?_
 ·refine Me (only b [.int .i64 c,s,.int .i64 rk]) (p7 hb) ?_;have hS:only b [.int .i64 c,s,.int .i64 rk] b=some [.int .i64 c,s,.int .i64 rk]:=jl;have hsub:∀H':Hp,H' b=some [.int .i64 c,s,.int .i64 rk]->Sub (only b [.int .i64 c,s,.int .i64 rk]) H':=λH' h=>p7 h;generalize only b [AV.int .i64 c,s,.int .i64 rk]=S at *;simp only[ff,List.map_nil,List.getD_cons_succ,List.getD_cons_zero];have zz:=aI @NK @hS;repeat' (first|apply a_n|refine zO ?_|refine nvY ?_|apply w5|refine KB ?_|fail)
  refine Nc (pv:=[(0,1,aH v)]) (cs:=[aH v]) ev0 rfl (by decide) rfl rfl (w5 ?_);have hsv:∀H':Hp,gC 1 H' (.sl 1 [aH v])=some (1,[aH v]):=λ_=>rfl;have ones_encVs:AV.ones [aH v]=true:=rfl;have happ:E.map aH++[aH v]=(E++[v]).map aH:=by rw[dr];rfl
  refine MY ?_ ?_
  ·refine eb ?_
   repeat' (first|apply a_n|refine zO ?_|refine alY ?_|fail)
   refine⟨hsub _ (by rw[ab (by omega)];exact hb),?_⟩;refine eb ?_;refine aU ev0 ev0 (hcl _ _ (λx hx=>ab (by omega)) (by omega)) ?_;rintro r H1 nx1 ⟨k1,k2,k3,k4⟩;have q0:H1 nx=some [AV.int .i64 0,.esl]:=(k3 nx (by omega)).trans ae;have q1:∀x,x<nx->H1 x=H x:=λx hx=>(k3 x (by omega)).trans (ab (by omega));refine jv ⟨hsub _ ((q1 b hbn).trans hb),?_⟩;refine eb ?_;refine mY rfl ev0 k1 ev0 (hsv _) ones_encVs rfl ng (by rw[bt];omega) (by rw[bt];omega) ?_;rintro s2 H2 nx2 hr2 i1 i2 i3 i4;rw[happ] at hr2;have g:∀x,x<=nx->H2 x=H1 x:=λx hx=>i3 x (by omega) λh=>by have:=(k4 x h).1;omega
   refine jv ⟨hsub _ ((g b (by omega)).trans ((q1 b hbn).trans hb)),?_⟩;have q2:=(g nx (aJ _)).trans q0;have hge:∀x,cf s2=some x->nx+1<=x/\x<nx2:=λx hx=>(i4 x hx).elim (λh=>⟨(k4 x h).1,by have:=(k4 x h).2;omega⟩) λh=>⟨by omega,by omega⟩
   clear zz;have zz:=aI @q2 (aI (vL hr2) (aI hr2.one.1 hr2.one.2));repeat' (first|apply a_n|refine zO ?_|refine nvY ?_|apply iR|refine stY ?_|fail)
   refine⟨nx,s2,rfl,rfl,rfl,by omega,by omega,ae,hr2.same (λx hx=>ab (by have:=(hge x hx).1;omega)),λx hx=>⟨by have:=(hge x hx).1;omega,(hge x hx).2,by have:=(hge x hx).1;omega⟩,λx hx=>?_⟩;rw[ab (by omega)];exact(g x (by omega)).trans (q1 x hx)
  ·refine eb ?_;refine aU ev0 ev0 (hcl _ _ (λx hx=>rfl) (by omega)) ?_;rintro r H1 nx1 ⟨k1,k2,k3,k4⟩;refine jv ⟨hsub _ ((k3 b hbn).trans hb),w5 ?_⟩;refine MY ?_ ?_
   ·refine eb ?_
    repeat' (first|apply a_n|refine zO ?_|refine alY ?_|fail)
    refine⟨hsub _ (by rw[ab (by omega)];exact(k3 b hbn).trans hb),?_⟩;refine eb ?_;refine mY rfl ev0 (k1.same λx hx=>ab (by have:=(k4 x hx).2;omega)) ev0 (hsv _) ones_encVs rfl ng (by rw[bt];omega) (by rw[bt];omega) ?_;rintro s2 H2 nx2 hr2 i1 i2 i3 i4;rw[happ] at hr2;have g:∀x,x<nx->H2 x=H1 x:=λx hx=>(i3 x (by omega) λh=>by have:=(k4 x h).1;omega).trans (ab (by omega));have q2:=(i3 nx1 (by omega) λh=>by have:=(k4 nx1 h).2;omega).trans ae;refine jv ⟨hsub _ ((g b (by omega)).trans ((k3 b hbn).trans hb)),?_⟩;have hge:∀x,cf s2=some x->nx<=x/\x<nx2/\x≠nx1:=λx hx=>(i4 x hx).elim (λh=>⟨(k4 x h).1,by have:=(k4 x h).2;omega,by have:=(k4 x h).2;omega⟩) λh=>⟨by omega,by omega,by omega⟩
    clear zz;have zz:=aI @q2 (aI (vL hr2) (aI hr2.one.1 hr2.one.2));repeat' (first|apply a_n|refine zO ?_|refine nvY ?_|apply iR|refine stY ?_|fail)
    refine⟨nx1,s2,rfl,rfl,rfl,by omega,by omega,ae,hr2.same (λx hx=>ab (by have:=(hge x hx).2.2;omega)),λx hx=>⟨(hge x hx).1,(hge x hx).2.1,by have:=(hge x hx).2.2;omega⟩,λx hx=>?_⟩;rw[ab (by omega)];exact(g x (by omega)).trans (k3 x hx)
   ·refine eb ?_;refine mY rfl ev0 k1 ev0 (hsv _) ones_encVs rfl ng (by rw[bt];omega) (by rw[bt];omega) ?_;rintro s2 H2 nx2 hr2 i1 i2 i3 i4;rw[happ] at hr2;have g:∀x,x<nx->H2 x=H1 x:=λx hx=>i3 x (by omega) λh=>by have:=(k4 x h).1;omega
    refine jv ⟨hsub _ ((g b (by omega)).trans ((k3 b hbn).trans hb)),w5 ?_⟩;have hge:∀x,cf s2=some x->nx<=x/\x<nx2:=λx hx=>(i4 x hx).elim (λh=>⟨(k4 x h).1,by have:=(k4 x h).2;omega⟩) λh=>⟨by omega,by omega⟩
    clear zz;have zz:=(vL hr2);repeat' (first|apply a_n|refine zO ?_|refine nvY ?_|apply w5|refine KB ?_|fail)
    refine MQ (eb ?_)
    repeat' (first|apply a_n|refine zO ?_|refine alY ?_|fail)
    refine⟨hsub _ (by rw[ab (by omega)];exact(g b hbn).trans ((k3 b hbn).trans hb)),?_⟩;clear zz;have zz:=aI hr2.one.1 hr2.one.2;repeat' (first|apply a_n|refine zO ?_|apply iR|refine stY ?_|fail)
    refine⟨nx2,s2,rfl,rfl,rfl,by omega,by omega,ae,hr2.same (λx hx=>(ab (by have:=(hge x hx).2;omega)).trans (ab (by have:=(hge x hx).2;omega))),λx hx=>⟨(hge x hx).1,by have:=(hge x hx).2;omega,by have:=(hge x hx).2;omega⟩,λx hx=>?_⟩;rw[ab (by omega),ab (by omega)];exact(g x (by omega)).trans (k3 x hx)
 rintro T H1 nx1 ⟨nb,wv,t0,t1,t6,h1,h2,h3,h4,h5,h6⟩;have g0:H1 b=some [.int .i64 c,s,.int .i64 rk]:=(h6 b hbn).trans hb;generalize hEv:E++[v]=E' at *;have zz:=aI @t0 (aI @t1 (aI @t6 @h3));repeat' (first|refine zW ?_|apply a_n|refine zO ?_|refine vY ?_|fail)
 refine ey (have zz:=aI @t0 (aI @t1 (aI @t6 @h3));evY) (have zz:=aI @t0 (aI @t1 (aI @t6 @h3));evY) hrank (aB (ag (mb (ag (Dat.snap Dat.int) (ag (qS h4) aj))) aj) rfl) ?_;have bne:∀x,cf wv=some x->x≠b:=λx hx=>by have:=(h5 x hx).1;omega
 by_cases heq:(ed E' c).length=rk
 ·have hi:decide ((((ed E' c).length:Nat):Int)=(rk:Int))=true:=bd (by rw[heq]);clear zz;have zz:=aI @t0 (aI @t1 (aI @t6 (aI @h3 (aI @g0 (aI @NK @hi)))));repeat' (first|refine zW ?_|apply a_n|apply a_r|refine zO ?_|refine vY ?_|refine gTY ?_|(refine zGY ?_ ?_<;>(intro _hg;try (exfalso;omega)))|refine cTY ?_|refine bC rfl ?_|refine r2Y ?_|fail)
  exact⟨by omega,λx hx _=>h6 x hx,.inl ⟨heq,rfl,h6 b hbn⟩⟩
 ·have hi:decide ((((ed E' c).length:Nat):Int)=(rk:Int))=false:=bh (λh=>heq (by exact_mod_cast h));clear zz;have zz:=aI @t0 (aI @t1 (aI @t6 (aI @h3 (aI @g0 (aI @NK (aI @hi (aI h4.one.1 h4.one.2)))))));repeat' (first|refine zW ?_|apply a_n|refine zO ?_|refine vY ?_|refine stY ?_|refine gTY ?_|(refine zGY ?_ ?_<;>(intro _hg;try (exfalso;omega)))|refine cFY ?_|refine bC rfl ?_|refine r2Y ?_|fail)
  have e:bB [AV.int .i64 c,wv,.int .i64 rk] 2 [.int .i64 ((ed E' c).length:Int)]=[.int .i64 c,wv,.int .i64 ((ed E' c).length:Int)]:=rfl;refine⟨by omega,λx hx hxb=>?_,.inr ⟨heq,rfl,wv,?_,.inr (h4.same λx hx=>?_),λx hx=>⟨(h5 x hx).1,(h5 x hx).2.1⟩⟩⟩
  ·rw[ab hxb,ab hxb];exact h6 x hx
  ·rw[ae,e]
  ·rw[ab (bne x hx),ab (bne x hx)]
section
variable{α:Type}[Inhabited α]{f:α->AV}{K:α->α->Int}{G:α->Prop}
theorem OZ(hc:CmpO Tryz.prog f K G){L:List α}{H:Hp}{b nx n a e:Nat}(hH:H b=some (L.map f))(hn:L.length=n)(hG:∀x∈L,G x)(hae:a<=e)(hen:e<=n)(hn2:n<=1000000000):
    Abs.Fn Tryz.prog 189 [.msl b n 1 0 n,.int .i64 a,.int .i64 e] H nx λr H' nx'=>nx'=nx/\∃L',H'=ao H b (L'.map f)/\PermR a e L L'/\br K a e L':=by
 refine fO PW ?_;simp only[Ob,aK];refine wnZ and_self ?_;refine ca (X:=Nat×List α) (λx=>[(0,.msl b n 1 0 n),(1,.int .i64 a),(2,.int .i64 e),(6,.int .i64 (x.1:Nat))]) (λx H' nx'=>a+1<=x.1/\(x.1<=e\/x.1=a+1)/\H'=ao H b (x.2.map f)/\nx'=nx/\PermR a e L x.2/\br K a x.1 x.2) (λx=>e+1-x.1) (a+1,L) ⟨aJ _,.inr rfl,ka hH,rfl,.refl,br.one (aJ _)⟩ ag0 ?_;rintro⟨i,M0⟩ H' nx' ⟨h1,h2,rfl,rfl,hp0,hs0⟩;dsimp only at *;have hl0:M0.length=n:=by rw[hp0.len,hn]
 by_cases hi:i<e
 rotate_left
 ·refine wnZ and_self ?_;exact⟨rfl,M0,rfl,hp0,hs0.mono (aJ _) (by omega)⟩
 refine wnZ and_self ?_;refine ca (X:=Nat×List α) (λx=>[(0,.msl b n 1 0 n),(1,.int .i64 a),(2,.int .i64 e),(6,.int .i64 (i:Nat)),(7,.int .i64 (x.1:Nat))]) (λx H' nxx=>a<=x.1/\x.1<=i/\H'=ao H b (x.2.map f)/\nxx=nx'/\PermR a e L x.2/\gQ K a i x.1 x.2) (λx=>x.1) (i,M0) ⟨by omega,aJ _,rfl,rfl,hp0,.start hs0⟩ ag0 ?_;clear hp0 hs0 hl0;rintro⟨j,M⟩ H' nxx ⟨a1,a2,rfl,rfl,hp,hal⟩;dsimp only at *;have hl:M.length=n:=by rw[hp.len,hn]
 have hGM:=hp.mem hG;by_cases hja:j=a
 ·subst hja;refine wkZ and_self ?_;exact⟨(i+1,M),by dsimp only;omega,⟨by dsimp only;omega,.inl (by dsimp only;omega),rfl,rfl,hp,hal.done hc.ord (.inl rfl)⟩,ag0⟩
 ·obtain⟨k,rfl⟩:∃k,j=k+1:=⟨j-1,by omega⟩
  have tj:((k+1:Nat):Int)-1=(k:Int):=by omega
  have lc:=hc.run (M.getD (k+1) default) (M.getD k default) (hGM _ (bg (by omega))) (hGM _ (bg (by omega)));have d1:=hc.dat (M.getD (k+1) default);have d2:=hc.dat (M.getD k default);generalize hKK:K (M.getD (k+1) default) (M.getD k default)=kk at lc;by_cases hlt:kk<0
  ·obtain⟨M1,hl1,lm1,lm2⟩:∃M1:List α,M1.length=n/\bB (M.map f) (k+1) [f (M.getD k default)]=M1.map f/\bB (M1.map f) k [f (M.getD (k+1) default)]=(swp M (k+1) k).map f:=
     ⟨M.set (k+1) (M.getD k default),by simp[hl],iT (by omega),by rw[iT (by simp;omega)];rfl⟩
   have lm3:=lm2;simp only[bB,bL,eW,cE] at lm1 lm2;refine wkZ (zI6 @tj @cC @lm1 @lm2 hc.cells hc.one) ?_;refine⟨(k,swp M (k+1) k),by dsimp only;omega,⟨by dsimp only;omega,by dsimp only;omega,?_,rfl,hp.trans (PermR.swap (by omega) (by omega) (by omega)),hal.step hc.ord (by omega) (by omega) (by omega) (by rw[hKK];exact hlt)⟩,(have zz:=@tj;agZ)⟩;dsimp only;rw[a7,a7,lm3]
  ·refine wkZ (zI4 @tj @cC hc.cells hc.one) ?_;exact⟨(i+1,M),by dsimp only;omega,⟨by dsimp only;omega,.inl (by dsimp only;omega),rfl,rfl,hp,hal.done hc.ord (.inr ⟨by omega,by rw[rM,hKK];exact hlt⟩)⟩,ag0⟩
end
theorem Mj(x y:Int):pU 187 [.int .i64 x,.int .i64 y] (.bool (decide (x-y<0))):=by
 have e:decide (x-y<0)=decide (x<y):=decide_eq_decide.2 (by omega);rw[e];have n1:=kp x;refine pO KG ?_;simp only[L7,aK];refine wnZ and_self ?_;exact Dat.snap Dat.bool
theorem Qd:CmpO Tryz.prog (λx:Int=>.int .i64 x) (λx y=>x-y) (λ_=>True):=⟨λ_=>rfl,λ_=>rfl,λ_=>.int,λx y _ _=>Mj x y,Qg⟩
theorem JS{L:List Int}{H:Hp}{b nx n lim:Nat}(hH:H b=some (L.map λx=>.int .i64 x))(hn:L.length=n)(hn2:n<=12):
    Abs.Fn Tryz.prog 164 [.msl b n 1 0 n,.int .i64 0,.int .i64 n,.int .i64 lim] H nx λr H' nx'=>nx'=nx/\∃L':List Int,H'=ao H b (L'.map λx=>.int .i64 x)/\PermR 0 n L L'/\br (λx y:Int=>x-y) 0 n L':=by
 refine fO O2 ?_;simp only[Pd,aK];have z:decide ((n:Int)<=12)=true:=bd (by omega);refine wnZ and_self ?_;refine ca (X:=Unit) (λx=>[(0,.msl b n 1 0 n),(1,.int .i64 0),(2,.int .i64 n),(3,.int .i64 lim)]) (λx H' nx'=>H'=H/\nx'=nx) (λx=>0) () ⟨rfl,rfl⟩ ag0 ?_;rintro _ _ _ ⟨rfl,rfl⟩;refine wnZ (aI @z @Int.sub_zero) ?_;refine aU ev0 (have zz:=@Int.natCast_zero;evZ) (OZ Qd (a:=0) hH hn (λ_ _=>trivial) (bW _) (aJ _) (by omega)) ?_;rintro _ _ _ ⟨rfl,L',rfl,hp,hs⟩;refine wnZ and_self ?_;exact⟨rfl,L',rfl,hp,hs⟩
def su(m:Nat):Prop:=∀{L:List Int}{H:Hp}{b nx n:Nat},H b=some (L.map λx=>.int .i64 x)->b<nx->L.length=n->0<n->n<=m->
    Abs.Fn Tryz.prog 147 [.msl b n 1 0 n] H nx λr H' nx'=>∃L':List Int,PS H H' nx nx' b (L'.map λx=>.int .i64 x)/\L'.Perm L/\L'.Pairwise (· <= ·)
theorem su.le{m k:Nat}(h:su m)(hk:k<=m):su k:=λa b c d e=>h a b c d (fp e hk)
theorem Hu:su 12:=λ{L H b nx n} hH hbx hn hn0 hn2=>by
 refine fO M7 ?_;simp only[Ol,aK];have w:IntKind.wrap .u64 (n:Int)=n:=gR (by omega) (by omega);refine wnZ @w ?_;refine aU ev0 (have zz:=@w;evZ) (Ek hn0 (by omega)) ?_;rintro _ _ _ ⟨rfl,rfl,k,rfl,h3,h4⟩
 skip
 refine aU ev0 (have zz:=@Int.natCast_zero;evZ) (JS hH hn hn2) ?_;rintro _ _ _ ⟨rfl,N,rfl,hp,hs⟩;refine wnZ and_self ?_;refine⟨N,⟨ae,λi _ h2=>ab h2,aJ _⟩,hp.perm,?_⟩;rw[my];intro i j hi hj hij;have hl:N.length=n:=by rw[hp.len,hn]
 have:=hs i j (bW _) hij (by omega);simp only[List.getD,hi,hj,p6,ru] at this;omega
theorem GC(c:Nat)(R:List (List Int))(hm:jp c R)(hso:su (c+1)):pU 103 [eB c R] (.tup [eB c (iK (ed R c) c),.int .i64 0]):=by
 refine pO Ns ?_;simp only[NV,aK];have he:=pN c R hm;have z0:decide ((0:Int)≠0)=false:=rfl;have hd:Dat (.agg [.int .i64 c,bU R]):=dP c R;have hmc:=hm.2.1;have hmv:∀r∈R,∀z∈r,0<=z/\z<(c:Int):=λr hr z hz=>(hm.2.2.2 r hr).1 z hz;obtain⟨hred,hsp,-⟩:=gF (gN hm) hmv;have hEv:∀r∈ed R c,∀z∈r,0<=z/\z<(c:Int):=λr hr=>gV (gN hm) hmv ((hsp r).1 (dC hr));have hEl:(ed R c).length<=c:=by unfold ed;rw[bt];exact mc
 rw[dR,dR] at he;rw[dR,dR];generalize ed R c=E at *;clear hsp;refine wnY (aI @z0 @fv) ?_;refine sy ?_;refine wnY @fv ?_;refine lpI (X:=Nat) (λk=>[(1,.ptr 0 2 0),(2,.ptr 1 2 0),(4,.ptr 2 2 0),(6,.ptr 3 2 0),(7,.mp 4),(28,bU E),(29,.int .i64 E.length),(30,.int .i64 k)]) (λk H nx=>k<=E.length/\5<=nx/\H 0=some [.int .i64 c,bU R]/\H 1=some [.int .i64 0,.esl]/\H 2=some [.int .i64 c,bU E]/\H 3=some [.int .i64 c,.esl]/\H 4=some [.omap (((E.take k).map ld).map (AV.int .i64)) (pp k)]) (λk=>E.length-k) 0 ⟨bW _,aJ _,rfl,rfl,rfl,rfl,rfl⟩ ?_;rintro k H nx ⟨g1,g2,g3,g4,g5,g6,g7⟩;by_cases hk:k<E.length
 ·have ix:=Gj hk;have hn:=hred.ne _ (az (l:=E) hk);have ix0:=JX hn;have hmf:=jD (ld (E.getD k default)) ((E.take k).map ld)
  have hni:ld (E.getD k default)∉(E.take k).map ld:=λh=>by
   obtain⟨r,hr,e⟩:=bu.1 h;obtain⟨i,hi,e2⟩:=lm hr;rw[fY] at hi;have hi2:i<E.length:=by omega
   have:=my.1 hred.ord i k hi2 hk (by omega);rw[List.getElem_take] at e2;rw[show E[k]=E.getD k default by simp[List.getD,hk]] at this;rw[e2] at this;omega
  rw[if_neg hni] at hmf;have hts:=bD hk
  have hml:((E.take (k+1)).map ld).map (AV.int .i64)=((E.take k).map ld).map (AV.int .i64)++[.int .i64 (ld (E.getD k default))]:=by
   rw[hts,dr,dr];rfl
  have htr:pp (k+1)=pp k++[.bool true]:=by unfold pp;rw[List.replicate_succ']
  generalize E.getD k default=r at *;refine wnY (aI @ix @ix0) ?_;refine nw ev0 g7 ev0 ev0 rfl hmf ?_;refine wnY and_self ?_;refine⟨k+1,by omega,⟨by omega,by omega,(ab (by omega)).trans g3,(ab (by omega)).trans g4,(ab (by omega)).trans g5,(ab (by omega)).trans g6,?_⟩,ag0⟩;rw[ae,hml,htr];rfl
 obtain rfl:k=E.length:=by omega
 rw[eM (aJ _)] at g7;clear hk g1;refine wnY @g3 ?_;refine lpI (X:=AV×Nat) (λx=>[(1,.ptr 0 2 0),(2,.ptr 1 2 0),(4,.ptr 2 2 0),(6,.ptr 3 2 0),(7,.mp 4),(40,.int .i64 c),(41,.int .i64 x.2)]) (λx H nx=>x.2<=c/\5<=nx/\H 0=some [.int .i64 c,bU R]/\H 1=some [.int .i64 0,.esl]/\H 2=some [.int .i64 c,bU E]/\H 3=some [.int .i64 c,x.1]/\H 4=some [.omap ((E.map ld).map (AV.int .i64)) (pp E.length)]/\Row H 1 x.1 ((iK E x.2).map aH)/\∀b,cf x.1=some b->4<b/\b<nx) (λx=>c-x.2) (.esl,0) ⟨bW _,g2,g3,g4,g5,g6,g7,Row.nil,λb h=>(by cases h)⟩ ?_;clear g2 g3 g4 g5 g6 g7;rintro⟨sv,k⟩ H nx ⟨g1,g2,g3,g4,g5,g6,g7,g8,g9⟩;dsimp only at g1 g2 g3 g4 g5 g6 g7 g8 g9 |-;by_cases hk:k<c
 rotate_left
 ·obtain rfl:k=c:=by omega
  obtain⟨o1,o2⟩:=g8.one;refine wnY (zI4 @g6 @g4 @o1 @o2) ?_;refine kW (qS (g8.same λb hb=>?_)) rfl;have:=g9 b hb;rw[ab (by omega)]
 have hmf:=jD (k:Int) (E.map ld);have hks:=xo (E:=E) (k:=k);by_cases hlead:(k:Int)∈E.map ld
 ·rw[if_pos hlead] at hmf;rw[if_pos hlead,gJ] at hks;have hgt:Go.Abs.mget (.bool false) false (some ((E.map ld).idxOf (k:Int))) (pp E.length)=.bool true:=Fx (by have:=List.idxOf_lt_length_of_mem hlead;rwa [bt] at this);refine dT ?_;refine wnY and_self ?_;refine fh ev0 g7 ev0 rfl hmf ?_;rw[hgt];refine wnY and_self ?_;refine⟨(sv,k+1),by dsimp only;omega,⟨by dsimp only;omega,by omega,g3,g4,g5,g6,g7,?_,g9⟩,ag0⟩;dsimp only;rw[hks];exact g8
 rw[if_neg hlead] at hmf hks;refine wnY and_self ?_;refine fh ev0 g7 ev0 rfl hmf ?_;have hgf:Go.Abs.mget (.bool false) false none (pp E.length)=.bool false:=rfl;rw[hgf];refine wnY (aI @fv @g5) ?_;refine lpI (X:=AV×Nat) (λx=>[(1,.ptr 0 2 0),(2,.ptr 1 2 0),(4,.ptr 2 2 0),(6,.ptr 3 2 0),(7,.mp 4),(10,.int .i64 k),(11,x.1),(40,.int .i64 c),(41,.int .i64 k),(50,bU E),(51,.int .i64 E.length),(52,.int .i64 x.2)]) (λx H' nx'=>x.2<=E.length/\nx<=nx'/\(∀b,b<nx->H' b=H b)/\Row H' 1 x.1 ((qD (E.take x.2) k).map (AV.int .i64))/\∀b,cf x.1=some b->nx<=b/\b<nx') (λx=>E.length-x.2) (.msl nx 1 1 0 1,0) ⟨bW _,by omega,λb hb=>ab (by omega),?_,λb hb=>by cases hb;omega⟩ ?_
 ·exact Row.box nx 1 [.int .i64 k] ae rfl
 rintro⟨kv,j⟩ H' nx' ⟨h1,h2,h3,h4,h5⟩;dsimp only at h1 h2 h3 h4 h5 |-;by_cases hj:j<E.length
 ·have ix:=Gj hj;have hrm:=az (l:=E) hj;have hn:=hred.ne _ hrm;have ix0:=JX hn;have hks:=EU (E:=E) (q:=k) hj;have hul:=A4 (E:=E.take j) (q:=k);rw[fY] at hul;have hha:=I7 (E.getD j default) k (by have:=gx (hred.asc _ hrm) (hEv _ hrm);omega) (hred.asc _ hrm);generalize E.getD j default=r at *;by_cases hin:(k:Int)∈r
  ·rw[if_pos hin] at hks;rw[bd hin] at hha;refine wnY (aI @ix @ix0) ?_;refine eR (h4.same λb hb=>?_) ?_
   ·have:=h5 b hb;rw[ab (by omega)]
   rintro s2 H2 nx2 hr2 i1 i2 i3 i4;refine wnY and_self ?_;refine⟨(s2,j+1),by dsimp only;omega,⟨by dsimp only;omega,by omega,λb hb=>?_,?_,λb hb=>?_⟩,ag0⟩
   ·exact(i3 b (by omega) λe=>by have:=h5 b e;omega).trans ((ab (by omega)).trans (h3 b hb))
   ·dsimp only;rw[hks,dr];exact hr2
   ·rcases i4 b hb with h|h
    ·have:=h5 b h;omega
    ·omega
  ·rw[if_neg hin,gJ] at hks;rw[bh hin] at hha;refine wnY (aI @ix @ix0) ?_;refine⟨(kv,j+1),by dsimp only;omega,⟨by dsimp only;omega,h2,h3,by dsimp only;rw[hks];exact h4,h5⟩,ag0⟩
 obtain rfl:j=E.length:=by omega
 rw[eM (aJ _)] at h4;have hul:=A4 (E:=E) (q:=k);have hu0:0<(qD E k).length:=Nat.succ_pos _;obtain⟨B,rfl,hB⟩:=BG h4 hu0;have hBn:=h5 B rfl;refine wnY and_self ?_;refine aU ev0 ev0 (hso hB hBn.2 rfl hu0 (by omega)) ?_;rintro _ H2 nx2 ⟨L',hps,hperm,hsrt⟩;obtain rfl:=EL hred hlead hperm hsrt;have hlen:=hperm.length_eq;have q0:∀b,b<nx->H2 b=H b:=λb hb=>(hps.fr b (by omega) (by omega)).trans (h3 b hb);have hle:=hps.le
 have hsn:Snap (only B ((rb E k).map (AV.int .i64))) (.msl B (qD E k).length 1 0 (qD E k).length) (aH (rb E k)):=by
  rw[<-hlen];have:=Row.box (sz:=1) B (rb E k).length ((rb E k).map (AV.int .i64)) jl (by rw[bt,Nat.mul_one]);rw[Nat.mul_one] at this;exact this.snapI
 clear hB hperm hsrt h4 hul hu0;generalize rb E k=v at *;refine jv (a_n ?_);refine o9 _ _ [(1,.ptr 0 2 0),(2,.ptr 1 2 0),(4,.ptr 2 2 0),(6,.ptr 3 2 0),(7,.mp 4),(11,aH v),(40,.int .i64 c),(41,.int .i64 k)] (Fz.one hps.at_) ⟨.inl rfl,.inl rfl,.inl rfl,.inl rfl,.inl rfl,.inr hsn,.inl rfl,.inl rfl,trivial⟩ ?_;have q:∀b,b<nx->c9 H2 B b=H b:=λb hb=>(cK (by omega)).trans (q0 b hb);clear hps q0 hsn;generalize c9 H2 B=H4 at *;have q3:=(q 3 (by omega)).trans g6;have kll:=B9 (E:=E) (k:=k);refine wnY @q3 ?_;refine eR (g8.same λb hb=>?_) ?_
 ·have:=g9 b hb;rw[ab (by omega)];exact q b (by omega)
 rintro s2 H3 nx3 hr2 i1 i2 i3 i4;have hdo:∀b,b<=4->cf sv≠some b:=λb hb e=>by have:=g9 b e;omega
 have lo2:∀b,b<=4->H3 b=H b:=λb hb=>(i3 b (by omega) (hdo b hb)).trans ((ab (by omega)).trans (q b (by omega)))
 have hn2:∀b,cf s2=some b->4<b/\b<nx3:=λb hb=>by
  rcases i4 b hb with h|h
  ·have:=g9 b h;omega
  ·omega
 have k6:=(lo2 3 (by omega)).trans g6;obtain⟨o1,o2⟩:=hr2.one;refine wnY (zI3 @k6 @o1 @o2) ?_;refine⟨(s2,k+1),by dsimp only;omega,⟨by dsimp only;omega,by omega,(ab (by omega)).trans ((lo2 0 (by omega)).trans g3),(ab (by omega)).trans ((lo2 1 (by omega)).trans g4),(ab (by omega)).trans ((lo2 2 (by omega)).trans g5),by rw[ae];rfl,(ab (by omega)).trans ((lo2 4 (by omega)).trans g7),?_,hn2⟩,ag0⟩;dsimp only;rw[hks,dr];exact hr2.same λb hb=>by have:=hn2 b hb;rw[ab (by omega)]
theorem wo(c:List Spx)(d:Nat)(hc:ay c=0)(hl:c.length<=50)(hd:d<=7)(H:Hp)(nx:Nat):
    Abs.Fn Tryz.prog 81 [b7 c,.int .i64 d] H nx λr H' nx'=>∃b,r=.tup [.ptr b 3 0,.int .i64 0]/\nx<=b/\b<nx'/\(∀x,x<nx->H' x=H x)/\H' b=some [.int .i64 (bdN c d),bU (bdE c d),.int .i64 (bdE c d).length]:=by
 refine fO P5 ?_;simp only[b81,aK];have he:=oI c (d+1) hc hl (by omega);have hs:=tR c d hc hl (by omega);have h2:=de hc hl (d:=(d:Int)+1+1);have h1:=de hc hl (d:=(d:Int)+1);rw[show((d+1:Nat):Int)=(d:Int)+1 by omega] at he;have ht:=AQ (an c ((d:Int)+1+1)).length (bZ (an c ((d:Int)+1+1)) (an c ((d:Int)+1))) (oX (by omega) (by omega));rw[dF] at ht;have hel:(bdE c d).length<=bdN c d:=Ep;have hec:pU 134 [eB (bdN c d) (bdM c d)] (.tup [eB (bdN c d) (bdE c d),.int .i64 0]):=pN _ _ (rf hc hl);have hq:((an c ((d:Int)+1)).length:Int)=bdN c d:=rfl;have hm:trL (an c ((d:Int)+1+1)).length (bZ (an c ((d:Int)+1+1)) (an c ((d:Int)+1)))=bdM c d:=rfl;rw[hm] at ht;rw[hq] at hs ht;have z0:decide ((0:Int)≠0)=false:=rfl;have z2:ak c=ak c:=rfl;generalize bZ (an c ((d:Int)+1+1)) (an c ((d:Int)+1))=R at *;generalize (an c ((d:Int)+1+1)).length=m at *;generalize bdM c d=M at *;generalize bdE c d=E at *;have hN:bdN c d<=3500:=h1;generalize bdN c d=n at *;have d1:Dat (.agg [.int .i64 m,bU R]):=dP m R;have d2:Dat (.agg [.int .i64 n,bU M]):=dP n M;rw[dR] at he ht hec;rw[dR] at ht hec;refine wnY (zI4 @z0 @ai @af @fv) ?_;exact⟨nx+3,rfl,by omega,by omega,λx hx=>by(repeat rw[ab (by omega)]),ae⟩
theorem Jc(c:List Spx)(d:Nat)(H:Hp)(nx:Nat):Abs.Fn Tryz.prog 50 [b7 c,.int .i64 d] H nx λr H' nx'=>r=.func 102 [.ptr nx 1 0,.ptr (nx+1) 1 0]/\H'=ao (ao H nx [ak c]) (nx+1) [.int .i64 d]/\nx'=nx+2:=by
 refine fO Qq ?_;simp only[b50,aK];refine wnY (aI @ai @af) ?_;exact⟨rfl,rfl,rfl⟩
theorem I4{y cb db:Nat}(c:List Spx)(d:Nat)(hso:su (bdN c d+1))(hc:ay c=0)(hl:c.length<=50)(hd:d<=7)(hn:bdN c d<=1000)(H:Hp)(nx:Nat)(I:List Nat->List (List Int)->Hp->Nat->Prop)
    (g1:H cb=some [ak c]) (g2:H db=some [.int .i64 d]) (hcb:cb<nx) (hdb:db<nx)
    (st:∀F F' D H nx H' nx',I F D H nx->nx<=nx'->(∀x,x<nx->x∉F->H' x=H x)->(∀x∈F',x∈F\/nx<=x/\x<nx')->I F' D H' nx')
    (rnd:∀F D v H nx,I F D H nx->v∈bsK c d->D.length<=1000->Yl Tryz.prog y [aH v,.int .i64 0] H nx λr H' nx'=>r=.bool true/\nx<=nx'/\(∀x∈F,H' x=H x)/\I F (D++[v]) H' nx')
    (h0:I [] [] H nx):
    Abs.Fn Tryz.prog 102 [.yld y,.ptr cb 1 0,.ptr db 1 0] H nx λ_ H' nx'=>∃F,I F (bsT (bdE c d) (bdN c d) (bsK c d) (bsK c d).length) H' nx':=by
 refine fO Pc ?_;simp only[O1,aK];have hbd:=λH nx=>wo c d hc hl hd H nx;have he:=oI c d hc hl (by omega);have hk:=GC _ _ (yj (d:=d) hc hl) hso;rw[show iK (ed (bZ (an c ((d:Int)+1)) (an c d)) (bdN c d)) (bdN c d)=bsK c d from rfl] at hk;rw[show(((an c ((d:Int)+1)).length:Nat):Int)=(bdN c d:Int) from rfl] at he;obtain⟨mE,rE,-⟩:=Lf (d:=d) hc hl;obtain⟨mK,lK⟩:=CV (d:=d) hc hl;have lE:(bdE c d).length<=bdN c d:=Ep;have eE:=Jg rE (rh mE);have hd1:Dat (.agg [.int .i64 (bdN c d),bU (bZ (an c ((d:Int)+1)) (an c d))]):=dP _ _;rw[vV] at hbd he;rw[dR] at he;rw[dR,dR] at hk;generalize bZ (an c ((d:Int)+1)) (an c d)=R at *;have dcx:Dat (.agg [ak c]):=bI c;generalize bdE c d=E at *;generalize bdN c d=n at *;generalize bsK c d=K at *;have z0:decide ((0:Int)≠0)=false:=rfl;have z1:decide ((0:Int)=0)=true:=rfl;refine wnY (aI @g1 @g2) ?_;refine aU ev0 ev0 (hbd _ _) ?_;rintro _ H1 nx1 ⟨b,rfl,b1,b2,b3,b4⟩;have g1':=(b3 cb hcb).trans g1;have g2':=(b3 db hdb).trans g2;refine wnY (zI5 @g1' @g2' @z0 @z1 @fv) ?_;refine lpI (X:=AV×Nat) (λx=>[(0,.yld y),(4,.ptr b 3 0),(39,bU K),(40,.int .i64 K.length),(41,.int .i64 x.2)]) (λx H' nx'=>x.2<=K.length/\I (b::JL (cf x.1)) (bsT E n K x.2) H' nx'/\H' b=some [.int .i64 n,x.1,.int .i64 (ed (E++bsT E n K x.2) n).length]/\n7 H' x.1 (E++bsT E n K x.2)/\b<nx'/\∀z,cf x.1=some z->z<nx'/\z≠b) (λx=>K.length-x.2) (bU E,0) ⟨bW _,?_,?_,?_,by omega,λz h=>?_⟩ ?_
 ·refine st [] _ [] _ nx _ _ h0 (by omega) (λx hx _=>?_) (λx hx=>?_)
  ·(repeat rw[ab (by omega)])
   exact b3 x hx
  ·rcases cU.1 hx with rfl|hx
   ·exact .inr ⟨by omega,by omega⟩
   ·cases hx
 ·(repeat rw[ab (by omega)])
  show H1 b=some [.int .i64 n,bU E,.int .i64 (ed (E++[]) n).length];rw[gJ,eE];exact b4
 ·refine .inl ?_;show bU E=bU (E++[]);rw[gJ]
 ·exact by cases h
 clear h0 b3 b4 g1' g2' g1 g2;rintro⟨rv,k⟩ H' nx' ⟨h1,h2,h3,h4,h5,h6⟩;dsimp only at h1 h2 h3 h4 h5 h6 |-;by_cases hk2:k<K.length
 rotate_left
 ·obtain rfl:k=K.length:=by omega
  refine wnY and_self ?_;exact⟨_,h2⟩
 have ix:=Gj hk2;have hTl:=Ed (E:=E) (n:=n) (K:=K) (k:=k);have hTm:=zD (E:=E) (n:=n) (K:=K) h1;have hss:bsT E n K (k+1)=if (ed ((E++bsT E n K k)++[K.getD k default]) n).length=(ed (E++bsT E n K k) n).length then bsT E n K k else bsT E n K k++[K.getD k default]:=rfl
 have hvm:K.getD k default∈K:=az hk2;generalize K.getD k default=v at *;have mS:jp n ((E++bsT E n K k)++[v]):=Bh (Bh mE (Bo mK (by omega) hTm) (by omega)) (Bo mK (by simp) λr hr=>by rw[bT] at hr;rw[hr];exact hvm) (by rw[cA];simp only[bL,eW];omega);have hadd:=N9 n (E++bsT E n K k) (ed (E++bsT E n K k) n).length v rv b H' nx' mS h3 h5 h4 λx hx=>(h6 x hx).1;generalize hT:bsT E n K k=D at *;refine wnY @ix ?_;refine aU ev0 ev0 hadd ?_;rintro _ H2 nx2 ⟨q1,q2,q3⟩;rcases q3 with⟨e1,rfl,e3⟩|⟨e1,rfl,wv,e3,e4,e5⟩
 ·rw[if_pos e1] at hss;refine wnY @z0 ?_;refine⟨(rv,k+1),by dsimp only;omega,⟨by dsimp only;omega,?_,?_,?_,by omega,λz hz=>by have:=h6 z hz;omega⟩,ag0⟩
  ·dsimp only;rw[hss];exact st _ _ _ _ _ _ _ h2 q1 (λx hx hF=>q2 x hx λe=>hF (by rw[e];exact cW ..)) λx hx=>.inl hx
  ·dsimp only;rw[hss,e3];exact h3
  ·dsimp only;rw[hss];exact h4.same λz hz=>q2 z (h6 z hz).1 (h6 z hz).2
 rw[if_neg e1] at hss
 have hI2:I (b::JL (cf wv)) D H2 nx2:=st _ _ _ _ _ _ _ h2 q1 (λx hx hF=>q2 x hx λe=>hF (by rw[e];exact cW ..)) λx hx=>by
  rcases cU.1 hx with rfl|hx
  ·exact .inl (cW ..)
  ·exact .inr (e5 x (Bj.1 hx))
 refine wnY @z0 ?_;refine zh ev0 ev0 (Yl.mono (rnd _ D v _ _ hI2 hvm (by omega)) ?_);rintro _ H3 nx3 ⟨rfl,r1,r2,r3⟩;refine wnY @z0 ?_;refine⟨(wv,k+1),by dsimp only;omega,⟨by dsimp only;omega,?_,?_,?_,by omega,λz hz=>?_⟩,ag0⟩
 ·dsimp only;rw[hss];exact r3
 ·dsimp only;rw[hss,r2 b (cW ..),e3,np]
 ·dsimp only;rw[hss,<-np];exact e4.same λz hz=>r2 z (dS _ (Bj.2 hz))
 ·have:=e5 z hz;omega
end
end Go.Proofs.YtekdaafnjdlenaaGreat
