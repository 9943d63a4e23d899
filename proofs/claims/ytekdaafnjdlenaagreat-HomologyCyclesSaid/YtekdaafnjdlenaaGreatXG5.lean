/- Contracts of functions and plain laws, for all inputs that the theorems name. -/
import Derived.Test.YtekdaafnjdlenaaGreatXG4
import Derived.Test.YtekdaafnjdlenaaGreatXG3

set_option linter.unusedSimpArgs false
set_option linter.unusedVariables false
set_option maxHeartbeats 4000000
namespace Go.Proofs.YtekdaafnjdlenaaGreat
open Go Go.Abs
open Nat (reduceEqDiff reduceAdd reduceLeDiff)
theorem oY:∀{a b:List Int},bt a->bt b->(∀z,z∈a↔z∈b)->a=b
 |[],[],_,_,_=>rfl
 |[],y::b,_,_,h=>absurd ((h y).2 (dq ..)) (by simp)
 |x::a,[],_,_,h=>absurd ((h x).1 (dq ..)) (by simp)
 |x::a,y::b,ha,hb,h=>by
  obtain⟨a1,a2⟩:=ie.1 ha;obtain⟨b1,b2⟩:=ie.1 hb
  have e:x=y:=by
   rcases c9.1 ((h x).1 (dq ..)) with e|e
   ·exact e
   ·rcases c9.1 ((h y).2 (dq ..)) with e2|e2
    ·exact e2.symm
    ·have:=b1 _ e;have:=a1 _ e2;omega
  subst e
  congr 1
  refine oY a2 b2 λz=>⟨λhz=>?_,λhz=>?_⟩
  ·rcases c9.1 ((h z).1 (eD _ hz)) with e|e
   ·have:=a1 z hz;omega
   ·exact e
  ·rcases c9.1 ((h z).2 (eD _ hz)) with e|e
   ·have:=b1 z hz;omega
   ·exact e
theorem ed{a b:List Int}(ha:bt a)(hb:bt b):bt (bP a b):=(js _ a b (aN _) ha hb).1
def bit(z:Int)(a:List Int):Nat:=if z∈a then 1 else 0
theorem ng{z:Int}:bit z []=0:=by simp[bit]
theorem gQ{z:Int}{a:List Int}:bit z a<2:=by unfold bit;split<;>omega
theorem dG{z:Int}{a:List Int}:bit z a=1↔z∈a:=by unfold bit;split<;>simp[*]
theorem dZ{a b:List Int}{z:Int}(ha:bt a)(hb:bt b):bit z (bP a b)=(bit z a+bit z b)%2:=by
 unfold bit;have h:=(js _ a b (aN _) ha hb).2 z;by_cases h1:z∈a<;>by_cases h2:z∈b<;>simp[h,h1,h2]
theorem jJ{a b:List Int}(ha:bt a)(hb:bt b)(h:∀z,bit z a=bit z b):a=b:=
 oY ha hb λz=>by rw[<-dG,<-dG,h z]
theorem wu{a:List Int}(h:∀z,bit z a=0):a=[]:=by
 cases a with
 |nil=>rfl
 |cons x l=>exact absurd (h x) (by rw[dG.2 (dq ..)];decide)
def ld(r:List Int):Int:=r.getD 0 0
theorem dj{v:List Int}(h:v≠[]):ld v∈v:=by
 cases v with
 |nil=>exact absurd rfl h
 |cons x l=>exact dq ..
theorem nK{v:List Int}(h:bt v){z:Int}(hz:z∈v):ld v<=z:=by
 cases v with
 |nil=>cases hz
 |cons x l=>
  rcases c9.1 hz with rfl|hz
  ·exact Int.le_refl _
  ·exact Int.le_of_lt ((ie.1 h).1 z hz)
inductive Sp(R:List (List Int)):List Int->Prop
 |nil:Sp R []
 |add {v r:List Int}:Sp R v->r∈R->Sp R (bP v r)
theorem dX{R:List (List Int)}{r:List Int}(h:r∈R):Sp R r:=by
 have:=Sp.add (Sp.nil (R:=R)) h
 rwa [gR] at this
def nW(z:Int)(p:List Int->Bool):List (List Int)->Nat
 |[]=>0
 |r::E=>(if p r=true then bit z r else 0)+nW z p E
theorem nY{z:Int}{p q:List Int->Bool}:∀{E:List (List Int)},(∀r∈E,p r=q r)->nW z p E=nW z q E
 |[],_=>rfl
 |r::E,h=>by
  unfold nW;rw[h r (dq ..),nY λx hx=>h x (eD _ hx)]
theorem sH{z:Int}{p:List Int->Bool}:∀{E:List (List Int)},nW z p E≠0->∃q∈E,p q=true/\z∈q
 |[],h=>absurd rfl h
 |r::E,h=>by
  unfold nW at h;by_cases h1:p r=true/\z∈r
  ·exact⟨r,dq ..,h1⟩
  ·have:nW z p E≠0:=λe=>by
     rw[e] at h;by_cases h2:p r=true
     ·rw[if_pos h2] at h;have:bit z r=1:=by have:=gQ (z:=z) (a:=r);omega
      exact h1 ⟨h2,dG.1 this⟩
     ·rw[if_neg h2] at h;exact h rfl
   obtain⟨q,q1,q2⟩:=sH this;exact⟨q,eD _ q1,q2⟩
theorem nc{z:Int}{p:List Int->Bool}{E:List (List Int)}(h:∀q∈E,p q=true->z∉q):nW z p E=0:=
 Decidable.byContradiction λe=>by
  obtain⟨q,q1,q2,q3⟩:=sH e;exact h q q1 q2 q3
theorem zT{z:Int}{p:List Int->Bool}{r:List Int}:∀{E:List (List Int)},E.Nodup->r∈E->nW z (λq=>(p q).xor (decide (q=r))) E%2=(nW z p E+bit z r)%2
 |[],_,h=>by cases h
 |q::E,hn,h=>by
  obtain⟨n1,n2⟩:=List.nodup_cons.1 hn;unfold nW;by_cases e:q=r
  ·subst e
   rw [nY (q:=p) (fun x hx=>by
    have:x≠q:=λe=>n1 (e▸hx);simp[this])]
   cases hp:p q<;>simp <;>have:=gQ (z:=z) (a:=q)<;>omega
  ·have h2:r∈E:=(c9.1 h).resolve_left λx=>e x.symm;have:=zT (z:=z) (p:=p) n2 h2;simp only[e,decide_false,Bool.xor_false];omega
theorem sN{z:Int}{p:List Int->Bool}{r:List Int}:∀{E:List (List Int)},E.Nodup->r∈E->z∈r->(∀q∈E,z∈q->q=r)->nW z p E=if p r=true then 1 else 0
 |[],_,h,_,_=>by cases h
 |q::E,hn,h,hz,ho=>by
  obtain⟨n1,n2⟩:=List.nodup_cons.1 hn;unfold nW;by_cases e:q=r
  ·subst e;rw[nc (λx hx _ hzx=>n1 (ho x (eD _ hx) hzx▸hx)),dG.2 hz,oE]
  ·have h2:r∈E:=(c9.1 h).resolve_left λx=>e x.symm;have hq:z∉q:=λx=>e (ho q (dq ..) x);rw[sN n2 h2 hz λx hx=>ho x (eD _ hx),show bit z q=0 by unfold bit;rw[if_neg hq]];simp
theorem wL{E:List (List Int)}{v:List Int}(hE:∀r∈E,bt r)(hn:E.Nodup)(h:Sp E v):bt v/\∃p,∀z,bit z v=nW z p E%2:=by
 induction h with
 |nil=>exact⟨pp,λ_=>false,λz=>by rw[ng,nc (p:=λ_=>false) λq _ h=>by cases h]⟩
 | @add w r h1 h2 ih=>
  obtain⟨ha,p,hp⟩:=ih;refine⟨ed ha (hE _ h2),λq=>(p q).xor (decide (q=r)),λz=>?_⟩;rw[dZ ha (hE _ h2),hp z,zT hn h2];omega
theorem mD{R:List (List Int)}{v:List Int}(hR:∀r∈R,bt r)(h:Sp R v):bt v:=by
 induction h with
 |nil=>exact pp
 |add h1 h2 ih=>exact ed ih (hR _ h2)
structure Red(E:List (List Int)):Prop where
 asc:∀r∈E,bt r
 ne:∀r∈E,r≠[]
 own:∀r∈E,∀q∈E,ld r∈q->q=r
 ord:E.Pairwise λr q=>ld r<ld q
theorem Red.nodup{E:List (List Int)}(h:Red E):E.Nodup:=yO (λ{x y}(q:ld x<ld y) e=>by rw[e] at q;omega) h.ord
theorem Red.cnt{E:List (List Int)}(h:Red E){p:List Int->Bool}{r:List Int}(hr:r∈E):nW (ld r) p E=if p r=true then 1 else 0:=
 sN h.nodup hr (dj (h.ne r hr)) λq hq hz=>h.own r hr q hq hz
theorem G9{E:List (List Int)}{v w:List Int}(hE:Red E)(hv:Sp E v)(hw:Sp E w)(h:∀r∈E,ld r∈v↔ld r∈w):v=w:=by
 obtain⟨av,p,hp⟩:=wL hE.asc hE.nodup hv;obtain⟨aw,q,hq⟩:=wL hE.asc hE.nodup hw;refine jJ av aw λz=>?_;rw[hp z,hq z]
 congr 1
 refine nY λr hr=>?_;have h1:=h r hr;rw[<-dG,<-dG,hp,hq,hE.cnt hr,hE.cnt hr] at h1;cases h2:p r<;>cases h3:q r<;>simp[h2,h3] at h1<;>rfl
theorem yw{p:List Int->Bool}:∀{E:List (List Int)},E.Pairwise (λr q=>ld r<ld q)->(∃r∈E,p r=true)->∃r∈E,p r=true/\∀q∈E,p q=true->ld r<=ld q
 |[],_,h=>by obtain⟨_,h,_⟩:=h;cases h
 |x::E,ho,h=>by
  obtain⟨o1,o2⟩:=ie.1 ho;by_cases hx:p x=true
  ·refine⟨x,dq ..,hx,λq hq _=>?_⟩;rcases c9.1 hq with rfl|hq
   ·exact Int.le_refl _
   ·exact Int.le_of_lt (o1 q hq)
  ·obtain⟨r,hr,hp⟩:=h;have hrE:r∈E:=(c9.1 hr).resolve_left λe=>hx (e▸hp);obtain⟨s,s1,s2,s3⟩:=yw o2 ⟨r,hrE,hp⟩;refine⟨s,eD _ s1,s2,λq hq hpq=>?_⟩;rcases c9.1 hq with rfl|hq
   ·exact absurd hpq hx
   ·exact s3 q hq hpq
theorem zE{E:List (List Int)}{v:List Int}(hE:Red E)(hv:Sp E v)(h0:v≠[]):∃r∈E,ld r=ld v:=by
 obtain⟨av,p,hp⟩:=wL hE.asc hE.nodup hv
 have hex:∃ r ∈ E,p r=true:=Decidable.byContradiction fun hn=>h0 (wu fun z=>by
  rw[hp z,nc λq hq hpq=>absurd ⟨q,hq,hpq⟩ hn])
 obtain⟨r,r1,r2,r3⟩:=yw hE.ord hex;refine⟨r,r1,Int.le_antisymm ?_ ?_⟩
 ·have h1:bit (ld v) v=1:=dG.2 (dj h0);rw[hp] at h1;obtain⟨q,q1,q2,q3⟩:=sH (z:=ld v) (p:=p) (E:=E) (λe=>by rw[e] at h1;cases h1);exact Int.le_trans (r3 q q1 q2) (nK (hE.asc q q1) q3)
 ·refine nK av (dG.1 ?_);rw[hp,hE.cnt r1,if_pos r2]
theorem vS:∀{E F:List (List Int)},E.map ld=F.map ld->(∀r∈E,∀q∈F,ld r=ld q->r=q)->E=F
 |[],[],_,_=>rfl
 |[],_::_,h,_=>by cases h
 |_::_,[],h,_=>by cases h
 |x::E,y::F,h,hi=>by
  obtain⟨h1,h2⟩:=List.cons.inj h;rw[hi x (dq ..) y (dq ..) h1,vS h2 λr hr q hq=>hi r (eD _ hr) q (eD _ hq)]
theorem oW{E F:List (List Int)}(hE:Red E)(hF:Red F)(h:∀v,Sp E v↔Sp F v):E=F:=by
 have leads:E.map ld=F.map ld:=by
  refine oY (List.pairwise_map.2 hE.ord) (List.pairwise_map.2 hF.ord) λz=>?_;rw[bJ,bJ];constructor
  ·rintro⟨r,hr,rfl⟩;exact zE hF ((h r).1 (dX hr)) (hE.ne r hr)
  ·rintro⟨r,hr,rfl⟩;exact zE hE ((h r).2 (dX hr)) (hF.ne r hr)
 refine vS leads λr hr q hq e=>?_;refine G9 hF ((h r).1 (dX hr)) (dX hq) λf hf=>⟨λhfr=>?_,λhfq=>?_⟩
 ·have hm:ld f∈E.map ld:=by rw[leads];exact bJ.2 ⟨f,hf,rfl⟩
  obtain⟨g,hg,eg⟩:=bJ.1 hm;rw[<-eg] at hfr;have h1:=hE.own g hg r hr hfr;rw[<-eg,<-h1,e];exact dj (hF.ne q hq)
 ·have h1:=hF.own f hf q hq hfq;rw[<-h1,<-e];exact dj (hE.ne r hr)
abbrev Ln:=List Int×List Int
def kR(f:Ln->List Int)(z:Int)(p:Ln->Bool):List Ln->Nat
 |[]=>0
 |r::E=>(if p r=true then bit z (f r) else 0)+kR f z p E
theorem gW{f:Ln->List Int}{z:Int}{p q:Ln->Bool}:∀{E:List Ln},(∀r∈E,p r=q r)->kR f z p E=kR f z q E
 |[],_=>rfl
 |r::E,h=>by
  unfold kR;rw[h r (dq ..),gW λx hx=>h x (eD _ hx)]
theorem nQ{f:Ln->List Int}{z:Int}:∀{E:List Ln},kR f z (λ_=>false) E=0
 |[]=>rfl
 |r::E=>by unfold kR;rw[nQ];rfl
theorem rN{f:Ln->List Int}{z:Int}{p:Ln->Bool}{r:Ln}:∀{E:List Ln},E.Nodup->r∈E->kR f z (λq=>(p q).xor (decide (q=r))) E%2=(kR f z p E+bit z (f r))%2
 |[],_,h=>by cases h
 |q::E,hn,h=>by
  obtain⟨n1,n2⟩:=List.nodup_cons.1 hn;unfold kR;by_cases e:q=r
  ·subst e
   rw [gW (q:=p) (fun x hx=>by
    have:x≠q:=λe=>n1 (e▸hx);simp[this])]
   cases hp:p q<;>simp <;>have:=gQ (z:=z) (a:=f q)<;>omega
  ·have h2:r∈E:=(c9.1 h).resolve_left λx=>e x.symm;have:=rN (f:=f) (z:=z) (p:=p) n2 h2;simp only[e,decide_false,Bool.xor_false];omega
structure RedU(M:List Ln):Prop where
 asc:∀l∈M,bt l.1/\bt l.2
 ne:∀l∈M,l.1≠[]
 own:∀l∈M,∀m∈M,ld l.1∈m.1->m=l
 nodup:M.Nodup
def ea(x l:Ln):Ln:=(bP x.1 l.1,bP x.2 l.2)
def rdL(M:List Ln)(p:Ln->Bool)(x:Ln):Ln:=M.foldl (λa l=>if p l=true then ea a l else a) x
def cq(x:Ln):Prop:=bt x.1/\bt x.2
theorem eW{x l:Ln}(hx:cq x)(hl:cq l):cq (ea x l):=⟨ed hx.1 hl.1,ed hx.2 hl.2⟩
theorem gZ{p:Ln->Bool}:∀{M:List Ln}{x:Ln},(∀l∈M,cq l)->cq x->cq (rdL M p x)
 |[],_,_,hx=>hx
 |l::M,x,hM,hx=>by
  unfold rdL;rw[List.foldl_cons];refine gZ (M:=M) (λm hm=>hM m (eD _ hm)) ?_;split
  ·exact eW hx (hM l (dq ..))
  ·exact hx
theorem kA{p:Ln->Bool}{z:Int}:∀{M:List Ln}{x:Ln},(∀l∈M,cq l)->cq x->bit z (rdL M p x).1=(bit z x.1+kR Prod.fst z p M)%2
 |[],x,_,_=>by
  have:=gQ (z:=z) (a:=x.1);show bit z x.1=(bit z x.1+0)%2;omega
 |l::M,x,hM,hx=>by
  have hl:=hM l (dq ..)
  have hx':cq (if p l=true then ea x l else x):=by
   split
   ·exact eW hx hl
   ·exact hx
  have ih:=kA (p:=p) (z:=z) (M:=M) (λm hm=>hM m (eD _ hm)) hx';show bit z (rdL M p (if p l=true then ea x l else x)).1=(bit z x.1+((if p l=true then bit z l.1 else 0)+kR Prod.fst z p M))%2;rw[ih];clear ih;by_cases h:p l=true
  ·rw[if_pos h,if_pos h];unfold ea;rw[dZ hx.1 hl.1];omega
  ·rw[if_neg h,if_neg h];omega
theorem lY{p:Ln->Bool}{z:Int}:∀{M:List Ln}{x:Ln},(∀l∈M,cq l)->cq x->bit z (rdL M p x).2=(bit z x.2+kR Prod.snd z p M)%2
 |[],x,_,_=>by
  have:=gQ (z:=z) (a:=x.2);show bit z x.2=(bit z x.2+0)%2;omega
 |l::M,x,hM,hx=>by
  have hl:=hM l (dq ..)
  have hx':cq (if p l=true then ea x l else x):=by
   split
   ·exact eW hx hl
   ·exact hx
  have ih:=lY (p:=p) (z:=z) (M:=M) (λm hm=>hM m (eD _ hm)) hx';show bit z (rdL M p (if p l=true then ea x l else x)).2=(bit z x.2+((if p l=true then bit z l.2 else 0)+kR Prod.snd z p M))%2;rw[ih];clear ih;by_cases h:p l=true
  ·rw[if_pos h,if_pos h];unfold ea;rw[dZ hx.2 hl.2];omega
  ·rw[if_neg h,if_neg h];omega
def e6(x:Ln)(l:Ln):Bool:=decide (ld l.1∈x.1)
def en(M:List Ln)(x:Ln):Ln:=rdL M (e6 x) x
theorem Fw{x y:Ln}(hx:cq x)(hy:cq y)(h1:∀z,bit z x.1=bit z y.1)(h2:∀z,bit z x.2=bit z y.2):x=y:=
 Prod.ext (jJ hx.1 hy.1 h1) (jJ hx.2 hy.2 h2)
theorem C8{M:List Ln}{x l:Ln}(hM:RedU M)(hx:cq x)(hl:l∈M):en M (ea x l)=en M x:=by
 have hla:cq l:=hM.asc l hl;have hxl:=eW hx hla
 have hp:∀m∈M,e6 (ea x l) m=(e6 x m).xor (decide (m=l)):=λm hm=>by
  unfold e6;have h1:ld m.1∈l.1↔m=l:=⟨λh=>(hM.own m hm l hl h).symm,λe=>e▸dj (hM.ne m hm)⟩
  have h2:=(js _ x.1 l.1 (aN _) hx.1 hla.1).2 (ld m.1);show decide (ld m.1∈bP x.1 l.1)=_;by_cases b:m=l
  ·subst b;have h3:=dj (hM.ne m hm);by_cases a:ld m.1∈x.1<;>simp[h2,h3,a]
  ·have h3:ld m.1∉l.1:=λh=>b (h1.1 h);by_cases a:ld m.1∈x.1<;>simp[h2,h3,a,b]
 refine Fw (gZ hM.asc hxl) (gZ hM.asc hx) (λz=>?_) (λz=>?_)
 ·unfold en;rw[kA hM.asc hxl,kA hM.asc hx,gW hp];have:=rN (f:=Prod.fst) (z:=z) (p:=e6 x) hM.nodup hl;unfold ea;rw[dZ hx.1 hla.1];omega
 ·unfold en;rw[lY hM.asc hxl,lY hM.asc hx,gW hp];have:=rN (f:=Prod.snd) (z:=z) (p:=e6 x) hM.nodup hl;unfold ea;rw[dZ hx.2 hla.2];omega
theorem Dh{M:List Ln}{x:Ln}(hM:RedU M)(hx:cq x)(h:∀l∈M,ld l.1∉x.1):en M x=x:=by
 have hp:∀m∈M,e6 x m=false:=λm hm=>aW (h m hm);refine Fw (gZ hM.asc hx) hx (λz=>?_) (λz=>?_)
 ·unfold en;rw[kA hM.asc hx,gW hp,nQ];have:=gQ (z:=z) (a:=x.1);omega
 ·unfold en;rw[lY hM.asc hx,gW hp,nQ];have:=gQ (z:=z) (a:=x.2);omega
theorem dl{a b:List Int}{z:Int}(ha:bt a)(hb:bt b):z∈bP a b↔(z∈a/\z∉b)\/(z∈b/\z∉a):=(js _ a b (aN _) ha hb).2 z
theorem eI{a b c:List Int}(ha:bt a)(hb:bt b)(hc:bt c):bP a (bP b c)=bP (bP a b) c:=
 jJ (ed ha (ed hb hc)) (ed (ed ha hb) hc) λz=>by
  rw[dZ ha (ed hb hc),dZ hb hc,dZ (ed ha hb) hc,dZ ha hb];omega
theorem fx{a:List Int}(ha:bt a):bP a a=[]:=
 wu λz=>by rw[dZ ha ha];omega
theorem jX{S:List (List Int)}{v w:List Int}(hS:∀r∈S,bt r)(hv:Sp S v)(hw:Sp S w):Sp S (bP v w):=by
 induction hw with
 |nil=>rw[fG];exact hv
 | @add w r h1 h2 ih=>
  rw[eI (mD hS hv) (mD hS h1) (hS _ h2)];exact Sp.add ih h2
theorem jM{R S:List (List Int)}{v:List Int}(hS:∀r∈S,bt r)(h:∀r∈R,Sp S r)(hv:Sp R v):Sp S v:=by
 induction hv with
 |nil=>exact Sp.nil
 |add h1 h2 ih=>exact jX hS ih (h _ h2)
theorem jY{R S:List (List Int)}{v:List Int}(h:∀r∈R,r∈S)(hv:Sp R v):Sp S v:=by
 induction hv with
 |nil=>exact Sp.nil
 |add h1 h2 ih=>exact Sp.add ih (h _ h2)
theorem ub{p:Ln->Bool}{S:List (List Int)}(hS:∀r∈S,bt r):∀{M:List Ln}{x:Ln},(∀l∈M,cq l/\l.1∈S)->cq x->Sp S (bP x.1 (rdL M p x).1)
 |[],x,_,hx=>by
  show Sp S (bP x.1 x.1);rw[fx hx.1];exact Sp.nil
 |l::M,x,hM,hx=>by
  obtain⟨hl,hlS⟩:=hM l (dq ..);have hM':=λm hm=>hM m (eD _ hm)
  have hx':cq (if p l=true then ea x l else x):=by
   split
   ·exact eW hx hl
   ·exact hx
  have ih:=ub (p:=p) hS (M:=M) hM' hx';have hr:=gZ (p:=p) (M:=M) (λm hm=>(hM' m hm).1) hx';show Sp S (bP x.1 (rdL M p (if p l=true then ea x l else x)).1);by_cases h:p l=true
  ·rw[if_pos h] at ih hr hx' |-
   have e:bP x.1 (rdL M p (ea x l)).1=bP (bP (ea x l).1 (rdL M p (ea x l)).1) l.1:=
    jJ (ed hx.1 hr.1) (ed (ed hx'.1 hr.1) hl.1) λz=>by
     rw[dZ hx.1 hr.1,dZ (ed hx'.1 hr.1) hl.1,dZ hx'.1 hr.1];show _=((bit z (bP x.1 l.1)+_)%2+_)%2;rw[dZ hx.1 hl.1];omega
   rw[e];exact Sp.add ih hlS
  ·rw[if_neg h] at ih |-;exact ih
theorem kq{M:List Ln}{x:Ln}(hM:RedU M)(hx:cq x){l:Ln}(hl:l∈M):ld l.1∉(en M x).1:=by
 rw[<-dG];unfold en;rw[kA hM.asc hx]
 have hc:∀{E:List Ln},E.Nodup->(∀m∈E,ld l.1∈m.1->m=l)->kR Prod.fst (ld l.1) (e6 x) E=if l∈E/\e6 x l=true then 1 else 0:=by
  intro E
  induction E with
  |nil=>intro _ _;simp[kR]
  |cons m E ih=>
   intro hn ho;obtain⟨n1,n2⟩:=List.nodup_cons.1 hn;have ih:=ih n2 λm hm=>ho m (eD _ hm);show(if e6 x m=true then bit (ld l.1) m.1 else 0)+kR Prod.fst (ld l.1) (e6 x) E=_;rw[ih];by_cases e:m=l
   ·subst e;have hb:bit (ld m.1) m.1=1:=dG.2 (dj (hM.ne m hl));simp[n1,hb]
   ·have hb:bit (ld l.1) m.1=0:=by
      unfold bit;rw[if_neg λh=>e (ho m (dq ..) h)]
    have e2:l≠m:=λh=>e h.symm;simp[hb,e2]
 rw[hc hM.nodup λm hm h=>hM.own l hl m hm h];unfold e6 bit;by_cases h:ld l.1∈x.1<;>simp[h,hl]
def jw(y l:Ln):Ln:=if ld y.1∈l.1 then ea l y else l
def jK(M:List Ln)(y:Ln):List Ln:=M.map (jw y)++[y]
theorem tP{M:List Ln}{y l:Ln}(hM:RedU M)(hy:cq y)(h0:y.1≠[])(hn:∀l∈M,ld l.1∉y.1)(hl:l∈M):
    cq (jw y l)/\(∀m∈M,ld m.1∈(jw y l).1↔l=m)/\ld y.1∉(jw y l).1/\ld (jw y l).1=ld l.1:=by
 have hla:=hM.asc l hl;have how:∀m∈M,ld m.1∈l.1↔l=m:=λm hm=>⟨λh=>hM.own m hm l hl h,λe=>e▸dj (hM.ne l hl)⟩
 unfold jw;by_cases h:ld y.1∈l.1
 ·rw[if_pos h];have hs:=λz=>dl (z:=z) hla.1 hy.1
  have ho:∀m∈M,ld m.1∈(ea l y).1↔l=m:=λm hm=>by
   show ld m.1∈bP l.1 y.1↔_;rw[hs];have:=hn m hm;rw[<-how m hm];simp[this]
  refine⟨eW hla hy,ho,?_,?_⟩
  ·show ld y.1∉bP l.1 y.1;rw[hs];have:=dj h0;simp[this,h]
  ·have hm:=(ho l hl).2 rfl;refine Int.le_antisymm (nK (eW hla hy).1 hm) ?_;have hne:(ea l y).1≠[]:=λe=>by rw[e] at hm;cases hm
   have hq:=dj hne;rcases(hs _).1 hq with q|q
   ·exact nK hla.1 q.1
   ·exact Int.le_trans (nK hla.1 h) (nK hy.1 q.1)
 ·rw[if_neg h];exact⟨hla,how,h,rfl⟩
theorem C0{M:List Ln}{y:Ln}(hM:RedU M)(hy:cq y)(h0:y.1≠[])(hn:∀l∈M,ld l.1∉y.1):RedU (jK M y):=by
 have hf:=λl(hl:l∈M)=>tP hM hy h0 hn hl
 have hmem:∀{m},m∈jK M y->(∃l∈M,jw y l=m)\/m=y:=λ{m} h=>by
  rcases ee.1 h with h|h
  ·exact .inl (bJ.1 h)
  ·exact .inr (c6.1 h)
 constructor
 ·intro m hm;rcases hmem hm with⟨l,hl,rfl⟩|rfl
  ·exact(hf l hl).1
  ·exact hy
 ·intro m hm;rcases hmem hm with⟨l,hl,rfl⟩|rfl
  ·intro e;have:=((hf l hl).2.1 l hl).2 rfl;rw[e] at this;cases this
  ·exact h0
 ·intro m hm k hk h;rcases hmem hm with⟨l,hl,rfl⟩|rfl
  ·rw[(hf l hl).2.2.2] at h;rcases hmem hk with⟨q,hq,rfl⟩|rfl
   ·rw[((hf q hq).2.1 l hl).1 h]
   ·exact absurd h (hn l hl)
  ·rcases hmem hk with⟨q,hq,rfl⟩|rfl
   ·exact absurd h (hf q hq).2.2.1
   ·rfl
 ·refine zB.2 ⟨?_,by simp,λa ha b hb e=>?_⟩
  ·refine List.pairwise_map.2 (List.Pairwise.imp_of_mem (λ{a b} ha hb hab e=>hab ?_) hM.nodup);have h1:=(hf a ha).2.2.2;rw[e,(hf b hb).2.2.2] at h1;refine(hM.own b hb a ha ?_);rw[h1];exact dj (hM.ne a ha)
  ·obtain⟨l,hl,rfl⟩:=bJ.1 ha;rw[c6] at hb;subst hb;have:=(hf l hl).2.2.1;rw[e] at this;exact this (dj h0)
def cK(g:Int->Nat):List Int->Nat
 |[]=>0
 |x::l=>g x+cK g l
theorem ig{g:Int->Nat}:∀(n:Nat)(a b:List Int),a.length+b.length<=n->cK g (bP a b)%2=(cK g a+cK g b)%2
 |_,[],b,_=>by rw[gR];show _=(0+cK g b)%2;rw[bS]
 |_,x::a,[],_=>by rw[fG];show _=(cK g (x::a)+0)%2;rw[oE]
 |0,x::a,y::b,h=>by simp only[bC] at h;omega
 |n+1,x::a,y::b,h=>by
  simp only[bC] at h;rw[jZ];by_cases g1:x<y
  ·rw[if_pos g1];have ih:=ig (g:=g) n a (y::b) (by simp only[bC];omega);show(g x+cK g (bP a (y::b)))%2=(g x+cK g a+cK g (y::b))%2;omega
  rw[if_neg g1];by_cases g2:y<x
  ·rw[if_pos g2];have ih:=ig (g:=g) n (x::a) b (by simp only[bC];omega);show(g y+cK g (bP (x::a) b))%2=(cK g (x::a)+(g y+cK g b))%2;omega
  rw[if_neg g2];obtain rfl:x=y:=by omega
  have ih:=ig (g:=g) n a b (by omega);show cK g (bP a b)%2=(g x+cK g a+(g x+cK g b))%2;omega
def lL(R:List (List Int))(n:Nat)(l:Ln):Prop:=(∀z,bit z l.1=cK (λj=>bit z (R.getD j.toNat default)) l.2%2)/\∀j∈l.2,0<=j/\j<(n:Int)
theorem x9{R:List (List Int)}{n:Nat}{x l:Ln}(hx:cq x)(hl:cq l)(h1:lL R n x)(h2:lL R n l):lL R n (ea x l):=by
 refine⟨λz=>?_,λj hj=>?_⟩
 ·show bit z (bP x.1 l.1)=cK _ (bP x.2 l.2)%2;rw[dZ hx.1 hl.1,ig _ _ _ (aN _),h1.1,h2.1];omega
 ·rcases(dl hx.2 hl.2).1 hj with h|h
  ·exact h1.2 j h.1
  ·exact h2.2 j h.1
theorem rO{R:List (List Int)}{n:Nat}{p:Ln->Bool}:∀{M:List Ln}{x:Ln},(∀l∈M,cq l/\lL R n l)->cq x->lL R n x->lL R n (rdL M p x)
 |[],_,_,_,h=>h
 |l::M,x,hM,hx,h=>by
  obtain⟨hl,hlo⟩:=hM l (dq ..);have hM':=λm hm=>hM m (eD _ hm);show lL R n (rdL M p (if p l=true then ea x l else x));by_cases hp:p l=true
  ·rw[if_pos hp];exact rO hM' (eW hx hl) (x9 hx hl h hlo)
  ·rw[if_neg hp];exact rO hM' hx h
theorem lL.mono{R:List (List Int)}{n m:Nat}{l:Ln}(h:lL R n l)(hn:n<=m):lL R m l:=⟨h.1,λj hj=>by have:=h.2 j hj;omega⟩
def stE(R:List (List Int)):Nat->List Ln×List (List Int)
 |0=>([],[])
 |i+1=>if (en (stE R i).1 (R.getD i default,[(i:Int)])).1=[] then((stE R i).1,(stE R i).2++[(en (stE R i).1 (R.getD i default,[(i:Int)])).2]) else(jK (stE R i).1 (en (stE R i).1 (R.getD i default,[(i:Int)])),(stE R i).2)
structure StOk(R:List (List Int))(i:Nat)(M:List Ln)(D:List (List Int)):Prop where
 red:RedU M
 ok:∀l∈M,lL R i l
 dep:∀y∈D,cq ([],y)/\lL R i ([],y)
 len:M.length+D.length=i
 inS:∀l∈M,Sp (R.take i) l.1
 all:∀r∈R.take i,Sp (M.map Prod.fst) r
theorem eB{M:List Ln}(h:RedU M):∀r∈M.map Prod.fst,bt r:=λr hr=>by
 obtain⟨l,hl,rfl⟩:=bJ.1 hr;exact(h.asc l hl).1
theorem gv{R:List (List Int)}(hR:∀r∈R,bt r):∀{i:Nat},i<=R.length->StOk R i (stE R i).1 (stE R i).2
 |0,_=>⟨⟨λ_ h=>(by cases h),λ_ h=>(by cases h),λ_ h=>(by cases h),List.nodup_nil⟩,λ_ h=>(by cases h),λ_ h=>(by cases h),rfl,λ_ h=>(by cases h),λ_ h=>(by cases h)⟩
 |i+1,hi=>by
  have ih:=gv hR (i:=i) (by omega);have hx:cq (R.getD i default,[(i:Int)]):=⟨hR _ (ay (by omega)),List.pairwise_singleton ..⟩
  have hxo:lL R (i + 1) (R.getD i default,[(i:Int)]):=⟨fun z=>by
   have:=gQ (z:=z) (a:=R.getD i default);show bit z (R.getD i default)=(bit z (R.getD ((i:Nat):Int).toNat default)+0)%2;rw[bN];omega,λj hj=>by rw[c6.1 hj];omega⟩
  have hMo:∀l∈(stE R i).1,cq l/\lL R (i+1) l:=λl hl=>⟨ih.red.asc l hl,(ih.ok l hl).mono (by omega)⟩
  have hya:cq (en (stE R i).1 (R.getD i default,[(i:Int)])):=gZ ih.red.asc hx;have hyo:lL R (i+1) (en (stE R i).1 (R.getD i default,[(i:Int)])):=rO hMo hx hxo;have hyn:=λl hl=>kq ih.red hx (l:=l) hl;have hysp:Sp ((stE R i).1.map Prod.fst) (bP (R.getD i default) (en (stE R i).1 (R.getD i default,[(i:Int)])).1):=ub (eB ih.red) (λl hl=>⟨ih.red.asc l hl,bJ.2 ⟨l,hl,rfl⟩⟩) hx;have htk:R.take (i+1)=R.take i++[R.getD i default]:=bZ (by omega);have hTa:∀r∈R.take (i+1),bt r:=λr hr=>hR r (jx hr);unfold stE;generalize en (stE R i).1 (R.getD i default,[(i:Int)])=y at *;generalize (stE R i).1=M at *;generalize (stE R i).2=D at *;have hup:∀l∈M,Sp (R.take (i+1)) l.1:=λl hl=>jY (λr hr=>by rw[htk];exact mA _ hr) (ih.inS l hl)
  have hMsp:∀ {v},Sp (M.map Prod.fst) v→Sp (R.take (i + 1)) v:=fun hv=>jM hTa (fun r hr=>by
   obtain⟨l,hl,rfl⟩:=bJ.1 hr;exact hup l hl) hv
  by_cases h0:y.1=[]
  ·rw[if_pos h0];rw[h0,fG] at hysp;refine⟨ih.red,λl hl=>(hMo l hl).2,λz hz=>?_,?_,hup,λr hr=>?_⟩
   ·rcases ee.1 hz with h|h
    ·exact⟨(ih.dep z h).1,(ih.dep z h).2.mono (by omega)⟩
    ·rw[c6.1 h];have e:(([],y.2):Ln)=y:=by rw[<-h0]
     rw[e];exact⟨hya,hyo⟩
   ·show M.length+(D++[y.2]).length=i+1;rw[cw,List.length_singleton];have:=ih.len;omega
   ·rw[htk] at hr;rcases ee.1 hr with h|h
    ·exact ih.all r h
    ·rw[c6.1 h];exact hysp
  ·rw[if_neg h0];have hi2:=C0 ih.red hya h0 hyn
   have hyS:Sp (R.take (i+1)) y.1:=by
    have h1:=hMsp hysp;have h2:Sp (R.take (i+1)) (R.getD i default):=dX (by rw[htk];exact lQ _ (c6.2 rfl));have h3:=jX hTa h2 h1
    rwa [eI hx.1 hx.1 hya.1,fx hx.1,gR] at h3
   have hyI:y∈jK M y:=lQ _ (c6.2 rfl)
   have hcl:∀l∈M,Sp ((jK M y).map Prod.fst) l.1:=λl hl=>by
    have hm:jw y l∈jK M y:=mA _ (bJ.2 ⟨l,hl,rfl⟩);have h1:=dX (bJ.2 ⟨_,hm,rfl⟩:(jw y l).1∈(jK M y).map Prod.fst);unfold jw at h1;by_cases h:ld y.1∈l.1
    ·rw[if_pos h] at h1;have h2:=jX (eB hi2) h1 (dX (bJ.2 ⟨_,hyI,rfl⟩));have hla:=(ih.red.asc l hl).1
     rwa [show(ea l y).1=bP l.1 y.1 from rfl,<-eI hla hya.1 hya.1,fx hya.1,fG] at h2
    ·rwa [if_neg h] at h1
   refine⟨hi2,λm hm=>?_,λz hz=>⟨(ih.dep z hz).1,(ih.dep z hz).2.mono (by omega)⟩,?_,λm hm=>?_,λr hr=>?_⟩
   ·rcases ee.1 hm with h|h
    ·obtain⟨l,hl,rfl⟩:=bJ.1 h;unfold jw;split
     ·exact x9 (hMo l hl).1 hya (hMo l hl).2 hyo
     ·exact(hMo l hl).2
    ·rw[c6.1 h];exact hyo
   ·show(jK M y).length+D.length=i+1;unfold jK;rw[cw,bk,List.length_singleton];have:=ih.len;omega
   ·rcases ee.1 hm with h|h
    ·obtain⟨l,hl,rfl⟩:=bJ.1 h;unfold jw;split
     ·exact jX hTa (hup l hl) hyS
     ·exact hup l hl
    ·rw[c6.1 h];exact hyS
   ·have hMI:∀ {v},Sp (M.map Prod.fst) v→Sp ((jK M y).map Prod.fst) v:=fun hv=>jM (eB hi2) (fun r hr=>by
      obtain⟨l,hl,rfl⟩:=bJ.1 hr;exact hcl l hl) hv
    rw[htk] at hr;rcases ee.1 hr with h|h
    ·exact hMI (ih.all r h)
    ·rw[c6.1 h];have h2:=jX (eB hi2) (hMI hysp) (dX (bJ.2 ⟨_,hyI,rfl⟩))
     rwa [<-eI hx.1 hya.1 hya.1,fx hya.1,fG] at h2
def lM(M:List Ln)(c:Nat):List Ln:=(List.range c).filterMap λ(k:Nat)=>M.find? λl=>decide (ld l.1=(k:Int))
theorem pY{M:List Ln}{c:Nat}:lM M (c+1)=lM M c++(M.find? λl=>decide (ld l.1=(c:Int))).toList:=by
 unfold lM;rw[List.range_succ,List.filterMap_append]
 congr 1
theorem pA{M:List Ln}{c:Nat}{l:Ln}(hM:RedU M):l∈lM M c↔l∈M/\0<=ld l.1/\ld l.1<c:=by
 unfold lM;rw[List.mem_filterMap];constructor
 ·rintro⟨k,hk,h⟩;have h1:=List.mem_of_find?_eq_some h;have h2:ld l.1=(k:Int):=by simpa using List.find?_some h
  have:=ef.1 hk;exact⟨h1,by omega,by omega⟩
 ·rintro⟨h1,h2,h3⟩;refine⟨(ld l.1).toNat,ef.2 (by omega),?_⟩;cases h:M.find? λm=>decide (ld m.1=((ld l.1).toNat:Int)) with
  |none=>
   have:=List.find?_eq_none.1 h l h1;rw[gj] at this;omega
  |some m=>
   have e:ld m.1=((ld l.1).toNat:Int):=by simpa using List.find?_some h
   have hm:=List.mem_of_find?_eq_some h
   congr 1
   refine hM.own l h1 m hm ?_;rw[show ld l.1=ld m.1 by omega];exact dj (hM.ne m hm)
theorem lU{M:List Ln}(hM:RedU M):∀{c:Nat},(lM M c).Pairwise λa b=>ld a.1<ld b.1
 |0=>pp
 |c+1=>by
  rw[pY];refine List.pairwise_append.2 ⟨lU hM,?_,λa ha b hb=>?_⟩
  ·cases M.find? λl=>decide (ld l.1=(c:Int))
   ·exact pp
   ·exact List.pairwise_singleton ..
  ·have h1:=((pA hM).1 ha).2.2;have h2:ld b.1=(c:Int):=by simpa using List.find?_some (Option.mem_toList.1 hb)
   omega
theorem Eo{M:List Ln}{c:Nat}(hM:RedU M):Red ((lM M c).map Prod.fst):=by
 have hm:∀r∈(lM M c).map Prod.fst,∃l∈M,l.1=r:=λr hr=>by
  obtain⟨l,hl,rfl⟩:=bJ.1 hr;exact⟨l,((pA hM).1 hl).1,rfl⟩
 refine⟨λr hr=>?_,λr hr=>?_,λr hr q hq h=>?_,List.pairwise_map.2 (lU hM)⟩
 ·obtain⟨l,hl,rfl⟩:=hm r hr;exact(hM.asc l hl).1
 ·obtain⟨l,hl,rfl⟩:=hm r hr;exact hM.ne l hl
 ·obtain⟨l,hl,rfl⟩:=hm r hr;obtain⟨k,hk,rfl⟩:=hm q hq;rw[hM.own l hl k hk h]
def lw(R:List (List Int))(c:Nat):List Ln:=lM (stE R R.length).1 c
def cT(R:List (List Int))(c:Nat):List (List Int):=(lw R c).map Prod.fst
theorem jG{S:List (List Int)}{v:List Int}{P:Int->Prop}(hS:∀r∈S,bt r)(hP:∀r∈S,∀z∈r,P z)(h:Sp S v):∀z∈v,P z:=by
 induction h with
 |nil=>exact λz hz=>by cases hz
 | @add w r h1 h2 ih=>
  intro z hz;rcases(dl (mD hS h1) (hS r h2)).1 hz with q|q
  ·exact ih z q.1
  ·exact hP r h2 z q.1
theorem gU{R:List (List Int)}{c:Nat}(hR:∀r∈R,bt r)(hv:∀r∈R,∀z∈r,0<=z/\z<(c:Int)):Red (cT R c)/\(∀v,Sp (cT R c) v↔Sp R v)/\∀l,l∈lw R c↔l∈(stE R R.length).1:=by
 have hs:=gv hR (aN R.length);have hin:=hs.inS;have hall:=hs.all;rw[show R.take R.length=R from List.take_length] at hin hall
 have hmem:∀l,l∈lw R c↔l∈(stE R R.length).1:=λl=>by
  unfold lw;rw[pA hs.red];refine⟨λh=>h.1,λh=>?_⟩;have:=jG hR hv (hin l h) _ (dj (hs.red.ne l h));exact⟨h,this.1,this.2⟩
 have hred:Red (cT R c):=Eo hs.red;refine⟨hred,λv=>⟨λh=>jM hR (λr hr=>?_) h,λh=>jM hred.asc (λr hr=>?_) h⟩,hmem⟩
 ·obtain⟨l,hl,rfl⟩:=bJ.1 hr;exact hin l ((hmem l).1 hl)
 ·refine jM hred.asc (λq hq=>?_) (hall r hr);obtain⟨l,hl,rfl⟩:=bJ.1 hq;exact dX (bJ.2 ⟨l,(hmem l).2 hl,rfl⟩)
theorem oQ{α:Type}[Inhabited α]{f:Nat->α}{n i:Nat}(h:i<n):((List.range n).map f).getD i default=f i:=by
 simp[List.getD,h]
theorem nS{α:Type}[Inhabited α]{l:List α}{x:α}(h:x∈l):∃i,i<l.length/\l.getD i default=x:=by
 obtain⟨i,hi,e⟩:=jW h;exact⟨i,hi,by simp[List.getD,hi,e]⟩
def ue(rows:List (List Int))(n c:Nat):Option Nat:=(List.range rows.length).find? λi=>decide (n<=i)&&decide ((c:Int)∈rows.getD i default)
def swI(n k i:Nat):Nat:=if i=n then k else if i=k then n else i
def swL(rows:List (List Int))(n k:Nat):List (List Int):=(List.range rows.length).map λi=>rows.getD (swI n k i) default
def elF(rows:List (List Int))(n c i:Nat):List Int:=if i≠n/\(c:Int)∈rows.getD i default then bP (rows.getD i default) (rows.getD n default) else rows.getD i default
def elL(rows:List (List Int))(n c:Nat):List (List Int):=(List.range rows.length).map (elF rows n c)
def stR(R:List (List Int)):Nat->List (List Int)×Nat
 |0=>(R,0)
 |c+1=>match ue (stR R c).1 (stR R c).2 c with
  |none=>stR R c
  |some k=>(elL (swL (stR R c).1 (stR R c).2 k) (stR R c).2 c,(stR R c).2+1)
structure RdOk(R rows:List (List Int))(n c:Nat):Prop where
 asc:∀i,i<R.length->bt (rows.getD i default)
 len:rows.length=R.length
 nle:n<=R.length
 sp:∀v,Sp rows v↔Sp R v
 top:∀i,i<n->rows.getD i default≠[]/\ld (rows.getD i default)<c
 own:∀i,i<n->∀j,j<R.length->ld (rows.getD i default)∈rows.getD j default->j=i
 ord:∀i j,i<j->j<n->ld (rows.getD i default)<ld (rows.getD j default)
 low:∀i,n<=i->i<R.length->∀z∈rows.getD i default,(c:Int)<=z
theorem ol{n k i N:Nat}(hn:n<N)(hk:k<N)(hi:i<N):swI n k i<N:=by
 unfold swI;split
 ·exact hk
 ·split
  ·exact hn
  ·exact hi
theorem yp{n k i:Nat}:swI n k (swI n k i)=i:=by
 unfold swI;by_cases h1:i=n
 ·subst h1;rw[if_pos rfl];by_cases h2:k=i
  ·rw[if_pos h2];exact h2
  ·rw[if_neg h2,if_pos rfl]
 ·rw[if_neg h1];by_cases h2:i=k
  ·rw[if_pos h2,if_pos rfl];exact h2.symm
  ·rw[if_neg h2,if_neg h1,if_neg h2]
theorem HV{rows:List (List Int)}{N:Nat}(hl:rows.length=N)(h:∀i,i<N->bt (rows.getD i default)):∀r∈rows,bt r:=λr hr=>by
 obtain⟨i,hi,e⟩:=nS hr;rw[<-e];exact h i (by omega)
theorem IJ{rows:List (List Int)}{n k:Nat}(hn:n<rows.length)(hk:k<rows.length)(v:List Int):Sp (swL rows n k) v↔Sp rows v:=by
 constructor
 ·refine jY λr hr=>?_;obtain⟨i,hi,rfl⟩:=bJ.1 hr;exact ay (ol hn hk (ef.1 hi))
 ·refine jY λr hr=>?_;obtain⟨i,hi,rfl⟩:=nS hr;refine bJ.2 ⟨swI n k i,ef.2 (ol hn hk hi),?_⟩;rw[yp]
theorem JA{rows:List (List Int)}{n c:Nat}(ha:∀i,i<rows.length->bt (rows.getD i default))(hn:n<rows.length)(v:List Int):Sp (elL rows n c) v↔Sp rows v:=by
 have hE:∀i,i<rows.length->bt (elF rows n c i):=λi hi=>by
  unfold elF;split
  ·exact ed (ha i hi) (ha n hn)
  ·exact ha i hi
 have hEa:∀r∈elL rows n c,bt r:=λr hr=>by
  obtain⟨i,hi,rfl⟩:=bJ.1 hr;exact hE i (ef.1 hi)
 have hRa:=HV rfl ha;have hin:∀i,i<rows.length->elF rows n c i∈elL rows n c:=λi hi=>bJ.2 ⟨i,ef.2 hi,rfl⟩
 have hpn:Sp (elL rows n c) (rows.getD n default):=by
  have h:=dX (hin n hn);unfold elF at h
  rwa [if_neg (λq=>q.1 rfl)] at h
 constructor
 ·refine jM hRa λr hr=>?_;obtain⟨i,hi,rfl⟩:=bJ.1 hr;have hi:=ef.1 hi;unfold elF;split
  ·exact jX hRa (dX (ay hi)) (dX (ay hn))
  ·exact dX (ay hi)
 ·refine jM hEa λr hr=>?_;obtain⟨i,hi,rfl⟩:=nS hr;have h:=dX (hin i hi);unfold elF at h;split at h
  ·have h2:=jX hEa h hpn
   rwa [<-eI (ha i hi) (ha n hn) (ha n hn),fx (ha n hn),fG] at h2
  ·exact h
theorem FZ{R:List (List Int)}(hR:∀r∈R,bt r)(hv:∀r∈R,∀z∈r,(0:Int)<=z):∀{c:Nat},RdOk R (stR R c).1 (stR R c).2 c
 |0=>⟨λi hi=>hR _ (ay hi),rfl,bz _,λ_=>Iff.rfl,λi h=>absurd h (Nat.not_lt_zero _),λi h=>absurd h (Nat.not_lt_zero _),λi j _ h=>absurd h (Nat.not_lt_zero _),λi _ hi z hz=>hv _ (ay hi) z hz⟩
 |c+1=>by
  have ih:=FZ hR hv (c:=c);unfold stR;generalize e1:(stR R c).1=rows at *;generalize e2:(stR R c).2=n at *;obtain⟨i1,i2,i3,i4,i5,i6,i7,i8⟩:=ih;cases hp:ue rows n c with
  |none=>
   show RdOk R (stR R c).1 (stR R c).2 (c+1);rw[e1,e2];refine⟨i1,i2,i3,i4,λi hi=>⟨(i5 i hi).1,by have:=(i5 i hi).2;omega⟩,i6,i7,λi h1 h2 z hz=>?_⟩;have h3:=i8 i h1 h2 z hz;have h4:=List.find?_eq_none.1 hp i (ef.2 (by omega));have h5:z≠(c:Int):=λe=>h4 (by rw[<-e];simp only[dP,gj];exact⟨h1,hz⟩);omega
  |some k=>
   show RdOk R (elL (swL rows n k) n c) (n+1) (c+1);have k1:=ef.1 (List.mem_of_find?_eq_some hp)
   have k2:n<=k/\(c:Int)∈rows.getD k default:=by
    have:=List.find?_some hp;simpa only[dP,gj] using this
   obtain⟨k3,k4⟩:=k2;have hkN:k<R.length:=by omega
   have hnN:n<R.length:=by omega
   have sl:(swL rows n k).length=R.length:=by unfold swL;rw[bk,List.length_range,i2]
   have gs:∀i,i<R.length->(swL rows n k).getD i default=rows.getD (swI n k i) default:=λi hi=>oQ (by omega)
   have gp:(swL rows n k).getD n default=rows.getD k default:=by
    rw[gs n hnN];unfold swI;rw[if_pos rfl]
   have ge:∀i,i<R.length->(elL (swL rows n k) n c).getD i default=elF (swL rows n k) n c i:=λi hi=>oQ (by omega)
   have gn:(elL (swL rows n k) n c).getD n default=rows.getD k default:=by
    rw[ge n hnN];unfold elF;rw[if_neg (λq=>q.1 rfl),gp]
   have gi:∀i,i<R.length->i≠n->(elL (swL rows n k) n c).getD i default=if (c:Int)∈rows.getD (swI n k i) default then bP (rows.getD (swI n k i) default) (rows.getD k default) else rows.getD (swI n k i) default:=λi hi hn=>by
    rw[ge i hi];unfold elF;rw[gs i hi,gp];by_cases h:(c:Int)∈rows.getD (swI n k i) default
    ·rw[if_pos ⟨hn,h⟩,if_pos h]
    ·rw[if_neg (λq=>h q.2),if_neg h]
   have hpa:=i1 k hkN;have hpl:=i8 k k3 hkN;have hsa:∀i,i<R.length->bt (rows.getD (swI n k i) default):=λi hi=>i1 _ (ol hnN hkN hi);have hld:ld (rows.getD k default)=c:=Int.le_antisymm (nK hpa k4) (hpl _ (dj (λe=>by rw[e] at k4;cases k4)));have hpne:rows.getD k default≠[]:=λe=>by rw[e] at k4;cases k4
   have hsw:∀i,i<n->swI n k i=i:=λi hi=>by unfold swI;rw[if_neg (by omega),if_neg (by omega)]
   have hnp:∀i,i<n->ld (rows.getD i default)∉rows.getD k default:=λi hi h=>by have:=i6 i hi k hkN h;omega
   have hsw2:∀v,Sp (swL rows n k) v↔Sp rows v:=λv=>IJ (by omega) (by omega) v;have hda:∀i,i<(swL rows n k).length->bt ((swL rows n k).getD i default):=λi hi=>by rw[gs i (by omega)];exact hsa i (by omega)
   have hmem:∀j,j<R.length->j≠n->∀z,z∈(elL (swL rows n k) n c).getD j default->z∉rows.getD k default->z∈rows.getD (swI n k j) default:=λj hj hn z hz hzp=>by
    rw[gi j hj hn] at hz;split at hz
    ·rcases(dl (hsa j hj) hpa).1 hz with q|q
     ·exact q.1
     ·exact absurd q.1 hzp
    ·exact hz
   have hlow:∀j,j<R.length->j≠n->(c:Int)∉(elL (swL rows n k) n c).getD j default:=λj hj hn hz=>by
    rw[gi j hj hn] at hz;split at hz
    ·rename_i h;rcases(dl (hsa j hj) hpa).1 hz with q|q
     ·exact q.2 k4
     ·exact q.2 h
    ·rename_i h;exact h hz
   have htop:∀i,i<n->ld ((elL (swL rows n k) n c).getD i default)=ld (rows.getD i default)/\(elL (swL rows n k) n c).getD i default≠[]:=λi hi=>by
    obtain⟨t1,t2⟩:=i5 i hi;rw[gi i (by omega) (by omega),hsw i hi];split
    ·have hm:ld (rows.getD i default)∈bP (rows.getD i default) (rows.getD k default):=(dl (i1 i (by omega)) hpa).2 (.inl ⟨dj t1,hnp i hi⟩);have hne:bP (rows.getD i default) (rows.getD k default)≠[]:=λe=>by rw[e] at hm;cases hm
     refine⟨Int.le_antisymm (nK (ed (i1 i (by omega)) hpa) hm) ?_,hne⟩;rcases(dl (i1 i (by omega)) hpa).1 (dj hne) with q|q
     ·exact nK (i1 i (by omega)) q.1
     ·have:=hpl _ q.1;omega
    ·exact⟨rfl,t1⟩
   refine⟨λi hi=>?_,?_,by omega,λv=>?_,λi hi=>?_,λi hi j hj h=>?_,λi j hij hj=>?_,λi h1 h2 z hz=>?_⟩
   ·rw[ge i hi];unfold elF;split
    ·exact ed (hda i (by omega)) (hda n (by omega))
    ·exact hda i (by omega)
   ·unfold elL;rw[bk,List.length_range,sl]
   ·rw[JA hda (by omega),hsw2,i4]
   ·by_cases hin:i=n
    ·subst hin;rw[gn,hld];exact⟨hpne,by omega⟩
    ·obtain⟨t1,t2⟩:=htop i (by omega);rw[t1];have:=(i5 i (by omega)).2;exact⟨t2,by omega⟩
   ·by_cases hin:i=n
    ·subst hin;rw[gn,hld] at h;exact Decidable.byContradiction λhne=>hlow j hj hne h
    ·have hi':i<n:=by omega
     rw[(htop i hi').1] at h;by_cases hjn:j=n
     ·subst hjn;rw[gn] at h;exact absurd h (hnp i hi')
     ·have h3:=i6 i hi' _ (ol hnN hkN hj) (hmem j hj hjn _ h (hnp i hi'));have h4:=congrArg (swI n k) h3;rw[yp,hsw i hi'] at h4;exact h4
   ·by_cases hjn:j=n
    ·subst hjn;rw[gn,hld,(htop i hij).1];exact(i5 i hij).2
    ·rw[(htop i (by omega)).1,(htop j (by omega)).1];exact i7 i j hij (by omega)
   ·have hz2:z≠(c:Int):=λe=>hlow i h2 (by omega) (e▸hz);have hs:n<=swI n k i:=by unfold swI;split<;>(try split)<;>omega
    rw[gi i h2 (by omega)] at hz
    have hz3:(c:Int)<=z:=by
     split at hz
     ·rcases(dl (hsa i h2) hpa).1 hz with q|q
      ·exact i8 _ hs (ol hnN hkN h2) z q.1
      ·exact hpl z q.1
     ·exact i8 _ hs (ol hnN hkN h2) z hz
    omega
def wk(R:List (List Int))(c:Nat):List (List Int):=(stR R c).1.take (stR R c).2
theorem oT{R:List (List Int)}{c:Nat}(hR:∀r∈R,bt r)(hv:∀r∈R,∀z∈r,0<=z/\z<(c:Int)):wk R c=cT R c:=by
 have h:=FZ hR (λr hr z hz=>(hv r hr z hz).1) (c:=c);obtain⟨e1,e2,_⟩:=gU hR hv;unfold wk;generalize (stR R c).1=rows at *;generalize (stR R c).2=n at *;obtain⟨i1,i2,i3,i4,i5,i6,i7,i8⟩:=h;have hlt:(rows.take n).length=n:=by rw[fL];omega
 have hg:∀i,i<n->(rows.take n).getD i default=rows.getD i default:=λi hi=>by
  simp[List.getD,iT,hi]
 have hex:∀r∈rows.take n,∃i,i<n/\rows.getD i default=r:=λr hr=>by
  obtain⟨i,hi,e⟩:=nS hr;exact⟨i,by omega,by rw[<-e,hg i (by omega)]⟩
 have hsub:∀r∈R,∀z∈r,0<=z/\z<(c:Int):=hv
 have hred:Red (rows.take n):=by
  refine⟨λr hr=>?_,λr hr=>?_,λr hr q hq hl=>?_,?_⟩
  ·obtain⟨i,hi,rfl⟩:=hex r hr;exact i1 i (by omega)
  ·obtain⟨i,hi,rfl⟩:=hex r hr;exact(i5 i hi).1
  ·obtain⟨i,hi,rfl⟩:=hex r hr;obtain⟨j,hj,rfl⟩:=hex q hq;rw[i6 i hi j (by omega) hl]
  ·rw[kp];intro i j hi hj hij;have h1:=hg i (by omega);have h2:=hg j (by omega);simp only[List.getD,hi,hj,qA,sX] at h1 h2;rw[h1,h2];exact i7 i j hij (by omega)
 refine oW hred e1 λv=>?_;rw[e2,<-i4];constructor
 ·exact jY λr hr=>jx hr
 ·refine jM hred.asc λr hr=>?_;obtain⟨i,hi,e⟩:=nS hr;by_cases hin:i<n
  ·refine dX ?_;rw[<-e,<-hg i hin];exact ay (by omega)
  ·have hnil:r=[]:=by
     cases hr0:r with
     |nil=>rfl
     |cons z l=>
      have hz:z∈rows.getD i default:=by rw[e,hr0];exact dq ..
      have h1:=i8 i (by omega) (by omega) z hz;have h2:=jG hR hv ((i4 r).1 (dX hr)) z (by rw[hr0];exact dq ..);omega
   rw[hnil];exact Sp.nil
theorem qt{M:List Ln}{v:List Int}(hM:RedU M)(hv:Sp (M.map Prod.fst) v)(h:∀l∈M,ld l.1∉v):v=[]:=by
 have hn:(M.map Prod.fst).Nodup:=List.pairwise_map.2 (List.Pairwise.imp_of_mem (λ{a b} ha hb hab e=>hab (hM.own b hb a ha (by rw[e];exact dj (hM.ne b hb)))) hM.nodup);obtain⟨av,p,hp⟩:=wL (eB hM) hn hv
 have hpf:∀r∈M.map Prod.fst,¬p r=true:=λr hr hpr=>by
  obtain⟨l,hl,rfl⟩:=bJ.1 hr;have h1:=hp (ld l.1)
  rw [sN hn hr (dj (hM.ne l hl)) (fun q hq hz=>by
   obtain⟨m,hm,rfl⟩:=bJ.1 hq;rw[hM.own l hl m hm hz]),if_pos hpr] at h1
  exact h l hl (dG.1 (by omega))
 exact wu λz=>by rw[hp z,nc λq hq hpq=>absurd hpq (hpf q hq)]
def wZ(R:List (List Int))(z j:Int):Nat:=bit z (R.getD j.toNat default)
theorem uP{f:Ln->List Int}{z:Int}{p:Ln->Bool}:∀{E:List Ln},(∀l∈E,z∉f l)->kR f z p E=0
 |[],_=>rfl
 |r::E,h=>by
  unfold kR;have hb:bit z (f r)=0:=by unfold bit;rw[if_neg (h r (dq ..))]
  rw[hb,uP λl hl=>h l (eD _ hl)];split<;>rfl
theorem xy{R:List (List Int)}(hR:∀r∈R,bt r){i:Nat}(hi:i<=R.length):∀{w:List Int},(∀j∈w,0<=j/\j<(i:Int))->∃v,Sp (R.take i) v/\∀z,bit z v=cK (wZ R z) w%2
 |[],_=>⟨[],Sp.nil,λz=>ng⟩
 |j::w,h=>by
  obtain⟨v,h1,h2⟩:=xy hR hi (w:=w) λk hk=>h k (eD _ hk);have hj:=h j (dq ..);have hT:∀r∈R.take i,bt r:=λr hr=>hR r (jx hr)
  have hm:R.getD j.toNat default∈R.take i:=by
   have hk:j.toNat<(R.take i).length:=by rw[fL];omega
   have:=ay hk
   rwa [show(R.take i).getD j.toNat default=R.getD j.toNat default by simp[List.getD,iT,show j.toNat<i by omega]] at this
  refine⟨_,Sp.add h1 hm,λz=>?_⟩;rw[dZ (mD hT h1) (hT _ hm),h2];show _=(bit z (R.getD j.toNat default)+cK (wZ R z) w)%2;omega
theorem yy{R:List (List Int)}(hR:∀r∈R,bt r):∀{i:Nat},i<=R.length->∀{y:List Int},bt y->(∀j∈y,0<=j/\j<(i:Int))->(∀z,cK (wZ R z) y%2=0)->Sp (stE R i).2 y
 |0,_,y,_,hr,_=>by
  cases y with
  |nil=>exact Sp.nil
  |cons j l=>have:=hr j (dq ..);omega
 |i+1,hi,y,hy,hr,h0=>by
  have ih:=λ{y}=>yy hR (i:=i) (by omega) (y:=y);have hs:=gv hR (i:=i) (by omega);have hx:cq (R.getD i default,[(i:Int)]):=⟨hR _ (ay (by omega)),List.pairwise_singleton ..⟩
  have hya:cq (en (stE R i).1 (R.getD i default,[(i:Int)])):=gZ hs.red.asc hx;have hyn:=λl hl=>kq hs.red hx (l:=l) hl;have hysp:Sp ((stE R i).1.map Prod.fst) (bP (R.getD i default) (en (stE R i).1 (R.getD i default,[(i:Int)])).1):=ub (eB hs.red) (λl hl=>⟨hs.red.asc l hl,bJ.2 ⟨l,hl,rfl⟩⟩) hx
  have hxo:lL R (i + 1) (R.getD i default,[(i:Int)]):=⟨fun z=>by
   have:=gQ (z:=z) (a:=R.getD i default);show bit z (R.getD i default)=(bit z (R.getD ((i:Nat):Int).toNat default)+0)%2;rw[bN];omega,λj hj=>by rw[c6.1 hj];omega⟩
  have hyo:lL R (i+1) (en (stE R i).1 (R.getD i default,[(i:Int)])):=rO (λl hl=>⟨hs.red.asc l hl,(hs.ok l hl).mono (by omega)⟩) hx hxo
  have hbi:bit (i:Int) (en (stE R i).1 (R.getD i default,[(i:Int)])).2=1:=by
   unfold en;rw[lY hs.red.asc hx,uP λl hl h=>by have:=(hs.ok l hl).2 _ h;omega];show(bit (i:Int) [(i:Int)]+0)%2=1;rw[dG.2 (c6.2 rfl)]
  have ha:∀r∈(stE R i).2,bt r:=λr hr=>(hs.dep r hr).1.2;by_cases hiy:(i:Int)∈y
  ·have hone:bt [(i:Int)]:=List.pairwise_singleton ..;by_cases hd:(en (stE R i).1 (R.getD i default,[(i:Int)])).1=[]
   ·have hst:(stE R (i+1)).2=(stE R i).2++[(en (stE R i).1 (R.getD i default,[(i:Int)])).2]:=by
      show(if _ then _ else _:List Ln×List (List Int)).2=_;rw[if_pos hd]
    rw[hst];obtain⟨hy1,hy2⟩:=hyo;rw[hd] at hy1;have hxa:=hya.2;generalize (en (stE R i).1 (R.getD i default,[(i:Int)])).2=x at *
    have h1:Sp (stE R i).2 (bP y x):=ih (ed hy hxa) (fun j hj=>by
     have hne:j≠(i:Int):=λe=>by
      rw[e] at hj;have hb:=dG.2 hj;rw[dZ hy hxa,hbi,dG.2 hiy] at hb;cases hb
     rcases(dl hy hxa).1 hj with q|q
     ·have:=hr j q.1;omega
     ·have:=hy2 j q.1;omega) (λz=>by
     rw[ig _ _ _ (aN _)];have e1:=h0 z;have e2:bit z []=cK (wZ R z) x%2:=hy1 z;rw[ng] at e2;omega)
    have hm:x∈(stE R i).2++[x]:=lQ _ (c6.2 rfl);have h2:=Sp.add (jY (λr hr=>mA [x] hr) h1) hm
    rwa [<-eI hy hxa hxa,fx hxa,fG] at h2
   ·exfalso;refine hd (qt hs.red ?_ hyn)
    have hw:∀j∈bP y [(i:Int)],0<=j/\j<(i:Int):=λj hj=>by
     rcases(dl hy hone).1 hj with q|q
     ·have h1:=hr j q.1;have h2:j≠(i:Int):=λe=>q.2 (c6.2 e);omega
     ·exact absurd (c6.1 q.1▸hiy) q.2
    obtain⟨v,v1,v2⟩:=xy hR (i:=i) (by omega) hw;have hT:∀r∈R.take i,bt r:=λr hr=>hR r (jx hr)
    have hv:v=R.getD i default:=jJ (mD hT v1) hx.1 λz=>by
     rw[v2,ig _ _ _ (aN _)];have e1:=h0 z;have e2:=gQ (z:=z) (a:=R.getD i default);show(cK (wZ R z) y+(bit z (R.getD ((i:Nat):Int).toNat default)+0))%2=_;rw[bN];omega
    rw[hv] at v1;have h3:=jM (eB hs.red) hs.all v1;have h4:=jX (eB hs.red) h3 hysp
    rwa [eI hx.1 hx.1 hya.1,fx hx.1,gR] at h4
  ·refine jY (fun r hr=>?_) (ih hy (fun j hj=>by
     have h1:=hr j hj;have h2:j≠(i:Int):=λe=>hiy (e▸hj);omega) h0)
   show r∈(if _ then _ else _:List Ln×List (List Int)).2;split
   ·exact mA _ hr
   ·exact hr
def ro(b y:List Int):Bool:=decide (cK (λj=>bit j b) y%2=1)
def wdR(R:List (List Int))(c:Nat)(b:List Int)(i:Nat):List Int:=if (i:Int)∈b then R.getD i default++[(c:Int)] else R.getD i default
def lF(R:List (List Int))(c:Nat)(b:List Int):List (List Int):=(List.range R.length).map (wdR R c b)
def wdL(c:Nat)(b:List Int)(l:Ln):List Int:=if ro b l.2=true then l.1++[(c:Int)] else l.1
theorem Bw{a:List Int}{c:Nat}{t:Bool}(hc:∀z∈a,z<(c:Int))(z:Int):bit z (if t=true then a++[(c:Int)] else a)=if z=c then(if t=true then 1 else 0) else bit z a:=by
 unfold bit;by_cases hz:z=c
 ·have:z∉a:=λh=>by have:=hc z h;omega
  cases t<;>simp[hz,this]
  ·exact λh=>by have:=hc _ h;omega
 ·cases t<;>simp[hz]
theorem Bu{a:List Int}{c:Nat}{t:Bool}(ha:bt a)(hc:∀z∈a,z<(c:Int)):bt (if t=true then a++[(c:Int)] else a):=by
 cases t
 ·simpa using ha
 ·rw[if_pos rfl];exact List.pairwise_append.2 ⟨ha,List.pairwise_singleton ..,λx hx y hy=>by rw[c6.1 hy];exact hc x hx⟩
theorem lh{g h:Int->Nat}:∀{l:List Int},(∀x∈l,g x=h x)->cK g l=cK h l
 |[],_=>rfl
 |x::l,e=>by
  unfold cK;rw[e x (dq ..),lh λy hy=>e y (eD _ hy)]
theorem Cg{g:Int->Nat}{D:List (List Int)}{y:List Int}(h:Sp D y)(h0:∀d∈D,cK g d%2=0):cK g y%2=0:=by
 induction h with
 |nil=>rfl
 |add h1 h2 ih=>rw[ig _ _ _ (aN _)];have:=h0 _ h2;omega
theorem zL{g:Int->Nat}{p:Ln->Bool}:∀{M:List Ln}{x:Ln},cK g (rdL M p x).2%2=(cK g x.2+(M.map λl=>if p l=true then cK g l.2%2 else 0).sum)%2
 |[],x=>by show cK g x.2%2=(cK g x.2+0)%2;rfl
 |l::M,x=>by
  have ih:=zL (g:=g) (p:=p) (M:=M) (x:=if p l=true then ea x l else x);show cK g (rdL M p (if p l=true then ea x l else x)).2%2=(cK g x.2+((if p l=true then cK g l.2%2 else 0)+(M.map λl=>if p l=true then cK g l.2%2 else 0).sum))%2;rw[ih];clear ih;by_cases h:p l=true
  ·rw[if_pos h,if_pos h];have:=ig (g:=g) _ x.2 l.2 (aN _);show(cK g (bP x.2 l.2)+_)%2=_;omega
  ·rw[if_neg h,if_neg h];omega
theorem BM{f:Ln->List Int}{p:Ln->Bool}{S:List (List Int)}(hS:∀r∈S,bt r):∀{E:List Ln},(∀l∈E,f l∈S)->∃v,Sp S v/\∀z,bit z v=(E.map λl=>if p l=true then bit z (f l) else 0).sum%2
 |[],_=>⟨[],Sp.nil,λz=>ng⟩
 |l::E,h=>by
  obtain⟨v,v1,v2⟩:=BM (f:=f) (p:=p) hS (E:=E) λm hm=>h m (eD _ hm);have hl:=h l (dq ..);by_cases hp:p l=true
  ·refine⟨_,Sp.add v1 hl,λz=>?_⟩;rw[dZ (mD hS v1) (hS _ hl),v2];show _=((if p l=true then bit z (f l) else 0)+(E.map λl=>if p l=true then bit z (f l) else 0).sum)%2;rw[if_pos hp];omega
  ·refine⟨v,v1,λz=>?_⟩;rw[v2];show _=((if p l=true then bit z (f l) else 0)+(E.map λl=>if p l=true then bit z (f l) else 0).sum)%2;rw[if_neg hp,bS]
theorem yi{f:Ln->List Int}{z:Int}{p:Ln->Bool}:∀{E:List Ln},(E.map λl=>if p l=true then bit z (f l) else 0).sum=kR f z p E
 |[]=>rfl
 |l::E=>by
  show(if p l=true then bit z (f l) else 0)+(E.map λl=>if p l=true then bit z (f l) else 0).sum=_;rw[yi];rfl
theorem zo{R:List (List Int)}{c:Nat}{b:List Int}{i:Nat}(h:i<R.length):(lF R c b).getD i default=wdR R c b i:=oQ h
theorem n4{R:List (List Int)}{c:Nat}{b:List Int}(hR:∀r∈R,bt r)(hv:∀r∈R,∀z∈r,0<=z/\z<(c:Int)):
    (∀r∈lF R c b,bt r)/\(∀r∈lF R c b,∀z∈r,0<=z/\z<((c+1:Nat):Int))/\∀i,i<R.length->∀z,bit z ((lF R c b).getD i default)=if z=c then bit (i:Int) b else bit z (R.getD i default):=by
 have hw:∀i,wdR R c b i=if decide ((i:Int)∈b)=true then R.getD i default++[(c:Int)] else R.getD i default:=λi=>by
  unfold wdR;by_cases h:(i:Int)∈b<;>simp[h]
 refine⟨λr hr=>?_,λr hr z hz=>?_,λi hi z=>?_⟩
 ·obtain⟨i,hi,rfl⟩:=bJ.1 hr;have hi:=ef.1 hi;rw[hw];exact Bu (hR _ (ay hi)) λz hz=>(hv _ (ay hi) z hz).2
 ·obtain⟨i,hi,rfl⟩:=bJ.1 hr;have hi:=ef.1 hi;have hvi:=hv _ (ay hi);unfold wdR at hz;split at hz
  ·rcases ee.1 hz with h|h
   ·have:=hvi z h;omega
   ·rw[c6.1 h];omega
  ·have:=hvi z hz;omega
 ·rw[zo hi,hw,Bw (λz hz=>(hv _ (ay hi) z hz).2)];by_cases h:z=c
  ·rw[if_pos h,if_pos h];by_cases hb:(i:Int)∈b<;>simp[hb,bit]
  ·rw[if_neg h,if_neg h]
theorem Du{R:List (List Int)}{c:Nat}{b:List Int}(hR:∀r∈R,bt r)(hv:∀r∈R,∀z∈r,0<=z/\z<(c:Int)){y:List Int}(hy:∀j∈y,0<=j/\j<(R.length:Int))(z:Int):
    cK (wZ (lF R c b) z) y=if z=c then cK (λj=>bit j b) y else cK (wZ R z) y:=by
 obtain⟨_,_,h3⟩:=n4 (b:=b) hR hv;by_cases h:z=c
 ·rw[if_pos h];refine lh λj hj=>?_;have:=hy j hj;unfold wZ;rw[h3 j.toNat (by omega),if_pos h,show((j.toNat:Nat):Int)=j by omega]
 ·rw[if_neg h];refine lh λj hj=>?_;have:=hy j hj;unfold wZ;rw[h3 j.toNat (by omega),if_neg h]
theorem CK{R:List (List Int)}{c:Nat}{b:List Int}(hR:∀r∈R,bt r)(hv:∀r∈R,∀z∈r,0<=z/\z<(c:Int))(h0:∀y∈(stE R R.length).2,ro b y=false):wk (lF R c b) (c+1)=(lw R c).map (wdL c b):=by
 obtain⟨h1,h2,h3⟩:=n4 (b:=b) hR hv;have hs:=gv hR (aN R.length);obtain⟨e1,e2,_⟩:=gU h1 h2;obtain⟨d1,d2,d3⟩:=gU hR hv;rw[oT h1 h2];have hl:(lF R c b).length=R.length:=by unfold lF;simp
 have hlv:∀l∈(stE R R.length).1,∀z∈l.1,0<=z/\z<(c:Int):=λl hl=>jG hR hv (jY (λr hr=>jx hr) (hs.inS l hl))
 have hbw:∀l∈(stE R R.length).1,∀z,bit z (wdL c b l)=if z=c then cK (λj=>bit j b) l.2%2 else bit z l.1:=λl hl z=>by
  unfold wdL;rw[Bw λz hz=>(hlv l hl z hz).2];by_cases h:z=c
  ·rw[if_pos h,if_pos h];unfold ro;by_cases ho:cK (λj=>bit j b) l.2%2=1
   ·simp[ho]
   ·simp[ho];omega
  ·rw[if_neg h,if_neg h]
 have hwa:∀l∈(stE R R.length).1,bt (wdL c b l):=λl hl=>Bu (hs.red.asc l hl).1 λz hz=>(hlv l hl z hz).2
 have hldw:∀l∈(stE R R.length).1,ld (wdL c b l)=ld l.1:=λl hl=>by
  have hne:=hs.red.ne l hl;unfold wdL;split
  ·cases hq:l.1 with
   |nil=>exact absurd hq hne
   |cons x t=>rfl
  ·rfl
 have hF:Red ((lw R c).map (wdL c b)):=by
  refine⟨λr hr=>?_,λr hr=>?_,λr hr q hq h=>?_,?_⟩
  ·obtain⟨l,hl,rfl⟩:=bJ.1 hr;exact hwa l ((d3 l).1 hl)
  ·obtain⟨l,hl,rfl⟩:=bJ.1 hr;have hne:=hs.red.ne l ((d3 l).1 hl);unfold wdL;split
   ·simp
   ·exact hne
  ·obtain⟨l,hl,rfl⟩:=bJ.1 hr;obtain⟨m,hm,rfl⟩:=bJ.1 hq;have hl:=(d3 l).1 hl;have hm:=(d3 m).1 hm;rw[hldw l hl] at h;have h4:=dG.2 h;have h5:=hlv l hl _ (dj (hs.red.ne l hl));rw[hbw m hm,if_neg (by omega)] at h4;rw[hs.red.own l hl m hm (dG.1 h4)]
  ·rw[List.pairwise_map];refine List.Pairwise.imp_of_mem (λ{x y} hx hy h=>?_) (lU hs.red (c:=c));rw[hldw x ((d3 x).1 hx),hldw y ((d3 y).1 hy)];exact h
 refine oW e1 hF λv=>?_;rw[e2];have hTk:∀r∈(lF R c b).take R.length,bt r:=λr hr=>h1 r (jx hr);constructor
 ·refine jM hF.asc λr hr=>?_;obtain⟨i,hi,e⟩:=nS hr;have hiR:i<R.length:=by omega
  have hx:cq (R.getD i default,[(i:Int)]):=⟨hR _ (ay hiR),List.pairwise_singleton ..⟩
  have hxo:lL R R.length (R.getD i default,[(i:Int)]):=⟨fun z=>by
   have:=gQ (z:=z) (a:=R.getD i default);show bit z (R.getD i default)=(bit z (R.getD ((i:Nat):Int).toNat default)+0)%2;rw[bN];omega,λj hj=>by rw[c6.1 hj];omega⟩
  have hya:=gZ (p:=e6 (R.getD i default,[(i:Int)])) hs.red.asc hx;have hyo:=rO (p:=e6 (R.getD i default,[(i:Int)])) (λl hl=>⟨hs.red.asc l hl,hs.ok l hl⟩) hx hxo;have hysp:=ub (p:=e6 (R.getD i default,[(i:Int)])) (eB hs.red) (λl hl=>⟨hs.red.asc l hl,bJ.2 ⟨l,hl,rfl⟩⟩) hx;have hyn:=λl hl=>kq hs.red hx (l:=l) hl;have hb1:=λz=>kA (p:=e6 (R.getD i default,[(i:Int)])) (z:=z) hs.red.asc hx;have hg:=zL (g:=λj=>bit j b) (p:=e6 (R.getD i default,[(i:Int)])) (M:=(stE R R.length).1) (x:=(R.getD i default,[(i:Int)]));unfold en at hyn;generalize hpp:e6 (R.getD i default,[(i:Int)])=p at *;have hRi:Sp ((stE R R.length).1.map Prod.fst) (R.getD i default):=hs.all _ (by rw[List.take_length];exact ay hiR)
  have hnil:(rdL (stE R R.length).1 p (R.getD i default,[(i:Int)])).1=[]:=by
   refine qt hs.red ?_ hyn;have h4:=jX (eB hs.red) hRi hysp
   rwa [eI hx.1 hx.1 hya.1,fx hx.1,gR] at h4
  obtain⟨q1,q2⟩:=hyo;rw[hnil] at q1
  have hdep:=yy hR (aN R.length) hya.2 q2 λz=>by
   have:=q1 z;rw[ng] at this;exact this.symm
  have hev:=Cg (g:=λj=>bit j b) hdep λd hd=>by
   have:=h0 d hd;unfold ro at this;have:=of_decide_eq_false this;omega
  obtain⟨u,u1,u2⟩:=BM (f:=wdL c b) (p:=p) hF.asc (E:=(stE R R.length).1) λl hl=>bJ.2 ⟨l,(d3 l).2 hl,rfl⟩
  have hur:u=r:=by
   refine jJ (mD hF.asc u1) (h1 r hr) λz=>?_;rw[<-e,h3 i hiR,u2];by_cases h:z=c
   ·rw[if_pos h,h]
    have hm:((stE R R.length).1.map λl=>if p l=true then bit (c:Int) (wdL c b l) else 0)=(stE R R.length).1.map λl=>if p l=true then cK (λj=>bit j b) l.2%2 else 0:=
     uB λl hl=>by rw[hbw l hl,if_pos rfl]
    rw[hm];rw[hev] at hg;have hone:cK (λj=>bit j b) [(i:Int)]=bit (i:Int) b+0:=rfl;have hlt:=gQ (z:=(i:Int)) (a:=b);change 0=(cK (λj=>bit j b) [(i:Int)]+_)%2 at hg;rw[hone] at hg;omega
   ·rw[if_neg h]
    have hm:((stE R R.length).1.map λl=>if p l=true then bit z (wdL c b l) else 0)=(stE R R.length).1.map λl=>if p l=true then bit z l.1 else 0:=
     uB λl hl=>by rw[hbw l hl,if_neg h]
    rw[hm,yi (f:=Prod.fst)];have h5:=hb1 z;rw[hnil,ng] at h5;have hlt:=gQ (z:=z) (a:=R.getD i default);change 0=(bit z (R.getD i default)+_)%2 at h5;omega
  rw[<-hur];exact u1
 ·refine jM h1 λr hr=>?_;obtain⟨l,hl,rfl⟩:=bJ.1 hr;have hl:=(d3 l).1 hl;obtain⟨k1,k2⟩:=hs.ok l hl;obtain⟨v,v1,v2⟩:=xy h1 (i:=R.length) (by omega) k2
  have:v=wdL c b l:=jJ (mD hTk v1) (hwa l hl) λz=>by
   rw[v2,Du hR hv k2,hbw l hl];by_cases h:z=c
   ·rw[if_pos h,if_pos h]
   ·rw[if_neg h,if_neg h];exact(k1 z).symm
  rw[<-this];exact jY (λr hr=>jx hr) v1
section
variable{α:Type}{K:α->α->Int}
def wq(K:α->α->Int):Nat->List α->List α->List α
 |0,_,_=>[]
 |_+1,[],b=>b
 |_+1,x::a,[]=>x::a
 |n+1,x::a,y::b=>if K x y<0 then x::wq K n a (y::b) else if K y x<0 then y::wq K n (x::a) b else wq K n a b
def lJ(K:α->α->Int)(a b:List α):List α:=wq K (a.length+b.length+1) a b
theorem m9:∀(n m:Nat)(a b:List α),a.length+b.length<n->a.length+b.length<m->wq K n a b=wq K m a b
 |0,_,_,_,h,_=>absurd h (by omega)
 |_+1,0,_,_,_,h=>absurd h (by omega)
 |_+1,_+1,[],b,_,_=>rfl
 |_+1,_+1,x::a,[],_,_=>rfl
 |n+1,m+1,x::a,y::b,h1,h2=>by
  simp only[bC] at h1 h2;simp only[wq];rw[m9 n m a (y::b) (by simp only[bC];omega) (by simp only[bC];omega),m9 n m (x::a) b (by simp only[bC];omega) (by simp only[bC];omega),m9 n m a b (by omega) (by omega)]
theorem Eu{b:List α}:lJ K [] b=b:=rfl
theorem EX{a:List α}:lJ K a []=a:=by cases a<;>rfl
theorem Gm{x y:α}{a b:List α}:lJ K (x::a) (y::b)=if K x y<0 then x::lJ K a (y::b) else if K y x<0 then y::lJ K (x::a) b else lJ K a b:=by
 show wq K (a.length+1+(b.length+1)+1) (x::a) (y::b)=_;simp only[wq];unfold lJ;rw[m9 (a.length+1+(b.length+1)) (a.length+(y::b).length+1) a (y::b) (by simp only[bC];omega) (by simp only[bC];omega),m9 (a.length+1+(b.length+1)) ((x::a).length+b.length+1) (x::a) b (by simp only[bC];omega) (by simp only[bC];omega),m9 (a.length+1+(b.length+1)) (a.length+b.length+1) a b (by omega) (by omega)]
theorem oB:∀(n:Nat)(a b:List α),a.length+b.length<=n->(lJ K a b).length<=a.length+b.length
 |_,[],b,_=>by rw[Eu];simp
 |_,x::a,[],_=>by rw[EX];simp
 |0,x::a,y::b,h=>by simp only[bC] at h;omega
 |n+1,x::a,y::b,h=>by
  simp only[bC] at h |-;rw[Gm];have h1:=oB n a (y::b) (by simp only[bC];omega);have h2:=oB n (x::a) b (by simp only[bC];omega);have h3:=oB n a b (by omega);simp only[bC] at h1 h2;split
  ·simp only[bC];omega
  split
  ·simp only[bC];omega
  ·omega
theorem mw(hK:LinK K):∀(n:Nat)(a b:List α),a.length+b.length<=n->cl K a->cl K b->cl K (lJ K a b)/\∀z,z∈lJ K a b↔(z∈a/\z∉b)\/(z∈b/\z∉a)
 |_,[],b,_,_,hb=>by rw[Eu];exact⟨hb,λz=>by simp⟩
 |_,x::a,[],_,ha,_=>by rw[EX];exact⟨ha,λz=>by simp⟩
 |0,x::a,y::b,h,_,_=>by simp only[bC] at h;omega
 |n+1,x::a,y::b,h,ha,hb=>by
  simp only[bC] at h;obtain⟨a1,a2⟩:=ie.1 ha;obtain⟨b1,b2⟩:=ie.1 hb;have irr:=λv=>hK.ord.irr v;rw[Gm];by_cases g1:K x y<0
  ·rw[if_pos g1];obtain⟨h1,h2⟩:=mw hK n a (y::b) (by simp only[bC];omega) a2 hb
   have hxb:∀z∈y::b,K x z<0:=λz hz=>by
    rcases c9.1 hz with rfl|hz
    ·exact g1
    ·exact hK.trans g1 (b1 z hz)
   refine⟨ie.2 ⟨λz hz=>?_,h1⟩,λz=>?_⟩
   ·rcases(h2 z).1 hz with⟨q,_⟩|⟨q,_⟩
    ·exact a1 z q
    ·exact hxb z q
   ·rw[c9,h2,c9 (a:=z) (b:=x)];by_cases hz:z=x
    ·subst hz;have:z∉y::b:=λq=>irr _ (hxb z q);simp[this]
    ·simp[hz]
  rw[if_neg g1];by_cases g2:K y x<0
  ·rw[if_pos g2];obtain⟨h1,h2⟩:=mw hK n (x::a) b (by simp only[bC];omega) ha b2
   have hya:∀z∈x::a,K y z<0:=λz hz=>by
    rcases c9.1 hz with rfl|hz
    ·exact g2
    ·exact hK.trans g2 (a1 z hz)
   refine⟨ie.2 ⟨λz hz=>?_,h1⟩,λz=>?_⟩
   ·rcases(h2 z).1 hz with⟨q,_⟩|⟨q,_⟩
    ·exact hya z q
    ·exact b1 z q
   ·rw[c9,h2,c9 (a:=z) (b:=y)];by_cases hz:z=y
    ·subst hz;have:z∉x::a:=λq=>irr _ (hya z q);simp[this]
    ·simp[hz]
  rw[if_neg g2]
  obtain rfl:x=y:=by
   rcases hK.tri x y with q|q|q
   ·exact absurd q g1
   ·exact q
   ·exact absurd q g2
  obtain⟨h1,h2⟩:=mw hK n a b (by omega) a2 b2;refine⟨h1,λz=>?_⟩;rw[h2];by_cases hz:z=x
  ·subst hz;have q1:z∉a:=λq=>irr _ (a1 z q);have q2:z∉b:=λq=>irr _ (b1 z q);simp[q1,q2]
  ·simp[hz]
theorem G8(hK:LinK K){a b:List α}(ha:cl K a)(hb:cl K b):cl K (lJ K a b):=(mw hK _ a b (aN _) ha hb).1
theorem GL(hK:LinK K){a b:List α}(ha:cl K a)(hb:cl K b){z:α}:z∈lJ K a b↔(z∈a/\z∉b)\/(z∈b/\z∉a):=(mw hK _ a b (aN _) ha hb).2 z
theorem GV{a b:List α}:(lJ K a b).length<=a.length+b.length:=oB _ a b (aN _)
end
def cH(s:Spx):List Spx:=if s.length<2 then [] else co s (s.length-1)
def sR(a:List Spx)(o:List Spx):List Spx:=a.foldl (λo s=>lJ bq o (cH s)) o
def cV(a:List Spx):List Spx:=sR a []
theorem tM{s:Spx}(h:cl cI s):cl bq (cH s):=by
 unfold cH;split
 ·exact cl.nil
 ·exact ml h
theorem nX{s f:Spx}:f∈cH s↔2<=s.length/\f.Sublist s/\f.length=s.length-1:=by
 unfold cH;split
 ·exact⟨λh=>(by cases h),λh=>absurd h.1 (by omega)⟩
 ·rw[eC];exact⟨λh=>⟨by omega,h⟩,λh=>h.2⟩
def n9(a:List Spx)(f:Spx):Nat:=(a.map λs=>(cH s).count f).sum
theorem vt{s:Spx}{a:List Spx}{f:Spx}:n9 (s::a) f=(cH s).count f+n9 a f:=by unfold n9;rw[fY,List.sum_cons]
theorem CE{L:List Spx}(h:cl bq L)(f:Spx):L.count f%2=1↔f∈L:=by
 by_cases hf:f∈L
 ·have h1:=List.count_pos_iff.2 hf;have h2:=List.nodup_iff_count.1 (h.nodup mG) f;exact⟨λ_=>hf,λ_=>by omega⟩
 ·rw[List.count_eq_zero_of_not_mem hf];exact⟨λh=>absurd h (by decide),λh=>absurd h hf⟩
theorem sw:∀(a o:List Spx)(c:Spx->Nat),(∀s∈a,cl cI s)->cl bq o->(∀f,f∈o↔c f%2=1)->cl bq (sR a o)/\∀f,f∈sR a o↔(c f+n9 a f)%2=1
 |[],o,c,_,ho,hc=>⟨ho,λf=>by show f∈o↔_;rw[hc];rfl⟩
 |s::a,o,c,hs,ho,hc=>by
  have hf:=tM (hs s dq)
  obtain⟨h1,h2⟩:=sw a (lJ bq o (cH s)) (λf=>c f+(cH s).count f) (λt ht=>hs t (eD _ ht)) (G8 mG ho hf) λf=>by
   rw[GL mG ho hf,hc,<-CE hf f];omega
  refine⟨h1,λf=>?_⟩;show f∈sR a (lJ bq o (cH s))↔_;rw[h2,vt,pu]
theorem kQ{a:List Spx}(hs:∀s∈a,cl cI s):cl bq (cV a)/\∀f,f∈cV a↔n9 a f%2=1:=by
 obtain⟨h1,h2⟩:=sw a [] (λ_=>0) hs cl.nil λf=>⟨λh=>(by cases h),λh=>absurd h (by decide)⟩
 exact⟨h1,λf=>by rw[show cV a=sR a [] from rfl,h2,bS]⟩
theorem Dx{a:List Spx}(hs:∀s∈a,cl cI s):cl bq (cV a):=(kQ hs).1
theorem AX{a:List Spx}(hs:∀s∈a,cl cI s){f:Spx}(hf:f∈cV a):∃s∈a,f∈cH s:=by
 have h:=((kQ hs).2 f).1 hf;have hp:0<n9 a f:=by omega
 clear h hf hs
 induction a with
 |nil=>exact absurd hp (Nat.lt_irrefl 0)
 |cons s a ih=>
  rw[vt] at hp;by_cases h:0<(cH s).count f
  ·exact⟨s,dq,List.count_pos_iff.1 h⟩
  ·obtain⟨t,h1,h2⟩:=ih (by omega);exact⟨t,eD _ h1,h2⟩
theorem uN:∀(a o:List Spx),(∀s∈a,s.length<=8)->(sR a o).length<=o.length+a.length*70
 |[],o,_=>Nat.le_add_right _ _
 |s::a,o,h=>by
  have h1:=uN a (lJ bq o (cH s)) λt ht=>h t (eD _ ht);have h2:=GV (K:=bq) (a:=o) (b:=cH s)
  have h3:(cH s).length<=70:=by
   unfold cH;split
   ·exact bz _
   ·exact oJ (h s dq)
  show(sR a (lJ bq o (cH s))).length<=_;rw[bC];omega
theorem v6{a:List Spx}(h:∀s∈a,s.length<=8):(cV a).length<=a.length*70:=by
 have:=uN a [] h;rw[dp,bS] at this;exact this
def fc0:Spx->List Spx
 |[]=>[]
 |x::s=>s::(fc0 s).map (x:: ·)
theorem vX:∀{s:Spx},co s s.length=[s]
 |[]=>rfl
 |x::s=>by rw[bC,gP,vX,lj (by omega)];rfl
theorem y7:∀{s:Spx},s≠[]->(co s (s.length-1)).Perm (fc0 s)
 |[],h=>absurd rfl h
 |[x],_=>by show(co [x] 0).Perm _;rw[mq];exact List.Perm.refl _
 |x::y::s,_=>by
  show(co (x::y::s) (s.length+1)).Perm _;rw[gP,show s.length+1=(y::s).length from rfl,vX];have ih:=y7 (s:=y::s) (by simp);show((co (y::s) s.length).map (x:: ·)++[y::s]).Perm ((y::s)::(fc0 (y::s)).map (x:: ·));exact List.perm_append_comm.trans ((ih.map (x:: ·)).cons _)
def GD(a:List Spx)(k:Nat):Int:=if b6 (a.getD k default)≠0 then b6 (a.getD k default) else if (a.getD k default).length≠(a.getD 0 default).length then 15 else if 0<k/\0<=bq (a.getD (k-1) default) (a.getD k default) then 14 else 0
def jV(a:List Spx):Int:=if 4096<a.length then 5 else dT (GD a) a.length
theorem oh{a:List Spx}(h:jV a=0):a.length<=4096/\(∀s∈a,b6 s=0)/\cl bq a/\∀s∈a,s.length=(a.getD 0 default).length:=by
 unfold jV at h;split at h
 ·exact absurd h (by decide)
 rename_i hl;have h0:=jd h
 have hk:∀k,k<a.length->b6 (a.getD k default)=0/\(a.getD k default).length=(a.getD 0 default).length/\(0<k->bq (a.getD (k-1) default) (a.getD k default)<0):=λk hk=>by
  have q:=h0 k hk;unfold GD at q;split at q
  ·exact absurd q ‹_›
  split at q
  ·exact absurd q (by decide)
  split at q
  ·exact absurd q (by decide)
  ·rename_i q1 q2 q3;exact⟨sI q1,sI q2,λh0=>by omega⟩
 have hm:∀s∈a,∃k,k<a.length/\a.getD k default=s:=λs hs=>by
  obtain⟨k,h1,h2⟩:=jW hs;exact⟨k,h1,by simp[List.getD,h1,h2]⟩
 refine⟨by omega,λs hs=>?_,?_,λs hs=>?_⟩
 ·obtain⟨k,h1,rfl⟩:=hm s hs;exact(hk k h1).1
 ·have hchain:∀j i,i<j->j<a.length->bq (a.getD i default) (a.getD j default)<0:=λj=>by
    induction j with
    |zero=>intro i hi;omega
    |succ j ih=>
     intro i hi hj;have q:=(hk (j+1) hj).2.2 (by omega);rw[lI] at q;rcases(by omega:i<j\/i=j) with h|rfl
     ·exact mG.trans (ih i h (by omega)) q
     ·exact q
  unfold cl;rw[kp];intro i j hi hj hij;have:=hchain j i hij hj
  rwa [show a.getD i default=a[i] by simp[List.getD,hi],show a.getD j default=a[j] by simp[List.getD,hj]] at this
 ·obtain⟨k,h1,rfl⟩:=hm s hs;exact(hk k h1).2.1
theorem oG{a:List Spx}(h:∀s∈a,b6 s=0):∀s∈a,cl cI s:=λs hs=>(cA (h s hs)).2.2.1
theorem Ag{a:List Spx}{k:Nat}:GD a k=if b6 (a.getD k default)≠0 then b6 (a.getD k default) else if (a.getD k default).length≠(a.getD 0 default).length then 15 else if 0<k/\0<=bq (a.getD (k-1) default) (a.getD k default) then 14 else 0:=rfl
def cJ(l:List (List Spx)):AV:=iS 1 ao l
theorem ia(l:List (List Spx)):Dat (cJ l):=DN (λ_=>rfl) bK
instance datI_encXsss{l:List (List Spx)}:DatI (cJ l):=⟨ia l⟩
theorem nz{l:List (List Spx)}:dy (cJ l)=some (.int .i64 l.length):=lg
theorem Ll{l:List (List Spx)}{k:Nat}(h:k<l.length):eG 1 (cJ l) (.int .i64 (k:Int))=some (.iptr [ao (l.getD k default)] 0):=by
 unfold cJ;rw[mO,if_pos ⟨by omega,by omega⟩,bN];rfl
theorem Nt{l:List Spx}(h:0<l.length):eG 1 (ao l) (.int .i64 0)=some (.iptr [aD (l.getD 0 default)] 0):=eh h
abbrev ShC(a:List Spx):Prop:=Shn a/\∀s∈a,Shn s
section
variable{α:Type}[DecidableEq α]{K:α->α->Int}
theorem HG(hK:LinK K){a b:List α}(ha:cl K a)(hb:cl K b)(h:∀x∈a,x∈b):a.Sublist b:=by
 have:a=b.filter λx=>decide (x∈a):=by
  refine nj hK ha (List.Pairwise.sublist EE hb) λx=>?_;rw[il,gj];exact⟨λh'=>⟨h x h',h'⟩,And.right⟩
 rw[this];exact EE
end
section
variable{g:Vtx->Vtx}
end
def fcs(s:Spx):List Spx:=if s.length<2 then [] else fc0 s
theorem sk{s:Spx}:(fcs s).Perm (cH s):=by
 unfold fcs cH;split
 ·exact List.Perm.refl _
 ·rename_i h;exact(y7 λe=>by rw[e] at h;simp at h).symm
theorem B9{s f:Spx}:f∈fcs s↔f∈cH s:=sk.mem_iff
theorem wS:∀{s:Spx},(fc0 s).length=s.length
 |[]=>rfl
 |x::s=>by show((fc0 s).map (x:: ·)).length+1=_;rw[bk,wS];rfl
theorem BA:∀{s:Spx}{i:Nat},i<s.length->(fc0 s).getD i default=s.take i++s.drop (i+1)
 |[],_,h=>absurd h (by simp)
 |x::s,0,_=>by simp[fc0]
 |x::s,i+1,h=>by
  have hi:i<s.length:=by simpa using h
  have:=BA hi;show((s::(fc0 s).map (x:: ·)).getD (i+1) default)=_;have hl:i<(fc0 s).length:=by rw[wS];exact hi
  simp only[List.getD,AI,lV,qA hl,mf,sX,List.take_succ_cons,List.drop_succ_cons,List.cons_append] at this |-;rw[this]
theorem xB{s:Spx}(h:cl cI s):(cH s).Nodup:=(tM h).nodup mG
theorem DC{s:Spx}(h:cl cI s):(fcs s).Nodup:=sk.nodup_iff.2 (xB h)
def io(X Y:List Spx)(n i:Nat):List Nat:=(List.range n).filter λk=>decide (Y.getD i default∈cH (X.getD k default))
theorem vA{X Y:List Spx}{n i:Nat}:io X Y (n+1) i=io X Y n i++if Y.getD i default∈cH (X.getD n default) then [n] else []:=by
 unfold io;rw[List.range_succ,wh]
 congr 1
 by_cases h:Y.getD i default∈cH (X.getD n default)
 ·rw[if_pos h,A4 (by simpa using h)];rfl
 ·rw[if_neg h,A0 (by simpa using h)];rfl
theorem r8{X Y:List Spx}{n i:Nat}:(io X Y n i).length<=n:=by
 unfold io;exact fc (List.length_filter_le _ _) (by simp)
def dH(X Y:List Spx):List (List Int):=(List.range Y.length).map λi=>dJ (io X Y X.length i)
section
variable{P:Program}{T:Tm}{H:Hp}{nx:Nat}
theorem JZ{dm:DM}{K:SP}{l:List Op2}{d:Option Nat}{sz bytes:Nat}{z:List AV}{s x:Opd}{k:IntKind}{n:Int}(hd:dm2 dm T (.apz sz bytes z s x)=true)(hs:ov T s=.esl)(hx:ov T x=.int k n)(h0:0<n)(h1:n<=9223372036854775807)(h2:n.toNat*bytes<=140737488355328)
    (kk:ak P dm l (aU T d (.msl nx (n.toNat*sz) sz 0 n.toNat)) (ap H nx (bD (.agg z) n.toNat)) (nx+1) K):ak P dm (⟨d,none,.apz sz bytes z s x⟩::l) T H nx K:=by
 refine nN rfl hd ?_ kk;simp only[jy,hs,hx];rw[if_pos ⟨h0,h1,h2⟩]
end
theorem He(T:Tm)(H:Hp)(x:Opd):b5 T H (.capE x)=match ov T x with|.esl=>some (.int .i64 0)|_=>none:=rfl
theorem GU(n:Nat):(bD (.agg [.int .i64 0,.int .i64 0]) n).length=n*2:=by simp[bD,AV.cells]
theorem Jp{P:Program}{T:Tm}{H:Hp}{nx:Nat}{dm:DM}{K:SP}{l:List Op2}{d:Option Nat}{sz bytes b N len n:Nat}{s x:Opd}{v:AV}{new C:List AV}(hd:dm2 dm T (.app sz bytes s x)=true)(hs:ov T s=.msl b N sz 0 len)(hb:H b=some C)(hN:C.length=N)(hx:ov T x=v)(hsrc:fX sz H v=some (n,new))(ho:AV.ones new=true)(hnl:new.length=n*sz)(hz:0<sz)(h0:0<N)(hle:(len+n)*sz<=N)(h1:(len+n)*bytes<=140737488355328)(h2:len+n<=9223372036854775807)
    (next:∀C':List AV,C'.length=N->C'.take ((len+n)*sz)=C.take (len*sz)++new->ak P dm l (aU T d (.msl b N sz 0 (len+n))) (ap H b C') nx K):
    ak P dm (⟨d,none,.app sz bytes s x⟩::l) T H nx K:=by
 by_cases e:N=len*sz
 ·have hn:n=0:=by
    rcases uk n with h|h
    ·exact h
    ·have:len*sz+1*1<=len*sz+n*sz:=Nat.add_le_add_left (Nat.mul_le_mul h hz) _;rw[fF] at hle;omega
  subst hn;obtain rfl:new=[]:=List.eq_nil_of_length_eq_zero (by rw[hnl,xN]);refine zG hd hs hb hx hsrc ho hN e h1 h2 ?_;rw[oE] at next |-;rw[<-e];exact next _ (by rw[fp];exact hN) (by rw[fp,fp])
 ·refine AL hd hs hb hx hsrc ho hN (λ_=>e) h0 (by rw[bS];exact hle) ?_;have hlen:len*sz+new.length<=N:=by rw[hnl,<-fF];exact hle
  refine next _ ?_ ?_
  ·rw[ib (by rw[hN];omega)];exact hN
  ·simp only[br,bS];rw[Hn (by rw[cw,fL,hN,hnl,fF];omega),fI (by rw[cw,fL,hN,hnl,fF];omega)]
def gY:Nat->Spx->List Int
 |0,_=>[]
 |n+1,[]=>0::0::gY n []
 |n+1,v::l=>v.color::v.label::gY n l
theorem pC:∀{n:Nat}{s:Spx},(gY n s).length=2*n
 |0,_=>rfl
 |n+1,[]=>by show(gY n []).length+1+1=_;rw[pC];omega
 |n+1,v::l=>by show(gY n l).length+1+1=_;rw[pC];omega
theorem z8:∀{n:Nat}{s t:Spx},s.length=t.length->t.length<=n->gY n s=gY n t->s=t
 |_,[],[],_,_,_=>rfl
 |_,[],w::m,h,_,_=>absurd h (by simp)
 |_,v::l,[],h,_,_=>absurd h (by simp)
 |0,v::l,w::m,_,h,_=>absurd h (by simp)
 |n+1,v::l,w::m,hl,hm,e=>by
  obtain⟨e1,e2⟩:=List.cons.inj e;obtain⟨e2,e3⟩:=List.cons.inj e2;have:=z8 (n:=n) (by simpa using hl) (by simpa using hm) e3;rw[this,ou.2 ⟨e1,e2⟩]
abbrev z16:List AV:=[.int .i64 0,.int .i64 0,.int .i64 0,.int .i64 0,.int .i64 0,.int .i64 0,.int .i64 0,.int .i64 0,.int .i64 0,.int .i64 0,.int .i64 0,.int .i64 0,.int .i64 0,.int .i64 0,.int .i64 0,.int .i64 0]
theorem Jb:z16=(gY 8 []).map (AV.int .i64):=rfl
theorem yg:∀{n:Nat}{s:Spx},s.length<=n->cX s++((gY n []).map (AV.int .i64)).drop (s.length*2)=(gY n s).map (AV.int .i64)
 |n,[],_=>by simp[cX]
 |0,_::_,h=>absurd h (by simp)
 |n+1,v::l,h=>by
  have:=yg (n:=n) (s:=l) (by simp at h;omega);show [AV.int .i64 v.color,AV.int .i64 v.label]++cX l++_=AV.int .i64 v.color::AV.int .i64 v.label::(gY n l).map (AV.int .i64);rw[<-this,bC,show(l.length+1)*2=l.length*2+1+1 by omega];rfl
def kZ(s:Spx):K16:=⟨gY 8 s,by rw[pC]⟩
theorem D6{s t:Spx}(h:s.length=t.length)(h8:t.length<=8)(e:kZ s=kZ t):s=t:=z8 h h8 (congrArg Subtype.val e)
theorem FQ{O:List Spx}{f:Spx}{n:Nat}(hn:n<=8)(hO:∀s∈O,s.length=n)(hf:f.length=n):kZ f∈O.map kZ↔f∈O:=by
 rw[bJ];exact⟨λ⟨s,h1,h2⟩=>by rw[<-D6 (by rw[hO s h1,hf]) (by omega) h2];exact h1,λh=>⟨f,h,rfl⟩⟩
theorem EG{f:Spx}{n:Nat}(hn:n<=8)(hf:f.length=n):∀{O:List Spx},(∀s∈O,s.length=n)->(O.map kZ).idxOf (kZ f)=O.idxOf f
 |[],_=>rfl
 |g::O,hO=>by
  have ih:=EG hn hf (O:=O) λs hs=>hO s (eD _ hs);have hg:=hO g dq;rw[fY,List.idxOf_cons,List.idxOf_cons,ih]
  have e:(kZ g==kZ f)=(g==f):=by
   rw[Bool.eq_iff_iff,beq_iff_eq,beq_iff_eq];exact⟨λh=>D6 (by rw[hg,hf]) (by omega) h,λh=>by rw[h]⟩
  rw[e]
structure BOk(H:Hp)(n:Nat)(c:Spx->Nat)(O:List Spx)(bs:List Nat)(ck:Nat):Prop where
 box:H 0=some [.bmap ((O.map kZ).map eK) (O.map aD) bs ck]
 len:bs.length=O.length
 asc:bs.Pairwise (· < ·)
 below:∀s∈bs,s<ck
 nd:O.Nodup
 all:∀f∈O,f.length=n
 odd:∀f,f∈O↔c f%2=1
theorem BOk.same{H H':Hp}{n:Nat}{c c':Spx->Nat}{O:List Spx}{bs:List Nat}{ck:Nat}(h:BOk H n c O bs ck)(hs:H' 0=H 0)(hc:∀f,c' f%2=c f%2):BOk H' n c' O bs ck:=
 ⟨hs.trans h.box,h.len,h.asc,h.below,h.nd,h.all,λf=>by rw[hc];exact h.odd f⟩
theorem BOk.put{H H':Hp}{n:Nat}{c c':Spx->Nat}{O:List Spx}{bs:List Nat}{ck:Nat}{f:Spx}(h:BOk H n c O bs ck)(hf:f∉O)(hl:f.length=n)(hH:H' 0=some [.bmap ((O.map kZ).map eK++[eK (kZ f)]) (O.map aD++[aD f]) (bs++[ck]) (ck+1)])(hc:∀g,c' g=c g+if g=f then 1 else 0):BOk H' n c' (O++[f]) (bs++[ck]) (ck+1):=by
 refine⟨by rw[hH];simp,by rw[cw,cw,h.len];rfl,?_,λs hs=>?_,?_,λg hg=>?_,λg=>?_⟩
 ·exact List.pairwise_append.2 ⟨h.asc,List.pairwise_singleton _ _,λa ha b hb=>by rw[c6.1 hb];exact h.below a ha⟩
 ·rcases ee.1 hs with q|q
  ·have:=h.below s q;omega
  ·rw[c6.1 q];omega
 ·exact zB.2 ⟨h.nd,by simp,λa ha b hb e=>by rw[e,c6.1 hb] at ha;exact hf ha⟩
 ·rcases ee.1 hg with q|q
  ·exact h.all g q
  ·rw[c6.1 q];exact hl
 ·rw[ee,c6,h.odd,hc];by_cases e:g=f
  ·subst e;have:¬c g%2=1:=λq=>hf ((h.odd g).2 q);rw[if_pos rfl];exact⟨λ_=>by omega,λ_=>.inr rfl⟩
  ·rw[if_neg e];simp[e]
theorem hJ{α β:Type}{f:α->β}:∀{l:List α}{i:Nat},(l.map f).eraseIdx i=(l.eraseIdx i).map f
 |[],_=>rfl
 |a::l,0=>rfl
 |a::l,i+1=>by show f a::(l.map f).eraseIdx i=f a::(l.eraseIdx i).map f;rw[hJ]
theorem BOk.del{H H':Hp}{n:Nat}{c c':Spx->Nat}{O:List Spx}{bs:List Nat}{ck i:Nat}{f:Spx}(h:BOk H n c O bs ck)(hf:f∈O)(hi:O.idxOf f=i)(hH:H' 0=some [.bmap (((O.map kZ).map eK).eraseIdx i) ((O.map aD).eraseIdx i) (bs.eraseIdx i) ck])(hc:∀g,c' g=c g+if g=f then 1 else 0):BOk H' n c' (O.erase f) (bs.eraseIdx i) ck:=by
 have hil:i<O.length:=by rw[<-hi];exact pX.2 hf
 have he:O.erase f=O.eraseIdx i:=List.erase_eq_eraseIdx_of_idxOf hi;refine⟨?_,?_,h.asc.sublist (List.eraseIdx_sublist _ _),λs hs=>h.below s ((List.eraseIdx_sublist _ _).subset hs),h.nd.erase _,λg hg=>h.all g (List.mem_of_mem_erase hg),λg=>?_⟩
 ·rw[hH,he];rw[hJ,hJ,hJ]
 ·rw[he,List.length_eraseIdx_of_lt hil,List.length_eraseIdx_of_lt (by rw[h.len];exact hil),h.len]
 ·rw[h.nd.mem_erase_iff,h.odd,hc];by_cases e:g=f
  ·subst e;have:=(h.odd g).1 hf;rw[if_pos rfl];constructor
   ·exact λq=>absurd rfl q.1
   ·intro q;omega
  ·rw[if_neg e];simp[e]
theorem ik{α:Type}[DecidableEq α]{a b:List α}(h:a.Nodup)(hs:∀x∈a,x∈b):a.length<=b.length:=yV h hs
theorem Dt{l:List Spx}{s f:Spx}:n9 (l++[s]) f=n9 l f+(cH s).count f:=by unfold n9;simp
theorem AN{D:List Spx}{f g:Spx}{m:Nat}:m+(D++[f]).count g=m+D.count g+if g=f then 1 else 0:=by
 rw[List.count_append,List.count_singleton,pu]
 congr 2
 by_cases e:g=f
 ·subst e;simp
 ·rw[if_neg e,if_neg];simp only[beq_iff_eq];exact λh=>e h.symm
theorem vw{O:List Spx}{i:Nat}(h:i<O.length):(O.map aD).getD i .undef=aD (O.getD i default):=by simp[List.getD,h]
theorem CG{s f:Spx}(hs:b6 s=0)(hf:f∈cH s):b6 f=0:=by
 obtain⟨h1,h2,h3⟩:=nX.1 hf;obtain⟨p1,p2,p3,p4⟩:=cA hs;exact yE ⟨by omega,by omega⟩ (p3.sublist h2) λv hv=>p4 v (h2.subset hv)
theorem u0{a:List Spx}(ha:∀s∈a,b6 s=0):∀f∈cV a,b6 f=0:=λf hf=>by
 obtain⟨s,h1,h2⟩:=AX (oG ha) hf;exact CG (ha s h1) h2
theorem E6{a:List Spx}(h:∀s∈a,b6 s=0):∀s∈a,s.length<=8:=λs hs=>(cA (h s hs)).2.1
def mI(a:List Spx):List Spx×Int:=if jV a≠0 then([],jV a) else if 4096<(cV a).length then([],5) else(cV a,0)
def HQ(a:List Spx):Bool×Int:=if jV a≠0 then(false,jV a) else(decide (cV a=[]),0)
def on3(b1:Nat)(c1:List AV)(b2:Nat)(c2:List AV)(b3:Nat)(c3:List AV):Hp:=λx=>if x=b1 then some c1 else if x=b2 then some c2 else if x=b3 then some c3 else none
theorem A3{P:Program}{T:Tm}{H:Hp}{nx:Nat}(b1 b2 b3:Nat){c1 c2 c3:List AV}{K:CP}{m:Nat}{l:List Op2}{C:List (Nat×Nat)}(h1:H b1=some c1)(h2:H b2=some c2)(h3:H b3=some c3)(n1:b2≠b1)(n2:b3≠b1)(n3:b3≠b2)(k:∀S:Hp,S b1=some c1->S b2=some c2->S b3=some c3->(∀H':Hp,H' b1=some c1->H' b2=some c2->H' b3=some c3->Sub S H')->bf P S (C.map λk=>(l.getD k.1 ⟨none,none,.dead⟩,k.2)) T H nx λT H nx=>K .normal T H nx):aM P (.mixS m l C) T H nx K:=by
 have hsub:∀H':Hp,H' b1=some c1->H' b2=some c2->H' b3=some c3->Sub (on3 b1 c1 b2 c2 b3 c3) H':=λH' a b c x cs h=>by
  unfold on3 at h;split at h
  ·rename_i e;rw[e,a];exact h
  split at h
  ·rename_i e;rw[e,b];exact h
  split at h
  ·rename_i e;rw[e,c];exact h
  ·cases h
 refine wW (on3 b1 c1 b2 c2 b3 c3) rfl (hsub H h1 h2 h3) (k _ ?_ ?_ ?_ hsub)
 ·unfold on3;rw[if_pos rfl]
 ·unfold on3;rw[if_neg n1,if_pos rfl]
 ·unfold on3;rw[if_neg n2,if_neg n3,if_pos rfl]
theorem xC{α:Type}{p q:Prop}[Decidable p][Decidable q](h:p↔q){a b:α}:(if p then a else b)=if q then a else b:=by
 by_cases hq:q
 ·rw[if_pos hq,if_pos (h.2 hq)]
 ·rw[if_neg hq,if_neg λx=>hq (h.1 x)]
def DX(c:List Spx)(d:Int):List Spx×Int:=if d<0 then([],0) else dx c (d+1)
def aA(c:List Spx)(d:Int):List Spx:=if d<=0 then [] else gD c d.toNat
def u6(c:List Spx)(d:Int):(Int×List (List Int))×Int:=if aB c≠0 then((0,[]),aB c) else if d<0\/8<=d then((0,[]),2) else((((aA c (d+1)).length:Nat),dH (aA c (d+1)) (aA c d)),0)
theorem Ce{c:List Spx}{d:Int}(hc:aB c=0)(h1:-1<=d)(h2:d<8):DX c d=(aA c (d+1),0):=by
 unfold DX aA dx;by_cases h:d<0
 ·rw[if_pos h,if_pos (by omega)]
 ·rw[if_neg h,if_neg (λq=>q hc),if_neg (by omega),if_neg (by omega)]
theorem qu{c:List Spx}{d:Int}:cl bq (aA c d):=by
 unfold aA;split
 ·exact cl.nil
 ·exact EV
theorem i9{c:List Spx}{d:Int}(hc:c.length<=50)(h:aB c=0):(aA c d).length<=3500:=by
 unfold aA;split
 ·exact bz _
 ·exact ow hc (E6 (dg h).2.1)
theorem pP{c:List Spx}{d:Int}{s:Spx}:s∈aA c d↔0<d/\s.length=d.toNat/\∃t∈c,s.Sublist t:=by
 unfold aA;split
 ·exact⟨λh=>(by cases h),λh=>absurd h.1 (by omega)⟩
 ·rw[x8];constructor
  ·rintro⟨t,t1,t2⟩;exact⟨by omega,(eC.1 t2).2,t,t1,(eC.1 t2).1⟩
  ·rintro⟨_,h1,t,t1,t2⟩;exact⟨t,t1,eC.2 ⟨t2,h1⟩⟩
theorem f0{c:List Spx}{d:Int}(h:aB c=0):∀s∈aA c d,b6 s=0:=λs hs=>by
 obtain⟨h1,h2,t,t1,t2⟩:=pP.1 hs;obtain⟨p1,p2,p3,p4⟩:=cA ((dg h).2.1 t t1);have:=t2.length_le;exact yE ⟨by omega,by omega⟩ (p3.sublist t2) λv hv=>p4 v (t2.subset hv)
def tQ(L a:List Spx):List Nat:=a.map λs=>L.idxOf s
abbrev eN(a:List Spx):Nat:=(a.getD 0 default).length
def iC(c a:List Spx):List Int×Int:=if aB c≠0 then([],aB c) else if jV a≠0 then([],jV a) else if a=[] then([],0) else if (a.all λs=>decide (s∈aA c (eN a)))=true then(dJ (tQ (aA c (eN a)) a),0) else([],6)
theorem yH{l:List Nat}{n:Nat}:dJ (l++[n])=dJ l++[(n:Int)]:=by unfold dJ;rw[cp];rfl
theorem DI{L a:List Spx}{k:Nat}(h:k<a.length):tQ L (a.take (k+1))=tQ L (a.take k)++[L.idxOf (a.getD k default)]:=by
 unfold tQ;rw[bZ h,cp];rfl
theorem Ha{l:List Spx}(hn:l.Nodup){v:Spx}{k:Nat}(hk:k<l.length)(hv:l.getD k default=v):l.idxOf v=k:=by
 have hm:v∈l:=by rw[<-hv];exact ay hk
 have h1:=pX.2 hm;have h2:l[l.idxOf v]=v:=List.getElem_idxOf h1;have h3:l[k]=v:=by simpa[List.getD,hk] using hv
 exact(List.getElem_inj hn).1 (h2.trans h3.symm)
theorem jT{H:Hp}{s:AV}{l:List Int}{e f:Int}(h:Snap H s (aE l))(he:e=f):Snap H (.tup [s,.int .i64 e]) (.tup [aE l,.int .i64 f]):=by
 subst he;exact bI (ag h (ag (.int _ _) an))
def Cn(n:Nat)(v:List Int)(k:Nat):Int:=if v.getD k default<0\/(n:Int)<=v.getD k default then 2 else if 0<k/\v.getD k default<=v.getD (k-1) default then 14 else 0
def sS(n:Nat)(v:List Int):Int:=dT (Cn n v) v.length
theorem sE{n:Nat}{v:List Int}{k:Nat}:Cn n v k=if v.getD k default<0\/(n:Int)<=v.getD k default then 2 else if 0<k/\v.getD k default<=v.getD (k-1) default then 14 else 0:=rfl
def c7(X:List Spx)(v:List Int):List Spx:=v.map λi=>X.getD i.toNat default
theorem rP{X:List Spx}{v:List Int}{k:Nat}(h:k<v.length):c7 X (v.take (k+1))=c7 X (v.take k)++[X.getD (v.getD k default).toNat default]:=by
 unfold c7;rw[bZ h,cp];rfl
def Ai(c:List Spx)(d:Int)(v:List Int):List Spx×Int:=if aB c≠0 then([],aB c) else if d<0\/8<=d then([],2) else if sS (aA c (d+1)).length v≠0 then([],sS (aA c (d+1)).length v) else(c7 (aA c (d+1)) v,0)
theorem ixV{l:List Int}{k:Nat}(h:k<l.length):eG 1 (aE l) (.int .i64 (k:Int))=some (.iptr [.int .i64 (l.getD k default)] 0):=by
 rw[mQ,if_pos ⟨by omega,by omega⟩,bN]
theorem cm{l:List Int}:dy (aE l)=some (.int .i64 l.length):=ua
def d9(l:List Int):Spx:=l.map λc=>⟨c,0⟩
theorem Dz{l:List Int}{k:Nat}(h:k<l.length):d9 (l.take (k+1))=d9 (l.take k)++[⟨l.getD k default,0⟩]:=by
 unfold d9;rw[bZ h,cp];rfl
structure PairV where
 a:List Spx
 b:List Spx
 d:Int
theorem pn{H:Hp}{b n:Nat}{l:List Spx}(h:H b=some (l.map aD))(hn:n=l.length):Snap H (.msl b n 1 0 n) (ao l):=by
 subst hn;have:=Row.box (H:=H) (sz:=1) b l.length (l.map aD) h (by simp);rw[Nat.mul_one] at this;exact gq this
theorem D9{H:Hp}{b n:Nat}{cs:List AV}{l:List (List Int)}(hb:H b=some cs)(hn:cs.length=n)(h:aL H cs (l.map aE)):Snap H (.msl b n 1 0 n) (bi l):=by
 have hl:=h.1;refine jk (l:=l.map aE) hb hn (by omega) (by omega) (λy hy=>?_) (λi a c ha hc=>?_)
 ·obtain⟨z,_,rfl⟩:=bJ.1 hy;rfl
 ·rw[bS] at ha;exact h.2 i a c ha hc
theorem pB:∀(n:Nat)(a b:List Int),a.length+b.length<=n->bt a->bt b->(bP a b).length+2*(a.filter λx=>decide (x∈b)).length=a.length+b.length
 |_,[],b,_,_,_=>by rw[gR];simp
 |_,x::a,[],_,_,_=>by
  rw[fG,G3.2 (λz _=>by simp)];rfl
 |0,x::a,y::b,h,_,_=>by simp only[bC] at h;omega
 |n+1,x::a,y::b,h,ha,hb=>by
  simp only[bC] at h |-;obtain⟨a1,a2⟩:=ie.1 ha;obtain⟨b1,b2⟩:=ie.1 hb;rw[jZ];by_cases g1:x<y
  ·have hx:x∉y::b:=λq=>by
     rcases c9.1 q with rfl|q
     ·omega
     ·have:=b1 x q;omega
   have ih:=pB n a (y::b) (by simp only[bC];omega) a2 hb;rw[if_pos g1,bC,A0 (by simpa using hx)];simp only[bC] at ih;omega
  rw[if_neg g1];by_cases g2:y<x
  ·have hf:(x::a).filter (λz=>decide (z∈y::b))=(x::a).filter λz=>decide (z∈b):=by
     refine List.filter_congr λz hz=>decide_eq_decide.2 ?_;rw[c9];refine⟨λh=>h.resolve_left ?_,.inr⟩;rintro rfl;rcases c9.1 hz with rfl|hz
     ·omega
     ·have:=a1 z hz;omega
   have ih:=pB n (x::a) b (by simp only[bC];omega) ha b2;rw[if_pos g2,bC,hf];simp only[bC] at ih;omega
  rw[if_neg g2];obtain rfl:x=y:=by omega
  have hf:a.filter (λz=>decide (z∈x::b))=a.filter λz=>decide (z∈b):=by
   refine List.filter_congr λz hz=>decide_eq_decide.2 ?_;rw[c9];refine⟨λh=>h.resolve_left ?_,.inr⟩;rintro rfl;have:=a1 z hz;omega
  have ih:=pB n a b (by omega) a2 b2;rw[A4 (by simp),bC,hf];omega
theorem bt.nodup{l:List Int}(h:bt l):l.Nodup:=yO (λ{x y}(h:x<y) e=>by omega) h
theorem zJ{l:List Nat}{x:Int}:x∈dJ l↔ ∃i:Nat,i∈l/\(i:Int)=x:=by unfold dJ;exact bJ
theorem nk{l:List Nat}(h:l.Pairwise (· < ·)):bt (dJ l):=by
 unfold dJ bt;rw[List.pairwise_map];exact yO (λ{a b}(h:a<b)=>by omega) h
theorem En{X Y:List Spx}{n i:Nat}:(io X Y n i).Pairwise (· < ·):=List.pairwise_lt_range.sublist EE
theorem DU{X Y:List Spx}{n i j:Nat}:j∈io X Y n i↔j<n/\Y.getD i default∈cH (X.getD j default):=by
 unfold io;simp only[il,ef,gj]
theorem gu{X Y:List Spx}:(dH X Y).length=Y.length:=by unfold dH;simp
theorem lf{X Y:List Spx}(hX:X.length<=4096)(hY:Y.length<=4096):fH X.length (dH X Y):=by
 refine⟨by omega,by omega,by rw[gu];exact hY,λr hr=>?_⟩;unfold dH at hr;obtain⟨i,hi,rfl⟩:=bJ.1 hr;refine⟨λv hv=>?_,?_,uc (nk En)⟩
 ·unfold dJ at hv;obtain⟨j,hj,rfl⟩:=bJ.1 hv;have:=(DU.1 hj).1;omega
 ·unfold dJ;rw[bk];exact fc r8 hX
def jP(a b:List Int):Bool:=decide ((a.length+b.length-(bP a b).length)/2%2=1)
def trF(R:List (List Int))(n q:Nat):List Nat:=(List.range n).filter λi=>decide ((q:Int)∈R.getD i default)
theorem yB{R:List (List Int)}{n q:Nat}:trF R (n+1) q=trF R n q++if (q:Int)∈R.getD n default then [n] else []:=by
 unfold trF;rw[List.range_succ,wh]
 congr 1
 by_cases h:(q:Int)∈R.getD n default
 ·rw[if_pos h,A4 (by simpa using h)];rfl
 ·rw[if_neg h,A0 (by simpa using h)];rfl
theorem xw{R:List (List Int)}{n q:Nat}:(trF R n q).length<=n:=by
 unfold trF;exact fc (List.length_filter_le _ _) (by simp)
def trL(c:Nat)(R:List (List Int)):List (List Int):=(List.range c).map λq=>dJ (trF R R.length q)
theorem iz(v:Int)(ks:List Int):de (.one .int) (.int .i64 v) (ks.map (AV.int .i64))=some (if v∈ks then some (ks.idxOf v) else none):=
 m8 _ (AV.int .i64) (λa b=>rfl) v ks
theorem Nv(v:Int):∀{l:List Int},bt l->∃b,b<=l.length/\(∀i,i<b->l.getD i default<v)/\∀i,b<=i->i<l.length->v<=l.getD i default
 |[],_=>⟨0,aN _,λi h=>absurd h (by omega),λi _ h=>absurd h (by simp)⟩
 |x::l,h=>by
  obtain⟨h1,h2⟩:=ie.1 h;by_cases hx:x<v
  ·obtain⟨b,b1,b2,b3⟩:=Nv v h2;refine⟨b+1,by simp;omega,λi hi=>?_,λi hi hl=>?_⟩
   ·match i with
    |0=>exact hx
    |i+1=>exact b2 i (by omega)
   ·match i with
    |0=>omega
    |i+1=>exact b3 i (by omega) (by simp at hl;omega)
  ·refine⟨0,bz _,λi h=>absurd h (by omega),λi _ hl=>?_⟩
   match i with
   |0=>show v<=x;omega
   |i+1=>
    have:=h1 (l.getD i default) (ay (by simp at hl;omega));show v<=l.getD i default;omega
theorem I2{v:Int}{l:List Int}{b:Nat}(h1:∀i,i<b->l.getD i default<v)(h2:∀i,b<=i->i<l.length->v<=l.getD i default)(ha:bt l):(decide (b<l.length)&&decide (l.getD b default=v))=decide (v∈l):=by
 by_cases hm:v∈l
 ·obtain⟨i,hi,e⟩:=jW hm;have e':l.getD i default=v:=by simp[List.getD,hi,e]
  have hbi:b=i:=by
   rcases sG b i with h|h|h
   ·have h3:=h2 b (aN _) (by omega);have h4:=kp.1 ha b i (by omega) hi h;have e5:l.getD b default=l[b]:=by simp[List.getD,show b<l.length by omega]
    omega
   ·exact h
   ·have:=h1 i h;omega
  subst hbi;rw[aZ hi,aZ hm,aZ e'];rfl
 ·rw[aW hm];by_cases hlt:b<l.length
  ·rw[aZ hlt,Bool.true_and,aW];intro h;exact hm (by rw[<-h];exact ay hlt)
  ·rw[aW hlt,Bool.false_and]
def BL(c n:Nat)(x:Ln):Prop:=(∀z∈x.1,0<=z/\z<(c:Int))/\∀j∈x.2,0<=j/\j<(n:Int)
theorem eu{a:List Int}{c:Nat}(ha:bt a)(h:∀z∈a,0<=z/\z<(c:Int)):a.length<=c:=by
 have hn:a.Nodup:=yO (λ{x y}(q:x<y) e=>by omega) ha
 have:=yV hn (l₂:=(List.range c).map λ(k:Nat)=>(k:Int)) λz hz=>by
  have:=h z hz;exact bJ.2 ⟨z.toNat,ef.2 (by omega),by show((z.toNat:Nat):Int)=z;omega⟩
 simpa using this
theorem BL.len{c n:Nat}{x:Ln}(h:BL c n x)(ha:cq x):x.1.length<=c/\x.2.length<=n:=⟨eu ha.1 h.1,eu ha.2 h.2⟩
theorem BL.add{c n:Nat}{x l:Ln}(hx:BL c n x)(hl:BL c n l)(ax:cq x)(al:cq l):BL c n (ea x l):=by
 refine⟨λz hz=>?_,λz hz=>?_⟩
 ·rcases(dl ax.1 al.1).1 hz with q|q
  ·exact hx.1 z q.1
  ·exact hl.1 z q.1
 ·rcases(dl ax.2 al.2).1 hz with q|q
  ·exact hx.2 z q.1
  ·exact hl.2 z q.1
theorem AO{c n:Nat}{p:Ln->Bool}:∀{M:List Ln}{x:Ln},(∀l∈M,cq l/\BL c n l)->cq x->BL c n x->BL c n (rdL M p x)
 |[],_,_,_,h=>h
 |l::M,x,hM,hx,h=>by
  unfold rdL;rw[List.foldl_cons];have hl:=hM l dq;have hM':=λm hm=>hM m (eD _ hm);show BL c n (rdL M p (if p l=true then ea x l else x));split
  ·exact AO hM' (eW hx hl.1) (h.add hl.2 hx hl.1)
  ·exact AO hM' hx h
theorem yT:∀{i:Nat}{a b:List Int},i<=a.length->(∀j,j<i->∀z∈b,a.getD j default<z)->∀j,j<i->(bP a b).getD j default=a.getD j default
 |0,_,_,_,_,j,hj=>absurd hj (by omega)
 |i+1,[],_,h,_,_,_=>absurd h (by simp)
 |i+1,x::a,[],h,_,j,_=>by rw[fG]
 |i+1,x::a,y::b,h,hz,j,hj=>by
  have h0:x<y:=hz 0 (by omega) y dq;rw[jZ,if_pos h0]
  match j with
  |0=>rfl
  |j+1=>exact yT (i:=i) (a:=a) (b:=y::b) (by simpa using h) (λk hk z hz'=>hz (k+1) (by omega) z hz') j (by omega)
theorem v8:∀{i:Nat}{a b:List Int},i<=a.length->(∀j,j<i->∀z∈b,a.getD j default<z)->i<=(bP a b).length
 |0,_,_,_,_=>bz _
 |i+1,[],_,h,_=>absurd h (by simp)
 |i+1,x::a,[],h,_=>by rw[fG];exact h
 |i+1,x::a,y::b,h,hz=>by
  have h0:x<y:=hz 0 (by omega) y dq;rw[jZ,if_pos h0,bC];have:=v8 (i:=i) (a:=a) (b:=y::b) (by simpa using h) (λk hk z hz'=>hz (k+1) (by omega) z hz');omega
theorem DD{M:List Ln}{p q:Ln->Bool}{l:Ln}(h:∀m∈M,q m=true->p m=true)(hl:l∈M)(h1:p l=true)(h2:q l=false):M.countP q<M.countP p:=by
 induction M with
 |nil=>cases hl
 |cons m M ih=>
  rw[List.countP_cons,List.countP_cons];have hle:M.countP q<=M.countP p:=List.countP_mono_left λx hx=>h x (eD _ hx);rcases c9.1 hl with rfl|hl
  ·rw[if_pos h1,if_neg (by rw[h2];decide)];omega
  ·have:=ih (λx hx=>h x (eD _ hx)) hl;have h3:=h m dq;by_cases hq:q m=true
   ·rw[if_pos hq,if_pos (h3 hq)];omega
   ·rw[if_neg hq];split<;>omega
def nL(M:List Ln)(x:Ln):Nat:=M.countP λl=>decide (ld l.1∈x.1)
theorem J7{M:List Ln}{x l:Ln}(hM:RedU M)(hx:cq x)(hl:l∈M)(h:ld l.1∈x.1):nL M (ea x l)<nL M x:=by
 have hla:=hM.asc l hl;refine DD (l:=l) (λm hm hq=>?_) hl (aZ h) (aW λhq=>?_)
 ·have hq:=p6 hq;refine aZ ?_;rcases(dl hx.1 hla.1).1 hq with q|q
  ·exact q.1
  ·have:=hM.own m hm l hl q.1;rw[<-this];exact h
 ·rcases(dl hx.1 hla.1).1 hq with q|q
  ·exact q.2 (dj (hM.ne l hl))
  ·exact q.2 h
def b0(M:List Ln):List Int:=M.map λl=>ld l.1
def eO(x:Ln):AV:=.agg [aE x.1,aE x.2]
def LM(H:Hp)(m:Nat)(M:List Ln):Prop:=H m=some [.omap ((b0 M).map (AV.int .i64)) (M.map eO)]
theorem vC{M:List Ln}{v:Int}(h:v∈b0 M):∃l∈M,ld l.1=v/\(M.map eO).getD ((b0 M).idxOf v) .undef=eO l:=by
 have hi:=pX.2 h;have h2:(b0 M)[(b0 M).idxOf v]=v:=List.getElem_idxOf hi;generalize (b0 M).idxOf v=i at *;have hi':i<M.length:=by unfold b0 at hi;simpa using hi
 refine⟨M[i],ns hi',?_,?_⟩
 ·have h3:(b0 M)[i]'hi=ld M[i].1:=List.getElem_map ..;rw[<-h3];exact h2
 ·simp[List.getD,hi']
theorem mX{M:List Ln}{v:Int}:v∈b0 M↔ ∃l∈M,ld l.1=v:=by unfold b0;rw[bJ]
theorem Kg{T:Tm}{S:Hp}{m:Nat}{ks:List Int}{vs:List AV}{mo ko:Opd}{v:Int}{z:AV}{ok:Bool}(h1:ov T mo=.mp m)(h2:S m=some [.omap (ks.map (AV.int .i64)) vs])(h3:ov T ko=.int .i64 v):ilk T S (.mget (.one .int) z ok mo ko)=some (Go.Abs.mget z ok (if v∈ks then some (ks.idxOf v) else none) vs):=by
 show lkS _ _ _ (ov T mo) (ov T ko) S=_;rw[h1,h3];simp only[lkS,h2,iz];rfl
def cLs(l:List Ln):List AV:=l.flatMap λx=>[aE x.1,aE x.2]
def mc(l:List Ln):AV:=iS 2 eO l
theorem Ft{l:List Ln}{x:Ln}:cLs (l++[x])=cLs l++[aE x.1,aE x.2]:=by unfold cLs;simp
theorem Ch{l:List Ln}:(cLs l).length=l.length*2:=by
 induction l with
 |nil=>rfl
 |cons x l ih=>show([aE x.1,aE x.2]++cLs l).length=_;rw[cw,ih,bC];simp;omega
theorem G6{l:List Ln}:cLs l=(l.map eO).flatMap AV.cells:=by
 induction l with
 |nil=>rfl
 |cons x l ih=>show [aE x.1,aE x.2]++cLs l=_;rw[ih];rfl
theorem Hs{H:Hp}{s:AV}{l:List Ln}(h:Row H 2 s (cLs l)):Snap H s (mc l):=by
 refine Row.snap (elems:=l.map eO) (by rw[<-G6];exact h) (λy hy=>?_) (by omega) (λy hy c hx=>?_)
 ·obtain⟨n,_,rfl⟩:=bJ.1 hy;rfl
 ·obtain⟨n,_,rfl⟩:=bJ.1 hy;simp only[eO,AV.cells,c9,List.not_mem_nil,or_false] at hx;rcases hx with rfl|rfl<;>exact cu _
theorem yD{M:List Ln}(hM:RedU M):(b0 M).Nodup:=by
 unfold b0;refine List.pairwise_map.2 (List.Pairwise.imp_of_mem (λ{x y} hx hy hne e=>?_) hM.nodup);have:=dj (hM.ne y hy);rw[<-e] at this;exact hne (hM.own x hx y hy this).symm
def vsS(M:List Ln)(y:Ln)(seen:List Nat):List AV:=(List.range M.length).map λi=>eO (if i∈seen then jw y (M.getD i default) else M.getD i default)
theorem GH{M:List Ln}{y:Ln}:vsS M y []=M.map eO:=by
 refine List.ext_getElem (by simp[vsS]) λi h1 h2=>?_;have h2:i<M.length:=by simpa using h2
 simp[vsS,List.getD,h2]
theorem Bh{M:List Ln}{y:Ln}{seen:List Nat}{i:Nat}(hi:i<M.length)(h:i∉seen):(vsS M y seen).getD i .undef=eO (M.getD i default):=by
 simp[vsS,List.getD,hi,h]
theorem Cc{M:List Ln}{y:Ln}{seen:List Nat}{i:Nat}:(vsS M y seen).set i (eO (jw y (M.getD i default)))=vsS M y (seen++[i]):=by
 refine List.ext_getElem (by simp[vsS]) λj h1 h2=>?_;have h2:j<M.length:=by simpa[vsS] using h2
 rw[List.getElem_set];by_cases e:i=j
 ·subst e;simp[vsS]
 ·have e':¬j=i:=λh=>e h.symm;simp[vsS,e,e']
theorem EU{M:List Ln}{y:Ln}{seen:List Nat}{i:Nat}(hi:i<M.length)(hs:i∉seen)(h:ld y.1∉(M.getD i default).1):vsS M y (seen++[i])=vsS M y seen:=by
 rw[<-Cc,show jw y (M.getD i default)=M.getD i default by unfold jw;rw[if_neg h],<-Bh (y:=y) hi hs];refine List.ext_getElem (by simp) λj h1 h2=>?_;rw[List.getElem_set];split
 ·rename_i e;subst e;simp[List.getD,h2]
 ·rfl
theorem Hm{M:List Ln}{y:Ln}{seen:List Nat}(h:∀i,i<M.length->i∈seen):vsS M y seen=(M.map (jw y)).map eO:=by
 refine List.ext_getElem (by simp[vsS]) λi h1 h2=>?_;have h2:i<M.length:=by simpa using h2
 simp[vsS,List.getD,h2,h i h2]
theorem AD{R:List (List Int)}{c k:Nat}(hR:∀r∈R,bt r)(hv:∀r∈R,∀z∈r,0<=z/\z<(c:Int))(hk:k<=R.length):∀l∈(stE R k).1,BL c R.length l:=λl hl=>by
 have hs:=gv hR hk;refine⟨jG (λr hr=>hR r (jx hr)) (λr hr=>hv r (jx hr)) (hs.inS l hl),λj hj=>?_⟩;have:=(hs.ok l hl).2 j hj;omega
theorem xG{R:List (List Int)}(hR:∀r∈R,bt r){k:Nat}(hk:k<=R.length):(stE R k).1.length<=k/\(stE R k).2.length<=k:=by
 have:=(gv hR hk).len;omega
theorem Dg{l:List Int}(h:l≠[]):eG 1 (aE l) (.int .i64 0)=some (.iptr [.int .i64 (ld l)] 0):=by
 have:=ixV (l:=l) (k:=0) (li.2 h);exact this
theorem zd{M:List Ln}{y:Ln}(hM:RedU M)(hy:cq y)(h0:y.1≠[])(hn:∀l∈M,ld l.1∉y.1):b0 (M.map (jw y))=b0 M:=by
 unfold b0;rw[List.map_map];exact uB λl hl=>(tP hM hy h0 hn hl).2.2.2
theorem Fr{M:List Ln}(hM:RedU M){l:Ln}{v:Int}(hl:l∈M)(e:ld l.1=v):(M.find? λl=>decide (ld l.1=v))=some l:=by
 cases h:M.find? λl=>decide (ld l.1=v) with
 |none=>
  have:=List.find?_eq_none.1 h l hl;exact absurd (aZ e) this
 |some m=>
  have h1:=p6 (List.find?_some (p:=λl:Ln=>decide (ld l.1=v)) h);have h2:=List.mem_of_find?_eq_some h;have:=dj (hM.ne m h2);rw[h1,<-e] at this;rw[hM.own l hl m h2 this]
theorem AH{M:List Ln}{v:Int}(h:v∉b0 M):(M.find? λl=>decide (ld l.1=v))=none:=
 List.find?_eq_none.2 λl hl hd=>h (mX.2 ⟨l,hl,p6 hd⟩)
theorem z7{M:List Ln}{c:Nat}:(lM M c).length<=c:=by
 induction c with
 |zero=>simp[lM]
 |succ c ih=>
  rw[pY,cw];have:(M.find? λl=>decide (ld l.1=(c:Int))).toList.length<=1:=by cases M.find? λl=>decide (ld l.1=(c:Int))<;>simp
  omega
theorem ln{H:Hp}{s:AV}{l:List (List Int)}(h:Row H 1 s (l.map aE)):Snap H s (bi l):=by
 rw[Hk];exact h.snapL' (λ_=>rfl) (λx _=>cu x)
theorem bU{c:Int}{R:List (List Int)}:cQ c R=.agg [.int .i64 c,bi R]:=rfl
theorem CZ{r:List Int}(h:∀i,i+1<r.length->r.getD i default<r.getD (i+1) default):bt r:=by
 have hchain:∀b a,a<b->b<r.length->r.getD a default<r.getD b default:=λb=>by
  induction b with
  |zero=>intro a ha;omega
  |succ b ih=>
   intro a ha hb;have q:=h b hb;rcases(by omega:a<b\/a=b) with h|rfl
   ·have:=ih a h (by omega);omega
   ·exact q
 refine kp.2 λi j hi hj hij=>?_;have:=hchain j i hij hj;simpa[List.getD,hi,hj] using this
theorem dW{c:Int}{R:List (List Int)}(h:fH c R):∀r∈R,bt r:=λr hr=>CZ (h.2.2.2 r hr).2.2
theorem LU{l:List Ln}{k:Nat}(h:k<l.length):eG 2 (mc l) (.int .i64 (k:Int))=some (.iptr [aE (l.getD k default).1,aE (l.getD k default).2] 0):=by
 unfold mc;rw[mO,if_pos ⟨by omega,by omega⟩,bN];rfl
theorem tO{l:List Ln}:dy (mc l)=some (.int .i64 l.length):=lg
theorem jv{R:List (List Int)}{c:Nat}:(lw R c).length<=c:=z7
theorem r_4{T:Tm}{H:Hp}{K:AV->Prop}{a b c d:RV}{x y z u:AV}(ha:rv T H a=some x)(hb:rv T H b=some y)(hc:rv T H c=some z)(hd:rv T H d=some u)(h:K (.tup [x,y,z,u])):bj T H K [a,b,c,d]:=by
 show xA T H [a,b,c,d] λxs=>K (.tup xs);simp only[xA,ha,hb,hc,hd];exact h
theorem ka{c:List Spx}(h:aB c=0):∀s∈c,Shn s:=λs hs=>show _<=_ by
 have:=(cA ((dg h).2.1 s hs)).2.1;omega
def sA(c:List Spx):Nat->Int
 |0=>0
 |k+1=>if (k+1)%2=1 then sA c k+((gD c (k+1)).length:Int) else sA c k-((gD c (k+1)).length:Int)
theorem BD{c:List Spx}(h:∀k,(gD c k).length<=3500):∀k:Nat,-(3500*(k:Int))<=sA c k/\sA c k<=3500*(k:Int)
 |0=>⟨by show -(3500*((0:Nat):Int))<=(0:Int);omega,by show(0:Int)<=3500*((0:Nat):Int);omega⟩
 |k+1=>by
  have:=BD h k;have h2:=h (k+1);unfold sA;split<;>omega
def oq(c:List Spx):Nat->Int×Int
 |0=>(8,0)
 |k+1=>(min (oq c k).1 ((c.getD k default).length:Int),max (oq c k).2 ((c.getD k default).length:Int))
theorem BV{c:List Spx}{m:Int}(h0:0<=m)(h:∀s∈c,(s.length:Int)<=m):∀{k:Nat},k<=c.length->0<=(oq c k).2/\(oq c k).2<=m
 |0,_=>⟨Int.le_refl _,h0⟩
 |k+1,hk=>by
  have:=BV h0 h (k:=k) (by omega);have h2:=h _ (ay (l:=c) (i:=k) (by omega));unfold oq;dsimp only;omega
def sU(c:List Spx):Int:=(oq c c.length).2
def Fh(c:List Spx):Bool:=decide ((oq c c.length).2=0) || decide ((oq c c.length).1=(oq c c.length).2)
theorem JC{c:List Spx}(hc:aB c=0){k:Nat}(hk:8<k):gD c k=[]:=by
 refine w5.2 λs hs=>?_;obtain⟨t,ht,h⟩:=x8.1 hs;obtain⟨h1,h2⟩:=eC.1 h;have:=(cA ((dg hc).2.1 t ht)).2.1;have:=h1.length_le;omega
theorem yz{c:List Spx}{k:Nat}:aA c (k:Int)=if k=0 then [] else gD c k:=by
 unfold aA;by_cases h:k=0
 ·rw[if_pos (by omega),if_pos h]
 ·rw[if_neg (by omega),if_neg h,bN]
theorem cE{c:List Spx}(hc:aB c=0)(hl:c.length<=50){d:Int}:(aA c d).length<=3500:=by
 unfold aA;split
 ·simp
 ·exact ow hl λs hs=>(cA ((dg hc).2.1 s hs)).2.1
theorem Bc{c:List Spx}(hc:aB c=0){d:Int}(h:8<d):aA c d=[]:=by
 unfold aA;rw[if_neg (by omega)];exact JC hc (by omega)
theorem yY{Y:List Spx}:dH [] Y=List.replicate Y.length []:=by
 refine List.ext_getElem (by simp[dH]) λi h1 h2=>?_;simp[dH,dJ,io]
theorem De{H:Hp}{b n:Nat}(h:H b=some (List.replicate n .esl)):Snap H (.msl b n 1 0 n) (bi (List.replicate n [])):=by
 refine D9 h (by simp) ⟨by simp,λi x y hx hy=>?_⟩;obtain⟨h1,rfl⟩:=bM.1 hx;obtain⟨h2,rfl⟩:=bM.1 hy;simp only[List.getElem_map,List.getElem_replicate];exact .eslsl 1
def rkF(c:List Spx)(d:Nat):Nat:=(cT (dH (aA c ((d:Int)+1)) (aA c d)) (aA c ((d:Int)+1)).length).length
def btF(c:List Spx)(d:Nat):Int:=((aA c ((d:Int)+1)).length:Int)-(rkF c d:Int)-(rkF c (d+1):Int)
def btL(c:List Spx)(m:Nat):List Int:=(List.range m).map (btF c)
theorem xq{c:List Spx}{d:Nat}:rkF c d<=(aA c ((d:Int)+1)).length:=by
 unfold rkF cT;rw[bk];exact jv
def rkK(n:Nat):List Int:=dJ (List.range n)
theorem kT{n d:Nat}:(d:Int)∈rkK n↔d<n:=by
 unfold rkK;rw[zJ];exact⟨λ⟨i,h1,h2⟩=>by have:=ef.1 h1;omega,λh=>⟨d,ef.2 h,rfl⟩⟩
theorem rI{n d:Nat}(h:d<n):(rkK n).idxOf (d:Int)=d:=by
 have hn:(rkK n).Nodup:=yO (λ{x y}(q:x<y) e=>by omega) (nk List.pairwise_lt_range);have h1:=pX.2 (kT.2 h);have hl:d<(rkK n).length:=by unfold rkK dJ;simpa using h
 have h2:(rkK n)[d]=(d:Int):=by
  have h4:(rkK n)[d]=(((List.range n)[d]'(by simpa using h):Nat):Int):=List.getElem_map ..;rw[h4,List.getElem_range]
 have h3:(rkK n)[(rkK n).idxOf (d:Int)]=(rkK n)[d]:=by rw[List.getElem_idxOf h1,h2]
 exact(List.getElem_inj hn).1 h3
theorem xV{n:Nat}:rkK (n+1)=rkK n++[(n:Int)]:=by unfold rkK dJ;rw[List.range_succ,cp];rfl
def rkV(c:List Spx)(n:Nat):List AV:=(List.range n).map λd=>.int .i64 (rkF c d)
theorem zy{c:List Spx}{n:Nat}:rkV c (n+1)=rkV c n++[.int .i64 (rkF c n)]:=by unfold rkV;rw[List.range_succ,cp];rfl
theorem rz{c:List Spx}{n d:Nat}(h:d<n):(rkV c n).getD d .undef=.int .i64 (rkF c d):=by unfold rkV;simp[List.getD,h]
theorem zN{c:List Spx}{n:Nat}:btL c (n+1)=btL c n++[btF c n]:=by unfold btL;rw[List.range_succ,cp];rfl
theorem zH{a:List Spx}(h:a≠[]):eG 1 (ao a) (.int .i64 0)=some (.iptr [aD (a.getD 0 default)] 0):=by
 have:=eh (l:=a) (k:=0) (li.2 h);exact this
theorem kf{l:List Int}{i:Nat}(h:i<l.length):l.drop i=l.getD i default::l.drop (i+1):=by
 rw[List.drop_eq_getElem_cons h];simp[List.getD,h]
theorem Gx{a b:List Int}{i k:Nat}(hi:i<a.length)(h:k=b.length\/k<b.length/\a.getD i default<b.getD k default):bP (a.drop i) (b.drop k)=a.getD i default::bP (a.drop (i+1)) (b.drop k):=by
 rw[kf hi];rcases h with rfl|⟨h1,h2⟩
 ·rw[List.drop_length,fG,fG]
 ·rw[kf h1,jZ,if_pos h2]
theorem GM{a b:List Int}{i k:Nat}(hk:k<b.length)(h:i=a.length\/i<a.length/\b.getD k default<a.getD i default):bP (a.drop i) (b.drop k)=b.getD k default::bP (a.drop i) (b.drop (k+1)):=by
 rw[kf hk];rcases h with rfl|⟨h1,h2⟩
 ·rw[List.drop_length,gR,gR]
 ·rw[kf h1,jZ,if_neg (by omega),if_pos h2]
theorem Hv{a b:List Int}{i k:Nat}(hi:i<a.length)(hk:k<b.length)(h:a.getD i default=b.getD k default):bP (a.drop i) (b.drop k)=bP (a.drop (i+1)) (b.drop (k+1)):=by
 rw[kf hi,kf hk,jZ,if_neg (by omega),if_neg (by omega)]
def Gp(rows:List (List Int))(n c:Nat):Int:=match ue rows n c with
 |some k=>(k:Int)
 |none=>-1
theorem G2{rows:List (List Int)}{n c k:Nat}(hn:n<=k)(hk:k<rows.length)(h:∀i,n<=i->i<k->(c:Int)∉rows.getD i default)(hc:(c:Int)∈rows.getD k default):ue rows n c=some k:=by
 unfold ue;rw[List.find?_range_eq_some];refine⟨by simp only[dP,gj];exact⟨hn,hc⟩,ef.2 hk,λj hj=>?_⟩;simp only[Bool.not_and,lr,Bool.not_eq_true',decide_eq_false_iff_not];by_cases hnj:n<=j
 ·exact .inr (h j hnj hj)
 ·exact .inl hnj
theorem Fv{rows:List (List Int)}{n c:Nat}(h:∀i,n<=i->i<rows.length->(c:Int)∉rows.getD i default):ue rows n c=none:=by
 unfold ue;rw[List.find?_eq_none];intro i hi hd;simp only[dP,gj] at hd;exact h i hd.1 (ef.1 hi) hd.2
theorem xS{rows:List (List Int)}{n c k:Nat}(h:ue rows n c=some k):n<=k/\k<rows.length:=by
 unfold ue at h;have h1:=List.find?_some h;have h2:=ef.1 (List.mem_of_find?_eq_some h);simp only[dP,gj] at h1;exact⟨h1.1,h2⟩
def o7(R:List (List Int))(y:List Int):List Int:=y.foldl (λa i=>bP a (R.getD i.toNat default)) []
theorem vD{R:List (List Int)}{y:List Int}{i:Int}:o7 R (y++[i])=bP (o7 R y) (R.getD i.toNat default):=by unfold o7;rw[List.foldl_append];rfl
theorem BQ{R:List (List Int)}{c:Nat}(hR:∀r∈R,bt r)(hv:∀r∈R,∀z∈r,0<=z/\z<(c:Int)){y:List Int}(hy:∀i∈y,0<=i/\i<(R.length:Int)):∀k,k<=y.length->bt (o7 R (y.take k))/\∀z∈o7 R (y.take k),0<=z/\z<(c:Int)
 |0,_=>⟨pp,λz h=>(by cases h)⟩
 |k+1,hk=>by
  obtain⟨h1,h2⟩:=BQ hR hv hy k (by omega);have hi:=hy _ (ay (l:=y) (i:=k) (by omega));have hm:R.getD (y.getD k default).toNat default∈R:=ay (by omega);rw[bZ (show k<y.length by omega),vD];refine⟨ed h1 (hR _ hm),λz hz=>?_⟩;rcases(dl h1 (hR _ hm)).1 hz with q|q
  ·exact h2 z q.1
  ·exact hv _ hm z q.1
def JJ(R:List (List Int))(b y:List Int):Int:=if o7 R y=[] then(if jP y b=true then 0 else 18) else 18
def jo(H:Hp)(s:AV)(l:List (List Int)):Prop:=s=bi l\/Row H 1 s (l.map aE)
theorem jo.src{H H':Hp}{s:AV}{l:List (List Int)}(h:jo H s l)(hs:∀b,bv s=some b->H' b=H b):fX 1 H' s=some (l.length,l.map aE):=by
 rcases h with rfl|h
 ·exact fW
 ·have h:=h.same hs;generalize hc:l.map aE=cs at h;have hl:l.length=cs.length:=by rw[<-hc,bk]
  cases h with
  |nil=>rw[hl];rfl
  |box b len cs hb hn=>
   rw[Nat.mul_one] at hn;rw[eT hb (by rw[hn,Nat.mul_one]) (by omega),hl,hn,Nat.mul_one,List.drop_zero,fI (by omega)]
theorem jo.len{H:Hp}{s:AV}{l:List (List Int)}(h:jo H s l):fE s=some l.length:=by
 rcases h with rfl|h
 ·exact ym
 ·generalize hc:l.map aE=cs at h;have hl:l.length=cs.length:=by rw[<-hc,bk]
  cases h with
  |nil=>rw[hl];rfl
  |box b len cs hb hn=>rw[hl,hn,Nat.mul_one];rfl
theorem jo.snap{H:Hp}{s:AV}{l:List (List Int)}(h:jo H s l):Snap H s (bi l):=by
 rcases h with rfl|h
 ·exact(kd l).snap
 ·exact ln h
theorem tJ{H:Hp}{s:AV}{cs:List AV}(h:Row H 1 s cs)(c:Int):ew [AV.int .i64 0,.esl] [(0,1,.int .i64 c),(1,1,s)]=some [.int .i64 c,s]:=by cases h<;>rfl
theorem rL{l:List (List Int)}:AV.ones (l.map aE)=true:=by
 unfold AV.ones;rw[eF];intro x hx;obtain⟨y,_,rfl⟩:=bJ.1 hx;rfl
def Gk(x:AV):Option AV:=match x with|.ptr b n o=>some (.ptr b n o)|.iptr c o=>some (.iptr c o)|.func f c=>some (.func f c)|_=>none
theorem NK:(∀(T:Tm)(H:Hp)(x:Opd),b5 T H (.nilck x)=Gk (ov T x))/\(∀b n o:Nat,Gk (.ptr b n o)=some (.ptr b n o)):=⟨λ_ _ _=>rfl,λ_ _ _=>rfl⟩
theorem AC{l:List (List Int)}{k:Nat}{x:List Int}(h:k<l.length):br (l.map aE) k [aE x]=(l.set k x).map aE:=by
 unfold br;rw[List.map_set];have h2:k<(l.map aE).length:=by rw[bk];exact h
 rw[HT,if_pos h2];simp
def elP(rows:List (List Int))(n c i:Nat):List (List Int):=(List.range rows.length).map λj=>if j<i then elF rows n c j else rows.getD j default
theorem iM{rows:List (List Int)}{n c i:Nat}:(elP rows n c i).length=rows.length:=by unfold elP;simp
theorem xz{l m:List (List Int)}(hl:l.length=m.length)(h:∀i,i<l.length->l.getD i default=m.getD i default):l=m:=by
 refine List.ext_getElem hl λj h1 h2=>?_;have:=h j h1;simpa[List.getD,h1,h2] using this
theorem Ad{l:List (List Int)}{i j:Nat}{x:List Int}(h:j<l.length):(l.set i x).getD j default=if i=j then x else l.getD j default:=by
 simp only[List.getD,List.getElem?_set];by_cases e:i=j
 ·subst e;simp[h]
 ·simp[e]
theorem kJ{rows:List (List Int)}{n c i j:Nat}(h:j<rows.length):(elP rows n c i).getD j default=if j<i then elF rows n c j else rows.getD j default:=oQ h
theorem MI{rows:List (List Int)}{n c:Nat}:elP rows n c 0=rows:=xz iM λj h=>by
 rw[iM] at h;rw[kJ h,if_neg (by omega)]
theorem Bk{rows:List (List Int)}{n c:Nat}:elP rows n c rows.length=elL rows n c:=by
 unfold elP elL;refine uB λj hj=>?_;rw[if_pos (ef.1 hj)]
theorem Hq{rows:List (List Int)}{n c i:Nat}:(elP rows n c i).set i (elF rows n c i)=elP rows n c (i+1):=xz (by rw[List.length_set,iM,iM]) λj h=>by
 rw[List.length_set] at h;rw[Ad h];rw[iM] at h;rw[kJ h,kJ h];by_cases e:i=j
 ·subst e;rw[if_pos rfl,if_pos (by omega)]
 ·rw[if_neg e];by_cases q:j<i
  ·rw[if_pos q,if_pos (by omega)]
  ·rw[if_neg q,if_neg (by omega)]
theorem F3{rows:List (List Int)}{n c i:Nat}(h:i<rows.length)(e:elF rows n c i=rows.getD i default):elP rows n c (i+1)=elP rows n c i:=xz (by rw[iM,iM]) λj hj=>by
 rw[iM] at hj;rw[kJ hj,kJ hj];by_cases q:i=j
 ·subst q;rw[if_pos (by omega),if_neg (by omega),e]
 ·by_cases q2:j<i
  ·rw[if_pos q2,if_pos (by omega)]
  ·rw[if_neg q2,if_neg (by omega)]
theorem rH{rows:List (List Int)}{n k:Nat}:(swL rows n k).length=rows.length:=by unfold swL;simp
theorem J0{rows:List (List Int)}{n k:Nat}(hn:n<rows.length)(hk:k<rows.length):(rows.set n (rows.getD k default)).set k (rows.getD n default)=swL rows n k:=xz (by rw[List.length_set,List.length_set,rH]) λj h=>by
 rw[List.length_set,List.length_set] at h;rw[Ad (by rw[List.length_set];exact h),Ad h,show(swL rows n k).getD j default=rows.getD (swI n k j) default from oQ h];unfold swI;by_cases q:k=j
 ·subst q;rw[if_pos rfl];by_cases e:k=n
  ·rw[if_pos e,e]
  ·rw[if_neg e,if_pos rfl]
 ·rw[if_neg q];by_cases e:n=j
  ·rw[if_pos e,if_pos e.symm]
  ·rw[if_neg e,if_neg (λx=>e x.symm),if_neg (λx=>q x.symm)]
def RL(c:Nat)(rows:List (List Int)):Prop:=∀r∈rows,bt r/\∀z∈r,0<=z/\z<(c:Int)
theorem RL.len{c:Nat}{rows:List (List Int)}(h:RL c rows):∀r∈rows,r.length<=c:=λr hr=>eu (h r hr).1 (h r hr).2
theorem RL.sum {c:Nat} {a b:List Int} (h1:bt a∧∀ z ∈ a,0 ≤ z∧z < (c:Int)) (h2:bt b∧∀ z ∈ b,0 ≤ z∧z < (c:Int)):bt (bP a b)∧∀ z ∈ bP a b,0 ≤ z∧z < (c:Int):=⟨ed h1.1 h2.1,fun z hz=>by
 rcases(dl h1.1 h2.1).1 hz with q|q
 ·exact h1.2 z q.1
 ·exact h2.2 z q.1⟩
theorem RL.elF{c:Nat}{rows:List (List Int)}(h:RL c rows){n k i:Nat}(hn:n<rows.length)(hi:i<rows.length):bt (elF rows n k i)/\∀z∈elF rows n k i,0<=z/\z<(c:Int):=by
 unfold Go.Proofs.YtekdaafnjdlenaaGreat.elF;split
 ·exact RL.sum (h _ (ay hi)) (h _ (ay hn))
 ·exact h _ (ay hi)
theorem RL.elP{c:Nat}{rows:List (List Int)}(h:RL c rows){n k i:Nat}(hn:n<rows.length):RL c (elP rows n k i):=λr hr=>by
 unfold Go.Proofs.YtekdaafnjdlenaaGreat.elP at hr;obtain⟨j,hj,rfl⟩:=bJ.1 hr;have hj:=ef.1 hj;split
 ·exact h.elF hn hj
 ·exact h _ (ay hj)
theorem RL.swL{c:Nat}{rows:List (List Int)}(h:RL c rows){n k:Nat}(hn:n<rows.length)(hk:k<rows.length):RL c (swL rows n k):=λr hr=>by
 unfold Go.Proofs.YtekdaafnjdlenaaGreat.swL at hr;obtain⟨j,hj,rfl⟩:=bJ.1 hr;exact h _ (ay (ol hn hk (ef.1 hj)))
theorem Ey{c:Nat}{R:List (List Int)}(h:RL c R):∀{k:Nat},RL c (stR R k).1/\(stR R k).1.length=R.length/\(stR R k).2<=R.length
 |0=>⟨h,rfl,bz _⟩
 |k+1=>by
  obtain⟨h1,h2,h3⟩:=Ey h (k:=k);unfold stR;split
  ·exact⟨h1,h2,h3⟩
  ·rename_i p hp;obtain⟨p1,p2⟩:=xS hp;have hs:=h1.swL (n:=(stR R k).2) (k:=p) (by omega) p2;refine⟨?_,?_,?_⟩
   ·dsimp only;rw[<-Bk];exact hs.elP (by rw[rH];omega)
   ·dsimp only;unfold elL;rw[bk,List.length_range,rH];exact h2
   ·dsimp only;omega
theorem jo.one{H:Hp}{s:AV}{l:List (List Int)}(h:jo H s l):s.one=true/\s.cells=[s]:=by
 rcases h with rfl|h
 ·exact⟨rfl,rfl⟩
 ·exact h.one
theorem BN:∀k,stR [] k=([],0)
 |0=>rfl
 |k+1=>by
  unfold stR;rw[BN k];rfl
structure CmpO{α:Type}(P:Program)(f:α->AV)(K:α->α->Int)(G:α->Prop):Prop where
 cells:∀x,(f x).cells=[f x]
 one:∀x,(f x).one=true
 dat:∀x,Dat (f x)
 run:∀x y,G x->G y->Go.Abs.Pure P 187 [f x,f y] (.bool (decide (K x y<0)))
 ord:Ord K
theorem N1:Ord (λx y:Int=>x-y):=⟨λx=>by omega,λx y h=>by omega,λx y z h1 h2=>by omega⟩
section
attribute [local irreducible] aM ak bg aY aR aS aF aV a6 bj Go.Abs.Fn aX Go.Abs.Pure ar aL Yl
theorem tU(a:List Spx)(ha:ShC a):pU 75 [ao a] (.int .i64 (jV a)):=by
 refine pO NP ?_;simp only[b75,aG];have ha':a.length<=17592186044416:=ha.1;unfold jV;by_cases h0:4096<a.length
 ·rw[if_pos h0];refine wnZ (zI3 @af @ai @ah) ?_
  all_goals exact ey rfl
 rw[if_neg h0];refine wnZ (zI3 @af @ai @ah) ?_;refine lC (X:=Nat) (λk=>[(0,ao a),(9,ao a),(10,.int .i64 a.length),(11,.int .i64 k)]) (λk=>k<=a.length/\∀i,i<k->GD a i=0) (λk=>a.length-k) 0 ⟨bz _,λi h=>absurd h (by omega)⟩ ag0 ?_;rintro k ⟨h1,h2⟩;by_cases hk:k<a.length
 rotate_left
 ·rw[dL λi hi=>h2 i (by omega)];refine wnY and_self ?_;exact .int _ _
 have ix:=eh hk;have i0:=Nt (l:=a) (by omega);have hs1:=ha.2 _ (ay hk);have hp:=py (a.getD k default) hs1;have hsp:=Ag (a:=a) (k:=k);by_cases he:b6 (a.getD k default)≠0
 ·rw[if_pos he] at hsp;rw[di hk h2 (by rw[hsp];exact he),hsp];have z:decide (b6 (a.getD k default)≠0)=true:=aZ he;refine wnY (zI4 @af @au @ix @z) ?_;exact .int _ _
 rw[if_neg he] at hsp;have he:=sI he;rw[he] at hp;have z:decide ((0:Int)≠0)=false:=rfl;by_cases hl:(a.getD k default).length≠(a.getD 0 default).length
 ·rw[if_pos hl] at hsp;rw[di hk h2 (by rw[hsp];decide),hsp];have z1:decide (((a.getD k default).length:Int)≠(a.getD 0 default).length)=true:=aZ (by omega);refine wnY (zI6 @af @au @ix @i0 @z @z1) ?_;exact .int _ _
 rw[if_neg hl] at hsp;have z1:decide (((a.getD k default).length:Int)≠(a.getD 0 default).length)=false:=aW (by omega);by_cases hk0:0<k
 rotate_left
 ·rw[if_neg (λh=>hk0 h.1)] at hsp;have zk:decide (0<(k:Int))=false:=aW (by omega);refine wnY (zI7 @af @au @ix @i0 @z @z1 @zk) ?_
  exact ⟨k + 1,⟨by omega,fun i hi=>by
   rcases jf.1 hi with h'|rfl
   ·exact h2 i h'
   ·exact hsp⟩,by omega,ag0,rfl,rfl⟩
 have zk:decide (0<(k:Int))=true:=aZ (by omega)
 have iy:eG 1 (ao a) (.int .i64 ((k:Int)-1))=some (.iptr [aD (a.getD (k-1) default)] 0):=by
  have:=eh (l:=a) (k:=k-1) (by omega)
  rwa [show((k-1:Nat):Int)=(k:Int)-1 by omega] at this
 have hcm:=gJ (a.getD (k-1) default) (a.getD k default) (ha.2 _ (ay (by omega))) hs1;by_cases hv:0<=bq (a.getD (k-1) default) (a.getD k default)
 ·have z2:decide (0<=bq (a.getD (k-1) default) (a.getD k default))=true:=aZ hv;rw[if_pos ⟨hk0,hv⟩] at hsp;rw[di hk h2 (by rw[hsp];decide),hsp];refine wnY (zI9 @af @au @ix @i0 @iy @z @z1 @zk @z2) ?_;exact .int _ _
 ·have z2:decide (0<=bq (a.getD (k-1) default) (a.getD k default))=false:=aW hv;rw[if_neg (λh=>hv h.2)] at hsp;refine wnY (zI9 @af @au @ix @i0 @iy @z @z1 @zk @z2) ?_
  exact ⟨k + 1,⟨by omega,fun i hi=>by
   rcases jf.1 hi with h'|rfl
   ·exact h2 i h'
   ·exact hsp⟩,by omega,ag0,rfl,rfl⟩
def ut(a:List Spx):Bool:=((a.take 50).all λs=>decide (s.length<=10))&&(decide (a.length<=40) || decide (4096<a.length))
theorem IL(a:List Spx)(ha:ShC a):pU 40 [ao a] (.bool (ut a)):=by
 refine pO N7 ?_;simp only[b40,aG];have ha':a.length<=17592186044416:=ha.1;have hlt:(a.take 50).length=min 50 a.length:=fL;refine wnZ @af ?_;refine lC (X:=Nat) (λk=>[(0,ao a),(3,.int .i64 k)]) (λk=>k<=(a.take 50).length/\∀i,i<k->decide (((a.take 50).getD i default).length<=10)=true) (λk=>(a.take 50).length-k) 0 ⟨bz _,λi h=>absurd h (by omega)⟩ ag0 ?_;rintro k ⟨h1,h2⟩;by_cases hk:k<(a.take 50).length
 rotate_left
 ·have e:ut a=(decide (a.length<=40) || decide (4096<a.length)):=by
    unfold ut;rw[kr λi hi=>h2 i (by omega),Bool.true_and]
  rw[e];by_cases h3:a.length<=40
  ·have y1:decide ((a.length:Int)<=40)=true:=aZ (by omega);have y2:decide ((k:Int)<a.length)=false:=aW (by omega);rw[aZ h3];refine wnY (zI3 @af @y1 @y2) ?_;exact .bool _
  ·have y1:decide ((a.length:Int)<=40)=false:=aW (by omega);rw[aW h3,Bool.false_or];by_cases h4:k<a.length
   ·have y2:decide ((k:Int)<a.length)=true:=aZ (by omega);have y3:decide ((k:Int)<50)=false:=aW (by omega);refine wnY (zI4 @af @y1 @y2 @y3) ?_;exact ci (decide_eq_decide.2 (by omega))
   ·have y2:decide ((k:Int)<a.length)=false:=aW (by omega);refine wnY (zI3 @af @y1 @y2) ?_;exact ci (decide_eq_decide.2 (by omega))
 have hk1:k<a.length:=by omega
 have ix:=eh hk1;have e:(a.take 50).getD k default=a.getD k default:=qe (by omega);have y2:decide ((k:Int)<a.length)=true:=aZ (by omega);have y3:decide ((k:Int)<50)=true:=aZ (by omega);by_cases hs:(a.getD k default).length<=10
 ·have y4:decide ((10:Int)<(a.getD k default).length)=false:=aW (by omega);refine wnY (zI6 @af @au @ix @y2 @y3 @y4) ?_
  exact ⟨k + 1,⟨by omega,fun i hi=>by
   rcases jf.1 hi with h'|rfl
   ·exact h2 i h'
   ·rw[e];exact aZ hs⟩,by omega,ag0,rfl,rfl⟩
 ·have y4:decide ((10:Int)<(a.getD k default).length)=true:=aZ (by omega)
  have e2:ut a=false:=by
   unfold ut;rw[iZ hk (by rw[e];exact aW hs),Bool.false_and]
  rw[e2];refine wnY (zI6 @af @au @ix @y2 @y3 @y4) ?_;exact .bool _
theorem vO(l:List Spx)(hl:l.length<=100000)(hs:∀x∈l,x.length<=1000000):pU 84 [ao l] (ao l):=by
 refine pO N2 ?_;simp only[b84,aG];refine wnZ @af ?_;refine bA (X:=AV×Nat) (λx=>[(3,x.1),(6,ao l),(7,.int .i64 l.length),(8,.int .i64 x.2)]) (λx H nx=>x.2<=l.length/\Row H 1 x.1 ((l.take x.2).map aD)/\∀b,bv x.1=some b->b<nx) (λx=>l.length-x.2) (.esl,0) ⟨bz _,Row.nil,λb hb=>(by cases hb)⟩ ag0 ?_;rintro⟨s,j⟩ H nx ⟨h1,h2,h3⟩;dsimp only at h1 h2 h3 |-;by_cases hj:j<l.length
 ·have hw:=ay hj;have hcl:=Dq _ (hs _ hw);have ix:=eh hj;refine wnY @ix ?_;refine fT ev0 ev0 hcl (ag (dt _ _) an) ?_;refine wnY (aI @bb @aQ) ?_;refine f9 rfl ev0 (h2.same λb hb=>?_) ev0 dQ rfl rfl jb (by simp;omega) (by simp;omega) ?_
  ·have:=h3 b hb;rw[ac (by omega)]
  rintro s2 E e hrow hle1 hle2 hsame hb2;refine wnY and_self ?_;refine⟨(s2,j+1),by dsimp only;omega,⟨by dsimp only;omega,?_,λb hb=>?_⟩,ag0⟩
  ·dsimp only;rw[A7 hj,cp];exact hrow
  ·rcases hb2 b hb with h|h
   ·have:=h3 b h;omega
   ·omega
 ·refine wnY and_self ?_;rw[fI (by omega)] at h2;exact gq h2
theorem Dj(l:List Spx)(hl:Shn l)(hs:∀x∈l,x.length<=1000000):pU 76 [ao l] (.tup [ao (if 4096<l.length then [] else l),.int .i64 (if 4096<l.length then 5 else 0)]):=by
 refine pO Od ?_;simp only[b76,aG];have hl':l.length<=17592186044416:=hl;by_cases h:4096<l.length
 ·have z:decide ((4096:Int)<l.length)=true:=aZ (by omega);rw[if_pos h,if_pos h];refine wnY (aI @af @z) ?_;exact d4 (.eslsl _) rfl
 ·have z:decide ((4096:Int)<l.length)=false:=aW (by omega);rw[if_neg h,if_neg h];have hc:=vO l (by omega) hs;refine wnY (aI @af @z) ?_;exact d4 (bK _).snap rfl
theorem l8{a:List Spx}(h:∀s∈a,b6 s=0):∀s∈a,Shn s:=λs hs=>by have:=(cA (h s hs)).2.1;show _<=_;omega
theorem zt{a:List Spx}(h:∀s∈a,b6 s=0):∀s∈a,s.length<=1000000:=λs hs=>by have:=(cA (h s hs)).2.1;omega
theorem Gr(n:Nat)(h0:0<n)(h1:n<=1000000)(H:Hp)(nx:Nat):Abs.Fn Tryz.prog 161 [.esl,.int .i64 n] H nx λr H' nx'=>r=.msl nx (n*2) 2 0 0/\H'=ap H nx (bD (.agg [.int .i64 0,.int .i64 0]) n)/\nx'=nx+1:=by
 refine fO Mn ?_;simp only[MC,aG];have z1:decide ((n:Int)<0)=false:=aW (by omega);have z2:decide ((0:Int)<n)=true:=aZ (by omega);have s2:jO 2 .esl none (some (.int .i64 0)) none=some .esl:=rfl;have s3:=Au (B:=nx) (n:=n*2) (len:=n) (k:=0) (by omega) (by omega);rw[show((0:Nat):Int)=0 from rfl] at s3;refine wnY (zI6 @z1 @z2 @s2 @Int.sub_zero @Int.sub_self @He) ?_;refine JZ rfl (have zz:=@s2;evY) ev0 (by omega) (by omega) (by omega) ?_;refine wnY @s3 ?_;exact⟨rfl,rfl,rfl⟩
theorem wY{c:List Spx}{k:Nat}(hk:k<c.length):(c.take (k+1)).flatten=(c.take k).flatten++c.getD k default:=by
 rw[bZ hk,List.flatten_append];simp
theorem DA(c:List Spx)(hpos:0<c.flatten.length)(hl:c.flatten.length<=1000000)(hc:c.length<=1000000)(H:Hp)(nx:Nat):
    Abs.Fn Tryz.prog 141 [ao c] H nx λr H' nx'=>r=.msl nx (c.flatten.length*2) 2 0 c.flatten.length/\H'=ap H nx (cX c.flatten)/\nx'=nx+1:=by
 refine fO LR ?_;simp only[Nq,aG]
 have hle:∀k,(c.take k).flatten.length<=c.flatten.length:=λk=>by
  have:c.flatten=(c.take k).flatten++(c.drop k).flatten:=by rw[<-List.flatten_append,Ep]
  rw[this,cw];omega
 refine dI ?_
 repeat' (first|apply a_n|refine zO ?_|refine vY ?_|fail)
 refine dI ?_
 repeat' (first|apply a_n|refine zO ?_|refine vY ?_|fail)
 refine bn (λT H' nx'=>T 0=ao c/\T 3=.int .i64 (c.flatten.length:Nat)/\H=H'/\nx=nx') ?_ ?_
 ·refine wnY @af ?_;refine lC (X:=Nat) (λk=>[(0,ao c),(3,.int .i64 ((c.take k).flatten.length:Nat)),(9,ao c),(10,.int .i64 c.length),(11,.int .i64 (k:Nat))]) (λk=>k<=c.length) (λk=>c.length-k) 0 (by omega) (by simp (disch:=omega) only[agr,ZG,reduceEqDiff,↓reduceIte,List.take_zero,List.flatten_nil,dp]<;>simp) ?_;intro k hk;by_cases hk2:k<c.length
  rotate_left
  ·rw[fI (by omega)];refine wnY and_self ?_;exact⟨rfl,rfl,rfl,rfl⟩
  have ix:=eh hk2;have hle2:=hle (k+1);have e:(((c.take (k+1)).flatten.length:Nat):Int)=((c.take k).flatten.length:Nat)+((c.getD k default).length:Nat):=by rw[wY hk2,cw];omega
  rw[wY hk2,cw] at hle2;have z:decide ((((c.take k).flatten.length:Nat):Int)+((c.getD k default).length:Nat)<0)=false:=aW (by omega);generalize c.getD k default=s at *;refine wnY (zI3 @ix @au @z) ?_;exact⟨k+1,by omega,by omega,(have zz:=@e;agZ),rfl,rfl⟩
 rintro T _ _ ⟨t0,t3,rfl,rfl⟩;refine wnY @t3 ?_;refine aO ev0 (have zz:=@t3;evY) (Gr c.flatten.length (by omega) (by omega) H nx) ?_;rintro _ _ _ ⟨rfl,rfl,rfl⟩;refine wnY (aI @t0 @af) ?_;refine bA (X:=Nat) (λk=>[(6,.msl nx (c.flatten.length*2) 2 0 (c.take k).flatten.length),(25,ao c),(26,.int .i64 c.length),(27,.int .i64 (k:Nat))]) (λk H' nx'=>k<=c.length/\(∃C,H'=ap H nx C/\C.length=c.flatten.length*2/\C.take ((c.take k).flatten.length*2)=cX (c.take k).flatten)/\nx'=nx+1) (λk=>c.length-k) 0 ⟨by omega,⟨_,rfl,GU _,rfl⟩,rfl⟩ (by simp (disch:=omega) only[agr,ZG,reduceEqDiff,↓reduceIte,List.take_zero,List.flatten_nil,dp]) ?_;rintro k _ _ ⟨hk,⟨C,rfl,h1,h2⟩,rfl⟩;by_cases hk2:k<c.length
 rotate_left
 ·have ek:c.take k=c:=fI (by omega);rw[ek] at h2 |-;rw[fI (by omega)] at h2;subst h2;refine wnY and_self ?_;exact⟨rfl,rfl,rfl⟩
 have ix:=eh hk2;have hle2:=hle (k+1);have e:=wY hk2;rw[e,cw] at hle2;have hcl:=gL (c.getD k default);have hcp:=gL (c.take k).flatten;generalize c.getD k default=s at *;refine wnY @ix ?_;refine Jp (b:=nx) (N:=c.flatten.length*2) (len:=(c.take k).flatten.length) (n:=s.length) (C:=C) rfl ev0 ae h1 ev0 vn (kN _) (by rw[hcl]) (by omega) (by omega) (by omega) (by omega) (by omega) λC2 c1 c2=>?_;refine wnY and_self ?_;refine⟨k+1,by omega,⟨by omega,⟨_,aC _ _ _ _,c1,?_⟩,rfl⟩,by simp (disch:=omega) only[agr,ZG,reduceEqDiff,↓reduceIte,e,cw]⟩;rw[e,mP,cw,<-h2];exact c2
theorem Ov{P:Program}{T:Tm}{H S:Hp}{nx n:Nat}{K:SP}{l:List (Op2×Nat)}{d:Option Nat}{i:Ins}{t:Nat}{w:Bool}(h:T t=.bool w)(k:bf P S ((⟨d,none,i⟩,n)::l) T H nx K):bf P S ((⟨d,some (t,w),i⟩,n)::l) T H nx K:=by
 have e:g2 T (some (t,w))=some true:=by simp[g2,h]
 cases n with
 |zero=>show aV (g2 T (some (t,w))) _ _;rw[e];exact k
 |succ n=>show aV (g2 T (some (t,w))) _ _;rw[e];exact k
theorem CH(x y:Spx)(h:0<(x++y).length)(hl:(x++y).length<=1000000):PureF Tryz.prog 141 [ao [x,y]] (aD (x++y)):=by
 refine PureF.of_fn ?_;have e:[x,y].flatten=x++y:=by simp
 have hc:=DA [x,y] (by rw[e];exact h) (by rw[e];exact hl) (by simp) bF 0;rw[e] at hc;refine Abs.Fn.mono hc ?_;rintro _ _ _ ⟨rfl,rfl,rfl⟩;exact rA (Row.box _ (x++y).length (cX (x++y)) ae (gL _))
theorem vu(s:Spx)(H:Hp)(nx:Nat):Abs.Fn Tryz.prog 129 [aD s] H nx λr H' nx'=>r=.func 154 [.ptr nx 1 0]/\H'=ap H nx [aD s]/\nx'=nx+1:=by
 refine fO Kn ?_;simp only[Mh,aG];refine wnY (aI @bb @aQ) ?_;exact⟨rfl,rfl,rfl⟩
theorem DW{H:Hp}{b:Nat}{x y:Spx}(h:H b=some [aD x,aD y]):aL H [.msl b 2 1 0 2] [ao [x,y]]:=
 ag (uU (l:=[aD x,aD y]) h rfl rfl (by
  intro z hz;simp only[c9,List.not_mem_nil,or_false] at hz;rcases hz with rfl|rfl
  ·exact⟨rfl,dt _⟩
  ·exact⟨rfl,dt _⟩)) an
theorem wj{s:Spx}(h:2<=s.length):(fcs s).length=s.length:=by
 unfold fcs;rw[if_neg (by omega),wS]
theorem Br{s:Spx}{i:Nat}(h:2<=s.length)(hi:i<s.length):(fcs s).getD i default=s.take i++s.drop (i+1):=by
 unfold fcs;rw[if_neg (by omega),BA hi]
theorem uW{y sb:Nat}{s:Spx}{H:Hp}{nx:Nat}(hs:s.length<=1000)(I:List Spx->Hp->Nat->Prop)
    (hp:∀D H nx,I D H nx->H sb=some [aD s])
    (stab:∀D H H' nx1 nx',I D H nx1->nx1<=nx'->(∀i,i<nx1->H' i=H i)->I D H' nx')
    (rnd:∀D f H nx1,I D H nx1->D.length<(fcs s).length->f=(fcs s).getD D.length default->D=(fcs s).take D.length->Yl Tryz.prog y [aD f] H nx1 λr H' nx'=>r=.bool true/\I (D++[f]) H' nx')
    (h0:I [] H nx):
    Abs.Fn Tryz.prog 154 [.yld y,.ptr sb 1 0] H nx λ_ H' nx'=>I (fcs s) H' nx':=by
 refine fO Kz ?_;simp only[KH,aG];have g1:=hp _ _ _ h0;refine wnY (zI4 @g1 @bb @aQ @au) ?_;by_cases h2:2<=s.length
 rotate_left
 ·have e:fcs s=[]:=by unfold fcs;rw[if_pos (by omega)]
  rw[e];refine bA (X:=Nat) (λk=>[(0,.yld y),(1,.ptr sb 1 0),(5,.int .i64 s.length),(6,.int .i64 k)]) (λk H' nx'=>k<=s.length/\I [] H' nx') (λk=>s.length-k) 0 ⟨bz _,h0⟩ ag0 ?_;rintro k H1 nx1 ⟨h1,hI⟩;have q1:=hp _ _ _ hI;by_cases hk:k<s.length
  rotate_left
  ·refine wnY and_self ?_;exact hI
  have z:decide ((1:Int)<s.length)=false:=aW (by omega);refine wkY (zI5 @q1 @bb @aQ @au @z) ?_;exact⟨k+1,by omega,⟨by omega,hI⟩,ag0⟩
 have z:decide ((1:Int)<s.length)=true:=aZ (by omega);have hfl:=wj h2;have hfg:=λ{i:Nat}(hi:i<s.length)=>Br (i:=i) h2 hi;refine bA (X:=Nat) (λk=>[(0,.yld y),(1,.ptr sb 1 0),(5,.int .i64 s.length),(6,.int .i64 k)]) (λk H' nx'=>k<=s.length/\I ((fcs s).take k) H' nx') (λk=>s.length-k) 0 ⟨bz _,h0⟩ ag0 ?_;rintro k H1 nx1 ⟨h1,hI⟩;have q1:=hp _ _ _ hI;by_cases hk:k<s.length
 rotate_left
 ·rw[fI (by omega)] at hI;refine wnY and_self ?_;exact hI
 have a1:jO 2 (aD s) none (some (.int .i64 (k:Int))) none=some (aD (s.take k)):=xm (by omega);have a2:jO 2 (aD s) (some (.int .i64 ((k:Int)+1))) none none=some (aD (s.drop (k+1))):=sL (k:=k+1) (by omega);have hc:=CH (s.take k) (s.drop (k+1)) (by rw[cw,fL,wO];omega) (by rw[cw,fL,wO];omega);have hr:=rnd ((fcs s).take k) ((fcs s).getD k default) (ap H1 nx1 [aD (s.take k),aD (s.drop (k+1))]) (nx1+1) (stab _ _ _ _ _ hI (by omega) λi hi=>ac (by omega)) (by rw[fL];omega) (by rw[fL,Nat.min_eq_left (by omega)]) (by rw[fL,Nat.min_eq_left (by omega)]);rw[<-bZ (by omega),hfg hk] at hr;refine wnY (zI7 @q1 @bb @aQ @au @z @a1 @a2) ?_;refine w_mix1 sb q1 λS0 hS1 hsub=>?_;simp only[fY,List.map_nil,List.getD_cons_succ,List.getD_cons_zero];have zz:=aI @hS1 (aI @bb (aI @aQ (aI @au (aI @z (aI @a1 @a2)))));repeat' (first|apply a_n|refine zO ?_|refine nvY ?_|apply jc|refine blY ?_|fail)
 repeat (refine Ov ev0 ?_;skip)
 refine fT ev0 ev0 hc (DW (by rw[ae])) ?_
 repeat' (first|apply a_n|refine zO ?_|apply jc|fail)
 refine xu ev0 ev0 (Yl.mono hr ?_);rintro v H3 nx3 ⟨rfl,e1⟩;refine wnY and_self ?_;exact⟨k+1,by omega,⟨by omega,e1⟩,ag0⟩
theorem FT{n:Nat}{c:Spx->Nat}{O:List Spx}{bs:List Nat}{ck:Nat}{f:Spx}{H:Hp}(hn:n<=8)(h:BOk H n c O bs ck)(hf:f.length=n):
    de (.st [.int,.int,.int,.int,.int,.int,.int,.int,.int,.int,.int,.int,.int,.int,.int,.int]) (eK (kZ f)) ((O.map kZ).map eK)=some (if f∈O then some (O.idxOf f) else none):=by
 rw[Gq,EG hn hf h.all];by_cases e:f∈O
 ·rw[if_pos e,if_pos ((FQ hn h.all hf).2 e)]
 ·rw[if_neg e,if_neg λq=>e ((FQ hn h.all hf).1 q)]
theorem r9(a:List Spx)(n:Nat)(hn:n<=8)(ha:a.length<=4096)(hv:∀s∈a,cl cI s)(hl:∀s∈a,s.length=n+1\/s.length<2)(h8:∀s∈a,s.length<=8):pU 77 [ao a] (ao (cV a)):=by
 refine pO Oj ?_;simp only[b77,aG];refine dI ?_
 repeat' (first|apply a_n|refine zO ?_|refine vY ?_|fail)
 refine dI ?_;refine wnY and_self ?_;refine IW ?_;refine rC (cs:=[.nilm]) rfl rfl rfl ?_
 repeat' (first|apply a_n|refine zO ?_|refine stY ?_|fail)
 refine bn (λT H nx=>T 3=.ptr 1 1 0/\2<=nx/\H 1=some [.mp 0]/\∃O bs ck,BOk H n (n9 a) O bs ck) ?_ ?_
 ·refine wnY @af ?_;refine lpI (X:=Nat) (λk=>[(3,.ptr 1 1 0),(14,ao a),(15,.int .i64 a.length),(16,.int .i64 k)]) (λk H nx=>k<=a.length/\2<=nx/\H 1=some [.mp 0]/\∃O bs ck,BOk H n (n9 (a.take k)) O bs ck) (λk=>a.length-k) 0 ⟨bz _,aN _,by rw[ae];rfl,[],[],0,⟨by rw[ac (by omega),ac (by omega),ae];rfl,rfl,pp,λs h=>(by cases h),List.nodup_nil,λs h=>(by cases h),λf=>⟨λh=>(by cases h),λh=>absurd h (by rw[List.take_zero];exact(by decide:¬(0:Nat)%2=1))⟩⟩⟩ ?_;rintro k H nx ⟨h1,h2,h3,O,bs,ck,h4⟩;by_cases hk:k<a.length
  rotate_left
  ·rw[fI (by omega)] at h4;refine wnY and_self ?_;exact⟨rfl,h2,h3,O,bs,ck,h4⟩
  have ix:=eh hk;have hts:=bZ hk;have hvs:=hv _ (ay hk);have hls:=hl _ (ay hk);have h8s:=h8 _ (ay hk);generalize a.getD k default=s at *;refine wnY @ix ?_;refine aO ev0 ev0 (vu s H nx) ?_;rintro _ H1 nx1 ⟨rfl,rfl,rfl⟩;refine wnY and_self ?_;refine na (nx+1) (nx+2) rfl rfl ev0 (λc0 cj hy=>?_);refine Abs.Fn.mono (uW (nx:=nx+2) (y:=nx+1) (sb:=nx) (s:=s) (by omega) (λD H' nx'=>nx+2<=nx'/\H' nx=some [aD s]/\H' (nx+1)=some [c0]/\H' 1=some [.mp 0]/\∃O bs ck,BOk H' n (λf=>n9 (a.take k) f+D.count f) O bs ck) ?_ ?_ ?_ ?_) ?_
  ·rintro D H' nx' ⟨g1,g2,g3,g4⟩;exact g2
  ·rintro D H' H'' n1 n2 ⟨g1,g2,g3,g4,O,bs,ck,g5⟩ hle hsm;exact⟨by omega,(hsm _ (by omega)).trans g2,(hsm _ (by omega)).trans g3,(hsm _ (by omega)).trans g4,O,bs,ck,g5.same (hsm _ (by omega)) λ_=>rfl⟩
  ·rintro D f H' nx' ⟨g1,g2,g3,g4,O,bs,ck,g5⟩ hlt hfe hDe;refine hy _ _ _ _ g3 rfl ?_;clear hy
   have h2s:2<=s.length:=Nat.le_of_not_lt λh=>by
    have:fcs s=[]:=by unfold fcs;rw[if_pos h]
    rw[this] at hlt;simp at hlt
   have hfl:f.length=n:=by
    rw[hfe,Br h2s (by rw[wj h2s] at hlt;exact hlt),cw,fL,wO];rw[wj h2s] at hlt;omega
   clear hfe hDe;refine wnY and_self ?_;refine⟨g3,?_⟩;have hmf:=FT hn g5 hfl;have q0:=(b9 (H:=H') (b:=nx+1) (x:=0) (by omega)).trans g5.box;have q1:=(b9 (H:=H') (b:=nx+1) (x:=1) (by omega)).trans g4;have q2:=(b9 (H:=H') (b:=nx+1) (x:=nx) (by omega)).trans g2;generalize cW H' (nx+1)=H2 at *;refine wnY and_self ?_;generalize hH3:ap H2 nx' z16=H3;have p0:H3 0=H2 0:=by rw[<-hH3];exact ac (by omega)
   have p1:H3 1=H2 1:=by rw[<-hH3];exact ac (by omega)
   have p2:H3 nx=H2 nx:=by rw[<-hH3];exact ac (by omega)
   have p3:H3 nx'=some z16:=by rw[<-hH3];exact ae
   clear hH3;refine IB rfl p3 rfl rfl ?_;refine wnY and_self ?_;refine Io (n:=f.length) (H':=ap H3 nx' ((gY 8 f).map (AV.int .i64))) ?_ ?_
   ·((try simp only[b7,ZA,reduceEqDiff,↓reduceIte,reduceAdd,reduceLeDiff]);(try with_reducible rfl))
    have hnn:fE (aD f)=some f.length:=by unfold aD iS;simp[fE]
    have htr:ve f.length (aD f)=aD f:=by unfold aD iS;simp[ve];exact fI (by simp)
    have hmin:min f.length 8=f.length:=Nat.min_eq_left (by omega);have hal:fE (.msl nx' 16 2 0 8)=some 8:=rfl
    have hlp:br z16 0 (cX f)=(gY 8 f).map (AV.int .i64):=by
     rw[<-yg (n:=8) (s:=f) (by omega),Jb];simp only[br,List.take_zero,List.nil_append,bS,gL]
    by_cases hf0:f.length=0
    ·obtain rfl:=fA.1 hf0;have e0:(gY 8 []).map (AV.int .i64)=z16:=rfl;rw[e0,<-Cp p3];simp only[sC,hal,hnn,hmin];rfl
    ·simp only[sC,hal,hnn,hmin,if_neg hf0,p3,htr,vn];rw[if_pos (by refine⟨?_,?_,?_,?_⟩<;>first|rfl|trivial|omega|exact kN f),hlp]
   have hl16:((gY 8 f).map (AV.int .i64)).length=16:=by rw[bk,pC]
   have ht:((gY 8 f).map (AV.int .i64)).take 16=(gY 8 f).map (AV.int .i64):=fI (by omega);have r0:=(ac (H:=H3) (b:=nx') (x:=0) (cs:=(gY 8 f).map (AV.int .i64)) (by omega)).trans (p0.trans q0);have r1:=(ac (H:=H3) (b:=nx') (x:=1) (cs:=(gY 8 f).map (AV.int .i64)) (by omega)).trans (p1.trans q1);have r2:=(ac (H:=H3) (b:=nx') (x:=nx) (cs:=(gY 8 f).map (AV.int .i64)) (by omega)).trans (p2.trans q2);have r3:ap H3 nx' ((gY 8 f).map (AV.int .i64)) nx'=some ((gY 8 f).map (AV.int .i64)):=ae;generalize ap H3 nx' ((gY 8 f).map (AV.int .i64))=H4 at *;have hek:eK (kZ f)=.agg ((gY 8 f).map (AV.int .i64)):=rfl;have hkf:=BZ (kZ f);rw[hek] at hmf hkf;have hcnt:∀g,n9 (a.take k) g+(D++[f]).count g=n9 (a.take k) g+D.count g+if g=f then 1 else 0:=λg=>AN
   by_cases hf:f∈O
   ·rw[if_pos hf] at hmf;have hil:O.idxOf f<O.length:=pX.2 hf
    have hgv:mget .esl true (some (O.idxOf f)) (O.map aD)=.tup [aD (O.getD (O.idxOf f) default),.bool true]:=by
     rw[<-vw hil];rfl
    generalize hKK:(gY 8 f).map (AV.int .i64)=KK at *;refine wnY (zI4 @r1 @r3 @hl16 @ht) ?_;refine Bz ev0 r0 ev0 hkf hmf ?_;rw[hgv];refine wnY (zI4 @r1 @r3 @hl16 @ht) ?_;refine Jl ev0 r0 ev0 hkf hmf ?_;refine wnY and_self ?_;exact⟨rfl,by omega,by rw[ac (by omega),ac (by omega)];exact r2,ae,by rw[ac (by omega),ac (by omega)];exact r1,O.erase f,bs.eraseIdx (O.idxOf f),ck,g5.del hf rfl (by rw[ac (by omega),ae];rfl) hcnt⟩
   ·rw[if_neg hf] at hmf;have hgv:mget .esl true none (O.map aD)=.tup [.esl,.bool false]:=rfl;generalize hKK:(gY 8 f).map (AV.int .i64)=KK at *;refine wnY (zI4 @r1 @r3 @hl16 @ht) ?_;refine Bz ev0 r0 ev0 hkf hmf ?_;rw[hgv];refine wnY (zI4 @r1 @r3 @hl16 @ht) ?_;refine HW ev0 r0 ev0 ev0 hkf hmf ?_;refine wnY and_self ?_;exact⟨rfl,by omega,by rw[ac (by omega),ac (by omega)];exact r2,ae,by rw[ac (by omega),ac (by omega)];exact r1,O++[f],bs++[ck],ck+1,g5.put hf hfl (by rw[ac (by omega),ae,hek];rfl) hcnt⟩
  ·exact⟨aN _,by rw[ac (by omega),ae],ae,by rw[ac (by omega),ac (by omega)];exact h3,O,bs,ck,h4.same (by rw[ac (by omega),ac (by omega)]) λf=>by simp⟩
  ·rintro r H' nx' ⟨g1,g2,g3,g4,O,bs,ck,g5⟩;refine .inl ⟨g3,?_⟩;refine wnY and_self ?_;exact⟨k+1,by omega,⟨by omega,by omega,by rw[b9 (by omega)];exact g4,O,bs,ck,g5.same (b9 (by omega)) λf=>by rw[hts,Dt,sk.count_eq]⟩,ag0⟩
 rintro T H nx ⟨t3,h2,h3,O,bs,ck,h4⟩
 have hO70:O.length<=300000:=by
  have he:=kQ hv;have h5:O.length<=(cV a).length:=ik h4.nd λf hf=>(he.2 f).2 ((h4.odd f).1 hf);have:=v6 h8;omega
 refine wnY (aI @t3 @h3) ?_;refine Hr ev0 h4.box ?_;refine wnY and_self ?_;have hbn:bs.Nodup:=yO (λ{x y}(h:x<y) e=>by omega) h4.asc;refine lpI (X:=List Nat×List Spx×AV) (λx=>[(10,x.2.2),(40,.itr nx)]) (λx H' nx'=>H' nx=some [.biter 0 ck x.1]/\nx<nx'/\BOk H' n (n9 a) O bs ck/\x.1.Nodup/\(∀s∈x.1,s∈bs)/\x.2.1=x.1.map (λs=>O.getD (bs.idxOf s) default)/\Row H' 1 x.2.2 (x.2.1.map aD)/\∀b,bv x.2.2=some b->nx<b/\b<nx') (λx=>bs.length-x.1.length) ([],[],.esl) ⟨ae,xl _,h4.same (ac (by omega)) λ_=>rfl,List.nodup_nil,λs h=>(by cases h),rfl,Row.nil,λb h=>(by cases h)⟩ ?_;rintro⟨seen,D,sv⟩ H1 nx1 ⟨hit,hnx,k4,hsn,hsb,hD,hrow,hbd⟩;dsimp only at hit hsn hsb hD hrow hbd |-;have hsl:seen.length<=bs.length:=ik hsn hsb;have hDl:D.length=seen.length:=by rw[hD,bk]
 have hbl:=k4.len;refine wnY and_self ?_;refine Hd ev0 hit k4.box (λi s hi hns=>?_) (λhall=>?_)
 ·refine wnY and_self ?_;refine GG (i:=i) (s:=s) ev0 ae (by rw[ac (by omega)];exact k4.box) (by simp) hi ?_;obtain⟨hil,his⟩:=bM.1 hi;have hgx:=vw (O:=O) (i:=i) (by omega)
  have hidx:bs.idxOf s=i:=by
   have h5:=pX.2 (show s∈bs by rw[<-his];exact ns hil);have h6:bs[bs.idxOf s]=bs[i]:=by rw[List.getElem_idxOf h5,his]
   exact(List.getElem_inj hbn).1 h6
  have hsnd:(seen++[s]).Nodup:=zB.2 ⟨hsn,by simp,λx hx y hy e=>by rw[e,c6.1 hy] at hx;exact hns hx⟩
  have hssb:∀x∈seen++[s],x∈bs:=λx hx=>by
   rcases ee.1 hx with q|q
   ·exact hsb x q
   ·rw[c6.1 q,<-his];exact ns hil
  have hsl2:=ik hsnd hssb;rw[cw,List.length_singleton] at hsl2;refine wnY (zI3 @hgx @bb @aQ) ?_;refine eR (hrow.same λb hb=>?_) ?_
  ·have:=hbd b hb;rw[ac (by omega),ac (by omega)]
  rintro s2 H2 nx2 hr2 i1 i2 i3 i4;have lo:∀x,x<=nx->H2 x=ap H1 nx [.biter 0 ck (seen++[s])] x:=λx hx=>(i3 x (by omega) (λh=>by have:=hbd x h;omega)).trans (ac (by omega));refine wnY and_self ?_;refine⟨(seen++[s],D++[O.getD i default],s2),by dsimp only;rw[cw,List.length_singleton];omega,⟨(lo nx (aN _)).trans ae,by omega,k4.same ((lo 0 (by omega)).trans (ac (by omega))) λ_=>rfl,hsnd,hssb,?_,?_,λb hb=>?_⟩,ag0⟩
  ·dsimp only;rw[hD,cp,List.map_singleton,hidx]
  ·dsimp only;rw[cp];exact hr2
  ·rcases i4 b hb with h|h
   ·have:=hbd b h;omega
   ·omega
 ·have hperm:seen.Perm bs:=(List.perm_ext_iff_of_nodup hsn hbn).2 λx=>⟨hsb x,hall x⟩
  have hDO:D.Perm O:=by
   rw[hD];refine(hperm.map _).trans (List.Perm.of_eq ?_);refine List.ext_getElem (by rw[bk];exact hbl) λj g1 g2=>?_;rw[bk] at g1
   have h5:bs.idxOf bs[j]=j:=by
    have h5:=pX.2 (ns g1);have h6:bs[bs.idxOf bs[j]]=bs[j]:=List.getElem_idxOf h5;exact(List.getElem_inj hbn).1 h6
   rw[List.getElem_map,h5];simp[List.getD,g2]
  have hDn:D.Nodup:=hDO.nodup_iff.2 k4.nd;have hDm:∀s,s∈D↔s∈cV a:=λs=>by rw[hDO.mem_iff,k4.odd,(kQ hv).2]
  have hfin:=GR mG (Dx hv)
  have hsort:Abs.Fn Tryz.prog 130 [sv,.func 70 []] H1 nx1 λ_ H' nx'=>Row H' 1 sv ((cV a).map aD):=by
   generalize hcs:D.map aD=cs at hrow;cases hrow with
   |nil=>
    have hD0:D=[]:=List.map_eq_nil_iff.1 hcs;refine Abs.Fn.mono (ph rfl) ?_;rintro _ _ _ ⟨rfl,rfl⟩
    have:cV a=[]:=by
     rw[w5];intro s h;have:=(hDm s).2 h;rw[hD0] at this;cases this
    rw[this];exact Row.nil
   |box b len cs k1 k2=>
    obtain rfl:len=D.length:=by rw[<-hcs,bk] at k2;omega
    have hb:=hbd b rfl;subst hcs;by_cases h0:D.length=0
    ·have hD0:D=[]:=fA.1 h0
     have he:cV a=[]:=by
      rw[w5];intro s h;have:=(hDm s).2 h;rw[hD0] at this;cases this
     have hrw:Row H1 1 (.msl b (D.length*1) 1 0 D.length) ((cV a).map aD):=by
      have:=Row.box (H:=H1) (sz:=1) b D.length _ k1 (by rw[bk,Nat.mul_one]);rw[he];rwa [hD0] at this |-
     refine Abs.Fn.mono (ph (by rw[h0];rfl)) ?_;rintro _ _ _ ⟨_,e⟩;rw[e];exact hrw
    ·have hg:∀s∈D,Shn s:=λs h=>show s.length<=_ by have:=k4.all s (hDO.mem_iff.1 h);omega
     have hsf:=Bt Ke (L:=D) (b:=b) (nx:=nx1) (n:=D.length) k1 hb.2 rfl (by omega) hg (by omega);rw[Nat.mul_one];refine Abs.Fn.mono hsf ?_;rintro _ H' nx' ⟨L',ps,p1,p2⟩;have hlen:=p1.length_eq;have:=qX p1 (by rw[hlen];exact p2) hDn hDm;rw[hfin] at this;rw[<-this,<-hlen];have:=Row.box (H:=H') (sz:=1) b L'.length (L'.map aD) ps.at_ (by simp)
     rwa [Nat.mul_one] at this
  refine wnY and_self ?_;refine aO ev0 ev0 hsort ?_;rintro r H' nx' hr;refine wnY and_self ?_;exact gq hr
theorem uO{a:List Spx}(h:jV a=0):pU 77 [ao a] (ao (cV a)):=by
 obtain⟨h1,h2,h3,h4⟩:=oh h;by_cases h0:a=[]
 ·subst h0;exact r9 [] 0 (by omega) (by simp) (by simp) (by simp) (by simp)
 ·have hm:a.getD 0 default∈a:=ay (li.2 h0);have h5:=cA (h2 _ hm);exact r9 a ((a.getD 0 default).length-1) (by omega) h1 (oG h2) (λs hs=>.inl (by rw[h4 s hs];omega)) (E6 h2)
theorem zf{a:List Spx}(h:jV a=0):Shn (cV a)/\∀s∈cV a,s.length<=1000000:=by
 obtain⟨h1,h2,h3,h4⟩:=oh h;have:=v6 (E6 h2);exact⟨show _<=_ by omega,zt (u0 h2)⟩
theorem Hj(a:List Spx)(ha:ShC a):pU 29 [ao a] (.tup [ao (mI a).1,.int .i64 (mI a).2]):=by
 refine pO NR ?_;simp only[b29,aG];have f1:=tU a ha;unfold mI;by_cases h:jV a=0
 rotate_left
 ·have z:decide (jV a≠0)=true:=aZ h;rw[if_pos h];refine wnY @z ?_;exact d4 (.eslsl _) rfl
 rw[if_neg (λq=>q h)];have f2:=uO h;have f3:=Dj (cV a) (zf h).1 (zf h).2;have z:decide ((0:Int)≠0)=false:=rfl;rw[h] at f1
 have hfin:(if 4096<(cV a).length then(([]:List Spx),(5:Int)) else(cV a,0))=(if 4096<(cV a).length then [] else cV a,if 4096<(cV a).length then 5 else 0):=by
  split<;>rfl
 rw[hfin];refine wnY @z ?_;exact d4 (bK _).snap rfl
theorem Kv(a:List Spx)(ha:ShC a):pU 33 [ao a] (.tup [.bool (HQ a).1,.int .i64 (HQ a).2]):=by
 refine pO OQ ?_;simp only[b33,aG];have f1:=tU a ha;unfold HQ;by_cases h:jV a=0
 rotate_left
 ·have z:decide (jV a≠0)=true:=aZ h;rw[if_pos h];refine wnY @z ?_;exact Fb rfl rfl
 rw[if_neg (λq=>q h)];have f2:=uO h;have z:decide ((0:Int)≠0)=false:=rfl;have z2:decide ((((cV a).length:Nat):Int)=0)=decide (cV a=[]):=decide_eq_decide.2 (by rw[<-fA];omega);rw[h] at f1;refine wnY (zI3 @z @z2 @af) ?_;exact Fb rfl rfl
theorem yS(l:List Spx)(v:Spx)(hl:Shn l)(hs:∀c∈l,Shn c)(hv:Shn v)(ha:cl bq l):∃b:Nat,pU 80 [ao l,aD v] (.tup [.int .i64 b,.bool (decide (v∈l))])/\(v∈l->b<l.length/\l.getD b default=v):=by
 obtain⟨b,hb,h1,h2⟩:=s6 (λi=>bq (l.getD i default) v) l.length (λi j hij hj h=>mG.trans (eP ha hij hj) h);have hc:=Ar l v hl hs hv hb h1 h2
 have he:(decide (b<l.length)&&decide (bq (l.getD b default) v=0))=decide (v∈l)/\(v∈l->b<l.length/\l.getD b default=v):=by
  by_cases hm:v∈l
  ·obtain⟨i,hi,e⟩:=jW hm;have e':l.getD i default=v:=by simp[List.getD,hi,e]
   have hbi:b=i:=by
    rcases sG b i with h|h|h
    ·have h3:=h2 b (aN _) (by omega);have h4:=eP ha h hi;rw[e'] at h4;omega
    ·exact h
    ·have h3:=h1 i h;rw[e',gb] at h3;omega
   subst hbi;rw[aZ hi,aZ hm,e',aZ (gb v)];exact⟨rfl,λ_=>⟨hi,rfl⟩⟩
  ·rw[aW hm];refine⟨?_,λh=>absurd h hm⟩;by_cases hlt:b<l.length
   ·rw[aZ hlt,Bool.true_and,aW];intro h;exact hm (by rw[<-pq h];exact ay hlt)
   ·rw[aW hlt,Bool.false_and]
 rw[he.1] at hc;refine⟨b,?_,he.2⟩;refine pO Oh ?_;simp only[b80,aG];refine wnZ (zI4 @bb @aQ @ai @ah) ?_;exact bI (ag (.int _ _) (ag (.bool _) an))
theorem D2(c:List Spx)(d:Int)(hd:d<=1000)(hc:c.length<=50)(hs:∀s∈c,Shn s):pU 83 [bQ c,.int .i64 d] (.tup [ao (DX c d).1,.int .i64 (DX c d).2]):=by
 refine pO Oq ?_;simp only[b83,aG];unfold DX;by_cases h:d<0
 ·have z:decide (d<0)=true:=aZ h;rw[if_pos h];refine wnY (zI3 @z @ai @ah) ?_;exact d4 (.eslsl _) rfl
 ·have z:decide (d<0)=false:=aW h;rw[if_neg h];have hS:=k9 c (d+1) hc hs;refine wnY (zI3 @z @ai @ah) ?_;exact d4 (bK _).snap rfl
theorem J3(c:List Spx)(d:Int)(hc:c.length<=50)(hs:∀s∈c,Shn s):pU 112 [bQ c,.int .i64 d] (.tup [cQ (u6 c d).1.1 (u6 c d).1.2,.int .i64 (u6 c d).2]):=by
 refine pO LO ?_;simp only[Lz,aG];have hcc:=jr c (show _<=_ by omega) hs;unfold u6;by_cases he:aB c=0
 rotate_left
 ·rw[if_pos he];have z:decide (aB c≠0)=true:=aZ he;refine wnY (zI3 @ai @ah @z) ?_;exact jL (.eslsl _) rfl
 rw[if_neg (λh=>h he)];rw[he] at hcc;have z0:decide ((0:Int)≠0)=false:=rfl;by_cases hd:d<0\/8<=d
 ·rw[if_pos hd];have zz:=aI @ai (aI @ah @z0);repeat' (first|refine zW ?_|apply a_n|apply a_r|refine zO ?_|refine vY ?_|refine cY ?_ (hp:=hcc) (hs:=by(first|refine aJ ?_ rfl|apply a7);(repeat' (first|exact an|apply bw|apply a9|exact ct _));first|done|fail)|refine alY ?_|refine bxY ?_|refine stY ?_|refine gTY ?_|refine gFY ?_|refine cTY ?_|refine cFY ?_|(refine zGY ?_ ?_<;>(intro _hg;try (exfalso;omega)))|refine bR rfl ?_|refine r2Y ?_|fail)
  all_goals first|exact jL (.eslsl _) rfl|(exfalso;omega)
 rw[if_neg hd];have hX:=D2 c d (by omega) hc hs;have hY:=D2 c (d-1) (by omega) hc hs;rw[Ce he (by omega) (by omega)] at hX hY;rw[show d-1+1=d by omega] at hY;have hXl:=i9 (d:=d+1) hc he;have hYl:=i9 (d:=d) hc he;have hXm:=f0 (d:=d+1) he;have hYm:=l8 (f0 (d:=d) he);have hYa:=qu (c:=c) (d:=d);generalize aA c (d+1)=X at *;generalize aA c d=Y at *;have z1:decide (d<0)=false:=aW (by omega);have z2:decide (8<=d)=false:=aW (by omega);have hzc:bD (AV.agg [AV.esl]) Y.length=List.replicate Y.length .esl:=by simp[bD,AV.cells]
 refine wnY (zI6 @ai @ah @af @z0 @z1 @z2) ?_;refine xT (k1:=.i64) (k2:=.i64) (n:=Y.length) (m:=Y.length) rfl ev0 ev0 (by omega) (Int.le_refl _) (by omega) (by omega) ?_;rw[bN,hzc,Nat.mul_one];refine wnY @af ?_;refine lpI (X:=Nat×List AV) (λx=>[(4,.ptr 1 2 0),(9,.ptr 2 1 0),(10,.ptr 4 2 0),(56,ao X),(57,.int .i64 X.length),(58,.int .i64 x.1)]) (λx H' nx'=>x.1<=X.length/\5<=nx'/\H' 1=some [.int .i64 0,.esl]/\H' 2=some [ao Y]/\H' 4=some [.int .i64 X.length,.msl 3 Y.length 1 0 Y.length]/\MatOk H' 3 5 nx' Y.length (io X Y x.1) x.2) (λx=>X.length-x.1) (0,List.replicate Y.length .esl) ⟨bz _,aN _,by(repeat rw[ac (by omega)]);rw[ae],by(repeat rw[ac (by omega)]);rw[ae];rfl,by rw[ae];rfl,MatOk.new (by(repeat rw[ac (by omega)]);rw[ae]) (λj _=>rfl)⟩ ?_;rintro⟨k,vs⟩ H nx ⟨h1,h2,g1,g2,g4,hmat⟩;dsimp only at h1 h2 g1 g2 g4 hmat |-;by_cases hk:k<X.length
 rotate_left
 ·obtain rfl:k=X.length:=by omega
  have hst:Snap (ap H 1 [.int .i64 X.length,.msl 3 Y.length 1 0 Y.length]) (.msl 3 Y.length 1 0 Y.length) (bi (dH X Y)):=(hmat.same (hi':=nx) (G:=io X Y X.length) (ac (by omega)) (λx x1 x2 x3=>ac (by omega)) (aN _) (λj _=>rfl)).snap;refine wnY (aI @g4 @g1) ?_;exact jL hst rfl
 have ix:=eh hk;have hsim:=hXm _ (ay hk);have hF:∀i,io X Y (k+1) i=io X Y k i++if Y.getD i default∈cH (X.getD k default) then [k] else []:=λi=>vA
 generalize X.getD k default=s at *;obtain⟨p1,p2,p3,p4⟩:=cA hsim;refine wnY @ix ?_;refine aO ev0 ev0 (vu s _ _) ?_;rintro _ H1 nx1 ⟨rfl,rfl,rfl⟩;refine wnY and_self ?_;refine na (nx+2) (nx+3) rfl rfl ev0 (λc0 cj hy=>?_);refine Abs.Fn.mono (uW (nx:=nx+3) (y:=nx+2) (sb:=nx+1) (s:=s) (by omega) (λD H' nx'=>nx+3<=nx'/\H' (nx+1)=some [aD s]/\H' (nx+2)=some [c0]/\H' nx=some [.int .i64 (k:Int)]/\H' 1=some [.int .i64 0,.esl]/\H' 2=some [ao Y]/\H' 4=some [.int .i64 X.length,.msl 3 Y.length 1 0 Y.length]/\∃vs,MatOk H' 3 5 nx' Y.length (λi=>io X Y k i++if Y.getD i default∈D then [k] else []) vs/\∀j B,j<Y.length->bv (vs.getD j .undef)=some B->B<nx\/nx+3<=B) ?_ ?_ ?_ ?_) ?_
 ·rintro D H' nx' ⟨j1,j2,_⟩;exact j2
 ·rintro D H' H'' n1 n2 ⟨j1,j2,j3,j4,j5,j6,j7,vs,j8,j9⟩ hle hsm;exact⟨by omega,(hsm _ (by omega)).trans j2,(hsm _ (by omega)).trans j3,(hsm _ (by omega)).trans j4,(hsm _ (by omega)).trans j5,(hsm _ (by omega)).trans j6,(hsm _ (by omega)).trans j7,vs,j8.same (hsm _ (by omega)) (λx x1 x2 x3=>hsm x x2) hle (λ_ _=>rfl),j9⟩
 ·rintro D f H' nx' ⟨j1,j2,j3,j4,j5,j6,j7,vs,j8,j9⟩ hlt hfe hDe;refine hy _ _ _ _ j3 rfl ?_;clear hy;have hfm:f∈fcs s:=by rw[hfe];exact ay hlt
  have hfD:f∉D:=λh=>by
   rw[hDe] at h;have hnd:=DC p3;have e:=bZ hlt;have h5:=(zB.1 (by rw[<-e];exact hnd.sublist (List.take_sublist _ _):((fcs s).take D.length++[(fcs s).getD D.length default]).Nodup)).2.2 _ h _ (c6.2 rfl);exact h5 hfe
  have hfs:=nX.1 (B9.1 hfm);have hfn:Shn f:=by show _<=_;omega
  clear hfe hDe hlt hfm;refine wnY and_self ?_;refine⟨j3,?_⟩;have hd:∀x,x≠nx+2->cW H' (nx+2) x=H' x:=λx hx=>b9 hx;generalize cW H' (nx+2)=H2 at *;have q2:=(hd 2 (by omega)).trans j6;have q3:=(hd 3 (by omega)).trans j8.box;have q4:=(hd 4 (by omega)).trans j7;have qk:=(hd nx (by omega)).trans j4;obtain⟨p,hpl,hpm⟩:=yS Y f (show _<=_ by omega) hYm hfn hYa;by_cases hin:f∈Y
  rotate_left
  ·rw[aW hin] at hpl;refine wnY (zI3 @q2 @ai @ah) ?_;refine⟨rfl,j1,(ac (by omega)).trans ((hd _ (by omega)).trans j2),ae,(ac (by omega)).trans qk,(ac (by omega)).trans ((hd _ (by omega)).trans j5),(ac (by omega)).trans q2,(ac (by omega)).trans q4,vs,j8.same ((ac (by omega)).trans (hd _ (by omega))) (λx x1 x2 x3=>?_) (aN _) (λj hj=>?_),j9⟩
   ·by_cases e:x=nx+2
    ·rw[e,ae,j3]
    ·rw[ac e,hd x e]
   ·have hne:Y.getD j default≠f:=λe=>hin (by rw[<-e];exact ay hj)
    congr 1
    exact xC (by rw[ee,c6];exact⟨λh=>h.resolve_right hne,.inl⟩)
  rw[aZ hin] at hpl;obtain⟨pl1,pl2⟩:=hpm hin;have hFD:io X Y k p++(if Y.getD p default∈D then [k] else [])=io X Y k p:=by rw[pl2,if_neg hfD,fp]
  have hrow:Row H2 1 (vs.getD p .undef) ((io X Y k p).map pW):=by
   have:=j8.row p pl1;rw[hFD] at this;exact this.same λb hb=>hd b (by have:=j9 p b pl1 hb;omega)
  have hvs:vs[p]?=some (vs.getD p .undef):=by
   have:=j8.len;simp[List.getD,show p<vs.length by omega]
  have hlen:=j8.len
  have hb3:∀b,bv (vs.getD p .undef)=some b->5<=b/\b<nx'/\b≠3/\(b<nx\/nx+3<=b):=λb hb=>by
   have h5:=j8.bnd p b pl1 hb;have h6:=j9 p b pl1 hb;exact⟨h5.1,h5.2.1,h5.2.2,h6⟩
  generalize hrv:vs.getD p .undef=rv at *;refine wnY (zI3 @q2 @ai @ah) ?_;refine A3 4 3 nx q4 q3 qk (by omega) (by omega) (by omega) λS0 hS1 hS2 hS3 hsub=>?_;have hFl:=r8 (X:=X) (Y:=Y) (n:=k) (i:=p);refine wnY (zI5 @hS1 @hS2 @hS3 @hvs @hlen) ?_;refine d5 ?_;refine wnY and_self ?_;refine⟨hsub _ (by rw[ac (by omega)];exact q4) (by rw[ac (by omega)];exact q3) (by rw[ac (by omega)];exact qk),?_⟩;refine d5 ?_;refine eR (hrow.same λb hb=>?_) ?_
  ·have:=hb3 b hb;rw[ac (by omega)]
  rintro s2 H4 nx4 hr2 i1 i2 i3 i4;have lo:∀x,x<nx'->bv rv≠some x->H4 x=H2 x:=λx x1 x2=>(i3 x (by omega) x2).trans (ac (by omega));have l3:H4 3=H2 3:=lo 3 (by omega) (λh=>by have:=hb3 _ h;omega);have l4:H4 4=H2 4:=lo 4 (by omega) (λh=>by have:=hb3 _ h;omega);have lk:H4 nx=H2 nx:=lo nx (by omega) (λh=>by have:=hb3 _ h;omega);have lo2:∀x,x<nx+3->5<=x->nx<=x->H4 x=H2 x:=λx x1 x2 x3=>lo x (by omega) (λh=>by have:=hb3 _ h;omega);have lo5:∀x,x<5->H4 x=H2 x:=λx x1=>lo x (by omega) (λh=>by have:=hb3 _ h;omega);obtain⟨o1,o2⟩:=hr2.one;have m3:=l3.trans q3;refine jF ⟨hsub _ (l4.trans q4) m3 (lk.trans qk),?_⟩
  have hlp:br vs p [s2]=vs.set p s2:=by
   simp only[br,bC,dp,bS];rw[HT,if_pos (by omega)];simp
  have zz:=aI @m3 (aI @o1 (aI @o2 (aI @hlen @hlp)));repeat' (first|apply a_n|refine zO ?_|refine nvY ?_|apply jc|refine stY ?_|fail)
  have hB2:∀b,bv s2=some b->(bv rv=some b\/nx'<=b)/\b<nx4:=λb hb=>by
   rcases i4 b hb with h|h
   ·exact⟨.inl h,by have:=hb3 b h;omega⟩
   ·exact⟨.inr (by omega),by omega⟩
  have hwd:∀x,x≠3->x≠nx+2->ap (ap H4 3 (vs.set p s2)) (nx+2) [c0] x=H4 x:=λx x1 x2=>by rw[ac x2,ac x1]
  rw[hlp];refine⟨rfl,by omega,?_,ae,?_,?_,?_,?_,vs.set p s2,?_,?_⟩
  ·rw[hwd _ (by omega) (by omega),lo2 _ (by omega) (by omega) (by omega),hd _ (by omega)];exact j2
  ·rw[hwd _ (by omega) (by omega),lk];exact qk
  ·rw[hwd _ (by omega) (by omega),lo5 _ (by omega),hd _ (by omega)];exact j5
  ·rw[hwd _ (by omega) (by omega),lo5 _ (by omega)];exact q2
  ·rw[hwd _ (by omega) (by omega),l4];exact q4
  ·refine j8.put (sv:=s2) (x:=k) (i:=p) pl1 (λj hj=>?_) ?_ (λb hb=>?_) (by rw[ac (by omega),ae]) (λx x1 x2 x3 x4=>?_) (by omega) (by omega)
   ·by_cases e:j=p
    ·subst e;rw[if_pos rfl,pl2,if_neg hfD,if_pos (lQ _ (c6.2 rfl)),fp]
    ·rw[if_neg e]
     have hne:Y.getD j default ≠ f:=fun h=>e (by
      rcases sG j p with h'|h'|h'
      ·have:=eP hYa h' pl1;rw[h,pl2,gb] at this;omega
      ·exact h'
      ·have:=eP hYa h' hj;rw[h,pl2,gb] at this;omega)
     congr 1
     exact xC (by rw[ee,c6];exact⟨λh=>h.resolve_right hne,.inl⟩)
   ·rw[hFD,cp];refine hr2.same λb hb=>hwd b ?_ ?_
    ·have:=hB2 b hb;rcases this.1 with h|h
     ·have:=hb3 b h;omega
     ·omega
    ·have:=hB2 b hb;rcases this.1 with h|h
     ·have:=hb3 b h;omega
     ·omega
   ·rw[hrv];have:=hB2 b hb;rcases this.1 with h|h
    ·exact .inl h
    ·exact .inr ⟨h,this.2,by omega⟩
   ·rw[hrv] at x4;by_cases e:x=nx+2
    ·rw[e,ae,j3]
    ·rw[hwd x x3 e,lo x x2 x4,hd x e]
  ·intro j B hj hB;rw[qw (by omega)] at hB;by_cases e:p=j
   ·rw[if_pos e] at hB;have:=hB2 B hB;rcases this.1 with h|h
    ·have:=hb3 B h;omega
    ·omega
   ·rw[if_neg e] at hB;exact j9 j B hj hB
 ·have hlk:br [AV.int .i64 0] 0 [.int .i64 (k:Int)]=[.int .i64 (k:Int)]:=rfl;have hw:∀x,x≠nx->x≠nx+1->x≠nx+2->ap (ap (ap (ap H nx [.int .i64 0]) nx (br [.int .i64 0] 0 [.int .i64 (k:Int)])) (nx+1) [aD s]) (nx+2) [c0] x=H x:=λx x1 x2 x3=>by rw[ac x3,ac x2,ac x1,ac x1]
  refine⟨aN _,by rw[ac (by omega),ae],ae,by rw[ac (by omega),ac (by omega),ae];rfl,(hw _ (by omega) (by omega) (by omega)).trans g1,(hw _ (by omega) (by omega) (by omega)).trans g2,(hw _ (by omega) (by omega) (by omega)).trans g4,vs,hmat.same (hw _ (by omega) (by omega) (by omega)) (λx x1 x2 x3=>hw x (by omega) (by omega) (by omega)) (by omega) (λj _=>by simp),λj B hj hB=>by have:=hmat.bnd j B hj hB;omega⟩
 ·rintro r H' nx' ⟨j1,j2,j3,j4,j5,j6,j7,vs2,j8,j9⟩;refine .inl ⟨j3,?_⟩;refine wnY and_self ?_;refine⟨(k+1,vs2),by dsimp only;omega,⟨by dsimp only;omega,by omega,(b9 (by omega)).trans j5,(b9 (by omega)).trans j6,(b9 (by omega)).trans j7,?_⟩,ag0⟩;dsimp only
  have hrows:∀j,j<Y.length->io X Y (k+1) j=io X Y k j++if Y.getD j default∈fcs s then [k] else []:=λj _=>by
   rw[hF];congr 1;exact xC B9.symm
  exact⟨(b9 (by omega)).trans j8.box,j8.len,λj hj=>by rw[hrows j hj];exact(j8.row j hj).same λb hb=>b9 (by have:=j9 j b hj hb;omega),λj B hj hB=>by have:=j8.bnd j B hj hB;exact this,j8.apart⟩
theorem Ap(c a:List Spx)(hc:c.length<=50)(hs:∀s∈c,Shn s)(ha:ShC a):pU 30 [bQ c,ao a] (.tup [aE (iC c a).1,.int .i64 (iC c a).2]):=by
 refine pO Om ?_;simp only[b30,aG];have hcc:=jr c (show _<=_ by omega) hs;have hca:=tU a ha;have z0:decide ((0:Int)≠0)=false:=rfl;unfold iC;by_cases he:aB c=0
 rotate_left
 ·rw[if_pos he];have z:decide (aB c≠0)=true:=aZ he;refine wnY (zI3 @ai @ah @z) ?_;exact jT (.eslsl _) rfl
 rw[if_neg (λh=>h he)];rw[he] at hcc;by_cases h2:jV a=0
 rotate_left
 ·rw[if_pos h2];have z:decide (jV a≠0)=true:=aZ h2;refine wnY (zI4 @ai @ah @z @z0) ?_;exact jT (.eslsl _) rfl
 rw[if_neg (λh=>h h2)];rw[h2] at hca;by_cases h3:a=[]
 ·rw[if_pos h3];subst h3;have al:dy (ao [])=some (.int .i64 0):=rfl;refine wnY (zI4 @ai @ah @al @z0) ?_;exact jT (.eslsl _) rfl
 rw[if_neg h3];have hpos:=li.2 h3;have z3:decide ((a.length:Int)=0)=false:=aW (by omega);obtain⟨p1,p2,p3,p4⟩:=oh h2;have p5:=cA (p2 _ (ay hpos));have i0:=Nt hpos;have hS:=k9 c (eN a) hc hs;unfold dx at hS;rw[if_neg (λh=>h he),if_neg (by unfold eN;omega),bN] at hS;have eL:gD c (eN a)=aA c (eN a):=by unfold aA;rw[if_neg (by unfold eN;omega),bN]
 rw[eL] at hS;have hLs:=l8 (f0 (d:=(eN a:Nat)) he);have hLl:=i9 (d:=(eN a:Nat)) hc he;have hLa:=qu (c:=c) (d:=(eN a:Nat));generalize aA c (eN a)=L at *;unfold eN at hS;refine wkY (zI7 @ai @ah @af @au @i0 @z0 @z3) ?_;refine bA (X:=AV×Nat) (λx=>[(8,ao L),(10,x.1),(40,ao a),(41,.int .i64 a.length),(42,.int .i64 x.2)]) (λx H nx=>x.2<=a.length/\(∀i,i<x.2->decide (a.getD i default∈L)=true)/\Row H 1 x.1 ((dJ (tQ L (a.take x.2))).map (AV.int .i64))/\∀b,bv x.1=some b->b<nx) (λx=>a.length-x.2) (.esl,0) ⟨bz _,λi h=>absurd h (by omega),Row.nil,λb hb=>(by cases hb)⟩ ag0 ?_;rintro⟨sv,k⟩ H nx ⟨k1,k2,k3,k4⟩;dsimp only at k1 k2 k3 k4 |-;by_cases hk:k<a.length
 rotate_left
 ·rw[fI (by omega)] at k3;rw[if_pos (kr λi hi=>k2 i (by omega))];refine wnY and_self ?_;exact jT k3.snapI rfl
 have ix:=eh hk;have hsx:=ha.2 _ (ay hk);obtain⟨p,hpl,hpm⟩:=yS L (a.getD k default) (show _<=_ by omega) hLs hsx hLa;by_cases hin:a.getD k default∈L
 rotate_left
 ·rw[aW hin] at hpl
  have hall:¬(a.all λs=>decide (s∈L))=true:=by
   rw[iZ hk (aW hin)];decide
  rw[if_neg hall];refine wnY @ix ?_;exact jT (.eslsl _) rfl
 rw[aZ hin] at hpl;obtain⟨p1',p2'⟩:=hpm hin;have hidx:=Ha (hLa.nodup mG) p1' p2';have hpt:=DI (L:=L) hk;rw[hidx] at hpt;have hnl:(dJ (tQ L (a.take k))).length=k:=by unfold dJ tQ;rw[bk,bk,fL];omega
 refine wnY @ix ?_;refine eR (k3.same λb hb=>?_) ?_
 ·have:=k4 b hb;rw[ac (by omega)]
 rintro s2 E e hrow hle1 hle2 hsame hb2;refine wnY and_self ?_;refine⟨(s2,k+1),by dsimp only;omega,⟨by dsimp only;omega,λi hi=>?_,?_,λb hb=>?_⟩,ag0⟩
 ·rcases jf.1 hi with h'|rfl
  ·exact k2 i h'
  ·exact aZ hin
 ·dsimp only;rw[hpt,yH,cp];exact hrow
 ·rcases hb2 b hb with h|h
  ·have:=k4 b h;omega
  ·omega
theorem C6(X Y:List Spx)(hXl:X.length<=4000)(hYl:Y.length<=4000)(hX:∀s∈X,Shn s)(hY:∀s∈Y,Shn s)(hin:∀i k,i<Y.length->k<X.length->eo (Y.getD i default) (X.getD k default)=decide (Y.getD i default∈cH (X.getD k default))):pU 110 [ao X,ao Y] (cQ X.length (dH X Y)):=by
 refine pO LD ?_;simp only[Ku,aG];refine wnY @af ?_;refine qT (X:=Nat×AV) (λx=>[(0,ao X),(1,ao Y),(4,.ptr 0 2 0),(5,.ptr 1 2 0),(6,.int .i64 x.1)]) (λx H nx=>x.1<=Y.length/\2<=nx/\H 0=some [.int .i64 0,.esl]/\H 1=some [.int .i64 X.length,x.2]/\Row H 1 x.2 ((List.range x.1).map λj=>aE (dJ (io X Y X.length j)))/\∀b,bv x.2=some b->2<=b/\b<nx) (λx=>Y.length-x.1) (0,.esl) ⟨bF,_,Fz.none,⟨bz _,aN _,by(repeat rw[ac (by omega)]);rw[ae],by rw[ae];rfl,Row.nil,λb h=>(by cases h)⟩,.inl rfl,.inl rfl,.inl rfl,.inl rfl,.inl rfl,trivial⟩ ?_;rintro⟨i,sv⟩ H nx ⟨h1,h2,g0,g1,hrow,hbd⟩;dsimp only at h1 g1 hrow hbd |-;obtain⟨o1,o2⟩:=hrow.one;by_cases hi:i<Y.length
 rotate_left
 ·obtain rfl:i=Y.length:=by omega
  refine wnY (zI5 @af @g0 @g1 @o1 @o2) ?_
  have hr2:Row (ap H 0 [.int .i64 X.length,sv]) 1 sv ((dH X Y).map aE):=by
   unfold dH;rw[List.map_map];exact hrow.same λb hb=>ac (by have:=hbd b hb;omega)
  exact ju (ag (.int _ _) (ag hr2.snapV an))
 have iy:=eh hi;have hYi:=hY _ (ay hi);have hF:∀k,io X Y (k+1) i=io X Y k i++if Y.getD i default∈cH (X.getD k default) then [k] else []:=λk=>vA
 have hini:=λk hk=>hin i k hi hk;generalize Y.getD i default=t at *;refine wnY @af ?_;refine bA (X:=Nat×AV) (λx=>[(0,ao X),(1,ao Y),(4,.ptr 0 2 0),(5,.ptr 1 2 0),(6,.int .i64 i),(7,x.2),(8,.int .i64 x.1)]) (λx H' nx'=>x.1<=X.length/\nx<=nx'/\(∀y,y<nx->H' y=H y)/\Row H' 1 x.2 ((io X Y x.1 i).map pW)/\∀b,bv x.2=some b->nx<=b/\b<nx') (λx=>X.length-x.1) (0,.esl) ⟨bz _,aN _,λ_ _=>rfl,Row.nil,λb h=>(by cases h)⟩ ag0 ?_;rintro⟨k,rv⟩ H' nx' ⟨k1,k2,k3,krow,kbd⟩;dsimp only at k1 krow kbd |-;obtain⟨o3,o4⟩:=krow.one;have g1':H' 1=some [.int .i64 X.length,sv]:=(k3 1 (by omega)).trans g1;have g0':H' 0=some [.int .i64 0,.esl]:=(k3 0 (by omega)).trans g0;by_cases hk:k<X.length
 rotate_left
 ·obtain rfl:k=X.length:=by omega
  have hr1:Row H' 1 sv ((List.range i).map λj=>aE (dJ (io X Y X.length j))):=hrow.same λb hb=>k3 b (by have:=hbd b hb;omega);refine wnY (zI4 @af @g1' @o3 @o4) ?_;refine f9 rfl ev0 (hr1.same λb hb=>?_) ev0 dQ (by simp[AV.ones,o3]) rfl jb (by simp;omega) (by simp;omega) ?_
  ·have:=hbd b hb;rw[ac (by omega)]
  rintro s2 H2 nx2 hr2 i1 i2 i3 i4;have lo:∀x,x<nx'->bv sv≠some x->H2 x=H' x:=λx x1 x2=>(i3 x (by omega) x2).trans (ac (by omega));have l4:∀x,x<2->H2 x=H' x:=λx x1=>lo x (by omega) (λh=>by have:=hbd _ h;omega);have g42:H2 1=some [.int .i64 X.length,sv]:=(l4 1 (by omega)).trans g1';obtain⟨o5,o6⟩:=hr2.one;have kr2:Row H2 1 rv ((io X Y X.length i).map pW):=krow.same λb hb=>lo b (by have:=kbd b hb;omega) (λh=>by have:=hbd b h;have:=kbd b hb;omega)
  have hb2:∀b,bv s2=some b->2<=b/\b<nx2/\bv rv≠some b:=λb hb=>by
   rcases i4 b hb with h|h
   ·have:=hbd b h;exact⟨by omega,by omega,λe=>by have:=kbd b e;omega⟩
   ·exact⟨by omega,by omega,λe=>by have:=kbd b e;omega⟩
  refine wnY (zI3 @g42 @o5 @o6) ?_;obtain⟨Hf,H5,hfz,hr5,hs5⟩:=pf (H:=ap H2 1 (br [.int .i64 X.length,sv] 1 [s2])) (hr2.same λb hb=>ac (by have:=hb2 b hb;omega)) (kr2.same λb hb=>ac (by have:=kbd b hb;omega)) (λb hb e=>(hb2 b e).2.2 hb);have hlow:∀x,x<2->H5 x=ap H2 1 (br [.int .i64 X.length,sv] 1 [s2]) x:=λx hx=>hs5 x (λe=>by have:=kbd x e;omega) (λe=>by have:=hb2 x e;omega);refine⟨(i+1,s2),by dsimp only;omega,Hf,H5,hfz,⟨by dsimp only;omega,by omega,?_,?_,?_,λb hb=>?_⟩,ft ag0⟩
  ·rw[hlow 0 (by omega),ac (by omega),l4 0 (by omega)];exact g0'
  ·rw[hlow 1 (by omega),ae];rfl
  ·dsimp only;rw[List.range_succ,cp];exact hr5
  ·have:=hb2 b hb;omega
 have ix:=eh hk;have hXk:=hX _ (ay hk);have hinc:=xR t (X.getD k default) hYi hXk;rw[hini k hk] at hinc;have hFk:=hF k;have hFl:=r8 (X:=X) (Y:=Y) (n:=k) (i:=i);generalize X.getD k default=s at *;by_cases he2:t∈cH s
 ·rw[aZ he2] at hinc;rw[if_pos he2] at hFk;refine wkY (zI3 @af @ix @iy) ?_;refine eR (krow.same λb hb=>?_) ?_
  ·have:=kbd b hb;rw[ac (by omega)]
  rintro r2 H2 nx2 hr2 i1 i2 i3 i4;obtain⟨o5,o6⟩:=hr2.one;refine wnY (aI @o5 @o6) ?_;refine⟨(k+1,r2),by dsimp only;omega,⟨by dsimp only;omega,by omega,λy hy=>?_,?_,λb hb=>?_⟩,ag0⟩
  ·rw[i3 y (by omega) (λh=>by have:=kbd _ h;omega),ac (by omega)];exact k3 y hy
  ·dsimp only;rw[hFk,cp];exact hr2
  ·rcases i4 b hb with h|h
   ·have:=kbd b h;omega
   ·omega
 ·rw[aW he2] at hinc;rw[if_neg he2,fp] at hFk;refine wkY (zI3 @af @ix @iy) ?_;exact⟨(k+1,rv),by dsimp only;omega,⟨by dsimp only;omega,k2,k3,by dsimp only;rw[hFk];exact krow,kbd⟩,ag0⟩
theorem yo{s f:Spx}{n:Nat}(hs:cl cI s)(hf:cl cI f)(hsl:s.length=n+1)(hfl:f.length=n)(hn:1<=n):eo f s=decide (f∈cH s):=by
 rw[Bool.eq_iff_iff,fj,gj,nX];exact⟨λh=>⟨by omega,HG zV hf hs h,by omega⟩,λh v hv=>h.2.1.subset hv⟩
theorem w9(c:List Spx)(d:Int)(v:List Int)(hc:c.length<=50)(hs:∀s∈c,Shn s)(hv:v.length<=100000):pU 34 [bQ c,.int .i64 d,aE v] (.tup [ao (Ai c d v).1,.int .i64 (Ai c d v).2]):=by
 refine pO NQ ?_;simp only[b34,aG];have hcc:=jr c (show _<=_ by omega) hs;have z0:decide ((0:Int)≠0)=false:=rfl;unfold Ai;by_cases he:aB c=0
 rotate_left
 ·rw[if_pos he];have z:decide (aB c≠0)=true:=aZ he;refine wnY (zI3 @ai @ah @z) ?_;exact d4 (.eslsl _) rfl
 rw[if_neg (λh=>h he)];rw[he] at hcc;by_cases hd:d<0\/8<=d
 ·rw[if_pos hd];have zz:=aI @ai (aI @ah @z0);repeat' (first|refine zW ?_|apply a_n|apply a_r|refine zO ?_|refine vY ?_|refine cY ?_ (hp:=hcc) (hs:=by(first|refine aJ ?_ rfl|apply a7);(repeat' (first|exact an|apply bw|apply a9|exact ct _));first|done|fail)|refine bxY ?_|refine gTY ?_|refine gFY ?_|refine cTY ?_|refine cFY ?_|(refine zGY ?_ ?_<;>(intro _hg;try (exfalso;omega)))|refine bR rfl ?_|refine r2Y ?_|fail)
  all_goals first|exact d4 (.eslsl _) rfl|(exfalso;omega)
 rw[if_neg hd];have hX:=D2 c d (by omega) hc hs;rw[Ce he (by omega) (by omega)] at hX;have hXl:=i9 (d:=d+1) hc he;have hXm:=f0 (d:=d+1) he;generalize aA c (d+1)=X at *;have z1:decide (d<0)=false:=aW (by omega);have z2:decide (8<=d)=false:=aW (by omega);refine wnY (zI5 @ai @ah @z0 @z1 @z2) ?_;refine bA (X:=AV×Nat) (λx=>[(2,aE v),(9,ao X),(11,x.1),(34,aE v),(35,.int .i64 v.length),(36,.int .i64 x.2)]) (λx H nx=>x.2<=v.length/\(∀i,i<x.2->Cn X.length v i=0)/\Row H 1 x.1 ((c7 X (v.take x.2)).map aD)/\∀b,bv x.1=some b->b<nx) (λx=>v.length-x.2) (.esl,0) ⟨bz _,λi h=>absurd h (by omega),Row.nil,λb hb=>(by cases hb)⟩ ag0 ?_;rintro⟨sv,k⟩ H nx ⟨k1,k2,k3,k4⟩;dsimp only at k1 k2 k3 k4 |-;by_cases hk:k<v.length
 rotate_left
 ·have hz:sS X.length v=0:=dL λi hi=>k2 i (by omega);rw[if_neg (λh=>h hz)];rw[fI (by omega)] at k3;have hpl:(c7 X v).length=v.length:=by unfold c7;rw[bk]
  have hcp:=vO (c7 X v) (by omega) λs hs=>by
   unfold c7 at hs;obtain⟨i,hi,rfl⟩:=bJ.1 hs;by_cases hl:i.toNat<X.length
   ·exact zt hXm _ (ay hl)
   ·rw[show X.getD i.toNat default=[] by unfold List.getD;rw[List.getElem?_eq_none (by omega)];rfl];exact bz _
  obtain⟨Hf,H4,hfz,hsn,hoth⟩:=JF k3;have z6:decide ((k:Int)<v.length)=false:=aW (by omega);refine dI ?_;have zz:=@z6;repeat' (first|apply a_n|refine zO ?_|refine vY ?_|fail)
  refine dI ?_;clear zz;have zz:=@z6;repeat' (first|apply a_n|apply a_x|refine zO ?_|refine cFY ?_|fail)
  refine dI ?_;refine pD Hf H4 [(11,ao (c7 X v))] hfz ⟨.inr hsn,trivial⟩ ?_;refine wnY and_self ?_;exact d4 (bK _).snap rfl
 have ix:=ixV hk;have hsp:=sE (n:=X.length) (v:=v) (k:=k)
 have hfin:∀e:Int,e≠0->Cn X.length v k=e->(if sS X.length v≠0 then(([]:List Spx),sS X.length v) else(c7 X v,0))=([],e):=λe h0 he=>by
  have h5:sS X.length v=e:=by
   unfold sS;rw[di hk k2 (by rw[he];exact h0),he]
  rw[if_pos (by rw[h5];exact h0),h5]
 by_cases g1:v.getD k default<0
 ·rw[if_pos (.inl g1)] at hsp;rw[hfin 2 (by decide) hsp];have z1:decide (v.getD k default<0)=true:=aZ g1;refine wnY (aI @ix @z1) ?_;exact d4 (.eslsl _) rfl
 have z3:decide (v.getD k default<0)=false:=aW g1;by_cases g2:(X.length:Int)<=v.getD k default
 ·rw[if_pos (.inr g2)] at hsp;rw[hfin 2 (by decide) hsp];have z4:decide ((X.length:Int)<=v.getD k default)=true:=aZ g2;refine wnY (zI4 @ix @z3 @z4 @af) ?_;exact d4 (.eslsl _) rfl
 have z4:decide ((X.length:Int)<=v.getD k default)=false:=aW g2;rw[if_neg (by omega)] at hsp
 have iw:eG 1 (ao X) (.int .i64 (v.getD k default))=some (.iptr [aD (X.getD (v.getD k default).toNat default)] 0):=by
  rw[ra,if_pos ⟨by omega,by omega⟩]
 have hpt:=rP (X:=X) hk;have hnl:(c7 X (v.take k)).length=k:=by unfold c7;rw[bk,fL];omega
 have hstep:∀ (s2:AV) (E:Hp) (e:Nat),Cn X.length v k=0→Row E 1 s2 ((c7 X (v.take k)).map aD ++ [aD (X.getD (v.getD k default).toNat default)])→(∀ i,i < k + 1→Cn X.length v i=0)∧Row E 1 s2 ((c7 X (v.take (k + 1))).map aD):=fun s2 E e hz hr=>⟨fun i hi=>by
  rcases jf.1 hi with h'|rfl
  ·exact k2 i h'
  ·exact hz,by rw[hpt,cp];exact hr⟩
 generalize X.getD (v.getD k default).toNat default=x at *;by_cases hk0:0<k
 rotate_left
 ·rw[if_neg (λh=>hk0 h.1)] at hsp;have zk:decide (0<(k:Int))=false:=aW (by omega);refine wnY (zI8 @ix @iw @z3 @z4 @zk @af @bb @aQ) ?_;refine eR (k3.same λb hb=>?_) ?_
  ·have:=k4 b hb;rw[ac (by omega)]
  rintro s2 E e hrow hle1 hle2 hsame hb2;refine wnY and_self ?_
  exact ⟨(s2,k + 1),by dsimp only; omega,⟨by dsimp only; omega,(hstep s2 E e hsp hrow).1,(hstep s2 E e hsp hrow).2,fun b hb=>by
   rcases hb2 b hb with h|h
   ·have:=k4 b h;omega
   ·omega⟩,ag0⟩
 have zk:decide (0<(k:Int))=true:=aZ (by omega)
 have iy:eG 1 (aE v) (.int .i64 ((k:Int)-1))=some (.iptr [.int .i64 (v.getD (k-1) default)] 0):=by
  have:=ixV (l:=v) (k:=k-1) (by omega)
  rwa [show((k-1:Nat):Int)=(k:Int)-1 by omega] at this
 by_cases g3:v.getD k default<=v.getD (k-1) default
 ·rw[if_pos ⟨hk0,g3⟩] at hsp;rw[hfin 14 (by decide) hsp];have z5:decide (v.getD k default<=v.getD (k-1) default)=true:=aZ g3;refine wnY (zI7 @ix @iy @z3 @z4 @zk @z5 @af) ?_;exact d4 (.eslsl _) rfl
 ·rw[if_neg (λh=>g3 h.2)] at hsp;have z5:decide (v.getD k default<=v.getD (k-1) default)=false:=aW g3;refine wnY (dV @ix @iy @iw @z3 @z4 @zk @z5 @af @bb @aQ) ?_;refine eR (k3.same λb hb=>?_) ?_
  ·have:=k4 b hb;rw[ac (by omega)]
  rintro s2 E e hrow hle1 hle2 hsame hb2;refine wnY and_self ?_
  exact ⟨(s2,k + 1),by dsimp only; omega,⟨by dsimp only; omega,(hstep s2 E e hsp hrow).1,(hstep s2 E e hsp hrow).2,fun b hb=>by
   rcases hb2 b hb with h|h
   ·have:=k4 b h;omega
   ·omega⟩,ag0⟩
theorem tZ(l m:List Int)(hl:l.length<=1000000)(hm:m.length<=1000000):pU 17 [aE l,aE m] (.bool (decide (l=m))):=by
 refine pO Oc ?_;simp only[b17,aG]
 repeat' (first|refine zW ?_|apply a_n|apply a_r|refine zO ?_|refine vZ ?_|(refine zGZ ?_ ?_<;>(intro _hg;try (exfalso;omega)))|refine bR rfl ?_|refine r1Z ?_|fail)
 ·refine ci ?_
  symm;rw[decide_eq_false_iff_not];rintro rfl;omega
 refine lC (X:=Nat) (λk=>[(0,aE l),(1,aE m),(12,.int .i64 l.length),(13,.int .i64 k)]) (λk=>k<=l.length/\∀i,i<k->l.getD i default=m.getD i default) (λk=>l.length-k) 0 ⟨bz _,by simp⟩ ag0 ?_;rintro k ⟨h1,h2⟩
 repeat' (first|refine zW ?_|apply a_n|apply a_x|apply a_r|refine zO ?_|refine vZ ?_|(refine zGZ ?_ ?_<;>(intro _hg;try (exfalso;omega)))|refine bR rfl ?_|refine r1Z ?_|fail)
 ·refine ci ?_
  symm;rw[decide_eq_false_iff_not];rintro rfl;exact absurd rfl ‹_›
 ·refine⟨k+1,⟨by omega,λi hi=>?_⟩,by omega,ag0,rfl,rfl⟩;rcases jf.1 hi with h|rfl
  ·exact h2 i h
  ·omega
 ·refine ci ?_
  symm;rw[xo]
  refine List.ext_getElem (by omega) (λi h3 h4=>?_);have:=h2 i (by omega);simpa[List.getD,h3,h4] using this
theorem Ex(a b:List Int)(ha:a.length<=1000000)(hb:b.length<=1000000):pU 116 [aE a,aE b] (.bool (jP a b)):=by
 refine pO Mz ?_;simp only[Lw,aG];have hs:=vL a b (by omega) (by omega);have hl:=l9 _ a b (aN _);unfold jP;generalize bP a b=S at *
 have hq:∀tb tf,bo .quo tb tf (.int .i64 ((a.length:Int)+b.length-S.length)) (.int .i64 2)=some (.int .i64 (((a.length+b.length-S.length)/2:Nat):Int)):=λtb tf=>by
  rw[iQ (by omega) (by omega) (by omega)]
  congr 2;omega
 have hr:∀tb tf,bo .rem tb tf (.int .i64 (((a.length+b.length-S.length)/2:Nat):Int)) (.int .i64 2)=some (.int .i64 (((a.length+b.length-S.length)/2%2:Nat):Int)):=λtb tf=>by
  rw[Bp (by omega) (by omega)]
  congr 2
 have z:decide ((((a.length+b.length-S.length)/2%2:Nat):Int)=1)=decide ((a.length+b.length-S.length)/2%2=1):=decide_eq_decide.2 (by omega);refine wnY (zI4 @cm @hq @hr @z) ?_;exact .bool _
theorem t5{l:List (List Int)}{k:Nat}(h:k<l.length):eG 1 (bi l) (.int .i64 (k:Int))=some (.iptr [aE (l.getD k default)] 0):=by
 rw[oa,if_pos ⟨by omega,by omega⟩,bN]
theorem bG{l:List (List Int)}:dy (bi l)=some (.int .i64 l.length):=qK
theorem yI(c:Nat)(R:List (List Int))(hm:fH c R):pU 133 [cQ c R] (.tup [cQ R.length (trL c R),.int .i64 0]):=by
 refine pO LZ ?_;simp only[ML,aG];have h1:=lz c R hm;have z0:decide ((0:Int)≠0)=false:=rfl;have dm:Dat (.agg [.int .i64 c,bi R]):=cr c R;obtain⟨m1,m2,m3,m4⟩:=hm;have hzc:bD (AV.agg [AV.esl]) c=List.replicate c .esl:=by simp[bD,AV.cells]
 unfold cQ;refine wnY (aI @z0 @bG) ?_;refine xT (k1:=.i64) (k2:=.i64) (n:=c) (m:=c) rfl ev0 ev0 (by omega) (Int.le_refl _) (by omega) (by omega) ?_;rw[bN,hzc,Nat.mul_one];refine wnY @bG ?_;refine lpI (X:=Nat×List AV) (λx=>[(2,.ptr 1 2 0),(5,.ptr 3 2 0),(24,bi R),(25,.int .i64 R.length),(26,.int .i64 x.1)]) (λx H' nx'=>x.1<=R.length/\4<=nx'/\H' 1=some [.int .i64 0,.esl]/\H' 3=some [.int .i64 R.length,.msl 2 c 1 0 c]/\MatOk H' 2 4 nx' c (trF R x.1) x.2) (λx=>R.length-x.1) (0,List.replicate c .esl) ⟨bz _,aN _,by(repeat rw[ac (by omega)]);rw[ae],by rw[ae];rfl,MatOk.new (by(repeat rw[ac (by omega)]);rw[ae]) (λj _=>rfl)⟩ ?_;rintro⟨i,vs⟩ H nx ⟨i1,i2,g1,g3,hmat⟩;dsimp only at i1 i2 g1 g3 hmat |-;by_cases hi:i<R.length
 rotate_left
 ·obtain rfl:i=R.length:=by omega
  have hst:Snap (ap H 1 [.int .i64 R.length,.msl 2 c 1 0 c]) (.msl 2 c 1 0 c) (bi (trL c R)):=(hmat.same (hi':=nx) (G:=trF R R.length) (ac (by omega)) (λx x1 x2 x3=>ac (by omega)) (aN _) (λj _=>rfl)).snap;refine wnY (aI @g1 @g3) ?_;exact jL hst rfl
 have ix:=t5 hi;have hrow:=m4 _ (aP hi);have hF:∀q,trF R (i+1) q=trF R i q++if (q:Int)∈R.getD i default then [i] else []:=λq=>yB
 generalize R.getD i default=r at *
 have hrasc:∀j,j<r.length->r.getD j default∉r.take j:=λj hj hm=>by
  have hchain:∀b a,a<b->b<r.length->r.getD a default<r.getD b default:=λb=>by
   induction b with
   |zero=>intro a ha;omega
   |succ b ih=>
    intro a ha hb;have q:=hrow.2.2 b hb;rcases(by omega:a<b\/a=b) with h|rfl
    ·have:=ih a h (by omega);omega
    ·exact q
  obtain⟨a,ha,e⟩:=jW hm;rw[fL] at ha;have h5:=hchain j a (by omega) hj;have e2:r.getD a default=r.getD j default:=by rw[<-e];simp[List.getD,show a<r.length by omega]
  omega
 refine wnY @ix ?_;refine lpI (X:=Nat×List AV) (λx=>[(2,.ptr 1 2 0),(5,.ptr 3 2 0),(6,.int .i64 i),(24,bi R),(25,.int .i64 R.length),(26,.int .i64 i),(31,aE r),(32,.int .i64 r.length),(33,.int .i64 x.1)]) (λx H' nx'=>x.1<=r.length/\nx<=nx'/\H' 1=some [.int .i64 0,.esl]/\H' 3=some [.int .i64 R.length,.msl 2 c 1 0 c]/\MatOk H' 2 4 nx' c (λq=>trF R i q++if (q:Int)∈r.take x.1 then [i] else []) x.2) (λx=>r.length-x.1) (0,vs) ⟨bz _,aN _,g1,g3,hmat.same rfl (λ_ _ _ _=>rfl) (aN _) (λj _=>by simp)⟩ ?_;clear hmat g1 g3;rintro⟨j,vs⟩ H' nx' ⟨j1,j2,g1,g3,hmat⟩;dsimp only at j1 g1 g3 hmat |-;by_cases hj:j<r.length
 rotate_left
 ·rw[fI (by omega)] at hmat;refine wnY and_self ?_;exact⟨(i+1,vs),by dsimp only;omega,⟨by dsimp only;omega,by omega,g1,g3,hmat.same rfl (λ_ _ _ _=>rfl) (aN _) (λq _=>hF q)⟩,ag0⟩
 have iy:=ixV hj;have hjr:=hrow.1 _ (aP hj);have htk:=bZ hj;have hnm:=hrasc j hj;generalize r.getD j default=v at *;obtain⟨p,rfl⟩:∃p:Nat,v=p:=⟨v.toNat,by omega⟩
 have p1:p<c:=by omega
 refine wnY @iy ?_;refine pK 3 2 g3 hmat.box (by omega) λS0 hS1 hS2 hsub=>?_;have hFp:trF R i p++(if (p:Int)∈r.take j then [i] else [])=trF R i p:=by rw[if_neg hnm,fp]
 have hrow2:=hmat.row p p1;rw[hFp] at hrow2
 have hvs:vs[p]?=some (vs.getD p .undef):=by
  have:=hmat.len;simp[List.getD,show p<vs.length by omega]
 have hlen:=hmat.len;have hb3:∀b,bv (vs.getD p .undef)=some b->4<=b/\b<nx'/\b≠2:=λb hb=>hmat.bnd p b p1 hb;have hFl:=xw (R:=R) (n:=i) (q:=p);generalize hrv:vs.getD p .undef=rv at *;refine wnY (zI4 @hS1 @hS2 @hvs @hlen) ?_;refine d5 ?_;refine wnY and_self ?_;refine⟨hsub _ (by rw[ac (by omega)];exact g3) (by rw[ac (by omega)];exact hmat.box),?_⟩;refine d5 ?_;refine eR (hrow2.same λb hb=>?_) ?_
 ·have:=hb3 b hb;rw[ac (by omega)]
 rintro s2 H4 nx4 hr2 k1 k2 k3 k4;have lo:∀x,x<nx'->bv rv≠some x->H4 x=H' x:=λx x1 x2=>(k3 x (by omega) x2).trans (ac (by omega));have l5:∀x,x<4->H4 x=H' x:=λx hx=>lo x (by omega) (λh=>by have:=hb3 _ h;omega);have q2:=(l5 2 (by omega)).trans hmat.box;have q3:=(l5 3 (by omega)).trans g3;obtain⟨o1,o2⟩:=hr2.one;refine jF ⟨hsub _ q3 q2,?_⟩
 have hlp:br vs p [s2]=vs.set p s2:=by
  simp only[br,bC,dp,bS];rw[HT,if_pos (by omega)];simp
 have zz:=aI @q2 (aI @o1 (aI @o2 (aI @hlen @hlp)));repeat' (first|apply a_n|refine zO ?_|refine vY ?_|refine nvY ?_|apply jc|refine stY ?_|fail)
 refine⟨(j+1,vs.set p s2),by dsimp only;omega,⟨by dsimp only;omega,by omega,?_,?_,?_⟩,ag0⟩
 ·rw[ac (by omega),l5 _ (by omega)];exact g1
 ·rw[ac (by omega)];exact q3
 ·dsimp only;refine hmat.put (sv:=s2) (x:=i) p1 (λq hq=>?_) ?_ (λb hb=>?_) (by rw[ae,hlp]) (λx x1 x2 x3 x4=>?_) (by omega) (by omega)
  ·rw[htk];by_cases e:q=p
   ·subst e;rw[if_pos rfl,if_neg hnm,if_pos (lQ _ (c6.2 rfl)),fp]
   ·rw[if_neg e]
    congr 1
    refine xC ?_;rw[ee,c6];exact⟨λh=>h.resolve_right (by omega),.inl⟩
  ·rw[hFp,cp]
   exact hr2.same fun b hb=>ac (by
    rcases k4 b hb with h|h
    ·have:=hb3 b h;omega
    ·omega)
  ·rw[hrv];rcases k4 b hb with h|h
   ·exact .inl h
   ·exact .inr ⟨by omega,by omega,by omega⟩
  ·rw[ac x3,lo x x2 (by rw[hrv] at x4;exact x4)]
theorem GP(x y:Int):pU 187 [.int .i64 x,.int .i64 y] (.bool (decide (x<y))):=by
 have h1:=jh x;have h2:=jh y;refine pO Ig ?_;simp only[JD,aG];refine wnZ and_self ?_;exact .bool _
theorem AF(l:List Int)(v:Int)(hl:l.length<=1000000000)(ha:bt l):∃b:Nat,pU 163 [aE l,.int .i64 v] (.tup [.int .i64 b,.bool (decide (v∈l))]):=by
 obtain⟨b,hb,h1,h2⟩:=Nv v ha;refine⟨b,?_⟩;rw[<-I2 h1 h2 ha];refine pO La ?_;simp only[L4,aG];refine wnZ @cm ?_;refine lC (X:=Nat×Nat) (λx=>[(0,aE l),(1,.int .i64 v),(6,.int .i64 l.length),(7,.int .i64 x.1),(8,.int .i64 x.2)]) (λx=>x.1<=b/\b<=x.2/\x.2<=l.length) (λx=>x.2-x.1) (0,l.length) ⟨bz _,hb,aN _⟩ ag0 ?_;rintro⟨i,j⟩ ⟨g1,g2,g3⟩;dsimp only at g1 g2 g3 |-;by_cases hij:i<j
 ·have hh:(i+j)/2<l.length:=by omega
  have hc:=GP (l.getD ((i+j)/2) default) v;have ix:=ixV hh;by_cases hn:l.getD ((i+j)/2) default<v
  ·rw[aZ hn] at hc;have hbb:(i+j)/2<b:=Nat.lt_of_not_le λh=>by have:=h2 _ h hh;omega
   refine wnZ (zI4 @cm @ff @BO @ix) ?_;exact⟨((i+j)/2+1,j),⟨by omega,by omega,by omega⟩,by dsimp only;omega,ag0,rfl,rfl⟩
  ·rw[aW hn] at hc;have hbb:b<=(i+j)/2:=Nat.le_of_not_lt λh=>hn (h1 _ h);refine wnZ (zI4 @cm @ff @BO @ix) ?_;exact⟨(i,(i+j)/2),⟨by omega,by omega,by omega⟩,by dsimp only;omega,ag0,rfl,rfl⟩
 ·have ei:i=b:=by omega
  have ej:j=b:=by omega
  clear hij g1 g2 g3;subst ei;have dij:decide ((i:Int)<(j:Int))=false:=aW (by omega);by_cases hlt:i<l.length
  ·have hc:=jh (l.getD i default);have ix:=ixV hlt;have hna:=jh v
   have hn2:∀n:Int,pU 188 [.int .i64 n] (.bool false):=λn=>by
    refine pO KN ?_;simp only[LW,aG];refine wnZ and_self ?_;exact ci (by simp)
   have dlt:decide ((i:Int)<(l.length:Int))=true:=aZ (by omega);by_cases hv:l.getD i default=v
   ·have dv:decide (l.getD i default=v)=true:=aZ hv;rw[dv,aZ hlt,Bool.true_and];refine wnZ (zI5 @cm @ix @dlt @dij @dv) ?_;exact bI (ag (.int _ _) (ag (.bool _) an))
   ·have dv:decide (l.getD i default=v)=false:=aW hv;rw[dv,Bool.and_false];have zz:=aI @cm (aI @ix (aI @dlt (aI @dij @dv)));repeat' (first|refine zW ?_|apply a_n|apply a_x|refine zO ?_|refine vZ ?_|refine cZ ?_ (hp:=by exact hn2 _)|refine gTZ ?_|refine gFZ ?_|refine cFZ ?_|refine bR rfl ?_|refine r2Z ?_|fail)
    exact bI (ag (.int _ _) (ag (.bool _) an))
  ·have dlt:decide ((i:Int)<(l.length:Int))=false:=aW (by omega);rw[aW hlt,Bool.false_and];refine wnZ (zI3 @cm @dlt @dij) ?_;exact bI (ag (.int _ _) (ag (.bool _) an))
theorem Gg(l:List Int)(v:Int)(hl:l.length<=1000000000)(ha:bt l):pU 146 [aE l,.int .i64 v] (.bool (decide (v∈l))):=by
 obtain⟨b,hb⟩:=AF l v hl ha;refine pO Nb ?_;simp only[MP,aG];refine wnZ and_self ?_;exact .bool _
theorem FI(M:List Ln)(c n:Nat)(hc:c<=4096)(hn:n<=4096)(hM:RedU M)(hMb:∀l∈M,BL c n l)(x:Ln)(hx:cq x)(hxb:BL c n x){a:AV}{Hf HA H:Hp}(hfz:Fz Hf HA H)(hs:Snap Hf a (eO x)){nx m lb:Nat}(hlb:lb<nx)(hm:m<nx)(hne:m≠lb)(h1:H lb=some [.mp m])(h2:LM H m M):
    Abs.Fn Tryz.prog 149 [a,.ptr lb 1 0] HA nx λr H' nx'=>r=eO (en M x)/\(∀b,b<nx->H' b=H b)/\nx<=nx':=by
 refine fO Kx ?_;simp only[Lo,aG];have hx0:eO x=.agg [aE x.1,aE x.2]:=rfl;refine dI ?_;refine pD Hf H [(0,eO x),(1,.ptr lb 1 0)] hfz ⟨.inr hs,.inl rfl,trivial⟩ ?_;rw[hx0];clear hs hfz;refine wnY @h1 ?_;refine lpI (X:=Ln×Nat) (λy=>[(1,.ptr lb 1 0),(2,.ptr nx 2 0),(3,.ptr (nx+1) 2 0),(4,.int .i64 y.2)]) (λy H' nx'=>y.2<=y.1.1.length/\nx+2<=nx'/\cq y.1/\BL c n y.1/\en M y.1=en M x/\(∀j,j<y.2->∀l∈M,ld l.1≠y.1.1.getD j default)/\H' nx=some [aE y.1.1,aE y.1.2]/\H' (nx+1)=some [.esl,.esl]/\∀b,b<nx->H' b=H b) (λy=>nL M y.1*10000+(y.1.1.length-y.2)) (x,0) ⟨bz _,aN _,hx,hxb,rfl,λj h=>absurd h (by omega),by rw[ac (by omega),ae],by rw[ae],λb hb=>by rw[ac (by omega),ac (by omega)]⟩ ?_;clear hx hxb hx0;rintro⟨y,i⟩ H' nx' ⟨g1,g2,g3,g4,g5,g6,g7,g8,g9⟩;dsimp only at g1 g2 g3 g4 g5 g6 g7 g8 g9 |-;obtain⟨l1,l2⟩:=g4.len g3;have k1:H' lb=some [.mp m]:=(g9 lb hlb).trans h1;have k2:LM H' m M:=(g9 m hm).trans h2;by_cases hi:i<y.1.length
 rotate_left
 ·have hr:en M y=y:=Dh hM g3 λl hl hz=>by
    obtain⟨j,hj,e⟩:=jW hz;refine g6 j (by omega) l hl ?_;rw[<-e];simp[List.getD,hj]
  have z:decide ((i:Int)<y.1.length)=false:=aW (by omega);rw[<-g5,hr];refine wnY (zI4 @cm @z @g7 @g8) ?_;exact⟨rfl,λb hb=>by rw[ac (by omega)];exact g9 b hb,by omega⟩
 have z:decide ((i:Int)<y.1.length)=true:=aZ (by omega);have ix:=ixV hi;have hvm:=ay hi;generalize hv:y.1.getD i default=v at *;refine wnY (zI4 @cm @z @ix @g7) ?_;refine A3 lb m nx k1 k2 g7 (by omega) (by omega) (by omega) λS hS1 hS2 hS3 hsub=>?_;refine wnY (zI4 @hS1 @hS2 @hS3 @ix) ?_;simp only[fY,List.map_nil,List.getD_cons_succ,List.getD_cons_zero];by_cases hk:v∈b0 M
 rotate_left
 ·have hmg:Go.Abs.mget (.agg [.esl,.esl]) true (if v∈b0 M then some ((b0 M).idxOf v) else none) (M.map eO)=.tup [.agg [.esl,.esl],.bool false]:=by rw[if_neg hk];rfl
  refine Kb (Kg ev0 hS2 ev0) ?_;rw[hmg];refine wnY and_self ?_;refine d5 ?_;refine wnY and_self ?_;refine⟨hsub _ (by rw[ac (by omega)];exact k1) (by rw[ac (by omega)];exact k2) (by rw[ac (by omega)];exact g7),?_⟩;refine wnY and_self ?_;refine⟨(y,i+1),by dsimp only;omega,⟨by dsimp only;omega,by omega,g3,g4,g5,λj hj l hl=>?_,by rw[ac (by omega),ac (by omega)];exact g7,by rw[ac (by omega),ac (by omega)];exact g8,λb hb=>by rw[ac (by omega),ac (by omega)];exact g9 b hb⟩,ag0⟩;dsimp only;rcases(by omega:j<i\/j=i) with q|rfl
  ·exact g6 j q l hl
  ·rw[hv];exact λe=>hk (mX.2 ⟨l,hl,e⟩)
 obtain⟨l,hl,hld,hgd⟩:=vC hk
 have hmg:Go.Abs.mget (.agg [.esl,.esl]) true (if v∈b0 M then some ((b0 M).idxOf v) else none) (M.map eO)=.tup [.agg [aE l.1,aE l.2],.bool true]:=by
  rw[if_pos hk];show AV.tup [(M.map eO).getD ((b0 M).idxOf v) .undef,.bool true]=_;rw[hgd];rfl
 refine Kb (Kg ev0 hS2 ev0) ?_;rw[hmg];refine wnY and_self ?_;refine d5 ?_;refine wnY and_self ?_;refine⟨hsub _ (by rw[ac (by omega)];exact k1) (by rw[ac (by omega)];exact k2) (by rw[ac (by omega)];exact g7),?_⟩;refine wnY and_self ?_;have hla:=hM.asc l hl;have hlb':=hMb l hl;obtain⟨l3,l4⟩:=hlb'.len hla;have hs1:=vL y.1 l.1 (by omega) (by omega);have hs2:=vL y.2 l.2 (by omega) (by omega)
 have hlt:∀j,j<i->∀w∈l.1,y.1.getD j default<w:=λj hj w hw=>by
  have h5:=nK hla.1 hw;have h6:=kp.1 g3.1 j i (by omega) hi hj;have e1:y.1.getD j default=y.1[j]:=by simp[List.getD,show j<y.1.length by omega]
  have e2:y.1.getD i default=y.1[i]:=by simp[List.getD,hi]
  omega
 have hp1:=yT (i:=i) (a:=y.1) (b:=l.1) (by omega) hlt;have hp2:=v8 (i:=i) (a:=y.1) (b:=l.1) (by omega) hlt;have hnl:=J7 hM g3 hl (by rw[hld];exact hvm);have ha':=eW g3 hla;have hb':=g4.add hlb' g3 hla;obtain⟨l5,_⟩:=hb'.len ha';have hrx:=C8 hM g3 hl;have e7:ap (ap H' nx' [AV.esl,AV.esl]) nx' (br [AV.esl,AV.esl] 0 [aE l.1,aE l.2]) nx'=some [aE l.1,aE l.2]:=by rw[ae];rfl
 have e8:ap (ap H' nx' [AV.esl,AV.esl]) nx' (br [AV.esl,AV.esl] 0 [aE l.1,aE l.2]) nx=some [aE y.1,aE y.2]:=by rw[ac (by omega),ac (by omega)];exact g7
 have e9:∀b,b≠nx->b<nx'->ap (ap H' nx' [AV.esl,AV.esl]) nx' (br [AV.esl,AV.esl] 0 [aE l.1,aE l.2]) b=H' b:=λb h1 h2=>by rw[ac (by omega),ac (by omega)]
 generalize ap (ap H' nx' [AV.esl,AV.esl]) nx' (br [AV.esl,AV.esl] 0 [aE l.1,aE l.2])=H2 at *;have hadd:ea y l=(bP y.1 l.1,bP y.2 l.2):=rfl;generalize bP y.1 l.1=s1 at *;generalize bP y.2 l.2=s2 at *;refine wkY (aI @e7 @e8) ?_;refine⟨((s1,s2),i),?_,⟨hp2,by omega,by rw[<-hadd];exact ha',by rw[<-hadd];exact hb',by rw[<-hadd,hrx];exact g5,λj hj l' hl'=>by dsimp only;rw[hp1 j hj];exact g6 j hj l' hl',by rw[ae];rfl,by rw[ac (by omega),e9 _ (by omega) (by omega)];exact g8,λb hb=>by rw[ac (by omega),e9 _ (by omega) (by omega)];exact g9 b hb⟩,ag0⟩;rw[hadd] at hnl l5;dsimp only at hnl l5 |-;omega
theorem EI(l:List Int)(hl:l.length<=1000000000):PureF Tryz.prog 150 [aE l] (aE l):=by
 refine qO Mg ?_;simp only[MA,aG];refine wnZ and_self ?_;refine ww (k:=l.length) (by((try simp only[b7,ZA,reduceEqDiff,↓reduceIte,reduceAdd,reduceLeDiff]);(try with_reducible rfl));exact AE) (λh=>?_) (λh=>?_) (λh=>?_)
 ((all_goals (try have zz:=and_self));(repeat' (first|refine zW ?_|apply a_n|apply a_r|refine zO ?_|refine vZ ?_|refine b0Z ?_|refine a0Z ?_|refine cTZ ?_|refine cFZ ?_|refine bR rfl ?_|refine r1Z ?_|fail));(all_goals (try clear zz)))
 ·exact vV ae (by omega) rfl
 ·exact CF h
 ·exact vV ae (by omega) rfl
theorem vJ(c:Nat)(R:List (List Int))(hc:c<=4096)(hl:R.length<=4096)(hR:∀r∈R,bt r)(hv:∀r∈R,∀z∈r,0<=z/\z<(c:Int)):pU 115 [cQ c R] (.tup [mc (lw R c),bi (stE R R.length).2]):=by
 refine pO LN ?_;simp only[Mc,aG];rw[bU];refine dI ?_
 repeat' (first|apply a_n|refine zO ?_|refine vY ?_|refine bxY ?_|fail)
 refine dI ?_;refine wnY and_self ?_;refine uX ?_;refine rC (cs:=[.nilm]) rfl rfl rfl ?_
 repeat' (first|apply a_n|refine zO ?_|refine stY ?_|fail)
 refine dI ?_
 repeat' (first|apply a_n|refine zO ?_|refine vY ?_|fail)
 refine dI ?_
 repeat' (first|apply a_n|refine zO ?_|refine vY ?_|fail)
 refine bn (λT H nx=>T 1=.ptr 0 2 0/\T 4=.ptr 2 1 0/\3<=nx/\H 0=some [.int .i64 c,bi R]/\H 2=some [.mp 1]/\LM H 1 (stE R R.length).1/\∃dv,T 6=dv/\Row H 1 dv ((stE R R.length).2.map aE)/\∀b,bv dv=some b->2<b/\b<nx) ?_ ?_
 ·refine wnY @bG ?_;refine lpI (X:=AV×Nat) (λx=>[(1,.ptr 0 2 0),(4,.ptr 2 1 0),(5,.func 149 [.ptr 2 1 0]),(6,x.1),(19,bi R),(20,.int .i64 R.length),(21,.int .i64 x.2)]) (λx H nx=>x.2<=R.length/\3<=nx/\H 0=some [.int .i64 c,bi R]/\H 2=some [.mp 1]/\LM H 1 (stE R x.2).1/\Row H 1 x.1 ((stE R x.2).2.map aE)/\∀b,bv x.1=some b->2<b/\b<nx) (λx=>R.length-x.2) (.esl,0) ⟨bz _,aN _,rfl,rfl,rfl,Row.nil,λb h=>(by cases h)⟩ ?_;rintro⟨dv,k⟩ H nx ⟨h1,h2,h3,h4,h5,h6,h7⟩;dsimp only at h1 h2 h3 h4 h5 h6 h7 |-;by_cases hk:k<R.length
  rotate_left
  ·obtain rfl:k=R.length:=by omega
   refine wnY and_self ?_;exact⟨rfl,rfl,h2,h3,h4,h5,dv,rfl,h6,h7⟩
  have ix:=t5 hk;have hrow:=hR _ (ay hk);have hrv:=hv _ (ay hk);have hst:=gv hR (i:=k) (by omega);have hbl:=AD hR hv (k:=k) (by omega);have hsl:=xG hR (k:=k) (by omega);have hss:stE R (k+1)=if (en (stE R k).1 (R.getD k default,[(k:Int)])).1=[] then((stE R k).1,(stE R k).2++[(en (stE R k).1 (R.getD k default,[(k:Int)])).2]) else(jK (stE R k).1 (en (stE R k).1 (R.getD k default,[(k:Int)])),(stE R k).2):=rfl
  generalize R.getD k default=r at *;generalize stE R k=MD at *;obtain⟨M,D⟩:=MD;dsimp only at *;have hrl:=eu hrow hrv;have hcl:=EI r (by omega);refine wnY @ix ?_;refine fT ev0 ev0 hcl (ag (cu _ _) an) ?_;refine wnY @ix ?_;have hM:=hst.red;have hax:cq (r,[(k:Int)]):=⟨hrow,List.pairwise_singleton _ _⟩
  have hbx:BL c R.length (r,[(k:Int)]):=⟨hrv,λj hj=>by rw[c6.1 hj];omega⟩
  refine aO ev0 ev0 (FI M c R.length hc hl hM hbl (r,[(k:Int)]) hax hbx (Fz.one ae) (ju (ag (cu _ _) (ag (dD (n:=1) (len:=1) (l:=[(k:Int)]) gA rfl rfl) an))) (m:=1) (lb:=2) (by omega) (by omega) (by omega) (by rw[b9 (by omega),ac (by omega)];exact h4) (by unfold LM;rw[b9 (by omega),ac (by omega)];exact h5)) ?_;rintro _ H1 nx1 ⟨rfl,g1,g2⟩;have hay:cq (en M (r,[(k:Int)])):=gZ (λl hl=>hM.asc l hl) hax;have hby:BL c R.length (en M (r,[(k:Int)])):=AO (λl hl=>⟨hM.asc l hl,hbl l hl⟩) hax hbx;have hno:∀l∈M,ld l.1∉(en M (r,[(k:Int)])).1:=λl hl=>kq hM hax hl;generalize en M (r,[(k:Int)])=y at *;have lo:∀b,b<nx->H1 b=H b:=λb hb=>(g1 b (by omega)).trans (by rw[b9 (by omega),ac (by omega)]);have e1:eO y=.agg [aE y.1,aE y.2]:=rfl;rw[e1];by_cases h0:y.1=[]
  ·rw[if_pos h0] at hss;have z:decide ((y.1.length:Int)=0)=true:=by rw[h0];rfl
   refine wnY (aI @cm @z) ?_;refine eR (h6.same λb hb=>?_) ?_
   ·have:=h7 b hb;rw[ac (by omega),ac (by omega),ac (by omega)];exact lo b (by omega)
   rintro s2 H2 nx2 hr2 i1 i2 i3 i4;have lo2:∀b,b<nx->bv dv≠some b->H2 b=H b:=λb hb hn=>(i3 b (by omega) hn).trans (by rw[ac (by omega),ac (by omega),ac (by omega)];exact lo b hb);have hd:∀b,b<=2->bv dv≠some b:=λb hb e=>by have:=h7 b e;omega
   refine wnY and_self ?_;refine⟨(s2,k+1),by dsimp only;omega,⟨by dsimp only;omega,by omega,(lo2 0 (by omega) (hd 0 (by omega))).trans h3,(lo2 2 (by omega) (hd 2 (by omega))).trans h4,?_,?_,λb hb=>?_⟩,ag0⟩
   ·dsimp only;rw[hss];exact(lo2 1 (by omega) (hd 1 (by omega))).trans h5
   ·dsimp only;rw[hss,cp];exact hr2
   ·rcases i4 b hb with h|h
    ·have:=h7 b h;omega
    ·omega
  rw[if_neg h0] at hss;have z:decide ((y.1.length:Int)=0)=false:=aW (by have:=li.2 h0;omega);refine wnY (aI @cm @z) ?_;have hd:∀b,b<=2->bv dv≠some b:=λb hb e=>by have:=h7 b e;omega
  have q0:ap (ap H1 nx1 [AV.esl,AV.esl]) nx1 (br [AV.esl,AV.esl] 0 [aE y.1,aE y.2]) 0=some [.int .i64 c,bi R]:=by rw[ac (by omega),ac (by omega)];exact(lo 0 (by omega)).trans h3
  have q2:ap (ap H1 nx1 [AV.esl,AV.esl]) nx1 (br [AV.esl,AV.esl] 0 [aE y.1,aE y.2]) 2=some [.mp 1]:=by rw[ac (by omega),ac (by omega)];exact(lo 2 (by omega)).trans h4
  have q1:LM (ap (ap H1 nx1 [AV.esl,AV.esl]) nx1 (br [AV.esl,AV.esl] 0 [aE y.1,aE y.2])) 1 M:=by unfold LM;rw[ac (by omega),ac (by omega)];exact(lo 1 (by omega)).trans h5
  have qy:ap (ap H1 nx1 [AV.esl,AV.esl]) nx1 (br [AV.esl,AV.esl] 0 [aE y.1,aE y.2]) nx1=some [aE y.1,aE y.2]:=by rw[ae];rfl
  have qd:Row (ap (ap H1 nx1 [AV.esl,AV.esl]) nx1 (br [AV.esl,AV.esl] 0 [aE y.1,aE y.2])) 1 dv (D.map aE):=h6.same λb hb=>by
   have:=h7 b hb;rw[ac (by omega),ac (by omega)];exact lo b (by omega)
  generalize ap (ap H1 nx1 [AV.esl,AV.esl]) nx1 (br [AV.esl,AV.esl] 0 [aE y.1,aE y.2])=H2 at *;clear lo g1;refine wnY @q2 ?_;refine Jj ev0 q1 ?_;refine wnY and_self ?_;have hkl:(b0 M).length=M.length:=by unfold b0;rw[bk]
  have hkn:=yD hM;have ix0:=Dg h0;obtain⟨yl1,yl2⟩:=hby.len hay;refine lpI (X:=List Nat) (λx=>[(1,.ptr 0 2 0),(4,.ptr 2 1 0),(5,.func 149 [.ptr 2 1 0]),(6,dv),(9,.ptr nx1 2 0),(19,bi R),(20,.int .i64 R.length),(21,.int .i64 k),(43,.itr (nx1+1))]) (λseen H nx'=>H (nx1+1)=some [.oiter 1 ((b0 M).map (AV.int .i64)).length seen]/\nx1+2<=nx'/\seen.Nodup/\(∀i∈seen,i<M.length)/\H 0=some [.int .i64 c,bi R]/\H 2=some [.mp 1]/\H nx1=some [aE y.1,aE y.2]/\H 1=some [.omap ((b0 M).map (AV.int .i64)) (vsS M y seen)]/\Row H 1 dv (D.map aE)) (λseen=>M.length-seen.length) [] ⟨ae,aN _,List.nodup_nil,λi h=>(by cases h),(ac (by omega)).trans q0,(ac (by omega)).trans q2,(ac (by omega)).trans qy,by rw[GH];exact(ac (by omega)).trans q1,qd.same λb hb=>by have:=h7 b hb;rw[ac (by omega)]⟩ ?_;clear q0 q2 q1 qy qd;rintro seen H3 nx3 ⟨r1,r2,r3,r4,q0,q2,qy,q1,qd⟩
  have hsl:seen.length<=M.length:=by
   have:=yV r3 (l₂:=List.range M.length) λi hi=>ef.2 (r4 i hi);simpa using this
  refine wnY and_self ?_;refine JU ev0 r1 q1 rfl (λi hi hns=>?_) (λhall=>?_)
  ·have hi:i<M.length:=by rw[bk,hkl] at hi;exact hi
   have ek:((b0 M).map (AV.int .i64)).getD i .undef=.int .i64 (ld (M.getD i default).1):=by
    unfold b0;simp[List.getD,hi]
   have evv:(vsS M y seen).getD i .undef=.agg [aE (M.getD i default).1,aE (M.getD i default).2]:=Bh hi hns
   have hidx:(b0 M).idxOf (ld (M.getD i default).1)=i:=by
    have h5:i<(b0 M).length:=by rw[hkl];exact hi
    have h6:(b0 M)[i]=ld (M.getD i default).1:=by
     have:(b0 M)[i]=ld M[i].1:=List.getElem_map ..;rw[this];simp[List.getD,hi]
    have h7:=pX.2 (show ld (M.getD i default).1∈b0 M by rw[<-h6];exact ns h5);have h8:(b0 M)[(b0 M).idxOf (ld (M.getD i default).1)]=(b0 M)[i]:=by rw[List.getElem_idxOf h7,h6]
    exact(List.getElem_inj hkn).1 h8
   have hkm:ld (M.getD i default).1∈b0 M:=mX.2 ⟨_,ay hi,rfl⟩;have hla:=hM.asc _ (ay hi);have hlb:=hbl _ (ay hi);obtain⟨ll1,ll2⟩:=hlb.len hla;have hset:=Cc (M:=M) (y:=y) (seen:=seen) (i:=i);have hsame:=EU (M:=M) (y:=y) (seen:=seen) (i:=i) hi hns;have r3':(seen++[i]).Nodup:=zB.2 ⟨r3,by simp,λx hx z hz e=>by rw[e,c6.1 hz] at hx;exact hns hx⟩
   have r4':∀x∈seen++[i],x<M.length:=λx hx=>by
    rcases ee.1 hx with q|q
    ·exact r4 x q
    ·rw[c6.1 q];exact hi
   have hsl2:(seen++[i]).length<=M.length:=by
    have:=yV r3' (l₂:=List.range M.length) λi hi=>ef.2 (r4' i hi);simpa using this
   rw[cw,List.length_singleton] at hsl2;generalize M.getD i default=l at *;have hhas:=Gg l.1 (ld y.1) (by omega) hla.1;refine wnY (aI @ek @evv) ?_;refine Ji (i:=i) ev0 ae (by rw[ac (by omega)];exact q1) rfl (by simp) (by rw[bk,hkl];exact hi) ?_;refine wnY (aI @ek @evv) ?_;have w0:ap (ap (ap H3 (nx1+1) [AV.oiter 1 ((b0 M).map (AV.int .i64)).length (seen++[i])]) nx3 [AV.esl,AV.esl]) nx3 (br [AV.esl,AV.esl] 0 [aE l.1,aE l.2]) 0=some [.int .i64 c,bi R]:=by rw[ac (by omega),ac (by omega),ac (by omega)];exact q0
   have w2:ap (ap (ap H3 (nx1+1) [AV.oiter 1 ((b0 M).map (AV.int .i64)).length (seen++[i])]) nx3 [AV.esl,AV.esl]) nx3 (br [AV.esl,AV.esl] 0 [aE l.1,aE l.2]) 2=some [.mp 1]:=by rw[ac (by omega),ac (by omega),ac (by omega)];exact q2
   have w1:ap (ap (ap H3 (nx1+1) [AV.oiter 1 ((b0 M).map (AV.int .i64)).length (seen++[i])]) nx3 [AV.esl,AV.esl]) nx3 (br [AV.esl,AV.esl] 0 [aE l.1,aE l.2]) 1=some [.omap ((b0 M).map (AV.int .i64)) (vsS M y seen)]:=by rw[ac (by omega),ac (by omega),ac (by omega)];exact q1
   have wy:ap (ap (ap H3 (nx1+1) [AV.oiter 1 ((b0 M).map (AV.int .i64)).length (seen++[i])]) nx3 [AV.esl,AV.esl]) nx3 (br [AV.esl,AV.esl] 0 [aE l.1,aE l.2]) nx1=some [aE y.1,aE y.2]:=by rw[ac (by omega),ac (by omega),ac (by omega)];exact qy
   have wl:ap (ap (ap H3 (nx1+1) [AV.oiter 1 ((b0 M).map (AV.int .i64)).length (seen++[i])]) nx3 [AV.esl,AV.esl]) nx3 (br [AV.esl,AV.esl] 0 [aE l.1,aE l.2]) nx3=some [aE l.1,aE l.2]:=by rw[ae];rfl
   have wi:ap (ap (ap H3 (nx1+1) [AV.oiter 1 ((b0 M).map (AV.int .i64)).length (seen++[i])]) nx3 [AV.esl,AV.esl]) nx3 (br [AV.esl,AV.esl] 0 [aE l.1,aE l.2]) (nx1+1)=some [.oiter 1 ((b0 M).map (AV.int .i64)).length (seen++[i])]:=by rw[ac (by omega),ac (by omega),ae]
   have wd:Row (ap (ap (ap H3 (nx1+1) [AV.oiter 1 ((b0 M).map (AV.int .i64)).length (seen++[i])]) nx3 [AV.esl,AV.esl]) nx3 (br [AV.esl,AV.esl] 0 [aE l.1,aE l.2])) 1 dv (D.map aE):=qd.same λb hb=>by
    have:=h7 b hb;rw[ac (by omega),ac (by omega),ac (by omega)]
   generalize ap (ap (ap H3 (nx1+1) [AV.oiter 1 ((b0 M).map (AV.int .i64)).length (seen++[i])]) nx3 [AV.esl,AV.esl]) nx3 (br [AV.esl,AV.esl] 0 [aE l.1,aE l.2])=H4 at *;clear q0 q2 q1 qy qd;by_cases hin:ld y.1∈l.1
   ·rw[aZ hin] at hhas;have hs1:=vL l.1 y.1 (by omega) (by omega);have hs2:=vL l.2 y.2 (by omega) (by omega);have hcl:eO (jw y l)=.agg [aE (bP l.1 y.1),aE (bP l.2 y.2)]:=by unfold jw;rw[if_pos hin];rfl
    rw[hcl] at hset;clear hcl;generalize bP l.1 y.1=s1 at *;generalize bP l.2 y.2=s2 at *;refine wkY (zI3 @wy @wl @ix0) ?_;refine A3 2 nx3 nx1 w2 wl wy (by omega) (by omega) (by omega) λS hS1 hS2 hS3 hsub=>?_;refine wnY (zI3 @hS1 @hS2 @hS3) ?_;simp only[fY,List.map_nil,List.getD_cons_succ,List.getD_cons_zero];refine d5 ?_;refine wnY and_self ?_;refine⟨hsub _ w2 wl wy,?_⟩;refine d5 ?_;refine wnY and_self ?_;refine⟨hsub _ w2 wl wy,?_⟩;refine wnY and_self ?_;have hmf:=iz (ld l.1) (b0 M);rw[if_pos hkm,hidx] at hmf;refine pG ev0 w1 ev0 ev0 rfl hmf ?_;refine wnY and_self ?_;refine⟨seen++[i],by rw[cw,List.length_singleton];omega,⟨(ac (by omega)).trans wi,by omega,r3',r4',(ac (by omega)).trans w0,(ac (by omega)).trans w2,(ac (by omega)).trans wy,?_,wd.same λb hb=>by have:=h7 b hb;rw[ac (by omega)]⟩,ag0⟩;rw[ae,<-hset];rfl
   ·rw[aW hin] at hhas;refine wkY (zI3 @wy @wl @ix0) ?_;exact⟨seen++[i],by rw[cw,List.length_singleton];omega,⟨wi,by omega,r3',r4',w0,w2,wy,by rw[hsame hin];exact w1,wd⟩,ag0⟩
  ·have hall:∀i,i<M.length->i∈seen:=λi hi=>hall i (by rw[bk,hkl];exact hi) (by rw[bk,hkl];exact hi);rw[Hm hall,<-zd hM hay h0 hno] at q1
   have hkk:ld y.1∉b0 (M.map (jw y)):=by
    rw[zd hM hay h0 hno,mX];rintro⟨l,hl,e⟩;exact hno l hl (by rw[e];exact dj h0)
   refine wnY (zI3 @q2 @qy @ix0) ?_;refine pK 2 nx1 q2 qy (by omega) λS hS1 hS2 hsub=>?_;have zz:=aI @hS1 (aI @hS2 @ix0);repeat' (first|apply a_n|refine zO ?_|refine nvY ?_|apply jc|fail)
   simp only[fY,List.map_nil,List.getD_cons_succ,List.getD_cons_zero]
   skip
   have hmf:=iz (ld y.1) (b0 (M.map (jw y)));rw[if_neg hkk] at hmf;refine pG ev0 q1 ev0 ev0 rfl hmf ?_;refine wnY and_self ?_;refine⟨(dv,k+1),by dsimp only;omega,⟨by dsimp only;omega,by omega,(ac (by omega)).trans q0,(ac (by omega)).trans q2,?_,?_,λb hb=>by have:=h7 b hb;omega⟩,ag0⟩
   ·dsimp only;rw[hss];unfold LM;rw[ae];unfold jK b0;simp[cR,gg,eO]
   ·dsimp only;rw[hss];exact qd.same λb hb=>by have:=h7 b hb;rw[ac (by omega)]
 rintro T H nx ⟨t1,t4,h2,h3,h4,h5,dv,t6,h6,h7⟩;have hst:=gv hR (aN R.length);have hbl:=AD hR hv (aN R.length);have hsl:=xG hR (aN R.length);unfold lw;generalize stE R R.length=MD at *;obtain⟨M,D⟩:=MD;dsimp only at *;have hM:=hst.red;refine wnY (zI5 @t1 @t4 @t6 @h3 @h4) ?_;refine bA (X:=AV×Nat) (λx=>[(4,.ptr 2 1 0),(6,dv),(12,x.1),(77,.int .i64 c),(78,.int .i64 x.2)]) (λx H' nx'=>x.2<=c/\nx<=nx'/\H' 2=some [.mp 1]/\LM H' 1 M/\Row H' 1 dv (D.map aE)/\Row H' 2 x.1 (cLs (lM M x.2))/\∀b,bv x.1=some b->nx<=b/\b<nx') (λx=>c-x.2) (.esl,0) ⟨bz _,aN _,h4,h5,h6,Row.nil,λb h=>(by cases h)⟩ (have zz:=aI @t4 @t6;agZ) ?_;clear h3 h4 h5 h6;rintro⟨ov,k⟩ H' nx' ⟨g1,g2,g3,g4,g5,g6,g7⟩;dsimp only at g1 g2 g3 g4 g5 g6 g7 |-;by_cases hk:k<c
 rotate_left
 ·obtain rfl:k=c:=by omega
  refine wnY and_self ?_;exact bI (ag (Hs g6) (ag (ln g5) an))
 have hos:=pY (M:=M) (c:=k);have hol:=z7 (M:=M) (c:=k);have hmf:=iz (k:Int) (b0 M);refine wnY @g3 ?_;by_cases hm:(k:Int)∈b0 M
 rotate_left
 ·rw[if_neg hm] at hmf;refine jg ev0 g4 ev0 rfl hmf ?_;have hmg:Go.Abs.mget (.agg [.esl,.esl]) true none (M.map eO)=.tup [.agg [.esl,.esl],.bool false]:=rfl;rw[hmg];refine wnY and_self ?_;rw[AH hm] at hos;have hos:lM M (k+1)=lM M k:=by rw[hos];simp
  refine⟨(ov,k+1),by dsimp only;omega,⟨by dsimp only;omega,by omega,by rw[ac (by omega),ac (by omega)];exact g3,?_,g5.same λb hb=>by have:=h7 b hb;rw[ac (by omega),ac (by omega)],?_,λb hb=>by have:=g7 b hb;omega⟩,ag0⟩
  ·unfold LM;rw[ac (by omega),ac (by omega)];exact g4
  ·dsimp only;rw[hos];exact g6.same λb hb=>by have:=g7 b hb;rw[ac (by omega),ac (by omega)]
 obtain⟨l,hl,hld,hgd⟩:=vC hm;rw[if_pos hm] at hmf;refine jg ev0 g4 ev0 rfl hmf ?_
 have hmg:Go.Abs.mget (.agg [.esl,.esl]) true (some ((b0 M).idxOf (k:Int))) (M.map eO)=.tup [.agg [aE l.1,aE l.2],.bool true]:=by
  show AV.tup [(M.map eO).getD ((b0 M).idxOf (k:Int)) .undef,.bool true]=_;rw[hgd];rfl
 rw[hmg];rw[Fr hM hl hld] at hos;have hos:lM M (k+1)=lM M k++[l]:=hos;refine wnY and_self ?_;refine f9 rfl ev0 (g6.same λb hb=>?_) ev0 qn rfl rfl (by omega) (by rw[Ch];omega) (by rw[Ch];omega) ?_
 ·have:=g7 b hb;rw[ac (by omega),ac (by omega),ac (by omega)]
 rintro s2 H2 nx2 hr2 i1 i2 i3 i4;have hdo:∀b,b<nx->bv ov≠some b:=λb hb e=>by have:=g7 b e;omega
 have lo2:∀b,b<nx->H2 b=H' b:=λb hb=>(i3 b (by omega) (hdo b hb)).trans (by rw[ac (by omega),ac (by omega),ac (by omega)]);refine wnY and_self ?_;refine⟨(s2,k+1),by dsimp only;omega,⟨by dsimp only;omega,by omega,(lo2 2 (by omega)).trans g3,(lo2 1 (by omega)).trans g4,g5.same λb hb=>by have:=h7 b hb;rw[lo2 b (by omega)],?_,λb hb=>?_⟩,ag0⟩
 ·dsimp only;rw[hos,Ft];exact hr2
 ·rcases i4 b hb with h|h
  ·have:=g7 b h;omega
  ·omega
theorem n8(c:Nat)(R:List (List Int))(hm:fH c R):pU 134 [cQ c R] (.tup [cQ c (cT R c),.int .i64 0]):=by
 refine pO MZ ?_;simp only[LI,aG];have h1:=lz c R hm;have z0:decide ((0:Int)≠0)=false:=rfl;have hd:Dat (.agg [.int .i64 c,bi R]):=cr c R;have hec:=vJ c R (by have:=hm.2.1;omega) hm.2.2.1 (dW hm) (λr hr z hz=>(hm.2.2.2 r hr).1 z hz);have hll:=jv (R:=R) (c:=c);have hmc:=hm.2.1;rw[bU] at hec |-;unfold cT;generalize lw R c=L at *;refine wnY (aI @z0 @tO) ?_;refine lpI (X:=AV×Nat) (λx=>[(2,.ptr 1 2 0),(5,.ptr 2 2 0),(24,mc L),(25,.int .i64 L.length),(26,.int .i64 x.2)]) (λx H nx=>x.2<=L.length/\3<=nx/\H 1=some [.int .i64 0,.esl]/\H 2=some [.int .i64 c,x.1]/\Row H 1 x.1 (((L.take x.2).map Prod.fst).map aE)/\∀b,bv x.1=some b->2<b/\b<nx) (λx=>L.length-x.2) (.esl,0) ⟨bz _,aN _,rfl,rfl,Row.nil,λb h=>(by cases h)⟩ ?_;rintro⟨sv,k⟩ H nx ⟨g1,g2,g3,g4,g5,g6⟩;dsimp only at g1 g2 g3 g4 g5 g6 |-;by_cases hk:k<L.length
 rotate_left
 ·rw[fI (by omega)] at g5;obtain⟨o1,o2⟩:=g5.one;refine wnY (zI4 @g3 @g4 @o1 @o2) ?_;refine jL (ln (g5.same λb hb=>?_)) rfl;have:=g6 b hb;rw[ac (by omega)]
 have ix:=LU hk;have hts:=bZ hk;have hlt:(L.take k).length<=k:=by rw[fL];omega
 generalize L.getD k default=l at *;refine wnY (aI @ix @g4) ?_;refine f9 rfl ev0 (g5.same λb hb=>?_) ev0 dQ rfl rfl jb (by rw[bk,bk];omega) (by rw[bk,bk];omega) ?_
 ·have:=g6 b hb;rw[ac (by omega),ac (by omega),ac (by omega)]
 rintro s2 H2 nx2 hr2 i1 i2 i3 i4;have hdo:∀b,b<=2->bv sv≠some b:=λb hb e=>by have:=g6 b e;omega
 have lo2:∀b,b<=2->H2 b=H b:=λb hb=>(i3 b (by omega) (hdo b hb)).trans (by rw[ac (by omega),ac (by omega),ac (by omega)])
 have hn2:∀b,bv s2=some b->2<b/\b<nx2:=λb hb=>by
  rcases i4 b hb with h|h
  ·have:=g6 b h;omega
  ·omega
 have k4:=(lo2 2 (by omega)).trans g4;obtain⟨o1,o2⟩:=hr2.one;refine wnY (zI3 @k4 @o1 @o2) ?_;refine⟨(s2,k+1),by dsimp only;omega,⟨by dsimp only;omega,by omega,by rw[ac (by omega)];exact(lo2 1 (by omega)).trans g3,by rw[ae];rfl,?_,hn2⟩,ag0⟩;dsimp only;rw[hts,cp,cp];exact hr2.same λb hb=>by have:=hn2 b hb;rw[ac (by omega)]
theorem AY(c:Nat)(R:List (List Int))(hm:fH c R):pU 97 [cQ c R] (.tup [.int .i64 (cT R c).length,.int .i64 0]):=by
 refine pO N9 ?_;simp only[b97,aG];have he:=n8 c R hm;have hd:Dat (.agg [.int .i64 c,bi R]):=cr c R;rw[bU,bU] at he;rw[bU];generalize cT R c=E at *;refine wnY @bG ?_;exact bI (ag (.int _ _) (ag (.int _ _) an))
def HR(D:List (List Int))(b:List Int):Option (List Int):=D.find? λy=>jP y b
def lW(L:List Ln)(b:List Int):List Int:=(L.filter λl=>jP l.2 b).map λl=>ld l.1
def uG(R:List (List Int))(c:Nat)(b:List Int):List Int×List Int×Bool:=match HR (stE R R.length).2 b with
 |some y=>([],y,false)
 |none=>(lW (lw R c) b,[],true)
theorem Di{L:List Ln}{x:Ln}{b:List Int}:lW (L++[x]) b=lW L b++if jP x.2 b=true then [ld x.1] else []:=by
 unfold lW;rw[wh,cp]
 congr 1
 by_cases h:jP x.2 b=true
 ·rw[if_pos h,A4 (by simpa using h)];rfl
 ·rw[if_neg h,A0 (by simpa using h)];rfl
theorem CV{D:List (List Int)}{p:List Int->Bool}{k:Nat}(h:∀i,i<k->p (D.getD i default)=false)(hk:k<D.length)(hp:p (D.getD k default)=true):D.find? p=some (D.getD k default):=by
 induction D generalizing k with
 |nil=>simp at hk
 |cons y D ih=>
  match k with
  | 0 => have hp : p y = true := hp
         show List.find? p (y::D)=some y;rw[List.find?_cons_of_pos hp]
  |k+1=>
   have h0:¬p y=true:=by have:=h 0 (by omega);rw[show(y::D).getD 0 default=y from rfl] at this;rw[this];decide
   rw[List.find?_cons_of_neg h0];exact ih (k:=k) (λi hi=>h (i+1) (by omega)) (by simpa using hk) hp
theorem G4(c:Nat)(R:List (List Int))(b:List Int)(hm:fH c R)(hbr:∀v∈b,0<=v/\v<(R.length:Int))(hba:bt b):pU 59 [cQ c R,aE b] (.tup [aE (uG R c b).1,aE (uG R c b).2.1,.bool (uG R c b).2.2,.int .i64 0]):=by
 refine pO OO ?_;simp only[b59,aG];have hmR:=dW hm;have hmv:∀r∈R,∀z∈r,0<=z/\z<(c:Int):=λr hr z hz=>(hm.2.2.2 r hr).1 z hz;have hbl:=eu hba hbr;have h1:=lz c R hm
 have h2:=pF b (R.length:Int) (by have:=hm.2.2.1; omega) hbr (fun i hi=>by
  have:=kp.1 hba i (i+1) (by omega) hi (by omega);simpa[List.getD,show i<b.length by omega,hi] using this)
 have z0:decide ((0:Int)≠0)=false:=rfl;have hd:Dat (.agg [.int .i64 c,bi R]):=cr c R;have hec:=vJ c R (by have:=hm.2.1;omega) hm.2.2.1 hmR hmv;have hll:=jv (R:=R) (c:=c);have hmc:=hm.2.1;have hrl:=hm.2.2.1;have hsl:=xG hmR (aN R.length);have hok:=gv hmR (aN R.length)
 have hel:∀l∈lw R c,l.1≠[]/\l.2.length<=4096:=λl hl=>by
  have hl':=((gU hmR hmv).2.2 l).1 hl;refine⟨hok.red.ne l hl',?_⟩;have:=((AD hmR hmv (aN R.length)) l hl').len (hok.red.asc l hl');omega
 have hdl:∀y∈(stE R R.length).2,y.length<=4096:=λy hy=>by
  have h3:=hok.dep y hy;have h4:y.length<=R.length:=eu h3.1.2 h3.2.2;omega
 rw[bU] at hec |-;unfold uG;generalize lw R c=L at *;generalize (stE R R.length).2=D at *;refine dI ?_
 repeat' (first|apply a_n|refine zO ?_|refine vY ?_|refine bxY ?_|fail)
 refine dI ?_;refine wnY (zI3 @z0 @tO @bG) ?_;refine lpI (X:=Nat) (λk=>[(1,aE b),(10,mc L),(35,bi D),(36,.int .i64 D.length),(37,.int .i64 k)]) (λk H nx=>k<=D.length/\∀i,i<k->jP (D.getD i default) b=false) (λk=>D.length-k) 0 ⟨bz _,λi h=>absurd h (by omega)⟩ ?_;rintro k H nx ⟨g1,g2⟩;by_cases hk:k<D.length
 ·have ix:=t5 hk;have hyl:=hdl _ (ay hk);have hod:=Ex (D.getD k default) b (by omega) (by omega);by_cases ho:jP (D.getD k default) b=true
  ·have hsy:HR D b=some (D.getD k default):=CV (p:=λy=>jP y b) g2 hk ho;rw[hsy];rw[ho] at hod;generalize D.getD k default=y at *;refine wnY @ix ?_;refine r_4 rfl rfl rfl rfl ?_;exact bI (ag (.eslsl 1) (ag (cu y).snap (ag (.bool _) (ag (.int _ _) an))))
  ·have ho:jP (D.getD k default) b=false:=by simpa using ho
   have hg2:∀i,i<k+1->jP (D.getD i default) b=false:=λi hi=>by
    rcases(by omega:i<k\/i=k) with h|rfl
    ·exact g2 i h
    ·exact ho
   rw[ho] at hod;generalize D.getD k default=y at *;refine wnY @ix ?_;exact⟨k+1,by omega,⟨by omega,hg2⟩,ag0⟩
 have hsy:HR D b=none:=by
  refine List.find?_eq_none.2 λy hy=>?_;obtain⟨i,hi,e⟩:=jW hy;have:=g2 i (by omega);rw[show D.getD i default=y by simp[List.getD,hi,e]] at this;rw[this];decide
 rw[hsy];clear hsy g2;refine wnY @tO ?_;refine lpI (X:=AV×Nat) (λx=>[(1,aE b),(14,x.1),(46,mc L),(47,.int .i64 L.length),(48,.int .i64 x.2)]) (λx H nx=>x.2<=L.length/\Row H 1 x.1 ((lW (L.take x.2) b).map (AV.int .i64))/\∀b,bv x.1=some b->b<nx) (λx=>L.length-x.2) (.esl,0) ⟨bz _,Row.nil,λb h=>(by cases h)⟩ ?_;rintro⟨sv,k⟩ H nx ⟨g1,g2,g3⟩;dsimp only at g1 g2 g3 |-;by_cases hk:k<L.length
 rotate_left
 ·rw[fI (by omega)] at g2;refine wnY and_self ?_;refine r_4 rfl rfl rfl rfl ?_;exact bI (ag g2.snapI (ag (.eslsl 1) (ag (.bool _) (ag (.int _ _) an))))
 have ix:=LU hk;have hts:=bZ hk;obtain⟨hn,hl2⟩:=hel _ (ay hk)
 have hxl:(lW (L.take k) b).length<=k:=by
  unfold lW;rw[bk];refine fc (List.length_filter_le _ _) ?_;rw[fL];omega
 have hsx:=Di (L:=L.take k) (x:=L.getD k default) (b:=b);rw[<-hts] at hsx;generalize L.getD k default=l at *;have hod:=Ex l.2 b (by omega) (by omega);have ix0:=Dg hn;by_cases ho:jP l.2 b=true
 ·rw[ho] at hod;rw[if_pos ho] at hsx;refine wnY (aI @ix @ix0) ?_;refine eR (g2.same λb hb=>?_) ?_
  ·have:=g3 b hb;rw[ac (by omega),ac (by omega),ac (by omega)]
  rintro s2 H2 nx2 hr2 i1 i2 i3 i4;refine wnY and_self ?_;refine⟨(s2,k+1),by dsimp only;omega,⟨by dsimp only;omega,?_,λb hb=>?_⟩,ag0⟩
  ·dsimp only;rw[hsx,cp];exact hr2
  ·rcases i4 b hb with h|h
   ·have:=g3 b h;omega
   ·omega
 ·have ho:jP l.2 b=false:=by simpa using ho
  rw[ho] at hod;rw[ho,if_neg (by decide),fp] at hsx;refine wnY (aI @ix @ix0) ?_;refine⟨(sv,k+1),by dsimp only;omega,⟨by dsimp only;omega,?_,λb hb=>by have:=g3 b hb;omega⟩,ag0⟩;dsimp only;rw[hsx];exact g2.same λb hb=>by have:=g3 b hb;rw[ac (by omega),ac (by omega)]
theorem Cd(c:List Spx)(hc:aB c=0)(hl:c.length<=50):pU 37 [bQ c] (.tup [.int .i64 (sA c 8),.int .i64 0]):=by
 refine pO Lb ?_;simp only[b37,aG];have hcc:=jr c (show _<=_ by omega) (ka hc);rw[hc] at hcc;have z0:decide ((0:Int)≠0)=false:=rfl;have hbd:=λk:Nat=>BD (c:=c) (λk=>ow (k:=k) hl λs hs=>(cA ((dg hc).2.1 s hs)).2.1) k;have hll:=λk=>ow (k:=k) hl λs hs=>(cA ((dg hc).2.1 s hs)).2.1;have hf:=λk(hk:1<=k/\k<=8)=>zU c k hl (dg hc).2.1 hk;refine wnY (zI3 @z0 @ai @ah) ?_;refine lpI (X:=Nat) (λk=>[(1,.ptr 0 1 0),(5,.int .i64 (sA c k)),(6,.int .i64 (k+1:Nat))]) (λk H nx=>k<=8/\H 0=some [ao c]) (λk=>8-k) 0 ⟨bz _,rfl⟩ ?_;rintro k H nx ⟨g1,g2⟩;by_cases hk:k<8
 rotate_left
 ·obtain rfl:k=8:=by omega
  refine wnY and_self ?_;exact bI (ag (.int _ _) (ag (.int _ _) an))
 have hf1:=hf (k+1) ⟨by omega,by omega⟩;have hl1:=hll (k+1);have hb1:=hbd k;have hb2:=hbd (k+1);have hes:sA c (k+1)=if (k+1)%2=1 then sA c k+((gD c (k+1)).length:Int) else sA c k-((gD c (k+1)).length:Int):=rfl
 have hr:∀tb tf,bo .rem tb tf (.int .i64 ((k+1:Nat):Int)) (.int .i64 2)=some (.int .i64 (((k+1)%2:Nat):Int)):=λtb tf=>by
  rw[Bp (by omega) (by omega)]
  congr 2
 generalize gD c (k+1)=L at *;generalize sA c k=E0 at *;by_cases hodd:(k+1)%2=1
 ·rw[if_pos hodd] at hes;rw[hes] at hb2;have zr:decide ((((k+1)%2:Nat):Int)=1)=true:=aZ (by omega);refine wnY (zI5 @g2 @z0 @hr @zr @af) ?_;exact⟨k+1,by omega,⟨by omega,g2⟩,by rw[hes,show((k+1+1:Nat):Int)=((k+1:Nat):Int)+1 by omega];simp (disch:=omega) only[agr,ZG,reduceEqDiff,↓reduceIte]⟩
 ·rw[if_neg hodd] at hes;rw[hes] at hb2;have zr:decide ((((k+1)%2:Nat):Int)=1)=false:=aW (by omega);refine wnY (zI5 @g2 @z0 @hr @zr @af) ?_;exact⟨k+1,by omega,⟨by omega,g2⟩,by rw[hes,show((k+1+1:Nat):Int)=((k+1:Nat):Int)+1 by omega];simp (disch:=omega) only[agr,ZG,reduceEqDiff,↓reduceIte]⟩
theorem yq(c:List Spx)(hc:Shn c)(hs:∀s∈c,Shn s):pU 94 [bQ c] (.tup [.int .i64 (sU c-1),.bool (Fh c)]):=by
 refine pO NV ?_;simp only[b94,aG];unfold sU Fh;have hc':c.length<=17592186044416:=hc;refine wnY (zI3 @ai @ah @af) ?_;refine lpI (X:=Nat) (λk=>[(4,.int .i64 (oq c k).1),(5,.int .i64 (oq c k).2),(9,ao c),(10,.int .i64 c.length),(11,.int .i64 k)]) (λk H nx=>k<=c.length) (λk=>c.length-k) 0 (bz _) ?_;rintro k H nx h1;have hb:=BV (m:=17592186044416) (by omega) (λs h=>by have:s.length<=_:=hs s h;omega) h1;by_cases hk:k<c.length
 rotate_left
 ·obtain rfl:k=c.length:=by omega
  generalize oq c c.length=P at *;obtain⟨a,m⟩:=P;dsimp only at hb |-;by_cases h0:m=0
  ·have z:decide (m=0)=true:=aZ h0;rw[z,Bool.true_or];refine wnY @z ?_;exact bI (ag (.int _ _) (ag (.bool _) an))
  ·have z:decide (m=0)=false:=aW h0;rw[z,Bool.false_or];refine wnY @z ?_;exact bI (ag (.int _ _) (ag (.bool _) an))
 have ix:=eh hk;have hsl:(c.getD k default).length<=17592186044416:=hs _ (ay hk);have e:oq c (k+1)=(min (oq c k).1 ((c.getD k default).length:Int),max (oq c k).2 ((c.getD k default).length:Int)):=rfl;generalize c.getD k default=s at *;refine wnY (aI @ix @au) ?_;exact⟨k+1,by omega,by omega,by rw[e];simp (disch:=omega) only[agr,ZG,reduceEqDiff,↓reduceIte]⟩
theorem o0(c:List Spx)(hc:aB c=0)(hl:c.length<=50):pU 96 [bQ c] (.tup [.int .i64 (sU c-1),.bool (Fh c),.int .i64 0]):=by
 refine pO Oo ?_;simp only[b96,aG];have hcc:=jr c (show _<=_ by omega) (ka hc);rw[hc] at hcc;have hd:=yq c (show _<=_ by omega) (ka hc);have z0:decide ((0:Int)≠0)=false:=rfl;refine wnY (zI3 @z0 @ai @ah) ?_;refine bI (ag (.int _ _) (ag (.bool _) (ag (.int _ _) an)))
theorem rK(c:List Spx)(d:Nat)(hc:aB c=0)(hl:c.length<=50)(hd:d<=8):pU 98 [bQ c,.int .i64 d] (.tup [.int .i64 (aA c ((d:Int)+1)).length,.int .i64 0]):=by
 refine pO OL ?_;simp only[b98,aG];by_cases h8:d=8
 ·rw[Bc hc (by omega)];subst h8;refine wnY (aI @ai @ah) ?_;exact bI (ag (.int _ _) (ag (.int _ _) an))
 have hs:=k9 c ((d:Int)+1) hl (ka hc)
 have e:dx c ((d:Int)+1)=(aA c ((d:Int)+1),0):=by
  unfold dx aA;rw[if_neg (λq=>q hc),if_neg (by omega),if_neg (by omega)]
 rw[e] at hs;dsimp only at hs;have hll:=cE hc hl (d:=(d:Int)+1);generalize aA c ((d:Int)+1)=X at *;have z1:decide ((d:Int)<0)=false:=aW (by omega);have z2:decide ((8:Int)<=d)=false:=aW (by omega);refine wnY (zI5 @ai @ah @af @z1 @z2) ?_;exact bI (ag (.int _ _) (ag (.int _ _) an))
theorem mR(c:List Spx)(d:Nat)(hc:aB c=0)(hl:c.length<=50)(hd:d<=8):pU 58 [bQ c,.int .i64 d] (.tup [cQ (aA c ((d:Int)+1)).length (dH (aA c ((d:Int)+1)) (aA c d)),.int .i64 0]):=by
 refine pO N0 ?_;simp only[b58,aG];by_cases h8:d=8
 ·rw[Bc hc (by omega),yY];subst h8;have hs:pU 98 [bQ c,.int .i64 (((8:Nat):Int)-1)] (.tup [.int .i64 (aA c ((8:Nat):Int)).length,.int .i64 0]):=rK c 7 hc hl (by omega);have hll:=cE hc hl (d:=((8:Nat):Int));generalize (aA c ((8:Nat):Int)).length=n at *;have hzc:bD (AV.agg [AV.esl]) n=List.replicate n .esl:=by simp[bD,AV.cells]
  refine wnY (aI @ai @ah) ?_;refine xT (k1:=.i64) (k2:=.i64) (n:=n) (m:=n) rfl ev0 ev0 (by omega) (Int.le_refl _) (by omega) (by omega) ?_;rw[bN,hzc,Nat.mul_one];refine wnY and_self ?_;exact jL (De (by rw[ac (by omega),ae])) rfl
 have hm:=J3 c d hl (ka hc)
 have e:u6 c d=(((((aA c ((d:Int)+1)).length:Nat):Int),dH (aA c ((d:Int)+1)) (aA c d)),0):=by
  unfold u6;rw[if_neg (λq=>q hc),if_neg (by omega)]
 rw[e] at hm;dsimp only at hm;generalize dH (aA c ((d:Int)+1)) (aA c d)=R at *;generalize (aA c ((d:Int)+1)).length=n at *;rw[bU] at hm |-;have z2:decide ((d:Int)<8)=true:=aZ (by omega);refine wnY (zI3 @ai @ah @z2) ?_;exact jL (kd _).snap rfl
theorem GZ(c:List Spx)(m:Nat)(hc:aB c=0)(hl:c.length<=50)(hm:sU c=m)(hm8:m<=8):pU 44 [bQ c] (.tup [aE (btL c m),.int .i64 0]):=by
 refine pO KR ?_;simp only[b44,aG];have hdi:=o0 c hc hl;rw[hm] at hdi;have z0:decide ((0:Int)≠0)=false:=rfl;have hed:=λd(h:d<=8)=>mR c d hc hl h;have hsz:=λd(h:d<=8)=>rK c d hc hl h;have hrl:=λd:Int=>cE hc hl (d:=d);have hrk:=λd:Nat=>AY (aA c ((d:Int)+1)).length (dH (aA c ((d:Int)+1)) (aA c d)) (lf (by have:=hrl ((d:Int)+1);omega) (by have:=hrl d;omega));have hrf:=λd:Nat=>xq (c:=c) (d:=d);refine wnY (zI3 @z0 @ai @ah) ?_;refine uX ?_;refine wnY and_self ?_;refine lpI (X:=Nat) (λk=>[(1,.ptr 0 1 0),(4,.int .i64 ((m:Int)-1)),(7,.mp 1),(26,.int .i64 ((m:Int)-1+2)),(27,.int .i64 k)]) (λk H nx=>k<=m+1/\2<=nx/\H 0=some [ao c]/\H 1=some [.omap ((rkK k).map (AV.int .i64)) (rkV c k)]) (λk=>m+1-k) 0 ⟨bz _,aN _,rfl,rfl⟩ ?_;rintro k H nx ⟨g1,g2,g3,g4⟩;by_cases hk:k<m+1
 ·have hed1:=hed k (by omega);have hrk1:=hrk k;have hr1:=hrl ((k:Int)+1);have hd1:Dat (cQ (aA c ((k:Int)+1)).length (dH (aA c ((k:Int)+1)) (aA c k))):=cr _ _;change pU 97 _ (.tup [.int .i64 (rkF c k),.int .i64 0]) at hrk1;rw[bU] at hed1 hrk1 hd1;generalize dH (aA c ((k:Int)+1)) (aA c k)=R at *;generalize (aA c ((k:Int)+1)).length=n at *;have z1:decide ((k:Int)<(m:Int)-1+2)=true:=aZ (by omega);refine wnY (zI5 @g3 @z0 @z1 @ai @ah) ?_;have hmf:=iz (k:Int) (rkK k);rw[if_neg (λq=>by have:=kT.1 q;omega)] at hmf;refine pG ev0 ((ac (by omega)).trans ((ac (by omega)).trans g4)) ev0 ev0 rfl hmf ?_;refine wnY @z0 ?_;refine⟨k+1,by omega,⟨by omega,by omega,by rw[ac (by omega),ac (by omega),ac (by omega)];exact g3,?_⟩,ag0⟩;rw[ae,xV,zy,cp];rfl
 obtain rfl:k=m+1:=by omega
 have z1:decide (((m+1:Nat):Int)<(m:Int)-1+2)=false:=aW (by omega);refine wnY @z1 ?_;refine lpI (X:=AV×Nat) (λx=>[(1,.ptr 0 1 0),(7,.mp 1),(11,x.1),(51,.int .i64 ((m:Int)-1+1)),(52,.int .i64 x.2)]) (λx H nx=>x.2<=m/\2<=nx/\H 0=some [ao c]/\H 1=some [.omap ((rkK (m+1)).map (AV.int .i64)) (rkV c (m+1))]/\Row H 1 x.1 ((btL c x.2).map (AV.int .i64))/\∀b,bv x.1=some b->2<=b/\b<nx) (λx=>m-x.2) (.esl,0) ⟨bz _,g2,g3,g4,Row.nil,λb h=>(by cases h)⟩ ?_;clear g1 g2 g3 g4;rintro⟨sv,k⟩ H nx ⟨g1,g2,g3,g4,g5,g6⟩;dsimp only at g1 g2 g3 g4 g5 g6 |-;by_cases hk:k<m
 rotate_left
 ·obtain rfl:k=m:=by omega
  have z1:decide ((k:Int)<(k:Int)-1+1)=false:=aW (by omega);refine wnY @z1 ?_;exact jT g5.snapI rfl
 have hsz1:=hsz k (by omega);have hr1:=hrl ((k:Int)+1);have hr2:=hrl (((k+1:Nat):Int)+1);have hf1:=hrf k;have hf2:=hrf (k+1);have hmf1:=iz (k:Int) (rkK (m+1));rw[if_pos (kT.2 (by omega)),rI (by omega)] at hmf1;have hmf2:=iz ((k+1:Nat):Int) (rkK (m+1));rw[if_pos (kT.2 (by omega)),rI (by omega)] at hmf2;rw[show((k+1:Nat):Int)=(k:Int)+1 by omega] at hmf2;have hv1:Go.Abs.mget (.int .i64 0) false (some k) (rkV c (m+1))=.int .i64 (rkF c k):=rz (by omega);have hv2:Go.Abs.mget (.int .i64 0) false (some (k+1)) (rkV c (m+1))=.int .i64 (rkF c (k+1)):=rz (by omega);have hsn:=zN (c:=c) (n:=k);have hbl:(btL c k).length=k:=by unfold btL;simp
 have hbf:btF c k=((aA c ((k:Int)+1)).length:Int)-(rkF c k:Int)-(rkF c (k+1):Int):=rfl;rw[hbf] at hsn;generalize rkF c k=f1 at *;generalize rkF c (k+1)=f2 at *;generalize (aA c ((k:Int)+1)).length=n at *;generalize (aA c (((k+1:Nat):Int)+1)).length=n2 at *;have z1:decide ((k:Int)<(m:Int)-1+1)=true:=aZ (by omega);refine wnY (zI5 @g3 @z0 @z1 @ai @ah) ?_;refine jg ev0 g4 ev0 rfl hmf1 ?_;rw[hv1];refine wnY and_self ?_;refine jg ev0 g4 ev0 rfl hmf2 ?_;rw[hv2];refine wnY and_self ?_;refine eR (g5.same λb hb=>?_) ?_
 ·have:=g6 b hb;rw[ac (by omega)]
 rintro s2 H2 nx2 hr3 i1 i2 i3 i4;have hdo:∀b,b<2->bv sv≠some b:=λb hb e=>by have:=g6 b e;omega
 have lo2:∀b,b<2->H2 b=H b:=λb hb=>(i3 b (by omega) (hdo b hb)).trans (by rw[ac (by omega)]);refine wnY and_self ?_;refine⟨(s2,k+1),by dsimp only;omega,⟨by dsimp only;omega,by omega,(lo2 0 (by omega)).trans g3,(lo2 1 (by omega)).trans g4,?_,λb hb=>?_⟩,ag0⟩
 ·dsimp only;rw[hsn,cp];exact hr3
 ·rcases i4 b hb with h|h
  ·have:=g6 b h;omega
  ·omega
theorem ui(c:List Spx)(m:Nat)(hc:aB c=0)(hl:c.length<=50)(hm:sU c=m)(hm8:m<=8):pU 13 [bQ c] (.tup [aE (btL c m),.int .i64 0]):=by
 have hch:pU 43 [bQ c] (.int .i64 0):=by
  refine pO I4 ?_;simp only[b43,aG];have he:=Cd c hc hl;refine wnY (aI @ai @ah) ?_;exact .int _ _
 refine pO N5 ?_;simp only[b13,aG];have hb:=GZ c m hc hl hm hm8;have z0:decide ((0:Int)≠0)=false:=rfl;refine wnY (zI3 @z0 @ai @ah) ?_;exact jT (cu _).snap rfl
theorem od(c:List Spx)(hc:aB c=0)(hl:c.length<=50):pU 43 [bQ c] (.int .i64 0):=by
 refine pO I4 ?_;simp only[b43,aG];have he:=Cd c hc hl;refine wnY (aI @ai @ah) ?_;exact .int _ _
theorem Ni(s t:Spx)(hs:Shn s)(ht:Shn t):pU 69 [aD s,aD t] (.bool (decide (s=t))):=by
 refine pO OH ?_;simp only[b69,aG];have hc:=gJ s t hs ht;have e:decide (bq s t=0)=decide (s=t):=decide_eq_decide.2 ⟨λh=>pq h,λh=>by rw[h];exact gb t⟩;refine wnY @e ?_;exact .bool _
theorem Mf(a b:List Spx)(ha:ShC a)(hb:ShC b):pU 68 [ao a,ao b,.func 69 []] (.bool (decide (a=b))):=by
 refine pO Ot ?_;simp only[b68,aG];by_cases hl:a.length=b.length
 rotate_left
 ·have z:decide ((a.length:Int)≠b.length)=true:=aZ (by omega);rw[aW (λe=>hl (by rw[e]))];refine wnY (aI @af @z) ?_;exact .bool _
 have z:decide ((a.length:Int)≠b.length)=false:=by rw[hl];exact aW (λh=>h rfl)
 have hal:=ha.1;refine wnY (aI @af @z) ?_;refine lC (X:=Nat) (λk=>[(0,ao a),(1,ao b),(2,.func 69 []),(15,ao a),(16,.int .i64 a.length),(17,.int .i64 k)]) (λk=>k<=a.length/\∀i,i<k->a.getD i default=b.getD i default) (λk=>a.length-k) 0 ⟨bz _,λi h=>absurd h (by omega)⟩ ag0 ?_;rintro k ⟨h1,h2⟩;by_cases hk:k<a.length
 rotate_left
 ·obtain rfl:k=a.length:=by omega
  have e:a=b:=List.ext_getElem hl λi i1 i2=>by
   have:=h2 i i1;simpa[List.getD,i1,i2] using this
  rw[aZ e];refine wnY and_self ?_;exact .bool _
 have ix:=eh hk;have iy:=eh (l:=b) (k:=k) (by omega);have hcl:=Ni _ _ (ha.2 _ (ay hk)) (hb.2 _ (ay (l:=b) (i:=k) (by omega)));by_cases e:a.getD k default=b.getD k default
 ·rw[aZ e] at hcl
  have hn:∀i,i<k+1->a.getD i default=b.getD i default:=λi hi=>by
   rcases(by omega:i<k\/i=k) with h|rfl
   ·exact h2 i h
   ·exact e
  generalize a.getD k default=s at *;generalize b.getD k default=t at *;refine wnY (aI @ix @iy) ?_;exact⟨k+1,⟨by omega,hn⟩,by omega,ag0,rfl,rfl⟩
 ·rw[aW e] at hcl;rw[aW (λq=>e (by rw[q]))];generalize a.getD k default=s at *;generalize b.getD k default=t at *;refine wnY (aI @ix @iy) ?_;exact .bool _
theorem wB(a:List Int)(n:Int)(ha:a.length<=1000000000):pU 108 [aE a,.int .i64 n] (.bool (decide (n∈a))):=by
 refine pO NA ?_;simp only[KE,aG];refine wnZ @cm ?_;refine lC (X:=Nat) (λk=>[(0,aE a),(1,.int .i64 n),(5,.int .i64 k)]) (λk=>k<=a.length/\∀i,i<k->a.getD i default≠n) (λk=>a.length-k) 0 ⟨bz _,λi h=>absurd h (by omega)⟩ ag0 ?_;rintro k ⟨h1,h2⟩;by_cases hk:k<a.length
 ·have ix:=ixV hk;by_cases hv:a.getD k default=n
  ·have z:decide (a.getD k default=n)=true:=aZ hv;rw[aZ (show n∈a by rw[<-hv];exact ay hk)];refine wnZ (zI3 @cm @ix @z) ?_;exact .bool _
  ·have z:decide (a.getD k default=n)=false:=aW hv;refine wnZ (zI3 @cm @ix @z) ?_
   exact ⟨k + 1,⟨by omega,fun i hi=>by
    rcases(by omega:i<k\/i=k) with h|rfl
    ·exact h2 i h
    ·exact hv⟩,by omega,ag0,rfl,rfl⟩
 ·obtain rfl:k=a.length:=by omega
  rw [aW fun hm=>by
   obtain⟨i,hi,e⟩:=jW hm;exact h2 i hi (by simp[List.getD,hi,e])]
  refine wnZ @cm ?_;exact .bool _
theorem B7(a b:List Int)(ha:a.length<=1000000)(hb:b.length<=1000000):pU 109 [aE a,aE b] (aE (bP a b)):=by
 refine pO K1 ?_;simp only[Mv,aG];refine wnZ @cm ?_;refine lpI (X:=AV×List Int×Nat×Nat) (λx=>[(0,aE a),(1,aE b),(5,x.1),(6,.int .i64 x.2.2.1),(7,.int .i64 x.2.2.2)]) (λx H nx=>x.2.2.1<=a.length/\x.2.2.2<=b.length/\x.2.1++bP (a.drop x.2.2.1) (b.drop x.2.2.2)=bP a b/\x.2.1.length<=x.2.2.1+x.2.2.2/\Row H 1 x.1 (x.2.1.map (AV.int .i64))/\∀b,bv x.1=some b->b<nx) (λx=>a.length+b.length-(x.2.2.1+x.2.2.2)) (.esl,[],0,0) ⟨bz _,bz _,rfl,bz _,Row.nil,λb h=>(by cases h)⟩ ?_;rintro⟨sv,D,i,k⟩ H nx ⟨g1,g2,g3,g4,g5,g6⟩;dsimp only at g1 g2 g3 g4 g5 g6 |-;by_cases hA:i<a.length/\(k=b.length\/k<b.length/\a.getD i default<b.getD k default)
 ·rw[Gx hA.1 hA.2] at g3;have ix:=ixV hA.1;have zi:decide ((i:Int)<a.length)=true:=aZ (by omega);rcases hA.2 with hk|⟨hk,hlt⟩
  ·have zk:decide ((k:Int)=b.length)=true:=aZ (by omega);refine wnY (zI4 @cm @ix @zi @zk) ?_;refine eR (g5.same λb hb=>?_) ?_
   ·have:=g6 b hb;rw[ac (by omega)]
   rintro s2 H2 nx2 hr2 i1 i2 i3 i4;refine wnY and_self ?_;refine⟨(s2,D++[a.getD i default],i+1,k),by dsimp only;omega,⟨by dsimp only;omega,by dsimp only;omega,by rw[<-g3,kI];rfl,by dsimp only;rw[cw,List.length_singleton];omega,by dsimp only;rw[cp];exact hr2,λb hb=>?_⟩,ag0⟩;rcases i4 b hb with h|h
   ·have:=g6 b h;omega
   ·omega
  ·have zk:decide ((k:Int)=b.length)=false:=aW (by omega);have zk2:decide ((k:Int)<b.length)=true:=aZ (by omega);have iy:=ixV hk;have zl:decide (a.getD i default<b.getD k default)=true:=aZ hlt;refine wnY (zI7 @cm @ix @iy @zi @zk @zk2 @zl) ?_;refine eR (g5.same λb hb=>?_) ?_
   ·have:=g6 b hb;rw[ac (by omega)]
   rintro s2 H2 nx2 hr2 i1 i2 i3 i4;refine wnY and_self ?_;refine⟨(s2,D++[a.getD i default],i+1,k),by dsimp only;omega,⟨by dsimp only;omega,by dsimp only;omega,by rw[<-g3,kI];rfl,by dsimp only;rw[cw,List.length_singleton];omega,by dsimp only;rw[cp];exact hr2,λb hb=>?_⟩,ag0⟩;rcases i4 b hb with h|h
   ·have:=g6 b h;omega
   ·omega
 by_cases hB:k<b.length/\(i=a.length\/i<a.length/\b.getD k default<a.getD i default)
 ·rw[GM hB.1 hB.2] at g3;have iy:=ixV hB.1;have zk:decide ((k:Int)=b.length)=false:=aW (by omega);have zk2:decide ((k:Int)<b.length)=true:=aZ (by omega);rcases hB.2 with hi|⟨hi,hlt⟩
  ·have zi:decide ((i:Int)<a.length)=false:=aW (by omega);have zi2:decide ((i:Int)=a.length)=true:=aZ (by omega);refine wnY (zI6 @cm @iy @zi @zi2 @zk @zk2) ?_;refine eR (g5.same λb hb=>?_) ?_
   ·have:=g6 b hb;rw[ac (by omega)]
   rintro s2 H2 nx2 hr2 i1 i2 i3 i4;refine wnY and_self ?_;refine⟨(s2,D++[b.getD k default],i,k+1),by dsimp only;omega,⟨by dsimp only;omega,by dsimp only;omega,by rw[<-g3,kI];rfl,by dsimp only;rw[cw,List.length_singleton];omega,by dsimp only;rw[cp];exact hr2,λb hb=>?_⟩,ag0⟩;rcases i4 b hb with h|h
   ·have:=g6 b h;omega
   ·omega
  ·have zi:decide ((i:Int)<a.length)=true:=aZ (by omega);have zi2:decide ((i:Int)=a.length)=false:=aW (by omega);have ix:=ixV hi;have zl:decide (a.getD i default<b.getD k default)=false:=aW (by omega);have zl2:decide (b.getD k default<a.getD i default)=true:=aZ hlt;refine wnY (zI9 @cm @ix @iy @zi @zi2 @zk @zk2 @zl @zl2) ?_;refine eR (g5.same λb hb=>?_) ?_
   ·have:=g6 b hb;rw[ac (by omega)]
   rintro s2 H2 nx2 hr2 i1 i2 i3 i4;refine wnY and_self ?_;refine⟨(s2,D++[b.getD k default],i,k+1),by dsimp only;omega,⟨by dsimp only;omega,by dsimp only;omega,by rw[<-g3,kI];rfl,by dsimp only;rw[cw,List.length_singleton];omega,by dsimp only;rw[cp];exact hr2,λb hb=>?_⟩,ag0⟩;rcases i4 b hb with h|h
   ·have:=g6 b h;omega
   ·omega
 by_cases hC:i<a.length/\k<b.length
 ·have he:a.getD i default=b.getD k default:=by
    have h1:¬a.getD i default<b.getD k default:=λh=>hA ⟨hC.1,.inr ⟨hC.2,h⟩⟩;have h2:¬b.getD k default<a.getD i default:=λh=>hB ⟨hC.2,.inr ⟨hC.1,h⟩⟩;omega
  rw[Hv hC.1 hC.2 he] at g3;have ix:=ixV hC.1;have iy:=ixV hC.2;have zi:decide ((i:Int)<a.length)=true:=aZ (by omega);have zi2:decide ((i:Int)=a.length)=false:=aW (by omega);have zk:decide ((k:Int)=b.length)=false:=aW (by omega);have zk2:decide ((k:Int)<b.length)=true:=aZ (by omega);have zl:decide (a.getD i default<b.getD k default)=false:=aW (by omega);have zl2:decide (b.getD k default<a.getD i default)=false:=aW (by omega);refine wnY (zI9 @cm @ix @iy @zi @zi2 @zk @zk2 @zl @zl2) ?_;exact⟨(sv,D,i+1,k+1),by dsimp only;omega,⟨by dsimp only;omega,by dsimp only;omega,g3,by dsimp only;omega,g5,g6⟩,ag0⟩
 have hi:i=a.length:=by
  rcases oD i a.length with h|h
  ·exfalso;rcases oD k b.length with h2|h2
   ·exact hC ⟨h,h2⟩
   ·exact hA ⟨h,.inl (by omega)⟩
  ·omega
 have hk:k=b.length:=by
  rcases oD k b.length with h|h
  ·exact absurd ⟨h,.inl hi⟩ hB
  ·omega
 have zi:decide ((i:Int)<a.length)=false:=aW (by omega);have zk:decide ((k:Int)<b.length)=false:=aW (by omega);rw[hi,hk,List.drop_length,List.drop_length,gR,fp] at g3;rw[<-g3];refine wnY (zI3 @cm @zi @zk) ?_;exact g5.snapI
theorem Fx(rows:List (List Int))(n c:Nat)(hl:rows.length<=100000)(hr:∀r∈rows,r.length<=100000)(hn:n<=rows.length):pU 148 [bi rows,.int .i64 n,.int .i64 c] (.int .i64 (Gp rows n c)):=by
 refine pO Lm ?_;simp only[Ma,aG];refine wnZ @bG ?_;refine lC (X:=Nat) (λk=>[(0,bi rows),(2,.int .i64 c),(7,.int .i64 k)]) (λk=>n<=k/\k<=rows.length/\∀i,n<=i->i<k->(c:Int)∉rows.getD i default) (λk=>rows.length-k) n ⟨aN _,hn,λi h1 h2=>absurd h1 (by omega)⟩ ag0 ?_;rintro k ⟨h0,h1,h2⟩;by_cases hk:k<rows.length
 ·have ix:=t5 hk;have hh:=wB (rows.getD k default) c (by have:=hr _ (ay hk);omega);by_cases hv:(c:Int)∈rows.getD k default
  ·rw[aZ hv] at hh;unfold Gp;rw[G2 h0 hk h2 hv];generalize rows.getD k default=r at *;refine wnZ (aI @bG @ix) ?_;exact .int _ _
  ·rw[aW hv] at hh
   have h3:∀i,n<=i->i<k+1->(c:Int)∉rows.getD i default:=λi hi hi2=>by
    rcases(by omega:i<k\/i=k) with h|rfl
    ·exact h2 i hi h
    ·exact hv
   generalize rows.getD k default=r at *;refine wnZ (aI @bG @ix) ?_;exact⟨k+1,⟨by omega,by omega,h3⟩,by omega,ag0,rfl,rfl⟩
 ·obtain rfl:k=rows.length:=by omega
  unfold Gp;rw[Fv λi hi hi2=>h2 i hi hi2];refine wnZ @bG ?_;exact .int _ _
theorem Ea(c:Nat)(R:List (List Int))(b y:List Int)(hm:fH c R)(hbr:∀v∈b,0<=v/\v<(R.length:Int))(hba:bt b)(hyr:∀v∈y,0<=v/\v<(R.length:Int))(hya:bt y):pU 71 [cQ c R,aE b,aE y] (.int .i64 (JJ R b y)):=by
 refine pO NS ?_;simp only[b71,aG];have hmR:=dW hm;have hmv:∀r∈R,∀z∈r,0<=z/\z<(c:Int):=λr hr z hz=>(hm.2.2.2 r hr).1 z hz;have hbl:=eu hba hbr;have hyl:=eu hya hyr
 have hvec:∀ {x:List Int},x.length ≤ R.length→(∀ v ∈ x,0 ≤ v∧v < (R.length:Int))→bt x→pU 114 [aE x,.int .i64 R.length] (.int .i64 0):=fun {x} h1 h2 h3=>pF x (R.length:Int) (by have:=hm.2.2.1; omega) h2 (fun i hi=>by
  have:=kp.1 h3 i (i+1) (by omega) hi (by omega);simpa[List.getD,show i<x.length by omega,hi] using this)
 have h1:=lz c R hm;have h2:=hvec hbl hbr hba;have h3:=hvec hyl hyr hya;have z0:decide ((0:Int)≠0)=false:=rfl;have hd:Dat (.agg [.int .i64 c,bi R]):=cr c R;have hmc:=hm.2.1;have hrl:=hm.2.2.1;have hod:=Ex y b (by omega) (by omega);rw[bU];refine wnY (zI3 @z0 @bG @cm) ?_;refine qT (X:=Nat) (λk=>[(1,aE b),(2,aE y),(3,.ptr 0 2 0),(10,aE (o7 R (y.take k))),(34,aE y),(35,.int .i64 y.length),(36,.int .i64 k)]) (λk H nx=>k<=y.length/\H 0=some [.int .i64 c,bi R]) (λk=>y.length-k) 0 ⟨_,_,Fz.none,⟨bz _,rfl⟩,⟨.inl rfl,.inl rfl,.inl rfl,.inr (.eslsl 1),.inl rfl,.inl rfl,.inl rfl,trivial⟩⟩ ?_;rintro k H nx ⟨g1,g2⟩;obtain⟨a1,a2⟩:=BQ hmR hmv hyr k g1;have al:=eu a1 a2;by_cases hk:k<y.length
 ·have ix:=ixV hk;have hi:=hyr _ (ay hk);have hts:=bZ hk;have hsn:o7 R (y.take (k+1))=bP (o7 R (y.take k)) (R.getD (y.getD k default).toNat default):=by rw[hts,vD]
  have iy:eG 1 (bi R) (.int .i64 (y.getD k default))=some (.iptr [aE (R.getD (y.getD k default).toNat default)] 0):=by
   rw[oa,if_pos ⟨hi.1,hi.2⟩]
  have hrow:R.getD (y.getD k default).toNat default∈R:=ay (by omega);have hrl2:=(hm.2.2.2 _ hrow).2.1;have hsu:=vL (o7 R (y.take k)) (R.getD (y.getD k default).toNat default) (by omega) (by omega);rw[<-hsn] at hsu;generalize R.getD (y.getD k default).toNat default=r at *;generalize y.getD k default=i at *;generalize o7 R (y.take k)=s1 at *;refine wnY (zI3 @g2 @ix @iy) ?_;exact⟨k+1,by omega,_,_,Fz.none,⟨by omega,g2⟩,ft ag0⟩
 obtain rfl:k=y.length:=by omega
 rw[List.take_length] at *;unfold JJ;by_cases hs:o7 R y=[]
 ·rw[if_pos hs];have z:decide ((0:Int)<(o7 R y).length)=false:=by rw[hs];rfl
  cases ho:jP y b
  ·rw[ho] at hod;refine wnY (aI @z @cm) ?_;exact .int _ _
  ·rw[ho] at hod;refine wnY (aI @z @cm) ?_;exact .int _ _
 ·rw[if_neg hs];have z:decide ((0:Int)<(o7 R y).length)=true:=aZ (by have:=li.2 hs;omega);refine wnY (aI @z @cm) ?_;exact .int _ _
theorem CS(s:AV)(l:List (List Int))(hl:l.length<=1000000)(H:Hp)(nx:Nat)(hr:jo H s l)(hb:∀b,bv s=some b->b<nx):Abs.Fn Tryz.prog 135 [s] H nx λr H' nx'=>Row H' 1 r (l.map aE)/\nx<=nx'/\(∀x,x<nx->H' x=H x)/\∀b,bv r=some b->nx<=b/\b<nx':=by
 refine fO M8 ?_;simp only[Li,aG];have hsrc:=hr.src (H':=H) λ_ _=>rfl;have hn:=hr.len;have fin:l.length=0->l.map aE=[]:=λh=>by rw[fA.1 h];rfl
 repeat' (first|refine zW ?_|apply a_n|refine zO ?_|refine vY ?_|fail)
 refine ww (k:=l.length) (by((try simp only[b7,ZA,reduceEqDiff,↓reduceIte,reduceAdd,reduceLeDiff]);(try with_reducible rfl));exact hn) (λh=>?_) (λh=>?_) (λh=>?_)
 ·repeat' (first|refine zW ?_|apply a_n|refine zO ?_|refine vY ?_|refine b0Y ?_|refine cFY ?_|fail)
  refine gK rfl ev0 ev0 hsrc rL (by omega) (by omega) ?_
  repeat' (first|apply a_n|refine zO ?_|refine vY ?_|refine bR rfl ?_|refine r1Y ?_|fail)
  refine⟨by simpa only[Nat.mul_one] using Row.box (sz:=1) nx l.length (l.map aE) (ae (H:=H)) (by rw[bk,Nat.mul_one]),by omega,λx hx=>ac (by omega),λb hb=>by cases hb;omega⟩
 ·repeat' (first|refine zW ?_|apply a_n|apply a_r|refine zO ?_|refine vY ?_|refine cTY ?_|refine bR rfl ?_|refine r1Y ?_|fail)
  refine⟨by rw[fin h];exact Row.nil,aN _,λx hx=>rfl,λb hb=>(by cases hb)⟩
 ·repeat' (first|refine zW ?_|apply a_n|refine zO ?_|refine vY ?_|refine b0Y ?_|refine cFY ?_|fail)
  refine gK rfl ev0 ev0 hsrc rL (by omega) (by omega) ?_
  repeat' (first|apply a_n|refine zO ?_|refine vY ?_|refine bR rfl ?_|refine r1Y ?_|fail)
  refine⟨by simpa only[Nat.mul_one] using Row.box (sz:=1) nx l.length (l.map aE) (ae (H:=H)) (by rw[bk,Nat.mul_one]),by omega,λx hx=>ac (by omega),λb hb=>by cases hb;omega⟩
theorem LG(c:Nat)(E:List (List Int))(rk:Nat)(v:List Int)(s:AV)(b:Nat)(H:Hp)(nx:Nat)(hm:fH c (E++[v]))(hb:H b=some [.int .i64 c,s,.int .i64 rk])(hbn:b<nx)(hr:jo H s E)(hs:∀x,bv s=some x->x<nx):
    Abs.Fn Tryz.prog 82 [.ptr b 3 0,aE v] H nx λr H' nx'=>nx<=nx'/\(∀x,x<nx->x≠b->H' x=H x)/\((cT (E++[v]) c).length=rk/\r=.tup [.bool false,.int .i64 0]/\H' b=H b\/(cT (E++[v]) c).length≠rk/\r=.tup [.bool true,.int .i64 0]/\∃rv,H' b=some [.int .i64 c,rv,.int .i64 (cT (E++[v]) c).length]/\jo H' rv (E++[v])/\∀x,bv rv=some x->nx<=x/\x<nx'):=by
 refine fO Ou ?_;simp only[b82,aG];have hrank:=AY c (E++[v]) hm;have hel:E.length<=4096:=by have:=hm.2.2.1;rw[cw] at this;omega
 have hcl:=fun H' nx' (h1:∀ x,x < nx→H' x=H x) (h2:nx ≤ nx')=>CS s E (by omega) H' nx' (by
  rcases hr with h|h
  ·exact .inl h
  ·exact .inr (h.same λx hx=>h1 x (hs x hx))) (λx hx=>by have:=hs x hx;omega)
 refine dI ?_
 repeat' (first|apply a_n|refine zO ?_|refine vY ?_|fail)
 refine bn (λT H' nx'=>∃nb rv,T 0=.ptr b 3 0/\T 1=aE v/\T 6=.ptr nb 2 0/\nx<=nb/\nb<nx'/\H' nb=some [.int .i64 c,rv]/\Row H' 1 rv ((E++[v]).map aE)/\(∀x,bv rv=some x->nx<=x/\x<nx'/\x≠nb)/\∀x,x<nx->H' x=H x) ?_ ?_
 ·refine JK (only b [.int .i64 c,s,.int .i64 rk]) (ot hb) ?_;have hS:only b [.int .i64 c,s,.int .i64 rk] b=some [.int .i64 c,s,.int .i64 rk]:=gA;have hsub:∀H':Hp,H' b=some [.int .i64 c,s,.int .i64 rk]->Sub (only b [.int .i64 c,s,.int .i64 rk]) H':=λH' h=>ot h;generalize only b [AV.int .i64 c,s,.int .i64 rk]=S at *;simp only[fY,List.map_nil,List.getD_cons_succ,List.getD_cons_zero];have zz:=aI @NK @hS;repeat' (first|apply a_n|refine zO ?_|refine nvY ?_|apply uS|refine H8 ?_|fail)
  refine Ib (pv:=[(0,1,aE v)]) (cs:=[aE v]) ev0 rfl (by decide) rfl rfl (uS ?_);have hsv:∀H':Hp,fX 1 H' (.sl 1 [aE v])=some (1,[aE v]):=λ_=>rfl;have ones_encVs:AV.ones [aE v]=true:=rfl;have happ:E.map aE++[aE v]=(E++[v]).map aE:=by rw[cp];rfl
  refine Kw ?_ ?_
  ·refine d5 ?_
   repeat' (first|apply a_n|refine zO ?_|refine alY ?_|fail)
   refine⟨hsub _ (by rw[ac (by omega)];exact hb),?_⟩;refine d5 ?_;refine aO ev0 ev0 (hcl _ _ (λx hx=>ac (by omega)) (by omega)) ?_;rintro r H1 nx1 ⟨k1,k2,k3,k4⟩;have q0:H1 nx=some [AV.int .i64 0,.esl]:=(k3 nx (by omega)).trans ae;have q1:∀x,x<nx->H1 x=H x:=λx hx=>(k3 x (by omega)).trans (ac (by omega));refine jF ⟨hsub _ ((q1 b hbn).trans hb),?_⟩;refine d5 ?_;refine f9 rfl ev0 k1 ev0 (hsv _) ones_encVs rfl jb (by rw[bk];omega) (by rw[bk];omega) ?_;rintro s2 H2 nx2 hr2 i1 i2 i3 i4;rw[happ] at hr2;have g:∀x,x<=nx->H2 x=H1 x:=λx hx=>i3 x (by omega) λh=>by have:=(k4 x h).1;omega
   refine jF ⟨hsub _ ((g b (by omega)).trans ((q1 b hbn).trans hb)),?_⟩;have q2:=(g nx (aN _)).trans q0;have hge:∀x,bv s2=some x->nx+1<=x/\x<nx2:=λx hx=>(i4 x hx).elim (λh=>⟨(k4 x h).1,by have:=(k4 x h).2;omega⟩) λh=>⟨by omega,by omega⟩
   clear zz;have zz:=aI @q2 (aI (tJ hr2) (aI hr2.one.1 hr2.one.2));repeat' (first|apply a_n|refine zO ?_|refine nvY ?_|apply jc|refine stY ?_|fail)
   refine⟨nx,s2,rfl,rfl,rfl,by omega,by omega,ae,hr2.same (λx hx=>ac (by have:=(hge x hx).1;omega)),λx hx=>⟨by have:=(hge x hx).1;omega,(hge x hx).2,by have:=(hge x hx).1;omega⟩,λx hx=>?_⟩;rw[ac (by omega)];exact(g x (by omega)).trans (q1 x hx)
  ·refine d5 ?_;refine aO ev0 ev0 (hcl _ _ (λx hx=>rfl) (by omega)) ?_;rintro r H1 nx1 ⟨k1,k2,k3,k4⟩;refine jF ⟨hsub _ ((k3 b hbn).trans hb),uS ?_⟩;refine Kw ?_ ?_
   ·refine d5 ?_
    repeat' (first|apply a_n|refine zO ?_|refine alY ?_|fail)
    refine⟨hsub _ (by rw[ac (by omega)];exact(k3 b hbn).trans hb),?_⟩;refine d5 ?_;refine f9 rfl ev0 (k1.same λx hx=>ac (by have:=(k4 x hx).2;omega)) ev0 (hsv _) ones_encVs rfl jb (by rw[bk];omega) (by rw[bk];omega) ?_;rintro s2 H2 nx2 hr2 i1 i2 i3 i4;rw[happ] at hr2;have g:∀x,x<nx->H2 x=H1 x:=λx hx=>(i3 x (by omega) λh=>by have:=(k4 x h).1;omega).trans (ac (by omega));have q2:=(i3 nx1 (by omega) λh=>by have:=(k4 nx1 h).2;omega).trans ae;refine jF ⟨hsub _ ((g b (by omega)).trans ((k3 b hbn).trans hb)),?_⟩;have hge:∀x,bv s2=some x->nx<=x/\x<nx2/\x≠nx1:=λx hx=>(i4 x hx).elim (λh=>⟨(k4 x h).1,by have:=(k4 x h).2;omega,by have:=(k4 x h).2;omega⟩) λh=>⟨by omega,by omega,by omega⟩
    clear zz;have zz:=aI @q2 (aI (tJ hr2) (aI hr2.one.1 hr2.one.2));repeat' (first|apply a_n|refine zO ?_|refine nvY ?_|apply jc|refine stY ?_|fail)
    refine⟨nx1,s2,rfl,rfl,rfl,by omega,by omega,ae,hr2.same (λx hx=>ac (by have:=(hge x hx).2.2;omega)),λx hx=>⟨(hge x hx).1,(hge x hx).2.1,by have:=(hge x hx).2.2;omega⟩,λx hx=>?_⟩;rw[ac (by omega)];exact(g x (by omega)).trans (k3 x hx)
   ·refine d5 ?_;refine f9 rfl ev0 k1 ev0 (hsv _) ones_encVs rfl jb (by rw[bk];omega) (by rw[bk];omega) ?_;rintro s2 H2 nx2 hr2 i1 i2 i3 i4;rw[happ] at hr2;have g:∀x,x<nx->H2 x=H1 x:=λx hx=>i3 x (by omega) λh=>by have:=(k4 x h).1;omega
    refine jF ⟨hsub _ ((g b (by omega)).trans ((k3 b hbn).trans hb)),uS ?_⟩;have hge:∀x,bv s2=some x->nx<=x/\x<nx2:=λx hx=>(i4 x hx).elim (λh=>⟨(k4 x h).1,by have:=(k4 x h).2;omega⟩) λh=>⟨by omega,by omega⟩
    clear zz;have zz:=(tJ hr2);repeat' (first|apply a_n|refine zO ?_|refine nvY ?_|apply uS|refine H8 ?_|fail)
    refine Ko (d5 ?_)
    repeat' (first|apply a_n|refine zO ?_|refine alY ?_|fail)
    refine⟨hsub _ (by rw[ac (by omega)];exact(g b hbn).trans ((k3 b hbn).trans hb)),?_⟩;clear zz;have zz:=aI hr2.one.1 hr2.one.2;repeat' (first|apply a_n|refine zO ?_|apply jc|refine stY ?_|fail)
    refine⟨nx2,s2,rfl,rfl,rfl,by omega,by omega,ae,hr2.same (λx hx=>(ac (by have:=(hge x hx).2;omega)).trans (ac (by have:=(hge x hx).2;omega))),λx hx=>⟨(hge x hx).1,by have:=(hge x hx).2;omega,by have:=(hge x hx).2;omega⟩,λx hx=>?_⟩;rw[ac (by omega),ac (by omega)];exact(g x (by omega)).trans (k3 x hx)
 rintro T H1 nx1 ⟨nb,wv,t0,t1,t6,h1,h2,h3,h4,h5,h6⟩;have g0:H1 b=some [.int .i64 c,s,.int .i64 rk]:=(h6 b hbn).trans hb;generalize hEv:E++[v]=E' at *;have zz:=aI @t0 (aI @t1 (aI @t6 @h3));repeat' (first|refine zW ?_|apply a_n|refine zO ?_|refine vY ?_|fail)
 refine eb (have zz:=aI @t0 (aI @t1 (aI @t6 @h3));evY) (have zz:=aI @t0 (aI @t1 (aI @t6 @h3));evY) hrank (aJ (ag (ju (ag (Dat.snap Dat.int) (ag (ln h4) an))) an) rfl) ?_;have bne:∀x,bv wv=some x->x≠b:=λx hx=>by have:=(h5 x hx).1;omega
 by_cases heq:(cT E' c).length=rk
 ·have hi:decide ((((cT E' c).length:Nat):Int)=(rk:Int))=true:=aZ (by rw[heq]);clear zz;have zz:=aI @t0 (aI @t1 (aI @t6 (aI @h3 (aI @g0 (aI @NK @hi)))));repeat' (first|refine zW ?_|apply a_n|apply a_r|refine zO ?_|refine vY ?_|refine gTY ?_|(refine zGY ?_ ?_<;>(intro _hg;try (exfalso;omega)))|refine cTY ?_|refine bR rfl ?_|refine r2Y ?_|fail)
  exact⟨by omega,λx hx _=>h6 x hx,.inl ⟨heq,rfl,h6 b hbn⟩⟩
 ·have hi:decide ((((cT E' c).length:Nat):Int)=(rk:Int))=false:=aW (λh=>heq (by exact_mod_cast h));clear zz;have zz:=aI @t0 (aI @t1 (aI @t6 (aI @h3 (aI @g0 (aI @NK (aI @hi (aI h4.one.1 h4.one.2)))))));repeat' (first|refine zW ?_|apply a_n|refine zO ?_|refine vY ?_|refine stY ?_|refine gTY ?_|(refine zGY ?_ ?_<;>(intro _hg;try (exfalso;omega)))|refine cFY ?_|refine bR rfl ?_|refine r2Y ?_|fail)
  have e:br [AV.int .i64 c,wv,.int .i64 rk] 2 [.int .i64 ((cT E' c).length:Int)]=[.int .i64 c,wv,.int .i64 ((cT E' c).length:Int)]:=rfl;refine⟨by omega,λx hx hxb=>?_,.inr ⟨heq,rfl,wv,?_,.inr (h4.same λx hx=>?_),λx hx=>⟨(h5 x hx).1,(h5 x hx).2.1⟩⟩⟩
  ·rw[ac hxb,ac hxb];exact h6 x hx
  ·rw[ae,e]
  ·rw[ac (bne x hx),ac (bne x hx)]
theorem AW(c:Nat)(hmc:c<=4096)(G:Hp)(n0:Nat)(s:AV)(hsR:jo G s [])(hsb:∀b,bv s=some b->b<n0):Abs.Fn Tryz.prog 106 [.agg [.int .i64 c,s]] G n0 λr H' nx'=>∃s',r=.agg [.int .i64 c,s']/\jo H' s' ([])/\n0<=nx'/\(∀x,x<n0->H' x=G x)/\∀b,bv s'=some b->n0<=b/\b<nx':=by
 refine fO Iu ?_;simp only[JN,aG];obtain⟨o1,o2⟩:=hsR.one;refine wnY (zI3 @bG @o1 @o2) ?_;refine gK rfl ev0 ev0 (hsR.src λb hb=>by have:=hsb b hb;rw[ac (by omega),ac (by omega)]) rL (by decide) (by decide) ?_;refine wnY @bG ?_;refine qT (X:=Nat) (λk=>[(1,.ptr n0 2 0),(2,.ptr (n0+1) 2 0),(3,bi []),(4,.int .i64 0),(5,.int .i64 k)]) (λk H nx=>k<=c/\n0+3<=nx/\H n0=some [.int .i64 c,s]/\H (n0+1)=some [.int .i64 0,.esl]/\∀x,x<n0->H x=G x) (λk=>c-k) 0 ⟨_,_,Fz.one (b:=n0+2) (cs:=[]) (by rw[ae];rfl),⟨bz _,aN _,by rw[b9 (by omega),ac (by omega),ac (by omega),ae],by rw[b9 (by omega),ac (by omega),ae],λx hx=>by rw[b9 (by omega),ac (by omega),ac (by omega),ac (by omega)]⟩,.inl rfl,.inl rfl,.inr (CB (l:=[]) gA rfl rfl),.inl rfl,.inl rfl,trivial⟩ ?_;rintro k H nx ⟨h1,h2,g0,g1,gl⟩;by_cases hk:k<c
 ·have zk:decide ((k:Int)<c)=true:=aZ (by omega);have hpv:=Fx [] 0 k (by decide) (λr hr=>(by cases hr)) (by decide);rw[show Gp [] 0 k=-1 from rfl] at hpv;have z0:decide ((-1:Int)<0)=true:=rfl;refine wnY (zI3 @zk @g0 @z0) ?_;exact⟨k+1,by omega,bF,_,Fz.none,⟨by omega,h2,g0,g1,gl⟩,ft ag0⟩
 ·obtain rfl:k=c:=by omega
  have zk:decide ((k:Int)<k)=false:=aW (by omega);have hsl:jO 1 (bi []) none (some (.int .i64 0)) none=some (bi []):=rfl;refine wnY (zI4 @g0 @g1 @zk @hsl) ?_;refine gK rfl ev0 ev0 (fW (l:=[])) f8 (by decide) (by decide) ?_;refine wnY @g1 ?_;refine⟨_,rfl,.inr ?_,by omega,λx hx=>by(repeat rw[ac (by omega)]);exact gl x hx,λb hb=>?_⟩
  ·exact Row.box (nx+1) 0 [] (by(repeat rw[ac (by omega)]);rw[ae];rfl) rfl
  ·cases hb;omega
theorem nR(c:Nat)(R:List (List Int))(hm:fH c R)(G:Hp)(n0:Nat)(s:AV)(hsR:jo G s R)(hsb:∀b,bv s=some b->b<n0):Abs.Fn Tryz.prog 106 [.agg [.int .i64 c,s]] G n0 λr H' nx'=>∃s',r=.agg [.int .i64 c,s']/\jo H' s' (wk R c)/\n0<=nx'/\(∀x,x<n0->H' x=G x)/\∀b,bv s'=some b->n0<=b/\b<nx':=by
 have hmc:=hm.2.1;have hml:=hm.2.2.1;by_cases hR0:R=[]
 ·subst hR0;have e:wk [] c=[]:=by unfold wk;rw[BN];rfl
  rw[e];exact AW c (by omega) G n0 s hsR hsb
 have hRn:R.length≠0:=λe=>hR0 (fA.1 e);refine fO Iu ?_;simp only[JN,aG];have hR:RL c R:=λr hr=>⟨dW hm r hr,(hm.2.2.2 r hr).1⟩
 have hst:=λk=>Ey hR (k:=k);obtain⟨o1,o2⟩:=hsR.one;refine wnY (zI3 @bG @o1 @o2) ?_;refine gK rfl ev0 ev0 (hsR.src λb hb=>by have:=hsb b hb;rw[ac (by omega),ac (by omega)]) rL (by omega) (by omega) ?_;rw[Nat.mul_one];refine wnY @bG ?_;refine lpI (X:=Nat) (λk=>[(1,.ptr n0 2 0),(2,.ptr (n0+1) 2 0),(3,.msl (n0+2) R.length 1 0 R.length),(4,.int .i64 (stR R k).2),(5,.int .i64 k)]) (λk H nx=>k<=c/\n0+3<=nx/\H n0=some [.int .i64 c,s]/\H (n0+1)=some [.int .i64 0,.esl]/\H (n0+2)=some ((stR R k).1.map aE)/\∀x,x<n0->H x=G x) (λk=>c-k) 0 ⟨bz _,aN _,by rw[ac (by omega),ac (by omega),ae],by rw[ac (by omega),ae],ae,λx hx=>by rw[ac (by omega),ac (by omega),ac (by omega)]⟩ ?_;rintro k H nx ⟨h1,h2,g0,g1,g2,gl⟩;obtain⟨r1,r2,r3⟩:=hst k;by_cases hk:k<c
 rotate_left
 ·obtain rfl:k=c:=by omega
  have hrr:wk R k=(stR R k).1.take (stR R k).2:=rfl;generalize (stR R k).1=rows at *;generalize (stR R k).2=n at *;rw[hrr];have zk:decide ((k:Int)<k)=false:=aW (by omega)
  have hsl:jO 1 (.msl (n0+2) R.length 1 0 R.length) none (some (.int .i64 n)) none=some (.msl (n0+2) R.length 1 0 n):=by
   simp[jO,bO];exact λq=>absurd (q r3) hR0
  refine wnY (zI5 @g0 @g1 @g2 @zk @hsl) ?_;refine gK rfl ev0 ev0 (eT (cs:=rows.map aE) ?_ (by rw[bk];omega) (by omega)) (by rw[List.drop_zero,<-List.map_take];exact f8) (by omega) (by omega) ?_
  ·rw[ac (by omega),ac (by omega)];exact g2
  rw[List.drop_zero,<-List.map_take,Nat.mul_one];refine wnY @g1 ?_;refine⟨_,rfl,.inr ?_,by omega,λx hx=>by(repeat rw[ac (by omega)]);exact gl x hx,λb hb=>?_⟩
  ·simpa only[Nat.mul_one] using Row.box (sz:=1) (nx+1) n ((rows.take n).map aE) (by(repeat rw[ac (by omega)]);rw[ae]) (by rw[bk,fL];omega)
  ·cases hb;omega
 have zk:decide ((k:Int)<c)=true:=aZ (by omega);have hpv:=Fx (stR R k).1 (stR R k).2 k (by omega) (λr hr=>by have:=r1.len r hr;omega) (by omega)
 have hss:stR R (k+1)=match ue (stR R k).1 (stR R k).2 k with
  |none=>stR R k
  |some p=>(elL (swL (stR R k).1 (stR R k).2 p) (stR R k).2 k,(stR R k).2+1):=rfl
 unfold Gp at hpv;have hps:=λp=>xS (rows:=(stR R k).1) (n:=(stR R k).2) (c:=k) (k:=p);generalize hsk:stR R k=st at *;obtain⟨rows,n⟩:=st;dsimp only at *;have hrow:Row H 1 (.msl (n0+2) R.length 1 0 R.length) (rows.map aE):=by simpa only[Nat.mul_one] using Row.box (sz:=1) (n0+2) R.length (rows.map aE) g2 (by rw[bk,Nat.mul_one,r2])
 refine wnY (aI @zk @g0) ?_;refine eb ev0 ev0 hpv (aJ (ag (ln hrow) (ag (.int _ _) (ag (.int _ _) an))) rfl) ?_;cases hp:ue rows n k with
 |none=>
  rw[hp] at hss;dsimp only at hss;have z0:decide ((-1:Int)<0)=true:=rfl;refine wnY @z0 ?_;exact⟨k+1,by omega,⟨by omega,h2,g0,g1,by rw[hss];exact g2,gl⟩,by rw[hss];simp (disch:=omega) only[agr,ZG,reduceEqDiff,↓reduceIte]⟩
 |some p=>
  rw[hp] at hss;dsimp only at hss;obtain⟨p1,p2⟩:=hps p hp;have z0:decide ((p:Int)<0)=false:=aW (by omega);have rl:(rows.map aE).length=R.length:=by rw[bk,r2]
  refine wnY (zI4 @z0 @g2 @rl @r2) ?_;rw[AC (by omega)];have rl2:(rows.set n (rows.getD p default)).length=R.length:=by rw[List.length_set,r2]
  refine wnY @rl2 ?_;rw[AC (by rw[List.length_set];omega),J0 (by omega) p2];have hSl:=rH (rows:=rows) (n:=n) (k:=p);have hSr:=r1.swL (n:=n) (k:=p) (by omega) p2;generalize swL rows n p=S at *;clear hrow g2 rl rl2 hpv;refine bA (X:=Nat) (λi=>[(1,.ptr n0 2 0),(2,.ptr (n0+1) 2 0),(3,.msl (n0+2) R.length 1 0 R.length),(4,.int .i64 n),(5,.int .i64 k),(7,.int .i64 i)]) (λi H' nx'=>i<=R.length/\n0+3<=nx'/\H' n0=some [.int .i64 c,s]/\H' (n0+1)=some [.int .i64 0,.esl]/\H' (n0+2)=some ((elP S n k i).map aE)/\∀x,x<n0->H' x=G x) (λi=>R.length-i) 0 ⟨bz _,h2,by rw[ac (by omega),ac (by omega)];exact g0,by rw[ac (by omega),ac (by omega)];exact g1,by rw[ae,MI],λx hx=>by rw[ac (by omega),ac (by omega)];exact gl x hx⟩ ag0 ?_;rintro i H' nx' ⟨i1,i2,j0,j1,j2,jl⟩;have hPl:(elP S n k i).length=R.length:=by rw[iM];omega
  have hPr:=hSr.elP (n:=n) (k:=k) (i:=i) (by omega);have rl3:((elP S n k i).map aE).length=R.length:=by rw[bk,hPl]
  by_cases hi:i<R.length
  rotate_left
  ·obtain rfl:i=R.length:=by omega
   have zi:decide ((R.length:Int)<R.length)=false:=aW (by omega);refine wnY @zi ?_;refine⟨k+1,by omega,⟨by omega,i2,j0,j1,?_,jl⟩,by rw[hss];simp (disch:=omega) only[agr,ZG,reduceEqDiff,↓reduceIte]⟩;rw[hss,j2,show R.length=S.length by omega,Bk]
  have hPi:(elP S n k i).getD i default=S.getD i default:=by rw[kJ (by omega),if_neg (by omega)]
  have hnn:elF S n k n=S.getD n default:=by unfold elF;rw[if_neg (λq=>q.1 rfl)]
  have hPn:(elP S n k i).getD n default=S.getD n default:=by rw[kJ (by omega),hnn];split<;>rfl
  have hPs:=Hq (rows:=S) (n:=n) (c:=k) (i:=i);have hPe:=λe=>F3 (rows:=S) (n:=n) (c:=k) (i:=i) (by omega) e;have hFi:elF S n k i=if i≠n/\(k:Int)∈S.getD i default then bP (S.getD i default) (S.getD n default) else S.getD i default:=rfl
  have hli:=hSr.len _ (ay (show i<S.length by omega));have hln:=hSr.len _ (ay (show n<S.length by omega));have hh:=wB (S.getD i default) (k:Int) (by omega);have hpl:=B7 (S.getD i default) (S.getD n default) (by omega) (by omega);have zi:decide ((i:Int)<R.length)=true:=aZ (by omega);generalize hP2:elP S n k (i+1)=P2 at *;generalize hP1:elP S n k i=P at *;generalize S.getD i default=x at *;generalize S.getD n default=y at *;by_cases hin:i=n
  ·have zn:decide ((i:Int)≠n)=false:=aW (by omega);rw[if_neg (λq=>q.1 hin)] at hFi;refine wnY (zI5 @zi @zn @j2 @rl3 @hPl) ?_;exact⟨i+1,by omega,⟨by omega,i2,j0,j1,by rw[hP2,hPe hFi];exact j2,jl⟩,ag0⟩
  have zn:decide ((i:Int)≠n)=true:=aZ (by omega);by_cases hx:(k:Int)∈x
  ·rw[aZ hx] at hh;rw[if_pos ⟨hin,hx⟩] at hFi;rw[<-hFi] at hpl;refine wkY (zI7 @zi @zn @j2 @rl3 @hPl @hPi @hPn) ?_;rw[AC (by omega),hPs]
   skip
   exact⟨i+1,by omega,⟨by omega,i2,by rw[ac (by omega)];exact j0,by rw[ac (by omega)];exact j1,by rw[hP2];exact ae,λx hx=>by rw[ac (by omega)];exact jl x hx⟩,ag0⟩
  ·rw[aW hx] at hh;rw[if_neg (λq=>hx q.2)] at hFi;refine wnY (zI6 @zi @zn @j2 @rl3 @hPl @hPi) ?_;exact⟨i+1,by omega,⟨by omega,i2,j0,j1,by rw[hP2,hPe hFi];exact j2,jl⟩,ag0⟩
theorem jo.snapM{H:Hp}{s:AV}{l:List (List Int)}{c:Int}(h:jo H s l):Snap H (.agg [.int .i64 c,s]) (cQ c l):=ju (ag (.int _ _) (ag h.snap an))
theorem DQ(c:Nat)(R:List (List Int))(hm:fH c R):pU 106 [cQ c R] (cQ c (wk R c)):=
 Pure.of_fn ((nR c R hm bF 0 (bi R) (.inl rfl) (λb hb=>(by cases hb))).mono λr H' nx' ⟨s',e,h,_⟩=>by rw[e];exact h.snapM)
section
variable{α:Type}[Inhabited α]{f:α->AV}{K:α->α->Int}{G:α->Prop}
theorem Ir(hc:CmpO Tryz.prog f K G){L:List α}{H:Hp}{b nx n a e:Nat}(hH:H b=some (L.map f))(hn:L.length=n)(hG:∀x∈L,G x)(hae:a<=e)(hen:e<=n)(hn2:n<=1000000000):
    Abs.Fn Tryz.prog 189 [.msl b n 1 0 n,.int .i64 a,.int .i64 e] H nx λr H' nx'=>nx'=nx/\∃L',H'=ap H b (L'.map f)/\PermR a e L L'/\bh K a e L':=by
 refine fO Nz ?_;simp only[LH,aG];refine wnZ and_self ?_;refine bA (X:=Nat×List α) (λx=>[(0,.msl b n 1 0 n),(1,.int .i64 a),(2,.int .i64 e),(6,.int .i64 (x.1:Nat))]) (λx H' nx'=>a+1<=x.1/\(x.1<=e\/x.1=a+1)/\H'=ap H b (x.2.map f)/\nx'=nx/\PermR a e L x.2/\bh K a x.1 x.2) (λx=>e+1-x.1) (a+1,L) ⟨aN _,.inr rfl,fS hH,rfl,.refl,bh.one (aN _)⟩ ag0 ?_;rintro⟨i,M0⟩ H' nx' ⟨h1,h2,rfl,rfl,hp0,hs0⟩;dsimp only at *;have hl0:M0.length=n:=by rw[hp0.len,hn]
 by_cases hi:i<e
 rotate_left
 ·refine wnZ and_self ?_;exact⟨rfl,M0,rfl,hp0,hs0.mono (aN _) (by omega)⟩
 refine wnZ and_self ?_;refine bA (X:=Nat×List α) (λx=>[(0,.msl b n 1 0 n),(1,.int .i64 a),(2,.int .i64 e),(6,.int .i64 (i:Nat)),(7,.int .i64 (x.1:Nat))]) (λx H' nxx=>a<=x.1/\x.1<=i/\H'=ap H b (x.2.map f)/\nxx=nx'/\PermR a e L x.2/\fu K a i x.1 x.2) (λx=>x.1) (i,M0) ⟨by omega,aN _,rfl,rfl,hp0,.start hs0⟩ ag0 ?_;clear hp0 hs0 hl0;rintro⟨j,M⟩ H' nxx ⟨a1,a2,rfl,rfl,hp,hal⟩;dsimp only at *;have hl:M.length=n:=by rw[hp.len,hn]
 have hGM:=hp.mem hG;by_cases hja:j=a
 ·subst hja;refine wkZ and_self ?_;exact⟨(i+1,M),by dsimp only;omega,⟨by dsimp only;omega,.inl (by dsimp only;omega),rfl,rfl,hp,hal.done hc.ord (.inl rfl)⟩,ag0⟩
 ·obtain⟨k,rfl⟩:∃k,j=k+1:=⟨j-1,by omega⟩
  have tj:((k+1:Nat):Int)-1=(k:Int):=by omega
  have lc:=hc.run (M.getD (k+1) default) (M.getD k default) (hGM _ (aP (by omega))) (hGM _ (aP (by omega)));have d1:=hc.dat (M.getD (k+1) default);have d2:=hc.dat (M.getD k default);generalize hKK:K (M.getD (k+1) default) (M.getD k default)=kk at lc;by_cases hlt:kk<0
  ·obtain⟨M1,hl1,lm1,lm2⟩:∃M1:List α,M1.length=n/\br (M.map f) (k+1) [f (M.getD k default)]=M1.map f/\br (M1.map f) k [f (M.getD (k+1) default)]=(swp M (k+1) k).map f:=
     ⟨M.set (k+1) (M.getD k default),by simp[hl],iW (by omega),by rw[iW (by simp;omega)];rfl⟩
   have lm3:=lm2;simp only[br,bC,dp,bS] at lm1 lm2;refine wkZ (zI6 @tj @bN @lm1 @lm2 hc.cells hc.one) ?_;refine⟨(k,swp M (k+1) k),by dsimp only;omega,⟨by dsimp only;omega,by dsimp only;omega,?_,rfl,hp.trans (PermR.swap (by omega) (by omega) (by omega)),hal.step hc.ord (by omega) (by omega) (by omega) (by rw[hKK];exact hlt)⟩,(have zz:=@tj;agZ)⟩;dsimp only;rw[aC,aC,lm3]
  ·refine wkZ (zI4 @tj @bN hc.cells hc.one) ?_;exact⟨(i+1,M),by dsimp only;omega,⟨by dsimp only;omega,.inl (by dsimp only;omega),rfl,rfl,hp,hal.done hc.ord (.inr ⟨by omega,by rw[lI,hKK];exact hlt⟩)⟩,ag0⟩
end
theorem JS(x y:Int):pU 187 [.int .i64 x,.int .i64 y] (.bool (decide (x-y<0))):=by
 have e:decide (x-y<0)=decide (x<y):=decide_eq_decide.2 (by omega);rw[e];have n1:=jh x;refine pO Ig ?_;simp only[JD,aG];refine wnZ and_self ?_;exact Dat.snap Dat.bool
theorem KS:CmpO Tryz.prog (λx:Int=>.int .i64 x) (λx y=>x-y) (λ_=>True):=⟨λ_=>rfl,λ_=>rfl,λ_=>.int,λx y _ _=>JS x y,N1⟩
theorem Hi{L:List Int}{H:Hp}{b nx n lim:Nat}(hH:H b=some (L.map λx=>.int .i64 x))(hn:L.length=n)(hn2:n<=12):
    Abs.Fn Tryz.prog 164 [.msl b n 1 0 n,.int .i64 0,.int .i64 n,.int .i64 lim] H nx λr H' nx'=>nx'=nx/\∃L':List Int,H'=ap H b (L'.map λx=>.int .i64 x)/\PermR 0 n L L'/\bh (λx y:Int=>x-y) 0 n L':=by
 refine fO It ?_;simp only[JM,aG];have z:decide ((n:Int)<=12)=true:=aZ (by omega);refine wnZ and_self ?_;refine bA (X:=Unit) (λx=>[(0,.msl b n 1 0 n),(1,.int .i64 0),(2,.int .i64 n),(3,.int .i64 lim)]) (λx H' nx'=>H'=H/\nx'=nx) (λx=>0) () ⟨rfl,rfl⟩ ag0 ?_;rintro _ _ _ ⟨rfl,rfl⟩;refine wnZ (aI @z @Int.sub_zero) ?_;refine aO ev0 (have zz:=@Int.natCast_zero;evZ) (Ir KS (a:=0) hH hn (λ_ _=>trivial) (bz _) (aN _) (by omega)) ?_;rintro _ _ _ ⟨rfl,L',rfl,hp,hs⟩;refine wnZ and_self ?_;exact⟨rfl,L',rfl,hp,hs⟩
def nA(m:Nat):Prop:=∀{L:List Int}{H:Hp}{b nx n:Nat},H b=some (L.map λx=>.int .i64 x)->b<nx->L.length=n->0<n->n<=m->
    Abs.Fn Tryz.prog 147 [.msl b n 1 0 n] H nx λr H' nx'=>∃L':List Int,PS H H' nx nx' b (L'.map λx=>.int .i64 x)/\L'.Perm L/\L'.Pairwise (· <= ·)
theorem nA.le{m k:Nat}(h:nA m)(hk:k<=m):nA k:=λa b c d e=>h a b c d (fc e hk)
theorem EO:nA 12:=λ{L H b nx n} hH hbx hn hn0 hn2=>by
 refine fO Ia ?_;simp only[Jr,aG];have w:IntKind.wrap .u64 (n:Int)=n:=ff (by omega) (by omega);refine wnZ @w ?_;refine aO ev0 (have zz:=@w;evZ) (B4 hn0 (by omega)) ?_;rintro _ _ _ ⟨rfl,rfl,k,rfl,h3,h4⟩
 skip
 refine aO ev0 (have zz:=@Int.natCast_zero;evZ) (Hi hH hn hn2) ?_;rintro _ _ _ ⟨rfl,N,rfl,hp,hs⟩;refine wnZ and_self ?_;refine⟨N,⟨ae,λi _ h2=>ac h2,aN _⟩,hp.perm,?_⟩;rw[kp];intro i j hi hj hij;have hl:N.length=n:=by rw[hp.len,hn]
 have:=hs i j (bz _) hij (by omega);simp only[List.getD,hi,hj,qA,sX] at this;omega
end
end Go.Proofs.YtekdaafnjdlenaaGreat
