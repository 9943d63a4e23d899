/- Contracts of functions and plain laws, for all inputs that the theorems name. -/
import Derived.Test.YtekdaafnjdlenaaGreatXG5
import Derived.Test.YtekdaafnjdlenaaGreatXG3
import Derived.Test.YtekdaafnjdlenaaGreatXG4
import Derived.Test.YtekdaafnjdlenaaGreatRows
import Derived.WalkKit
import Derived.ProofKit
import Derived.OpenShut

set_option linter.unusedSimpArgs false
set_option linter.unusedVariables false
set_option maxHeartbeats 4000000
namespace Go.Proofs.YtekdaafnjdlenaaGreat
open Go Go.Abs
open Nat (reduceEqDiff reduceAdd reduceLeDiff)
theorem zK{c:List Spx}:∀{k:Nat},k<=c.length->∀i,i<k->((c.getD i default).length:Int)<=(ol c k).2
 |0,_,i,hi=>absurd hi (by omega)
 |k+1,hk,i,hi=>by
  unfold ol;dsimp only;rcases(by omega:i<k\/i=k) with h|rfl
  ·have:=zK (c:=c) (k:=k) (by omega) i h;omega
  ·omega
theorem Ai{c:List Spx}{m k:Nat}(hm:fM c=m)(hk:m<k):iY c k=[]:=by
 refine qE.2 λs hs=>?_;obtain⟨t,ht,h⟩:=ue.1 hs;obtain⟨h1,h2⟩:=fe.1 h;have h3:=h1.length_le;obtain⟨i,hi,e⟩:=lm ht;have h4:=zK (c:=c) (aJ _) i hi;rw[show c.getD i default=t by simp[List.getD,hi,e]] at h4;unfold fM at hm;omega
theorem xS{c:List Spx}{n:Nat}:an c ((n:Int)+1)=iY c (n+1):=by
 have:=AG (c:=c) (k:=n+1);rw[if_neg (by omega)] at this;exact this
theorem IQ{c:List Spx}:rkF c 0=0:=by
 have h:an c ((0:Nat):Int)=[]:=by rw[AG,if_pos rfl]
 unfold rkF ed lZ;rw[h];have e:bZ (an c (((0:Nat):Int)+1)) []=[]:=rfl;rw[e,bt]
 have:∀n,(mR (stE [] ([]:List (List Int)).length).1 n).length=0:=λn=>by
  induction n with
  |zero=>rfl
  |succ n ih=>
   rw[oQ,cA,ih];rfl
 exact this _
theorem JR{c:List Spx}{m k:Nat}(hm:fM c=m)(hk:m<=k):rkF c k=0:=by
 have:=oa (c:=c) (d:=k);rw[xS,Ai hm (by omega)] at this;simpa using this
def r8(c:List Spx):Nat->Int
 |0=>0
 |n+1=>if n%2=0 then r8 c n+btF c n else r8 c n-btF c n
theorem zb{c:List Spx}:∀n,r8 c n=if n%2=0 then jE c n+(rkF c n:Int) else jE c n-(rkF c n:Int)
 |0=>by rw[IQ];rfl
 |n+1=>by
  have ih:=zb (c:=c) n;have hb:btF c n=((iY c (n+1)).length:Int)-(rkF c n:Int)-(rkF c (n+1):Int):=by unfold btF;rw[xS]
  unfold r8 jE;rw[hb,ih];by_cases h:n%2=0
  ·rw[if_pos h,if_pos h,if_neg (by omega),if_pos (by omega)];omega
  ·rw[if_neg h,if_neg h,if_pos (by omega),if_neg (by omega)];omega
theorem AY{c:List Spx}{m:Nat}(hm:fM c=m):∀k,jE c (m+k)=jE c m
 |0=>rfl
 |k+1=>by
  have ih:=AY hm k;have e:jE c (m+(k+1))=if (m+k+1)%2=1 then jE c (m+k)+((iY c (m+k+1)).length:Int) else jE c (m+k)-((iY c (m+k+1)).length:Int):=rfl
  rw[e,Ai hm (by omega),ih];split<;>simp
theorem EM{c:List Spx}{m:Nat}(hm:fM c=m)(hm8:m<=8):r8 c m=jE c 8:=by
 have h1:=AY hm (8-m);rw[show m+(8-m)=8 by omega] at h1;rw[h1,zb,JR hm (aJ _)];split<;>simp
theorem kQ{b:List Int}:∀{a:List Int},cm (λj=>bit j b) a=(a.filter λx=>decide (x∈b)).length
 |[]=>rfl
 |x::a=>by
  have ih:=kQ (b:=b) (a:=a);show bit x b+cm _ a=_;rw[ih];by_cases h:x∈b
  ·rw[tC (by simpa using h),bL];unfold bit;rw[if_pos h];omega
  ·rw[tB (by simpa using h)];unfold bit;rw[if_neg h];omega
theorem Cp{a b:List Int}(ha:bo a)(hb:bo b):kY a b=pd b a:=by
 unfold kY pd;have:=q7 _ a b (aJ _) ha hb;rw[kQ];refine decide_eq_decide.2 ?_;omega
theorem Fh{a b:List Int}(ha:bo a)(hb:bo b):pd a b=pd b a:=by
 unfold pd;rw[kQ,kQ,BK (a:=b) (b:=a) hb.nodup ha.nodup]
theorem nY{g:Int->Nat}{b:List Int}:∀{a:List Int},cm g (a++b)=cm g a+cm g b
 |[]=>by show _=0+_;rw[cE];rfl
 |x::a=>by
  have ih:=nY (g:=g) (b:=b) (a:=a);show g x+cm g (a++b)=g x+cm g a+cm g b;rw[ih];omega
theorem oD{g:Int->Nat}:∀{a:List Int},(∀z∈a,g z=0)->cm g a=0
 |[],_=>rfl
 |x::a,h=>by
  show g x+cm g a=0;rw[h x cW,oD λz hz=>h z (dS _ hz)]
theorem Ab{g h:Int->Nat}:∀{a:List Int},cm (λz=>g z+h z) a=cm g a+cm h a
 |[]=>rfl
 |x::a=>by
  have ih:=Ab (g:=g) (h:=h) (a:=a);show g x+h x+cm _ a=g x+cm g a+(h x+cm h a);rw[ih];omega
theorem z7{g h:Int->Nat}:∀{a:List Int},(∀z∈a,g z%2=h z%2)->cm g a%2=cm h a%2
 |[],_=>rfl
 |x::a,e=>by
  have ih:=z7 (g:=g) (h:=h) (a:=a) λz hz=>e z (dS _ hz);have h0:=e x cW;show(g x+cm g a)%2=(h x+cm h a)%2;omega
structure VR(c:Nat)(R:List (List Int)):Prop where
 asc:∀r∈R,bo r
 rng:∀r∈R,∀z∈r,0<=z/\z<(c:Int)
def rk(R:List (List Int))(c:Nat):Nat:=(ed R c).length
theorem VR.app{c:Nat}{R S:List (List Int)}(h1:VR c R)(h2:VR c S):VR c (R++S):=
 ⟨λr hr=>(dZ.1 hr).elim (h1.asc r) (h2.asc r),λr hr=>(dZ.1 hr).elim (h1.rng r) (h2.rng r)⟩
theorem VR.sub{c:Nat}{R S:List (List Int)}(h:VR c R)(hs:∀r∈S,r∈R):VR c S:=⟨λr hr=>h.asc r (hs r hr),λr hr=>h.rng r (hs r hr)⟩
theorem VR.one{c:Nat}{v:List Int}(ha:bo v)(hv:∀z∈v,0<=z/\z<(c:Int)):VR c [v]:=⟨λr hr=>by rw[bT] at hr;rw[hr];exact ha,λr hr=>by rw[bT] at hr;rw[hr];exact hv⟩
theorem VR.nil{c:Nat}:VR c []:=⟨λ_ h=>(by cases h),λ_ h=>(by cases h)⟩
theorem mL{c:Nat}{R:List (List Int)}(h:jp c R):VR c R:=⟨gN h,rh h⟩
theorem wV{R S:List (List Int)}:∀{i:Nat},(∀j,j<i->R.getD j default=S.getD j default)->stE R i=stE S i
 |0,_=>rfl
 |i+1,h=>by
  have ih:=wV (R:=R) (S:=S) (i:=i) (λj hj=>h j (by omega));have e:=h i (by omega);simp only[stE,ih,e]
theorem Dl{c:Nat}{R:List (List Int)}(h:VR c R):rk R c=(stE R R.length).1.length:=by
 obtain⟨h1,h2,h3⟩:=gF h.asc h.rng;have hs:=fJ h.asc (aJ R.length);unfold rk ed;rw[bt];have hn:(lZ R c).Nodup:=(nB hs.red).imp (λ{x y}(q:ld x.1<ld y.1) e=>by rw[e] at q;omega);exact Nat.le_antisymm (js hn λx hx=>(h3 x).1 hx) (js hs.red.nodup λx hx=>(h3 x).2 hx)
theorem IS{c:Nat}{R:List (List Int)}(h:VR c R):rk R c+(stE R R.length).2.length=R.length:=by
 rw[Dl h];exact(fJ h.asc (aJ R.length)).len
theorem Hn{R:List (List Int)}(hR:∀r∈R,bo r)(v:List Int):Sp ((stE R R.length).1.map Prod.fst) v↔Sp R v:=by
 have hs:=fJ hR (aJ R.length);have e:R.take R.length=R:=List.take_length;constructor
 ·intro h;refine jB hR (λr hr=>?_) h;obtain⟨l,hl,rfl⟩:=bu.1 hr;have:=hs.inS l hl
  rwa [e] at this
 ·intro h;exact jB (fc hs.red) (λr hr=>hs.all r (by rw[e];exact hr)) h
theorem qR{c:Nat}{R S:List (List Int)}(hR:VR c R)(hS:VR c S)(h:∀v,Sp R v↔Sp S v):rk R c=rk S c:=by
 obtain⟨a1,a2,-⟩:=gF hR.asc hR.rng;obtain⟨b1,b2,-⟩:=gF hS.asc hS.rng;unfold rk;rw[qu a1 b1 λv=>(a2 v).trans ((h v).trans (b2 v).symm)]
theorem tJ{c:Nat}{R:List (List Int)}{v:List Int}(h:VR c R)(ha:bo v)(hv:∀z∈v,0<=z/\z<(c:Int)):(Sp R v/\rk (R++[v]) c=rk R c)\/(¬Sp R v/\rk (R++[v]) c=rk R c+1):=by
 have hw:=h.app (VR.one ha hv);rw[Dl hw,Dl h,cA,List.length_singleton];have hs:=fJ h.asc (aJ R.length);have hsp:=Hn h.asc v;have hsp2:=Hn h.asc;have hx:cT (v,[(R.length:Int)]):=⟨ha,List.pairwise_singleton ..⟩
 have hyn:=λl hl=>lM hs.red hx (l:=l) hl;have hysp:Sp ((stE R R.length).1.map Prod.fst) (bX v (ew (stE R R.length).1 (v,[(R.length:Int)])).1):=v9 (fc hs.red) (λl hl=>⟨hs.red.asc l hl,bu.2 ⟨l,hl,rfl⟩⟩) hx;have hya:cT (ew (stE R R.length).1 (v,[(R.length:Int)])):=ji hs.red.asc hx
 have e1:stE (R++[v]) R.length=stE R R.length:=wV λj hj=>by
  simp only[wO,iI hj]
 have e2:(R++[v]).getD R.length default=v:=by simp[List.getD]
 have e3:stE (R++[v]) (R.length+1)=if (ew (stE R R.length).1 (v,[(R.length:Int)])).1=[] then((stE R R.length).1,(stE R R.length).2++[(ew (stE R R.length).1 (v,[(R.length:Int)])).2]) else(kV (stE R R.length).1 (ew (stE R R.length).1 (v,[(R.length:Int)])),(stE R R.length).2):=by
  simp only[stE,e1,e2]
 rw[e3];generalize ew (stE R R.length).1 (v,[(R.length:Int)])=y at *;by_cases h0:y.1=[]
 ·left;rw[if_pos h0];rw[h0,gA] at hysp;exact⟨hsp.1 hysp,rfl⟩
 ·right;rw[if_neg h0];refine⟨λq=>h0 (sc hs.red ?_ hyn),?_⟩
  ·have:=gD (fc hs.red) (hsp.2 q) hysp
   rwa [er ha ha hya.1,eD ha,jK] at this
  ·unfold kV;rw[cA,bt];rfl
theorem Cg{c:Nat}:rk [] c=0:=by
 have:=IS (c:=c) VR.nil;simp only[eW] at this;omega
theorem IV{R:List (List Int)}{v:List Int}{z:Int}(hR:∀r∈R,bo r)(hz:z∈v)(h:∀r∈R,z∉r):¬Sp R v:=λq=>
 gV (P:=λx=>x≠z) hR (λr hr x hx e=>h r hr (e▸hx)) q z hz rfl
structure KerV(R:List (List Int))(c:Nat)(x:List Int):Prop where
 asc:bo x
 rng:∀z∈x,0<=z/\z<(c:Int)
 dot:∀r∈R,cm (λz=>bit z r) x%2=0
theorem Ix{R:List (List Int)}{x v:List Int}(hR:∀r∈R,bo r)(h:∀r∈R,cm (λz=>bit z r) x%2=0)(hv:Sp R v):cm (λz=>bit z v) x%2=0:=by
 induction hv with
 |nil=>rw[oD λz _=>iE]
 | @add v r hv hr ih=>
  rw[z7 (h:=λz=>bit z v+bit z r) λz _=>by rw[dh (lw hR hv) (hR r hr)];omega,Ab];have:=h r hr;omega
theorem Kv{c:Nat}{R:List (List Int)}{x:List Int}(h:VR c R):KerV R c x↔KerV (ed R c) c x:=by
 obtain⟨a1,a2,-⟩:=gF h.asc h.rng;exact⟨λk=>⟨k.asc,k.rng,λr hr=>Ix h.asc k.dot ((a2 r).1 (dC hr))⟩,λk=>⟨k.asc,k.rng,λr hr=>Ix a1.asc k.dot ((a2 r).2 (dC hr))⟩⟩
theorem yT{E:List (List Int)}{c:Nat}{x y:List Int}(hx:KerV E c x)(hy:KerV E c y):KerV E c (bX x y):=
 ⟨dE hx.asc hy.asc,fun z hz=>by
  rcases(c6 hx.asc hy.asc).1 hz with q|q
  ·exact hx.rng z q.1
  ·exact hy.rng z q.1,λr hr=>by
  rw[fV _ _ _ (aJ _)];have:=hx.dot r hr;have:=hy.dot r hr;omega⟩
theorem xy{q:Nat}{g:Int->Nat}{z0:Int}:∀{E:List (List Int)}{a:List Int},(∀r∈E,g (ld r)=bit z0 r)->cm g (E.foldl (λa r=>if (q:Int)∈r then bX a [ld r] else a) a)%2=(cm g a+lI z0 (λr=>decide ((q:Int)∈r)) E)%2
 |[],a,_=>rfl
 |x::E,a,h=>by
  rw[List.foldl_cons,xy λr hr=>h r (dS _ hr)];have hx:=h x (cW ..);by_cases hq:(q:Int)∈x
  ·rw[if_pos hq];have h1:=fV (g:=g) _ a [ld x] (aJ _);have h2:cm g [ld x]=g (ld x):=rfl
   have h3:lI z0 (λr=>decide ((q:Int)∈r)) (x::E)=bit z0 x+lI z0 (λr=>decide ((q:Int)∈r)) E:=by
    show(if decide ((q:Int)∈x)=true then bit z0 x else 0)+_=_;rw[if_pos (bd hq)]
   rw[h3];omega
  ·rw[if_neg hq]
   have h3:lI z0 (λr=>decide ((q:Int)∈r)) (x::E)=lI z0 (λr=>decide ((q:Int)∈r)) E:=by
    show(if decide ((q:Int)∈x)=true then bit z0 x else 0)+_=_;rw[if_neg (by simpa using hq),cE]
   rw[h3]
theorem Az{E:List (List Int)}{c q:Nat}(hE:Red E)(hv:∀r∈E,∀z∈r,0<=z/\z<(c:Int))(hq:(q:Int)∉E.map ld)(hc:q<c):KerV E c (rb E q):=by
 have hm:rb E q∈iK E c:=by
  unfold iK zt;exact List.mem_map_of_mem (dJ.2 ⟨du.2 hc,bd hq⟩)
 obtain⟨k1,k2⟩:=yR hE hv _ hm;refine⟨k1,k2,λr hr=>?_⟩;unfold rb
 rw [xy (z0:=ld r) fun s hs=>by
  by_cases e:s=r
  ·subst e;rfl
  ·have n1:ld s∉r:=λq=>e (hE.own s hs r hr q).symm;have n2:ld r∉s:=λq=>e (hE.own r hr s hs q);simp[bit,n1,n2]]
 rw[hE.cnt hr];show(bit (q:Int) r+0+_)%2=0;by_cases h:(q:Int)∈r
 ·rw[cS.2 h,if_pos (bd h)]
 ·rw[if_neg (by simpa using h)];simp[bit,h]
theorem vP{z:Int}:∀{x:List Int},bo x->cm (λw=>if w=z then 1 else 0) x=bit z x
 |[],_=>rfl
 |a::x,h=>by
  have hx:=iz.1 h;show(if a=z then 1 else 0)+cm _ x=_;rw[vP hx.2];by_cases e:a=z
  ·subst e;rw[if_pos rfl,cS.2 (cW ..)];have:a∉x:=λq=>by have:=hx.1 a q;omega
   simp[bit,this]
  ·rw[if_neg e];simp[bit,Ne.symm e]
theorem IH{E:List (List Int)}{c:Nat}{x:List Int}(hE:Red E)(hx:KerV E c x)(h:∀z∈x,z∈E.map ld):x=[]:=by
 refine tF λz=>?_;by_cases hz:z∈x
 ·exfalso;obtain⟨r,hr,rfl⟩:=bu.1 (h z hz);have h1:=hx.dot r hr
  rw [fi (h:=fun w=>if w=ld r then 1 else 0) fun w hw=>by
   by_cases e:w=ld r
   ·rw[if_pos e,e];exact cS.2 (dy (hE.ne r hr))
   ·rw[if_neg e]
    have:w∉r:=λq=>by
     obtain⟨s,hs,rfl⟩:=bu.1 (h w hw);rw[hE.own s hs r hr q] at e;exact e rfl
    simp[bit,this],vP hx.asc,cS.2 hz] at h1
  cases h1
 ·simp[bit,hz]
theorem DV{E:List (List Int)}{c q:Nat}(hq:(q:Int)∉E.map ld)(hc:q<c):rb E q∈iK E c:=by
 unfold iK zt;exact List.mem_map_of_mem (dJ.2 ⟨du.2 hc,bd hq⟩)
theorem rL{E:List (List Int)}{c:Nat}(hE:Red E)(hv:∀r∈E,∀z∈r,0<=z/\z<(c:Int)):∀(l:List Nat){x:List Int},KerV E c x->(∀z∈x,z∉E.map ld->∃q∈l,(q:Int)=z)->Sp (iK E c) x
 |[],x,hx,h=>by
  rw [IH hE hx fun z hz=>Classical.byContradiction fun n=>by
   obtain⟨q,hq,-⟩:=h z hz n;cases hq]
  exact Sp.nil
 |q::l,x,hx,h=>by
  by_cases hq:(q:Int)∈x/\(q:Int)∉E.map ld
  ·have hc:q<c:=by have:=(hx.rng _ hq.1).2;omega
   have hk:=Az hE hv hq.2 hc;have hm:=DV hq.2 hc;obtain⟨f1,f2⟩:=ky hE hq.2
   have h1:=rL hE hv l (yT hx hk) λz hz hn=>by
    rcases(c6 hx.asc hk.asc).1 hz with⟨a,b⟩|⟨a,b⟩
    ·obtain⟨p,hp,e⟩:=h z a hn;rcases cU.1 hp with rfl|hp
     ·exact absurd ((f2 z).2 (.inl e.symm)) b
     ·exact⟨p,hp,e⟩
    ·rcases(f2 z).1 a with rfl|⟨r,hr,_,rfl⟩
     ·exact absurd hq.1 b
     ·exact absurd (List.mem_map_of_mem hr) hn
   have h2:=Sp.add h1 hm
   rwa [<-er hx.asc hk.asc hk.asc,eD hk.asc,gA] at h2
  ·refine rL hE hv l hx λz hz hn=>?_;obtain⟨p,hp,e⟩:=h z hz hn;rcases cU.1 hp with rfl|hp
   ·rw[<-e] at hz hn;exact absurd ⟨hz,hn⟩ hq
   ·exact⟨p,hp,e⟩
theorem DI{E:List (List Int)}{c:Nat}(hE:Red E)(hv:∀r∈E,∀z∈r,0<=z/\z<(c:Int)):VR c (iK E c):=⟨λv h=>(yR hE hv v h).1,λv h=>(yR hE hv v h).2⟩
theorem Jf{E:List (List Int)}{c:Nat}(hE:Red E)(hv:∀r∈E,∀z∈r,0<=z/\z<(c:Int)){v:List Int}(h:v∈iK E c):KerV E c v:=by
 unfold iK zt at h;obtain⟨q,hq,rfl⟩:=bu.1 h;obtain⟨q1,q2⟩:=dJ.1 hq;exact Az hE hv (nf q2) (du.1 q1)
theorem Jx{E:List (List Int)}{c:Nat}:KerV E c []:=⟨lS,λ_ h=>(by cases h),λ_ _=>rfl⟩
theorem DX{c:Nat}{R:List (List Int)}{x:List Int}(h:VR c R):KerV R c x↔Sp (iK (ed R c) c) x:=by
 obtain⟨a1,a2,-⟩:=gF h.asc h.rng;have hv:∀r∈ed R c,∀z∈r,0<=z/\z<(c:Int):=λr hr=>gV h.asc h.rng ((a2 r).1 (dC hr));rw[Kv h];constructor
 ·intro k;refine rL a1 hv (List.range c) k λz hz _=>?_;have:=k.rng z hz;exact⟨z.toNat,du.2 (by omega),by omega⟩
 ·intro k
  induction k with
  |nil=>exact Jx
  |add _ hr ih=>exact yT ih (Jf a1 hv hr)
theorem BE{α:Type}{p:α->Bool}:∀{l:List α},(l.filter p).length+(l.filter λx=>!p x).length=l.length
 |[]=>rfl
 |x::l=>by
  have:=BE (p:=p) (l:=l);cases h:p x
  ·rw[tB (by simp[h]),tC (by simp[h]),bL,bL];omega
  ·rw[tC h,tB (by simp[h]),bL,bL];omega
theorem Dt{E:List (List Int)}{c:Nat}(hE:Red E)(hv:∀r∈E,∀z∈r,0<=z/\z<(c:Int)):(iK E c).length+E.length=c:=by
 have h1:=BE (p:=λq:Nat=>decide ((q:Int)∉E.map ld)) (l:=List.range c);have h2:(iK E c).length=((List.range c).filter λq:Nat=>decide (((q:Nat):Int)∉E.map ld)).length:=by unfold iK zt;rw[bt]
 rw[List.length_range] at h1
 suffices h3:((List.range c).filter λq:Nat=>!decide ((q:Int)∉E.map ld)).length=E.length by omega
 have e1:(cq ((List.range c).filter λq:Nat=>!decide ((q:Int)∉E.map ld))).length=((List.range c).filter λq:Nat=>!decide ((q:Int)∉E.map ld)).length:=by unfold cq;rw[bt]
 have e2:(E.map ld).length=E.length:=bt _;have n1:bo (E.map ld):=List.pairwise_map.2 hE.ord;have n2:bo (cq ((List.range c).filter λq:Nat=>!decide ((q:Int)∉E.map ld))):=fH (List.Pairwise.filter _ List.pairwise_lt_range);rw[<-e1,<-e2,nN n2 n1 λz=>?_];rw[kE];constructor
 ·rintro⟨i,hi,rfl⟩;have:=(dJ.1 hi).2;simpa using this
 ·intro hz;obtain⟨r,hr,e⟩:=bu.1 hz;have:=hv r hr _ (dy (hE.ne r hr));refine⟨z.toNat,dJ.2 ⟨du.2 (by omega),?_⟩,by omega⟩;rw[show((z.toNat:Nat):Int)=z by omega];simpa using hz
theorem CX{E:List (List Int)}{c:Nat}(hE:Red E)(hv:∀r∈E,∀z∈r,0<=z/\z<(c:Int)):∀k,k<=c->rk (iK E k) c=(iK E k).length
 |0,_=>Cg
 |k+1,hk=>by
  have ih:=CX hE hv k (by omega);have hV:=DI hE hv
  have hVk:VR c (iK E k):=hV.sub λr hr=>by
   unfold iK zt at hr |-;obtain⟨q,hq,rfl⟩:=bu.1 hr;obtain⟨q1,q2⟩:=dJ.1 hq;exact List.mem_map_of_mem (dJ.2 ⟨du.2 (by have:=du.1 q1;omega),q2⟩)
  rw[xo];by_cases hl:(k:Int)∈E.map ld
  ·rw[if_pos hl,gJ];exact ih
  ·rw[if_neg hl];have hm:=DV hl (show k<c by omega);obtain⟨f1,f2⟩:=ky hE hl;rcases tJ hVk (hV.asc _ hm) (hV.rng _ hm) with⟨q,_⟩|⟨_,q⟩
   ·refine absurd q (IV (z:=(k:Int)) hVk.asc ((f2 _).2 (.inl rfl)) λr hr hk2=>?_);unfold iK zt at hr;obtain⟨p,hp,rfl⟩:=bu.1 hr;obtain⟨p1,p2⟩:=dJ.1 hp;rcases((ky hE (nf p2)).2 _).1 hk2 with e|⟨s,hs,_,e⟩
    ·have:=du.1 p1;omega
    ·exact hl (e▸List.mem_map_of_mem hs)
   ·rw[q,ih,cA];rfl
theorem GR{R:List (List Int)}(hR:∀r∈R,bo r):∀{i:Nat},i<=R.length->VR R.length (stE R i).2/\rk (stE R i).2 R.length=(stE R i).2.length
 |0,_=>⟨VR.nil,Cg⟩
 |i+1,hi=>by
  obtain⟨ih,ih2⟩:=GR hR (i:=i) (by omega);have hs:=fJ hR (i:=i) (by omega);have hs2:=fJ hR (i:=i+1) hi;have hV:VR R.length (stE R (i+1)).2:=⟨λr hr=>(hs2.dep r hr).1.2,λr hr z hz=>by have:=(hs2.dep r hr).2.2 z hz;omega⟩
  refine⟨hV,?_⟩;have hx:cT (R.getD i default,[(i:Int)]):=⟨hR _ (az (by omega)),List.pairwise_singleton ..⟩
  have hbi:bit (i:Int) (ew (stE R i).1 (R.getD i default,[(i:Int)])).2=1:=by
   unfold ew;rw[lH hs.red.asc hx,ri λl hl h=>by have:=(hs.ok l hl).2 _ h;omega];show(bit (i:Int) [(i:Int)]+0)%2=1;rw[cS.2 (bT.2 rfl)]
  have e3:(stE R (i+1)).2=if (ew (stE R i).1 (R.getD i default,[(i:Int)])).1=[] then(stE R i).2++[(ew (stE R i).1 (R.getD i default,[(i:Int)])).2] else(stE R i).2:=by
   simp only[stE];split<;>rfl
  rw[e3] at hV |-;generalize ew (stE R i).1 (R.getD i default,[(i:Int)])=y at *;by_cases h0:y.1=[]
  ·rw[if_pos h0] at hV |-;have hm:y.2∈(stE R i).2++[y.2]:=mh _ (bT.2 rfl);rcases tJ ih (hV.asc _ hm) (hV.rng _ hm) with⟨q,_⟩|⟨_,q⟩
   ·exact absurd q (IV (z:=(i:Int)) ih.asc (cS.1 hbi) λr hr hz=>by have:=(hs.dep r hr).2.2 _ hz;omega)
   ·rw[q,ih2,cA];rfl
  ·rw[if_neg h0];exact ih2
theorem Mo{R:List (List Int)}{c q:Nat}(h:q<c):(trL c R).getD q default=cq (trF R R.length q):=tL h
theorem Kz {R:List (List Int)} {c:Nat}:VR R.length (trL c R):=⟨fun r hr=>by
 unfold trL at hr;obtain⟨q,hq,rfl⟩:=bu.1 hr;exact fH tK,λr hr z hz=>by
 unfold trL at hr;obtain⟨q,hq,rfl⟩:=bu.1 hr;obtain⟨j,hj,rfl⟩:=kE.1 hz;unfold trF at hj;have:=du.1 (dJ.1 hj).1;omega⟩
theorem Cz{R:List (List Int)}{q:Nat}{j:Int}(hj:0<=j/\j<(R.length:Int)):bit j (cq (trF R R.length q))=mG R q j:=by
 unfold mG bit
 have e:j∈cq (trF R R.length q)↔(q:Int)∈R.getD j.toNat default:=by
  rw[kE];constructor
  ·rintro⟨i,hi,rfl⟩;have:=(dJ.1 hi).2;simpa using this
  ·intro h;exact⟨j.toNat,dJ.2 ⟨du.2 (by omega),bd h⟩,by omega⟩
 by_cases h:(q:Int)∈R.getD j.toNat default
 ·rw[if_pos h,if_pos (e.2 h)]
 ·rw[if_neg h,if_neg λx=>h (e.1 x)]
theorem Lr{R:List (List Int)}{c:Nat}(h:VR c R){y:List Int}:KerV (trL c R) R.length y↔bo y/\(∀j∈y,0<=j/\j<(R.length:Int))/\∀z,cm (mG R z) y%2=0:=by
 constructor
 ·intro k;refine⟨k.asc,k.rng,λz=>?_⟩;by_cases hz:0<=z/\z<(c:Int)
  ·obtain⟨q,rfl⟩:=Int.eq_ofNat_of_zero_le hz.1;have hq:q<c:=by omega
   have:=k.dot _ (show(trL c R).getD q default∈trL c R from az (by unfold trL;simpa using hq));rw[Mo hq,fi λj hj=>Cz (k.rng j hj)] at this;exact this
  ·rw[oD λj hj=>?_];unfold mG;have hj:=k.rng j hj;have:z∉R.getD j.toNat default:=λq=>hz (h.rng _ (az (by omega)) z q);show(if z∈R.getD j.toNat default then 1 else 0)=0;rw[if_neg this]
 ·rintro⟨a,b,k⟩;refine⟨a,b,λr hr=>?_⟩;unfold trL at hr;obtain⟨q,hq,rfl⟩:=bu.1 hr;rw[fi λj hj=>Cz (b j hj)];exact k q
theorem Kj{R:List (List Int)}{c:Nat}(h:VR c R){y:List Int}:Sp (stE R R.length).2 y↔KerV (trL c R) R.length y:=by
 have hs:=fJ h.asc (aJ R.length);have ha:∀r∈(stE R R.length).2,bo r:=λr hr=>(hs.dep r hr).1.2;rw[Lr h];constructor
 ·intro k
  exact ⟨lw ha k,gV ha (fun r hr=>(hs.dep r hr).2.2) k,fun z=>q8 k fun d hd=>by
   have:=(hs.dep d hd).2.1 z;rw[iE] at this;exact this.symm⟩
 ·rintro⟨a,b,k⟩;exact uC h.asc (aJ _) a b k
theorem KA{R:List (List Int)}{c:Nat}(h:VR c R):rk (trL c R) R.length=rk R c:=by
 obtain⟨d1,d2⟩:=GR h.asc (aJ R.length);have ht:=Kz (R:=R) (c:=c);obtain⟨a1,a2,-⟩:=gF ht.asc ht.rng;have hv:∀r∈ed (trL c R) R.length,∀z∈r,0<=z/\z<(R.length:Int):=λr hr=>gV ht.asc ht.rng ((a2 r).1 (dC hr));have hK:=DI a1 hv;have e1:=qR d1 hK λv=>(Kj h).trans (DX ht);have e2:=CX a1 hv _ (aJ R.length);have e3:=Dt a1 hv;have e4:=IS h;have e5:rk (trL c R) R.length=(ed (trL c R) R.length).length:=rfl;omega
theorem Bm{L:List Ln}{w:List Int}{z:Int}:z∈nD L w↔ ∃l∈L,kY l.2 w=true/\ld l.1=z:=by
 unfold nD;simp only[bu,dJ];exact⟨λ⟨l,⟨h1,h2⟩,h3⟩=>⟨l,h1,h2,h3⟩,λ⟨l,h1,h2,h3⟩=>⟨l,⟨h1,h2⟩,h3⟩⟩
theorem Ht{M:List Ln}{c:Nat}{w:List Int}(hM:RedU M):bo (nD (mR M c) w):=by
 unfold nD bo;rw[List.pairwise_map];exact(nB hM).sublist wx
theorem Aj{M:List Ln}{c:Nat}{w:List Int}(hM:RedU M):∀z∈nD (mR M c) w,0<=z/\z<(c:Int):=λz hz=>by
 obtain⟨l,h1,_,rfl⟩:=Bm.1 hz;exact((q6 hM).1 h1).2
theorem Gd{R:List (List Int)}{c:Nat}{w:List Int}(hR:∀r∈R,bo r)(hv:∀r∈R,∀z∈r,0<=z/\z<(c:Int))(hw:bo w)(h0:∀y∈(stE R R.length).2,pd w y=false){i:Nat}(hi:i<R.length):cm (λz=>bit z (nD (lZ R c) w)) (R.getD i default)%2=bit (i:Int) w:=by
 have hsy:=Fk hR hv h0;obtain⟨w1,w2,w3⟩:=pH (b:=w) hR hv;obtain⟨e1,e2,e3⟩:=gF w1 w2;rw[AI w1 w2] at hsy;have hs:=fJ hR (aJ R.length);have hM:=hs.red;have d3:=(gF hR hv).2.2;have hlv:∀l∈(stE R R.length).1,∀z∈l.1,0<=z/\z<(c:Int):=λl hl=>gV hR hv (lz (λr hr=>lr hr) (hs.inS l hl))
 have hxm:∀z,z∈nD (lZ R c) w↔ ∃l∈(stE R R.length).1,kY l.2 w=true/\ld l.1=z:=λz=>by
  rw[Bm];exact⟨λ⟨l,h1,h2⟩=>⟨l,(d3 l).1 h1,h2⟩,λ⟨l,h1,h2⟩=>⟨l,(d3 l).2 h1,h2⟩⟩
 have hxc:∀z∈nD (lZ R c) w,z<(c:Int):=λz hz=>(Aj hM z hz).2;generalize nD (lZ R c) w=x at *
 have hgz:∀z:Int,z<(c:Int)->bit z (x++[(c:Int)])=bit z x:=λz hz=>by
  unfold bit;by_cases h:z∈x
  ·rw[if_pos h,if_pos (dZ.2 (.inl h))]
  ·rw [if_neg h,if_neg fun q=>by
     rcases dZ.1 q with q|q
     ·exact h q
     ·have:=bT.1 q;omega]
 have hgc:bit (c:Int) (x++[(c:Int)])=1:=cS.2 (dZ.2 (.inr (bT.2 rfl)));have hwi:(na R c w).getD i default∈na R c w:=az (by unfold na;simpa using hi);have hsp:=(e2 _).2 (dC hwi);rw[hsy,Bs hi] at hsp
 have hz:=q8 (g:=λz=>bit z (x++[(c:Int)])) hsp λd hd=>by
  obtain⟨l,hl,rfl⟩:=bu.1 hd;have hl:=(d3 l).1 hl;have hla:=hM.asc l hl;have hne:=hM.ne l hl;have hsame:∀l'∈(stE R R.length).1,ld l'.1∈l.1->l=l':=λl' hl' h=>hM.own l' hl' l hl h;have hlc:=hlv l hl
  have hld:cm (λz=>bit z (x++[(c:Int)])) l.1=bit (ld l.1) x:=by
   have hldm:=dy hne;cases hq:l.1 with
   |nil=>exact absurd hq hne
   |cons z t=>
    rw[hq] at hldm hsame hlc hla;have hz:ld (z::t)=z:=rfl;rw[hz];show bit z (x++[(c:Int)])+cm _ t=_;rw[hgz z (hlc z cW).2,oD (a:=t) λu hu=>?_]
    ·omega
    ·have huc:=hlc u (dS _ hu);rw[hgz u huc.2];unfold bit;rw[if_neg λhux=>?_];obtain⟨l',h1,_,h3⟩:=(hxm u).1 hux;have h4:=hsame l' h1 (by rw[h3];exact dS _ hu);have h5:=(iz.1 hla.1).1 u hu;rw[<-h4,hq] at h3;have:ld (z::t)=z:=rfl;omega
  have hbx:bit (ld l.1) x=if pd w l.2=true then 1 else 0:=by
   rw[<-Cp hla.2 hw];unfold bit;by_cases h:kY l.2 w=true
   ·rw[if_pos ((hxm _).2 ⟨l,hl,h,rfl⟩),if_pos h]
   ·rw[if_neg λq=>?_,if_neg h];obtain⟨l',h1,h2,h3⟩:=(hxm _).1 q;have:=hsame l' h1 (by rw[h3];exact dy hne);rw[this] at h;exact h h2
  unfold wdL;by_cases h:pd w l.2=true
  ·rw[if_pos h,nY,hld,hbx,if_pos h];show(1+(bit (c:Int) (x++[(c:Int)])+0))%2=0;rw[hgc]
  ·rw[if_neg h,hld,hbx,if_neg h]
 have hri:=hv _ (az hi);have hcg:cm (λz=>bit z (x++[(c:Int)])) (R.getD i default)=cm (λz=>bit z x) (R.getD i default):=fi λz hz=>hgz z (hri z hz).2;unfold wdR at hz;by_cases h:(i:Int)∈w
 ·rw[if_pos h,nY,hcg] at hz;have hz:(cm (λz=>bit z x) (R.getD i default)+(bit (c:Int) (x++[(c:Int)])+0))%2=0:=hz;rw[hgc] at hz;unfold bit at hz |-;rw[if_pos h];omega
 ·rw[if_neg h,hcg] at hz;unfold bit at hz |-;rw[if_neg h];exact hz
theorem DU{n:Nat}{x:List Int}(ha:bo x)(hr:∀z∈x,0<=z/\z<(n:Int)):u4 n x=0:=by
 unfold u4;refine dU λk hk=>?_;rw[uL];have h1:=hr _ (az hk);rw[if_neg (by omega),if_neg];rintro⟨h0,h2⟩;have h3:=my.1 ha (k-1) k (by omega) hk (by omega);have e1:x.getD k default=x[k]:=by simp[List.getD,hk]
 have e2:x.getD (k-1) default=x[k-1]:=by simp[List.getD,show k-1<x.length by omega]
 omega
def cyT(c:List Spx)(d:Nat):List (List Spx):=(bsT (bdE c d) (bdN c d) (bsK c d) (bsK c d).length).map (eX (an c ((d:Int)+1)))
theorem HB{H:Hp}{s:AV}{l:List (List Spx)}(h:Row H 1 s (l.map ak)):Snap H s (gX l):=h.snapL' (λ_=>rfl) (λx _=>bJ x)
theorem HS{H:Hp}{b n j:Nat}{l:List Int}(hb:H b=some (l.map (AV.int .i64)))(hn:l.length=n)(hj:j<=n):Snap H (.msl b n 1 0 j) (aH (l.take j)):=by
 refine jr hb (by simp[hn]) (by omega) (by simp[hn,hj]) (λy hy=>by simp only[bu] at hy;obtain⟨n,_,rfl⟩:=hy;rfl) (λi a c ha hc=>?_);rw[cE] at ha;rw[lf,iQ] at hc;rw[lf] at ha;split at hc
 ·rw[ha] at hc;cases hc;obtain⟨z,_,rfl⟩:=Option.map_eq_some_iff.1 ha;exact .int _ _
 ·cases hc
def Gn(l:List Int)(k:Int):Bool:=match l with
 |[]=>false
 |x::r=>!((((x-1)::r).take (min (k+1) ((r.length+1:Nat):Int)).toNat).any λn=>decide (n≠0))
theorem J6{c:List Spx}{m:Nat}:(btL c m).length=m:=by unfold btL;simp
theorem Lw{c:List Spx}{m:Nat}(hc:ay c=0)(hl:c.length<=50):∀x∈btL c m,-7000<=x/\x<=7000:=λx hx=>by
 unfold btL at hx;obtain⟨d,_,rfl⟩:=bu.1 hx;unfold btF;have h1:=de hc hl (d:=(d:Int)+1);have h2:=de hc hl (d:=((d+1:Nat):Int)+1);have h3:=oa (c:=c) (d:=d);have h4:=oa (c:=c) (d:=d+1);omega
theorem La{α:Type}[BEq α][LawfulBEq α]{K:α->α->Int}(hK:LinK K){L:List α}(hL:bM K L){x y:α}(hx:x∈L)(hy:y∈L)(h:K x y<0):L.idxOf x<L.idxOf y:=by
 have i1:=qU.2 hx;have i2:=qU.2 hy;have g1:L[L.idxOf x]=x:=List.getElem_idxOf i1;have g2:L[L.idxOf y]=y:=List.getElem_idxOf i2;rcases uQ (L.idxOf x) (L.idxOf y) with q|q|q
 ·exact q
 ·have:x=y:=by
    rw[<-g1,<-g2];congr 1
  rw[this] at h;exact absurd h (hK.ord.irr y)
 ·have:=my.1 hL _ _ i2 i1 q;rw[g1,g2] at this;exact absurd h (hK.ord.asym _ _ this)
theorem Ik{L a:List Spx}(hL:bM bK L)(ha:bM bK a)(h:∀s∈a,s∈L):(vT L a).Pairwise (· < ·):=by
 unfold vT;rw[List.pairwise_map];exact ha.imp_of_mem λ{x y} hx hy hxy=>La jc hL (h x hx) (h y hy) hxy
theorem lW{c a:List Spx}{v:List Int}(h:jI c a=(v,0)):ay c=0/\ll a=0/\v=cq (vT (an c (ft a)) a)/\(∀s∈a,s∈an c (ft a))/\bo v/\∀z∈v,0<=z/\z<((an c (ft a)).length:Int):=by
 unfold jI at h;split at h
 ·rename_i q;exact absurd (congrArg Prod.snd h) q
 rename_i q1;split at h
 ·rename_i q;exact absurd (congrArg Prod.snd h) q
 rename_i q2;have e1:ay c=0:=by simpa using q1
 have e2:ll a=0:=by simpa using q2
 split at h
 ·rename_i q;subst q;cases h;exact⟨e1,e2,rfl,λs hs=>(by cases hs),lS,λz hz=>(by cases hz)⟩
 split at h
 rotate_left
 ·cases h
 rename_i q3 q4;cases h;have hm:∀s∈a,s∈an c (ft a):=λs hs=>nf (eA.1 q4 s hs);refine⟨e1,e2,rfl,hm,fH (Ik eZ (pW e2).2.2.1 hm),λz hz=>?_⟩;obtain⟨i,hi,rfl⟩:=kE.1 hz;unfold vT at hi;obtain⟨s,hs,rfl⟩:=bu.1 hi;have:=qU.2 (hm s hs);omega
section
attribute [local irreducible] aM am bn aZ aS aV aD aX ba bw Go.Abs.Fn aY Go.Abs.Pure aq aO Yl
theorem EV(c:List Spx)(d:Nat)(hso:su (bdN c d+1))(hc:ay c=0)(hl:c.length<=50)(hd:d<=7)(hn:bdN c d<=1000):pU 18 [b7 c,.int .i64 d] (.tup [gX (cyT c d),.int .i64 0]):=by
 refine pO QU ?_;simp only[b18,aK];have hch:=pS c hc hl;obtain⟨mK,lK⟩:=CV (d:=d) hc hl
 have hchn:∀v∈bsK c d,pU 34 [b7 c,.int .i64 d,aH v] (.tup [ak (eX (an c ((d:Int)+1)) v),.int .i64 0]):=λv hv=>by
  have:=yY c d v hl (mU hc) (by have:=(mK.2.2.2 v hv).2.1;omega);have hz:u4 (an c ((d:Int)+1)).length v=0:=DU (gN mK v hv) (rh mK v hv)
  have e:Cl c d v=(eX (an c ((d:Int)+1)) v,0):=by
   unfold Cl;rw[if_neg (λq=>q hc),if_neg (by omega),if_neg (λq=>q hz)]
  rw[e] at this;exact this
 unfold cyT;generalize an c ((d:Int)+1)=X at *;have z0:decide ((0:Int)≠0)=false:=rfl;have z1:decide ((d:Int)<0)=false:=bh (by omega);have z2:decide ((8:Int)<=d)=false:=bh (by omega);refine wnY (zI5 @z0 @z1 @z2 @ai @af) ?_;refine aU ev0 ev0 (Jc c d _ _) ?_;rintro _ H1 nx1 ⟨rfl,rfl,rfl⟩;refine wnY and_self ?_;refine oZ 7 8 rfl rfl ev0 (λc0 cj hy=>?_);refine Abs.Fn.mono (I4 (nx:=8) (cb:=5) (db:=6) c d hso hc hl hd hn _ (I:=λF D H' nx'=>8<=nx'/\H' 0=some [ak c]/\H' 1=some [.int .i64 d]/\H' 2=some [.esl]/\H' 3=some [.int .i64 0]/\H' 7=some [c0]/\(∀x∈F,8<=x/\x<nx')/\∃sv,H' 4=some [sv]/\Row H' 1 sv ((D.map (eX X)).map ak)/\∀b',cf sv=some b'->8<=b'/\b'<nx'/\b'∉F) ?_ ?_ (by omega) (by omega) ?_ ?_ ?_) ?_
 ·rfl
 ·rfl
 ·rintro F F' D H nx H' nx' ⟨h1,h2,h3,h4,h5,h6,h7,sv,h8,h9,h10⟩ hle hs hF;have lo:∀x,x<8->H' x=H x:=λx hx=>hs x (by omega) λe=>by have:=h7 x e;omega
  refine⟨by omega,(lo 0 (by omega)).trans h2,(lo 1 (by omega)).trans h3,(lo 2 (by omega)).trans h4,(lo 3 (by omega)).trans h5,(lo 7 (by omega)).trans h6,λx hx=>?_,sv,(lo 4 (by omega)).trans h8,h9.same λb hb=>?_,λb hb=>?_⟩
  ·rcases hF x hx with h|h
   ·have:=h7 x h;omega
   ·omega
  ·obtain⟨p1,p2,p3⟩:=h10 b hb;exact hs b p2 p3
  ·obtain⟨p1,p2,p3⟩:=h10 b hb;refine⟨p1,by omega,λe=>?_⟩;rcases hF b e with h|h
   ·exact p3 h
   ·omega
 ·rintro F D v H' nx' ⟨h1,h2,h3,h4,h5,h6,h7,sv,h8,h9,h10⟩ hv hDl;refine hy _ _ _ _ h6 rfl ?_;clear hy;refine wnZ and_self ?_;refine⟨h6,?_⟩;have hdo:∀x,x≠7->c9 H' 7 x=H' x:=λx b=>cK b;have hcv:=hchn v hv;rw[vV] at hcv;have dcx:Dat (.agg [ak c]):=bI c;generalize hH1:c9 H' 7=H1 at *;have g2:=(hdo 0 (by omega)).trans h2;have g3:=(hdo 1 (by omega)).trans h3;have g4:=(hdo 4 (by omega)).trans h8;generalize hpv:eX X v=pv at *;refine wnY (zI6 @g2 @g3 @g4 @z0 @ai @af) ?_;refine mY rfl ev0 (h9.same λb' hb'=>?_) ev0 jh rfl rfl ng (by rw[bt,bt];omega) (by rw[bt,bt];omega) ?_
  ·have:=h10 b' hb';rw[ab (by omega)];exact hdo _ (by omega)
  rintro sv' H3 nx3 r1 r2 r3 r4 r5;have zs:∀x,x<8->cf sv≠some x:=λx hx e=>by have:=h10 x e;omega
  have z:∀x,x<nx'->x≠7->cf sv≠some x->H3 x=H' x:=λx a1 a2 a3=>(r4 x (by omega) a3).trans (by rw[ab (by omega)];exact hdo x a2);have k4:H3 4=some [sv]:=(z 4 (by omega) (by omega) (zs _ (by omega))).trans h8;obtain⟨q1,q2⟩:=r1.one;refine wnY (zI3 @k4 @q1 @q2) ?_;have w:∀x,x≠4->x≠7->ao (ao H3 4 [sv']) 7 [c0] x=H3 x:=λx a1 a2=>by rw[ab a2,ab a1]
  have u8:∀b',cf sv'=some b'->8<=b'/\b'<nx3/\b'∉F:=λb' hb'=>by
   rcases r5 b' hb' with e|⟨e1,e2⟩
   ·obtain⟨p1,p2,p3⟩:=h10 b' e;exact⟨p1,by omega,p3⟩
   ·exact⟨by omega,by omega,λe=>by have:=h7 b' e;omega⟩
  refine⟨rfl,by omega,λx hx=>?_,by omega,(w 0 (by omega) (by omega)).trans ((z 0 (by omega) (by omega) (zs _ (by omega))).trans h2),(w 1 (by omega) (by omega)).trans ((z 1 (by omega) (by omega) (zs _ (by omega))).trans h3),(w 2 (by omega) (by omega)).trans ((z 2 (by omega) (by omega) (zs _ (by omega))).trans h4),(w 3 (by omega) (by omega)).trans ((z 3 (by omega) (by omega) (zs _ (by omega))).trans h5),ae,λx hx=>?_,sv',?_,?_,u8⟩
  ·have:=h7 x hx;refine(w x (by omega) (by omega)).trans ?_;exact z x (by omega) (by omega) λe=>(h10 x e).2.2 hx
  ·have:=h7 x hx;omega
  ·exact(ab (by omega)).trans ae
  ·rw[dr,dr,show [v].map (eX X)=[pv] by rw[<-hpv];rfl];exact r1.same λb' hb'=>w b' (by have:=u8 b' hb';omega) (by have:=u8 b' hb';omega)
 ·refine⟨aJ _,rfl,rfl,rfl,rfl,ae,λx hx=>(by cases hx),.esl,rfl,.nil,λb' hb'=>(by cases hb')⟩
 ·rintro r H' nx' ⟨F,h1,h2,h3,h4,h5,h6,h7,sv,h8,h9,h10⟩;refine .inl ⟨h6,?_⟩;obtain⟨q1,q2⟩:=h9.one;have lo:∀x,x≠7->c9 H' 7 x=H' x:=λx b=>cK b;have k1:Row (c9 H' 7) 1 sv (((bsT (bdE c d) (bdN c d) (bsK c d) (bsK c d).length).map (eX X)).map ak):=h9.same λb' hb'=>lo b' (by have:=h10 b' hb';omega);have k2:=(lo 2 (by omega)).trans h4;have k3:=(lo 3 (by omega)).trans h5;have k4:=(lo 4 (by omega)).trans h8;generalize c9 H' 7=H1 at *;refine wnY (zI5 @k2 @k3 @k4 @q1 @q2) ?_;refine bS (ag (HB (k1.same λb' hb'=>?_)) (ag (.int _ _) aj));have:=h10 b' hb';rw[ab (by omega),ab (by omega)]
theorem GW(c:List Spx)(m:Nat)(hc:ay c=0)(hl:c.length<=50)(hm:fM c=m)(hm8:m<=8)(G:Hp)(n0:Nat):Abs.Fn Tryz.prog 44 [b7 c] G n0 λr H' nx'=>∃sv,r=.tup [sv,.int .i64 0]/\Row H' 1 sv ((btL c m).map (AV.int .i64))/\n0<=nx'/\(∀x,x<n0->H' x=G x)/\∀b,cf sv=some b->n0<=b/\b<nx':=by
 refine fO Np ?_;simp only[b44,aK];have hdi:=qx c hc hl;rw[hm] at hdi;have z0:decide ((0:Int)≠0)=false:=rfl;have hed:=λd(h:d<=8)=>oI c d hc hl h;have hsz:=λd(h:d<=8)=>tR c d hc hl h;have hrl:=λd:Int=>de hc hl (d:=d);have hrk:=λd:Nat=>C9 (an c ((d:Int)+1)).length (bZ (an c ((d:Int)+1)) (an c d)) (oX (by have:=hrl ((d:Int)+1);omega) (by have:=hrl d;omega));have hrf:=λd:Nat=>oa (c:=c) (d:=d);refine wnY (zI3 @z0 @ai @af) ?_;refine sy ?_;refine wnY and_self ?_;refine lpI (X:=Nat) (λk=>[(1,.ptr n0 1 0),(4,.int .i64 ((m:Int)-1)),(7,.mp (n0+1)),(26,.int .i64 ((m:Int)-1+2)),(27,.int .i64 k)]) (λk H nx=>k<=m+1/\n0+2<=nx/\H n0=some [ak c]/\H (n0+1)=some [.omap ((rkK k).map (AV.int .i64)) (rkV c k)]/\∀x,x<n0->H x=G x) (λk=>m+1-k) 0 ⟨bW _,aJ _,(ab (by omega)).trans ae,ae,λx hx=>by rw[ab (by omega),ab (by omega)]⟩ ?_;rintro k H nx ⟨g1,g2,g3,g4,gl⟩;by_cases hk:k<m+1
 ·have hed1:=hed k (by omega);have hrk1:=hrk k;have hr1:=hrl ((k:Int)+1);have hd1:Dat (eB (an c ((k:Int)+1)).length (bZ (an c ((k:Int)+1)) (an c k))):=dP _ _;change pU 97 _ (.tup [.int .i64 (rkF c k),.int .i64 0]) at hrk1;rw[dR] at hed1 hrk1 hd1;generalize bZ (an c ((k:Int)+1)) (an c k)=R at *;generalize (an c ((k:Int)+1)).length=n at *;have z1:decide ((k:Int)<(m:Int)-1+2)=true:=bd (by omega);refine wnY (zI5 @g3 @z0 @z1 @ai @af) ?_;have hmf:=jD (k:Int) (rkK k);rw[if_neg (λq=>by have:=ms.1 q;omega)] at hmf;refine nw ev0 ((ab (by omega)).trans ((ab (by omega)).trans g4)) ev0 ev0 rfl hmf ?_;refine wnY @z0 ?_;refine⟨k+1,by omega,⟨by omega,by omega,by rw[ab (by omega),ab (by omega),ab (by omega)];exact g3,?_,λx hx=>by rw[ab (by omega),ab (by omega),ab (by omega)];exact gl x hx⟩,ag0⟩;rw[ae,zT,BD,dr];rfl
 obtain rfl:k=m+1:=by omega
 have z1:decide (((m+1:Nat):Int)<(m:Int)-1+2)=false:=bh (by omega);refine wnY @z1 ?_;refine lpI (X:=AV×Nat) (λx=>[(1,.ptr n0 1 0),(7,.mp (n0+1)),(11,x.1),(51,.int .i64 ((m:Int)-1+1)),(52,.int .i64 x.2)]) (λx H nx=>x.2<=m/\n0+2<=nx/\H n0=some [ak c]/\H (n0+1)=some [.omap ((rkK (m+1)).map (AV.int .i64)) (rkV c (m+1))]/\Row H 1 x.1 ((btL c x.2).map (AV.int .i64))/\(∀b,cf x.1=some b->n0+2<=b/\b<nx)/\∀x,x<n0->H x=G x) (λx=>m-x.2) (.esl,0) ⟨bW _,g2,g3,g4,Row.nil,λb h=>(by cases h),gl⟩ ?_;clear g1 g2 g3 g4 gl;rintro⟨sv,k⟩ H nx ⟨g1,g2,g3,g4,g5,g6,gl⟩;dsimp only at g1 g2 g3 g4 g5 g6 gl |-;by_cases hk:k<m
 rotate_left
 ·obtain rfl:k=m:=by omega
  have z1:decide ((k:Int)<(k:Int)-1+1)=false:=bh (by omega);refine wnY @z1 ?_;exact⟨sv,rfl,g5,by omega,gl,λb hb=>by have:=g6 b hb;omega⟩
 have hsz1:=hsz k (by omega);have hr1:=hrl ((k:Int)+1);have hr2:=hrl (((k+1:Nat):Int)+1);have hf1:=hrf k;have hf2:=hrf (k+1);have hmf1:=jD (k:Int) (rkK (m+1));rw[if_pos (ms.2 (by omega)),tP (by omega)] at hmf1;have hmf2:=jD ((k+1:Nat):Int) (rkK (m+1));rw[if_pos (ms.2 (by omega)),tP (by omega)] at hmf2;rw[show((k+1:Nat):Int)=(k:Int)+1 by omega] at hmf2;have hv1:Go.Abs.mget (.int .i64 0) false (some k) (rkV c (m+1))=.int .i64 (rkF c k):=tG (by omega);have hv2:Go.Abs.mget (.int .i64 0) false (some (k+1)) (rkV c (m+1))=.int .i64 (rkF c (k+1)):=tG (by omega);have hsn:=BU (c:=c) (n:=k);have hbl:(btL c k).length=k:=by unfold btL;simp
 have hbf:btF c k=((an c ((k:Int)+1)).length:Int)-(rkF c k:Int)-(rkF c (k+1):Int):=rfl;rw[hbf] at hsn;generalize rkF c k=f1 at *;generalize rkF c (k+1)=f2 at *;generalize (an c ((k:Int)+1)).length=n at *;generalize (an c (((k+1:Nat):Int)+1)).length=n2 at *;have z1:decide ((k:Int)<(m:Int)-1+1)=true:=bd (by omega);refine wnY (zI5 @g3 @z0 @z1 @ai @af) ?_;refine fh ev0 g4 ev0 rfl hmf1 ?_;rw[hv1];refine wnY and_self ?_;refine fh ev0 g4 ev0 rfl hmf2 ?_;rw[hv2];refine wnY and_self ?_;refine eR (g5.same λb hb=>?_) ?_
 ·have:=g6 b hb;rw[ab (by omega)]
 rintro s2 H2 nx2 hr3 i1 i2 i3 i4;have hdo:∀b,b<n0+2->cf sv≠some b:=λb hb e=>by have:=g6 b e;omega
 have lo2:∀b,b<n0+2->H2 b=H b:=λb hb=>(i3 b (by omega) (hdo b hb)).trans (by rw[ab (by omega)]);refine wnY and_self ?_;refine⟨(s2,k+1),by dsimp only;omega,⟨by dsimp only;omega,by omega,(lo2 n0 (by omega)).trans g3,(lo2 (n0+1) (by omega)).trans g4,?_,λb hb=>?_,λx hx=>(lo2 x (by omega)).trans (gl x hx)⟩,ag0⟩
 ·dsimp only;rw[hsn,dr];exact hr3
 ·rcases i4 b hb with h|h
  ·have:=g6 b h;omega
  ·omega
theorem Mc(n:Int):pU 49 [.int .i64 n] (.bool (decide (n≠0))):=by
 refine pO QK ?_;simp only[b49,aK]
 repeat' (first|refine zW ?_|apply a_n|refine zO ?_|refine vZ ?_|refine bC rfl ?_|refine r1Z ?_|fail)
 exact .bool _
theorem jV(c:List Spx)(m:Nat)(k:Int)(hc:ay c=0)(hl:c.length<=50)(hm:fM c=m)(hm8:m<=8)(hk:-1<=k/\k<8):pU 15 [b7 c,.int .i64 k] (.tup [.bool (Gn (btL c m) k),.int .i64 0]):=by
 refine pO Qk ?_;simp only[b15,aK];have hch:=pS c hc hl;have hbt:=λG n0=>GW c m hc hl hm hm8 G n0;have hlen:=J6 (c:=c) (m:=m);have hbd:=Lw (m:=m) hc hl;have z0:decide ((0:Int)≠0)=false:=rfl;have z1:decide (k<(-1:Int))=false:=bh (by omega);have z2:decide ((8:Int)<=k)=false:=bh (by omega);generalize btL c m=l at *;have zz:=aI @z0 (aI @z1 (aI @z2 (aI @ai @af)));repeat' (first|refine zW ?_|apply a_n|refine zO ?_|refine vY ?_|refine cY ?_ (hp:=hch) (hs:=by(first|refine aB ?_ rfl|apply aL);(repeat' (first|exact aj|apply bk|apply aN|exact bI _));first|done|fail)|refine bxY ?_|refine gTY ?_|refine cFY ?_|fail)
 rw[vV] at hbt;refine aU ev0 ev0 (hbt _ _) ?_;rintro _ H1 nx1 ⟨sv,rfl,hrow,h1,h2,h3⟩;have hls:=hrow.lenS (n:=l.length) (by rw[bt,Nat.mul_one]) ng;cases l with
 |nil=>
  have zn:decide ((0:Int)=0)=true:=rfl;have hls0:dH sv=some (.int .i64 0):=hls;clear zz;have zz:=aI @z0 (aI @hls0 @zn);repeat' (first|refine zW ?_|apply a_n|apply a_r|refine zO ?_|refine vY ?_|refine gTY ?_|(refine zGY ?_ ?_<;>(intro _hg;try (exfalso;omega)))|refine bC rfl ?_|refine r2Y ?_|fail)
  exact bS (ag (.bool _) (ag (.int _ _) aj))
 |cons x r=>
  have zn:decide ((((r.length+1:Nat):Nat):Int)=0)=false:=bh (by omega);obtain⟨B,rfl,hB⟩:=BG hrow (by simp);have hx:=hbd x (cW ..);have hB1:H1 B=some (.int .i64 x::r.map (AV.int .i64)):=hB;have hN:(x::r).length=r.length+1:=rfl;rw[hN] at hls h3 |-;clear zz;have zz:=aI @z0 (aI @hls @zn);repeat' (first|refine zW ?_|apply a_n|refine zO ?_|refine vY ?_|refine gTY ?_|refine cFY ?_|fail)
  have hlc:(AV.int .i64 x::r.map (AV.int .i64)).length=r.length+1:=by simp
  clear zz;have zz:=aI @hB1 (aI @hlc (aI @Int.toNat_zero @wt));repeat' (first|refine zW ?_|apply a_n|refine zO ?_|refine vY ?_|refine stY ?_|fail)
  have hcj:Gn (x::r) k=!((((x-1)::r).take (min (k+1) ((r.length+1:Nat):Int)).toNat).any λn=>decide (n≠0)):=rfl;obtain⟨j,hj,hjl⟩:∃j:Nat,min (k+1) ((r.length+1:Nat):Int)=j/\j<=r.length+1:=⟨(min (k+1) ((r.length+1:Nat):Int)).toNat,by omega,by omega⟩
  rw[hj,cC] at hcj;rw[hcj,hj]
  have hsl:jC 1 (.msl B (r.length+1) 1 0 (r.length+1)) none (some (.int .i64 j)) none=some (.msl B (r.length+1) 1 0 j):=by
   simp[jC,bV];omega
  clear zz;have zz:=@hsl;repeat' (first|apply a_n|refine zO ?_|refine vY ?_|fail)
  refine ey ev0 ev0 (qZ (((x-1)::r).take j) (λn=>decide (n≠0)) 49 [] (λx h=>(by cases h)) (λx _=>Mc x) (show _<=_ by rw[fY];simp;omega)) (aB (ag (HS (l:=(x-1)::r) (n:=r.length+1) ae rfl hjl) (ag (xI aj) aj)) rfl) ?_
  repeat' (first|apply a_n|refine zO ?_|refine vY ?_|refine bC rfl ?_|refine r2Y ?_|fail)
  exact bS (ag (.bool _) (ag (.int _ _) aj))
theorem GV(c:List Spx)(hc:ay c≠0)(hl:c.length<=50)(hs:∀s∈c,Shn s):pU 37 [b7 c] (.tup [.int .i64 0,.int .i64 (ay c)]):=by
 refine pO NL ?_;simp only[b37,aK];have hcc:=gM c (show _<=_ by omega) hs;generalize ay c=e at *;have z0:decide (e≠(0:Int))=true:=bd hc;refine wnY (zI3 @z0 @ai @af) ?_;exact bS (ag (.int _ _) (ag (.int _ _) aj))
theorem uT(c:List Spx)(hl:c.length<=50)(hs:∀s∈c,Shn s):pU 43 [b7 c] (.int .i64 (ay c)):=by
 by_cases hc:ay c=0
 ·rw[hc];exact pS c hc hl
 refine pO Lu ?_;simp only[b43,aK];have he:=GV c hc hl hs;refine wnY (aI @ai @af) ?_;exact .int _ _
def kB(c a b:List Spx):List Int×List Int×Int:=if (jI c a).2≠0 then([],[],(jI c a).2) else((jI c a).1,(jI c b).1,(jI c b).2)
theorem DH(c a b:List Spx)(hl:c.length<=50)(hs:∀s∈c,Shn s)(ha:ShC a)(hb:ShC b):pU 67 [b7 c,ak a,ak b] (.tup [aH (kB c a b).1,aH (kB c a b).2.1,.int .i64 (kB c a b).2.2]):=by
 refine pO QR ?_;simp only[b67,aK];have hch:=uT c hl hs;have h1:=Cr c a hl hs ha;have h2:=Cr c b hl hs hb;have hce:ay c≠0->jI c a=([],ay c):=λh=>by unfold jI;rw[if_pos h]
 unfold kB;generalize jI c a=va at *;generalize jI c b=vb at *;obtain⟨v,e⟩:=va;obtain⟨w,f⟩:=vb;dsimp only at *;by_cases hc:ay c=0
 ·have z0:decide (ay c≠(0:Int))=false:=bh (λq=>q hc);by_cases he:e=0
  ·subst he;have z1:decide ((0:Int)≠0)=false:=rfl;rw[if_neg (λq=>q rfl)];refine wnY (zI4 @z0 @z1 @ai @af) ?_;exact bS (ag (dz v).snap (ag (dz w).snap (ag (.int _ _) aj)))
  ·have z1:decide (e≠(0:Int))=true:=bd he;rw[if_pos he];refine wnY (zI4 @z0 @z1 @ai @af) ?_;exact bS (ag (.eslsl 1) (ag (.eslsl 1) (ag (.int _ _) aj)))
 ·have z0:decide (ay c≠(0:Int))=true:=bd hc;cases hce hc;rw[if_pos hc];refine wnY (zI3 @z0 @ai @af) ?_;exact bS (ag (.eslsl 1) (ag (.eslsl 1) (ag (.int _ _) aj)))
def cyH(c a:List Spx):List Int×Int:=if (jI c a).2≠0 then([],(jI c a).2) else if dA a=[] then((jI c a).1,0) else([],3)
theorem GZ(c a:List Spx)(hl:c.length<=50)(hs:∀s∈c,Shn s)(ha:ShC a):pU 57 [b7 c,ak a] (.tup [aH (cyH c a).1,.int .i64 (cyH c a).2]):=by
 refine pO QJ ?_;simp only[b57,aK];have h1:=Cr c a hl hs ha;have h2:=MX a ha;have hvf:=λv=>lW (c:=c) (a:=a) (v:=v);unfold cyH;unfold Kl at h2;generalize jI c a=va at *;obtain⟨v,e⟩:=va;dsimp only at *;by_cases he:e=0
 ·subst he;obtain⟨e1,e2,-⟩:=hvf v rfl;rw[if_neg (λq=>q e2)] at h2;dsimp only at h2;have z1:decide ((0:Int)≠0)=false:=rfl;have z2:decide ((0:Int)=0)=true:=rfl;rw[if_neg (λq=>q rfl)];by_cases hz:dA a=[]
  ·rw[bd hz] at h2;rw[if_pos hz];refine wnY (zI4 @z1 @z2 @ai @af) ?_;exact li (dz _).snap rfl
  ·rw[bh hz] at h2;rw[if_neg hz];refine wnY (zI4 @z1 @z2 @ai @af) ?_;exact li (.eslsl 1) rfl
 ·have z1:decide (e≠(0:Int))=true:=bd he;rw[if_pos he];refine wnY (zI3 @z1 @ai @af) ?_;exact li (.eslsl 1) rfl
end
def DR(c a b:List Spx):Int:=if (kB c a b).2.2≠0 then(kB c a b).2.2 else if a≠[]/\b≠[]/\ft b≠ft a+1 then 15 else if (oq b).2≠0 then(oq b).2 else if (oq b).1=a then 0 else 18
theorem we{c a b:List Spx}(h:(kB c a b).2.2=0):∃v w,jI c a=(v,0)/\jI c b=(w,0)/\kB c a b=(v,w,0):=by
 unfold kB at h |-;generalize jI c a=va at *;generalize jI c b=vb at *;obtain⟨v,e⟩:=va;obtain⟨w,f⟩:=vb;dsimp only at *;by_cases he:e=0
 ·subst he;rw[if_neg (λq=>q rfl)] at h |-;dsimp only at h;subst h;exact⟨v,w,rfl,rfl,rfl⟩
 ·rw[if_pos he] at h;exact absurd h he
theorem J3{b:List Spx}(h:ll b=0)(hl:¬4096<(dA b).length):ShC (dA b):=by
 refine⟨show _<=_ by omega,λs hs=>?_⟩;have:=(bQ (xm (pW h).2.1 s hs)).2.1;show _<=_;omega
theorem FU{R:List (List Int)}{c:Nat}{w:List Int}(hm:jp c R)(hw:bo w):
    (∃x,wQ R c w=(x,[],true)/\x=nD (lZ R c) w/\bo x/\(∀z∈x,0<=z/\z<(c:Int))/\(∀y∈(stE R R.length).2,pd w y=false)/\∀i,i<R.length->cm (λz=>bit z x) (R.getD i default)%2=bit (i:Int) w)\/
    ∃y,wQ R c w=([],y,false)/\y∈(stE R R.length).2/\bo y/\(∀z∈y,0<=z/\z<(R.length:Int))/\pd w y=true:=by
 have hR:=gN hm;have hv:=rh hm;have hok:=fJ hR (aJ R.length);have hdep:∀y∈(stE R R.length).2,bo y/\∀z∈y,0<=z/\z<(R.length:Int):=λy hy=>⟨(hok.dep y hy).1.2,(hok.dep y hy).2.2⟩
 unfold wQ;cases hs:Km (stE R R.length).2 w with
 |none=>
  left
  have h0:∀y∈(stE R R.length).2,pd w y=false:=λy hy=>by
   have:=List.find?_eq_none.1 hs y hy;rw[Cp (hdep y hy).1 hw] at this;simpa using this
  refine⟨_,rfl,rfl,Ht hok.red,Aj hok.red,h0,λi hi=>Gd hR hv hw h0 hi⟩
 |some y=>
  right;have hy:=List.mem_of_find?_eq_some hs;have ho:=List.find?_some (p:=λy=>kY y w) hs;rw[Cp (hdep y hy).1 hw] at ho;exact⟨y,rfl,hy,(hdep y hy).1,(hdep y hy).2,ho⟩
def Cs(c a:List Spx):List Spx×List Spx×Bool×Int:=if (cyH c a).2≠0 then([],[],false,(cyH c a).2) else if a=[] then([],[],true,0) else
 if (wQ (bZ (an c ((ft a:Int)+1)) (an c (ft a))) (an c ((ft a:Int)+1)).length (cyH c a).1).2.2=true then(eX (an c ((ft a:Int)+1)) (wQ (bZ (an c ((ft a:Int)+1)) (an c (ft a))) (an c ((ft a:Int)+1)).length (cyH c a).1).1,[],true,0)
 else([],eX (an c (ft a)) (wQ (bZ (an c ((ft a:Int)+1)) (an c (ft a))) (an c ((ft a:Int)+1)).length (cyH c a).1).2.1,false,0)
theorem ED{c a:List Spx}(h:(cyH c a).2=0):∃v,jI c a=(v,0)/\cyH c a=(v,0)/\dA a=[]:=by
 unfold cyH at h |-;generalize jI c a=va at *;obtain⟨v,e⟩:=va;dsimp only at *;by_cases he:e=0
 ·subst he;rw[if_neg (λq=>q rfl)] at h |-;by_cases hz:dA a=[]
  ·rw[if_pos hz];exact⟨v,rfl,rfl,hz⟩
  ·rw[if_neg hz] at h;cases h
 ·rw[if_pos he] at h;exact absurd h he
theorem Hc{c:List Spx}{d:Nat}{v:List Int}(hc:ay c=0)(hd:d<=7)(ha:bo v)(hv:∀z∈v,0<=z/\z<((an c ((d:Int)+1)).length:Int)):Cl c d v=(eX (an c ((d:Int)+1)) v,0):=by
 have hz:u4 (an c ((d:Int)+1)).length v=0:=DU ha hv;unfold Cl;rw[if_neg (λq=>q hc),if_neg (by omega),if_neg (λq=>q hz)]
theorem xJ{R:List (List Int)}(hR:∀r∈R,bo r){z:Int}:∀{y acc:List Int},bo acc->(∀i∈y,0<=i/\i<(R.length:Int))->bit z (y.foldl (λa i=>bX a (R.getD i.toNat default)) acc)=(bit z acc+cm (mG R z) y)%2
 |[],acc,_,_=>by
  have:=ia (z:=z) (a:=acc);show bit z acc=(bit z acc+0)%2;omega
 |i::y,acc,ha,hy=>by
  have hi:=hy i (cW ..);have hr:bo (R.getD i.toNat default):=hR _ (az (by omega));rw[List.foldl_cons,xJ hR (dE ha hr) λj hj=>hy j (dS _ hj),dh ha hr];show _=(bit z acc+(mG R z i+cm (mG R z) y))%2;have:mG R z i=bit z (R.getD i.toNat default):=rfl;omega
theorem GL{R:List (List Int)}(hR:∀r∈R,bo r){z:Int}{y:List Int}(hy:∀i∈y,0<=i/\i<(R.length:Int)):bit z (nP R y)=cm (mG R z) y%2:=by
 unfold nP;rw[xJ hR lS hy,iE,cE]
def rC(c:List Spx):Nat->Nat
 |0=>0
 |k+1=>rC c k+2^min (c.getD k default).length 10
theorem yH{c:List Spx}:∀k,rC c k<=1024*k
 |0=>bW _
 |k+1=>by
  have ih:=yH (c:=c) k;have:2^min (c.getD k default).length 10<=2^10:=Nat.pow_le_pow_right (by omega) (by omega);unfold rC;omega
def RL(c:Nat)(rows:List (List Int)):Prop:=∀r∈rows,bo r/\∀z∈r,0<=z/\z<(c:Int)
theorem RL.len{c:Nat}{rows:List (List Int)}(h:RL c rows):∀r∈rows,r.length<=c:=λr hr=>gx (h r hr).1 (h r hr).2
theorem RL.sum {c:Nat} {a b:List Int} (h1:bo a∧∀ z ∈ a,0 ≤ z∧z < (c:Int)) (h2:bo b∧∀ z ∈ b,0 ≤ z∧z < (c:Int)):bo (bX a b)∧∀ z ∈ bX a b,0 ≤ z∧z < (c:Int):=⟨dE h1.1 h2.1,fun z hz=>by
 rcases(c6 h1.1 h2.1).1 hz with q|q
 ·exact h1.2 z q.1
 ·exact h2.2 z q.1⟩
theorem RL.elF{c:Nat}{rows:List (List Int)}(h:RL c rows){n k i:Nat}(hn:n<rows.length)(hi:i<rows.length):bo (elF rows n k i)/\∀z∈elF rows n k i,0<=z/\z<(c:Int):=by
 unfold Go.Proofs.YtekdaafnjdlenaaGreat.elF;split
 ·exact RL.sum (h _ (az hi)) (h _ (az hn))
 ·exact h _ (az hi)
theorem RL.swL{c:Nat}{rows:List (List Int)}(h:RL c rows){n k:Nat}(hn:n<rows.length)(hk:k<rows.length):RL c (swL rows n k):=λr hr=>by
 unfold Go.Proofs.YtekdaafnjdlenaaGreat.swL at hr;obtain⟨j,hj,rfl⟩:=bu.1 hr;exact h _ (az (pY hn hk (du.1 hj)))
theorem n7.one{H:Hp}{s:AV}{l:List (List Int)}(h:n7 H s l):s.one=true/\s.cells=[s]:=by
 rcases h with rfl|h
 ·exact⟨rfl,rfl⟩
 ·exact h.one
theorem n7.lenS{H:Hp}{s:AV}{l:List (List Int)}(h:n7 H s l):dH s=some (.int .i64 l.length):=by
 rcases h with rfl|h
 ·exact fv
 ·exact h.lenS (by rw[bt,Nat.mul_one]) ng
def Eh(c:List Spx)(d:Nat)(l:List (List Int)):Bool:=decide (rk (bdM c d++l) (bdN c d)=rk (bdM c d) (bdN c d)+l.length)
def onL(l:List (Nat×List AV)):Hp:=λx=>(l.find? λp=>decide (p.1=x)).map Prod.snd
theorem JQ{H:Hp}{l:List (Nat×List AV)}(h:∀p∈l,H p.1=some p.2):Sub (onL l) H:=λx cs hx=>by
 unfold onL at hx;obtain⟨p,hp,rfl⟩:=Option.map_eq_some_iff.1 hx;have h1:=List.mem_of_find?_eq_some hp;have h2:=nf (List.find?_some (p:=λp:Nat×List AV=>decide (p.1=x)) hp);rw[<-h2];exact h p h1
theorem Mi{H:Hp}{l1:List (Nat×List AV)}{l2:List (Nat×AV×AV)}(h1:∀p∈l1,H p.1=some p.2)(h2:∀q∈l2,H q.1=some [q.2.1]/\onL l1 q.1=none/\Snap (onL l1) q.2.1 q.2.2):Fz (onL l1) H (onL (l2.map λq=>(q.1,[q.2.2]))) where
 sub:=JQ h1
 to:=λa cs' h=>by
  have h0:=h;unfold onL at h;obtain⟨p,hp,rfl⟩:=Option.map_eq_some_iff.1 h;have g1:=List.mem_of_find?_eq_some hp;have g2:=nf (List.find?_some (p:=λp:Nat×List AV=>decide (p.1=a)) hp);obtain⟨q,hq,rfl⟩:=bu.1 g1;obtain⟨k1,k2,k3⟩:=h2 q hq;dsimp only at g2 |-;rw[g2] at k1 k2;refine⟨[q.2.1],k1,k2,rfl,λi u v hu hv=>?_⟩
  match i with
  |0=>simp at hu hv;subst hu;subst hv;exact .inr k3
  |i+1=>simp at hu
section
attribute [local irreducible] aM am bn aZ aS aV aD aX ba bw Go.Abs.Fn aY Go.Abs.Pure aq aO Yl
theorem xK(c a b:List Spx)(hl:c.length<=50)(hs:∀s∈c,Shn s)(ha:ShC a)(hb:ShC b):pU 25 [b7 c,ak a,ak b] (.int .i64 (DR c a b)):=by
 refine pO Qu ?_;simp only[b25,aK];have hp:=DH c a b hl hs ha hb;have hbo:=JT b hb;have hpf:=we (c:=c) (a:=a) (b:=b);have hal:=ha.1;have hbl:=hb.1;unfold DR;generalize kB c a b=p at *;obtain⟨v,w,e⟩:=p;dsimp only at *;by_cases he:e=0
 rotate_left
 ·have z0:decide (e≠(0:Int))=true:=bd he;rw[if_pos he];refine wnY (zI3 @z0 @ai @af) ?_;exact .int _ _
 subst he;obtain⟨v',w',hv,hw,hvw⟩:=hpf rfl;cases hvw;obtain⟨-,hcb,-⟩:=lW hw
 have hbt:oq b=if 4096<(dA b).length then([],5) else(dA b,0):=by
  unfold oq;rw[if_neg (λq=>q hcb)]
 have z0:decide ((0:Int)≠0)=false:=rfl;rw[if_neg (λq=>q rfl)];refine dT ?_;have zz:=aI @z0 (aI @ai @af);repeat' (first|apply a_n|refine zO ?_|refine vY ?_|refine bxY ?_|fail)
 refine dT ?_;refine dT ?_;clear zz;have zz:=aI @z0 (aI @ai @af);repeat' (first|apply a_n|refine zO ?_|refine vY ?_|refine cY ?_ (hp:=hp) (hs:=by(first|refine aB ?_ rfl|apply aL);(repeat' (first|exact aj|apply bk|apply aN|exact bI _|exact bJ _));first|done|fail)|fail)
 refine dT ?_;clear zz;have zz:=aI @z0 (aI @ai @af);repeat' (first|apply a_n|refine zO ?_|refine vY ?_|refine cFY ?_|fail)
 refine cR (λT H nx=>¬(a≠[]/\b≠[]/\ft b≠ft a+1)/\T 1=ak a/\T 2=ak b) ?_ ?_
 ·by_cases h1:a=[]
  ·have z1:decide ((0:Int)<a.length)=false:=by rw[h1];rfl
   refine wnY (aI @z1 @ah) ?_;exact⟨λq=>q.1 h1,rfl,rfl⟩
  have z1:decide ((0:Int)<a.length)=true:=bd (by have:=iM.2 h1;omega);by_cases h2:b=[]
  ·have z2:decide ((0:Int)<b.length)=false:=by rw[h2];rfl
   refine wnY (zI3 @z1 @z2 @ah) ?_;exact⟨λq=>q.2.1 h2,rfl,rfl⟩
  have z2:decide ((0:Int)<b.length)=true:=bd (by have:=iM.2 h2;omega);have ix:=BM h1;have iy:=BM h2;have hsa:=ha.2 _ (az (iM.2 h1));have hsb:=hb.2 _ (az (iM.2 h2));unfold ft;generalize a.getD 0 default=s at *;generalize b.getD 0 default=t at *;have hsa':s.length<=17592186044416:=hsa;by_cases h3:t.length=s.length+1
  ·have z3:decide ((t.length:Int)≠(s.length:Int)+1)=false:=bh (by omega);refine wnY (zI7 @z1 @z2 @z3 @ix @iy @ah @au) ?_;exact⟨λq=>q.2.2 h3,rfl,rfl⟩
  ·have z3:decide ((t.length:Int)≠(s.length:Int)+1)=true:=bd (by omega);rw[if_pos ⟨h1,h2,h3⟩];refine wnY (zI7 @z1 @z2 @z3 @ix @iy @ah @au) ?_;exact .int _ _
 rintro T H nx ⟨h1,t1,t2⟩;rw[if_neg h1];clear zz;clear h1;by_cases h4:4096<(dA b).length
 ·rw[if_pos h4] at hbt;rw[hbt] at hbo |-;dsimp only at hbo |-;have z5:decide ((5:Int)≠0)=true:=rfl;rw[if_pos (by decide)];refine wnY (zI3 @t1 @t2 @z5) ?_;exact .int _ _
 rw[if_neg h4] at hbt;have heq:=OH (dA b) a (J3 hcb h4) ha;rw[hbt] at hbo |-;dsimp only at hbo |-;rw[if_neg (λq=>q rfl)];generalize dA b=g at *;by_cases h5:g=a
 ·rw[bd h5] at heq;rw[if_pos h5];refine wnY (zI3 @t1 @t2 @z0) ?_;exact .int _ _
 ·rw[bh h5] at heq;rw[if_neg h5];refine wnY (zI3 @t1 @t2 @z0) ?_;exact .int _ _
def rfT(c a y:List Spx):Int:=if (kB c a y).2.2≠0 then(kB c a y).2.2 else if a=[]\/y=[] then 18 else if ft a≠ft y then 15 else Md (bZ (an c ((ft a:Int)+1)) (an c (ft a))) (kB c a y).1 (kB c a y).2.1
theorem pK(c a y:List Spx)(hl:c.length<=50)(hs:∀s∈c,Shn s)(ha:ShC a)(hy:ShC y):pU 27 [b7 c,ak a,ak y] (.int .i64 (rfT c a y)):=by
 refine pO P2 ?_;simp only[b27,aK];have hp:=DH c a y hl hs ha hy;have hpf:=we (c:=c) (a:=a) (b:=y);have hal:=ha.1;have hyl:=hy.1;unfold rfT;generalize kB c a y=p at *;obtain⟨v,w,e⟩:=p;dsimp only at *;by_cases he:e=0
 rotate_left
 ·have z0:decide (e≠(0:Int))=true:=bd he;rw[if_pos he];refine wnY (zI3 @z0 @ai @af) ?_;exact .int _ _
 subst he;obtain⟨v',w',hv,hw,hvw⟩:=hpf rfl;cases hvw;obtain⟨hc,hca,-,-,va,vr⟩:=lW hv;obtain⟨-,hcy,-,-,wa,wr⟩:=lW hw;have z0:decide ((0:Int)≠0)=false:=rfl;rw[if_neg (λq=>q rfl)];by_cases h1:a=[]
 ·have z1:decide ((a.length:Int)=0)=true:=by rw[h1];rfl
  rw[if_pos (.inl h1)];refine wnY (zI5 @z0 @z1 @ai @af @ah) ?_;exact .int _ _
 have z1:decide ((a.length:Int)=0)=false:=bh (by have:=iM.2 h1;omega);by_cases h2:y=[]
 ·have z2:decide ((y.length:Int)=0)=true:=by rw[h2];rfl
  rw[if_pos (.inr h2)];refine wnY (zI6 @z0 @z1 @z2 @ai @af @ah) ?_;exact .int _ _
 have z2:decide ((y.length:Int)=0)=false:=bh (by have:=iM.2 h2;omega);rw[if_neg (λq=>q.elim h1 h2)];have ix:=BM h1;have iy:=BM h2;have hsa:=ha.2 _ (az (iM.2 h1));have hsb:=hy.2 _ (az (iM.2 h2));have h8:=(bQ ((pW hca).2.1 _ (az (iM.2 h1)))).2.1;unfold ft at *;generalize a.getD 0 default=s at *;generalize y.getD 0 default=t at *;have hsa':s.length<=17592186044416:=hsa;by_cases h3:s.length=t.length
 rotate_left
 ·have z3:decide ((s.length:Int)≠(t.length:Int))=true:=bd (by omega);rw[if_pos h3];refine wnY (lu @z0 @z1 @z2 @z3 @ix @iy @ai @af @ah @au) ?_;exact .int _ _
 have z3:decide ((s.length:Int)≠(t.length:Int))=false:=bh (by omega);rw[if_neg (λq=>q h3)];rw[<-h3] at wr;have hed:=oI c s.length hc hl h8;have hr1:=de hc hl (d:=(s.length:Int)+1);have hr2:=de hc hl (d:=(s.length:Int));have hver:=GP (an c ((s.length:Int)+1)).length (bZ (an c ((s.length:Int)+1)) (an c (s.length:Int))) v w (oX (by omega) (by omega)) (by rw[dF];exact vr) va (by rw[dF];exact wr) wa;have hd1:Dat (eB (an c ((s.length:Int)+1)).length (bZ (an c ((s.length:Int)+1)) (an c (s.length:Int)))):=dP _ _;rw[dR] at hed hver hd1;generalize bZ (an c ((s.length:Int)+1)) (an c (s.length:Int))=R at *;generalize (an c ((s.length:Int)+1)).length=n at *;refine wnY (lu @z0 @z1 @z2 @z3 @ix @iy @ai @af @ah @au) ?_;exact .int _ _
theorem Bx(c a:List Spx)(hl:c.length<=50)(hs:∀s∈c,Shn s)(ha:ShC a):pU 21 [b7 c,ak a] (.tup [ak (Cs c a).1,ak (Cs c a).2.1,.bool (Cs c a).2.2.1,.int .i64 (Cs c a).2.2.2]):=by
 refine pO P0 ?_;simp only[b21,aK];have hch:=uT c hl hs;have hcy:=GZ c a hl hs ha;have hcf:=ED (c:=c) (a:=a);have hal:=ha.1
 have hce:ay c≠0->cyH c a=([],ay c):=λh=>by
  unfold cyH jI;rw[if_pos h,if_pos h]
 unfold Cs;generalize cyH c a=p at *;obtain⟨v,e⟩:=p;dsimp only at *;have z0:decide ((0:Int)≠0)=false:=rfl;have fin0:∀{H:Hp}{f:Int},Snap H (.tup [.esl,.esl,.bool false,.int .i64 f]) (.tup [ak [],ak [],.bool false,.int .i64 f]):=bS (ag (.eslsl 1) (ag (.eslsl 1) (ag (.bool _) (ag (.int _ _) aj))));by_cases hc:ay c=0
 rotate_left
 ·cases hce hc;have z1:decide (ay c≠(0:Int))=true:=bd hc;rw[if_pos hc];refine wnY (zI3 @z1 @ai @af) ?_;exact r_4 rfl rfl rfl rfl fin0
 rw[hc] at hch;by_cases he:e=0
 rotate_left
 ·have z1:decide (e≠(0:Int))=true:=bd he;rw[if_pos he];refine wnY (zI4 @z0 @z1 @ai @af) ?_;exact r_4 rfl rfl rfl rfl fin0
 subst he;obtain⟨v',hv,hvw,hez⟩:=hcf rfl;cases hvw;rw[if_neg (λq=>q rfl)];by_cases h1:a=[]
 ·have z1:decide ((a.length:Int)=0)=true:=by rw[h1];rfl
  rw[if_pos h1];refine wnY (zI5 @z0 @z1 @ai @af @ah) ?_;refine r_4 rfl rfl rfl rfl ?_;exact bS (ag (.eslsl 1) (ag (.eslsl 1) (ag (.bool _) (ag (.int _ _) aj))))
 have z1:decide ((a.length:Int)=0)=false:=bh (by have:=iM.2 h1;omega);rw[if_neg h1];obtain⟨-,hca,hvp,-,va,vr⟩:=lW hv;have ix:=BM h1;have hsa:=(bQ ((pW hca).2.1 _ (az (iM.2 h1))))
 have hv0:v≠[]:=λe=>by
  rw[hvp] at e;cases a with
  |nil=>exact h1 rfl
  |cons x a=>cases e
 clear hvp;unfold ft at *;generalize a.getD 0 default=s at *;obtain⟨d,hd⟩:∃d,s.length=d+1:=⟨s.length-1,by omega⟩
 have hed:=oI c s.length hc hl hsa.2.1;have hr1:=de hc hl (d:=(s.length:Int)+1);have hr2:=de hc hl (d:=(s.length:Int));have hmv:=oX (X:=an c ((s.length:Int)+1)) (Y:=an c (s.length:Int)) (by omega) (by omega);have hso:=JB (an c ((s.length:Int)+1)).length (bZ (an c ((s.length:Int)+1)) (an c (s.length:Int))) v hmv (by rw[dF];exact vr) va;have hd1:Dat (eB (an c ((s.length:Int)+1)).length (bZ (an c ((s.length:Int)+1)) (an c (s.length:Int)))):=dP _ _;have hsl:(s.length:Int)-1+1=s.length:=by omega
 have hsl2:(s.length:Int)-1=(d:Int):=by omega
 rw[dR] at hed hso hd1;rcases FU (w:=v) hmv va with⟨x,q1,-,q2,q3,-,q4⟩|⟨y,q1,q2,q3,q4,-⟩
 ·have h7:s.length<=7:=by
    refine Decidable.byContradiction λhn=>?_;rw[Dk hc (by omega),A6] at q4;obtain⟨z,hz⟩:=List.exists_mem_of_ne_nil _ hv0;have hzr:=vr z hz;have:=q4 z.toNat (by rw[List.length_replicate];omega);rw[show((z.toNat:Nat):Int)=z by omega,cS.2 hz] at this;rw[show(List.replicate (an c (s.length:Int)).length ([]:List Int)).getD z.toNat default=[] by rw[wO,List.getElem?_replicate];split<;>rfl] at this;cases this
  have hcn:=yY c s.length x hl (mU hc) (by have:=gx q2 q3;omega);rw[Hc hc h7 q2 q3] at hcn;rw[q1] at hso |-;dsimp only at hso hcn |-;rw[if_pos rfl];generalize eX (an c ((s.length:Int)+1)) x=b at *;generalize bZ (an c ((s.length:Int)+1)) (an c (s.length:Int))=R at *;generalize (an c ((s.length:Int)+1)).length=n at *;refine wnY (zI8 @z0 @z1 @ix @hsl @ai @af @ah @au) ?_;refine r_4 rfl rfl rfl rfl ?_;exact bS (ag (bJ b).snap (ag (.eslsl 1) (ag (.bool _) (ag (.int _ _) aj))))
 ·rw[dF] at q4;have hss:(s.length:Int)=(d:Int)+1:=by omega
  have hcn:=yY c d y hl (mU hc) (by have:=gx q3 q4;omega);rw[Hc hc (by omega) q3 (by rw[<-hss];exact q4),<-hss] at hcn;rw[q1] at hso |-;dsimp only at hso hcn |-;rw[if_neg (by decide)];generalize eX (an c (s.length:Int)) y=b at *;generalize bZ (an c ((s.length:Int)+1)) (an c (s.length:Int))=R at *;generalize (an c ((s.length:Int)+1)).length=n at *;have hss2:(d:Int)+1=s.length:=hss.symm;refine wnY (zI9 @z0 @z1 @ix @hsl2 @hss2 @ai @af @ah @au) ?_;refine r_4 rfl rfl rfl rfl ?_;exact bS (ag (.eslsl 1) (ag (bJ b).snap (ag (.bool _) (ag (.int _ _) aj))))
theorem pE(l:List Int)(hl:l.length<=1000):PureF Tryz.prog 42 [aH l] (ar (eG l)):=by
 refine qO QQ ?_;simp only[b42,aK];refine wnY and_self ?_;refine ca (X:=AV×Nat) (λx=>[(3,x.1),(6,aH l),(7,.int .i64 l.length),(8,.int .i64 x.2)]) (λx H nx=>x.2<=l.length/\Row H 2 x.1 (cX (eG (l.take x.2)))/\∀b,cf x.1=some b->b<nx) (λx=>l.length-x.2) (.esl,0) ⟨bW _,Row.nil,λb hb=>(by cases hb)⟩ ag0 ?_;rintro⟨sv,k⟩ H nx ⟨k1,k3,k4⟩;dsimp only at k1 k3 k4 |-;by_cases hk:k<l.length
 rotate_left
 ·rw[eM (by omega)] at k3;refine wnY and_self ?_;exact tH k3
 have ix:=ixV hk;have hpt:=F6 hk;have hcl:(cX (eG (l.take k))).length=k*2:=by rw[gB];unfold eG;rw[bt,fY];omega
 refine wnY @ix ?_;refine eR (k3.same λb hb=>?_) ?_
 ·have:=k4 b hb;rw[ab (by omega)]
 rintro s2 E e hrow hle1 hle2 hsame hb2;refine wnY and_self ?_;refine⟨(s2,k+1),by dsimp only;omega,⟨by dsimp only;omega,?_,λb hb=>?_⟩,ag0⟩
 ·dsimp only;rw[hpt,lB];exact hrow
 ·rcases hb2 b hb with h|h
  ·have:=k4 b h;omega
  ·omega
end
def dD:List Spx:=[eG [0,1],eG [0,2],eG [1,2]]
def iL:List Spx:=[eG [0,1,2]]
def n5:List Spx:=[eG [0,1,2],eG [0,1,3],eG [0,2,3],eG [1,2,3]]
theorem xt:ay dD=0:=by decide+kernel
theorem DD:ay iL=0:=by decide+kernel
theorem I2:ay n5=0:=by decide+kernel
theorem vu{c:List Spx}(h:ay c=0):∀s∈c,Shn s:=mU h
theorem GY:pU 13 [b7 dD] (.tup [aH [1,1],.int .i64 0]):=by
 have h:=rc dD 2 xt (by decide) (by decide+kernel) (by decide)
 rwa [show btL dD 2=[1,1] by decide+kernel] at h
theorem IL:pU 13 [b7 iL] (.tup [aH [1,0,0],.int .i64 0]):=by
 have h:=rc iL 3 DD (by decide) (by decide+kernel) (by decide)
 rwa [show btL iL 3=[1,0,0] by decide+kernel] at h
theorem IU:pU 13 [b7 n5] (.tup [aH [1,0,1],.int .i64 0]):=by
 have h:=rc n5 3 I2 (by decide) (by decide+kernel) (by decide)
 rwa [show btL n5 3=[1,0,1] by decide+kernel] at h
theorem LF:pU 18 [b7 dD,.int .i64 1] (.tup [gX [dD],.int .i64 0]):=by
 have h:=EV dD 1 (su.le Hu (by decide+kernel)) xt (by decide) (by decide) (by decide+kernel)
 rwa [show cyT dD 1=[dD] by decide+kernel] at h
theorem Bq:ShC dD:=⟨by decide,by decide⟩
theorem MG:ShC iL:=⟨by decide,by decide⟩
theorem QX:ShC [eG [0,1]]:=⟨by decide,by decide⟩
theorem Nr:ShC [eG [1,2]]:=⟨by decide,by decide⟩
theorem PX:ShC []:=⟨by decide,by decide⟩
theorem Lz:pU 21 [b7 dD,ak dD] (.tup [ak [],ak [eG [0,1]],.bool false,.int .i64 0]):=by
 have h:=Bx dD dD (by decide) (vu xt) Bq
 rwa [show Cs dD dD=([],[eG [0,1]],false,0) by decide+kernel] at h
theorem Mr:pU 21 [b7 iL,ak dD] (.tup [ak iL,ak [],.bool true,.int .i64 0]):=by
 have h:=Bx iL dD (by decide) (vu DD) Bq
 rwa [show Cs iL dD=(iL,[],true,0) by decide+kernel] at h
theorem HT:pU 15 [b7 n5,.int .i64 1] (.tup [.bool true,.int .i64 0]):=by
 have h:=jV n5 3 1 I2 (by decide) (by decide+kernel) (by decide) (by decide)
 rwa [show Gn (btL n5 3) 1=true by decide+kernel] at h
theorem I0:pU 15 [b7 n5,.int .i64 2] (.tup [.bool false,.int .i64 0]):=by
 have h:=jV n5 3 2 I2 (by decide) (by decide+kernel) (by decide) (by decide)
 rwa [show Gn (btL n5 3) 2=false by decide+kernel] at h
theorem I9:pU 27 [b7 dD,ak dD,ak [eG [0,1]]] (.int .i64 0):=by
 have h:=pK dD dD [eG [0,1]] (by decide) (vu xt) Bq QX
 rwa [show rfT dD dD [eG [0,1]]=0 by decide+kernel] at h
theorem Iy:pU 27 [b7 dD,ak dD,ak [eG [1,2]]] (.int .i64 0):=by
 have h:=pK dD dD [eG [1,2]] (by decide) (vu xt) Bq Nr
 rwa [show rfT dD dD [eG [1,2]]=0 by decide+kernel] at h
theorem HN:pU 27 [b7 iL,ak dD,ak [eG [1,2]]] (.int .i64 18):=by
 have h:=pK iL dD [eG [1,2]] (by decide) (vu DD) Bq Nr
 rwa [show rfT iL dD [eG [1,2]]=18 by decide+kernel] at h
theorem Hq:pU 25 [b7 iL,ak dD,ak iL] (.int .i64 0):=by
 have h:=xK iL dD iL (by decide) (vu DD) Bq MG
 rwa [show DR iL dD iL=0 by decide+kernel] at h
theorem Ef:pU 25 [b7 dD,ak dD,ak []] (.int .i64 18):=by
 have h:=xK dD dD [] (by decide) (vu xt) Bq PX
 rwa [show DR dD dD []=18 by decide+kernel] at h
theorem NW:pU 17 [aH [1,1],aH [1,1]] (.bool true):=by
 have:=v7 [1,1] [1,1] (by decide) (by decide)
 rwa [bd rfl] at this
theorem M5:pU 17 [aH [1,0,0],aH [1,0,0]] (.bool true):=by
 have:=v7 [1,0,0] [1,0,0] (by decide) (by decide)
 rwa [bd rfl] at this
theorem MO:pU 17 [aH [1,0,1],aH [1,0,1]] (.bool true):=by
 have:=v7 [1,0,1] [1,0,1] (by decide) (by decide)
 rwa [bd rfl] at this
theorem N7(l:List Spx)(h:ShC l):pU 23 [ak l,ak l] (.bool true):=by
 have:=EY l l h.1 h.1 h.2 h.2
 rwa [bd rfl] at this
theorem il:∀{b a:Spx},bM cl b->bM cl a->(∀v∈a,v∈b)->a.Sublist b
 |_,[],_,_,_=>List.nil_sublist _
 |[],x::a,_,_,h=>by cases h x cW
 |y::b,x::a,hb,ha,h=>by
  obtain⟨a1,a2⟩:=iz.1 ha;obtain⟨b1,b2⟩:=iz.1 hb;have irr:=λv=>oz.ord.irr v;by_cases e:x=y
  ·subst e;refine(il b2 a2 λv hv=>?_).cons_cons x;rcases cU.1 (h v (dS _ hv)) with rfl|q
   ·exact absurd (a1 v hv) (irr v)
   ·exact q
  ·have hx:=(cU.1 (h x cW)).resolve_left e;have hyx:=b1 x hx;refine(il b2 ha λv hv=>?_).cons y;rcases cU.1 (h v hv) with rfl|q
   ·rcases cU.1 hv with rfl|q2
    ·exact absurd rfl e
    ·exact absurd hyx (oz.ord.asym _ _ (a1 v q2))
   ·exact q
theorem Gy{X Y:List Spx}{i j:Nat}(hi:i<Y.length)(hj:j<X.length):(j:Int)∈(bZ X Y).getD i default↔Y.getD i default∈bF (X.getD j default):=by
 rw[kC hi,lP,fT];exact⟨λh=>h.2,λh=>⟨hj,h⟩⟩
theorem CM{X Y:List Spx}{q j:Nat}(hq:q<X.length)(hj:j<Y.length):(j:Int)∈cq (trF (bZ X Y) (bZ X Y).length q)↔Y.getD j default∈bF (X.getD q default):=by
 rw[lP];unfold trF;rw[dJ,du,dF,iG,Gy hj hq];exact⟨λh=>h.2,λh=>⟨hj,h⟩⟩
theorem ku{c:List Spx}{d:Int}(hc:ay c=0):∀s∈an c d,bM cl s:=λs hs=>(bQ (kF hc s hs)).2.2.1
theorem IX{c:List Spx}{k:Nat}(hc:ay c=0)(hl:c.length<=50):VR (an c ((k:Int)+1+1)).length (bZ (an c ((k:Int)+1+1)) (an c ((k:Int)+1))):=by
 have h:VR _ _:=mL (yj (c:=c) (d:=k+1) hc hl);unfold bdN at h;rw[show((k+1:Nat):Int)=(k:Int)+1 by omega] at h;exact h
theorem zy{c:List Spx}{k:Nat}(hc:ay c=0)(hl:c.length<=50){r:List Int}(hr:r∈bdM c k):KerV (bZ (an c ((k:Int)+1)) (an c k)) (bdN c k) r:=by
 have hV:=IX (k:=k) hc hl;have ht:=Kz (R:=bZ (an c ((k:Int)+1+1)) (an c ((k:Int)+1))) (c:=(an c ((k:Int)+1+1)).length);have hl2:(bZ (an c ((k:Int)+1+1)) (an c ((k:Int)+1))).length=(an c ((k:Int)+1)).length:=dF;refine⟨ht.asc r hr,λz hz=>by have:=ht.rng r hr z hz;unfold bdN;omega,λs hs=>?_⟩;unfold bdM trL at hr;obtain⟨q,hq,rfl⟩:=bu.1 hr;obtain⟨i,hi,rfl⟩:=mq hs;rw[dF] at hi;have hra:bo ((bZ (an c ((k:Int)+1)) (an c k)).getD i default):=by rw[kC hi];exact fH nG
 have hz:=Gq (X:=an c ((k:Int)+1+1)) (Y:=an c ((k:Int)+1)) (Z:=an c k) hi (ku hc) (ku hc) eZ (λs hs f hf=>pG hs hf);rw[<-kC hi] at hz
 have hrr:∀z∈(bZ (an c ((k:Int)+1)) (an c k)).getD i default,0<=z/\z<((bZ (an c ((k:Int)+1+1)) (an c ((k:Int)+1))).length:Int):=λz hz=>by
  rw[kC hi] at hz;obtain⟨j,hj,rfl⟩:=kE.1 hz;have:=(fT.1 hj).1;omega
 have hb:=GL hV.asc (z:=(q:Int)) hrr;rw[show nP (bZ (an c ((k:Int)+1+1)) (an c ((k:Int)+1))) ((bZ (an c ((k:Int)+1)) (an c k)).getD i default)=[] from hz,iE] at hb;have e:=Fh hra (fH (tK (R:=bZ (an c ((k:Int)+1+1)) (an c ((k:Int)+1))) (n:=(bZ (an c ((k:Int)+1+1)) (an c ((k:Int)+1))).length) (q:=q)));unfold pd at e;rw[fi (g:=λj=>bit j (cq (trF (bZ (an c ((k:Int)+1+1)) (an c ((k:Int)+1))) (bZ (an c ((k:Int)+1+1)) (an c ((k:Int)+1))).length q))) (h:=mG (bZ (an c ((k:Int)+1+1)) (an c ((k:Int)+1))) q) λj hj=>Cz (hrr j hj)] at e;have e:=decide_eq_decide.1 e;omega
def cnV(v:Vtx)(s:Spx):Spx:=iJ cl (s++[v])
theorem o8{v:Vtx}{s:Spx}(hs:bM cl s)(hv:v∉s):bM cl (cnV v s)/\(∀x,x∈cnV v s↔x∈s\/x=v)/\(cnV v s).length=s.length+1:=by
 have h1:bM cl (cnV v s):=jn oz _
 have h2:∀x,x∈cnV v s↔x∈s\/x=v:=λx=>by
  unfold cnV;rw[f9,dZ,bT]
 refine⟨h1,h2,?_⟩;have n1:(cnV v s).Nodup:=bM.nodup oz h1
 have n2:(s++[v]).Nodup:=by
  rw[s0];exact⟨bM.nodup oz hs,List.pairwise_singleton _ _,λx hx y hy e=>hv (by rw[<-bT.1 hy,<-e];exact hx)⟩
 have a:=tw n1 (show cnV v s ⊆ s++[v] from λx hx=>by rw[dZ,bT];exact(h2 x).1 hx);have b:=tw n2 (show s++[v] ⊆ cnV v s from λx hx=>(h2 x).2 (by rw[dZ,bT] at hx;exact hx));rw[cA] at a b;simp only[bL,eW] at a b;omega
theorem GA{v:Vtx}{s f:Spx}(hs:bM cl s)(hv:v∉s)(hf:f∈bF (cnV v s))(hvf:v∉f):f=s:=by
 obtain⟨h1,h2,h3⟩:=o8 hs hv;obtain⟨f1,f2,f3⟩:=en.1 hf;have fa:bM cl f:=h1.sublist f2;exact(il hs fa λx hx=>((h2 x).1 (f2.subset hx)).resolve_right λe=>hvf (by rw[<-e];exact hx)).eq_of_length (by omega)
structure ConeC(c:List Spx)(v:Vtx):Prop where
 top:∃t∈c,v∈t
 join:∀s,bM cl s->(∃t∈c,s.Sublist t)->v∉s->∃t∈c,(cnV v s).Sublist t
theorem qg{X:List Spx}(hX:X.Nodup){i j:Nat}(hi:i<X.length)(hj:j<X.length)(e:X.getD i default=X.getD j default):i=j:=by
 rw[<-sf hX hi,<-sf hX hj,e]
theorem rJ{c:List Spx}{k:Nat}{v:Vtx}(hc:ay c=0)(hl:c.length<=50)(hco:ConeC c v)(E:List (List Int))(hE:VR (bdN c k) E)
    (h0:∀{x:List Int},KerV (bZ (an c ((k:Int)+1)) (an c k)) (bdN c k) x->(∀z∈x,v∈(an c ((k:Int)+1)).getD z.toNat default)->Sp (bdM c k++E) x):
    ∀(m:Nat){x:List Int},KerV (bZ (an c ((k:Int)+1)) (an c k)) (bdN c k) x->(x.filter λz=>decide (v∉(an c ((k:Int)+1)).getD z.toNat default)).length<=m->Sp (bdM c k++E) x
 |0,x,hx,hm=>h0 hx λz hz=>Classical.byContradiction λq=>by
  have:z∈x.filter λz=>decide (v∉(an c ((k:Int)+1)).getD z.toNat default):=dJ.2 ⟨hz,bd q⟩;have:=List.length_pos_of_mem this;omega
 |m+1,x,hx,hm=>by
  have hMv:=(mL (rf (d:=k) hc hl)).app hE;by_cases hall:∀z∈x,v∈(an c ((k:Int)+1)).getD z.toNat default
  ·exact h0 hx hall
  have hXn:(an c ((k:Int)+1)).Nodup:=bM.nodup jc eZ;obtain⟨z,hz,hvz⟩:∃z∈x,v∉(an c ((k:Int)+1)).getD z.toNat default:=Classical.byContradiction λq=>hall λz hz=>Classical.byContradiction λr=>q ⟨z,hz,r⟩;have hzr:=hx.rng z hz;unfold bdN at hzr;have hzl:z.toNat<(an c ((k:Int)+1)).length:=by omega
  have hsm:=az hzl;generalize hs:(an c ((k:Int)+1)).getD z.toNat default=s at *;have hsa:=ku hc s hsm;obtain⟨s1,s2,s3⟩:=dY.1 hsm;obtain⟨u1,u2,u3⟩:=o8 hsa hvz;have hum:cnV v s∈an c ((k:Int)+1+1):=dY.2 ⟨by omega,by omega,hco.join s hsa s3 hvz⟩;obtain⟨hq,hqu⟩:=fG hum;generalize (an c ((k:Int)+1+1)).idxOf (cnV v s)=q at *;have hrm:cq (trF (bZ (an c ((k:Int)+1+1)) (an c ((k:Int)+1))) (bZ (an c ((k:Int)+1+1)) (an c ((k:Int)+1))).length q)∈bdM c k:=bu.2 ⟨q,du.2 hq,rfl⟩;have hcol:=λ{j:Nat}(hj:j<(an c ((k:Int)+1)).length)=>CM (X:=an c ((k:Int)+1+1)) hq hj;rw[hqu] at hcol;have hrk:=zy hc hl hrm;generalize cq (trF (bZ (an c ((k:Int)+1+1)) (an c ((k:Int)+1))) (bZ (an c ((k:Int)+1+1)) (an c ((k:Int)+1))).length q)=r at *
  have hzin:z∈r:=by
   have:=(hcol hzl).2 (by
    rw[hs];exact en.2 ⟨by omega,il u1 hsa λx hx=>(u2 x).2 (.inl hx),by omega⟩)
   rwa [Int.toNat_of_nonneg hzr.1] at this
  have hk2:=yT hx hrk
  have hlen:((bX x r).filter λz=>decide (v∉(an c ((k:Int)+1)).getD z.toNat default)).length+1<=(x.filter λz=>decide (v∉(an c ((k:Int)+1)).getD z.toNat default)).length:=by
   have hnd:(z::((bX x r).filter λz=>decide (v∉(an c ((k:Int)+1)).getD z.toNat default))).Nodup:=by
    refine List.nodup_cons.2 ⟨λh=>?_,(bo.nodup hk2.asc).sublist wx⟩;rcases(c6 hx.asc hrk.asc).1 (dJ.1 h).1 with w|w
    ·exact w.2 hzin
    ·exact w.2 hz
   have:=tw hnd (l₂:=x.filter λz=>decide (v∉(an c ((k:Int)+1)).getD z.toNat default)) λy hy=>by
    rcases cU.1 hy with rfl|hy
    ·exact dJ.2 ⟨hz,bd (by rw[hs];exact hvz)⟩
    ·obtain⟨y1,y2⟩:=dJ.1 hy;refine dJ.2 ⟨?_,y2⟩;rcases(c6 hx.asc hrk.asc).1 y1 with w|w
     ·exact w.1
     ·exfalso;have hyr:=hrk.rng y w.1;unfold bdN at hyr;have hyl:y.toNat<(an c ((k:Int)+1)).length:=by omega
      have h1:=(hcol hyl).1 (by rw[Int.toNat_of_nonneg hyr.1];exact w.1);have h2:=GA hsa hvz h1 (nf y2);have h3:=qg hXn hyl hzl (by rw[h2,hs]);exact w.2 (by rw[show y=z by omega];exact hz)
   rw[bL] at this;exact this
  have ih:=rJ hc hl hco E hE h0 m hk2 (by omega)
  have e:bX (bX x r) r=x:=by
   rw[<-er hx.asc hrk.asc hrk.asc,eD hrk.asc];exact gu (dE hx.asc lS) hx.asc λz=>by rw[dh hx.asc lS,iE,nq];exact Nat.mod_eq_of_lt ia
  rw[<-e];exact gD hMv.asc ih (dC (nj _ hrm))
theorem Ko{c:List Spx}{k:Nat}{v:Vtx}(hc:ay c=0)(hk:0<k){x:List Int}(hx:KerV (bZ (an c ((k:Int)+1)) (an c k)) (bdN c k) x)(hv:∀z∈x,v∈(an c ((k:Int)+1)).getD z.toNat default):x=[]:=by
 refine qE.2 λz hz=>?_;have hXn:(an c ((k:Int)+1)).Nodup:=bM.nodup jc eZ
 have hlt:∀z∈x,z.toNat<(an c ((k:Int)+1)).length/\((z.toNat:Nat):Int)=z:=λz hz=>by
  have:=hx.rng z hz;unfold bdN at this;omega
 obtain⟨hzl,hze⟩:=hlt z hz;have hvz:=hv z hz;have hsm:=az hzl;have hlen:∀s∈an c ((k:Int)+1),s.length=k+1:=λs hs=>by have:=(dY.1 hs).2.1;omega
 generalize hs:(an c ((k:Int)+1)).getD z.toNat default=s at *;have hsa:=ku hc s hsm;have hsn:=bM.nodup oz hsa;have sl:=hlen s hsm;have ht:s.erase v∈bF s:=en.2 ⟨by omega,List.erase_sublist,List.length_erase_of_mem hvz⟩;obtain⟨hi,hie⟩:=fG (pG hsm ht);have hd:=hx.dot _ (az (l:=bZ (an c ((k:Int)+1)) (an c k)) (i:=(an c k).idxOf (s.erase v)) (by rw[dF];exact hi));rw[fi (h:=λw=>if w=z then 1 else 0) λw hw=>?_,vP hx.asc,cS.2 hz] at hd
 ·omega
 obtain⟨hwl,hwe⟩:=hlt w hw;have hro:=Gy (X:=an c ((k:Int)+1)) hi hwl;rw[hwe,hie] at hro;by_cases q:w=z
 ·rw[if_pos q];exact cS.2 (hro.2 (by rw[q,hs];exact ht))
 ·rw[if_neg q];unfold bit;rw[if_neg];intro h;have hwm:=az hwl;have hvw:=hv w hw;have hf:=en.1 (hro.1 h);have hwa:=ku hc _ hwm;have hwlen:=hlen _ hwm
  have hes:s=(an c ((k:Int) + 1)).getD w.toNat default:=(il hwa hsa fun x hx=>by
   by_cases e:x=v
   ·rw[e];exact hvw
   ·exact hf.2.1.subset ((List.mem_erase_of_ne e).2 hx)).eq_of_length (by omega)
  have:=qg hXn hwl hzl (by rw[<-hes,hs]);omega
theorem vv{c:List Spx}{k:Nat}{v:Vtx}(hc:ay c=0)(hl:c.length<=50)(hco:ConeC c v):btF c k=if k=0 then 1 else 0:=by
 have hV:VR _ _:=mL (yj (c:=c) (d:=k) hc hl);have hM:=mL (rf (d:=k) hc hl);have hK:=mL (CV (d:=k) hc hl).1;obtain⟨a1,a2,-⟩:=gF hV.asc hV.rng;have hv:∀r∈ed (bZ (an c ((k:Int)+1)) (an c k)) (bdN c k),∀z∈r,0<=z/\z<(bdN c k:Int):=λr hr=>gV hV.asc hV.rng ((a2 r).1 (dC hr));have h2:rk (bsK c k) (bdN c k)=(bsK c k).length:=CX a1 hv _ (aJ _);have h3:(bsK c k).length+rkF c k=bdN c k:=Dt a1 hv
 have h4:rk (bdM c k) (bdN c k)=rkF c (k+1):=by
  have:=KA (IX (k:=k) hc hl);rw[dF] at this;unfold rkF;rw[show((k+1:Nat):Int)=(k:Int)+1 by omega];exact this
 have hKs:∀x,Sp (bsK c k) x↔KerV (bZ (an c ((k:Int)+1)) (an c k)) (bdN c k) x:=λx=>(DX hV).symm;have hup:∀x,Sp (bdM c k) x->Sp (bsK c k) x:=λx h=>jB hK.asc (λr hr=>(hKs r).2 (zy hc hl hr)) h;by_cases hk:k=0
 rotate_left
 ·rw[if_neg hk];have key:∀x,KerV (bZ (an c ((k:Int)+1)) (an c k)) (bdN c k) x->Sp (bdM c k++[]) x:=λx hx=>rJ hc hl hco [] VR.nil (λ{x} hx hall=>by rw[Ko hc (by omega) hx hall];exact .nil) _ hx (aJ _);have e:=qR hM hK λx=>⟨hup x,λh=>by have:=key x ((hKs x).1 h);rwa [gJ] at this⟩
  unfold btF;unfold bdN at h3;rw[h2,h4] at e;omega
 ·subst hk;rw[if_pos rfl];obtain⟨t,ht,hvt⟩:=hco.top;have hvm:[v]∈an c (((0:Nat):Int)+1):=dY.2 ⟨by omega,rfl,t,ht,List.singleton_sublist.2 hvt⟩;obtain⟨hi,hie⟩:=fG hvm;generalize (an c (((0:Nat):Int)+1)).idxOf [v]=i at *;have hXn:(an c (((0:Nat):Int)+1)).Nodup:=bM.nodup jc eZ;have hva:bo [(i:Int)]:=List.pairwise_singleton _ _;have hvr:∀z∈[(i:Int)],0<=z/\z<(bdN c 0:Int):=λz hz=>by rw[bT.1 hz];unfold bdN;omega
  have hE:VR (bdN c 0) [[(i:Int)]]:=VR.one hva hvr
  have key:∀ x,KerV (bZ (an c (((0:Nat):Int) + 1)) (an c ((0:Nat):Int))) (bdN c 0) x→Sp (bdM c 0 ++ [[(i:Int)]]) x:=fun x hx=>rJ hc hl hco _ hE (fun {x} hx hall=>by
   have hxi:∀z∈x,z=(i:Int):=λz hz=>by
    have hr:=hx.rng z hz;unfold bdN at hr;have hzl:z.toNat<(an c (((0:Nat):Int)+1)).length:=by omega
    have hm:=dY.1 (az hzl);have h1:=hall z hz;have hl1:((an c (((0:Nat):Int)+1)).getD z.toNat default).length=1:=hm.2.1;obtain⟨w,hw⟩:=List.length_eq_one_iff.1 hl1;rw[hw,bT] at h1;have:=qg hXn hzl hi (by rw[hw,hie,h1]);omega
   by_cases h0:x=[]
   ·rw[h0];exact .nil
   ·have:x=[(i:Int)]:=gu hx.asc hva λz=>by
      by_cases hz:z=(i:Int)
      ·rw[hz,cS.2 (bT.2 rfl),cS];obtain⟨y,hy⟩:=List.exists_mem_of_ne_nil x h0;rw[<-hxi y hy];exact hy
      ·have n1:z∉x:=λq=>hz (hxi z q);have n2:z∉[(i:Int)]:=λq=>hz (bT.1 q);simp[bit,n1,n2]
    rw[this];exact dC (mh _ (bT.2 rfl))) _ hx (aJ _)
  have hall:∀r∈[[(i:Int)]],KerV (bZ (an c (((0:Nat):Int)+1)) (an c ((0:Nat):Int))) (bdN c 0) r:=λr hr=>by
   rw[bT.1 hr];exact⟨hva,hvr,λr hr=>by cases hr⟩
  have e:=qR (hM.app hE) hK λx=>⟨λh=>jB hK.asc (λr hr=>(hKs r).2 ((dZ.1 hr).elim (zy hc hl) (hall r))) h,λh=>key x ((hKs x).1 h)⟩
  have hns:¬Sp (bdM c 0) [(i:Int)]:=λq=>by
   have:=q8 (g:=λ_=>1) q λr hr=>by
    unfold bdM trL at hr;obtain⟨p,hp,rfl⟩:=bu.1 hr;have hp:=du.1 hp;have hpm:=dY.1 (az hp);have hl2:((an c (((0:Nat):Int)+1+1)).getD p default).length=2:=hpm.2.1;have:=Ku (X:=an c (((0:Nat):Int)+1+1)) (Y:=an c (((0:Nat):Int)+1)) hp (ku hc) eZ (λf hf=>pG (az hp) hf) (by omega)
    have hg:∀l:List Int,cm (λ_=>1) l=l.length:=λl=>by
     induction l with
     |nil=>rfl
     |cons a l ih=>show 1+cm (λ_=>1) l=_;rw[ih,bL];omega
    rw[hg,this,hl2]
   exact absurd (show 1%2=0 from this) (by decide)
  rcases tJ hM hva hvr with⟨q,_⟩|⟨_,q⟩
  ·exact absurd q hns
  ·rw[q,h2,h4] at e;unfold btF;unfold bdN at h3;have:=IQ (c:=c);omega
structure UF where
 ks:List Vtx
 vs:List Vtx
 rt:Vtx->Vtx
def mN(u:UF)(p:Vtx×Vtx):UF:=if u.rt p.1=u.rt p.2 then u else⟨u.ks++[u.rt p.1],u.vs++[u.rt p.2],λz=>if u.rt z=u.rt p.1 then u.rt p.2 else u.rt z⟩
def uf0:UF:=⟨[],[],λv=>v⟩
def ufL(P:List (Vtx×Vtx)):UF:=P.foldl mN uf0
structure Forest(u:UF):Prop where
 nd:u.ks.Nodup
 len:u.vs.length=u.ks.length
 up:∀i,i<u.ks.length->u.vs.getD i default∈u.ks->i<u.ks.idxOf (u.vs.getD i default)
 out:∀v,v∉u.ks->u.rt v=v
 stp:∀i,i<u.ks.length->u.rt (u.ks.getD i default)=u.rt (u.vs.getD i default)
 top:∀v,u.rt v∉u.ks
theorem C7:Forest uf0:=⟨List.nodup_nil,rfl,λi h=>absurd h (Nat.not_lt_zero _),λ_ _=>rfl,λi h=>absurd h (Nat.not_lt_zero _),λ_ h=>by cases h⟩
theorem pA{l:List Vtx}{x:Vtx}{i:Nat}(h:i=l.length):(l++[x]).getD i default=x:=by subst h;exact rZ
theorem wu{u:UF}(h:Forest u)(p:Vtx×Vtx):Forest (mN u p):=by
 unfold mN;by_cases e:u.rt p.1=u.rt p.2
 ·rw[if_pos e];exact h
 rw[if_neg e];have ha:=h.top p.1;have hb:=h.top p.2;generalize u.rt p.1=a at *;generalize u.rt p.2=b at *;have hra:=h.out a ha;have hrb:=h.out b hb;have hbn:b∉u.ks++[a]:=λq=>(dZ.1 q).elim hb λq=>e (bT.1 q).symm;refine⟨?_,?_,λi hi hm=>?_,λv hv=>?_,λi hi=>?_,λv hv=>?_⟩
 ·show(u.ks++[a]).Nodup;rw[s0];exact⟨h.nd,List.pairwise_singleton _ _,λx hx y hy q=>ha (by rw[<-bT.1 hy,<-q];exact hx)⟩
 ·show(u.vs++[b]).length=(u.ks++[a]).length;rw[cA,cA,h.len];rfl
 ·have hi:i<(u.ks++[a]).length:=hi;rw[cA,List.length_singleton] at hi;have hm:(u.vs++[b]).getD i default∈u.ks++[a]:=hm;show i<(u.ks++[a]).idxOf ((u.vs++[b]).getD i default);by_cases hl:i<u.ks.length
  ·rw[nC (by rw[h.len];exact hl)] at hm |-;rw[List.idxOf_append];split
   ·rename_i q;exact h.up i hl q
   ·omega
  ·rw[pA (by rw[h.len];omega)] at hm;exact absurd hm hbn
 ·have hv:v∉u.ks++[a]:=hv;rw[dZ,bT] at hv;have hrv:=h.out v λq=>hv (.inl q);show(if u.rt v=a then b else u.rt v)=v;rw[hrv,if_neg λq=>hv (.inr q)]
 ·have hi:i<(u.ks++[a]).length:=hi;rw[cA,List.length_singleton] at hi;show(if u.rt ((u.ks++[a]).getD i default)=a then b else u.rt ((u.ks++[a]).getD i default))=if u.rt ((u.vs++[b]).getD i default)=a then b else u.rt ((u.vs++[b]).getD i default)
  by_cases hl:i<u.ks.length
  ·rw[nC hl,nC (by rw[h.len];exact hl),h.stp i hl]
  ·rw[pA (by omega),pA (by rw[h.len];omega),hra,if_pos rfl,hrb,if_neg λq=>e q.symm]
 ·have hv:(if u.rt v=a then b else u.rt v)∈u.ks++[a]:=hv;by_cases q:u.rt v=a
  ·rw[if_pos q] at hv;exact hbn hv
  ·rw[if_neg q] at hv;exact(dZ.1 hv).elim (h.top v) λr=>q (bT.1 r)
theorem En:∀(P:List (Vtx×Vtx))(u:UF),Forest u->Forest (P.foldl mN u)
 |[],_,h=>h
 |p::P,u,h=>En P _ (wu h p)
theorem md(P:List (Vtx×Vtx)):Forest (ufL P):=En P _ C7
theorem uU{P:List (Vtx×Vtx)}{p:Vtx×Vtx}:ufL (P++[p])=mN (ufL P) p:=by unfold ufL;rw[List.foldl_append];rfl
def hZ(s:Spx):List (Vtx×Vtx):=(s.drop 1).map λv=>(s.getD 0 default,v)
def dt(c:List Spx):List (Vtx×Vtx):=c.flatMap hZ
theorem An{c:List Spx}{i:Nat}(h:i<c.length):dt (c.take (i+1))=dt (c.take i)++hZ (c.getD i default):=by
 unfold dt;rw[bD h,List.flatMap_append];simp
def nsF(l:List Vtx):List Vtx:=l.foldl (λks v=>if v∈ks then ks else ks++[v]) []
theorem tZ(l:List Vtx)(v:Vtx):nsF (l++[v])=if v∈nsF l then nsF l else nsF l++[v]:=by unfold nsF;rw[List.foldl_append];rfl
theorem Dw:∀(m l:List Vtx),∃r,nsF (l++m)=nsF l++r
 |[],l=>⟨[],by rw[gJ,gJ]⟩
 |v::m,l=>by
  obtain⟨r,hr⟩:=Dw m (l++[v]);rw[np] at hr;rw[show l++v::m=l++([v]++m) from rfl,hr,tZ];split
  ·exact⟨r,rfl⟩
  ·exact⟨v::r,by rw[np];rfl⟩
theorem yt:∀{l:List Vtx}{v:Vtx},v∈nsF l↔v∈l:=λ{l v}=>by
 suffices h:∀(l ks:List Vtx),v∈l.foldl (λks v=>if v∈ks then ks else ks++[v]) ks↔v∈ks\/v∈l by simpa[nsF] using h l []
 intro l
 induction l with
 |nil=>simp
 |cons a l ih=>
  intro ks;rw[List.foldl_cons,ih,cU];split
  ·rename_i h;constructor
   ·rintro(q|q)
    ·exact .inl q
    ·exact .inr (.inr q)
   ·rintro(q|rfl|q)
    ·exact .inl q
    ·exact .inl h
    ·exact .inr q
  ·rw[dZ,bT,or_assoc]
theorem w6(l:List Vtx):(nsF l).Nodup:=by
 suffices h:∀(l ks:List Vtx),ks.Nodup->(l.foldl (λks v=>if v∈ks then ks else ks++[v]) ks).Nodup from h l [] List.nodup_nil
 intro l
 induction l with
 |nil=>exact λks h=>h
 |cons a l ih=>
  intro ks h;rw[List.foldl_cons];refine ih _ ?_;split
  ·exact h
  ·rename_i q;rw[s0];exact⟨h,List.pairwise_singleton _ _,λx hx y hy e=>q (by rw[bT.1 hy] at e;rw[<-e];exact hx)⟩
theorem Ej(l:List Vtx):(nsF l).length<=l.length:=tw (w6 l) λv hv=>yt.1 hv
def nsI(l:List Vtx):List Nat:=l.map λv=>(nsF l).idxOf v
theorem yp{l:List Vtx}{i:Nat}(h:i<l.length):(nsF (l.take (i+1))).idxOf (l.getD i default)=(nsF l).idxOf (l.getD i default)/\l.getD i default∈nsF (l.take (i+1)):=by
 have hm:l.getD i default∈nsF (l.take (i+1)):=yt.2 (by rw[bD h];simp);obtain⟨r,hr⟩:=Dw (l.drop (i+1)) (l.take (i+1));rw[Cf] at hr;refine⟨?_,hm⟩;rw[hr,List.idxOf_append,if_pos hm]
theorem HD{l:List Vtx}{i:Nat}(h:i<l.length):(nsI l).take (i+1)=(nsI l).take i++[(nsF l).idxOf (l.getD i default)]:=by
 have hl:i<(nsI l).length:=by unfold nsI;rw[bt];exact h
 rw[bD hl]
 congr 2
 unfold nsI;simp[List.getD,h]
def rtL(c:List Spx):List Vtx:=c.map λs=>(ufL (dt c)).rt (s.getD 0 default)
def gz(c:List Spx):List Nat:=nsI (rtL c)
abbrev mZ(c:List Spx):List Spx:=an c (((0:Nat):Int)+1)
def isV(c:List Spx)(v:Vtx):Prop:=[v]∈mZ c
theorem oL{c:List Spx}{v:Vtx}:isV c v↔ ∃t∈c,v∈t:=by
 unfold isV mZ;rw[dY];constructor
 ·rintro⟨_,_,t,ht,hs⟩;exact⟨t,ht,List.singleton_sublist.1 hs⟩
 ·rintro⟨t,ht,hv⟩;exact⟨by omega,rfl,t,ht,List.singleton_sublist.2 hv⟩
def iS(c:List Spx)(v:Vtx):Int:=((mZ c).idxOf [v]:Nat)
theorem dB{c:List Spx}{v:Vtx}(h:isV c v):0<=iS c v/\iS c v<(bdN c 0:Int)/\(mZ c).getD (iS c v).toNat default=[v]:=by
 obtain⟨h1,h2⟩:=fG h;have e:(iS c v).toNat=(mZ c).idxOf [v]:=cC _;refine⟨Int.natCast_nonneg _,?_,by rw[e,h2]⟩;unfold bdN iS;exact Int.ofNat_lt.2 h1
theorem Hl{c:List Spx}{v w:Vtx}(hv:isV c v)(hw:isV c w)(e:iS c v=iS c w):v=w:=by
 have a:=(dB hv).2.2;rw[e,(dB hw).2.2] at a;exact(List.cons.inj a).1.symm
def evV(c:List Spx)(p:Vtx×Vtx):List Int:=bX [iS c p.1] [iS c p.2]
theorem j0(x:Int):bo [x]:=List.pairwise_singleton _ _
theorem kT{c:List Spx}{p:Vtx×Vtx}:bo (evV c p):=dE (j0 _) (j0 _)
theorem tT{c:List Spx}{p:Vtx×Vtx}(z:Int):bit z (evV c p)=(bit z [iS c p.1]+bit z [iS c p.2])%2:=dh (j0 _) (j0 _)
theorem Dq{c:List Spx}{p:Vtx×Vtx}(h1:isV c p.1)(h2:isV c p.2):∀z∈evV c p,0<=z/\z<(bdN c 0:Int):=λz hz=>by
 rcases(c6 (j0 _) (j0 _)).1 hz with q|q
 ·rw[bT.1 q.1];have:=dB h1;exact⟨this.1,this.2.1⟩
 ·rw[bT.1 q.1];have:=dB h2;exact⟨this.1,this.2.1⟩
theorem lL{c:List Spx}{a b d:Vtx}:bX (evV c (a,b)) (evV c (b,d))=evV c (a,d):=
 gu (dE kT kT) kT λz=>by
  rw[dh kT kT,tT,tT,tT];dsimp only;omega
theorem uk{c:List Spx}{a b:Vtx}:evV c (a,b)=evV c (b,a):=Gr (j0 _) (j0 _)
theorem BV{c:List Spx}{a:Vtx}:evV c (a,a)=[]:=eD (j0 _)
theorem AP{c:List Spx}{p:Vtx×Vtx}(g:Int->Nat):cm g (evV c p)%2=(g (iS c p.1)+g (iS c p.2))%2:=fV _ _ _ (aJ _)
structure UI(c:List Spx)(P:List (Vtx×Vtx)):Prop where
 vr:VR (bdN c 0) (P.map (evV c))
 join:∀p∈P,(ufL P).rt p.1=(ufL P).rt p.2
 vert:∀v,isV c v->isV c ((ufL P).rt v)
 keys:∀v∈(ufL P).ks,isV c v
 span:∀v,isV c v->Sp (P.map (evV c)) (evV c (v,(ufL P).rt v))
 rank:rk (P.map (evV c)) (bdN c 0)=(ufL P).ks.length
 prs:∀p∈P,isV c p.1/\isV c p.2
theorem UI.nil(c:List Spx):UI c []:=⟨VR.nil,λp h=>(by cases h),λv h=>h,λv h=>(by cases h),λv h=>by show Sp [] (evV c (v,v));rw[BV];exact .nil,Cg,λp h=>(by cases h)⟩
theorem UI.snoc{c:List Spx}{P:List (Vtx×Vtx)}{p:Vtx×Vtx}(h:UI c P)(h1:isV c p.1)(h2:isV c p.2):UI c (P++[p]):=by
 have hF:=md P;have hm:(P++[p]).map (evV c)=P.map (evV c)++[evV c p]:=by rw[dr];rfl
 have hvr:VR (bdN c 0) ((P++[p]).map (evV c)):=by rw[hm];exact h.vr.app (VR.one kT (Dq h1 h2))
 have hs1:=h.span p.1 h1;have hs2:=h.span p.2 h2;have hv1:=h.vert p.1 h1;have hv2:=h.vert p.2 h2;have hsp:∀{v},Sp (P.map (evV c)) v->Sp ((P++[p]).map (evV c)) v:=λq=>by rw[hm];exact lz (λr hr=>nj _ hr) q
 have hown:Sp ((P++[p]).map (evV c)) (evV c p):=by rw[hm];exact dC (mh _ (bT.2 rfl))
 have hrk:=tJ (v:=evV c p) h.vr kT (Dq h1 h2);rw[<-hm] at hrk;have hpr:∀r∈P++[p],isV c r.1/\isV c r.2:=λr hr=>(dZ.1 hr).elim (h.prs r) λq=>by rw[bT.1 q];exact⟨h1,h2⟩
 by_cases e:(ufL P).rt p.1=(ufL P).rt p.2
 ·have eu:ufL (P++[p])=ufL P:=by rw[uU];unfold mN;rw[if_pos e]
  refine⟨hvr,λr hr=>?_,by rw[eu];exact h.vert,by rw[eu];exact h.keys,λv hv=>by rw[eu];exact hsp (h.span v hv),?_,hpr⟩
  ·rw[eu];rcases dZ.1 hr with hr|hr
   ·exact h.join r hr
   ·rw[bT.1 hr];exact e
  ·rw[eu,<-h.rank];rcases hrk with⟨_,q⟩|⟨q,_⟩
   ·exact q
   ·refine absurd ?_ q;have:=gD h.vr.asc hs1 (by rw[uk,<-e] at hs2;exact hs2);rw[lL] at this;exact this
 ·have eu:ufL (P++[p])=⟨(ufL P).ks++[(ufL P).rt p.1],(ufL P).vs++[(ufL P).rt p.2],λz=>if (ufL P).rt z=(ufL P).rt p.1 then(ufL P).rt p.2 else(ufL P).rt z⟩:=by rw[uU];unfold mN;rw[if_neg e]
  refine⟨hvr,λr hr=>?_,λv hv=>?_,λv hv=>?_,λv hv=>?_,?_,hpr⟩
  ·rw[eu];try dsimp only
   rcases dZ.1 hr with hr|hr
   ·rw[h.join r hr]
   ·rw[bT.1 hr,if_pos rfl,if_neg λq=>e q.symm]
  ·rw[eu];try dsimp only
   split
   ·exact hv2
   ·exact h.vert v hv
  ·rw[eu] at hv;rcases dZ.1 hv with hv|hv
   ·exact h.keys v hv
   ·rw[bT.1 hv];exact hv1
  ·rw[eu];try dsimp only
   have hsv:=h.span v hv;by_cases q:(ufL P).rt v=(ufL P).rt p.1
   ·rw[if_pos q];rw[q] at hsv;have a:=gD hvr.asc (hsp hsv) (by have:=hsp hs1;rw[uk] at this;exact this);rw[lL] at a;have b:=gD hvr.asc a hown;rw[show evV c p=evV c (p.1,p.2) from rfl,lL] at b;have d:=gD hvr.asc b (hsp hs2);rw[lL] at d;exact d
   ·rw[if_neg q];exact hsp hsv
  ·rw[eu];show rk _ _=((ufL P).ks++[_]).length;rw[cA,List.length_singleton,<-h.rank];rcases hrk with⟨q,_⟩|⟨_,q⟩
   ·exfalso
    have hg:=q8 (g:=fun z=>if (ufL P).rt (((mZ c).getD z.toNat default).getD 0 default)=(ufL P).rt p.1 then 1 else 0) q (fun r hr=>by
     obtain⟨t,ht,rfl⟩:=bu.1 hr;rw[AP];rw[(dB (h.prs t ht).1).2.2,(dB (h.prs t ht).2).2.2];show((if (ufL P).rt t.1=_ then 1 else 0)+(if (ufL P).rt t.2=_ then 1 else 0))%2=0;rw[h.join t ht];omega)
    rw[AP] at hg;rw[(dB h1).2.2,(dB h2).2.2] at hg;rw[if_pos (show(ufL P).rt ([p.1].getD 0 default)=(ufL P).rt p.1 from rfl),if_neg (show ¬(ufL P).rt ([p.2].getD 0 default)=(ufL P).rt p.1 from λq=>e q.symm)] at hg;omega
   ·exact q
theorem DC{c:List Spx}{v:Vtx}(h:isV c v):(iS c v).toNat<(mZ c).length:=by
 have e:(iS c v).toNat=(mZ c).idxOf [v]:=cC _;rw[e];exact(fG h).1
theorem Ah{c:List Spx}{a b:Vtx}(hc:ay c=0)(h:[a,b]∈an c (((0:Nat):Int)+1+1)):cq (trF (bZ (an c (((0:Nat):Int)+1+1)) (an c (((0:Nat):Int)+1))) (bZ (an c (((0:Nat):Int)+1+1)) (an c (((0:Nat):Int)+1))).length ((an c (((0:Nat):Int)+1+1)).idxOf [a,b]))=evV c (a,b):=by
 obtain⟨hq,hqe⟩:=fG h;have hs:=bM.nodup oz (ku hc _ h);have hab:a≠b:=λe=>by subst e;simp at hs
 obtain⟨-,-,t,ht,hst⟩:=dY.1 h;have ha:isV c a:=oL.2 ⟨t,ht,hst.subset (cW ..)⟩;have hb:isV c b:=oL.2 ⟨t,ht,hst.subset (dS _ (cW ..))⟩;have hXn:(mZ c).Nodup:=bM.nodup jc eZ;have hpa:=dB ha;have hpb:=dB hb;have hne:iS c a≠iS c b:=λe=>hab (Hl ha hb e);have hra:=fH (tK (R:=bZ (an c (((0:Nat):Int)+1+1)) (an c (((0:Nat):Int)+1))) (n:=(bZ (an c (((0:Nat):Int)+1+1)) (an c (((0:Nat):Int)+1))).length) (q:=(an c (((0:Nat):Int)+1+1)).idxOf [a,b]));refine gu hra kT λz=>?_
 have key:z∈cq (trF (bZ (an c (((0:Nat):Int)+1+1)) (an c (((0:Nat):Int)+1))) (bZ (an c (((0:Nat):Int)+1+1)) (an c (((0:Nat):Int)+1))).length ((an c (((0:Nat):Int)+1+1)).idxOf [a,b]))↔z=iS c a\/z=iS c b:=by
  constructor
  ·intro hz;obtain⟨j,hj,rfl⟩:=kE.1 hz;have hjl:=du.1 (dJ.1 hj).1;rw[dF] at hjl;have hm:=(CM (X:=an c (((0:Nat):Int)+1+1)) hq hjl).1 hz;rw[hqe] at hm;obtain⟨-,f2,f3⟩:=en.1 hm;obtain⟨w,hw⟩:=List.length_eq_one_iff.1 f3;rw[hw] at f2;have:=List.singleton_sublist.1 f2
   have e:∀v,isV c v->w=v->(j:Int)=iS c v:=λv hv q=>by
    have h3:=(dB hv).2.2;have h2:=(dB hv).2.1;have h1:=(dB hv).1;have:=qg hXn hjl (j:=(iS c v).toNat) (DC hv) (by rw[h3,<-q];exact hw);omega
   rcases cU.1 this with q|q
   ·exact .inl (e a ha q)
   ·exact .inr (e b hb (bT.1 q))
  ·intro hz
   have f:∀v,isV c v->v∈[a,b]->iS c v∈cq (trF (bZ (an c (((0:Nat):Int)+1+1)) (an c (((0:Nat):Int)+1))) (bZ (an c (((0:Nat):Int)+1+1)) (an c (((0:Nat):Int)+1))).length ((an c (((0:Nat):Int)+1+1)).idxOf [a,b])):=λv hv hm=>by
    obtain⟨h1,h2,h3⟩:=dB hv
    have:=(CM (X:=an c (((0:Nat):Int) + 1 + 1)) hq (Y:=an c (((0:Nat):Int) + 1)) (j:=(iS c v).toNat) (DC hv)).2 (by
     rw[hqe];refine en.2 ⟨aJ _,?_,?_⟩
     ·rw[show(an c (((0:Nat):Int)+1)).getD (iS c v).toNat default=[v] from h3];exact List.singleton_sublist.2 hm
     ·rw[show(an c (((0:Nat):Int)+1)).getD (iS c v).toNat default=[v] from h3];rfl)
    rwa [Int.toNat_of_nonneg h1] at this
   rcases hz with rfl|rfl
   ·exact f a ha (cW ..)
   ·exact f b hb (dS _ (cW ..))
 rw[tT];dsimp only;unfold bit;simp only[key,bT];by_cases z1:z=iS c a
 ·rw[if_pos (.inl z1),if_pos z1,if_neg λz2=>hne (z1.symm.trans z2)]
 ·by_cases z2:z=iS c b
  ·rw[if_pos (.inr z2),if_neg z1,if_pos z2]
  ·rw[if_neg λq=>q.elim z1 z2,if_neg z1,if_neg z2]
theorem qb{c:List Spx}{p:Vtx×Vtx}:p∈dt c↔ ∃t∈c,p.1=t.getD 0 default/\p.2∈t.drop 1:=by
 unfold dt hZ;rw[List.mem_flatMap];constructor
 ·rintro⟨t,ht,hp⟩;obtain⟨v,hv,rfl⟩:=bu.1 hp;exact⟨t,ht,rfl,hv⟩
 ·rintro⟨t,ht,h1,h2⟩;refine⟨t,ht,bu.2 ⟨p.2,h2,?_⟩⟩;rw[<-h1]
theorem B6{t:Spx}(h:1<=t.length):t.getD 0 default∈t:=az (by omega)
theorem BX{t:Spx}{v:Vtx}(h:v∈t):v=t.getD 0 default\/v∈t.drop 1:=by
 cases t with
 |nil=>cases h
 | cons a t => rcases cU.1 h with q | q
               ·exact .inl q
               ·exact .inr q
theorem Il{t:Spx}{v:Vtx}(h:v∈t.drop 1):[t.getD 0 default,v].Sublist t:=by
 cases t with
 |nil=>cases h
 |cons a t=>exact List.Sublist.cons_cons _ (List.singleton_sublist.2 h)
theorem K7{c:List Spx}(hc:ay c=0):∀p∈dt c,isV c p.1/\isV c p.2:=λp hp=>by
 obtain⟨t,ht,h1,h2⟩:=qb.1 hp;have hl:=(bQ ((cp hc).2.1 t ht)).1;exact⟨oL.2 ⟨t,ht,by rw[h1];exact B6 hl⟩,oL.2 ⟨t,ht,A7 h2⟩⟩
theorem Ij{c:List Spx}:∀(n:Nat)(P:List (Vtx×Vtx)),P.length=n->(∀p∈P,isV c p.1/\isV c p.2)->UI c P
 |0,P,h,_=>by rw[fj.1 h];exact UI.nil c
 |n+1,P,h,hp=>by
  have e:P=P.take n++[P.getD n default]:=by
   have:=bD (l:=P) (k:=n) (by omega);rw[<-this,eM (by omega)]
  have hm:P.getD n default∈P:=az (by omega);rw[e];exact(Ij n (P.take n) (by rw[fY];omega) λp q=>hp p (lr q)).snoc (hp _ hm).1 (hp _ hm).2
theorem Gw{c:List Spx}(hc:ay c=0):UI c (dt c):=Ij _ _ rfl (K7 hc)
theorem Ff{c:List Spx}(hc:ay c=0)(hl:c.length<=50)(x:List Int):Sp (bdM c 0) x↔Sp ((dt c).map (evV c)) x:=by
 have hP:=(Gw hc).vr;have hM:=mL (rf (d:=0) hc hl);constructor
 ·refine jB hP.asc λr hr=>?_;unfold bdM trL at hr;obtain⟨q,hq,rfl⟩:=bu.1 hr;have hq:=du.1 hq;have hm:=az hq;have hXn:(an c (((0:Nat):Int)+1+1)).Nodup:=bM.nodup jc eZ;have hqi:=sf hXn hq;obtain⟨h1,h2,t,ht,hs⟩:=dY.1 hm;generalize (an c (((0:Nat):Int)+1+1)).getD q default=e at *
  obtain⟨a,b,rfl⟩:∃a b,e=[a,b]:=by
   match e,h2 with
   |[a,b],_=>exact⟨a,b,rfl⟩
  have he:=Ah hc hm;rw[hqi] at he;rw[he]
  have hv:∀w∈t,Sp ((dt c).map (evV c)) (evV c (t.getD 0 default,w)):=λw hw=>by
   rcases BX hw with q|q
   ·rw[q,BV];exact .nil
   ·exact dC (bu.2 ⟨_,qb.2 ⟨t,ht,rfl,q⟩,rfl⟩)
  have ha:=hv a (hs.subset (cW ..));rw[uk] at ha;have:=gD hP.asc ha (hv b (hs.subset (dS _ (cW ..))))
  rwa [lL] at this
 ·refine jB hM.asc λr hr=>?_;obtain⟨p,hp,rfl⟩:=bu.1 hr;obtain⟨t,ht,h1,h2⟩:=qb.1 hp;have hm:[p.1,p.2]∈an c (((0:Nat):Int)+1+1):=dY.2 ⟨by omega,rfl,t,ht,by rw[h1];exact Il h2⟩;rw[show evV c p=evV c (p.1,p.2) from rfl,<-Ah hc hm];exact dC (bu.2 ⟨_,du.2 (fG hm).1,rfl⟩)
theorem H9{c:List Spx}(hc:ay c=0)(hl:c.length<=50):rk (bdM c 0) (bdN c 0)=(ufL (dt c)).ks.length:=by
 rw[qR (mL (rf (d:=0) hc hl)) (Gw hc).vr (Ff hc hl),(Gw hc).rank]
theorem II{c:List Spx}(hc:ay c=0){t:Spx}{v:Vtx}(ht:t∈c)(hv:v∈t):(ufL (dt c)).rt v=(ufL (dt c)).rt (t.getD 0 default):=by
 rcases BX hv with q|q
 ·rw[q]
 ·exact((Gw hc).join (t.getD 0 default,v) (qb.2 ⟨t,ht,rfl,q⟩)).symm
theorem Cd{c:List Spx}(hc:ay c=0):(nsF (rtL c)).length+(ufL (dt c)).ks.length=(mZ c).length:=by
 have hF:=md (dt c);have hU:=Gw hc;have hn:=w6 (rtL c)
 have hr:∀v,v∈nsF (rtL c)↔ ∃t∈c,(ufL (dt c)).rt (t.getD 0 default)=v:=λv=>by
  rw[yt];unfold rtL;rw[bu]
 have hperm:((nsF (rtL c)++(ufL (dt c)).ks).map λv=>[v]).Perm (mZ c):=by
  refine(List.perm_ext_iff_of_nodup ?_ (bM.nodup jc eZ)).2 λs=>?_
  ·rw[List.Nodup,List.pairwise_map];refine yO (λ{a b} h e=>h (List.cons.inj e).1) (R:=λa b=>a≠b) ?_;refine s0.2 ⟨hn,hF.nd,λa ha b hb e=>?_⟩;obtain⟨t,ht,rfl⟩:=(hr a).1 ha;exact hF.top _ (by rw[e];exact hb)
  ·rw[bu];constructor
   ·rintro⟨v,hv,rfl⟩;rcases dZ.1 hv with h|h
    ·obtain⟨t,ht,rfl⟩:=(hr v).1 h;exact hU.vert _ (oL.2 ⟨t,ht,B6 (bQ ((cp hc).2.1 t ht)).1⟩)
    ·exact hU.keys v h
   ·intro hs;have h1:s.length=1:=(dY.1 hs).2.1;obtain⟨v,rfl⟩:=List.length_eq_one_iff.1 h1;refine⟨v,?_,rfl⟩;by_cases hk:v∈(ufL (dt c)).ks
    ·exact mh _ hk
    ·obtain⟨t,ht,hvt⟩:=oL.1 hs;exact nj _ ((hr v).2 ⟨t,ht,by rw[<-II hc ht hvt];exact hF.out v hk⟩)
 have:=hperm.length_eq;rw[bt,cA] at this;exact this
theorem De{c:List Spx}(hc:ay c=0)(hl:c.length<=50):btF c 0=((nsF (rtL c)).length:Int):=by
 have h4:rk (bdM c 0) (bdN c 0)=rkF c (0+1):=by
  have:=KA (IX (k:=0) hc hl);rw[dF] at this;unfold rkF;rw[show((0+1:Nat):Int)=((0:Nat):Int)+1 by omega];exact this
 rw[H9 hc hl] at h4;have h5:=Cd hc;have h6:=IQ (c:=c);unfold mZ at h5;unfold btF;omega
theorem Dy{c:List Spx}{m k:Nat}(h:k<m):(btL c m).getD k default=btF c k:=by unfold btL;simp[List.getD,h]
theorem EB{c:List Spx}(hc:ay c=0)(hl:c.length<=50){k:Nat}(hk:k<=8):-40000<=r8 c k/\r8 c k<=40000:=by
 have h1:=yU (c:=c) (λj=>nr (k:=j) hl λs hs=>(bQ ((cp hc).2.1 s hs)).2.1) k;have h2:=oa (c:=c) (d:=k);have h3:=de hc hl (d:=(k:Int)+1);rw[zb];split<;>omega
theorem CG{l:List Spx}:AV.ones (l.map ar)=true:=by
 unfold AV.ones;rw[eA];intro x hx;obtain⟨y,_,rfl⟩:=bu.1 hx;rfl
theorem Ou{g:FuncId}{args args':List AV}{r:AV}(hp:pU g args' r){H:Hp}{nx b:Nat}{cs:List AV}(hb:H b=some cs)(hs:aO (only b cs) args args'):Abs.Fn Tryz.prog g args H nx λr' H' nx'=>r'=r/\H'=c9 H b/\nx'=nx:=
 Abs.Fn.of_pureZ hp (Hf:=only b cs) (H':=c9 H b) (fun a cs' h=>by
  unfold only at h;split at h
  ·rename_i e;cases h;subst e;exact hb
  ·cases h) (λa cs' h=>by
  unfold c9 at h;split at h
  ·cases h
  ·rename_i e;exact⟨h,by unfold only;rw[if_neg e]⟩) hs ⟨rfl,rfl,rfl⟩
theorem KO{g:FuncId}{r:AV}{l:List Spx}(hp:pU g [ak l] r){H:Hp}{nx:Nat}{s:AV}(hrow:Row H 1 s (l.map ar)):Abs.Fn Tryz.prog g [s] H nx λr' H' nx'=>r'=r/\nx'=nx/\∀x,cf s≠some x->H' x=H x:=by
 generalize hcs:l.map ar=cs at hrow;cases hrow with
 |nil=>exact Abs.Fn.of_pureZ hp (Hf:=b9) (H':=H) (λb cs h=>by cases h) (λb cs h=>⟨h,rfl⟩) (ag (iu (by rw[hcs];exact Row.nil)) aj) ⟨rfl,rfl,λ_ _=>rfl⟩
 |box b len cs g1 g2=>
  refine Abs.Fn.of_pureZ hp (Hf:=only b cs) (H':=c9 H b) (λa cs' h=>?_) (λa cs' h=>?_) (ag (iu (by rw[hcs];exact Row.box b len cs jl g2)) aj) ⟨rfl,rfl,λx hx=>cK (λe=>hx (by rw[e];rfl))⟩
  ·unfold only at h;split at h
   ·rename_i e;cases h;subst e;exact g1
   ·cases h
  ·unfold c9 at h;split at h
   ·cases h
   ·rename_i e;exact⟨h,by unfold only;rw[if_neg e]⟩
section
attribute [local irreducible] aM am bn aZ aS aV aD aX ba bw Go.Abs.Fn aY Go.Abs.Pure aq aO Yl
theorem Kt:pU 12 [] (.bool true):=by
 refine pO QN ?_;simp only[b12,aK];have o01:PureF Tryz.prog 42 [aH [0,1]] (ar (eG [0,1])):=pE _ (by decide);have o02:PureF Tryz.prog 42 [aH [0,2]] (ar (eG [0,2])):=pE _ (by decide);have o12:PureF Tryz.prog 42 [aH [1,2]] (ar (eG [1,2])):=pE _ (by decide);have o012:PureF Tryz.prog 42 [aH [0,1,2]] (ar (eG [0,1,2])):=pE _ (by decide);have o013:PureF Tryz.prog 42 [aH [0,1,3]] (ar (eG [0,1,3])):=pE _ (by decide);have o023:PureF Tryz.prog 42 [aH [0,2,3]] (ar (eG [0,2,3])):=pE _ (by decide);have o123:PureF Tryz.prog 42 [aH [1,2,3]] (ar (eG [1,2,3])):=pE _ (by decide);have zz:=aI @bf (aI @aR (aI @ai @af));repeat' (first|refine zW ?_|apply a_n|refine zO ?_|refine vZ ?_|refine blZ ?_|fail)
 refine gy ev0 ev0 o01 (ag (eN (n:=2) (len:=2) (l:=[0,1]) (by exact rfl) rfl rfl) aj) ?_;clear zz;have zz:=aI @bf (aI @aR (aI @ai @af));repeat' (first|apply a_n|refine zO ?_|refine blZ ?_|fail)
 refine gy ev0 ev0 o02 (ag (eN (n:=2) (len:=2) (l:=[0,2]) (by exact rfl) rfl rfl) aj) ?_;clear zz;have zz:=aI @bf (aI @aR (aI @ai @af));repeat' (first|apply a_n|refine zO ?_|refine blZ ?_|fail)
 refine gy ev0 ev0 o12 (ag (eN (n:=2) (len:=2) (l:=[1,2]) (by exact rfl) rfl rfl) aj) ?_;clear zz;have zz:=aI @bf (aI @aR (aI @ai @af));repeat' (first|refine zW ?_|apply a_n|refine zO ?_|refine vZ ?_|refine blZ ?_|fail)
 refine gy ev0 ev0 o012 (ag (eN (n:=3) (len:=3) (l:=[0,1,2]) (by exact rfl) rfl rfl) aj) ?_;clear zz;have zz:=aI @bf (aI @aR (aI @ai @af));repeat' (first|refine zW ?_|apply a_n|refine zO ?_|refine vZ ?_|refine alZ ?_|refine stZ ?_|refine blZ ?_|fail)
 refine gy ev0 ev0 o012 (ag (eN (n:=3) (len:=3) (l:=[0,1,2]) (by exact rfl) rfl rfl) aj) ?_;clear zz;have zz:=aI @bf (aI @aR (aI @ai @af));repeat' (first|apply a_n|refine zO ?_|refine blZ ?_|fail)
 refine gy ev0 ev0 o013 (ag (eN (n:=3) (len:=3) (l:=[0,1,3]) (by exact rfl) rfl rfl) aj) ?_;clear zz;have zz:=aI @bf (aI @aR (aI @ai @af));repeat' (first|apply a_n|refine zO ?_|refine blZ ?_|fail)
 refine gy ev0 ev0 o023 (ag (eN (n:=3) (len:=3) (l:=[0,2,3]) (by exact rfl) rfl rfl) aj) ?_;clear zz;have zz:=aI @bf (aI @aR (aI @ai @af));repeat' (first|apply a_n|refine zO ?_|refine blZ ?_|fail)
 refine gy ev0 ev0 o123 (ag (eN (n:=3) (len:=3) (l:=[1,2,3]) (by exact rfl) rfl rfl) aj) ?_;clear zz;have zz:=aI @bf (aI @aR (aI @ai @af));repeat' (first|apply a_n|refine zO ?_|refine vZ ?_|refine alZ ?_|refine stZ ?_|refine blZ ?_|fail)
 refine dT ?_;refine o9 (onL [(3,[ar (eG [0,1]),ar (eG [0,2]),ar (eG [1,2])]),(5,[ar (eG [0,1,2])]),(12,[ar (eG [0,1,2]),ar (eG [0,1,3]),ar (eG [0,2,3]),ar (eG [1,2,3])])]) _ [(1,ak dD),(2,.ptr 6 1 0),(3,.ptr 7 1 0),(4,.ptr 13 1 0)] (Mi (l2:=[(6,.msl 3 3 1 0 3,ak dD),(7,.msl 5 1 1 0 1,ak iL),(13,.msl 12 4 1 0 4,ak n5)]) ?_ ?_) ⟨.inr (qL (l:=dD) rfl rfl),.inl rfl,.inl rfl,.inl rfl,trivial⟩ ?_
 ·intro p hp;simp only[cU,List.not_mem_nil,or_false] at hp;rcases hp with rfl|rfl|rfl<;>exact rfl
 ·intro q hq;simp only[cU,List.not_mem_nil,or_false] at hq;rcases hq with rfl|rfl|rfl
  ·exact⟨rfl,rfl,qL (l:=dD) rfl rfl⟩
  ·exact⟨rfl,rfl,qL (l:=iL) rfl rfl⟩
  ·exact⟨rfl,rfl,qL (l:=n5) rfl rfl⟩
 have h6:onL ([(6,AV.msl 3 3 1 0 3,ak dD),(7,.msl 5 1 1 0 1,ak iL),(13,.msl 12 4 1 0 4,ak n5)].map λq=>(q.1,[q.2.2])) 6=some [ak dD]:=rfl;have h7:onL ([(6,AV.msl 3 3 1 0 3,ak dD),(7,.msl 5 1 1 0 1,ak iL),(13,.msl 12 4 1 0 4,ak n5)].map λq=>(q.1,[q.2.2])) 7=some [ak iL]:=rfl;have h13:onL ([(6,AV.msl 3 3 1 0 3,ak dD),(7,.msl 5 1 1 0 1,ak iL),(13,.msl 12 4 1 0 4,ak n5)].map λq=>(q.1,[q.2.2])) 13=some [ak n5]:=rfl;generalize onL ([(6,AV.msl 3 3 1 0 3,ak dD),(7,.msl 5 1 1 0 1,ak iL),(13,.msl 12 4 1 0 4,ak n5)].map λq=>(q.1,[q.2.2]))=HH at *;have sl2:jC 1 (ak dD) (some (.int .i64 2)) none none=some (ak [eG [1,2]]):=rfl;have lc1:dH (gX [dD])=some (.int .i64 1):=rfl;have z18:eP 1 (gX [dD]) (.int .i64 0)=some (.iptr [ak dD] 0):=rfl;have s1:=N7 dD Bq;have hce:∀c:List Spx,AV.agg [ak c]=b7 c:=λ_=>rfl;clear zz;have zz:=aI @h6 (aI @h7 (aI @h13 (aI @sl2 (aI @lc1 (aI @z18 (aI @bf (aI @aR (aI @ai @af))))))));repeat' (first|refine zW ?_|apply a_n|refine zO ?_|refine vZ ?_|refine cZ ?_ (hp:=by first|exact GY|exact IL|exact IU|exact LF|exact Lz|exact Mr|exact HT|exact I0|exact I9|exact Iy|exact HN|exact Hq|exact Ef|exact s1) (hs:=by(first|refine aB ?_ rfl|apply aL);(repeat' (first|exact aj|apply bk|apply aN|exact bJ _|exact bI _|exact kM _|exact dz _));first|done|fail)|refine blZ ?_|refine gTZ ?_|(refine zGZ ?_ ?_<;>(intro _hg;try (exfalso;omega)))|fail)
 refine ey ev0 ev0 NW (aB (ag (dz _ _) (ag (eN (n:=2) (len:=2) (l:=[1,1]) (by exact rfl) rfl rfl) aj)) rfl) ?_;clear zz;have zz:=aI @h6 (aI @h7 (aI @h13 (aI @sl2 (aI @lc1 (aI @z18 (aI @bf (aI @aR (aI @ai @af))))))));repeat' (first|apply a_n|refine zO ?_|refine vZ ?_|refine blZ ?_|refine gTZ ?_|fail)
 refine ey ev0 ev0 M5 (aB (ag (dz _ _) (ag (eN (n:=3) (len:=3) (l:=[1,0,0]) (by exact rfl) rfl rfl) aj)) rfl) ?_;clear zz;have zz:=aI @h6 (aI @h7 (aI @h13 (aI @sl2 (aI @lc1 (aI @z18 (aI @bf (aI @aR (aI @ai @af))))))));repeat' (first|apply a_n|refine zO ?_|refine vZ ?_|refine blZ ?_|refine gTZ ?_|fail)
 refine ey ev0 ev0 MO (aB (ag (dz _ _) (ag (eN (n:=3) (len:=3) (l:=[1,0,1]) (by exact rfl) rfl rfl) aj)) rfl) ?_;clear zz;have zz:=aI @h6 (aI @h7 (aI @h13 (aI @sl2 (aI @lc1 (aI @z18 (aI @bf (aI @aR (aI @ai @af))))))));repeat' (first|refine zW ?_|apply a_n|refine zO ?_|refine vZ ?_|refine cZ ?_ (hp:=by first|exact GY|exact IL|exact IU|exact LF|exact Lz|exact Mr|exact HT|exact I0|exact I9|exact Iy|exact HN|exact Hq|exact Ef|exact s1) (hs:=by(first|refine aB ?_ rfl|apply aL);(repeat' (first|exact aj|apply bk|apply aN|exact bJ _|exact bI _|exact kM _|exact dz _));first|done|fail)|refine blZ ?_|refine gTZ ?_|(refine zGZ ?_ ?_<;>(intro _hg;try (exfalso;omega)))|refine cFZ ?_|fail)
 refine gy ev0 ev0 o012 (ag (eN (n:=3) (len:=3) (l:=[0,1,2]) (by exact rfl) rfl rfl) aj) ?_;clear zz;have zz:=aI @h6 (aI @h7 (aI @h13 (aI @sl2 (aI @lc1 (aI @z18 (aI @bf (aI @aR (aI @ai @af))))))));repeat' (first|apply a_n|refine zO ?_|refine blZ ?_|refine gTZ ?_|fail)
 refine ey ev0 ev0 (N7 iL MG) (aB (ag (bJ _ _) (ag (qL (b:=18) (n:=1) (l:=iL) (by exact rfl) rfl) aj)) rfl) ?_;clear zz;have zz:=aI @h6 (aI @h7 (aI @h13 (aI @sl2 (aI @lc1 (aI @z18 (aI @bf (aI @aR (aI @ai @af))))))));repeat' (first|refine zW ?_|apply a_n|refine zO ?_|refine vZ ?_|refine gTZ ?_|refine cFZ ?_|fail)
 try refine Go.Abs.w_mix1 ?_
 clear zz;have zz:=aI @h6 (aI @h7 (aI @h13 (aI @sl2 (aI @lc1 (aI @z18 (aI @bf (aI @aR (aI @ai @af))))))));repeat' (first|apply a_n|refine zO ?_|refine vZ ?_|refine cZ ?_ (hp:=by first|exact GY|exact IL|exact IU|exact LF|exact Lz|exact Mr|exact HT|exact I0|exact I9|exact Iy|exact HN|exact Hq|exact Ef|exact s1) (hs:=by(first|refine aB ?_ rfl|apply aL);(repeat' (first|exact aj|apply bk|apply aN|exact bJ _|exact bI _|exact kM _|exact dz _));first|done|fail)|refine gTZ ?_|(refine zGZ ?_ ?_<;>(intro _hg;try (exfalso;omega)))|fail)
 refine ey ev0 ev0 Ef (aB (ag (bI _ _) (ag (bJ _ _) (ag (.eslsl 1) aj))) rfl) ?_
 repeat' (first|apply a_n|refine zO ?_|refine vZ ?_|refine gTZ ?_|refine bC rfl ?_|refine r1Z ?_|fail)
 exact .bool _
def u9(c:List Spx)(l:List (List Spx)):Bool:=l.all wz&&(mw c&&decide (rC c c.length<=400))
theorem Kc(c:List Spx)(l:List (List Spx))(hc:Shn c)(hs:∀s∈c,Shn s)(hl:Shn l)(ha:∀a∈l,ShC a):pU 11 [b7 c,gX l] (.bool (u9 c l)):=by
 refine pO Qo ?_;simp only[b11,aK];have hc':c.length<=17592186044416:=hc;have hl':l.length<=17592186044416:=hl;have f1:=Ji c hc hs;unfold u9;refine wnY (zI3 @ai @af @wj) ?_;refine lpI (X:=Nat) (λk=>[(2,.ptr 0 1 0),(10,gX l),(11,.int .i64 l.length),(12,.int .i64 k)]) (λk H nx=>k<=l.length/\H 0=some [ak c]/\∀i,i<k->wz (l.getD i default)=true) (λk=>l.length-k) 0 ⟨bW _,rfl,λi h=>absurd h (by omega)⟩ ?_;rintro k H nx ⟨k1,g0,k2⟩;by_cases hk:k<l.length
 ·have ix:=Qj hk;have hf:=K8 (l.getD k default) (ha _ (az hk));cases hv:wz (l.getD k default)
  ·rw[ke hk hv,Bool.false_and];rw[hv] at hf;generalize l.getD k default=a at *;refine wnY @ix ?_;exact .bool _
  ·rw[hv] at hf
   have k3:∀i,i<k+1->wz (l.getD i default)=true:=λi hi=>by
    rcases(by omega:i<k\/i=k) with h|rfl
    ·exact k2 i h
    ·exact hv
   generalize l.getD k default=a at *;refine wnY @ix ?_;exact⟨k+1,by omega,⟨by omega,g0,k3⟩,ag0⟩
 obtain rfl:k=l.length:=by omega
 rw[lN k2,Bool.true_and];refine wnY (aI @g0 @ah) ?_;clear k2 k1 hk;refine lpI (X:=Nat) (λk=>[(2,.ptr 0 1 0),(7,.int .i64 (rC c k)),(21,ak c),(22,.int .i64 c.length),(23,.int .i64 k)]) (λk H nx=>k<=c.length/\H 0=some [ak c]) (λk=>c.length-k) 0 ⟨bW _,g0⟩ ?_;clear g0;rintro k H nx ⟨g1,g2⟩;have hb:=yH (c:=c) k;by_cases hk:k<c.length
 ·have ix:=eO hk;have hsl:(c.getD k default).length<=17592186044416:=hs _ (az hk);have hb2:=yH (c:=c) (k+1);have hfs:rC c (k+1)=rC c k+2^min (c.getD k default).length 10:=rfl
  have hsh:∀tb tf,bE .shl tb tf (.int .i64 1) (.int .i64 (min ((c.getD k default).length:Int) 10))=some (.int .i64 ((2^min (c.getD k default).length 10:Nat):Int)):=λtb tf=>by
   have h1:min ((c.getD k default).length:Int) 10=((min (c.getD k default).length 10:Nat):Int):=by omega
   have h2:2^min (c.getD k default).length 10<=2^10:=Nat.pow_le_pow_right (by omega) (by omega);rw[h1];have:=DZ (k:=.i64) (k':=.i64) (a:=1) (b:=min (c.getD k default).length 10) (tb:=tb) (tf:=tf) (by show _<=64;omega) (by show 1*_<2^63;omega);rw[Nat.one_mul] at this;exact this
  rw[hfs] at hb2;generalize 2^min (c.getD k default).length 10=P at *;generalize c.getD k default=s at *;have hce:((rC c (k+1):Nat):Int)=(rC c k:Int)+(P:Int):=by rw[hfs];omega
  refine wnY (zI3 @ix @au @hsh) ?_;exact⟨k+1,by omega,⟨by omega,g2⟩,by rw[hce];simp (disch:=omega) only[agr,ZG,reduceEqDiff,↓reduceIte]⟩
 obtain rfl:k=c.length:=by omega
 cases e1:mw c
 ·rw[e1] at f1;rw[Bool.false_and];refine wnY (zI3 @g2 @ai @af) ?_;exact .bool _
 rw[e1] at f1;rw[Bool.true_and];by_cases h3:rC c c.length<=400
 ·have z:decide ((rC c c.length:Int)<=400)=true:=bd (by omega);rw[bd h3];refine wnY (zI4 @g2 @z @ai @af) ?_;exact .bool _
 ·have z:decide ((rC c c.length:Int)<=400)=false:=bh (by omega);rw[bh h3];refine wnY (zI4 @g2 @z @ai @af) ?_;exact .bool _
theorem Fy{c:List Spx}{l:List (List Spx)}(h:u9 c l=true):(∀a∈l,wz a=true)/\c.length<=30/\rC c c.length<=400:=by
 unfold u9 at h;simp only[eh,iG] at h;exact⟨λa ha=>eA.1 h.1 a ha,(Cx.1 h.2.1).1,h.2.2⟩
section
variable{α:Type}[Inhabited α]{f:α->AV}{K:α->α->Int}{G:α->Prop}{g:Nat}{caps:List AV}
theorem It(hc:Cmp2 Tryz.prog f K G g caps){L:List α}{H:Hp}{b nx n lim:Nat}(hH:H b=some (L.c2 f))(hn:L.length=n)(hG:∀x∈L,G x)(hn2:n<=12):
    Abs.Fn Tryz.prog 162 [.msl b (n*2) 2 0 n,.int .i64 0,.int .i64 n,.int .i64 lim,.func g caps] H nx λr H' nx'=>nx'=nx/\∃L',H'=ao H b (L'.c2 f)/\PermR 0 n L L'/\br K 0 n L':=by
 refine fO Pk ?_;simp only[NC,aK];have z:decide ((n:Int)<=12)=true:=bd (by omega)
 repeat' (first|refine zW ?_|apply a_n|refine zO ?_|refine vZ ?_|fail)
 refine ca (X:=Unit) (λx=>[(0,.msl b (n*2) 2 0 n),(1,.int .i64 0),(2,.int .i64 n),(3,.int .i64 lim),(4,.func g caps)]) (λx H' nx'=>H'=H/\nx'=nx) (λx=>0) () ⟨rfl,rfl⟩ ag0 ?_;rintro _ _ _ ⟨rfl,rfl⟩;have zz:=aI @z @Int.sub_zero;repeat' (first|refine zW ?_|apply a_n|refine zO ?_|refine vZ ?_|refine cTZ ?_|fail)
 refine aU ev0 (have zz:=@Int.natCast_zero;evZ) (Ot hc (b:=b) (a:=0) hH hn hG (bW _) (aJ _) (by omega)) ?_;rintro _ _ _ ⟨rfl,L',rfl,hp,hs⟩
 repeat' (first|apply a_n|apply a_r|refine zO ?_|refine bC rfl ?_|fail)
 exact⟨rfl,L',rfl,hp,hs⟩
theorem Gm(hc:Cmp2 Tryz.prog f K G g caps){L:List α}{H:Hp}{b nx n:Nat}(hH:H b=some (L.c2 f))(hbx:b<nx)(hn:L.length=n)(hn0:0<n)(hG:∀x∈L,G x)(hn2:n<=12):
    Abs.Fn Tryz.prog 142 [.msl b (n*2) 2 0 n,.func g caps] H nx λr H' nx'=>∃L',PS H H' nx nx' b (L'.c2 f)/\L'.Perm L/\br K 0 n L':=by
 refine fO MR ?_;simp only[NF,aK];have w:IntKind.wrap .u64 (n:Int)=n:=gR (by omega) (by omega);have zz:=@w;repeat' (first|refine zW ?_|apply a_n|refine zO ?_|refine vZ ?_|fail)
 refine aU ev0 (have zz:=@w;evZ) (Ek hn0 (by omega)) ?_;rintro _ _ _ ⟨rfl,rfl,k,rfl,h3,h4⟩
 repeat' (first|apply a_n|refine zO ?_|refine vZ ?_|fail)
 refine aU ev0 (have zz:=@Int.natCast_zero;evZ) (It hc hH hn hG hn2) ?_;rintro _ _ _ ⟨rfl,N,rfl,hp,hs⟩
 repeat' (first|apply a_n|refine zO ?_|refine bC rfl ?_|fail)
 exact⟨N,⟨ae,λi _ h2=>ab h2,aJ _⟩,hp.perm,hs⟩
end
theorem qN(c:List Spx)(hs:∀s∈c,s≠[])(h0:c≠[])(hl:c.flatten.length<=12)(hc:c.length<=100000):pU 93 [ak c] (ar (iJ cl c.flatten)):=by
 refine pO QM ?_;simp only[b93,aK]
 have hpos:0<c.flatten.length:=by
  rw[iM];intro e;obtain⟨s,hm⟩:=List.exists_mem_of_ne_nil c h0;exact hs s hm (List.flatten_eq_nil_iff.1 e s hm)
 repeat' (first|refine zW ?_|apply a_n|refine zO ?_|refine vY ?_|fail)
 refine aU ev0 ev0 (E5 c h0 hs (by omega) (by omega) _ _) ?_;rintro _ _ _ ⟨rfl,rfl,rfl⟩;generalize c.flatten=M at *
 repeat' (first|refine zW ?_|apply a_n|refine zO ?_|refine vY ?_|fail)
 refine aU ev0 ev0 (Gm Nn (L:=M) (b:=0) (n:=M.length) ae (by omega) rfl hpos (λ_ _=>trivial) (by omega)) ?_;rintro _ H3 nx3 ⟨L,ps,hperm,hsort⟩;have hLl:L.length=M.length:=hperm.length_eq;have hL0:L≠[]:=λe=>by rw[e] at hLl;simp at hLl;omega
 have hB3:H3 0=some (cX L):=ps.at_;rw[<-hLl]
 repeat' (first|refine zW ?_|apply a_n|refine zO ?_|refine vY ?_|fail)
 refine aU ev0 ev0 (Ck L (show _<=_ by omega) hL0 H3 0 nx3 hB3 (by have:=ps.le;omega)) ?_;rintro _ H4 nx4 ⟨rfl,⟨C,rfl,c1,c2⟩,rfl⟩;have hd:fx L L.length=iJ cl M:=x8 oz hperm (by rw[hLl];exact hsort);rw[hd] at c2;have hle:=Bf L L.length;have hdl:=xL L L.length;rw[hd] at hdl
 repeat' (first|apply a_n|refine zO ?_|refine vY ?_|refine bC rfl ?_|refine r1Y ?_|fail)
 exact CE ae c1 (by omega) hdl c2
theorem FS(l:List Spx)(hl:l.length<=1000000)(H:Hp)(nx:Nat):Abs.Fn Tryz.prog 91 [ak l] H nx λr H' nx'=>Row H' 1 r (l.map ar)/\nx<=nx'/\(∀x,x<nx->H' x=H x)/\∀b,cf r=some b->nx<=b/\b<nx':=by
 refine fO Pf ?_;simp only[b91,aK];have hn:eT (ak l)=some l.length:=by unfold ak iO;simp[eT]
 have fin:l.length=0->l.map ar=[]:=λh=>by rw[fj.1 h];rfl
 repeat' (first|refine zW ?_|apply a_n|refine zO ?_|refine vY ?_|fail)
 refine rp (k:=l.length) (by((try simp only[ct,ZA,reduceEqDiff,↓reduceIte,reduceAdd,reduceLeDiff]);(try with_reducible rfl));exact hn) (λh=>?_) (λh=>?_) (λh=>?_)
 ·repeat' (first|refine zW ?_|apply a_n|refine zO ?_|refine vY ?_|refine b0Y ?_|refine cFY ?_|fail)
  refine jG rfl ev0 ev0 yo CG (by omega) (by omega) ?_
  repeat' (first|apply a_n|refine zO ?_|refine vY ?_|refine bC rfl ?_|refine r1Y ?_|fail)
  refine⟨by simpa only[Nat.mul_one] using Row.box (sz:=1) nx l.length (l.map ar) (ae (H:=H)) (by rw[bt,Nat.mul_one]),by omega,λx hx=>ab (by omega),λb hb=>by cases hb;omega⟩
 ·repeat' (first|refine zW ?_|apply a_n|apply a_r|refine zO ?_|refine vY ?_|refine cTY ?_|refine bC rfl ?_|refine r1Y ?_|fail)
  refine⟨by rw[fin h];exact Row.nil,aJ _,λx hx=>rfl,λb hb=>(by cases hb)⟩
 ·repeat' (first|refine zW ?_|apply a_n|refine zO ?_|refine vY ?_|refine b0Y ?_|refine cFY ?_|fail)
  refine jG rfl ev0 ev0 yo CG (by omega) (by omega) ?_
  repeat' (first|apply a_n|refine zO ?_|refine vY ?_|refine bC rfl ?_|refine r1Y ?_|fail)
  refine⟨by simpa only[Nat.mul_one] using Row.box (sz:=1) nx l.length (l.map ar) (ae (H:=H)) (by rw[bt,Nat.mul_one]),by omega,λx hx=>ab (by omega),λb hb=>by cases hb;omega⟩
theorem JE(c d:List Spx)(hc:ay c=0)(hd:ay d=0):pU 89 [b7 c,b7 d] (.int .i64 0):=by
 refine pO Qv ?_;simp only[b89,aK];have hsh:∀{c:List Spx},ay c=0->∀t∈c,Shn t:=λh t ht=>by have:=(bQ ((cp h).2.1 t ht)).2.1;show _<=_;omega
 have h1:=gM c (show _<=_ by have:=(cp hc).1;omega) (hsh hc);have h2:=gM d (show _<=_ by have:=(cp hd).1;omega) (hsh hd);rw[hc] at h1;rw[hd] at h2;have z0:decide ((0:Int)≠0)=false:=rfl;have zz:=aI @ai (aI @af @z0);repeat' (first|refine zW ?_|apply a_n|refine zO ?_|refine vY ?_|refine cY ?_ (hp:=by first|exact h1|exact h2) (hs:=by(first|refine aB ?_ rfl|apply aL);(repeat' (first|exact aj|apply bk|apply aN|exact bI _));first|done|fail)|refine bxY ?_|refine cFY ?_|refine bC rfl ?_|refine r1Y ?_|fail)
 exact .int _ _
theorem vD{v:Vtx}(h:ce [v]=0):ay [[v]]=0:=by
 refine sG (by simp) (λt ht=>?_) (List.pairwise_singleton ..) (λt ht=>?_)
 ·rw[bT.1 ht];exact h
 ·rw[bT.1 ht];unfold b5;simp
def jnT(c:List Spx)(v:Vtx):List Spx×Int:=if c=[] then([[v]],0) else if iX c c.length v≠[] then([],7) else if fM c=8 then([],5) else(ma (c.map (cnV v)),0)
theorem Jp(c:List Spx)(v:Vtx)(hc:ay c=0)(hv:ce [v]=0):pU 39 [b7 c,b7 [[v]]] (.tup [b7 (jnT c v).1,.int .i64 (jnT c v).2]):=by
 refine pO Q0 ?_;simp only[b39,aK];have hd:=vD hv;obtain⟨m,hm,hm8⟩:=nF hc;have hV:=qN [[v]] (λt ht e=>by rw[bT.1 ht] at e;cases e) (by simp) (by simp) (by simp);rw[show iJ cl [[v]].flatten=[v] from rfl] at hV;obtain⟨d,hde⟩:∃d,d=[[v]]:=⟨_,rfl⟩
 rw[<-hde] at hd hV |-;have hdl:d.length=1:=by rw[hde];rfl
 have hdz:(d.length:Int)=1:=by rw[hdl];rfl
 have hbo:=JE c d hc hd;obtain⟨c1,c2,c3,c4⟩:=cp hc;have hcs:∀t∈c,Shn t:=λt ht=>by have:=(bQ (c2 t ht)).2.1;show _<=_;omega
 have z0:decide ((0:Int)≠0)=false:=rfl;have z1:decide ((1:Int)=0)=false:=rfl;by_cases hc0:c=[]
 ·have hcz:(c.length:Int)=0:=by rw[hc0];rfl
  have z2:decide ((0:Int)=0)=true:=rfl
  have hco:=sA (c ++ d) (by rw [hc0,List.nil_append]; omega) (fun t ht=>by
   rw[hc0,List.nil_append,hde] at ht;rw[bT.1 ht];exact⟨List.pairwise_singleton _ _,by simp,by simp⟩)
  rw[show ma (c++d)=(jnT c v).1 by unfold jnT;rw[if_pos hc0,hc0,List.nil_append,FY hd,hde],show(jnT c v).2=0 by unfold jnT;rw[if_pos hc0]] at *;generalize (jnT c v).1=K at *;have zz:=aI @ai (aI @af (aI @ah (aI @hcz (aI @hdz (aI @z0 (aI @z1 @z2))))));repeat' (first|refine zW ?_|apply a_n|refine zO ?_|refine vY ?_|refine cY ?_ (hp:=hbo) (hs:=by(first|refine aB ?_ rfl|apply aL);(repeat' (first|exact aj|apply bk|apply aN|exact bI _));first|done|fail)|refine alY ?_|refine bxY ?_|refine gFY ?_|(refine zGY ?_ ?_<;>(intro _hg;try (exfalso;omega)))|refine cTY ?_|refine cFY ?_|fail)
  have g0:ao (ao (ao b9 0 [ak c]) (0+1) [ak d]) (0+1+1) [AV.esl] 0=some [ak c]:=by rw[ab (by omega),ab (by omega),ae]
  have g1:ao (ao (ao b9 0 [ak c]) (0+1) [ak d]) (0+1+1) [AV.esl] 1=some [ak d]:=by rw[ab (by omega),ae]
  have g2:ao (ao (ao b9 0 [ak c]) (0+1) [ak d]) (0+1+1) [AV.esl] 2=some [.esl]:=ae;generalize ao (ao (ao b9 0 [ak c]) (0+1) [ak d]) (0+1+1) [AV.esl]=H0 at *;refine pz 0 1 g0 g1 (by omega) λS hS0 hS1 hsub=>?_;simp only[ff,List.map_nil,List.getD_cons_succ,List.getD_cons_zero];clear zz;have zz:=aI @hS0 @hS1;repeat' (first|apply a_n|refine zO ?_|refine nvY ?_|fail)
  refine eb ?_;refine aU ev0 ev0 (FS c (by omega) _ _) ?_;rintro r H1 nx1 ⟨k1,k2,k3,k4⟩;have q0:=(k3 0 (by omega)).trans g0;have q1:=(k3 1 (by omega)).trans g1;have q2:=(k3 2 (by omega)).trans g2;refine jv ⟨hsub _ q0 q1,?_⟩;clear zz;have zz:=aI @hS0 @hS1;repeat' (first|apply a_n|refine zO ?_|apply iR|fail)
  refine mY rfl ev0 k1 ev0 yo CG (by rw[bt,Nat.mul_one]) ng (by rw[bt];omega) (by rw[bt];omega) ?_;rintro s2 H2 nx2 hr2 i1 i2 i3 i4;rw[<-dr] at hr2;have r2:=(i3 2 (by omega) (λh=>by have:=(k4 2 h).1;omega)).trans q2
  have hb:cf s2≠some 2:=λe=>by
   rcases i4 2 e with h|h
   ·have:=(k4 2 h).1;omega
   ·omega
  repeat' (first|apply a_n|refine zO ?_|apply iR|fail)
  refine aU ev0 ev0 (KO hco hr2) ?_;rintro _ H3 nx3 ⟨rfl,rfl,j3⟩;have r3:=(j3 2 hb).trans r2;clear zz;have zz:=aI @r3 (aI @ai @af);repeat' (first|apply a_n|apply a_r|refine zO ?_|refine nvY ?_|apply iR|refine stY ?_|refine bC rfl ?_|refine r2Y ?_|fail)
  exact zw (bJ _).snap rfl
 have hcz:decide ((c.length:Int)=0)=false:=bh (by have:=iM.2 hc0;omega);have zz:=aI @ai (aI @af (aI @ah (aI @hcz (aI @z0 (aI @z1 @hdz)))));repeat' (first|refine zW ?_|apply a_n|refine zO ?_|refine vY ?_|refine cY ?_ (hp:=hbo) (hs:=by(first|refine aB ?_ rfl|apply aL);(repeat' (first|exact aj|apply bk|apply aN|exact bI _));first|done|fail)|refine alY ?_|refine bxY ?_|refine gTY ?_|refine cFY ?_|fail)
 refine aU ev0 ev0 (oe c (by omega) (λt h=>⟨(bQ (c2 t h)).2.2.1,by have:=(bQ (c2 t h)).2.1;omega⟩) _ _) ?_;rintro _ H1 nx1 ⟨ks,vs,rfl,hinc,hsame,hlt⟩;have g0:H1 0=some [ak c]:=(hsame 0 (by omega)).trans (by rw[ab (by omega),ab (by omega),ae]);have g1:H1 1=some [ak d]:=(hsame 1 (by omega)).trans (by rw[ab (by omega),ae]);have g2:H1 2=some [.esl]:=(hsame 2 (by omega)).trans ae;clear zz;have zz:=aI @g1 (aI @ai (aI @af @au));repeat' (first|refine zW ?_|apply a_n|refine zO ?_|refine vY ?_|refine cY ?_ (hp:=hV) (hs:=by(first|refine aB ?_ rfl|apply aL);(repeat' (first|exact aj|apply bk|apply aN|exact bJ _));first|done|fail)|fail)
 refine lpI (X:=Nat) (λk=>[(2,.ptr 0 1 0),(3,.ptr 1 1 0),(4,.ptr 2 1 0),(7,.mp 3),(48,ar [v]),(49,.int .i64 1),(50,.int .i64 k)]) (λk H nx=>k<=1/\(k=1->iX c c.length v=[])/\nx1<=nx/\∀y,y<nx1->H y=H1 y) (λk=>1-k) 0 ⟨bW _,λh=>(by cases h),aJ _,λ_ _=>rfl⟩ ?_;rintro k H nx ⟨h1,hk1,h2,h3⟩;have q2:=(h3 2 (by omega)).trans g2;by_cases hk:k<1
 ·obtain rfl:k=0:=by omega
  have ix:=ix2 (l:=[v]) (k:=0) (by simp);rw[show [v].getD 0 default=v from rfl] at ix;have zk:decide (((0:Nat):Int)<1)=true:=rfl;have hmf:=nt v ks;have hbox:=(h3 3 (by omega)).trans hinc.box;by_cases hvk:v∈ks
  ·rw[if_pos hvk] at hmf;obtain⟨m1,m2⟩:=o7 hvk;have hne:=(hinc.dom v).1 hvk;have hrow:=hinc.row _ m1;rw[m2] at hrow;have hls:=hrow.lenS (n:=(iX c c.length v).length) (by rw[bt,Nat.mul_one]) ng;have zg:decide ((0:Int)<((iX c c.length v).length:Int))=true:=bd (by have:=iM.2 hne;omega);have hj:jnT c v=([],7):=by unfold jnT;rw[if_neg hc0,if_pos hne]
   rw[hj];clear zz;have zz:=aI @ix @zk;repeat' (first|refine zW ?_|apply a_n|refine zO ?_|refine vY ?_|refine alY ?_|refine stY ?_|refine cTY ?_|fail)
   refine fh ev0 (by(repeat rw[ab (by omega)]);exact hbox) ev0 (lJ _) hmf ?_;rw[show mget .esl false (some (ks.idxOf v)) vs=vs.getD (ks.idxOf v) .undef from rfl];clear zz;have zz:=aI @hls (aI @zg @q2);repeat' (first|refine zW ?_|apply a_n|apply a_r|refine zO ?_|refine vY ?_|refine stY ?_|refine cTY ?_|refine bC rfl ?_|refine r2Y ?_|fail)
   exact zw (.eslsl 1) rfl
  ·rw[if_neg hvk] at hmf;have hnil:iX c c.length v=[]:=Classical.byContradiction λq=>hvk ((hinc.dom v).2 q);clear zz;have zz:=aI @ix @zk;repeat' (first|refine zW ?_|apply a_n|refine zO ?_|refine vY ?_|refine alY ?_|refine stY ?_|refine cTY ?_|fail)
   refine fh ev0 (by(repeat rw[ab (by omega)]);exact hbox) ev0 (lJ _) hmf ?_;rw[show mget .esl false none vs=.esl from rfl];have zl:dH .esl=some (.int .i64 0):=rfl;have zg:decide ((0:Int)<0)=false:=rfl;clear zz;have zz:=aI @zl @zg;repeat' (first|apply a_n|refine zO ?_|refine vY ?_|refine cFY ?_|fail)
   exact⟨1,by omega,⟨aJ _,λ_=>hnil,by omega,λy hy=>by(repeat rw[ab (by omega)]);exact h3 y hy⟩,by simp (disch:=omega) only[agr,ZG,reduceEqDiff,↓reduceIte,Int.zero_add,true_and]⟩
 obtain rfl:k=1:=by omega
 have hnil:=hk1 rfl;have q0:=(h3 0 (by omega)).trans g0;have q1:=(h3 1 (by omega)).trans g1;have e1:=nH c (show _<=_ by omega) hcs;have e2:=nH d (show _<=_ by omega) (λt ht=>by rw[hde] at ht;rw[bT.1 ht];show 1<=_;omega);have hmd:fM d=1:=by rw[hde];rfl
 rw[hm] at e1;rw[hmd] at e2;have hk':decide (((1:Nat):Int)<1)=false:=rfl;by_cases h8:m=8
 ·have hj:jnT c v=([],5):=by unfold jnT;rw[if_neg hc0,if_neg λq=>q hnil,if_pos (by omega)]
  rw[hj];have zA:decide ((8:Int)<(m:Int)-1+(1-1)+2)=true:=bd (by omega);clear zz;have zz:=aI @q0 (aI @q1 (aI @q2 (aI @ai (aI @af (aI @ah (aI @hdz (aI @zA @hk')))))));repeat' (first|refine zW ?_|apply a_n|apply a_x|apply a_r|refine zO ?_|refine vY ?_|refine cY ?_ (hp:=by first|exact e1|exact e2) (hs:=by(first|refine aB ?_ rfl|apply aL);(repeat' (first|exact aj|apply bk|apply aN|exact bI _));first|done|fail)|refine stY ?_|refine gFY ?_|refine cTY ?_|refine cFY ?_|refine bC rfl ?_|refine r2Y ?_|fail)
  exact zw (.eslsl 1) rfl
 have hj:jnT c v=(ma (c.map (cnV v)),0):=by unfold jnT;rw[if_neg hc0,if_neg λq=>q hnil,if_neg (by omega)]
 rw[hj];have zA:decide ((8:Int)<(m:Int)-1+(1-1)+2)=false:=bh (by omega);have zB:decide ((4096:Int)<c.length*1)=false:=bh (by omega)
 have hJ:∀t∈c,bM cl (cnV v t)/\(cnV v t).length<=1000/\cnV v t≠[]:=λt ht=>by
  have h2:=(bQ (c2 t ht)).2.1;refine⟨jn oz _,?_,λe=>?_⟩
  ·unfold cnV;have:=qA (K:=cl) (l:=t++[v]);rw[cA] at this;simp only[bL,eW] at this;omega
  ·have hm:v∈cnV v t:=f9.2 (mh _ (bT.2 rfl));rw[e] at hm;simp at hm
 have hco:=sA (c.map (cnV v)) (by rw [bt]; omega) (fun x hx=>by
  obtain⟨t,ht,rfl⟩:=bu.1 hx;exact hJ t ht)
 generalize ma (c.map (cnV v))=K at *;clear zz;clear hinc hsame hV h3 g0 g1 g2 hJ;have zz:=aI @q0 (aI @q1 (aI @q2 (aI @ai (aI @af (aI @ah (aI @hdz (aI @zA (aI @zB @hk'))))))));repeat' (first|refine zW ?_|apply a_n|apply a_x|refine zO ?_|refine vY ?_|refine cY ?_ (hp:=by first|exact e1|exact e2) (hs:=by(first|refine aB ?_ rfl|apply aL);(repeat' (first|exact aj|apply bk|apply aN|exact bI _));first|done|fail)|refine gTY ?_|refine cFY ?_|fail)
 refine lpI (X:=Nat×AV) (λx=>[(3,.ptr 1 1 0),(4,.ptr 2 1 0),(14,x.2),(88,ak c),(89,.int .i64 c.length),(90,.int .i64 x.1)]) (λx H' nx'=>x.1<=c.length/\3<=nx'/\(∀y,y<3->H' y=H y)/\Row H' 1 x.2 (((c.take x.1).map (cnV v)).map ar)/\∀b,cf x.2=some b->3<=b/\b<nx') (λx=>c.length-x.1) (0,.esl) ⟨by omega,by omega,λy hy=>rfl,Row.nil,λb hb=>by cases hb⟩ ?_;rintro⟨i,sv⟩ H2 nx2 ⟨f1,f2,f3,hrow,hbd⟩;dsimp only at f1 hrow hbd |-;by_cases hi:i<c.length
 rotate_left
 ·rw[eM (by omega)] at hrow;have z:decide ((i:Int)<c.length)=false:=bh (by omega);have r2:=(f3 2 (by omega)).trans q2;clear zz;have zz:=@z;repeat' (first|refine zW ?_|apply a_n|apply a_x|refine zO ?_|refine vY ?_|refine cFY ?_|fail)
  refine aU ev0 ev0 (KO hco hrow) ?_;rintro _ H3 nx3 ⟨rfl,rfl,j3⟩;have r3:=(j3 2 (λe=>by have:=hbd 2 e;omega)).trans r2;clear zz;have zz:=aI @r3 (aI @ai @af);repeat' (first|apply a_n|refine zO ?_|refine vY ?_|refine stY ?_|refine bC rfl ?_|refine r2Y ?_|fail)
  exact zw (bJ _).snap rfl
 have z:decide ((i:Int)<c.length)=true:=bd (by omega);have ix:=eO hi;have hft:(c.take (i+1)).map (cnV v)=(c.take i).map (cnV v)++[cnV v (c.getD i default)]:=by rw[bD hi,dr];rfl
 have hs8:=bQ (c2 _ (az hi))
 have hvt:=qN [c.getD i default,[v]] (fun t ht e=>by
  rcases cU.1 ht with rfl|ht
  ·have:=hs8.1;rw[e] at this;simp at this
  ·rw[bT.1 ht] at e;cases e) (by simp) (by rw[show [c.getD i default,[v]].flatten=c.getD i default++[v] by simp,cA];have:=hs8.2.1;simp only[bL,eW];omega) (by simp)
 rw[show iJ cl [c.getD i default,[v]].flatten=cnV v (c.getD i default) by unfold cnV;simp] at hvt;have hll:((c.take i).map (cnV v)).length<=4096:=by rw[bt,fY];omega
 generalize c.getD i default=s at *;generalize cnV v s=jt at *;have r1:=(f3 1 (by omega)).trans q1;clear zz;have zz:=aI @z (aI @ix (aI @r1 (aI @ah @hdz)));repeat' (first|refine zW ?_|apply a_n|refine zO ?_|refine vY ?_|refine cTY ?_|fail)
 refine lpI (X:=Nat×AV) (λx=>[(3,.ptr 1 1 0),(4,.ptr 2 1 0),(14,x.2),(88,ak c),(89,.int .i64 c.length),(90,.int .i64 i),(16,ar s),(95,ak d),(96,.int .i64 1),(97,.int .i64 x.1)]) (λx H' nx'=>x.1<=1/\3<=nx'/\(∀y,y<3->H' y=H2 y)/\Row H' 1 x.2 (((c.take (i+x.1)).map (cnV v)).map ar)/\∀b,cf x.2=some b->3<=b/\b<nx') (λx=>1-x.1) (0,sv) ⟨by omega,f2,λ_ _=>rfl,hrow,hbd⟩ ?_;rintro⟨j,tv⟩ H3 nx3 ⟨l1,l2,l3,lrow,lbd⟩;dsimp only at l1 lrow lbd |-;by_cases hj:j<1
 rotate_left
 ·obtain rfl:j=1:=by omega
  have zj:decide (((1:Nat):Int)<1)=false:=rfl;clear zz;have zz:=@zj;repeat' (first|refine zW ?_|apply a_n|apply a_x|refine zO ?_|refine vY ?_|refine cFY ?_|fail)
  exact⟨(i+1,tv),by dsimp only;omega,⟨by dsimp only;omega,l2,λy hy=>(l3 y hy).trans (f3 y hy),lrow,lbd⟩,ag0⟩
 obtain rfl:j=0:=by omega
 have zj:decide (((0:Nat):Int)<1)=true:=rfl;have iy:=eO (l:=d) (k:=0) (by omega);rw[show d.getD 0 default=[v] by rw[hde];rfl] at iy;rw[nq] at lrow;clear zz;have zz:=aI @zj (aI @iy (aI @bf @aR));repeat' (first|refine zW ?_|apply a_n|refine zO ?_|refine vY ?_|refine blY ?_|refine cTY ?_|fail)
 refine aU ev0 ev0 (Ou hvt (b:=nx3) (cs:=[ar s,ar [v]]) ae (ag (iu (l:=[s,[v]]) (Row.box (sz:=1) nx3 2 [ar s,ar [v]] jl rfl)) aj)) ?_;rintro _ H4 nx4 ⟨rfl,rfl,rfl⟩;have k4:∀y,y<nx3->c9 (ao H3 nx3 [ar s,ar [v]]) nx3 y=H3 y:=λy hy=>by rw[cK (by omega),ab (by omega)]
 generalize c9 (ao H3 nx3 [ar s,ar [v]]) nx3=H4 at *;have hr4:Row H4 1 tv (((c.take i).map (cnV v)).map ar):=lrow.same λb hb=>k4 b (by have:=lbd b hb;omega);clear zz;have zz:=aI @bf @aR;repeat' (first|apply a_n|refine zO ?_|refine blY ?_|fail)
 refine eR (hr4.same λb hb=>?_) ?_
 ·have:=lbd b hb;rw[ab (by omega)]
 rintro s2 H5 nx5 hr2 i1 i2 i3 i4
 repeat' (first|apply a_n|refine zO ?_|refine vY ?_|fail)
 refine⟨(1,s2),by dsimp only;omega,⟨by dsimp only;omega,by omega,λy hy=>?_,?_,λb hb=>?_⟩,by simp (disch:=omega) only[agr,ZG,reduceEqDiff,↓reduceIte,Int.zero_add,true_and]⟩
 ·rw[i3 y (by omega) (λh=>by have:=lbd _ h;omega),ab (by omega)];exact(k4 y (by omega)).trans (l3 y hy)
 ·dsimp only;rw[hft,dr];exact hr2
 ·rcases i4 b hb with h|h
  ·have:=lbd b h;omega
  ·omega
end
theorem Hi{c:List Spx}{v:Vtx}(h:iX c c.length v=[]):∀t∈c,v∉t:=λt ht hv=>by
 obtain⟨i,hi,rfl⟩:=mq ht;have:i∈iX c c.length v:=dJ.2 ⟨du.2 hi,bd hv⟩;rw[h] at this;cases this
theorem zH{c:List Spx}:∀t∈c,(t.length:Int)<=fM c:=λt ht=>by
 obtain⟨i,hi,rfl⟩:=mq ht;exact zK (c:=c) (aJ _) i hi
theorem Hj {v:Vtx}:ConeC [[v]] v:=⟨⟨[v],bT.2 rfl,bT.2 rfl⟩,fun s hs hst hvs=>by
 obtain⟨t,ht,h⟩:=hst;rw[bT.1 ht] at h;have:s=[]:=qE.2 λx hx=>hvs (by rw[<-bT.1 (h.subset hx)];exact hx);subst this;exact⟨[v],bT.2 rfl,List.Sublist.refl _⟩⟩
theorem Ho{c:List Spx}{v:Vtx}(hc:ay c=0)(h0:c≠[])(hv:ce [v]=0)(hn:∀t∈c,v∉t)(hm:∀t∈c,t.length<=7):ay (ma (c.map (cnV v)))=0/\ConeC (ma (c.map (cnV v))) v:=by
 obtain⟨p1,p2,p3,p4⟩:=cp hc;have hf:∀t∈c,bM cl (cnV v t)/\(∀x,x∈cnV v t↔x∈t\/x=v)/\(cnV v t).length=t.length+1:=λt ht=>o8 (bQ (p2 t ht)).2.2.1 (hn t ht)
 have h8:∀s∈c.map (cnV v),s.length<=8:=λs hs=>by
  obtain⟨t,ht,rfl⟩:=bu.1 hs;have:=(hf t ht).2.2;have:=hm t ht;omega
 have habove:∀t∈c,∃w∈ma (c.map (cnV v)),∀x∈cnV v t,x∈w:=λt ht=>ug h8 8 _ (bu.2 ⟨t,ht,rfl⟩) (by omega)
 have hasc:∀w∈ma (c.map (cnV v)),∃t∈c,w=cnV v t:=λw hw=>by
  obtain⟨t,ht,e⟩:=bu.1 (uM hw);exact⟨t,ht,e.symm⟩
 refine⟨y8 (by rw[bt];exact p1) λs hs=>?_,?_,λs hs hst hvs=>?_⟩
 ·have:=h8 s hs;obtain⟨t,ht,rfl⟩:=bu.1 hs;obtain⟨q1,q2,q3⟩:=hf t ht;refine uN ⟨by omega,this⟩ q1 λx hx=>?_;rcases(q2 x).1 hx with h|h
  ·exact(bQ (p2 t ht)).2.2.2 x h
  ·exact(bQ hv).2.2.2 x (by rw[h];exact bT.2 rfl)
 ·obtain⟨t,ht⟩:=List.exists_mem_of_ne_nil c h0;obtain⟨w,hw,hs⟩:=habove t ht;exact⟨w,hw,hs v (((hf t ht).2.1 v).2 (.inr rfl))⟩
 ·obtain⟨w,hw,hsw⟩:=hst;refine⟨w,hw,?_⟩;obtain⟨t,ht,rfl⟩:=hasc w hw;obtain⟨q1,q2,q3⟩:=hf t ht;obtain⟨r1,r2,r3⟩:=o8 hs hvs;refine il q1 r1 λx hx=>?_;rcases(r2 x).1 hx with h|h
  ·exact hsw.subset h
  ·exact(q2 x).2 (.inr h)
theorem Kn{c:List Spx}{v:Vtx}(hc:ay c=0)(hv:ce [v]=0)(hl:c.length<=30)(h:(jnT c v).2=0):ay (jnT c v).1=0/\ConeC (jnT c v).1 v/\(jnT c v).1.length<=50:=by
 unfold jnT at *;by_cases h0:c=[]
 ·rw[if_pos h0];exact⟨vD hv,Hj,by simp⟩
 rw[if_neg h0] at h |-;by_cases h1:iX c c.length v=[]
 rotate_left
 ·rw[if_pos h1] at h;exact absurd h (by decide)
 rw[if_neg λq=>q h1] at h |-;by_cases h2:fM c=8
 ·rw[if_pos h2] at h;exact absurd h (by decide)
 rw[if_neg h2];obtain⟨m,hm,hm8⟩:=nF hc;have a:=Ho hc h0 hv (Hi h1) λt ht=>by have:=zH t ht;omega
 refine⟨a.1,a.2,?_⟩;have:=B3 (l:=c.map (cnV v));rw[bt] at this;show(ma _).length<=50;omega
theorem LQ{c:List Spx}{v:Vtx}(h:(jnT c v).2≠0):(jnT c v).2=7\/(jnT c v).2=5:=by
 unfold jnT at *;by_cases h0:c=[]
 ·rw[if_pos h0] at h;exact absurd rfl h
 rw[if_neg h0] at h |-;by_cases h1:iX c c.length v=[]
 rotate_left
 ·rw[if_pos h1];exact .inl rfl
 rw[if_neg λq=>q h1] at h |-;by_cases h2:fM c=8
 ·rw[if_pos h2];exact .inr rfl
 rw[if_neg h2] at h;exact absurd rfl h
theorem Bt{c:List Spx}{v:Vtx}{m:Nat}{k:Int}(hc:ay c=0)(hl:c.length<=50)(hco:ConeC c v)(hm:fM c=m):Gn (btL c m) k=true:=by
 obtain⟨t,ht,hvt⟩:=hco.top;have h1:=zH t ht;have h2:=List.length_pos_of_mem hvt;obtain⟨n,rfl⟩:∃n,m=n+1:=⟨m-1,by omega⟩
 have e:btL c (n+1)=1::(List.range n).map λd=>btF c (d+1):=by
  unfold btL;rw[List.range_succ_eq_map,ff,List.map_map,vv hc hl hco];rfl
 rw[e];unfold Gn;rw[Bool.not_eq_true',List.any_eq_false];intro x hx;rw[iG];have hx:=lr hx;rcases cU.1 hx with q|q
 ·rw[q];decide
 ·obtain⟨d,_,rfl⟩:=bu.1 q;rw[vv hc hl hco,if_neg (by omega)];decide
theorem Fe{l:List Vtx}{i:Nat}(h:i<l.length):max ((nsF (l.take i)).length:Int) ((nsF l).idxOf (l.getD i default)+1)=((nsF (l.take (i+1))).length:Int):=by
 obtain⟨h1,h2⟩:=yp h;rw[<-h1];rw[bD h,tZ] at *;by_cases q:l.getD i default∈nsF (l.take i)
 ·rw[if_pos q];have:=List.idxOf_lt_length_of_mem q;omega
 ·rw[if_neg q,List.idxOf_append,if_neg q,cA];simp;omega
theorem Hw{c:List Spx}{i:Nat}(h:i<c.length):(cq (gz c)).getD i default=((nsF (rtL c)).idxOf ((rtL c).getD i default):Nat):=by
 have hl:i<(rtL c).length:=by unfold rtL;rw[bt];exact h
 unfold gz nsI cq;simp[List.getD,hl]
theorem HE{c:List Spx}:(cq (gz c)).length=c.length:=by unfold gz nsI cq rtL;simp
def apx:Vtx:=⟨7,1048576⟩
theorem AU:ce [apx]=0:=by decide+kernel
theorem Mm{c:List Spx}{m:Nat}(hc:ay c=0)(hm:fM c=m):m=0↔c=[]:=by
 constructor
 ·intro h;refine Classical.byContradiction λh0=>?_;obtain⟨t,ht⟩:=List.exists_mem_of_ne_nil c h0;have h1:=zH t ht;have h2:=(bQ ((cp hc).2.1 _ ht)).1;omega
 ·intro h;subst h;have:fM []=0:=rfl;omega
theorem Hb{H:Hp}{b d:Nat}(h1:H b=some [.int .i64 7,.int .i64 1048576])(h2:H d=some [.msl b 2 2 0 1]):Snap H (.agg [.msl d 1 1 0 1]) (b7 [[apx]]):=by
 refine mb (ag (jr h2 rfl (aJ _) rfl (λy hy=>by rw[bT.1 hy];rfl) (λi a c ha hc=>?_)) aj);cases i with
 |zero=>
  cases ha;cases hc;exact zN (l:=[apx]) (Row.box (sz:=2) b 1 [.int .i64 7,.int .i64 1048576] h1 rfl)
 |succ i=>cases hc
theorem GN{g:FuncId}{x x' r:AV}(hp:pU g [x,b7 [[apx]]] r){H:Hp}{nx b d:Nat}(h1:H b=some [.int .i64 7,.int .i64 1048576])(h2:H d=some [.msl b 2 2 0 1])(hbd:b≠d)(hx:∀H,Snap H x' x):Abs.Fn Tryz.prog g [x',.agg [.msl d 1 1 0 1]] H nx λr' H' nx'=>r'=r/\nx'=nx/\∀y,y≠b->y≠d->H' y=H y:=by
 refine Abs.Fn.of_pureZ hp (Hf:=ao (only b [.int .i64 7,.int .i64 1048576]) d [.msl b 2 2 0 1]) (H':=c9 (c9 H b) d) (λa cs h=>?_) (λa cs h=>?_) (ag (hx _) (ag (Hb (b:=b) (d:=d) (by rw[ab hbd];exact jl) ae) aj)) ⟨rfl,rfl,λy hb hd=>by rw[cK hd,cK hb]⟩
 ·by_cases q:a=d
  ·subst q;rw[ae] at h;cases h;exact h2
  ·rw[ab q] at h;unfold only at h;split at h
   ·rename_i e;cases h;subst e;exact h1
   ·cases h
 ·by_cases q:a=d
  ·subst q;unfold c9 at h;rw[if_pos rfl] at h;cases h
  ·rw[cK q] at h;by_cases q2:a=b
   ·subst q2;unfold c9 at h;rw[if_pos rfl] at h;cases h
   ·rw[cK q2] at h;exact⟨h,by rw[ab q];unfold only;rw[if_neg q2]⟩
section
attribute [local irreducible] aM am bn aZ aS aV aD aX ba bw Go.Abs.Fn aY Go.Abs.Pure aq aO Yl
theorem Ch(u:UF)(hu:Forest u)(v:Vtx)(p b:Nat)(H:Hp)(nx:Nat)(hp:H p=some [.mp b])(hb:H b=some [.omap (u.ks.map bP) (u.vs.map bP)])(hpn:p<nx)(hbn:b<nx):
    Abs.Fn Tryz.prog 88 [bP v,.ptr p 1 0] H nx λr H' nx'=>r=bP (u.rt v)/\nx<nx'/\∀x,x<nx->H' x=H x:=by
 refine fO Qa ?_;simp only[b88,aK];unfold bP
 repeat' (first|refine zW ?_|apply a_n|refine zO ?_|refine alY ?_|refine bxY ?_|fail)
 refine lpI (X:=Vtx) (λ_=>[(1,.ptr p 1 0),(2,.ptr nx 2 0),(3,.ptr (nx+1) 2 0)]) (λw H' nx'=>u.rt w=u.rt v/\H' nx=some [.int .i64 w.color,.int .i64 w.label]/\H' (nx+1)=some [.int .i64 0,.int .i64 0]/\nx+2<=nx'/\∀x,x<nx->H' x=H x) (λw=>if w∈u.ks then u.ks.length-u.ks.idxOf w else 0) v ⟨rfl,by rw[ab (by omega),ae],ae,by omega,λx hx=>by rw[ab (by omega),ab (by omega)]⟩ ?_;rintro w H1 nx1 ⟨k1,k2,k3,k4,k5⟩;have g1:=(k5 p hpn).trans hp;have g2:=(k5 b hbn).trans hb;have hmf:=nt w u.ks;unfold bP at hmf;by_cases hw:w∈u.ks
 ·rw[if_pos hw] at hmf;obtain⟨m1,m2⟩:=o7 hw;have e1:(u.vs.map bP).getD (u.ks.idxOf w) .undef=bP (u.vs.getD (u.ks.idxOf w) default):=sK default (by rw[hu.len];exact m1);have hst:=hu.stp _ m1;have hup:=hu.up _ m1;rw[m2,k1] at hst;generalize u.vs.getD (u.ks.idxOf w) default=y at *;unfold bP at e1;have zz:=aI @k2 @g1;repeat' (first|refine zW ?_|apply a_n|refine zO ?_|refine vY ?_|fail)
  refine fh ev0 g2 ev0 (lJ w) hmf ?_;rw[show mget (AV.agg [AV.int IntKind.i64 0,AV.int IntKind.i64 0]) true (some (u.ks.idxOf w)) (u.vs.map bP)=.tup [(u.vs.map bP).getD (u.ks.idxOf w) .undef,.bool true] from rfl,e1];clear zz;have zz:=aI @k2 @g1;repeat' (first|refine zW ?_|apply a_n|refine zO ?_|refine vY ?_|refine alY ?_|refine stY ?_|refine cFY ?_|fail)
  refine⟨y,?_,⟨hst.symm,?_,?_,?_,?_⟩,ag0⟩
  ·rw[if_pos hw];split
   ·rename_i q;have:=hup q;have:=List.idxOf_lt_length_of_mem q;omega
   ·omega
  ·rw[ae];rfl
  ·rw[ab (by omega),ab (by omega),ab (by omega)];exact k3
  ·omega
  ·exact λx hx=>by rw[ab (by omega),ab (by omega),ab (by omega)];exact k5 x hx
 ·rw[if_neg hw] at hmf;have hr:=hu.out w hw;have zz:=aI @k2 @g1;repeat' (first|refine zW ?_|apply a_n|refine zO ?_|refine vY ?_|fail)
  refine fh ev0 g2 ev0 (lJ w) hmf ?_;rw[show mget (AV.agg [AV.int IntKind.i64 0,AV.int IntKind.i64 0]) true none (u.vs.map bP)=.tup [AV.agg [AV.int IntKind.i64 0,AV.int IntKind.i64 0],.bool false] from rfl];clear zz;have zz:=aI @k2 (aI @k3 @g1);repeat' (first|refine zW ?_|apply a_n|apply a_r|refine zO ?_|refine vY ?_|refine alY ?_|refine stY ?_|refine cTY ?_|refine bC rfl ?_|refine r1Y ?_|fail)
  exact⟨by rw[<-k1,hr],by omega,λx hx=>by rw[ab (by omega),ab (by omega),ab (by omega)];exact k5 x hx⟩
section
open Go.Abs.C2 Go.Abs.Ins Go.Abs.Opd Go.Abs.TK Go.Abs.MK
def KE:List Op2:=[Op2.mk (some 41) none (mov (t 6)),Op2.mk (some 42) none (mov (t 8)),Op2.mk (some 43) none (ixaS 2 (t 42) (c (AV.int IntKind.i64 (0)))),Op2.mk (some 44) none (ldn 2 (t 43)),Op2.mk (some 45) none (call (t 41) [t 44]),Op2.mk (some 46) none (mov (t 6)),Op2.mk (some 47) none (ldn 2 (t 10)),Op2.mk (some 48) none (call (t 46) [t 47]),Op2.mk (some 11) none (alloc (AV.agg [AV.int IntKind.i64 (0),AV.int IntKind.i64 (0)])),Op2.mk (some 12) none (alloc (AV.agg [AV.int IntKind.i64 (0),AV.int IntKind.i64 (0)])),Op2.mk none none (Ins.st 2 (t 11) (t 45)),Op2.mk none none (Ins.st 2 (t 12) (t 48))]
end
def rtB:List (List Nat):=[[],[],[1],[1,2],[0,1,2,3],[],[],[0,1,2,3,4,5,6],[],[],[0,1,2,3,4,5,6,7,8,9],[0,1,2,3,4,5,6,7,8,9,10]]
def HK:List Nat:=[1,5,6,8,10,28,29,30,35,36,37]
def rtV(fn:AV)(s:Spx)(v a b:Vtx):List (Nat×Nat×AV):=[(0,41,fn),(1,42,ar s),(2,43,.iptr [.int .i64 (s.getD 0 default).color,.int .i64 (s.getD 0 default).label] 0),(3,44,bP (s.getD 0 default)),(4,45,bP a),(5,46,fn),(6,47,bP v),(7,48,bP b)]
structure RtI(V:List (Nat×Nat×AV))(a b:Vtx)(T0:Tm)(H0:Hp)(n0:Nat)(L:Nat->Bool)(T:Tm)(H:Hp)(nx:Nat):Prop where
 le:n0<=nx
 same:∀x,x<n0->H x=H0 x
 base:∀t∈HK,T t=T0 t
 vals:∀e∈V,L e.1=true->T e.2.1=e.2.2
 a8:L 8=true->∃x,T 11=.ptr x 2 0/\n0<=x/\x<nx/\H x=some (if L 10=true then [.int .i64 a.color,.int .i64 a.label] else [.int .i64 0,.int .i64 0])
 a9:L 9=true->∃x,T 12=.ptr x 2 0/\n0<=x/\x<nx/\H x=some (if L 11=true then [.int .i64 b.color,.int .i64 b.label] else [.int .i64 0,.int .i64 0])
 ne:L 8=true->L 9=true->T 11≠T 12
 d10:L 10=true->L 8=true
 d11:L 11=true->L 9=true
theorem mQ{b:Bool}{k i:Nat}:(b || decide (k=i))=true↔b=true\/k=i:=by rw[lV,iG]
theorem jQ{b:Bool}{k i:Nat}(h:k≠i):(b || decide (k=i))=b:=by rw[bh h,Bool.or_false]
section
variable{V:List (Nat×Nat×AV)}{a b:Vtx}{T0:Tm}{H0:Hp}{n0:Nat}{L:Nat->Bool}{T:Tm}{H:Hp}{nx:Nat}
theorem RtI.mono(h:RtI V a b T0 H0 n0 L T H nx){H':Hp}{nx':Nat}(hle:nx<=nx')(hs:∀x,x<nx->H' x=H x):RtI V a b T0 H0 n0 L T H' nx':=
 ⟨fp h.le hle,fun x hx=>(hs x (by have:=h.le; omega)).trans (h.same x hx),h.base,h.vals,fun q=>by
  obtain⟨x,x1,x2,x3,x4⟩:=h.a8 q;exact⟨x,x1,x2,by omega,(hs x x3).trans x4⟩,λq=>by
  obtain⟨x,x1,x2,x3,x4⟩:=h.a9 q;exact⟨x,x1,x2,by omega,(hs x x3).trans x4⟩,h.ne,h.d10,h.d11⟩
theorem RtI.setv(h:RtI V a b T0 H0 n0 L T H nx){i d:Nat}{x:AV}(hi:i<8)(hd:41<=d)(hv:∀e∈V,(e.2.1=d->e.2.2=x)/\(e.1=i->e.2.1=d)):RtI V a b T0 H0 n0 (λk=>L k || decide (k=i)) (aP T (some d) x) H nx:=by
 have hne:∀t,t≠d->aP T (some d) x t=T t:=λt ht=>if_neg ht;have e8:(L 8 || decide (8=i))=L 8:=jQ (by omega);have e9:(L 9 || decide (9=i))=L 9:=jQ (by omega);have e10:(L 10 || decide (10=i))=L 10:=jQ (by omega);have e11:(L 11 || decide (11=i))=L 11:=jQ (by omega);refine⟨h.le,h.same,λt ht=>?_,λe he hL=>?_,?_,?_,?_,?_,?_⟩
 ·have hb:=h.base t ht;rw[hne t λe=>?_,hb];subst e;simp only[HK,cU,List.not_mem_nil,or_false] at ht;omega
 ·obtain⟨h1,h2⟩:=hv e he;by_cases hed:e.2.1=d
  ·rw[hed,h1 hed];exact if_pos rfl
  ·rw[hne _ hed];exact h.vals e he ((mQ.1 hL).resolve_right λq=>hed (h2 q))
 ·rw[e8,e10,hne 11 (by omega)];exact h.a8
 ·rw[e9,e11,hne 12 (by omega)];exact h.a9
 ·rw[e8,e9,hne 11 (by omega),hne 12 (by omega)];exact h.ne
 ·rw[e8,e10];exact h.d10
 ·rw[e9,e11];exact h.d11
theorem ve{d:Nat}{x:AV}:aP T (some d) x d=x:=if_pos (rfl:d=d)
theorem ot{d t:Nat}{x:AV}(h:t≠d):aP T (some d) x t=T t:=if_neg h
theorem RtI.al8(hV:∀e∈V,e.1<8/\41<=e.2.1)(h:RtI V a b T0 H0 n0 L T H nx)(hL:L 8=false):RtI V a b T0 H0 n0 (λk=>L k || decide (k=8)) (aP T (some 11) (.ptr nx 2 0)) (ao H nx [.int .i64 0,.int .i64 0]) (nx+1):=by
 have h2:=h.mono (H':=ao H nx [.int .i64 0,.int .i64 0]) (nx':=nx+1) (by omega) (λx hx=>ab (by omega));have hle:=h.le;have e9:(L 9 || decide (9=8))=L 9:=jQ (by omega);have e10:(L 10 || decide (10=8))=L 10:=jQ (by omega);have e11:(L 11 || decide (11=8))=L 11:=jQ (by omega);have f10:L 10=false:=Bool.eq_false_iff.2 λq=>by have:=h.d10 q;rw[hL] at this;cases this
 refine⟨h2.le,h2.same,λt ht=>?_,λe he hq=>?_,λ_=>⟨nx,ve,hle,by omega,by rw[e10,f10];exact ae⟩,?_,?_,λ_=>mQ.2 (.inr rfl),?_⟩
 ·rw[ot λe=>?_]
  ·exact h.base t ht
  ·subst e;simp[HK] at ht
 ·have hv:=hV e he;rw[ot (by omega)];exact h.vals e he ((mQ.1 hq).resolve_right (by omega))
 ·rw[e9,e11,ot (by omega)];exact h2.a9
 ·rw[e9,ot (show 12≠11 by omega)];intro _ q e;obtain⟨y,y1,y2,y3,y4⟩:=h.a9 q;rw[y1,show aP T (some 11) (.ptr nx 2 0) 11=.ptr nx 2 0 from ve] at e;cases e;omega
 ·rw[e9,e11];exact h.d11
theorem RtI.al9(hV:∀e∈V,e.1<8/\41<=e.2.1)(h:RtI V a b T0 H0 n0 L T H nx)(hL:L 9=false):RtI V a b T0 H0 n0 (λk=>L k || decide (k=9)) (aP T (some 12) (.ptr nx 2 0)) (ao H nx [.int .i64 0,.int .i64 0]) (nx+1):=by
 have h2:=h.mono (H':=ao H nx [.int .i64 0,.int .i64 0]) (nx':=nx+1) (by omega) (λx hx=>ab (by omega));have hle:=h.le;have e8:(L 8 || decide (8=9))=L 8:=jQ (by omega);have e10:(L 10 || decide (10=9))=L 10:=jQ (by omega);have e11:(L 11 || decide (11=9))=L 11:=jQ (by omega);have f11:L 11=false:=Bool.eq_false_iff.2 λq=>by have:=h.d11 q;rw[hL] at this;cases this
 refine⟨h2.le,h2.same,λt ht=>?_,λe he hq=>?_,?_,λ_=>⟨nx,ve,hle,by omega,by rw[e11,f11];exact ae⟩,?_,?_,λ_=>mQ.2 (.inr rfl)⟩
 ·rw[ot λe=>?_]
  ·exact h.base t ht
  ·subst e;simp[HK] at ht
 ·have hv:=hV e he;rw[ot (by omega)];exact h.vals e he ((mQ.1 hq).resolve_right (by omega))
 ·rw[e8,e10,ot (by omega)];exact h2.a8
 ·rw[e8,ot (show 11≠12 by omega)];intro q _ e;obtain⟨y,y1,y2,y3,y4⟩:=h.a8 q;rw[y1,show aP T (some 12) (.ptr nx 2 0) 12=.ptr nx 2 0 from ve] at e;cases e;omega
 ·rw[e8,e10];exact h.d10
theorem RtI.st10(hV:∀e∈V,e.1<8/\41<=e.2.1)(h:RtI V a b T0 H0 n0 L T H nx)(h8:L 8=true)(h9:L 9=true){x:Nat}(hx:T 11=.ptr x 2 0):RtI V a b T0 H0 n0 (λk=>L k || decide (k=10)) T (ao H x [.int .i64 a.color,.int .i64 a.label]) nx:=by
 obtain⟨x',x1,x2,x3,x4⟩:=h.a8 h8;obtain⟨y,y1,y2,y3,y4⟩:=h.a9 h9;rw[hx] at x1;cases x1;have hxy:y≠x:=λe=>h.ne h8 h9 (by rw[hx,y1,e]);have e8:(L 8 || decide (8=10))=L 8:=jQ (by omega);have e9:(L 9 || decide (9=10))=L 9:=jQ (by omega);have e11:(L 11 || decide (11=10))=L 11:=jQ (by omega);have e10:(L 10 || decide (10=10))=true:=mQ.2 (.inr rfl);refine⟨h.le,λz hz=>by rw[ab (by omega)];exact h.same z hz,h.base,λe he hq=>h.vals e he ((mQ.1 hq).resolve_right (by have:=hV e he;omega)),λ_=>⟨x,hx,x2,x3,by rw[e10];exact ae⟩,λ_=>⟨y,y1,y2,y3,by rw[e11,ab hxy];exact y4⟩,?_,λ_=>by rw[e8];exact h8,?_⟩
 ·rw[e8,e9];exact h.ne
 ·rw[e9,e11];exact h.d11
theorem RtI.st11(hV:∀e∈V,e.1<8/\41<=e.2.1)(h:RtI V a b T0 H0 n0 L T H nx)(h8:L 8=true)(h9:L 9=true){y:Nat}(hy:T 12=.ptr y 2 0):RtI V a b T0 H0 n0 (λk=>L k || decide (k=11)) T (ao H y [.int .i64 b.color,.int .i64 b.label]) nx:=by
 obtain⟨x,x1,x2,x3,x4⟩:=h.a8 h8;obtain⟨y',y1,y2,y3,y4⟩:=h.a9 h9;rw[hy] at y1;cases y1;have hxy:x≠y:=λe=>h.ne h8 h9 (by rw[x1,hy,e]);have e8:(L 8 || decide (8=11))=L 8:=jQ (by omega);have e9:(L 9 || decide (9=11))=L 9:=jQ (by omega);have e10:(L 10 || decide (10=11))=L 10:=jQ (by omega);have e11:(L 11 || decide (11=11))=true:=mQ.2 (.inr rfl);refine⟨h.le,λz hz=>by rw[ab (by omega)];exact h.same z hz,h.base,λe he hq=>h.vals e he ((mQ.1 hq).resolve_right (by have:=hV e he;omega)),λ_=>⟨x,x1,x2,x3,by rw[e10,ab hxy];exact x4⟩,λ_=>⟨y,hy,y2,y3,by rw[e11];exact ae⟩,?_,?_,λ_=>by rw[e9];exact h9⟩
 ·rw[e8,e9];exact h.ne
 ·rw[e8,e10];exact h.d10
end
theorem Fp{u:UF}(hu:Forest u){s:Spx}{v:Vtx}{q:Nat}{T0:Tm}{H0:Hp}{n0:Nat}{K:CP}(hs0:0<s.length)(t6:T0 6=.func 88 [.ptr 2 1 0])(t8:T0 8=ar s)(t10:T0 10=.ptr q 2 0)(hq:q<n0)(gq:H0 q=some [.int .i64 v.color,.int .i64 v.label])(hn:3<=n0)
    (g1:H0 1=some [.omap (u.ks.map bP) (u.vs.map bP)]) (g2:H0 2=some [.mp 1])
    (k:∀T H nx x y,n0<=nx->(∀z,z<n0->H z=H0 z)->(∀t∈HK,T t=T0 t)->T 11=.ptr x 2 0->T 12=.ptr y 2 0->n0<=x->x<nx->n0<=y->y<nx->H x=some [.int .i64 (u.rt (s.getD 0 default)).color,.int .i64 (u.rt (s.getD 0 default)).label]->H y=some [.int .i64 (u.rt v).color,.int .i64 (u.rt v).label]->K .normal T H nx):
    aM Tryz.prog (.anyI KE rtB) T0 H0 n0 K:=by
 have hV:∀e∈rtV (T0 6) s v (u.rt (s.getD 0 default)) (u.rt v),e.1<8/\41<=e.2.1:=by simp[rtV]
 refine LL (RtI (rtV (T0 6) s v (u.rt (s.getD 0 default)) (u.rt v)) (u.rt (s.getD 0 default)) (u.rt v) T0 H0 n0) ?_ ?_ ?_
 ·exact⟨aJ _,λ_ _=>rfl,λ_ _=>rfl,λ_ _ h=>(by cases h),λh=>(by cases h),λh=>(by cases h),λh=>(by cases h),λh=>(by cases h),λh=>(by cases h)⟩
 ·intro i L T H nx hi hL hB hI;have hi:i<12:=hi;have b6:T 6=T0 6:=hI.base 6 (by decide);have b8:T 8=ar s:=(hI.base 8 (by decide)).trans t8;have b10:T 10=.ptr q 2 0:=(hI.base 10 (by decide)).trans t10;have hn0:=hI.le;have gq':=(hI.same q hq).trans gq;have g1':=(hI.same 1 (by omega)).trans g1;have g2':=(hI.same 2 (by omega)).trans g2;have ix0:eP 2 (ar s) (.int .i64 0)=some (.iptr [.int .i64 (s.getD 0 default).color,.int .i64 (s.getD 0 default).label] 0):=ix2 (k:=0) hs0;rcases(by omega:i=0\/i=1\/i=2\/i=3\/i=4\/i=5\/i=6\/i=7\/i=8\/i=9\/i=10\/i=11) with rfl|rfl|rfl|rfl|rfl|rfl|rfl|rfl|rfl|rfl|rfl|rfl
  all_goals simp only[KE,List.getD_cons_succ,List.getD_cons_zero]
  ·have zz:=@b6;repeat' (first|apply a_n|refine zO ?_|refine vY ?_|fail)
   exact hI.setv (by omega) (by omega) (by simp[rtV])
  ·have zz:=@b8;repeat' (first|apply a_n|refine zO ?_|refine vY ?_|fail)
   exact hI.setv (by omega) (by omega) (by simp[rtV])
  ·have h:=hI.vals (1,42,ar s) (by simp[rtV]) (hB 1 (by decide));have zz:=aI @h @ix0;repeat' (first|apply a_n|refine zO ?_|refine vY ?_|fail)
   exact hI.setv (by omega) (by omega) (by simp[rtV])
  ·have h:=hI.vals (2,43,.iptr [.int .i64 (s.getD 0 default).color,.int .i64 (s.getD 0 default).label] 0) (by simp[rtV]) (hB 2 (by decide));have zz:=@h;repeat' (first|apply a_n|refine zO ?_|refine vY ?_|fail)
   exact hI.setv (by omega) (by omega) (by simp[rtV,bP])
  ·have h:=hI.vals (3,44,bP (s.getD 0 default)) (by simp[rtV]) (hB 3 (by decide));have h2:=(hI.vals (0,41,T0 6) (by simp[rtV]) (hB 0 (by decide))).trans t6;refine aU (have zz:=@h2;evZ) (have zz:=@h;evZ) (Ch u hu (s.getD 0 default) 2 1 H nx g2' g1' (by omega) (by omega)) ?_;rintro r H' nx' ⟨rfl,k1,k2⟩;refine jv ?_;exact(hI.mono (by omega) k2).setv (by omega) (by omega) (by simp[rtV])
  ·have zz:=@b6;repeat' (first|apply a_n|refine zO ?_|refine vY ?_|fail)
   exact hI.setv (by omega) (by omega) (by simp[rtV])
  ·have zz:=aI @b10 @gq';repeat' (first|apply a_n|refine zO ?_|refine vY ?_|fail)
   exact hI.setv (by omega) (by omega) (by simp[rtV,bP])
  ·have h:=hI.vals (6,47,bP v) (by simp[rtV]) (hB 6 (by decide));have h2:=(hI.vals (5,46,T0 6) (by simp[rtV]) (hB 5 (by decide))).trans t6;refine aU (have zz:=@h2;evZ) (have zz:=@h;evZ) (Ch u hu v 2 1 H nx g2' g1' (by omega) (by omega)) ?_;rintro r H' nx' ⟨rfl,k1,k2⟩;refine jv ?_;exact(hI.mono (by omega) k2).setv (by omega) (by omega) (by simp[rtV])
  ·repeat' (first|apply a_n|refine zO ?_|refine alY ?_|fail)
   exact hI.al8 hV hL
  ·repeat' (first|apply a_n|refine zO ?_|refine alY ?_|fail)
   exact hI.al9 hV hL
  ·have h8:=hB 8 (by decide);have h9:=hB 9 (by decide);obtain⟨x,x1,x2,x3,x4⟩:=hI.a8 h8;have h:=hI.vals (4,45,bP (u.rt (s.getD 0 default))) (by simp[rtV]) (hB 4 (by decide));have x4:H x=some [.int .i64 0,.int .i64 0]:=by rw[x4,hL];rfl
   unfold bP at h;have zz:=aI @x1 (aI @h @x4);repeat' (first|apply a_n|refine zO ?_|refine stY ?_|fail)
   exact hI.st10 hV h8 h9 x1
  ·have h8:=hB 8 (by decide);have h9:=hB 9 (by decide);obtain⟨x,x1,x2,x3,x4⟩:=hI.a9 h9;have h:=hI.vals (7,48,bP (u.rt v)) (by simp[rtV]) (hB 7 (by decide));have x4:H x=some [.int .i64 0,.int .i64 0]:=by rw[x4,hL];rfl
   unfold bP at h;have zz:=aI @x1 (aI @h @x4);repeat' (first|apply a_n|refine zO ?_|refine stY ?_|fail)
   exact hI.st11 hV h8 h9 x1
 ·intro L T H nx hall hI;obtain⟨x,x1,x2,x3,x4⟩:=hI.a8 (hall 8 (by decide));obtain⟨y,y1,y2,y3,y4⟩:=hI.a9 (hall 9 (by decide));rw[hall 10 (by decide)] at x4;rw[hall 11 (by decide)] at y4;exact k T H nx x y hI.le hI.same hI.base x1 y1 x2 x3 y2 y3 x4 y4
theorem yy(c:List Spx)(hc:ay c=0)(hl:c.length<=5000):pU 38 [b7 c] (.tup [aH (cq (gz c)),.int .i64 0]):=by
 refine pO P1 ?_;simp only[b38,aK];obtain⟨p1,p2,p3,p4⟩:=cp hc;have hch:=gM c (show _<=_ by omega) (λs hs=>show _<=_ by have:=(bQ (p2 s hs)).2.1;omega);rw[hc] at hch;have z0:decide ((0:Int)≠0)=false:=rfl;have zz:=aI @ai (aI @af @z0);repeat' (first|refine zW ?_|apply a_n|refine zO ?_|refine vY ?_|refine cY ?_ (hp:=hch) (hs:=by(first|refine aB ?_ rfl|apply aL);(repeat' (first|exact aj|apply bk|apply aN|exact bI _));first|done|fail)|refine bxY ?_|refine cFY ?_|fail)
 refine sy ?_
 skip
 refine ql (cs:=[.nilm]) rfl rfl rfl ?_;clear zz;have zz:=@ah;repeat' (first|refine zW ?_|apply a_n|refine zO ?_|refine vY ?_|refine stY ?_|fail)
 have q0:ao (ao (ao (ao b9 0 [ak c]) (0+1) [AV.omap [] []]) (0+1+1) [.nilm]) (0+1+1) (bB [.nilm] 0 [.mp (0+1)]) 0=some [ak c]:=by rw[ab (by omega),ab (by omega),ab (by omega),ae]
 have q1:ao (ao (ao (ao b9 0 [ak c]) (0+1) [AV.omap [] []]) (0+1+1) [.nilm]) (0+1+1) (bB [.nilm] 0 [.mp (0+1)]) 1=some [.omap [] []]:=by rw[ab (by omega),ab (by omega),ae]
 have q2:ao (ao (ao (ao b9 0 [ak c]) (0+1) [AV.omap [] []]) (0+1+1) [.nilm]) (0+1+1) (bB [.nilm] 0 [.mp (0+1)]) 2=some [.mp 1]:=ae;generalize ao (ao (ao (ao b9 0 [ak c]) (0+1) [AV.omap [] []]) (0+1+1) [.nilm]) (0+1+1) (bB [.nilm] 0 [.mp (0+1)])=HH at *;refine lpI (X:=Nat) (λi=>[(1,.ptr 0 1 0),(5,.ptr 2 1 0),(6,.func 88 [.ptr 2 1 0]),(28,ak c),(29,.int .i64 c.length),(30,.int .i64 i)]) (λi H nx=>i<=c.length/\3<=nx/\H 0=some [ak c]/\H 1=some [.omap ((ufL (dt (c.take i))).ks.map bP) ((ufL (dt (c.take i))).vs.map bP)]/\H 2=some [.mp 1]) (λi=>c.length-i) 0 ⟨bW _,by omega,q0,q1,q2⟩ ?_;clear zz;clear q0 q1 q2;rintro i H nx ⟨h1,hn,g0,g1,g2⟩;by_cases hi:i<c.length
 ·have ix:=eO hi;obtain⟨s1,s2,s3,-⟩:=bQ (p2 _ (az hi));have hps:=An hi;generalize c.getD i default=s at *;have sl:jC 2 (ar s) (some (.int .i64 1)) none none=some (ar (s.drop 1)):=jT (k:=1) (by omega);have g1':H 1=some [.omap ((ufL (dt (c.take i)++(hZ s).take 0)).ks.map bP) ((ufL (dt (c.take i)++(hZ s).take 0)).vs.map bP)]:=by rw[List.take_zero,gJ];exact g1
  clear g1;have zz:=aI @ix (aI @sl @au);repeat' (first|refine zW ?_|apply a_n|refine zO ?_|refine vY ?_|(refine zGY ?_ ?_<;>(intro _hg;try (exfalso;omega)))|fail)
  refine lpI (X:=Nat) (λj=>[(1,.ptr 0 1 0),(5,.ptr 2 1 0),(6,.func 88 [.ptr 2 1 0]),(28,ak c),(29,.int .i64 c.length),(30,.int .i64 i),(8,ar s),(35,ar (s.drop 1)),(36,.int .i64 (s.drop 1).length),(37,.int .i64 j)]) (λj H nx=>j<=(s.drop 1).length/\3<=nx/\H 0=some [ak c]/\H 1=some [.omap ((ufL (dt (c.take i)++(hZ s).take j)).ks.map bP) ((ufL (dt (c.take i)++(hZ s).take j)).vs.map bP)]/\H 2=some [.mp 1]) (λj=>(s.drop 1).length-j) 0 ⟨bW _,hn,g0,g1',g2⟩ ?_;clear zz;clear g0 g1' g2 hn;rintro j H nx ⟨h2,hn,g0,g1,g2⟩;have hpl:(hZ s).length=(s.drop 1).length:=by unfold hZ;rw[bt]
  by_cases hj:j<(s.drop 1).length
  rotate_left
  ·obtain rfl:j=(s.drop 1).length:=by omega
   rw[eM (l:=hZ s) (by omega),<-hps] at g1
   repeat' (first|refine zW ?_|apply a_n|apply a_x|refine zO ?_|refine vY ?_|(refine zGY ?_ ?_<;>(intro _hg;try (exfalso;omega)))|fail)
   exact⟨i+1,by omega,⟨by omega,hn,g0,g1,g2⟩,ag0⟩
  have hjb:j<8:=by rw[AL] at hj;omega
  have iy:=ix2 hj
  have hsn:ufL (dt (c.take i)++(hZ s).take (j+1))=mN (ufL (dt (c.take i)++(hZ s).take j)) (s.getD 0 default,(s.drop 1).getD j default):=by
   rw[bD (by omega),<-np,uU]
   congr 1
   unfold hZ;simp only[wO,lf,p6 hj,lq,ru]
  have hu:=md (dt (c.take i)++(hZ s).take j);generalize ufL (dt (c.take i)++(hZ s).take j)=u at *;generalize (s.drop 1).getD j default=v at *;have zz:=@iy;repeat' (first|refine zW ?_|apply a_n|refine zO ?_|refine vY ?_|refine alY ?_|refine stY ?_|(refine zGY ?_ ?_<;>(intro _hg;try (exfalso;omega)))|fail)
  have f0:ao (ao H nx [.int .i64 0,.int .i64 0]) nx (bB [.int .i64 0,.int .i64 0] 0 [.int .i64 v.color,.int .i64 v.label]) 0=some [ak c]:=by rw[ab (by omega),ab (by omega)];exact g0
  have f1:ao (ao H nx [.int .i64 0,.int .i64 0]) nx (bB [.int .i64 0,.int .i64 0] 0 [.int .i64 v.color,.int .i64 v.label]) 1=some [.omap (u.ks.map bP) (u.vs.map bP)]:=by rw[ab (by omega),ab (by omega)];exact g1
  have f2:ao (ao H nx [.int .i64 0,.int .i64 0]) nx (bB [.int .i64 0,.int .i64 0] 0 [.int .i64 v.color,.int .i64 v.label]) 2=some [.mp 1]:=by rw[ab (by omega),ab (by omega)];exact g2
  have fq:ao (ao H nx [.int .i64 0,.int .i64 0]) nx (bB [.int .i64 0,.int .i64 0] 0 [.int .i64 v.color,.int .i64 v.label]) nx=some [.int .i64 v.color,.int .i64 v.label]:=by rw[ae];rfl
  generalize ao (ao H nx [.int .i64 0,.int .i64 0]) nx (bB [.int .i64 0,.int .i64 0] 0 [.int .i64 v.color,.int .i64 v.label])=HH at *;refine Fp (s:=s) (v:=v) (q:=nx) hu s1 ev0 ev0 ev0 (by omega) fq (by omega) f1 f2 ?_;intro T H2 nx2 x y k1 k2 k3 k4 k5 k6 k7 k8 k9 k10 k11;have t1:T 1=.ptr 0 1 0:=(k3 1 (by decide)).trans ev0;have t5:T 5=.ptr 2 1 0:=(k3 5 (by decide)).trans ev0;have t6:T 6=.func 88 [.ptr 2 1 0]:=(k3 6 (by decide)).trans ev0;have t8:T 8=ar s:=(k3 8 (by decide)).trans ev0;have t28:T 28=ak c:=(k3 28 (by decide)).trans ev0;have t29:T 29=.int .i64 c.length:=(k3 29 (by decide)).trans ev0;have t30:T 30=.int .i64 i:=(k3 30 (by decide)).trans ev0;have t35:T 35=ar (s.drop 1):=(k3 35 (by decide)).trans ev0;have t36:T 36=.int .i64 (s.drop 1).length:=(k3 36 (by decide)).trans ev0;have t37:T 37=.int .i64 j:=(k3 37 (by decide)).trans ev0;have r0:=(k2 0 (by omega)).trans f0;have r1:=(k2 1 (by omega)).trans f1;have r2:=(k2 2 (by omega)).trans f2;clear zz;clear k3 f0 f1 f2 fq g0 g1 g2;have hta:=hu.top (s.getD 0 default)
  have hcm:pi .neq [.int,.int] [.int .i64 (u.rt (s.getD 0 default)).color,.int .i64 (u.rt (s.getD 0 default)).label] [.int .i64 (u.rt v).color,.int .i64 (u.rt v).label]=some (.bool (!decide (u.rt (s.getD 0 default)=u.rt v))):=by
   rw[acn];generalize u.rt (s.getD 0 default)=a;generalize u.rt v=b;cases a;cases b;simp
  unfold mN at hsn;dsimp only at hsn;by_cases hab:u.rt (s.getD 0 default)=u.rt v
  ·rw[if_pos hab] at hsn;rw[bd hab] at hcm;have zz:=aI @t5 (aI @t6 (aI @t8 (aI @t28 (aI @t29 (aI @t30 (aI @t35 (aI @t36 (aI @t37 (aI @k4 (aI @k5 (aI @k10 (aI @k11 @hcm))))))))))));repeat' (first|refine zW ?_|apply a_n|refine zO ?_|refine vY ?_|refine cFY ?_|fail)
   exact⟨j+1,by omega,⟨by omega,by omega,r0,by rw[hsn];exact r1,r2⟩,(have zz:=aI @t1 (aI @t5 (aI @t6 (aI @t8 (aI @t28 (aI @t29 (aI @t30 (aI @t35 (aI @t36 @t37))))))));agZ)⟩
  ·rw[if_neg hab] at hsn;rw[bh hab] at hcm;have hmf:=nt (u.rt (s.getD 0 default)) u.ks;rw[if_neg hta] at hmf;generalize u.rt (s.getD 0 default)=a at *;generalize u.rt v=b at *;unfold bP at hmf;have zz:=aI @t5 (aI @t6 (aI @t8 (aI @t28 (aI @t29 (aI @t30 (aI @t35 (aI @t36 (aI @t37 (aI @k4 (aI @k5 (aI @k10 (aI @k11 (aI @hcm @r2)))))))))))));repeat' (first|refine zW ?_|apply a_n|refine zO ?_|refine vY ?_|refine cTY ?_|fail)
   refine nw ev0 r1 ev0 ev0 (lJ a) hmf ?_
   have r1':ao H2 1 [.omap (dl (.agg [.int .i64 a.color,.int .i64 a.label]) none (u.ks.map bP)) (gL (.agg [.int .i64 b.color,.int .i64 b.label]) none (u.vs.map bP))] 1=some [.omap ((u.ks++[a]).map bP) ((u.vs++[b]).map bP)]:=by
    rw[ae,dr,dr];rfl
   clear zz;have zz:=aI @t1 (aI @t5 (aI @t6 (aI @t8 (aI @t28 (aI @t29 (aI @t30 (aI @t35 (aI @t36 @t37))))))));repeat' (first|apply a_n|refine zO ?_|refine vY ?_|fail)
   exact⟨j+1,by omega,⟨by omega,by omega,by rw[ab (by omega)];exact r0,by rw[hsn];exact r1',by rw[ab (by omega)];exact r2⟩,(have zz:=aI @t1 (aI @t5 (aI @t6 (aI @t8 (aI @t28 (aI @t29 (aI @t30 (aI @t35 (aI @t36 @t37))))))));agZ)⟩
 obtain rfl:i=c.length:=by omega
 rw[List.take_length] at g1;have hu:=md (dt c);have hrl:(rtL c).length=c.length:=by unfold rtL;rw[bt]
 have hrg:∀i,i<c.length->(rtL c).getD i default=(ufL (dt c)).rt ((c.getD i default).getD 0 default):=λi hi=>by
  unfold rtL;simp only[wO,lf,p6 hi,lq,ru]
 unfold gz;generalize rtL c=l at *;generalize ufL (dt c)=u at *
 repeat' (first|refine zW ?_|apply a_n|apply a_x|refine zO ?_|refine vY ?_|(refine zGY ?_ ?_<;>(intro _hg;try (exfalso;omega)))|fail)
 refine sy ?_;have zz:=aI @ah @g0;repeat' (first|refine zW ?_|apply a_n|refine zO ?_|refine vY ?_|fail)
 have q0:ao H nx [AV.omap [] []] 0=some [ak c]:=by rw[ab (by omega)];exact g0
 have q1:ao H nx [AV.omap [] []] 1=some [.omap (u.ks.map bP) (u.vs.map bP)]:=by rw[ab (by omega)];exact g1
 have q2:ao H nx [AV.omap [] []] 2=some [.mp 1]:=by rw[ab (by omega)];exact g2
 have qm:ao H nx [AV.omap [] []] nx=some [.omap [] []]:=ae;generalize ao H nx [AV.omap [] []]=HH at *;clear zz;clear g0 g1 g2;refine lpI (X:=Nat×AV) (λx=>[(1,.ptr 0 1 0),(6,.func 88 [.ptr 2 1 0]),(13,.mp nx),(14,x.2),(59,ak c),(60,.int .i64 c.length),(61,.int .i64 x.1)]) (λx H' nx'=>x.1<=c.length/\nx<nx'/\H' 0=some [ak c]/\H' 1=some [.omap (u.ks.map bP) (u.vs.map bP)]/\H' 2=some [.mp 1]/\H' nx=some [.omap ((nsF (l.take x.1)).map bP) ((List.range (nsF (l.take x.1)).length).map λ(k:Nat)=>.int .i64 (k:Int))]/\Row H' 1 x.2 (((nsI l).take x.1).map AE)/\∀b,cf x.2=some b->nx<b/\b<nx') (λx=>c.length-x.1) (0,.esl) ⟨bW _,by omega,q0,q1,q2,qm,.nil,λb h=>(by cases h)⟩ ?_;clear q0 q1 q2 qm;rintro⟨i,sv⟩ H nx1 ⟨h1,hn1,g0,g1,g2,gm,hrow,hb⟩;dsimp only at h1 gm hrow hb |-;by_cases hi:i<c.length
 rotate_left
 ·obtain rfl:i=c.length:=by omega
  rw[eM (l:=nsI l) (by unfold nsI;rw[bt];omega)] at hrow
  repeat' (first|refine zW ?_|apply a_n|apply a_x|refine zO ?_|refine vY ?_|(refine zGY ?_ ?_<;>(intro _hg;try (exfalso;omega)))|refine bC rfl ?_|refine r2Y ?_|fail)
  exact bS (ag (xE hrow) (ag (.int _ _) aj))
 have ix:=eO hi;have hw:=hrg i hi;obtain⟨s1,s2,s3,-⟩:=bQ (p2 _ (az hi));obtain⟨n1,n2⟩:=yp (l:=l) (i:=i) (by omega);have n3:=HD (l:=l) (i:=i) (by omega);have n4:nsF (l.take (i+1))=if l.getD i default∈nsF (l.take i) then nsF (l.take i) else nsF (l.take i)++[l.getD i default]:=by rw[bD (by omega),tZ]
 have hNl:(nsF (l.take i)).length<=i:=fp (Ej _) (List.length_take_le _ _);rw[hw] at n1 n2 n3 n4;rw[<-n1] at n3;generalize (nsF l).idxOf _=dd at *;generalize hN':nsF (l.take (i+1))=N' at *;generalize nsF (l.take i)=N at *;generalize (nsI l).take i=P at *;generalize c.getD i default=s at *;have ix0:eP 2 (ar s) (.int .i64 0)=some (.iptr [.int .i64 (s.getD 0 default).color,.int .i64 (s.getD 0 default).label] 0):=ix2 (k:=0) s1;have hrc:=Ch u hu (s.getD 0 default) 2 1 H nx1 g2 g1 (by omega) (by omega);unfold bP at hrc;have zz:=aI @ix @ix0;repeat' (first|refine zW ?_|apply a_n|refine zO ?_|refine vY ?_|(refine zGY ?_ ?_<;>(intro _hg;try (exfalso;omega)))|fail)
 refine aU ev0 ev0 hrc ?_;rintro r H2 nx2 ⟨rfl,k1,k2⟩
 have hvg:∀(M:List Vtx)(x:Vtx),x∈M->((List.range M.length).map λ(k:Nat)=>AV.int .i64 (k:Int)).getD (M.idxOf x) .undef=.int .i64 (M.idxOf x:Nat):=λM x h=>by
  simp[List.getD,List.idxOf_lt_length_of_mem h]
 generalize u.rt (s.getD 0 default)=w at *
 repeat' (first|apply a_n|refine zO ?_|refine alY ?_|refine stY ?_|fail)
 have f:∀x,x<nx1->ao (ao H2 nx2 [.int .i64 0,.int .i64 0]) nx2 (bB [.int .i64 0,.int .i64 0] 0 [.int .i64 w.color,.int .i64 w.label]) x=H x:=λx hx=>by rw[ab (by omega),ab (by omega)];exact k2 x hx
 have fw:ao (ao H2 nx2 [.int .i64 0,.int .i64 0]) nx2 (bB [.int .i64 0,.int .i64 0] 0 [.int .i64 w.color,.int .i64 w.label]) nx2=some [.int .i64 w.color,.int .i64 w.label]:=by rw[ae];rfl
 generalize ao (ao H2 nx2 [.int .i64 0,.int .i64 0]) nx2 (bB [.int .i64 0,.int .i64 0] 0 [.int .i64 w.color,.int .i64 w.label])=H3 at *;have f0:=(f 0 (by omega)).trans g0;have f1:=(f 1 (by omega)).trans g1;have f2:=(f 2 (by omega)).trans g2;have fm:=(f nx (by omega)).trans gm;have hrow3:=hrow.same (H':=H3) λb h=>f b (by have:=hb b h;omega);have hmf:=nt w N;unfold bP at hmf;refine cR (λT H nx'=>T 1=.ptr 0 1 0/\T 6=.func 88 [.ptr 2 1 0]/\T 13=.mp nx/\T 14=sv/\T 17=.ptr nx2 2 0/\T 59=ak c/\T 60=.int .i64 c.length/\T 61=.int .i64 i/\nx'=nx2+1/\H nx=some [.omap (N'.map bP) ((List.range N'.length).map λ(k:Nat)=>.int .i64 (k:Int))]/\∀x,x≠nx->H x=H3 x) ?_ ?_
 ·by_cases hwN:w∈N
  ·rw[if_pos hwN] at hmf n4;clear zz;have zz:=@fw;repeat' (first|refine zW ?_|apply a_n|refine zO ?_|refine vY ?_|fail)
   refine fh ev0 fm ev0 (lJ w) hmf ?_;rw[show ∀V,mget (AV.int IntKind.i64 0) true (some (N.idxOf w)) V=.tup [V.getD (N.idxOf w) .undef,.bool true] from λ_=>rfl,hvg N w hwN]
   repeat' (first|refine zW ?_|apply a_n|refine zO ?_|refine vY ?_|refine cFY ?_|fail)
   exact⟨rfl,rfl,rfl,rfl,rfl,rfl,rfl,rfl,rfl,by rw[n4];exact fm,λ_ _=>rfl⟩
  ·rw[if_neg hwN] at hmf n4;clear zz;have zz:=@fw;repeat' (first|refine zW ?_|apply a_n|refine zO ?_|refine vY ?_|fail)
   refine fh ev0 fm ev0 (lJ w) hmf ?_;rw[show ∀V,mget (AV.int IntKind.i64 0) true none V=.tup [AV.int IntKind.i64 0,.bool false] from λ_=>rfl];clear zz;have zz:=@fw;repeat' (first|refine zW ?_|apply a_n|refine zO ?_|refine vY ?_|refine cTY ?_|fail)
   refine LV ev0 fm ?_;rw[bt];refine nw ev0 fm ev0 ev0 (lJ w) hmf ?_
   repeat' (first|apply a_n|refine zO ?_|fail)
   refine⟨rfl,rfl,rfl,rfl,rfl,rfl,rfl,rfl,rfl,?_,λx hx=>ab hx⟩;rw[ae,n4,dr,cA,List.length_singleton,List.range_succ,dr];rfl
 rintro T H4 nx4 ⟨t1,t6,t13,t14,t17,t59,t60,t61,rfl,m1,m2⟩;have hmf':=nt w N';rw[if_pos n2] at hmf';unfold bP at hmf';have m3:=(m2 nx2 (by omega)).trans fw;clear zz;have zz:=aI @t1 (aI @t6 (aI @t13 (aI @t14 (aI @t17 (aI @t59 (aI @t60 (aI @t61 @m3)))))));repeat' (first|apply a_n|refine zO ?_|refine vY ?_|fail)
 refine fh ev0 m1 ev0 (lJ w) hmf' ?_;rw[show ∀V,mget (AV.int IntKind.i64 0) false (some (N'.idxOf w)) V=V.getD (N'.idxOf w) .undef from λ_=>rfl,hvg N' w n2];clear zz;have zz:=aI @t1 (aI @t6 (aI @t13 (aI @t14 (aI @t17 (aI @t59 (aI @t60 @t61))))));repeat' (first|apply a_n|refine zO ?_|refine blY ?_|fail)
 have hbl:∀b,cf sv=some b->ao H4 (nx2+1) [.int .i64 (N'.idxOf w:Nat)] b=H3 b:=λb h=>by
  have:=hb b h;rw[ab (by omega)];exact m2 b (by omega)
 have hPl:P.length<=5000:=by
  have:=congrArg List.length n3;rw[fY,cA,List.length_singleton] at this;omega
 refine mY (k:=1) (new:=[.int .i64 (N'.idxOf w:Nat)]) rfl ev0 (hrow3.same hbl) ev0 jh rfl rfl ng (by rw[bt];omega) (by rw[bt];omega) ?_;rintro sv' H5 nx5 e1 e2 e3 e4 e5;have q:∀x,x<nx1->x≠nx->cf sv≠some x->H5 x=H x:=λx hx hn h=>((e4 x (by omega) h).trans (ab (by omega))).trans ((m2 x hn).trans (f x hx));have nb:∀x,x<=nx->cf sv≠some x:=λx hx h=>by have:=(hb x h).1;omega
 clear zz;have zz:=aI @t1 (aI @t6 (aI @t13 (aI @t59 (aI @t60 @t61))));repeat' (first|apply a_n|refine zO ?_|refine vY ?_|fail)
 refine⟨(i+1,sv'),by dsimp only;omega,⟨by dsimp only;omega,by omega,(q 0 (by omega) (by omega) (nb 0 (by omega))).trans g0,(q 1 (by omega) (by omega) (nb 1 (by omega))).trans g1,(q 2 (by omega) (by omega) (nb 2 (by omega))).trans g2,?_,?_,λb h=>?_⟩,(have zz:=aI @t1 (aI @t6 (aI @t13 (aI @t59 (aI @t60 @t61))));agZ)⟩
 ·dsimp only;rw[hN',e4 nx (by omega) (nb nx (aJ _)),ab (by omega)];exact m1
 ·dsimp only;rw[n3,dr];exact e1
 ·rcases e5 b h with h|h
  ·have:=hb b h;omega
  ·omega
theorem uJ(c:List Spx)(hc:Shn c/\∀s∈c,Shn s):pU 10 [b7 c] (.bool true):=by
 refine pO QD ?_;simp only[b10,aK];have f1:=Kc c [] hc.1 hc.2 (bW _) (λa h=>(by cases h));have aw:=Kt;have zz:=aI @ai @af;repeat' (first|refine zW ?_|apply a_n|refine zO ?_|refine vY ?_|refine bxY ?_|fail)
 refine ey ev0 ev0 f1 (aB (ag (bI _).snap (ag (.eslsl 1) aj)) rfl) ?_;cases e1:u9 c []
 ·repeat' (first|refine zW ?_|apply a_n|apply a_r|refine zO ?_|refine vY ?_|refine cY ?_ (hp:=aw) (hs:=by(first|refine aB ?_ rfl|apply aL);(repeat' (first|exact aj|apply bk|apply aN|exact bI _));first|done|fail)|refine gFY ?_|refine cTY ?_|refine bC rfl ?_|refine r1Y ?_|fail)
  exact .bool _
 obtain⟨-,l1,l2⟩:=Fy e1;have s1:=JC c hc.1 hc.2;by_cases he:ay c=0
 rotate_left
 ·have z:decide (ay c≠0)=true:=bd he;generalize ay c=e at *;clear zz;have zz:=aI @z (aI @ai @af);repeat' (first|refine zW ?_|apply a_n|apply a_r|refine zO ?_|refine vY ?_|refine cY ?_ (hp:=by first|exact s1|exact aw) (hs:=by(first|refine aB ?_ rfl|apply aL);(repeat' (first|exact aj|apply bk|apply aN|exact bI _));first|done|fail)|refine gTY ?_|refine cTY ?_|refine bC rfl ?_|refine r1Y ?_|fail)
  exact .bool _
 rw[he] at s1;obtain⟨m,hm,hm8⟩:=nF he;have s2:=rc c m he (by omega) hm hm8;have s3:=zE c he (by omega);have s4:=yy c he (by omega);have s5:=Jp c apx he AU;have hblen:(btL c m).length=m:=by unfold btL;simp
 have hplen:=HE (c:=c);have hget:=λ{i:Nat}(h:i<c.length)=>Hw (c:=c) h;have hrl:(rtL c).length=c.length:=by unfold rtL;rw[bt]
 have hnb:∀i,(nsF ((rtL c).take i)).length<=30:=λi=>by
  have:=Ej ((rtL c).take i);rw[fY] at this;omega
 have hidx:∀i,i<c.length->(nsF (rtL c)).idxOf ((rtL c).getD i default)<=30:=λi hi=>by
  have h1:=(yp (l:=rtL c) (i:=i) (by omega)).2;have h2:=(yp (l:=rtL c) (i:=i) (by omega)).1;have:=List.idxOf_lt_length_of_mem h1;have:=hnb (i+1);omega
 have z0:decide ((0:Int)≠0)=false:=rfl;have z00:decide ((0:Int)+0+0≠0)=false:=rfl;generalize hP:cq (gz c)=P at *;clear zz;have zz:=aI @ai (aI @af (aI @z0 (aI @z00 (aI @d8 @hblen))));repeat' (first|refine zW ?_|apply a_n|refine zO ?_|refine vY ?_|refine cY ?_ (hp:=by first|exact s1|exact s2|exact s3|exact s4) (hs:=by(first|refine aB ?_ rfl|apply aL);(repeat' (first|exact aj|apply bk|apply aN|exact bI _));first|done|fail)|refine gTY ?_|refine cFY ?_|fail)
 refine lpI (X:=Nat) (λk=>[(1,.ptr 0 1 0),(3,aH (btL c m)),(5,.int .i64 (jE c 8)),(7,aH P),(9,.int .i64 (r8 c k)),(10,.int .i64 (if k%2=0 then 1 else-1)),(52,aH (btL c m)),(53,.int .i64 m),(54,.int .i64 k)]) (λk H nx=>k<=m/\nx=1/\H 0=some [ak c]) (λk=>m-k) 0 ⟨bW _,rfl,rfl⟩ ?_;rintro k H nx ⟨g1,rfl,g2⟩;by_cases hk:k<m
 ·have ix:=ixV (l:=btL c m) (k:=k) (by omega);rw[Dy hk] at ix;have hb1:=EB he (by omega) (k:=k) (by omega);have hb2:=EB he (by omega) (k:=k+1) (by omega);have has:r8 c (k+1)=if k%2=0 then r8 c k+btF c k else r8 c k-btF c k:=rfl
  have hn1:=de he (by omega) (d:=(k:Int)+1);have hf1:=oa (c:=c) (d:=k);have hf2:=oa (c:=c) (d:=k+1);have hbf:btF c k=((an c ((k:Int)+1)).length:Int)-(rkF c k:Int)-(rkF c (k+1):Int):=rfl;have hn2:=de he (by omega) (d:=((k+1:Nat):Int)+1);generalize btF c k=b at *;by_cases hev:k%2=0
  ·rw[if_pos hev] at has |-;have zm:(1:Int)*b=b:=Int.one_mul _;rw[has] at hb2;have zn:aun .neg (.int .i64 1)=some (.int .i64 (-1)):=rfl;clear zz;have zz:=aI @ix (aI @zm @zn);repeat' (first|refine zW ?_|apply a_n|refine zO ?_|refine vY ?_|(refine zGY ?_ ?_<;>(intro _hg;try (exfalso;omega)))|fail)
   exact⟨k+1,by omega,⟨by omega,rfl,g2⟩,by rw[has,if_neg (by omega)];simp (disch:=omega) only[agr,ZG,reduceEqDiff,↓reduceIte]⟩
  ·rw[if_neg hev] at has |-;have zm:(-1:Int)*b=-b:=by omega
   rw[has] at hb2;have za:r8 c k+ -b=r8 c k-b:=rfl;have zn:aun .neg (.int .i64 (-1))=some (.int .i64 1):=rfl;clear zz;have zz:=aI @ix (aI @zm (aI @za @zn));repeat' (first|refine zW ?_|apply a_n|refine zO ?_|refine vY ?_|(refine zGY ?_ ?_<;>(intro _hg;try (exfalso;omega)))|fail)
   exact⟨k+1,by omega,⟨by omega,rfl,g2⟩,by rw[has,if_pos (by omega)];simp (disch:=omega) only[agr,ZG,reduceEqDiff,↓reduceIte]⟩
 obtain rfl:k=m:=by omega
 rw[EM hm hm8];clear zz;have zz:=aI @d8 @hplen;repeat' (first|refine zW ?_|apply a_n|apply a_x|refine zO ?_|refine vY ?_|(refine zGY ?_ ?_<;>(intro _hg;try (exfalso;omega)))|fail)
 refine lpI (X:=Nat) (λi=>[(1,.ptr 0 1 0),(3,aH (btL c k)),(5,.int .i64 (jE c 8)),(9,.int .i64 (jE c 8)),(13,.int .i64 ((nsF ((rtL c).take i)).length:Nat)),(66,aH P),(67,.int .i64 c.length),(68,.int .i64 i)]) (λi H nx=>i<=c.length/\nx=1/\H 0=some [ak c]) (λi=>c.length-i) 0 ⟨bW _,rfl,g2⟩ ?_;rintro i H nx ⟨g1,rfl,g2⟩;by_cases hi:i<c.length
 ·have ix:=ixV (l:=P) (k:=i) (by omega);rw[hget hi] at ix;have hst:=Fe (l:=rtL c) (i:=i) (by omega);have hb:=hidx i hi;have hb2:=hnb i;generalize (nsF (rtL c)).idxOf ((rtL c).getD i default)=j at *;clear zz;have zz:=aI @ix @hst;repeat' (first|refine zW ?_|apply a_n|refine zO ?_|refine vY ?_|(refine zGY ?_ ?_<;>(intro _hg;try (exfalso;omega)))|fail)
  exact⟨i+1,by omega,⟨by omega,rfl,g2⟩,ag0⟩
 obtain rfl:i=c.length:=by omega
 rw[eM (show(rtL c).length<=c.length by omega)];have hbc:=De he (show c.length<=50 by omega);have ze:decide (jE c 8≠jE c 8)=false:=bh λh=>h rfl;have hmz:=Mm he hm;have herr:=LQ (c:=c) (v:=apx);have hcone:=Kn (c:=c) (v:=apx) he AU l1;generalize (nsF (rtL c)).length=p at *;generalize jnT c apx=J at *;obtain⟨K,e⟩:=J;dsimp only at s5 herr hcone;by_cases hm0:k=0
 ·have hc0:(c.length:Int)=0:=by rw[hmz.1 hm0];rfl
  have hkz:(k:Int)=0:=by omega
  have zk:decide ((0:Int)<0)=false:=rfl;have zl:decide ((0:Int)=0)=true:=rfl;clear zz;have zz:=aI @g2 (aI @ai (aI @af (aI @ah (aI @d8 (aI @hblen (aI @ze (aI @hc0 (aI @hkz (aI @zk @zl)))))))));repeat' (first|refine zW ?_|apply a_n|apply a_x|refine zO ?_|refine vY ?_|refine alY ?_|refine stY ?_|refine blY ?_|refine gTY ?_|refine gFY ?_|(refine zGY ?_ ?_<;>(intro _hg;try (exfalso;omega)))|refine cFY ?_|fail)
  refine aU ev0 ev0 (GN (b:=1) (d:=2) s5 ?_ ?_ (by omega) λH=>(bI _).snap) ?_
  ·rw[ab (by omega),ab (by omega),ab (by omega),ae]
  ·rw[ab (by omega),ab (by omega),ae]
  rintro _ H2 nx2 ⟨rfl,rfl,g3⟩;by_cases he0:e=0
  rotate_left
  ·have zz:decide (e≠0)=true:=bd he0;rcases herr he0 with rfl|rfl
   ·have z1:decide ((7:Int)≠0)=true:=rfl;have z2:decide ((7:Int)=7)=true:=rfl;clear zz;have zz:=aI @z1 (aI @z2 (aI @ai @af));repeat' (first|refine zW ?_|apply a_n|apply a_r|refine zO ?_|refine vY ?_|refine cY ?_ (hp:=aw) (hs:=by(first|refine aB ?_ rfl|apply aL);(repeat' (first|exact aj|apply bk|apply aN|exact bI _));first|done|fail)|refine alY ?_|refine stY ?_|refine gTY ?_|refine gFY ?_|(refine zGY ?_ ?_<;>(intro _hg;try (exfalso;omega)))|refine cTY ?_|refine bC rfl ?_|refine r1Y ?_|fail)
    exact .bool _
   ·have z1:decide ((5:Int)≠0)=true:=rfl;have z2:decide ((5:Int)=7)=false:=rfl;have z3:decide ((5:Int)=5)=true:=rfl;clear zz;have zz:=aI @z1 (aI @z2 (aI @z3 (aI @ai @af)));repeat' (first|refine zW ?_|apply a_n|apply a_r|refine zO ?_|refine vY ?_|refine cY ?_ (hp:=aw) (hs:=by(first|refine aB ?_ rfl|apply aL);(repeat' (first|exact aj|apply bk|apply aN|exact bI _));first|done|fail)|refine alY ?_|refine stY ?_|refine gTY ?_|(refine zGY ?_ ?_<;>(intro _hg;try (exfalso;omega)))|refine cTY ?_|refine bC rfl ?_|refine r1Y ?_|fail)
    exact .bool _
  subst he0;obtain⟨k1,k2,k3⟩:=hcone rfl;obtain⟨n,hn,hn8⟩:=nF k1;clear zz;have zz:=aI @z0 (aI @ai @af);repeat' (first|refine zW ?_|apply a_n|refine zO ?_|refine vY ?_|refine alY ?_|refine stY ?_|refine cFY ?_|fail)
  refine lpI (X:=Nat) (λi=>[(17,.ptr 4 1 0),(19,.int .i64 ((i:Int)-1))]) (λi H nx=>i<=5/\H 4=some [ak K]) (λi=>5-i) 0 ⟨bW _,ae⟩ ?_;rintro i H nx ⟨g3,g4⟩;by_cases hi5:i<5
  ·have s6:=jV K n ((i:Int)-1) k1 k3 hn hn8 (by omega);rw[Bt k1 k3 k2 hn] at s6;have zi:decide (((i:Int)-1)<4)=true:=bd (by omega);clear zz;have zz:=aI @g4 (aI @z0 (aI @zi (aI @ai @af)));repeat' (first|refine zW ?_|apply a_n|refine zO ?_|refine vY ?_|refine cY ?_ (hp:=s6) (hs:=by(first|refine aB ?_ rfl|apply aL);(repeat' (first|exact aj|apply bk|apply aN|exact bI _));first|done|fail)|refine gTY ?_|refine cTY ?_|refine cFY ?_|fail)
   exact⟨i+1,by omega,⟨by omega,g4⟩,by rw[show((i+1:Nat):Int)-1=(i:Int)-1+1 by omega];simp (disch:=omega) only[agr,ZG,reduceEqDiff,↓reduceIte]⟩
  ·have zi:decide (((i:Int)-1)<4)=false:=bh (by omega);clear zz;have zz:=@zi;repeat' (first|refine zW ?_|apply a_n|apply a_x|refine zO ?_|refine vY ?_|refine cY ?_ (hp:=aw)|refine cFY ?_|refine bC rfl ?_|refine r1Y ?_|fail)
   exact .bool _
 ·have zk:decide ((0:Int)<k)=true:=bd (by omega);have zl:decide ((k:Int)=0)=false:=bh (by omega);have hz:(btL c k).getD (Int.toNat 0) default=(p:Int):=by rw[<-hbc];exact Dy (k:=0) (by omega)
  have zp:decide ((p:Int)≠p)=false:=bh λh=>h rfl;clear zz;have zz:=aI @g2 (aI @ai (aI @af (aI @ah (aI @d8 (aI @hblen (aI @ze (aI @zk (aI @zl (aI @hz @zp)))))))));repeat' (first|refine zW ?_|apply a_n|apply a_x|refine zO ?_|refine vY ?_|refine alY ?_|refine stY ?_|refine blY ?_|refine gTY ?_|refine gFY ?_|refine cFY ?_|(refine zGY ?_ ?_<;>(intro _hg;try (exfalso;omega)))|fail)
  refine aU ev0 ev0 (GN (b:=1) (d:=2) s5 ?_ ?_ (by omega) λH=>(bI _).snap) ?_
  ·rw[ab (by omega),ab (by omega),ab (by omega),ae]
  ·rw[ab (by omega),ab (by omega),ae]
  rintro _ H2 nx2 ⟨rfl,rfl,g3⟩;by_cases he0:e=0
  rotate_left
  ·have zz:decide (e≠0)=true:=bd he0;rcases herr he0 with rfl|rfl
   ·have z1:decide ((7:Int)≠0)=true:=rfl;have z2:decide ((7:Int)=7)=true:=rfl;clear zz;have zz:=aI @z1 (aI @z2 (aI @ai @af));repeat' (first|refine zW ?_|apply a_n|apply a_r|refine zO ?_|refine vY ?_|refine cY ?_ (hp:=aw) (hs:=by(first|refine aB ?_ rfl|apply aL);(repeat' (first|exact aj|apply bk|apply aN|exact bI _));first|done|fail)|refine alY ?_|refine stY ?_|refine gTY ?_|refine gFY ?_|(refine zGY ?_ ?_<;>(intro _hg;try (exfalso;omega)))|refine cTY ?_|refine bC rfl ?_|refine r1Y ?_|fail)
    exact .bool _
   ·have z1:decide ((5:Int)≠0)=true:=rfl;have z2:decide ((5:Int)=7)=false:=rfl;have z3:decide ((5:Int)=5)=true:=rfl;clear zz;have zz:=aI @z1 (aI @z2 (aI @z3 (aI @ai @af)));repeat' (first|refine zW ?_|apply a_n|apply a_r|refine zO ?_|refine vY ?_|refine cY ?_ (hp:=aw) (hs:=by(first|refine aB ?_ rfl|apply aL);(repeat' (first|exact aj|apply bk|apply aN|exact bI _));first|done|fail)|refine alY ?_|refine stY ?_|refine gTY ?_|(refine zGY ?_ ?_<;>(intro _hg;try (exfalso;omega)))|refine cTY ?_|refine bC rfl ?_|refine r1Y ?_|fail)
    exact .bool _
  subst he0;obtain⟨k1,k2,k3⟩:=hcone rfl;obtain⟨n,hn,hn8⟩:=nF k1;clear zz;have zz:=aI @z0 (aI @ai @af);repeat' (first|refine zW ?_|apply a_n|refine zO ?_|refine vY ?_|refine alY ?_|refine stY ?_|refine cFY ?_|fail)
  refine lpI (X:=Nat) (λi=>[(17,.ptr 4 1 0),(19,.int .i64 ((i:Int)-1))]) (λi H nx=>i<=5/\H 4=some [ak K]) (λi=>5-i) 0 ⟨bW _,ae⟩ ?_;rintro i H nx ⟨g3,g4⟩;by_cases hi5:i<5
  ·have s6:=jV K n ((i:Int)-1) k1 k3 hn hn8 (by omega);rw[Bt k1 k3 k2 hn] at s6;have zi:decide (((i:Int)-1)<4)=true:=bd (by omega);clear zz;have zz:=aI @g4 (aI @z0 (aI @zi (aI @ai @af)));repeat' (first|refine zW ?_|apply a_n|refine zO ?_|refine vY ?_|refine cY ?_ (hp:=s6) (hs:=by(first|refine aB ?_ rfl|apply aL);(repeat' (first|exact aj|apply bk|apply aN|exact bI _));first|done|fail)|refine gTY ?_|refine cTY ?_|refine cFY ?_|fail)
   exact⟨i+1,by omega,⟨by omega,g4⟩,by rw[show((i+1:Nat):Int)-1=(i:Int)-1+1 by omega];simp (disch:=omega) only[agr,ZG,reduceEqDiff,↓reduceIte]⟩
  ·have zi:decide (((i:Int)-1)<4)=false:=bh (by omega);clear zz;have zz:=@zi;repeat' (first|refine zW ?_|apply a_n|apply a_x|refine zO ?_|refine vY ?_|refine cY ?_ (hp:=aw)|refine cFY ?_|refine bC rfl ?_|refine r1Y ?_|fail)
   exact .bool _
end
end Go.Proofs.YtekdaafnjdlenaaGreat
namespace Go.Proofs.YtekdaafnjdlenaaGreat
open Go Go.Abs Go.RowKit
section
variable{H:Type}{enc:TypeId×Value->H}{W:World}
theorem oi:gH enc Tryz.prog W 3 (AV.int .i64) (λn=>(Lit.int .i64 n).wf=true):=Gk Tryz.underlying3
set_option maxRecDepth 100000 in
theorem P4:gH enc Tryz.prog W 69 bP (λ_=>True):=
 (qa Tryz.underlying69 (by kernel_rfl) (ou (off:=0) (off':=1) rfl (by kernel_rfl) oi (ou (off:=1) (off':=2) rfl (by kernel_rfl) oi wg))).map
  (λa=>(⟨a.1,a.2.1⟩:Vtx)) (λ_ _=>trivial) (λ_ _=>rfl)
theorem oXs:gH enc Tryz.prog W 70 ar Shn:=
 (sN Tryz.underlying70 (sz:=2) (by_:=16) (by kernel_rfl) (by kernel_rfl) (by omega) (λ_=>rfl) P4).mono λl h=>by have:=h.2.2;show _<=_;omega
theorem Qc:gH enc Tryz.prog W 22 ak (λl=>Shn l/\∀x∈l,Shn x):=
 (sN Tryz.underlying22 (sz:=1) (by_:=24) (by kernel_rfl) (by kernel_rfl) ng (λ_=>rfl) oXs).mono λl h=>⟨by have:=h.2.2;show _<=_;omega,h.1⟩
set_option maxRecDepth 100000 in
theorem oCx:gH enc Tryz.prog W 24 b7 (λl=>Shn l/\∀x∈l,Shn x):=
 (qa Tryz.underlying24 (by kernel_rfl) (ou (off:=0) (off':=1) rfl (by kernel_rfl) Qc wg)).map
  (λa=>a.1) (by rintro⟨n,u⟩ ⟨h1,_⟩;exact h1) (λ_ _=>rfl)
end
theorem tY{f:FuncId}{xs:List AV}{vs:List Value}(h:pU f xs (.bool true))(w:World)(hv:d6 (E0 (yV w)) w xs vs):
    Calls Tryz.prog f vs.toArray w λe w'=>e=.returned (.bool true)/\Below w.heap.size w w':=by
 refine(h.2 (yV w) w vs (λ_ h=>h) hv).mono ?_;rintro e w' ⟨v,imm',rfl,hb,_,_,_,hr⟩;cases hr;exact⟨rfl,hb⟩
theorem PZ:laidOutB Tryz.prog=true:=by kernel_rfl
end Go.Proofs.YtekdaafnjdlenaaGreat
namespace Go.Proofs.YtekdaafnjdlenaaGreat
open Go Go.Abs Go.RowKit Go.ChangeShapes Go.WideShapes Go.ChangeAt
theorem ww{H:Type}{enc:TypeId×Value->H}{P:Program}{f:Func}{s:ChangeSpec}{apart fresh handsOn again:Bool}{W W':World}{args:Array Value}{v:Value}{ds gs:List (DataW H)}{before pa pv:List MemPlace}
    (hW:DataW.Whole enc P f.params.toList s.vars apart W args.toList ds gs before)
    (hres:∀(b:Nat)(sp:Nat->Bool)(hd:Bool),DataW.TrodAll enc P W' b sp hd f.resultTypes.toList (v.resultList f.resultTypes.size) (s.fn H (ds++gs)).results [])
    (hargs:∀sp:Nat->Bool,(∀p∈before,sp p.block=true)->DataW.TrodAll enc P W' 0 sp true f.params.toList args.toList (s.fn H (ds++gs)).args pa)
    (hvars:∀sp:Nat->Bool,(∀p∈before,sp p.block=true)->DataW.TrodVars enc P W' sp s.vars (s.fn H (ds++gs)).vars pv)
    (hps:before=pa++pv) (hb:Below W.heap.size W W')
    (hok:∀(j:Nat)(t:TypeId)(r:Value),f.resultTypes[j]?=some t->(v.resultList f.resultTypes.size)[j]?=some r->Value.okWide P W' .any 0 t r):
    s.post enc P f apart fresh handsOn again W args v W':=by
 have hold:∀p∈before,(λb=>decide (b<W.heap.size)) p.block=true:=λp hp=>by simpa using hW.lt p hp
 have hlt:=λp hp=>hW.lt p hp;refine⟨ds,gs,before,[],pa,pv,hW,hres _ _ _,hargs _ hold,hvars _ hold,World.keptBut_mono (λp hp=>⟨hp,?_⟩) (hb.frame _),λ_=>?_⟩
 ·rw[hps,dZ] at hp;exact Or.inr hp
 ·obtain⟨_,_,_,_,_,hz,hn⟩:=hW;refine⟨hok,_,_,([]++pa)++pv,⟨[]++pa,pv,trodAll_append (hargs _ (λ_ _=>rfl)) (hres _ _ _),hvars _ (λ_ _=>rfl),rfl,?_,?_⟩,?_⟩
  ·intro b off hp;have hp':MemPlace.cell b off∈before:=by rw[hps];simpa using hp
   rw[hb.frozen (hlt _ hp')];exact hz b off hp'
  ·intro ha;have:=hn ha;rw[hps] at this;simpa using this
  ·intro p hp _;rw[hps];simpa using hp
theorem GU{E:Env}{w:World}:d6 E w [] []:=⟨rfl,λi x y h=>(by cases h)⟩
theorem Gg{E:Env}{w:World}{x:AV}{y:Value}{xs:List AV}{ys:List Value}(h:Rel E w x y)(hs:d6 E w xs ys):d6 E w (x::xs) (y::ys):=by
 refine⟨by simp[hs.1],λi a b ha hb=>?_⟩;cases i with
 |zero=>simp at ha hb;subst ha hb;exact h
 |succ i=>simp at ha hb;exact hs.2 i a b ha hb
theorem own:ownKnob Tryz.prog.godebug=none:=by kernel_rfl
end Go.Proofs.YtekdaafnjdlenaaGreat
