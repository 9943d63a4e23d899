/- Contracts of functions and plain laws, for all inputs that the theorems name. -/
import Derived.Test.YtekdaafnjdlenaaGreatXG5
import Derived.Test.YtekdaafnjdlenaaGreatXG3
import Derived.Test.YtekdaafnjdlenaaGreatXG4
import Derived.Test.YtekdaafnjdlenaaGreatRows
import Derived.WalkKit
import Derived.ProofKit
import Derived.OpenShut

set_option linter.unusedSimpArgs false
set_option linter.unusedVariables false
set_option maxHeartbeats 4000000
namespace Go.Proofs.YtekdaafnjdlenaaGreat
open Go Go.Abs
open Nat (reduceEqDiff reduceAdd reduceLeDiff)
structure VR(c:Nat)(R:List (List Int)):Prop where
 asc:∀r∈R,bd r
 rng:∀r∈R,∀z∈r,0<=z/\z<(c:Int)
def rk(R:List (List Int))(c:Nat):Nat:=(de R c).length
theorem VR.app{c:Nat}{R S:List (List Int)}(h1:VR c R)(h2:VR c S):VR c (R++S):=
 ⟨λr hr=>(eJ.1 hr).elim (h1.asc r) (h2.asc r),λr hr=>(eJ.1 hr).elim (h1.rng r) (h2.rng r)⟩
theorem VR.sub{c:Nat}{R S:List (List Int)}(h:VR c R)(hs:∀r∈S,r∈R):VR c S:=⟨λr hr=>h.asc r (hs r hr),λr hr=>h.rng r (hs r hr)⟩
theorem VR.one{c:Nat}{v:List Int}(ha:bd v)(hv:∀z∈v,0<=z/\z<(c:Int)):VR c [v]:=⟨λr hr=>by rw[cC] at hr;rw[hr];exact ha,λr hr=>by rw[cC] at hr;rw[hr];exact hv⟩
theorem VR.nil{c:Nat}:VR c []:=⟨λ_ h=>(by cases h),λ_ h=>(by cases h)⟩
theorem dY{c:Nat}{R:List (List Int)}(h:hU c R):VR c R:=⟨gq h,oO h⟩
theorem v7{R S:List (List Int)}:∀{i:Nat},(∀j,j<i->R.getD j default=S.getD j default)->stE R i=stE S i
 |0,_=>rfl
 |i+1,h=>by
  have ih:=v7 (R:=R) (S:=S) (i:=i) (λj hj=>h j (by omega));have e:=h i (by omega);simp only[stE,ih,e]
theorem Ch{c:Nat}{R:List (List Int)}(h:VR c R):rk R c=(stE R R.length).1.length:=by
 obtain⟨h1,h2,h3⟩:=fR h.asc h.rng;have hs:=eI h.asc (aM R.length);unfold rk de;rw[bm];have hn:(ka R c).Nodup:=(mL hs.red).imp (λ{x y}(q:ld x.1<ld y.1) e=>by rw[e] at q;omega);exact Nat.le_antisymm (iU hn λx hx=>(h3 x).1 hx) (iU hs.red.nodup λx hx=>(h3 x).2 hx)
theorem Hz{c:Nat}{R:List (List Int)}(h:VR c R):rk R c+(stE R R.length).2.length=R.length:=by
 rw[Ch h];exact(eI h.asc (aM R.length)).len
theorem Gc{R:List (List Int)}(hR:∀r∈R,bd r)(v:List Int):Sp ((stE R R.length).1.map Prod.fst) v↔Sp R v:=by
 have hs:=eI hR (aM R.length);have e:R.take R.length=R:=List.take_length;constructor
 ·intro h;refine jm hR (λr hr=>?_) h;obtain⟨l,hl,rfl⟩:=bz.1 hr;have:=hs.inS l hl
  rwa [e] at this
 ·intro h;exact jm (fc hs.red) (λr hr=>hs.all r (by rw[e];exact hr)) h
theorem uW{c:Nat}{R S:List (List Int)}(hR:VR c R)(hS:VR c S)(h:∀v,Sp R v↔Sp S v):rk R c=rk S c:=by
 obtain⟨a1,a2,-⟩:=fR hR.asc hR.rng;obtain⟨b1,b2,-⟩:=fR hS.asc hS.rng;unfold rk;rw[pI a1 b1 λv=>(a2 v).trans ((h v).trans (b2 v).symm)]
theorem kj{c:Nat}{R:List (List Int)}{v:List Int}(h:VR c R)(ha:bd v)(hv:∀z∈v,0<=z/\z<(c:Int)):(Sp R v/\rk (R++[v]) c=rk R c)\/(¬Sp R v/\rk (R++[v]) c=rk R c+1):=by
 have hw:=h.app (VR.one ha hv);rw[Ch hw,Ch h,cP,List.length_singleton];have hs:=eI h.asc (aM R.length);have hsp:=Gc h.asc v;have hsp2:=Gc h.asc;have hx:cr (v,[(R.length:Int)]):=⟨ha,List.pairwise_singleton ..⟩
 have hyn:=λl hl=>k9 hs.red hx (l:=l) hl;have hysp:Sp ((stE R R.length).1.map Prod.fst) (bV v (eh (stE R R.length).1 (v,[(R.length:Int)])).1):=vj (fc hs.red) (λl hl=>⟨hs.red.asc l hl,bz.2 ⟨l,hl,rfl⟩⟩) hx;have hya:cr (eh (stE R R.length).1 (v,[(R.length:Int)])):=iK hs.red.asc hx
 have e1:stE (R++[v]) R.length=stE R R.length:=v7 λj hj=>by
  simp only[Lf,hJ hj]
 have e2:(R++[v]).getD R.length default=v:=by simp[List.getD]
 have e3:stE (R++[v]) (R.length+1)=if (eh (stE R R.length).1 (v,[(R.length:Int)])).1=[] then((stE R R.length).1,(stE R R.length).2++[(eh (stE R R.length).1 (v,[(R.length:Int)])).2]) else(kA (stE R R.length).1 (eh (stE R R.length).1 (v,[(R.length:Int)])),(stE R R.length).2):=by
  simp only[stE,e1,e2]
 rw[e3];generalize eh (stE R R.length).1 (v,[(R.length:Int)])=y at *;by_cases h0:y.1=[]
 ·left;rw[if_pos h0];rw[h0,gB] at hysp;exact⟨hsp.1 hysp,rfl⟩
 ·right;rw[if_neg h0];refine⟨λq=>h0 (ro hs.red ?_ hyn),?_⟩
  ·have:=jP (fc hs.red) (hsp.2 q) hysp
   rwa [eM ha ha hya.1,fu ha,kN] at this
  ·unfold kA;rw[cP,bm];rfl
theorem FB{c:Nat}:rk [] c=0:=by
 have:=Hz (c:=c) VR.nil;simp only[dw] at this;omega
theorem Fx{c:Nat}:∀{S R:List (List Int)},VR c R->VR c S->rk R c<=rk (R++S) c/\rk (R++S) c<=rk R c+S.length
 |[],R,_,_=>by rw[fY];simp
 |v::S,R,hR,hS=>by
  have hv:VR c [v]:=hS.sub λr hr=>by rw[cC] at hr;rw[hr];exact cz ..
  have h2:=Fx (S:=S) (R:=R++[v]) (hR.app hv) (hS.sub λr hr=>dy _ hr);have h1:=kj hR (hv.asc v (cC.2 rfl)) (hv.rng v (cC.2 rfl));rw[i9,List.singleton_append] at h2;rw[br];rcases h1 with⟨_,h1⟩|⟨_,h1⟩<;>omega
theorem HB{R S T:List (List Int)}(hS:∀r∈S,bd r)(hT:∀r∈T,bd r)(h:∀r∈R,Sp S r){v:List Int}(hv:Sp (R++T) v):Sp (S++T) v:=
 jm (λr hr=>(eJ.1 hr).elim (hS r) (hT r)) (λr hr=>(eJ.1 hr).elim (λq=>iG (λx hx=>l6 _ hx) (h r q)) λq=>cR (lJ _ q)) hv
theorem xH{c:Nat}{R S:List (List Int)}(hR:VR c R)(hS:VR c S):rk (de R c++S) c=rk (R++S) c:=by
 obtain⟨a1,a2,-⟩:=fR hR.asc hR.rng;have hE:VR c (de R c):=⟨a1.asc,λr hr=>fE hR.asc hR.rng ((a2 r).1 (cR hr))⟩
 exact uW (hE.app hS) (hR.app hS) λv=>⟨HB hR.asc hS.asc λr hr=>(a2 r).1 (cR hr),HB hE.asc hS.asc λr hr=>(a2 r).2 (cR hr)⟩
theorem HG{R:List (List Int)}{v:List Int}{z:Int}(hR:∀r∈R,bd r)(hz:z∈v)(h:∀r∈R,z∉r):¬Sp R v:=λq=>
 fE (P:=λx=>x≠z) hR (λr hr x hx e=>h r hr (e▸hx)) q z hz rfl
structure KerV(R:List (List Int))(c:Nat)(x:List Int):Prop where
 asc:bd x
 rng:∀z∈x,0<=z/\z<(c:Int)
 dot:∀r∈R,bJ (λz=>bit z r) x%2=0
theorem Hj{R:List (List Int)}{x v:List Int}(hR:∀r∈R,bd r)(h:∀r∈R,bJ (λz=>bit z r) x%2=0)(hv:Sp R v):bJ (λz=>bit z v) x%2=0:=by
 induction hv with
 |nil=>rw[ig λz _=>fG]
 | @add v r hv hr ih=>
  rw[po (h:=λz=>bit z v+bit z r) λz _=>by rw[dP (jR hR hv) (hR r hr)];omega,s9];have:=h r hr;omega
theorem Jx{c:Nat}{R:List (List Int)}{x:List Int}(h:VR c R):KerV R c x↔KerV (de R c) c x:=by
 obtain⟨a1,a2,-⟩:=fR h.asc h.rng;exact⟨λk=>⟨k.asc,k.rng,λr hr=>Hj h.asc k.dot ((a2 r).1 (cR hr))⟩,λk=>⟨k.asc,k.rng,λr hr=>Hj a1.asc k.dot ((a2 r).2 (cR hr))⟩⟩
theorem sH{E:List (List Int)}{c:Nat}{x y:List Int}(hx:KerV E c x)(hy:KerV E c y):KerV E c (bV x y):=
 ⟨en hx.asc hy.asc,fun z hz=>by
  rcases(cW hx.asc hy.asc).1 hz with q|q
  ·exact hx.rng z q.1
  ·exact hy.rng z q.1,λr hr=>by
  rw[gd _ _ _ (aM _)];have:=hx.dot r hr;have:=hy.dot r hr;omega⟩
theorem wE{q:Nat}{g:Int->Nat}{z0:Int}:∀{E:List (List Int)}{a:List Int},(∀r∈E,g (ld r)=bit z0 r)->bJ g (E.foldl (λa r=>if (q:Int)∈r then bV a [ld r] else a) a)%2=(bJ g a+kY z0 (λr=>decide ((q:Int)∈r)) E)%2
 |[],a,_=>rfl
 |x::E,a,h=>by
  rw[List.foldl_cons,wE λr hr=>h r (dy _ hr)];have hx:=h x (cz ..);by_cases hq:(q:Int)∈x
  ·rw[if_pos hq];have h1:=gd (g:=g) _ a [ld x] (aM _);have h2:bJ g [ld x]=g (ld x):=rfl
   have h3:kY z0 (λr=>decide ((q:Int)∈r)) (x::E)=bit z0 x+kY z0 (λr=>decide ((q:Int)∈r)) E:=by
    show(if decide ((q:Int)∈x)=true then bit z0 x else 0)+_=_;rw[if_pos (a6 hq)]
   rw[h3];omega
  ·rw[if_neg hq]
   have h3:kY z0 (λr=>decide ((q:Int)∈r)) (x::E)=kY z0 (λr=>decide ((q:Int)∈r)) E:=by
    show(if decide ((q:Int)∈x)=true then bit z0 x else 0)+_=_;rw[if_neg (by simpa using hq),bP]
   rw[h3]
theorem zI{E:List (List Int)}{c q:Nat}(hE:Red E)(hv:∀r∈E,∀z∈r,0<=z/\z<(c:Int))(hq:(q:Int)∉E.map ld)(hc:q<c):KerV E c (qu E q):=by
 have hm:qu E q∈hZ E c:=by
  unfold hZ yE;exact List.mem_map_of_mem (eG.2 ⟨dE.2 hc,a6 hq⟩)
 obtain⟨k1,k2⟩:=yn hE hv _ hm;refine⟨k1,k2,λr hr=>?_⟩;unfold qu
 rw [wE (z0:=ld r) fun s hs=>by
  by_cases e:s=r
  ·subst e;rfl
  ·have n1:ld s∉r:=λq=>e (hE.own s hs r hr q).symm;have n2:ld r∉s:=λq=>e (hE.own r hr s hs q);simp[bit,n1,n2]]
 rw[hE.cnt hr];show(bit (q:Int) r+0+_)%2=0;by_cases h:(q:Int)∈r
 ·rw[cI.2 h,if_pos (a6 h)]
 ·rw[if_neg (by simpa using h)];simp[bit,h]
theorem uV{z:Int}:∀{x:List Int},bd x->bJ (λw=>if w=z then 1 else 0) x=bit z x
 |[],_=>rfl
 |a::x,h=>by
  have hx:=im.1 h;show(if a=z then 1 else 0)+bJ _ x=_;rw[uV hx.2];by_cases e:a=z
  ·subst e;rw[if_pos rfl,cI.2 (cz ..)];have:a∉x:=λq=>by have:=hx.1 a q;omega
   simp[bit,this]
  ·rw[if_neg e];simp[bit,Ne.symm e]
theorem Hr{E:List (List Int)}{c:Nat}{x:List Int}(hE:Red E)(hx:KerV E c x)(h:∀z∈x,z∈E.map ld):x=[]:=by
 refine nI λz=>?_;by_cases hz:z∈x
 ·exfalso;obtain⟨r,hr,rfl⟩:=bz.1 (h z hz);have h1:=hx.dot r hr
  rw [fP (h:=fun w=>if w=ld r then 1 else 0) fun w hw=>by
   by_cases e:w=ld r
   ·rw[if_pos e,e];exact cI.2 (dl (hE.ne r hr))
   ·rw[if_neg e]
    have:w∉r:=λq=>by
     obtain⟨s,hs,rfl⟩:=bz.1 (h w hw);rw[hE.own s hs r hr q] at e;exact e rfl
    simp[bit,this],uV hx.asc,cI.2 hz] at h1
  cases h1
 ·simp[bit,hz]
theorem CM{E:List (List Int)}{c q:Nat}(hq:(q:Int)∉E.map ld)(hc:q<c):qu E q∈hZ E c:=by
 unfold hZ yE;exact List.mem_map_of_mem (eG.2 ⟨dE.2 hc,a6 hq⟩)
theorem qW{E:List (List Int)}{c:Nat}(hE:Red E)(hv:∀r∈E,∀z∈r,0<=z/\z<(c:Int)):∀(l:List Nat){x:List Int},KerV E c x->(∀z∈x,z∉E.map ld->∃q∈l,(q:Int)=z)->Sp (hZ E c) x
 |[],x,hx,h=>by
  rw [Hr hE hx fun z hz=>Classical.byContradiction fun n=>by
   obtain⟨q,hq,-⟩:=h z hz n;cases hq]
  exact Sp.nil
 |q::l,x,hx,h=>by
  by_cases hq:(q:Int)∈x/\(q:Int)∉E.map ld
  ·have hc:q<c:=by have:=(hx.rng _ hq.1).2;omega
   have hk:=zI hE hv hq.2 hc;have hm:=CM hq.2 hc;obtain⟨f1,f2⟩:=jN hE hq.2
   have h1:=qW hE hv l (sH hx hk) λz hz hn=>by
    rcases(cW hx.asc hk.asc).1 hz with⟨a,b⟩|⟨a,b⟩
    ·obtain⟨p,hp,e⟩:=h z a hn;rcases dg.1 hp with rfl|hp
     ·exact absurd ((f2 z).2 (.inl e.symm)) b
     ·exact⟨p,hp,e⟩
    ·rcases(f2 z).1 a with rfl|⟨r,hr,_,rfl⟩
     ·exact absurd hq.1 b
     ·exact absurd (List.mem_map_of_mem hr) hn
   have h2:=Sp.add h1 hm
   rwa [<-eM hx.asc hk.asc hk.asc,fu hk.asc,gB] at h2
  ·refine qW hE hv l hx λz hz hn=>?_;obtain⟨p,hp,e⟩:=h z hz hn;rcases dg.1 hp with rfl|hp
   ·rw[<-e] at hz hn;exact absurd ⟨hz,hn⟩ hq
   ·exact⟨p,hp,e⟩
theorem CB{E:List (List Int)}{c:Nat}(hE:Red E)(hv:∀r∈E,∀z∈r,0<=z/\z<(c:Int)):VR c (hZ E c):=⟨λv h=>(yn hE hv v h).1,λv h=>(yn hE hv v h).2⟩
theorem HZ{E:List (List Int)}{c:Nat}(hE:Red E)(hv:∀r∈E,∀z∈r,0<=z/\z<(c:Int)){v:List Int}(h:v∈hZ E c):KerV E c v:=by
 unfold hZ yE at h;obtain⟨q,hq,rfl⟩:=bz.1 h;obtain⟨q1,q2⟩:=eG.1 hq;exact zI hE hv (oa q2) (dE.1 q1)
theorem Ir{E:List (List Int)}{c:Nat}:KerV E c []:=⟨pb,λ_ h=>(by cases h),λ_ _=>rfl⟩
theorem yq{c:Nat}{R:List (List Int)}{x:List Int}(h:VR c R):KerV R c x↔Sp (hZ (de R c) c) x:=by
 obtain⟨a1,a2,-⟩:=fR h.asc h.rng;have hv:∀r∈de R c,∀z∈r,0<=z/\z<(c:Int):=λr hr=>fE h.asc h.rng ((a2 r).1 (cR hr));rw[Jx h];constructor
 ·intro k;refine qW a1 hv (List.range c) k λz hz _=>?_;have:=k.rng z hz;exact⟨z.toNat,dE.2 (by omega),by omega⟩
 ·intro k
  induction k with
  |nil=>exact Ir
  |add _ hr ih=>exact sH ih (HZ a1 hv hr)
theorem AR{α:Type}{p:α->Bool}:∀{l:List α},(l.filter p).length+(l.filter λx=>!p x).length=l.length
 |[]=>rfl
 |x::l=>by
  have:=AR (p:=p) (l:=l);cases h:p x
  ·rw[vU (by simp[h]),vW (by simp[h]),br,br];omega
  ·rw[vW h,vU (by simp[h]),br,br];omega
theorem Cn{E:List (List Int)}{c:Nat}(hE:Red E)(hv:∀r∈E,∀z∈r,0<=z/\z<(c:Int)):(hZ E c).length+E.length=c:=by
 have h1:=AR (p:=λq:Nat=>decide ((q:Int)∉E.map ld)) (l:=List.range c);have h2:(hZ E c).length=((List.range c).filter λq:Nat=>decide (((q:Nat):Int)∉E.map ld)).length:=by unfold hZ yE;rw[bm]
 rw[List.length_range] at h1
 suffices h3:((List.range c).filter λq:Nat=>!decide ((q:Int)∉E.map ld)).length=E.length by omega
 have e1:(bu ((List.range c).filter λq:Nat=>!decide ((q:Int)∉E.map ld))).length=((List.range c).filter λq:Nat=>!decide ((q:Int)∉E.map ld)).length:=by unfold bu;rw[bm]
 have e2:(E.map ld).length=E.length:=bm _;have n1:bd (E.map ld):=List.pairwise_map.2 hE.ord;have n2:bd (bu ((List.range c).filter λq:Nat=>!decide ((q:Int)∉E.map ld))):=du (List.Pairwise.filter _ List.pairwise_lt_range);rw[<-e1,<-e2,mR n2 n1 λz=>?_];rw[fe];constructor
 ·rintro⟨i,hi,rfl⟩;have:=(eG.1 hi).2;simpa using this
 ·intro hz;obtain⟨r,hr,e⟩:=bz.1 hz;have:=hv r hr _ (dl (hE.ne r hr));refine⟨z.toNat,eG.2 ⟨dE.2 (by omega),?_⟩,by omega⟩;rw[show((z.toNat:Nat):Int)=z by omega];simpa using hz
theorem BZ{E:List (List Int)}{c:Nat}(hE:Red E)(hv:∀r∈E,∀z∈r,0<=z/\z<(c:Int)):∀k,k<=c->rk (hZ E k) c=(hZ E k).length
 |0,_=>FB
 |k+1,hk=>by
  have ih:=BZ hE hv k (by omega);have hV:=CB hE hv
  have hVk:VR c (hZ E k):=hV.sub λr hr=>by
   unfold hZ yE at hr |-;obtain⟨q,hq,rfl⟩:=bz.1 hr;obtain⟨q1,q2⟩:=eG.1 hq;exact List.mem_map_of_mem (eG.2 ⟨dE.2 (by have:=dE.1 q1;omega),q2⟩)
  rw[ww];by_cases hl:(k:Int)∈E.map ld
  ·rw[if_pos hl,fY];exact ih
  ·rw[if_neg hl];have hm:=CM hl (show k<c by omega);obtain⟨f1,f2⟩:=jN hE hl;rcases kj hVk (hV.asc _ hm) (hV.rng _ hm) with⟨q,_⟩|⟨_,q⟩
   ·refine absurd q (HG (z:=(k:Int)) hVk.asc ((f2 _).2 (.inl rfl)) λr hr hk2=>?_);unfold hZ yE at hr;obtain⟨p,hp,rfl⟩:=bz.1 hr;obtain⟨p1,p2⟩:=eG.1 hp;rcases((jN hE (oa p2)).2 _).1 hk2 with e|⟨s,hs,_,e⟩
    ·have:=dE.1 p1;omega
    ·exact hl (e▸List.mem_map_of_mem hs)
   ·rw[q,ih,cP];rfl
theorem FE{R:List (List Int)}(hR:∀r∈R,bd r):∀{i:Nat},i<=R.length->VR R.length (stE R i).2/\rk (stE R i).2 R.length=(stE R i).2.length
 |0,_=>⟨VR.nil,FB⟩
 |i+1,hi=>by
  obtain⟨ih,ih2⟩:=FE hR (i:=i) (by omega);have hs:=eI hR (i:=i) (by omega);have hs2:=eI hR (i:=i+1) hi;have hV:VR R.length (stE R (i+1)).2:=⟨λr hr=>(hs2.dep r hr).1.2,λr hr z hz=>by have:=(hs2.dep r hr).2.2 z hz;omega⟩
  refine⟨hV,?_⟩;have hx:cr (R.getD i default,[(i:Int)]):=⟨hR _ (aA (by omega)),List.pairwise_singleton ..⟩
  have hbi:bit (i:Int) (eh (stE R i).1 (R.getD i default,[(i:Int)])).2=1:=by
   unfold eh;rw[kX hs.red.asc hx,qA λl hl h=>by have:=(hs.ok l hl).2 _ h;omega];show(bit (i:Int) [(i:Int)]+0)%2=1;rw[cI.2 (cC.2 rfl)]
  have e3:(stE R (i+1)).2=if (eh (stE R i).1 (R.getD i default,[(i:Int)])).1=[] then(stE R i).2++[(eh (stE R i).1 (R.getD i default,[(i:Int)])).2] else(stE R i).2:=by
   simp only[stE];split<;>rfl
  rw[e3] at hV |-;generalize eh (stE R i).1 (R.getD i default,[(i:Int)])=y at *;by_cases h0:y.1=[]
  ·rw[if_pos h0] at hV |-;have hm:y.2∈(stE R i).2++[y.2]:=lJ _ (cC.2 rfl);rcases kj ih (hV.asc _ hm) (hV.rng _ hm) with⟨q,_⟩|⟨_,q⟩
   ·exact absurd q (HG (z:=(i:Int)) ih.asc (cI.1 hbi) λr hr hz=>by have:=(hs.dep r hr).2.2 _ hz;omega)
   ·rw[q,ih2,cP];rfl
  ·rw[if_neg h0];exact ih2
theorem Hx{R:List (List Int)}{c q:Nat}(h:q<c):(trL c R).getD q default=bu (trF R R.length q):=sD h
theorem Fi {R:List (List Int)} {c:Nat}:VR R.length (trL c R):=⟨fun r hr=>by
 unfold trL at hr;obtain⟨q,hq,rfl⟩:=bz.1 hr;exact du Cu,λr hr z hz=>by
 unfold trL at hr;obtain⟨q,hq,rfl⟩:=bz.1 hr;obtain⟨j,hj,rfl⟩:=fe.1 hz;unfold trF at hj;have:=dE.1 (eG.1 hj).1;omega⟩
theorem yi{R:List (List Int)}{q:Nat}{j:Int}(hj:0<=j/\j<(R.length:Int)):bit j (bu (trF R R.length q))=kL R q j:=by
 unfold kL bit
 have e:j∈bu (trF R R.length q)↔(q:Int)∈R.getD j.toNat default:=by
  rw[fe];constructor
  ·rintro⟨i,hi,rfl⟩;have:=(eG.1 hi).2;simpa using this
  ·intro h;exact⟨j.toNat,eG.2 ⟨dE.2 (by omega),a6 h⟩,by omega⟩
 by_cases h:(q:Int)∈R.getD j.toNat default
 ·rw[if_pos h,if_pos (e.2 h)]
 ·rw[if_neg h,if_neg λx=>h (e.1 x)]
theorem FJ{R:List (List Int)}{c:Nat}(h:VR c R){y:List Int}:KerV (trL c R) R.length y↔bd y/\(∀j∈y,0<=j/\j<(R.length:Int))/\∀z,bJ (kL R z) y%2=0:=by
 constructor
 ·intro k;refine⟨k.asc,k.rng,λz=>?_⟩;by_cases hz:0<=z/\z<(c:Int)
  ·obtain⟨q,rfl⟩:=Int.eq_ofNat_of_zero_le hz.1;have hq:q<c:=by omega
   have:=k.dot _ (show(trL c R).getD q default∈trL c R from aA (by unfold trL;simpa using hq));rw[Hx hq,fP λj hj=>yi (k.rng j hj)] at this;exact this
  ·rw[ig λj hj=>?_];unfold kL;have hj:=k.rng j hj;have:z∉R.getD j.toNat default:=λq=>hz (h.rng _ (aA (by omega)) z q);show(if z∈R.getD j.toNat default then 1 else 0)=0;rw[if_neg this]
 ·rintro⟨a,b,k⟩;refine⟨a,b,λr hr=>?_⟩;unfold trL at hr;obtain⟨q,hq,rfl⟩:=bz.1 hr;rw[fP λj hj=>yi (b j hj)];exact k q
theorem Dm{R:List (List Int)}{c:Nat}(h:VR c R){y:List Int}:Sp (stE R R.length).2 y↔KerV (trL c R) R.length y:=by
 have hs:=eI h.asc (aM R.length);have ha:∀r∈(stE R R.length).2,bd r:=λr hr=>(hs.dep r hr).1.2;rw[FJ h];constructor
 ·intro k
  exact ⟨jR ha k,fE ha (fun r hr=>(hs.dep r hr).2.2) k,fun z=>sN k fun d hd=>by
   have:=(hs.dep d hd).2.1 z;rw[fG] at this;exact this.symm⟩
 ·rintro⟨a,b,k⟩;exact tN h.asc (aM _) a b k
theorem LC{R:List (List Int)}{c:Nat}(h:VR c R):rk (trL c R) R.length=rk R c:=by
 obtain⟨d1,d2⟩:=FE h.asc (aM R.length);have ht:=Fi (R:=R) (c:=c);obtain⟨a1,a2,-⟩:=fR ht.asc ht.rng;have hv:∀r∈de (trL c R) R.length,∀z∈r,0<=z/\z<(R.length:Int):=λr hr=>fE ht.asc ht.rng ((a2 r).1 (cR hr));have hK:=CB a1 hv;have e1:=uW d1 hK λv=>(Dm h).trans (yq ht);have e2:=BZ a1 hv _ (aM R.length);have e3:=Cn a1 hv;have e4:=Hz h;have e5:rk (trL c R) R.length=(de (trL c R) R.length).length:=rfl;omega
theorem AE{L:List Ln}{w:List Int}{z:Int}:z∈kW L w↔ ∃l∈L,ja l.2 w=true/\ld l.1=z:=by
 unfold kW;simp only[bz,eG];exact⟨λ⟨l,⟨h1,h2⟩,h3⟩=>⟨l,h1,h2,h3⟩,λ⟨l,h1,h2,h3⟩=>⟨l,⟨h1,h2⟩,h3⟩⟩
theorem Aa{M:List Ln}{c:Nat}{w:List Int}(hM:RedU M):bd (kW (mC M c) w):=by
 unfold kW bd;rw[List.pairwise_map];exact(mL hM).sublist x7
theorem tv{M:List Ln}{c:Nat}{w:List Int}(hM:RedU M):∀z∈kW (mC M c) w,0<=z/\z<(c:Int):=λz hz=>by
 obtain⟨l,h1,_,rfl⟩:=AE.1 hz;exact((qq hM).1 h1).2
theorem xt{R:List (List Int)}{c:Nat}{w:List Int}(hR:∀r∈R,bd r)(hv:∀r∈R,∀z∈r,0<=z/\z<(c:Int))(hw:bd w)(h0:∀y∈(stE R R.length).2,jq w y=false){i:Nat}(hi:i<R.length):bJ (λz=>bit z (kW (ka R c) w)) (R.getD i default)%2=bit (i:Int) w:=by
 have hsy:=D4 hR hv h0;obtain⟨w1,w2,w3⟩:=oX (b:=w) hR hv;obtain⟨e1,e2,e3⟩:=fR w1 w2;rw[zS w1 w2] at hsy;have hs:=eI hR (aM R.length);have hM:=hs.red;have d3:=(fR hR hv).2.2;have hlv:∀l∈(stE R R.length).1,∀z∈l.1,0<=z/\z<(c:Int):=λl hl=>fE hR hv (iG (λr hr=>lm hr) (hs.inS l hl))
 have hxm:∀z,z∈kW (ka R c) w↔ ∃l∈(stE R R.length).1,ja l.2 w=true/\ld l.1=z:=λz=>by
  rw[AE];exact⟨λ⟨l,h1,h2⟩=>⟨l,(d3 l).1 h1,h2⟩,λ⟨l,h1,h2⟩=>⟨l,(d3 l).2 h1,h2⟩⟩
 have hxc:∀z∈kW (ka R c) w,z<(c:Int):=λz hz=>(tv hM z hz).2;generalize kW (ka R c) w=x at *
 have hgz:∀z:Int,z<(c:Int)->bit z (x++[(c:Int)])=bit z x:=λz hz=>by
  unfold bit;by_cases h:z∈x
  ·rw[if_pos h,if_pos (eJ.2 (.inl h))]
  ·rw [if_neg h,if_neg fun q=>by
     rcases eJ.1 q with q|q
     ·exact h q
     ·have:=cC.1 q;omega]
 have hgc:bit (c:Int) (x++[(c:Int)])=1:=cI.2 (eJ.2 (.inr (cC.2 rfl)));have hwi:(mj R c w).getD i default∈mj R c w:=aA (by unfold mj;simpa using hi);have hsp:=(e2 _).2 (cR hwi);rw[hsy,AK hi] at hsp
 have hz:=sN (g:=λz=>bit z (x++[(c:Int)])) hsp λd hd=>by
  obtain⟨l,hl,rfl⟩:=bz.1 hd;have hl:=(d3 l).1 hl;have hla:=hM.asc l hl;have hne:=hM.ne l hl;have hsame:∀l'∈(stE R R.length).1,ld l'.1∈l.1->l=l':=λl' hl' h=>hM.own l' hl' l hl h;have hlc:=hlv l hl
  have hld:bJ (λz=>bit z (x++[(c:Int)])) l.1=bit (ld l.1) x:=by
   have hldm:=dl hne;cases hq:l.1 with
   |nil=>exact absurd hq hne
   |cons z t=>
    rw[hq] at hldm hsame hlc hla;have hz:ld (z::t)=z:=rfl;rw[hz];show bit z (x++[(c:Int)])+bJ _ t=_;rw[hgz z (hlc z cz).2,ig (a:=t) λu hu=>?_]
    ·omega
    ·have huc:=hlc u (dy _ hu);rw[hgz u huc.2];unfold bit;rw[if_neg λhux=>?_];obtain⟨l',h1,_,h3⟩:=(hxm u).1 hux;have h4:=hsame l' h1 (by rw[h3];exact dy _ hu);have h5:=(im.1 hla.1).1 u hu;rw[<-h4,hq] at h3;have:ld (z::t)=z:=rfl;omega
  have hbx:bit (ld l.1) x=if jq w l.2=true then 1 else 0:=by
   rw[<-qM hla.2 hw];unfold bit;by_cases h:ja l.2 w=true
   ·rw[if_pos ((hxm _).2 ⟨l,hl,h,rfl⟩),if_pos h]
   ·rw[if_neg λq=>?_,if_neg h];obtain⟨l',h1,h2,h3⟩:=(hxm _).1 q;have:=hsame l' h1 (by rw[h3];exact dl hne);rw[this] at h;exact h h2
  unfold wdL;by_cases h:jq w l.2=true
  ·rw[if_pos h,nc,hld,hbx,if_pos h];show(1+(bit (c:Int) (x++[(c:Int)])+0))%2=0;rw[hgc]
  ·rw[if_neg h,hld,hbx,if_neg h]
 have hri:=hv _ (aA hi);have hcg:bJ (λz=>bit z (x++[(c:Int)])) (R.getD i default)=bJ (λz=>bit z x) (R.getD i default):=fP λz hz=>hgz z (hri z hz).2;unfold wdR at hz;by_cases h:(i:Int)∈w
 ·rw[if_pos h,nc,hcg] at hz;have hz:(bJ (λz=>bit z x) (R.getD i default)+(bit (c:Int) (x++[(c:Int)])+0))%2=0:=hz;rw[hgc] at hz;unfold bit at hz |-;rw[if_pos h];omega
 ·rw[if_neg h,hcg] at hz;unfold bit at hz |-;rw[if_neg h];exact hz
def tkT(M:List (List Int))(n:Nat)(K:List (List Int)):Nat->List (List Int)
 |0=>[]
 |k+1=>if rk (M++(tkT M n K k++[K.getD k default])) n=rk M n+((tkT M n K k).length+1) then tkT M n K k++[K.getD k default] else tkT M n K k
theorem vw{M:List (List Int)}{n:Nat}{K:List (List Int)}:∀{k:Nat},k<=K.length->∀v∈tkT M n K k,v∈K
 |0,_,v,h=>by cases h
 |k+1,hk,v,h=>by
  unfold tkT at h;split at h
  ·rcases eJ.1 h with h|h
   ·exact vw (by omega) v h
   ·rw[cC] at h;subst h;exact aA (by omega)
  ·exact vw (by omega) v h
theorem Gg{M:List (List Int)}{n:Nat}{K:List (List Int)}:∀{k:Nat},(tkT M n K k).length<=k
 |0=>aM _
 |k+1=>by
  have:=Gg (M:=M) (n:=n) (K:=K) (k:=k);unfold tkT;split
  ·rw[cP];simp only[br,dw];omega
  ·omega
theorem mc{M:List (List Int)}{n:Nat}{K:List (List Int)}:∀{k:Nat},rk (M++tkT M n K k) n=rk M n+(tkT M n K k).length
 |0=>by show rk (M++[]) n=rk M n+0;rw[fY];rfl
 |k+1=>by
  have:=mc (M:=M) (n:=n) (K:=K) (k:=k);unfold tkT;split
  ·rename_i h;rw[h,cP];rfl
  ·exact this
theorem zQ{M:List (List Int)}{n:Nat}{K:List (List Int)}(hK:VR n K){k:Nat}(hk:k<=K.length):VR n (tkT M n K k):=hK.sub (vw hk)
theorem JV{M:List (List Int)}{n:Nat}{K:List (List Int)}(hM:VR n M)(hK:VR n K):∀{k:Nat},k<=K.length->bsT (de M n) n K k=tkT M n K k
 |0,_=>rfl
 |k+1,hk=>by
  have ih:=JV hM hK (k:=k) (by omega);have hf:=mc (M:=M) (n:=n) (K:=K) (k:=k);have hV:=zQ (M:=M) hK (k:=k) (by omega);have hm:K.getD k default∈K:=aA (by omega);have h1:=xH hM hV;have hV2:=hV.app (VR.one (hK.asc _ hm) (hK.rng _ hm));have h2:=xH hM hV2;have h3:=kj (hM.app hV) (hK.asc _ hm) (hK.rng _ hm);rw[i9] at h3;unfold bsT tkT;rw[ih,i9];change (if rk (de M n++(tkT M n K k++[K.getD k default])) n=rk (de M n++tkT M n K k) n then _ else _)=_;rw[h1,h2];generalize rk (M++(tkT M n K k++[K.getD k default])) n=a at *;rcases h3 with⟨_,e⟩|⟨_,e⟩
  ·rw[if_pos e,if_neg (by omega)]
  ·rw[if_neg (by omega),if_pos (by omega)]
theorem Cw{M:List (List Int)}{n:Nat}{K:List (List Int)}(hM:VR n M)(hK:VR n K):∀{k:Nat},k<=K.length->∀j,j<k->Sp (M++tkT M n K k) (K.getD j default)
 |0,_,j,hj=>by omega
 |k+1,hk,j,hj=>by
  have hf:=mc (M:=M) (n:=n) (K:=K) (k:=k);have hV:=zQ (M:=M) hK (k:=k) (by omega);have hm:K.getD k default∈K:=aA (by omega);have h3:=kj (hM.app hV) (hK.asc _ hm) (hK.rng _ hm);rw[i9] at h3;have ih:=Cw hM hK (k:=k) (by omega) j;unfold tkT;by_cases hc:rk (M++(tkT M n K k++[K.getD k default])) n=rk M n+((tkT M n K k).length+1)
  ·rw[if_pos hc];rcases(by omega:j<k\/j=k) with h|rfl
   ·exact iG (λr hr=>by rw[<-i9];exact l6 _ hr) (ih h)
   ·exact cR (lJ _ (lJ _ (cC.2 rfl)))
  ·rw[if_neg hc];rcases(by omega:j<k\/j=k) with h|rfl
   ·exact ih h
   ·rcases h3 with⟨q,_⟩|⟨_,e⟩
    ·exact q
    ·omega
theorem Hw{M:List (List Int)}{n:Nat}{K:List (List Int)}(hM:VR n M)(hK:VR n K):∀{k:Nat},k<=K.length->∀v∈tkT M n K k,¬Sp M v
 |0,_,v,h=>by cases h
 |k+1,hk,v,h=>by
  have hf:=mc (M:=M) (n:=n) (K:=K) (k:=k);have hV:=zQ (M:=M) hK (k:=k) (by omega);have hm:K.getD k default∈K:=aA (by omega);have h3:=kj (hM.app hV) (hK.asc _ hm) (hK.rng _ hm);rw[i9] at h3;have ih:=Hw hM hK (k:=k) (by omega) v;unfold tkT at h;split at h
  ·rename_i hc;rcases eJ.1 h with h|h
   ·exact ih h
   ·rw[cC] at h;subst h;intro q;rcases h3 with⟨_,e⟩|⟨e,_⟩
    ·omega
    ·exact e (iG (λr hr=>l6 _ hr) q)
  ·exact ih h
theorem Iw{M:List (List Int)}{n:Nat}{K:List (List Int)}(hM:VR n M)(hK:VR n K)(hs:∀r∈M,Sp K r):rk M n+(tkT M n K K.length).length=rk K n:=by
 rw[<-mc];have hV:=zQ (M:=M) hK (aM K.length);refine uW (hM.app hV) hK λv=>⟨jm hK.asc λr hr=>?_,jm (hM.app hV).asc λr hr=>?_⟩
 ·rcases eJ.1 hr with h|h
  ·exact hs r h
  ·exact cR (vw (aM _) r h)
 ·obtain⟨j,hj,rfl⟩:=lN hr;exact Cw hM hK (aM _) j hj
def xV(E:List (List Int))(n:Nat):List (List Int)->List (List Int)->Bool
 |_,[]=>true
 |D,v::l=>if rk ((E++D)++[v]) n=rk (E++D) n then false else xV E n (D++[v]) l
theorem zi{M:List (List Int)}{n:Nat}(hM:VR n M):∀{l D:List (List Int)},VR n D->VR n l->rk (M++D) n=rk M n+D.length->xV (de M n) n D l=decide (rk (M++(D++l)) n=rk M n+(D++l).length)
 |[],D,_,_,h=>by
  rw[fY];exact(a6 h).symm
 |v::l,D,hD,hl,h=>by
  have h1:=hl.asc v (cz ..);have h2:=hl.rng v (cz ..);have hl2:VR n l:=hl.sub λr hr=>dy _ hr;have hD2:=hD.app (VR.one h1 h2);have h3:=kj (hM.app hD) h1 h2;have e1:=xH hM hD;have e2:=xH hM hD2;have h4:=Fx (hM.app hD2) hl2;rw[i9] at h3;unfold xV;rw[i9,e1,e2];have e3:D++v::l=(D++[v])++l:=by simp
  rw[e3];rcases h3 with⟨_,e⟩|⟨_,e⟩
  ·rw[if_pos e,ba];rw[<-i9,cP,cP];simp only[br,dw];omega
  ·rw[if_neg (by omega)];exact zi hM hD2 hl2 (by rw[e,h,cP];rfl)
theorem KI{R:List (List Int)}{c:Nat}(h:VR c R){w:List Int}(hw:bd w)(hr:∀z∈w,0<=z/\z<(R.length:Int))(h0:∀y∈(stE R R.length).2,jq w y=false):Sp (trL c R) w:=by
 have hs:=eI h.asc (aM R.length);have hT:=Fi (R:=R) (c:=c);have hTl:(trL c R).length=c:=by unfold trL;simp
 have hxa:bd (kW (ka R c) w):=Aa hs.red;have hxr:∀z∈kW (ka R c) w,0<=z/\z<(c:Int):=tv hs.red;have hso:=λi hi=>xt h.asc h.rng hw h0 (i:=i) hi;generalize kW (ka R c) w=x at *;obtain⟨v,v1,v2⟩:=sL hT.asc (aM (trL c R).length) (w:=x) (by rw[hTl];exact hxr);rw[List.take_length] at v1;have hva:=jR hT.asc v1;have hvr:=fE hT.asc hT.rng v1
 have:v=w:=iL hva hw λz=>by
  by_cases hz:0<=z/\z<(R.length:Int)
  ·obtain⟨i,rfl⟩:=Int.eq_ofNat_of_zero_le hz.1;have hi:i<R.length:=by omega
   have hra:bd (R.getD i default):=h.asc _ (aA hi);rw[v2,<-hso i hi];have e:=qQ (a:=R.getD i default) (b:=x) hra hxa
   have e1:bJ (kL (trL c R) (i:Int)) x=bJ (λj=>bit j (R.getD i default)) x:=fP λj hj=>by
    have hj2:=hxr j hj;obtain⟨q,rfl⟩:=Int.eq_ofNat_of_zero_le hj2.1;have hq:q<c:=by omega
    have e2:=yi (R:=R) (q:=q) (j:=(i:Int)) hz;unfold kL at e2 |-;rw[bN] at e2 |-;rw[Hx hq,e2]
   rw[e1];unfold jq at e;have e3:=decide_eq_decide.1 e;omega
  ·have n1:z∉v:=λq=>hz (hvr z q);have n2:z∉w:=λq=>hz (hr z q);simp[bit,n1,n2]
 rw[<-this];exact v1
theorem O0(m:Nat){dm:Nat}(hm:0<m):∀tb tf,bv .rem tb tf (.int .u8 (dm:Int)) (.int .u8 (m:Int))=some (.int .u8 ((dm%m:Nat):Int)):=λ_ _=>(yb (by omega) (by omega)).trans (by rw[Int.natCast_emod])
theorem Oa{q:Nat}(h:q<4):IntKind.wrap .i64 (q:Int)=q:=by
 rcases(by omega:q=0\/q=1\/q=2\/q=3) with rfl|rfl|rfl|rfl<;>decide
theorem yl{n:Nat}{x:List Int}(ha:bd x)(hr:∀z∈x,0<=z/\z<(n:Int)):ms n x=0:=by
 unfold ms;refine c9 λk hk=>?_;rw[tZ];have h1:=hr _ (aA hk);rw[if_neg (by omega),if_neg];rintro⟨h0,h2⟩;have h3:=kE.1 ha (k-1) k (by omega) hk (by omega);have e1:x.getD k default=x[k]:=by simp[List.getD,hk]
 have e2:x.getD (k-1) default=x[k-1]:=by simp[List.getD,show k-1<x.length by omega]
 omega
theorem xD:∀{a b:List Nat},bu a=bu b->a=b
 |[],[],_=>rfl
 |[],_::_,h=>by cases h
 |_::_,[],h=>by cases h
 |x::a,y::b,h=>by
  obtain⟨h1,h2⟩:=List.cons.inj h;have h1:(x:Int)=(y:Int):=h1;rw[xD h2,show x=y by omega]
theorem Ai{Y:List Spx}:∀{a b:List Spx},(∀s∈a,s∈Y)->(∀s∈b,s∈Y)->kO Y a=kO Y b->a=b
 |[],[],_,_,_=>rfl
 |[],_::_,_,_,h=>by cases h
 |_::_,[],_,_,h=>by cases h
 |s::a,t::b,h1,h2,h=>by
  obtain⟨e1,e2⟩:=List.cons.inj h;have i1:=oh.2 (h1 s cz);have i2:=oh.2 (h2 t cz);have g1:Y[Y.idxOf s]=s:=List.getElem_idxOf i1;have g2:Y[Y.idxOf t]=t:=List.getElem_idxOf i2
  have e3:s=t:=by
   rw[<-g1,<-g2]
   congr 1
  rw[e3,Ai (λu hu=>h1 u (dy _ hu)) (λu hu=>h2 u (dy _ hu)) e2]
def cyT(c:List Spx)(d:Nat):List (List Spx):=(bsT (bdE c d) (bdN c d) (bsK c d) (bsK c d).length).map (bb (aj c ((d:Int)+1)))
theorem Ab{H:Hp}{s:AV}{l:List (List Spx)}(h:Row H 1 s (l.map ao)):Snap H s (cJ l):=h.snapL' (λ_=>rfl) (λx _=>bD x)
theorem GJ{H:Hp}{b n j:Nat}{l:List Int}(hb:H b=some (l.map (AV.int .i64)))(hn:l.length=n)(hj:j<=n):Snap H (.msl b n 1 0 j) (aH (l.take j)):=by
 refine lg hb (by simp[hn]) (by omega) (by simp[hn,hj]) (λy hy=>by simp only[bz] at hy;obtain⟨n,_,rfl⟩:=hy;rfl) (λi a c ha hc=>?_);rw[bP] at ha;rw[mM,jt] at hc;rw[mM] at ha;split at hc
 ·rw[ha] at hc;cases hc;obtain⟨z,_,rfl⟩:=Option.map_eq_some_iff.1 ha;exact .int _ _
 ·cases hc
def Jo(l:List Int)(k:Int):Bool:=match l with
 |[]=>false
 |x::r=>!((((x-1)::r).take (min (k+1) ((r.length+1:Nat):Int)).toNat).any λn=>decide (n≠0))
theorem sM{c:List Spx}{m:Nat}:(btL c m).length=m:=by unfold btL;simp
theorem Kp{c:List Spx}{m:Nat}(hc:aB c=0)(hl:c.length<=50):∀x∈btL c m,-7000<=x/\x<=7000:=λx hx=>by
 unfold btL at hx;obtain⟨d,_,rfl⟩:=bz.1 hx;unfold btF;have h1:=cQ hc hl (d:=(d:Int)+1);have h2:=cQ hc hl (d:=((d+1:Nat):Int)+1);have h3:=uH (c:=c) (d:=d);have h4:=uH (c:=c) (d:=d+1);omega
theorem J7{α:Type}[BEq α][LawfulBEq α]{K:α->α->Int}(hK:LinK K){L:List α}(hL:bR K L){x y:α}(hx:x∈L)(hy:y∈L)(h:K x y<0):L.idxOf x<L.idxOf y:=by
 have i1:=oh.2 hx;have i2:=oh.2 hy;have g1:L[L.idxOf x]=x:=List.getElem_idxOf i1;have g2:L[L.idxOf y]=y:=List.getElem_idxOf i2;rcases so (L.idxOf x) (L.idxOf y) with q|q|q
 ·exact q
 ·have:x=y:=by
    rw[<-g1,<-g2];congr 1
  rw[this] at h;exact absurd h (hK.ord.irr y)
 ·have:=kE.1 hL _ _ i2 i1 q;rw[g1,g2] at this;exact absurd h (hK.ord.asym _ _ this)
theorem G6{L a:List Spx}(hL:bR bo L)(ha:bR bo a)(h:∀s∈a,s∈L):(kO L a).Pairwise (· < ·):=by
 unfold kO;rw[List.pairwise_map];exact ha.imp_of_mem λ{x y} hx hy hxy=>J7 ie hL (h x hx) (h y hy) hxy
theorem cw{c a:List Spx}{v:List Int}(h:dF c a=(v,0)):aB c=0/\dD a=0/\v=bu (kO (aj c (bG a)) a)/\(∀s∈a,s∈aj c (bG a))/\bd v/\∀z∈v,0<=z/\z<((aj c (bG a)).length:Int):=by
 unfold dF at h;split at h
 ·rename_i q;exact absurd (congrArg Prod.snd h) q
 rename_i q1;split at h
 ·rename_i q;exact absurd (congrArg Prod.snd h) q
 rename_i q2;have e1:aB c=0:=by simpa using q1
 have e2:dD a=0:=by simpa using q2
 split at h
 ·rename_i q;subst q;cases h;exact⟨e1,e2,rfl,λs hs=>(by cases hs),pb,λz hz=>(by cases hz)⟩
 split at h
 rotate_left
 ·cases h
 rename_i q3 q4;cases h;have hm:∀s∈a,s∈aj c (bG a):=λs hs=>oa (eN.1 q4 s hs);refine⟨e1,e2,rfl,hm,du (G6 jD (dL e2).2.2.1 hm),λz hz=>?_⟩;obtain⟨i,hi,rfl⟩:=fe.1 hz;unfold kO at hi;obtain⟨s,hs,rfl⟩:=bz.1 hi;have:=oh.2 (hm s hs);omega
section
attribute [local irreducible] aO am bf aZ aR aS aE aU a5 bk Go.Abs.Fn aY Go.Abs.Pure au aN Yl
theorem wh(c:List Spx)(d:Nat)(hso:oq (bdN c d+1))(hc:aB c=0)(hl:c.length<=50)(hd:d<=7)(hn:bdN c d<=1000):pU 18 [cl c,.int .i64 d] (.tup [cJ (cyT c d),.int .i64 0]):=by
 refine pO PR ?_;simp only[b18,aL];have hch:=l8 c hc hl;obtain⟨mK,lK⟩:=o6 (d:=d) hc hl
 have hchn:∀v∈bsK c d,pU 34 [cl c,.int .i64 d,aH v] (.tup [ao (bb (aj c ((d:Int)+1)) v),.int .i64 0]):=λv hv=>by
  have:=sI c d v hl (kP hc) (by have:=(mK.2.2.2 v hv).2.1;omega);have hz:ms (aj c ((d:Int)+1)).length v=0:=yl (gq mK v hv) (oO mK v hv)
  have e:sf c d v=(bb (aj c ((d:Int)+1)) v,0):=by
   unfold sf;rw[if_neg (λq=>q hc),if_neg (by omega),if_neg (λq=>q hz)]
  rw[e] at this;exact this
 unfold cyT;generalize aj c ((d:Int)+1)=X at *;have z0:decide ((0:Int)≠0)=false:=rfl;have z1:decide ((d:Int)<0)=false:=ba (by omega);have z2:decide ((8:Int)<=d)=false:=ba (by omega);refine wnY (zI5 @z0 @z1 @z2 @ak @ag) ?_;refine aQ ev0 ev0 (HU c d _ _) ?_;rintro _ H1 nx1 ⟨rfl,rfl,rfl⟩;refine wnY and_self ?_;refine nX 7 8 rfl rfl ev0 (λc0 cj hy=>?_);refine Abs.Fn.mono (HO (nx:=8) (cb:=5) (db:=6) c d hso hc hl hd hn _ (I:=λF D H' nx'=>8<=nx'/\H' 0=some [ao c]/\H' 1=some [.int .i64 d]/\H' 2=some [.esl]/\H' 3=some [.int .i64 0]/\H' 7=some [c0]/\(∀x∈F,8<=x/\x<nx')/\∃sv,H' 4=some [sv]/\Row H' 1 sv ((D.map (bb X)).map ao)/\∀b',bX sv=some b'->8<=b'/\b'<nx'/\b'∉F) ?_ ?_ (by omega) (by omega) ?_ ?_ ?_) ?_
 ·rfl
 ·rfl
 ·rintro F F' D H nx H' nx' ⟨h1,h2,h3,h4,h5,h6,h7,sv,h8,h9,h10⟩ hle hs hF;have lo:∀x,x<8->H' x=H x:=λx hx=>hs x (by omega) λe=>by have:=h7 x e;omega
  refine⟨by omega,(lo 0 (by omega)).trans h2,(lo 1 (by omega)).trans h3,(lo 2 (by omega)).trans h4,(lo 3 (by omega)).trans h5,(lo 7 (by omega)).trans h6,λx hx=>?_,sv,(lo 4 (by omega)).trans h8,h9.same λb hb=>?_,λb hb=>?_⟩
  ·rcases hF x hx with h|h
   ·have:=h7 x h;omega
   ·omega
  ·obtain⟨p1,p2,p3⟩:=h10 b hb;exact hs b p2 p3
  ·obtain⟨p1,p2,p3⟩:=h10 b hb;refine⟨p1,by omega,λe=>?_⟩;rcases hF b e with h|h
   ·exact p3 h
   ·omega
 ·rintro F D v H' nx' ⟨h1,h2,h3,h4,h5,h6,h7,sv,h8,h9,h10⟩ hv hDl;refine hy _ _ _ _ h6 rfl ?_;clear hy;refine wnZ and_self ?_;refine⟨h6,?_⟩;have hdo:∀x,x≠7->dK H' 7 x=H' x:=λx b=>dr b;have hcv:=hchn v hv;rw[ql] at hcv;have dcx:Dat (.agg [ao c]):=dt c;generalize hH1:dK H' 7=H1 at *;have g2:=(hdo 0 (by omega)).trans h2;have g3:=(hdo 1 (by omega)).trans h3;have g4:=(hdo 4 (by omega)).trans h8;generalize hpv:bb X v=pv at *;refine wnY (zI6 @g2 @g3 @g4 @z0 @ak @ag) ?_;refine mg rfl ev0 (h9.same λb' hb'=>?_) ev0 iJ rfl rfl lh (by rw[bm,bm];omega) (by rw[bm,bm];omega) ?_
  ·have:=h10 b' hb';rw[ae (by omega)];exact hdo _ (by omega)
  rintro sv' H3 nx3 r1 r2 r3 r4 r5;have zs:∀x,x<8->bX sv≠some x:=λx hx e=>by have:=h10 x e;omega
  have z:∀x,x<nx'->x≠7->bX sv≠some x->H3 x=H' x:=λx a1 a2 a3=>(r4 x (by omega) a3).trans (by rw[ae (by omega)];exact hdo x a2);have k4:H3 4=some [sv]:=(z 4 (by omega) (by omega) (zs _ (by omega))).trans h8;obtain⟨q1,q2⟩:=r1.one;refine wnY (zI3 @k4 @q1 @q2) ?_;have w:∀x,x≠4->x≠7->ar (ar H3 4 [sv']) 7 [c0] x=H3 x:=λx a1 a2=>by rw[ae a2,ae a1]
  have u8:∀b',bX sv'=some b'->8<=b'/\b'<nx3/\b'∉F:=λb' hb'=>by
   rcases r5 b' hb' with e|⟨e1,e2⟩
   ·obtain⟨p1,p2,p3⟩:=h10 b' e;exact⟨p1,by omega,p3⟩
   ·exact⟨by omega,by omega,λe=>by have:=h7 b' e;omega⟩
  refine⟨rfl,by omega,λx hx=>?_,by omega,(w 0 (by omega) (by omega)).trans ((z 0 (by omega) (by omega) (zs _ (by omega))).trans h2),(w 1 (by omega) (by omega)).trans ((z 1 (by omega) (by omega) (zs _ (by omega))).trans h3),(w 2 (by omega) (by omega)).trans ((z 2 (by omega) (by omega) (zs _ (by omega))).trans h4),(w 3 (by omega) (by omega)).trans ((z 3 (by omega) (by omega) (zs _ (by omega))).trans h5),af,λx hx=>?_,sv',?_,?_,u8⟩
  ·have:=h7 x hx;refine(w x (by omega) (by omega)).trans ?_;exact z x (by omega) (by omega) λe=>(h10 x e).2.2 hx
  ·have:=h7 x hx;omega
  ·exact(ae (by omega)).trans af
  ·rw[dq,dq,show [v].map (bb X)=[pv] by rw[<-hpv];rfl];exact r1.same λb' hb'=>w b' (by have:=u8 b' hb';omega) (by have:=u8 b' hb';omega)
 ·refine⟨aM _,rfl,rfl,rfl,rfl,af,λx hx=>(by cases hx),.esl,rfl,.nil,λb' hb'=>(by cases hb')⟩
 ·rintro r H' nx' ⟨F,h1,h2,h3,h4,h5,h6,h7,sv,h8,h9,h10⟩;refine .inl ⟨h6,?_⟩;obtain⟨q1,q2⟩:=h9.one;have lo:∀x,x≠7->dK H' 7 x=H' x:=λx b=>dr b;have k1:Row (dK H' 7) 1 sv (((bsT (bdE c d) (bdN c d) (bsK c d) (bsK c d).length).map (bb X)).map ao):=h9.same λb' hb'=>lo b' (by have:=h10 b' hb';omega);have k2:=(lo 2 (by omega)).trans h4;have k3:=(lo 3 (by omega)).trans h5;have k4:=(lo 4 (by omega)).trans h8;generalize dK H' 7=H1 at *;refine wnY (zI5 @k2 @k3 @k4 @q1 @q2) ?_;refine bA (ah (Ab (k1.same λb' hb'=>?_)) (ah (.int _ _) ap));have:=h10 b' hb';rw[ae (by omega),ae (by omega)]
theorem FH(c:List Spx)(m:Nat)(hc:aB c=0)(hl:c.length<=50)(hm:jL c=m)(hm8:m<=8)(G:Hp)(n0:Nat):Abs.Fn Tryz.prog 44 [cl c] G n0 λr H' nx'=>∃sv,r=.tup [sv,.int .i64 0]/\Row H' 1 sv ((btL c m).map (AV.int .i64))/\n0<=nx'/\(∀x,x<n0->H' x=G x)/\∀b,bX sv=some b->n0<=b/\b<nx':=by
 refine fO Mc ?_;simp only[b44,aL];have hdi:=pM c hc hl;rw[hm] at hdi;have z0:decide ((0:Int)≠0)=false:=rfl;have hed:=λd(h:d<=8)=>nM c d hc hl h;have hsz:=λd(h:d<=8)=>sK c d hc hl h;have hrl:=λd:Int=>cQ hc hl (d:=d);have hrk:=λd:Nat=>B5 (aj c ((d:Int)+1)).length (b7 (aj c ((d:Int)+1)) (aj c d)) (lW (by have:=hrl ((d:Int)+1);omega) (by have:=hrl d;omega));have hrf:=λd:Nat=>uH (c:=c) (d:=d);refine wnY (zI3 @z0 @ak @ag) ?_;refine ws ?_;refine wnY and_self ?_;refine lpI (X:=Nat) (λk=>[(1,.ptr n0 1 0),(4,.int .i64 ((m:Int)-1)),(7,.mp (n0+1)),(26,.int .i64 ((m:Int)-1+2)),(27,.int .i64 k)]) (λk H nx=>k<=m+1/\n0+2<=nx/\H n0=some [ao c]/\H (n0+1)=some [.omap ((rkK k).map (AV.int .i64)) (rkV c k)]/\∀x,x<n0->H x=G x) (λk=>m+1-k) 0 ⟨bQ _,aM _,(ae (by omega)).trans af,af,λx hx=>by rw[ae (by omega),ae (by omega)]⟩ ?_;rintro k H nx ⟨g1,g2,g3,g4,gl⟩;by_cases hk:k<m+1
 ·have hed1:=hed k (by omega);have hrk1:=hrk k;have hr1:=hrl ((k:Int)+1);have hd1:Dat (ez (aj c ((k:Int)+1)).length (b7 (aj c ((k:Int)+1)) (aj c k))):=dG _ _;change pU 97 _ (.tup [.int .i64 (rkF c k),.int .i64 0]) at hrk1;rw[dI] at hed1 hrk1 hd1;generalize b7 (aj c ((k:Int)+1)) (aj c k)=R at *;generalize (aj c ((k:Int)+1)).length=n at *;have z1:decide ((k:Int)<(m:Int)-1+2)=true:=a6 (by omega);refine wnY (zI5 @g3 @z0 @z1 @ak @ag) ?_;have hmf:=jc (k:Int) (rkK k);rw[if_neg (λq=>by have:=lP.1 q;omega)] at hmf;refine qz ev0 ((ae (by omega)).trans ((ae (by omega)).trans g4)) ev0 ev0 rfl hmf ?_;refine wnY @z0 ?_;refine⟨k+1,by omega,⟨by omega,by omega,by rw[ae (by omega),ae (by omega),ae (by omega)];exact g3,?_,λx hx=>by rw[ae (by omega),ae (by omega),ae (by omega)];exact gl x hx⟩,ag0⟩;rw[af,y5,AQ,dq];rfl
 obtain rfl:k=m+1:=by omega
 have z1:decide (((m+1:Nat):Int)<(m:Int)-1+2)=false:=ba (by omega);refine wnY @z1 ?_;refine lpI (X:=AV×Nat) (λx=>[(1,.ptr n0 1 0),(7,.mp (n0+1)),(11,x.1),(51,.int .i64 ((m:Int)-1+1)),(52,.int .i64 x.2)]) (λx H nx=>x.2<=m/\n0+2<=nx/\H n0=some [ao c]/\H (n0+1)=some [.omap ((rkK (m+1)).map (AV.int .i64)) (rkV c (m+1))]/\Row H 1 x.1 ((btL c x.2).map (AV.int .i64))/\(∀b,bX x.1=some b->n0+2<=b/\b<nx)/\∀x,x<n0->H x=G x) (λx=>m-x.2) (.esl,0) ⟨bQ _,g2,g3,g4,Row.nil,λb h=>(by cases h),gl⟩ ?_;clear g1 g2 g3 g4 gl;rintro⟨sv,k⟩ H nx ⟨g1,g2,g3,g4,g5,g6,gl⟩;dsimp only at g1 g2 g3 g4 g5 g6 gl |-;by_cases hk:k<m
 rotate_left
 ·obtain rfl:k=m:=by omega
  have z1:decide ((k:Int)<(k:Int)-1+1)=false:=ba (by omega);refine wnY @z1 ?_;exact⟨sv,rfl,g5,by omega,gl,λb hb=>by have:=g6 b hb;omega⟩
 have hsz1:=hsz k (by omega);have hr1:=hrl ((k:Int)+1);have hr2:=hrl (((k+1:Nat):Int)+1);have hf1:=hrf k;have hf2:=hrf (k+1);have hmf1:=jc (k:Int) (rkK (m+1));rw[if_pos (lP.2 (by omega)),sG (by omega)] at hmf1;have hmf2:=jc ((k+1:Nat):Int) (rkK (m+1));rw[if_pos (lP.2 (by omega)),sG (by omega)] at hmf2;rw[show((k+1:Nat):Int)=(k:Int)+1 by omega] at hmf2;have hv1:Go.Abs.mget (.int .i64 0) false (some k) (rkV c (m+1))=.int .i64 (rkF c k):=sx (by omega);have hv2:Go.Abs.mget (.int .i64 0) false (some (k+1)) (rkV c (m+1))=.int .i64 (rkF c (k+1)):=sx (by omega);have hsn:=A3 (c:=c) (n:=k);have hbl:(btL c k).length=k:=by unfold btL;simp
 have hbf:btF c k=((aj c ((k:Int)+1)).length:Int)-(rkF c k:Int)-(rkF c (k+1):Int):=rfl;rw[hbf] at hsn;generalize rkF c k=f1 at *;generalize rkF c (k+1)=f2 at *;generalize (aj c ((k:Int)+1)).length=n at *;generalize (aj c (((k+1:Nat):Int)+1)).length=n2 at *;have z1:decide ((k:Int)<(m:Int)-1+1)=true:=a6 (by omega);refine wnY (zI5 @g3 @z0 @z1 @ak @ag) ?_;refine jF ev0 g4 ev0 rfl hmf1 ?_;rw[hv1];refine wnY and_self ?_;refine jF ev0 g4 ev0 rfl hmf2 ?_;rw[hv2];refine wnY and_self ?_;refine eR (g5.same λb hb=>?_) ?_
 ·have:=g6 b hb;rw[ae (by omega)]
 rintro s2 H2 nx2 hr3 i1 i2 i3 i4;have hdo:∀b,b<n0+2->bX sv≠some b:=λb hb e=>by have:=g6 b e;omega
 have lo2:∀b,b<n0+2->H2 b=H b:=λb hb=>(i3 b (by omega) (hdo b hb)).trans (by rw[ae (by omega)]);refine wnY and_self ?_;refine⟨(s2,k+1),by dsimp only;omega,⟨by dsimp only;omega,by omega,(lo2 n0 (by omega)).trans g3,(lo2 (n0+1) (by omega)).trans g4,?_,λb hb=>?_,λx hx=>(lo2 x (by omega)).trans (gl x hx)⟩,ag0⟩
 ·dsimp only;rw[hsn,dq];exact hr3
 ·rcases i4 b hb with h|h
  ·have:=g6 b h;omega
  ·omega
theorem KZ(n:Int):pU 49 [.int .i64 n] (.bool (decide (n≠0))):=by
 refine pO PF ?_;simp only[b49,aL]
 repeat' (first|refine zW ?_|apply a_n|refine zO ?_|refine vZ ?_|refine b0 rfl ?_|refine r1Z ?_|fail)
 exact .bool _
theorem pS(c:List Spx)(m:Nat)(k:Int)(hc:aB c=0)(hl:c.length<=50)(hm:jL c=m)(hm8:m<=8)(hk:-1<=k/\k<8):pU 15 [cl c,.int .i64 k] (.tup [.bool (Jo (btL c m) k),.int .i64 0]):=by
 refine pO Ph ?_;simp only[b15,aL];have hch:=l8 c hc hl;have hbt:=λG n0=>FH c m hc hl hm hm8 G n0;have hlen:=sM (c:=c) (m:=m);have hbd:=Kp (m:=m) hc hl;have z0:decide ((0:Int)≠0)=false:=rfl;have z1:decide (k<(-1:Int))=false:=ba (by omega);have z2:decide ((8:Int)<=k)=false:=ba (by omega);generalize btL c m=l at *;have zz:=aI @z0 (aI @z1 (aI @z2 (aI @ak @ag)));repeat' (first|refine zW ?_|apply a_n|refine zO ?_|refine vY ?_|refine cY ?_ (hp:=hch) (hs:=by(first|refine aG ?_ rfl|apply a9);(repeat' (first|exact ap|apply bI|apply bc|exact dt _));first|done|fail)|refine bxY ?_|refine gTY ?_|refine cFY ?_|fail)
 rw[ql] at hbt;refine aQ ev0 ev0 (hbt _ _) ?_;rintro _ H1 nx1 ⟨sv,rfl,hrow,h1,h2,h3⟩;have hls:=hrow.lenS (n:=l.length) (by rw[bm,Nat.mul_one]) lh;cases l with
 |nil=>
  have zn:decide ((0:Int)=0)=true:=rfl;have hls0:cT sv=some (.int .i64 0):=hls;clear zz;have zz:=aI @z0 (aI @hls0 @zn);repeat' (first|refine zW ?_|apply a_n|apply a_r|refine zO ?_|refine vY ?_|refine gTY ?_|(refine zGY ?_ ?_<;>(intro _hg;try (exfalso;omega)))|refine b0 rfl ?_|refine r2Y ?_|fail)
  exact bA (ah (.bool _) (ah (.int _ _) ap))
 |cons x r=>
  have zn:decide ((((r.length+1:Nat):Nat):Int)=0)=false:=ba (by omega);obtain⟨B,rfl,hB⟩:=AW hrow (by simp);have hx:=hbd x (cz ..);have hB1:H1 B=some (.int .i64 x::r.map (AV.int .i64)):=hB;have hN:(x::r).length=r.length+1:=rfl;rw[hN] at hls h3 |-;clear zz;have zz:=aI @z0 (aI @hls @zn);repeat' (first|refine zW ?_|apply a_n|refine zO ?_|refine vY ?_|refine gTY ?_|refine cFY ?_|fail)
  have hlc:(AV.int .i64 x::r.map (AV.int .i64)).length=r.length+1:=by simp
  clear zz;have zz:=aI @hB1 (aI @hlc (aI @Int.toNat_zero @xT));repeat' (first|refine zW ?_|apply a_n|refine zO ?_|refine vY ?_|refine stY ?_|fail)
  have hcj:Jo (x::r) k=!((((x-1)::r).take (min (k+1) ((r.length+1:Nat):Int)).toNat).any λn=>decide (n≠0)):=rfl;obtain⟨j,hj,hjl⟩:∃j:Nat,min (k+1) ((r.length+1:Nat):Int)=j/\j<=r.length+1:=⟨(min (k+1) ((r.length+1:Nat):Int)).toNat,by omega,by omega⟩
  rw[hj,bN] at hcj;rw[hcj,hj]
  have hsl:lF 1 (.msl B (r.length+1) 1 0 (r.length+1)) none (some (.int .i64 j)) none=some (.msl B (r.length+1) 1 0 j):=by
   simp[lF,bS];omega
  clear zz;have zz:=@hsl;repeat' (first|apply a_n|refine zO ?_|refine vY ?_|fail)
  refine dh ev0 ev0 (qp (((x-1)::r).take j) (λn=>decide (n≠0)) 49 [] (λx h=>(by cases h)) (λx _=>KZ x) (show _<=_ by rw[gV];simp;omega)) (aG (ah (GJ (l:=(x-1)::r) (n:=r.length+1) af rfl hjl) (ah (wN ap) ap)) rfl) ?_
  repeat' (first|apply a_n|refine zO ?_|refine vY ?_|refine b0 rfl ?_|refine r2Y ?_|fail)
  exact bA (ah (.bool _) (ah (.int _ _) ap))
theorem FG(c:List Spx)(hc:aB c≠0)(hl:c.length<=50)(hs:∀s∈c,Shn s):pU 37 [cl c] (.tup [.int .i64 0,.int .i64 (aB c)]):=by
 refine pO Mw ?_;simp only[b37,aL];have hcc:=jS c (show _<=_ by omega) hs;generalize aB c=e at *;have z0:decide (e≠(0:Int))=true:=a6 hc;refine wnY (zI3 @z0 @ak @ag) ?_;exact bA (ah (.int _ _) (ah (.int _ _) ap))
theorem ud(c:List Spx)(hl:c.length<=50)(hs:∀s∈c,Shn s):pU 43 [cl c] (.int .i64 (aB c)):=by
 by_cases hc:aB c=0
 ·rw[hc];exact l8 c hc hl
 refine pO Kn ?_;simp only[b43,aL];have he:=FG c hc hl hs;refine wnY (aI @ak @ag) ?_;exact .int _ _
def gj(c a b:List Spx):List Int×List Int×Int:=if (dF c a).2≠0 then([],[],(dF c a).2) else((dF c a).1,(dF c b).1,(dF c b).2)
theorem CA(c a b:List Spx)(hl:c.length<=50)(hs:∀s∈c,Shn s)(ha:ShC a)(hb:ShC b):pU 67 [cl c,ao a,ao b] (.tup [aH (gj c a b).1,aH (gj c a b).2.1,.int .i64 (gj c a b).2.2]):=by
 refine pO PN ?_;simp only[b67,aL];have hch:=ud c hl hs;have h1:=Bu c a hl hs ha;have h2:=Bu c b hl hs hb;have hce:aB c≠0->dF c a=([],aB c):=λh=>by unfold dF;rw[if_pos h]
 unfold gj;generalize dF c a=va at *;generalize dF c b=vb at *;obtain⟨v,e⟩:=va;obtain⟨w,f⟩:=vb;dsimp only at *;by_cases hc:aB c=0
 ·have z0:decide (aB c≠(0:Int))=false:=ba (λq=>q hc);by_cases he:e=0
  ·subst he;have z1:decide ((0:Int)≠0)=false:=rfl;rw[if_neg (λq=>q rfl)];refine wnY (zI4 @z0 @z1 @ak @ag) ?_;exact bA (ah (dp v).snap (ah (dp w).snap (ah (.int _ _) ap)))
  ·have z1:decide (e≠(0:Int))=true:=a6 he;rw[if_pos he];refine wnY (zI4 @z0 @z1 @ak @ag) ?_;exact bA (ah (.eslsl 1) (ah (.eslsl 1) (ah (.int _ _) ap)))
 ·have z0:decide (aB c≠(0:Int))=true:=a6 hc;cases hce hc;rw[if_pos hc];refine wnY (zI3 @z0 @ak @ag) ?_;exact bA (ah (.eslsl 1) (ah (.eslsl 1) (ah (.int _ _) ap)))
def cyH(c a:List Spx):List Int×Int:=if (dF c a).2≠0 then([],(dF c a).2) else if bw a=[] then((dF c a).1,0) else([],3)
theorem zw(c a:List Spx)(hl:c.length<=50)(hs:∀s∈c,Shn s)(ha:ShC a):pU 57 [cl c,ao a] (.tup [aH (cyH c a).1,.int .i64 (cyH c a).2]):=by
 refine pO PE ?_;simp only[b57,aL];have h1:=Bu c a hl hs ha;have h2:=JC a ha;have hvf:=λv=>cw (c:=c) (a:=a) (v:=v);unfold cyH;unfold E8 at h2;generalize dF c a=va at *;obtain⟨v,e⟩:=va;dsimp only at *;by_cases he:e=0
 ·subst he;obtain⟨e1,e2,-⟩:=hvf v rfl;rw[if_neg (λq=>q e2)] at h2;dsimp only at h2;have z1:decide ((0:Int)≠0)=false:=rfl;have z2:decide ((0:Int)=0)=true:=rfl;rw[if_neg (λq=>q rfl)];by_cases hz:bw a=[]
  ·rw[a6 hz] at h2;rw[if_pos hz];refine wnY (zI4 @z1 @z2 @ak @ag) ?_;exact kG (dp _).snap rfl
  ·rw[ba hz] at h2;rw[if_neg hz];refine wnY (zI4 @z1 @z2 @ak @ag) ?_;exact kG (.eslsl 1) rfl
 ·have z1:decide (e≠(0:Int))=true:=a6 he;rw[if_pos he];refine wnY (zI3 @z1 @ak @ag) ?_;exact kG (.eslsl 1) rfl
end
def oz(c a b:List Spx):Int:=if (gj c a b).2.2≠0 then(gj c a b).2.2 else if a≠[]/\b≠[]/\bG b≠bG a+1 then 15 else if (ga b).2≠0 then(ga b).2 else if (ga b).1=a then 0 else 18
theorem md{c a b:List Spx}(h:(gj c a b).2.2=0):∃v w,dF c a=(v,0)/\dF c b=(w,0)/\gj c a b=(v,w,0):=by
 unfold gj at h |-;generalize dF c a=va at *;generalize dF c b=vb at *;obtain⟨v,e⟩:=va;obtain⟨w,f⟩:=vb;dsimp only at *;by_cases he:e=0
 ·subst he;rw[if_neg (λq=>q rfl)] at h |-;dsimp only at h;subst h;exact⟨v,w,rfl,rfl,rfl⟩
 ·rw[if_pos he] at h;exact absurd h he
theorem I4{b:List Spx}(h:dD b=0)(hl:¬4096<(bw b).length):ShC (bw b):=by
 refine⟨show _<=_ by omega,λs hs=>?_⟩;have:=(cE (nR (dL h).2.1 s hs)).2.1;show _<=_;omega
theorem wX{R:List (List Int)}{c:Nat}{w:List Int}(hm:hU c R)(hw:bd w):
    (∃x,rz R c w=(x,[],true)/\x=kW (ka R c) w/\bd x/\(∀z∈x,0<=z/\z<(c:Int))/\(∀y∈(stE R R.length).2,jq w y=false)/\∀i,i<R.length->bJ (λz=>bit z x) (R.getD i default)%2=bit (i:Int) w)\/
    ∃y,rz R c w=([],y,false)/\y∈(stE R R.length).2/\bd y/\(∀z∈y,0<=z/\z<(R.length:Int))/\jq w y=true:=by
 have hR:=gq hm;have hv:=oO hm;have hok:=eI hR (aM R.length);have hdep:∀y∈(stE R R.length).2,bd y/\∀z∈y,0<=z/\z<(R.length:Int):=λy hy=>⟨(hok.dep y hy).1.2,(hok.dep y hy).2.2⟩
 unfold rz;cases hs:Jn (stE R R.length).2 w with
 |none=>
  left
  have h0:∀y∈(stE R R.length).2,jq w y=false:=λy hy=>by
   have:=List.find?_eq_none.1 hs y hy;rw[qM (hdep y hy).1 hw] at this;simpa using this
  refine⟨_,rfl,rfl,Aa hok.red,tv hok.red,h0,λi hi=>xt hR hv hw h0 hi⟩
 |some y=>
  right;have hy:=List.mem_of_find?_eq_some hs;have ho:=List.find?_some (p:=λy=>ja y w) hs;rw[qM (hdep y hy).1 hw] at ho;exact⟨y,rfl,hy,(hdep y hy).1,(hdep y hy).2,ho⟩
def qP(c a:List Spx):List Spx×List Spx×Bool×Int:=if (cyH c a).2≠0 then([],[],false,(cyH c a).2) else if a=[] then([],[],true,0) else
 if (rz (b7 (aj c ((bG a:Int)+1)) (aj c (bG a))) (aj c ((bG a:Int)+1)).length (cyH c a).1).2.2=true then(bb (aj c ((bG a:Int)+1)) (rz (b7 (aj c ((bG a:Int)+1)) (aj c (bG a))) (aj c ((bG a:Int)+1)).length (cyH c a).1).1,[],true,0)
 else([],bb (aj c (bG a)) (rz (b7 (aj c ((bG a:Int)+1)) (aj c (bG a))) (aj c ((bG a:Int)+1)).length (cyH c a).1).2.1,false,0)
theorem v6{c a:List Spx}(h:(cyH c a).2=0):∃v,dF c a=(v,0)/\cyH c a=(v,0)/\bw a=[]:=by
 unfold cyH at h |-;generalize dF c a=va at *;obtain⟨v,e⟩:=va;dsimp only at *;by_cases he:e=0
 ·subst he;rw[if_neg (λq=>q rfl)] at h |-;by_cases hz:bw a=[]
  ·rw[if_pos hz];exact⟨v,rfl,rfl,hz⟩
  ·rw[if_neg hz] at h;cases h
 ·rw[if_pos he] at h;exact absurd h he
theorem Bt{c:List Spx}{d:Nat}{v:List Int}(hc:aB c=0)(hd:d<=7)(ha:bd v)(hv:∀z∈v,0<=z/\z<((aj c ((d:Int)+1)).length:Int)):sf c d v=(bb (aj c ((d:Int)+1)) v,0):=by
 have hz:ms (aj c ((d:Int)+1)).length v=0:=yl ha hv;unfold sf;rw[if_neg (λq=>q hc),if_neg (by omega),if_neg (λq=>q hz)]
theorem FZ{Y a:List Spx}:bu (kO Y a)=a.map λs=>((Y.idxOf s:Nat):Int):=by unfold bu kO;rw[List.map_map];rfl
theorem wO{R:List (List Int)}(hR:∀r∈R,bd r){z:Int}:∀{y acc:List Int},bd acc->(∀i∈y,0<=i/\i<(R.length:Int))->bit z (y.foldl (λa i=>bV a (R.getD i.toNat default)) acc)=(bit z acc+bJ (kL R z) y)%2
 |[],acc,_,_=>by
  have:=gD (z:=z) (a:=acc);show bit z acc=(bit z acc+0)%2;omega
 |i::y,acc,ha,hy=>by
  have hi:=hy i (cz ..);have hr:bd (R.getD i.toNat default):=hR _ (aA (by omega));rw[List.foldl_cons,wO hR (en ha hr) λj hj=>hy j (dy _ hj),dP ha hr];show _=(bit z acc+(kL R z i+bJ (kL R z) y))%2;have:kL R z i=bit z (R.getD i.toNat default):=rfl;omega
theorem zh{R:List (List Int)}(hR:∀r∈R,bd r){z:Int}{y:List Int}(hy:∀i∈y,0<=i/\i<(R.length:Int)):bit z (mr R y)=bJ (kL R z) y%2:=by
 unfold mr;rw[wO hR pb hy,fG,bP]
def iS(c:List Spx):Nat->Nat
 |0=>0
 |k+1=>iS c k+2^min (c.getD k default).length 10
theorem yd{c:List Spx}:∀k,iS c k<=1024*k
 |0=>bQ _
 |k+1=>by
  have ih:=yd (c:=c) k;have:2^min (c.getD k default).length 10<=2^10:=Nat.pow_le_pow_right (by omega) (by omega);unfold iS;omega
theorem uw:∀{l:Spx}{k:Nat},(cV l k).length<=2^l.length
 |l,0=>by rw[oZ];exact Nat.one_le_two_pow
 |[],k+1=>by rw[ut];simp
 |x::l,k+1=>by
  have h1:=uw (l:=l) (k:=k);have h2:=uw (l:=l) (k:=k+1);rw[iz,cP,bm,br,Nat.pow_succ];omega
theorem FI{c:List Spx}{n:Nat}(h8:∀s∈c,s.length<=8):∀k,k<=c.length->((c.take k).flatMap λs=>cV s n).length<=iS c k
 |0,_=>by simp
 |k+1,hk=>by
  have ih:=FI (n:=n) h8 k (by omega);have h1:=h8 _ (aA (l:=c) (i:=k) (by omega));have h2:=uw (l:=c.getD k default) (k:=n);rw[ci (show k<c.length by omega),List.flatMap_append,cP];unfold iS;rw[Nat.min_eq_left (by omega)];simp only[vC,List.flatMap_nil,fY];omega
theorem vo{c:List Spx}(hc:aB c=0){d:Int}:(aj c d).length<=iS c c.length:=by
 unfold aj;split
 ·simp
 ·unfold jb;have h:=FI (c:=c) (n:=d.toNat) (λs hs=>(cE ((d6 hc).2.1 s hs)).2.1) c.length (aM _);rw[List.take_length] at h;exact fK Ag h
section
attribute [local irreducible] aO am bf aZ aR aS aE aU a5 bk Go.Abs.Fn aY Go.Abs.Pure au aN Yl
theorem wQ(c a b:List Spx)(hl:c.length<=50)(hs:∀s∈c,Shn s)(ha:ShC a)(hb:ShC b):pU 25 [cl c,ao a,ao b] (.int .i64 (oz c a b)):=by
 refine pO Ps ?_;simp only[b25,aL];have hp:=CA c a b hl hs ha hb;have hbo:=C5 b hb;have hpf:=md (c:=c) (a:=a) (b:=b);have hal:=ha.1;have hbl:=hb.1;unfold oz;generalize gj c a b=p at *;obtain⟨v,w,e⟩:=p;dsimp only at *;by_cases he:e=0
 rotate_left
 ·have z0:decide (e≠(0:Int))=true:=a6 he;rw[if_pos he];refine wnY (zI3 @z0 @ak @ag) ?_;exact .int _ _
 subst he;obtain⟨v',w',hv,hw,hvw⟩:=hpf rfl;cases hvw;obtain⟨-,hcb,-⟩:=cw hw
 have hbt:ga b=if 4096<(bw b).length then([],5) else(bw b,0):=by
  unfold ga;rw[if_neg (λq=>q hcb)]
 have z0:decide ((0:Int)≠0)=false:=rfl;rw[if_neg (λq=>q rfl)];refine dJ ?_;have zz:=aI @z0 (aI @ak @ag);repeat' (first|apply a_n|refine zO ?_|refine vY ?_|refine bxY ?_|fail)
 refine dJ ?_;refine dJ ?_;clear zz;have zz:=aI @z0 (aI @ak @ag);repeat' (first|apply a_n|refine zO ?_|refine vY ?_|refine cY ?_ (hp:=hp) (hs:=by(first|refine aG ?_ rfl|apply a9);(repeat' (first|exact ap|apply bI|apply bc|exact dt _|exact bD _));first|done|fail)|fail)
 refine dJ ?_;clear zz;have zz:=aI @z0 (aI @ak @ag);repeat' (first|apply a_n|refine zO ?_|refine vY ?_|refine cFY ?_|fail)
 refine bn (λT H nx=>¬(a≠[]/\b≠[]/\bG b≠bG a+1)/\T 1=ao a/\T 2=ao b) ?_ ?_
 ·by_cases h1:a=[]
  ·have z1:decide ((0:Int)<a.length)=false:=by rw[h1];rfl
   refine wnY (aI @z1 @ai) ?_;exact⟨λq=>q.1 h1,rfl,rfl⟩
  have z1:decide ((0:Int)<a.length)=true:=a6 (by have:=gY.2 h1;omega);by_cases h2:b=[]
  ·have z2:decide ((0:Int)<b.length)=false:=by rw[h2];rfl
   refine wnY (zI3 @z1 @z2 @ai) ?_;exact⟨λq=>q.2.1 h2,rfl,rfl⟩
  have z2:decide ((0:Int)<b.length)=true:=a6 (by have:=gY.2 h2;omega);have ix:=xo h1;have iy:=xo h2;have hsa:=ha.2 _ (aA (gY.2 h1));have hsb:=hb.2 _ (aA (gY.2 h2));unfold bG;generalize a.getD 0 default=s at *;generalize b.getD 0 default=t at *;have hsa':s.length<=17592186044416:=hsa;by_cases h3:t.length=s.length+1
  ·have z3:decide ((t.length:Int)≠(s.length:Int)+1)=false:=ba (by omega);refine wnY (zI7 @z1 @z2 @z3 @ix @iy @ai @az) ?_;exact⟨λq=>q.2.2 h3,rfl,rfl⟩
  ·have z3:decide ((t.length:Int)≠(s.length:Int)+1)=true:=a6 (by omega);rw[if_pos ⟨h1,h2,h3⟩];refine wnY (zI7 @z1 @z2 @z3 @ix @iy @ai @az) ?_;exact .int _ _
 rintro T H nx ⟨h1,t1,t2⟩;rw[if_neg h1];clear zz;clear h1;by_cases h4:4096<(bw b).length
 ·rw[if_pos h4] at hbt;rw[hbt] at hbo |-;dsimp only at hbo |-;have z5:decide ((5:Int)≠0)=true:=rfl;rw[if_pos (by decide)];refine wnY (zI3 @t1 @t2 @z5) ?_;exact .int _ _
 rw[if_neg h4] at hbt;have heq:=Nv (bw b) a (I4 hcb h4) ha;rw[hbt] at hbo |-;dsimp only at hbo |-;rw[if_neg (λq=>q rfl)];generalize bw b=g at *;by_cases h5:g=a
 ·rw[a6 h5] at heq;rw[if_pos h5];refine wnY (zI3 @t1 @t2 @z0) ?_;exact .int _ _
 ·rw[ba h5] at heq;rw[if_neg h5];refine wnY (zI3 @t1 @t2 @z0) ?_;exact .int _ _
def rfT(c a y:List Spx):Int:=if (gj c a y).2.2≠0 then(gj c a y).2.2 else if a=[]\/y=[] then 18 else if bG a≠bG y then 15 else G7 (b7 (aj c ((bG a:Int)+1)) (aj c (bG a))) (gj c a y).1 (gj c a y).2.1
theorem lZ(c a y:List Spx)(hl:c.length<=50)(hs:∀s∈c,Shn s)(ha:ShC a)(hy:ShC y):pU 27 [cl c,ao a,ao y] (.int .i64 (rfT c a y)):=by
 refine pO OZ ?_;simp only[b27,aL];have hp:=CA c a y hl hs ha hy;have hpf:=md (c:=c) (a:=a) (b:=y);have hal:=ha.1;have hyl:=hy.1;unfold rfT;generalize gj c a y=p at *;obtain⟨v,w,e⟩:=p;dsimp only at *;by_cases he:e=0
 rotate_left
 ·have z0:decide (e≠(0:Int))=true:=a6 he;rw[if_pos he];refine wnY (zI3 @z0 @ak @ag) ?_;exact .int _ _
 subst he;obtain⟨v',w',hv,hw,hvw⟩:=hpf rfl;cases hvw;obtain⟨hc,hca,-,-,va,vr⟩:=cw hv;obtain⟨-,hcy,-,-,wa,wr⟩:=cw hw;have z0:decide ((0:Int)≠0)=false:=rfl;rw[if_neg (λq=>q rfl)];by_cases h1:a=[]
 ·have z1:decide ((a.length:Int)=0)=true:=by rw[h1];rfl
  rw[if_pos (.inl h1)];refine wnY (zI5 @z0 @z1 @ak @ag @ai) ?_;exact .int _ _
 have z1:decide ((a.length:Int)=0)=false:=ba (by have:=gY.2 h1;omega);by_cases h2:y=[]
 ·have z2:decide ((y.length:Int)=0)=true:=by rw[h2];rfl
  rw[if_pos (.inr h2)];refine wnY (zI6 @z0 @z1 @z2 @ak @ag @ai) ?_;exact .int _ _
 have z2:decide ((y.length:Int)=0)=false:=ba (by have:=gY.2 h2;omega);rw[if_neg (λq=>q.elim h1 h2)];have ix:=xo h1;have iy:=xo h2;have hsa:=ha.2 _ (aA (gY.2 h1));have hsb:=hy.2 _ (aA (gY.2 h2));have h8:=(cE ((dL hca).2.1 _ (aA (gY.2 h1)))).2.1;unfold bG at *;generalize a.getD 0 default=s at *;generalize y.getD 0 default=t at *;have hsa':s.length<=17592186044416:=hsa;by_cases h3:s.length=t.length
 rotate_left
 ·have z3:decide ((s.length:Int)≠(t.length:Int))=true:=a6 (by omega);rw[if_pos h3];refine wnY (dH @z0 @z1 @z2 @z3 @ix @iy @ak @ag @ai @az) ?_;exact .int _ _
 have z3:decide ((s.length:Int)≠(t.length:Int))=false:=ba (by omega);rw[if_neg (λq=>q h3)];rw[<-h3] at wr;have hed:=nM c s.length hc hl h8;have hr1:=cQ hc hl (d:=(s.length:Int)+1);have hr2:=cQ hc hl (d:=(s.length:Int));have hver:=FC (aj c ((s.length:Int)+1)).length (b7 (aj c ((s.length:Int)+1)) (aj c (s.length:Int))) v w (lW (by omega) (by omega)) (by rw[eV];exact vr) va (by rw[eV];exact wr) wa;have hd1:Dat (ez (aj c ((s.length:Int)+1)).length (b7 (aj c ((s.length:Int)+1)) (aj c (s.length:Int)))):=dG _ _;rw[dI] at hed hver hd1;generalize b7 (aj c ((s.length:Int)+1)) (aj c (s.length:Int))=R at *;generalize (aj c ((s.length:Int)+1)).length=n at *;refine wnY (dH @z0 @z1 @z2 @z3 @ix @iy @ak @ag @ai @az) ?_;exact .int _ _
theorem uO(c a:List Spx)(hl:c.length<=50)(hs:∀s∈c,Shn s)(ha:ShC a):pU 21 [cl c,ao a] (.tup [ao (qP c a).1,ao (qP c a).2.1,.bool (qP c a).2.2.1,.int .i64 (qP c a).2.2.2]):=by
 refine pO OX ?_;simp only[b21,aL];have hch:=ud c hl hs;have hcy:=zw c a hl hs ha;have hcf:=v6 (c:=c) (a:=a);have hal:=ha.1
 have hce:aB c≠0->cyH c a=([],aB c):=λh=>by
  unfold cyH dF;rw[if_pos h,if_pos h]
 unfold qP;generalize cyH c a=p at *;obtain⟨v,e⟩:=p;dsimp only at *;have z0:decide ((0:Int)≠0)=false:=rfl;have fin0:∀{H:Hp}{f:Int},Snap H (.tup [.esl,.esl,.bool false,.int .i64 f]) (.tup [ao [],ao [],.bool false,.int .i64 f]):=bA (ah (.eslsl 1) (ah (.eslsl 1) (ah (.bool _) (ah (.int _ _) ap))));by_cases hc:aB c=0
 rotate_left
 ·cases hce hc;have z1:decide (aB c≠(0:Int))=true:=a6 hc;rw[if_pos hc];refine wnY (zI3 @z1 @ak @ag) ?_;exact r_4 rfl rfl rfl rfl fin0
 rw[hc] at hch;by_cases he:e=0
 rotate_left
 ·have z1:decide (e≠(0:Int))=true:=a6 he;rw[if_pos he];refine wnY (zI4 @z0 @z1 @ak @ag) ?_;exact r_4 rfl rfl rfl rfl fin0
 subst he;obtain⟨v',hv,hvw,hez⟩:=hcf rfl;cases hvw;rw[if_neg (λq=>q rfl)];by_cases h1:a=[]
 ·have z1:decide ((a.length:Int)=0)=true:=by rw[h1];rfl
  rw[if_pos h1];refine wnY (zI5 @z0 @z1 @ak @ag @ai) ?_;refine r_4 rfl rfl rfl rfl ?_;exact bA (ah (.eslsl 1) (ah (.eslsl 1) (ah (.bool _) (ah (.int _ _) ap))))
 have z1:decide ((a.length:Int)=0)=false:=ba (by have:=gY.2 h1;omega);rw[if_neg h1];obtain⟨-,hca,hvp,-,va,vr⟩:=cw hv;have ix:=xo h1;have hsa:=(cE ((dL hca).2.1 _ (aA (gY.2 h1))))
 have hv0:v≠[]:=λe=>by
  rw[hvp] at e;cases a with
  |nil=>exact h1 rfl
  |cons x a=>cases e
 clear hvp;unfold bG at *;generalize a.getD 0 default=s at *;obtain⟨d,hd⟩:∃d,s.length=d+1:=⟨s.length-1,by omega⟩
 have hed:=nM c s.length hc hl hsa.2.1;have hr1:=cQ hc hl (d:=(s.length:Int)+1);have hr2:=cQ hc hl (d:=(s.length:Int));have hmv:=lW (X:=aj c ((s.length:Int)+1)) (Y:=aj c (s.length:Int)) (by omega) (by omega);have hso:=Ix (aj c ((s.length:Int)+1)).length (b7 (aj c ((s.length:Int)+1)) (aj c (s.length:Int))) v hmv (by rw[eV];exact vr) va;have hd1:Dat (ez (aj c ((s.length:Int)+1)).length (b7 (aj c ((s.length:Int)+1)) (aj c (s.length:Int)))):=dG _ _;have hsl:(s.length:Int)-1+1=s.length:=by omega
 have hsl2:(s.length:Int)-1=(d:Int):=by omega
 rw[dI] at hed hso hd1;rcases wX (w:=v) hmv va with⟨x,q1,-,q2,q3,-,q4⟩|⟨y,q1,q2,q3,q4,-⟩
 ·have h7:s.length<=7:=by
    refine Decidable.byContradiction λhn=>?_;rw[yT hc (by omega),As] at q4;obtain⟨z,hz⟩:=List.exists_mem_of_ne_nil _ hv0;have hzr:=vr z hz;have:=q4 z.toNat (by rw[List.length_replicate];omega);rw[show((z.toNat:Nat):Int)=z by omega,cI.2 hz] at this;rw[show(List.replicate (aj c (s.length:Int)).length ([]:List Int)).getD z.toNat default=[] by rw[Lf,List.getElem?_replicate];split<;>rfl] at this;cases this
  have hcn:=sI c s.length x hl (kP hc) (by have:=eT q2 q3;omega);rw[Bt hc h7 q2 q3] at hcn;rw[q1] at hso |-;dsimp only at hso hcn |-;rw[if_pos rfl];generalize bb (aj c ((s.length:Int)+1)) x=b at *;generalize b7 (aj c ((s.length:Int)+1)) (aj c (s.length:Int))=R at *;generalize (aj c ((s.length:Int)+1)).length=n at *;refine wnY (zI8 @z0 @z1 @ix @hsl @ak @ag @ai @az) ?_;refine r_4 rfl rfl rfl rfl ?_;exact bA (ah (bD b).snap (ah (.eslsl 1) (ah (.bool _) (ah (.int _ _) ap))))
 ·rw[eV] at q4;have hss:(s.length:Int)=(d:Int)+1:=by omega
  have hcn:=sI c d y hl (kP hc) (by have:=eT q3 q4;omega);rw[Bt hc (by omega) q3 (by rw[<-hss];exact q4),<-hss] at hcn;rw[q1] at hso |-;dsimp only at hso hcn |-;rw[if_neg (by decide)];generalize bb (aj c (s.length:Int)) y=b at *;generalize b7 (aj c ((s.length:Int)+1)) (aj c (s.length:Int))=R at *;generalize (aj c ((s.length:Int)+1)).length=n at *;have hss2:(d:Int)+1=s.length:=hss.symm;refine wnY (zI9 @z0 @z1 @ix @hsl2 @hss2 @ak @ag @ai @az) ?_;refine r_4 rfl rfl rfl rfl ?_;exact bA (ah (.eslsl 1) (ah (bD b).snap (ah (.bool _) (ah (.int _ _) ap))))
end
theorem uT{X b:List Spx}(h:∀s∈b,s∈X):bb X (bu (kO X b))=b:=by
 rw[FZ];unfold bb;rw[List.map_map];refine(o0 λs hs=>?_).trans (List.map_id b);show X.getD ((X.idxOf s:Nat):Int).toNat default=s;rw[bN];exact(jE (h s hs)).2
theorem gG{c:List Spx}{k:Nat}{x:List Int}(hc:aB c=0)(hl:c.length<=50)(hf:iS c c.length<=400)(hk:k<8)(ha:bd x)(hr:∀z∈x,0<=z/\z<((aj c ((k:Int)+1)).length:Int)):
    dF c (bb (aj c ((k:Int)+1)) x)=(x,0)/\ShC (bb (aj c ((k:Int)+1)) x)/\(∀s∈bb (aj c ((k:Int)+1)) x,s.length=k+1)/\ga (bb (aj c ((k:Int)+1)) x)=(bw (bb (aj c ((k:Int)+1)) x),0)/\ShC (bw (bb (aj c ((k:Int)+1)) x))/\dF c (bw (bb (aj c ((k:Int)+1)) x))=(bu (ee (b7 (aj c ((k:Int)+1)) (aj c k)) x),0)/\(∀s∈bw (bb (aj c ((k:Int)+1)) x),s.length=k/\s∈aj c k)/\bu (ee (b7 (aj c ((k:Int)+1)) (aj c k)) x)=bu (kO (aj c k) (bw (bb (aj c ((k:Int)+1)) x))):=by
 have hfr:=vo hc (d:=(k:Int)+1);have hxl:=eT ha hr;obtain⟨a,b,k1,k2,k3,k4,k5,k6,k7,k8,j1,j2,j3,j4,j5,j6⟩:=vQ (c:=c) (k:=k) (v:=x) hc hl hk (by omega) (yl ha hr);rw[Bt hc (by omega) ha hr] at k1;cases k1;subst j1;exact⟨k2,k5,j3,k3,k6,k8,λs hs=>⟨j4 s hs,j5 s hs⟩,j6⟩
theorem zb{c b:List Spx}{w:List Int}(h:dF c b=(w,0)):b=bb (aj c (bG b)) w:=by
 obtain⟨-,-,e,hm,-⟩:=cw h;rw[e,uT hm]
theorem Da{c a b:List Spx}{v w:List Int}(h1:dF c a=(v,0))(h2:dF c b=(w,0)):gj c a b=(v,w,0):=by
 unfold gj;rw[h1,h2];rfl
theorem Ff{c a b:List Spx}(h:oz c a b=0):∃v w,dF c a=(v,0)/\dF c b=(w,0)/\(a≠[]->b≠[]->bG b=bG a+1)/\bw b=a:=by
 unfold oz at h;by_cases he:(gj c a b).2.2=0
 rotate_left
 ·rw[if_pos he] at h;exact absurd h he
 rw[if_neg (show ¬((gj c a b).2.2≠0) from λq=>q he)] at h;obtain⟨v,w,hv,hw,-⟩:=md he;obtain⟨-,hcb,-⟩:=cw hw;by_cases h1:a≠[]/\b≠[]/\bG b≠bG a+1
 ·rw[if_pos h1] at h;exact absurd h (by decide)
 rw[if_neg h1] at h
 have hb:ga b=if 4096<(bw b).length then([],5) else(bw b,0):=by
  unfold ga;rw[if_neg (λq=>q hcb)]
 rw[hb] at h;by_cases h4:4096<(bw b).length
 ·rw[if_pos h4] at h;exact absurd (show(5:Int)=0 from h) (by decide)
 rw[if_neg h4] at h;refine⟨v,w,hv,hw,λq1 q2=>Classical.byContradiction λq=>h1 ⟨q1,q2,q⟩,?_⟩;have h:(if bw b=a then(0:Int) else 18)=0:=h;by_cases q:bw b=a
 ·exact q
 ·rw[if_neg q] at h;exact absurd h (by decide)
theorem CS{c a b:List Spx}{v w:List Int}(h1:dF c a=(v,0))(h2:dF c b=(w,0))(h3:a≠[]->b≠[]->bG b=bG a+1)(h4:ga b=(a,0)):oz c a b=0:=by
 unfold oz;rw[Da h1 h2,if_neg (show ¬((v,w,(0:Int)).2.2≠0) from λq=>q rfl),if_neg (λq=>q.2.2 (h3 q.1 q.2.1)),h4,if_neg (λq=>q rfl),if_pos rfl]
theorem LY{c a y:List Spx}(h:rfT c a y=0):∃v w,dF c a=(v,0)/\dF c y=(w,0)/\a≠[]/\y≠[]/\bG a=bG y/\mr (b7 (aj c ((bG a:Int)+1)) (aj c (bG a))) w=[]/\ja w v=true:=by
 unfold rfT at h;by_cases he:(gj c a y).2.2=0
 rotate_left
 ·rw[if_pos he] at h;exact absurd h he
 rw[if_neg (show ¬((gj c a y).2.2≠0) from λq=>q he)] at h;obtain⟨v,w,hv,hw,e⟩:=md he;rw[e] at h;by_cases h1:a=[]\/y=[]
 ·rw[if_pos h1] at h;exact absurd h (by decide)
 rw[if_neg h1] at h;by_cases h2:bG a=bG y
 rotate_left
 ·rw[if_pos h2] at h;exact absurd h (by decide)
 rw[if_neg (λq=>q h2)] at h;unfold G7 at h;dsimp only at h;split at h
 ·rename_i q1;split at h
  ·rename_i q2;exact⟨v,w,hv,hw,λq=>h1 (.inl q),λq=>h1 (.inr q),h2,q1,q2⟩
  ·exact absurd h (by decide)
 ·exact absurd h (by decide)
theorem Ae{R:List (List Int)}{c:Nat}{x w:List Int}(hR:VR c R)(hx:bd x)(hw:bd w)(hwr:∀z∈w,0<=z/\z<(R.length:Int))(h:∀i,i<R.length->bJ (λz=>bit z x) (R.getD i default)%2=bit (i:Int) w):bu (ee R x)=w:=by
 have ha:bd (bu (ee R x)):=du (List.pairwise_lt_range.sublist x7);refine iL ha hw λz=>?_;by_cases hz:0<=z/\z<(R.length:Int)
 ·obtain⟨i,rfl⟩:=Int.eq_ofNat_of_zero_le hz.1;have hi:i<R.length:=by omega
  have hra:=hR.asc _ (aA hi);rw[nK hR.asc hx hi,<-h i hi];have e:=qQ hra hx;unfold jq at e;have e:=decide_eq_decide.1 e;omega
 ·have n1:z∉bu (ee R x):=λq=>by
    obtain⟨i,hi,rfl⟩:=fe.1 q;have:=dE.1 (eG.1 hi).1;omega
  have n2:z∉w:=λq=>hz (hwr z q);simp[bit,n1,n2]
theorem EF{c a:List Spx}(hc:aB c=0)(hl:c.length<=50)(hf:iS c c.length<=400)(h:(cyH c a).2=0):
    (∃b,qP c a=(b,[],true,0)/\ShC b/\oz c a b=0/\∀y,rfT c a y≠0)\/ ∃y,qP c a=([],y,false,0)/\ShC y/\rfT c a y=0/\∀b,oz c a b≠0:=by
 obtain⟨v,hv,hcv,hez⟩:=v6 h;by_cases h0:a=[]
 ·subst h0;left;refine⟨[],?_,⟨bQ _,λs h=>(by cases h)⟩,CS hv hv (λq=>absurd rfl q) rfl,λy q=>?_⟩
  ·unfold qP;rw[if_neg (λq=>q h),if_pos rfl]
  ·obtain⟨_,_,_,_,q1,_⟩:=LY q;exact q1 rfl
 obtain⟨-,hca,hvp,hin,va,vr⟩:=cw hv;have hlen:=(dL hca).2.2.2
 have hv0:v≠[]:=λe=>by
  rw[hvp] at e;cases a with
  |nil=>exact h0 rfl
  |cons x a=>cases e
 have hb8:=cE ((dL hca).2.1 _ (aA (gY.2 h0)));obtain⟨k,hk⟩:∃k,bG a=k+1:=⟨bG a-1,by have:=hb8.1;unfold bG;omega⟩
 have hk8:k<8:=by have:=hb8.2.1;unfold bG at hk;omega
 have hX:=cQ hc hl (d:=((bG a:Nat):Int)+1);have hY:=cQ hc hl (d:=((bG a:Nat):Int));have hM:=lW (X:=aj c (((bG a:Nat):Int)+1)) (Y:=aj c ((bG a:Nat):Int)) (by omega) (by omega);have hV:VR _ _:=dY hM
 have hbt:qP c a=if (rz (b7 (aj c ((bG a:Int)+1)) (aj c (bG a))) (aj c ((bG a:Int)+1)).length v).2.2=true then(bb (aj c ((bG a:Int)+1)) (rz (b7 (aj c ((bG a:Int)+1)) (aj c (bG a))) (aj c ((bG a:Int)+1)).length v).1,[],true,0) else([],bb (aj c (bG a)) (rz (b7 (aj c ((bG a:Int)+1)) (aj c (bG a))) (aj c ((bG a:Int)+1)).length v).2.1,false,0):=by
  unfold qP;rw[if_neg (λq=>q h),if_neg h0,hcv]
 have hRl:(b7 (aj c ((bG a:Int)+1)) (aj c (bG a))).length=(aj c (bG a)).length:=eV;rcases wX hM va with⟨x,s1,s2,s3,s4,s5,s6⟩|⟨y,s1,s2,s3,s4,s5⟩
 ·left;rw[s1,if_pos rfl] at hbt;have hap:=Ae hV s3 va (by rw[hRl];exact vr) s6
  have hla:bG a<8:=by
   refine Classical.byContradiction λq=>hv0 ?_
   have hx:x=[]:=by
    have:aj c ((bG a:Int)+1)=[]:=yT hc (by omega);rw[this] at s4;cases x with
    |nil=>rfl
    |cons z x=>have:=s4 z (cz ..);simp at this;omega
   refine nI λz=>?_;by_cases hz:z∈v
   ·have hzr:=vr z hz;obtain⟨i,rfl⟩:=Int.eq_ofNat_of_zero_le hzr.1;have:=s6 i (by omega);rw[hx,ig λz _=>fG] at this;omega
   ·simp[bit,hz]
  obtain⟨c1,c2,c3,c4,c5,c6,c7,c8⟩:=gG hc hl hf hla s3 s4;rw[hap] at c6 c8;have heq:bw (bb (aj c ((bG a:Int)+1)) x)=a:=Ai (λs hs=>(c7 s hs).2) hin (xD (by rw[<-c8,hvp]));refine⟨_,hbt,c2,CS hv c1 (λ_ q=>?_) (by rw[c4,heq]),λy q=>?_⟩
  ·exact c3 _ (aA (gY.2 q))
  ·obtain⟨v',w,q1,q2,-,q4,q5,q6,q7⟩:=LY q;rw[hv] at q1;cases q1;obtain⟨-,hcy,hwp,hiny,wa,wr⟩:=cw q2;rw[<-q5] at wr
   have hk2:KerV (trL (aj c ((bG a:Int) + 1)).length (b7 (aj c ((bG a:Int) + 1)) (aj c (bG a)))) (b7 (aj c ((bG a:Int) + 1)) (aj c (bG a))).length w:=(FJ hV).2 ⟨wa,by rw [hRl]; exact wr,fun z=>by
    rw[<-zh hV.asc (by rw[hRl];exact wr),q6,fG]⟩
   have hsp:=(Dm hV).2 hk2
   have hod:jq v w=false:=by
    unfold jq
    rw [sN hsp fun d hd=>by
     have:=s5 d hd;unfold jq at this;have:=of_decide_eq_false this;omega]
    rfl
   rw[qM wa va,hod] at q7;cases q7
 ·right;rw[s1,if_neg (show ¬(([]:List Int),y,false).2.2=true from λq=>by cases q)] at hbt;rw[hRl] at s4;have hY2:aj c ((bG a:Nat):Int)=aj c ((k:Int)+1):=by rw[hk];rfl
  have s4':=s4;rw[hY2] at s4';obtain⟨c1,c2,c3,-⟩:=gG hc hl hf hk8 s3 s4';rw[<-hY2] at c1 c2 c3;have hy0:y≠[]:=λe=>by rw[e] at s5;cases s5
  have hp0:bb (aj c ((bG a:Nat):Int)) y≠[]:=λe=>hy0 (List.map_eq_nil_iff.1 e);refine⟨_,hbt,c2,?_,λb q=>?_⟩
  ·unfold rfT
   have hll:bG a=bG (bb (aj c ((bG a:Nat):Int)) y):=by
    have:=c3 _ (aA (gY.2 hp0));unfold bG at *;omega
   rw[Da hv c1,if_neg (show ¬((v,y,(0:Int)).2.2≠0) from λq=>q rfl),if_neg (show ¬(a=[]\/_=[]) from λq=>q.elim h0 hp0),if_neg (λq=>q hll)];unfold G7;have hok:=eI hV.asc (aM (b7 (aj c ((bG a:Int)+1)) (aj c (bG a))).length)
   have hsn:mr (b7 (aj c ((bG a:Int)+1)) (aj c (bG a))) y=[]:=nI λz=>by
    rw[zh hV.asc (by rw[hRl];exact s4)];have:=(hok.dep y s2).2.1 z;rw[fG] at this;exact this.symm
   rw[if_pos hsn,if_pos];rw[qM s3 va];exact s5
  ·obtain⟨v',w,q1,q2,q3,q4⟩:=Ff q;rw[hv] at q1;cases q1;have hb0:b≠[]:=λe=>by subst e;exact h0 q4.symm
   have hlb:=q3 h0 hb0;obtain⟨-,hcb,hwp,hinb,wa,wr⟩:=cw q2;have hb8:=cE ((dL hcb).2.1 _ (aA (gY.2 hb0)));have hla:bG a<8:=by have:=hb8.2.1;unfold bG at hlb |-;omega
   have hpk:=zb q2;rw[hlb,show((bG a+1:Nat):Int)=(bG a:Int)+1 by omega] at hpk wr;obtain⟨c1,c2,c3,c4,c5,c6,c7,c8⟩:=gG hc hl hf hla wa wr;rw[<-hpk,q4,hv] at c6;have e:=congrArg Prod.fst c6;dsimp only at e;have:=Ax (R:=b7 (aj c ((bG a:Int)+1)) (aj c (bG a))) hV.asc wa s2;rw[<-e,s5] at this;cases this
def RL(c:Nat)(rows:List (List Int)):Prop:=∀r∈rows,bd r/\∀z∈r,0<=z/\z<(c:Int)
theorem RL.len{c:Nat}{rows:List (List Int)}(h:RL c rows):∀r∈rows,r.length<=c:=λr hr=>eT (h r hr).1 (h r hr).2
theorem RL.sum {c:Nat} {a b:List Int} (h1:bd a∧∀ z ∈ a,0 ≤ z∧z < (c:Int)) (h2:bd b∧∀ z ∈ b,0 ≤ z∧z < (c:Int)):bd (bV a b)∧∀ z ∈ bV a b,0 ≤ z∧z < (c:Int):=⟨en h1.1 h2.1,fun z hz=>by
 rcases(cW h1.1 h2.1).1 hz with q|q
 ·exact h1.2 z q.1
 ·exact h2.2 z q.1⟩
theorem RL.elF{c:Nat}{rows:List (List Int)}(h:RL c rows){n k i:Nat}(hn:n<rows.length)(hi:i<rows.length):bd (elF rows n k i)/\∀z∈elF rows n k i,0<=z/\z<(c:Int):=by
 unfold Go.Proofs.YtekdaafnjdlenaaGreat.elF;split
 ·exact RL.sum (h _ (aA hi)) (h _ (aA hn))
 ·exact h _ (aA hi)
theorem RL.swL{c:Nat}{rows:List (List Int)}(h:RL c rows){n k:Nat}(hn:n<rows.length)(hk:k<rows.length):RL c (swL rows n k):=λr hr=>by
 unfold Go.Proofs.YtekdaafnjdlenaaGreat.swL at hr;obtain⟨j,hj,rfl⟩:=bz.1 hr;exact h _ (aA (pg hn hk (dE.1 hj)))
theorem mw.one{H:Hp}{s:AV}{l:List (List Int)}(h:mw H s l):s.one=true/\s.cells=[s]:=by
 rcases h with rfl|h
 ·exact⟨rfl,rfl⟩
 ·exact h.one
theorem mw.lenS{H:Hp}{s:AV}{l:List (List Int)}(h:mw H s l):cT s=some (.int .i64 l.length):=by
 rcases h with rfl|h
 ·exact fm
 ·exact h.lenS (by rw[bm,Nat.mul_one]) lh
def qh(c:List Spx)(d:Nat)(l:List (List Int)):Bool:=decide (rk (bdM c d++l) (bdN c d)=rk (bdM c d) (bdN c d)+l.length)
def oW(c:List Spx)(d:Nat)(a:List Spx):Int:=if (dF c a).2≠0 then(dF c a).2 else if a≠[]/\bG a≠d+1 then 15 else if bw a≠[] then 3 else 0
def D2(c:List Spx)(d:Nat)(l:List (List Spx)):Int:=dC (λk=>oW c d (l.getD k default)) l.length
def gK(c:List Spx)(l:List (List Spx)):List (List Int):=l.map λa=>(dF c a).1
def FT(c:List Spx)(d:Nat)(l:List (List Spx)):Bool×Int:=if 1024<l.length then(false,5) else if D2 c d l≠0 then(false,D2 c d l) else(qh c d (gK c l),0)
theorem pe{f:Nat->Int}:∀{n:Nat},dC f n=0\/ ∃k,k<n/\dC f n=f k
 |0=>.inl rfl
 |n+1=>by
  rw[dC];split
  ·rcases pe (f:=f) (n:=n) with h|⟨k,h1,h2⟩
   ·exact .inl h
   ·exact .inr ⟨k,by omega,h2⟩
  ·exact .inr ⟨n,by omega,rfl⟩
theorem GP{s:Spx}:bT s≠3:=by
 unfold bT;split
 ·decide
 split
 ·decide
 rcases pe (f:=oE s) (n:=s.length) with h|⟨k,_,h⟩
 ·rw[h];decide
 ·rw[h];unfold oE;split
  ·decide
  split<;>decide
theorem Il{a:List Spx}:dD a≠3:=by
 unfold dD;split
 ·decide
 rcases pe (f:=Bk a) (n:=a.length) with h|⟨k,_,h⟩
 ·rw[h];decide
 ·rw[h];unfold Bk;split
  ·exact GP
  split
  ·decide
  split<;>decide
theorem Ku{c a:List Spx}(hc:aB c=0):(dF c a).2≠3:=by
 unfold dF;rw[if_neg (λq=>q hc)];split
 ·exact Il
 split
 ·exact(by decide:(0:Int)≠3)
 split
 ·exact(by decide:(0:Int)≠3)
 ·exact(by decide:(6:Int)≠3)
theorem Ih{c:List Spx}{d:Nat}{a:List Spx}(hl:c.length<=50)(h:oW c d a=0):∃v,dF c a=(v,0)/\bd v/\(∀z∈v,0<=z/\z<(bdN c d:Int))/\bw a=[]:=by
 unfold oW at h;by_cases h1:(dF c a).2=0
 rotate_left
 ·rw[if_pos h1] at h;exact absurd h h1
 rw[if_neg (λq=>q h1)] at h;by_cases h2:a≠[]/\bG a≠d+1
 ·rw[if_pos h2] at h;exact absurd h (by decide)
 rw[if_neg h2] at h;by_cases h3:bw a=[]
 rotate_left
 ·rw[if_pos h3] at h;exact absurd h (by decide)
 have hv:dF c a=((dF c a).1,0):=by rw[<-h1]
 obtain⟨e1,e2,e3,e4,e5,e6⟩:=cw hv;refine⟨_,hv,e5,λz hz=>?_,h3⟩;by_cases ha:a=[]
 ·rw[e3,ha] at hz;exact by cases hz
 ·have hla:bG a=d+1:=Classical.byContradiction λq=>h2 ⟨ha,q⟩;have:=e6 z hz;rw[hla] at this;unfold bdN;rw[show(((d+1:Nat):Nat):Int)=(d:Int)+1 by omega] at this;exact this
theorem I3{c:List Spx}{d:Nat}{l:List (List Spx)}(hc:aB c=0)(hl:c.length<=50)(hll:l.length<=500)(h:D2 c d l=0):hU (bdN c d) (gK c l):=by
 have hn:bdN c d<=3500:=cQ hc hl
 have ha:∀r∈gK c l,bd r/\∀z∈r,0<=z/\z<(bdN c d:Int):=λr hr=>by
  unfold gK at hr;obtain⟨a,ha,rfl⟩:=bz.1 hr;obtain⟨k,hk,rfl⟩:=lN ha;obtain⟨v,q1,q2,q3,-⟩:=Ih hl (gz h k hk);rw[q1];exact⟨q2,q3⟩
 exact yM (by omega) (by unfold gK;rw[bm];omega) (λr hr=>(ha r hr).1) λr hr=>(ha r hr).2
theorem EH{c:List Spx}{l:List (List Spx)}{k:Nat}(h:k<l.length):gK c (l.take (k+1))=gK c (l.take k)++[(dF c (l.getD k default)).1]:=by
 unfold gK;rw[ci h,dq];rfl
theorem GX{E:List (List Int)}{n:Nat}{L:List (List Int)}{k:Nat}(h:k<L.length):xV E n (L.take k) (L.drop k)=if (de ((E++L.take k)++[L.getD k default]) n).length=(de (E++L.take k) n).length then false else xV E n (L.take (k+1)) (L.drop (k+1)):=by
 rw[jB h,xV,ci h];rfl
def onL(l:List (Nat×List AV)):Hp:=λx=>(l.find? λp=>decide (p.1=x)).map Prod.snd
theorem IQ{H:Hp}{l:List (Nat×List AV)}(h:∀p∈l,H p.1=some p.2):Sub (onL l) H:=λx cs hx=>by
 unfold onL at hx;obtain⟨p,hp,rfl⟩:=Option.map_eq_some_iff.1 hx;have h1:=List.mem_of_find?_eq_some hp;have h2:=oa (List.find?_some (p:=λp:Nat×List AV=>decide (p.1=x)) hp);rw[<-h2];exact h p h1
theorem K6{H:Hp}{l1:List (Nat×List AV)}{l2:List (Nat×AV×AV)}(h1:∀p∈l1,H p.1=some p.2)(h2:∀q∈l2,H q.1=some [q.2.1]/\onL l1 q.1=none/\Snap (onL l1) q.2.1 q.2.2):Fz (onL l1) H (onL (l2.map λq=>(q.1,[q.2.2]))) where
 sub:=IQ h1
 to:=λa cs' h=>by
  have h0:=h;unfold onL at h;obtain⟨p,hp,rfl⟩:=Option.map_eq_some_iff.1 h;have g1:=List.mem_of_find?_eq_some hp;have g2:=oa (List.find?_some (p:=λp:Nat×List AV=>decide (p.1=a)) hp);obtain⟨q,hq,rfl⟩:=bz.1 g1;obtain⟨k1,k2,k3⟩:=h2 q hq;dsimp only at g2 |-;rw[g2] at k1 k2;refine⟨[q.2.1],k1,k2,rfl,λi u v hu hv=>?_⟩
  match i with
  |0=>simp at hu hv;subst hu;subst hv;exact .inr k3
  |i+1=>simp at hu
def dx:List Spx:=[eC [0,1],eC [0,2],eC [1,2]]
def ia:List Spx:=[eC [0,1,2]]
def ng:List Spx:=[eC [0,1,2],eC [0,1,3],eC [0,2,3],eC [1,2,3]]
theorem wz:aB dx=0:=by decide+kernel
theorem Cx:aB ia=0:=by decide+kernel
theorem HM:aB ng=0:=by decide+kernel
theorem uA{c:List Spx}(h:aB c=0):∀s∈c,Shn s:=kP h
theorem FK:pU 13 [cl dx] (.tup [aH [1,1],.int .i64 0]):=by
 have h:=qw dx 2 wz (by decide) (by decide+kernel) (by decide)
 rwa [show btL dx 2=[1,1] by decide+kernel] at h
theorem Hu:pU 13 [cl ia] (.tup [aH [1,0,0],.int .i64 0]):=by
 have h:=qw ia 3 Cx (by decide) (by decide+kernel) (by decide)
 rwa [show btL ia 3=[1,0,0] by decide+kernel] at h
theorem HF:pU 13 [cl ng] (.tup [aH [1,0,1],.int .i64 0]):=by
 have h:=qw ng 3 HM (by decide) (by decide+kernel) (by decide)
 rwa [show btL ng 3=[1,0,1] by decide+kernel] at h
theorem Kx:pU 18 [cl dx,.int .i64 1] (.tup [cJ [dx],.int .i64 0]):=by
 have h:=wh dx 1 (oq.le Gm (by decide+kernel)) wz (by decide) (by decide) (by decide+kernel)
 rwa [show cyT dx 1=[dx] by decide+kernel] at h
theorem AH:ShC dx:=⟨by decide,by decide⟩
theorem Lv:ShC ia:=⟨by decide,by decide⟩
theorem PV:ShC [eC [0,1]]:=⟨by decide,by decide⟩
theorem Mf:ShC [eC [1,2]]:=⟨by decide,by decide⟩
theorem OU:ShC []:=⟨by decide,by decide⟩
theorem Ks:pU 21 [cl dx,ao dx] (.tup [ao [],ao [eC [0,1]],.bool false,.int .i64 0]):=by
 have h:=uO dx dx (by decide) (uA wz) AH
 rwa [show qP dx dx=([],[eC [0,1]],false,0) by decide+kernel] at h
theorem Ld:pU 21 [cl ia,ao dx] (.tup [ao ia,ao [],.bool true,.int .i64 0]):=by
 have h:=uO ia dx (by decide) (uA Cx) AH
 rwa [show qP ia dx=(ia,[],true,0) by decide+kernel] at h
theorem GL:pU 15 [cl ng,.int .i64 1] (.tup [.bool true,.int .i64 0]):=by
 have h:=pS ng 3 1 HM (by decide) (by decide+kernel) (by decide) (by decide)
 rwa [show Jo (btL ng 3) 1=true by decide+kernel] at h
theorem HL:pU 15 [cl ng,.int .i64 2] (.tup [.bool false,.int .i64 0]):=by
 have h:=pS ng 3 2 HM (by decide) (by decide+kernel) (by decide) (by decide)
 rwa [show Jo (btL ng 3) 2=false by decide+kernel] at h
theorem HS:pU 27 [cl dx,ao dx,ao [eC [0,1]]] (.int .i64 0):=by
 have h:=lZ dx dx [eC [0,1]] (by decide) (uA wz) AH PV
 rwa [show rfT dx dx [eC [0,1]]=0 by decide+kernel] at h
theorem Hk:pU 27 [cl dx,ao dx,ao [eC [1,2]]] (.int .i64 0):=by
 have h:=lZ dx dx [eC [1,2]] (by decide) (uA wz) AH Mf
 rwa [show rfT dx dx [eC [1,2]]=0 by decide+kernel] at h
theorem GB:pU 27 [cl ia,ao dx,ao [eC [1,2]]] (.int .i64 18):=by
 have h:=lZ ia dx [eC [1,2]] (by decide) (uA Cx) AH Mf
 rwa [show rfT ia dx [eC [1,2]]=18 by decide+kernel] at h
theorem Gi:pU 25 [cl ia,ao dx,ao ia] (.int .i64 0):=by
 have h:=wQ ia dx ia (by decide) (uA Cx) AH Lv
 rwa [show oz ia dx ia=0 by decide+kernel] at h
theorem Df:pU 25 [cl dx,ao dx,ao []] (.int .i64 18):=by
 have h:=wQ dx dx [] (by decide) (uA wz) AH OU
 rwa [show oz dx dx []=18 by decide+kernel] at h
theorem MI:pU 17 [aH [1,1],aH [1,1]] (.bool true):=by
 have:=u9 [1,1] [1,1] (by decide) (by decide)
 rwa [a6 rfl] at this
theorem LW:pU 17 [aH [1,0,0],aH [1,0,0]] (.bool true):=by
 have:=u9 [1,0,0] [1,0,0] (by decide) (by decide)
 rwa [a6 rfl] at this
theorem LI:pU 17 [aH [1,0,1],aH [1,0,1]] (.bool true):=by
 have:=u9 [1,0,1] [1,0,1] (by decide) (by decide)
 rwa [a6 rfl] at this
theorem MU(l:List Spx)(h:ShC l):pU 23 [ao l,ao l] (.bool true):=by
 have:=DQ l l h.1 h.1 h.2 h.2
 rwa [a6 rfl] at this
theorem Ji{c:List Spx}{m d:Nat}(hm:jL c=m)(hd:m<=d):btF c d=0:=by
 unfold btF;rw[CW hm hd,CW hm (by omega),w5,zp hm (by omega)];rfl
section
attribute [local irreducible] aO am bf aZ aR aS aE aU a5 bk Go.Abs.Fn aY Go.Abs.Pure au aN Yl
def cyR(c:List Spx)(d:Nat):List (List Spx):=(tkT (bdM c d) (bdN c d) (bsK c d) (bsK c d).length).map (bb (aj c ((d:Int)+1)))
theorem Nc{c:List Spx}{d:Nat}(hc:aB c=0)(hl:c.length<=50):cyT c d=cyR c d:=by
 unfold cyT cyR;rw[show bdE c d=de (bdM c d) (bdN c d) from rfl,JV (dY (mG hc hl)) (dY (o6 hc hl).1) (aM _)]
theorem nq(c:List Spx)(d:Nat)(l:List (List Spx))(hc:aB c=0)(hl:c.length<=50)(hd:d<=7)(hll:l.length<=500\/1024<l.length)(hn:bdN c d<=1000)(hlc:Shn l)(hls:∀a∈l,ShC a):pU 31 [cl c,.int .i64 d,cJ l] (.tup [.bool (FT c d l).1,.int .i64 (FT c d l).2]):=by
 refine pO PQ ?_;simp only[b31,aL];have hli:=l8 c hc hl;have hlc:l.length<=17592186044416:=hlc;have z0:decide ((0:Int)≠0)=false:=rfl;have z1:decide ((d:Int)<0)=false:=ba (by omega);have z2:decide ((8:Int)<=d)=false:=ba (by omega);unfold FT;by_cases hbig:1024<l.length
 ·have z3:decide ((1024:Int)<l.length)=true:=a6 (by omega);rw[if_pos hbig];refine wnY (zI7 @z0 @z1 @z2 @z3 @ak @ag @ft) ?_;exact bA (ah (.bool _) (ah (.int _ _) ap))
 rw[if_neg hbig];have z3:decide ((1024:Int)<l.length)=false:=ba (by omega);refine wnY (zI7 @z0 @z1 @z2 @z3 @ak @ag @ft) ?_;refine lpI (X:=AV×Nat) (λx=>[(1,.int .i64 d),(3,.ptr 0 1 0),(9,x.1),(36,cJ l),(37,.int .i64 l.length),(38,.int .i64 x.2)]) (λx H nx=>x.2<=l.length/\1<=nx/\(∀i,i<x.2->oW c d (l.getD i default)=0)/\H 0=some [ao c]/\Row H 1 x.1 ((gK c (l.take x.2)).map aH)/\∀b,bX x.1=some b->1<=b/\b<nx) (λx=>l.length-x.2) (.esl,0) ⟨bQ _,aM _,λi h=>absurd h (by omega),rfl,Row.nil,λb hb=>(by cases hb)⟩ ?_;rintro⟨sv,k⟩ H nx ⟨h1,h2,hall,g0,hrow,hbd⟩;dsimp only at h1 h2 hall g0 hrow hbd |-;by_cases hk:k<l.length
 rotate_left
 ·obtain rfl:k=l.length:=by omega
  have hz:D2 c d l=0:=c9 hall;rw[if_neg (λq=>q hz)];rw[List.take_length] at hrow;have hv:=I3 hc hl (by omega) hz;have hVl:(gK c l).length=l.length:=by unfold gK;rw[bm]
  have hbo:=λH nx=>ot c d hc hl hd H nx;rw[ql] at hbo;obtain⟨mE,rE,-⟩:=Fm (d:=d) hc hl;have lE:(bdE c d).length<=bdN c d:=yK;have eE:=Ck rE (oO mE)
  have hif:xV (bdE c d) (bdN c d) [] (gK c l)=qh c d (gK c l):=by
   rw[show bdE c d=de (bdM c d) (bdN c d) from rfl,zi (dY (mG hc hl)) VR.nil (dY hv) (by rw[fY];rfl),List.nil_append];rfl
  have hid:=λk=>GX (E:=bdE c d) (n:=bdN c d) (L:=gK c l) (k:=k);rw[<-hif];generalize gK c l=V at *;generalize bdE c d=E at *;generalize bdN c d=n at *;have zk:decide ((l.length:Int)<l.length)=false:=ba (by omega);refine wnY (aI @g0 @zk) ?_;refine aQ ev0 ev0 (hbo _ _) ?_;rintro _ H1 nx1 ⟨b,rfl,b1,b2,b3,b4⟩;have hrow1:Row H1 1 sv (V.map aH):=hrow.same λx hx=>b3 x (hbd x hx).2;have hls2:=hrow1.lenS (n:=V.length) (by rw[bm,Nat.mul_one]) lh;have hsb:∀x,bX sv=some x->x<b:=λx hx=>by have:=hbd x hx;omega
  clear b3 g0 hbd hrow;refine wnY (aI @z0 @hls2) ?_;refine lpI (X:=AV×Nat) (λx=>[(14,.ptr b 3 0),(85,sv),(86,.int .i64 V.length),(87,.int .i64 x.2)]) (λx H' nx'=>x.2<=V.length/\xV E n [] V=xV E n (V.take x.2) (V.drop x.2)/\H' b=some [.int .i64 n,x.1,.int .i64 (de (E++V.take x.2) n).length]/\mw H' x.1 (E++V.take x.2)/\b<nx'/\(∀z,bX x.1=some z->z<nx'/\z≠b/\bX sv≠some z)/\Row H' 1 sv (V.map aH)) (λx=>V.length-x.2) (bK E,0) ⟨bQ _,rfl,?_,.inl ?_,by omega,λz h=>(by cases h),hrow1⟩ ?_
  ·show H1 b=some [.int .i64 n,bK E,.int .i64 (de (E++[]) n).length];rw[fY,eE];exact b4
  ·show bK E=bK (E++[]);rw[fY]
  clear b4 hrow1;rintro⟨xv,k⟩ H' nx' ⟨h1,h2,h3,h4,h5,h6,h7⟩;dsimp only at h1 h2 h3 h4 h5 h6 h7 |-;by_cases hk2:k<V.length
  rotate_left
  ·obtain rfl:k=V.length:=by omega
   rw[h2,List.drop_length];refine wnY @z0 ?_;exact bA (ah (.bool _) (ah (.int _ _) ap))
  have hidk:=hid k hk2;have hvm:V.getD k default∈V:=aA hk2;have htk:V.take (k+1)=V.take k++[V.getD k default]:=ci hk2
  obtain⟨B,rfl,hB⟩:∃B,sv=.msl B V.length 1 0 V.length/\H' B=some (V.map aH):=by
   have h7':=h7;generalize hcs:V.map aH=cs at h7';have hl:cs.length=V.length:=by rw[<-hcs,bm]
   cases h7' with
   |nil=>simp at hl;omega
   |box B len cs q1 q2=>
    have e:len=V.length:=by omega
    subst e;exact⟨B,by rw[Nat.mul_one],q1⟩
  have zk2:decide ((k:Int)<V.length)=true:=a6 (by omega);have mS:hU n ((E++V.take k)++[V.getD k default]):=pZ (pZ mE (p8 hv (by rw[gV];omega) λr hr=>lm hr) (by rw[gV];omega)) (p8 hv (by simp) λr hr=>by rw[cC] at hr;rw[hr];exact hvm) (by rw[cP,gV];simp only[br,dw];omega);have hadd:=JJ n (E++V.take k) (de (E++V.take k) n).length (V.getD k default) xv b H' nx' mS h3 h5 h4 λx hx=>(h6 x hx).1;rw[i9,<-htk] at hadd hidk;refine wnY (aI @hB @zk2) ?_;refine aQ ev0 ev0 hadd ?_;rintro _ H2 nx2 ⟨q1,q2,q3⟩;have hBb:B<b:=hsb B rfl
  have h72:Row H2 1 (.msl B V.length 1 0 V.length) (V.map aH):=h7.same λx hx=>by
   cases hx;exact q2 B (by omega) (by omega)
  rcases q3 with⟨e1,rfl,e3⟩|⟨e1,rfl,wv,e3,e4,e5⟩
  ·rw[if_pos e1] at hidk;rw[h2,hidk];refine wnY @z0 ?_;exact bA (ah (.bool _) (ah (.int _ _) ap))
  rw[if_neg e1] at hidk;refine wnY @z0 ?_;refine⟨(wv,k+1),by dsimp only;omega,⟨by dsimp only;omega,h2.trans hidk,e3,e4,by omega,λz hz=>?_,h72⟩,ag0⟩;have:=e5 z hz;exact⟨by omega,by omega,λe=>by cases e;omega⟩
 have ix:=Gk hk;have hak:=hls _ (aA hk);have hvr:=zw c (l.getD k default) hl (kP hc) hak;have hvf:=λv=>cw (c:=c) (a:=l.getD k default) (v:=v);have hne3:=Ku (a:=l.getD k default) hc;have hvt:=EH (c:=c) hk;have hin:oW c d (l.getD k default)≠0->D2 c d l=oW c d (l.getD k default):=λq=>di (f:=λk=>oW c d (l.getD k default)) hk hall q;have hi2:oW c d (l.getD k default)=if (dF c (l.getD k default)).2≠0 then(dF c (l.getD k default)).2 else if (l.getD k default)≠[]/\bG (l.getD k default)≠d+1 then 15 else if bw (l.getD k default)≠[] then 3 else 0:=rfl
 have hvl:(gK c (l.take k)).length=k:=by unfold gK;rw[bm,gV];omega
 have hall2:oW c d (l.getD k default)=0->∀i,i<k+1->oW c d (l.getD i default)=0:=λq i hi=>by
  rcases(by omega:i<k\/i=k) with h|rfl
  ·exact hall i h
  ·exact q
 unfold cyH at hvr;generalize l.getD k default=a at *;have zk:decide ((k:Int)<l.length)=true:=a6 (by omega);have hal:a.length<=17592186044416:=hak.1;generalize hva:dF c a=va at *;obtain⟨v,e⟩:=va;dsimp only at *;by_cases he:e=0
 rotate_left
 ·have z5:decide (e≠0)=true:=a6 he;have z6:decide (e=0)=false:=ba he;have z7:decide (e=3)=false:=ba hne3;rw[if_pos he] at hi2 hvr;have hne:oW c d a≠0:=by rw[hi2];exact he
  rw[hin hne,if_pos hne,hi2];refine wnY (zI8 @zk @z5 @z6 @z7 @g0 @ix @ak @ag) ?_;exact bA (ah (.bool _) (ah (.int _ _) ap))
 subst he;rw[if_neg (λq=>q rfl)] at hi2 hvr;have z5:decide ((0:Int)=0)=true:=rfl;have z33:decide ((3:Int)=3)=true:=rfl;have z30:decide ((3:Int)=0)=false:=rfl;have z3n:decide ((3:Int)≠0)=true:=rfl;have step:∀(G:Hp)(n1:Nat),Row G 1 sv ((gK c (l.take k)).map aH)->True:=λ_ _ _=>trivial;by_cases ha:a=[]
 ·have z6:decide ((0:Int)<a.length)=false:=by rw[ha];rfl
  have he0:bw a=[]:=by rw[ha];rfl
  rw[if_neg (λq=>q.1 ha),if_neg (λq=>q he0)] at hi2;rw[if_pos he0] at hvr;refine wnY (zI9 @zk @z0 @z5 @z6 @g0 @ix @ai @ak @ag) ?_;refine eR (hrow.same λb hb=>?_) ?_
  ·have:=hbd b hb;rw[ae (by omega)]
  rintro s2 H2 nx2 hr2 i1 i2 i3 i4;have lo:∀x,x<1->H2 x=H x:=λx hx=>(i3 x (by omega) (λh=>by have:=hbd _ h;omega)).trans (by rw[ae (by omega)]);refine wnY and_self ?_;refine⟨(s2,k+1),by dsimp only;omega,⟨by dsimp only;omega,by omega,hall2 hi2,(lo 0 (by omega)).trans g0,?_,λb hb=>?_⟩,ag0⟩
  ·dsimp only;rw[hvt,dq];exact hr2
  ·rcases i4 b hb with h|h
   ·have:=hbd b h;omega
   ·omega
 have z6:decide ((0:Int)<a.length)=true:=a6 (by have:=gY.2 ha;omega);have iy:=xo ha;have hsl:(a.getD 0 default).length<=17592186044416:=hak.2 _ (aA (gY.2 ha));unfold bG at hi2;generalize a.getD 0 default=s at *;by_cases hla:s.length=d+1
 rotate_left
 ·have z8:decide ((s.length:Int)≠(d:Int)+1)=true:=a6 (by omega);rw[if_pos ⟨ha,hla⟩] at hi2;have hne:oW c d a≠0:=by rw[hi2];decide
  rw[hin hne,if_pos hne,hi2];by_cases he0:bw a=[]
  ·rw[if_pos he0] at hvr;refine wnY (aI @zk (aI @z0 (dH @z5 @z6 @z8 @g0 @ix @iy @ai @az @ak @ag))) ?_;exact bA (ah (.bool _) (ah (.int _ _) ap))
  ·rw[if_neg he0] at hvr;refine wnY (aI @zk (aI @z0 (aI @z33 (dH @z30 @z6 @z8 @g0 @ix @iy @ai @az @ak @ag)))) ?_;exact bA (ah (.bool _) (ah (.int _ _) ap))
 have z8:decide ((s.length:Int)≠(d:Int)+1)=false:=ba (by omega);rw[if_neg (λq=>q.2 hla)] at hi2;by_cases he0:bw a=[]
 rotate_left
 ·rw[if_pos he0] at hi2;rw[if_neg he0] at hvr;have hne:oW c d a≠0:=by rw[hi2];decide
  rw[hin hne,if_pos hne,hi2];refine wnY (aI @zk (aI @z0 (aI @z33 (aI @z30 (dH @z3n @z6 @z8 @g0 @ix @iy @ai @az @ak @ag))))) ?_;exact bA (ah (.bool _) (ah (.int _ _) ap))
 rw[if_neg (λq=>q he0)] at hi2;rw[if_pos he0] at hvr;refine wnY (aI @zk (aI @z0 (dH @z5 @z6 @z8 @g0 @ix @iy @ai @az @ak @ag))) ?_;refine eR (hrow.same λb hb=>?_) ?_
 ·have:=hbd b hb;rw[ae (by omega)]
 rintro s2 H2 nx2 hr2 i1 i2 i3 i4;have lo:∀x,x<1->H2 x=H x:=λx hx=>(i3 x (by omega) (λh=>by have:=hbd _ h;omega)).trans (by rw[ae (by omega)]);refine wnY and_self ?_;refine⟨(s2,k+1),by dsimp only;omega,⟨by dsimp only;omega,by omega,hall2 hi2,(lo 0 (by omega)).trans g0,?_,λb hb=>?_⟩,ag0⟩
 ·dsimp only;rw[hvt,dq];exact hr2
 ·rcases i4 b hb with h|h
  ·have:=hbd b h;omega
  ·omega
theorem oU(l:List Int)(hl:l.length<=1000):PureF Tryz.prog 42 [aH l] (aF (eC l)):=by
 refine qO PM ?_;simp only[b42,aL];refine wnY and_self ?_;refine bF (X:=AV×Nat) (λx=>[(3,x.1),(6,aH l),(7,.int .i64 l.length),(8,.int .i64 x.2)]) (λx H nx=>x.2<=l.length/\Row H 2 x.1 (cX (eC (l.take x.2)))/\∀b,bX x.1=some b->b<nx) (λx=>l.length-x.2) (.esl,0) ⟨bQ _,Row.nil,λb hb=>(by cases hb)⟩ ag0 ?_;rintro⟨sv,k⟩ H nx ⟨k1,k3,k4⟩;dsimp only at k1 k3 k4 |-;by_cases hk:k<l.length
 rotate_left
 ·rw[ib (by omega)] at k3;refine wnY and_self ?_;exact sy k3
 have ix:=ixV hk;have hpt:=EN hk;have hcl:(cX (eC (l.take k))).length=k*2:=by rw[kM];unfold eC;rw[bm,gV];omega
 refine wnY @ix ?_;refine eR (k3.same λb hb=>?_) ?_
 ·have:=k4 b hb;rw[ae (by omega)]
 rintro s2 E e hrow hle1 hle2 hsame hb2;refine wnY and_self ?_;refine⟨(s2,k+1),by dsimp only;omega,⟨by dsimp only;omega,?_,λb hb=>?_⟩,ag0⟩
 ·dsimp only;rw[hpt,nG];exact hrow
 ·rcases hb2 b hb with h|h
  ·have:=k4 b h;omega
  ·omega
theorem Jv:pU 12 [] (.bool true):=by
 refine pO PH ?_;simp only[b12,aL];have o01:PureF Tryz.prog 42 [aH [0,1]] (aF (eC [0,1])):=oU _ (by decide);have o02:PureF Tryz.prog 42 [aH [0,2]] (aF (eC [0,2])):=oU _ (by decide);have o12:PureF Tryz.prog 42 [aH [1,2]] (aF (eC [1,2])):=oU _ (by decide);have o012:PureF Tryz.prog 42 [aH [0,1,2]] (aF (eC [0,1,2])):=oU _ (by decide);have o013:PureF Tryz.prog 42 [aH [0,1,3]] (aF (eC [0,1,3])):=oU _ (by decide);have o023:PureF Tryz.prog 42 [aH [0,2,3]] (aF (eC [0,2,3])):=oU _ (by decide);have o123:PureF Tryz.prog 42 [aH [1,2,3]] (aF (eC [1,2,3])):=oU _ (by decide);have zz:=aI @be (aI @aX (aI @ak @ag));repeat' (first|refine zW ?_|apply a_n|refine zO ?_|refine vZ ?_|refine blZ ?_|fail)
 refine gy ev0 ev0 o01 (ah (eH (n:=2) (len:=2) (l:=[0,1]) (by exact rfl) rfl rfl) ap) ?_;clear zz;have zz:=aI @be (aI @aX (aI @ak @ag));repeat' (first|apply a_n|refine zO ?_|refine blZ ?_|fail)
 refine gy ev0 ev0 o02 (ah (eH (n:=2) (len:=2) (l:=[0,2]) (by exact rfl) rfl rfl) ap) ?_;clear zz;have zz:=aI @be (aI @aX (aI @ak @ag));repeat' (first|apply a_n|refine zO ?_|refine blZ ?_|fail)
 refine gy ev0 ev0 o12 (ah (eH (n:=2) (len:=2) (l:=[1,2]) (by exact rfl) rfl rfl) ap) ?_;clear zz;have zz:=aI @be (aI @aX (aI @ak @ag));repeat' (first|refine zW ?_|apply a_n|refine zO ?_|refine vZ ?_|refine blZ ?_|fail)
 refine gy ev0 ev0 o012 (ah (eH (n:=3) (len:=3) (l:=[0,1,2]) (by exact rfl) rfl rfl) ap) ?_;clear zz;have zz:=aI @be (aI @aX (aI @ak @ag));repeat' (first|refine zW ?_|apply a_n|refine zO ?_|refine vZ ?_|refine alZ ?_|refine stZ ?_|refine blZ ?_|fail)
 refine gy ev0 ev0 o012 (ah (eH (n:=3) (len:=3) (l:=[0,1,2]) (by exact rfl) rfl rfl) ap) ?_;clear zz;have zz:=aI @be (aI @aX (aI @ak @ag));repeat' (first|apply a_n|refine zO ?_|refine blZ ?_|fail)
 refine gy ev0 ev0 o013 (ah (eH (n:=3) (len:=3) (l:=[0,1,3]) (by exact rfl) rfl rfl) ap) ?_;clear zz;have zz:=aI @be (aI @aX (aI @ak @ag));repeat' (first|apply a_n|refine zO ?_|refine blZ ?_|fail)
 refine gy ev0 ev0 o023 (ah (eH (n:=3) (len:=3) (l:=[0,2,3]) (by exact rfl) rfl rfl) ap) ?_;clear zz;have zz:=aI @be (aI @aX (aI @ak @ag));repeat' (first|apply a_n|refine zO ?_|refine blZ ?_|fail)
 refine gy ev0 ev0 o123 (ah (eH (n:=3) (len:=3) (l:=[1,2,3]) (by exact rfl) rfl rfl) ap) ?_;clear zz;have zz:=aI @be (aI @aX (aI @ak @ag));repeat' (first|apply a_n|refine zO ?_|refine vZ ?_|refine alZ ?_|refine stZ ?_|refine blZ ?_|fail)
 refine dJ ?_;refine qs (onL [(3,[aF (eC [0,1]),aF (eC [0,2]),aF (eC [1,2])]),(5,[aF (eC [0,1,2])]),(12,[aF (eC [0,1,2]),aF (eC [0,1,3]),aF (eC [0,2,3]),aF (eC [1,2,3])])]) _ [(1,ao dx),(2,.ptr 6 1 0),(3,.ptr 7 1 0),(4,.ptr 13 1 0)] (K6 (l2:=[(6,.msl 3 3 1 0 3,ao dx),(7,.msl 5 1 1 0 1,ao ia),(13,.msl 12 4 1 0 4,ao ng)]) ?_ ?_) ⟨.inr (qb (l:=dx) rfl rfl),.inl rfl,.inl rfl,.inl rfl,trivial⟩ ?_
 ·intro p hp;simp only[dg,List.not_mem_nil,or_false] at hp;rcases hp with rfl|rfl|rfl<;>exact rfl
 ·intro q hq;simp only[dg,List.not_mem_nil,or_false] at hq;rcases hq with rfl|rfl|rfl
  ·exact⟨rfl,rfl,qb (l:=dx) rfl rfl⟩
  ·exact⟨rfl,rfl,qb (l:=ia) rfl rfl⟩
  ·exact⟨rfl,rfl,qb (l:=ng) rfl rfl⟩
 have h6:onL ([(6,AV.msl 3 3 1 0 3,ao dx),(7,.msl 5 1 1 0 1,ao ia),(13,.msl 12 4 1 0 4,ao ng)].map λq=>(q.1,[q.2.2])) 6=some [ao dx]:=rfl;have h7:onL ([(6,AV.msl 3 3 1 0 3,ao dx),(7,.msl 5 1 1 0 1,ao ia),(13,.msl 12 4 1 0 4,ao ng)].map λq=>(q.1,[q.2.2])) 7=some [ao ia]:=rfl;have h13:onL ([(6,AV.msl 3 3 1 0 3,ao dx),(7,.msl 5 1 1 0 1,ao ia),(13,.msl 12 4 1 0 4,ao ng)].map λq=>(q.1,[q.2.2])) 13=some [ao ng]:=rfl;generalize onL ([(6,AV.msl 3 3 1 0 3,ao dx),(7,.msl 5 1 1 0 1,ao ia),(13,.msl 12 4 1 0 4,ao ng)].map λq=>(q.1,[q.2.2]))=HH at *;have sl2:lF 1 (ao dx) (some (.int .i64 2)) none none=some (ao [eC [1,2]]):=rfl;have lc1:cT (cJ [dx])=some (.int .i64 1):=rfl;have z18:eY 1 (cJ [dx]) (.int .i64 0)=some (.iptr [ao dx] 0):=rfl;have s1:=MU dx AH;have hce:∀c:List Spx,AV.agg [ao c]=cl c:=λ_=>rfl;clear zz;have zz:=aI @h6 (aI @h7 (aI @h13 (aI @sl2 (aI @lc1 (aI @z18 (aI @be (aI @aX (aI @ak @ag))))))));repeat' (first|refine zW ?_|apply a_n|refine zO ?_|refine vZ ?_|refine cZ ?_ (hp:=by first|exact FK|exact Hu|exact HF|exact Kx|exact Ks|exact Ld|exact GL|exact HL|exact HS|exact Hk|exact GB|exact Gi|exact Df|exact s1) (hs:=by(first|refine aG ?_ rfl|apply a9);(repeat' (first|exact ap|apply bI|apply bc|exact bD _|exact dt _|exact ki _|exact dp _));first|done|fail)|refine blZ ?_|refine gTZ ?_|(refine zGZ ?_ ?_<;>(intro _hg;try (exfalso;omega)))|fail)
 refine dh ev0 ev0 MI (aG (ah (dp _ _) (ah (eH (n:=2) (len:=2) (l:=[1,1]) (by exact rfl) rfl rfl) ap)) rfl) ?_;clear zz;have zz:=aI @h6 (aI @h7 (aI @h13 (aI @sl2 (aI @lc1 (aI @z18 (aI @be (aI @aX (aI @ak @ag))))))));repeat' (first|apply a_n|refine zO ?_|refine vZ ?_|refine blZ ?_|refine gTZ ?_|fail)
 refine dh ev0 ev0 LW (aG (ah (dp _ _) (ah (eH (n:=3) (len:=3) (l:=[1,0,0]) (by exact rfl) rfl rfl) ap)) rfl) ?_;clear zz;have zz:=aI @h6 (aI @h7 (aI @h13 (aI @sl2 (aI @lc1 (aI @z18 (aI @be (aI @aX (aI @ak @ag))))))));repeat' (first|apply a_n|refine zO ?_|refine vZ ?_|refine blZ ?_|refine gTZ ?_|fail)
 refine dh ev0 ev0 LI (aG (ah (dp _ _) (ah (eH (n:=3) (len:=3) (l:=[1,0,1]) (by exact rfl) rfl rfl) ap)) rfl) ?_;clear zz;have zz:=aI @h6 (aI @h7 (aI @h13 (aI @sl2 (aI @lc1 (aI @z18 (aI @be (aI @aX (aI @ak @ag))))))));repeat' (first|refine zW ?_|apply a_n|refine zO ?_|refine vZ ?_|refine cZ ?_ (hp:=by first|exact FK|exact Hu|exact HF|exact Kx|exact Ks|exact Ld|exact GL|exact HL|exact HS|exact Hk|exact GB|exact Gi|exact Df|exact s1) (hs:=by(first|refine aG ?_ rfl|apply a9);(repeat' (first|exact ap|apply bI|apply bc|exact bD _|exact dt _|exact ki _|exact dp _));first|done|fail)|refine blZ ?_|refine gTZ ?_|(refine zGZ ?_ ?_<;>(intro _hg;try (exfalso;omega)))|refine cFZ ?_|fail)
 refine gy ev0 ev0 o012 (ah (eH (n:=3) (len:=3) (l:=[0,1,2]) (by exact rfl) rfl rfl) ap) ?_;clear zz;have zz:=aI @h6 (aI @h7 (aI @h13 (aI @sl2 (aI @lc1 (aI @z18 (aI @be (aI @aX (aI @ak @ag))))))));repeat' (first|apply a_n|refine zO ?_|refine blZ ?_|refine gTZ ?_|fail)
 refine dh ev0 ev0 (MU ia Lv) (aG (ah (bD _ _) (ah (qb (b:=18) (n:=1) (l:=ia) (by exact rfl) rfl) ap)) rfl) ?_;clear zz;have zz:=aI @h6 (aI @h7 (aI @h13 (aI @sl2 (aI @lc1 (aI @z18 (aI @be (aI @aX (aI @ak @ag))))))));repeat' (first|refine zW ?_|apply a_n|refine zO ?_|refine vZ ?_|refine gTZ ?_|refine cFZ ?_|fail)
 try refine Go.Abs.w_mix1 ?_
 clear zz;have zz:=aI @h6 (aI @h7 (aI @h13 (aI @sl2 (aI @lc1 (aI @z18 (aI @be (aI @aX (aI @ak @ag))))))));repeat' (first|apply a_n|refine zO ?_|refine vZ ?_|refine cZ ?_ (hp:=by first|exact FK|exact Hu|exact HF|exact Kx|exact Ks|exact Ld|exact GL|exact HL|exact HS|exact Hk|exact GB|exact Gi|exact Df|exact s1) (hs:=by(first|refine aG ?_ rfl|apply a9);(repeat' (first|exact ap|apply bI|apply bc|exact bD _|exact dt _|exact ki _|exact dp _));first|done|fail)|refine gTZ ?_|(refine zGZ ?_ ?_<;>(intro _hg;try (exfalso;omega)))|fail)
 refine dh ev0 ev0 Df (aG (ah (dt _ _) (ah (bD _ _) (ah (.eslsl 1) ap))) rfl) ?_
 repeat' (first|apply a_n|refine zO ?_|refine vZ ?_|refine gTZ ?_|refine b0 rfl ?_|refine r1Z ?_|fail)
 exact .bool _
def uq(c:List Spx)(l:List (List Spx)):Bool:=l.all vG&&(lQ c&&decide (iS c c.length<=400))
theorem Je(c:List Spx)(l:List (List Spx))(hc:Shn c)(hs:∀s∈c,Shn s)(hl:Shn l)(ha:∀a∈l,ShC a):pU 11 [cl c,cJ l] (.bool (uq c l)):=by
 refine pO Pm ?_;simp only[b11,aL];have hc':c.length<=17592186044416:=hc;have hl':l.length<=17592186044416:=hl;have f1:=H7 c hc hs;unfold uq;refine wnY (zI3 @ak @ag @ft) ?_;refine lpI (X:=Nat) (λk=>[(2,.ptr 0 1 0),(10,cJ l),(11,.int .i64 l.length),(12,.int .i64 k)]) (λk H nx=>k<=l.length/\H 0=some [ao c]/\∀i,i<k->vG (l.getD i default)=true) (λk=>l.length-k) 0 ⟨bQ _,rfl,λi h=>absurd h (by omega)⟩ ?_;rintro k H nx ⟨k1,g0,k2⟩;by_cases hk:k<l.length
 ·have ix:=Gk hk;have hf:=J6 (l.getD k default) (ha _ (aA hk));cases hv:vG (l.getD k default)
  ·rw[jA hk hv,Bool.false_and];rw[hv] at hf;generalize l.getD k default=a at *;refine wnY @ix ?_;exact .bool _
  ·rw[hv] at hf
   have k3:∀i,i<k+1->vG (l.getD i default)=true:=λi hi=>by
    rcases(by omega:i<k\/i=k) with h|rfl
    ·exact k2 i h
    ·exact hv
   generalize l.getD k default=a at *;refine wnY @ix ?_;exact⟨k+1,by omega,⟨by omega,g0,k3⟩,ag0⟩
 obtain rfl:k=l.length:=by omega
 rw[lf k2,Bool.true_and];refine wnY (aI @g0 @ai) ?_;clear k2 k1 hk;refine lpI (X:=Nat) (λk=>[(2,.ptr 0 1 0),(7,.int .i64 (iS c k)),(21,ao c),(22,.int .i64 c.length),(23,.int .i64 k)]) (λk H nx=>k<=c.length/\H 0=some [ao c]) (λk=>c.length-k) 0 ⟨bQ _,g0⟩ ?_;clear g0;rintro k H nx ⟨g1,g2⟩;have hb:=yd (c:=c) k;by_cases hk:k<c.length
 ·have ix:=fQ hk;have hsl:(c.getD k default).length<=17592186044416:=hs _ (aA hk);have hb2:=yd (c:=c) (k+1);have hfs:iS c (k+1)=iS c k+2^min (c.getD k default).length 10:=rfl
  have hsh:∀tb tf,bv .shl tb tf (.int .i64 1) (.int .i64 (min ((c.getD k default).length:Int) 10))=some (.int .i64 ((2^min (c.getD k default).length 10:Nat):Int)):=λtb tf=>by
   have h1:min ((c.getD k default).length:Int) 10=((min (c.getD k default).length 10:Nat):Int):=by omega
   have h2:2^min (c.getD k default).length 10<=2^10:=Nat.pow_le_pow_right (by omega) (by omega);rw[h1];have:=CR (k:=.i64) (k':=.i64) (a:=1) (b:=min (c.getD k default).length 10) (tb:=tb) (tf:=tf) (by show _<=64;omega) (by show 1*_<2^63;omega);rw[Nat.one_mul] at this;exact this
  rw[hfs] at hb2;generalize 2^min (c.getD k default).length 10=P at *;generalize c.getD k default=s at *;have hce:((iS c (k+1):Nat):Int)=(iS c k:Int)+(P:Int):=by rw[hfs];omega
  refine wnY (zI3 @ix @az @hsh) ?_;exact⟨k+1,by omega,⟨by omega,g2⟩,by rw[hce];simp (disch:=omega) only[agr,ZG,reduceEqDiff,↓reduceIte]⟩
 obtain rfl:k=c.length:=by omega
 cases e1:lQ c
 ·rw[e1] at f1;rw[Bool.false_and];refine wnY (zI3 @g2 @ak @ag) ?_;exact .bool _
 rw[e1] at f1;rw[Bool.true_and];by_cases h3:iS c c.length<=400
 ·have z:decide ((iS c c.length:Int)<=400)=true:=a6 (by omega);rw[a6 h3];refine wnY (zI4 @g2 @z @ak @ag) ?_;exact .bool _
 ·have z:decide ((iS c c.length:Int)<=400)=false:=ba (by omega);rw[ba h3];refine wnY (zI4 @g2 @z @ak @ag) ?_;exact .bool _
theorem Eg{c:List Spx}{l:List (List Spx)}(h:uq c l=true):(∀a∈l,vG a=true)/\c.length<=30/\iS c c.length<=400:=by
 unfold uq at h;simp only[eu,iB] at h;exact⟨λa ha=>eN.1 h.1 a ha,(BB.1 h.2.1).1,h.2.2⟩
end
theorem uS{c:List Spx}{k:Nat}{x:List Int}(hc:aB c=0)(hl:c.length<=50)(hf:iS c c.length<=400)(hk:k<8)(ha:bd x)(hr:∀z∈x,0<=z/\z<((aj c ((k:Int)+1)).length:Int)):bw (bb (aj c ((k:Int)+1)) x)=[]↔KerV (b7 (aj c ((k:Int)+1)) (aj c k)) (bdN c k) x:=by
 obtain⟨c1,c2,c3,c4,c5,c6,c7,c8⟩:=gG hc hl hf hk ha hr;have hV:VR _ _:=dY (lG (c:=c) (d:=k) hc hl);constructor
 ·intro e;rw[e] at c8;refine⟨ha,hr,λr hr2=>?_⟩;obtain⟨i,hi,rfl⟩:=lN hr2;rw[<-nK hV.asc ha hi,c8];exact fG
 ·intro h
  have e:bu (ee (b7 (aj c ((k:Int)+1)) (aj c k)) x)=[]:=by
   refine uo.2 λz hz=>?_;obtain⟨i,hi,rfl⟩:=fe.1 hz;have hi2:=dE.1 (eG.1 hi).1;have:=nK hV.asc ha hi2;rw[h.dot _ (aA hi2),cI.2 hz] at this;omega
  rw[e] at c8;cases he:bw (bb (aj c ((k:Int)+1)) x) with
  |nil=>rfl
  |cons y l=>rw[he] at c8;exact by cases c8
theorem Gb{R:List (List Int)}{c:Nat}{x:List Int}(hV:VR c R)(hx:bd x):Sp (trL c R) (bu (ee R x)):=
 KI hV (du (List.pairwise_lt_range.sublist x7)) (fun z hz=>by
  obtain⟨i,hi,rfl⟩:=fe.1 hz;have:=dE.1 (eG.1 hi).1;omega) λy hy=>Ax hV.asc hx hy
theorem K5{c:List Spx}{k:Nat}(hc:aB c=0)(hl:c.length<=50)(hf:iS c c.length<=400)(hk:k+1<8){r:List Int}(hr:r∈bdM c k):KerV (b7 (aj c ((k:Int)+1)) (aj c k)) (bdN c k) r:=by
 have e1:((k+1:Nat):Int)=(k:Int)+1:=by omega
 have hV:VR _ _:=dY (lG (c:=c) (d:=k+1) hc hl);unfold bdN at hV;rw[e1] at hV;unfold bdM trL at hr;obtain⟨q,hq,e⟩:=bz.1 hr;subst e;have hq:=dE.1 hq;have hx:bd [(q:Int)]:=List.pairwise_singleton _ _
 have hxr:∀z∈[(q:Int)],0<=z/\z<((aj c ((k:Int)+1+1)).length:Int):=λz hz=>by
  rw[cC.1 hz];omega
 obtain⟨c1,-,-,-,-,c6,c7,c8⟩:=gG (k:=k+1) (x:=[(q:Int)]) hc hl hf hk hx (by rw[e1];exact hxr);rw[e1] at c1 c6 c7 c8;have hl2:(b7 (aj c ((k:Int)+1+1)) (aj c ((k:Int)+1))).length=(aj c ((k:Int)+1)).length:=eV;have ht:=Fi (R:=b7 (aj c ((k:Int)+1+1)) (aj c ((k:Int)+1))) (c:=(aj c ((k:Int)+1+1)).length);have hm:bu (trF (b7 (aj c ((k:Int)+1+1)) (aj c ((k:Int)+1))) (b7 (aj c ((k:Int)+1+1)) (aj c ((k:Int)+1))).length q)∈trL (aj c ((k:Int)+1+1)).length (b7 (aj c ((k:Int)+1+1)) (aj c ((k:Int)+1))):=bz.2 ⟨q,dE.2 hq,rfl⟩;have ta:=ht.asc _ hm;have tr:=ht.rng _ hm
 have er:=Ae hV hx ta tr λi hi=>by
  rw[yi (by omega)];unfold kL;rw[show(λz=>bit z [(q:Int)])=λw=>if w=(q:Int) then 1 else 0 from funext λz=>by simp[bit],uV (hV.asc _ (aA hi)),bN];exact Nat.mod_eq_of_lt gD
 rw[er] at c8;refine(uS hc hl hf (by omega) ta (λz hz=>by have:=tr z hz;omega)).1 ?_;rw[c8,uT λs hs=>(c7 s hs).2];obtain⟨-,hca,-⟩:=cw c1;exact wU (gc (dL hca).2.1)
def tkC(c:List Spx)(k:Nat):List (List Int):=tkT (bdM c k) (bdN c k) (bsK c k) (bsK c k).length
theorem GH{c:List Spx}{k:Nat}(hc:aB c=0)(hl:c.length<=50):VR (bdN c k) (tkC c k):=zQ (dY (o6 hc hl).1) (aM _)
theorem CX{c:List Spx}{k:Nat}(hc:aB c=0)(hl:c.length<=50){v:List Int}(h:v∈tkC c k):KerV (b7 (aj c ((k:Int)+1)) (aj c k)) (bdN c k) v:=by
 have hV:VR _ _:=dY (lG (c:=c) (d:=k) hc hl);exact(yq hV).2 (cR (vw (aM _) v h))
theorem DY{c:List Spx}{k:Nat}(hc:aB c=0)(hl:c.length<=50)(hf:iS c c.length<=400)(hk:k+1<8):((tkC c k).length:Int)=btF c k:=by
 have e1:((k+1:Nat):Int)=(k:Int)+1:=by omega
 have hV:VR _ _:=dY (lG (c:=c) (d:=k) hc hl);have hK:=dY (o6 (d:=k) hc hl).1;have hM:=dY (mG (d:=k) hc hl);have h1:=Iw hM hK λr hr=>(yq hV).1 (K5 hc hl hf hk hr);obtain⟨a1,a2,-⟩:=fR hV.asc hV.rng;have hv:∀r∈de (b7 (aj c ((k:Int)+1)) (aj c k)) (bdN c k),∀z∈r,0<=z/\z<(bdN c k:Int):=λr hr=>fE hV.asc hV.rng ((a2 r).1 (cR hr));have h2:rk (bsK c k) (bdN c k)=(bsK c k).length:=BZ a1 hv _ (aM _);have h3:(bsK c k).length+rkF c k=bdN c k:=Cn a1 hv
 have h4:rk (bdM c k) (bdN c k)=rkF c (k+1):=by
  have hV2:VR _ _:=dY (lG (c:=c) (d:=k+1) hc hl);unfold bdN at hV2;rw[e1] at hV2;have:=LC hV2;rw[eV] at this;unfold rkF;rw[e1];exact this
 unfold btF;change rk (bdM c k) (bdN c k)+(tkC c k).length=_ at h1;unfold bdN at h3;rw[h2,h4] at h1;omega
theorem Lc{c:List Spx}{k:Nat}(hc:aB c=0)(hl:c.length<=50):cyT c k=(tkC c k).map (bb (aj c ((k:Int)+1))):=Nc hc hl
theorem ir{c:List Spx}{k:Nat}{v:List Int}(hc:aB c=0)(hl:c.length<=50)(hf:iS c c.length<=400)(hk:k<8)(h:KerV (b7 (aj c ((k:Int)+1)) (aj c k)) (bdN c k) v):
    dF c (bb (aj c ((k:Int)+1)) v)=(v,0)/\ShC (bb (aj c ((k:Int)+1)) v)/\(∀s∈bb (aj c ((k:Int)+1)) v,s.length=k+1)/\bw (bb (aj c ((k:Int)+1)) v)=[]/\cyH c (bb (aj c ((k:Int)+1)) v)=(v,0)/\E8 (bb (aj c ((k:Int)+1)) v)=(true,0)/\oW c k (bb (aj c ((k:Int)+1)) v)=0:=by
 obtain⟨c1,c2,c3,c4,c5,c6,c7,c8⟩:=gG hc hl hf hk h.asc h.rng;have he:=(uS hc hl hf hk h.asc h.rng).2 h;obtain⟨-,hca,-⟩:=cw c1;refine⟨c1,c2,c3,he,?_,?_,?_⟩
 ·unfold cyH;rw[c1,if_neg (λq=>q rfl),if_pos he]
 ·unfold E8;rw[hca,if_neg (λq=>q rfl),he];rfl
 ·unfold oW;rw[c1,if_neg (λq=>q rfl),he,if_neg (λq=>q.2 (c3 _ (aA (gY.2 q.1)))),if_neg (λq=>q rfl)]
theorem IE{c:List Spx}{k:Nat}{v:List Int}(hc:aB c=0)(hl:c.length<=50)(hf:iS c c.length<=400)(hk:k+1<8)(h:v∈tkC c k):v≠[]/\∃y,qP c (bb (aj c ((k:Int)+1)) v)=([],y,false,0)/\ShC y/\rfT c (bb (aj c ((k:Int)+1)) v) y=0:=by
 have e1:((k+1:Nat):Int)=(k:Int)+1:=by omega
 have hK:=dY (o6 (d:=k) hc hl).1;have hM:=dY (mG (d:=k) hc hl);have hn:=Hw hM hK (aM _) v h;have h0:v≠[]:=λe=>hn (by rw[e];exact .nil);obtain⟨k1,k2,k3,k4,k5,-⟩:=ir hc hl hf (by omega) (CX hc hl h);refine⟨h0,?_⟩;rcases EF hc hl hf (a:=bb (aj c ((k:Int)+1)) v) (by rw[k5]) with⟨b,q1,q2,q3,-⟩|⟨y,q1,q2,q3,-⟩
 rotate_left
 ·exact⟨y,q1,q2,q3⟩
 exfalso;obtain⟨v',w,p1,p2,p3,p4⟩:=Ff q3;rw[k1] at p1;cases p1;have ha0:bb (aj c ((k:Int)+1)) v≠[]:=λe=>h0 (List.map_eq_nil_iff.1 e);have hb0:b≠[]:=λe=>by subst e;exact ha0 p4.symm
 have hlb:=p3 ha0 hb0;have hla:bG (bb (aj c ((k:Int)+1)) v)=k+1:=k3 _ (aA (gY.2 ha0));rw[hla] at hlb;obtain⟨-,hcb,-,-,wa,wr⟩:=cw p2;have hpk:=zb p2;rw[hlb,show((k+1+1:Nat):Int)=((k+1:Nat):Int)+1 by omega] at hpk wr;obtain⟨-,-,-,-,-,c6,-⟩:=gG (k:=k+1) hc hl hf hk wa wr;rw[<-hpk,p4,k1] at c6;have e:=congrArg Prod.fst c6;dsimp only at e;rw[e1] at e;have hV:VR _ _:=dY (lG (c:=c) (d:=k+1) hc hl);unfold bdN at hV;rw[e1] at hV;have:=Gb hV wa;rw[<-e] at this;exact hn this
theorem xN{X:List Spx}{v:List Int}{s:Spx}(hX:X.Nodup)(hv:∀z∈v,0<=z/\z<(X.length:Int))(hs:s∈X):s∈bb X v↔((X.idxOf s:Nat):Int)∈v:=by
 unfold bb;rw[bz];constructor
 ·rintro⟨z,hz,e⟩;have:=hv z hz;rw[CK hX (k:=z.toNat) (by omega) e]
  rwa [Int.toNat_of_nonneg this.1]
 ·intro h;exact⟨_,h,by rw[bN];exact(jE hs).2⟩
theorem tT{X:List Spx}{v:List Int}(hv:∀z∈v,0<=z/\z<(X.length:Int)):∀s∈bb X v,s∈X:=λs hs=>by
 unfold bb at hs;obtain⟨z,hz,rfl⟩:=bz.1 hs;have:=hv z hz;exact aA (by omega)
theorem HD{c:List Spx}{k:Nat}{v w:List Int}(hc:aB c=0)(hl:c.length<=50)(hf:iS c c.length<=400)(hk:k<8)(h1:KerV (b7 (aj c ((k:Int)+1)) (aj c k)) (bdN c k) v)(h2:KerV (b7 (aj c ((k:Int)+1)) (aj c k)) (bdN c k) w):
    DN (bb (aj c ((k:Int)+1)) v) (bb (aj c ((k:Int)+1)) w)=(bb (aj c ((k:Int)+1)) (bV v w),0):=by
 have h3:=sH h1 h2;obtain⟨a1,-,a3,-⟩:=ir hc hl hf hk h1;obtain⟨b1,-,b3,-⟩:=ir hc hl hf hk h2;obtain⟨d1,-⟩:=ir hc hl hf hk h3;obtain⟨-,ea,-⟩:=cw a1;obtain⟨-,eb,-⟩:=cw b1;obtain⟨-,ed,-⟩:=cw d1;have hn:(aj c ((k:Int)+1)).Nodup:=bR.nodup ie jD;have hfr:=vo hc (d:=(k:Int)+1);have l1:=eT h1.asc h1.rng;have l2:=eT h2.asc h2.rng;unfold bdN at l1 l2;have p1:=(dL ea).2.2.1;have p2:=(dL eb).2.2.1;have p3:=(dL ed).2.2.1
 have e:eO bo (bb (aj c ((k:Int)+1)) v) (bb (aj c ((k:Int)+1)) w)=bb (aj c ((k:Int)+1)) (bV v w):=by
  refine lB ie (CJ ie p1 p2) p3 λs=>?_;rw[xQ ie p1 p2];by_cases hs:s∈aj c ((k:Int)+1)
  ·rw[xN hn h1.rng hs,xN hn h2.rng hs,xN hn h3.rng hs,cW h1.asc h2.asc]
  ·have n1:s∉bb (aj c ((k:Int)+1)) v:=λq=>hs (tT h1.rng s q);have n2:s∉bb (aj c ((k:Int)+1)) w:=λq=>hs (tT h2.rng s q);have n3:s∉bb (aj c ((k:Int)+1)) (bV v w):=λq=>hs (tT h3.rng s q);simp only[n1,n2,n3,false_and,or_false]
 rw[<-e];refine Iq ea eb (HY a3 b3) ?_;unfold bb;rw[bm,bm];omega
theorem GI{c:List Spx}{k:Nat}(hc:aB c=0)(hl:c.length<=50)(hf:iS c c.length<=400)(hk:k<8){L:List (List Int)}(hL:∀v∈L,KerV (b7 (aj c ((k:Int)+1)) (aj c k)) (bdN c k) v)(hn:L.length<=1024):
    FT c k (L.map (bb (aj c ((k:Int)+1))))=(qh c k L,0):=by
 have e:gK c (L.map (bb (aj c ((k:Int)+1))))=L:=by
  unfold gK;rw[List.map_map];refine(o0 λv hv=>?_).trans (List.map_id L);show(dF c (bb (aj c ((k:Int)+1)) v)).1=v;rw[(ir hc hl hf hk (hL v hv)).1]
 have e2:D2 c k (L.map (bb (aj c ((k:Int)+1))))=0:=c9 λi hi=>by
  obtain⟨v,hv,e⟩:=bz.1 (aA hi);rw[<-e];exact(ir hc hl hf hk (hL v hv)).2.2.2.2.2.2
 unfold FT;rw[if_neg (by rw[bm];omega),e2,if_neg (λq=>q rfl),e]
theorem IR{c:List Spx}{k:Nat}:qh c k (tkC c k)=true:=a6 mc
theorem F0{c:List Spx}{k:Nat}{v:List Int}(hc:aB c=0)(hl:c.length<=50)(h:KerV (b7 (aj c ((k:Int)+1)) (aj c k)) (bdN c k) v)(hs:Sp (bdM c k++tkC c k) v):qh c k (tkC c k++[v])=false:=by
 have hM:=dY (mG (d:=k) hc hl);have hV:=hM.app (GH (k:=k) hc hl);refine ba λq=>?_;have hfr:rk (bdM c k++tkC c k) (bdN c k)=rk (bdM c k) (bdN c k)+(tkC c k).length:=mc;rcases kj hV h.asc h.rng with⟨_,e⟩|⟨e,_⟩
 ·rw[i9] at e;rw[e,hfr,cP] at q;simp only[br,dw] at q;omega
 ·exact e hs
section
attribute [local irreducible] aO am bf aZ aR aS aE aU a5 bk Go.Abs.Fn aY Go.Abs.Pure au aN Yl
section
variable{α:Type}[Inhabited α]{f:α->AV}{K:α->α->Int}{G:α->Prop}
theorem Gv(hc:CmpO Tryz.prog f K G){L:List α}{H:Hp}{b nx n a lo hi:Nat}(hH:H b=some (L.map f))(hn:L.length=n)(hG:∀x∈L,G x)(hhi:a+hi<=n)(hn2:n<=1000000000)(hlo:lo<=n)(hheap:gf K a hi (lo+1) L):
    Abs.Fn Tryz.prog 205 [.msl b n 1 0 n,.int .i64 lo,.int .i64 hi,.int .i64 a] H nx λr H' nx'=>nx'=nx/\∃L',H'=ar H b (L'.map f)/\PermR a (a+hi) L L'/\gf K a hi lo L':=by
 refine fO Nh ?_;simp only[NI,aL];refine wnZ and_self ?_;refine bF (X:=Nat×List α) (λx=>[(0,.msl b n 1 0 n),(2,.int .i64 hi),(3,.int .i64 a),(8,.int .i64 (x.1:Nat))]) (λx H' nx'=>x.1<=n/\H'=ar H b (x.2.map f)/\nx'=nx/\PermR a (a+hi) L x.2/\SiftR K a hi lo x.1 x.2) (λx=>n+1-x.1) (lo,L) ⟨hlo,gx hH,rfl,.refl,.start hheap⟩ ag0 ?_;rintro⟨root,M⟩ H' nx' ⟨h0,rfl,rfl,hp,hs⟩;dsimp only at *;have hl:M.length=n:=by rw[hp.len,hn]
 have hGM:=hp.mem hG;by_cases hch:2*root+1<hi
 rotate_left
 ·refine wnZ and_self ?_;exact⟨rfl,M,rfl,hp,hs.leaf (by omega)⟩
 have tch:(2:Int)*(root:Int)+1=((2*root+1:Nat):Int):=by omega
 have tch2:((2*root+1:Nat):Int)+1=((2*root+1+1:Nat):Int):=by omega
 have w1:IntKind.wrap .i64 (2*(root:Int))=2*(root:Int):=uB (by omega) (by omega)
 obtain⟨c,hkid,hchi,hbest,hsel⟩:∃c,Kid root c/\c<hi/\(∀d,Kid root d->d<hi->¬K (M.getD (a+c) default) (M.getD (a+d) default)<0)/\((c=2*root+1+1/\K (M.getD (a+(2*root+1)) default) (M.getD (a+(2*root+1+1)) default)<0)\/(c=2*root+1/\(2*root+1+1<hi->¬K (M.getD (a+(2*root+1)) default) (M.getD (a+(2*root+1+1)) default)<0))):=by
  by_cases h2:2*root+1+1<hi/\K (M.getD (a+(2*root+1)) default) (M.getD (a+(2*root+1+1)) default)<0
  ·refine⟨2*root+1+1,.inr rfl,h2.1,λd hd hd2=>?_,.inl ⟨rfl,h2.2⟩⟩;rcases hd with rfl|rfl
   ·exact hc.ord.asym _ _ h2.2
   ·exact hc.ord.irr _
  ·refine⟨2*root+1,.inl rfl,hch,λd hd hd2=>?_,.inr ⟨rfl,λh h3=>h2 ⟨h,h3⟩⟩⟩;rcases hd with rfl|rfl
   ·exact hc.ord.irr _
   ·exact λh3=>h2 ⟨hd2,h3⟩
 have lc2:=hc.run (M.getD (a+root) default) (M.getD (a+c) default) (hGM _ (aK (by omega))) (hGM _ (aK (by omega)));have e1:=hc.dat (M.getD (a+root) default);have e2:=hc.dat (M.getD (a+c) default);generalize hK2:K (M.getD (a+root) default) (M.getD (a+c) default)=k2 at lc2;refine gv ?_;refine bn (λT H'' nx''=>T 0=.msl b n 1 0 n/\T 2=.int .i64 hi/\T 3=.int .i64 a/\n=n/\T 8=.int .i64 (root:Nat)/\T 9=.int .i64 ((2*root+1:Nat):Int)/\H''=ar H b (M.map f)/\nx'=nx'') ?_ ?_
 ·refine wnZ (aI @w1 @tch) ?_;exact⟨rfl,rfl,rfl,rfl,rfl,rfl,rfl,rfl⟩
 rintro T _ _ ⟨t0,t2,t3,tF,t8,t9,rfl,rfl⟩;refine bn (λT H'' nx''=>T 0=.msl b n 1 0 n/\T 2=.int .i64 hi/\T 3=.int .i64 a/\n=n/\T 8=.int .i64 (root:Nat)/\T 9=.int .i64 ((2*root+1:Nat):Int)/\H''=ar H b (M.map f)/\nx'=nx'') ?_ ?_
 ·refine wnZ (zI6 @t0 @t2 @t3 @tF @t8 @t9) ?_
  all_goals exact⟨(have zz:=@t0;evZ),(have zz:=@t2;evZ),(have zz:=@t3;evZ),(have zz:=@tF;evZ),(have zz:=@t8;evZ),(have zz:=@t9;evZ),rfl,rfl⟩
 clear t0 t2 t3 tF t8 t9;rintro T _ _ ⟨t0,t2,t3,tF,t8,t9,rfl,rfl⟩;refine bn (λT H'' nx''=>T 0=.msl b n 1 0 n/\T 2=.int .i64 hi/\T 3=.int .i64 a/\n=n/\T 8=.int .i64 (root:Nat)/\T 9=.int .i64 (c:Nat)/\H''=ar H b (M.map f)/\nx'=nx'') ?_ ?_
 ·by_cases h2:2*root+1+1<hi
  ·have lc1:=hc.run (M.getD (a+(2*root+1)) default) (M.getD (a+(2*root+1+1)) default) (hGM _ (aK (by omega))) (hGM _ (aK (by omega)));have e3:=hc.dat (M.getD (a+(2*root+1)) default);have e4:=hc.dat (M.getD (a+(2*root+1+1)) default);generalize hK1:K (M.getD (a+(2*root+1)) default) (M.getD (a+(2*root+1+1)) default)=k1 at lc1 hsel;have hlt:decide (((2*root+1+1:Nat):Int)<(hi:Int))=true:=a6 (by omega);generalize 2*root+1=ch at *;rcases hsel with⟨rfl,hk1⟩|⟨rfl,hk1⟩
   ·refine wkZ (aI @t0 (aI @t2 (dH @t3 @tF @t8 @t9 @tch2 @hlt @dQ @kd hc.cells hc.one))) ?_
    all_goals exact⟨(have zz:=@t0;evZ),(have zz:=@t2;evZ),(have zz:=@t3;evZ),(have zz:=@tF;evZ),(have zz:=@t8;evZ),(have zz:=@t9;evZ),rfl,rfl⟩
   ·have hk1:=hk1 h2;refine wkZ (aI @t0 (aI @t2 (dH @t3 @tF @t8 @t9 @tch2 @hlt @dQ @kd hc.cells hc.one))) ?_
    all_goals exact⟨(have zz:=@t0;evZ),(have zz:=@t2;evZ),(have zz:=@t3;evZ),(have zz:=@tF;evZ),(have zz:=@t8;evZ),(have zz:=@t9;evZ),rfl,rfl⟩
  ·have hlt:decide (((2*root+1+1:Nat):Int)<(hi:Int))=false:=ba (by omega)
   have hcc:c=2*root+1:=by
    rcases hsel with⟨rfl,_⟩|⟨rfl,_⟩
    ·omega
    ·rfl
   subst hcc;refine wkZ (zI8 @t0 @t2 @t3 @tF @t8 @t9 @tch2 @hlt) ?_
   all_goals exact⟨(have zz:=@t0;evZ),(have zz:=@t2;evZ),(have zz:=@t3;evZ),(have zz:=@tF;evZ),(have zz:=@t8;evZ),(have zz:=@t9;evZ),rfl,rfl⟩
 clear t0 t2 t3 tF t8 t9 hsel;rintro T _ _ ⟨t0,t2,t3,tF,t8,t9,rfl,rfl⟩;by_cases hk2:k2<0
 ·obtain⟨M1,hl1,lm1,lm2⟩:=bW (f:=f) (M:=M) (i:=a+root) (j:=a+c) (by omega) (by omega);have lm3:=lm2;simp only[bC,br,dw,bP] at lm1 lm2;refine wkZ (aI @t0 (dH @t2 @t3 @tF @t8 @t9 @dQ @lm1 @lm2 hc.cells hc.one)) ?_;have hrc:root<c:=by unfold Kid at hkid;omega
  have hcn:c<n:=by omega
  refine⟨(c,swp M (a+root) (a+c)),by dsimp only;omega,⟨by dsimp only;omega,?_,rfl,hp.trans (PermR.swap (by omega) (by omega) (by omega)),hs.step hc.ord hkid hchi (by omega) hbest (by rw[hK2];exact hk2)⟩,(have zz:=aI @t0 (aI @t2 (aI @t3 @tF));agZ)⟩;dsimp only;rw[aC,aC,lm3]
 ·refine wkZ (zI9 @t0 @t2 @t3 @tF @t8 @t9 @dQ hc.cells hc.one) ?_;exact⟨rfl,M,rfl,hp,hs.stop hc.ord hbest (by rw[hK2];exact hk2)⟩
end
section
variable{α:Type}[Inhabited α]{f:α->AV}{K:α->α->Int}{G:α->Prop}
theorem Lm(hc:CmpO Tryz.prog f K G){L:List α}{H:Hp}{b nx n a e:Nat}(hH:H b=some (L.map f))(hn:L.length=n)(hG:∀x∈L,G x)(hae:a<=e)(hen:e<=n)(hn2:n<=1000000000):
    Abs.Fn Tryz.prog 190 [.msl b n 1 0 n,.int .i64 a,.int .i64 e] H nx λr H' nx'=>nx'=nx/\∃L',H'=ar H b (L'.map f)/\PermR a e L L'/\bh K a e L':=by
 obtain⟨h,rfl⟩:∃h,e=a+h:=⟨e-a,by omega⟩
 refine fO N3 ?_;simp only[Oz,aL];have te:((a+h:Nat):Int)-(a:Int)=(h:Int):=by omega
 obtain⟨r,tr,hr,hrn⟩:∃r:Nat,bv .quo false false (.int .i64 ((h:Int)-1)) (.int .i64 2)=some (.int .i64 (r:Int))/\h<=2*(r+1)+1/\r<=h:=by
  rcases vA h with e|e
  ·subst e;exact⟨0,rfl,by omega,by omega⟩
  ·refine⟨(h-1)/2,?_,by omega,by omega⟩;rw[jr (by omega) (by omega) (by omega)]
   congr 2
   omega
 refine wnZ (aI @te @tr) ?_;refine bF (X:=Nat×List α) (λx=>[(0,.msl b n 1 0 n),(1,.int .i64 a),(6,.int .i64 a),(7,.int .i64 0),(8,.int .i64 h),(9,.int .i64 ((x.1:Nat)-1))]) (λx H' nxx=>x.1<=n+1/\H'=ar H b (x.2.map f)/\nx=nxx/\PermR a (a+h) L x.2/\gf K a h x.1 x.2) (λx=>x.1) (r+1,L) ⟨by dsimp only;omega,gx hH,rfl,.refl,gf.start (by dsimp only;omega)⟩ (by simp (disch:=omega) only[agr,ZG,reduceEqDiff,↓reduceIte,Int.add_sub_cancel]) ?_;rintro⟨i,M⟩ H' nxx ⟨h1,rfl,rfl,hp,hh⟩;dsimp only at *;have hl:M.length=n:=by rw[hp.len,hn]
 have hGM:=hp.mem hG;rcases vA i with e|e
 ·subst e;refine wnZ and_self ?_;clear hGM;refine bF (X:=Nat×List α) (λx=>[(0,.msl b n 1 0 n),(6,.int .i64 a),(7,.int .i64 0),(10,.int .i64 ((x.1:Nat)-1))]) (λx H' nxx'=>x.1<=h/\H'=ar H b (x.2.map f)/\nx=nxx'/\PermR a (a+h) L x.2/\gf K a x.1 0 x.2/\TailR K a (a+h) (a+x.1) x.2) (λx=>x.1) (h,M) ⟨aM _,rfl,rfl,hp,hh,.start⟩ (by simp (disch:=omega) only[agr,ZG,reduceEqDiff,↓reduceIte,Int.add_sub_cancel]) ?_;clear hp hh hl;rintro⟨i,M⟩ H' nxx ⟨h1,rfl,rfl,hp,hh,ht⟩;dsimp only at *;have hl:M.length=n:=by rw[hp.len,hn]
  have hGM:=hp.mem hG;rcases vA i with e|e
  ·subst e;refine wnZ and_self ?_;exact⟨rfl,M,rfl,hp,ht.done⟩
  ·obtain⟨k,rfl⟩:∃k,i=k+1:=⟨i-1,by omega⟩
   have tj:((k+1:Nat):Int)-1=(k:Int):=by omega
   obtain⟨M1,hl1,lm1,lm2⟩:=bW (f:=f) (M:=M) (i:=a) (j:=a+k) (by omega) (by omega);have lm3:=lm2;simp only[bC,br,dw,bP] at lm1 lm2;have hp1:PermR a (a+h) L (swp M a (a+k)):=hp.trans (PermR.swap (by omega) (by omega) (by omega));have hsl:(swp M a (a+k)).length=n:=by rw[hp1.len,hn]
   refine wnZ (zI6 @tj @dQ @lm1 @lm2 hc.cells hc.one) ?_;refine aQ ev0 (have zz:=aI @tj @Int.natCast_zero;evZ) (Gv hc (b:=b) (L:=swp M a (a+k)) (a:=a) (lo:=0) (hi:=k) (by rw[aC,aC,af,<-lm3]) hsl (hp1.mem hG) (by omega) (by omega) (by omega) (hh.swapTop (by omega))) ?_;rintro _ _ _ ⟨rfl,N,rfl,hpN,hhN⟩;refine wnZ @tj ?_;exact⟨(k,N),by dsimp only;omega,⟨by dsimp only;omega,by dsimp only;rw[aC,aC,aC],rfl,hp1.trans (hpN.mono (aM _) (by omega)),hhN,ht.step hc.ord hh (by omega) (by omega) hpN⟩,ag0⟩
 ·obtain⟨k,rfl⟩:∃k,i=k+1:=⟨i-1,by omega⟩
  have tj:((k+1:Nat):Int)-1=(k:Int):=by omega
  refine wnZ @tj ?_;refine aQ ev0 ev0 (Gv hc (L:=M) (a:=a) (lo:=k) (hi:=h) af hl hGM (by omega) (by omega) (by omega) hh) ?_;rintro _ _ _ ⟨rfl,N,rfl,hpN,hhN⟩;refine wnZ @tj ?_;exact⟨(k,N),by dsimp only;omega,⟨by dsimp only;omega,by dsimp only;rw[aC],rfl,hp.trans hpN,hhN⟩,ag0⟩
end
section
variable{α:Type}[Inhabited α]{f:α->AV}{K:α->α->Int}{G:α->Prop}
theorem OD(hc:CmpO Tryz.prog f K G){L:List α}{H:Hp}{b nx n a e:Nat}(hH:H b=some (L.map f))(hn:L.length=n)(hae:a<e)(hen:e<=n)(hn2:n<=1000000000):
    Abs.Fn Tryz.prog 193 [.msl b n 1 0 n,.int .i64 a,.int .i64 e] H nx λr H' nx'=>nx'=nx/\∃L',H'=ar H b (L'.map f)/\PermR a e L L':=by
 obtain⟨m,rfl⟩:∃m,e=m+1:=⟨e-1,by omega⟩
 have te:((m+1:Nat):Int)-1=(m:Int):=by omega
 refine fO M7 ?_;simp only[Ly,aL];refine wnZ @te ?_;refine bF (X:=Nat×Nat×List α) (λx=>[(0,.msl b n 1 0 n),(6,.int .i64 (x.1:Nat)),(7,.int .i64 (x.2.1:Nat))]) (λx H' nxx=>a<=x.1/\x.2.1<=m/\H'=ar H b (x.2.2.map f)/\nx=nxx/\PermR a (m+1) L x.2.2) (λx=>x.2.1) (a,m,L) ⟨aM _,aM _,gx hH,rfl,.refl⟩ ag0 ?_;rintro⟨i,j,M⟩ H' nxx ⟨h1,h2,rfl,rfl,hp⟩;dsimp only at *;have hl:M.length=n:=by rw[hp.len,hn]
 by_cases hij:i<j
 ·obtain⟨k,rfl⟩:∃k,j=k+1:=⟨j-1,by omega⟩
  have tj:((k+1:Nat):Int)-1=(k:Int):=by omega
  have ti:((i:Nat):Int)+1=((i+1:Nat):Int):=by omega
  obtain⟨M1,hl1,lm1,lm2⟩:=bW (f:=f) (M:=M) (i:=i) (j:=k+1) (by omega) (by omega);have lm3:=lm2;simp only[bC,br,dw,bP] at lm1 lm2;refine wnZ (zI6 @tj @ti @lm1 @lm2 hc.cells hc.one) ?_;exact⟨(i+1,k,swp M i (k+1)),by dsimp only;omega,⟨by dsimp only;omega,by dsimp only;omega,by dsimp only;rw[aC,aC,lm3],rfl,hp.trans (PermR.swap (by omega) (by omega) (by omega))⟩,ag0⟩
 ·refine wnZ and_self ?_;exact⟨rfl,M,rfl,hp⟩
theorem vq(hc:CmpO Tryz.prog f K G){L:List α}{H:Hp}{b c nx n i j s:Nat}(hH:H b=some (L.map f))(hcc:H c=some [.int .i64 (s:Nat)])(hn:L.length=n)(hG:∀x∈L,G x)(hi:i<n)(hj:j<n)(hn2:n<=1000000000)(hs:s<=100):
    Abs.Fn Tryz.prog 210 [.msl b n 1 0 n,.int .i64 i,.int .i64 j,.ptr c 1 0] H nx λr H' nx'=>nx'=nx/\∃i' j' s':Nat,r=.tup [.int .i64 i',.int .i64 j']/\((i'=i/\j'=j)\/(i'=j/\j'=i))/\s'<=s+1/\H'=ar H c [.int .i64 s']:=by
 refine fO My ?_;simp only[L4,aL];have lc:=hc.run (L.getD j default) (L.getD i default) (hG _ (aK (by omega))) (hG _ (aK (by omega)));have e1:=hc.dat (L.getD j default);have e2:=hc.dat (L.getD i default);have ts:((s:Nat):Int)+1=((s+1:Nat):Int):=by omega
 have ls:∀x y:AV,bC [x] 0 [y]=[y]:=λ_ _=>rfl;simp only[bC,br,dw,bP] at ls;generalize hKK:K (L.getD j default) (L.getD i default)=kk at lc;by_cases hlt:kk<0
 ·refine wkZ (zI8 @hH @hcc @bN hc.cells hc.one @ts @ls @SV3) ?_;exact⟨rfl,j,i,s+1,rfl,.inr ⟨rfl,rfl⟩,aM _,rfl⟩
 ·refine wkZ (zI5 @hH @hcc @bN hc.cells hc.one) ?_;exact⟨rfl,i,j,s,rfl,.inl ⟨rfl,rfl⟩,Nat.le_succ _,gx hcc⟩
end
section
variable{α:Type}[Inhabited α]{f:α->AV}{K:α->α->Int}{G:α->Prop}
theorem uf(hc:CmpO Tryz.prog f K G){L:List α}{H:Hp}{b c nx n i j k s lo hi:Nat}(hH:H b=some (L.map f))(hbc:b≠c)(hcc:H c=some [.int .i64 (s:Nat)])(hn:L.length=n)(hG:∀x∈L,G x)(hi1:lo<=i/\i<hi)(hj1:lo<=j/\j<hi)(hk1:lo<=k/\k<hi)(hhi:hi<=n)(hn2:n<=1000000000)(hs:s<=50):
    Abs.Fn Tryz.prog 207 [.msl b n 1 0 n,.int .i64 i,.int .i64 j,.int .i64 k,.ptr c 1 0] H nx λr H' nx'=>nx'=nx/\∃p s':Nat,r=.int .i64 p/\lo<=p/\p<hi/\s'<=s+3/\H'=ar H c [.int .i64 s']:=by
 refine fO LO ?_;simp only[Og,aL];refine wnZ and_self ?_;refine aQ ev0 ev0 (vq hc (b:=b) hH hcc hn hG (i:=i) (j:=j) (by omega) (by omega) hn2 (by omega)) ?_;rintro _ _ _ ⟨rfl,i1,j1,s1,rfl,h1,hs1,rfl⟩;refine wnZ and_self ?_;refine aQ ev0 ev0 (vq hc (b:=b) (by rw[ae hbc];exact hH) af hn hG (i:=j1) (j:=k) (by omega) (by omega) hn2 (by omega)) ?_;rintro _ _ _ ⟨rfl,j2,k2,s2,rfl,h2,hs2,rfl⟩;refine wnZ and_self ?_;refine aQ ev0 ev0 (vq hc (b:=b) (by rw[aC,ae hbc];exact hH) af hn hG (i:=i1) (j:=j2) (by omega) (by omega) hn2 (by omega)) ?_;rintro _ _ _ ⟨rfl,i3,j3,s3,rfl,h3,hs3,rfl⟩;refine wnZ and_self ?_;exact⟨rfl,j3,s3,rfl,by omega,by omega,by omega,by rw[aC,aC]⟩
theorem uu(hc:CmpO Tryz.prog f K G){L:List α}{H:Hp}{b c nx n i s lo hi:Nat}(hH:H b=some (L.map f))(hbc:b≠c)(hcc:H c=some [.int .i64 (s:Nat)])(hn:L.length=n)(hG:∀x∈L,G x)(hi1:lo+1<=i/\i+1<hi)(hhi:hi<=n)(hn2:n<=1000000000)(hs:s<=50):
    Abs.Fn Tryz.prog 206 [.msl b n 1 0 n,.int .i64 i,.ptr c 1 0] H nx λr H' nx'=>nx'=nx/\∃p s':Nat,r=.int .i64 p/\lo<=p/\p<hi/\s'<=s+3/\H'=ar H c [.int .i64 s']:=by
 obtain⟨m,rfl⟩:∃m,i=m+1:=⟨i-1,by omega⟩
 have t1:((m+1:Nat):Int)-1=(m:Int):=by omega
 have t2:((m+1:Nat):Int)+1=((m+1+1:Nat):Int):=by omega
 refine fO MJ ?_;simp only[Nm,aL];refine wnZ (aI @t1 @t2) ?_;refine aQ ev0 ev0 (uf hc (b:=b) hH hbc hcc hn hG (i:=m) (j:=m+1) (k:=m+1+1) (lo:=lo) (hi:=hi) (by omega) (by omega) (by omega) hhi hn2 hs) ?_;rintro _ _ _ ⟨rfl,p,s1,rfl,h1,h2,hs1,rfl⟩;refine wnZ and_self ?_;exact⟨rfl,p,s1,rfl,h1,h2,hs1,rfl⟩
theorem Hc(hc:CmpO Tryz.prog f K G){L:List α}{H:Hp}{b nx n a e:Nat}(hH:H b=some (L.map f))(hbx:b<nx)(hn:L.length=n)(hG:∀x∈L,G x)(hae:a+8<=e)(hen:e<=n)(hn2:n<=1000000000):
    Abs.Fn Tryz.prog 192 [.msl b n 1 0 n,.int .i64 a,.int .i64 e] H nx λr H' nx'=>nx'=nx+1/\∃(p:Nat)(hint:Int)(v:List AV),r=.tup [.int .i64 p,.int .i64 hint]/\a<=p/\p<e/\H'=ar H nx v:=by
 obtain⟨l,rfl⟩:∃l,e=a+l:=⟨e-a,by omega⟩
 have te:((a+l:Nat):Int)-(a:Int)=(l:Int):=by omega
 obtain⟨q,hq⟩:∃q,l/4=q:=⟨_,rfl⟩
 have tq:bv .quo false false (.int .i64 (l:Int)) (.int .i64 4)=some (.int .i64 (q:Int)):=by
  rw[jr (by omega) (by omega) (by omega)]
  congr 2
  omega
 have w1:(a:Int)+(q:Int)*1=((a+q:Nat):Int):=by omega
 have w2:(a:Int)+(q:Int)*2=((a+q*2:Nat):Int):=by omega
 have w3:(a:Int)+(q:Int)*3=((a+q*3:Nat):Int):=by omega
 have hbn:b≠nx:=by omega
 refine fO LG ?_;simp only[Nk,aL];have last:∀(s:Nat)(H1:Hp),H1=ar (ar H nx [.int .i64 0]) nx [.int .i64 s]->H1 nx=some [.int .i64 (s:Nat)]:=λs H1 h=>by rw[h];exact af
 have hHn:∀v,ar H nx v b=some (L.map f):=λv=>by rw[ae hbn];exact hH
 by_cases h50:50<=l
 ·refine wnZ (zI5 @te @tq @w1 @w2 @w3) ?_;refine aQ ev0 ev0 (uu hc (b:=b) (c:=nx) (s:=0) (i:=a+q) (lo:=a) (hi:=a+l) (hHn _) hbn af hn hG (by omega) (by omega) hn2 (by omega)) ?_;rintro _ _ _ ⟨rfl,p1,s1,rfl,k1,k2,hs1,rfl⟩;rw[aC];refine wnZ and_self ?_;refine aQ ev0 ev0 (uu hc (b:=b) (c:=nx) (s:=s1) (i:=a+q*2) (lo:=a) (hi:=a+l) (hHn _) hbn af hn hG (by omega) (by omega) hn2 (by omega)) ?_;rintro _ _ _ ⟨rfl,p2,s2,rfl,k3,k4,hs2,rfl⟩;rw[aC];refine wnZ and_self ?_;refine aQ ev0 ev0 (uu hc (b:=b) (c:=nx) (s:=s2) (i:=a+q*3) (lo:=a) (hi:=a+l) (hHn _) hbn af hn hG (by omega) (by omega) hn2 (by omega)) ?_;rintro _ _ _ ⟨rfl,p3,s3,rfl,k5,k6,hs3,rfl⟩;rw[aC];refine wnZ and_self ?_;refine aQ ev0 ev0 (uf hc (b:=b) (c:=nx) (s:=s3) (i:=p1) (j:=p2) (k:=p3) (lo:=a) (hi:=a+l) (hHn _) hbn af hn hG (by omega) (by omega) (by omega) (by omega) hn2 (by omega)) ?_;rintro _ _ _ ⟨rfl,p4,s4,rfl,k7,k8,hs4,rfl⟩;rw[aC]
  repeat' (first|refine zW ?_|apply a_n|refine zO ?_|refine vZ ?_|(refine zGZ ?_ ?_<;>(intro _hg;try (exfalso;omega)))|refine b0 rfl ?_|refine r2Z ?_|fail)
  all_goals exact⟨rfl,p4,_,_,rfl,by omega,by omega,rfl⟩
 ·refine wnZ (zI5 @te @tq @w1 @w2 @w3) ?_;refine aQ ev0 ev0 (uf hc (b:=b) (c:=nx) (s:=0) (i:=a+q) (j:=a+q*2) (k:=a+q*3) (lo:=a) (hi:=a+l) (hHn _) hbn af hn hG (by omega) (by omega) (by omega) (by omega) hn2 (by omega)) ?_;rintro _ _ _ ⟨rfl,p4,s4,rfl,k7,k8,hs4,rfl⟩;rw[aC]
  repeat' (first|refine zW ?_|apply a_n|refine zO ?_|refine vZ ?_|(refine zGZ ?_ ?_<;>(intro _hg;try (exfalso;omega)))|refine b0 rfl ?_|refine r2Z ?_|fail)
  all_goals exact⟨rfl,p4,_,_,rfl,by omega,by omega,rfl⟩
end
section
variable{α:Type}[Inhabited α]{f:α->AV}{K:α->α->Int}{G:α->Prop}
theorem DU(hc:CmpO Tryz.prog f K G){L:List α}{H:Hp}{b nx n a e:Nat}(hH:H b=some (L.map f))(hn:L.length=n)(hG:∀x∈L,G x)(hae:a<e)(hen:e<=n)(hn2:n<=1000000000)(hlow:sw K a e L):
    Abs.Fn Tryz.prog 194 [.msl b n 1 0 n,.int .i64 a,.int .i64 e] H nx λr H' nx'=>nx'=nx/\∃L' t,r=.bool t/\H'=ar H b (L'.map f)/\PermR a e L L'/\(t=true->bh K a e L'):=by
 refine fO Nn ?_;simp only[Oh,aL];refine wnZ and_self ?_;refine bF (X:=Nat×Nat×List α) (λx=>[(0,.msl b n 1 0 n),(1,.int .i64 a),(2,.int .i64 e),(7,.int .i64 (x.2.1:Nat)),(8,.int .i64 (x.1:Nat))]) (λx H' nxx=>x.1<=5/\a+1<=x.2.1/\x.2.1<=e/\H'=ar H b (x.2.2.map f)/\nx=nxx/\PermR a e L x.2.2/\bh K a x.2.1 x.2.2) (λx=>5-x.1) (0,a+1,L) ⟨by dsimp only;omega,aM _,hae,gx hH,rfl,.refl,bh.one (aM _)⟩ ag0 ?_;rintro⟨jj,i0,M0⟩ H' nxx ⟨h1,h2,h3,rfl,rfl,hp0,hs0⟩;dsimp only at *;by_cases h5:jj=5
 ·subst h5;refine wnZ and_self ?_;exact⟨rfl,M0,false,rfl,rfl,hp0,λh=>absurd h (by decide)⟩
 have hl:M0.length=n:=by rw[hp0.len,hn]
 have hGM:=hp0.mem hG;refine bn (λT H'' nx''=>T 0=.msl b n 1 0 n/\T 1=.int .i64 a/\T 2=.int .i64 e/\n=n/\T 7=.int .i64 (i0:Nat)/\T 8=.int .i64 (jj:Nat)/\H''=ar H b ((M0).map f)/\nx=nx'') ?_ ?_
 ·refine wnZ and_self ?_;exact⟨rfl,rfl,rfl,rfl,rfl,rfl,rfl,rfl⟩
 rintro T _ _ ⟨t0,t1,t2,tF,t7,t8,rfl,rfl⟩;refine bn (λT H'' nx''=>∃(i:Nat)(M:List α),a+1<=i/\i<=e/\PermR a e L M/\bh K a i M/\T 0=.msl b n 1 0 n/\T 1=.int .i64 a/\T 2=.int .i64 e/\n=n/\T 7=.int .i64 (i:Nat)/\T 8=.int .i64 (jj:Nat)/\H''=ar H b ((M).map f)/\nx=nx'') ?_ ?_
 rotate_left
 ·clear t0 t1 t2 tF t7 t8;rintro T _ _ ⟨i,M,k1,k2,hp,hs,t0,t1,t2,tF,t7,t8,rfl,rfl⟩;refine wnZ (zI6 @t0 @t1 @t2 @tF @t7 @t8) ?_;exact⟨(jj+1,i,M),by dsimp only;omega,⟨by dsimp only;omega,k1,k2,rfl,rfl,hp,hs⟩,(have zz:=aI @t0 (aI @t1 (aI @t2 (aI @tF (aI @t7 @t8))));agZ)⟩
 refine gv ?_;refine bn (λT H'' nx''=>∃(i:Nat),a+1<=i/\i<=e/\bh K a i M0/\(i<e->K (M0.getD i default) (M0.getD (i-1) default)<0)/\T 0=.msl b n 1 0 n/\T 1=.int .i64 a/\T 2=.int .i64 e/\n=n/\T 7=.int .i64 (i:Nat)/\T 8=.int .i64 (jj:Nat)/\H''=ar H b ((M0).map f)/\nx=nx'') ?_ ?_
 ·refine wnZ (zI6 @t0 @t1 @t2 @tF @t7 @t8) ?_;refine bF (X:=Nat) (λi=>[(0,.msl b n 1 0 n),(1,.int .i64 a),(2,.int .i64 e),(7,.int .i64 (i:Nat)),(8,.int .i64 (jj:Nat))]) (λi H' nxx=>a+1<=i/\i<=e/\H'=ar H b (M0.map f)/\nx=nxx/\bh K a i M0) (λi=>e-i) i0 ⟨h2,h3,rfl,rfl,hs0⟩ (have zz:=aI @t0 (aI @t1 (aI @t2 (aI @tF (aI @t7 @t8))));agZ) ?_;clear hs0 h2 h3;rintro i H' nxx ⟨h2,h3,rfl,rfl,hs⟩;by_cases hie:i=e
  ·subst hie;refine wkZ and_self ?_;exact⟨i,h2,h3,hs,λh=>absurd h (Nat.lt_irrefl _),rfl,rfl,rfl,rfl,rfl,rfl,rfl,rfl⟩
  obtain⟨m,rfl⟩:∃m,i=m+1:=⟨i-1,by omega⟩
  have tj:((m+1:Nat):Int)-1=(m:Int):=by omega
  have lc:=hc.run (M0.getD (m+1) default) (M0.getD m default) (hGM _ (aK (by omega))) (hGM _ (aK (by omega)));have e1:=hc.dat (M0.getD (m+1) default);have e2:=hc.dat (M0.getD m default);generalize hKK:K (M0.getD (m+1) default) (M0.getD m default)=kk at lc;by_cases hlt:kk<0
  ·refine wkZ (zI4 @tj @bN hc.cells hc.one) ?_;exact⟨m+1,h2,h3,hs,λ_=>by rw[lX,hKK];exact hlt,rfl,rfl,rfl,rfl,rfl,rfl,rfl,rfl⟩
  ·refine wkZ (zI4 @tj @bN hc.cells hc.one) ?_;exact⟨m+1+1,by omega,⟨by omega,by omega,rfl,rfl,hs.snoc hc.ord (by omega) (by rw[lX,hKK];exact hlt)⟩,ag0⟩
 clear t0 t1 t2 tF t7 t8 hs0 h2 h3;rintro T _ _ ⟨i,h2,h3,hs,hless,t0,t1,t2,tF,t7,t8,rfl,rfl⟩;by_cases hie:i=e
 ·subst hie;have ten:decide ((i:Int)=(i:Int))=true:=a6 rfl;refine wnZ (zI7 @t0 @t1 @t2 @tF @t7 @t8 @ten) ?_;exact⟨rfl,M0,true,rfl,rfl,hp0,λ_=>hs⟩
 replace hless:=hless (by omega);have ten:decide ((i:Int)=(e:Int))=false:=ba (by omega);refine bn (λT H'' nx''=>T 0=.msl b n 1 0 n/\T 1=.int .i64 a/\T 2=.int .i64 e/\n=n/\T 7=.int .i64 (i:Nat)/\T 8=.int .i64 (jj:Nat)/\H''=ar H b ((M0).map f)/\nx=nx'') ?_ ?_
 ·refine wnZ (zI7 @t0 @t1 @t2 @tF @t7 @t8 @ten) ?_;exact⟨(have zz:=@t0;evZ),(have zz:=@t1;evZ),(have zz:=@t2;evZ),(have zz:=@tF;evZ),(have zz:=@t7;evZ),(have zz:=@t8;evZ),rfl,rfl⟩
 clear t0 t1 t2 tF t7 t8 ten;rintro T _ _ ⟨t0,t1,t2,tF,t7,t8,rfl,rfl⟩;refine bn (λT H'' nx''=>T 0=.msl b n 1 0 n/\T 1=.int .i64 a/\T 2=.int .i64 e/\n=n/\T 7=.int .i64 (i:Nat)/\T 8=.int .i64 (jj:Nat)/\H''=ar H b ((M0).map f)/\nx=nx'') ?_ ?_
 ·have zz:=aI @t0 (aI @t1 (aI @t2 (aI @tF (aI @t7 @t8))));repeat' (first|refine zW ?_|apply a_n|apply a_r|refine zO ?_|refine vZ ?_|(refine zGZ ?_ ?_<;>(intro _hg;try (exfalso;omega)))|refine b0 rfl ?_|refine r1Z ?_|fail)
  ·exact⟨rfl,M0,false,rfl,rfl,hp0,λh=>absurd h (by decide)⟩
  ·exact⟨(have zz:=@t0;evZ),(have zz:=@t1;evZ),(have zz:=@t2;evZ),(have zz:=@tF;evZ),(have zz:=@t7;evZ),(have zz:=@t8;evZ),rfl,rfl⟩
 clear t0 t1 t2 tF t7 t8;rintro T _ _ ⟨t0,t1,t2,tF,t7,t8,rfl,rfl⟩;obtain⟨m,rfl⟩:∃m,i=m+1:=⟨i-1,by omega⟩
 have tj:((m+1:Nat):Int)-1=(m:Int):=by omega
 rw[lX] at hless;obtain⟨M1,hl1,lm1,lm2⟩:=bW (f:=f) (M:=M0) (i:=m+1) (j:=m) (by omega) (by omega);have lm3:=lm2;simp only[bC,br,dw,bP] at lm1 lm2;refine bn (λT H'' nx''=>T 0=.msl b n 1 0 n/\T 1=.int .i64 a/\T 2=.int .i64 e/\n=n/\T 7=.int .i64 (m+1:Nat)/\T 8=.int .i64 (jj:Nat)/\H''=ar H b ((swp M0 (m+1) m).map f)/\nx=nx'') ?_ ?_
 ·refine wnZ (aI @t0 (aI @t1 (dH @t2 @tF @t7 @t8 @bN hc.cells hc.one @tj @lm1 @lm2))) ?_;exact⟨(have zz:=@t0;evZ),(have zz:=@t1;evZ),(have zz:=@t2;evZ),(have zz:=@tF;evZ),(have zz:=@t7;evZ),(have zz:=@t8;evZ),by rw[aC,aC,lm3],rfl⟩
 clear t0 t1 t2 tF t7 t8;have hp1:PermR a e L (swp M0 (m+1) m):=hp0.trans (PermR.swap (by omega) (by omega) (by omega));have hal:=(fU.start hs).step hc.ord (by omega) (aM _) (by omega) hless;clear hs hless lm1 lm2 lm3 hl1 M1;generalize swp M0 (m+1) m=M2 at hp1 hal;clear hp0 hGM hl;rintro T _ _ ⟨t0,t1,t2,tF,t7,t8,rfl,rfl⟩;refine bn (λT H'' nx''=>∃M:List α,PermR a e L M/\bh K a (m+1) M/\T 0=.msl b n 1 0 n/\T 1=.int .i64 a/\T 2=.int .i64 e/\n=n/\T 7=.int .i64 (m+1:Nat)/\T 8=.int .i64 (jj:Nat)/\H''=ar H b ((M).map f)/\nx=nx'') ?_ ?_
 ·by_cases h2a:m=a
  ·subst h2a;have td:decide ((2:Int)<=((m+1:Nat):Int)-(m:Int))=false:=ba (by omega);refine wnZ (zI7 @t0 @t1 @t2 @tF @t7 @t8 @td) ?_;exact⟨M2,hp1,(hal.done hc.ord (.inl rfl)).mono (aM _) (by omega),(have zz:=@t0;evZ),(have zz:=@t1;evZ),(have zz:=@t2;evZ),(have zz:=@tF;evZ),(have zz:=@t7;evZ),(have zz:=@t8;evZ),rfl,rfl⟩
  have td:decide ((2:Int)<=((m+1:Nat):Int)-(a:Int))=true:=a6 (by omega);refine wnZ (zI8 @t0 @t1 @t2 @tF @t7 @t8 @td @tj) ?_;refine bF (X:=Nat×List α) (λx=>[(0,.msl b n 1 0 n),(1,.int .i64 a),(2,.int .i64 e),(7,.int .i64 (m+1:Nat)),(8,.int .i64 (jj:Nat)),(9,.int .i64 (x.1:Nat))]) (λx H' nxx=>a<=x.1/\x.1<=m/\H'=ar H b (x.2.map f)/\nx=nxx/\PermR a e L x.2/\fU K a (m+1) x.1 x.2) (λx=>x.1) (m,M2) ⟨by dsimp only;omega,aM _,rfl,rfl,hp1,hal⟩ (have zz:=aI @t0 (aI @t1 (aI @t2 (aI @tF (aI @t7 @t8))));agZ) ?_;clear t0 t1 t2 tF t7 t8 hp1 hal M2;rintro⟨j,M⟩ H' nxx ⟨a1,a2,rfl,rfl,hp,hal⟩;dsimp only at *;have hl:M.length=n:=by rw[hp.len,hn]
  have hGM:=hp.mem hG;rcases vA j with ej|ej
  ·subst ej;refine wnZ and_self ?_;exact⟨M,hp,(hal.done hc.ord (.inl (by omega))).mono (aM _) (by omega),rfl,rfl,rfl,rfl,rfl,rfl,rfl,rfl⟩
  obtain⟨k,rfl⟩:∃k,j=k+1:=⟨j-1,by omega⟩
  have tk:((k+1:Nat):Int)-1=(k:Int):=by omega
  have lc:=hc.run (M.getD (k+1) default) (M.getD k default) (hGM _ (aK (by omega))) (hGM _ (aK (by omega)));have e1:=hc.dat (M.getD (k+1) default);have e2:=hc.dat (M.getD k default);have hlw:=hlow.perm hp (by omega) (by omega);generalize hKK:K (M.getD (k+1) default) (M.getD k default)=kk at lc;by_cases hlt:kk<0
  ·have hak:k+1≠a:=λh=>by
     subst h;have:=hlw (k+1) (by omega) (aM _) (by omega);rw[lX,hKK] at this;exact this hlt
   obtain⟨M1,hl1,lm1,lm2⟩:=bW (f:=f) (M:=M) (i:=k+1) (j:=k) (by omega) (by omega);have lm3:=lm2;simp only[bC,br,dw,bP] at lm1 lm2;refine wkZ (zI6 @tk @bN hc.cells hc.one @lm1 @lm2) ?_;exact⟨(k,swp M (k+1) k),by dsimp only;omega,⟨by dsimp only;omega,by dsimp only;omega,by dsimp only;rw[aC,aC,lm3],rfl,hp.trans (PermR.swap (by omega) (by omega) (by omega)),hal.step hc.ord (by omega) (by omega) (by omega) (by rw[hKK];exact hlt)⟩,(have zz:=@tk;agZ)⟩
  ·have hd:k+1=a\/(a<k+1/\¬K (M.getD (k+1) default) (M.getD (k+1-1) default)<0):=by
     by_cases h:k+1=a
     ·exact .inl h
     ·exact .inr ⟨by omega,by rw[lX,hKK];exact hlt⟩
   refine wkZ (zI4 @tk @bN hc.cells hc.one) ?_;exact⟨M,hp,(hal.done hc.ord hd).mono (aM _) (by omega),rfl,rfl,rfl,rfl,rfl,rfl,rfl,rfl⟩
 clear t0 t1 t2 tF t7 t8 hp1 hal M2;rintro T _ _ ⟨M2,hp1,hs,t0,t1,t2,tF,t7,t8,rfl,rfl⟩;by_cases h2a:m+1+2<=e
 rotate_left
 ·have td:decide ((2:Int)<=(e:Int)-((m+1:Nat):Int))=false:=ba (by omega);refine wnZ (zI7 @t0 @t1 @t2 @tF @t7 @t8 @td) ?_;exact⟨m+1,M2,h2,h3,hp1,hs,(have zz:=@t0;evZ),(have zz:=@t1;evZ),(have zz:=@t2;evZ),(have zz:=@tF;evZ),(have zz:=@t7;evZ),(have zz:=@t8;evZ),rfl,rfl⟩
 have td:decide ((2:Int)<=(e:Int)-((m+1:Nat):Int))=true:=a6 (by omega);have tj2:((m+1:Nat):Int)+1=((m+1+1:Nat):Int):=by omega
 refine wnZ (zI8 @t0 @t1 @t2 @tF @t7 @t8 @td @tj2) ?_;refine bF (X:=Nat×List α) (λx=>[(0,.msl b n 1 0 n),(1,.int .i64 a),(2,.int .i64 e),(7,.int .i64 (m+1:Nat)),(8,.int .i64 (jj:Nat)),(10,.int .i64 (x.1:Nat))]) (λx H' nxx=>m+1+1<=x.1/\x.1<=e/\H'=ar H b (x.2.map f)/\nx=nxx/\PermR a e L x.2/\bh K a (m+1) x.2) (λx=>e-x.1) (m+1+1,M2) ⟨aM _,by dsimp only;omega,rfl,rfl,hp1,hs⟩ (have zz:=aI @t0 (aI @t1 (aI @t2 (aI @tF (aI @t7 @t8))));agZ) ?_;clear t0 t1 t2 tF t7 t8 hp1 hs M2;rintro⟨j,M⟩ H' nxx ⟨a1,a2,rfl,rfl,hp,hs⟩;dsimp only at *;have hl:M.length=n:=by rw[hp.len,hn]
 have hGM:=hp.mem hG;by_cases hje:j=e
 ·subst hje;refine wnZ and_self ?_;exact⟨m+1,M,h2,h3,hp,hs,rfl,rfl,rfl,rfl,rfl,rfl,rfl,rfl⟩
 obtain⟨k,rfl⟩:∃k,j=k+1:=⟨j-1,by omega⟩
 have tk:((k+1:Nat):Int)-1=(k:Int):=by omega
 have lc:=hc.run (M.getD (k+1) default) (M.getD k default) (hGM _ (aK (by omega))) (hGM _ (aK (by omega)));have e1:=hc.dat (M.getD (k+1) default);have e2:=hc.dat (M.getD k default);generalize hKK:K (M.getD (k+1) default) (M.getD k default)=kk at lc;by_cases hlt:kk<0
 ·obtain⟨M1,hl1,lm1,lm2⟩:=bW (f:=f) (M:=M) (i:=k+1) (j:=k) (by omega) (by omega);have lm3:=lm2;simp only[bC,br,dw,bP] at lm1 lm2;refine wkZ (zI6 @tk @bN hc.cells hc.one @lm1 @lm2) ?_;exact⟨(k+1+1,swp M (k+1) k),by dsimp only;omega,⟨by dsimp only;omega,by dsimp only;omega,by dsimp only;rw[aC,aC,lm3],rfl,hp.trans (PermR.swap (by omega) (by omega) (by omega)),hs.out (e:=e) (PermR.swap (by omega) (by omega) (by omega))⟩,ag0⟩
 ·refine wkZ (zI4 @tk @bN hc.cells hc.one) ?_;exact⟨m+1,M,h2,h3,hp,hs,rfl,rfl,rfl,rfl,rfl,rfl,rfl,rfl⟩
end
section
variable{α:Type}[Inhabited α]{f:α->AV}{K:α->α->Int}{G:α->Prop}
theorem Ha(hc:CmpO Tryz.prog f K G){L:List α}{H:Hp}{b nx n a e pv:Nat}(hH:H b=some (L.map f))(hn:L.length=n)(hG:∀x∈L,G x)(hae:a<e)(hen:e<=n)(hn2:n<=1000000000)(hpv:a<=pv/\pv<e):
    Abs.Fn Tryz.prog 195 [.msl b n 1 0 n,.int .i64 a,.int .i64 e,.int .i64 pv] H nx λr H' nx'=>nx'=nx/\∃(L':List α)(m:Nat),r=.int .i64 m/\a<m/\m<=e/\H'=ar H b (L'.map f)/\PermR a e L L'/\(∀p,a<=p->p<m->¬K (L.getD pv default) (L'.getD p default)<0)/\(∀q,m<=q->q<e->K (L.getD pv default) (L'.getD q default)<0):=by
 obtain⟨v,hv0⟩:∃v,L.getD pv default=v:=⟨_,rfl⟩
 rw[hv0];obtain⟨P,hP⟩:∃P:α->Prop,∀x,P x↔ ¬K v x<0:=⟨_,λ_=>Iff.rfl⟩
 obtain⟨N,hN⟩:∃N,swp L a pv=N:=⟨_,rfl⟩
 have hp1:PermR a e L N:=hN▸PermR.swap (by omega) (by omega) (by omega)
 have hv1:N.getD a default=v:=by
  rw[<-hN,eP (by omega) (by omega),<-hv0];split
  ·rename_i h;rw[h]
  ·rw[if_pos rfl]
 obtain⟨M1,hl1,lm1,lm2⟩:=bW (f:=f) (M:=L) (i:=a) (j:=pv) (by omega) (by omega);rw[hN] at lm2;have lm3:=lm2;simp only[bC,br,dw,bP] at lm1 lm2;obtain⟨m,hm⟩:∃m,e=m+1:=⟨e-1,by omega⟩
 have te:(e:Int)-1=(m:Int):=by omega
 have ta:((a:Nat):Int)+1=((a+1:Nat):Int):=by omega
 refine fO MM ?_;simp only[MZ,aL];refine wnZ (zI8 @hH @te @ta @bN hc.cells hc.one @lm1 @lm2) ?_;refine bF (X:=Nat×Nat×List α) (λx=>[(0,.msl b n 1 0 n),(1,.int .i64 a),(9,.int .i64 (x.1:Nat)),(10,.int .i64 (x.2.1:Nat))]) (λx H' nxx=>PartR P a e (x.2.1+1-x.1) x.1 x.2.1 x.2.2/\H'=ar H b (x.2.2.map f)/\nx=nxx/\PermR a e L x.2.2/\x.2.2.getD a default=v) (λx=>x.2.1+1-x.1) (a+1,m,N) ⟨by dsimp only;rw[hm];exact .start (by omega),by dsimp only;rw[aC,lm3],rfl,hp1,hv1⟩ ag0 ?_;clear lm1 lm2 lm3 hl1 M1 hp1 hv1 hN N te ta hm m;rintro⟨i,j,M⟩ H' nxx ⟨hpt,rfl,rfl,hp,hv⟩;dsimp only at *;have hl:M.length=n:=by rw[hp.len,hn]
 have hGM:=hp.mem hG;generalize hmu:j+1-i=mu at hpt |-;clear hmu;obtain⟨T,hT,t0,t1,tF,t9,t10⟩:∃T,tl [(0,.msl b n 1 0 n),(1,.int .i64 a),(9,.int .i64 (i:Nat)),(10,.int .i64 (j:Nat))]=T/\T 0=.msl b n 1 0 n/\T 1=.int .i64 a/\n=n/\T 9=.int .i64 (i:Nat)/\T 10=.int .i64 (j:Nat):=⟨_,rfl,rfl,rfl,rfl,rfl,rfl⟩
 rw[hT];clear hT;refine gv ?_;refine bn (λT H'' nx''=>∃i:Nat,PartR P a e mu i j M/\(i<=j->¬P (M.getD i default))/\T 0=.msl b n 1 0 n/\T 1=.int .i64 a/\n=n/\T 9=.int .i64 (i:Nat)/\T 10=.int .i64 (j:Nat)/\H''=ar H b ((M).map f)/\nx=nx'') ?_ ?_
 ·refine wnZ (zI5 @t0 @t1 @tF @t9 @t10) ?_;refine bF (X:=Nat) (λi=>[(0,.msl b n 1 0 n),(1,.int .i64 a),(9,.int .i64 (i:Nat)),(10,.int .i64 (j:Nat))]) (λi H' nxx=>PartR P a e mu i j M/\H'=ar H b (M.map f)/\nx=nxx) (λi=>j+1-i) i ⟨hpt,rfl,rfl⟩ (have zz:=aI @t0 (aI @t1 (aI @tF (aI @t9 @t10)));agZ) ?_;clear t0 t1 tF t9 t10 hpt i;rintro i H' nxx ⟨hpt,rfl,rfl⟩;have hlo:=hpt.lo;have hmid:=hpt.mid;have hhi:=hpt.hi;have ii:((i:Nat):Int)+1=((i+1:Nat):Int):=by omega
  by_cases hij:j<i
  ·refine wkZ and_self ?_;exact⟨i,hpt,λh=>absurd h (by omega),rfl,rfl,rfl,rfl,rfl,rfl,rfl⟩
  have lc:=hc.run (M.getD (a) default) (M.getD (i) default) (hGM _ (aK (by omega))) (hGM _ (aK (by omega)));have e1:=hc.dat (M.getD (a) default);have e2:=hc.dat (M.getD (i) default);have hPk:P (M.getD (i) default)↔ ¬K (M.getD (a) default) (M.getD (i) default)<0:=by rw[hP,hv]
  generalize hKK:K (M.getD (a) default) (M.getD (i) default)=kk at lc hPk;by_cases hlt:kk<0
  ·refine wkZ (zI4 @ii @bN hc.cells hc.one) ?_;exact⟨i,hpt,λ_=>(by rw[hPk];first|exact hlt|exact λh=>h hlt),rfl,rfl,rfl,rfl,rfl,rfl,rfl⟩
  ·refine wkZ (zI4 @ii @bN hc.cells hc.one) ?_;exact⟨i+1,by omega,⟨hpt.stepUp (by omega) (by rw[hPk];exact hlt),rfl,rfl⟩,ag0⟩
 clear t0 t1 tF t9 t10 hpt i;rintro T _ _ ⟨i,hpt,hni,t0,t1,tF,t9,t10,rfl,rfl⟩;refine bn (λT H'' nx''=>∃j:Nat,PartR P a e mu i j M/\(i<=j->¬P (M.getD i default))/\(i<=j->P (M.getD j default))/\T 0=.msl b n 1 0 n/\T 1=.int .i64 a/\n=n/\T 9=.int .i64 (i:Nat)/\T 10=.int .i64 (j:Nat)/\H''=ar H b ((M).map f)/\nx=nx'') ?_ ?_
 ·refine wnZ (zI5 @t0 @t1 @tF @t9 @t10) ?_;refine bF (X:=Nat) (λj=>[(0,.msl b n 1 0 n),(1,.int .i64 a),(9,.int .i64 (i:Nat)),(10,.int .i64 (j:Nat))]) (λj H' nxx=>PartR P a e mu i j M/\(i<=j->¬P (M.getD i default))/\H'=ar H b (M.map f)/\nx=nxx) (λj=>j) j ⟨hpt,hni,rfl,rfl⟩ (have zz:=aI @t0 (aI @t1 (aI @tF (aI @t9 @t10)));agZ) ?_;clear t0 t1 tF t9 t10 hpt hni j;rintro j H' nxx ⟨hpt,hni,rfl,rfl⟩;have hlo:=hpt.lo;have hmid:=hpt.mid;have hhi:=hpt.hi;by_cases hij:j<i
  ·refine wkZ and_self ?_;exact⟨j,hpt,hni,λh=>absurd h (by omega),rfl,rfl,rfl,rfl,rfl,rfl,rfl⟩
  obtain⟨k,rfl⟩:∃k,j=k+1:=⟨j-1,by omega⟩
  have tk:((k+1:Nat):Int)-1=(k:Int):=by omega
  have lc:=hc.run (M.getD (a) default) (M.getD (k+1) default) (hGM _ (aK (by omega))) (hGM _ (aK (by omega)));have e1:=hc.dat (M.getD (a) default);have e2:=hc.dat (M.getD (k+1) default);have hPk:P (M.getD (k+1) default)↔ ¬K (M.getD (a) default) (M.getD (k+1) default)<0:=by rw[hP,hv]
  generalize hKK:K (M.getD (a) default) (M.getD (k+1) default)=kk at lc hPk;by_cases hlt:kk<0
  ·refine wkZ (zI4 @tk @bN hc.cells hc.one) ?_;exact⟨k,by omega,⟨hpt.stepDn (by omega) (by rw[hPk];first|exact hlt|exact λh=>h hlt),λ_=>hni (by omega),rfl,rfl⟩,ag0⟩
  ·refine wkZ (zI4 @tk @bN hc.cells hc.one) ?_;exact⟨k+1,hpt,hni,λ_=>(by rw[hPk];exact hlt),rfl,rfl,rfl,rfl,rfl,rfl,rfl⟩
 clear t0 t1 tF t9 t10 hpt hni j;rintro T _ _ ⟨j,hpt,hni,hnj,t0,t1,tF,t9,t10,rfl,rfl⟩;have hlo:=hpt.lo;have hmid:=hpt.mid;have hhi:=hpt.hi;by_cases hji:j<i
 ·refine wnZ (zI5 @t0 @t1 @tF @t9 @t10) ?_;refine⟨rfl,M,i,rfl,by omega,by omega,rfl,hp,λp h1 h2=>?_,λq h1 h2=>by have:=hpt.dn q (by omega) h2;rw[hP] at this;exact ub this⟩;by_cases ep:p=a
  ·rw[ep,hv];exact hc.ord.irr _
  ·exact(hP _).1 (hpt.up p (by omega) h2)
 obtain⟨k,rfl⟩:∃k,j=k+1:=⟨j-1,by omega⟩
 have tk:((k+1:Nat):Int)-1=(k:Int):=by omega
 have ii:((i:Nat):Int)+1=((i+1:Nat):Int):=by omega
 obtain⟨M1,hl1,lm1,lm2⟩:=bW (f:=f) (M:=M) (i:=i) (j:=k+1) (by omega) (by omega);have lm3:=lm2;simp only[bC,br,dw,bP] at lm1 lm2;refine wnZ (aI @t0 (aI @t1 (dH @tF @t9 @t10 @tk @ii @bN hc.cells hc.one @lm1 @lm2))) ?_;obtain⟨hq1,hq2⟩:=hpt.swap (by omega) (by omega) (hni (by omega)) (hnj (by omega));exact⟨(i+1,k,swp M i (k+1)),hq2,⟨hq1,by dsimp only;rw[aC,aC,lm3],rfl,hp.trans (PermR.swap (by omega) (by omega) (by omega)),by dsimp only;rw[lj (by omega) (by omega) (by omega) (by omega)];exact hv⟩,(have zz:=aI @t0 (aI @t1 (aI @tF (aI @t9 @t10)));agZ)⟩
theorem KV(hc:CmpO Tryz.prog f K G){L:List α}{H:Hp}{b nx n a e pv:Nat}(hH:H b=some (L.map f))(hn:L.length=n)(hG:∀x∈L,G x)(hae:a<e)(hen:e<=n)(hn2:n<=1000000000)(hpv:a<=pv/\pv<e):
    Abs.Fn Tryz.prog 196 [.msl b n 1 0 n,.int .i64 a,.int .i64 e,.int .i64 pv] H nx λr H' nx'=>nx'=nx/\∃(L':List α)(m:Nat)(t:Bool),r=.tup [.int .i64 m,.bool t]/\a<=m/\m<e/\H'=ar H b (L'.map f)/\PermR a e L L'/\(∀p,a<=p->p<m->K (L'.getD p default) (L'.getD m default)<0)/\(∀q,m<q->q<e->¬K (L'.getD q default) (L'.getD m default)<0):=by
 obtain⟨v,hv0⟩:∃v,L.getD pv default=v:=⟨_,rfl⟩
 obtain⟨P,hP⟩:∃P:α->Prop,∀x,P x↔K x v<0:=⟨_,λ_=>Iff.rfl⟩
 obtain⟨M,hN⟩:∃N,swp L a pv=N:=⟨_,rfl⟩
 have hp:PermR a e L M:=hN▸PermR.swap (by omega) (by omega) (by omega)
 have hv:M.getD a default=v:=by
  rw[<-hN,eP (by omega) (by omega),<-hv0];split
  ·rename_i h;rw[h]
  ·rw[if_pos rfl]
 obtain⟨M1,hl1,lm1,lm2⟩:=bW (f:=f) (M:=L) (i:=a) (j:=pv) (by omega) (by omega);rw[hN] at lm2;have lm3:=lm2;simp only[bC,br,dw,bP] at lm1 lm2;obtain⟨m,hm⟩:∃m,e=m+1:=⟨e-1,by omega⟩
 have te:(e:Int)-1=(m:Int):=by omega
 have ta:((a:Nat):Int)+1=((a+1:Nat):Int):=by omega
 refine fO OL ?_;simp only[LF,aL];refine bn (λT H'' nx''=>T 0=.msl b n 1 0 n/\T 1=.int .i64 a/\T 2=.int .i64 e/\T 3=.int .i64 pv/\n=n/\H=H''/\nx=nx'') ?_ ?_
 ·refine wnZ and_self ?_;exact⟨rfl,rfl,rfl,rfl,rfl,rfl,rfl⟩
 rintro T _ _ ⟨t0,t1,t2,t3,tF,rfl,rfl⟩;refine bn (λT H'' nx''=>T 0=.msl b n 1 0 n/\T 1=.int .i64 a/\T 2=.int .i64 e/\T 3=.int .i64 pv/\n=n/\H''=ar H b (M.map f)/\nx=nx'') ?_ ?_
 ·refine wnZ (aI @t0 (dH @t1 @t2 @t3 @tF @hH @bN hc.cells hc.one @lm1 @lm2)) ?_;exact⟨(have zz:=@t0;evZ),(have zz:=@t1;evZ),(have zz:=@t2;evZ),(have zz:=@t3;evZ),(have zz:=@tF;evZ),by rw[aC,lm3],rfl⟩
 clear t0 t1 t2 t3 tF lm1 lm2 lm3 hl1 M1 hN;rintro T _ _ ⟨t0,t1,t2,t3,tF,rfl,rfl⟩;refine bn (λT H'' nx''=>∃mu i j:Nat,PartR P a e mu i j M/\T 0=.msl b n 1 0 n/\T 1=.int .i64 a/\n=n/\T 10=.int .i64 (i:Nat)/\T 11=.int .i64 (j:Nat)/\H''=ar H b ((M).map f)/\nx=nx'') ?_ ?_
 ·refine wnZ (zI7 @t0 @t1 @t2 @t3 @tF @ta @te) ?_;exact⟨_,a+1,m,by rw[hm];exact .start (by omega),(have zz:=@t0;evZ),(have zz:=@t1;evZ),(have zz:=@tF;evZ),ev0,ev0,rfl,rfl⟩
 clear t0 t1 t2 t3 tF ta te hm m;rintro T _ _ ⟨mu,i,j,hpt,t0,t1,tF,t10,t11,rfl,rfl⟩;have hl:M.length=n:=by rw[hp.len,hn]
 have hGM:=hp.mem hG;refine bn (λT H'' nx''=>∃i:Nat,PartR P a e mu i j M/\(i<=j->¬P (M.getD i default))/\T 0=.msl b n 1 0 n/\T 1=.int .i64 a/\n=n/\T 10=.int .i64 (i:Nat)/\T 11=.int .i64 (j:Nat)/\H''=ar H b ((M).map f)/\nx=nx'') ?_ ?_
 ·refine wnZ (zI5 @t0 @t1 @tF @t10 @t11) ?_;refine bF (X:=Nat) (λi=>[(0,.msl b n 1 0 n),(1,.int .i64 a),(10,.int .i64 (i:Nat)),(11,.int .i64 (j:Nat))]) (λi H' nxx=>PartR P a e mu i j M/\H'=ar H b (M.map f)/\nx=nxx) (λi=>j+1-i) i ⟨hpt,rfl,rfl⟩ (have zz:=aI @t0 (aI @t1 (aI @tF (aI @t10 @t11)));agZ) ?_;clear t0 t1 tF t10 t11 hpt i;rintro i H' nxx ⟨hpt,rfl,rfl⟩;have hlo:=hpt.lo;have hmid:=hpt.mid;have hhi:=hpt.hi;have ii:((i:Nat):Int)+1=((i+1:Nat):Int):=by omega
  by_cases hij:j<i
  ·refine wkZ and_self ?_;exact⟨i,hpt,λh=>absurd h (by omega),rfl,rfl,rfl,rfl,rfl,rfl,rfl⟩
  have lc:=hc.run (M.getD (i) default) (M.getD (a) default) (hGM _ (aK (by omega))) (hGM _ (aK (by omega)));have e1:=hc.dat (M.getD (i) default);have e2:=hc.dat (M.getD (a) default);have hPk:P (M.getD (i) default)↔K (M.getD (i) default) (M.getD (a) default)<0:=by rw[hP,hv]
  generalize hKK:K (M.getD (i) default) (M.getD (a) default)=kk at lc hPk;by_cases hlt:kk<0
  ·refine wkZ (zI4 @ii @bN hc.cells hc.one) ?_;exact⟨i+1,by omega,⟨hpt.stepUp (by omega) (by rw[hPk];exact hlt),rfl,rfl⟩,ag0⟩
  ·refine wkZ (zI4 @ii @bN hc.cells hc.one) ?_;exact⟨i,hpt,λ_=>(by rw[hPk];first|exact hlt|exact λh=>h hlt),rfl,rfl,rfl,rfl,rfl,rfl,rfl⟩
 clear t0 t1 tF t10 t11 hpt i;rintro T _ _ ⟨i,hpt,hni,t0,t1,tF,t10,t11,rfl,rfl⟩;refine bn (λT H'' nx''=>∃j:Nat,PartR P a e mu i j M/\(i<=j->¬P (M.getD i default))/\(i<=j->P (M.getD j default))/\T 0=.msl b n 1 0 n/\T 1=.int .i64 a/\n=n/\T 10=.int .i64 (i:Nat)/\T 11=.int .i64 (j:Nat)/\H''=ar H b ((M).map f)/\nx=nx'') ?_ ?_
 ·refine wnZ (zI5 @t0 @t1 @tF @t10 @t11) ?_;refine bF (X:=Nat) (λj=>[(0,.msl b n 1 0 n),(1,.int .i64 a),(10,.int .i64 (i:Nat)),(11,.int .i64 (j:Nat))]) (λj H' nxx=>PartR P a e mu i j M/\(i<=j->¬P (M.getD i default))/\H'=ar H b (M.map f)/\nx=nxx) (λj=>j) j ⟨hpt,hni,rfl,rfl⟩ (have zz:=aI @t0 (aI @t1 (aI @tF (aI @t10 @t11)));agZ) ?_;clear t0 t1 tF t10 t11 hpt hni j;rintro j H' nxx ⟨hpt,hni,rfl,rfl⟩;have hlo:=hpt.lo;have hmid:=hpt.mid;have hhi:=hpt.hi;by_cases hij:j<i
  ·refine wkZ and_self ?_;exact⟨j,hpt,hni,λh=>absurd h (by omega),rfl,rfl,rfl,rfl,rfl,rfl,rfl⟩
  obtain⟨k,rfl⟩:∃k,j=k+1:=⟨j-1,by omega⟩
  have tk:((k+1:Nat):Int)-1=(k:Int):=by omega
  have lc:=hc.run (M.getD (k+1) default) (M.getD (a) default) (hGM _ (aK (by omega))) (hGM _ (aK (by omega)));have e1:=hc.dat (M.getD (k+1) default);have e2:=hc.dat (M.getD (a) default);have hPk:P (M.getD (k+1) default)↔K (M.getD (k+1) default) (M.getD (a) default)<0:=by rw[hP,hv]
  generalize hKK:K (M.getD (k+1) default) (M.getD (a) default)=kk at lc hPk;by_cases hlt:kk<0
  ·refine wkZ (zI4 @tk @bN hc.cells hc.one) ?_;exact⟨k+1,hpt,hni,λ_=>(by rw[hPk];exact hlt),rfl,rfl,rfl,rfl,rfl,rfl,rfl⟩
  ·refine wkZ (zI4 @tk @bN hc.cells hc.one) ?_;exact⟨k,by omega,⟨hpt.stepDn (by omega) (by rw[hPk];first|exact hlt|exact λh=>h hlt),λ_=>hni (by omega),rfl,rfl⟩,ag0⟩
 clear t0 t1 tF t10 t11 hpt hni j;rintro T _ _ ⟨j,hpt,hni,hnj,t0,t1,tF,t10,t11,rfl,rfl⟩;have hlo:=hpt.lo;have hmid:=hpt.mid;have hhi:=hpt.hi;by_cases hji:j<i
 ·clear hni hnj;obtain⟨z1,z2,z3,z4⟩:=hpt.done hc.ord (by omega) hji hv hP;obtain⟨M1,hl1,lm1,lm2⟩:=bW (f:=f) (M:=M) (i:=j) (j:=a) (by omega) (by omega);have lm3:=lm2;simp only[bC,br,dw,bP] at lm1 lm2;refine wnZ (dH @t0 @t1 @tF @t10 @t11 @bN hc.cells hc.one @lm1 @lm2) ?_;exact⟨rfl,swp M j a,j,true,rfl,z1,z2,by rw[aC,aC,lm3],hp.trans (PermR.swap (by omega) (by omega) (by omega)),z3,z4⟩
 obtain⟨k,rfl⟩:∃k,j=k+1:=⟨j-1,by omega⟩
 have tk:((k+1:Nat):Int)-1=(k:Int):=by omega
 have ii:((i:Nat):Int)+1=((i+1:Nat):Int):=by omega
 obtain⟨M1,hl1,lm1,lm2⟩:=bW (f:=f) (M:=M) (i:=i) (j:=k+1) (by omega) (by omega);have lm3:=lm2;simp only[bC,br,dw,bP] at lm1 lm2;refine wnZ (aI @t0 (aI @t1 (dH @tF @t10 @t11 @tk @ii @bN hc.cells hc.one @lm1 @lm2))) ?_;obtain⟨hq1,hq2⟩:=hpt.swap (by omega) (by omega) (hni (by omega)) (hnj (by omega));have hp2:PermR a e L (swp M i (k+1)):=hp.trans (PermR.swap (by omega) (by omega) (by omega));have hv2:(swp M i (k+1)).getD a default=v:=by rw[lj (by omega) (by omega) (by omega) (by omega)];exact hv
 refine bF (X:=Nat×Nat×List α) (λx=>[(0,.msl b n 1 0 n),(1,.int .i64 a),(10,.int .i64 (x.1:Nat)),(11,.int .i64 (x.2.1:Nat))]) (λx H' nxx=>PartR P a e (x.2.1+1-x.1) x.1 x.2.1 x.2.2/\H'=ar H b (x.2.2.map f)/\nx=nxx/\PermR a e L x.2.2/\x.2.2.getD a default=v) (λx=>x.2.1+1-x.1) (i+1,k,swp M i (k+1)) ⟨hq1,by dsimp only;rw[aC,aC,lm3],rfl,hp2,hv2⟩ (have zz:=aI @t0 (aI @t1 (aI @tF (aI @t10 @t11)));agZ) ?_;clear t0 t1 tF t10 t11 lm1 lm2 lm3 hl1 M1 hp2 hv2 hq1 hq2 hpt hni hnj hp hv hGM;rintro⟨i,j,M⟩ H' nxx ⟨hpt,rfl,rfl,hp,hv⟩;dsimp only at *;have hl:M.length=n:=by rw[hp.len,hn]
 have hGM:=hp.mem hG;generalize hmu:j+1-i=mu at hpt |-;clear hmu;obtain⟨T,hT,t0,t1,tF,t10,t11⟩:∃T,tl [(0,.msl b n 1 0 n),(1,.int .i64 a),(10,.int .i64 (i:Nat)),(11,.int .i64 (j:Nat))]=T/\T 0=.msl b n 1 0 n/\T 1=.int .i64 a/\n=n/\T 10=.int .i64 (i:Nat)/\T 11=.int .i64 (j:Nat):=⟨_,rfl,rfl,rfl,rfl,rfl,rfl⟩
 rw[hT];clear hT;refine gv ?_;refine bn (λT H'' nx''=>∃i:Nat,PartR P a e mu i j M/\(i<=j->¬P (M.getD i default))/\T 0=.msl b n 1 0 n/\T 1=.int .i64 a/\n=n/\T 10=.int .i64 (i:Nat)/\T 11=.int .i64 (j:Nat)/\H''=ar H b ((M).map f)/\nx=nx'') ?_ ?_
 ·refine wnZ (zI5 @t0 @t1 @tF @t10 @t11) ?_;refine bF (X:=Nat) (λi=>[(0,.msl b n 1 0 n),(1,.int .i64 a),(10,.int .i64 (i:Nat)),(11,.int .i64 (j:Nat))]) (λi H' nxx=>PartR P a e mu i j M/\H'=ar H b (M.map f)/\nx=nxx) (λi=>j+1-i) i ⟨hpt,rfl,rfl⟩ (have zz:=aI @t0 (aI @t1 (aI @tF (aI @t10 @t11)));agZ) ?_;clear t0 t1 tF t10 t11 hpt i;rintro i H' nxx ⟨hpt,rfl,rfl⟩;have hlo:=hpt.lo;have hmid:=hpt.mid;have hhi:=hpt.hi;have ii:((i:Nat):Int)+1=((i+1:Nat):Int):=by omega
  by_cases hij:j<i
  ·refine wkZ and_self ?_;exact⟨i,hpt,λh=>absurd h (by omega),rfl,rfl,rfl,rfl,rfl,rfl,rfl⟩
  have lc:=hc.run (M.getD (i) default) (M.getD (a) default) (hGM _ (aK (by omega))) (hGM _ (aK (by omega)));have e1:=hc.dat (M.getD (i) default);have e2:=hc.dat (M.getD (a) default);have hPk:P (M.getD (i) default)↔K (M.getD (i) default) (M.getD (a) default)<0:=by rw[hP,hv]
  generalize hKK:K (M.getD (i) default) (M.getD (a) default)=kk at lc hPk;by_cases hlt:kk<0
  ·refine wkZ (zI4 @ii @bN hc.cells hc.one) ?_;exact⟨i+1,by omega,⟨hpt.stepUp (by omega) (by rw[hPk];exact hlt),rfl,rfl⟩,ag0⟩
  ·refine wkZ (zI4 @ii @bN hc.cells hc.one) ?_;exact⟨i,hpt,λ_=>(by rw[hPk];first|exact hlt|exact λh=>h hlt),rfl,rfl,rfl,rfl,rfl,rfl,rfl⟩
 clear t0 t1 tF t10 t11 hpt i;rintro T _ _ ⟨i,hpt,hni,t0,t1,tF,t10,t11,rfl,rfl⟩;refine bn (λT H'' nx''=>∃j:Nat,PartR P a e mu i j M/\(i<=j->¬P (M.getD i default))/\(i<=j->P (M.getD j default))/\T 0=.msl b n 1 0 n/\T 1=.int .i64 a/\n=n/\T 10=.int .i64 (i:Nat)/\T 11=.int .i64 (j:Nat)/\H''=ar H b ((M).map f)/\nx=nx'') ?_ ?_
 ·refine wnZ (zI5 @t0 @t1 @tF @t10 @t11) ?_;refine bF (X:=Nat) (λj=>[(0,.msl b n 1 0 n),(1,.int .i64 a),(10,.int .i64 (i:Nat)),(11,.int .i64 (j:Nat))]) (λj H' nxx=>PartR P a e mu i j M/\(i<=j->¬P (M.getD i default))/\H'=ar H b (M.map f)/\nx=nxx) (λj=>j) j ⟨hpt,hni,rfl,rfl⟩ (have zz:=aI @t0 (aI @t1 (aI @tF (aI @t10 @t11)));agZ) ?_;clear t0 t1 tF t10 t11 hpt hni j;rintro j H' nxx ⟨hpt,hni,rfl,rfl⟩;have hlo:=hpt.lo;have hmid:=hpt.mid;have hhi:=hpt.hi;by_cases hij:j<i
  ·refine wkZ and_self ?_;exact⟨j,hpt,hni,λh=>absurd h (by omega),rfl,rfl,rfl,rfl,rfl,rfl,rfl⟩
  obtain⟨k,rfl⟩:∃k,j=k+1:=⟨j-1,by omega⟩
  have tk:((k+1:Nat):Int)-1=(k:Int):=by omega
  have lc:=hc.run (M.getD (k+1) default) (M.getD (a) default) (hGM _ (aK (by omega))) (hGM _ (aK (by omega)));have e1:=hc.dat (M.getD (k+1) default);have e2:=hc.dat (M.getD (a) default);have hPk:P (M.getD (k+1) default)↔K (M.getD (k+1) default) (M.getD (a) default)<0:=by rw[hP,hv]
  generalize hKK:K (M.getD (k+1) default) (M.getD (a) default)=kk at lc hPk;by_cases hlt:kk<0
  ·refine wkZ (zI4 @tk @bN hc.cells hc.one) ?_;exact⟨k+1,hpt,hni,λ_=>(by rw[hPk];exact hlt),rfl,rfl,rfl,rfl,rfl,rfl,rfl⟩
  ·refine wkZ (zI4 @tk @bN hc.cells hc.one) ?_;exact⟨k,by omega,⟨hpt.stepDn (by omega) (by rw[hPk];first|exact hlt|exact λh=>h hlt),λ_=>hni (by omega),rfl,rfl⟩,ag0⟩
 clear t0 t1 tF t10 t11 hpt hni j;rintro T _ _ ⟨j,hpt,hni,hnj,t0,t1,tF,t10,t11,rfl,rfl⟩;have hlo:=hpt.lo;have hmid:=hpt.mid;have hhi:=hpt.hi;by_cases hji:j<i
 ·clear hni hnj;obtain⟨z1,z2,z3,z4⟩:=hpt.done hc.ord (by omega) hji hv hP;obtain⟨M1,hl1,lm1,lm2⟩:=bW (f:=f) (M:=M) (i:=j) (j:=a) (by omega) (by omega);have lm3:=lm2;simp only[bC,br,dw,bP] at lm1 lm2;refine wnZ (dH @t0 @t1 @tF @t10 @t11 @bN hc.cells hc.one @lm1 @lm2) ?_;exact⟨rfl,swp M j a,j,false,rfl,z1,z2,by rw[aC,aC,lm3],hp.trans (PermR.swap (by omega) (by omega) (by omega)),z3,z4⟩
 obtain⟨k,rfl⟩:∃k,j=k+1:=⟨j-1,by omega⟩
 have tk:((k+1:Nat):Int)-1=(k:Int):=by omega
 have ii:((i:Nat):Int)+1=((i+1:Nat):Int):=by omega
 obtain⟨M1,hl1,lm1,lm2⟩:=bW (f:=f) (M:=M) (i:=i) (j:=k+1) (by omega) (by omega);have lm3:=lm2;simp only[bC,br,dw,bP] at lm1 lm2;have zz:=aI @t0 (aI @t1 (aI @tF (aI @t10 (aI @t11 (aI @tk (aI @ii (aI @bN (aI hc.cells (aI hc.one (aI @lm1 @lm2))))))))));repeat' (first|refine zW ?_|apply a_n|refine zO ?_|refine vZ ?_|refine stZ ?_|(refine zGZ ?_ ?_<;>(intro _hg;try (exfalso;omega)))|fail)
 obtain⟨hq1,hq2⟩:=hpt.swap (by omega) (by omega) (hni (by omega)) (hnj (by omega));exact⟨(i+1,k,swp M i (k+1)),hq2,⟨hq1,by dsimp only;rw[aC,aC,lm3],rfl,hp.trans (PermR.swap (by omega) (by omega) (by omega)),by dsimp only;rw[lj (by omega) (by omega) (by omega) (by omega)];exact hv⟩,(have zz:=aI @t0 (aI @t1 (aI @tF (aI @t10 @t11)));agZ)⟩
end
section
variable{α:Type}[Inhabited α]{f:α->AV}{K:α->α->Int}{G:α->Prop}
theorem Ie(hc:CmpO Tryz.prog f K G){L:List α}{H:Hp}{b nx n a e:Nat}(hH:H b=some (L.map f))(hbx:b<nx)(hn:L.length=n)(hae:a+8<=e)(hen:e<=n)(hn2:n<=1000000000):
    Abs.Fn Tryz.prog 191 [.msl b n 1 0 n,.int .i64 a,.int .i64 e] H nx λr H' nx'=>nx'=nx+1/\∃L',H' b=some (L'.map f)/\(∀i,i<nx->i≠b->H' i=H i)/\PermR a e L L':=by
 obtain⟨l,rfl⟩:∃l,e=a+l:=⟨e-a,by omega⟩
 have te:((a+l:Nat):Int)-(a:Int)=(l:Int):=by omega
 obtain⟨w,hw⟩:∃w,a+l/4*2-1=w:=⟨_,rfl⟩
 have tq:bv .quo false false (.int .i64 (l:Int)) (.int .i64 4)=some (.int .i64 ((l/4:Nat):Int)):=by
  rw[jr (by omega) (by omega) (by omega)]
  congr 2
 have w1:(a:Int)+((l/4:Nat):Int)*2-1=(w:Int):=by omega
 have w2:(a:Int)+((l/4:Nat):Int)*2+1=((w+2:Nat):Int):=by omega
 have hbn:b≠nx:=by omega
 have wl:IntKind.wrap .u64 (l:Int)=l:=fB (by omega) (by omega);refine fO MV ?_;simp only[Oc,aL];have ls:∀x y:AV,bC [x] 0 [y]=[y]:=λ_ _=>rfl;simp only[bC,br,dw,bP] at ls;refine wnZ (zI3 @te @wl @ls) ?_;refine aQ ev0 ev0 (F7 (x:=l) (by omega) (by omega)) ?_;rintro _ _ _ ⟨rfl,rfl,k,rfl,hk1,hk2⟩;obtain⟨p,hp⟩:∃p,2^k=p+1:=⟨2^k-1,by omega⟩
 rw[hp] at hk1 hk2 |-;refine wnZ (zI3 @te @tq @w1) ?_;have wm:IntKind.wrap .u64 (((p+1:Nat):Int)-1)=(p:Int):=by rw[fB (by omega) (by omega)];omega
 refine bF (X:=Nat×List α) (λx=>[(0,.msl b n 1 0 n),(1,.int .i64 a),(6,.int .i64 l),(7,.ptr nx 1 0),(8,.int .u64 ((p+1:Nat):Int)),(9,.int .i64 (x.1:Nat))]) (λx H' nxx=>w<=x.1/\x.1<=w+3/\H' b=some (x.2.map f)/\(∃s,H' nx=some [.int .u64 s])/\(∀i,i<nx->i≠b->H' i=H i)/\nxx=nx+1/\PermR a (a+l) L x.2) (λx=>w+3-x.1) (w,L) ⟨aM _,by dsimp only;omega,by dsimp only;rw[ae hbn];first|exact hH|(rw[ae hbn];exact hH),⟨_,af⟩,λi h1 h2=>by rw[ae (by omega)];first|rfl|exact ae (by omega),rfl,.refl⟩ (by simp (disch:=omega) only[agr,ZG,reduceEqDiff,↓reduceIte,br,dw,bP,true_and]) ?_;rintro⟨i,M⟩ H1 nxx ⟨h1,h2,hb1,⟨s,hs⟩,hfr,rfl,hp1⟩;dsimp only at *;have hl:M.length=n:=by rw[hp1.len,hn]
 by_cases hi:i=w+3
 ·subst hi;refine wnZ (aI @tq @w2) ?_;exact⟨rfl,M,hb1,hfr,hp1⟩
 have ti:((i:Nat):Int)+1=((i+1:Nat):Int):=by omega
 refine wnZ (aI @tq @w2) ?_;refine aQ ev0 ev0 (GK hs) ?_;rintro _ _ _ ⟨rfl,s1,rfl,rfl⟩;obtain⟨r,hr1,hr2⟩:=A9 (a:=s1) (m:=p) (by omega);obtain⟨H2,hH2⟩:∃H2,ar H1 nx [.int .u64 s1]=H2:=⟨_,rfl⟩
 have hb2:H2 b=some (M.map f):=by rw[<-hH2,ae hbn];exact hb1
 have hs2:H2 nx=some [.int .u64 s1]:=by rw[<-hH2];exact af
 have hfr2:∀i,i<nx->i≠b->H2 i=H i:=λi k1 k2=>by rw[<-hH2,ae (by omega)];exact hfr i k1 k2
 rw[hH2];clear hH2 hb1 hs hfr
 obtain⟨z,hz,hzl⟩:∃z:Nat,(if l<=r then(r:Int)-l else(r:Int))=(z:Int)/\z<l:=by
  split
  ·exact⟨r-l,by omega,by omega⟩
  ·exact⟨r,rfl,by omega⟩
 obtain⟨M1,hl1,lm1,lm2⟩:=bW (f:=f) (M:=M) (i:=i) (j:=a+z) (by omega) (by omega);have lm3:=lm2;simp only[bC,br,dw,bP] at lm1 lm2;by_cases hrl:l<=r
 ·rw[if_pos hrl] at hz;refine wnZ (dH @wm @hr1 @hz @hb2 @ti @dQ hc.cells hc.one @lm1 @lm2) ?_;exact⟨(i+1,swp M i (a+z)),by dsimp only;omega,⟨by dsimp only;omega,by dsimp only;omega,by dsimp only;rw[aC,lm3,af],⟨s1,by rw[aC,ae (Ne.symm hbn)];exact hs2⟩,λi k1 k2=>by rw[aC,ae k2];exact hfr2 i k1 k2,rfl,hp1.trans (PermR.swap (by omega) (by omega) (by omega))⟩,ag0⟩
 ·rw[if_neg hrl] at hz;have hz':r=z:=by omega
  subst hz';refine wnZ (zI9 @wm @hr1 @hb2 @ti @dQ hc.cells hc.one @lm1 @lm2) ?_;exact⟨(i+1,swp M i (a+r)),by dsimp only;omega,⟨by dsimp only;omega,by dsimp only;omega,by dsimp only;rw[aC,lm3,af],⟨s1,by rw[aC,ae (Ne.symm hbn)];exact hs2⟩,λi k1 k2=>by rw[aC,ae k2];exact hfr2 i k1 k2,rfl,hp1.trans (PermR.swap (by omega) (by omega) (by omega))⟩,ag0⟩
end
section
variable{α:Type}[Inhabited α]{f:α->AV}{K:α->α->Int}{G:α->Prop}
theorem Ob(hc:CmpO Tryz.prog f K G){b n:Nat}(hn2:n<=1000000000):∀(sz a e lim:Nat)(L:List α)(H:Hp)(nx:Nat),e-a<sz->H b=some (L.map f)->b<nx->L.length=n->(∀x∈L,G x)->a<=e->e<=n->lim<=64->sw K a e L->
    Abs.Fn Tryz.prog 164 [.msl b n 1 0 n,.int .i64 a,.int .i64 e,.int .i64 lim] H nx λr H' nx'=>∃L',PS H H' nx nx' b (L'.map f)/\PermR a e L L'/\bh K a e L':=by
 intro sz
 induction sz with
 |zero=>intro a e lim L H nx h;omega
 |succ sz ih=>
 intro a e lim L H nx hsz hH hbx hn hG hae hen hlim hlow;refine fO JS ?_;simp only[K2,aL];refine wnZ and_self ?_;refine bF (X:=Nat×Nat×Nat×Bool×Bool×List α) (λx=>[(0,.msl b n 1 0 n),(1,.int .i64 (x.1:Nat)),(2,.int .i64 (x.2.1:Nat)),(3,.int .i64 (x.2.2.1:Nat)),(8,.bool x.2.2.2.1),(9,.bool x.2.2.2.2.1)]) (λx H' nxx=>PI K a e L x.1 x.2.1 x.2.2.2.2.2/\PS H H' nx nxx b (x.2.2.2.2.2.map f)/\x.2.2.1<=64) (λx=>x.2.1-x.1) (a,e,lim,true,true,L) ⟨.start hae (by rw[hn];exact hen) hlow,⟨hH,λ_ _ _=>rfl,aM _⟩,hlim⟩ ag0 ?_;clear hlim hlow lim;rintro⟨a1,e1,lim,wb,wp,M⟩ H1 n1 ⟨hpi,hps,hlim⟩;dsimp only at *;have hlo:=hpi.lo;have hmid:=hpi.mid;have hhi:=hpi.hi;obtain⟨l,hl0⟩:∃l,e1-a1=l:=⟨_,rfl⟩
 rw[hl0];have te:(e1:Int)-(a1:Int)=(l:Int):=by omega
 have hlen:∀M:List α,PI K a e L a1 e1 M->M.length=n:=λM h=>by rw[h.perm.len,hn]
 have hGA:∀M:List α,PI K a e L a1 e1 M->∀x∈M,G x:=λM h=>h.perm.mem hG;have hbn:∀(M:List α)(H1:Hp)(n1:Nat),PS H H1 nx n1 b (M.map f)->b<n1:=λM H1 n1 h=>by have:=h.le;omega
 obtain⟨T,hT,t0,t1,t2,t3,tF,t8,t9⟩:∃T,tl [(0,.msl b n 1 0 n),(1,.int .i64 (a1:Nat)),(2,.int .i64 (e1:Nat)),(3,.int .i64 (lim:Nat)),(8,.bool wb),(9,.bool wp)]=T/\T 0=.msl b n 1 0 n/\T 1=.int .i64 (a1:Nat)/\T 2=.int .i64 (e1:Nat)/\T 3=.int .i64 (lim:Nat)/\n=n/\T 8=.bool wb/\T 9=.bool wp:=⟨_,rfl,rfl,rfl,rfl,rfl,rfl,rfl,rfl⟩
 rw[hT];clear hT;refine gv ?_;refine bn (λT H'' nx''=>T 0=.msl b n 1 0 n/\T 1=.int .i64 (a1:Nat)/\T 2=.int .i64 (e1:Nat)/\T 3=.int .i64 (lim:Nat)/\n=n/\T 8=.bool wb/\T 9=.bool wp/\T 10=.int .i64 (l:Nat)/\H1=H''/\n1=nx'') ?_ ?_
 ·refine wnZ (zI8 @t0 @t1 @t2 @t3 @tF @t8 @t9 @te) ?_;exact⟨(have zz:=@t0;evZ),(have zz:=@t1;evZ),(have zz:=@t2;evZ),(have zz:=@t3;evZ),(have zz:=@tF;evZ),(have zz:=@t8;evZ),(have zz:=@t9;evZ),ev0,rfl,rfl⟩
 clear t0 t1 t2 t3 tF t8 t9;rintro T _ _ ⟨t0,t1,t2,t3,tF,t8,t9,t10,rfl,rfl⟩;refine bn (λT H'' nx''=>T 0=.msl b n 1 0 n/\T 1=.int .i64 (a1:Nat)/\T 2=.int .i64 (e1:Nat)/\T 3=.int .i64 (lim:Nat)/\n=n/\T 8=.bool wb/\T 9=.bool wp/\T 10=.int .i64 (l:Nat)/\13<=l/\H1=H''/\n1=nx'') ?_ ?_
 ·by_cases h12:l<=12
  ·refine wnZ (zI8 @t0 @t1 @t2 @t3 @tF @t8 @t9 @t10) ?_;refine aQ ev0 (have zz:=aI @t0 (aI @t1 (aI @t2 (aI @t3 (aI @tF (aI @t8 (aI @t9 @t10))))));evZ) (JR hc (b:=b) hps.at_ (hlen _ hpi) (hGA _ hpi) (a:=a1) (e:=e1) hmid (by omega) hn2) ?_;rintro _ _ _ ⟨rfl,N,rfl,hpN,hsN⟩;refine wnZ and_self ?_;exact⟨N,hps.upd,hpi.done hpN hsN⟩
  ·refine wnZ (zI8 @t0 @t1 @t2 @t3 @tF @t8 @t9 @t10) ?_;exact⟨(have zz:=@t0;evZ),(have zz:=@t1;evZ),(have zz:=@t2;evZ),(have zz:=@t3;evZ),(have zz:=@tF;evZ),(have zz:=@t8;evZ),(have zz:=@t9;evZ),(have zz:=@t10;evZ),by omega,rfl,rfl⟩
 clear t0 t1 t2 t3 tF t8 t9 t10;rintro T _ _ ⟨t0,t1,t2,t3,tF,t8,t9,t10,h13,rfl,rfl⟩;refine bn (λT H'' nx''=>T 0=.msl b n 1 0 n/\T 1=.int .i64 (a1:Nat)/\T 2=.int .i64 (e1:Nat)/\T 3=.int .i64 (lim:Nat)/\n=n/\T 8=.bool wb/\T 9=.bool wp/\T 10=.int .i64 (l:Nat)/\0<lim/\H1=H''/\n1=nx'') ?_ ?_
 ·by_cases h12:lim=0
  ·subst h12;have tz:decide (((0:Nat):Int)=0)=true:=rfl;refine wnZ (zI9 @t0 @t1 @t2 @t3 @tF @t8 @t9 @t10 @tz) ?_;refine aQ ev0 (have zz:=aI @t0 (aI @t1 (aI @t2 (aI @t3 (aI @tF (aI @t8 (aI @t9 @t10))))));evZ) (Lm hc (b:=b) hps.at_ (hlen _ hpi) (hGA _ hpi) (a:=a1) (e:=e1) hmid (by omega) hn2) ?_;rintro _ _ _ ⟨rfl,N,rfl,hpN,hsN⟩;refine wnZ and_self ?_;exact⟨N,hps.upd,hpi.done hpN hsN⟩
  ·have tz:decide ((lim:Int)=0)=false:=ba (by omega);refine wnZ (zI9 @t0 @t1 @t2 @t3 @tF @t8 @t9 @t10 @tz) ?_;exact⟨(have zz:=@t0;evZ),(have zz:=@t1;evZ),(have zz:=@t2;evZ),(have zz:=@t3;evZ),(have zz:=@tF;evZ),(have zz:=@t8;evZ),(have zz:=@t9;evZ),(have zz:=@t10;evZ),by omega,rfl,rfl⟩
 clear t0 t1 t2 t3 tF t8 t9 t10;rintro T _ _ ⟨t0,t1,t2,t3,tF,t8,t9,t10,hlim1,rfl,rfl⟩;refine bn (λT H'' nx''=>∃(lim:Nat)(M:List α),lim<=64/\PI K a e L a1 e1 M/\PS H H'' nx nx'' b (M.map f)/\T 0=.msl b n 1 0 n/\T 1=.int .i64 (a1:Nat)/\T 2=.int .i64 (e1:Nat)/\T 3=.int .i64 (lim:Nat)/\n=n/\T 8=.bool wb/\T 9=.bool wp/\T 10=.int .i64 (l:Nat)) ?_ ?_
 ·cases wb
  ·obtain⟨k,rfl⟩:∃k,lim=k+1:=⟨lim-1,by omega⟩
   have tk:((k+1:Nat):Int)-1=(k:Int):=by omega
   refine wnZ (zI8 @t0 @t1 @t2 @t3 @tF @t8 @t9 @t10) ?_;refine aQ ev0 (have zz:=aI @t0 (aI @t1 (aI @t2 (aI @t3 (aI @tF (aI @t8 (aI @t9 @t10))))));evZ) (Ie hc (b:=b) hps.at_ (hbn _ _ _ hps) (hlen _ hpi) (a:=a1) (e:=e1) (by omega) (by omega) hn2) ?_;rintro _ _ _ ⟨rfl,N,hN1,hN2,hpN⟩;refine wnZ (zI9 @t0 @t1 @t2 @t3 @tF @t8 @t9 @t10 @tk) ?_;exact⟨k,N,by omega,hpi.swap hpN,hps.rec_ hN1 hN2 (Nat.le_succ _),(have zz:=@t0;evZ),(have zz:=@t1;evZ),(have zz:=@t2;evZ),(have zz:=@t3;evZ),(have zz:=@tF;evZ),(have zz:=@t8;evZ),(have zz:=@t9;evZ),(have zz:=@t10;evZ)⟩
  ·refine wnZ (zI8 @t0 @t1 @t2 @t3 @tF @t8 @t9 @t10) ?_;exact⟨lim,M,hlim,hpi,hps,(have zz:=@t0;evZ),(have zz:=@t1;evZ),(have zz:=@t2;evZ),(have zz:=@t3;evZ),(have zz:=@tF;evZ),(have zz:=@t8;evZ),(have zz:=@t9;evZ),(have zz:=@t10;evZ)⟩
 clear t0 t1 t2 t3 tF t8 t9 t10 hpi hps hlim hlim1;rintro T H1 n1 ⟨lim,M,hlim,hpi,hps,t0,t1,t2,t3,tF,t8,t9,t10⟩;refine bn (λT H'' nx''=>∃(p:Nat)(hint:Int),a1<=p/\p<e1/\PS H H'' nx nx'' b (M.map f)/\T 0=.msl b n 1 0 n/\T 1=.int .i64 (a1:Nat)/\T 2=.int .i64 (e1:Nat)/\T 3=.int .i64 (lim:Nat)/\n=n/\T 8=.bool wb/\T 9=.bool wp/\T 10=.int .i64 (l:Nat)/\T 11=.int .i64 (p:Nat)/\T 12=.int .i64 hint) ?_ ?_
 ·refine wnZ (zI8 @t0 @t1 @t2 @t3 @tF @t8 @t9 @t10) ?_;refine aQ ev0 (have zz:=aI @t0 (aI @t1 (aI @t2 (aI @t3 (aI @tF (aI @t8 (aI @t9 @t10))))));evZ) (Hc hc (b:=b) hps.at_ (hbn _ _ _ hps) (hlen _ hpi) (hGA _ hpi) (a:=a1) (e:=e1) (by omega) (by omega) hn2) ?_;rintro _ _ _ ⟨rfl,p,hint,v,rfl,hp1,hp2,rfl⟩;refine wnZ (zI8 @t0 @t1 @t2 @t3 @tF @t8 @t9 @t10) ?_;exact⟨p,hint,hp1,hp2,hps.new hbx,(have zz:=@t0;evZ),(have zz:=@t1;evZ),(have zz:=@t2;evZ),(have zz:=@t3;evZ),(have zz:=@tF;evZ),(have zz:=@t8;evZ),(have zz:=@t9;evZ),(have zz:=@t10;evZ),ev0,ev0⟩
 clear t0 t1 t2 t3 tF t8 t9 t10 hps;rintro T H1 n1 ⟨p,hint,hp1,hp2,hps,t0,t1,t2,t3,tF,t8,t9,t10,t11,t12⟩;refine bn (λT H'' nx''=>∃(p:Nat)(hint:Int)(M:List α),a1<=p/\p<e1/\PI K a e L a1 e1 M/\PS H H'' nx nx'' b (M.map f)/\T 0=.msl b n 1 0 n/\T 1=.int .i64 (a1:Nat)/\T 2=.int .i64 (e1:Nat)/\T 3=.int .i64 (lim:Nat)/\n=n/\T 8=.bool wb/\T 9=.bool wp/\T 10=.int .i64 (l:Nat)/\T 11=.int .i64 (p:Nat)/\T 12=.int .i64 hint) ?_ ?_
 ·by_cases h2:hint=2
  ·subst h2;obtain⟨p2,hp3⟩:∃p2,e1-1-(p-a1)=p2:=⟨_,rfl⟩
   have tp:(e1:Int)-1-((p:Int)-(a1:Int))=(p2:Int):=by omega
   have tz:decide ((2:Int)=2)=true:=rfl;refine wnZ (aI @t0 (dH @t1 @t2 @t3 @tF @t8 @t9 @t10 @t11 @t12 @tz)) ?_;refine aQ ev0 (have zz:=aI @t0 (aI @t1 (aI @t2 (aI @t3 (aI @tF (aI @t8 (aI @t9 @t10))))));evZ) (OD hc (b:=b) hps.at_ (hlen _ hpi) (a:=a1) (e:=e1) (by omega) (by omega) hn2) ?_;rintro _ _ _ ⟨rfl,N,rfl,hpN⟩;refine wnZ (aI @t0 (dH @t1 @t2 @t3 @tF @t8 @t9 @t10 @t11 @t12 @tp)) ?_;exact⟨p2,1,N,by omega,by omega,hpi.swap hpN,hps.upd,(have zz:=@t0;evZ),(have zz:=@t1;evZ),(have zz:=@t2;evZ),(have zz:=@t3;evZ),(have zz:=@tF;evZ),(have zz:=@t8;evZ),(have zz:=@t9;evZ),(have zz:=@t10;evZ),ev0,ev0⟩
  ·have tz:decide (hint=2)=false:=ba h2;refine wnZ (aI @t0 (dH @t1 @t2 @t3 @tF @t8 @t9 @t10 @t11 @t12 @tz)) ?_;exact⟨p,hint,M,hp1,hp2,hpi,hps,(have zz:=@t0;evZ),(have zz:=@t1;evZ),(have zz:=@t2;evZ),(have zz:=@t3;evZ),(have zz:=@tF;evZ),(have zz:=@t8;evZ),(have zz:=@t9;evZ),(have zz:=@t10;evZ),(have zz:=@t11;evZ),(have zz:=@t12;evZ)⟩
 clear t0 t1 t2 t3 tF t8 t9 t10 t11 t12 hps hpi hp1 hp2;rintro T H1 n1 ⟨p,hint,M,hp1,hp2,hpi,hps,t0,t1,t2,t3,tF,t8,t9,t10,t11,t12⟩;refine bn (λT H'' nx''=>∃(M:List α),PI K a e L a1 e1 M/\PS H H'' nx nx'' b (M.map f)/\T 0=.msl b n 1 0 n/\T 1=.int .i64 (a1:Nat)/\T 2=.int .i64 (e1:Nat)/\T 3=.int .i64 (lim:Nat)/\n=n/\T 8=.bool wb/\T 9=.bool wp/\T 10=.int .i64 (l:Nat)/\T 11=.int .i64 (p:Nat)) ?_ ?_
 ·cases wb
  ·cases wp
   ·refine wnZ (dH @t0 @t1 @t2 @t3 @tF @t8 @t9 @t10 @t11 @t12) ?_;exact⟨M,hpi,hps,(have zz:=@t0;evZ),(have zz:=@t1;evZ),(have zz:=@t2;evZ),(have zz:=@t3;evZ),(have zz:=@tF;evZ),(have zz:=@t8;evZ),(have zz:=@t9;evZ),(have zz:=@t10;evZ),(have zz:=@t11;evZ)⟩
   ·refine wnZ (dH @t0 @t1 @t2 @t3 @tF @t8 @t9 @t10 @t11 @t12) ?_;exact⟨M,hpi,hps,(have zz:=@t0;evZ),(have zz:=@t1;evZ),(have zz:=@t2;evZ),(have zz:=@t3;evZ),(have zz:=@tF;evZ),(have zz:=@t8;evZ),(have zz:=@t9;evZ),(have zz:=@t10;evZ),(have zz:=@t11;evZ)⟩
  ·cases wp
   ·refine wnZ (dH @t0 @t1 @t2 @t3 @tF @t8 @t9 @t10 @t11 @t12) ?_;exact⟨M,hpi,hps,(have zz:=@t0;evZ),(have zz:=@t1;evZ),(have zz:=@t2;evZ),(have zz:=@t3;evZ),(have zz:=@tF;evZ),(have zz:=@t8;evZ),(have zz:=@t9;evZ),(have zz:=@t10;evZ),(have zz:=@t11;evZ)⟩
   ·by_cases h1:hint=1
    ·subst h1;have tz:decide ((1:Int)=1)=true:=rfl;refine wnZ (aI @t0 (dH @t1 @t2 @t3 @tF @t8 @t9 @t10 @t11 @t12 @tz)) ?_;refine aQ ev0 (have zz:=aI @t0 (aI @t1 (aI @t2 (aI @t3 (aI @tF (aI @t8 (aI @t9 @t10))))));evZ) (DU hc (b:=b) hps.at_ (hlen _ hpi) (hGA _ hpi) (a:=a1) (e:=e1) (by omega) (by omega) hn2 hpi.low) ?_;rintro _ _ _ ⟨rfl,N,t,rfl,rfl,hpN,hsN⟩;cases t
     ·refine wnZ (dH @t0 @t1 @t2 @t3 @tF @t8 @t9 @t10 @t11 @t12) ?_;exact⟨N,hpi.swap hpN,hps.upd,(have zz:=@t0;evZ),(have zz:=@t1;evZ),(have zz:=@t2;evZ),(have zz:=@t3;evZ),(have zz:=@tF;evZ),(have zz:=@t8;evZ),(have zz:=@t9;evZ),(have zz:=@t10;evZ),(have zz:=@t11;evZ)⟩
     ·refine wnZ (dH @t0 @t1 @t2 @t3 @tF @t8 @t9 @t10 @t11 @t12) ?_;exact⟨N,hps.upd,hpi.done hpN (hsN rfl)⟩
    ·have tz:decide (hint=1)=false:=ba h1;refine wnZ (aI @t0 (dH @t1 @t2 @t3 @tF @t8 @t9 @t10 @t11 @t12 @tz)) ?_;exact⟨M,hpi,hps,(have zz:=@t0;evZ),(have zz:=@t1;evZ),(have zz:=@t2;evZ),(have zz:=@t3;evZ),(have zz:=@tF;evZ),(have zz:=@t8;evZ),(have zz:=@t9;evZ),(have zz:=@t10;evZ),(have zz:=@t11;evZ)⟩
 clear t0 t1 t2 t3 tF t8 t9 t10 t11 t12 hps hpi hint;rintro T H1 n1 ⟨M,hpi,hps,t0,t1,t2,t3,tF,t8,t9,t10,t11⟩;have hbb:=hps.at_;have hl:=hlen _ hpi;have hGM:=hGA _ hpi;refine bn (λT H'' nx''=>T 0=.msl b n 1 0 n/\T 1=.int .i64 (a1:Nat)/\T 2=.int .i64 (e1:Nat)/\T 3=.int .i64 (lim:Nat)/\n=n/\T 8=.bool wb/\T 9=.bool wp/\T 10=.int .i64 (l:Nat)/\T 11=.int .i64 (p:Nat)/\H1=H''/\n1=nx'') ?_ ?_
 ·by_cases ha0:a1=0
  ·have tz:decide ((0:Int)<(a1:Int))=false:=ba (by omega);refine wkZ (dH @t0 @t1 @t2 @t3 @tF @t8 @t9 @t10 @t11 @tz) ?_;exact⟨(have zz:=@t0;evZ),(have zz:=@t1;evZ),(have zz:=@t2;evZ),(have zz:=@t3;evZ),(have zz:=@tF;evZ),(have zz:=@t8;evZ),(have zz:=@t9;evZ),(have zz:=@t10;evZ),(have zz:=@t11;evZ),rfl,rfl⟩
  have tz:decide ((0:Int)<(a1:Int))=true:=a6 (by omega);obtain⟨k,hk⟩:∃k,a1-1=k:=⟨_,rfl⟩
  have tk:(a1:Int)-1=(k:Int):=by omega
  have lc:=hc.run (M.getD k default) (M.getD p default) (hGM _ (aK (by omega))) (hGM _ (aK (by omega)));have d1:=hc.dat (M.getD k default);have d2:=hc.dat (M.getD p default);generalize hKK:K (M.getD k default) (M.getD p default)=kk at lc;by_cases hlt:kk<0
  ·refine wkZ (aI @t0 (aI @t1 (aI @t2 (aI @t3 (aI @tF (dH @t8 @t9 @t10 @t11 @tz @tk @hbb @bN hc.cells hc.one)))))) ?_;exact⟨(have zz:=@t0;evZ),(have zz:=@t1;evZ),(have zz:=@t2;evZ),(have zz:=@t3;evZ),(have zz:=@tF;evZ),(have zz:=@t8;evZ),(have zz:=@t9;evZ),(have zz:=@t10;evZ),(have zz:=@t11;evZ),rfl,rfl⟩
  ·refine wkZ (aI @t0 (aI @t1 (aI @t2 (aI @t3 (aI @tF (dH @t8 @t9 @t10 @t11 @tz @tk @hbb @bN hc.cells hc.one)))))) ?_;refine aQ ev0 (have zz:=aI @t0 (aI @t1 (aI @t2 (aI @t3 (aI @tF (aI @t8 (aI @t9 (aI @t10 @t11)))))));evZ) (Ha hc (b:=b) hps.at_ (hlen _ hpi) (hGA _ hpi) (a:=a1) (e:=e1) (pv:=p) (by omega) (by omega) hn2 ⟨hp1,hp2⟩) ?_;rintro _ _ _ ⟨rfl,N,m,rfl,hm1,hm2,rfl,hpN,q1,q2⟩;refine wnZ (zI9 @t0 @t1 @t2 @t3 @tF @t8 @t9 @t10 @t11) ?_;exact⟨(m,e1,lim,wb,wp,N),by dsimp only;omega,⟨hpi.equal hc.ord hpN (by rw[hk,hKK];exact hlt) (by omega) ⟨hm1,hm2⟩ q1 q2,hps.upd,hlim⟩,(have zz:=aI @t0 (aI @t1 (aI @t2 (aI @t3 (aI @tF (aI @t8 (aI @t9 @t10))))));agZ)⟩
 clear t0 t1 t2 t3 tF t8 t9 t10 t11;rintro T _ _ ⟨t0,t1,t2,t3,tF,t8,t9,t10,t11,rfl,rfl⟩;refine bn (λT H'' nx''=>∃(M:List α)(m:Nat)(t:Bool),PI K a e L a1 e1 M/\TwoS K a1 e1 m M/\PS H H'' nx nx'' b (M.map f)/\T 0=.msl b n 1 0 n/\T 1=.int .i64 (a1:Nat)/\T 2=.int .i64 (e1:Nat)/\T 3=.int .i64 (lim:Nat)/\n=n/\T 8=.bool wb/\T 9=.bool wp/\T 10=.int .i64 (l:Nat)/\T 14=.int .i64 (m:Nat)/\T 15=.bool t) ?_ ?_
 ·refine wnZ (zI9 @t0 @t1 @t2 @t3 @tF @t8 @t9 @t10 @t11) ?_;refine aQ ev0 (have zz:=aI @t0 (aI @t1 (aI @t2 (aI @t3 (aI @tF (aI @t8 (aI @t9 (aI @t10 @t11)))))));evZ) (KV hc (b:=b) hps.at_ (hlen _ hpi) (hGA _ hpi) (a:=a1) (e:=e1) (pv:=p) (by omega) (by omega) hn2 ⟨hp1,hp2⟩) ?_;rintro _ _ _ ⟨rfl,N,m,t,rfl,hm1,hm2,rfl,hpN,q1,q2⟩;refine wnZ (zI9 @t0 @t1 @t2 @t3 @tF @t8 @t9 @t10 @t11) ?_;exact⟨N,m,t,hpi.swap hpN,⟨⟨hm1,hm2⟩,λp k1 k2=>hc.ord.asym _ _ (q1 p k1 k2),q2⟩,hps.upd,(have zz:=@t0;evZ),(have zz:=@t1;evZ),(have zz:=@t2;evZ),(have zz:=@t3;evZ),(have zz:=@tF;evZ),(have zz:=@t8;evZ),(have zz:=@t9;evZ),(have zz:=@t10;evZ),ev0,ev0⟩
 clear t0 t1 t2 t3 tF t8 t9 t10 t11 hbb hl hGM hpi hps hp1 hp2 p;rintro T H1 n1 ⟨M,m,t,hpi,hts,hps,t0,t1,t2,t3,tF,t8,t9,t10,t14,t15⟩;have hm:=hts.mid;have hl:=hlen _ hpi
 have tq:bv .quo false false (.int .i64 (l:Int)) (.int .i64 8)=some (.int .i64 ((l/8:Nat):Int)):=by
  rw[jr (by omega) (by omega) (by omega)]
  congr 2
 have tm:(m:Int)+1=((m+1:Nat):Int):=by omega
 by_cases hlr:(m:Int)-(a1:Int)<(e1:Int)-(m:Int)
 ·have tz:decide ((m:Int)-(a1:Int)<(e1:Int)-(m:Int))=true:=a6 hlr;refine wnZ (aI @t0 (aI @t1 (dH @t2 @t3 @tF @t8 @t9 @t10 @t14 @t15 @tq @tz))) ?_;refine aQ ev0 (have zz:=aI @t0 (aI @t1 (aI @t2 (aI @t3 (aI @tF (aI @t8 (aI @t9 (aI @t10 (aI @t14 @t15))))))));evZ) (ih a1 m lim M H1 n1 (by omega) hps.at_ (hbn _ _ _ hps) hl (hGA _ hpi) (by omega) (by omega) hlim (hpi.low.sub rfl (by omega))) ?_;rintro _ H2 n2 ⟨N,hps2,hpN,hsN⟩;refine wnZ (aI @t0 (dH @t1 @t2 @t3 @tF @t8 @t9 @t10 @t14 @t15 @tm)) ?_;exact⟨(m+1,e1,lim,decide (((l/8:Nat):Int)<=(m:Int)-(a1:Int)),t,N),by dsimp only;omega,⟨hpi.left hc.ord hts hpN hsN,hps.rec_ hps2.at_ hps2.fr hps2.le,hlim⟩,(have zz:=aI @t0 (aI @t1 (aI @t2 (aI @t3 (aI @tF (aI @t8 (aI @t9 (aI @t10 (aI @t14 @t15))))))));agZ)⟩
 ·have tz:decide ((m:Int)-(a1:Int)<(e1:Int)-(m:Int))=false:=ba hlr;refine wnZ (aI @t0 (aI @t1 (aI @t2 (dH @t3 @tF @t8 @t9 @t10 @t14 @t15 @tq @tz @tm)))) ?_;refine aQ ev0 (have zz:=aI @t0 (aI @t1 (aI @t2 (aI @t3 (aI @tF (aI @t8 (aI @t9 (aI @t10 (aI @t14 @t15))))))));evZ) (ih (m+1) e1 lim M H1 n1 (by omega) hps.at_ (hbn _ _ _ hps) hl (hGA _ hpi) (by omega) (by omega) hlim (λq k0 k1 k2=>by rw[lX];exact hts.ge q k1 k2)) ?_;rintro _ H2 n2 ⟨N,hps2,hpN,hsN⟩;refine wnZ (dH @t0 @t1 @t2 @t3 @tF @t8 @t9 @t10 @t14 @t15) ?_;exact⟨(a1,m,lim,decide (((l/8:Nat):Int)<=(e1:Int)-(m:Int)),t,N),by dsimp only;omega,⟨hpi.right hc.ord hts hpN hsN,hps.rec_ hps2.at_ hps2.fr hps2.le,hlim⟩,(have zz:=aI @t0 (aI @t1 (aI @t2 (aI @t3 (aI @tF (aI @t8 (aI @t9 (aI @t10 (aI @t14 @t15))))))));agZ)⟩
end
theorem I5{L:List Int}{H:Hp}{b nx n:Nat}(hH:H b=some (L.map λx=>.int .i64 x))(hbx:b<nx)(hn:L.length=n)(hn0:0<n)(hn2:n<=1000000000):
    Abs.Fn Tryz.prog 147 [.msl b n 1 0 n] H nx λr H' nx'=>∃L':List Int,PS H H' nx nx' b (L'.map λx=>.int .i64 x)/\L'.Perm L/\L'.Pairwise (· <= ·):=by
 refine fO JE ?_;simp only[KJ,aL];have w:IntKind.wrap .u64 (n:Int)=n:=fB (by omega) (by omega);refine wnZ @w ?_;refine aQ ev0 (have zz:=@w;evZ) (Di hn0 (by omega)) ?_;rintro _ _ _ ⟨rfl,rfl,k,rfl,h3,h4⟩
 have hk:k<=62:=by
  rcases tn 62 k with h|h
  ·have:=Nat.pow_le_pow_right (n:=2) (by omega) h;omega
  ·exact h
 refine wnZ and_self ?_;refine aQ ev0 (have zz:=@Int.natCast_zero;evZ) (Ob Md hn2 (n+1) 0 n k L _ _ (by omega) hH hbx hn (λ_ _=>trivial) (by omega) (aM _) (by omega) (λq h=>by omega)) ?_;rintro _ _ _ ⟨N,hps,hp,hs⟩;refine wnZ and_self ?_;refine⟨N,hps,hp.perm,?_⟩;rw[kE];intro i j hi hj hij;have hl:N.length=n:=by rw[hp.len,hn]
 have:=hs i j (bQ _) hij (by omega);simp only[List.getD,hi,hj,rB,tB] at this;omega
end
theorem Ef:oq 1000000000:=λa b c d e=>I5 a b c d e
theorem Dv{l:List (List Spx)}:AV.ones (l.map ao)=true:=by
 unfold AV.ones;rw[eN];intro x hx;obtain⟨y,_,rfl⟩:=bz.1 hx;rfl
theorem HR{H:Hp}{l:List (List Spx)}:f8 1 H (cJ l)=some (l.length,l.map ao):=DK (λ_=>rfl)
theorem Gf{c:List Spx}{k:Nat}{v:List Int}(hc:aB c=0)(hl:c.length<=50)(hf:iS c c.length<=400)(hk:k+1<8)(h:ms (aj c ((k:Int)+1+1)).length v=0):
    ∃w,KerV (b7 (aj c ((k:Int)+1)) (aj c k)) (bdN c k) w/\Sp (bdM c k) w/\ga (bb (aj c ((k:Int)+1+1)) v)=(bb (aj c ((k:Int)+1)) w,0)/\ShC (bb (aj c ((k:Int)+1+1)) v):=by
 have e1:((k+1:Nat):Int)=(k:Int)+1:=by omega
 obtain⟨u,rfl,u2,u3⟩:=Cj h;have hx:bd (bu u):=du u2
 have hxr:∀z∈bu u,0<=z/\z<((aj c ((k:Int)+1+1)).length:Int):=λz hz=>by
  obtain⟨i,hi,rfl⟩:=fe.1 hz;have:=u3 i hi;omega
 obtain⟨c1,c2,c3,c4,c5,c6,c7,c8⟩:=gG (k:=k+1) hc hl hf hk hx (by rw[e1];exact hxr);rw[e1] at c1 c2 c4 c5 c6 c7 c8;have hV:VR _ _:=dY (lG (c:=c) (d:=k+1) hc hl);unfold bdN at hV;rw[e1] at hV;have hl2:(b7 (aj c ((k:Int)+1+1)) (aj c ((k:Int)+1))).length=(aj c ((k:Int)+1)).length:=eV
 have hp:bw (bb (aj c ((k:Int)+1+1)) (bu u))=bb (aj c ((k:Int)+1)) (bu (ee (b7 (aj c ((k:Int)+1+1)) (aj c ((k:Int)+1))) (bu u))):=by
  rw[c8,uT λs hs=>(c7 s hs).2]
 have wa:bd (bu (ee (b7 (aj c ((k:Int)+1+1)) (aj c ((k:Int)+1))) (bu u))):=du (List.pairwise_lt_range.sublist x7)
 have wr:∀z∈bu (ee (b7 (aj c ((k:Int)+1+1)) (aj c ((k:Int)+1))) (bu u)),0<=z/\z<((aj c ((k:Int)+1)).length:Int):=λz hz=>by
  obtain⟨i,hi,rfl⟩:=fe.1 hz;have:=dE.1 (eG.1 hi).1;omega
 obtain⟨-,hca,-⟩:=cw c1;refine⟨_,(uS hc hl hf (by omega) wa wr).1 ?_,Gb hV hx,?_,c2⟩
 ·rw[<-hp];exact wU (gc (dL hca).2.1)
 ·rw[c4,hp]
theorem wJ{X:List Spx}{V:List (List Int)}{j:Nat}(h:j<V.length):(V.map (bb X)).getD j default=bb X (V.getD j default):=by
 simp[List.getD,h]
section
attribute [local irreducible] aO am bf aZ aR aS aE aU a5 bk Go.Abs.Fn aY Go.Abs.Pure au aN Yl
theorem E9(l:List (List Spx))(hl:l.length<=1000000)(H:Hp)(nx:Nat):Abs.Fn Tryz.prog 36 [cJ l] H nx λr H' nx'=>Row H' 1 r (l.map ao)/\nx<=nx'/\(∀x,x<nx->H' x=H x)/\∀b,bX r=some b->nx<=b/\b<nx':=by
 refine fO OY ?_;simp only[b36,aL];have hn:fA (cJ l)=some l.length:=by unfold cJ iA;simp[fA]
 have fin:l.length=0->l.map ao=[]:=λh=>by rw[fI.1 h];rfl
 refine wnY and_self ?_;refine tw (k:=l.length) (by((try simp only[cf,ZA,reduceEqDiff,↓reduceIte,reduceAdd,reduceLeDiff]);(try with_reducible rfl));exact hn) (λh=>?_) (λh=>?_) (λh=>?_)
 ·refine wnY and_self ?_;refine kJ rfl ev0 ev0 HR Dv (by omega) (by omega) ?_;refine wnY and_self ?_;refine⟨by simpa only[Nat.mul_one] using Row.box (sz:=1) nx l.length (l.map ao) (af (H:=H)) (by rw[bm,Nat.mul_one]),by omega,λx hx=>ae (by omega),λb hb=>by cases hb;omega⟩
 ·refine wnY and_self ?_;refine⟨by rw[fin h];exact Row.nil,aM _,λx hx=>rfl,λb hb=>(by cases hb)⟩
 ·refine wnY and_self ?_;refine kJ rfl ev0 ev0 HR Dv (by omega) (by omega) ?_;refine wnY and_self ?_;refine⟨by simpa only[Nat.mul_one] using Row.box (sz:=1) nx l.length (l.map ao) (af (H:=H)) (by rw[bm,Nat.mul_one]),by omega,λx hx=>ae (by omega),λb hb=>by cases hb;omega⟩
theorem EB(c:List Spx)(dm:Nat)(v:List Int)(hc:Shn c/\∀s∈c,Shn s)(hd:dm<256)(hv:Shn v):pU 9 [cl c,.int .u8 dm,aH v] (.bool true):=by
 refine pO is9 ?_;have aw:=Jv;simp only[b9,aL];have hv':v.length<=17592186044416:=hv;have hrem:=O0 3 (dm:=dm) (by omega);have hk3:dm%3<3:=Nat.mod_lt _ (by omega);have hw:=Oa (show dm%3<4 by omega);have e3:((3:Nat):Int)=3:=rfl;rw[e3] at hrem;generalize dm%3=k at *;have f1:=Je c [] hc.1 hc.2 (bQ _) (λa h=>(by cases h));have f2:=Iy c hc.1 hc.2;refine wnY (zI4 @ak @ag @hrem @hw) ?_;refine dh ev0 ev0 f1 (aG (ah (dt _).snap (ah (.eslsl 1) ap)) rfl) ?_;cases e1:uq c []
 ·refine wnY and_self ?_;exact .bool _
 obtain⟨-,l1,l2⟩:=Eg e1;by_cases he:aB c=0
 rotate_left
 ·have z:decide (aB c≠0)=true:=a6 he;refine wnY (zI3 @ak @ag @z) ?_;exact .bool _
 rw[he] at f2;have z0:decide ((0:Int)≠0)=false:=rfl;by_cases hl:40<v.length
 ·have z:decide ((40:Int)<v.length)=true:=a6 (by omega);refine wnY (zI5 @ak @ag @z @z0 @dW) ?_;exact .bool _
 have zl:decide ((40:Int)<v.length)=false:=ba (by omega);have hn:bdN c k<=400:=fK (vo he) l2;have s1:=wh c k (oq.le Ef (by omega)) he (by omega) (by omega) (by omega);rw[Lc he (by omega)] at s1;obtain⟨m,hm,hm8⟩:=FR he;have s2:=qw c m he (by omega) hm hm8;have hcnt:=DY he (by omega) l2 (show k+1<8 by omega)
 have hVl:(tkC c k).length<=400:=by
  have h1:=Gg (M:=bdM c k) (n:=bdN c k) (K:=bsK c k) (k:=(bsK c k).length);have h2:=(o6 (d:=k) he (show c.length<=50 by omega)).2;exact fK h1 (by omega)
 have hker:=λ{v:List Int}(h:v∈tkC c k)=>CX he (show c.length<=50 by omega) h;have hnot:=λ{v:List Int}(h:v∈tkC c k)=>IE he (show c.length<=50 by omega) l2 (show k+1<8 by omega) h;have hch:=λ{v:List Int} h=>ir (v:=v) he (show c.length<=50 by omega) l2 (show k<8 by omega) h;have hind:=λ{L:List (List Int)} h1 h2=>GI (L:=L) he (show c.length<=50 by omega) l2 (show k<8 by omega) h1 h2
 have hLc:∀{L:List (List Int)},(∀v∈L,KerV (b7 (aj c ((k:Int)+1)) (aj c k)) (bdN c k) v)->∀a∈L.map (bb (aj c ((k:Int)+1))),ShC a:=λh a ha=>by
  obtain⟨v,hv,rfl⟩:=bz.1 ha;exact(hch (h v hv)).2.1
 have s3:=nq c k ((tkC c k).map (bb (aj c ((k:Int)+1)))) he (by omega) (by omega) (.inl (by rw[bm];omega)) (by omega) (show _<=_ by rw[bm];omega) (hLc λv h=>hker h);rw[hind (λv h=>hker h) (by omega),IR] at s3;have s5:=sI c ((k:Int)+1) v (by omega) hc.2 (by omega);have hstart:=Gf (k:=k) (v:=v) he (show c.length<=50 by omega) l2 (by omega);have hfin:=λ{w:List Int} h1 h2=>F0 (c:=c) (k:=k) (v:=w) he (show c.length<=50 by omega) h1 h2;have hplus:=λ{v w:List Int} h1 h2=>HD (v:=v) (w:=w) he (show c.length<=50 by omega) l2 (show k<8 by omega) h1 h2;have hVv:=GH (k:=k) he (show c.length<=50 by omega);have hMv:=dY (mG (d:=k) he (show c.length<=50 by omega))
 have hX:∀a,(sf c ((k:Int)+1) v)=a->a=if ms (aj c ((k:Int)+1+1)).length v≠0 then([],ms (aj c ((k:Int)+1+1)).length v) else(bb (aj c ((k:Int)+1+1)) v,0):=λa h=>by
  rw[<-h];unfold sf;rw[if_neg (λh=>h he),if_neg (by omega)]
 rw[hX _ rfl] at s5;generalize hLL:(tkC c k).map (bb (aj c ((k:Int)+1)))=L at *;have hLl:L.length=(tkC c k).length:=by rw[<-hLL,bm]
 have zz:=aI @ak (aI @ag (aI @z0 (aI @zl @dW)));repeat' (first|refine zW ?_|apply a_n|refine zO ?_|refine vY ?_|refine cY ?_ (hp:=by first|exact f2|exact s1) (hs:=by(first|refine aG ?_ rfl|apply a9);(repeat' (first|exact ap|apply bI|apply bc|exact dt _));first|done|fail)|refine gTY ?_|refine cFY ?_|fail)
 refine dh ev0 ev0 s2 (a9 (ah (dt _).snap ap)) ?_
 repeat' (first|apply a_n|refine zO ?_|refine vY ?_|fail)
 refine dJ ?_;refine dJ ?_;clear zz;have zz:=@z0;repeat' (first|apply a_n|refine zO ?_|refine vY ?_|refine gTY ?_|refine cFY ?_|fail)
 refine dJ ?_
 repeat' (first|apply a_n|refine zO ?_|refine vY ?_|fail)
 refine bn (λT H nx=>T 2=aH v/\T 3=.ptr 0 1 0/\T 7=.int .i64 k/\T 8=cJ L/\T 12=.int .i64 L.length/\H=ar cH 0 [ao c]/\nx=1) ?_ ?_
 ·by_cases hkm:k<m
  ·have y1:decide ((k:Int)<m)=true:=a6 (by omega);have ly:cT (aH (btL c m))=some (.int .i64 m):=by rw[dW,sM]
   have ix:=ixV (l:=btL c m) (k:=k) (by rw[sM];exact hkm);have hg:(btL c m).getD k default=L.length:=by rw[hLl,hcnt];unfold btL;simp[List.getD,hkm]
   rw[hg] at ix;refine wnY (zI3 @ly @y1 @ix) ?_;exact⟨rfl,rfl,rfl,rfl,rfl,rfl,rfl⟩
  ·have y1:decide ((k:Int)<m)=false:=ba (by omega);have ly:cT (aH (btL c m))=some (.int .i64 m):=by rw[dW,sM]
   have hg:(L.length:Int)=0:=by rw[hLl,hcnt];exact Ji hm (by omega)
   refine wnY (aI @ly @y1) ?_;exact⟨rfl,rfl,rfl,rfl,by rw[hg];rfl,rfl,rfl⟩
 rintro T H nx ⟨t2,t3,t7,t8,t12,rfl,rfl⟩;have y2:decide ((L.length:Int)≠L.length)=false:=ba (λq=>q rfl);have zk:decide ((0:Int)=0)=true:=rfl;refine wnY (dH @ak @ag @t2 @t3 @t7 @t8 @t12 @ft @y2 @z0) ?_;refine bF (X:=Nat) (λj=>[(2,aH v),(3,.ptr 0 1 0),(7,.int .i64 k),(8,cJ L),(94,cJ L),(95,.int .i64 L.length),(96,.int .i64 j)]) (λj H nx=>j<=L.length/\H 0=some [ao c]/\0<nx) (λj=>L.length-j) 0 ⟨bQ _,af,lh⟩ (have zz:=aI @t2 (aI @t3 (aI @t7 @t8));agZ) ?_;rintro j H nx ⟨h1,g0,hnx0⟩;clear zz;clear t2 t3 t7 t8 t12;by_cases hj:j<L.length
 ·have ix:=Gk hj;have hmem:(tkC c k).getD j default∈tkC c k:=aA (by omega);have hga:L.getD j default=bb (aj c ((k:Int)+1)) ((tkC c k).getD j default):=by rw[<-hLL];exact wJ (by omega)
  obtain⟨n1,y,n2,n3,n4⟩:=hnot hmem;obtain⟨-,k2,-,-,-,k6,-⟩:=hch (hker hmem);have hne:bb (aj c ((k:Int)+1)) ((tkC c k).getD j default)≠[]:=λe=>n1 (List.map_eq_nil_iff.1 e);rw[hga] at ix;generalize bb (aj c ((k:Int)+1)) ((tkC c k).getD j default)=a at *;have u1:=JC a k2;rw[k6] at u1;have u2:=uO c a (by omega) hc.2 k2;rw[n2] at u2;have u3:=lZ c a y (by omega) hc.2 k2 n3;rw[n4] at u3;dsimp only at u1 u2;have ya:decide ((a.length:Int)=0)=false:=ba (by have:=gY.2 hne;omega);refine wnY (zI7 @ak @ag @ai @ix @g0 @z0 @ya) ?_;exact⟨j+1,by omega,⟨by omega,g0,hnx0⟩,ag0⟩
 obtain rfl:j=L.length:=by omega
 by_cases h0:ms (aj c ((k:Int)+1+1)).length v=0
 rotate_left
 ·rw[if_pos h0] at s5;dsimp only at s5;generalize ms (aj c ((k:Int)+1+1)).length v=e at *;have ye:decide (e≠0)=true:=a6 h0;refine wnY (zI4 @ak @ag @g0 @ye) ?_;exact .bool _
 rw[if_neg (λq=>q h0)] at s5;obtain⟨w,w1,w2,w3,w4⟩:=hstart h0;have s6:=C5 _ w4;rw[w3] at s6;dsimp only at s5 s6;generalize bb (aj c ((k:Int)+1+1)) v=ab at *;refine wnY (zI5 @ak @ag @g0 @z0 @ft) ?_;refine bF (X:=Nat×List Int) (λx=>[(3,.ptr 0 1 0),(7,.int .i64 k),(8,cJ L),(25,ao (bb (aj c ((k:Int)+1)) x.2)),(155,cJ L),(156,.int .i64 L.length),(157,.int .i64 x.1)]) (λx H nx=>x.1<=L.length/\KerV (b7 (aj c ((k:Int)+1)) (aj c k)) (bdN c k) x.2/\Sp (bdM c k++tkC c k) x.2/\H 0=some [ao c]/\0<nx) (λx=>L.length-x.1) (0,w) ⟨bQ _,w1,iG (λr hr=>l6 _ hr) w2,g0,hnx0⟩ ag0 ?_;rintro⟨j,w⟩ H nx ⟨h1,w1,w2,g0,hnx⟩;dsimp only at h1 w1 w2;by_cases hj:j<L.length
 ·have ix:=Gk hj;have hmem:(tkC c k).getD j default∈tkC c k:=aA (by omega);have hga:L.getD j default=bb (aj c ((k:Int)+1)) ((tkC c k).getD j default):=by rw[<-hLL];exact wJ (by omega)
  have hk2:=hker hmem;have u1:=Jp (bb (aj c ((k:Int)+1)) w) (bb (aj c ((k:Int)+1)) ((tkC c k).getD j default)) (hch w1).2.1 (hch hk2).2.1;rw[hplus w1 hk2] at u1;rw[hga] at ix;dsimp only at u1;have w1':=sH w1 hk2;have w2':=jP (hMv.app hVv).asc w2 (cR (lJ _ hmem));generalize bV w ((tkC c k).getD j default)=w' at *;refine wnY (aI @ix @z0) ?_;exact⟨(j+1,w'),by dsimp only;omega,⟨by dsimp only;omega,w1',w2',g0,hnx⟩,ag0⟩
 obtain rfl:j=L.length:=by omega
 have hmm:∀u∈tkC c k++[w],KerV (b7 (aj c ((k:Int)+1)) (aj c k)) (bdN c k) u:=λu hu=>by
  rcases eJ.1 hu with hu|hu
  ·exact hker hu
  ·rw[cC.1 hu];exact w1
 have hLL2:(tkC c k++[w]).map (bb (aj c ((k:Int)+1)))=L++[bb (aj c ((k:Int)+1)) w]:=by rw[dq,hLL];rfl
 have hll:(tkC c k++[w]).length=L.length+1:=by rw[cP,hLl];rfl
 have s7:=nq c k ((tkC c k++[w]).map (bb (aj c ((k:Int)+1)))) he (by omega) (by omega) (.inl (by rw[bm];omega)) (by omega) (show _<=_ by rw[bm];omega) (hLc hmm);rw[hind hmm (by omega),hfin w1 w2,hLL2] at s7;dsimp only at s7;generalize bb (aj c ((k:Int)+1)) w=a at *;refine wnY and_self ?_;refine ym (only 0 [ao c]) rfl (kQ g0) ?_;have hS:only 0 [ao c] 0=some [ao c]:=ma;have hsub:∀H':Hp,H' 0=some [ao c]->Sub (only 0 [ao c]) H':=λH' h=>kQ h;generalize only 0 [ao c]=S at *;simp only[ew,List.map_nil,List.getD_cons_succ,List.getD_cons_zero];refine wnY @hS ?_;refine JF (pv:=[(0,1,ao a)]) (cs:=[ao a]) ev0 rfl (by decide) rfl rfl ?_;refine d8 ?_;refine aQ ev0 ev0 (E9 L (by omega) _ _) ?_;rintro r H1 nx1 ⟨k1,k2,k3,k4⟩;have g1:=(k3 0 hnx).trans g0;refine jM ⟨hsub _ g1,?_⟩;refine d8 ?_;refine mg rfl ev0 k1 ev0 (show f8 1 H1 (.sl 1 [ao a])=some (1,[ao a]) from rfl) rfl rfl lh (by rw[bm];omega) (by rw[bm];omega) ?_;rintro s2 H2 nx2 hr2 i1 i2 i3 i4;have happ:L.map ao++[ao a]=(L++[a]).map ao:=by rw[dq];rfl
 rw[happ] at hr2;have g2:=(i3 0 (by omega) λh=>by have:=(k4 0 h).1;omega).trans g1;refine jM ⟨hsub _ g2,?_⟩;refine kg ?_;refine dh ev0 ev0 s7 (aG (ah (dt _).snap (ah (Dat.int).snap (ah (Ab hr2) ap))) rfl) ?_;refine wnY @zk ?_;exact .bool _
end
end Go.Proofs.YtekdaafnjdlenaaGreat
namespace Go.Proofs.YtekdaafnjdlenaaGreat
open Go Go.Abs Go.RowKit
section
variable{H:Type}{enc:TypeId×Value->H}{W:World}
theorem oi:fj enc Tryz.prog W 3 (AV.int .i64) (λn=>(Lit.int .i64 n).wf=true):=xy Tryz.underlying3
set_option maxRecDepth 100000 in
theorem O2:fj enc Tryz.prog W 69 dX (λ_=>True):=
 (pn Tryz.underlying69 (by kernel_rfl) (ny (off:=0) (off':=1) rfl (by kernel_rfl) oi (ny (off:=1) (off':=2) rfl (by kernel_rfl) oi vt))).map
  (λa=>(⟨a.1,a.2.1⟩:Vtx)) (λ_ _=>trivial) (λ_ _=>rfl)
theorem oXs:fj enc Tryz.prog W 70 aF Shn:=
 (nk Tryz.underlying70 (sz:=2) (by_:=16) (by kernel_rfl) (by kernel_rfl) (by omega) (λ_=>rfl) O2).mono λl h=>by have:=h.2.2;show _<=_;omega
theorem O9:fj enc Tryz.prog W 22 ao (λl=>Shn l/\∀x∈l,Shn x):=
 (nk Tryz.underlying22 (sz:=1) (by_:=24) (by kernel_rfl) (by kernel_rfl) lh (λ_=>rfl) oXs).mono λl h=>⟨by have:=h.2.2;show _<=_;omega,h.1⟩
set_option maxRecDepth 100000 in
theorem oCx:fj enc Tryz.prog W 24 cl (λl=>Shn l/\∀x∈l,Shn x):=
 (pn Tryz.underlying24 (by kernel_rfl) (ny (off:=0) (off':=1) rfl (by kernel_rfl) O9 vt)).map
  (λa=>a.1) (by rintro⟨n,u⟩ ⟨h1,_⟩;exact h1) (λ_ _=>rfl)
end
theorem sR{f:FuncId}{xs:List AV}{vs:List Value}(h:pU f xs (.bool true))(w:World)(hv:dZ (E0 (vO w)) w xs vs):
    Calls Tryz.prog f vs.toArray w λe w'=>e=.returned (.bool true)/\Below w.heap.size w w':=by
 refine(h.2 (vO w) w vs (λ_ h=>h) hv).mono ?_;rintro e w' ⟨v,imm',rfl,hb,_,_,_,hr⟩;cases hr;exact⟨rfl,hb⟩
theorem OW:laidOutB Tryz.prog=true:=by kernel_rfl
section
variable{H:Type}{enc:TypeId×Value->H}{W:World}
theorem oVi:fj enc Tryz.prog W 27 aH Shn:=
 (nk Tryz.underlying27 (sz:=1) (by_:=8) (by kernel_rfl) (by kernel_rfl) lh (λ_=>rfl) oi).mono λl h=>by have:=h.2.2;show _<=_;omega
end
theorem wf8{n:Int}(h:(Lit.int .u8 n).wf=true):0<=n/\n<256:=by
 simp only[Lit.wf,eu,iB] at h;have h1:IntKind.min .u8=0:=by decide
 have h2:IntKind.max .u8=255:=by decide
 omega
section
variable{H:Type}{enc:TypeId×Value->H}{W:World}
theorem ou8:fj enc Tryz.prog W 5 (λn:Nat=>AV.int .u8 (n:Int)) (λn=>n<256):=
 (xy Tryz.underlying5).map (fun n=>n.toNat) (fun n h=>by
  have h2:=wf8 h;omega) (λn h=>by
  have h2:=wf8 h;rw[Int.toNat_of_nonneg h2.1])
end
end Go.Proofs.YtekdaafnjdlenaaGreat
namespace Go.Proofs.YtekdaafnjdlenaaGreat
open Go Go.Abs Go.RowKit Go.ChangeShapes Go.WideShapes Go.ChangeAt
theorem vF{H:Type}{enc:TypeId×Value->H}{P:Program}{f:Func}{s:ChangeSpec}{apart fresh handsOn again:Bool}{W W':World}{args:Array Value}{v:Value}{ds gs:List (DataW H)}{before pa pv:List MemPlace}
    (hW:DataW.Whole enc P f.params.toList s.vars apart W args.toList ds gs before)
    (hres:∀(b:Nat)(sp:Nat->Bool)(hd:Bool),DataW.TrodAll enc P W' b sp hd f.resultTypes.toList (v.resultList f.resultTypes.size) (s.fn H (ds++gs)).results [])
    (hargs:∀sp:Nat->Bool,(∀p∈before,sp p.block=true)->DataW.TrodAll enc P W' 0 sp true f.params.toList args.toList (s.fn H (ds++gs)).args pa)
    (hvars:∀sp:Nat->Bool,(∀p∈before,sp p.block=true)->DataW.TrodVars enc P W' sp s.vars (s.fn H (ds++gs)).vars pv)
    (hps:before=pa++pv) (hb:Below W.heap.size W W')
    (hok:∀(j:Nat)(t:TypeId)(r:Value),f.resultTypes[j]?=some t->(v.resultList f.resultTypes.size)[j]?=some r->Value.okWide P W' .any 0 t r):
    s.post enc P f apart fresh handsOn again W args v W':=by
 have hold:∀p∈before,(λb=>decide (b<W.heap.size)) p.block=true:=λp hp=>by simpa using hW.lt p hp
 have hlt:=λp hp=>hW.lt p hp;refine⟨ds,gs,before,[],pa,pv,hW,hres _ _ _,hargs _ hold,hvars _ hold,World.keptBut_mono (λp hp=>⟨hp,?_⟩) (hb.frame _),λ_=>?_⟩
 ·rw[hps,eJ] at hp;exact Or.inr hp
 ·obtain⟨_,_,_,_,_,hz,hn⟩:=hW;refine⟨hok,_,_,([]++pa)++pv,⟨[]++pa,pv,trodAll_append (hargs _ (λ_ _=>rfl)) (hres _ _ _),hvars _ (λ_ _=>rfl),rfl,?_,?_⟩,?_⟩
  ·intro b off hp;have hp':MemPlace.cell b off∈before:=by rw[hps];simpa using hp
   rw[hb.frozen (hlt _ hp')];exact hz b off hp'
  ·intro ha;have:=hn ha;rw[hps] at this;simpa using this
  ·intro p hp _;rw[hps];simpa using hp
theorem FF{E:Env}{w:World}:dZ E w [] []:=⟨rfl,λi x y h=>(by cases h)⟩
theorem rq{E:Env}{w:World}{x:AV}{y:Value}{xs:List AV}{ys:List Value}(h:Rel E w x y)(hs:dZ E w xs ys):dZ E w (x::xs) (y::ys):=by
 refine⟨by simp[hs.1],λi a b ha hb=>?_⟩;cases i with
 |zero=>simp at ha hb;subst ha hb;exact h
 |succ i=>simp at ha hb;exact hs.2 i a b ha hb
theorem own:ownKnob Tryz.prog.godebug=none:=by kernel_rfl
end Go.Proofs.YtekdaafnjdlenaaGreat
