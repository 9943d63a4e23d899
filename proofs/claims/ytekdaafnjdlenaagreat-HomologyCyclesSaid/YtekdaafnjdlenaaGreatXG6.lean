/- Contracts of functions and plain laws, for all inputs that the theorems name. -/
import Derived.Test.YtekdaafnjdlenaaGreatXG5
import Derived.Test.YtekdaafnjdlenaaGreatXG3
import Derived.Test.YtekdaafnjdlenaaGreatXG4
import Derived.Test.YtekdaafnjdlenaaGreatRows
import Derived.WalkKit
import Derived.ProofKit
import Derived.OpenShut

set_option linter.unusedSimpArgs false
set_option linter.unusedVariables false
set_option maxHeartbeats 4000000
namespace Go.Proofs.YtekdaafnjdlenaaGreat
open Go Go.Abs
open Nat (reduceEqDiff reduceAdd reduceLeDiff)
theorem zD{H:Hp}{sv:AV}{l:List Int}(h:Row H 1 sv (l.map (AV.int .i64)))(h0:0<l.length):∃B,sv=.msl B l.length 1 0 l.length/\H B=some (l.map (AV.int .i64)):=by
 generalize hcs:l.map (AV.int .i64)=cs at h;have hl:cs.length=l.length:=by rw[<-hcs,bk]
 cases h with
 |nil=>simp at hl;omega
 |box B len cs h1 h2=>
  have e:len=l.length:=by omega
  subst e;exact⟨B,by rw[Nat.mul_one],h1⟩
def kH(E:List (List Int))(q:Nat):List Int:=E.foldl (λa r=>if (q:Int)∈r then bP a [ld r] else a) [(q:Int)]
def pd(E:List (List Int))(q:Nat):List Int:=(q:Int)::(E.filter λr=>decide ((q:Int)∈r)).map ld
def JO(E:List (List Int))(c:Nat):List Nat:=(List.range c).filter λq=>decide ((q:Int)∉E.map ld)
def nt(E:List (List Int))(c:Nat):List (List Int):=(JO E c).map (kH E)
theorem u9{E:List (List Int)}{k:Nat}:nt E (k+1)=nt E k++if (k:Int)∈E.map ld then [] else [kH E k]:=by
 unfold nt JO;rw[List.range_succ,wh,cp]
 congr 1
 by_cases h:(k:Int)∈E.map ld
 ·rw[if_pos h,A0 (by simpa using h)];rfl
 ·rw[if_neg h,A4 (by simpa using h)];rfl
theorem ul{E:List (List Int)}{k:Nat}:(nt E k).length<=k:=by
 unfold nt JO;rw[bk];exact fc (List.length_filter_le _ _) (by simp)
theorem Cw{E:List (List Int)}{q j:Nat}(h:j<E.length):pd (E.take (j+1)) q=pd (E.take j) q++if (q:Int)∈E.getD j default then [ld (E.getD j default)] else []:=by
 unfold pd;rw[bZ h,wh,cp,List.cons_append]
 congr 2
 by_cases h:(q:Int)∈E.getD j default
 ·rw[if_pos h,A4 (by simpa using h)];rfl
 ·rw[if_neg h,A0 (by simpa using h)];rfl
theorem yW{E:List (List Int)}{q:Nat}:(pd E q).length<=E.length+1:=by
 unfold pd;rw[bC,bk];exact Nat.succ_le_succ (List.length_filter_le _ _)
theorem qi{q:Nat}:∀{E:List (List Int)}{a:List Int},E.Pairwise (λr s=>ld r<ld s)->bt a->(∀r∈E,ld r∉a)->
    bt (E.foldl (λa r=>if (q:Int)∈r then bP a [ld r] else a) a)/\∀z,z∈E.foldl (λa r=>if (q:Int)∈r then bP a [ld r] else a) a↔z∈a\/ ∃r∈E,(q:Int)∈r/\z=ld r
 |[],a,_,h2,_=>⟨h2,λz=>⟨.inl,λh=>h.elim id λ⟨r,hr,_⟩=>by cases hr⟩⟩
 |x::E,a,h1,h2,h3=>by
  have hx:=ie.1 h1;rw[List.foldl_cons];by_cases h:(q:Int)∈x
  ·rw[if_pos h];have hs:bt [ld x]:=List.pairwise_singleton _ _;have hna:=h3 x (dq ..)
   have hm:∀z,z∈bP a [ld x]↔z∈a\/z=ld x:=λz=>by
    rw[dl h2 hs,c6];constructor
    ·rintro(q|q)
     ·exact .inl q.1
     ·exact .inr q.1
    ·rintro(q|rfl)
     ·exact .inl ⟨q,λe=>hna (e▸q)⟩
     ·exact .inr ⟨rfl,hna⟩
   obtain ⟨i1,i2⟩:=qi (q:=q) hx.2 (ed h2 hs) (fun r hr hz=>by
    rcases(hm _).1 hz with g|g
    ·exact h3 r (eD _ hr) g
    ·have:=hx.1 r hr;omega)
   refine⟨i1,λz=>(i2 z).trans ?_⟩;rw[hm];constructor
   ·rintro((g|g)|⟨r,hr,g⟩)
    ·exact .inl g
    ·exact .inr ⟨x,dq ..,h,g⟩
    ·exact .inr ⟨r,eD _ hr,g⟩
   ·rintro(g|⟨r,hr,g1,g2⟩)
    ·exact .inl (.inl g)
    ·rcases c9.1 hr with rfl|hr
     ·exact .inl (.inr g2)
     ·exact .inr ⟨r,hr,g1,g2⟩
  ·rw[if_neg h];obtain⟨i1,i2⟩:=qi (q:=q) hx.2 h2 (λr hr=>h3 r (eD _ hr));refine⟨i1,λz=>(i2 z).trans ?_⟩;constructor
   ·rintro(g|⟨r,hr,g⟩)
    ·exact .inl g
    ·exact .inr ⟨r,eD _ hr,g⟩
   ·rintro(g|⟨r,hr,g1,g2⟩)
    ·exact .inl g
    ·rcases c9.1 hr with rfl|hr
     ·exact absurd g1 h
     ·exact .inr ⟨r,hr,g1,g2⟩
theorem s0{E:List (List Int)}{q:Nat}(hE:Red E)(hq:(q:Int)∉E.map ld):bt (kH E q)/\∀z,z∈kH E q↔z=q\/ ∃r∈E,(q:Int)∈r/\z=ld r:=by
 have:=qi (q:=q) (a:=[(q:Int)]) hE.ord (List.pairwise_singleton _ _) (λr hr h=>hq (by rw[c6] at h;rw[<-h];exact List.mem_map_of_mem hr));exact⟨this.1,λz=>(this.2 z).trans (by rw[c6])⟩
theorem Fo{E:List (List Int)}{q:Nat}{z:Int}:z∈pd E q↔z=q\/ ∃r∈E,(q:Int)∈r/\z=ld r:=by
 unfold pd;rw[c9,bJ];constructor
 ·rintro(h|⟨r,hr,e⟩)
  ·exact .inl h
  ·have:=il.1 hr;exact .inr ⟨r,this.1,p6 this.2,e.symm⟩
 ·rintro(h|⟨r,hr,g,e⟩)
  ·exact .inl h
  ·exact .inr ⟨r,il.2 ⟨hr,aZ g⟩,e.symm⟩
theorem AQ{E:List (List Int)}{q:Nat}(hE:Red E)(hq:(q:Int)∉E.map ld):(pd E q).Nodup:=by
 unfold pd;refine List.nodup_cons.2 ⟨λh=>?_,?_⟩
 ·obtain⟨r,hr,e⟩:=bJ.1 h;exact hq (e▸List.mem_map_of_mem (il.1 hr).1)
 ·rw[List.Nodup,List.pairwise_map];exact(hE.ord.sublist EE).imp λ{x y} h e=>by omega
theorem Cs{E:List (List Int)}{q:Nat}(hE:Red E)(hq:(q:Int)∉E.map ld){L:List Int}(hp:L.Perm (pd E q))(hs:L.Pairwise (· <= ·)):L=kH E q:=by
 have hn:L.Nodup:=hp.nodup_iff.2 (AQ hE hq)
 have ha:bt L:=(hs.and hn).imp λ{x y} h=>by
  have h1:=h.1;have h2:x≠y:=h.2;show x<y;omega
 obtain⟨k1,k2⟩:=s0 hE hq;refine oY ha k1 λz=>?_;rw[hp.mem_iff,k2,Fo]
def nH(k:Nat):List AV:=List.replicate k (.bool true)
theorem CW{k i:Nat}(h:i<k):Go.Abs.mget (.bool false) false (some i) (nH k)=.bool true:=by
 show(nH k).getD i _=_;simp[nH,List.getD,h]
theorem GK{R:List (List Int)}{n q:Nat}:(trF R n q).Pairwise (· < ·):=List.Pairwise.filter _ List.pairwise_lt_range
theorem JB{R:List (List Int)}{c:Nat}(hR:R.length<=4096)(hc:c<=4096):fH R.length (trL c R):=by
 refine⟨by omega,by omega,by unfold trL;rw[bk,List.length_range];exact hc,λr hr=>?_⟩;unfold trL at hr;obtain⟨q,hq,rfl⟩:=bJ.1 hr;refine⟨λv hv=>?_,?_,uc (nk GK)⟩
 ·unfold dJ at hv;obtain⟨j,hj,rfl⟩:=bJ.1 hv;unfold trF at hj;have:=ef.1 (il.1 hj).1;omega
 ·unfold dJ;rw[bk];exact fc xw hR
def bdN(c:List Spx)(d:Nat):Nat:=(aA c ((d:Int)+1)).length
def bdM(c:List Spx)(d:Nat):List (List Int):=trL (aA c ((d:Int)+1+1)).length (dH (aA c ((d:Int)+1+1)) (aA c ((d:Int)+1)))
def bdE(c:List Spx)(d:Nat):List (List Int):=cT (bdM c d) (bdN c d)
theorem wo{c:List Spx}{d:Nat}(hc:aB c=0)(hl:c.length<=50):fH (bdN c d) (bdM c d):=by
 have h1:=cE hc hl (d:=(d:Int)+1);have h2:=cE hc hl (d:=(d:Int)+1+1);have:=JB (R:=dH (aA c ((d:Int)+1+1)) (aA c ((d:Int)+1))) (c:=(aA c ((d:Int)+1+1)).length) (by rw[gu];omega) (by omega);rw[gu] at this;exact this
theorem xI{c:List Spx}{d:Nat}:(bdE c d).length<=bdN c d:=by unfold bdE cT;rw[bk];exact jv
def bsT(E:List (List Int))(n:Nat)(K:List (List Int)):Nat->List (List Int)
 |0=>[]
 |k+1=>if (cT ((E++bsT E n K k)++[K.getD k default]) n).length=(cT (E++bsT E n K k) n).length then bsT E n K k else bsT E n K k++[K.getD k default]
theorem B0{E:List (List Int)}{n:Nat}{K:List (List Int)}:∀{k:Nat},(bsT E n K k).length<=k
 |0=>aN _
 |k+1=>by
  have:=B0 (E:=E) (n:=n) (K:=K) (k:=k);unfold bsT;split
  ·omega
  ·rw[cw];simp only[bC,dp];omega
theorem xJ{E:List (List Int)}{n:Nat}{K:List (List Int)}:∀{k:Nat},k<=K.length->∀v∈bsT E n K k,v∈K
 |0,_,v,h=>by cases h
 |k+1,hk,v,h=>by
  unfold bsT at h;split at h
  ·exact xJ (by omega) v h
  ·rcases ee.1 h with h|h
   ·exact xJ (by omega) v h
   ·rw[c6] at h;subst h;exact ay (by omega)
theorem Gw{E:List (List Int)}{n:Nat}(hE:Red E)(hv:∀r∈E,∀z∈r,0<=z/\z<(n:Int)):cT E n=E:=by
 obtain⟨h1,h2,-⟩:=gU hE.asc hv;exact oW h1 hE h2
theorem tv{c:Int}{R S:List (List Int)}(h:fH c R)(hl:S.length<=4096)(hs:∀r∈S,r∈R):fH c S:=⟨h.1,h.2.1,hl,λr hr=>h.2.2.2 r (hs r hr)⟩
theorem s9{c:Int}{R S:List (List Int)}(h:fH c R)(h2:fH c S)(hl:R.length+S.length<=4096):fH c (R++S):=⟨h.1,h.2.1,by rw[cw];exact hl,λr hr=>(ee.1 hr).elim (h.2.2.2 r) (h2.2.2.2 r)⟩
theorem jo.same{H H':Hp}{s:AV}{l:List (List Int)}(h:jo H s l)(hs:∀b,bv s=some b->H' b=H b):jo H' s l:=by
 rcases h with h|h
 ·exact .inl h
 ·exact .inr (h.same hs)
theorem tR{c:List Spx}:bQ c=.agg [ao c]:=rfl
def bsK(c:List Spx)(d:Nat):List (List Int):=nt (cT (dH (aA c ((d:Int)+1)) (aA c d)) (bdN c d)) (bdN c d)
theorem Ac{c:List Spx}{d:Nat}(hc:aB c=0)(hl:c.length<=50):fH (bdN c d) (dH (aA c ((d:Int)+1)) (aA c d)):=by
 have h1:=cE hc hl (d:=(d:Int)+1);have h2:=cE hc hl (d:=(d:Int));exact lf (X:=aA c ((d:Int)+1)) (Y:=aA c d) (by omega) (by omega)
theorem jQ{c:Nat}{R:List (List Int)}(h:fH c R):∀r∈R,∀z∈r,0<=z/\z<(c:Int):=λr hr=>(h.2.2.2 r hr).1
theorem Cf{c:Nat}{R:List (List Int)}(hc:c<=4096)(hl:R.length<=4096)(ha:∀r∈R,bt r)(hv:∀r∈R,∀z∈r,0<=z/\z<(c:Int)):fH c R:=
 ⟨by omega,by omega,hl,λr hr=>⟨hv r hr,by have:=eu (ha r hr) (hv r hr);omega,uc (ha r hr)⟩⟩
theorem wE{c:Nat}{R:List (List Int)}(h:fH c R):Red (cT R c)/\(∀v,Sp (cT R c) v↔Sp R v)/\(∀r∈cT R c,∀z∈r,0<=z/\z<(c:Int))/\(cT R c).length<=c:=by
 obtain⟨h1,h2,-⟩:=gU (dW h) (jQ h);exact⟨h1,h2,λr hr=>jG (dW h) (jQ h) ((h2 r).1 (dX hr)),by unfold cT;rw[bk];exact jv⟩
theorem Jq{E:List (List Int)}{c:Nat}(hE:Red E)(hv:∀r∈E,∀z∈r,0<=z/\z<(c:Int)):∀v∈nt E c,bt v/\∀z∈v,0<=z/\z<(c:Int):=λv h=>by
 unfold nt at h;obtain⟨q,hq,rfl⟩:=bJ.1 h;have hq:=il.1 hq;have hqc:=ef.1 hq.1;obtain⟨k1,k2⟩:=s0 hE (p6 hq.2);refine⟨k1,λz hz=>?_⟩;rcases(k2 z).1 hz with rfl|⟨r,hr,_,rfl⟩
 ·omega
 ·exact hv r hr _ (dj (hE.ne r hr))
theorem s7{c:List Spx}{d:Nat}(hc:aB c=0)(hl:c.length<=50):fH (bdN c d) (bsK c d)/\(bsK c d).length<=bdN c d:=by
 have hn:bdN c d<=3500:=cE hc hl;obtain⟨h1,-,h2,-⟩:=wE (Ac (d:=d) hc hl);have hk:=Jq h1 h2;have hll:(bsK c d).length<=bdN c d:=ul;exact⟨Cf (by omega) (by omega) (λv h=>(hk v h).1) λv h=>(hk v h).2,hll⟩
theorem IS{c:List Spx}{d:Nat}(hc:aB c=0)(hl:c.length<=50):fH (bdN c d) (bdE c d)/\Red (bdE c d)/\(∀v,Sp (bdE c d) v↔Sp (bdM c d) v):=by
 have hn:bdN c d<=3500:=cE hc hl;obtain⟨h1,h2,h3,h4⟩:=wE (wo (d:=d) hc hl);exact⟨Cf (by omega) (fc h4 (by omega)) h1.asc h3,h1,h2⟩
def Hc(o:Option Nat):List Nat:=match o with|some x=>[x]|none=>[]
theorem zc{o:Option Nat}{x:Nat}:x∈Hc o↔o=some x:=by cases o<;>simp[Hc];exact eq_comm
theorem vM{c:List Spx}{n:Nat}:aA c ((n:Int)+1)=gD c (n+1):=by
 have:=yz (c:=c) (k:=n+1);rw[if_neg (by omega)] at this;exact this
theorem qM{b:List Int}:∀{a:List Int},cK (λj=>bit j b) a=(a.filter λx=>decide (x∈b)).length
 |[]=>rfl
 |x::a=>by
  have ih:=qM (b:=b) (a:=a);show bit x b+cK _ a=_;rw[ih];by_cases h:x∈b
  ·rw[A4 (by simpa using h),bC];unfold bit;rw[if_pos h];omega
  ·rw[A0 (by simpa using h)];unfold bit;rw[if_neg h];omega
theorem Am{a b:List Int}(ha:bt a)(hb:bt b):jP a b=ro b a:=by
 unfold jP ro;have:=pB _ a b (aN _) ha hb;rw[qM];refine decide_eq_decide.2 ?_;omega
theorem ms{g:Int->Nat}{b:List Int}:∀{a:List Int},cK g (a++b)=cK g a+cK g b
 |[]=>by show _=0+_;rw[bS];rfl
 |x::a=>by
  have ih:=ms (g:=g) (b:=b) (a:=a);show g x+cK g (a++b)=g x+cK g a+cK g b;rw[ih];omega
theorem uL{g:Int->Nat}:∀{a:List Int},(∀z∈a,g z=0)->cK g a=0
 |[],_=>rfl
 |x::a,h=>by
  show g x+cK g a=0;rw[h x dq,uL λz hz=>h z (eD _ hz)]
structure VR(c:Nat)(R:List (List Int)):Prop where
 asc:∀r∈R,bt r
 rng:∀r∈R,∀z∈r,0<=z/\z<(c:Int)
def rk(R:List (List Int))(c:Nat):Nat:=(cT R c).length
theorem VR.app{c:Nat}{R S:List (List Int)}(h1:VR c R)(h2:VR c S):VR c (R++S):=
 ⟨λr hr=>(ee.1 hr).elim (h1.asc r) (h2.asc r),λr hr=>(ee.1 hr).elim (h1.rng r) (h2.rng r)⟩
theorem VR.sub{c:Nat}{R S:List (List Int)}(h:VR c R)(hs:∀r∈S,r∈R):VR c S:=⟨λr hr=>h.asc r (hs r hr),λr hr=>h.rng r (hs r hr)⟩
theorem VR.one{c:Nat}{v:List Int}(ha:bt v)(hv:∀z∈v,0<=z/\z<(c:Int)):VR c [v]:=⟨λr hr=>by rw[c6] at hr;rw[hr];exact ha,λr hr=>by rw[c6] at hr;rw[hr];exact hv⟩
theorem VR.nil{c:Nat}:VR c []:=⟨λ_ h=>(by cases h),λ_ h=>(by cases h)⟩
theorem BX{c:Nat}{R:List (List Int)}(h:fH c R):VR c R:=⟨dW h,jQ h⟩
theorem uM{R S:List (List Int)}:∀{i:Nat},(∀j,j<i->R.getD j default=S.getD j default)->stE R i=stE S i
 |0,_=>rfl
 |i+1,h=>by
  have ih:=uM (R:=R) (S:=S) (i:=i) (λj hj=>h j (by omega));have e:=h i (by omega);simp only[stE,ih,e]
theorem Gn{c:Nat}{R:List (List Int)}(h:VR c R):rk R c=(stE R R.length).1.length:=by
 obtain⟨h1,h2,h3⟩:=gU h.asc h.rng;have hs:=gv h.asc (aN R.length);unfold rk cT;rw[bk];have hn:(lw R c).Nodup:=(lU hs.red).imp (λ{x y}(q:ld x.1<ld y.1) e=>by rw[e] at q;omega);exact Nat.le_antisymm (ik hn λx hx=>(h3 x).1 hx) (ik hs.red.nodup λx hx=>(h3 x).2 hx)
theorem EJ{R:List (List Int)}(hR:∀r∈R,bt r)(v:List Int):Sp ((stE R R.length).1.map Prod.fst) v↔Sp R v:=by
 have hs:=gv hR (aN R.length);have e:R.take R.length=R:=List.take_length;constructor
 ·intro h;refine jM hR (λr hr=>?_) h;obtain⟨l,hl,rfl⟩:=bJ.1 hr;have:=hs.inS l hl
  rwa [e] at this
 ·intro h;exact jM (eB hs.red) (λr hr=>hs.all r (by rw[e];exact hr)) h
theorem FP{c:Nat}{R S:List (List Int)}(hR:VR c R)(hS:VR c S)(h:∀v,Sp R v↔Sp S v):rk R c=rk S c:=by
 obtain⟨a1,a2,-⟩:=gU hR.asc hR.rng;obtain⟨b1,b2,-⟩:=gU hS.asc hS.rng;unfold rk;rw[oW a1 b1 λv=>(a2 v).trans ((h v).trans (b2 v).symm)]
theorem GJ{c:Nat}{R:List (List Int)}{v:List Int}(h:VR c R)(ha:bt v)(hv:∀z∈v,0<=z/\z<(c:Int)):(Sp R v/\rk (R++[v]) c=rk R c)\/(¬Sp R v/\rk (R++[v]) c=rk R c+1):=by
 have hw:=h.app (VR.one ha hv);rw[Gn hw,Gn h,cw,List.length_singleton];have hs:=gv h.asc (aN R.length);have hsp:=EJ h.asc v;have hsp2:=EJ h.asc;have hx:cq (v,[(R.length:Int)]):=⟨ha,List.pairwise_singleton ..⟩
 have hyn:=λl hl=>kq hs.red hx (l:=l) hl;have hysp:Sp ((stE R R.length).1.map Prod.fst) (bP v (en (stE R R.length).1 (v,[(R.length:Int)])).1):=ub (eB hs.red) (λl hl=>⟨hs.red.asc l hl,bJ.2 ⟨l,hl,rfl⟩⟩) hx;have hya:cq (en (stE R R.length).1 (v,[(R.length:Int)])):=gZ hs.red.asc hx
 have e1:stE (R++[v]) R.length=stE R R.length:=uM λj hj=>by
  simp only[Ju,gC hj]
 have e2:(R++[v]).getD R.length default=v:=by simp[List.getD]
 have e3:stE (R++[v]) (R.length+1)=if (en (stE R R.length).1 (v,[(R.length:Int)])).1=[] then((stE R R.length).1,(stE R R.length).2++[(en (stE R R.length).1 (v,[(R.length:Int)])).2]) else(jK (stE R R.length).1 (en (stE R R.length).1 (v,[(R.length:Int)])),(stE R R.length).2):=by
  simp only[stE,e1,e2]
 rw[e3];generalize en (stE R R.length).1 (v,[(R.length:Int)])=y at *;by_cases h0:y.1=[]
 ·left;rw[if_pos h0];rw[h0,fG] at hysp;exact⟨hsp.1 hysp,rfl⟩
 ·right;rw[if_neg h0];refine⟨λq=>h0 (qt hs.red ?_ hyn),?_⟩
  ·have:=jX (eB hs.red) (hsp.2 q) hysp
   rwa [eI ha ha hya.1,fx ha,gR] at this
  ·unfold jK;rw[cw,bk];rfl
theorem F0{R S T:List (List Int)}(hS:∀r∈S,bt r)(hT:∀r∈T,bt r)(h:∀r∈R,Sp S r){v:List Int}(hv:Sp (R++T) v):Sp (S++T) v:=
 jM (λr hr=>(ee.1 hr).elim (hS r) (hT r)) (λr hr=>(ee.1 hr).elim (λq=>jY (λx hx=>mA _ hx) (h r q)) λq=>dX (lQ _ q)) hv
theorem DT{c:Nat}{R S:List (List Int)}(hR:VR c R)(hS:VR c S):rk (cT R c++S) c=rk (R++S) c:=by
 obtain⟨a1,a2,-⟩:=gU hR.asc hR.rng;have hE:VR c (cT R c):=⟨a1.asc,λr hr=>jG hR.asc hR.rng ((a2 r).1 (dX hr))⟩
 exact FP (hE.app hS) (hR.app hS) λv=>⟨F0 hR.asc hS.asc λr hr=>(a2 r).1 (dX hr),F0 hE.asc hS.asc λr hr=>(a2 r).2 (dX hr)⟩
structure KerV(R:List (List Int))(c:Nat)(x:List Int):Prop where
 asc:bt x
 rng:∀z∈x,0<=z/\z<(c:Int)
 dot:∀r∈R,cK (λz=>bit z r) x%2=0
theorem ze{L:List Ln}{w:List Int}{z:Int}:z∈lW L w↔ ∃l∈L,jP l.2 w=true/\ld l.1=z:=by
 unfold lW;simp only[bJ,il];exact⟨λ⟨l,⟨h1,h2⟩,h3⟩=>⟨l,h1,h2,h3⟩,λ⟨l,h1,h2,h3⟩=>⟨l,⟨h1,h2⟩,h3⟩⟩
theorem EN{M:List Ln}{c:Nat}{w:List Int}(hM:RedU M):bt (lW (lM M c) w):=by
 unfold lW bt;rw[List.pairwise_map];exact(lU hM).sublist EE
theorem yf{M:List Ln}{c:Nat}{w:List Int}(hM:RedU M):∀z∈lW (lM M c) w,0<=z/\z<(c:Int):=λz hz=>by
 obtain⟨l,h1,_,rfl⟩:=ze.1 hz;exact((pA hM).1 h1).2
theorem DG{R:List (List Int)}{c:Nat}{w:List Int}(hR:∀r∈R,bt r)(hv:∀r∈R,∀z∈r,0<=z/\z<(c:Int))(hw:bt w)(h0:∀y∈(stE R R.length).2,ro w y=false){i:Nat}(hi:i<R.length):cK (λz=>bit z (lW (lw R c) w)) (R.getD i default)%2=bit (i:Int) w:=by
 have hsy:=CK hR hv h0;obtain⟨w1,w2,w3⟩:=n4 (b:=w) hR hv;obtain⟨e1,e2,e3⟩:=gU w1 w2;rw[oT w1 w2] at hsy;have hs:=gv hR (aN R.length);have hM:=hs.red;have d3:=(gU hR hv).2.2;have hlv:∀l∈(stE R R.length).1,∀z∈l.1,0<=z/\z<(c:Int):=λl hl=>jG hR hv (jY (λr hr=>jx hr) (hs.inS l hl))
 have hxm:∀z,z∈lW (lw R c) w↔ ∃l∈(stE R R.length).1,jP l.2 w=true/\ld l.1=z:=λz=>by
  rw[ze];exact⟨λ⟨l,h1,h2⟩=>⟨l,(d3 l).1 h1,h2⟩,λ⟨l,h1,h2⟩=>⟨l,(d3 l).2 h1,h2⟩⟩
 have hxc:∀z∈lW (lw R c) w,z<(c:Int):=λz hz=>(yf hM z hz).2;generalize lW (lw R c) w=x at *
 have hgz:∀z:Int,z<(c:Int)->bit z (x++[(c:Int)])=bit z x:=λz hz=>by
  unfold bit;by_cases h:z∈x
  ·rw[if_pos h,if_pos (ee.2 (.inl h))]
  ·rw [if_neg h,if_neg fun q=>by
     rcases ee.1 q with q|q
     ·exact h q
     ·have:=c6.1 q;omega]
 have hgc:bit (c:Int) (x++[(c:Int)])=1:=dG.2 (ee.2 (.inr (c6.2 rfl)));have hwi:(lF R c w).getD i default∈lF R c w:=ay (by unfold lF;simpa using hi);have hsp:=(e2 _).2 (dX hwi);rw[hsy,zo hi] at hsp
 have hz:=Cg (g:=λz=>bit z (x++[(c:Int)])) hsp λd hd=>by
  obtain⟨l,hl,rfl⟩:=bJ.1 hd;have hl:=(d3 l).1 hl;have hla:=hM.asc l hl;have hne:=hM.ne l hl;have hsame:∀l'∈(stE R R.length).1,ld l'.1∈l.1->l=l':=λl' hl' h=>hM.own l' hl' l hl h;have hlc:=hlv l hl
  have hld:cK (λz=>bit z (x++[(c:Int)])) l.1=bit (ld l.1) x:=by
   have hldm:=dj hne;cases hq:l.1 with
   |nil=>exact absurd hq hne
   |cons z t=>
    rw[hq] at hldm hsame hlc hla;have hz:ld (z::t)=z:=rfl;rw[hz];show bit z (x++[(c:Int)])+cK _ t=_;rw[hgz z (hlc z dq).2,uL (a:=t) λu hu=>?_]
    ·omega
    ·have huc:=hlc u (eD _ hu);rw[hgz u huc.2];unfold bit;rw[if_neg λhux=>?_];obtain⟨l',h1,_,h3⟩:=(hxm u).1 hux;have h4:=hsame l' h1 (by rw[h3];exact eD _ hu);have h5:=(ie.1 hla.1).1 u hu;rw[<-h4,hq] at h3;have:ld (z::t)=z:=rfl;omega
  have hbx:bit (ld l.1) x=if ro w l.2=true then 1 else 0:=by
   rw[<-Am hla.2 hw];unfold bit;by_cases h:jP l.2 w=true
   ·rw[if_pos ((hxm _).2 ⟨l,hl,h,rfl⟩),if_pos h]
   ·rw[if_neg λq=>?_,if_neg h];obtain⟨l',h1,h2,h3⟩:=(hxm _).1 q;have:=hsame l' h1 (by rw[h3];exact dj hne);rw[this] at h;exact h h2
  unfold wdL;by_cases h:ro w l.2=true
  ·rw[if_pos h,ms,hld,hbx,if_pos h];show(1+(bit (c:Int) (x++[(c:Int)])+0))%2=0;rw[hgc]
  ·rw[if_neg h,hld,hbx,if_neg h]
 have hri:=hv _ (ay hi);have hcg:cK (λz=>bit z (x++[(c:Int)])) (R.getD i default)=cK (λz=>bit z x) (R.getD i default):=lh λz hz=>hgz z (hri z hz).2;unfold wdR at hz;by_cases h:(i:Int)∈w
 ·rw[if_pos h,ms,hcg] at hz;have hz:(cK (λz=>bit z x) (R.getD i default)+(bit (c:Int) (x++[(c:Int)])+0))%2=0:=hz;rw[hgc] at hz;unfold bit at hz |-;rw[if_pos h];omega
 ·rw[if_neg h,hcg] at hz;unfold bit at hz |-;rw[if_neg h];exact hz
def tkT(M:List (List Int))(n:Nat)(K:List (List Int)):Nat->List (List Int)
 |0=>[]
 |k+1=>if rk (M++(tkT M n K k++[K.getD k default])) n=rk M n+((tkT M n K k).length+1) then tkT M n K k++[K.getD k default] else tkT M n K k
theorem uj{M:List (List Int)}{n:Nat}{K:List (List Int)}:∀{k:Nat},k<=K.length->∀v∈tkT M n K k,v∈K
 |0,_,v,h=>by cases h
 |k+1,hk,v,h=>by
  unfold tkT at h;split at h
  ·rcases ee.1 h with h|h
   ·exact uj (by omega) v h
   ·rw[c6] at h;subst h;exact ay (by omega)
  ·exact uj (by omega) v h
theorem Ax{M:List (List Int)}{n:Nat}{K:List (List Int)}:∀{k:Nat},(tkT M n K k).length<=k
 |0=>aN _
 |k+1=>by
  have:=Ax (M:=M) (n:=n) (K:=K) (k:=k);unfold tkT;split
  ·rw[cw];simp only[bC,dp];omega
  ·omega
theorem B8{M:List (List Int)}{n:Nat}{K:List (List Int)}:∀{k:Nat},rk (M++tkT M n K k) n=rk M n+(tkT M n K k).length
 |0=>by show rk (M++[]) n=rk M n+0;rw[fp];rfl
 |k+1=>by
  have:=B8 (M:=M) (n:=n) (K:=K) (k:=k);unfold tkT;split
  ·rename_i h;rw[h,cw];rfl
  ·exact this
theorem K6{M:List (List Int)}{n:Nat}{K:List (List Int)}(hK:VR n K){k:Nat}(hk:k<=K.length):VR n (tkT M n K k):=hK.sub (uj hk)
theorem Ix{M:List (List Int)}{n:Nat}{K:List (List Int)}(hM:VR n M)(hK:VR n K):∀{k:Nat},k<=K.length->bsT (cT M n) n K k=tkT M n K k
 |0,_=>rfl
 |k+1,hk=>by
  have ih:=Ix hM hK (k:=k) (by omega);have hf:=B8 (M:=M) (n:=n) (K:=K) (k:=k);have hV:=K6 (M:=M) hK (k:=k) (by omega);have hm:K.getD k default∈K:=ay (by omega);have h1:=DT hM hV;have hV2:=hV.app (VR.one (hK.asc _ hm) (hK.rng _ hm));have h2:=DT hM hV2;have h3:=GJ (hM.app hV) (hK.asc _ hm) (hK.rng _ hm);rw[kI] at h3;unfold bsT tkT;rw[ih,kI];change (if rk (cT M n++(tkT M n K k++[K.getD k default])) n=rk (cT M n++tkT M n K k) n then _ else _)=_;rw[h1,h2];generalize rk (M++(tkT M n K k++[K.getD k default])) n=a at *;rcases h3 with⟨_,e⟩|⟨_,e⟩
  ·rw[if_pos e,if_neg (by omega)]
  ·rw[if_neg (by omega),if_pos (by omega)]
theorem BB{n:Nat}{x:List Int}(ha:bt x)(hr:∀z∈x,0<=z/\z<(n:Int)):sS n x=0:=by
 unfold sS;refine dL λk hk=>?_;rw[sE];have h1:=hr _ (ay hk);rw[if_neg (by omega),if_neg];rintro⟨h0,h2⟩;have h3:=kp.1 ha (k-1) k (by omega) hk (by omega);have e1:x.getD k default=x[k]:=by simp[List.getD,hk]
 have e2:x.getD (k-1) default=x[k-1]:=by simp[List.getD,show k-1<x.length by omega]
 omega
def cyT(c:List Spx)(d:Nat):List (List Spx):=(bsT (bdE c d) (bdN c d) (bsK c d) (bsK c d).length).map (c7 (aA c ((d:Int)+1)))
theorem yK{H:Hp}{s:AV}{l:List (List Spx)}(h:Row H 1 s (l.map ao)):Snap H s (cJ l):=h.snapL' (λ_=>rfl) (λx _=>bK x)
theorem Fc{H:Hp}{b n j:Nat}{l:List Int}(hb:H b=some (l.map (AV.int .i64)))(hn:l.length=n)(hj:j<=n):Snap H (.msl b n 1 0 j) (aE (l.take j)):=by
 refine jk hb (by simp[hn]) (by omega) (by simp[hn,hj]) (λy hy=>by simp only[bJ] at hy;obtain⟨n,_,rfl⟩:=hy;rfl) (λi a c ha hc=>?_);rw[bS] at ha;rw[lV,iT] at hc;rw[lV] at ha;split at hc
 ·rw[ha] at hc;cases hc;obtain⟨z,_,rfl⟩:=Option.map_eq_some_iff.1 ha;exact .int _ _
 ·cases hc
def HS(l:List Int)(k:Int):Bool:=match l with
 |[]=>false
 |x::r=>!((((x-1)::r).take (min (k+1) ((r.length+1:Nat):Int)).toNat).any λn=>decide (n≠0))
theorem HB{c:List Spx}{m:Nat}:(btL c m).length=m:=by unfold btL;simp
theorem I6{c:List Spx}{m:Nat}(hc:aB c=0)(hl:c.length<=50):∀x∈btL c m,-7000<=x/\x<=7000:=λx hx=>by
 unfold btL at hx;obtain⟨d,_,rfl⟩:=bJ.1 hx;unfold btF;have h1:=cE hc hl (d:=(d:Int)+1);have h2:=cE hc hl (d:=((d+1:Nat):Int)+1);have h3:=xq (c:=c) (d:=d);have h4:=xq (c:=c) (d:=d+1);omega
def ma(c:List Spx):Nat->Nat
 |0=>0
 |k+1=>ma c k+2^min (c.getD k default).length 10
theorem wQ{c:List Spx}:∀k,ma c k<=1024*k
 |0=>bz _
 |k+1=>by
  have ih:=wQ (c:=c) k;have:2^min (c.getD k default).length 10<=2^10:=Nat.pow_le_pow_right (by omega) (by omega);unfold ma;omega
theorem tc:∀{l:Spx}{k:Nat},(co l k).length<=2^l.length
 |l,0=>by rw[mq];exact Nat.one_le_two_pow
 |[],k+1=>by rw[sY];simp
 |x::l,k+1=>by
  have h1:=tc (l:=l) (k:=k);have h2:=tc (l:=l) (k:=k+1);rw[gP,cw,bk,bC,Nat.pow_succ];omega
theorem Ee{c:List Spx}{n:Nat}(h8:∀s∈c,s.length<=8):∀k,k<=c.length->((c.take k).flatMap λs=>co s n).length<=ma c k
 |0,_=>by simp
 |k+1,hk=>by
  have ih:=Ee (n:=n) h8 k (by omega);have h1:=h8 _ (ay (l:=c) (i:=k) (by omega));have h2:=tc (l:=c.getD k default) (k:=n);rw[bZ (show k<c.length by omega),List.flatMap_append,cw];unfold ma;rw[Nat.min_eq_left (by omega)];simp only[uq,List.flatMap_nil,fp];omega
theorem Gb{c:List Spx}(hc:aB c=0){d:Int}:(aA c d).length<=ma c c.length:=by
 unfold aA;split
 ·simp
 ·unfold gD;have h:=Ee (c:=c) (n:=d.toNat) (λs hs=>(cA ((dg hc).2.1 s hs)).2.1) c.length (aN _);rw[List.take_length] at h;exact fc o9 h
theorem IM{α:Type}[BEq α][LawfulBEq α]{K:α->α->Int}(hK:LinK K){L:List α}(hL:cl K L){x y:α}(hx:x∈L)(hy:y∈L)(h:K x y<0):L.idxOf x<L.idxOf y:=by
 have i1:=pX.2 hx;have i2:=pX.2 hy;have g1:L[L.idxOf x]=x:=List.getElem_idxOf i1;have g2:L[L.idxOf y]=y:=List.getElem_idxOf i2;rcases sG (L.idxOf x) (L.idxOf y) with q|q|q
 ·exact q
 ·have:x=y:=by
    rw[<-g1,<-g2];congr 1
  rw[this] at h;exact absurd h (hK.ord.irr y)
 ·have:=kp.1 hL _ _ i2 i1 q;rw[g1,g2] at this;exact absurd h (hK.ord.asym _ _ this)
theorem Fy{L a:List Spx}(hL:cl bq L)(ha:cl bq a)(h:∀s∈a,s∈L):(tQ L a).Pairwise (· < ·):=by
 unfold tQ;rw[List.pairwise_map];exact ha.imp_of_mem λ{x y} hx hy hxy=>IM mG hL (h x hx) (h y hy) hxy
theorem kC{c a:List Spx}{v:List Int}(h:iC c a=(v,0)):aB c=0/\jV a=0/\v=dJ (tQ (aA c (eN a)) a)/\(∀s∈a,s∈aA c (eN a))/\bt v/\∀z∈v,0<=z/\z<((aA c (eN a)).length:Int):=by
 unfold iC at h;split at h
 ·rename_i q;exact absurd (congrArg Prod.snd h) q
 rename_i q1;split at h
 ·rename_i q;exact absurd (congrArg Prod.snd h) q
 rename_i q2;have e1:aB c=0:=by simpa using q1
 have e2:jV a=0:=by simpa using q2
 split at h
 ·rename_i q;subst q;cases h;exact⟨e1,e2,rfl,λs hs=>(by cases hs),pp,λz hz=>(by cases hz)⟩
 split at h
 rotate_left
 ·cases h
 rename_i q3 q4;cases h;have hm:∀s∈a,s∈aA c (eN a):=λs hs=>p6 (eF.1 q4 s hs);refine⟨e1,e2,rfl,hm,nk (Fy qu (oh e2).2.2.1 hm),λz hz=>?_⟩;obtain⟨i,hi,rfl⟩:=zJ.1 hz;unfold tQ at hi;obtain⟨s,hs,rfl⟩:=bJ.1 hi;have:=pX.2 (hm s hs);omega
section
attribute [local irreducible] aM ak bg aY aR aS aF aV a6 bj Go.Abs.Fn aX Go.Abs.Pure ar aL Yl
theorem D1(c:Nat)(R:List (List Int))(hm:fH c R)(hso:nA (c+1)):pU 103 [cQ c R] (.tup [cQ c (nt (cT R c) c),.int .i64 0]):=by
 refine pO KV ?_;simp only[Lp,aG];have he:=n8 c R hm;have z0:decide ((0:Int)≠0)=false:=rfl;have hd:Dat (.agg [.int .i64 c,bi R]):=cr c R;have hmc:=hm.2.1;have hmv:∀r∈R,∀z∈r,0<=z/\z<(c:Int):=λr hr z hz=>(hm.2.2.2 r hr).1 z hz;obtain⟨hred,hsp,-⟩:=gU (dW hm) hmv;have hEv:∀r∈cT R c,∀z∈r,0<=z/\z<(c:Int):=λr hr=>jG (dW hm) hmv ((hsp r).1 (dX hr));have hEl:(cT R c).length<=c:=by unfold cT;rw[bk];exact jv
 rw[bU,bU] at he;rw[bU,bU];generalize cT R c=E at *;clear hsp;refine wnY (aI @z0 @bG) ?_;refine uX ?_;refine wnY @bG ?_;refine lpI (X:=Nat) (λk=>[(1,.ptr 0 2 0),(2,.ptr 1 2 0),(4,.ptr 2 2 0),(6,.ptr 3 2 0),(7,.mp 4),(28,bi E),(29,.int .i64 E.length),(30,.int .i64 k)]) (λk H nx=>k<=E.length/\5<=nx/\H 0=some [.int .i64 c,bi R]/\H 1=some [.int .i64 0,.esl]/\H 2=some [.int .i64 c,bi E]/\H 3=some [.int .i64 c,.esl]/\H 4=some [.omap (((E.take k).map ld).map (AV.int .i64)) (nH k)]) (λk=>E.length-k) 0 ⟨bz _,aN _,rfl,rfl,rfl,rfl,rfl⟩ ?_;rintro k H nx ⟨g1,g2,g3,g4,g5,g6,g7⟩;by_cases hk:k<E.length
 ·have ix:=t5 hk;have hn:=hred.ne _ (ay (l:=E) hk);have ix0:=Dg hn;have hmf:=iz (ld (E.getD k default)) ((E.take k).map ld)
  have hni:ld (E.getD k default)∉(E.take k).map ld:=λh=>by
   obtain⟨r,hr,e⟩:=bJ.1 h;obtain⟨i,hi,e2⟩:=jW hr;rw[fL] at hi;have hi2:i<E.length:=by omega
   have:=kp.1 hred.ord i k hi2 hk (by omega);rw[List.getElem_take] at e2;rw[show E[k]=E.getD k default by simp[List.getD,hk]] at this;rw[e2] at this;omega
  rw[if_neg hni] at hmf;have hts:=bZ hk
  have hml:((E.take (k+1)).map ld).map (AV.int .i64)=((E.take k).map ld).map (AV.int .i64)++[.int .i64 (ld (E.getD k default))]:=by
   rw[hts,cp,cp];rfl
  have htr:nH (k+1)=nH k++[.bool true]:=by unfold nH;rw[List.replicate_succ']
  generalize E.getD k default=r at *;refine wnY (aI @ix @ix0) ?_;refine pG ev0 g7 ev0 ev0 rfl hmf ?_;refine wnY and_self ?_;refine⟨k+1,by omega,⟨by omega,by omega,(ac (by omega)).trans g3,(ac (by omega)).trans g4,(ac (by omega)).trans g5,(ac (by omega)).trans g6,?_⟩,ag0⟩;rw[ae,hml,htr];rfl
 obtain rfl:k=E.length:=by omega
 rw[fI (aN _)] at g7;clear hk g1;refine wnY @g3 ?_;refine lpI (X:=AV×Nat) (λx=>[(1,.ptr 0 2 0),(2,.ptr 1 2 0),(4,.ptr 2 2 0),(6,.ptr 3 2 0),(7,.mp 4),(40,.int .i64 c),(41,.int .i64 x.2)]) (λx H nx=>x.2<=c/\5<=nx/\H 0=some [.int .i64 c,bi R]/\H 1=some [.int .i64 0,.esl]/\H 2=some [.int .i64 c,bi E]/\H 3=some [.int .i64 c,x.1]/\H 4=some [.omap ((E.map ld).map (AV.int .i64)) (nH E.length)]/\Row H 1 x.1 ((nt E x.2).map aE)/\∀b,bv x.1=some b->4<b/\b<nx) (λx=>c-x.2) (.esl,0) ⟨bz _,g2,g3,g4,g5,g6,g7,Row.nil,λb h=>(by cases h)⟩ ?_;clear g2 g3 g4 g5 g6 g7;rintro⟨sv,k⟩ H nx ⟨g1,g2,g3,g4,g5,g6,g7,g8,g9⟩;dsimp only at g1 g2 g3 g4 g5 g6 g7 g8 g9 |-;by_cases hk:k<c
 rotate_left
 ·obtain rfl:k=c:=by omega
  obtain⟨o1,o2⟩:=g8.one;refine wnY (zI4 @g6 @g4 @o1 @o2) ?_;refine jL (ln (g8.same λb hb=>?_)) rfl;have:=g9 b hb;rw[ac (by omega)]
 have hmf:=iz (k:Int) (E.map ld);have hks:=u9 (E:=E) (k:=k);by_cases hlead:(k:Int)∈E.map ld
 ·rw[if_pos hlead] at hmf;rw[if_pos hlead,fp] at hks;have hgt:Go.Abs.mget (.bool false) false (some ((E.map ld).idxOf (k:Int))) (nH E.length)=.bool true:=CW (by have:=List.idxOf_lt_length_of_mem hlead;rwa [bk] at this);refine dI ?_;refine wnY and_self ?_;refine jg ev0 g7 ev0 rfl hmf ?_;rw[hgt];refine wnY and_self ?_;refine⟨(sv,k+1),by dsimp only;omega,⟨by dsimp only;omega,by omega,g3,g4,g5,g6,g7,?_,g9⟩,ag0⟩;dsimp only;rw[hks];exact g8
 rw[if_neg hlead] at hmf hks;refine wnY and_self ?_;refine jg ev0 g7 ev0 rfl hmf ?_;have hgf:Go.Abs.mget (.bool false) false none (nH E.length)=.bool false:=rfl;rw[hgf];refine wnY (aI @bG @g5) ?_;refine lpI (X:=AV×Nat) (λx=>[(1,.ptr 0 2 0),(2,.ptr 1 2 0),(4,.ptr 2 2 0),(6,.ptr 3 2 0),(7,.mp 4),(10,.int .i64 k),(11,x.1),(40,.int .i64 c),(41,.int .i64 k),(50,bi E),(51,.int .i64 E.length),(52,.int .i64 x.2)]) (λx H' nx'=>x.2<=E.length/\nx<=nx'/\(∀b,b<nx->H' b=H b)/\Row H' 1 x.1 ((pd (E.take x.2) k).map (AV.int .i64))/\∀b,bv x.1=some b->nx<=b/\b<nx') (λx=>E.length-x.2) (.msl nx 1 1 0 1,0) ⟨bz _,by omega,λb hb=>ac (by omega),?_,λb hb=>by cases hb;omega⟩ ?_
 ·exact Row.box nx 1 [.int .i64 k] ae rfl
 rintro⟨kv,j⟩ H' nx' ⟨h1,h2,h3,h4,h5⟩;dsimp only at h1 h2 h3 h4 h5 |-;by_cases hj:j<E.length
 ·have ix:=t5 hj;have hrm:=ay (l:=E) hj;have hn:=hred.ne _ hrm;have ix0:=Dg hn;have hks:=Cw (E:=E) (q:=k) hj;have hul:=yW (E:=E.take j) (q:=k);rw[fL] at hul;have hha:=Gg (E.getD j default) k (by have:=eu (hred.asc _ hrm) (hEv _ hrm);omega) (hred.asc _ hrm);generalize E.getD j default=r at *;by_cases hin:(k:Int)∈r
  ·rw[if_pos hin] at hks;rw[aZ hin] at hha;refine wnY (aI @ix @ix0) ?_;refine eR (h4.same λb hb=>?_) ?_
   ·have:=h5 b hb;rw[ac (by omega)]
   rintro s2 H2 nx2 hr2 i1 i2 i3 i4;refine wnY and_self ?_;refine⟨(s2,j+1),by dsimp only;omega,⟨by dsimp only;omega,by omega,λb hb=>?_,?_,λb hb=>?_⟩,ag0⟩
   ·exact(i3 b (by omega) λe=>by have:=h5 b e;omega).trans ((ac (by omega)).trans (h3 b hb))
   ·dsimp only;rw[hks,cp];exact hr2
   ·rcases i4 b hb with h|h
    ·have:=h5 b h;omega
    ·omega
  ·rw[if_neg hin,fp] at hks;rw[aW hin] at hha;refine wnY (aI @ix @ix0) ?_;refine⟨(kv,j+1),by dsimp only;omega,⟨by dsimp only;omega,h2,h3,by dsimp only;rw[hks];exact h4,h5⟩,ag0⟩
 obtain rfl:j=E.length:=by omega
 rw[fI (aN _)] at h4;have hul:=yW (E:=E) (q:=k);have hu0:0<(pd E k).length:=Nat.succ_pos _;obtain⟨B,rfl,hB⟩:=zD h4 hu0;have hBn:=h5 B rfl;refine wnY and_self ?_;refine aO ev0 ev0 (hso hB hBn.2 rfl hu0 (by omega)) ?_;rintro _ H2 nx2 ⟨L',hps,hperm,hsrt⟩;obtain rfl:=Cs hred hlead hperm hsrt;have hlen:=hperm.length_eq;have q0:∀b,b<nx->H2 b=H b:=λb hb=>(hps.fr b (by omega) (by omega)).trans (h3 b hb);have hle:=hps.le
 have hsn:Snap (only B ((kH E k).map (AV.int .i64))) (.msl B (pd E k).length 1 0 (pd E k).length) (aE (kH E k)):=by
  rw[<-hlen];have:=Row.box (sz:=1) B (kH E k).length ((kH E k).map (AV.int .i64)) gA (by rw[bk,Nat.mul_one]);rw[Nat.mul_one] at this;exact this.snapI
 clear hB hperm hsrt h4 hul hu0;generalize kH E k=v at *;refine jF (a_n ?_);refine pD _ _ [(1,.ptr 0 2 0),(2,.ptr 1 2 0),(4,.ptr 2 2 0),(6,.ptr 3 2 0),(7,.mp 4),(11,aE v),(40,.int .i64 c),(41,.int .i64 k)] (Fz.one hps.at_) ⟨.inl rfl,.inl rfl,.inl rfl,.inl rfl,.inl rfl,.inr hsn,.inl rfl,.inl rfl,trivial⟩ ?_;have q:∀b,b<nx->cW H2 B b=H b:=λb hb=>(b9 (by omega)).trans (q0 b hb);clear hps q0 hsn;generalize cW H2 B=H4 at *;have q3:=(q 3 (by omega)).trans g6;have kll:=ul (E:=E) (k:=k);refine wnY @q3 ?_;refine eR (g8.same λb hb=>?_) ?_
 ·have:=g9 b hb;rw[ac (by omega)];exact q b (by omega)
 rintro s2 H3 nx3 hr2 i1 i2 i3 i4;have hdo:∀b,b<=4->bv sv≠some b:=λb hb e=>by have:=g9 b e;omega
 have lo2:∀b,b<=4->H3 b=H b:=λb hb=>(i3 b (by omega) (hdo b hb)).trans ((ac (by omega)).trans (q b (by omega)))
 have hn2:∀b,bv s2=some b->4<b/\b<nx3:=λb hb=>by
  rcases i4 b hb with h|h
  ·have:=g9 b h;omega
  ·omega
 have k6:=(lo2 3 (by omega)).trans g6;obtain⟨o1,o2⟩:=hr2.one;refine wnY (zI3 @k6 @o1 @o2) ?_;refine⟨(s2,k+1),by dsimp only;omega,⟨by dsimp only;omega,by omega,(ac (by omega)).trans ((lo2 0 (by omega)).trans g3),(ac (by omega)).trans ((lo2 1 (by omega)).trans g4),(ac (by omega)).trans ((lo2 2 (by omega)).trans g5),by rw[ae];rfl,(ac (by omega)).trans ((lo2 4 (by omega)).trans g7),?_,hn2⟩,ag0⟩;dsimp only;rw[hks,cp];exact hr2.same λb hb=>by have:=hn2 b hb;rw[ac (by omega)]
theorem uo(c:List Spx)(d:Nat)(hc:aB c=0)(hl:c.length<=50)(hd:d<=7)(H:Hp)(nx:Nat):
    Abs.Fn Tryz.prog 81 [bQ c,.int .i64 d] H nx λr H' nx'=>∃b,r=.tup [.ptr b 3 0,.int .i64 0]/\nx<=b/\b<nx'/\(∀x,x<nx->H' x=H x)/\H' b=some [.int .i64 (bdN c d),bi (bdE c d),.int .i64 (bdE c d).length]:=by
 refine fO NN ?_;simp only[b81,aG];have he:=mR c (d+1) hc hl (by omega);have hs:=rK c d hc hl (by omega);have h2:=cE hc hl (d:=(d:Int)+1+1);have h1:=cE hc hl (d:=(d:Int)+1);rw[show((d+1:Nat):Int)=(d:Int)+1 by omega] at he;have ht:=yI (aA c ((d:Int)+1+1)).length (dH (aA c ((d:Int)+1+1)) (aA c ((d:Int)+1))) (lf (by omega) (by omega));rw[gu] at ht;have hel:(bdE c d).length<=bdN c d:=xI;have hec:pU 134 [cQ (bdN c d) (bdM c d)] (.tup [cQ (bdN c d) (bdE c d),.int .i64 0]):=n8 _ _ (wo hc hl);have hq:((aA c ((d:Int)+1)).length:Int)=bdN c d:=rfl;have hm:trL (aA c ((d:Int)+1+1)).length (dH (aA c ((d:Int)+1+1)) (aA c ((d:Int)+1)))=bdM c d:=rfl;rw[hm] at ht;rw[hq] at hs ht;have z0:decide ((0:Int)≠0)=false:=rfl;have z2:ao c=ao c:=rfl;generalize dH (aA c ((d:Int)+1+1)) (aA c ((d:Int)+1))=R at *;generalize (aA c ((d:Int)+1+1)).length=m at *;generalize bdM c d=M at *;generalize bdE c d=E at *;have hN:bdN c d<=3500:=h1;generalize bdN c d=n at *;have d1:Dat (.agg [.int .i64 m,bi R]):=cr m R;have d2:Dat (.agg [.int .i64 n,bi M]):=cr n M;rw[bU] at he ht hec;rw[bU] at ht hec;refine wnY (zI4 @z0 @ai @ah @bG) ?_;exact⟨nx+3,rfl,by omega,by omega,λx hx=>by(repeat rw[ac (by omega)]),ae⟩
theorem Gl(c:List Spx)(d:Nat)(H:Hp)(nx:Nat):Abs.Fn Tryz.prog 50 [bQ c,.int .i64 d] H nx λr H' nx'=>r=.func 102 [.ptr nx 1 0,.ptr (nx+1) 1 0]/\H'=ap (ap H nx [ao c]) (nx+1) [.int .i64 d]/\nx'=nx+2:=by
 refine fO Ob ?_;simp only[b50,aG];refine wnY (aI @ai @ah) ?_;exact⟨rfl,rfl,rfl⟩
theorem Gd{y cb db:Nat}(c:List Spx)(d:Nat)(hso:nA (bdN c d+1))(hc:aB c=0)(hl:c.length<=50)(hd:d<=7)(hn:bdN c d<=1000)(H:Hp)(nx:Nat)(I:List Nat->List (List Int)->Hp->Nat->Prop)
    (g1:H cb=some [ao c]) (g2:H db=some [.int .i64 d]) (hcb:cb<nx) (hdb:db<nx)
    (st:∀F F' D H nx H' nx',I F D H nx->nx<=nx'->(∀x,x<nx->x∉F->H' x=H x)->(∀x∈F',x∈F\/nx<=x/\x<nx')->I F' D H' nx')
    (rnd:∀F D v H nx,I F D H nx->v∈bsK c d->D.length<=1000->Yl Tryz.prog y [aE v,.int .i64 0] H nx λr H' nx'=>r=.bool true/\nx<=nx'/\(∀x∈F,H' x=H x)/\I F (D++[v]) H' nx')
    (h0:I [] [] H nx):
    Abs.Fn Tryz.prog 102 [.yld y,.ptr cb 1 0,.ptr db 1 0] H nx λ_ H' nx'=>∃F,I F (bsT (bdE c d) (bdN c d) (bsK c d) (bsK c d).length) H' nx':=by
 refine fO MF ?_;simp only[Ms,aG];have hbd:=λH nx=>uo c d hc hl hd H nx;have he:=mR c d hc hl (by omega);have hk:=D1 _ _ (Ac (d:=d) hc hl) hso;rw[show nt (cT (dH (aA c ((d:Int)+1)) (aA c d)) (bdN c d)) (bdN c d)=bsK c d from rfl] at hk;rw[show(((aA c ((d:Int)+1)).length:Nat):Int)=(bdN c d:Int) from rfl] at he;obtain⟨mE,rE,-⟩:=IS (d:=d) hc hl;obtain⟨mK,lK⟩:=s7 (d:=d) hc hl;have lE:(bdE c d).length<=bdN c d:=xI;have eE:=Gw rE (jQ mE);have hd1:Dat (.agg [.int .i64 (bdN c d),bi (dH (aA c ((d:Int)+1)) (aA c d))]):=cr _ _;rw[tR] at hbd he;rw[bU] at he;rw[bU,bU] at hk;generalize dH (aA c ((d:Int)+1)) (aA c d)=R at *;have dcx:Dat (.agg [ao c]):=ct c;generalize bdE c d=E at *;generalize bdN c d=n at *;generalize bsK c d=K at *;have z0:decide ((0:Int)≠0)=false:=rfl;have z1:decide ((0:Int)=0)=true:=rfl;refine wnY (aI @g1 @g2) ?_;refine aO ev0 ev0 (hbd _ _) ?_;rintro _ H1 nx1 ⟨b,rfl,b1,b2,b3,b4⟩;have g1':=(b3 cb hcb).trans g1;have g2':=(b3 db hdb).trans g2;refine wnY (zI5 @g1' @g2' @z0 @z1 @bG) ?_;refine lpI (X:=AV×Nat) (λx=>[(0,.yld y),(4,.ptr b 3 0),(39,bi K),(40,.int .i64 K.length),(41,.int .i64 x.2)]) (λx H' nx'=>x.2<=K.length/\I (b::Hc (bv x.1)) (bsT E n K x.2) H' nx'/\H' b=some [.int .i64 n,x.1,.int .i64 (cT (E++bsT E n K x.2) n).length]/\jo H' x.1 (E++bsT E n K x.2)/\b<nx'/\∀z,bv x.1=some z->z<nx'/\z≠b) (λx=>K.length-x.2) (bi E,0) ⟨bz _,?_,?_,?_,by omega,λz h=>?_⟩ ?_
 ·refine st [] _ [] _ nx _ _ h0 (by omega) (λx hx _=>?_) (λx hx=>?_)
  ·(repeat rw[ac (by omega)])
   exact b3 x hx
  ·rcases c9.1 hx with rfl|hx
   ·exact .inr ⟨by omega,by omega⟩
   ·cases hx
 ·(repeat rw[ac (by omega)])
  show H1 b=some [.int .i64 n,bi E,.int .i64 (cT (E++[]) n).length];rw[fp,eE];exact b4
 ·refine .inl ?_;show bi E=bi (E++[]);rw[fp]
 ·exact by cases h
 clear h0 b3 b4 g1' g2' g1 g2;rintro⟨rv,k⟩ H' nx' ⟨h1,h2,h3,h4,h5,h6⟩;dsimp only at h1 h2 h3 h4 h5 h6 |-;by_cases hk2:k<K.length
 rotate_left
 ·obtain rfl:k=K.length:=by omega
  refine wnY and_self ?_;exact⟨_,h2⟩
 have ix:=t5 hk2;have hTl:=B0 (E:=E) (n:=n) (K:=K) (k:=k);have hTm:=xJ (E:=E) (n:=n) (K:=K) h1;have hss:bsT E n K (k+1)=if (cT ((E++bsT E n K k)++[K.getD k default]) n).length=(cT (E++bsT E n K k) n).length then bsT E n K k else bsT E n K k++[K.getD k default]:=rfl
 have hvm:K.getD k default∈K:=ay hk2;generalize K.getD k default=v at *;have mS:fH n ((E++bsT E n K k)++[v]):=s9 (s9 mE (tv mK (by omega) hTm) (by omega)) (tv mK (by simp) λr hr=>by rw[c6] at hr;rw[hr];exact hvm) (by rw[cw];simp only[bC,dp];omega);have hadd:=LG n (E++bsT E n K k) (cT (E++bsT E n K k) n).length v rv b H' nx' mS h3 h5 h4 λx hx=>(h6 x hx).1;generalize hT:bsT E n K k=D at *;refine wnY @ix ?_;refine aO ev0 ev0 hadd ?_;rintro _ H2 nx2 ⟨q1,q2,q3⟩;rcases q3 with⟨e1,rfl,e3⟩|⟨e1,rfl,wv,e3,e4,e5⟩
 ·rw[if_pos e1] at hss;refine wnY @z0 ?_;refine⟨(rv,k+1),by dsimp only;omega,⟨by dsimp only;omega,?_,?_,?_,by omega,λz hz=>by have:=h6 z hz;omega⟩,ag0⟩
  ·dsimp only;rw[hss];exact st _ _ _ _ _ _ _ h2 q1 (λx hx hF=>q2 x hx λe=>hF (by rw[e];exact dq ..)) λx hx=>.inl hx
  ·dsimp only;rw[hss,e3];exact h3
  ·dsimp only;rw[hss];exact h4.same λz hz=>q2 z (h6 z hz).1 (h6 z hz).2
 rw[if_neg e1] at hss
 have hI2:I (b::Hc (bv wv)) D H2 nx2:=st _ _ _ _ _ _ _ h2 q1 (λx hx hF=>q2 x hx λe=>hF (by rw[e];exact dq ..)) λx hx=>by
  rcases c9.1 hx with rfl|hx
  ·exact .inl (dq ..)
  ·exact .inr (e5 x (zc.1 hx))
 refine wnY @z0 ?_;refine xu ev0 ev0 (Yl.mono (rnd _ D v _ _ hI2 hvm (by omega)) ?_);rintro _ H3 nx3 ⟨rfl,r1,r2,r3⟩;refine wnY @z0 ?_;refine⟨(wv,k+1),by dsimp only;omega,⟨by dsimp only;omega,?_,?_,?_,by omega,λz hz=>?_⟩,ag0⟩
 ·dsimp only;rw[hss];exact r3
 ·dsimp only;rw[hss,r2 b (dq ..),e3,kI]
 ·dsimp only;rw[hss,<-kI];exact e4.same λz hz=>r2 z (eD _ (zc.2 hz))
 ·have:=e5 z hz;omega
theorem uT(c:List Spx)(d:Nat)(hso:nA (bdN c d+1))(hc:aB c=0)(hl:c.length<=50)(hd:d<=7)(hn:bdN c d<=1000):pU 18 [bQ c,.int .i64 d] (.tup [cJ (cyT c d),.int .i64 0]):=by
 refine pO M9 ?_;simp only[b18,aG];have hch:=od c hc hl;obtain⟨mK,lK⟩:=s7 (d:=d) hc hl
 have hchn:∀v∈bsK c d,pU 34 [bQ c,.int .i64 d,aE v] (.tup [ao (c7 (aA c ((d:Int)+1)) v),.int .i64 0]):=λv hv=>by
  have:=w9 c d v hl (ka hc) (by have:=(mK.2.2.2 v hv).2.1;omega);have hz:sS (aA c ((d:Int)+1)).length v=0:=BB (dW mK v hv) (jQ mK v hv)
  have e:Ai c d v=(c7 (aA c ((d:Int)+1)) v,0):=by
   unfold Ai;rw[if_neg (λq=>q hc),if_neg (by omega),if_neg (λq=>q hz)]
  rw[e] at this;exact this
 unfold cyT;generalize aA c ((d:Int)+1)=X at *;have z0:decide ((0:Int)≠0)=false:=rfl;have z1:decide ((d:Int)<0)=false:=aW (by omega);have z2:decide ((8:Int)<=d)=false:=aW (by omega);refine wnY (zI5 @z0 @z1 @z2 @ai @ah) ?_;refine aO ev0 ev0 (Gl c d _ _) ?_;rintro _ H1 nx1 ⟨rfl,rfl,rfl⟩;refine wnY and_self ?_;refine na 7 8 rfl rfl ev0 (λc0 cj hy=>?_);refine Abs.Fn.mono (Gd (nx:=8) (cb:=5) (db:=6) c d hso hc hl hd hn _ (I:=λF D H' nx'=>8<=nx'/\H' 0=some [ao c]/\H' 1=some [.int .i64 d]/\H' 2=some [.esl]/\H' 3=some [.int .i64 0]/\H' 7=some [c0]/\(∀x∈F,8<=x/\x<nx')/\∃sv,H' 4=some [sv]/\Row H' 1 sv ((D.map (c7 X)).map ao)/\∀b',bv sv=some b'->8<=b'/\b'<nx'/\b'∉F) ?_ ?_ (by omega) (by omega) ?_ ?_ ?_) ?_
 ·rfl
 ·rfl
 ·rintro F F' D H nx H' nx' ⟨h1,h2,h3,h4,h5,h6,h7,sv,h8,h9,h10⟩ hle hs hF;have lo:∀x,x<8->H' x=H x:=λx hx=>hs x (by omega) λe=>by have:=h7 x e;omega
  refine⟨by omega,(lo 0 (by omega)).trans h2,(lo 1 (by omega)).trans h3,(lo 2 (by omega)).trans h4,(lo 3 (by omega)).trans h5,(lo 7 (by omega)).trans h6,λx hx=>?_,sv,(lo 4 (by omega)).trans h8,h9.same λb hb=>?_,λb hb=>?_⟩
  ·rcases hF x hx with h|h
   ·have:=h7 x h;omega
   ·omega
  ·obtain⟨p1,p2,p3⟩:=h10 b hb;exact hs b p2 p3
  ·obtain⟨p1,p2,p3⟩:=h10 b hb;refine⟨p1,by omega,λe=>?_⟩;rcases hF b e with h|h
   ·exact p3 h
   ·omega
 ·rintro F D v H' nx' ⟨h1,h2,h3,h4,h5,h6,h7,sv,h8,h9,h10⟩ hv hDl;refine hy _ _ _ _ h6 rfl ?_;clear hy;refine wnZ and_self ?_;refine⟨h6,?_⟩;have hdo:∀x,x≠7->cW H' 7 x=H' x:=λx b=>b9 b;have hcv:=hchn v hv;rw[tR] at hcv;have dcx:Dat (.agg [ao c]):=ct c;generalize hH1:cW H' 7=H1 at *;have g2:=(hdo 0 (by omega)).trans h2;have g3:=(hdo 1 (by omega)).trans h3;have g4:=(hdo 4 (by omega)).trans h8;generalize hpv:c7 X v=pv at *;refine wnY (zI6 @g2 @g3 @g4 @z0 @ai @ah) ?_;refine f9 rfl ev0 (h9.same λb' hb'=>?_) ev0 dQ rfl rfl jb (by rw[bk,bk];omega) (by rw[bk,bk];omega) ?_
  ·have:=h10 b' hb';rw[ac (by omega)];exact hdo _ (by omega)
  rintro sv' H3 nx3 r1 r2 r3 r4 r5;have zs:∀x,x<8->bv sv≠some x:=λx hx e=>by have:=h10 x e;omega
  have z:∀x,x<nx'->x≠7->bv sv≠some x->H3 x=H' x:=λx a1 a2 a3=>(r4 x (by omega) a3).trans (by rw[ac (by omega)];exact hdo x a2);have k4:H3 4=some [sv]:=(z 4 (by omega) (by omega) (zs _ (by omega))).trans h8;obtain⟨q1,q2⟩:=r1.one;refine wnY (zI3 @k4 @q1 @q2) ?_;have w:∀x,x≠4->x≠7->ap (ap H3 4 [sv']) 7 [c0] x=H3 x:=λx a1 a2=>by rw[ac a2,ac a1]
  have u8:∀b',bv sv'=some b'->8<=b'/\b'<nx3/\b'∉F:=λb' hb'=>by
   rcases r5 b' hb' with e|⟨e1,e2⟩
   ·obtain⟨p1,p2,p3⟩:=h10 b' e;exact⟨p1,by omega,p3⟩
   ·exact⟨by omega,by omega,λe=>by have:=h7 b' e;omega⟩
  refine⟨rfl,by omega,λx hx=>?_,by omega,(w 0 (by omega) (by omega)).trans ((z 0 (by omega) (by omega) (zs _ (by omega))).trans h2),(w 1 (by omega) (by omega)).trans ((z 1 (by omega) (by omega) (zs _ (by omega))).trans h3),(w 2 (by omega) (by omega)).trans ((z 2 (by omega) (by omega) (zs _ (by omega))).trans h4),(w 3 (by omega) (by omega)).trans ((z 3 (by omega) (by omega) (zs _ (by omega))).trans h5),ae,λx hx=>?_,sv',?_,?_,u8⟩
  ·have:=h7 x hx;refine(w x (by omega) (by omega)).trans ?_;exact z x (by omega) (by omega) λe=>(h10 x e).2.2 hx
  ·have:=h7 x hx;omega
  ·exact(ac (by omega)).trans ae
  ·rw[cp,cp,show [v].map (c7 X)=[pv] by rw[<-hpv];rfl];exact r1.same λb' hb'=>w b' (by have:=u8 b' hb';omega) (by have:=u8 b' hb';omega)
 ·refine⟨aN _,rfl,rfl,rfl,rfl,ae,λx hx=>(by cases hx),.esl,rfl,.nil,λb' hb'=>(by cases hb')⟩
 ·rintro r H' nx' ⟨F,h1,h2,h3,h4,h5,h6,h7,sv,h8,h9,h10⟩;refine .inl ⟨h6,?_⟩;obtain⟨q1,q2⟩:=h9.one;have lo:∀x,x≠7->cW H' 7 x=H' x:=λx b=>b9 b;have k1:Row (cW H' 7) 1 sv (((bsT (bdE c d) (bdN c d) (bsK c d) (bsK c d).length).map (c7 X)).map ao):=h9.same λb' hb'=>lo b' (by have:=h10 b' hb';omega);have k2:=(lo 2 (by omega)).trans h4;have k3:=(lo 3 (by omega)).trans h5;have k4:=(lo 4 (by omega)).trans h8;generalize cW H' 7=H1 at *;refine wnY (zI5 @k2 @k3 @k4 @q1 @q2) ?_;refine bI (ag (yK (k1.same λb' hb'=>?_)) (ag (.int _ _) an));have:=h10 b' hb';rw[ac (by omega),ac (by omega)]
theorem Ed(c:List Spx)(m:Nat)(hc:aB c=0)(hl:c.length<=50)(hm:sU c=m)(hm8:m<=8)(G:Hp)(n0:Nat):Abs.Fn Tryz.prog 44 [bQ c] G n0 λr H' nx'=>∃sv,r=.tup [sv,.int .i64 0]/\Row H' 1 sv ((btL c m).map (AV.int .i64))/\n0<=nx'/\(∀x,x<n0->H' x=G x)/\∀b,bv sv=some b->n0<=b/\b<nx':=by
 refine fO KR ?_;simp only[b44,aG];have hdi:=o0 c hc hl;rw[hm] at hdi;have z0:decide ((0:Int)≠0)=false:=rfl;have hed:=λd(h:d<=8)=>mR c d hc hl h;have hsz:=λd(h:d<=8)=>rK c d hc hl h;have hrl:=λd:Int=>cE hc hl (d:=d);have hrk:=λd:Nat=>AY (aA c ((d:Int)+1)).length (dH (aA c ((d:Int)+1)) (aA c d)) (lf (by have:=hrl ((d:Int)+1);omega) (by have:=hrl d;omega));have hrf:=λd:Nat=>xq (c:=c) (d:=d);refine wnY (zI3 @z0 @ai @ah) ?_;refine uX ?_;refine wnY and_self ?_;refine lpI (X:=Nat) (λk=>[(1,.ptr n0 1 0),(4,.int .i64 ((m:Int)-1)),(7,.mp (n0+1)),(26,.int .i64 ((m:Int)-1+2)),(27,.int .i64 k)]) (λk H nx=>k<=m+1/\n0+2<=nx/\H n0=some [ao c]/\H (n0+1)=some [.omap ((rkK k).map (AV.int .i64)) (rkV c k)]/\∀x,x<n0->H x=G x) (λk=>m+1-k) 0 ⟨bz _,aN _,(ac (by omega)).trans ae,ae,λx hx=>by rw[ac (by omega),ac (by omega)]⟩ ?_;rintro k H nx ⟨g1,g2,g3,g4,gl⟩;by_cases hk:k<m+1
 ·have hed1:=hed k (by omega);have hrk1:=hrk k;have hr1:=hrl ((k:Int)+1);have hd1:Dat (cQ (aA c ((k:Int)+1)).length (dH (aA c ((k:Int)+1)) (aA c k))):=cr _ _;change pU 97 _ (.tup [.int .i64 (rkF c k),.int .i64 0]) at hrk1;rw[bU] at hed1 hrk1 hd1;generalize dH (aA c ((k:Int)+1)) (aA c k)=R at *;generalize (aA c ((k:Int)+1)).length=n at *;have z1:decide ((k:Int)<(m:Int)-1+2)=true:=aZ (by omega);refine wnY (zI5 @g3 @z0 @z1 @ai @ah) ?_;have hmf:=iz (k:Int) (rkK k);rw[if_neg (λq=>by have:=kT.1 q;omega)] at hmf;refine pG ev0 ((ac (by omega)).trans ((ac (by omega)).trans g4)) ev0 ev0 rfl hmf ?_;refine wnY @z0 ?_;refine⟨k+1,by omega,⟨by omega,by omega,by rw[ac (by omega),ac (by omega),ac (by omega)];exact g3,?_,λx hx=>by rw[ac (by omega),ac (by omega),ac (by omega)];exact gl x hx⟩,ag0⟩;rw[ae,xV,zy,cp];rfl
 obtain rfl:k=m+1:=by omega
 have z1:decide (((m+1:Nat):Int)<(m:Int)-1+2)=false:=aW (by omega);refine wnY @z1 ?_;refine lpI (X:=AV×Nat) (λx=>[(1,.ptr n0 1 0),(7,.mp (n0+1)),(11,x.1),(51,.int .i64 ((m:Int)-1+1)),(52,.int .i64 x.2)]) (λx H nx=>x.2<=m/\n0+2<=nx/\H n0=some [ao c]/\H (n0+1)=some [.omap ((rkK (m+1)).map (AV.int .i64)) (rkV c (m+1))]/\Row H 1 x.1 ((btL c x.2).map (AV.int .i64))/\(∀b,bv x.1=some b->n0+2<=b/\b<nx)/\∀x,x<n0->H x=G x) (λx=>m-x.2) (.esl,0) ⟨bz _,g2,g3,g4,Row.nil,λb h=>(by cases h),gl⟩ ?_;clear g1 g2 g3 g4 gl;rintro⟨sv,k⟩ H nx ⟨g1,g2,g3,g4,g5,g6,gl⟩;dsimp only at g1 g2 g3 g4 g5 g6 gl |-;by_cases hk:k<m
 rotate_left
 ·obtain rfl:k=m:=by omega
  have z1:decide ((k:Int)<(k:Int)-1+1)=false:=aW (by omega);refine wnY @z1 ?_;exact⟨sv,rfl,g5,by omega,gl,λb hb=>by have:=g6 b hb;omega⟩
 have hsz1:=hsz k (by omega);have hr1:=hrl ((k:Int)+1);have hr2:=hrl (((k+1:Nat):Int)+1);have hf1:=hrf k;have hf2:=hrf (k+1);have hmf1:=iz (k:Int) (rkK (m+1));rw[if_pos (kT.2 (by omega)),rI (by omega)] at hmf1;have hmf2:=iz ((k+1:Nat):Int) (rkK (m+1));rw[if_pos (kT.2 (by omega)),rI (by omega)] at hmf2;rw[show((k+1:Nat):Int)=(k:Int)+1 by omega] at hmf2;have hv1:Go.Abs.mget (.int .i64 0) false (some k) (rkV c (m+1))=.int .i64 (rkF c k):=rz (by omega);have hv2:Go.Abs.mget (.int .i64 0) false (some (k+1)) (rkV c (m+1))=.int .i64 (rkF c (k+1)):=rz (by omega);have hsn:=zN (c:=c) (n:=k);have hbl:(btL c k).length=k:=by unfold btL;simp
 have hbf:btF c k=((aA c ((k:Int)+1)).length:Int)-(rkF c k:Int)-(rkF c (k+1):Int):=rfl;rw[hbf] at hsn;generalize rkF c k=f1 at *;generalize rkF c (k+1)=f2 at *;generalize (aA c ((k:Int)+1)).length=n at *;generalize (aA c (((k+1:Nat):Int)+1)).length=n2 at *;have z1:decide ((k:Int)<(m:Int)-1+1)=true:=aZ (by omega);refine wnY (zI5 @g3 @z0 @z1 @ai @ah) ?_;refine jg ev0 g4 ev0 rfl hmf1 ?_;rw[hv1];refine wnY and_self ?_;refine jg ev0 g4 ev0 rfl hmf2 ?_;rw[hv2];refine wnY and_self ?_;refine eR (g5.same λb hb=>?_) ?_
 ·have:=g6 b hb;rw[ac (by omega)]
 rintro s2 H2 nx2 hr3 i1 i2 i3 i4;have hdo:∀b,b<n0+2->bv sv≠some b:=λb hb e=>by have:=g6 b e;omega
 have lo2:∀b,b<n0+2->H2 b=H b:=λb hb=>(i3 b (by omega) (hdo b hb)).trans (by rw[ac (by omega)]);refine wnY and_self ?_;refine⟨(s2,k+1),by dsimp only;omega,⟨by dsimp only;omega,by omega,(lo2 n0 (by omega)).trans g3,(lo2 (n0+1) (by omega)).trans g4,?_,λb hb=>?_,λx hx=>(lo2 x (by omega)).trans (gl x hx)⟩,ag0⟩
 ·dsimp only;rw[hsn,cp];exact hr3
 ·rcases i4 b hb with h|h
  ·have:=g6 b h;omega
  ·omega
theorem JI(n:Int):pU 49 [.int .i64 n] (.bool (decide (n≠0))):=by
 refine pO Oz ?_;simp only[b49,aG]
 repeat' (first|refine zW ?_|apply a_n|refine zO ?_|refine vZ ?_|refine bR rfl ?_|refine r1Z ?_|fail)
 exact .bool _
theorem pe(c:List Spx)(m:Nat)(k:Int)(hc:aB c=0)(hl:c.length<=50)(hm:sU c=m)(hm8:m<=8)(hk:-1<=k/\k<8):pU 15 [bQ c,.int .i64 k] (.tup [.bool (HS (btL c m) k),.int .i64 0]):=by
 refine pO N4 ?_;simp only[b15,aG];have hch:=od c hc hl;have hbt:=λG n0=>Ed c m hc hl hm hm8 G n0;have hlen:=HB (c:=c) (m:=m);have hbd:=I6 (m:=m) hc hl;have z0:decide ((0:Int)≠0)=false:=rfl;have z1:decide (k<(-1:Int))=false:=aW (by omega);have z2:decide ((8:Int)<=k)=false:=aW (by omega);generalize btL c m=l at *;have zz:=aI @z0 (aI @z1 (aI @z2 (aI @ai @ah)));repeat' (first|refine zW ?_|apply a_n|refine zO ?_|refine vY ?_|refine cY ?_ (hp:=hch) (hs:=by(first|refine aJ ?_ rfl|apply a7);(repeat' (first|exact an|apply bw|apply a9|exact ct _));first|done|fail)|refine bxY ?_|refine gTY ?_|refine cFY ?_|fail)
 rw[tR] at hbt;refine aO ev0 ev0 (hbt _ _) ?_;rintro _ H1 nx1 ⟨sv,rfl,hrow,h1,h2,h3⟩;have hls:=hrow.lenS (n:=l.length) (by rw[bk,Nat.mul_one]) jb;cases l with
 |nil=>
  have zn:decide ((0:Int)=0)=true:=rfl;have hls0:dy sv=some (.int .i64 0):=hls;clear zz;have zz:=aI @z0 (aI @hls0 @zn);repeat' (first|refine zW ?_|apply a_n|apply a_r|refine zO ?_|refine vY ?_|refine gTY ?_|(refine zGY ?_ ?_<;>(intro _hg;try (exfalso;omega)))|refine bR rfl ?_|refine r2Y ?_|fail)
  exact bI (ag (.bool _) (ag (.int _ _) an))
 |cons x r=>
  have zn:decide ((((r.length+1:Nat):Nat):Int)=0)=false:=aW (by omega);obtain⟨B,rfl,hB⟩:=zD hrow (by simp);have hx:=hbd x (dq ..);have hB1:H1 B=some (.int .i64 x::r.map (AV.int .i64)):=hB;have hN:(x::r).length=r.length+1:=rfl;rw[hN] at hls h3 |-;clear zz;have zz:=aI @z0 (aI @hls @zn);repeat' (first|refine zW ?_|apply a_n|refine zO ?_|refine vY ?_|refine gTY ?_|refine cFY ?_|fail)
  have hlc:(AV.int .i64 x::r.map (AV.int .i64)).length=r.length+1:=by simp
  clear zz;have zz:=aI @hB1 (aI @hlc (aI @Int.toNat_zero @xN));repeat' (first|refine zW ?_|apply a_n|refine zO ?_|refine vY ?_|refine stY ?_|fail)
  have hcj:HS (x::r) k=!((((x-1)::r).take (min (k+1) ((r.length+1:Nat):Int)).toNat).any λn=>decide (n≠0)):=rfl;obtain⟨j,hj,hjl⟩:∃j:Nat,min (k+1) ((r.length+1:Nat):Int)=j/\j<=r.length+1:=⟨(min (k+1) ((r.length+1:Nat):Int)).toNat,by omega,by omega⟩
  rw[hj,bN] at hcj;rw[hcj,hj]
  have hsl:jO 1 (.msl B (r.length+1) 1 0 (r.length+1)) none (some (.int .i64 j)) none=some (.msl B (r.length+1) 1 0 j):=by
   simp[jO,bO];omega
  clear zz;have zz:=@hsl;repeat' (first|apply a_n|refine zO ?_|refine vY ?_|fail)
  refine eb ev0 ev0 (pz (((x-1)::r).take j) (λn=>decide (n≠0)) 49 [] (λx h=>(by cases h)) (λx _=>JI x) (show _<=_ by rw[fL];simp;omega)) (aJ (ag (Fc (l:=(x-1)::r) (n:=r.length+1) ae rfl hjl) (ag (vE an) an)) rfl) ?_
  repeat' (first|apply a_n|refine zO ?_|refine vY ?_|refine bR rfl ?_|refine r2Y ?_|fail)
  exact bI (ag (.bool _) (ag (.int _ _) an))
theorem q6(c:List Spx)(hl:c.length<=50)(hs:∀s∈c,Shn s):pU 45 [bQ c] (.int .i64 (aB c)):=by
 refine pO NJ ?_;simp only[b45,aG];have hcc:=Bs c (show _<=_ by omega) hs;by_cases hc:aB c=0
 rotate_left
 ·have z0:decide (aB c≠0)=true:=aZ hc;refine wnY (zI3 @ai @ah @z0) ?_;exact .int _ _
 have hsm:=λk=>xF c k hl hs;unfold dx at hsm;rw[hc] at hcc |-;have z0:decide ((0:Int)≠0)=false:=rfl;refine wnY (zI3 @ai @ah @z0) ?_;refine lpI (X:=Nat) (λk=>[(1,.ptr 0 1 0),(4,.int .i64 ((k:Int)+1))]) (λk H nx=>k<=8/\H 0=some [ao c]) (λk=>8-k) 0 ⟨bz _,rfl⟩ ?_;rintro k H nx ⟨h1,h2⟩;by_cases hk:k<8
 ·have hk1:=hsm ((k:Int)+1);rw[if_neg (λq=>q hc),if_neg (by omega)] at hk1;generalize gD c ((k:Int)+1).toNat=X at *;have z1:decide ((k:Int)+1<=8)=true:=aZ (by omega);refine wnY (zI5 @h2 @ai @ah @z0 @z1) ?_;exact⟨k+1,by omega,⟨by omega,h2⟩,ag0⟩
 ·obtain rfl:k=8:=by omega
  have z1:decide (((8:Nat):Int)+1<=8)=false:=rfl;refine wnY @z1 ?_;exact .int _ _
theorem ya(c:List Spx)(d:Nat)(hc:aB c=0)(hl:c.length<=50)(hd:d<=20):pU 53 [bQ c,.int .i64 d] (cQ (aA c ((d:Int)+1)).length (dH (aA c ((d:Int)+1)) (aA c d))):=by
 refine pO OG ?_;simp only[b53,aG];obtain⟨p1,p2,p3,p4⟩:=dg hc;have h8:∀s∈c,s.length<=8:=λs h=>(cA (p2 s h)).2.1;have hX:=xx c (d+1) hl h8 (by omega);rw[show((d+1:Nat):Int)=(d:Int)+1 by omega,<-vM] at hX;have hXl:=i9 (d:=(d:Int)+1) hl hc;have hYl:=i9 (d:=(d:Int)) hl hc;have hXs:=f0 (d:=(d:Int)+1) hc;have hYs:=f0 (d:=(d:Int)) hc;rw[bU];by_cases hd0:d=0
 ·have eY:aA c (d:Int)=[]:=by unfold aA;rw[if_pos (by omega)]
  have z3:decide ((d:Int)=0)=true:=aZ (by omega);rw[eY];generalize aA c ((d:Int)+1)=X at *;refine wnY (zI4 @ai @ah @af @z3) ?_;exact ju (ag (.int _ _) (ag (.eslsl 1) an))
 have z3:decide ((d:Int)=0)=false:=aW (by omega);have hY:=xx c d hl h8 (by omega);have eY:=yz (c:=c) (k:=d);rw[if_neg hd0] at eY;rw[<-eY] at hY
 have hb:=C6 (aA c ((d:Int)+1)) (aA c d) (by omega) (by omega) (l8 hXs) (l8 hYs) λi k hi hk=>by
  have m1:=ay hk;have m2:=ay hi;exact yo (oG hXs _ m1) (oG hYs _ m2) (n:=d) (by rw[(pP.1 m1).2.1];omega) (by rw[(pP.1 m2).2.1];omega) (by omega)
 rw[bU] at hb;generalize dH (aA c ((d:Int)+1)) (aA c d)=M at *;generalize aA c ((d:Int)+1)=X at *;generalize aA c (d:Int)=Y at *;have dM:Dat (.agg [.int .i64 X.length,bi M]):=Dat.agg (DatL.cons .int (DatL.cons (kd _) DatL.nil));refine wnY (zI4 @ai @ah @af @z3) ?_;exact dM _
theorem EB{R:List (List Int)}{c:Nat}(h:fH c R):wk R c=cT R c:=oT (dW h) (jQ h)
theorem FY(X:List Spx)(v:List Int)(hX:X.length<=100000)(hv:v.length<=100000)(hr:∀z∈v,0<=z/\z<(X.length:Int)):pU 55 [ao X,aE v] (ao (c7 X v)):=by
 refine pO NY ?_;simp only[b55,aG];refine wnY @cm ?_;refine lpI (X:=AV×Nat) (λx=>[(0,ao X),(1,aE v),(5,x.1),(6,.int .i64 x.2)]) (λx H nx=>x.2<=v.length/\Row H 1 x.1 ((c7 X (v.take x.2)).map aD)/\∀b,bv x.1=some b->b<nx) (λx=>v.length-x.2) (.esl,0) ⟨bz _,Row.nil,λb hb=>(by cases hb)⟩ ?_;rintro⟨sv,k⟩ H nx ⟨h1,h4,h5⟩;dsimp only at h1 h4 h5 |-;by_cases hk:k<v.length
 rotate_left
 ·rw[fI (by omega)] at h4;refine wnY @cm ?_;exact gq h4
 have ix:=ixV hk;have hz:=hr _ (ay hk);have hsn:=rP (X:=X) hk;have hpl:(c7 X (v.take k)).length=k:=by unfold c7;rw[bk,fL];omega
 obtain⟨z,hzz⟩:=Int.eq_ofNat_of_zero_le hz.1;rw[hzz] at ix hz hsn;have iy:=eh (l:=X) (k:=z) (by omega);rw[bN] at hsn;generalize X.getD z default=s at *;refine wnY (zI5 @ix @iy @cm @bb @aQ) ?_;refine eR (h4.same λb hb=>?_) ?_
 ·have:=h5 b hb;rw[ac (by omega)]
 rintro s2 H2 nx2 hr3 i1 i2 i3 i4;refine wnY and_self ?_;refine⟨(s2,k+1),by dsimp only;omega,⟨by dsimp only;omega,?_,λb hb=>?_⟩,ag0⟩
 ·dsimp only;rw[hsn,cp];exact hr3
 ·rcases i4 b hb with h|h
  ·have:=h5 b h;omega
  ·omega
theorem Ec(c:List Spx)(hc:aB c≠0)(hl:c.length<=50)(hs:∀s∈c,Shn s):pU 37 [bQ c] (.tup [.int .i64 0,.int .i64 (aB c)]):=by
 refine pO Lb ?_;simp only[b37,aG];have hcc:=jr c (show _<=_ by omega) hs;generalize aB c=e at *;have z0:decide (e≠(0:Int))=true:=aZ hc;refine wnY (zI3 @z0 @ai @ah) ?_;exact bI (ag (.int _ _) (ag (.int _ _) an))
theorem nZ(c:List Spx)(hl:c.length<=50)(hs:∀s∈c,Shn s):pU 43 [bQ c] (.int .i64 (aB c)):=by
 by_cases hc:aB c=0
 ·rw[hc];exact od c hc hl
 refine pO I4 ?_;simp only[b43,aG];have he:=Ec c hc hl hs;refine wnY (aI @ai @ah) ?_;exact .int _ _
def jq(c a b:List Spx):List Int×List Int×Int:=if (iC c a).2≠0 then([],[],(iC c a).2) else((iC c a).1,(iC c b).1,(iC c b).2)
theorem Bo(c a b:List Spx)(hl:c.length<=50)(hs:∀s∈c,Shn s)(ha:ShC a)(hb:ShC b):pU 67 [bQ c,ao a,ao b] (.tup [aE (jq c a b).1,aE (jq c a b).2.1,.int .i64 (jq c a b).2.2]):=by
 refine pO OJ ?_;simp only[b67,aG];have hch:=nZ c hl hs;have h1:=Ap c a hl hs ha;have h2:=Ap c b hl hs hb;have hce:aB c≠0->iC c a=([],aB c):=λh=>by unfold iC;rw[if_pos h]
 unfold jq;generalize iC c a=va at *;generalize iC c b=vb at *;obtain⟨v,e⟩:=va;obtain⟨w,f⟩:=vb;dsimp only at *;by_cases hc:aB c=0
 ·have z0:decide (aB c≠(0:Int))=false:=aW (λq=>q hc);by_cases he:e=0
  ·subst he;have z1:decide ((0:Int)≠0)=false:=rfl;rw[if_neg (λq=>q rfl)];refine wnY (zI4 @z0 @z1 @ai @ah) ?_;exact bI (ag (cu v).snap (ag (cu w).snap (ag (.int _ _) an)))
  ·have z1:decide (e≠(0:Int))=true:=aZ he;rw[if_pos he];refine wnY (zI4 @z0 @z1 @ai @ah) ?_;exact bI (ag (.eslsl 1) (ag (.eslsl 1) (ag (.int _ _) an)))
 ·have z0:decide (aB c≠(0:Int))=true:=aZ hc;cases hce hc;rw[if_pos hc];refine wnY (zI3 @z0 @ai @ah) ?_;exact bI (ag (.eslsl 1) (ag (.eslsl 1) (ag (.int _ _) an)))
def cyH(c a:List Spx):List Int×Int:=if (iC c a).2≠0 then([],(iC c a).2) else if cV a=[] then((iC c a).1,0) else([],3)
theorem Eg(c a:List Spx)(hl:c.length<=50)(hs:∀s∈c,Shn s)(ha:ShC a):pU 57 [bQ c,ao a] (.tup [aE (cyH c a).1,.int .i64 (cyH c a).2]):=by
 refine pO Oy ?_;simp only[b57,aG];have h1:=Ap c a hl hs ha;have h2:=Kv a ha;have hvf:=λv=>kC (c:=c) (a:=a) (v:=v);unfold cyH;unfold HQ at h2;generalize iC c a=va at *;obtain⟨v,e⟩:=va;dsimp only at *;by_cases he:e=0
 ·subst he;obtain⟨e1,e2,-⟩:=hvf v rfl;rw[if_neg (λq=>q e2)] at h2;dsimp only at h2;have z1:decide ((0:Int)≠0)=false:=rfl;have z2:decide ((0:Int)=0)=true:=rfl;rw[if_neg (λq=>q rfl)];by_cases hz:cV a=[]
  ·rw[aZ hz] at h2;rw[if_pos hz];refine wnY (zI4 @z1 @z2 @ai @ah) ?_;exact jT (cu _).snap rfl
  ·rw[aW hz] at h2;rw[if_neg hz];refine wnY (zI4 @z1 @z2 @ai @ah) ?_;exact jT (.eslsl 1) rfl
 ·have z1:decide (e≠(0:Int))=true:=aZ he;rw[if_pos he];refine wnY (zI3 @z1 @ai @ah) ?_;exact jT (.eslsl 1) rfl
end
def Bx(c a b:List Spx):Int:=if (jq c a b).2.2≠0 then(jq c a b).2.2 else if a≠[]/\b≠[]/\eN b≠eN a+1 then 15 else if (mI b).2≠0 then(mI b).2 else if (mI b).1=a then 0 else 18
theorem ud{c a b:List Spx}(h:(jq c a b).2.2=0):∃v w,iC c a=(v,0)/\iC c b=(w,0)/\jq c a b=(v,w,0):=by
 unfold jq at h |-;generalize iC c a=va at *;generalize iC c b=vb at *;obtain⟨v,e⟩:=va;obtain⟨w,f⟩:=vb;dsimp only at *;by_cases he:e=0
 ·subst he;rw[if_neg (λq=>q rfl)] at h |-;dsimp only at h;subst h;exact⟨v,w,rfl,rfl,rfl⟩
 ·rw[if_pos he] at h;exact absurd h he
theorem Hw{b:List Spx}(h:jV b=0)(hl:¬4096<(cV b).length):ShC (cV b):=by
 refine⟨show _<=_ by omega,λs hs=>?_⟩;have:=(cA (u0 (oh h).2.1 s hs)).2.1;show _<=_;omega
theorem Dn{R:List (List Int)}{c:Nat}{w:List Int}(hm:fH c R)(hw:bt w):
    (∃x,uG R c w=(x,[],true)/\x=lW (lw R c) w/\bt x/\(∀z∈x,0<=z/\z<(c:Int))/\(∀y∈(stE R R.length).2,ro w y=false)/\∀i,i<R.length->cK (λz=>bit z x) (R.getD i default)%2=bit (i:Int) w)\/
    ∃y,uG R c w=([],y,false)/\y∈(stE R R.length).2/\bt y/\(∀z∈y,0<=z/\z<(R.length:Int))/\ro w y=true:=by
 have hR:=dW hm;have hv:=jQ hm;have hok:=gv hR (aN R.length);have hdep:∀y∈(stE R R.length).2,bt y/\∀z∈y,0<=z/\z<(R.length:Int):=λy hy=>⟨(hok.dep y hy).1.2,(hok.dep y hy).2.2⟩
 unfold uG;cases hs:HR (stE R R.length).2 w with
 |none=>
  left
  have h0:∀y∈(stE R R.length).2,ro w y=false:=λy hy=>by
   have:=List.find?_eq_none.1 hs y hy;rw[Am (hdep y hy).1 hw] at this;simpa using this
  refine⟨_,rfl,rfl,EN hok.red,yf hok.red,h0,λi hi=>DG hR hv hw h0 hi⟩
 |some y=>
  right;have hy:=List.mem_of_find?_eq_some hs;have ho:=List.find?_some (p:=λy=>jP y w) hs;rw[Am (hdep y hy).1 hw] at ho;exact⟨y,rfl,hy,(hdep y hy).1,(hdep y hy).2,ho⟩
def Aq(c a:List Spx):List Spx×List Spx×Bool×Int:=if (cyH c a).2≠0 then([],[],false,(cyH c a).2) else if a=[] then([],[],true,0) else
 if (uG (dH (aA c ((eN a:Int)+1)) (aA c (eN a))) (aA c ((eN a:Int)+1)).length (cyH c a).1).2.2=true then(c7 (aA c ((eN a:Int)+1)) (uG (dH (aA c ((eN a:Int)+1)) (aA c (eN a))) (aA c ((eN a:Int)+1)).length (cyH c a).1).1,[],true,0)
 else([],c7 (aA c (eN a)) (uG (dH (aA c ((eN a:Int)+1)) (aA c (eN a))) (aA c ((eN a:Int)+1)).length (cyH c a).1).2.1,false,0)
theorem Ck{c a:List Spx}(h:(cyH c a).2=0):∃v,iC c a=(v,0)/\cyH c a=(v,0)/\cV a=[]:=by
 unfold cyH at h |-;generalize iC c a=va at *;obtain⟨v,e⟩:=va;dsimp only at *;by_cases he:e=0
 ·subst he;rw[if_neg (λq=>q rfl)] at h |-;by_cases hz:cV a=[]
  ·rw[if_pos hz];exact⟨v,rfl,rfl,hz⟩
  ·rw[if_neg hz] at h;cases h
 ·rw[if_pos he] at h;exact absurd h he
theorem Ez{c:List Spx}{d:Nat}{v:List Int}(hc:aB c=0)(hd:d<=7)(ha:bt v)(hv:∀z∈v,0<=z/\z<((aA c ((d:Int)+1)).length:Int)):Ai c d v=(c7 (aA c ((d:Int)+1)) v,0):=by
 have hz:sS (aA c ((d:Int)+1)).length v=0:=BB ha hv;unfold Ai;rw[if_neg (λq=>q hc),if_neg (by omega),if_neg (λq=>q hz)]
theorem OV{g:FuncId}{args args':List AV}{r:AV}(hp:pU g args' r){H:Hp}{nx b:Nat}{cs:List AV}(hb:H b=some cs)(hs:aL (only b cs) args args'):Abs.Fn Tryz.prog g args H nx λr' H' nx'=>r'=r/\H'=cW H b/\nx'=nx:=
 Abs.Fn.of_pureZ hp (Hf:=only b cs) (H':=cW H b) (fun a cs' h=>by
  unfold only at h;split at h
  ·rename_i e;cases h;subst e;exact hb
  ·cases h) (λa cs' h=>by
  unfold cW at h;split at h
  ·cases h
  ·rename_i e;exact⟨h,by unfold only;rw[if_neg e]⟩) hs ⟨rfl,rfl,rfl⟩
theorem jo.lenS{H:Hp}{s:AV}{l:List (List Int)}(h:jo H s l):dy s=some (.int .i64 l.length):=by
 rcases h with rfl|h
 ·exact bG
 ·exact h.lenS (by rw[bk,Nat.mul_one]) jb
theorem DL{H:Hp}{s:AV}{cs:List AV}(h:Row H 1 s cs):fX 1 H s=some (cs.length,cs):=by
 cases h with
 |nil=>rfl
 |box b len cs hb hn=>
  rw[Nat.mul_one] at hn;rw[eT hb (by rw[Nat.mul_one];exact hn) (by omega),hn,Nat.mul_one,List.drop_zero,fI (by omega)]
def nM(c:List Spx)(d:Nat)(l:List (List Int)):Bool:=decide (rk (bdM c d++l) (bdN c d)=rk (bdM c d) (bdN c d)+l.length)
theorem GB{c:List Spx}{d:Nat}(hc:aB c=0)(hl:c.length<=50):(bdM c d).length<=3500:=by
 unfold bdM trL;rw[bk,List.length_range];exact cE hc hl
def onL(l:List (Nat×List AV)):Hp:=λx=>(l.find? λp=>decide (p.1=x)).map Prod.snd
theorem Hh{H:Hp}{l:List (Nat×List AV)}(h:∀p∈l,H p.1=some p.2):Sub (onL l) H:=λx cs hx=>by
 unfold onL at hx;obtain⟨p,hp,rfl⟩:=Option.map_eq_some_iff.1 hx;have h1:=List.mem_of_find?_eq_some hp;have h2:=p6 (List.find?_some (p:=λp:Nat×List AV=>decide (p.1=x)) hp);rw[<-h2];exact h p h1
theorem JR{H:Hp}{l1:List (Nat×List AV)}{l2:List (Nat×AV×AV)}(h1:∀p∈l1,H p.1=some p.2)(h2:∀q∈l2,H q.1=some [q.2.1]/\onL l1 q.1=none/\Snap (onL l1) q.2.1 q.2.2):Fz (onL l1) H (onL (l2.map λq=>(q.1,[q.2.2]))) where
 sub:=Hh h1
 to:=λa cs' h=>by
  have h0:=h;unfold onL at h;obtain⟨p,hp,rfl⟩:=Option.map_eq_some_iff.1 h;have g1:=List.mem_of_find?_eq_some hp;have g2:=p6 (List.find?_some (p:=λp:Nat×List AV=>decide (p.1=a)) hp);obtain⟨q,hq,rfl⟩:=bJ.1 g1;obtain⟨k1,k2,k3⟩:=h2 q hq;dsimp only at g2 |-;rw[g2] at k1 k2;refine⟨[q.2.1],k1,k2,rfl,λi u v hu hv=>?_⟩
  match i with
  |0=>simp at hu hv;subst hu;subst hv;exact .inr k3
  |i+1=>simp at hu
section
attribute [local irreducible] aM ak bg aY aR aS aF aV a6 bj Go.Abs.Fn aX Go.Abs.Pure ar aL Yl
theorem vF(c a b:List Spx)(hl:c.length<=50)(hs:∀s∈c,Shn s)(ha:ShC a)(hb:ShC b):pU 25 [bQ c,ao a,ao b] (.int .i64 (Bx c a b)):=by
 refine pO Og ?_;simp only[b25,aG];have hp:=Bo c a b hl hs ha hb;have hbo:=Hj b hb;have hpf:=ud (c:=c) (a:=a) (b:=b);have hal:=ha.1;have hbl:=hb.1;unfold Bx;generalize jq c a b=p at *;obtain⟨v,w,e⟩:=p;dsimp only at *;by_cases he:e=0
 rotate_left
 ·have z0:decide (e≠(0:Int))=true:=aZ he;rw[if_pos he];refine wnY (zI3 @z0 @ai @ah) ?_;exact .int _ _
 subst he;obtain⟨v',w',hv,hw,hvw⟩:=hpf rfl;cases hvw;obtain⟨-,hcb,-⟩:=kC hw
 have hbt:mI b=if 4096<(cV b).length then([],5) else(cV b,0):=by
  unfold mI;rw[if_neg (λq=>q hcb)]
 have z0:decide ((0:Int)≠0)=false:=rfl;rw[if_neg (λq=>q rfl)];refine dI ?_;have zz:=aI @z0 (aI @ai @ah);repeat' (first|apply a_n|refine zO ?_|refine vY ?_|refine bxY ?_|fail)
 refine dI ?_;refine dI ?_;clear zz;have zz:=aI @z0 (aI @ai @ah);repeat' (first|apply a_n|refine zO ?_|refine vY ?_|refine cY ?_ (hp:=hp) (hs:=by(first|refine aJ ?_ rfl|apply a7);(repeat' (first|exact an|apply bw|apply a9|exact ct _|exact bK _));first|done|fail)|fail)
 refine dI ?_;clear zz;have zz:=aI @z0 (aI @ai @ah);repeat' (first|apply a_n|refine zO ?_|refine vY ?_|refine cFY ?_|fail)
 refine bn (λT H nx=>¬(a≠[]/\b≠[]/\eN b≠eN a+1)/\T 1=ao a/\T 2=ao b) ?_ ?_
 ·by_cases h1:a=[]
  ·have z1:decide ((0:Int)<a.length)=false:=by rw[h1];rfl
   refine wnY (aI @z1 @af) ?_;exact⟨λq=>q.1 h1,rfl,rfl⟩
  have z1:decide ((0:Int)<a.length)=true:=aZ (by have:=li.2 h1;omega);by_cases h2:b=[]
  ·have z2:decide ((0:Int)<b.length)=false:=by rw[h2];rfl
   refine wnY (zI3 @z1 @z2 @af) ?_;exact⟨λq=>q.2.1 h2,rfl,rfl⟩
  have z2:decide ((0:Int)<b.length)=true:=aZ (by have:=li.2 h2;omega);have ix:=zH h1;have iy:=zH h2;have hsa:=ha.2 _ (ay (li.2 h1));have hsb:=hb.2 _ (ay (li.2 h2));unfold eN;generalize a.getD 0 default=s at *;generalize b.getD 0 default=t at *;have hsa':s.length<=17592186044416:=hsa;by_cases h3:t.length=s.length+1
  ·have z3:decide ((t.length:Int)≠(s.length:Int)+1)=false:=aW (by omega);refine wnY (zI7 @z1 @z2 @z3 @ix @iy @af @au) ?_;exact⟨λq=>q.2.2 h3,rfl,rfl⟩
  ·have z3:decide ((t.length:Int)≠(s.length:Int)+1)=true:=aZ (by omega);rw[if_pos ⟨h1,h2,h3⟩];refine wnY (zI7 @z1 @z2 @z3 @ix @iy @af @au) ?_;exact .int _ _
 rintro T H nx ⟨h1,t1,t2⟩;rw[if_neg h1];clear zz;clear h1;by_cases h4:4096<(cV b).length
 ·rw[if_pos h4] at hbt;rw[hbt] at hbo |-;dsimp only at hbo |-;have z5:decide ((5:Int)≠0)=true:=rfl;rw[if_pos (by decide)];refine wnY (zI3 @t1 @t2 @z5) ?_;exact .int _ _
 rw[if_neg h4] at hbt;have heq:=Mf (cV b) a (Hw hcb h4) ha;rw[hbt] at hbo |-;dsimp only at hbo |-;rw[if_neg (λq=>q rfl)];generalize cV b=g at *;by_cases h5:g=a
 ·rw[aZ h5] at heq;rw[if_pos h5];refine wnY (zI3 @t1 @t2 @z0) ?_;exact .int _ _
 ·rw[aW h5] at heq;rw[if_neg h5];refine wnY (zI3 @t1 @t2 @z0) ?_;exact .int _ _
def rfT(c a y:List Spx):Int:=if (jq c a y).2.2≠0 then(jq c a y).2.2 else if a=[]\/y=[] then 18 else if eN a≠eN y then 15 else JJ (dH (aA c ((eN a:Int)+1)) (aA c (eN a))) (jq c a y).1 (jq c a y).2.1
theorem n6(c a y:List Spx)(hl:c.length<=50)(hs:∀s∈c,Shn s)(ha:ShC a)(hy:ShC y):pU 27 [bQ c,ao a,ao y] (.int .i64 (rfT c a y)):=by
 refine pO NI ?_;simp only[b27,aG];have hp:=Bo c a y hl hs ha hy;have hpf:=ud (c:=c) (a:=a) (b:=y);have hal:=ha.1;have hyl:=hy.1;unfold rfT;generalize jq c a y=p at *;obtain⟨v,w,e⟩:=p;dsimp only at *;by_cases he:e=0
 rotate_left
 ·have z0:decide (e≠(0:Int))=true:=aZ he;rw[if_pos he];refine wnY (zI3 @z0 @ai @ah) ?_;exact .int _ _
 subst he;obtain⟨v',w',hv,hw,hvw⟩:=hpf rfl;cases hvw;obtain⟨hc,hca,-,-,va,vr⟩:=kC hv;obtain⟨-,hcy,-,-,wa,wr⟩:=kC hw;have z0:decide ((0:Int)≠0)=false:=rfl;rw[if_neg (λq=>q rfl)];by_cases h1:a=[]
 ·have z1:decide ((a.length:Int)=0)=true:=by rw[h1];rfl
  rw[if_pos (.inl h1)];refine wnY (zI5 @z0 @z1 @ai @ah @af) ?_;exact .int _ _
 have z1:decide ((a.length:Int)=0)=false:=aW (by have:=li.2 h1;omega);by_cases h2:y=[]
 ·have z2:decide ((y.length:Int)=0)=true:=by rw[h2];rfl
  rw[if_pos (.inr h2)];refine wnY (zI6 @z0 @z1 @z2 @ai @ah @af) ?_;exact .int _ _
 have z2:decide ((y.length:Int)=0)=false:=aW (by have:=li.2 h2;omega);rw[if_neg (λq=>q.elim h1 h2)];have ix:=zH h1;have iy:=zH h2;have hsa:=ha.2 _ (ay (li.2 h1));have hsb:=hy.2 _ (ay (li.2 h2));have h8:=(cA ((oh hca).2.1 _ (ay (li.2 h1)))).2.1;unfold eN at *;generalize a.getD 0 default=s at *;generalize y.getD 0 default=t at *;have hsa':s.length<=17592186044416:=hsa;by_cases h3:s.length=t.length
 rotate_left
 ·have z3:decide ((s.length:Int)≠(t.length:Int))=true:=aZ (by omega);rw[if_pos h3];refine wnY (dV @z0 @z1 @z2 @z3 @ix @iy @ai @ah @af @au) ?_;exact .int _ _
 have z3:decide ((s.length:Int)≠(t.length:Int))=false:=aW (by omega);rw[if_neg (λq=>q h3)];rw[<-h3] at wr;have hed:=mR c s.length hc hl h8;have hr1:=cE hc hl (d:=(s.length:Int)+1);have hr2:=cE hc hl (d:=(s.length:Int));have hver:=Ea (aA c ((s.length:Int)+1)).length (dH (aA c ((s.length:Int)+1)) (aA c (s.length:Int))) v w (lf (by omega) (by omega)) (by rw[gu];exact vr) va (by rw[gu];exact wr) wa;have hd1:Dat (cQ (aA c ((s.length:Int)+1)).length (dH (aA c ((s.length:Int)+1)) (aA c (s.length:Int)))):=cr _ _;rw[bU] at hed hver hd1;generalize dH (aA c ((s.length:Int)+1)) (aA c (s.length:Int))=R at *;generalize (aA c ((s.length:Int)+1)).length=n at *;refine wnY (dV @z0 @z1 @z2 @z3 @ix @iy @ai @ah @af @au) ?_;exact .int _ _
theorem zu(c a:List Spx)(hl:c.length<=50)(hs:∀s∈c,Shn s)(ha:ShC a):pU 21 [bQ c,ao a] (.tup [ao (Aq c a).1,ao (Aq c a).2.1,.bool (Aq c a).2.2.1,.int .i64 (Aq c a).2.2.2]):=by
 refine pO NG ?_;simp only[b21,aG];have hch:=nZ c hl hs;have hcy:=Eg c a hl hs ha;have hcf:=Ck (c:=c) (a:=a);have hal:=ha.1
 have hce:aB c≠0->cyH c a=([],aB c):=λh=>by
  unfold cyH iC;rw[if_pos h,if_pos h]
 unfold Aq;generalize cyH c a=p at *;obtain⟨v,e⟩:=p;dsimp only at *;have z0:decide ((0:Int)≠0)=false:=rfl;have fin0:∀{H:Hp}{f:Int},Snap H (.tup [.esl,.esl,.bool false,.int .i64 f]) (.tup [ao [],ao [],.bool false,.int .i64 f]):=bI (ag (.eslsl 1) (ag (.eslsl 1) (ag (.bool _) (ag (.int _ _) an))));by_cases hc:aB c=0
 rotate_left
 ·cases hce hc;have z1:decide (aB c≠(0:Int))=true:=aZ hc;rw[if_pos hc];refine wnY (zI3 @z1 @ai @ah) ?_;exact r_4 rfl rfl rfl rfl fin0
 rw[hc] at hch;by_cases he:e=0
 rotate_left
 ·have z1:decide (e≠(0:Int))=true:=aZ he;rw[if_pos he];refine wnY (zI4 @z0 @z1 @ai @ah) ?_;exact r_4 rfl rfl rfl rfl fin0
 subst he;obtain⟨v',hv,hvw,hez⟩:=hcf rfl;cases hvw;rw[if_neg (λq=>q rfl)];by_cases h1:a=[]
 ·have z1:decide ((a.length:Int)=0)=true:=by rw[h1];rfl
  rw[if_pos h1];refine wnY (zI5 @z0 @z1 @ai @ah @af) ?_;refine r_4 rfl rfl rfl rfl ?_;exact bI (ag (.eslsl 1) (ag (.eslsl 1) (ag (.bool _) (ag (.int _ _) an))))
 have z1:decide ((a.length:Int)=0)=false:=aW (by have:=li.2 h1;omega);rw[if_neg h1];obtain⟨-,hca,hvp,-,va,vr⟩:=kC hv;have ix:=zH h1;have hsa:=(cA ((oh hca).2.1 _ (ay (li.2 h1))))
 have hv0:v≠[]:=λe=>by
  rw[hvp] at e;cases a with
  |nil=>exact h1 rfl
  |cons x a=>cases e
 clear hvp;unfold eN at *;generalize a.getD 0 default=s at *;obtain⟨d,hd⟩:∃d,s.length=d+1:=⟨s.length-1,by omega⟩
 have hed:=mR c s.length hc hl hsa.2.1;have hr1:=cE hc hl (d:=(s.length:Int)+1);have hr2:=cE hc hl (d:=(s.length:Int));have hmv:=lf (X:=aA c ((s.length:Int)+1)) (Y:=aA c (s.length:Int)) (by omega) (by omega);have hso:=G4 (aA c ((s.length:Int)+1)).length (dH (aA c ((s.length:Int)+1)) (aA c (s.length:Int))) v hmv (by rw[gu];exact vr) va;have hd1:Dat (cQ (aA c ((s.length:Int)+1)).length (dH (aA c ((s.length:Int)+1)) (aA c (s.length:Int)))):=cr _ _;have hsl:(s.length:Int)-1+1=s.length:=by omega
 have hsl2:(s.length:Int)-1=(d:Int):=by omega
 rw[bU] at hed hso hd1;rcases Dn (w:=v) hmv va with⟨x,q1,-,q2,q3,-,q4⟩|⟨y,q1,q2,q3,q4,-⟩
 ·have h7:s.length<=7:=by
    refine Decidable.byContradiction λhn=>?_;rw[Bc hc (by omega),yY] at q4;obtain⟨z,hz⟩:=List.exists_mem_of_ne_nil _ hv0;have hzr:=vr z hz;have:=q4 z.toNat (by rw[List.length_replicate];omega);rw[show((z.toNat:Nat):Int)=z by omega,dG.2 hz] at this;rw[show(List.replicate (aA c (s.length:Int)).length ([]:List Int)).getD z.toNat default=[] by rw[Ju,List.getElem?_replicate];split<;>rfl] at this;cases this
  have hcn:=w9 c s.length x hl (ka hc) (by have:=eu q2 q3;omega);rw[Ez hc h7 q2 q3] at hcn;rw[q1] at hso |-;dsimp only at hso hcn |-;rw[if_pos rfl];generalize c7 (aA c ((s.length:Int)+1)) x=b at *;generalize dH (aA c ((s.length:Int)+1)) (aA c (s.length:Int))=R at *;generalize (aA c ((s.length:Int)+1)).length=n at *;refine wnY (zI8 @z0 @z1 @ix @hsl @ai @ah @af @au) ?_;refine r_4 rfl rfl rfl rfl ?_;exact bI (ag (bK b).snap (ag (.eslsl 1) (ag (.bool _) (ag (.int _ _) an))))
 ·rw[gu] at q4;have hss:(s.length:Int)=(d:Int)+1:=by omega
  have hcn:=w9 c d y hl (ka hc) (by have:=eu q3 q4;omega);rw[Ez hc (by omega) q3 (by rw[<-hss];exact q4),<-hss] at hcn;rw[q1] at hso |-;dsimp only at hso hcn |-;rw[if_neg (by decide)];generalize c7 (aA c (s.length:Int)) y=b at *;generalize dH (aA c ((s.length:Int)+1)) (aA c (s.length:Int))=R at *;generalize (aA c ((s.length:Int)+1)).length=n at *;have hss2:(d:Int)+1=s.length:=hss.symm;refine wnY (zI9 @z0 @z1 @ix @hsl2 @hss2 @ai @ah @af @au) ?_;refine r_4 rfl rfl rfl rfl ?_;exact bI (ag (.eslsl 1) (ag (bK b).snap (ag (.bool _) (ag (.int _ _) an))))
theorem DZ(c:Nat)(R:List (List Int))(hm:fH c R)(G:Hp)(n0:Nat):Abs.Fn Tryz.prog 111 [cQ c R] G n0 λr H' nx'=>∃sv,r=.agg [.int .i64 R.length,sv]/\Row H' 1 sv ((trL c R).map aE)/\n0<=nx'/\(∀x,x<n0->H' x=G x)/\∀b,bv sv=some b->n0<=b/\b<nx':=by
 refine fO Ng ?_;simp only[J9,aG];obtain⟨m1,m2,m3,m4⟩:=hm;rw[bU];refine wnY @bG ?_;refine qT (X:=Nat×AV) (λx=>[(1,.ptr n0 2 0),(2,.ptr (n0+1) 2 0),(3,.ptr (n0+2) 2 0),(4,.int .i64 x.1)]) (λx H nx=>x.1<=c/\n0+3<=nx/\H n0=some [.int .i64 c,bi R]/\H (n0+1)=some [.int .i64 0,.esl]/\H (n0+2)=some [.int .i64 R.length,x.2]/\Row H 1 x.2 ((List.range x.1).map λj=>aE (dJ (trF R R.length j)))/\(∀b,bv x.2=some b->n0+3<=b/\b<nx)/\∀y,y<n0->H y=G y) (λx=>c-x.1) (0,.esl) ⟨bF,_,Fz.none,⟨bz _,aN _,by rw[ac (by omega),ac (by omega),ac (by omega),ae],by rw[ac (by omega),ac (by omega),ae],by rw[ae];rfl,Row.nil,λb h=>(by cases h),λy hy=>by rw[ac (by omega),ac (by omega),ac (by omega),ac (by omega)]⟩,.inl rfl,.inl rfl,.inl rfl,.inl rfl,trivial⟩ ?_;rintro⟨i,sv⟩ H nx ⟨h1,h2,g0,gr,g1,hrow,hbd,hG⟩;dsimp only at h1 g1 hrow hbd |-;obtain⟨o1,o2⟩:=hrow.one;by_cases hi:i<c
 rotate_left
 ·obtain rfl:i=c:=by omega
  have z1:decide ((i:Int)<i)=false:=aW (by omega);refine wnY (zI6 @z1 @g0 @g1 @gr @o1 @o2) ?_;refine⟨sv,rfl,?_,by omega,λx hx=>by rw[ac (by omega)];exact hG x hx,λb hb=>by have:=hbd b hb;omega⟩;unfold trL;rw[List.map_map];exact hrow.same λb hb=>ac (by have:=hbd b hb;omega)
 have zi:decide ((i:Int)<c)=true:=aZ (by omega);refine wnY (aI @zi @g0) ?_;refine bA (X:=Nat×AV) (λx=>[(1,.ptr n0 2 0),(2,.ptr (n0+1) 2 0),(3,.ptr (n0+2) 2 0),(4,.int .i64 i),(5,x.2),(6,.int .i64 x.1)]) (λx H' nx'=>x.1<=R.length/\nx<=nx'/\(∀y,y<nx->H' y=H y)/\Row H' 1 x.2 ((trF R x.1 i).map pW)/\∀b,bv x.2=some b->nx<=b/\b<nx') (λx=>R.length-x.1) (0,.esl) ⟨bz _,aN _,λ_ _=>rfl,Row.nil,λb h=>(by cases h)⟩ ag0 ?_;rintro⟨k,rv⟩ H' nx' ⟨k1,k2,k3,krow,kbd⟩;dsimp only at k1 krow kbd |-;obtain⟨o3,o4⟩:=krow.one;have g0':H' n0=some [.int .i64 c,bi R]:=(k3 n0 (by omega)).trans g0;have gr':H' (n0+1)=some [.int .i64 0,.esl]:=(k3 (n0+1) (by omega)).trans gr;have g1':H' (n0+2)=some [.int .i64 R.length,sv]:=(k3 (n0+2) (by omega)).trans g1;by_cases hk:k<R.length
 rotate_left
 ·obtain rfl:k=R.length:=by omega
  have hr1:Row H' 1 sv ((List.range i).map λj=>aE (dJ (trF R R.length j))):=hrow.same λb hb=>k3 b (by have:=hbd b hb;omega);refine wnY (zI5 @g0' @bG @g1' @o3 @o4) ?_;refine f9 rfl ev0 (hr1.same λb hb=>?_) ev0 dQ (by simp[AV.ones,o3]) rfl jb (by simp;omega) (by simp;omega) ?_
  ·have:=hbd b hb;rw[ac (by omega)]
  rintro s2 H2 nx2 hr2 i1 i2 i3 i4;have lo:∀x,x<nx'->bv sv≠some x->H2 x=H' x:=λx x1 x2=>(i3 x (by omega) x2).trans (ac (by omega));have l4:∀x,x<n0+3->H2 x=H' x:=λx x1=>lo x (by omega) (λh=>by have:=hbd _ h;omega);have g42:H2 (n0+2)=some [.int .i64 R.length,sv]:=(l4 (n0+2) (by omega)).trans g1';obtain⟨o5,o6⟩:=hr2.one;have kr2:Row H2 1 rv ((trF R R.length i).map pW):=krow.same λb hb=>lo b (by have:=kbd b hb;omega) (λh=>by have:=hbd b h;have:=kbd b hb;omega)
  have hb2:∀b,bv s2=some b->n0+3<=b/\b<nx2/\bv rv≠some b:=λb hb=>by
   rcases i4 b hb with h|h
   ·have:=hbd b h;exact⟨by omega,by omega,λe=>by have:=kbd b e;omega⟩
   ·exact⟨by omega,by omega,λe=>by have:=kbd b e;omega⟩
  refine wnY (zI3 @g42 @o5 @o6) ?_;obtain⟨Hf,H5,hfz,hr5,hs5⟩:=pf (H:=ap H2 (n0+2) (br [.int .i64 R.length,sv] 1 [s2])) (hr2.same λb hb=>ac (by have:=hb2 b hb;omega)) (kr2.same λb hb=>ac (by have:=kbd b hb;omega)) (λb hb e=>(hb2 b e).2.2 hb);have hlow:∀x,x<n0+3->H5 x=ap H2 (n0+2) (br [.int .i64 R.length,sv] 1 [s2]) x:=λx hx=>hs5 x (λe=>by have:=kbd x e;omega) (λe=>by have:=hb2 x e;omega);refine⟨(i+1,s2),by dsimp only;omega,Hf,H5,hfz,⟨by dsimp only;omega,by omega,?_,?_,?_,?_,λb hb=>?_,λy hy=>?_⟩,ft ag0⟩
  ·rw[hlow n0 (by omega),ac (by omega),l4 n0 (by omega)];exact g0'
  ·rw[hlow (n0+1) (by omega),ac (by omega),l4 (n0+1) (by omega)];exact gr'
  ·rw[hlow (n0+2) (by omega),ae];rfl
  ·dsimp only;rw[List.range_succ,cp];exact hr5
  ·have:=hb2 b hb;omega
  ·rw[hlow y (by omega),ac (by omega),l4 y (by omega),k3 y (by omega)];exact hG y hy
 have ix:=t5 hk;have zk:decide ((k:Int)<R.length)=true:=aZ (by omega);have hrl:=(m4 _ (ay hk)).2.1;have hh:=wB (R.getD k default) i (by omega);have hFk:=yB (R:=R) (n:=k) (q:=i);have hFl:=xw (R:=R) (n:=k) (q:=i);generalize R.getD k default=r at *;by_cases he2:(i:Int)∈r
 ·rw[aZ he2] at hh;rw[if_pos he2] at hFk;refine wnY (zI4 @bG @ix @zk @g0') ?_;refine eR (krow.same λb hb=>?_) ?_
  ·have:=kbd b hb;rw[ac (by omega)]
  rintro r2 H2 nx2 hr2 i1 i2 i3 i4;obtain⟨o5,o6⟩:=hr2.one;refine wnY (aI @o5 @o6) ?_;refine⟨(k+1,r2),by dsimp only;omega,⟨by dsimp only;omega,by omega,λy hy=>?_,?_,λb hb=>?_⟩,ag0⟩
  ·rw[i3 y (by omega) (λh=>by have:=kbd _ h;omega),ac (by omega)];exact k3 y hy
  ·dsimp only;rw[hFk,cp];exact hr2
  ·rcases i4 b hb with h|h
   ·have:=kbd b h;omega
   ·omega
 ·rw[aW he2] at hh;rw[if_neg he2,fp] at hFk;refine wnY (zI4 @bG @ix @zk @g0') ?_;exact⟨(k+1,rv),by dsimp only;omega,⟨by dsimp only;omega,k2,k3,by dsimp only;rw[hFk];exact krow,kbd⟩,ag0⟩
theorem HU(c:Int)(E:List (List Int))(q:Int)(hl:E.length<=100000)(hn:∀r∈E,r≠[]):pU 107 [cQ c E,.int .i64 q] (.bool (decide (q∈E.map ld))):=by
 refine pO LX ?_;simp only[L7,aG];rw[bU];refine wnY @bG ?_;refine lpI (X:=Nat) (λk=>[(1,.int .i64 q),(2,.ptr 0 2 0),(5,.int .i64 k)]) (λk H nx=>k<=E.length/\(∀i,i<k->ld (E.getD i default)≠q)/\H 0=some [.int .i64 c,bi E]) (λk=>E.length-k) 0 ⟨bz _,λi h=>absurd h (by omega),rfl⟩ ?_;rintro k H nx ⟨h1,h2,g0⟩;by_cases hk:k<E.length
 ·have ix:=t5 hk;have hm:=ay hk;have ix0:=Dg (hn _ hm);by_cases hv:ld (E.getD k default)=q
  ·have z:decide (ld (E.getD k default)=q)=true:=aZ hv;rw[aZ (show q∈E.map ld by rw[<-hv];exact List.mem_map_of_mem hm)];refine wnY (zI5 @g0 @bG @ix @ix0 @z) ?_;exact .bool _
  ·have z:decide (ld (E.getD k default)=q)=false:=aW hv;refine wnY (zI5 @g0 @bG @ix @ix0 @z) ?_
   exact ⟨k + 1,by omega,⟨by omega,fun i hi=>by
    rcases(by omega:i<k\/i=k) with h|rfl
    ·exact h2 i h
    ·exact hv,g0⟩,ag0⟩
 ·obtain rfl:k=E.length:=by omega
  rw [aW fun hm=>by
   obtain⟨r,hr,e⟩:=bJ.1 hm;obtain⟨i,hi,rfl⟩:=nS hr;exact h2 i hi e]
  refine wnY (aI @g0 @bG) ?_;exact .bool _
theorem CJ{E:List (List Int)}{q k:Nat}(h:k<E.length):kH (E.take (k+1)) q=if (q:Int)∈E.getD k default then bP (kH (E.take k) q) [ld (E.getD k default)] else kH (E.take k) q:=by
 unfold kH;rw[bZ h,List.foldl_append];rfl
theorem r7{q:Nat}:∀{E:List (List Int)}{a:List Int},(E.foldl (λa r=>if (q:Int)∈r then bP a [ld r] else a) a).length<=a.length+E.length
 |[],a=>aN _
 |x::E,a=>by
  rw[List.foldl_cons,bC];by_cases h:(q:Int)∈x
  ·rw[if_pos h];have:=r7 (q:=q) (E:=E) (a:=bP a [ld x]);have h2:=l9 _ a [ld x] (aN _);simp only[bC,dp] at h2;omega
  ·rw[if_neg h];have:=r7 (q:=q) (E:=E) (a:=a);omega
theorem Gy(c:Nat)(R:List (List Int))(hm:fH c R):pU 52 [cQ c R] (cQ c (nt (cT R c) c)):=by
 refine pO OW ?_;simp only[b52,aG];have hre:=DQ c R hm;rw[oT (dW hm) (jQ hm)] at hre;obtain⟨e1,e2,e3,e4⟩:=wE hm;have hmc:=hm.2.1;have hne:=e1.ne;have hrl:∀r∈cT R c,r.length<=c:=λr hr=>eu (e1.asc r hr) (e3 r hr);have hd0:Dat (.agg [.int .i64 c,bi R]):=cr c R;rw[bU,bU] at hre;rw[bU,bU];generalize cT R c=E at *;have hle:=λq=>HU c E q (by omega) hne;have hd1:Dat (.agg [.int .i64 c,bi E]):=cr c E;rw[bU] at hle;refine wnY and_self ?_;refine qT (X:=Nat×AV) (λx=>[(1,.ptr 0 2 0),(2,.ptr 1 2 0),(3,.ptr 2 2 0),(4,.ptr 3 2 0),(5,.int .i64 x.1)]) (λx H nx=>x.1<=c/\4<=nx/\H 0=some [.int .i64 c,bi R]/\H 1=some [.int .i64 0,.esl]/\H 2=some [.int .i64 c,bi E]/\H 3=some [.int .i64 c,x.2]/\Row H 1 x.2 ((nt E x.1).map aE)/\∀b,bv x.2=some b->4<=b/\b<nx) (λx=>c-x.1) (0,.esl) ⟨bF,_,Fz.none,⟨bz _,aN _,rfl,rfl,rfl,rfl,Row.nil,λb h=>(by cases h)⟩,.inl rfl,.inl rfl,.inl rfl,.inl rfl,.inl rfl,trivial⟩ ?_;rintro⟨i,sv⟩ H nx ⟨h1,h2,g0,gr,g2,g3,hrow,hbd⟩;dsimp only at h1 g3 hrow hbd |-;obtain⟨o1,o2⟩:=hrow.one;by_cases hi:i<c
 rotate_left
 ·obtain rfl:i=c:=by omega
  have z1:decide ((i:Int)<i)=false:=aW (by omega);refine wnY (zI7 @z1 @g0 @g2 @g3 @gr @o1 @o2) ?_;have hr2:Row (ap H 1 [.int .i64 i,sv]) 1 sv ((nt E i).map aE):=hrow.same λb hb=>ac (by have:=hbd b hb;omega);exact ju (ag (.int _ _) (ag hr2.snapV an))
 have zi:decide ((i:Int)<c)=true:=aZ (by omega);have hks:=u9 (E:=E) (k:=i);have hlq:=hle (i:Int);have hkl:=ul (E:=E) (k:=i);by_cases hli:(i:Int)∈E.map ld
 ·rw[aZ hli] at hlq;rw[if_pos hli,fp] at hks;refine wnY (zI3 @zi @g0 @g2) ?_;exact⟨(i+1,sv),by dsimp only;omega,bF,H,Fz.none,⟨by dsimp only;omega,h2,g0,gr,g2,g3,by dsimp only;rw[hks];exact hrow,hbd⟩,ft ag0⟩
 rw[aW hli] at hlq;rw[if_neg hli] at hks;refine wnY (zI3 @zi @g0 @g2) ?_;refine qT (X:=Nat) (λk=>[(1,.ptr 0 2 0),(2,.ptr 1 2 0),(3,.ptr 2 2 0),(4,.ptr 3 2 0),(5,.int .i64 i),(6,aE (kH (E.take k) i)),(7,.int .i64 k)]) (λk H' nx'=>k<=E.length/\nx<=nx'/\∀y,y<nx->H' y=H y) (λk=>E.length-k) 0 ⟨_,_,Fz.one (b:=nx) (cs:=[.int .i64 i]) (by rw[ae]),⟨bz _,by omega,λy hy=>by rw[b9 (by omega),ac (by omega)]⟩,.inl rfl,.inl rfl,.inl rfl,.inl rfl,.inl rfl,.inr (dD (l:=[(i:Int)]) gA rfl rfl),.inl rfl,trivial⟩ ?_;rintro k H' nx' ⟨k1,k2,k3⟩;have g0':H' 0=some [.int .i64 c,bi R]:=(k3 0 (by omega)).trans g0;have gr':H' 1=some [.int .i64 0,.esl]:=(k3 1 (by omega)).trans gr;have g2':H' 2=some [.int .i64 c,bi E]:=(k3 2 (by omega)).trans g2;have g3':H' 3=some [.int .i64 c,sv]:=(k3 3 (by omega)).trans g3;have hvl:=r7 (q:=i) (E:=E.take k) (a:=[(i:Int)]);rw[fL] at hvl;simp only[bC,dp] at hvl;change (kH (E.take k) i).length<=_ at hvl;by_cases hk:k<E.length
 rotate_left
 ·obtain rfl:k=E.length:=by omega
  rw[List.take_length] at *;have hr1:Row H' 1 sv ((nt E i).map aE):=hrow.same λb hb=>k3 b (by have:=hbd b hb;omega);generalize kH E i=w at *;refine wnY (zI3 @g2' @g3' @bG) ?_;refine f9 rfl ev0 (hr1.same λb hb=>?_) ev0 dQ rfl rfl jb (by simp;omega) (by simp;omega) ?_
  ·have:=hbd b hb;rw[ac (by omega)]
  rintro s2 H2 nx2 hr2 i1 i2 i3 i4;have lo:∀x,x<4->H2 x=H' x:=λx x1=>(i3 x (by omega) (λh=>by have:=hbd _ h;omega)).trans (ac (by omega));have g42:H2 3=some [.int .i64 c,sv]:=(lo 3 (by omega)).trans g3';obtain⟨o5,o6⟩:=hr2.one
  have hb2:∀b,bv s2=some b->4<=b/\b<nx2:=λb hb=>by
   rcases i4 b hb with h|h
   ·have:=hbd b h;omega
   ·omega
  refine wnY (zI3 @g42 @o5 @o6) ?_;refine⟨(i+1,s2),by dsimp only;omega,bF,_,Fz.none,⟨by dsimp only;omega,by omega,?_,?_,?_,?_,?_,λb hb=>hb2 b hb⟩,ft ag0⟩
  ·rw[ac (by omega),lo 0 (by omega)];exact g0'
  ·rw[ac (by omega),lo 1 (by omega)];exact gr'
  ·rw[ac (by omega),lo 2 (by omega)];exact g2'
  ·rw[ae];rfl
  ·dsimp only;rw[hks,cp];exact hr2.same λb hb=>ac (by have:=hb2 b hb;omega)
 have ix:=t5 hk;have zk:decide ((k:Int)<E.length)=true:=aZ (by omega);have hm2:=ay hk;have hh:=wB (E.getD k default) i (by have:=hrl _ hm2;omega);have ix0:=Dg (hne _ hm2);have hks2:=CJ (q:=i) hk;have hpl:=B7 (kH (E.take k) i) [ld (E.getD k default)] (by omega) (by simp);generalize E.getD k default=r at *;by_cases he2:(i:Int)∈r
 ·rw[aZ he2] at hh;rw[if_pos he2] at hks2;rw[<-hks2] at hpl;generalize hw2:kH (E.take (k+1)) i=w2 at *;generalize kH (E.take k) i=w at *;refine wnY (zI5 @bG @ix @ix0 @zk @g2') ?_;refine aO ev0 ev0 (OV hpl (b:=nx') (cs:=[.int .i64 (ld r)]) ae (ag (cu _).snap (ag (dD (n:=1) (len:=1) (l:=[ld r]) gA rfl rfl) an))) ?_;rintro _ _ _ ⟨rfl,rfl,rfl⟩;refine wnY and_self ?_;refine⟨k+1,by omega,bF,_,Fz.none,⟨by omega,by omega,λy hy=>?_⟩,ft (by rw[hw2];simp (disch:=omega) only[agr,ZG,reduceEqDiff,↓reduceIte])⟩;rw[b9 (by omega),ac (by omega)];exact k3 y hy
 ·rw[aW he2] at hh;rw[if_neg he2] at hks2;refine wnY (zI4 @bG @ix @zk @g2') ?_;exact⟨k+1,by omega,bF,_,Fz.none,⟨by omega,k2,k3⟩,ft (by rw[hks2];simp (disch:=omega) only[agr,ZG,reduceEqDiff,↓reduceIte])⟩
theorem Gv(c:List Spx)(d:Nat)(l:List (List Int))(hc:aB c=0)(hl:c.length<=50)(hd:d<=7)(hlm:fH (bdN c d) l)(hll:l.length<=500):pU 54 [bQ c,.int .i64 d,bi l] (.bool (nM c d l)):=by
 refine pO Ol ?_;simp only[b54,aG];have he:=ya c (d+1) hc hl (by omega);have q1:=cE hc hl (d:=(d:Int)+1+1);have q2:=cE hc hl (d:=(d:Int)+1);rw[show((d+1:Nat):Int)=(d:Int)+1 by omega] at he;have hB:=lf (X:=aA c ((d:Int)+1+1)) (Y:=aA c ((d:Int)+1)) (by omega) (by omega);have ht:=λG n0=>DZ _ _ hB G n0;simp only[gu] at ht;have hM:=wo hc hl (d:=d);have hMl:=GB hc hl (d:=d);have hM2:=s9 hM hlm (by omega);have h1:=nR _ _ hM;have h2:=nR _ _ hM2;rw[EB hM] at h1;rw[EB hM2] at h2;have hf:nM c d l=decide ((cT (bdM c d++l) (bdN c d)).length=(cT (bdM c d) (bdN c d)).length+l.length):=rfl;have l1:(cT (bdM c d) (bdN c d)).length<=bdN c d:=xI;have l2:(cT (bdM c d++l) (bdN c d)).length<=bdN c d:=by unfold cT;rw[bk];exact jv
 have hm:trL (aA c ((d:Int)+1+1)).length (dH (aA c ((d:Int)+1+1)) (aA c ((d:Int)+1)))=bdM c d:=rfl;have hq:((aA c ((d:Int)+1)).length:Int)=bdN c d:=rfl;rw[hm,hq] at ht;have hN:bdN c d<=3500:=q2;rw[hf];generalize dH (aA c ((d:Int)+1+1)) (aA c ((d:Int)+1))=R at *;generalize (aA c ((d:Int)+1+1)).length=m at *;generalize cT (bdM c d++l) (bdN c d)=E2 at *;generalize cT (bdM c d) (bdN c d)=E1 at *;generalize hMM:bdM c d=M at *;generalize bdN c d=n at *;have d1:Dat (.agg [.int .i64 m,bi R]):=cr m R;rw[bU] at he;simp only[bU] at ht;refine wnY (aI @ai @ah) ?_;refine aO ev0 ev0 (ht _ _) ?_;rintro _ H1 nx1 ⟨sv,rfl,hrow,g1,g2,g3⟩;obtain⟨o1,o2⟩:=hrow.one;have a0:=(g2 0 (by omega)).trans ae;refine wnY (aI @o1 @o2) ?_;refine aO ev0 ev0 (h1 _ _ sv (.inr (hrow.same λb hb=>by have:=g3 b hb;rw[ac (by omega),ac (by omega)])) (λb hb=>by have:=g3 b hb;omega)) ?_;rintro _ H2 nx2 ⟨s2,rfl,k1,k2,k3,k4⟩;have b1:H2 nx1=some [.int .i64 n,sv]:=(k3 nx1 (by omega)).trans ae;have hrow2:Row H2 1 sv (M.map aE):=hrow.same λb hb=>by have:=g3 b hb;rw[k3 b (by omega),ac (by omega),ac (by omega)]
 have ls2:=k1.lenS;refine wnY (aI @b1 @ls2) ?_;refine f9 rfl ev0 hrow2 ev0 fW f8 (by rw[bk,Nat.mul_one]) jb (by rw[bk];omega) (by rw[bk];omega) ?_;rintro s3 H3 nx3 hr3 i1 i2 i3 i4;obtain⟨o3,o4⟩:=hr3.one;have b2:H3 nx1=some [.int .i64 n,sv]:=(i3 nx1 (by omega) (λh=>by have:=g3 _ h;omega)).trans b1
 have hb3:∀b,bv s3=some b->b<nx3/\b≠nx1:=λb hb=>by
  rcases i4 b hb with h|h
  ·have:=g3 b h;omega
  ·omega
 refine wnY (zI3 @b2 @o3 @o4) ?_;refine aO ev0 ev0 (h2 _ _ s3 (.inr ?_) (λb hb=>(hb3 b hb).1)) ?_
 ·rw[cp];exact hr3.same λb hb=>ac (hb3 b hb).2
 rintro _ H4 nx4 ⟨s4,rfl,q1,q2,q3,q4⟩;have ls4:=q1.lenS;refine wnY (aI @ls4 @bG) ?_;exact ci (decide_eq_decide.2 (by omega))
def cyR(c:List Spx)(d:Nat):List (List Spx):=(tkT (bdM c d) (bdN c d) (bsK c d) (bsK c d).length).map (c7 (aA c ((d:Int)+1)))
theorem LV{c:List Spx}{d:Nat}(hc:aB c=0)(hl:c.length<=50):cyT c d=cyR c d:=by
 unfold cyT cyR;rw[show bdE c d=cT (bdM c d) (bdN c d) from rfl,Ix (BX (wo hc hl)) (BX (s7 hc hl).1) (aN _)]
theorem DS(c:List Spx)(d:Nat)(hc:aB c=0)(hl:c.length<=50)(hd:d<=7)(hn:bdN c d<=400):pU 19 [bQ c,.int .i64 d] (.tup [cJ (cyR c d),.int .i64 0]):=by
 refine pO Lu ?_;simp only[b19,aG];obtain⟨p1,p2,p3,p4⟩:=dg hc;have h8:∀s∈c,s.length<=8:=λs h=>(cA (p2 s h)).2.1;have hli:=q6 c hl (ka hc);rw[hc] at hli;have hX:=xx c (d+1) hl h8 (by omega);rw[show((d+1:Nat):Int)=(d:Int)+1 by omega,<-vM] at hX;have he:=ya c d hc hl (by omega);have hBm:=Ac (d:=d) hc hl;have hnu:=Gy _ _ hBm;rw[show((aA c ((d:Int)+1)).length:Int)=(bdN c d:Int) from rfl] at he;rw[show nt (cT (dH (aA c ((d:Int)+1)) (aA c d)) (bdN c d)) (bdN c d)=bsK c d from rfl] at hnu;obtain⟨mK,lK⟩:=s7 (d:=d) hc hl;have hKv:=jQ mK;have hfr:=λl h1 h2=>Gv c d l hc hl hd h1 h2;have htm:=λk=>uj (M:=bdM c d) (n:=bdN c d) (K:=bsK c d) (k:=k);have htl:=λk=>Ax (M:=bdM c d) (n:=bdN c d) (K:=bsK c d) (k:=k)
 have hts:∀k,tkT (bdM c d) (bdN c d) (bsK c d) (k+1)=if nM c d (tkT (bdM c d) (bdN c d) (bsK c d) k++[(bsK c d).getD k default])=true then tkT (bdM c d) (bdN c d) (bsK c d) k++[(bsK c d).getD k default] else tkT (bdM c d) (bdN c d) (bsK c d) k:=λk=>by
  rw[tkT];unfold nM;simp only[cw,bC,dp,bS,gj]
 have hcr:cyR c d=(tkT (bdM c d) (bdN c d) (bsK c d) (bsK c d).length).map (c7 (aA c ((d:Int)+1))):=rfl;have hXn:(aA c ((d:Int)+1)).length=bdN c d:=rfl;have ht0:tkT (bdM c d) (bdN c d) (bsK c d) 0=[]:=rfl;have hch:=λv hv hr=>FY (aA c ((d:Int)+1)) v (by omega) hv hr;rw[hXn] at hch;rw[hcr];generalize tkT (bdM c d) (bdN c d) (bsK c d)=D at *;generalize dH (aA c ((d:Int)+1)) (aA c d)=R at *;generalize aA c ((d:Int)+1)=X at *;generalize bsK c d=K at *;generalize bdN c d=n at *;have dR:Dat (.agg [.int .i64 n,bi R]):=cr n R;rw[bU] at he;rw[bU,bU] at hnu;have z0:decide ((0:Int)≠0)=false:=rfl;have z1:decide ((d:Int)<0)=false:=aW (by omega);have z2:decide ((8:Int)<=d)=false:=aW (by omega);refine wnY (zI5 @z0 @z1 @z2 @ai @ah) ?_;refine lpI (X:=AV×AV×Nat) (λx=>[(1,.int .i64 d),(2,.ptr 0 1 0),(7,ao X),(8,.ptr 1 2 0),(9,x.1),(10,x.2.1),(11,.int .i64 x.2.2)]) (λx H nx=>x.2.2<=K.length/\2<=nx/\H 0=some [ao c]/\H 1=some [.int .i64 n,bi K]/\Row H 1 x.1 ((D x.2.2).map aE)/\(∀b,bv x.1=some b->2<=b/\b<nx)/\Row H 1 x.2.1 (((D x.2.2).map (c7 X)).map ao)/\∀b,bv x.2.1=some b->2<=b/\b<nx/\bv x.1≠some b) (λx=>K.length-x.2.2) (.esl,.esl,0) ⟨bz _,aN _,rfl,rfl,by dsimp only;rw[ht0];exact Row.nil,λb hb=>(by cases hb),by dsimp only;rw[ht0];exact Row.nil,λb hb=>(by cases hb)⟩ ?_;rintro⟨sv,wv,k⟩ H nx ⟨h1,h2,g0,g1,hrow,hbd,orow,obd⟩;dsimp only at h1 h2 g0 g1 hrow hbd orow obd |-
 by_cases hk:k<K.length
 rotate_left
 ·obtain rfl:k=K.length:=by omega
  refine wnY (aI @g1 @bG) ?_;exact bI (ag (yK orow) (ag (.int _ _) an))
 have ix:=t5 hk;have hmk:=ay hk;have hDl:=htl k;have hDm:=htm k h1;have hDs:=hts k;have hkv:=hKv _ hmk;have hkl:=eu (dW mK _ hmk) hkv;have hvm:K.getD k default∈K:=hmk;generalize K.getD k default=v at *
 have mS:fH n (D k++[v]):=tv mK (by rw[cw,List.length_singleton];omega) λr hr=>by
  rcases ee.1 hr with h|h
  ·exact hDm r h
  ·rw[c6] at h;rw[h];exact hvm
 have hfk:=hfr (D k++[v]) mS (by rw[cw,List.length_singleton];omega);have hchv:=hch v (by omega) hkv;refine wnY (aI @g1 @bG) ?_;refine gK rfl ev0 ev0 (DL hrow) f8 (by rw[bk];omega) (by rw[bk];omega) ?_;rw[bk];refine wnY (aI @g1 @ix) ?_;refine f9 rfl ev0 (sv:=.msl nx (D k).length 1 0 (D k).length) (cs:=(D k).map aE) ?_ ev0 dQ rfl rfl jb (by rw[bk];omega) (by rw[bk];omega) ?_
 ·simpa only[Nat.mul_one] using Row.box (sz:=1) nx (D k).length ((D k).map aE) (by rw[ac (by omega),ae]) (by rw[bk,Nat.mul_one])
 rintro s2 H2 nx2 hr2 i1 i2 i3 i4
 have hb2:∀b,bv s2=some b->nx<=b/\b<nx2:=λb hb=>by
  rcases i4 b hb with h|h
  ·cases h;omega
  ·omega
 have lo:∀x,x<nx->H2 x=H x:=λx hx=>(i3 x (by omega) (λh=>by cases h;omega)).trans (by rw[ac (by omega),ac (by omega)]);have g0':=(lo 0 (by omega)).trans g0;have g1':=(lo 1 (by omega)).trans g1;have hr2':Row H2 1 s2 ((D k++[v]).map aE):=by rw[cp];exact hr2
 have orow':Row H2 1 wv (((D k).map (c7 X)).map ao):=orow.same λb hb=>lo b (obd b hb).2.1;refine wnY (zI3 @g0' @ai @ah) ?_;refine eb ev0 ev0 hfk (aJ (ag (ct _).snap (ag (.int _ _) (ag (ln hr2') an))) rfl) ?_;by_cases hF:nM c d (D k++[v])=true
 ·rw[if_pos hF] at hDs;rw[hF];refine wnY (zI4 @g1' @ix @ai @ah) ?_;refine f9 rfl ev0 (orow'.same λb hb=>?_) ev0 dQ rfl rfl jb (by simp;omega) (by simp;omega) ?_
  ·have:=obd b hb;rw[ac (by omega)]
  rintro s3 H3 nx3 hr3 j1 j2 j3 j4;have lo3:∀x,x<nx2->bv wv≠some x->H3 x=H2 x:=λx hx hx2=>(j3 x (by omega) hx2).trans (by rw[ac (by omega)]);have no:∀x,x<2->bv wv≠some x:=λx hx e=>by have:=obd x e;omega
  refine wnY and_self ?_;refine⟨(s2,s3,k+1),by dsimp only;omega,⟨by dsimp only;omega,by omega,(lo3 0 (by omega) (no 0 (by omega))).trans g0',(lo3 1 (by omega) (no 1 (by omega))).trans g1',?_,λb hb=>?_,?_,λb hb=>?_⟩,ag0⟩
  ·dsimp only;rw[hDs];exact hr2'.same λb hb=>lo3 b (hb2 b hb).2 (λe=>by have:=hb2 b hb;have:=obd b e;omega)
  ·have:=hb2 b hb;omega
  ·dsimp only;rw[hDs,cp,cp];exact hr3
  ·rcases j4 b hb with h|h
   ·have:=obd b h;exact⟨by omega,by omega,λe=>by have:=hb2 b e;omega⟩
   ·exact⟨by omega,by omega,λe=>by have:=hb2 b e;omega⟩
 ·rw[if_neg hF] at hDs;rw[show nM c d (D k++[v])=false by simpa using hF];refine wnY and_self ?_;refine⟨(sv,wv,k+1),by dsimp only;omega,⟨by dsimp only;omega,by omega,g0',g1',?_,λb hb=>?_,?_,λb hb=>?_⟩,ag0⟩
  ·dsimp only;rw[hDs];exact hrow.same λb hb=>lo b (hbd b hb).2
  ·have:=hbd b hb;omega
  ·dsimp only;rw[hDs];exact orow'
  ·have:=obd b hb;exact⟨by omega,by omega,this.2.2⟩
theorem nV(l:List Int)(hl:l.length<=1000):PureF Tryz.prog 42 [aE l] (aD (d9 l)):=by
 refine qO OI ?_;simp only[b42,aG];refine wnY and_self ?_;refine bA (X:=AV×Nat) (λx=>[(3,x.1),(6,aE l),(7,.int .i64 l.length),(8,.int .i64 x.2)]) (λx H nx=>x.2<=l.length/\Row H 2 x.1 (cX (d9 (l.take x.2)))/\∀b,bv x.1=some b->b<nx) (λx=>l.length-x.2) (.esl,0) ⟨bz _,Row.nil,λb hb=>(by cases hb)⟩ ag0 ?_;rintro⟨sv,k⟩ H nx ⟨k1,k3,k4⟩;dsimp only at k1 k3 k4 |-;by_cases hk:k<l.length
 rotate_left
 ·rw[fI (by omega)] at k3;refine wnY and_self ?_;exact rA k3
 have ix:=ixV hk;have hpt:=Dz hk;have hcl:(cX (d9 (l.take k))).length=k*2:=by rw[gL];unfold d9;rw[bk,fL];omega
 refine wnY @ix ?_;refine eR (k3.same λb hb=>?_) ?_
 ·have:=k4 b hb;rw[ac (by omega)]
 rintro s2 E e hrow hle1 hle2 hsame hb2;refine wnY and_self ?_;refine⟨(s2,k+1),by dsimp only;omega,⟨by dsimp only;omega,?_,λb hb=>?_⟩,ag0⟩
 ·dsimp only;rw[hpt,mP];exact hrow
 ·rcases hb2 b hb with h|h
  ·have:=k4 b h;omega
  ·omega
end
def c8:List Spx:=[d9 [0,1],d9 [0,2],d9 [1,2]]
def gF:List Spx:=[d9 [0,1,2]]
def my:List Spx:=[d9 [0,1,2],d9 [0,1,3],d9 [0,2,3],d9 [1,2,3]]
theorem vh:aB c8=0:=by decide+kernel
theorem Bm:aB gF=0:=by decide+kernel
theorem Ga:aB my=0:=by decide+kernel
theorem tt{c:List Spx}(h:aB c=0):∀s∈c,Shn s:=ka h
theorem Ef:pU 13 [bQ c8] (.tup [aE [1,1],.int .i64 0]):=by
 have h:=ui c8 2 vh (by decide) (by decide+kernel) (by decide)
 rwa [show btL c8 2=[1,1] by decide+kernel] at h
theorem FV:pU 13 [bQ gF] (.tup [aE [1,0,0],.int .i64 0]):=by
 have h:=ui gF 3 Bm (by decide) (by decide+kernel) (by decide)
 rwa [show btL gF 3=[1,0,0] by decide+kernel] at h
theorem F5:pU 13 [bQ my] (.tup [aE [1,0,1],.int .i64 0]):=by
 have h:=ui my 3 Ga (by decide) (by decide+kernel) (by decide)
 rwa [show btL my 3=[1,0,1] by decide+kernel] at h
theorem Je:pU 18 [bQ c8,.int .i64 1] (.tup [cJ [c8],.int .i64 0]):=by
 have h:=uT c8 1 (nA.le EO (by decide+kernel)) vh (by decide) (by decide) (by decide+kernel)
 rwa [show cyT c8 1=[c8] by decide+kernel] at h
theorem zh:ShC c8:=⟨by decide,by decide⟩
theorem Kc:ShC gF:=⟨by decide,by decide⟩
theorem OT:ShC [d9 [0,1]]:=⟨by decide,by decide⟩
theorem KU:ShC [d9 [1,2]]:=⟨by decide,by decide⟩
theorem NC:ShC []:=⟨by decide,by decide⟩
theorem Ja:pU 21 [bQ c8,ao c8] (.tup [ao [],ao [d9 [0,1]],.bool false,.int .i64 0]):=by
 have h:=zu c8 c8 (by decide) (tt vh) zh
 rwa [show Aq c8 c8=([],[d9 [0,1]],false,0) by decide+kernel] at h
theorem JX:pU 21 [bQ gF,ao c8] (.tup [ao gF,ao [],.bool true,.int .i64 0]):=by
 have h:=zu gF c8 (by decide) (tt Bm) zh
 rwa [show Aq gF c8=(gF,[],true,0) by decide+kernel] at h
theorem Ff:pU 15 [bQ my,.int .i64 1] (.tup [.bool true,.int .i64 0]):=by
 have h:=pe my 3 1 Ga (by decide) (by decide+kernel) (by decide) (by decide)
 rwa [show HS (btL my 3) 1=true by decide+kernel] at h
theorem F9:pU 15 [bQ my,.int .i64 2] (.tup [.bool false,.int .i64 0]):=by
 have h:=pe my 3 2 Ga (by decide) (by decide+kernel) (by decide) (by decide)
 rwa [show HS (btL my 3) 2=false by decide+kernel] at h
theorem Gi:pU 27 [bQ c8,ao c8,ao [d9 [0,1]]] (.int .i64 0):=by
 have h:=n6 c8 c8 [d9 [0,1]] (by decide) (tt vh) zh OT
 rwa [show rfT c8 c8 [d9 [0,1]]=0 by decide+kernel] at h
theorem FL:pU 27 [bQ c8,ao c8,ao [d9 [1,2]]] (.int .i64 0):=by
 have h:=n6 c8 c8 [d9 [1,2]] (by decide) (tt vh) zh KU
 rwa [show rfT c8 c8 [d9 [1,2]]=0 by decide+kernel] at h
theorem E8:pU 27 [bQ gF,ao c8,ao [d9 [1,2]]] (.int .i64 18):=by
 have h:=n6 gF c8 [d9 [1,2]] (by decide) (tt Bm) zh KU
 rwa [show rfT gF c8 [d9 [1,2]]=18 by decide+kernel] at h
theorem EK:pU 25 [bQ gF,ao c8,ao gF] (.int .i64 0):=by
 have h:=vF gF c8 gF (by decide) (tt Bm) zh Kc
 rwa [show Bx gF c8 gF=0 by decide+kernel] at h
theorem B1:pU 25 [bQ c8,ao c8,ao []] (.int .i64 18):=by
 have h:=vF c8 c8 [] (by decide) (tt vh) zh NC
 rwa [show Bx c8 c8 []=18 by decide+kernel] at h
theorem Lq:pU 17 [aE [1,1],aE [1,1]] (.bool true):=by
 have:=tZ [1,1] [1,1] (by decide) (by decide)
 rwa [aZ rfl] at this
theorem KA:pU 17 [aE [1,0,0],aE [1,0,0]] (.bool true):=by
 have:=tZ [1,0,0] [1,0,0] (by decide) (by decide)
 rwa [aZ rfl] at this
theorem Km:pU 17 [aE [1,0,1],aE [1,0,1]] (.bool true):=by
 have:=tZ [1,0,1] [1,0,1] (by decide) (by decide)
 rwa [aZ rfl] at this
theorem Jm(l:List Spx)(h:ShC l):pU 23 [ao l,ao l] (.bool true):=by
 have:=Cy l l h.1 h.1 h.2 h.2
 rwa [aZ rfl] at this
theorem Gz{X:List Spx}{v:List Int}(hX:∀s∈X,Shn s)(hv:v.length<=100000):ShC (c7 X v):=by
 refine⟨show _<=_ by unfold c7;rw[bk];omega,λs hs=>?_⟩;unfold c7 at hs;obtain⟨i,_,rfl⟩:=bJ.1 hs;by_cases h:i.toNat<X.length
 ·exact hX _ (ay h)
 ·have:X.getD i.toNat default=default:=by simp[List.getD,h]
  rw[this];exact bz _
section
attribute [local irreducible] aM ak bg aY aR aS aF aV a6 bj Go.Abs.Fn aX Go.Abs.Pure ar aL Yl
theorem Cj:pU 12 [] (.bool true):=by
 refine pO OB ?_;simp only[b12,aG];have o01:PureF Tryz.prog 42 [aE [0,1]] (aD (d9 [0,1])):=nV _ (by decide);have o02:PureF Tryz.prog 42 [aE [0,2]] (aD (d9 [0,2])):=nV _ (by decide);have o12:PureF Tryz.prog 42 [aE [1,2]] (aD (d9 [1,2])):=nV _ (by decide);have o012:PureF Tryz.prog 42 [aE [0,1,2]] (aD (d9 [0,1,2])):=nV _ (by decide);have o013:PureF Tryz.prog 42 [aE [0,1,3]] (aD (d9 [0,1,3])):=nV _ (by decide);have o023:PureF Tryz.prog 42 [aE [0,2,3]] (aD (d9 [0,2,3])):=nV _ (by decide);have o123:PureF Tryz.prog 42 [aE [1,2,3]] (aD (d9 [1,2,3])):=nV _ (by decide);have zz:=aI @bb (aI @aQ (aI @ai @ah));repeat' (first|refine zW ?_|apply a_n|refine zO ?_|refine vZ ?_|refine blZ ?_|fail)
 refine fT ev0 ev0 o01 (ag (dD (n:=2) (len:=2) (l:=[0,1]) (by exact rfl) rfl rfl) an) ?_;clear zz;have zz:=aI @bb (aI @aQ (aI @ai @ah));repeat' (first|apply a_n|refine zO ?_|refine blZ ?_|fail)
 refine fT ev0 ev0 o02 (ag (dD (n:=2) (len:=2) (l:=[0,2]) (by exact rfl) rfl rfl) an) ?_;clear zz;have zz:=aI @bb (aI @aQ (aI @ai @ah));repeat' (first|apply a_n|refine zO ?_|refine blZ ?_|fail)
 refine fT ev0 ev0 o12 (ag (dD (n:=2) (len:=2) (l:=[1,2]) (by exact rfl) rfl rfl) an) ?_;clear zz;have zz:=aI @bb (aI @aQ (aI @ai @ah));repeat' (first|refine zW ?_|apply a_n|refine zO ?_|refine vZ ?_|refine blZ ?_|fail)
 refine fT ev0 ev0 o012 (ag (dD (n:=3) (len:=3) (l:=[0,1,2]) (by exact rfl) rfl rfl) an) ?_;clear zz;have zz:=aI @bb (aI @aQ (aI @ai @ah));repeat' (first|refine zW ?_|apply a_n|refine zO ?_|refine vZ ?_|refine alZ ?_|refine stZ ?_|refine blZ ?_|fail)
 refine fT ev0 ev0 o012 (ag (dD (n:=3) (len:=3) (l:=[0,1,2]) (by exact rfl) rfl rfl) an) ?_;clear zz;have zz:=aI @bb (aI @aQ (aI @ai @ah));repeat' (first|apply a_n|refine zO ?_|refine blZ ?_|fail)
 refine fT ev0 ev0 o013 (ag (dD (n:=3) (len:=3) (l:=[0,1,3]) (by exact rfl) rfl rfl) an) ?_;clear zz;have zz:=aI @bb (aI @aQ (aI @ai @ah));repeat' (first|apply a_n|refine zO ?_|refine blZ ?_|fail)
 refine fT ev0 ev0 o023 (ag (dD (n:=3) (len:=3) (l:=[0,2,3]) (by exact rfl) rfl rfl) an) ?_;clear zz;have zz:=aI @bb (aI @aQ (aI @ai @ah));repeat' (first|apply a_n|refine zO ?_|refine blZ ?_|fail)
 refine fT ev0 ev0 o123 (ag (dD (n:=3) (len:=3) (l:=[1,2,3]) (by exact rfl) rfl rfl) an) ?_;clear zz;have zz:=aI @bb (aI @aQ (aI @ai @ah));repeat' (first|apply a_n|refine zO ?_|refine vZ ?_|refine alZ ?_|refine stZ ?_|refine blZ ?_|fail)
 refine dI ?_;refine pD (onL [(3,[aD (d9 [0,1]),aD (d9 [0,2]),aD (d9 [1,2])]),(5,[aD (d9 [0,1,2])]),(12,[aD (d9 [0,1,2]),aD (d9 [0,1,3]),aD (d9 [0,2,3]),aD (d9 [1,2,3])])]) _ [(1,ao c8),(2,.ptr 6 1 0),(3,.ptr 7 1 0),(4,.ptr 13 1 0)] (JR (l2:=[(6,.msl 3 3 1 0 3,ao c8),(7,.msl 5 1 1 0 1,ao gF),(13,.msl 12 4 1 0 4,ao my)]) ?_ ?_) ⟨.inr (pn (l:=c8) rfl rfl),.inl rfl,.inl rfl,.inl rfl,trivial⟩ ?_
 ·intro p hp;simp only[c9,List.not_mem_nil,or_false] at hp;rcases hp with rfl|rfl|rfl<;>exact rfl
 ·intro q hq;simp only[c9,List.not_mem_nil,or_false] at hq;rcases hq with rfl|rfl|rfl
  ·exact⟨rfl,rfl,pn (l:=c8) rfl rfl⟩
  ·exact⟨rfl,rfl,pn (l:=gF) rfl rfl⟩
  ·exact⟨rfl,rfl,pn (l:=my) rfl rfl⟩
 have h6:onL ([(6,AV.msl 3 3 1 0 3,ao c8),(7,.msl 5 1 1 0 1,ao gF),(13,.msl 12 4 1 0 4,ao my)].map λq=>(q.1,[q.2.2])) 6=some [ao c8]:=rfl;have h7:onL ([(6,AV.msl 3 3 1 0 3,ao c8),(7,.msl 5 1 1 0 1,ao gF),(13,.msl 12 4 1 0 4,ao my)].map λq=>(q.1,[q.2.2])) 7=some [ao gF]:=rfl;have h13:onL ([(6,AV.msl 3 3 1 0 3,ao c8),(7,.msl 5 1 1 0 1,ao gF),(13,.msl 12 4 1 0 4,ao my)].map λq=>(q.1,[q.2.2])) 13=some [ao my]:=rfl;generalize onL ([(6,AV.msl 3 3 1 0 3,ao c8),(7,.msl 5 1 1 0 1,ao gF),(13,.msl 12 4 1 0 4,ao my)].map λq=>(q.1,[q.2.2]))=HH at *;have sl2:jO 1 (ao c8) (some (.int .i64 2)) none none=some (ao [d9 [1,2]]):=rfl;have lc1:dy (cJ [c8])=some (.int .i64 1):=rfl;have z18:eG 1 (cJ [c8]) (.int .i64 0)=some (.iptr [ao c8] 0):=rfl;have s1:=Jm c8 zh;have hce:∀c:List Spx,AV.agg [ao c]=bQ c:=λ_=>rfl;clear zz;have zz:=aI @h6 (aI @h7 (aI @h13 (aI @sl2 (aI @lc1 (aI @z18 (aI @bb (aI @aQ (aI @ai @ah))))))));repeat' (first|refine zW ?_|apply a_n|refine zO ?_|refine vZ ?_|refine cZ ?_ (hp:=by first|exact Ef|exact FV|exact F5|exact Je|exact Ja|exact JX|exact Ff|exact F9|exact Gi|exact FL|exact E8|exact EK|exact B1|exact s1) (hs:=by(first|refine aJ ?_ rfl|apply a7);(repeat' (first|exact an|apply bw|apply a9|exact bK _|exact ct _|exact ia _|exact cu _));first|done|fail)|refine blZ ?_|refine gTZ ?_|(refine zGZ ?_ ?_<;>(intro _hg;try (exfalso;omega)))|fail)
 refine eb ev0 ev0 Lq (aJ (ag (cu _ _) (ag (dD (n:=2) (len:=2) (l:=[1,1]) (by exact rfl) rfl rfl) an)) rfl) ?_;clear zz;have zz:=aI @h6 (aI @h7 (aI @h13 (aI @sl2 (aI @lc1 (aI @z18 (aI @bb (aI @aQ (aI @ai @ah))))))));repeat' (first|apply a_n|refine zO ?_|refine vZ ?_|refine blZ ?_|refine gTZ ?_|fail)
 refine eb ev0 ev0 KA (aJ (ag (cu _ _) (ag (dD (n:=3) (len:=3) (l:=[1,0,0]) (by exact rfl) rfl rfl) an)) rfl) ?_;clear zz;have zz:=aI @h6 (aI @h7 (aI @h13 (aI @sl2 (aI @lc1 (aI @z18 (aI @bb (aI @aQ (aI @ai @ah))))))));repeat' (first|apply a_n|refine zO ?_|refine vZ ?_|refine blZ ?_|refine gTZ ?_|fail)
 refine eb ev0 ev0 Km (aJ (ag (cu _ _) (ag (dD (n:=3) (len:=3) (l:=[1,0,1]) (by exact rfl) rfl rfl) an)) rfl) ?_;clear zz;have zz:=aI @h6 (aI @h7 (aI @h13 (aI @sl2 (aI @lc1 (aI @z18 (aI @bb (aI @aQ (aI @ai @ah))))))));repeat' (first|refine zW ?_|apply a_n|refine zO ?_|refine vZ ?_|refine cZ ?_ (hp:=by first|exact Ef|exact FV|exact F5|exact Je|exact Ja|exact JX|exact Ff|exact F9|exact Gi|exact FL|exact E8|exact EK|exact B1|exact s1) (hs:=by(first|refine aJ ?_ rfl|apply a7);(repeat' (first|exact an|apply bw|apply a9|exact bK _|exact ct _|exact ia _|exact cu _));first|done|fail)|refine blZ ?_|refine gTZ ?_|(refine zGZ ?_ ?_<;>(intro _hg;try (exfalso;omega)))|refine cFZ ?_|fail)
 refine fT ev0 ev0 o012 (ag (dD (n:=3) (len:=3) (l:=[0,1,2]) (by exact rfl) rfl rfl) an) ?_;clear zz;have zz:=aI @h6 (aI @h7 (aI @h13 (aI @sl2 (aI @lc1 (aI @z18 (aI @bb (aI @aQ (aI @ai @ah))))))));repeat' (first|apply a_n|refine zO ?_|refine blZ ?_|refine gTZ ?_|fail)
 refine eb ev0 ev0 (Jm gF Kc) (aJ (ag (bK _ _) (ag (pn (b:=18) (n:=1) (l:=gF) (by exact rfl) rfl) an)) rfl) ?_;clear zz;have zz:=aI @h6 (aI @h7 (aI @h13 (aI @sl2 (aI @lc1 (aI @z18 (aI @bb (aI @aQ (aI @ai @ah))))))));repeat' (first|refine zW ?_|apply a_n|refine zO ?_|refine vZ ?_|refine gTZ ?_|refine cFZ ?_|fail)
 try refine Go.Abs.w_mix1 ?_
 clear zz;have zz:=aI @h6 (aI @h7 (aI @h13 (aI @sl2 (aI @lc1 (aI @z18 (aI @bb (aI @aQ (aI @ai @ah))))))));repeat' (first|apply a_n|refine zO ?_|refine vZ ?_|refine cZ ?_ (hp:=by first|exact Ef|exact FV|exact F5|exact Je|exact Ja|exact JX|exact Ff|exact F9|exact Gi|exact FL|exact E8|exact EK|exact B1|exact s1) (hs:=by(first|refine aJ ?_ rfl|apply a7);(repeat' (first|exact an|apply bw|apply a9|exact bK _|exact ct _|exact ia _|exact cu _));first|done|fail)|refine gTZ ?_|(refine zGZ ?_ ?_<;>(intro _hg;try (exfalso;omega)))|fail)
 refine eb ev0 ev0 B1 (aJ (ag (ct _ _) (ag (bK _ _) (ag (.eslsl 1) an))) rfl) ?_
 repeat' (first|apply a_n|refine zO ?_|refine vZ ?_|refine gTZ ?_|refine bR rfl ?_|refine r1Z ?_|fail)
 exact .bool _
def dE(c:List Spx)(lo:Int)(d:Int):Int:=if aB c≠0 then aB c else if d<lo\/8<=d then 2 else 0
theorem Oa{c:List Spx}{lo d:Int}(h:dE c lo d=0):aB c=0/\lo<=d/\d<8:=by
 unfold dE at h;split at h
 ·rename_i q;exact absurd h q
 ·rename_i q;split at h
  ·exact absurd h (by decide)
  ·exact⟨by simpa using q,by omega,by omega⟩
theorem wn{H:Hp}{s:AV}{l:List (List Spx)}{e:Int}(h:Snap H s (cJ l)):Snap H (.tup [s,.int .i64 e]) (.tup [cJ l,.int .i64 e]):=bI (ag h (ag (.int _ _) an))
theorem Dm(c:List Spx)(d:Int)(he:dE c 0 d≠0)(hl:c.length<=50)(hs:∀s∈c,Shn s):pU 18 [bQ c,.int .i64 d] (.tup [cJ [],.int .i64 (dE c 0 d)]):=by
 refine pO M9 ?_;simp only[b18,aG];have h:=nZ c hl hs;unfold dE at *;by_cases hc:aB c=0
 ·have z:decide (aB c≠(0:Int))=false:=aW (λq=>q hc);rw[if_neg (λq=>q hc)] at he |-;have hd:d<0\/8<=d:=Classical.byContradiction λq=>he (if_neg q);rw[if_pos hd];have zz:=aI @z (aI @ai @ah);repeat' (first|refine zW ?_|apply a_n|apply a_r|refine zO ?_|refine vY ?_|refine cY ?_ (hp:=h) (hs:=by(first|refine aJ ?_ rfl|apply a7);(repeat' (first|exact an|apply bw|apply a9|exact ct _));first|done|fail)|refine alY ?_|refine bxY ?_|refine stY ?_|refine gTY ?_|refine gFY ?_|refine cTY ?_|refine cFY ?_|(refine zGY ?_ ?_<;>(intro _hg;try (exfalso;omega)))|refine bR rfl ?_|refine r2Y ?_|fail)
  all_goals first|exact wn (.eslsl 1)|(exfalso;omega)
 ·have z:decide (aB c≠(0:Int))=true:=aZ hc;rw[if_pos hc];refine wnY (zI3 @z @ai @ah) ?_;exact wn (.eslsl 1)
theorem A9(c:List Spx)(d:Int)(he:dE c 0 d≠0)(hl:c.length<=50)(hs:∀s∈c,Shn s):pU 19 [bQ c,.int .i64 d] (.tup [cJ [],.int .i64 (dE c 0 d)]):=by
 refine pO Lu ?_;simp only[b19,aG];have h:=q6 c hl hs;unfold dE at *;by_cases hc:aB c=0
 ·have z:decide (aB c≠(0:Int))=false:=aW (λq=>q hc);rw[if_neg (λq=>q hc)] at he |-;have hd:d<0\/8<=d:=Classical.byContradiction λq=>he (if_neg q);rw[if_pos hd];have zz:=aI @z (aI @ai @ah);repeat' (first|refine zW ?_|apply a_n|apply a_r|refine zO ?_|refine vY ?_|refine cY ?_ (hp:=h) (hs:=by(first|refine aJ ?_ rfl|apply a7);(repeat' (first|exact an|apply bw|apply a9|exact ct _));first|done|fail)|refine bxY ?_|refine gTY ?_|refine gFY ?_|refine cTY ?_|refine cFY ?_|(refine zGY ?_ ?_<;>(intro _hg;try (exfalso;omega)))|refine bR rfl ?_|refine r2Y ?_|fail)
  all_goals first|exact wn (.eslsl 1)|(exfalso;omega)
 ·have z:decide (aB c≠(0:Int))=true:=aZ hc;rw[if_pos hc];refine wnY (zI3 @z @ai @ah) ?_;exact wn (.eslsl 1)
def sV(c:List Spx)(l:List (List Spx)):Bool:=l.all ut&&(kU c&&decide (ma c c.length<=400))
theorem HJ(c:List Spx)(l:List (List Spx))(hc:Shn c)(hs:∀s∈c,Shn s)(hl:Shn l)(ha:∀a∈l,ShC a):pU 11 [bQ c,cJ l] (.bool (sV c l)):=by
 refine pO N8 ?_;simp only[b11,aG];have hc':c.length<=17592186044416:=hc;have hl':l.length<=17592186044416:=hl;have f1:=GC c hc hs;unfold sV;refine wnY (zI3 @ai @ah @nz) ?_;refine lpI (X:=Nat) (λk=>[(2,.ptr 0 1 0),(10,cJ l),(11,.int .i64 l.length),(12,.int .i64 k)]) (λk H nx=>k<=l.length/\H 0=some [ao c]/\∀i,i<k->ut (l.getD i default)=true) (λk=>l.length-k) 0 ⟨bz _,rfl,λi h=>absurd h (by omega)⟩ ?_;rintro k H nx ⟨k1,g0,k2⟩;by_cases hk:k<l.length
 ·have ix:=Ll hk;have hf:=IL (l.getD k default) (ha _ (ay hk));cases hv:ut (l.getD k default)
  ·rw[iZ hk hv,Bool.false_and];rw[hv] at hf;generalize l.getD k default=a at *;refine wnY @ix ?_;exact .bool _
  ·rw[hv] at hf
   have k3:∀i,i<k+1->ut (l.getD i default)=true:=λi hi=>by
    rcases(by omega:i<k\/i=k) with h|rfl
    ·exact k2 i h
    ·exact hv
   generalize l.getD k default=a at *;refine wnY @ix ?_;exact⟨k+1,by omega,⟨by omega,g0,k3⟩,ag0⟩
 obtain rfl:k=l.length:=by omega
 rw[kr k2,Bool.true_and];refine wnY (aI @g0 @af) ?_;clear k2 k1 hk;refine lpI (X:=Nat) (λk=>[(2,.ptr 0 1 0),(7,.int .i64 (ma c k)),(21,ao c),(22,.int .i64 c.length),(23,.int .i64 k)]) (λk H nx=>k<=c.length/\H 0=some [ao c]) (λk=>c.length-k) 0 ⟨bz _,g0⟩ ?_;clear g0;rintro k H nx ⟨g1,g2⟩;have hb:=wQ (c:=c) k;by_cases hk:k<c.length
 ·have ix:=eh hk;have hsl:(c.getD k default).length<=17592186044416:=hs _ (ay hk);have hb2:=wQ (c:=c) (k+1);have hfs:ma c (k+1)=ma c k+2^min (c.getD k default).length 10:=rfl
  have hsh:∀tb tf,bo .shl tb tf (.int .i64 1) (.int .i64 (min ((c.getD k default).length:Int) 10))=some (.int .i64 ((2^min (c.getD k default).length 10:Nat):Int)):=λtb tf=>by
   have h1:min ((c.getD k default).length:Int) 10=((min (c.getD k default).length 10:Nat):Int):=by omega
   have h2:2^min (c.getD k default).length 10<=2^10:=Nat.pow_le_pow_right (by omega) (by omega);rw[h1];have:=BG (k:=.i64) (k':=.i64) (a:=1) (b:=min (c.getD k default).length 10) (tb:=tb) (tf:=tf) (by show _<=64;omega) (by show 1*_<2^63;omega);rw[Nat.one_mul] at this;exact this
  rw[hfs] at hb2;generalize 2^min (c.getD k default).length 10=P at *;generalize c.getD k default=s at *;have hce:((ma c (k+1):Nat):Int)=(ma c k:Int)+(P:Int):=by rw[hfs];omega
  refine wnY (zI3 @ix @au @hsh) ?_;exact⟨k+1,by omega,⟨by omega,g2⟩,by rw[hce];simp (disch:=omega) only[agr,ZG,reduceEqDiff,↓reduceIte]⟩
 obtain rfl:k=c.length:=by omega
 cases e1:kU c
 ·rw[e1] at f1;rw[Bool.false_and];refine wnY (zI3 @g2 @ai @ah) ?_;exact .bool _
 rw[e1] at f1;rw[Bool.true_and];by_cases h3:ma c c.length<=400
 ·have z:decide ((ma c c.length:Int)<=400)=true:=aZ (by omega);rw[aZ h3];refine wnY (zI4 @g2 @z @ai @ah) ?_;exact .bool _
 ·have z:decide ((ma c c.length:Int)<=400)=false:=aW (by omega);rw[aW h3];refine wnY (zI4 @g2 @z @ai @ah) ?_;exact .bool _
theorem CY{c:List Spx}{l:List (List Spx)}(h:sV c l=true):(∀a∈l,ut a=true)/\c.length<=30/\ma c c.length<=400:=by
 unfold sV at h;simp only[dP,gj] at h;exact⟨λa ha=>eF.1 h.1 a ha,(Ay.1 h.2.1).1,h.2.2⟩
section
variable{α:Type}[Inhabited α]{f:α->AV}{K:α->α->Int}{G:α->Prop}
theorem EW(hc:CmpO Tryz.prog f K G){L:List α}{H:Hp}{b nx n a lo hi:Nat}(hH:H b=some (L.map f))(hn:L.length=n)(hG:∀x∈L,G x)(hhi:a+hi<=n)(hn2:n<=1000000000)(hlo:lo<=n)(hheap:fJ K a hi (lo+1) L):
    Abs.Fn Tryz.prog 205 [.msl b n 1 0 n,.int .i64 lo,.int .i64 hi,.int .i64 a] H nx λr H' nx'=>nx'=nx/\∃L',H'=ap H b (L'.map f)/\PermR a (a+hi) L L'/\fJ K a hi lo L':=by
 refine fO L0 ?_;simp only[Mr,aG];refine wnZ and_self ?_;refine bA (X:=Nat×List α) (λx=>[(0,.msl b n 1 0 n),(2,.int .i64 hi),(3,.int .i64 a),(8,.int .i64 (x.1:Nat))]) (λx H' nx'=>x.1<=n/\H'=ap H b (x.2.map f)/\nx'=nx/\PermR a (a+hi) L x.2/\SiftR K a hi lo x.1 x.2) (λx=>n+1-x.1) (lo,L) ⟨hlo,fS hH,rfl,.refl,.start hheap⟩ ag0 ?_;rintro⟨root,M⟩ H' nx' ⟨h0,rfl,rfl,hp,hs⟩;dsimp only at *;have hl:M.length=n:=by rw[hp.len,hn]
 have hGM:=hp.mem hG;by_cases hch:2*root+1<hi
 rotate_left
 ·refine wnZ and_self ?_;exact⟨rfl,M,rfl,hp,hs.leaf (by omega)⟩
 have tch:(2:Int)*(root:Int)+1=((2*root+1:Nat):Int):=by omega
 have tch2:((2*root+1:Nat):Int)+1=((2*root+1+1:Nat):Int):=by omega
 have w1:IntKind.wrap .i64 (2*(root:Int))=2*(root:Int):=tu (by omega) (by omega)
 obtain⟨c,hkid,hchi,hbest,hsel⟩:∃c,Kid root c/\c<hi/\(∀d,Kid root d->d<hi->¬K (M.getD (a+c) default) (M.getD (a+d) default)<0)/\((c=2*root+1+1/\K (M.getD (a+(2*root+1)) default) (M.getD (a+(2*root+1+1)) default)<0)\/(c=2*root+1/\(2*root+1+1<hi->¬K (M.getD (a+(2*root+1)) default) (M.getD (a+(2*root+1+1)) default)<0))):=by
  by_cases h2:2*root+1+1<hi/\K (M.getD (a+(2*root+1)) default) (M.getD (a+(2*root+1+1)) default)<0
  ·refine⟨2*root+1+1,.inr rfl,h2.1,λd hd hd2=>?_,.inl ⟨rfl,h2.2⟩⟩;rcases hd with rfl|rfl
   ·exact hc.ord.asym _ _ h2.2
   ·exact hc.ord.irr _
  ·refine⟨2*root+1,.inl rfl,hch,λd hd hd2=>?_,.inr ⟨rfl,λh h3=>h2 ⟨h,h3⟩⟩⟩;rcases hd with rfl|rfl
   ·exact hc.ord.irr _
   ·exact λh3=>h2 ⟨hd2,h3⟩
 have lc2:=hc.run (M.getD (a+root) default) (M.getD (a+c) default) (hGM _ (aP (by omega))) (hGM _ (aP (by omega)));have e1:=hc.dat (M.getD (a+root) default);have e2:=hc.dat (M.getD (a+c) default);generalize hK2:K (M.getD (a+root) default) (M.getD (a+c) default)=k2 at lc2;refine fQ ?_;refine bn (λT H'' nx''=>T 0=.msl b n 1 0 n/\T 2=.int .i64 hi/\T 3=.int .i64 a/\n=n/\T 8=.int .i64 (root:Nat)/\T 9=.int .i64 ((2*root+1:Nat):Int)/\H''=ap H b (M.map f)/\nx'=nx'') ?_ ?_
 ·refine wnZ (aI @w1 @tch) ?_;exact⟨rfl,rfl,rfl,rfl,rfl,rfl,rfl,rfl⟩
 rintro T _ _ ⟨t0,t2,t3,tF,t8,t9,rfl,rfl⟩;refine bn (λT H'' nx''=>T 0=.msl b n 1 0 n/\T 2=.int .i64 hi/\T 3=.int .i64 a/\n=n/\T 8=.int .i64 (root:Nat)/\T 9=.int .i64 ((2*root+1:Nat):Int)/\H''=ap H b (M.map f)/\nx'=nx'') ?_ ?_
 ·refine wnZ (zI6 @t0 @t2 @t3 @tF @t8 @t9) ?_
  all_goals exact⟨(have zz:=@t0;evZ),(have zz:=@t2;evZ),(have zz:=@t3;evZ),(have zz:=@tF;evZ),(have zz:=@t8;evZ),(have zz:=@t9;evZ),rfl,rfl⟩
 clear t0 t2 t3 tF t8 t9;rintro T _ _ ⟨t0,t2,t3,tF,t8,t9,rfl,rfl⟩;refine bn (λT H'' nx''=>T 0=.msl b n 1 0 n/\T 2=.int .i64 hi/\T 3=.int .i64 a/\n=n/\T 8=.int .i64 (root:Nat)/\T 9=.int .i64 (c:Nat)/\H''=ap H b (M.map f)/\nx'=nx'') ?_ ?_
 ·by_cases h2:2*root+1+1<hi
  ·have lc1:=hc.run (M.getD (a+(2*root+1)) default) (M.getD (a+(2*root+1+1)) default) (hGM _ (aP (by omega))) (hGM _ (aP (by omega)));have e3:=hc.dat (M.getD (a+(2*root+1)) default);have e4:=hc.dat (M.getD (a+(2*root+1+1)) default);generalize hK1:K (M.getD (a+(2*root+1)) default) (M.getD (a+(2*root+1+1)) default)=k1 at lc1 hsel;have hlt:decide (((2*root+1+1:Nat):Int)<(hi:Int))=true:=aZ (by omega);generalize 2*root+1=ch at *;rcases hsel with⟨rfl,hk1⟩|⟨rfl,hk1⟩
   ·refine wkZ (aI @t0 (aI @t2 (dV @t3 @tF @t8 @t9 @tch2 @hlt @du @jA hc.cells hc.one))) ?_
    all_goals exact⟨(have zz:=@t0;evZ),(have zz:=@t2;evZ),(have zz:=@t3;evZ),(have zz:=@tF;evZ),(have zz:=@t8;evZ),(have zz:=@t9;evZ),rfl,rfl⟩
   ·have hk1:=hk1 h2;refine wkZ (aI @t0 (aI @t2 (dV @t3 @tF @t8 @t9 @tch2 @hlt @du @jA hc.cells hc.one))) ?_
    all_goals exact⟨(have zz:=@t0;evZ),(have zz:=@t2;evZ),(have zz:=@t3;evZ),(have zz:=@tF;evZ),(have zz:=@t8;evZ),(have zz:=@t9;evZ),rfl,rfl⟩
  ·have hlt:decide (((2*root+1+1:Nat):Int)<(hi:Int))=false:=aW (by omega)
   have hcc:c=2*root+1:=by
    rcases hsel with⟨rfl,_⟩|⟨rfl,_⟩
    ·omega
    ·rfl
   subst hcc;refine wkZ (zI8 @t0 @t2 @t3 @tF @t8 @t9 @tch2 @hlt) ?_
   all_goals exact⟨(have zz:=@t0;evZ),(have zz:=@t2;evZ),(have zz:=@t3;evZ),(have zz:=@tF;evZ),(have zz:=@t8;evZ),(have zz:=@t9;evZ),rfl,rfl⟩
 clear t0 t2 t3 tF t8 t9 hsel;rintro T _ _ ⟨t0,t2,t3,tF,t8,t9,rfl,rfl⟩;by_cases hk2:k2<0
 ·obtain⟨M1,hl1,lm1,lm2⟩:=bV (f:=f) (M:=M) (i:=a+root) (j:=a+c) (by omega) (by omega);have lm3:=lm2;simp only[br,bC,dp,bS] at lm1 lm2;refine wkZ (aI @t0 (dV @t2 @t3 @tF @t8 @t9 @du @lm1 @lm2 hc.cells hc.one)) ?_;have hrc:root<c:=by unfold Kid at hkid;omega
  have hcn:c<n:=by omega
  refine⟨(c,swp M (a+root) (a+c)),by dsimp only;omega,⟨by dsimp only;omega,?_,rfl,hp.trans (PermR.swap (by omega) (by omega) (by omega)),hs.step hc.ord hkid hchi (by omega) hbest (by rw[hK2];exact hk2)⟩,(have zz:=aI @t0 (aI @t2 (aI @t3 @tF));agZ)⟩;dsimp only;rw[aC,aC,lm3]
 ·refine wkZ (zI9 @t0 @t2 @t3 @tF @t8 @t9 @du hc.cells hc.one) ?_;exact⟨rfl,M,rfl,hp,hs.stop hc.ord hbest (by rw[hK2];exact hk2)⟩
end
section
variable{α:Type}[Inhabited α]{f:α->AV}{K:α->α->Int}{G:α->Prop}
theorem J5(hc:CmpO Tryz.prog f K G){L:List α}{H:Hp}{b nx n a e:Nat}(hH:H b=some (L.map f))(hn:L.length=n)(hG:∀x∈L,G x)(hae:a<=e)(hen:e<=n)(hn2:n<=1000000000):
    Abs.Fn Tryz.prog 190 [.msl b n 1 0 n,.int .i64 a,.int .i64 e] H nx λr H' nx'=>nx'=nx/\∃L',H'=ap H b (L'.map f)/\PermR a e L L'/\bh K a e L':=by
 obtain⟨h,rfl⟩:∃h,e=a+h:=⟨e-a,by omega⟩
 refine fO MO ?_;simp only[Nl,aG];have te:((a+h:Nat):Int)-(a:Int)=(h:Int):=by omega
 obtain⟨r,tr,hr,hrn⟩:∃r:Nat,bo .quo false false (.int .i64 ((h:Int)-1)) (.int .i64 2)=some (.int .i64 (r:Int))/\h<=2*(r+1)+1/\r<=h:=by
  rcases uk h with e|e
  ·subst e;exact⟨0,rfl,by omega,by omega⟩
  ·refine⟨(h-1)/2,?_,by omega,by omega⟩;rw[iQ (by omega) (by omega) (by omega)]
   congr 2
   omega
 refine wnZ (aI @te @tr) ?_;refine bA (X:=Nat×List α) (λx=>[(0,.msl b n 1 0 n),(1,.int .i64 a),(6,.int .i64 a),(7,.int .i64 0),(8,.int .i64 h),(9,.int .i64 ((x.1:Nat)-1))]) (λx H' nxx=>x.1<=n+1/\H'=ap H b (x.2.map f)/\nx=nxx/\PermR a (a+h) L x.2/\fJ K a h x.1 x.2) (λx=>x.1) (r+1,L) ⟨by dsimp only;omega,fS hH,rfl,.refl,fJ.start (by dsimp only;omega)⟩ (by simp (disch:=omega) only[agr,ZG,reduceEqDiff,↓reduceIte,Int.add_sub_cancel]) ?_;rintro⟨i,M⟩ H' nxx ⟨h1,rfl,rfl,hp,hh⟩;dsimp only at *;have hl:M.length=n:=by rw[hp.len,hn]
 have hGM:=hp.mem hG;rcases uk i with e|e
 ·subst e;refine wnZ and_self ?_;clear hGM;refine bA (X:=Nat×List α) (λx=>[(0,.msl b n 1 0 n),(6,.int .i64 a),(7,.int .i64 0),(10,.int .i64 ((x.1:Nat)-1))]) (λx H' nxx'=>x.1<=h/\H'=ap H b (x.2.map f)/\nx=nxx'/\PermR a (a+h) L x.2/\fJ K a x.1 0 x.2/\TailR K a (a+h) (a+x.1) x.2) (λx=>x.1) (h,M) ⟨aN _,rfl,rfl,hp,hh,.start⟩ (by simp (disch:=omega) only[agr,ZG,reduceEqDiff,↓reduceIte,Int.add_sub_cancel]) ?_;clear hp hh hl;rintro⟨i,M⟩ H' nxx ⟨h1,rfl,rfl,hp,hh,ht⟩;dsimp only at *;have hl:M.length=n:=by rw[hp.len,hn]
  have hGM:=hp.mem hG;rcases uk i with e|e
  ·subst e;refine wnZ and_self ?_;exact⟨rfl,M,rfl,hp,ht.done⟩
  ·obtain⟨k,rfl⟩:∃k,i=k+1:=⟨i-1,by omega⟩
   have tj:((k+1:Nat):Int)-1=(k:Int):=by omega
   obtain⟨M1,hl1,lm1,lm2⟩:=bV (f:=f) (M:=M) (i:=a) (j:=a+k) (by omega) (by omega);have lm3:=lm2;simp only[br,bC,dp,bS] at lm1 lm2;have hp1:PermR a (a+h) L (swp M a (a+k)):=hp.trans (PermR.swap (by omega) (by omega) (by omega));have hsl:(swp M a (a+k)).length=n:=by rw[hp1.len,hn]
   refine wnZ (zI6 @tj @du @lm1 @lm2 hc.cells hc.one) ?_;refine aO ev0 (have zz:=aI @tj @Int.natCast_zero;evZ) (EW hc (b:=b) (L:=swp M a (a+k)) (a:=a) (lo:=0) (hi:=k) (by rw[aC,aC,ae,<-lm3]) hsl (hp1.mem hG) (by omega) (by omega) (by omega) (hh.swapTop (by omega))) ?_;rintro _ _ _ ⟨rfl,N,rfl,hpN,hhN⟩;refine wnZ @tj ?_;exact⟨(k,N),by dsimp only;omega,⟨by dsimp only;omega,by dsimp only;rw[aC,aC,aC],rfl,hp1.trans (hpN.mono (aN _) (by omega)),hhN,ht.step hc.ord hh (by omega) (by omega) hpN⟩,ag0⟩
 ·obtain⟨k,rfl⟩:∃k,i=k+1:=⟨i-1,by omega⟩
  have tj:((k+1:Nat):Int)-1=(k:Int):=by omega
  refine wnZ @tj ?_;refine aO ev0 ev0 (EW hc (L:=M) (a:=a) (lo:=k) (hi:=h) ae hl hGM (by omega) (by omega) (by omega) hh) ?_;rintro _ _ _ ⟨rfl,N,rfl,hpN,hhN⟩;refine wnZ @tj ?_;exact⟨(k,N),by dsimp only;omega,⟨by dsimp only;omega,by dsimp only;rw[aC],rfl,hp.trans hpN,hhN⟩,ag0⟩
end
section
variable{α:Type}[Inhabited α]{f:α->AV}{K:α->α->Int}{G:α->Prop}
theorem Np(hc:CmpO Tryz.prog f K G){L:List α}{H:Hp}{b nx n a e:Nat}(hH:H b=some (L.map f))(hn:L.length=n)(hae:a<e)(hen:e<=n)(hn2:n<=1000000000):
    Abs.Fn Tryz.prog 193 [.msl b n 1 0 n,.int .i64 a,.int .i64 e] H nx λr H' nx'=>nx'=nx/\∃L',H'=ap H b (L'.map f)/\PermR a e L L':=by
 obtain⟨m,rfl⟩:∃m,e=m+1:=⟨e-1,by omega⟩
 have te:((m+1:Nat):Int)-1=(m:Int):=by omega
 refine fO LP ?_;simp only[Kf,aG];refine wnZ @te ?_;refine bA (X:=Nat×Nat×List α) (λx=>[(0,.msl b n 1 0 n),(6,.int .i64 (x.1:Nat)),(7,.int .i64 (x.2.1:Nat))]) (λx H' nxx=>a<=x.1/\x.2.1<=m/\H'=ap H b (x.2.2.map f)/\nx=nxx/\PermR a (m+1) L x.2.2) (λx=>x.2.1) (a,m,L) ⟨aN _,aN _,fS hH,rfl,.refl⟩ ag0 ?_;rintro⟨i,j,M⟩ H' nxx ⟨h1,h2,rfl,rfl,hp⟩;dsimp only at *;have hl:M.length=n:=by rw[hp.len,hn]
 by_cases hij:i<j
 ·obtain⟨k,rfl⟩:∃k,j=k+1:=⟨j-1,by omega⟩
  have tj:((k+1:Nat):Int)-1=(k:Int):=by omega
  have ti:((i:Nat):Int)+1=((i+1:Nat):Int):=by omega
  obtain⟨M1,hl1,lm1,lm2⟩:=bV (f:=f) (M:=M) (i:=i) (j:=k+1) (by omega) (by omega);have lm3:=lm2;simp only[br,bC,dp,bS] at lm1 lm2;refine wnZ (zI6 @tj @ti @lm1 @lm2 hc.cells hc.one) ?_;exact⟨(i+1,k,swp M i (k+1)),by dsimp only;omega,⟨by dsimp only;omega,by dsimp only;omega,by dsimp only;rw[aC,aC,lm3],rfl,hp.trans (PermR.swap (by omega) (by omega) (by omega))⟩,ag0⟩
 ·refine wnZ and_self ?_;exact⟨rfl,M,rfl,hp⟩
theorem uf(hc:CmpO Tryz.prog f K G){L:List α}{H:Hp}{b c nx n i j s:Nat}(hH:H b=some (L.map f))(hcc:H c=some [.int .i64 (s:Nat)])(hn:L.length=n)(hG:∀x∈L,G x)(hi:i<n)(hj:j<n)(hn2:n<=1000000000)(hs:s<=100):
    Abs.Fn Tryz.prog 210 [.msl b n 1 0 n,.int .i64 i,.int .i64 j,.ptr c 1 0] H nx λr H' nx'=>nx'=nx/\∃i' j' s':Nat,r=.tup [.int .i64 i',.int .i64 j']/\((i'=i/\j'=j)\/(i'=j/\j'=i))/\s'<=s+1/\H'=ap H c [.int .i64 s']:=by
 refine fO Ld ?_;simp only[KI,aG];have lc:=hc.run (L.getD j default) (L.getD i default) (hG _ (aP (by omega))) (hG _ (aP (by omega)));have e1:=hc.dat (L.getD j default);have e2:=hc.dat (L.getD i default);have ts:((s:Nat):Int)+1=((s+1:Nat):Int):=by omega
 have ls:∀x y:AV,br [x] 0 [y]=[y]:=λ_ _=>rfl;simp only[br,bC,dp,bS] at ls;generalize hKK:K (L.getD j default) (L.getD i default)=kk at lc;by_cases hlt:kk<0
 ·refine wkZ (zI8 @hH @hcc @bN hc.cells hc.one @ts @ls @SV3) ?_;exact⟨rfl,j,i,s+1,rfl,.inr ⟨rfl,rfl⟩,aN _,rfl⟩
 ·refine wkZ (zI5 @hH @hcc @bN hc.cells hc.one) ?_;exact⟨rfl,i,j,s,rfl,.inl ⟨rfl,rfl⟩,Nat.le_succ _,fS hcc⟩
end
section
variable{α:Type}[Inhabited α]{f:α->AV}{K:α->α->Int}{G:α->Prop}
theorem sK(hc:CmpO Tryz.prog f K G){L:List α}{H:Hp}{b c nx n i j k s lo hi:Nat}(hH:H b=some (L.map f))(hbc:b≠c)(hcc:H c=some [.int .i64 (s:Nat)])(hn:L.length=n)(hG:∀x∈L,G x)(hi1:lo<=i/\i<hi)(hj1:lo<=j/\j<hi)(hk1:lo<=k/\k<hi)(hhi:hi<=n)(hn2:n<=1000000000)(hs:s<=50):
    Abs.Fn Tryz.prog 207 [.msl b n 1 0 n,.int .i64 i,.int .i64 j,.int .i64 k,.ptr c 1 0] H nx λr H' nx'=>nx'=nx/\∃p s':Nat,r=.int .i64 p/\lo<=p/\p<hi/\s'<=s+3/\H'=ap H c [.int .i64 s']:=by
 refine fO Kr ?_;simp only[M4,aG];refine wnZ and_self ?_;refine aO ev0 ev0 (uf hc (b:=b) hH hcc hn hG (i:=i) (j:=j) (by omega) (by omega) hn2 (by omega)) ?_;rintro _ _ _ ⟨rfl,i1,j1,s1,rfl,h1,hs1,rfl⟩;refine wnZ and_self ?_;refine aO ev0 ev0 (uf hc (b:=b) (by rw[ac hbc];exact hH) ae hn hG (i:=j1) (j:=k) (by omega) (by omega) hn2 (by omega)) ?_;rintro _ _ _ ⟨rfl,j2,k2,s2,rfl,h2,hs2,rfl⟩;refine wnZ and_self ?_;refine aO ev0 ev0 (uf hc (b:=b) (by rw[aC,ac hbc];exact hH) ae hn hG (i:=i1) (j:=j2) (by omega) (by omega) hn2 (by omega)) ?_;rintro _ _ _ ⟨rfl,i3,j3,s3,rfl,h3,hs3,rfl⟩;refine wnZ and_self ?_;exact⟨rfl,j3,s3,rfl,by omega,by omega,by omega,by rw[aC,aC]⟩
theorem sZ(hc:CmpO Tryz.prog f K G){L:List α}{H:Hp}{b c nx n i s lo hi:Nat}(hH:H b=some (L.map f))(hbc:b≠c)(hcc:H c=some [.int .i64 (s:Nat)])(hn:L.length=n)(hG:∀x∈L,G x)(hi1:lo+1<=i/\i+1<hi)(hhi:hi<=n)(hn2:n<=1000000000)(hs:s<=50):
    Abs.Fn Tryz.prog 206 [.msl b n 1 0 n,.int .i64 i,.ptr c 1 0] H nx λr H' nx'=>nx'=nx/\∃p s':Nat,r=.int .i64 p/\lo<=p/\p<hi/\s'<=s+3/\H'=ap H c [.int .i64 s']:=by
 obtain⟨m,rfl⟩:∃m,i=m+1:=⟨i-1,by omega⟩
 have t1:((m+1:Nat):Int)-1=(m:Int):=by omega
 have t2:((m+1:Nat):Int)+1=((m+1+1:Nat):Int):=by omega
 refine fO Lr ?_;simp only[L5,aG];refine wnZ (aI @t1 @t2) ?_;refine aO ev0 ev0 (sK hc (b:=b) hH hbc hcc hn hG (i:=m) (j:=m+1) (k:=m+1+1) (lo:=lo) (hi:=hi) (by omega) (by omega) (by omega) hhi hn2 hs) ?_;rintro _ _ _ ⟨rfl,p,s1,rfl,h1,h2,hs1,rfl⟩;refine wnZ and_self ?_;exact⟨rfl,p,s1,rfl,h1,h2,hs1,rfl⟩
theorem FF(hc:CmpO Tryz.prog f K G){L:List α}{H:Hp}{b nx n a e:Nat}(hH:H b=some (L.map f))(hbx:b<nx)(hn:L.length=n)(hG:∀x∈L,G x)(hae:a+8<=e)(hen:e<=n)(hn2:n<=1000000000):
    Abs.Fn Tryz.prog 192 [.msl b n 1 0 n,.int .i64 a,.int .i64 e] H nx λr H' nx'=>nx'=nx+1/\∃(p:Nat)(hint:Int)(v:List AV),r=.tup [.int .i64 p,.int .i64 hint]/\a<=p/\p<e/\H'=ap H nx v:=by
 obtain⟨l,rfl⟩:∃l,e=a+l:=⟨e-a,by omega⟩
 have te:((a+l:Nat):Int)-(a:Int)=(l:Int):=by omega
 obtain⟨q,hq⟩:∃q,l/4=q:=⟨_,rfl⟩
 have tq:bo .quo false false (.int .i64 (l:Int)) (.int .i64 4)=some (.int .i64 (q:Int)):=by
  rw[iQ (by omega) (by omega) (by omega)]
  congr 2
  omega
 have w1:(a:Int)+(q:Int)*1=((a+q:Nat):Int):=by omega
 have w2:(a:Int)+(q:Int)*2=((a+q*2:Nat):Int):=by omega
 have w3:(a:Int)+(q:Int)*3=((a+q*3:Nat):Int):=by omega
 have hbn:b≠nx:=by omega
 refine fO Kk ?_;simp only[L3,aG];have last:∀(s:Nat)(H1:Hp),H1=ap (ap H nx [.int .i64 0]) nx [.int .i64 s]->H1 nx=some [.int .i64 (s:Nat)]:=λs H1 h=>by rw[h];exact ae
 have hHn:∀v,ap H nx v b=some (L.map f):=λv=>by rw[ac hbn];exact hH
 by_cases h50:50<=l
 ·refine wnZ (zI5 @te @tq @w1 @w2 @w3) ?_;refine aO ev0 ev0 (sZ hc (b:=b) (c:=nx) (s:=0) (i:=a+q) (lo:=a) (hi:=a+l) (hHn _) hbn ae hn hG (by omega) (by omega) hn2 (by omega)) ?_;rintro _ _ _ ⟨rfl,p1,s1,rfl,k1,k2,hs1,rfl⟩;rw[aC];refine wnZ and_self ?_;refine aO ev0 ev0 (sZ hc (b:=b) (c:=nx) (s:=s1) (i:=a+q*2) (lo:=a) (hi:=a+l) (hHn _) hbn ae hn hG (by omega) (by omega) hn2 (by omega)) ?_;rintro _ _ _ ⟨rfl,p2,s2,rfl,k3,k4,hs2,rfl⟩;rw[aC];refine wnZ and_self ?_;refine aO ev0 ev0 (sZ hc (b:=b) (c:=nx) (s:=s2) (i:=a+q*3) (lo:=a) (hi:=a+l) (hHn _) hbn ae hn hG (by omega) (by omega) hn2 (by omega)) ?_;rintro _ _ _ ⟨rfl,p3,s3,rfl,k5,k6,hs3,rfl⟩;rw[aC];refine wnZ and_self ?_;refine aO ev0 ev0 (sK hc (b:=b) (c:=nx) (s:=s3) (i:=p1) (j:=p2) (k:=p3) (lo:=a) (hi:=a+l) (hHn _) hbn ae hn hG (by omega) (by omega) (by omega) (by omega) hn2 (by omega)) ?_;rintro _ _ _ ⟨rfl,p4,s4,rfl,k7,k8,hs4,rfl⟩;rw[aC]
  repeat' (first|refine zW ?_|apply a_n|refine zO ?_|refine vZ ?_|(refine zGZ ?_ ?_<;>(intro _hg;try (exfalso;omega)))|refine bR rfl ?_|refine r2Z ?_|fail)
  all_goals exact⟨rfl,p4,_,_,rfl,by omega,by omega,rfl⟩
 ·refine wnZ (zI5 @te @tq @w1 @w2 @w3) ?_;refine aO ev0 ev0 (sK hc (b:=b) (c:=nx) (s:=0) (i:=a+q) (j:=a+q*2) (k:=a+q*3) (lo:=a) (hi:=a+l) (hHn _) hbn ae hn hG (by omega) (by omega) (by omega) (by omega) hn2 (by omega)) ?_;rintro _ _ _ ⟨rfl,p4,s4,rfl,k7,k8,hs4,rfl⟩;rw[aC]
  repeat' (first|refine zW ?_|apply a_n|refine zO ?_|refine vZ ?_|(refine zGZ ?_ ?_<;>(intro _hg;try (exfalso;omega)))|refine bR rfl ?_|refine r2Z ?_|fail)
  all_goals exact⟨rfl,p4,_,_,rfl,by omega,by omega,rfl⟩
end
section
variable{α:Type}[Inhabited α]{f:α->AV}{K:α->α->Int}{G:α->Prop}
theorem CD(hc:CmpO Tryz.prog f K G){L:List α}{H:Hp}{b nx n a e:Nat}(hH:H b=some (L.map f))(hn:L.length=n)(hG:∀x∈L,G x)(hae:a<e)(hen:e<=n)(hn2:n<=1000000000)(hlow:ry K a e L):
    Abs.Fn Tryz.prog 194 [.msl b n 1 0 n,.int .i64 a,.int .i64 e] H nx λr H' nx'=>nx'=nx/\∃L' t,r=.bool t/\H'=ap H b (L'.map f)/\PermR a e L L'/\(t=true->bh K a e L'):=by
 refine fO L6 ?_;simp only[M5,aG];refine wnZ and_self ?_;refine bA (X:=Nat×Nat×List α) (λx=>[(0,.msl b n 1 0 n),(1,.int .i64 a),(2,.int .i64 e),(7,.int .i64 (x.2.1:Nat)),(8,.int .i64 (x.1:Nat))]) (λx H' nxx=>x.1<=5/\a+1<=x.2.1/\x.2.1<=e/\H'=ap H b (x.2.2.map f)/\nx=nxx/\PermR a e L x.2.2/\bh K a x.2.1 x.2.2) (λx=>5-x.1) (0,a+1,L) ⟨by dsimp only;omega,aN _,hae,fS hH,rfl,.refl,bh.one (aN _)⟩ ag0 ?_;rintro⟨jj,i0,M0⟩ H' nxx ⟨h1,h2,h3,rfl,rfl,hp0,hs0⟩;dsimp only at *;by_cases h5:jj=5
 ·subst h5;refine wnZ and_self ?_;exact⟨rfl,M0,false,rfl,rfl,hp0,λh=>absurd h (by decide)⟩
 have hl:M0.length=n:=by rw[hp0.len,hn]
 have hGM:=hp0.mem hG;refine bn (λT H'' nx''=>T 0=.msl b n 1 0 n/\T 1=.int .i64 a/\T 2=.int .i64 e/\n=n/\T 7=.int .i64 (i0:Nat)/\T 8=.int .i64 (jj:Nat)/\H''=ap H b ((M0).map f)/\nx=nx'') ?_ ?_
 ·refine wnZ and_self ?_;exact⟨rfl,rfl,rfl,rfl,rfl,rfl,rfl,rfl⟩
 rintro T _ _ ⟨t0,t1,t2,tF,t7,t8,rfl,rfl⟩;refine bn (λT H'' nx''=>∃(i:Nat)(M:List α),a+1<=i/\i<=e/\PermR a e L M/\bh K a i M/\T 0=.msl b n 1 0 n/\T 1=.int .i64 a/\T 2=.int .i64 e/\n=n/\T 7=.int .i64 (i:Nat)/\T 8=.int .i64 (jj:Nat)/\H''=ap H b ((M).map f)/\nx=nx'') ?_ ?_
 rotate_left
 ·clear t0 t1 t2 tF t7 t8;rintro T _ _ ⟨i,M,k1,k2,hp,hs,t0,t1,t2,tF,t7,t8,rfl,rfl⟩;refine wnZ (zI6 @t0 @t1 @t2 @tF @t7 @t8) ?_;exact⟨(jj+1,i,M),by dsimp only;omega,⟨by dsimp only;omega,k1,k2,rfl,rfl,hp,hs⟩,(have zz:=aI @t0 (aI @t1 (aI @t2 (aI @tF (aI @t7 @t8))));agZ)⟩
 refine fQ ?_;refine bn (λT H'' nx''=>∃(i:Nat),a+1<=i/\i<=e/\bh K a i M0/\(i<e->K (M0.getD i default) (M0.getD (i-1) default)<0)/\T 0=.msl b n 1 0 n/\T 1=.int .i64 a/\T 2=.int .i64 e/\n=n/\T 7=.int .i64 (i:Nat)/\T 8=.int .i64 (jj:Nat)/\H''=ap H b ((M0).map f)/\nx=nx'') ?_ ?_
 ·refine wnZ (zI6 @t0 @t1 @t2 @tF @t7 @t8) ?_;refine bA (X:=Nat) (λi=>[(0,.msl b n 1 0 n),(1,.int .i64 a),(2,.int .i64 e),(7,.int .i64 (i:Nat)),(8,.int .i64 (jj:Nat))]) (λi H' nxx=>a+1<=i/\i<=e/\H'=ap H b (M0.map f)/\nx=nxx/\bh K a i M0) (λi=>e-i) i0 ⟨h2,h3,rfl,rfl,hs0⟩ (have zz:=aI @t0 (aI @t1 (aI @t2 (aI @tF (aI @t7 @t8))));agZ) ?_;clear hs0 h2 h3;rintro i H' nxx ⟨h2,h3,rfl,rfl,hs⟩;by_cases hie:i=e
  ·subst hie;refine wkZ and_self ?_;exact⟨i,h2,h3,hs,λh=>absurd h (Nat.lt_irrefl _),rfl,rfl,rfl,rfl,rfl,rfl,rfl,rfl⟩
  obtain⟨m,rfl⟩:∃m,i=m+1:=⟨i-1,by omega⟩
  have tj:((m+1:Nat):Int)-1=(m:Int):=by omega
  have lc:=hc.run (M0.getD (m+1) default) (M0.getD m default) (hGM _ (aP (by omega))) (hGM _ (aP (by omega)));have e1:=hc.dat (M0.getD (m+1) default);have e2:=hc.dat (M0.getD m default);generalize hKK:K (M0.getD (m+1) default) (M0.getD m default)=kk at lc;by_cases hlt:kk<0
  ·refine wkZ (zI4 @tj @bN hc.cells hc.one) ?_;exact⟨m+1,h2,h3,hs,λ_=>by rw[lI,hKK];exact hlt,rfl,rfl,rfl,rfl,rfl,rfl,rfl,rfl⟩
  ·refine wkZ (zI4 @tj @bN hc.cells hc.one) ?_;exact⟨m+1+1,by omega,⟨by omega,by omega,rfl,rfl,hs.snoc hc.ord (by omega) (by rw[lI,hKK];exact hlt)⟩,ag0⟩
 clear t0 t1 t2 tF t7 t8 hs0 h2 h3;rintro T _ _ ⟨i,h2,h3,hs,hless,t0,t1,t2,tF,t7,t8,rfl,rfl⟩;by_cases hie:i=e
 ·subst hie;have ten:decide ((i:Int)=(i:Int))=true:=aZ rfl;refine wnZ (zI7 @t0 @t1 @t2 @tF @t7 @t8 @ten) ?_;exact⟨rfl,M0,true,rfl,rfl,hp0,λ_=>hs⟩
 replace hless:=hless (by omega);have ten:decide ((i:Int)=(e:Int))=false:=aW (by omega);refine bn (λT H'' nx''=>T 0=.msl b n 1 0 n/\T 1=.int .i64 a/\T 2=.int .i64 e/\n=n/\T 7=.int .i64 (i:Nat)/\T 8=.int .i64 (jj:Nat)/\H''=ap H b ((M0).map f)/\nx=nx'') ?_ ?_
 ·refine wnZ (zI7 @t0 @t1 @t2 @tF @t7 @t8 @ten) ?_;exact⟨(have zz:=@t0;evZ),(have zz:=@t1;evZ),(have zz:=@t2;evZ),(have zz:=@tF;evZ),(have zz:=@t7;evZ),(have zz:=@t8;evZ),rfl,rfl⟩
 clear t0 t1 t2 tF t7 t8 ten;rintro T _ _ ⟨t0,t1,t2,tF,t7,t8,rfl,rfl⟩;refine bn (λT H'' nx''=>T 0=.msl b n 1 0 n/\T 1=.int .i64 a/\T 2=.int .i64 e/\n=n/\T 7=.int .i64 (i:Nat)/\T 8=.int .i64 (jj:Nat)/\H''=ap H b ((M0).map f)/\nx=nx'') ?_ ?_
 ·have zz:=aI @t0 (aI @t1 (aI @t2 (aI @tF (aI @t7 @t8))));repeat' (first|refine zW ?_|apply a_n|apply a_r|refine zO ?_|refine vZ ?_|(refine zGZ ?_ ?_<;>(intro _hg;try (exfalso;omega)))|refine bR rfl ?_|refine r1Z ?_|fail)
  ·exact⟨rfl,M0,false,rfl,rfl,hp0,λh=>absurd h (by decide)⟩
  ·exact⟨(have zz:=@t0;evZ),(have zz:=@t1;evZ),(have zz:=@t2;evZ),(have zz:=@tF;evZ),(have zz:=@t7;evZ),(have zz:=@t8;evZ),rfl,rfl⟩
 clear t0 t1 t2 tF t7 t8;rintro T _ _ ⟨t0,t1,t2,tF,t7,t8,rfl,rfl⟩;obtain⟨m,rfl⟩:∃m,i=m+1:=⟨i-1,by omega⟩
 have tj:((m+1:Nat):Int)-1=(m:Int):=by omega
 rw[lI] at hless;obtain⟨M1,hl1,lm1,lm2⟩:=bV (f:=f) (M:=M0) (i:=m+1) (j:=m) (by omega) (by omega);have lm3:=lm2;simp only[br,bC,dp,bS] at lm1 lm2;refine bn (λT H'' nx''=>T 0=.msl b n 1 0 n/\T 1=.int .i64 a/\T 2=.int .i64 e/\n=n/\T 7=.int .i64 (m+1:Nat)/\T 8=.int .i64 (jj:Nat)/\H''=ap H b ((swp M0 (m+1) m).map f)/\nx=nx'') ?_ ?_
 ·refine wnZ (aI @t0 (aI @t1 (dV @t2 @tF @t7 @t8 @bN hc.cells hc.one @tj @lm1 @lm2))) ?_;exact⟨(have zz:=@t0;evZ),(have zz:=@t1;evZ),(have zz:=@t2;evZ),(have zz:=@tF;evZ),(have zz:=@t7;evZ),(have zz:=@t8;evZ),by rw[aC,aC,lm3],rfl⟩
 clear t0 t1 t2 tF t7 t8;have hp1:PermR a e L (swp M0 (m+1) m):=hp0.trans (PermR.swap (by omega) (by omega) (by omega));have hal:=(fu.start hs).step hc.ord (by omega) (aN _) (by omega) hless;clear hs hless lm1 lm2 lm3 hl1 M1;generalize swp M0 (m+1) m=M2 at hp1 hal;clear hp0 hGM hl;rintro T _ _ ⟨t0,t1,t2,tF,t7,t8,rfl,rfl⟩;refine bn (λT H'' nx''=>∃M:List α,PermR a e L M/\bh K a (m+1) M/\T 0=.msl b n 1 0 n/\T 1=.int .i64 a/\T 2=.int .i64 e/\n=n/\T 7=.int .i64 (m+1:Nat)/\T 8=.int .i64 (jj:Nat)/\H''=ap H b ((M).map f)/\nx=nx'') ?_ ?_
 ·by_cases h2a:m=a
  ·subst h2a;have td:decide ((2:Int)<=((m+1:Nat):Int)-(m:Int))=false:=aW (by omega);refine wnZ (zI7 @t0 @t1 @t2 @tF @t7 @t8 @td) ?_;exact⟨M2,hp1,(hal.done hc.ord (.inl rfl)).mono (aN _) (by omega),(have zz:=@t0;evZ),(have zz:=@t1;evZ),(have zz:=@t2;evZ),(have zz:=@tF;evZ),(have zz:=@t7;evZ),(have zz:=@t8;evZ),rfl,rfl⟩
  have td:decide ((2:Int)<=((m+1:Nat):Int)-(a:Int))=true:=aZ (by omega);refine wnZ (zI8 @t0 @t1 @t2 @tF @t7 @t8 @td @tj) ?_;refine bA (X:=Nat×List α) (λx=>[(0,.msl b n 1 0 n),(1,.int .i64 a),(2,.int .i64 e),(7,.int .i64 (m+1:Nat)),(8,.int .i64 (jj:Nat)),(9,.int .i64 (x.1:Nat))]) (λx H' nxx=>a<=x.1/\x.1<=m/\H'=ap H b (x.2.map f)/\nx=nxx/\PermR a e L x.2/\fu K a (m+1) x.1 x.2) (λx=>x.1) (m,M2) ⟨by dsimp only;omega,aN _,rfl,rfl,hp1,hal⟩ (have zz:=aI @t0 (aI @t1 (aI @t2 (aI @tF (aI @t7 @t8))));agZ) ?_;clear t0 t1 t2 tF t7 t8 hp1 hal M2;rintro⟨j,M⟩ H' nxx ⟨a1,a2,rfl,rfl,hp,hal⟩;dsimp only at *;have hl:M.length=n:=by rw[hp.len,hn]
  have hGM:=hp.mem hG;rcases uk j with ej|ej
  ·subst ej;refine wnZ and_self ?_;exact⟨M,hp,(hal.done hc.ord (.inl (by omega))).mono (aN _) (by omega),rfl,rfl,rfl,rfl,rfl,rfl,rfl,rfl⟩
  obtain⟨k,rfl⟩:∃k,j=k+1:=⟨j-1,by omega⟩
  have tk:((k+1:Nat):Int)-1=(k:Int):=by omega
  have lc:=hc.run (M.getD (k+1) default) (M.getD k default) (hGM _ (aP (by omega))) (hGM _ (aP (by omega)));have e1:=hc.dat (M.getD (k+1) default);have e2:=hc.dat (M.getD k default);have hlw:=hlow.perm hp (by omega) (by omega);generalize hKK:K (M.getD (k+1) default) (M.getD k default)=kk at lc;by_cases hlt:kk<0
  ·have hak:k+1≠a:=λh=>by
     subst h;have:=hlw (k+1) (by omega) (aN _) (by omega);rw[lI,hKK] at this;exact this hlt
   obtain⟨M1,hl1,lm1,lm2⟩:=bV (f:=f) (M:=M) (i:=k+1) (j:=k) (by omega) (by omega);have lm3:=lm2;simp only[br,bC,dp,bS] at lm1 lm2;refine wkZ (zI6 @tk @bN hc.cells hc.one @lm1 @lm2) ?_;exact⟨(k,swp M (k+1) k),by dsimp only;omega,⟨by dsimp only;omega,by dsimp only;omega,by dsimp only;rw[aC,aC,lm3],rfl,hp.trans (PermR.swap (by omega) (by omega) (by omega)),hal.step hc.ord (by omega) (by omega) (by omega) (by rw[hKK];exact hlt)⟩,(have zz:=@tk;agZ)⟩
  ·have hd:k+1=a\/(a<k+1/\¬K (M.getD (k+1) default) (M.getD (k+1-1) default)<0):=by
     by_cases h:k+1=a
     ·exact .inl h
     ·exact .inr ⟨by omega,by rw[lI,hKK];exact hlt⟩
   refine wkZ (zI4 @tk @bN hc.cells hc.one) ?_;exact⟨M,hp,(hal.done hc.ord hd).mono (aN _) (by omega),rfl,rfl,rfl,rfl,rfl,rfl,rfl,rfl⟩
 clear t0 t1 t2 tF t7 t8 hp1 hal M2;rintro T _ _ ⟨M2,hp1,hs,t0,t1,t2,tF,t7,t8,rfl,rfl⟩;by_cases h2a:m+1+2<=e
 rotate_left
 ·have td:decide ((2:Int)<=(e:Int)-((m+1:Nat):Int))=false:=aW (by omega);refine wnZ (zI7 @t0 @t1 @t2 @tF @t7 @t8 @td) ?_;exact⟨m+1,M2,h2,h3,hp1,hs,(have zz:=@t0;evZ),(have zz:=@t1;evZ),(have zz:=@t2;evZ),(have zz:=@tF;evZ),(have zz:=@t7;evZ),(have zz:=@t8;evZ),rfl,rfl⟩
 have td:decide ((2:Int)<=(e:Int)-((m+1:Nat):Int))=true:=aZ (by omega);have tj2:((m+1:Nat):Int)+1=((m+1+1:Nat):Int):=by omega
 refine wnZ (zI8 @t0 @t1 @t2 @tF @t7 @t8 @td @tj2) ?_;refine bA (X:=Nat×List α) (λx=>[(0,.msl b n 1 0 n),(1,.int .i64 a),(2,.int .i64 e),(7,.int .i64 (m+1:Nat)),(8,.int .i64 (jj:Nat)),(10,.int .i64 (x.1:Nat))]) (λx H' nxx=>m+1+1<=x.1/\x.1<=e/\H'=ap H b (x.2.map f)/\nx=nxx/\PermR a e L x.2/\bh K a (m+1) x.2) (λx=>e-x.1) (m+1+1,M2) ⟨aN _,by dsimp only;omega,rfl,rfl,hp1,hs⟩ (have zz:=aI @t0 (aI @t1 (aI @t2 (aI @tF (aI @t7 @t8))));agZ) ?_;clear t0 t1 t2 tF t7 t8 hp1 hs M2;rintro⟨j,M⟩ H' nxx ⟨a1,a2,rfl,rfl,hp,hs⟩;dsimp only at *;have hl:M.length=n:=by rw[hp.len,hn]
 have hGM:=hp.mem hG;by_cases hje:j=e
 ·subst hje;refine wnZ and_self ?_;exact⟨m+1,M,h2,h3,hp,hs,rfl,rfl,rfl,rfl,rfl,rfl,rfl,rfl⟩
 obtain⟨k,rfl⟩:∃k,j=k+1:=⟨j-1,by omega⟩
 have tk:((k+1:Nat):Int)-1=(k:Int):=by omega
 have lc:=hc.run (M.getD (k+1) default) (M.getD k default) (hGM _ (aP (by omega))) (hGM _ (aP (by omega)));have e1:=hc.dat (M.getD (k+1) default);have e2:=hc.dat (M.getD k default);generalize hKK:K (M.getD (k+1) default) (M.getD k default)=kk at lc;by_cases hlt:kk<0
 ·obtain⟨M1,hl1,lm1,lm2⟩:=bV (f:=f) (M:=M) (i:=k+1) (j:=k) (by omega) (by omega);have lm3:=lm2;simp only[br,bC,dp,bS] at lm1 lm2;refine wkZ (zI6 @tk @bN hc.cells hc.one @lm1 @lm2) ?_;exact⟨(k+1+1,swp M (k+1) k),by dsimp only;omega,⟨by dsimp only;omega,by dsimp only;omega,by dsimp only;rw[aC,aC,lm3],rfl,hp.trans (PermR.swap (by omega) (by omega) (by omega)),hs.out (e:=e) (PermR.swap (by omega) (by omega) (by omega))⟩,ag0⟩
 ·refine wkZ (zI4 @tk @bN hc.cells hc.one) ?_;exact⟨m+1,M,h2,h3,hp,hs,rfl,rfl,rfl,rfl,rfl,rfl,rfl,rfl⟩
end
section
variable{α:Type}[Inhabited α]{f:α->AV}{K:α->α->Int}{G:α->Prop}
theorem FC(hc:CmpO Tryz.prog f K G){L:List α}{H:Hp}{b nx n a e pv:Nat}(hH:H b=some (L.map f))(hn:L.length=n)(hG:∀x∈L,G x)(hae:a<e)(hen:e<=n)(hn2:n<=1000000000)(hpv:a<=pv/\pv<e):
    Abs.Fn Tryz.prog 195 [.msl b n 1 0 n,.int .i64 a,.int .i64 e,.int .i64 pv] H nx λr H' nx'=>nx'=nx/\∃(L':List α)(m:Nat),r=.int .i64 m/\a<m/\m<=e/\H'=ap H b (L'.map f)/\PermR a e L L'/\(∀p,a<=p->p<m->¬K (L.getD pv default) (L'.getD p default)<0)/\(∀q,m<=q->q<e->K (L.getD pv default) (L'.getD q default)<0):=by
 obtain⟨v,hv0⟩:∃v,L.getD pv default=v:=⟨_,rfl⟩
 rw[hv0];obtain⟨P,hP⟩:∃P:α->Prop,∀x,P x↔ ¬K v x<0:=⟨_,λ_=>Iff.rfl⟩
 obtain⟨N,hN⟩:∃N,swp L a pv=N:=⟨_,rfl⟩
 have hp1:PermR a e L N:=hN▸PermR.swap (by omega) (by omega) (by omega)
 have hv1:N.getD a default=v:=by
  rw[<-hN,er (by omega) (by omega),<-hv0];split
  ·rename_i h;rw[h]
  ·rw[if_pos rfl]
 obtain⟨M1,hl1,lm1,lm2⟩:=bV (f:=f) (M:=L) (i:=a) (j:=pv) (by omega) (by omega);rw[hN] at lm2;have lm3:=lm2;simp only[br,bC,dp,bS] at lm1 lm2;obtain⟨m,hm⟩:∃m,e=m+1:=⟨e-1,by omega⟩
 have te:(e:Int)-1=(m:Int):=by omega
 have ta:((a:Nat):Int)+1=((a+1:Nat):Int):=by omega
 refine fO Lv ?_;simp only[LJ,aG];refine wnZ (zI8 @hH @te @ta @bN hc.cells hc.one @lm1 @lm2) ?_;refine bA (X:=Nat×Nat×List α) (λx=>[(0,.msl b n 1 0 n),(1,.int .i64 a),(9,.int .i64 (x.1:Nat)),(10,.int .i64 (x.2.1:Nat))]) (λx H' nxx=>PartR P a e (x.2.1+1-x.1) x.1 x.2.1 x.2.2/\H'=ap H b (x.2.2.map f)/\nx=nxx/\PermR a e L x.2.2/\x.2.2.getD a default=v) (λx=>x.2.1+1-x.1) (a+1,m,N) ⟨by dsimp only;rw[hm];exact .start (by omega),by dsimp only;rw[aC,lm3],rfl,hp1,hv1⟩ ag0 ?_;clear lm1 lm2 lm3 hl1 M1 hp1 hv1 hN N te ta hm m;rintro⟨i,j,M⟩ H' nxx ⟨hpt,rfl,rfl,hp,hv⟩;dsimp only at *;have hl:M.length=n:=by rw[hp.len,hn]
 have hGM:=hp.mem hG;generalize hmu:j+1-i=mu at hpt |-;clear hmu;obtain⟨T,hT,t0,t1,tF,t9,t10⟩:∃T,tl [(0,.msl b n 1 0 n),(1,.int .i64 a),(9,.int .i64 (i:Nat)),(10,.int .i64 (j:Nat))]=T/\T 0=.msl b n 1 0 n/\T 1=.int .i64 a/\n=n/\T 9=.int .i64 (i:Nat)/\T 10=.int .i64 (j:Nat):=⟨_,rfl,rfl,rfl,rfl,rfl,rfl⟩
 rw[hT];clear hT;refine fQ ?_;refine bn (λT H'' nx''=>∃i:Nat,PartR P a e mu i j M/\(i<=j->¬P (M.getD i default))/\T 0=.msl b n 1 0 n/\T 1=.int .i64 a/\n=n/\T 9=.int .i64 (i:Nat)/\T 10=.int .i64 (j:Nat)/\H''=ap H b ((M).map f)/\nx=nx'') ?_ ?_
 ·refine wnZ (zI5 @t0 @t1 @tF @t9 @t10) ?_;refine bA (X:=Nat) (λi=>[(0,.msl b n 1 0 n),(1,.int .i64 a),(9,.int .i64 (i:Nat)),(10,.int .i64 (j:Nat))]) (λi H' nxx=>PartR P a e mu i j M/\H'=ap H b (M.map f)/\nx=nxx) (λi=>j+1-i) i ⟨hpt,rfl,rfl⟩ (have zz:=aI @t0 (aI @t1 (aI @tF (aI @t9 @t10)));agZ) ?_;clear t0 t1 tF t9 t10 hpt i;rintro i H' nxx ⟨hpt,rfl,rfl⟩;have hlo:=hpt.lo;have hmid:=hpt.mid;have hhi:=hpt.hi;have ii:((i:Nat):Int)+1=((i+1:Nat):Int):=by omega
  by_cases hij:j<i
  ·refine wkZ and_self ?_;exact⟨i,hpt,λh=>absurd h (by omega),rfl,rfl,rfl,rfl,rfl,rfl,rfl⟩
  have lc:=hc.run (M.getD (a) default) (M.getD (i) default) (hGM _ (aP (by omega))) (hGM _ (aP (by omega)));have e1:=hc.dat (M.getD (a) default);have e2:=hc.dat (M.getD (i) default);have hPk:P (M.getD (i) default)↔ ¬K (M.getD (a) default) (M.getD (i) default)<0:=by rw[hP,hv]
  generalize hKK:K (M.getD (a) default) (M.getD (i) default)=kk at lc hPk;by_cases hlt:kk<0
  ·refine wkZ (zI4 @ii @bN hc.cells hc.one) ?_;exact⟨i,hpt,λ_=>(by rw[hPk];first|exact hlt|exact λh=>h hlt),rfl,rfl,rfl,rfl,rfl,rfl,rfl⟩
  ·refine wkZ (zI4 @ii @bN hc.cells hc.one) ?_;exact⟨i+1,by omega,⟨hpt.stepUp (by omega) (by rw[hPk];exact hlt),rfl,rfl⟩,ag0⟩
 clear t0 t1 tF t9 t10 hpt i;rintro T _ _ ⟨i,hpt,hni,t0,t1,tF,t9,t10,rfl,rfl⟩;refine bn (λT H'' nx''=>∃j:Nat,PartR P a e mu i j M/\(i<=j->¬P (M.getD i default))/\(i<=j->P (M.getD j default))/\T 0=.msl b n 1 0 n/\T 1=.int .i64 a/\n=n/\T 9=.int .i64 (i:Nat)/\T 10=.int .i64 (j:Nat)/\H''=ap H b ((M).map f)/\nx=nx'') ?_ ?_
 ·refine wnZ (zI5 @t0 @t1 @tF @t9 @t10) ?_;refine bA (X:=Nat) (λj=>[(0,.msl b n 1 0 n),(1,.int .i64 a),(9,.int .i64 (i:Nat)),(10,.int .i64 (j:Nat))]) (λj H' nxx=>PartR P a e mu i j M/\(i<=j->¬P (M.getD i default))/\H'=ap H b (M.map f)/\nx=nxx) (λj=>j) j ⟨hpt,hni,rfl,rfl⟩ (have zz:=aI @t0 (aI @t1 (aI @tF (aI @t9 @t10)));agZ) ?_;clear t0 t1 tF t9 t10 hpt hni j;rintro j H' nxx ⟨hpt,hni,rfl,rfl⟩;have hlo:=hpt.lo;have hmid:=hpt.mid;have hhi:=hpt.hi;by_cases hij:j<i
  ·refine wkZ and_self ?_;exact⟨j,hpt,hni,λh=>absurd h (by omega),rfl,rfl,rfl,rfl,rfl,rfl,rfl⟩
  obtain⟨k,rfl⟩:∃k,j=k+1:=⟨j-1,by omega⟩
  have tk:((k+1:Nat):Int)-1=(k:Int):=by omega
  have lc:=hc.run (M.getD (a) default) (M.getD (k+1) default) (hGM _ (aP (by omega))) (hGM _ (aP (by omega)));have e1:=hc.dat (M.getD (a) default);have e2:=hc.dat (M.getD (k+1) default);have hPk:P (M.getD (k+1) default)↔ ¬K (M.getD (a) default) (M.getD (k+1) default)<0:=by rw[hP,hv]
  generalize hKK:K (M.getD (a) default) (M.getD (k+1) default)=kk at lc hPk;by_cases hlt:kk<0
  ·refine wkZ (zI4 @tk @bN hc.cells hc.one) ?_;exact⟨k,by omega,⟨hpt.stepDn (by omega) (by rw[hPk];first|exact hlt|exact λh=>h hlt),λ_=>hni (by omega),rfl,rfl⟩,ag0⟩
  ·refine wkZ (zI4 @tk @bN hc.cells hc.one) ?_;exact⟨k+1,hpt,hni,λ_=>(by rw[hPk];exact hlt),rfl,rfl,rfl,rfl,rfl,rfl,rfl⟩
 clear t0 t1 tF t9 t10 hpt hni j;rintro T _ _ ⟨j,hpt,hni,hnj,t0,t1,tF,t9,t10,rfl,rfl⟩;have hlo:=hpt.lo;have hmid:=hpt.mid;have hhi:=hpt.hi;by_cases hji:j<i
 ·refine wnZ (zI5 @t0 @t1 @tF @t9 @t10) ?_;refine⟨rfl,M,i,rfl,by omega,by omega,rfl,hp,λp h1 h2=>?_,λq h1 h2=>by have:=hpt.dn q (by omega) h2;rw[hP] at this;exact sI this⟩;by_cases ep:p=a
  ·rw[ep,hv];exact hc.ord.irr _
  ·exact(hP _).1 (hpt.up p (by omega) h2)
 obtain⟨k,rfl⟩:∃k,j=k+1:=⟨j-1,by omega⟩
 have tk:((k+1:Nat):Int)-1=(k:Int):=by omega
 have ii:((i:Nat):Int)+1=((i+1:Nat):Int):=by omega
 obtain⟨M1,hl1,lm1,lm2⟩:=bV (f:=f) (M:=M) (i:=i) (j:=k+1) (by omega) (by omega);have lm3:=lm2;simp only[br,bC,dp,bS] at lm1 lm2;refine wnZ (aI @t0 (aI @t1 (dV @tF @t9 @t10 @tk @ii @bN hc.cells hc.one @lm1 @lm2))) ?_;obtain⟨hq1,hq2⟩:=hpt.swap (by omega) (by omega) (hni (by omega)) (hnj (by omega));exact⟨(i+1,k,swp M i (k+1)),hq2,⟨hq1,by dsimp only;rw[aC,aC,lm3],rfl,hp.trans (PermR.swap (by omega) (by omega) (by omega)),by dsimp only;rw[ku (by omega) (by omega) (by omega) (by omega)];exact hv⟩,(have zz:=aI @t0 (aI @t1 (aI @tF (aI @t9 @t10)));agZ)⟩
theorem JE(hc:CmpO Tryz.prog f K G){L:List α}{H:Hp}{b nx n a e pv:Nat}(hH:H b=some (L.map f))(hn:L.length=n)(hG:∀x∈L,G x)(hae:a<e)(hen:e<=n)(hn2:n<=1000000000)(hpv:a<=pv/\pv<e):
    Abs.Fn Tryz.prog 196 [.msl b n 1 0 n,.int .i64 a,.int .i64 e,.int .i64 pv] H nx λr H' nx'=>nx'=nx/\∃(L':List α)(m:Nat)(t:Bool),r=.tup [.int .i64 m,.bool t]/\a<=m/\m<e/\H'=ap H b (L'.map f)/\PermR a e L L'/\(∀p,a<=p->p<m->K (L'.getD p default) (L'.getD m default)<0)/\(∀q,m<q->q<e->¬K (L'.getD q default) (L'.getD m default)<0):=by
 obtain⟨v,hv0⟩:∃v,L.getD pv default=v:=⟨_,rfl⟩
 obtain⟨P,hP⟩:∃P:α->Prop,∀x,P x↔K x v<0:=⟨_,λ_=>Iff.rfl⟩
 obtain⟨M,hN⟩:∃N,swp L a pv=N:=⟨_,rfl⟩
 have hp:PermR a e L M:=hN▸PermR.swap (by omega) (by omega) (by omega)
 have hv:M.getD a default=v:=by
  rw[<-hN,er (by omega) (by omega),<-hv0];split
  ·rename_i h;rw[h]
  ·rw[if_pos rfl]
 obtain⟨M1,hl1,lm1,lm2⟩:=bV (f:=f) (M:=L) (i:=a) (j:=pv) (by omega) (by omega);rw[hN] at lm2;have lm3:=lm2;simp only[br,bC,dp,bS] at lm1 lm2;obtain⟨m,hm⟩:∃m,e=m+1:=⟨e-1,by omega⟩
 have te:(e:Int)-1=(m:Int):=by omega
 have ta:((a:Nat):Int)+1=((a+1:Nat):Int):=by omega
 refine fO Nw ?_;simp only[Kj,aG];refine bn (λT H'' nx''=>T 0=.msl b n 1 0 n/\T 1=.int .i64 a/\T 2=.int .i64 e/\T 3=.int .i64 pv/\n=n/\H=H''/\nx=nx'') ?_ ?_
 ·refine wnZ and_self ?_;exact⟨rfl,rfl,rfl,rfl,rfl,rfl,rfl⟩
 rintro T _ _ ⟨t0,t1,t2,t3,tF,rfl,rfl⟩;refine bn (λT H'' nx''=>T 0=.msl b n 1 0 n/\T 1=.int .i64 a/\T 2=.int .i64 e/\T 3=.int .i64 pv/\n=n/\H''=ap H b (M.map f)/\nx=nx'') ?_ ?_
 ·refine wnZ (aI @t0 (dV @t1 @t2 @t3 @tF @hH @bN hc.cells hc.one @lm1 @lm2)) ?_;exact⟨(have zz:=@t0;evZ),(have zz:=@t1;evZ),(have zz:=@t2;evZ),(have zz:=@t3;evZ),(have zz:=@tF;evZ),by rw[aC,lm3],rfl⟩
 clear t0 t1 t2 t3 tF lm1 lm2 lm3 hl1 M1 hN;rintro T _ _ ⟨t0,t1,t2,t3,tF,rfl,rfl⟩;refine bn (λT H'' nx''=>∃mu i j:Nat,PartR P a e mu i j M/\T 0=.msl b n 1 0 n/\T 1=.int .i64 a/\n=n/\T 10=.int .i64 (i:Nat)/\T 11=.int .i64 (j:Nat)/\H''=ap H b ((M).map f)/\nx=nx'') ?_ ?_
 ·refine wnZ (zI7 @t0 @t1 @t2 @t3 @tF @ta @te) ?_;exact⟨_,a+1,m,by rw[hm];exact .start (by omega),(have zz:=@t0;evZ),(have zz:=@t1;evZ),(have zz:=@tF;evZ),ev0,ev0,rfl,rfl⟩
 clear t0 t1 t2 t3 tF ta te hm m;rintro T _ _ ⟨mu,i,j,hpt,t0,t1,tF,t10,t11,rfl,rfl⟩;have hl:M.length=n:=by rw[hp.len,hn]
 have hGM:=hp.mem hG;refine bn (λT H'' nx''=>∃i:Nat,PartR P a e mu i j M/\(i<=j->¬P (M.getD i default))/\T 0=.msl b n 1 0 n/\T 1=.int .i64 a/\n=n/\T 10=.int .i64 (i:Nat)/\T 11=.int .i64 (j:Nat)/\H''=ap H b ((M).map f)/\nx=nx'') ?_ ?_
 ·refine wnZ (zI5 @t0 @t1 @tF @t10 @t11) ?_;refine bA (X:=Nat) (λi=>[(0,.msl b n 1 0 n),(1,.int .i64 a),(10,.int .i64 (i:Nat)),(11,.int .i64 (j:Nat))]) (λi H' nxx=>PartR P a e mu i j M/\H'=ap H b (M.map f)/\nx=nxx) (λi=>j+1-i) i ⟨hpt,rfl,rfl⟩ (have zz:=aI @t0 (aI @t1 (aI @tF (aI @t10 @t11)));agZ) ?_;clear t0 t1 tF t10 t11 hpt i;rintro i H' nxx ⟨hpt,rfl,rfl⟩;have hlo:=hpt.lo;have hmid:=hpt.mid;have hhi:=hpt.hi;have ii:((i:Nat):Int)+1=((i+1:Nat):Int):=by omega
  by_cases hij:j<i
  ·refine wkZ and_self ?_;exact⟨i,hpt,λh=>absurd h (by omega),rfl,rfl,rfl,rfl,rfl,rfl,rfl⟩
  have lc:=hc.run (M.getD (i) default) (M.getD (a) default) (hGM _ (aP (by omega))) (hGM _ (aP (by omega)));have e1:=hc.dat (M.getD (i) default);have e2:=hc.dat (M.getD (a) default);have hPk:P (M.getD (i) default)↔K (M.getD (i) default) (M.getD (a) default)<0:=by rw[hP,hv]
  generalize hKK:K (M.getD (i) default) (M.getD (a) default)=kk at lc hPk;by_cases hlt:kk<0
  ·refine wkZ (zI4 @ii @bN hc.cells hc.one) ?_;exact⟨i+1,by omega,⟨hpt.stepUp (by omega) (by rw[hPk];exact hlt),rfl,rfl⟩,ag0⟩
  ·refine wkZ (zI4 @ii @bN hc.cells hc.one) ?_;exact⟨i,hpt,λ_=>(by rw[hPk];first|exact hlt|exact λh=>h hlt),rfl,rfl,rfl,rfl,rfl,rfl,rfl⟩
 clear t0 t1 tF t10 t11 hpt i;rintro T _ _ ⟨i,hpt,hni,t0,t1,tF,t10,t11,rfl,rfl⟩;refine bn (λT H'' nx''=>∃j:Nat,PartR P a e mu i j M/\(i<=j->¬P (M.getD i default))/\(i<=j->P (M.getD j default))/\T 0=.msl b n 1 0 n/\T 1=.int .i64 a/\n=n/\T 10=.int .i64 (i:Nat)/\T 11=.int .i64 (j:Nat)/\H''=ap H b ((M).map f)/\nx=nx'') ?_ ?_
 ·refine wnZ (zI5 @t0 @t1 @tF @t10 @t11) ?_;refine bA (X:=Nat) (λj=>[(0,.msl b n 1 0 n),(1,.int .i64 a),(10,.int .i64 (i:Nat)),(11,.int .i64 (j:Nat))]) (λj H' nxx=>PartR P a e mu i j M/\(i<=j->¬P (M.getD i default))/\H'=ap H b (M.map f)/\nx=nxx) (λj=>j) j ⟨hpt,hni,rfl,rfl⟩ (have zz:=aI @t0 (aI @t1 (aI @tF (aI @t10 @t11)));agZ) ?_;clear t0 t1 tF t10 t11 hpt hni j;rintro j H' nxx ⟨hpt,hni,rfl,rfl⟩;have hlo:=hpt.lo;have hmid:=hpt.mid;have hhi:=hpt.hi;by_cases hij:j<i
  ·refine wkZ and_self ?_;exact⟨j,hpt,hni,λh=>absurd h (by omega),rfl,rfl,rfl,rfl,rfl,rfl,rfl⟩
  obtain⟨k,rfl⟩:∃k,j=k+1:=⟨j-1,by omega⟩
  have tk:((k+1:Nat):Int)-1=(k:Int):=by omega
  have lc:=hc.run (M.getD (k+1) default) (M.getD (a) default) (hGM _ (aP (by omega))) (hGM _ (aP (by omega)));have e1:=hc.dat (M.getD (k+1) default);have e2:=hc.dat (M.getD (a) default);have hPk:P (M.getD (k+1) default)↔K (M.getD (k+1) default) (M.getD (a) default)<0:=by rw[hP,hv]
  generalize hKK:K (M.getD (k+1) default) (M.getD (a) default)=kk at lc hPk;by_cases hlt:kk<0
  ·refine wkZ (zI4 @tk @bN hc.cells hc.one) ?_;exact⟨k+1,hpt,hni,λ_=>(by rw[hPk];exact hlt),rfl,rfl,rfl,rfl,rfl,rfl,rfl⟩
  ·refine wkZ (zI4 @tk @bN hc.cells hc.one) ?_;exact⟨k,by omega,⟨hpt.stepDn (by omega) (by rw[hPk];first|exact hlt|exact λh=>h hlt),λ_=>hni (by omega),rfl,rfl⟩,ag0⟩
 clear t0 t1 tF t10 t11 hpt hni j;rintro T _ _ ⟨j,hpt,hni,hnj,t0,t1,tF,t10,t11,rfl,rfl⟩;have hlo:=hpt.lo;have hmid:=hpt.mid;have hhi:=hpt.hi;by_cases hji:j<i
 ·clear hni hnj;obtain⟨z1,z2,z3,z4⟩:=hpt.done hc.ord (by omega) hji hv hP;obtain⟨M1,hl1,lm1,lm2⟩:=bV (f:=f) (M:=M) (i:=j) (j:=a) (by omega) (by omega);have lm3:=lm2;simp only[br,bC,dp,bS] at lm1 lm2;refine wnZ (dV @t0 @t1 @tF @t10 @t11 @bN hc.cells hc.one @lm1 @lm2) ?_;exact⟨rfl,swp M j a,j,true,rfl,z1,z2,by rw[aC,aC,lm3],hp.trans (PermR.swap (by omega) (by omega) (by omega)),z3,z4⟩
 obtain⟨k,rfl⟩:∃k,j=k+1:=⟨j-1,by omega⟩
 have tk:((k+1:Nat):Int)-1=(k:Int):=by omega
 have ii:((i:Nat):Int)+1=((i+1:Nat):Int):=by omega
 obtain⟨M1,hl1,lm1,lm2⟩:=bV (f:=f) (M:=M) (i:=i) (j:=k+1) (by omega) (by omega);have lm3:=lm2;simp only[br,bC,dp,bS] at lm1 lm2;refine wnZ (aI @t0 (aI @t1 (dV @tF @t10 @t11 @tk @ii @bN hc.cells hc.one @lm1 @lm2))) ?_;obtain⟨hq1,hq2⟩:=hpt.swap (by omega) (by omega) (hni (by omega)) (hnj (by omega));have hp2:PermR a e L (swp M i (k+1)):=hp.trans (PermR.swap (by omega) (by omega) (by omega));have hv2:(swp M i (k+1)).getD a default=v:=by rw[ku (by omega) (by omega) (by omega) (by omega)];exact hv
 refine bA (X:=Nat×Nat×List α) (λx=>[(0,.msl b n 1 0 n),(1,.int .i64 a),(10,.int .i64 (x.1:Nat)),(11,.int .i64 (x.2.1:Nat))]) (λx H' nxx=>PartR P a e (x.2.1+1-x.1) x.1 x.2.1 x.2.2/\H'=ap H b (x.2.2.map f)/\nx=nxx/\PermR a e L x.2.2/\x.2.2.getD a default=v) (λx=>x.2.1+1-x.1) (i+1,k,swp M i (k+1)) ⟨hq1,by dsimp only;rw[aC,aC,lm3],rfl,hp2,hv2⟩ (have zz:=aI @t0 (aI @t1 (aI @tF (aI @t10 @t11)));agZ) ?_;clear t0 t1 tF t10 t11 lm1 lm2 lm3 hl1 M1 hp2 hv2 hq1 hq2 hpt hni hnj hp hv hGM;rintro⟨i,j,M⟩ H' nxx ⟨hpt,rfl,rfl,hp,hv⟩;dsimp only at *;have hl:M.length=n:=by rw[hp.len,hn]
 have hGM:=hp.mem hG;generalize hmu:j+1-i=mu at hpt |-;clear hmu;obtain⟨T,hT,t0,t1,tF,t10,t11⟩:∃T,tl [(0,.msl b n 1 0 n),(1,.int .i64 a),(10,.int .i64 (i:Nat)),(11,.int .i64 (j:Nat))]=T/\T 0=.msl b n 1 0 n/\T 1=.int .i64 a/\n=n/\T 10=.int .i64 (i:Nat)/\T 11=.int .i64 (j:Nat):=⟨_,rfl,rfl,rfl,rfl,rfl,rfl⟩
 rw[hT];clear hT;refine fQ ?_;refine bn (λT H'' nx''=>∃i:Nat,PartR P a e mu i j M/\(i<=j->¬P (M.getD i default))/\T 0=.msl b n 1 0 n/\T 1=.int .i64 a/\n=n/\T 10=.int .i64 (i:Nat)/\T 11=.int .i64 (j:Nat)/\H''=ap H b ((M).map f)/\nx=nx'') ?_ ?_
 ·refine wnZ (zI5 @t0 @t1 @tF @t10 @t11) ?_;refine bA (X:=Nat) (λi=>[(0,.msl b n 1 0 n),(1,.int .i64 a),(10,.int .i64 (i:Nat)),(11,.int .i64 (j:Nat))]) (λi H' nxx=>PartR P a e mu i j M/\H'=ap H b (M.map f)/\nx=nxx) (λi=>j+1-i) i ⟨hpt,rfl,rfl⟩ (have zz:=aI @t0 (aI @t1 (aI @tF (aI @t10 @t11)));agZ) ?_;clear t0 t1 tF t10 t11 hpt i;rintro i H' nxx ⟨hpt,rfl,rfl⟩;have hlo:=hpt.lo;have hmid:=hpt.mid;have hhi:=hpt.hi;have ii:((i:Nat):Int)+1=((i+1:Nat):Int):=by omega
  by_cases hij:j<i
  ·refine wkZ and_self ?_;exact⟨i,hpt,λh=>absurd h (by omega),rfl,rfl,rfl,rfl,rfl,rfl,rfl⟩
  have lc:=hc.run (M.getD (i) default) (M.getD (a) default) (hGM _ (aP (by omega))) (hGM _ (aP (by omega)));have e1:=hc.dat (M.getD (i) default);have e2:=hc.dat (M.getD (a) default);have hPk:P (M.getD (i) default)↔K (M.getD (i) default) (M.getD (a) default)<0:=by rw[hP,hv]
  generalize hKK:K (M.getD (i) default) (M.getD (a) default)=kk at lc hPk;by_cases hlt:kk<0
  ·refine wkZ (zI4 @ii @bN hc.cells hc.one) ?_;exact⟨i+1,by omega,⟨hpt.stepUp (by omega) (by rw[hPk];exact hlt),rfl,rfl⟩,ag0⟩
  ·refine wkZ (zI4 @ii @bN hc.cells hc.one) ?_;exact⟨i,hpt,λ_=>(by rw[hPk];first|exact hlt|exact λh=>h hlt),rfl,rfl,rfl,rfl,rfl,rfl,rfl⟩
 clear t0 t1 tF t10 t11 hpt i;rintro T _ _ ⟨i,hpt,hni,t0,t1,tF,t10,t11,rfl,rfl⟩;refine bn (λT H'' nx''=>∃j:Nat,PartR P a e mu i j M/\(i<=j->¬P (M.getD i default))/\(i<=j->P (M.getD j default))/\T 0=.msl b n 1 0 n/\T 1=.int .i64 a/\n=n/\T 10=.int .i64 (i:Nat)/\T 11=.int .i64 (j:Nat)/\H''=ap H b ((M).map f)/\nx=nx'') ?_ ?_
 ·refine wnZ (zI5 @t0 @t1 @tF @t10 @t11) ?_;refine bA (X:=Nat) (λj=>[(0,.msl b n 1 0 n),(1,.int .i64 a),(10,.int .i64 (i:Nat)),(11,.int .i64 (j:Nat))]) (λj H' nxx=>PartR P a e mu i j M/\(i<=j->¬P (M.getD i default))/\H'=ap H b (M.map f)/\nx=nxx) (λj=>j) j ⟨hpt,hni,rfl,rfl⟩ (have zz:=aI @t0 (aI @t1 (aI @tF (aI @t10 @t11)));agZ) ?_;clear t0 t1 tF t10 t11 hpt hni j;rintro j H' nxx ⟨hpt,hni,rfl,rfl⟩;have hlo:=hpt.lo;have hmid:=hpt.mid;have hhi:=hpt.hi;by_cases hij:j<i
  ·refine wkZ and_self ?_;exact⟨j,hpt,hni,λh=>absurd h (by omega),rfl,rfl,rfl,rfl,rfl,rfl,rfl⟩
  obtain⟨k,rfl⟩:∃k,j=k+1:=⟨j-1,by omega⟩
  have tk:((k+1:Nat):Int)-1=(k:Int):=by omega
  have lc:=hc.run (M.getD (k+1) default) (M.getD (a) default) (hGM _ (aP (by omega))) (hGM _ (aP (by omega)));have e1:=hc.dat (M.getD (k+1) default);have e2:=hc.dat (M.getD (a) default);have hPk:P (M.getD (k+1) default)↔K (M.getD (k+1) default) (M.getD (a) default)<0:=by rw[hP,hv]
  generalize hKK:K (M.getD (k+1) default) (M.getD (a) default)=kk at lc hPk;by_cases hlt:kk<0
  ·refine wkZ (zI4 @tk @bN hc.cells hc.one) ?_;exact⟨k+1,hpt,hni,λ_=>(by rw[hPk];exact hlt),rfl,rfl,rfl,rfl,rfl,rfl,rfl⟩
  ·refine wkZ (zI4 @tk @bN hc.cells hc.one) ?_;exact⟨k,by omega,⟨hpt.stepDn (by omega) (by rw[hPk];first|exact hlt|exact λh=>h hlt),λ_=>hni (by omega),rfl,rfl⟩,ag0⟩
 clear t0 t1 tF t10 t11 hpt hni j;rintro T _ _ ⟨j,hpt,hni,hnj,t0,t1,tF,t10,t11,rfl,rfl⟩;have hlo:=hpt.lo;have hmid:=hpt.mid;have hhi:=hpt.hi;by_cases hji:j<i
 ·clear hni hnj;obtain⟨z1,z2,z3,z4⟩:=hpt.done hc.ord (by omega) hji hv hP;obtain⟨M1,hl1,lm1,lm2⟩:=bV (f:=f) (M:=M) (i:=j) (j:=a) (by omega) (by omega);have lm3:=lm2;simp only[br,bC,dp,bS] at lm1 lm2;refine wnZ (dV @t0 @t1 @tF @t10 @t11 @bN hc.cells hc.one @lm1 @lm2) ?_;exact⟨rfl,swp M j a,j,false,rfl,z1,z2,by rw[aC,aC,lm3],hp.trans (PermR.swap (by omega) (by omega) (by omega)),z3,z4⟩
 obtain⟨k,rfl⟩:∃k,j=k+1:=⟨j-1,by omega⟩
 have tk:((k+1:Nat):Int)-1=(k:Int):=by omega
 have ii:((i:Nat):Int)+1=((i+1:Nat):Int):=by omega
 obtain⟨M1,hl1,lm1,lm2⟩:=bV (f:=f) (M:=M) (i:=i) (j:=k+1) (by omega) (by omega);have lm3:=lm2;simp only[br,bC,dp,bS] at lm1 lm2;have zz:=aI @t0 (aI @t1 (aI @tF (aI @t10 (aI @t11 (aI @tk (aI @ii (aI @bN (aI hc.cells (aI hc.one (aI @lm1 @lm2))))))))));repeat' (first|refine zW ?_|apply a_n|refine zO ?_|refine vZ ?_|refine stZ ?_|(refine zGZ ?_ ?_<;>(intro _hg;try (exfalso;omega)))|fail)
 obtain⟨hq1,hq2⟩:=hpt.swap (by omega) (by omega) (hni (by omega)) (hnj (by omega));exact⟨(i+1,k,swp M i (k+1)),hq2,⟨hq1,by dsimp only;rw[aC,aC,lm3],rfl,hp.trans (PermR.swap (by omega) (by omega) (by omega)),by dsimp only;rw[ku (by omega) (by omega) (by omega) (by omega)];exact hv⟩,(have zz:=aI @t0 (aI @t1 (aI @tF (aI @t10 @t11)));agZ)⟩
end
section
variable{α:Type}[Inhabited α]{f:α->AV}{K:α->α->Int}{G:α->Prop}
theorem GN(hc:CmpO Tryz.prog f K G){L:List α}{H:Hp}{b nx n a e:Nat}(hH:H b=some (L.map f))(hbx:b<nx)(hn:L.length=n)(hae:a+8<=e)(hen:e<=n)(hn2:n<=1000000000):
    Abs.Fn Tryz.prog 191 [.msl b n 1 0 n,.int .i64 a,.int .i64 e] H nx λr H' nx'=>nx'=nx+1/\∃L',H' b=some (L'.map f)/\(∀i,i<nx->i≠b->H' i=H i)/\PermR a e L L':=by
 obtain⟨l,rfl⟩:∃l,e=a+l:=⟨e-a,by omega⟩
 have te:((a+l:Nat):Int)-(a:Int)=(l:Int):=by omega
 obtain⟨w,hw⟩:∃w,a+l/4*2-1=w:=⟨_,rfl⟩
 have tq:bo .quo false false (.int .i64 (l:Int)) (.int .i64 4)=some (.int .i64 ((l/4:Nat):Int)):=by
  rw[iQ (by omega) (by omega) (by omega)]
  congr 2
 have w1:(a:Int)+((l/4:Nat):Int)*2-1=(w:Int):=by omega
 have w2:(a:Int)+((l/4:Nat):Int)*2+1=((w+2:Nat):Int):=by omega
 have hbn:b≠nx:=by omega
 have wl:IntKind.wrap .u64 (l:Int)=l:=ff (by omega) (by omega);refine fO LC ?_;simp only[MX,aG];have ls:∀x y:AV,br [x] 0 [y]=[y]:=λ_ _=>rfl;simp only[br,bC,dp,bS] at ls;refine wnZ (zI3 @te @wl @ls) ?_;refine aO ev0 ev0 (EF (x:=l) (by omega) (by omega)) ?_;rintro _ _ _ ⟨rfl,rfl,k,rfl,hk1,hk2⟩;obtain⟨p,hp⟩:∃p,2^k=p+1:=⟨2^k-1,by omega⟩
 rw[hp] at hk1 hk2 |-;refine wnZ (zI3 @te @tq @w1) ?_;have wm:IntKind.wrap .u64 (((p+1:Nat):Int)-1)=(p:Int):=by rw[ff (by omega) (by omega)];omega
 refine bA (X:=Nat×List α) (λx=>[(0,.msl b n 1 0 n),(1,.int .i64 a),(6,.int .i64 l),(7,.ptr nx 1 0),(8,.int .u64 ((p+1:Nat):Int)),(9,.int .i64 (x.1:Nat))]) (λx H' nxx=>w<=x.1/\x.1<=w+3/\H' b=some (x.2.map f)/\(∃s,H' nx=some [.int .u64 s])/\(∀i,i<nx->i≠b->H' i=H i)/\nxx=nx+1/\PermR a (a+l) L x.2) (λx=>w+3-x.1) (w,L) ⟨aN _,by dsimp only;omega,by dsimp only;rw[ac hbn];first|exact hH|(rw[ac hbn];exact hH),⟨_,ae⟩,λi h1 h2=>by rw[ac (by omega)];first|rfl|exact ac (by omega),rfl,.refl⟩ (by simp (disch:=omega) only[agr,ZG,reduceEqDiff,↓reduceIte,bC,dp,bS,true_and]) ?_;rintro⟨i,M⟩ H1 nxx ⟨h1,h2,hb1,⟨s,hs⟩,hfr,rfl,hp1⟩;dsimp only at *;have hl:M.length=n:=by rw[hp1.len,hn]
 by_cases hi:i=w+3
 ·subst hi;refine wnZ (aI @tq @w2) ?_;exact⟨rfl,M,hb1,hfr,hp1⟩
 have ti:((i:Nat):Int)+1=((i+1:Nat):Int):=by omega
 refine wnZ (aI @tq @w2) ?_;refine aO ev0 ev0 (Fe hs) ?_;rintro _ _ _ ⟨rfl,s1,rfl,rfl⟩;obtain⟨r,hr1,hr2⟩:=zX (a:=s1) (m:=p) (by omega);obtain⟨H2,hH2⟩:∃H2,ap H1 nx [.int .u64 s1]=H2:=⟨_,rfl⟩
 have hb2:H2 b=some (M.map f):=by rw[<-hH2,ac hbn];exact hb1
 have hs2:H2 nx=some [.int .u64 s1]:=by rw[<-hH2];exact ae
 have hfr2:∀i,i<nx->i≠b->H2 i=H i:=λi k1 k2=>by rw[<-hH2,ac (by omega)];exact hfr i k1 k2
 rw[hH2];clear hH2 hb1 hs hfr
 obtain⟨z,hz,hzl⟩:∃z:Nat,(if l<=r then(r:Int)-l else(r:Int))=(z:Int)/\z<l:=by
  split
  ·exact⟨r-l,by omega,by omega⟩
  ·exact⟨r,rfl,by omega⟩
 obtain⟨M1,hl1,lm1,lm2⟩:=bV (f:=f) (M:=M) (i:=i) (j:=a+z) (by omega) (by omega);have lm3:=lm2;simp only[br,bC,dp,bS] at lm1 lm2;by_cases hrl:l<=r
 ·rw[if_pos hrl] at hz;refine wnZ (dV @wm @hr1 @hz @hb2 @ti @du hc.cells hc.one @lm1 @lm2) ?_;exact⟨(i+1,swp M i (a+z)),by dsimp only;omega,⟨by dsimp only;omega,by dsimp only;omega,by dsimp only;rw[aC,lm3,ae],⟨s1,by rw[aC,ac (Ne.symm hbn)];exact hs2⟩,λi k1 k2=>by rw[aC,ac k2];exact hfr2 i k1 k2,rfl,hp1.trans (PermR.swap (by omega) (by omega) (by omega))⟩,ag0⟩
 ·rw[if_neg hrl] at hz;have hz':r=z:=by omega
  subst hz';refine wnZ (zI9 @wm @hr1 @hb2 @ti @du hc.cells hc.one @lm1 @lm2) ?_;exact⟨(i+1,swp M i (a+r)),by dsimp only;omega,⟨by dsimp only;omega,by dsimp only;omega,by dsimp only;rw[aC,lm3,ae],⟨s1,by rw[aC,ac (Ne.symm hbn)];exact hs2⟩,λi k1 k2=>by rw[aC,ac k2];exact hfr2 i k1 k2,rfl,hp1.trans (PermR.swap (by omega) (by omega) (by omega))⟩,ag0⟩
end
section
variable{α:Type}[Inhabited α]{f:α->AV}{K:α->α->Int}{G:α->Prop}
theorem MW(hc:CmpO Tryz.prog f K G){b n:Nat}(hn2:n<=1000000000):∀(sz a e lim:Nat)(L:List α)(H:Hp)(nx:Nat),e-a<sz->H b=some (L.map f)->b<nx->L.length=n->(∀x∈L,G x)->a<=e->e<=n->lim<=64->ry K a e L->
    Abs.Fn Tryz.prog 164 [.msl b n 1 0 n,.int .i64 a,.int .i64 e,.int .i64 lim] H nx λr H' nx'=>∃L',PS H H' nx nx' b (L'.map f)/\PermR a e L L'/\bh K a e L':=by
 intro sz
 induction sz with
 |zero=>intro a e lim L H nx h;omega
 |succ sz ih=>
 intro a e lim L H nx hsz hH hbx hn hG hae hen hlim hlow;refine fO It ?_;simp only[JM,aG];refine wnZ and_self ?_;refine bA (X:=Nat×Nat×Nat×Bool×Bool×List α) (λx=>[(0,.msl b n 1 0 n),(1,.int .i64 (x.1:Nat)),(2,.int .i64 (x.2.1:Nat)),(3,.int .i64 (x.2.2.1:Nat)),(8,.bool x.2.2.2.1),(9,.bool x.2.2.2.2.1)]) (λx H' nxx=>PI K a e L x.1 x.2.1 x.2.2.2.2.2/\PS H H' nx nxx b (x.2.2.2.2.2.map f)/\x.2.2.1<=64) (λx=>x.2.1-x.1) (a,e,lim,true,true,L) ⟨.start hae (by rw[hn];exact hen) hlow,⟨hH,λ_ _ _=>rfl,aN _⟩,hlim⟩ ag0 ?_;clear hlim hlow lim;rintro⟨a1,e1,lim,wb,wp,M⟩ H1 n1 ⟨hpi,hps,hlim⟩;dsimp only at *;have hlo:=hpi.lo;have hmid:=hpi.mid;have hhi:=hpi.hi;obtain⟨l,hl0⟩:∃l,e1-a1=l:=⟨_,rfl⟩
 rw[hl0];have te:(e1:Int)-(a1:Int)=(l:Int):=by omega
 have hlen:∀M:List α,PI K a e L a1 e1 M->M.length=n:=λM h=>by rw[h.perm.len,hn]
 have hGA:∀M:List α,PI K a e L a1 e1 M->∀x∈M,G x:=λM h=>h.perm.mem hG;have hbn:∀(M:List α)(H1:Hp)(n1:Nat),PS H H1 nx n1 b (M.map f)->b<n1:=λM H1 n1 h=>by have:=h.le;omega
 obtain⟨T,hT,t0,t1,t2,t3,tF,t8,t9⟩:∃T,tl [(0,.msl b n 1 0 n),(1,.int .i64 (a1:Nat)),(2,.int .i64 (e1:Nat)),(3,.int .i64 (lim:Nat)),(8,.bool wb),(9,.bool wp)]=T/\T 0=.msl b n 1 0 n/\T 1=.int .i64 (a1:Nat)/\T 2=.int .i64 (e1:Nat)/\T 3=.int .i64 (lim:Nat)/\n=n/\T 8=.bool wb/\T 9=.bool wp:=⟨_,rfl,rfl,rfl,rfl,rfl,rfl,rfl,rfl⟩
 rw[hT];clear hT;refine fQ ?_;refine bn (λT H'' nx''=>T 0=.msl b n 1 0 n/\T 1=.int .i64 (a1:Nat)/\T 2=.int .i64 (e1:Nat)/\T 3=.int .i64 (lim:Nat)/\n=n/\T 8=.bool wb/\T 9=.bool wp/\T 10=.int .i64 (l:Nat)/\H1=H''/\n1=nx'') ?_ ?_
 ·refine wnZ (zI8 @t0 @t1 @t2 @t3 @tF @t8 @t9 @te) ?_;exact⟨(have zz:=@t0;evZ),(have zz:=@t1;evZ),(have zz:=@t2;evZ),(have zz:=@t3;evZ),(have zz:=@tF;evZ),(have zz:=@t8;evZ),(have zz:=@t9;evZ),ev0,rfl,rfl⟩
 clear t0 t1 t2 t3 tF t8 t9;rintro T _ _ ⟨t0,t1,t2,t3,tF,t8,t9,t10,rfl,rfl⟩;refine bn (λT H'' nx''=>T 0=.msl b n 1 0 n/\T 1=.int .i64 (a1:Nat)/\T 2=.int .i64 (e1:Nat)/\T 3=.int .i64 (lim:Nat)/\n=n/\T 8=.bool wb/\T 9=.bool wp/\T 10=.int .i64 (l:Nat)/\13<=l/\H1=H''/\n1=nx'') ?_ ?_
 ·by_cases h12:l<=12
  ·refine wnZ (zI8 @t0 @t1 @t2 @t3 @tF @t8 @t9 @t10) ?_;refine aO ev0 (have zz:=aI @t0 (aI @t1 (aI @t2 (aI @t3 (aI @tF (aI @t8 (aI @t9 @t10))))));evZ) (Ir hc (b:=b) hps.at_ (hlen _ hpi) (hGA _ hpi) (a:=a1) (e:=e1) hmid (by omega) hn2) ?_;rintro _ _ _ ⟨rfl,N,rfl,hpN,hsN⟩;refine wnZ and_self ?_;exact⟨N,hps.upd,hpi.done hpN hsN⟩
  ·refine wnZ (zI8 @t0 @t1 @t2 @t3 @tF @t8 @t9 @t10) ?_;exact⟨(have zz:=@t0;evZ),(have zz:=@t1;evZ),(have zz:=@t2;evZ),(have zz:=@t3;evZ),(have zz:=@tF;evZ),(have zz:=@t8;evZ),(have zz:=@t9;evZ),(have zz:=@t10;evZ),by omega,rfl,rfl⟩
 clear t0 t1 t2 t3 tF t8 t9 t10;rintro T _ _ ⟨t0,t1,t2,t3,tF,t8,t9,t10,h13,rfl,rfl⟩;refine bn (λT H'' nx''=>T 0=.msl b n 1 0 n/\T 1=.int .i64 (a1:Nat)/\T 2=.int .i64 (e1:Nat)/\T 3=.int .i64 (lim:Nat)/\n=n/\T 8=.bool wb/\T 9=.bool wp/\T 10=.int .i64 (l:Nat)/\0<lim/\H1=H''/\n1=nx'') ?_ ?_
 ·by_cases h12:lim=0
  ·subst h12;have tz:decide (((0:Nat):Int)=0)=true:=rfl;refine wnZ (zI9 @t0 @t1 @t2 @t3 @tF @t8 @t9 @t10 @tz) ?_;refine aO ev0 (have zz:=aI @t0 (aI @t1 (aI @t2 (aI @t3 (aI @tF (aI @t8 (aI @t9 @t10))))));evZ) (J5 hc (b:=b) hps.at_ (hlen _ hpi) (hGA _ hpi) (a:=a1) (e:=e1) hmid (by omega) hn2) ?_;rintro _ _ _ ⟨rfl,N,rfl,hpN,hsN⟩;refine wnZ and_self ?_;exact⟨N,hps.upd,hpi.done hpN hsN⟩
  ·have tz:decide ((lim:Int)=0)=false:=aW (by omega);refine wnZ (zI9 @t0 @t1 @t2 @t3 @tF @t8 @t9 @t10 @tz) ?_;exact⟨(have zz:=@t0;evZ),(have zz:=@t1;evZ),(have zz:=@t2;evZ),(have zz:=@t3;evZ),(have zz:=@tF;evZ),(have zz:=@t8;evZ),(have zz:=@t9;evZ),(have zz:=@t10;evZ),by omega,rfl,rfl⟩
 clear t0 t1 t2 t3 tF t8 t9 t10;rintro T _ _ ⟨t0,t1,t2,t3,tF,t8,t9,t10,hlim1,rfl,rfl⟩;refine bn (λT H'' nx''=>∃(lim:Nat)(M:List α),lim<=64/\PI K a e L a1 e1 M/\PS H H'' nx nx'' b (M.map f)/\T 0=.msl b n 1 0 n/\T 1=.int .i64 (a1:Nat)/\T 2=.int .i64 (e1:Nat)/\T 3=.int .i64 (lim:Nat)/\n=n/\T 8=.bool wb/\T 9=.bool wp/\T 10=.int .i64 (l:Nat)) ?_ ?_
 ·cases wb
  ·obtain⟨k,rfl⟩:∃k,lim=k+1:=⟨lim-1,by omega⟩
   have tk:((k+1:Nat):Int)-1=(k:Int):=by omega
   refine wnZ (zI8 @t0 @t1 @t2 @t3 @tF @t8 @t9 @t10) ?_;refine aO ev0 (have zz:=aI @t0 (aI @t1 (aI @t2 (aI @t3 (aI @tF (aI @t8 (aI @t9 @t10))))));evZ) (GN hc (b:=b) hps.at_ (hbn _ _ _ hps) (hlen _ hpi) (a:=a1) (e:=e1) (by omega) (by omega) hn2) ?_;rintro _ _ _ ⟨rfl,N,hN1,hN2,hpN⟩;refine wnZ (zI9 @t0 @t1 @t2 @t3 @tF @t8 @t9 @t10 @tk) ?_;exact⟨k,N,by omega,hpi.swap hpN,hps.rec_ hN1 hN2 (Nat.le_succ _),(have zz:=@t0;evZ),(have zz:=@t1;evZ),(have zz:=@t2;evZ),(have zz:=@t3;evZ),(have zz:=@tF;evZ),(have zz:=@t8;evZ),(have zz:=@t9;evZ),(have zz:=@t10;evZ)⟩
  ·refine wnZ (zI8 @t0 @t1 @t2 @t3 @tF @t8 @t9 @t10) ?_;exact⟨lim,M,hlim,hpi,hps,(have zz:=@t0;evZ),(have zz:=@t1;evZ),(have zz:=@t2;evZ),(have zz:=@t3;evZ),(have zz:=@tF;evZ),(have zz:=@t8;evZ),(have zz:=@t9;evZ),(have zz:=@t10;evZ)⟩
 clear t0 t1 t2 t3 tF t8 t9 t10 hpi hps hlim hlim1;rintro T H1 n1 ⟨lim,M,hlim,hpi,hps,t0,t1,t2,t3,tF,t8,t9,t10⟩;refine bn (λT H'' nx''=>∃(p:Nat)(hint:Int),a1<=p/\p<e1/\PS H H'' nx nx'' b (M.map f)/\T 0=.msl b n 1 0 n/\T 1=.int .i64 (a1:Nat)/\T 2=.int .i64 (e1:Nat)/\T 3=.int .i64 (lim:Nat)/\n=n/\T 8=.bool wb/\T 9=.bool wp/\T 10=.int .i64 (l:Nat)/\T 11=.int .i64 (p:Nat)/\T 12=.int .i64 hint) ?_ ?_
 ·refine wnZ (zI8 @t0 @t1 @t2 @t3 @tF @t8 @t9 @t10) ?_;refine aO ev0 (have zz:=aI @t0 (aI @t1 (aI @t2 (aI @t3 (aI @tF (aI @t8 (aI @t9 @t10))))));evZ) (FF hc (b:=b) hps.at_ (hbn _ _ _ hps) (hlen _ hpi) (hGA _ hpi) (a:=a1) (e:=e1) (by omega) (by omega) hn2) ?_;rintro _ _ _ ⟨rfl,p,hint,v,rfl,hp1,hp2,rfl⟩;refine wnZ (zI8 @t0 @t1 @t2 @t3 @tF @t8 @t9 @t10) ?_;exact⟨p,hint,hp1,hp2,hps.new hbx,(have zz:=@t0;evZ),(have zz:=@t1;evZ),(have zz:=@t2;evZ),(have zz:=@t3;evZ),(have zz:=@tF;evZ),(have zz:=@t8;evZ),(have zz:=@t9;evZ),(have zz:=@t10;evZ),ev0,ev0⟩
 clear t0 t1 t2 t3 tF t8 t9 t10 hps;rintro T H1 n1 ⟨p,hint,hp1,hp2,hps,t0,t1,t2,t3,tF,t8,t9,t10,t11,t12⟩;refine bn (λT H'' nx''=>∃(p:Nat)(hint:Int)(M:List α),a1<=p/\p<e1/\PI K a e L a1 e1 M/\PS H H'' nx nx'' b (M.map f)/\T 0=.msl b n 1 0 n/\T 1=.int .i64 (a1:Nat)/\T 2=.int .i64 (e1:Nat)/\T 3=.int .i64 (lim:Nat)/\n=n/\T 8=.bool wb/\T 9=.bool wp/\T 10=.int .i64 (l:Nat)/\T 11=.int .i64 (p:Nat)/\T 12=.int .i64 hint) ?_ ?_
 ·by_cases h2:hint=2
  ·subst h2;obtain⟨p2,hp3⟩:∃p2,e1-1-(p-a1)=p2:=⟨_,rfl⟩
   have tp:(e1:Int)-1-((p:Int)-(a1:Int))=(p2:Int):=by omega
   have tz:decide ((2:Int)=2)=true:=rfl;refine wnZ (aI @t0 (dV @t1 @t2 @t3 @tF @t8 @t9 @t10 @t11 @t12 @tz)) ?_;refine aO ev0 (have zz:=aI @t0 (aI @t1 (aI @t2 (aI @t3 (aI @tF (aI @t8 (aI @t9 @t10))))));evZ) (Np hc (b:=b) hps.at_ (hlen _ hpi) (a:=a1) (e:=e1) (by omega) (by omega) hn2) ?_;rintro _ _ _ ⟨rfl,N,rfl,hpN⟩;refine wnZ (aI @t0 (dV @t1 @t2 @t3 @tF @t8 @t9 @t10 @t11 @t12 @tp)) ?_;exact⟨p2,1,N,by omega,by omega,hpi.swap hpN,hps.upd,(have zz:=@t0;evZ),(have zz:=@t1;evZ),(have zz:=@t2;evZ),(have zz:=@t3;evZ),(have zz:=@tF;evZ),(have zz:=@t8;evZ),(have zz:=@t9;evZ),(have zz:=@t10;evZ),ev0,ev0⟩
  ·have tz:decide (hint=2)=false:=aW h2;refine wnZ (aI @t0 (dV @t1 @t2 @t3 @tF @t8 @t9 @t10 @t11 @t12 @tz)) ?_;exact⟨p,hint,M,hp1,hp2,hpi,hps,(have zz:=@t0;evZ),(have zz:=@t1;evZ),(have zz:=@t2;evZ),(have zz:=@t3;evZ),(have zz:=@tF;evZ),(have zz:=@t8;evZ),(have zz:=@t9;evZ),(have zz:=@t10;evZ),(have zz:=@t11;evZ),(have zz:=@t12;evZ)⟩
 clear t0 t1 t2 t3 tF t8 t9 t10 t11 t12 hps hpi hp1 hp2;rintro T H1 n1 ⟨p,hint,M,hp1,hp2,hpi,hps,t0,t1,t2,t3,tF,t8,t9,t10,t11,t12⟩;refine bn (λT H'' nx''=>∃(M:List α),PI K a e L a1 e1 M/\PS H H'' nx nx'' b (M.map f)/\T 0=.msl b n 1 0 n/\T 1=.int .i64 (a1:Nat)/\T 2=.int .i64 (e1:Nat)/\T 3=.int .i64 (lim:Nat)/\n=n/\T 8=.bool wb/\T 9=.bool wp/\T 10=.int .i64 (l:Nat)/\T 11=.int .i64 (p:Nat)) ?_ ?_
 ·cases wb
  ·cases wp
   ·refine wnZ (dV @t0 @t1 @t2 @t3 @tF @t8 @t9 @t10 @t11 @t12) ?_;exact⟨M,hpi,hps,(have zz:=@t0;evZ),(have zz:=@t1;evZ),(have zz:=@t2;evZ),(have zz:=@t3;evZ),(have zz:=@tF;evZ),(have zz:=@t8;evZ),(have zz:=@t9;evZ),(have zz:=@t10;evZ),(have zz:=@t11;evZ)⟩
   ·refine wnZ (dV @t0 @t1 @t2 @t3 @tF @t8 @t9 @t10 @t11 @t12) ?_;exact⟨M,hpi,hps,(have zz:=@t0;evZ),(have zz:=@t1;evZ),(have zz:=@t2;evZ),(have zz:=@t3;evZ),(have zz:=@tF;evZ),(have zz:=@t8;evZ),(have zz:=@t9;evZ),(have zz:=@t10;evZ),(have zz:=@t11;evZ)⟩
  ·cases wp
   ·refine wnZ (dV @t0 @t1 @t2 @t3 @tF @t8 @t9 @t10 @t11 @t12) ?_;exact⟨M,hpi,hps,(have zz:=@t0;evZ),(have zz:=@t1;evZ),(have zz:=@t2;evZ),(have zz:=@t3;evZ),(have zz:=@tF;evZ),(have zz:=@t8;evZ),(have zz:=@t9;evZ),(have zz:=@t10;evZ),(have zz:=@t11;evZ)⟩
   ·by_cases h1:hint=1
    ·subst h1;have tz:decide ((1:Int)=1)=true:=rfl;refine wnZ (aI @t0 (dV @t1 @t2 @t3 @tF @t8 @t9 @t10 @t11 @t12 @tz)) ?_;refine aO ev0 (have zz:=aI @t0 (aI @t1 (aI @t2 (aI @t3 (aI @tF (aI @t8 (aI @t9 @t10))))));evZ) (CD hc (b:=b) hps.at_ (hlen _ hpi) (hGA _ hpi) (a:=a1) (e:=e1) (by omega) (by omega) hn2 hpi.low) ?_;rintro _ _ _ ⟨rfl,N,t,rfl,rfl,hpN,hsN⟩;cases t
     ·refine wnZ (dV @t0 @t1 @t2 @t3 @tF @t8 @t9 @t10 @t11 @t12) ?_;exact⟨N,hpi.swap hpN,hps.upd,(have zz:=@t0;evZ),(have zz:=@t1;evZ),(have zz:=@t2;evZ),(have zz:=@t3;evZ),(have zz:=@tF;evZ),(have zz:=@t8;evZ),(have zz:=@t9;evZ),(have zz:=@t10;evZ),(have zz:=@t11;evZ)⟩
     ·refine wnZ (dV @t0 @t1 @t2 @t3 @tF @t8 @t9 @t10 @t11 @t12) ?_;exact⟨N,hps.upd,hpi.done hpN (hsN rfl)⟩
    ·have tz:decide (hint=1)=false:=aW h1;refine wnZ (aI @t0 (dV @t1 @t2 @t3 @tF @t8 @t9 @t10 @t11 @t12 @tz)) ?_;exact⟨M,hpi,hps,(have zz:=@t0;evZ),(have zz:=@t1;evZ),(have zz:=@t2;evZ),(have zz:=@t3;evZ),(have zz:=@tF;evZ),(have zz:=@t8;evZ),(have zz:=@t9;evZ),(have zz:=@t10;evZ),(have zz:=@t11;evZ)⟩
 clear t0 t1 t2 t3 tF t8 t9 t10 t11 t12 hps hpi hint;rintro T H1 n1 ⟨M,hpi,hps,t0,t1,t2,t3,tF,t8,t9,t10,t11⟩;have hbb:=hps.at_;have hl:=hlen _ hpi;have hGM:=hGA _ hpi;refine bn (λT H'' nx''=>T 0=.msl b n 1 0 n/\T 1=.int .i64 (a1:Nat)/\T 2=.int .i64 (e1:Nat)/\T 3=.int .i64 (lim:Nat)/\n=n/\T 8=.bool wb/\T 9=.bool wp/\T 10=.int .i64 (l:Nat)/\T 11=.int .i64 (p:Nat)/\H1=H''/\n1=nx'') ?_ ?_
 ·by_cases ha0:a1=0
  ·have tz:decide ((0:Int)<(a1:Int))=false:=aW (by omega);refine wkZ (dV @t0 @t1 @t2 @t3 @tF @t8 @t9 @t10 @t11 @tz) ?_;exact⟨(have zz:=@t0;evZ),(have zz:=@t1;evZ),(have zz:=@t2;evZ),(have zz:=@t3;evZ),(have zz:=@tF;evZ),(have zz:=@t8;evZ),(have zz:=@t9;evZ),(have zz:=@t10;evZ),(have zz:=@t11;evZ),rfl,rfl⟩
  have tz:decide ((0:Int)<(a1:Int))=true:=aZ (by omega);obtain⟨k,hk⟩:∃k,a1-1=k:=⟨_,rfl⟩
  have tk:(a1:Int)-1=(k:Int):=by omega
  have lc:=hc.run (M.getD k default) (M.getD p default) (hGM _ (aP (by omega))) (hGM _ (aP (by omega)));have d1:=hc.dat (M.getD k default);have d2:=hc.dat (M.getD p default);generalize hKK:K (M.getD k default) (M.getD p default)=kk at lc;by_cases hlt:kk<0
  ·refine wkZ (aI @t0 (aI @t1 (aI @t2 (aI @t3 (aI @tF (dV @t8 @t9 @t10 @t11 @tz @tk @hbb @bN hc.cells hc.one)))))) ?_;exact⟨(have zz:=@t0;evZ),(have zz:=@t1;evZ),(have zz:=@t2;evZ),(have zz:=@t3;evZ),(have zz:=@tF;evZ),(have zz:=@t8;evZ),(have zz:=@t9;evZ),(have zz:=@t10;evZ),(have zz:=@t11;evZ),rfl,rfl⟩
  ·refine wkZ (aI @t0 (aI @t1 (aI @t2 (aI @t3 (aI @tF (dV @t8 @t9 @t10 @t11 @tz @tk @hbb @bN hc.cells hc.one)))))) ?_;refine aO ev0 (have zz:=aI @t0 (aI @t1 (aI @t2 (aI @t3 (aI @tF (aI @t8 (aI @t9 (aI @t10 @t11)))))));evZ) (FC hc (b:=b) hps.at_ (hlen _ hpi) (hGA _ hpi) (a:=a1) (e:=e1) (pv:=p) (by omega) (by omega) hn2 ⟨hp1,hp2⟩) ?_;rintro _ _ _ ⟨rfl,N,m,rfl,hm1,hm2,rfl,hpN,q1,q2⟩;refine wnZ (zI9 @t0 @t1 @t2 @t3 @tF @t8 @t9 @t10 @t11) ?_;exact⟨(m,e1,lim,wb,wp,N),by dsimp only;omega,⟨hpi.equal hc.ord hpN (by rw[hk,hKK];exact hlt) (by omega) ⟨hm1,hm2⟩ q1 q2,hps.upd,hlim⟩,(have zz:=aI @t0 (aI @t1 (aI @t2 (aI @t3 (aI @tF (aI @t8 (aI @t9 @t10))))));agZ)⟩
 clear t0 t1 t2 t3 tF t8 t9 t10 t11;rintro T _ _ ⟨t0,t1,t2,t3,tF,t8,t9,t10,t11,rfl,rfl⟩;refine bn (λT H'' nx''=>∃(M:List α)(m:Nat)(t:Bool),PI K a e L a1 e1 M/\TwoS K a1 e1 m M/\PS H H'' nx nx'' b (M.map f)/\T 0=.msl b n 1 0 n/\T 1=.int .i64 (a1:Nat)/\T 2=.int .i64 (e1:Nat)/\T 3=.int .i64 (lim:Nat)/\n=n/\T 8=.bool wb/\T 9=.bool wp/\T 10=.int .i64 (l:Nat)/\T 14=.int .i64 (m:Nat)/\T 15=.bool t) ?_ ?_
 ·refine wnZ (zI9 @t0 @t1 @t2 @t3 @tF @t8 @t9 @t10 @t11) ?_;refine aO ev0 (have zz:=aI @t0 (aI @t1 (aI @t2 (aI @t3 (aI @tF (aI @t8 (aI @t9 (aI @t10 @t11)))))));evZ) (JE hc (b:=b) hps.at_ (hlen _ hpi) (hGA _ hpi) (a:=a1) (e:=e1) (pv:=p) (by omega) (by omega) hn2 ⟨hp1,hp2⟩) ?_;rintro _ _ _ ⟨rfl,N,m,t,rfl,hm1,hm2,rfl,hpN,q1,q2⟩;refine wnZ (zI9 @t0 @t1 @t2 @t3 @tF @t8 @t9 @t10 @t11) ?_;exact⟨N,m,t,hpi.swap hpN,⟨⟨hm1,hm2⟩,λp k1 k2=>hc.ord.asym _ _ (q1 p k1 k2),q2⟩,hps.upd,(have zz:=@t0;evZ),(have zz:=@t1;evZ),(have zz:=@t2;evZ),(have zz:=@t3;evZ),(have zz:=@tF;evZ),(have zz:=@t8;evZ),(have zz:=@t9;evZ),(have zz:=@t10;evZ),ev0,ev0⟩
 clear t0 t1 t2 t3 tF t8 t9 t10 t11 hbb hl hGM hpi hps hp1 hp2 p;rintro T H1 n1 ⟨M,m,t,hpi,hts,hps,t0,t1,t2,t3,tF,t8,t9,t10,t14,t15⟩;have hm:=hts.mid;have hl:=hlen _ hpi
 have tq:bo .quo false false (.int .i64 (l:Int)) (.int .i64 8)=some (.int .i64 ((l/8:Nat):Int)):=by
  rw[iQ (by omega) (by omega) (by omega)]
  congr 2
 have tm:(m:Int)+1=((m+1:Nat):Int):=by omega
 by_cases hlr:(m:Int)-(a1:Int)<(e1:Int)-(m:Int)
 ·have tz:decide ((m:Int)-(a1:Int)<(e1:Int)-(m:Int))=true:=aZ hlr;refine wnZ (aI @t0 (aI @t1 (dV @t2 @t3 @tF @t8 @t9 @t10 @t14 @t15 @tq @tz))) ?_;refine aO ev0 (have zz:=aI @t0 (aI @t1 (aI @t2 (aI @t3 (aI @tF (aI @t8 (aI @t9 (aI @t10 (aI @t14 @t15))))))));evZ) (ih a1 m lim M H1 n1 (by omega) hps.at_ (hbn _ _ _ hps) hl (hGA _ hpi) (by omega) (by omega) hlim (hpi.low.sub rfl (by omega))) ?_;rintro _ H2 n2 ⟨N,hps2,hpN,hsN⟩;refine wnZ (aI @t0 (dV @t1 @t2 @t3 @tF @t8 @t9 @t10 @t14 @t15 @tm)) ?_;exact⟨(m+1,e1,lim,decide (((l/8:Nat):Int)<=(m:Int)-(a1:Int)),t,N),by dsimp only;omega,⟨hpi.left hc.ord hts hpN hsN,hps.rec_ hps2.at_ hps2.fr hps2.le,hlim⟩,(have zz:=aI @t0 (aI @t1 (aI @t2 (aI @t3 (aI @tF (aI @t8 (aI @t9 (aI @t10 (aI @t14 @t15))))))));agZ)⟩
 ·have tz:decide ((m:Int)-(a1:Int)<(e1:Int)-(m:Int))=false:=aW hlr;refine wnZ (aI @t0 (aI @t1 (aI @t2 (dV @t3 @tF @t8 @t9 @t10 @t14 @t15 @tq @tz @tm)))) ?_;refine aO ev0 (have zz:=aI @t0 (aI @t1 (aI @t2 (aI @t3 (aI @tF (aI @t8 (aI @t9 (aI @t10 (aI @t14 @t15))))))));evZ) (ih (m+1) e1 lim M H1 n1 (by omega) hps.at_ (hbn _ _ _ hps) hl (hGA _ hpi) (by omega) (by omega) hlim (λq k0 k1 k2=>by rw[lI];exact hts.ge q k1 k2)) ?_;rintro _ H2 n2 ⟨N,hps2,hpN,hsN⟩;refine wnZ (dV @t0 @t1 @t2 @t3 @tF @t8 @t9 @t10 @t14 @t15) ?_;exact⟨(a1,m,lim,decide (((l/8:Nat):Int)<=(e1:Int)-(m:Int)),t,N),by dsimp only;omega,⟨hpi.right hc.ord hts hpN hsN,hps.rec_ hps2.at_ hps2.fr hps2.le,hlim⟩,(have zz:=aI @t0 (aI @t1 (aI @t2 (aI @t3 (aI @tF (aI @t8 (aI @t9 (aI @t10 (aI @t14 @t15))))))));agZ)⟩
end
theorem Hx{L:List Int}{H:Hp}{b nx n:Nat}(hH:H b=some (L.map λx=>.int .i64 x))(hbx:b<nx)(hn:L.length=n)(hn0:0<n)(hn2:n<=1000000000):
    Abs.Fn Tryz.prog 147 [.msl b n 1 0 n] H nx λr H' nx'=>∃L':List Int,PS H H' nx nx' b (L'.map λx=>.int .i64 x)/\L'.Perm L/\L'.Pairwise (· <= ·):=by
 refine fO Ia ?_;simp only[Jr,aG];have w:IntKind.wrap .u64 (n:Int)=n:=ff (by omega) (by omega);refine wnZ @w ?_;refine aO ev0 (have zz:=@w;evZ) (B4 hn0 (by omega)) ?_;rintro _ _ _ ⟨rfl,rfl,k,rfl,h3,h4⟩
 have hk:k<=62:=by
  rcases oD 62 k with h|h
  ·have:=Nat.pow_le_pow_right (n:=2) (by omega) h;omega
  ·exact h
 refine wnZ and_self ?_;refine aO ev0 (have zz:=@Int.natCast_zero;evZ) (MW KS hn2 (n+1) 0 n k L _ _ (by omega) hH hbx hn (λ_ _=>trivial) (by omega) (aN _) (by omega) (λq h=>by omega)) ?_;rintro _ _ _ ⟨N,hps,hp,hs⟩;refine wnZ and_self ?_;refine⟨N,hps,hp.perm,?_⟩;rw[kp];intro i j hi hj hij;have hl:N.length=n:=by rw[hp.len,hn]
 have:=hs i j (bz _) hij (by omega);simp only[List.getD,hi,hj,qA,sX] at this;omega
end
theorem CX:nA 1000000000:=λa b c d e=>Hx a b c d e
theorem El(c:List Spx)(d:Int)(hl:c.length<=50)(hf:ma c c.length<=400)(hs:∀s∈c,Shn s):∃L e,L.length<=1000/\(∀a∈L,ShC a)/\pU 18 [bQ c,.int .i64 d] (.tup [cJ L,.int .i64 e])/\pU 19 [bQ c,.int .i64 d] (.tup [cJ L,.int .i64 e]):=by
 by_cases he:dE c 0 d=0
 ·obtain⟨hc,h1,h2⟩:=Oa he;obtain⟨n,rfl⟩:∃n:Nat,d=n:=⟨d.toNat,by omega⟩
  have hn:bdN c n<=400:=fc (Gb hc) hf;have a:=uT c n (nA.le CX (by omega)) hc hl (by omega) (by omega);rw[LV hc hl] at a;obtain⟨mK,lK⟩:=s7 (d:=n) hc hl;refine⟨_,_,?_,λx hx=>?_,a,DS c n hc hl (by omega) hn⟩
  ·unfold cyR;rw[bk];have:=Ax (M:=bdM c n) (n:=bdN c n) (K:=bsK c n) (k:=(bsK c n).length);omega
  ·unfold cyR at hx;obtain⟨v,hv,rfl⟩:=bJ.1 hx;have hvK:=uj (aN _) v hv;have:=eu (dW mK v hvK) (jQ mK v hvK);exact Gz (l8 (f0 hc)) (by omega)
 ·exact⟨[],_,bz _,λa ha=>(by cases ha),Dm c d he hl hs,A9 c d he hl hs⟩
section
attribute [local irreducible] aM ak bg aY aR aS aF aV a6 bj Go.Abs.Fn aX Go.Abs.Pure ar aL Yl
theorem Jt(L:List (List Spx))(hL:L.length<=1000000)(ha:∀a∈L,ShC a):pU 56 [cJ L,cJ L,.func 23 []] (.bool true):=by
 refine pO OE ?_;simp only[b56,aG];have z0:decide ((L.length:Int)≠L.length)=false:=aW (λq=>q rfl);refine wnY (aI @z0 @nz) ?_;refine lpI (X:=Nat) (λk=>[(1,cJ L),(2,.func 23 []),(15,cJ L),(16,.int .i64 L.length),(17,.int .i64 k)]) (λk H nx=>k<=L.length) (λk=>L.length-k) 0 (bz _) ?_;rintro k H nx h1;by_cases hk:k<L.length
 ·have ix:=Ll hk;have hs:=Jm _ (ha _ (ay hk));generalize L.getD k default=a at *;refine wnY @ix ?_;exact⟨k+1,by omega,by omega,ag0⟩
 ·obtain rfl:k=L.length:=by omega
  refine wnY and_self ?_;exact .bool _
theorem EA(L:List (List Spx))(hL:L.length<=1000000)(ha:∀a∈L,ShC a):pU 20 [cJ L,cJ L] (.bool true):=by
 refine pO OD ?_;simp only[b20,aG];have h:=Jt L hL ha;refine wnY and_self ?_;exact .bool _
theorem Ba(c:List Spx)(d:Int)(hc:Shn c/\∀s∈c,Shn s):pU 4 [bQ c,.int .i64 d] (.bool true):=by
 refine pO is4 ?_;simp only[b4,aG];have f1:=HJ c [] hc.1 hc.2 (bz _) (λa h=>(by cases h));refine wnY (aI @ai @ah) ?_;refine eb ev0 ev0 f1 (aJ (ag (ct _).snap (ag (.eslsl 1) an)) rfl) ?_;cases e1:sV c []
 ·repeat' (first|refine zW ?_|apply a_n|apply a_r|refine zO ?_|refine vY ?_|refine cY ?_ (hp:=Cj) (hs:=by(first|refine aJ ?_ rfl|apply a7);(repeat' (first|exact an|apply bw|apply a9|exact ct _));first|done|fail)|refine cTY ?_|refine bR rfl ?_|refine r1Y ?_|fail)
  exact .bool _
 obtain⟨-,l1,l2⟩:=CY e1;obtain⟨L,e,hL,ha,s1,s2⟩:=El c d (by omega) l2 hc.2;have s5:=EA L (by omega) ha;have z1:decide (e=e)=true:=aZ rfl;have zz:=aI @ai (aI @ah @z1);repeat' (first|refine zW ?_|apply a_n|refine zO ?_|refine vY ?_|refine cY ?_ (hp:=by first|exact s1|exact s2|exact s5|exact Cj) (hs:=by(first|refine aJ ?_ rfl|apply a7);(repeat' (first|exact an|apply bw|apply a9|exact ct _|exact ia _));first|done|fail)|refine gTY ?_|refine cFY ?_|refine bR rfl ?_|refine r1Y ?_|fail)
 exact .bool _
end
end Go.Proofs.YtekdaafnjdlenaaGreat
namespace Go.Proofs.YtekdaafnjdlenaaGreat
open Go Go.Abs Go.RowKit
section
variable{H:Type}{enc:TypeId×Value->H}{W:World}
theorem oi:fk enc Tryz.prog W 3 (AV.int .i64) (λn=>(Lit.int .i64 n).wf=true):=DJ Tryz.underlying3
set_option maxRecDepth 100000 in
theorem NM:fk enc Tryz.prog W 69 dF (λ_=>True):=
 (oz Tryz.underlying69 (by kernel_rfl) (mJ (off:=0) (off':=1) rfl (by kernel_rfl) oi (mJ (off:=1) (off':=2) rfl (by kernel_rfl) oi ug))).map
  (λa=>(⟨a.1,a.2.1⟩:Vtx)) (λ_ _=>trivial) (λ_ _=>rfl)
theorem oXs:fk enc Tryz.prog W 70 aD Shn:=
 (qU Tryz.underlying70 (sz:=2) (by_:=16) (by kernel_rfl) (by kernel_rfl) (by omega) (λ_=>rfl) NM).mono λl h=>by have:=h.2.2;show _<=_;omega
theorem NU:fk enc Tryz.prog W 22 ao (λl=>Shn l/\∀x∈l,Shn x):=
 (qU Tryz.underlying22 (sz:=1) (by_:=24) (by kernel_rfl) (by kernel_rfl) jb (λ_=>rfl) oXs).mono λl h=>⟨by have:=h.2.2;show _<=_;omega,h.1⟩
set_option maxRecDepth 100000 in
theorem oCx:fk enc Tryz.prog W 24 bQ (λl=>Shn l/\∀x∈l,Shn x):=
 (oz Tryz.underlying24 (by kernel_rfl) (mJ (off:=0) (off':=1) rfl (by kernel_rfl) NU ug)).map
  (λa=>a.1) (by rintro⟨n,u⟩ ⟨h1,_⟩;exact h1) (λ_ _=>rfl)
end
theorem rQ{f:FuncId}{xs:List AV}{vs:List Value}(h:pU f xs (.bool true))(w:World)(hv:dB (E0 (uy w)) w xs vs):
    Calls Tryz.prog f vs.toArray w λe w'=>e=.returned (.bool true)/\Below w.heap.size w w':=by
 refine(h.2 (uy w) w vs (λ_ h=>h) hv).mono ?_;rintro e w' ⟨v,imm',rfl,hb,_,_,_,hr⟩;cases hr;exact⟨rfl,hb⟩
theorem NF:laidOutB Tryz.prog=true:=by kernel_rfl
end Go.Proofs.YtekdaafnjdlenaaGreat
namespace Go.Proofs.YtekdaafnjdlenaaGreat
open Go Go.Abs Go.RowKit Go.ChangeShapes Go.WideShapes Go.ChangeAt
theorem ur{H:Type}{enc:TypeId×Value->H}{P:Program}{f:Func}{s:ChangeSpec}{apart fresh handsOn again:Bool}{W W':World}{args:Array Value}{v:Value}{ds gs:List (DataW H)}{before pa pv:List MemPlace}
    (hW:DataW.Whole enc P f.params.toList s.vars apart W args.toList ds gs before)
    (hres:∀(b:Nat)(sp:Nat->Bool)(hd:Bool),DataW.TrodAll enc P W' b sp hd f.resultTypes.toList (v.resultList f.resultTypes.size) (s.fn H (ds++gs)).results [])
    (hargs:∀sp:Nat->Bool,(∀p∈before,sp p.block=true)->DataW.TrodAll enc P W' 0 sp true f.params.toList args.toList (s.fn H (ds++gs)).args pa)
    (hvars:∀sp:Nat->Bool,(∀p∈before,sp p.block=true)->DataW.TrodVars enc P W' sp s.vars (s.fn H (ds++gs)).vars pv)
    (hps:before=pa++pv) (hb:Below W.heap.size W W')
    (hok:∀(j:Nat)(t:TypeId)(r:Value),f.resultTypes[j]?=some t->(v.resultList f.resultTypes.size)[j]?=some r->Value.okWide P W' .any 0 t r):
    s.post enc P f apart fresh handsOn again W args v W':=by
 have hold:∀p∈before,(λb=>decide (b<W.heap.size)) p.block=true:=λp hp=>by simpa using hW.lt p hp
 have hlt:=λp hp=>hW.lt p hp;refine⟨ds,gs,before,[],pa,pv,hW,hres _ _ _,hargs _ hold,hvars _ hold,World.keptBut_mono (λp hp=>⟨hp,?_⟩) (hb.frame _),λ_=>?_⟩
 ·rw[hps,ee] at hp;exact Or.inr hp
 ·obtain⟨_,_,_,_,_,hz,hn⟩:=hW;refine⟨hok,_,_,([]++pa)++pv,⟨[]++pa,pv,trodAll_append (hargs _ (λ_ _=>rfl)) (hres _ _ _),hvars _ (λ_ _=>rfl),rfl,?_,?_⟩,?_⟩
  ·intro b off hp;have hp':MemPlace.cell b off∈before:=by rw[hps];simpa using hp
   rw[hb.frozen (hlt _ hp')];exact hz b off hp'
  ·intro ha;have:=hn ha;rw[hps] at this;simpa using this
  ·intro p hp _;rw[hps];simpa using hp
theorem Eb{E:Env}{w:World}:dB E w [] []:=⟨rfl,λi x y h=>(by cases h)⟩
theorem vW{E:Env}{w:World}{x:AV}{y:Value}{xs:List AV}{ys:List Value}(h:Rel E w x y)(hs:dB E w xs ys):dB E w (x::xs) (y::ys):=by
 refine⟨by simp[hs.1],λi a b ha hb=>?_⟩;cases i with
 |zero=>simp at ha hb;subst ha hb;exact h
 |succ i=>simp at ha hb;exact hs.2 i a b ha hb
theorem own:ownKnob Tryz.prog.godebug=none:=by kernel_rfl
end Go.Proofs.YtekdaafnjdlenaaGreat
