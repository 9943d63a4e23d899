/- Contracts of functions and plain laws, for all inputs that the theorems name. -/
import Derived.Test.YtekdaafnjdlenaaGreatXG5
import Derived.Test.YtekdaafnjdlenaaGreatXG3
import Derived.Test.YtekdaafnjdlenaaGreatXG4
import Derived.Test.YtekdaafnjdlenaaGreatRows
import Derived.WalkKit
import Derived.ProofKit
import Derived.OpenShut

set_option linter.unusedSimpArgs false
set_option linter.unusedVariables false
set_option maxHeartbeats 4000000
namespace Go.Proofs.YtekdaafnjdlenaaGreat
open Go Go.Abs
open Nat (reduceEqDiff reduceAdd reduceLeDiff)
theorem zG{H:Hp}{sv:AV}{l:List Int}(h:Row H 1 sv (l.map (AV.int .i64)))(h0:0<l.length):∃B,sv=.msl B l.length 1 0 l.length/\H B=some (l.map (AV.int .i64)):=by
 generalize hcs:l.map (AV.int .i64)=cs at h;have hl:cs.length=l.length:=by rw[<-hcs,bi]
 cases h with
 |nil=>simp at hl;omega
 |box B len cs h1 h2=>
  have e:len=l.length:=by omega
  subst e;exact⟨B,by rw[Nat.mul_one],h1⟩
def uN(E:List (List Int))(q:Nat):List Int:=E.foldl (λa r=>if (q:Int)∈r then bL a [ld r] else a) [(q:Int)]
def pf(E:List (List Int))(q:Nat):List Int:=(q:Int)::(E.filter λr=>decide ((q:Int)∈r)).map ld
def JH(E:List (List Int))(c:Nat):List Nat:=(List.range c).filter λq=>decide ((q:Int)∉E.map ld)
def tn(E:List (List Int))(c:Nat):List (List Int):=(JH E c).map (uN E)
theorem CN{E:List (List Int)}{k:Nat}:tn E (k+1)=tn E k++if (k:Int)∈E.map ld then [] else [uN E k]:=by
 unfold tn JH;rw[List.range_succ,wn,cl]
 congr 1
 by_cases h:(k:Int)∈E.map ld
 ·rw[if_pos h,A7 (by simpa using h)];rfl
 ·rw[if_neg h,Bb (by simpa using h)];rfl
theorem Ae{E:List (List Int)}{k:Nat}:(tn E k).length<=k:=by
 unfold tn JH;rw[bi];exact fe (List.length_filter_le _ _) (by simp)
theorem CD{E:List (List Int)}{q j:Nat}(h:j<E.length):pf (E.take (j+1)) q=pf (E.take j) q++if (q:Int)∈E.getD j default then [ld (E.getD j default)] else []:=by
 unfold pf;rw[bI h,wn,cl,List.cons_append]
 congr 2
 by_cases h:(q:Int)∈E.getD j default
 ·rw[if_pos h,Bb (by simpa using h)];rfl
 ·rw[if_neg h,A7 (by simpa using h)];rfl
theorem yZ{E:List (List Int)}{q:Nat}:(pf E q).length<=E.length+1:=by
 unfold pf;rw[bK,bi];exact Nat.succ_le_succ (List.length_filter_le _ _)
theorem qq{q:Nat}:∀{E:List (List Int)}{a:List Int},E.Pairwise (λr s=>ld r<ld s)->bq a->(∀r∈E,ld r∉a)->
    bq (E.foldl (λa r=>if (q:Int)∈r then bL a [ld r] else a) a)/\∀z,z∈E.foldl (λa r=>if (q:Int)∈r then bL a [ld r] else a) a↔z∈a\/ ∃r∈E,(q:Int)∈r/\z=ld r
 |[],a,_,h2,_=>⟨h2,λz=>⟨.inl,λh=>h.elim id λ⟨r,hr,_⟩=>by cases hr⟩⟩
 |x::E,a,h1,h2,h3=>by
  have hx:=iz.1 h1;rw[List.foldl_cons];by_cases h:(q:Int)∈x
  ·rw[if_pos h];have hs:bq [ld x]:=List.pairwise_singleton _ _;have hna:=h3 x (dg ..)
   have hm:∀z,z∈bL a [ld x]↔z∈a\/z=ld x:=λz=>by
    rw[du h2 hs,cW];constructor
    ·rintro(q|q)
     ·exact .inl q.1
     ·exact .inr q.1
    ·rintro(q|rfl)
     ·exact .inl ⟨q,λe=>hna (e▸q)⟩
     ·exact .inr ⟨rfl,hna⟩
   obtain ⟨i1,i2⟩:=qq (q:=q) hx.2 (eb h2 hs) (fun r hr hz=>by
    rcases(hm _).1 hz with g|g
    ·exact h3 r (ec _ hr) g
    ·have:=hx.1 r hr;omega)
   refine⟨i1,λz=>(i2 z).trans ?_⟩;rw[hm];constructor
   ·rintro((g|g)|⟨r,hr,g⟩)
    ·exact .inl g
    ·exact .inr ⟨x,dg ..,h,g⟩
    ·exact .inr ⟨r,ec _ hr,g⟩
   ·rintro(g|⟨r,hr,g1,g2⟩)
    ·exact .inl (.inl g)
    ·rcases da.1 hr with rfl|hr
     ·exact .inl (.inr g2)
     ·exact .inr ⟨r,hr,g1,g2⟩
  ·rw[if_neg h];obtain⟨i1,i2⟩:=qq (q:=q) hx.2 h2 (λr hr=>h3 r (ec _ hr));refine⟨i1,λz=>(i2 z).trans ?_⟩;constructor
   ·rintro(g|⟨r,hr,g⟩)
    ·exact .inl g
    ·exact .inr ⟨r,ec _ hr,g⟩
   ·rintro(g|⟨r,hr,g1,g2⟩)
    ·exact .inl g
    ·rcases da.1 hr with rfl|hr
     ·exact absurd g1 h
     ·exact .inr ⟨r,hr,g1,g2⟩
theorem tx{E:List (List Int)}{q:Nat}(hE:Red E)(hq:(q:Int)∉E.map ld):bq (uN E q)/\∀z,z∈uN E q↔z=q\/ ∃r∈E,(q:Int)∈r/\z=ld r:=by
 have:=qq (q:=q) (a:=[(q:Int)]) hE.ord (List.pairwise_singleton _ _) (λr hr h=>hq (by rw[cW] at h;rw[<-h];exact List.mem_map_of_mem hr));exact⟨this.1,λz=>(this.2 z).trans (by rw[cW])⟩
theorem Fp{E:List (List Int)}{q:Nat}{z:Int}:z∈pf E q↔z=q\/ ∃r∈E,(q:Int)∈r/\z=ld r:=by
 unfold pf;rw[da,bG];constructor
 ·rintro(h|⟨r,hr,e⟩)
  ·exact .inl h
  ·have:=iG.1 hr;exact .inr ⟨r,this.1,qe this.2,e.symm⟩
 ·rintro(h|⟨r,hr,g,e⟩)
  ·exact .inl h
  ·exact .inr ⟨r,iG.2 ⟨hr,aL g⟩,e.symm⟩
theorem AZ{E:List (List Int)}{q:Nat}(hE:Red E)(hq:(q:Int)∉E.map ld):(pf E q).Nodup:=by
 unfold pf;refine List.nodup_cons.2 ⟨λh=>?_,?_⟩
 ·obtain⟨r,hr,e⟩:=bG.1 h;exact hq (e▸List.mem_map_of_mem (iG.1 hr).1)
 ·rw[List.Nodup,List.pairwise_map];exact(hE.ord.sublist EF).imp λ{x y} h e=>by omega
theorem Cz{E:List (List Int)}{q:Nat}(hE:Red E)(hq:(q:Int)∉E.map ld){L:List Int}(hp:L.Perm (pf E q))(hs:L.Pairwise (· <= ·)):L=uN E q:=by
 have hn:L.Nodup:=hp.nodup_iff.2 (AZ hE hq)
 have ha:bq L:=(hs.and hn).imp λ{x y} h=>by
  have h1:=h.1;have h2:x≠y:=h.2;show x<y;omega
 obtain⟨k1,k2⟩:=tx hE hq;refine oZ ha k1 λz=>?_;rw[hp.mem_iff,k2,Fp]
def nP(k:Nat):List AV:=List.replicate k (.bool true)
theorem C8{k i:Nat}(h:i<k):Go.Abs.mget (.bool false) false (some i) (nP k)=.bool true:=by
 show(nP k).getD i _=_;simp[nP,List.getD,h]
theorem GF{R:List (List Int)}{n q:Nat}:(trF R n q).Pairwise (· < ·):=List.Pairwise.filter _ List.pairwise_lt_range
theorem Jw{R:List (List Int)}{c:Nat}(hR:R.length<=4096)(hc:c<=4096):fK R.length (trL c R):=by
 refine⟨by omega,by omega,by unfold trL;rw[bi,List.length_range];exact hc,λr hr=>?_⟩;unfold trL at hr;obtain⟨q,hq,rfl⟩:=bG.1 hr;refine⟨λv hv=>?_,?_,uj (ny GF)⟩
 ·unfold dt at hv;obtain⟨j,hj,rfl⟩:=bG.1 hv;unfold trF at hj;have:=ed.1 (iG.1 hj).1;omega
 ·unfold dt;rw[bi];exact fe xA hR
def bdN(c:List Spx)(d:Nat):Nat:=(aB c ((d:Int)+1)).length
def bdM(c:List Spx)(d:Nat):List (List Int):=trL (aB c ((d:Int)+1+1)).length (dR (aB c ((d:Int)+1+1)) (aB c ((d:Int)+1)))
def bdE(c:List Spx)(d:Nat):List (List Int):=c7 (bdM c d) (bdN c d)
theorem wq{c:List Spx}{d:Nat}(hc:az c=0)(hl:c.length<=50):fK (bdN c d) (bdM c d):=by
 have h1:=cw hc hl (d:=(d:Int)+1);have h2:=cw hc hl (d:=(d:Int)+1+1);have:=Jw (R:=dR (aB c ((d:Int)+1+1)) (aB c ((d:Int)+1))) (c:=(aB c ((d:Int)+1+1)).length) (by rw[gu];omega) (by omega);rw[gu] at this;exact this
theorem rY{c:List Spx}{d:Nat}:(bdE c d).length<=bdN c d:=by unfold bdE c7;rw[bi];exact jH
def bsT(E:List (List Int))(n:Nat)(K:List (List Int)):Nat->List (List Int)
 |0=>[]
 |k+1=>if (c7 ((E++bsT E n K k)++[K.getD k default]) n).length=(c7 (E++bsT E n K k) n).length then bsT E n K k else bsT E n K k++[K.getD k default]
theorem Cc{E:List (List Int)}{n:Nat}{K:List (List Int)}:∀{k:Nat},(bsT E n K k).length<=k
 |0=>aR _
 |k+1=>by
  have:=Cc (E:=E) (n:=n) (K:=K) (k:=k);unfold bsT;split
  ·omega
  ·rw[cA];simp only[bK,fo];omega
theorem xK{E:List (List Int)}{n:Nat}{K:List (List Int)}:∀{k:Nat},k<=K.length->∀v∈bsT E n K k,v∈K
 |0,_,v,h=>by cases h
 |k+1,hk,v,h=>by
  unfold bsT at h;split at h
  ·exact xK (by omega) v h
  ·rcases eC.1 h with h|h
   ·exact xK (by omega) v h
   ·rw[cW] at h;subst h;exact ay (by omega)
theorem Bk{E:List (List Int)}{n:Nat}(hE:Red E)(hv:∀r∈E,∀z∈r,0<=z/\z<(n:Int)):c7 E n=E:=by
 obtain⟨h1,h2,-⟩:=ib hE.asc hv;exact oX h1 hE h2
theorem po{c:Int}{R S:List (List Int)}(h:fK c R)(hl:S.length<=4096)(hs:∀r∈S,r∈R):fK c S:=⟨h.1,h.2.1,hl,λr hr=>h.2.2.2 r (hs r hr)⟩
theorem mG{c:Int}{R S:List (List Int)}(h:fK c R)(h2:fK c S)(hl:R.length+S.length<=4096):fK c (R++S):=⟨h.1,h.2.1,by rw[cA];exact hl,λr hr=>(eC.1 hr).elim (h.2.2.2 r) (h2.2.2.2 r)⟩
theorem jN.same{H H':Hp}{s:AV}{l:List (List Int)}(h:jN H s l)(hs:∀b,bv s=some b->H' b=H b):jN H' s l:=by
 rcases h with h|h
 ·exact .inl h
 ·exact .inr (h.same hs)
theorem pA{c:List Spx}:bH c=.agg [am c]:=rfl
def bsK(c:List Spx)(d:Nat):List (List Int):=tn (c7 (dR (aB c ((d:Int)+1)) (aB c d)) (bdN c d)) (bdN c d)
theorem D0{c:List Spx}{d:Nat}(hc:az c=0)(hl:c.length<=50):fK (bdN c d) (dR (aB c ((d:Int)+1)) (aB c d)):=by
 have h1:=cw hc hl (d:=(d:Int)+1);have h2:=cw hc hl (d:=(d:Int));exact ll (X:=aB c ((d:Int)+1)) (Y:=aB c d) (by omega) (by omega)
theorem lU{c:Nat}{R:List (List Int)}(h:fK c R):∀r∈R,∀z∈r,0<=z/\z<(c:Int):=λr hr=>(h.2.2.2 r hr).1
theorem xL{c:Nat}{R:List (List Int)}(hc:c<=4096)(hl:R.length<=4096)(ha:∀r∈R,bq r)(hv:∀r∈R,∀z∈r,0<=z/\z<(c:Int)):fK c R:=
 ⟨by omega,by omega,hl,λr hr=>⟨hv r hr,by have:=fE (ha r hr) (hv r hr);omega,uj (ha r hr)⟩⟩
theorem Bw{c:Nat}{R:List (List Int)}(h:fK c R):Red (c7 R c)/\(∀v,Sp (c7 R c) v↔Sp R v)/\(∀r∈c7 R c,∀z∈r,0<=z/\z<(c:Int))/\(c7 R c).length<=c:=by
 obtain⟨h1,h2,-⟩:=ib (eT h) (lU h);exact⟨h1,h2,λr hr=>jU (eT h) (lU h) ((h2 r).1 (dS hr)),by unfold c7;rw[bi];exact jH⟩
theorem Jl{E:List (List Int)}{c:Nat}(hE:Red E)(hv:∀r∈E,∀z∈r,0<=z/\z<(c:Int)):∀v∈tn E c,bq v/\∀z∈v,0<=z/\z<(c:Int):=λv h=>by
 unfold tn at h;obtain⟨q,hq,rfl⟩:=bG.1 h;have hq:=iG.1 hq;have hqc:=ed.1 hq.1;obtain⟨k1,k2⟩:=tx hE (qe hq.2);refine⟨k1,λz hz=>?_⟩;rcases(k2 z).1 hz with rfl|⟨r,hr,_,rfl⟩
 ·omega
 ·exact hv r hr _ (dq (hE.ne r hr))
theorem Fr{c:List Spx}{d:Nat}(hc:az c=0)(hl:c.length<=50):fK (bdN c d) (bsK c d)/\(bsK c d).length<=bdN c d:=by
 have hn:bdN c d<=3500:=cw hc hl;obtain⟨h1,-,h2,-⟩:=Bw (D0 (d:=d) hc hl);have hk:=Jl h1 h2;have hll:(bsK c d).length<=bdN c d:=Ae;exact⟨xL (by omega) (by omega) (λv h=>(hk v h).1) λv h=>(hk v h).2,hll⟩
theorem D3{c:List Spx}{d:Nat}(hc:az c=0)(hl:c.length<=50):fK (bdN c d) (bdE c d)/\Red (bdE c d)/\(∀v,Sp (bdE c d) v↔Sp (bdM c d) v):=by
 have hn:bdN c d<=3500:=cw hc hl;obtain⟨h1,h2,h3,h4⟩:=Bw (wq (d:=d) hc hl);exact⟨xL (by omega) (fe h4 (by omega)) h1.asc h3,h1,h2⟩
def G8(o:Option Nat):List Nat:=match o with|some x=>[x]|none=>[]
theorem zf{o:Option Nat}{x:Nat}:x∈G8 o↔o=some x:=by cases o<;>simp[G8];exact eq_comm
theorem Dz{c:List Spx}{n:Nat}:aB c ((n:Int)+1)=gx c (n+1):=by
 have:=yE (c:=c) (k:=n+1);rw[if_neg (by omega)] at this;exact this
theorem qX{b:List Int}:∀{a:List Int},cP (λj=>bit j b) a=(a.filter λx=>decide (x∈b)).length
 |[]=>rfl
 |x::a=>by
  have ih:=qX (b:=b) (a:=a);show bit x b+cP _ a=_;rw[ih];by_cases h:x∈b
  ·rw[Bb (by simpa using h),bK];unfold bit;rw[if_pos h];omega
  ·rw[A7 (by simpa using h)];unfold bit;rw[if_neg h];omega
theorem As{a b:List Int}(ha:bq a)(hb:bq b):kf a b=rC b a:=by
 unfold kf rC;have:=pG _ a b (aR _) ha hb;rw[qX];refine decide_eq_decide.2 ?_;omega
theorem mB{g:Int->Nat}{b:List Int}:∀{a:List Int},cP g (a++b)=cP g a+cP g b
 |[]=>by show _=0+_;rw[cp];rfl
 |x::a=>by
  have ih:=mB (g:=g) (b:=b) (a:=a);show g x+cP g (a++b)=g x+cP g a+cP g b;rw[ih];omega
theorem uQ{g:Int->Nat}:∀{a:List Int},(∀z∈a,g z=0)->cP g a=0
 |[],_=>rfl
 |x::a,h=>by
  show g x+cP g a=0;rw[h x dg,uQ λz hz=>h z (ec _ hz)]
structure VR(c:Nat)(R:List (List Int)):Prop where
 asc:∀r∈R,bq r
 rng:∀r∈R,∀z∈r,0<=z/\z<(c:Int)
def rk(R:List (List Int))(c:Nat):Nat:=(c7 R c).length
theorem VR.app{c:Nat}{R S:List (List Int)}(h1:VR c R)(h2:VR c S):VR c (R++S):=
 ⟨λr hr=>(eC.1 hr).elim (h1.asc r) (h2.asc r),λr hr=>(eC.1 hr).elim (h1.rng r) (h2.rng r)⟩
theorem VR.sub{c:Nat}{R S:List (List Int)}(h:VR c R)(hs:∀r∈S,r∈R):VR c S:=⟨λr hr=>h.asc r (hs r hr),λr hr=>h.rng r (hs r hr)⟩
theorem VR.one{c:Nat}{v:List Int}(ha:bq v)(hv:∀z∈v,0<=z/\z<(c:Int)):VR c [v]:=⟨λr hr=>by rw[cW] at hr;rw[hr];exact ha,λr hr=>by rw[cW] at hr;rw[hr];exact hv⟩
theorem VR.nil{c:Nat}:VR c []:=⟨λ_ h=>(by cases h),λ_ h=>(by cases h)⟩
theorem Ca{c:Nat}{R:List (List Int)}(h:fK c R):VR c R:=⟨eT h,lU h⟩
theorem uR{R S:List (List Int)}:∀{i:Nat},(∀j,j<i->R.getD j default=S.getD j default)->stE R i=stE S i
 |0,_=>rfl
 |i+1,h=>by
  have ih:=uR (R:=R) (S:=S) (i:=i) (λj hj=>h j (by omega));have e:=h i (by omega);simp only[stE,ih,e]
theorem Gn{c:Nat}{R:List (List Int)}(h:VR c R):rk R c=(stE R R.length).1.length:=by
 obtain⟨h1,h2,h3⟩:=ib h.asc h.rng;have hs:=gv h.asc (aR R.length);unfold rk c7;rw[bi];have hn:(lC R c).Nodup:=(lZ hs.red).imp (λ{x y}(q:ld x.1<ld y.1) e=>by rw[e] at q;omega);exact Nat.le_antisymm (iE hn λx hx=>(h3 x).1 hx) (iE hs.red.nodup λx hx=>(h3 x).2 hx)
theorem EJ{R:List (List Int)}(hR:∀r∈R,bq r)(v:List Int):Sp ((stE R R.length).1.map Prod.fst) v↔Sp R v:=by
 have hs:=gv hR (aR R.length);have e:R.take R.length=R:=List.take_length;constructor
 ·intro h;refine kd hR (λr hr=>?_) h;obtain⟨l,hl,rfl⟩:=bG.1 hr;have:=hs.inS l hl
  rwa [e] at this
 ·intro h;exact kd (ey hs.red) (λr hr=>hs.all r (by rw[e];exact hr)) h
theorem FP{c:Nat}{R S:List (List Int)}(hR:VR c R)(hS:VR c S)(h:∀v,Sp R v↔Sp S v):rk R c=rk S c:=by
 obtain⟨a1,a2,-⟩:=ib hR.asc hR.rng;obtain⟨b1,b2,-⟩:=ib hS.asc hS.rng;unfold rk;rw[oX a1 b1 λv=>(a2 v).trans ((h v).trans (b2 v).symm)]
theorem Br{c:Nat}{R:List (List Int)}{v:List Int}(h:VR c R)(ha:bq v)(hv:∀z∈v,0<=z/\z<(c:Int)):(Sp R v/\rk (R++[v]) c=rk R c)\/(¬Sp R v/\rk (R++[v]) c=rk R c+1):=by
 have hw:=h.app (VR.one ha hv);rw[Gn hw,Gn h,cA,List.length_singleton];have hs:=gv h.asc (aR R.length);have hsp:=EJ h.asc v;have hsp2:=EJ h.asc;have hx:co (v,[(R.length:Int)]):=⟨ha,List.pairwise_singleton ..⟩
 have hyn:=λl hl=>kD hs.red hx (l:=l) hl;have hysp:Sp ((stE R R.length).1.map Prod.fst) (bL v (ee (stE R R.length).1 (v,[(R.length:Int)])).1):=ui (ey hs.red) (λl hl=>⟨hs.red.asc l hl,bG.2 ⟨l,hl,rfl⟩⟩) hx;have hya:co (ee (stE R R.length).1 (v,[(R.length:Int)])):=io hs.red.asc hx
 have e1:stE (R++[v]) R.length=stE R R.length:=uR λj hj=>by
  simp only[Jn,gF hj]
 have e2:(R++[v]).getD R.length default=v:=by simp[List.getD]
 have e3:stE (R++[v]) (R.length+1)=if (ee (stE R R.length).1 (v,[(R.length:Int)])).1=[] then((stE R R.length).1,(stE R R.length).2++[(ee (stE R R.length).1 (v,[(R.length:Int)])).2]) else(jZ (stE R R.length).1 (ee (stE R R.length).1 (v,[(R.length:Int)])),(stE R R.length).2):=by
  simp only[stE,e1,e2]
 rw[e3];generalize ee (stE R R.length).1 (v,[(R.length:Int)])=y at *;by_cases h0:y.1=[]
 ·left;rw[if_pos h0];rw[h0,fH] at hysp;exact⟨hsp.1 hysp,rfl⟩
 ·right;rw[if_neg h0];refine⟨λq=>h0 (qC hs.red ?_ hyn),?_⟩
  ·have:=kp (ey hs.red) (hsp.2 q) hysp
   rwa [eG ha ha hya.1,fx ha,ia] at this
  ·unfold jZ;rw[cA,bi];rfl
theorem Ec{c:Nat}:∀{S R:List (List Int)},VR c R->VR c S->rk R c<=rk (R++S) c/\rk (R++S) c<=rk R c+S.length
 |[],R,_,_=>by rw[eH];simp
 |v::S,R,hR,hS=>by
  have hv:VR c [v]:=hS.sub λr hr=>by rw[cW] at hr;rw[hr];exact dg ..
  have h2:=Ec (S:=S) (R:=R++[v]) (hR.app hv) (hS.sub λr hr=>ec _ hr);have h1:=Br hR (hv.asc v (cW.2 rfl)) (hv.rng v (cW.2 rfl));rw[il,List.singleton_append] at h2;rw[bK];rcases h1 with⟨_,h1⟩|⟨_,h1⟩<;>omega
theorem F0{R S T:List (List Int)}(hS:∀r∈S,bq r)(hT:∀r∈T,bq r)(h:∀r∈R,Sp S r){v:List Int}(hv:Sp (R++T) v):Sp (S++T) v:=
 kd (λr hr=>(eC.1 hr).elim (hS r) (hT r)) (λr hr=>(eC.1 hr).elim (λq=>kq (λx hx=>mH _ hx) (h r q)) λq=>dS (lW _ q)) hv
theorem DU{c:Nat}{R S:List (List Int)}(hR:VR c R)(hS:VR c S):rk (c7 R c++S) c=rk (R++S) c:=by
 obtain⟨a1,a2,-⟩:=ib hR.asc hR.rng;have hE:VR c (c7 R c):=⟨a1.asc,λr hr=>jU hR.asc hR.rng ((a2 r).1 (dS hr))⟩
 exact FP (hE.app hS) (hR.app hS) λv=>⟨F0 hR.asc hS.asc λr hr=>(a2 r).1 (dS hr),F0 hE.asc hS.asc λr hr=>(a2 r).2 (dS hr)⟩
structure KerV(R:List (List Int))(c:Nat)(x:List Int):Prop where
 asc:bq x
 rng:∀z∈x,0<=z/\z<(c:Int)
 dot:∀r∈R,cP (λz=>bit z r) x%2=0
theorem zh{L:List Ln}{w:List Int}{z:Int}:z∈l7 L w↔ ∃l∈L,kf l.2 w=true/\ld l.1=z:=by
 unfold l7;simp only[bG,iG];exact⟨λ⟨l,⟨h1,h2⟩,h3⟩=>⟨l,h1,h2,h3⟩,λ⟨l,h1,h2,h3⟩=>⟨l,⟨h1,h2⟩,h3⟩⟩
theorem EN{M:List Ln}{c:Nat}{w:List Int}(hM:RedU M):bq (l7 (lQ M c) w):=by
 unfold l7 bq;rw[List.pairwise_map];exact(lZ hM).sublist EF
theorem yj{M:List Ln}{c:Nat}{w:List Int}(hM:RedU M):∀z∈l7 (lQ M c) w,0<=z/\z<(c:Int):=λz hz=>by
 obtain⟨l,h1,_,rfl⟩:=zh.1 hz;exact((pF hM).1 h1).2
theorem DL{R:List (List Int)}{c:Nat}{w:List Int}(hR:∀r∈R,bq r)(hv:∀r∈R,∀z∈r,0<=z/\z<(c:Int))(hw:bq w)(h0:∀y∈(stE R R.length).2,rC w y=false){i:Nat}(hi:i<R.length):cP (λz=>bit z (l7 (lC R c) w)) (R.getD i default)%2=bit (i:Int) w:=by
 have hsy:=CT hR hv h0;obtain⟨w1,w2,w3⟩:=n8 (b:=w) hR hv;obtain⟨e1,e2,e3⟩:=ib w1 w2;rw[sN w1 w2] at hsy;have hs:=gv hR (aR R.length);have hM:=hs.red;have d3:=(ib hR hv).2.2;have hlv:∀l∈(stE R R.length).1,∀z∈l.1,0<=z/\z<(c:Int):=λl hl=>jU hR hv (kq (λr hr=>gV hr) (hs.inS l hl))
 have hxm:∀z,z∈l7 (lC R c) w↔ ∃l∈(stE R R.length).1,kf l.2 w=true/\ld l.1=z:=λz=>by
  rw[zh];exact⟨λ⟨l,h1,h2⟩=>⟨l,(d3 l).1 h1,h2⟩,λ⟨l,h1,h2⟩=>⟨l,(d3 l).2 h1,h2⟩⟩
 have hxc:∀z∈l7 (lC R c) w,z<(c:Int):=λz hz=>(yj hM z hz).2;generalize l7 (lC R c) w=x at *
 have hgz:∀z:Int,z<(c:Int)->bit z (x++[(c:Int)])=bit z x:=λz hz=>by
  unfold bit;by_cases h:z∈x
  ·rw[if_pos h,if_pos (eC.2 (.inl h))]
  ·rw [if_neg h,if_neg fun q=>by
     rcases eC.1 q with q|q
     ·exact h q
     ·have:=cW.1 q;omega]
 have hgc:bit (c:Int) (x++[(c:Int)])=1:=dG.2 (eC.2 (.inr (cW.2 rfl)));have hwi:(lJ R c w).getD i default∈lJ R c w:=ay (by unfold lJ;simpa using hi);have hsp:=(e2 _).2 (dS hwi);rw[hsy,zt hi] at hsp
 have hz:=Co (g:=λz=>bit z (x++[(c:Int)])) hsp λd hd=>by
  obtain⟨l,hl,rfl⟩:=bG.1 hd;have hl:=(d3 l).1 hl;have hla:=hM.asc l hl;have hne:=hM.ne l hl;have hsame:∀l'∈(stE R R.length).1,ld l'.1∈l.1->l=l':=λl' hl' h=>hM.own l' hl' l hl h;have hlc:=hlv l hl
  have hld:cP (λz=>bit z (x++[(c:Int)])) l.1=bit (ld l.1) x:=by
   have hldm:=dq hne;cases hq:l.1 with
   |nil=>exact absurd hq hne
   |cons z t=>
    rw[hq] at hldm hsame hlc hla;have hz:ld (z::t)=z:=rfl;rw[hz];show bit z (x++[(c:Int)])+cP _ t=_;rw[hgz z (hlc z dg).2,uQ (a:=t) λu hu=>?_]
    ·omega
    ·have huc:=hlc u (ec _ hu);rw[hgz u huc.2];unfold bit;rw[if_neg λhux=>?_];obtain⟨l',h1,_,h3⟩:=(hxm u).1 hux;have h4:=hsame l' h1 (by rw[h3];exact ec _ hu);have h5:=(iz.1 hla.1).1 u hu;rw[<-h4,hq] at h3;have:ld (z::t)=z:=rfl;omega
  have hbx:bit (ld l.1) x=if rC w l.2=true then 1 else 0:=by
   rw[<-As hla.2 hw];unfold bit;by_cases h:kf l.2 w=true
   ·rw[if_pos ((hxm _).2 ⟨l,hl,h,rfl⟩),if_pos h]
   ·rw[if_neg λq=>?_,if_neg h];obtain⟨l',h1,h2,h3⟩:=(hxm _).1 q;have:=hsame l' h1 (by rw[h3];exact dq hne);rw[this] at h;exact h h2
  unfold wdL;by_cases h:rC w l.2=true
  ·rw[if_pos h,mB,hld,hbx,if_pos h];show(1+(bit (c:Int) (x++[(c:Int)])+0))%2=0;rw[hgc]
  ·rw[if_neg h,hld,hbx,if_neg h]
 have hri:=hv _ (ay hi);have hcg:cP (λz=>bit z (x++[(c:Int)])) (R.getD i default)=cP (λz=>bit z x) (R.getD i default):=ln λz hz=>hgz z (hri z hz).2;unfold wdR at hz;by_cases h:(i:Int)∈w
 ·rw[if_pos h,mB,hcg] at hz;have hz:(cP (λz=>bit z x) (R.getD i default)+(bit (c:Int) (x++[(c:Int)])+0))%2=0:=hz;rw[hgc] at hz;unfold bit at hz |-;rw[if_pos h];omega
 ·rw[if_neg h,hcg] at hz;unfold bit at hz |-;rw[if_neg h];exact hz
def wH(E:List (List Int))(n:Nat):List (List Int)->List (List Int)->Bool
 |_,[]=>true
 |D,v::l=>if rk ((E++D)++[v]) n=rk (E++D) n then false else wH E n (D++[v]) l
theorem ye{M:List (List Int)}{n:Nat}(hM:VR n M):∀{l D:List (List Int)},VR n D->VR n l->rk (M++D) n=rk M n+D.length->wH (c7 M n) n D l=decide (rk (M++(D++l)) n=rk M n+(D++l).length)
 |[],D,_,_,h=>by
  rw[eH];exact(aL h).symm
 |v::l,D,hD,hl,h=>by
  have h1:=hl.asc v (dg ..);have h2:=hl.rng v (dg ..);have hl2:VR n l:=hl.sub λr hr=>ec _ hr;have hD2:=hD.app (VR.one h1 h2);have h3:=Br (hM.app hD) h1 h2;have e1:=DU hM hD;have e2:=DU hM hD2;have h4:=Ec (hM.app hD2) hl2;rw[il] at h3;unfold wH;rw[il,e1,e2];have e3:D++v::l=(D++[v])++l:=by simp
  rw[e3];rcases h3 with⟨_,e⟩|⟨_,e⟩
  ·rw[if_pos e,aO];rw[<-il,cA,cA];simp only[bK,fo];omega
  ·rw[if_neg (by omega)];exact ye hM hD2 hl2 (by rw[e,h,cA];rfl)
theorem BM{n:Nat}{x:List Int}(ha:bq x)(hr:∀z∈x,0<=z/\z<(n:Int)):tc n x=0:=by
 unfold tc;refine cT λk hk=>?_;rw[sS];have h1:=hr _ (ay hk);rw[if_neg (by omega),if_neg];rintro⟨h0,h2⟩;have h3:=k9.1 ha (k-1) k (by omega) hk (by omega);have e1:x.getD k default=x[k]:=by simp[List.getD,hk]
 have e2:x.getD (k-1) default=x[k-1]:=by simp[List.getD,show k-1<x.length by omega]
 omega
def cyT(c:List Spx)(d:Nat):List (List Spx):=(bsT (bdE c d) (bdN c d) (bsK c d) (bsK c d).length).map (eo (aB c ((d:Int)+1)))
theorem EV{H:Hp}{s:AV}{l:List (List Spx)}(h:Row H 1 s (l.map am)):Snap H s (cV l):=h.snapL' (λ_=>rfl) (λx _=>bA x)
theorem Fb{H:Hp}{b n j:Nat}{l:List Int}(hb:H b=some (l.map (AV.int .i64)))(hn:l.length=n)(hj:j<=n):Snap H (.msl b n 1 0 j) (aC (l.take j)):=by
 refine jy hb (by simp[hn]) (by omega) (by simp[hn,hj]) (λy hy=>by simp only[bG] at hy;obtain⟨n,_,rfl⟩:=hy;rfl) (λi a c ha hc=>?_);rw[cp] at ha;rw[l6,jg] at hc;rw[l6] at ha;split at hc
 ·rw[ha] at hc;cases hc;obtain⟨z,_,rfl⟩:=Option.map_eq_some_iff.1 ha;exact .int _ _
 ·cases hc
def HP(l:List Int)(k:Int):Bool:=match l with
 |[]=>false
 |x::r=>!((((x-1)::r).take (min (k+1) ((r.length+1:Nat):Int)).toNat).any λn=>decide (n≠0))
theorem Hw{c:List Spx}{m:Nat}:(btL c m).length=m:=by unfold btL;simp
theorem IZ{c:List Spx}{m:Nat}(hc:az c=0)(hl:c.length<=50):∀x∈btL c m,-7000<=x/\x<=7000:=λx hx=>by
 unfold btL at hx;obtain⟨d,_,rfl⟩:=bG.1 hx;unfold btF;have h1:=cw hc hl (d:=(d:Int)+1);have h2:=cw hc hl (d:=((d+1:Nat):Int)+1);have h3:=xx (c:=c) (d:=d);have h4:=xx (c:=c) (d:=d+1);omega
def mf(c:List Spx):Nat->Nat
 |0=>0
 |k+1=>mf c k+2^min (c.getD k default).length 10
theorem wS{c:List Spx}:∀k,mf c k<=1024*k
 |0=>bw _
 |k+1=>by
  have ih:=wS (c:=c) k;have:2^min (c.getD k default).length 10<=2^10:=Nat.pow_le_pow_right (by omega) (by omega);unfold mf;omega
theorem tB:∀{l:Spx}{k:Nat},(cm l k).length<=2^l.length
 |l,0=>by rw[mz];exact Nat.one_le_two_pow
 |[],k+1=>by rw[tw];simp
 |x::l,k+1=>by
  have h1:=tB (l:=l) (k:=k);have h2:=tB (l:=l) (k:=k+1);rw[hU,cA,bi,bK,Nat.pow_succ];omega
theorem Ej{c:List Spx}{n:Nat}(h8:∀s∈c,s.length<=8):∀k,k<=c.length->((c.take k).flatMap λs=>cm s n).length<=mf c k
 |0,_=>by simp
 |k+1,hk=>by
  have ih:=Ej (n:=n) h8 k (by omega);have h1:=h8 _ (ay (l:=c) (i:=k) (by omega));have h2:=tB (l:=c.getD k default) (k:=n);rw[bI (show k<c.length by omega),List.flatMap_append,cA];unfold mf;rw[Nat.min_eq_left (by omega)];simp only[ut,List.flatMap_nil,eH];omega
theorem Gb{c:List Spx}(hc:az c=0){d:Int}:(aB c d).length<=mf c c.length:=by
 unfold aB;split
 ·simp
 ·unfold gx;have h:=Ej (c:=c) (n:=d.toNat) (λs hs=>(cE ((dz hc).2.1 s hs)).2.1) c.length (aR _);rw[List.take_length] at h;exact fe pc h
theorem IG{α:Type}[BEq α][LawfulBEq α]{K:α->α->Int}(hK:LinK K){L:List α}(hL:ce K L){x y:α}(hx:x∈L)(hy:y∈L)(h:K x y<0):L.idxOf x<L.idxOf y:=by
 have i1:=qa.2 hx;have i2:=qa.2 hy;have g1:L[L.idxOf x]=x:=List.getElem_idxOf i1;have g2:L[L.idxOf y]=y:=List.getElem_idxOf i2;rcases sU (L.idxOf x) (L.idxOf y) with q|q|q
 ·exact q
 ·have:x=y:=by
    rw[<-g1,<-g2];congr 1
  rw[this] at h;exact absurd h (hK.ord.irr y)
 ·have:=k9.1 hL _ _ i2 i1 q;rw[g1,g2] at this;exact absurd h (hK.ord.asym _ _ this)
theorem FB{L a:List Spx}(hL:ce bh L)(ha:ce bh a)(h:∀s∈a,s∈L):(ot L a).Pairwise (· < ·):=by
 unfold ot;rw[List.pairwise_map];exact ha.imp_of_mem λ{x y} hx hy hxy=>IG lO hL (h x hx) (h y hy) hxy
theorem gf{c a:List Spx}{v:List Int}(h:d9 c a=(v,0)):az c=0/\gU a=0/\v=dt (ot (aB c (dp a)) a)/\(∀s∈a,s∈aB c (dp a))/\bq v/\∀z∈v,0<=z/\z<((aB c (dp a)).length:Int):=by
 unfold d9 at h;split at h
 ·rename_i q;exact absurd (congrArg Prod.snd h) q
 rename_i q1;split at h
 ·rename_i q;exact absurd (congrArg Prod.snd h) q
 rename_i q2;have e1:az c=0:=by simpa using q1
 have e2:gU a=0:=by simpa using q2
 split at h
 ·rename_i q;subst q;cases h;exact⟨e1,e2,rfl,λs hs=>(by cases hs),qB,λz hz=>(by cases hz)⟩
 split at h
 rotate_left
 ·cases h
 rename_i q3 q4;cases h;have hm:∀s∈a,s∈aB c (dp a):=λs hs=>qe (eB.1 q4 s hs);refine⟨e1,e2,rfl,hm,ny (FB ns (jD e2).2.2.1 hm),λz hz=>?_⟩;obtain⟨i,hi,rfl⟩:=zL.1 hz;unfold ot at hi;obtain⟨s,hs,rfl⟩:=bG.1 hi;have:=qa.2 (hm s hs);omega
section
attribute [local irreducible] aK ak bg a6 aQ aS aE aU a8 bn Go.Abs.Fn a5 Go.Abs.Pure au aM Yl
theorem D4(c:Nat)(R:List (List Int))(hm:fK c R)(hso:qM (c+1)):pU 103 [dA c R] (.tup [dA c (tn (c7 R c) c),.int .i64 0]):=by
 refine pO KL ?_;simp only[Lc,aH];have he:=oe c R hm;have z0:decide ((0:Int)≠0)=false:=rfl;have hd:Dat (.agg [.int .i64 c,bm R]):=c8 c R;have hmc:=hm.2.1;have hmv:∀r∈R,∀z∈r,0<=z/\z<(c:Int):=λr hr z hz=>(hm.2.2.2 r hr).1 z hz;obtain⟨hred,hsp,-⟩:=ib (eT hm) hmv;have hEv:∀r∈c7 R c,∀z∈r,0<=z/\z<(c:Int):=λr hr=>jU (eT hm) hmv ((hsp r).1 (dS hr));have hEl:(c7 R c).length<=c:=by unfold c7;rw[bi];exact jH
 rw[cH,cH] at he;rw[cH,cH];generalize c7 R c=E at *;clear hsp;refine wnY (aI @z0 @b5) ?_;refine u0 ?_;refine wnY @b5 ?_;refine lpI (X:=Nat) (λk=>[(1,.ptr 0 2 0),(2,.ptr 1 2 0),(4,.ptr 2 2 0),(6,.ptr 3 2 0),(7,.mp 4),(28,bm E),(29,.int .i64 E.length),(30,.int .i64 k)]) (λk H nx=>k<=E.length/\5<=nx/\H 0=some [.int .i64 c,bm R]/\H 1=some [.int .i64 0,.esl]/\H 2=some [.int .i64 c,bm E]/\H 3=some [.int .i64 c,.esl]/\H 4=some [.omap (((E.take k).map ld).map (AV.int .i64)) (nP k)]) (λk=>E.length-k) 0 ⟨bw _,aR _,rfl,rfl,rfl,rfl,rfl⟩ ?_;rintro k H nx ⟨g1,g2,g3,g4,g5,g6,g7⟩;by_cases hk:k<E.length
 ·have ix:=zN hk;have hn:=hred.ne _ (ay (l:=E) hk);have ix0:=Hk hn;have hmf:=iO (ld (E.getD k default)) ((E.take k).map ld)
  have hni:ld (E.getD k default)∉(E.take k).map ld:=λh=>by
   obtain⟨r,hr,e⟩:=bG.1 h;obtain⟨i,hi,e2⟩:=jK hr;rw[eM] at hi;have hi2:i<E.length:=by omega
   have:=k9.1 hred.ord i k hi2 hk (by omega);rw[List.getElem_take] at e2;rw[show E[k]=E.getD k default by simp[List.getD,hk]] at this;rw[e2] at this;omega
  rw[if_neg hni] at hmf;have hts:=bI hk
  have hml:((E.take (k+1)).map ld).map (AV.int .i64)=((E.take k).map ld).map (AV.int .i64)++[.int .i64 (ld (E.getD k default))]:=by
   rw[hts,cl,cl];rfl
  have htr:nP (k+1)=nP k++[.bool true]:=by unfold nP;rw[List.replicate_succ']
  generalize E.getD k default=r at *;refine wnY (aI @ix @ix0) ?_;refine pN ev0 g7 ev0 ev0 rfl hmf ?_;refine wnY and_self ?_;refine⟨k+1,by omega,⟨by omega,by omega,(ac (by omega)).trans g3,(ac (by omega)).trans g4,(ac (by omega)).trans g5,(ac (by omega)).trans g6,?_⟩,ag0⟩;rw[ah,hml,htr];rfl
 obtain rfl:k=E.length:=by omega
 rw[fI (aR _)] at g7;clear hk g1;refine wnY @g3 ?_;refine lpI (X:=AV×Nat) (λx=>[(1,.ptr 0 2 0),(2,.ptr 1 2 0),(4,.ptr 2 2 0),(6,.ptr 3 2 0),(7,.mp 4),(40,.int .i64 c),(41,.int .i64 x.2)]) (λx H nx=>x.2<=c/\5<=nx/\H 0=some [.int .i64 c,bm R]/\H 1=some [.int .i64 0,.esl]/\H 2=some [.int .i64 c,bm E]/\H 3=some [.int .i64 c,x.1]/\H 4=some [.omap ((E.map ld).map (AV.int .i64)) (nP E.length)]/\Row H 1 x.1 ((tn E x.2).map aC)/\∀b,bv x.1=some b->4<b/\b<nx) (λx=>c-x.2) (.esl,0) ⟨bw _,g2,g3,g4,g5,g6,g7,Row.nil,λb h=>(by cases h)⟩ ?_;clear g2 g3 g4 g5 g6 g7;rintro⟨sv,k⟩ H nx ⟨g1,g2,g3,g4,g5,g6,g7,g8,g9⟩;dsimp only at g1 g2 g3 g4 g5 g6 g7 g8 g9 |-;by_cases hk:k<c
 rotate_left
 ·obtain rfl:k=c:=by omega
  obtain⟨o1,o2⟩:=g8.one;refine wnY (zI4 @g6 @g4 @o1 @o2) ?_;refine ka (lA (g8.same λb hb=>?_)) rfl;have:=g9 b hb;rw[ac (by omega)]
 have hmf:=iO (k:Int) (E.map ld);have hks:=CN (E:=E) (k:=k);by_cases hlead:(k:Int)∈E.map ld
 ·rw[if_pos hlead] at hmf;rw[if_pos hlead,eH] at hks;have hgt:Go.Abs.mget (.bool false) false (some ((E.map ld).idxOf (k:Int))) (nP E.length)=.bool true:=C8 (by have:=List.idxOf_lt_length_of_mem hlead;rwa [bi] at this);refine dJ ?_;refine wnY and_self ?_;refine ju ev0 g7 ev0 rfl hmf ?_;rw[hgt];refine wnY and_self ?_;refine⟨(sv,k+1),by dsimp only;omega,⟨by dsimp only;omega,by omega,g3,g4,g5,g6,g7,?_,g9⟩,ag0⟩;dsimp only;rw[hks];exact g8
 rw[if_neg hlead] at hmf hks;refine wnY and_self ?_;refine ju ev0 g7 ev0 rfl hmf ?_;have hgf:Go.Abs.mget (.bool false) false none (nP E.length)=.bool false:=rfl;rw[hgf];refine wnY (aI @b5 @g5) ?_;refine lpI (X:=AV×Nat) (λx=>[(1,.ptr 0 2 0),(2,.ptr 1 2 0),(4,.ptr 2 2 0),(6,.ptr 3 2 0),(7,.mp 4),(10,.int .i64 k),(11,x.1),(40,.int .i64 c),(41,.int .i64 k),(50,bm E),(51,.int .i64 E.length),(52,.int .i64 x.2)]) (λx H' nx'=>x.2<=E.length/\nx<=nx'/\(∀b,b<nx->H' b=H b)/\Row H' 1 x.1 ((pf (E.take x.2) k).map (AV.int .i64))/\∀b,bv x.1=some b->nx<=b/\b<nx') (λx=>E.length-x.2) (.msl nx 1 1 0 1,0) ⟨bw _,by omega,λb hb=>ac (by omega),?_,λb hb=>by cases hb;omega⟩ ?_
 ·exact Row.box nx 1 [.int .i64 k] ah rfl
 rintro⟨kv,j⟩ H' nx' ⟨h1,h2,h3,h4,h5⟩;dsimp only at h1 h2 h3 h4 h5 |-;by_cases hj:j<E.length
 ·have ix:=zN hj;have hrm:=ay (l:=E) hj;have hn:=hred.ne _ hrm;have ix0:=Hk hn;have hks:=CD (E:=E) (q:=k) hj;have hul:=yZ (E:=E.take j) (q:=k);rw[eM] at hul;have hha:=Gi (E.getD j default) k (by have:=fE (hred.asc _ hrm) (hEv _ hrm);omega) (hred.asc _ hrm);generalize E.getD j default=r at *;by_cases hin:(k:Int)∈r
  ·rw[if_pos hin] at hks;rw[aL hin] at hha;refine wnY (aI @ix @ix0) ?_;refine eR (h4.same λb hb=>?_) ?_
   ·have:=h5 b hb;rw[ac (by omega)]
   rintro s2 H2 nx2 hr2 i1 i2 i3 i4;refine wnY and_self ?_;refine⟨(s2,j+1),by dsimp only;omega,⟨by dsimp only;omega,by omega,λb hb=>?_,?_,λb hb=>?_⟩,ag0⟩
   ·exact(i3 b (by omega) λe=>by have:=h5 b e;omega).trans ((ac (by omega)).trans (h3 b hb))
   ·dsimp only;rw[hks,cl];exact hr2
   ·rcases i4 b hb with h|h
    ·have:=h5 b h;omega
    ·omega
  ·rw[if_neg hin,eH] at hks;rw[aO hin] at hha;refine wnY (aI @ix @ix0) ?_;refine⟨(kv,j+1),by dsimp only;omega,⟨by dsimp only;omega,h2,h3,by dsimp only;rw[hks];exact h4,h5⟩,ag0⟩
 obtain rfl:j=E.length:=by omega
 rw[fI (aR _)] at h4;have hul:=yZ (E:=E) (q:=k);have hu0:0<(pf E k).length:=Nat.succ_pos _;obtain⟨B,rfl,hB⟩:=zG h4 hu0;have hBn:=h5 B rfl;refine wnY and_self ?_;refine bc ev0 ev0 (hso hB hBn.2 rfl hu0 (by omega)) ?_;rintro _ H2 nx2 ⟨L',hps,hperm,hsrt⟩;obtain rfl:=Cz hred hlead hperm hsrt;have hlen:=hperm.length_eq;have q0:∀b,b<nx->H2 b=H b:=λb hb=>(hps.fr b (by omega) (by omega)).trans (h3 b hb);have hle:=hps.le
 have hsn:Snap (only B ((uN E k).map (AV.int .i64))) (.msl B (pf E k).length 1 0 (pf E k).length) (aC (uN E k)):=by
  rw[<-hlen];have:=Row.box (sz:=1) B (uN E k).length ((uN E k).map (AV.int .i64)) ji (by rw[bi,Nat.mul_one]);rw[Nat.mul_one] at this;exact this.snapI
 clear hB hperm hsrt h4 hul hu0;generalize uN E k=v at *;refine jT (a_n ?_);refine pI _ _ [(1,.ptr 0 2 0),(2,.ptr 1 2 0),(4,.ptr 2 2 0),(6,.ptr 3 2 0),(7,.mp 4),(11,aC v),(40,.int .i64 c),(41,.int .i64 k)] (Fz.one hps.at_) ⟨.inl rfl,.inl rfl,.inl rfl,.inl rfl,.inl rfl,.inr hsn,.inl rfl,.inl rfl,trivial⟩ ?_;have q:∀b,b<nx->dl H2 B b=H b:=λb hb=>(cq (by omega)).trans (q0 b hb);clear hps q0 hsn;generalize dl H2 B=H4 at *;have q3:=(q 3 (by omega)).trans g6;have kll:=Ae (E:=E) (k:=k);refine wnY @q3 ?_;refine eR (g8.same λb hb=>?_) ?_
 ·have:=g9 b hb;rw[ac (by omega)];exact q b (by omega)
 rintro s2 H3 nx3 hr2 i1 i2 i3 i4;have hdo:∀b,b<=4->bv sv≠some b:=λb hb e=>by have:=g9 b e;omega
 have lo2:∀b,b<=4->H3 b=H b:=λb hb=>(i3 b (by omega) (hdo b hb)).trans ((ac (by omega)).trans (q b (by omega)))
 have hn2:∀b,bv s2=some b->4<b/\b<nx3:=λb hb=>by
  rcases i4 b hb with h|h
  ·have:=g9 b h;omega
  ·omega
 have k6:=(lo2 3 (by omega)).trans g6;obtain⟨o1,o2⟩:=hr2.one;refine wnY (zI3 @k6 @o1 @o2) ?_;refine⟨(s2,k+1),by dsimp only;omega,⟨by dsimp only;omega,by omega,(ac (by omega)).trans ((lo2 0 (by omega)).trans g3),(ac (by omega)).trans ((lo2 1 (by omega)).trans g4),(ac (by omega)).trans ((lo2 2 (by omega)).trans g5),by rw[ah];rfl,(ac (by omega)).trans ((lo2 4 (by omega)).trans g7),?_,hn2⟩,ag0⟩;dsimp only;rw[hks,cl];exact hr2.same λb hb=>by have:=hn2 b hb;rw[ac (by omega)]
theorem nH(c:List Spx)(d:Nat)(hc:az c=0)(hl:c.length<=50)(hd:d<=7)(H:Hp)(nx:Nat):
    Abs.Fn Tryz.prog 81 [bH c,.int .i64 d] H nx λr H' nx'=>∃b,r=.tup [.ptr b 3 0,.int .i64 0]/\nx<=b/\b<nx'/\(∀x,x<nx->H' x=H x)/\H' b=some [.int .i64 (bdN c d),bm (bdE c d),.int .i64 (bdE c d).length]:=by
 refine fO Nn ?_;simp only[b81,aH];have he:=m8 c (d+1) hc hl (by omega);have hs:=rV c d hc hl (by omega);have h2:=cw hc hl (d:=(d:Int)+1+1);have h1:=cw hc hl (d:=(d:Int)+1);rw[show((d+1:Nat):Int)=(d:Int)+1 by omega] at he;have ht:=yM (aB c ((d:Int)+1+1)).length (dR (aB c ((d:Int)+1+1)) (aB c ((d:Int)+1))) (ll (by omega) (by omega));rw[gu] at ht;have hel:(bdE c d).length<=bdN c d:=rY;have hec:pU 134 [dA (bdN c d) (bdM c d)] (.tup [dA (bdN c d) (bdE c d),.int .i64 0]):=oe _ _ (wq hc hl);have hq:((aB c ((d:Int)+1)).length:Int)=bdN c d:=rfl;have hm:trL (aB c ((d:Int)+1+1)).length (dR (aB c ((d:Int)+1+1)) (aB c ((d:Int)+1)))=bdM c d:=rfl;rw[hm] at ht;rw[hq] at hs ht;have z0:decide ((0:Int)≠0)=false:=rfl;have z2:am c=am c:=rfl;generalize dR (aB c ((d:Int)+1+1)) (aB c ((d:Int)+1))=R at *;generalize (aB c ((d:Int)+1+1)).length=m at *;generalize bdM c d=M at *;generalize bdE c d=E at *;have hN:bdN c d<=3500:=h1;generalize bdN c d=n at *;have d1:Dat (.agg [.int .i64 m,bm R]):=c8 m R;have d2:Dat (.agg [.int .i64 n,bm M]):=c8 n M;rw[cH] at he ht hec;rw[cH] at ht hec;refine wnY (zI4 @z0 @ai @af @b5) ?_;exact⟨nx+3,rfl,by omega,by omega,λx hx=>by(repeat rw[ac (by omega)]),ah⟩
theorem Gm(c:List Spx)(d:Nat)(H:Hp)(nx:Nat):Abs.Fn Tryz.prog 50 [bH c,.int .i64 d] H nx λr H' nx'=>r=.func 102 [.ptr nx 1 0,.ptr (nx+1) 1 0]/\H'=ar (ar H nx [am c]) (nx+1) [.int .i64 d]/\nx'=nx+2:=by
 refine fO NM ?_;simp only[b50,aH];refine wnY (aI @ai @af) ?_;exact⟨rfl,rfl,rfl⟩
theorem Gd{y cb db:Nat}(c:List Spx)(d:Nat)(hso:qM (bdN c d+1))(hc:az c=0)(hl:c.length<=50)(hd:d<=7)(hn:bdN c d<=1000)(H:Hp)(nx:Nat)(I:List Nat->List (List Int)->Hp->Nat->Prop)
    (g1:H cb=some [am c]) (g2:H db=some [.int .i64 d]) (hcb:cb<nx) (hdb:db<nx)
    (st:∀F F' D H nx H' nx',I F D H nx->nx<=nx'->(∀x,x<nx->x∉F->H' x=H x)->(∀x∈F',x∈F\/nx<=x/\x<nx')->I F' D H' nx')
    (rnd:∀F D v H nx,I F D H nx->v∈bsK c d->D.length<=1000->Yl Tryz.prog y [aC v,.int .i64 0] H nx λr H' nx'=>r=.bool true/\nx<=nx'/\(∀x∈F,H' x=H x)/\I F (D++[v]) H' nx')
    (h0:I [] [] H nx):
    Abs.Fn Tryz.prog 102 [.yld y,.ptr cb 1 0,.ptr db 1 0] H nx λ_ H' nx'=>∃F,I F (bsT (bdE c d) (bdN c d) (bsK c d) (bsK c d).length) H' nx':=by
 refine fO Mj ?_;simp only[L7,aH];have hbd:=λH nx=>nH c d hc hl hd H nx;have he:=m8 c d hc hl (by omega);have hk:=D4 _ _ (D0 (d:=d) hc hl) hso;rw[show tn (c7 (dR (aB c ((d:Int)+1)) (aB c d)) (bdN c d)) (bdN c d)=bsK c d from rfl] at hk;rw[show(((aB c ((d:Int)+1)).length:Nat):Int)=(bdN c d:Int) from rfl] at he;obtain⟨mE,rE,-⟩:=D3 (d:=d) hc hl;obtain⟨mK,lK⟩:=Fr (d:=d) hc hl;have lE:(bdE c d).length<=bdN c d:=rY;have eE:=Bk rE (lU mE);have hd1:Dat (.agg [.int .i64 (bdN c d),bm (dR (aB c ((d:Int)+1)) (aB c d))]):=c8 _ _;rw[pA] at hbd he;rw[cH] at he;rw[cH,cH] at hk;generalize dR (aB c ((d:Int)+1)) (aB c d)=R at *;have dcx:Dat (.agg [am c]):=cI c;generalize bdE c d=E at *;generalize bdN c d=n at *;generalize bsK c d=K at *;have z0:decide ((0:Int)≠0)=false:=rfl;have z1:decide ((0:Int)=0)=true:=rfl;refine wnY (aI @g1 @g2) ?_;refine bc ev0 ev0 (hbd _ _) ?_;rintro _ H1 nx1 ⟨b,rfl,b1,b2,b3,b4⟩;have g1':=(b3 cb hcb).trans g1;have g2':=(b3 db hdb).trans g2;refine wnY (zI5 @g1' @g2' @z0 @z1 @b5) ?_;refine lpI (X:=AV×Nat) (λx=>[(0,.yld y),(4,.ptr b 3 0),(39,bm K),(40,.int .i64 K.length),(41,.int .i64 x.2)]) (λx H' nx'=>x.2<=K.length/\I (b::G8 (bv x.1)) (bsT E n K x.2) H' nx'/\H' b=some [.int .i64 n,x.1,.int .i64 (c7 (E++bsT E n K x.2) n).length]/\jN H' x.1 (E++bsT E n K x.2)/\b<nx'/\∀z,bv x.1=some z->z<nx'/\z≠b) (λx=>K.length-x.2) (bm E,0) ⟨bw _,?_,?_,?_,by omega,λz h=>?_⟩ ?_
 ·refine st [] _ [] _ nx _ _ h0 (by omega) (λx hx _=>?_) (λx hx=>?_)
  ·(repeat rw[ac (by omega)])
   exact b3 x hx
  ·rcases da.1 hx with rfl|hx
   ·exact .inr ⟨by omega,by omega⟩
   ·cases hx
 ·(repeat rw[ac (by omega)])
  show H1 b=some [.int .i64 n,bm E,.int .i64 (c7 (E++[]) n).length];rw[eH,eE];exact b4
 ·refine .inl ?_;show bm E=bm (E++[]);rw[eH]
 ·exact by cases h
 clear h0 b3 b4 g1' g2' g1 g2;rintro⟨rv,k⟩ H' nx' ⟨h1,h2,h3,h4,h5,h6⟩;dsimp only at h1 h2 h3 h4 h5 h6 |-;by_cases hk2:k<K.length
 rotate_left
 ·obtain rfl:k=K.length:=by omega
  refine wnY and_self ?_;exact⟨_,h2⟩
 have ix:=zN hk2;have hTl:=Cc (E:=E) (n:=n) (K:=K) (k:=k);have hTm:=xK (E:=E) (n:=n) (K:=K) h1;have hss:bsT E n K (k+1)=if (c7 ((E++bsT E n K k)++[K.getD k default]) n).length=(c7 (E++bsT E n K k) n).length then bsT E n K k else bsT E n K k++[K.getD k default]:=rfl
 have hvm:K.getD k default∈K:=ay hk2;generalize K.getD k default=v at *;have mS:fK n ((E++bsT E n K k)++[v]):=mG (mG mE (po mK (by omega) hTm) (by omega)) (po mK (by simp) λr hr=>by rw[cW] at hr;rw[hr];exact hvm) (by rw[cA];simp only[bK,fo];omega);have hadd:=Ic n (E++bsT E n K k) (c7 (E++bsT E n K k) n).length v rv b H' nx' mS h3 h5 h4 λx hx=>(h6 x hx).1;generalize hT:bsT E n K k=D at *;refine wnY @ix ?_;refine bc ev0 ev0 hadd ?_;rintro _ H2 nx2 ⟨q1,q2,q3⟩;rcases q3 with⟨e1,rfl,e3⟩|⟨e1,rfl,wv,e3,e4,e5⟩
 ·rw[if_pos e1] at hss;refine wnY @z0 ?_;refine⟨(rv,k+1),by dsimp only;omega,⟨by dsimp only;omega,?_,?_,?_,by omega,λz hz=>by have:=h6 z hz;omega⟩,ag0⟩
  ·dsimp only;rw[hss];exact st _ _ _ _ _ _ _ h2 q1 (λx hx hF=>q2 x hx λe=>hF (by rw[e];exact dg ..)) λx hx=>.inl hx
  ·dsimp only;rw[hss,e3];exact h3
  ·dsimp only;rw[hss];exact h4.same λz hz=>q2 z (h6 z hz).1 (h6 z hz).2
 rw[if_neg e1] at hss
 have hI2:I (b::G8 (bv wv)) D H2 nx2:=st _ _ _ _ _ _ _ h2 q1 (λx hx hF=>q2 x hx λe=>hF (by rw[e];exact dg ..)) λx hx=>by
  rcases da.1 hx with rfl|hx
  ·exact .inl (dg ..)
  ·exact .inr (e5 x (zf.1 hx))
 refine wnY @z0 ?_;refine xz ev0 ev0 (Yl.mono (rnd _ D v _ _ hI2 hvm (by omega)) ?_);rintro _ H3 nx3 ⟨rfl,r1,r2,r3⟩;refine wnY @z0 ?_;refine⟨(wv,k+1),by dsimp only;omega,⟨by dsimp only;omega,?_,?_,?_,by omega,λz hz=>?_⟩,ag0⟩
 ·dsimp only;rw[hss];exact r3
 ·dsimp only;rw[hss,r2 b (dg ..),e3,il]
 ·dsimp only;rw[hss,<-il];exact e4.same λz hz=>r2 z (ec _ (zf.2 hz))
 ·have:=e5 z hz;omega
theorem CE(c:List Spx)(d:Nat)(hso:qM (bdN c d+1))(hc:az c=0)(hl:c.length<=50)(hd:d<=7)(hn:bdN c d<=1000):pU 18 [bH c,.int .i64 d] (.tup [cV (cyT c d),.int .i64 0]):=by
 refine pO Oi ?_;simp only[b18,aH];have hch:=lw c hc hl;obtain⟨mK,lK⟩:=Fr (d:=d) hc hl
 have hchn:∀v∈bsK c d,pU 34 [bH c,.int .i64 d,aC v] (.tup [am (eo (aB c ((d:Int)+1)) v),.int .i64 0]):=λv hv=>by
  have:=xn c d v hl (iW hc) (by have:=(mK.2.2.2 v hv).2.1;omega);have hz:tc (aB c ((d:Int)+1)).length v=0:=BM (eT mK v hv) (lU mK v hv)
  have e:An c d v=(eo (aB c ((d:Int)+1)) v,0):=by
   unfold An;rw[if_neg (λq=>q hc),if_neg (by omega),if_neg (λq=>q hz)]
  rw[e] at this;exact this
 unfold cyT;generalize aB c ((d:Int)+1)=X at *;have z0:decide ((0:Int)≠0)=false:=rfl;have z1:decide ((d:Int)<0)=false:=aO (by omega);have z2:decide ((8:Int)<=d)=false:=aO (by omega);refine wnY (zI5 @z0 @z1 @z2 @ai @af) ?_;refine bc ev0 ev0 (Gm c d _ _) ?_;rintro _ H1 nx1 ⟨rfl,rfl,rfl⟩;refine wnY and_self ?_;refine np 7 8 rfl rfl ev0 (λc0 cj hy=>?_);refine Abs.Fn.mono (Gd (nx:=8) (cb:=5) (db:=6) c d hso hc hl hd hn _ (I:=λF D H' nx'=>8<=nx'/\H' 0=some [am c]/\H' 1=some [.int .i64 d]/\H' 2=some [.esl]/\H' 3=some [.int .i64 0]/\H' 7=some [c0]/\(∀x∈F,8<=x/\x<nx')/\∃sv,H' 4=some [sv]/\Row H' 1 sv ((D.map (eo X)).map am)/\∀b',bv sv=some b'->8<=b'/\b'<nx'/\b'∉F) ?_ ?_ (by omega) (by omega) ?_ ?_ ?_) ?_
 ·rfl
 ·rfl
 ·rintro F F' D H nx H' nx' ⟨h1,h2,h3,h4,h5,h6,h7,sv,h8,h9,h10⟩ hle hs hF;have lo:∀x,x<8->H' x=H x:=λx hx=>hs x (by omega) λe=>by have:=h7 x e;omega
  refine⟨by omega,(lo 0 (by omega)).trans h2,(lo 1 (by omega)).trans h3,(lo 2 (by omega)).trans h4,(lo 3 (by omega)).trans h5,(lo 7 (by omega)).trans h6,λx hx=>?_,sv,(lo 4 (by omega)).trans h8,h9.same λb hb=>?_,λb hb=>?_⟩
  ·rcases hF x hx with h|h
   ·have:=h7 x h;omega
   ·omega
  ·obtain⟨p1,p2,p3⟩:=h10 b hb;exact hs b p2 p3
  ·obtain⟨p1,p2,p3⟩:=h10 b hb;refine⟨p1,by omega,λe=>?_⟩;rcases hF b e with h|h
   ·exact p3 h
   ·omega
 ·rintro F D v H' nx' ⟨h1,h2,h3,h4,h5,h6,h7,sv,h8,h9,h10⟩ hv hDl;refine hy _ _ _ _ h6 rfl ?_;clear hy;refine wnZ and_self ?_;refine⟨h6,?_⟩;have hdo:∀x,x≠7->dl H' 7 x=H' x:=λx b=>cq b;have hcv:=hchn v hv;rw[pA] at hcv;have dcx:Dat (.agg [am c]):=cI c;generalize hH1:dl H' 7=H1 at *;have g2:=(hdo 0 (by omega)).trans h2;have g3:=(hdo 1 (by omega)).trans h3;have g4:=(hdo 4 (by omega)).trans h8;generalize hpv:eo X v=pv at *;refine wnY (zI6 @g2 @g3 @g4 @z0 @ai @af) ?_;refine gI rfl ev0 (h9.same λb' hb'=>?_) ev0 eA rfl rfl jq (by rw[bi,bi];omega) (by rw[bi,bi];omega) ?_
  ·have:=h10 b' hb';rw[ac (by omega)];exact hdo _ (by omega)
  rintro sv' H3 nx3 r1 r2 r3 r4 r5;have zs:∀x,x<8->bv sv≠some x:=λx hx e=>by have:=h10 x e;omega
  have z:∀x,x<nx'->x≠7->bv sv≠some x->H3 x=H' x:=λx a1 a2 a3=>(r4 x (by omega) a3).trans (by rw[ac (by omega)];exact hdo x a2);have k4:H3 4=some [sv]:=(z 4 (by omega) (by omega) (zs _ (by omega))).trans h8;obtain⟨q1,q2⟩:=r1.one;refine wnY (zI3 @k4 @q1 @q2) ?_;have w:∀x,x≠4->x≠7->ar (ar H3 4 [sv']) 7 [c0] x=H3 x:=λx a1 a2=>by rw[ac a2,ac a1]
  have u8:∀b',bv sv'=some b'->8<=b'/\b'<nx3/\b'∉F:=λb' hb'=>by
   rcases r5 b' hb' with e|⟨e1,e2⟩
   ·obtain⟨p1,p2,p3⟩:=h10 b' e;exact⟨p1,by omega,p3⟩
   ·exact⟨by omega,by omega,λe=>by have:=h7 b' e;omega⟩
  refine⟨rfl,by omega,λx hx=>?_,by omega,(w 0 (by omega) (by omega)).trans ((z 0 (by omega) (by omega) (zs _ (by omega))).trans h2),(w 1 (by omega) (by omega)).trans ((z 1 (by omega) (by omega) (zs _ (by omega))).trans h3),(w 2 (by omega) (by omega)).trans ((z 2 (by omega) (by omega) (zs _ (by omega))).trans h4),(w 3 (by omega) (by omega)).trans ((z 3 (by omega) (by omega) (zs _ (by omega))).trans h5),ah,λx hx=>?_,sv',?_,?_,u8⟩
  ·have:=h7 x hx;refine(w x (by omega) (by omega)).trans ?_;exact z x (by omega) (by omega) λe=>(h10 x e).2.2 hx
  ·have:=h7 x hx;omega
  ·exact(ac (by omega)).trans ah
  ·rw[cl,cl,show [v].map (eo X)=[pv] by rw[<-hpv];rfl];exact r1.same λb' hb'=>w b' (by have:=u8 b' hb';omega) (by have:=u8 b' hb';omega)
 ·refine⟨aR _,rfl,rfl,rfl,rfl,ah,λx hx=>(by cases hx),.esl,rfl,.nil,λb' hb'=>(by cases hb')⟩
 ·rintro r H' nx' ⟨F,h1,h2,h3,h4,h5,h6,h7,sv,h8,h9,h10⟩;refine .inl ⟨h6,?_⟩;obtain⟨q1,q2⟩:=h9.one;have lo:∀x,x≠7->dl H' 7 x=H' x:=λx b=>cq b;have k1:Row (dl H' 7) 1 sv (((bsT (bdE c d) (bdN c d) (bsK c d) (bsK c d).length).map (eo X)).map am):=h9.same λb' hb'=>lo b' (by have:=h10 b' hb';omega);have k2:=(lo 2 (by omega)).trans h4;have k3:=(lo 3 (by omega)).trans h5;have k4:=(lo 4 (by omega)).trans h8;generalize dl H' 7=H1 at *;refine wnY (zI5 @k2 @k3 @k4 @q1 @q2) ?_;refine bb (ag (EV (k1.same λb' hb'=>?_)) (ag (.int _ _) aj));have:=h10 b' hb';rw[ac (by omega),ac (by omega)]
theorem Ei(c:List Spx)(m:Nat)(hc:az c=0)(hl:c.length<=50)(hm:tt c=m)(hm8:m<=8)(G:Hp)(n0:Nat):Abs.Fn Tryz.prog 44 [bH c] G n0 λr H' nx'=>∃sv,r=.tup [sv,.int .i64 0]/\Row H' 1 sv ((btL c m).map (AV.int .i64))/\n0<=nx'/\(∀x,x<n0->H' x=G x)/\∀b,bv sv=some b->n0<=b/\b<nx':=by
 refine fO KH ?_;simp only[b44,aH];have hdi:=o8 c hc hl;rw[hm] at hdi;have z0:decide ((0:Int)≠0)=false:=rfl;have hed:=λd(h:d<=8)=>m8 c d hc hl h;have hsz:=λd(h:d<=8)=>rV c d hc hl h;have hrl:=λd:Int=>cw hc hl (d:=d);have hrk:=λd:Nat=>A4 (aB c ((d:Int)+1)).length (dR (aB c ((d:Int)+1)) (aB c d)) (ll (by have:=hrl ((d:Int)+1);omega) (by have:=hrl d;omega));have hrf:=λd:Nat=>xx (c:=c) (d:=d);refine wnY (zI3 @z0 @ai @af) ?_;refine u0 ?_;refine wnY and_self ?_;refine lpI (X:=Nat) (λk=>[(1,.ptr n0 1 0),(4,.int .i64 ((m:Int)-1)),(7,.mp (n0+1)),(26,.int .i64 ((m:Int)-1+2)),(27,.int .i64 k)]) (λk H nx=>k<=m+1/\n0+2<=nx/\H n0=some [am c]/\H (n0+1)=some [.omap ((rkK k).map (AV.int .i64)) (rkV c k)]/\∀x,x<n0->H x=G x) (λk=>m+1-k) 0 ⟨bw _,aR _,(ac (by omega)).trans ah,ah,λx hx=>by rw[ac (by omega),ac (by omega)]⟩ ?_;rintro k H nx ⟨g1,g2,g3,g4,gl⟩;by_cases hk:k<m+1
 ·have hed1:=hed k (by omega);have hrk1:=hrk k;have hr1:=hrl ((k:Int)+1);have hd1:Dat (dA (aB c ((k:Int)+1)).length (dR (aB c ((k:Int)+1)) (aB c k))):=c8 _ _;change pU 97 _ (.tup [.int .i64 (rkF c k),.int .i64 0]) at hrk1;rw[cH] at hed1 hrk1 hd1;generalize dR (aB c ((k:Int)+1)) (aB c k)=R at *;generalize (aB c ((k:Int)+1)).length=n at *;have z1:decide ((k:Int)<(m:Int)-1+2)=true:=aL (by omega);refine wnY (zI5 @g3 @z0 @z1 @ai @af) ?_;have hmf:=iO (k:Int) (rkK k);rw[if_neg (λq=>by have:=kX.1 q;omega)] at hmf;refine pN ev0 ((ac (by omega)).trans ((ac (by omega)).trans g4)) ev0 ev0 rfl hmf ?_;refine wnY @z0 ?_;refine⟨k+1,by omega,⟨by omega,by omega,by rw[ac (by omega),ac (by omega),ac (by omega)];exact g3,?_,λx hx=>by rw[ac (by omega),ac (by omega),ac (by omega)];exact gl x hx⟩,ag0⟩;rw[ah,xX,zC,cl];rfl
 obtain rfl:k=m+1:=by omega
 have z1:decide (((m+1:Nat):Int)<(m:Int)-1+2)=false:=aO (by omega);refine wnY @z1 ?_;refine lpI (X:=AV×Nat) (λx=>[(1,.ptr n0 1 0),(7,.mp (n0+1)),(11,x.1),(51,.int .i64 ((m:Int)-1+1)),(52,.int .i64 x.2)]) (λx H nx=>x.2<=m/\n0+2<=nx/\H n0=some [am c]/\H (n0+1)=some [.omap ((rkK (m+1)).map (AV.int .i64)) (rkV c (m+1))]/\Row H 1 x.1 ((btL c x.2).map (AV.int .i64))/\(∀b,bv x.1=some b->n0+2<=b/\b<nx)/\∀x,x<n0->H x=G x) (λx=>m-x.2) (.esl,0) ⟨bw _,g2,g3,g4,Row.nil,λb h=>(by cases h),gl⟩ ?_;clear g1 g2 g3 g4 gl;rintro⟨sv,k⟩ H nx ⟨g1,g2,g3,g4,g5,g6,gl⟩;dsimp only at g1 g2 g3 g4 g5 g6 gl |-;by_cases hk:k<m
 rotate_left
 ·obtain rfl:k=m:=by omega
  have z1:decide ((k:Int)<(k:Int)-1+1)=false:=aO (by omega);refine wnY @z1 ?_;exact⟨sv,rfl,g5,by omega,gl,λb hb=>by have:=g6 b hb;omega⟩
 have hsz1:=hsz k (by omega);have hr1:=hrl ((k:Int)+1);have hr2:=hrl (((k+1:Nat):Int)+1);have hf1:=hrf k;have hf2:=hrf (k+1);have hmf1:=iO (k:Int) (rkK (m+1));rw[if_pos (kX.2 (by omega)),rS (by omega)] at hmf1;have hmf2:=iO ((k+1:Nat):Int) (rkK (m+1));rw[if_pos (kX.2 (by omega)),rS (by omega)] at hmf2;rw[show((k+1:Nat):Int)=(k:Int)+1 by omega] at hmf2;have hv1:Go.Abs.mget (.int .i64 0) false (some k) (rkV c (m+1))=.int .i64 (rkF c k):=rM (by omega);have hv2:Go.Abs.mget (.int .i64 0) false (some (k+1)) (rkV c (m+1))=.int .i64 (rkF c (k+1)):=rM (by omega);have hsn:=zR (c:=c) (n:=k);have hbl:(btL c k).length=k:=by unfold btL;simp
 have hbf:btF c k=((aB c ((k:Int)+1)).length:Int)-(rkF c k:Int)-(rkF c (k+1):Int):=rfl;rw[hbf] at hsn;generalize rkF c k=f1 at *;generalize rkF c (k+1)=f2 at *;generalize (aB c ((k:Int)+1)).length=n at *;generalize (aB c (((k+1:Nat):Int)+1)).length=n2 at *;have z1:decide ((k:Int)<(m:Int)-1+1)=true:=aL (by omega);refine wnY (zI5 @g3 @z0 @z1 @ai @af) ?_;refine ju ev0 g4 ev0 rfl hmf1 ?_;rw[hv1];refine wnY and_self ?_;refine ju ev0 g4 ev0 rfl hmf2 ?_;rw[hv2];refine wnY and_self ?_;refine eR (g5.same λb hb=>?_) ?_
 ·have:=g6 b hb;rw[ac (by omega)]
 rintro s2 H2 nx2 hr3 i1 i2 i3 i4;have hdo:∀b,b<n0+2->bv sv≠some b:=λb hb e=>by have:=g6 b e;omega
 have lo2:∀b,b<n0+2->H2 b=H b:=λb hb=>(i3 b (by omega) (hdo b hb)).trans (by rw[ac (by omega)]);refine wnY and_self ?_;refine⟨(s2,k+1),by dsimp only;omega,⟨by dsimp only;omega,by omega,(lo2 n0 (by omega)).trans g3,(lo2 (n0+1) (by omega)).trans g4,?_,λb hb=>?_,λx hx=>(lo2 x (by omega)).trans (gl x hx)⟩,ag0⟩
 ·dsimp only;rw[hsn,cl];exact hr3
 ·rcases i4 b hb with h|h
  ·have:=g6 b h;omega
  ·omega
theorem JC(n:Int):pU 49 [.int .i64 n] (.bool (decide (n≠0))):=by
 refine pO N7 ?_;simp only[b49,aH]
 repeat' (first|refine zW ?_|apply a_n|refine zO ?_|refine vZ ?_|refine bS rfl ?_|refine r1Z ?_|fail)
 exact .bool _
theorem pg(c:List Spx)(m:Nat)(k:Int)(hc:az c=0)(hl:c.length<=50)(hm:tt c=m)(hm8:m<=8)(hk:-1<=k/\k<8):pU 15 [bH c,.int .i64 k] (.tup [.bool (HP (btL c m) k),.int .i64 0]):=by
 refine pO NC ?_;simp only[b15,aH];have hch:=lw c hc hl;have hbt:=λG n0=>Ei c m hc hl hm hm8 G n0;have hlen:=Hw (c:=c) (m:=m);have hbd:=IZ (m:=m) hc hl;have z0:decide ((0:Int)≠0)=false:=rfl;have z1:decide (k<(-1:Int))=false:=aO (by omega);have z2:decide ((8:Int)<=k)=false:=aO (by omega);generalize btL c m=l at *;have zz:=aI @z0 (aI @z1 (aI @z2 (aI @ai @af)));repeat' (first|refine zW ?_|apply a_n|refine zO ?_|refine vY ?_|refine cY ?_ (hp:=hch) (hs:=by(first|refine aF ?_ rfl|apply aW);(repeat' (first|exact aj|apply bo|apply aX|exact cI _));first|done|fail)|refine bxY ?_|refine gTY ?_|refine cFY ?_|fail)
 rw[pA] at hbt;refine bc ev0 ev0 (hbt _ _) ?_;rintro _ H1 nx1 ⟨sv,rfl,hrow,h1,h2,h3⟩;have hls:=hrow.lenS (n:=l.length) (by rw[bi,Nat.mul_one]) jq;cases l with
 |nil=>
  have zn:decide ((0:Int)=0)=true:=rfl;have hls0:dx sv=some (.int .i64 0):=hls;clear zz;have zz:=aI @z0 (aI @hls0 @zn);repeat' (first|refine zW ?_|apply a_n|apply a_r|refine zO ?_|refine vY ?_|refine gTY ?_|(refine zGY ?_ ?_<;>(intro _hg;try (exfalso;omega)))|refine bS rfl ?_|refine r2Y ?_|fail)
  exact bb (ag (.bool _) (ag (.int _ _) aj))
 |cons x r=>
  have zn:decide ((((r.length+1:Nat):Nat):Int)=0)=false:=aO (by omega);obtain⟨B,rfl,hB⟩:=zG hrow (by simp);have hx:=hbd x (dg ..);have hB1:H1 B=some (.int .i64 x::r.map (AV.int .i64)):=hB;have hN:(x::r).length=r.length+1:=rfl;rw[hN] at hls h3 |-;clear zz;have zz:=aI @z0 (aI @hls @zn);repeat' (first|refine zW ?_|apply a_n|refine zO ?_|refine vY ?_|refine gTY ?_|refine cFY ?_|fail)
  have hlc:(AV.int .i64 x::r.map (AV.int .i64)).length=r.length+1:=by simp
  clear zz;have zz:=aI @hB1 (aI @hlc (aI @Int.toNat_zero @xP));repeat' (first|refine zW ?_|apply a_n|refine zO ?_|refine vY ?_|refine stY ?_|fail)
  have hcj:HP (x::r) k=!((((x-1)::r).take (min (k+1) ((r.length+1:Nat):Int)).toNat).any λn=>decide (n≠0)):=rfl;obtain⟨j,hj,hjl⟩:∃j:Nat,min (k+1) ((r.length+1:Nat):Int)=j/\j<=r.length+1:=⟨(min (k+1) ((r.length+1:Nat):Int)).toNat,by omega,by omega⟩
  rw[hj,cz] at hcj;rw[hcj,hj]
  have hsl:jI 1 (.msl B (r.length+1) 1 0 (r.length+1)) none (some (.int .i64 j)) none=some (.msl B (r.length+1) 1 0 j):=by
   simp[jI,bJ];omega
  clear zz;have zz:=@hsl;repeat' (first|apply a_n|refine zO ?_|refine vY ?_|fail)
  refine ef ev0 ev0 (pE (((x-1)::r).take j) (λn=>decide (n≠0)) 49 [] (λx h=>(by cases h)) (λx _=>JC x) (show _<=_ by rw[eM];simp;omega)) (aF (ag (Fb (l:=(x-1)::r) (n:=r.length+1) ah rfl hjl) (ag (vG aj) aj)) rfl) ?_
  repeat' (first|apply a_n|refine zO ?_|refine vY ?_|refine bS rfl ?_|refine r2Y ?_|fail)
  exact bb (ag (.bool _) (ag (.int _ _) aj))
theorem re(c:List Spx)(hl:c.length<=50)(hs:∀s∈c,Shn s):pU 45 [bH c] (.int .i64 (az c)):=by
 refine pO Nk ?_;simp only[b45,aH];have hcc:=wX c (show _<=_ by omega) hs;by_cases hc:az c=0
 rotate_left
 ·have z0:decide (az c≠0)=true:=aL hc;refine wnY (zI3 @ai @af @z0) ?_;exact .int _ _
 have hsm:=λk=>pB c k hl hs;unfold dr at hsm;rw[hc] at hcc |-;have z0:decide ((0:Int)≠0)=false:=rfl;refine wnY (zI3 @ai @af @z0) ?_;refine lpI (X:=Nat) (λk=>[(1,.ptr 0 1 0),(4,.int .i64 ((k:Int)+1))]) (λk H nx=>k<=8/\H 0=some [am c]) (λk=>8-k) 0 ⟨bw _,rfl⟩ ?_;rintro k H nx ⟨h1,h2⟩;by_cases hk:k<8
 ·have hk1:=hsm ((k:Int)+1);rw[if_neg (λq=>q hc),if_neg (by omega)] at hk1;generalize gx c ((k:Int)+1).toNat=X at *;have z1:decide ((k:Int)+1<=8)=true:=aL (by omega);refine wnY (zI5 @h2 @ai @af @z0 @z1) ?_;exact⟨k+1,by omega,⟨by omega,h2⟩,ag0⟩
 ·obtain rfl:k=8:=by omega
  have z1:decide (((8:Nat):Int)+1<=8)=false:=rfl;refine wnY @z1 ?_;exact .int _ _
theorem D8(c:List Spx)(d:Nat)(hc:az c=0)(hl:c.length<=50)(hd:d<=20):pU 53 [bH c,.int .i64 d] (dA (aB c ((d:Int)+1)).length (dR (aB c ((d:Int)+1)) (aB c d))):=by
 refine pO Ob ?_;simp only[b53,aH];obtain⟨p1,p2,p3,p4⟩:=dz hc;have h8:∀s∈c,s.length<=8:=λs h=>(cE (p2 s h)).2.1;have hX:=A6 c (d+1) hl h8 (by omega);rw[show((d+1:Nat):Int)=(d:Int)+1 by omega,<-Dz] at hX;have hXl:=gW (d:=(d:Int)+1) hl hc;have hYl:=gW (d:=(d:Int)) hl hc;have hXs:=fZ (d:=(d:Int)+1) hc;have hYs:=fZ (d:=(d:Int)) hc;rw[cH];by_cases hd0:d=0
 ·have eY:aB c (d:Int)=[]:=by unfold aB;rw[if_pos (by omega)]
  have z3:decide ((d:Int)=0)=true:=aL (by omega);rw[eY];generalize aB c ((d:Int)+1)=X at *;refine wnY (zI4 @ai @af @ae @z3) ?_;exact mV (ag (.int _ _) (ag (.eslsl 1) aj))
 have z3:decide ((d:Int)=0)=false:=aO (by omega);have hY:=A6 c d hl h8 (by omega);have eY:=yE (c:=c) (k:=d);rw[if_neg hd0] at eY;rw[<-eY] at hY
 have hb:=Dd (aB c ((d:Int)+1)) (aB c d) (by omega) (by omega) (me hXs) (me hYs) λi k hi hk=>by
  have m1:=ay hk;have m2:=ay hi;exact yu (l8 hXs _ m1) (l8 hYs _ m2) (n:=d) (by rw[(pX.1 m1).2.1];omega) (by rw[(pX.1 m2).2.1];omega) (by omega)
 rw[cH] at hb;generalize dR (aB c ((d:Int)+1)) (aB c d)=M at *;generalize aB c ((d:Int)+1)=X at *;generalize aB c (d:Int)=Y at *;have dM:Dat (.agg [.int .i64 X.length,bm M]):=Dat.agg (DatL.cons .int (DatL.cons (ku _) DatL.nil));refine wnY (zI4 @ai @af @ae @z3) ?_;exact dM _
theorem EC{R:List (List Int)}{c:Nat}(h:fK c R):xZ R c=c7 R c:=sN (eT h) (lU h)
theorem Eh(c:List Spx)(hc:az c≠0)(hl:c.length<=50)(hs:∀s∈c,Shn s):pU 37 [bH c] (.tup [.int .i64 0,.int .i64 (az c)]):=by
 refine pO K1 ?_;simp only[b37,aH];have hcc:=jE c (show _<=_ by omega) hs;generalize az c=e at *;have z0:decide (e≠(0:Int))=true:=aL hc;refine wnY (zI3 @z0 @ai @af) ?_;exact bb (ag (.int _ _) (ag (.int _ _) aj))
theorem n7(c:List Spx)(hl:c.length<=50)(hs:∀s∈c,Shn s):pU 43 [bH c] (.int .i64 (az c)):=by
 by_cases hc:az c=0
 ·rw[hc];exact lw c hc hl
 refine pO IX ?_;simp only[b43,aH];have he:=Eh c hc hl hs;refine wnY (aI @ai @af) ?_;exact .int _ _
def jC(c a b:List Spx):List Int×List Int×Int:=if (d9 c a).2≠0 then([],[],(d9 c a).2) else((d9 c a).1,(d9 c b).1,(d9 c b).2)
theorem Bx(c a b:List Spx)(hl:c.length<=50)(hs:∀s∈c,Shn s)(ha:ShC a)(hb:ShC b):pU 67 [bH c,am a,am b] (.tup [aC (jC c a b).1,aC (jC c a b).2.1,.int .i64 (jC c a b).2.2]):=by
 refine pO Oe ?_;simp only[b67,aH];have hch:=n7 c hl hs;have h1:=Aw c a hl hs ha;have h2:=Aw c b hl hs hb;have hce:az c≠0->d9 c a=([],az c):=λh=>by unfold d9;rw[if_pos h]
 unfold jC;generalize d9 c a=va at *;generalize d9 c b=vb at *;obtain⟨v,e⟩:=va;obtain⟨w,f⟩:=vb;dsimp only at *;by_cases hc:az c=0
 ·have z0:decide (az c≠(0:Int))=false:=aO (λq=>q hc);by_cases he:e=0
  ·subst he;have z1:decide ((0:Int)≠0)=false:=rfl;rw[if_neg (λq=>q rfl)];refine wnY (zI4 @z0 @z1 @ai @af) ?_;exact bb (ag (ct v).snap (ag (ct w).snap (ag (.int _ _) aj)))
  ·have z1:decide (e≠(0:Int))=true:=aL he;rw[if_pos he];refine wnY (zI4 @z0 @z1 @ai @af) ?_;exact bb (ag (.eslsl 1) (ag (.eslsl 1) (ag (.int _ _) aj)))
 ·have z0:decide (az c≠(0:Int))=true:=aL hc;cases hce hc;rw[if_pos hc];refine wnY (zI3 @z0 @ai @af) ?_;exact bb (ag (.eslsl 1) (ag (.eslsl 1) (ag (.int _ _) aj)))
def cyH(c a:List Spx):List Int×Int:=if (d9 c a).2≠0 then([],(d9 c a).2) else if bV a=[] then((d9 c a).1,0) else([],3)
theorem yo(c a:List Spx)(hl:c.length<=50)(hs:∀s∈c,Shn s)(ha:ShC a):pU 57 [bH c,am a] (.tup [aC (cyH c a).1,.int .i64 (cyH c a).2]):=by
 refine pO N6 ?_;simp only[b57,aH];have h1:=Aw c a hl hs ha;have h2:=Kl a ha;have hvf:=λv=>gf (c:=c) (a:=a) (v:=v);unfold cyH;unfold HN at h2;generalize d9 c a=va at *;obtain⟨v,e⟩:=va;dsimp only at *;by_cases he:e=0
 ·subst he;obtain⟨e1,e2,-⟩:=hvf v rfl;rw[if_neg (λq=>q e2)] at h2;dsimp only at h2;have z1:decide ((0:Int)≠0)=false:=rfl;have z2:decide ((0:Int)=0)=true:=rfl;rw[if_neg (λq=>q rfl)];by_cases hz:bV a=[]
  ·rw[aL hz] at h2;rw[if_pos hz];refine wnY (zI4 @z1 @z2 @ai @af) ?_;exact fU (ct _).snap rfl
  ·rw[aO hz] at h2;rw[if_neg hz];refine wnY (zI4 @z1 @z2 @ai @af) ?_;exact fU (.eslsl 1) rfl
 ·have z1:decide (e≠(0:Int))=true:=aL he;rw[if_pos he];refine wnY (zI3 @z1 @ai @af) ?_;exact fU (.eslsl 1) rfl
end
def BH(c a b:List Spx):Int:=if (jC c a b).2.2≠0 then(jC c a b).2.2 else if a≠[]/\b≠[]/\dp b≠dp a+1 then 15 else if (mP b).2≠0 then(mP b).2 else if (mP b).1=a then 0 else 18
theorem uk{c a b:List Spx}(h:(jC c a b).2.2=0):∃v w,d9 c a=(v,0)/\d9 c b=(w,0)/\jC c a b=(v,w,0):=by
 unfold jC at h |-;generalize d9 c a=va at *;generalize d9 c b=vb at *;obtain⟨v,e⟩:=va;obtain⟨w,f⟩:=vb;dsimp only at *;by_cases he:e=0
 ·subst he;rw[if_neg (λq=>q rfl)] at h |-;dsimp only at h;subst h;exact⟨v,w,rfl,rfl,rfl⟩
 ·rw[if_pos he] at h;exact absurd h he
theorem Ht{b:List Spx}(h:gU b=0)(hl:¬4096<(bV b).length):ShC (bV b):=by
 refine⟨show _<=_ by omega,λs hs=>?_⟩;have:=(cE (ve (jD h).2.1 s hs)).2.1;show _<=_;omega
theorem Ds{R:List (List Int)}{c:Nat}{w:List Int}(hm:fK c R)(hw:bq w):
    (∃x,uJ R c w=(x,[],true)/\x=l7 (lC R c) w/\bq x/\(∀z∈x,0<=z/\z<(c:Int))/\(∀y∈(stE R R.length).2,rC w y=false)/\∀i,i<R.length->cP (λz=>bit z x) (R.getD i default)%2=bit (i:Int) w)\/
    ∃y,uJ R c w=([],y,false)/\y∈(stE R R.length).2/\bq y/\(∀z∈y,0<=z/\z<(R.length:Int))/\rC w y=true:=by
 have hR:=eT hm;have hv:=lU hm;have hok:=gv hR (aR R.length);have hdep:∀y∈(stE R R.length).2,bq y/\∀z∈y,0<=z/\z<(R.length:Int):=λy hy=>⟨(hok.dep y hy).1.2,(hok.dep y hy).2.2⟩
 unfold uJ;cases hs:HO (stE R R.length).2 w with
 |none=>
  left
  have h0:∀y∈(stE R R.length).2,rC w y=false:=λy hy=>by
   have:=List.find?_eq_none.1 hs y hy;rw[As (hdep y hy).1 hw] at this;simpa using this
  refine⟨_,rfl,rfl,EN hok.red,yj hok.red,h0,λi hi=>DL hR hv hw h0 hi⟩
 |some y=>
  right;have hy:=List.mem_of_find?_eq_some hs;have ho:=List.find?_some (p:=λy=>kf y w) hs;rw[As (hdep y hy).1 hw] at ho;exact⟨y,rfl,hy,(hdep y hy).1,(hdep y hy).2,ho⟩
def Ax(c a:List Spx):List Spx×List Spx×Bool×Int:=if (cyH c a).2≠0 then([],[],false,(cyH c a).2) else if a=[] then([],[],true,0) else
 if (uJ (dR (aB c ((dp a:Int)+1)) (aB c (dp a))) (aB c ((dp a:Int)+1)).length (cyH c a).1).2.2=true then(eo (aB c ((dp a:Int)+1)) (uJ (dR (aB c ((dp a:Int)+1)) (aB c (dp a))) (aB c ((dp a:Int)+1)).length (cyH c a).1).1,[],true,0)
 else([],eo (aB c (dp a)) (uJ (dR (aB c ((dp a:Int)+1)) (aB c (dp a))) (aB c ((dp a:Int)+1)).length (cyH c a).1).2.1,false,0)
theorem Cr{c a:List Spx}(h:(cyH c a).2=0):∃v,d9 c a=(v,0)/\cyH c a=(v,0)/\bV a=[]:=by
 unfold cyH at h |-;generalize d9 c a=va at *;obtain⟨v,e⟩:=va;dsimp only at *;by_cases he:e=0
 ·subst he;rw[if_neg (λq=>q rfl)] at h |-;by_cases hz:bV a=[]
  ·rw[if_pos hz];exact⟨v,rfl,rfl,hz⟩
  ·rw[if_neg hz] at h;cases h
 ·rw[if_pos he] at h;exact absurd h he
theorem EB{c:List Spx}{d:Nat}{v:List Int}(hc:az c=0)(hd:d<=7)(ha:bq v)(hv:∀z∈v,0<=z/\z<((aB c ((d:Int)+1)).length:Int)):An c d v=(eo (aB c ((d:Int)+1)) v,0):=by
 have hz:tc (aB c ((d:Int)+1)).length v=0:=BM ha hv;unfold An;rw[if_neg (λq=>q hc),if_neg (by omega),if_neg (λq=>q hz)]
theorem jN.lenS{H:Hp}{s:AV}{l:List (List Int)}(h:jN H s l):dx s=some (.int .i64 l.length):=by
 rcases h with rfl|h
 ·exact b5
 ·exact h.lenS (by rw[bi,Nat.mul_one]) jq
def rf(c:List Spx)(d:Nat)(l:List (List Int)):Bool:=decide (rk (bdM c d++l) (bdN c d)=rk (bdM c d) (bdN c d)+l.length)
theorem Gy{c:List Spx}{d:Nat}(hc:az c=0)(hl:c.length<=50):(bdM c d).length<=3500:=by
 unfold bdM trL;rw[bi,List.length_range];exact cw hc hl
def jw(c:List Spx)(d:Nat)(a:List Spx):Int:=if (d9 c a).2≠0 then(d9 c a).2 else if a≠[]/\dp a≠d+1 then 15 else if bV a≠[] then 3 else 0
def AA(c:List Spx)(d:Nat)(l:List (List Spx)):Int:=dj (λk=>jw c d (l.getD k default)) l.length
def fG(c:List Spx)(l:List (List Spx)):List (List Int):=l.map λa=>(d9 c a).1
def CL(c:List Spx)(d:Nat)(l:List (List Spx)):Bool×Int:=if 1024<l.length then(false,5) else if AA c d l≠0 then(false,AA c d l) else(rf c d (fG c l),0)
theorem oq{f:Nat->Int}:∀{n:Nat},dj f n=0\/ ∃k,k<n/\dj f n=f k
 |0=>.inl rfl
 |n+1=>by
  rw[dj];split
  ·rcases oq (f:=f) (n:=n) with h|⟨k,h1,h2⟩
   ·exact .inl h
   ·exact .inr ⟨k,by omega,h2⟩
  ·exact .inr ⟨n,by omega,rfl⟩
theorem Fg{s:Spx}:bQ s≠3:=by
 unfold bQ;split
 ·decide
 split
 ·decide
 rcases oq (f:=nQ s) (n:=s.length) with h|⟨k,_,h⟩
 ·rw[h];decide
 ·rw[h];unfold nQ;split
  ·decide
  split<;>decide
theorem GN{a:List Spx}:gU a≠3:=by
 unfold gU;split
 ·decide
 rcases oq (f:=Al a) (n:=a.length) with h|⟨k,_,h⟩
 ·rw[h];decide
 ·rw[h];unfold Al;split
  ·exact Fg
  split
  ·decide
  split<;>decide
theorem I4{c a:List Spx}(hc:az c=0):(d9 c a).2≠3:=by
 unfold d9;rw[if_neg (λq=>q hc)];split
 ·exact GN
 split
 ·exact(by decide:(0:Int)≠3)
 split
 ·exact(by decide:(0:Int)≠3)
 ·exact(by decide:(6:Int)≠3)
theorem GJ{c:List Spx}{d:Nat}{a:List Spx}(hl:c.length<=50)(h:jw c d a=0):∃v,d9 c a=(v,0)/\bq v/\(∀z∈v,0<=z/\z<(bdN c d:Int))/\bV a=[]:=by
 unfold jw at h;by_cases h1:(d9 c a).2=0
 rotate_left
 ·rw[if_pos h1] at h;exact absurd h h1
 rw[if_neg (λq=>q h1)] at h;by_cases h2:a≠[]/\dp a≠d+1
 ·rw[if_pos h2] at h;exact absurd h (by decide)
 rw[if_neg h2] at h;by_cases h3:bV a=[]
 rotate_left
 ·rw[if_pos h3] at h;exact absurd h (by decide)
 have hv:d9 c a=((d9 c a).1,0):=by rw[<-h1]
 obtain⟨e1,e2,e3,e4,e5,e6⟩:=gf hv;refine⟨_,hv,e5,λz hz=>?_,h3⟩;by_cases ha:a=[]
 ·rw[e3,ha] at hz;exact by cases hz
 ·have hla:dp a=d+1:=Classical.byContradiction λq=>h2 ⟨ha,q⟩;have:=e6 z hz;rw[hla] at this;unfold bdN;rw[show(((d+1:Nat):Nat):Int)=(d:Int)+1 by omega] at this;exact this
theorem B6{c:List Spx}{d:Nat}{l:List (List Spx)}(hc:az c=0)(hl:c.length<=50)(hll:l.length<=500)(h:AA c d l=0):fK (bdN c d) (fG c l):=by
 have hn:bdN c d<=3500:=cw hc hl
 have ha:∀r∈fG c l,bq r/\∀z∈r,0<=z/\z<(bdN c d:Int):=λr hr=>by
  unfold fG at hr;obtain⟨a,ha,rfl⟩:=bG.1 hr;obtain⟨k,hk,rfl⟩:=nX ha;obtain⟨v,q1,q2,q3,-⟩:=GJ hl (gK h k hk);rw[q1];exact⟨q2,q3⟩
 exact xL (by omega) (by unfold fG;rw[bi];omega) (λr hr=>(ha r hr).1) λr hr=>(ha r hr).2
theorem vO{c:List Spx}{l:List (List Spx)}{k:Nat}(h:k<l.length):fG c (l.take (k+1))=fG c (l.take k)++[(d9 c (l.getD k default)).1]:=by
 unfold fG;rw[bI h,cl];rfl
theorem Fo{E:List (List Int)}{n:Nat}{L:List (List Int)}{k:Nat}(h:k<L.length):wH E n (L.take k) (L.drop k)=if (c7 ((E++L.take k)++[L.getD k default]) n).length=(c7 (E++L.take k) n).length then false else wH E n (L.take (k+1)) (L.drop (k+1)):=by
 rw[eW h,wH,bI h];rfl
def onL(l:List (Nat×List AV)):Hp:=λx=>(l.find? λp=>decide (p.1=x)).map Prod.snd
theorem Hc{H:Hp}{l:List (Nat×List AV)}(h:∀p∈l,H p.1=some p.2):Sub (onL l) H:=λx cs hx=>by
 unfold onL at hx;obtain⟨p,hp,rfl⟩:=Option.map_eq_some_iff.1 hx;have h1:=List.mem_of_find?_eq_some hp;have h2:=qe (List.find?_some (p:=λp:Nat×List AV=>decide (p.1=x)) hp);rw[<-h2];exact h p h1
theorem JK{H:Hp}{l1:List (Nat×List AV)}{l2:List (Nat×AV×AV)}(h1:∀p∈l1,H p.1=some p.2)(h2:∀q∈l2,H q.1=some [q.2.1]/\onL l1 q.1=none/\Snap (onL l1) q.2.1 q.2.2):Fz (onL l1) H (onL (l2.map λq=>(q.1,[q.2.2]))) where
 sub:=Hc h1
 to:=λa cs' h=>by
  have h0:=h;unfold onL at h;obtain⟨p,hp,rfl⟩:=Option.map_eq_some_iff.1 h;have g1:=List.mem_of_find?_eq_some hp;have g2:=qe (List.find?_some (p:=λp:Nat×List AV=>decide (p.1=a)) hp);obtain⟨q,hq,rfl⟩:=bG.1 g1;obtain⟨k1,k2,k3⟩:=h2 q hq;dsimp only at g2 |-;rw[g2] at k1 k2;refine⟨[q.2.1],k1,k2,rfl,λi u v hu hv=>?_⟩
  match i with
  |0=>simp at hu hv;subst hu;subst hv;exact .inr k3
  |i+1=>simp at hu
section
attribute [local irreducible] aK ak bg a6 aQ aS aE aU a8 bn Go.Abs.Fn a5 Go.Abs.Pure au aM Yl
theorem vH(c a b:List Spx)(hl:c.length<=50)(hs:∀s∈c,Shn s)(ha:ShC a)(hb:ShC b):pU 25 [bH c,am a,am b] (.int .i64 (BH c a b)):=by
 refine pO NR ?_;simp only[b25,aH];have hp:=Bx c a b hl hs ha hb;have hbo:=He b hb;have hpf:=uk (c:=c) (a:=a) (b:=b);have hal:=ha.1;have hbl:=hb.1;unfold BH;generalize jC c a b=p at *;obtain⟨v,w,e⟩:=p;dsimp only at *;by_cases he:e=0
 rotate_left
 ·have z0:decide (e≠(0:Int))=true:=aL he;rw[if_pos he];refine wnY (zI3 @z0 @ai @af) ?_;exact .int _ _
 subst he;obtain⟨v',w',hv,hw,hvw⟩:=hpf rfl;cases hvw;obtain⟨-,hcb,-⟩:=gf hw
 have hbt:mP b=if 4096<(bV b).length then([],5) else(bV b,0):=by
  unfold mP;rw[if_neg (λq=>q hcb)]
 have z0:decide ((0:Int)≠0)=false:=rfl;rw[if_neg (λq=>q rfl)];refine dJ ?_;have zz:=aI @z0 (aI @ai @af);repeat' (first|apply a_n|refine zO ?_|refine vY ?_|refine bxY ?_|fail)
 refine dJ ?_;refine dJ ?_;clear zz;have zz:=aI @z0 (aI @ai @af);repeat' (first|apply a_n|refine zO ?_|refine vY ?_|refine cY ?_ (hp:=hp) (hs:=by(first|refine aF ?_ rfl|apply aW);(repeat' (first|exact aj|apply bo|apply aX|exact cI _|exact bA _));first|done|fail)|fail)
 refine dJ ?_;clear zz;have zz:=aI @z0 (aI @ai @af);repeat' (first|apply a_n|refine zO ?_|refine vY ?_|refine cFY ?_|fail)
 refine cr (λT H nx=>¬(a≠[]/\b≠[]/\dp b≠dp a+1)/\T 1=am a/\T 2=am b) ?_ ?_
 ·by_cases h1:a=[]
  ·have z1:decide ((0:Int)<a.length)=false:=by rw[h1];rfl
   refine wnY (aI @z1 @ae) ?_;exact⟨λq=>q.1 h1,rfl,rfl⟩
  have z1:decide ((0:Int)<a.length)=true:=aL (by have:=iT.2 h1;omega);by_cases h2:b=[]
  ·have z2:decide ((0:Int)<b.length)=false:=by rw[h2];rfl
   refine wnY (zI3 @z1 @z2 @ae) ?_;exact⟨λq=>q.2.1 h2,rfl,rfl⟩
  have z2:decide ((0:Int)<b.length)=true:=aL (by have:=iT.2 h2;omega);have ix:=ub h1;have iy:=ub h2;have hsa:=ha.2 _ (ay (iT.2 h1));have hsb:=hb.2 _ (ay (iT.2 h2));unfold dp;generalize a.getD 0 default=s at *;generalize b.getD 0 default=t at *;have hsa':s.length<=17592186044416:=hsa;by_cases h3:t.length=s.length+1
  ·have z3:decide ((t.length:Int)≠(s.length:Int)+1)=false:=aO (by omega);refine wnY (zI7 @z1 @z2 @z3 @ix @iy @ae @ao) ?_;exact⟨λq=>q.2.2 h3,rfl,rfl⟩
  ·have z3:decide ((t.length:Int)≠(s.length:Int)+1)=true:=aL (by omega);rw[if_pos ⟨h1,h2,h3⟩];refine wnY (zI7 @z1 @z2 @z3 @ix @iy @ae @ao) ?_;exact .int _ _
 rintro T H nx ⟨h1,t1,t2⟩;rw[if_neg h1];clear zz;clear h1;by_cases h4:4096<(bV b).length
 ·rw[if_pos h4] at hbt;rw[hbt] at hbo |-;dsimp only at hbo |-;have z5:decide ((5:Int)≠0)=true:=rfl;rw[if_pos (by decide)];refine wnY (zI3 @t1 @t2 @z5) ?_;exact .int _ _
 rw[if_neg h4] at hbt;have heq:=LS (bV b) a (Ht hcb h4) ha;rw[hbt] at hbo |-;dsimp only at hbo |-;rw[if_neg (λq=>q rfl)];generalize bV b=g at *;by_cases h5:g=a
 ·rw[aL h5] at heq;rw[if_pos h5];refine wnY (zI3 @t1 @t2 @z0) ?_;exact .int _ _
 ·rw[aO h5] at heq;rw[if_neg h5];refine wnY (zI3 @t1 @t2 @z0) ?_;exact .int _ _
def rfT(c a y:List Spx):Int:=if (jC c a y).2.2≠0 then(jC c a y).2.2 else if a=[]\/y=[] then 18 else if dp a≠dp y then 15 else JD (dR (aB c ((dp a:Int)+1)) (aB c (dp a))) (jC c a y).1 (jC c a y).2.1
theorem oa(c a y:List Spx)(hl:c.length<=50)(hs:∀s∈c,Shn s)(ha:ShC a)(hy:ShC y):pU 27 [bH c,am a,am y] (.int .i64 (rfT c a y)):=by
 refine pO Nj ?_;simp only[b27,aH];have hp:=Bx c a y hl hs ha hy;have hpf:=uk (c:=c) (a:=a) (b:=y);have hal:=ha.1;have hyl:=hy.1;unfold rfT;generalize jC c a y=p at *;obtain⟨v,w,e⟩:=p;dsimp only at *;by_cases he:e=0
 rotate_left
 ·have z0:decide (e≠(0:Int))=true:=aL he;rw[if_pos he];refine wnY (zI3 @z0 @ai @af) ?_;exact .int _ _
 subst he;obtain⟨v',w',hv,hw,hvw⟩:=hpf rfl;cases hvw;obtain⟨hc,hca,-,-,va,vr⟩:=gf hv;obtain⟨-,hcy,-,-,wa,wr⟩:=gf hw;have z0:decide ((0:Int)≠0)=false:=rfl;rw[if_neg (λq=>q rfl)];by_cases h1:a=[]
 ·have z1:decide ((a.length:Int)=0)=true:=by rw[h1];rfl
  rw[if_pos (.inl h1)];refine wnY (zI5 @z0 @z1 @ai @af @ae) ?_;exact .int _ _
 have z1:decide ((a.length:Int)=0)=false:=aO (by have:=iT.2 h1;omega);by_cases h2:y=[]
 ·have z2:decide ((y.length:Int)=0)=true:=by rw[h2];rfl
  rw[if_pos (.inr h2)];refine wnY (zI6 @z0 @z1 @z2 @ai @af @ae) ?_;exact .int _ _
 have z2:decide ((y.length:Int)=0)=false:=aO (by have:=iT.2 h2;omega);rw[if_neg (λq=>q.elim h1 h2)];have ix:=ub h1;have iy:=ub h2;have hsa:=ha.2 _ (ay (iT.2 h1));have hsb:=hy.2 _ (ay (iT.2 h2));have h8:=(cE ((jD hca).2.1 _ (ay (iT.2 h1)))).2.1;unfold dp at *;generalize a.getD 0 default=s at *;generalize y.getD 0 default=t at *;have hsa':s.length<=17592186044416:=hsa;by_cases h3:s.length=t.length
 rotate_left
 ·have z3:decide ((s.length:Int)≠(t.length:Int))=true:=aL (by omega);rw[if_pos h3];refine wnY (gH @z0 @z1 @z2 @z3 @ix @iy @ai @af @ae @ao) ?_;exact .int _ _
 have z3:decide ((s.length:Int)≠(t.length:Int))=false:=aO (by omega);rw[if_neg (λq=>q h3)];rw[<-h3] at wr;have hed:=m8 c s.length hc hl h8;have hr1:=cw hc hl (d:=(s.length:Int)+1);have hr2:=cw hc hl (d:=(s.length:Int));have hver:=Ef (aB c ((s.length:Int)+1)).length (dR (aB c ((s.length:Int)+1)) (aB c (s.length:Int))) v w (ll (by omega) (by omega)) (by rw[gu];exact vr) va (by rw[gu];exact wr) wa;have hd1:Dat (dA (aB c ((s.length:Int)+1)).length (dR (aB c ((s.length:Int)+1)) (aB c (s.length:Int)))):=c8 _ _;rw[cH] at hed hver hd1;generalize dR (aB c ((s.length:Int)+1)) (aB c (s.length:Int))=R at *;generalize (aB c ((s.length:Int)+1)).length=n at *;refine wnY (gH @z0 @z1 @z2 @z3 @ix @iy @ai @af @ae @ao) ?_;exact .int _ _
theorem zx(c a:List Spx)(hl:c.length<=50)(hs:∀s∈c,Shn s)(ha:ShC a):pU 21 [bH c,am a] (.tup [am (Ax c a).1,am (Ax c a).2.1,.bool (Ax c a).2.2.1,.int .i64 (Ax c a).2.2.2]):=by
 refine pO Nh ?_;simp only[b21,aH];have hch:=n7 c hl hs;have hcy:=yo c a hl hs ha;have hcf:=Cr (c:=c) (a:=a);have hal:=ha.1
 have hce:az c≠0->cyH c a=([],az c):=λh=>by
  unfold cyH d9;rw[if_pos h,if_pos h]
 unfold Ax;generalize cyH c a=p at *;obtain⟨v,e⟩:=p;dsimp only at *;have z0:decide ((0:Int)≠0)=false:=rfl;have fin0:∀{H:Hp}{f:Int},Snap H (.tup [.esl,.esl,.bool false,.int .i64 f]) (.tup [am [],am [],.bool false,.int .i64 f]):=bb (ag (.eslsl 1) (ag (.eslsl 1) (ag (.bool _) (ag (.int _ _) aj))));by_cases hc:az c=0
 rotate_left
 ·cases hce hc;have z1:decide (az c≠(0:Int))=true:=aL hc;rw[if_pos hc];refine wnY (zI3 @z1 @ai @af) ?_;exact r_4 rfl rfl rfl rfl fin0
 rw[hc] at hch;by_cases he:e=0
 rotate_left
 ·have z1:decide (e≠(0:Int))=true:=aL he;rw[if_pos he];refine wnY (zI4 @z0 @z1 @ai @af) ?_;exact r_4 rfl rfl rfl rfl fin0
 subst he;obtain⟨v',hv,hvw,hez⟩:=hcf rfl;cases hvw;rw[if_neg (λq=>q rfl)];by_cases h1:a=[]
 ·have z1:decide ((a.length:Int)=0)=true:=by rw[h1];rfl
  rw[if_pos h1];refine wnY (zI5 @z0 @z1 @ai @af @ae) ?_;refine r_4 rfl rfl rfl rfl ?_;exact bb (ag (.eslsl 1) (ag (.eslsl 1) (ag (.bool _) (ag (.int _ _) aj))))
 have z1:decide ((a.length:Int)=0)=false:=aO (by have:=iT.2 h1;omega);rw[if_neg h1];obtain⟨-,hca,hvp,-,va,vr⟩:=gf hv;have ix:=ub h1;have hsa:=(cE ((jD hca).2.1 _ (ay (iT.2 h1))))
 have hv0:v≠[]:=λe=>by
  rw[hvp] at e;cases a with
  |nil=>exact h1 rfl
  |cons x a=>cases e
 clear hvp;unfold dp at *;generalize a.getD 0 default=s at *;obtain⟨d,hd⟩:∃d,s.length=d+1:=⟨s.length-1,by omega⟩
 have hed:=m8 c s.length hc hl hsa.2.1;have hr1:=cw hc hl (d:=(s.length:Int)+1);have hr2:=cw hc hl (d:=(s.length:Int));have hmv:=ll (X:=aB c ((s.length:Int)+1)) (Y:=aB c (s.length:Int)) (by omega) (by omega);have hso:=GZ (aB c ((s.length:Int)+1)).length (dR (aB c ((s.length:Int)+1)) (aB c (s.length:Int))) v hmv (by rw[gu];exact vr) va;have hd1:Dat (dA (aB c ((s.length:Int)+1)).length (dR (aB c ((s.length:Int)+1)) (aB c (s.length:Int)))):=c8 _ _;have hsl:(s.length:Int)-1+1=s.length:=by omega
 have hsl2:(s.length:Int)-1=(d:Int):=by omega
 rw[cH] at hed hso hd1;rcases Ds (w:=v) hmv va with⟨x,q1,-,q2,q3,-,q4⟩|⟨y,q1,q2,q3,q4,-⟩
 ·have h7:s.length<=7:=by
    refine Decidable.byContradiction λhn=>?_;rw[Bh hc (by omega),y6] at q4;obtain⟨z,hz⟩:=List.exists_mem_of_ne_nil _ hv0;have hzr:=vr z hz;have:=q4 z.toNat (by rw[List.length_replicate];omega);rw[show((z.toNat:Nat):Int)=z by omega,dG.2 hz] at this;rw[show(List.replicate (aB c (s.length:Int)).length ([]:List Int)).getD z.toNat default=[] by rw[Jn,List.getElem?_replicate];split<;>rfl] at this;cases this
  have hcn:=xn c s.length x hl (iW hc) (by have:=fE q2 q3;omega);rw[EB hc h7 q2 q3] at hcn;rw[q1] at hso |-;dsimp only at hso hcn |-;rw[if_pos rfl];generalize eo (aB c ((s.length:Int)+1)) x=b at *;generalize dR (aB c ((s.length:Int)+1)) (aB c (s.length:Int))=R at *;generalize (aB c ((s.length:Int)+1)).length=n at *;refine wnY (zI8 @z0 @z1 @ix @hsl @ai @af @ae @ao) ?_;refine r_4 rfl rfl rfl rfl ?_;exact bb (ag (bA b).snap (ag (.eslsl 1) (ag (.bool _) (ag (.int _ _) aj))))
 ·rw[gu] at q4;have hss:(s.length:Int)=(d:Int)+1:=by omega
  have hcn:=xn c d y hl (iW hc) (by have:=fE q3 q4;omega);rw[EB hc (by omega) q3 (by rw[<-hss];exact q4),<-hss] at hcn;rw[q1] at hso |-;dsimp only at hso hcn |-;rw[if_neg (by decide)];generalize eo (aB c (s.length:Int)) y=b at *;generalize dR (aB c ((s.length:Int)+1)) (aB c (s.length:Int))=R at *;generalize (aB c ((s.length:Int)+1)).length=n at *;have hss2:(d:Int)+1=s.length:=hss.symm;refine wnY (zI9 @z0 @z1 @ix @hsl2 @hss2 @ai @af @ae @ao) ?_;refine r_4 rfl rfl rfl rfl ?_;exact bb (ag (.eslsl 1) (ag (bA b).snap (ag (.bool _) (ag (.int _ _) aj))))
theorem D1(c:Nat)(R:List (List Int))(hm:fK c R)(G:Hp)(n0:Nat):Abs.Fn Tryz.prog 111 [dA c R] G n0 λr H' nx'=>∃sv,r=.agg [.int .i64 R.length,sv]/\Row H' 1 sv ((trL c R).map aC)/\n0<=nx'/\(∀x,x<n0->H' x=G x)/\∀b,bv sv=some b->n0<=b/\b<nx':=by
 refine fO MQ ?_;simp only[J1,aH];obtain⟨m1,m2,m3,m4⟩:=hm;rw[cH];refine wnY @b5 ?_;refine tC (X:=Nat×AV) (λx=>[(1,.ptr n0 2 0),(2,.ptr (n0+1) 2 0),(3,.ptr (n0+2) 2 0),(4,.int .i64 x.1)]) (λx H nx=>x.1<=c/\n0+3<=nx/\H n0=some [.int .i64 c,bm R]/\H (n0+1)=some [.int .i64 0,.esl]/\H (n0+2)=some [.int .i64 R.length,x.2]/\Row H 1 x.2 ((List.range x.1).map λj=>aC (dt (trF R R.length j)))/\(∀b,bv x.2=some b->n0+3<=b/\b<nx)/\∀y,y<n0->H y=G y) (λx=>c-x.1) (0,.esl) ⟨bP,_,Fz.none,⟨bw _,aR _,by rw[ac (by omega),ac (by omega),ac (by omega),ah],by rw[ac (by omega),ac (by omega),ah],by rw[ah];rfl,Row.nil,λb h=>(by cases h),λy hy=>by rw[ac (by omega),ac (by omega),ac (by omega),ac (by omega)]⟩,.inl rfl,.inl rfl,.inl rfl,.inl rfl,trivial⟩ ?_;rintro⟨i,sv⟩ H nx ⟨h1,h2,g0,gr,g1,hrow,hbd,hG⟩;dsimp only at h1 g1 hrow hbd |-;obtain⟨o1,o2⟩:=hrow.one;by_cases hi:i<c
 rotate_left
 ·obtain rfl:i=c:=by omega
  have z1:decide ((i:Int)<i)=false:=aO (by omega);refine wnY (zI6 @z1 @g0 @g1 @gr @o1 @o2) ?_;refine⟨sv,rfl,?_,by omega,λx hx=>by rw[ac (by omega)];exact hG x hx,λb hb=>by have:=hbd b hb;omega⟩;unfold trL;rw[List.map_map];exact hrow.same λb hb=>ac (by have:=hbd b hb;omega)
 have zi:decide ((i:Int)<c)=true:=aL (by omega);refine wnY (aI @zi @g0) ?_;refine bN (X:=Nat×AV) (λx=>[(1,.ptr n0 2 0),(2,.ptr (n0+1) 2 0),(3,.ptr (n0+2) 2 0),(4,.int .i64 i),(5,x.2),(6,.int .i64 x.1)]) (λx H' nx'=>x.1<=R.length/\nx<=nx'/\(∀y,y<nx->H' y=H y)/\Row H' 1 x.2 ((trF R x.1 i).map p9)/\∀b,bv x.2=some b->nx<=b/\b<nx') (λx=>R.length-x.1) (0,.esl) ⟨bw _,aR _,λ_ _=>rfl,Row.nil,λb h=>(by cases h)⟩ ag0 ?_;rintro⟨k,rv⟩ H' nx' ⟨k1,k2,k3,krow,kbd⟩;dsimp only at k1 krow kbd |-;obtain⟨o3,o4⟩:=krow.one;have g0':H' n0=some [.int .i64 c,bm R]:=(k3 n0 (by omega)).trans g0;have gr':H' (n0+1)=some [.int .i64 0,.esl]:=(k3 (n0+1) (by omega)).trans gr;have g1':H' (n0+2)=some [.int .i64 R.length,sv]:=(k3 (n0+2) (by omega)).trans g1;by_cases hk:k<R.length
 rotate_left
 ·obtain rfl:k=R.length:=by omega
  have hr1:Row H' 1 sv ((List.range i).map λj=>aC (dt (trF R R.length j))):=hrow.same λb hb=>k3 b (by have:=hbd b hb;omega);refine wnY (zI5 @g0' @b5 @g1' @o3 @o4) ?_;refine gI rfl ev0 (hr1.same λb hb=>?_) ev0 eA (by simp[AV.ones,o3]) rfl jq (by simp;omega) (by simp;omega) ?_
  ·have:=hbd b hb;rw[ac (by omega)]
  rintro s2 H2 nx2 hr2 i1 i2 i3 i4;have lo:∀x,x<nx'->bv sv≠some x->H2 x=H' x:=λx x1 x2=>(i3 x (by omega) x2).trans (ac (by omega));have l4:∀x,x<n0+3->H2 x=H' x:=λx x1=>lo x (by omega) (λh=>by have:=hbd _ h;omega);have g42:H2 (n0+2)=some [.int .i64 R.length,sv]:=(l4 (n0+2) (by omega)).trans g1';obtain⟨o5,o6⟩:=hr2.one;have kr2:Row H2 1 rv ((trF R R.length i).map p9):=krow.same λb hb=>lo b (by have:=kbd b hb;omega) (λh=>by have:=hbd b h;have:=kbd b hb;omega)
  have hb2:∀b,bv s2=some b->n0+3<=b/\b<nx2/\bv rv≠some b:=λb hb=>by
   rcases i4 b hb with h|h
   ·have:=hbd b h;exact⟨by omega,by omega,λe=>by have:=kbd b e;omega⟩
   ·exact⟨by omega,by omega,λe=>by have:=kbd b e;omega⟩
  refine wnY (zI3 @g42 @o5 @o6) ?_;obtain⟨Hf,H5,hfz,hr5,hs5⟩:=ph (H:=ar H2 (n0+2) (bD [.int .i64 R.length,sv] 1 [s2])) (hr2.same λb hb=>ac (by have:=hb2 b hb;omega)) (kr2.same λb hb=>ac (by have:=kbd b hb;omega)) (λb hb e=>(hb2 b e).2.2 hb);have hlow:∀x,x<n0+3->H5 x=ar H2 (n0+2) (bD [.int .i64 R.length,sv] 1 [s2]) x:=λx hx=>hs5 x (λe=>by have:=kbd x e;omega) (λe=>by have:=hb2 x e;omega);refine⟨(i+1,s2),by dsimp only;omega,Hf,H5,hfz,⟨by dsimp only;omega,by omega,?_,?_,?_,?_,λb hb=>?_,λy hy=>?_⟩,im ag0⟩
  ·rw[hlow n0 (by omega),ac (by omega),l4 n0 (by omega)];exact g0'
  ·rw[hlow (n0+1) (by omega),ac (by omega),l4 (n0+1) (by omega)];exact gr'
  ·rw[hlow (n0+2) (by omega),ah];rfl
  ·dsimp only;rw[List.range_succ,cl];exact hr5
  ·have:=hb2 b hb;omega
  ·rw[hlow y (by omega),ac (by omega),l4 y (by omega),k3 y (by omega)];exact hG y hy
 have ix:=zN hk;have zk:decide ((k:Int)<R.length)=true:=aL (by omega);have hrl:=(m4 _ (ay hk)).2.1;have hh:=Ar (R.getD k default) i (by omega);have hFk:=yG (R:=R) (n:=k) (q:=i);have hFl:=xA (R:=R) (n:=k) (q:=i);generalize R.getD k default=r at *;by_cases he2:(i:Int)∈r
 ·rw[aL he2] at hh;rw[if_pos he2] at hFk;refine wnY (zI4 @b5 @ix @zk @g0') ?_;refine eR (krow.same λb hb=>?_) ?_
  ·have:=kbd b hb;rw[ac (by omega)]
  rintro r2 H2 nx2 hr2 i1 i2 i3 i4;obtain⟨o5,o6⟩:=hr2.one;refine wnY (aI @o5 @o6) ?_;refine⟨(k+1,r2),by dsimp only;omega,⟨by dsimp only;omega,by omega,λy hy=>?_,?_,λb hb=>?_⟩,ag0⟩
  ·rw[i3 y (by omega) (λh=>by have:=kbd _ h;omega),ac (by omega)];exact k3 y hy
  ·dsimp only;rw[hFk,cl];exact hr2
  ·rcases i4 b hb with h|h
   ·have:=kbd b h;omega
   ·omega
 ·rw[aO he2] at hh;rw[if_neg he2,eH] at hFk;refine wnY (zI4 @b5 @ix @zk @g0') ?_;exact⟨(k+1,rv),by dsimp only;omega,⟨by dsimp only;omega,k2,k3,by dsimp only;rw[hFk];exact krow,kbd⟩,ag0⟩
theorem Gv(c:List Spx)(d:Nat)(l:List (List Int))(hc:az c=0)(hl:c.length<=50)(hd:d<=7)(hlm:fK (bdN c d) l)(hll:l.length<=500):pU 54 [bH c,.int .i64 d,bm l] (.bool (rf c d l)):=by
 refine pO NV ?_;simp only[b54,aH];have he:=D8 c (d+1) hc hl (by omega);have q1:=cw hc hl (d:=(d:Int)+1+1);have q2:=cw hc hl (d:=(d:Int)+1);rw[show((d+1:Nat):Int)=(d:Int)+1 by omega] at he;have hB:=ll (X:=aB c ((d:Int)+1+1)) (Y:=aB c ((d:Int)+1)) (by omega) (by omega);have ht:=λG n0=>D1 _ _ hB G n0;simp only[gu] at ht;have hM:=wq hc hl (d:=d);have hMl:=Gy hc hl (d:=d);have hM2:=mG hM hlm (by omega);have h1:=sa _ _ hM;have h2:=sa _ _ hM2;rw[EC hM] at h1;rw[EC hM2] at h2;have hf:rf c d l=decide ((c7 (bdM c d++l) (bdN c d)).length=(c7 (bdM c d) (bdN c d)).length+l.length):=rfl;have l1:(c7 (bdM c d) (bdN c d)).length<=bdN c d:=rY;have l2:(c7 (bdM c d++l) (bdN c d)).length<=bdN c d:=by unfold c7;rw[bi];exact jH
 have hm:trL (aB c ((d:Int)+1+1)).length (dR (aB c ((d:Int)+1+1)) (aB c ((d:Int)+1)))=bdM c d:=rfl;have hq:((aB c ((d:Int)+1)).length:Int)=bdN c d:=rfl;rw[hm,hq] at ht;have hN:bdN c d<=3500:=q2;rw[hf];generalize dR (aB c ((d:Int)+1+1)) (aB c ((d:Int)+1))=R at *;generalize (aB c ((d:Int)+1+1)).length=m at *;generalize c7 (bdM c d++l) (bdN c d)=E2 at *;generalize c7 (bdM c d) (bdN c d)=E1 at *;generalize hMM:bdM c d=M at *;generalize bdN c d=n at *;have d1:Dat (.agg [.int .i64 m,bm R]):=c8 m R;rw[cH] at he;simp only[cH] at ht;refine wnY (aI @ai @af) ?_;refine bc ev0 ev0 (ht _ _) ?_;rintro _ H1 nx1 ⟨sv,rfl,hrow,g1,g2,g3⟩;obtain⟨o1,o2⟩:=hrow.one;have a0:=(g2 0 (by omega)).trans ah;refine wnY (aI @o1 @o2) ?_;refine bc ev0 ev0 (h1 _ _ sv (.inr (hrow.same λb hb=>by have:=g3 b hb;rw[ac (by omega),ac (by omega)])) (λb hb=>by have:=g3 b hb;omega)) ?_;rintro _ H2 nx2 ⟨s2,rfl,k1,k2,k3,k4⟩;have b1:H2 nx1=some [.int .i64 n,sv]:=(k3 nx1 (by omega)).trans ah;have hrow2:Row H2 1 sv (M.map aC):=hrow.same λb hb=>by have:=g3 b hb;rw[k3 b (by omega),ac (by omega),ac (by omega)]
 have ls2:=k1.lenS;refine wnY (aI @b1 @ls2) ?_;refine gI rfl ev0 hrow2 ev0 fV gJ (by rw[bi,Nat.mul_one]) jq (by rw[bi];omega) (by rw[bi];omega) ?_;rintro s3 H3 nx3 hr3 i1 i2 i3 i4;obtain⟨o3,o4⟩:=hr3.one;have b2:H3 nx1=some [.int .i64 n,sv]:=(i3 nx1 (by omega) (λh=>by have:=g3 _ h;omega)).trans b1
 have hb3:∀b,bv s3=some b->b<nx3/\b≠nx1:=λb hb=>by
  rcases i4 b hb with h|h
  ·have:=g3 b h;omega
  ·omega
 refine wnY (zI3 @b2 @o3 @o4) ?_;refine bc ev0 ev0 (h2 _ _ s3 (.inr ?_) (λb hb=>(hb3 b hb).1)) ?_
 ·rw[cl];exact hr3.same λb hb=>ac (hb3 b hb).2
 rintro _ H4 nx4 ⟨s4,rfl,q1,q2,q3,q4⟩;have ls4:=q1.lenS;refine wnY (aI @ls4 @b5) ?_;exact cf (decide_eq_decide.2 (by omega))
theorem ud(c:List Spx)(d:Nat)(l:List (List Spx))(hc:az c=0)(hl:c.length<=50)(hd:d<=7)(hll:l.length<=500\/1024<l.length)(hlc:Shn l)(hls:∀a∈l,ShC a):pU 32 [bH c,.int .i64 d,cV l] (.tup [.bool (CL c d l).1,.int .i64 (CL c d l).2]):=by
 refine pO Kh ?_;simp only[b32,aH];have hli:=re c hl (iW hc);rw[hc] at hli;have hlc:l.length<=17592186044416:=hlc;have z0:decide ((0:Int)≠0)=false:=rfl;have z1:decide ((d:Int)<0)=false:=aO (by omega);have z2:decide ((8:Int)<=d)=false:=aO (by omega);unfold CL;by_cases hbig:1024<l.length
 ·have z3:decide ((1024:Int)<l.length)=true:=aL (by omega);rw[if_pos hbig];refine wnY (zI7 @z0 @z1 @z2 @z3 @ai @af @bO) ?_;exact bb (ag (.bool _) (ag (.int _ _) aj))
 rw[if_neg hbig];have z3:decide ((1024:Int)<l.length)=false:=aO (by omega);have hfr:=λL h1 h2=>Gv c d L hc hl hd h1 h2;refine wnY (zI7 @z0 @z1 @z2 @z3 @ai @af @bO) ?_;refine lpI (X:=AV×Nat) (λx=>[(1,.int .i64 d),(2,cV l),(3,.ptr 0 1 0),(9,x.1),(10,.int .i64 x.2)]) (λx H nx=>x.2<=l.length/\1<=nx/\(∀i,i<x.2->jw c d (l.getD i default)=0)/\H 0=some [am c]/\Row H 1 x.1 ((fG c (l.take x.2)).map aC)/\∀b,bv x.1=some b->1<=b/\b<nx) (λx=>l.length-x.2) (.esl,0) ⟨bw _,aR _,λi h=>absurd h (by omega),rfl,Row.nil,λb hb=>(by cases hb)⟩ ?_;rintro⟨sv,k⟩ H nx ⟨h1,h2,hall,g0,hrow,hbd⟩;dsimp only at h1 h2 hall g0 hrow hbd |-;by_cases hk:k<l.length
 rotate_left
 ·obtain rfl:k=l.length:=by omega
  have hz:AA c d l=0:=cT hall;rw[if_neg (λq=>q hz)];rw[List.take_length] at hrow;have hv:=B6 hc hl (by omega) hz;have hf:=hfr _ hv (by unfold fG;rw[bi];omega);have zk:decide ((l.length:Int)<l.length)=false:=aO (by omega);refine wnY (zI5 @g0 @zk @bO @ai @af) ?_;refine ef ev0 ev0 hf (aF (ag (cI _).snap (ag (.int _ _) (ag (lA hrow) aj))) rfl) ?_;refine wnY and_self ?_;exact bb (ag (.bool _) (ag (.int _ _) aj))
 have ix:=Jf hk;have hak:=hls _ (ay hk);have hvr:=K2 c (l.getD k default) hl (iW hc) hak;have hvf:=λv=>gf (c:=c) (a:=l.getD k default) (v:=v);have hvt:=vO (c:=c) hk;have hin:jw c d (l.getD k default)≠0->AA c d l=jw c d (l.getD k default):=λq=>ci (f:=λk=>jw c d (l.getD k default)) hk hall q;have hi2:jw c d (l.getD k default)=if (d9 c (l.getD k default)).2≠0 then(d9 c (l.getD k default)).2 else if (l.getD k default)≠[]/\dp (l.getD k default)≠d+1 then 15 else if bV (l.getD k default)≠[] then 3 else 0:=rfl
 have hvl:(fG c (l.take k)).length=k:=by unfold fG;rw[bi,eM];omega
 have hall2:jw c d (l.getD k default)=0->∀i,i<k+1->jw c d (l.getD i default)=0:=λq i hi=>by
  rcases(by omega:i<k\/i=k) with h|rfl
  ·exact hall i h
  ·exact q
 generalize l.getD k default=a at *;have zk:decide ((k:Int)<l.length)=true:=aL (by omega);have hal:a.length<=17592186044416:=hak.1;generalize hva:d9 c a=va at *;obtain⟨v,e⟩:=va;dsimp only at *;by_cases he:e=0
 rotate_left
 ·have z5:decide (e≠0)=true:=aL he;rw[if_pos he] at hi2;have hne:jw c d a≠0:=by rw[hi2];exact he
  rw[hin hne,if_pos hne,hi2];refine wkY (zI7 @zk @z5 @g0 @ix @bO @ai @af) ?_;exact bb (ag (.bool _) (ag (.int _ _) aj))
 subst he;obtain⟨-,hca,-,-,-,-⟩:=hvf v rfl;rw[if_neg (λq=>q rfl)] at hi2;have hed:=G0 a (jD hca).1 (BN (jD hca).2.1) (l8 (jD hca).2.1);by_cases ha:a=[]
 ·have z6:decide ((0:Int)<a.length)=false:=by rw[ha];rfl
  have he0:bV a=[]:=by rw[ha];rfl
  have z7:decide ((0:Int)<(bV a).length)=false:=by rw[he0];rfl
  rw[if_neg (λq=>q.1 ha),if_neg (λq=>q he0)] at hi2;refine wkY (gH @zk @z0 @z6 @z7 @g0 @ix @bO @ae @ai @af) ?_;refine eR (hrow.same λb hb=>?_) ?_
  ·have:=hbd b hb;rw[ac (by omega)]
  rintro s2 H2 nx2 hr2 i1 i2 i3 i4;have lo:∀x,x<1->H2 x=H x:=λx hx=>(i3 x (by omega) (λh=>by have:=hbd _ h;omega)).trans (by rw[ac (by omega)]);refine wnY and_self ?_;refine⟨(s2,k+1),by dsimp only;omega,⟨by dsimp only;omega,by omega,hall2 hi2,(lo 0 (by omega)).trans g0,?_,λb hb=>?_⟩,ag0⟩
  ·dsimp only;rw[hvt,cl];exact hr2
  ·rcases i4 b hb with h|h
   ·have:=hbd b h;omega
   ·omega
 have z6:decide ((0:Int)<a.length)=true:=aL (by have:=iT.2 ha;omega);have iy:=ub ha;have hsl:(a.getD 0 default).length<=17592186044416:=hak.2 _ (ay (iT.2 ha));unfold dp at hi2;generalize a.getD 0 default=s at *;by_cases hla:s.length=d+1
 rotate_left
 ·have z8:decide ((s.length:Int)≠(d:Int)+1)=true:=aL (by omega);rw[if_pos ⟨ha,hla⟩] at hi2;have hne:jw c d a≠0:=by rw[hi2];decide
  rw[hin hne,if_pos hne,hi2];refine wkY (aI @zk (aI @z0 (gH @z6 @z8 @g0 @ix @iy @bO @ae @ao @ai @af))) ?_;exact bb (ag (.bool _) (ag (.int _ _) aj))
 have z8:decide ((s.length:Int)≠(d:Int)+1)=false:=aO (by omega);rw[if_neg (λq=>q.2 hla)] at hi2;by_cases he0:bV a=[]
 rotate_left
 ·have z7:decide ((0:Int)<(bV a).length)=true:=aL (by have:=iT.2 he0;omega);rw[if_pos he0] at hi2;have hne:jw c d a≠0:=by rw[hi2];decide
  rw[hin hne,if_pos hne,hi2];generalize bV a=g at *;refine wkY (aI @zk (aI @z0 (aI @z6 (gH @z7 @z8 @g0 @ix @iy @bO @ae @ao @ai @af)))) ?_;exact bb (ag (.bool _) (ag (.int _ _) aj))
 have z7:decide ((0:Int)<(bV a).length)=false:=by rw[he0];rfl
 rw[if_neg (λq=>q he0)] at hi2;generalize bV a=g at *;refine wkY (aI @zk (aI @z0 (aI @z6 (gH @z7 @z8 @g0 @ix @iy @bO @ae @ao @ai @af)))) ?_;refine eR (hrow.same λb hb=>?_) ?_
 ·have:=hbd b hb;rw[ac (by omega)]
 rintro s2 H2 nx2 hr2 i1 i2 i3 i4;have lo:∀x,x<1->H2 x=H x:=λx hx=>(i3 x (by omega) (λh=>by have:=hbd _ h;omega)).trans (by rw[ac (by omega)]);refine wnY and_self ?_;refine⟨(s2,k+1),by dsimp only;omega,⟨by dsimp only;omega,by omega,hall2 hi2,(lo 0 (by omega)).trans g0,?_,λb hb=>?_⟩,ag0⟩
 ·dsimp only;rw[hvt,cl];exact hr2
 ·rcases i4 b hb with h|h
  ·have:=hbd b h;omega
  ·omega
theorem tT(c:List Spx)(d:Nat)(l:List (List Spx))(hc:az c=0)(hl:c.length<=50)(hd:d<=7)(hll:l.length<=500\/1024<l.length)(hn:bdN c d<=1000)(hlc:Shn l)(hls:∀a∈l,ShC a):pU 31 [bH c,.int .i64 d,cV l] (.tup [.bool (CL c d l).1,.int .i64 (CL c d l).2]):=by
 refine pO MI ?_;simp only[b31,aH];have hli:=lw c hc hl;have hlc:l.length<=17592186044416:=hlc;have z0:decide ((0:Int)≠0)=false:=rfl;have z1:decide ((d:Int)<0)=false:=aO (by omega);have z2:decide ((8:Int)<=d)=false:=aO (by omega);unfold CL;by_cases hbig:1024<l.length
 ·have z3:decide ((1024:Int)<l.length)=true:=aL (by omega);rw[if_pos hbig];refine wnY (zI7 @z0 @z1 @z2 @z3 @ai @af @bO) ?_;exact bb (ag (.bool _) (ag (.int _ _) aj))
 rw[if_neg hbig];have z3:decide ((1024:Int)<l.length)=false:=aO (by omega);refine wnY (zI7 @z0 @z1 @z2 @z3 @ai @af @bO) ?_;refine lpI (X:=AV×Nat) (λx=>[(1,.int .i64 d),(3,.ptr 0 1 0),(9,x.1),(36,cV l),(37,.int .i64 l.length),(38,.int .i64 x.2)]) (λx H nx=>x.2<=l.length/\1<=nx/\(∀i,i<x.2->jw c d (l.getD i default)=0)/\H 0=some [am c]/\Row H 1 x.1 ((fG c (l.take x.2)).map aC)/\∀b,bv x.1=some b->1<=b/\b<nx) (λx=>l.length-x.2) (.esl,0) ⟨bw _,aR _,λi h=>absurd h (by omega),rfl,Row.nil,λb hb=>(by cases hb)⟩ ?_;rintro⟨sv,k⟩ H nx ⟨h1,h2,hall,g0,hrow,hbd⟩;dsimp only at h1 h2 hall g0 hrow hbd |-;by_cases hk:k<l.length
 rotate_left
 ·obtain rfl:k=l.length:=by omega
  have hz:AA c d l=0:=cT hall;rw[if_neg (λq=>q hz)];rw[List.take_length] at hrow;have hv:=B6 hc hl (by omega) hz;have hVl:(fG c l).length=l.length:=by unfold fG;rw[bi]
  have hbo:=λH nx=>nH c d hc hl hd H nx;rw[pA] at hbo;obtain⟨mE,rE,-⟩:=D3 (d:=d) hc hl;have lE:(bdE c d).length<=bdN c d:=rY;have eE:=Bk rE (lU mE)
  have hif:wH (bdE c d) (bdN c d) [] (fG c l)=rf c d (fG c l):=by
   rw[show bdE c d=c7 (bdM c d) (bdN c d) from rfl,ye (Ca (wq hc hl)) VR.nil (Ca hv) (by rw[eH];rfl),List.nil_append];rfl
  have hid:=λk=>Fo (E:=bdE c d) (n:=bdN c d) (L:=fG c l) (k:=k);rw[<-hif];generalize fG c l=V at *;generalize bdE c d=E at *;generalize bdN c d=n at *;have zk:decide ((l.length:Int)<l.length)=false:=aO (by omega);refine wnY (aI @g0 @zk) ?_;refine bc ev0 ev0 (hbo _ _) ?_;rintro _ H1 nx1 ⟨b,rfl,b1,b2,b3,b4⟩;have hrow1:Row H1 1 sv (V.map aC):=hrow.same λx hx=>b3 x (hbd x hx).2;have hls2:=hrow1.lenS (n:=V.length) (by rw[bi,Nat.mul_one]) jq;have hsb:∀x,bv sv=some x->x<b:=λx hx=>by have:=hbd x hx;omega
  clear b3 g0 hbd hrow;refine wnY (aI @z0 @hls2) ?_;refine lpI (X:=AV×Nat) (λx=>[(14,.ptr b 3 0),(85,sv),(86,.int .i64 V.length),(87,.int .i64 x.2)]) (λx H' nx'=>x.2<=V.length/\wH E n [] V=wH E n (V.take x.2) (V.drop x.2)/\H' b=some [.int .i64 n,x.1,.int .i64 (c7 (E++V.take x.2) n).length]/\jN H' x.1 (E++V.take x.2)/\b<nx'/\(∀z,bv x.1=some z->z<nx'/\z≠b/\bv sv≠some z)/\Row H' 1 sv (V.map aC)) (λx=>V.length-x.2) (bm E,0) ⟨bw _,rfl,?_,.inl ?_,by omega,λz h=>(by cases h),hrow1⟩ ?_
  ·show H1 b=some [.int .i64 n,bm E,.int .i64 (c7 (E++[]) n).length];rw[eH,eE];exact b4
  ·show bm E=bm (E++[]);rw[eH]
  clear b4 hrow1;rintro⟨xv,k⟩ H' nx' ⟨h1,h2,h3,h4,h5,h6,h7⟩;dsimp only at h1 h2 h3 h4 h5 h6 h7 |-;by_cases hk2:k<V.length
  rotate_left
  ·obtain rfl:k=V.length:=by omega
   rw[h2,List.drop_length];refine wnY @z0 ?_;exact bb (ag (.bool _) (ag (.int _ _) aj))
  have hidk:=hid k hk2;have hvm:V.getD k default∈V:=ay hk2;have htk:V.take (k+1)=V.take k++[V.getD k default]:=bI hk2
  obtain⟨B,rfl,hB⟩:∃B,sv=.msl B V.length 1 0 V.length/\H' B=some (V.map aC):=by
   have h7':=h7;generalize hcs:V.map aC=cs at h7';have hl:cs.length=V.length:=by rw[<-hcs,bi]
   cases h7' with
   |nil=>simp at hl;omega
   |box B len cs q1 q2=>
    have e:len=V.length:=by omega
    subst e;exact⟨B,by rw[Nat.mul_one],q1⟩
  have zk2:decide ((k:Int)<V.length)=true:=aL (by omega);have mS:fK n ((E++V.take k)++[V.getD k default]):=mG (mG mE (po hv (by rw[eM];omega) λr hr=>gV hr) (by rw[eM];omega)) (po hv (by simp) λr hr=>by rw[cW] at hr;rw[hr];exact hvm) (by rw[cA,eM];simp only[bK,fo];omega);have hadd:=Ic n (E++V.take k) (c7 (E++V.take k) n).length (V.getD k default) xv b H' nx' mS h3 h5 h4 λx hx=>(h6 x hx).1;rw[il,<-htk] at hadd hidk;refine wnY (aI @hB @zk2) ?_;refine bc ev0 ev0 hadd ?_;rintro _ H2 nx2 ⟨q1,q2,q3⟩;have hBb:B<b:=hsb B rfl
  have h72:Row H2 1 (.msl B V.length 1 0 V.length) (V.map aC):=h7.same λx hx=>by
   cases hx;exact q2 B (by omega) (by omega)
  rcases q3 with⟨e1,rfl,e3⟩|⟨e1,rfl,wv,e3,e4,e5⟩
  ·rw[if_pos e1] at hidk;rw[h2,hidk];refine wnY @z0 ?_;exact bb (ag (.bool _) (ag (.int _ _) aj))
  rw[if_neg e1] at hidk;refine wnY @z0 ?_;refine⟨(wv,k+1),by dsimp only;omega,⟨by dsimp only;omega,h2.trans hidk,e3,e4,by omega,λz hz=>?_,h72⟩,ag0⟩;have:=e5 z hz;exact⟨by omega,by omega,λe=>by cases e;omega⟩
 have ix:=Jf hk;have hak:=hls _ (ay hk);have hvr:=yo c (l.getD k default) hl (iW hc) hak;have hvf:=λv=>gf (c:=c) (a:=l.getD k default) (v:=v);have hne3:=I4 (a:=l.getD k default) hc;have hvt:=vO (c:=c) hk;have hin:jw c d (l.getD k default)≠0->AA c d l=jw c d (l.getD k default):=λq=>ci (f:=λk=>jw c d (l.getD k default)) hk hall q;have hi2:jw c d (l.getD k default)=if (d9 c (l.getD k default)).2≠0 then(d9 c (l.getD k default)).2 else if (l.getD k default)≠[]/\dp (l.getD k default)≠d+1 then 15 else if bV (l.getD k default)≠[] then 3 else 0:=rfl
 have hvl:(fG c (l.take k)).length=k:=by unfold fG;rw[bi,eM];omega
 have hall2:jw c d (l.getD k default)=0->∀i,i<k+1->jw c d (l.getD i default)=0:=λq i hi=>by
  rcases(by omega:i<k\/i=k) with h|rfl
  ·exact hall i h
  ·exact q
 unfold cyH at hvr;generalize l.getD k default=a at *;have zk:decide ((k:Int)<l.length)=true:=aL (by omega);have hal:a.length<=17592186044416:=hak.1;generalize hva:d9 c a=va at *;obtain⟨v,e⟩:=va;dsimp only at *;by_cases he:e=0
 rotate_left
 ·have z5:decide (e≠0)=true:=aL he;have z6:decide (e=0)=false:=aO he;have z7:decide (e=3)=false:=aO hne3;rw[if_pos he] at hi2 hvr;have hne:jw c d a≠0:=by rw[hi2];exact he
  rw[hin hne,if_pos hne,hi2];refine wnY (zI8 @zk @z5 @z6 @z7 @g0 @ix @ai @af) ?_;exact bb (ag (.bool _) (ag (.int _ _) aj))
 subst he;rw[if_neg (λq=>q rfl)] at hi2 hvr;have z5:decide ((0:Int)=0)=true:=rfl;have z33:decide ((3:Int)=3)=true:=rfl;have z30:decide ((3:Int)=0)=false:=rfl;have z3n:decide ((3:Int)≠0)=true:=rfl;have step:∀(G:Hp)(n1:Nat),Row G 1 sv ((fG c (l.take k)).map aC)->True:=λ_ _ _=>trivial;by_cases ha:a=[]
 ·have z6:decide ((0:Int)<a.length)=false:=by rw[ha];rfl
  have he0:bV a=[]:=by rw[ha];rfl
  rw[if_neg (λq=>q.1 ha),if_neg (λq=>q he0)] at hi2;rw[if_pos he0] at hvr;refine wnY (zI9 @zk @z0 @z5 @z6 @g0 @ix @ae @ai @af) ?_;refine eR (hrow.same λb hb=>?_) ?_
  ·have:=hbd b hb;rw[ac (by omega)]
  rintro s2 H2 nx2 hr2 i1 i2 i3 i4;have lo:∀x,x<1->H2 x=H x:=λx hx=>(i3 x (by omega) (λh=>by have:=hbd _ h;omega)).trans (by rw[ac (by omega)]);refine wnY and_self ?_;refine⟨(s2,k+1),by dsimp only;omega,⟨by dsimp only;omega,by omega,hall2 hi2,(lo 0 (by omega)).trans g0,?_,λb hb=>?_⟩,ag0⟩
  ·dsimp only;rw[hvt,cl];exact hr2
  ·rcases i4 b hb with h|h
   ·have:=hbd b h;omega
   ·omega
 have z6:decide ((0:Int)<a.length)=true:=aL (by have:=iT.2 ha;omega);have iy:=ub ha;have hsl:(a.getD 0 default).length<=17592186044416:=hak.2 _ (ay (iT.2 ha));unfold dp at hi2;generalize a.getD 0 default=s at *;by_cases hla:s.length=d+1
 rotate_left
 ·have z8:decide ((s.length:Int)≠(d:Int)+1)=true:=aL (by omega);rw[if_pos ⟨ha,hla⟩] at hi2;have hne:jw c d a≠0:=by rw[hi2];decide
  rw[hin hne,if_pos hne,hi2];by_cases he0:bV a=[]
  ·rw[if_pos he0] at hvr;refine wnY (aI @zk (aI @z0 (gH @z5 @z6 @z8 @g0 @ix @iy @ae @ao @ai @af))) ?_;exact bb (ag (.bool _) (ag (.int _ _) aj))
  ·rw[if_neg he0] at hvr;refine wnY (aI @zk (aI @z0 (aI @z33 (gH @z30 @z6 @z8 @g0 @ix @iy @ae @ao @ai @af)))) ?_;exact bb (ag (.bool _) (ag (.int _ _) aj))
 have z8:decide ((s.length:Int)≠(d:Int)+1)=false:=aO (by omega);rw[if_neg (λq=>q.2 hla)] at hi2;by_cases he0:bV a=[]
 rotate_left
 ·rw[if_pos he0] at hi2;rw[if_neg he0] at hvr;have hne:jw c d a≠0:=by rw[hi2];decide
  rw[hin hne,if_pos hne,hi2];refine wnY (aI @zk (aI @z0 (aI @z33 (aI @z30 (gH @z3n @z6 @z8 @g0 @ix @iy @ae @ao @ai @af))))) ?_;exact bb (ag (.bool _) (ag (.int _ _) aj))
 rw[if_neg (λq=>q he0)] at hi2;rw[if_pos he0] at hvr;refine wnY (aI @zk (aI @z0 (gH @z5 @z6 @z8 @g0 @ix @iy @ae @ao @ai @af))) ?_;refine eR (hrow.same λb hb=>?_) ?_
 ·have:=hbd b hb;rw[ac (by omega)]
 rintro s2 H2 nx2 hr2 i1 i2 i3 i4;have lo:∀x,x<1->H2 x=H x:=λx hx=>(i3 x (by omega) (λh=>by have:=hbd _ h;omega)).trans (by rw[ac (by omega)]);refine wnY and_self ?_;refine⟨(s2,k+1),by dsimp only;omega,⟨by dsimp only;omega,by omega,hall2 hi2,(lo 0 (by omega)).trans g0,?_,λb hb=>?_⟩,ag0⟩
 ·dsimp only;rw[hvt,cl];exact hr2
 ·rcases i4 b hb with h|h
  ·have:=hbd b h;omega
  ·omega
theorem n4(l:List Int)(hl:l.length<=1000):PureF Tryz.prog 42 [aC l] (aA (d4 l)):=by
 refine qO Od ?_;simp only[b42,aH];refine wnY and_self ?_;refine bN (X:=AV×Nat) (λx=>[(3,x.1),(6,aC l),(7,.int .i64 l.length),(8,.int .i64 x.2)]) (λx H nx=>x.2<=l.length/\Row H 2 x.1 (cX (d4 (l.take x.2)))/\∀b,bv x.1=some b->b<nx) (λx=>l.length-x.2) (.esl,0) ⟨bw _,Row.nil,λb hb=>(by cases hb)⟩ ag0 ?_;rintro⟨sv,k⟩ H nx ⟨k1,k3,k4⟩;dsimp only at k1 k3 k4 |-;by_cases hk:k<l.length
 rotate_left
 ·rw[fI (by omega)] at k3;refine wnY and_self ?_;exact rN k3
 have ix:=ixV hk;have hpt:=DE hk;have hcl:(cX (d4 (l.take k))).length=k*2:=by rw[gX];unfold d4;rw[bi,eM];omega
 refine wnY @ix ?_;refine eR (k3.same λb hb=>?_) ?_
 ·have:=k4 b hb;rw[ac (by omega)]
 rintro s2 E e hrow hle1 hle2 hsame hb2;refine wnY and_self ?_;refine⟨(s2,k+1),by dsimp only;omega,⟨by dsimp only;omega,?_,λb hb=>?_⟩,ag0⟩
 ·dsimp only;rw[hpt,mY];exact hrow
 ·rcases hb2 b hb with h|h
  ·have:=k4 b h;omega
  ·omega
end
def c9:List Spx:=[d4 [0,1],d4 [0,2],d4 [1,2]]
def gG:List Spx:=[d4 [0,1,2]]
def mD:List Spx:=[d4 [0,1,2],d4 [0,1,3],d4 [0,2,3],d4 [1,2,3]]
theorem vn:az c9=0:=by decide+kernel
theorem Bu:az gG=0:=by decide+kernel
theorem Ga:az mD=0:=by decide+kernel
theorem tH{c:List Spx}(h:az c=0):∀s∈c,Shn s:=iW h
theorem Ek:pU 13 [bH c9] (.tup [aC [1,1],.int .i64 0]):=by
 have h:=uq c9 2 vn (by decide) (by decide+kernel) (by decide)
 rwa [show btL c9 2=[1,1] by decide+kernel] at h
theorem FX:pU 13 [bH gG] (.tup [aC [1,0,0],.int .i64 0]):=by
 have h:=uq gG 3 Bu (by decide) (by decide+kernel) (by decide)
 rwa [show btL gG 3=[1,0,0] by decide+kernel] at h
theorem F5:pU 13 [bH mD] (.tup [aC [1,0,1],.int .i64 0]):=by
 have h:=uq mD 3 Ga (by decide) (by decide+kernel) (by decide)
 rwa [show btL mD 3=[1,0,1] by decide+kernel] at h
theorem I9:pU 18 [bH c9,.int .i64 1] (.tup [cV [c9],.int .i64 0]):=by
 have h:=CE c9 1 (qM.le EO (by decide+kernel)) vn (by decide) (by decide) (by decide+kernel)
 rwa [show cyT c9 1=[c9] by decide+kernel] at h
theorem zo:ShC c9:=⟨by decide,by decide⟩
theorem J4:ShC gG:=⟨by decide,by decide⟩
theorem Om:ShC [d4 [0,1]]:=⟨by decide,by decide⟩
theorem KJ:ShC [d4 [1,2]]:=⟨by decide,by decide⟩
theorem Nd:ShC []:=⟨by decide,by decide⟩
theorem I2:pU 21 [bH c9,am c9] (.tup [am [],am [d4 [0,1]],.bool false,.int .i64 0]):=by
 have h:=zx c9 c9 (by decide) (tH vn) zo
 rwa [show Ax c9 c9=([],[d4 [0,1]],false,0) by decide+kernel] at h
theorem JQ:pU 21 [bH gG,am c9] (.tup [am gG,am [],.bool true,.int .i64 0]):=by
 have h:=zx gG c9 (by decide) (tH Bu) zo
 rwa [show Ax gG c9=(gG,[],true,0) by decide+kernel] at h
theorem Fc:pU 15 [bH mD,.int .i64 1] (.tup [.bool true,.int .i64 0]):=by
 have h:=pg mD 3 1 Ga (by decide) (by decide+kernel) (by decide) (by decide)
 rwa [show HP (btL mD 3) 1=true by decide+kernel] at h
theorem F9:pU 15 [bH mD,.int .i64 2] (.tup [.bool false,.int .i64 0]):=by
 have h:=pg mD 3 2 Ga (by decide) (by decide+kernel) (by decide) (by decide)
 rwa [show HP (btL mD 3) 2=false by decide+kernel] at h
theorem Gj:pU 27 [bH c9,am c9,am [d4 [0,1]]] (.int .i64 0):=by
 have h:=oa c9 c9 [d4 [0,1]] (by decide) (tH vn) zo Om
 rwa [show rfT c9 c9 [d4 [0,1]]=0 by decide+kernel] at h
theorem FL:pU 27 [bH c9,am c9,am [d4 [1,2]]] (.int .i64 0):=by
 have h:=oa c9 c9 [d4 [1,2]] (by decide) (tH vn) zo KJ
 rwa [show rfT c9 c9 [d4 [1,2]]=0 by decide+kernel] at h
theorem E7:pU 27 [bH gG,am c9,am [d4 [1,2]]] (.int .i64 18):=by
 have h:=oa gG c9 [d4 [1,2]] (by decide) (tH Bu) zo KJ
 rwa [show rfT gG c9 [d4 [1,2]]=18 by decide+kernel] at h
theorem EK:pU 25 [bH gG,am c9,am gG] (.int .i64 0):=by
 have h:=vH gG c9 gG (by decide) (tH Bu) zo J4
 rwa [show BH gG c9 gG=0 by decide+kernel] at h
theorem Cd:pU 25 [bH c9,am c9,am []] (.int .i64 18):=by
 have h:=vH c9 c9 [] (by decide) (tH vn) zo Nd
 rwa [show BH c9 c9 []=18 by decide+kernel] at h
theorem Ld:pU 17 [aC [1,1],aC [1,1]] (.bool true):=by
 have:=ug [1,1] [1,1] (by decide) (by decide)
 rwa [aL rfl] at this
theorem Kq:pU 17 [aC [1,0,0],aC [1,0,0]] (.bool true):=by
 have:=ug [1,0,0] [1,0,0] (by decide) (by decide)
 rwa [aL rfl] at this
theorem Kb:pU 17 [aC [1,0,1],aC [1,0,1]] (.bool true):=by
 have:=ug [1,0,1] [1,0,1] (by decide) (by decide)
 rwa [aL rfl] at this
theorem Lm(l:List Spx)(h:ShC l):pU 23 [am l,am l] (.bool true):=by
 have:=CG l l h.1 h.1 h.2 h.2
 rwa [aL rfl] at this
section
attribute [local irreducible] aK ak bg a6 aQ aS aE aU a8 bn Go.Abs.Fn a5 Go.Abs.Pure au aM Yl
theorem r6:pU 12 [] (.bool true):=by
 refine pO N9 ?_;simp only[b12,aH];have o01:PureF Tryz.prog 42 [aC [0,1]] (aA (d4 [0,1])):=n4 _ (by decide);have o02:PureF Tryz.prog 42 [aC [0,2]] (aA (d4 [0,2])):=n4 _ (by decide);have o12:PureF Tryz.prog 42 [aC [1,2]] (aA (d4 [1,2])):=n4 _ (by decide);have o012:PureF Tryz.prog 42 [aC [0,1,2]] (aA (d4 [0,1,2])):=n4 _ (by decide);have o013:PureF Tryz.prog 42 [aC [0,1,3]] (aA (d4 [0,1,3])):=n4 _ (by decide);have o023:PureF Tryz.prog 42 [aC [0,2,3]] (aA (d4 [0,2,3])):=n4 _ (by decide);have o123:PureF Tryz.prog 42 [aC [1,2,3]] (aA (d4 [1,2,3])):=n4 _ (by decide);have zz:=aI @aZ (aI @aJ (aI @ai @af));repeat' (first|refine zW ?_|apply a_n|refine zO ?_|refine vZ ?_|refine blZ ?_|fail)
 refine fR ev0 ev0 o01 (ag (ea (n:=2) (len:=2) (l:=[0,1]) (by exact rfl) rfl rfl) aj) ?_;clear zz;have zz:=aI @aZ (aI @aJ (aI @ai @af));repeat' (first|apply a_n|refine zO ?_|refine blZ ?_|fail)
 refine fR ev0 ev0 o02 (ag (ea (n:=2) (len:=2) (l:=[0,2]) (by exact rfl) rfl rfl) aj) ?_;clear zz;have zz:=aI @aZ (aI @aJ (aI @ai @af));repeat' (first|apply a_n|refine zO ?_|refine blZ ?_|fail)
 refine fR ev0 ev0 o12 (ag (ea (n:=2) (len:=2) (l:=[1,2]) (by exact rfl) rfl rfl) aj) ?_;clear zz;have zz:=aI @aZ (aI @aJ (aI @ai @af));repeat' (first|refine zW ?_|apply a_n|refine zO ?_|refine vZ ?_|refine blZ ?_|fail)
 refine fR ev0 ev0 o012 (ag (ea (n:=3) (len:=3) (l:=[0,1,2]) (by exact rfl) rfl rfl) aj) ?_;clear zz;have zz:=aI @aZ (aI @aJ (aI @ai @af));repeat' (first|refine zW ?_|apply a_n|refine zO ?_|refine vZ ?_|refine alZ ?_|refine stZ ?_|refine blZ ?_|fail)
 refine fR ev0 ev0 o012 (ag (ea (n:=3) (len:=3) (l:=[0,1,2]) (by exact rfl) rfl rfl) aj) ?_;clear zz;have zz:=aI @aZ (aI @aJ (aI @ai @af));repeat' (first|apply a_n|refine zO ?_|refine blZ ?_|fail)
 refine fR ev0 ev0 o013 (ag (ea (n:=3) (len:=3) (l:=[0,1,3]) (by exact rfl) rfl rfl) aj) ?_;clear zz;have zz:=aI @aZ (aI @aJ (aI @ai @af));repeat' (first|apply a_n|refine zO ?_|refine blZ ?_|fail)
 refine fR ev0 ev0 o023 (ag (ea (n:=3) (len:=3) (l:=[0,2,3]) (by exact rfl) rfl rfl) aj) ?_;clear zz;have zz:=aI @aZ (aI @aJ (aI @ai @af));repeat' (first|apply a_n|refine zO ?_|refine blZ ?_|fail)
 refine fR ev0 ev0 o123 (ag (ea (n:=3) (len:=3) (l:=[1,2,3]) (by exact rfl) rfl rfl) aj) ?_;clear zz;have zz:=aI @aZ (aI @aJ (aI @ai @af));repeat' (first|apply a_n|refine zO ?_|refine vZ ?_|refine alZ ?_|refine stZ ?_|refine blZ ?_|fail)
 refine dJ ?_;refine pI (onL [(3,[aA (d4 [0,1]),aA (d4 [0,2]),aA (d4 [1,2])]),(5,[aA (d4 [0,1,2])]),(12,[aA (d4 [0,1,2]),aA (d4 [0,1,3]),aA (d4 [0,2,3]),aA (d4 [1,2,3])])]) _ [(1,am c9),(2,.ptr 6 1 0),(3,.ptr 7 1 0),(4,.ptr 13 1 0)] (JK (l2:=[(6,.msl 3 3 1 0 3,am c9),(7,.msl 5 1 1 0 1,am gG),(13,.msl 12 4 1 0 4,am mD)]) ?_ ?_) ⟨.inr (pr (l:=c9) rfl rfl),.inl rfl,.inl rfl,.inl rfl,trivial⟩ ?_
 ·intro p hp;simp only[da,List.not_mem_nil,or_false] at hp;rcases hp with rfl|rfl|rfl<;>exact rfl
 ·intro q hq;simp only[da,List.not_mem_nil,or_false] at hq;rcases hq with rfl|rfl|rfl
  ·exact⟨rfl,rfl,pr (l:=c9) rfl rfl⟩
  ·exact⟨rfl,rfl,pr (l:=gG) rfl rfl⟩
  ·exact⟨rfl,rfl,pr (l:=mD) rfl rfl⟩
 have h6:onL ([(6,AV.msl 3 3 1 0 3,am c9),(7,.msl 5 1 1 0 1,am gG),(13,.msl 12 4 1 0 4,am mD)].map λq=>(q.1,[q.2.2])) 6=some [am c9]:=rfl;have h7:onL ([(6,AV.msl 3 3 1 0 3,am c9),(7,.msl 5 1 1 0 1,am gG),(13,.msl 12 4 1 0 4,am mD)].map λq=>(q.1,[q.2.2])) 7=some [am gG]:=rfl;have h13:onL ([(6,AV.msl 3 3 1 0 3,am c9),(7,.msl 5 1 1 0 1,am gG),(13,.msl 12 4 1 0 4,am mD)].map λq=>(q.1,[q.2.2])) 13=some [am mD]:=rfl;generalize onL ([(6,AV.msl 3 3 1 0 3,am c9),(7,.msl 5 1 1 0 1,am gG),(13,.msl 12 4 1 0 4,am mD)].map λq=>(q.1,[q.2.2]))=HH at *;have sl2:jI 1 (am c9) (some (.int .i64 2)) none none=some (am [d4 [1,2]]):=rfl;have lc1:dx (cV [c9])=some (.int .i64 1):=rfl;have z18:eu 1 (cV [c9]) (.int .i64 0)=some (.iptr [am c9] 0):=rfl;have s1:=Lm c9 zo;have hce:∀c:List Spx,AV.agg [am c]=bH c:=λ_=>rfl;clear zz;have zz:=aI @h6 (aI @h7 (aI @h13 (aI @sl2 (aI @lc1 (aI @z18 (aI @aZ (aI @aJ (aI @ai @af))))))));repeat' (first|refine zW ?_|apply a_n|refine zO ?_|refine vZ ?_|refine cZ ?_ (hp:=by first|exact Ek|exact FX|exact F5|exact I9|exact I2|exact JQ|exact Fc|exact F9|exact Gj|exact FL|exact E7|exact EK|exact Cd|exact s1) (hs:=by(first|refine aF ?_ rfl|apply aW);(repeat' (first|exact aj|apply bo|apply aX|exact bA _|exact cI _|exact eF _|exact ct _));first|done|fail)|refine blZ ?_|refine gTZ ?_|(refine zGZ ?_ ?_<;>(intro _hg;try (exfalso;omega)))|fail)
 refine ef ev0 ev0 Ld (aF (ag (ct _ _) (ag (ea (n:=2) (len:=2) (l:=[1,1]) (by exact rfl) rfl rfl) aj)) rfl) ?_;clear zz;have zz:=aI @h6 (aI @h7 (aI @h13 (aI @sl2 (aI @lc1 (aI @z18 (aI @aZ (aI @aJ (aI @ai @af))))))));repeat' (first|apply a_n|refine zO ?_|refine vZ ?_|refine blZ ?_|refine gTZ ?_|fail)
 refine ef ev0 ev0 Kq (aF (ag (ct _ _) (ag (ea (n:=3) (len:=3) (l:=[1,0,0]) (by exact rfl) rfl rfl) aj)) rfl) ?_;clear zz;have zz:=aI @h6 (aI @h7 (aI @h13 (aI @sl2 (aI @lc1 (aI @z18 (aI @aZ (aI @aJ (aI @ai @af))))))));repeat' (first|apply a_n|refine zO ?_|refine vZ ?_|refine blZ ?_|refine gTZ ?_|fail)
 refine ef ev0 ev0 Kb (aF (ag (ct _ _) (ag (ea (n:=3) (len:=3) (l:=[1,0,1]) (by exact rfl) rfl rfl) aj)) rfl) ?_;clear zz;have zz:=aI @h6 (aI @h7 (aI @h13 (aI @sl2 (aI @lc1 (aI @z18 (aI @aZ (aI @aJ (aI @ai @af))))))));repeat' (first|refine zW ?_|apply a_n|refine zO ?_|refine vZ ?_|refine cZ ?_ (hp:=by first|exact Ek|exact FX|exact F5|exact I9|exact I2|exact JQ|exact Fc|exact F9|exact Gj|exact FL|exact E7|exact EK|exact Cd|exact s1) (hs:=by(first|refine aF ?_ rfl|apply aW);(repeat' (first|exact aj|apply bo|apply aX|exact bA _|exact cI _|exact eF _|exact ct _));first|done|fail)|refine blZ ?_|refine gTZ ?_|(refine zGZ ?_ ?_<;>(intro _hg;try (exfalso;omega)))|refine cFZ ?_|fail)
 refine fR ev0 ev0 o012 (ag (ea (n:=3) (len:=3) (l:=[0,1,2]) (by exact rfl) rfl rfl) aj) ?_;clear zz;have zz:=aI @h6 (aI @h7 (aI @h13 (aI @sl2 (aI @lc1 (aI @z18 (aI @aZ (aI @aJ (aI @ai @af))))))));repeat' (first|apply a_n|refine zO ?_|refine blZ ?_|refine gTZ ?_|fail)
 refine ef ev0 ev0 (Lm gG J4) (aF (ag (bA _ _) (ag (pr (b:=18) (n:=1) (l:=gG) (by exact rfl) rfl) aj)) rfl) ?_;clear zz;have zz:=aI @h6 (aI @h7 (aI @h13 (aI @sl2 (aI @lc1 (aI @z18 (aI @aZ (aI @aJ (aI @ai @af))))))));repeat' (first|refine zW ?_|apply a_n|refine zO ?_|refine vZ ?_|refine gTZ ?_|refine cFZ ?_|fail)
 try refine Go.Abs.w_mix1 ?_
 clear zz;have zz:=aI @h6 (aI @h7 (aI @h13 (aI @sl2 (aI @lc1 (aI @z18 (aI @aZ (aI @aJ (aI @ai @af))))))));repeat' (first|apply a_n|refine zO ?_|refine vZ ?_|refine cZ ?_ (hp:=by first|exact Ek|exact FX|exact F5|exact I9|exact I2|exact JQ|exact Fc|exact F9|exact Gj|exact FL|exact E7|exact EK|exact Cd|exact s1) (hs:=by(first|refine aF ?_ rfl|apply aW);(repeat' (first|exact aj|apply bo|apply aX|exact bA _|exact cI _|exact eF _|exact ct _));first|done|fail)|refine gTZ ?_|(refine zGZ ?_ ?_<;>(intro _hg;try (exfalso;omega)))|fail)
 refine ef ev0 ev0 Cd (aF (ag (cI _ _) (ag (bA _ _) (ag (.eslsl 1) aj))) rfl) ?_
 repeat' (first|apply a_n|refine zO ?_|refine vZ ?_|refine gTZ ?_|refine bS rfl ?_|refine r1Z ?_|fail)
 exact .bool _
def dE(c:List Spx)(lo:Int)(d:Int):Int:=if az c≠0 then az c else if d<lo\/8<=d then 2 else 0
theorem NJ{c:List Spx}{lo d:Int}(h:dE c lo d=0):az c=0/\lo<=d/\d<8:=by
 unfold dE at h;split at h
 ·rename_i q;exact absurd h q
 ·rename_i q;split at h
  ·exact absurd h (by decide)
  ·exact⟨by simpa using q,by omega,by omega⟩
theorem sX(c:List Spx)(d:Int)(l:List (List Spx))(he:dE c 0 d≠0)(hl:c.length<=50)(hs:∀s∈c,Shn s):pU 31 [bH c,.int .i64 d,cV l] (.tup [.bool false,.int .i64 (dE c 0 d)]):=by
 refine pO MI ?_;simp only[b31,aH];have h:=n7 c hl hs;unfold dE at *;by_cases hc:az c=0
 ·have z:decide (az c≠(0:Int))=false:=aO (λq=>q hc);rw[if_neg (λq=>q hc)] at he |-;have hd:d<0\/8<=d:=Classical.byContradiction λq=>he (if_neg q);rw[if_pos hd];by_cases hd0:d<0
  ·have z1:decide (d<0)=true:=aL hd0;refine wnY (zI4 @z @z1 @ai @af) ?_;exact bb (ag (.bool _) (ag (.int _ _) aj))
  ·have z1:decide (d<0)=false:=aO hd0;have z2:decide (8<=d)=true:=aL (by omega);refine wnY (zI5 @z @z1 @z2 @ai @af) ?_;exact bb (ag (.bool _) (ag (.int _ _) aj))
 ·have z:decide (az c≠(0:Int))=true:=aL hc;rw[if_pos hc];refine wnY (zI3 @z @ai @af) ?_;exact bb (ag (.bool _) (ag (.int _ _) aj))
theorem rJ(c:List Spx)(d:Int)(l:List (List Spx))(he:dE c 0 d≠0)(hl:c.length<=50)(hs:∀s∈c,Shn s):pU 32 [bH c,.int .i64 d,cV l] (.tup [.bool false,.int .i64 (dE c 0 d)]):=by
 refine pO Kh ?_;simp only[b32,aH];have h:=re c hl hs;unfold dE at *;by_cases hc:az c=0
 ·have z:decide (az c≠(0:Int))=false:=aO (λq=>q hc);rw[if_neg (λq=>q hc)] at he |-;have hd:d<0\/8<=d:=Classical.byContradiction λq=>he (if_neg q);rw[if_pos hd];by_cases hd0:d<0
  ·have z1:decide (d<0)=true:=aL hd0;refine wnY (zI4 @z @z1 @ai @af) ?_;exact bb (ag (.bool _) (ag (.int _ _) aj))
  ·have z1:decide (d<0)=false:=aO hd0;have z2:decide (8<=d)=true:=aL (by omega);refine wnY (zI5 @z @z1 @z2 @ai @af) ?_;exact bb (ag (.bool _) (ag (.int _ _) aj))
 ·have z:decide (az c≠(0:Int))=true:=aL hc;rw[if_pos hc];refine wnY (zI3 @z @ai @af) ?_;exact bb (ag (.bool _) (ag (.int _ _) aj))
def tu(c:List Spx)(l:List (List Spx)):Bool:=l.all uv&&(kY c&&decide (mf c c.length<=400))
theorem HE(c:List Spx)(l:List (List Spx))(hc:Shn c)(hs:∀s∈c,Shn s)(hl:Shn l)(ha:∀a∈l,ShC a):pU 11 [bH c,cV l] (.bool (tu c l)):=by
 refine pO NH ?_;simp only[b11,aH];have hc':c.length<=17592186044416:=hc;have hl':l.length<=17592186044416:=hl;have f1:=Gz c hc hs;unfold tu;refine wnY (zI3 @ai @af @bO) ?_;refine lpI (X:=Nat) (λk=>[(2,.ptr 0 1 0),(10,cV l),(11,.int .i64 l.length),(12,.int .i64 k)]) (λk H nx=>k<=l.length/\H 0=some [am c]/\∀i,i<k->uv (l.getD i default)=true) (λk=>l.length-k) 0 ⟨bw _,rfl,λi h=>absurd h (by omega)⟩ ?_;rintro k H nx ⟨k1,g0,k2⟩;by_cases hk:k<l.length
 ·have ix:=Jf hk;have hf:=IE (l.getD k default) (ha _ (ay hk));cases hv:uv (l.getD k default)
  ·rw[gQ hk hv,Bool.false_and];rw[hv] at hf;generalize l.getD k default=a at *;refine wnY @ix ?_;exact .bool _
  ·rw[hv] at hf
   have k3:∀i,i<k+1->uv (l.getD i default)=true:=λi hi=>by
    rcases(by omega:i<k\/i=k) with h|rfl
    ·exact k2 i h
    ·exact hv
   generalize l.getD k default=a at *;refine wnY @ix ?_;exact⟨k+1,by omega,⟨by omega,g0,k3⟩,ag0⟩
 obtain rfl:k=l.length:=by omega
 rw[iC k2,Bool.true_and];refine wnY (aI @g0 @ae) ?_;clear k2 k1 hk;refine lpI (X:=Nat) (λk=>[(2,.ptr 0 1 0),(7,.int .i64 (mf c k)),(21,am c),(22,.int .i64 c.length),(23,.int .i64 k)]) (λk H nx=>k<=c.length/\H 0=some [am c]) (λk=>c.length-k) 0 ⟨bw _,g0⟩ ?_;clear g0;rintro k H nx ⟨g1,g2⟩;have hb:=wS (c:=c) k;by_cases hk:k<c.length
 ·have ix:=dH hk;have hsl:(c.getD k default).length<=17592186044416:=hs _ (ay hk);have hb2:=wS (c:=c) (k+1);have hfs:mf c (k+1)=mf c k+2^min (c.getD k default).length 10:=rfl
  have hsh:∀tb tf,bt .shl tb tf (.int .i64 1) (.int .i64 (min ((c.getD k default).length:Int) 10))=some (.int .i64 ((2^min (c.getD k default).length 10:Nat):Int)):=λtb tf=>by
   have h1:min ((c.getD k default).length:Int) 10=((min (c.getD k default).length 10:Nat):Int):=by omega
   have h2:2^min (c.getD k default).length 10<=2^10:=Nat.pow_le_pow_right (by omega) (by omega);rw[h1];have:=BU (k:=.i64) (k':=.i64) (a:=1) (b:=min (c.getD k default).length 10) (tb:=tb) (tf:=tf) (by show _<=64;omega) (by show 1*_<2^63;omega);rw[Nat.one_mul] at this;exact this
  rw[hfs] at hb2;generalize 2^min (c.getD k default).length 10=P at *;generalize c.getD k default=s at *;have hce:((mf c (k+1):Nat):Int)=(mf c k:Int)+(P:Int):=by rw[hfs];omega
  refine wnY (zI3 @ix @ao @hsh) ?_;exact⟨k+1,by omega,⟨by omega,g2⟩,by rw[hce];simp (disch:=omega) only[agr,ZG,reduceEqDiff,↓reduceIte]⟩
 obtain rfl:k=c.length:=by omega
 cases e1:kY c
 ·rw[e1] at f1;rw[Bool.false_and];refine wnY (zI3 @g2 @ai @af) ?_;exact .bool _
 rw[e1] at f1;rw[Bool.true_and];by_cases h3:mf c c.length<=400
 ·have z:decide ((mf c c.length:Int)<=400)=true:=aL (by omega);rw[aL h3];refine wnY (zI4 @g2 @z @ai @af) ?_;exact .bool _
 ·have z:decide ((mf c c.length:Int)<=400)=false:=aO (by omega);rw[aO h3];refine wnY (zI4 @g2 @z @ai @af) ?_;exact .bool _
theorem C9{c:List Spx}{l:List (List Spx)}(h:tu c l=true):(∀a∈l,uv a=true)/\c.length<=30/\mf c c.length<=400:=by
 unfold tu at h;simp only[dN,gB] at h;exact⟨λa ha=>eB.1 h.1 a ha,(AE.1 h.2.1).1,h.2.2⟩
end
theorem yf(c:List Spx)(d:Int)(l:List (List Spx))(hl:c.length<=50)(hf:mf c c.length<=400)(hs:∀s∈c,Shn s)(hll:l.length<=500\/1024<l.length)(hlc:Shn l)(hls:∀a∈l,ShC a):∃b e,pU 31 [bH c,.int .i64 d,cV l] (.tup [.bool b,.int .i64 e])/\pU 32 [bH c,.int .i64 d,cV l] (.tup [.bool b,.int .i64 e]):=by
 by_cases he:dE c 0 d=0
 ·obtain⟨hc,h1,h2⟩:=NJ he;obtain⟨n,rfl⟩:∃n:Nat,d=n:=⟨d.toNat,by omega⟩
  have hn:bdN c n<=400:=fe (Gb hc) hf;exact⟨_,_,tT c n l hc hl (by omega) hll (by omega) hlc hls,ud c n l hc hl (by omega) hll hlc hls⟩
 ·exact⟨_,_,sX c d l he hl hs,rJ c d l he hl hs⟩
namespace Dep
theorem w_mix1{P:Program}{T:Tm}{H:Hp}{nx:Nat}{K:CP}{l:List Op2}{C:List Nat}(h:ak P .draw l T H nx λT H nx=>K .normal T H nx):aK P (.mix 1 l C) T H nx K:=Go.Abs.w_mix1 h
attribute [local irreducible] aK ak bg a6 aQ aS aE aU a8 bn Go.Abs.Fn a5 Go.Abs.Pure au aM Yl
theorem law_depends(c:List Spx)(d:Int)(l:List (List Spx))(hc:Shn c/\∀s∈c,Shn s)(hl:Shn l/\∀a∈l,ShC a):pU 8 [bH c,.int .i64 d,cV l] (.bool true):=by
 refine pO is8 ?_;simp only[b8,aH];have hl':l.length<=17592186044416:=hl.1;have f1:=HE c (l.take (min l.length 8)) hc.1 hc.2 (show _<=_ by rw[eM];omega) (λa h=>hl.2 a (gV h));have hmn:min (l.length:Int) 8=((min l.length 8:Nat):Int):=by omega
 have hsl:jI 1 (cV l) none (some (.int .i64 (min (l.length:Int) 8))) none=some (cV (l.take (min l.length 8))):=by
  rw[hmn];exact pi (by omega)
 have z8:∀t:Bool,(8<l.length)=(t=true)->decide ((8:Int)<l.length)=t:=λt ht=>by
  cases t
  ·exact aO (λq=>by have w8:8<l.length:=(by omega);rw[ht] at w8;cases w8)
  ·exact aL (by have w8:8<l.length:=(by rw[ht]);omega)
 cases e1:tu c (l.take (min l.length 8))
 ·rw[e1] at f1;have zz:=aI @ai (aI @af (aI @bO @hsl));repeat' (first|refine zW ?_|apply a_n|apply a_r|refine zO ?_|refine vY ?_|refine cY ?_ (hp:=by first|exact f1|exact r6) (hs:=by(first|refine aF ?_ rfl|apply aW);(repeat' (first|exact aj|apply bo|apply aX|exact cI _|exact eF _));first|done|fail)|refine bxY ?_|refine gFY ?_|refine cTY ?_|refine bS rfl ?_|refine r1Y ?_|fail)
  exact .bool _
 rw[e1] at f1;obtain⟨-,l1,l2⟩:=C9 e1;by_cases h1:8<l.length
 ·have y1:decide ((8:Int)<l.length)=true:=aL (by omega);by_cases h2:l.length<=1024
  ·have y2:decide ((l.length:Int)<=1024)=true:=aL (by omega);have zz:=aI @ai (aI @af (aI @bO (aI @hsl (aI @y1 @y2))));repeat' (first|refine zW ?_|apply a_n|apply a_r|refine zO ?_|refine vY ?_|refine cY ?_ (hp:=by first|exact f1|exact r6) (hs:=by(first|refine aF ?_ rfl|apply aW);(repeat' (first|exact aj|apply bo|apply aX|exact cI _|exact eF _));first|done|fail)|refine bxY ?_|refine gTY ?_|refine cTY ?_|refine bS rfl ?_|refine r1Y ?_|fail)
   exact .bool _
  have y2:decide ((l.length:Int)<=1024)=false:=aO (by omega);obtain⟨b,e,s1,s2⟩:=yf c d l (by omega) l2 hc.2 (.inr (by omega)) hl.1 hl.2;have z1:decide (e=e)=true:=aL rfl;have z3:bt .eql true false (.bool b) (.bool b)=some (.bool true):=by cases b<;>rfl
  have zz:=aI @ai (aI @af (aI @bO (aI @hsl (aI @y1 (aI @y2 (aI @z1 @z3))))));repeat' (first|refine zW ?_|apply a_n|refine zO ?_|refine vY ?_|refine cY ?_ (hp:=by first|exact f1|exact s1|exact s2|exact r6) (hs:=by(first|refine aF ?_ rfl|apply aW);(repeat' (first|exact aj|apply bo|apply aX|exact cI _|exact eF _));first|done|fail)|refine bxY ?_|refine gTY ?_|refine cFY ?_|refine bS rfl ?_|refine r1Y ?_|fail)
  exact .bool _
 have y1:decide ((8:Int)<l.length)=false:=aO (by omega);obtain⟨b,e,s1,s2⟩:=yf c d l (by omega) l2 hc.2 (.inl (by omega)) hl.1 hl.2;have z1:decide (e=e)=true:=aL rfl;have z3:bt .eql true false (.bool b) (.bool b)=some (.bool true):=by cases b<;>rfl
 have zz:=aI @ai (aI @af (aI @bO (aI @hsl (aI @y1 (aI @z1 @z3)))));repeat' (first|refine zW ?_|apply a_n|refine zO ?_|refine vY ?_|refine cY ?_ (hp:=by first|exact f1|exact s1|exact s2|exact r6) (hs:=by(first|refine aF ?_ rfl|apply aW);(repeat' (first|exact aj|apply bo|apply aX|exact cI _|exact eF _));first|done|fail)|refine bxY ?_|refine gTY ?_|refine gFY ?_|refine cFY ?_|refine bS rfl ?_|refine r1Y ?_|fail)
 exact .bool _
end Dep
end Go.Proofs.YtekdaafnjdlenaaGreat
namespace Go.Proofs.YtekdaafnjdlenaaGreat
open Go Go.Abs Go.RowKit
section
variable{H:Type}{enc:TypeId×Value->H}{W:World}
theorem oi:fh enc Tryz.prog W 3 (AV.int .i64) (λn=>(Lit.int .i64 n).wf=true):=DP Tryz.underlying3
set_option maxRecDepth 100000 in
theorem Nm:fh enc Tryz.prog W 69 dF (λ_=>True):=
 (oD Tryz.underlying69 (by kernel_rfl) (mQ (off:=0) (off':=1) rfl (by kernel_rfl) oi (mQ (off:=1) (off':=2) rfl (by kernel_rfl) oi um))).map
  (λa=>(⟨a.1,a.2.1⟩:Vtx)) (λ_ _=>trivial) (λ_ _=>rfl)
theorem oXs:fh enc Tryz.prog W 70 aA Shn:=
 (mL Tryz.underlying70 (sz:=2) (by_:=16) (by kernel_rfl) (by kernel_rfl) (by omega) (λ_=>rfl) Nm).mono λl h=>by have:=h.2.2;show _<=_;omega
theorem KE:fh enc Tryz.prog W 22 am (λl=>Shn l/\∀x∈l,Shn x):=
 (mL Tryz.underlying22 (sz:=1) (by_:=24) (by kernel_rfl) (by kernel_rfl) jq (λ_=>rfl) oXs).mono λl h=>⟨by have:=h.2.2;show _<=_;omega,h.1⟩
set_option maxRecDepth 100000 in
theorem oCx:fh enc Tryz.prog W 24 bH (λl=>Shn l/\∀x∈l,Shn x):=
 (oD Tryz.underlying24 (by kernel_rfl) (mQ (off:=0) (off':=1) rfl (by kernel_rfl) KE um)).map
  (λa=>a.1) (by rintro⟨n,u⟩ ⟨h1,_⟩;exact h1) (λ_ _=>rfl)
end
theorem r9{f:FuncId}{xs:List AV}{vs:List Value}(h:pU f xs (.bool true))(w:World)(hv:dI (E0 (uA w)) w xs vs):
    Calls Tryz.prog f vs.toArray w λe w'=>e=.returned (.bool true)/\Below w.heap.size w w':=by
 refine(h.2 (uA w) w vs (λ_ h=>h) hv).mono ?_;rintro e w' ⟨v,imm',rfl,hb,_,_,_,hr⟩;cases hr;exact⟨rfl,hb⟩
theorem Ng:laidOutB Tryz.prog=true:=by kernel_rfl
end Go.Proofs.YtekdaafnjdlenaaGreat
namespace Go.Proofs.YtekdaafnjdlenaaGreat
open Go Go.Abs
section
open Go.RowKit
variable{H:Type}{enc:TypeId×Value->H}{W:World}
theorem LW:fh enc Tryz.prog W 39 cV (λl=>Shn l/\∀x∈l,ShC x):=
 (mL Tryz.underlying39 (sz:=1) (by_:=24) (by kernel_rfl) (by kernel_rfl) jq (λ_=>rfl) KE).mono λl h=>⟨by have:=h.2.2;show _<=_;omega,h.1⟩
end
end Go.Proofs.YtekdaafnjdlenaaGreat
namespace Go.Proofs.YtekdaafnjdlenaaGreat
open Go Go.Abs Go.RowKit Go.ChangeShapes Go.WideShapes Go.ChangeAt
theorem uu{H:Type}{enc:TypeId×Value->H}{P:Program}{f:Func}{s:ChangeSpec}{apart fresh handsOn again:Bool}{W W':World}{args:Array Value}{v:Value}{ds gs:List (DataW H)}{before pa pv:List MemPlace}
    (hW:DataW.Whole enc P f.params.toList s.vars apart W args.toList ds gs before)
    (hres:∀(b:Nat)(sp:Nat->Bool)(hd:Bool),DataW.TrodAll enc P W' b sp hd f.resultTypes.toList (v.resultList f.resultTypes.size) (s.fn H (ds++gs)).results [])
    (hargs:∀sp:Nat->Bool,(∀p∈before,sp p.block=true)->DataW.TrodAll enc P W' 0 sp true f.params.toList args.toList (s.fn H (ds++gs)).args pa)
    (hvars:∀sp:Nat->Bool,(∀p∈before,sp p.block=true)->DataW.TrodVars enc P W' sp s.vars (s.fn H (ds++gs)).vars pv)
    (hps:before=pa++pv) (hb:Below W.heap.size W W')
    (hok:∀(j:Nat)(t:TypeId)(r:Value),f.resultTypes[j]?=some t->(v.resultList f.resultTypes.size)[j]?=some r->Value.okWide P W' .any 0 t r):
    s.post enc P f apart fresh handsOn again W args v W':=by
 have hold:∀p∈before,(λb=>decide (b<W.heap.size)) p.block=true:=λp hp=>by simpa using hW.lt p hp
 have hlt:=λp hp=>hW.lt p hp;refine⟨ds,gs,before,[],pa,pv,hW,hres _ _ _,hargs _ hold,hvars _ hold,World.keptBut_mono (λp hp=>⟨hp,?_⟩) (hb.frame _),λ_=>?_⟩
 ·rw[hps,eC] at hp;exact Or.inr hp
 ·obtain⟨_,_,_,_,_,hz,hn⟩:=hW;refine⟨hok,_,_,([]++pa)++pv,⟨[]++pa,pv,trodAll_append (hargs _ (λ_ _=>rfl)) (hres _ _ _),hvars _ (λ_ _=>rfl),rfl,?_,?_⟩,?_⟩
  ·intro b off hp;have hp':MemPlace.cell b off∈before:=by rw[hps];simpa using hp
   rw[hb.frozen (hlt _ hp')];exact hz b off hp'
  ·intro ha;have:=hn ha;rw[hps] at this;simpa using this
  ·intro p hp _;rw[hps];simpa using hp
theorem Eg{E:Env}{w:World}:dI E w [] []:=⟨rfl,λi x y h=>(by cases h)⟩
theorem qE{E:Env}{w:World}{x:AV}{y:Value}{xs:List AV}{ys:List Value}(h:Rel E w x y)(hs:dI E w xs ys):dI E w (x::xs) (y::ys):=by
 refine⟨by simp[hs.1],λi a b ha hb=>?_⟩;cases i with
 |zero=>simp at ha hb;subst ha hb;exact h
 |succ i=>simp at ha hb;exact hs.2 i a b ha hb
theorem own:ownKnob Tryz.prog.godebug=none:=by kernel_rfl
end Go.Proofs.YtekdaafnjdlenaaGreat
