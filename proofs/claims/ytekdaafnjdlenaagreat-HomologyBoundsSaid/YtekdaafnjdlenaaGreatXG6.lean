/- Contracts of functions and plain laws, for all inputs that the theorems name. -/
import Derived.Test.YtekdaafnjdlenaaGreatXG5
import Derived.Test.YtekdaafnjdlenaaGreatXG4
import Derived.Test.YtekdaafnjdlenaaGreatXG3
import Derived.Test.YtekdaafnjdlenaaGreatRows
import Derived.WalkKit
import Derived.ProofKit
import Derived.OpenShut

set_option linter.unusedSimpArgs false
set_option linter.unusedVariables false
set_option maxHeartbeats 4000000
namespace Go.Proofs.YtekdaafnjdlenaaGreat
open Go Go.Abs
open Nat (reduceEqDiff reduceAdd reduceLeDiff)
theorem Bw{l:List (List Int)}{k:Nat}{x:List Int}(h:k<l.length):bJ (l.map aD) k [aD x]=(l.set k x).map aD:=by
 unfold bJ;rw[List.map_set];have h2:k<(l.map aD).length:=by rw[bo];exact h
 rw[IY,if_pos h2];simp
def elP(rows:List (List Int))(n c i:Nat):List (List Int):=(List.range rows.length).map λj=>if j<i then elF rows n c j else rows.getD j default
theorem jq{rows:List (List Int)}{n c i:Nat}:(elP rows n c i).length=rows.length:=by unfold elP;simp
theorem yw{l m:List (List Int)}(hl:l.length=m.length)(h:∀i,i<l.length->l.getD i default=m.getD i default):l=m:=by
 refine List.ext_getElem hl λj h1 h2=>?_;have:=h j h1;simpa[List.getD,h1,h2] using this
theorem Bb{l:List (List Int)}{i j:Nat}{x:List Int}(h:j<l.length):(l.set i x).getD j default=if i=j then x else l.getD j default:=by
 simp only[List.getD,List.getElem?_set];by_cases e:i=j
 ·subst e;simp[h]
 ·simp[e]
theorem lu{rows:List (List Int)}{n c i j:Nat}(h:j<rows.length):(elP rows n c i).getD j default=if j<i then elF rows n c j else rows.getD j default:=nI h
theorem Nu{rows:List (List Int)}{n c:Nat}:elP rows n c 0=rows:=yw jq λj h=>by
 rw[jq] at h;rw[lu h,if_neg (by omega)]
theorem Ch{rows:List (List Int)}{n c:Nat}:elP rows n c rows.length=elL rows n c:=by
 unfold elP elL;refine pK λj hj=>?_;rw[if_pos (dZ.1 hj)]
theorem Io{rows:List (List Int)}{n c i:Nat}:(elP rows n c i).set i (elF rows n c i)=elP rows n c (i+1):=yw (by rw[List.length_set,jq,jq]) λj h=>by
 rw[List.length_set] at h;rw[Bb h];rw[jq] at h;rw[lu h,lu h];by_cases e:i=j
 ·subst e;rw[if_pos rfl,if_pos (by omega)]
 ·rw[if_neg e];by_cases q:j<i
  ·rw[if_pos q,if_pos (by omega)]
  ·rw[if_neg q,if_neg (by omega)]
theorem G1{rows:List (List Int)}{n c i:Nat}(h:i<rows.length)(e:elF rows n c i=rows.getD i default):elP rows n c (i+1)=elP rows n c i:=yw (by rw[jq,jq]) λj hj=>by
 rw[jq] at hj;rw[lu hj,lu hj];by_cases q:i=j
 ·subst q;rw[if_pos (by omega),if_neg (by omega),e]
 ·by_cases q2:j<i
  ·rw[if_pos q2,if_pos (by omega)]
  ·rw[if_neg q2,if_neg (by omega)]
theorem sy{rows:List (List Int)}{n k:Nat}:(swL rows n k).length=rows.length:=by unfold swL;simp
theorem KR{rows:List (List Int)}{n k:Nat}(hn:n<rows.length)(hk:k<rows.length):(rows.set n (rows.getD k default)).set k (rows.getD n default)=swL rows n k:=yw (by rw[List.length_set,List.length_set,sy]) λj h=>by
 rw[List.length_set,List.length_set] at h;rw[Bb (by rw[List.length_set];exact h),Bb h,show(swL rows n k).getD j default=rows.getD (swI n k j) default from nI h];unfold swI;by_cases q:k=j
 ·subst q;rw[if_pos rfl];by_cases e:k=n
  ·rw[if_pos e,e]
  ·rw[if_neg e,if_pos rfl]
 ·rw[if_neg q];by_cases e:n=j
  ·rw[if_pos e,if_pos e.symm]
  ·rw[if_neg e,if_neg (λx=>e x.symm),if_neg (λx=>q x.symm)]
def RL(c:Nat)(rows:List (List Int)):Prop:=∀r∈rows,bj r/\∀z∈r,0<=z/\z<(c:Int)
theorem RL.len{c:Nat}{rows:List (List Int)}(h:RL c rows):∀r∈rows,r.length<=c:=λr hr=>d5 (h r hr).1 (h r hr).2
theorem RL.sum {c:Nat} {a b:List Int} (h1:bj a∧∀ z ∈ a,0 ≤ z∧z < (c:Int)) (h2:bj b∧∀ z ∈ b,0 ≤ z∧z < (c:Int)):bj (bU a b)∧∀ z ∈ bU a b,0 ≤ z∧z < (c:Int):=⟨d9 h1.1 h2.1,fun z hz=>by
 rcases(dA h1.1 h2.1).1 hz with q|q
 ·exact h1.2 z q.1
 ·exact h2.2 z q.1⟩
theorem RL.elF{c:Nat}{rows:List (List Int)}(h:RL c rows){n k i:Nat}(hn:n<rows.length)(hi:i<rows.length):bj (elF rows n k i)/\∀z∈elF rows n k i,0<=z/\z<(c:Int):=by
 unfold Go.Proofs.YtekdaafnjdlenaaGreat.elF;split
 ·exact RL.sum (h _ (ar hi)) (h _ (ar hn))
 ·exact h _ (ar hi)
theorem RL.elP{c:Nat}{rows:List (List Int)}(h:RL c rows){n k i:Nat}(hn:n<rows.length):RL c (elP rows n k i):=λr hr=>by
 unfold Go.Proofs.YtekdaafnjdlenaaGreat.elP at hr;obtain⟨j,hj,rfl⟩:=bE.1 hr;have hj:=dZ.1 hj;split
 ·exact h.elF hn hj
 ·exact h _ (ar hj)
theorem RL.swL{c:Nat}{rows:List (List Int)}(h:RL c rows){n k:Nat}(hn:n<rows.length)(hk:k<rows.length):RL c (swL rows n k):=λr hr=>by
 unfold Go.Proofs.YtekdaafnjdlenaaGreat.swL at hr;obtain⟨j,hj,rfl⟩:=bE.1 hr;exact h _ (ar (oZ hn hk (dZ.1 hj)))
theorem Fy{c:Nat}{R:List (List Int)}(h:RL c R):∀{k:Nat},RL c (stR R k).1/\(stR R k).1.length=R.length/\(stR R k).2<=R.length
 |0=>⟨h,rfl,bC _⟩
 |k+1=>by
  obtain⟨h1,h2,h3⟩:=Fy h (k:=k);unfold stR;split
  ·exact⟨h1,h2,h3⟩
  ·rename_i p hp;obtain⟨p1,p2⟩:=yP hp;have hs:=h1.swL (n:=(stR R k).2) (k:=p) (by omega) p2;refine⟨?_,?_,?_⟩
   ·dsimp only;rw[<-Ch];exact hs.elP (by rw[sy];omega)
   ·dsimp only;unfold elL;rw[bo,List.length_range,sy];exact h2
   ·dsimp only;omega
theorem jU.one{H:Hp}{s:AV}{l:List (List Int)}(h:jU H s l):s.one=true/\s.cells=[s]:=by
 rcases h with rfl|h
 ·exact⟨rfl,rfl⟩
 ·exact h.one
theorem CH:∀k,stR [] k=([],0)
 |0=>rfl
 |k+1=>by
  unfold stR;rw[CH k];rfl
structure CmpO{α:Type}(P:Program)(f:α->AV)(K:α->α->Int)(G:α->Prop):Prop where
 cells:∀x,(f x).cells=[f x]
 one:∀x,(f x).one=true
 dat:∀x,Dat (f x)
 run:∀x y,G x->G y->Go.Abs.Pure P 187 [f x,f y] (.bool (decide (K x y<0)))
 ord:Ord K
theorem OQ:Ord (λx y:Int=>x-y):=⟨λx=>by omega,λx y h=>by omega,λx y z h1 h2=>by omega⟩
theorem AM{H:Hp}{sv:AV}{l:List Int}(h:Row H 1 sv (l.map (AV.int .i64)))(h0:0<l.length):∃B,sv=.msl B l.length 1 0 l.length/\H B=some (l.map (AV.int .i64)):=by
 generalize hcs:l.map (AV.int .i64)=cs at h;have hl:cs.length=l.length:=by rw[<-hcs,bo]
 cases h with
 |nil=>simp at hl;omega
 |box B len cs h1 h2=>
  have e:len=l.length:=by omega
  subst e;exact⟨B,by rw[Nat.mul_one],h1⟩
def vM(E:List (List Int))(q:Nat):List Int:=E.foldl (λa r=>if (q:Int)∈r then bU a [ld r] else a) [(q:Int)]
def pI(E:List (List Int))(q:Nat):List Int:=(q:Int)::(E.filter λr=>decide ((q:Int)∈r)).map ld
def KC(E:List (List Int))(c:Nat):List Nat:=(List.range c).filter λq=>decide ((q:Int)∉E.map ld)
def uf(E:List (List Int))(c:Nat):List (List Int):=(KC E c).map (vM E)
theorem DB{E:List (List Int)}{k:Nat}:uf E (k+1)=uf E k++if (k:Int)∈E.map ld then [] else [vM E k]:=by
 unfold uf KC;rw[List.range_succ,s7,cA]
 congr 1
 by_cases h:(k:Int)∈E.map ld
 ·rw[if_pos h,q9 (by simpa using h)];rfl
 ·rw[if_neg h,rf (by simpa using h)];rfl
theorem A6{E:List (List Int)}{k:Nat}:(uf E k).length<=k:=by
 unfold uf KC;rw[bo];exact fm (List.length_filter_le _ _) (by simp)
theorem Dq{E:List (List Int)}{q j:Nat}(h:j<E.length):pI (E.take (j+1)) q=pI (E.take j) q++if (q:Int)∈E.getD j default then [ld (E.getD j default)] else []:=by
 unfold pI;rw[bT h,s7,cA,List.cons_append]
 congr 2
 by_cases h:(q:Int)∈E.getD j default
 ·rw[if_pos h,rf (by simpa using h)];rfl
 ·rw[if_neg h,q9 (by simpa using h)];rfl
theorem Ab{E:List (List Int)}{q:Nat}:(pI E q).length<=E.length+1:=by
 unfold pI;rw[bS,bo];exact Nat.succ_le_succ (List.length_filter_le _ _)
theorem qR{q:Nat}:∀{E:List (List Int)}{a:List Int},E.Pairwise (λr s=>ld r<ld s)->bj a->(∀r∈E,ld r∉a)->
    bj (E.foldl (λa r=>if (q:Int)∈r then bU a [ld r] else a) a)/\∀z,z∈E.foldl (λa r=>if (q:Int)∈r then bU a [ld r] else a) a↔z∈a\/ ∃r∈E,(q:Int)∈r/\z=ld r
 |[],a,_,h2,_=>⟨h2,λz=>⟨.inl,λh=>h.elim id λ⟨r,hr,_⟩=>by cases hr⟩⟩
 |x::E,a,h1,h2,h3=>by
  have hx:=iR.1 h1;rw[List.foldl_cons];by_cases h:(q:Int)∈x
  ·rw[if_pos h];have hs:bj [ld x]:=List.pairwise_singleton _ _;have hna:=h3 x (de ..)
   have hm:∀z,z∈bU a [ld x]↔z∈a\/z=ld x:=λz=>by
    rw[dA h2 hs,dg];constructor
    ·rintro(q|q)
     ·exact .inl q.1
     ·exact .inr q.1
    ·rintro(q|rfl)
     ·exact .inl ⟨q,λe=>hna (e▸q)⟩
     ·exact .inr ⟨rfl,hna⟩
   obtain ⟨i1,i2⟩:=qR (q:=q) hx.2 (d9 h2 hs) (fun r hr hz=>by
    rcases(hm _).1 hz with g|g
    ·exact h3 r (dU _ hr) g
    ·have:=hx.1 r hr;omega)
   refine⟨i1,λz=>(i2 z).trans ?_⟩;rw[hm];constructor
   ·rintro((g|g)|⟨r,hr,g⟩)
    ·exact .inl g
    ·exact .inr ⟨x,de ..,h,g⟩
    ·exact .inr ⟨r,dU _ hr,g⟩
   ·rintro(g|⟨r,hr,g1,g2⟩)
    ·exact .inl (.inl g)
    ·rcases dt.1 hr with rfl|hr
     ·exact .inl (.inr g2)
     ·exact .inr ⟨r,hr,g1,g2⟩
  ·rw[if_neg h];obtain⟨i1,i2⟩:=qR (q:=q) hx.2 h2 (λr hr=>h3 r (dU _ hr));refine⟨i1,λz=>(i2 z).trans ?_⟩;constructor
   ·rintro(g|⟨r,hr,g⟩)
    ·exact .inl g
    ·exact .inr ⟨r,dU _ hr,g⟩
   ·rintro(g|⟨r,hr,g1,g2⟩)
    ·exact .inl g
    ·rcases dt.1 hr with rfl|hr
     ·exact absurd g1 h
     ·exact .inr ⟨r,hr,g1,g2⟩
theorem uk{E:List (List Int)}{q:Nat}(hE:Red E)(hq:(q:Int)∉E.map ld):bj (vM E q)/\∀z,z∈vM E q↔z=q\/ ∃r∈E,(q:Int)∈r/\z=ld r:=by
 have:=qR (q:=q) (a:=[(q:Int)]) hE.ord (List.pairwise_singleton _ _) (λr hr h=>hq (by rw[dg] at h;rw[<-h];exact List.mem_map_of_mem hr));exact⟨this.1,λz=>(this.2 z).trans (by rw[dg])⟩
theorem Gk{E:List (List Int)}{q:Nat}{z:Int}:z∈pI E q↔z=q\/ ∃r∈E,(q:Int)∈r/\z=ld r:=by
 unfold pI;rw[dt,bE];constructor
 ·rintro(h|⟨r,hr,e⟩)
  ·exact .inl h
  ·have:=fM.1 hr;exact .inr ⟨r,this.1,n5 this.2,e.symm⟩
 ·rintro(h|⟨r,hr,g,e⟩)
  ·exact .inl h
  ·exact .inr ⟨r,fM.2 ⟨hr,aM g⟩,e.symm⟩
theorem BR{E:List (List Int)}{q:Nat}(hE:Red E)(hq:(q:Int)∉E.map ld):(pI E q).Nodup:=by
 unfold pI;refine List.nodup_cons.2 ⟨λh=>?_,?_⟩
 ·obtain⟨r,hr,e⟩:=bE.1 h;exact hq (e▸List.mem_map_of_mem (fM.1 hr).1)
 ·rw[List.Nodup,List.pairwise_map];exact(hE.ord.sublist xR).imp λ{x y} h e=>by omega
theorem Dl{E:List (List Int)}{q:Nat}(hE:Red E)(hq:(q:Int)∉E.map ld){L:List Int}(hp:L.Perm (pI E q))(hs:L.Pairwise (· <= ·)):L=vM E q:=by
 have hn:L.Nodup:=hp.nodup_iff.2 (BR hE hq)
 have ha:bj L:=(hs.and hn).imp λ{x y} h=>by
  have h1:=h.1;have h2:x≠y:=h.2;show x<y;omega
 obtain⟨k1,k2⟩:=uk hE hq;refine pA ha k1 λz=>?_;rw[hp.mem_iff,k2,Gk]
def ow(k:Nat):List AV:=List.replicate k (.bool true)
theorem DU{k i:Nat}(h:i<k):Go.Abs.mget (.bool false) false (some i) (ow k)=.bool true:=by
 show(ow k).getD i _=_;simp[ow,List.getD,h]
theorem HD{R:List (List Int)}{n q:Nat}:(trF R n q).Pairwise (· < ·):=List.Pairwise.filter _ List.pairwise_lt_range
theorem Ks{R:List (List Int)}{c:Nat}(hR:R.length<=4096)(hc:c<=4096):fZ R.length (trL c R):=by
 refine⟨by omega,by omega,by unfold trL;rw[bo,List.length_range];exact hc,λr hr=>?_⟩;unfold trL at hr;obtain⟨q,hq,rfl⟩:=bE.1 hr;refine⟨λv hv=>?_,?_,qf (ec HD)⟩
 ·unfold bl at hv;obtain⟨j,hj,rfl⟩:=bE.1 hv;unfold trF at hj;have:=dZ.1 (fM.1 hj).1;omega
 ·unfold bl;rw[bo];exact fm CR hR
def bdN(c:List Spx)(d:Nat):Nat:=(am c ((d:Int)+1)).length
def bdM(c:List Spx)(d:Nat):List (List Int):=trL (am c ((d:Int)+1+1)).length (ca (am c ((d:Int)+1+1)) (am c ((d:Int)+1)))
def bdE(c:List Spx)(d:Nat):List (List Int):=eD (bdM c d) (bdN c d)
theorem EV{c:List Spx}{d:Nat}(hc:aA c=0)(hl:c.length<=50):fZ (bdN c d) (bdM c d):=by
 have h1:=cl hc hl (d:=(d:Int)+1);have h2:=cl hc hl (d:=(d:Int)+1+1);have:=Ks (R:=ca (am c ((d:Int)+1+1)) (am c ((d:Int)+1))) (c:=(am c ((d:Int)+1+1)).length) (by rw[fq];omega) (by omega);rw[fq] at this;exact this
theorem C5{c:List Spx}{d:Nat}:(bdE c d).length<=bdN c d:=by unfold bdE eD;rw[bo];exact lr
def bsT(E:List (List Int))(n:Nat)(K:List (List Int)):Nat->List (List Int)
 |0=>[]
 |k+1=>if (eD ((E++bsT E n K k)++[K.getD k default]) n).length=(eD (E++bsT E n K k) n).length then bsT E n K k else bsT E n K k++[K.getD k default]
theorem CT{E:List (List Int)}{n:Nat}{K:List (List Int)}:∀{k:Nat},(bsT E n K k).length<=k
 |0=>aP _
 |k+1=>by
  have:=CT (E:=E) (n:=n) (K:=K) (k:=k);unfold bsT;split
  ·omega
  ·rw[da];simp only[bS,fJ];omega
theorem yE{E:List (List Int)}{n:Nat}{K:List (List Int)}:∀{k:Nat},k<=K.length->∀v∈bsT E n K k,v∈K
 |0,_,v,h=>by cases h
 |k+1,hk,v,h=>by
  unfold bsT at h;split at h
  ·exact yE (by omega) v h
  ·rcases eM.1 h with h|h
   ·exact yE (by omega) v h
   ·rw[dg] at h;subst h;exact ar (by omega)
theorem Ht{E:List (List Int)}{n:Nat}(hE:Red E)(hv:∀r∈E,∀z∈r,0<=z/\z<(n:Int)):eD E n=E:=by
 obtain⟨h1,h2,-⟩:=jX hE.asc hv;exact tV h1 hE h2
theorem Au{c:Int}{R S:List (List Int)}(h:fZ c R)(hl:S.length<=4096)(hs:∀r∈S,r∈R):fZ c S:=⟨h.1,h.2.1,hl,λr hr=>h.2.2.2 r (hs r hr)⟩
theorem An{c:Int}{R S:List (List Int)}(h:fZ c R)(h2:fZ c S)(hl:R.length+S.length<=4096):fZ c (R++S):=⟨h.1,h.2.1,by rw[da];exact hl,λr hr=>(eM.1 hr).elim (h.2.2.2 r) (h2.2.2.2 r)⟩
theorem jU.same{H H':Hp}{s:AV}{l:List (List Int)}(h:jU H s l)(hs:∀b,bz s=some b->H' b=H b):jU H' s l:=by
 rcases h with h|h
 ·exact .inl h
 ·exact .inr (h.same hs)
theorem uM{c:List Spx}:bR c=.agg [aj c]:=rfl
def bsK(c:List Spx)(d:Nat):List (List Int):=uf (eD (ca (am c ((d:Int)+1)) (am c d)) (bdN c d)) (bdN c d)
theorem EP{c:List Spx}{d:Nat}(hc:aA c=0)(hl:c.length<=50):fZ (bdN c d) (ca (am c ((d:Int)+1)) (am c d)):=by
 have h1:=cl hc hl (d:=(d:Int)+1);have h2:=cl hc hl (d:=(d:Int));exact jt (X:=am c ((d:Int)+1)) (Y:=am c d) (by omega) (by omega)
theorem lz{c:Nat}{R:List (List Int)}(h:fZ c R):∀r∈R,∀z∈r,0<=z/\z<(c:Int):=λr hr=>(h.2.2.2 r hr).1
theorem Dc{c:Nat}{R:List (List Int)}(hc:c<=4096)(hl:R.length<=4096)(ha:∀r∈R,bj r)(hv:∀r∈R,∀z∈r,0<=z/\z<(c:Int)):fZ c R:=
 ⟨by omega,by omega,hl,λr hr=>⟨hv r hr,by have:=d5 (ha r hr) (hv r hr);omega,qf (ha r hr)⟩⟩
theorem xK{c:Nat}{R:List (List Int)}(h:fZ c R):Red (eD R c)/\(∀v,Sp (eD R c) v↔Sp R v)/\(∀r∈eD R c,∀z∈r,0<=z/\z<(c:Int))/\(eD R c).length<=c:=by
 obtain⟨h1,h2,-⟩:=jX (eu h) (lz h);exact⟨h1,h2,λr hr=>jw (eu h) (lz h) ((h2 r).1 (eO hr)),by unfold eD;rw[bo];exact lr⟩
theorem Ki{E:List (List Int)}{c:Nat}(hE:Red E)(hv:∀r∈E,∀z∈r,0<=z/\z<(c:Int)):∀v∈uf E c,bj v/\∀z∈v,0<=z/\z<(c:Int):=λv h=>by
 unfold uf at h;obtain⟨q,hq,rfl⟩:=bE.1 h;have hq:=fM.1 hq;have hqc:=dZ.1 hq.1;obtain⟨k1,k2⟩:=uk hE (n5 hq.2);refine⟨k1,λz hz=>?_⟩;rcases(k2 z).1 hz with rfl|⟨r,hr,_,rfl⟩
 ·omega
 ·exact hv r hr _ (dq (hE.ne r hr))
theorem Gm{c:List Spx}{d:Nat}(hc:aA c=0)(hl:c.length<=50):fZ (bdN c d) (bsK c d)/\(bsK c d).length<=bdN c d:=by
 have hn:bdN c d<=3500:=cl hc hl;obtain⟨h1,-,h2,-⟩:=xK (EP (d:=d) hc hl);have hk:=Ki h1 h2;have hll:(bsK c d).length<=bdN c d:=A6;exact⟨Dc (by omega) (by omega) (λv h=>(hk v h).1) λv h=>(hk v h).2,hll⟩
theorem JH{c:List Spx}{d:Nat}(hc:aA c=0)(hl:c.length<=50):fZ (bdN c d) (bdE c d)/\Red (bdE c d)/\(∀v,Sp (bdE c d) v↔Sp (bdM c d) v):=by
 have hn:bdN c d<=3500:=cl hc hl;obtain⟨h1,h2,h3,h4⟩:=xK (EV (d:=d) hc hl);exact⟨Dc (by omega) (fm h4 (by omega)) h1.asc h3,h1,h2⟩
def H9(o:Option Nat):List Nat:=match o with|some x=>[x]|none=>[]
theorem Ap{o:Option Nat}{x:Nat}:x∈H9 o↔o=some x:=by cases o<;>simp[H9];exact eq_comm
theorem nT{c:List Spx}{n:Nat}:am c ((n:Int)+1)=gj c (n+1):=by
 have:=zF (c:=c) (k:=n+1);rw[if_neg (by omega)] at this;exact this
theorem iV{b:List Int}:∀{a:List Int},bK (λj=>bit j b) a=(a.filter λx=>decide (x∈b)).length
 |[]=>rfl
 |x::a=>by
  have ih:=iV (b:=b) (a:=a);show bit x b+bK _ a=_;rw[ih];by_cases h:x∈b
  ·rw[rf (by simpa using h),bS];unfold bit;rw[if_pos h];omega
  ·rw[q9 (by simpa using h)];unfold bit;rw[if_neg h];omega
theorem mF{a b:List Int}(ha:bj a)(hb:bj b):gM a b=gZ b a:=by
 unfold gM gZ;have:=nj _ a b (aP _) ha hb;rw[iV];refine decide_eq_decide.2 ?_;omega
theorem v8{a b:List Int}(ha:bj a)(hb:bj b):gZ a b=gZ b a:=by
 unfold gZ;rw[iV,iV,rU (a:=b) (b:=a) hb.nodup ha.nodup]
theorem mY{g:Int->Nat}{b:List Int}:∀{a:List Int},bK g (a++b)=bK g a+bK g b
 |[]=>by show _=0+_;rw[cq];rfl
 |x::a=>by
  have ih:=mY (g:=g) (b:=b) (a:=a);show g x+bK g (a++b)=g x+bK g a+bK g b;rw[ih];omega
theorem jC{g:Int->Nat}:∀{a:List Int},(∀z∈a,g z=0)->bK g a=0
 |[],_=>rfl
 |x::a,h=>by
  show g x+bK g a=0;rw[h x de,jC λz hz=>h z (dU _ hz)]
theorem y9{g h:Int->Nat}:∀{a:List Int},bK (λz=>g z+h z) a=bK g a+bK h a
 |[]=>rfl
 |x::a=>by
  have ih:=y9 (g:=g) (h:=h) (a:=a);show g x+h x+bK _ a=g x+bK g a+(h x+bK h a);rw[ih];omega
theorem vW{f:Int->Int->Nat}{v:List Int}:∀{y:List Int},bK (λj=>bK (λz=>f z j) v) y=bK (λz=>bK (λj=>f z j) y) v
 |[]=>by
  exact(jC (g:=λz=>bK (λj=>f z j) []) λz _=>rfl).symm
 |j::y=>by
  have ih:=vW (f:=f) (v:=v) (y:=y);show bK (λz=>f z j) v+bK _ y=bK (λz=>f z j+bK (λj=>f z j) y) v;rw[ih,y9]
theorem sP{g h:Int->Nat}:∀{a:List Int},(∀z∈a,g z%2=h z%2)->bK g a%2=bK h a%2
 |[],_=>rfl
 |x::a,e=>by
  have ih:=sP (g:=g) (h:=h) (a:=a) λz hz=>e z (dU _ hz);have h0:=e x de;show(g x+bK g a)%2=(h x+bK h a)%2;omega
theorem vT{R:List (List Int)}{v:List Int}(hR:∀r∈R,bj r)(hv:bj v){i:Nat}(hi:i<R.length):bit (i:Int) (bl (fg R v))=bK (λz=>bit z (R.getD i default)) v%2:=by
 have h1:(i:Int)∈bl (fg R v)↔gM (R.getD i default) v=true:=by
  rw[gY];unfold fg;constructor
  ·rintro⟨j,hj,e⟩;obtain rfl:j=i:=by omega
   exact(fM.1 hj).2
  ·intro h;exact⟨i,fM.2 ⟨dZ.2 hi,h⟩,rfl⟩
 have hri:=hR _ (ar hi);rw[mF hri hv,v8 hv hri] at h1;unfold gZ at h1;have hb:bit (i:Int) (bl (fg R v))=if (i:Int)∈bl (fg R v) then 1 else 0:=rfl
 rw[hb];by_cases h:(i:Int)∈bl (fg R v)
 ·rw[if_pos h];have:=n5 (h1.1 h);exact this.symm
 ·rw[if_neg h];have:¬_:=λq=>h (h1.2 (aM q));have h2:=Nat.mod_lt (bK (λz=>bit z (R.getD i default)) v) (by omega:0<2);omega
theorem Gi{R:List (List Int)}{v:List Int}(hR:∀r∈R,bj r)(hv:bj v){y:List Int}(hy:y∈(stE R R.length).2):gZ (bl (fg R v)) y=false:=by
 have hs:=(fY hR (aP R.length)).dep y hy;obtain⟨_,h2,h3⟩:=hs
 have h2:∀z,0=bK (λj=>bit z (R.getD j.toNat default)) y%2:=λz=>by
  have:=h2 z;rw[show bit z (([],y):Ln).1=0 from fj] at this;exact this
 have h3:∀j∈y,0<=j/\j<(R.length:Int):=h3;unfold gZ;refine aQ λh=>?_
 have e1:bK (λj=>bit j (bl (fg R v))) y%2=bK (λj=>bK (λz=>bit z (R.getD j.toNat default)) v) y%2:=sP λj hj=>by
  have hj':=h3 j hj;have:=vT hR hv (i:=j.toNat) (by omega);rw[show((j.toNat:Nat):Int)=j by omega] at this;rw[this];omega
 rw[vW (f:=λz j=>bit z (R.getD j.toNat default))] at e1;have e2:bK (λz=>bK (λj=>bit z (R.getD j.toNat default)) y) v%2=bK (λ_=>0) v%2:=sP λz _=>by have:=h2 z;omega
 rw[jC (g:=λ_=>0) λ_ _=>rfl] at e2;omega
structure VR(c:Nat)(R:List (List Int)):Prop where
 asc:∀r∈R,bj r
 rng:∀r∈R,∀z∈r,0<=z/\z<(c:Int)
def rk(R:List (List Int))(c:Nat):Nat:=(eD R c).length
theorem VR.app{c:Nat}{R S:List (List Int)}(h1:VR c R)(h2:VR c S):VR c (R++S):=
 ⟨λr hr=>(eM.1 hr).elim (h1.asc r) (h2.asc r),λr hr=>(eM.1 hr).elim (h1.rng r) (h2.rng r)⟩
theorem VR.sub{c:Nat}{R S:List (List Int)}(h:VR c R)(hs:∀r∈S,r∈R):VR c S:=⟨λr hr=>h.asc r (hs r hr),λr hr=>h.rng r (hs r hr)⟩
theorem VR.one{c:Nat}{v:List Int}(ha:bj v)(hv:∀z∈v,0<=z/\z<(c:Int)):VR c [v]:=⟨λr hr=>by rw[dg] at hr;rw[hr];exact ha,λr hr=>by rw[dg] at hr;rw[hr];exact hv⟩
theorem VR.nil{c:Nat}:VR c []:=⟨λ_ h=>(by cases h),λ_ h=>(by cases h)⟩
theorem CQ{c:Nat}{R:List (List Int)}(h:fZ c R):VR c R:=⟨eu h,lz h⟩
structure KerV(R:List (List Int))(c:Nat)(x:List Int):Prop where
 asc:bj x
 rng:∀z∈x,0<=z/\z<(c:Int)
 dot:∀r∈R,bK (λz=>bit z r) x%2=0
theorem KJ{R:List (List Int)}{c q:Nat}(h:q<c):(trL c R).getD q default=bl (trF R R.length q):=nI h
theorem FL{R:List (List Int)}{q:Nat}{j:Int}(hj:0<=j/\j<(R.length:Int)):bit j (bl (trF R R.length q))=kN R q j:=by
 unfold kN bit
 have e:j∈bl (trF R R.length q)↔(q:Int)∈R.getD j.toNat default:=by
  rw[gY];constructor
  ·rintro⟨i,hi,rfl⟩;have:=(fM.1 hi).2;simpa using this
  ·intro h;exact⟨j.toNat,fM.2 ⟨dZ.2 (by omega),aM h⟩,by omega⟩
 by_cases h:(q:Int)∈R.getD j.toNat default
 ·rw[if_pos h,if_pos (e.2 h)]
 ·rw[if_neg h,if_neg λx=>h (e.1 x)]
theorem Fh{R:List (List Int)}{c:Nat}(h:VR c R){y:List Int}:KerV (trL c R) R.length y↔bj y/\(∀j∈y,0<=j/\j<(R.length:Int))/\∀z,bK (kN R z) y%2=0:=by
 constructor
 ·intro k;refine⟨k.asc,k.rng,λz=>?_⟩;by_cases hz:0<=z/\z<(c:Int)
  ·obtain⟨q,rfl⟩:=Int.eq_ofNat_of_zero_le hz.1;have hq:q<c:=by omega
   have:=k.dot _ (show(trL c R).getD q default∈trL c R from ar (by unfold trL;simpa using hq));rw[KJ hq,gv λj hj=>FL (k.rng j hj)] at this;exact this
  ·rw[jC λj hj=>?_];unfold kN;have hj:=k.rng j hj;have:z∉R.getD j.toNat default:=λq=>hz (h.rng _ (ar (by omega)) z q);show(if z∈R.getD j.toNat default then 1 else 0)=0;rw[if_neg this]
 ·rintro⟨a,b,k⟩;refine⟨a,b,λr hr=>?_⟩;unfold trL at hr;obtain⟨q,hq,rfl⟩:=bE.1 hr;rw[gv λj hj=>FL (b j hj)];exact k q
theorem IT{R:List (List Int)}{c:Nat}(h:VR c R){y:List Int}:Sp (stE R R.length).2 y↔KerV (trL c R) R.length y:=by
 have hs:=fY h.asc (aP R.length);have ha:∀r∈(stE R R.length).2,bj r:=λr hr=>(hs.dep r hr).1.2;rw[Fh h];constructor
 ·intro k
  exact ⟨kO ha k,jw ha (fun r hr=>(hs.dep r hr).2.2) k,fun z=>sF k fun d hd=>by
   have:=(hs.dep d hd).2.1 z;rw[fj] at this;exact this.symm⟩
 ·rintro⟨a,b,k⟩;exact tH h.asc (aP _) a b k
theorem Ar{L:List Ln}{w:List Int}{z:Int}:z∈mw L w↔ ∃l∈L,gM l.2 w=true/\ld l.1=z:=by
 unfold mw;simp only[bE,fM];exact⟨λ⟨l,⟨h1,h2⟩,h3⟩=>⟨l,h1,h2,h3⟩,λ⟨l,h1,h2,h3⟩=>⟨l,⟨h1,h2⟩,h3⟩⟩
theorem FO{M:List Ln}{c:Nat}{w:List Int}(hM:RedU M):bj (mw (mh M c) w):=by
 unfold mw bj;rw[List.pairwise_map];exact(pf hM).sublist xR
theorem ze{M:List Ln}{c:Nat}{w:List Int}(hM:RedU M):∀z∈mw (mh M c) w,0<=z/\z<(c:Int):=λz hz=>by
 obtain⟨l,h1,_,rfl⟩:=Ar.1 hz;exact((qe hM).1 h1).2
theorem EC{R:List (List Int)}{c:Nat}{w:List Int}(hR:∀r∈R,bj r)(hv:∀r∈R,∀z∈r,0<=z/\z<(c:Int))(hw:bj w)(h0:∀y∈(stE R R.length).2,gZ w y=false){i:Nat}(hi:i<R.length):bK (λz=>bit z (mw (ll R c) w)) (R.getD i default)%2=bit (i:Int) w:=by
 have hsy:=wj hR hv h0;obtain⟨w1,w2,w3⟩:=lP (b:=w) hR hv;obtain⟨e1,e2,e3⟩:=jX w1 w2;rw[pt w1 w2] at hsy;have hs:=fY hR (aP R.length);have hM:=hs.red;have d3:=(jX hR hv).2.2;have hlv:∀l∈(stE R R.length).1,∀z∈l.1,0<=z/\z<(c:Int):=λl hl=>jw hR hv (kP (λr hr=>iq hr) (hs.inS l hl))
 have hxm:∀z,z∈mw (ll R c) w↔ ∃l∈(stE R R.length).1,gM l.2 w=true/\ld l.1=z:=λz=>by
  rw[Ar];exact⟨λ⟨l,h1,h2⟩=>⟨l,(d3 l).1 h1,h2⟩,λ⟨l,h1,h2⟩=>⟨l,(d3 l).2 h1,h2⟩⟩
 have hxc:∀z∈mw (ll R c) w,z<(c:Int):=λz hz=>(ze hM z hz).2;generalize mw (ll R c) w=x at *
 have hgz:∀z:Int,z<(c:Int)->bit z (x++[(c:Int)])=bit z x:=λz hz=>by
  unfold bit;by_cases h:z∈x
  ·rw[if_pos h,if_pos (eM.2 (.inl h))]
  ·rw [if_neg h,if_neg fun q=>by
     rcases eM.1 q with q|q
     ·exact h q
     ·have:=dg.1 q;omega]
 have hgc:bit (c:Int) (x++[(c:Int)])=1:=dD.2 (eM.2 (.inr (dg.2 rfl)));have hwi:(eU R c w).getD i default∈eU R c w:=ar (by unfold eU;simpa using hi);have hsp:=(e2 _).2 (eO hwi);rw[hsy,AB hi] at hsp
 have hz:=sF (g:=λz=>bit z (x++[(c:Int)])) hsp λd hd=>by
  obtain⟨l,hl,rfl⟩:=bE.1 hd;have hl:=(d3 l).1 hl;have hla:=hM.asc l hl;have hne:=hM.ne l hl;have hsame:∀l'∈(stE R R.length).1,ld l'.1∈l.1->l=l':=λl' hl' h=>hM.own l' hl' l hl h;have hlc:=hlv l hl
  have hld:bK (λz=>bit z (x++[(c:Int)])) l.1=bit (ld l.1) x:=by
   have hldm:=dq hne;cases hq:l.1 with
   |nil=>exact absurd hq hne
   |cons z t=>
    rw[hq] at hldm hsame hlc hla;have hz:ld (z::t)=z:=rfl;rw[hz];show bit z (x++[(c:Int)])+bK _ t=_;rw[hgz z (hlc z de).2,jC (a:=t) λu hu=>?_]
    ·omega
    ·have huc:=hlc u (dU _ hu);rw[hgz u huc.2];unfold bit;rw[if_neg λhux=>?_];obtain⟨l',h1,_,h3⟩:=(hxm u).1 hux;have h4:=hsame l' h1 (by rw[h3];exact dU _ hu);have h5:=(iR.1 hla.1).1 u hu;rw[<-h4,hq] at h3;have:ld (z::t)=z:=rfl;omega
  have hbx:bit (ld l.1) x=if gZ w l.2=true then 1 else 0:=by
   rw[<-mF hla.2 hw];unfold bit;by_cases h:gM l.2 w=true
   ·rw[if_pos ((hxm _).2 ⟨l,hl,h,rfl⟩),if_pos h]
   ·rw[if_neg λq=>?_,if_neg h];obtain⟨l',h1,h2,h3⟩:=(hxm _).1 q;have:=hsame l' h1 (by rw[h3];exact dq hne);rw[this] at h;exact h h2
  unfold wdL;by_cases h:gZ w l.2=true
  ·rw[if_pos h,mY,hld,hbx,if_pos h];show(1+(bit (c:Int) (x++[(c:Int)])+0))%2=0;rw[hgc]
  ·rw[if_neg h,hld,hbx,if_neg h]
 have hri:=hv _ (ar hi);have hcg:bK (λz=>bit z (x++[(c:Int)])) (R.getD i default)=bK (λz=>bit z x) (R.getD i default):=gv λz hz=>hgz z (hri z hz).2;unfold wdR at hz;by_cases h:(i:Int)∈w
 ·rw[if_pos h,mY,hcg] at hz;have hz:(bK (λz=>bit z x) (R.getD i default)+(bit (c:Int) (x++[(c:Int)])+0))%2=0:=hz;rw[hgc] at hz;unfold bit at hz |-;rw[if_pos h];omega
 ·rw[if_neg h,hcg] at hz;unfold bit at hz |-;rw[if_neg h];exact hz
theorem x8{n:Nat}{x:List Int}(ha:bj x)(hr:∀z∈x,0<=z/\z<(n:Int)):qI n x=0:=by
 unfold qI;refine dl λk hk=>?_;rw[tQ];have h1:=hr _ (ar hk);rw[if_neg (by omega),if_neg];rintro⟨h0,h2⟩;have h3:=kX.1 ha (k-1) k (by omega) hk (by omega);have e1:x.getD k default=x[k]:=by simp[List.getD,hk]
 have e2:x.getD (k-1) default=x[k-1]:=by simp[List.getD,show k-1<x.length by omega]
 omega
theorem xp:∀{a b:List Nat},bl a=bl b->a=b
 |[],[],_=>rfl
 |[],_::_,h=>by cases h
 |_::_,[],h=>by cases h
 |x::a,y::b,h=>by
  obtain⟨h1,h2⟩:=List.cons.inj h;have h1:(x:Int)=(y:Int):=h1;rw[xp h2,show x=y by omega]
theorem zV{Y:List Spx}:∀{a b:List Spx},(∀s∈a,s∈Y)->(∀s∈b,s∈Y)->eI Y a=eI Y b->a=b
 |[],[],_,_,_=>rfl
 |[],_::_,_,_,h=>by cases h
 |_::_,[],_,_,h=>by cases h
 |s::a,t::b,h1,h2,h=>by
  obtain⟨e1,e2⟩:=List.cons.inj h;have i1:=nY.2 (h1 s de);have i2:=nY.2 (h2 t de);have g1:Y[Y.idxOf s]=s:=List.getElem_idxOf i1;have g2:Y[Y.idxOf t]=t:=List.getElem_idxOf i2
  have e3:s=t:=by
   rw[<-g1,<-g2]
   congr 1
  rw[e3,zV (λu hu=>h1 u (dU _ hu)) (λu hu=>h2 u (dU _ hu)) e2]
def cyT(c:List Spx)(d:Nat):List (List Spx):=(bsT (bdE c d) (bdN c d) (bsK c d) (bsK c d).length).map (cf (am c ((d:Int)+1)))
theorem FU{H:Hp}{s:AV}{l:List (List Spx)}(h:Row H 1 s (l.map aj)):Snap H s (fS l):=h.snapL' (λ_=>rfl) (λx _=>bm x)
theorem F8{H:Hp}{b n j:Nat}{l:List Int}(hb:H b=some (l.map (AV.int .i64)))(hn:l.length=n)(hj:j<=n):Snap H (.msl b n 1 0 j) (aD (l.take j)):=by
 refine jP hb (by simp[hn]) (by omega) (by simp[hn,hj]) (λy hy=>by simp only[bE] at hy;obtain⟨n,_,rfl⟩:=hy;rfl) (λi a c ha hc=>?_);rw[cq] at ha;rw[ms,jy] at hc;rw[ms] at ha;split at hc
 ·rw[ha] at hc;cases hc;obtain⟨z,_,rfl⟩:=Option.map_eq_some_iff.1 ha;exact .int _ _
 ·cases hc
def IX(l:List Int)(k:Int):Bool:=match l with
 |[]=>false
 |x::r=>!((((x-1)::r).take (min (k+1) ((r.length+1:Nat):Int)).toNat).any λn=>decide (n≠0))
theorem Iz{c:List Spx}{m:Nat}:(btL c m).length=m:=by unfold btL;simp
theorem JW{c:List Spx}{m:Nat}(hc:aA c=0)(hl:c.length<=50):∀x∈btL c m,-7000<=x/\x<=7000:=λx hx=>by
 unfold btL at hx;obtain⟨d,_,rfl⟩:=bE.1 hx;unfold btF;have h1:=cl hc hl (d:=(d:Int)+1);have h2:=cl hc hl (d:=((d+1:Nat):Int)+1);have h3:=yt (c:=c) (d:=d);have h4:=yt (c:=c) (d:=d+1);omega
def lJ(c:List Spx):Nat->Nat
 |0=>0
 |k+1=>lJ c k+2^min (c.getD k default).length 10
theorem xW{c:List Spx}:∀k,lJ c k<=1024*k
 |0=>bC _
 |k+1=>by
  have ih:=xW (c:=c) k;have:2^min (c.getD k default).length 10<=2^10:=Nat.pow_le_pow_right (by omega) (by omega);unfold lJ;omega
theorem um:∀{l:Spx}{k:Nat},(ct l k).length<=2^l.length
 |l,0=>by rw[mW];exact Nat.one_le_two_pow
 |[],k+1=>by rw[uj];simp
 |x::l,k+1=>by
  have h1:=um (l:=l) (k:=k);have h2:=um (l:=l) (k:=k+1);rw[iB,da,bo,bS,Nat.pow_succ];omega
theorem Fg{c:List Spx}{n:Nat}(h8:∀s∈c,s.length<=8):∀k,k<=c.length->((c.take k).flatMap λs=>ct s n).length<=lJ c k
 |0,_=>by simp
 |k+1,hk=>by
  have ih:=Fg (n:=n) h8 k (by omega);have h1:=h8 _ (ar (l:=c) (i:=k) (by omega));have h2:=um (l:=c.getD k default) (k:=n);rw[bT (show k<c.length by omega),List.flatMap_append,da];unfold lJ;rw[Nat.min_eq_left (by omega)];simp only[vj,List.flatMap_nil,fR];omega
theorem Hb{c:List Spx}(hc:aA c=0){d:Int}:(am c d).length<=lJ c c.length:=by
 unfold am;split
 ·simp
 ·unfold gj;have h:=Fg (c:=c) (n:=d.toNat) (λs hs=>(bX ((di hc).2.1 s hs)).2.1) c.length (aP _);rw[List.take_length] at h;exact fm pF h
theorem JD{α:Type}[BEq α][LawfulBEq α]{K:α->α->Int}(hK:LinK K){L:List α}(hL:bO K L){x y:α}(hx:x∈L)(hy:y∈L)(h:K x y<0):L.idxOf x<L.idxOf y:=by
 have i1:=nY.2 hx;have i2:=nY.2 hy;have g1:L[L.idxOf x]=x:=List.getElem_idxOf i1;have g2:L[L.idxOf y]=y:=List.getElem_idxOf i2;rcases sg (L.idxOf x) (L.idxOf y) with q|q|q
 ·exact q
 ·have:x=y:=by
    rw[<-g1,<-g2];congr 1
  rw[this] at h;exact absurd h (hK.ord.irr y)
 ·have:=kX.1 hL _ _ i2 i1 q;rw[g1,g2] at this;exact absurd h (hK.ord.asym _ _ this)
theorem Ay{L a:List Spx}(hL:bO bg L)(ha:bO bg a)(h:∀s∈a,s∈L):(eI L a).Pairwise (· < ·):=by
 unfold eI;rw[List.pairwise_map];exact ha.imp_of_mem λ{x y} hx hy hxy=>JD iC hL (h x hx) (h y hy) hxy
theorem cR{c a:List Spx}{v:List Int}(h:dF c a=(v,0)):aA c=0/\fL a=0/\v=bl (eI (am c (a9 a)) a)/\(∀s∈a,s∈am c (a9 a))/\bj v/\∀z∈v,0<=z/\z<((am c (a9 a)).length:Int):=by
 unfold dF at h;split at h
 ·rename_i q;exact absurd (congrArg Prod.snd h) q
 rename_i q1;split at h
 ·rename_i q;exact absurd (congrArg Prod.snd h) q
 rename_i q2;have e1:aA c=0:=by simpa using q1
 have e2:fL a=0:=by simpa using q2
 split at h
 ·rename_i q;subst q;cases h;exact⟨e1,e2,rfl,λs hs=>(by cases hs),od,λz hz=>(by cases hz)⟩
 split at h
 rotate_left
 ·cases h
 rename_i q3 q4;cases h;have hm:∀s∈a,s∈am c (a9 a):=λs hs=>n5 (ey.1 q4 s hs);refine⟨e1,e2,rfl,hm,ec (Ay gG (dP e2).2.2.1 hm),λz hz=>?_⟩;obtain⟨i,hi,rfl⟩:=gY.1 hz;unfold eI at hi;obtain⟨s,hs,rfl⟩:=bE.1 hi;have:=nY.2 (hm s hs);omega
section
attribute [local irreducible] aK an bk a5 aR aU aF aV a8 bu Go.Abs.Fn aZ Go.Abs.Pure az aL Yl
theorem BW(c:Nat)(hmc:c<=4096)(G:Hp)(n0:Nat)(s:AV)(hsR:jU G s [])(hsb:∀b,bz s=some b->b<n0):Abs.Fn Tryz.prog 106 [.agg [.int .i64 c,s]] G n0 λr H' nx'=>∃s',r=.agg [.int .i64 c,s']/\jU H' s' ([])/\n0<=nx'/\(∀x,x<n0->H' x=G x)/\∀b,bz s'=some b->n0<=b/\b<nx':=by
 refine fO Jn ?_;simp only[KB,aH];obtain⟨o1,o2⟩:=hsR.one;refine wnY (zI3 @bQ @o1 @o2) ?_;refine jd rfl ev0 ev0 (hsR.src λb hb=>by have:=hsb b hb;rw[ac (by omega),ac (by omega)]) sE (by decide) (by decide) ?_;refine wnY @bQ ?_;refine uo (X:=Nat) (λk=>[(1,.ptr n0 2 0),(2,.ptr (n0+1) 2 0),(3,br []),(4,.int .i64 0),(5,.int .i64 k)]) (λk H nx=>k<=c/\n0+3<=nx/\H n0=some [.int .i64 c,s]/\H (n0+1)=some [.int .i64 0,.esl]/\∀x,x<n0->H x=G x) (λk=>c-k) 0 ⟨_,_,Fz.one (b:=n0+2) (cs:=[]) (by rw[ah];rfl),⟨bC _,aP _,by rw[cw (by omega),ac (by omega),ac (by omega),ah],by rw[cw (by omega),ac (by omega),ah],λx hx=>by rw[cw (by omega),ac (by omega),ac (by omega),ac (by omega)]⟩,.inl rfl,.inl rfl,.inr (Dx (l:=[]) gX rfl rfl),.inl rfl,.inl rfl,trivial⟩ ?_;rintro k H nx ⟨h1,h2,g0,g1,gl⟩;by_cases hk:k<c
 ·have zk:decide ((k:Int)<c)=true:=aM (by omega);have hpv:=Gz [] 0 k (by decide) (λr hr=>(by cases hr)) (by decide);rw[show Hm [] 0 k=-1 from rfl] at hpv;have z0:decide ((-1:Int)<0)=true:=rfl;refine wnY (zI3 @zk @g0 @z0) ?_;exact⟨k+1,by omega,bN,_,Fz.none,⟨by omega,h2,g0,g1,gl⟩,gK ag0⟩
 ·obtain rfl:k=c:=by omega
  have zk:decide ((k:Int)<k)=false:=aQ (by omega);have hsl:kI 1 (br []) none (some (.int .i64 0)) none=some (br []):=rfl;refine wnY (zI4 @g0 @g1 @zk @hsl) ?_;refine jd rfl ev0 ev0 (io (l:=[])) jB (by decide) (by decide) ?_;refine wnY @g1 ?_;refine⟨_,rfl,.inr ?_,by omega,λx hx=>by(repeat rw[ac (by omega)]);exact gl x hx,λb hb=>?_⟩
  ·exact Row.box (nx+1) 0 [] (by(repeat rw[ac (by omega)]);rw[ah];rfl) rfl
  ·cases hb;omega
theorem Ba(c:Nat)(R:List (List Int))(hm:fZ c R)(G:Hp)(n0:Nat)(s:AV)(hsR:jU G s R)(hsb:∀b,bz s=some b->b<n0):Abs.Fn Tryz.prog 106 [.agg [.int .i64 c,s]] G n0 λr H' nx'=>∃s',r=.agg [.int .i64 c,s']/\jU H' s' (pc R c)/\n0<=nx'/\(∀x,x<n0->H' x=G x)/\∀b,bz s'=some b->n0<=b/\b<nx':=by
 have hmc:=hm.2.1;have hml:=hm.2.2.1;by_cases hR0:R=[]
 ·subst hR0;have e:pc [] c=[]:=by unfold pc;rw[CH];rfl
  rw[e];exact BW c (by omega) G n0 s hsR hsb
 have hRn:R.length≠0:=λe=>hR0 (fo.1 e);refine fO Jn ?_;simp only[KB,aH];have hR:RL c R:=λr hr=>⟨eu hm r hr,(hm.2.2.2 r hr).1⟩
 have hst:=λk=>Fy hR (k:=k);obtain⟨o1,o2⟩:=hsR.one;refine wnY (zI3 @bQ @o1 @o2) ?_;refine jd rfl ev0 ev0 (hsR.src λb hb=>by have:=hsb b hb;rw[ac (by omega),ac (by omega)]) sE (by omega) (by omega) ?_;rw[Nat.mul_one];refine wnY @bQ ?_;refine lpI (X:=Nat) (λk=>[(1,.ptr n0 2 0),(2,.ptr (n0+1) 2 0),(3,.msl (n0+2) R.length 1 0 R.length),(4,.int .i64 (stR R k).2),(5,.int .i64 k)]) (λk H nx=>k<=c/\n0+3<=nx/\H n0=some [.int .i64 c,s]/\H (n0+1)=some [.int .i64 0,.esl]/\H (n0+2)=some ((stR R k).1.map aD)/\∀x,x<n0->H x=G x) (λk=>c-k) 0 ⟨bC _,aP _,by rw[ac (by omega),ac (by omega),ah],by rw[ac (by omega),ah],ah,λx hx=>by rw[ac (by omega),ac (by omega),ac (by omega)]⟩ ?_;rintro k H nx ⟨h1,h2,g0,g1,g2,gl⟩;obtain⟨r1,r2,r3⟩:=hst k;by_cases hk:k<c
 rotate_left
 ·obtain rfl:k=c:=by omega
  have hrr:pc R k=(stR R k).1.take (stR R k).2:=rfl;generalize (stR R k).1=rows at *;generalize (stR R k).2=n at *;rw[hrr];have zk:decide ((k:Int)<k)=false:=aQ (by omega)
  have hsl:kI 1 (.msl (n0+2) R.length 1 0 R.length) none (some (.int .i64 n)) none=some (.msl (n0+2) R.length 1 0 n):=by
   simp[kI,bP];exact λq=>absurd (q r3) hR0
  refine wnY (zI5 @g0 @g1 @g2 @zk @hsl) ?_;refine jd rfl ev0 ev0 (fE (cs:=rows.map aD) ?_ (by rw[bo];omega) (by omega)) (by rw[List.drop_zero,<-List.map_take];exact jB) (by omega) (by omega) ?_
  ·rw[ac (by omega),ac (by omega)];exact g2
  rw[List.drop_zero,<-List.map_take,Nat.mul_one];refine wnY @g1 ?_;refine⟨_,rfl,.inr ?_,by omega,λx hx=>by(repeat rw[ac (by omega)]);exact gl x hx,λb hb=>?_⟩
  ·simpa only[Nat.mul_one] using Row.box (sz:=1) (nx+1) n ((rows.take n).map aD) (by(repeat rw[ac (by omega)]);rw[ah]) (by rw[bo,fy];omega)
  ·cases hb;omega
 have zk:decide ((k:Int)<c)=true:=aM (by omega);have hpv:=Gz (stR R k).1 (stR R k).2 k (by omega) (λr hr=>by have:=r1.len r hr;omega) (by omega)
 have hss:stR R (k+1)=match uW (stR R k).1 (stR R k).2 k with
  |none=>stR R k
  |some p=>(elL (swL (stR R k).1 (stR R k).2 p) (stR R k).2 k,(stR R k).2+1):=rfl
 unfold Hm at hpv;have hps:=λp=>yP (rows:=(stR R k).1) (n:=(stR R k).2) (c:=k) (k:=p);generalize hsk:stR R k=st at *;obtain⟨rows,n⟩:=st;dsimp only at *;have hrow:Row H 1 (.msl (n0+2) R.length 1 0 R.length) (rows.map aD):=by simpa only[Nat.mul_one] using Row.box (sz:=1) (n0+2) R.length (rows.map aD) g2 (by rw[bo,Nat.mul_one,r2])
 refine wnY (aI @zk @g0) ?_;refine ez ev0 ev0 hpv (aG (ag (kF hrow) (ag (.int _ _) (ag (.int _ _) ak))) rfl) ?_;cases hp:uW rows n k with
 |none=>
  rw[hp] at hss;dsimp only at hss;have z0:decide ((-1:Int)<0)=true:=rfl;refine wnY @z0 ?_;exact⟨k+1,by omega,⟨by omega,h2,g0,g1,by rw[hss];exact g2,gl⟩,by rw[hss];simp (disch:=omega) only[agr,ZG,reduceEqDiff,↓reduceIte]⟩
 |some p=>
  rw[hp] at hss;dsimp only at hss;obtain⟨p1,p2⟩:=hps p hp;have z0:decide ((p:Int)<0)=false:=aQ (by omega);have rl:(rows.map aD).length=R.length:=by rw[bo,r2]
  refine wnY (zI4 @z0 @g2 @rl @r2) ?_;rw[Bw (by omega)];have rl2:(rows.set n (rows.getD p default)).length=R.length:=by rw[List.length_set,r2]
  refine wnY @rl2 ?_;rw[Bw (by rw[List.length_set];omega),KR (by omega) p2];have hSl:=sy (rows:=rows) (n:=n) (k:=p);have hSr:=r1.swL (n:=n) (k:=p) (by omega) p2;generalize swL rows n p=S at *;clear hrow g2 rl rl2 hpv;refine bZ (X:=Nat) (λi=>[(1,.ptr n0 2 0),(2,.ptr (n0+1) 2 0),(3,.msl (n0+2) R.length 1 0 R.length),(4,.int .i64 n),(5,.int .i64 k),(7,.int .i64 i)]) (λi H' nx'=>i<=R.length/\n0+3<=nx'/\H' n0=some [.int .i64 c,s]/\H' (n0+1)=some [.int .i64 0,.esl]/\H' (n0+2)=some ((elP S n k i).map aD)/\∀x,x<n0->H' x=G x) (λi=>R.length-i) 0 ⟨bC _,h2,by rw[ac (by omega),ac (by omega)];exact g0,by rw[ac (by omega),ac (by omega)];exact g1,by rw[ah,Nu],λx hx=>by rw[ac (by omega),ac (by omega)];exact gl x hx⟩ ag0 ?_;rintro i H' nx' ⟨i1,i2,j0,j1,j2,jl⟩;have hPl:(elP S n k i).length=R.length:=by rw[jq];omega
  have hPr:=hSr.elP (n:=n) (k:=k) (i:=i) (by omega);have rl3:((elP S n k i).map aD).length=R.length:=by rw[bo,hPl]
  by_cases hi:i<R.length
  rotate_left
  ·obtain rfl:i=R.length:=by omega
   have zi:decide ((R.length:Int)<R.length)=false:=aQ (by omega);refine wnY @zi ?_;refine⟨k+1,by omega,⟨by omega,i2,j0,j1,?_,jl⟩,by rw[hss];simp (disch:=omega) only[agr,ZG,reduceEqDiff,↓reduceIte]⟩;rw[hss,j2,show R.length=S.length by omega,Ch]
  have hPi:(elP S n k i).getD i default=S.getD i default:=by rw[lu (by omega),if_neg (by omega)]
  have hnn:elF S n k n=S.getD n default:=by unfold elF;rw[if_neg (λq=>q.1 rfl)]
  have hPn:(elP S n k i).getD n default=S.getD n default:=by rw[lu (by omega),hnn];split<;>rfl
  have hPs:=Io (rows:=S) (n:=n) (c:=k) (i:=i);have hPe:=λe=>G1 (rows:=S) (n:=n) (c:=k) (i:=i) (by omega) e;have hFi:elF S n k i=if i≠n/\(k:Int)∈S.getD i default then bU (S.getD i default) (S.getD n default) else S.getD i default:=rfl
  have hli:=hSr.len _ (ar (show i<S.length by omega));have hln:=hSr.len _ (ar (show n<S.length by omega));have hh:=xI (S.getD i default) (k:Int) (by omega);have hpl:=IM (S.getD i default) (S.getD n default) (by omega) (by omega);have zi:decide ((i:Int)<R.length)=true:=aM (by omega);generalize hP2:elP S n k (i+1)=P2 at *;generalize hP1:elP S n k i=P at *;generalize S.getD i default=x at *;generalize S.getD n default=y at *;by_cases hin:i=n
  ·have zn:decide ((i:Int)≠n)=false:=aQ (by omega);rw[if_neg (λq=>q.1 hin)] at hFi;refine wnY (zI5 @zi @zn @j2 @rl3 @hPl) ?_;exact⟨i+1,by omega,⟨by omega,i2,j0,j1,by rw[hP2,hPe hFi];exact j2,jl⟩,ag0⟩
  have zn:decide ((i:Int)≠n)=true:=aM (by omega);by_cases hx:(k:Int)∈x
  ·rw[aM hx] at hh;rw[if_pos ⟨hin,hx⟩] at hFi;rw[<-hFi] at hpl;refine wkY (zI7 @zi @zn @j2 @rl3 @hPl @hPi @hPn) ?_;rw[Bw (by omega),hPs]
   skip
   exact⟨i+1,by omega,⟨by omega,i2,by rw[ac (by omega)];exact j0,by rw[ac (by omega)];exact j1,by rw[hP2];exact ah,λx hx=>by rw[ac (by omega)];exact jl x hx⟩,ag0⟩
  ·rw[aQ hx] at hh;rw[if_neg (λq=>hx q.2)] at hFi;refine wnY (zI6 @zi @zn @j2 @rl3 @hPl @hPi) ?_;exact⟨i+1,by omega,⟨by omega,i2,j0,j1,by rw[hP2,hPe hFi];exact j2,jl⟩,ag0⟩
theorem jU.snapM{H:Hp}{s:AV}{l:List (List Int)}{c:Int}(h:jU H s l):Snap H (.agg [.int .i64 c,s]) (dh c l):=ja (ag (.int _ _) (ag h.snap ak))
theorem EI(c:Nat)(R:List (List Int))(hm:fZ c R):pU 106 [dh c R] (dh c (pc R c)):=
 Pure.of_fn ((Ba c R hm bN 0 (br R) (.inl rfl) (λb hb=>(by cases hb))).mono λr H' nx' ⟨s',e,h,_⟩=>by rw[e];exact h.snapM)
section
variable{α:Type}[Inhabited α]{f:α->AV}{K:α->α->Int}{G:α->Prop}
theorem Nb(hc:CmpO Tryz.prog f K G){L:List α}{H:Hp}{b nx n a e:Nat}(hH:H b=some (L.map f))(hn:L.length=n)(hG:∀x∈L,G x)(hae:a<=e)(hen:e<=n)(hn2:n<=1000000000):
    Abs.Fn Tryz.prog 189 [.msl b n 1 0 n,.int .i64 a,.int .i64 e] H nx λr H' nx'=>nx'=nx/\∃L',H'=ay H b (L'.map f)/\PermR a e L L'/\bA K a e L':=by
 refine fO Og ?_;simp only[Mr,aH];refine wnZ and_self ?_;refine bZ (X:=Nat×List α) (λx=>[(0,.msl b n 1 0 n),(1,.int .i64 a),(2,.int .i64 e),(6,.int .i64 (x.1:Nat))]) (λx H' nx'=>a+1<=x.1/\(x.1<=e\/x.1=a+1)/\H'=ay H b (x.2.map f)/\nx'=nx/\PermR a e L x.2/\bA K a x.1 x.2) (λx=>e+1-x.1) (a+1,L) ⟨aP _,.inr rfl,l6 hH,rfl,.refl,bA.one (aP _)⟩ ag0 ?_;rintro⟨i,M0⟩ H' nx' ⟨h1,h2,rfl,rfl,hp0,hs0⟩;dsimp only at *;have hl0:M0.length=n:=by rw[hp0.len,hn]
 by_cases hi:i<e
 rotate_left
 ·refine wnZ and_self ?_;exact⟨rfl,M0,rfl,hp0,hs0.mono (aP _) (by omega)⟩
 refine wnZ and_self ?_;refine bZ (X:=Nat×List α) (λx=>[(0,.msl b n 1 0 n),(1,.int .i64 a),(2,.int .i64 e),(6,.int .i64 (i:Nat)),(7,.int .i64 (x.1:Nat))]) (λx H' nxx=>a<=x.1/\x.1<=i/\H'=ay H b (x.2.map f)/\nxx=nx'/\PermR a e L x.2/\gL K a i x.1 x.2) (λx=>x.1) (i,M0) ⟨by omega,aP _,rfl,rfl,hp0,.start hs0⟩ ag0 ?_;clear hp0 hs0 hl0;rintro⟨j,M⟩ H' nxx ⟨a1,a2,rfl,rfl,hp,hal⟩;dsimp only at *;have hl:M.length=n:=by rw[hp.len,hn]
 have hGM:=hp.mem hG;by_cases hja:j=a
 ·subst hja;refine wkZ and_self ?_;exact⟨(i+1,M),by dsimp only;omega,⟨by dsimp only;omega,.inl (by dsimp only;omega),rfl,rfl,hp,hal.done hc.ord (.inl rfl)⟩,ag0⟩
 ·obtain⟨k,rfl⟩:∃k,j=k+1:=⟨j-1,by omega⟩
  have tj:((k+1:Nat):Int)-1=(k:Int):=by omega
  have lc:=hc.run (M.getD (k+1) default) (M.getD k default) (hGM _ (bc (by omega))) (hGM _ (bc (by omega)));have d1:=hc.dat (M.getD (k+1) default);have d2:=hc.dat (M.getD k default);generalize hKK:K (M.getD (k+1) default) (M.getD k default)=kk at lc;by_cases hlt:kk<0
  ·obtain⟨M1,hl1,lm1,lm2⟩:∃M1:List α,M1.length=n/\bJ (M.map f) (k+1) [f (M.getD k default)]=M1.map f/\bJ (M1.map f) k [f (M.getD (k+1) default)]=(swp M (k+1) k).map f:=
     ⟨M.set (k+1) (M.getD k default),by simp[hl],jD (by omega),by rw[jD (by simp;omega)];rfl⟩
   have lm3:=lm2;simp only[bJ,bS,fJ,cq] at lm1 lm2;refine wkZ (zI6 @tj @cE @lm1 @lm2 hc.cells hc.one) ?_;refine⟨(k,swp M (k+1) k),by dsimp only;omega,⟨by dsimp only;omega,by dsimp only;omega,?_,rfl,hp.trans (PermR.swap (by omega) (by omega) (by omega)),hal.step hc.ord (by omega) (by omega) (by omega) (by rw[hKK];exact hlt)⟩,(have zz:=@tj;agZ)⟩;dsimp only;rw[bd,bd,lm3]
  ·refine wkZ (zI4 @tj @cE hc.cells hc.one) ?_;exact⟨(i+1,M),by dsimp only;omega,⟨by dsimp only;omega,.inl (by dsimp only;omega),rfl,rfl,hp,hal.done hc.ord (.inr ⟨by omega,by rw[qJ,hKK];exact hlt⟩)⟩,ag0⟩
end
theorem KG(x y:Int):pU 187 [.int .i64 x,.int .i64 y] (.bool (decide (x-y<0))):=by
 have e:decide (x-y<0)=decide (x<y):=decide_eq_decide.2 (by omega);rw[e];have n1:=jM x;refine pO Je ?_;simp only[Ku,aH];refine wnZ and_self ?_;exact Dat.snap Dat.bool
theorem OG:CmpO Tryz.prog (λx:Int=>.int .i64 x) (λx y=>x-y) (λ_=>True):=⟨λ_=>rfl,λ_=>rfl,λ_=>.int,λx y _ _=>KG x y,OQ⟩
theorem Ig{L:List Int}{H:Hp}{b nx n lim:Nat}(hH:H b=some (L.map λx=>.int .i64 x))(hn:L.length=n)(hn2:n<=12):
    Abs.Fn Tryz.prog 164 [.msl b n 1 0 n,.int .i64 0,.int .i64 n,.int .i64 lim] H nx λr H' nx'=>nx'=nx/\∃L':List Int,H'=ay H b (L'.map λx=>.int .i64 x)/\PermR 0 n L L'/\bA (λx y:Int=>x-y) 0 n L':=by
 refine fO Nd ?_;simp only[Nr,aH];have z:decide ((n:Int)<=12)=true:=aM (by omega);refine wnZ and_self ?_;refine bZ (X:=Unit) (λx=>[(0,.msl b n 1 0 n),(1,.int .i64 0),(2,.int .i64 n),(3,.int .i64 lim)]) (λx H' nx'=>H'=H/\nx'=nx) (λx=>0) () ⟨rfl,rfl⟩ ag0 ?_;rintro _ _ _ ⟨rfl,rfl⟩;refine wnZ (aI @z @Int.sub_zero) ?_;refine bh ev0 (have zz:=@Int.natCast_zero;evZ) (Nb OG (a:=0) hH hn (λ_ _=>trivial) (bC _) (aP _) (by omega)) ?_;rintro _ _ _ ⟨rfl,L',rfl,hp,hs⟩;refine wnZ and_self ?_;exact⟨rfl,L',rfl,hp,hs⟩
def ro(m:Nat):Prop:=∀{L:List Int}{H:Hp}{b nx n:Nat},H b=some (L.map λx=>.int .i64 x)->b<nx->L.length=n->0<n->n<=m->
    Abs.Fn Tryz.prog 147 [.msl b n 1 0 n] H nx λr H' nx'=>∃L':List Int,PS H H' nx nx' b (L'.map λx=>.int .i64 x)/\L'.Perm L/\L'.Pairwise (· <= ·)
theorem ro.le{m k:Nat}(h:ro m)(hk:k<=m):ro k:=λa b c d e=>h a b c d (fm e hk)
theorem FP:ro 12:=λ{L H b nx n} hH hbx hn hn0 hn2=>by
 refine fO Ls ?_;simp only[Mz,aH];have w:IntKind.wrap .u64 (n:Int)=n:=gN (by omega) (by omega);refine wnZ @w ?_;refine bh ev0 (have zz:=@w;evZ) (GQ hn0 (by omega)) ?_;rintro _ _ _ ⟨rfl,rfl,k,rfl,h3,h4⟩
 skip
 refine bh ev0 (have zz:=@Int.natCast_zero;evZ) (Ig hH hn hn2) ?_;rintro _ _ _ ⟨rfl,N,rfl,hp,hs⟩;refine wnZ and_self ?_;refine⟨N,⟨ah,λi _ h2=>ac h2,aP _⟩,hp.perm,?_⟩;rw[kX];intro i j hi hj hij;have hl:N.length=n:=by rw[hp.len,hn]
 have:=hs i j (bC _) hij (by omega);simp only[List.getD,hi,hj,so,u6] at this;omega
theorem EU(c:Nat)(R:List (List Int))(hm:fZ c R)(hso:ro (c+1)):pU 103 [dh c R] (.tup [dh c (uf (eD R c) c),.int .i64 0]):=by
 refine pO LN ?_;simp only[Me,aH];have he:=oT c R hm;have z0:decide ((0:Int)≠0)=false:=rfl;have hd:Dat (.agg [.int .i64 c,br R]):=cV c R;have hmc:=hm.2.1;have hmv:∀r∈R,∀z∈r,0<=z/\z<(c:Int):=λr hr z hz=>(hm.2.2.2 r hr).1 z hz;obtain⟨hred,hsp,-⟩:=jX (eu hm) hmv;have hEv:∀r∈eD R c,∀z∈r,0<=z/\z<(c:Int):=λr hr=>jw (eu hm) hmv ((hsp r).1 (eO hr));have hEl:(eD R c).length<=c:=by unfold eD;rw[bo];exact lr
 rw[cu,cu] at he;rw[cu,cu];generalize eD R c=E at *;clear hsp;refine wnY (aI @z0 @bQ) ?_;refine v5 ?_;refine wnY @bQ ?_;refine lpI (X:=Nat) (λk=>[(1,.ptr 0 2 0),(2,.ptr 1 2 0),(4,.ptr 2 2 0),(6,.ptr 3 2 0),(7,.mp 4),(28,br E),(29,.int .i64 E.length),(30,.int .i64 k)]) (λk H nx=>k<=E.length/\5<=nx/\H 0=some [.int .i64 c,br R]/\H 1=some [.int .i64 0,.esl]/\H 2=some [.int .i64 c,br E]/\H 3=some [.int .i64 c,.esl]/\H 4=some [.omap (((E.take k).map ld).map (AV.int .i64)) (ow k)]) (λk=>E.length-k) 0 ⟨bC _,aP _,rfl,rfl,rfl,rfl,rfl⟩ ?_;rintro k H nx ⟨g1,g2,g3,g4,g5,g6,g7⟩;by_cases hk:k<E.length
 ·have ix:=vI hk;have hn:=hred.ne _ (ar (l:=E) hk);have ix0:=Ea hn;have hmf:=jb (ld (E.getD k default)) ((E.take k).map ld)
  have hni:ld (E.getD k default)∉(E.take k).map ld:=λh=>by
   obtain⟨r,hr,e⟩:=bE.1 h;obtain⟨i,hi,e2⟩:=jO hr;rw[fy] at hi;have hi2:i<E.length:=by omega
   have:=kX.1 hred.ord i k hi2 hk (by omega);rw[List.getElem_take] at e2;rw[show E[k]=E.getD k default by simp[List.getD,hk]] at this;rw[e2] at this;omega
  rw[if_neg hni] at hmf;have hts:=bT hk
  have hml:((E.take (k+1)).map ld).map (AV.int .i64)=((E.take k).map ld).map (AV.int .i64)++[.int .i64 (ld (E.getD k default))]:=by
   rw[hts,cA,cA];rfl
  have htr:ow (k+1)=ow k++[.bool true]:=by unfold ow;rw[List.replicate_succ']
  generalize E.getD k default=r at *;refine wnY (aI @ix @ix0) ?_;refine qn ev0 g7 ev0 ev0 rfl hmf ?_;refine wnY and_self ?_;refine⟨k+1,by omega,⟨by omega,by omega,(ac (by omega)).trans g3,(ac (by omega)).trans g4,(ac (by omega)).trans g5,(ac (by omega)).trans g6,?_⟩,ag0⟩;rw[ah,hml,htr];rfl
 obtain rfl:k=E.length:=by omega
 rw[fP (aP _)] at g7;clear hk g1;refine wnY @g3 ?_;refine lpI (X:=AV×Nat) (λx=>[(1,.ptr 0 2 0),(2,.ptr 1 2 0),(4,.ptr 2 2 0),(6,.ptr 3 2 0),(7,.mp 4),(40,.int .i64 c),(41,.int .i64 x.2)]) (λx H nx=>x.2<=c/\5<=nx/\H 0=some [.int .i64 c,br R]/\H 1=some [.int .i64 0,.esl]/\H 2=some [.int .i64 c,br E]/\H 3=some [.int .i64 c,x.1]/\H 4=some [.omap ((E.map ld).map (AV.int .i64)) (ow E.length)]/\Row H 1 x.1 ((uf E x.2).map aD)/\∀b,bz x.1=some b->4<b/\b<nx) (λx=>c-x.2) (.esl,0) ⟨bC _,g2,g3,g4,g5,g6,g7,Row.nil,λb h=>(by cases h)⟩ ?_;clear g2 g3 g4 g5 g6 g7;rintro⟨sv,k⟩ H nx ⟨g1,g2,g3,g4,g5,g6,g7,g8,g9⟩;dsimp only at g1 g2 g3 g4 g5 g6 g7 g8 g9 |-;by_cases hk:k<c
 rotate_left
 ·obtain rfl:k=c:=by omega
  obtain⟨o1,o2⟩:=g8.one;refine wnY (zI4 @g6 @g4 @o1 @o2) ?_;refine kG (kF (g8.same λb hb=>?_)) rfl;have:=g9 b hb;rw[ac (by omega)]
 have hmf:=jb (k:Int) (E.map ld);have hks:=DB (E:=E) (k:=k);by_cases hlead:(k:Int)∈E.map ld
 ·rw[if_pos hlead] at hmf;rw[if_pos hlead,fR] at hks;have hgt:Go.Abs.mget (.bool false) false (some ((E.map ld).idxOf (k:Int))) (ow E.length)=.bool true:=DU (by have:=List.idxOf_lt_length_of_mem hlead;rwa [bo] at this);refine dQ ?_;refine wnY and_self ?_;refine jL ev0 g7 ev0 rfl hmf ?_;rw[hgt];refine wnY and_self ?_;refine⟨(sv,k+1),by dsimp only;omega,⟨by dsimp only;omega,by omega,g3,g4,g5,g6,g7,?_,g9⟩,ag0⟩;dsimp only;rw[hks];exact g8
 rw[if_neg hlead] at hmf hks;refine wnY and_self ?_;refine jL ev0 g7 ev0 rfl hmf ?_;have hgf:Go.Abs.mget (.bool false) false none (ow E.length)=.bool false:=rfl;rw[hgf];refine wnY (aI @bQ @g5) ?_;refine lpI (X:=AV×Nat) (λx=>[(1,.ptr 0 2 0),(2,.ptr 1 2 0),(4,.ptr 2 2 0),(6,.ptr 3 2 0),(7,.mp 4),(10,.int .i64 k),(11,x.1),(40,.int .i64 c),(41,.int .i64 k),(50,br E),(51,.int .i64 E.length),(52,.int .i64 x.2)]) (λx H' nx'=>x.2<=E.length/\nx<=nx'/\(∀b,b<nx->H' b=H b)/\Row H' 1 x.1 ((pI (E.take x.2) k).map (AV.int .i64))/\∀b,bz x.1=some b->nx<=b/\b<nx') (λx=>E.length-x.2) (.msl nx 1 1 0 1,0) ⟨bC _,by omega,λb hb=>ac (by omega),?_,λb hb=>by cases hb;omega⟩ ?_
 ·exact Row.box nx 1 [.int .i64 k] ah rfl
 rintro⟨kv,j⟩ H' nx' ⟨h1,h2,h3,h4,h5⟩;dsimp only at h1 h2 h3 h4 h5 |-;by_cases hj:j<E.length
 ·have ix:=vI hj;have hrm:=ar (l:=E) hj;have hn:=hred.ne _ hrm;have ix0:=Ea hn;have hks:=Dq (E:=E) (q:=k) hj;have hul:=Ab (E:=E.take j) (q:=k);rw[fy] at hul;have hha:=Hh (E.getD j default) k (by have:=d5 (hred.asc _ hrm) (hEv _ hrm);omega) (hred.asc _ hrm);generalize E.getD j default=r at *;by_cases hin:(k:Int)∈r
  ·rw[if_pos hin] at hks;rw[aM hin] at hha;refine wnY (aI @ix @ix0) ?_;refine eR (h4.same λb hb=>?_) ?_
   ·have:=h5 b hb;rw[ac (by omega)]
   rintro s2 H2 nx2 hr2 i1 i2 i3 i4;refine wnY and_self ?_;refine⟨(s2,j+1),by dsimp only;omega,⟨by dsimp only;omega,by omega,λb hb=>?_,?_,λb hb=>?_⟩,ag0⟩
   ·exact(i3 b (by omega) λe=>by have:=h5 b e;omega).trans ((ac (by omega)).trans (h3 b hb))
   ·dsimp only;rw[hks,cA];exact hr2
   ·rcases i4 b hb with h|h
    ·have:=h5 b h;omega
    ·omega
  ·rw[if_neg hin,fR] at hks;rw[aQ hin] at hha;refine wnY (aI @ix @ix0) ?_;refine⟨(kv,j+1),by dsimp only;omega,⟨by dsimp only;omega,h2,h3,by dsimp only;rw[hks];exact h4,h5⟩,ag0⟩
 obtain rfl:j=E.length:=by omega
 rw[fP (aP _)] at h4;have hul:=Ab (E:=E) (q:=k);have hu0:0<(pI E k).length:=Nat.succ_pos _;obtain⟨B,rfl,hB⟩:=AM h4 hu0;have hBn:=h5 B rfl;refine wnY and_self ?_;refine bh ev0 ev0 (hso hB hBn.2 rfl hu0 (by omega)) ?_;rintro _ H2 nx2 ⟨L',hps,hperm,hsrt⟩;obtain rfl:=Dl hred hlead hperm hsrt;have hlen:=hperm.length_eq;have q0:∀b,b<nx->H2 b=H b:=λb hb=>(hps.fr b (by omega) (by omega)).trans (h3 b hb);have hle:=hps.le
 have hsn:Snap (only B ((vM E k).map (AV.int .i64))) (.msl B (pI E k).length 1 0 (pI E k).length) (aD (vM E k)):=by
  rw[<-hlen];have:=Row.box (sz:=1) B (vM E k).length ((vM E k).map (AV.int .i64)) gX (by rw[bo,Nat.mul_one]);rw[Nat.mul_one] at this;exact this.snapI
 clear hB hperm hsrt h4 hul hu0;generalize vM E k=v at *;refine kB (a_n ?_);refine qh _ _ [(1,.ptr 0 2 0),(2,.ptr 1 2 0),(4,.ptr 2 2 0),(6,.ptr 3 2 0),(7,.mp 4),(11,aD v),(40,.int .i64 c),(41,.int .i64 k)] (Fz.one hps.at_) ⟨.inl rfl,.inl rfl,.inl rfl,.inl rfl,.inl rfl,.inr hsn,.inl rfl,.inl rfl,trivial⟩ ?_;have q:∀b,b<nx->dp H2 B b=H b:=λb hb=>(cw (by omega)).trans (q0 b hb);clear hps q0 hsn;generalize dp H2 B=H4 at *;have q3:=(q 3 (by omega)).trans g6;have kll:=A6 (E:=E) (k:=k);refine wnY @q3 ?_;refine eR (g8.same λb hb=>?_) ?_
 ·have:=g9 b hb;rw[ac (by omega)];exact q b (by omega)
 rintro s2 H3 nx3 hr2 i1 i2 i3 i4;have hdo:∀b,b<=4->bz sv≠some b:=λb hb e=>by have:=g9 b e;omega
 have lo2:∀b,b<=4->H3 b=H b:=λb hb=>(i3 b (by omega) (hdo b hb)).trans ((ac (by omega)).trans (q b (by omega)))
 have hn2:∀b,bz s2=some b->4<b/\b<nx3:=λb hb=>by
  rcases i4 b hb with h|h
  ·have:=g9 b h;omega
  ·omega
 have k6:=(lo2 3 (by omega)).trans g6;obtain⟨o1,o2⟩:=hr2.one;refine wnY (zI3 @k6 @o1 @o2) ?_;refine⟨(s2,k+1),by dsimp only;omega,⟨by dsimp only;omega,by omega,(ac (by omega)).trans ((lo2 0 (by omega)).trans g3),(ac (by omega)).trans ((lo2 1 (by omega)).trans g4),(ac (by omega)).trans ((lo2 2 (by omega)).trans g5),by rw[ah];rfl,(ac (by omega)).trans ((lo2 4 (by omega)).trans g7),?_,hn2⟩,ag0⟩;dsimp only;rw[hks,cA];exact hr2.same λb hb=>by have:=hn2 b hb;rw[ac (by omega)]
theorem vh(c:List Spx)(d:Nat)(hc:aA c=0)(hl:c.length<=50)(hd:d<=7)(H:Hp)(nx:Nat):
    Abs.Fn Tryz.prog 81 [bR c,.int .i64 d] H nx λr H' nx'=>∃b,r=.tup [.ptr b 3 0,.int .i64 0]/\nx<=b/\b<nx'/\(∀x,x<nx->H' x=H x)/\H' b=some [.int .i64 (bdN c d),br (bdE c d),.int .i64 (bdE c d).length]:=by
 refine fO Oy ?_;simp only[b81,aH];have he:=nB c (d+1) hc hl (by omega);have hs:=sC c d hc hl (by omega);have h2:=cl hc hl (d:=(d:Int)+1+1);have h1:=cl hc hl (d:=(d:Int)+1);rw[show((d+1:Nat):Int)=(d:Int)+1 by omega] at he;have ht:=zP (am c ((d:Int)+1+1)).length (ca (am c ((d:Int)+1+1)) (am c ((d:Int)+1))) (jt (by omega) (by omega));rw[fq] at ht;have hel:(bdE c d).length<=bdN c d:=C5;have hec:pU 134 [dh (bdN c d) (bdM c d)] (.tup [dh (bdN c d) (bdE c d),.int .i64 0]):=oT _ _ (EV hc hl);have hq:((am c ((d:Int)+1)).length:Int)=bdN c d:=rfl;have hm:trL (am c ((d:Int)+1+1)).length (ca (am c ((d:Int)+1+1)) (am c ((d:Int)+1)))=bdM c d:=rfl;rw[hm] at ht;rw[hq] at hs ht;have z0:decide ((0:Int)≠0)=false:=rfl;have z2:aj c=aj c:=rfl;generalize ca (am c ((d:Int)+1+1)) (am c ((d:Int)+1))=R at *;generalize (am c ((d:Int)+1+1)).length=m at *;generalize bdM c d=M at *;generalize bdE c d=E at *;have hN:bdN c d<=3500:=h1;generalize bdN c d=n at *;have d1:Dat (.agg [.int .i64 m,br R]):=cV m R;have d2:Dat (.agg [.int .i64 n,br M]):=cV n M;rw[cu] at he ht hec;rw[cu] at ht hec;refine wnY (zI4 @z0 @ai @af @bQ) ?_;exact⟨nx+3,rfl,by omega,by omega,λx hx=>by(repeat rw[ac (by omega)]),ah⟩
theorem Hl(c:List Spx)(d:Nat)(H:Hp)(nx:Nat):Abs.Fn Tryz.prog 50 [bR c,.int .i64 d] H nx λr H' nx'=>r=.func 102 [.ptr nx 1 0,.ptr (nx+1) 1 0]/\H'=ay (ay H nx [aj c]) (nx+1) [.int .i64 d]/\nx'=nx+2:=by
 refine fO O3 ?_;simp only[b50,aH];refine wnY (aI @ai @af) ?_;exact⟨rfl,rfl,rfl⟩
theorem Hd{y cb db:Nat}(c:List Spx)(d:Nat)(hso:ro (bdN c d+1))(hc:aA c=0)(hl:c.length<=50)(hd:d<=7)(hn:bdN c d<=1000)(H:Hp)(nx:Nat)(I:List Nat->List (List Int)->Hp->Nat->Prop)
    (g1:H cb=some [aj c]) (g2:H db=some [.int .i64 d]) (hcb:cb<nx) (hdb:db<nx)
    (st:∀F F' D H nx H' nx',I F D H nx->nx<=nx'->(∀x,x<nx->x∉F->H' x=H x)->(∀x∈F',x∈F\/nx<=x/\x<nx')->I F' D H' nx')
    (rnd:∀F D v H nx,I F D H nx->v∈bsK c d->D.length<=1000->Yl Tryz.prog y [aD v,.int .i64 0] H nx λr H' nx'=>r=.bool true/\nx<=nx'/\(∀x∈F,H' x=H x)/\I F (D++[v]) H' nx')
    (h0:I [] [] H nx):
    Abs.Fn Tryz.prog 102 [.yld y,.ptr cb 1 0,.ptr db 1 0] H nx λ_ H' nx'=>∃F,I F (bsT (bdE c d) (bdN c d) (bsK c d) (bsK c d).length) H' nx':=by
 refine fO Nq ?_;simp only[Nc,aH];have hbd:=λH nx=>vh c d hc hl hd H nx;have he:=nB c d hc hl (by omega);have hk:=EU _ _ (EP (d:=d) hc hl) hso;rw[show uf (eD (ca (am c ((d:Int)+1)) (am c d)) (bdN c d)) (bdN c d)=bsK c d from rfl] at hk;rw[show(((am c ((d:Int)+1)).length:Nat):Int)=(bdN c d:Int) from rfl] at he;obtain⟨mE,rE,-⟩:=JH (d:=d) hc hl;obtain⟨mK,lK⟩:=Gm (d:=d) hc hl;have lE:(bdE c d).length<=bdN c d:=C5;have eE:=Ht rE (lz mE);have hd1:Dat (.agg [.int .i64 (bdN c d),br (ca (am c ((d:Int)+1)) (am c d))]):=cV _ _;rw[uM] at hbd he;rw[cu] at he;rw[cu,cu] at hk;generalize ca (am c ((d:Int)+1)) (am c d)=R at *;have dcx:Dat (.agg [aj c]):=cQ c;generalize bdE c d=E at *;generalize bdN c d=n at *;generalize bsK c d=K at *;have z0:decide ((0:Int)≠0)=false:=rfl;have z1:decide ((0:Int)=0)=true:=rfl;refine wnY (aI @g1 @g2) ?_;refine bh ev0 ev0 (hbd _ _) ?_;rintro _ H1 nx1 ⟨b,rfl,b1,b2,b3,b4⟩;have g1':=(b3 cb hcb).trans g1;have g2':=(b3 db hdb).trans g2;refine wnY (zI5 @g1' @g2' @z0 @z1 @bQ) ?_;refine lpI (X:=AV×Nat) (λx=>[(0,.yld y),(4,.ptr b 3 0),(39,br K),(40,.int .i64 K.length),(41,.int .i64 x.2)]) (λx H' nx'=>x.2<=K.length/\I (b::H9 (bz x.1)) (bsT E n K x.2) H' nx'/\H' b=some [.int .i64 n,x.1,.int .i64 (eD (E++bsT E n K x.2) n).length]/\jU H' x.1 (E++bsT E n K x.2)/\b<nx'/\∀z,bz x.1=some z->z<nx'/\z≠b) (λx=>K.length-x.2) (br E,0) ⟨bC _,?_,?_,?_,by omega,λz h=>?_⟩ ?_
 ·refine st [] _ [] _ nx _ _ h0 (by omega) (λx hx _=>?_) (λx hx=>?_)
  ·(repeat rw[ac (by omega)])
   exact b3 x hx
  ·rcases dt.1 hx with rfl|hx
   ·exact .inr ⟨by omega,by omega⟩
   ·cases hx
 ·(repeat rw[ac (by omega)])
  show H1 b=some [.int .i64 n,br E,.int .i64 (eD (E++[]) n).length];rw[fR,eE];exact b4
 ·refine .inl ?_;show br E=br (E++[]);rw[fR]
 ·exact by cases h
 clear h0 b3 b4 g1' g2' g1 g2;rintro⟨rv,k⟩ H' nx' ⟨h1,h2,h3,h4,h5,h6⟩;dsimp only at h1 h2 h3 h4 h5 h6 |-;by_cases hk2:k<K.length
 rotate_left
 ·obtain rfl:k=K.length:=by omega
  refine wnY and_self ?_;exact⟨_,h2⟩
 have ix:=vI hk2;have hTl:=CT (E:=E) (n:=n) (K:=K) (k:=k);have hTm:=yE (E:=E) (n:=n) (K:=K) h1;have hss:bsT E n K (k+1)=if (eD ((E++bsT E n K k)++[K.getD k default]) n).length=(eD (E++bsT E n K k) n).length then bsT E n K k else bsT E n K k++[K.getD k default]:=rfl
 have hvm:K.getD k default∈K:=ar hk2;generalize K.getD k default=v at *;have mS:fZ n ((E++bsT E n K k)++[v]):=An (An mE (Au mK (by omega) hTm) (by omega)) (Au mK (by simp) λr hr=>by rw[dg] at hr;rw[hr];exact hvm) (by rw[da];simp only[bS,fJ];omega);have hadd:=Mq n (E++bsT E n K k) (eD (E++bsT E n K k) n).length v rv b H' nx' mS h3 h5 h4 λx hx=>(h6 x hx).1;generalize hT:bsT E n K k=D at *;refine wnY @ix ?_;refine bh ev0 ev0 hadd ?_;rintro _ H2 nx2 ⟨q1,q2,q3⟩;rcases q3 with⟨e1,rfl,e3⟩|⟨e1,rfl,wv,e3,e4,e5⟩
 ·rw[if_pos e1] at hss;refine wnY @z0 ?_;refine⟨(rv,k+1),by dsimp only;omega,⟨by dsimp only;omega,?_,?_,?_,by omega,λz hz=>by have:=h6 z hz;omega⟩,ag0⟩
  ·dsimp only;rw[hss];exact st _ _ _ _ _ _ _ h2 q1 (λx hx hF=>q2 x hx λe=>hF (by rw[e];exact de ..)) λx hx=>.inl hx
  ·dsimp only;rw[hss,e3];exact h3
  ·dsimp only;rw[hss];exact h4.same λz hz=>q2 z (h6 z hz).1 (h6 z hz).2
 rw[if_neg e1] at hss
 have hI2:I (b::H9 (bz wv)) D H2 nx2:=st _ _ _ _ _ _ _ h2 q1 (λx hx hF=>q2 x hx λe=>hF (by rw[e];exact de ..)) λx hx=>by
  rcases dt.1 hx with rfl|hx
  ·exact .inl (de ..)
  ·exact .inr (e5 x (Ap.1 hx))
 refine wnY @z0 ?_;refine yv ev0 ev0 (Yl.mono (rnd _ D v _ _ hI2 hvm (by omega)) ?_);rintro _ H3 nx3 ⟨rfl,r1,r2,r3⟩;refine wnY @z0 ?_;refine⟨(wv,k+1),by dsimp only;omega,⟨by dsimp only;omega,?_,?_,?_,by omega,λz hz=>?_⟩,ag0⟩
 ·dsimp only;rw[hss];exact r3
 ·dsimp only;rw[hss,r2 b (de ..),e3,kq]
 ·dsimp only;rw[hss,<-kq];exact e4.same λz hz=>r2 z (dU _ (Ap.2 hz))
 ·have:=e5 z hz;omega
theorem Ds(c:List Spx)(d:Nat)(hso:ro (bdN c d+1))(hc:aA c=0)(hl:c.length<=50)(hd:d<=7)(hn:bdN c d<=1000):pU 18 [bR c,.int .i64 d] (.tup [fS (cyT c d),.int .i64 0]):=by
 refine pO Px ?_;simp only[b18,aH];have hch:=oV c hc hl;obtain⟨mK,lK⟩:=Gm (d:=d) hc hl
 have hchn:∀v∈bsK c d,pU 34 [bR c,.int .i64 d,aD v] (.tup [aj (cf (am c ((d:Int)+1)) v),.int .i64 0]):=λv hv=>by
  have:=yh c d v hl (l7 hc) (by have:=(mK.2.2.2 v hv).2.1;omega);have hz:qI (am c ((d:Int)+1)).length v=0:=x8 (eu mK v hv) (lz mK v hv)
  have e:vn c d v=(cf (am c ((d:Int)+1)) v,0):=by
   unfold vn;rw[if_neg (λq=>q hc),if_neg (by omega),if_neg (λq=>q hz)]
  rw[e] at this;exact this
 unfold cyT;generalize am c ((d:Int)+1)=X at *;have z0:decide ((0:Int)≠0)=false:=rfl;have z1:decide ((d:Int)<0)=false:=aQ (by omega);have z2:decide ((8:Int)<=d)=false:=aQ (by omega);refine wnY (zI5 @z0 @z1 @z2 @ai @af) ?_;refine bh ev0 ev0 (Hl c d _ _) ?_;rintro _ H1 nx1 ⟨rfl,rfl,rfl⟩;refine wnY and_self ?_;refine nQ 7 8 rfl rfl ev0 (λc0 cj hy=>?_);refine Abs.Fn.mono (Hd (nx:=8) (cb:=5) (db:=6) c d hso hc hl hd hn _ (I:=λF D H' nx'=>8<=nx'/\H' 0=some [aj c]/\H' 1=some [.int .i64 d]/\H' 2=some [.esl]/\H' 3=some [.int .i64 0]/\H' 7=some [c0]/\(∀x∈F,8<=x/\x<nx')/\∃sv,H' 4=some [sv]/\Row H' 1 sv ((D.map (cf X)).map aj)/\∀b',bz sv=some b'->8<=b'/\b'<nx'/\b'∉F) ?_ ?_ (by omega) (by omega) ?_ ?_ ?_) ?_
 ·rfl
 ·rfl
 ·rintro F F' D H nx H' nx' ⟨h1,h2,h3,h4,h5,h6,h7,sv,h8,h9,h10⟩ hle hs hF;have lo:∀x,x<8->H' x=H x:=λx hx=>hs x (by omega) λe=>by have:=h7 x e;omega
  refine⟨by omega,(lo 0 (by omega)).trans h2,(lo 1 (by omega)).trans h3,(lo 2 (by omega)).trans h4,(lo 3 (by omega)).trans h5,(lo 7 (by omega)).trans h6,λx hx=>?_,sv,(lo 4 (by omega)).trans h8,h9.same λb hb=>?_,λb hb=>?_⟩
  ·rcases hF x hx with h|h
   ·have:=h7 x h;omega
   ·omega
  ·obtain⟨p1,p2,p3⟩:=h10 b hb;exact hs b p2 p3
  ·obtain⟨p1,p2,p3⟩:=h10 b hb;refine⟨p1,by omega,λe=>?_⟩;rcases hF b e with h|h
   ·exact p3 h
   ·omega
 ·rintro F D v H' nx' ⟨h1,h2,h3,h4,h5,h6,h7,sv,h8,h9,h10⟩ hv hDl;refine hy _ _ _ _ h6 rfl ?_;clear hy;refine wnZ and_self ?_;refine⟨h6,?_⟩;have hdo:∀x,x≠7->dp H' 7 x=H' x:=λx b=>cw b;have hcv:=hchn v hv;rw[uM] at hcv;have dcx:Dat (.agg [aj c]):=cQ c;generalize hH1:dp H' 7=H1 at *;have g2:=(hdo 0 (by omega)).trans h2;have g3:=(hdo 1 (by omega)).trans h3;have g4:=(hdo 4 (by omega)).trans h8;generalize hpv:cf X v=pv at *;refine wnY (zI6 @g2 @g3 @g4 @z0 @ai @af) ?_;refine hZ rfl ev0 (h9.same λb' hb'=>?_) ev0 ed rfl rfl ke (by rw[bo,bo];omega) (by rw[bo,bo];omega) ?_
  ·have:=h10 b' hb';rw[ac (by omega)];exact hdo _ (by omega)
  rintro sv' H3 nx3 r1 r2 r3 r4 r5;have zs:∀x,x<8->bz sv≠some x:=λx hx e=>by have:=h10 x e;omega
  have z:∀x,x<nx'->x≠7->bz sv≠some x->H3 x=H' x:=λx a1 a2 a3=>(r4 x (by omega) a3).trans (by rw[ac (by omega)];exact hdo x a2);have k4:H3 4=some [sv]:=(z 4 (by omega) (by omega) (zs _ (by omega))).trans h8;obtain⟨q1,q2⟩:=r1.one;refine wnY (zI3 @k4 @q1 @q2) ?_;have w:∀x,x≠4->x≠7->ay (ay H3 4 [sv']) 7 [c0] x=H3 x:=λx a1 a2=>by rw[ac a2,ac a1]
  have u8:∀b',bz sv'=some b'->8<=b'/\b'<nx3/\b'∉F:=λb' hb'=>by
   rcases r5 b' hb' with e|⟨e1,e2⟩
   ·obtain⟨p1,p2,p3⟩:=h10 b' e;exact⟨p1,by omega,p3⟩
   ·exact⟨by omega,by omega,λe=>by have:=h7 b' e;omega⟩
  refine⟨rfl,by omega,λx hx=>?_,by omega,(w 0 (by omega) (by omega)).trans ((z 0 (by omega) (by omega) (zs _ (by omega))).trans h2),(w 1 (by omega) (by omega)).trans ((z 1 (by omega) (by omega) (zs _ (by omega))).trans h3),(w 2 (by omega) (by omega)).trans ((z 2 (by omega) (by omega) (zs _ (by omega))).trans h4),(w 3 (by omega) (by omega)).trans ((z 3 (by omega) (by omega) (zs _ (by omega))).trans h5),ah,λx hx=>?_,sv',?_,?_,u8⟩
  ·have:=h7 x hx;refine(w x (by omega) (by omega)).trans ?_;exact z x (by omega) (by omega) λe=>(h10 x e).2.2 hx
  ·have:=h7 x hx;omega
  ·exact(ac (by omega)).trans ah
  ·rw[cA,cA,show [v].map (cf X)=[pv] by rw[<-hpv];rfl];exact r1.same λb' hb'=>w b' (by have:=u8 b' hb';omega) (by have:=u8 b' hb';omega)
 ·refine⟨aP _,rfl,rfl,rfl,rfl,ah,λx hx=>(by cases hx),.esl,rfl,.nil,λb' hb'=>(by cases hb')⟩
 ·rintro r H' nx' ⟨F,h1,h2,h3,h4,h5,h6,h7,sv,h8,h9,h10⟩;refine .inl ⟨h6,?_⟩;obtain⟨q1,q2⟩:=h9.one;have lo:∀x,x≠7->dp H' 7 x=H' x:=λx b=>cw b;have k1:Row (dp H' 7) 1 sv (((bsT (bdE c d) (bdN c d) (bsK c d) (bsK c d).length).map (cf X)).map aj):=h9.same λb' hb'=>lo b' (by have:=h10 b' hb';omega);have k2:=(lo 2 (by omega)).trans h4;have k3:=(lo 3 (by omega)).trans h5;have k4:=(lo 4 (by omega)).trans h8;generalize dp H' 7=H1 at *;refine wnY (zI5 @k2 @k3 @k4 @q1 @q2) ?_;refine bt (ag (FU (k1.same λb' hb'=>?_)) (ag (.int _ _) ak));have:=h10 b' hb';rw[ac (by omega),ac (by omega)]
theorem Ff(c:List Spx)(m:Nat)(hc:aA c=0)(hl:c.length<=50)(hm:ug c=m)(hm8:m<=8)(G:Hp)(n0:Nat):Abs.Fn Tryz.prog 44 [bR c] G n0 λr H' nx'=>∃sv,r=.tup [sv,.int .i64 0]/\Row H' 1 sv ((btL c m).map (AV.int .i64))/\n0<=nx'/\(∀x,x<n0->H' x=G x)/\∀b,bz sv=some b->n0<=b/\b<nx':=by
 refine fO LJ ?_;simp only[b44,aH];have hdi:=pD c hc hl;rw[hm] at hdi;have z0:decide ((0:Int)≠0)=false:=rfl;have hed:=λd(h:d<=8)=>nB c d hc hl h;have hsz:=λd(h:d<=8)=>sC c d hc hl h;have hrl:=λd:Int=>cl hc hl (d:=d);have hrk:=λd:Nat=>BX (am c ((d:Int)+1)).length (ca (am c ((d:Int)+1)) (am c d)) (jt (by have:=hrl ((d:Int)+1);omega) (by have:=hrl d;omega));have hrf:=λd:Nat=>yt (c:=c) (d:=d);refine wnY (zI3 @z0 @ai @af) ?_;refine v5 ?_;refine wnY and_self ?_;refine lpI (X:=Nat) (λk=>[(1,.ptr n0 1 0),(4,.int .i64 ((m:Int)-1)),(7,.mp (n0+1)),(26,.int .i64 ((m:Int)-1+2)),(27,.int .i64 k)]) (λk H nx=>k<=m+1/\n0+2<=nx/\H n0=some [aj c]/\H (n0+1)=some [.omap ((rkK k).map (AV.int .i64)) (rkV c k)]/\∀x,x<n0->H x=G x) (λk=>m+1-k) 0 ⟨bC _,aP _,(ac (by omega)).trans ah,ah,λx hx=>by rw[ac (by omega),ac (by omega)]⟩ ?_;rintro k H nx ⟨g1,g2,g3,g4,gl⟩;by_cases hk:k<m+1
 ·have hed1:=hed k (by omega);have hrk1:=hrk k;have hr1:=hrl ((k:Int)+1);have hd1:Dat (dh (am c ((k:Int)+1)).length (ca (am c ((k:Int)+1)) (am c k))):=cV _ _;change pU 97 _ (.tup [.int .i64 (rkF c k),.int .i64 0]) at hrk1;rw[cu] at hed1 hrk1 hd1;generalize ca (am c ((k:Int)+1)) (am c k)=R at *;generalize (am c ((k:Int)+1)).length=n at *;have z1:decide ((k:Int)<(m:Int)-1+2)=true:=aM (by omega);refine wnY (zI5 @g3 @z0 @z1 @ai @af) ?_;have hmf:=jb (k:Int) (rkK k);rw[if_neg (λq=>by have:=lH.1 q;omega)] at hmf;refine qn ev0 ((ac (by omega)).trans ((ac (by omega)).trans g4)) ev0 ev0 rfl hmf ?_;refine wnY @z0 ?_;refine⟨k+1,by omega,⟨by omega,by omega,by rw[ac (by omega),ac (by omega),ac (by omega)];exact g3,?_,λx hx=>by rw[ac (by omega),ac (by omega),ac (by omega)];exact gl x hx⟩,ag0⟩;rw[ah,yT,AJ,cA];rfl
 obtain rfl:k=m+1:=by omega
 have z1:decide (((m+1:Nat):Int)<(m:Int)-1+2)=false:=aQ (by omega);refine wnY @z1 ?_;refine lpI (X:=AV×Nat) (λx=>[(1,.ptr n0 1 0),(7,.mp (n0+1)),(11,x.1),(51,.int .i64 ((m:Int)-1+1)),(52,.int .i64 x.2)]) (λx H nx=>x.2<=m/\n0+2<=nx/\H n0=some [aj c]/\H (n0+1)=some [.omap ((rkK (m+1)).map (AV.int .i64)) (rkV c (m+1))]/\Row H 1 x.1 ((btL c x.2).map (AV.int .i64))/\(∀b,bz x.1=some b->n0+2<=b/\b<nx)/\∀x,x<n0->H x=G x) (λx=>m-x.2) (.esl,0) ⟨bC _,g2,g3,g4,Row.nil,λb h=>(by cases h),gl⟩ ?_;clear g1 g2 g3 g4 gl;rintro⟨sv,k⟩ H nx ⟨g1,g2,g3,g4,g5,g6,gl⟩;dsimp only at g1 g2 g3 g4 g5 g6 gl |-;by_cases hk:k<m
 rotate_left
 ·obtain rfl:k=m:=by omega
  have z1:decide ((k:Int)<(k:Int)-1+1)=false:=aQ (by omega);refine wnY @z1 ?_;exact⟨sv,rfl,g5,by omega,gl,λb hb=>by have:=g6 b hb;omega⟩
 have hsz1:=hsz k (by omega);have hr1:=hrl ((k:Int)+1);have hr2:=hrl (((k+1:Nat):Int)+1);have hf1:=hrf k;have hf2:=hrf (k+1);have hmf1:=jb (k:Int) (rkK (m+1));rw[if_pos (lH.2 (by omega)),sA (by omega)] at hmf1;have hmf2:=jb ((k+1:Nat):Int) (rkK (m+1));rw[if_pos (lH.2 (by omega)),sA (by omega)] at hmf2;rw[show((k+1:Nat):Int)=(k:Int)+1 by omega] at hmf2;have hv1:Go.Abs.mget (.int .i64 0) false (some k) (rkV c (m+1))=.int .i64 (rkF c k):=sq (by omega);have hv2:Go.Abs.mget (.int .i64 0) false (some (k+1)) (rkV c (m+1))=.int .i64 (rkF c (k+1)):=sq (by omega);have hsn:=AU (c:=c) (n:=k);have hbl:(btL c k).length=k:=by unfold btL;simp
 have hbf:btF c k=((am c ((k:Int)+1)).length:Int)-(rkF c k:Int)-(rkF c (k+1):Int):=rfl;rw[hbf] at hsn;generalize rkF c k=f1 at *;generalize rkF c (k+1)=f2 at *;generalize (am c ((k:Int)+1)).length=n at *;generalize (am c (((k+1:Nat):Int)+1)).length=n2 at *;have z1:decide ((k:Int)<(m:Int)-1+1)=true:=aM (by omega);refine wnY (zI5 @g3 @z0 @z1 @ai @af) ?_;refine jL ev0 g4 ev0 rfl hmf1 ?_;rw[hv1];refine wnY and_self ?_;refine jL ev0 g4 ev0 rfl hmf2 ?_;rw[hv2];refine wnY and_self ?_;refine eR (g5.same λb hb=>?_) ?_
 ·have:=g6 b hb;rw[ac (by omega)]
 rintro s2 H2 nx2 hr3 i1 i2 i3 i4;have hdo:∀b,b<n0+2->bz sv≠some b:=λb hb e=>by have:=g6 b e;omega
 have lo2:∀b,b<n0+2->H2 b=H b:=λb hb=>(i3 b (by omega) (hdo b hb)).trans (by rw[ac (by omega)]);refine wnY and_self ?_;refine⟨(s2,k+1),by dsimp only;omega,⟨by dsimp only;omega,by omega,(lo2 n0 (by omega)).trans g3,(lo2 (n0+1) (by omega)).trans g4,?_,λb hb=>?_,λx hx=>(lo2 x (by omega)).trans (gl x hx)⟩,ag0⟩
 ·dsimp only;rw[hsn,cA];exact hr3
 ·rcases i4 b hb with h|h
  ·have:=g6 b h;omega
  ·omega
theorem Ky(n:Int):pU 49 [.int .i64 n] (.bool (decide (n≠0))):=by
 refine pO Pn ?_;simp only[b49,aH]
 repeat' (first|refine zW ?_|apply a_n|refine zO ?_|refine vZ ?_|refine b6 rfl ?_|refine r1Z ?_|fail)
 exact .bool _
theorem pJ(c:List Spx)(m:Nat)(k:Int)(hc:aA c=0)(hl:c.length<=50)(hm:ug c=m)(hm8:m<=8)(hk:-1<=k/\k<8):pU 15 [bR c,.int .i64 k] (.tup [.bool (IX (btL c m) k),.int .i64 0]):=by
 refine pO OW ?_;simp only[b15,aH];have hch:=oV c hc hl;have hbt:=λG n0=>Ff c m hc hl hm hm8 G n0;have hlen:=Iz (c:=c) (m:=m);have hbd:=JW (m:=m) hc hl;have z0:decide ((0:Int)≠0)=false:=rfl;have z1:decide (k<(-1:Int))=false:=aQ (by omega);have z2:decide ((8:Int)<=k)=false:=aQ (by omega);generalize btL c m=l at *;have zz:=aI @z0 (aI @z1 (aI @z2 (aI @ai @af)));repeat' (first|refine zW ?_|apply a_n|refine zO ?_|refine vY ?_|refine cY ?_ (hp:=hch) (hs:=by(first|refine aG ?_ rfl|apply aW);(repeat' (first|exact ak|apply bv|apply aX|exact cQ _));first|done|fail)|refine bxY ?_|refine gTY ?_|refine cFY ?_|fail)
 rw[uM] at hbt;refine bh ev0 ev0 (hbt _ _) ?_;rintro _ H1 nx1 ⟨sv,rfl,hrow,h1,h2,h3⟩;have hls:=hrow.lenS (n:=l.length) (by rw[bo,Nat.mul_one]) ke;cases l with
 |nil=>
  have zn:decide ((0:Int)=0)=true:=rfl;have hls0:dz sv=some (.int .i64 0):=hls;clear zz;have zz:=aI @z0 (aI @hls0 @zn);repeat' (first|refine zW ?_|apply a_n|apply a_r|refine zO ?_|refine vY ?_|refine gTY ?_|(refine zGY ?_ ?_<;>(intro _hg;try (exfalso;omega)))|refine b6 rfl ?_|refine r2Y ?_|fail)
  exact bt (ag (.bool _) (ag (.int _ _) ak))
 |cons x r=>
  have zn:decide ((((r.length+1:Nat):Nat):Int)=0)=false:=aQ (by omega);obtain⟨B,rfl,hB⟩:=AM hrow (by simp);have hx:=hbd x (de ..);have hB1:H1 B=some (.int .i64 x::r.map (AV.int .i64)):=hB;have hN:(x::r).length=r.length+1:=rfl;rw[hN] at hls h3 |-;clear zz;have zz:=aI @z0 (aI @hls @zn);repeat' (first|refine zW ?_|apply a_n|refine zO ?_|refine vY ?_|refine gTY ?_|refine cFY ?_|fail)
  have hlc:(AV.int .i64 x::r.map (AV.int .i64)).length=r.length+1:=by simp
  clear zz;have zz:=aI @hB1 (aI @hlc (aI @Int.toNat_zero @yJ));repeat' (first|refine zW ?_|apply a_n|refine zO ?_|refine vY ?_|refine stY ?_|fail)
  have hcj:IX (x::r) k=!((((x-1)::r).take (min (k+1) ((r.length+1:Nat):Int)).toNat).any λn=>decide (n≠0)):=rfl;obtain⟨j,hj,hjl⟩:∃j:Nat,min (k+1) ((r.length+1:Nat):Int)=j/\j<=r.length+1:=⟨(min (k+1) ((r.length+1:Nat):Int)).toNat,by omega,by omega⟩
  rw[hj,cE] at hcj;rw[hcj,hj]
  have hsl:kI 1 (.msl B (r.length+1) 1 0 (r.length+1)) none (some (.int .i64 j)) none=some (.msl B (r.length+1) 1 0 j):=by
   simp[kI,bP];omega
  clear zz;have zz:=@hsl;repeat' (first|apply a_n|refine zO ?_|refine vY ?_|fail)
  refine ez ev0 ev0 (qc (((x-1)::r).take j) (λn=>decide (n≠0)) 49 [] (λx h=>(by cases h)) (λx _=>Ky x) (show _<=_ by rw[fy];simp;omega)) (aG (ag (F8 (l:=(x-1)::r) (n:=r.length+1) ah rfl hjl) (ag (wB ak) ak)) rfl) ?_
  repeat' (first|apply a_n|refine zO ?_|refine vY ?_|refine b6 rfl ?_|refine r2Y ?_|fail)
  exact bt (ag (.bool _) (ag (.int _ _) ak))
theorem rR(c:List Spx)(hl:c.length<=50)(hs:∀s∈c,Shn s):pU 45 [bR c] (.int .i64 (aA c)):=by
 refine pO Ov ?_;simp only[b45,aH];have hcc:=x5 c (show _<=_ by omega) hs;by_cases hc:aA c=0
 rotate_left
 ·have z0:decide (aA c≠0)=true:=aM hc;refine wnY (zI3 @ai @af @z0) ?_;exact .int _ _
 have hsm:=λk=>p9 c k hl hs;unfold dy at hsm;rw[hc] at hcc |-;have z0:decide ((0:Int)≠0)=false:=rfl;refine wnY (zI3 @ai @af @z0) ?_;refine lpI (X:=Nat) (λk=>[(1,.ptr 0 1 0),(4,.int .i64 ((k:Int)+1))]) (λk H nx=>k<=8/\H 0=some [aj c]) (λk=>8-k) 0 ⟨bC _,rfl⟩ ?_;rintro k H nx ⟨h1,h2⟩;by_cases hk:k<8
 ·have hk1:=hsm ((k:Int)+1);rw[if_neg (λq=>q hc),if_neg (by omega)] at hk1;generalize gj c ((k:Int)+1).toNat=X at *;have z1:decide ((k:Int)+1<=8)=true:=aM (by omega);refine wnY (zI5 @h2 @ai @af @z0 @z1) ?_;exact⟨k+1,by omega,⟨by omega,h2⟩,ag0⟩
 ·obtain rfl:k=8:=by omega
  have z1:decide (((8:Nat):Int)+1<=8)=false:=rfl;refine wnY @z1 ?_;exact .int _ _
theorem EZ(c:List Spx)(d:Nat)(hc:aA c=0)(hl:c.length<=50)(hd:d<=20):pU 53 [bR c,.int .i64 d] (dh (am c ((d:Int)+1)).length (ca (am c ((d:Int)+1)) (am c d))):=by
 refine pO Pr ?_;simp only[b53,aH];obtain⟨p1,p2,p3,p4⟩:=di hc;have h8:∀s∈c,s.length<=8:=λs h=>(bX (p2 s h)).2.1;have hX:=qZ c (d+1) hl h8 (by omega);rw[show((d+1:Nat):Int)=(d:Int)+1 by omega,<-nT] at hX;have hXl:=ir (d:=(d:Int)+1) hl hc;have hYl:=ir (d:=(d:Int)) hl hc;have hXs:=dG (d:=(d:Int)+1) hc;have hYs:=dG (d:=(d:Int)) hc;rw[cu];by_cases hd0:d=0
 ·have eY:am c (d:Int)=[]:=by unfold am;rw[if_pos (by omega)]
  have z3:decide ((d:Int)=0)=true:=aM (by omega);rw[eY];generalize am c ((d:Int)+1)=X at *;refine wnY (zI4 @ai @af @ae @z3) ?_;exact ja (ag (.int _ _) (ag (.eslsl 1) ak))
 have z3:decide ((d:Int)=0)=false:=aQ (by omega);have hY:=qZ c d hl h8 (by omega);have eY:=zF (c:=c) (k:=d);rw[if_neg hd0] at eY;rw[<-eY] at hY
 have hb:=DZ (am c ((d:Int)+1)) (am c d) (by omega) (by omega) (jK hXs) (jK hYs) λi k hi hk=>by
  have m1:=ar hk;have m2:=ar hi;exact zv (fw hXs _ m1) (fw hYs _ m2) (n:=d) (by rw[(ig.1 m1).2.1];omega) (by rw[(ig.1 m2).2.1];omega) (by omega)
 rw[cu] at hb;generalize ca (am c ((d:Int)+1)) (am c d)=M at *;generalize am c ((d:Int)+1)=X at *;generalize am c (d:Int)=Y at *;have dM:Dat (.agg [.int .i64 X.length,br M]):=Dat.agg (DatL.cons .int (DatL.cons (kR _) DatL.nil));refine wnY (zI4 @ai @af @ae @z3) ?_;exact dM _
theorem GY(X:List Spx)(v:List Int)(hX:X.length<=100000)(hv:v.length<=100000)(hr:∀z∈v,0<=z/\z<(X.length:Int)):pU 55 [aj X,aD v] (aj (cf X v)):=by
 refine pO OM ?_;simp only[b55,aH];refine wnY @cr ?_;refine lpI (X:=AV×Nat) (λx=>[(0,aj X),(1,aD v),(5,x.1),(6,.int .i64 x.2)]) (λx H nx=>x.2<=v.length/\Row H 1 x.1 ((cf X (v.take x.2)).map aB)/\∀b,bz x.1=some b->b<nx) (λx=>v.length-x.2) (.esl,0) ⟨bC _,Row.nil,λb hb=>(by cases hb)⟩ ?_;rintro⟨sv,k⟩ H nx ⟨h1,h4,h5⟩;dsimp only at h1 h4 h5 |-;by_cases hk:k<v.length
 rotate_left
 ·rw[fP (by omega)] at h4;refine wnY @cr ?_;exact gc h4
 have ix:=ixV hk;have hz:=hr _ (ar hk);have hsn:=sL (X:=X) hk;have hpl:(cf X (v.take k)).length=k:=by unfold cf;rw[bo,fy];omega
 obtain⟨z,hzz⟩:=Int.eq_ofNat_of_zero_le hz.1;rw[hzz] at ix hz hsn;have iy:=dC (l:=X) (k:=z) (by omega);rw[cE] at hsn;generalize X.getD z default=s at *;refine wnY (zI5 @ix @iy @cr @aY @aJ) ?_;refine eR (h4.same λb hb=>?_) ?_
 ·have:=h5 b hb;rw[ac (by omega)]
 rintro s2 H2 nx2 hr3 i1 i2 i3 i4;refine wnY and_self ?_;refine⟨(s2,k+1),by dsimp only;omega,⟨by dsimp only;omega,?_,λb hb=>?_⟩,ag0⟩
 ·dsimp only;rw[hsn,cA];exact hr3
 ·rcases i4 b hb with h|h
  ·have:=h5 b h;omega
  ·omega
theorem Fe(c:List Spx)(hc:aA c≠0)(hl:c.length<=50)(hs:∀s∈c,Shn s):pU 37 [bR c] (.tup [.int .i64 0,.int .i64 (aA c)]):=by
 refine pO L4 ?_;simp only[b37,aH];have hcc:=jY c (show _<=_ by omega) hs;generalize aA c=e at *;have z0:decide (e≠(0:Int))=true:=aM hc;refine wnY (zI3 @z0 @ai @af) ?_;exact bt (ag (.int _ _) (ag (.int _ _) ak))
theorem tY(c:List Spx)(hl:c.length<=50)(hs:∀s∈c,Shn s):pU 43 [bR c] (.int .i64 (aA c)):=by
 by_cases hc:aA c=0
 ·rw[hc];exact oV c hc hl
 refine pO JU ?_;simp only[b43,aH];have he:=Fe c hc hl hs;refine wnY (aI @ai @af) ?_;exact .int _ _
def er(c a b:List Spx):List Int×List Int×Int:=if (dF c a).2≠0 then([],[],(dF c a).2) else((dF c a).1,(dF c b).1,(dF c b).2)
theorem Cl(c a b:List Spx)(hl:c.length<=50)(hs:∀s∈c,Shn s)(ha:ShC a)(hb:ShC b):pU 67 [bR c,aj a,aj b] (.tup [aD (er c a b).1,aD (er c a b).2.1,.int .i64 (er c a b).2.2]):=by
 refine pO Pu ?_;simp only[b67,aH];have hch:=tY c hl hs;have h1:=Bl c a hl hs ha;have h2:=Bl c b hl hs hb;have hce:aA c≠0->dF c a=([],aA c):=λh=>by unfold dF;rw[if_pos h]
 unfold er;generalize dF c a=va at *;generalize dF c b=vb at *;obtain⟨v,e⟩:=va;obtain⟨w,f⟩:=vb;dsimp only at *;by_cases hc:aA c=0
 ·have z0:decide (aA c≠(0:Int))=false:=aQ (λq=>q hc);by_cases he:e=0
  ·subst he;have z1:decide ((0:Int)≠0)=false:=rfl;rw[if_neg (λq=>q rfl)];refine wnY (zI4 @z0 @z1 @ai @af) ?_;exact bt (ag (cJ v).snap (ag (cJ w).snap (ag (.int _ _) ak)))
  ·have z1:decide (e≠(0:Int))=true:=aM he;rw[if_pos he];refine wnY (zI4 @z0 @z1 @ai @af) ?_;exact bt (ag (.eslsl 1) (ag (.eslsl 1) (ag (.int _ _) ak)))
 ·have z0:decide (aA c≠(0:Int))=true:=aM hc;cases hce hc;rw[if_pos hc];refine wnY (zI3 @z0 @ai @af) ?_;exact bt (ag (.eslsl 1) (ag (.eslsl 1) (ag (.int _ _) ak)))
def cyH(c a:List Spx):List Int×Int:=if (dF c a).2≠0 then([],(dF c a).2) else if bI a=[] then((dF c a).1,0) else([],3)
theorem Fk(c a:List Spx)(hl:c.length<=50)(hs:∀s∈c,Shn s)(ha:ShC a):pU 57 [bR c,aj a] (.tup [aD (cyH c a).1,.int .i64 (cyH c a).2]):=by
 refine pO Pm ?_;simp only[b57,aH];have h1:=Bl c a hl hs ha;have h2:=Lj a ha;have hvf:=λv=>cR (c:=c) (a:=a) (v:=v);unfold cyH;unfold IV at h2;generalize dF c a=va at *;obtain⟨v,e⟩:=va;dsimp only at *;by_cases he:e=0
 ·subst he;obtain⟨e1,e2,-⟩:=hvf v rfl;rw[if_neg (λq=>q e2)] at h2;dsimp only at h2;have z1:decide ((0:Int)≠0)=false:=rfl;have z2:decide ((0:Int)=0)=true:=rfl;rw[if_neg (λq=>q rfl)];by_cases hz:bI a=[]
  ·rw[aM hz] at h2;rw[if_pos hz];refine wnY (zI4 @z1 @z2 @ai @af) ?_;exact gu (cJ _).snap rfl
  ·rw[aQ hz] at h2;rw[if_neg hz];refine wnY (zI4 @z1 @z2 @ai @af) ?_;exact gu (.eslsl 1) rfl
 ·have z1:decide (e≠(0:Int))=true:=aM he;rw[if_pos he];refine wnY (zI3 @z1 @ai @af) ?_;exact gu (.eslsl 1) rfl
end
def oo(c a b:List Spx):Int:=if (er c a b).2.2≠0 then(er c a b).2.2 else if a≠[]/\b≠[]/\a9 b≠a9 a+1 then 15 else if (gx b).2≠0 then(gx b).2 else if (gx b).1=a then 0 else 18
theorem iI{c a b:List Spx}(h:(er c a b).2.2=0):∃v w,dF c a=(v,0)/\dF c b=(w,0)/\er c a b=(v,w,0):=by
 unfold er at h |-;generalize dF c a=va at *;generalize dF c b=vb at *;obtain⟨v,e⟩:=va;obtain⟨w,f⟩:=vb;dsimp only at *;by_cases he:e=0
 ·subst he;rw[if_neg (λq=>q rfl)] at h |-;dsimp only at h;subst h;exact⟨v,w,rfl,rfl,rfl⟩
 ·rw[if_pos he] at h;exact absurd h he
theorem Iw{b:List Spx}(h:fL b=0)(hl:¬4096<(bI b).length):ShC (bI b):=by
 refine⟨show _<=_ by omega,λs hs=>?_⟩;have:=(bX (nH (dP h).2.1 s hs)).2.1;show _<=_;omega
theorem lf{R:List (List Int)}{c:Nat}{w:List Int}(hm:fZ c R)(hw:bj w):
    (∃x,kp R c w=(x,[],true)/\x=mw (ll R c) w/\bj x/\(∀z∈x,0<=z/\z<(c:Int))/\(∀y∈(stE R R.length).2,gZ w y=false)/\∀i,i<R.length->bK (λz=>bit z x) (R.getD i default)%2=bit (i:Int) w)\/
    ∃y,kp R c w=([],y,false)/\y∈(stE R R.length).2/\bj y/\(∀z∈y,0<=z/\z<(R.length:Int))/\gZ w y=true:=by
 have hR:=eu hm;have hv:=lz hm;have hok:=fY hR (aP R.length);have hdep:∀y∈(stE R R.length).2,bj y/\∀z∈y,0<=z/\z<(R.length:Int):=λy hy=>⟨(hok.dep y hy).1.2,(hok.dep y hy).2.2⟩
 unfold kp;cases hs:IW (stE R R.length).2 w with
 |none=>
  left
  have h0:∀y∈(stE R R.length).2,gZ w y=false:=λy hy=>by
   have:=List.find?_eq_none.1 hs y hy;rw[mF (hdep y hy).1 hw] at this;simpa using this
  refine⟨_,rfl,rfl,FO hok.red,ze hok.red,h0,λi hi=>EC hR hv hw h0 hi⟩
 |some y=>
  right;have hy:=List.mem_of_find?_eq_some hs;have ho:=List.find?_some (p:=λy=>gM y w) hs;rw[mF (hdep y hy).1 hw] at ho;exact⟨y,rfl,hy,(hdep y hy).1,(hdep y hy).2,ho⟩
def kf(c a:List Spx):List Spx×List Spx×Bool×Int:=if (cyH c a).2≠0 then([],[],false,(cyH c a).2) else if a=[] then([],[],true,0) else
 if (kp (ca (am c ((a9 a:Int)+1)) (am c (a9 a))) (am c ((a9 a:Int)+1)).length (cyH c a).1).2.2=true then(cf (am c ((a9 a:Int)+1)) (kp (ca (am c ((a9 a:Int)+1)) (am c (a9 a))) (am c ((a9 a:Int)+1)).length (cyH c a).1).1,[],true,0)
 else([],cf (am c (a9 a)) (kp (ca (am c ((a9 a:Int)+1)) (am c (a9 a))) (am c ((a9 a:Int)+1)).length (cyH c a).1).2.1,false,0)
theorem nt{c a:List Spx}(h:(cyH c a).2=0):∃v,dF c a=(v,0)/\cyH c a=(v,0)/\bI a=[]:=by
 unfold cyH at h |-;generalize dF c a=va at *;obtain⟨v,e⟩:=va;dsimp only at *;by_cases he:e=0
 ·subst he;rw[if_neg (λq=>q rfl)] at h |-;by_cases hz:bI a=[]
  ·rw[if_pos hz];exact⟨v,rfl,rfl,hz⟩
  ·rw[if_neg hz] at h;cases h
 ·rw[if_pos he] at h;exact absurd h he
theorem Bk{c:List Spx}{d:Nat}{v:List Int}(hc:aA c=0)(hd:d<=7)(ha:bj v)(hv:∀z∈v,0<=z/\z<((am c ((d:Int)+1)).length:Int)):vn c d v=(cf (am c ((d:Int)+1)) v,0):=by
 have hz:qI (am c ((d:Int)+1)).length v=0:=x8 ha hv;unfold vn;rw[if_neg (λq=>q hc),if_neg (by omega),if_neg (λq=>q hz)]
section
attribute [local irreducible] aK an bk a5 aR aU aF aV a8 bu Go.Abs.Fn aZ Go.Abs.Pure az aL Yl
theorem wE(c a b:List Spx)(hl:c.length<=50)(hs:∀s∈c,Shn s)(ha:ShC a)(hb:ShC b):pU 25 [bR c,aj a,aj b] (.int .i64 (oo c a b)):=by
 refine pO O8 ?_;simp only[b25,aH];have hp:=Cl c a b hl hs ha hb;have hbo:=Ih b hb;have hpf:=iI (c:=c) (a:=a) (b:=b);have hal:=ha.1;have hbl:=hb.1;unfold oo;generalize er c a b=p at *;obtain⟨v,w,e⟩:=p;dsimp only at *;by_cases he:e=0
 rotate_left
 ·have z0:decide (e≠(0:Int))=true:=aM he;rw[if_pos he];refine wnY (zI3 @z0 @ai @af) ?_;exact .int _ _
 subst he;obtain⟨v',w',hv,hw,hvw⟩:=hpf rfl;cases hvw;obtain⟨-,hcb,-⟩:=cR hw
 have hbt:gx b=if 4096<(bI b).length then([],5) else(bI b,0):=by
  unfold gx;rw[if_neg (λq=>q hcb)]
 have z0:decide ((0:Int)≠0)=false:=rfl;rw[if_neg (λq=>q rfl)];refine dQ ?_;have zz:=aI @z0 (aI @ai @af);repeat' (first|apply a_n|refine zO ?_|refine vY ?_|refine bxY ?_|fail)
 refine dQ ?_;refine dQ ?_;clear zz;have zz:=aI @z0 (aI @ai @af);repeat' (first|apply a_n|refine zO ?_|refine vY ?_|refine cY ?_ (hp:=hp) (hs:=by(first|refine aG ?_ rfl|apply aW);(repeat' (first|exact ak|apply bv|apply aX|exact cQ _|exact bm _));first|done|fail)|fail)
 refine dQ ?_;clear zz;have zz:=aI @z0 (aI @ai @af);repeat' (first|apply a_n|refine zO ?_|refine vY ?_|refine cFY ?_|fail)
 refine cH (λT H nx=>¬(a≠[]/\b≠[]/\a9 b≠a9 a+1)/\T 1=aj a/\T 2=aj b) ?_ ?_
 ·by_cases h1:a=[]
  ·have z1:decide ((0:Int)<a.length)=false:=by rw[h1];rfl
   refine wnY (aI @z1 @ae) ?_;exact⟨λq=>q.1 h1,rfl,rfl⟩
  have z1:decide ((0:Int)<a.length)=true:=aM (by have:=f8.2 h1;omega);by_cases h2:b=[]
  ·have z2:decide ((0:Int)<b.length)=false:=by rw[h2];rfl
   refine wnY (zI3 @z1 @z2 @ae) ?_;exact⟨λq=>q.2.1 h2,rfl,rfl⟩
  have z2:decide ((0:Int)<b.length)=true:=aM (by have:=f8.2 h2;omega);have ix:=rV h1;have iy:=rV h2;have hsa:=ha.2 _ (ar (f8.2 h1));have hsb:=hb.2 _ (ar (f8.2 h2));unfold a9;generalize a.getD 0 default=s at *;generalize b.getD 0 default=t at *;have hsa':s.length<=17592186044416:=hsa;by_cases h3:t.length=s.length+1
  ·have z3:decide ((t.length:Int)≠(s.length:Int)+1)=false:=aQ (by omega);refine wnY (zI7 @z1 @z2 @z3 @ix @iy @ae @ap) ?_;exact⟨λq=>q.2.2 h3,rfl,rfl⟩
  ·have z3:decide ((t.length:Int)≠(s.length:Int)+1)=true:=aM (by omega);rw[if_pos ⟨h1,h2,h3⟩];refine wnY (zI7 @z1 @z2 @z3 @ix @iy @ae @ap) ?_;exact .int _ _
 rintro T H nx ⟨h1,t1,t2⟩;rw[if_neg h1];clear zz;clear h1;by_cases h4:4096<(bI b).length
 ·rw[if_pos h4] at hbt;rw[hbt] at hbo |-;dsimp only at hbo |-;have z5:decide ((5:Int)≠0)=true:=rfl;rw[if_pos (by decide)];refine wnY (zI3 @t1 @t2 @z5) ?_;exact .int _ _
 rw[if_neg h4] at hbt;have heq:=MW (bI b) a (Iw hcb h4) ha;rw[hbt] at hbo |-;dsimp only at hbo |-;rw[if_neg (λq=>q rfl)];generalize bI b=g at *;by_cases h5:g=a
 ·rw[aM h5] at heq;rw[if_pos h5];refine wnY (zI3 @t1 @t2 @z0) ?_;exact .int _ _
 ·rw[aQ h5] at heq;rw[if_neg h5];refine wnY (zI3 @t1 @t2 @z0) ?_;exact .int _ _
def rfT(c a y:List Spx):Int:=if (er c a y).2.2≠0 then(er c a y).2.2 else if a=[]\/y=[] then 18 else if a9 a≠a9 y then 15 else Eg (ca (am c ((a9 a:Int)+1)) (am c (a9 a))) (er c a y).1 (er c a y).2.1
theorem oO(c a y:List Spx)(hl:c.length<=50)(hs:∀s∈c,Shn s)(ha:ShC a)(hy:ShC y):pU 27 [bR c,aj a,aj y] (.int .i64 (rfT c a y)):=by
 refine pO Ot ?_;simp only[b27,aH];have hp:=Cl c a y hl hs ha hy;have hpf:=iI (c:=c) (a:=a) (b:=y);have hal:=ha.1;have hyl:=hy.1;unfold rfT;generalize er c a y=p at *;obtain⟨v,w,e⟩:=p;dsimp only at *;by_cases he:e=0
 rotate_left
 ·have z0:decide (e≠(0:Int))=true:=aM he;rw[if_pos he];refine wnY (zI3 @z0 @ai @af) ?_;exact .int _ _
 subst he;obtain⟨v',w',hv,hw,hvw⟩:=hpf rfl;cases hvw;obtain⟨hc,hca,-,-,va,vr⟩:=cR hv;obtain⟨-,hcy,-,-,wa,wr⟩:=cR hw;have z0:decide ((0:Int)≠0)=false:=rfl;rw[if_neg (λq=>q rfl)];by_cases h1:a=[]
 ·have z1:decide ((a.length:Int)=0)=true:=by rw[h1];rfl
  rw[if_pos (.inl h1)];refine wnY (zI5 @z0 @z1 @ai @af @ae) ?_;exact .int _ _
 have z1:decide ((a.length:Int)=0)=false:=aQ (by have:=f8.2 h1;omega);by_cases h2:y=[]
 ·have z2:decide ((y.length:Int)=0)=true:=by rw[h2];rfl
  rw[if_pos (.inr h2)];refine wnY (zI6 @z0 @z1 @z2 @ai @af @ae) ?_;exact .int _ _
 have z2:decide ((y.length:Int)=0)=false:=aQ (by have:=f8.2 h2;omega);rw[if_neg (λq=>q.elim h1 h2)];have ix:=rV h1;have iy:=rV h2;have hsa:=ha.2 _ (ar (f8.2 h1));have hsb:=hy.2 _ (ar (f8.2 h2));have h8:=(bX ((dP hca).2.1 _ (ar (f8.2 h1)))).2.1;unfold a9 at *;generalize a.getD 0 default=s at *;generalize y.getD 0 default=t at *;have hsa':s.length<=17592186044416:=hsa;by_cases h3:s.length=t.length
 rotate_left
 ·have z3:decide ((s.length:Int)≠(t.length:Int))=true:=aM (by omega);rw[if_pos h3];refine wnY (jT @z0 @z1 @z2 @z3 @ix @iy @ai @af @ae @ap) ?_;exact .int _ _
 have z3:decide ((s.length:Int)≠(t.length:Int))=false:=aQ (by omega);rw[if_neg (λq=>q h3)];rw[<-h3] at wr;have hed:=nB c s.length hc hl h8;have hr1:=cl hc hl (d:=(s.length:Int)+1);have hr2:=cl hc hl (d:=(s.length:Int));have hver:=Fa (am c ((s.length:Int)+1)).length (ca (am c ((s.length:Int)+1)) (am c (s.length:Int))) v w (jt (by omega) (by omega)) (by rw[fq];exact vr) va (by rw[fq];exact wr) wa;have hd1:Dat (dh (am c ((s.length:Int)+1)).length (ca (am c ((s.length:Int)+1)) (am c (s.length:Int)))):=cV _ _;rw[cu] at hed hver hd1;generalize ca (am c ((s.length:Int)+1)) (am c (s.length:Int))=R at *;generalize (am c ((s.length:Int)+1)).length=n at *;refine wnY (jT @z0 @z1 @z2 @z3 @ix @iy @ai @af @ae @ap) ?_;exact .int _ _
theorem uF(c a:List Spx)(hl:c.length<=50)(hs:∀s∈c,Shn s)(ha:ShC a):pU 21 [bR c,aj a] (.tup [aj (kf c a).1,aj (kf c a).2.1,.bool (kf c a).2.2.1,.int .i64 (kf c a).2.2.2]):=by
 refine pO Oo ?_;simp only[b21,aH];have hch:=tY c hl hs;have hcy:=Fk c a hl hs ha;have hcf:=nt (c:=c) (a:=a);have hal:=ha.1
 have hce:aA c≠0->cyH c a=([],aA c):=λh=>by
  unfold cyH dF;rw[if_pos h,if_pos h]
 unfold kf;generalize cyH c a=p at *;obtain⟨v,e⟩:=p;dsimp only at *;have z0:decide ((0:Int)≠0)=false:=rfl;have fin0:∀{H:Hp}{f:Int},Snap H (.tup [.esl,.esl,.bool false,.int .i64 f]) (.tup [aj [],aj [],.bool false,.int .i64 f]):=bt (ag (.eslsl 1) (ag (.eslsl 1) (ag (.bool _) (ag (.int _ _) ak))));by_cases hc:aA c=0
 rotate_left
 ·cases hce hc;have z1:decide (aA c≠(0:Int))=true:=aM hc;rw[if_pos hc];refine wnY (zI3 @z1 @ai @af) ?_;exact r_4 rfl rfl rfl rfl fin0
 rw[hc] at hch;by_cases he:e=0
 rotate_left
 ·have z1:decide (e≠(0:Int))=true:=aM he;rw[if_pos he];refine wnY (zI4 @z0 @z1 @ai @af) ?_;exact r_4 rfl rfl rfl rfl fin0
 subst he;obtain⟨v',hv,hvw,hez⟩:=hcf rfl;cases hvw;rw[if_neg (λq=>q rfl)];by_cases h1:a=[]
 ·have z1:decide ((a.length:Int)=0)=true:=by rw[h1];rfl
  rw[if_pos h1];refine wnY (zI5 @z0 @z1 @ai @af @ae) ?_;refine r_4 rfl rfl rfl rfl ?_;exact bt (ag (.eslsl 1) (ag (.eslsl 1) (ag (.bool _) (ag (.int _ _) ak))))
 have z1:decide ((a.length:Int)=0)=false:=aQ (by have:=f8.2 h1;omega);rw[if_neg h1];obtain⟨-,hca,hvp,-,va,vr⟩:=cR hv;have ix:=rV h1;have hsa:=(bX ((dP hca).2.1 _ (ar (f8.2 h1))))
 have hv0:v≠[]:=λe=>by
  rw[hvp] at e;cases a with
  |nil=>exact h1 rfl
  |cons x a=>cases e
 clear hvp;unfold a9 at *;generalize a.getD 0 default=s at *;obtain⟨d,hd⟩:∃d,s.length=d+1:=⟨s.length-1,by omega⟩
 have hed:=nB c s.length hc hl hsa.2.1;have hr1:=cl hc hl (d:=(s.length:Int)+1);have hr2:=cl hc hl (d:=(s.length:Int));have hmv:=jt (X:=am c ((s.length:Int)+1)) (Y:=am c (s.length:Int)) (by omega) (by omega);have hso:=HS (am c ((s.length:Int)+1)).length (ca (am c ((s.length:Int)+1)) (am c (s.length:Int))) v hmv (by rw[fq];exact vr) va;have hd1:Dat (dh (am c ((s.length:Int)+1)).length (ca (am c ((s.length:Int)+1)) (am c (s.length:Int)))):=cV _ _;have hsl:(s.length:Int)-1+1=s.length:=by omega
 have hsl2:(s.length:Int)-1=(d:Int):=by omega
 rw[cu] at hed hso hd1;rcases lf (w:=v) hmv va with⟨x,q1,-,q2,q3,-,q4⟩|⟨y,q1,q2,q3,q4,-⟩
 ·have h7:s.length<=7:=by
    refine Decidable.byContradiction λhn=>?_;rw[yM hc (by omega),Ae] at q4;obtain⟨z,hz⟩:=List.exists_mem_of_ne_nil _ hv0;have hzr:=vr z hz;have:=q4 z.toNat (by rw[List.length_replicate];omega);rw[show((z.toNat:Nat):Int)=z by omega,dD.2 hz] at this;rw[show(List.replicate (am c (s.length:Int)).length ([]:List Int)).getD z.toNat default=[] by rw[List.getD_eq_getElem?_getD,List.getElem?_replicate];split<;>rfl] at this;cases this
  have hcn:=yh c s.length x hl (l7 hc) (by have:=d5 q2 q3;omega);rw[Bk hc h7 q2 q3] at hcn;rw[q1] at hso |-;dsimp only at hso hcn |-;rw[if_pos rfl];generalize cf (am c ((s.length:Int)+1)) x=b at *;generalize ca (am c ((s.length:Int)+1)) (am c (s.length:Int))=R at *;generalize (am c ((s.length:Int)+1)).length=n at *;refine wnY (zI8 @z0 @z1 @ix @hsl @ai @af @ae @ap) ?_;refine r_4 rfl rfl rfl rfl ?_;exact bt (ag (bm b).snap (ag (.eslsl 1) (ag (.bool _) (ag (.int _ _) ak))))
 ·rw[fq] at q4;have hss:(s.length:Int)=(d:Int)+1:=by omega
  have hcn:=yh c d y hl (l7 hc) (by have:=d5 q3 q4;omega);rw[Bk hc (by omega) q3 (by rw[<-hss];exact q4),<-hss] at hcn;rw[q1] at hso |-;dsimp only at hso hcn |-;rw[if_neg (by decide)];generalize cf (am c (s.length:Int)) y=b at *;generalize ca (am c ((s.length:Int)+1)) (am c (s.length:Int))=R at *;generalize (am c ((s.length:Int)+1)).length=n at *;have hss2:(d:Int)+1=s.length:=hss.symm;refine wnY (zI9 @z0 @z1 @ix @hsl2 @hss2 @ai @af @ae @ap) ?_;refine r_4 rfl rfl rfl rfl ?_;exact bt (ag (.eslsl 1) (ag (bm b).snap (ag (.bool _) (ag (.int _ _) ak))))
end
def cmN(a b:List Spx):Nat:=(a.filter λs=>decide (s∈b)).length
def rfR(c a y:List Spx):Int:=if (er c a y).2.2≠0 then(er c a y).2.2 else if a≠[]/\y≠[]/\a9 y≠a9 a then 15 else if cmN a y%2=0 then 18 else if ((am c ((a9 y:Int)+1)).any λs=>decide (cmN (bi s) y%2=1))=true then 18 else 0
theorem pn{Y a:List Spx}:bl (eI Y a)=a.map λs=>((Y.idxOf s:Nat):Int):=by unfold bl eI;rw[List.map_map];rfl
theorem Hy{Y a:List Spx}{s:Spx}(ha:∀s∈a,s∈Y)(hs:s∈Y):((Y.idxOf s:Nat):Int)∈bl (eI Y a)↔s∈a:=by
 rw[pn,bE];constructor
 ·rintro⟨t,ht,e⟩;have h1:=fc (ha t ht);have h2:=fc hs;have:Y.idxOf t=Y.idxOf s:=by omega
  rw[<-h2.2,<-this,h1.2];exact ht
 ·intro h;exact⟨s,h,rfl⟩
theorem yU{p:Int->Bool}:∀{a:List Int},bK (λz=>if p z=true then 1 else 0) a=(a.filter p).length
 |[]=>rfl
 |x::a=>by
  show(if p x=true then 1 else 0)+bK _ a=_;rw[yU];cases h:p x
  ·rw[q9 (by simp[h])];simp
  ·rw[rf h,bS,if_pos rfl];omega
theorem AA{α β:Type}{f:α->β}{p:β->Bool}{q:α->Bool}:∀{l:List α},(∀x∈l,p (f x)=q x)->((l.map f).filter p).length=(l.filter q).length:=λ{l} h=>by
 rw[List.filter_map,bo];exact congrArg _ (List.filter_congr λx hx=>h x hx)
theorem E7{Y a y:List Spx}(ha:∀s∈a,s∈Y)(hy:∀s∈y,s∈Y):bK (λj=>bit j (bl (eI Y a))) (bl (eI Y y))=cmN y a:=by
 rw[iV,pn (a:=y)];exact AA λs hs=>decide_eq_decide.2 (Hy ha (hy s hs))
theorem CU{a b:List Spx}(ha:a.Nodup)(hb:b.Nodup):cmN a b=cmN b a:=by
 have h1:(a.filter λx=>decide (x∈b)).Perm (b.filter λx=>decide (x∈a)):=(List.perm_ext_iff_of_nodup (ha.filter _) (hb.filter _)).2 λx=>by
  simp only[fM,f9];exact And.comm
 exact h1.length_eq
theorem wC{R:List (List Int)}(hR:∀r∈R,bj r){z:Int}:∀{y acc:List Int},bj acc->(∀i∈y,0<=i/\i<(R.length:Int))->bit z (y.foldl (λa i=>bU a (R.getD i.toNat default)) acc)=(bit z acc+bK (kN R z) y)%2
 |[],acc,_,_=>by
  have:=gW (z:=z) (a:=acc);show bit z acc=(bit z acc+0)%2;omega
 |i::y,acc,ha,hy=>by
  have hi:=hy i (de ..);have hr:bj (R.getD i.toNat default):=hR _ (ar (by omega));rw[List.foldl_cons,wC hR (d9 ha hr) λj hj=>hy j (dU _ hj),dN ha hr];show _=(bit z acc+(kN R z i+bK (kN R z) y))%2;have:kN R z i=bit z (R.getD i.toNat default):=rfl;omega
theorem s0{R:List (List Int)}(hR:∀r∈R,bj r){z:Int}{y:List Int}(hy:∀i∈y,0<=i/\i<(R.length:Int)):bit z (kg R y)=bK (kN R z) y%2:=by
 unfold kg;rw[wC hR od hy,fj,cq]
theorem Fb{X Y y:List Spx}(hy:∀s∈y,s∈Y){j:Nat}(hj:j<X.length):bK (kN (ca X Y) (j:Int)) (bl (eI Y y))=cmN y (bi (X.getD j default)):=by
 rw[gv (h:=λi=>if decide (Y.getD i.toNat default∈bi (X.getD j default))=true then 1 else 0) λi hi=>?_]
 ·rw[yU,pn];refine AA λs hs=>?_;rw[cE,(fc (hy s hs)).2]
 ·obtain⟨k,hk,rfl⟩:=gY.1 hi;unfold eI at hk;obtain⟨s,hs,rfl⟩:=bE.1 hk;have:=(fc (hy s hs)).1;unfold kN bit;rw[cE,AG this]
  have e:((j:Nat):Int)∈bl (gV X Y X.length (Y.idxOf s))↔Y.getD (Y.idxOf s) default∈bi (X.getD j default):=by
   rw[wG,sK];exact⟨λq=>q.2,λq=>⟨hj,q⟩⟩
  by_cases h:Y.getD (Y.idxOf s) default∈bi (X.getD j default)
  ·rw[if_pos (e.2 h),if_pos (aM h)]
  ·rw[if_neg (λq=>h (e.1 q)),if_neg (by simpa using h)]
theorem G8{X Y y:List Spx}(hXl:X.length<=4096)(hYl:Y.length<=4096)(hX:∀s∈X,bO cz s)(hyn:y.Nodup)(hy:∀s∈y,s∈Y):kg (ca X Y) (bl (eI Y y))=[]↔(X.any λs=>decide (cmN (bi s) y%2=1))=false:=by
 have hM:=jt (X:=X) (Y:=Y) hXl hYl;have hV:VR X.length (ca X Y):=CQ hM
 have hr:∀i∈bl (eI Y y),0<=i/\i<((ca X Y).length:Int):=λi hi=>by
  obtain⟨k,hk,rfl⟩:=gY.1 hi;unfold eI at hk;obtain⟨s,hs,rfl⟩:=bE.1 hk;have:=(fc (hy s hs)).1;rw[fq];omega
 have key:∀j,j<X.length->bit (j:Int) (kg (ca X Y) (bl (eI Y y)))=cmN (bi (X.getD j default)) y%2:=λj hj=>by
  rw[s0 hV.asc hr,Fb hy hj,CU hyn (bO.nodup iC (oX (hX _ (ar hj))))]
 constructor
 ·intro h;rw[h] at key;rw[List.any_eq_false];intro s hs q;obtain⟨j,hj,rfl⟩:=mB hs;have h1:=key j hj;have h2:=n5 q;rw[fj] at h1;omega
 ·intro h;rw[List.any_eq_false] at h;refine nA λz=>?_;by_cases hz:0<=z/\z<(X.length:Int)
  ·obtain⟨j,rfl⟩:=Int.eq_ofNat_of_zero_le hz.1;have hj:j<X.length:=by omega
   have h1:=h _ (ar hj);have h2:¬cmN (bi (X.getD j default)) y%2=1:=λq=>h1 (aM q);rw[key j hj];omega
  ·have:=(yq hV.asc hV.rng (y:=bl (eI Y y)) hr _ (aP _)).2;rw[List.take_length] at this;have n:z∉kg (ca X Y) (bl (eI Y y)):=λq=>hz (this z q);simp[bit,n]
theorem NN{c a y:List Spx}(hl:c.length<=50):rfT c a y=rfR c a y:=by
 unfold rfT rfR;by_cases he:(er c a y).2.2=0
 rotate_left
 ·rw[if_pos he,if_pos he]
 have hn:¬((er c a y).2.2≠0):=λq=>q he;rw[if_neg hn,if_neg hn];obtain⟨v,w,hv,hw,e⟩:=iI he;rw[e];obtain⟨hc,hca,rfl,ma,va,vr⟩:=cR hv;obtain⟨-,hcy,rfl,my,wa,wr⟩:=cR hw;have na:a.Nodup:=bO.nodup iC (dP hca).2.2.1;have ny:y.Nodup:=bO.nodup iC (dP hcy).2.2.1;by_cases h1:a=[]
 ·subst h1;rw[if_pos (show([]:List Spx)=[]\/y=[] from .inl rfl),if_neg (show ¬(([]:List Spx)≠[]/\y≠[]/\a9 y≠a9 []) from λq=>q.1 rfl),if_pos (show cmN [] y%2=0 from rfl)]
 by_cases h2:y=[]
 ·subst h2
  have h0:cmN a []%2=0:=by
   unfold cmN;rw[DI.2 λs _ q=>by simp at q];rfl
  rw[if_pos (show a=[]\/([]:List Spx)=[] from .inr rfl),if_neg (show ¬(a≠[]/\([]:List Spx)≠[]/\a9 []≠a9 a) from λq=>q.2.1 rfl),if_pos h0]
 rw[if_neg (show ¬(a=[]\/y=[]) from λq=>q.elim h1 h2)];by_cases h3:a9 a=a9 y
 rotate_left
 ·rw[if_pos h3,if_pos (show a≠[]/\y≠[]/\a9 y≠a9 a from⟨h1,h2,λq=>h3 q.symm⟩)]
 rw[if_neg (show ¬(a9 a≠a9 y) from λq=>q h3),if_neg (show ¬(a≠[]/\y≠[]/\a9 y≠a9 a) from λq=>q.2.2 h3.symm)];dsimp only;rw[<-h3] at my |-;have hr1:=cl hc hl (d:=(a9 a:Int)+1);have hr2:=cl hc hl (d:=(a9 a:Int));have hX:∀s∈am c ((a9 a:Int)+1),bO cz s:=λs hs=>(bX (dG hc s hs)).2.2.1;have k1:=G8 (X:=am c ((a9 a:Int)+1)) (Y:=am c (a9 a)) (y:=y) (by omega) (by omega) hX ny my;have wa':bj (bl (eI (am c (a9 a)) y)):=ec (Ay gG (dP hcy).2.2.1 my)
 have k2:gM (bl (eI (am c (a9 a)) y)) (bl (eI (am c (a9 a)) a))=decide (cmN a y%2=1):=by
  rw[mF wa' va];unfold gZ;rw[E7 ma my,CU ny na]
 unfold Eg;rw[k2];by_cases h4:cmN a y%2=0
 ·rw[if_pos h4,aQ (by omega)];split<;>rfl
 ·rw[if_neg h4,aM (by omega),if_pos rfl];by_cases h5:kg (ca (am c ((a9 a:Int)+1)) (am c (a9 a))) (bl (eI (am c (a9 a)) y))=[]
  ·rw[if_pos h5,k1.1 h5];rfl
  ·rw[if_neg h5];cases h6:(am c ((a9 a:Int)+1)).any λs=>decide (cmN (bi s) y%2=1)
   ·exact absurd (k1.2 h6) h5
   ·rfl
theorem px{H:Hp}{t x:AV}{cs:List AV}{l:List Int}(hrow:Row H 1 t (cs++[x]))(hx:Row H 1 x (l.map (AV.int .i64)))(hne:∀b,bz x=some b->bz t≠some b):∃Hf H',Fz Hf H H'/\Row H' 1 t (cs++[aD l])/\∀y,bz x≠some y->bz t≠some y->H' y=H y:=by
 generalize hds:l.map (AV.int .i64)=ds at hx;cases hx with
 |nil=>
  have hl:l=[]:=List.map_eq_nil_iff.1 hds;generalize hcs:cs++[AV.esl]=es at hrow;cases hrow with
  |nil=>exact absurd (congrArg List.length hcs) (by simp)
  |box b len es g1 g2=>
   refine⟨bN,ay H b (cs++[aD l]),⟨λy d h=>(by cases h),λy d h=>?_⟩,Row.box b len _ ah (by rw[<-g2,<-hcs];simp),λy h1 h2=>?_⟩
   ·by_cases e:y=b
    ·subst e;rw[ah] at h;cases h;exact⟨es,g1,rfl,by rw[<-hcs];exact fT.snoc (by rw[hl];exact .eslsl 1)⟩
    ·rw[ac e] at h;exact⟨d,h,rfl,fT.refl _ _⟩
   ·rw[ac (λe=>h2 (by rw[e];rfl))]
 |box b len ds g1 g2=>
  obtain⟨H',h1,h2,h3⟩:=mH (x':=aD l) hrow g1 (Row.snapI (by rw[hds];exact Row.box b len ds gX g2)) (hne b rfl);exact⟨_,H',h1,h2,λy y1 y2=>h3 y (λe=>y1 (by rw[e];rfl)) y2⟩
def slF(E:List (List Int))(c:Nat)(k:Nat):List Int:=((E.take k).filter λr=>decide ((c:Int)∈r)).map ld
theorem Fu{E:List (List Int)}{c k:Nat}(h:k<E.length):slF E c (k+1)=slF E c k++if (c:Int)∈E.getD k default then [ld (E.getD k default)] else []:=by
 unfold slF;rw[bT h,s7,cA]
 congr 1
 by_cases q:(c:Int)∈E.getD k default
 ·rw[if_pos q,rf (by simpa using q)];rfl
 ·rw[if_neg q,q9 (by simpa using q)];rfl
theorem Hs{E:List (List Int)}{c k:Nat}:(slF E c k).length<=E.length:=by
 unfold slF;rw[bo];have h1:=List.length_filter_le (λr:List Int=>decide ((c:Int)∈r)) (E.take k);have h2:(E.take k).length<=E.length:=by rw[fy];omega
 omega
theorem O5{g:FuncId}{r:AV}{c:Int}{W:List (List Int)}(hp:pU g [.agg [.int .i64 c,br W]] r){H:Hp}{nx:Nat}{s:AV}(hrow:Row H 1 s (W.map aD)):Abs.Fn Tryz.prog g [.agg [.int .i64 c,s]] H nx λr' H' nx'=>r'=r/\nx=nx'/\∀x,bz s≠some x->H' x=H x:=by
 generalize hcs:W.map aD=cs at hrow;cases hrow with
 |nil=>exact Abs.Fn.of_pureZ hp (Hf:=bN) (H':=H) (λb cs h=>by cases h) (λb cs h=>⟨h,rfl⟩) (ag (ja (ag (.int _ _) (ag (kF (by rw[hcs];exact Row.nil)) ak))) ak) ⟨rfl,rfl,λ_ _=>rfl⟩
 |box b len cs g1 g2=>
  refine Abs.Fn.of_pureZ hp (Hf:=only b cs) (H':=dp H b) (λa cs' h=>?_) (λa cs' h=>?_) (ag (ja (ag (.int _ _) (ag (kF (by rw[hcs];exact Row.box b len cs gX g2)) ak))) ak) ⟨rfl,rfl,λx hx=>cw (λe=>hx (by rw[e];rfl))⟩
  ·unfold only at h;split at h
   ·rename_i e;cases h;subst e;exact g1
   ·cases h
  ·unfold dp at h;split at h
   ·cases h
   ·rename_i e;exact⟨h,by unfold only;rw[if_neg e]⟩
def slT(R:List (List Int))(c:Nat)(b:List Int):List Int×Bool:=if (c:Int)∈(pc (eU R c b) (c+1)).map ld then([],false) else(slF (pc (eU R c b) (c+1)) c (pc (eU R c b) (c+1)).length,true)
theorem HW{c:Nat}{R:List (List Int)}{b:List Int}(hm:fZ c R)(hc:c<4096):fZ ((c+1:Nat):Int) (eU R c b):=by
 have hR:=eu hm;have hv:=lz hm;refine⟨by omega,by omega,by unfold eU;rw[bo,List.length_range];exact hm.2.2.1,λr hr=>?_⟩;unfold eU at hr;obtain⟨i,hi,rfl⟩:=bE.1 hr;have hi:=dZ.1 hi;have ha:=hR _ (ar hi);have hvi:=hv _ (ar hi)
 have h1:bj (wdR R c b i):=by
  have:=x6 (t:=decide ((i:Int)∈b)) ha λz hz=>(hvi z hz).2;unfold wdR;simpa using this
 have h2:∀z∈wdR R c b i,0<=z/\z<((c+1:Nat):Int):=λz hz=>by
  unfold wdR at hz;split at hz
  ·rcases eM.1 hz with q|q
   ·have:=hvi z q;omega
   ·rw[dg] at q;omega
  ·have:=hvi z hz;omega
 exact⟨h2,by have:=d5 h1 h2;omega,qf h1⟩
theorem JF{a:List Int}{t:List Int}(h:a≠[]):ld (a++t)=ld a:=by
 cases a with
 |nil=>exact absurd rfl h
 |cons x a=>rfl
theorem Jx{c:Nat}{b:List Int}{l:Ln}(h:l.1≠[]):ld (wdL c b l)=ld l.1:=by
 unfold wdL;split
 ·exact JF h
 ·rfl
theorem JX{c:Nat}{b:List Int}{l:Ln}(h:∀z∈l.1,z<(c:Int)):(c:Int)∈wdL c b l↔gZ b l.2=true:=by
 have hn:(c:Int)∉l.1:=λq=>by have:=h _ q;omega
 unfold wdL;split
 ·rename_i q;simp[q]
 ·rename_i q;exact⟨λx=>absurd x hn,λx=>absurd x q⟩
theorem wo{L:List Ln}{c:Nat}{b:List Int}:∀{L:List Ln},(∀l∈L,l.1≠[]/\(∀z∈l.1,z<(c:Int))/\gM l.2 b=gZ b l.2)->(((L.map (wdL c b)).filter λr=>decide ((c:Int)∈r)).map ld)=(L.filter λl=>gM l.2 b).map λl=>ld l.1
 |[],_=>rfl
 |x::L,h=>by
  have ih:=wo (L:=L) (c:=c) (b:=b) λl hl=>h l (dU _ hl);obtain⟨h1,h2,h3⟩:=h x (de ..);have hm:=JX (b:=b) h2;rw[fF];by_cases q:gZ b x.2=true
  ·rw[rf (p:=λr:List Int=>decide ((c:Int)∈r)) (aM (hm.2 q)),rf (by rw[h3];exact q),fF,fF,ih,Jx h1]
  ·rw[q9 (p:=λr:List Int=>decide ((c:Int)∈r)) (by simpa using λe=>q (hm.1 e)),q9 (by rw[h3];exact q),ih]
theorem KM{R:List (List Int)}{c:Nat}{w:List Int}(hm:fZ c R)(hw:bj w):slT R c w=((kp R c w).1,(kp R c w).2.2):=by
 have hR:=eu hm;have hv:=lz hm;have hok:=fY hR (aP R.length);obtain⟨e1,e2,e3⟩:=jX hR hv;rcases lf hm hw with⟨x,h1,h2,h3,h4,h5,h6⟩|⟨y,h1,h2,h3,h4,h5⟩
 ·rw[h1];have hy:=wj (c:=c) hR hv h5;unfold slT;rw[hy]
  have hl:∀l∈ll R c,l.1≠[]/\(∀z∈l.1,z<(c:Int))/\gM l.2 w=gZ w l.2:=λl hl=>by
   have hlm:=(e3 l).1 hl;have ha:=hok.red.asc l hlm;refine⟨hok.red.ne l hlm,λz hz=>?_,mF ha.2 hw⟩;have:=jw hR hv (hok.inS l hlm |> λq=>by rwa [List.take_length] at q) z hz;exact this.2
  have hn:(c:Int)∉((ll R c).map (wdL c w)).map ld:=λq=>by
   obtain⟨r,hr,e⟩:=bE.1 q;obtain⟨l,hlm,rfl⟩:=bE.1 hr;obtain⟨k1,k2,k3⟩:=hl l hlm;rw[Jx k1] at e;have:=k2 _ (dq k1);omega
  rw[if_neg hn];unfold slF;rw[List.take_length,wo (L:=[]) hl,h2];rfl
 ·rw[h1];obtain⟨r,hr,e⟩:=Gn (c:=c) hR hv h2 h5;unfold slT;rw[if_pos (by rw[<-e];exact List.mem_map_of_mem hr)]
theorem jU.lenS{H:Hp}{s:AV}{l:List (List Int)}(h:jU H s l):dz s=some (.int .i64 l.length):=by
 rcases h with rfl|h
 ·exact bQ
 ·exact h.lenS (by rw[bo,Nat.mul_one]) ke
def CX(c:List Spx)(d:Nat)(l:List (List Int)):Bool:=decide (rk (bdM c d++l) (bdN c d)=rk (bdM c d) (bdN c d)+l.length)
def onL(l:List (Nat×List AV)):Hp:=λx=>(l.find? λp=>decide (p.1=x)).map Prod.snd
theorem Ie{H:Hp}{l:List (Nat×List AV)}(h:∀p∈l,H p.1=some p.2):Sub (onL l) H:=λx cs hx=>by
 unfold onL at hx;obtain⟨p,hp,rfl⟩:=Option.map_eq_some_iff.1 hx;have h1:=List.mem_of_find?_eq_some hp;have h2:=n5 (List.find?_some (p:=λp:Nat×List AV=>decide (p.1=x)) hp);rw[<-h2];exact h p h1
theorem KF{H:Hp}{l1:List (Nat×List AV)}{l2:List (Nat×AV×AV)}(h1:∀p∈l1,H p.1=some p.2)(h2:∀q∈l2,H q.1=some [q.2.1]/\onL l1 q.1=none/\Snap (onL l1) q.2.1 q.2.2):Fz (onL l1) H (onL (l2.map λq=>(q.1,[q.2.2]))) where
 sub:=Ie h1
 to:=λa cs' h=>by
  have h0:=h;unfold onL at h;obtain⟨p,hp,rfl⟩:=Option.map_eq_some_iff.1 h;have g1:=List.mem_of_find?_eq_some hp;have g2:=n5 (List.find?_some (p:=λp:Nat×List AV=>decide (p.1=a)) hp);obtain⟨q,hq,rfl⟩:=bE.1 g1;obtain⟨k1,k2,k3⟩:=h2 q hq;dsimp only at g2 |-;rw[g2] at k1 k2;refine⟨[q.2.1],k1,k2,rfl,λi u v hu hv=>?_⟩
  match i with
  |0=>simp at hu hv;subst hu;subst hv;exact .inr k3
  |i+1=>simp at hu
def dr:List Spx:=[ee [0,1],ee [0,2],ee [1,2]]
def hJ:List Spx:=[ee [0,1,2]]
def m8:List Spx:=[ee [0,1,2],ee [0,1,3],ee [0,2,3],ee [1,2,3]]
theorem wc:aA dr=0:=by decide+kernel
theorem Cj:aA hJ=0:=by decide+kernel
theorem Ha:aA m8=0:=by decide+kernel
theorem uu{c:List Spx}(h:aA c=0):∀s∈c,Shn s:=l7 h
theorem Fj:pU 13 [bR dr] (.tup [aD [1,1],.int .i64 0]):=by
 have h:=uZ dr 2 wc (by decide) (by decide+kernel) (by decide)
 rwa [show btL dr 2=[1,1] by decide+kernel] at h
theorem GW:pU 13 [bR hJ] (.tup [aD [1,0,0],.int .i64 0]):=by
 have h:=uZ hJ 3 Cj (by decide) (by decide+kernel) (by decide)
 rwa [show btL hJ 3=[1,0,0] by decide+kernel] at h
theorem G3:pU 13 [bR m8] (.tup [aD [1,0,1],.int .i64 0]):=by
 have h:=uZ m8 3 Ha (by decide) (by decide+kernel) (by decide)
 rwa [show btL m8 3=[1,0,1] by decide+kernel] at h
theorem J5:pU 18 [bR dr,.int .i64 1] (.tup [fS [dr],.int .i64 0]):=by
 have h:=Ds dr 1 (ro.le FP (by decide+kernel)) wc (by decide) (by decide) (by decide+kernel)
 rwa [show cyT dr 1=[dr] by decide+kernel] at h
theorem Aw:ShC dr:=⟨by decide,by decide⟩
theorem K2:ShC hJ:=⟨by decide,by decide⟩
theorem PA:ShC [ee [0,1]]:=⟨by decide,by decide⟩
theorem LL:ShC [ee [1,2]]:=⟨by decide,by decide⟩
theorem Oj:ShC []:=⟨by decide,by decide⟩
theorem J0:pU 21 [bR dr,aj dr] (.tup [aj [],aj [ee [0,1]],.bool false,.int .i64 0]):=by
 have h:=uF dr dr (by decide) (uu wc) Aw
 rwa [show kf dr dr=([],[ee [0,1]],false,0) by decide+kernel] at h
theorem KO:pU 21 [bR hJ,aj dr] (.tup [aj hJ,aj [],.bool true,.int .i64 0]):=by
 have h:=uF hJ dr (by decide) (uu Cj) Aw
 rwa [show kf hJ dr=(hJ,[],true,0) by decide+kernel] at h
theorem F9:pU 15 [bR m8,.int .i64 1] (.tup [.bool true,.int .i64 0]):=by
 have h:=pJ m8 3 1 Ha (by decide) (by decide+kernel) (by decide) (by decide)
 rwa [show IX (btL m8 3) 1=true by decide+kernel] at h
theorem G9:pU 15 [bR m8,.int .i64 2] (.tup [.bool false,.int .i64 0]):=by
 have h:=pJ m8 3 2 Ha (by decide) (by decide+kernel) (by decide) (by decide)
 rwa [show IX (btL m8 3) 2=false by decide+kernel] at h
theorem Hi:pU 27 [bR dr,aj dr,aj [ee [0,1]]] (.int .i64 0):=by
 have h:=oO dr dr [ee [0,1]] (by decide) (uu wc) Aw PA
 rwa [show rfT dr dr [ee [0,1]]=0 by decide+kernel] at h
theorem GK:pU 27 [bR dr,aj dr,aj [ee [1,2]]] (.int .i64 0):=by
 have h:=oO dr dr [ee [1,2]] (by decide) (uu wc) Aw LL
 rwa [show rfT dr dr [ee [1,2]]=0 by decide+kernel] at h
theorem F4:pU 27 [bR hJ,aj dr,aj [ee [1,2]]] (.int .i64 18):=by
 have h:=oO hJ dr [ee [1,2]] (by decide) (uu Cj) Aw LL
 rwa [show rfT hJ dr [ee [1,2]]=18 by decide+kernel] at h
theorem FJ:pU 25 [bR hJ,aj dr,aj hJ] (.int .i64 0):=by
 have h:=wE hJ dr hJ (by decide) (uu Cj) Aw K2
 rwa [show oo hJ dr hJ=0 by decide+kernel] at h
theorem CV:pU 25 [bR dr,aj dr,aj []] (.int .i64 18):=by
 have h:=wE dr dr [] (by decide) (uu wc) Aw Oj
 rwa [show oo dr dr []=18 by decide+kernel] at h
theorem Mf:pU 17 [aD [1,1],aD [1,1]] (.bool true):=by
 have:=uT [1,1] [1,1] (by decide) (by decide)
 rwa [aM rfl] at this
theorem Lp:pU 17 [aD [1,0,0],aD [1,0,0]] (.bool true):=by
 have:=uT [1,0,0] [1,0,0] (by decide) (by decide)
 rwa [aM rfl] at this
theorem K9:pU 17 [aD [1,0,1],aD [1,0,1]] (.bool true):=by
 have:=uT [1,0,1] [1,0,1] (by decide) (by decide)
 rwa [aM rfl] at this
theorem Ke(l:List Spx)(h:ShC l):pU 23 [aj l,aj l] (.bool true):=by
 have:=Du l l h.1 h.1 h.2 h.2
 rwa [aM rfl] at this
theorem GI{X b:List Spx}(h:∀s∈b,s∈X):cf X (bl (eI X b))=b:=by
 rw[pn];unfold cf;rw[List.map_map];refine(pK λs hs=>?_).trans (List.map_id b);show X.getD ((X.idxOf s:Nat):Int).toNat default=s;rw[cE];exact(fc (h s hs)).2
theorem ql{c:List Spx}{k:Nat}{x:List Int}(hc:aA c=0)(hl:c.length<=50)(hf:lJ c c.length<=400)(hk:k<8)(ha:bj x)(hr:∀z∈x,0<=z/\z<((am c ((k:Int)+1)).length:Int)):
    dF c (cf (am c ((k:Int)+1)) x)=(x,0)/\ShC (cf (am c ((k:Int)+1)) x)/\(∀s∈cf (am c ((k:Int)+1)) x,s.length=k+1)/\gx (cf (am c ((k:Int)+1)) x)=(bI (cf (am c ((k:Int)+1)) x),0)/\ShC (bI (cf (am c ((k:Int)+1)) x))/\dF c (bI (cf (am c ((k:Int)+1)) x))=(bl (fg (ca (am c ((k:Int)+1)) (am c k)) x),0)/\(∀s∈bI (cf (am c ((k:Int)+1)) x),s.length=k/\s∈am c k)/\bl (fg (ca (am c ((k:Int)+1)) (am c k)) x)=bl (eI (am c k) (bI (cf (am c ((k:Int)+1)) x))):=by
 have hfr:=Hb hc (d:=(k:Int)+1);have hxl:=d5 ha hr;obtain⟨a,b,k1,k2,k3,k4,k5,k6,k7,k8,j1,j2,j3,j4,j5,j6⟩:=vD (c:=c) (k:=k) (v:=x) hc hl hk (by omega) (x8 ha hr);rw[Bk hc (by omega) ha hr] at k1;cases k1;subst j1;exact⟨k2,k5,j3,k3,k6,k8,λs hs=>⟨j4 s hs,j5 s hs⟩,j6⟩
theorem ET{c b:List Spx}{w:List Int}(h:dF c b=(w,0)):b=cf (am c (a9 b)) w:=by
 obtain⟨-,-,e,hm,-⟩:=cR h;rw[e,GI hm]
theorem CM{c a b:List Spx}{v w:List Int}(h1:dF c a=(v,0))(h2:dF c b=(w,0)):er c a b=(v,w,0):=by
 unfold er;rw[h1,h2];rfl
theorem Jz{c a b:List Spx}(h:oo c a b=0):∃v w,dF c a=(v,0)/\dF c b=(w,0)/\(a≠[]->b≠[]->a9 b=a9 a+1)/\bI b=a:=by
 unfold oo at h;by_cases he:(er c a b).2.2=0
 rotate_left
 ·rw[if_pos he] at h;exact absurd h he
 rw[if_neg (show ¬((er c a b).2.2≠0) from λq=>q he)] at h;obtain⟨v,w,hv,hw,-⟩:=iI he;obtain⟨-,hcb,-⟩:=cR hw;by_cases h1:a≠[]/\b≠[]/\a9 b≠a9 a+1
 ·rw[if_pos h1] at h;exact absurd h (by decide)
 rw[if_neg h1] at h
 have hb:gx b=if 4096<(bI b).length then([],5) else(bI b,0):=by
  unfold gx;rw[if_neg (λq=>q hcb)]
 rw[hb] at h;by_cases h4:4096<(bI b).length
 ·rw[if_pos h4] at h;exact absurd (show(5:Int)=0 from h) (by decide)
 rw[if_neg h4] at h;refine⟨v,w,hv,hw,λq1 q2=>Classical.byContradiction λq=>h1 ⟨q1,q2,q⟩,?_⟩;have h:(if bI b=a then(0:Int) else 18)=0:=h;by_cases q:bI b=a
 ·exact q
 ·rw[if_neg q] at h;exact absurd h (by decide)
theorem CB{c a b:List Spx}{v w:List Int}(h1:dF c a=(v,0))(h2:dF c b=(w,0))(h3:a≠[]->b≠[]->a9 b=a9 a+1)(h4:gx b=(a,0)):oo c a b=0:=by
 unfold oo;rw[CM h1 h2,if_neg (show ¬((v,w,(0:Int)).2.2≠0) from λq=>q rfl),if_neg (λq=>q.2.2 (h3 q.1 q.2.1)),h4,if_neg (λq=>q rfl),if_pos rfl]
theorem Lr{c a y:List Spx}(h:rfT c a y=0):∃v w,dF c a=(v,0)/\dF c y=(w,0)/\a≠[]/\y≠[]/\a9 a=a9 y/\kg (ca (am c ((a9 a:Int)+1)) (am c (a9 a))) w=[]/\gM w v=true:=by
 unfold rfT at h;by_cases he:(er c a y).2.2=0
 rotate_left
 ·rw[if_pos he] at h;exact absurd h he
 rw[if_neg (show ¬((er c a y).2.2≠0) from λq=>q he)] at h;obtain⟨v,w,hv,hw,e⟩:=iI he;rw[e] at h;by_cases h1:a=[]\/y=[]
 ·rw[if_pos h1] at h;exact absurd h (by decide)
 rw[if_neg h1] at h;by_cases h2:a9 a=a9 y
 rotate_left
 ·rw[if_pos h2] at h;exact absurd h (by decide)
 rw[if_neg (λq=>q h2)] at h;unfold Eg at h;dsimp only at h;split at h
 ·rename_i q1;split at h
  ·rename_i q2;exact⟨v,w,hv,hw,λq=>h1 (.inl q),λq=>h1 (.inr q),h2,q1,q2⟩
  ·exact absurd h (by decide)
 ·exact absurd h (by decide)
theorem FZ{R:List (List Int)}{c:Nat}{x w:List Int}(hR:VR c R)(hx:bj x)(hw:bj w)(hwr:∀z∈w,0<=z/\z<(R.length:Int))(h:∀i,i<R.length->bK (λz=>bit z x) (R.getD i default)%2=bit (i:Int) w):bl (fg R x)=w:=by
 have ha:bj (bl (fg R x)):=ec (List.pairwise_lt_range.sublist xR);refine iK ha hw λz=>?_;by_cases hz:0<=z/\z<(R.length:Int)
 ·obtain⟨i,rfl⟩:=Int.eq_ofNat_of_zero_le hz.1;have hi:i<R.length:=by omega
  have hra:=hR.asc _ (ar hi);rw[vT hR.asc hx hi,<-h i hi];have e:=v8 hra hx;unfold gZ at e;have e:=decide_eq_decide.1 e;omega
 ·have n1:z∉bl (fg R x):=λq=>by
    obtain⟨i,hi,rfl⟩:=gY.1 q;have:=dZ.1 (fM.1 hi).1;omega
  have n2:z∉w:=λq=>hz (hwr z q);simp[bit,n1,n2]
theorem wM{c a:List Spx}(hc:aA c=0)(hl:c.length<=50)(hf:lJ c c.length<=400)(h:(cyH c a).2=0):
    (∃b,kf c a=(b,[],true,0)/\ShC b/\oo c a b=0/\∀y,rfT c a y≠0)\/ ∃y,kf c a=([],y,false,0)/\ShC y/\rfT c a y=0/\∀b,oo c a b≠0:=by
 obtain⟨v,hv,hcv,hez⟩:=nt h;by_cases h0:a=[]
 ·subst h0;left;refine⟨[],?_,⟨bC _,λs h=>(by cases h)⟩,CB hv hv (λq=>absurd rfl q) rfl,λy q=>?_⟩
  ·unfold kf;rw[if_neg (λq=>q h),if_pos rfl]
  ·obtain⟨_,_,_,_,q1,_⟩:=Lr q;exact q1 rfl
 obtain⟨-,hca,hvp,hin,va,vr⟩:=cR hv;have hlen:=(dP hca).2.2.2
 have hv0:v≠[]:=λe=>by
  rw[hvp] at e;cases a with
  |nil=>exact h0 rfl
  |cons x a=>cases e
 have hb8:=bX ((dP hca).2.1 _ (ar (f8.2 h0)));obtain⟨k,hk⟩:∃k,a9 a=k+1:=⟨a9 a-1,by have:=hb8.1;unfold a9;omega⟩
 have hk8:k<8:=by have:=hb8.2.1;unfold a9 at hk;omega
 have hX:=cl hc hl (d:=((a9 a:Nat):Int)+1);have hY:=cl hc hl (d:=((a9 a:Nat):Int));have hM:=jt (X:=am c (((a9 a:Nat):Int)+1)) (Y:=am c ((a9 a:Nat):Int)) (by omega) (by omega);have hV:VR _ _:=CQ hM
 have hbt:kf c a=if (kp (ca (am c ((a9 a:Int)+1)) (am c (a9 a))) (am c ((a9 a:Int)+1)).length v).2.2=true then(cf (am c ((a9 a:Int)+1)) (kp (ca (am c ((a9 a:Int)+1)) (am c (a9 a))) (am c ((a9 a:Int)+1)).length v).1,[],true,0) else([],cf (am c (a9 a)) (kp (ca (am c ((a9 a:Int)+1)) (am c (a9 a))) (am c ((a9 a:Int)+1)).length v).2.1,false,0):=by
  unfold kf;rw[if_neg (λq=>q h),if_neg h0,hcv]
 have hRl:(ca (am c ((a9 a:Int)+1)) (am c (a9 a))).length=(am c (a9 a)).length:=fq;rcases lf hM va with⟨x,s1,s2,s3,s4,s5,s6⟩|⟨y,s1,s2,s3,s4,s5⟩
 ·left;rw[s1,if_pos rfl] at hbt;have hap:=FZ hV s3 va (by rw[hRl];exact vr) s6
  have hla:a9 a<8:=by
   refine Classical.byContradiction λq=>hv0 ?_
   have hx:x=[]:=by
    have:am c ((a9 a:Int)+1)=[]:=yM hc (by omega);rw[this] at s4;cases x with
    |nil=>rfl
    |cons z x=>have:=s4 z (de ..);simp at this;omega
   refine nA λz=>?_;by_cases hz:z∈v
   ·have hzr:=vr z hz;obtain⟨i,rfl⟩:=Int.eq_ofNat_of_zero_le hzr.1;have:=s6 i (by omega);rw[hx,jC λz _=>fj] at this;omega
   ·simp[bit,hz]
  obtain⟨c1,c2,c3,c4,c5,c6,c7,c8⟩:=ql hc hl hf hla s3 s4;rw[hap] at c6 c8;have heq:bI (cf (am c ((a9 a:Int)+1)) x)=a:=zV (λs hs=>(c7 s hs).2) hin (xp (by rw[<-c8,hvp]));refine⟨_,hbt,c2,CB hv c1 (λ_ q=>?_) (by rw[c4,heq]),λy q=>?_⟩
  ·exact c3 _ (ar (f8.2 q))
  ·obtain⟨v',w,q1,q2,-,q4,q5,q6,q7⟩:=Lr q;rw[hv] at q1;cases q1;obtain⟨-,hcy,hwp,hiny,wa,wr⟩:=cR q2;rw[<-q5] at wr
   have hk2:KerV (trL (am c ((a9 a:Int) + 1)).length (ca (am c ((a9 a:Int) + 1)) (am c (a9 a)))) (ca (am c ((a9 a:Int) + 1)) (am c (a9 a))).length w:=(Fh hV).2 ⟨wa,by rw [hRl]; exact wr,fun z=>by
    rw[<-s0 hV.asc (by rw[hRl];exact wr),q6,fj]⟩
   have hsp:=(IT hV).2 hk2
   have hod:gZ v w=false:=by
    unfold gZ
    rw [sF hsp fun d hd=>by
     have:=s5 d hd;unfold gZ at this;have:=of_decide_eq_false this;omega]
    rfl
   rw[mF wa va,hod] at q7;cases q7
 ·right;rw[s1,if_neg (show ¬(([]:List Int),y,false).2.2=true from λq=>by cases q)] at hbt;rw[hRl] at s4;have hY2:am c ((a9 a:Nat):Int)=am c ((k:Int)+1):=by rw[hk];rfl
  have s4':=s4;rw[hY2] at s4';obtain⟨c1,c2,c3,-⟩:=ql hc hl hf hk8 s3 s4';rw[<-hY2] at c1 c2 c3;have hy0:y≠[]:=λe=>by rw[e] at s5;cases s5
  have hp0:cf (am c ((a9 a:Nat):Int)) y≠[]:=λe=>hy0 (List.map_eq_nil_iff.1 e);refine⟨_,hbt,c2,?_,λb q=>?_⟩
  ·unfold rfT
   have hll:a9 a=a9 (cf (am c ((a9 a:Nat):Int)) y):=by
    have:=c3 _ (ar (f8.2 hp0));unfold a9 at *;omega
   rw[CM hv c1,if_neg (show ¬((v,y,(0:Int)).2.2≠0) from λq=>q rfl),if_neg (show ¬(a=[]\/_=[]) from λq=>q.elim h0 hp0),if_neg (λq=>q hll)];unfold Eg;have hok:=fY hV.asc (aP (ca (am c ((a9 a:Int)+1)) (am c (a9 a))).length)
   have hsn:kg (ca (am c ((a9 a:Int)+1)) (am c (a9 a))) y=[]:=nA λz=>by
    rw[s0 hV.asc (by rw[hRl];exact s4)];have:=(hok.dep y s2).2.1 z;rw[fj] at this;exact this.symm
   rw[if_pos hsn,if_pos];rw[mF s3 va];exact s5
  ·obtain⟨v',w,q1,q2,q3,q4⟩:=Jz q;rw[hv] at q1;cases q1;have hb0:b≠[]:=λe=>by subst e;exact h0 q4.symm
   have hlb:=q3 h0 hb0;obtain⟨-,hcb,hwp,hinb,wa,wr⟩:=cR q2;have hb8:=bX ((dP hcb).2.1 _ (ar (f8.2 hb0)));have hla:a9 a<8:=by have:=hb8.2.1;unfold a9 at hlb |-;omega
   have hpk:=ET q2;rw[hlb,show((a9 a+1:Nat):Int)=(a9 a:Int)+1 by omega] at hpk wr;obtain⟨c1,c2,c3,c4,c5,c6,c7,c8⟩:=ql hc hl hf hla wa wr;rw[<-hpk,q4,hv] at c6;have e:=congrArg Prod.fst c6;dsimp only at e;have:=Gi (R:=ca (am c ((a9 a:Int)+1)) (am c (a9 a))) hV.asc wa s2;rw[<-e,s5] at this;cases this
section
attribute [local irreducible] aK an bk a5 aR aU aF aV a8 bu Go.Abs.Fn aZ Go.Abs.Pure az aL Yl
theorem Gp(c a b:List Spx)(hl:c.length<=50)(hs:∀s∈c,Shn s)(ha:ShC a)(hb:ShC b):pU 64 [bR c,aj a,aj b] (.int .i64 (er c a b).2.2):=by
 refine pO Ou ?_;simp only[b64,aH];have hch:=rR c hl hs;have h1:=FG c a hl hs ha;have h2:=FG c b hl hs hb;have hce:aA c≠0->dF c a=([],aA c):=λh=>by unfold dF;rw[if_pos h]
 unfold er;generalize dF c a=va at *;generalize dF c b=vb at *;obtain⟨v,e⟩:=va;obtain⟨w,f⟩:=vb;dsimp only at *;by_cases hc:aA c=0
 ·have z0:decide (aA c≠(0:Int))=false:=aQ (λq=>q hc);by_cases he:e=0
  ·subst he;have z1:decide ((0:Int)≠0)=false:=rfl;rw[if_neg (λq=>q rfl)];refine wnY (zI4 @z0 @z1 @ai @af) ?_;exact .int _ _
  ·have z1:decide (e≠(0:Int))=true:=aM he;rw[if_pos he];refine wnY (zI4 @z0 @z1 @ai @af) ?_;exact .int _ _
 ·have z0:decide (aA c≠(0:Int))=true:=aM hc;cases hce hc;rw[if_pos hc];refine wnY (zI3 @z0 @ai @af) ?_;exact .int _ _
theorem HV{a b:List Spx}{k:Nat}(h:k<a.length):cmN (a.take (k+1)) b=cmN (a.take k) b+if a.getD k default∈b then 1 else 0:=by
 unfold cmN;rw[bT h,s7,da];by_cases q:a.getD k default∈b
 ·rw[if_pos q,rf (by simpa using q)];rfl
 ·rw[if_neg q,q9 (by simpa using q)];rfl
theorem FE{a b:List Spx}:cmN a b<=a.length:=List.length_filter_le _ _
theorem vQ(a b:List Spx)(ha:ShC a)(hb:ShC b)(hn:b.Nodup):pU 65 [aj a,aj b] (.int .i64 (cmN a b)):=by
 refine pO OH ?_;simp only[b65,aH];have hal:a.length<=17592186044416:=ha.1;refine wnY @ae ?_;refine lpI (X:=Nat) (λk=>[(0,aj a),(1,aj b),(5,.int .i64 (cmN (a.take k) b)),(6,.int .i64 k)]) (λk H nx=>k<=a.length) (λk=>a.length-k) 0 (bC _) ?_;rintro k H nx h1;have hcl:=FE (a:=a.take k) (b:=b);rw[fy] at hcl;by_cases hk:k<a.length
 rotate_left
 ·obtain rfl:k=a.length:=by omega
  rw[List.take_length];refine wnY @ae ?_;exact .int _ _
 have ix:=dC hk;have hpl:=zR b (a.getD k default) hb.1 hb.2 (ha.2 _ (ar hk)) hn;have hct:=HV (b:=b) hk;generalize a.getD k default=s at *;generalize cmN (a.take k) b=m at *;by_cases hm:s∈b
 ·rw[if_pos hm] at hpl hct;have z:decide ((0:Int)<=((b.idxOf s:Nat):Int))=true:=aM (by omega);generalize b.idxOf s=i at *;refine wnY (zI3 @ix @z @ae) ?_;refine⟨k+1,by omega,by omega,by rw[show((cmN (a.take (k+1)) b:Nat):Int)=(m:Int)+1 by omega];simp (disch:=omega) only[agr,ZG,reduceEqDiff,↓reduceIte]⟩
 ·rw[if_neg hm] at hpl hct;have z:decide ((0:Int)<= -1)=false:=rfl;refine wnY (zI3 @ix @z @ae) ?_;refine⟨k+1,by omega,by omega,by rw[show((cmN (a.take (k+1)) b:Nat):Int)=(m:Int) by omega];simp (disch:=omega) only[agr,ZG,reduceEqDiff,↓reduceIte]⟩
theorem NY(m:Nat):∀tb tf,bw .rem tb tf (.int .i64 (m:Int)) (.int .i64 2)=some (.int .i64 ((m%2:Nat):Int)):=λ_ _=>(xU (by omega) (by omega)).trans (by rw[Int.natCast_emod];rfl)
theorem BQ(c a y:List Spx)(hl:c.length<=50)(hs:∀s∈c,Shn s)(ha:ShC a)(hy:ShC y):pU 24 [bR c,aj a,aj y] (.int .i64 (rfR c a y)):=by
 refine pO PD ?_;simp only[b24,aH];have hp:=Gp c a y hl hs ha hy;have hal:a.length<=17592186044416:=ha.1;have hyl2:y.length<=17592186044416:=hy.1;unfold rfR;by_cases he:(er c a y).2.2=0
 rotate_left
 ·have z0:decide ((er c a y).2.2≠(0:Int))=true:=aM he;rw[if_pos he];refine wnY (zI3 @z0 @ai @af) ?_;exact .int _ _
 obtain⟨v,w,hv,hw,-⟩:=iI he;obtain⟨hc,hca,-⟩:=cR hv;obtain⟨-,hcy,-⟩:=cR hw;have ny:y.Nodup:=bO.nodup iC (dP hcy).2.2.1;have hcm:=vQ a y ha hy ny;have hcl:=FE (a:=a) (b:=y);rw[if_neg (λq=>q he)];rw[he] at hp;have z0:decide ((0:Int)≠0)=false:=rfl
 have cm0:y=[]->cmN a y=0:=λe=>by
  subst e;unfold cmN;rw[DI.2 λs _ q=>by simp at q];rfl
 have cm1:a=[]->cmN a y=0:=λe=>by subst e;rfl
 have hr2:=NY (cmN a y);generalize cmN a y=m at *;by_cases h1:a=[]
 ·have z1:decide ((0:Int)<a.length)=false:=by rw[h1];rfl
  have hm0:=cm1 h1;have z4:decide (((m%2:Nat):Int)=0)=true:=aM (by omega);rw[if_neg (λq=>q.1 h1),if_pos (by omega)];refine wnY (zI7 @z0 @z1 @z4 @hr2 @ai @af @ae) ?_;exact .int _ _
 have z1:decide ((0:Int)<a.length)=true:=aM (by have:=f8.2 h1;omega);by_cases h2:y=[]
 ·have z2:decide ((0:Int)<y.length)=false:=by rw[h2];rfl
  have hm0:=cm0 h2;have z4:decide (((m%2:Nat):Int)=0)=true:=aM (by omega);rw[if_neg (λq=>q.2.1 h2),if_pos (by omega)];refine wnY (zI8 @z0 @z1 @z2 @z4 @hr2 @ai @af @ae) ?_;exact .int _ _
 have z2:decide ((0:Int)<y.length)=true:=aM (by have:=f8.2 h2;omega);have ix:=rV h1;have iy:=rV h2;have hsa:=ha.2 _ (ar (f8.2 h1));have hst:=bX ((dP hcy).2.1 _ (ar (f8.2 h2)));unfold a9;generalize a.getD 0 default=s at *;generalize y.getD 0 default=t at *;have hsa':s.length<=17592186044416:=hsa;by_cases h3:t.length=s.length
 rotate_left
 ·have z3:decide ((t.length:Int)≠(s.length:Int))=true:=aM (by omega);rw[if_pos ⟨h1,h2,h3⟩];refine wnY (jT @z0 @z1 @z2 @z3 @ix @iy @ai @af @ae @ap) ?_;exact .int _ _
 have z3:decide ((t.length:Int)≠(s.length:Int))=false:=aQ (by omega);rw[if_neg (λq=>q.2.2 h3)];by_cases h4:m%2=0
 ·have z4:decide (((m%2:Nat):Int)=0)=true:=aM (by omega);rw[if_pos h4];refine wnY (aI @z0 (aI @z1 (jT @z2 @z3 @z4 @hr2 @ix @iy @ai @af @ae @ap))) ?_;exact .int _ _
 have z4:decide (((m%2:Nat):Int)=0)=false:=aQ (by omega);rw[if_neg h4];obtain⟨p1,p2,p3,p4⟩:=di hc;have h8:∀s∈c,s.length<=8:=λs h=>(bX (p2 s h)).2.1;have hX:=qZ c (t.length+1) hl h8 (by have:=hst.2.1;omega);rw[show((t.length+1:Nat):Int)=(t.length:Int)+1 by omega,<-nT] at hX;have hXl:=cl hc hl (d:=(t.length:Int)+1);have hXs:=dG (d:=(t.length:Int)+1) hc;have ht8:=hst.2.1;generalize am c ((t.length:Int)+1)=X at *;refine wkY (aI @z0 (aI @z1 (jT @z2 @z3 @z4 @hr2 @ix @iy @ai @af @ae @ap))) ?_;clear ix iy hr2 hcm hp;refine lpI (X:=Nat) (λk=>[(2,aj y),(8,aj X),(9,.int .i64 k)]) (λk H nx=>k<=X.length/\∀i,i<k->cmN (bi (X.getD i default)) y%2≠1) (λk=>X.length-k) 0 ⟨bC _,λi h=>absurd h (by omega)⟩ ?_;rintro k H nx ⟨k1,k2⟩;by_cases hk:k<X.length
 rotate_left
 ·obtain rfl:k=X.length:=by omega
  have hany:(X.any λs=>decide (cmN (bi s) y%2=1))=false:=nW λi hi=>aQ (k2 i hi);rw[hany,if_neg (by decide)];refine wnY @ae ?_;exact .int _ _
 have ix:=dC hk;have hsk:=bX (hXs _ (ar hk));have hfc:=Ak (X.getD k default) hsk.2.1;have hfl:=uE (s:=X.getD k default)
 have hfs:ShC (bi (X.getD k default)):=⟨show _ ≤ _ by omega,fun f hf=>by
  have:=(fx.1 hf).2.2;show _<=_;omega⟩
 have hcm:=vQ _ y hfs hy ny;have hcl2:=FE (a:=bi (X.getD k default)) (b:=y);have hr3:=NY (cmN (bi (X.getD k default)) y);by_cases hodd:cmN (bi (X.getD k default)) y%2=1
 ·have hany:(X.any λs=>decide (cmN (bi s) y%2=1))=true:=FX hk (aM hodd);have z5:decide (((cmN (bi (X.getD k default)) y%2:Nat):Int)=1)=true:=aM (by omega);rw[hany,if_pos rfl];generalize hcmN:cmN (bi (X.getD k default)) y=m2 at *;generalize bi (X.getD k default)=f at *;generalize X.getD k default=u at *;refine wnY (zI4 @z5 @hr3 @ix @ae) ?_;exact .int _ _
 ·have z5:decide (((cmN (bi (X.getD k default)) y%2:Nat):Int)=1)=false:=aQ (by omega)
  have k3:∀i,i<k+1->cmN (bi (X.getD i default)) y%2≠1:=λi hi=>by
   rcases(by omega:i<k\/i=k) with h|rfl
   ·exact k2 i h
   ·exact hodd
  generalize hcmN:cmN (bi (X.getD k default)) y=m2 at *;generalize bi (X.getD k default)=f at *;generalize X.getD k default=u at *;refine wnY (zI4 @z5 @hr3 @ix @ae) ?_;exact⟨k+1,by omega,⟨by omega,k3⟩,ag0⟩
theorem IZ(c:Int)(E:List (List Int))(q:Int)(hl:E.length<=100000)(hn:∀r∈E,r≠[]):pU 107 [dh c E,.int .i64 q] (.bool (decide (q∈E.map ld))):=by
 refine pO MF ?_;simp only[MN,aH];rw[cu];refine wnY @bQ ?_;refine lpI (X:=Nat) (λk=>[(1,.int .i64 q),(2,.ptr 0 2 0),(5,.int .i64 k)]) (λk H nx=>k<=E.length/\(∀i,i<k->ld (E.getD i default)≠q)/\H 0=some [.int .i64 c,br E]) (λk=>E.length-k) 0 ⟨bC _,λi h=>absurd h (by omega),rfl⟩ ?_;rintro k H nx ⟨h1,h2,g0⟩;by_cases hk:k<E.length
 ·have ix:=vI hk;have hm:=ar hk;have ix0:=Ea (hn _ hm);by_cases hv:ld (E.getD k default)=q
  ·have z:decide (ld (E.getD k default)=q)=true:=aM hv;rw[aM (show q∈E.map ld by rw[<-hv];exact List.mem_map_of_mem hm)];refine wnY (zI5 @g0 @bQ @ix @ix0 @z) ?_;exact .bool _
  ·have z:decide (ld (E.getD k default)=q)=false:=aQ hv;refine wnY (zI5 @g0 @bQ @ix @ix0 @z) ?_
   exact ⟨k + 1,by omega,⟨by omega,fun i hi=>by
    rcases(by omega:i<k\/i=k) with h|rfl
    ·exact h2 i h
    ·exact hv,g0⟩,ag0⟩
 ·obtain rfl:k=E.length:=by omega
  rw [aQ fun hm=>by
   obtain⟨r,hr,e⟩:=bE.1 hm;obtain⟨i,hi,rfl⟩:=mB hr;exact h2 i hi e]
  refine wnY (aI @g0 @bQ) ?_;exact .bool _
theorem BB(c:Nat)(R:List (List Int))(b:List Int)(hm:fZ c R)(hc:c<4096)(hb:b.length<=100000):pU 120 [dh c R,aD b] (.tup [aD (slT R c b).1,.bool (slT R c b).2]):=by
 refine pO KY ?_;simp only[NJ,aH];have hW:=HW (b:=b) hm hc;have hre:=EI _ _ hW;obtain⟨e1,e2,e3,e4⟩:=xK hW;rw[<-pt (eu hW) (lz hW)] at e1 e2 e3 e4;have hne:=e1.ne;have hrl:∀r∈pc (eU R c b) (c+1),r.length<=c+1:=λr hr=>d5 (e1.asc r hr) (e3 r hr);have hml:=hm.2.2.1;have hmr:=hm.2.2.2;unfold slT;have hWe:eU R c b=(List.range R.length).map (wdR R c b):=rfl;rw[cu,cu,show((c+1:Nat):Int)=(c:Int)+1 by omega] at hre;rw[cu];generalize pc (eU R c b) (c+1)=E at *;have hle:=λd=>IZ d E (c:Int) (by omega) hne;have hd1:Dat (.agg [.int .i64 ((c:Int)+1),br E]):=cV _ E;refine wnY and_self ?_;refine uo (X:=Nat×AV) (λx=>[(1,aD b),(2,.ptr 0 2 0),(6,.ptr 1 2 0),(7,.int .i64 x.1)]) (λx H nx=>x.1<=R.length/\2<=nx/\H 0=some [.int .i64 c,br R]/\H 1=some [.int .i64 ((c:Int)+1),x.2]/\Row H 1 x.2 ((List.range x.1).map λj=>aD (wdR R c b j))/\∀b,bz x.2=some b->2<=b/\b<nx) (λx=>R.length-x.1) (0,.esl) ⟨bN,_,Fz.none,⟨bC _,aP _,rfl,rfl,Row.nil,λb h=>(by cases h)⟩,.inl rfl,.inl rfl,.inl rfl,.inl rfl,trivial⟩ ?_;rintro⟨i,sv⟩ H nx ⟨h1,h2,g0,g1,hrow,hbd⟩;dsimp only at h1 g1 hrow hbd |-;obtain⟨o1,o2⟩:=hrow.one;by_cases hi:i<R.length
 rotate_left
 ·obtain rfl:i=R.length:=by omega
  rw[show((List.range R.length).map λj=>aD (wdR R c b j))=(eU R c b).map aD by rw[hWe,List.map_map];rfl] at hrow;have hls:=(hrow.lenS (n:=R.length) (by rw[bo,hWe,bo,List.length_range,Nat.mul_one]) ke)
  refine wnY (zI5 @g0 @g1 @bQ @o1 @o2) ?_;refine bh ev0 ev0 (O5 hre hrow) ?_;rintro _ H1 _ ⟨rfl,rfl,hs1⟩;have g0a:H1 0=some [.int .i64 c,br R]:=(hs1 0 λe=>by have:=hbd 0 e;omega).trans g0;have g0':ay H1 nx [.int .i64 ((c:Int)+1),br E] 0=some [.int .i64 c,br R]:=by rw[ac (by omega)];exact g0a
  have hlq:=hle ((c:Int)+1);rw[cu] at hlq;by_cases hli:(c:Int)∈E.map ld
  ·rw[aM hli] at hlq;rw[if_pos hli];refine wnY (aI @g0a @g0') ?_;exact bt (ag (.eslsl 1) (ag (.bool _) ak))
  rw[aQ hli] at hlq;rw[if_neg hli];refine wnY (aI @g0a @g0') ?_;refine lpI (X:=Nat×AV) (λx=>[(2,.ptr 0 2 0),(9,.ptr nx 2 0),(10,x.2),(11,.int .i64 x.1)]) (λx H' nx'=>x.1<=E.length/\nx<nx'/\H' 0=some [.int .i64 c,br R]/\H' nx=some [.int .i64 ((c:Int)+1),br E]/\Row H' 1 x.2 ((slF E c x.1).map (AV.int .i64))/\∀b,bz x.2=some b->nx<b/\b<nx') (λx=>E.length-x.1) (0,.esl) ⟨bC _,by omega,by rw[ac (by omega),ac (by omega)];exact g0a,by rw[ah];rfl,Row.nil,λb h=>(by cases h)⟩ ?_;clear g0' g0a g0 g1 hrow hbd o1 o2 hs1;rintro⟨k,xv⟩ H' nx' ⟨k1,k2,g0,g9,krow,kbd⟩;dsimp only at k1 k2 g0 g9 krow kbd |-;by_cases hk:k<E.length
  rotate_left
  ·obtain rfl:k=E.length:=by omega
   obtain⟨q1,q2⟩:=krow.one;refine wnY (zI4 @g9 @bQ @q1 @q2) ?_;exact bt (ag krow.snapI (ag (.bool _) ak))
  have ix:=vI hk;have hm2:=ar hk;have hh:=xI (E.getD k default) c (by have:=hrl _ hm2;omega);have ix0:=Ea (hne _ hm2);have hks:=Fu (c:=c) hk;have hkl:=Hs (E:=E) (c:=c) (k:=k);generalize E.getD k default=r at *;by_cases he2:(c:Int)∈r
  ·rw[aM he2] at hh;rw[if_pos he2] at hks;refine wkY (zI5 @bQ @ix @ix0 @g0 @g9) ?_;refine eR (krow.same λb hb=>?_) ?_
   ·have:=kbd b hb;rw[ac (by omega)]
   rintro r2 H2 nx2 hr2 i1 i2 i3 i4;have lo:∀x,x<=nx->H2 x=H' x:=λx x1=>(i3 x (by omega) (λh=>by have:=kbd _ h;omega)).trans (ac (by omega));refine wnY and_self ?_;refine⟨(k+1,r2),by dsimp only;omega,⟨by dsimp only;omega,by omega,(lo 0 (by omega)).trans g0,(lo nx (by omega)).trans g9,?_,λb hb=>?_⟩,ag0⟩
   ·dsimp only;rw[hks,cA];exact hr2
   ·rcases i4 b hb with h|h
    ·have:=kbd b h;omega
    ·omega
  ·rw[aQ he2] at hh;rw[if_neg he2,fR] at hks;refine wkY (zI4 @bQ @ix @g0 @g9) ?_;exact⟨(k+1,xv),by dsimp only;omega,⟨by dsimp only;omega,k2,g0,g9,by dsimp only;rw[hks];exact krow,kbd⟩,ag0⟩
 have ix:=vI hi;have hrl2:=(hmr _ (ar hi)).2.1;have hh:=xI b (i:Int) (by omega);have hwd:wdR R c b i=if (i:Int)∈b then R.getD i default++[(c:Int)] else R.getD i default:=rfl
 generalize R.getD i default=r at *;by_cases hib:(i:Int)∈b
 ·rw[aM hib] at hh;rw[if_pos hib] at hwd;refine wnY (zI3 @g0 @bQ @ix) ?_;have hR0:Row (ay H nx (r.map (AV.int .i64))) 1 (.msl nx r.length 1 0 r.length) (r.map (AV.int .i64)):=by simpa only[Nat.mul_one] using Row.box (sz:=1) nx r.length (r.map (AV.int .i64)) ah (by rw[bo,Nat.mul_one])
  refine eR (hR0.same λb hb=>?_) ?_
  ·cases hb;rw[ac (by omega)]
  rintro r2 H2 nx2 hr2 i1 i2 i3 i4;have hrl3:Row H2 1 r2 ((wdR R c b i).map (AV.int .i64)):=by rw[hwd,cA];exact hr2
  have hbr:∀b,bz r2=some b->nx<=b/\b<nx2:=λb hb=>by
   rcases i4 b hb with h|h
   ·cases h;omega
   ·omega
  have lo1:∀y,y<nx->H2 y=H y:=λy hy=>(i3 y (by omega) (λh=>by cases h;omega)).trans (by rw[ac (by omega),ac (by omega)]);have g1':=(lo1 1 (by omega)).trans g1;have hrw1:Row H2 1 sv ((List.range i).map λj=>aD (wdR R c b j)):=hrow.same λb hb=>lo1 b (hbd b hb).2;obtain⟨o3,o4⟩:=hrl3.one;refine wnY (zI3 @g1' @o3 @o4) ?_;refine hZ rfl ev0 (hrw1.same λb hb=>?_) ev0 ed (by simp[AV.ones,o3]) rfl ke (by simp;omega) (by simp;omega) ?_
  ·have:=hbd b hb;rw[ac (by omega)]
  rintro s3 H3 nx3 hr3 j1 j2 j3 j4;have lo3:∀x,x<nx2->bz sv≠some x->H3 x=H2 x:=λx x1 x2=>(j3 x (by omega) x2).trans (ac (by omega));have g13:H3 1=some [.int .i64 ((c:Int)+1),sv]:=(lo3 1 (by omega) (λh=>by have:=hbd _ h;omega)).trans g1';obtain⟨o5,o6⟩:=hr3.one;have kr3:Row H3 1 r2 ((wdR R c b i).map (AV.int .i64)):=hrl3.same λb hb=>lo3 b (hbr b hb).2 (λh=>by have:=hbd b h;have:=hbr b hb;omega)
  have hb3:∀b,bz s3=some b->2<=b/\b<nx3/\bz r2≠some b:=λb hb=>by
   rcases j4 b hb with h|h
   ·have:=hbd b h;exact⟨by omega,by omega,λe=>by have:=hbr b e;omega⟩
   ·exact⟨by omega,by omega,λe=>by have:=hbr b e;omega⟩
  refine wnY (zI3 @g13 @o5 @o6) ?_;obtain⟨Hf,H5,hfz,hr5,hs5⟩:=px (H:=ay H3 1 (bJ [.int .i64 ((c:Int)+1),sv] 1 [s3])) (hr3.same λb hb=>ac (by have:=hb3 b hb;omega)) (kr3.same λb hb=>ac (by have:=hbr b hb;omega)) (λb hb e=>(hb3 b e).2.2 hb);have hlow:∀x,x<2->H5 x=ay H3 1 (bJ [.int .i64 ((c:Int)+1),sv] 1 [s3]) x:=λx hx=>hs5 x (λe=>by have:=hbr x e;omega) (λe=>by have:=hb3 x e;omega);refine⟨(i+1,s3),by dsimp only;omega,Hf,H5,hfz,⟨by dsimp only;omega,by omega,?_,?_,?_,λb hb=>?_⟩,gK ag0⟩
  ·rw[hlow 0 (by omega),ac (by omega),lo3 0 (by omega) (λh=>by have:=hbd _ h;omega),lo1 0 (by omega)];exact g0
  ·rw[hlow 1 (by omega),ah];rfl
  ·dsimp only;rw[List.range_succ,cA];exact hr5
  ·have:=hb3 b hb;omega
 ·rw[aQ hib] at hh;rw[if_neg hib] at hwd;refine wnY (zI3 @g0 @bQ @ix) ?_;have hR0:Row (ay H nx (r.map (AV.int .i64))) 1 (.msl nx r.length 1 0 r.length) (r.map (AV.int .i64)):=by simpa only[Nat.mul_one] using Row.box (sz:=1) nx r.length (r.map (AV.int .i64)) ah (by rw[bo,Nat.mul_one])
  have hrl3:Row (ay H nx (r.map (AV.int .i64))) 1 (.msl nx r.length 1 0 r.length) ((wdR R c b i).map (AV.int .i64)):=by rw[hwd];exact hR0
  have hbr:∀b,bz (.msl nx r.length 1 0 r.length)=some b->nx<=b/\b<(nx+1):=λb hb=>by cases hb;omega
  have lo1:∀y,y<nx->(ay H nx (r.map (AV.int .i64))) y=H y:=λy hy=>ac (by omega);have g1':=(lo1 1 (by omega)).trans g1;have hrw1:Row (ay H nx (r.map (AV.int .i64))) 1 sv ((List.range i).map λj=>aD (wdR R c b j)):=hrow.same λb hb=>lo1 b (hbd b hb).2;obtain⟨o3,o4⟩:=hrl3.one;refine wnY (zI4 @g1 @g1' @o3 @o4) ?_;refine hZ rfl ev0 (hrw1.same λb hb=>?_) ev0 ed (by simp[AV.ones,o3]) rfl ke (by simp;omega) (by simp;omega) ?_
  ·have:=hbd b hb;rw[ac (by omega)]
  rintro s3 H3 nx3 hr3 j1 j2 j3 j4;have lo3:∀x,x<(nx+1)->bz sv≠some x->H3 x=(ay H nx (r.map (AV.int .i64))) x:=λx x1 x2=>(j3 x (by omega) x2).trans (ac (by omega));have g13:H3 1=some [.int .i64 ((c:Int)+1),sv]:=(lo3 1 (by omega) (λh=>by have:=hbd _ h;omega)).trans g1';obtain⟨o5,o6⟩:=hr3.one;have kr3:Row H3 1 (.msl nx r.length 1 0 r.length) ((wdR R c b i).map (AV.int .i64)):=hrl3.same λb hb=>lo3 b (hbr b hb).2 (λh=>by have:=hbd b h;have:=hbr b hb;omega)
  have hb3:∀b,bz s3=some b->2<=b/\b<nx3/\bz (.msl nx r.length 1 0 r.length)≠some b:=λb hb=>by
   rcases j4 b hb with h|h
   ·have:=hbd b h;exact⟨by omega,by omega,λe=>by have:=hbr b e;omega⟩
   ·exact⟨by omega,by omega,λe=>by have:=hbr b e;omega⟩
  refine wnY (zI3 @g13 @o5 @o6) ?_;obtain⟨Hf,H5,hfz,hr5,hs5⟩:=px (H:=ay H3 1 (bJ [.int .i64 ((c:Int)+1),sv] 1 [s3])) (hr3.same λb hb=>ac (by have:=hb3 b hb;omega)) (kr3.same λb hb=>ac (by have:=hbr b hb;omega)) (λb hb e=>(hb3 b e).2.2 hb);have hlow:∀x,x<2->H5 x=ay H3 1 (bJ [.int .i64 ((c:Int)+1),sv] 1 [s3]) x:=λx hx=>hs5 x (λe=>by have:=hbr x e;omega) (λe=>by have:=hb3 x e;omega);refine⟨(i+1,s3),by dsimp only;omega,Hf,H5,hfz,⟨by dsimp only;omega,by omega,?_,?_,?_,λb hb=>?_⟩,gK ag0⟩
  ·rw[hlow 0 (by omega),ac (by omega),lo3 0 (by omega) (λh=>by have:=hbd _ h;omega),lo1 0 (by omega)];exact g0
  ·rw[hlow 1 (by omega),ah];rfl
  ·dsimp only;rw[List.range_succ,cA];exact hr5
  ·have:=hb3 b hb;omega
theorem Em(c a:List Spx)(v:List Int)(hc:aA c=0)(hl:c.length<=50)(ha:ShC a)(h0:a≠[])(hv:dF c a=(v,0)):pU 62 [bR c,aj a] (.tup [aj (if (kp (ca (am c ((a9 a:Int)+1)) (am c (a9 a))) (am c ((a9 a:Int)+1)).length v).2.2=true then cf (am c ((a9 a:Int)+1)) (kp (ca (am c ((a9 a:Int)+1)) (am c (a9 a))) (am c ((a9 a:Int)+1)).length v).1 else []),.bool (kp (ca (am c ((a9 a:Int)+1)) (am c (a9 a))) (am c ((a9 a:Int)+1)).length v).2.2]):=by
 refine pO OA ?_;simp only[b62,aH];obtain⟨p1,p2,p3,p4⟩:=di hc;have h8:∀s∈c,s.length<=8:=λs h=>(bX (p2 s h)).2.1;obtain⟨-,hca,hvp,hin,va,vr⟩:=cR hv;have ix:=rV h0;have hsa:=(bX ((dP hca).2.1 _ (ar (f8.2 h0))))
 have hall:(a.all λs=>decide (s∈am c (a9 a)))=true:=ey.2 λs hs=>aM (hin s hs);have hal:=(dP hca).1;unfold a9 at *;generalize a.getD 0 default=s at *;obtain⟨d,hd⟩:∃d,s.length=d+1:=⟨s.length-1,by omega⟩
 have hsl:s.length<=8:=hsa.2.1;have hX:=qZ c (d+2) hl h8 (by omega);have hY:=qZ c (d+1) hl h8 (by omega);have hed:=EZ c (d+1) hc hl (by omega);rw[show((d+1:Nat):Int)=(d:Int)+1 by omega] at hY hed;rw[show((s.length:Nat):Int)=(d:Int)+1 by omega] at hall hvp vr |-;have e1:((d+2:Nat):Int)=(d:Int)+2:=by omega
 have e2:am c ((d:Int)+1)=gj c (d+1):=nT
 have e3:am c ((d:Int)+1+1)=gj c (d+2):=by
  have:=nT (c:=c) (n:=d+1);rw[show((d+1:Nat):Int)=(d:Int)+1 by omega] at this;exact this
 rw[e1,<-e3] at hX;rw[<-e2] at hY;have hXl:=cl hc hl (d:=(d:Int)+1+1);have hYl:=cl hc hl (d:=(d:Int)+1);have hXs:=dG (d:=(d:Int)+1+1) hc;have hYs:=dG (d:=(d:Int)+1) hc;have hYn:(am c ((d:Int)+1)).Nodup:=bO.nodup iC gG;have hpo:=rZ (am c ((d:Int)+1)) a (show _<=_ by omega) (jK hYs) hYn (by omega) ha.2;rw[hall,if_pos rfl,<-hvp] at hpo;have hmv:=jt (X:=am c ((d:Int)+1+1)) (Y:=am c ((d:Int)+1)) (by omega) (by omega);have hvl:=d5 va vr;have hso:=BB _ _ v hmv (by omega) (by omega);rw[KM hmv va] at hso
 have hxr:∀z∈(kp (ca (am c ((d:Int)+1+1)) (am c ((d:Int)+1))) (am c ((d:Int)+1+1)).length v).1,0<=z/\z<((am c ((d:Int)+1+1)).length:Int):=λz hz=>by
  rcases lf hmv va with⟨x,k1,k2,k3,k4,k5,k6⟩|⟨y,k1,k2,k3,k4,k5⟩
  ·rw[k1] at hz;exact k4 z hz
  ·rw[k1] at hz;exact by cases hz
 have hxa:bj (kp (ca (am c ((d:Int)+1+1)) (am c ((d:Int)+1))) (am c ((d:Int)+1+1)).length v).1:=by
  rcases lf hmv va with⟨x,k1,k2,k3,k4,k5,k6⟩|⟨y,k1,k2,k3,k4,k5⟩
  ·rw[k1];exact k3
  ·rw[k1];exact od
 have hchn:=GY (am c ((d:Int)+1+1)) _ (by omega) (by have:=d5 hxa hxr;omega) hxr;have hd1:Dat (dh (am c ((d:Int)+1+1)).length (ca (am c ((d:Int)+1+1)) (am c ((d:Int)+1)))):=cV _ _;clear hvp hall hin;generalize kp (ca (am c ((d:Int)+1+1)) (am c ((d:Int)+1))) (am c ((d:Int)+1+1)).length v=P at *;obtain⟨x,y,ok⟩:=P;dsimp only at *;rw[cu] at hed hso hd1;generalize ca (am c ((d:Int)+1+1)) (am c ((d:Int)+1))=R at *;generalize am c ((d:Int)+1+1)=X at *;generalize am c ((d:Int)+1)=Y at *;cases ok
 ·rw[if_neg (by decide)];refine wnY (zI8 @ix @hd @ai @af @ap @Int.natCast_add @Int.natCast_one @Int.add_sub_cancel) ?_;exact bt (ag (.eslsl 1) (ag (.bool _) ak))
 ·rw[if_pos rfl];refine wnY (zI8 @ix @hd @ai @af @ap @Int.natCast_add @Int.natCast_one @Int.add_sub_cancel) ?_;exact bt (ag (bm _).snap (ag (.bool _) ak))
theorem Bj(c a:List Spx)(hl:c.length<=50)(hs:∀s∈c,Shn s)(ha:ShC a):pU 22 [bR c,aj a] (.tup [aj (kf c a).1,.bool (kf c a).2.2.1,.int .i64 (kf c a).2.2.2]):=by
 refine pO O9 ?_;simp only[b22,aH];have hch:=rR c hl hs;have hvr:=FG c a hl hs ha;have hvf:=λv=>cR (c:=c) (a:=a) (v:=v);have hal:a.length<=17592186044416:=ha.1;have z0:decide ((0:Int)≠0)=false:=rfl;have fin0:∀{H:Hp}{f:Int},Snap H (.tup [.esl,.bool false,.int .i64 f]) (.tup [aj [],.bool false,.int .i64 f]):=bt (ag (.eslsl 1) (ag (.bool _) (ag (.int _ _) ak)));by_cases hc:aA c=0
 rotate_left
 ·have hce:dF c a=([],aA c):=by unfold dF;rw[if_pos hc]
  have hb:kf c a=([],[],false,aA c):=by unfold kf cyH;rw[hce];dsimp only;rw[if_pos hc,if_pos hc]
  rw[hb];have z1:decide (aA c≠(0:Int))=true:=aM hc;refine wnY (zI3 @z1 @ai @af) ?_;exact fin0
 rw[hc] at hch;have hso:=λv h0 hv=>Em c a v hc hl ha h0 hv;unfold kf cyH;generalize hva:dF c a=p at *;obtain⟨v,e⟩:=p;dsimp only at *;by_cases he:e=0
 rotate_left
 ·have z1:decide (e≠(0:Int))=true:=aM he;simp only[if_pos he];refine wnY (zI4 @z0 @z1 @ai @af) ?_;exact fin0
 subst he;obtain⟨-,hca,-,-,-,-⟩:=hvf v rfl;have hed:=HT a (dP hca).1 (wt (dP hca).2.1) (fw (dP hca).2.1);simp only[ne_eq,not_true_eq_false,↓reduceIte];by_cases h3:bI a=[]
 rotate_left
 ·have z3:decide ((0:Int)<(bI a).length)=true:=aM (by have:=f8.2 h3;omega);simp only[if_neg h3];generalize bI a=g at *;refine wnY (zI5 @z0 @z3 @ai @af @ae) ?_;exact fin0
 have z3:decide ((0:Int)<(bI a).length)=false:=by rw[h3];rfl
 simp only[if_pos h3];generalize bI a=g at *;by_cases h1:a=[]
 ·have z1:decide ((a.length:Int)=0)=true:=by rw[h1];rfl
  simp only[not_true_eq_false,↓reduceIte,if_pos h1];refine wnY (zI6 @z0 @z1 @z3 @ai @af @ae) ?_;exact bt (ag (.eslsl 1) (ag (.bool _) (ag (.int _ _) ak)))
 have z1:decide ((a.length:Int)=0)=false:=aQ (by have:=f8.2 h1;omega);simp only[not_true_eq_false,↓reduceIte,if_neg h1];have hs1:=hso v h1 rfl;generalize kp (ca (am c ((a9 a:Int)+1)) (am c (a9 a))) (am c ((a9 a:Int)+1)).length v=P at *;obtain⟨x,y,ok⟩:=P;dsimp only at hs1 |-;cases ok
 ·rw[if_neg (by decide)] at hs1 |-;refine wnY (zI6 @z0 @z1 @z3 @ai @af @ae) ?_;exact bt (ag (bm _).snap (ag (.bool _) (ag (.int _ _) ak)))
 ·rw[if_pos rfl] at hs1 |-;refine wnY (zI6 @z0 @z1 @z3 @ai @af @ae) ?_;exact bt (ag (bm _).snap (ag (.bool _) (ag (.int _ _) ak)))
theorem oI(l:List Int)(hl:l.length<=1000):PureF Tryz.prog 42 [aD l] (aB (ee l)):=by
 refine qO Pt ?_;simp only[b42,aH];refine wnY and_self ?_;refine bZ (X:=AV×Nat) (λx=>[(3,x.1),(6,aD l),(7,.int .i64 l.length),(8,.int .i64 x.2)]) (λx H nx=>x.2<=l.length/\Row H 2 x.1 (cX (ee (l.take x.2)))/\∀b,bz x.1=some b->b<nx) (λx=>l.length-x.2) (.esl,0) ⟨bC _,Row.nil,λb hb=>(by cases hb)⟩ ag0 ?_;rintro⟨sv,k⟩ H nx ⟨k1,k3,k4⟩;dsimp only at k1 k3 k4 |-;by_cases hk:k<l.length
 rotate_left
 ·rw[fP (by omega)] at k3;refine wnY and_self ?_;exact sr k3
 have ix:=ixV hk;have hpt:=Er hk;have hcl:(cX (ee (l.take k))).length=k*2:=by rw[iu];unfold ee;rw[bo,fy];omega
 refine wnY @ix ?_;refine eR (k3.same λb hb=>?_) ?_
 ·have:=k4 b hb;rw[ac (by omega)]
 rintro s2 E e hrow hle1 hle2 hsame hb2;refine wnY and_self ?_;refine⟨(s2,k+1),by dsimp only;omega,⟨by dsimp only;omega,?_,λb hb=>?_⟩,ag0⟩
 ·dsimp only;rw[hpt,nw];exact hrow
 ·rcases hb2 b hb with h|h
  ·have:=k4 b h;omega
  ·omega
theorem sH:pU 12 [] (.bool true):=by
 refine pO Pp ?_;simp only[b12,aH];have o01:PureF Tryz.prog 42 [aD [0,1]] (aB (ee [0,1])):=oI _ (by decide);have o02:PureF Tryz.prog 42 [aD [0,2]] (aB (ee [0,2])):=oI _ (by decide);have o12:PureF Tryz.prog 42 [aD [1,2]] (aB (ee [1,2])):=oI _ (by decide);have o012:PureF Tryz.prog 42 [aD [0,1,2]] (aB (ee [0,1,2])):=oI _ (by decide);have o013:PureF Tryz.prog 42 [aD [0,1,3]] (aB (ee [0,1,3])):=oI _ (by decide);have o023:PureF Tryz.prog 42 [aD [0,2,3]] (aB (ee [0,2,3])):=oI _ (by decide);have o123:PureF Tryz.prog 42 [aD [1,2,3]] (aB (ee [1,2,3])):=oI _ (by decide);have zz:=aI @aY (aI @aJ (aI @ai @af));repeat' (first|refine zW ?_|apply a_n|refine zO ?_|refine vZ ?_|refine blZ ?_|fail)
 refine gg ev0 ev0 o01 (ag (ew (n:=2) (len:=2) (l:=[0,1]) (by exact rfl) rfl rfl) ak) ?_;clear zz;have zz:=aI @aY (aI @aJ (aI @ai @af));repeat' (first|apply a_n|refine zO ?_|refine blZ ?_|fail)
 refine gg ev0 ev0 o02 (ag (ew (n:=2) (len:=2) (l:=[0,2]) (by exact rfl) rfl rfl) ak) ?_;clear zz;have zz:=aI @aY (aI @aJ (aI @ai @af));repeat' (first|apply a_n|refine zO ?_|refine blZ ?_|fail)
 refine gg ev0 ev0 o12 (ag (ew (n:=2) (len:=2) (l:=[1,2]) (by exact rfl) rfl rfl) ak) ?_;clear zz;have zz:=aI @aY (aI @aJ (aI @ai @af));repeat' (first|refine zW ?_|apply a_n|refine zO ?_|refine vZ ?_|refine blZ ?_|fail)
 refine gg ev0 ev0 o012 (ag (ew (n:=3) (len:=3) (l:=[0,1,2]) (by exact rfl) rfl rfl) ak) ?_;clear zz;have zz:=aI @aY (aI @aJ (aI @ai @af));repeat' (first|refine zW ?_|apply a_n|refine zO ?_|refine vZ ?_|refine alZ ?_|refine stZ ?_|refine blZ ?_|fail)
 refine gg ev0 ev0 o012 (ag (ew (n:=3) (len:=3) (l:=[0,1,2]) (by exact rfl) rfl rfl) ak) ?_;clear zz;have zz:=aI @aY (aI @aJ (aI @ai @af));repeat' (first|apply a_n|refine zO ?_|refine blZ ?_|fail)
 refine gg ev0 ev0 o013 (ag (ew (n:=3) (len:=3) (l:=[0,1,3]) (by exact rfl) rfl rfl) ak) ?_;clear zz;have zz:=aI @aY (aI @aJ (aI @ai @af));repeat' (first|apply a_n|refine zO ?_|refine blZ ?_|fail)
 refine gg ev0 ev0 o023 (ag (ew (n:=3) (len:=3) (l:=[0,2,3]) (by exact rfl) rfl rfl) ak) ?_;clear zz;have zz:=aI @aY (aI @aJ (aI @ai @af));repeat' (first|apply a_n|refine zO ?_|refine blZ ?_|fail)
 refine gg ev0 ev0 o123 (ag (ew (n:=3) (len:=3) (l:=[1,2,3]) (by exact rfl) rfl rfl) ak) ?_;clear zz;have zz:=aI @aY (aI @aJ (aI @ai @af));repeat' (first|apply a_n|refine zO ?_|refine vZ ?_|refine alZ ?_|refine stZ ?_|refine blZ ?_|fail)
 refine dQ ?_;refine qh (onL [(3,[aB (ee [0,1]),aB (ee [0,2]),aB (ee [1,2])]),(5,[aB (ee [0,1,2])]),(12,[aB (ee [0,1,2]),aB (ee [0,1,3]),aB (ee [0,2,3]),aB (ee [1,2,3])])]) _ [(1,aj dr),(2,.ptr 6 1 0),(3,.ptr 7 1 0),(4,.ptr 13 1 0)] (KF (l2:=[(6,.msl 3 3 1 0 3,aj dr),(7,.msl 5 1 1 0 1,aj hJ),(13,.msl 12 4 1 0 4,aj m8)]) ?_ ?_) ⟨.inr (pT (l:=dr) rfl rfl),.inl rfl,.inl rfl,.inl rfl,trivial⟩ ?_
 ·intro p hp;simp only[dt,List.not_mem_nil,or_false] at hp;rcases hp with rfl|rfl|rfl<;>exact rfl
 ·intro q hq;simp only[dt,List.not_mem_nil,or_false] at hq;rcases hq with rfl|rfl|rfl
  ·exact⟨rfl,rfl,pT (l:=dr) rfl rfl⟩
  ·exact⟨rfl,rfl,pT (l:=hJ) rfl rfl⟩
  ·exact⟨rfl,rfl,pT (l:=m8) rfl rfl⟩
 have h6:onL ([(6,AV.msl 3 3 1 0 3,aj dr),(7,.msl 5 1 1 0 1,aj hJ),(13,.msl 12 4 1 0 4,aj m8)].map λq=>(q.1,[q.2.2])) 6=some [aj dr]:=rfl;have h7:onL ([(6,AV.msl 3 3 1 0 3,aj dr),(7,.msl 5 1 1 0 1,aj hJ),(13,.msl 12 4 1 0 4,aj m8)].map λq=>(q.1,[q.2.2])) 7=some [aj hJ]:=rfl;have h13:onL ([(6,AV.msl 3 3 1 0 3,aj dr),(7,.msl 5 1 1 0 1,aj hJ),(13,.msl 12 4 1 0 4,aj m8)].map λq=>(q.1,[q.2.2])) 13=some [aj m8]:=rfl;generalize onL ([(6,AV.msl 3 3 1 0 3,aj dr),(7,.msl 5 1 1 0 1,aj hJ),(13,.msl 12 4 1 0 4,aj m8)].map λq=>(q.1,[q.2.2]))=HH at *;have sl2:kI 1 (aj dr) (some (.int .i64 2)) none none=some (aj [ee [1,2]]):=rfl;have lc1:dz (fS [dr])=some (.int .i64 1):=rfl;have z18:eF 1 (fS [dr]) (.int .i64 0)=some (.iptr [aj dr] 0):=rfl;have s1:=Ke dr Aw;have hce:∀c:List Spx,AV.agg [aj c]=bR c:=λ_=>rfl;clear zz;have zz:=aI @h6 (aI @h7 (aI @h13 (aI @sl2 (aI @lc1 (aI @z18 (aI @aY (aI @aJ (aI @ai @af))))))));repeat' (first|refine zW ?_|apply a_n|refine zO ?_|refine vZ ?_|refine cZ ?_ (hp:=by first|exact Fj|exact GW|exact G3|exact J5|exact J0|exact KO|exact F9|exact G9|exact Hi|exact GK|exact F4|exact FJ|exact CV|exact s1) (hs:=by(first|refine aG ?_ rfl|apply aW);(repeat' (first|exact ak|apply bv|apply aX|exact bm _|exact cQ _|exact ku _|exact cJ _));first|done|fail)|refine blZ ?_|refine gTZ ?_|(refine zGZ ?_ ?_<;>(intro _hg;try (exfalso;omega)))|fail)
 refine ez ev0 ev0 Mf (aG (ag (cJ _ _) (ag (ew (n:=2) (len:=2) (l:=[1,1]) (by exact rfl) rfl rfl) ak)) rfl) ?_;clear zz;have zz:=aI @h6 (aI @h7 (aI @h13 (aI @sl2 (aI @lc1 (aI @z18 (aI @aY (aI @aJ (aI @ai @af))))))));repeat' (first|apply a_n|refine zO ?_|refine vZ ?_|refine blZ ?_|refine gTZ ?_|fail)
 refine ez ev0 ev0 Lp (aG (ag (cJ _ _) (ag (ew (n:=3) (len:=3) (l:=[1,0,0]) (by exact rfl) rfl rfl) ak)) rfl) ?_;clear zz;have zz:=aI @h6 (aI @h7 (aI @h13 (aI @sl2 (aI @lc1 (aI @z18 (aI @aY (aI @aJ (aI @ai @af))))))));repeat' (first|apply a_n|refine zO ?_|refine vZ ?_|refine blZ ?_|refine gTZ ?_|fail)
 refine ez ev0 ev0 K9 (aG (ag (cJ _ _) (ag (ew (n:=3) (len:=3) (l:=[1,0,1]) (by exact rfl) rfl rfl) ak)) rfl) ?_;clear zz;have zz:=aI @h6 (aI @h7 (aI @h13 (aI @sl2 (aI @lc1 (aI @z18 (aI @aY (aI @aJ (aI @ai @af))))))));repeat' (first|refine zW ?_|apply a_n|refine zO ?_|refine vZ ?_|refine cZ ?_ (hp:=by first|exact Fj|exact GW|exact G3|exact J5|exact J0|exact KO|exact F9|exact G9|exact Hi|exact GK|exact F4|exact FJ|exact CV|exact s1) (hs:=by(first|refine aG ?_ rfl|apply aW);(repeat' (first|exact ak|apply bv|apply aX|exact bm _|exact cQ _|exact ku _|exact cJ _));first|done|fail)|refine blZ ?_|refine gTZ ?_|(refine zGZ ?_ ?_<;>(intro _hg;try (exfalso;omega)))|refine cFZ ?_|fail)
 refine gg ev0 ev0 o012 (ag (ew (n:=3) (len:=3) (l:=[0,1,2]) (by exact rfl) rfl rfl) ak) ?_;clear zz;have zz:=aI @h6 (aI @h7 (aI @h13 (aI @sl2 (aI @lc1 (aI @z18 (aI @aY (aI @aJ (aI @ai @af))))))));repeat' (first|apply a_n|refine zO ?_|refine blZ ?_|refine gTZ ?_|fail)
 refine ez ev0 ev0 (Ke hJ K2) (aG (ag (bm _ _) (ag (pT (b:=18) (n:=1) (l:=hJ) (by exact rfl) rfl) ak)) rfl) ?_;clear zz;have zz:=aI @h6 (aI @h7 (aI @h13 (aI @sl2 (aI @lc1 (aI @z18 (aI @aY (aI @aJ (aI @ai @af))))))));repeat' (first|refine zW ?_|apply a_n|refine zO ?_|refine vZ ?_|refine gTZ ?_|refine cFZ ?_|fail)
 try refine Go.Abs.w_mix1 ?_
 clear zz;have zz:=aI @h6 (aI @h7 (aI @h13 (aI @sl2 (aI @lc1 (aI @z18 (aI @aY (aI @aJ (aI @ai @af))))))));repeat' (first|apply a_n|refine zO ?_|refine vZ ?_|refine cZ ?_ (hp:=by first|exact Fj|exact GW|exact G3|exact J5|exact J0|exact KO|exact F9|exact G9|exact Hi|exact GK|exact F4|exact FJ|exact CV|exact s1) (hs:=by(first|refine aG ?_ rfl|apply aW);(repeat' (first|exact ak|apply bv|apply aX|exact bm _|exact cQ _|exact ku _|exact cJ _));first|done|fail)|refine gTZ ?_|(refine zGZ ?_ ?_<;>(intro _hg;try (exfalso;omega)))|fail)
 refine ez ev0 ev0 CV (aG (ag (cQ _ _) (ag (bm _ _) (ag (.eslsl 1) ak))) rfl) ?_
 repeat' (first|apply a_n|refine zO ?_|refine vZ ?_|refine gTZ ?_|refine b6 rfl ?_|refine r1Z ?_|fail)
 exact .bool _
def uh(c:List Spx)(l:List (List Spx)):Bool:=l.all vq&&(lI c&&decide (lJ c c.length<=400))
theorem IJ(c:List Spx)(l:List (List Spx))(hc:Shn c)(hs:∀s∈c,Shn s)(hl:Shn l)(ha:∀a∈l,ShC a):pU 11 [bR c,fS l] (.bool (uh c l)):=by
 refine pO O0 ?_;simp only[b11,aH];have hc':c.length<=17592186044416:=hc;have hl':l.length<=17592186044416:=hl;have f1:=Hw c hc hs;unfold uh;refine wnY (zI3 @ai @af @u9) ?_;refine lpI (X:=Nat) (λk=>[(2,.ptr 0 1 0),(10,fS l),(11,.int .i64 l.length),(12,.int .i64 k)]) (λk H nx=>k<=l.length/\H 0=some [aj c]/\∀i,i<k->vq (l.getD i default)=true) (λk=>l.length-k) 0 ⟨bC _,rfl,λi h=>absurd h (by omega)⟩ ?_;rintro k H nx ⟨k1,g0,k2⟩;by_cases hk:k<l.length
 ·have ix:=OV hk;have hf:=JC (l.getD k default) (ha _ (ar hk));cases hv:vq (l.getD k default)
  ·rw[il hk hv,Bool.false_and];rw[hv] at hf;generalize l.getD k default=a at *;refine wnY @ix ?_;exact .bool _
  ·rw[hv] at hf
   have k3:∀i,i<k+1->vq (l.getD i default)=true:=λi hi=>by
    rcases(by omega:i<k\/i=k) with h|rfl
    ·exact k2 i h
    ·exact hv
   generalize l.getD k default=a at *;refine wnY @ix ?_;exact⟨k+1,by omega,⟨by omega,g0,k3⟩,ag0⟩
 obtain rfl:k=l.length:=by omega
 rw[iU k2,Bool.true_and];refine wnY (aI @g0 @ae) ?_;clear k2 k1 hk;refine lpI (X:=Nat) (λk=>[(2,.ptr 0 1 0),(7,.int .i64 (lJ c k)),(21,aj c),(22,.int .i64 c.length),(23,.int .i64 k)]) (λk H nx=>k<=c.length/\H 0=some [aj c]) (λk=>c.length-k) 0 ⟨bC _,g0⟩ ?_;clear g0;rintro k H nx ⟨g1,g2⟩;have hb:=xW (c:=c) k;by_cases hk:k<c.length
 ·have ix:=dC hk;have hsl:(c.getD k default).length<=17592186044416:=hs _ (ar hk);have hb2:=xW (c:=c) (k+1);have hfs:lJ c (k+1)=lJ c k+2^min (c.getD k default).length 10:=rfl
  have hsh:∀tb tf,bw .shl tb tf (.int .i64 1) (.int .i64 (min ((c.getD k default).length:Int) 10))=some (.int .i64 ((2^min (c.getD k default).length 10:Nat):Int)):=λtb tf=>by
   have h1:min ((c.getD k default).length:Int) 10=((min (c.getD k default).length 10:Nat):Int):=by omega
   have h2:2^min (c.getD k default).length 10<=2^10:=Nat.pow_le_pow_right (by omega) (by omega);rw[h1];have:=CA (k:=.i64) (k':=.i64) (a:=1) (b:=min (c.getD k default).length 10) (tb:=tb) (tf:=tf) (by show _<=64;omega) (by show 1*_<2^63;omega);rw[Nat.one_mul] at this;exact this
  rw[hfs] at hb2;generalize 2^min (c.getD k default).length 10=P at *;generalize c.getD k default=s at *;have hce:((lJ c (k+1):Nat):Int)=(lJ c k:Int)+(P:Int):=by rw[hfs];omega
  refine wnY (zI3 @ix @ap @hsh) ?_;exact⟨k+1,by omega,⟨by omega,g2⟩,by rw[hce];simp (disch:=omega) only[agr,ZG,reduceEqDiff,↓reduceIte]⟩
 obtain rfl:k=c.length:=by omega
 cases e1:lI c
 ·rw[e1] at f1;rw[Bool.false_and];refine wnY (zI3 @g2 @ai @af) ?_;exact .bool _
 rw[e1] at f1;rw[Bool.true_and];by_cases h3:lJ c c.length<=400
 ·have z:decide ((lJ c c.length:Int)<=400)=true:=aM (by omega);rw[aM h3];refine wnY (zI4 @g2 @z @ai @af) ?_;exact .bool _
 ·have z:decide ((lJ c c.length:Int)<=400)=false:=aQ (by omega);rw[aQ h3];refine wnY (zI4 @g2 @z @ai @af) ?_;exact .bool _
theorem DV{c:List Spx}{l:List (List Spx)}(h:uh c l=true):(∀a∈l,vq a=true)/\c.length<=30/\lJ c c.length<=400:=by
 unfold uh at h;simp only[dT,f9] at h;exact⟨λa ha=>ey.1 h.1 a ha,(Br.1 h.2.1).1,h.2.2⟩
theorem Ex{H:Hp}{b:Nat}{x:List Spx}(h:H b=some [aj x]):Snap H (.msl b 1 1 0 1) (fS [x]):=
 qu (l:=[aj x]) h rfl rfl (by
  intro z hz;rw[dg.1 hz];exact⟨rfl,bm _⟩)
theorem Kd{c a:List Spx}(hl:c.length<=50)(hf:lJ c c.length<=400):ShC (kf c a).1:=by
 have nil:ShC []:=⟨bC _,λs h=>(by cases h)⟩
 by_cases he:(cyH c a).2=0
 ·obtain⟨v,hv,-,-⟩:=nt he;obtain⟨hc,-⟩:=cR hv;rcases wM hc hl hf he with⟨b,h1,h2,-⟩|⟨y,h1,-⟩
  ·rw[h1];exact h2
  ·rw[h1];exact nil
 ·unfold kf;rw[if_pos he];exact nil
theorem HL{c a:List Spx}(he:(cyH c a).2≠0):kf c a=([],[],false,(cyH c a).2):=by
 unfold kf;rw[if_pos he]
theorem AP(c a:List Spx)(hc:Shn c/\∀s∈c,Shn s)(ha:ShC a):pU 5 [bR c,aj a] (.bool true):=by
 refine pO is5 ?_;simp only[b5,aH];have f1:=IJ c [a] hc.1 hc.2 (show _<=_ by simp) (λx h=>by rw[dg.1 h];exact ha);have zz:=aI @ai @af;repeat' (first|refine zW ?_|apply a_n|refine zO ?_|refine vY ?_|refine bxY ?_|refine blY ?_|fail)
 refine ez ev0 ev0 f1 (aG (ag (cQ _).snap (ag (Ex ah) ak)) rfl) ?_;cases e1:uh c [a]
 ·repeat' (first|refine zW ?_|apply a_n|apply a_r|refine zO ?_|refine vY ?_|refine cY ?_ (hp:=sH) (hs:=by(first|refine aG ?_ rfl|apply aW);(repeat' (first|exact ak|apply bv|apply aX|exact cQ _));first|done|fail)|refine cTY ?_|refine b6 rfl ?_|refine r1Y ?_|fail)
  exact .bool _
 obtain⟨-,l1,l2⟩:=DV e1;have s1:=uF c a (by omega) hc.2 ha;have s2:=Bj c a (by omega) hc.2 ha;have s3:=Ke _ (Kd (c:=c) (a:=a) (by omega) l2);have z0:decide ((0:Int)≠0)=false:=rfl;have zt:bw .neq true false (.bool true) (.bool true)=some (.bool false):=rfl;have zf:bw .neq true false (.bool false) (.bool false)=some (.bool false):=rfl;have z00:decide ((0:Int)=0)=true:=rfl;by_cases he:(cyH c a).2=0
 rotate_left
 ·rw[HL he] at s1 s2 s3;dsimp only at s1 s2 s3;generalize (cyH c a).2=e at *;have z1:decide (e≠e)=false:=aQ (λq=>q rfl);have z2:decide (e≠0)=true:=aM he;have ln:dz (aj [])=some (.int .i64 0):=rfl;clear zz;have zz:=aI @ai (aI @af (aI @z1 (aI @z2 (aI @zf (aI @z00 @ln)))));repeat' (first|refine zW ?_|apply a_n|apply a_r|refine zO ?_|refine vY ?_|refine cY ?_ (hp:=by first|exact s1|exact s2|exact s3|exact sH) (hs:=by(first|refine aG ?_ rfl|apply aW);(repeat' (first|exact ak|apply bv|apply aX|exact cQ _|exact bm _));first|done|fail)|refine gTY ?_|refine gFY ?_|(refine zGY ?_ ?_<;>(intro _hg;try (exfalso;omega)))|refine cTY ?_|refine cFY ?_|refine b6 rfl ?_|refine r1Y ?_|fail)
  exact .bool _
 obtain⟨v,hv,-,-⟩:=nt he;obtain⟨hcx,-⟩:=cR hv;have ln:dz (aj [])=some (.int .i64 0):=rfl;rcases wM hcx (by omega) l2 he with⟨b,h1,h2,-⟩|⟨y,h1,h2,h3,-⟩
 ·rw[h1] at s1 s2 s3;dsimp only at s1 s2 s3;clear zz;have zz:=aI @ai (aI @af (aI @z0 (aI @zt (aI @z00 @ln))));repeat' (first|refine zW ?_|apply a_n|apply a_r|refine zO ?_|refine vY ?_|refine cY ?_ (hp:=by first|exact s1|exact s2|exact s3|exact sH) (hs:=by(first|refine aG ?_ rfl|apply aW);(repeat' (first|exact ak|apply bv|apply aX|exact cQ _|exact bm _));first|done|fail)|refine gTY ?_|(refine zGY ?_ ?_<;>(intro _hg;try (exfalso;omega)))|refine cTY ?_|refine cFY ?_|refine b6 rfl ?_|refine r1Y ?_|fail)
  exact .bool _
 ·rw[h1] at s1 s2 s3;dsimp only at s1 s2 s3;have s4:=BQ c a y (by omega) hc.2 ha h2;rw[<-NN (by omega),h3] at s4;clear zz;have zz:=aI @ai (aI @af (aI @z0 (aI @zf (aI @z00 @ln))));repeat' (first|refine zW ?_|apply a_n|refine zO ?_|refine vY ?_|refine cY ?_ (hp:=by first|exact s1|exact s2|exact s3|exact s4|exact sH) (hs:=by(first|refine aG ?_ rfl|apply aW);(repeat' (first|exact ak|apply bv|apply aX|exact cQ _|exact bm _));first|done|fail)|refine gTY ?_|(refine zGY ?_ ?_<;>(intro _hg;try (exfalso;omega)))|refine cFY ?_|refine b6 rfl ?_|refine r1Y ?_|fail)
  exact .bool _
end
end Go.Proofs.YtekdaafnjdlenaaGreat
namespace Go.Proofs.YtekdaafnjdlenaaGreat
open Go Go.Abs Go.RowKit
section
variable{H:Type}{enc:TypeId×Value->H}{W:World}
theorem oi:fv enc Tryz.prog W 3 (AV.int .i64) (λn=>(Lit.int .i64 n).wf=true):=EE Tryz.underlying3
set_option maxRecDepth 100000 in
theorem Ox:fv enc Tryz.prog W 69 dL (λ_=>True):=
 (pd Tryz.underlying69 (by kernel_rfl) (np (off:=0) (off':=1) rfl (by kernel_rfl) oi (np (off:=1) (off':=2) rfl (by kernel_rfl) oi uX))).map
  (λa=>(⟨a.1,a.2.1⟩:Vtx)) (λ_ _=>trivial) (λ_ _=>rfl)
theorem oXs:fv enc Tryz.prog W 70 aB Shn:=
 (rL Tryz.underlying70 (sz:=2) (by_:=16) (by kernel_rfl) (by kernel_rfl) (by omega) (λ_=>rfl) Ox).mono λl h=>by have:=h.2.2;show _<=_;omega
theorem LG:fv enc Tryz.prog W 22 aj (λl=>Shn l/\∀x∈l,Shn x):=
 (rL Tryz.underlying22 (sz:=1) (by_:=24) (by kernel_rfl) (by kernel_rfl) ke (λ_=>rfl) oXs).mono λl h=>⟨by have:=h.2.2;show _<=_;omega,h.1⟩
set_option maxRecDepth 100000 in
theorem oCx:fv enc Tryz.prog W 24 bR (λl=>Shn l/\∀x∈l,Shn x):=
 (pd Tryz.underlying24 (by kernel_rfl) (np (off:=0) (off':=1) rfl (by kernel_rfl) LG uX)).map
  (λa=>a.1) (by rintro⟨n,u⟩ ⟨h1,_⟩;exact h1) (λ_ _=>rfl)
end
theorem sM{f:FuncId}{xs:List AV}{vs:List Value}(h:pU f xs (.bool true))(w:World)(hv:dJ (E0 (vB w)) w xs vs):
    Calls Tryz.prog f vs.toArray w λe w'=>e=.returned (.bool true)/\Below w.heap.size w w':=by
 refine(h.2 (vB w) w vs (λ_ h=>h) hv).mono ?_;rintro e w' ⟨v,imm',rfl,hb,_,_,_,hr⟩;cases hr;exact⟨rfl,hb⟩
theorem Om:laidOutB Tryz.prog=true:=by kernel_rfl
end Go.Proofs.YtekdaafnjdlenaaGreat
namespace Go.Proofs.YtekdaafnjdlenaaGreat
open Go Go.Abs Go.RowKit Go.ChangeShapes Go.WideShapes Go.ChangeAt
theorem vo{H:Type}{enc:TypeId×Value->H}{P:Program}{f:Func}{s:ChangeSpec}{apart fresh handsOn again:Bool}{W W':World}{args:Array Value}{v:Value}{ds gs:List (DataW H)}{before pa pv:List MemPlace}
    (hW:DataW.Whole enc P f.params.toList s.vars apart W args.toList ds gs before)
    (hres:∀(b:Nat)(sp:Nat->Bool)(hd:Bool),DataW.TrodAll enc P W' b sp hd f.resultTypes.toList (v.resultList f.resultTypes.size) (s.fn H (ds++gs)).results [])
    (hargs:∀sp:Nat->Bool,(∀p∈before,sp p.block=true)->DataW.TrodAll enc P W' 0 sp true f.params.toList args.toList (s.fn H (ds++gs)).args pa)
    (hvars:∀sp:Nat->Bool,(∀p∈before,sp p.block=true)->DataW.TrodVars enc P W' sp s.vars (s.fn H (ds++gs)).vars pv)
    (hps:before=pa++pv) (hb:Below W.heap.size W W')
    (hok:∀(j:Nat)(t:TypeId)(r:Value),f.resultTypes[j]?=some t->(v.resultList f.resultTypes.size)[j]?=some r->Value.okWide P W' .any 0 t r):
    s.post enc P f apart fresh handsOn again W args v W':=by
 have hold:∀p∈before,(λb=>decide (b<W.heap.size)) p.block=true:=λp hp=>by simpa using hW.lt p hp
 have hlt:=λp hp=>hW.lt p hp;refine⟨ds,gs,before,[],pa,pv,hW,hres _ _ _,hargs _ hold,hvars _ hold,World.keptBut_mono (λp hp=>⟨hp,?_⟩) (hb.frame _),λ_=>?_⟩
 ·rw[hps,eM] at hp;exact Or.inr hp
 ·obtain⟨_,_,_,_,_,hz,hn⟩:=hW;refine⟨hok,_,_,([]++pa)++pv,⟨[]++pa,pv,trodAll_append (hargs _ (λ_ _=>rfl)) (hres _ _ _),hvars _ (λ_ _=>rfl),rfl,?_,?_⟩,?_⟩
  ·intro b off hp;have hp':MemPlace.cell b off∈before:=by rw[hps];simpa using hp
   rw[hb.frozen (hlt _ hp')];exact hz b off hp'
  ·intro ha;have:=hn ha;rw[hps] at this;simpa using this
  ·intro p hp _;rw[hps];simpa using hp
theorem Fc{E:Env}{w:World}:dJ E w [] []:=⟨rfl,λi x y h=>(by cases h)⟩
theorem w7{E:Env}{w:World}{x:AV}{y:Value}{xs:List AV}{ys:List Value}(h:Rel E w x y)(hs:dJ E w xs ys):dJ E w (x::xs) (y::ys):=by
 refine⟨by simp[hs.1],λi a b ha hb=>?_⟩;cases i with
 |zero=>simp at ha hb;subst ha hb;exact h
 |succ i=>simp at ha hb;exact hs.2 i a b ha hb
theorem own:ownKnob Tryz.prog.godebug=none:=by kernel_rfl
end Go.Proofs.YtekdaafnjdlenaaGreat
