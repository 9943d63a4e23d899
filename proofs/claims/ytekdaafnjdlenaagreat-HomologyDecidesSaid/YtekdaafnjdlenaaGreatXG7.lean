/- Texts of this claim, one after the other: T247, T248, T249, T250, T237, T259, T238, T260, T188, T240, T251, T252, T253, T239, T241, T200, T202, T263, T254, T255, T256, T262, T270, T264, T265, T269, T266, T267, T268, T257, T258, T271, T272, T273, T276, T118, T121. -/
import Derived.Test.YtekdaafnjdlenaaGreatXG6
import Derived.Test.YtekdaafnjdlenaaGreatXG4
import Derived.Test.YtekdaafnjdlenaaGreatXG3
import Derived.Test.YtekdaafnjdlenaaGreatXG5
import Derived.Test.YtekdaafnjdlenaaGreatRows
import Derived.WalkKit
import Derived.ProofKit
import Derived.OpenShut

set_option linter.unusedSimpArgs false
set_option linter.unusedVariables false
set_option maxHeartbeats 1000000
namespace Go.Proofs.YtekdaafnjdlenaaGreat
open Go Go.Abs
theorem zF{H:Hp}{sv:AV}{l:List Int}(h:Row H 1 sv (l.map (AV.int .i64)))(h0:0<l.length):∃B,sv=.msl B l.length 1 0 l.length∧H B=some (l.map (AV.int .i64)):=by
 generalize hcs:l.map (AV.int .i64)=cs at h;have hl:cs.length=l.length:=by rw[←hcs,bz]
 cases h with
 |nil=>simp at hl;omega
 |box B len cs h1 h2=>
  have e:len=l.length:=by omega
  subst e;exact⟨B,by rw[Nat.mul_one],h1⟩
def uT(E:List (List Int))(q:Nat):List Int:=E.foldl (fun a r=>if (q:Int)∈r then bX a [ld r] else a) [(q:Int)]
def o9(E:List (List Int))(q:Nat):List Int:=(q:Int)::(E.filter fun r=>decide ((q:Int)∈r)).map ld
def Ji(E:List (List Int))(c:Nat):List Nat:=(List.range c).filter fun q=>decide ((q:Int)∉E.map ld)
def tn(E:List (List Int))(c:Nat):List (List Int):=(Ji E c).map (uT E)
theorem CG{E:List (List Int)}{k:Nat}:tn E (k+1)=tn E k++if (k:Int)∈E.map ld then [] else [uT E k]:=by
 unfold tn Ji;rw[List.range_succ,ws,dw]
 congr 1
 by_cases h:(k:Int)∈E.map ld
 ·rw[if_pos h,zw (by simpa using h)];rfl
 ·rw[if_neg h,zN (by simpa using h)];rfl
theorem Aa{E:List (List Int)}{k:Nat}:(tn E k).length≤k:=by
 unfold tn Ji;rw[bz];exact fB (List.length_filter_le _ _) (by simp)
theorem Cy{E:List (List Int)}{q j:Nat}(h:j<E.length):o9 (E.take (j+1)) q=o9 (E.take j) q++if (q:Int)∈E.getD j default then [ld (E.getD j default)] else []:=by
 unfold o9;rw[cr h,ws,dw,List.cons_append]
 congr 2
 by_cases h:(q:Int)∈E.getD j default
 ·rw[if_pos h,zN (by simpa using h)];rfl
 ·rw[if_neg h,zw (by simpa using h)];rfl
theorem yR{E:List (List Int)}{q:Nat}:(o9 E q).length≤E.length+1:=by
 unfold o9;rw[bO,bz];exact Nat.succ_le_succ (List.length_filter_le _ _)
theorem qo{q:Nat}:∀{E:List (List Int)}{a:List Int},E.Pairwise (fun r s=>ld r<ld s)→bd a→(∀r∈E,ld r∉a)→
    bd (E.foldl (fun a r=>if (q:Int)∈r then bX a [ld r] else a) a)∧∀z,z∈E.foldl (fun a r=>if (q:Int)∈r then bX a [ld r] else a) a↔z∈a∨ ∃r∈E,(q:Int)∈r∧z=ld r
 |[],a,_,h2,_=>⟨h2,fun z=>⟨.inl,fun h=>h.elim id fun⟨r,hr,_⟩=>by cases hr⟩⟩
 |x::E,a,h1,h2,h3=>by
  have hx:=hU.1 h1;rw[List.foldl_cons];by_cases h:(q:Int)∈x
  ·rw[if_pos h];have hs:bd [ld x]:=List.pairwise_singleton _ _;have hna:=h3 x (cJ ..)
   have hm:∀z,z∈bX a [ld x]↔z∈a∨z=ld x:=fun z=>by
    rw[dq h2 hs,cV];constructor
    ·rintro(q|q)
     ·exact .inl q.1
     ·exact .inr q.1
    ·rintro(q|rfl)
     ·exact .inl ⟨q,fun e=>hna (e▸q)⟩
     ·exact .inr ⟨rfl,hna⟩
   obtain ⟨i1,i2⟩:=qo (q:=q) hx.2 (dU h2 hs) (fun r hr hz=>by
    rcases(hm _).1 hz with g|g
    ·exact h3 r (dL _ hr) g
    ·have:=hx.1 r hr;omega)
   refine⟨i1,fun z=>(i2 z).trans ?_⟩;rw[hm];constructor
   ·rintro((g|g)|⟨r,hr,g⟩)
    ·exact .inl g
    ·exact .inr ⟨x,cJ ..,h,g⟩
    ·exact .inr ⟨r,dL _ hr,g⟩
   ·rintro(g|⟨r,hr,g1,g2⟩)
    ·exact .inl (.inl g)
    ·rcases cR.1 hr with rfl|hr
     ·exact .inl (.inr g2)
     ·exact .inr ⟨r,hr,g1,g2⟩
  ·rw[if_neg h];obtain⟨i1,i2⟩:=qo (q:=q) hx.2 h2 (fun r hr=>h3 r (dL _ hr));refine⟨i1,fun z=>(i2 z).trans ?_⟩;constructor
   ·rintro(g|⟨r,hr,g⟩)
    ·exact .inl g
    ·exact .inr ⟨r,dL _ hr,g⟩
   ·rintro(g|⟨r,hr,g1,g2⟩)
    ·exact .inl g
    ·rcases cR.1 hr with rfl|hr
     ·exact absurd g1 h
     ·exact .inr ⟨r,hr,g1,g2⟩
theorem tA{E:List (List Int)}{q:Nat}(hE:Red E)(hq:(q:Int)∉E.map ld):bd (uT E q)∧∀z,z∈uT E q↔z=q∨ ∃r∈E,(q:Int)∈r∧z=ld r:=by
 have:=qo (q:=q) (a:=[(q:Int)]) hE.ord (List.pairwise_singleton _ _) (fun r hr h=>hq (by rw[cV] at h;rw[←h];exact List.mem_map_of_mem hr));exact⟨this.1,fun z=>(this.2 z).trans (by rw[cV])⟩
theorem Fj{E:List (List Int)}{q:Nat}{z:Int}:z∈o9 E q↔z=q∨ ∃r∈E,(q:Int)∈r∧z=ld r:=by
 unfold o9;rw[cR,bE];constructor
 ·rintro(h|⟨r,hr,e⟩)
  ·exact .inl h
  ·have:=fG.1 hr;exact .inr ⟨r,this.1,oT this.2,e.symm⟩
 ·rintro(h|⟨r,hr,g,e⟩)
  ·exact .inl h
  ·exact .inr ⟨r,fG.2 ⟨hr,a8 g⟩,e.symm⟩
theorem AW{E:List (List Int)}{q:Nat}(hE:Red E)(hq:(q:Int)∉E.map ld):(o9 E q).Nodup:=by
 unfold o9;refine List.nodup_cons.2 ⟨fun h=>?_,?_⟩
 ·obtain⟨r,hr,e⟩:=bE.1 h;exact hq (e▸List.mem_map_of_mem (fG.1 hr).1)
 ·rw[List.Nodup,List.pairwise_map];exact(hE.ord.sublist Ar).imp fun{x y} h e=>by omega
theorem Cu{E:List (List Int)}{q:Nat}(hE:Red E)(hq:(q:Int)∉E.map ld){L:List Int}(hp:L.Perm (o9 E q))(hs:L.Pairwise (· ≤ ·)):L=uT E q:=by
 have hn:L.Nodup:=hp.nodup_iff.2 (AW hE hq)
 have ha:bd L:=(hs.and hn).imp fun{x y} h=>by
  have h1:=h.1;have h2:x≠y:=h.2;show x<y;omega
 obtain⟨k1,k2⟩:=tA hE hq;refine oY ha k1 fun z=>?_;rw[hp.mem_iff,k2,Fj]
def nD(k:Nat):List AV:=List.replicate k (.bool true)
theorem CX{k i:Nat}(h:i<k):Go.Abs.mget (.bool false) false (some i) (nD k)=.bool true:=by
 show(nD k).getD i _=_;simp[nD,List.getD,h]
attribute [local irreducible] aH ai be aY aP aQ aD aR aZ bl Go.Abs.Fn aX Go.Abs.Pure aq aK Yl
theorem D1(c:Nat)(R:List (List Int))(hm:ia c R)(hso:qL (c+1)):pU 103 [dV c R] (.tup [dV c (tn (en R c) c),.int .i64 0]):=by
 refine pO Ki ?_;simp only[KF,aJ];have he:=n4 c R hm;have z0:decide ((0:Int)≠0)=false:=rfl;have hd:Dat (.agg [.int .i64 c,bF R]):=dl c R;have hmc:=hm.2.1;have hmv:∀r∈R,∀z∈r,0≤z∧z<(c:Int):=fun r hr z hz=>(hm.2.2.2 r hr).1 z hz;obtain⟨hred,hsp,-⟩:=kU (fJ hm) hmv;have hEv:∀r∈en R c,∀z∈r,0≤z∧z<(c:Int):=fun r hr=>jB (fJ hm) hmv ((hsp r).1 (eC hr));have hEl:(en R c).length≤c:=by unfold en;rw[bz];exact kr
 rw[dp,dp] at he;rw[dp,dp];generalize en R c=E at *;clear hsp;refine wnY (aI @z0 @eG) ?_;refine vj ?_;refine wnY @eG ?_;refine lpI (X:=Nat) (fun k=>[(1,.ptr 0 2 0),(2,.ptr 1 2 0),(4,.ptr 2 2 0),(6,.ptr 3 2 0),(7,.mp 4),(28,bF E),(29,.int .i64 E.length),(30,.int .i64 k)]) (fun k H nx=>k≤E.length∧5≤nx∧H 0=some [.int .i64 c,bF R]∧H 1=some [.int .i64 0,.esl]∧H 2=some [.int .i64 c,bF E]∧H 3=some [.int .i64 c,.esl]∧H 4=some [.omap (((E.take k).map ld).map (AV.int .i64)) (nD k)]) (fun k=>E.length-k) 0 ⟨bR _,aO _,rfl,rfl,rfl,rfl,rfl⟩ ?_;rintro k H nx ⟨g1,g2,g3,g4,g5,g6,g7⟩;by_cases hk:k<E.length
 ·have ix:=DL hk;have hn:=hred.ne _ (ay (l:=E) hk);have ix0:=G2 hn;have hmf:=iu (ld (E.getD k default)) ((E.take k).map ld)
  have hni:ld (E.getD k default)∉(E.take k).map ld:=fun h=>by
   obtain⟨r,hr,e⟩:=bE.1 h;obtain⟨i,hi,e2⟩:=jV hr;rw[iz] at hi;have hi2:i<E.length:=by omega
   have:=jT.1 hred.ord i k hi2 hk (by omega);rw[List.getElem_take] at e2;rw[show E[k]=E.getD k default by simp[List.getD,hk]] at this;rw[e2] at this;omega
  rw[if_neg hni] at hmf;have hts:=cr hk
  have hml:((E.take (k+1)).map ld).map (AV.int .i64)=((E.take k).map ld).map (AV.int .i64)++[.int .i64 (ld (E.getD k default))]:=by
   rw[hts,dw,dw];rfl
  have htr:nD (k+1)=nD k++[.bool true]:=by unfold nD;rw[List.replicate_succ']
  generalize E.getD k default=r at *;refine wnY (aI @ix @ix0) ?_;refine pJ ev0 g7 ev0 ev0 rfl hmf ?_;refine wnY and_self ?_;refine⟨k+1,by omega,⟨by omega,by omega,(ac (by omega)).trans g3,(ac (by omega)).trans g4,(ac (by omega)).trans g5,(ac (by omega)).trans g6,?_⟩,ag0⟩;rw[af,hml,htr];rfl
 obtain rfl:k=E.length:=by omega
 rw[gz (aO _)] at g7;clear hk g1;refine wnY @g3 ?_;refine lpI (X:=AV×Nat) (fun x=>[(1,.ptr 0 2 0),(2,.ptr 1 2 0),(4,.ptr 2 2 0),(6,.ptr 3 2 0),(7,.mp 4),(40,.int .i64 c),(41,.int .i64 x.2)]) (fun x H nx=>x.2≤c∧5≤nx∧H 0=some [.int .i64 c,bF R]∧H 1=some [.int .i64 0,.esl]∧H 2=some [.int .i64 c,bF E]∧H 3=some [.int .i64 c,x.1]∧H 4=some [.omap ((E.map ld).map (AV.int .i64)) (nD E.length)]∧Row H 1 x.1 ((tn E x.2).map aE)∧∀b,bZ x.1=some b→4<b∧b<nx) (fun x=>c-x.2) (.esl,0) ⟨bR _,g2,g3,g4,g5,g6,g7,Row.nil,fun b h=>(by cases h)⟩ ?_;clear g2 g3 g4 g5 g6 g7;rintro⟨sv,k⟩ H nx ⟨g1,g2,g3,g4,g5,g6,g7,g8,g9⟩;dsimp only at g1 g2 g3 g4 g5 g6 g7 g8 g9 ⊢;by_cases hk:k<c
 rotate_left
 ·obtain rfl:k=c:=by omega
  obtain⟨o1,o2⟩:=g8.one;refine wnY (zI4 @g6 @g4 @o1 @o2) ?_;refine jF (py (g8.same fun b hb=>?_)) rfl;have:=g9 b hb;rw[ac (by omega)]
 have hmf:=iu (k:Int) (E.map ld);have hks:=CG (E:=E) (k:=k);by_cases hlead:(k:Int)∈E.map ld
 ·rw[if_pos hlead] at hmf;rw[if_pos hlead,io] at hks;have hgt:Go.Abs.mget (.bool false) false (some ((E.map ld).idxOf (k:Int))) (nD E.length)=.bool true:=CX (by have:=List.idxOf_lt_length_of_mem hlead;rwa [bz] at this);refine dH ?_;refine wnY and_self ?_;refine ja ev0 g7 ev0 rfl hmf ?_;rw[hgt];refine wnY and_self ?_;refine⟨(sv,k+1),by dsimp only;omega,⟨by dsimp only;omega,by omega,g3,g4,g5,g6,g7,?_,g9⟩,ag0⟩;dsimp only;rw[hks];exact g8
 rw[if_neg hlead] at hmf hks;refine wnY and_self ?_;refine ja ev0 g7 ev0 rfl hmf ?_;have hgf:Go.Abs.mget (.bool false) false none (nD E.length)=.bool false:=rfl;rw[hgf];refine wnY (aI @eG @g5) ?_;refine lpI (X:=AV×Nat) (fun x=>[(1,.ptr 0 2 0),(2,.ptr 1 2 0),(4,.ptr 2 2 0),(6,.ptr 3 2 0),(7,.mp 4),(10,.int .i64 k),(11,x.1),(40,.int .i64 c),(41,.int .i64 k),(50,bF E),(51,.int .i64 E.length),(52,.int .i64 x.2)]) (fun x H' nx'=>x.2≤E.length∧nx≤nx'∧(∀b,b<nx→H' b=H b)∧Row H' 1 x.1 ((o9 (E.take x.2) k).map (AV.int .i64))∧∀b,bZ x.1=some b→nx≤b∧b<nx') (fun x=>E.length-x.2) (.msl nx 1 1 0 1,0) ⟨bR _,by omega,fun b hb=>ac (by omega),?_,fun b hb=>by cases hb;omega⟩ ?_
 ·exact Row.box nx 1 [.int .i64 k] af rfl
 rintro⟨kv,j⟩ H' nx' ⟨h1,h2,h3,h4,h5⟩;dsimp only at h1 h2 h3 h4 h5 ⊢;by_cases hj:j<E.length
 ·have ix:=DL hj;have hrm:=ay (l:=E) hj;have hn:=hred.ne _ hrm;have ix0:=G2 hn;have hks:=Cy (E:=E) (q:=k) hj;have hul:=yR (E:=E.take j) (q:=k);rw[iz] at hul;have hha:=F9 (E.getD j default) k (by have:=eZ (hred.asc _ hrm) (hEv _ hrm);omega) (hred.asc _ hrm);generalize E.getD j default=r at *;by_cases hin:(k:Int)∈r
  ·rw[if_pos hin] at hks;rw[a8 hin] at hha;refine wnY (aI @ix @ix0) ?_;refine eR (h4.same fun b hb=>?_) ?_
   ·have:=h5 b hb;rw[ac (by omega)]
   rintro s2 H2 nx2 hr2 i1 i2 i3 i4;refine wnY and_self ?_;refine⟨(s2,j+1),by dsimp only;omega,⟨by dsimp only;omega,by omega,fun b hb=>?_,?_,fun b hb=>?_⟩,ag0⟩
   ·exact(i3 b (by omega) fun e=>by have:=h5 b e;omega).trans ((ac (by omega)).trans (h3 b hb))
   ·dsimp only;rw[hks,dw];exact hr2
   ·rcases i4 b hb with h|h
    ·have:=h5 b h;omega
    ·omega
  ·rw[if_neg hin,io] at hks;rw[bc hin] at hha;refine wnY (aI @ix @ix0) ?_;refine⟨(kv,j+1),by dsimp only;omega,⟨by dsimp only;omega,h2,h3,by dsimp only;rw[hks];exact h4,h5⟩,ag0⟩
 obtain rfl:j=E.length:=by omega
 rw[gz (aO _)] at h4;have hul:=yR (E:=E) (q:=k);have hu0:0<(o9 E k).length:=Nat.succ_pos _;obtain⟨B,rfl,hB⟩:=zF h4 hu0;have hBn:=h5 B rfl;refine wnY and_self ?_;refine ba ev0 ev0 (hso hB hBn.2 rfl hu0 (by omega)) ?_;rintro _ H2 nx2 ⟨L',hps,hperm,hsrt⟩;obtain rfl:=Cu hred hlead hperm hsrt;have hlen:=hperm.length_eq;have q0:∀b,b<nx→H2 b=H b:=fun b hb=>(hps.fr b (by omega) (by omega)).trans (h3 b hb);have hle:=hps.le
 have hsn:Snap (only B ((uT E k).map (AV.int .i64))) (.msl B (o9 E k).length 1 0 (o9 E k).length) (aE (uT E k)):=by
  rw[←hlen];have:=Row.box (sz:=1) B (uT E k).length ((uT E k).map (AV.int .i64)) nf (by rw[bz,Nat.mul_one]);rw[Nat.mul_one] at this;exact this.snapI
 clear hB hperm hsrt h4 hul hu0;generalize uT E k=v at *;refine jY (a_n ?_);refine pE _ _ [(1,.ptr 0 2 0),(2,.ptr 1 2 0),(4,.ptr 2 2 0),(6,.ptr 3 2 0),(7,.mp 4),(11,aE v),(40,.int .i64 c),(41,.int .i64 k)] (Fz.one hps.at_) ⟨.inl rfl,.inl rfl,.inl rfl,.inl rfl,.inl rfl,.inr hsn,.inl rfl,.inl rfl,trivial⟩ ?_;have q:∀b,b<nx→dr H2 B b=H b:=fun b hb=>(cQ (by omega)).trans (q0 b hb);clear hps q0 hsn;generalize dr H2 B=H4 at *;have q3:=(q 3 (by omega)).trans g6;have kll:=Aa (E:=E) (k:=k);refine wnY @q3 ?_;refine eR (g8.same fun b hb=>?_) ?_
 ·have:=g9 b hb;rw[ac (by omega)];exact q b (by omega)
 rintro s2 H3 nx3 hr2 i1 i2 i3 i4;have hdo:∀b,b≤4→bZ sv≠some b:=fun b hb e=>by have:=g9 b e;omega
 have lo2:∀b,b≤4→H3 b=H b:=fun b hb=>(i3 b (by omega) (hdo b hb)).trans ((ac (by omega)).trans (q b (by omega)))
 have hn2:∀b,bZ s2=some b→4<b∧b<nx3:=fun b hb=>by
  rcases i4 b hb with h|h
  ·have:=g9 b h;omega
  ·omega
 have k6:=(lo2 3 (by omega)).trans g6;obtain⟨o1,o2⟩:=hr2.one;refine wnY (zI3 @k6 @o1 @o2) ?_;refine⟨(s2,k+1),by dsimp only;omega,⟨by dsimp only;omega,by omega,(ac (by omega)).trans ((lo2 0 (by omega)).trans g3),(ac (by omega)).trans ((lo2 1 (by omega)).trans g4),(ac (by omega)).trans ((lo2 2 (by omega)).trans g5),by rw[af];rfl,(ac (by omega)).trans ((lo2 4 (by omega)).trans g7),?_,hn2⟩,ag0⟩;dsimp only;rw[hks,dw];exact hr2.same fun b hb=>by have:=hn2 b hb;rw[ac (by omega)]
end Go.Proofs.YtekdaafnjdlenaaGreat
namespace Go.Proofs.YtekdaafnjdlenaaGreat
open Go Go.Abs
theorem Gq{R:List (List Int)}{n q:Nat}:(trF R n q).Pairwise (· < ·):=List.Pairwise.filter _ List.pairwise_lt_range
theorem I9{R:List (List Int)}{c:Nat}(hR:R.length≤4096)(hc:c≤4096):ia R.length (trL c R):=by
 refine⟨by omega,by omega,by unfold trL;rw[bz,List.length_range];exact hc,fun r hr=>?_⟩;unfold trL at hr;obtain⟨q,hq,rfl⟩:=bE.1 hr;refine⟨fun v hv=>?_,?_,ui (ew Gq)⟩
 ·unfold bD at hv;obtain⟨j,hj,rfl⟩:=bE.1 hv;unfold trF at hj;have:=eo.1 (fG.1 hj).1;omega
 ·unfold bD;rw[bz];exact fB B0 hR
def bdN(c:List Spx)(d:Nat):Nat:=(ao c ((d:Int)+1)).length
def bdM(c:List Spx)(d:Nat):List (List Int):=trL (ao c ((d:Int)+1+1)).length (cK (ao c ((d:Int)+1+1)) (ao c ((d:Int)+1)))
def bdE(c:List Spx)(d:Nat):List (List Int):=en (bdM c d) (bdN c d)
theorem D2{c:List Spx}{d:Nat}(hc:aB c=0)(hl:c.length≤50):ia (bdN c d) (bdM c d):=by
 have h1:=cI hc hl (d:=(d:Int)+1);have h2:=cI hc hl (d:=(d:Int)+1+1);have:=I9 (R:=cK (ao c ((d:Int)+1+1)) (ao c ((d:Int)+1))) (c:=(ao c ((d:Int)+1+1)).length) (by rw[fF];omega) (by omega);rw[fF] at this;exact this
theorem Ca{c:List Spx}{d:Nat}:(bdE c d).length≤bdN c d:=by unfold bdE en;rw[bz];exact kr
attribute [local irreducible] aH ai be aY aP aQ aD aR aZ bl Go.Abs.Fn aX Go.Abs.Pure aq aK Yl
theorem ut(c:List Spx)(d:Nat)(hc:aB c=0)(hl:c.length≤50)(hd:d≤7)(H:Hp)(nx:Nat):
    Abs.Fn Tryz.prog 81 [b9 c,.int .i64 d] H nx fun r H' nx'=>∃b,r=.tup [.ptr b 3 0,.int .i64 0]∧nx≤b∧b<nx'∧(∀x,x<nx→H' x=H x)∧H' b=some [.int .i64 (bdN c d),bF (bdE c d),.int .i64 (bdE c d).length]:=by
 refine fO Mw ?_;simp only[b81,aJ];have he:=mM c (d+1) hc hl (by omega);have hs:=rS c d hc hl (by omega);have h2:=cI hc hl (d:=(d:Int)+1+1);have h1:=cI hc hl (d:=(d:Int)+1);rw[show((d+1:Nat):Int)=(d:Int)+1 by omega] at he;have ht:=yE (ao c ((d:Int)+1+1)).length (cK (ao c ((d:Int)+1+1)) (ao c ((d:Int)+1))) (kN (by omega) (by omega));rw[fF] at ht;have hel:(bdE c d).length≤bdN c d:=Ca;have hec:pU 134 [dV (bdN c d) (bdM c d)] (.tup [dV (bdN c d) (bdE c d),.int .i64 0]):=n4 _ _ (D2 hc hl);have hq:((ao c ((d:Int)+1)).length:Int)=bdN c d:=rfl;have hm:trL (ao c ((d:Int)+1+1)).length (cK (ao c ((d:Int)+1+1)) (ao c ((d:Int)+1)))=bdM c d:=rfl;rw[hm] at ht;rw[hq] at hs ht;have z0:decide ((0:Int)≠0)=false:=rfl;have z2:an c=an c:=rfl;generalize cK (ao c ((d:Int)+1+1)) (ao c ((d:Int)+1))=R at *;generalize (ao c ((d:Int)+1+1)).length=m at *;generalize bdM c d=M at *;generalize bdE c d=E at *;have hN:bdN c d≤3500:=h1;generalize bdN c d=n at *;have d1:Dat (.agg [.int .i64 m,bF R]):=dl m R;have d2:Dat (.agg [.int .i64 n,bF M]):=dl n M;rw[dp] at he ht hec;rw[dp] at ht hec;refine wnY (zI4 @z0 @aj @ae @eG) ?_;exact⟨nx+3,rfl,by omega,by omega,fun x hx=>by(repeat rw[ac (by omega)]),af⟩
end Go.Proofs.YtekdaafnjdlenaaGreat
namespace Go.Proofs.YtekdaafnjdlenaaGreat
open Go Go.Abs
def bsT(E:List (List Int))(n:Nat)(K:List (List Int)):Nat→List (List Int)
 |0=>[]
 |k+1=>if (en ((E++bsT E n K k)++[K.getD k default]) n).length=(en (E++bsT E n K k) n).length then bsT E n K k else bsT E n K k++[K.getD k default]
theorem B2{E:List (List Int)}{n:Nat}{K:List (List Int)}:∀{k:Nat},(bsT E n K k).length≤k
 |0=>aO _
 |k+1=>by
  have:=B2 (E:=E) (n:=n) (K:=K) (k:=k);unfold bsT;split
  ·omega
  ·rw[du];simp only[bO,fC];omega
theorem xB{E:List (List Int)}{n:Nat}{K:List (List Int)}:∀{k:Nat},k≤K.length→∀v∈bsT E n K k,v∈K
 |0,_,v,h=>by cases h
 |k+1,hk,v,h=>by
  unfold bsT at h;split at h
  ·exact xB (by omega) v h
  ·rcases eU.1 h with h|h
   ·exact xB (by omega) v h
   ·rw[cV] at h;subst h;exact ay (by omega)
theorem Gi{E:List (List Int)}{n:Nat}(hE:Red E)(hv:∀r∈E,∀z∈r,0≤z∧z<(n:Int)):en E n=E:=by
 obtain⟨h1,h2,-⟩:=kU hE.asc hv;exact sS h1 hE h2
theorem zg{c:Int}{R S:List (List Int)}(h:ia c R)(hl:S.length≤4096)(hs:∀r∈S,r∈R):ia c S:=⟨h.1,h.2.1,hl,fun r hr=>h.2.2.2 r (hs r hr)⟩
theorem y6{c:Int}{R S:List (List Int)}(h:ia c R)(h2:ia c S)(hl:R.length+S.length≤4096):ia c (R++S):=⟨h.1,h.2.1,by rw[du];exact hl,fun r hr=>(eU.1 hr).elim (h.2.2.2 r) (h2.2.2.2 r)⟩
attribute [local irreducible] aH ai be aY aP aQ aD aR aZ bl Go.Abs.Fn aX Go.Abs.Pure aq aK Yl
theorem Gc(c:List Spx)(d:Nat)(H:Hp)(nx:Nat):Abs.Fn Tryz.prog 50 [b9 c,.int .i64 d] H nx fun r H' nx'=>r=.func 102 [.ptr nx 1 0,.ptr (nx+1) 1 0]∧H'=ap (ap H nx [an c]) (nx+1) [.int .i64 d]∧nx'=nx+2:=by
 refine fO MR ?_;simp only[b50,aJ];refine wnY (aI @aj @ae) ?_;exact⟨rfl,rfl,rfl⟩
end Go.Proofs.YtekdaafnjdlenaaGreat
namespace Go.Proofs.YtekdaafnjdlenaaGreat
open Go Go.Abs
theorem mi.same{H H':Hp}{s:AV}{l:List (List Int)}(h:mi H s l)(hs:∀b,bZ s=some b→H' b=H b):mi H' s l:=by
 rcases h with h|h
 ·exact .inl h
 ·exact .inr (h.same hs)
theorem t8{c:List Spx}:b9 c=.agg [an c]:=rfl
def bsK(c:List Spx)(d:Nat):List (List Int):=tn (en (cK (ao c ((d:Int)+1)) (ao c d)) (bdN c d)) (bdN c d)
theorem DZ{c:List Spx}{d:Nat}(hc:aB c=0)(hl:c.length≤50):ia (bdN c d) (cK (ao c ((d:Int)+1)) (ao c d)):=by
 have h1:=cI hc hl (d:=(d:Int)+1);have h2:=cI hc hl (d:=(d:Int));exact kN (X:=ao c ((d:Int)+1)) (Y:=ao c d) (by omega) (by omega)
theorem pI{c:Nat}{R:List (List Int)}(h:ia c R):∀r∈R,∀z∈r,0≤z∧z<(c:Int):=fun r hr=>(h.2.2.2 r hr).1
theorem Ch{c:Nat}{R:List (List Int)}(hc:c≤4096)(hl:R.length≤4096)(ha:∀r∈R,bd r)(hv:∀r∈R,∀z∈r,0≤z∧z<(c:Int)):ia c R:=
 ⟨by omega,by omega,hl,fun r hr=>⟨hv r hr,by have:=eZ (ha r hr) (hv r hr);omega,ui (ha r hr)⟩⟩
theorem Bq{c:Nat}{R:List (List Int)}(h:ia c R):Red (en R c)∧(∀v,Sp (en R c) v↔Sp R v)∧(∀r∈en R c,∀z∈r,0≤z∧z<(c:Int))∧(en R c).length≤c:=by
 obtain⟨h1,h2,-⟩:=kU (fJ h) (pI h);exact⟨h1,h2,fun r hr=>jB (fJ h) (pI h) ((h2 r).1 (eC hr)),by unfold en;rw[bz];exact kr⟩
theorem IZ{E:List (List Int)}{c:Nat}(hE:Red E)(hv:∀r∈E,∀z∈r,0≤z∧z<(c:Int)):∀v∈tn E c,bd v∧∀z∈v,0≤z∧z<(c:Int):=fun v h=>by
 unfold tn at h;obtain⟨q,hq,rfl⟩:=bE.1 h;have hq:=fG.1 hq;have hqc:=eo.1 hq.1;obtain⟨k1,k2⟩:=tA hE (oT hq.2);refine⟨k1,fun z hz=>?_⟩;rcases(k2 z).1 hz with rfl|⟨r,hr,_,rfl⟩
 ·omega
 ·exact hv r hr _ (dj (hE.ne r hr))
theorem Fl{c:List Spx}{d:Nat}(hc:aB c=0)(hl:c.length≤50):ia (bdN c d) (bsK c d)∧(bsK c d).length≤bdN c d:=by
 have hn:bdN c d≤3500:=cI hc hl;obtain⟨h1,-,h2,-⟩:=Bq (DZ (d:=d) hc hl);have hk:=IZ h1 h2;have hll:(bsK c d).length≤bdN c d:=Aa;exact⟨Ch (by omega) (by omega) (fun v h=>(hk v h).1) fun v h=>(hk v h).2,hll⟩
theorem Ig{c:List Spx}{d:Nat}(hc:aB c=0)(hl:c.length≤50):ia (bdN c d) (bdE c d)∧Red (bdE c d)∧(∀v,Sp (bdE c d) v↔Sp (bdM c d) v):=by
 have hn:bdN c d≤3500:=cI hc hl;obtain⟨h1,h2,h3,h4⟩:=Bq (D2 (d:=d) hc hl);exact⟨Ch (by omega) (fB h4 (by omega)) h1.asc h3,h1,h2⟩
def GP(o:Option Nat):List Nat:=match o with|some x=>[x]|none=>[]
theorem y8{o:Option Nat}{x:Nat}:x∈GP o↔o=some x:=by cases o<;>simp[GP];exact eq_comm
attribute [local irreducible] aH ai be aY aP aQ aD aR aZ bl Go.Abs.Fn aX Go.Abs.Pure aq aK Yl
set_option maxHeartbeats 1000000 in
theorem F6{y cb db:Nat}(c:List Spx)(d:Nat)(hso:qL (bdN c d+1))(hc:aB c=0)(hl:c.length≤50)(hd:d≤7)(hn:bdN c d≤1000)(H:Hp)(nx:Nat)(I:List Nat→List (List Int)→Hp→Nat→Prop)
    (g1:H cb=some [an c]) (g2:H db=some [.int .i64 d]) (hcb:cb<nx) (hdb:db<nx)
    (st:∀F F' D H nx H' nx',I F D H nx→nx≤nx'→(∀x,x<nx→x∉F→H' x=H x)→(∀x∈F',x∈F∨nx≤x∧x<nx')→I F' D H' nx')
    (rnd:∀F D v H nx,I F D H nx→v∈bsK c d→D.length≤1000→Yl Tryz.prog y [aE v,.int .i64 0] H nx fun r H' nx'=>r=.bool true∧nx≤nx'∧(∀x∈F,H' x=H x)∧I F (D++[v]) H' nx')
    (h0:I [] [] H nx):
    Abs.Fn Tryz.prog 102 [.yld y,.ptr cb 1 0,.ptr db 1 0] H nx fun _ H' nx'=>∃F,I F (bsT (bdE c d) (bdN c d) (bsK c d) (bsK c d).length) H' nx':=by
 refine fO LH ?_;simp only[Lv,aJ];have hbd:=fun H nx=>ut c d hc hl hd H nx;have he:=mM c d hc hl (by omega);have hk:=D1 _ _ (DZ (d:=d) hc hl) hso;rw[show tn (en (cK (ao c ((d:Int)+1)) (ao c d)) (bdN c d)) (bdN c d)=bsK c d from rfl] at hk;rw[show(((ao c ((d:Int)+1)).length:Nat):Int)=(bdN c d:Int) from rfl] at he;obtain⟨mE,rE,-⟩:=Ig (d:=d) hc hl;obtain⟨mK,lK⟩:=Fl (d:=d) hc hl;have lE:(bdE c d).length≤bdN c d:=Ca;have eE:=Gi rE (pI mE);have hd1:Dat (.agg [.int .i64 (bdN c d),bF (cK (ao c ((d:Int)+1)) (ao c d))]):=dl _ _;rw[t8] at hbd he;rw[dp] at he;rw[dp,dp] at hk;generalize cK (ao c ((d:Int)+1)) (ao c d)=R at *;have dcx:Dat (.agg [an c]):=bN c;generalize bdE c d=E at *;generalize bdN c d=n at *;generalize bsK c d=K at *;have z0:decide ((0:Int)≠0)=false:=rfl;have z1:decide ((0:Int)=0)=true:=rfl;refine wnY (aI @g1 @g2) ?_;refine ba ev0 ev0 (hbd _ _) ?_;rintro _ H1 nx1 ⟨b,rfl,b1,b2,b3,b4⟩;have g1':=(b3 cb hcb).trans g1;have g2':=(b3 db hdb).trans g2;refine wnY (zI5 @g1' @g2' @z0 @z1 @eG) ?_;refine lpI (X:=AV×Nat) (fun x=>[(0,.yld y),(4,.ptr b 3 0),(39,bF K),(40,.int .i64 K.length),(41,.int .i64 x.2)]) (fun x H' nx'=>x.2≤K.length∧I (b::GP (bZ x.1)) (bsT E n K x.2) H' nx'∧H' b=some [.int .i64 n,x.1,.int .i64 (en (E++bsT E n K x.2) n).length]∧mi H' x.1 (E++bsT E n K x.2)∧b<nx'∧∀z,bZ x.1=some z→z<nx'∧z≠b) (fun x=>K.length-x.2) (bF E,0) ⟨bR _,?_,?_,?_,by omega,fun z h=>?_⟩ ?_
 ·refine st [] _ [] _ nx _ _ h0 (by omega) (fun x hx _=>?_) (fun x hx=>?_)
  ·(repeat rw[ac (by omega)])
   exact b3 x hx
  ·rcases cR.1 hx with rfl|hx
   ·exact .inr ⟨by omega,by omega⟩
   ·cases hx
 ·(repeat rw[ac (by omega)])
  show H1 b=some [.int .i64 n,bF E,.int .i64 (en (E++[]) n).length];rw[io,eE];exact b4
 ·refine .inl ?_;show bF E=bF (E++[]);rw[io]
 ·exact by cases h
 clear h0 b3 b4 g1' g2' g1 g2;rintro⟨rv,k⟩ H' nx' ⟨h1,h2,h3,h4,h5,h6⟩;dsimp only at h1 h2 h3 h4 h5 h6 ⊢;by_cases hk2:k<K.length
 rotate_left
 ·obtain rfl:k=K.length:=by omega
  refine wnY and_self ?_;exact⟨_,h2⟩
 have ix:=DL hk2;have hTl:=B2 (E:=E) (n:=n) (K:=K) (k:=k);have hTm:=xB (E:=E) (n:=n) (K:=K) h1;have hss:bsT E n K (k+1)=if (en ((E++bsT E n K k)++[K.getD k default]) n).length=(en (E++bsT E n K k) n).length then bsT E n K k else bsT E n K k++[K.getD k default]:=rfl
 have hvm:K.getD k default∈K:=ay hk2;generalize K.getD k default=v at *;have mS:ia n ((E++bsT E n K k)++[v]):=y6 (y6 mE (zg mK (by omega) hTm) (by omega)) (zg mK (by simp) fun r hr=>by rw[cV] at hr;rw[hr];exact hvm) (by rw[du];simp only[bO,fC];omega);have hadd:=KR n (E++bsT E n K k) (en (E++bsT E n K k) n).length v rv b H' nx' mS h3 h5 h4 fun x hx=>(h6 x hx).1;generalize hT:bsT E n K k=D at *;refine wnY @ix ?_;refine ba ev0 ev0 hadd ?_;rintro _ H2 nx2 ⟨q1,q2,q3⟩;rcases q3 with⟨e1,rfl,e3⟩|⟨e1,rfl,wv,e3,e4,e5⟩
 ·rw[if_pos e1] at hss;refine wnY @z0 ?_;refine⟨(rv,k+1),by dsimp only;omega,⟨by dsimp only;omega,?_,?_,?_,by omega,fun z hz=>by have:=h6 z hz;omega⟩,ag0⟩
  ·dsimp only;rw[hss];exact st _ _ _ _ _ _ _ h2 q1 (fun x hx hF=>q2 x hx fun e=>hF (by rw[e];exact cJ ..)) fun x hx=>.inl hx
  ·dsimp only;rw[hss,e3];exact h3
  ·dsimp only;rw[hss];exact h4.same fun z hz=>q2 z (h6 z hz).1 (h6 z hz).2
 rw[if_neg e1] at hss
 have hI2:I (b::GP (bZ wv)) D H2 nx2:=st _ _ _ _ _ _ _ h2 q1 (fun x hx hF=>q2 x hx fun e=>hF (by rw[e];exact cJ ..)) fun x hx=>by
  rcases cR.1 hx with rfl|hx
  ·exact .inl (cJ ..)
  ·exact .inr (e5 x (y8.1 hx))
 refine wnY @z0 ?_;refine xu ev0 ev0 (Yl.mono (rnd _ D v _ _ hI2 hvm (by omega)) ?_);rintro _ H3 nx3 ⟨rfl,r1,r2,r3⟩;refine wnY @z0 ?_;refine⟨(wv,k+1),by dsimp only;omega,⟨by dsimp only;omega,?_,?_,?_,by omega,fun z hz=>?_⟩,ag0⟩
 ·dsimp only;rw[hss];exact r3
 ·dsimp only;rw[hss,r2 b (cJ ..),e3,uo]
 ·dsimp only;rw[hss,←uo];exact e4.same fun z hz=>r2 z (dL _ (y8.2 hz))
 ·have:=e5 z hz;omega
end Go.Proofs.YtekdaafnjdlenaaGreat
namespace Go.Proofs.YtekdaafnjdlenaaGreat
open Go Go.Abs
theorem jA{b:List Int}:∀{a:List Int},bJ (fun j=>bit j b) a=(a.filter fun x=>decide (x∈b)).length
 |[]=>rfl
 |x::a=>by
  have ih:=jA (b:=b) (a:=a);show bit x b+bJ _ a=_;rw[ih];by_cases h:x∈b
  ·rw[zN (by simpa using h),bO];unfold bit;rw[if_pos h];omega
  ·rw[zw (by simpa using h)];unfold bit;rw[if_neg h];omega
theorem pZ{a b:List Int}(ha:bd a)(hb:bd b):ir a b=js b a:=by
 unfold ir js;have:=mw _ a b (aO _) ha hb;rw[jA];refine decide_eq_decide.2 ?_;omega
theorem vq{a b:List Int}(ha:bd a)(hb:bd b):js a b=js b a:=by
 unfold js;rw[jA,jA,rh (a:=b) (b:=a) hb.nodup ha.nodup]
theorem mf{g:Int→Nat}{b:List Int}:∀{a:List Int},bJ g (a++b)=bJ g a+bJ g b
 |[]=>by show _=0+_;rw[cf];rfl
 |x::a=>by
  have ih:=mf (g:=g) (b:=b) (a:=a);show g x+bJ g (a++b)=g x+bJ g a+bJ g b;rw[ih];omega
theorem iV{g:Int→Nat}:∀{a:List Int},(∀z∈a,g z=0)→bJ g a=0
 |[],_=>rfl
 |x::a,h=>by
  show g x+bJ g a=0;rw[h x cJ,iV fun z hz=>h z (dL _ hz)]
theorem x6{g h:Int→Nat}:∀{a:List Int},bJ (fun z=>g z+h z) a=bJ g a+bJ h a
 |[]=>rfl
 |x::a=>by
  have ih:=x6 (g:=g) (h:=h) (a:=a);show g x+h x+bJ _ a=g x+bJ g a+(h x+bJ h a);rw[ih];omega
theorem u5{f:Int→Int→Nat}{v:List Int}:∀{y:List Int},bJ (fun j=>bJ (fun z=>f z j) v) y=bJ (fun z=>bJ (fun j=>f z j) y) v
 |[]=>by
  exact(iV (g:=fun z=>bJ (fun j=>f z j) []) fun z _=>rfl).symm
 |j::y=>by
  have ih:=u5 (f:=f) (v:=v) (y:=y);show bJ (fun z=>f z j) v+bJ _ y=bJ (fun z=>f z j+bJ (fun j=>f z j) y) v;rw[ih,x6]
theorem r9{g h:Int→Nat}:∀{a:List Int},(∀z∈a,g z%2=h z%2)→bJ g a%2=bJ h a%2
 |[],_=>rfl
 |x::a,e=>by
  have ih:=r9 (g:=g) (h:=h) (a:=a) fun z hz=>e z (dL _ hz);have h0:=e x cJ;show(g x+bJ g a)%2=(h x+bJ h a)%2;omega
theorem u0{R:List (List Int)}{v:List Int}(hR:∀r∈R,bd r)(hv:bd v){i:Nat}(hi:i<R.length):bit (i:Int) (bD (eV R v))=bJ (fun z=>bit z (R.getD i default)) v%2:=by
 have h1:(i:Int)∈bD (eV R v)↔ir (R.getD i default) v=true:=by
  rw[jn];unfold eV;constructor
  ·rintro⟨j,hj,e⟩;obtain rfl:j=i:=by omega
   exact(fG.1 hj).2
  ·intro h;exact⟨i,fG.2 ⟨eo.2 hi,h⟩,rfl⟩
 have hri:=hR _ (ay hi);rw[pZ hri hv,vq hv hri] at h1;unfold js at h1;have hb:bit (i:Int) (bD (eV R v))=if (i:Int)∈bD (eV R v) then 1 else 0:=rfl
 rw[hb];by_cases h:(i:Int)∈bD (eV R v)
 ·rw[if_pos h];have:=oT (h1.1 h);exact this.symm
 ·rw[if_neg h];have:¬_:=fun q=>h (h1.2 (a8 q));have h2:=Nat.mod_lt (bJ (fun z=>bit z (R.getD i default)) v) (by omega:0<2);omega
theorem Fh{R:List (List Int)}{v:List Int}(hR:∀r∈R,bd r)(hv:bd v){y:List Int}(hy:y∈(stE R R.length).2):js (bD (eV R v)) y=false:=by
 have hs:=(gf hR (aO R.length)).dep y hy;obtain⟨_,h2,h3⟩:=hs
 have h2:∀z,0=bJ (fun j=>bit z (R.getD j.toNat default)) y%2:=fun z=>by
  have:=h2 z;rw[show bit z (([],y):Ln).1=0 from fP] at this;exact this
 have h3:∀j∈y,0≤j∧j<(R.length:Int):=h3;unfold js;refine bc fun h=>?_
 have e1:bJ (fun j=>bit j (bD (eV R v))) y%2=bJ (fun j=>bJ (fun z=>bit z (R.getD j.toNat default)) v) y%2:=r9 fun j hj=>by
  have hj':=h3 j hj;have:=u0 hR hv (i:=j.toNat) (by omega);rw[show((j.toNat:Nat):Int)=j by omega] at this;rw[this];omega
 rw[u5 (f:=fun z j=>bit z (R.getD j.toNat default))] at e1;have e2:bJ (fun z=>bJ (fun j=>bit z (R.getD j.toNat default)) y) v%2=bJ (fun _=>0) v%2:=r9 fun z _=>by have:=h2 z;omega
 rw[iV (g:=fun _=>0) fun _ _=>rfl] at e2;omega
structure VR(c:Nat)(R:List (List Int)):Prop where
 asc:∀r∈R,bd r
 rng:∀r∈R,∀z∈r,0≤z∧z<(c:Int)
def rk(R:List (List Int))(c:Nat):Nat:=(en R c).length
theorem VR.app{c:Nat}{R S:List (List Int)}(h1:VR c R)(h2:VR c S):VR c (R++S):=
 ⟨fun r hr=>(eU.1 hr).elim (h1.asc r) (h2.asc r),fun r hr=>(eU.1 hr).elim (h1.rng r) (h2.rng r)⟩
theorem VR.sub{c:Nat}{R S:List (List Int)}(h:VR c R)(hs:∀r∈S,r∈R):VR c S:=⟨fun r hr=>h.asc r (hs r hr),fun r hr=>h.rng r (hs r hr)⟩
theorem VR.one{c:Nat}{v:List Int}(ha:bd v)(hv:∀z∈v,0≤z∧z<(c:Int)):VR c [v]:=⟨fun r hr=>by rw[cV] at hr;rw[hr];exact ha,fun r hr=>by rw[cV] at hr;rw[hr];exact hv⟩
theorem VR.nil{c:Nat}:VR c []:=⟨fun _ h=>(by cases h),fun _ h=>(by cases h)⟩
theorem Ha{c:Nat}{R:List (List Int)}(h:ia c R):VR c R:=⟨fJ h,pI h⟩
structure KerV(R:List (List Int))(c:Nat)(x:List Int):Prop where
 asc:bd x
 rng:∀z∈x,0≤z∧z<(c:Int)
 dot:∀r∈R,bJ (fun z=>bit z r) x%2=0
theorem Jp{R:List (List Int)}{c q:Nat}(h:q<c):(trL c R).getD q default=bD (trF R R.length q):=rM h
theorem EH{R:List (List Int)}{q:Nat}{j:Int}(hj:0≤j∧j<(R.length:Int)):bit j (bD (trF R R.length q))=lC R q j:=by
 unfold lC bit
 have e:j∈bD (trF R R.length q)↔(q:Int)∈R.getD j.toNat default:=by
  rw[jn];constructor
  ·rintro⟨i,hi,rfl⟩;have:=(fG.1 hi).2;simpa using this
  ·intro h;exact⟨j.toNat,fG.2 ⟨eo.2 (by omega),a8 h⟩,by omega⟩
 by_cases h:(q:Int)∈R.getD j.toNat default
 ·rw[if_pos h,if_pos (e.2 h)]
 ·rw[if_neg h,if_neg fun x=>h (e.1 x)]
theorem Eh{R:List (List Int)}{c:Nat}(h:VR c R){y:List Int}:KerV (trL c R) R.length y↔bd y∧(∀j∈y,0≤j∧j<(R.length:Int))∧∀z,bJ (lC R z) y%2=0:=by
 constructor
 ·intro k;refine⟨k.asc,k.rng,fun z=>?_⟩;by_cases hz:0≤z∧z<(c:Int)
  ·obtain⟨q,rfl⟩:=Int.eq_ofNat_of_zero_le hz.1;have hq:q<c:=by omega
   have:=k.dot _ (show(trL c R).getD q default∈trL c R from ay (by unfold trL;simpa using hq));rw[Jp hq,gJ fun j hj=>EH (k.rng j hj)] at this;exact this
  ·rw[iV fun j hj=>?_];unfold lC;have hj:=k.rng j hj;have:z∉R.getD j.toNat default:=fun q=>hz (h.rng _ (ay (by omega)) z q);show(if z∈R.getD j.toNat default then 1 else 0)=0;rw[if_neg this]
 ·rintro⟨a,b,k⟩;refine⟨a,b,fun r hr=>?_⟩;unfold trL at hr;obtain⟨q,hq,rfl⟩:=bE.1 hr;rw[gJ fun j hj=>EH (b j hj)];exact k q
theorem Hr{R:List (List Int)}{c:Nat}(h:VR c R){y:List Int}:Sp (stE R R.length).2 y↔KerV (trL c R) R.length y:=by
 have hs:=gf h.asc (aO R.length);have ha:∀r∈(stE R R.length).2,bd r:=fun r hr=>(hs.dep r hr).1.2;rw[Eh h];constructor
 ·intro k
  exact ⟨kV ha k,jB ha (fun r hr=>(hs.dep r hr).2.2) k,fun z=>rV k fun d hd=>by
   have:=(hs.dep d hd).2.1 z;rw[fP] at this;exact this.symm⟩
 ·rintro⟨a,b,k⟩;exact sF h.asc (aO _) a b k
theorem zd{L:List Ln}{w:List Int}{z:Int}:z∈lS L w↔ ∃l∈L,ir l.2 w=true∧ld l.1=z:=by
 unfold lS;simp only[bE,fG];exact⟨fun⟨l,⟨h1,h2⟩,h3⟩=>⟨l,h1,h2,h3⟩,fun⟨l,h1,h2,h3⟩=>⟨l,⟨h1,h2⟩,h3⟩⟩
theorem EI{M:List Ln}{c:Nat}{w:List Int}(hM:RedU M):bd (lS (lM M c) w):=by
 unfold lS bd;rw[List.pairwise_map];exact(oA hM).sublist Ar
theorem yd{M:List Ln}{c:Nat}{w:List Int}(hM:RedU M):∀z∈lS (lM M c) w,0≤z∧z<(c:Int):=fun z hz=>by
 obtain⟨l,h1,_,rfl⟩:=zd.1 hz;exact((pC hM).1 h1).2
theorem DI{R:List (List Int)}{c:Nat}{w:List Int}(hR:∀r∈R,bd r)(hv:∀r∈R,∀z∈r,0≤z∧z<(c:Int))(hw:bd w)(h0:∀y∈(stE R R.length).2,js w y=false){i:Nat}(hi:i<R.length):bJ (fun z=>bit z (lS (lL R c) w)) (R.getD i default)%2=bit (i:Int) w:=by
 have hsy:=CL hR hv h0;obtain⟨w1,w2,w3⟩:=nV (b:=w) hR hv;obtain⟨e1,e2,e3⟩:=kU w1 w2;rw[yx w1 w2] at hsy;have hs:=gf hR (aO R.length);have hM:=hs.red;have d3:=(kU hR hv).2.2;have hlv:∀l∈(stE R R.length).1,∀z∈l.1,0≤z∧z<(c:Int):=fun l hl=>jB hR hv (kX (fun r hr=>kP hr) (hs.inS l hl))
 have hxm:∀z,z∈lS (lL R c) w↔ ∃l∈(stE R R.length).1,ir l.2 w=true∧ld l.1=z:=fun z=>by
  rw[zd];exact⟨fun⟨l,h1,h2⟩=>⟨l,(d3 l).1 h1,h2⟩,fun⟨l,h1,h2⟩=>⟨l,(d3 l).2 h1,h2⟩⟩
 have hxc:∀z∈lS (lL R c) w,z<(c:Int):=fun z hz=>(yd hM z hz).2;generalize lS (lL R c) w=x at *
 have hgz:∀z:Int,z<(c:Int)→bit z (x++[(c:Int)])=bit z x:=fun z hz=>by
  unfold bit;by_cases h:z∈x
  ·rw[if_pos h,if_pos (eU.2 (.inl h))]
  ·rw [if_neg h,if_neg fun q=>by
     rcases eU.1 q with q|q
     ·exact h q
     ·have:=cV.1 q;omega]
 have hgc:bit (c:Int) (x++[(c:Int)])=1:=dF.2 (eU.2 (.inr (cV.2 rfl)));have hwi:(lm R c w).getD i default∈lm R c w:=ay (by unfold lm;simpa using hi);have hsp:=(e2 _).2 (eC hwi);rw[hsy,zp hi] at hsp
 have hz:=rV (g:=fun z=>bit z (x++[(c:Int)])) hsp fun d hd=>by
  obtain⟨l,hl,rfl⟩:=bE.1 hd;have hl:=(d3 l).1 hl;have hla:=hM.asc l hl;have hne:=hM.ne l hl;have hsame:∀l'∈(stE R R.length).1,ld l'.1∈l.1→l=l':=fun l' hl' h=>hM.own l' hl' l hl h;have hlc:=hlv l hl
  have hld:bJ (fun z=>bit z (x++[(c:Int)])) l.1=bit (ld l.1) x:=by
   have hldm:=dj hne;cases hq:l.1 with
   |nil=>exact absurd hq hne
   |cons z t=>
    rw[hq] at hldm hsame hlc hla;have hz:ld (z::t)=z:=rfl;rw[hz];show bit z (x++[(c:Int)])+bJ _ t=_;rw[hgz z (hlc z cJ).2,iV (a:=t) fun u hu=>?_]
    ·omega
    ·have huc:=hlc u (dL _ hu);rw[hgz u huc.2];unfold bit;rw[if_neg fun hux=>?_];obtain⟨l',h1,_,h3⟩:=(hxm u).1 hux;have h4:=hsame l' h1 (by rw[h3];exact dL _ hu);have h5:=(hU.1 hla.1).1 u hu;rw[←h4,hq] at h3;have:ld (z::t)=z:=rfl;omega
  have hbx:bit (ld l.1) x=if js w l.2=true then 1 else 0:=by
   rw[←pZ hla.2 hw];unfold bit;by_cases h:ir l.2 w=true
   ·rw[if_pos ((hxm _).2 ⟨l,hl,h,rfl⟩),if_pos h]
   ·rw[if_neg fun q=>?_,if_neg h];obtain⟨l',h1,h2,h3⟩:=(hxm _).1 q;have:=hsame l' h1 (by rw[h3];exact dj hne);rw[this] at h;exact h h2
  unfold wdL;by_cases h:js w l.2=true
  ·rw[if_pos h,mf,hld,hbx,if_pos h];show(1+(bit (c:Int) (x++[(c:Int)])+0))%2=0;rw[hgc]
  ·rw[if_neg h,hld,hbx,if_neg h]
 have hri:=hv _ (ay hi);have hcg:bJ (fun z=>bit z (x++[(c:Int)])) (R.getD i default)=bJ (fun z=>bit z x) (R.getD i default):=gJ fun z hz=>hgz z (hri z hz).2;unfold wdR at hz;by_cases h:(i:Int)∈w
 ·rw[if_pos h,mf,hcg] at hz;have hz:(bJ (fun z=>bit z x) (R.getD i default)+(bit (c:Int) (x++[(c:Int)])+0))%2=0:=hz;rw[hgc] at hz;unfold bit at hz ⊢;rw[if_pos h];omega
 ·rw[if_neg h,hcg] at hz;unfold bit at hz ⊢;rw[if_neg h];exact hz
attribute [local irreducible] aH ai be aY aP aQ aD aR aZ bl Go.Abs.Fn aX Go.Abs.Pure aq aK Yl
end Go.Proofs.YtekdaafnjdlenaaGreat
namespace Go.Proofs.YtekdaafnjdlenaaGreat
open Go Go.Abs
theorem wV{n:Nat}{x:List Int}(ha:bd x)(hr:∀z∈x,0≤z∧z<(n:Int)):qf n x=0:=by
 unfold qf;refine dt fun k hk=>?_;rw[sP];have h1:=hr _ (ay hk);rw[if_neg (by omega),if_neg];rintro⟨h0,h2⟩;have h3:=jT.1 ha (k-1) k (by omega) hk (by omega);have e1:x.getD k default=x[k]:=by simp[List.getD,hk]
 have e2:x.getD (k-1) default=x[k-1]:=by simp[List.getD,show k-1<x.length by omega]
 omega
theorem wh:∀{a b:List Nat},bD a=bD b→a=b
 |[],[],_=>rfl
 |[],_::_,h=>by cases h
 |_::_,[],h=>by cases h
 |x::a,y::b,h=>by
  obtain⟨h1,h2⟩:=List.cons.inj h;have h1:(x:Int)=(y:Int):=h1;rw[wh h2,show x=y by omega]
theorem yJ{Y:List Spx}:∀{a b:List Spx},(∀s∈a,s∈Y)→(∀s∈b,s∈Y)→jL Y a=jL Y b→a=b
 |[],[],_,_,_=>rfl
 |[],_::_,_,_,h=>by cases h
 |_::_,[],_,_,h=>by cases h
 |s::a,t::b,h1,h2,h=>by
  obtain⟨e1,e2⟩:=List.cons.inj h;have i1:=np.2 (h1 s cJ);have i2:=np.2 (h2 t cJ);have g1:Y[Y.idxOf s]=s:=List.getElem_idxOf i1;have g2:Y[Y.idxOf t]=t:=List.getElem_idxOf i2
  have e3:s=t:=by
   rw[←g1,←g2]
   congr 1
  rw[e3,yJ (fun u hu=>h1 u (dL _ hu)) (fun u hu=>h2 u (dL _ hu)) e2]
def cyT(c:List Spx)(d:Nat):List (List Spx):=(bsT (bdE c d) (bdN c d) (bsK c d) (bsK c d).length).map (cp (ao c ((d:Int)+1)))
theorem EO{H:Hp}{s:AV}{l:List (List Spx)}(h:Row H 1 s (l.map an)):Snap H s (fw l):=h.snapL' (fun _=>rfl) (fun x _=>bh x)
attribute [local irreducible] aH ai be aY aP aQ aD aR aZ bl Go.Abs.Fn aX Go.Abs.Pure aq aK Yl
theorem Cz(c:List Spx)(d:Nat)(hso:qL (bdN c d+1))(hc:aB c=0)(hl:c.length≤50)(hd:d≤7)(hn:bdN c d≤1000):pU 18 [b9 c,.int .i64 d] (.tup [fw (cyT c d),.int .i64 0]):=by
 refine pO Nm ?_;simp only[b18,aJ];have hch:=n6 c hc hl;obtain⟨mK,lK⟩:=Fl (d:=d) hc hl
 have hchn:∀v∈bsK c d,pU 34 [b9 c,.int .i64 d,aE v] (.tup [an (cp (ao c ((d:Int)+1)) v),.int .i64 0]):=fun v hv=>by
  have:=w7 c d v hl (lf hc) (by have:=(mK.2.2.2 v hv).2.1;omega);have hz:qf (ao c ((d:Int)+1)).length v=0:=wV (fJ mK v hv) (pI mK v hv)
  have e:uw c d v=(cp (ao c ((d:Int)+1)) v,0):=by
   unfold uw;rw[if_neg (fun q=>q hc),if_neg (by omega),if_neg (fun q=>q hz)]
  rw[e] at this;exact this
 unfold cyT;generalize ao c ((d:Int)+1)=X at *;have z0:decide ((0:Int)≠0)=false:=rfl;have z1:decide ((d:Int)<0)=false:=bc (by omega);have z2:decide ((8:Int)≤d)=false:=bc (by omega);refine wnY (zI5 @z0 @z1 @z2 @aj @ae) ?_;refine ba ev0 ev0 (Gc c d _ _) ?_;rintro _ H1 nx1 ⟨rfl,rfl,rfl⟩;refine wnY and_self ?_;refine mY 7 8 rfl rfl ev0 (fun c0 cj hy=>?_);refine Abs.Fn.mono (F6 (nx:=8) (cb:=5) (db:=6) c d hso hc hl hd hn _ (I:=fun F D H' nx'=>8≤nx'∧H' 0=some [an c]∧H' 1=some [.int .i64 d]∧H' 2=some [.esl]∧H' 3=some [.int .i64 0]∧H' 7=some [c0]∧(∀x∈F,8≤x∧x<nx')∧∃sv,H' 4=some [sv]∧Row H' 1 sv ((D.map (cp X)).map an)∧∀b',bZ sv=some b'→8≤b'∧b'<nx'∧b'∉F) ?_ ?_ (by omega) (by omega) ?_ ?_ ?_) ?_
 ·rfl
 ·rfl
 ·rintro F F' D H nx H' nx' ⟨h1,h2,h3,h4,h5,h6,h7,sv,h8,h9,h10⟩ hle hs hF;have lo:∀x,x<8→H' x=H x:=fun x hx=>hs x (by omega) fun e=>by have:=h7 x e;omega
  refine⟨by omega,(lo 0 (by omega)).trans h2,(lo 1 (by omega)).trans h3,(lo 2 (by omega)).trans h4,(lo 3 (by omega)).trans h5,(lo 7 (by omega)).trans h6,fun x hx=>?_,sv,(lo 4 (by omega)).trans h8,h9.same fun b hb=>?_,fun b hb=>?_⟩
  ·rcases hF x hx with h|h
   ·have:=h7 x h;omega
   ·omega
  ·obtain⟨p1,p2,p3⟩:=h10 b hb;exact hs b p2 p3
  ·obtain⟨p1,p2,p3⟩:=h10 b hb;refine⟨p1,by omega,fun e=>?_⟩;rcases hF b e with h|h
   ·exact p3 h
   ·omega
 ·rintro F D v H' nx' ⟨h1,h2,h3,h4,h5,h6,h7,sv,h8,h9,h10⟩ hv hDl;refine hy _ _ _ _ h6 rfl ?_;clear hy;refine wnZ and_self ?_;refine⟨h6,?_⟩;have hdo:∀x,x≠7→dr H' 7 x=H' x:=fun x b=>cQ b;have hcv:=hchn v hv;rw[t8] at hcv;have dcx:Dat (.agg [an c]):=bN c;generalize hH1:dr H' 7=H1 at *;have g2:=(hdo 0 (by omega)).trans h2;have g3:=(hdo 1 (by omega)).trans h3;have g4:=(hdo 4 (by omega)).trans h8;generalize hpv:cp X v=pv at *;refine wnY (zI6 @g2 @g3 @g4 @z0 @aj @ae) ?_;refine nt rfl ev0 (h9.same fun b' hb'=>?_) ev0 i9 rfl rfl nM (by rw[bz,bz];omega) (by rw[bz,bz];omega) ?_
  ·have:=h10 b' hb';rw[ac (by omega)];exact hdo _ (by omega)
  rintro sv' H3 nx3 r1 r2 r3 r4 r5;have zs:∀x,x<8→bZ sv≠some x:=fun x hx e=>by have:=h10 x e;omega
  have z:∀x,x<nx'→x≠7→bZ sv≠some x→H3 x=H' x:=fun x a1 a2 a3=>(r4 x (by omega) a3).trans (by rw[ac (by omega)];exact hdo x a2);have k4:H3 4=some [sv]:=(z 4 (by omega) (by omega) (zs _ (by omega))).trans h8;obtain⟨q1,q2⟩:=r1.one;refine wnY (zI3 @k4 @q1 @q2) ?_;have w:∀x,x≠4→x≠7→ap (ap H3 4 [sv']) 7 [c0] x=H3 x:=fun x a1 a2=>by rw[ac a2,ac a1]
  have u8:∀b',bZ sv'=some b'→8≤b'∧b'<nx3∧b'∉F:=fun b' hb'=>by
   rcases r5 b' hb' with e|⟨e1,e2⟩
   ·obtain⟨p1,p2,p3⟩:=h10 b' e;exact⟨p1,by omega,p3⟩
   ·exact⟨by omega,by omega,fun e=>by have:=h7 b' e;omega⟩
  refine⟨rfl,by omega,fun x hx=>?_,by omega,(w 0 (by omega) (by omega)).trans ((z 0 (by omega) (by omega) (zs _ (by omega))).trans h2),(w 1 (by omega) (by omega)).trans ((z 1 (by omega) (by omega) (zs _ (by omega))).trans h3),(w 2 (by omega) (by omega)).trans ((z 2 (by omega) (by omega) (zs _ (by omega))).trans h4),(w 3 (by omega) (by omega)).trans ((z 3 (by omega) (by omega) (zs _ (by omega))).trans h5),af,fun x hx=>?_,sv',?_,?_,u8⟩
  ·have:=h7 x hx;refine(w x (by omega) (by omega)).trans ?_;exact z x (by omega) (by omega) fun e=>(h10 x e).2.2 hx
  ·have:=h7 x hx;omega
  ·exact(ac (by omega)).trans af
  ·rw[dw,dw,show [v].map (cp X)=[pv] by rw[←hpv];rfl];exact r1.same fun b' hb'=>w b' (by have:=u8 b' hb';omega) (by have:=u8 b' hb';omega)
 ·refine⟨aO _,rfl,rfl,rfl,rfl,af,fun x hx=>(by cases hx),.esl,rfl,.nil,fun b' hb'=>(by cases hb')⟩
 ·rintro r H' nx' ⟨F,h1,h2,h3,h4,h5,h6,h7,sv,h8,h9,h10⟩;refine .inl ⟨h6,?_⟩;obtain⟨q1,q2⟩:=h9.one;have lo:∀x,x≠7→dr H' 7 x=H' x:=fun x b=>cQ b;have k1:Row (dr H' 7) 1 sv (((bsT (bdE c d) (bdN c d) (bsK c d) (bsK c d).length).map (cp X)).map an):=h9.same fun b' hb'=>lo b' (by have:=h10 b' hb';omega);have k2:=(lo 2 (by omega)).trans h4;have k3:=(lo 3 (by omega)).trans h5;have k4:=(lo 4 (by omega)).trans h8;generalize dr H' 7=H1 at *;refine wnY (zI5 @k2 @k3 @k4 @q1 @q2) ?_;refine bM (ag (EO (k1.same fun b' hb'=>?_)) (ag (.int _ _) ak));have:=h10 b' hb';rw[ac (by omega),ac (by omega)]
theorem Ef(c:List Spx)(m:Nat)(hc:aB c=0)(hl:c.length≤50)(hm:tt c=m)(hm8:m≤8)(G:Hp)(n0:Nat):Abs.Fn Tryz.prog 44 [b9 c] G n0 fun r H' nx'=>∃sv,r=.tup [sv,.int .i64 0]∧Row H' 1 sv ((btL c m).map (AV.int .i64))∧n0≤nx'∧(∀x,x<n0→H' x=G x)∧∀b,bZ sv=some b→n0≤b∧b<nx':=by
 refine fO Kf ?_;simp only[b44,aJ];have hdi:=o5 c hc hl;rw[hm] at hdi;have z0:decide ((0:Int)≠0)=false:=rfl;have hed:=fun d(h:d≤8)=>mM c d hc hl h;have hsz:=fun d(h:d≤8)=>rS c d hc hl h;have hrl:=fun d:Int=>cI hc hl (d:=d);have hrk:=fun d:Nat=>A0 (ao c ((d:Int)+1)).length (cK (ao c ((d:Int)+1)) (ao c d)) (kN (by have:=hrl ((d:Int)+1);omega) (by have:=hrl d;omega));have hrf:=fun d:Nat=>xq (c:=c) (d:=d);refine wnY (zI3 @z0 @aj @ae) ?_;refine vj ?_;refine wnY and_self ?_;refine lpI (X:=Nat) (fun k=>[(1,.ptr n0 1 0),(4,.int .i64 ((m:Int)-1)),(7,.mp (n0+1)),(26,.int .i64 ((m:Int)-1+2)),(27,.int .i64 k)]) (fun k H nx=>k≤m+1∧n0+2≤nx∧H n0=some [an c]∧H (n0+1)=some [.omap ((rkK k).map (AV.int .i64)) (rkV c k)]∧∀x,x<n0→H x=G x) (fun k=>m+1-k) 0 ⟨bR _,aO _,(ac (by omega)).trans af,af,fun x hx=>by rw[ac (by omega),ac (by omega)]⟩ ?_;rintro k H nx ⟨g1,g2,g3,g4,gl⟩;by_cases hk:k<m+1
 ·have hed1:=hed k (by omega);have hrk1:=hrk k;have hr1:=hrl ((k:Int)+1);have hd1:Dat (dV (ao c ((k:Int)+1)).length (cK (ao c ((k:Int)+1)) (ao c k))):=dl _ _;change pU 97 _ (.tup [.int .i64 (rkF c k),.int .i64 0]) at hrk1;rw[dp] at hed1 hrk1 hd1;generalize cK (ao c ((k:Int)+1)) (ao c k)=R at *;generalize (ao c ((k:Int)+1)).length=n at *;have z1:decide ((k:Int)<(m:Int)-1+2)=true:=a8 (by omega);refine wnY (zI5 @g3 @z0 @z1 @aj @ae) ?_;have hmf:=iu (k:Int) (rkK k);rw[if_neg (fun q=>by have:=kF.1 q;omega)] at hmf;refine pJ ev0 ((ac (by omega)).trans ((ac (by omega)).trans g4)) ev0 ev0 rfl hmf ?_;refine wnY @z0 ?_;refine⟨k+1,by omega,⟨by omega,by omega,by rw[ac (by omega),ac (by omega),ac (by omega)];exact g3,?_,fun x hx=>by rw[ac (by omega),ac (by omega),ac (by omega)];exact gl x hx⟩,ag0⟩;rw[af,xP,zB,dw];rfl
 obtain rfl:k=m+1:=by omega
 have z1:decide (((m+1:Nat):Int)<(m:Int)-1+2)=false:=bc (by omega);refine wnY @z1 ?_;refine lpI (X:=AV×Nat) (fun x=>[(1,.ptr n0 1 0),(7,.mp (n0+1)),(11,x.1),(51,.int .i64 ((m:Int)-1+1)),(52,.int .i64 x.2)]) (fun x H nx=>x.2≤m∧n0+2≤nx∧H n0=some [an c]∧H (n0+1)=some [.omap ((rkK (m+1)).map (AV.int .i64)) (rkV c (m+1))]∧Row H 1 x.1 ((btL c x.2).map (AV.int .i64))∧(∀b,bZ x.1=some b→n0+2≤b∧b<nx)∧∀x,x<n0→H x=G x) (fun x=>m-x.2) (.esl,0) ⟨bR _,g2,g3,g4,Row.nil,fun b h=>(by cases h),gl⟩ ?_;clear g1 g2 g3 g4 gl;rintro⟨sv,k⟩ H nx ⟨g1,g2,g3,g4,g5,g6,gl⟩;dsimp only at g1 g2 g3 g4 g5 g6 gl ⊢;by_cases hk:k<m
 rotate_left
 ·obtain rfl:k=m:=by omega
  have z1:decide ((k:Int)<(k:Int)-1+1)=false:=bc (by omega);refine wnY @z1 ?_;exact⟨sv,rfl,g5,by omega,gl,fun b hb=>by have:=g6 b hb;omega⟩
 have hsz1:=hsz k (by omega);have hr1:=hrl ((k:Int)+1);have hr2:=hrl (((k+1:Nat):Int)+1);have hf1:=hrf k;have hf2:=hrf (k+1);have hmf1:=iu (k:Int) (rkK (m+1));rw[if_pos (kF.2 (by omega)),rP (by omega)] at hmf1;have hmf2:=iu ((k+1:Nat):Int) (rkK (m+1));rw[if_pos (kF.2 (by omega)),rP (by omega)] at hmf2;rw[show((k+1:Nat):Int)=(k:Int)+1 by omega] at hmf2;have hv1:Go.Abs.mget (.int .i64 0) false (some k) (rkV c (m+1))=.int .i64 (rkF c k):=rI (by omega);have hv2:Go.Abs.mget (.int .i64 0) false (some (k+1)) (rkV c (m+1))=.int .i64 (rkF c (k+1)):=rI (by omega);have hsn:=zQ (c:=c) (n:=k);have hbl:(btL c k).length=k:=by unfold btL;simp
 have hbf:btF c k=((ao c ((k:Int)+1)).length:Int)-(rkF c k:Int)-(rkF c (k+1):Int):=rfl;rw[hbf] at hsn;generalize rkF c k=f1 at *;generalize rkF c (k+1)=f2 at *;generalize (ao c ((k:Int)+1)).length=n at *;generalize (ao c (((k+1:Nat):Int)+1)).length=n2 at *;have z1:decide ((k:Int)<(m:Int)-1+1)=true:=a8 (by omega);refine wnY (zI5 @g3 @z0 @z1 @aj @ae) ?_;refine ja ev0 g4 ev0 rfl hmf1 ?_;rw[hv1];refine wnY and_self ?_;refine ja ev0 g4 ev0 rfl hmf2 ?_;rw[hv2];refine wnY and_self ?_;refine eR (g5.same fun b hb=>?_) ?_
 ·have:=g6 b hb;rw[ac (by omega)]
 rintro s2 H2 nx2 hr3 i1 i2 i3 i4;have hdo:∀b,b<n0+2→bZ sv≠some b:=fun b hb e=>by have:=g6 b e;omega
 have lo2:∀b,b<n0+2→H2 b=H b:=fun b hb=>(i3 b (by omega) (hdo b hb)).trans (by rw[ac (by omega)]);refine wnY and_self ?_;refine⟨(s2,k+1),by dsimp only;omega,⟨by dsimp only;omega,by omega,(lo2 n0 (by omega)).trans g3,(lo2 (n0+1) (by omega)).trans g4,?_,fun b hb=>?_,fun x hx=>(lo2 x (by omega)).trans (gl x hx)⟩,ag0⟩
 ·dsimp only;rw[hsn,dw];exact hr3
 ·rcases i4 b hb with h|h
  ·have:=g6 b h;omega
  ·omega
end Go.Proofs.YtekdaafnjdlenaaGreat
namespace Go.Proofs.YtekdaafnjdlenaaGreat
open Go Go.Abs
theorem E8{H:Hp}{b n j:Nat}{l:List Int}(hb:H b=some (l.map (AV.int .i64)))(hn:l.length=n)(hj:j≤n):Snap H (.msl b n 1 0 j) (aE (l.take j)):=by
 refine jW hb (by simp[hn]) (by omega) (by simp[hn,hj]) (fun y hy=>by simp only[bE] at hy;obtain⟨n,_,rfl⟩:=hy;rfl) (fun i a c ha hc=>?_);rw[cf] at ha;rw[lz,iC] at hc;rw[lz] at ha;split at hc
 ·rw[ha] at hc;cases hc;obtain⟨z,_,rfl⟩:=Option.map_eq_some_iff.1 ha;exact .int _ _
 ·cases hc
def Hv(l:List Int)(k:Int):Bool:=match l with
 |[]=>false
 |x::r=>!((((x-1)::r).take (min (k+1) ((r.length+1:Nat):Int)).toNat).any fun n=>decide (n≠0))
theorem Hc{c:List Spx}{m:Nat}:(btL c m).length=m:=by unfold btL;simp
theorem Iz{c:List Spx}{m:Nat}(hc:aB c=0)(hl:c.length≤50):∀x∈btL c m,-7000≤x∧x≤7000:=fun x hx=>by
 unfold btL at hx;obtain⟨d,_,rfl⟩:=bE.1 hx;unfold btF;have h1:=cI hc hl (d:=(d:Int)+1);have h2:=cI hc hl (d:=((d+1:Nat):Int)+1);have h3:=xq (c:=c) (d:=d);have h4:=xq (c:=c) (d:=d+1);omega
attribute [local irreducible] aH ai be aY aP aQ aD aR aZ bl Go.Abs.Fn aX Go.Abs.Pure aq aK Yl
theorem Jf(n:Int):pU 49 [.int .i64 n] (.bool (decide (n≠0))):=by
 refine pO Nc ?_;simp only[b49,aJ]
 repeat' (first|refine zW ?_|apply a_n|refine zO ?_|refine vZ ?_|refine bI rfl ?_|refine r1Z ?_|fail)
 exact .bool _
theorem pb(c:List Spx)(m:Nat)(k:Int)(hc:aB c=0)(hl:c.length≤50)(hm:tt c=m)(hm8:m≤8)(hk:-1≤k∧k<8):pU 15 [b9 c,.int .i64 k] (.tup [.bool (Hv (btL c m) k),.int .i64 0]):=by
 refine pO ML ?_;simp only[b15,aJ];have hch:=n6 c hc hl;have hbt:=fun G n0=>Ef c m hc hl hm hm8 G n0;have hlen:=Hc (c:=c) (m:=m);have hbd:=Iz (m:=m) hc hl;have z0:decide ((0:Int)≠0)=false:=rfl;have z1:decide (k<(-1:Int))=false:=bc (by omega);have z2:decide ((8:Int)≤k)=false:=bc (by omega);generalize btL c m=l at *;have zz:=aI @z0 (aI @z1 (aI @z2 (aI @aj @ae)));repeat' (first|refine zW ?_|apply a_n|refine zO ?_|refine vY ?_|refine cY ?_ (hp:=hch) (hs:=by(first|refine aA ?_ rfl|apply aM);(repeat' (first|exact ak|apply bg|apply aN|exact bN _));first|done|fail)|refine bxY ?_|refine gTY ?_|refine cFY ?_|fail)
 rw[t8] at hbt;refine ba ev0 ev0 (hbt _ _) ?_;rintro _ H1 nx1 ⟨sv,rfl,hrow,h1,h2,h3⟩;have hls:=hrow.lenS (n:=l.length) (by rw[bz,Nat.mul_one]) nM;cases l with
 |nil=>
  have zn:decide ((0:Int)=0)=true:=rfl;have hls0:dz sv=some (.int .i64 0):=hls;clear zz;have zz:=aI @z0 (aI @hls0 @zn);repeat' (first|refine zW ?_|apply a_n|apply a_r|refine zO ?_|refine vY ?_|refine gTY ?_|(refine zGY ?_ ?_<;>(intro _hg;try (exfalso;omega)))|refine bI rfl ?_|refine r2Y ?_|fail)
  exact bM (ag (.bool _) (ag (.int _ _) ak))
 |cons x r=>
  have zn:decide ((((r.length+1:Nat):Nat):Int)=0)=false:=bc (by omega);obtain⟨B,rfl,hB⟩:=zF hrow (by simp);have hx:=hbd x (cJ ..);have hB1:H1 B=some (.int .i64 x::r.map (AV.int .i64)):=hB;have hN:(x::r).length=r.length+1:=rfl;rw[hN] at hls h3 ⊢;clear zz;have zz:=aI @z0 (aI @hls @zn);repeat' (first|refine zW ?_|apply a_n|refine zO ?_|refine vY ?_|refine gTY ?_|refine cFY ?_|fail)
  have hlc:(AV.int .i64 x::r.map (AV.int .i64)).length=r.length+1:=by simp
  clear zz;have zz:=aI @hB1 (aI @hlc (aI @Int.toNat_zero @wE));repeat' (first|refine zW ?_|apply a_n|refine zO ?_|refine vY ?_|refine stY ?_|fail)
  have hcj:Hv (x::r) k=!((((x-1)::r).take (min (k+1) ((r.length+1:Nat):Int)).toNat).any fun n=>decide (n≠0)):=rfl;obtain⟨j,hj,hjl⟩:∃j:Nat,min (k+1) ((r.length+1:Nat):Int)=j∧j≤r.length+1:=⟨(min (k+1) ((r.length+1:Nat):Int)).toNat,by omega,by omega⟩
  rw[hj,cw] at hcj;rw[hcj,hj]
  have hsl:lw 1 (.msl B (r.length+1) 1 0 (r.length+1)) none (some (.int .i64 j)) none=some (.msl B (r.length+1) 1 0 j):=by
   simp[lw,bL];omega
  clear zz;have zz:=@hsl;repeat' (first|apply a_n|refine zO ?_|refine vY ?_|fail)
  refine ec ev0 ev0 (pB (((x-1)::r).take j) (fun n=>decide (n≠0)) 49 [] (fun x h=>(by cases h)) (fun x _=>Jf x) (show _≤_ by rw[iz];simp;omega)) (aA (ag (E8 (l:=(x-1)::r) (n:=r.length+1) af rfl hjl) (ag (vH ak) ak)) rfl) ?_
  repeat' (first|apply a_n|refine zO ?_|refine vY ?_|refine bI rfl ?_|refine r2Y ?_|fail)
  exact bM (ag (.bool _) (ag (.int _ _) ak))
end Go.Proofs.YtekdaafnjdlenaaGreat
namespace Go.Proofs.YtekdaafnjdlenaaGreat
open Go Go.Abs
def kH(c:List Spx):Nat→Nat
 |0=>0
 |k+1=>kH c k+2^min (c.getD k default).length 10
theorem wO{c:List Spx}:∀k,kH c k≤1024*k
 |0=>bR _
 |k+1=>by
  have ih:=wO (c:=c) k;have:2^min (c.getD k default).length 10≤2^10:=Nat.pow_le_pow_right (by omega) (by omega);unfold kH;omega
theorem tC:∀{l:Spx}{k:Nat},(cE l k).length≤2^l.length
 |l,0=>by rw[nX];exact Nat.one_le_two_pow
 |[],k+1=>by rw[tx];simp
 |x::l,k+1=>by
  have h1:=tC (l:=l) (k:=k);have h2:=tC (l:=l) (k:=k+1);rw[gQ,du,bz,bO,Nat.pow_succ];omega
theorem Eg{c:List Spx}{n:Nat}(h8:∀s∈c,s.length≤8):∀k,k≤c.length→((c.take k).flatMap fun s=>cE s n).length≤kH c k
 |0,_=>by simp
 |k+1,hk=>by
  have ih:=Eg (n:=n) h8 k (by omega);have h1:=h8 _ (ay (l:=c) (i:=k) (by omega));have h2:=tC (l:=c.getD k default) (k:=n);rw[cr (show k<c.length by omega),List.flatMap_append,du];unfold kH;rw[Nat.min_eq_left (by omega)];simp only[uu,List.flatMap_nil,io];omega
theorem F4{c:List Spx}(hc:aB c=0){d:Int}:(ao c d).length≤kH c c.length:=by
 unfold ao;split
 ·simp
 ·unfold jr;have h:=Eg (c:=c) (n:=d.toNat) (fun s hs=>(cu ((d9 hc).2.1 s hs)).2.1) c.length (aO _);rw[List.take_length] at h;exact fB yI h
attribute [local irreducible] aH ai be aY aP aQ aD aR aZ bl Go.Abs.Fn aX Go.Abs.Pure aq aK Yl
end Go.Proofs.YtekdaafnjdlenaaGreat
namespace Go.Proofs.YtekdaafnjdlenaaGreat
open Go Go.Abs
theorem Ia{α:Type}[BEq α][LawfulBEq α]{K:α→α→Int}(hK:LinK K){L:List α}(hL:bQ K L){x y:α}(hx:x∈L)(hy:y∈L)(h:K x y<0):L.idxOf x<L.idxOf y:=by
 have i1:=np.2 hx;have i2:=np.2 hy;have g1:L[L.idxOf x]=x:=List.getElem_idxOf i1;have g2:L[L.idxOf y]=y:=List.getElem_idxOf i2;rcases rz (L.idxOf x) (L.idxOf y) with q|q|q
 ·exact q
 ·have:x=y:=by
    rw[←g1,←g2];congr 1
  rw[this] at h;exact absurd h (hK.ord.irr y)
 ·have:=jT.1 hL _ _ i2 i1 q;rw[g1,g2] at this;exact absurd h (hK.ord.asym _ _ this)
theorem Ft{L a:List Spx}(hL:bQ bH L)(ha:bQ bH a)(h:∀s∈a,s∈L):(jL L a).Pairwise (· < ·):=by
 unfold jL;rw[List.pairwise_map];exact ha.imp_of_mem fun{x y} hx hy hxy=>Ia ji hL (h x hx) (h y hy) hxy
theorem dY{c a:List Spx}{v:List Int}(h:cS c a=(v,0)):aB c=0∧gb a=0∧v=bD (jL (ao c (bw a)) a)∧(∀s∈a,s∈ao c (bw a))∧bd v∧∀z∈v,0≤z∧z<((ao c (bw a)).length:Int):=by
 unfold cS at h;split at h
 ·rename_i q;exact absurd (congrArg Prod.snd h) q
 rename_i q1;split at h
 ·rename_i q;exact absurd (congrArg Prod.snd h) q
 rename_i q2;have e1:aB c=0:=by simpa using q1
 have e2:gb a=0:=by simpa using q2
 split at h
 ·rename_i q;subst q;cases h;exact⟨e1,e2,rfl,fun s hs=>(by cases hs),pr,fun z hz=>(by cases hz)⟩
 split at h
 rotate_left
 ·cases h
 rename_i q3 q4;cases h;have hm:∀s∈a,s∈ao c (bw a):=fun s hs=>oT (eh.1 q4 s hs);refine⟨e1,e2,rfl,hm,ew (Ft kf (fT e2).2.2.1 hm),fun z hz=>?_⟩;obtain⟨i,hi,rfl⟩:=jn.1 hz;unfold jL at hi;obtain⟨s,hs,rfl⟩:=bE.1 hi;have:=np.2 (hm s hs);omega
attribute [local irreducible] aH ai be aY aP aQ aD aR aZ bl Go.Abs.Fn aX Go.Abs.Pure aq aK Yl
theorem Ee(c:List Spx)(hc:aB c≠0)(hl:c.length≤50)(hs:∀s∈c,Shn s):pU 37 [b9 c] (.tup [.int .i64 0,.int .i64 (aB c)]):=by
 refine pO Kw ?_;simp only[b37,aJ];have hcc:=jk c (show _≤_ by omega) hs;generalize aB c=e at *;have z0:decide (e≠(0:Int))=true:=a8 hc;refine wnY (zI3 @z0 @aj @ae) ?_;exact bM (ag (.int _ _) (ag (.int _ _) ak))
theorem sU(c:List Spx)(hl:c.length≤50)(hs:∀s∈c,Shn s):pU 43 [b9 c] (.int .i64 (aB c)):=by
 by_cases hc:aB c=0
 ·rw[hc];exact n6 c hc hl
 refine pO Ix ?_;simp only[b43,aJ];have he:=Ee c hc hl hs;refine wnY (aI @aj @ae) ?_;exact .int _ _
def fm(c a b:List Spx):List Int×List Int×Int:=if (cS c a).2≠0 then([],[],(cS c a).2) else((cS c a).1,(cS c b).1,(cS c b).2)
theorem Br(c a b:List Spx)(hl:c.length≤50)(hs:∀s∈c,Shn s)(ha:ShC a)(hb:ShC b):pU 67 [b9 c,an a,an b] (.tup [aE (fm c a b).1,aE (fm c a b).2.1,.int .i64 (fm c a b).2.2]):=by
 refine pO Nj ?_;simp only[b67,aJ];have hch:=sU c hl hs;have h1:=wI c a hl hs ha;have h2:=wI c b hl hs hb;have hce:aB c≠0→cS c a=([],aB c):=fun h=>by unfold cS;rw[if_pos h]
 unfold fm;generalize cS c a=va at *;generalize cS c b=vb at *;obtain⟨v,e⟩:=va;obtain⟨w,f⟩:=vb;dsimp only at *;by_cases hc:aB c=0
 ·have z0:decide (aB c≠(0:Int))=false:=bc (fun q=>q hc);by_cases he:e=0
  ·subst he;have z1:decide ((0:Int)≠0)=false:=rfl;rw[if_neg (fun q=>q rfl)];refine wnY (zI4 @z0 @z1 @aj @ae) ?_;exact bM (ag (cP v).snap (ag (cP w).snap (ag (.int _ _) ak)))
  ·have z1:decide (e≠(0:Int))=true:=a8 he;rw[if_pos he];refine wnY (zI4 @z0 @z1 @aj @ae) ?_;exact bM (ag (.eslsl 1) (ag (.eslsl 1) (ag (.int _ _) ak)))
 ·have z0:decide (aB c≠(0:Int))=true:=a8 hc;cases hce hc;rw[if_pos hc];refine wnY (zI3 @z0 @aj @ae) ?_;exact bM (ag (.eslsl 1) (ag (.eslsl 1) (ag (.int _ _) ak)))
def cyH(c a:List Spx):List Int×Int:=if (cS c a).2≠0 then([],(cS c a).2) else if bk a=[] then((cS c a).1,0) else([],3)
theorem Ej(c a:List Spx)(hl:c.length≤50)(hs:∀s∈c,Shn s)(ha:ShC a):pU 57 [b9 c,an a] (.tup [aE (cyH c a).1,.int .i64 (cyH c a).2]):=by
 refine pO Nb ?_;simp only[b57,aJ];have h1:=wI c a hl hs ha;have h2:=JT a ha;have hvf:=fun v=>dY (c:=c) (a:=a) (v:=v);unfold cyH;unfold Ht at h2;generalize cS c a=va at *;obtain⟨v,e⟩:=va;dsimp only at *;by_cases he:e=0
 ·subst he;obtain⟨e1,e2,-⟩:=hvf v rfl;rw[if_neg (fun q=>q e2)] at h2;dsimp only at h2;have z1:decide ((0:Int)≠0)=false:=rfl;have z2:decide ((0:Int)=0)=true:=rfl;rw[if_neg (fun q=>q rfl)];by_cases hz:bk a=[]
  ·rw[a8 hz] at h2;rw[if_pos hz];refine wnY (zI4 @z1 @z2 @aj @ae) ?_;exact jI (cP _).snap rfl
  ·rw[bc hz] at h2;rw[if_neg hz];refine wnY (zI4 @z1 @z2 @aj @ae) ?_;exact jI (.eslsl 1) rfl
 ·have z1:decide (e≠(0:Int))=true:=a8 he;rw[if_pos he];refine wnY (zI3 @z1 @aj @ae) ?_;exact jI (.eslsl 1) rfl
end Go.Proofs.YtekdaafnjdlenaaGreat
namespace Go.Proofs.YtekdaafnjdlenaaGreat
open Go Go.Abs
def ie(c a b:List Spx):Int:=if (fm c a b).2.2≠0 then(fm c a b).2.2 else if a≠[]∧b≠[]∧bw b≠bw a+1 then 15 else if (dx b).2≠0 then(dx b).2 else if (dx b).1=a then 0 else 18
theorem lg{c a b:List Spx}(h:(fm c a b).2.2=0):∃v w,cS c a=(v,0)∧cS c b=(w,0)∧fm c a b=(v,w,0):=by
 unfold fm at h ⊢;generalize cS c a=va at *;generalize cS c b=vb at *;obtain⟨v,e⟩:=va;obtain⟨w,f⟩:=vb;dsimp only at *;by_cases he:e=0
 ·subst he;rw[if_neg (fun q=>q rfl)] at h ⊢;dsimp only at h;subst h;exact⟨v,w,rfl,rfl,rfl⟩
 ·rw[if_pos he] at h;exact absurd h he
theorem G8{b:List Spx}(h:gb b=0)(hl:¬4096<(bk b).length):ShC (bk b):=by
 refine⟨show _≤_ by omega,fun s hs=>?_⟩;have:=(cu (mP (fT h).2.1 s hs)).2.1;show _≤_;omega
attribute [local irreducible] aH ai be aY aP aQ aD aR aZ bl Go.Abs.Fn aX Go.Abs.Pure aq aK Yl
theorem fu(c a b:List Spx)(hl:c.length≤50)(hs:∀s∈c,Shn s)(ha:ShC a)(hb:ShC b):pU 25 [b9 c,an a,an b] (.int .i64 (ie c a b)):=by
 refine pO MW ?_;simp only[b25,aJ];have hp:=Br c a b hl hs ha hb;have hbo:=BQ b hb;have hpf:=lg (c:=c) (a:=a) (b:=b);have hal:=ha.1;have hbl:=hb.1;unfold ie;generalize fm c a b=p at *;obtain⟨v,w,e⟩:=p;dsimp only at *;by_cases he:e=0
 rotate_left
 ·have z0:decide (e≠(0:Int))=true:=a8 he;rw[if_pos he];refine wnY (zI3 @z0 @aj @ae) ?_;exact .int _ _
 subst he;obtain⟨v',w',hv,hw,hvw⟩:=hpf rfl;cases hvw;obtain⟨-,hcb,-⟩:=dY hw
 have hbt:dx b=if 4096<(bk b).length then([],5) else(bk b,0):=by
  unfold dx;rw[if_neg (fun q=>q hcb)]
 have z0:decide ((0:Int)≠0)=false:=rfl;rw[if_neg (fun q=>q rfl)];refine dH ?_;have zz:=aI @z0 (aI @aj @ae);repeat' (first|apply a_n|refine zO ?_|refine vY ?_|refine bxY ?_|fail)
 refine dH ?_;refine dH ?_;clear zz;have zz:=aI @z0 (aI @aj @ae);repeat' (first|apply a_n|refine zO ?_|refine vY ?_|refine cY ?_ (hp:=hp) (hs:=by(first|refine aA ?_ rfl|apply aM);(repeat' (first|exact ak|apply bg|apply aN|exact bN _|exact bh _));first|done|fail)|fail)
 refine dH ?_;clear zz;have zz:=aI @z0 (aI @aj @ae);repeat' (first|apply a_n|refine zO ?_|refine vY ?_|refine cFY ?_|fail)
 refine co (fun T H nx=>¬(a≠[]∧b≠[]∧bw b≠bw a+1)∧T 1=an a∧T 2=an b) ?_ ?_
 ·by_cases h1:a=[]
  ·have z1:decide ((0:Int)<a.length)=false:=by rw[h1];rfl
   refine wnY (aI @z1 @ah) ?_;exact⟨fun q=>q.1 h1,rfl,rfl⟩
  have z1:decide ((0:Int)<a.length)=true:=a8 (by have:=gK.2 h1;omega);by_cases h2:b=[]
  ·have z2:decide ((0:Int)<b.length)=false:=by rw[h2];rfl
   refine wnY (zI3 @z1 @z2 @ah) ?_;exact⟨fun q=>q.2.1 h2,rfl,rfl⟩
  have z2:decide ((0:Int)<b.length)=true:=a8 (by have:=gK.2 h2;omega);have ix:=zJ h1;have iy:=zJ h2;have hsa:=ha.2 _ (ay (gK.2 h1));have hsb:=hb.2 _ (ay (gK.2 h2));unfold bw;generalize a.getD 0 default=s at *;generalize b.getD 0 default=t at *;have hsa':s.length≤17592186044416:=hsa;by_cases h3:t.length=s.length+1
  ·have z3:decide ((t.length:Int)≠(s.length:Int)+1)=false:=bc (by omega);refine wnY (zI7 @z1 @z2 @z3 @ix @iy @ah @au) ?_;exact⟨fun q=>q.2.2 h3,rfl,rfl⟩
  ·have z3:decide ((t.length:Int)≠(s.length:Int)+1)=true:=a8 (by omega);rw[if_pos ⟨h1,h2,h3⟩];refine wnY (zI7 @z1 @z2 @z3 @ix @iy @ah @au) ?_;exact .int _ _
 rintro T H nx ⟨h1,t1,t2⟩;rw[if_neg h1];clear zz;clear h1;by_cases h4:4096<(bk b).length
 ·rw[if_pos h4] at hbt;rw[hbt] at hbo ⊢;dsimp only at hbo ⊢;have z5:decide ((5:Int)≠0)=true:=rfl;rw[if_pos (by decide)];refine wnY (zI3 @t1 @t2 @z5) ?_;exact .int _ _
 rw[if_neg h4] at hbt;have heq:=Lg (bk b) a (G8 hcb h4) ha;rw[hbt] at hbo ⊢;dsimp only at hbo ⊢;rw[if_neg (fun q=>q rfl)];generalize bk b=g at *;by_cases h5:g=a
 ·rw[a8 h5] at heq;rw[if_pos h5];refine wnY (zI3 @t1 @t2 @z0) ?_;exact .int _ _
 ·rw[bc h5] at heq;rw[if_neg h5];refine wnY (zI3 @t1 @t2 @z0) ?_;exact .int _ _
def rfT(c a y:List Spx):Int:=if (fm c a y).2.2≠0 then(fm c a y).2.2 else if a=[]∨y=[] then 18 else if bw a≠bw y then 15 else Fu (cK (ao c ((bw a:Int)+1)) (ao c (bw a))) (fm c a y).1 (fm c a y).2.1
theorem gL(c a y:List Spx)(hl:c.length≤50)(hs:∀s∈c,Shn s)(ha:ShC a)(hy:ShC y):pU 27 [b9 c,an a,an y] (.int .i64 (rfT c a y)):=by
 refine pO Ms ?_;simp only[b27,aJ];have hp:=Br c a y hl hs ha hy;have hpf:=lg (c:=c) (a:=a) (b:=y);have hal:=ha.1;have hyl:=hy.1;unfold rfT;generalize fm c a y=p at *;obtain⟨v,w,e⟩:=p;dsimp only at *;by_cases he:e=0
 rotate_left
 ·have z0:decide (e≠(0:Int))=true:=a8 he;rw[if_pos he];refine wnY (zI3 @z0 @aj @ae) ?_;exact .int _ _
 subst he;obtain⟨v',w',hv,hw,hvw⟩:=hpf rfl;cases hvw;obtain⟨hc,hca,-,-,va,vr⟩:=dY hv;obtain⟨-,hcy,-,-,wa,wr⟩:=dY hw;have z0:decide ((0:Int)≠0)=false:=rfl;rw[if_neg (fun q=>q rfl)];by_cases h1:a=[]
 ·have z1:decide ((a.length:Int)=0)=true:=by rw[h1];rfl
  rw[if_pos (.inl h1)];refine wnY (zI5 @z0 @z1 @aj @ae @ah) ?_;exact .int _ _
 have z1:decide ((a.length:Int)=0)=false:=bc (by have:=gK.2 h1;omega);by_cases h2:y=[]
 ·have z2:decide ((y.length:Int)=0)=true:=by rw[h2];rfl
  rw[if_pos (.inr h2)];refine wnY (zI6 @z0 @z1 @z2 @aj @ae @ah) ?_;exact .int _ _
 have z2:decide ((y.length:Int)=0)=false:=bc (by have:=gK.2 h2;omega);rw[if_neg (fun q=>q.elim h1 h2)];have ix:=zJ h1;have iy:=zJ h2;have hsa:=ha.2 _ (ay (gK.2 h1));have hsb:=hy.2 _ (ay (gK.2 h2));have h8:=(cu ((fT hca).2.1 _ (ay (gK.2 h1)))).2.1;unfold bw at *;generalize a.getD 0 default=s at *;generalize y.getD 0 default=t at *;have hsa':s.length≤17592186044416:=hsa;by_cases h3:s.length=t.length
 rotate_left
 ·have z3:decide ((s.length:Int)≠(t.length:Int))=true:=a8 (by omega);rw[if_pos h3];refine wnY (j0 @z0 @z1 @z2 @z3 @ix @iy @aj @ae @ah @au) ?_;exact .int _ _
 have z3:decide ((s.length:Int)≠(t.length:Int))=false:=bc (by omega);rw[if_neg (fun q=>q h3)];rw[←h3] at wr;have hed:=mM c s.length hc hl h8;have hr1:=cI hc hl (d:=(s.length:Int)+1);have hr2:=cI hc hl (d:=(s.length:Int));have hver:=Ec (ao c ((s.length:Int)+1)).length (cK (ao c ((s.length:Int)+1)) (ao c (s.length:Int))) v w (kN (by omega) (by omega)) (by rw[fF];exact vr) va (by rw[fF];exact wr) wa;have hd1:Dat (dV (ao c ((s.length:Int)+1)).length (cK (ao c ((s.length:Int)+1)) (ao c (s.length:Int)))):=dl _ _;rw[dp] at hed hver hd1;generalize cK (ao c ((s.length:Int)+1)) (ao c (s.length:Int))=R at *;generalize (ao c ((s.length:Int)+1)).length=n at *;refine wnY (j0 @z0 @z1 @z2 @z3 @ix @iy @aj @ae @ah @au) ?_;exact .int _ _
end Go.Proofs.YtekdaafnjdlenaaGreat
namespace Go.Proofs.YtekdaafnjdlenaaGreat
open Go Go.Abs
theorem vN{R:List (List Int)}{c:Nat}{w:List Int}(hm:ia c R)(hw:bd w):
    (∃x,qF R c w=(x,[],true)∧x=lS (lL R c) w∧bd x∧(∀z∈x,0≤z∧z<(c:Int))∧(∀y∈(stE R R.length).2,js w y=false)∧∀i,i<R.length→bJ (fun z=>bit z x) (R.getD i default)%2=bit (i:Int) w)∨
    ∃y,qF R c w=([],y,false)∧y∈(stE R R.length).2∧bd y∧(∀z∈y,0≤z∧z<(R.length:Int))∧js w y=true:=by
 have hR:=fJ hm;have hv:=pI hm;have hok:=gf hR (aO R.length);have hdep:∀y∈(stE R R.length).2,bd y∧∀z∈y,0≤z∧z<(R.length:Int):=fun y hy=>⟨(hok.dep y hy).1.2,(hok.dep y hy).2.2⟩
 unfold qF;cases hs:Hu (stE R R.length).2 w with
 |none=>
  left
  have h0:∀y∈(stE R R.length).2,js w y=false:=fun y hy=>by
   have:=List.find?_eq_none.1 hs y hy;rw[pZ (hdep y hy).1 hw] at this;simpa using this
  refine⟨_,rfl,rfl,EI hok.red,yd hok.red,h0,fun i hi=>DI hR hv hw h0 hi⟩
 |some y=>
  right;have hy:=List.mem_of_find?_eq_some hs;have ho:=List.find?_some (p:=fun y=>ir y w) hs;rw[pZ (hdep y hy).1 hw] at ho;exact⟨y,rfl,hy,(hdep y hy).1,(hdep y hy).2,ho⟩
def nT(c a:List Spx):List Spx×List Spx×Bool×Int:=if (cyH c a).2≠0 then([],[],false,(cyH c a).2) else if a=[] then([],[],true,0) else
 if (qF (cK (ao c ((bw a:Int)+1)) (ao c (bw a))) (ao c ((bw a:Int)+1)).length (cyH c a).1).2.2=true then(cp (ao c ((bw a:Int)+1)) (qF (cK (ao c ((bw a:Int)+1)) (ao c (bw a))) (ao c ((bw a:Int)+1)).length (cyH c a).1).1,[],true,0)
 else([],cp (ao c (bw a)) (qF (cK (ao c ((bw a:Int)+1)) (ao c (bw a))) (ao c ((bw a:Int)+1)).length (cyH c a).1).2.1,false,0)
theorem uV{c a:List Spx}(h:(cyH c a).2=0):∃v,cS c a=(v,0)∧cyH c a=(v,0)∧bk a=[]:=by
 unfold cyH at h ⊢;generalize cS c a=va at *;obtain⟨v,e⟩:=va;dsimp only at *;by_cases he:e=0
 ·subst he;rw[if_neg (fun q=>q rfl)] at h ⊢;by_cases hz:bk a=[]
  ·rw[if_pos hz];exact⟨v,rfl,rfl,hz⟩
  ·rw[if_neg hz] at h;cases h
 ·rw[if_pos he] at h;exact absurd h he
theorem Ao{c:List Spx}{d:Nat}{v:List Int}(hc:aB c=0)(hd:d≤7)(ha:bd v)(hv:∀z∈v,0≤z∧z<((ao c ((d:Int)+1)).length:Int)):uw c d v=(cp (ao c ((d:Int)+1)) v,0):=by
 have hz:qf (ao c ((d:Int)+1)).length v=0:=wV ha hv;unfold uw;rw[if_neg (fun q=>q hc),if_neg (by omega),if_neg (fun q=>q hz)]
attribute [local irreducible] aH ai be aY aP aQ aD aR aZ bl Go.Abs.Fn aX Go.Abs.Pure aq aK Yl
set_option maxHeartbeats 1000000 in
theorem mq(c a:List Spx)(hl:c.length≤50)(hs:∀s∈c,Shn s)(ha:ShC a):pU 21 [b9 c,an a] (.tup [an (nT c a).1,an (nT c a).2.1,.bool (nT c a).2.2.1,.int .i64 (nT c a).2.2.2]):=by
 refine pO Mr ?_;simp only[b21,aJ];have hch:=sU c hl hs;have hcy:=Ej c a hl hs ha;have hcf:=uV (c:=c) (a:=a);have hal:=ha.1
 have hce:aB c≠0→cyH c a=([],aB c):=fun h=>by
  unfold cyH cS;rw[if_pos h,if_pos h]
 unfold nT;generalize cyH c a=p at *;obtain⟨v,e⟩:=p;dsimp only at *;have z0:decide ((0:Int)≠0)=false:=rfl;have fin0:∀{H:Hp}{f:Int},Snap H (.tup [.esl,.esl,.bool false,.int .i64 f]) (.tup [an [],an [],.bool false,.int .i64 f]):=bM (ag (.eslsl 1) (ag (.eslsl 1) (ag (.bool _) (ag (.int _ _) ak))));by_cases hc:aB c=0
 rotate_left
 ·cases hce hc;have z1:decide (aB c≠(0:Int))=true:=a8 hc;rw[if_pos hc];refine wnY (zI3 @z1 @aj @ae) ?_;exact r_4 rfl rfl rfl rfl fin0
 rw[hc] at hch;by_cases he:e=0
 rotate_left
 ·have z1:decide (e≠(0:Int))=true:=a8 he;rw[if_pos he];refine wnY (zI4 @z0 @z1 @aj @ae) ?_;exact r_4 rfl rfl rfl rfl fin0
 subst he;obtain⟨v',hv,hvw,hez⟩:=hcf rfl;cases hvw;rw[if_neg (fun q=>q rfl)];by_cases h1:a=[]
 ·have z1:decide ((a.length:Int)=0)=true:=by rw[h1];rfl
  rw[if_pos h1];refine wnY (zI5 @z0 @z1 @aj @ae @ah) ?_;refine r_4 rfl rfl rfl rfl ?_;exact bM (ag (.eslsl 1) (ag (.eslsl 1) (ag (.bool _) (ag (.int _ _) ak))))
 have z1:decide ((a.length:Int)=0)=false:=bc (by have:=gK.2 h1;omega);rw[if_neg h1];obtain⟨-,hca,hvp,-,va,vr⟩:=dY hv;have ix:=zJ h1;have hsa:=(cu ((fT hca).2.1 _ (ay (gK.2 h1))))
 have hv0:v≠[]:=fun e=>by
  rw[hvp] at e;cases a with
  |nil=>exact h1 rfl
  |cons x a=>cases e
 clear hvp;unfold bw at *;generalize a.getD 0 default=s at *;obtain⟨d,hd⟩:∃d,s.length=d+1:=⟨s.length-1,by omega⟩
 have hed:=mM c s.length hc hl hsa.2.1;have hr1:=cI hc hl (d:=(s.length:Int)+1);have hr2:=cI hc hl (d:=(s.length:Int));have hmv:=kN (X:=ao c ((s.length:Int)+1)) (Y:=ao c (s.length:Int)) (by omega) (by omega);have hso:=GF (ao c ((s.length:Int)+1)).length (cK (ao c ((s.length:Int)+1)) (ao c (s.length:Int))) v hmv (by rw[fF];exact vr) va;have hd1:Dat (dV (ao c ((s.length:Int)+1)).length (cK (ao c ((s.length:Int)+1)) (ao c (s.length:Int)))):=dl _ _;have hsl:(s.length:Int)-1+1=s.length:=by omega
 have hsl2:(s.length:Int)-1=(d:Int):=by omega
 rw[dp] at hed hso hd1;rcases vN (w:=v) hmv va with⟨x,q1,-,q2,q3,-,q4⟩|⟨y,q1,q2,q3,q4,-⟩
 ·have h7:s.length≤7:=by
    refine Decidable.byContradiction fun hn=>?_;rw[xI hc (by omega),yT] at q4;obtain⟨z,hz⟩:=List.exists_mem_of_ne_nil _ hv0;have hzr:=vr z hz;have:=q4 z.toNat (by rw[List.length_replicate];omega);rw[show((z.toNat:Nat):Int)=z by omega,dF.2 hz] at this;rw[show(List.replicate (ao c (s.length:Int)).length ([]:List Int)).getD z.toNat default=[] by rw[List.getD_eq_getElem?_getD,List.getElem?_replicate];split<;>rfl] at this;cases this
  have hcn:=w7 c s.length x hl (lf hc) (by have:=eZ q2 q3;omega);rw[Ao hc h7 q2 q3] at hcn;rw[q1] at hso ⊢;dsimp only at hso hcn ⊢;rw[if_pos rfl];generalize cp (ao c ((s.length:Int)+1)) x=b at *;generalize cK (ao c ((s.length:Int)+1)) (ao c (s.length:Int))=R at *;generalize (ao c ((s.length:Int)+1)).length=n at *;refine wnY (zI8 @z0 @z1 @ix @hsl @aj @ae @ah @au) ?_;refine r_4 rfl rfl rfl rfl ?_;exact bM (ag (bh b).snap (ag (.eslsl 1) (ag (.bool _) (ag (.int _ _) ak))))
 ·rw[fF] at q4;have hss:(s.length:Int)=(d:Int)+1:=by omega
  have hcn:=w7 c d y hl (lf hc) (by have:=eZ q3 q4;omega);rw[Ao hc (by omega) q3 (by rw[←hss];exact q4),←hss] at hcn;rw[q1] at hso ⊢;dsimp only at hso hcn ⊢;rw[if_neg (by decide)];generalize cp (ao c (s.length:Int)) y=b at *;generalize cK (ao c ((s.length:Int)+1)) (ao c (s.length:Int))=R at *;generalize (ao c ((s.length:Int)+1)).length=n at *;have hss2:(d:Int)+1=s.length:=hss.symm;refine wnY (zI9 @z0 @z1 @ix @hsl2 @hss2 @aj @ae @ah @au) ?_;refine r_4 rfl rfl rfl rfl ?_;exact bM (ag (.eslsl 1) (ag (bh b).snap (ag (.bool _) (ag (.int _ _) ak))))
end Go.Proofs.YtekdaafnjdlenaaGreat
namespace Go.Proofs.YtekdaafnjdlenaaGreat
open Go Go.Abs
theorem Ex{Y a:List Spx}:bD (jL Y a)=a.map fun s=>((Y.idxOf s:Nat):Int):=by unfold bD jL;rw[List.map_map];rfl
theorem vI{R:List (List Int)}(hR:∀r∈R,bd r){z:Int}:∀{y acc:List Int},bd acc→(∀i∈y,0≤i∧i<(R.length:Int))→bit z (y.foldl (fun a i=>bX a (R.getD i.toNat default)) acc)=(bit z acc+bJ (lC R z) y)%2
 |[],acc,_,_=>by
  have:=gu (z:=z) (a:=acc);show bit z acc=(bit z acc+0)%2;omega
 |i::y,acc,ha,hy=>by
  have hi:=hy i (cJ ..);have hr:bd (R.getD i.toNat default):=hR _ (ay (by omega));rw[List.foldl_cons,vI hR (dU ha hr) fun j hj=>hy j (dL _ hj),dE ha hr];show _=(bit z acc+(lC R z i+bJ (lC R z) y))%2;have:lC R z i=bit z (R.getD i.toNat default):=rfl;omega
theorem x9{R:List (List Int)}(hR:∀r∈R,bd r){z:Int}{y:List Int}(hy:∀i∈y,0≤i∧i<(R.length:Int)):bit z (lA R y)=bJ (lC R z) y%2:=by
 unfold lA;rw[vI hR pr hy,fP,cf]
end Go.Proofs.YtekdaafnjdlenaaGreat
namespace Go.Proofs.YtekdaafnjdlenaaGreat
open Go Go.Abs
open Nat (reduceEqDiff reduceAdd reduceLeDiff)
attribute [local irreducible] aH ai be aY aP aQ aD aR aZ bl Go.Abs.Fn aX Go.Abs.Pure aq aK Yl
end Go.Proofs.YtekdaafnjdlenaaGreat
namespace Go.Proofs.YtekdaafnjdlenaaGreat
open Go Go.Abs
open Nat (reduceEqDiff reduceAdd reduceLeDiff)
attribute [local irreducible] aH ai be aY aP aQ aD aR aZ bl Go.Abs.Fn aX Go.Abs.Pure aq aK Yl
end Go.Proofs.YtekdaafnjdlenaaGreat
namespace Go.Proofs.YtekdaafnjdlenaaGreat
open Go Go.Abs
attribute [local irreducible] aH ai be aY aP aQ aD aR aZ bl Go.Abs.Fn aX Go.Abs.Pure aq aK Yl
end Go.Proofs.YtekdaafnjdlenaaGreat
namespace Go.Proofs.YtekdaafnjdlenaaGreat
open Go Go.Abs
theorem mi.lenS{H:Hp}{s:AV}{l:List (List Int)}(h:mi H s l):dz s=some (.int .i64 l.length):=by
 rcases h with rfl|h
 ·exact eG
 ·exact h.lenS (by rw[bz,Nat.mul_one]) nM
def B5(c:List Spx)(d:Nat)(l:List (List Int)):Bool:=decide (rk (bdM c d++l) (bdN c d)=rk (bdM c d) (bdN c d)+l.length)
attribute [local irreducible] aH ai be aY aP aQ aD aR aZ bl Go.Abs.Fn aX Go.Abs.Pure aq aK Yl
end Go.Proofs.YtekdaafnjdlenaaGreat
namespace Go.Proofs.YtekdaafnjdlenaaGreat
open Go Go.Abs
def onL(l:List (Nat×List AV)):Hp:=fun x=>(l.find? fun p=>decide (p.1=x)).map Prod.snd
theorem GW{H:Hp}{l:List (Nat×List AV)}(h:∀p∈l,H p.1=some p.2):Sub (onL l) H:=fun x cs hx=>by
 unfold onL at hx;obtain⟨p,hp,rfl⟩:=Option.map_eq_some_iff.1 hx;have h1:=List.mem_of_find?_eq_some hp;have h2:=oT (List.find?_some (p:=fun p:Nat×List AV=>decide (p.1=x)) hp);rw[←h2];exact h p h1
theorem Jl{H:Hp}{l1:List (Nat×List AV)}{l2:List (Nat×AV×AV)}(h1:∀p∈l1,H p.1=some p.2)(h2:∀q∈l2,H q.1=some [q.2.1]∧onL l1 q.1=none∧Snap (onL l1) q.2.1 q.2.2):Fz (onL l1) H (onL (l2.map fun q=>(q.1,[q.2.2]))) where
 sub:=GW h1
 to:=fun a cs' h=>by
  have h0:=h;unfold onL at h;obtain⟨p,hp,rfl⟩:=Option.map_eq_some_iff.1 h;have g1:=List.mem_of_find?_eq_some hp;have g2:=oT (List.find?_some (p:=fun p:Nat×List AV=>decide (p.1=a)) hp);obtain⟨q,hq,rfl⟩:=bE.1 g1;obtain⟨k1,k2,k3⟩:=h2 q hq;dsimp only at g2 ⊢;rw[g2] at k1 k2;refine⟨[q.2.1],k1,k2,rfl,fun i u v hu hv=>?_⟩
  match i with
  |0=>simp at hu hv;subst hu;subst hv;exact .inr k3
  |i+1=>simp at hu
attribute [local irreducible] aH ai be aY aP aQ aD aR aZ bl Go.Abs.Fn aX Go.Abs.Pure aq aK Yl
theorem nR(l:List Int)(hl:l.length≤1000):PureF Tryz.prog 42 [aE l] (aC (dZ l)):=by
 refine qO Ni ?_;simp only[b42,aJ];refine wnY and_self ?_;refine b0 (X:=AV×Nat) (fun x=>[(3,x.1),(6,aE l),(7,.int .i64 l.length),(8,.int .i64 x.2)]) (fun x H nx=>x.2≤l.length∧Row H 2 x.1 (cX (dZ (l.take x.2)))∧∀b,bZ x.1=some b→b<nx) (fun x=>l.length-x.2) (.esl,0) ⟨bR _,Row.nil,fun b hb=>(by cases hb)⟩ ag0 ?_;rintro⟨sv,k⟩ H nx ⟨k1,k3,k4⟩;dsimp only at k1 k3 k4 ⊢;by_cases hk:k<l.length
 rotate_left
 ·rw[gz (by omega)] at k3;refine wnY and_self ?_;exact rJ k3
 have ix:=ixV hk;have hpt:=Dy hk;have hcl:(cX (dZ (l.take k))).length=k*2:=by rw[jK];unfold dZ;rw[bz,iz];omega
 refine wnY @ix ?_;refine eR (k3.same fun b hb=>?_) ?_
 ·have:=k4 b hb;rw[ac (by omega)]
 rintro s2 E e hrow hle1 hle2 hsame hb2;refine wnY and_self ?_;refine⟨(s2,k+1),by dsimp only;omega,⟨by dsimp only;omega,?_,fun b hb=>?_⟩,ag0⟩
 ·dsimp only;rw[hpt,mI];exact hrow
 ·rcases hb2 b hb with h|h
  ·have:=k4 b h;omega
  ·omega
end Go.Proofs.YtekdaafnjdlenaaGreat
namespace Go.Proofs.YtekdaafnjdlenaaGreat
open Go Go.Abs
def cU:List Spx:=[dZ [0,1],dZ [0,2],dZ [1,2]]
def gy:List Spx:=[dZ [0,1,2]]
def mh:List Spx:=[dZ [0,1,2],dZ [0,1,3],dZ [0,2,3],dZ [1,2,3]]
theorem vu:aB cU=0:=by decide+kernel
theorem Bo:aB gy=0:=by decide+kernel
theorem F3:aB mh=0:=by decide+kernel
theorem tH{c:List Spx}(h:aB c=0):∀s∈c,Shn s:=lf h
theorem Ei:pU 13 [b9 cU] (.tup [aE [1,1],.int .i64 0]):=by
 have h:=um cU 2 vu (by decide) (by decide+kernel) (by decide)
 rwa [show btL cU 2=[1,1] by decide+kernel] at h
theorem FR:pU 13 [b9 gy] (.tup [aE [1,0,0],.int .i64 0]):=by
 have h:=um gy 3 Bo (by decide) (by decide+kernel) (by decide)
 rwa [show btL gy 3=[1,0,0] by decide+kernel] at h
theorem FX:pU 13 [b9 mh] (.tup [aE [1,0,1],.int .i64 0]):=by
 have h:=um mh 3 F3 (by decide) (by decide+kernel) (by decide)
 rwa [show btL mh 3=[1,0,1] by decide+kernel] at h
theorem IL:pU 18 [b9 cU,.int .i64 1] (.tup [fw [cU],.int .i64 0]):=by
 have h:=Cz cU 1 (qL.le EJ (by decide+kernel)) vu (by decide) (by decide) (by decide+kernel)
 rwa [show cyT cU 1=[cU] by decide+kernel] at h
theorem zi:ShC cU:=⟨by decide,by decide⟩
theorem JF:ShC gy:=⟨by decide,by decide⟩
theorem Nq:ShC [dZ [0,1]]:=⟨by decide,by decide⟩
theorem Kh:ShC [dZ [1,2]]:=⟨by decide,by decide⟩
theorem Mo:ShC []:=⟨by decide,by decide⟩
theorem IG:pU 21 [b9 cU,an cU] (.tup [an [],an [dZ [0,1]],.bool false,.int .i64 0]):=by
 have h:=mq cU cU (by decide) (tH vu) zi
 rwa [show nT cU cU=([],[dZ [0,1]],false,0) by decide+kernel] at h
theorem Js:pU 21 [b9 gy,an cU] (.tup [an gy,an [],.bool true,.int .i64 0]):=by
 have h:=mq gy cU (by decide) (tH Bo) zi
 rwa [show nT gy cU=(gy,[],true,0) by decide+kernel] at h
theorem E9:pU 15 [b9 mh,.int .i64 1] (.tup [.bool true,.int .i64 0]):=by
 have h:=pb mh 3 1 F3 (by decide) (by decide+kernel) (by decide) (by decide)
 rwa [show Hv (btL mh 3) 1=true by decide+kernel] at h
theorem F1:pU 15 [b9 mh,.int .i64 2] (.tup [.bool false,.int .i64 0]):=by
 have h:=pb mh 3 2 F3 (by decide) (by decide+kernel) (by decide) (by decide)
 rwa [show Hv (btL mh 3) 2=false by decide+kernel] at h
theorem Ga:pU 27 [b9 cU,an cU,an [dZ [0,1]]] (.int .i64 0):=by
 have h:=gL cU cU [dZ [0,1]] (by decide) (tH vu) zi Nq
 rwa [show rfT cU cU [dZ [0,1]]=0 by decide+kernel] at h
theorem FG:pU 27 [b9 cU,an cU,an [dZ [1,2]]] (.int .i64 0):=by
 have h:=gL cU cU [dZ [1,2]] (by decide) (tH vu) zi Kh
 rwa [show rfT cU cU [dZ [1,2]]=0 by decide+kernel] at h
theorem EY:pU 27 [b9 gy,an cU,an [dZ [1,2]]] (.int .i64 18):=by
 have h:=gL gy cU [dZ [1,2]] (by decide) (tH Bo) zi Kh
 rwa [show rfT gy cU [dZ [1,2]]=18 by decide+kernel] at h
theorem EF:pU 25 [b9 gy,an cU,an gy] (.int .i64 0):=by
 have h:=fu gy cU gy (by decide) (tH Bo) zi JF
 rwa [show ie gy cU gy=0 by decide+kernel] at h
theorem B3:pU 25 [b9 cU,an cU,an []] (.int .i64 18):=by
 have h:=fu cU cU [] (by decide) (tH vu) zi Mo
 rwa [show ie cU cU []=18 by decide+kernel] at h
theorem KG:pU 17 [aE [1,1],aE [1,1]] (.bool true):=by
 have:=uf [1,1] [1,1] (by decide) (by decide)
 rwa [a8 rfl] at this
theorem JY:pU 17 [aE [1,0,0],aE [1,0,0]] (.bool true):=by
 have:=uf [1,0,0] [1,0,0] (by decide) (by decide)
 rwa [a8 rfl] at this
theorem JM:pU 17 [aE [1,0,1],aE [1,0,1]] (.bool true):=by
 have:=uf [1,0,1] [1,0,1] (by decide) (by decide)
 rwa [a8 rfl] at this
theorem KP(l:List Spx)(h:ShC l):pU 23 [an l,an l] (.bool true):=by
 have:=CB l l h.1 h.1 h.2 h.2
 rwa [a8 rfl] at this
attribute [local irreducible] aH ai be aY aP aQ aD aR aZ bl Go.Abs.Fn aX Go.Abs.Pure aq aK Yl
set_option maxHeartbeats 4000000 in
theorem gx:pU 12 [] (.bool true):=by
 refine pO Nf ?_;simp only[b12,aJ];have o01:PureF Tryz.prog 42 [aE [0,1]] (aC (dZ [0,1])):=nR _ (by decide);have o02:PureF Tryz.prog 42 [aE [0,2]] (aC (dZ [0,2])):=nR _ (by decide);have o12:PureF Tryz.prog 42 [aE [1,2]] (aC (dZ [1,2])):=nR _ (by decide);have o012:PureF Tryz.prog 42 [aE [0,1,2]] (aC (dZ [0,1,2])):=nR _ (by decide);have o013:PureF Tryz.prog 42 [aE [0,1,3]] (aC (dZ [0,1,3])):=nR _ (by decide);have o023:PureF Tryz.prog 42 [aE [0,2,3]] (aC (dZ [0,2,3])):=nR _ (by decide);have o123:PureF Tryz.prog 42 [aE [1,2,3]] (aC (dZ [1,2,3])):=nR _ (by decide);have zz:=aI @bf (aI @aU (aI @aj @ae));repeat' (first|refine zW ?_|apply a_n|refine zO ?_|refine vZ ?_|refine blZ ?_|fail)
 refine fQ ev0 ev0 o01 (ag (d8 (n:=2) (len:=2) (l:=[0,1]) (by exact rfl) rfl rfl) ak) ?_;clear zz;have zz:=aI @bf (aI @aU (aI @aj @ae));repeat' (first|apply a_n|refine zO ?_|refine blZ ?_|fail)
 refine fQ ev0 ev0 o02 (ag (d8 (n:=2) (len:=2) (l:=[0,2]) (by exact rfl) rfl rfl) ak) ?_;clear zz;have zz:=aI @bf (aI @aU (aI @aj @ae));repeat' (first|apply a_n|refine zO ?_|refine blZ ?_|fail)
 refine fQ ev0 ev0 o12 (ag (d8 (n:=2) (len:=2) (l:=[1,2]) (by exact rfl) rfl rfl) ak) ?_;clear zz;have zz:=aI @bf (aI @aU (aI @aj @ae));repeat' (first|refine zW ?_|apply a_n|refine zO ?_|refine vZ ?_|refine blZ ?_|fail)
 refine fQ ev0 ev0 o012 (ag (d8 (n:=3) (len:=3) (l:=[0,1,2]) (by exact rfl) rfl rfl) ak) ?_;clear zz;have zz:=aI @bf (aI @aU (aI @aj @ae));repeat' (first|refine zW ?_|apply a_n|refine zO ?_|refine vZ ?_|refine alZ ?_|refine stZ ?_|refine blZ ?_|fail)
 refine fQ ev0 ev0 o012 (ag (d8 (n:=3) (len:=3) (l:=[0,1,2]) (by exact rfl) rfl rfl) ak) ?_;clear zz;have zz:=aI @bf (aI @aU (aI @aj @ae));repeat' (first|apply a_n|refine zO ?_|refine blZ ?_|fail)
 refine fQ ev0 ev0 o013 (ag (d8 (n:=3) (len:=3) (l:=[0,1,3]) (by exact rfl) rfl rfl) ak) ?_;clear zz;have zz:=aI @bf (aI @aU (aI @aj @ae));repeat' (first|apply a_n|refine zO ?_|refine blZ ?_|fail)
 refine fQ ev0 ev0 o023 (ag (d8 (n:=3) (len:=3) (l:=[0,2,3]) (by exact rfl) rfl rfl) ak) ?_;clear zz;have zz:=aI @bf (aI @aU (aI @aj @ae));repeat' (first|apply a_n|refine zO ?_|refine blZ ?_|fail)
 refine fQ ev0 ev0 o123 (ag (d8 (n:=3) (len:=3) (l:=[1,2,3]) (by exact rfl) rfl rfl) ak) ?_;clear zz;have zz:=aI @bf (aI @aU (aI @aj @ae));repeat' (first|apply a_n|refine zO ?_|refine vZ ?_|refine alZ ?_|refine stZ ?_|refine blZ ?_|fail)
 refine dH ?_;refine pE (onL [(3,[aC (dZ [0,1]),aC (dZ [0,2]),aC (dZ [1,2])]),(5,[aC (dZ [0,1,2])]),(12,[aC (dZ [0,1,2]),aC (dZ [0,1,3]),aC (dZ [0,2,3]),aC (dZ [1,2,3])])]) _ [(1,an cU),(2,.ptr 6 1 0),(3,.ptr 7 1 0),(4,.ptr 13 1 0)] (Jl (l2:=[(6,.msl 3 3 1 0 3,an cU),(7,.msl 5 1 1 0 1,an gy),(13,.msl 12 4 1 0 4,an mh)]) ?_ ?_) ⟨.inr (pp (l:=cU) rfl rfl),.inl rfl,.inl rfl,.inl rfl,trivial⟩ ?_
 ·intro p hp;simp only[cR,List.not_mem_nil,or_false] at hp;rcases hp with rfl|rfl|rfl<;>exact rfl
 ·intro q hq;simp only[cR,List.not_mem_nil,or_false] at hq;rcases hq with rfl|rfl|rfl
  ·exact⟨rfl,rfl,pp (l:=cU) rfl rfl⟩
  ·exact⟨rfl,rfl,pp (l:=gy) rfl rfl⟩
  ·exact⟨rfl,rfl,pp (l:=mh) rfl rfl⟩
 have h6:onL ([(6,AV.msl 3 3 1 0 3,an cU),(7,.msl 5 1 1 0 1,an gy),(13,.msl 12 4 1 0 4,an mh)].map fun q=>(q.1,[q.2.2])) 6=some [an cU]:=rfl;have h7:onL ([(6,AV.msl 3 3 1 0 3,an cU),(7,.msl 5 1 1 0 1,an gy),(13,.msl 12 4 1 0 4,an mh)].map fun q=>(q.1,[q.2.2])) 7=some [an gy]:=rfl;have h13:onL ([(6,AV.msl 3 3 1 0 3,an cU),(7,.msl 5 1 1 0 1,an gy),(13,.msl 12 4 1 0 4,an mh)].map fun q=>(q.1,[q.2.2])) 13=some [an mh]:=rfl;generalize onL ([(6,AV.msl 3 3 1 0 3,an cU),(7,.msl 5 1 1 0 1,an gy),(13,.msl 12 4 1 0 4,an mh)].map fun q=>(q.1,[q.2.2]))=HH at *;have sl2:lw 1 (an cU) (some (.int .i64 2)) none none=some (an [dZ [1,2]]):=rfl;have lc1:dz (fw [cU])=some (.int .i64 1):=rfl;have z18:ey 1 (fw [cU]) (.int .i64 0)=some (.iptr [an cU] 0):=rfl;have s1:=KP cU zi;have hce:∀c:List Spx,AV.agg [an c]=b9 c:=fun _=>rfl;clear zz;have zz:=aI @h6 (aI @h7 (aI @h13 (aI @sl2 (aI @lc1 (aI @z18 (aI @bf (aI @aU (aI @aj @ae))))))));repeat' (first|refine zW ?_|apply a_n|refine zO ?_|refine vZ ?_|refine cZ ?_ (hp:=by first|exact Ei|exact FR|exact FX|exact IL|exact IG|exact Js|exact E9|exact F1|exact Ga|exact FG|exact EY|exact EF|exact B3|exact s1) (hs:=by(first|refine aA ?_ rfl|apply aM);(repeat' (first|exact ak|apply bg|apply aN|exact bh _|exact bN _|exact jw _|exact cP _));first|done|fail)|refine blZ ?_|refine gTZ ?_|(refine zGZ ?_ ?_<;>(intro _hg;try (exfalso;omega)))|fail)
 refine ec ev0 ev0 KG (aA (ag (cP _ _) (ag (d8 (n:=2) (len:=2) (l:=[1,1]) (by exact rfl) rfl rfl) ak)) rfl) ?_;clear zz;have zz:=aI @h6 (aI @h7 (aI @h13 (aI @sl2 (aI @lc1 (aI @z18 (aI @bf (aI @aU (aI @aj @ae))))))));repeat' (first|apply a_n|refine zO ?_|refine vZ ?_|refine blZ ?_|refine gTZ ?_|fail)
 refine ec ev0 ev0 JY (aA (ag (cP _ _) (ag (d8 (n:=3) (len:=3) (l:=[1,0,0]) (by exact rfl) rfl rfl) ak)) rfl) ?_;clear zz;have zz:=aI @h6 (aI @h7 (aI @h13 (aI @sl2 (aI @lc1 (aI @z18 (aI @bf (aI @aU (aI @aj @ae))))))));repeat' (first|apply a_n|refine zO ?_|refine vZ ?_|refine blZ ?_|refine gTZ ?_|fail)
 refine ec ev0 ev0 JM (aA (ag (cP _ _) (ag (d8 (n:=3) (len:=3) (l:=[1,0,1]) (by exact rfl) rfl rfl) ak)) rfl) ?_;clear zz;have zz:=aI @h6 (aI @h7 (aI @h13 (aI @sl2 (aI @lc1 (aI @z18 (aI @bf (aI @aU (aI @aj @ae))))))));repeat' (first|refine zW ?_|apply a_n|refine zO ?_|refine vZ ?_|refine cZ ?_ (hp:=by first|exact Ei|exact FR|exact FX|exact IL|exact IG|exact Js|exact E9|exact F1|exact Ga|exact FG|exact EY|exact EF|exact B3|exact s1) (hs:=by(first|refine aA ?_ rfl|apply aM);(repeat' (first|exact ak|apply bg|apply aN|exact bh _|exact bN _|exact jw _|exact cP _));first|done|fail)|refine blZ ?_|refine gTZ ?_|(refine zGZ ?_ ?_<;>(intro _hg;try (exfalso;omega)))|refine cFZ ?_|fail)
 refine fQ ev0 ev0 o012 (ag (d8 (n:=3) (len:=3) (l:=[0,1,2]) (by exact rfl) rfl rfl) ak) ?_;clear zz;have zz:=aI @h6 (aI @h7 (aI @h13 (aI @sl2 (aI @lc1 (aI @z18 (aI @bf (aI @aU (aI @aj @ae))))))));repeat' (first|apply a_n|refine zO ?_|refine blZ ?_|refine gTZ ?_|fail)
 refine ec ev0 ev0 (KP gy JF) (aA (ag (bh _ _) (ag (pp (b:=18) (n:=1) (l:=gy) (by exact rfl) rfl) ak)) rfl) ?_;clear zz;have zz:=aI @h6 (aI @h7 (aI @h13 (aI @sl2 (aI @lc1 (aI @z18 (aI @bf (aI @aU (aI @aj @ae))))))));repeat' (first|refine zW ?_|apply a_n|refine zO ?_|refine vZ ?_|refine gTZ ?_|refine cFZ ?_|fail)
 try refine Go.Abs.w_mix1 ?_
 clear zz;have zz:=aI @h6 (aI @h7 (aI @h13 (aI @sl2 (aI @lc1 (aI @z18 (aI @bf (aI @aU (aI @aj @ae))))))));repeat' (first|apply a_n|refine zO ?_|refine vZ ?_|refine cZ ?_ (hp:=by first|exact Ei|exact FR|exact FX|exact IL|exact IG|exact Js|exact E9|exact F1|exact Ga|exact FG|exact EY|exact EF|exact B3|exact s1) (hs:=by(first|refine aA ?_ rfl|apply aM);(repeat' (first|exact ak|apply bg|apply aN|exact bh _|exact bN _|exact jw _|exact cP _));first|done|fail)|refine gTZ ?_|(refine zGZ ?_ ?_<;>(intro _hg;try (exfalso;omega)))|fail)
 refine ec ev0 ev0 B3 (aA (ag (bN _ _) (ag (bh _ _) (ag (.eslsl 1) ak))) rfl) ?_
 repeat' (first|apply a_n|refine zO ?_|refine vZ ?_|refine gTZ ?_|refine bI rfl ?_|refine r1Z ?_|fail)
 exact .bool _
end Go.Proofs.YtekdaafnjdlenaaGreat
namespace Go.Proofs.YtekdaafnjdlenaaGreat
open Go Go.Abs
open Nat (reduceEqDiff reduceAdd reduceLeDiff)
attribute [local irreducible] aH ai be aY aP aQ aD aR aZ bl Go.Abs.Fn aX Go.Abs.Pure aq aK Yl
def tv(c:List Spx)(l:List (List Spx)):Bool:=l.all uz&&(kG c&&decide (kH c c.length≤400))
theorem Hj(c:List Spx)(l:List (List Spx))(hc:Shn c)(hs:∀s∈c,Shn s)(hl:Shn l)(ha:∀a∈l,ShC a):pU 11 [b9 c,fw l] (.bool (tv c l)):=by
 refine pO MP ?_;simp only[b11,aJ];have hc':c.length≤17592186044416:=hc;have hl':l.length≤17592186044416:=hl;have f1:=Gk c hc hs;unfold tv;refine wnY (zI3 @aj @ae @uq) ?_;refine lpI (X:=Nat) (fun k=>[(2,.ptr 0 1 0),(10,fw l),(11,.int .i64 l.length),(12,.int .i64 k)]) (fun k H nx=>k≤l.length∧H 0=some [an c]∧∀i,i<k→uz (l.getD i default)=true) (fun k=>l.length-k) 0 ⟨bR _,rfl,fun i h=>absurd h (by omega)⟩ ?_;rintro k H nx ⟨k1,g0,k2⟩;by_cases hk:k<l.length
 ·have ix:=MJ hk;have hf:=H9 (l.getD k default) (ha _ (ay hk));cases hv:uz (l.getD k default)
  ·rw[iY hk hv,Bool.false_and];rw[hv] at hf;generalize l.getD k default=a at *;refine wnY @ix ?_;exact .bool _
  ·rw[hv] at hf
   have k3:∀i,i<k+1→uz (l.getD i default)=true:=fun i hi=>by
    rcases(by omega:i<k∨i=k) with h|rfl
    ·exact k2 i h
    ·exact hv
   generalize l.getD k default=a at *;refine wnY @ix ?_;exact⟨k+1,by omega,⟨by omega,g0,k3⟩,ag0⟩
 obtain rfl:k=l.length:=by omega
 rw[jU k2,Bool.true_and];refine wnY (aI @g0 @ah) ?_;clear k2 k1 hk;refine lpI (X:=Nat) (fun k=>[(2,.ptr 0 1 0),(7,.int .i64 (kH c k)),(21,an c),(22,.int .i64 c.length),(23,.int .i64 k)]) (fun k H nx=>k≤c.length∧H 0=some [an c]) (fun k=>c.length-k) 0 ⟨bR _,g0⟩ ?_;clear g0;rintro k H nx ⟨g1,g2⟩;have hb:=wO (c:=c) k;by_cases hk:k<c.length
 ·have ix:=fj hk;have hsl:(c.getD k default).length≤17592186044416:=hs _ (ay hk);have hb2:=wO (c:=c) (k+1);have hfs:kH c (k+1)=kH c k+2^min (c.getD k default).length 10:=rfl
  have hsh:∀tb tf,br .shl tb tf (.int .i64 1) (.int .i64 (min ((c.getD k default).length:Int) 10))=some (.int .i64 ((2^min (c.getD k default).length 10:Nat):Int)):=fun tb tf=>by
   have h1:min ((c.getD k default).length:Int) 10=((min (c.getD k default).length 10:Nat):Int):=by omega
   have h2:2^min (c.getD k default).length 10≤2^10:=Nat.pow_le_pow_right (by omega) (by omega);rw[h1];have:=BH (k:=.i64) (k':=.i64) (a:=1) (b:=min (c.getD k default).length 10) (tb:=tb) (tf:=tf) (by show _≤64;omega) (by show 1*_<2^63;omega);rw[Nat.one_mul] at this;exact this
  rw[hfs] at hb2;generalize 2^min (c.getD k default).length 10=P at *;generalize c.getD k default=s at *;have hce:((kH c (k+1):Nat):Int)=(kH c k:Int)+(P:Int):=by rw[hfs];omega
  refine wnY (zI3 @ix @au @hsh) ?_;exact⟨k+1,by omega,⟨by omega,g2⟩,by rw[hce];simp (disch:=omega) only[agr,ZG,reduceEqDiff,↓reduceIte]⟩
 obtain rfl:k=c.length:=by omega
 cases e1:kG c
 ·rw[e1] at f1;rw[Bool.false_and];refine wnY (zI3 @g2 @aj @ae) ?_;exact .bool _
 rw[e1] at f1;rw[Bool.true_and];by_cases h3:kH c c.length≤400
 ·have z:decide ((kH c c.length:Int)≤400)=true:=a8 (by omega);rw[a8 h3];refine wnY (zI4 @g2 @z @aj @ae) ?_;exact .bool _
 ·have z:decide ((kH c c.length:Int)≤400)=false:=bc (by omega);rw[bc h3];refine wnY (zI4 @g2 @z @aj @ae) ?_;exact .bool _
theorem CY{c:List Spx}{l:List (List Spx)}(h:tv c l=true):(∀a∈l,uz a=true)∧c.length≤30∧kH c c.length≤400:=by
 unfold tv at h;simp only[dR,iq] at h;exact⟨fun a ha=>eh.1 h.1 a ha,(Aw.1 h.2.1).1,h.2.2⟩
end Go.Proofs.YtekdaafnjdlenaaGreat
namespace Go.Proofs.YtekdaafnjdlenaaGreat
open Go Go.Abs
theorem FE{X b:List Spx}(h:∀s∈b,s∈X):cp X (bD (jL X b))=b:=by
 rw[Ex];unfold cp;rw[List.map_map];refine(pe fun s hs=>?_).trans (List.map_id b);show X.getD ((X.idxOf s:Nat):Int).toNat default=s;rw[cw];exact(kp (h s hs)).2
theorem mF{c:List Spx}{k:Nat}{x:List Int}(hc:aB c=0)(hl:c.length≤50)(hf:kH c c.length≤400)(hk:k<8)(ha:bd x)(hr:∀z∈x,0≤z∧z<((ao c ((k:Int)+1)).length:Int)):
    cS c (cp (ao c ((k:Int)+1)) x)=(x,0)∧ShC (cp (ao c ((k:Int)+1)) x)∧(∀s∈cp (ao c ((k:Int)+1)) x,s.length=k+1)∧dx (cp (ao c ((k:Int)+1)) x)=(bk (cp (ao c ((k:Int)+1)) x),0)∧ShC (bk (cp (ao c ((k:Int)+1)) x))∧cS c (bk (cp (ao c ((k:Int)+1)) x))=(bD (eV (cK (ao c ((k:Int)+1)) (ao c k)) x),0)∧(∀s∈bk (cp (ao c ((k:Int)+1)) x),s.length=k∧s∈ao c k)∧bD (eV (cK (ao c ((k:Int)+1)) (ao c k)) x)=bD (jL (ao c k) (bk (cp (ao c ((k:Int)+1)) x))):=by
 have hfr:=F4 hc (d:=(k:Int)+1);have hxl:=eZ ha hr;obtain⟨a,b,k1,k2,k3,k4,k5,k6,k7,k8,j1,j2,j3,j4,j5,j6⟩:=uK (c:=c) (k:=k) (v:=x) hc hl hk (by omega) (wV ha hr);rw[Ao hc (by omega) ha hr] at k1;cases k1;subst j1;exact⟨k2,k5,j3,k3,k6,k8,fun s hs=>⟨j4 s hs,j5 s hs⟩,j6⟩
theorem xW{c b:List Spx}{w:List Int}(h:cS c b=(w,0)):b=cp (ao c (bw b)) w:=by
 obtain⟨-,-,e,hm,-⟩:=dY h;rw[e,FE hm]
theorem xn{c:List Spx}(hc:aB c=0):cS c []=([],0):=by
 unfold cS;rw[if_neg (fun q=>q hc),if_neg (fun q=>q rfl),if_pos rfl]
theorem BW{c a b:List Spx}{v w:List Int}(h1:cS c a=(v,0))(h2:cS c b=(w,0)):fm c a b=(v,w,0):=by
 unfold fm;rw[h1,h2];rfl
theorem H6{c a b:List Spx}(h:ie c a b=0):∃v w,cS c a=(v,0)∧cS c b=(w,0)∧(a≠[]→b≠[]→bw b=bw a+1)∧bk b=a:=by
 unfold ie at h;by_cases he:(fm c a b).2.2=0
 rotate_left
 ·rw[if_pos he] at h;exact absurd h he
 rw[if_neg (show ¬((fm c a b).2.2≠0) from fun q=>q he)] at h;obtain⟨v,w,hv,hw,-⟩:=lg he;obtain⟨-,hcb,-⟩:=dY hw;by_cases h1:a≠[]∧b≠[]∧bw b≠bw a+1
 ·rw[if_pos h1] at h;exact absurd h (by decide)
 rw[if_neg h1] at h
 have hb:dx b=if 4096<(bk b).length then([],5) else(bk b,0):=by
  unfold dx;rw[if_neg (fun q=>q hcb)]
 rw[hb] at h;by_cases h4:4096<(bk b).length
 ·rw[if_pos h4] at h;exact absurd (show(5:Int)=0 from h) (by decide)
 rw[if_neg h4] at h;refine⟨v,w,hv,hw,fun q1 q2=>Classical.byContradiction fun q=>h1 ⟨q1,q2,q⟩,?_⟩;have h:(if bk b=a then(0:Int) else 18)=0:=h;by_cases q:bk b=a
 ·exact q
 ·rw[if_neg q] at h;exact absurd h (by decide)
theorem rQ{c a b:List Spx}{v w:List Int}(h1:cS c a=(v,0))(h2:cS c b=(w,0))(h3:a≠[]→b≠[]→bw b=bw a+1)(h4:dx b=(a,0)):ie c a b=0:=by
 unfold ie;rw[BW h1 h2,if_neg (show ¬((v,w,(0:Int)).2.2≠0) from fun q=>q rfl),if_neg (fun q=>q.2.2 (h3 q.1 q.2.1)),h4,if_neg (fun q=>q rfl),if_pos rfl]
theorem J0{c a y:List Spx}(h:rfT c a y=0):∃v w,cS c a=(v,0)∧cS c y=(w,0)∧a≠[]∧y≠[]∧bw a=bw y∧lA (cK (ao c ((bw a:Int)+1)) (ao c (bw a))) w=[]∧ir w v=true:=by
 unfold rfT at h;by_cases he:(fm c a y).2.2=0
 rotate_left
 ·rw[if_pos he] at h;exact absurd h he
 rw[if_neg (show ¬((fm c a y).2.2≠0) from fun q=>q he)] at h;obtain⟨v,w,hv,hw,e⟩:=lg he;rw[e] at h;by_cases h1:a=[]∨y=[]
 ·rw[if_pos h1] at h;exact absurd h (by decide)
 rw[if_neg h1] at h;by_cases h2:bw a=bw y
 rotate_left
 ·rw[if_pos h2] at h;exact absurd h (by decide)
 rw[if_neg (fun q=>q h2)] at h;unfold Fu at h;dsimp only at h;split at h
 ·rename_i q1;split at h
  ·rename_i q2;exact⟨v,w,hv,hw,fun q=>h1 (.inl q),fun q=>h1 (.inr q),h2,q1,q2⟩
  ·exact absurd h (by decide)
 ·exact absurd h (by decide)
theorem Iv{c:List Spx}(hc:aB c=0):cyH c []=([],0):=by
 unfold cyH;rw[xn hc];rfl
theorem ET{R:List (List Int)}{c:Nat}{x w:List Int}(hR:VR c R)(hx:bd x)(hw:bd w)(hwr:∀z∈w,0≤z∧z<(R.length:Int))(h:∀i,i<R.length→bJ (fun z=>bit z x) (R.getD i default)%2=bit (i:Int) w):bD (eV R x)=w:=by
 have ha:bd (bD (eV R x)):=ew (List.pairwise_lt_range.sublist Ar);refine iS ha hw fun z=>?_;by_cases hz:0≤z∧z<(R.length:Int)
 ·obtain⟨i,rfl⟩:=Int.eq_ofNat_of_zero_le hz.1;have hi:i<R.length:=by omega
  have hra:=hR.asc _ (ay hi);rw[u0 hR.asc hx hi,←h i hi];have e:=vq hra hx;unfold js at e;have e:=decide_eq_decide.1 e;omega
 ·have n1:z∉bD (eV R x):=fun q=>by
    obtain⟨i,hi,rfl⟩:=jn.1 q;have:=eo.1 (fG.1 hi).1;omega
  have n2:z∉w:=fun q=>hz (hwr z q);simp[bit,n1,n2]
theorem qw{c a:List Spx}(hc:aB c=0)(hl:c.length≤50)(hf:kH c c.length≤400)(h:(cyH c a).2=0):
    (∃b,nT c a=(b,[],true,0)∧ShC b∧ie c a b=0∧∀y,rfT c a y≠0)∨ ∃y,nT c a=([],y,false,0)∧ShC y∧rfT c a y=0∧∀b,ie c a b≠0:=by
 obtain⟨v,hv,hcv,hez⟩:=uV h;by_cases h0:a=[]
 ·subst h0;left;refine⟨[],?_,⟨bR _,fun s h=>(by cases h)⟩,rQ hv hv (fun q=>absurd rfl q) rfl,fun y q=>?_⟩
  ·unfold nT;rw[if_neg (fun q=>q h),if_pos rfl]
  ·obtain⟨_,_,_,_,q1,_⟩:=J0 q;exact q1 rfl
 obtain⟨-,hca,hvp,hin,va,vr⟩:=dY hv;have hlen:=(fT hca).2.2.2
 have hv0:v≠[]:=fun e=>by
  rw[hvp] at e;cases a with
  |nil=>exact h0 rfl
  |cons x a=>cases e
 have hb8:=cu ((fT hca).2.1 _ (ay (gK.2 h0)));obtain⟨k,hk⟩:∃k,bw a=k+1:=⟨bw a-1,by have:=hb8.1;unfold bw;omega⟩
 have hk8:k<8:=by have:=hb8.2.1;unfold bw at hk;omega
 have hX:=cI hc hl (d:=((bw a:Nat):Int)+1);have hY:=cI hc hl (d:=((bw a:Nat):Int));have hM:=kN (X:=ao c (((bw a:Nat):Int)+1)) (Y:=ao c ((bw a:Nat):Int)) (by omega) (by omega);have hV:VR _ _:=Ha hM
 have hbt:nT c a=if (qF (cK (ao c ((bw a:Int)+1)) (ao c (bw a))) (ao c ((bw a:Int)+1)).length v).2.2=true then(cp (ao c ((bw a:Int)+1)) (qF (cK (ao c ((bw a:Int)+1)) (ao c (bw a))) (ao c ((bw a:Int)+1)).length v).1,[],true,0) else([],cp (ao c (bw a)) (qF (cK (ao c ((bw a:Int)+1)) (ao c (bw a))) (ao c ((bw a:Int)+1)).length v).2.1,false,0):=by
  unfold nT;rw[if_neg (fun q=>q h),if_neg h0,hcv]
 have hRl:(cK (ao c ((bw a:Int)+1)) (ao c (bw a))).length=(ao c (bw a)).length:=fF;rcases vN hM va with⟨x,s1,s2,s3,s4,s5,s6⟩|⟨y,s1,s2,s3,s4,s5⟩
 ·left;rw[s1,if_pos rfl] at hbt;have hap:=ET hV s3 va (by rw[hRl];exact vr) s6
  have hla:bw a<8:=by
   refine Classical.byContradiction fun q=>hv0 ?_
   have hx:x=[]:=by
    have:ao c ((bw a:Int)+1)=[]:=xI hc (by omega);rw[this] at s4;cases x with
    |nil=>rfl
    |cons z x=>have:=s4 z (cJ ..);simp at this;omega
   refine ow fun z=>?_;by_cases hz:z∈v
   ·have hzr:=vr z hz;obtain⟨i,rfl⟩:=Int.eq_ofNat_of_zero_le hzr.1;have:=s6 i (by omega);rw[hx,iV fun z _=>fP] at this;omega
   ·simp[bit,hz]
  obtain⟨c1,c2,c3,c4,c5,c6,c7,c8⟩:=mF hc hl hf hla s3 s4;rw[hap] at c6 c8;have heq:bk (cp (ao c ((bw a:Int)+1)) x)=a:=yJ (fun s hs=>(c7 s hs).2) hin (wh (by rw[←c8,hvp]));refine⟨_,hbt,c2,rQ hv c1 (fun _ q=>?_) (by rw[c4,heq]),fun y q=>?_⟩
  ·exact c3 _ (ay (gK.2 q))
  ·obtain⟨v',w,q1,q2,-,q4,q5,q6,q7⟩:=J0 q;rw[hv] at q1;cases q1;obtain⟨-,hcy,hwp,hiny,wa,wr⟩:=dY q2;rw[←q5] at wr
   have hk2:KerV (trL (ao c ((bw a:Int) + 1)).length (cK (ao c ((bw a:Int) + 1)) (ao c (bw a)))) (cK (ao c ((bw a:Int) + 1)) (ao c (bw a))).length w:=(Eh hV).2 ⟨wa,by rw [hRl]; exact wr,fun z=>by
    rw[←x9 hV.asc (by rw[hRl];exact wr),q6,fP]⟩
   have hsp:=(Hr hV).2 hk2
   have hod:js v w=false:=by
    unfold js
    rw [rV hsp fun d hd=>by
     have:=s5 d hd;unfold js at this;have:=of_decide_eq_false this;omega]
    rfl
   rw[pZ wa va,hod] at q7;cases q7
 ·right;rw[s1,if_neg (show ¬(([]:List Int),y,false).2.2=true from fun q=>by cases q)] at hbt;rw[hRl] at s4;have hY2:ao c ((bw a:Nat):Int)=ao c ((k:Int)+1):=by rw[hk];rfl
  have s4':=s4;rw[hY2] at s4';obtain⟨c1,c2,c3,-⟩:=mF hc hl hf hk8 s3 s4';rw[←hY2] at c1 c2 c3;have hy0:y≠[]:=fun e=>by rw[e] at s5;cases s5
  have hp0:cp (ao c ((bw a:Nat):Int)) y≠[]:=fun e=>hy0 (List.map_eq_nil_iff.1 e);refine⟨_,hbt,c2,?_,fun b q=>?_⟩
  ·unfold rfT
   have hll:bw a=bw (cp (ao c ((bw a:Nat):Int)) y):=by
    have:=c3 _ (ay (gK.2 hp0));unfold bw at *;omega
   rw[BW hv c1,if_neg (show ¬((v,y,(0:Int)).2.2≠0) from fun q=>q rfl),if_neg (show ¬(a=[]∨_=[]) from fun q=>q.elim h0 hp0),if_neg (fun q=>q hll)];unfold Fu;have hok:=gf hV.asc (aO (cK (ao c ((bw a:Int)+1)) (ao c (bw a))).length)
   have hsn:lA (cK (ao c ((bw a:Int)+1)) (ao c (bw a))) y=[]:=ow fun z=>by
    rw[x9 hV.asc (by rw[hRl];exact s4)];have:=(hok.dep y s2).2.1 z;rw[fP] at this;exact this.symm
   rw[if_pos hsn,if_pos];rw[pZ s3 va];exact s5
  ·obtain⟨v',w,q1,q2,q3,q4⟩:=H6 q;rw[hv] at q1;cases q1;have hb0:b≠[]:=fun e=>by subst e;exact h0 q4.symm
   have hlb:=q3 h0 hb0;obtain⟨-,hcb,hwp,hinb,wa,wr⟩:=dY q2;have hb8:=cu ((fT hcb).2.1 _ (ay (gK.2 hb0)));have hla:bw a<8:=by have:=hb8.2.1;unfold bw at hlb ⊢;omega
   have hpk:=xW q2;rw[hlb,show((bw a+1:Nat):Int)=(bw a:Int)+1 by omega] at hpk wr;obtain⟨c1,c2,c3,c4,c5,c6,c7,c8⟩:=mF hc hl hf hla wa wr;rw[←hpk,q4,hv] at c6;have e:=congrArg Prod.fst c6;dsimp only at e;have:=Fh (R:=cK (ao c ((bw a:Int)+1)) (ao c (bw a))) hV.asc wa s2;rw[←e,s5] at this;cases this
theorem BB{c b:List Spx}{w:List Int}(hc:aB c=0)(hl:c.length≤50)(hf:kH c c.length≤400)(h:cS c b=(w,0)):(cyH c (bk b)).2=0∧ie c (bk b) b=0∧ShC (bk b):=by
 by_cases hb0:b=[]
 ·subst hb0;have e:bk []=[]:=rfl;rw[e,Iv hc];exact⟨rfl,rQ (xn hc) (xn hc) (fun q=>absurd rfl q) rfl,⟨bR _,fun s h=>(by cases h)⟩⟩
 obtain⟨-,hcb,hwp,hinb,wa,wr⟩:=dY h;have hb8:=cu ((fT hcb).2.1 _ (ay (gK.2 hb0)));obtain⟨k,hk⟩:∃k,bw b=k+1:=⟨bw b-1,by have:=hb8.1;unfold bw;omega⟩
 have hk8:k<8:=by have:=hb8.2.1;unfold bw at hk;omega
 have hpk:=xW h;rw[hk,show((k+1:Nat):Int)=(k:Int)+1 by omega] at hpk wr;obtain⟨c1,c2,c3,c4,c5,c6,c7,c8⟩:=mF hc hl hf hk8 wa wr;rw[←hpk] at c4 c5 c6 c7;have hee:bk (bk b)=[]:=Dm (gj (fT hcb).2.1);refine⟨?_,rQ c6 h (fun q1 _=>?_) c4,c5⟩
 ·unfold cyH;rw[c6,if_neg (fun q=>q rfl),if_pos hee]
 ·have:=(c7 _ (ay (gK.2 q1))).1;unfold bw at *;omega
attribute [local irreducible] aH ai be aY aP aQ aD aR aZ bl Go.Abs.Fn aX Go.Abs.Pure aq aK Yl
theorem Cp{H:Hp}{b:Nat}{x y:List Spx}(h:H b=some [an x,an y]):Snap H (.msl b 2 1 0 2) (fw [x,y]):=
 u9 (l:=[an x,an y]) h rfl rfl (by
  intro z hz;rcases cR.1 hz with rfl|hz
  ·exact⟨rfl,bh _⟩
  ·rw[cV.1 hz];exact⟨rfl,bh _⟩)
theorem Gy{c a:List Spx}(he:(cyH c a).2≠0):nT c a=([],[],false,(cyH c a).2):=by
 unfold nT;rw[if_pos he]
end Go.Proofs.YtekdaafnjdlenaaGreat
namespace Go.Proofs.YtekdaafnjdlenaaGreat
open Go Go.Abs
theorem FJ{c a:List Spx}(he:(cyH c a).2≠0):ie c a []≠0∨(cyH c a).2=3:=by
 by_cases h:(cS c a).2=0
 ·right;unfold cyH at he ⊢;rw[if_neg (fun q=>q h)] at he ⊢;split at he
  ·exact absurd rfl he
  ·rename_i q;rw[if_neg q]
 ·left
  have hp:(fm c a []).2.2=(cS c a).2:=by
   unfold fm;rw[if_pos h]
  unfold ie;rw[hp,if_pos h];exact h
theorem zb{b:List Spx}{c:List Spx}{w:List Int}(h:cS c b=(w,0))(h2:(dx b).2=0):dx b=(bk b,0):=by
 obtain⟨-,hcb,-⟩:=dY h;unfold dx at h2 ⊢;rw[if_neg (fun q=>q hcb)] at h2 ⊢;split at h2
 ·exact absurd h2 (by decide)
 ·rename_i q;rw[if_neg q]
attribute [local irreducible] aH ai be aY aP aQ aD aR aZ bl Go.Abs.Fn aX Go.Abs.Pure aq aK Yl
set_option maxHeartbeats 2000000 in
theorem xQ(c a b:List Spx)(hc:Shn c∧∀s∈c,Shn s)(ha:ShC a)(hb:ShC b):pU 7 [b9 c,an a,an b] (.bool true):=by
 refine pO is7 ?_;simp only[b7,aJ]
 have f1:=Hj c [a,b] hc.1 hc.2 (show _ ≤ _ by simp) (fun x h=>by
  rcases cR.1 h with rfl|h
  ·exact ha
  ·rw[cV.1 h];exact hb)
 have s0:=GG c hc.1 hc.2;have zz:=aI @aj @ae;repeat' (first|refine zW ?_|apply a_n|refine zO ?_|refine vY ?_|refine bxY ?_|refine blY ?_|fail)
 refine ec ev0 ev0 f1 (aA (ag (bN _).snap (ag (Cp af) ak)) rfl) ?_;cases e1:tv c [a,b]
 ·repeat' (first|refine zW ?_|apply a_n|apply a_r|refine zO ?_|refine vY ?_|refine cY ?_ (hp:=gx) (hs:=by(first|refine aA ?_ rfl|apply aM);(repeat' (first|exact ak|apply bg|apply aN|exact bN _));first|done|fail)|refine gFY ?_|refine cTY ?_|refine bI rfl ?_|refine r1Y ?_|fail)
  exact .bool _
 obtain⟨l0,l1,l2⟩:=CY e1;by_cases hcx:aB c=0
 rotate_left
 ·have z:decide (aB c≠0)=true:=a8 hcx;clear zz;have zz:=aI @z (aI @aj @ae);repeat' (first|refine zW ?_|apply a_n|apply a_r|refine zO ?_|refine vY ?_|refine cY ?_ (hp:=by first|exact s0|exact gx) (hs:=by(first|refine aA ?_ rfl|apply aM);(repeat' (first|exact ak|apply bg|apply aN|exact bN _));first|done|fail)|refine gTY ?_|refine cTY ?_|refine bI rfl ?_|refine r1Y ?_|fail)
  exact .bool _
 have zc:decide (aB c≠0)=false:=bc (fun q=>q hcx);have z0:decide ((0:Int)≠0)=false:=rfl;have z00:decide ((0:Int)=0)=true:=rfl;have ln:dz (an [])=some (.int .i64 0):=rfl;have zl:decide ((0:Int)<0)=false:=rfl;have s1:=mq c a (by omega) hc.2 ha;have s4:=BQ b hb;have s5:=wI c b (by omega) hc.2 hb;by_cases he:(cyH c a).2=0
 rotate_left
 ·have s2:=fu c a [] (by omega) hc.2 ha ⟨bR _,fun s h=>(by cases h)⟩;have he2:=FJ he;rw[Gy he] at s1;dsimp only at s1;generalize (cyH c a).2=e at *;generalize ie c a []=f at *;have z1:decide (e≠0)=true:=a8 he;clear zz;have zz:=aI @aj (aI @ae (aI @zc @z1));repeat' (first|refine zW ?_|apply a_n|refine zO ?_|refine vY ?_|refine cY ?_ (hp:=by first|exact s0|exact s1) (hs:=by(first|refine aA ?_ rfl|apply aM);(repeat' (first|exact ak|apply bg|apply aN|exact bN _|exact bh _));first|done|fail)|refine gTY ?_|refine cTY ?_|refine cFY ?_|fail)
  refine ec ev0 ev0 s2 (aA (ag (bN _).snap (ag (bh _).snap (ag (.eslsl 1) ak))) rfl) ?_;by_cases hf:f=0
  ·have z2:decide (f≠0)=false:=bc (fun q=>q hf);have z3:decide (e=3)=true:=a8 (he2.resolve_left (fun q=>q hf));clear zz;have zz:=aI @z2 @z3;repeat' (first|apply a_n|apply a_r|refine zO ?_|refine vY ?_|refine cY ?_ (hp:=gx) (hs:=by(first|refine aA ?_ rfl|apply aM);(repeat' (first|exact ak|apply bg|apply aN|exact bN _));first|done|fail)|refine gTY ?_|refine bI rfl ?_|refine r1Y ?_|fail)
   exact .bool _
  ·have z2:decide (f≠0)=true:=a8 hf;clear zz;have zz:=@z2;repeat' (first|apply a_n|apply a_r|refine zO ?_|refine vY ?_|refine cY ?_ (hp:=gx) (hs:=by(first|refine aA ?_ rfl|apply aM);(repeat' (first|exact ak|apply bg|apply aN|exact bN _));first|done|fail)|refine gTY ?_|refine gFY ?_|refine bI rfl ?_|refine r1Y ?_|fail)
   exact .bool _
 have fin:∀x y ok,nT c a=(x,y,ok,0)→(ok=true→y=[]∧ShC x∧ie c a x=0∧rfT c a b≠0)→(ok=false→x=[]∧ShC y∧rfT c a y=0∧ie c a b≠0)→True:=fun _ _ _ _ _ _=>trivial;have s8:=gL c a b (by omega) hc.2 ha hb;have s9:=fu c a b (by omega) hc.2 ha hb;rcases qw hcx (by omega) l2 he with⟨x,h1,h2,h3,h4⟩|⟨y,h1,h2,h3,h4⟩
 ·have s2:=fu c a x (by omega) hc.2 ha h2;have h4b:=h4 b;rw[h1] at s1;rw[h3] at s2;dsimp only at s1;generalize rfT c a b=f at *;have zf:decide (f=0)=false:=bc h4b;by_cases hb1:(dx b).2=0
  rotate_left
  ·have z1:decide ((dx b).2≠0)=true:=a8 hb1;generalize dx b=q at *;clear zz;have zz:=aI @aj (aI @ae (aI @zc (aI @z0 (aI @z1 (aI @zl (aI @zf @ln))))));repeat' (first|refine zW ?_|apply a_n|apply a_r|refine zO ?_|refine vY ?_|refine cY ?_ (hp:=by first|exact s0|exact s1|exact s2|exact s8|exact s4|exact gx) (hs:=by(first|refine aA ?_ rfl|apply aM);(repeat' (first|exact ak|apply bg|apply aN|exact bN _|exact bh _));first|done|fail)|refine gTY ?_|refine cTY ?_|refine cFY ?_|refine bI rfl ?_|refine r1Y ?_|fail)
   exact .bool _
  by_cases hb2:(cS c b).2=0
  rotate_left
  ·have z1:decide ((cS c b).2≠0)=true:=a8 hb2;rw[hb1] at s4;generalize cS c b=q at *;generalize dx b=q2 at *;clear zz;have zz:=aI @aj (aI @ae (aI @zc (aI @z0 (aI @z1 (aI @zl (aI @zf @ln))))));repeat' (first|refine zW ?_|apply a_n|apply a_r|refine zO ?_|refine vY ?_|refine cY ?_ (hp:=by first|exact s0|exact s1|exact s2|exact s8|exact s4|exact s5|exact gx) (hs:=by(first|refine aA ?_ rfl|apply aM);(repeat' (first|exact ak|apply bg|apply aN|exact bN _|exact bh _));first|done|fail)|refine gTY ?_|refine cTY ?_|refine cFY ?_|refine bI rfl ?_|refine r1Y ?_|fail)
   exact .bool _
  have hv:cS c b=((cS c b).1,0):=by rw[←hb2]
  obtain⟨g1,g2,g3⟩:=BB hcx (by omega) l2 hv;rw[zb hv hb1] at s4;rw[hb2] at s5;have s6:=mq c (bk b) (by omega) hc.2 g3;have s7:=fu c (bk b) b (by omega) hc.2 g3 hb;rw[g2] at s7;rcases qw hcx (by omega) l2 g1 with⟨z,k1,k2,k3,k4⟩|⟨y,k1,k2,k3,k4⟩
  rotate_left
  ·exact absurd g2 (k4 b)
  have s10:=fu c (bk b) z (by omega) hc.2 g3 k2;rw[k3] at s10;rw[k1] at s6;dsimp only at s6 s4;generalize bk b=g at *;generalize cS c b=q at *;clear zz;have zz:=aI @aj (aI @ae (aI @zc (aI @z0 (aI @z00 (aI @zl (aI @zf @ln))))));repeat' (first|refine zW ?_|apply a_n|refine zO ?_|refine vY ?_|refine cY ?_ (hp:=by first|exact s0|exact s1|exact s2|exact s8|exact s4|exact s5|exact s6|exact s7|exact s10|exact gx) (hs:=by(first|refine aA ?_ rfl|apply aM);(repeat' (first|exact ak|apply bg|apply aN|exact bN _|exact bh _));first|done|fail)|refine gTY ?_|refine gFY ?_|(refine zGY ?_ ?_<;>(intro _hg;try (exfalso;omega)))|refine cTY ?_|refine cFY ?_|refine bI rfl ?_|refine r1Y ?_|fail)
  exact .bool _
 ·have s2:=gL c a y (by omega) hc.2 ha h2;have h4b:=h4 b;rw[h1] at s1;rw[h3] at s2;dsimp only at s1;generalize ie c a b=f at *;have zf:decide (f=0)=false:=bc h4b;by_cases hb1:(dx b).2=0
  rotate_left
  ·have z1:decide ((dx b).2≠0)=true:=a8 hb1;generalize dx b=q at *;clear zz;have zz:=aI @aj (aI @ae (aI @zc (aI @z0 (aI @z1 (aI @zl (aI @zf @ln))))));repeat' (first|refine zW ?_|apply a_n|apply a_r|refine zO ?_|refine vY ?_|refine cY ?_ (hp:=by first|exact s0|exact s1|exact s2|exact s9|exact s4|exact gx) (hs:=by(first|refine aA ?_ rfl|apply aM);(repeat' (first|exact ak|apply bg|apply aN|exact bN _|exact bh _));first|done|fail)|refine gTY ?_|refine cTY ?_|refine cFY ?_|refine bI rfl ?_|refine r1Y ?_|fail)
   exact .bool _
  by_cases hb2:(cS c b).2=0
  rotate_left
  ·have z1:decide ((cS c b).2≠0)=true:=a8 hb2;rw[hb1] at s4;generalize cS c b=q at *;generalize dx b=q2 at *;clear zz;have zz:=aI @aj (aI @ae (aI @zc (aI @z0 (aI @z1 (aI @zl (aI @zf @ln))))));repeat' (first|refine zW ?_|apply a_n|apply a_r|refine zO ?_|refine vY ?_|refine cY ?_ (hp:=by first|exact s0|exact s1|exact s2|exact s9|exact s4|exact s5|exact gx) (hs:=by(first|refine aA ?_ rfl|apply aM);(repeat' (first|exact ak|apply bg|apply aN|exact bN _|exact bh _));first|done|fail)|refine gTY ?_|refine cTY ?_|refine cFY ?_|refine bI rfl ?_|refine r1Y ?_|fail)
   exact .bool _
  have hv:cS c b=((cS c b).1,0):=by rw[←hb2]
  obtain⟨g1,g2,g3⟩:=BB hcx (by omega) l2 hv;rw[zb hv hb1] at s4;rw[hb2] at s5;have s6:=mq c (bk b) (by omega) hc.2 g3;have s7:=fu c (bk b) b (by omega) hc.2 g3 hb;rw[g2] at s7;have s11:=gL c (bk b) y (by omega) hc.2 g3 h2;rcases qw hcx (by omega) l2 g1 with⟨z,k1,k2,k3,k4⟩|⟨y,k1,k2,k3,k4⟩
  rotate_left
  ·exact absurd g2 (k4 b)
  have s10:=fu c (bk b) z (by omega) hc.2 g3 k2;have k4y:=k4 y;rw[k3] at s10;rw[k1] at s6;dsimp only at s6 s4;have hyl:y.length≤17592186044416:=h2.1;generalize bk b=g at *;generalize cS c b=q at *;generalize rfT c g y=r at *;have zr:decide (r≠0)=true:=a8 k4y;by_cases hy0:y=[]
  ·have zn:decide ((0:Int)<(([]:List Spx).length:Int))=false:=rfl;have zm:decide ((([]:List Spx).length:Int)=0)=true:=rfl;have zy:decide ((y.length:Int)=0)=true:=by rw[hy0];rfl
   clear zz;have zz:=aI @aj (aI @ae (aI @ah (aI @zn (aI @zm (aI @zc (aI @z0 (aI @z00 (aI @zl (aI @zf @zy)))))))));repeat' (first|refine zW ?_|apply a_n|refine zO ?_|refine vY ?_|refine cY ?_ (hp:=by first|exact s0|exact s1|exact s2|exact s9|exact s4|exact s5|exact s6|exact s7|exact s10|exact s11|exact gx) (hs:=by(first|refine aA ?_ rfl|apply aM);(repeat' (first|exact ak|apply bg|apply aN|exact bN _|exact bh _));first|done|fail)|refine gTY ?_|refine gFY ?_|(refine zGY ?_ ?_<;>(intro _hg;try (exfalso;omega)))|refine cFY ?_|refine bI rfl ?_|refine r1Y ?_|fail)
   exact .bool _
  ·have zn:decide ((0:Int)<(([]:List Spx).length:Int))=false:=rfl;have zm:decide ((([]:List Spx).length:Int)=0)=true:=rfl;have zy:decide ((y.length:Int)=0)=false:=bc (by have:=gK.2 hy0;omega);clear zz;have zz:=aI @aj (aI @ae (aI @ah (aI @zn (aI @zm (aI @zc (aI @z0 (aI @z00 (aI @zl (aI @zf (aI @zy @zr))))))))));repeat' (first|refine zW ?_|apply a_n|refine zO ?_|refine vY ?_|refine cY ?_ (hp:=by first|exact s0|exact s1|exact s2|exact s9|exact s4|exact s5|exact s6|exact s7|exact s10|exact s11|exact gx) (hs:=by(first|refine aA ?_ rfl|apply aM);(repeat' (first|exact ak|apply bg|apply aN|exact bN _|exact bh _));first|done|fail)|refine gTY ?_|(refine zGY ?_ ?_<;>(intro _hg;try (exfalso;omega)))|refine cFY ?_|refine bI rfl ?_|refine r1Y ?_|fail)
   exact .bool _
end Go.Proofs.YtekdaafnjdlenaaGreat
namespace Go.Proofs.YtekdaafnjdlenaaGreat
open Go Go.Abs Go.RowKit
section
variable{H:Type}{enc:TypeId×Value→H}{W:World}
theorem oi:fe enc Tryz.prog W 3 (AV.int .i64) (fun n=>(Lit.int .i64 n).wf=true):=DN Tryz.underlying3
set_option maxRecDepth 100000 in
theorem Mv:fe enc Tryz.prog W 69 dD (fun _=>True):=
 (ot Tryz.underlying69 (by kernel_rfl) (mz (off:=0) (off':=1) rfl (by kernel_rfl) oi (mz (off:=1) (off':=2) rfl (by kernel_rfl) oi uj))).map
  (fun a=>(⟨a.1,a.2.1⟩:Vtx)) (fun _ _=>trivial) (fun _ _=>rfl)
theorem oXs:fe enc Tryz.prog W 70 aC Shn:=
 (qZ Tryz.underlying70 (sz:=2) (by_:=16) (by kernel_rfl) (by kernel_rfl) (by omega) (fun _=>rfl) Mv).mono fun l h=>by have:=h.2.2;show _≤_;omega
theorem IA:fe enc Tryz.prog W 22 an (fun l=>Shn l∧∀x∈l,Shn x):=
 (qZ Tryz.underlying22 (sz:=1) (by_:=24) (by kernel_rfl) (by kernel_rfl) nM (fun _=>rfl) oXs).mono fun l h=>⟨by have:=h.2.2;show _≤_;omega,h.1⟩
set_option maxRecDepth 100000 in
theorem oCx:fe enc Tryz.prog W 24 b9 (fun l=>Shn l∧∀x∈l,Shn x):=
 (ot Tryz.underlying24 (by kernel_rfl) (mz (off:=0) (off':=1) rfl (by kernel_rfl) IA uj)).map
  (fun a=>a.1) (by rintro⟨n,u⟩ ⟨h1,_⟩;exact h1) (fun _ _=>rfl)
end
theorem r6{f:FuncId}{xs:List AV}{vs:List Value}(h:pU f xs (.bool true))(w:World)(hv:dG (E0 (uJ w)) w xs vs):
    Calls Tryz.prog f vs.toArray w fun e w'=>e=.returned (.bool true)∧Below w.heap.size w w':=by
 refine(h.2 (uJ w) w vs (fun _ h=>h) hv).mono ?_;rintro e w' ⟨v,imm',rfl,hb,_,_,_,hr⟩;cases hr;exact⟨rfl,hb⟩
theorem Mq:laidOutB Tryz.prog=true:=by kernel_rfl
end Go.Proofs.YtekdaafnjdlenaaGreat
namespace Go.Proofs.YtekdaafnjdlenaaGreat
open Go Go.Abs Go.RowKit Go.ChangeShapes Go.WideShapes Go.ChangeAt
theorem uy{H:Type}{enc:TypeId×Value→H}{P:Program}{f:Func}{s:ChangeSpec}{apart fresh handsOn again:Bool}{W W':World}{args:Array Value}{v:Value}{ds gs:List (DataW H)}{before pa pv:List MemPlace}
    (hW:DataW.Whole enc P f.params.toList s.vars apart W args.toList ds gs before)
    (hres:∀(b:Nat)(sp:Nat→Bool)(hd:Bool),DataW.TrodAll enc P W' b sp hd f.resultTypes.toList (v.resultList f.resultTypes.size) (s.fn H (ds++gs)).results [])
    (hargs:∀sp:Nat→Bool,(∀p∈before,sp p.block=true)→DataW.TrodAll enc P W' 0 sp true f.params.toList args.toList (s.fn H (ds++gs)).args pa)
    (hvars:∀sp:Nat→Bool,(∀p∈before,sp p.block=true)→DataW.TrodVars enc P W' sp s.vars (s.fn H (ds++gs)).vars pv)
    (hps:before=pa++pv) (hb:Below W.heap.size W W')
    (hok:∀(j:Nat)(t:TypeId)(r:Value),f.resultTypes[j]?=some t→(v.resultList f.resultTypes.size)[j]?=some r→Value.okWide P W' .any 0 t r):
    s.post enc P f apart fresh handsOn again W args v W':=by
 have hold:∀p∈before,(fun b=>decide (b<W.heap.size)) p.block=true:=fun p hp=>by simpa using hW.lt p hp
 have hlt:=fun p hp=>hW.lt p hp;refine⟨ds,gs,before,[],pa,pv,hW,hres _ _ _,hargs _ hold,hvars _ hold,World.keptBut_mono (fun p hp=>⟨hp,?_⟩) (hb.frame _),fun _=>?_⟩
 ·rw[hps,eU] at hp;exact Or.inr hp
 ·obtain⟨_,_,_,_,_,hz,hn⟩:=hW;refine⟨hok,_,_,([]++pa)++pv,⟨[]++pa,pv,trodAll_append (hargs _ (fun _ _=>rfl)) (hres _ _ _),hvars _ (fun _ _=>rfl),rfl,?_,?_⟩,?_⟩
  ·intro b off hp;have hp':MemPlace.cell b off∈before:=by rw[hps];simpa using hp
   rw[hb.frozen (hlt _ hp')];exact hz b off hp'
  ·intro ha;have:=hn ha;rw[hps] at this;simpa using this
  ·intro p hp _;rw[hps];simpa using hp
theorem Ed{E:Env}{w:World}:dG E w [] []:=⟨rfl,fun i x y h=>(by cases h)⟩
theorem qC{E:Env}{w:World}{x:AV}{y:Value}{xs:List AV}{ys:List Value}(h:Rel E w x y)(hs:dG E w xs ys):dG E w (x::xs) (y::ys):=by
 refine⟨by simp[hs.1],fun i a b ha hb=>?_⟩;cases i with
 |zero=>simp at ha hb;subst ha hb;exact h
 |succ i=>simp at ha hb;exact hs.2 i a b ha hb
theorem own:ownKnob Tryz.prog.godebug=none:=by kernel_rfl
end Go.Proofs.YtekdaafnjdlenaaGreat