/- Texts of this claim, one after the other: U2i, U14i, T247, T248, T249, T250, T237, T259, T238, T260, T188, T240, T251, T252, T253, T239, T241, T200, T202, T263, T254, T255, T256, T262, T270, T264, T265, T269, T266, T267, T268, T257, T258, T271, T272, T273, T118, T121. -/
import Derived.Test.YtekdaafnjdlenaaGreatXG5
import Derived.Test.YtekdaafnjdlenaaGreatXG4
import Derived.Test.YtekdaafnjdlenaaGreatXG6
import Derived.Test.YtekdaafnjdlenaaGreatXG3
import Derived.Test.YtekdaafnjdlenaaGreatRows
import Derived.WalkKit
import Derived.ProofKit
import Derived.OpenShut

set_option linter.unusedSimpArgs false
set_option linter.unusedVariables false
set_option maxHeartbeats 1000000
namespace Go.Proofs.YtekdaafnjdlenaaGreat
open Go Go.Abs
structure CmpO{α:Type}(P:Program)(f:α→AV)(K:α→α→Int)(G:α→Prop):Prop where
 cells:∀x,(f x).cells=[f x]
 one:∀x,(f x).one=true
 dat:∀x,Dat (f x)
 run:∀x y,G x→G y→Go.Abs.Pure P 187 [f x,f y] (.bool (decide (K x y<0)))
 ord:Ord K
section
variable{α:Type}[Inhabited α]{f:α→AV}{K:α→α→Int}{G:α→Prop}
attribute [local irreducible] aK ak bf a5 aO aQ aC aS a7 bj Go.Abs.Fn aZ Go.Abs.Pure au aM Yl
theorem K9(hc:CmpO Tryz.prog f K G){L:List α}{H:Hp}{b nx n a e:Nat}(hH:H b=some (L.map f))(hn:L.length=n)(hG:∀x∈L,G x)(hae:a≤e)(hen:e≤n)(hn2:n≤1000000000):
    Abs.Fn Tryz.prog 189 [.msl b n 1 0 n,.int .i64 a,.int .i64 e] H nx fun r H' nx'=>nx'=nx∧∃L',H'=aq H b (L'.map f)∧PermR a e L L'∧bq K a e L':=by
 refine fO Ma ?_;simp only[Ky,aH];refine wnZ and_self ?_;refine bQ (X:=Nat×List α) (fun x=>[(0,.msl b n 1 0 n),(1,.int .i64 a),(2,.int .i64 e),(6,.int .i64 (x.1:Nat))]) (fun x H' nx'=>a+1≤x.1∧(x.1≤e∨x.1=a+1)∧H'=aq H b (x.2.map f)∧nx'=nx∧PermR a e L x.2∧bq K a x.1 x.2) (fun x=>e+1-x.1) (a+1,L) ⟨aP _,.inr rfl,kW hH,rfl,.refl,bq.one (aP _)⟩ ag0 ?_;rintro⟨i,M0⟩ H' nx' ⟨h1,h2,rfl,rfl,hp0,hs0⟩;dsimp only at *;have hl0:M0.length=n:=by rw[hp0.len,hn]
 by_cases hi:i<e
 rotate_left
 ·refine wnZ and_self ?_;exact⟨rfl,M0,rfl,hp0,hs0.mono (aP _) (by omega)⟩
 refine wnZ and_self ?_;refine bQ (X:=Nat×List α) (fun x=>[(0,.msl b n 1 0 n),(1,.int .i64 a),(2,.int .i64 e),(6,.int .i64 (i:Nat)),(7,.int .i64 (x.1:Nat))]) (fun x H' nxx=>a≤x.1∧x.1≤i∧H'=aq H b (x.2.map f)∧nxx=nx'∧PermR a e L x.2∧gc K a i x.1 x.2) (fun x=>x.1) (i,M0) ⟨by omega,aP _,rfl,rfl,hp0,.start hs0⟩ ag0 ?_;clear hp0 hs0 hl0;rintro⟨j,M⟩ H' nxx ⟨a1,a2,rfl,rfl,hp,hal⟩;dsimp only at *;have hl:M.length=n:=by rw[hp.len,hn]
 have hGM:=hp.mem hG;by_cases hja:j=a
 ·subst hja;refine wkZ and_self ?_;exact⟨(i+1,M),by dsimp only;omega,⟨by dsimp only;omega,.inl (by dsimp only;omega),rfl,rfl,hp,hal.done hc.ord (.inl rfl)⟩,ag0⟩
 ·obtain⟨k,rfl⟩:∃k,j=k+1:=⟨j-1,by omega⟩
  have tj:((k+1:Nat):Int)-1=(k:Int):=by omega
  have lc:=hc.run (M.getD (k+1) default) (M.getD k default) (hGM _ (bg (by omega))) (hGM _ (bg (by omega)));have d1:=hc.dat (M.getD (k+1) default);have d2:=hc.dat (M.getD k default);generalize hKK:K (M.getD (k+1) default) (M.getD k default)=kk at lc;by_cases hlt:kk<0
  ·obtain⟨M1,hl1,lm1,lm2⟩:∃M1:List α,M1.length=n∧bH (M.map f) (k+1) [f (M.getD k default)]=M1.map f∧bH (M1.map f) k [f (M.getD (k+1) default)]=(swp M (k+1) k).map f:=
     ⟨M.set (k+1) (M.getD k default),by simp[hl],iS (by omega),by rw[iS (by simp;omega)];rfl⟩
   have lm3:=lm2;simp only[bH,bK,fi,ce] at lm1 lm2;refine wkZ (zI6 @tj @ct @lm1 @lm2 hc.cells hc.one) ?_;refine⟨(k,swp M (k+1) k),by dsimp only;omega,⟨by dsimp only;omega,by dsimp only;omega,?_,rfl,hp.trans (PermR.swap (by omega) (by omega) (by omega)),hal.step hc.ord (by omega) (by omega) (by omega) (by rw[hKK];exact hlt)⟩,(have zz:=@tj;agZ)⟩;dsimp only;rw[a9,a9,lm3]
  ·refine wkZ (zI4 @tj @ct hc.cells hc.one) ?_;exact⟨(i+1,M),by dsimp only;omega,⟨by dsimp only;omega,.inl (by dsimp only;omega),rfl,rfl,hp,hal.done hc.ord (.inr ⟨by omega,by rw[ri,hKK];exact hlt⟩)⟩,ag0⟩
end
end Go.Proofs.YtekdaafnjdlenaaGreat
namespace Go.Proofs.YtekdaafnjdlenaaGreat
open Go Go.Abs
theorem MB:Ord (fun x y:Int=>x-y):=⟨fun x=>by omega,fun x y h=>by omega,fun x y z h1 h2=>by omega⟩
attribute [local irreducible] aK ak bf a5 aO aQ aC aS a7 bj Go.Abs.Fn aZ Go.Abs.Pure au aM Yl
theorem I4(x y:Int):pU 187 [.int .i64 x,.int .i64 y] (.bool (decide (x-y<0))):=by
 have e:decide (x-y<0)=decide (x<y):=decide_eq_decide.2 (by omega);rw[e];have n1:=jc x;refine pO Hq ?_;simp only[IT,aH];refine wnZ and_self ?_;exact Dat.snap Dat.bool
theorem Mv:CmpO Tryz.prog (fun x:Int=>.int .i64 x) (fun x y=>x-y) (fun _=>True):=⟨fun _=>rfl,fun _=>rfl,fun _=>.int,fun x y _ _=>I4 x y,MB⟩
theorem Gz{L:List Int}{H:Hp}{b nx n lim:Nat}(hH:H b=some (L.map fun x=>.int .i64 x))(hn:L.length=n)(hn2:n≤12):
    Abs.Fn Tryz.prog 164 [.msl b n 1 0 n,.int .i64 0,.int .i64 n,.int .i64 lim] H nx fun r H' nx'=>nx'=nx∧∃L':List Int,H'=aq H b (L'.map fun x=>.int .i64 x)∧PermR 0 n L L'∧bq (fun x y:Int=>x-y) 0 n L':=by
 refine fO Lb ?_;simp only[Lo,aH];have z:decide ((n:Int)≤12)=true:=aR (by omega);refine wnZ and_self ?_;refine bQ (X:=Unit) (fun x=>[(0,.msl b n 1 0 n),(1,.int .i64 0),(2,.int .i64 n),(3,.int .i64 lim)]) (fun x H' nx'=>H'=H∧nx'=nx) (fun x=>0) () ⟨rfl,rfl⟩ ag0 ?_;rintro _ _ _ ⟨rfl,rfl⟩;refine wnZ (aI @z @Int.sub_zero) ?_;refine bd ev0 (have zz:=@Int.natCast_zero;evZ) (K9 Mv (a:=0) hH hn (fun _ _=>trivial) (bF _) (aP _) (by omega)) ?_;rintro _ _ _ ⟨rfl,L',rfl,hp,hs⟩;refine wnZ and_self ?_;exact⟨rfl,L',rfl,hp,hs⟩
def qz(m:Nat):Prop:=∀{L:List Int}{H:Hp}{b nx n:Nat},H b=some (L.map fun x=>.int .i64 x)→b<nx→L.length=n→0<n→n≤m→
    Abs.Fn Tryz.prog 147 [.msl b n 1 0 n] H nx fun r H' nx'=>∃L':List Int,PS H H' nx nx' b (L'.map fun x=>.int .i64 x)∧L'.Perm L∧L'.Pairwise (· ≤ ·)
theorem qz.le{m k:Nat}(h:qz m)(hk:k≤m):qz k:=fun a b c d e=>h a b c d (eX e hk)
theorem Eo:qz 12:=fun{L H b nx n} hH hbx hn hn0 hn2=>by
 refine fO JI ?_;simp only[KF,aH];have w:IntKind.wrap .u64 (n:Int)=n:=gd (by omega) (by omega);refine wnZ @w ?_;refine bd ev0 (have zz:=@w;evZ) (Fp hn0 (by omega)) ?_;rintro _ _ _ ⟨rfl,rfl,k,rfl,h3,h4⟩
 skip
 refine bd ev0 (have zz:=@Int.natCast_zero;evZ) (Gz hH hn hn2) ?_;rintro _ _ _ ⟨rfl,N,rfl,hp,hs⟩;refine wnZ and_self ?_;refine⟨N,⟨ag,fun i _ h2=>ac h2,aP _⟩,hp.perm,?_⟩;rw[kB];intro i j hi hj hij;have hl:N.length=n:=by rw[hp.len,hn]
 have:=hs i j (bF _) hij (by omega);simp only[List.getD,hi,hj,rn,ua] at this;omega
end Go.Proofs.YtekdaafnjdlenaaGreat
namespace Go.Proofs.YtekdaafnjdlenaaGreat
open Go Go.Abs
theorem zp{H:Hp}{sv:AV}{l:List Int}(h:Row H 1 sv (l.map (AV.int .i64)))(h0:0<l.length):∃B,sv=.msl B l.length 1 0 l.length∧H B=some (l.map (AV.int .i64)):=by
 generalize hcs:l.map (AV.int .i64)=cs at h;have hl:cs.length=l.length:=by rw[←hcs,bw]
 cases h with
 |nil=>simp at hl;omega
 |box B len cs h1 h2=>
  have e:len=l.length:=by omega
  subst e;exact⟨B,by rw[Nat.mul_one],h1⟩
def uv(E:List (List Int))(q:Nat):List Int:=E.foldl (fun a r=>if (q:Int)∈r then bV a [ld r] else a) [(q:Int)]
def oV(E:List (List Int))(q:Nat):List Int:=(q:Int)::(E.filter fun r=>decide ((q:Int)∈r)).map ld
def I0(E:List (List Int))(c:Nat):List Nat:=(List.range c).filter fun q=>decide ((q:Int)∉E.map ld)
def sV(E:List (List Int))(c:Nat):List (List Int):=(I0 E c).map (uv E)
theorem Cn{E:List (List Int)}{k:Nat}:sV E (k+1)=sV E k++if (k:Int)∈E.map ld then [] else [uv E k]:=by
 unfold sV I0;rw[List.range_succ,uc,cL]
 congr 1
 by_cases h:(k:Int)∈E.map ld
 ·rw[if_pos h,wq (by simpa using h)];rfl
 ·rw[if_neg h,xm (by simpa using h)];rfl
theorem zN{E:List (List Int)}{k:Nat}:(sV E k).length≤k:=by
 unfold sV I0;rw[bw];exact eX (List.length_filter_le _ _) (by simp)
theorem Cg{E:List (List Int)}{q j:Nat}(h:j<E.length):oV (E.take (j+1)) q=oV (E.take j) q++if (q:Int)∈E.getD j default then [ld (E.getD j default)] else []:=by
 unfold oV;rw[bS h,uc,cL,List.cons_append]
 congr 2
 by_cases h:(q:Int)∈E.getD j default
 ·rw[if_pos h,xm (by simpa using h)];rfl
 ·rw[if_neg h,wq (by simpa using h)];rfl
theorem yE{E:List (List Int)}{q:Nat}:(oV E q).length≤E.length+1:=by
 unfold oV;rw[bK,bw];exact Nat.succ_le_succ (List.length_filter_le _ _)
theorem qc{q:Nat}:∀{E:List (List Int)}{a:List Int},E.Pairwise (fun r s=>ld r<ld s)→bo a→(∀r∈E,ld r∉a)→
    bo (E.foldl (fun a r=>if (q:Int)∈r then bV a [ld r] else a) a)∧∀z,z∈E.foldl (fun a r=>if (q:Int)∈r then bV a [ld r] else a) a↔z∈a∨ ∃r∈E,(q:Int)∈r∧z=ld r
 |[],a,_,h2,_=>⟨h2,fun z=>⟨.inl,fun h=>h.elim id fun⟨r,hr,_⟩=>by cases hr⟩⟩
 |x::E,a,h1,h2,h3=>by
  have hx:=gW.1 h1;rw[List.foldl_cons];by_cases h:(q:Int)∈x
  ·rw[if_pos h];have hs:bo [ld x]:=List.pairwise_singleton _ _;have hna:=h3 x (di ..)
   have hm:∀z,z∈bV a [ld x]↔z∈a∨z=ld x:=fun z=>by
    rw[dp h2 hs,cU];constructor
    ·rintro(q|q)
     ·exact .inl q.1
     ·exact .inr q.1
    ·rintro(q|rfl)
     ·exact .inl ⟨q,fun e=>hna (e▸q)⟩
     ·exact .inr ⟨rfl,hna⟩
   obtain ⟨i1,i2⟩:=qc (q:=q) hx.2 (dR h2 hs) (fun r hr hz=>by
    rcases(hm _).1 hz with g|g
    ·exact h3 r (d8 _ hr) g
    ·have:=hx.1 r hr;omega)
   refine⟨i1,fun z=>(i2 z).trans ?_⟩;rw[hm];constructor
   ·rintro((g|g)|⟨r,hr,g⟩)
    ·exact .inl g
    ·exact .inr ⟨x,di ..,h,g⟩
    ·exact .inr ⟨r,d8 _ hr,g⟩
   ·rintro(g|⟨r,hr,g1,g2⟩)
    ·exact .inl (.inl g)
    ·rcases cQ.1 hr with rfl|hr
     ·exact .inl (.inr g2)
     ·exact .inr ⟨r,hr,g1,g2⟩
  ·rw[if_neg h];obtain⟨i1,i2⟩:=qc (q:=q) hx.2 h2 (fun r hr=>h3 r (d8 _ hr));refine⟨i1,fun z=>(i2 z).trans ?_⟩;constructor
   ·rintro(g|⟨r,hr,g⟩)
    ·exact .inl g
    ·exact .inr ⟨r,d8 _ hr,g⟩
   ·rintro(g|⟨r,hr,g1,g2⟩)
    ·exact .inl g
    ·rcases cQ.1 hr with rfl|hr
     ·exact absurd g1 h
     ·exact .inr ⟨r,hr,g1,g2⟩
theorem sZ{E:List (List Int)}{q:Nat}(hE:Red E)(hq:(q:Int)∉E.map ld):bo (uv E q)∧∀z,z∈uv E q↔z=q∨ ∃r∈E,(q:Int)∈r∧z=ld r:=by
 have:=qc (q:=q) (a:=[(q:Int)]) hE.ord (List.pairwise_singleton _ _) (fun r hr h=>hq (by rw[cU] at h;rw[←h];exact List.mem_map_of_mem hr));exact⟨this.1,fun z=>(this.2 z).trans (by rw[cU])⟩
theorem EU{E:List (List Int)}{q:Nat}{z:Int}:z∈oV E q↔z=q∨ ∃r∈E,(q:Int)∈r∧z=ld r:=by
 unfold oV;rw[cQ,bG];constructor
 ·rintro(h|⟨r,hr,e⟩)
  ·exact .inl h
  ·have:=ia.1 hr;exact .inr ⟨r,this.1,oC this.2,e.symm⟩
 ·rintro(h|⟨r,hr,g,e⟩)
  ·exact .inl h
  ·exact .inr ⟨r,ia.2 ⟨hr,aR g⟩,e.symm⟩
theorem AB{E:List (List Int)}{q:Nat}(hE:Red E)(hq:(q:Int)∉E.map ld):(oV E q).Nodup:=by
 unfold oV;refine List.nodup_cons.2 ⟨fun h=>?_,?_⟩
 ·obtain⟨r,hr,e⟩:=bG.1 h;exact hq (e▸List.mem_map_of_mem (ia.1 hr).1)
 ·rw[List.Nodup,List.pairwise_map];exact(hE.ord.sublist List.filter_sublist).imp fun{x y} h e=>by omega
theorem Cc{E:List (List Int)}{q:Nat}(hE:Red E)(hq:(q:Int)∉E.map ld){L:List Int}(hp:L.Perm (oV E q))(hs:L.Pairwise (· ≤ ·)):L=uv E q:=by
 have hn:L.Nodup:=hp.nodup_iff.2 (AB hE hq)
 have ha:bo L:=(hs.and hn).imp fun{x y} h=>by
  have h1:=h.1;have h2:x≠y:=h.2;show x<y;omega
 obtain⟨k1,k2⟩:=sZ hE hq;refine oH ha k1 fun z=>?_;rw[hp.mem_iff,k2,EU]
def nw(k:Nat):List AV:=List.replicate k (.bool true)
theorem CD{k i:Nat}(h:i<k):Go.Abs.mget (.bool false) false (some i) (nw k)=.bool true:=by
 show(nw k).getD i _=_;simp[nw,List.getD,h]
attribute [local irreducible] aK ak bf a5 aO aQ aC aS a7 bj Go.Abs.Fn aZ Go.Abs.Pure au aM Yl
theorem DF(c:Nat)(R:List (List Int))(hm:gY c R)(hso:qz (c+1)):pU 103 [dS c R] (.tup [dS c (sV (ec R c) c),.int .i64 0]):=by
 refine pO JY ?_;simp only[Km,aH];have he:=nS c R hm;have z0:decide ((0:Int)≠0)=false:=rfl;have hd:Dat (.agg [.int .i64 c,bD R]):=dj c R;have hmc:=hm.2.1;have hmv:∀r∈R,∀z∈r,0≤z∧z<(c:Int):=fun r hr z hz=>(hm.2.2.2 r hr).1 z hz;obtain⟨hred,hsp,-⟩:=kR (fF hm) hmv;have hEv:∀r∈ec R c,∀z∈r,0≤z∧z<(c:Int):=fun r hr=>kL (fF hm) hmv ((hsp r).1 (ey hr));have hEl:(ec R c).length≤c:=by unfold ec;rw[bw];exact ke
 rw[dl,dl] at he;rw[dl,dl];generalize ec R c=E at *;clear hsp;refine wnY (aI @z0 @eD) ?_;refine uJ ?_;refine wnY @eD ?_;refine lpI (X:=Nat) (fun k=>[(1,.ptr 0 2 0),(2,.ptr 1 2 0),(4,.ptr 2 2 0),(6,.ptr 3 2 0),(7,.mp 4),(28,bD E),(29,.int .i64 E.length),(30,.int .i64 k)]) (fun k H nx=>k≤E.length∧5≤nx∧H 0=some [.int .i64 c,bD R]∧H 1=some [.int .i64 0,.esl]∧H 2=some [.int .i64 c,bD E]∧H 3=some [.int .i64 c,.esl]∧H 4=some [.omap (((E.take k).map ld).map (AV.int .i64)) (nw k)]) (fun k=>E.length-k) 0 ⟨bF _,aP _,rfl,rfl,rfl,rfl,rfl⟩ ?_;rintro k H nx ⟨g1,g2,g3,g4,g5,g6,g7⟩;by_cases hk:k<E.length
 ·have ix:=Dr hk;have hn:=hred.ne _ (ay (l:=E) hk);have ix0:=GG hn;have hmf:=im (ld (E.getD k default)) ((E.take k).map ld)
  have hni:ld (E.getD k default)∉(E.take k).map ld:=fun h=>by
   obtain⟨r,hr,e⟩:=bG.1 h;obtain⟨i,hi,e2⟩:=jJ hr;rw[fy] at hi;have hi2:i<E.length:=by omega
   have:=kB.1 hred.ord i k hi2 hk (by omega);rw[List.getElem_take] at e2;rw[show E[k]=E.getD k default by simp[List.getD,hk]] at this;rw[e2] at this;omega
  rw[if_neg hni] at hmf;have hts:=bS hk
  have hml:((E.take (k+1)).map ld).map (AV.int .i64)=((E.take k).map ld).map (AV.int .i64)++[.int .i64 (ld (E.getD k default))]:=by
   rw[hts,cL,cL];rfl
  have htr:nw (k+1)=nw k++[.bool true]:=by unfold nw;rw[List.replicate_succ']
  generalize E.getD k default=r at *;refine wnY (aI @ix @ix0) ?_;refine pA ev0 g7 ev0 ev0 rfl hmf ?_;refine wnY and_self ?_;refine⟨k+1,by omega,⟨by omega,by omega,(ac (by omega)).trans g3,(ac (by omega)).trans g4,(ac (by omega)).trans g5,(ac (by omega)).trans g6,?_⟩,ag0⟩;rw[ag,hml,htr];rfl
 obtain rfl:k=E.length:=by omega
 rw[fv (aP _)] at g7;clear hk g1;refine wnY @g3 ?_;refine lpI (X:=AV×Nat) (fun x=>[(1,.ptr 0 2 0),(2,.ptr 1 2 0),(4,.ptr 2 2 0),(6,.ptr 3 2 0),(7,.mp 4),(40,.int .i64 c),(41,.int .i64 x.2)]) (fun x H nx=>x.2≤c∧5≤nx∧H 0=some [.int .i64 c,bD R]∧H 1=some [.int .i64 0,.esl]∧H 2=some [.int .i64 c,bD E]∧H 3=some [.int .i64 c,x.1]∧H 4=some [.omap ((E.map ld).map (AV.int .i64)) (nw E.length)]∧Row H 1 x.1 ((sV E x.2).map aG)∧∀b,bL x.1=some b→4<b∧b<nx) (fun x=>c-x.2) (.esl,0) ⟨bF _,g2,g3,g4,g5,g6,g7,Row.nil,fun b h=>(by cases h)⟩ ?_;clear g2 g3 g4 g5 g6 g7;rintro⟨sv,k⟩ H nx ⟨g1,g2,g3,g4,g5,g6,g7,g8,g9⟩;dsimp only at g1 g2 g3 g4 g5 g6 g7 g8 g9 ⊢;by_cases hk:k<c
 rotate_left
 ·obtain rfl:k=c:=by omega
  obtain⟨o1,o2⟩:=g8.one;refine wnY (zI4 @g6 @g4 @o1 @o2) ?_;refine jF (pg (g8.same fun b hb=>?_)) rfl;have:=g9 b hb;rw[ac (by omega)]
 have hmf:=im (k:Int) (E.map ld);have hks:=Cn (E:=E) (k:=k);by_cases hlead:(k:Int)∈E.map ld
 ·rw[if_pos hlead] at hmf;rw[if_pos hlead,ga] at hks;have hgt:Go.Abs.mget (.bool false) false (some ((E.map ld).idxOf (k:Int))) (nw E.length)=.bool true:=CD (by have:=List.idxOf_lt_length_of_mem hlead;rwa [bw] at this);refine dD ?_;refine wnY and_self ?_;refine jb ev0 g7 ev0 rfl hmf ?_;rw[hgt];refine wnY and_self ?_;refine⟨(sv,k+1),by dsimp only;omega,⟨by dsimp only;omega,by omega,g3,g4,g5,g6,g7,?_,g9⟩,ag0⟩;dsimp only;rw[hks];exact g8
 rw[if_neg hlead] at hmf hks;refine wnY and_self ?_;refine jb ev0 g7 ev0 rfl hmf ?_;have hgf:Go.Abs.mget (.bool false) false none (nw E.length)=.bool false:=rfl;rw[hgf];refine wnY (aI @eD @g5) ?_;refine lpI (X:=AV×Nat) (fun x=>[(1,.ptr 0 2 0),(2,.ptr 1 2 0),(4,.ptr 2 2 0),(6,.ptr 3 2 0),(7,.mp 4),(10,.int .i64 k),(11,x.1),(40,.int .i64 c),(41,.int .i64 k),(50,bD E),(51,.int .i64 E.length),(52,.int .i64 x.2)]) (fun x H' nx'=>x.2≤E.length∧nx≤nx'∧(∀b,b<nx→H' b=H b)∧Row H' 1 x.1 ((oV (E.take x.2) k).map (AV.int .i64))∧∀b,bL x.1=some b→nx≤b∧b<nx') (fun x=>E.length-x.2) (.msl nx 1 1 0 1,0) ⟨bF _,by omega,fun b hb=>ac (by omega),?_,fun b hb=>by cases hb;omega⟩ ?_
 ·exact Row.box nx 1 [.int .i64 k] ag rfl
 rintro⟨kv,j⟩ H' nx' ⟨h1,h2,h3,h4,h5⟩;dsimp only at h1 h2 h3 h4 h5 ⊢;by_cases hj:j<E.length
 ·have ix:=Dr hj;have hrm:=ay (l:=E) hj;have hn:=hred.ne _ hrm;have ix0:=GG hn;have hks:=Cg (E:=E) (q:=k) hj;have hul:=yE (E:=E.take j) (q:=k);rw[fy] at hul;have hha:=FL (E.getD j default) k (by have:=ft (hred.asc _ hrm) (hEv _ hrm);omega) (hred.asc _ hrm);generalize E.getD j default=r at *;by_cases hin:(k:Int)∈r
  ·rw[if_pos hin] at hks;rw[aR hin] at hha;refine wnY (aI @ix @ix0) ?_;refine eR (h4.same fun b hb=>?_) ?_
   ·have:=h5 b hb;rw[ac (by omega)]
   rintro s2 H2 nx2 hr2 i1 i2 i3 i4;refine wnY and_self ?_;refine⟨(s2,j+1),by dsimp only;omega,⟨by dsimp only;omega,by omega,fun b hb=>?_,?_,fun b hb=>?_⟩,ag0⟩
   ·exact(i3 b (by omega) fun e=>by have:=h5 b e;omega).trans ((ac (by omega)).trans (h3 b hb))
   ·dsimp only;rw[hks,cL];exact hr2
   ·rcases i4 b hb with h|h
    ·have:=h5 b h;omega
    ·omega
  ·rw[if_neg hin,ga] at hks;rw[a6 hin] at hha;refine wnY (aI @ix @ix0) ?_;refine⟨(kv,j+1),by dsimp only;omega,⟨by dsimp only;omega,h2,h3,by dsimp only;rw[hks];exact h4,h5⟩,ag0⟩
 obtain rfl:j=E.length:=by omega
 rw[fv (aP _)] at h4;have hul:=yE (E:=E) (q:=k);have hu0:0<(oV E k).length:=Nat.succ_pos _;obtain⟨B,rfl,hB⟩:=zp h4 hu0;have hBn:=h5 B rfl;refine wnY and_self ?_;refine bd ev0 ev0 (hso hB hBn.2 rfl hu0 (by omega)) ?_;rintro _ H2 nx2 ⟨L',hps,hperm,hsrt⟩;obtain rfl:=Cc hred hlead hperm hsrt;have hlen:=hperm.length_eq;have q0:∀b,b<nx→H2 b=H b:=fun b hb=>(hps.fr b (by omega) (by omega)).trans (h3 b hb);have hle:=hps.le
 have hsn:Snap (only B ((uv E k).map (AV.int .i64))) (.msl B (oV E k).length 1 0 (oV E k).length) (aG (uv E k)):=by
  rw[←hlen];have:=Row.box (sz:=1) B (uv E k).length ((uv E k).map (AV.int .i64)) kU (by rw[bw,Nat.mul_one]);rw[Nat.mul_one] at this;exact this.snapI
 clear hB hperm hsrt h4 hul hu0;generalize uv E k=v at *;refine jz (a_n ?_);refine pr _ _ [(1,.ptr 0 2 0),(2,.ptr 1 2 0),(4,.ptr 2 2 0),(6,.ptr 3 2 0),(7,.mp 4),(11,aG v),(40,.int .i64 c),(41,.int .i64 k)] (Fz.one hps.at_) ⟨.inl rfl,.inl rfl,.inl rfl,.inl rfl,.inl rfl,.inr hsn,.inl rfl,.inl rfl,trivial⟩ ?_;have q:∀b,b<nx→de H2 B b=H b:=fun b hb=>(cC (by omega)).trans (q0 b hb);clear hps q0 hsn;generalize de H2 B=H4 at *;have q3:=(q 3 (by omega)).trans g6;have kll:=zN (E:=E) (k:=k);refine wnY @q3 ?_;refine eR (g8.same fun b hb=>?_) ?_
 ·have:=g9 b hb;rw[ac (by omega)];exact q b (by omega)
 rintro s2 H3 nx3 hr2 i1 i2 i3 i4;have hdo:∀b,b≤4→bL sv≠some b:=fun b hb e=>by have:=g9 b e;omega
 have lo2:∀b,b≤4→H3 b=H b:=fun b hb=>(i3 b (by omega) (hdo b hb)).trans ((ac (by omega)).trans (q b (by omega)))
 have hn2:∀b,bL s2=some b→4<b∧b<nx3:=fun b hb=>by
  rcases i4 b hb with h|h
  ·have:=g9 b h;omega
  ·omega
 have k6:=(lo2 3 (by omega)).trans g6;obtain⟨o1,o2⟩:=hr2.one;refine wnY (zI3 @k6 @o1 @o2) ?_;refine⟨(s2,k+1),by dsimp only;omega,⟨by dsimp only;omega,by omega,(ac (by omega)).trans ((lo2 0 (by omega)).trans g3),(ac (by omega)).trans ((lo2 1 (by omega)).trans g4),(ac (by omega)).trans ((lo2 2 (by omega)).trans g5),by rw[ag];rfl,(ac (by omega)).trans ((lo2 4 (by omega)).trans g7),?_,hn2⟩,ag0⟩;dsimp only;rw[hks,cL];exact hr2.same fun b hb=>by have:=hn2 b hb;rw[ac (by omega)]
end Go.Proofs.YtekdaafnjdlenaaGreat
namespace Go.Proofs.YtekdaafnjdlenaaGreat
open Go Go.Abs
theorem F4{R:List (List Int)}{n q:Nat}:(trF R n q).Pairwise (· < ·):=List.Pairwise.filter _ List.pairwise_lt_range
theorem IR{R:List (List Int)}{c:Nat}(hR:R.length≤4096)(hc:c≤4096):gY R.length (trL c R):=by
 refine⟨by omega,by omega,by unfold trL;rw[bw,List.length_range];exact hc,fun r hr=>?_⟩;unfold trL at hr;obtain⟨q,hq,rfl⟩:=bG.1 hr;refine⟨fun v hv=>?_,?_,tU (kd F4)⟩
 ·unfold cf at hv;obtain⟨j,hj,rfl⟩:=bG.1 hv;unfold trF at hj;have:=eO.1 (ia.1 hj).1;omega
 ·unfold cf;rw[bw];exact eX BB hR
def bdN(c:List Spx)(d:Nat):Nat:=(aB c ((d:Int)+1)).length
def bdM(c:List Spx)(d:Nat):List (List Int):=trL (aB c ((d:Int)+1+1)).length (dA (aB c ((d:Int)+1+1)) (aB c ((d:Int)+1)))
def bdE(c:List Spx)(d:Nat):List (List Int):=ec (bdM c d) (bdN c d)
theorem DG{c:List Spx}{d:Nat}(hc:aA c=0)(hl:c.length≤50):gY (bdN c d) (bdM c d):=by
 have h1:=cA hc hl (d:=(d:Int)+1);have h2:=cA hc hl (d:=(d:Int)+1+1);have:=IR (R:=dA (aB c ((d:Int)+1+1)) (aB c ((d:Int)+1))) (c:=(aB c ((d:Int)+1+1)).length) (by rw[gf];omega) (by omega);rw[gf] at this;exact this
theorem BN{c:List Spx}{d:Nat}:(bdE c d).length≤bdN c d:=by unfold bdE ec;rw[bw];exact ke
attribute [local irreducible] aK ak bf a5 aO aQ aC aS a7 bj Go.Abs.Fn aZ Go.Abs.Pure au aM Yl
theorem ub(c:List Spx)(d:Nat)(hc:aA c=0)(hl:c.length≤50)(hd:d≤7)(H:Hp)(nx:Nat):
    Abs.Fn Tryz.prog 81 [bM c,.int .i64 d] H nx fun r H' nx'=>∃b,r=.tup [.ptr b 3 0,.int .i64 0]∧nx≤b∧b<nx'∧(∀x,x<nx→H' x=H x)∧H' b=some [.int .i64 (bdN c d),bD (bdE c d),.int .i64 (bdE c d).length]:=by
 refine fO Mo ?_;simp only[b81,aH];have he:=mI c (d+1) hc hl (by omega);have hs:=rF c d hc hl (by omega);have h2:=cA hc hl (d:=(d:Int)+1+1);have h1:=cA hc hl (d:=(d:Int)+1);rw[show((d+1:Nat):Int)=(d:Int)+1 by omega] at he;have ht:=yp (aB c ((d:Int)+1+1)).length (dA (aB c ((d:Int)+1+1)) (aB c ((d:Int)+1))) (kH (by omega) (by omega));rw[gf] at ht;have hel:(bdE c d).length≤bdN c d:=BN;have hec:pU 134 [dS (bdN c d) (bdM c d)] (.tup [dS (bdN c d) (bdE c d),.int .i64 0]):=nS _ _ (DG hc hl);have hq:((aB c ((d:Int)+1)).length:Int)=bdN c d:=rfl;have hm:trL (aB c ((d:Int)+1+1)).length (dA (aB c ((d:Int)+1+1)) (aB c ((d:Int)+1)))=bdM c d:=rfl;rw[hm] at ht;rw[hq] at hs ht;have z0:decide ((0:Int)≠0)=false:=rfl;have z2:aj c=aj c:=rfl;generalize dA (aB c ((d:Int)+1+1)) (aB c ((d:Int)+1))=R at *;generalize (aB c ((d:Int)+1+1)).length=m at *;generalize bdM c d=M at *;generalize bdE c d=E at *;have hN:bdN c d≤3500:=h1;generalize bdN c d=n at *;have d1:Dat (.agg [.int .i64 m,bD R]):=dj m R;have d2:Dat (.agg [.int .i64 n,bD M]):=dj n M;rw[dl] at he ht hec;rw[dl] at ht hec;refine wnY (zI4 @z0 @ai @af @eD) ?_;exact⟨nx+3,rfl,by omega,by omega,fun x hx=>by(repeat rw[ac (by omega)]),ag⟩
end Go.Proofs.YtekdaafnjdlenaaGreat
namespace Go.Proofs.YtekdaafnjdlenaaGreat
open Go Go.Abs
def bsT(E:List (List Int))(n:Nat)(K:List (List Int)):Nat→List (List Int)
 |0=>[]
 |k+1=>if (ec ((E++bsT E n K k)++[K.getD k default]) n).length=(ec (E++bsT E n K k) n).length then bsT E n K k else bsT E n K k++[K.getD k default]
theorem BD{E:List (List Int)}{n:Nat}{K:List (List Int)}:∀{k:Nat},(bsT E n K k).length≤k
 |0=>aP _
 |k+1=>by
  have:=BD (E:=E) (n:=n) (K:=K) (k:=k);unfold bsT;split
  ·omega
  ·rw[c7];simp only[bK,fi];omega
theorem xn{E:List (List Int)}{n:Nat}{K:List (List Int)}:∀{k:Nat},k≤K.length→∀v∈bsT E n K k,v∈K
 |0,_,v,h=>by cases h
 |k+1,hk,v,h=>by
  unfold bsT at h;split at h
  ·exact xn (by omega) v h
  ·rcases eA.1 h with h|h
   ·exact xn (by omega) v h
   ·rw[cU] at h;subst h;exact ay (by omega)
theorem FU{E:List (List Int)}{n:Nat}(hE:Red E)(hv:∀r∈E,∀z∈r,0≤z∧z<(n:Int)):ec E n=E:=by
 obtain⟨h1,h2,-⟩:=kR hE.asc hv;exact sI h1 hE h2
theorem y5{c:Int}{R S:List (List Int)}(h:gY c R)(hl:S.length≤4096)(hs:∀r∈S,r∈R):gY c S:=⟨h.1,h.2.1,hl,fun r hr=>h.2.2.2 r (hs r hr)⟩
theorem yS{c:Int}{R S:List (List Int)}(h:gY c R)(h2:gY c S)(hl:R.length+S.length≤4096):gY c (R++S):=⟨h.1,h.2.1,by rw[c7];exact hl,fun r hr=>(eA.1 hr).elim (h.2.2.2 r) (h2.2.2.2 r)⟩
attribute [local irreducible] aK ak bf a5 aO aQ aC aS a7 bj Go.Abs.Fn aZ Go.Abs.Pure au aM Yl
theorem FQ(c:List Spx)(d:Nat)(H:Hp)(nx:Nat):Abs.Fn Tryz.prog 50 [bM c,.int .i64 d] H nx fun r H' nx'=>r=.func 102 [.ptr nx 1 0,.ptr (nx+1) 1 0]∧H'=aq (aq H nx [aj c]) (nx+1) [.int .i64 d]∧nx'=nx+2:=by
 refine fO MO ?_;simp only[b50,aH];refine wnY (aI @ai @af) ?_;exact⟨rfl,rfl,rfl⟩
end Go.Proofs.YtekdaafnjdlenaaGreat
namespace Go.Proofs.YtekdaafnjdlenaaGreat
open Go Go.Abs
theorem mh.same{H H':Hp}{s:AV}{l:List (List Int)}(h:mh H s l)(hs:∀b,bL s=some b→H' b=H b):mh H' s l:=by
 rcases h with h|h
 ·exact .inl h
 ·exact .inr (h.same hs)
theorem tL{c:List Spx}:bM c=.agg [aj c]:=rfl
def bsK(c:List Spx)(d:Nat):List (List Int):=sV (ec (dA (aB c ((d:Int)+1)) (aB c d)) (bdN c d)) (bdN c d)
theorem DD{c:List Spx}{d:Nat}(hc:aA c=0)(hl:c.length≤50):gY (bdN c d) (dA (aB c ((d:Int)+1)) (aB c d)):=by
 have h1:=cA hc hl (d:=(d:Int)+1);have h2:=cA hc hl (d:=(d:Int));exact kH (X:=aB c ((d:Int)+1)) (Y:=aB c d) (by omega) (by omega)
theorem pz{c:Nat}{R:List (List Int)}(h:gY c R):∀r∈R,∀z∈r,0≤z∧z<(c:Int):=fun r hr=>(h.2.2.2 r hr).1
theorem BW{c:Nat}{R:List (List Int)}(hc:c≤4096)(hl:R.length≤4096)(ha:∀r∈R,bo r)(hv:∀r∈R,∀z∈r,0≤z∧z<(c:Int)):gY c R:=
 ⟨by omega,by omega,hl,fun r hr=>⟨hv r hr,by have:=ft (ha r hr) (hv r hr);omega,tU (ha r hr)⟩⟩
theorem A6{c:Nat}{R:List (List Int)}(h:gY c R):Red (ec R c)∧(∀v,Sp (ec R c) v↔Sp R v)∧(∀r∈ec R c,∀z∈r,0≤z∧z<(c:Int))∧(ec R c).length≤c:=by
 obtain⟨h1,h2,-⟩:=kR (fF h) (pz h);exact⟨h1,h2,fun r hr=>kL (fF h) (pz h) ((h2 r).1 (ey hr)),by unfold ec;rw[bw];exact ke⟩
theorem IB{E:List (List Int)}{c:Nat}(hE:Red E)(hv:∀r∈E,∀z∈r,0≤z∧z<(c:Int)):∀v∈sV E c,bo v∧∀z∈v,0≤z∧z<(c:Int):=fun v h=>by
 unfold sV at h;obtain⟨q,hq,rfl⟩:=bG.1 h;have hq:=ia.1 hq;have hqc:=eO.1 hq.1;obtain⟨k1,k2⟩:=sZ hE (oC hq.2);refine⟨k1,fun z hz=>?_⟩;rcases(k2 z).1 hz with rfl|⟨r,hr,_,rfl⟩
 ·omega
 ·exact hv r hr _ (dg (hE.ne r hr))
theorem EW{c:List Spx}{d:Nat}(hc:aA c=0)(hl:c.length≤50):gY (bdN c d) (bsK c d)∧(bsK c d).length≤bdN c d:=by
 have hn:bdN c d≤3500:=cA hc hl;obtain⟨h1,-,h2,-⟩:=A6 (DD (d:=d) hc hl);have hk:=IB h1 h2;have hll:(bsK c d).length≤bdN c d:=zN;exact⟨BW (by omega) (by omega) (fun v h=>(hk v h).1) fun v h=>(hk v h).2,hll⟩
theorem HR{c:List Spx}{d:Nat}(hc:aA c=0)(hl:c.length≤50):gY (bdN c d) (bdE c d)∧Red (bdE c d)∧(∀v,Sp (bdE c d) v↔Sp (bdM c d) v):=by
 have hn:bdN c d≤3500:=cA hc hl;obtain⟨h1,h2,h3,h4⟩:=A6 (DG (d:=d) hc hl);exact⟨BW (by omega) (eX h4 (by omega)) h1.asc h3,h1,h2⟩
def Gu(o:Option Nat):List Nat:=match o with|some x=>[x]|none=>[]
theorem yU{o:Option Nat}{x:Nat}:x∈Gu o↔o=some x:=by cases o<;>simp[Gu];exact eq_comm
attribute [local irreducible] aK ak bf a5 aO aQ aC aS a7 bj Go.Abs.Fn aZ Go.Abs.Pure au aM Yl
set_option maxHeartbeats 1000000 in
theorem FI{y cb db:Nat}(c:List Spx)(d:Nat)(hso:qz (bdN c d+1))(hc:aA c=0)(hl:c.length≤50)(hd:d≤7)(hn:bdN c d≤1000)(H:Hp)(nx:Nat)(I:List Nat→List (List Int)→Hp→Nat→Prop)
    (g1:H cb=some [aj c]) (g2:H db=some [.int .i64 d]) (hcb:cb<nx) (hdb:db<nx)
    (st:∀F F' D H nx H' nx',I F D H nx→nx≤nx'→(∀x,x<nx→x∉F→H' x=H x)→(∀x∈F',x∈F∨nx≤x∧x<nx')→I F' D H' nx')
    (rnd:∀F D v H nx,I F D H nx→v∈bsK c d→D.length≤1000→Yl Tryz.prog y [aG v,.int .i64 0] H nx fun r H' nx'=>r=.bool true∧nx≤nx'∧(∀x∈F,H' x=H x)∧I F (D++[v]) H' nx')
    (h0:I [] [] H nx):
    Abs.Fn Tryz.prog 102 [.yld y,.ptr cb 1 0,.ptr db 1 0] H nx fun _ H' nx'=>∃F,I F (bsT (bdE c d) (bdN c d) (bsK c d) (bsK c d).length) H' nx':=by
 refine fO Lm ?_;simp only[La,aH];have hbd:=fun H nx=>ub c d hc hl hd H nx;have he:=mI c d hc hl (by omega);have hk:=DF _ _ (DD (d:=d) hc hl) hso;rw[show sV (ec (dA (aB c ((d:Int)+1)) (aB c d)) (bdN c d)) (bdN c d)=bsK c d from rfl] at hk;rw[show(((aB c ((d:Int)+1)).length:Nat):Int)=(bdN c d:Int) from rfl] at he;obtain⟨mE,rE,-⟩:=HR (d:=d) hc hl;obtain⟨mK,lK⟩:=EW (d:=d) hc hl;have lE:(bdE c d).length≤bdN c d:=BN;have eE:=FU rE (pz mE);have hd1:Dat (.agg [.int .i64 (bdN c d),bD (dA (aB c ((d:Int)+1)) (aB c d))]):=dj _ _;rw[tL] at hbd he;rw[dl] at he;rw[dl,dl] at hk;generalize dA (aB c ((d:Int)+1)) (aB c d)=R at *;have dcx:Dat (.agg [aj c]):=cR c;generalize bdE c d=E at *;generalize bdN c d=n at *;generalize bsK c d=K at *;have z0:decide ((0:Int)≠0)=false:=rfl;have z1:decide ((0:Int)=0)=true:=rfl;refine wnY (aI @g1 @g2) ?_;refine bd ev0 ev0 (hbd _ _) ?_;rintro _ H1 nx1 ⟨b,rfl,b1,b2,b3,b4⟩;have g1':=(b3 cb hcb).trans g1;have g2':=(b3 db hdb).trans g2;refine wnY (zI5 @g1' @g2' @z0 @z1 @eD) ?_;refine lpI (X:=AV×Nat) (fun x=>[(0,.yld y),(4,.ptr b 3 0),(39,bD K),(40,.int .i64 K.length),(41,.int .i64 x.2)]) (fun x H' nx'=>x.2≤K.length∧I (b::Gu (bL x.1)) (bsT E n K x.2) H' nx'∧H' b=some [.int .i64 n,x.1,.int .i64 (ec (E++bsT E n K x.2) n).length]∧mh H' x.1 (E++bsT E n K x.2)∧b<nx'∧∀z,bL x.1=some z→z<nx'∧z≠b) (fun x=>K.length-x.2) (bD E,0) ⟨bF _,?_,?_,?_,by omega,fun z h=>?_⟩ ?_
 ·refine st [] _ [] _ nx _ _ h0 (by omega) (fun x hx _=>?_) (fun x hx=>?_)
  ·(repeat rw[ac (by omega)])
   exact b3 x hx
  ·rcases cQ.1 hx with rfl|hx
   ·exact .inr ⟨by omega,by omega⟩
   ·cases hx
 ·(repeat rw[ac (by omega)])
  show H1 b=some [.int .i64 n,bD E,.int .i64 (ec (E++[]) n).length];rw[ga,eE];exact b4
 ·refine .inl ?_;show bD E=bD (E++[]);rw[ga]
 ·exact by cases h
 clear h0 b3 b4 g1' g2' g1 g2;rintro⟨rv,k⟩ H' nx' ⟨h1,h2,h3,h4,h5,h6⟩;dsimp only at h1 h2 h3 h4 h5 h6 ⊢;by_cases hk2:k<K.length
 rotate_left
 ·obtain rfl:k=K.length:=by omega
  refine wnY and_self ?_;exact⟨_,h2⟩
 have ix:=Dr hk2;have hTl:=BD (E:=E) (n:=n) (K:=K) (k:=k);have hTm:=xn (E:=E) (n:=n) (K:=K) h1;have hss:bsT E n K (k+1)=if (ec ((E++bsT E n K k)++[K.getD k default]) n).length=(ec (E++bsT E n K k) n).length then bsT E n K k else bsT E n K k++[K.getD k default]:=rfl
 have hvm:K.getD k default∈K:=ay hk2;generalize K.getD k default=v at *;have mS:gY n ((E++bsT E n K k)++[v]):=yS (yS mE (y5 mK (by omega) hTm) (by omega)) (y5 mK (by simp) fun r hr=>by rw[cU] at hr;rw[hr];exact hvm) (by rw[c7];simp only[bK,fi];omega);have hadd:=Kx n (E++bsT E n K k) (ec (E++bsT E n K k) n).length v rv b H' nx' mS h3 h5 h4 fun x hx=>(h6 x hx).1;generalize hT:bsT E n K k=D at *;refine wnY @ix ?_;refine bd ev0 ev0 hadd ?_;rintro _ H2 nx2 ⟨q1,q2,q3⟩;rcases q3 with⟨e1,rfl,e3⟩|⟨e1,rfl,wv,e3,e4,e5⟩
 ·rw[if_pos e1] at hss;refine wnY @z0 ?_;refine⟨(rv,k+1),by dsimp only;omega,⟨by dsimp only;omega,?_,?_,?_,by omega,fun z hz=>by have:=h6 z hz;omega⟩,ag0⟩
  ·dsimp only;rw[hss];exact st _ _ _ _ _ _ _ h2 q1 (fun x hx hF=>q2 x hx fun e=>hF (by rw[e];exact di ..)) fun x hx=>.inl hx
  ·dsimp only;rw[hss,e3];exact h3
  ·dsimp only;rw[hss];exact h4.same fun z hz=>q2 z (h6 z hz).1 (h6 z hz).2
 rw[if_neg e1] at hss
 have hI2:I (b::Gu (bL wv)) D H2 nx2:=st _ _ _ _ _ _ _ h2 q1 (fun x hx hF=>q2 x hx fun e=>hF (by rw[e];exact di ..)) fun x hx=>by
  rcases cQ.1 hx with rfl|hx
  ·exact .inl (di ..)
  ·exact .inr (e5 x (yU.1 hx))
 refine wnY @z0 ?_;refine wW ev0 ev0 (Yl.mono (rnd _ D v _ _ hI2 hvm (by omega)) ?_);rintro _ H3 nx3 ⟨rfl,r1,r2,r3⟩;refine wnY @z0 ?_;refine⟨(wv,k+1),by dsimp only;omega,⟨by dsimp only;omega,?_,?_,?_,by omega,fun z hz=>?_⟩,ag0⟩
 ·dsimp only;rw[hss];exact r3
 ·dsimp only;rw[hss,r2 b (di ..),e3,lD]
 ·dsimp only;rw[hss,←lD];exact e4.same fun z hz=>r2 z (d8 _ (yU.2 hz))
 ·have:=e5 z hz;omega
end Go.Proofs.YtekdaafnjdlenaaGreat
namespace Go.Proofs.YtekdaafnjdlenaaGreat
open Go Go.Abs
theorem Dc{c:List Spx}{n:Nat}:aB c ((n:Int)+1)=gw c (n+1):=by
 have:=Ed (c:=c) (k:=n+1);rw[if_neg (by omega)] at this;exact this
theorem mb{b:List Int}:∀{a:List Int},cp (fun j=>bit j b) a=(a.filter fun x=>decide (x∈b)).length
 |[]=>rfl
 |x::a=>by
  have ih:=mb (b:=b) (a:=a);show bit x b+cp _ a=_;rw[ih];by_cases h:x∈b
  ·rw[xm (by simpa using h),bK];unfold bit;rw[if_pos h];omega
  ·rw[wq (by simpa using h)];unfold bit;rw[if_neg h];omega
theorem v7{a b:List Int}(ha:bo a)(hb:bo b):jp a b=pY b a:=by
 unfold jp pY;have:=pp _ a b (aP _) ha hb;rw[mb];refine decide_eq_decide.2 ?_;omega
theorem md{g:Int→Nat}{b:List Int}:∀{a:List Int},cp g (a++b)=cp g a+cp g b
 |[]=>by show _=0+_;rw[ce];rfl
 |x::a=>by
  have ih:=md (g:=g) (b:=b) (a:=a);show g x+cp g (a++b)=g x+cp g a+cp g b;rw[ih];omega
theorem uy{g:Int→Nat}:∀{a:List Int},(∀z∈a,g z=0)→cp g a=0
 |[],_=>rfl
 |x::a,h=>by
  show g x+cp g a=0;rw[h x di,uy fun z hz=>h z (d8 _ hz)]
structure VR(c:Nat)(R:List (List Int)):Prop where
 asc:∀r∈R,bo r
 rng:∀r∈R,∀z∈r,0≤z∧z<(c:Int)
def rk(R:List (List Int))(c:Nat):Nat:=(ec R c).length
theorem VR.app{c:Nat}{R S:List (List Int)}(h1:VR c R)(h2:VR c S):VR c (R++S):=
 ⟨fun r hr=>(eA.1 hr).elim (h1.asc r) (h2.asc r),fun r hr=>(eA.1 hr).elim (h1.rng r) (h2.rng r)⟩
theorem VR.sub{c:Nat}{R S:List (List Int)}(h:VR c R)(hs:∀r∈S,r∈R):VR c S:=⟨fun r hr=>h.asc r (hs r hr),fun r hr=>h.rng r (hs r hr)⟩
theorem VR.one{c:Nat}{v:List Int}(ha:bo v)(hv:∀z∈v,0≤z∧z<(c:Int)):VR c [v]:=⟨fun r hr=>by rw[cU] at hr;rw[hr];exact ha,fun r hr=>by rw[cU] at hr;rw[hr];exact hv⟩
theorem VR.nil{c:Nat}:VR c []:=⟨fun _ h=>(by cases h),fun _ h=>(by cases h)⟩
theorem GQ{c:Nat}{R:List (List Int)}(h:gY c R):VR c R:=⟨fF h,pz h⟩
structure KerV(R:List (List Int))(c:Nat)(x:List Int):Prop where
 asc:bo x
 rng:∀z∈x,0≤z∧z<(c:Int)
 dot:∀r∈R,cp (fun z=>bit z r) x%2=0
theorem yY{L:List Ln}{w:List Int}{z:Int}:z∈lL L w↔ ∃l∈L,jp l.2 w=true∧ld l.1=z:=by
 unfold lL;simp only[bG,ia];exact⟨fun⟨l,⟨h1,h2⟩,h3⟩=>⟨l,h1,h2,h3⟩,fun⟨l,h1,h2,h3⟩=>⟨l,⟨h1,h2⟩,h3⟩⟩
theorem En{M:List Ln}{c:Nat}{w:List Int}(hM:RedU M):bo (lL (lC M c) w):=by
 unfold lL bo;rw[List.pairwise_map];exact(og hM).sublist List.filter_sublist
theorem xS{M:List Ln}{c:Nat}{w:List Int}(hM:RedU M):∀z∈lL (lC M c) w,0≤z∧z<(c:Int):=fun z hz=>by
 obtain⟨l,h1,_,rfl⟩:=yY.1 hz;exact((po hM).1 h1).2
theorem Dp{R:List (List Int)}{c:Nat}{w:List Int}(hR:∀r∈R,bo r)(hv:∀r∈R,∀z∈r,0≤z∧z<(c:Int))(hw:bo w)(h0:∀y∈(stE R R.length).2,pY w y=false){i:Nat}(hi:i<R.length):cp (fun z=>bit z (lL (lB R c) w)) (R.getD i default)%2=bit (i:Int) w:=by
 have hsy:=Ct hR hv h0;obtain⟨w1,w2,w3⟩:=nN (b:=w) hR hv;obtain⟨e1,e2,e3⟩:=kR w1 w2;rw[yi w1 w2] at hsy;have hs:=i9 hR (aP R.length);have hM:=hs.red;have d3:=(kR hR hv).2.2;have hlv:∀l∈(stE R R.length).1,∀z∈l.1,0≤z∧z<(c:Int):=fun l hl=>kL hR hv (kV (fun r hr=>io hr) (hs.inS l hl))
 have hxm:∀z,z∈lL (lB R c) w↔ ∃l∈(stE R R.length).1,jp l.2 w=true∧ld l.1=z:=fun z=>by
  rw[yY];exact⟨fun⟨l,h1,h2⟩=>⟨l,(d3 l).1 h1,h2⟩,fun⟨l,h1,h2⟩=>⟨l,(d3 l).2 h1,h2⟩⟩
 have hxc:∀z∈lL (lB R c) w,z<(c:Int):=fun z hz=>(xS hM z hz).2;generalize lL (lB R c) w=x at *
 have hgz:∀z:Int,z<(c:Int)→bit z (x++[(c:Int)])=bit z x:=fun z hz=>by
  unfold bit;by_cases h:z∈x
  ·rw[if_pos h,if_pos (eA.2 (.inl h))]
  ·rw [if_neg h,if_neg fun q=>by
     rcases eA.1 q with q|q
     ·exact h q
     ·have:=cU.1 q;omega]
 have hgc:bit (c:Int) (x++[(c:Int)])=1:=dz.2 (eA.2 (.inr (cU.2 rfl)));have hwi:(li R c w).getD i default∈li R c w:=ay (by unfold li;simpa using hi);have hsp:=(e2 _).2 (ey hwi);rw[hsy,zb hi] at hsp
 have hz:=BX (g:=fun z=>bit z (x++[(c:Int)])) hsp fun d hd=>by
  obtain⟨l,hl,rfl⟩:=bG.1 hd;have hl:=(d3 l).1 hl;have hla:=hM.asc l hl;have hne:=hM.ne l hl;have hsame:∀l'∈(stE R R.length).1,ld l'.1∈l.1→l=l':=fun l' hl' h=>hM.own l' hl' l hl h;have hlc:=hlv l hl
  have hld:cp (fun z=>bit z (x++[(c:Int)])) l.1=bit (ld l.1) x:=by
   have hldm:=dg hne;cases hq:l.1 with
   |nil=>exact absurd hq hne
   |cons z t=>
    rw[hq] at hldm hsame hlc hla;have hz:ld (z::t)=z:=rfl;rw[hz];show bit z (x++[(c:Int)])+cp _ t=_;rw[hgz z (hlc z di).2,uy (a:=t) fun u hu=>?_]
    ·omega
    ·have huc:=hlc u (d8 _ hu);rw[hgz u huc.2];unfold bit;rw[if_neg fun hux=>?_];obtain⟨l',h1,_,h3⟩:=(hxm u).1 hux;have h4:=hsame l' h1 (by rw[h3];exact d8 _ hu);have h5:=(gW.1 hla.1).1 u hu;rw[←h4,hq] at h3;have:ld (z::t)=z:=rfl;omega
  have hbx:bit (ld l.1) x=if pY w l.2=true then 1 else 0:=by
   rw[←v7 hla.2 hw];unfold bit;by_cases h:jp l.2 w=true
   ·rw[if_pos ((hxm _).2 ⟨l,hl,h,rfl⟩),if_pos h]
   ·rw[if_neg fun q=>?_,if_neg h];obtain⟨l',h1,h2,h3⟩:=(hxm _).1 q;have:=hsame l' h1 (by rw[h3];exact dg hne);rw[this] at h;exact h h2
  unfold wdL;by_cases h:pY w l.2=true
  ·rw[if_pos h,md,hld,hbx,if_pos h];show(1+(bit (c:Int) (x++[(c:Int)])+0))%2=0;rw[hgc]
  ·rw[if_neg h,hld,hbx,if_neg h]
 have hri:=hv _ (ay hi);have hcg:cp (fun z=>bit z (x++[(c:Int)])) (R.getD i default)=cp (fun z=>bit z x) (R.getD i default):=ji fun z hz=>hgz z (hri z hz).2;unfold wdR at hz;by_cases h:(i:Int)∈w
 ·rw[if_pos h,md,hcg] at hz;have hz:(cp (fun z=>bit z x) (R.getD i default)+(bit (c:Int) (x++[(c:Int)])+0))%2=0:=hz;rw[hgc] at hz;unfold bit at hz ⊢;rw[if_pos h];omega
 ·rw[if_neg h,hcg] at hz;unfold bit at hz ⊢;rw[if_neg h];exact hz
attribute [local irreducible] aK ak bf a5 aO aQ aC aS a7 bj Go.Abs.Fn aZ Go.Abs.Pure au aM Yl
end Go.Proofs.YtekdaafnjdlenaaGreat
namespace Go.Proofs.YtekdaafnjdlenaaGreat
open Go Go.Abs
theorem Bj{n:Nat}{x:List Int}(ha:bo x)(hr:∀z∈x,0≤z∧z<(n:Int)):sS n x=0:=by
 unfold sS;refine dq fun k hk=>?_;rw[sE];have h1:=hr _ (ay hk);rw[if_neg (by omega),if_neg];rintro⟨h0,h2⟩;have h3:=kB.1 ha (k-1) k (by omega) hk (by omega);have e1:x.getD k default=x[k]:=by simp[List.getD,hk]
 have e2:x.getD (k-1) default=x[k-1]:=by simp[List.getD,show k-1<x.length by omega]
 omega
def cyT(c:List Spx)(d:Nat):List (List Spx):=(bsT (bdE c d) (bdN c d) (bsK c d) (bsK c d).length).map (ea (aB c ((d:Int)+1)))
theorem Ev{H:Hp}{s:AV}{l:List (List Spx)}(h:Row H 1 s (l.map aj)):Snap H s (fm l):=h.snapL' (fun _=>rfl) (fun x _=>bl x)
attribute [local irreducible] aK ak bf a5 aO aQ aC aS a7 bj Go.Abs.Fn aZ Go.Abs.Pure au aM Yl
theorem Ch(c:List Spx)(d:Nat)(hso:qz (bdN c d+1))(hc:aA c=0)(hl:c.length≤50)(hd:d≤7)(hn:bdN c d≤1000):pU 18 [bM c,.int .i64 d] (.tup [fm (cyT c d),.int .i64 0]):=by
 refine pO Nj ?_;simp only[b18,aH];have hch:=nV c hc hl;obtain⟨mK,lK⟩:=EW (d:=d) hc hl
 have hchn:∀v∈bsK c d,pU 34 [bM c,.int .i64 d,aG v] (.tup [aj (ea (aB c ((d:Int)+1)) v),.int .i64 0]):=fun v hv=>by
  have:=wJ c d v hl (kX hc) (by have:=(mK.2.2.2 v hv).2.1;omega);have hz:sS (aB c ((d:Int)+1)).length v=0:=Bj (fF mK v hv) (pz mK v hv)
  have e:zU c d v=(ea (aB c ((d:Int)+1)) v,0):=by
   unfold zU;rw[if_neg (fun q=>q hc),if_neg (by omega),if_neg (fun q=>q hz)]
  rw[e] at this;exact this
 unfold cyT;generalize aB c ((d:Int)+1)=X at *;have z0:decide ((0:Int)≠0)=false:=rfl;have z1:decide ((d:Int)<0)=false:=a6 (by omega);have z2:decide ((8:Int)≤d)=false:=a6 (by omega);refine wnY (zI5 @z0 @z1 @z2 @ai @af) ?_;refine bd ev0 ev0 (FQ c d _ _) ?_;rintro _ H1 nx1 ⟨rfl,rfl,rfl⟩;refine wnY and_self ?_;refine mU 7 8 rfl rfl ev0 (fun c0 cj hy=>?_);refine Abs.Fn.mono (FI (nx:=8) (cb:=5) (db:=6) c d hso hc hl hd hn _ (I:=fun F D H' nx'=>8≤nx'∧H' 0=some [aj c]∧H' 1=some [.int .i64 d]∧H' 2=some [.esl]∧H' 3=some [.int .i64 0]∧H' 7=some [c0]∧(∀x∈F,8≤x∧x<nx')∧∃sv,H' 4=some [sv]∧Row H' 1 sv ((D.map (ea X)).map aj)∧∀b',bL sv=some b'→8≤b'∧b'<nx'∧b'∉F) ?_ ?_ (by omega) (by omega) ?_ ?_ ?_) ?_
 ·rfl
 ·rfl
 ·rintro F F' D H nx H' nx' ⟨h1,h2,h3,h4,h5,h6,h7,sv,h8,h9,h10⟩ hle hs hF;have lo:∀x,x<8→H' x=H x:=fun x hx=>hs x (by omega) fun e=>by have:=h7 x e;omega
  refine⟨by omega,(lo 0 (by omega)).trans h2,(lo 1 (by omega)).trans h3,(lo 2 (by omega)).trans h4,(lo 3 (by omega)).trans h5,(lo 7 (by omega)).trans h6,fun x hx=>?_,sv,(lo 4 (by omega)).trans h8,h9.same fun b hb=>?_,fun b hb=>?_⟩
  ·rcases hF x hx with h|h
   ·have:=h7 x h;omega
   ·omega
  ·obtain⟨p1,p2,p3⟩:=h10 b hb;exact hs b p2 p3
  ·obtain⟨p1,p2,p3⟩:=h10 b hb;refine⟨p1,by omega,fun e=>?_⟩;rcases hF b e with h|h
   ·exact p3 h
   ·omega
 ·rintro F D v H' nx' ⟨h1,h2,h3,h4,h5,h6,h7,sv,h8,h9,h10⟩ hv hDl;refine hy _ _ _ _ h6 rfl ?_;clear hy;refine wnZ and_self ?_;refine⟨h6,?_⟩;have hdo:∀x,x≠7→de H' 7 x=H' x:=fun x b=>cC b;have hcv:=hchn v hv;rw[tL] at hcv;have dcx:Dat (.agg [aj c]):=cR c;generalize hH1:de H' 7=H1 at *;have g2:=(hdo 0 (by omega)).trans h2;have g3:=(hdo 1 (by omega)).trans h3;have g4:=(hdo 4 (by omega)).trans h8;generalize hpv:ea X v=pv at *;refine wnY (zI6 @g2 @g3 @g4 @z0 @ai @af) ?_;refine iX rfl ev0 (h9.same fun b' hb'=>?_) ev0 fq rfl rfl mq (by rw[bw,bw];omega) (by rw[bw,bw];omega) ?_
  ·have:=h10 b' hb';rw[ac (by omega)];exact hdo _ (by omega)
  rintro sv' H3 nx3 r1 r2 r3 r4 r5;have zs:∀x,x<8→bL sv≠some x:=fun x hx e=>by have:=h10 x e;omega
  have z:∀x,x<nx'→x≠7→bL sv≠some x→H3 x=H' x:=fun x a1 a2 a3=>(r4 x (by omega) a3).trans (by rw[ac (by omega)];exact hdo x a2);have k4:H3 4=some [sv]:=(z 4 (by omega) (by omega) (zs _ (by omega))).trans h8;obtain⟨q1,q2⟩:=r1.one;refine wnY (zI3 @k4 @q1 @q2) ?_;have w:∀x,x≠4→x≠7→aq (aq H3 4 [sv']) 7 [c0] x=H3 x:=fun x a1 a2=>by rw[ac a2,ac a1]
  have u8:∀b',bL sv'=some b'→8≤b'∧b'<nx3∧b'∉F:=fun b' hb'=>by
   rcases r5 b' hb' with e|⟨e1,e2⟩
   ·obtain⟨p1,p2,p3⟩:=h10 b' e;exact⟨p1,by omega,p3⟩
   ·exact⟨by omega,by omega,fun e=>by have:=h7 b' e;omega⟩
  refine⟨rfl,by omega,fun x hx=>?_,by omega,(w 0 (by omega) (by omega)).trans ((z 0 (by omega) (by omega) (zs _ (by omega))).trans h2),(w 1 (by omega) (by omega)).trans ((z 1 (by omega) (by omega) (zs _ (by omega))).trans h3),(w 2 (by omega) (by omega)).trans ((z 2 (by omega) (by omega) (zs _ (by omega))).trans h4),(w 3 (by omega) (by omega)).trans ((z 3 (by omega) (by omega) (zs _ (by omega))).trans h5),ag,fun x hx=>?_,sv',?_,?_,u8⟩
  ·have:=h7 x hx;refine(w x (by omega) (by omega)).trans ?_;exact z x (by omega) (by omega) fun e=>(h10 x e).2.2 hx
  ·have:=h7 x hx;omega
  ·exact(ac (by omega)).trans ag
  ·rw[cL,cL,show [v].map (ea X)=[pv] by rw[←hpv];rfl];exact r1.same fun b' hb'=>w b' (by have:=u8 b' hb';omega) (by have:=u8 b' hb';omega)
 ·refine⟨aP _,rfl,rfl,rfl,rfl,ag,fun x hx=>(by cases hx),.esl,rfl,.nil,fun b' hb'=>(by cases hb')⟩
 ·rintro r H' nx' ⟨F,h1,h2,h3,h4,h5,h6,h7,sv,h8,h9,h10⟩;refine .inl ⟨h6,?_⟩;obtain⟨q1,q2⟩:=h9.one;have lo:∀x,x≠7→de H' 7 x=H' x:=fun x b=>cC b;have k1:Row (de H' 7) 1 sv (((bsT (bdE c d) (bdN c d) (bsK c d) (bsK c d).length).map (ea X)).map aj):=h9.same fun b' hb'=>lo b' (by have:=h10 b' hb';omega);have k2:=(lo 2 (by omega)).trans h4;have k3:=(lo 3 (by omega)).trans h5;have k4:=(lo 4 (by omega)).trans h8;generalize de H' 7=H1 at *;refine wnY (zI5 @k2 @k3 @k4 @q1 @q2) ?_;refine bC (ah (Ev (k1.same fun b' hb'=>?_)) (ah (.int _ _) ao));have:=h10 b' hb';rw[ac (by omega),ac (by omega)]
theorem DX(c:List Spx)(m:Nat)(hc:aA c=0)(hl:c.length≤50)(hm:sW c=m)(hm8:m≤8)(G:Hp)(n0:Nat):Abs.Fn Tryz.prog 44 [bM c] G n0 fun r H' nx'=>∃sv,r=.tup [sv,.int .i64 0]∧Row H' 1 sv ((btL c m).map (AV.int .i64))∧n0≤nx'∧(∀x,x<n0→H' x=G x)∧∀b,bL sv=some b→n0≤b∧b<nx':=by
 refine fO JV ?_;simp only[b44,aH];have hdi:=oO c hc hl;rw[hm] at hdi;have z0:decide ((0:Int)≠0)=false:=rfl;have hed:=fun d(h:d≤8)=>mI c d hc hl h;have hsz:=fun d(h:d≤8)=>rF c d hc hl h;have hrl:=fun d:Int=>cA hc hl (d:=d);have hrk:=fun d:Nat=>AE (aB c ((d:Int)+1)).length (dA (aB c ((d:Int)+1)) (aB c d)) (kH (by have:=hrl ((d:Int)+1);omega) (by have:=hrl d;omega));have hrf:=fun d:Nat=>wT (c:=c) (d:=d);refine wnY (zI3 @z0 @ai @af) ?_;refine uJ ?_;refine wnY and_self ?_;refine lpI (X:=Nat) (fun k=>[(1,.ptr n0 1 0),(4,.int .i64 ((m:Int)-1)),(7,.mp (n0+1)),(26,.int .i64 ((m:Int)-1+2)),(27,.int .i64 k)]) (fun k H nx=>k≤m+1∧n0+2≤nx∧H n0=some [aj c]∧H (n0+1)=some [.omap ((rkK k).map (AV.int .i64)) (rkV c k)]∧∀x,x<n0→H x=G x) (fun k=>m+1-k) 0 ⟨bF _,aP _,(ac (by omega)).trans ag,ag,fun x hx=>by rw[ac (by omega),ac (by omega)]⟩ ?_;rintro k H nx ⟨g1,g2,g3,g4,gl⟩;by_cases hk:k<m+1
 ·have hed1:=hed k (by omega);have hrk1:=hrk k;have hr1:=hrl ((k:Int)+1);have hd1:Dat (dS (aB c ((k:Int)+1)).length (dA (aB c ((k:Int)+1)) (aB c k))):=dj _ _;change pU 97 _ (.tup [.int .i64 (rkF c k),.int .i64 0]) at hrk1;rw[dl] at hed1 hrk1 hd1;generalize dA (aB c ((k:Int)+1)) (aB c k)=R at *;generalize (aB c ((k:Int)+1)).length=n at *;have z1:decide ((k:Int)<(m:Int)-1+2)=true:=aR (by omega);refine wnY (zI5 @g3 @z0 @z1 @ai @af) ?_;have hmf:=im (k:Int) (rkK k);rw[if_neg (fun q=>by have:=ky.1 q;omega)] at hmf;refine pA ev0 ((ac (by omega)).trans ((ac (by omega)).trans g4)) ev0 ev0 rfl hmf ?_;refine wnY @z0 ?_;refine⟨k+1,by omega,⟨by omega,by omega,by rw[ac (by omega),ac (by omega),ac (by omega)];exact g3,?_,fun x hx=>by rw[ac (by omega),ac (by omega),ac (by omega)];exact gl x hx⟩,ag0⟩;rw[ag,xB,zl,cL];rfl
 obtain rfl:k=m+1:=by omega
 have z1:decide (((m+1:Nat):Int)<(m:Int)-1+2)=false:=a6 (by omega);refine wnY @z1 ?_;refine lpI (X:=AV×Nat) (fun x=>[(1,.ptr n0 1 0),(7,.mp (n0+1)),(11,x.1),(51,.int .i64 ((m:Int)-1+1)),(52,.int .i64 x.2)]) (fun x H nx=>x.2≤m∧n0+2≤nx∧H n0=some [aj c]∧H (n0+1)=some [.omap ((rkK (m+1)).map (AV.int .i64)) (rkV c (m+1))]∧Row H 1 x.1 ((btL c x.2).map (AV.int .i64))∧(∀b,bL x.1=some b→n0+2≤b∧b<nx)∧∀x,x<n0→H x=G x) (fun x=>m-x.2) (.esl,0) ⟨bF _,g2,g3,g4,Row.nil,fun b h=>(by cases h),gl⟩ ?_;clear g1 g2 g3 g4 gl;rintro⟨sv,k⟩ H nx ⟨g1,g2,g3,g4,g5,g6,gl⟩;dsimp only at g1 g2 g3 g4 g5 g6 gl ⊢;by_cases hk:k<m
 rotate_left
 ·obtain rfl:k=m:=by omega
  have z1:decide ((k:Int)<(k:Int)-1+1)=false:=a6 (by omega);refine wnY @z1 ?_;exact⟨sv,rfl,g5,by omega,gl,fun b hb=>by have:=g6 b hb;omega⟩
 have hsz1:=hsz k (by omega);have hr1:=hrl ((k:Int)+1);have hr2:=hrl (((k+1:Nat):Int)+1);have hf1:=hrf k;have hf2:=hrf (k+1);have hmf1:=im (k:Int) (rkK (m+1));rw[if_pos (ky.2 (by omega)),rB (by omega)] at hmf1;have hmf2:=im ((k+1:Nat):Int) (rkK (m+1));rw[if_pos (ky.2 (by omega)),rB (by omega)] at hmf2;rw[show((k+1:Nat):Int)=(k:Int)+1 by omega] at hmf2;have hv1:Go.Abs.mget (.int .i64 0) false (some k) (rkV c (m+1))=.int .i64 (rkF c k):=rp (by omega);have hv2:Go.Abs.mget (.int .i64 0) false (some (k+1)) (rkV c (m+1))=.int .i64 (rkF c (k+1)):=rp (by omega);have hsn:=zy (c:=c) (n:=k);have hbl:(btL c k).length=k:=by unfold btL;simp
 have hbf:btF c k=((aB c ((k:Int)+1)).length:Int)-(rkF c k:Int)-(rkF c (k+1):Int):=rfl;rw[hbf] at hsn;generalize rkF c k=f1 at *;generalize rkF c (k+1)=f2 at *;generalize (aB c ((k:Int)+1)).length=n at *;generalize (aB c (((k+1:Nat):Int)+1)).length=n2 at *;have z1:decide ((k:Int)<(m:Int)-1+1)=true:=aR (by omega);refine wnY (zI5 @g3 @z0 @z1 @ai @af) ?_;refine jb ev0 g4 ev0 rfl hmf1 ?_;rw[hv1];refine wnY and_self ?_;refine jb ev0 g4 ev0 rfl hmf2 ?_;rw[hv2];refine wnY and_self ?_;refine eR (g5.same fun b hb=>?_) ?_
 ·have:=g6 b hb;rw[ac (by omega)]
 rintro s2 H2 nx2 hr3 i1 i2 i3 i4;have hdo:∀b,b<n0+2→bL sv≠some b:=fun b hb e=>by have:=g6 b e;omega
 have lo2:∀b,b<n0+2→H2 b=H b:=fun b hb=>(i3 b (by omega) (hdo b hb)).trans (by rw[ac (by omega)]);refine wnY and_self ?_;refine⟨(s2,k+1),by dsimp only;omega,⟨by dsimp only;omega,by omega,(lo2 n0 (by omega)).trans g3,(lo2 (n0+1) (by omega)).trans g4,?_,fun b hb=>?_,fun x hx=>(lo2 x (by omega)).trans (gl x hx)⟩,ag0⟩
 ·dsimp only;rw[hsn,cL];exact hr3
 ·rcases i4 b hb with h|h
  ·have:=g6 b h;omega
  ·omega
end Go.Proofs.YtekdaafnjdlenaaGreat
namespace Go.Proofs.YtekdaafnjdlenaaGreat
open Go Go.Abs
theorem EH{H:Hp}{b n j:Nat}{l:List Int}(hb:H b=some (l.map (AV.int .i64)))(hn:l.length=n)(hj:j≤n):Snap H (.msl b n 1 0 j) (aG (l.take j)):=by
 refine je hb (by simp[hn]) (by omega) (by simp[hn,hj]) (fun y hy=>by simp only[bG] at hy;obtain⟨n,_,rfl⟩:=hy;rfl) (fun i a c ha hc=>?_);rw[ce] at ha;rw[lq,iv] at hc;rw[lq] at ha;split at hc
 ·rw[ha] at hc;cases hc;obtain⟨z,_,rfl⟩:=Option.map_eq_some_iff.1 ha;exact .int _ _
 ·cases hc
def G9(l:List Int)(k:Int):Bool:=match l with
 |[]=>false
 |x::r=>!((((x-1)::r).take (min (k+1) ((r.length+1:Nat):Int)).toNat).any fun n=>decide (n≠0))
theorem GU{c:List Spx}{m:Nat}:(btL c m).length=m:=by unfold btL;simp
theorem Ib{c:List Spx}{m:Nat}(hc:aA c=0)(hl:c.length≤50):∀x∈btL c m,-7000≤x∧x≤7000:=fun x hx=>by
 unfold btL at hx;obtain⟨d,_,rfl⟩:=bG.1 hx;unfold btF;have h1:=cA hc hl (d:=(d:Int)+1);have h2:=cA hc hl (d:=((d+1:Nat):Int)+1);have h3:=wT (c:=c) (d:=d);have h4:=wT (c:=c) (d:=d+1);omega
attribute [local irreducible] aK ak bf a5 aO aQ aC aS a7 bj Go.Abs.Fn aZ Go.Abs.Pure au aM Yl
theorem IX(n:Int):pU 49 [.int .i64 n] (.bool (decide (n≠0))):=by
 refine pO M9 ?_;simp only[b49,aH]
 repeat' (first|refine zW ?_|apply a_n|refine zO ?_|refine vZ ?_|refine bU rfl ?_|refine r1Z ?_|fail)
 exact .bool _
theorem oW(c:List Spx)(m:Nat)(k:Int)(hc:aA c=0)(hl:c.length≤50)(hm:sW c=m)(hm8:m≤8)(hk:-1≤k∧k<8):pU 15 [bM c,.int .i64 k] (.tup [.bool (G9 (btL c m) k),.int .i64 0]):=by
 refine pO MG ?_;simp only[b15,aH];have hch:=nV c hc hl;have hbt:=fun G n0=>DX c m hc hl hm hm8 G n0;have hlen:=GU (c:=c) (m:=m);have hbd:=Ib (m:=m) hc hl;have z0:decide ((0:Int)≠0)=false:=rfl;have z1:decide (k<(-1:Int))=false:=a6 (by omega);have z2:decide ((8:Int)≤k)=false:=a6 (by omega);generalize btL c m=l at *;have zz:=aI @z0 (aI @z1 (aI @z2 (aI @ai @af)));repeat' (first|refine zW ?_|apply a_n|refine zO ?_|refine vY ?_|refine cY ?_ (hp:=hch) (hs:=by(first|refine aE ?_ rfl|apply aV);(repeat' (first|exact ao|apply br|apply aX|exact cR _));first|done|fail)|refine bxY ?_|refine gTY ?_|refine cFY ?_|fail)
 rw[tL] at hbt;refine bd ev0 ev0 (hbt _ _) ?_;rintro _ H1 nx1 ⟨sv,rfl,hrow,h1,h2,h3⟩;have hls:=hrow.lenS (n:=l.length) (by rw[bw,Nat.mul_one]) mq;cases l with
 |nil=>
  have zn:decide ((0:Int)=0)=true:=rfl;have hls0:dt sv=some (.int .i64 0):=hls;clear zz;have zz:=aI @z0 (aI @hls0 @zn);repeat' (first|refine zW ?_|apply a_n|apply a_r|refine zO ?_|refine vY ?_|refine gTY ?_|(refine zGY ?_ ?_<;>(intro _hg;try (exfalso;omega)))|refine bU rfl ?_|refine r2Y ?_|fail)
  exact bC (ah (.bool _) (ah (.int _ _) ao))
 |cons x r=>
  have zn:decide ((((r.length+1:Nat):Nat):Int)=0)=false:=a6 (by omega);obtain⟨B,rfl,hB⟩:=zp hrow (by simp);have hx:=hbd x (di ..);have hB1:H1 B=some (.int .i64 x::r.map (AV.int .i64)):=hB;have hN:(x::r).length=r.length+1:=rfl;rw[hN] at hls h3 ⊢;clear zz;have zz:=aI @z0 (aI @hls @zn);repeat' (first|refine zW ?_|apply a_n|refine zO ?_|refine vY ?_|refine gTY ?_|refine cFY ?_|fail)
  have hlc:(AV.int .i64 x::r.map (AV.int .i64)).length=r.length+1:=by simp
  clear zz;have zz:=aI @hB1 (aI @hlc (aI @Int.toNat_zero @w9));repeat' (first|refine zW ?_|apply a_n|refine zO ?_|refine vY ?_|refine stY ?_|fail)
  have hcj:G9 (x::r) k=!((((x-1)::r).take (min (k+1) ((r.length+1:Nat):Int)).toNat).any fun n=>decide (n≠0)):=rfl;obtain⟨j,hj,hjl⟩:∃j:Nat,min (k+1) ((r.length+1:Nat):Int)=j∧j≤r.length+1:=⟨(min (k+1) ((r.length+1:Nat):Int)).toNat,by omega,by omega⟩
  rw[hj,ct] at hcj;rw[hcj,hj]
  have hsl:ln 1 (.msl B (r.length+1) 1 0 (r.length+1)) none (some (.int .i64 j)) none=some (.msl B (r.length+1) 1 0 j):=by
   simp[ln,bI];omega
  clear zz;have zz:=@hsl;repeat' (first|apply a_n|refine zO ?_|refine vY ?_|fail)
  refine eo ev0 ev0 (pn (((x-1)::r).take j) (fun n=>decide (n≠0)) 49 [] (fun x h=>(by cases h)) (fun x _=>IX x) (show _≤_ by rw[fy];simp;omega)) (aE (ah (EH (l:=(x-1)::r) (n:=r.length+1) ag rfl hjl) (ah (u0 ao) ao)) rfl) ?_
  repeat' (first|apply a_n|refine zO ?_|refine vY ?_|refine bU rfl ?_|refine r2Y ?_|fail)
  exact bC (ah (.bool _) (ah (.int _ _) ao))
end Go.Proofs.YtekdaafnjdlenaaGreat
namespace Go.Proofs.YtekdaafnjdlenaaGreat
open Go Go.Abs
def pS(c:List Spx):Nat→Nat
 |0=>0
 |k+1=>pS c k+2^min (c.getD k default).length 10
theorem wo{c:List Spx}:∀k,pS c k≤1024*k
 |0=>bF _
 |k+1=>by
  have ih:=wo (c:=c) k;have:2^min (c.getD k default).length 10≤2^10:=Nat.pow_le_pow_right (by omega) (by omega);unfold pS;omega
attribute [local irreducible] aK ak bf a5 aO aQ aC aS a7 bj Go.Abs.Fn aZ Go.Abs.Pure au aM Yl
theorem zi(c:List Spx)(hl:c.length≤50)(hs:∀s∈c,Shn s):pU 45 [bM c] (.int .i64 (aA c)):=by
 refine pO Ml ?_;simp only[b45,aH];have hcc:=ww c (show _≤_ by omega) hs;by_cases hc:aA c=0
 rotate_left
 ·have z0:decide (aA c≠0)=true:=aR hc;refine wnY (zI3 @ai @af @z0) ?_;exact .int _ _
 have hsm:=fun k=>ph c k hl hs;unfold dh at hsm;rw[hc] at hcc ⊢;have z0:decide ((0:Int)≠0)=false:=rfl;refine wnY (zI3 @ai @af @z0) ?_;refine lpI (X:=Nat) (fun k=>[(1,.ptr 0 1 0),(4,.int .i64 ((k:Int)+1))]) (fun k H nx=>k≤8∧H 0=some [aj c]) (fun k=>8-k) 0 ⟨bF _,rfl⟩ ?_;rintro k H nx ⟨h1,h2⟩;by_cases hk:k<8
 ·have hk1:=hsm ((k:Int)+1);rw[if_neg (fun q=>q hc),if_neg (by omega)] at hk1;generalize gw c ((k:Int)+1).toNat=X at *;have z1:decide ((k:Int)+1≤8)=true:=aR (by omega);refine wnY (zI5 @h2 @ai @af @z0 @z1) ?_;exact⟨k+1,by omega,⟨by omega,h2⟩,ag0⟩
 ·obtain rfl:k=8:=by omega
  have z1:decide (((8:Nat):Int)+1≤8)=false:=rfl;refine wnY @z1 ?_;exact .int _ _
end Go.Proofs.YtekdaafnjdlenaaGreat
namespace Go.Proofs.YtekdaafnjdlenaaGreat
open Go Go.Abs
theorem HN{α:Type}[BEq α][LawfulBEq α]{K:α→α→Int}(hK:LinK K){L:List α}(hL:b0 K L){x y:α}(hx:x∈L)(hy:y∈L)(h:K x y<0):L.idxOf x<L.idxOf y:=by
 have i1:=oo.2 hx;have i2:=oo.2 hy;have g1:L[L.idxOf x]=x:=List.getElem_idxOf i1;have g2:L[L.idxOf y]=y:=List.getElem_idxOf i2;rcases r8 (L.idxOf x) (L.idxOf y) with q|q|q
 ·exact q
 ·have:x=y:=by
    rw[←g1,←g2];congr 1
  rw[this] at h;exact absurd h (hK.ord.irr y)
 ·have:=kB.1 hL _ _ i2 i1 q;rw[g1,g2] at this;exact absurd h (hK.ord.asym _ _ this)
theorem y8{L a:List Spx}(hL:b0 be L)(ha:b0 be a)(h:∀s∈a,s∈L):(fC L a).Pairwise (· < ·):=by
 unfold fC;rw[List.pairwise_map];exact ha.imp_of_mem fun{x y} hx hy hxy=>HN jt hL (h x hx) (h y hy) hxy
theorem dV{c a:List Spx}{v:List Int}(h:fA c a=(v,0)):aA c=0∧hJ a=0∧v=cf (fC (aB c (bW a)) a)∧(∀s∈a,s∈aB c (bW a))∧bo v∧∀z∈v,0≤z∧z<((aB c (bW a)).length:Int):=by
 unfold fA at h;split at h
 ·rename_i q;exact absurd (congrArg Prod.snd h) q
 rename_i q1;split at h
 ·rename_i q;exact absurd (congrArg Prod.snd h) q
 rename_i q2;have e1:aA c=0:=by simpa using q1
 have e2:hJ a=0:=by simpa using q2
 split at h
 ·rename_i q;subst q;cases h;exact⟨e1,e2,rfl,fun s hs=>(by cases hs),pt,fun z hz=>(by cases hz)⟩
 split at h
 rotate_left
 ·cases h
 rename_i q3 q4;cases h;have hm:∀s∈a,s∈aB c (bW a):=fun s hs=>oC (en.1 q4 s hs);refine⟨e1,e2,rfl,hm,kd (y8 jW (eu e2).2.2.1 hm),fun z hz=>?_⟩;obtain⟨i,hi,rfl⟩:=pm.1 hz;unfold fC at hi;obtain⟨s,hs,rfl⟩:=bG.1 hi;have:=oo.2 (hm s hs);omega
attribute [local irreducible] aK ak bf a5 aO aQ aC aS a7 bj Go.Abs.Fn aZ Go.Abs.Pure au aM Yl
theorem DW(c:List Spx)(hc:aA c≠0)(hl:c.length≤50)(hs:∀s∈c,Shn s):pU 37 [bM c] (.tup [.int .i64 0,.int .i64 (aA c)]):=by
 refine pO Kd ?_;simp only[b37,aH];have hcc:=jl c (show _≤_ by omega) hs;generalize aA c=e at *;have z0:decide (e≠(0:Int))=true:=aR hc;refine wnY (zI3 @z0 @ai @af) ?_;exact bC (ah (.int _ _) (ah (.int _ _) ao))
theorem sK(c:List Spx)(hl:c.length≤50)(hs:∀s∈c,Shn s):pU 43 [bM c] (.int .i64 (aA c)):=by
 by_cases hc:aA c=0
 ·rw[hc];exact nV c hc hl
 refine pO H9 ?_;simp only[b43,aH];have he:=DW c hc hl hs;refine wnY (aI @ai @af) ?_;exact .int _ _
def dM(c a b:List Spx):List Int×List Int×Int:=if (fA c a).2≠0 then([],[],(fA c a).2) else((fA c a).1,(fA c b).1,(fA c b).2)
theorem A7(c a b:List Spx)(hl:c.length≤50)(hs:∀s∈c,Shn s)(ha:ShC a)(hb:ShC b):pU 67 [bM c,aj a,aj b] (.tup [aG (dM c a b).1,aG (dM c a b).2.1,.int .i64 (dM c a b).2.2]):=by
 refine pO Ng ?_;simp only[b67,aH];have hch:=sK c hl hs;have h1:=z8 c a hl hs ha;have h2:=z8 c b hl hs hb;have hce:aA c≠0→fA c a=([],aA c):=fun h=>by unfold fA;rw[if_pos h]
 unfold dM;generalize fA c a=va at *;generalize fA c b=vb at *;obtain⟨v,e⟩:=va;obtain⟨w,f⟩:=vb;dsimp only at *;by_cases hc:aA c=0
 ·have z0:decide (aA c≠(0:Int))=false:=a6 (fun q=>q hc);by_cases he:e=0
  ·subst he;have z1:decide ((0:Int)≠0)=false:=rfl;rw[if_neg (fun q=>q rfl)];refine wnY (zI4 @z0 @z1 @ai @af) ?_;exact bC (ah (cJ v).snap (ah (cJ w).snap (ah (.int _ _) ao)))
  ·have z1:decide (e≠(0:Int))=true:=aR he;rw[if_pos he];refine wnY (zI4 @z0 @z1 @ai @af) ?_;exact bC (ah (.eslsl 1) (ah (.eslsl 1) (ah (.int _ _) ao)))
 ·have z0:decide (aA c≠(0:Int))=true:=aR hc;cases hce hc;rw[if_pos hc];refine wnY (zI3 @z0 @ai @af) ?_;exact bC (ah (.eslsl 1) (ah (.eslsl 1) (ah (.int _ _) ao)))
def cyH(c a:List Spx):List Int×Int:=if (fA c a).2≠0 then([],(fA c a).2) else if cq a=[] then((fA c a).1,0) else([],3)
theorem DZ(c a:List Spx)(hl:c.length≤50)(hs:∀s∈c,Shn s)(ha:ShC a):pU 57 [bM c,aj a] (.tup [aG (cyH c a).1,.int .i64 (cyH c a).2]):=by
 refine pO M8 ?_;simp only[b57,aH];have h1:=z8 c a hl hs ha;have h2:=JB a ha;have hvf:=fun v=>dV (c:=c) (a:=a) (v:=v);unfold cyH;unfold G7 at h2;generalize fA c a=va at *;obtain⟨v,e⟩:=va;dsimp only at *;by_cases he:e=0
 ·subst he;obtain⟨e1,e2,-⟩:=hvf v rfl;rw[if_neg (fun q=>q e2)] at h2;dsimp only at h2;have z1:decide ((0:Int)≠0)=false:=rfl;have z2:decide ((0:Int)=0)=true:=rfl;rw[if_neg (fun q=>q rfl)];by_cases hz:cq a=[]
  ·rw[aR hz] at h2;rw[if_pos hz];refine wnY (zI4 @z1 @z2 @ai @af) ?_;exact fM (cJ _).snap rfl
  ·rw[a6 hz] at h2;rw[if_neg hz];refine wnY (zI4 @z1 @z2 @ai @af) ?_;exact fM (.eslsl 1) rfl
 ·have z1:decide (e≠(0:Int))=true:=aR he;rw[if_pos he];refine wnY (zI3 @z1 @ai @af) ?_;exact fM (.eslsl 1) rfl
end Go.Proofs.YtekdaafnjdlenaaGreat
namespace Go.Proofs.YtekdaafnjdlenaaGreat
open Go Go.Abs
def oI(c a b:List Spx):Int:=if (dM c a b).2.2≠0 then(dM c a b).2.2 else if a≠[]∧b≠[]∧bW b≠bW a+1 then 15 else if (jK b).2≠0 then(jK b).2 else if (jK b).1=a then 0 else 18
theorem fR{c a b:List Spx}(h:(dM c a b).2.2=0):∃v w,fA c a=(v,0)∧fA c b=(w,0)∧dM c a b=(v,w,0):=by
 unfold dM at h ⊢;generalize fA c a=va at *;generalize fA c b=vb at *;obtain⟨v,e⟩:=va;obtain⟨w,f⟩:=vb;dsimp only at *;by_cases he:e=0
 ·subst he;rw[if_neg (fun q=>q rfl)] at h ⊢;dsimp only at h;subst h;exact⟨v,w,rfl,rfl,rfl⟩
 ·rw[if_pos he] at h;exact absurd h he
theorem GN{b:List Spx}(h:hJ b=0)(hl:¬4096<(cq b).length):ShC (cq b):=by
 refine⟨show _≤_ by omega,fun s hs=>?_⟩;have:=(ca (pN (eu h).2.1 s hs)).2.1;show _≤_;omega
attribute [local irreducible] aK ak bf a5 aO aQ aC aS a7 bj Go.Abs.Fn aZ Go.Abs.Pure au aM Yl
theorem qh(c a b:List Spx)(hl:c.length≤50)(hs:∀s∈c,Shn s)(ha:ShC a)(hb:ShC b):pU 25 [bM c,aj a,aj b] (.int .i64 (oI c a b)):=by
 refine pO MS ?_;simp only[b25,aH];have hp:=A7 c a b hl hs ha hb;have hbo:=GA b hb;have hpf:=fR (c:=c) (a:=a) (b:=b);have hal:=ha.1;have hbl:=hb.1;unfold oI;generalize dM c a b=p at *;obtain⟨v,w,e⟩:=p;dsimp only at *;by_cases he:e=0
 rotate_left
 ·have z0:decide (e≠(0:Int))=true:=aR he;rw[if_pos he];refine wnY (zI3 @z0 @ai @af) ?_;exact .int _ _
 subst he;obtain⟨v',w',hv,hw,hvw⟩:=hpf rfl;cases hvw;obtain⟨-,hcb,-⟩:=dV hw
 have hbt:jK b=if 4096<(cq b).length then([],5) else(cq b,0):=by
  unfold jK;rw[if_neg (fun q=>q hcb)]
 have z0:decide ((0:Int)≠0)=false:=rfl;rw[if_neg (fun q=>q rfl)];refine dD ?_;have zz:=aI @z0 (aI @ai @af);repeat' (first|apply a_n|refine zO ?_|refine vY ?_|refine bxY ?_|fail)
 refine dD ?_;refine dD ?_;clear zz;have zz:=aI @z0 (aI @ai @af);repeat' (first|apply a_n|refine zO ?_|refine vY ?_|refine cY ?_ (hp:=hp) (hs:=by(first|refine aE ?_ rfl|apply aV);(repeat' (first|exact ao|apply br|apply aX|exact cR _|exact bl _));first|done|fail)|fail)
 refine dD ?_;clear zz;have zz:=aI @z0 (aI @ai @af);repeat' (first|apply a_n|refine zO ?_|refine vY ?_|refine cFY ?_|fail)
 refine co (fun T H nx=>¬(a≠[]∧b≠[]∧bW b≠bW a+1)∧T 1=aj a∧T 2=aj b) ?_ ?_
 ·by_cases h1:a=[]
  ·have z1:decide ((0:Int)<a.length)=false:=by rw[h1];rfl
   refine wnY (aI @z1 @ae) ?_;exact⟨fun q=>q.1 h1,rfl,rfl⟩
  have z1:decide ((0:Int)<a.length)=true:=aR (by have:=gy.2 h1;omega);by_cases h2:b=[]
  ·have z2:decide ((0:Int)<b.length)=false:=by rw[h2];rfl
   refine wnY (zI3 @z1 @z2 @ae) ?_;exact⟨fun q=>q.2.1 h2,rfl,rfl⟩
  have z2:decide ((0:Int)<b.length)=true:=aR (by have:=gy.2 h2;omega);have ix:=pk h1;have iy:=pk h2;have hsa:=ha.2 _ (ay (gy.2 h1));have hsb:=hb.2 _ (ay (gy.2 h2));unfold bW;generalize a.getD 0 default=s at *;generalize b.getD 0 default=t at *;have hsa':s.length≤17592186044416:=hsa;by_cases h3:t.length=s.length+1
  ·have z3:decide ((t.length:Int)≠(s.length:Int)+1)=false:=a6 (by omega);refine wnY (zI7 @z1 @z2 @z3 @ix @iy @ae @an) ?_;exact⟨fun q=>q.2.2 h3,rfl,rfl⟩
  ·have z3:decide ((t.length:Int)≠(s.length:Int)+1)=true:=aR (by omega);rw[if_pos ⟨h1,h2,h3⟩];refine wnY (zI7 @z1 @z2 @z3 @ix @iy @ae @an) ?_;exact .int _ _
 rintro T H nx ⟨h1,t1,t2⟩;rw[if_neg h1];clear zz;clear h1;by_cases h4:4096<(cq b).length
 ·rw[if_pos h4] at hbt;rw[hbt] at hbo ⊢;dsimp only at hbo ⊢;have z5:decide ((5:Int)≠0)=true:=rfl;rw[if_pos (by decide)];refine wnY (zI3 @t1 @t2 @z5) ?_;exact .int _ _
 rw[if_neg h4] at hbt;have heq:=KX (cq b) a (GN hcb h4) ha;rw[hbt] at hbo ⊢;dsimp only at hbo ⊢;rw[if_neg (fun q=>q rfl)];generalize cq b=g at *;by_cases h5:g=a
 ·rw[aR h5] at heq;rw[if_pos h5];refine wnY (zI3 @t1 @t2 @z0) ?_;exact .int _ _
 ·rw[a6 h5] at heq;rw[if_neg h5];refine wnY (zI3 @t1 @t2 @z0) ?_;exact .int _ _
def rfT(c a y:List Spx):Int:=if (dM c a y).2.2≠0 then(dM c a y).2.2 else if a=[]∨y=[] then 18 else if bW a≠bW y then 15 else GM (dA (aB c ((bW a:Int)+1)) (aB c (bW a))) (dM c a y).1 (dM c a y).2.1
theorem kJ(c a y:List Spx)(hl:c.length≤50)(hs:∀s∈c,Shn s)(ha:ShC a)(hy:ShC y):pU 27 [bM c,aj a,aj y] (.int .i64 (rfT c a y)):=by
 refine pO Mh ?_;simp only[b27,aH];have hp:=A7 c a y hl hs ha hy;have hpf:=fR (c:=c) (a:=a) (b:=y);have hal:=ha.1;have hyl:=hy.1;unfold rfT;generalize dM c a y=p at *;obtain⟨v,w,e⟩:=p;dsimp only at *;by_cases he:e=0
 rotate_left
 ·have z0:decide (e≠(0:Int))=true:=aR he;rw[if_pos he];refine wnY (zI3 @z0 @ai @af) ?_;exact .int _ _
 subst he;obtain⟨v',w',hv,hw,hvw⟩:=hpf rfl;cases hvw;obtain⟨hc,hca,-,-,va,vr⟩:=dV hv;obtain⟨-,hcy,-,-,wa,wr⟩:=dV hw;have z0:decide ((0:Int)≠0)=false:=rfl;rw[if_neg (fun q=>q rfl)];by_cases h1:a=[]
 ·have z1:decide ((a.length:Int)=0)=true:=by rw[h1];rfl
  rw[if_pos (.inl h1)];refine wnY (zI5 @z0 @z1 @ai @af @ae) ?_;exact .int _ _
 have z1:decide ((a.length:Int)=0)=false:=a6 (by have:=gy.2 h1;omega);by_cases h2:y=[]
 ·have z2:decide ((y.length:Int)=0)=true:=by rw[h2];rfl
  rw[if_pos (.inr h2)];refine wnY (zI6 @z0 @z1 @z2 @ai @af @ae) ?_;exact .int _ _
 have z2:decide ((y.length:Int)=0)=false:=a6 (by have:=gy.2 h2;omega);rw[if_neg (fun q=>q.elim h1 h2)];have ix:=pk h1;have iy:=pk h2;have hsa:=ha.2 _ (ay (gy.2 h1));have hsb:=hy.2 _ (ay (gy.2 h2));have h8:=(ca ((eu hca).2.1 _ (ay (gy.2 h1)))).2.1;unfold bW at *;generalize a.getD 0 default=s at *;generalize y.getD 0 default=t at *;have hsa':s.length≤17592186044416:=hsa;by_cases h3:s.length=t.length
 rotate_left
 ·have z3:decide ((s.length:Int)≠(t.length:Int))=true:=aR (by omega);rw[if_pos h3];refine wnY (ie @z0 @z1 @z2 @z3 @ix @iy @ai @af @ae @an) ?_;exact .int _ _
 have z3:decide ((s.length:Int)≠(t.length:Int))=false:=a6 (by omega);rw[if_neg (fun q=>q h3)];rw[←h3] at wr;have hed:=mI c s.length hc hl h8;have hr1:=cA hc hl (d:=(s.length:Int)+1);have hr2:=cA hc hl (d:=(s.length:Int));have hver:=DT (aB c ((s.length:Int)+1)).length (dA (aB c ((s.length:Int)+1)) (aB c (s.length:Int))) v w (kH (by omega) (by omega)) (by rw[gf];exact vr) va (by rw[gf];exact wr) wa;have hd1:Dat (dS (aB c ((s.length:Int)+1)).length (dA (aB c ((s.length:Int)+1)) (aB c (s.length:Int)))):=dj _ _;rw[dl] at hed hver hd1;generalize dA (aB c ((s.length:Int)+1)) (aB c (s.length:Int))=R at *;generalize (aB c ((s.length:Int)+1)).length=n at *;refine wnY (ie @z0 @z1 @z2 @z3 @ix @iy @ai @af @ae @an) ?_;exact .int _ _
end Go.Proofs.YtekdaafnjdlenaaGreat
namespace Go.Proofs.YtekdaafnjdlenaaGreat
open Go Go.Abs
theorem C5{R:List (List Int)}{c:Nat}{w:List Int}(hm:gY c R)(hw:bo w):
    (∃x,ur R c w=(x,[],true)∧x=lL (lB R c) w∧bo x∧(∀z∈x,0≤z∧z<(c:Int))∧(∀y∈(stE R R.length).2,pY w y=false)∧∀i,i<R.length→cp (fun z=>bit z x) (R.getD i default)%2=bit (i:Int) w)∨
    ∃y,ur R c w=([],y,false)∧y∈(stE R R.length).2∧bo y∧(∀z∈y,0≤z∧z<(R.length:Int))∧pY w y=true:=by
 have hR:=fF hm;have hv:=pz hm;have hok:=i9 hR (aP R.length);have hdep:∀y∈(stE R R.length).2,bo y∧∀z∈y,0≤z∧z<(R.length:Int):=fun y hy=>⟨(hok.dep y hy).1.2,(hok.dep y hy).2.2⟩
 unfold ur;cases hs:G8 (stE R R.length).2 w with
 |none=>
  left
  have h0:∀y∈(stE R R.length).2,pY w y=false:=fun y hy=>by
   have:=List.find?_eq_none.1 hs y hy;rw[v7 (hdep y hy).1 hw] at this;simpa using this
  refine⟨_,rfl,rfl,En hok.red,xS hok.red,h0,fun i hi=>Dp hR hv hw h0 hi⟩
 |some y=>
  right;have hy:=List.mem_of_find?_eq_some hs;have ho:=List.find?_some (p:=fun y=>jp y w) hs;rw[v7 (hdep y hy).1 hw] at ho;exact⟨y,rfl,hy,(hdep y hy).1,(hdep y hy).2,ho⟩
def z9(c a:List Spx):List Spx×List Spx×Bool×Int:=if (cyH c a).2≠0 then([],[],false,(cyH c a).2) else if a=[] then([],[],true,0) else
 if (ur (dA (aB c ((bW a:Int)+1)) (aB c (bW a))) (aB c ((bW a:Int)+1)).length (cyH c a).1).2.2=true then(ea (aB c ((bW a:Int)+1)) (ur (dA (aB c ((bW a:Int)+1)) (aB c (bW a))) (aB c ((bW a:Int)+1)).length (cyH c a).1).1,[],true,0)
 else([],ea (aB c (bW a)) (ur (dA (aB c ((bW a:Int)+1)) (aB c (bW a))) (aB c ((bW a:Int)+1)).length (cyH c a).1).2.1,false,0)
theorem B3{c a:List Spx}(h:(cyH c a).2=0):∃v,fA c a=(v,0)∧cyH c a=(v,0)∧cq a=[]:=by
 unfold cyH at h ⊢;generalize fA c a=va at *;obtain⟨v,e⟩:=va;dsimp only at *;by_cases he:e=0
 ·subst he;rw[if_neg (fun q=>q rfl)] at h ⊢;by_cases hz:cq a=[]
  ·rw[if_pos hz];exact⟨v,rfl,rfl,hz⟩
  ·rw[if_neg hz] at h;cases h
 ·rw[if_pos he] at h;exact absurd h he
theorem Ec{c:List Spx}{d:Nat}{v:List Int}(hc:aA c=0)(hd:d≤7)(ha:bo v)(hv:∀z∈v,0≤z∧z<((aB c ((d:Int)+1)).length:Int)):zU c d v=(ea (aB c ((d:Int)+1)) v,0):=by
 have hz:sS (aB c ((d:Int)+1)).length v=0:=Bj ha hv;unfold zU;rw[if_neg (fun q=>q hc),if_neg (by omega),if_neg (fun q=>q hz)]
attribute [local irreducible] aK ak bf a5 aO aQ aC aS a7 bj Go.Abs.Fn aZ Go.Abs.Pure au aM Yl
set_option maxHeartbeats 1000000 in
theorem zf(c a:List Spx)(hl:c.length≤50)(hs:∀s∈c,Shn s)(ha:ShC a):pU 21 [bM c,aj a] (.tup [aj (z9 c a).1,aj (z9 c a).2.1,.bool (z9 c a).2.2.1,.int .i64 (z9 c a).2.2.2]):=by
 refine pO Mf ?_;simp only[b21,aH];have hch:=sK c hl hs;have hcy:=DZ c a hl hs ha;have hcf:=B3 (c:=c) (a:=a);have hal:=ha.1
 have hce:aA c≠0→cyH c a=([],aA c):=fun h=>by
  unfold cyH fA;rw[if_pos h,if_pos h]
 unfold z9;generalize cyH c a=p at *;obtain⟨v,e⟩:=p;dsimp only at *;have z0:decide ((0:Int)≠0)=false:=rfl;have fin0:∀{H:Hp}{f:Int},Snap H (.tup [.esl,.esl,.bool false,.int .i64 f]) (.tup [aj [],aj [],.bool false,.int .i64 f]):=bC (ah (.eslsl 1) (ah (.eslsl 1) (ah (.bool _) (ah (.int _ _) ao))));by_cases hc:aA c=0
 rotate_left
 ·cases hce hc;have z1:decide (aA c≠(0:Int))=true:=aR hc;rw[if_pos hc];refine wnY (zI3 @z1 @ai @af) ?_;exact r_4 rfl rfl rfl rfl fin0
 rw[hc] at hch;by_cases he:e=0
 rotate_left
 ·have z1:decide (e≠(0:Int))=true:=aR he;rw[if_pos he];refine wnY (zI4 @z0 @z1 @ai @af) ?_;exact r_4 rfl rfl rfl rfl fin0
 subst he;obtain⟨v',hv,hvw,hez⟩:=hcf rfl;cases hvw;rw[if_neg (fun q=>q rfl)];by_cases h1:a=[]
 ·have z1:decide ((a.length:Int)=0)=true:=by rw[h1];rfl
  rw[if_pos h1];refine wnY (zI5 @z0 @z1 @ai @af @ae) ?_;refine r_4 rfl rfl rfl rfl ?_;exact bC (ah (.eslsl 1) (ah (.eslsl 1) (ah (.bool _) (ah (.int _ _) ao))))
 have z1:decide ((a.length:Int)=0)=false:=a6 (by have:=gy.2 h1;omega);rw[if_neg h1];obtain⟨-,hca,hvp,-,va,vr⟩:=dV hv;have ix:=pk h1;have hsa:=(ca ((eu hca).2.1 _ (ay (gy.2 h1))))
 have hv0:v≠[]:=fun e=>by
  rw[hvp] at e;cases a with
  |nil=>exact h1 rfl
  |cons x a=>cases e
 clear hvp;unfold bW at *;generalize a.getD 0 default=s at *;obtain⟨d,hd⟩:∃d,s.length=d+1:=⟨s.length-1,by omega⟩
 have hed:=mI c s.length hc hl hsa.2.1;have hr1:=cA hc hl (d:=(s.length:Int)+1);have hr2:=cA hc hl (d:=(s.length:Int));have hmv:=kH (X:=aB c ((s.length:Int)+1)) (Y:=aB c (s.length:Int)) (by omega) (by omega);have hso:=Gg (aB c ((s.length:Int)+1)).length (dA (aB c ((s.length:Int)+1)) (aB c (s.length:Int))) v hmv (by rw[gf];exact vr) va;have hd1:Dat (dS (aB c ((s.length:Int)+1)).length (dA (aB c ((s.length:Int)+1)) (aB c (s.length:Int)))):=dj _ _;have hsl:(s.length:Int)-1+1=s.length:=by omega
 have hsl2:(s.length:Int)-1=(d:Int):=by omega
 rw[dl] at hed hso hd1;rcases C5 (w:=v) hmv va with⟨x,q1,-,q2,q3,-,q4⟩|⟨y,q1,q2,q3,q4,-⟩
 ·have h7:s.length≤7:=by
    refine Decidable.byContradiction fun hn=>?_;rw[AU hc (by omega),yG] at q4;obtain⟨z,hz⟩:=List.exists_mem_of_ne_nil _ hv0;have hzr:=vr z hz;have:=q4 z.toNat (by rw[List.length_replicate];omega);rw[show((z.toNat:Nat):Int)=z by omega,dz.2 hz] at this;rw[show(List.replicate (aB c (s.length:Int)).length ([]:List Int)).getD z.toNat default=[] by rw[List.getD_eq_getElem?_getD,List.getElem?_replicate];split<;>rfl] at this;cases this
  have hcn:=wJ c s.length x hl (kX hc) (by have:=ft q2 q3;omega);rw[Ec hc h7 q2 q3] at hcn;rw[q1] at hso ⊢;dsimp only at hso hcn ⊢;rw[if_pos rfl];generalize ea (aB c ((s.length:Int)+1)) x=b at *;generalize dA (aB c ((s.length:Int)+1)) (aB c (s.length:Int))=R at *;generalize (aB c ((s.length:Int)+1)).length=n at *;refine wnY (zI8 @z0 @z1 @ix @hsl @ai @af @ae @an) ?_;refine r_4 rfl rfl rfl rfl ?_;exact bC (ah (bl b).snap (ah (.eslsl 1) (ah (.bool _) (ah (.int _ _) ao))))
 ·rw[gf] at q4;have hss:(s.length:Int)=(d:Int)+1:=by omega
  have hcn:=wJ c d y hl (kX hc) (by have:=ft q3 q4;omega);rw[Ec hc (by omega) q3 (by rw[←hss];exact q4),←hss] at hcn;rw[q1] at hso ⊢;dsimp only at hso hcn ⊢;rw[if_neg (by decide)];generalize ea (aB c (s.length:Int)) y=b at *;generalize dA (aB c ((s.length:Int)+1)) (aB c (s.length:Int))=R at *;generalize (aB c ((s.length:Int)+1)).length=n at *;have hss2:(d:Int)+1=s.length:=hss.symm;refine wnY (zI9 @z0 @z1 @ix @hsl2 @hss2 @ai @af @ae @an) ?_;refine r_4 rfl rfl rfl rfl ?_;exact bC (ah (.eslsl 1) (ah (bl b).snap (ah (.bool _) (ah (.int _ _) ao))))
end Go.Proofs.YtekdaafnjdlenaaGreat
namespace Go.Proofs.YtekdaafnjdlenaaGreat
open Go Go.Abs
def cmN(a b:List Spx):Nat:=(a.filter fun s=>decide (s∈b)).length
def rfR(c a y:List Spx):Int:=if (dM c a y).2.2≠0 then(dM c a y).2.2 else if a≠[]∧y≠[]∧bW y≠bW a then 15 else if cmN a y%2=0 then 18 else if ((aB c ((bW y:Int)+1)).any fun s=>decide (cmN (bi s) y%2=1))=true then 18 else 0
theorem sr{Y a:List Spx}:cf (fC Y a)=a.map fun s=>((Y.idxOf s:Nat):Int):=by unfold cf fC;rw[List.map_map];rfl
theorem FZ{Y a:List Spx}{s:Spx}(ha:∀s∈a,s∈Y)(hs:s∈Y):((Y.idxOf s:Nat):Int)∈cf (fC Y a)↔s∈a:=by
 rw[sr,bG];constructor
 ·rintro⟨t,ht,e⟩;have h1:=j0 (ha t ht);have h2:=j0 hs;have:Y.idxOf t=Y.idxOf s:=by omega
  rw[←h2.2,←this,h1.2];exact ht
 ·intro h;exact⟨s,h,rfl⟩
theorem xC{p:Int→Bool}:∀{a:List Int},cp (fun z=>if p z=true then 1 else 0) a=(a.filter p).length
 |[]=>rfl
 |x::a=>by
  show(if p x=true then 1 else 0)+cp _ a=_;rw[xC];cases h:p x
  ·rw[wq (by simp[h])];simp
  ·rw[xm h,bK,if_pos rfl];omega
theorem za{α β:Type}{f:α→β}{p:β→Bool}{q:α→Bool}:∀{l:List α},(∀x∈l,p (f x)=q x)→((l.map f).filter p).length=(l.filter q).length:=fun{l} h=>by
 rw[List.filter_map,bw];exact congrArg _ (List.filter_congr fun x hx=>h x hx)
theorem DN{Y a y:List Spx}(ha:∀s∈a,s∈Y)(hy:∀s∈y,s∈Y):cp (fun j=>bit j (cf (fC Y a))) (cf (fC Y y))=cmN y a:=by
 rw[mb,sr (a:=y)];exact za fun s hs=>decide_eq_decide.2 (FZ ha (hy s hs))
theorem BE{a b:List Spx}(ha:a.Nodup)(hb:b.Nodup):cmN a b=cmN b a:=by
 have h1:(a.filter fun x=>decide (x∈b)).Perm (b.filter fun x=>decide (x∈a)):=(List.perm_ext_iff_of_nodup (ha.filter _) (hb.filter _)).2 fun x=>by
  simp only[ia,il];exact And.comm
 exact h1.length_eq
theorem u6{R:List (List Int)}(hR:∀r∈R,bo r){z:Int}:∀{y acc:List Int},bo acc→(∀i∈y,0≤i∧i<(R.length:Int))→bit z (y.foldl (fun a i=>bV a (R.getD i.toNat default)) acc)=(bit z acc+cp (nf R z) y)%2
 |[],acc,_,_=>by
  have:=gr (z:=z) (a:=acc);show bit z acc=(bit z acc+0)%2;omega
 |i::y,acc,ha,hy=>by
  have hi:=hy i (di ..);have hr:bo (R.getD i.toNat default):=hR _ (ay (by omega));rw[List.foldl_cons,u6 hR (dR ha hr) fun j hj=>hy j (d8 _ hj),dy ha hr];show _=(bit z acc+(nf R z i+cp (nf R z) y))%2;have:nf R z i=bit z (R.getD i.toNat default):=rfl;omega
theorem DQ{R:List (List Int)}(hR:∀r∈R,bo r){z:Int}{y:List Int}(hy:∀i∈y,0≤i∧i<(R.length:Int)):bit z (jQ R y)=cp (nf R z) y%2:=by
 unfold jQ;rw[u6 hR pt hy,jE,ce]
theorem DU{X Y y:List Spx}(hy:∀s∈y,s∈Y){j:Nat}(hj:j<X.length):cp (nf (dA X Y) (j:Int)) (cf (fC Y y))=cmN y (bi (X.getD j default)):=by
 rw[ji (h:=fun i=>if decide (Y.getD i.toNat default∈bi (X.getD j default))=true then 1 else 0) fun i hi=>?_]
 ·rw[xC,sr];refine za fun s hs=>?_;rw[ct,(j0 (hy s hs)).2]
 ·obtain⟨k,hk,rfl⟩:=pm.1 hi;unfold fC at hk;obtain⟨s,hs,rfl⟩:=bG.1 hk;have:=(j0 (hy s hs)).1;unfold nf bit;rw[ct,Fe this]
  have e:((j:Nat):Int)∈cf (jr X Y X.length (Y.idxOf s))↔Y.getD (Y.idxOf s) default∈bi (X.getD j default):=by
   rw[CU,xz];exact⟨fun q=>q.2,fun q=>⟨hj,q⟩⟩
  by_cases h:Y.getD (Y.idxOf s) default∈bi (X.getD j default)
  ·rw[if_pos (e.2 h),if_pos (aR h)]
  ·rw[if_neg (fun q=>h (e.1 q)),if_neg (by simpa using h)]
theorem FE{X Y y:List Spx}(hXl:X.length≤4096)(hYl:Y.length≤4096)(hX:∀s∈X,b0 cz s)(hyn:y.Nodup)(hy:∀s∈y,s∈Y):jQ (dA X Y) (cf (fC Y y))=[]↔(X.any fun s=>decide (cmN (bi s) y%2=1))=false:=by
 have hM:=kH (X:=X) (Y:=Y) hXl hYl;have hV:VR X.length (dA X Y):=GQ hM
 have hr:∀i∈cf (fC Y y),0≤i∧i<((dA X Y).length:Int):=fun i hi=>by
  obtain⟨k,hk,rfl⟩:=pm.1 hi;unfold fC at hk;obtain⟨s,hs,rfl⟩:=bG.1 hk;have:=(j0 (hy s hs)).1;rw[gf];omega
 have key:∀j,j<X.length→bit (j:Int) (jQ (dA X Y) (cf (fC Y y)))=cmN (bi (X.getD j default)) y%2:=fun j hj=>by
  rw[DQ hV.asc hr,DU hy hj,BE hyn (b0.nodup jt (nX (hX _ (ay hj))))]
 constructor
 ·intro h;rw[h] at key;rw[List.any_eq_false];intro s hs q;obtain⟨j,hj,rfl⟩:=nG hs;have h1:=key j hj;have h2:=oC q;rw[jE] at h1;omega
 ·intro h;rw[List.any_eq_false] at h;refine ro fun z=>?_;by_cases hz:0≤z∧z<(X.length:Int)
  ·obtain⟨j,rfl⟩:=Int.eq_ofNat_of_zero_le hz.1;have hj:j<X.length:=by omega
   have h1:=h _ (ay hj);have h2:¬cmN (bi (X.getD j default)) y%2=1:=fun q=>h1 (aR q);rw[key j hj];omega
  ·have:=(wS hV.asc hV.rng (y:=cf (fC Y y)) hr _ (aP _)).2;rw[List.take_length] at this;have n:z∉jQ (dA X Y) (cf (fC Y y)):=fun q=>hz (this z q);simp[bit,n]
theorem LI{c a y:List Spx}(hl:c.length≤50):rfT c a y=rfR c a y:=by
 unfold rfT rfR;by_cases he:(dM c a y).2.2=0
 rotate_left
 ·rw[if_pos he,if_pos he]
 have hn:¬((dM c a y).2.2≠0):=fun q=>q he;rw[if_neg hn,if_neg hn];obtain⟨v,w,hv,hw,e⟩:=fR he;rw[e];obtain⟨hc,hca,rfl,ma,va,vr⟩:=dV hv;obtain⟨-,hcy,rfl,my,wa,wr⟩:=dV hw;have na:a.Nodup:=b0.nodup jt (eu hca).2.2.1;have ny:y.Nodup:=b0.nodup jt (eu hcy).2.2.1;by_cases h1:a=[]
 ·subst h1;rw[if_pos (show([]:List Spx)=[]∨y=[] from .inl rfl),if_neg (show ¬(([]:List Spx)≠[]∧y≠[]∧bW y≠bW []) from fun q=>q.1 rfl),if_pos (show cmN [] y%2=0 from rfl)]
 by_cases h2:y=[]
 ·subst h2
  have h0:cmN a []%2=0:=by
   unfold cmN;rw[Cs.2 fun s _ q=>by simp at q];rfl
  rw[if_pos (show a=[]∨([]:List Spx)=[] from .inr rfl),if_neg (show ¬(a≠[]∧([]:List Spx)≠[]∧bW []≠bW a) from fun q=>q.2.1 rfl),if_pos h0]
 rw[if_neg (show ¬(a=[]∨y=[]) from fun q=>q.elim h1 h2)];by_cases h3:bW a=bW y
 rotate_left
 ·rw[if_pos h3,if_pos (show a≠[]∧y≠[]∧bW y≠bW a from⟨h1,h2,fun q=>h3 q.symm⟩)]
 rw[if_neg (show ¬(bW a≠bW y) from fun q=>q h3),if_neg (show ¬(a≠[]∧y≠[]∧bW y≠bW a) from fun q=>q.2.2 h3.symm)];dsimp only;rw[←h3] at my ⊢;have hr1:=cA hc hl (d:=(bW a:Int)+1);have hr2:=cA hc hl (d:=(bW a:Int));have hX:∀s∈aB c ((bW a:Int)+1),b0 cz s:=fun s hs=>(ca (fT hc s hs)).2.2.1;have k1:=FE (X:=aB c ((bW a:Int)+1)) (Y:=aB c (bW a)) (y:=y) (by omega) (by omega) hX ny my;have wa':bo (cf (fC (aB c (bW a)) y)):=kd (y8 jW (eu hcy).2.2.1 my)
 have k2:jp (cf (fC (aB c (bW a)) y)) (cf (fC (aB c (bW a)) a))=decide (cmN a y%2=1):=by
  rw[v7 wa' va];unfold pY;rw[DN ma my,BE ny na]
 unfold GM;rw[k2];by_cases h4:cmN a y%2=0
 ·rw[if_pos h4,a6 (by omega)];split<;>rfl
 ·rw[if_neg h4,aR (by omega),if_pos rfl];by_cases h5:jQ (dA (aB c ((bW a:Int)+1)) (aB c (bW a))) (cf (fC (aB c (bW a)) y))=[]
  ·rw[if_pos h5,k1.1 h5];rfl
  ·rw[if_neg h5];cases h6:(aB c ((bW a:Int)+1)).any fun s=>decide (cmN (bi s) y%2=1)
   ·exact absurd (k1.2 h6) h5
   ·rfl
end Go.Proofs.YtekdaafnjdlenaaGreat
namespace Go.Proofs.YtekdaafnjdlenaaGreat
open Go Go.Abs
open Nat (reduceEqDiff reduceAdd reduceLeDiff)
theorem AG{c a b:List Spx}(hb:(cq b).length≤4096):oI c a b=if (dM c a b).2.2≠0 then(dM c a b).2.2 else if a≠[]∧b≠[]∧bW b≠bW a+1 then 15 else if cq b=a then 0 else 18:=by
 unfold oI;by_cases he:(dM c a b).2.2=0
 rotate_left
 ·rw[if_pos he,if_pos he]
 have hn:¬((dM c a b).2.2≠0):=fun q=>q he;rw[if_neg hn,if_neg hn];obtain⟨v,w,hv,hw,e⟩:=fR he;obtain⟨-,hcb,-⟩:=dV hw
 have hbt:jK b=(cq b,0):=by
  unfold jK;rw[if_neg (fun q=>q hcb),if_neg (by omega)]
 rw[hbt];rfl
attribute [local irreducible] aK ak bf a5 aO aQ aC aS a7 bj Go.Abs.Fn aZ Go.Abs.Pure au aM Yl
theorem yX(c a b:List Spx)(hl:c.length≤50)(hs:∀s∈c,Shn s)(ha:ShC a)(hb:ShC b):pU 64 [bM c,aj a,aj b] (.int .i64 (dM c a b).2.2):=by
 refine pO Mj ?_;simp only[b64,aH];have hch:=zi c hl hs;have h1:=Hn c a hl hs ha;have h2:=Hn c b hl hs hb;have hce:aA c≠0→fA c a=([],aA c):=fun h=>by unfold fA;rw[if_pos h]
 unfold dM;generalize fA c a=va at *;generalize fA c b=vb at *;obtain⟨v,e⟩:=va;obtain⟨w,f⟩:=vb;dsimp only at *;by_cases hc:aA c=0
 ·have z0:decide (aA c≠(0:Int))=false:=a6 (fun q=>q hc);by_cases he:e=0
  ·subst he;have z1:decide ((0:Int)≠0)=false:=rfl;rw[if_neg (fun q=>q rfl)];refine wnY (zI4 @z0 @z1 @ai @af) ?_;exact .int _ _
  ·have z1:decide (e≠(0:Int))=true:=aR he;rw[if_pos he];refine wnY (zI4 @z0 @z1 @ai @af) ?_;exact .int _ _
 ·have z0:decide (aA c≠(0:Int))=true:=aR hc;cases hce hc;rw[if_pos hc];refine wnY (zI3 @z0 @ai @af) ?_;exact .int _ _
theorem Gk{a b:List Spx}{k:Nat}(h:k<a.length):cmN (a.take (k+1)) b=cmN (a.take k) b+if a.getD k default∈b then 1 else 0:=by
 unfold cmN;rw[bS h,uc,c7];by_cases q:a.getD k default∈b
 ·rw[if_pos q,xm (by simpa using q)];rfl
 ·rw[if_neg q,wq (by simpa using q)];rfl
theorem Eh{a b:List Spx}:cmN a b≤a.length:=List.length_filter_le _ _
theorem uA(a b:List Spx)(ha:ShC a)(hb:ShC b)(hn:b.Nodup):pU 65 [aj a,aj b] (.int .i64 (cmN a b)):=by
 refine pO Mw ?_;simp only[b65,aH];have hal:a.length≤17592186044416:=ha.1;refine wnY @ae ?_;refine lpI (X:=Nat) (fun k=>[(0,aj a),(1,aj b),(5,.int .i64 (cmN (a.take k) b)),(6,.int .i64 k)]) (fun k H nx=>k≤a.length) (fun k=>a.length-k) 0 (bF _) ?_;rintro k H nx h1;have hcl:=Eh (a:=a.take k) (b:=b);rw[fy] at hcl;by_cases hk:k<a.length
 rotate_left
 ·obtain rfl:k=a.length:=by omega
  rw[List.take_length];refine wnY @ae ?_;exact .int _ _
 have ix:=dB hk;have hpl:=yr b (a.getD k default) hb.1 hb.2 (ha.2 _ (ay hk)) hn;have hct:=Gk (b:=b) hk;generalize a.getD k default=s at *;generalize cmN (a.take k) b=m at *;by_cases hm:s∈b
 ·rw[if_pos hm] at hpl hct;have z:decide ((0:Int)≤((b.idxOf s:Nat):Int))=true:=aR (by omega);generalize b.idxOf s=i at *;refine wnY (zI3 @ix @z @ae) ?_;refine⟨k+1,by omega,by omega,by rw[show((cmN (a.take (k+1)) b:Nat):Int)=(m:Int)+1 by omega];simp (disch:=omega) only[agr,ZG,reduceEqDiff,↓reduceIte]⟩
 ·rw[if_neg hm] at hpl hct;have z:decide ((0:Int)≤ -1)=false:=rfl;refine wnY (zI3 @ix @z @ae) ?_;refine⟨k+1,by omega,by omega,by rw[show((cmN (a.take (k+1)) b:Nat):Int)=(m:Int) by omega];simp (disch:=omega) only[agr,ZG,reduceEqDiff,↓reduceIte]⟩
set_option maxHeartbeats 1000000 in
theorem CJ(c a b:List Spx)(hl:c.length≤50)(hs:∀s∈c,Shn s)(ha:ShC a)(hb:ShC b)(hbl:(dM c a b).2.2=0→b.length≤500):pU 26 [bM c,aj a,aj b] (.int .i64 (oI c a b)):=by
 refine pO Mi ?_;simp only[b26,aH];have hp:=yX c a b hl hs ha hb;have hal:a.length≤17592186044416:=ha.1;have hbl2:b.length≤17592186044416:=hb.1;by_cases he:(dM c a b).2.2=0
 rotate_left
 ·have z0:decide ((dM c a b).2.2≠(0:Int))=true:=aR he;unfold oI;rw[if_pos he];refine wnY (zI3 @z0 @ai @af) ?_;exact .int _ _
 obtain⟨v,w,hv,hw,-⟩:=fR he;obtain⟨-,hcb,-⟩:=dV hw;have hb5:=hbl he;have hel:=Ak (a:=b) (yw (eu hcb).2.1);rw[AG (by omega),if_neg (fun q=>q he)];have hed:=Gi b (eu hcb).1 (yw (eu hcb).2.1) (sg (eu hcb).2.1)
 have hsame:=uF (cq b) a (show _ ≤ _ by omega) ha.1 (fun s hs=>by
  have:=(ca (pN (eu hcb).2.1 s hs)).2.1;show _≤_;omega) ha.2
 rw[he] at hp;generalize cq b=g at *;have z0:decide ((0:Int)≠0)=false:=rfl
 have fin:∀(q:Bool),q=decide (g=a)→(if g=a then(0:Int) else 18)=if q=true then 0 else 18:=fun q e=>by
  rw[e];by_cases h:g=a
  ·rw[if_pos h,if_pos (aR h)]
  ·rw[if_neg h,if_neg (by simpa using h)]
 rw[fin _ rfl];generalize decide (g=a)=q at *;by_cases h1:a=[]
 ·have z1:decide ((0:Int)<a.length)=false:=by rw[h1];rfl
  rw[if_neg (fun q=>q.1 h1)];cases q
  ·refine wnY (zI5 @z0 @z1 @ai @af @ae) ?_;exact .int _ _
  ·refine wnY (zI5 @z0 @z1 @ai @af @ae) ?_;exact .int _ _
 have z1:decide ((0:Int)<a.length)=true:=aR (by have:=gy.2 h1;omega);by_cases h2:b=[]
 ·have z2:decide ((0:Int)<b.length)=false:=by rw[h2];rfl
  rw[if_neg (fun q=>q.2.1 h2)];cases q
  ·refine wnY (zI6 @z0 @z1 @z2 @ai @af @ae) ?_;exact .int _ _
  ·refine wnY (zI6 @z0 @z1 @z2 @ai @af @ae) ?_;exact .int _ _
 have z2:decide ((0:Int)<b.length)=true:=aR (by have:=gy.2 h2;omega);have ix:=pk h1;have iy:=pk h2;have hsa:=ha.2 _ (ay (gy.2 h1));have hsb:=hb.2 _ (ay (gy.2 h2));unfold bW;generalize a.getD 0 default=s at *;generalize b.getD 0 default=t at *;have hsa':s.length≤17592186044416:=hsa;by_cases h3:t.length=s.length+1
 ·have z3:decide ((t.length:Int)≠(s.length:Int)+1)=false:=a6 (by omega);rw[if_neg (fun q=>q.2.2 h3)];cases q
  ·refine wnY (ie @z0 @z1 @z2 @z3 @ix @iy @ai @af @ae @an) ?_;exact .int _ _
  ·refine wnY (ie @z0 @z1 @z2 @z3 @ix @iy @ai @af @ae @an) ?_;exact .int _ _
 ·have z3:decide ((t.length:Int)≠(s.length:Int)+1)=true:=aR (by omega);rw[if_pos ⟨h1,h2,h3⟩];refine wnY (ie @z0 @z1 @z2 @z3 @ix @iy @ai @af @ae @an) ?_;exact .int _ _
theorem LS(m:Nat):∀tb tf,bt .rem tb tf (.int .i64 (m:Int)) (.int .i64 2)=some (.int .i64 ((m%2:Nat):Int)):=fun _ _=>(wn (by omega) (by omega)).trans (by rw[Int.natCast_emod];rfl)
set_option maxHeartbeats 1000000 in
theorem AA(c a y:List Spx)(hl:c.length≤50)(hs:∀s∈c,Shn s)(ha:ShC a)(hy:ShC y):pU 24 [bM c,aj a,aj y] (.int .i64 (rfR c a y)):=by
 refine pO Nq ?_;simp only[b24,aH];have hp:=yX c a y hl hs ha hy;have hal:a.length≤17592186044416:=ha.1;have hyl2:y.length≤17592186044416:=hy.1;unfold rfR;by_cases he:(dM c a y).2.2=0
 rotate_left
 ·have z0:decide ((dM c a y).2.2≠(0:Int))=true:=aR he;rw[if_pos he];refine wnY (zI3 @z0 @ai @af) ?_;exact .int _ _
 obtain⟨v,w,hv,hw,-⟩:=fR he;obtain⟨hc,hca,-⟩:=dV hv;obtain⟨-,hcy,-⟩:=dV hw;have ny:y.Nodup:=b0.nodup jt (eu hcy).2.2.1;have hcm:=uA a y ha hy ny;have hcl:=Eh (a:=a) (b:=y);rw[if_neg (fun q=>q he)];rw[he] at hp;have z0:decide ((0:Int)≠0)=false:=rfl
 have cm0:y=[]→cmN a y=0:=fun e=>by
  subst e;unfold cmN;rw[Cs.2 fun s _ q=>by simp at q];rfl
 have cm1:a=[]→cmN a y=0:=fun e=>by subst e;rfl
 have hr2:=LS (cmN a y);generalize cmN a y=m at *;by_cases h1:a=[]
 ·have z1:decide ((0:Int)<a.length)=false:=by rw[h1];rfl
  have hm0:=cm1 h1;have z4:decide (((m%2:Nat):Int)=0)=true:=aR (by omega);rw[if_neg (fun q=>q.1 h1),if_pos (by omega)];refine wnY (zI7 @z0 @z1 @z4 @hr2 @ai @af @ae) ?_;exact .int _ _
 have z1:decide ((0:Int)<a.length)=true:=aR (by have:=gy.2 h1;omega);by_cases h2:y=[]
 ·have z2:decide ((0:Int)<y.length)=false:=by rw[h2];rfl
  have hm0:=cm0 h2;have z4:decide (((m%2:Nat):Int)=0)=true:=aR (by omega);rw[if_neg (fun q=>q.2.1 h2),if_pos (by omega)];refine wnY (zI8 @z0 @z1 @z2 @z4 @hr2 @ai @af @ae) ?_;exact .int _ _
 have z2:decide ((0:Int)<y.length)=true:=aR (by have:=gy.2 h2;omega);have ix:=pk h1;have iy:=pk h2;have hsa:=ha.2 _ (ay (gy.2 h1));have hst:=ca ((eu hcy).2.1 _ (ay (gy.2 h2)));unfold bW;generalize a.getD 0 default=s at *;generalize y.getD 0 default=t at *;have hsa':s.length≤17592186044416:=hsa;by_cases h3:t.length=s.length
 rotate_left
 ·have z3:decide ((t.length:Int)≠(s.length:Int))=true:=aR (by omega);rw[if_pos ⟨h1,h2,h3⟩];refine wnY (ie @z0 @z1 @z2 @z3 @ix @iy @ai @af @ae @an) ?_;exact .int _ _
 have z3:decide ((t.length:Int)≠(s.length:Int))=false:=a6 (by omega);rw[if_neg (fun q=>q.2.2 h3)];by_cases h4:m%2=0
 ·have z4:decide (((m%2:Nat):Int)=0)=true:=aR (by omega);rw[if_pos h4];refine wnY (aI @z0 (aI @z1 (ie @z2 @z3 @z4 @hr2 @ix @iy @ai @af @ae @an))) ?_;exact .int _ _
 have z4:decide (((m%2:Nat):Int)=0)=false:=a6 (by omega);rw[if_neg h4];obtain⟨p1,p2,p3,p4⟩:=dH hc;have h8:∀s∈c,s.length≤8:=fun s h=>(ca (p2 s h)).2.1;have hX:=Fc c (t.length+1) hl h8 (by have:=hst.2.1;omega);rw[show((t.length+1:Nat):Int)=(t.length:Int)+1 by omega,←Dc] at hX;have hXl:=cA hc hl (d:=(t.length:Int)+1);have hXs:=fT (d:=(t.length:Int)+1) hc;have ht8:=hst.2.1;generalize aB c ((t.length:Int)+1)=X at *;refine wkY (aI @z0 (aI @z1 (ie @z2 @z3 @z4 @hr2 @ix @iy @ai @af @ae @an))) ?_;clear ix iy hr2 hcm hp;refine lpI (X:=Nat) (fun k=>[(2,aj y),(8,aj X),(9,.int .i64 k)]) (fun k H nx=>k≤X.length∧∀i,i<k→cmN (bi (X.getD i default)) y%2≠1) (fun k=>X.length-k) 0 ⟨bF _,fun i h=>absurd h (by omega)⟩ ?_;rintro k H nx ⟨k1,k2⟩;by_cases hk:k<X.length
 rotate_left
 ·obtain rfl:k=X.length:=by omega
  have hany:(X.any fun s=>decide (cmN (bi s) y%2=1))=false:=mY fun i hi=>a6 (k2 i hi);rw[hany,if_neg (by decide)];refine wnY @ae ?_;exact .int _ _
 have ix:=dB hk;have hsk:=ca (hXs _ (ay hk));have hfc:=yO (X.getD k default) hsk.2.1;have hfl:=tB (s:=X.getD k default)
 have hfs:ShC (bi (X.getD k default)):=⟨show _ ≤ _ by omega,fun f hf=>by
  have:=(ja.1 hf).2.2;show _≤_;omega⟩
 have hcm:=uA _ y hfs hy ny;have hcl2:=Eh (a:=bi (X.getD k default)) (b:=y);have hr3:=LS (cmN (bi (X.getD k default)) y);by_cases hodd:cmN (bi (X.getD k default)) y%2=1
 ·have hany:(X.any fun s=>decide (cmN (bi s) y%2=1))=true:=Ex hk (aR hodd);have z5:decide (((cmN (bi (X.getD k default)) y%2:Nat):Int)=1)=true:=aR (by omega);rw[hany,if_pos rfl];generalize hcmN:cmN (bi (X.getD k default)) y=m2 at *;generalize bi (X.getD k default)=f at *;generalize X.getD k default=u at *;refine wnY (zI4 @z5 @hr3 @ix @ae) ?_;exact .int _ _
 ·have z5:decide (((cmN (bi (X.getD k default)) y%2:Nat):Int)=1)=false:=a6 (by omega)
  have k3:∀i,i<k+1→cmN (bi (X.getD i default)) y%2≠1:=fun i hi=>by
   rcases(by omega:i<k∨i=k) with h|rfl
   ·exact k2 i h
   ·exact hodd
  generalize hcmN:cmN (bi (X.getD k default)) y=m2 at *;generalize bi (X.getD k default)=f at *;generalize X.getD k default=u at *;refine wnY (zI4 @z5 @hr3 @ix @ae) ?_;exact⟨k+1,by omega,⟨by omega,k3⟩,ag0⟩
end Go.Proofs.YtekdaafnjdlenaaGreat
namespace Go.Proofs.YtekdaafnjdlenaaGreat
open Go Go.Abs
open Nat (reduceEqDiff reduceAdd reduceLeDiff)
attribute [local irreducible] aK ak bf a5 aO aQ aC aS a7 bj Go.Abs.Fn aZ Go.Abs.Pure au aM Yl
end Go.Proofs.YtekdaafnjdlenaaGreat
namespace Go.Proofs.YtekdaafnjdlenaaGreat
open Go Go.Abs
attribute [local irreducible] aK ak bf a5 aO aQ aC aS a7 bj Go.Abs.Fn aZ Go.Abs.Pure au aM Yl
end Go.Proofs.YtekdaafnjdlenaaGreat
namespace Go.Proofs.YtekdaafnjdlenaaGreat
open Go Go.Abs
theorem mh.lenS{H:Hp}{s:AV}{l:List (List Int)}(h:mh H s l):dt s=some (.int .i64 l.length):=by
 rcases h with rfl|h
 ·exact eD
 ·exact h.lenS (by rw[bw,Nat.mul_one]) mq
def BH(c:List Spx)(d:Nat)(l:List (List Int)):Bool:=decide (rk (bdM c d++l) (bdN c d)=rk (bdM c d) (bdN c d)+l.length)
attribute [local irreducible] aK ak bf a5 aO aQ aC aS a7 bj Go.Abs.Fn aZ Go.Abs.Pure au aM Yl
end Go.Proofs.YtekdaafnjdlenaaGreat
namespace Go.Proofs.YtekdaafnjdlenaaGreat
open Go Go.Abs
def onL(l:List (Nat×List AV)):Hp:=fun x=>(l.find? fun p=>decide (p.1=x)).map Prod.snd
theorem Gy{H:Hp}{l:List (Nat×List AV)}(h:∀p∈l,H p.1=some p.2):Sub (onL l) H:=fun x cs hx=>by
 unfold onL at hx;obtain⟨p,hp,rfl⟩:=Option.map_eq_some_iff.1 hx;have h1:=List.mem_of_find?_eq_some hp;have h2:=oC (List.find?_some (p:=fun p:Nat×List AV=>decide (p.1=x)) hp);rw[←h2];exact h p h1
theorem I3{H:Hp}{l1:List (Nat×List AV)}{l2:List (Nat×AV×AV)}(h1:∀p∈l1,H p.1=some p.2)(h2:∀q∈l2,H q.1=some [q.2.1]∧onL l1 q.1=none∧Snap (onL l1) q.2.1 q.2.2):Fz (onL l1) H (onL (l2.map fun q=>(q.1,[q.2.2]))) where
 sub:=Gy h1
 to:=fun a cs' h=>by
  have h0:=h;unfold onL at h;obtain⟨p,hp,rfl⟩:=Option.map_eq_some_iff.1 h;have g1:=List.mem_of_find?_eq_some hp;have g2:=oC (List.find?_some (p:=fun p:Nat×List AV=>decide (p.1=a)) hp);obtain⟨q,hq,rfl⟩:=bG.1 g1;obtain⟨k1,k2,k3⟩:=h2 q hq;dsimp only at g2 ⊢;rw[g2] at k1 k2;refine⟨[q.2.1],k1,k2,rfl,fun i u v hu hv=>?_⟩
  match i with
  |0=>simp at hu hv;subst hu;subst hv;exact .inr k3
  |i+1=>simp at hu
attribute [local irreducible] aK ak bf a5 aO aQ aC aS a7 bj Go.Abs.Fn aZ Go.Abs.Pure au aM Yl
theorem nJ(l:List Int)(hl:l.length≤1000):PureF Tryz.prog 42 [aG l] (az (dW l)):=by
 refine qO Nf ?_;simp only[b42,aH];refine wnY and_self ?_;refine bQ (X:=AV×Nat) (fun x=>[(3,x.1),(6,aG l),(7,.int .i64 l.length),(8,.int .i64 x.2)]) (fun x H nx=>x.2≤l.length∧Row H 2 x.1 (cX (dW (l.take x.2)))∧∀b,bL x.1=some b→b<nx) (fun x=>l.length-x.2) (.esl,0) ⟨bF _,Row.nil,fun b hb=>(by cases hb)⟩ ag0 ?_;rintro⟨sv,k⟩ H nx ⟨k1,k3,k4⟩;dsimp only at k1 k3 k4 ⊢;by_cases hk:k<l.length
 rotate_left
 ·rw[fv (by omega)] at k3;refine wnY and_self ?_;exact rq k3
 have ix:=ixV hk;have hpt:=Dh hk;have hcl:(cX (dW (l.take k))).length=k*2:=by rw[gH];unfold dW;rw[bw,fy];omega
 refine wnY @ix ?_;refine eR (k3.same fun b hb=>?_) ?_
 ·have:=k4 b hb;rw[ac (by omega)]
 rintro s2 E e hrow hle1 hle2 hsame hb2;refine wnY and_self ?_;refine⟨(s2,k+1),by dsimp only;omega,⟨by dsimp only;omega,?_,fun b hb=>?_⟩,ag0⟩
 ·dsimp only;rw[hpt,mG];exact hrow
 ·rcases hb2 b hb with h|h
  ·have:=k4 b h;omega
  ·omega
end Go.Proofs.YtekdaafnjdlenaaGreat
namespace Go.Proofs.YtekdaafnjdlenaaGreat
open Go Go.Abs
def cT:List Spx:=[dW [0,1],dW [0,2],dW [1,2]]
def gx:List Spx:=[dW [0,1,2]]
def mf:List Spx:=[dW [0,1,2],dW [0,1,3],dW [0,2,3],dW [1,2,3]]
theorem uO:aA cT=0:=by decide+kernel
theorem A4:aA gx=0:=by decide+kernel
theorem FG:aA mf=0:=by decide+kernel
theorem s9{c:List Spx}(h:aA c=0):∀s∈c,Shn s:=kX h
theorem DY:pU 13 [bM cT] (.tup [aG [1,1],.int .i64 0]):=by
 have h:=tZ cT 2 uO (by decide) (by decide+kernel) (by decide)
 rwa [show btL cT 2=[1,1] by decide+kernel] at h
theorem Ft:pU 13 [bM gx] (.tup [aG [1,0,0],.int .i64 0]):=by
 have h:=tZ gx 3 A4 (by decide) (by decide+kernel) (by decide)
 rwa [show btL gx 3=[1,0,0] by decide+kernel] at h
theorem Fy:pU 13 [bM mf] (.tup [aG [1,0,1],.int .i64 0]):=by
 have h:=tZ mf 3 FG (by decide) (by decide+kernel) (by decide)
 rwa [show btL mf 3=[1,0,1] by decide+kernel] at h
theorem Im:pU 18 [bM cT,.int .i64 1] (.tup [fm [cT],.int .i64 0]):=by
 have h:=Ch cT 1 (qz.le Eo (by decide+kernel)) uO (by decide) (by decide) (by decide+kernel)
 rwa [show cyT cT 1=[cT] by decide+kernel] at h
theorem y7:ShC cT:=⟨by decide,by decide⟩
theorem Jm:ShC gx:=⟨by decide,by decide⟩
theorem Nm:ShC [dW [0,1]]:=⟨by decide,by decide⟩
theorem JX:ShC [dW [1,2]]:=⟨by decide,by decide⟩
theorem Mc:ShC []:=⟨by decide,by decide⟩
theorem Ih:pU 21 [bM cT,aj cT] (.tup [aj [],aj [dW [0,1]],.bool false,.int .i64 0]):=by
 have h:=zf cT cT (by decide) (s9 uO) y7
 rwa [show z9 cT cT=([],[dW [0,1]],false,0) by decide+kernel] at h
theorem Ja:pU 21 [bM gx,aj cT] (.tup [aj gx,aj [],.bool true,.int .i64 0]):=by
 have h:=zf gx cT (by decide) (s9 A4) y7
 rwa [show z9 gx cT=(gx,[],true,0) by decide+kernel] at h
theorem EJ:pU 15 [bM mf,.int .i64 1] (.tup [.bool true,.int .i64 0]):=by
 have h:=oW mf 3 1 FG (by decide) (by decide+kernel) (by decide) (by decide)
 rwa [show G9 (btL mf 3) 1=true by decide+kernel] at h
theorem FF:pU 15 [bM mf,.int .i64 2] (.tup [.bool false,.int .i64 0]):=by
 have h:=oW mf 3 2 FG (by decide) (by decide+kernel) (by decide) (by decide)
 rwa [show G9 (btL mf 3) 2=false by decide+kernel] at h
theorem FM:pU 27 [bM cT,aj cT,aj [dW [0,1]]] (.int .i64 0):=by
 have h:=kJ cT cT [dW [0,1]] (by decide) (s9 uO) y7 Nm
 rwa [show rfT cT cT [dW [0,1]]=0 by decide+kernel] at h
theorem Fj:pU 27 [bM cT,aj cT,aj [dW [1,2]]] (.int .i64 0):=by
 have h:=kJ cT cT [dW [1,2]] (by decide) (s9 uO) y7 JX
 rwa [show rfT cT cT [dW [1,2]]=0 by decide+kernel] at h
theorem EB:pU 27 [bM gx,aj cT,aj [dW [1,2]]] (.int .i64 18):=by
 have h:=kJ gx cT [dW [1,2]] (by decide) (s9 A4) y7 JX
 rwa [show rfT gx cT [dW [1,2]]=18 by decide+kernel] at h
theorem El:pU 25 [bM gx,aj cT,aj gx] (.int .i64 0):=by
 have h:=qh gx cT gx (by decide) (s9 A4) y7 Jm
 rwa [show oI gx cT gx=0 by decide+kernel] at h
theorem BF:pU 25 [bM cT,aj cT,aj []] (.int .i64 18):=by
 have h:=qh cT cT [] (by decide) (s9 uO) y7 Mc
 rwa [show oI cT cT []=18 by decide+kernel] at h
theorem Kn:pU 17 [aG [1,1],aG [1,1]] (.bool true):=by
 have:=tR [1,1] [1,1] (by decide) (by decide)
 rwa [aR rfl] at this
theorem JG:pU 17 [aG [1,0,0],aG [1,0,0]] (.bool true):=by
 have:=tR [1,0,0] [1,0,0] (by decide) (by decide)
 rwa [aR rfl] at this
theorem Jt:pU 17 [aG [1,0,1],aG [1,0,1]] (.bool true):=by
 have:=tR [1,0,1] [1,0,1] (by decide) (by decide)
 rwa [aR rfl] at this
theorem Kv(l:List Spx)(h:ShC l):pU 23 [aj l,aj l] (.bool true):=by
 have:=uF l l h.1 h.1 h.2 h.2
 rwa [aR rfl] at this
attribute [local irreducible] aK ak bf a5 aO aQ aC aS a7 bj Go.Abs.Fn aZ Go.Abs.Pure au aM Yl
set_option maxHeartbeats 4000000 in
theorem B1:pU 12 [] (.bool true):=by
 refine pO Nb ?_;simp only[b12,aH];have o01:PureF Tryz.prog 42 [aG [0,1]] (az (dW [0,1])):=nJ _ (by decide);have o02:PureF Tryz.prog 42 [aG [0,2]] (az (dW [0,2])):=nJ _ (by decide);have o12:PureF Tryz.prog 42 [aG [1,2]] (az (dW [1,2])):=nJ _ (by decide);have o012:PureF Tryz.prog 42 [aG [0,1,2]] (az (dW [0,1,2])):=nJ _ (by decide);have o013:PureF Tryz.prog 42 [aG [0,1,3]] (az (dW [0,1,3])):=nJ _ (by decide);have o023:PureF Tryz.prog 42 [aG [0,2,3]] (az (dW [0,2,3])):=nJ _ (by decide);have o123:PureF Tryz.prog 42 [aG [1,2,3]] (az (dW [1,2,3])):=nJ _ (by decide);have zz:=aI @aW (aI @aJ (aI @ai @af));repeat' (first|refine zW ?_|apply a_n|refine zO ?_|refine vZ ?_|refine blZ ?_|fail)
 refine fJ ev0 ev0 o01 (ah (d6 (n:=2) (len:=2) (l:=[0,1]) (by exact rfl) rfl rfl) ao) ?_;clear zz;have zz:=aI @aW (aI @aJ (aI @ai @af));repeat' (first|apply a_n|refine zO ?_|refine blZ ?_|fail)
 refine fJ ev0 ev0 o02 (ah (d6 (n:=2) (len:=2) (l:=[0,2]) (by exact rfl) rfl rfl) ao) ?_;clear zz;have zz:=aI @aW (aI @aJ (aI @ai @af));repeat' (first|apply a_n|refine zO ?_|refine blZ ?_|fail)
 refine fJ ev0 ev0 o12 (ah (d6 (n:=2) (len:=2) (l:=[1,2]) (by exact rfl) rfl rfl) ao) ?_;clear zz;have zz:=aI @aW (aI @aJ (aI @ai @af));repeat' (first|refine zW ?_|apply a_n|refine zO ?_|refine vZ ?_|refine blZ ?_|fail)
 refine fJ ev0 ev0 o012 (ah (d6 (n:=3) (len:=3) (l:=[0,1,2]) (by exact rfl) rfl rfl) ao) ?_;clear zz;have zz:=aI @aW (aI @aJ (aI @ai @af));repeat' (first|refine zW ?_|apply a_n|refine zO ?_|refine vZ ?_|refine alZ ?_|refine stZ ?_|refine blZ ?_|fail)
 refine fJ ev0 ev0 o012 (ah (d6 (n:=3) (len:=3) (l:=[0,1,2]) (by exact rfl) rfl rfl) ao) ?_;clear zz;have zz:=aI @aW (aI @aJ (aI @ai @af));repeat' (first|apply a_n|refine zO ?_|refine blZ ?_|fail)
 refine fJ ev0 ev0 o013 (ah (d6 (n:=3) (len:=3) (l:=[0,1,3]) (by exact rfl) rfl rfl) ao) ?_;clear zz;have zz:=aI @aW (aI @aJ (aI @ai @af));repeat' (first|apply a_n|refine zO ?_|refine blZ ?_|fail)
 refine fJ ev0 ev0 o023 (ah (d6 (n:=3) (len:=3) (l:=[0,2,3]) (by exact rfl) rfl rfl) ao) ?_;clear zz;have zz:=aI @aW (aI @aJ (aI @ai @af));repeat' (first|apply a_n|refine zO ?_|refine blZ ?_|fail)
 refine fJ ev0 ev0 o123 (ah (d6 (n:=3) (len:=3) (l:=[1,2,3]) (by exact rfl) rfl rfl) ao) ?_;clear zz;have zz:=aI @aW (aI @aJ (aI @ai @af));repeat' (first|apply a_n|refine zO ?_|refine vZ ?_|refine alZ ?_|refine stZ ?_|refine blZ ?_|fail)
 refine dD ?_;refine pr (onL [(3,[az (dW [0,1]),az (dW [0,2]),az (dW [1,2])]),(5,[az (dW [0,1,2])]),(12,[az (dW [0,1,2]),az (dW [0,1,3]),az (dW [0,2,3]),az (dW [1,2,3])])]) _ [(1,aj cT),(2,.ptr 6 1 0),(3,.ptr 7 1 0),(4,.ptr 13 1 0)] (I3 (l2:=[(6,.msl 3 3 1 0 3,aj cT),(7,.msl 5 1 1 0 1,aj gx),(13,.msl 12 4 1 0 4,aj mf)]) ?_ ?_) ⟨.inr (o9 (l:=cT) rfl rfl),.inl rfl,.inl rfl,.inl rfl,trivial⟩ ?_
 ·intro p hp;simp only[cQ,List.not_mem_nil,or_false] at hp;rcases hp with rfl|rfl|rfl<;>exact rfl
 ·intro q hq;simp only[cQ,List.not_mem_nil,or_false] at hq;rcases hq with rfl|rfl|rfl
  ·exact⟨rfl,rfl,o9 (l:=cT) rfl rfl⟩
  ·exact⟨rfl,rfl,o9 (l:=gx) rfl rfl⟩
  ·exact⟨rfl,rfl,o9 (l:=mf) rfl rfl⟩
 have h6:onL ([(6,AV.msl 3 3 1 0 3,aj cT),(7,.msl 5 1 1 0 1,aj gx),(13,.msl 12 4 1 0 4,aj mf)].map fun q=>(q.1,[q.2.2])) 6=some [aj cT]:=rfl;have h7:onL ([(6,AV.msl 3 3 1 0 3,aj cT),(7,.msl 5 1 1 0 1,aj gx),(13,.msl 12 4 1 0 4,aj mf)].map fun q=>(q.1,[q.2.2])) 7=some [aj gx]:=rfl;have h13:onL ([(6,AV.msl 3 3 1 0 3,aj cT),(7,.msl 5 1 1 0 1,aj gx),(13,.msl 12 4 1 0 4,aj mf)].map fun q=>(q.1,[q.2.2])) 13=some [aj mf]:=rfl;generalize onL ([(6,AV.msl 3 3 1 0 3,aj cT),(7,.msl 5 1 1 0 1,aj gx),(13,.msl 12 4 1 0 4,aj mf)].map fun q=>(q.1,[q.2.2]))=HH at *;have sl2:ln 1 (aj cT) (some (.int .i64 2)) none none=some (aj [dW [1,2]]):=rfl;have lc1:dt (fm [cT])=some (.int .i64 1):=rfl;have z18:ee 1 (fm [cT]) (.int .i64 0)=some (.iptr [aj cT] 0):=rfl;have s1:=Kv cT y7;have hce:∀c:List Spx,AV.agg [aj c]=bM c:=fun _=>rfl;clear zz;have zz:=aI @h6 (aI @h7 (aI @h13 (aI @sl2 (aI @lc1 (aI @z18 (aI @aW (aI @aJ (aI @ai @af))))))));repeat' (first|refine zW ?_|apply a_n|refine zO ?_|refine vZ ?_|refine cZ ?_ (hp:=by first|exact DY|exact Ft|exact Fy|exact Im|exact Ih|exact Ja|exact EJ|exact FF|exact FM|exact Fj|exact EB|exact El|exact BF|exact s1) (hs:=by(first|refine aE ?_ rfl|apply aV);(repeat' (first|exact ao|apply br|apply aX|exact bl _|exact cR _|exact jv _|exact cJ _));first|done|fail)|refine blZ ?_|refine gTZ ?_|(refine zGZ ?_ ?_<;>(intro _hg;try (exfalso;omega)))|fail)
 refine eo ev0 ev0 Kn (aE (ah (cJ _ _) (ah (d6 (n:=2) (len:=2) (l:=[1,1]) (by exact rfl) rfl rfl) ao)) rfl) ?_;clear zz;have zz:=aI @h6 (aI @h7 (aI @h13 (aI @sl2 (aI @lc1 (aI @z18 (aI @aW (aI @aJ (aI @ai @af))))))));repeat' (first|apply a_n|refine zO ?_|refine vZ ?_|refine blZ ?_|refine gTZ ?_|fail)
 refine eo ev0 ev0 JG (aE (ah (cJ _ _) (ah (d6 (n:=3) (len:=3) (l:=[1,0,0]) (by exact rfl) rfl rfl) ao)) rfl) ?_;clear zz;have zz:=aI @h6 (aI @h7 (aI @h13 (aI @sl2 (aI @lc1 (aI @z18 (aI @aW (aI @aJ (aI @ai @af))))))));repeat' (first|apply a_n|refine zO ?_|refine vZ ?_|refine blZ ?_|refine gTZ ?_|fail)
 refine eo ev0 ev0 Jt (aE (ah (cJ _ _) (ah (d6 (n:=3) (len:=3) (l:=[1,0,1]) (by exact rfl) rfl rfl) ao)) rfl) ?_;clear zz;have zz:=aI @h6 (aI @h7 (aI @h13 (aI @sl2 (aI @lc1 (aI @z18 (aI @aW (aI @aJ (aI @ai @af))))))));repeat' (first|refine zW ?_|apply a_n|refine zO ?_|refine vZ ?_|refine cZ ?_ (hp:=by first|exact DY|exact Ft|exact Fy|exact Im|exact Ih|exact Ja|exact EJ|exact FF|exact FM|exact Fj|exact EB|exact El|exact BF|exact s1) (hs:=by(first|refine aE ?_ rfl|apply aV);(repeat' (first|exact ao|apply br|apply aX|exact bl _|exact cR _|exact jv _|exact cJ _));first|done|fail)|refine blZ ?_|refine gTZ ?_|(refine zGZ ?_ ?_<;>(intro _hg;try (exfalso;omega)))|refine cFZ ?_|fail)
 refine fJ ev0 ev0 o012 (ah (d6 (n:=3) (len:=3) (l:=[0,1,2]) (by exact rfl) rfl rfl) ao) ?_;clear zz;have zz:=aI @h6 (aI @h7 (aI @h13 (aI @sl2 (aI @lc1 (aI @z18 (aI @aW (aI @aJ (aI @ai @af))))))));repeat' (first|apply a_n|refine zO ?_|refine blZ ?_|refine gTZ ?_|fail)
 refine eo ev0 ev0 (Kv gx Jm) (aE (ah (bl _ _) (ah (o9 (b:=18) (n:=1) (l:=gx) (by exact rfl) rfl) ao)) rfl) ?_;clear zz;have zz:=aI @h6 (aI @h7 (aI @h13 (aI @sl2 (aI @lc1 (aI @z18 (aI @aW (aI @aJ (aI @ai @af))))))));repeat' (first|refine zW ?_|apply a_n|refine zO ?_|refine vZ ?_|refine gTZ ?_|refine cFZ ?_|fail)
 try refine Go.Abs.w_mix1 ?_
 clear zz;have zz:=aI @h6 (aI @h7 (aI @h13 (aI @sl2 (aI @lc1 (aI @z18 (aI @aW (aI @aJ (aI @ai @af))))))));repeat' (first|apply a_n|refine zO ?_|refine vZ ?_|refine cZ ?_ (hp:=by first|exact DY|exact Ft|exact Fy|exact Im|exact Ih|exact Ja|exact EJ|exact FF|exact FM|exact Fj|exact EB|exact El|exact BF|exact s1) (hs:=by(first|refine aE ?_ rfl|apply aV);(repeat' (first|exact ao|apply br|apply aX|exact bl _|exact cR _|exact jv _|exact cJ _));first|done|fail)|refine gTZ ?_|(refine zGZ ?_ ?_<;>(intro _hg;try (exfalso;omega)))|fail)
 refine eo ev0 ev0 BF (aE (ah (cR _ _) (ah (bl _ _) (ah (.eslsl 1) ao))) rfl) ?_
 repeat' (first|apply a_n|refine zO ?_|refine vZ ?_|refine gTZ ?_|refine bU rfl ?_|refine r1Z ?_|fail)
 exact .bool _
end Go.Proofs.YtekdaafnjdlenaaGreat
namespace Go.Proofs.YtekdaafnjdlenaaGreat
open Go Go.Abs
open Nat (reduceEqDiff reduceAdd reduceLeDiff)
attribute [local irreducible] aK ak bf a5 aO aQ aC aS a7 bj Go.Abs.Fn aZ Go.Abs.Pure au aM Yl
def sX(c:List Spx)(l:List (List Spx)):Bool:=l.all rf&&(kA c&&decide (pS c c.length≤400))
theorem G0(c:List Spx)(l:List (List Spx))(hc:Shn c)(hs:∀s∈c,Shn s)(hl:Shn l)(ha:∀a∈l,ShC a):pU 11 [bM c,fm l] (.bool (sX c l)):=by
 refine pO ML ?_;simp only[b11,aH];have hc':c.length≤17592186044416:=hc;have hl':l.length≤17592186044416:=hl;have f1:=FX c hc hs;unfold sX;refine wnY (zI3 @ai @af @t7) ?_;refine lpI (X:=Nat) (fun k=>[(2,.ptr 0 1 0),(10,fm l),(11,.int .i64 l.length),(12,.int .i64 k)]) (fun k H nx=>k≤l.length∧H 0=some [aj c]∧∀i,i<k→rf (l.getD i default)=true) (fun k=>l.length-k) 0 ⟨bF _,rfl,fun i h=>absurd h (by omega)⟩ ?_;rintro k H nx ⟨k1,g0,k2⟩;by_cases hk:k<l.length
 ·have ix:=MF hk;have hf:=HM (l.getD k default) (ha _ (ay hk));cases hv:rf (l.getD k default)
  ·rw[gF hk hv,Bool.false_and];rw[hv] at hf;generalize l.getD k default=a at *;refine wnY @ix ?_;exact .bool _
  ·rw[hv] at hf
   have k3:∀i,i<k+1→rf (l.getD i default)=true:=fun i hi=>by
    rcases(by omega:i<k∨i=k) with h|rfl
    ·exact k2 i h
    ·exact hv
   generalize l.getD k default=a at *;refine wnY @ix ?_;exact⟨k+1,by omega,⟨by omega,g0,k3⟩,ag0⟩
 obtain rfl:k=l.length:=by omega
 rw[hU k2,Bool.true_and];refine wnY (aI @g0 @ae) ?_;clear k2 k1 hk;refine lpI (X:=Nat) (fun k=>[(2,.ptr 0 1 0),(7,.int .i64 (pS c k)),(21,aj c),(22,.int .i64 c.length),(23,.int .i64 k)]) (fun k H nx=>k≤c.length∧H 0=some [aj c]) (fun k=>c.length-k) 0 ⟨bF _,g0⟩ ?_;clear g0;rintro k H nx ⟨g1,g2⟩;have hb:=wo (c:=c) k;by_cases hk:k<c.length
 ·have ix:=dB hk;have hsl:(c.getD k default).length≤17592186044416:=hs _ (ay hk);have hb2:=wo (c:=c) (k+1);have hfs:pS c (k+1)=pS c k+2^min (c.getD k default).length 10:=rfl
  have hsh:∀tb tf,bt .shl tb tf (.int .i64 1) (.int .i64 (min ((c.getD k default).length:Int) 10))=some (.int .i64 ((2^min (c.getD k default).length 10:Nat):Int)):=fun tb tf=>by
   have h1:min ((c.getD k default).length:Int) 10=((min (c.getD k default).length 10:Nat):Int):=by omega
   have h2:2^min (c.getD k default).length 10≤2^10:=Nat.pow_le_pow_right (by omega) (by omega);rw[h1];have:=Bn (k:=.i64) (k':=.i64) (a:=1) (b:=min (c.getD k default).length 10) (tb:=tb) (tf:=tf) (by show _≤64;omega) (by show 1*_<2^63;omega);rw[Nat.one_mul] at this;exact this
  rw[hfs] at hb2;generalize 2^min (c.getD k default).length 10=P at *;generalize c.getD k default=s at *;have hce:((pS c (k+1):Nat):Int)=(pS c k:Int)+(P:Int):=by rw[hfs];omega
  refine wnY (zI3 @ix @an @hsh) ?_;exact⟨k+1,by omega,⟨by omega,g2⟩,by rw[hce];simp (disch:=omega) only[agr,ZG,reduceEqDiff,↓reduceIte]⟩
 obtain rfl:k=c.length:=by omega
 cases e1:kA c
 ·rw[e1] at f1;rw[Bool.false_and];refine wnY (zI3 @g2 @ai @af) ?_;exact .bool _
 rw[e1] at f1;rw[Bool.true_and];by_cases h3:pS c c.length≤400
 ·have z:decide ((pS c c.length:Int)≤400)=true:=aR (by omega);rw[aR h3];refine wnY (zI4 @g2 @z @ai @af) ?_;exact .bool _
 ·have z:decide ((pS c c.length:Int)≤400)=false:=a6 (by omega);rw[a6 h3];refine wnY (zI4 @g2 @z @ai @af) ?_;exact .bool _
theorem CE{c:List Spx}{l:List (List Spx)}(h:sX c l=true):(∀a∈l,rf a=true)∧c.length≤30∧pS c c.length≤400:=by
 unfold sX at h;simp only[dL,il] at h;exact⟨fun a ha=>en.1 h.1 a ha,(Af.1 h.2.1).1,h.2.2⟩
end Go.Proofs.YtekdaafnjdlenaaGreat
namespace Go.Proofs.YtekdaafnjdlenaaGreat
open Go Go.Abs
attribute [local irreducible] aK ak bf a5 aO aQ aC aS a7 bj Go.Abs.Fn aZ Go.Abs.Pure au aM Yl
theorem B8{H:Hp}{b:Nat}{x y:List Spx}(h:H b=some [aj x,aj y]):Snap H (.msl b 2 1 0 2) (fm [x,y]):=
 uG (l:=[aj x,aj y]) h rfl rfl (by
  intro z hz;rcases cQ.1 hz with rfl|hz
  ·exact⟨rfl,bl _⟩
  ·rw[cU.1 hz];exact⟨rfl,bl _⟩)
set_option maxHeartbeats 1000000 in
theorem wU(c a b:List Spx)(hc:Shn c∧∀s∈c,Shn s)(ha:ShC a)(hb:ShC b):pU 6 [bM c,aj a,aj b] (.bool true):=by
 refine pO is6 ?_;simp only[b6,aH]
 have f1:=G0 c [a,b] hc.1 hc.2 (show _ ≤ _ by simp) (fun x h=>by
  rcases cQ.1 h with rfl|h
  ·exact ha
  ·rw[cU.1 h];exact hb)
 have zz:=aI @ai @af;repeat' (first|refine zW ?_|apply a_n|refine zO ?_|refine vY ?_|refine bxY ?_|refine blY ?_|fail)
 refine eo ev0 ev0 f1 (aE (ah (cR _).snap (ah (B8 ag) ao)) rfl) ?_;cases e1:sX c [a,b]
 ·repeat' (first|refine zW ?_|apply a_n|apply a_r|refine zO ?_|refine vY ?_|refine cY ?_ (hp:=B1) (hs:=by(first|refine aE ?_ rfl|apply aV);(repeat' (first|exact ao|apply br|apply aX|exact cR _));first|done|fail)|refine cTY ?_|refine bU rfl ?_|refine r1Y ?_|fail)
  exact .bool _
 obtain⟨l0,l1,l2⟩:=CE e1;have s1:=qh c a b (by omega) hc.2 ha hb
 have s2:=CJ c a b (by omega) hc.2 ha hb (fun q=>by
  obtain⟨v,w,hv,hw,-⟩:=fR q;obtain⟨-,hcb,-⟩:=dV hw;have:=FR (l0 b (by simp)) hcb;omega)
 have s3:=kJ c a b (by omega) hc.2 ha hb;have s4:=AA c a b (by omega) hc.2 ha hb;rw[←LI (by omega)] at s4;generalize oI c a b=e at *;generalize rfT c a b=f at *;have z1:decide (e=e)=true:=aR rfl;have z2:decide (f=f)=true:=aR rfl;clear zz;have zz:=aI @ai (aI @af (aI @z1 @z2));repeat' (first|refine zW ?_|refine zM ?_|apply a_n|refine zO ?_|refine vY ?_|refine cY ?_ (hp:=by first|exact s1|exact s2|exact s3|exact s4|exact B1) (hs:=by(first|refine aE ?_ rfl|apply aV);(repeat' (first|exact ao|apply br|apply aX|exact cR _|exact bl _));first|done|fail)|refine gTY ?_|(refine zGY ?_ ?_<;>(intro _hg;try (exfalso;omega)))|refine cFY ?_|refine bU rfl ?_|refine r1Y ?_|fail)
 exact .bool _
end Go.Proofs.YtekdaafnjdlenaaGreat
namespace Go.Proofs.YtekdaafnjdlenaaGreat
open Go Go.Abs Go.RowKit
section
variable{H:Type}{enc:TypeId×Value→H}{W:World}
theorem oi:eY enc Tryz.prog W 3 (AV.int .i64) (fun n=>(Lit.int .i64 n).wf=true):=Ds Tryz.underlying3
set_option maxRecDepth 100000 in
theorem Mn:eY enc Tryz.prog W 69 dx (fun _=>True):=
 (od Tryz.underlying69 (by kernel_rfl) (mw (off:=0) (off':=1) rfl (by kernel_rfl) oi (mw (off:=1) (off':=2) rfl (by kernel_rfl) oi tV))).map
  (fun a=>(⟨a.1,a.2.1⟩:Vtx)) (fun _ _=>trivial) (fun _ _=>rfl)
theorem oXs:eY enc Tryz.prog W 70 az Shn:=
 (qN Tryz.underlying70 (sz:=2) (by_:=16) (by kernel_rfl) (by kernel_rfl) (by omega) (fun _=>rfl) Mn).mono fun l h=>by have:=h.2.2;show _≤_;omega
theorem Ic:eY enc Tryz.prog W 22 aj (fun l=>Shn l∧∀x∈l,Shn x):=
 (qN Tryz.underlying22 (sz:=1) (by_:=24) (by kernel_rfl) (by kernel_rfl) mq (fun _=>rfl) oXs).mono fun l h=>⟨by have:=h.2.2;show _≤_;omega,h.1⟩
set_option maxRecDepth 100000 in
theorem oCx:eY enc Tryz.prog W 24 bM (fun l=>Shn l∧∀x∈l,Shn x):=
 (od Tryz.underlying24 (by kernel_rfl) (mw (off:=0) (off':=1) rfl (by kernel_rfl) Ic tV)).map
  (fun a=>a.1) (by rintro⟨n,u⟩ ⟨h1,_⟩;exact h1) (fun _ _=>rfl)
end
theorem rL{f:FuncId}{xs:List AV}{vs:List Value}(h:pU f xs (.bool true))(w:World)(hv:dC (E0 (uj w)) w xs vs):
    Calls Tryz.prog f vs.toArray w fun e w'=>e=.returned (.bool true)∧Below w.heap.size w w':=by
 refine(h.2 (uj w) w vs (fun _ h=>h) hv).mono ?_;rintro e w' ⟨v,imm',rfl,hb,_,_,_,hr⟩;cases hr;exact⟨rfl,hb⟩
theorem Me:laidOutB Tryz.prog=true:=by kernel_rfl
end Go.Proofs.YtekdaafnjdlenaaGreat
namespace Go.Proofs.YtekdaafnjdlenaaGreat
open Go Go.Abs Go.RowKit Go.ChangeShapes Go.WideShapes Go.ChangeAt
theorem ue{H:Type}{enc:TypeId×Value→H}{P:Program}{f:Func}{s:ChangeSpec}{apart fresh handsOn again:Bool}{W W':World}{args:Array Value}{v:Value}{ds gs:List (DataW H)}{before pa pv:List MemPlace}
    (hW:DataW.Whole enc P f.params.toList s.vars apart W args.toList ds gs before)
    (hres:∀(b:Nat)(sp:Nat→Bool)(hd:Bool),DataW.TrodAll enc P W' b sp hd f.resultTypes.toList (v.resultList f.resultTypes.size) (s.fn H (ds++gs)).results [])
    (hargs:∀sp:Nat→Bool,(∀p∈before,sp p.block=true)→DataW.TrodAll enc P W' 0 sp true f.params.toList args.toList (s.fn H (ds++gs)).args pa)
    (hvars:∀sp:Nat→Bool,(∀p∈before,sp p.block=true)→DataW.TrodVars enc P W' sp s.vars (s.fn H (ds++gs)).vars pv)
    (hps:before=pa++pv) (hb:Below W.heap.size W W')
    (hok:∀(j:Nat)(t:TypeId)(r:Value),f.resultTypes[j]?=some t→(v.resultList f.resultTypes.size)[j]?=some r→Value.okWide P W' .any 0 t r):
    s.post enc P f apart fresh handsOn again W args v W':=by
 have hold:∀p∈before,(fun b=>decide (b<W.heap.size)) p.block=true:=fun p hp=>by simpa using hW.lt p hp
 have hlt:=fun p hp=>hW.lt p hp;refine⟨ds,gs,before,[],pa,pv,hW,hres _ _ _,hargs _ hold,hvars _ hold,World.keptBut_mono (fun p hp=>⟨hp,?_⟩) (hb.frame _),fun _=>?_⟩
 ·rw[hps,eA] at hp;exact Or.inr hp
 ·obtain⟨_,_,_,_,_,hz,hn⟩:=hW;refine⟨hok,_,_,([]++pa)++pv,⟨[]++pa,pv,trodAll_append (hargs _ (fun _ _=>rfl)) (hres _ _ _),hvars _ (fun _ _=>rfl),rfl,?_,?_⟩,?_⟩
  ·intro b off hp;have hp':MemPlace.cell b off∈before:=by rw[hps];simpa using hp
   rw[hb.frozen (hlt _ hp')];exact hz b off hp'
  ·intro ha;have:=hn ha;rw[hps] at this;simpa using this
  ·intro p hp _;rw[hps];simpa using hp
theorem DV{E:Env}{w:World}:dC E w [] []:=⟨rfl,fun i x y h=>(by cases h)⟩
theorem qq{E:Env}{w:World}{x:AV}{y:Value}{xs:List AV}{ys:List Value}(h:Rel E w x y)(hs:dC E w xs ys):dC E w (x::xs) (y::ys):=by
 refine⟨by simp[hs.1],fun i a b ha hb=>?_⟩;cases i with
 |zero=>simp at ha hb;subst ha hb;exact h
 |succ i=>simp at ha hb;exact hs.2 i a b ha hb
theorem own:ownKnob Tryz.prog.godebug=none:=by kernel_rfl
end Go.Proofs.YtekdaafnjdlenaaGreat