/- Texts of this claim, one after the other: T224, T225, T226, T227, T228, T170, T172, T173, T151, T171, T146, T174, T175, T176, T177, T179, T178, T180, T181, T144, T147, T148, T182, T183, T185, T190, T186, T187, T229, T230, T231, T232, T233, T234, T235, T236, T245, T246, T243, T244, T261. -/
import Derived.Test.YtekdaafnjdlenaaGreatXG5
import Derived.Test.YtekdaafnjdlenaaGreatXG4
import Derived.Test.YtekdaafnjdlenaaGreatXG3

set_option linter.unusedSimpArgs false
set_option linter.unusedVariables false
set_option maxHeartbeats 1000000
namespace Go.Proofs.YtekdaafnjdlenaaGreat
open Go Go.Abs
def lC(M:List Ln)(c:Nat):List Ln:=(List.range c).filterMap fun(k:Nat)=>M.find? fun l=>decide (ld l.1=(k:Int))
theorem pR{M:List Ln}{c:Nat}:lC M (c+1)=lC M c++(M.find? fun l=>decide (ld l.1=(c:Int))).toList:=by
 unfold lC;rw[List.range_succ,List.filterMap_append]
 congr 1
theorem po{M:List Ln}{c:Nat}{l:Ln}(hM:RedU M):l∈lC M c↔l∈M∧0≤ld l.1∧ld l.1<c:=by
 unfold lC;rw[List.mem_filterMap];constructor
 ·rintro⟨k,hk,h⟩;have h1:=List.mem_of_find?_eq_some h;have h2:ld l.1=(k:Int):=by simpa using List.find?_some h
  have:=eO.1 hk;exact⟨h1,by omega,by omega⟩
 ·rintro⟨h1,h2,h3⟩;refine⟨(ld l.1).toNat,eO.2 (by omega),?_⟩;cases h:M.find? fun m=>decide (ld m.1=((ld l.1).toNat:Int)) with
  |none=>
   have:=List.find?_eq_none.1 h l h1;rw[il] at this;omega
  |some m=>
   have e:ld m.1=((ld l.1).toNat:Int):=by simpa using List.find?_some h
   have hm:=List.mem_of_find?_eq_some h
   congr 1
   refine hM.own l h1 m hm ?_;rw[show ld l.1=ld m.1 by omega];exact dg (hM.ne m hm)
theorem og{M:List Ln}(hM:RedU M):∀{c:Nat},(lC M c).Pairwise fun a b=>ld a.1<ld b.1
 |0=>pt
 |c+1=>by
  rw[pR];refine List.pairwise_append.2 ⟨og hM,?_,fun a ha b hb=>?_⟩
  ·cases M.find? fun l=>decide (ld l.1=(c:Int))
   ·exact pt
   ·exact List.pairwise_singleton ..
  ·have h1:=((po hM).1 ha).2.2;have h2:ld b.1=(c:Int):=by simpa using List.find?_some (Option.mem_toList.1 hb)
   omega
theorem D6{M:List Ln}{c:Nat}(hM:RedU M):Red ((lC M c).map Prod.fst):=by
 have hm:∀r∈(lC M c).map Prod.fst,∃l∈M,l.1=r:=fun r hr=>by
  obtain⟨l,hl,rfl⟩:=bG.1 hr;exact⟨l,((po hM).1 hl).1,rfl⟩
 refine⟨fun r hr=>?_,fun r hr=>?_,fun r hr q hq h=>?_,List.pairwise_map.2 (og hM)⟩
 ·obtain⟨l,hl,rfl⟩:=hm r hr;exact(hM.asc l hl).1
 ·obtain⟨l,hl,rfl⟩:=hm r hr;exact hM.ne l hl
 ·obtain⟨l,hl,rfl⟩:=hm r hr;obtain⟨k,hk,rfl⟩:=hm q hq;rw[hM.own l hl k hk h]
def lB(R:List (List Int))(c:Nat):List Ln:=lC (stE R R.length).1 c
def ec(R:List (List Int))(c:Nat):List (List Int):=(lB R c).map Prod.fst
theorem kL{S:List (List Int)}{v:List Int}{P:Int→Prop}(hS:∀r∈S,bo r)(hP:∀r∈S,∀z∈r,P z)(h:Sp S v):∀z∈v,P z:=by
 induction h with
 |nil=>exact fun z hz=>by cases hz
 | @add w r h1 h2 ih=>
  intro z hz;rcases(dp (ml hS h1) (hS r h2)).1 hz with q|q
  ·exact ih z q.1
  ·exact hP r h2 z q.1
theorem kR{R:List (List Int)}{c:Nat}(hR:∀r∈R,bo r)(hv:∀r∈R,∀z∈r,0≤z∧z<(c:Int)):Red (ec R c)∧(∀v,Sp (ec R c) v↔Sp R v)∧∀l,l∈lB R c↔l∈(stE R R.length).1:=by
 have hs:=i9 hR (aP R.length);have hin:=hs.inS;have hall:=hs.all;rw[show R.take R.length=R from List.take_length] at hin hall
 have hmem:∀l,l∈lB R c↔l∈(stE R R.length).1:=fun l=>by
  unfold lB;rw[po hs.red];refine⟨fun h=>h.1,fun h=>?_⟩;have:=kL hR hv (hin l h) _ (dg (hs.red.ne l h));exact⟨h,this.1,this.2⟩
 have hred:Red (ec R c):=D6 hs.red;refine⟨hred,fun v=>⟨fun h=>ms hR (fun r hr=>?_) h,fun h=>ms hred.asc (fun r hr=>?_) h⟩,hmem⟩
 ·obtain⟨l,hl,rfl⟩:=bG.1 hr;exact hin l ((hmem l).1 hl)
 ·refine ms hred.asc (fun q hq=>?_) (hall r hr);obtain⟨l,hl,rfl⟩:=bG.1 hq;exact ey (bG.2 ⟨l,(hmem l).2 hl,rfl⟩)
theorem we{α:Type}[Inhabited α]{f:Nat→α}{n i:Nat}(h:i<n):((List.range n).map f).getD i default=f i:=by
 simp[List.getD,h]
theorem nG{α:Type}[Inhabited α]{l:List α}{x:α}(h:x∈l):∃i,i<l.length∧l.getD i default=x:=by
 obtain⟨i,hi,e⟩:=jJ h;exact⟨i,hi,by simp[List.getD,hi,e]⟩
def L0(rows:List (List Int))(n c:Nat):Option Nat:=(List.range rows.length).find? fun i=>decide (n≤i)&&decide ((c:Int)∈rows.getD i default)
def swI(n k i:Nat):Nat:=if i=n then k else if i=k then n else i
def swL(rows:List (List Int))(n k:Nat):List (List Int):=(List.range rows.length).map fun i=>rows.getD (swI n k i) default
def elF(rows:List (List Int))(n c i:Nat):List Int:=if i≠n∧(c:Int)∈rows.getD i default then bV (rows.getD i default) (rows.getD n default) else rows.getD i default
def elL(rows:List (List Int))(n c:Nat):List (List Int):=(List.range rows.length).map (elF rows n c)
def stR(R:List (List Int)):Nat→List (List Int)×Nat
 |0=>(R,0)
 |c+1=>match L0 (stR R c).1 (stR R c).2 c with
  |none=>stR R c
  |some k=>(elL (swL (stR R c).1 (stR R c).2 k) (stR R c).2 c,(stR R c).2+1)
structure RdOk(R rows:List (List Int))(n c:Nat):Prop where
 asc:∀i,i<R.length→bo (rows.getD i default)
 len:rows.length=R.length
 nle:n≤R.length
 sp:∀v,Sp rows v↔Sp R v
 top:∀i,i<n→rows.getD i default≠[]∧ld (rows.getD i default)<c
 own:∀i,i<n→∀j,j<R.length→ld (rows.getD i default)∈rows.getD j default→j=i
 ord:∀i j,i<j→j<n→ld (rows.getD i default)<ld (rows.getD j default)
 low:∀i,n≤i→i<R.length→∀z∈rows.getD i default,(c:Int)≤z
theorem nZ{n k i N:Nat}(hn:n<N)(hk:k<N)(hi:i<N):swI n k i<N:=by
 unfold swI;split
 ·exact hk
 ·split
  ·exact hn
  ·exact hi
theorem x7{n k i:Nat}:swI n k (swI n k i)=i:=by
 unfold swI;by_cases h1:i=n
 ·subst h1;rw[if_pos rfl];by_cases h2:k=i
  ·rw[if_pos h2];exact h2
  ·rw[if_neg h2,if_pos rfl]
 ·rw[if_neg h1];by_cases h2:i=k
  ·rw[if_pos h2,if_pos rfl];exact h2.symm
  ·rw[if_neg h2,if_neg h1,if_neg h2]
theorem Ha{rows:List (List Int)}{N:Nat}(hl:rows.length=N)(h:∀i,i<N→bo (rows.getD i default)):∀r∈rows,bo r:=fun r hr=>by
 obtain⟨i,hi,e⟩:=nG hr;rw[←e];exact h i (by omega)
theorem HK{rows:List (List Int)}{n k:Nat}(hn:n<rows.length)(hk:k<rows.length)(v:List Int):Sp (swL rows n k) v↔Sp rows v:=by
 constructor
 ·refine kV fun r hr=>?_;obtain⟨i,hi,rfl⟩:=bG.1 hr;exact ay (nZ hn hk (eO.1 hi))
 ·refine kV fun r hr=>?_;obtain⟨i,hi,rfl⟩:=nG hr;refine bG.2 ⟨swI n k i,eO.2 (nZ hn hk hi),?_⟩;rw[x7]
theorem IQ{rows:List (List Int)}{n c:Nat}(ha:∀i,i<rows.length→bo (rows.getD i default))(hn:n<rows.length)(v:List Int):Sp (elL rows n c) v↔Sp rows v:=by
 have hE:∀i,i<rows.length→bo (elF rows n c i):=fun i hi=>by
  unfold elF;split
  ·exact dR (ha i hi) (ha n hn)
  ·exact ha i hi
 have hEa:∀r∈elL rows n c,bo r:=fun r hr=>by
  obtain⟨i,hi,rfl⟩:=bG.1 hr;exact hE i (eO.1 hi)
 have hRa:=Ha rfl ha;have hin:∀i,i<rows.length→elF rows n c i∈elL rows n c:=fun i hi=>bG.2 ⟨i,eO.2 hi,rfl⟩
 have hpn:Sp (elL rows n c) (rows.getD n default):=by
  have h:=ey (hin n hn);unfold elF at h
  rwa [if_neg (fun q=>q.1 rfl)] at h
 constructor
 ·refine ms hRa fun r hr=>?_;obtain⟨i,hi,rfl⟩:=bG.1 hr;have hi:=eO.1 hi;unfold elF;split
  ·exact kO hRa (ey (ay hi)) (ey (ay hn))
  ·exact ey (ay hi)
 ·refine ms hEa fun r hr=>?_;obtain⟨i,hi,rfl⟩:=nG hr;have h:=ey (hin i hi);unfold elF at h;split at h
  ·have h2:=kO hEa h hpn
   rwa [←fc (ha i hi) (ha n hn) (ha n hn),fX (ha n hn),gD] at h2
  ·exact h
theorem Fv{R:List (List Int)}(hR:∀r∈R,bo r)(hv:∀r∈R,∀z∈r,(0:Int)≤z):∀{c:Nat},RdOk R (stR R c).1 (stR R c).2 c
 |0=>⟨fun i hi=>hR _ (ay hi),rfl,bF _,fun _=>Iff.rfl,fun i h=>absurd h (Nat.not_lt_zero _),fun i h=>absurd h (Nat.not_lt_zero _),fun i j _ h=>absurd h (Nat.not_lt_zero _),fun i _ hi z hz=>hv _ (ay hi) z hz⟩
 |c+1=>by
  have ih:=Fv hR hv (c:=c);unfold stR;generalize e1:(stR R c).1=rows at *;generalize e2:(stR R c).2=n at *;obtain⟨i1,i2,i3,i4,i5,i6,i7,i8⟩:=ih;cases hp:L0 rows n c with
  |none=>
   show RdOk R (stR R c).1 (stR R c).2 (c+1);rw[e1,e2];refine⟨i1,i2,i3,i4,fun i hi=>⟨(i5 i hi).1,by have:=(i5 i hi).2;omega⟩,i6,i7,fun i h1 h2 z hz=>?_⟩;have h3:=i8 i h1 h2 z hz;have h4:=List.find?_eq_none.1 hp i (eO.2 (by omega));have h5:z≠(c:Int):=fun e=>h4 (by rw[←e];simp only[dL,il];exact⟨h1,hz⟩);omega
  |some k=>
   show RdOk R (elL (swL rows n k) n c) (n+1) (c+1);have k1:=eO.1 (List.mem_of_find?_eq_some hp)
   have k2:n≤k∧(c:Int)∈rows.getD k default:=by
    have:=List.find?_some hp;simpa only[dL,il] using this
   obtain⟨k3,k4⟩:=k2;have hkN:k<R.length:=by omega
   have hnN:n<R.length:=by omega
   have sl:(swL rows n k).length=R.length:=by unfold swL;rw[bw,List.length_range,i2]
   have gs:∀i,i<R.length→(swL rows n k).getD i default=rows.getD (swI n k i) default:=fun i hi=>we (by omega)
   have gp:(swL rows n k).getD n default=rows.getD k default:=by
    rw[gs n hnN];unfold swI;rw[if_pos rfl]
   have ge:∀i,i<R.length→(elL (swL rows n k) n c).getD i default=elF (swL rows n k) n c i:=fun i hi=>we (by omega)
   have gn:(elL (swL rows n k) n c).getD n default=rows.getD k default:=by
    rw[ge n hnN];unfold elF;rw[if_neg (fun q=>q.1 rfl),gp]
   have gi:∀i,i<R.length→i≠n→(elL (swL rows n k) n c).getD i default=if (c:Int)∈rows.getD (swI n k i) default then bV (rows.getD (swI n k i) default) (rows.getD k default) else rows.getD (swI n k i) default:=fun i hi hn=>by
    rw[ge i hi];unfold elF;rw[gs i hi,gp];by_cases h:(c:Int)∈rows.getD (swI n k i) default
    ·rw[if_pos ⟨hn,h⟩,if_pos h]
    ·rw[if_neg (fun q=>h q.2),if_neg h]
   have hpa:=i1 k hkN;have hpl:=i8 k k3 hkN;have hsa:∀i,i<R.length→bo (rows.getD (swI n k i) default):=fun i hi=>i1 _ (nZ hnN hkN hi);have hld:ld (rows.getD k default)=c:=Int.le_antisymm (nB hpa k4) (hpl _ (dg (fun e=>by rw[e] at k4;cases k4)));have hpne:rows.getD k default≠[]:=fun e=>by rw[e] at k4;cases k4
   have hsw:∀i,i<n→swI n k i=i:=fun i hi=>by unfold swI;rw[if_neg (by omega),if_neg (by omega)]
   have hnp:∀i,i<n→ld (rows.getD i default)∉rows.getD k default:=fun i hi h=>by have:=i6 i hi k hkN h;omega
   have hsw2:∀v,Sp (swL rows n k) v↔Sp rows v:=fun v=>HK (by omega) (by omega) v;have hda:∀i,i<(swL rows n k).length→bo ((swL rows n k).getD i default):=fun i hi=>by rw[gs i (by omega)];exact hsa i (by omega)
   have hmem:∀j,j<R.length→j≠n→∀z,z∈(elL (swL rows n k) n c).getD j default→z∉rows.getD k default→z∈rows.getD (swI n k j) default:=fun j hj hn z hz hzp=>by
    rw[gi j hj hn] at hz;split at hz
    ·rcases(dp (hsa j hj) hpa).1 hz with q|q
     ·exact q.1
     ·exact absurd q.1 hzp
    ·exact hz
   have hlow:∀j,j<R.length→j≠n→(c:Int)∉(elL (swL rows n k) n c).getD j default:=fun j hj hn hz=>by
    rw[gi j hj hn] at hz;split at hz
    ·rename_i h;rcases(dp (hsa j hj) hpa).1 hz with q|q
     ·exact q.2 k4
     ·exact q.2 h
    ·rename_i h;exact h hz
   have htop:∀i,i<n→ld ((elL (swL rows n k) n c).getD i default)=ld (rows.getD i default)∧(elL (swL rows n k) n c).getD i default≠[]:=fun i hi=>by
    obtain⟨t1,t2⟩:=i5 i hi;rw[gi i (by omega) (by omega),hsw i hi];split
    ·have hm:ld (rows.getD i default)∈bV (rows.getD i default) (rows.getD k default):=(dp (i1 i (by omega)) hpa).2 (.inl ⟨dg t1,hnp i hi⟩);have hne:bV (rows.getD i default) (rows.getD k default)≠[]:=fun e=>by rw[e] at hm;cases hm
     refine⟨Int.le_antisymm (nB (dR (i1 i (by omega)) hpa) hm) ?_,hne⟩;rcases(dp (i1 i (by omega)) hpa).1 (dg hne) with q|q
     ·exact nB (i1 i (by omega)) q.1
     ·have:=hpl _ q.1;omega
    ·exact⟨rfl,t1⟩
   refine⟨fun i hi=>?_,?_,by omega,fun v=>?_,fun i hi=>?_,fun i hi j hj h=>?_,fun i j hij hj=>?_,fun i h1 h2 z hz=>?_⟩
   ·rw[ge i hi];unfold elF;split
    ·exact dR (hda i (by omega)) (hda n (by omega))
    ·exact hda i (by omega)
   ·unfold elL;rw[bw,List.length_range,sl]
   ·rw[IQ hda (by omega),hsw2,i4]
   ·by_cases hin:i=n
    ·subst hin;rw[gn,hld];exact⟨hpne,by omega⟩
    ·obtain⟨t1,t2⟩:=htop i (by omega);rw[t1];have:=(i5 i (by omega)).2;exact⟨t2,by omega⟩
   ·by_cases hin:i=n
    ·subst hin;rw[gn,hld] at h;exact Decidable.byContradiction fun hne=>hlow j hj hne h
    ·have hi':i<n:=by omega
     rw[(htop i hi').1] at h;by_cases hjn:j=n
     ·subst hjn;rw[gn] at h;exact absurd h (hnp i hi')
     ·have h3:=i6 i hi' _ (nZ hnN hkN hj) (hmem j hj hjn _ h (hnp i hi'));have h4:=congrArg (swI n k) h3;rw[x7,hsw i hi'] at h4;exact h4
   ·by_cases hjn:j=n
    ·subst hjn;rw[gn,hld,(htop i hij).1];exact(i5 i hij).2
    ·rw[(htop i (by omega)).1,(htop j (by omega)).1];exact i7 i j hij (by omega)
   ·have hz2:z≠(c:Int):=fun e=>hlow i h2 (by omega) (e▸hz);have hs:n≤swI n k i:=by unfold swI;split<;>(try split)<;>omega
    rw[gi i h2 (by omega)] at hz
    have hz3:(c:Int)≤z:=by
     split at hz
     ·rcases(dp (hsa i h2) hpa).1 hz with q|q
      ·exact i8 _ hs (nZ hnN hkN h2) z q.1
      ·exact hpl z q.1
     ·exact i8 _ hs (nZ hnN hkN h2) z hz
    omega
def HP(R:List (List Int))(c:Nat):List (List Int):=(stR R c).1.take (stR R c).2
theorem yi{R:List (List Int)}{c:Nat}(hR:∀r∈R,bo r)(hv:∀r∈R,∀z∈r,0≤z∧z<(c:Int)):HP R c=ec R c:=by
 have h:=Fv hR (fun r hr z hz=>(hv r hr z hz).1) (c:=c);obtain⟨e1,e2,_⟩:=kR hR hv;unfold HP;generalize (stR R c).1=rows at *;generalize (stR R c).2=n at *;obtain⟨i1,i2,i3,i4,i5,i6,i7,i8⟩:=h;have hlt:(rows.take n).length=n:=by rw[fy];omega
 have hg:∀i,i<n→(rows.take n).getD i default=rows.getD i default:=fun i hi=>by
  simp[List.getD,iv,hi]
 have hex:∀r∈rows.take n,∃i,i<n∧rows.getD i default=r:=fun r hr=>by
  obtain⟨i,hi,e⟩:=nG hr;exact⟨i,by omega,by rw[←e,hg i (by omega)]⟩
 have hsub:∀r∈R,∀z∈r,0≤z∧z<(c:Int):=hv
 have hred:Red (rows.take n):=by
  refine⟨fun r hr=>?_,fun r hr=>?_,fun r hr q hq hl=>?_,?_⟩
  ·obtain⟨i,hi,rfl⟩:=hex r hr;exact i1 i (by omega)
  ·obtain⟨i,hi,rfl⟩:=hex r hr;exact(i5 i hi).1
  ·obtain⟨i,hi,rfl⟩:=hex r hr;obtain⟨j,hj,rfl⟩:=hex q hq;rw[i6 i hi j (by omega) hl]
  ·rw[kB];intro i j hi hj hij;have h1:=hg i (by omega);have h2:=hg j (by omega);simp only[List.getD,hi,hj,rn,ua] at h1 h2;rw[h1,h2];exact i7 i j hij (by omega)
 refine sI hred e1 fun v=>?_;rw[e2,←i4];constructor
 ·exact kV fun r hr=>io hr
 ·refine ms hred.asc fun r hr=>?_;obtain⟨i,hi,e⟩:=nG hr;by_cases hin:i<n
  ·refine ey ?_;rw[←e,←hg i hin];exact ay (by omega)
  ·have hnil:r=[]:=by
     cases hr0:r with
     |nil=>rfl
     |cons z l=>
      have hz:z∈rows.getD i default:=by rw[e,hr0];exact di ..
      have h1:=i8 i (by omega) (by omega) z hz;have h2:=kL hR hv ((i4 r).1 (ey hr)) z (by rw[hr0];exact di ..);omega
   rw[hnil];exact Sp.nil
theorem vw{M:List Ln}{v:List Int}(hM:RedU M)(hv:Sp (M.map Prod.fst) v)(h:∀l∈M,ld l.1∉v):v=[]:=by
 have hn:(M.map Prod.fst).Nodup:=List.pairwise_map.2 (List.Pairwise.imp_of_mem (fun{a b} ha hb hab e=>hab (hM.own b hb a ha (by rw[e];exact dg (hM.ne b hb)))) hM.nodup);obtain⟨av,p,hp⟩:=wh (fE hM) hn hv
 have hpf:∀r∈M.map Prod.fst,¬p r=true:=fun r hr hpr=>by
  obtain⟨l,hl,rfl⟩:=bG.1 hr;have h1:=hp (ld l.1)
  rw [sN hn hr (dg (hM.ne l hl)) (fun q hq hz=>by
   obtain⟨m,hm,rfl⟩:=bG.1 hq;rw[hM.own l hl m hm hz]),if_pos hpr] at h1
  exact h l hl (dz.1 (by omega))
 exact ro fun z=>by rw[hp z,mV fun q hq hpq=>absurd hpq (hpf q hq)]
def nf(R:List (List Int))(z j:Int):Nat:=bit z (R.getD j.toNat default)
theorem uB{f:Ln→List Int}{z:Int}{p:Ln→Bool}:∀{E:List Ln},(∀l∈E,z∉f l)→ku f z p E=0
 |[],_=>rfl
 |r::E,h=>by
  unfold ku;have hb:bit z (f r)=0:=by unfold bit;rw[if_neg (h r (di ..))]
  rw[hb,uB fun l hl=>h l (d8 _ hl)];split<;>rfl
theorem wX{R:List (List Int)}(hR:∀r∈R,bo r){i:Nat}(hi:i≤R.length):∀{w:List Int},(∀j∈w,0≤j∧j<(i:Int))→∃v,Sp (R.take i) v∧∀z,bit z v=cp (nf R z) w%2
 |[],_=>⟨[],Sp.nil,fun z=>jE⟩
 |j::w,h=>by
  obtain⟨v,h1,h2⟩:=wX hR hi (w:=w) fun k hk=>h k (d8 _ hk);have hj:=h j (di ..);have hT:∀r∈R.take i,bo r:=fun r hr=>hR r (io hr)
  have hm:R.getD j.toNat default∈R.take i:=by
   have hk:j.toNat<(R.take i).length:=by rw[fy];omega
   have:=ay hk
   rwa [show(R.take i).getD j.toNat default=R.getD j.toNat default by simp[List.getD,iv,show j.toNat<i by omega]] at this
  refine⟨_,Sp.add h1 hm,fun z=>?_⟩;rw[dy (ml hT h1) (hT _ hm),h2];show _=(bit z (R.getD j.toNat default)+cp (nf R z) w)%2;omega
theorem yg{R:List (List Int)}(hR:∀r∈R,bo r):∀{i:Nat},i≤R.length→∀{y:List Int},bo y→(∀j∈y,0≤j∧j<(i:Int))→(∀z,cp (nf R z) y%2=0)→Sp (stE R i).2 y
 |0,_,y,_,hr,_=>by
  cases y with
  |nil=>exact Sp.nil
  |cons j l=>have:=hr j (di ..);omega
 |i+1,hi,y,hy,hr,h0=>by
  have ih:=fun{y}=>yg hR (i:=i) (by omega) (y:=y);have hs:=i9 hR (i:=i) (by omega);have hx:cr (R.getD i default,[(i:Int)]):=⟨hR _ (ay (by omega)),List.pairwise_singleton ..⟩
  have hya:cr (eV (stE R i).1 (R.getD i default,[(i:Int)])):=iJ hs.red.asc hx;have hyn:=fun l hl=>mP hs.red hx (l:=l) hl;have hysp:Sp ((stE R i).1.map Prod.fst) (bV (R.getD i default) (eV (stE R i).1 (R.getD i default,[(i:Int)])).1):=xo (fE hs.red) (fun l hl=>⟨hs.red.asc l hl,bG.2 ⟨l,hl,rfl⟩⟩) hx
  have hxo:lA R (i + 1) (R.getD i default,[(i:Int)]):=⟨fun z=>by
   have:=gr (z:=z) (a:=R.getD i default);show bit z (R.getD i default)=(bit z (R.getD ((i:Nat):Int).toNat default)+0)%2;rw[ct];omega,fun j hj=>by rw[cU.1 hj];omega⟩
  have hyo:lA R (i+1) (eV (stE R i).1 (R.getD i default,[(i:Int)])):=rK (fun l hl=>⟨hs.red.asc l hl,(hs.ok l hl).mono (by omega)⟩) hx hxo
  have hbi:bit (i:Int) (eV (stE R i).1 (R.getD i default,[(i:Int)])).2=1:=by
   unfold eV;rw[lN hs.red.asc hx,uB fun l hl h=>by have:=(hs.ok l hl).2 _ h;omega];show(bit (i:Int) [(i:Int)]+0)%2=1;rw[dz.2 (cU.2 rfl)]
  have ha:∀r∈(stE R i).2,bo r:=fun r hr=>(hs.dep r hr).1.2;by_cases hiy:(i:Int)∈y
  ·have hone:bo [(i:Int)]:=List.pairwise_singleton ..;by_cases hd:(eV (stE R i).1 (R.getD i default,[(i:Int)])).1=[]
   ·have hst:(stE R (i+1)).2=(stE R i).2++[(eV (stE R i).1 (R.getD i default,[(i:Int)])).2]:=by
      show(if _ then _ else _:List Ln×List (List Int)).2=_;rw[if_pos hd]
    rw[hst];obtain⟨hy1,hy2⟩:=hyo;rw[hd] at hy1;have hxa:=hya.2;generalize (eV (stE R i).1 (R.getD i default,[(i:Int)])).2=x at *
    have h1:Sp (stE R i).2 (bV y x):=ih (dR hy hxa) (fun j hj=>by
     have hne:j≠(i:Int):=fun e=>by
      rw[e] at hj;have hb:=dz.2 hj;rw[dy hy hxa,hbi,dz.2 hiy] at hb;cases hb
     rcases(dp hy hxa).1 hj with q|q
     ·have:=hr j q.1;omega
     ·have:=hy2 j q.1;omega) (fun z=>by
     rw[gX _ _ _ (aP _)];have e1:=h0 z;have e2:bit z []=cp (nf R z) x%2:=hy1 z;rw[jE] at e2;omega)
    have hm:x∈(stE R i).2++[x]:=m8 _ (cU.2 rfl);have h2:=Sp.add (kV (fun r hr=>mZ [x] hr) h1) hm
    rwa [←fc hy hxa hxa,fX hxa,gD] at h2
   ·exfalso;refine hd (vw hs.red ?_ hyn)
    have hw:∀j∈bV y [(i:Int)],0≤j∧j<(i:Int):=fun j hj=>by
     rcases(dp hy hone).1 hj with q|q
     ·have h1:=hr j q.1;have h2:j≠(i:Int):=fun e=>q.2 (cU.2 e);omega
     ·exact absurd (cU.1 q.1▸hiy) q.2
    obtain⟨v,v1,v2⟩:=wX hR (i:=i) (by omega) hw;have hT:∀r∈R.take i,bo r:=fun r hr=>hR r (io hr)
    have hv:v=R.getD i default:=jC (ml hT v1) hx.1 fun z=>by
     rw[v2,gX _ _ _ (aP _)];have e1:=h0 z;have e2:=gr (z:=z) (a:=R.getD i default);show(cp (nf R z) y+(bit z (R.getD ((i:Nat):Int).toNat default)+0))%2=_;rw[ct];omega
    rw[hv] at v1;have h3:=ms (fE hs.red) hs.all v1;have h4:=kO (fE hs.red) h3 hysp
    rwa [fc hx.1 hx.1 hya.1,fX hx.1,kQ] at h4
  ·refine kV (fun r hr=>?_) (ih hy (fun j hj=>by
     have h1:=hr j hj;have h2:j≠(i:Int):=fun e=>hiy (e▸hj);omega) h0)
   show r∈(if _ then _ else _:List Ln×List (List Int)).2;split
   ·exact mZ _ hr
   ·exact hr
def pY(b y:List Int):Bool:=decide (cp (fun j=>bit j b) y%2=1)
def wdR(R:List (List Int))(c:Nat)(b:List Int)(i:Nat):List Int:=if (i:Int)∈b then R.getD i default++[(c:Int)] else R.getD i default
def li(R:List (List Int))(c:Nat)(b:List Int):List (List Int):=(List.range R.length).map (wdR R c b)
def wdL(c:Nat)(b:List Int)(l:Ln):List Int:=if pY b l.2=true then l.1++[(c:Int)] else l.1
theorem Bf{a:List Int}{c:Nat}{t:Bool}(hc:∀z∈a,z<(c:Int))(z:Int):bit z (if t=true then a++[(c:Int)] else a)=if z=c then(if t=true then 1 else 0) else bit z a:=by
 unfold bit;by_cases hz:z=c
 ·have:z∉a:=fun h=>by have:=hc z h;omega
  cases t<;>simp[hz,this]
  ·exact fun h=>by have:=hc _ h;omega
 ·cases t<;>simp[hz]
theorem Bd{a:List Int}{c:Nat}{t:Bool}(ha:bo a)(hc:∀z∈a,z<(c:Int)):bo (if t=true then a++[(c:Int)] else a):=by
 cases t
 ·simpa using ha
 ·rw[if_pos rfl];exact List.pairwise_append.2 ⟨ha,List.pairwise_singleton ..,fun x hx y hy=>by rw[cU.1 hy];exact hc x hx⟩
theorem ji{g h:Int→Nat}:∀{l:List Int},(∀x∈l,g x=h x)→cp g l=cp h l
 |[],_=>rfl
 |x::l,e=>by
  unfold cp;rw[e x (di ..),ji fun y hy=>e y (d8 _ hy)]
theorem BX{g:Int→Nat}{D:List (List Int)}{y:List Int}(h:Sp D y)(h0:∀d∈D,cp g d%2=0):cp g y%2=0:=by
 induction h with
 |nil=>rfl
 |add h1 h2 ih=>rw[gX _ _ _ (aP _)];have:=h0 _ h2;omega
theorem zx{g:Int→Nat}{p:Ln→Bool}:∀{M:List Ln}{x:Ln},cp g (rdL M p x).2%2=(cp g x.2+(M.map fun l=>if p l=true then cp g l.2%2 else 0).sum)%2
 |[],x=>by show cp g x.2%2=(cp g x.2+0)%2;rfl
 |l::M,x=>by
  have ih:=zx (g:=g) (p:=p) (M:=M) (x:=if p l=true then dX x l else x);show cp g (rdL M p (if p l=true then dX x l else x)).2%2=(cp g x.2+((if p l=true then cp g l.2%2 else 0)+(M.map fun l=>if p l=true then cp g l.2%2 else 0).sum))%2;rw[ih];clear ih;by_cases h:p l=true
  ·rw[if_pos h,if_pos h];have:=gX (g:=g) _ x.2 l.2 (aP _);show(cp g (bV x.2 l.2)+_)%2=_;omega
  ·rw[if_neg h,if_neg h];omega
theorem Bs{f:Ln→List Int}{p:Ln→Bool}{S:List (List Int)}(hS:∀r∈S,bo r):∀{E:List Ln},(∀l∈E,f l∈S)→∃v,Sp S v∧∀z,bit z v=(E.map fun l=>if p l=true then bit z (f l) else 0).sum%2
 |[],_=>⟨[],Sp.nil,fun z=>jE⟩
 |l::E,h=>by
  obtain⟨v,v1,v2⟩:=Bs (f:=f) (p:=p) hS (E:=E) fun m hm=>h m (d8 _ hm);have hl:=h l (di ..);by_cases hp:p l=true
  ·refine⟨_,Sp.add v1 hl,fun z=>?_⟩;rw[dy (ml hS v1) (hS _ hl),v2];show _=((if p l=true then bit z (f l) else 0)+(E.map fun l=>if p l=true then bit z (f l) else 0).sum)%2;rw[if_pos hp];omega
  ·refine⟨v,v1,fun z=>?_⟩;rw[v2];show _=((if p l=true then bit z (f l) else 0)+(E.map fun l=>if p l=true then bit z (f l) else 0).sum)%2;rw[if_neg hp,ce]
theorem xV{f:Ln→List Int}{z:Int}{p:Ln→Bool}:∀{E:List Ln},(E.map fun l=>if p l=true then bit z (f l) else 0).sum=ku f z p E
 |[]=>rfl
 |l::E=>by
  show(if p l=true then bit z (f l) else 0)+(E.map fun l=>if p l=true then bit z (f l) else 0).sum=_;rw[xV];rfl
theorem zb{R:List (List Int)}{c:Nat}{b:List Int}{i:Nat}(h:i<R.length):(li R c b).getD i default=wdR R c b i:=we h
theorem nN{R:List (List Int)}{c:Nat}{b:List Int}(hR:∀r∈R,bo r)(hv:∀r∈R,∀z∈r,0≤z∧z<(c:Int)):
    (∀r∈li R c b,bo r)∧(∀r∈li R c b,∀z∈r,0≤z∧z<((c+1:Nat):Int))∧∀i,i<R.length→∀z,bit z ((li R c b).getD i default)=if z=c then bit (i:Int) b else bit z (R.getD i default):=by
 have hw:∀i,wdR R c b i=if decide ((i:Int)∈b)=true then R.getD i default++[(c:Int)] else R.getD i default:=fun i=>by
  unfold wdR;by_cases h:(i:Int)∈b<;>simp[h]
 refine⟨fun r hr=>?_,fun r hr z hz=>?_,fun i hi z=>?_⟩
 ·obtain⟨i,hi,rfl⟩:=bG.1 hr;have hi:=eO.1 hi;rw[hw];exact Bd (hR _ (ay hi)) fun z hz=>(hv _ (ay hi) z hz).2
 ·obtain⟨i,hi,rfl⟩:=bG.1 hr;have hi:=eO.1 hi;have hvi:=hv _ (ay hi);unfold wdR at hz;split at hz
  ·rcases eA.1 hz with h|h
   ·have:=hvi z h;omega
   ·rw[cU.1 h];omega
  ·have:=hvi z hz;omega
 ·rw[zb hi,hw,Bf (fun z hz=>(hv _ (ay hi) z hz).2)];by_cases h:z=c
  ·rw[if_pos h,if_pos h];by_cases hb:(i:Int)∈b<;>simp[hb,bit]
  ·rw[if_neg h,if_neg h]
theorem Db{R:List (List Int)}{c:Nat}{b:List Int}(hR:∀r∈R,bo r)(hv:∀r∈R,∀z∈r,0≤z∧z<(c:Int)){y:List Int}(hy:∀j∈y,0≤j∧j<(R.length:Int))(z:Int):
    cp (nf (li R c b) z) y=if z=c then cp (fun j=>bit j b) y else cp (nf R z) y:=by
 obtain⟨_,_,h3⟩:=nN (b:=b) hR hv;by_cases h:z=c
 ·rw[if_pos h];refine ji fun j hj=>?_;have:=hy j hj;unfold nf;rw[h3 j.toNat (by omega),if_pos h,show((j.toNat:Nat):Int)=j by omega]
 ·rw[if_neg h];refine ji fun j hj=>?_;have:=hy j hj;unfold nf;rw[h3 j.toNat (by omega),if_neg h]
theorem Ct{R:List (List Int)}{c:Nat}{b:List Int}(hR:∀r∈R,bo r)(hv:∀r∈R,∀z∈r,0≤z∧z<(c:Int))(h0:∀y∈(stE R R.length).2,pY b y=false):HP (li R c b) (c+1)=(lB R c).map (wdL c b):=by
 obtain⟨h1,h2,h3⟩:=nN (b:=b) hR hv;have hs:=i9 hR (aP R.length);obtain⟨e1,e2,_⟩:=kR h1 h2;obtain⟨d1,d2,d3⟩:=kR hR hv;rw[yi h1 h2];have hl:(li R c b).length=R.length:=by unfold li;simp
 have hlv:∀l∈(stE R R.length).1,∀z∈l.1,0≤z∧z<(c:Int):=fun l hl=>kL hR hv (kV (fun r hr=>io hr) (hs.inS l hl))
 have hbw:∀l∈(stE R R.length).1,∀z,bit z (wdL c b l)=if z=c then cp (fun j=>bit j b) l.2%2 else bit z l.1:=fun l hl z=>by
  unfold wdL;rw[Bf fun z hz=>(hlv l hl z hz).2];by_cases h:z=c
  ·rw[if_pos h,if_pos h];unfold pY;by_cases ho:cp (fun j=>bit j b) l.2%2=1
   ·simp[ho]
   ·simp[ho];omega
  ·rw[if_neg h,if_neg h]
 have hwa:∀l∈(stE R R.length).1,bo (wdL c b l):=fun l hl=>Bd (hs.red.asc l hl).1 fun z hz=>(hlv l hl z hz).2
 have hldw:∀l∈(stE R R.length).1,ld (wdL c b l)=ld l.1:=fun l hl=>by
  have hne:=hs.red.ne l hl;unfold wdL;split
  ·cases hq:l.1 with
   |nil=>exact absurd hq hne
   |cons x t=>rfl
  ·rfl
 have hF:Red ((lB R c).map (wdL c b)):=by
  refine⟨fun r hr=>?_,fun r hr=>?_,fun r hr q hq h=>?_,?_⟩
  ·obtain⟨l,hl,rfl⟩:=bG.1 hr;exact hwa l ((d3 l).1 hl)
  ·obtain⟨l,hl,rfl⟩:=bG.1 hr;have hne:=hs.red.ne l ((d3 l).1 hl);unfold wdL;split
   ·simp
   ·exact hne
  ·obtain⟨l,hl,rfl⟩:=bG.1 hr;obtain⟨m,hm,rfl⟩:=bG.1 hq;have hl:=(d3 l).1 hl;have hm:=(d3 m).1 hm;rw[hldw l hl] at h;have h4:=dz.2 h;have h5:=hlv l hl _ (dg (hs.red.ne l hl));rw[hbw m hm,if_neg (by omega)] at h4;rw[hs.red.own l hl m hm (dz.1 h4)]
  ·rw[List.pairwise_map];refine List.Pairwise.imp_of_mem (fun{x y} hx hy h=>?_) (og hs.red (c:=c));rw[hldw x ((d3 x).1 hx),hldw y ((d3 y).1 hy)];exact h
 refine sI e1 hF fun v=>?_;rw[e2];have hTk:∀r∈(li R c b).take R.length,bo r:=fun r hr=>h1 r (io hr);constructor
 ·refine ms hF.asc fun r hr=>?_;obtain⟨i,hi,e⟩:=nG hr;have hiR:i<R.length:=by omega
  have hx:cr (R.getD i default,[(i:Int)]):=⟨hR _ (ay hiR),List.pairwise_singleton ..⟩
  have hxo:lA R R.length (R.getD i default,[(i:Int)]):=⟨fun z=>by
   have:=gr (z:=z) (a:=R.getD i default);show bit z (R.getD i default)=(bit z (R.getD ((i:Nat):Int).toNat default)+0)%2;rw[ct];omega,fun j hj=>by rw[cU.1 hj];omega⟩
  have hya:=iJ (p:=eM (R.getD i default,[(i:Int)])) hs.red.asc hx;have hyo:=rK (p:=eM (R.getD i default,[(i:Int)])) (fun l hl=>⟨hs.red.asc l hl,hs.ok l hl⟩) hx hxo;have hysp:=xo (p:=eM (R.getD i default,[(i:Int)])) (fE hs.red) (fun l hl=>⟨hs.red.asc l hl,bG.2 ⟨l,hl,rfl⟩⟩) hx;have hyn:=fun l hl=>mP hs.red hx (l:=l) hl;have hb1:=fun z=>jU (p:=eM (R.getD i default,[(i:Int)])) (z:=z) hs.red.asc hx;have hg:=zx (g:=fun j=>bit j b) (p:=eM (R.getD i default,[(i:Int)])) (M:=(stE R R.length).1) (x:=(R.getD i default,[(i:Int)]));unfold eV at hyn;generalize hpp:eM (R.getD i default,[(i:Int)])=p at *;have hRi:Sp ((stE R R.length).1.map Prod.fst) (R.getD i default):=hs.all _ (by rw[List.take_length];exact ay hiR)
  have hnil:(rdL (stE R R.length).1 p (R.getD i default,[(i:Int)])).1=[]:=by
   refine vw hs.red ?_ hyn;have h4:=kO (fE hs.red) hRi hysp
   rwa [fc hx.1 hx.1 hya.1,fX hx.1,kQ] at h4
  obtain⟨q1,q2⟩:=hyo;rw[hnil] at q1
  have hdep:=yg hR (aP R.length) hya.2 q2 fun z=>by
   have:=q1 z;rw[jE] at this;exact this.symm
  have hev:=BX (g:=fun j=>bit j b) hdep fun d hd=>by
   have:=h0 d hd;unfold pY at this;have:=of_decide_eq_false this;omega
  obtain⟨u,u1,u2⟩:=Bs (f:=wdL c b) (p:=p) hF.asc (E:=(stE R R.length).1) fun l hl=>bG.2 ⟨l,(d3 l).2 hl,rfl⟩
  have hur:u=r:=by
   refine jC (ml hF.asc u1) (h1 r hr) fun z=>?_;rw[←e,h3 i hiR,u2];by_cases h:z=c
   ·rw[if_pos h,h]
    have hm:((stE R R.length).1.map fun l=>if p l=true then bit (c:Int) (wdL c b l) else 0)=(stE R R.length).1.map fun l=>if p l=true then cp (fun j=>bit j b) l.2%2 else 0:=
     wG fun l hl=>by rw[hbw l hl,if_pos rfl]
    rw[hm];rw[hev] at hg;have hone:cp (fun j=>bit j b) [(i:Int)]=bit (i:Int) b+0:=rfl;have hlt:=gr (z:=(i:Int)) (a:=b);change 0=(cp (fun j=>bit j b) [(i:Int)]+_)%2 at hg;rw[hone] at hg;omega
   ·rw[if_neg h]
    have hm:((stE R R.length).1.map fun l=>if p l=true then bit z (wdL c b l) else 0)=(stE R R.length).1.map fun l=>if p l=true then bit z l.1 else 0:=
     wG fun l hl=>by rw[hbw l hl,if_neg h]
    rw[hm,xV (f:=Prod.fst)];have h5:=hb1 z;rw[hnil,jE] at h5;have hlt:=gr (z:=z) (a:=R.getD i default);change 0=(bit z (R.getD i default)+_)%2 at h5;omega
  rw[←hur];exact u1
 ·refine ms h1 fun r hr=>?_;obtain⟨l,hl,rfl⟩:=bG.1 hr;have hl:=(d3 l).1 hl;obtain⟨k1,k2⟩:=hs.ok l hl;obtain⟨v,v1,v2⟩:=wX h1 (i:=R.length) (by omega) k2
  have:v=wdL c b l:=jC (ml hTk v1) (hwa l hl) fun z=>by
   rw[v2,Db hR hv k2,hbw l hl];by_cases h:z=c
   ·rw[if_pos h,if_pos h]
   ·rw[if_neg h,if_neg h];exact(k1 z).symm
  rw[←this];exact kV (fun r hr=>io hr) v1
section
variable{α:Type}{K:α→α→Int}
def vS(K:α→α→Int):Nat→List α→List α→List α
 |0,_,_=>[]
 |_+1,[],b=>b
 |_+1,x::a,[]=>x::a
 |n+1,x::a,y::b=>if K x y<0 then x::vS K n a (y::b) else if K y x<0 then y::vS K n (x::a) b else vS K n a b
def iM(K:α→α→Int)(a b:List α):List α:=vS K (a.length+b.length+1) a b
theorem mR:∀(n m:Nat)(a b:List α),a.length+b.length<n→a.length+b.length<m→vS K n a b=vS K m a b
 |0,_,_,_,h,_=>absurd h (by omega)
 |_+1,0,_,_,_,h=>absurd h (by omega)
 |_+1,_+1,[],b,_,_=>rfl
 |_+1,_+1,x::a,[],_,_=>rfl
 |n+1,m+1,x::a,y::b,h1,h2=>by
  simp only[bK] at h1 h2;simp only[vS];rw[mR n m a (y::b) (by simp only[bK];omega) (by simp only[bK];omega),mR n m (x::a) b (by simp only[bK];omega) (by simp only[bK];omega),mR n m a b (by omega) (by omega)]
theorem v5{b:List α}:iM K [] b=b:=rfl
theorem wB{a:List α}:iM K a []=a:=by cases a<;>rfl
theorem AW{x y:α}{a b:List α}:iM K (x::a) (y::b)=if K x y<0 then x::iM K a (y::b) else if K y x<0 then y::iM K (x::a) b else iM K a b:=by
 show vS K (a.length+1+(b.length+1)+1) (x::a) (y::b)=_;simp only[vS];unfold iM;rw[mR (a.length+1+(b.length+1)) (a.length+(y::b).length+1) a (y::b) (by simp only[bK];omega) (by simp only[bK];omega),mR (a.length+1+(b.length+1)) ((x::a).length+b.length+1) (x::a) b (by simp only[bK];omega) (by simp only[bK];omega),mR (a.length+1+(b.length+1)) (a.length+b.length+1) a b (by omega) (by omega)]
theorem oh:∀(n:Nat)(a b:List α),a.length+b.length≤n→(iM K a b).length≤a.length+b.length
 |_,[],b,_=>by rw[v5];simp
 |_,x::a,[],_=>by rw[wB];simp
 |0,x::a,y::b,h=>by simp only[bK] at h;omega
 |n+1,x::a,y::b,h=>by
  simp only[bK] at h ⊢;rw[AW];have h1:=oh n a (y::b) (by simp only[bK];omega);have h2:=oh n (x::a) b (by simp only[bK];omega);have h3:=oh n a b (by omega);simp only[bK] at h1 h2;split
  ·simp only[bK];omega
  split
  ·simp only[bK];omega
  ·omega
theorem me(hK:LinK K):∀(n:Nat)(a b:List α),a.length+b.length≤n→b0 K a→b0 K b→b0 K (iM K a b)∧∀z,z∈iM K a b↔(z∈a∧z∉b)∨(z∈b∧z∉a)
 |_,[],b,_,_,hb=>by rw[v5];exact⟨hb,fun z=>by simp⟩
 |_,x::a,[],_,ha,_=>by rw[wB];exact⟨ha,fun z=>by simp⟩
 |0,x::a,y::b,h,_,_=>by simp only[bK] at h;omega
 |n+1,x::a,y::b,h,ha,hb=>by
  simp only[bK] at h;obtain⟨a1,a2⟩:=gW.1 ha;obtain⟨b1,b2⟩:=gW.1 hb;have irr:=fun v=>hK.ord.irr v;rw[AW];by_cases g1:K x y<0
  ·rw[if_pos g1];obtain⟨h1,h2⟩:=me hK n a (y::b) (by simp only[bK];omega) a2 hb
   have hxb:∀z∈y::b,K x z<0:=fun z hz=>by
    rcases cQ.1 hz with rfl|hz
    ·exact g1
    ·exact hK.trans g1 (b1 z hz)
   refine⟨gW.2 ⟨fun z hz=>?_,h1⟩,fun z=>?_⟩
   ·rcases(h2 z).1 hz with⟨q,_⟩|⟨q,_⟩
    ·exact a1 z q
    ·exact hxb z q
   ·rw[cQ,h2,cQ (a:=z) (b:=x)];by_cases hz:z=x
    ·subst hz;have:z∉y::b:=fun q=>irr _ (hxb z q);simp[this]
    ·simp[hz]
  rw[if_neg g1];by_cases g2:K y x<0
  ·rw[if_pos g2];obtain⟨h1,h2⟩:=me hK n (x::a) b (by simp only[bK];omega) ha b2
   have hya:∀z∈x::a,K y z<0:=fun z hz=>by
    rcases cQ.1 hz with rfl|hz
    ·exact g2
    ·exact hK.trans g2 (a1 z hz)
   refine⟨gW.2 ⟨fun z hz=>?_,h1⟩,fun z=>?_⟩
   ·rcases(h2 z).1 hz with⟨q,_⟩|⟨q,_⟩
    ·exact hya z q
    ·exact b1 z q
   ·rw[cQ,h2,cQ (a:=z) (b:=y)];by_cases hz:z=y
    ·subst hz;have:z∉x::a:=fun q=>irr _ (hya z q);simp[this]
    ·simp[hz]
  rw[if_neg g2]
  obtain rfl:x=y:=by
   rcases hK.tri x y with q|q|q
   ·exact absurd q g1
   ·exact q
   ·exact absurd q g2
  obtain⟨h1,h2⟩:=me hK n a b (by omega) a2 b2;refine⟨h1,fun z=>?_⟩;rw[h2];by_cases hz:z=x
  ·subst hz;have q1:z∉a:=fun q=>irr _ (a1 z q);have q2:z∉b:=fun q=>irr _ (b1 z q);simp[q1,q2]
  ·simp[hz]
theorem Gn(hK:LinK K){a b:List α}(ha:b0 K a)(hb:b0 K b):b0 K (iM K a b):=(me hK _ a b (aP _) ha hb).1
theorem F5(hK:LinK K){a b:List α}(ha:b0 K a)(hb:b0 K b){z:α}:z∈iM K a b↔(z∈a∧z∉b)∨(z∈b∧z∉a):=(me hK _ a b (aP _) ha hb).2 z
theorem A8{a b:List α}:(iM K a b).length≤a.length+b.length:=oh _ a b (aP _)
end
def bi(s:Spx):List Spx:=if s.length<2 then [] else cl s (s.length-1)
def jg(a:List Spx)(o:List Spx):List Spx:=a.foldl (fun o s=>iM be o (bi s)) o
def cq(a:List Spx):List Spx:=jg a []
theorem nX{s:Spx}(h:b0 cz s):b0 be (bi s):=by
 unfold bi;split
 ·exact b0.nil
 ·exact l8 h
theorem ja{s f:Spx}:f∈bi s↔2≤s.length∧f.Sublist s∧f.length=s.length-1:=by
 unfold bi;split
 ·exact⟨fun h=>(by cases h),fun h=>absurd h.1 (by omega)⟩
 ·rw[eh];exact⟨fun h=>⟨by omega,h⟩,fun h=>h.2⟩
def nT(a:List Spx)(f:Spx):Nat:=(a.map fun s=>(bi s).count f).sum
theorem uT{s:Spx}{a:List Spx}{f:Spx}:nT (s::a) f=(bi s).count f+nT a f:=by unfold nT;rw[fQ,List.sum_cons]
theorem Cm{L:List Spx}(h:b0 be L)(f:Spx):L.count f%2=1↔f∈L:=by
 by_cases hf:f∈L
 ·have h1:=List.count_pos_iff.2 hf;have h2:=List.nodup_iff_count.1 (h.nodup jt) f;exact⟨fun _=>hf,fun _=>by omega⟩
 ·rw[List.count_eq_zero_of_not_mem hf];exact⟨fun h=>absurd h (by decide),fun h=>absurd h hf⟩
theorem ss:∀(a o:List Spx)(c:Spx→Nat),(∀s∈a,b0 cz s)→b0 be o→(∀f,f∈o↔c f%2=1)→b0 be (jg a o)∧∀f,f∈jg a o↔(c f+nT a f)%2=1
 |[],o,c,_,ho,hc=>⟨ho,fun f=>by show f∈o↔_;rw[hc];rfl⟩
 |s::a,o,c,hs,ho,hc=>by
  have hf:=nX (hs s di)
  obtain⟨h1,h2⟩:=ss a (iM be o (bi s)) (fun f=>c f+(bi s).count f) (fun t ht=>hs t (d8 _ ht)) (Gn jt ho hf) fun f=>by
   rw[F5 jt ho hf,hc,←Cm hf f];omega
  refine⟨h1,fun f=>?_⟩;show f∈jg a (iM be o (bi s))↔_;rw[h2,uT,pd]
theorem kr{a:List Spx}(hs:∀s∈a,b0 cz s):b0 be (cq a)∧∀f,f∈cq a↔nT a f%2=1:=by
 obtain⟨h1,h2⟩:=ss a [] (fun _=>0) hs b0.nil fun f=>⟨fun h=>(by cases h),fun h=>absurd h (by decide)⟩
 exact⟨h1,fun f=>by rw[show cq a=jg a [] from rfl,h2,ce]⟩
theorem Df{a:List Spx}(hs:∀s∈a,b0 cz s):b0 be (cq a):=(kr hs).1
theorem tC{a:List Spx}(hs:∀s∈a,b0 cz s){f:Spx}(hf:f∈cq a):∃s∈a,f∈bi s:=by
 have h:=((kr hs).2 f).1 hf;have hp:0<nT a f:=by omega
 clear h hf hs
 induction a with
 |nil=>exact absurd hp (Nat.lt_irrefl 0)
 |cons s a ih=>
  rw[uT] at hp;by_cases h:0<(bi s).count f
  ·exact⟨s,di,List.count_pos_iff.1 h⟩
  ·obtain⟨t,h1,h2⟩:=ih (by omega);exact⟨t,d8 _ h1,h2⟩
theorem py:∀(a o:List Spx),(∀s∈a,s.length≤8)→(jg a o).length≤o.length+a.length*70
 |[],o,_=>Nat.le_add_right _ _
 |s::a,o,h=>by
  have h1:=py a (iM be o (bi s)) fun t ht=>h t (d8 _ ht);have h2:=A8 (K:=be) (a:=o) (b:=bi s)
  have h3:(bi s).length≤70:=by
   unfold bi;split
   ·exact bF _
   ·exact mL (h s di)
  show(jg a (iM be o (bi s))).length≤_;rw[bK];omega
theorem vK{a:List Spx}(h:∀s∈a,s.length≤8):(cq a).length≤a.length*70:=by
 have:=py a [] h;rw[fi,ce] at this;exact this
def fc0:Spx→List Spx
 |[]=>[]
 |x::s=>s::(fc0 s).map (x:: ·)
theorem vH:∀{s:Spx},cl s s.length=[s]
 |[]=>rfl
 |x::s=>by rw[bK,iV,vH,kN (by omega)];rfl
theorem yL:∀{s:Spx},s≠[]→(cl s (s.length-1)).Perm (fc0 s)
 |[],h=>absurd rfl h
 |[x],_=>by show(cl [x] 0).Perm _;rw[nQ];exact List.Perm.refl _
 |x::y::s,_=>by
  show(cl (x::y::s) (s.length+1)).Perm _;rw[iV,show s.length+1=(y::s).length from rfl,vH];have ih:=yL (s:=y::s) (by simp);show((cl (y::s) s.length).map (x:: ·)++[y::s]).Perm ((y::s)::(fc0 (y::s)).map (x:: ·));exact List.perm_append_comm.trans ((ih.map (x:: ·)).cons _)
def DS(a:List Spx)(k:Nat):Int:=if bR (a.getD k default)≠0 then bR (a.getD k default) else if (a.getD k default).length≠(a.getD 0 default).length then 15 else if 0<k∧0≤be (a.getD (k-1) default) (a.getD k default) then 14 else 0
def hJ(a:List Spx):Int:=if 4096<a.length then 5 else dJ (DS a) a.length
theorem eu{a:List Spx}(h:hJ a=0):a.length≤4096∧(∀s∈a,bR s=0)∧b0 be a∧∀s∈a,s.length=(a.getD 0 default).length:=by
 unfold hJ at h;split at h
 ·exact absurd h (by decide)
 rename_i hl;have h0:=iY h
 have hk:∀k,k<a.length→bR (a.getD k default)=0∧(a.getD k default).length=(a.getD 0 default).length∧(0<k→be (a.getD (k-1) default) (a.getD k default)<0):=fun k hk=>by
  have q:=h0 k hk;unfold DS at q;split at q
  ·exact absurd q ‹_›
  split at q
  ·exact absurd q (by decide)
  split at q
  ·exact absurd q (by decide)
  ·rename_i q1 q2 q3;exact⟨sH q1,sH q2,fun h0=>by omega⟩
 have hm:∀s∈a,∃k,k<a.length∧a.getD k default=s:=fun s hs=>by
  obtain⟨k,h1,h2⟩:=jJ hs;exact⟨k,h1,by simp[List.getD,h1,h2]⟩
 refine⟨by omega,fun s hs=>?_,?_,fun s hs=>?_⟩
 ·obtain⟨k,h1,rfl⟩:=hm s hs;exact(hk k h1).1
 ·have hchain:∀j i,i<j→j<a.length→be (a.getD i default) (a.getD j default)<0:=fun j=>by
    induction j with
    |zero=>intro i hi;omega
    |succ j ih=>
     intro i hi hj;have q:=(hk (j+1) hj).2.2 (by omega);rw[ri] at q;rcases(by omega:i<j∨i=j) with h|rfl
     ·exact jt.trans (ih i h (by omega)) q
     ·exact q
  unfold b0;rw[kB];intro i j hi hj hij;have:=hchain j i hij hj
  rwa [show a.getD i default=a[i] by simp[List.getD,hi],show a.getD j default=a[j] by simp[List.getD,hj]] at this
 ·obtain⟨k,h1,rfl⟩:=hm s hs;exact(hk k h1).2.1
theorem sg{a:List Spx}(h:∀s∈a,bR s=0):∀s∈a,b0 cz s:=fun s hs=>(ca (h s hs)).2.2.1
theorem r6{a:List Spx}{k:Nat}:DS a k=if bR (a.getD k default)≠0 then bR (a.getD k default) else if (a.getD k default).length≠(a.getD 0 default).length then 15 else if 0<k∧0≤be (a.getD (k-1) default) (a.getD k default) then 14 else 0:=rfl
def fm(l:List (List Spx)):AV:=iO 1 aj l
theorem jv(l:List (List Spx)):Dat (fm l):=Dv (fun _=>rfl) bl
instance datI_encXsss{l:List (List Spx)}:DatI (fm l):=⟨jv l⟩
theorem t7{l:List (List Spx)}:dt (fm l)=some (.int .i64 l.length):=kI
theorem MF{l:List (List Spx)}{k:Nat}(h:k<l.length):ee 1 (fm l) (.int .i64 (k:Int))=some (.iptr [aj (l.getD k default)] 0):=by
 unfold fm;rw[mD,if_pos ⟨by omega,by omega⟩,ct];rfl
theorem He{l:List Spx}(h:0<l.length):ee 1 (aj l) (.int .i64 0)=some (.iptr [az (l.getD 0 default)] 0):=dB h
abbrev ShC(a:List Spx):Prop:=Shn a∧∀s∈a,Shn s
attribute [local irreducible] aK ak bf a5 aO aQ aC aS a7 bj Go.Abs.Fn aZ Go.Abs.Pure au aM Yl
theorem tN(a:List Spx)(ha:ShC a):pU 75 [aj a] (.int .i64 (hJ a)):=by
 refine pO Mp ?_;simp only[b75,aH];have ha':a.length≤17592186044416:=ha.1;unfold hJ;by_cases h0:4096<a.length
 ·rw[if_pos h0];refine wnZ (zI3 @ae @ai @af) ?_
  all_goals exact d4 rfl
 rw[if_neg h0];refine wnZ (zI3 @ae @ai @af) ?_;refine lg (X:=Nat) (fun k=>[(0,aj a),(9,aj a),(10,.int .i64 a.length),(11,.int .i64 k)]) (fun k=>k≤a.length∧∀i,i<k→DS a i=0) (fun k=>a.length-k) 0 ⟨bF _,fun i h=>absurd h (by omega)⟩ ag0 ?_;rintro k ⟨h1,h2⟩;by_cases hk:k<a.length
 rotate_left
 ·rw[dq fun i hi=>h2 i (by omega)];refine wnY and_self ?_;exact .int _ _
 have ix:=dB hk;have i0:=He (l:=a) (by omega);have hs1:=ha.2 _ (ay hk);have hp:=pj (a.getD k default) hs1;have hsp:=r6 (a:=a) (k:=k);by_cases he:bR (a.getD k default)≠0
 ·rw[if_pos he] at hsp;rw[cw hk h2 (by rw[hsp];exact he),hsp];have z:decide (bR (a.getD k default)≠0)=true:=aR he;refine wnY (zI4 @ae @an @ix @z) ?_;exact .int _ _
 rw[if_neg he] at hsp;have he:=sH he;rw[he] at hp;have z:decide ((0:Int)≠0)=false:=rfl;by_cases hl:(a.getD k default).length≠(a.getD 0 default).length
 ·rw[if_pos hl] at hsp;rw[cw hk h2 (by rw[hsp];decide),hsp];have z1:decide (((a.getD k default).length:Int)≠(a.getD 0 default).length)=true:=aR (by omega);refine wnY (zI6 @ae @an @ix @i0 @z @z1) ?_;exact .int _ _
 rw[if_neg hl] at hsp;have z1:decide (((a.getD k default).length:Int)≠(a.getD 0 default).length)=false:=a6 (by omega);by_cases hk0:0<k
 rotate_left
 ·rw[if_neg (fun h=>hk0 h.1)] at hsp;have zk:decide (0<(k:Int))=false:=a6 (by omega);refine wnY (zI7 @ae @an @ix @i0 @z @z1 @zk) ?_
  exact ⟨k + 1,⟨by omega,fun i hi=>by
   rcases gB.1 hi with h'|rfl
   ·exact h2 i h'
   ·exact hsp⟩,by omega,ag0,rfl,rfl⟩
 have zk:decide (0<(k:Int))=true:=aR (by omega)
 have iy:ee 1 (aj a) (.int .i64 ((k:Int)-1))=some (.iptr [az (a.getD (k-1) default)] 0):=by
  have:=dB (l:=a) (k:=k-1) (by omega)
  rwa [show((k-1:Nat):Int)=(k:Int)-1 by omega] at this
 have hcm:=gG (a.getD (k-1) default) (a.getD k default) (ha.2 _ (ay (by omega))) hs1;by_cases hv:0≤be (a.getD (k-1) default) (a.getD k default)
 ·have z2:decide (0≤be (a.getD (k-1) default) (a.getD k default))=true:=aR hv;rw[if_pos ⟨hk0,hv⟩] at hsp;rw[cw hk h2 (by rw[hsp];decide),hsp];refine wnY (zI9 @ae @an @ix @i0 @iy @z @z1 @zk @z2) ?_;exact .int _ _
 ·have z2:decide (0≤be (a.getD (k-1) default) (a.getD k default))=false:=a6 hv;rw[if_neg (fun h=>hv h.2)] at hsp;refine wnY (zI9 @ae @an @ix @i0 @iy @z @z1 @zk @z2) ?_
  exact ⟨k + 1,⟨by omega,fun i hi=>by
   rcases gB.1 hi with h'|rfl
   ·exact h2 i h'
   ·exact hsp⟩,by omega,ag0,rfl,rfl⟩
theorem Gr(a:List Spx)(ha:ShC a):pU 117 [aj a] (.int .i64 (hJ a)):=by
 refine pO K7 ?_;simp only[LZ,aH];have ha':a.length≤17592186044416:=ha.1;unfold hJ;by_cases h0:4096<a.length
 ·rw[if_pos h0];refine wnZ (zI3 @ae @ai @af) ?_
  all_goals exact d4 rfl
 rw[if_neg h0];refine wnZ (zI3 @ae @ai @af) ?_;refine lg (X:=Nat) (fun k=>[(0,aj a),(3,.int .i64 k)]) (fun k=>k≤a.length∧∀i,i<k→DS a i=0) (fun k=>a.length-k) 0 ⟨bF _,fun i h=>absurd h (by omega)⟩ ag0 ?_;rintro k ⟨h1,h2⟩;by_cases hk:k<a.length
 rotate_left
 ·rw[dq fun i hi=>h2 i (by omega)];refine wnY @ae ?_;exact .int _ _
 have ix:=dB hk;have i0:=He (l:=a) (by omega);have hs1:=ha.2 _ (ay hk);have hp:=vV (a.getD k default) hs1;have hsp:=r6 (a:=a) (k:=k);by_cases he:bR (a.getD k default)≠0
 ·rw[if_pos he] at hsp;rw[cw hk h2 (by rw[hsp];exact he),hsp];have z:decide (bR (a.getD k default)≠0)=true:=aR he;refine wnY (zI4 @ae @an @ix @z) ?_;exact .int _ _
 rw[if_neg he] at hsp;have he:=sH he;rw[he] at hp;have z:decide ((0:Int)≠0)=false:=rfl;by_cases hl:(a.getD k default).length≠(a.getD 0 default).length
 ·rw[if_pos hl] at hsp;rw[cw hk h2 (by rw[hsp];decide),hsp];have z1:decide (((a.getD k default).length:Int)≠(a.getD 0 default).length)=true:=aR (by omega);refine wnY (zI6 @ae @an @ix @i0 @z @z1) ?_;exact .int _ _
 rw[if_neg hl] at hsp;have z1:decide (((a.getD k default).length:Int)≠(a.getD 0 default).length)=false:=a6 (by omega);by_cases hk0:0<k
 rotate_left
 ·rw[if_neg (fun h=>hk0 h.1)] at hsp;have zk:decide (0<(k:Int))=false:=a6 (by omega);refine wkY (zI7 @ae @an @ix @i0 @z @z1 @zk) ?_
  exact ⟨k + 1,⟨by omega,fun i hi=>by
   rcases gB.1 hi with h'|rfl
   ·exact h2 i h'
   ·exact hsp⟩,by omega,ag0,rfl,rfl⟩
 have zk:decide (0<(k:Int))=true:=aR (by omega)
 have iy:ee 1 (aj a) (.int .i64 ((k:Int)-1))=some (.iptr [az (a.getD (k-1) default)] 0):=by
  have:=dB (l:=a) (k:=k-1) (by omega)
  rwa [show((k-1:Nat):Int)=(k:Int)-1 by omega] at this
 have hcm:=fP (a.getD (k-1) default) (a.getD k default) (ha.2 _ (ay (by omega))) hs1;by_cases hv:0≤be (a.getD (k-1) default) (a.getD k default)
 ·have z2:decide (0≤be (a.getD (k-1) default) (a.getD k default))=true:=aR hv;rw[if_pos ⟨hk0,hv⟩] at hsp;rw[cw hk h2 (by rw[hsp];decide),hsp];refine wkY (zI9 @ae @an @ix @i0 @iy @z @z1 @zk @z2) ?_;exact .int _ _
 ·have z2:decide (0≤be (a.getD (k-1) default) (a.getD k default))=false:=a6 hv;rw[if_neg (fun h=>hv h.2)] at hsp;refine wkY (zI9 @ae @an @ix @i0 @iy @z @z1 @zk @z2) ?_
  exact ⟨k + 1,⟨by omega,fun i hi=>by
   rcases gB.1 hi with h'|rfl
   ·exact h2 i h'
   ·exact hsp⟩,by omega,ag0,rfl,rfl⟩
def rf(a:List Spx):Bool:=((a.take 50).all fun s=>decide (s.length≤10))&&(decide (a.length≤40) || decide (4096<a.length))
theorem HM(a:List Spx)(ha:ShC a):pU 40 [aj a] (.bool (rf a)):=by
 refine pO MJ ?_;simp only[b40,aH];have ha':a.length≤17592186044416:=ha.1;have hlt:(a.take 50).length=min 50 a.length:=fy;refine wnZ @ae ?_;refine lg (X:=Nat) (fun k=>[(0,aj a),(3,.int .i64 k)]) (fun k=>k≤(a.take 50).length∧∀i,i<k→decide (((a.take 50).getD i default).length≤10)=true) (fun k=>(a.take 50).length-k) 0 ⟨bF _,fun i h=>absurd h (by omega)⟩ ag0 ?_;rintro k ⟨h1,h2⟩;by_cases hk:k<(a.take 50).length
 rotate_left
 ·have e:rf a=(decide (a.length≤40) || decide (4096<a.length)):=by
    unfold rf;rw[hU fun i hi=>h2 i (by omega),Bool.true_and]
  rw[e];by_cases h3:a.length≤40
  ·have y1:decide ((a.length:Int)≤40)=true:=aR (by omega);have y2:decide ((k:Int)<a.length)=false:=a6 (by omega);rw[aR h3];refine wnY (zI3 @ae @y1 @y2) ?_;exact .bool _
  ·have y1:decide ((a.length:Int)≤40)=false:=a6 (by omega);rw[a6 h3,Bool.false_or];by_cases h4:k<a.length
   ·have y2:decide ((k:Int)<a.length)=true:=aR (by omega);have y3:decide ((k:Int)<50)=false:=a6 (by omega);refine wnY (zI4 @ae @y1 @y2 @y3) ?_;exact ci (decide_eq_decide.2 (by omega))
   ·have y2:decide ((k:Int)<a.length)=false:=a6 (by omega);refine wnY (zI3 @ae @y1 @y2) ?_;exact ci (decide_eq_decide.2 (by omega))
 have hk1:k<a.length:=by omega
 have ix:=dB hk1;have e:(a.take 50).getD k default=a.getD k default:=p8 (by omega);have y2:decide ((k:Int)<a.length)=true:=aR (by omega);have y3:decide ((k:Int)<50)=true:=aR (by omega);by_cases hs:(a.getD k default).length≤10
 ·have y4:decide ((10:Int)<(a.getD k default).length)=false:=a6 (by omega);refine wnY (zI6 @ae @an @ix @y2 @y3 @y4) ?_
  exact ⟨k + 1,⟨by omega,fun i hi=>by
   rcases gB.1 hi with h'|rfl
   ·exact h2 i h'
   ·rw[e];exact aR hs⟩,by omega,ag0,rfl,rfl⟩
 ·have y4:decide ((10:Int)<(a.getD k default).length)=true:=aR (by omega)
  have e2:rf a=false:=by
   unfold rf;rw[gF hk (by rw[e];exact a6 hs),Bool.false_and]
  rw[e2];refine wnY (zI6 @ae @an @ix @y2 @y3 @y4) ?_;exact .bool _
theorem FR{a:List Spx}(h:rf a=true)(hc:hJ a=0):a.length≤40:=by
 unfold rf at h;have:=(eu hc).1;simp only[dL,kT,il] at h;omega
theorem vu(l:List Spx)(hl:l.length≤100000)(hs:∀x∈l,x.length≤1000000):pU 84 [aj l] (aj l):=by
 refine pO MC ?_;simp only[b84,aH];refine wnZ @ae ?_;refine bQ (X:=AV×Nat) (fun x=>[(3,x.1),(6,aj l),(7,.int .i64 l.length),(8,.int .i64 x.2)]) (fun x H nx=>x.2≤l.length∧Row H 1 x.1 ((l.take x.2).map az)∧∀b,bL x.1=some b→b<nx) (fun x=>l.length-x.2) (.esl,0) ⟨bF _,Row.nil,fun b hb=>(by cases hb)⟩ ag0 ?_;rintro⟨s,j⟩ H nx ⟨h1,h2,h3⟩;dsimp only at h1 h2 h3 ⊢;by_cases hj:j<l.length
 ·have hw:=ay hj;have hcl:=C7 _ (hs _ hw);have ix:=dB hj;refine wnY @ix ?_;refine fJ ev0 ev0 hcl (ah (cI _ _) ao) ?_;refine wnY (aI @aW @aJ) ?_;refine iX rfl ev0 (h2.same fun b hb=>?_) ev0 fq rfl rfl mq (by simp;omega) (by simp;omega) ?_
  ·have:=h3 b hb;rw[ac (by omega)]
  rintro s2 E e hrow hle1 hle2 hsame hb2;refine wnY and_self ?_;refine⟨(s2,j+1),by dsimp only;omega,⟨by dsimp only;omega,?_,fun b hb=>?_⟩,ag0⟩
  ·dsimp only;rw[AN hj,cL];exact hrow
  ·rcases hb2 b hb with h|h
   ·have:=h3 b h;omega
   ·omega
 ·refine wnY and_self ?_;rw[fv (by omega)] at h2;exact gb h2
theorem CX(l:List Spx)(hl:Shn l)(hs:∀x∈l,x.length≤1000000):pU 76 [aj l] (.tup [aj (if 4096<l.length then [] else l),.int .i64 (if 4096<l.length then 5 else 0)]):=by
 refine pO MQ ?_;simp only[b76,aH];have hl':l.length≤17592186044416:=hl;by_cases h:4096<l.length
 ·have z:decide ((4096:Int)<l.length)=true:=aR (by omega);rw[if_pos h,if_pos h];refine wnY (aI @ae @z) ?_;exact dN (.eslsl _) rfl
 ·have z:decide ((4096:Int)<l.length)=false:=a6 (by omega);rw[if_neg h,if_neg h];have hc:=vu l (by omega) hs;refine wnY (aI @ae @z) ?_;exact dN (bl _).snap rfl
theorem IG(a b:List Spx)(ha:a.length≤1000000∧∀s∈a,Shn s)(hb:b.length≤1000000∧∀s∈b,Shn s):pU 119 [aj a,aj b] (aj (iM be a b)):=by
 refine pO Lw ?_;simp only[J8,aH]
 repeat' (first|refine zW ?_|apply a_n|refine zO ?_|refine vZ ?_|fail)
 refine bQ (X:=Nat×Nat×List Spx×AV) (fun x=>[(0,aj a),(1,aj b),(5,x.2.2.2),(6,.int .i64 x.1),(7,.int .i64 x.2.1)]) (fun x H nx=>x.1≤a.length∧x.2.1≤b.length∧x.2.2.1.length≤x.1+x.2.1∧x.2.2.1++iM be (a.drop x.1) (b.drop x.2.1)=iM be a b∧Row H 1 x.2.2.2 (x.2.2.1.map az)∧∀b,bL x.2.2.2=some b→b<nx) (fun x=>(a.length-x.1)+(b.length-x.2.1)) (0,0,[],.esl) ⟨bF _,bF _,by simp,rfl,Row.nil,fun b hb=>(by cases hb)⟩ ag0 ?_;rintro⟨i,j,D,sv⟩ H nx ⟨h1,h2,h3,h4,h5,h6⟩;dsimp only at h1 h2 h3 h4 h5 h6 ⊢
 have key:∀(x:Spx){P:Program}{T:Tm}{dm:DM}{K:SP}{l:List Op2}{d:Option Nat}{s v:Opd},dm2 dm T (.app 1 24 s v)=true→ov T s=sv→ov T v=.msl nx 1 1 0 1→
     (∀(sv':AV)(H':Hp)(nx':Nat),Row H' 1 sv' ((D++[x]).map az)→(∀b,bL sv'=some b→b<nx')→ak P dm l (aL T d sv') H' nx' K)→
     D.length≤2000000→ak P dm (⟨d,none,.app 1 24 s v⟩::l) T (aq H nx [az x]) (nx+1) K:=by
  intro x P T dm K l d s v k1 k2 k3 k4 k5;refine iX k1 k2 (h5.same fun b hb=>?_) k3 fq rfl rfl mq (by rw[bw];omega) (by rw[bw];omega) ?_
  ·have:=h6 b hb;rw[ac (by omega)]
  rintro s2 E e hrow hle1 hle2 hsame hb2;refine k4 s2 E e (by rw[cL];exact hrow) fun b hb=>?_;rcases hb2 b hb with h|h
  ·have:=h6 b h;omega
  ·omega
 by_cases hi:i<a.length
 ·have ix:=dB hi;have hsx:=ha.2 _ (ay hi);rw[fj hi] at h4;have z1:decide ((i:Int)<a.length)=true:=aR (by omega);have z5:decide ((i:Int)=a.length)=false:=a6 (by omega);by_cases hj:j<b.length
  ·have iy:=dB hj;have hsy:=hb.2 _ (ay hj);rw[fj hj,AW,←fj hi,←fj hj] at h4;have hc1:=fP _ _ hsx hsy;have hc2:=fP _ _ hsy hsx;have z2:decide ((j:Int)=b.length)=false:=a6 (by omega);generalize a.getD i default=x at *;generalize b.getD j default=y at *;by_cases g1:be x y<0
   ·have z3:decide (be x y<0)=true:=aR g1;rw[if_pos g1] at h4;have zz:=aI @ae (aI @z1 (aI @z2 (aI @z3 (aI @ix (aI @iy (aI @aW @aJ))))));repeat' (first|refine zW ?_|refine zM ?_|apply a_n|refine zO ?_|refine vY ?_|refine cY ?_ (hp:=by first|exact hc1|exact hc2) (hs:=by(first|refine aE ?_ rfl|apply aV);(repeat' (first|exact ao|apply br|apply aX|exact cI _));first|done|fail)|refine blY ?_|refine gTY ?_|refine gFY ?_|refine cTY ?_|fail)
    refine key x rfl ev0 ev0 (fun s2 H2 nx2 r1 r2=>?_) (by omega)
    repeat' (first|apply a_n|refine zO ?_|refine vY ?_|fail)
    exact⟨(i+1,j,D++[x],s2),by dsimp only;omega,⟨by dsimp only;omega,h2,by simp;omega,by dsimp only;rw[lD];exact h4,r1,r2⟩,ag0⟩
   have z3:decide (be x y<0)=false:=a6 g1;rw[if_neg g1] at h4;by_cases g2:be y x<0
   ·have z4:decide (be y x<0)=true:=aR g2;rw[if_pos g2] at h4;have zz:=aI @ae (aI @z1 (aI @z2 (aI @z3 (aI @z4 (aI @z5 (aI @ix (aI @iy (aI @aW @aJ))))))));repeat' (first|refine zW ?_|refine zM ?_|apply a_n|refine zO ?_|refine vY ?_|refine cY ?_ (hp:=by first|exact hc1|exact hc2) (hs:=by(first|refine aE ?_ rfl|apply aV);(repeat' (first|exact ao|apply br|apply aX|exact cI _));first|done|fail)|refine blY ?_|refine gTY ?_|refine gFY ?_|refine cTY ?_|refine cFY ?_|fail)
    refine key y rfl ev0 ev0 (fun s2 H2 nx2 r1 r2=>?_) (by omega)
    repeat' (first|apply a_n|refine zO ?_|refine vY ?_|fail)
    exact⟨(i,j+1,D++[y],s2),by dsimp only;omega,⟨h1,by dsimp only;omega,by simp;omega,by dsimp only;rw[lD];exact h4,r1,r2⟩,ag0⟩
   ·have z4:decide (be y x<0)=false:=a6 g2;rw[if_neg g2] at h4;have zz:=aI @ae (aI @z1 (aI @z2 (aI @z3 (aI @z4 (aI @z5 (aI @ix (aI @iy (aI @aW @aJ))))))));repeat' (first|refine zW ?_|refine zM ?_|apply a_n|refine zO ?_|refine vY ?_|refine cY ?_ (hp:=by first|exact hc1|exact hc2) (hs:=by(first|refine aE ?_ rfl|apply aV);(repeat' (first|exact ao|apply br|apply aX|exact cI _));first|done|fail)|refine gTY ?_|refine gFY ?_|refine cTY ?_|refine cFY ?_|fail)
    exact⟨(i+1,j+1,D,sv),by dsimp only;omega,⟨by dsimp only;omega,by dsimp only;omega,by dsimp only;omega,h4,h5,h6⟩,ag0⟩
  ·have e:b.drop j=[]:=List.drop_of_length_le (by omega);rw[e,wB] at h4;have z2:decide ((j:Int)=b.length)=true:=aR (by omega);generalize a.getD i default=x at *;have zz:=aI @ae (aI @z1 (aI @z2 (aI @ix (aI @aW @aJ))));repeat' (first|refine zW ?_|refine zM ?_|apply a_n|refine zO ?_|refine vY ?_|refine blY ?_|refine gFY ?_|refine cTY ?_|fail)
   refine key x rfl ev0 ev0 (fun s2 H2 nx2 r1 r2=>?_) (by omega)
   repeat' (first|apply a_n|refine zO ?_|refine vY ?_|fail)
   exact⟨(i+1,j,D++[x],s2),by dsimp only;omega,⟨by dsimp only;omega,h2,by simp;omega,by dsimp only;rw[e,wB,lD];exact h4,r1,r2⟩,ag0⟩
 ·have e:a.drop i=[]:=List.drop_of_length_le (by omega);rw[e,v5] at h4;have z1:decide ((i:Int)<a.length)=false:=a6 (by omega);have z5:decide ((i:Int)=a.length)=true:=aR (by omega);by_cases hj:j<b.length
  ·have iy:=dB hj;rw[fj hj] at h4;have z2:decide ((j:Int)=b.length)=false:=a6 (by omega);have z6:decide ((j:Int)<b.length)=true:=aR (by omega);generalize b.getD j default=y at *;refine wkY (zI8 @ae @z1 @z2 @z5 @z6 @iy @aW @aJ) ?_;refine key y rfl ev0 ev0 (fun s2 H2 nx2 r1 r2=>?_) (by omega);refine wnY and_self ?_;exact⟨(i,j+1,D++[y],s2),by dsimp only;omega,⟨h1,by dsimp only;omega,by simp;omega,by dsimp only;rw[e,v5,lD];exact h4,r1,r2⟩,ag0⟩
  ·have z6:decide ((j:Int)<b.length)=false:=a6 (by omega);rw[List.drop_of_length_le (by omega),ga] at h4;refine wnY (zI3 @ae @z1 @z6) ?_;rw[←h4];exact gb h5
theorem sq{a:List Spx}(h:∀s∈a,bR s=0):∀s∈a,Shn s:=fun s hs=>by have:=(ca (h s hs)).2.1;show _≤_;omega
theorem ze{a:List Spx}(h:∀s∈a,bR s=0):∀s∈a,s.length≤1000000:=fun s hs=>by have:=(ca (h s hs)).2.1;omega
end Go.Proofs.YtekdaafnjdlenaaGreat
namespace Go.Proofs.YtekdaafnjdlenaaGreat
open Go Go.Abs
section
variable{α:Type}[DecidableEq α]{K:α→α→Int}
end
section
variable{g:Vtx→Vtx}
end
def fcs(s:Spx):List Spx:=if s.length<2 then [] else fc0 s
theorem oq{s:Spx}:(fcs s).Perm (bi s):=by
 unfold fcs bi;split
 ·exact List.Perm.refl _
 ·rename_i h;exact(yL fun e=>by rw[e] at h;simp at h).symm
theorem BO{s f:Spx}:f∈fcs s↔f∈bi s:=oq.mem_iff
theorem rA:∀{s:Spx},(fc0 s).length=s.length
 |[]=>rfl
 |x::s=>by show((fc0 s).map (x:: ·)).length+1=_;rw[bw,rA];rfl
theorem Bi:∀{s:Spx}{i:Nat},i<s.length→(fc0 s).getD i default=s.take i++s.drop (i+1)
 |[],_,h=>absurd h (by simp)
 |x::s,0,_=>by simp[fc0]
 |x::s,i+1,h=>by
  have hi:i<s.length:=by simpa using h
  have:=Bi hi;show((s::(fc0 s).map (x:: ·)).getD (i+1) default)=_;have hl:i<(fc0 s).length:=by rw[rA];exact hi
  simp only[List.getD,zS,lq,rn hl,lu,ua,List.take_succ_cons,List.drop_succ_cons,List.cons_append] at this ⊢;rw[this]
theorem w6{s:Spx}(h:b0 cz s):(bi s).Nodup:=(nX h).nodup jt
theorem Dk{s:Spx}(h:b0 cz s):(fcs s).Nodup:=oq.nodup_iff.2 (w6 h)
def jr(X Y:List Spx)(n i:Nat):List Nat:=(List.range n).filter fun k=>decide (Y.getD i default∈bi (X.getD k default))
theorem CF{X Y:List Spx}{n i:Nat}:jr X Y (n+1) i=jr X Y n i++if Y.getD i default∈bi (X.getD n default) then [n] else []:=by
 unfold jr;rw[List.range_succ,uc]
 congr 1
 by_cases h:Y.getD i default∈bi (X.getD n default)
 ·rw[if_pos h,xm (by simpa using h)];rfl
 ·rw[if_neg h,wq (by simpa using h)];rfl
theorem xM{X Y:List Spx}{n i:Nat}:(jr X Y n i).length≤n:=by
 unfold jr;exact eX (List.length_filter_le _ _) (by simp)
def dA(X Y:List Spx):List (List Int):=(List.range Y.length).map fun i=>cf (jr X Y X.length i)
end Go.Proofs.YtekdaafnjdlenaaGreat
namespace Go.Proofs.YtekdaafnjdlenaaGreat
open Go Go.Abs
open Nat (reduceEqDiff reduceAdd reduceLeDiff)
section
variable{P:Program}{T:Tm}{H:Hp}{nx:Nat}
theorem Jc{dm:DM}{K:SP}{l:List Op2}{d:Option Nat}{sz bytes:Nat}{z:List AV}{s x:Opd}{k:IntKind}{n:Int}(hd:dm2 dm T (.apz sz bytes z s x)=true)(hs:ov T s=.esl)(hx:ov T x=.int k n)(h0:0<n)(h1:n≤9223372036854775807)(h2:n.toNat*bytes≤140737488355328)
    (kk:ak P dm l (aL T d (.msl nx (n.toNat*sz) sz 0 n.toNat)) (aq H nx (bn (.agg z) n.toNat)) (nx+1) K):ak P dm (⟨d,none,.apz sz bytes z s x⟩::l) T H nx K:=by
 refine nC rfl hd ?_ kk;simp only[jq,hs,hx];rw[if_pos ⟨h0,h1,h2⟩]
end
theorem Gw(T:Tm)(H:Hp)(x:Opd):bA T H (.capE x)=match ov T x with|.esl=>some (.int .i64 0)|_=>none:=rfl
theorem F9(n:Nat):(bn (.agg [.int .i64 0,.int .i64 0]) n).length=n*2:=by simp[bn,AV.cells]
attribute [local irreducible] aK ak bf a5 aO aQ aC aS a7 bj Go.Abs.Fn aZ Go.Abs.Pure au aM Yl
theorem FT(n:Nat)(h0:0<n)(h1:n≤1000000)(H:Hp)(nx:Nat):Abs.Fn Tryz.prog 161 [.esl,.int .i64 n] H nx fun r H' nx'=>r=.msl nx (n*2) 2 0 0∧H'=aq H nx (bn (.agg [.int .i64 0,.int .i64 0]) n)∧nx'=nx+1:=by
 refine fO K4 ?_;simp only[Lk,aH];have z1:decide ((n:Int)<0)=false:=a6 (by omega);have z2:decide ((0:Int)<n)=true:=aR (by omega);have s2:ln 2 .esl none (some (.int .i64 0)) none=some .esl:=rfl;have s3:=Ac (B:=nx) (n:=n*2) (len:=n) (k:=0) (by omega) (by omega);rw[show((0:Nat):Int)=0 from rfl] at s3;refine wnY (zI6 @z1 @z2 @s2 @Int.sub_zero @Int.sub_self @Gw) ?_;refine Jc rfl (have zz:=@s2;evY) ev0 (by omega) (by omega) (by omega) ?_;refine wnY @s3 ?_;exact⟨rfl,rfl,rfl⟩
theorem wE{c:List Spx}{k:Nat}(hk:k<c.length):(c.take (k+1)).flatten=(c.take k).flatten++c.getD k default:=by
 rw[bS hk,List.flatten_append];simp
end Go.Proofs.YtekdaafnjdlenaaGreat
namespace Go.Proofs.YtekdaafnjdlenaaGreat
open Go Go.Abs
open Nat (reduceEqDiff reduceAdd reduceLeDiff)
theorem IA{P:Program}{T:Tm}{H:Hp}{nx:Nat}{dm:DM}{K:SP}{l:List Op2}{d:Option Nat}{sz bytes b N len n:Nat}{s x:Opd}{v:AV}{new C:List AV}(hd:dm2 dm T (.app sz bytes s x)=true)(hs:ov T s=.msl b N sz 0 len)(hb:H b=some C)(hN:C.length=N)(hx:ov T x=v)(hsrc:ed sz H v=some (n,new))(ho:AV.ones new=true)(hnl:new.length=n*sz)(hz:0<sz)(h0:0<N)(hle:(len+n)*sz≤N)(h1:(len+n)*bytes≤140737488355328)(h2:len+n≤9223372036854775807)
    (next:∀C':List AV,C'.length=N→C'.take ((len+n)*sz)=C.take (len*sz)++new→ak P dm l (aL T d (.msl b N sz 0 (len+n))) (aq H b C') nx K):
    ak P dm (⟨d,none,.app sz bytes s x⟩::l) T H nx K:=by
 by_cases e:N=len*sz
 ·have hn:n=0:=by
    rcases Ax n with h|h
    ·exact h
    ·have:len*sz+1*1≤len*sz+n*sz:=Nat.add_le_add_left (Nat.mul_le_mul h hz) _;rw[fx] at hle;omega
  subst hn;obtain rfl:new=[]:=List.eq_nil_of_length_eq_zero (by rw[hnl,w9]);refine zu hd hs hb hx hsrc ho hN e h1 h2 ?_;rw[oM] at next ⊢;rw[←e];exact next _ (by rw[ga];exact hN) (by rw[ga,ga])
 ·refine Au hd hs hb hx hsrc ho hN (fun _=>e) h0 (by rw[ce];exact hle) ?_;have hlen:len*sz+new.length≤N:=by rw[hnl,←fx];exact hle
  refine next _ ?_ ?_
  ·rw[gV (by rw[hN];omega)];exact hN
  ·simp only[bH,ce];rw[GF (by rw[c7,fy,hN,hnl,fx];omega),fv (by rw[c7,fy,hN,hnl,fx];omega)]
attribute [local irreducible] aK ak bf a5 aO aQ aC aS a7 bj Go.Abs.Fn aZ Go.Abs.Pure au aM Yl
theorem Di(c:List Spx)(hpos:0<c.flatten.length)(hl:c.flatten.length≤1000000)(hc:c.length≤1000000)(H:Hp)(nx:Nat):
    Abs.Fn Tryz.prog 141 [aj c] H nx fun r H' nx'=>r=.msl nx (c.flatten.length*2) 2 0 c.flatten.length∧H'=aq H nx (cX c.flatten)∧nx'=nx+1:=by
 refine fO KG ?_;simp only[L3,aH]
 have hle:∀k,(c.take k).flatten.length≤c.flatten.length:=fun k=>by
  have:c.flatten=(c.take k).flatten++(c.drop k).flatten:=by rw[←List.flatten_append,EF]
  rw[this,c7];omega
 refine dD ?_
 repeat' (first|apply a_n|refine zO ?_|refine vY ?_|fail)
 refine dD ?_
 repeat' (first|apply a_n|refine zO ?_|refine vY ?_|fail)
 refine co (fun T H' nx'=>T 0=aj c∧T 3=.int .i64 (c.flatten.length:Nat)∧H=H'∧nx=nx') ?_ ?_
 ·refine wnY @ae ?_;refine lg (X:=Nat) (fun k=>[(0,aj c),(3,.int .i64 ((c.take k).flatten.length:Nat)),(9,aj c),(10,.int .i64 c.length),(11,.int .i64 (k:Nat))]) (fun k=>k≤c.length) (fun k=>c.length-k) 0 (by omega) (by simp (disch:=omega) only[agr,ZG,reduceEqDiff,↓reduceIte,List.take_zero,List.flatten_nil,fi]<;>simp) ?_;intro k hk;by_cases hk2:k<c.length
  rotate_left
  ·rw[fv (by omega)];refine wnY and_self ?_;exact⟨rfl,rfl,rfl,rfl⟩
  have ix:=dB hk2;have hle2:=hle (k+1);have e:(((c.take (k+1)).flatten.length:Nat):Int)=((c.take k).flatten.length:Nat)+((c.getD k default).length:Nat):=by rw[wE hk2,c7];omega
  rw[wE hk2,c7] at hle2;have z:decide ((((c.take k).flatten.length:Nat):Int)+((c.getD k default).length:Nat)<0)=false:=a6 (by omega);generalize c.getD k default=s at *;refine wnY (zI3 @ix @an @z) ?_;exact⟨k+1,by omega,by omega,(have zz:=@e;agZ),rfl,rfl⟩
 rintro T _ _ ⟨t0,t3,rfl,rfl⟩;refine wnY @t3 ?_;refine bd ev0 (have zz:=@t3;evY) (FT c.flatten.length (by omega) (by omega) H nx) ?_;rintro _ _ _ ⟨rfl,rfl,rfl⟩;refine wnY (aI @t0 @ae) ?_;refine bQ (X:=Nat) (fun k=>[(6,.msl nx (c.flatten.length*2) 2 0 (c.take k).flatten.length),(25,aj c),(26,.int .i64 c.length),(27,.int .i64 (k:Nat))]) (fun k H' nx'=>k≤c.length∧(∃C,H'=aq H nx C∧C.length=c.flatten.length*2∧C.take ((c.take k).flatten.length*2)=cX (c.take k).flatten)∧nx'=nx+1) (fun k=>c.length-k) 0 ⟨by omega,⟨_,rfl,F9 _,rfl⟩,rfl⟩ (by simp (disch:=omega) only[agr,ZG,reduceEqDiff,↓reduceIte,List.take_zero,List.flatten_nil,fi]) ?_;rintro k _ _ ⟨hk,⟨C,rfl,h1,h2⟩,rfl⟩;by_cases hk2:k<c.length
 rotate_left
 ·have ek:c.take k=c:=fv (by omega);rw[ek] at h2 ⊢;rw[fv (by omega)] at h2;subst h2;refine wnY and_self ?_;exact⟨rfl,rfl,rfl⟩
 have ix:=dB hk2;have hle2:=hle (k+1);have e:=wE hk2;rw[e,c7] at hle2;have hcl:=gH (c.getD k default);have hcp:=gH (c.take k).flatten;generalize c.getD k default=s at *;refine wnY @ix ?_;refine IA (b:=nx) (N:=c.flatten.length*2) (len:=(c.take k).flatten.length) (n:=s.length) (C:=C) rfl ev0 ag h1 ev0 uQ (kj _) (by rw[hcl]) (by omega) (by omega) (by omega) (by omega) (by omega) fun C2 c1 c2=>?_;refine wnY and_self ?_;refine⟨k+1,by omega,⟨by omega,⟨_,a9 _ _ _ _,c1,?_⟩,rfl⟩,by simp (disch:=omega) only[agr,ZG,reduceEqDiff,↓reduceIte,e,c7]⟩;rw[e,mG,c7,←h2];exact c2
theorem M5{P:Program}{T:Tm}{H S:Hp}{nx n:Nat}{K:SP}{l:List (Op2×Nat)}{d:Option Nat}{i:Ins}{t:Nat}{w:Bool}(h:T t=.bool w)(k:ba P S ((⟨d,none,i⟩,n)::l) T H nx K):ba P S ((⟨d,some (t,w),i⟩,n)::l) T H nx K:=by
 have e:g2 T (some (t,w))=some true:=by simp[g2,h]
 cases n with
 |zero=>show aS (g2 T (some (t,w))) _ _;rw[e];exact k
 |succ n=>show aS (g2 T (some (t,w))) _ _;rw[e];exact k
theorem Cq(x y:Spx)(h:0<(x++y).length)(hl:(x++y).length≤1000000):PureF Tryz.prog 141 [aj [x,y]] (az (x++y)):=by
 refine PureF.of_fn ?_;have e:[x,y].flatten=x++y:=by simp
 have hc:=Di [x,y] (by rw[e];exact h) (by rw[e];exact hl) (by simp) b7 0;rw[e] at hc;refine Abs.Fn.mono hc ?_;rintro _ _ _ ⟨rfl,rfl,rfl⟩;exact rq (Row.box _ (x++y).length (cX (x++y)) ag (gH _))
theorem uU(s:Spx)(H:Hp)(nx:Nat):Abs.Fn Tryz.prog 129 [az s] H nx fun r H' nx'=>r=.func 154 [.ptr nx 1 0]∧H'=aq H nx [az s]∧nx'=nx+1:=by
 refine fO Ju ?_;simp only[KZ,aH];refine wnY (aI @aW @aJ) ?_;exact⟨rfl,rfl,rfl⟩
theorem DA{H:Hp}{b:Nat}{x y:Spx}(h:H b=some [az x,az y]):aM H [.msl b 2 1 0 2] [aj [x,y]]:=
 ah (uG (l:=[az x,az y]) h rfl rfl (by
  intro z hz;simp only[cQ,List.not_mem_nil,or_false] at hz;rcases hz with rfl|rfl
  ·exact⟨rfl,cI _⟩
  ·exact⟨rfl,cI _⟩)) ao
theorem vR{s:Spx}(h:2≤s.length):(fcs s).length=s.length:=by
 unfold fcs;rw[if_neg (by omega),rA]
theorem Bb{s:Spx}{i:Nat}(h:2≤s.length)(hi:i<s.length):(fcs s).getD i default=s.take i++s.drop (i+1):=by
 unfold fcs;rw[if_neg (by omega),Bi hi]
theorem uI{y sb:Nat}{s:Spx}{H:Hp}{nx:Nat}(hs:s.length≤1000)(I:List Spx→Hp→Nat→Prop)
    (hp:∀D H nx,I D H nx→H sb=some [az s])
    (stab:∀D H H' nx1 nx',I D H nx1→nx1≤nx'→(∀i,i<nx1→H' i=H i)→I D H' nx')
    (rnd:∀D f H nx1,I D H nx1→D.length<(fcs s).length→f=(fcs s).getD D.length default→D=(fcs s).take D.length→Yl Tryz.prog y [az f] H nx1 fun r H' nx'=>r=.bool true∧I (D++[f]) H' nx')
    (h0:I [] H nx):
    Abs.Fn Tryz.prog 154 [.yld y,.ptr sb 1 0] H nx fun _ H' nx'=>I (fcs s) H' nx':=by
 refine fO JF ?_;simp only[JN,aH];have g1:=hp _ _ _ h0;refine wnY (zI4 @g1 @aW @aJ @an) ?_;by_cases h2:2≤s.length
 rotate_left
 ·have e:fcs s=[]:=by unfold fcs;rw[if_pos (by omega)]
  rw[e];refine bQ (X:=Nat) (fun k=>[(0,.yld y),(1,.ptr sb 1 0),(5,.int .i64 s.length),(6,.int .i64 k)]) (fun k H' nx'=>k≤s.length∧I [] H' nx') (fun k=>s.length-k) 0 ⟨bF _,h0⟩ ag0 ?_;rintro k H1 nx1 ⟨h1,hI⟩;have q1:=hp _ _ _ hI;by_cases hk:k<s.length
  rotate_left
  ·refine wnY and_self ?_;exact hI
  have z:decide ((1:Int)<s.length)=false:=a6 (by omega);refine wkY (zI5 @q1 @aW @aJ @an @z) ?_;exact⟨k+1,by omega,⟨by omega,hI⟩,ag0⟩
 have z:decide ((1:Int)<s.length)=true:=aR (by omega);have hfl:=vR h2;have hfg:=fun{i:Nat}(hi:i<s.length)=>Bb (i:=i) h2 hi;refine bQ (X:=Nat) (fun k=>[(0,.yld y),(1,.ptr sb 1 0),(5,.int .i64 s.length),(6,.int .i64 k)]) (fun k H' nx'=>k≤s.length∧I ((fcs s).take k) H' nx') (fun k=>s.length-k) 0 ⟨bF _,h0⟩ ag0 ?_;rintro k H1 nx1 ⟨h1,hI⟩;have q1:=hp _ _ _ hI;by_cases hk:k<s.length
 rotate_left
 ·rw[fv (by omega)] at hI;refine wnY and_self ?_;exact hI
 have a1:ln 2 (az s) none (some (.int .i64 (k:Int))) none=some (az (s.take k)):=wM (by omega);have a2:ln 2 (az s) (some (.int .i64 ((k:Int)+1))) none none=some (az (s.drop (k+1))):=sL (k:=k+1) (by omega);have hc:=Cq (s.take k) (s.drop (k+1)) (by rw[c7,fy,wL];omega) (by rw[c7,fy,wL];omega);have hr:=rnd ((fcs s).take k) ((fcs s).getD k default) (aq H1 nx1 [az (s.take k),az (s.drop (k+1))]) (nx1+1) (stab _ _ _ _ _ hI (by omega) fun i hi=>ac (by omega)) (by rw[fy];omega) (by rw[fy,Nat.min_eq_left (by omega)]) (by rw[fy,Nat.min_eq_left (by omega)]);rw[←bS (by omega),hfg hk] at hr;refine wnY (zI7 @q1 @aW @aJ @an @z @a1 @a2) ?_;refine w_mix1 sb q1 fun S0 hS1 hsub=>?_;simp only[fQ,List.map_nil,List.getD_cons_succ,List.getD_cons_zero];have zz:=aI @hS1 (aI @aW (aI @aJ (aI @an (aI @z (aI @a1 @a2)))));repeat' (first|apply a_n|refine zO ?_|refine nvY ?_|apply iW|refine blY ?_|fail)
 repeat (refine M5 ev0 ?_;skip)
 refine fJ ev0 ev0 hc (DA (by rw[ag])) ?_
 repeat' (first|apply a_n|refine zO ?_|apply iW|fail)
 refine wW ev0 ev0 (Yl.mono hr ?_);rintro v H3 nx3 ⟨rfl,e1⟩;refine wnY and_self ?_;exact⟨k+1,by omega,⟨by omega,e1⟩,ag0⟩
end Go.Proofs.YtekdaafnjdlenaaGreat
namespace Go.Proofs.YtekdaafnjdlenaaGreat
open Go Go.Abs
open Nat (reduceEqDiff reduceAdd reduceLeDiff)
def gP:Nat→Spx→List Int
 |0,_=>[]
 |n+1,[]=>0::0::gP n []
 |n+1,v::l=>v.color::v.label::gP n l
theorem pq:∀{n:Nat}{s:Spx},(gP n s).length=2*n
 |0,_=>rfl
 |n+1,[]=>by show(gP n []).length+1+1=_;rw[pq];omega
 |n+1,v::l=>by show(gP n l).length+1+1=_;rw[pq];omega
theorem zK:∀{n:Nat}{s t:Spx},s.length=t.length→t.length≤n→gP n s=gP n t→s=t
 |_,[],[],_,_,_=>rfl
 |_,[],w::m,h,_,_=>absurd h (by simp)
 |_,v::l,[],h,_,_=>absurd h (by simp)
 |0,v::l,w::m,_,h,_=>absurd h (by simp)
 |n+1,v::l,w::m,hl,hm,e=>by
  obtain⟨e1,e2⟩:=List.cons.inj e;obtain⟨e2,e3⟩:=List.cons.inj e2;have:=zK (n:=n) (by simpa using hl) (by simpa using hm) e3;rw[this,n9.2 ⟨e1,e2⟩]
abbrev z16:List AV:=[.int .i64 0,.int .i64 0,.int .i64 0,.int .i64 0,.int .i64 0,.int .i64 0,.int .i64 0,.int .i64 0,.int .i64 0,.int .i64 0,.int .i64 0,.int .i64 0,.int .i64 0,.int .i64 0,.int .i64 0,.int .i64 0]
theorem Ii:z16=(gP 8 []).map (AV.int .i64):=rfl
theorem xT:∀{n:Nat}{s:Spx},s.length≤n→cX s++((gP n []).map (AV.int .i64)).drop (s.length*2)=(gP n s).map (AV.int .i64)
 |n,[],_=>by simp[cX]
 |0,_::_,h=>absurd h (by simp)
 |n+1,v::l,h=>by
  have:=xT (n:=n) (s:=l) (by simp at h;omega);show [AV.int .i64 v.color,AV.int .i64 v.label]++cX l++_=AV.int .i64 v.color::AV.int .i64 v.label::(gP n l).map (AV.int .i64);rw[←this,bK,show(l.length+1)*2=l.length*2+1+1 by omega];rfl
def kZ(s:Spx):K16:=⟨gP 8 s,by rw[pq]⟩
theorem DL{s t:Spx}(h:s.length=t.length)(h8:t.length≤8)(e:kZ s=kZ t):s=t:=zK h h8 (congrArg Subtype.val e)
theorem Fm{O:List Spx}{f:Spx}{n:Nat}(hn:n≤8)(hO:∀s∈O,s.length=n)(hf:f.length=n):kZ f∈O.map kZ↔f∈O:=by
 rw[bG];exact⟨fun⟨s,h1,h2⟩=>by rw[←DL (by rw[hO s h1,hf]) (by omega) h2];exact h1,fun h=>⟨f,h,rfl⟩⟩
theorem Ei{f:Spx}{n:Nat}(hn:n≤8)(hf:f.length=n):∀{O:List Spx},(∀s∈O,s.length=n)→(O.map kZ).idxOf (kZ f)=O.idxOf f
 |[],_=>rfl
 |g::O,hO=>by
  have ih:=Ei hn hf (O:=O) fun s hs=>hO s (d8 _ hs);have hg:=hO g di;rw[fQ,List.idxOf_cons,List.idxOf_cons,ih]
  have e:(kZ g==kZ f)=(g==f):=by
   rw[Bool.eq_iff_iff,beq_iff_eq,beq_iff_eq];exact⟨fun h=>DL (by rw[hg,hf]) (by omega) h,fun h=>by rw[h]⟩
  rw[e]
structure BOk(H:Hp)(n:Nat)(c:Spx→Nat)(O:List Spx)(bs:List Nat)(ck:Nat):Prop where
 box:H 0=some [.bmap ((O.map kZ).map eK) (O.map az) bs ck]
 len:bs.length=O.length
 asc:bs.Pairwise (· < ·)
 below:∀s∈bs,s<ck
 nd:O.Nodup
 all:∀f∈O,f.length=n
 odd:∀f,f∈O↔c f%2=1
theorem BOk.same{H H':Hp}{n:Nat}{c c':Spx→Nat}{O:List Spx}{bs:List Nat}{ck:Nat}(h:BOk H n c O bs ck)(hs:H' 0=H 0)(hc:∀f,c' f%2=c f%2):BOk H' n c' O bs ck:=
 ⟨hs.trans h.box,h.len,h.asc,h.below,h.nd,h.all,fun f=>by rw[hc];exact h.odd f⟩
theorem BOk.put{H H':Hp}{n:Nat}{c c':Spx→Nat}{O:List Spx}{bs:List Nat}{ck:Nat}{f:Spx}(h:BOk H n c O bs ck)(hf:f∉O)(hl:f.length=n)(hH:H' 0=some [.bmap ((O.map kZ).map eK++[eK (kZ f)]) (O.map az++[az f]) (bs++[ck]) (ck+1)])(hc:∀g,c' g=c g+if g=f then 1 else 0):BOk H' n c' (O++[f]) (bs++[ck]) (ck+1):=by
 refine⟨by rw[hH];simp,by rw[c7,c7,h.len];rfl,?_,fun s hs=>?_,?_,fun g hg=>?_,fun g=>?_⟩
 ·exact List.pairwise_append.2 ⟨h.asc,List.pairwise_singleton _ _,fun a ha b hb=>by rw[cU.1 hb];exact h.below a ha⟩
 ·rcases eA.1 hs with q|q
  ·have:=h.below s q;omega
  ·rw[cU.1 q];omega
 ·exact xO.2 ⟨h.nd,by simp,fun a ha b hb e=>by rw[e,cU.1 hb] at ha;exact hf ha⟩
 ·rcases eA.1 hg with q|q
  ·exact h.all g q
  ·rw[cU.1 q];exact hl
 ·rw[eA,cU,h.odd,hc];by_cases e:g=f
  ·subst e;have:¬c g%2=1:=fun q=>hf ((h.odd g).2 q);rw[if_pos rfl];exact⟨fun _=>by omega,fun _=>.inr rfl⟩
  ·rw[if_neg e];simp[e]
theorem gQ{α β:Type}{f:α→β}:∀{l:List α}{i:Nat},(l.map f).eraseIdx i=(l.eraseIdx i).map f
 |[],_=>rfl
 |a::l,0=>rfl
 |a::l,i+1=>by show f a::(l.map f).eraseIdx i=f a::(l.eraseIdx i).map f;rw[gQ]
theorem BOk.del{H H':Hp}{n:Nat}{c c':Spx→Nat}{O:List Spx}{bs:List Nat}{ck i:Nat}{f:Spx}(h:BOk H n c O bs ck)(hf:f∈O)(hi:O.idxOf f=i)(hH:H' 0=some [.bmap (((O.map kZ).map eK).eraseIdx i) ((O.map az).eraseIdx i) (bs.eraseIdx i) ck])(hc:∀g,c' g=c g+if g=f then 1 else 0):BOk H' n c' (O.erase f) (bs.eraseIdx i) ck:=by
 have hil:i<O.length:=by rw[←hi];exact oo.2 hf
 have he:O.erase f=O.eraseIdx i:=List.erase_eq_eraseIdx_of_idxOf hi;refine⟨?_,?_,h.asc.sublist (List.eraseIdx_sublist _ _),fun s hs=>h.below s ((List.eraseIdx_sublist _ _).subset hs),h.nd.erase _,fun g hg=>h.all g (List.mem_of_mem_erase hg),fun g=>?_⟩
 ·rw[hH,he];rw[gQ,gQ,gQ]
 ·rw[he,List.length_eraseIdx_of_lt hil,List.length_eraseIdx_of_lt (by rw[h.len];exact hil),h.len]
 ·rw[h.nd.mem_erase_iff,h.odd,hc];by_cases e:g=f
  ·subst e;have:=(h.odd g).1 hf;rw[if_pos rfl];constructor
   ·exact fun q=>absurd rfl q.1
   ·intro q;omega
  ·rw[if_neg e];simp[e]
theorem l7{α:Type}[DecidableEq α]{a b:List α}(h:a.Nodup)(hs:∀x∈a,x∈b):a.length≤b.length:=yD h hs
theorem Da{l:List Spx}{s f:Spx}:nT (l++[s]) f=nT l f+(bi s).count f:=by unfold nT;simp
theorem Aw{D:List Spx}{f g:Spx}{m:Nat}:m+(D++[f]).count g=m+D.count g+if g=f then 1 else 0:=by
 rw[List.count_append,List.count_singleton,pd]
 congr 2
 by_cases e:g=f
 ·subst e;simp
 ·rw[if_neg e,if_neg];simp only[beq_iff_eq];exact fun h=>e h.symm
theorem uW{O:List Spx}{i:Nat}(h:i<O.length):(O.map az).getD i .undef=az (O.getD i default):=by simp[List.getD,h]
attribute [local irreducible] aK ak bf a5 aO aQ aC aS a7 bj Go.Abs.Fn aZ Go.Abs.Pure au aM Yl
theorem Fr{n:Nat}{c:Spx→Nat}{O:List Spx}{bs:List Nat}{ck:Nat}{f:Spx}{H:Hp}(hn:n≤8)(h:BOk H n c O bs ck)(hf:f.length=n):
    c8 (.st [.int,.int,.int,.int,.int,.int,.int,.int,.int,.int,.int,.int,.int,.int,.int,.int]) (eK (kZ f)) ((O.map kZ).map eK)=some (if f∈O then some (O.idxOf f) else none):=by
 rw[FS,Ei hn hf h.all];by_cases e:f∈O
 ·rw[if_pos e,if_pos ((Fm hn h.all hf).2 e)]
 ·rw[if_neg e,if_neg fun q=>e ((Fm hn h.all hf).1 q)]
set_option maxHeartbeats 1000000 in
theorem rV(a:List Spx)(n:Nat)(hn:n≤8)(ha:a.length≤4096)(hv:∀s∈a,b0 cz s)(hl:∀s∈a,s.length=n+1∨s.length<2)(h8:∀s∈a,s.length≤8):pU 77 [aj a] (aj (cq a)):=by
 refine pO MW ?_;simp only[b77,aH];refine dD ?_
 repeat' (first|apply a_n|refine zO ?_|refine vY ?_|fail)
 refine dD ?_;refine wnY and_self ?_;refine HV ?_;refine ry (cs:=[.nilm]) rfl rfl rfl ?_
 repeat' (first|apply a_n|refine zO ?_|refine stY ?_|fail)
 refine co (fun T H nx=>T 3=.ptr 1 1 0∧2≤nx∧H 1=some [.mp 0]∧∃O bs ck,BOk H n (nT a) O bs ck) ?_ ?_
 ·refine wnY @ae ?_;refine lpI (X:=Nat) (fun k=>[(3,.ptr 1 1 0),(14,aj a),(15,.int .i64 a.length),(16,.int .i64 k)]) (fun k H nx=>k≤a.length∧2≤nx∧H 1=some [.mp 0]∧∃O bs ck,BOk H n (nT (a.take k)) O bs ck) (fun k=>a.length-k) 0 ⟨bF _,aP _,by rw[ag];rfl,[],[],0,⟨by rw[ac (by omega),ac (by omega),ag];rfl,rfl,pt,fun s h=>(by cases h),List.nodup_nil,fun s h=>(by cases h),fun f=>⟨fun h=>(by cases h),fun h=>absurd h (by rw[List.take_zero];exact(by decide:¬(0:Nat)%2=1))⟩⟩⟩ ?_;rintro k H nx ⟨h1,h2,h3,O,bs,ck,h4⟩;by_cases hk:k<a.length
  rotate_left
  ·rw[fv (by omega)] at h4;refine wnY and_self ?_;exact⟨rfl,h2,h3,O,bs,ck,h4⟩
  have ix:=dB hk;have hts:=bS hk;have hvs:=hv _ (ay hk);have hls:=hl _ (ay hk);have h8s:=h8 _ (ay hk);generalize a.getD k default=s at *;refine wnY @ix ?_;refine bd ev0 ev0 (uU s H nx) ?_;rintro _ H1 nx1 ⟨rfl,rfl,rfl⟩;refine wnY and_self ?_;refine mU (nx+1) (nx+2) rfl rfl ev0 (fun c0 cj hy=>?_);refine Abs.Fn.mono (uI (nx:=nx+2) (y:=nx+1) (sb:=nx) (s:=s) (by omega) (fun D H' nx'=>nx+2≤nx'∧H' nx=some [az s]∧H' (nx+1)=some [c0]∧H' 1=some [.mp 0]∧∃O bs ck,BOk H' n (fun f=>nT (a.take k) f+D.count f) O bs ck) ?_ ?_ ?_ ?_) ?_
  ·rintro D H' nx' ⟨g1,g2,g3,g4⟩;exact g2
  ·rintro D H' H'' n1 n2 ⟨g1,g2,g3,g4,O,bs,ck,g5⟩ hle hsm;exact⟨by omega,(hsm _ (by omega)).trans g2,(hsm _ (by omega)).trans g3,(hsm _ (by omega)).trans g4,O,bs,ck,g5.same (hsm _ (by omega)) fun _=>rfl⟩
  ·rintro D f H' nx' ⟨g1,g2,g3,g4,O,bs,ck,g5⟩ hlt hfe hDe;refine hy _ _ _ _ g3 rfl ?_;clear hy
   have h2s:2≤s.length:=Nat.le_of_not_lt fun h=>by
    have:fcs s=[]:=by unfold fcs;rw[if_pos h]
    rw[this] at hlt;simp at hlt
   have hfl:f.length=n:=by
    rw[hfe,Bb h2s (by rw[vR h2s] at hlt;exact hlt),c7,fy,wL];rw[vR h2s] at hlt;omega
   clear hfe hDe;refine wnY and_self ?_;refine⟨g3,?_⟩;have hmf:=Fr hn g5 hfl;have q0:=(cC (H:=H') (b:=nx+1) (x:=0) (by omega)).trans g5.box;have q1:=(cC (H:=H') (b:=nx+1) (x:=1) (by omega)).trans g4;have q2:=(cC (H:=H') (b:=nx+1) (x:=nx) (by omega)).trans g2;generalize de H' (nx+1)=H2 at *;refine wnY and_self ?_;generalize hH3:aq H2 nx' z16=H3;have p0:H3 0=H2 0:=by rw[←hH3];exact ac (by omega)
   have p1:H3 1=H2 1:=by rw[←hH3];exact ac (by omega)
   have p2:H3 nx=H2 nx:=by rw[←hH3];exact ac (by omega)
   have p3:H3 nx'=some z16:=by rw[←hH3];exact ag
   clear hH3;refine HE rfl p3 rfl rfl ?_;refine wnY and_self ?_;refine Hx (n:=f.length) (H':=aq H3 nx' ((gP 8 f).map (AV.int .i64))) ?_ ?_
   ·((try simp only[bX,ZA,reduceEqDiff,↓reduceIte,reduceAdd,reduceLeDiff]);(try with_reducible rfl))
    have hnn:fu (az f)=some f.length:=by unfold az iO;simp[fu]
    have htr:uN f.length (az f)=az f:=by unfold az iO;simp[uN];exact fv (by simp)
    have hmin:min f.length 8=f.length:=Nat.min_eq_left (by omega);have hal:fu (.msl nx' 16 2 0 8)=some 8:=rfl
    have hlp:bH z16 0 (cX f)=(gP 8 f).map (AV.int .i64):=by
     rw[←xT (n:=8) (s:=f) (by omega),Ii];simp only[bH,List.take_zero,List.nil_append,ce,gH]
    by_cases hf0:f.length=0
    ·obtain rfl:=fw.1 hf0;have e0:(gP 8 []).map (AV.int .i64)=z16:=rfl;rw[e0,←Ca p3];simp only[sC,hal,hnn,hmin];rfl
    ·simp only[sC,hal,hnn,hmin,if_neg hf0,p3,htr,uQ];rw[if_pos (by refine⟨?_,?_,?_,?_⟩<;>first|rfl|trivial|omega|exact kj f),hlp]
   have hl16:((gP 8 f).map (AV.int .i64)).length=16:=by rw[bw,pq]
   have ht:((gP 8 f).map (AV.int .i64)).take 16=(gP 8 f).map (AV.int .i64):=fv (by omega);have r0:=(ac (H:=H3) (b:=nx') (x:=0) (cs:=(gP 8 f).map (AV.int .i64)) (by omega)).trans (p0.trans q0);have r1:=(ac (H:=H3) (b:=nx') (x:=1) (cs:=(gP 8 f).map (AV.int .i64)) (by omega)).trans (p1.trans q1);have r2:=(ac (H:=H3) (b:=nx') (x:=nx) (cs:=(gP 8 f).map (AV.int .i64)) (by omega)).trans (p2.trans q2);have r3:aq H3 nx' ((gP 8 f).map (AV.int .i64)) nx'=some ((gP 8 f).map (AV.int .i64)):=ag;generalize aq H3 nx' ((gP 8 f).map (AV.int .i64))=H4 at *;have hek:eK (kZ f)=.agg ((gP 8 f).map (AV.int .i64)):=rfl;have hkf:=BC (kZ f);rw[hek] at hmf hkf;have hcnt:∀g,nT (a.take k) g+(D++[f]).count g=nT (a.take k) g+D.count g+if g=f then 1 else 0:=fun g=>Aw
   by_cases hf:f∈O
   ·rw[if_pos hf] at hmf;have hil:O.idxOf f<O.length:=oo.2 hf
    have hgv:mget .esl true (some (O.idxOf f)) (O.map az)=.tup [az (O.getD (O.idxOf f) default),.bool true]:=by
     rw[←uW hil];rfl
    generalize hKK:(gP 8 f).map (AV.int .i64)=KK at *;refine wnY (zI4 @r1 @r3 @hl16 @ht) ?_;refine Bg ev0 r0 ev0 hkf hmf ?_;rw[hgv];refine wnY (zI4 @r1 @r3 @hl16 @ht) ?_;refine Ix ev0 r0 ev0 hkf hmf ?_;refine wnY and_self ?_;exact⟨rfl,by omega,by rw[ac (by omega),ac (by omega)];exact r2,ag,by rw[ac (by omega),ac (by omega)];exact r1,O.erase f,bs.eraseIdx (O.idxOf f),ck,g5.del hf rfl (by rw[ac (by omega),ag];rfl) hcnt⟩
   ·rw[if_neg hf] at hmf;have hgv:mget .esl true none (O.map az)=.tup [.esl,.bool false]:=rfl;generalize hKK:(gP 8 f).map (AV.int .i64)=KK at *;refine wnY (zI4 @r1 @r3 @hl16 @ht) ?_;refine Bg ev0 r0 ev0 hkf hmf ?_;rw[hgv];refine wnY (zI4 @r1 @r3 @hl16 @ht) ?_;refine Hb ev0 r0 ev0 ev0 hkf hmf ?_;refine wnY and_self ?_;exact⟨rfl,by omega,by rw[ac (by omega),ac (by omega)];exact r2,ag,by rw[ac (by omega),ac (by omega)];exact r1,O++[f],bs++[ck],ck+1,g5.put hf hfl (by rw[ac (by omega),ag,hek];rfl) hcnt⟩
  ·exact⟨aP _,by rw[ac (by omega),ag],ag,by rw[ac (by omega),ac (by omega)];exact h3,O,bs,ck,h4.same (by rw[ac (by omega),ac (by omega)]) fun f=>by simp⟩
  ·rintro r H' nx' ⟨g1,g2,g3,g4,O,bs,ck,g5⟩;refine .inl ⟨g3,?_⟩;refine wnY and_self ?_;exact⟨k+1,by omega,⟨by omega,by omega,by rw[cC (by omega)];exact g4,O,bs,ck,g5.same (cC (by omega)) fun f=>by rw[hts,Da,oq.count_eq]⟩,ag0⟩
 rintro T H nx ⟨t3,h2,h3,O,bs,ck,h4⟩
 have hO70:O.length≤300000:=by
  have he:=kr hv;have h5:O.length≤(cq a).length:=l7 h4.nd fun f hf=>(he.2 f).2 ((h4.odd f).1 hf);have:=vK h8;omega
 refine wnY (aI @t3 @h3) ?_;refine GI ev0 h4.box ?_;refine wnY and_self ?_;have hbn:bs.Nodup:=xX (fun{x y}(h:x<y) e=>by omega) h4.asc;refine lpI (X:=List Nat×List Spx×AV) (fun x=>[(10,x.2.2),(40,.itr nx)]) (fun x H' nx'=>H' nx=some [.biter 0 ck x.1]∧nx<nx'∧BOk H' n (nT a) O bs ck∧x.1.Nodup∧(∀s∈x.1,s∈bs)∧x.2.1=x.1.map (fun s=>O.getD (bs.idxOf s) default)∧Row H' 1 x.2.2 (x.2.1.map az)∧∀b,bL x.2.2=some b→nx<b∧b<nx') (fun x=>bs.length-x.1.length) ([],[],.esl) ⟨ag,ud _,h4.same (ac (by omega)) fun _=>rfl,List.nodup_nil,fun s h=>(by cases h),rfl,Row.nil,fun b h=>(by cases h)⟩ ?_;rintro⟨seen,D,sv⟩ H1 nx1 ⟨hit,hnx,k4,hsn,hsb,hD,hrow,hbd⟩;dsimp only at hit hsn hsb hD hrow hbd ⊢;have hsl:seen.length≤bs.length:=l7 hsn hsb;have hDl:D.length=seen.length:=by rw[hD,bw]
 have hbl:=k4.len;refine wnY and_self ?_;refine Gv ev0 hit k4.box (fun i s hi hns=>?_) (fun hall=>?_)
 ·refine wnY and_self ?_;refine F0 (i:=i) (s:=s) ev0 ag (by rw[ac (by omega)];exact k4.box) (by simp) hi ?_;obtain⟨hil,his⟩:=bN.1 hi;have hgx:=uW (O:=O) (i:=i) (by omega)
  have hidx:bs.idxOf s=i:=by
   have h5:=oo.2 (show s∈bs by rw[←his];exact nj hil);have h6:bs[bs.idxOf s]=bs[i]:=by rw[List.getElem_idxOf h5,his]
   exact(List.getElem_inj hbn).1 h6
  have hsnd:(seen++[s]).Nodup:=xO.2 ⟨hsn,by simp,fun x hx y hy e=>by rw[e,cU.1 hy] at hx;exact hns hx⟩
  have hssb:∀x∈seen++[s],x∈bs:=fun x hx=>by
   rcases eA.1 hx with q|q
   ·exact hsb x q
   ·rw[cU.1 q,←his];exact nj hil
  have hsl2:=l7 hsnd hssb;rw[c7,List.length_singleton] at hsl2;refine wnY (zI3 @hgx @aW @aJ) ?_;refine eR (hrow.same fun b hb=>?_) ?_
  ·have:=hbd b hb;rw[ac (by omega),ac (by omega)]
  rintro s2 H2 nx2 hr2 i1 i2 i3 i4;have lo:∀x,x≤nx→H2 x=aq H1 nx [.biter 0 ck (seen++[s])] x:=fun x hx=>(i3 x (by omega) (fun h=>by have:=hbd x h;omega)).trans (ac (by omega));refine wnY and_self ?_;refine⟨(seen++[s],D++[O.getD i default],s2),by dsimp only;rw[c7,List.length_singleton];omega,⟨(lo nx (aP _)).trans ag,by omega,k4.same ((lo 0 (by omega)).trans (ac (by omega))) fun _=>rfl,hsnd,hssb,?_,?_,fun b hb=>?_⟩,ag0⟩
  ·dsimp only;rw[hD,cL,List.map_singleton,hidx]
  ·dsimp only;rw[cL];exact hr2
  ·rcases i4 b hb with h|h
   ·have:=hbd b h;omega
   ·omega
 ·have hperm:seen.Perm bs:=(List.perm_ext_iff_of_nodup hsn hbn).2 fun x=>⟨hsb x,hall x⟩
  have hDO:D.Perm O:=by
   rw[hD];refine(hperm.map _).trans (List.Perm.of_eq ?_);refine List.ext_getElem (by rw[bw];exact hbl) fun j g1 g2=>?_;rw[bw] at g1
   have h5:bs.idxOf bs[j]=j:=by
    have h5:=oo.2 (nj g1);have h6:bs[bs.idxOf bs[j]]=bs[j]:=List.getElem_idxOf h5;exact(List.getElem_inj hbn).1 h6
   rw[List.getElem_map,h5];simp[List.getD,g2]
  have hDn:D.Nodup:=hDO.nodup_iff.2 k4.nd;have hDm:∀s,s∈D↔s∈cq a:=fun s=>by rw[hDO.mem_iff,k4.odd,(kr hv).2]
  have hfin:=F8 jt (Df hv)
  have hsort:Abs.Fn Tryz.prog 130 [sv,.func 70 []] H1 nx1 fun _ H' nx'=>Row H' 1 sv ((cq a).map az):=by
   generalize hcs:D.map az=cs at hrow;cases hrow with
   |nil=>
    have hD0:D=[]:=List.map_eq_nil_iff.1 hcs;refine Abs.Fn.mono (oZ rfl) ?_;rintro _ _ _ ⟨rfl,rfl⟩
    have:cq a=[]:=by
     rw[xu];intro s h;have:=(hDm s).2 h;rw[hD0] at this;cases this
    rw[this];exact Row.nil
   |box b len cs k1 k2=>
    obtain rfl:len=D.length:=by rw[←hcs,bw] at k2;omega
    have hb:=hbd b rfl;subst hcs;by_cases h0:D.length=0
    ·have hD0:D=[]:=fw.1 h0
     have he:cq a=[]:=by
      rw[xu];intro s h;have:=(hDm s).2 h;rw[hD0] at this;cases this
     have hrw:Row H1 1 (.msl b (D.length*1) 1 0 D.length) ((cq a).map az):=by
      have:=Row.box (H:=H1) (sz:=1) b D.length _ k1 (by rw[bw,Nat.mul_one]);rw[he];rwa [hD0] at this ⊢
     refine Abs.Fn.mono (oZ (by rw[h0];rfl)) ?_;rintro _ _ _ ⟨_,e⟩;rw[e];exact hrw
    ·have hg:∀s∈D,Shn s:=fun s h=>show s.length≤_ by have:=k4.all s (hDO.mem_iff.1 h);omega
     have hsf:=Bc Jo (L:=D) (b:=b) (nx:=nx1) (n:=D.length) k1 hb.2 rfl (by omega) hg (by omega);rw[Nat.mul_one];refine Abs.Fn.mono hsf ?_;rintro _ H' nx' ⟨L',ps,p1,p2⟩;have hlen:=p1.length_eq;have:=qR p1 (by rw[hlen];exact p2) hDn hDm;rw[hfin] at this;rw[←this,←hlen];have:=Row.box (H:=H') (sz:=1) b L'.length (L'.map az) ps.at_ (by simp)
     rwa [Nat.mul_one] at this
  refine wnY and_self ?_;refine bd ev0 ev0 hsort ?_;rintro r H' nx' hr;refine wnY and_self ?_;exact gb hr
end Go.Proofs.YtekdaafnjdlenaaGreat
namespace Go.Proofs.YtekdaafnjdlenaaGreat
open Go Go.Abs
theorem Cp{s f:Spx}(hs:bR s=0)(hf:f∈bi s):bR f=0:=by
 obtain⟨h1,h2,h3⟩:=ja.1 hf;obtain⟨p1,p2,p3,p4⟩:=ca hs;exact yl ⟨by omega,by omega⟩ (p3.sublist h2) fun v hv=>p4 v (h2.subset hv)
theorem pN{a:List Spx}(ha:∀s∈a,bR s=0):∀f∈cq a,bR f=0:=fun f hf=>by
 obtain⟨s,h1,h2⟩:=tC (sg ha) hf;exact Cp (ha s h1) h2
theorem Ar{a o:List Spx}{k:Nat}(hk:k<a.length):jg (a.take (k+1)) o=iM be (jg (a.take k) o) (bi (a.getD k default)):=by
 rw[bS hk];unfold jg;rw[List.foldl_append];rfl
theorem yw{a:List Spx}(h:∀s∈a,bR s=0):∀s∈a,s.length≤8:=fun s hs=>(ca (h s hs)).2.1
def jK(a:List Spx):List Spx×Int:=if hJ a≠0 then([],hJ a) else if 4096<(cq a).length then([],5) else(cq a,0)
def G7(a:List Spx):Bool×Int:=if hJ a≠0 then(false,hJ a) else(decide (cq a=[]),0)
attribute [local irreducible] aK ak bf a5 aO aQ aC aS a7 bj Go.Abs.Fn aZ Go.Abs.Pure au aM Yl
theorem yO(s:Spx)(hs:s.length≤8):pU 66 [az s] (aj (bi s)):=by
 refine pO Nn ?_;simp only[b66,aH];unfold bi;by_cases h:s.length<2
 ·have z:decide ((s.length:Int)<2)=true:=aR (by omega);rw[if_pos h];refine wnY (aI @an @z) ?_;exact .eslsl 1
 ·have z:decide ((s.length:Int)<2)=false:=a6 (by omega);rw[if_neg h];have hs1:=r7 (s.length-1) s (by omega) hs;rw[show((s.length-1:Nat):Int)=(s.length:Int)-1 by omega] at hs1;refine wnY (aI @an @z) ?_;exact bl _ _
theorem Gi(a:List Spx)(ha:a.length≤4096)(h8:∀s∈a,s.length≤8)(hv:∀s∈a,b0 cz s):pU 61 [aj a] (aj (cq a)):=by
 refine pO My ?_;simp only[b61,aH];refine wnY @ae ?_;refine Bu (X:=Nat) (fun j=>[(0,aj a),(3,aj (jg (a.take j) [])),(4,.int .i64 j)]) (fun j H' nx'=>j≤a.length) (fun j=>a.length-j) 0 ⟨_,_,Fz.none,bF _,⟨.inl rfl,.inr (.eslsl 1),.inl rfl,trivial⟩⟩ ?_;rintro j H nx j1;by_cases hj:j<a.length
 rotate_left
 ·rw[fv (by omega)];refine wnY @ae ?_;exact bl _ _
 have ix:=dB hj;have h8s:=h8 _ (ay hj);have hvs:=hv _ (ay hj);have het:=Ar (o:=[]) hj;have hlen:=py (a.take j) [] fun s hs=>h8 s (io hs)
 have hel:∀f∈jg (a.take j) [],Shn f:=fun f hf=>by
  obtain⟨s,h1,h2⟩:=tC (a:=a.take j) (fun s hs=>hv s (io hs)) hf;have:=h8 s (io h1);have:=(ja.1 h2).2.2;show _≤_;omega
 rw[fi,fy] at hlen;generalize a.getD j default=s at *;have hf:=yO s h8s
 have hfl:(bi s).length≤70:=by
  unfold bi;split
  ·exact bF _
  ·exact mL h8s
 have hp:=IG (jg (a.take j) []) (bi s) ⟨by omega,hel⟩ ⟨by omega,fun f hf=>by have:=(ja.1 hf).2.2;show _≤_;omega⟩;rw[←het] at hp;refine wnY (aI @ae @ix) ?_;exact⟨j+1,by omega,_,_,Fz.none,by omega,kf ag0⟩
theorem uz{a:List Spx}(h:hJ a=0):pU 77 [aj a] (aj (cq a)):=by
 obtain⟨h1,h2,h3,h4⟩:=eu h;by_cases h0:a=[]
 ·subst h0;exact rV [] 0 (by omega) (by simp) (by simp) (by simp) (by simp)
 ·have hm:a.getD 0 default∈a:=ay (gy.2 h0);have h5:=ca (h2 _ hm);exact rV a ((a.getD 0 default).length-1) (by omega) h1 (sg h2) (fun s hs=>.inl (by rw[h4 s hs];omega)) (yw h2)
theorem yZ{a:List Spx}(h:hJ a=0):Shn (cq a)∧∀s∈cq a,s.length≤1000000:=by
 obtain⟨h1,h2,h3,h4⟩:=eu h;have:=vK (yw h2);exact⟨show _≤_ by omega,ze (pN h2)⟩
theorem GA(a:List Spx)(ha:ShC a):pU 29 [aj a] (.tup [aj (jK a).1,.int .i64 (jK a).2]):=by
 refine pO Mr ?_;simp only[b29,aH];have f1:=tN a ha;unfold jK;by_cases h:hJ a=0
 rotate_left
 ·have z:decide (hJ a≠0)=true:=aR h;rw[if_pos h];refine wnY @z ?_;exact dN (.eslsl _) rfl
 rw[if_neg (fun q=>q h)];have f2:=uz h;have f3:=CX (cq a) (yZ h).1 (yZ h).2;have z:decide ((0:Int)≠0)=false:=rfl;rw[h] at f1
 have hfin:(if 4096<(cq a).length then(([]:List Spx),(5:Int)) else(cq a,0))=(if 4096<(cq a).length then [] else cq a,if 4096<(cq a).length then 5 else 0):=by
  split<;>rfl
 rw[hfin];refine wnY @z ?_;exact dN (bl _).snap rfl
theorem JB(a:List Spx)(ha:ShC a):pU 33 [aj a] (.tup [.bool (G7 a).1,.int .i64 (G7 a).2]):=by
 refine pO Nl ?_;simp only[b33,aH];have f1:=tN a ha;unfold G7;by_cases h:hJ a=0
 rotate_left
 ·have z:decide (hJ a≠0)=true:=aR h;rw[if_pos h];refine wnY @z ?_;exact EG rfl rfl
 rw[if_neg (fun q=>q h)];have f2:=uz h;have z:decide ((0:Int)≠0)=false:=rfl;have z2:decide ((((cq a).length:Nat):Int)=0)=decide (cq a=[]):=decide_eq_decide.2 (by rw[←fw];omega);rw[h] at f1;refine wnY (zI3 @z @z2 @ae) ?_;exact EG rfl rfl
end Go.Proofs.YtekdaafnjdlenaaGreat
namespace Go.Proofs.YtekdaafnjdlenaaGreat
open Go Go.Abs
def on3(b1:Nat)(c1:List AV)(b2:Nat)(c2:List AV)(b3:Nat)(c3:List AV):Hp:=fun x=>if x=b1 then some c1 else if x=b2 then some c2 else if x=b3 then some c3 else none
theorem AJ{P:Program}{T:Tm}{H:Hp}{nx:Nat}(b1 b2 b3:Nat){c1 c2 c3:List AV}{K:CP}{m:Nat}{l:List Op2}{C:List (Nat×Nat)}(h1:H b1=some c1)(h2:H b2=some c2)(h3:H b3=some c3)(n1:b2≠b1)(n2:b3≠b1)(n3:b3≠b2)(k:∀S:Hp,S b1=some c1→S b2=some c2→S b3=some c3→(∀H':Hp,H' b1=some c1→H' b2=some c2→H' b3=some c3→Sub S H')→ba P S (C.map fun k=>(l.getD k.1 ⟨none,none,.dead⟩,k.2)) T H nx fun T H nx=>K .normal T H nx):aK P (.mixS m l C) T H nx K:=by
 have hsub:∀H':Hp,H' b1=some c1→H' b2=some c2→H' b3=some c3→Sub (on3 b1 c1 b2 c2 b3 c3) H':=fun H' a b c x cs h=>by
  unfold on3 at h;split at h
  ·rename_i e;rw[e,a];exact h
  split at h
  ·rename_i e;rw[e,b];exact h
  split at h
  ·rename_i e;rw[e,c];exact h
  ·cases h
 refine wz (on3 b1 c1 b2 c2 b3 c3) rfl (hsub H h1 h2 h3) (k _ ?_ ?_ ?_ hsub)
 ·unfold on3;rw[if_pos rfl]
 ·unfold on3;rw[if_neg n1,if_pos rfl]
 ·unfold on3;rw[if_neg n2,if_neg n3,if_pos rfl]
theorem w7{α:Type}{p q:Prop}[Decidable p][Decidable q](h:p↔q){a b:α}:(if p then a else b)=if q then a else b:=by
 by_cases hq:q
 ·rw[if_pos hq,if_pos (h.2 hq)]
 ·rw[if_neg hq,if_neg fun x=>hq (h.1 x)]
def DB(c:List Spx)(d:Int):List Spx×Int:=if d<0 then([],0) else dh c (d+1)
def aB(c:List Spx)(d:Int):List Spx:=if d≤0 then [] else gw c d.toNat
def uM(c:List Spx)(d:Int):(Int×List (List Int))×Int:=if aA c≠0 then((0,[]),aA c) else if d<0∨8≤d then((0,[]),2) else((((aB c (d+1)).length:Nat),dA (aB c (d+1)) (aB c d)),0)
theorem BV{c:List Spx}{d:Int}(hc:aA c=0)(h1:-1≤d)(h2:d<8):DB c d=(aB c (d+1),0):=by
 unfold DB aB dh;by_cases h:d<0
 ·rw[if_pos h,if_pos (by omega)]
 ·rw[if_neg h,if_neg (fun q=>q hc),if_neg (by omega),if_neg (by omega)]
theorem jW{c:List Spx}{d:Int}:b0 be (aB c d):=by
 unfold aB;split
 ·exact b0.nil
 ·exact Ew
theorem jS{c:List Spx}{d:Int}(hc:c.length≤50)(h:aA c=0):(aB c d).length≤3500:=by
 unfold aB;split
 ·exact bF _
 ·exact oa hc (yw (dH h).2.1)
theorem Ck{c:List Spx}{d:Int}{s:Spx}:s∈aB c d↔0<d∧s.length=d.toNat∧∃t∈c,s.Sublist t:=by
 unfold aB;split
 ·exact⟨fun h=>(by cases h),fun h=>absurd h.1 (by omega)⟩
 ·rw[xK];constructor
  ·rintro⟨t,t1,t2⟩;exact⟨by omega,(eh.1 t2).2,t,t1,(eh.1 t2).1⟩
  ·rintro⟨_,h1,t,t1,t2⟩;exact⟨t,t1,eh.2 ⟨t2,h1⟩⟩
theorem fT{c:List Spx}{d:Int}(h:aA c=0):∀s∈aB c d,bR s=0:=fun s hs=>by
 obtain⟨h1,h2,t,t1,t2⟩:=Ck.1 hs;obtain⟨p1,p2,p3,p4⟩:=ca ((dH h).2.1 t t1);have:=t2.length_le;exact yl ⟨by omega,by omega⟩ (p3.sublist t2) fun v hv=>p4 v (t2.subset hv)
attribute [local irreducible] aK ak bf a5 aO aQ aC aS a7 bj Go.Abs.Fn aZ Go.Abs.Pure au aM Yl
theorem yA(l:List Spx)(v:Spx)(hl:Shn l)(hs:∀c∈l,Shn c)(hv:Shn v)(ha:b0 be l):∃b:Nat,pU 80 [aj l,az v] (.tup [.int .i64 b,.bool (decide (v∈l))])∧(v∈l→b<l.length∧l.getD b default=v):=by
 obtain⟨b,hb,h1,h2⟩:=s0 (fun i=>be (l.getD i default) v) l.length (fun i j hij hj h=>jt.trans (eC ha hij hj) h);have hc:=Aa l v hl hs hv hb h1 h2
 have he:(decide (b<l.length)&&decide (be (l.getD b default) v=0))=decide (v∈l)∧(v∈l→b<l.length∧l.getD b default=v):=by
  by_cases hm:v∈l
  ·obtain⟨i,hi,e⟩:=jJ hm;have e':l.getD i default=v:=by simp[List.getD,hi,e]
   have hbi:b=i:=by
    rcases r8 b i with h|h|h
    ·have h3:=h2 b (aP _) (by omega);have h4:=eC ha h hi;rw[e'] at h4;omega
    ·exact h
    ·have h3:=h1 i h;rw[e',fY] at h3;omega
   subst hbi;rw[aR hi,aR hm,e',aR (fY v)];exact⟨rfl,fun _=>⟨hi,rfl⟩⟩
  ·rw[a6 hm];refine⟨?_,fun h=>absurd h hm⟩;by_cases hlt:b<l.length
   ·rw[aR hlt,Bool.true_and,a6];intro h;exact hm (by rw[←pe h];exact ay hlt)
   ·rw[a6 hlt,Bool.false_and]
 rw[he.1] at hc;refine⟨b,?_,he.2⟩;refine pO MU ?_;simp only[b80,aH];refine wnZ (zI4 @aW @aJ @ai @af) ?_;exact bC (ah (.int _ _) (ah (.bool _) ao))
theorem DH(c:List Spx)(d:Int)(hd:d≤1000)(hc:c.length≤50)(hs:∀s∈c,Shn s):pU 83 [bM c,.int .i64 d] (.tup [aj (DB c d).1,.int .i64 (DB c d).2]):=by
 refine pO MZ ?_;simp only[b83,aH];unfold DB;by_cases h:d<0
 ·have z:decide (d<0)=true:=aR h;rw[if_pos h];refine wnY (zI3 @z @ai @af) ?_;exact dN (.eslsl _) rfl
 ·have z:decide (d<0)=false:=a6 h;rw[if_neg h];have hS:=kG c (d+1) hc hs;refine wnY (zI3 @z @ai @af) ?_;exact dN (bl _).snap rfl
set_option maxHeartbeats 2000000 in
theorem Jf(c:List Spx)(d:Int)(hc:c.length≤50)(hs:∀s∈c,Shn s):pU 112 [bM c,.int .i64 d] (.tup [dS (uM c d).1.1 (uM c d).1.2,.int .i64 (uM c d).2]):=by
 refine pO KD ?_;simp only[Ks,aH];have hcc:=jl c (show _≤_ by omega) hs;unfold uM;by_cases he:aA c=0
 rotate_left
 ·rw[if_pos he];have z:decide (aA c≠0)=true:=aR he;refine wnY (zI3 @ai @af @z) ?_;exact jF (.eslsl _) rfl
 rw[if_neg (fun h=>h he)];rw[he] at hcc;have z0:decide ((0:Int)≠0)=false:=rfl;by_cases hd:d<0∨8≤d
 ·rw[if_pos hd];have zz:=aI @ai (aI @af @z0);repeat' (first|refine zW ?_|apply a_n|apply a_r|refine zO ?_|refine vY ?_|refine cY ?_ (hp:=hcc) (hs:=by(first|refine aE ?_ rfl|apply aV);(repeat' (first|exact ao|apply br|apply aX|exact cR _));first|done|fail)|refine alY ?_|refine bxY ?_|refine stY ?_|refine gTY ?_|refine gFY ?_|refine cTY ?_|refine cFY ?_|(refine zGY ?_ ?_<;>(intro _hg;try (exfalso;omega)))|refine bU rfl ?_|refine r2Y ?_|fail)
  all_goals first|exact jF (.eslsl _) rfl|(exfalso;omega)
 rw[if_neg hd];have hX:=DH c d (by omega) hc hs;have hY:=DH c (d-1) (by omega) hc hs;rw[BV he (by omega) (by omega)] at hX hY;rw[show d-1+1=d by omega] at hY;have hXl:=jS (d:=d+1) hc he;have hYl:=jS (d:=d) hc he;have hXm:=fT (d:=d+1) he;have hYm:=sq (fT (d:=d) he);have hYa:=jW (c:=c) (d:=d);generalize aB c (d+1)=X at *;generalize aB c d=Y at *;have z1:decide (d<0)=false:=a6 (by omega);have z2:decide (8≤d)=false:=a6 (by omega);have hzc:bn (AV.agg [AV.esl]) Y.length=List.replicate Y.length .esl:=by simp[bn,AV.cells]
 refine wnY (zI6 @ai @af @ae @z0 @z1 @z2) ?_;refine xy (k1:=.i64) (k2:=.i64) (n:=Y.length) (m:=Y.length) rfl ev0 ev0 (by omega) (Int.le_refl _) (by omega) (by omega) ?_;rw[ct,hzc,Nat.mul_one];refine wnY @ae ?_;refine lpI (X:=Nat×List AV) (fun x=>[(4,.ptr 1 2 0),(9,.ptr 2 1 0),(10,.ptr 4 2 0),(56,aj X),(57,.int .i64 X.length),(58,.int .i64 x.1)]) (fun x H' nx'=>x.1≤X.length∧5≤nx'∧H' 1=some [.int .i64 0,.esl]∧H' 2=some [aj Y]∧H' 4=some [.int .i64 X.length,.msl 3 Y.length 1 0 Y.length]∧MatOk H' 3 5 nx' Y.length (jr X Y x.1) x.2) (fun x=>X.length-x.1) (0,List.replicate Y.length .esl) ⟨bF _,aP _,by(repeat rw[ac (by omega)]);rw[ag],by(repeat rw[ac (by omega)]);rw[ag];rfl,by rw[ag];rfl,MatOk.new (by(repeat rw[ac (by omega)]);rw[ag]) (fun j _=>rfl)⟩ ?_;rintro⟨k,vs⟩ H nx ⟨h1,h2,g1,g2,g4,hmat⟩;dsimp only at h1 h2 g1 g2 g4 hmat ⊢;by_cases hk:k<X.length
 rotate_left
 ·obtain rfl:k=X.length:=by omega
  have hst:Snap (aq H 1 [.int .i64 X.length,.msl 3 Y.length 1 0 Y.length]) (.msl 3 Y.length 1 0 Y.length) (bD (dA X Y)):=(hmat.same (hi':=nx) (G:=jr X Y X.length) (ac (by omega)) (fun x x1 x2 x3=>ac (by omega)) (aP _) (fun j _=>rfl)).snap;refine wnY (aI @g4 @g1) ?_;exact jF hst rfl
 have ix:=dB hk;have hsim:=hXm _ (ay hk);have hF:∀i,jr X Y (k+1) i=jr X Y k i++if Y.getD i default∈bi (X.getD k default) then [k] else []:=fun i=>CF
 generalize X.getD k default=s at *;obtain⟨p1,p2,p3,p4⟩:=ca hsim;refine wnY @ix ?_;refine bd ev0 ev0 (uU s _ _) ?_;rintro _ H1 nx1 ⟨rfl,rfl,rfl⟩;refine wnY and_self ?_;refine mU (nx+2) (nx+3) rfl rfl ev0 (fun c0 cj hy=>?_);refine Abs.Fn.mono (uI (nx:=nx+3) (y:=nx+2) (sb:=nx+1) (s:=s) (by omega) (fun D H' nx'=>nx+3≤nx'∧H' (nx+1)=some [az s]∧H' (nx+2)=some [c0]∧H' nx=some [.int .i64 (k:Int)]∧H' 1=some [.int .i64 0,.esl]∧H' 2=some [aj Y]∧H' 4=some [.int .i64 X.length,.msl 3 Y.length 1 0 Y.length]∧∃vs,MatOk H' 3 5 nx' Y.length (fun i=>jr X Y k i++if Y.getD i default∈D then [k] else []) vs∧∀j B,j<Y.length→bL (vs.getD j .undef)=some B→B<nx∨nx+3≤B) ?_ ?_ ?_ ?_) ?_
 ·rintro D H' nx' ⟨j1,j2,_⟩;exact j2
 ·rintro D H' H'' n1 n2 ⟨j1,j2,j3,j4,j5,j6,j7,vs,j8,j9⟩ hle hsm;exact⟨by omega,(hsm _ (by omega)).trans j2,(hsm _ (by omega)).trans j3,(hsm _ (by omega)).trans j4,(hsm _ (by omega)).trans j5,(hsm _ (by omega)).trans j6,(hsm _ (by omega)).trans j7,vs,j8.same (hsm _ (by omega)) (fun x x1 x2 x3=>hsm x x2) hle (fun _ _=>rfl),j9⟩
 ·rintro D f H' nx' ⟨j1,j2,j3,j4,j5,j6,j7,vs,j8,j9⟩ hlt hfe hDe;refine hy _ _ _ _ j3 rfl ?_;clear hy;have hfm:f∈fcs s:=by rw[hfe];exact ay hlt
  have hfD:f∉D:=fun h=>by
   rw[hDe] at h;have hnd:=Dk p3;have e:=bS hlt;have h5:=(xO.1 (by rw[←e];exact hnd.sublist (List.take_sublist _ _):((fcs s).take D.length++[(fcs s).getD D.length default]).Nodup)).2.2 _ h _ (cU.2 rfl);exact h5 hfe
  have hfs:=ja.1 (BO.1 hfm);have hfn:Shn f:=by show _≤_;omega
  clear hfe hDe hlt hfm;refine wnY and_self ?_;refine⟨j3,?_⟩;have hd:∀x,x≠nx+2→de H' (nx+2) x=H' x:=fun x hx=>cC hx;generalize de H' (nx+2)=H2 at *;have q2:=(hd 2 (by omega)).trans j6;have q3:=(hd 3 (by omega)).trans j8.box;have q4:=(hd 4 (by omega)).trans j7;have qk:=(hd nx (by omega)).trans j4;obtain⟨p,hpl,hpm⟩:=yA Y f (show _≤_ by omega) hYm hfn hYa;by_cases hin:f∈Y
  rotate_left
  ·rw[a6 hin] at hpl;refine wnY (zI3 @q2 @ai @af) ?_;refine⟨rfl,j1,(ac (by omega)).trans ((hd _ (by omega)).trans j2),ag,(ac (by omega)).trans qk,(ac (by omega)).trans ((hd _ (by omega)).trans j5),(ac (by omega)).trans q2,(ac (by omega)).trans q4,vs,j8.same ((ac (by omega)).trans (hd _ (by omega))) (fun x x1 x2 x3=>?_) (aP _) (fun j hj=>?_),j9⟩
   ·by_cases e:x=nx+2
    ·rw[e,ag,j3]
    ·rw[ac e,hd x e]
   ·have hne:Y.getD j default≠f:=fun e=>hin (by rw[←e];exact ay hj)
    congr 1
    exact w7 (by rw[eA,cU];exact⟨fun h=>h.resolve_right hne,.inl⟩)
  rw[aR hin] at hpl;obtain⟨pl1,pl2⟩:=hpm hin;have hFD:jr X Y k p++(if Y.getD p default∈D then [k] else [])=jr X Y k p:=by rw[pl2,if_neg hfD,ga]
  have hrow:Row H2 1 (vs.getD p .undef) ((jr X Y k p).map z7):=by
   have:=j8.row p pl1;rw[hFD] at this;exact this.same fun b hb=>hd b (by have:=j9 p b pl1 hb;omega)
  have hvs:vs[p]?=some (vs.getD p .undef):=by
   have:=j8.len;simp[List.getD,show p<vs.length by omega]
  have hlen:=j8.len
  have hb3:∀b,bL (vs.getD p .undef)=some b→5≤b∧b<nx'∧b≠3∧(b<nx∨nx+3≤b):=fun b hb=>by
   have h5:=j8.bnd p b pl1 hb;have h6:=j9 p b pl1 hb;exact⟨h5.1,h5.2.1,h5.2.2,h6⟩
  generalize hrv:vs.getD p .undef=rv at *;refine wnY (zI3 @q2 @ai @af) ?_;refine AJ 4 3 nx q4 q3 qk (by omega) (by omega) (by omega) fun S0 hS1 hS2 hS3 hsub=>?_;have hFl:=xM (X:=X) (Y:=Y) (n:=k) (i:=p);refine wnY (zI5 @hS1 @hS2 @hS3 @hvs @hlen) ?_;refine dP ?_;refine wnY and_self ?_;refine⟨hsub _ (by rw[ac (by omega)];exact q4) (by rw[ac (by omega)];exact q3) (by rw[ac (by omega)];exact qk),?_⟩;refine dP ?_;refine eR (hrow.same fun b hb=>?_) ?_
  ·have:=hb3 b hb;rw[ac (by omega)]
  rintro s2 H4 nx4 hr2 i1 i2 i3 i4;have lo:∀x,x<nx'→bL rv≠some x→H4 x=H2 x:=fun x x1 x2=>(i3 x (by omega) x2).trans (ac (by omega));have l3:H4 3=H2 3:=lo 3 (by omega) (fun h=>by have:=hb3 _ h;omega);have l4:H4 4=H2 4:=lo 4 (by omega) (fun h=>by have:=hb3 _ h;omega);have lk:H4 nx=H2 nx:=lo nx (by omega) (fun h=>by have:=hb3 _ h;omega);have lo2:∀x,x<nx+3→5≤x→nx≤x→H4 x=H2 x:=fun x x1 x2 x3=>lo x (by omega) (fun h=>by have:=hb3 _ h;omega);have lo5:∀x,x<5→H4 x=H2 x:=fun x x1=>lo x (by omega) (fun h=>by have:=hb3 _ h;omega);obtain⟨o1,o2⟩:=hr2.one;have m3:=l3.trans q3;refine jz ⟨hsub _ (l4.trans q4) m3 (lk.trans qk),?_⟩
  have hlp:bH vs p [s2]=vs.set p s2:=by
   simp only[bH,bK,fi,ce];rw[Iv,if_pos (by omega)];simp
  have zz:=aI @m3 (aI @o1 (aI @o2 (aI @hlen @hlp)));repeat' (first|apply a_n|refine zO ?_|refine nvY ?_|apply iW|refine stY ?_|fail)
  have hB2:∀b,bL s2=some b→(bL rv=some b∨nx'≤b)∧b<nx4:=fun b hb=>by
   rcases i4 b hb with h|h
   ·exact⟨.inl h,by have:=hb3 b h;omega⟩
   ·exact⟨.inr (by omega),by omega⟩
  have hwd:∀x,x≠3→x≠nx+2→aq (aq H4 3 (vs.set p s2)) (nx+2) [c0] x=H4 x:=fun x x1 x2=>by rw[ac x2,ac x1]
  rw[hlp];refine⟨rfl,by omega,?_,ag,?_,?_,?_,?_,vs.set p s2,?_,?_⟩
  ·rw[hwd _ (by omega) (by omega),lo2 _ (by omega) (by omega) (by omega),hd _ (by omega)];exact j2
  ·rw[hwd _ (by omega) (by omega),lk];exact qk
  ·rw[hwd _ (by omega) (by omega),lo5 _ (by omega),hd _ (by omega)];exact j5
  ·rw[hwd _ (by omega) (by omega),lo5 _ (by omega)];exact q2
  ·rw[hwd _ (by omega) (by omega),l4];exact q4
  ·refine j8.put (sv:=s2) (x:=k) (i:=p) pl1 (fun j hj=>?_) ?_ (fun b hb=>?_) (by rw[ac (by omega),ag]) (fun x x1 x2 x3 x4=>?_) (by omega) (by omega)
   ·by_cases e:j=p
    ·subst e;rw[if_pos rfl,pl2,if_neg hfD,if_pos (m8 _ (cU.2 rfl)),ga]
    ·rw[if_neg e]
     have hne:Y.getD j default ≠ f:=fun h=>e (by
      rcases r8 j p with h'|h'|h'
      ·have:=eC hYa h' pl1;rw[h,pl2,fY] at this;omega
      ·exact h'
      ·have:=eC hYa h' hj;rw[h,pl2,fY] at this;omega)
     congr 1
     exact w7 (by rw[eA,cU];exact⟨fun h=>h.resolve_right hne,.inl⟩)
   ·rw[hFD,cL];refine hr2.same fun b hb=>hwd b ?_ ?_
    ·have:=hB2 b hb;rcases this.1 with h|h
     ·have:=hb3 b h;omega
     ·omega
    ·have:=hB2 b hb;rcases this.1 with h|h
     ·have:=hb3 b h;omega
     ·omega
   ·rw[hrv];have:=hB2 b hb;rcases this.1 with h|h
    ·exact .inl h
    ·exact .inr ⟨h,this.2,by omega⟩
   ·rw[hrv] at x4;by_cases e:x=nx+2
    ·rw[e,ag,j3]
    ·rw[hwd x x3 e,lo x x2 x4,hd x e]
  ·intro j B hj hB;rw[qr (by omega)] at hB;by_cases e:p=j
   ·rw[if_pos e] at hB;have:=hB2 B hB;rcases this.1 with h|h
    ·have:=hb3 B h;omega
    ·omega
   ·rw[if_neg e] at hB;exact j9 j B hj hB
 ·have hlk:bH [AV.int .i64 0] 0 [.int .i64 (k:Int)]=[.int .i64 (k:Int)]:=rfl;have hw:∀x,x≠nx→x≠nx+1→x≠nx+2→aq (aq (aq (aq H nx [.int .i64 0]) nx (bH [.int .i64 0] 0 [.int .i64 (k:Int)])) (nx+1) [az s]) (nx+2) [c0] x=H x:=fun x x1 x2 x3=>by rw[ac x3,ac x2,ac x1,ac x1]
  refine⟨aP _,by rw[ac (by omega),ag],ag,by rw[ac (by omega),ac (by omega),ag];rfl,(hw _ (by omega) (by omega) (by omega)).trans g1,(hw _ (by omega) (by omega) (by omega)).trans g2,(hw _ (by omega) (by omega) (by omega)).trans g4,vs,hmat.same (hw _ (by omega) (by omega) (by omega)) (fun x x1 x2 x3=>hw x (by omega) (by omega) (by omega)) (by omega) (fun j _=>by simp),fun j B hj hB=>by have:=hmat.bnd j B hj hB;omega⟩
 ·rintro r H' nx' ⟨j1,j2,j3,j4,j5,j6,j7,vs2,j8,j9⟩;refine .inl ⟨j3,?_⟩;refine wnY and_self ?_;refine⟨(k+1,vs2),by dsimp only;omega,⟨by dsimp only;omega,by omega,(cC (by omega)).trans j5,(cC (by omega)).trans j6,(cC (by omega)).trans j7,?_⟩,ag0⟩;dsimp only
  have hrows:∀j,j<Y.length→jr X Y (k+1) j=jr X Y k j++if Y.getD j default∈fcs s then [k] else []:=fun j _=>by
   rw[hF];congr 1;exact w7 BO.symm
  exact⟨(cC (by omega)).trans j8.box,j8.len,fun j hj=>by rw[hrows j hj];exact(j8.row j hj).same fun b hb=>cC (by have:=j9 j b hj hb;omega),fun j B hj hB=>by have:=j8.bnd j B hj hB;exact this,j8.apart⟩
end Go.Proofs.YtekdaafnjdlenaaGreat
namespace Go.Proofs.YtekdaafnjdlenaaGreat
open Go Go.Abs
def fC(L a:List Spx):List Nat:=a.map fun s=>L.idxOf s
abbrev bW(a:List Spx):Nat:=(a.getD 0 default).length
def fA(c a:List Spx):List Int×Int:=if aA c≠0 then([],aA c) else if hJ a≠0 then([],hJ a) else if a=[] then([],0) else if (a.all fun s=>decide (s∈aB c (bW a)))=true then(cf (fC (aB c (bW a)) a),0) else([],6)
theorem qG{l:List Nat}{n:Nat}:cf (l++[n])=cf l++[(n:Int)]:=by unfold cf;rw[cL];rfl
theorem vG{L a:List Spx}{k:Nat}(h:k<a.length):fC L (a.take (k+1))=fC L (a.take k)++[L.idxOf (a.getD k default)]:=by
 unfold fC;rw[bS h,cL];rfl
theorem Bh{l:List Spx}(hn:l.Nodup){v:Spx}{k:Nat}(hk:k<l.length)(hv:l.getD k default=v):l.idxOf v=k:=by
 have hm:v∈l:=by rw[←hv];exact ay hk
 have h1:=oo.2 hm;have h2:l[l.idxOf v]=v:=List.getElem_idxOf h1;have h3:l[k]=v:=by simpa[List.getD,hk] using hv
 exact(List.getElem_inj hn).1 (h2.trans h3.symm)
theorem fM{H:Hp}{s:AV}{l:List Int}{e f:Int}(h:Snap H s (aG l))(he:e=f):Snap H (.tup [s,.int .i64 e]) (.tup [aG l,.int .i64 f]):=by
 subst he;exact bC (ah h (ah (.int _ _) ao))
def B7(n:Nat)(v:List Int)(k:Nat):Int:=if v.getD k default<0∨(n:Int)≤v.getD k default then 2 else if 0<k∧v.getD k default≤v.getD (k-1) default then 14 else 0
def sS(n:Nat)(v:List Int):Int:=dJ (B7 n v) v.length
theorem sE{n:Nat}{v:List Int}{k:Nat}:B7 n v k=if v.getD k default<0∨(n:Int)≤v.getD k default then 2 else if 0<k∧v.getD k default≤v.getD (k-1) default then 14 else 0:=rfl
def ea(X:List Spx)(v:List Int):List Spx:=v.map fun i=>X.getD i.toNat default
theorem zR{X:List Spx}{v:List Int}{k:Nat}(h:k<v.length):ea X (v.take (k+1))=ea X (v.take k)++[X.getD (v.getD k default).toNat default]:=by
 unfold ea;rw[bS h,cL];rfl
def zU(c:List Spx)(d:Int)(v:List Int):List Spx×Int:=if aA c≠0 then([],aA c) else if d<0∨8≤d then([],2) else if sS (aB c (d+1)).length v≠0 then([],sS (aB c (d+1)).length v) else(ea (aB c (d+1)) v,0)
attribute [local irreducible] aK ak bf a5 aO aQ aC aS a7 bj Go.Abs.Fn aZ Go.Abs.Pure au aM Yl
theorem z8(c a:List Spx)(hc:c.length≤50)(hs:∀s∈c,Shn s)(ha:ShC a):pU 30 [bM c,aj a] (.tup [aG (fA c a).1,.int .i64 (fA c a).2]):=by
 refine pO MX ?_;simp only[b30,aH];have hcc:=jl c (show _≤_ by omega) hs;have hca:=tN a ha;have z0:decide ((0:Int)≠0)=false:=rfl;unfold fA;by_cases he:aA c=0
 rotate_left
 ·rw[if_pos he];have z:decide (aA c≠0)=true:=aR he;refine wnY (zI3 @ai @af @z) ?_;exact fM (.eslsl _) rfl
 rw[if_neg (fun h=>h he)];rw[he] at hcc;by_cases h2:hJ a=0
 rotate_left
 ·rw[if_pos h2];have z:decide (hJ a≠0)=true:=aR h2;refine wnY (zI4 @ai @af @z @z0) ?_;exact fM (.eslsl _) rfl
 rw[if_neg (fun h=>h h2)];rw[h2] at hca;by_cases h3:a=[]
 ·rw[if_pos h3];subst h3;have al:dt (aj [])=some (.int .i64 0):=rfl;refine wnY (zI4 @ai @af @al @z0) ?_;exact fM (.eslsl _) rfl
 rw[if_neg h3];have hpos:=gy.2 h3;have z3:decide ((a.length:Int)=0)=false:=a6 (by omega);obtain⟨p1,p2,p3,p4⟩:=eu h2;have p5:=ca (p2 _ (ay hpos));have i0:=He hpos;have hS:=kG c (bW a) hc hs;unfold dh at hS;rw[if_neg (fun h=>h he),if_neg (by unfold bW;omega),ct] at hS;have eL:gw c (bW a)=aB c (bW a):=by unfold aB;rw[if_neg (by unfold bW;omega),ct]
 rw[eL] at hS;have hLs:=sq (fT (d:=(bW a:Nat)) he);have hLl:=jS (d:=(bW a:Nat)) hc he;have hLa:=jW (c:=c) (d:=(bW a:Nat));generalize aB c (bW a)=L at *;unfold bW at hS;refine wkY (zI7 @ai @af @ae @an @i0 @z0 @z3) ?_;refine bQ (X:=AV×Nat) (fun x=>[(8,aj L),(10,x.1),(40,aj a),(41,.int .i64 a.length),(42,.int .i64 x.2)]) (fun x H nx=>x.2≤a.length∧(∀i,i<x.2→decide (a.getD i default∈L)=true)∧Row H 1 x.1 ((cf (fC L (a.take x.2))).map (AV.int .i64))∧∀b,bL x.1=some b→b<nx) (fun x=>a.length-x.2) (.esl,0) ⟨bF _,fun i h=>absurd h (by omega),Row.nil,fun b hb=>(by cases hb)⟩ ag0 ?_;rintro⟨sv,k⟩ H nx ⟨k1,k2,k3,k4⟩;dsimp only at k1 k2 k3 k4 ⊢;by_cases hk:k<a.length
 rotate_left
 ·rw[fv (by omega)] at k3;rw[if_pos (hU fun i hi=>k2 i (by omega))];refine wnY and_self ?_;exact fM k3.snapI rfl
 have ix:=dB hk;have hsx:=ha.2 _ (ay hk);obtain⟨p,hpl,hpm⟩:=yA L (a.getD k default) (show _≤_ by omega) hLs hsx hLa;by_cases hin:a.getD k default∈L
 rotate_left
 ·rw[a6 hin] at hpl
  have hall:¬(a.all fun s=>decide (s∈L))=true:=by
   rw[gF hk (a6 hin)];decide
  rw[if_neg hall];refine wnY @ix ?_;exact fM (.eslsl _) rfl
 rw[aR hin] at hpl;obtain⟨p1',p2'⟩:=hpm hin;have hidx:=Bh (hLa.nodup jt) p1' p2';have hpt:=vG (L:=L) hk;rw[hidx] at hpt;have hnl:(cf (fC L (a.take k))).length=k:=by unfold cf fC;rw[bw,bw,fy];omega
 refine wnY @ix ?_;refine eR (k3.same fun b hb=>?_) ?_
 ·have:=k4 b hb;rw[ac (by omega)]
 rintro s2 E e hrow hle1 hle2 hsame hb2;refine wnY and_self ?_;refine⟨(s2,k+1),by dsimp only;omega,⟨by dsimp only;omega,fun i hi=>?_,?_,fun b hb=>?_⟩,ag0⟩
 ·rcases gB.1 hi with h'|rfl
  ·exact k2 i h'
  ·exact aR hin
 ·dsimp only;rw[hpt,qG,cL];exact hrow
 ·rcases hb2 b hb with h|h
  ·have:=k4 b h;omega
  ·omega
theorem yr(l:List Spx)(v:Spx)(hl:Shn l)(hs:∀c∈l,Shn c)(hv:Shn v)(hn:l.Nodup):pU 121 [aj l,az v] (.int .i64 (if v∈l then(l.idxOf v:Nat) else-1)):=by
 refine pO LX ?_;simp only[KL,aH];have hl':l.length≤17592186044416:=hl;refine wnZ @ae ?_;refine lg (X:=Nat) (fun k=>[(0,aj l),(1,az v),(5,.int .i64 k)]) (fun k=>k≤l.length∧∀i,i<k→l.getD i default≠v) (fun k=>l.length-k) 0 ⟨bF _,fun i h=>absurd h (by omega)⟩ ag0 ?_;rintro k ⟨h1,h2⟩;by_cases hk:k<l.length
 rotate_left
 ·have hm:v∉l:=fun h=>by
    obtain⟨i,hi,e⟩:=jJ h;exact h2 i (by omega) (by simp[List.getD,hi,e])
  rw[if_neg hm];refine wnY @ae ?_;exact .int _ _
 have ix:=dB hk;have hsm:=A9 (l.getD k default) v (hs _ (ay hk)) hv;by_cases e:l.getD k default=v
 ·rw[aR e] at hsm;have hm:v∈l:=by rw[←e];exact ay hk
  rw[if_pos hm,Bh hn hk e];refine wnY (aI @ae @ix) ?_;exact .int _ _
 ·rw[a6 e] at hsm;refine wnY (aI @ae @ix) ?_
  exact ⟨k + 1,⟨by omega,fun i hi=>by
   rcases gB.1 hi with h'|rfl
   ·exact h2 i h'
   ·exact e⟩,by omega,ag0,rfl,rfl⟩
theorem zG(l a:List Spx)(hl:Shn l)(hs:∀c∈l,Shn c)(hn:l.Nodup)(hal:a.length≤1000000)(ha:∀s∈a,Shn s):pU 118 [aj l,aj a] (.tup [aG (if (a.all fun s=>decide (s∈l))=true then cf (fC l a) else []),.bool (a.all fun s=>decide (s∈l))]):=by
 refine pO LF ?_;simp only[Jw,aH];refine wnZ @ae ?_;refine bQ (X:=AV×Nat) (fun x=>[(0,aj l),(1,aj a),(6,x.1),(7,.int .i64 x.2)]) (fun x H nx=>x.2≤a.length∧(∀i,i<x.2→decide (a.getD i default∈l)=true)∧Row H 1 x.1 ((cf (fC l (a.take x.2))).map (AV.int .i64))∧∀b,bL x.1=some b→b<nx) (fun x=>a.length-x.2) (.esl,0) ⟨bF _,fun i h=>absurd h (by omega),Row.nil,fun b hb=>(by cases hb)⟩ ag0 ?_;rintro⟨sv,k⟩ H nx ⟨k1,k2,k3,k4⟩;dsimp only at k1 k2 k3 k4 ⊢;by_cases hk:k<a.length
 rotate_left
 ·rw[fv (by omega)] at k3;rw[if_pos (hU fun i hi=>k2 i (by omega)),hU fun i hi=>k2 i (by omega)];refine wnY @ae ?_;exact bC (ah k3.snapI (ah (.bool _) ao))
 have ix:=dB hk;have hpl:=yr l (a.getD k default) hl hs (ha _ (ay hk)) hn;by_cases hin:a.getD k default∈l
 rotate_left
 ·rw[if_neg hin] at hpl;have hall:=gF hk (p:=fun s=>decide (s∈l)) (a6 hin);rw[hall,if_neg (by decide)];have z:decide ((-1:Int)<0)=true:=rfl;refine wnY (zI3 @ae @ix @z) ?_;exact bC (ah (.eslsl _) (ah (.bool _) ao))
 rw[if_pos hin] at hpl;have hpt:=vG (L:=l) hk;have hnl:(cf (fC l (a.take k))).length=k:=by unfold cf fC;rw[bw,bw,fy];omega
 generalize l.idxOf (a.getD k default)=p at *;have z:decide ((p:Int)<0)=false:=a6 (by omega);refine wnY (zI3 @ae @ix @z) ?_;refine eR (k3.same fun b hb=>?_) ?_
 ·have:=k4 b hb;rw[ac (by omega)]
 rintro s2 E e hrow hle1 hle2 hsame hb2;refine wnY and_self ?_;refine⟨(s2,k+1),by dsimp only;omega,⟨by dsimp only;omega,fun i hi=>?_,?_,fun b hb=>?_⟩,ag0⟩
 ·rcases gB.1 hi with h'|rfl
  ·exact k2 i h'
  ·exact aR hin
 ·dsimp only;rw[hpt,qG,cL];exact hrow
 ·rcases hb2 b hb with h|h
  ·have:=k4 b h;omega
  ·omega
theorem Hn(c a:List Spx)(hc:c.length≤50)(hs:∀s∈c,Shn s)(ha:ShC a):pU 60 [bM c,aj a] (.tup [aG (fA c a).1,.int .i64 (fA c a).2]):=by
 refine pO MN ?_;simp only[b60,aH];have hcc:=ww c (show _≤_ by omega) hs;have hca:=Gr a ha;have z0:decide ((0:Int)≠0)=false:=rfl;unfold fA;by_cases he:aA c=0
 rotate_left
 ·rw[if_pos he];have z:decide (aA c≠0)=true:=aR he;refine wnY (zI3 @ai @af @z) ?_;exact fM (.eslsl _) rfl
 rw[if_neg (fun h=>h he)];rw[he] at hcc;by_cases h2:hJ a=0
 rotate_left
 ·rw[if_pos h2];have z:decide (hJ a≠0)=true:=aR h2;refine wnY (zI4 @ai @af @z @z0) ?_;exact fM (.eslsl _) rfl
 rw[if_neg (fun h=>h h2)];rw[h2] at hca;by_cases h3:a=[]
 ·rw[if_pos h3];subst h3;have al:dt (aj [])=some (.int .i64 0):=rfl;refine wnY (zI4 @ai @af @al @z0) ?_;exact fM (.eslsl _) rfl
 rw[if_neg h3];have hpos:=gy.2 h3;have z3:decide ((a.length:Int)=0)=false:=a6 (by omega);obtain⟨p1,p2,p3,p4⟩:=eu h2;have p5:=ca (p2 _ (ay hpos));have i0:=He hpos;have hS:=ph c (bW a) (by omega) hs;unfold dh at hS;rw[if_neg (fun h=>h he),if_neg (by unfold bW;omega),ct] at hS;have eL:gw c (bW a)=aB c (bW a):=by unfold aB;rw[if_neg (by unfold bW;omega),ct]
 rw[eL] at hS;have hLs:=sq (fT (d:=(bW a:Nat)) he);have hLl:=jS (d:=(bW a:Nat)) hc he;have hLa:=jW (c:=c) (d:=(bW a:Nat));generalize aB c (bW a)=L at *;have hP:=zG L a (show _≤_ by omega) hLs (hLa.nodup jt) (by omega) ha.2;unfold bW at hS;cases hall:a.all fun s=>decide (s∈L)
 ·rw[if_neg (by decide)];rw[hall,if_neg (by decide)] at hP;refine wkY (zI7 @ai @af @ae @an @i0 @z0 @z3) ?_;exact fM (.eslsl _) rfl
 ·rw[if_pos rfl];rw[hall,if_pos rfl] at hP;refine wkY (zI7 @ai @af @ae @an @i0 @z0 @z3) ?_;exact fM (cJ _).snap rfl
end Go.Proofs.YtekdaafnjdlenaaGreat
namespace Go.Proofs.YtekdaafnjdlenaaGreat
open Go Go.Abs
theorem ixV{l:List Int}{k:Nat}(h:k<l.length):ee 1 (aG l) (.int .i64 (k:Int))=some (.iptr [.int .i64 (l.getD k default)] 0):=by
 rw[mH,if_pos ⟨by omega,by omega⟩,ct]
theorem er{l:List Int}:dt (aG l)=some (.int .i64 l.length):=tT
attribute [local irreducible] aK ak bf a5 aO aQ aC aS a7 bj Go.Abs.Fn aZ Go.Abs.Pure au aM Yl
set_option maxHeartbeats 1000000 in
theorem wJ(c:List Spx)(d:Int)(v:List Int)(hc:c.length≤50)(hs:∀s∈c,Shn s)(hv:v.length≤100000):pU 34 [bM c,.int .i64 d,aG v] (.tup [aj (zU c d v).1,.int .i64 (zU c d v).2]):=by
 refine pO Mq ?_;simp only[b34,aH];have hcc:=jl c (show _≤_ by omega) hs;have z0:decide ((0:Int)≠0)=false:=rfl;unfold zU;by_cases he:aA c=0
 rotate_left
 ·rw[if_pos he];have z:decide (aA c≠0)=true:=aR he;refine wnY (zI3 @ai @af @z) ?_;exact dN (.eslsl _) rfl
 rw[if_neg (fun h=>h he)];rw[he] at hcc;by_cases hd:d<0∨8≤d
 ·rw[if_pos hd];have zz:=aI @ai (aI @af @z0);repeat' (first|refine zW ?_|apply a_n|apply a_r|refine zO ?_|refine vY ?_|refine cY ?_ (hp:=hcc) (hs:=by(first|refine aE ?_ rfl|apply aV);(repeat' (first|exact ao|apply br|apply aX|exact cR _));first|done|fail)|refine bxY ?_|refine gTY ?_|refine gFY ?_|refine cTY ?_|refine cFY ?_|(refine zGY ?_ ?_<;>(intro _hg;try (exfalso;omega)))|refine bU rfl ?_|refine r2Y ?_|fail)
  all_goals first|exact dN (.eslsl _) rfl|(exfalso;omega)
 rw[if_neg hd];have hX:=DH c d (by omega) hc hs;rw[BV he (by omega) (by omega)] at hX;have hXl:=jS (d:=d+1) hc he;have hXm:=fT (d:=d+1) he;generalize aB c (d+1)=X at *;have z1:decide (d<0)=false:=a6 (by omega);have z2:decide (8≤d)=false:=a6 (by omega);refine wnY (zI5 @ai @af @z0 @z1 @z2) ?_;refine bQ (X:=AV×Nat) (fun x=>[(2,aG v),(9,aj X),(11,x.1),(34,aG v),(35,.int .i64 v.length),(36,.int .i64 x.2)]) (fun x H nx=>x.2≤v.length∧(∀i,i<x.2→B7 X.length v i=0)∧Row H 1 x.1 ((ea X (v.take x.2)).map az)∧∀b,bL x.1=some b→b<nx) (fun x=>v.length-x.2) (.esl,0) ⟨bF _,fun i h=>absurd h (by omega),Row.nil,fun b hb=>(by cases hb)⟩ ag0 ?_;rintro⟨sv,k⟩ H nx ⟨k1,k2,k3,k4⟩;dsimp only at k1 k2 k3 k4 ⊢;by_cases hk:k<v.length
 rotate_left
 ·have hz:sS X.length v=0:=dq fun i hi=>k2 i (by omega);rw[if_neg (fun h=>h hz)];rw[fv (by omega)] at k3;have hpl:(ea X v).length=v.length:=by unfold ea;rw[bw]
  have hcp:=vu (ea X v) (by omega) fun s hs=>by
   unfold ea at hs;obtain⟨i,hi,rfl⟩:=bG.1 hs;by_cases hl:i.toNat<X.length
   ·exact ze hXm _ (ay hl)
   ·rw[show X.getD i.toNat default=[] by unfold List.getD;rw[List.getElem?_eq_none (by omega)];rfl];exact bF _
  obtain⟨Hf,H4,hfz,hsn,hoth⟩:=IU k3;have z6:decide ((k:Int)<v.length)=false:=a6 (by omega);refine dD ?_;have zz:=@z6;repeat' (first|apply a_n|refine zO ?_|refine vY ?_|fail)
  refine dD ?_;clear zz;have zz:=@z6;repeat' (first|apply a_n|apply a_x|refine zO ?_|refine cFY ?_|fail)
  refine dD ?_;refine pr Hf H4 [(11,aj (ea X v))] hfz ⟨.inr hsn,trivial⟩ ?_;refine wnY and_self ?_;exact dN (bl _).snap rfl
 have ix:=ixV hk;have hsp:=sE (n:=X.length) (v:=v) (k:=k)
 have hfin:∀e:Int,e≠0→B7 X.length v k=e→(if sS X.length v≠0 then(([]:List Spx),sS X.length v) else(ea X v,0))=([],e):=fun e h0 he=>by
  have h5:sS X.length v=e:=by
   unfold sS;rw[cw hk k2 (by rw[he];exact h0),he]
  rw[if_pos (by rw[h5];exact h0),h5]
 by_cases g1:v.getD k default<0
 ·rw[if_pos (.inl g1)] at hsp;rw[hfin 2 (by decide) hsp];have z1:decide (v.getD k default<0)=true:=aR g1;refine wnY (aI @ix @z1) ?_;exact dN (.eslsl _) rfl
 have z3:decide (v.getD k default<0)=false:=a6 g1;by_cases g2:(X.length:Int)≤v.getD k default
 ·rw[if_pos (.inr g2)] at hsp;rw[hfin 2 (by decide) hsp];have z4:decide ((X.length:Int)≤v.getD k default)=true:=aR g2;refine wnY (zI4 @ix @z3 @z4 @ae) ?_;exact dN (.eslsl _) rfl
 have z4:decide ((X.length:Int)≤v.getD k default)=false:=a6 g2;rw[if_neg (by omega)] at hsp
 have iw:ee 1 (aj X) (.int .i64 (v.getD k default))=some (.iptr [az (X.getD (v.getD k default).toNat default)] 0):=by
  rw[qX,if_pos ⟨by omega,by omega⟩]
 have hpt:=zR (X:=X) hk;have hnl:(ea X (v.take k)).length=k:=by unfold ea;rw[bw,fy];omega
 have hstep:∀ (s2:AV) (E:Hp) (e:Nat),B7 X.length v k=0→Row E 1 s2 ((ea X (v.take k)).map az ++ [az (X.getD (v.getD k default).toNat default)])→(∀ i,i < k + 1→B7 X.length v i=0)∧Row E 1 s2 ((ea X (v.take (k + 1))).map az):=fun s2 E e hz hr=>⟨fun i hi=>by
  rcases gB.1 hi with h'|rfl
  ·exact k2 i h'
  ·exact hz,by rw[hpt,cL];exact hr⟩
 generalize X.getD (v.getD k default).toNat default=x at *;by_cases hk0:0<k
 rotate_left
 ·rw[if_neg (fun h=>hk0 h.1)] at hsp;have zk:decide (0<(k:Int))=false:=a6 (by omega);refine wnY (zI8 @ix @iw @z3 @z4 @zk @ae @aW @aJ) ?_;refine eR (k3.same fun b hb=>?_) ?_
  ·have:=k4 b hb;rw[ac (by omega)]
  rintro s2 E e hrow hle1 hle2 hsame hb2;refine wnY and_self ?_
  exact ⟨(s2,k + 1),by dsimp only; omega,⟨by dsimp only; omega,(hstep s2 E e hsp hrow).1,(hstep s2 E e hsp hrow).2,fun b hb=>by
   rcases hb2 b hb with h|h
   ·have:=k4 b h;omega
   ·omega⟩,ag0⟩
 have zk:decide (0<(k:Int))=true:=aR (by omega)
 have iy:ee 1 (aG v) (.int .i64 ((k:Int)-1))=some (.iptr [.int .i64 (v.getD (k-1) default)] 0):=by
  have:=ixV (l:=v) (k:=k-1) (by omega)
  rwa [show((k-1:Nat):Int)=(k:Int)-1 by omega] at this
 by_cases g3:v.getD k default≤v.getD (k-1) default
 ·rw[if_pos ⟨hk0,g3⟩] at hsp;rw[hfin 14 (by decide) hsp];have z5:decide (v.getD k default≤v.getD (k-1) default)=true:=aR g3;refine wnY (zI7 @ix @iy @z3 @z4 @zk @z5 @ae) ?_;exact dN (.eslsl _) rfl
 ·rw[if_neg (fun h=>g3 h.2)] at hsp;have z5:decide (v.getD k default≤v.getD (k-1) default)=false:=a6 g3;refine wnY (ie @ix @iy @iw @z3 @z4 @zk @z5 @ae @aW @aJ) ?_;refine eR (k3.same fun b hb=>?_) ?_
  ·have:=k4 b hb;rw[ac (by omega)]
  rintro s2 E e hrow hle1 hle2 hsame hb2;refine wnY and_self ?_
  exact ⟨(s2,k + 1),by dsimp only; omega,⟨by dsimp only; omega,(hstep s2 E e hsp hrow).1,(hstep s2 E e hsp hrow).2,fun b hb=>by
   rcases hb2 b hb with h|h
   ·have:=k4 b h;omega
   ·omega⟩,ag0⟩
end Go.Proofs.YtekdaafnjdlenaaGreat
namespace Go.Proofs.YtekdaafnjdlenaaGreat
open Go Go.Abs
def dW(l:List Int):Spx:=l.map fun c=>⟨c,0⟩
theorem Dh{l:List Int}{k:Nat}(h:k<l.length):dW (l.take (k+1))=dW (l.take k)++[⟨l.getD k default,0⟩]:=by
 unfold dW;rw[bS h,cL];rfl
attribute [local irreducible] aK ak bf a5 aO aQ aC aS a7 bj Go.Abs.Fn aZ Go.Abs.Pure au aM Yl
end Go.Proofs.YtekdaafnjdlenaaGreat
namespace Go.Proofs.YtekdaafnjdlenaaGreat
open Go Go.Abs
structure PairV where
 a:List Spx
 b:List Spx
 d:Int
attribute [local irreducible] aK ak bf a5 aO aQ aC aS a7 bj Go.Abs.Fn aZ Go.Abs.Pure au aM Yl
theorem tR(l m:List Int)(hl:l.length≤1000000)(hm:m.length≤1000000):pU 17 [aG l,aG m] (.bool (decide (l=m))):=by
 refine pO MP ?_;simp only[b17,aH]
 repeat' (first|refine zW ?_|apply a_n|apply a_r|refine zO ?_|refine vZ ?_|(refine zGZ ?_ ?_<;>(intro _hg;try (exfalso;omega)))|refine bU rfl ?_|refine r1Z ?_|fail)
 ·refine ci ?_
  symm;rw[decide_eq_false_iff_not];rintro rfl;omega
 refine lg (X:=Nat) (fun k=>[(0,aG l),(1,aG m),(12,.int .i64 l.length),(13,.int .i64 k)]) (fun k=>k≤l.length∧∀i,i<k→l.getD i default=m.getD i default) (fun k=>l.length-k) 0 ⟨bF _,by simp⟩ ag0 ?_;rintro k ⟨h1,h2⟩
 repeat' (first|refine zW ?_|apply a_n|apply a_x|apply a_r|refine zO ?_|refine vZ ?_|(refine zGZ ?_ ?_<;>(intro _hg;try (exfalso;omega)))|refine bU rfl ?_|refine r1Z ?_|fail)
 ·refine ci ?_
  symm;rw[decide_eq_false_iff_not];rintro rfl;exact absurd rfl ‹_›
 ·refine⟨k+1,⟨by omega,fun i hi=>?_⟩,by omega,ag0,rfl,rfl⟩;rcases gB.1 hi with h|rfl
  ·exact h2 i h
  ·omega
 ·refine ci ?_
  symm;rw[w5]
  refine List.ext_getElem (by omega) (fun i h3 h4=>?_);have:=h2 i (by omega);simpa[List.getD,h3,h4] using this
end Go.Proofs.YtekdaafnjdlenaaGreat
namespace Go.Proofs.YtekdaafnjdlenaaGreat
open Go Go.Abs
theorem o9{H:Hp}{b n:Nat}{l:List Spx}(h:H b=some (l.map az))(hn:n=l.length):Snap H (.msl b n 1 0 n) (aj l):=by
 subst hn;have:=Row.box (H:=H) (sz:=1) b l.length (l.map az) h (by simp);rw[Nat.mul_one] at this;exact gb this
theorem DR{H:Hp}{b n:Nat}{cs:List AV}{l:List (List Int)}(hb:H b=some cs)(hn:cs.length=n)(h:aM H cs (l.map aG)):Snap H (.msl b n 1 0 n) (bD l):=by
 have hl:=h.1;refine je (l:=l.map aG) hb hn (by omega) (by omega) (fun y hy=>?_) (fun i a c ha hc=>?_)
 ·obtain⟨z,_,rfl⟩:=bG.1 hy;rfl
 ·rw[ce] at ha;exact h.2 i a c ha hc
attribute [local irreducible] aK ak bf a5 aO aQ aC aS a7 bj Go.Abs.Fn aZ Go.Abs.Pure au aM Yl
end Go.Proofs.YtekdaafnjdlenaaGreat
namespace Go.Proofs.YtekdaafnjdlenaaGreat
open Go Go.Abs
theorem tB{s:Spx}:(bi s).length≤s.length:=by
 rw[←oq.length_eq];unfold fcs;split
 ·exact bF _
 ·rw[rA];exact aP _
theorem sx:∀(a o:List Spx),(∀s∈a,s.length≤8)→(jg a o).length≤o.length+a.length*8
 |[],o,_=>Nat.le_add_right _ _
 |s::a,o,h=>by
  have h1:=sx a (iM be o (bi s)) fun t ht=>h t (d8 _ ht);have h2:=A8 (K:=be) (a:=o) (b:=bi s);have h3:=tB (s:=s);have h4:=h s di;show(jg a (iM be o (bi s))).length≤_;rw[bK];omega
theorem Ak{a:List Spx}(h:∀s∈a,s.length≤8):(cq a).length≤a.length*8:=by
 have:=sx a [] h;rw[fi,ce] at this;exact this
attribute [local irreducible] aK ak bf a5 aO aQ aC aS a7 bj Go.Abs.Fn aZ Go.Abs.Pure au aM Yl
end Go.Proofs.YtekdaafnjdlenaaGreat
namespace Go.Proofs.YtekdaafnjdlenaaGreat
open Go Go.Abs
theorem pp:∀(n:Nat)(a b:List Int),a.length+b.length≤n→bo a→bo b→(bV a b).length+2*(a.filter fun x=>decide (x∈b)).length=a.length+b.length
 |_,[],b,_,_,_=>by rw[kQ];simp
 |_,x::a,[],_,_,_=>by
  rw[gD,Cs.2 (fun z _=>by simp)];rfl
 |0,x::a,y::b,h,_,_=>by simp only[bK] at h;omega
 |n+1,x::a,y::b,h,ha,hb=>by
  simp only[bK] at h ⊢;obtain⟨a1,a2⟩:=gW.1 ha;obtain⟨b1,b2⟩:=gW.1 hb;rw[n6];by_cases g1:x<y
  ·have hx:x∉y::b:=fun q=>by
     rcases cQ.1 q with rfl|q
     ·omega
     ·have:=b1 x q;omega
   have ih:=pp n a (y::b) (by simp only[bK];omega) a2 hb;rw[if_pos g1,bK,wq (by simpa using hx)];simp only[bK] at ih;omega
  rw[if_neg g1];by_cases g2:y<x
  ·have hf:(x::a).filter (fun z=>decide (z∈y::b))=(x::a).filter fun z=>decide (z∈b):=by
     refine List.filter_congr fun z hz=>decide_eq_decide.2 ?_;rw[cQ];refine⟨fun h=>h.resolve_left ?_,.inr⟩;rintro rfl;rcases cQ.1 hz with rfl|hz
     ·omega
     ·have:=a1 z hz;omega
   have ih:=pp n (x::a) b (by simp only[bK];omega) ha b2;rw[if_pos g2,bK,hf];simp only[bK] at ih;omega
  rw[if_neg g2];obtain rfl:x=y:=by omega
  have hf:a.filter (fun z=>decide (z∈x::b))=a.filter fun z=>decide (z∈b):=by
   refine List.filter_congr fun z hz=>decide_eq_decide.2 ?_;rw[cQ];refine⟨fun h=>h.resolve_left ?_,.inr⟩;rintro rfl;have:=a1 z hz;omega
  have ih:=pp n a b (by omega) a2 b2;rw[xm (by simp),bK,hf];omega
theorem bo.nodup{l:List Int}(h:bo l):l.Nodup:=xX (fun{x y}(h:x<y) e=>by omega) h
theorem CU{l:List Nat}{n:Nat}:(n:Int)∈cf l↔n∈l:=by
 unfold cf;rw[bG];exact⟨fun⟨m,h1,h2⟩=>by rwa [←(by omega:m=n)],fun h=>⟨n,h,rfl⟩⟩
theorem pm{l:List Nat}{x:Int}:x∈cf l↔ ∃i:Nat,i∈l∧(i:Int)=x:=by unfold cf;exact bG
theorem kd{l:List Nat}(h:l.Pairwise (· < ·)):bo (cf l):=by
 unfold cf bo;rw[List.pairwise_map];exact xX (fun{a b}(h:a<b)=>by omega) h
theorem D5{X Y:List Spx}{n i:Nat}:(jr X Y n i).Pairwise (· < ·):=List.pairwise_lt_range.sublist List.filter_sublist
theorem xz{X Y:List Spx}{n i j:Nat}:j∈jr X Y n i↔j<n∧Y.getD i default∈bi (X.getD j default):=by
 unfold jr;simp only[ia,eO,il]
theorem gf{X Y:List Spx}:(dA X Y).length=Y.length:=by unfold dA;simp
theorem Fe{X Y:List Spx}{i:Nat}(h:i<Y.length):(dA X Y).getD i default=cf (jr X Y X.length i):=by
 unfold dA;simp[List.getD,h]
theorem kH{X Y:List Spx}(hX:X.length≤4096)(hY:Y.length≤4096):gY X.length (dA X Y):=by
 refine⟨by omega,by omega,by rw[gf];exact hY,fun r hr=>?_⟩;unfold dA at hr;obtain⟨i,hi,rfl⟩:=bG.1 hr;refine⟨fun v hv=>?_,?_,tU (kd D5)⟩
 ·unfold cf at hv;obtain⟨j,hj,rfl⟩:=bG.1 hv;have:=(xz.1 hj).1;omega
 ·unfold cf;rw[bw];exact eX xM hX
def jp(a b:List Int):Bool:=decide ((a.length+b.length-(bV a b).length)/2%2=1)
theorem j0{Y:List Spx}{f:Spx}(h:f∈Y):Y.idxOf f<Y.length∧Y.getD (Y.idxOf f) default=f:=by
 have hl:=oo.2 h;exact⟨hl,by simp[List.getD,hl]⟩
attribute [local irreducible] aK ak bf a5 aO aQ aC aS a7 bj Go.Abs.Fn aZ Go.Abs.Pure au aM Yl
theorem Eb(a b:List Int)(ha:a.length≤1000000)(hb:b.length≤1000000):pU 116 [aG a,aG b] (.bool (jp a b)):=by
 refine pO Lh ?_;simp only[Kp,aH];have hs:=vq a b (by omega) (by omega);have hl:=oB _ a b (aP _);unfold jp;generalize bV a b=S at *
 have hq:∀tb tf,bt .quo tb tf (.int .i64 ((a.length:Int)+b.length-S.length)) (.int .i64 2)=some (.int .i64 (((a.length+b.length-S.length)/2:Nat):Int)):=fun tb tf=>by
  rw[oL (by omega) (by omega) (by omega)]
  congr 2;omega
 have hr:∀tb tf,bt .rem tb tf (.int .i64 (((a.length+b.length-S.length)/2:Nat):Int)) (.int .i64 2)=some (.int .i64 (((a.length+b.length-S.length)/2%2:Nat):Int)):=fun tb tf=>by
  rw[wn (by omega) (by omega)]
  congr 2
 have z:decide ((((a.length+b.length-S.length)/2%2:Nat):Int)=1)=decide ((a.length+b.length-S.length)/2%2=1):=decide_eq_decide.2 (by omega);refine wnY (zI4 @er @hq @hr @z) ?_;exact .bool _
theorem Dr{l:List (List Int)}{k:Nat}(h:k<l.length):ee 1 (bD l) (.int .i64 (k:Int))=some (.iptr [aG (l.getD k default)] 0):=by
 rw[nU,if_pos ⟨by omega,by omega⟩,ct]
theorem eD{l:List (List Int)}:dt (bD l)=some (.int .i64 l.length):=qF
end Go.Proofs.YtekdaafnjdlenaaGreat
namespace Go.Proofs.YtekdaafnjdlenaaGreat
open Go Go.Abs
def trF(R:List (List Int))(n q:Nat):List Nat:=(List.range n).filter fun i=>decide ((q:Int)∈R.getD i default)
theorem Ee{R:List (List Int)}{n q:Nat}:trF R (n+1) q=trF R n q++if (q:Int)∈R.getD n default then [n] else []:=by
 unfold trF;rw[List.range_succ,uc]
 congr 1
 by_cases h:(q:Int)∈R.getD n default
 ·rw[if_pos h,xm (by simpa using h)];rfl
 ·rw[if_neg h,wq (by simpa using h)];rfl
theorem BB{R:List (List Int)}{n q:Nat}:(trF R n q).length≤n:=by
 unfold trF;exact eX (List.length_filter_le _ _) (by simp)
def trL(c:Nat)(R:List (List Int)):List (List Int):=(List.range c).map fun q=>cf (trF R R.length q)
attribute [local irreducible] aK ak bf a5 aO aQ aC aS a7 bj Go.Abs.Fn aZ Go.Abs.Pure au aM Yl
set_option maxHeartbeats 2000000 in
theorem yp(c:Nat)(R:List (List Int))(hm:gY c R):pU 133 [dS c R] (.tup [dS R.length (trL c R),.int .i64 0]):=by
 refine pO KN ?_;simp only[Ls,aH];have h1:=kY c R hm;have z0:decide ((0:Int)≠0)=false:=rfl;have dm:Dat (.agg [.int .i64 c,bD R]):=dj c R;obtain⟨m1,m2,m3,m4⟩:=hm;have hzc:bn (AV.agg [AV.esl]) c=List.replicate c .esl:=by simp[bn,AV.cells]
 unfold dS;refine wnY (aI @z0 @eD) ?_;refine xy (k1:=.i64) (k2:=.i64) (n:=c) (m:=c) rfl ev0 ev0 (by omega) (Int.le_refl _) (by omega) (by omega) ?_;rw[ct,hzc,Nat.mul_one];refine wnY @eD ?_;refine lpI (X:=Nat×List AV) (fun x=>[(2,.ptr 1 2 0),(5,.ptr 3 2 0),(24,bD R),(25,.int .i64 R.length),(26,.int .i64 x.1)]) (fun x H' nx'=>x.1≤R.length∧4≤nx'∧H' 1=some [.int .i64 0,.esl]∧H' 3=some [.int .i64 R.length,.msl 2 c 1 0 c]∧MatOk H' 2 4 nx' c (trF R x.1) x.2) (fun x=>R.length-x.1) (0,List.replicate c .esl) ⟨bF _,aP _,by(repeat rw[ac (by omega)]);rw[ag],by rw[ag];rfl,MatOk.new (by(repeat rw[ac (by omega)]);rw[ag]) (fun j _=>rfl)⟩ ?_;rintro⟨i,vs⟩ H nx ⟨i1,i2,g1,g3,hmat⟩;dsimp only at i1 i2 g1 g3 hmat ⊢;by_cases hi:i<R.length
 rotate_left
 ·obtain rfl:i=R.length:=by omega
  have hst:Snap (aq H 1 [.int .i64 R.length,.msl 2 c 1 0 c]) (.msl 2 c 1 0 c) (bD (trL c R)):=(hmat.same (hi':=nx) (G:=trF R R.length) (ac (by omega)) (fun x x1 x2 x3=>ac (by omega)) (aP _) (fun j _=>rfl)).snap;refine wnY (aI @g1 @g3) ?_;exact jF hst rfl
 have ix:=Dr hi;have hrow:=m4 _ (bg hi);have hF:∀q,trF R (i+1) q=trF R i q++if (q:Int)∈R.getD i default then [i] else []:=fun q=>Ee
 generalize R.getD i default=r at *
 have hrasc:∀j,j<r.length→r.getD j default∉r.take j:=fun j hj hm=>by
  have hchain:∀b a,a<b→b<r.length→r.getD a default<r.getD b default:=fun b=>by
   induction b with
   |zero=>intro a ha;omega
   |succ b ih=>
    intro a ha hb;have q:=hrow.2.2 b hb;rcases(by omega:a<b∨a=b) with h|rfl
    ·have:=ih a h (by omega);omega
    ·exact q
  obtain⟨a,ha,e⟩:=jJ hm;rw[fy] at ha;have h5:=hchain j a (by omega) hj;have e2:r.getD a default=r.getD j default:=by rw[←e];simp[List.getD,show a<r.length by omega]
  omega
 refine wnY @ix ?_;refine lpI (X:=Nat×List AV) (fun x=>[(2,.ptr 1 2 0),(5,.ptr 3 2 0),(6,.int .i64 i),(24,bD R),(25,.int .i64 R.length),(26,.int .i64 i),(31,aG r),(32,.int .i64 r.length),(33,.int .i64 x.1)]) (fun x H' nx'=>x.1≤r.length∧nx≤nx'∧H' 1=some [.int .i64 0,.esl]∧H' 3=some [.int .i64 R.length,.msl 2 c 1 0 c]∧MatOk H' 2 4 nx' c (fun q=>trF R i q++if (q:Int)∈r.take x.1 then [i] else []) x.2) (fun x=>r.length-x.1) (0,vs) ⟨bF _,aP _,g1,g3,hmat.same rfl (fun _ _ _ _=>rfl) (aP _) (fun j _=>by simp)⟩ ?_;clear hmat g1 g3;rintro⟨j,vs⟩ H' nx' ⟨j1,j2,g1,g3,hmat⟩;dsimp only at j1 g1 g3 hmat ⊢;by_cases hj:j<r.length
 rotate_left
 ·rw[fv (by omega)] at hmat;refine wnY and_self ?_;exact⟨(i+1,vs),by dsimp only;omega,⟨by dsimp only;omega,by omega,g1,g3,hmat.same rfl (fun _ _ _ _=>rfl) (aP _) (fun q _=>hF q)⟩,ag0⟩
 have iy:=ixV hj;have hjr:=hrow.1 _ (bg hj);have htk:=bS hj;have hnm:=hrasc j hj;generalize r.getD j default=v at *;obtain⟨p,rfl⟩:∃p:Nat,v=p:=⟨v.toNat,by omega⟩
 have p1:p<c:=by omega
 refine wnY @iy ?_;refine pE 3 2 g3 hmat.box (by omega) fun S0 hS1 hS2 hsub=>?_;have hFp:trF R i p++(if (p:Int)∈r.take j then [i] else [])=trF R i p:=by rw[if_neg hnm,ga]
 have hrow2:=hmat.row p p1;rw[hFp] at hrow2
 have hvs:vs[p]?=some (vs.getD p .undef):=by
  have:=hmat.len;simp[List.getD,show p<vs.length by omega]
 have hlen:=hmat.len;have hb3:∀b,bL (vs.getD p .undef)=some b→4≤b∧b<nx'∧b≠2:=fun b hb=>hmat.bnd p b p1 hb;have hFl:=BB (R:=R) (n:=i) (q:=p);generalize hrv:vs.getD p .undef=rv at *;refine wnY (zI4 @hS1 @hS2 @hvs @hlen) ?_;refine dP ?_;refine wnY and_self ?_;refine⟨hsub _ (by rw[ac (by omega)];exact g3) (by rw[ac (by omega)];exact hmat.box),?_⟩;refine dP ?_;refine eR (hrow2.same fun b hb=>?_) ?_
 ·have:=hb3 b hb;rw[ac (by omega)]
 rintro s2 H4 nx4 hr2 k1 k2 k3 k4;have lo:∀x,x<nx'→bL rv≠some x→H4 x=H' x:=fun x x1 x2=>(k3 x (by omega) x2).trans (ac (by omega));have l5:∀x,x<4→H4 x=H' x:=fun x hx=>lo x (by omega) (fun h=>by have:=hb3 _ h;omega);have q2:=(l5 2 (by omega)).trans hmat.box;have q3:=(l5 3 (by omega)).trans g3;obtain⟨o1,o2⟩:=hr2.one;refine jz ⟨hsub _ q3 q2,?_⟩
 have hlp:bH vs p [s2]=vs.set p s2:=by
  simp only[bH,bK,fi,ce];rw[Iv,if_pos (by omega)];simp
 have zz:=aI @q2 (aI @o1 (aI @o2 (aI @hlen @hlp)));repeat' (first|apply a_n|refine zO ?_|refine vY ?_|refine nvY ?_|apply iW|refine stY ?_|fail)
 refine⟨(j+1,vs.set p s2),by dsimp only;omega,⟨by dsimp only;omega,by omega,?_,?_,?_⟩,ag0⟩
 ·rw[ac (by omega),l5 _ (by omega)];exact g1
 ·rw[ac (by omega)];exact q3
 ·dsimp only;refine hmat.put (sv:=s2) (x:=i) p1 (fun q hq=>?_) ?_ (fun b hb=>?_) (by rw[ag,hlp]) (fun x x1 x2 x3 x4=>?_) (by omega) (by omega)
  ·rw[htk];by_cases e:q=p
   ·subst e;rw[if_pos rfl,if_neg hnm,if_pos (m8 _ (cU.2 rfl)),ga]
   ·rw[if_neg e]
    congr 1
    refine w7 ?_;rw[eA,cU];exact⟨fun h=>h.resolve_right (by omega),.inl⟩
  ·rw[hFp,cL]
   exact hr2.same fun b hb=>ac (by
    rcases k4 b hb with h|h
    ·have:=hb3 b h;omega
    ·omega)
  ·rw[hrv];rcases k4 b hb with h|h
   ·exact .inl h
   ·exact .inr ⟨by omega,by omega,by omega⟩
  ·rw[ac x3,lo x x2 (by rw[hrv] at x4;exact x4)]
end Go.Proofs.YtekdaafnjdlenaaGreat
namespace Go.Proofs.YtekdaafnjdlenaaGreat
open Go Go.Abs
theorem im(v:Int)(ks:List Int):c8 (.one .int) (.int .i64 v) (ks.map (AV.int .i64))=some (if v∈ks then some (ks.idxOf v) else none):=
 mQ _ (AV.int .i64) (fun a b=>rfl) v ks
theorem L7(v:Int):∀{l:List Int},bo l→∃b,b≤l.length∧(∀i,i<b→l.getD i default<v)∧∀i,b≤i→i<l.length→v≤l.getD i default
 |[],_=>⟨0,aP _,fun i h=>absurd h (by omega),fun i _ h=>absurd h (by simp)⟩
 |x::l,h=>by
  obtain⟨h1,h2⟩:=gW.1 h;by_cases hx:x<v
  ·obtain⟨b,b1,b2,b3⟩:=L7 v h2;refine⟨b+1,by simp;omega,fun i hi=>?_,fun i hi hl=>?_⟩
   ·match i with
    |0=>exact hx
    |i+1=>exact b2 i (by omega)
   ·match i with
    |0=>omega
    |i+1=>exact b3 i (by omega) (by simp at hl;omega)
  ·refine⟨0,bF _,fun i h=>absurd h (by omega),fun i _ hl=>?_⟩
   match i with
   |0=>show v≤x;omega
   |i+1=>
    have:=h1 (l.getD i default) (ay (by simp at hl;omega));show v≤l.getD i default;omega
theorem H7{v:Int}{l:List Int}{b:Nat}(h1:∀i,i<b→l.getD i default<v)(h2:∀i,b≤i→i<l.length→v≤l.getD i default)(ha:bo l):(decide (b<l.length)&&decide (l.getD b default=v))=decide (v∈l):=by
 by_cases hm:v∈l
 ·obtain⟨i,hi,e⟩:=jJ hm;have e':l.getD i default=v:=by simp[List.getD,hi,e]
  have hbi:b=i:=by
   rcases r8 b i with h|h|h
   ·have h3:=h2 b (aP _) (by omega);have h4:=kB.1 ha b i (by omega) hi h;have e5:l.getD b default=l[b]:=by simp[List.getD,show b<l.length by omega]
    omega
   ·exact h
   ·have:=h1 i h;omega
  subst hbi;rw[aR hi,aR hm,aR e'];rfl
 ·rw[a6 hm];by_cases hlt:b<l.length
  ·rw[aR hlt,Bool.true_and,a6];intro h;exact hm (by rw[←h];exact ay hlt)
  ·rw[a6 hlt,Bool.false_and]
attribute [local irreducible] aK ak bf a5 aO aQ aC aS a7 bj Go.Abs.Fn aZ Go.Abs.Pure au aM Yl
theorem F6(x y:Int):pU 187 [.int .i64 x,.int .i64 y] (.bool (decide (x<y))):=by
 have h1:=jc x;have h2:=jc y;refine pO Hq ?_;simp only[IT,aH];refine wnZ and_self ?_;exact .bool _
theorem An(l:List Int)(v:Int)(hl:l.length≤1000000000)(ha:bo l):∃b:Nat,pU 163 [aG l,.int .i64 v] (.tup [.int .i64 b,.bool (decide (v∈l))]):=by
 obtain⟨b,hb,h1,h2⟩:=L7 v ha;refine⟨b,?_⟩;rw[←H7 h1 h2 ha];refine pO Kc ?_;simp only[KQ,aH];refine wnZ @er ?_;refine lg (X:=Nat×Nat) (fun x=>[(0,aG l),(1,.int .i64 v),(6,.int .i64 l.length),(7,.int .i64 x.1),(8,.int .i64 x.2)]) (fun x=>x.1≤b∧b≤x.2∧x.2≤l.length) (fun x=>x.2-x.1) (0,l.length) ⟨bF _,hb,aP _⟩ ag0 ?_;rintro⟨i,j⟩ ⟨g1,g2,g3⟩;dsimp only at g1 g2 g3 ⊢;by_cases hij:i<j
 ·have hh:(i+j)/2<l.length:=by omega
  have hc:=F6 (l.getD ((i+j)/2) default) v;have ix:=ixV hh;by_cases hn:l.getD ((i+j)/2) default<v
  ·rw[aR hn] at hc;have hbb:(i+j)/2<b:=Nat.lt_of_not_le fun h=>by have:=h2 _ h hh;omega
   refine wnZ (zI4 @er @gd @Bt @ix) ?_;exact⟨((i+j)/2+1,j),⟨by omega,by omega,by omega⟩,by dsimp only;omega,ag0,rfl,rfl⟩
  ·rw[a6 hn] at hc;have hbb:b≤(i+j)/2:=Nat.le_of_not_lt fun h=>hn (h1 _ h);refine wnZ (zI4 @er @gd @Bt @ix) ?_;exact⟨(i,(i+j)/2),⟨by omega,by omega,by omega⟩,by dsimp only;omega,ag0,rfl,rfl⟩
 ·have ei:i=b:=by omega
  have ej:j=b:=by omega
  clear hij g1 g2 g3;subst ei;have dij:decide ((i:Int)<(j:Int))=false:=a6 (by omega);by_cases hlt:i<l.length
  ·have hc:=jc (l.getD i default);have ix:=ixV hlt;have hna:=jc v
   have hn2:∀n:Int,pU 188 [.int .i64 n] (.bool false):=fun n=>by
    refine pO JR ?_;simp only[KJ,aH];refine wnZ and_self ?_;exact ci (by simp)
   have dlt:decide ((i:Int)<(l.length:Int))=true:=aR (by omega);by_cases hv:l.getD i default=v
   ·have dv:decide (l.getD i default=v)=true:=aR hv;rw[dv,aR hlt,Bool.true_and];refine wnZ (zI5 @er @ix @dlt @dij @dv) ?_;exact bC (ah (.int _ _) (ah (.bool _) ao))
   ·have dv:decide (l.getD i default=v)=false:=a6 hv;rw[dv,Bool.and_false];have zz:=aI @er (aI @ix (aI @dlt (aI @dij @dv)));repeat' (first|refine zW ?_|apply a_n|apply a_x|refine zO ?_|refine vZ ?_|refine cZ ?_ (hp:=by exact hn2 _)|refine gTZ ?_|refine gFZ ?_|refine cFZ ?_|refine bU rfl ?_|refine r2Z ?_|fail)
    exact bC (ah (.int _ _) (ah (.bool _) ao))
  ·have dlt:decide ((i:Int)<(l.length:Int))=false:=a6 (by omega);rw[a6 hlt,Bool.false_and];refine wnZ (zI3 @er @dlt @dij) ?_;exact bC (ah (.int _ _) (ah (.bool _) ao))
theorem FL(l:List Int)(v:Int)(hl:l.length≤1000000000)(ha:bo l):pU 146 [aG l,.int .i64 v] (.bool (decide (v∈l))):=by
 obtain⟨b,hb⟩:=An l v hl ha;refine pO LO ?_;simp only[Lx,aH];refine wnZ and_self ?_;exact .bool _
end Go.Proofs.YtekdaafnjdlenaaGreat
namespace Go.Proofs.YtekdaafnjdlenaaGreat
open Go Go.Abs
def BL(c n:Nat)(x:Ln):Prop:=(∀z∈x.1,0≤z∧z<(c:Int))∧∀j∈x.2,0≤j∧j<(n:Int)
theorem ft{a:List Int}{c:Nat}(ha:bo a)(h:∀z∈a,0≤z∧z<(c:Int)):a.length≤c:=by
 have hn:a.Nodup:=xX (fun{x y}(q:x<y) e=>by omega) ha
 have:=yD hn (l₂:=(List.range c).map fun(k:Nat)=>(k:Int)) fun z hz=>by
  have:=h z hz;exact bG.2 ⟨z.toNat,eO.2 (by omega),by show((z.toNat:Nat):Int)=z;omega⟩
 simpa using this
theorem BL.len{c n:Nat}{x:Ln}(h:BL c n x)(ha:cr x):x.1.length≤c∧x.2.length≤n:=⟨ft ha.1 h.1,ft ha.2 h.2⟩
theorem BL.add{c n:Nat}{x l:Ln}(hx:BL c n x)(hl:BL c n l)(ax:cr x)(al:cr l):BL c n (dX x l):=by
 refine⟨fun z hz=>?_,fun z hz=>?_⟩
 ·rcases(dp ax.1 al.1).1 hz with q|q
  ·exact hx.1 z q.1
  ·exact hl.1 z q.1
 ·rcases(dp ax.2 al.2).1 hz with q|q
  ·exact hx.2 z q.1
  ·exact hl.2 z q.1
theorem Ay{c n:Nat}{p:Ln→Bool}:∀{M:List Ln}{x:Ln},(∀l∈M,cr l∧BL c n l)→cr x→BL c n x→BL c n (rdL M p x)
 |[],_,_,_,h=>h
 |l::M,x,hM,hx,h=>by
  unfold rdL;rw[List.foldl_cons];have hl:=hM l di;have hM':=fun m hm=>hM m (d8 _ hm);show BL c n (rdL M p (if p l=true then dX x l else x));split
  ·exact Ay hM' (eH hx hl.1) (h.add hl.2 hx hl.1)
  ·exact Ay hM' hx h
theorem yB:∀{i:Nat}{a b:List Int},i≤a.length→(∀j,j<i→∀z∈b,a.getD j default<z)→∀j,j<i→(bV a b).getD j default=a.getD j default
 |0,_,_,_,_,j,hj=>absurd hj (by omega)
 |i+1,[],_,h,_,_,_=>absurd h (by simp)
 |i+1,x::a,[],h,_,j,_=>by rw[gD]
 |i+1,x::a,y::b,h,hz,j,hj=>by
  have h0:x<y:=hz 0 (by omega) y di;rw[n6,if_pos h0]
  match j with
  |0=>rfl
  |j+1=>exact yB (i:=i) (a:=a) (b:=y::b) (by simpa using h) (fun k hk z hz'=>hz (k+1) (by omega) z hz') j (by omega)
theorem vM:∀{i:Nat}{a b:List Int},i≤a.length→(∀j,j<i→∀z∈b,a.getD j default<z)→i≤(bV a b).length
 |0,_,_,_,_=>bF _
 |i+1,[],_,h,_=>absurd h (by simp)
 |i+1,x::a,[],h,_=>by rw[gD];exact h
 |i+1,x::a,y::b,h,hz=>by
  have h0:x<y:=hz 0 (by omega) y di;rw[n6,if_pos h0,bK];have:=vM (i:=i) (a:=a) (b:=y::b) (by simpa using h) (fun k hk z hz'=>hz (k+1) (by omega) z hz');omega
theorem Dl{M:List Ln}{p q:Ln→Bool}{l:Ln}(h:∀m∈M,q m=true→p m=true)(hl:l∈M)(h1:p l=true)(h2:q l=false):M.countP q<M.countP p:=by
 induction M with
 |nil=>cases hl
 |cons m M ih=>
  rw[List.countP_cons,List.countP_cons];have hle:M.countP q≤M.countP p:=List.countP_mono_left fun x hx=>h x (d8 _ hx);rcases cQ.1 hl with rfl|hl
  ·rw[if_pos h1,if_neg (by rw[h2];decide)];omega
  ·have:=ih (fun x hx=>h x (d8 _ hx)) hl;have h3:=h m di;by_cases hq:q m=true
   ·rw[if_pos hq,if_pos (h3 hq)];omega
   ·rw[if_neg hq];split<;>omega
def nL(M:List Ln)(x:Ln):Nat:=M.countP fun l=>decide (ld l.1∈x.1)
theorem Ji{M:List Ln}{x l:Ln}(hM:RedU M)(hx:cr x)(hl:l∈M)(h:ld l.1∈x.1):nL M (dX x l)<nL M x:=by
 have hla:=hM.asc l hl;refine Dl (l:=l) (fun m hm hq=>?_) hl (aR h) (a6 fun hq=>?_)
 ·have hq:=oC hq;refine aR ?_;rcases(dp hx.1 hla.1).1 hq with q|q
  ·exact q.1
  ·have:=hM.own m hm l hl q.1;rw[←this];exact h
 ·rcases(dp hx.1 hla.1).1 hq with q|q
  ·exact q.2 (dg (hM.ne l hl))
  ·exact q.2 h
def bT(M:List Ln):List Int:=M.map fun l=>ld l.1
def eB(x:Ln):AV:=.agg [aG x.1,aG x.2]
def LM(H:Hp)(m:Nat)(M:List Ln):Prop:=H m=some [.omap ((bT M).map (AV.int .i64)) (M.map eB)]
theorem uY{M:List Ln}{v:Int}(h:v∈bT M):∃l∈M,ld l.1=v∧(M.map eB).getD ((bT M).idxOf v) .undef=eB l:=by
 have hi:=oo.2 h;have h2:(bT M)[(bT M).idxOf v]=v:=List.getElem_idxOf hi;generalize (bT M).idxOf v=i at *;have hi':i<M.length:=by unfold bT at hi;simpa using hi
 refine⟨M[i],nj hi',?_,?_⟩
 ·have h3:(bT M)[i]'hi=ld M[i].1:=List.getElem_map ..;rw[←h3];exact h2
 ·simp[List.getD,hi']
theorem mN{M:List Ln}{v:Int}:v∈bT M↔ ∃l∈M,ld l.1=v:=by unfold bT;rw[bG]
theorem Jp{T:Tm}{S:Hp}{m:Nat}{ks:List Int}{vs:List AV}{mo ko:Opd}{v:Int}{z:AV}{ok:Bool}(h1:ov T mo=.mp m)(h2:S m=some [.omap (ks.map (AV.int .i64)) vs])(h3:ov T ko=.int .i64 v):ilk T S (.mget (.one .int) z ok mo ko)=some (Go.Abs.mget z ok (if v∈ks then some (ks.idxOf v) else none) vs):=by
 show lkS _ _ _ (ov T mo) (ov T ko) S=_;rw[h1,h3];simp only[lkS,h2,im];rfl
attribute [local irreducible] aK ak bf a5 aO aQ aC aS a7 bj Go.Abs.Fn aZ Go.Abs.Pure au aM Yl
set_option maxHeartbeats 1000000 in
theorem Fg(M:List Ln)(c n:Nat)(hc:c≤4096)(hn:n≤4096)(hM:RedU M)(hMb:∀l∈M,BL c n l)(x:Ln)(hx:cr x)(hxb:BL c n x){a:AV}{Hf HA H:Hp}(hfz:Fz Hf HA H)(hs:Snap Hf a (eB x)){nx m lb:Nat}(hlb:lb<nx)(hm:m<nx)(hne:m≠lb)(h1:H lb=some [.mp m])(h2:LM H m M):
    Abs.Fn Tryz.prog 149 [a,.ptr lb 1 0] HA nx fun r H' nx'=>r=eB (eV M x)∧(∀b,b<nx→H' b=H b)∧nx≤nx':=by
 refine fO JD ?_;simp only[Kl,aH];have hx0:eB x=.agg [aG x.1,aG x.2]:=rfl;refine dD ?_;refine pr Hf H [(0,eB x),(1,.ptr lb 1 0)] hfz ⟨.inr hs,.inl rfl,trivial⟩ ?_;rw[hx0];clear hs hfz;refine wnY @h1 ?_;refine lpI (X:=Ln×Nat) (fun y=>[(1,.ptr lb 1 0),(2,.ptr nx 2 0),(3,.ptr (nx+1) 2 0),(4,.int .i64 y.2)]) (fun y H' nx'=>y.2≤y.1.1.length∧nx+2≤nx'∧cr y.1∧BL c n y.1∧eV M y.1=eV M x∧(∀j,j<y.2→∀l∈M,ld l.1≠y.1.1.getD j default)∧H' nx=some [aG y.1.1,aG y.1.2]∧H' (nx+1)=some [.esl,.esl]∧∀b,b<nx→H' b=H b) (fun y=>nL M y.1*10000+(y.1.1.length-y.2)) (x,0) ⟨bF _,aP _,hx,hxb,rfl,fun j h=>absurd h (by omega),by rw[ac (by omega),ag],by rw[ag],fun b hb=>by rw[ac (by omega),ac (by omega)]⟩ ?_;clear hx hxb hx0;rintro⟨y,i⟩ H' nx' ⟨g1,g2,g3,g4,g5,g6,g7,g8,g9⟩;dsimp only at g1 g2 g3 g4 g5 g6 g7 g8 g9 ⊢;obtain⟨l1,l2⟩:=g4.len g3;have k1:H' lb=some [.mp m]:=(g9 lb hlb).trans h1;have k2:LM H' m M:=(g9 m hm).trans h2;by_cases hi:i<y.1.length
 rotate_left
 ·have hr:eV M y=y:=CV hM g3 fun l hl hz=>by
    obtain⟨j,hj,e⟩:=jJ hz;refine g6 j (by omega) l hl ?_;rw[←e];simp[List.getD,hj]
  have z:decide ((i:Int)<y.1.length)=false:=a6 (by omega);rw[←g5,hr];refine wnY (zI4 @er @z @g7 @g8) ?_;exact⟨rfl,fun b hb=>by rw[ac (by omega)];exact g9 b hb,by omega⟩
 have z:decide ((i:Int)<y.1.length)=true:=aR (by omega);have ix:=ixV hi;have hvm:=ay hi;generalize hv:y.1.getD i default=v at *;refine wnY (zI4 @er @z @ix @g7) ?_;refine AJ lb m nx k1 k2 g7 (by omega) (by omega) (by omega) fun S hS1 hS2 hS3 hsub=>?_;refine wnY (zI4 @hS1 @hS2 @hS3 @ix) ?_;simp only[fQ,List.map_nil,List.getD_cons_succ,List.getD_cons_zero];by_cases hk:v∈bT M
 rotate_left
 ·have hmg:Go.Abs.mget (.agg [.esl,.esl]) true (if v∈bT M then some ((bT M).idxOf v) else none) (M.map eB)=.tup [.agg [.esl,.esl],.bool false]:=by rw[if_neg hk];rfl
  refine Jl (Jp ev0 hS2 ev0) ?_;rw[hmg];refine wnY and_self ?_;refine dP ?_;refine wnY and_self ?_;refine⟨hsub _ (by rw[ac (by omega)];exact k1) (by rw[ac (by omega)];exact k2) (by rw[ac (by omega)];exact g7),?_⟩;refine wnY and_self ?_;refine⟨(y,i+1),by dsimp only;omega,⟨by dsimp only;omega,by omega,g3,g4,g5,fun j hj l hl=>?_,by rw[ac (by omega),ac (by omega)];exact g7,by rw[ac (by omega),ac (by omega)];exact g8,fun b hb=>by rw[ac (by omega),ac (by omega)];exact g9 b hb⟩,ag0⟩;dsimp only;rcases(by omega:j<i∨j=i) with q|rfl
  ·exact g6 j q l hl
  ·rw[hv];exact fun e=>hk (mN.2 ⟨l,hl,e⟩)
 obtain⟨l,hl,hld,hgd⟩:=uY hk
 have hmg:Go.Abs.mget (.agg [.esl,.esl]) true (if v∈bT M then some ((bT M).idxOf v) else none) (M.map eB)=.tup [.agg [aG l.1,aG l.2],.bool true]:=by
  rw[if_pos hk];show AV.tup [(M.map eB).getD ((bT M).idxOf v) .undef,.bool true]=_;rw[hgd];rfl
 refine Jl (Jp ev0 hS2 ev0) ?_;rw[hmg];refine wnY and_self ?_;refine dP ?_;refine wnY and_self ?_;refine⟨hsub _ (by rw[ac (by omega)];exact k1) (by rw[ac (by omega)];exact k2) (by rw[ac (by omega)];exact g7),?_⟩;refine wnY and_self ?_;have hla:=hM.asc l hl;have hlb':=hMb l hl;obtain⟨l3,l4⟩:=hlb'.len hla;have hs1:=vq y.1 l.1 (by omega) (by omega);have hs2:=vq y.2 l.2 (by omega) (by omega)
 have hlt:∀j,j<i→∀w∈l.1,y.1.getD j default<w:=fun j hj w hw=>by
  have h5:=nB hla.1 hw;have h6:=kB.1 g3.1 j i (by omega) hi hj;have e1:y.1.getD j default=y.1[j]:=by simp[List.getD,show j<y.1.length by omega]
  have e2:y.1.getD i default=y.1[i]:=by simp[List.getD,hi]
  omega
 have hp1:=yB (i:=i) (a:=y.1) (b:=l.1) (by omega) hlt;have hp2:=vM (i:=i) (a:=y.1) (b:=l.1) (by omega) hlt;have hnl:=Ji hM g3 hl (by rw[hld];exact hvm);have ha':=eH g3 hla;have hb':=g4.add hlb' g3 hla;obtain⟨l5,_⟩:=hb'.len ha';have hrx:=CL hM g3 hl;have e7:aq (aq H' nx' [AV.esl,AV.esl]) nx' (bH [AV.esl,AV.esl] 0 [aG l.1,aG l.2]) nx'=some [aG l.1,aG l.2]:=by rw[ag];rfl
 have e8:aq (aq H' nx' [AV.esl,AV.esl]) nx' (bH [AV.esl,AV.esl] 0 [aG l.1,aG l.2]) nx=some [aG y.1,aG y.2]:=by rw[ac (by omega),ac (by omega)];exact g7
 have e9:∀b,b≠nx→b<nx'→aq (aq H' nx' [AV.esl,AV.esl]) nx' (bH [AV.esl,AV.esl] 0 [aG l.1,aG l.2]) b=H' b:=fun b h1 h2=>by rw[ac (by omega),ac (by omega)]
 generalize aq (aq H' nx' [AV.esl,AV.esl]) nx' (bH [AV.esl,AV.esl] 0 [aG l.1,aG l.2])=H2 at *;have hadd:dX y l=(bV y.1 l.1,bV y.2 l.2):=rfl;generalize bV y.1 l.1=s1 at *;generalize bV y.2 l.2=s2 at *;refine wkY (aI @e7 @e8) ?_;refine⟨((s1,s2),i),?_,⟨hp2,by omega,by rw[←hadd];exact ha',by rw[←hadd];exact hb',by rw[←hadd,hrx];exact g5,fun j hj l' hl'=>by dsimp only;rw[hp1 j hj];exact g6 j hj l' hl',by rw[ag];rfl,by rw[ac (by omega),e9 _ (by omega) (by omega)];exact g8,fun b hb=>by rw[ac (by omega),e9 _ (by omega) (by omega)];exact g9 b hb⟩,ag0⟩;rw[hadd] at hnl l5;dsimp only at hnl l5 ⊢;omega
end Go.Proofs.YtekdaafnjdlenaaGreat
namespace Go.Proofs.YtekdaafnjdlenaaGreat
open Go Go.Abs
open Nat (reduceEqDiff reduceAdd reduceLeDiff)
def cLs(l:List Ln):List AV:=l.flatMap fun x=>[aG x.1,aG x.2]
def lS(l:List Ln):AV:=iO 2 eB l
theorem E5{l:List Ln}{x:Ln}:cLs (l++[x])=cLs l++[aG x.1,aG x.2]:=by unfold cLs;simp
theorem BZ{l:List Ln}:(cLs l).length=l.length*2:=by
 induction l with
 |nil=>rfl
 |cons x l ih=>show([aG x.1,aG x.2]++cLs l).length=_;rw[c7,ih,bK];simp;omega
theorem Gl{l:List Ln}:cLs l=(l.map eB).flatMap AV.cells:=by
 induction l with
 |nil=>rfl
 |cons x l ih=>show [aG x.1,aG x.2]++cLs l=_;rw[ih];rfl
theorem GJ{H:Hp}{s:AV}{l:List Ln}(h:Row H 2 s (cLs l)):Snap H s (lS l):=by
 refine Row.snap (elems:=l.map eB) (by rw[←Gl];exact h) (fun y hy=>?_) (by omega) (fun y hy c hx=>?_)
 ·obtain⟨n,_,rfl⟩:=bG.1 hy;rfl
 ·obtain⟨n,_,rfl⟩:=bG.1 hy;simp only[eB,AV.cells,cQ,List.not_mem_nil,or_false] at hx;rcases hx with rfl|rfl<;>exact cJ _
theorem yk{M:List Ln}(hM:RedU M):(bT M).Nodup:=by
 unfold bT;refine List.pairwise_map.2 (List.Pairwise.imp_of_mem (fun{x y} hx hy hne e=>?_) hM.nodup);have:=dg (hM.ne y hy);rw[←e] at this;exact hne (hM.own x hx y hy this).symm
def vsS(M:List Ln)(y:Ln)(seen:List Nat):List AV:=(List.range M.length).map fun i=>eB (if i∈seen then jo y (M.getD i default) else M.getD i default)
theorem F1{M:List Ln}{y:Ln}:vsS M y []=M.map eB:=by
 refine List.ext_getElem (by simp[vsS]) fun i h1 h2=>?_;have h2:i<M.length:=by simpa using h2
 simp[vsS,List.getD,h2]
theorem A0{M:List Ln}{y:Ln}{seen:List Nat}{i:Nat}(hi:i<M.length)(h:i∉seen):(vsS M y seen).getD i .undef=eB (M.getD i default):=by
 simp[vsS,List.getD,hi,h]
theorem BS{M:List Ln}{y:Ln}{seen:List Nat}{i:Nat}:(vsS M y seen).set i (eB (jo y (M.getD i default)))=vsS M y (seen++[i]):=by
 refine List.ext_getElem (by simp[vsS]) fun j h1 h2=>?_;have h2:j<M.length:=by simpa[vsS] using h2
 rw[List.getElem_set];by_cases e:i=j
 ·subst e;simp[vsS]
 ·have e':¬j=i:=fun h=>e h.symm;simp[vsS,e,e']
theorem Eu{M:List Ln}{y:Ln}{seen:List Nat}{i:Nat}(hi:i<M.length)(hs:i∉seen)(h:ld y.1∉(M.getD i default).1):vsS M y (seen++[i])=vsS M y seen:=by
 rw[←BS,show jo y (M.getD i default)=M.getD i default by unfold jo;rw[if_neg h],←A0 (y:=y) hi hs];refine List.ext_getElem (by simp) fun j h1 h2=>?_;rw[List.getElem_set];split
 ·rename_i e;subst e;simp[List.getD,h2]
 ·rfl
theorem GD{M:List Ln}{y:Ln}{seen:List Nat}(h:∀i,i<M.length→i∈seen):vsS M y seen=(M.map (jo y)).map eB:=by
 refine List.ext_getElem (by simp[vsS]) fun i h1 h2=>?_;have h2:i<M.length:=by simpa using h2
 simp[vsS,List.getD,h2,h i h2]
theorem Al{R:List (List Int)}{c k:Nat}(hR:∀r∈R,bo r)(hv:∀r∈R,∀z∈r,0≤z∧z<(c:Int))(hk:k≤R.length):∀l∈(stE R k).1,BL c R.length l:=fun l hl=>by
 have hs:=i9 hR hk;refine⟨kL (fun r hr=>hR r (io hr)) (fun r hr=>hv r (io hr)) (hs.inS l hl),fun j hj=>?_⟩;have:=(hs.ok l hl).2 j hj;omega
theorem xk{R:List (List Int)}(hR:∀r∈R,bo r){k:Nat}(hk:k≤R.length):(stE R k).1.length≤k∧(stE R k).2.length≤k:=by
 have:=(i9 hR hk).len;omega
attribute [local irreducible] aK ak bf a5 aO aQ aC aS a7 bj Go.Abs.Fn aZ Go.Abs.Pure au aM Yl
theorem Ek(l:List Int)(hl:l.length≤1000000000):PureF Tryz.prog 150 [aG l] (aG l):=by
 refine qO KY ?_;simp only[Li,aH];refine wnZ and_self ?_;refine vW (k:=l.length) (by((try simp only[bX,ZA,reduceEqDiff,↓reduceIte,reduceAdd,reduceLeDiff]);(try with_reducible rfl));exact Am) (fun h=>?_) (fun h=>?_) (fun h=>?_)
 ((all_goals (try have zz:=and_self));(repeat' (first|refine zW ?_|apply a_n|apply a_r|refine zO ?_|refine vZ ?_|refine b0Z ?_|refine a0Z ?_|refine cTZ ?_|refine cFZ ?_|refine bU rfl ?_|refine r1Z ?_|fail));(all_goals (try clear zz)))
 ·exact vF ag (by omega) rfl
 ·exact Co h
 ·exact vF ag (by omega) rfl
end Go.Proofs.YtekdaafnjdlenaaGreat
namespace Go.Proofs.YtekdaafnjdlenaaGreat
open Go Go.Abs
theorem GG{l:List Int}(h:l≠[]):ee 1 (aG l) (.int .i64 0)=some (.iptr [.int .i64 (ld l)] 0):=by
 have:=ixV (l:=l) (k:=0) (gy.2 h);exact this
theorem yW{M:List Ln}{y:Ln}(hM:RedU M)(hy:cr y)(h0:y.1≠[])(hn:∀l∈M,ld l.1∉y.1):bT (M.map (jo y))=bT M:=by
 unfold bT;rw[List.map_map];exact wG fun l hl=>(tJ hM hy h0 hn hl).2.2.2
theorem EY{M:List Ln}(hM:RedU M){l:Ln}{v:Int}(hl:l∈M)(e:ld l.1=v):(M.find? fun l=>decide (ld l.1=v))=some l:=by
 cases h:M.find? fun l=>decide (ld l.1=v) with
 |none=>
  have:=List.find?_eq_none.1 h l hl;exact absurd (aR e) this
 |some m=>
  have h1:=oC (List.find?_some (p:=fun l:Ln=>decide (ld l.1=v)) h);have h2:=List.mem_of_find?_eq_some h;have:=dg (hM.ne m h2);rw[h1,←e] at this;rw[hM.own l hl m h2 this]
theorem Ap{M:List Ln}{v:Int}(h:v∉bT M):(M.find? fun l=>decide (ld l.1=v))=none:=
 List.find?_eq_none.2 fun l hl hd=>h (mN.2 ⟨l,hl,oC hd⟩)
theorem zJ{M:List Ln}{c:Nat}:(lC M c).length≤c:=by
 induction c with
 |zero=>simp[lC]
 |succ c ih=>
  rw[pR,c7];have:(M.find? fun l=>decide (ld l.1=(c:Int))).toList.length≤1:=by cases M.find? fun l=>decide (ld l.1=(c:Int))<;>simp
  omega
theorem pg{H:Hp}{s:AV}{l:List (List Int)}(h:Row H 1 s (l.map aG)):Snap H s (bD l):=by
 rw[GB];exact h.snapL' (fun _=>rfl) (fun x _=>cJ x)
theorem dl{c:Int}{R:List (List Int)}:dS c R=.agg [.int .i64 c,bD R]:=rfl
attribute [local irreducible] aK ak bf a5 aO aQ aC aS a7 bj Go.Abs.Fn aZ Go.Abs.Pure au aM Yl
set_option maxHeartbeats 2000000 in
theorem vn(c:Nat)(R:List (List Int))(hc:c≤4096)(hl:R.length≤4096)(hR:∀r∈R,bo r)(hv:∀r∈R,∀z∈r,0≤z∧z<(c:Int)):pU 115 [dS c R] (.tup [lS (lB R c),bD (stE R R.length).2]):=by
 refine pO KC ?_;simp only[KU,aH];rw[dl];refine dD ?_
 repeat' (first|apply a_n|refine zO ?_|refine vY ?_|refine bxY ?_|fail)
 refine dD ?_;refine wnY and_self ?_;refine uJ ?_;refine ry (cs:=[.nilm]) rfl rfl rfl ?_
 repeat' (first|apply a_n|refine zO ?_|refine stY ?_|fail)
 refine dD ?_
 repeat' (first|apply a_n|refine zO ?_|refine vY ?_|fail)
 refine dD ?_
 repeat' (first|apply a_n|refine zO ?_|refine vY ?_|fail)
 refine co (fun T H nx=>T 1=.ptr 0 2 0∧T 4=.ptr 2 1 0∧3≤nx∧H 0=some [.int .i64 c,bD R]∧H 2=some [.mp 1]∧LM H 1 (stE R R.length).1∧∃dv,T 6=dv∧Row H 1 dv ((stE R R.length).2.map aG)∧∀b,bL dv=some b→2<b∧b<nx) ?_ ?_
 ·refine wnY @eD ?_;refine lpI (X:=AV×Nat) (fun x=>[(1,.ptr 0 2 0),(4,.ptr 2 1 0),(5,.func 149 [.ptr 2 1 0]),(6,x.1),(19,bD R),(20,.int .i64 R.length),(21,.int .i64 x.2)]) (fun x H nx=>x.2≤R.length∧3≤nx∧H 0=some [.int .i64 c,bD R]∧H 2=some [.mp 1]∧LM H 1 (stE R x.2).1∧Row H 1 x.1 ((stE R x.2).2.map aG)∧∀b,bL x.1=some b→2<b∧b<nx) (fun x=>R.length-x.2) (.esl,0) ⟨bF _,aP _,rfl,rfl,rfl,Row.nil,fun b h=>(by cases h)⟩ ?_;rintro⟨dv,k⟩ H nx ⟨h1,h2,h3,h4,h5,h6,h7⟩;dsimp only at h1 h2 h3 h4 h5 h6 h7 ⊢;by_cases hk:k<R.length
  rotate_left
  ·obtain rfl:k=R.length:=by omega
   refine wnY and_self ?_;exact⟨rfl,rfl,h2,h3,h4,h5,dv,rfl,h6,h7⟩
  have ix:=Dr hk;have hrow:=hR _ (ay hk);have hrv:=hv _ (ay hk);have hst:=i9 hR (i:=k) (by omega);have hbl:=Al hR hv (k:=k) (by omega);have hsl:=xk hR (k:=k) (by omega);have hss:stE R (k+1)=if (eV (stE R k).1 (R.getD k default,[(k:Int)])).1=[] then((stE R k).1,(stE R k).2++[(eV (stE R k).1 (R.getD k default,[(k:Int)])).2]) else(ll (stE R k).1 (eV (stE R k).1 (R.getD k default,[(k:Int)])),(stE R k).2):=rfl
  generalize R.getD k default=r at *;generalize stE R k=MD at *;obtain⟨M,D⟩:=MD;dsimp only at *;have hrl:=ft hrow hrv;have hcl:=Ek r (by omega);refine wnY @ix ?_;refine fJ ev0 ev0 hcl (ah (cJ _ _) ao) ?_;refine wnY @ix ?_;have hM:=hst.red;have hax:cr (r,[(k:Int)]):=⟨hrow,List.pairwise_singleton _ _⟩
  have hbx:BL c R.length (r,[(k:Int)]):=⟨hrv,fun j hj=>by rw[cU.1 hj];omega⟩
  refine bd ev0 ev0 (Fg M c R.length hc hl hM hbl (r,[(k:Int)]) hax hbx (Fz.one ag) (tY (ah (cJ _ _) (ah (d6 (n:=1) (len:=1) (l:=[(k:Int)]) kU rfl rfl) ao))) (m:=1) (lb:=2) (by omega) (by omega) (by omega) (by rw[cC (by omega),ac (by omega)];exact h4) (by unfold LM;rw[cC (by omega),ac (by omega)];exact h5)) ?_;rintro _ H1 nx1 ⟨rfl,g1,g2⟩;have hay:cr (eV M (r,[(k:Int)])):=iJ (fun l hl=>hM.asc l hl) hax;have hby:BL c R.length (eV M (r,[(k:Int)])):=Ay (fun l hl=>⟨hM.asc l hl,hbl l hl⟩) hax hbx;have hno:∀l∈M,ld l.1∉(eV M (r,[(k:Int)])).1:=fun l hl=>mP hM hax hl;generalize eV M (r,[(k:Int)])=y at *;have lo:∀b,b<nx→H1 b=H b:=fun b hb=>(g1 b (by omega)).trans (by rw[cC (by omega),ac (by omega)]);have e1:eB y=.agg [aG y.1,aG y.2]:=rfl;rw[e1];by_cases h0:y.1=[]
  ·rw[if_pos h0] at hss;have z:decide ((y.1.length:Int)=0)=true:=by rw[h0];rfl
   refine wnY (aI @er @z) ?_;refine eR (h6.same fun b hb=>?_) ?_
   ·have:=h7 b hb;rw[ac (by omega),ac (by omega),ac (by omega)];exact lo b (by omega)
   rintro s2 H2 nx2 hr2 i1 i2 i3 i4;have lo2:∀b,b<nx→bL dv≠some b→H2 b=H b:=fun b hb hn=>(i3 b (by omega) hn).trans (by rw[ac (by omega),ac (by omega),ac (by omega)];exact lo b hb);have hd:∀b,b≤2→bL dv≠some b:=fun b hb e=>by have:=h7 b e;omega
   refine wnY and_self ?_;refine⟨(s2,k+1),by dsimp only;omega,⟨by dsimp only;omega,by omega,(lo2 0 (by omega) (hd 0 (by omega))).trans h3,(lo2 2 (by omega) (hd 2 (by omega))).trans h4,?_,?_,fun b hb=>?_⟩,ag0⟩
   ·dsimp only;rw[hss];exact(lo2 1 (by omega) (hd 1 (by omega))).trans h5
   ·dsimp only;rw[hss,cL];exact hr2
   ·rcases i4 b hb with h|h
    ·have:=h7 b h;omega
    ·omega
  rw[if_neg h0] at hss;have z:decide ((y.1.length:Int)=0)=false:=a6 (by have:=gy.2 h0;omega);refine wnY (aI @er @z) ?_;have hd:∀b,b≤2→bL dv≠some b:=fun b hb e=>by have:=h7 b e;omega
  have q0:aq (aq H1 nx1 [AV.esl,AV.esl]) nx1 (bH [AV.esl,AV.esl] 0 [aG y.1,aG y.2]) 0=some [.int .i64 c,bD R]:=by rw[ac (by omega),ac (by omega)];exact(lo 0 (by omega)).trans h3
  have q2:aq (aq H1 nx1 [AV.esl,AV.esl]) nx1 (bH [AV.esl,AV.esl] 0 [aG y.1,aG y.2]) 2=some [.mp 1]:=by rw[ac (by omega),ac (by omega)];exact(lo 2 (by omega)).trans h4
  have q1:LM (aq (aq H1 nx1 [AV.esl,AV.esl]) nx1 (bH [AV.esl,AV.esl] 0 [aG y.1,aG y.2])) 1 M:=by unfold LM;rw[ac (by omega),ac (by omega)];exact(lo 1 (by omega)).trans h5
  have qy:aq (aq H1 nx1 [AV.esl,AV.esl]) nx1 (bH [AV.esl,AV.esl] 0 [aG y.1,aG y.2]) nx1=some [aG y.1,aG y.2]:=by rw[ag];rfl
  have qd:Row (aq (aq H1 nx1 [AV.esl,AV.esl]) nx1 (bH [AV.esl,AV.esl] 0 [aG y.1,aG y.2])) 1 dv (D.map aG):=h6.same fun b hb=>by
   have:=h7 b hb;rw[ac (by omega),ac (by omega)];exact lo b (by omega)
  generalize aq (aq H1 nx1 [AV.esl,AV.esl]) nx1 (bH [AV.esl,AV.esl] 0 [aG y.1,aG y.2])=H2 at *;clear lo g1;refine wnY @q2 ?_;refine Iu ev0 q1 ?_;refine wnY and_self ?_;have hkl:(bT M).length=M.length:=by unfold bT;rw[bw]
  have hkn:=yk hM;have ix0:=GG h0;obtain⟨yl1,yl2⟩:=hby.len hay;refine lpI (X:=List Nat) (fun x=>[(1,.ptr 0 2 0),(4,.ptr 2 1 0),(5,.func 149 [.ptr 2 1 0]),(6,dv),(9,.ptr nx1 2 0),(19,bD R),(20,.int .i64 R.length),(21,.int .i64 k),(43,.itr (nx1+1))]) (fun seen H nx'=>H (nx1+1)=some [.oiter 1 ((bT M).map (AV.int .i64)).length seen]∧nx1+2≤nx'∧seen.Nodup∧(∀i∈seen,i<M.length)∧H 0=some [.int .i64 c,bD R]∧H 2=some [.mp 1]∧H nx1=some [aG y.1,aG y.2]∧H 1=some [.omap ((bT M).map (AV.int .i64)) (vsS M y seen)]∧Row H 1 dv (D.map aG)) (fun seen=>M.length-seen.length) [] ⟨ag,aP _,List.nodup_nil,fun i h=>(by cases h),(ac (by omega)).trans q0,(ac (by omega)).trans q2,(ac (by omega)).trans qy,by rw[F1];exact(ac (by omega)).trans q1,qd.same fun b hb=>by have:=h7 b hb;rw[ac (by omega)]⟩ ?_;clear q0 q2 q1 qy qd;rintro seen H3 nx3 ⟨r1,r2,r3,r4,q0,q2,qy,q1,qd⟩
  have hsl:seen.length≤M.length:=by
   have:=yD r3 (l₂:=List.range M.length) fun i hi=>eO.2 (r4 i hi);simpa using this
  refine wnY and_self ?_;refine I6 ev0 r1 q1 rfl (fun i hi hns=>?_) (fun hall=>?_)
  ·have hi:i<M.length:=by rw[bw,hkl] at hi;exact hi
   have ek:((bT M).map (AV.int .i64)).getD i .undef=.int .i64 (ld (M.getD i default).1):=by
    unfold bT;simp[List.getD,hi]
   have evv:(vsS M y seen).getD i .undef=.agg [aG (M.getD i default).1,aG (M.getD i default).2]:=A0 hi hns
   have hidx:(bT M).idxOf (ld (M.getD i default).1)=i:=by
    have h5:i<(bT M).length:=by rw[hkl];exact hi
    have h6:(bT M)[i]=ld (M.getD i default).1:=by
     have:(bT M)[i]=ld M[i].1:=List.getElem_map ..;rw[this];simp[List.getD,hi]
    have h7:=oo.2 (show ld (M.getD i default).1∈bT M by rw[←h6];exact nj h5);have h8:(bT M)[(bT M).idxOf (ld (M.getD i default).1)]=(bT M)[i]:=by rw[List.getElem_idxOf h7,h6]
    exact(List.getElem_inj hkn).1 h8
   have hkm:ld (M.getD i default).1∈bT M:=mN.2 ⟨_,ay hi,rfl⟩;have hla:=hM.asc _ (ay hi);have hlb:=hbl _ (ay hi);obtain⟨ll1,ll2⟩:=hlb.len hla;have hset:=BS (M:=M) (y:=y) (seen:=seen) (i:=i);have hsame:=Eu (M:=M) (y:=y) (seen:=seen) (i:=i) hi hns;have r3':(seen++[i]).Nodup:=xO.2 ⟨r3,by simp,fun x hx z hz e=>by rw[e,cU.1 hz] at hx;exact hns hx⟩
   have r4':∀x∈seen++[i],x<M.length:=fun x hx=>by
    rcases eA.1 hx with q|q
    ·exact r4 x q
    ·rw[cU.1 q];exact hi
   have hsl2:(seen++[i]).length≤M.length:=by
    have:=yD r3' (l₂:=List.range M.length) fun i hi=>eO.2 (r4' i hi);simpa using this
   rw[c7,List.length_singleton] at hsl2;generalize M.getD i default=l at *;have hhas:=FL l.1 (ld y.1) (by omega) hla.1;refine wnY (aI @ek @evv) ?_;refine It (i:=i) ev0 ag (by rw[ac (by omega)];exact q1) rfl (by simp) (by rw[bw,hkl];exact hi) ?_;refine wnY (aI @ek @evv) ?_;have w0:aq (aq (aq H3 (nx1+1) [AV.oiter 1 ((bT M).map (AV.int .i64)).length (seen++[i])]) nx3 [AV.esl,AV.esl]) nx3 (bH [AV.esl,AV.esl] 0 [aG l.1,aG l.2]) 0=some [.int .i64 c,bD R]:=by rw[ac (by omega),ac (by omega),ac (by omega)];exact q0
   have w2:aq (aq (aq H3 (nx1+1) [AV.oiter 1 ((bT M).map (AV.int .i64)).length (seen++[i])]) nx3 [AV.esl,AV.esl]) nx3 (bH [AV.esl,AV.esl] 0 [aG l.1,aG l.2]) 2=some [.mp 1]:=by rw[ac (by omega),ac (by omega),ac (by omega)];exact q2
   have w1:aq (aq (aq H3 (nx1+1) [AV.oiter 1 ((bT M).map (AV.int .i64)).length (seen++[i])]) nx3 [AV.esl,AV.esl]) nx3 (bH [AV.esl,AV.esl] 0 [aG l.1,aG l.2]) 1=some [.omap ((bT M).map (AV.int .i64)) (vsS M y seen)]:=by rw[ac (by omega),ac (by omega),ac (by omega)];exact q1
   have wy:aq (aq (aq H3 (nx1+1) [AV.oiter 1 ((bT M).map (AV.int .i64)).length (seen++[i])]) nx3 [AV.esl,AV.esl]) nx3 (bH [AV.esl,AV.esl] 0 [aG l.1,aG l.2]) nx1=some [aG y.1,aG y.2]:=by rw[ac (by omega),ac (by omega),ac (by omega)];exact qy
   have wl:aq (aq (aq H3 (nx1+1) [AV.oiter 1 ((bT M).map (AV.int .i64)).length (seen++[i])]) nx3 [AV.esl,AV.esl]) nx3 (bH [AV.esl,AV.esl] 0 [aG l.1,aG l.2]) nx3=some [aG l.1,aG l.2]:=by rw[ag];rfl
   have wi:aq (aq (aq H3 (nx1+1) [AV.oiter 1 ((bT M).map (AV.int .i64)).length (seen++[i])]) nx3 [AV.esl,AV.esl]) nx3 (bH [AV.esl,AV.esl] 0 [aG l.1,aG l.2]) (nx1+1)=some [.oiter 1 ((bT M).map (AV.int .i64)).length (seen++[i])]:=by rw[ac (by omega),ac (by omega),ag]
   have wd:Row (aq (aq (aq H3 (nx1+1) [AV.oiter 1 ((bT M).map (AV.int .i64)).length (seen++[i])]) nx3 [AV.esl,AV.esl]) nx3 (bH [AV.esl,AV.esl] 0 [aG l.1,aG l.2])) 1 dv (D.map aG):=qd.same fun b hb=>by
    have:=h7 b hb;rw[ac (by omega),ac (by omega),ac (by omega)]
   generalize aq (aq (aq H3 (nx1+1) [AV.oiter 1 ((bT M).map (AV.int .i64)).length (seen++[i])]) nx3 [AV.esl,AV.esl]) nx3 (bH [AV.esl,AV.esl] 0 [aG l.1,aG l.2])=H4 at *;clear q0 q2 q1 qy qd;by_cases hin:ld y.1∈l.1
   ·rw[aR hin] at hhas;have hs1:=vq l.1 y.1 (by omega) (by omega);have hs2:=vq l.2 y.2 (by omega) (by omega);have hcl:eB (jo y l)=.agg [aG (bV l.1 y.1),aG (bV l.2 y.2)]:=by unfold jo;rw[if_pos hin];rfl
    rw[hcl] at hset;clear hcl;generalize bV l.1 y.1=s1 at *;generalize bV l.2 y.2=s2 at *;refine wkY (zI3 @wy @wl @ix0) ?_;refine AJ 2 nx3 nx1 w2 wl wy (by omega) (by omega) (by omega) fun S hS1 hS2 hS3 hsub=>?_;refine wnY (zI3 @hS1 @hS2 @hS3) ?_;simp only[fQ,List.map_nil,List.getD_cons_succ,List.getD_cons_zero];refine dP ?_;refine wnY and_self ?_;refine⟨hsub _ w2 wl wy,?_⟩;refine dP ?_;refine wnY and_self ?_;refine⟨hsub _ w2 wl wy,?_⟩;refine wnY and_self ?_;have hmf:=im (ld l.1) (bT M);rw[if_pos hkm,hidx] at hmf;refine pA ev0 w1 ev0 ev0 rfl hmf ?_;refine wnY and_self ?_;refine⟨seen++[i],by rw[c7,List.length_singleton];omega,⟨(ac (by omega)).trans wi,by omega,r3',r4',(ac (by omega)).trans w0,(ac (by omega)).trans w2,(ac (by omega)).trans wy,?_,wd.same fun b hb=>by have:=h7 b hb;rw[ac (by omega)]⟩,ag0⟩;rw[ag,←hset];rfl
   ·rw[a6 hin] at hhas;refine wkY (zI3 @wy @wl @ix0) ?_;exact⟨seen++[i],by rw[c7,List.length_singleton];omega,⟨wi,by omega,r3',r4',w0,w2,wy,by rw[hsame hin];exact w1,wd⟩,ag0⟩
  ·have hall:∀i,i<M.length→i∈seen:=fun i hi=>hall i (by rw[bw,hkl];exact hi) (by rw[bw,hkl];exact hi);rw[GD hall,←yW hM hay h0 hno] at q1
   have hkk:ld y.1∉bT (M.map (jo y)):=by
    rw[yW hM hay h0 hno,mN];rintro⟨l,hl,e⟩;exact hno l hl (by rw[e];exact dg h0)
   refine wnY (zI3 @q2 @qy @ix0) ?_;refine pE 2 nx1 q2 qy (by omega) fun S hS1 hS2 hsub=>?_;have zz:=aI @hS1 (aI @hS2 @ix0);repeat' (first|apply a_n|refine zO ?_|refine nvY ?_|apply iW|fail)
   simp only[fQ,List.map_nil,List.getD_cons_succ,List.getD_cons_zero]
   skip
   have hmf:=im (ld y.1) (bT (M.map (jo y)));rw[if_neg hkk] at hmf;refine pA ev0 q1 ev0 ev0 rfl hmf ?_;refine wnY and_self ?_;refine⟨(dv,k+1),by dsimp only;omega,⟨by dsimp only;omega,by omega,(ac (by omega)).trans q0,(ac (by omega)).trans q2,?_,?_,fun b hb=>by have:=h7 b hb;omega⟩,ag0⟩
   ·dsimp only;rw[hss];unfold LM;rw[ag];unfold ll bT;simp[cK,f9,eB]
   ·dsimp only;rw[hss];exact qd.same fun b hb=>by have:=h7 b hb;rw[ac (by omega)]
 rintro T H nx ⟨t1,t4,h2,h3,h4,h5,dv,t6,h6,h7⟩;have hst:=i9 hR (aP R.length);have hbl:=Al hR hv (aP R.length);have hsl:=xk hR (aP R.length);unfold lB;generalize stE R R.length=MD at *;obtain⟨M,D⟩:=MD;dsimp only at *;have hM:=hst.red;refine wnY (zI5 @t1 @t4 @t6 @h3 @h4) ?_;refine bQ (X:=AV×Nat) (fun x=>[(4,.ptr 2 1 0),(6,dv),(12,x.1),(77,.int .i64 c),(78,.int .i64 x.2)]) (fun x H' nx'=>x.2≤c∧nx≤nx'∧H' 2=some [.mp 1]∧LM H' 1 M∧Row H' 1 dv (D.map aG)∧Row H' 2 x.1 (cLs (lC M x.2))∧∀b,bL x.1=some b→nx≤b∧b<nx') (fun x=>c-x.2) (.esl,0) ⟨bF _,aP _,h4,h5,h6,Row.nil,fun b h=>(by cases h)⟩ (have zz:=aI @t4 @t6;agZ) ?_;clear h3 h4 h5 h6;rintro⟨ov,k⟩ H' nx' ⟨g1,g2,g3,g4,g5,g6,g7⟩;dsimp only at g1 g2 g3 g4 g5 g6 g7 ⊢;by_cases hk:k<c
 rotate_left
 ·obtain rfl:k=c:=by omega
  refine wnY and_self ?_;exact bC (ah (GJ g6) (ah (pg g5) ao))
 have hos:=pR (M:=M) (c:=k);have hol:=zJ (M:=M) (c:=k);have hmf:=im (k:Int) (bT M);refine wnY @g3 ?_;by_cases hm:(k:Int)∈bT M
 rotate_left
 ·rw[if_neg hm] at hmf;refine jb ev0 g4 ev0 rfl hmf ?_;have hmg:Go.Abs.mget (.agg [.esl,.esl]) true none (M.map eB)=.tup [.agg [.esl,.esl],.bool false]:=rfl;rw[hmg];refine wnY and_self ?_;rw[Ap hm] at hos;have hos:lC M (k+1)=lC M k:=by rw[hos];simp
  refine⟨(ov,k+1),by dsimp only;omega,⟨by dsimp only;omega,by omega,by rw[ac (by omega),ac (by omega)];exact g3,?_,g5.same fun b hb=>by have:=h7 b hb;rw[ac (by omega),ac (by omega)],?_,fun b hb=>by have:=g7 b hb;omega⟩,ag0⟩
  ·unfold LM;rw[ac (by omega),ac (by omega)];exact g4
  ·dsimp only;rw[hos];exact g6.same fun b hb=>by have:=g7 b hb;rw[ac (by omega),ac (by omega)]
 obtain⟨l,hl,hld,hgd⟩:=uY hm;rw[if_pos hm] at hmf;refine jb ev0 g4 ev0 rfl hmf ?_
 have hmg:Go.Abs.mget (.agg [.esl,.esl]) true (some ((bT M).idxOf (k:Int))) (M.map eB)=.tup [.agg [aG l.1,aG l.2],.bool true]:=by
  show AV.tup [(M.map eB).getD ((bT M).idxOf (k:Int)) .undef,.bool true]=_;rw[hgd];rfl
 rw[hmg];rw[EY hM hl hld] at hos;have hos:lC M (k+1)=lC M k++[l]:=hos;refine wnY and_self ?_;refine iX rfl ev0 (g6.same fun b hb=>?_) ev0 qj rfl rfl (by omega) (by rw[BZ];omega) (by rw[BZ];omega) ?_
 ·have:=g7 b hb;rw[ac (by omega),ac (by omega),ac (by omega)]
 rintro s2 H2 nx2 hr2 i1 i2 i3 i4;have hdo:∀b,b<nx→bL ov≠some b:=fun b hb e=>by have:=g7 b e;omega
 have lo2:∀b,b<nx→H2 b=H' b:=fun b hb=>(i3 b (by omega) (hdo b hb)).trans (by rw[ac (by omega),ac (by omega),ac (by omega)]);refine wnY and_self ?_;refine⟨(s2,k+1),by dsimp only;omega,⟨by dsimp only;omega,by omega,(lo2 2 (by omega)).trans g3,(lo2 1 (by omega)).trans g4,g5.same fun b hb=>by have:=h7 b hb;rw[lo2 b (by omega)],?_,fun b hb=>?_⟩,ag0⟩
 ·dsimp only;rw[hos,E5];exact hr2
 ·rcases i4 b hb with h|h
  ·have:=g7 b h;omega
  ·omega
end Go.Proofs.YtekdaafnjdlenaaGreat
namespace Go.Proofs.YtekdaafnjdlenaaGreat
open Go Go.Abs
theorem CG{r:List Int}(h:∀i,i+1<r.length→r.getD i default<r.getD (i+1) default):bo r:=by
 have hchain:∀b a,a<b→b<r.length→r.getD a default<r.getD b default:=fun b=>by
  induction b with
  |zero=>intro a ha;omega
  |succ b ih=>
   intro a ha hb;have q:=h b hb;rcases(by omega:a<b∨a=b) with h|rfl
   ·have:=ih a h (by omega);omega
   ·exact q
 refine kB.2 fun i j hi hj hij=>?_;have:=hchain j i hij hj;simpa[List.getD,hi,hj] using this
theorem fF{c:Int}{R:List (List Int)}(h:gY c R):∀r∈R,bo r:=fun r hr=>CG (h.2.2.2 r hr).2.2
theorem KI{l:List Ln}{k:Nat}(h:k<l.length):ee 2 (lS l) (.int .i64 (k:Int))=some (.iptr [aG (l.getD k default).1,aG (l.getD k default).2] 0):=by
 unfold lS;rw[mD,if_pos ⟨by omega,by omega⟩,ct];rfl
theorem tI{l:List Ln}:dt (lS l)=some (.int .i64 l.length):=kI
theorem ke{R:List (List Int)}{c:Nat}:(lB R c).length≤c:=zJ
theorem r_4{T:Tm}{H:Hp}{K:AV→Prop}{a b c d:RV}{x y z u:AV}(ha:rv T H a=some x)(hb:rv T H b=some y)(hc:rv T H c=some z)(hd:rv T H d=some u)(h:K (.tup [x,y,z,u])):bj T H K [a,b,c,d]:=by
 show wZ T H [a,b,c,d] fun xs=>K (.tup xs);simp only[wZ,ha,hb,hc,hd];exact h
attribute [local irreducible] aK ak bf a5 aO aQ aC aS a7 bj Go.Abs.Fn aZ Go.Abs.Pure au aM Yl
theorem nS(c:Nat)(R:List (List Int))(hm:gY c R):pU 134 [dS c R] (.tup [dS c (ec R c),.int .i64 0]):=by
 refine pO LG ?_;simp only[Kz,aH];have h1:=kY c R hm;have z0:decide ((0:Int)≠0)=false:=rfl;have hd:Dat (.agg [.int .i64 c,bD R]):=dj c R;have hec:=vn c R (by have:=hm.2.1;omega) hm.2.2.1 (fF hm) (fun r hr z hz=>(hm.2.2.2 r hr).1 z hz);have hll:=ke (R:=R) (c:=c);have hmc:=hm.2.1;rw[dl] at hec ⊢;unfold ec;generalize lB R c=L at *;refine wnY (aI @z0 @tI) ?_;refine lpI (X:=AV×Nat) (fun x=>[(2,.ptr 1 2 0),(5,.ptr 2 2 0),(24,lS L),(25,.int .i64 L.length),(26,.int .i64 x.2)]) (fun x H nx=>x.2≤L.length∧3≤nx∧H 1=some [.int .i64 0,.esl]∧H 2=some [.int .i64 c,x.1]∧Row H 1 x.1 (((L.take x.2).map Prod.fst).map aG)∧∀b,bL x.1=some b→2<b∧b<nx) (fun x=>L.length-x.2) (.esl,0) ⟨bF _,aP _,rfl,rfl,Row.nil,fun b h=>(by cases h)⟩ ?_;rintro⟨sv,k⟩ H nx ⟨g1,g2,g3,g4,g5,g6⟩;dsimp only at g1 g2 g3 g4 g5 g6 ⊢;by_cases hk:k<L.length
 rotate_left
 ·rw[fv (by omega)] at g5;obtain⟨o1,o2⟩:=g5.one;refine wnY (zI4 @g3 @g4 @o1 @o2) ?_;refine jF (pg (g5.same fun b hb=>?_)) rfl;have:=g6 b hb;rw[ac (by omega)]
 have ix:=KI hk;have hts:=bS hk;have hlt:(L.take k).length≤k:=by rw[fy];omega
 generalize L.getD k default=l at *;refine wnY (aI @ix @g4) ?_;refine iX rfl ev0 (g5.same fun b hb=>?_) ev0 fq rfl rfl mq (by rw[bw,bw];omega) (by rw[bw,bw];omega) ?_
 ·have:=g6 b hb;rw[ac (by omega),ac (by omega),ac (by omega)]
 rintro s2 H2 nx2 hr2 i1 i2 i3 i4;have hdo:∀b,b≤2→bL sv≠some b:=fun b hb e=>by have:=g6 b e;omega
 have lo2:∀b,b≤2→H2 b=H b:=fun b hb=>(i3 b (by omega) (hdo b hb)).trans (by rw[ac (by omega),ac (by omega),ac (by omega)])
 have hn2:∀b,bL s2=some b→2<b∧b<nx2:=fun b hb=>by
  rcases i4 b hb with h|h
  ·have:=g6 b h;omega
  ·omega
 have k4:=(lo2 2 (by omega)).trans g4;obtain⟨o1,o2⟩:=hr2.one;refine wnY (zI3 @k4 @o1 @o2) ?_;refine⟨(s2,k+1),by dsimp only;omega,⟨by dsimp only;omega,by omega,by rw[ac (by omega)];exact(lo2 1 (by omega)).trans g3,by rw[ag];rfl,?_,hn2⟩,ag0⟩;dsimp only;rw[hts,cL,cL];exact hr2.same fun b hb=>by have:=hn2 b hb;rw[ac (by omega)]
theorem AE(c:Nat)(R:List (List Int))(hm:gY c R):pU 97 [dS c R] (.tup [.int .i64 (ec R c).length,.int .i64 0]):=by
 refine pO MM ?_;simp only[b97,aH];have he:=nS c R hm;have hd:Dat (.agg [.int .i64 c,bD R]):=dj c R;rw[dl,dl] at he;rw[dl];generalize ec R c=E at *;refine wnY @eD ?_;exact bC (ah (.int _ _) (ah (.int _ _) ao))
def G8(D:List (List Int))(b:List Int):Option (List Int):=D.find? fun y=>jp y b
def lL(L:List Ln)(b:List Int):List Int:=(L.filter fun l=>jp l.2 b).map fun l=>ld l.1
def ur(R:List (List Int))(c:Nat)(b:List Int):List Int×List Int×Bool:=match G8 (stE R R.length).2 b with
 |some y=>([],y,false)
 |none=>(lL (lB R c) b,[],true)
theorem CW{L:List Ln}{x:Ln}{b:List Int}:lL (L++[x]) b=lL L b++if jp x.2 b=true then [ld x.1] else []:=by
 unfold lL;rw[uc,cL]
 congr 1
 by_cases h:jp x.2 b=true
 ·rw[if_pos h,xm (by simpa using h)];rfl
 ·rw[if_neg h,wq (by simpa using h)];rfl
theorem CB{D:List (List Int)}{p:List Int→Bool}{k:Nat}(h:∀i,i<k→p (D.getD i default)=false)(hk:k<D.length)(hp:p (D.getD k default)=true):D.find? p=some (D.getD k default):=by
 induction D generalizing k with
 |nil=>simp at hk
 |cons y D ih=>
  match k with
  | 0 => have hp : p y = true := hp
         show List.find? p (y::D)=some y;rw[List.find?_cons_of_pos hp]
  |k+1=>
   have h0:¬p y=true:=by have:=h 0 (by omega);rw[show(y::D).getD 0 default=y from rfl] at this;rw[this];decide
   rw[List.find?_cons_of_neg h0];exact ih (k:=k) (fun i hi=>h (i+1) (by omega)) (by simpa using hk) hp
theorem Gg(c:Nat)(R:List (List Int))(b:List Int)(hm:gY c R)(hbr:∀v∈b,0≤v∧v<(R.length:Int))(hba:bo b):pU 59 [dS c R,aG b] (.tup [aG (ur R c b).1,aG (ur R c b).2.1,.bool (ur R c b).2.2,.int .i64 0]):=by
 refine pO Nk ?_;simp only[b59,aH];have hmR:=fF hm;have hmv:∀r∈R,∀z∈r,0≤z∧z<(c:Int):=fun r hr z hz=>(hm.2.2.2 r hr).1 z hz;have hbl:=ft hba hbr;have h1:=kY c R hm
 have h2:=px b (R.length:Int) (by have:=hm.2.2.1; omega) hbr (fun i hi=>by
  have:=kB.1 hba i (i+1) (by omega) hi (by omega);simpa[List.getD,show i<b.length by omega,hi] using this)
 have z0:decide ((0:Int)≠0)=false:=rfl;have hd:Dat (.agg [.int .i64 c,bD R]):=dj c R;have hec:=vn c R (by have:=hm.2.1;omega) hm.2.2.1 hmR hmv;have hll:=ke (R:=R) (c:=c);have hmc:=hm.2.1;have hrl:=hm.2.2.1;have hsl:=xk hmR (aP R.length);have hok:=i9 hmR (aP R.length)
 have hel:∀l∈lB R c,l.1≠[]∧l.2.length≤4096:=fun l hl=>by
  have hl':=((kR hmR hmv).2.2 l).1 hl;refine⟨hok.red.ne l hl',?_⟩;have:=((Al hmR hmv (aP R.length)) l hl').len (hok.red.asc l hl');omega
 have hdl:∀y∈(stE R R.length).2,y.length≤4096:=fun y hy=>by
  have h3:=hok.dep y hy;have h4:y.length≤R.length:=ft h3.1.2 h3.2.2;omega
 rw[dl] at hec ⊢;unfold ur;generalize lB R c=L at *;generalize (stE R R.length).2=D at *;refine dD ?_
 repeat' (first|apply a_n|refine zO ?_|refine vY ?_|refine bxY ?_|fail)
 refine dD ?_;refine wnY (zI3 @z0 @tI @eD) ?_;refine lpI (X:=Nat) (fun k=>[(1,aG b),(10,lS L),(35,bD D),(36,.int .i64 D.length),(37,.int .i64 k)]) (fun k H nx=>k≤D.length∧∀i,i<k→jp (D.getD i default) b=false) (fun k=>D.length-k) 0 ⟨bF _,fun i h=>absurd h (by omega)⟩ ?_;rintro k H nx ⟨g1,g2⟩;by_cases hk:k<D.length
 ·have ix:=Dr hk;have hyl:=hdl _ (ay hk);have hod:=Eb (D.getD k default) b (by omega) (by omega);by_cases ho:jp (D.getD k default) b=true
  ·have hsy:G8 D b=some (D.getD k default):=CB (p:=fun y=>jp y b) g2 hk ho;rw[hsy];rw[ho] at hod;generalize D.getD k default=y at *;refine wnY @ix ?_;refine r_4 rfl rfl rfl rfl ?_;exact bC (ah (.eslsl 1) (ah (cJ y).snap (ah (.bool _) (ah (.int _ _) ao))))
  ·have ho:jp (D.getD k default) b=false:=by simpa using ho
   have hg2:∀i,i<k+1→jp (D.getD i default) b=false:=fun i hi=>by
    rcases(by omega:i<k∨i=k) with h|rfl
    ·exact g2 i h
    ·exact ho
   rw[ho] at hod;generalize D.getD k default=y at *;refine wnY @ix ?_;exact⟨k+1,by omega,⟨by omega,hg2⟩,ag0⟩
 have hsy:G8 D b=none:=by
  refine List.find?_eq_none.2 fun y hy=>?_;obtain⟨i,hi,e⟩:=jJ hy;have:=g2 i (by omega);rw[show D.getD i default=y by simp[List.getD,hi,e]] at this;rw[this];decide
 rw[hsy];clear hsy g2;refine wnY @tI ?_;refine lpI (X:=AV×Nat) (fun x=>[(1,aG b),(14,x.1),(46,lS L),(47,.int .i64 L.length),(48,.int .i64 x.2)]) (fun x H nx=>x.2≤L.length∧Row H 1 x.1 ((lL (L.take x.2) b).map (AV.int .i64))∧∀b,bL x.1=some b→b<nx) (fun x=>L.length-x.2) (.esl,0) ⟨bF _,Row.nil,fun b h=>(by cases h)⟩ ?_;rintro⟨sv,k⟩ H nx ⟨g1,g2,g3⟩;dsimp only at g1 g2 g3 ⊢;by_cases hk:k<L.length
 rotate_left
 ·rw[fv (by omega)] at g2;refine wnY and_self ?_;refine r_4 rfl rfl rfl rfl ?_;exact bC (ah g2.snapI (ah (.eslsl 1) (ah (.bool _) (ah (.int _ _) ao))))
 have ix:=KI hk;have hts:=bS hk;obtain⟨hn,hl2⟩:=hel _ (ay hk)
 have hxl:(lL (L.take k) b).length≤k:=by
  unfold lL;rw[bw];refine eX (List.length_filter_le _ _) ?_;rw[fy];omega
 have hsx:=CW (L:=L.take k) (x:=L.getD k default) (b:=b);rw[←hts] at hsx;generalize L.getD k default=l at *;have hod:=Eb l.2 b (by omega) (by omega);have ix0:=GG hn;by_cases ho:jp l.2 b=true
 ·rw[ho] at hod;rw[if_pos ho] at hsx;refine wnY (aI @ix @ix0) ?_;refine eR (g2.same fun b hb=>?_) ?_
  ·have:=g3 b hb;rw[ac (by omega),ac (by omega),ac (by omega)]
  rintro s2 H2 nx2 hr2 i1 i2 i3 i4;refine wnY and_self ?_;refine⟨(s2,k+1),by dsimp only;omega,⟨by dsimp only;omega,?_,fun b hb=>?_⟩,ag0⟩
  ·dsimp only;rw[hsx,cL];exact hr2
  ·rcases i4 b hb with h|h
   ·have:=g3 b h;omega
   ·omega
 ·have ho:jp l.2 b=false:=by simpa using ho
  rw[ho] at hod;rw[ho,if_neg (by decide),ga] at hsx;refine wnY (aI @ix @ix0) ?_;refine⟨(sv,k+1),by dsimp only;omega,⟨by dsimp only;omega,?_,fun b hb=>by have:=g3 b hb;omega⟩,ag0⟩;dsimp only;rw[hsx];exact g2.same fun b hb=>by have:=g3 b hb;rw[ac (by omega),ac (by omega)]
end Go.Proofs.YtekdaafnjdlenaaGreat
namespace Go.Proofs.YtekdaafnjdlenaaGreat
open Go Go.Abs
open Nat (reduceEqDiff reduceAdd reduceLeDiff)
theorem kX{c:List Spx}(h:aA c=0):∀s∈c,Shn s:=fun s hs=>show _≤_ by
 have:=(ca ((dH h).2.1 s hs)).2.1;omega
def sA(c:List Spx):Nat→Int
 |0=>0
 |k+1=>if (k+1)%2=1 then sA c k+((gw c (k+1)).length:Int) else sA c k-((gw c (k+1)).length:Int)
theorem Bl{c:List Spx}(h:∀k,(gw c k).length≤3500):∀k:Nat,-(3500*(k:Int))≤sA c k∧sA c k≤3500*(k:Int)
 |0=>⟨by show -(3500*((0:Nat):Int))≤(0:Int);omega,by show(0:Int)≤3500*((0:Nat):Int);omega⟩
 |k+1=>by
  have:=Bl h k;have h2:=h (k+1);unfold sA;split<;>omega
def n5(c:List Spx):Nat→Int×Int
 |0=>(8,0)
 |k+1=>(min (n5 c k).1 ((c.getD k default).length:Int),max (n5 c k).2 ((c.getD k default).length:Int))
theorem Bz{c:List Spx}{m:Int}(h0:0≤m)(h:∀s∈c,(s.length:Int)≤m):∀{k:Nat},k≤c.length→0≤(n5 c k).2∧(n5 c k).2≤m
 |0,_=>⟨Int.le_refl _,h0⟩
 |k+1,hk=>by
  have:=Bz h0 h (k:=k) (by omega);have h2:=h _ (ay (l:=c) (i:=k) (by omega));unfold n5;dsimp only;omega
def sW(c:List Spx):Int:=(n5 c c.length).2
def EL(c:List Spx):Bool:=decide ((n5 c c.length).2=0) || decide ((n5 c c.length).1=(n5 c c.length).2)
theorem IS{c:List Spx}(hc:aA c=0){k:Nat}(hk:8<k):gw c k=[]:=by
 refine xu.2 fun s hs=>?_;obtain⟨t,ht,h⟩:=xK.1 hs;obtain⟨h1,h2⟩:=eh.1 h;have:=(ca ((dH hc).2.1 t ht)).2.1;have:=h1.length_le;omega
theorem Ed{c:List Spx}{k:Nat}:aB c (k:Int)=if k=0 then [] else gw c k:=by
 unfold aB;by_cases h:k=0
 ·rw[if_pos (by omega),if_pos h]
 ·rw[if_neg (by omega),if_neg h,ct]
theorem cA{c:List Spx}(hc:aA c=0)(hl:c.length≤50){d:Int}:(aB c d).length≤3500:=by
 unfold aB;split
 ·simp
 ·exact oa hl fun s hs=>(ca ((dH hc).2.1 s hs)).2.1
theorem AU{c:List Spx}(hc:aA c=0){d:Int}(h:8<d):aB c d=[]:=by
 unfold aB;rw[if_neg (by omega)];exact IS hc (by omega)
theorem yG{Y:List Spx}:dA [] Y=List.replicate Y.length []:=by
 refine List.ext_getElem (by simp[dA]) fun i h1 h2=>?_;simp[dA,cf,jr]
theorem CT{H:Hp}{b n:Nat}(h:H b=some (List.replicate n .esl)):Snap H (.msl b n 1 0 n) (bD (List.replicate n [])):=by
 refine DR h (by simp) ⟨by simp,fun i x y hx hy=>?_⟩;obtain⟨h1,rfl⟩:=bN.1 hx;obtain⟨h2,rfl⟩:=bN.1 hy;simp only[List.getElem_map,List.getElem_replicate];exact .eslsl 1
attribute [local irreducible] aK ak bf a5 aO aQ aC aS a7 bj Go.Abs.Fn aZ Go.Abs.Pure au aM Yl
theorem BU(c:List Spx)(hc:aA c=0)(hl:c.length≤50):pU 37 [bM c] (.tup [.int .i64 (sA c 8),.int .i64 0]):=by
 refine pO Kd ?_;simp only[b37,aH];have hcc:=jl c (show _≤_ by omega) (kX hc);rw[hc] at hcc;have z0:decide ((0:Int)≠0)=false:=rfl;have hbd:=fun k:Nat=>Bl (c:=c) (fun k=>oa (k:=k) hl fun s hs=>(ca ((dH hc).2.1 s hs)).2.1) k;have hll:=fun k=>oa (k:=k) hl fun s hs=>(ca ((dH hc).2.1 s hs)).2.1;have hf:=fun k(hk:1≤k∧k≤8)=>zF c k hl (dH hc).2.1 hk;refine wnY (zI3 @z0 @ai @af) ?_;refine lpI (X:=Nat) (fun k=>[(1,.ptr 0 1 0),(5,.int .i64 (sA c k)),(6,.int .i64 (k+1:Nat))]) (fun k H nx=>k≤8∧H 0=some [aj c]) (fun k=>8-k) 0 ⟨bF _,rfl⟩ ?_;rintro k H nx ⟨g1,g2⟩;by_cases hk:k<8
 rotate_left
 ·obtain rfl:k=8:=by omega
  refine wnY and_self ?_;exact bC (ah (.int _ _) (ah (.int _ _) ao))
 have hf1:=hf (k+1) ⟨by omega,by omega⟩;have hl1:=hll (k+1);have hb1:=hbd k;have hb2:=hbd (k+1);have hes:sA c (k+1)=if (k+1)%2=1 then sA c k+((gw c (k+1)).length:Int) else sA c k-((gw c (k+1)).length:Int):=rfl
 have hr:∀tb tf,bt .rem tb tf (.int .i64 ((k+1:Nat):Int)) (.int .i64 2)=some (.int .i64 (((k+1)%2:Nat):Int)):=fun tb tf=>by
  rw[wn (by omega) (by omega)]
  congr 2
 generalize gw c (k+1)=L at *;generalize sA c k=E0 at *;by_cases hodd:(k+1)%2=1
 ·rw[if_pos hodd] at hes;rw[hes] at hb2;have zr:decide ((((k+1)%2:Nat):Int)=1)=true:=aR (by omega);refine wnY (zI5 @g2 @z0 @hr @zr @ae) ?_;exact⟨k+1,by omega,⟨by omega,g2⟩,by rw[hes,show((k+1+1:Nat):Int)=((k+1:Nat):Int)+1 by omega];simp (disch:=omega) only[agr,ZG,reduceEqDiff,↓reduceIte]⟩
 ·rw[if_neg hodd] at hes;rw[hes] at hb2;have zr:decide ((((k+1)%2:Nat):Int)=1)=false:=a6 (by omega);refine wnY (zI5 @g2 @z0 @hr @zr @ae) ?_;exact⟨k+1,by omega,⟨by omega,g2⟩,by rw[hes,show((k+1+1:Nat):Int)=((k+1:Nat):Int)+1 by omega];simp (disch:=omega) only[agr,ZG,reduceEqDiff,↓reduceIte]⟩
theorem x8(c:List Spx)(hc:Shn c)(hs:∀s∈c,Shn s):pU 94 [bM c] (.tup [.int .i64 (sW c-1),.bool (EL c)]):=by
 refine pO Mx ?_;simp only[b94,aH];unfold sW EL;have hc':c.length≤17592186044416:=hc;refine wnY (zI3 @ai @af @ae) ?_;refine lpI (X:=Nat) (fun k=>[(4,.int .i64 (n5 c k).1),(5,.int .i64 (n5 c k).2),(9,aj c),(10,.int .i64 c.length),(11,.int .i64 k)]) (fun k H nx=>k≤c.length) (fun k=>c.length-k) 0 (bF _) ?_;rintro k H nx h1;have hb:=Bz (m:=17592186044416) (by omega) (fun s h=>by have:s.length≤_:=hs s h;omega) h1;by_cases hk:k<c.length
 rotate_left
 ·obtain rfl:k=c.length:=by omega
  generalize n5 c c.length=P at *;obtain⟨a,m⟩:=P;dsimp only at hb ⊢;by_cases h0:m=0
  ·have z:decide (m=0)=true:=aR h0;rw[z,Bool.true_or];refine wnY @z ?_;exact bC (ah (.int _ _) (ah (.bool _) ao))
  ·have z:decide (m=0)=false:=a6 h0;rw[z,Bool.false_or];refine wnY @z ?_;exact bC (ah (.int _ _) (ah (.bool _) ao))
 have ix:=dB hk;have hsl:(c.getD k default).length≤17592186044416:=hs _ (ay hk);have e:n5 c (k+1)=(min (n5 c k).1 ((c.getD k default).length:Int),max (n5 c k).2 ((c.getD k default).length:Int)):=rfl;generalize c.getD k default=s at *;refine wnY (aI @ix @an) ?_;exact⟨k+1,by omega,by omega,by rw[e];simp (disch:=omega) only[agr,ZG,reduceEqDiff,↓reduceIte]⟩
theorem oO(c:List Spx)(hc:aA c=0)(hl:c.length≤50):pU 96 [bM c] (.tup [.int .i64 (sW c-1),.bool (EL c),.int .i64 0]):=by
 refine pO MY ?_;simp only[b96,aH];have hcc:=jl c (show _≤_ by omega) (kX hc);rw[hc] at hcc;have hd:=x8 c (show _≤_ by omega) (kX hc);have z0:decide ((0:Int)≠0)=false:=rfl;refine wnY (zI3 @z0 @ai @af) ?_;refine bC (ah (.int _ _) (ah (.bool _) (ah (.int _ _) ao)))
theorem rF(c:List Spx)(d:Nat)(hc:aA c=0)(hl:c.length≤50)(hd:d≤8):pU 98 [bM c,.int .i64 d] (.tup [.int .i64 (aB c ((d:Int)+1)).length,.int .i64 0]):=by
 refine pO Nh ?_;simp only[b98,aH];by_cases h8:d=8
 ·rw[AU hc (by omega)];subst h8;refine wnY (aI @ai @af) ?_;exact bC (ah (.int _ _) (ah (.int _ _) ao))
 have hs:=kG c ((d:Int)+1) hl (kX hc)
 have e:dh c ((d:Int)+1)=(aB c ((d:Int)+1),0):=by
  unfold dh aB;rw[if_neg (fun q=>q hc),if_neg (by omega),if_neg (by omega)]
 rw[e] at hs;dsimp only at hs;have hll:=cA hc hl (d:=(d:Int)+1);generalize aB c ((d:Int)+1)=X at *;have z1:decide ((d:Int)<0)=false:=a6 (by omega);have z2:decide ((8:Int)≤d)=false:=a6 (by omega);refine wnY (zI5 @ai @af @ae @z1 @z2) ?_;exact bC (ah (.int _ _) (ah (.int _ _) ao))
theorem mI(c:List Spx)(d:Nat)(hc:aA c=0)(hl:c.length≤50)(hd:d≤8):pU 58 [bM c,.int .i64 d] (.tup [dS (aB c ((d:Int)+1)).length (dA (aB c ((d:Int)+1)) (aB c d)),.int .i64 0]):=by
 refine pO MA ?_;simp only[b58,aH];by_cases h8:d=8
 ·rw[AU hc (by omega),yG];subst h8;have hs:pU 98 [bM c,.int .i64 (((8:Nat):Int)-1)] (.tup [.int .i64 (aB c ((8:Nat):Int)).length,.int .i64 0]):=rF c 7 hc hl (by omega);have hll:=cA hc hl (d:=((8:Nat):Int));generalize (aB c ((8:Nat):Int)).length=n at *;have hzc:bn (AV.agg [AV.esl]) n=List.replicate n .esl:=by simp[bn,AV.cells]
  refine wnY (aI @ai @af) ?_;refine xy (k1:=.i64) (k2:=.i64) (n:=n) (m:=n) rfl ev0 ev0 (by omega) (Int.le_refl _) (by omega) (by omega) ?_;rw[ct,hzc,Nat.mul_one];refine wnY and_self ?_;exact jF (CT (by rw[ac (by omega),ag])) rfl
 have hm:=Jf c d hl (kX hc)
 have e:uM c d=(((((aB c ((d:Int)+1)).length:Nat):Int),dA (aB c ((d:Int)+1)) (aB c d)),0):=by
  unfold uM;rw[if_neg (fun q=>q hc),if_neg (by omega)]
 rw[e] at hm;dsimp only at hm;generalize dA (aB c ((d:Int)+1)) (aB c d)=R at *;generalize (aB c ((d:Int)+1)).length=n at *;rw[dl] at hm ⊢;have z2:decide ((d:Int)<8)=true:=aR (by omega);refine wnY (zI3 @ai @af @z2) ?_;exact jF (mF _).snap rfl
end Go.Proofs.YtekdaafnjdlenaaGreat
namespace Go.Proofs.YtekdaafnjdlenaaGreat
open Go Go.Abs
def rkF(c:List Spx)(d:Nat):Nat:=(ec (dA (aB c ((d:Int)+1)) (aB c d)) (aB c ((d:Int)+1)).length).length
def btF(c:List Spx)(d:Nat):Int:=((aB c ((d:Int)+1)).length:Int)-(rkF c d:Int)-(rkF c (d+1):Int)
def btL(c:List Spx)(m:Nat):List Int:=(List.range m).map (btF c)
theorem wT{c:List Spx}{d:Nat}:rkF c d≤(aB c ((d:Int)+1)).length:=by
 unfold rkF ec;rw[bw];exact ke
def rkK(n:Nat):List Int:=cf (List.range n)
theorem ky{n d:Nat}:(d:Int)∈rkK n↔d<n:=by
 unfold rkK;rw[pm];exact⟨fun⟨i,h1,h2⟩=>by have:=eO.1 h1;omega,fun h=>⟨d,eO.2 h,rfl⟩⟩
theorem rB{n d:Nat}(h:d<n):(rkK n).idxOf (d:Int)=d:=by
 have hn:(rkK n).Nodup:=xX (fun{x y}(q:x<y) e=>by omega) (kd List.pairwise_lt_range);have h1:=oo.2 (ky.2 h);have hl:d<(rkK n).length:=by unfold rkK cf;simpa using h
 have h2:(rkK n)[d]=(d:Int):=by
  have h4:(rkK n)[d]=(((List.range n)[d]'(by simpa using h):Nat):Int):=List.getElem_map ..;rw[h4,List.getElem_range]
 have h3:(rkK n)[(rkK n).idxOf (d:Int)]=(rkK n)[d]:=by rw[List.getElem_idxOf h1,h2]
 exact(List.getElem_inj hn).1 h3
theorem xB{n:Nat}:rkK (n+1)=rkK n++[(n:Int)]:=by unfold rkK cf;rw[List.range_succ,cL];rfl
def rkV(c:List Spx)(n:Nat):List AV:=(List.range n).map fun d=>.int .i64 (rkF c d)
theorem zl{c:List Spx}{n:Nat}:rkV c (n+1)=rkV c n++[.int .i64 (rkF c n)]:=by unfold rkV;rw[List.range_succ,cL];rfl
theorem rp{c:List Spx}{n d:Nat}(h:d<n):(rkV c n).getD d .undef=.int .i64 (rkF c d):=by unfold rkV;simp[List.getD,h]
theorem zy{c:List Spx}{n:Nat}:btL c (n+1)=btL c n++[btF c n]:=by unfold btL;rw[List.range_succ,cL];rfl
attribute [local irreducible] aK ak bf a5 aO aQ aC aS a7 bj Go.Abs.Fn aZ Go.Abs.Pure au aM Yl
theorem Gc(c:List Spx)(m:Nat)(hc:aA c=0)(hl:c.length≤50)(hm:sW c=m)(hm8:m≤8):pU 44 [bM c] (.tup [aG (btL c m),.int .i64 0]):=by
 refine pO JV ?_;simp only[b44,aH];have hdi:=oO c hc hl;rw[hm] at hdi;have z0:decide ((0:Int)≠0)=false:=rfl;have hed:=fun d(h:d≤8)=>mI c d hc hl h;have hsz:=fun d(h:d≤8)=>rF c d hc hl h;have hrl:=fun d:Int=>cA hc hl (d:=d);have hrk:=fun d:Nat=>AE (aB c ((d:Int)+1)).length (dA (aB c ((d:Int)+1)) (aB c d)) (kH (by have:=hrl ((d:Int)+1);omega) (by have:=hrl d;omega));have hrf:=fun d:Nat=>wT (c:=c) (d:=d);refine wnY (zI3 @z0 @ai @af) ?_;refine uJ ?_;refine wnY and_self ?_;refine lpI (X:=Nat) (fun k=>[(1,.ptr 0 1 0),(4,.int .i64 ((m:Int)-1)),(7,.mp 1),(26,.int .i64 ((m:Int)-1+2)),(27,.int .i64 k)]) (fun k H nx=>k≤m+1∧2≤nx∧H 0=some [aj c]∧H 1=some [.omap ((rkK k).map (AV.int .i64)) (rkV c k)]) (fun k=>m+1-k) 0 ⟨bF _,aP _,rfl,rfl⟩ ?_;rintro k H nx ⟨g1,g2,g3,g4⟩;by_cases hk:k<m+1
 ·have hed1:=hed k (by omega);have hrk1:=hrk k;have hr1:=hrl ((k:Int)+1);have hd1:Dat (dS (aB c ((k:Int)+1)).length (dA (aB c ((k:Int)+1)) (aB c k))):=dj _ _;change pU 97 _ (.tup [.int .i64 (rkF c k),.int .i64 0]) at hrk1;rw[dl] at hed1 hrk1 hd1;generalize dA (aB c ((k:Int)+1)) (aB c k)=R at *;generalize (aB c ((k:Int)+1)).length=n at *;have z1:decide ((k:Int)<(m:Int)-1+2)=true:=aR (by omega);refine wnY (zI5 @g3 @z0 @z1 @ai @af) ?_;have hmf:=im (k:Int) (rkK k);rw[if_neg (fun q=>by have:=ky.1 q;omega)] at hmf;refine pA ev0 ((ac (by omega)).trans ((ac (by omega)).trans g4)) ev0 ev0 rfl hmf ?_;refine wnY @z0 ?_;refine⟨k+1,by omega,⟨by omega,by omega,by rw[ac (by omega),ac (by omega),ac (by omega)];exact g3,?_⟩,ag0⟩;rw[ag,xB,zl,cL];rfl
 obtain rfl:k=m+1:=by omega
 have z1:decide (((m+1:Nat):Int)<(m:Int)-1+2)=false:=a6 (by omega);refine wnY @z1 ?_;refine lpI (X:=AV×Nat) (fun x=>[(1,.ptr 0 1 0),(7,.mp 1),(11,x.1),(51,.int .i64 ((m:Int)-1+1)),(52,.int .i64 x.2)]) (fun x H nx=>x.2≤m∧2≤nx∧H 0=some [aj c]∧H 1=some [.omap ((rkK (m+1)).map (AV.int .i64)) (rkV c (m+1))]∧Row H 1 x.1 ((btL c x.2).map (AV.int .i64))∧∀b,bL x.1=some b→2≤b∧b<nx) (fun x=>m-x.2) (.esl,0) ⟨bF _,g2,g3,g4,Row.nil,fun b h=>(by cases h)⟩ ?_;clear g1 g2 g3 g4;rintro⟨sv,k⟩ H nx ⟨g1,g2,g3,g4,g5,g6⟩;dsimp only at g1 g2 g3 g4 g5 g6 ⊢;by_cases hk:k<m
 rotate_left
 ·obtain rfl:k=m:=by omega
  have z1:decide ((k:Int)<(k:Int)-1+1)=false:=a6 (by omega);refine wnY @z1 ?_;exact fM g5.snapI rfl
 have hsz1:=hsz k (by omega);have hr1:=hrl ((k:Int)+1);have hr2:=hrl (((k+1:Nat):Int)+1);have hf1:=hrf k;have hf2:=hrf (k+1);have hmf1:=im (k:Int) (rkK (m+1));rw[if_pos (ky.2 (by omega)),rB (by omega)] at hmf1;have hmf2:=im ((k+1:Nat):Int) (rkK (m+1));rw[if_pos (ky.2 (by omega)),rB (by omega)] at hmf2;rw[show((k+1:Nat):Int)=(k:Int)+1 by omega] at hmf2;have hv1:Go.Abs.mget (.int .i64 0) false (some k) (rkV c (m+1))=.int .i64 (rkF c k):=rp (by omega);have hv2:Go.Abs.mget (.int .i64 0) false (some (k+1)) (rkV c (m+1))=.int .i64 (rkF c (k+1)):=rp (by omega);have hsn:=zy (c:=c) (n:=k);have hbl:(btL c k).length=k:=by unfold btL;simp
 have hbf:btF c k=((aB c ((k:Int)+1)).length:Int)-(rkF c k:Int)-(rkF c (k+1):Int):=rfl;rw[hbf] at hsn;generalize rkF c k=f1 at *;generalize rkF c (k+1)=f2 at *;generalize (aB c ((k:Int)+1)).length=n at *;generalize (aB c (((k+1:Nat):Int)+1)).length=n2 at *;have z1:decide ((k:Int)<(m:Int)-1+1)=true:=aR (by omega);refine wnY (zI5 @g3 @z0 @z1 @ai @af) ?_;refine jb ev0 g4 ev0 rfl hmf1 ?_;rw[hv1];refine wnY and_self ?_;refine jb ev0 g4 ev0 rfl hmf2 ?_;rw[hv2];refine wnY and_self ?_;refine eR (g5.same fun b hb=>?_) ?_
 ·have:=g6 b hb;rw[ac (by omega)]
 rintro s2 H2 nx2 hr3 i1 i2 i3 i4;have hdo:∀b,b<2→bL sv≠some b:=fun b hb e=>by have:=g6 b e;omega
 have lo2:∀b,b<2→H2 b=H b:=fun b hb=>(i3 b (by omega) (hdo b hb)).trans (by rw[ac (by omega)]);refine wnY and_self ?_;refine⟨(s2,k+1),by dsimp only;omega,⟨by dsimp only;omega,by omega,(lo2 0 (by omega)).trans g3,(lo2 1 (by omega)).trans g4,?_,fun b hb=>?_⟩,ag0⟩
 ·dsimp only;rw[hsn,cL];exact hr3
 ·rcases i4 b hb with h|h
  ·have:=g6 b h;omega
  ·omega
theorem tZ(c:List Spx)(m:Nat)(hc:aA c=0)(hl:c.length≤50)(hm:sW c=m)(hm8:m≤8):pU 13 [bM c] (.tup [aG (btL c m),.int .i64 0]):=by
 have hch:pU 43 [bM c] (.int .i64 0):=by
  refine pO H9 ?_;simp only[b43,aH];have he:=BU c hc hl;refine wnY (aI @ai @af) ?_;exact .int _ _
 refine pO MH ?_;simp only[b13,aH];have hb:=Gc c m hc hl hm hm8;have z0:decide ((0:Int)≠0)=false:=rfl;refine wnY (zI3 @z0 @ai @af) ?_;exact fM (cJ _).snap rfl
end Go.Proofs.YtekdaafnjdlenaaGreat
namespace Go.Proofs.YtekdaafnjdlenaaGreat
open Go Go.Abs
theorem pk{a:List Spx}(h:a≠[]):ee 1 (aj a) (.int .i64 0)=some (.iptr [az (a.getD 0 default)] 0):=by
 have:=dB (l:=a) (k:=0) (gy.2 h);exact this
attribute [local irreducible] aK ak bf a5 aO aQ aC aS a7 bj Go.Abs.Fn aZ Go.Abs.Pure au aM Yl
theorem nV(c:List Spx)(hc:aA c=0)(hl:c.length≤50):pU 43 [bM c] (.int .i64 0):=by
 refine pO H9 ?_;simp only[b43,aH];have he:=BU c hc hl;refine wnY (aI @ai @af) ?_;exact .int _ _
theorem LV(s t:Spx)(hs:Shn s)(ht:Shn t):pU 69 [az s,az t] (.bool (decide (s=t))):=by
 refine pO Nd ?_;simp only[b69,aH];have hc:=gG s t hs ht;have e:decide (be s t=0)=decide (s=t):=decide_eq_decide.2 ⟨fun h=>pe h,fun h=>by rw[h];exact fY t⟩;refine wnY @e ?_;exact .bool _
theorem KX(a b:List Spx)(ha:ShC a)(hb:ShC b):pU 68 [aj a,aj b,.func 69 []] (.bool (decide (a=b))):=by
 refine pO M3 ?_;simp only[b68,aH];by_cases hl:a.length=b.length
 rotate_left
 ·have z:decide ((a.length:Int)≠b.length)=true:=aR (by omega);rw[a6 (fun e=>hl (by rw[e]))];refine wnY (aI @ae @z) ?_;exact .bool _
 have z:decide ((a.length:Int)≠b.length)=false:=by rw[hl];exact a6 (fun h=>h rfl)
 have hal:=ha.1;refine wnY (aI @ae @z) ?_;refine lg (X:=Nat) (fun k=>[(0,aj a),(1,aj b),(2,.func 69 []),(15,aj a),(16,.int .i64 a.length),(17,.int .i64 k)]) (fun k=>k≤a.length∧∀i,i<k→a.getD i default=b.getD i default) (fun k=>a.length-k) 0 ⟨bF _,fun i h=>absurd h (by omega)⟩ ag0 ?_;rintro k ⟨h1,h2⟩;by_cases hk:k<a.length
 rotate_left
 ·obtain rfl:k=a.length:=by omega
  have e:a=b:=List.ext_getElem hl fun i i1 i2=>by
   have:=h2 i i1;simpa[List.getD,i1,i2] using this
  rw[aR e];refine wnY and_self ?_;exact .bool _
 have ix:=dB hk;have iy:=dB (l:=b) (k:=k) (by omega);have hcl:=LV _ _ (ha.2 _ (ay hk)) (hb.2 _ (ay (l:=b) (i:=k) (by omega)));by_cases e:a.getD k default=b.getD k default
 ·rw[aR e] at hcl
  have hn:∀i,i<k+1→a.getD i default=b.getD i default:=fun i hi=>by
   rcases(by omega:i<k∨i=k) with h|rfl
   ·exact h2 i h
   ·exact e
  generalize a.getD k default=s at *;generalize b.getD k default=t at *;refine wnY (aI @ix @iy) ?_;exact⟨k+1,⟨by omega,hn⟩,by omega,ag0,rfl,rfl⟩
 ·rw[a6 e] at hcl;rw[a6 (fun q=>e (by rw[q]))];generalize a.getD k default=s at *;generalize b.getD k default=t at *;refine wnY (aI @ix @iy) ?_;exact .bool _
end Go.Proofs.YtekdaafnjdlenaaGreat
namespace Go.Proofs.YtekdaafnjdlenaaGreat
open Go Go.Abs
def jQ(R:List (List Int))(y:List Int):List Int:=y.foldl (fun a i=>bV a (R.getD i.toNat default)) []
theorem uZ{R:List (List Int)}{y:List Int}{i:Int}:jQ R (y++[i])=bV (jQ R y) (R.getD i.toNat default):=by unfold jQ;rw[List.foldl_append];rfl
theorem wS{R:List (List Int)}{c:Nat}(hR:∀r∈R,bo r)(hv:∀r∈R,∀z∈r,0≤z∧z<(c:Int)){y:List Int}(hy:∀i∈y,0≤i∧i<(R.length:Int)):∀k,k≤y.length→bo (jQ R (y.take k))∧∀z∈jQ R (y.take k),0≤z∧z<(c:Int)
 |0,_=>⟨pt,fun z h=>(by cases h)⟩
 |k+1,hk=>by
  obtain⟨h1,h2⟩:=wS hR hv hy k (by omega);have hi:=hy _ (ay (l:=y) (i:=k) (by omega));have hm:R.getD (y.getD k default).toNat default∈R:=ay (by omega);rw[bS (show k<y.length by omega),uZ];refine⟨dR h1 (hR _ hm),fun z hz=>?_⟩;rcases(dp h1 (hR _ hm)).1 hz with q|q
  ·exact h2 z q.1
  ·exact hv _ hm z q.1
def GM(R:List (List Int))(b y:List Int):Int:=if jQ R y=[] then(if jp y b=true then 0 else 18) else 18
attribute [local irreducible] aK ak bf a5 aO aQ aC aS a7 bj Go.Abs.Fn aZ Go.Abs.Pure au aM Yl
theorem DT(c:Nat)(R:List (List Int))(b y:List Int)(hm:gY c R)(hbr:∀v∈b,0≤v∧v<(R.length:Int))(hba:bo b)(hyr:∀v∈y,0≤v∧v<(R.length:Int))(hya:bo y):pU 71 [dS c R,aG b,aG y] (.int .i64 (GM R b y)):=by
 refine pO Ms ?_;simp only[b71,aH];have hmR:=fF hm;have hmv:∀r∈R,∀z∈r,0≤z∧z<(c:Int):=fun r hr z hz=>(hm.2.2.2 r hr).1 z hz;have hbl:=ft hba hbr;have hyl:=ft hya hyr
 have hvec:∀ {x:List Int},x.length ≤ R.length→(∀ v ∈ x,0 ≤ v∧v < (R.length:Int))→bo x→pU 114 [aG x,.int .i64 R.length] (.int .i64 0):=fun {x} h1 h2 h3=>px x (R.length:Int) (by have:=hm.2.2.1; omega) h2 (fun i hi=>by
  have:=kB.1 h3 i (i+1) (by omega) hi (by omega);simpa[List.getD,show i<x.length by omega,hi] using this)
 have h1:=kY c R hm;have h2:=hvec hbl hbr hba;have h3:=hvec hyl hyr hya;have z0:decide ((0:Int)≠0)=false:=rfl;have hd:Dat (.agg [.int .i64 c,bD R]):=dj c R;have hmc:=hm.2.1;have hrl:=hm.2.2.1;have hod:=Eb y b (by omega) (by omega);rw[dl];refine wnY (zI3 @z0 @eD @er) ?_;refine Bu (X:=Nat) (fun k=>[(1,aG b),(2,aG y),(3,.ptr 0 2 0),(10,aG (jQ R (y.take k))),(34,aG y),(35,.int .i64 y.length),(36,.int .i64 k)]) (fun k H nx=>k≤y.length∧H 0=some [.int .i64 c,bD R]) (fun k=>y.length-k) 0 ⟨_,_,Fz.none,⟨bF _,rfl⟩,⟨.inl rfl,.inl rfl,.inl rfl,.inr (.eslsl 1),.inl rfl,.inl rfl,.inl rfl,trivial⟩⟩ ?_;rintro k H nx ⟨g1,g2⟩;obtain⟨a1,a2⟩:=wS hmR hmv hyr k g1;have al:=ft a1 a2;by_cases hk:k<y.length
 ·have ix:=ixV hk;have hi:=hyr _ (ay hk);have hts:=bS hk;have hsn:jQ R (y.take (k+1))=bV (jQ R (y.take k)) (R.getD (y.getD k default).toNat default):=by rw[hts,uZ]
  have iy:ee 1 (bD R) (.int .i64 (y.getD k default))=some (.iptr [aG (R.getD (y.getD k default).toNat default)] 0):=by
   rw[nU,if_pos ⟨hi.1,hi.2⟩]
  have hrow:R.getD (y.getD k default).toNat default∈R:=ay (by omega);have hrl2:=(hm.2.2.2 _ hrow).2.1;have hsu:=vq (jQ R (y.take k)) (R.getD (y.getD k default).toNat default) (by omega) (by omega);rw[←hsn] at hsu;generalize R.getD (y.getD k default).toNat default=r at *;generalize y.getD k default=i at *;generalize jQ R (y.take k)=s1 at *;refine wnY (zI3 @g2 @ix @iy) ?_;exact⟨k+1,by omega,_,_,Fz.none,⟨by omega,g2⟩,kf ag0⟩
 obtain rfl:k=y.length:=by omega
 rw[List.take_length] at *;unfold GM;by_cases hs:jQ R y=[]
 ·rw[if_pos hs];have z:decide ((0:Int)<(jQ R y).length)=false:=by rw[hs];rfl
  cases ho:jp y b
  ·rw[ho] at hod;refine wnY (aI @z @er) ?_;exact .int _ _
  ·rw[ho] at hod;refine wnY (aI @z @er) ?_;exact .int _ _
 ·rw[if_neg hs];have z:decide ((0:Int)<(jQ R y).length)=true:=aR (by have:=gy.2 hs;omega);refine wnY (aI @z @er) ?_;exact .int _ _
end Go.Proofs.YtekdaafnjdlenaaGreat
namespace Go.Proofs.YtekdaafnjdlenaaGreat
open Go Go.Abs
open Nat (reduceEqDiff reduceAdd reduceLeDiff)
def mh(H:Hp)(s:AV)(l:List (List Int)):Prop:=s=bD l∨Row H 1 s (l.map aG)
theorem mh.src{H H':Hp}{s:AV}{l:List (List Int)}(h:mh H s l)(hs:∀b,bL s=some b→H' b=H b):ed 1 H' s=some (l.length,l.map aG):=by
 rcases h with rfl|h
 ·exact jf
 ·have h:=h.same hs;generalize hc:l.map aG=cs at h;have hl:l.length=cs.length:=by rw[←hc,bw]
  cases h with
  |nil=>rw[hl];rfl
  |box b len cs hb hn=>
   rw[Nat.mul_one] at hn;rw[fB hb (by rw[hn,Nat.mul_one]) (by omega),hl,hn,Nat.mul_one,List.drop_zero,fv (by omega)]
theorem mh.len{H:Hp}{s:AV}{l:List (List Int)}(h:mh H s l):fu s=some l.length:=by
 rcases h with rfl|h
 ·exact x5
 ·generalize hc:l.map aG=cs at h;have hl:l.length=cs.length:=by rw[←hc,bw]
  cases h with
  |nil=>rw[hl];rfl
  |box b len cs hb hn=>rw[hl,hn,Nat.mul_one];rfl
theorem mh.snap{H:Hp}{s:AV}{l:List (List Int)}(h:mh H s l):Snap H s (bD l):=by
 rcases h with rfl|h
 ·exact(mF l).snap
 ·exact pg h
theorem tE{H:Hp}{s:AV}{cs:List AV}(h:Row H 1 s cs)(c:Int):d9 [AV.int .i64 0,.esl] [(0,1,.int .i64 c),(1,1,s)]=some [.int .i64 c,s]:=by cases h<;>rfl
theorem BM{l:List (List Int)}:AV.ones (l.map aG)=true:=by
 unfold AV.ones;rw[en];intro x hx;obtain⟨y,_,rfl⟩:=bG.1 hx;rfl
def FP(x:AV):Option AV:=match x with|.ptr b n o=>some (.ptr b n o)|.iptr c o=>some (.iptr c o)|.func f c=>some (.func f c)|_=>none
theorem NK:(∀(T:Tm)(H:Hp)(x:Opd),bA T H (.nilck x)=FP (ov T x))∧(∀b n o:Nat,FP (.ptr b n o)=some (.ptr b n o)):=⟨fun _ _ _=>rfl,fun _ _ _=>rfl⟩
attribute [local irreducible] aK ak bf a5 aO aQ aC aS a7 bj Go.Abs.Fn aZ Go.Abs.Pure au aM Yl
theorem Cy(s:AV)(l:List (List Int))(hl:l.length≤1000000)(H:Hp)(nx:Nat)(hr:mh H s l)(hb:∀b,bL s=some b→b<nx):Abs.Fn Tryz.prog 135 [s] H nx fun r H' nx'=>Row H' 1 r (l.map aG)∧nx≤nx'∧(∀x,x<nx→H' x=H x)∧∀b,bL r=some b→nx≤b∧b<nx':=by
 refine fO LL ?_;simp only[Ki,aH];have hsrc:=hr.src (H':=H) fun _ _=>rfl;have hn:=hr.len;have fin:l.length=0→l.map aG=[]:=fun h=>by rw[fw.1 h];rfl
 repeat' (first|refine zW ?_|apply a_n|refine zO ?_|refine vY ?_|fail)
 refine vW (k:=l.length) (by((try simp only[bX,ZA,reduceEqDiff,↓reduceIte,reduceAdd,reduceLeDiff]);(try with_reducible rfl));exact hn) (fun h=>?_) (fun h=>?_) (fun h=>?_)
 ·repeat' (first|refine zW ?_|apply a_n|refine zO ?_|refine vY ?_|refine b0Y ?_|refine cFY ?_|fail)
  refine lV rfl ev0 ev0 hsrc BM (by omega) (by omega) ?_
  repeat' (first|apply a_n|refine zO ?_|refine vY ?_|refine bU rfl ?_|refine r1Y ?_|fail)
  refine⟨by simpa only[Nat.mul_one] using Row.box (sz:=1) nx l.length (l.map aG) (ag (H:=H)) (by rw[bw,Nat.mul_one]),by omega,fun x hx=>ac (by omega),fun b hb=>by cases hb;omega⟩
 ·repeat' (first|refine zW ?_|apply a_n|apply a_r|refine zO ?_|refine vY ?_|refine cTY ?_|refine bU rfl ?_|refine r1Y ?_|fail)
  refine⟨by rw[fin h];exact Row.nil,aP _,fun x hx=>rfl,fun b hb=>(by cases hb)⟩
 ·repeat' (first|refine zW ?_|apply a_n|refine zO ?_|refine vY ?_|refine b0Y ?_|refine cFY ?_|fail)
  refine lV rfl ev0 ev0 hsrc BM (by omega) (by omega) ?_
  repeat' (first|apply a_n|refine zO ?_|refine vY ?_|refine bU rfl ?_|refine r1Y ?_|fail)
  refine⟨by simpa only[Nat.mul_one] using Row.box (sz:=1) nx l.length (l.map aG) (ag (H:=H)) (by rw[bw,Nat.mul_one]),by omega,fun x hx=>ac (by omega),fun b hb=>by cases hb;omega⟩
set_option maxHeartbeats 1000000 in
theorem Kx(c:Nat)(E:List (List Int))(rk:Nat)(v:List Int)(s:AV)(b:Nat)(H:Hp)(nx:Nat)(hm:gY c (E++[v]))(hb:H b=some [.int .i64 c,s,.int .i64 rk])(hbn:b<nx)(hr:mh H s E)(hs:∀x,bL s=some x→x<nx):
    Abs.Fn Tryz.prog 82 [.ptr b 3 0,aG v] H nx fun r H' nx'=>nx≤nx'∧(∀x,x<nx→x≠b→H' x=H x)∧((ec (E++[v]) c).length=rk∧r=.tup [.bool false,.int .i64 0]∧H' b=H b∨(ec (E++[v]) c).length≠rk∧r=.tup [.bool true,.int .i64 0]∧∃rv,H' b=some [.int .i64 c,rv,.int .i64 (ec (E++[v]) c).length]∧mh H' rv (E++[v])∧∀x,bL rv=some x→nx≤x∧x<nx'):=by
 refine fO M4 ?_;simp only[b82,aH];have hrank:=AE c (E++[v]) hm;have hel:E.length≤4096:=by have:=hm.2.2.1;rw[c7] at this;omega
 have hcl:=fun H' nx' (h1:∀ x,x < nx→H' x=H x) (h2:nx ≤ nx')=>Cy s E (by omega) H' nx' (by
  rcases hr with h|h
  ·exact .inl h
  ·exact .inr (h.same fun x hx=>h1 x (hs x hx))) (fun x hx=>by have:=hs x hx;omega)
 refine dD ?_
 repeat' (first|apply a_n|refine zO ?_|refine vY ?_|fail)
 refine co (fun T H' nx'=>∃nb rv,T 0=.ptr b 3 0∧T 1=aG v∧T 6=.ptr nb 2 0∧nx≤nb∧nb<nx'∧H' nb=some [.int .i64 c,rv]∧Row H' 1 rv ((E++[v]).map aG)∧(∀x,bL rv=some x→nx≤x∧x<nx'∧x≠nb)∧∀x,x<nx→H' x=H x) ?_ ?_
 ·refine IY (only b [.int .i64 c,s,.int .i64 rk]) (n7 hb) ?_;have hS:only b [.int .i64 c,s,.int .i64 rk] b=some [.int .i64 c,s,.int .i64 rk]:=kU;have hsub:∀H':Hp,H' b=some [.int .i64 c,s,.int .i64 rk]→Sub (only b [.int .i64 c,s,.int .i64 rk]) H':=fun H' h=>n7 h;generalize only b [AV.int .i64 c,s,.int .i64 rk]=S at *;simp only[fQ,List.map_nil,List.getD_cons_succ,List.getD_cons_zero];have zz:=aI @NK @hS;repeat' (first|apply a_n|refine zO ?_|refine nvY ?_|apply uE|refine Hj ?_|fail)
  refine Hl (pv:=[(0,1,aG v)]) (cs:=[aG v]) ev0 rfl (by decide) rfl rfl (uE ?_);have hsv:∀H':Hp,ed 1 H' (.sl 1 [aG v])=some (1,[aG v]):=fun _=>rfl;have ones_encVs:AV.ones [aG v]=true:=rfl;have happ:E.map aG++[aG v]=(E++[v]).map aG:=by rw[cL];rfl
  refine JC ?_ ?_
  ·refine dP ?_
   repeat' (first|apply a_n|refine zO ?_|refine alY ?_|fail)
   refine⟨hsub _ (by rw[ac (by omega)];exact hb),?_⟩;refine dP ?_;refine bd ev0 ev0 (hcl _ _ (fun x hx=>ac (by omega)) (by omega)) ?_;rintro r H1 nx1 ⟨k1,k2,k3,k4⟩;have q0:H1 nx=some [AV.int .i64 0,.esl]:=(k3 nx (by omega)).trans ag;have q1:∀x,x<nx→H1 x=H x:=fun x hx=>(k3 x (by omega)).trans (ac (by omega));refine jz ⟨hsub _ ((q1 b hbn).trans hb),?_⟩;refine dP ?_;refine iX rfl ev0 k1 ev0 (hsv _) ones_encVs rfl mq (by rw[bw];omega) (by rw[bw];omega) ?_;rintro s2 H2 nx2 hr2 i1 i2 i3 i4;rw[happ] at hr2;have g:∀x,x≤nx→H2 x=H1 x:=fun x hx=>i3 x (by omega) fun h=>by have:=(k4 x h).1;omega
   refine jz ⟨hsub _ ((g b (by omega)).trans ((q1 b hbn).trans hb)),?_⟩;have q2:=(g nx (aP _)).trans q0;have hge:∀x,bL s2=some x→nx+1≤x∧x<nx2:=fun x hx=>(i4 x hx).elim (fun h=>⟨(k4 x h).1,by have:=(k4 x h).2;omega⟩) fun h=>⟨by omega,by omega⟩
   clear zz;have zz:=aI @q2 (aI (tE hr2) (aI hr2.one.1 hr2.one.2));repeat' (first|apply a_n|refine zO ?_|refine nvY ?_|apply iW|refine stY ?_|fail)
   refine⟨nx,s2,rfl,rfl,rfl,by omega,by omega,ag,hr2.same (fun x hx=>ac (by have:=(hge x hx).1;omega)),fun x hx=>⟨by have:=(hge x hx).1;omega,(hge x hx).2,by have:=(hge x hx).1;omega⟩,fun x hx=>?_⟩;rw[ac (by omega)];exact(g x (by omega)).trans (q1 x hx)
  ·refine dP ?_;refine bd ev0 ev0 (hcl _ _ (fun x hx=>rfl) (by omega)) ?_;rintro r H1 nx1 ⟨k1,k2,k3,k4⟩;refine jz ⟨hsub _ ((k3 b hbn).trans hb),uE ?_⟩;refine JC ?_ ?_
   ·refine dP ?_
    repeat' (first|apply a_n|refine zO ?_|refine alY ?_|fail)
    refine⟨hsub _ (by rw[ac (by omega)];exact(k3 b hbn).trans hb),?_⟩;refine dP ?_;refine iX rfl ev0 (k1.same fun x hx=>ac (by have:=(k4 x hx).2;omega)) ev0 (hsv _) ones_encVs rfl mq (by rw[bw];omega) (by rw[bw];omega) ?_;rintro s2 H2 nx2 hr2 i1 i2 i3 i4;rw[happ] at hr2;have g:∀x,x<nx→H2 x=H1 x:=fun x hx=>(i3 x (by omega) fun h=>by have:=(k4 x h).1;omega).trans (ac (by omega));have q2:=(i3 nx1 (by omega) fun h=>by have:=(k4 nx1 h).2;omega).trans ag;refine jz ⟨hsub _ ((g b (by omega)).trans ((k3 b hbn).trans hb)),?_⟩;have hge:∀x,bL s2=some x→nx≤x∧x<nx2∧x≠nx1:=fun x hx=>(i4 x hx).elim (fun h=>⟨(k4 x h).1,by have:=(k4 x h).2;omega,by have:=(k4 x h).2;omega⟩) fun h=>⟨by omega,by omega,by omega⟩
    clear zz;have zz:=aI @q2 (aI (tE hr2) (aI hr2.one.1 hr2.one.2));repeat' (first|apply a_n|refine zO ?_|refine nvY ?_|apply iW|refine stY ?_|fail)
    refine⟨nx1,s2,rfl,rfl,rfl,by omega,by omega,ag,hr2.same (fun x hx=>ac (by have:=(hge x hx).2.2;omega)),fun x hx=>⟨(hge x hx).1,(hge x hx).2.1,by have:=(hge x hx).2.2;omega⟩,fun x hx=>?_⟩;rw[ac (by omega)];exact(g x (by omega)).trans (k3 x hx)
   ·refine dP ?_;refine iX rfl ev0 k1 ev0 (hsv _) ones_encVs rfl mq (by rw[bw];omega) (by rw[bw];omega) ?_;rintro s2 H2 nx2 hr2 i1 i2 i3 i4;rw[happ] at hr2;have g:∀x,x<nx→H2 x=H1 x:=fun x hx=>i3 x (by omega) fun h=>by have:=(k4 x h).1;omega
    refine jz ⟨hsub _ ((g b (by omega)).trans ((k3 b hbn).trans hb)),uE ?_⟩;have hge:∀x,bL s2=some x→nx≤x∧x<nx2:=fun x hx=>(i4 x hx).elim (fun h=>⟨(k4 x h).1,by have:=(k4 x h).2;omega⟩) fun h=>⟨by omega,by omega⟩
    clear zz;have zz:=(tE hr2);repeat' (first|apply a_n|refine zO ?_|refine nvY ?_|apply uE|refine Hj ?_|fail)
    refine Jv (dP ?_)
    repeat' (first|apply a_n|refine zO ?_|refine alY ?_|fail)
    refine⟨hsub _ (by rw[ac (by omega)];exact(g b hbn).trans ((k3 b hbn).trans hb)),?_⟩;clear zz;have zz:=aI hr2.one.1 hr2.one.2;repeat' (first|apply a_n|refine zO ?_|apply iW|refine stY ?_|fail)
    refine⟨nx2,s2,rfl,rfl,rfl,by omega,by omega,ag,hr2.same (fun x hx=>(ac (by have:=(hge x hx).2;omega)).trans (ac (by have:=(hge x hx).2;omega))),fun x hx=>⟨(hge x hx).1,by have:=(hge x hx).2;omega,by have:=(hge x hx).2;omega⟩,fun x hx=>?_⟩;rw[ac (by omega),ac (by omega)];exact(g x (by omega)).trans (k3 x hx)
 rintro T H1 nx1 ⟨nb,wv,t0,t1,t6,h1,h2,h3,h4,h5,h6⟩;have g0:H1 b=some [.int .i64 c,s,.int .i64 rk]:=(h6 b hbn).trans hb;generalize hEv:E++[v]=E' at *;have zz:=aI @t0 (aI @t1 (aI @t6 @h3));repeat' (first|refine zW ?_|apply a_n|refine zO ?_|refine vY ?_|fail)
 refine eo (have zz:=aI @t0 (aI @t1 (aI @t6 @h3));evY) (have zz:=aI @t0 (aI @t1 (aI @t6 @h3));evY) hrank (aE (ah (tY (ah (Dat.snap Dat.int) (ah (pg h4) ao))) ao) rfl) ?_;have bne:∀x,bL wv=some x→x≠b:=fun x hx=>by have:=(h5 x hx).1;omega
 by_cases heq:(ec E' c).length=rk
 ·have hi:decide ((((ec E' c).length:Nat):Int)=(rk:Int))=true:=aR (by rw[heq]);clear zz;have zz:=aI @t0 (aI @t1 (aI @t6 (aI @h3 (aI @g0 (aI @NK @hi)))));repeat' (first|refine zW ?_|apply a_n|apply a_r|refine zO ?_|refine vY ?_|refine gTY ?_|(refine zGY ?_ ?_<;>(intro _hg;try (exfalso;omega)))|refine cTY ?_|refine bU rfl ?_|refine r2Y ?_|fail)
  exact⟨by omega,fun x hx _=>h6 x hx,.inl ⟨heq,rfl,h6 b hbn⟩⟩
 ·have hi:decide ((((ec E' c).length:Nat):Int)=(rk:Int))=false:=a6 (fun h=>heq (by exact_mod_cast h));clear zz;have zz:=aI @t0 (aI @t1 (aI @t6 (aI @h3 (aI @g0 (aI @NK (aI @hi (aI h4.one.1 h4.one.2)))))));repeat' (first|refine zW ?_|apply a_n|refine zO ?_|refine vY ?_|refine stY ?_|refine gTY ?_|(refine zGY ?_ ?_<;>(intro _hg;try (exfalso;omega)))|refine cFY ?_|refine bU rfl ?_|refine r2Y ?_|fail)
  have e:bH [AV.int .i64 c,wv,.int .i64 rk] 2 [.int .i64 ((ec E' c).length:Int)]=[.int .i64 c,wv,.int .i64 ((ec E' c).length:Int)]:=rfl;refine⟨by omega,fun x hx hxb=>?_,.inr ⟨heq,rfl,wv,?_,.inr (h4.same fun x hx=>?_),fun x hx=>⟨(h5 x hx).1,(h5 x hx).2.1⟩⟩⟩
  ·rw[ac hxb,ac hxb];exact h6 x hx
  ·rw[ag,e]
  ·rw[ac (bne x hx),ac (bne x hx)]
end Go.Proofs.YtekdaafnjdlenaaGreat
namespace Go.Proofs.YtekdaafnjdlenaaGreat
open Go Go.Abs
open Nat (reduceEqDiff reduceAdd reduceLeDiff)
def RL(c:Nat)(rows:List (List Int)):Prop:=∀r∈rows,bo r∧∀z∈r,0≤z∧z<(c:Int)
theorem RL.len{c:Nat}{rows:List (List Int)}(h:RL c rows):∀r∈rows,r.length≤c:=fun r hr=>ft (h r hr).1 (h r hr).2
theorem RL.sum {c:Nat} {a b:List Int} (h1:bo a∧∀ z ∈ a,0 ≤ z∧z < (c:Int)) (h2:bo b∧∀ z ∈ b,0 ≤ z∧z < (c:Int)):bo (bV a b)∧∀ z ∈ bV a b,0 ≤ z∧z < (c:Int):=⟨dR h1.1 h2.1,fun z hz=>by
 rcases(dp h1.1 h2.1).1 hz with q|q
 ·exact h1.2 z q.1
 ·exact h2.2 z q.1⟩
theorem RL.elF{c:Nat}{rows:List (List Int)}(h:RL c rows){n k i:Nat}(hn:n<rows.length)(hi:i<rows.length):bo (elF rows n k i)∧∀z∈elF rows n k i,0≤z∧z<(c:Int):=by
 unfold Go.Proofs.YtekdaafnjdlenaaGreat.elF;split
 ·exact RL.sum (h _ (ay hi)) (h _ (ay hn))
 ·exact h _ (ay hi)
theorem RL.swL{c:Nat}{rows:List (List Int)}(h:RL c rows){n k:Nat}(hn:n<rows.length)(hk:k<rows.length):RL c (swL rows n k):=fun r hr=>by
 unfold Go.Proofs.YtekdaafnjdlenaaGreat.swL at hr;obtain⟨j,hj,rfl⟩:=bG.1 hr;exact h _ (ay (nZ hn hk (eO.1 hj)))
theorem mh.one{H:Hp}{s:AV}{l:List (List Int)}(h:mh H s l):s.one=true∧s.cells=[s]:=by
 rcases h with rfl|h
 ·exact⟨rfl,rfl⟩
 ·exact h.one
attribute [local irreducible] aK ak bf a5 aO aQ aC aS a7 bj Go.Abs.Fn aZ Go.Abs.Pure au aM Yl
end Go.Proofs.YtekdaafnjdlenaaGreat