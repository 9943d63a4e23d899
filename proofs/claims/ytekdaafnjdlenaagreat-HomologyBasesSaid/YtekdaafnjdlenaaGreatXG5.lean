/- Contracts of functions and plain laws, for all inputs that the theorems name. -/
import Derived.Test.YtekdaafnjdlenaaGreatXG4
import Derived.Test.YtekdaafnjdlenaaGreatXG3

set_option linter.unusedSimpArgs false
set_option linter.unusedVariables false
set_option maxHeartbeats 4000000
namespace Go.Proofs.YtekdaafnjdlenaaGreat
open Go Go.Abs
open Nat (reduceEqDiff reduceAdd reduceLeDiff)
theorem sD{α:Type}[Inhabited α]{f:Nat->α}{n i:Nat}(h:i<n):((List.range n).map f).getD i default=f i:=by
 simp[List.getD,h]
theorem lN{α:Type}[Inhabited α]{l:List α}{x:α}(h:x∈l):∃i,i<l.length/\l.getD i default=x:=by
 obtain⟨i,hi,e⟩:=kI h;exact⟨i,hi,by simp[List.getD,hi,e]⟩
def OA(rows:List (List Int))(n c:Nat):Option Nat:=(List.range rows.length).find? λi=>decide (n<=i)&&decide ((c:Int)∈rows.getD i default)
def swI(n k i:Nat):Nat:=if i=n then k else if i=k then n else i
def swL(rows:List (List Int))(n k:Nat):List (List Int):=(List.range rows.length).map λi=>rows.getD (swI n k i) default
def elF(rows:List (List Int))(n c i:Nat):List Int:=if i≠n/\(c:Int)∈rows.getD i default then bV (rows.getD i default) (rows.getD n default) else rows.getD i default
def elL(rows:List (List Int))(n c:Nat):List (List Int):=(List.range rows.length).map (elF rows n c)
def stR(R:List (List Int)):Nat->List (List Int)×Nat
 |0=>(R,0)
 |c+1=>match OA (stR R c).1 (stR R c).2 c with
  |none=>stR R c
  |some k=>(elL (swL (stR R c).1 (stR R c).2 k) (stR R c).2 c,(stR R c).2+1)
structure RdOk(R rows:List (List Int))(n c:Nat):Prop where
 asc:∀i,i<R.length->bd (rows.getD i default)
 len:rows.length=R.length
 nle:n<=R.length
 sp:∀v,Sp rows v↔Sp R v
 top:∀i,i<n->rows.getD i default≠[]/\ld (rows.getD i default)<c
 own:∀i,i<n->∀j,j<R.length->ld (rows.getD i default)∈rows.getD j default->j=i
 ord:∀i j,i<j->j<n->ld (rows.getD i default)<ld (rows.getD j default)
 low:∀i,n<=i->i<R.length->∀z∈rows.getD i default,(c:Int)<=z
theorem pg{n k i N:Nat}(hn:n<N)(hk:k<N)(hi:i<N):swI n k i<N:=by
 unfold swI;split
 ·exact hk
 ·split
  ·exact hn
  ·exact hi
theorem zD{n k i:Nat}:swI n k (swI n k i)=i:=by
 unfold swI;by_cases h1:i=n
 ·subst h1;rw[if_pos rfl];by_cases h2:k=i
  ·rw[if_pos h2];exact h2
  ·rw[if_neg h2,if_pos rfl]
 ·rw[if_neg h1];by_cases h2:i=k
  ·rw[if_pos h2,if_pos rfl];exact h2.symm
  ·rw[if_neg h2,if_neg h1,if_neg h2]
theorem Jq{rows:List (List Int)}{N:Nat}(hl:rows.length=N)(h:∀i,i<N->bd (rows.getD i default)):∀r∈rows,bd r:=λr hr=>by
 obtain⟨i,hi,e⟩:=lN hr;rw[<-e];exact h i (by omega)
theorem J4{rows:List (List Int)}{n k:Nat}(hn:n<rows.length)(hk:k<rows.length)(v:List Int):Sp (swL rows n k) v↔Sp rows v:=by
 constructor
 ·refine iG λr hr=>?_;obtain⟨i,hi,rfl⟩:=bz.1 hr;exact aA (pg hn hk (dE.1 hi))
 ·refine iG λr hr=>?_;obtain⟨i,hi,rfl⟩:=lN hr;refine bz.2 ⟨swI n k i,dE.2 (pg hn hk hi),?_⟩;rw[zD]
theorem KR{rows:List (List Int)}{n c:Nat}(ha:∀i,i<rows.length->bd (rows.getD i default))(hn:n<rows.length)(v:List Int):Sp (elL rows n c) v↔Sp rows v:=by
 have hE:∀i,i<rows.length->bd (elF rows n c i):=λi hi=>by
  unfold elF;split
  ·exact en (ha i hi) (ha n hn)
  ·exact ha i hi
 have hEa:∀r∈elL rows n c,bd r:=λr hr=>by
  obtain⟨i,hi,rfl⟩:=bz.1 hr;exact hE i (dE.1 hi)
 have hRa:=Jq rfl ha;have hin:∀i,i<rows.length->elF rows n c i∈elL rows n c:=λi hi=>bz.2 ⟨i,dE.2 hi,rfl⟩
 have hpn:Sp (elL rows n c) (rows.getD n default):=by
  have h:=cR (hin n hn);unfold elF at h
  rwa [if_neg (λq=>q.1 rfl)] at h
 constructor
 ·refine jm hRa λr hr=>?_;obtain⟨i,hi,rfl⟩:=bz.1 hr;have hi:=dE.1 hi;unfold elF;split
  ·exact jP hRa (cR (aA hi)) (cR (aA hn))
  ·exact cR (aA hi)
 ·refine jm hEa λr hr=>?_;obtain⟨i,hi,rfl⟩:=lN hr;have h:=cR (hin i hi);unfold elF at h;split at h
  ·have h2:=jP hEa h hpn
   rwa [<-eM (ha i hi) (ha n hn) (ha n hn),fu (ha n hn),gB] at h2
  ·exact h
theorem Hy{R:List (List Int)}(hR:∀r∈R,bd r)(hv:∀r∈R,∀z∈r,(0:Int)<=z):∀{c:Nat},RdOk R (stR R c).1 (stR R c).2 c
 |0=>⟨λi hi=>hR _ (aA hi),rfl,bQ _,λ_=>Iff.rfl,λi h=>absurd h (Nat.not_lt_zero _),λi h=>absurd h (Nat.not_lt_zero _),λi j _ h=>absurd h (Nat.not_lt_zero _),λi _ hi z hz=>hv _ (aA hi) z hz⟩
 |c+1=>by
  have ih:=Hy hR hv (c:=c);unfold stR;generalize e1:(stR R c).1=rows at *;generalize e2:(stR R c).2=n at *;obtain⟨i1,i2,i3,i4,i5,i6,i7,i8⟩:=ih;cases hp:OA rows n c with
  |none=>
   show RdOk R (stR R c).1 (stR R c).2 (c+1);rw[e1,e2];refine⟨i1,i2,i3,i4,λi hi=>⟨(i5 i hi).1,by have:=(i5 i hi).2;omega⟩,i6,i7,λi h1 h2 z hz=>?_⟩;have h3:=i8 i h1 h2 z hz;have h4:=List.find?_eq_none.1 hp i (dE.2 (by omega));have h5:z≠(c:Int):=λe=>h4 (by rw[<-e];simp only[eu,iB];exact⟨h1,hz⟩);omega
  |some k=>
   show RdOk R (elL (swL rows n k) n c) (n+1) (c+1);have k1:=dE.1 (List.mem_of_find?_eq_some hp)
   have k2:n<=k/\(c:Int)∈rows.getD k default:=by
    have:=List.find?_some hp;simpa only[eu,iB] using this
   obtain⟨k3,k4⟩:=k2;have hkN:k<R.length:=by omega
   have hnN:n<R.length:=by omega
   have sl:(swL rows n k).length=R.length:=by unfold swL;rw[bm,List.length_range,i2]
   have gs:∀i,i<R.length->(swL rows n k).getD i default=rows.getD (swI n k i) default:=λi hi=>sD (by omega)
   have gp:(swL rows n k).getD n default=rows.getD k default:=by
    rw[gs n hnN];unfold swI;rw[if_pos rfl]
   have ge:∀i,i<R.length->(elL (swL rows n k) n c).getD i default=elF (swL rows n k) n c i:=λi hi=>sD (by omega)
   have gn:(elL (swL rows n k) n c).getD n default=rows.getD k default:=by
    rw[ge n hnN];unfold elF;rw[if_neg (λq=>q.1 rfl),gp]
   have gi:∀i,i<R.length->i≠n->(elL (swL rows n k) n c).getD i default=if (c:Int)∈rows.getD (swI n k i) default then bV (rows.getD (swI n k i) default) (rows.getD k default) else rows.getD (swI n k i) default:=λi hi hn=>by
    rw[ge i hi];unfold elF;rw[gs i hi,gp];by_cases h:(c:Int)∈rows.getD (swI n k i) default
    ·rw[if_pos ⟨hn,h⟩,if_pos h]
    ·rw[if_neg (λq=>h q.2),if_neg h]
   have hpa:=i1 k hkN;have hpl:=i8 k k3 hkN;have hsa:∀i,i<R.length->bd (rows.getD (swI n k i) default):=λi hi=>i1 _ (pg hnN hkN hi);have hld:ld (rows.getD k default)=c:=Int.le_antisymm (oI hpa k4) (hpl _ (dl (λe=>by rw[e] at k4;cases k4)));have hpne:rows.getD k default≠[]:=λe=>by rw[e] at k4;cases k4
   have hsw:∀i,i<n->swI n k i=i:=λi hi=>by unfold swI;rw[if_neg (by omega),if_neg (by omega)]
   have hnp:∀i,i<n->ld (rows.getD i default)∉rows.getD k default:=λi hi h=>by have:=i6 i hi k hkN h;omega
   have hsw2:∀v,Sp (swL rows n k) v↔Sp rows v:=λv=>J4 (by omega) (by omega) v;have hda:∀i,i<(swL rows n k).length->bd ((swL rows n k).getD i default):=λi hi=>by rw[gs i (by omega)];exact hsa i (by omega)
   have hmem:∀j,j<R.length->j≠n->∀z,z∈(elL (swL rows n k) n c).getD j default->z∉rows.getD k default->z∈rows.getD (swI n k j) default:=λj hj hn z hz hzp=>by
    rw[gi j hj hn] at hz;split at hz
    ·rcases(cW (hsa j hj) hpa).1 hz with q|q
     ·exact q.1
     ·exact absurd q.1 hzp
    ·exact hz
   have hlow:∀j,j<R.length->j≠n->(c:Int)∉(elL (swL rows n k) n c).getD j default:=λj hj hn hz=>by
    rw[gi j hj hn] at hz;split at hz
    ·rename_i h;rcases(cW (hsa j hj) hpa).1 hz with q|q
     ·exact q.2 k4
     ·exact q.2 h
    ·rename_i h;exact h hz
   have htop:∀i,i<n->ld ((elL (swL rows n k) n c).getD i default)=ld (rows.getD i default)/\(elL (swL rows n k) n c).getD i default≠[]:=λi hi=>by
    obtain⟨t1,t2⟩:=i5 i hi;rw[gi i (by omega) (by omega),hsw i hi];split
    ·have hm:ld (rows.getD i default)∈bV (rows.getD i default) (rows.getD k default):=(cW (i1 i (by omega)) hpa).2 (.inl ⟨dl t1,hnp i hi⟩);have hne:bV (rows.getD i default) (rows.getD k default)≠[]:=λe=>by rw[e] at hm;cases hm
     refine⟨Int.le_antisymm (oI (en (i1 i (by omega)) hpa) hm) ?_,hne⟩;rcases(cW (i1 i (by omega)) hpa).1 (dl hne) with q|q
     ·exact oI (i1 i (by omega)) q.1
     ·have:=hpl _ q.1;omega
    ·exact⟨rfl,t1⟩
   refine⟨λi hi=>?_,?_,by omega,λv=>?_,λi hi=>?_,λi hi j hj h=>?_,λi j hij hj=>?_,λi h1 h2 z hz=>?_⟩
   ·rw[ge i hi];unfold elF;split
    ·exact en (hda i (by omega)) (hda n (by omega))
    ·exact hda i (by omega)
   ·unfold elL;rw[bm,List.length_range,sl]
   ·rw[KR hda (by omega),hsw2,i4]
   ·by_cases hin:i=n
    ·subst hin;rw[gn,hld];exact⟨hpne,by omega⟩
    ·obtain⟨t1,t2⟩:=htop i (by omega);rw[t1];have:=(i5 i (by omega)).2;exact⟨t2,by omega⟩
   ·by_cases hin:i=n
    ·subst hin;rw[gn,hld] at h;exact Decidable.byContradiction λhne=>hlow j hj hne h
    ·have hi':i<n:=by omega
     rw[(htop i hi').1] at h;by_cases hjn:j=n
     ·subst hjn;rw[gn] at h;exact absurd h (hnp i hi')
     ·have h3:=i6 i hi' _ (pg hnN hkN hj) (hmem j hj hjn _ h (hnp i hi'));have h4:=congrArg (swI n k) h3;rw[zD,hsw i hi'] at h4;exact h4
   ·by_cases hjn:j=n
    ·subst hjn;rw[gn,hld,(htop i hij).1];exact(i5 i hij).2
    ·rw[(htop i (by omega)).1,(htop j (by omega)).1];exact i7 i j hij (by omega)
   ·have hz2:z≠(c:Int):=λe=>hlow i h2 (by omega) (e▸hz);have hs:n<=swI n k i:=by unfold swI;split<;>(try split)<;>omega
    rw[gi i h2 (by omega)] at hz
    have hz3:(c:Int)<=z:=by
     split at hz
     ·rcases(cW (hsa i h2) hpa).1 hz with q|q
      ·exact i8 _ hs (pg hnN hkN h2) z q.1
      ·exact hpl z q.1
     ·exact i8 _ hs (pg hnN hkN h2) z hz
    omega
def J9(R:List (List Int))(c:Nat):List (List Int):=(stR R c).1.take (stR R c).2
theorem zS{R:List (List Int)}{c:Nat}(hR:∀r∈R,bd r)(hv:∀r∈R,∀z∈r,0<=z/\z<(c:Int)):J9 R c=de R c:=by
 have h:=Hy hR (λr hr z hz=>(hv r hr z hz).1) (c:=c);obtain⟨e1,e2,_⟩:=fR hR hv;unfold J9;generalize (stR R c).1=rows at *;generalize (stR R c).2=n at *;obtain⟨i1,i2,i3,i4,i5,i6,i7,i8⟩:=h;have hlt:(rows.take n).length=n:=by rw[gV];omega
 have hg:∀i,i<n->(rows.take n).getD i default=rows.getD i default:=λi hi=>by
  simp[List.getD,jt,hi]
 have hex:∀r∈rows.take n,∃i,i<n/\rows.getD i default=r:=λr hr=>by
  obtain⟨i,hi,e⟩:=lN hr;exact⟨i,by omega,by rw[<-e,hg i (by omega)]⟩
 have hsub:∀r∈R,∀z∈r,0<=z/\z<(c:Int):=hv
 have hred:Red (rows.take n):=by
  refine⟨λr hr=>?_,λr hr=>?_,λr hr q hq hl=>?_,?_⟩
  ·obtain⟨i,hi,rfl⟩:=hex r hr;exact i1 i (by omega)
  ·obtain⟨i,hi,rfl⟩:=hex r hr;exact(i5 i hi).1
  ·obtain⟨i,hi,rfl⟩:=hex r hr;obtain⟨j,hj,rfl⟩:=hex q hq;rw[i6 i hi j (by omega) hl]
  ·rw[kE];intro i j hi hj hij;have h1:=hg i (by omega);have h2:=hg j (by omega);simp only[List.getD,hi,hj,rB,tB] at h1 h2;rw[h1,h2];exact i7 i j hij (by omega)
 refine pI hred e1 λv=>?_;rw[e2,<-i4];constructor
 ·exact iG λr hr=>lm hr
 ·refine jm hred.asc λr hr=>?_;obtain⟨i,hi,e⟩:=lN hr;by_cases hin:i<n
  ·refine cR ?_;rw[<-e,<-hg i hin];exact aA (by omega)
  ·have hnil:r=[]:=by
     cases hr0:r with
     |nil=>rfl
     |cons z l=>
      have hz:z∈rows.getD i default:=by rw[e,hr0];exact cz ..
      have h1:=i8 i (by omega) (by omega) z hz;have h2:=fE hR hv ((i4 r).1 (cR hr)) z (by rw[hr0];exact cz ..);omega
   rw[hnil];exact Sp.nil
theorem ro{M:List Ln}{v:List Int}(hM:RedU M)(hv:Sp (M.map Prod.fst) v)(h:∀l∈M,ld l.1∉v):v=[]:=by
 have hn:(M.map Prod.fst).Nodup:=List.pairwise_map.2 (List.Pairwise.imp_of_mem (λ{a b} ha hb hab e=>hab (hM.own b hb a ha (by rw[e];exact dl (hM.ne b hb)))) hM.nodup);obtain⟨av,p,hp⟩:=x6 (fc hM) hn hv
 have hpf:∀r∈M.map Prod.fst,¬p r=true:=λr hr hpr=>by
  obtain⟨l,hl,rfl⟩:=bz.1 hr;have h1:=hp (ld l.1)
  rw [uh hn hr (dl (hM.ne l hl)) (fun q hq hz=>by
   obtain⟨m,hm,rfl⟩:=bz.1 hq;rw[hM.own l hl m hm hz]),if_pos hpr] at h1
  exact h l hl (cI.1 (by omega))
 exact nI λz=>by rw[hp z,nY λq hq hpq=>absurd hpq (hpf q hq)]
def kL(R:List (List Int))(z j:Int):Nat:=bit z (R.getD j.toNat default)
theorem qA{f:Ln->List Int}{z:Int}{p:Ln->Bool}:∀{E:List Ln},(∀l∈E,z∉f l)->lM f z p E=0
 |[],_=>rfl
 |r::E,h=>by
  unfold lM;have hb:bit z (f r)=0:=by unfold bit;rw[if_neg (h r (cz ..))]
  rw[hb,qA λl hl=>h l (dy _ hl)];split<;>rfl
theorem sL{R:List (List Int)}(hR:∀r∈R,bd r){i:Nat}(hi:i<=R.length):∀{w:List Int},(∀j∈w,0<=j/\j<(i:Int))->∃v,Sp (R.take i) v/\∀z,bit z v=bJ (kL R z) w%2
 |[],_=>⟨[],Sp.nil,λz=>fG⟩
 |j::w,h=>by
  obtain⟨v,h1,h2⟩:=sL hR hi (w:=w) λk hk=>h k (dy _ hk);have hj:=h j (cz ..);have hT:∀r∈R.take i,bd r:=λr hr=>hR r (lm hr)
  have hm:R.getD j.toNat default∈R.take i:=by
   have hk:j.toNat<(R.take i).length:=by rw[gV];omega
   have:=aA hk
   rwa [show(R.take i).getD j.toNat default=R.getD j.toNat default by simp[List.getD,jt,show j.toNat<i by omega]] at this
  refine⟨_,Sp.add h1 hm,λz=>?_⟩;rw[dP (jR hT h1) (hT _ hm),h2];show _=(bit z (R.getD j.toNat default)+bJ (kL R z) w)%2;omega
theorem tN{R:List (List Int)}(hR:∀r∈R,bd r):∀{i:Nat},i<=R.length->∀{y:List Int},bd y->(∀j∈y,0<=j/\j<(i:Int))->(∀z,bJ (kL R z) y%2=0)->Sp (stE R i).2 y
 |0,_,y,_,hr,_=>by
  cases y with
  |nil=>exact Sp.nil
  |cons j l=>have:=hr j (cz ..);omega
 |i+1,hi,y,hy,hr,h0=>by
  have ih:=λ{y}=>tN hR (i:=i) (by omega) (y:=y);have hs:=eI hR (i:=i) (by omega);have hx:cr (R.getD i default,[(i:Int)]):=⟨hR _ (aA (by omega)),List.pairwise_singleton ..⟩
  have hya:cr (eh (stE R i).1 (R.getD i default,[(i:Int)])):=iK hs.red.asc hx;have hyn:=λl hl=>k9 hs.red hx (l:=l) hl;have hysp:Sp ((stE R i).1.map Prod.fst) (bV (R.getD i default) (eh (stE R i).1 (R.getD i default,[(i:Int)])).1):=vj (fc hs.red) (λl hl=>⟨hs.red.asc l hl,bz.2 ⟨l,hl,rfl⟩⟩) hx
  have hxo:mB R (i + 1) (R.getD i default,[(i:Int)]):=⟨fun z=>by
   have:=gD (z:=z) (a:=R.getD i default);show bit z (R.getD i default)=(bit z (R.getD ((i:Nat):Int).toNat default)+0)%2;rw[bN];omega,λj hj=>by rw[cC.1 hj];omega⟩
  have hyo:mB R (i+1) (eh (stE R i).1 (R.getD i default,[(i:Int)])):=sQ (λl hl=>⟨hs.red.asc l hl,(hs.ok l hl).mono (by omega)⟩) hx hxo
  have hbi:bit (i:Int) (eh (stE R i).1 (R.getD i default,[(i:Int)])).2=1:=by
   unfold eh;rw[kX hs.red.asc hx,qA λl hl h=>by have:=(hs.ok l hl).2 _ h;omega];show(bit (i:Int) [(i:Int)]+0)%2=1;rw[cI.2 (cC.2 rfl)]
  have ha:∀r∈(stE R i).2,bd r:=λr hr=>(hs.dep r hr).1.2;by_cases hiy:(i:Int)∈y
  ·have hone:bd [(i:Int)]:=List.pairwise_singleton ..;by_cases hd:(eh (stE R i).1 (R.getD i default,[(i:Int)])).1=[]
   ·have hst:(stE R (i+1)).2=(stE R i).2++[(eh (stE R i).1 (R.getD i default,[(i:Int)])).2]:=by
      show(if _ then _ else _:List Ln×List (List Int)).2=_;rw[if_pos hd]
    rw[hst];obtain⟨hy1,hy2⟩:=hyo;rw[hd] at hy1;have hxa:=hya.2;generalize (eh (stE R i).1 (R.getD i default,[(i:Int)])).2=x at *
    have h1:Sp (stE R i).2 (bV y x):=ih (en hy hxa) (fun j hj=>by
     have hne:j≠(i:Int):=λe=>by
      rw[e] at hj;have hb:=cI.2 hj;rw[dP hy hxa,hbi,cI.2 hiy] at hb;cases hb
     rcases(cW hy hxa).1 hj with q|q
     ·have:=hr j q.1;omega
     ·have:=hy2 j q.1;omega) (λz=>by
     rw[gd _ _ _ (aM _)];have e1:=h0 z;have e2:bit z []=bJ (kL R z) x%2:=hy1 z;rw[fG] at e2;omega)
    have hm:x∈(stE R i).2++[x]:=lJ _ (cC.2 rfl);have h2:=Sp.add (iG (λr hr=>l6 [x] hr) h1) hm
    rwa [<-eM hy hxa hxa,fu hxa,gB] at h2
   ·exfalso;refine hd (ro hs.red ?_ hyn)
    have hw:∀j∈bV y [(i:Int)],0<=j/\j<(i:Int):=λj hj=>by
     rcases(cW hy hone).1 hj with q|q
     ·have h1:=hr j q.1;have h2:j≠(i:Int):=λe=>q.2 (cC.2 e);omega
     ·exact absurd (cC.1 q.1▸hiy) q.2
    obtain⟨v,v1,v2⟩:=sL hR (i:=i) (by omega) hw;have hT:∀r∈R.take i,bd r:=λr hr=>hR r (lm hr)
    have hv:v=R.getD i default:=iL (jR hT v1) hx.1 λz=>by
     rw[v2,gd _ _ _ (aM _)];have e1:=h0 z;have e2:=gD (z:=z) (a:=R.getD i default);show(bJ (kL R z) y+(bit z (R.getD ((i:Nat):Int).toNat default)+0))%2=_;rw[bN];omega
    rw[hv] at v1;have h3:=jm (fc hs.red) hs.all v1;have h4:=jP (fc hs.red) h3 hysp
    rwa [eM hx.1 hx.1 hya.1,fu hx.1,kN] at h4
  ·refine iG (fun r hr=>?_) (ih hy (fun j hj=>by
     have h1:=hr j hj;have h2:j≠(i:Int):=λe=>hiy (e▸hj);omega) h0)
   show r∈(if _ then _ else _:List Ln×List (List Int)).2;split
   ·exact l6 _ hr
   ·exact hr
def jq(b y:List Int):Bool:=decide (bJ (λj=>bit j b) y%2=1)
def wdR(R:List (List Int))(c:Nat)(b:List Int)(i:Nat):List Int:=if (i:Int)∈b then R.getD i default++[(c:Int)] else R.getD i default
def mj(R:List (List Int))(c:Nat)(b:List Int):List (List Int):=(List.range R.length).map (wdR R c b)
def wdL(c:Nat)(b:List Int)(l:Ln):List Int:=if jq b l.2=true then l.1++[(c:Int)] else l.1
theorem CH{a:List Int}{c:Nat}{t:Bool}(hc:∀z∈a,z<(c:Int))(z:Int):bit z (if t=true then a++[(c:Int)] else a)=if z=c then(if t=true then 1 else 0) else bit z a:=by
 unfold bit;by_cases hz:z=c
 ·have:z∉a:=λh=>by have:=hc z h;omega
  cases t<;>simp[hz,this]
  ·exact λh=>by have:=hc _ h;omega
 ·cases t<;>simp[hz]
theorem CF{a:List Int}{c:Nat}{t:Bool}(ha:bd a)(hc:∀z∈a,z<(c:Int)):bd (if t=true then a++[(c:Int)] else a):=by
 cases t
 ·simpa using ha
 ·rw[if_pos rfl];exact List.pairwise_append.2 ⟨ha,List.pairwise_singleton ..,λx hx y hy=>by rw[cC.1 hy];exact hc x hx⟩
theorem fP{g h:Int->Nat}:∀{l:List Int},(∀x∈l,g x=h x)->bJ g l=bJ h l
 |[],_=>rfl
 |x::l,e=>by
  unfold bJ;rw[e x (cz ..),fP λy hy=>e y (dy _ hy)]
theorem sN{g:Int->Nat}{D:List (List Int)}{y:List Int}(h:Sp D y)(h0:∀d∈D,bJ g d%2=0):bJ g y%2=0:=by
 induction h with
 |nil=>rfl
 |add h1 h2 ih=>rw[gd _ _ _ (aM _)];have:=h0 _ h2;omega
theorem A2{g:Int->Nat}{p:Ln->Bool}:∀{M:List Ln}{x:Ln},bJ g (rdL M p x).2%2=(bJ g x.2+(M.map λl=>if p l=true then bJ g l.2%2 else 0).sum)%2
 |[],x=>by show bJ g x.2%2=(bJ g x.2+0)%2;rfl
 |l::M,x=>by
  have ih:=A2 (g:=g) (p:=p) (M:=M) (x:=if p l=true then eD x l else x);show bJ g (rdL M p (if p l=true then eD x l else x)).2%2=(bJ g x.2+((if p l=true then bJ g l.2%2 else 0)+(M.map λl=>if p l=true then bJ g l.2%2 else 0).sum))%2;rw[ih];clear ih;by_cases h:p l=true
  ·rw[if_pos h,if_pos h];have:=gd (g:=g) _ x.2 l.2 (aM _);show(bJ g (bV x.2 l.2)+_)%2=_;omega
  ·rw[if_neg h,if_neg h];omega
theorem CZ{f:Ln->List Int}{p:Ln->Bool}{S:List (List Int)}(hS:∀r∈S,bd r):∀{E:List Ln},(∀l∈E,f l∈S)->∃v,Sp S v/\∀z,bit z v=(E.map λl=>if p l=true then bit z (f l) else 0).sum%2
 |[],_=>⟨[],Sp.nil,λz=>fG⟩
 |l::E,h=>by
  obtain⟨v,v1,v2⟩:=CZ (f:=f) (p:=p) hS (E:=E) λm hm=>h m (dy _ hm);have hl:=h l (cz ..);by_cases hp:p l=true
  ·refine⟨_,Sp.add v1 hl,λz=>?_⟩;rw[dP (jR hS v1) (hS _ hl),v2];show _=((if p l=true then bit z (f l) else 0)+(E.map λl=>if p l=true then bit z (f l) else 0).sum)%2;rw[if_pos hp];omega
  ·refine⟨v,v1,λz=>?_⟩;rw[v2];show _=((if p l=true then bit z (f l) else 0)+(E.map λl=>if p l=true then bit z (f l) else 0).sum)%2;rw[if_neg hp,bP]
theorem zu{f:Ln->List Int}{z:Int}{p:Ln->Bool}:∀{E:List Ln},(E.map λl=>if p l=true then bit z (f l) else 0).sum=lM f z p E
 |[]=>rfl
 |l::E=>by
  show(if p l=true then bit z (f l) else 0)+(E.map λl=>if p l=true then bit z (f l) else 0).sum=_;rw[zu];rfl
theorem AK{R:List (List Int)}{c:Nat}{b:List Int}{i:Nat}(h:i<R.length):(mj R c b).getD i default=wdR R c b i:=sD h
theorem oX{R:List (List Int)}{c:Nat}{b:List Int}(hR:∀r∈R,bd r)(hv:∀r∈R,∀z∈r,0<=z/\z<(c:Int)):
    (∀r∈mj R c b,bd r)/\(∀r∈mj R c b,∀z∈r,0<=z/\z<((c+1:Nat):Int))/\∀i,i<R.length->∀z,bit z ((mj R c b).getD i default)=if z=c then bit (i:Int) b else bit z (R.getD i default):=by
 have hw:∀i,wdR R c b i=if decide ((i:Int)∈b)=true then R.getD i default++[(c:Int)] else R.getD i default:=λi=>by
  unfold wdR;by_cases h:(i:Int)∈b<;>simp[h]
 refine⟨λr hr=>?_,λr hr z hz=>?_,λi hi z=>?_⟩
 ·obtain⟨i,hi,rfl⟩:=bz.1 hr;have hi:=dE.1 hi;rw[hw];exact CF (hR _ (aA hi)) λz hz=>(hv _ (aA hi) z hz).2
 ·obtain⟨i,hi,rfl⟩:=bz.1 hr;have hi:=dE.1 hi;have hvi:=hv _ (aA hi);unfold wdR at hz;split at hz
  ·rcases eJ.1 hz with h|h
   ·have:=hvi z h;omega
   ·rw[cC.1 h];omega
  ·have:=hvi z hz;omega
 ·rw[AK hi,hw,CH (λz hz=>(hv _ (aA hi) z hz).2)];by_cases h:z=c
  ·rw[if_pos h,if_pos h];by_cases hb:(i:Int)∈b<;>simp[hb,bit]
  ·rw[if_neg h,if_neg h]
theorem EJ{R:List (List Int)}{c:Nat}{b:List Int}(hR:∀r∈R,bd r)(hv:∀r∈R,∀z∈r,0<=z/\z<(c:Int)){y:List Int}(hy:∀j∈y,0<=j/\j<(R.length:Int))(z:Int):
    bJ (kL (mj R c b) z) y=if z=c then bJ (λj=>bit j b) y else bJ (kL R z) y:=by
 obtain⟨_,_,h3⟩:=oX (b:=b) hR hv;by_cases h:z=c
 ·rw[if_pos h];refine fP λj hj=>?_;have:=hy j hj;unfold kL;rw[h3 j.toNat (by omega),if_pos h,show((j.toNat:Nat):Int)=j by omega]
 ·rw[if_neg h];refine fP λj hj=>?_;have:=hy j hj;unfold kL;rw[h3 j.toNat (by omega),if_neg h]
theorem D4{R:List (List Int)}{c:Nat}{b:List Int}(hR:∀r∈R,bd r)(hv:∀r∈R,∀z∈r,0<=z/\z<(c:Int))(h0:∀y∈(stE R R.length).2,jq b y=false):J9 (mj R c b) (c+1)=(ka R c).map (wdL c b):=by
 obtain⟨h1,h2,h3⟩:=oX (b:=b) hR hv;have hs:=eI hR (aM R.length);obtain⟨e1,e2,_⟩:=fR h1 h2;obtain⟨d1,d2,d3⟩:=fR hR hv;rw[zS h1 h2];have hl:(mj R c b).length=R.length:=by unfold mj;simp
 have hlv:∀l∈(stE R R.length).1,∀z∈l.1,0<=z/\z<(c:Int):=λl hl=>fE hR hv (iG (λr hr=>lm hr) (hs.inS l hl))
 have hbw:∀l∈(stE R R.length).1,∀z,bit z (wdL c b l)=if z=c then bJ (λj=>bit j b) l.2%2 else bit z l.1:=λl hl z=>by
  unfold wdL;rw[CH λz hz=>(hlv l hl z hz).2];by_cases h:z=c
  ·rw[if_pos h,if_pos h];unfold jq;by_cases ho:bJ (λj=>bit j b) l.2%2=1
   ·simp[ho]
   ·simp[ho];omega
  ·rw[if_neg h,if_neg h]
 have hwa:∀l∈(stE R R.length).1,bd (wdL c b l):=λl hl=>CF (hs.red.asc l hl).1 λz hz=>(hlv l hl z hz).2
 have hldw:∀l∈(stE R R.length).1,ld (wdL c b l)=ld l.1:=λl hl=>by
  have hne:=hs.red.ne l hl;unfold wdL;split
  ·cases hq:l.1 with
   |nil=>exact absurd hq hne
   |cons x t=>rfl
  ·rfl
 have hF:Red ((ka R c).map (wdL c b)):=by
  refine⟨λr hr=>?_,λr hr=>?_,λr hr q hq h=>?_,?_⟩
  ·obtain⟨l,hl,rfl⟩:=bz.1 hr;exact hwa l ((d3 l).1 hl)
  ·obtain⟨l,hl,rfl⟩:=bz.1 hr;have hne:=hs.red.ne l ((d3 l).1 hl);unfold wdL;split
   ·simp
   ·exact hne
  ·obtain⟨l,hl,rfl⟩:=bz.1 hr;obtain⟨m,hm,rfl⟩:=bz.1 hq;have hl:=(d3 l).1 hl;have hm:=(d3 m).1 hm;rw[hldw l hl] at h;have h4:=cI.2 h;have h5:=hlv l hl _ (dl (hs.red.ne l hl));rw[hbw m hm,if_neg (by omega)] at h4;rw[hs.red.own l hl m hm (cI.1 h4)]
  ·rw[List.pairwise_map];refine List.Pairwise.imp_of_mem (λ{x y} hx hy h=>?_) (mL hs.red (c:=c));rw[hldw x ((d3 x).1 hx),hldw y ((d3 y).1 hy)];exact h
 refine pI e1 hF λv=>?_;rw[e2];have hTk:∀r∈(mj R c b).take R.length,bd r:=λr hr=>h1 r (lm hr);constructor
 ·refine jm hF.asc λr hr=>?_;obtain⟨i,hi,e⟩:=lN hr;have hiR:i<R.length:=by omega
  have hx:cr (R.getD i default,[(i:Int)]):=⟨hR _ (aA hiR),List.pairwise_singleton ..⟩
  have hxo:mB R R.length (R.getD i default,[(i:Int)]):=⟨fun z=>by
   have:=gD (z:=z) (a:=R.getD i default);show bit z (R.getD i default)=(bit z (R.getD ((i:Nat):Int).toNat default)+0)%2;rw[bN];omega,λj hj=>by rw[cC.1 hj];omega⟩
  have hya:=iK (p:=fx (R.getD i default,[(i:Int)])) hs.red.asc hx;have hyo:=sQ (p:=fx (R.getD i default,[(i:Int)])) (λl hl=>⟨hs.red.asc l hl,hs.ok l hl⟩) hx hxo;have hysp:=vj (p:=fx (R.getD i default,[(i:Int)])) (fc hs.red) (λl hl=>⟨hs.red.asc l hl,bz.2 ⟨l,hl,rfl⟩⟩) hx;have hyn:=λl hl=>k9 hs.red hx (l:=l) hl;have hb1:=λz=>lr (p:=fx (R.getD i default,[(i:Int)])) (z:=z) hs.red.asc hx;have hg:=A2 (g:=λj=>bit j b) (p:=fx (R.getD i default,[(i:Int)])) (M:=(stE R R.length).1) (x:=(R.getD i default,[(i:Int)]));unfold eh at hyn;generalize hpp:fx (R.getD i default,[(i:Int)])=p at *;have hRi:Sp ((stE R R.length).1.map Prod.fst) (R.getD i default):=hs.all _ (by rw[List.take_length];exact aA hiR)
  have hnil:(rdL (stE R R.length).1 p (R.getD i default,[(i:Int)])).1=[]:=by
   refine ro hs.red ?_ hyn;have h4:=jP (fc hs.red) hRi hysp
   rwa [eM hx.1 hx.1 hya.1,fu hx.1,kN] at h4
  obtain⟨q1,q2⟩:=hyo;rw[hnil] at q1
  have hdep:=tN hR (aM R.length) hya.2 q2 λz=>by
   have:=q1 z;rw[fG] at this;exact this.symm
  have hev:=sN (g:=λj=>bit j b) hdep λd hd=>by
   have:=h0 d hd;unfold jq at this;have:=of_decide_eq_false this;omega
  obtain⟨u,u1,u2⟩:=CZ (f:=wdL c b) (p:=p) hF.asc (E:=(stE R R.length).1) λl hl=>bz.2 ⟨l,(d3 l).2 hl,rfl⟩
  have hur:u=r:=by
   refine iL (jR hF.asc u1) (h1 r hr) λz=>?_;rw[<-e,h3 i hiR,u2];by_cases h:z=c
   ·rw[if_pos h,h]
    have hm:((stE R R.length).1.map λl=>if p l=true then bit (c:Int) (wdL c b l) else 0)=(stE R R.length).1.map λl=>if p l=true then bJ (λj=>bit j b) l.2%2 else 0:=
     o0 λl hl=>by rw[hbw l hl,if_pos rfl]
    rw[hm];rw[hev] at hg;have hone:bJ (λj=>bit j b) [(i:Int)]=bit (i:Int) b+0:=rfl;have hlt:=gD (z:=(i:Int)) (a:=b);change 0=(bJ (λj=>bit j b) [(i:Int)]+_)%2 at hg;rw[hone] at hg;omega
   ·rw[if_neg h]
    have hm:((stE R R.length).1.map λl=>if p l=true then bit z (wdL c b l) else 0)=(stE R R.length).1.map λl=>if p l=true then bit z l.1 else 0:=
     o0 λl hl=>by rw[hbw l hl,if_neg h]
    rw[hm,zu (f:=Prod.fst)];have h5:=hb1 z;rw[hnil,fG] at h5;have hlt:=gD (z:=z) (a:=R.getD i default);change 0=(bit z (R.getD i default)+_)%2 at h5;omega
  rw[<-hur];exact u1
 ·refine jm h1 λr hr=>?_;obtain⟨l,hl,rfl⟩:=bz.1 hr;have hl:=(d3 l).1 hl;obtain⟨k1,k2⟩:=hs.ok l hl;obtain⟨v,v1,v2⟩:=sL h1 (i:=R.length) (by omega) k2
  have:v=wdL c b l:=iL (jR hTk v1) (hwa l hl) λz=>by
   rw[v2,EJ hR hv k2,hbw l hl];by_cases h:z=c
   ·rw[if_pos h,if_pos h]
   ·rw[if_neg h,if_neg h];exact(k1 z).symm
  rw[<-this];exact iG (λr hr=>lm hr) v1
section
variable{α:Type}{K:α->α->Int}
def xL(K:α->α->Int):Nat->List α->List α->List α
 |0,_,_=>[]
 |_+1,[],b=>b
 |_+1,x::a,[]=>x::a
 |n+1,x::a,y::b=>if K x y<0 then x::xL K n a (y::b) else if K y x<0 then y::xL K n (x::a) b else xL K n a b
def eO(K:α->α->Int)(a b:List α):List α:=xL K (a.length+b.length+1) a b
theorem nW:∀(n m:Nat)(a b:List α),a.length+b.length<n->a.length+b.length<m->xL K n a b=xL K m a b
 |0,_,_,_,h,_=>absurd h (by omega)
 |_+1,0,_,_,_,h=>absurd h (by omega)
 |_+1,_+1,[],b,_,_=>rfl
 |_+1,_+1,x::a,[],_,_=>rfl
 |n+1,m+1,x::a,y::b,h1,h2=>by
  simp only[br] at h1 h2;simp only[xL];rw[nW n m a (y::b) (by simp only[br];omega) (by simp only[br];omega),nW n m (x::a) b (by simp only[br];omega) (by simp only[br];omega),nW n m a b (by omega) (by omega)]
theorem qK{b:List α}:eO K [] b=b:=rfl
theorem uj{a:List α}:eO K a []=a:=by cases a<;>rfl
theorem yU{x y:α}{a b:List α}:eO K (x::a) (y::b)=if K x y<0 then x::eO K a (y::b) else if K y x<0 then y::eO K (x::a) b else eO K a b:=by
 show xL K (a.length+1+(b.length+1)+1) (x::a) (y::b)=_;simp only[xL];unfold eO;rw[nW (a.length+1+(b.length+1)) (a.length+(y::b).length+1) a (y::b) (by simp only[br];omega) (by simp only[br];omega),nW (a.length+1+(b.length+1)) ((x::a).length+b.length+1) (x::a) b (by simp only[br];omega) (by simp only[br];omega),nW (a.length+1+(b.length+1)) (a.length+b.length+1) a b (by omega) (by omega)]
theorem pq:∀(n:Nat)(a b:List α),a.length+b.length<=n->(eO K a b).length<=a.length+b.length
 |_,[],b,_=>by rw[qK];simp
 |_,x::a,[],_=>by rw[uj];simp
 |0,x::a,y::b,h=>by simp only[br] at h;omega
 |n+1,x::a,y::b,h=>by
  simp only[br] at h |-;rw[yU];have h1:=pq n a (y::b) (by simp only[br];omega);have h2:=pq n (x::a) b (by simp only[br];omega);have h3:=pq n a b (by omega);simp only[br] at h1 h2;split
  ·simp only[br];omega
  split
  ·simp only[br];omega
  ·omega
theorem nf(hK:LinK K):∀(n:Nat)(a b:List α),a.length+b.length<=n->bR K a->bR K b->bR K (eO K a b)/\∀z,z∈eO K a b↔(z∈a/\z∉b)\/(z∈b/\z∉a)
 |_,[],b,_,_,hb=>by rw[qK];exact⟨hb,λz=>by simp⟩
 |_,x::a,[],_,ha,_=>by rw[uj];exact⟨ha,λz=>by simp⟩
 |0,x::a,y::b,h,_,_=>by simp only[br] at h;omega
 |n+1,x::a,y::b,h,ha,hb=>by
  simp only[br] at h;obtain⟨a1,a2⟩:=im.1 ha;obtain⟨b1,b2⟩:=im.1 hb;have irr:=λv=>hK.ord.irr v;rw[yU];by_cases g1:K x y<0
  ·rw[if_pos g1];obtain⟨h1,h2⟩:=nf hK n a (y::b) (by simp only[br];omega) a2 hb
   have hxb:∀z∈y::b,K x z<0:=λz hz=>by
    rcases dg.1 hz with rfl|hz
    ·exact g1
    ·exact hK.trans g1 (b1 z hz)
   refine⟨im.2 ⟨λz hz=>?_,h1⟩,λz=>?_⟩
   ·rcases(h2 z).1 hz with⟨q,_⟩|⟨q,_⟩
    ·exact a1 z q
    ·exact hxb z q
   ·rw[dg,h2,dg (a:=z) (b:=x)];by_cases hz:z=x
    ·subst hz;have:z∉y::b:=λq=>irr _ (hxb z q);simp[this]
    ·simp[hz]
  rw[if_neg g1];by_cases g2:K y x<0
  ·rw[if_pos g2];obtain⟨h1,h2⟩:=nf hK n (x::a) b (by simp only[br];omega) ha b2
   have hya:∀z∈x::a,K y z<0:=λz hz=>by
    rcases dg.1 hz with rfl|hz
    ·exact g2
    ·exact hK.trans g2 (a1 z hz)
   refine⟨im.2 ⟨λz hz=>?_,h1⟩,λz=>?_⟩
   ·rcases(h2 z).1 hz with⟨q,_⟩|⟨q,_⟩
    ·exact hya z q
    ·exact b1 z q
   ·rw[dg,h2,dg (a:=z) (b:=y)];by_cases hz:z=y
    ·subst hz;have:z∉x::a:=λq=>irr _ (hya z q);simp[this]
    ·simp[hz]
  rw[if_neg g2]
  obtain rfl:x=y:=by
   rcases hK.tri x y with q|q|q
   ·exact absurd q g1
   ·exact q
   ·exact absurd q g2
  obtain⟨h1,h2⟩:=nf hK n a b (by omega) a2 b2;refine⟨h1,λz=>?_⟩;rw[h2];by_cases hz:z=x
  ·subst hz;have q1:z∉a:=λq=>irr _ (a1 z q);have q2:z∉b:=λq=>irr _ (b1 z q);simp[q1,q2]
  ·simp[hz]
theorem p6(hK:LinK K)(h:α->Nat):∀(n:Nat)(a b:List α),a.length+b.length<=n->((eO K a b).map h).sum%2=((a.map h).sum+(b.map h).sum)%2
 |_,[],b,_=>by rw[qK];simp
 |_,x::a,[],_=>by rw[uj];simp
 |0,x::a,y::b,hl=>by simp only[br] at hl;omega
 |n+1,x::a,y::b,hl=>by
  simp only[br] at hl;rw[yU];by_cases g1:K x y<0
  ·rw[if_pos g1,ew,List.sum_cons];have:=p6 hK h n a (y::b) (by simp only[br];omega);simp only[ew,List.sum_cons] at this |-;omega
  rw[if_neg g1];by_cases g2:K y x<0
  ·rw[if_pos g2,ew,List.sum_cons];have:=p6 hK h n (x::a) b (by simp only[br];omega);simp only[ew,List.sum_cons] at this |-;omega
  rw[if_neg g2]
  obtain rfl:x=y:=by
   rcases hK.tri x y with q|q|q
   ·exact absurd q g1
   ·exact q
   ·exact absurd q g2
  have:=p6 hK h n a b (by omega);simp only[ew,List.sum_cons] at this |-;omega
theorem CJ(hK:LinK K){a b:List α}(ha:bR K a)(hb:bR K b):bR K (eO K a b):=(nf hK _ a b (aM _) ha hb).1
theorem xQ(hK:LinK K){a b:List α}(ha:bR K a)(hb:bR K b){z:α}:z∈eO K a b↔(z∈a/\z∉b)\/(z∈b/\z∉a):=(nf hK _ a b (aM _) ha hb).2 z
theorem sC{a b:List α}:(eO K a b).length<=a.length+b.length:=pq _ a b (aM _)
end
def bE(s:Spx):List Spx:=if s.length<2 then [] else cV s (s.length-1)
def li(a:List Spx)(o:List Spx):List Spx:=a.foldl (λo s=>eO bo o (bE s)) o
def bw(a:List Spx):List Spx:=li a []
theorem uU{s:Spx}(h:bR cu s):bR bo (bE s):=by
 unfold bE;split
 ·exact bR.nil
 ·exact m8 h
theorem iq{s f:Spx}:f∈bE s↔2<=s.length/\f.Sublist s/\f.length=s.length-1:=by
 unfold bE;split
 ·exact⟨λh=>(by cases h),λh=>absurd h.1 (by omega)⟩
 ·rw[ff];exact⟨λh=>⟨by omega,h⟩,λh=>h.2⟩
def my(a:List Spx)(f:Spx):Nat:=(a.map λs=>(bE s).count f).sum
theorem qU{s:Spx}{a:List Spx}{f:Spx}:my (s::a) f=(bE s).count f+my a f:=by unfold my;rw[ew,List.sum_cons]
theorem DV{L:List Spx}(h:bR bo L)(f:Spx):L.count f%2=1↔f∈L:=by
 by_cases hf:f∈L
 ·have h1:=List.count_pos_iff.2 hf;have h2:=List.nodup_iff_count.1 (h.nodup ie) f;exact⟨λ_=>hf,λ_=>by omega⟩
 ·rw[Jf hf];exact⟨λh=>absurd h (by decide),λh=>absurd h hf⟩
theorem tO:∀(a o:List Spx)(c:Spx->Nat),(∀s∈a,bR cu s)->bR bo o->(∀f,f∈o↔c f%2=1)->bR bo (li a o)/\∀f,f∈li a o↔(c f+my a f)%2=1
 |[],o,c,_,ho,hc=>⟨ho,λf=>by show f∈o↔_;rw[hc];rfl⟩
 |s::a,o,c,hs,ho,hc=>by
  have hf:=uU (hs s cz)
  obtain⟨h1,h2⟩:=tO a (eO bo o (bE s)) (λf=>c f+(bE s).count f) (λt ht=>hs t (dy _ ht)) (CJ ie ho hf) λf=>by
   rw[xQ ie ho hf,hc,<-DV hf f];omega
  refine⟨h1,λf=>?_⟩;show f∈li a (eO bo o (bE s))↔_;rw[h2,qU,qt]
theorem il{a:List Spx}(hs:∀s∈a,bR cu s):bR bo (bw a)/\∀f,f∈bw a↔my a f%2=1:=by
 obtain⟨h1,h2⟩:=tO a [] (λ_=>0) hs bR.nil λf=>⟨λh=>(by cases h),λh=>absurd h (by decide)⟩
 exact⟨h1,λf=>by rw[show bw a=li a [] from rfl,h2,bP]⟩
theorem n6{a:List Spx}(hs:∀s∈a,bR cu s):bR bo (bw a):=(il hs).1
theorem ET{a L:List Spx}(hs:∀s∈a,bR cu s)(hL:bR bo L)(h:∀f,f∈L↔my a f%2=1):L=bw a:=lB ie hL (n6 hs) λf=>by rw[h,(il hs).2]
theorem jQ{a:List Spx}(hs:∀s∈a,bR cu s){f:Spx}(hf:f∈bw a):∃s∈a,f∈bE s:=by
 have h:=((il hs).2 f).1 hf;have hp:0<my a f:=by omega
 clear h hf hs
 induction a with
 |nil=>exact absurd hp (Nat.lt_irrefl 0)
 |cons s a ih=>
  rw[qU] at hp;by_cases h:0<(bE s).count f
  ·exact⟨s,cz,List.count_pos_iff.1 h⟩
  ·obtain⟨t,h1,h2⟩:=ih (by omega);exact⟨t,dy _ h1,h2⟩
theorem Bn{a:List Spx}(hs:∀s∈a,bR cu s):∀f∈bw a,bR cu f:=λf hf=>by
 obtain⟨s,h1,h2⟩:=jQ hs hf;exact(hs s h1).sublist (iq.1 h2).2.1
theorem v8:∀(a o:List Spx),(∀s∈a,s.length<=8)->(li a o).length<=o.length+a.length*70
 |[],o,_=>Nat.le_add_right _ _
 |s::a,o,h=>by
  have h1:=v8 a (eO bo o (bE s)) λt ht=>h t (dy _ ht);have h2:=sC (K:=bo) (a:=o) (b:=bE s)
  have h3:(bE s).length<=70:=by
   unfold bE;split
   ·exact bQ _
   ·exact xS (h s cz)
  show(li a (eO bo o (bE s))).length<=_;rw[br];omega
theorem xB{a:List Spx}(h:∀s∈a,s.length<=8):(bw a).length<=a.length*70:=by
 have:=v8 a [] h;rw[dw,bP] at this;exact this
theorem Fq{a b:List Spx}(ha:bR bo a)(hb:bR bo b)(P:Spx->Prop)(h1:∀s∈a,P s)(h2:∀s∈b,P s):∀s∈eO bo a b,P s:=λs hs=>by
 rcases(xQ ie ha hb).1 hs with⟨h,_⟩|⟨h,_⟩
 ·exact h1 s h
 ·exact h2 s h
def fc0:Spx->List Spx
 |[]=>[]
 |x::s=>s::(fc0 s).map (x:: ·)
theorem xx:∀{s:Spx},cV s s.length=[s]
 |[]=>rfl
 |x::s=>by rw[br,iz,xx,uG (by omega)];rfl
theorem pT:∀{s:Spx},s≠[]->(cV s (s.length-1)).Perm (fc0 s)
 |[],h=>absurd rfl h
 |[x],_=>by show(cV [x] 0).Perm _;rw[oZ];exact List.Perm.refl _
 |x::y::s,_=>by
  show(cV (x::y::s) (s.length+1)).Perm _;rw[iz,show s.length+1=(y::s).length from rfl,xx];have ih:=pT (s:=y::s) (by simp);show((cV (y::s) s.length).map (x:: ·)++[y::s]).Perm ((y::s)::(fc0 (y::s)).map (x:: ·));exact List.perm_append_comm.trans ((ih.map (x:: ·)).cons _)
theorem Eu{s g:Spx}(h:s≠[]):(cV s (s.length-1)).count g=(fc0 s).count g:=(pT h).count_eq g
theorem C0{α:Type}{f g:α->Nat}:∀{l:List α},(l.map λx=>f x+g x).sum=(l.map f).sum+(l.map g).sum
 |[]=>rfl
 |x::l=>by simp only[ew,List.sum_cons];rw[C0];omega
theorem ns{x:Vtx}{g:Spx}:∀{L:List Spx},(L.map (x:: ·)).count (x::g)=L.count g
 |[]=>rfl
 |f::L=>by
  rw[ew,List.count_cons,List.count_cons,ns]
  congr 1
  by_cases h:f=g
  ·subst h;simp
  ·simp[h]
theorem Dy{g:Spx}:∀{L:List Spx},(L.map λf=>if f=g then 1 else 0).sum=L.count g
 |[]=>rfl
 |f::L=>by
  rw[ew,List.sum_cons,Dy,List.count_cons,Nat.add_comm]
  congr 1
  by_cases h:f=g
  ·subst h;simp
  ·simp[h]
theorem dd0:∀(s g:Spx),((fc0 s).map λf=>(fc0 f).count g).sum%2=0
 |[],_=>rfl
 |x::s,g=>by
  show(((s::(fc0 s).map (x:: ·)).map λf=>(fc0 f).count g).sum)%2=0;rw[ew,List.sum_cons,List.map_map]
  have e:((λf=>(fc0 f).count g) ∘ (x:: ·):Spx->Nat)=λf=>(if f=g then 1 else 0)+((fc0 f).map (x:: ·)).count g:=by
   funext f
   show(f::(fc0 f).map (x:: ·)).count g=_;rw[List.count_cons,Nat.add_comm]
   congr 1
   by_cases h:f=g
   ·subst h;simp
   ·simp[h]
  rw[e,C0,Dy]
  match g with
  |[]=>
   have:∀L:List Spx,(L.map λf=>((fc0 f).map (x:: ·)).count ([]:Spx)).sum=0:=λL=>by
    induction L with
    |nil=>rfl
    |cons f L ih=>
     rw[ew,List.sum_cons,ih,Jf (by simp)]
   rw[this];omega
  |y::g'=>
   by_cases h:x=y
   ·subst h;have h1:(λf:Spx=>((fc0 f).map (x:: ·)).count (x::g'))=λf=>(fc0 f).count g':=by funext f;exact ns
    rw[h1];have:=dd0 s g';omega
   ·have:∀L:List Spx,(L.map λf=>((fc0 f).map (x:: ·)).count (y::g')).sum=0:=λL=>by
      induction L with
      |nil=>rfl
      |cons f L ih=>
       rw[ew,List.sum_cons,ih,Jf (by simp[h])]
    rw[this];omega
theorem dd1(s g:Spx):((bE s).map λf=>(bE f).count g).sum%2=0:=by
 by_cases h:s.length<=2
 ·have:∀f∈bE s,(bE f).count g=0:=λf hf=>by
    obtain⟨_,_,h3⟩:=iq.1 hf;unfold bE;rw[if_pos (by omega)];rfl
  have h2:∀L:List Spx,(∀f∈L,(bE f).count g=0)->(L.map λf=>(bE f).count g).sum=0:=λL hL=>by
   induction L with
   |nil=>rfl
   |cons f L ih=>
    rw[ew,List.sum_cons,ih λt ht=>hL t (dy _ ht),hL f cz]
  rw[h2 _ this]
 ·have h1:(bE s).map (λf=>(bE f).count g)=(cV s (s.length-1)).map λf=>(fc0 f).count g:=by
    rw[show bE s=cV s (s.length-1) by unfold bE;rw[if_neg (by omega)]];refine o0 λf hf=>?_;have hl:=(ff.1 hf).2;have hne:f≠[]:=λe=>by rw[e] at hl;simp at hl;omega
    rw[<-Eu hne];unfold bE;rw[if_neg (by omega)]
  rw[h1,((pT (s:=s) (λe=>by rw[e] at h;simp at h)).map _).sum_nat];exact dd0 s g
theorem wk(h:Spx->Nat):∀(a o:List Spx),((li a o).map h).sum%2=((o.map h).sum+(a.map λs=>((bE s).map h).sum).sum)%2
 |[],o=>by simp[li]
 |s::a,o=>by
  have h1:=wk h a (eO bo o (bE s));have h2:=p6 ie h _ o (bE s) (aM _);show((li a (eO bo o (bE s))).map h).sum%2=_;rw[ew,List.sum_cons];omega
theorem wU{a:List Spx}(hs:∀s∈a,bR cu s):bw (bw a)=[]:=by
 refine(ET (Bn hs) bR.nil λf=>⟨λh=>(by cases h),λh=>?_⟩).symm;exfalso;have h1:=wk (λs=>(bE s).count f) a []
 have h2:∀L:List Spx,(L.map λs=>((bE s).map λt=>(bE t).count f).sum).sum%2=0:=λL=>by
  induction L with
  |nil=>rfl
  |cons s L ih=>
   have:=dd1 s f;rw[ew,List.sum_cons];omega
 have h3:=h2 a;unfold my at h;rw[show bw a=li a [] from rfl] at h;simp only[List.map_nil,List.sum_nil] at h1;omega
def Bk(a:List Spx)(k:Nat):Int:=if bT (a.getD k default)≠0 then bT (a.getD k default) else if (a.getD k default).length≠(a.getD 0 default).length then 15 else if 0<k/\0<=bo (a.getD (k-1) default) (a.getD k default) then 14 else 0
def dD(a:List Spx):Int:=if 4096<a.length then 5 else dC (Bk a) a.length
theorem dL{a:List Spx}(h:dD a=0):a.length<=4096/\(∀s∈a,bT s=0)/\bR bo a/\∀s∈a,s.length=(a.getD 0 default).length:=by
 unfold dD at h;split at h
 ·exact absurd h (by decide)
 rename_i hl;have h0:=gz h
 have hk:∀k,k<a.length->bT (a.getD k default)=0/\(a.getD k default).length=(a.getD 0 default).length/\(0<k->bo (a.getD (k-1) default) (a.getD k default)<0):=λk hk=>by
  have q:=h0 k hk;unfold Bk at q;split at q
  ·exact absurd q ‹_›
  split at q
  ·exact absurd q (by decide)
  split at q
  ·exact absurd q (by decide)
  ·rename_i q1 q2 q3;exact⟨ub q1,ub q2,λh0=>by omega⟩
 have hm:∀s∈a,∃k,k<a.length/\a.getD k default=s:=λs hs=>by
  obtain⟨k,h1,h2⟩:=kI hs;exact⟨k,h1,by simp[List.getD,h1,h2]⟩
 refine⟨by omega,λs hs=>?_,?_,λs hs=>?_⟩
 ·obtain⟨k,h1,rfl⟩:=hm s hs;exact(hk k h1).1
 ·have hchain:∀j i,i<j->j<a.length->bo (a.getD i default) (a.getD j default)<0:=λj=>by
    induction j with
    |zero=>intro i hi;omega
    |succ j ih=>
     intro i hi hj;have q:=(hk (j+1) hj).2.2 (by omega);rw[lX] at q;rcases(by omega:i<j\/i=j) with h|rfl
     ·exact ie.trans (ih i h (by omega)) q
     ·exact q
  unfold bR;rw[kE];intro i j hi hj hij;have:=hchain j i hij hj
  rwa [show a.getD i default=a[i] by simp[List.getD,hi],show a.getD j default=a[j] by simp[List.getD,hj]] at this
 ·obtain⟨k,h1,rfl⟩:=hm s hs;exact(hk k h1).2.1
theorem Cp{a:List Spx}{n:Nat}(h1:a.length<=4096)(h2:∀s∈a,bT s=0)(h3:bR bo a)(h4:∀s∈a,s.length=n):dD a=0:=by
 unfold dD;rw[if_neg (by omega)];refine c9 λk hk=>?_;unfold Bk;rw[if_neg (λh=>h (h2 _ (aK hk))),if_neg (λh=>h (by rw[h4 _ (aK hk),h4 _ (aK (by omega))])),if_neg];rintro⟨q1,q2⟩;have:=ec h3 (i:=k-1) (j:=k) (by omega) hk;omega
theorem gc{a:List Spx}(h:∀s∈a,bT s=0):∀s∈a,bR cu s:=λs hs=>(cE (h s hs)).2.2.1
theorem Bm{a:List Spx}{k:Nat}:Bk a k=if bT (a.getD k default)≠0 then bT (a.getD k default) else if (a.getD k default).length≠(a.getD 0 default).length then 15 else if 0<k/\0<=bo (a.getD (k-1) default) (a.getD k default) then 14 else 0:=rfl
def cJ(l:List (List Spx)):AV:=iA 1 ao l
theorem ki(l:List (List Spx)):Dat (cJ l):=Fa (λ_=>rfl) bD
instance datI_encXsss{l:List (List Spx)}:DatI (cJ l):=⟨ki l⟩
theorem ft{l:List (List Spx)}:cT (cJ l)=some (.int .i64 l.length):=lY
theorem Gk{l:List (List Spx)}{k:Nat}(h:k<l.length):eY 1 (cJ l) (.int .i64 (k:Int))=some (.iptr [ao (l.getD k default)] 0):=by
 unfold cJ;rw[nD,if_pos ⟨by omega,by omega⟩,bN];rfl
theorem Cf{l:List Spx}(h:0<l.length):eY 1 (ao l) (.int .i64 0)=some (.iptr [aF (l.getD 0 default)] 0):=fQ h
abbrev ShC(a:List Spx):Prop:=Shn a/\∀s∈a,Shn s
theorem jw{x:Spx}{l:List Spx}:lF 1 (ao (x::l)) (some (.int .i64 1)) none none=some (ao l):=jo (l:=x::l) (k:=1) (by simp)
theorem Ah{x:Spx}{l:List Spx}:eY 1 (ao (x::l)) (.int .i64 0)=some (.iptr [aF x] 0):=Cf (by simp)
section
variable{α:Type}[DecidableEq α]{K:α->α->Int}
end
section
variable{g:Vtx->Vtx}
end
def fcs(s:Spx):List Spx:=if s.length<2 then [] else fc0 s
theorem pu{s:Spx}:(fcs s).Perm (bE s):=by
 unfold fcs bE;split
 ·exact List.Perm.refl _
 ·rename_i h;exact(pT λe=>by rw[e] at h;simp at h).symm
theorem Dn{s f:Spx}:f∈fcs s↔f∈bE s:=pu.mem_iff
theorem sF:∀{s:Spx},(fc0 s).length=s.length
 |[]=>rfl
 |x::s=>by show((fc0 s).map (x:: ·)).length+1=_;rw[bm,sF];rfl
theorem CL:∀{s:Spx}{i:Nat},i<s.length->(fc0 s).getD i default=s.take i++s.drop (i+1)
 |[],_,h=>absurd h (by simp)
 |x::s,0,_=>by simp[fc0]
 |x::s,i+1,h=>by
  have hi:i<s.length:=by simpa using h
  have:=CL hi;show((s::(fc0 s).map (x:: ·)).getD (i+1) default)=_;have hl:i<(fc0 s).length:=by rw[sF];exact hi
  simp only[List.getD,BO,mM,rB hl,mV,tB,List.take_succ_cons,List.drop_succ_cons,List.cons_append] at this |-;rw[this]
theorem qe{s:Spx}(h:bR cu s):(bE s).Nodup:=(uU h).nodup ie
theorem EV{s:Spx}(h:bR cu s):(fcs s).Nodup:=pu.nodup_iff.2 (qe h)
def jZ(X Y:List Spx)(n i:Nat):List Nat:=(List.range n).filter λk=>decide (Y.getD i default∈bE (X.getD k default))
theorem Eh{X Y:List Spx}{n i:Nat}:jZ X Y (n+1) i=jZ X Y n i++if Y.getD i default∈bE (X.getD n default) then [n] else []:=by
 unfold jZ;rw[List.range_succ,yw]
 congr 1
 by_cases h:Y.getD i default∈bE (X.getD n default)
 ·rw[if_pos h,vW (by simpa using h)];rfl
 ·rw[if_neg h,vU (by simpa using h)];rfl
theorem zf{X Y:List Spx}{n i:Nat}:(jZ X Y n i).length<=n:=by
 unfold jZ;exact fK (List.length_filter_le _ _) (by simp)
def b7(X Y:List Spx):List (List Int):=(List.range Y.length).map λi=>bu (jZ X Y X.length i)
section
variable{P:Program}{T:Tm}{H:Hp}{nx:Nat}
theorem Lg{dm:DM}{K:SP}{l:List Op2}{d:Option Nat}{sz bytes:Nat}{z:List AV}{s x:Opd}{k:IntKind}{n:Int}(hd:dm2 dm T (.apz sz bytes z s x)=true)(hs:ov T s=.esl)(hx:ov T x=.int k n)(h0:0<n)(h1:n<=9223372036854775807)(h2:n.toNat*bytes<=140737488355328)
    (kk:am P dm l (aW T d (.msl nx (n.toNat*sz) sz 0 n.toNat)) (ar H nx (bH (.agg z) n.toNat)) (nx+1) K):am P dm (⟨d,none,.apz sz bytes z s x⟩::l) T H nx K:=by
 refine oJ rfl hd ?_ kk;simp only[jY,hs,hx];rw[if_pos ⟨h0,h1,h2⟩]
end
theorem IL(T:Tm)(H:Hp)(x:Opd):ca T H (.capE x)=match ov T x with|.esl=>some (.int .i64 0)|_=>none:=rfl
theorem Ik(n:Nat):(bH (.agg [.int .i64 0,.int .i64 0]) n).length=n*2:=by simp[bH,AV.cells]
theorem KH{P:Program}{T:Tm}{H:Hp}{nx:Nat}{dm:DM}{K:SP}{l:List Op2}{d:Option Nat}{sz bytes b N len n:Nat}{s x:Opd}{v:AV}{new C:List AV}(hd:dm2 dm T (.app sz bytes s x)=true)(hs:ov T s=.msl b N sz 0 len)(hb:H b=some C)(hN:C.length=N)(hx:ov T x=v)(hsrc:f8 sz H v=some (n,new))(ho:AV.ones new=true)(hnl:new.length=n*sz)(hz:0<sz)(h0:0<N)(hle:(len+n)*sz<=N)(h1:(len+n)*bytes<=140737488355328)(h2:len+n<=9223372036854775807)
    (next:∀C':List AV,C'.length=N->C'.take ((len+n)*sz)=C.take (len*sz)++new->am P dm l (aW T d (.msl b N sz 0 (len+n))) (ar H b C') nx K):
    am P dm (⟨d,none,.app sz bytes s x⟩::l) T H nx K:=by
 by_cases e:N=len*sz
 ·have hn:n=0:=by
    rcases vA n with h|h
    ·exact h
    ·have:len*sz+1*1<=len*sz+n*sz:=Nat.add_le_add_left (Nat.mul_le_mul h hz) _;rw[gb] at hle;omega
  subst hn;obtain rfl:new=[]:=List.eq_nil_of_length_eq_zero (by rw[hnl,xT]);refine AZ hd hs hb hx hsrc ho hN e h1 h2 ?_;rw[pk] at next |-;rw[<-e];exact next _ (by rw[fY];exact hN) (by rw[fY,fY])
 ·refine BU hd hs hb hx hsrc ho hN (λ_=>e) h0 (by rw[bP];exact hle) ?_;have hlen:len*sz+new.length<=N:=by rw[hnl,<-gb];exact hle
  refine next _ ?_ ?_
  ·rw[iR (by rw[hN];omega)];exact hN
  ·simp only[bC,bP];rw[IW (by rw[cP,gV,hN,hnl,gb];omega),ib (by rw[cP,gV,hN,hnl,gb];omega)]
def iI:Nat->Spx->List Int
 |0,_=>[]
 |n+1,[]=>0::0::iI n []
 |n+1,v::l=>v.color::v.label::iI n l
theorem qr:∀{n:Nat}{s:Spx},(iI n s).length=2*n
 |0,_=>rfl
 |n+1,[]=>by show(iI n []).length+1+1=_;rw[qr];omega
 |n+1,v::l=>by show(iI n l).length+1+1=_;rw[qr];omega
theorem Bd:∀{n:Nat}{s t:Spx},s.length=t.length->t.length<=n->iI n s=iI n t->s=t
 |_,[],[],_,_,_=>rfl
 |_,[],w::m,h,_,_=>absurd h (by simp)
 |_,v::l,[],h,_,_=>absurd h (by simp)
 |0,v::l,w::m,_,h,_=>absurd h (by simp)
 |n+1,v::l,w::m,hl,hm,e=>by
  obtain⟨e1,e2⟩:=List.cons.inj e;obtain⟨e2,e3⟩:=List.cons.inj e2;have:=Bd (n:=n) (by simpa using hl) (by simpa using hm) e3;rw[this,pj.2 ⟨e1,e2⟩]
abbrev z16:List AV:=[.int .i64 0,.int .i64 0,.int .i64 0,.int .i64 0,.int .i64 0,.int .i64 0,.int .i64 0,.int .i64 0,.int .i64 0,.int .i64 0,.int .i64 0,.int .i64 0,.int .i64 0,.int .i64 0,.int .i64 0,.int .i64 0]
theorem Kt:z16=(iI 8 []).map (AV.int .i64):=rfl
theorem zq:∀{n:Nat}{s:Spx},s.length<=n->cX s++((iI n []).map (AV.int .i64)).drop (s.length*2)=(iI n s).map (AV.int .i64)
 |n,[],_=>by simp[cX]
 |0,_::_,h=>absurd h (by simp)
 |n+1,v::l,h=>by
  have:=zq (n:=n) (s:=l) (by simp at h;omega);show [AV.int .i64 v.color,AV.int .i64 v.label]++cX l++_=AV.int .i64 v.color::AV.int .i64 v.label::(iI n l).map (AV.int .i64);rw[<-this,br,show(l.length+1)*2=l.length*2+1+1 by omega];rfl
def kZ(s:Spx):K16:=⟨iI 8 s,by rw[qr]⟩
theorem Fv{s t:Spx}(h:s.length=t.length)(h8:t.length<=8)(e:kZ s=kZ t):s=t:=Bd h h8 (congrArg Subtype.val e)
theorem Hn{O:List Spx}{f:Spx}{n:Nat}(hn:n<=8)(hO:∀s∈O,s.length=n)(hf:f.length=n):kZ f∈O.map kZ↔f∈O:=by
 rw[bz];exact⟨λ⟨s,h1,h2⟩=>by rw[<-Fv (by rw[hO s h1,hf]) (by omega) h2];exact h1,λh=>⟨f,h,rfl⟩⟩
theorem F8{f:Spx}{n:Nat}(hn:n<=8)(hf:f.length=n):∀{O:List Spx},(∀s∈O,s.length=n)->(O.map kZ).idxOf (kZ f)=O.idxOf f
 |[],_=>rfl
 |g::O,hO=>by
  have ih:=F8 hn hf (O:=O) λs hs=>hO s (dy _ hs);have hg:=hO g cz;rw[ew,List.idxOf_cons,List.idxOf_cons,ih]
  have e:(kZ g==kZ f)=(g==f):=by
   rw[Bool.eq_iff_iff,beq_iff_eq,beq_iff_eq];exact⟨λh=>Fv (by rw[hg,hf]) (by omega) h,λh=>by rw[h]⟩
  rw[e]
structure BOk(H:Hp)(n:Nat)(c:Spx->Nat)(O:List Spx)(bs:List Nat)(ck:Nat):Prop where
 box:H 0=some [.bmap ((O.map kZ).map eK) (O.map aF) bs ck]
 len:bs.length=O.length
 asc:bs.Pairwise (· < ·)
 below:∀s∈bs,s<ck
 nd:O.Nodup
 all:∀f∈O,f.length=n
 odd:∀f,f∈O↔c f%2=1
theorem BOk.same{H H':Hp}{n:Nat}{c c':Spx->Nat}{O:List Spx}{bs:List Nat}{ck:Nat}(h:BOk H n c O bs ck)(hs:H' 0=H 0)(hc:∀f,c' f%2=c f%2):BOk H' n c' O bs ck:=
 ⟨hs.trans h.box,h.len,h.asc,h.below,h.nd,h.all,λf=>by rw[hc];exact h.odd f⟩
theorem BOk.put{H H':Hp}{n:Nat}{c c':Spx->Nat}{O:List Spx}{bs:List Nat}{ck:Nat}{f:Spx}(h:BOk H n c O bs ck)(hf:f∉O)(hl:f.length=n)(hH:H' 0=some [.bmap ((O.map kZ).map eK++[eK (kZ f)]) (O.map aF++[aF f]) (bs++[ck]) (ck+1)])(hc:∀g,c' g=c g+if g=f then 1 else 0):BOk H' n c' (O++[f]) (bs++[ck]) (ck+1):=by
 refine⟨by rw[hH];simp,by rw[cP,cP,h.len];rfl,?_,λs hs=>?_,?_,λg hg=>?_,λg=>?_⟩
 ·exact List.pairwise_append.2 ⟨h.asc,List.pairwise_singleton _ _,λa ha b hb=>by rw[cC.1 hb];exact h.below a ha⟩
 ·rcases eJ.1 hs with q|q
  ·have:=h.below s q;omega
  ·rw[cC.1 q];omega
 ·exact zA.2 ⟨h.nd,by simp,λa ha b hb e=>by rw[e,cC.1 hb] at ha;exact hf ha⟩
 ·rcases eJ.1 hg with q|q
  ·exact h.all g q
  ·rw[cC.1 q];exact hl
 ·rw[eJ,cC,h.odd,hc];by_cases e:g=f
  ·subst e;have:¬c g%2=1:=λq=>hf ((h.odd g).2 q);rw[if_pos rfl];exact⟨λ_=>by omega,λ_=>.inr rfl⟩
  ·rw[if_neg e];simp[e]
theorem iM{α β:Type}{f:α->β}:∀{l:List α}{i:Nat},(l.map f).eraseIdx i=(l.eraseIdx i).map f
 |[],_=>rfl
 |a::l,0=>rfl
 |a::l,i+1=>by show f a::(l.map f).eraseIdx i=f a::(l.eraseIdx i).map f;rw[iM]
theorem BOk.del{H H':Hp}{n:Nat}{c c':Spx->Nat}{O:List Spx}{bs:List Nat}{ck i:Nat}{f:Spx}(h:BOk H n c O bs ck)(hf:f∈O)(hi:O.idxOf f=i)(hH:H' 0=some [.bmap (((O.map kZ).map eK).eraseIdx i) ((O.map aF).eraseIdx i) (bs.eraseIdx i) ck])(hc:∀g,c' g=c g+if g=f then 1 else 0):BOk H' n c' (O.erase f) (bs.eraseIdx i) ck:=by
 have hil:i<O.length:=by rw[<-hi];exact oh.2 hf
 have he:O.erase f=O.eraseIdx i:=List.erase_eq_eraseIdx_of_idxOf hi;refine⟨?_,?_,h.asc.sublist (List.eraseIdx_sublist _ _),λs hs=>h.below s ((List.eraseIdx_sublist _ _).subset hs),h.nd.erase _,λg hg=>h.all g (List.mem_of_mem_erase hg),λg=>?_⟩
 ·rw[hH,he];rw[iM,iM,iM]
 ·rw[he,List.length_eraseIdx_of_lt hil,List.length_eraseIdx_of_lt (by rw[h.len];exact hil),h.len]
 ·rw[h.nd.mem_erase_iff,h.odd,hc];by_cases e:g=f
  ·subst e;have:=(h.odd g).1 hf;rw[if_pos rfl];constructor
   ·exact λq=>absurd rfl q.1
   ·intro q;omega
  ·rw[if_neg e];simp[e]
theorem iU{α:Type}[DecidableEq α]{a b:List α}(h:a.Nodup)(hs:∀x∈a,x∈b):a.length<=b.length:=Ap h hs
theorem EI{l:List Spx}{s f:Spx}:my (l++[s]) f=my l f+(bE s).count f:=by unfold my;simp
theorem BW{D:List Spx}{f g:Spx}{m:Nat}:m+(D++[f]).count g=m+D.count g+if g=f then 1 else 0:=by
 rw[List.count_append,List.count_singleton,qt]
 congr 2
 by_cases e:g=f
 ·subst e;simp
 ·rw[if_neg e,if_neg];simp only[beq_iff_eq];exact λh=>e h.symm
theorem wI{O:List Spx}{i:Nat}(h:i<O.length):(O.map aF).getD i .undef=aF (O.getD i default):=by simp[List.getD,h]
theorem D1{s f:Spx}(hs:bT s=0)(hf:f∈bE s):bT f=0:=by
 obtain⟨h1,h2,h3⟩:=iq.1 hf;obtain⟨p1,p2,p3,p4⟩:=cE hs;exact zV ⟨by omega,by omega⟩ (p3.sublist h2) λv hv=>p4 v (h2.subset hv)
theorem nR{a:List Spx}(ha:∀s∈a,bT s=0):∀f∈bw a,bT f=0:=λf hf=>by
 obtain⟨s,h1,h2⟩:=jQ (gc ha) hf;exact D1 (ha s h1) h2
theorem xu{a:List Spx}{n:Nat}(ha:∀s∈a,bR cu s)(hn:∀s∈a,s.length=n):∀f∈bw a,f.length=n-1:=λf hf=>by
 obtain⟨s,h1,h2⟩:=jQ ha hf;rw[(iq.1 h2).2.2,hn s h1]
theorem Aj{a:List Spx}(h:∀s∈a,bT s=0):∀s∈a,s.length<=8:=λs hs=>(cE (h s hs)).2.1
def ga(a:List Spx):List Spx×Int:=if dD a≠0 then([],dD a) else if 4096<(bw a).length then([],5) else(bw a,0)
def E8(a:List Spx):Bool×Int:=if dD a≠0 then(false,dD a) else(decide (bw a=[]),0)
def on3(b1:Nat)(c1:List AV)(b2:Nat)(c2:List AV)(b3:Nat)(c3:List AV):Hp:=λx=>if x=b1 then some c1 else if x=b2 then some c2 else if x=b3 then some c3 else none
theorem B9{P:Program}{T:Tm}{H:Hp}{nx:Nat}(b1 b2 b3:Nat){c1 c2 c3:List AV}{K:CP}{m:Nat}{l:List Op2}{C:List (Nat×Nat)}(h1:H b1=some c1)(h2:H b2=some c2)(h3:H b3=some c3)(n1:b2≠b1)(n2:b3≠b1)(n3:b3≠b2)(k:∀S:Hp,S b1=some c1->S b2=some c2->S b3=some c3->(∀H':Hp,H' b1=some c1->H' b2=some c2->H' b3=some c3->Sub S H')->bg P S (C.map λk=>(l.getD k.1 ⟨none,none,.dead⟩,k.2)) T H nx λT H nx=>K .normal T H nx):aO P (.mixS m l C) T H nx K:=by
 have hsub:∀H':Hp,H' b1=some c1->H' b2=some c2->H' b3=some c3->Sub (on3 b1 c1 b2 c2 b3 c3) H':=λH' a b c x cs h=>by
  unfold on3 at h;split at h
  ·rename_i e;rw[e,a];exact h
  split at h
  ·rename_i e;rw[e,b];exact h
  split at h
  ·rename_i e;rw[e,c];exact h
  ·cases h
 refine ym (on3 b1 c1 b2 c2 b3 c3) rfl (hsub H h1 h2 h3) (k _ ?_ ?_ ?_ hsub)
 ·unfold on3;rw[if_pos rfl]
 ·unfold on3;rw[if_neg n1,if_pos rfl]
 ·unfold on3;rw[if_neg n2,if_neg n3,if_pos rfl]
theorem yF{α:Type}{p q:Prop}[Decidable p][Decidable q](h:p↔q){a b:α}:(if p then a else b)=if q then a else b:=by
 by_cases hq:q
 ·rw[if_pos hq,if_pos (h.2 hq)]
 ·rw[if_neg hq,if_neg λx=>hq (h.1 x)]
def Fj(c:List Spx)(d:Int):List Spx×Int:=if d<0 then([],0) else fM c (d+1)
def aj(c:List Spx)(d:Int):List Spx:=if d<=0 then [] else jb c d.toNat
def pA(c:List Spx)(d:Int):(Int×List (List Int))×Int:=if aB c≠0 then((0,[]),aB c) else if d<0\/8<=d then((0,[]),2) else((((aj c (d+1)).length:Nat),b7 (aj c (d+1)) (aj c d)),0)
theorem Dt{c:List Spx}{d:Int}(hc:aB c=0)(h1:-1<=d)(h2:d<8):Fj c d=(aj c (d+1),0):=by
 unfold Fj aj fM;by_cases h:d<0
 ·rw[if_pos h,if_pos (by omega)]
 ·rw[if_neg h,if_neg (λq=>q hc),if_neg (by omega),if_neg (by omega)]
theorem jD{c:List Spx}{d:Int}:bR bo (aj c d):=by
 unfold aj;split
 ·exact bR.nil
 ·exact Gu
theorem nZ{c:List Spx}{d:Int}(hc:c.length<=50)(h:aB c=0):(aj c d).length<=3500:=by
 unfold aj;split
 ·exact bQ _
 ·exact pm hc (Aj (d6 h).2.1)
theorem kT{c:List Spx}{d:Int}{s:Spx}:s∈aj c d↔0<d/\s.length=d.toNat/\∃t∈c,s.Sublist t:=by
 unfold aj;split
 ·exact⟨λh=>(by cases h),λh=>absurd h.1 (by omega)⟩
 ·rw[sW];constructor
  ·rintro⟨t,t1,t2⟩;exact⟨by omega,(ff.1 t2).2,t,t1,(ff.1 t2).1⟩
  ·rintro⟨_,h1,t,t1,t2⟩;exact⟨t,t1,ff.2 ⟨t2,h1⟩⟩
theorem jV{c:List Spx}{d:Int}(h:aB c=0):∀s∈aj c d,bT s=0:=λs hs=>by
 obtain⟨h1,h2,t,t1,t2⟩:=kT.1 hs;obtain⟨p1,p2,p3,p4⟩:=cE ((d6 h).2.1 t t1);have:=t2.length_le;exact zV ⟨by omega,by omega⟩ (p3.sublist t2) λv hv=>p4 v (t2.subset hv)
theorem BF{c:List Spx}{d:Int}{s f:Spx}(hs:s∈aj c (d+1))(hf:f∈bE s):f∈aj c d:=by
 obtain⟨h1,h2,t,t1,t2⟩:=kT.1 hs;obtain⟨g1,g2,g3⟩:=iq.1 hf;exact kT.2 ⟨by omega,by omega,t,t1,g2.trans t2⟩
def kO(L a:List Spx):List Nat:=a.map λs=>L.idxOf s
abbrev bG(a:List Spx):Nat:=(a.getD 0 default).length
def dF(c a:List Spx):List Int×Int:=if aB c≠0 then([],aB c) else if dD a≠0 then([],dD a) else if a=[] then([],0) else if (a.all λs=>decide (s∈aj c (bG a)))=true then(bu (kO (aj c (bG a)) a),0) else([],6)
theorem zZ{l:List Nat}{n:Nat}:bu (l++[n])=bu l++[(n:Int)]:=by unfold bu;rw[dq];rfl
theorem E5{L a:List Spx}{k:Nat}(h:k<a.length):kO L (a.take (k+1))=kO L (a.take k)++[L.idxOf (a.getD k default)]:=by
 unfold kO;rw[ci h,dq];rfl
theorem CK{l:List Spx}(hn:l.Nodup){v:Spx}{k:Nat}(hk:k<l.length)(hv:l.getD k default=v):l.idxOf v=k:=by
 have hm:v∈l:=by rw[<-hv];exact aA hk
 have h1:=oh.2 hm;have h2:l[l.idxOf v]=v:=List.getElem_idxOf h1;have h3:l[k]=v:=by simpa[List.getD,hk] using hv
 exact(List.getElem_inj hn).1 (h2.trans h3.symm)
theorem kG{H:Hp}{s:AV}{l:List Int}{e f:Int}(h:Snap H s (aH l))(he:e=f):Snap H (.tup [s,.int .i64 e]) (.tup [aH l,.int .i64 f]):=by
 subst he;exact bA (ah h (ah (.int _ _) ap))
def yY(n:Nat)(v:List Int)(k:Nat):Int:=if v.getD k default<0\/(n:Int)<=v.getD k default then 2 else if 0<k/\v.getD k default<=v.getD (k-1) default then 14 else 0
def ms(n:Nat)(v:List Int):Int:=dC (yY n v) v.length
theorem tZ{n:Nat}{v:List Int}{k:Nat}:yY n v k=if v.getD k default<0\/(n:Int)<=v.getD k default then 2 else if 0<k/\v.getD k default<=v.getD (k-1) default then 14 else 0:=rfl
def bb(X:List Spx)(v:List Int):List Spx:=v.map λi=>X.getD i.toNat default
theorem Bi{X:List Spx}{v:List Int}{k:Nat}(h:k<v.length):bb X (v.take (k+1))=bb X (v.take k)++[X.getD (v.getD k default).toNat default]:=by
 unfold bb;rw[ci h,dq];rfl
def sf(c:List Spx)(d:Int)(v:List Int):List Spx×Int:=if aB c≠0 then([],aB c) else if d<0\/8<=d then([],2) else if ms (aj c (d+1)).length v≠0 then([],ms (aj c (d+1)).length v) else(bb (aj c (d+1)) v,0)
theorem ixV{l:List Int}{k:Nat}(h:k<l.length):eY 1 (aH l) (.int .i64 (k:Int))=some (.iptr [.int .i64 (l.getD k default)] 0):=by
 rw[nH,if_pos ⟨by omega,by omega⟩,bN]
theorem dW{l:List Int}:cT (aH l)=some (.int .i64 l.length):=vh
def eC(l:List Int):Spx:=l.map λc=>⟨c,0⟩
theorem EN{l:List Int}{k:Nat}(h:k<l.length):eC (l.take (k+1))=eC (l.take k)++[⟨l.getD k default,0⟩]:=by
 unfold eC;rw[ci h,dq];rfl
structure PairV where
 a:List Spx
 b:List Spx
 d:Int
theorem qb{H:Hp}{b n:Nat}{l:List Spx}(h:H b=some (l.map aF))(hn:n=l.length):Snap H (.msl b n 1 0 n) (ao l):=by
 subst hn;have:=Row.box (H:=H) (sz:=1) b l.length (l.map aF) h (by simp);rw[Nat.mul_one] at this;exact kf this
theorem Fy{H:Hp}{b n:Nat}{cs:List AV}{l:List (List Int)}(hb:H b=some cs)(hn:cs.length=n)(h:aN H cs (l.map aH)):Snap H (.msl b n 1 0 n) (bK l):=by
 have hl:=h.1;refine lg (l:=l.map aH) hb hn (by omega) (by omega) (λy hy=>?_) (λi a c ha hc=>?_)
 ·obtain⟨z,_,rfl⟩:=bz.1 hy;rfl
 ·rw[bP] at ha;exact h.2 i a c ha hc
section
attribute [local irreducible] aO am bf aZ aR aS aE aU a5 bk Go.Abs.Fn aY Go.Abs.Pure au aN Yl
theorem qo(a:List Spx)(ha:ShC a):pU 75 [ao a] (.int .i64 (dD a)):=by
 refine pO O4 ?_;simp only[b75,aL];have ha':a.length<=17592186044416:=ha.1;unfold dD;by_cases h0:4096<a.length
 ·rw[if_pos h0];refine wnZ (zI3 @ai @ak @ag) ?_
  all_goals exact eW rfl
 rw[if_neg h0];refine wnZ (zI3 @ai @ak @ag) ?_;refine np (X:=Nat) (λk=>[(0,ao a),(9,ao a),(10,.int .i64 a.length),(11,.int .i64 k)]) (λk=>k<=a.length/\∀i,i<k->Bk a i=0) (λk=>a.length-k) 0 ⟨bQ _,λi h=>absurd h (by omega)⟩ ag0 ?_;rintro k ⟨h1,h2⟩;by_cases hk:k<a.length
 rotate_left
 ·rw[c9 λi hi=>h2 i (by omega)];refine wnY and_self ?_;exact .int _ _
 have ix:=fQ hk;have i0:=Cf (l:=a) (by omega);have hs1:=ha.2 _ (aA hk);have hp:=qn (a.getD k default) hs1;have hsp:=Bm (a:=a) (k:=k);by_cases he:bT (a.getD k default)≠0
 ·rw[if_pos he] at hsp;rw[di hk h2 (by rw[hsp];exact he),hsp];have z:decide (bT (a.getD k default)≠0)=true:=a6 he;refine wnY (zI4 @ai @az @ix @z) ?_;exact .int _ _
 rw[if_neg he] at hsp;have he:=ub he;rw[he] at hp;have z:decide ((0:Int)≠0)=false:=rfl;by_cases hl:(a.getD k default).length≠(a.getD 0 default).length
 ·rw[if_pos hl] at hsp;rw[di hk h2 (by rw[hsp];decide),hsp];have z1:decide (((a.getD k default).length:Int)≠(a.getD 0 default).length)=true:=a6 (by omega);refine wnY (zI6 @ai @az @ix @i0 @z @z1) ?_;exact .int _ _
 rw[if_neg hl] at hsp;have z1:decide (((a.getD k default).length:Int)≠(a.getD 0 default).length)=false:=ba (by omega);by_cases hk0:0<k
 rotate_left
 ·rw[if_neg (λh=>hk0 h.1)] at hsp;have zk:decide (0<(k:Int))=false:=ba (by omega);refine wnY (zI7 @ai @az @ix @i0 @z @z1 @zk) ?_
  exact ⟨k + 1,⟨by omega,fun i hi=>by
   rcases jX.1 hi with h'|rfl
   ·exact h2 i h'
   ·exact hsp⟩,by omega,ag0,rfl,rfl⟩
 have zk:decide (0<(k:Int))=true:=a6 (by omega)
 have iy:eY 1 (ao a) (.int .i64 ((k:Int)-1))=some (.iptr [aF (a.getD (k-1) default)] 0):=by
  have:=fQ (l:=a) (k:=k-1) (by omega)
  rwa [show((k-1:Nat):Int)=(k:Int)-1 by omega] at this
 have hcm:=gL (a.getD (k-1) default) (a.getD k default) (ha.2 _ (aA (by omega))) hs1;by_cases hv:0<=bo (a.getD (k-1) default) (a.getD k default)
 ·have z2:decide (0<=bo (a.getD (k-1) default) (a.getD k default))=true:=a6 hv;rw[if_pos ⟨hk0,hv⟩] at hsp;rw[di hk h2 (by rw[hsp];decide),hsp];refine wnY (zI9 @ai @az @ix @i0 @iy @z @z1 @zk @z2) ?_;exact .int _ _
 ·have z2:decide (0<=bo (a.getD (k-1) default) (a.getD k default))=false:=ba hv;rw[if_neg (λh=>hv h.2)] at hsp;refine wnY (zI9 @ai @az @ix @i0 @iy @z @z1 @zk @z2) ?_
  exact ⟨k + 1,⟨by omega,fun i hi=>by
   rcases jX.1 hi with h'|rfl
   ·exact h2 i h'
   ·exact hsp⟩,by omega,ag0,rfl,rfl⟩
def o8:List (List Spx)->Int
 |[]=>0
 |a::l=>if dD a≠0 then dD a else o8 l
theorem yO{l:List (List Spx)}{k:Nat}(h:k<l.length):o8 (l.drop k)=if dD (l.getD k default)≠0 then dD (l.getD k default) else o8 (l.drop (k+1)):=by
 rw[jB h];rfl
theorem Ic(l:List (List Spx))(hl:Shn l)(h:∀a∈l,ShC a):pU 85 [cJ l] (.int .i64 (o8 l)):=by
 refine pO PW ?_;simp only[b85,aL];have hl':l.length<=17592186044416:=hl;refine wnZ @ft ?_;refine np (X:=Nat) (λk=>[(6,cJ l),(7,.int .i64 l.length),(8,.int .i64 k)]) (λk=>k<=l.length/\o8 (l.drop k)=o8 l) (λk=>l.length-k) 0 ⟨bQ _,rfl⟩ ag0 ?_;rintro k ⟨h1,h2⟩;by_cases hk:k<l.length
 rotate_left
 ·rw[<-h2,List.drop_of_length_le (by omega)];refine wnY and_self ?_;exact .int _ _
 have ix:=Gk hk;have hc:=qo _ (h _ (aA hk));rw[yO hk] at h2;generalize l.getD k default=a at *;by_cases he:dD a=0
 rotate_left
 ·rw[if_pos he] at h2;rw[<-h2];have z:decide (dD a≠0)=true:=a6 he;refine wnY (aI @ix @z) ?_;exact .int _ _
 ·rw[if_neg (λq=>q he)] at h2;rw[he] at hc;have z:decide ((0:Int)≠0)=false:=rfl;refine wnY (aI @ix @z) ?_;exact⟨k+1,⟨by omega,h2⟩,by omega,ag0,rfl,rfl⟩
def vG(a:List Spx):Bool:=((a.take 50).all λs=>decide (s.length<=10))&&(decide (a.length<=40) || decide (4096<a.length))
theorem J6(a:List Spx)(ha:ShC a):pU 40 [ao a] (.bool (vG a)):=by
 refine pO Pk ?_;simp only[b40,aL];have ha':a.length<=17592186044416:=ha.1;have hlt:(a.take 50).length=min 50 a.length:=gV;refine wnZ @ai ?_;refine np (X:=Nat) (λk=>[(0,ao a),(3,.int .i64 k)]) (λk=>k<=(a.take 50).length/\∀i,i<k->decide (((a.take 50).getD i default).length<=10)=true) (λk=>(a.take 50).length-k) 0 ⟨bQ _,λi h=>absurd h (by omega)⟩ ag0 ?_;rintro k ⟨h1,h2⟩;by_cases hk:k<(a.take 50).length
 rotate_left
 ·have e:vG a=(decide (a.length<=40) || decide (4096<a.length)):=by
    unfold vG;rw[lf λi hi=>h2 i (by omega),Bool.true_and]
  rw[e];by_cases h3:a.length<=40
  ·have y1:decide ((a.length:Int)<=40)=true:=a6 (by omega);have y2:decide ((k:Int)<a.length)=false:=ba (by omega);rw[a6 h3];refine wnY (zI3 @ai @y1 @y2) ?_;exact .bool _
  ·have y1:decide ((a.length:Int)<=40)=false:=ba (by omega);rw[ba h3,Bool.false_or];by_cases h4:k<a.length
   ·have y2:decide ((k:Int)<a.length)=true:=a6 (by omega);have y3:decide ((k:Int)<50)=false:=ba (by omega);refine wnY (zI4 @ai @y1 @y2 @y3) ?_;exact ct (decide_eq_decide.2 (by omega))
   ·have y2:decide ((k:Int)<a.length)=false:=ba (by omega);refine wnY (zI3 @ai @y1 @y2) ?_;exact ct (decide_eq_decide.2 (by omega))
 have hk1:k<a.length:=by omega
 have ix:=fQ hk1;have e:(a.take 50).getD k default=a.getD k default:=qZ (by omega);have y2:decide ((k:Int)<a.length)=true:=a6 (by omega);have y3:decide ((k:Int)<50)=true:=a6 (by omega);by_cases hs:(a.getD k default).length<=10
 ·have y4:decide ((10:Int)<(a.getD k default).length)=false:=ba (by omega);refine wnY (zI6 @ai @az @ix @y2 @y3 @y4) ?_
  exact ⟨k + 1,⟨by omega,fun i hi=>by
   rcases jX.1 hi with h'|rfl
   ·exact h2 i h'
   ·rw[e];exact a6 hs⟩,by omega,ag0,rfl,rfl⟩
 ·have y4:decide ((10:Int)<(a.getD k default).length)=true:=a6 (by omega)
  have e2:vG a=false:=by
   unfold vG;rw[jA hk (by rw[e];exact ba hs),Bool.false_and]
  rw[e2];refine wnY (zI6 @ai @az @ix @y2 @y3 @y4) ?_;exact .bool _
theorem w7(l:List Spx)(hl:l.length<=100000)(hs:∀x∈l,x.length<=1000000):pU 84 [ao l] (ao l):=by
 refine pO Pf ?_;simp only[b84,aL];refine wnZ @ai ?_;refine bF (X:=AV×Nat) (λx=>[(3,x.1),(6,ao l),(7,.int .i64 l.length),(8,.int .i64 x.2)]) (λx H nx=>x.2<=l.length/\Row H 1 x.1 ((l.take x.2).map aF)/\∀b,bX x.1=some b->b<nx) (λx=>l.length-x.2) (.esl,0) ⟨bQ _,Row.nil,λb hb=>(by cases hb)⟩ ag0 ?_;rintro⟨s,j⟩ H nx ⟨h1,h2,h3⟩;dsimp only at h1 h2 h3 |-;by_cases hj:j<l.length
 ·have hw:=aA hj;have hcl:=EE _ (hs _ hw);have ix:=fQ hj;refine wnY @ix ?_;refine gy ev0 ev0 hcl (ah (dN _ _) ap) ?_;refine wnY (aI @be @aX) ?_;refine mg rfl ev0 (h2.same λb hb=>?_) ev0 iJ rfl rfl lh (by simp;omega) (by simp;omega) ?_
  ·have:=h3 b hb;rw[ae (by omega)]
  rintro s2 E e hrow hle1 hle2 hsame hb2;refine wnY and_self ?_;refine⟨(s2,j+1),by dsimp only;omega,⟨by dsimp only;omega,?_,λb hb=>?_⟩,ag0⟩
  ·dsimp only;rw[Cc hj,dq];exact hrow
  ·rcases hb2 b hb with h|h
   ·have:=h3 b h;omega
   ·omega
 ·refine wnY and_self ?_;rw[ib (by omega)] at h2;exact kf h2
theorem wT(l:List Spx)(hl:Shn l)(hs:∀x∈l,x.length<=1000000):pU 76 [ao l] (.tup [ao (if 4096<l.length then [] else l),.int .i64 (if 4096<l.length then 5 else 0)]):=by
 refine pO Pq ?_;simp only[b76,aL];have hl':l.length<=17592186044416:=hl;by_cases h:4096<l.length
 ·have z:decide ((4096:Int)<l.length)=true:=a6 (by omega);rw[if_pos h,if_pos h];refine wnY (aI @ai @z) ?_;exact dS (.eslsl _) rfl
 ·have z:decide ((4096:Int)<l.length)=false:=ba (by omega);rw[if_neg h,if_neg h];have hc:=w7 l (by omega) hs;refine wnY (aI @ai @z) ?_;exact dS (bD _).snap rfl
theorem Jw(a b:List Spx)(ha:a.length<=1000000/\∀s∈a,Shn s)(hb:b.length<=1000000/\∀s∈b,Shn s):pU 86 [ao a,ao b,.func 70 []] (ao (eO bo a b)):=by
 refine pO Pd ?_;simp only[b86,aL];refine wnZ and_self ?_;refine bF (X:=List Spx×List Spx×List Spx×AV) (λx=>[(0,ao x.1),(1,ao x.2.1),(2,.func 70 []),(7,x.2.2.2)]) (λx H nx=>x.2.2.1.length+x.1.length+x.2.1.length<=a.length+b.length/\(∀s∈x.1,Shn s)/\(∀s∈x.2.1,Shn s)/\x.2.2.1++eO bo x.1 x.2.1=eO bo a b/\Row H 1 x.2.2.2 (x.2.2.1.map aF)/\∀b,bX x.2.2.2=some b->b<nx) (λx=>x.1.length+x.2.1.length) (a,b,[],.esl) ⟨by simp,ha.2,hb.2,rfl,Row.nil,λb hb=>(by cases hb)⟩ ag0 ?_;rintro⟨a',b',D,sv⟩ H nx ⟨h2,ha2,hb2,h4,h5,h6⟩;dsimp only at h2 ha2 hb2 h4 h5 h6 |-
 have key:∀(x:Spx){P:Program}{T:Tm}{dm:DM}{K:SP}{l:List Op2}{d:Option Nat}{s v:Opd},dm2 dm T (.app 1 24 s v)=true->ov T s=sv->ov T v=.msl nx 1 1 0 1->
     (∀(sv':AV)(H':Hp)(nx':Nat),Row H' 1 sv' ((D++[x]).map aF)->(∀b,bX sv'=some b->b<nx')->am P dm l (aW T d sv') H' nx' K)->
     D.length<=2000000->am P dm (⟨d,none,.app 1 24 s v⟩::l) T (ar H nx [aF x]) (nx+1) K:=by
  intro x P T dm K l d s v k1 k2 k3 k4 k5;refine mg k1 k2 (h5.same λb hb=>?_) k3 iJ rfl rfl lh (by rw[bm];omega) (by rw[bm];omega) ?_
  ·have:=h6 b hb;rw[ae (by omega)]
  rintro s2 E e hrow hle1 hle2 hsame hb2;refine k4 s2 E e (by rw[dq];exact hrow) λb hb=>?_;rcases hb2 b hb with h|h
  ·have:=h6 b h;omega
  ·omega
 match a',b',h2,ha2,hb2,h4 with
 |[],[],h2,ha2,hb2,h4=>
  have al:cT (ao [])=some (.int .i64 0):=rfl;refine wnY @al ?_;rw[qK,fY] at h4;rw[<-h4];exact kf h5
 |x::a2,[],h2,ha2,hb2,h4=>
  have al:cT (ao [])=some (.int .i64 0):=rfl;have al2:cT (ao (x::a2))=some (.int .i64 ((a2.length:Int)+1)):=by rw[ai,br];rfl
  have z1:decide ((0:Int)<(a2.length:Int)+1)=true:=a6 (by omega);simp only[br,dw] at h2;refine wnY (zI7 @al @al2 @z1 @Ah @jw @be @aX) ?_;refine key x rfl ev0 ev0 (λs2 H2 nx2 r1 r2=>?_) (by omega);refine wnY @jw ?_;exact⟨(a2,[],D++[x],s2),by simp,⟨by simp;omega,λs h=>ha2 s (dy _ h),hb2,by dsimp only;rw[uj,i9];rw[uj] at h4;exact h4,r1,r2⟩,ag0⟩
 |[],y::b2,h2,ha2,hb2,h4=>
  have al:cT (ao [])=some (.int .i64 0):=rfl;have al2:cT (ao (y::b2))=some (.int .i64 ((b2.length:Int)+1)):=by rw[ai,br];rfl
  have z1:decide ((0:Int)<(b2.length:Int)+1)=true:=a6 (by omega);have z2:decide ((b2.length:Int)+1=0)=false:=ba (by omega);simp only[br,dw] at h2;refine wnY (zI8 @al @al2 @z1 @z2 @Ah @jw @be @aX) ?_;refine key y rfl ev0 ev0 (λs2 H2 nx2 r1 r2=>?_) (by omega);refine wnY @jw ?_;exact⟨([],b2,D++[y],s2),by simp,⟨by simp;omega,ha2,λs h=>hb2 s (dy _ h),by dsimp only;rw[qK,i9];rw[qK] at h4;exact h4,r1,r2⟩,ag0⟩
 |x::a2,y::b2,h2,ha2,hb2,h4=>
  have al1:cT (ao (x::a2))=some (.int .i64 ((a2.length:Int)+1)):=by rw[ai,br];rfl
  have al2:cT (ao (y::b2))=some (.int .i64 ((b2.length:Int)+1)):=by rw[ai,br];rfl
  have z1:decide ((0:Int)<(a2.length:Int)+1)=true:=a6 (by omega);have z2:decide ((b2.length:Int)+1=0)=false:=ba (by omega);simp only[br] at h2;have hc:=gL x y (ha2 x cz) (hb2 y cz);rw[yU] at h4;have hsw:=nV x y;by_cases g1:bo x y<0
  ·have z3:decide (bo x y<0)=true:=a6 g1;rw[if_pos g1] at h4;refine wkY (zI9 @al1 @al2 @z1 @z2 @z3 @Ah @jw @be @aX) ?_;refine key x rfl ev0 ev0 (λs2 H2 nx2 r1 r2=>?_) (by omega);refine wnY @jw ?_;exact⟨(a2,y::b2,D++[x],s2),by simp,⟨by simp;omega,λs h=>ha2 s (dy _ h),hb2,by dsimp only;rw[i9];exact h4,r1,r2⟩,ag0⟩
  have z3:decide (bo x y<0)=false:=ba g1;rw[if_neg g1] at h4;by_cases g2:bo y x<0
  ·have z4:decide (0<bo x y)=true:=a6 (by omega);rw[if_pos g2] at h4;refine wkY (dH @al1 @al2 @z1 @z2 @z3 @z4 @Ah @jw @be @aX) ?_;refine key y rfl ev0 ev0 (λs2 H2 nx2 r1 r2=>?_) (by omega);refine wnY @jw ?_;exact⟨(x::a2,b2,D++[y],s2),by simp,⟨by simp;omega,ha2,λs h=>hb2 s (dy _ h),by dsimp only;rw[i9];exact h4,r1,r2⟩,ag0⟩
  ·have z4:decide (0<bo x y)=false:=ba (by omega);rw[if_neg g2] at h4;refine wkY (dH @al1 @al2 @z1 @z2 @z3 @z4 @Ah @jw @be @aX) ?_;exact⟨(a2,b2,D,sv),by simp;omega,⟨by simp;omega,λs h=>ha2 s (dy _ h),λs h=>hb2 s (dy _ h),h4,h5,h6⟩,ag0⟩
def DN(a b:List Spx):List Spx×Int:=if dD a≠0 then([],dD a) else if dD b≠0 then([],dD b) else if 0<a.length/\0<b.length/\(a.getD 0 default).length≠(b.getD 0 default).length then([],15) else if 4096<(eO bo a b).length then([],5) else(eO bo a b,0)
theorem pz{a:List Spx}(h:∀s∈a,bT s=0):∀s∈a,Shn s:=λs hs=>by have:=(cE (h s hs)).2.1;show _<=_;omega
theorem uN{a:List Spx}(h:∀s∈a,bT s=0):∀s∈a,s.length<=1000000:=λs hs=>by have:=(cE (h s hs)).2.1;omega
theorem ll{H:Hp}{b:Nat}{x y:List Spx}(h:H b=some [ao x,ao y]):aN H [.msl b 2 1 0 2] [cJ [x,y]]:=
 ah (wn (l:=[ao x,ao y]) h rfl rfl (by
  intro z hz;simp only[dg,List.not_mem_nil,or_false] at hz;rcases hz with rfl|rfl
  ·exact⟨rfl,bD _⟩
  ·exact⟨rfl,bD _⟩)) ap
theorem Fp{a:List Spx}(h:dD a=0):a.length<=1000000/\∀s∈a,Shn s:=⟨by have:=(dL h).1;omega,pz (dL h).2.1⟩
theorem Js{a b:List Spx}(ha:dD a=0)(hb:dD b=0):∀s∈eO bo a b,bT s=0:=Fq (dL ha).2.2.1 (dL hb).2.2.1 _ (dL ha).2.1 (dL hb).2.1
theorem Jp(a b:List Spx)(ha:ShC a)(hb:ShC b):pU 35 [ao a,ao b] (.tup [ao (DN a b).1,.int .i64 (DN a b).2]):=by
 refine pO Pc ?_;simp only[b35,aL]
 have f1:=Ic [a,b] (show _ ≤ _ by simp) (fun x hx=>by
  rcases dg.1 hx with rfl|hx
  ·exact ha
  ·rw[cC.1 hx];exact hb)
 have ef:o8 [a,b]=if dD a≠0 then dD a else if dD b≠0 then dD b else 0:=rfl
 rw[ef] at f1;unfold DN;by_cases h1:dD a=0
 rotate_left
 ·rw[if_pos h1];rw[if_pos h1] at f1;have z:decide (dD a≠0)=true:=a6 h1;refine wnY (aI @ak @ag) ?_;refine dh ev0 ev0 f1 (aG (ll (by rw[af])) rfl) ?_;refine wnY @z ?_;exact dS (.eslsl _) rfl
 rw[if_neg (λq=>q h1)];rw[if_neg (λq=>q h1)] at f1;by_cases h2:dD b=0
 rotate_left
 ·rw[if_pos h2];rw[if_pos h2] at f1;have z:decide (dD b≠0)=true:=a6 h2;refine wnY (aI @ak @ag) ?_;refine dh ev0 ev0 f1 (aG (ll (by rw[af])) rfl) ?_;refine wnY @z ?_;exact dS (.eslsl _) rfl
 rw[if_neg (λq=>q h2)];rw[if_neg (λq=>q h2)] at f1;have z:decide ((0:Int)≠0)=false:=rfl;have hm:=Jw a b (Fp h1) (Fp h2);have hml:=sC (K:=bo) (a:=a) (b:=b);have h14:=(dL h1).1;have h24:=(dL h2).1;have hlim:=wT (eO bo a b) (show _<=_ by omega) (uN (Js h1 h2))
 have hfin:(if 4096<(eO bo a b).length then(([]:List Spx),(5:Int)) else(eO bo a b,0))=(if 4096<(eO bo a b).length then [] else eO bo a b,if 4096<(eO bo a b).length then 5 else 0):=by
  split<;>rfl
 rw[hfin];generalize (if 4096<(eO bo a b).length then([]:List Spx) else eO bo a b)=L at *;generalize (if 4096<(eO bo a b).length then(5:Int) else 0)=E at *;generalize eO bo a b=M at *;by_cases h3:0<a.length/\0<b.length/\(a.getD 0 default).length≠(b.getD 0 default).length
 ·rw[if_pos h3];have i1:=Cf h3.1;have i2:=Cf h3.2.1;have z1:decide ((0:Int)<a.length)=true:=a6 (by omega);have z2:decide ((0:Int)<b.length)=true:=a6 (by omega);have z3:decide (((a.getD 0 default).length:Int)≠(b.getD 0 default).length)=true:=a6 (by omega);refine wnY (aI @ak @ag) ?_;refine dh ev0 ev0 f1 (aG (ll (by rw[af])) rfl) ?_;have zz:=aI @z (aI @z1 (aI @z2 (aI @z3 (aI @i1 (aI @i2 (aI @ai @az))))));repeat' (first|refine zW ?_|apply a_n|apply a_r|refine zO ?_|refine vY ?_|refine gTY ?_|refine cTY ?_|refine cFY ?_|refine b0 rfl ?_|refine r2Y ?_|fail)
  exact dS (.eslsl _) rfl
 ·rw[if_neg h3];have dc:Dat (AV.func 70 []):=Dat.func DatL.nil;by_cases h4:0<a.length
  ·have z1:decide ((0:Int)<a.length)=true:=a6 (by omega);by_cases h5:0<b.length
   ·have i1:=Cf h4;have i2:=Cf h5;have z2:decide ((0:Int)<b.length)=true:=a6 (by omega);have z3:decide (((a.getD 0 default).length:Int)≠(b.getD 0 default).length)=false:=ba (by omega);refine wnY (aI @ak @ag) ?_;refine dh ev0 ev0 f1 (aG (ll (by rw[af])) rfl) ?_;refine wnY (zI8 @z @z1 @z2 @z3 @i1 @i2 @ai @az) ?_;exact dS (bD _).snap rfl
   ·have z2:decide ((0:Int)<b.length)=false:=ba (by omega);have zz:=aI @ak @ag;repeat' (first|refine zW ?_|apply a_n|refine zO ?_|refine vY ?_|refine blY ?_|fail)
    refine dh ev0 ev0 f1 (aG (ll (by rw[af])) rfl) ?_;clear zz;have zz:=aI @z (aI @z1 (aI @z2 (aI @ai @az)));repeat' (first|refine zW ?_|apply a_n|refine zO ?_|refine vY ?_|refine cY ?_ (hp:=by first|exact hm|exact hlim) (hs:=by(first|refine aG ?_ rfl|apply a9);(repeat' (first|exact ap|apply bI|apply bc|exact bD _|exact dc));first|done|fail)|refine gTY ?_|refine gFY ?_|refine cFY ?_|refine b0 rfl ?_|refine r2Y ?_|fail)
    exact dS (bD _).snap rfl
  ·have z1:decide ((0:Int)<a.length)=false:=ba (by omega);have zz:=aI @ak @ag;repeat' (first|refine zW ?_|apply a_n|refine zO ?_|refine vY ?_|refine blY ?_|fail)
   refine dh ev0 ev0 f1 (aG (ll (by rw[af])) rfl) ?_;refine wnY (zI4 @z @z1 @ai @az) ?_;exact dS (bD _).snap rfl
theorem HW(n:Nat)(h0:0<n)(h1:n<=1000000)(H:Hp)(nx:Nat):Abs.Fn Tryz.prog 161 [.esl,.int .i64 n] H nx λr H' nx'=>r=.msl nx (n*2) 2 0 0/\H'=ar H nx (bH (.agg [.int .i64 0,.int .i64 0]) n)/\nx'=nx+1:=by
 refine fO NC ?_;simp only[NT,aL];have z1:decide ((n:Int)<0)=false:=ba (by omega);have z2:decide ((0:Int)<n)=true:=a6 (by omega);have s2:lF 2 .esl none (some (.int .i64 0)) none=some .esl:=rfl;have s3:=Bx (B:=nx) (n:=n*2) (len:=n) (k:=0) (by omega) (by omega);rw[show((0:Nat):Int)=0 from rfl] at s3;refine wnY (zI6 @z1 @z2 @s2 @Int.sub_zero @Int.sub_self @IL) ?_;refine Lg rfl (have zz:=@s2;evY) ev0 (by omega) (by omega) (by omega) ?_;refine wnY @s3 ?_;exact⟨rfl,rfl,rfl⟩
theorem yp{c:List Spx}{k:Nat}(hk:k<c.length):(c.take (k+1)).flatten=(c.take k).flatten++c.getD k default:=by
 rw[ci hk,List.flatten_append];simp
theorem EO(c:List Spx)(hpos:0<c.flatten.length)(hl:c.flatten.length<=1000000)(hc:c.length<=1000000)(H:Hp)(nx:Nat):
    Abs.Fn Tryz.prog 141 [ao c] H nx λr H' nx'=>r=.msl nx (c.flatten.length*2) 2 0 c.flatten.length/\H'=ar H nx (cX c.flatten)/\nx'=nx+1:=by
 refine fO M9 ?_;simp only[OE,aL]
 have hle:∀k,(c.take k).flatten.length<=c.flatten.length:=λk=>by
  have:c.flatten=(c.take k).flatten++(c.drop k).flatten:=by rw[<-List.flatten_append,FA]
  rw[this,cP];omega
 refine dJ ?_
 repeat' (first|apply a_n|refine zO ?_|refine vY ?_|fail)
 refine dJ ?_
 repeat' (first|apply a_n|refine zO ?_|refine vY ?_|fail)
 refine bn (λT H' nx'=>T 0=ao c/\T 3=.int .i64 (c.flatten.length:Nat)/\H=H'/\nx=nx') ?_ ?_
 ·refine wnY @ai ?_;refine np (X:=Nat) (λk=>[(0,ao c),(3,.int .i64 ((c.take k).flatten.length:Nat)),(9,ao c),(10,.int .i64 c.length),(11,.int .i64 (k:Nat))]) (λk=>k<=c.length) (λk=>c.length-k) 0 (by omega) (by simp (disch:=omega) only[agr,ZG,reduceEqDiff,↓reduceIte,List.take_zero,List.flatten_nil,dw]<;>simp) ?_;intro k hk;by_cases hk2:k<c.length
  rotate_left
  ·rw[ib (by omega)];refine wnY and_self ?_;exact⟨rfl,rfl,rfl,rfl⟩
  have ix:=fQ hk2;have hle2:=hle (k+1);have e:(((c.take (k+1)).flatten.length:Nat):Int)=((c.take k).flatten.length:Nat)+((c.getD k default).length:Nat):=by rw[yp hk2,cP];omega
  rw[yp hk2,cP] at hle2;have z:decide ((((c.take k).flatten.length:Nat):Int)+((c.getD k default).length:Nat)<0)=false:=ba (by omega);generalize c.getD k default=s at *;refine wnY (zI3 @ix @az @z) ?_;exact⟨k+1,by omega,by omega,(have zz:=@e;agZ),rfl,rfl⟩
 rintro T _ _ ⟨t0,t3,rfl,rfl⟩;refine wnY @t3 ?_;refine aQ ev0 (have zz:=@t3;evY) (HW c.flatten.length (by omega) (by omega) H nx) ?_;rintro _ _ _ ⟨rfl,rfl,rfl⟩;refine wnY (aI @t0 @ai) ?_;refine bF (X:=Nat) (λk=>[(6,.msl nx (c.flatten.length*2) 2 0 (c.take k).flatten.length),(25,ao c),(26,.int .i64 c.length),(27,.int .i64 (k:Nat))]) (λk H' nx'=>k<=c.length/\(∃C,H'=ar H nx C/\C.length=c.flatten.length*2/\C.take ((c.take k).flatten.length*2)=cX (c.take k).flatten)/\nx'=nx+1) (λk=>c.length-k) 0 ⟨by omega,⟨_,rfl,Ik _,rfl⟩,rfl⟩ (by simp (disch:=omega) only[agr,ZG,reduceEqDiff,↓reduceIte,List.take_zero,List.flatten_nil,dw]) ?_;rintro k _ _ ⟨hk,⟨C,rfl,h1,h2⟩,rfl⟩;by_cases hk2:k<c.length
 rotate_left
 ·have ek:c.take k=c:=ib (by omega);rw[ek] at h2 |-;rw[ib (by omega)] at h2;subst h2;refine wnY and_self ?_;exact⟨rfl,rfl,rfl⟩
 have ix:=fQ hk2;have hle2:=hle (k+1);have e:=yp hk2;rw[e,cP] at hle2;have hcl:=kM (c.getD k default);have hcp:=kM (c.take k).flatten;generalize c.getD k default=s at *;refine wnY @ix ?_;refine KH (b:=nx) (N:=c.flatten.length*2) (len:=(c.take k).flatten.length) (n:=s.length) (C:=C) rfl ev0 af h1 ev0 zR (nJ _) (by rw[hcl]) (by omega) (by omega) (by omega) (by omega) (by omega) λC2 c1 c2=>?_;refine wnY and_self ?_;refine⟨k+1,by omega,⟨by omega,⟨_,aC _ _ _ _,c1,?_⟩,rfl⟩,by simp (disch:=omega) only[agr,ZG,reduceEqDiff,↓reduceIte,e,cP]⟩;rw[e,nG,cP,<-h2];exact c2
theorem PB{P:Program}{T:Tm}{H S:Hp}{nx n:Nat}{K:SP}{l:List (Op2×Nat)}{d:Option Nat}{i:Ins}{t:Nat}{w:Bool}(h:T t=.bool w)(k:bg P S ((⟨d,none,i⟩,n)::l) T H nx K):bg P S ((⟨d,some (t,w),i⟩,n)::l) T H nx K:=by
 have e:g2 T (some (t,w))=some true:=by simp[g2,h]
 cases n with
 |zero=>show aU (g2 T (some (t,w))) _ _;rw[e];exact k
 |succ n=>show aU (g2 T (some (t,w))) _ _;rw[e];exact k
theorem D3(x y:Spx)(h:0<(x++y).length)(hl:(x++y).length<=1000000):PureF Tryz.prog 141 [ao [x,y]] (aF (x++y)):=by
 refine PureF.of_fn ?_;have e:[x,y].flatten=x++y:=by simp
 have hc:=EO [x,y] (by rw[e];exact h) (by rw[e];exact hl) (by simp) cH 0;rw[e] at hc;refine Abs.Fn.mono hc ?_;rintro _ _ _ ⟨rfl,rfl,rfl⟩;exact sy (Row.box _ (x++y).length (cX (x++y)) af (kM _))
theorem wG(s:Spx)(H:Hp)(nx:Nat):Abs.Fn Tryz.prog 129 [aF s] H nx λr H' nx'=>r=.func 154 [.ptr nx 1 0]/\H'=ar H nx [aF s]/\nx'=nx+1:=by
 refine fO LJ ?_;simp only[Nx,aL];refine wnY (aI @be @aX) ?_;exact⟨rfl,rfl,rfl⟩
theorem Fh{H:Hp}{b:Nat}{x y:Spx}(h:H b=some [aF x,aF y]):aN H [.msl b 2 1 0 2] [ao [x,y]]:=
 ah (wn (l:=[aF x,aF y]) h rfl rfl (by
  intro z hz;simp only[dg,List.not_mem_nil,or_false] at hz;rcases hz with rfl|rfl
  ·exact⟨rfl,dN _⟩
  ·exact⟨rfl,dN _⟩)) ap
theorem xK{s:Spx}(h:2<=s.length):(fcs s).length=s.length:=by
 unfold fcs;rw[if_neg (by omega),sF]
theorem CD{s:Spx}{i:Nat}(h:2<=s.length)(hi:i<s.length):(fcs s).getD i default=s.take i++s.drop (i+1):=by
 unfold fcs;rw[if_neg (by omega),CL hi]
theorem wq{y sb:Nat}{s:Spx}{H:Hp}{nx:Nat}(hs:s.length<=1000)(I:List Spx->Hp->Nat->Prop)
    (hp:∀D H nx,I D H nx->H sb=some [aF s])
    (stab:∀D H H' nx1 nx',I D H nx1->nx1<=nx'->(∀i,i<nx1->H' i=H i)->I D H' nx')
    (rnd:∀D f H nx1,I D H nx1->D.length<(fcs s).length->f=(fcs s).getD D.length default->D=(fcs s).take D.length->Yl Tryz.prog y [aF f] H nx1 λr H' nx'=>r=.bool true/\I (D++[f]) H' nx')
    (h0:I [] H nx):
    Abs.Fn Tryz.prog 154 [.yld y,.ptr sb 1 0] H nx λ_ H' nx'=>I (fcs s) H' nx':=by
 refine fO LV ?_;simp only[L3,aL];have g1:=hp _ _ _ h0;refine wnY (zI4 @g1 @be @aX @az) ?_;by_cases h2:2<=s.length
 rotate_left
 ·have e:fcs s=[]:=by unfold fcs;rw[if_pos (by omega)]
  rw[e];refine bF (X:=Nat) (λk=>[(0,.yld y),(1,.ptr sb 1 0),(5,.int .i64 s.length),(6,.int .i64 k)]) (λk H' nx'=>k<=s.length/\I [] H' nx') (λk=>s.length-k) 0 ⟨bQ _,h0⟩ ag0 ?_;rintro k H1 nx1 ⟨h1,hI⟩;have q1:=hp _ _ _ hI;by_cases hk:k<s.length
  rotate_left
  ·refine wnY and_self ?_;exact hI
  have z:decide ((1:Int)<s.length)=false:=ba (by omega);refine wkY (zI5 @q1 @be @aX @az @z) ?_;exact⟨k+1,by omega,⟨by omega,hI⟩,ag0⟩
 have z:decide ((1:Int)<s.length)=true:=a6 (by omega);have hfl:=xK h2;have hfg:=λ{i:Nat}(hi:i<s.length)=>CD (i:=i) h2 hi;refine bF (X:=Nat) (λk=>[(0,.yld y),(1,.ptr sb 1 0),(5,.int .i64 s.length),(6,.int .i64 k)]) (λk H' nx'=>k<=s.length/\I ((fcs s).take k) H' nx') (λk=>s.length-k) 0 ⟨bQ _,h0⟩ ag0 ?_;rintro k H1 nx1 ⟨h1,hI⟩;have q1:=hp _ _ _ hI;by_cases hk:k<s.length
 rotate_left
 ·rw[ib (by omega)] at hI;refine wnY and_self ?_;exact hI
 have a1:lF 2 (aF s) none (some (.int .i64 (k:Int))) none=some (aF (s.take k)):=yv (by omega);have a2:lF 2 (aF s) (some (.int .i64 ((k:Int)+1))) none none=some (aF (s.drop (k+1))):=BG (k:=k+1) (by omega);have hc:=D3 (s.take k) (s.drop (k+1)) (by rw[cP,gV,Gd];omega) (by rw[cP,gV,Gd];omega);have hr:=rnd ((fcs s).take k) ((fcs s).getD k default) (ar H1 nx1 [aF (s.take k),aF (s.drop (k+1))]) (nx1+1) (stab _ _ _ _ _ hI (by omega) λi hi=>ae (by omega)) (by rw[gV];omega) (by rw[gV,Nat.min_eq_left (by omega)]) (by rw[gV,Nat.min_eq_left (by omega)]);rw[<-ci (by omega),hfg hk] at hr;refine wnY (zI7 @q1 @be @aX @az @z @a1 @a2) ?_;refine w_mix1 sb q1 λS0 hS1 hsub=>?_;simp only[ew,List.map_nil,List.getD_cons_succ,List.getD_cons_zero];have zz:=aI @hS1 (aI @be (aI @aX (aI @az (aI @z (aI @a1 @a2)))));repeat' (first|apply a_n|refine zO ?_|refine nvY ?_|apply kg|refine blY ?_|fail)
 repeat (refine PB ev0 ?_;skip)
 refine gy ev0 ev0 hc (Fh (by rw[af])) ?_
 repeat' (first|apply a_n|refine zO ?_|apply kg|fail)
 refine yC ev0 ev0 (Yl.mono hr ?_);rintro v H3 nx3 ⟨rfl,e1⟩;refine wnY and_self ?_;exact⟨k+1,by omega,⟨by omega,e1⟩,ag0⟩
theorem Hs{n:Nat}{c:Spx->Nat}{O:List Spx}{bs:List Nat}{ck:Nat}{f:Spx}{H:Hp}(hn:n<=8)(h:BOk H n c O bs ck)(hf:f.length=n):
    dA (.st [.int,.int,.int,.int,.int,.int,.int,.int,.int,.int,.int,.int,.int,.int,.int,.int]) (eK (kZ f)) ((O.map kZ).map eK)=some (if f∈O then some (O.idxOf f) else none):=by
 rw[HV,F8 hn hf h.all];by_cases e:f∈O
 ·rw[if_pos e,if_pos ((Hn hn h.all hf).2 e)]
 ·rw[if_neg e,if_neg λq=>e ((Hn hn h.all hf).1 q)]
theorem tc(a:List Spx)(n:Nat)(hn:n<=8)(ha:a.length<=4096)(hv:∀s∈a,bR cu s)(hl:∀s∈a,s.length=n+1\/s.length<2)(h8:∀s∈a,s.length<=8):pU 77 [ao a] (ao (bw a)):=by
 refine pO Pv ?_;simp only[b77,aL];refine dJ ?_
 repeat' (first|apply a_n|refine zO ?_|refine vY ?_|fail)
 refine dJ ?_;refine wnY and_self ?_;refine Kf ?_;refine sB (cs:=[.nilm]) rfl rfl rfl ?_
 repeat' (first|apply a_n|refine zO ?_|refine stY ?_|fail)
 refine bn (λT H nx=>T 3=.ptr 1 1 0/\2<=nx/\H 1=some [.mp 0]/\∃O bs ck,BOk H n (my a) O bs ck) ?_ ?_
 ·refine wnY @ai ?_;refine lpI (X:=Nat) (λk=>[(3,.ptr 1 1 0),(14,ao a),(15,.int .i64 a.length),(16,.int .i64 k)]) (λk H nx=>k<=a.length/\2<=nx/\H 1=some [.mp 0]/\∃O bs ck,BOk H n (my (a.take k)) O bs ck) (λk=>a.length-k) 0 ⟨bQ _,aM _,by rw[af];rfl,[],[],0,⟨by rw[ae (by omega),ae (by omega),af];rfl,rfl,pb,λs h=>(by cases h),List.nodup_nil,λs h=>(by cases h),λf=>⟨λh=>(by cases h),λh=>absurd h (by rw[List.take_zero];exact(by decide:¬(0:Nat)%2=1))⟩⟩⟩ ?_;rintro k H nx ⟨h1,h2,h3,O,bs,ck,h4⟩;by_cases hk:k<a.length
  rotate_left
  ·rw[ib (by omega)] at h4;refine wnY and_self ?_;exact⟨rfl,h2,h3,O,bs,ck,h4⟩
  have ix:=fQ hk;have hts:=ci hk;have hvs:=hv _ (aA hk);have hls:=hl _ (aA hk);have h8s:=h8 _ (aA hk);generalize a.getD k default=s at *;refine wnY @ix ?_;refine aQ ev0 ev0 (wG s H nx) ?_;rintro _ H1 nx1 ⟨rfl,rfl,rfl⟩;refine wnY and_self ?_;refine nX (nx+1) (nx+2) rfl rfl ev0 (λc0 cj hy=>?_);refine Abs.Fn.mono (wq (nx:=nx+2) (y:=nx+1) (sb:=nx) (s:=s) (by omega) (λD H' nx'=>nx+2<=nx'/\H' nx=some [aF s]/\H' (nx+1)=some [c0]/\H' 1=some [.mp 0]/\∃O bs ck,BOk H' n (λf=>my (a.take k) f+D.count f) O bs ck) ?_ ?_ ?_ ?_) ?_
  ·rintro D H' nx' ⟨g1,g2,g3,g4⟩;exact g2
  ·rintro D H' H'' n1 n2 ⟨g1,g2,g3,g4,O,bs,ck,g5⟩ hle hsm;exact⟨by omega,(hsm _ (by omega)).trans g2,(hsm _ (by omega)).trans g3,(hsm _ (by omega)).trans g4,O,bs,ck,g5.same (hsm _ (by omega)) λ_=>rfl⟩
  ·rintro D f H' nx' ⟨g1,g2,g3,g4,O,bs,ck,g5⟩ hlt hfe hDe;refine hy _ _ _ _ g3 rfl ?_;clear hy
   have h2s:2<=s.length:=Nat.le_of_not_lt λh=>by
    have:fcs s=[]:=by unfold fcs;rw[if_pos h]
    rw[this] at hlt;simp at hlt
   have hfl:f.length=n:=by
    rw[hfe,CD h2s (by rw[xK h2s] at hlt;exact hlt),cP,gV,Gd];rw[xK h2s] at hlt;omega
   clear hfe hDe;refine wnY and_self ?_;refine⟨g3,?_⟩;have hmf:=Hs hn g5 hfl;have q0:=(dr (H:=H') (b:=nx+1) (x:=0) (by omega)).trans g5.box;have q1:=(dr (H:=H') (b:=nx+1) (x:=1) (by omega)).trans g4;have q2:=(dr (H:=H') (b:=nx+1) (x:=nx) (by omega)).trans g2;generalize dK H' (nx+1)=H2 at *;refine wnY and_self ?_;generalize hH3:ar H2 nx' z16=H3;have p0:H3 0=H2 0:=by rw[<-hH3];exact ae (by omega)
   have p1:H3 1=H2 1:=by rw[<-hH3];exact ae (by omega)
   have p2:H3 nx=H2 nx:=by rw[<-hH3];exact ae (by omega)
   have p3:H3 nx'=some z16:=by rw[<-hH3];exact af
   clear hH3;refine JZ rfl p3 rfl rfl ?_;refine wnY and_self ?_;refine JP (n:=f.length) (H':=ar H3 nx' ((iI 8 f).map (AV.int .i64))) ?_ ?_
   ·((try simp only[cf,ZA,reduceEqDiff,↓reduceIte,reduceAdd,reduceLeDiff]);(try with_reducible rfl))
    have hnn:fA (aF f)=some f.length:=by unfold aF iA;simp[fA]
    have htr:wx f.length (aF f)=aF f:=by unfold aF iA;simp[wx];exact ib (by simp)
    have hmin:min f.length 8=f.length:=Nat.min_eq_left (by omega);have hal:fA (.msl nx' 16 2 0 8)=some 8:=rfl
    have hlp:bC z16 0 (cX f)=(iI 8 f).map (AV.int .i64):=by
     rw[<-zq (n:=8) (s:=f) (by omega),Kt];simp only[bC,List.take_zero,List.nil_append,bP,kM]
    by_cases hf0:f.length=0
    ·obtain rfl:=fI.1 hf0;have e0:(iI 8 []).map (AV.int .i64)=z16:=rfl;rw[e0,<-DD p3];simp only[tW,hal,hnn,hmin];rfl
    ·simp only[tW,hal,hnn,hmin,if_neg hf0,p3,htr,zR];rw[if_pos (by refine⟨?_,?_,?_,?_⟩<;>first|rfl|trivial|omega|exact nJ f),hlp]
   have hl16:((iI 8 f).map (AV.int .i64)).length=16:=by rw[bm,qr]
   have ht:((iI 8 f).map (AV.int .i64)).take 16=(iI 8 f).map (AV.int .i64):=ib (by omega);have r0:=(ae (H:=H3) (b:=nx') (x:=0) (cs:=(iI 8 f).map (AV.int .i64)) (by omega)).trans (p0.trans q0);have r1:=(ae (H:=H3) (b:=nx') (x:=1) (cs:=(iI 8 f).map (AV.int .i64)) (by omega)).trans (p1.trans q1);have r2:=(ae (H:=H3) (b:=nx') (x:=nx) (cs:=(iI 8 f).map (AV.int .i64)) (by omega)).trans (p2.trans q2);have r3:ar H3 nx' ((iI 8 f).map (AV.int .i64)) nx'=some ((iI 8 f).map (AV.int .i64)):=af;generalize ar H3 nx' ((iI 8 f).map (AV.int .i64))=H4 at *;have hek:eK (kZ f)=.agg ((iI 8 f).map (AV.int .i64)):=rfl;have hkf:=Dd (kZ f);rw[hek] at hmf hkf;have hcnt:∀g,my (a.take k) g+(D++[f]).count g=my (a.take k) g+D.count g+if g=f then 1 else 0:=λg=>BW
   by_cases hf:f∈O
   ·rw[if_pos hf] at hmf;have hil:O.idxOf f<O.length:=oh.2 hf
    have hgv:mget .esl true (some (O.idxOf f)) (O.map aF)=.tup [aF (O.getD (O.idxOf f) default),.bool true]:=by
     rw[<-wI hil];rfl
    generalize hKK:(iI 8 f).map (AV.int .i64)=KK at *;refine wnY (zI4 @r1 @r3 @hl16 @ht) ?_;refine CI ev0 r0 ev0 hkf hmf ?_;rw[hgv];refine wnY (zI4 @r1 @r3 @hl16 @ht) ?_;refine KE ev0 r0 ev0 hkf hmf ?_;refine wnY and_self ?_;exact⟨rfl,by omega,by rw[ae (by omega),ae (by omega)];exact r2,af,by rw[ae (by omega),ae (by omega)];exact r1,O.erase f,bs.eraseIdx (O.idxOf f),ck,g5.del hf rfl (by rw[ae (by omega),af];rfl) hcnt⟩
   ·rw[if_neg hf] at hmf;have hgv:mget .esl true none (O.map aF)=.tup [.esl,.bool false]:=rfl;generalize hKK:(iI 8 f).map (AV.int .i64)=KK at *;refine wnY (zI4 @r1 @r3 @hl16 @ht) ?_;refine CI ev0 r0 ev0 hkf hmf ?_;rw[hgv];refine wnY (zI4 @r1 @r3 @hl16 @ht) ?_;refine Jr ev0 r0 ev0 ev0 hkf hmf ?_;refine wnY and_self ?_;exact⟨rfl,by omega,by rw[ae (by omega),ae (by omega)];exact r2,af,by rw[ae (by omega),ae (by omega)];exact r1,O++[f],bs++[ck],ck+1,g5.put hf hfl (by rw[ae (by omega),af,hek];rfl) hcnt⟩
  ·exact⟨aM _,by rw[ae (by omega),af],af,by rw[ae (by omega),ae (by omega)];exact h3,O,bs,ck,h4.same (by rw[ae (by omega),ae (by omega)]) λf=>by simp⟩
  ·rintro r H' nx' ⟨g1,g2,g3,g4,O,bs,ck,g5⟩;refine .inl ⟨g3,?_⟩;refine wnY and_self ?_;exact⟨k+1,by omega,⟨by omega,by omega,by rw[dr (by omega)];exact g4,O,bs,ck,g5.same (dr (by omega)) λf=>by rw[hts,EI,pu.count_eq]⟩,ag0⟩
 rintro T H nx ⟨t3,h2,h3,O,bs,ck,h4⟩
 have hO70:O.length<=300000:=by
  have he:=il hv;have h5:O.length<=(bw a).length:=iU h4.nd λf hf=>(he.2 f).2 ((h4.odd f).1 hf);have:=xB h8;omega
 refine wnY (aI @t3 @h3) ?_;refine IZ ev0 h4.box ?_;refine wnY and_self ?_;have hbn:bs.Nodup:=vL (λ{x y}(h:x<y) e=>by omega) h4.asc;refine lpI (X:=List Nat×List Spx×AV) (λx=>[(10,x.2.2),(40,.itr nx)]) (λx H' nx'=>H' nx=some [.biter 0 ck x.1]/\nx<nx'/\BOk H' n (my a) O bs ck/\x.1.Nodup/\(∀s∈x.1,s∈bs)/\x.2.1=x.1.map (λs=>O.getD (bs.idxOf s) default)/\Row H' 1 x.2.2 (x.2.1.map aF)/\∀b,bX x.2.2=some b->nx<b/\b<nx') (λx=>bs.length-x.1.length) ([],[],.esl) ⟨af,yc _,h4.same (ae (by omega)) λ_=>rfl,List.nodup_nil,λs h=>(by cases h),rfl,Row.nil,λb h=>(by cases h)⟩ ?_;rintro⟨seen,D,sv⟩ H1 nx1 ⟨hit,hnx,k4,hsn,hsb,hD,hrow,hbd⟩;dsimp only at hit hsn hsb hD hrow hbd |-;have hsl:seen.length<=bs.length:=iU hsn hsb;have hDl:D.length=seen.length:=by rw[hD,bm]
 have hbl:=k4.len;refine wnY and_self ?_;refine IJ ev0 hit k4.box (λi s hi hns=>?_) (λhall=>?_)
 ·refine wnY and_self ?_;refine H9 (i:=i) (s:=s) ev0 af (by rw[ae (by omega)];exact k4.box) (by simp) hi ?_;obtain⟨hil,his⟩:=b6.1 hi;have hgx:=wI (O:=O) (i:=i) (by omega)
  have hidx:bs.idxOf s=i:=by
   have h5:=oh.2 (show s∈bs by rw[<-his];exact oe hil);have h6:bs[bs.idxOf s]=bs[i]:=by rw[List.getElem_idxOf h5,his]
   exact(List.getElem_inj hbn).1 h6
  have hsnd:(seen++[s]).Nodup:=zA.2 ⟨hsn,by simp,λx hx y hy e=>by rw[e,cC.1 hy] at hx;exact hns hx⟩
  have hssb:∀x∈seen++[s],x∈bs:=λx hx=>by
   rcases eJ.1 hx with q|q
   ·exact hsb x q
   ·rw[cC.1 q,<-his];exact oe hil
  have hsl2:=iU hsnd hssb;rw[cP,List.length_singleton] at hsl2;refine wnY (zI3 @hgx @be @aX) ?_;refine eR (hrow.same λb hb=>?_) ?_
  ·have:=hbd b hb;rw[ae (by omega),ae (by omega)]
  rintro s2 H2 nx2 hr2 i1 i2 i3 i4;have lo:∀x,x<=nx->H2 x=ar H1 nx [.biter 0 ck (seen++[s])] x:=λx hx=>(i3 x (by omega) (λh=>by have:=hbd x h;omega)).trans (ae (by omega));refine wnY and_self ?_;refine⟨(seen++[s],D++[O.getD i default],s2),by dsimp only;rw[cP,List.length_singleton];omega,⟨(lo nx (aM _)).trans af,by omega,k4.same ((lo 0 (by omega)).trans (ae (by omega))) λ_=>rfl,hsnd,hssb,?_,?_,λb hb=>?_⟩,ag0⟩
  ·dsimp only;rw[hD,dq,List.map_singleton,hidx]
  ·dsimp only;rw[dq];exact hr2
  ·rcases i4 b hb with h|h
   ·have:=hbd b h;omega
   ·omega
 ·have hperm:seen.Perm bs:=(List.perm_ext_iff_of_nodup hsn hbn).2 λx=>⟨hsb x,hall x⟩
  have hDO:D.Perm O:=by
   rw[hD];refine(hperm.map _).trans (List.Perm.of_eq ?_);refine List.ext_getElem (by rw[bm];exact hbl) λj g1 g2=>?_;rw[bm] at g1
   have h5:bs.idxOf bs[j]=j:=by
    have h5:=oh.2 (oe g1);have h6:bs[bs.idxOf bs[j]]=bs[j]:=List.getElem_idxOf h5;exact(List.getElem_inj hbn).1 h6
   rw[List.getElem_map,h5];simp[List.getD,g2]
  have hDn:D.Nodup:=hDO.nodup_iff.2 k4.nd;have hDm:∀s,s∈D↔s∈bw a:=λs=>by rw[hDO.mem_iff,k4.odd,(il hv).2]
  have hfin:=Ij ie (n6 hv)
  have hsort:Abs.Fn Tryz.prog 130 [sv,.func 70 []] H1 nx1 λ_ H' nx'=>Row H' 1 sv ((bw a).map aF):=by
   generalize hcs:D.map aF=cs at hrow;cases hrow with
   |nil=>
    have hD0:D=[]:=List.map_eq_nil_iff.1 hcs;refine Abs.Fn.mono (pW rfl) ?_;rintro _ _ _ ⟨rfl,rfl⟩
    have:bw a=[]:=by
     rw[uo];intro s h;have:=(hDm s).2 h;rw[hD0] at this;cases this
    rw[this];exact Row.nil
   |box b len cs k1 k2=>
    obtain rfl:len=D.length:=by rw[<-hcs,bm] at k2;omega
    have hb:=hbd b rfl;subst hcs;by_cases h0:D.length=0
    ·have hD0:D=[]:=fI.1 h0
     have he:bw a=[]:=by
      rw[uo];intro s h;have:=(hDm s).2 h;rw[hD0] at this;cases this
     have hrw:Row H1 1 (.msl b (D.length*1) 1 0 D.length) ((bw a).map aF):=by
      have:=Row.box (H:=H1) (sz:=1) b D.length _ k1 (by rw[bm,Nat.mul_one]);rw[he];rwa [hD0] at this |-
     refine Abs.Fn.mono (pW (by rw[h0];rfl)) ?_;rintro _ _ _ ⟨_,e⟩;rw[e];exact hrw
    ·have hg:∀s∈D,Shn s:=λs h=>show s.length<=_ by have:=k4.all s (hDO.mem_iff.1 h);omega
     have hsf:=CE Lx (L:=D) (b:=b) (nx:=nx1) (n:=D.length) k1 hb.2 rfl (by omega) hg (by omega);rw[Nat.mul_one];refine Abs.Fn.mono hsf ?_;rintro _ H' nx' ⟨L',ps,p1,p2⟩;have hlen:=p1.length_eq;have:=rW p1 (by rw[hlen];exact p2) hDn hDm;rw[hfin] at this;rw[<-this,<-hlen];have:=Row.box (H:=H') (sz:=1) b L'.length (L'.map aF) ps.at_ (by simp)
     rwa [Nat.mul_one] at this
  refine wnY and_self ?_;refine aQ ev0 ev0 hsort ?_;rintro r H' nx' hr;refine wnY and_self ?_;exact kf hr
theorem v9{a:List Spx}(h:dD a=0):pU 77 [ao a] (ao (bw a)):=by
 obtain⟨h1,h2,h3,h4⟩:=dL h;by_cases h0:a=[]
 ·subst h0;exact tc [] 0 (by omega) (by simp) (by simp) (by simp) (by simp)
 ·have hm:a.getD 0 default∈a:=aA (gY.2 h0);have h5:=cE (h2 _ hm);exact tc a ((a.getD 0 default).length-1) (by omega) h1 (gc h2) (λs hs=>.inl (by rw[h4 s hs];omega)) (Aj h2)
theorem AF{a:List Spx}(h:dD a=0):Shn (bw a)/\∀s∈bw a,s.length<=1000000:=by
 obtain⟨h1,h2,h3,h4⟩:=dL h;have:=xB (Aj h2);exact⟨show _<=_ by omega,uN (nR h2)⟩
theorem C5(a:List Spx)(ha:ShC a):pU 29 [ao a] (.tup [ao (ga a).1,.int .i64 (ga a).2]):=by
 refine pO O6 ?_;simp only[b29,aL];have f1:=qo a ha;unfold ga;by_cases h:dD a=0
 rotate_left
 ·have z:decide (dD a≠0)=true:=a6 h;rw[if_pos h];refine wnY @z ?_;exact dS (.eslsl _) rfl
 rw[if_neg (λq=>q h)];have f2:=v9 h;have f3:=wT (bw a) (AF h).1 (AF h).2;have z:decide ((0:Int)≠0)=false:=rfl;rw[h] at f1
 have hfin:(if 4096<(bw a).length then(([]:List Spx),(5:Int)) else(bw a,0))=(if 4096<(bw a).length then [] else bw a,if 4096<(bw a).length then 5 else 0):=by
  split<;>rfl
 rw[hfin];refine wnY @z ?_;exact dS (bD _).snap rfl
theorem JC(a:List Spx)(ha:ShC a):pU 33 [ao a] (.tup [.bool (E8 a).1,.int .i64 (E8 a).2]):=by
 refine pO PU ?_;simp only[b33,aL];have f1:=qo a ha;unfold E8;by_cases h:dD a=0
 rotate_left
 ·have z:decide (dD a≠0)=true:=a6 h;rw[if_pos h];refine wnY @z ?_;exact GG rfl rfl
 rw[if_neg (λq=>q h)];have f2:=v9 h;have z:decide ((0:Int)≠0)=false:=rfl;have z2:decide ((((bw a).length:Nat):Int)=0)=decide (bw a=[]):=decide_eq_decide.2 (by rw[<-fI];omega);rw[h] at f1;refine wnY (zI3 @z @z2 @ai) ?_;exact GG rfl rfl
theorem Am(l:List Spx)(v:Spx)(hl:Shn l)(hs:∀c∈l,Shn c)(hv:Shn v)(ha:bR bo l):∃b:Nat,pU 80 [ao l,aF v] (.tup [.int .i64 b,.bool (decide (v∈l))])/\(v∈l->b<l.length/\l.getD b default=v):=by
 obtain⟨b,hb,h1,h2⟩:=uv (λi=>bo (l.getD i default) v) l.length (λi j hij hj h=>ie.trans (ec ha hij hj) h);have hc:=Bv l v hl hs hv hb h1 h2
 have he:(decide (b<l.length)&&decide (bo (l.getD b default) v=0))=decide (v∈l)/\(v∈l->b<l.length/\l.getD b default=v):=by
  by_cases hm:v∈l
  ·obtain⟨i,hi,e⟩:=kI hm;have e':l.getD i default=v:=by simp[List.getD,hi,e]
   have hbi:b=i:=by
    rcases so b i with h|h|h
    ·have h3:=h2 b (aM _) (by omega);have h4:=ec ha h hi;rw[e'] at h4;omega
    ·exact h
    ·have h3:=h1 i h;rw[e',gJ] at h3;omega
   subst hbi;rw[a6 hi,a6 hm,e',a6 (gJ v)];exact⟨rfl,λ_=>⟨hi,rfl⟩⟩
  ·rw[ba hm];refine⟨?_,λh=>absurd h hm⟩;by_cases hlt:b<l.length
   ·rw[a6 hlt,Bool.true_and,ba];intro h;exact hm (by rw[<-qf h];exact aA hlt)
   ·rw[ba hlt,Bool.false_and]
 rw[he.1] at hc;refine⟨b,?_,he.2⟩;refine pO Pt ?_;simp only[b80,aL];refine wnZ (zI4 @be @aX @ak @ag) ?_;exact bA (ah (.int _ _) (ah (.bool _) ap))
theorem Fr(c:List Spx)(d:Int)(hd:d<=1000)(hc:c.length<=50)(hs:∀s∈c,Shn s):pU 83 [cl c,.int .i64 d] (.tup [ao (Fj c d).1,.int .i64 (Fj c d).2]):=by
 refine pO Py ?_;simp only[b83,aL];unfold Fj;by_cases h:d<0
 ·have z:decide (d<0)=true:=a6 h;rw[if_pos h];refine wnY (zI3 @z @ak @ag) ?_;exact dS (.eslsl _) rfl
 ·have z:decide (d<0)=false:=ba h;rw[if_neg h];have hS:=lV c (d+1) hc hs;refine wnY (zI3 @z @ak @ag) ?_;exact dS (bD _).snap rfl
theorem Lk(c:List Spx)(d:Int)(hc:c.length<=50)(hs:∀s∈c,Shn s):pU 112 [cl c,.int .i64 d] (.tup [ez (pA c d).1.1 (pA c d).1.2,.int .i64 (pA c d).2]):=by
 refine pO M6 ?_;simp only[MQ,aL];have hcc:=jS c (show _<=_ by omega) hs;unfold pA;by_cases he:aB c=0
 rotate_left
 ·rw[if_pos he];have z:decide (aB c≠0)=true:=a6 he;refine wnY (zI3 @ak @ag @z) ?_;exact kB (.eslsl _) rfl
 rw[if_neg (λh=>h he)];rw[he] at hcc;have z0:decide ((0:Int)≠0)=false:=rfl;by_cases hd:d<0\/8<=d
 ·rw[if_pos hd];have zz:=aI @ak (aI @ag @z0);repeat' (first|refine zW ?_|apply a_n|apply a_r|refine zO ?_|refine vY ?_|refine cY ?_ (hp:=hcc) (hs:=by(first|refine aG ?_ rfl|apply a9);(repeat' (first|exact ap|apply bI|apply bc|exact dt _));first|done|fail)|refine alY ?_|refine bxY ?_|refine stY ?_|refine gTY ?_|refine gFY ?_|refine cTY ?_|refine cFY ?_|(refine zGY ?_ ?_<;>(intro _hg;try (exfalso;omega)))|refine b0 rfl ?_|refine r2Y ?_|fail)
  all_goals first|exact kB (.eslsl _) rfl|(exfalso;omega)
 rw[if_neg hd];have hX:=Fr c d (by omega) hc hs;have hY:=Fr c (d-1) (by omega) hc hs;rw[Dt he (by omega) (by omega)] at hX hY;rw[show d-1+1=d by omega] at hY;have hXl:=nZ (d:=d+1) hc he;have hYl:=nZ (d:=d) hc he;have hXm:=jV (d:=d+1) he;have hYm:=pz (jV (d:=d) he);have hYa:=jD (c:=c) (d:=d);generalize aj c (d+1)=X at *;generalize aj c d=Y at *;have z1:decide (d<0)=false:=ba (by omega);have z2:decide (8<=d)=false:=ba (by omega);have hzc:bH (AV.agg [AV.esl]) Y.length=List.replicate Y.length .esl:=by simp[bH,AV.cells]
 refine wnY (zI6 @ak @ag @ai @z0 @z1 @z2) ?_;refine yW (k1:=.i64) (k2:=.i64) (n:=Y.length) (m:=Y.length) rfl ev0 ev0 (by omega) (Int.le_refl _) (by omega) (by omega) ?_;rw[bN,hzc,Nat.mul_one];refine wnY @ai ?_;refine lpI (X:=Nat×List AV) (λx=>[(4,.ptr 1 2 0),(9,.ptr 2 1 0),(10,.ptr 4 2 0),(56,ao X),(57,.int .i64 X.length),(58,.int .i64 x.1)]) (λx H' nx'=>x.1<=X.length/\5<=nx'/\H' 1=some [.int .i64 0,.esl]/\H' 2=some [ao Y]/\H' 4=some [.int .i64 X.length,.msl 3 Y.length 1 0 Y.length]/\MatOk H' 3 5 nx' Y.length (jZ X Y x.1) x.2) (λx=>X.length-x.1) (0,List.replicate Y.length .esl) ⟨bQ _,aM _,by(repeat rw[ae (by omega)]);rw[af],by(repeat rw[ae (by omega)]);rw[af];rfl,by rw[af];rfl,MatOk.new (by(repeat rw[ae (by omega)]);rw[af]) (λj _=>rfl)⟩ ?_;rintro⟨k,vs⟩ H nx ⟨h1,h2,g1,g2,g4,hmat⟩;dsimp only at h1 h2 g1 g2 g4 hmat |-;by_cases hk:k<X.length
 rotate_left
 ·obtain rfl:k=X.length:=by omega
  have hst:Snap (ar H 1 [.int .i64 X.length,.msl 3 Y.length 1 0 Y.length]) (.msl 3 Y.length 1 0 Y.length) (bK (b7 X Y)):=(hmat.same (hi':=nx) (G:=jZ X Y X.length) (ae (by omega)) (λx x1 x2 x3=>ae (by omega)) (aM _) (λj _=>rfl)).snap;refine wnY (aI @g4 @g1) ?_;exact kB hst rfl
 have ix:=fQ hk;have hsim:=hXm _ (aA hk);have hF:∀i,jZ X Y (k+1) i=jZ X Y k i++if Y.getD i default∈bE (X.getD k default) then [k] else []:=λi=>Eh
 generalize X.getD k default=s at *;obtain⟨p1,p2,p3,p4⟩:=cE hsim;refine wnY @ix ?_;refine aQ ev0 ev0 (wG s _ _) ?_;rintro _ H1 nx1 ⟨rfl,rfl,rfl⟩;refine wnY and_self ?_;refine nX (nx+2) (nx+3) rfl rfl ev0 (λc0 cj hy=>?_);refine Abs.Fn.mono (wq (nx:=nx+3) (y:=nx+2) (sb:=nx+1) (s:=s) (by omega) (λD H' nx'=>nx+3<=nx'/\H' (nx+1)=some [aF s]/\H' (nx+2)=some [c0]/\H' nx=some [.int .i64 (k:Int)]/\H' 1=some [.int .i64 0,.esl]/\H' 2=some [ao Y]/\H' 4=some [.int .i64 X.length,.msl 3 Y.length 1 0 Y.length]/\∃vs,MatOk H' 3 5 nx' Y.length (λi=>jZ X Y k i++if Y.getD i default∈D then [k] else []) vs/\∀j B,j<Y.length->bX (vs.getD j .undef)=some B->B<nx\/nx+3<=B) ?_ ?_ ?_ ?_) ?_
 ·rintro D H' nx' ⟨j1,j2,_⟩;exact j2
 ·rintro D H' H'' n1 n2 ⟨j1,j2,j3,j4,j5,j6,j7,vs,j8,j9⟩ hle hsm;exact⟨by omega,(hsm _ (by omega)).trans j2,(hsm _ (by omega)).trans j3,(hsm _ (by omega)).trans j4,(hsm _ (by omega)).trans j5,(hsm _ (by omega)).trans j6,(hsm _ (by omega)).trans j7,vs,j8.same (hsm _ (by omega)) (λx x1 x2 x3=>hsm x x2) hle (λ_ _=>rfl),j9⟩
 ·rintro D f H' nx' ⟨j1,j2,j3,j4,j5,j6,j7,vs,j8,j9⟩ hlt hfe hDe;refine hy _ _ _ _ j3 rfl ?_;clear hy;have hfm:f∈fcs s:=by rw[hfe];exact aA hlt
  have hfD:f∉D:=λh=>by
   rw[hDe] at h;have hnd:=EV p3;have e:=ci hlt;have h5:=(zA.1 (by rw[<-e];exact hnd.sublist (List.take_sublist _ _):((fcs s).take D.length++[(fcs s).getD D.length default]).Nodup)).2.2 _ h _ (cC.2 rfl);exact h5 hfe
  have hfs:=iq.1 (Dn.1 hfm);have hfn:Shn f:=by show _<=_;omega
  clear hfe hDe hlt hfm;refine wnY and_self ?_;refine⟨j3,?_⟩;have hd:∀x,x≠nx+2->dK H' (nx+2) x=H' x:=λx hx=>dr hx;generalize dK H' (nx+2)=H2 at *;have q2:=(hd 2 (by omega)).trans j6;have q3:=(hd 3 (by omega)).trans j8.box;have q4:=(hd 4 (by omega)).trans j7;have qk:=(hd nx (by omega)).trans j4;obtain⟨p,hpl,hpm⟩:=Am Y f (show _<=_ by omega) hYm hfn hYa;by_cases hin:f∈Y
  rotate_left
  ·rw[ba hin] at hpl;refine wnY (zI3 @q2 @ak @ag) ?_;refine⟨rfl,j1,(ae (by omega)).trans ((hd _ (by omega)).trans j2),af,(ae (by omega)).trans qk,(ae (by omega)).trans ((hd _ (by omega)).trans j5),(ae (by omega)).trans q2,(ae (by omega)).trans q4,vs,j8.same ((ae (by omega)).trans (hd _ (by omega))) (λx x1 x2 x3=>?_) (aM _) (λj hj=>?_),j9⟩
   ·by_cases e:x=nx+2
    ·rw[e,af,j3]
    ·rw[ae e,hd x e]
   ·have hne:Y.getD j default≠f:=λe=>hin (by rw[<-e];exact aA hj)
    congr 1
    exact yF (by rw[eJ,cC];exact⟨λh=>h.resolve_right hne,.inl⟩)
  rw[a6 hin] at hpl;obtain⟨pl1,pl2⟩:=hpm hin;have hFD:jZ X Y k p++(if Y.getD p default∈D then [k] else [])=jZ X Y k p:=by rw[pl2,if_neg hfD,fY]
  have hrow:Row H2 1 (vs.getD p .undef) ((jZ X Y k p).map Bs):=by
   have:=j8.row p pl1;rw[hFD] at this;exact this.same λb hb=>hd b (by have:=j9 p b pl1 hb;omega)
  have hvs:vs[p]?=some (vs.getD p .undef):=by
   have:=j8.len;simp[List.getD,show p<vs.length by omega]
  have hlen:=j8.len
  have hb3:∀b,bX (vs.getD p .undef)=some b->5<=b/\b<nx'/\b≠3/\(b<nx\/nx+3<=b):=λb hb=>by
   have h5:=j8.bnd p b pl1 hb;have h6:=j9 p b pl1 hb;exact⟨h5.1,h5.2.1,h5.2.2,h6⟩
  generalize hrv:vs.getD p .undef=rv at *;refine wnY (zI3 @q2 @ak @ag) ?_;refine B9 4 3 nx q4 q3 qk (by omega) (by omega) (by omega) λS0 hS1 hS2 hS3 hsub=>?_;have hFl:=zf (X:=X) (Y:=Y) (n:=k) (i:=p);refine wnY (zI5 @hS1 @hS2 @hS3 @hvs @hlen) ?_;refine d8 ?_;refine wnY and_self ?_;refine⟨hsub _ (by rw[ae (by omega)];exact q4) (by rw[ae (by omega)];exact q3) (by rw[ae (by omega)];exact qk),?_⟩;refine d8 ?_;refine eR (hrow.same λb hb=>?_) ?_
  ·have:=hb3 b hb;rw[ae (by omega)]
  rintro s2 H4 nx4 hr2 i1 i2 i3 i4;have lo:∀x,x<nx'->bX rv≠some x->H4 x=H2 x:=λx x1 x2=>(i3 x (by omega) x2).trans (ae (by omega));have l3:H4 3=H2 3:=lo 3 (by omega) (λh=>by have:=hb3 _ h;omega);have l4:H4 4=H2 4:=lo 4 (by omega) (λh=>by have:=hb3 _ h;omega);have lk:H4 nx=H2 nx:=lo nx (by omega) (λh=>by have:=hb3 _ h;omega);have lo2:∀x,x<nx+3->5<=x->nx<=x->H4 x=H2 x:=λx x1 x2 x3=>lo x (by omega) (λh=>by have:=hb3 _ h;omega);have lo5:∀x,x<5->H4 x=H2 x:=λx x1=>lo x (by omega) (λh=>by have:=hb3 _ h;omega);obtain⟨o1,o2⟩:=hr2.one;have m3:=l3.trans q3;refine jM ⟨hsub _ (l4.trans q4) m3 (lk.trans qk),?_⟩
  have hlp:bC vs p [s2]=vs.set p s2:=by
   simp only[bC,br,dw,bP];rw[Lh,if_pos (by omega)];simp
  have zz:=aI @m3 (aI @o1 (aI @o2 (aI @hlen @hlp)));repeat' (first|apply a_n|refine zO ?_|refine nvY ?_|apply kg|refine stY ?_|fail)
  have hB2:∀b,bX s2=some b->(bX rv=some b\/nx'<=b)/\b<nx4:=λb hb=>by
   rcases i4 b hb with h|h
   ·exact⟨.inl h,by have:=hb3 b h;omega⟩
   ·exact⟨.inr (by omega),by omega⟩
  have hwd:∀x,x≠3->x≠nx+2->ar (ar H4 3 (vs.set p s2)) (nx+2) [c0] x=H4 x:=λx x1 x2=>by rw[ae x2,ae x1]
  rw[hlp];refine⟨rfl,by omega,?_,af,?_,?_,?_,?_,vs.set p s2,?_,?_⟩
  ·rw[hwd _ (by omega) (by omega),lo2 _ (by omega) (by omega) (by omega),hd _ (by omega)];exact j2
  ·rw[hwd _ (by omega) (by omega),lk];exact qk
  ·rw[hwd _ (by omega) (by omega),lo5 _ (by omega),hd _ (by omega)];exact j5
  ·rw[hwd _ (by omega) (by omega),lo5 _ (by omega)];exact q2
  ·rw[hwd _ (by omega) (by omega),l4];exact q4
  ·refine j8.put (sv:=s2) (x:=k) (i:=p) pl1 (λj hj=>?_) ?_ (λb hb=>?_) (by rw[ae (by omega),af]) (λx x1 x2 x3 x4=>?_) (by omega) (by omega)
   ·by_cases e:j=p
    ·subst e;rw[if_pos rfl,pl2,if_neg hfD,if_pos (lJ _ (cC.2 rfl)),fY]
    ·rw[if_neg e]
     have hne:Y.getD j default ≠ f:=fun h=>e (by
      rcases so j p with h'|h'|h'
      ·have:=ec hYa h' pl1;rw[h,pl2,gJ] at this;omega
      ·exact h'
      ·have:=ec hYa h' hj;rw[h,pl2,gJ] at this;omega)
     congr 1
     exact yF (by rw[eJ,cC];exact⟨λh=>h.resolve_right hne,.inl⟩)
   ·rw[hFD,dq];refine hr2.same λb hb=>hwd b ?_ ?_
    ·have:=hB2 b hb;rcases this.1 with h|h
     ·have:=hb3 b h;omega
     ·omega
    ·have:=hB2 b hb;rcases this.1 with h|h
     ·have:=hb3 b h;omega
     ·omega
   ·rw[hrv];have:=hB2 b hb;rcases this.1 with h|h
    ·exact .inl h
    ·exact .inr ⟨h,this.2,by omega⟩
   ·rw[hrv] at x4;by_cases e:x=nx+2
    ·rw[e,af,j3]
    ·rw[hwd x x3 e,lo x x2 x4,hd x e]
  ·intro j B hj hB;rw[ru (by omega)] at hB;by_cases e:p=j
   ·rw[if_pos e] at hB;have:=hB2 B hB;rcases this.1 with h|h
    ·have:=hb3 B h;omega
    ·omega
   ·rw[if_neg e] at hB;exact j9 j B hj hB
 ·have hlk:bC [AV.int .i64 0] 0 [.int .i64 (k:Int)]=[.int .i64 (k:Int)]:=rfl;have hw:∀x,x≠nx->x≠nx+1->x≠nx+2->ar (ar (ar (ar H nx [.int .i64 0]) nx (bC [.int .i64 0] 0 [.int .i64 (k:Int)])) (nx+1) [aF s]) (nx+2) [c0] x=H x:=λx x1 x2 x3=>by rw[ae x3,ae x2,ae x1,ae x1]
  refine⟨aM _,by rw[ae (by omega),af],af,by rw[ae (by omega),ae (by omega),af];rfl,(hw _ (by omega) (by omega) (by omega)).trans g1,(hw _ (by omega) (by omega) (by omega)).trans g2,(hw _ (by omega) (by omega) (by omega)).trans g4,vs,hmat.same (hw _ (by omega) (by omega) (by omega)) (λx x1 x2 x3=>hw x (by omega) (by omega) (by omega)) (by omega) (λj _=>by simp),λj B hj hB=>by have:=hmat.bnd j B hj hB;omega⟩
 ·rintro r H' nx' ⟨j1,j2,j3,j4,j5,j6,j7,vs2,j8,j9⟩;refine .inl ⟨j3,?_⟩;refine wnY and_self ?_;refine⟨(k+1,vs2),by dsimp only;omega,⟨by dsimp only;omega,by omega,(dr (by omega)).trans j5,(dr (by omega)).trans j6,(dr (by omega)).trans j7,?_⟩,ag0⟩;dsimp only
  have hrows:∀j,j<Y.length->jZ X Y (k+1) j=jZ X Y k j++if Y.getD j default∈fcs s then [k] else []:=λj _=>by
   rw[hF];congr 1;exact yF Dn.symm
  exact⟨(dr (by omega)).trans j8.box,j8.len,λj hj=>by rw[hrows j hj];exact(j8.row j hj).same λb hb=>dr (by have:=j9 j b hj hb;omega),λj B hj hB=>by have:=j8.bnd j B hj hB;exact this,j8.apart⟩
theorem Bu(c a:List Spx)(hc:c.length<=50)(hs:∀s∈c,Shn s)(ha:ShC a):pU 30 [cl c,ao a] (.tup [aH (dF c a).1,.int .i64 (dF c a).2]):=by
 refine pO Pw ?_;simp only[b30,aL];have hcc:=jS c (show _<=_ by omega) hs;have hca:=qo a ha;have z0:decide ((0:Int)≠0)=false:=rfl;unfold dF;by_cases he:aB c=0
 rotate_left
 ·rw[if_pos he];have z:decide (aB c≠0)=true:=a6 he;refine wnY (zI3 @ak @ag @z) ?_;exact kG (.eslsl _) rfl
 rw[if_neg (λh=>h he)];rw[he] at hcc;by_cases h2:dD a=0
 rotate_left
 ·rw[if_pos h2];have z:decide (dD a≠0)=true:=a6 h2;refine wnY (zI4 @ak @ag @z @z0) ?_;exact kG (.eslsl _) rfl
 rw[if_neg (λh=>h h2)];rw[h2] at hca;by_cases h3:a=[]
 ·rw[if_pos h3];subst h3;have al:cT (ao [])=some (.int .i64 0):=rfl;refine wnY (zI4 @ak @ag @al @z0) ?_;exact kG (.eslsl _) rfl
 rw[if_neg h3];have hpos:=gY.2 h3;have z3:decide ((a.length:Int)=0)=false:=ba (by omega);obtain⟨p1,p2,p3,p4⟩:=dL h2;have p5:=cE (p2 _ (aA hpos));have i0:=Cf hpos;have hS:=lV c (bG a) hc hs;unfold fM at hS;rw[if_neg (λh=>h he),if_neg (by unfold bG;omega),bN] at hS;have eL:jb c (bG a)=aj c (bG a):=by unfold aj;rw[if_neg (by unfold bG;omega),bN]
 rw[eL] at hS;have hLs:=pz (jV (d:=(bG a:Nat)) he);have hLl:=nZ (d:=(bG a:Nat)) hc he;have hLa:=jD (c:=c) (d:=(bG a:Nat));generalize aj c (bG a)=L at *;unfold bG at hS;refine wkY (zI7 @ak @ag @ai @az @i0 @z0 @z3) ?_;refine bF (X:=AV×Nat) (λx=>[(8,ao L),(10,x.1),(40,ao a),(41,.int .i64 a.length),(42,.int .i64 x.2)]) (λx H nx=>x.2<=a.length/\(∀i,i<x.2->decide (a.getD i default∈L)=true)/\Row H 1 x.1 ((bu (kO L (a.take x.2))).map (AV.int .i64))/\∀b,bX x.1=some b->b<nx) (λx=>a.length-x.2) (.esl,0) ⟨bQ _,λi h=>absurd h (by omega),Row.nil,λb hb=>(by cases hb)⟩ ag0 ?_;rintro⟨sv,k⟩ H nx ⟨k1,k2,k3,k4⟩;dsimp only at k1 k2 k3 k4 |-;by_cases hk:k<a.length
 rotate_left
 ·rw[ib (by omega)] at k3;rw[if_pos (lf λi hi=>k2 i (by omega))];refine wnY and_self ?_;exact kG k3.snapI rfl
 have ix:=fQ hk;have hsx:=ha.2 _ (aA hk);obtain⟨p,hpl,hpm⟩:=Am L (a.getD k default) (show _<=_ by omega) hLs hsx hLa;by_cases hin:a.getD k default∈L
 rotate_left
 ·rw[ba hin] at hpl
  have hall:¬(a.all λs=>decide (s∈L))=true:=by
   rw[jA hk (ba hin)];decide
  rw[if_neg hall];refine wnY @ix ?_;exact kG (.eslsl _) rfl
 rw[a6 hin] at hpl;obtain⟨p1',p2'⟩:=hpm hin;have hidx:=CK (hLa.nodup ie) p1' p2';have hpt:=E5 (L:=L) hk;rw[hidx] at hpt;have hnl:(bu (kO L (a.take k))).length=k:=by unfold bu kO;rw[bm,bm,gV];omega
 refine wnY @ix ?_;refine eR (k3.same λb hb=>?_) ?_
 ·have:=k4 b hb;rw[ae (by omega)]
 rintro s2 E e hrow hle1 hle2 hsame hb2;refine wnY and_self ?_;refine⟨(s2,k+1),by dsimp only;omega,⟨by dsimp only;omega,λi hi=>?_,?_,λb hb=>?_⟩,ag0⟩
 ·rcases jX.1 hi with h'|rfl
  ·exact k2 i h'
  ·exact a6 hin
 ·dsimp only;rw[hpt,zZ,dq];exact hrow
 ·rcases hb2 b hb with h|h
  ·have:=k4 b h;omega
  ·omega
theorem Ke{n:Nat}{v:List Int}{k:Nat}(h:yY n v k=0):0<=v.getD k default/\v.getD k default<n/\(0<k->v.getD (k-1) default<v.getD k default):=by
 unfold yY at h;split at h
 ·exact absurd h (by decide)
 split at h
 ·exact absurd h (by decide)
 ·rename_i h1 h2;exact⟨by omega,by omega,λh0=>by omega⟩
theorem sI(c:List Spx)(d:Int)(v:List Int)(hc:c.length<=50)(hs:∀s∈c,Shn s)(hv:v.length<=100000):pU 34 [cl c,.int .i64 d,aH v] (.tup [ao (sf c d v).1,.int .i64 (sf c d v).2]):=by
 refine pO O5 ?_;simp only[b34,aL];have hcc:=jS c (show _<=_ by omega) hs;have z0:decide ((0:Int)≠0)=false:=rfl;unfold sf;by_cases he:aB c=0
 rotate_left
 ·rw[if_pos he];have z:decide (aB c≠0)=true:=a6 he;refine wnY (zI3 @ak @ag @z) ?_;exact dS (.eslsl _) rfl
 rw[if_neg (λh=>h he)];rw[he] at hcc;by_cases hd:d<0\/8<=d
 ·rw[if_pos hd];have zz:=aI @ak (aI @ag @z0);repeat' (first|refine zW ?_|apply a_n|apply a_r|refine zO ?_|refine vY ?_|refine cY ?_ (hp:=hcc) (hs:=by(first|refine aG ?_ rfl|apply a9);(repeat' (first|exact ap|apply bI|apply bc|exact dt _));first|done|fail)|refine bxY ?_|refine gTY ?_|refine gFY ?_|refine cTY ?_|refine cFY ?_|(refine zGY ?_ ?_<;>(intro _hg;try (exfalso;omega)))|refine b0 rfl ?_|refine r2Y ?_|fail)
  all_goals first|exact dS (.eslsl _) rfl|(exfalso;omega)
 rw[if_neg hd];have hX:=Fr c d (by omega) hc hs;rw[Dt he (by omega) (by omega)] at hX;have hXl:=nZ (d:=d+1) hc he;have hXm:=jV (d:=d+1) he;generalize aj c (d+1)=X at *;have z1:decide (d<0)=false:=ba (by omega);have z2:decide (8<=d)=false:=ba (by omega);refine wnY (zI5 @ak @ag @z0 @z1 @z2) ?_;refine bF (X:=AV×Nat) (λx=>[(2,aH v),(9,ao X),(11,x.1),(34,aH v),(35,.int .i64 v.length),(36,.int .i64 x.2)]) (λx H nx=>x.2<=v.length/\(∀i,i<x.2->yY X.length v i=0)/\Row H 1 x.1 ((bb X (v.take x.2)).map aF)/\∀b,bX x.1=some b->b<nx) (λx=>v.length-x.2) (.esl,0) ⟨bQ _,λi h=>absurd h (by omega),Row.nil,λb hb=>(by cases hb)⟩ ag0 ?_;rintro⟨sv,k⟩ H nx ⟨k1,k2,k3,k4⟩;dsimp only at k1 k2 k3 k4 |-;by_cases hk:k<v.length
 rotate_left
 ·have hz:ms X.length v=0:=c9 λi hi=>k2 i (by omega);rw[if_neg (λh=>h hz)];rw[ib (by omega)] at k3;have hpl:(bb X v).length=v.length:=by unfold bb;rw[bm]
  have hcp:=w7 (bb X v) (by omega) λs hs=>by
   unfold bb at hs;obtain⟨i,hi,rfl⟩:=bz.1 hs;by_cases hl:i.toNat<X.length
   ·exact uN hXm _ (aA hl)
   ·rw[show X.getD i.toNat default=[] by unfold List.getD;rw[List.getElem?_eq_none (by omega)];rfl];exact bQ _
  obtain⟨Hf,H4,hfz,hsn,hoth⟩:=KW k3;have z6:decide ((k:Int)<v.length)=false:=ba (by omega);refine dJ ?_;have zz:=@z6;repeat' (first|apply a_n|refine zO ?_|refine vY ?_|fail)
  refine dJ ?_;clear zz;have zz:=@z6;repeat' (first|apply a_n|apply a_x|refine zO ?_|refine cFY ?_|fail)
  refine dJ ?_;refine qs Hf H4 [(11,ao (bb X v))] hfz ⟨.inr hsn,trivial⟩ ?_;refine wnY and_self ?_;exact dS (bD _).snap rfl
 have ix:=ixV hk;have hsp:=tZ (n:=X.length) (v:=v) (k:=k)
 have hfin:∀e:Int,e≠0->yY X.length v k=e->(if ms X.length v≠0 then(([]:List Spx),ms X.length v) else(bb X v,0))=([],e):=λe h0 he=>by
  have h5:ms X.length v=e:=by
   unfold ms;rw[di hk k2 (by rw[he];exact h0),he]
  rw[if_pos (by rw[h5];exact h0),h5]
 by_cases g1:v.getD k default<0
 ·rw[if_pos (.inl g1)] at hsp;rw[hfin 2 (by decide) hsp];have z1:decide (v.getD k default<0)=true:=a6 g1;refine wnY (aI @ix @z1) ?_;exact dS (.eslsl _) rfl
 have z3:decide (v.getD k default<0)=false:=ba g1;by_cases g2:(X.length:Int)<=v.getD k default
 ·rw[if_pos (.inr g2)] at hsp;rw[hfin 2 (by decide) hsp];have z4:decide ((X.length:Int)<=v.getD k default)=true:=a6 g2;refine wnY (zI4 @ix @z3 @z4 @ai) ?_;exact dS (.eslsl _) rfl
 have z4:decide ((X.length:Int)<=v.getD k default)=false:=ba g2;rw[if_neg (by omega)] at hsp
 have iw:eY 1 (ao X) (.int .i64 (v.getD k default))=some (.iptr [aF (X.getD (v.getD k default).toNat default)] 0):=by
  rw[sa,if_pos ⟨by omega,by omega⟩]
 have hpt:=Bi (X:=X) hk;have hnl:(bb X (v.take k)).length=k:=by unfold bb;rw[bm,gV];omega
 have hstep:∀ (s2:AV) (E:Hp) (e:Nat),yY X.length v k=0→Row E 1 s2 ((bb X (v.take k)).map aF ++ [aF (X.getD (v.getD k default).toNat default)])→(∀ i,i < k + 1→yY X.length v i=0)∧Row E 1 s2 ((bb X (v.take (k + 1))).map aF):=fun s2 E e hz hr=>⟨fun i hi=>by
  rcases jX.1 hi with h'|rfl
  ·exact k2 i h'
  ·exact hz,by rw[hpt,dq];exact hr⟩
 generalize X.getD (v.getD k default).toNat default=x at *;by_cases hk0:0<k
 rotate_left
 ·rw[if_neg (λh=>hk0 h.1)] at hsp;have zk:decide (0<(k:Int))=false:=ba (by omega);refine wnY (zI8 @ix @iw @z3 @z4 @zk @ai @be @aX) ?_;refine eR (k3.same λb hb=>?_) ?_
  ·have:=k4 b hb;rw[ae (by omega)]
  rintro s2 E e hrow hle1 hle2 hsame hb2;refine wnY and_self ?_
  exact ⟨(s2,k + 1),by dsimp only; omega,⟨by dsimp only; omega,(hstep s2 E e hsp hrow).1,(hstep s2 E e hsp hrow).2,fun b hb=>by
   rcases hb2 b hb with h|h
   ·have:=k4 b h;omega
   ·omega⟩,ag0⟩
 have zk:decide (0<(k:Int))=true:=a6 (by omega)
 have iy:eY 1 (aH v) (.int .i64 ((k:Int)-1))=some (.iptr [.int .i64 (v.getD (k-1) default)] 0):=by
  have:=ixV (l:=v) (k:=k-1) (by omega)
  rwa [show((k-1:Nat):Int)=(k:Int)-1 by omega] at this
 by_cases g3:v.getD k default<=v.getD (k-1) default
 ·rw[if_pos ⟨hk0,g3⟩] at hsp;rw[hfin 14 (by decide) hsp];have z5:decide (v.getD k default<=v.getD (k-1) default)=true:=a6 g3;refine wnY (zI7 @ix @iy @z3 @z4 @zk @z5 @ai) ?_;exact dS (.eslsl _) rfl
 ·rw[if_neg (λh=>g3 h.2)] at hsp;have z5:decide (v.getD k default<=v.getD (k-1) default)=false:=ba g3;refine wnY (dH @ix @iy @iw @z3 @z4 @zk @z5 @ai @be @aX) ?_;refine eR (k3.same λb hb=>?_) ?_
  ·have:=k4 b hb;rw[ae (by omega)]
  rintro s2 E e hrow hle1 hle2 hsame hb2;refine wnY and_self ?_
  exact ⟨(s2,k + 1),by dsimp only; omega,⟨by dsimp only; omega,(hstep s2 E e hsp hrow).1,(hstep s2 E e hsp hrow).2,fun b hb=>by
   rcases hb2 b hb with h|h
   ·have:=k4 b h;omega
   ·omega⟩,ag0⟩
theorem u9(l m:List Int)(hl:l.length<=1000000)(hm:m.length<=1000000):pU 17 [aH l,aH m] (.bool (decide (l=m))):=by
 refine pO Pp ?_;simp only[b17,aL]
 repeat' (first|refine zW ?_|apply a_n|apply a_r|refine zO ?_|refine vZ ?_|(refine zGZ ?_ ?_<;>(intro _hg;try (exfalso;omega)))|refine b0 rfl ?_|refine r1Z ?_|fail)
 ·refine ct ?_
  symm;rw[decide_eq_false_iff_not];rintro rfl;omega
 refine np (X:=Nat) (λk=>[(0,aH l),(1,aH m),(12,.int .i64 l.length),(13,.int .i64 k)]) (λk=>k<=l.length/\∀i,i<k->l.getD i default=m.getD i default) (λk=>l.length-k) 0 ⟨bQ _,by simp⟩ ag0 ?_;rintro k ⟨h1,h2⟩
 repeat' (first|refine zW ?_|apply a_n|apply a_x|apply a_r|refine zO ?_|refine vZ ?_|(refine zGZ ?_ ?_<;>(intro _hg;try (exfalso;omega)))|refine b0 rfl ?_|refine r1Z ?_|fail)
 ·refine ct ?_
  symm;rw[decide_eq_false_iff_not];rintro rfl;exact absurd rfl ‹_›
 ·refine⟨k+1,⟨by omega,λi hi=>?_⟩,by omega,ag0,rfl,rfl⟩;rcases jX.1 hi with h|rfl
  ·exact h2 i h
  ·omega
 ·refine ct ?_
  symm;rw[yy]
  refine List.ext_getElem (by omega) (λi h3 h4=>?_);have:=h2 i (by omega);simpa[List.getD,h3,h4] using this
end
theorem wB{a:List Spx}(h:a.length<=1000000)(hs:∀s∈a,bT s=0):ShC a:=⟨show _<=_ by omega,pz hs⟩
theorem B4{s:Spx}:(bE s).length<=s.length:=by
 rw[<-pu.length_eq];unfold fcs;split
 ·exact bQ _
 ·rw[sF];exact aM _
theorem tR:∀(a o:List Spx),(∀s∈a,s.length<=8)->(li a o).length<=o.length+a.length*8
 |[],o,_=>Nat.le_add_right _ _
 |s::a,o,h=>by
  have h1:=tR a (eO bo o (bE s)) λt ht=>h t (dy _ ht);have h2:=sC (K:=bo) (a:=o) (b:=bE s);have h3:=B4 (s:=s);have h4:=h s cz;show(li a (eO bo o (bE s))).length<=_;rw[br];omega
theorem ue{a:List Spx}(h:∀s∈a,s.length<=8):(bw a).length<=a.length*8:=by
 have:=tR a [] h;rw[dw,bP] at this;exact this
def Lz(a b:List Spx):Prop:=¬(0<a.length/\0<b.length/\(a.getD 0 default).length≠(b.getD 0 default).length)
theorem Iq{a b:List Spx}(h1:dD a=0)(h2:dD b=0)(h3:Lz a b)(h4:a.length+b.length<=4096):DN a b=(eO bo a b,0):=by
 have:=sC (K:=bo) (a:=a) (b:=b);unfold DN;rw[if_neg (λh=>h h1),if_neg (λh=>h h2),if_neg h3,if_neg (by omega)]
theorem HY{a b:List Spx}{n:Nat}(h1:∀s∈a,s.length=n)(h2:∀s∈b,s.length=n):Lz a b:=λ⟨e1,e2,e3⟩=>e3 (by rw[h1 _ (aA e1),h2 _ (aA e2)])
theorem EU{a:List Spx}(ha:dD a=0)(hl:a.length<=500):dD (bw a)=0:=by
 obtain⟨p1,p2,p3,p4⟩:=dL ha;have:=ue (Aj p2);exact Cp (by omega) (nR p2) (n6 (gc p2)) (xu (gc p2) p4)
theorem Fb{a:List Spx}(ha:dD a=0)(hl:a.length<=500):ga a=(bw a,0):=by
 have:=ue (Aj (dL ha).2.1);unfold ga;rw[if_neg (λh=>h ha),if_neg (by omega)]
theorem nw:∀(n:Nat)(a b:List Int),a.length+b.length<=n->bd a->bd b->(bV a b).length+2*(a.filter λx=>decide (x∈b)).length=a.length+b.length
 |_,[],b,_,_,_=>by rw[kN];simp
 |_,x::a,[],_,_,_=>by
  rw[gB,IK.2 (λz _=>by simp)];rfl
 |0,x::a,y::b,h,_,_=>by simp only[br] at h;omega
 |n+1,x::a,y::b,h,ha,hb=>by
  simp only[br] at h |-;obtain⟨a1,a2⟩:=im.1 ha;obtain⟨b1,b2⟩:=im.1 hb;rw[pi];by_cases g1:x<y
  ·have hx:x∉y::b:=λq=>by
     rcases dg.1 q with rfl|q
     ·omega
     ·have:=b1 x q;omega
   have ih:=nw n a (y::b) (by simp only[br];omega) a2 hb;rw[if_pos g1,br,vU (by simpa using hx)];simp only[br] at ih;omega
  rw[if_neg g1];by_cases g2:y<x
  ·have hf:(x::a).filter (λz=>decide (z∈y::b))=(x::a).filter λz=>decide (z∈b):=by
     refine List.filter_congr λz hz=>decide_eq_decide.2 ?_;rw[dg];refine⟨λh=>h.resolve_left ?_,.inr⟩;rintro rfl;rcases dg.1 hz with rfl|hz
     ·omega
     ·have:=a1 z hz;omega
   have ih:=nw n (x::a) b (by simp only[br];omega) ha b2;rw[if_pos g2,br,hf];simp only[br] at ih;omega
  rw[if_neg g2];obtain rfl:x=y:=by omega
  have hf:a.filter (λz=>decide (z∈x::b))=a.filter λz=>decide (z∈b):=by
   refine List.filter_congr λz hz=>decide_eq_decide.2 ?_;rw[dg];refine⟨λh=>h.resolve_left ?_,.inr⟩;rintro rfl;have:=a1 z hz;omega
  have ih:=nw n a b (by omega) a2 b2;rw[vW (by simp),br,hf];omega
theorem r7{a b:List Int}(ha:a.Nodup)(hb:b.Nodup):(a.filter λx=>decide (x∈b)).length=(b.filter λx=>decide (x∈a)).length:=
 ((List.perm_ext_iff_of_nodup (ha.sublist x7) (hb.sublist x7)).2 fun x=>by
  simp only[eG,iB];exact And.comm).length_eq
theorem bd.nodup{l:List Int}(h:bd l):l.Nodup:=vL (λ{x y}(h:x<y) e=>by omega) h
theorem Ex{l:List Nat}{n:Nat}:(n:Int)∈bu l↔n∈l:=by
 unfold bu;rw[bz];exact⟨λ⟨m,h1,h2⟩=>by rwa [<-(by omega:m=n)],λh=>⟨n,h,rfl⟩⟩
theorem fe{l:List Nat}{x:Int}:x∈bu l↔ ∃i:Nat,i∈l/\(i:Int)=x:=by unfold bu;exact bz
theorem du{l:List Nat}(h:l.Pairwise (· < ·)):bd (bu l):=by
 unfold bu bd;rw[List.pairwise_map];exact vL (λ{a b}(h:a<b)=>by omega) h
theorem tH{X Y:List Spx}{n i:Nat}:(jZ X Y n i).Pairwise (· < ·):=List.pairwise_lt_range.sublist x7
theorem yX{X Y:List Spx}{n i j:Nat}:j∈jZ X Y n i↔j<n/\Y.getD i default∈bE (X.getD j default):=by
 unfold jZ;simp only[eG,dE,iB]
theorem eV{X Y:List Spx}:(b7 X Y).length=Y.length:=by unfold b7;simp
theorem Hd{X Y:List Spx}{i:Nat}(h:i<Y.length):(b7 X Y).getD i default=bu (jZ X Y X.length i):=by
 unfold b7;simp[List.getD,h]
theorem lW{X Y:List Spx}(hX:X.length<=4096)(hY:Y.length<=4096):hU X.length (b7 X Y):=by
 refine⟨by omega,by omega,by rw[eV];exact hY,λr hr=>?_⟩;unfold b7 at hr;obtain⟨i,hi,rfl⟩:=bz.1 hr;refine⟨λv hv=>?_,?_,vn (du tH)⟩
 ·unfold bu at hv;obtain⟨j,hj,rfl⟩:=bz.1 hv;have:=(yX.1 hj).1;omega
 ·unfold bu;rw[bm];exact fK zf hX
def ja(a b:List Int):Bool:=decide ((a.length+b.length-(bV a b).length)/2%2=1)
def ee(R:List (List Int))(x:List Int):List Nat:=(List.range R.length).filter λi=>ja (R.getD i default) x
theorem ve{X:List Spx}(hX:∀s∈X,bR cu s){f:Spx}:∀{w:List Nat},(∀j∈w,j<X.length)->(w.filter λj=>decide (f∈bE (X.getD j default))).length=my (w.map λj=>X.getD j default) f
 |[],_=>rfl
 |j::w,h=>by
  have ih:=ve hX (f:=f) (w:=w) λi hi=>h i (dy _ hi);have hn:=qe (hX _ (aK (h j cz)));rw[ew,qU];by_cases hf:f∈bE (X.getD j default)
  ·have h1:=List.count_pos_iff.2 hf;have h2:=List.nodup_iff_count.1 hn f;rw[vW (by simpa using hf),br,ih];omega
  ·rw[vU (by simpa using hf),ih,Jf hf,bP]
theorem Ev{X Y:List Spx}(hX:∀s∈X,bR cu s){w:List Nat}(hw:w.Pairwise (· < ·))(hb:∀j∈w,j<X.length){i:Nat}:i∈ee (b7 X Y) (bu w)↔i<Y.length/\Y.getD i default∈bw (w.map λj=>X.getD j default):=by
 have hsub:∀s∈w.map (λj=>X.getD j default),bR cu s:=λs hs=>by
  obtain⟨j,hj,rfl⟩:=bz.1 hs;exact hX _ (aK (hb j hj))
 unfold ee;rw[eG,dE,eV];refine and_congr_right λhi=>?_;rw[Hd hi,(il hsub).2,<-ve hX hb];have h1:=nw _ _ _ (aM _) (du (tH (X:=X) (Y:=Y) (n:=X.length) (i:=i))) (du hw);have h2:=r7 (du (tH (X:=X) (Y:=Y) (n:=X.length) (i:=i))).nodup (du hw).nodup
 have h3:((bu w).filter λx=>decide (x∈bu (jZ X Y X.length i))).length=(w.filter λj=>decide (Y.getD i default∈bE (X.getD j default))).length:=by
  rw[show bu w=w.map λ(n:Nat)=>(n:Int) from rfl,List.filter_map,bm]
  congr 1
  refine List.filter_congr λj hj=>?_;show decide ((j:Int)∈bu _)=_;refine decide_eq_decide.2 ?_;rw[Ex,yX];exact⟨λh=>h.2,λh=>⟨hb j hj,h⟩⟩
 unfold ja;rw[iB];omega
theorem jE{Y:List Spx}{f:Spx}(h:f∈Y):Y.idxOf f<Y.length/\Y.getD (Y.idxOf f) default=f:=by
 have hl:=oh.2 h;exact⟨hl,by simp[List.getD,hl]⟩
theorem xq{Y:List Spx}(hY:Y.Nodup){i:Nat}(h:i<Y.length):Y.idxOf (Y.getD i default)=i:=by
 have h1:=jE (aK h);have e1:Y[Y.idxOf (Y.getD i default)]'h1.1=Y[i]:=(List.getElem_idxOf h1.1).trans (by simp[List.getD,h]);exact(List.getElem_inj hY).1 e1
theorem EP{Y a:List Spx}(hY:bR bo Y)(ha:bR bo a)(h:∀s∈a,s∈Y):(a.map λs=>Y.idxOf s).Pairwise (· < ·):=by
 rw[List.pairwise_map];refine List.Pairwise.imp_of_mem (λ{s t} hs ht hst=>?_) ha;obtain⟨h1,h2⟩:=jE (h s hs);obtain⟨h3,h4⟩:=jE (h t ht);rcases so (Y.idxOf s) (Y.idxOf t) with q|q|q
 ·exact q
 ·rw[q,h4] at h2;subst h2;exact absurd hst (ie.ord.irr _)
 ·have:=ec hY q h1;rw[h2,h4] at this;exact absurd hst (ie.ord.asym _ _ this)
theorem BR{X Y:List Spx}(hX:∀s∈X,bR cu s)(hY:bR bo Y){w:List Nat}(hw:w.Pairwise (· < ·))(hb:∀j∈w,j<X.length)(hin:∀s∈bw (w.map λj=>X.getD j default),s∈Y):
    bu (ee (b7 X Y) (bu w))=bu ((bw (w.map λj=>X.getD j default)).map λs=>Y.idxOf s):=by
 have hsub:∀s∈w.map (λj=>X.getD j default),bR cu s:=λs hs=>by
  obtain⟨j,hj,rfl⟩:=bz.1 hs;exact hX _ (aK (hb j hj))
 refine DZ (du (List.pairwise_lt_range.sublist x7)) (du (EP hY (n6 hsub) hin)) λx=>?_;rw[fe,fe];refine exists_congr λi=>and_congr_left λ_=>?_;rw[Ev hX hw hb,bz]
 exact ⟨fun ⟨h1,h2⟩=>⟨_,h2,xq (hY.nodup ie) h1⟩,fun ⟨s,h1,h2⟩=>by
  obtain⟨h3,h4⟩:=jE (hin s h1);rw[<-h2,h4];exact⟨h3,h1⟩⟩
def trF(R:List (List Int))(n q:Nat):List Nat:=(List.range n).filter λi=>decide ((q:Int)∈R.getD i default)
theorem F4{R:List (List Int)}{n q:Nat}:trF R (n+1) q=trF R n q++if (q:Int)∈R.getD n default then [n] else []:=by
 unfold trF;rw[List.range_succ,yw]
 congr 1
 by_cases h:(q:Int)∈R.getD n default
 ·rw[if_pos h,vW (by simpa using h)];rfl
 ·rw[if_neg h,vU (by simpa using h)];rfl
theorem Dc{R:List (List Int)}{n q:Nat}:(trF R n q).length<=n:=by
 unfold trF;exact fK (List.length_filter_le _ _) (by simp)
def trL(c:Nat)(R:List (List Int)):List (List Int):=(List.range c).map λq=>bu (trF R R.length q)
theorem jc(v:Int)(ks:List Int):dA (.one .int) (.int .i64 v) (ks.map (AV.int .i64))=some (if v∈ks then some (ks.idxOf v) else none):=
 nU _ (AV.int .i64) (λa b=>rfl) v ks
theorem OJ(v:Int):∀{l:List Int},bd l->∃b,b<=l.length/\(∀i,i<b->l.getD i default<v)/\∀i,b<=i->i<l.length->v<=l.getD i default
 |[],_=>⟨0,aM _,λi h=>absurd h (by omega),λi _ h=>absurd h (by simp)⟩
 |x::l,h=>by
  obtain⟨h1,h2⟩:=im.1 h;by_cases hx:x<v
  ·obtain⟨b,b1,b2,b3⟩:=OJ v h2;refine⟨b+1,by simp;omega,λi hi=>?_,λi hi hl=>?_⟩
   ·match i with
    |0=>exact hx
    |i+1=>exact b2 i (by omega)
   ·match i with
    |0=>omega
    |i+1=>exact b3 i (by omega) (by simp at hl;omega)
  ·refine⟨0,bQ _,λi h=>absurd h (by omega),λi _ hl=>?_⟩
   match i with
   |0=>show v<=x;omega
   |i+1=>
    have:=h1 (l.getD i default) (aA (by simp at hl;omega));show v<=l.getD i default;omega
theorem Kl{v:Int}{l:List Int}{b:Nat}(h1:∀i,i<b->l.getD i default<v)(h2:∀i,b<=i->i<l.length->v<=l.getD i default)(ha:bd l):(decide (b<l.length)&&decide (l.getD b default=v))=decide (v∈l):=by
 by_cases hm:v∈l
 ·obtain⟨i,hi,e⟩:=kI hm;have e':l.getD i default=v:=by simp[List.getD,hi,e]
  have hbi:b=i:=by
   rcases so b i with h|h|h
   ·have h3:=h2 b (aM _) (by omega);have h4:=kE.1 ha b i (by omega) hi h;have e5:l.getD b default=l[b]:=by simp[List.getD,show b<l.length by omega]
    omega
   ·exact h
   ·have:=h1 i h;omega
  subst hbi;rw[a6 hi,a6 hm,a6 e'];rfl
 ·rw[ba hm];by_cases hlt:b<l.length
  ·rw[a6 hlt,Bool.true_and,ba];intro h;exact hm (by rw[<-h];exact aA hlt)
  ·rw[ba hlt,Bool.false_and]
def BL(c n:Nat)(x:Ln):Prop:=(∀z∈x.1,0<=z/\z<(c:Int))/\∀j∈x.2,0<=j/\j<(n:Int)
theorem eT{a:List Int}{c:Nat}(ha:bd a)(h:∀z∈a,0<=z/\z<(c:Int)):a.length<=c:=by
 have hn:a.Nodup:=vL (λ{x y}(q:x<y) e=>by omega) ha
 have:=Ap hn (l₂:=(List.range c).map λ(k:Nat)=>(k:Int)) λz hz=>by
  have:=h z hz;exact bz.2 ⟨z.toNat,dE.2 (by omega),by show((z.toNat:Nat):Int)=z;omega⟩
 simpa using this
theorem BL.len{c n:Nat}{x:Ln}(h:BL c n x)(ha:cr x):x.1.length<=c/\x.2.length<=n:=⟨eT ha.1 h.1,eT ha.2 h.2⟩
theorem BL.add{c n:Nat}{x l:Ln}(hx:BL c n x)(hl:BL c n l)(ax:cr x)(al:cr l):BL c n (eD x l):=by
 refine⟨λz hz=>?_,λz hz=>?_⟩
 ·rcases(cW ax.1 al.1).1 hz with q|q
  ·exact hx.1 z q.1
  ·exact hl.1 z q.1
 ·rcases(cW ax.2 al.2).1 hz with q|q
  ·exact hx.2 z q.1
  ·exact hl.2 z q.1
theorem BX{c n:Nat}{p:Ln->Bool}:∀{M:List Ln}{x:Ln},(∀l∈M,cr l/\BL c n l)->cr x->BL c n x->BL c n (rdL M p x)
 |[],_,_,_,h=>h
 |l::M,x,hM,hx,h=>by
  unfold rdL;rw[List.foldl_cons];have hl:=hM l cz;have hM':=λm hm=>hM m (dy _ hm);show BL c n (rdL M p (if p l=true then eD x l else x));split
  ·exact BX hM' (fq hx hl.1) (h.add hl.2 hx hl.1)
  ·exact BX hM' hx h
theorem An:∀{i:Nat}{a b:List Int},i<=a.length->(∀j,j<i->∀z∈b,a.getD j default<z)->∀j,j<i->(bV a b).getD j default=a.getD j default
 |0,_,_,_,_,j,hj=>absurd hj (by omega)
 |i+1,[],_,h,_,_,_=>absurd h (by simp)
 |i+1,x::a,[],h,_,j,_=>by rw[gB]
 |i+1,x::a,y::b,h,hz,j,hj=>by
  have h0:x<y:=hz 0 (by omega) y cz;rw[pi,if_pos h0]
  match j with
  |0=>rfl
  |j+1=>exact An (i:=i) (a:=a) (b:=y::b) (by simpa using h) (λk hk z hz'=>hz (k+1) (by omega) z hz') j (by omega)
theorem xE:∀{i:Nat}{a b:List Int},i<=a.length->(∀j,j<i->∀z∈b,a.getD j default<z)->i<=(bV a b).length
 |0,_,_,_,_=>bQ _
 |i+1,[],_,h,_=>absurd h (by simp)
 |i+1,x::a,[],h,_=>by rw[gB];exact h
 |i+1,x::a,y::b,h,hz=>by
  have h0:x<y:=hz 0 (by omega) y cz;rw[pi,if_pos h0,br];have:=xE (i:=i) (a:=a) (b:=y::b) (by simpa using h) (λk hk z hz'=>hz (k+1) (by omega) z hz');omega
theorem EW{M:List Ln}{p q:Ln->Bool}{l:Ln}(h:∀m∈M,q m=true->p m=true)(hl:l∈M)(h1:p l=true)(h2:q l=false):M.countP q<M.countP p:=by
 induction M with
 |nil=>cases hl
 |cons m M ih=>
  rw[List.countP_cons,List.countP_cons];have hle:M.countP q<=M.countP p:=List.countP_mono_left λx hx=>h x (dy _ hx);rcases dg.1 hl with rfl|hl
  ·rw[if_pos h1,if_neg (by rw[h2];decide)];omega
  ·have:=ih (λx hx=>h x (dy _ hx)) hl;have h3:=h m cz;by_cases hq:q m=true
   ·rw[if_pos hq,if_pos (h3 hq)];omega
   ·rw[if_neg hq];split<;>omega
def nL(M:List Ln)(x:Ln):Nat:=M.countP λl=>decide (ld l.1∈x.1)
theorem Lq{M:List Ln}{x l:Ln}(hM:RedU M)(hx:cr x)(hl:l∈M)(h:ld l.1∈x.1):nL M (eD x l)<nL M x:=by
 have hla:=hM.asc l hl;refine EW (l:=l) (λm hm hq=>?_) hl (a6 h) (ba λhq=>?_)
 ·have hq:=oa hq;refine a6 ?_;rcases(cW hx.1 hla.1).1 hq with q|q
  ·exact q.1
  ·have:=hM.own m hm l hl q.1;rw[<-this];exact h
 ·rcases(cW hx.1 hla.1).1 hq with q|q
  ·exact q.2 (dl (hM.ne l hl))
  ·exact q.2 h
def b8(M:List Ln):List Int:=M.map λl=>ld l.1
def fk(x:Ln):AV:=.agg [aH x.1,aH x.2]
def LM(H:Hp)(m:Nat)(M:List Ln):Prop:=H m=some [.omap ((b8 M).map (AV.int .i64)) (M.map fk)]
theorem wL{M:List Ln}{v:Int}(h:v∈b8 M):∃l∈M,ld l.1=v/\(M.map fk).getD ((b8 M).idxOf v) .undef=fk l:=by
 have hi:=oh.2 h;have h2:(b8 M)[(b8 M).idxOf v]=v:=List.getElem_idxOf hi;generalize (b8 M).idxOf v=i at *;have hi':i<M.length:=by unfold b8 at hi;simpa using hi
 refine⟨M[i],oe hi',?_,?_⟩
 ·have h3:(b8 M)[i]'hi=ld M[i].1:=List.getElem_map ..;rw[<-h3];exact h2
 ·simp[List.getD,hi']
theorem nS{M:List Ln}{v:Int}:v∈b8 M↔ ∃l∈M,ld l.1=v:=by unfold b8;rw[bz]
theorem LA{T:Tm}{S:Hp}{m:Nat}{ks:List Int}{vs:List AV}{mo ko:Opd}{v:Int}{z:AV}{ok:Bool}(h1:ov T mo=.mp m)(h2:S m=some [.omap (ks.map (AV.int .i64)) vs])(h3:ov T ko=.int .i64 v):ilk T S (.mget (.one .int) z ok mo ko)=some (Go.Abs.mget z ok (if v∈ks then some (ks.idxOf v) else none) vs):=by
 show lkS _ _ _ (ov T mo) (ov T ko) S=_;rw[h1,h3];simp only[lkS,h2,jc];rfl
def cLs(l:List Ln):List AV:=l.flatMap λx=>[aH x.1,aH x.2]
def mQ(l:List Ln):AV:=iA 2 fk l
theorem G3{l:List Ln}{x:Ln}:cLs (l++[x])=cLs l++[aH x.1,aH x.2]:=by unfold cLs;simp
theorem Du{l:List Ln}:(cLs l).length=l.length*2:=by
 induction l with
 |nil=>rfl
 |cons x l ih=>show([aH x.1,aH x.2]++cLs l).length=_;rw[cP,ih,br];simp;omega
theorem IA{l:List Ln}:cLs l=(l.map fk).flatMap AV.cells:=by
 induction l with
 |nil=>rfl
 |cons x l ih=>show [aH x.1,aH x.2]++cLs l=_;rw[ih];rfl
theorem I0{H:Hp}{s:AV}{l:List Ln}(h:Row H 2 s (cLs l)):Snap H s (mQ l):=by
 refine Row.snap (elems:=l.map fk) (by rw[<-IA];exact h) (λy hy=>?_) (by omega) (λy hy c hx=>?_)
 ·obtain⟨n,_,rfl⟩:=bz.1 hy;rfl
 ·obtain⟨n,_,rfl⟩:=bz.1 hy;simp only[fk,AV.cells,dg,List.not_mem_nil,or_false] at hx;rcases hx with rfl|rfl<;>exact dp _
theorem zU{M:List Ln}(hM:RedU M):(b8 M).Nodup:=by
 unfold b8;refine List.pairwise_map.2 (List.Pairwise.imp_of_mem (λ{x y} hx hy hne e=>?_) hM.nodup);have:=dl (hM.ne y hy);rw[<-e] at this;exact hne (hM.own x hx y hy this).symm
def vsS(M:List Ln)(y:Ln)(seen:List Nat):List AV:=(List.range M.length).map λi=>fk (if i∈seen then jW y (M.getD i default) else M.getD i default)
theorem Ia{M:List Ln}{y:Ln}:vsS M y []=M.map fk:=by
 refine List.ext_getElem (by simp[vsS]) λi h1 h2=>?_;have h2:i<M.length:=by simpa using h2
 simp[vsS,List.getD,h2]
theorem Cr{M:List Ln}{y:Ln}{seen:List Nat}{i:Nat}(hi:i<M.length)(h:i∉seen):(vsS M y seen).getD i .undef=fk (M.getD i default):=by
 simp[vsS,List.getD,hi,h]
theorem Dr{M:List Ln}{y:Ln}{seen:List Nat}{i:Nat}:(vsS M y seen).set i (fk (jW y (M.getD i default)))=vsS M y (seen++[i]):=by
 refine List.ext_getElem (by simp[vsS]) λj h1 h2=>?_;have h2:j<M.length:=by simpa[vsS] using h2
 rw[List.getElem_set];by_cases e:i=j
 ·subst e;simp[vsS]
 ·have e':¬j=i:=λh=>e h.symm;simp[vsS,e,e']
theorem Gr{M:List Ln}{y:Ln}{seen:List Nat}{i:Nat}(hi:i<M.length)(hs:i∉seen)(h:ld y.1∉(M.getD i default).1):vsS M y (seen++[i])=vsS M y seen:=by
 rw[<-Dr,show jW y (M.getD i default)=M.getD i default by unfold jW;rw[if_neg h],<-Cr (y:=y) hi hs];refine List.ext_getElem (by simp) λj h1 h2=>?_;rw[List.getElem_set];split
 ·rename_i e;subst e;simp[List.getD,h2]
 ·rfl
theorem IV{M:List Ln}{y:Ln}{seen:List Nat}(h:∀i,i<M.length->i∈seen):vsS M y seen=(M.map (jW y)).map fk:=by
 refine List.ext_getElem (by simp[vsS]) λi h1 h2=>?_;have h2:i<M.length:=by simpa using h2
 simp[vsS,List.getD,h2,h i h2]
theorem BH{R:List (List Int)}{c k:Nat}(hR:∀r∈R,bd r)(hv:∀r∈R,∀z∈r,0<=z/\z<(c:Int))(hk:k<=R.length):∀l∈(stE R k).1,BL c R.length l:=λl hl=>by
 have hs:=eI hR hk;refine⟨fE (λr hr=>hR r (lm hr)) (λr hr=>hv r (lm hr)) (hs.inS l hl),λj hj=>?_⟩;have:=(hs.ok l hl).2 j hj;omega
theorem yI{R:List (List Int)}(hR:∀r∈R,bd r){k:Nat}(hk:k<=R.length):(stE R k).1.length<=k/\(stE R k).2.length<=k:=by
 have:=(eI hR hk).len;omega
theorem IX{l:List Int}(h:l≠[]):eY 1 (aH l) (.int .i64 0)=some (.iptr [.int .i64 (ld l)] 0):=by
 have:=ixV (l:=l) (k:=0) (gY.2 h);exact this
theorem AD{M:List Ln}{y:Ln}(hM:RedU M)(hy:cr y)(h0:y.1≠[])(hn:∀l∈M,ld l.1∉y.1):b8 (M.map (jW y))=b8 M:=by
 unfold b8;rw[List.map_map];exact o0 λl hl=>(uZ hM hy h0 hn hl).2.2.2
theorem G1{M:List Ln}(hM:RedU M){l:Ln}{v:Int}(hl:l∈M)(e:ld l.1=v):(M.find? λl=>decide (ld l.1=v))=some l:=by
 cases h:M.find? λl=>decide (ld l.1=v) with
 |none=>
  have:=List.find?_eq_none.1 h l hl;exact absurd (a6 e) this
 |some m=>
  have h1:=oa (List.find?_some (p:=λl:Ln=>decide (ld l.1=v)) h);have h2:=List.mem_of_find?_eq_some h;have:=dl (hM.ne m h2);rw[h1,<-e] at this;rw[hM.own l hl m h2 this]
theorem BN{M:List Ln}{v:Int}(h:v∉b8 M):(M.find? λl=>decide (ld l.1=v))=none:=
 List.find?_eq_none.2 λl hl hd=>h (nS.2 ⟨l,hl,oa hd⟩)
theorem Bc{M:List Ln}{c:Nat}:(mC M c).length<=c:=by
 induction c with
 |zero=>simp[mC]
 |succ c ih=>
  rw[qR,cP];have:(M.find? λl=>decide (ld l.1=(c:Int))).toList.length<=1:=by cases M.find? λl=>decide (ld l.1=(c:Int))<;>simp
  omega
theorem qi{H:Hp}{s:AV}{l:List (List Int)}(h:Row H 1 s (l.map aH)):Snap H s (bK l):=by
 rw[IT];exact h.snapL' (λ_=>rfl) (λx _=>dp x)
theorem dI{c:Int}{R:List (List Int)}:ez c R=.agg [.int .i64 c,bK R]:=rfl
theorem Ei{r:List Int}(h:∀i,i+1<r.length->r.getD i default<r.getD (i+1) default):bd r:=by
 have hchain:∀b a,a<b->b<r.length->r.getD a default<r.getD b default:=λb=>by
  induction b with
  |zero=>intro a ha;omega
  |succ b ih=>
   intro a ha hb;have q:=h b hb;rcases(by omega:a<b\/a=b) with h|rfl
   ·have:=ih a h (by omega);omega
   ·exact q
 refine kE.2 λi j hi hj hij=>?_;have:=hchain j i hij hj;simpa[List.getD,hi,hj] using this
theorem gq{c:Int}{R:List (List Int)}(h:hU c R):∀r∈R,bd r:=λr hr=>Ei (h.2.2.2 r hr).2.2
theorem Nb{l:List Ln}{k:Nat}(h:k<l.length):eY 2 (mQ l) (.int .i64 (k:Int))=some (.iptr [aH (l.getD k default).1,aH (l.getD k default).2] 0):=by
 unfold mQ;rw[nD,if_pos ⟨by omega,by omega⟩,bN];rfl
theorem uY{l:List Ln}:cT (mQ l)=some (.int .i64 l.length):=lY
theorem lD{R:List (List Int)}{c:Nat}:(ka R c).length<=c:=Bc
theorem r_4{T:Tm}{H:Hp}{K:AV->Prop}{a b c d:RV}{x y z u:AV}(ha:rv T H a=some x)(hb:rv T H b=some y)(hc:rv T H c=some z)(hd:rv T H d=some u)(h:K (.tup [x,y,z,u])):bk T H K [a,b,c,d]:=by
 show yD T H [a,b,c,d] λxs=>K (.tup xs);simp only[yD,ha,hb,hc,hd];exact h
theorem kP{c:List Spx}(h:aB c=0):∀s∈c,Shn s:=λs hs=>show _<=_ by
 have:=(cE ((d6 h).2.1 s hs)).2.1;omega
def tU(c:List Spx):Nat->Int
 |0=>0
 |k+1=>if (k+1)%2=1 then tU c k+((jb c (k+1)).length:Int) else tU c k-((jb c (k+1)).length:Int)
theorem CO{c:List Spx}(h:∀k,(jb c k).length<=3500):∀k:Nat,-(3500*(k:Int))<=tU c k/\tU c k<=3500*(k:Int)
 |0=>⟨by show -(3500*((0:Nat):Int))<=(0:Int);omega,by show(0:Int)<=3500*((0:Nat):Int);omega⟩
 |k+1=>by
  have:=CO h k;have h2:=h (k+1);unfold tU;split<;>omega
def nu(c:List Spx):Nat->Int×Int
 |0=>(8,0)
 |k+1=>(min (nu c k).1 ((c.getD k default).length:Int),max (nu c k).2 ((c.getD k default).length:Int))
theorem yA{c:List Spx}{m:Int}(h0:0<=m)(h:∀s∈c,(s.length:Int)<=m):∀{k:Nat},k<=c.length->0<=(nu c k).2/\(nu c k).2<=m
 |0,_=>⟨Int.le_refl _,h0⟩
 |k+1,hk=>by
  have:=yA h0 h (k:=k) (by omega);have h2:=h _ (aA (l:=c) (i:=k) (by omega));unfold nu;dsimp only;omega
def jL(c:List Spx):Int:=(nu c c.length).2
def GN(c:List Spx):Bool:=decide ((nu c c.length).2=0) || decide ((nu c c.length).1=(nu c c.length).2)
theorem KT{c:List Spx}(hc:aB c=0){k:Nat}(hk:8<k):jb c k=[]:=by
 refine uo.2 λs hs=>?_;obtain⟨t,ht,h⟩:=sW.1 hs;obtain⟨h1,h2⟩:=ff.1 h;have:=(cE ((d6 hc).2.1 t ht)).2.1;have:=h1.length_le;omega
theorem F1{c:List Spx}{k:Nat}:aj c (k:Int)=if k=0 then [] else jb c k:=by
 unfold aj;by_cases h:k=0
 ·rw[if_pos (by omega),if_pos h]
 ·rw[if_neg (by omega),if_neg h,bN]
theorem cQ{c:List Spx}(hc:aB c=0)(hl:c.length<=50){d:Int}:(aj c d).length<=3500:=by
 unfold aj;split
 ·simp
 ·exact pm hl λs hs=>(cE ((d6 hc).2.1 s hs)).2.1
theorem yT{c:List Spx}(hc:aB c=0){d:Int}(h:8<d):aj c d=[]:=by
 unfold aj;rw[if_neg (by omega)];exact KT hc (by omega)
theorem As{Y:List Spx}:b7 [] Y=List.replicate Y.length []:=by
 refine List.ext_getElem (by simp[b7]) λi h1 h2=>?_;simp[b7,bu,jZ]
theorem Ew{H:Hp}{b n:Nat}(h:H b=some (List.replicate n .esl)):Snap H (.msl b n 1 0 n) (bK (List.replicate n [])):=by
 refine Fy h (by simp) ⟨by simp,λi x y hx hy=>?_⟩;obtain⟨h1,rfl⟩:=b6.1 hx;obtain⟨h2,rfl⟩:=b6.1 hy;simp only[List.getElem_map,List.getElem_replicate];exact .eslsl 1
def rkF(c:List Spx)(d:Nat):Nat:=(de (b7 (aj c ((d:Int)+1)) (aj c d)) (aj c ((d:Int)+1)).length).length
def btF(c:List Spx)(d:Nat):Int:=((aj c ((d:Int)+1)).length:Int)-(rkF c d:Int)-(rkF c (d+1):Int)
def btL(c:List Spx)(m:Nat):List Int:=(List.range m).map (btF c)
theorem uH{c:List Spx}{d:Nat}:rkF c d<=(aj c ((d:Int)+1)).length:=by
 unfold rkF de;rw[bm];exact lD
theorem FR{c:List Spx}(hc:aB c=0):∃m:Nat,jL c=m/\m<=8:=by
 have h:=yA (c:=c) (m:=8) (by omega) (λs hs=>by have:=(cE ((d6 hc).2.1 s hs)).2.1;omega) (aM _);exact⟨(jL c).toNat,by unfold jL;omega,by unfold jL;omega⟩
def rkK(n:Nat):List Int:=bu (List.range n)
theorem lP{n d:Nat}:(d:Int)∈rkK n↔d<n:=by
 unfold rkK;rw[fe];exact⟨λ⟨i,h1,h2⟩=>by have:=dE.1 h1;omega,λh=>⟨d,dE.2 h,rfl⟩⟩
theorem sG{n d:Nat}(h:d<n):(rkK n).idxOf (d:Int)=d:=by
 have hn:(rkK n).Nodup:=vL (λ{x y}(q:x<y) e=>by omega) (du List.pairwise_lt_range);have h1:=oh.2 (lP.2 h);have hl:d<(rkK n).length:=by unfold rkK bu;simpa using h
 have h2:(rkK n)[d]=(d:Int):=by
  have h4:(rkK n)[d]=(((List.range n)[d]'(by simpa using h):Nat):Int):=List.getElem_map ..;rw[h4,List.getElem_range]
 have h3:(rkK n)[(rkK n).idxOf (d:Int)]=(rkK n)[d]:=by rw[List.getElem_idxOf h1,h2]
 exact(List.getElem_inj hn).1 h3
theorem y5{n:Nat}:rkK (n+1)=rkK n++[(n:Int)]:=by unfold rkK bu;rw[List.range_succ,dq];rfl
def rkV(c:List Spx)(n:Nat):List AV:=(List.range n).map λd=>.int .i64 (rkF c d)
theorem AQ{c:List Spx}{n:Nat}:rkV c (n+1)=rkV c n++[.int .i64 (rkF c n)]:=by unfold rkV;rw[List.range_succ,dq];rfl
theorem sx{c:List Spx}{n d:Nat}(h:d<n):(rkV c n).getD d .undef=.int .i64 (rkF c d):=by unfold rkV;simp[List.getD,h]
theorem A3{c:List Spx}{n:Nat}:btL c (n+1)=btL c n++[btF c n]:=by unfold btL;rw[List.range_succ,dq];rfl
theorem xo{a:List Spx}(h:a≠[]):eY 1 (ao a) (.int .i64 0)=some (.iptr [aF (a.getD 0 default)] 0):=by
 have:=fQ (l:=a) (k:=0) (gY.2 h);exact this
def mr(R:List (List Int))(y:List Int):List Int:=y.foldl (λa i=>bV a (R.getD i.toNat default)) []
theorem wM{R:List (List Int)}{y:List Int}{i:Int}:mr R (y++[i])=bV (mr R y) (R.getD i.toNat default):=by unfold mr;rw[List.foldl_append];rfl
theorem C7{R:List (List Int)}{c:Nat}(hR:∀r∈R,bd r)(hv:∀r∈R,∀z∈r,0<=z/\z<(c:Int)){y:List Int}(hy:∀i∈y,0<=i/\i<(R.length:Int)):∀k,k<=y.length->bd (mr R (y.take k))/\∀z∈mr R (y.take k),0<=z/\z<(c:Int)
 |0,_=>⟨pb,λz h=>(by cases h)⟩
 |k+1,hk=>by
  obtain⟨h1,h2⟩:=C7 hR hv hy k (by omega);have hi:=hy _ (aA (l:=y) (i:=k) (by omega));have hm:R.getD (y.getD k default).toNat default∈R:=aA (by omega);rw[ci (show k<y.length by omega),wM];refine⟨en h1 (hR _ hm),λz hz=>?_⟩;rcases(cW h1 (hR _ hm)).1 hz with q|q
  ·exact h2 z q.1
  ·exact hv _ hm z q.1
def G7(R:List (List Int))(b y:List Int):Int:=if mr R y=[] then(if ja y b=true then 0 else 18) else 18
def mw(H:Hp)(s:AV)(l:List (List Int)):Prop:=s=bK l\/Row H 1 s (l.map aH)
theorem mw.src{H H':Hp}{s:AV}{l:List (List Int)}(h:mw H s l)(hs:∀b,bX s=some b->H' b=H b):f8 1 H' s=some (l.length,l.map aH):=by
 rcases h with rfl|h
 ·exact jI
 ·have h:=h.same hs;generalize hc:l.map aH=cs at h;have hl:l.length=cs.length:=by rw[<-hc,bm]
  cases h with
  |nil=>rw[hl];rfl
  |box b len cs hb hn=>
   rw[Nat.mul_one] at hn;rw[gm hb (by rw[hn,Nat.mul_one]) (by omega),hl,hn,Nat.mul_one,List.drop_zero,ib (by omega)]
theorem mw.len{H:Hp}{s:AV}{l:List (List Int)}(h:mw H s l):fA s=some l.length:=by
 rcases h with rfl|h
 ·exact zB
 ·generalize hc:l.map aH=cs at h;have hl:l.length=cs.length:=by rw[<-hc,bm]
  cases h with
  |nil=>rw[hl];rfl
  |box b len cs hb hn=>rw[hl,hn,Nat.mul_one];rfl
theorem mw.snap{H:Hp}{s:AV}{l:List (List Int)}(h:mw H s l):Snap H s (bK l):=by
 rcases h with rfl|h
 ·exact(nF l).snap
 ·exact qi h
theorem uP{H:Hp}{s:AV}{cs:List AV}(h:Row H 1 s cs)(c:Int):eU [AV.int .i64 0,.esl] [(0,1,.int .i64 c),(1,1,s)]=some [.int .i64 c,s]:=by cases h<;>rfl
theorem Dl{l:List (List Int)}:AV.ones (l.map aH)=true:=by
 unfold AV.ones;rw[eN];intro x hx;obtain⟨y,_,rfl⟩:=bz.1 hx;rfl
def HT(x:AV):Option AV:=match x with|.ptr b n o=>some (.ptr b n o)|.iptr c o=>some (.iptr c o)|.func f c=>some (.func f c)|_=>none
theorem NK:(∀(T:Tm)(H:Hp)(x:Opd),ca T H (.nilck x)=HT (ov T x))/\(∀b n o:Nat,HT (.ptr b n o)=some (.ptr b n o)):=⟨λ_ _ _=>rfl,λ_ _ _=>rfl⟩
structure CmpO{α:Type}(P:Program)(f:α->AV)(K:α->α->Int)(G:α->Prop):Prop where
 cells:∀x,(f x).cells=[f x]
 one:∀x,(f x).one=true
 dat:∀x,Dat (f x)
 run:∀x y,G x->G y->Go.Abs.Pure P 187 [f x,f y] (.bool (decide (K x y<0)))
 ord:Ord K
theorem Pe:Ord (λx y:Int=>x-y):=⟨λx=>by omega,λx y h=>by omega,λx y z h1 h2=>by omega⟩
theorem AW{H:Hp}{sv:AV}{l:List Int}(h:Row H 1 sv (l.map (AV.int .i64)))(h0:0<l.length):∃B,sv=.msl B l.length 1 0 l.length/\H B=some (l.map (AV.int .i64)):=by
 generalize hcs:l.map (AV.int .i64)=cs at h;have hl:cs.length=l.length:=by rw[<-hcs,bm]
 cases h with
 |nil=>simp at hl;omega
 |box B len cs h1 h2=>
  have e:len=l.length:=by omega
  subst e;exact⟨B,by rw[Nat.mul_one],h1⟩
def qu(E:List (List Int))(q:Nat):List Int:=E.foldl (λa r=>if (q:Int)∈r then bV a [ld r] else a) [(q:Int)]
def pR(E:List (List Int))(q:Nat):List Int:=(q:Int)::(E.filter λr=>decide ((q:Int)∈r)).map ld
def yE(E:List (List Int))(c:Nat):List Nat:=(List.range c).filter λq=>decide ((q:Int)∉E.map ld)
def hZ(E:List (List Int))(c:Nat):List (List Int):=(yE E c).map (qu E)
theorem ww{E:List (List Int)}{k:Nat}:hZ E (k+1)=hZ E k++if (k:Int)∈E.map ld then [] else [qu E k]:=by
 unfold hZ yE;rw[List.range_succ,yw,dq]
 congr 1
 by_cases h:(k:Int)∈E.map ld
 ·rw[if_pos h,vU (by simpa using h)];rfl
 ·rw[if_neg h,vW (by simpa using h)];rfl
theorem Be{E:List (List Int)}{k:Nat}:(hZ E k).length<=k:=by
 unfold hZ yE;rw[bm];exact fK (List.length_filter_le _ _) (by simp)
theorem DL{E:List (List Int)}{q j:Nat}(h:j<E.length):pR (E.take (j+1)) q=pR (E.take j) q++if (q:Int)∈E.getD j default then [ld (E.getD j default)] else []:=by
 unfold pR;rw[ci h,yw,dq,List.cons_append]
 congr 2
 by_cases h:(q:Int)∈E.getD j default
 ·rw[if_pos h,vW (by simpa using h)];rfl
 ·rw[if_neg h,vU (by simpa using h)];rfl
theorem Aq{E:List (List Int)}{q:Nat}:(pR E q).length<=E.length+1:=by
 unfold pR;rw[br,bm];exact Nat.succ_le_succ (List.length_filter_le _ _)
theorem rb{q:Nat}:∀{E:List (List Int)}{a:List Int},E.Pairwise (λr s=>ld r<ld s)->bd a->(∀r∈E,ld r∉a)->
    bd (E.foldl (λa r=>if (q:Int)∈r then bV a [ld r] else a) a)/\∀z,z∈E.foldl (λa r=>if (q:Int)∈r then bV a [ld r] else a) a↔z∈a\/ ∃r∈E,(q:Int)∈r/\z=ld r
 |[],a,_,h2,_=>⟨h2,λz=>⟨.inl,λh=>h.elim id λ⟨r,hr,_⟩=>by cases hr⟩⟩
 |x::E,a,h1,h2,h3=>by
  have hx:=im.1 h1;rw[List.foldl_cons];by_cases h:(q:Int)∈x
  ·rw[if_pos h];have hs:bd [ld x]:=List.pairwise_singleton _ _;have hna:=h3 x (cz ..)
   have hm:∀z,z∈bV a [ld x]↔z∈a\/z=ld x:=λz=>by
    rw[cW h2 hs,cC];constructor
    ·rintro(q|q)
     ·exact .inl q.1
     ·exact .inr q.1
    ·rintro(q|rfl)
     ·exact .inl ⟨q,λe=>hna (e▸q)⟩
     ·exact .inr ⟨rfl,hna⟩
   obtain ⟨i1,i2⟩:=rb (q:=q) hx.2 (en h2 hs) (fun r hr hz=>by
    rcases(hm _).1 hz with g|g
    ·exact h3 r (dy _ hr) g
    ·have:=hx.1 r hr;omega)
   refine⟨i1,λz=>(i2 z).trans ?_⟩;rw[hm];constructor
   ·rintro((g|g)|⟨r,hr,g⟩)
    ·exact .inl g
    ·exact .inr ⟨x,cz ..,h,g⟩
    ·exact .inr ⟨r,dy _ hr,g⟩
   ·rintro(g|⟨r,hr,g1,g2⟩)
    ·exact .inl (.inl g)
    ·rcases dg.1 hr with rfl|hr
     ·exact .inl (.inr g2)
     ·exact .inr ⟨r,hr,g1,g2⟩
  ·rw[if_neg h];obtain⟨i1,i2⟩:=rb (q:=q) hx.2 h2 (λr hr=>h3 r (dy _ hr));refine⟨i1,λz=>(i2 z).trans ?_⟩;constructor
   ·rintro(g|⟨r,hr,g⟩)
    ·exact .inl g
    ·exact .inr ⟨r,dy _ hr,g⟩
   ·rintro(g|⟨r,hr,g1,g2⟩)
    ·exact .inl g
    ·rcases dg.1 hr with rfl|hr
     ·exact absurd g1 h
     ·exact .inr ⟨r,hr,g1,g2⟩
theorem jN{E:List (List Int)}{q:Nat}(hE:Red E)(hq:(q:Int)∉E.map ld):bd (qu E q)/\∀z,z∈qu E q↔z=q\/ ∃r∈E,(q:Int)∈r/\z=ld r:=by
 have:=rb (q:=q) (a:=[(q:Int)]) hE.ord (List.pairwise_singleton _ _) (λr hr h=>hq (by rw[cC] at h;rw[<-h];exact List.mem_map_of_mem hr));exact⟨this.1,λz=>(this.2 z).trans (by rw[cC])⟩
theorem GY{E:List (List Int)}{q:Nat}{z:Int}:z∈pR E q↔z=q\/ ∃r∈E,(q:Int)∈r/\z=ld r:=by
 unfold pR;rw[dg,bz];constructor
 ·rintro(h|⟨r,hr,e⟩)
  ·exact .inl h
  ·have:=eG.1 hr;exact .inr ⟨r,this.1,oa this.2,e.symm⟩
 ·rintro(h|⟨r,hr,g,e⟩)
  ·exact .inl h
  ·exact .inr ⟨r,eG.2 ⟨hr,a6 g⟩,e.symm⟩
theorem B1{E:List (List Int)}{q:Nat}(hE:Red E)(hq:(q:Int)∉E.map ld):(pR E q).Nodup:=by
 unfold pR;refine List.nodup_cons.2 ⟨λh=>?_,?_⟩
 ·obtain⟨r,hr,e⟩:=bz.1 h;exact hq (e▸List.mem_map_of_mem (eG.1 hr).1)
 ·rw[List.Nodup,List.pairwise_map];exact(hE.ord.sublist x7).imp λ{x y} h e=>by omega
theorem DG{E:List (List Int)}{q:Nat}(hE:Red E)(hq:(q:Int)∉E.map ld){L:List Int}(hp:L.Perm (pR E q))(hs:L.Pairwise (· <= ·)):L=qu E q:=by
 have hn:L.Nodup:=hp.nodup_iff.2 (B1 hE hq)
 have ha:bd L:=(hs.and hn).imp λ{x y} h=>by
  have h1:=h.1;have h2:x≠y:=h.2;show x<y;omega
 obtain⟨k1,k2⟩:=jN hE hq;refine mR ha k1 λz=>?_;rw[hp.mem_iff,k2,GY]
def oD(k:Nat):List AV:=List.replicate k (.bool true)
theorem Ee{k i:Nat}(h:i<k):Go.Abs.mget (.bool false) false (some i) (oD k)=.bool true:=by
 show(oD k).getD i _=_;simp[oD,List.getD,h]
theorem Cu{R:List (List Int)}{n q:Nat}:(trF R n q).Pairwise (· < ·):=List.Pairwise.filter _ List.pairwise_lt_range
theorem KS{R:List (List Int)}{c:Nat}(hR:R.length<=4096)(hc:c<=4096):hU R.length (trL c R):=by
 refine⟨by omega,by omega,by unfold trL;rw[bm,List.length_range];exact hc,λr hr=>?_⟩;unfold trL at hr;obtain⟨q,hq,rfl⟩:=bz.1 hr;refine⟨λv hv=>?_,?_,vn (du Cu)⟩
 ·unfold bu at hv;obtain⟨j,hj,rfl⟩:=bz.1 hv;unfold trF at hj;have:=dE.1 (eG.1 hj).1;omega
 ·unfold bu;rw[bm];exact fK Dc hR
def bdN(c:List Spx)(d:Nat):Nat:=(aj c ((d:Int)+1)).length
def bdM(c:List Spx)(d:Nat):List (List Int):=trL (aj c ((d:Int)+1+1)).length (b7 (aj c ((d:Int)+1+1)) (aj c ((d:Int)+1)))
def bdE(c:List Spx)(d:Nat):List (List Int):=de (bdM c d) (bdN c d)
theorem mG{c:List Spx}{d:Nat}(hc:aB c=0)(hl:c.length<=50):hU (bdN c d) (bdM c d):=by
 have h1:=cQ hc hl (d:=(d:Int)+1);have h2:=cQ hc hl (d:=(d:Int)+1+1);have:=KS (R:=b7 (aj c ((d:Int)+1+1)) (aj c ((d:Int)+1))) (c:=(aj c ((d:Int)+1+1)).length) (by rw[eV];omega) (by omega);rw[eV] at this;exact this
theorem yK{c:List Spx}{d:Nat}:(bdE c d).length<=bdN c d:=by unfold bdE de;rw[bm];exact lD
def bsT(E:List (List Int))(n:Nat)(K:List (List Int)):Nat->List (List Int)
 |0=>[]
 |k+1=>if (de ((E++bsT E n K k)++[K.getD k default]) n).length=(de (E++bsT E n K k) n).length then bsT E n K k else bsT E n K k++[K.getD k default]
theorem De{E:List (List Int)}{n:Nat}{K:List (List Int)}:∀{k:Nat},(bsT E n K k).length<=k
 |0=>aM _
 |k+1=>by
  have:=De (E:=E) (n:=n) (K:=K) (k:=k);unfold bsT;split
  ·omega
  ·rw[cP];simp only[br,dw];omega
theorem yL{E:List (List Int)}{n:Nat}{K:List (List Int)}:∀{k:Nat},k<=K.length->∀v∈bsT E n K k,v∈K
 |0,_,v,h=>by cases h
 |k+1,hk,v,h=>by
  unfold bsT at h;split at h
  ·exact yL (by omega) v h
  ·rcases eJ.1 h with h|h
   ·exact yL (by omega) v h
   ·rw[cC] at h;subst h;exact aA (by omega)
theorem Ck{E:List (List Int)}{n:Nat}(hE:Red E)(hv:∀r∈E,∀z∈r,0<=z/\z<(n:Int)):de E n=E:=by
 obtain⟨h1,h2,-⟩:=fR hE.asc hv;exact pI h1 hE h2
theorem p8{c:Int}{R S:List (List Int)}(h:hU c R)(hl:S.length<=4096)(hs:∀r∈S,r∈R):hU c S:=⟨h.1,h.2.1,hl,λr hr=>h.2.2.2 r (hs r hr)⟩
theorem pZ{c:Int}{R S:List (List Int)}(h:hU c R)(h2:hU c S)(hl:R.length+S.length<=4096):hU c (R++S):=⟨h.1,h.2.1,by rw[cP];exact hl,λr hr=>(eJ.1 hr).elim (h.2.2.2 r) (h2.2.2.2 r)⟩
theorem mw.same{H H':Hp}{s:AV}{l:List (List Int)}(h:mw H s l)(hs:∀b,bX s=some b->H' b=H b):mw H' s l:=by
 rcases h with h|h
 ·exact .inl h
 ·exact .inr (h.same hs)
theorem ql{c:List Spx}:cl c=.agg [ao c]:=rfl
def bsK(c:List Spx)(d:Nat):List (List Int):=hZ (de (b7 (aj c ((d:Int)+1)) (aj c d)) (bdN c d)) (bdN c d)
theorem lG{c:List Spx}{d:Nat}(hc:aB c=0)(hl:c.length<=50):hU (bdN c d) (b7 (aj c ((d:Int)+1)) (aj c d)):=by
 have h1:=cQ hc hl (d:=(d:Int)+1);have h2:=cQ hc hl (d:=(d:Int));exact lW (X:=aj c ((d:Int)+1)) (Y:=aj c d) (by omega) (by omega)
theorem oO{c:Nat}{R:List (List Int)}(h:hU c R):∀r∈R,∀z∈r,0<=z/\z<(c:Int):=λr hr=>(h.2.2.2 r hr).1
theorem yM{c:Nat}{R:List (List Int)}(hc:c<=4096)(hl:R.length<=4096)(ha:∀r∈R,bd r)(hv:∀r∈R,∀z∈r,0<=z/\z<(c:Int)):hU c R:=
 ⟨by omega,by omega,hl,λr hr=>⟨hv r hr,by have:=eT (ha r hr) (hv r hr);omega,vn (ha r hr)⟩⟩
theorem Cz{c:Nat}{R:List (List Int)}(h:hU c R):Red (de R c)/\(∀v,Sp (de R c) v↔Sp R v)/\(∀r∈de R c,∀z∈r,0<=z/\z<(c:Int))/\(de R c).length<=c:=by
 obtain⟨h1,h2,-⟩:=fR (gq h) (oO h);exact⟨h1,h2,λr hr=>fE (gq h) (oO h) ((h2 r).1 (cR hr)),by unfold de;rw[bm];exact lD⟩
theorem yn{E:List (List Int)}{c:Nat}(hE:Red E)(hv:∀r∈E,∀z∈r,0<=z/\z<(c:Int)):∀v∈hZ E c,bd v/\∀z∈v,0<=z/\z<(c:Int):=λv h=>by
 unfold hZ at h;obtain⟨q,hq,rfl⟩:=bz.1 h;have hq:=eG.1 hq;have hqc:=dE.1 hq.1;obtain⟨k1,k2⟩:=jN hE (oa hq.2);refine⟨k1,λz hz=>?_⟩;rcases(k2 z).1 hz with rfl|⟨r,hr,_,rfl⟩
 ·omega
 ·exact hv r hr _ (dl (hE.ne r hr))
theorem o6{c:List Spx}{d:Nat}(hc:aB c=0)(hl:c.length<=50):hU (bdN c d) (bsK c d)/\(bsK c d).length<=bdN c d:=by
 have hn:bdN c d<=3500:=cQ hc hl;obtain⟨h1,-,h2,-⟩:=Cz (lG (d:=d) hc hl);have hk:=yn h1 h2;have hll:(bsK c d).length<=bdN c d:=Be;exact⟨yM (by omega) (by omega) (λv h=>(hk v h).1) λv h=>(hk v h).2,hll⟩
theorem Fm{c:List Spx}{d:Nat}(hc:aB c=0)(hl:c.length<=50):hU (bdN c d) (bdE c d)/\Red (bdE c d)/\(∀v,Sp (bdE c d) v↔Sp (bdM c d) v):=by
 have hn:bdN c d<=3500:=cQ hc hl;obtain⟨h1,h2,h3,h4⟩:=Cz (mG (d:=d) hc hl);exact⟨yM (by omega) (fK h4 (by omega)) h1.asc h3,h1,h2⟩
def II(o:Option Nat):List Nat:=match o with|some x=>[x]|none=>[]
theorem AC{o:Option Nat}{x:Nat}:x∈II o↔o=some x:=by cases o<;>simp[II];exact eq_comm
theorem Dx{c:List Spx}:∀{k:Nat},k<=c.length->∀i,i<k->((c.getD i default).length:Int)<=(nu c k).2
 |0,_,i,hi=>absurd hi (by omega)
 |k+1,hk,i,hi=>by
  unfold nu;dsimp only;rcases(by omega:i<k\/i=k) with h|rfl
  ·have:=Dx (c:=c) (k:=k) (by omega) i h;omega
  ·omega
theorem zp{c:List Spx}{m k:Nat}(hm:jL c=m)(hk:m<k):jb c k=[]:=by
 refine uo.2 λs hs=>?_;obtain⟨t,ht,h⟩:=sW.1 hs;obtain⟨h1,h2⟩:=ff.1 h;have h3:=h1.length_le;obtain⟨i,hi,e⟩:=kI ht;have h4:=Dx (c:=c) (aM _) i hi;rw[show c.getD i default=t by simp[List.getD,hi,e]] at h4;unfold jL at hm;omega
theorem w5{c:List Spx}{n:Nat}:aj c ((n:Int)+1)=jb c (n+1):=by
 have:=F1 (c:=c) (k:=n+1);rw[if_neg (by omega)] at this;exact this
theorem CW{c:List Spx}{m k:Nat}(hm:jL c=m)(hk:m<=k):rkF c k=0:=by
 have:=uH (c:=c) (d:=k);rw[w5,zp hm (by omega)] at this;simpa using this
theorem ku{b:List Int}:∀{a:List Int},bJ (λj=>bit j b) a=(a.filter λx=>decide (x∈b)).length
 |[]=>rfl
 |x::a=>by
  have ih:=ku (b:=b) (a:=a);show bit x b+bJ _ a=_;rw[ih];by_cases h:x∈b
  ·rw[vW (by simpa using h),br];unfold bit;rw[if_pos h];omega
  ·rw[vU (by simpa using h)];unfold bit;rw[if_neg h];omega
theorem qM{a b:List Int}(ha:bd a)(hb:bd b):ja a b=jq b a:=by
 unfold ja jq;have:=nw _ a b (aM _) ha hb;rw[ku];refine decide_eq_decide.2 ?_;omega
theorem qQ{a b:List Int}(ha:bd a)(hb:bd b):jq a b=jq b a:=by
 unfold jq;rw[ku,ku,r7 (a:=b) (b:=a) hb.nodup ha.nodup]
theorem nc{g:Int->Nat}{b:List Int}:∀{a:List Int},bJ g (a++b)=bJ g a+bJ g b
 |[]=>by show _=0+_;rw[bP];rfl
 |x::a=>by
  have ih:=nc (g:=g) (b:=b) (a:=a);show g x+bJ g (a++b)=g x+bJ g a+bJ g b;rw[ih];omega
theorem ig{g:Int->Nat}:∀{a:List Int},(∀z∈a,g z=0)->bJ g a=0
 |[],_=>rfl
 |x::a,h=>by
  show g x+bJ g a=0;rw[h x cz,ig λz hz=>h z (dy _ hz)]
theorem s9{g h:Int->Nat}:∀{a:List Int},bJ (λz=>g z+h z) a=bJ g a+bJ h a
 |[]=>rfl
 |x::a=>by
  have ih:=s9 (g:=g) (h:=h) (a:=a);show g x+h x+bJ _ a=g x+bJ g a+(h x+bJ h a);rw[ih];omega
theorem wj{f:Int->Int->Nat}{v:List Int}:∀{y:List Int},bJ (λj=>bJ (λz=>f z j) v) y=bJ (λz=>bJ (λj=>f z j) y) v
 |[]=>by
  exact(ig (g:=λz=>bJ (λj=>f z j) []) λz _=>rfl).symm
 |j::y=>by
  have ih:=wj (f:=f) (v:=v) (y:=y);show bJ (λz=>f z j) v+bJ _ y=bJ (λz=>f z j+bJ (λj=>f z j) y) v;rw[ih,s9]
theorem po{g h:Int->Nat}:∀{a:List Int},(∀z∈a,g z%2=h z%2)->bJ g a%2=bJ h a%2
 |[],_=>rfl
 |x::a,e=>by
  have ih:=po (g:=g) (h:=h) (a:=a) λz hz=>e z (dy _ hz);have h0:=e x cz;show(g x+bJ g a)%2=(h x+bJ h a)%2;omega
theorem nK{R:List (List Int)}{v:List Int}(hR:∀r∈R,bd r)(hv:bd v){i:Nat}(hi:i<R.length):bit (i:Int) (bu (ee R v))=bJ (λz=>bit z (R.getD i default)) v%2:=by
 have h1:(i:Int)∈bu (ee R v)↔ja (R.getD i default) v=true:=by
  rw[fe];unfold ee;constructor
  ·rintro⟨j,hj,e⟩;obtain rfl:j=i:=by omega
   exact(eG.1 hj).2
  ·intro h;exact⟨i,eG.2 ⟨dE.2 hi,h⟩,rfl⟩
 have hri:=hR _ (aA hi);rw[qM hri hv,qQ hv hri] at h1;unfold jq at h1;have hb:bit (i:Int) (bu (ee R v))=if (i:Int)∈bu (ee R v) then 1 else 0:=rfl
 rw[hb];by_cases h:(i:Int)∈bu (ee R v)
 ·rw[if_pos h];have:=oa (h1.1 h);exact this.symm
 ·rw[if_neg h];have:¬_:=λq=>h (h1.2 (a6 q));have h2:=Nat.mod_lt (bJ (λz=>bit z (R.getD i default)) v) (by omega:0<2);omega
theorem Ax{R:List (List Int)}{v:List Int}(hR:∀r∈R,bd r)(hv:bd v){y:List Int}(hy:y∈(stE R R.length).2):jq (bu (ee R v)) y=false:=by
 have hs:=(eI hR (aM R.length)).dep y hy;obtain⟨_,h2,h3⟩:=hs
 have h2:∀z,0=bJ (λj=>bit z (R.getD j.toNat default)) y%2:=λz=>by
  have:=h2 z;rw[show bit z (([],y):Ln).1=0 from fG] at this;exact this
 have h3:∀j∈y,0<=j/\j<(R.length:Int):=h3;unfold jq;refine ba λh=>?_
 have e1:bJ (λj=>bit j (bu (ee R v))) y%2=bJ (λj=>bJ (λz=>bit z (R.getD j.toNat default)) v) y%2:=po λj hj=>by
  have hj':=h3 j hj;have:=nK hR hv (i:=j.toNat) (by omega);rw[show((j.toNat:Nat):Int)=j by omega] at this;rw[this];omega
 rw[wj (f:=λz j=>bit z (R.getD j.toNat default))] at e1;have e2:bJ (λz=>bJ (λj=>bit z (R.getD j.toNat default)) y) v%2=bJ (λ_=>0) v%2:=po λz _=>by have:=h2 z;omega
 rw[ig (g:=λ_=>0) λ_ _=>rfl] at e2;omega
section
attribute [local irreducible] aO am bf aZ aR aS aE aU a5 bk Go.Abs.Fn aY Go.Abs.Pure au aN Yl
theorem FY(a b:List Int)(ha:a.length<=1000000)(hb:b.length<=1000000):pU 116 [aH a,aH b] (.bool (ja a b)):=by
 refine pO NQ ?_;simp only[MN,aL];have hs:=wZ a b (by omega) (by omega);have hl:=pE _ a b (aM _);unfold ja;generalize bV a b=S at *
 have hq:∀tb tf,bv .quo tb tf (.int .i64 ((a.length:Int)+b.length-S.length)) (.int .i64 2)=some (.int .i64 (((a.length+b.length-S.length)/2:Nat):Int)):=λtb tf=>by
  rw[jr (by omega) (by omega) (by omega)]
  congr 2;omega
 have hr:∀tb tf,bv .rem tb tf (.int .i64 (((a.length+b.length-S.length)/2:Nat):Int)) (.int .i64 2)=some (.int .i64 (((a.length+b.length-S.length)/2%2:Nat):Int)):=λtb tf=>by
  rw[yb (by omega) (by omega)]
  congr 2
 have z:decide ((((a.length+b.length-S.length)/2%2:Nat):Int)=1)=decide ((a.length+b.length-S.length)/2%2=1):=decide_eq_decide.2 (by omega);refine wnY (zI4 @dW @hq @hr @z) ?_;exact .bool _
theorem E6{l:List (List Int)}{k:Nat}(h:k<l.length):eY 1 (bK l) (.int .i64 (k:Int))=some (.iptr [aH (l.getD k default)] 0):=by
 rw[o9,if_pos ⟨by omega,by omega⟩,bN]
theorem fm{l:List (List Int)}:cT (bK l)=some (.int .i64 l.length):=rN
theorem Cj{n:Nat}{v:List Int}(h:ms n v=0):∃w:List Nat,v=bu w/\w.Pairwise (· < ·)/\∀j∈w,j<n:=by
 have hall:=gz h;have hk:=λk(hk:k<v.length)=>Ke (hall k hk)
 have hm:∀x∈v,0<=x/\x<n:=λx hx=>by
  obtain⟨k,h1,h2⟩:=kI hx;have:=hk k h1;have e:v.getD k default=x:=by simp[List.getD,h1,h2]
  rw[e] at this;exact⟨this.1,this.2.1⟩
 have hasc:bd v:=by
  have hchain:∀j i,i<j->j<v.length->v.getD i default<v.getD j default:=λj=>by
   induction j with
   |zero=>intro i hi;omega
   |succ j ih=>
    intro i hi hj;have q:=(hk (j+1) hj).2.2 (by omega);rw[lX] at q;rcases(by omega:i<j\/i=j) with h|rfl
    ·have:=ih i h (by omega);omega
    ·exact q
  unfold bd;rw[kE];intro i j hi hj hij;have:=hchain j i hij hj;simpa[List.getD,hi,hj] using this
 refine⟨v.map Int.toNat,?_,?_,λj hj=>?_⟩
 ·unfold bu;rw[List.map_map]
  symm
  refine(o0 λx hx=>?_).trans (List.map_id v);have:=(hm x hx).1;show((x.toNat:Nat):Int)=x;omega
 ·rw[List.pairwise_map];exact List.Pairwise.imp_of_mem (λ{x y} hx hy hxy=>by have:=(hm x hx).1;omega) hasc
 ·obtain⟨x,hx,rfl⟩:=bz.1 hj;have:=hm x hx;omega
theorem DW{X:List Spx}{w:List Nat}:bb X (bu w)=w.map λj=>X.getD j default:=by
 unfold bb bu;rw[List.map_map];exact o0 λj _=>rfl
theorem vQ{c:List Spx}{k:Nat}{v:List Int}(hc:aB c=0)(hc50:c.length<=50)(hk:k<8)(hv:v.length<=400)(h:ms (aj c (k+1)).length v=0):
    ∃a b,sf c k v=(a,0)/\dF c a=(v,0)/\ga a=(b,0)/\dD a=0/\ShC a/\ShC b/\pA c k=(((((aj c (k+1)).length:Nat):Int),b7 (aj c (k+1)) (aj c k)),0)/\dF c b=(bu (ee (b7 (aj c (k+1)) (aj c k)) v),0)/\b=bw a/\dD b=0/\(∀s∈a,s.length=k+1)/\(∀s∈b,s.length=k)/\(∀s∈b,s∈aj c k)/\bu (ee (b7 (aj c (k+1)) (aj c k)) v)=bu (kO (aj c k) b):=by
 obtain⟨w,rfl,hw,hb⟩:=Cj h;have hXs:=jV (d:=(k:Int)+1) hc;have hXa:=jD (c:=c) (d:=(k:Int)+1);have hXm:=λs=>kT (c:=c) (d:=(k:Int)+1) (s:=s);have hXf:=λs f=>BF (c:=c) (d:=(k:Int)) (s:=s) (f:=f);have hYa:=jD (c:=c) (d:=(k:Int));have hYm:=λs=>kT (c:=c) (d:=(k:Int)) (s:=s);have hwl:w.length<=400:=by unfold bu at hv;rwa [bm] at hv
 have e1:sf c k (bu w)=(w.map λj=>(aj c (k+1)).getD j default,0):=by
  unfold sf;rw[if_neg (λh=>h hc),if_neg (by omega),if_neg (λq=>q h),DW]
 have e5:pA c k=(((((aj c (k+1)).length:Nat):Int),b7 (aj c (k+1)) (aj c k)),0):=by
  unfold pA;rw[if_neg (λh=>h hc),if_neg (by omega)]
 have hvec:∀a:List Spx,dD a=0->(a=[]\/ ∃d:Nat,bG a=d/\∀s∈a,s∈aj c d)->dF c a=(bu (kO (aj c (bG a)) a),0):=λa ha hr=>by
  unfold dF;rw[if_neg (λh=>h hc),if_neg (λh=>h ha)];rcases hr with rfl|⟨d,hd,hr⟩
  ·rw[if_pos rfl];rfl
  ·by_cases h0:a=[]
   ·subst h0;rw[if_pos rfl];rfl
   ·rw[if_neg h0,if_pos (eN.2 λs hs=>a6 (by rw[hd];exact hr s hs))]
 have hXe:aj c (((k+1:Nat)):Int)=aj c ((k:Int)+1):=by rw[show(((k+1:Nat)):Int)=(k:Int)+1 by omega]
 generalize aj c ((k:Int)+1)=X at *
 have hsub:∀s∈w.map (λj=>X.getD j default),s∈X:=λs hs=>by
  obtain⟨j,hj,rfl⟩:=bz.1 hs;exact aA (hb j hj)
 have hlen:∀s∈w.map (λj=>X.getD j default),s.length=k+1:=λs hs=>by
  have:=((hXm s).1 (hsub s hs)).2.1;omega
 have hasc:bR bo (w.map λj=>X.getD j default):=by
  unfold bR;rw[List.pairwise_map];exact List.Pairwise.imp_of_mem (λ{i j} hi hj hij=>ec hXa hij (hb j hj)) hw
 have hsim:∀s∈w.map (λj=>X.getD j default),bT s=0:=λs hs=>hXs s (hsub s hs)
 have hpos:kO X (w.map λj=>X.getD j default)=w:=by
  unfold kO;rw[List.map_map];refine(o0 λj hj=>?_).trans (List.map_id w);exact xq (hXa.nodup ie) (hb j hj)
 have hap:=BR (X:=X) (Y:=aj c k) (gc hXs) hYa hw hb (fun s hs=>by
  obtain⟨t,t1,t2⟩:=jQ (λs hs=>gc hXs s (hsub s hs)) hs;exact hXf t s (hsub t t1) t2)
 have hin:∀s∈bw (w.map λj=>X.getD j default),s∈aj c k:=λs hs=>by
  obtain⟨t,t1,t2⟩:=jQ (λs hs=>gc hXs s (hsub s hs)) hs;exact hXf t s (hsub t t1) t2
 have hwl2:(w.map λj=>X.getD j default).length<=400:=by rw[bm];exact hwl
 have hl0:0<w.length->bG (w.map λj=>X.getD j default)=k+1:=λh0=>hlen _ (aA (by rw[bm];exact h0));have hw0:w.length=0->(w.map λj=>X.getD j default)=[]:=λh0=>by rw[fI.1 h0];rfl
 have hpos2:w.length=0->w=[]:=λh0=>fI.1 h0;generalize (w.map λj=>X.getD j default)=a at *;have hca:dD a=0:=Cp (n:=k+1) (by omega) hsim hasc hlen;have hcb:=EU hca (by omega);have hsame:=xu (gc hsim) hlen;refine⟨a,bw a,e1,?_,Fb hca (by omega),hca,wB (by omega) hsim,wB (by have:=(dL hcb).1;omega) (nR hsim),e5,?_,rfl,hcb,hlen,λs hs=>by have:=hsame s hs;omega,hin,hap⟩
 ·by_cases h0:w.length=0
  ·rw[hvec a hca (.inl (hw0 h0)),hw0 h0,hpos2 h0];rfl
  ·have h1:bG a=k+1:=hl0 (by omega);rw[hvec a hca (.inr ⟨k+1,h1,λs hs=>by rw[hXe];exact hsub s hs⟩),h1,hXe,hpos]
 ·by_cases h0:bw a=[]
  ·rw[hvec _ hcb (.inl h0),hap,h0];rfl
  ·have h1:bG (bw a)=k:=by
     have:=hsame _ (aA (gY.2 h0));unfold bG;omega
   rw[hvec _ hcb (.inr ⟨k,h1,hin⟩),hap,h1];rfl
theorem z9(c:Nat)(R:List (List Int))(hm:hU c R):pU 133 [ez c R] (.tup [ez R.length (trL c R),.int .i64 0]):=by
 refine pO Ng ?_;simp only[N0,aL];have h1:=me c R hm;have z0:decide ((0:Int)≠0)=false:=rfl;have dm:Dat (.agg [.int .i64 c,bK R]):=dG c R;obtain⟨m1,m2,m3,m4⟩:=hm;have hzc:bH (AV.agg [AV.esl]) c=List.replicate c .esl:=by simp[bH,AV.cells]
 unfold ez;refine wnY (aI @z0 @fm) ?_;refine yW (k1:=.i64) (k2:=.i64) (n:=c) (m:=c) rfl ev0 ev0 (by omega) (Int.le_refl _) (by omega) (by omega) ?_;rw[bN,hzc,Nat.mul_one];refine wnY @fm ?_;refine lpI (X:=Nat×List AV) (λx=>[(2,.ptr 1 2 0),(5,.ptr 3 2 0),(24,bK R),(25,.int .i64 R.length),(26,.int .i64 x.1)]) (λx H' nx'=>x.1<=R.length/\4<=nx'/\H' 1=some [.int .i64 0,.esl]/\H' 3=some [.int .i64 R.length,.msl 2 c 1 0 c]/\MatOk H' 2 4 nx' c (trF R x.1) x.2) (λx=>R.length-x.1) (0,List.replicate c .esl) ⟨bQ _,aM _,by(repeat rw[ae (by omega)]);rw[af],by rw[af];rfl,MatOk.new (by(repeat rw[ae (by omega)]);rw[af]) (λj _=>rfl)⟩ ?_;rintro⟨i,vs⟩ H nx ⟨i1,i2,g1,g3,hmat⟩;dsimp only at i1 i2 g1 g3 hmat |-;by_cases hi:i<R.length
 rotate_left
 ·obtain rfl:i=R.length:=by omega
  have hst:Snap (ar H 1 [.int .i64 R.length,.msl 2 c 1 0 c]) (.msl 2 c 1 0 c) (bK (trL c R)):=(hmat.same (hi':=nx) (G:=trF R R.length) (ae (by omega)) (λx x1 x2 x3=>ae (by omega)) (aM _) (λj _=>rfl)).snap;refine wnY (aI @g1 @g3) ?_;exact kB hst rfl
 have ix:=E6 hi;have hrow:=m4 _ (aK hi);have hF:∀q,trF R (i+1) q=trF R i q++if (q:Int)∈R.getD i default then [i] else []:=λq=>F4
 generalize R.getD i default=r at *
 have hrasc:∀j,j<r.length->r.getD j default∉r.take j:=λj hj hm=>by
  have hchain:∀b a,a<b->b<r.length->r.getD a default<r.getD b default:=λb=>by
   induction b with
   |zero=>intro a ha;omega
   |succ b ih=>
    intro a ha hb;have q:=hrow.2.2 b hb;rcases(by omega:a<b\/a=b) with h|rfl
    ·have:=ih a h (by omega);omega
    ·exact q
  obtain⟨a,ha,e⟩:=kI hm;rw[gV] at ha;have h5:=hchain j a (by omega) hj;have e2:r.getD a default=r.getD j default:=by rw[<-e];simp[List.getD,show a<r.length by omega]
  omega
 refine wnY @ix ?_;refine lpI (X:=Nat×List AV) (λx=>[(2,.ptr 1 2 0),(5,.ptr 3 2 0),(6,.int .i64 i),(24,bK R),(25,.int .i64 R.length),(26,.int .i64 i),(31,aH r),(32,.int .i64 r.length),(33,.int .i64 x.1)]) (λx H' nx'=>x.1<=r.length/\nx<=nx'/\H' 1=some [.int .i64 0,.esl]/\H' 3=some [.int .i64 R.length,.msl 2 c 1 0 c]/\MatOk H' 2 4 nx' c (λq=>trF R i q++if (q:Int)∈r.take x.1 then [i] else []) x.2) (λx=>r.length-x.1) (0,vs) ⟨bQ _,aM _,g1,g3,hmat.same rfl (λ_ _ _ _=>rfl) (aM _) (λj _=>by simp)⟩ ?_;clear hmat g1 g3;rintro⟨j,vs⟩ H' nx' ⟨j1,j2,g1,g3,hmat⟩;dsimp only at j1 g1 g3 hmat |-;by_cases hj:j<r.length
 rotate_left
 ·rw[ib (by omega)] at hmat;refine wnY and_self ?_;exact⟨(i+1,vs),by dsimp only;omega,⟨by dsimp only;omega,by omega,g1,g3,hmat.same rfl (λ_ _ _ _=>rfl) (aM _) (λq _=>hF q)⟩,ag0⟩
 have iy:=ixV hj;have hjr:=hrow.1 _ (aK hj);have htk:=ci hj;have hnm:=hrasc j hj;generalize r.getD j default=v at *;obtain⟨p,rfl⟩:∃p:Nat,v=p:=⟨v.toNat,by omega⟩
 have p1:p<c:=by omega
 refine wnY @iy ?_;refine qE 3 2 g3 hmat.box (by omega) λS0 hS1 hS2 hsub=>?_;have hFp:trF R i p++(if (p:Int)∈r.take j then [i] else [])=trF R i p:=by rw[if_neg hnm,fY]
 have hrow2:=hmat.row p p1;rw[hFp] at hrow2
 have hvs:vs[p]?=some (vs.getD p .undef):=by
  have:=hmat.len;simp[List.getD,show p<vs.length by omega]
 have hlen:=hmat.len;have hb3:∀b,bX (vs.getD p .undef)=some b->4<=b/\b<nx'/\b≠2:=λb hb=>hmat.bnd p b p1 hb;have hFl:=Dc (R:=R) (n:=i) (q:=p);generalize hrv:vs.getD p .undef=rv at *;refine wnY (zI4 @hS1 @hS2 @hvs @hlen) ?_;refine d8 ?_;refine wnY and_self ?_;refine⟨hsub _ (by rw[ae (by omega)];exact g3) (by rw[ae (by omega)];exact hmat.box),?_⟩;refine d8 ?_;refine eR (hrow2.same λb hb=>?_) ?_
 ·have:=hb3 b hb;rw[ae (by omega)]
 rintro s2 H4 nx4 hr2 k1 k2 k3 k4;have lo:∀x,x<nx'->bX rv≠some x->H4 x=H' x:=λx x1 x2=>(k3 x (by omega) x2).trans (ae (by omega));have l5:∀x,x<4->H4 x=H' x:=λx hx=>lo x (by omega) (λh=>by have:=hb3 _ h;omega);have q2:=(l5 2 (by omega)).trans hmat.box;have q3:=(l5 3 (by omega)).trans g3;obtain⟨o1,o2⟩:=hr2.one;refine jM ⟨hsub _ q3 q2,?_⟩
 have hlp:bC vs p [s2]=vs.set p s2:=by
  simp only[bC,br,dw,bP];rw[Lh,if_pos (by omega)];simp
 have zz:=aI @q2 (aI @o1 (aI @o2 (aI @hlen @hlp)));repeat' (first|apply a_n|refine zO ?_|refine vY ?_|refine nvY ?_|apply kg|refine stY ?_|fail)
 refine⟨(j+1,vs.set p s2),by dsimp only;omega,⟨by dsimp only;omega,by omega,?_,?_,?_⟩,ag0⟩
 ·rw[ae (by omega),l5 _ (by omega)];exact g1
 ·rw[ae (by omega)];exact q3
 ·dsimp only;refine hmat.put (sv:=s2) (x:=i) p1 (λq hq=>?_) ?_ (λb hb=>?_) (by rw[af,hlp]) (λx x1 x2 x3 x4=>?_) (by omega) (by omega)
  ·rw[htk];by_cases e:q=p
   ·subst e;rw[if_pos rfl,if_neg hnm,if_pos (lJ _ (cC.2 rfl)),fY]
   ·rw[if_neg e]
    congr 1
    refine yF ?_;rw[eJ,cC];exact⟨λh=>h.resolve_right (by omega),.inl⟩
  ·rw[hFp,dq]
   exact hr2.same fun b hb=>ae (by
    rcases k4 b hb with h|h
    ·have:=hb3 b h;omega
    ·omega)
  ·rw[hrv];rcases k4 b hb with h|h
   ·exact .inl h
   ·exact .inr ⟨by omega,by omega,by omega⟩
  ·rw[ae x3,lo x x2 (by rw[hrv] at x4;exact x4)]
theorem Ig(x y:Int):pU 187 [.int .i64 x,.int .i64 y] (.bool (decide (x<y))):=by
 have h1:=jG x;have h2:=jG y;refine pO JH ?_;simp only[KU,aL];refine wnZ and_self ?_;exact .bool _
theorem BJ(l:List Int)(v:Int)(hl:l.length<=1000000000)(ha:bd l):∃b:Nat,pU 163 [aH l,.int .i64 v] (.tup [.int .i64 b,.bool (decide (v∈l))]):=by
 obtain⟨b,hb,h1,h2⟩:=OJ v ha;refine⟨b,?_⟩;rw[<-Kl h1 h2 ha];refine pO Mv ?_;simp only[Nl,aL];refine wnZ @dW ?_;refine np (X:=Nat×Nat) (λx=>[(0,aH l),(1,.int .i64 v),(6,.int .i64 l.length),(7,.int .i64 x.1),(8,.int .i64 x.2)]) (λx=>x.1<=b/\b<=x.2/\x.2<=l.length) (λx=>x.2-x.1) (0,l.length) ⟨bQ _,hb,aM _⟩ ag0 ?_;rintro⟨i,j⟩ ⟨g1,g2,g3⟩;dsimp only at g1 g2 g3 |-;by_cases hij:i<j
 ·have hh:(i+j)/2<l.length:=by omega
  have hc:=Ig (l.getD ((i+j)/2) default) v;have ix:=ixV hh;by_cases hn:l.getD ((i+j)/2) default<v
  ·rw[a6 hn] at hc;have hbb:(i+j)/2<b:=Nat.lt_of_not_le λh=>by have:=h2 _ h hh;omega
   refine wnZ (zI4 @dW @fB @C6 @ix) ?_;exact⟨((i+j)/2+1,j),⟨by omega,by omega,by omega⟩,by dsimp only;omega,ag0,rfl,rfl⟩
  ·rw[ba hn] at hc;have hbb:b<=(i+j)/2:=Nat.le_of_not_lt λh=>hn (h1 _ h);refine wnZ (zI4 @dW @fB @C6 @ix) ?_;exact⟨(i,(i+j)/2),⟨by omega,by omega,by omega⟩,by dsimp only;omega,ag0,rfl,rfl⟩
 ·have ei:i=b:=by omega
  have ej:j=b:=by omega
  clear hij g1 g2 g3;subst ei;have dij:decide ((i:Int)<(j:Int))=false:=ba (by omega);by_cases hlt:i<l.length
  ·have hc:=jG (l.getD i default);have ix:=ixV hlt;have hna:=jG v
   have hn2:∀n:Int,pU 188 [.int .i64 n] (.bool false):=λn=>by
    refine pO L8 ?_;simp only[Nd,aL];refine wnZ and_self ?_;exact ct (by simp)
   have dlt:decide ((i:Int)<(l.length:Int))=true:=a6 (by omega);by_cases hv:l.getD i default=v
   ·have dv:decide (l.getD i default=v)=true:=a6 hv;rw[dv,a6 hlt,Bool.true_and];refine wnZ (zI5 @dW @ix @dlt @dij @dv) ?_;exact bA (ah (.int _ _) (ah (.bool _) ap))
   ·have dv:decide (l.getD i default=v)=false:=ba hv;rw[dv,Bool.and_false];have zz:=aI @dW (aI @ix (aI @dlt (aI @dij @dv)));repeat' (first|refine zW ?_|apply a_n|apply a_x|refine zO ?_|refine vZ ?_|refine cZ ?_ (hp:=by exact hn2 _)|refine gTZ ?_|refine gFZ ?_|refine cFZ ?_|refine b0 rfl ?_|refine r2Z ?_|fail)
    exact bA (ah (.int _ _) (ah (.bool _) ap))
  ·have dlt:decide ((i:Int)<(l.length:Int))=false:=ba (by omega);rw[ba hlt,Bool.false_and];refine wnZ (zI3 @dW @dlt @dij) ?_;exact bA (ah (.int _ _) (ah (.bool _) ap))
theorem HQ(l:List Int)(v:Int)(hl:l.length<=1000000000)(ha:bd l):pU 146 [aH l,.int .i64 v] (.bool (decide (v∈l))):=by
 obtain⟨b,hb⟩:=BJ l v hl ha;refine pO Oo ?_;simp only[N4,aL];refine wnZ and_self ?_;exact .bool _
theorem Hg(M:List Ln)(c n:Nat)(hc:c<=4096)(hn:n<=4096)(hM:RedU M)(hMb:∀l∈M,BL c n l)(x:Ln)(hx:cr x)(hxb:BL c n x){a:AV}{Hf HA H:Hp}(hfz:Fz Hf HA H)(hs:Snap Hf a (fk x)){nx m lb:Nat}(hlb:lb<nx)(hm:m<nx)(hne:m≠lb)(h1:H lb=some [.mp m])(h2:LM H m M):
    Abs.Fn Tryz.prog 149 [a,.ptr lb 1 0] HA nx λr H' nx'=>r=fk (eh M x)/\(∀b,b<nx->H' b=H b)/\nx<=nx':=by
 refine fO LS ?_;simp only[MG,aL];have hx0:fk x=.agg [aH x.1,aH x.2]:=rfl;refine dJ ?_;refine qs Hf H [(0,fk x),(1,.ptr lb 1 0)] hfz ⟨.inr hs,.inl rfl,trivial⟩ ?_;rw[hx0];clear hs hfz;refine wnY @h1 ?_;refine lpI (X:=Ln×Nat) (λy=>[(1,.ptr lb 1 0),(2,.ptr nx 2 0),(3,.ptr (nx+1) 2 0),(4,.int .i64 y.2)]) (λy H' nx'=>y.2<=y.1.1.length/\nx+2<=nx'/\cr y.1/\BL c n y.1/\eh M y.1=eh M x/\(∀j,j<y.2->∀l∈M,ld l.1≠y.1.1.getD j default)/\H' nx=some [aH y.1.1,aH y.1.2]/\H' (nx+1)=some [.esl,.esl]/\∀b,b<nx->H' b=H b) (λy=>nL M y.1*10000+(y.1.1.length-y.2)) (x,0) ⟨bQ _,aM _,hx,hxb,rfl,λj h=>absurd h (by omega),by rw[ae (by omega),af],by rw[af],λb hb=>by rw[ae (by omega),ae (by omega)]⟩ ?_;clear hx hxb hx0;rintro⟨y,i⟩ H' nx' ⟨g1,g2,g3,g4,g5,g6,g7,g8,g9⟩;dsimp only at g1 g2 g3 g4 g5 g6 g7 g8 g9 |-;obtain⟨l1,l2⟩:=g4.len g3;have k1:H' lb=some [.mp m]:=(g9 lb hlb).trans h1;have k2:LM H' m M:=(g9 m hm).trans h2;by_cases hi:i<y.1.length
 rotate_left
 ·have hr:eh M y=y:=Ez hM g3 λl hl hz=>by
    obtain⟨j,hj,e⟩:=kI hz;refine g6 j (by omega) l hl ?_;rw[<-e];simp[List.getD,hj]
  have z:decide ((i:Int)<y.1.length)=false:=ba (by omega);rw[<-g5,hr];refine wnY (zI4 @dW @z @g7 @g8) ?_;exact⟨rfl,λb hb=>by rw[ae (by omega)];exact g9 b hb,by omega⟩
 have z:decide ((i:Int)<y.1.length)=true:=a6 (by omega);have ix:=ixV hi;have hvm:=aA hi;generalize hv:y.1.getD i default=v at *;refine wnY (zI4 @dW @z @ix @g7) ?_;refine B9 lb m nx k1 k2 g7 (by omega) (by omega) (by omega) λS hS1 hS2 hS3 hsub=>?_;refine wnY (zI4 @hS1 @hS2 @hS3 @ix) ?_;simp only[ew,List.map_nil,List.getD_cons_succ,List.getD_cons_zero];by_cases hk:v∈b8 M
 rotate_left
 ·have hmg:Go.Abs.mget (.agg [.esl,.esl]) true (if v∈b8 M then some ((b8 M).idxOf v) else none) (M.map fk)=.tup [.agg [.esl,.esl],.bool false]:=by rw[if_neg hk];rfl
  refine Lu (LA ev0 hS2 ev0) ?_;rw[hmg];refine wnY and_self ?_;refine d8 ?_;refine wnY and_self ?_;refine⟨hsub _ (by rw[ae (by omega)];exact k1) (by rw[ae (by omega)];exact k2) (by rw[ae (by omega)];exact g7),?_⟩;refine wnY and_self ?_;refine⟨(y,i+1),by dsimp only;omega,⟨by dsimp only;omega,by omega,g3,g4,g5,λj hj l hl=>?_,by rw[ae (by omega),ae (by omega)];exact g7,by rw[ae (by omega),ae (by omega)];exact g8,λb hb=>by rw[ae (by omega),ae (by omega)];exact g9 b hb⟩,ag0⟩;dsimp only;rcases(by omega:j<i\/j=i) with q|rfl
  ·exact g6 j q l hl
  ·rw[hv];exact λe=>hk (nS.2 ⟨l,hl,e⟩)
 obtain⟨l,hl,hld,hgd⟩:=wL hk
 have hmg:Go.Abs.mget (.agg [.esl,.esl]) true (if v∈b8 M then some ((b8 M).idxOf v) else none) (M.map fk)=.tup [.agg [aH l.1,aH l.2],.bool true]:=by
  rw[if_pos hk];show AV.tup [(M.map fk).getD ((b8 M).idxOf v) .undef,.bool true]=_;rw[hgd];rfl
 refine Lu (LA ev0 hS2 ev0) ?_;rw[hmg];refine wnY and_self ?_;refine d8 ?_;refine wnY and_self ?_;refine⟨hsub _ (by rw[ae (by omega)];exact k1) (by rw[ae (by omega)];exact k2) (by rw[ae (by omega)];exact g7),?_⟩;refine wnY and_self ?_;have hla:=hM.asc l hl;have hlb':=hMb l hl;obtain⟨l3,l4⟩:=hlb'.len hla;have hs1:=wZ y.1 l.1 (by omega) (by omega);have hs2:=wZ y.2 l.2 (by omega) (by omega)
 have hlt:∀j,j<i->∀w∈l.1,y.1.getD j default<w:=λj hj w hw=>by
  have h5:=oI hla.1 hw;have h6:=kE.1 g3.1 j i (by omega) hi hj;have e1:y.1.getD j default=y.1[j]:=by simp[List.getD,show j<y.1.length by omega]
  have e2:y.1.getD i default=y.1[i]:=by simp[List.getD,hi]
  omega
 have hp1:=An (i:=i) (a:=y.1) (b:=l.1) (by omega) hlt;have hp2:=xE (i:=i) (a:=y.1) (b:=l.1) (by omega) hlt;have hnl:=Lq hM g3 hl (by rw[hld];exact hvm);have ha':=fq g3 hla;have hb':=g4.add hlb' g3 hla;obtain⟨l5,_⟩:=hb'.len ha';have hrx:=Em hM g3 hl;have e7:ar (ar H' nx' [AV.esl,AV.esl]) nx' (bC [AV.esl,AV.esl] 0 [aH l.1,aH l.2]) nx'=some [aH l.1,aH l.2]:=by rw[af];rfl
 have e8:ar (ar H' nx' [AV.esl,AV.esl]) nx' (bC [AV.esl,AV.esl] 0 [aH l.1,aH l.2]) nx=some [aH y.1,aH y.2]:=by rw[ae (by omega),ae (by omega)];exact g7
 have e9:∀b,b≠nx->b<nx'->ar (ar H' nx' [AV.esl,AV.esl]) nx' (bC [AV.esl,AV.esl] 0 [aH l.1,aH l.2]) b=H' b:=λb h1 h2=>by rw[ae (by omega),ae (by omega)]
 generalize ar (ar H' nx' [AV.esl,AV.esl]) nx' (bC [AV.esl,AV.esl] 0 [aH l.1,aH l.2])=H2 at *;have hadd:eD y l=(bV y.1 l.1,bV y.2 l.2):=rfl;generalize bV y.1 l.1=s1 at *;generalize bV y.2 l.2=s2 at *;refine wkY (aI @e7 @e8) ?_;refine⟨((s1,s2),i),?_,⟨hp2,by omega,by rw[<-hadd];exact ha',by rw[<-hadd];exact hb',by rw[<-hadd,hrx];exact g5,λj hj l' hl'=>by dsimp only;rw[hp1 j hj];exact g6 j hj l' hl',by rw[af];rfl,by rw[ae (by omega),e9 _ (by omega) (by omega)];exact g8,λb hb=>by rw[ae (by omega),e9 _ (by omega) (by omega)];exact g9 b hb⟩,ag0⟩;rw[hadd] at hnl l5;dsimp only at hnl l5 |-;omega
theorem Ga(l:List Int)(hl:l.length<=1000000000):PureF Tryz.prog 150 [aH l] (aH l):=by
 refine qO Nw ?_;simp only[NR,aL];refine wnZ and_self ?_;refine tw (k:=l.length) (by((try simp only[cf,ZA,reduceEqDiff,↓reduceIte,reduceAdd,reduceLeDiff]);(try with_reducible rfl));exact BI) (λh=>?_) (λh=>?_) (λh=>?_)
 ((all_goals (try have zz:=and_self));(repeat' (first|refine zW ?_|apply a_n|apply a_r|refine zO ?_|refine vZ ?_|refine b0Z ?_|refine a0Z ?_|refine cTZ ?_|refine cFZ ?_|refine b0 rfl ?_|refine r1Z ?_|fail));(all_goals (try clear zz)))
 ·exact xw af (by omega) rfl
 ·exact D0 h
 ·exact xw af (by omega) rfl
theorem wW(c:Nat)(R:List (List Int))(hc:c<=4096)(hl:R.length<=4096)(hR:∀r∈R,bd r)(hv:∀r∈R,∀z∈r,0<=z/\z<(c:Int)):pU 115 [ez c R] (.tup [mQ (ka R c),bK (stE R R.length).2]):=by
 refine pO M5 ?_;simp only[Ns,aL];rw[dI];refine dJ ?_
 repeat' (first|apply a_n|refine zO ?_|refine vY ?_|refine bxY ?_|fail)
 refine dJ ?_;refine wnY and_self ?_;refine ws ?_;refine sB (cs:=[.nilm]) rfl rfl rfl ?_
 repeat' (first|apply a_n|refine zO ?_|refine stY ?_|fail)
 refine dJ ?_
 repeat' (first|apply a_n|refine zO ?_|refine vY ?_|fail)
 refine dJ ?_
 repeat' (first|apply a_n|refine zO ?_|refine vY ?_|fail)
 refine bn (λT H nx=>T 1=.ptr 0 2 0/\T 4=.ptr 2 1 0/\3<=nx/\H 0=some [.int .i64 c,bK R]/\H 2=some [.mp 1]/\LM H 1 (stE R R.length).1/\∃dv,T 6=dv/\Row H 1 dv ((stE R R.length).2.map aH)/\∀b,bX dv=some b->2<b/\b<nx) ?_ ?_
 ·refine wnY @fm ?_;refine lpI (X:=AV×Nat) (λx=>[(1,.ptr 0 2 0),(4,.ptr 2 1 0),(5,.func 149 [.ptr 2 1 0]),(6,x.1),(19,bK R),(20,.int .i64 R.length),(21,.int .i64 x.2)]) (λx H nx=>x.2<=R.length/\3<=nx/\H 0=some [.int .i64 c,bK R]/\H 2=some [.mp 1]/\LM H 1 (stE R x.2).1/\Row H 1 x.1 ((stE R x.2).2.map aH)/\∀b,bX x.1=some b->2<b/\b<nx) (λx=>R.length-x.2) (.esl,0) ⟨bQ _,aM _,rfl,rfl,rfl,Row.nil,λb h=>(by cases h)⟩ ?_;rintro⟨dv,k⟩ H nx ⟨h1,h2,h3,h4,h5,h6,h7⟩;dsimp only at h1 h2 h3 h4 h5 h6 h7 |-;by_cases hk:k<R.length
  rotate_left
  ·obtain rfl:k=R.length:=by omega
   refine wnY and_self ?_;exact⟨rfl,rfl,h2,h3,h4,h5,dv,rfl,h6,h7⟩
  have ix:=E6 hk;have hrow:=hR _ (aA hk);have hrv:=hv _ (aA hk);have hst:=eI hR (i:=k) (by omega);have hbl:=BH hR hv (k:=k) (by omega);have hsl:=yI hR (k:=k) (by omega);have hss:stE R (k+1)=if (eh (stE R k).1 (R.getD k default,[(k:Int)])).1=[] then((stE R k).1,(stE R k).2++[(eh (stE R k).1 (R.getD k default,[(k:Int)])).2]) else(kA (stE R k).1 (eh (stE R k).1 (R.getD k default,[(k:Int)])),(stE R k).2):=rfl
  generalize R.getD k default=r at *;generalize stE R k=MD at *;obtain⟨M,D⟩:=MD;dsimp only at *;have hrl:=eT hrow hrv;have hcl:=Ga r (by omega);refine wnY @ix ?_;refine gy ev0 ev0 hcl (ah (dp _ _) ap) ?_;refine wnY @ix ?_;have hM:=hst.red;have hax:cr (r,[(k:Int)]):=⟨hrow,List.pairwise_singleton _ _⟩
  have hbx:BL c R.length (r,[(k:Int)]):=⟨hrv,λj hj=>by rw[cC.1 hj];omega⟩
  refine aQ ev0 ev0 (Hg M c R.length hc hl hM hbl (r,[(k:Int)]) hax hbx (Fz.one af) (vv (ah (dp _ _) (ah (eH (n:=1) (len:=1) (l:=[(k:Int)]) ma rfl rfl) ap))) (m:=1) (lb:=2) (by omega) (by omega) (by omega) (by rw[dr (by omega),ae (by omega)];exact h4) (by unfold LM;rw[dr (by omega),ae (by omega)];exact h5)) ?_;rintro _ H1 nx1 ⟨rfl,g1,g2⟩;have hay:cr (eh M (r,[(k:Int)])):=iK (λl hl=>hM.asc l hl) hax;have hby:BL c R.length (eh M (r,[(k:Int)])):=BX (λl hl=>⟨hM.asc l hl,hbl l hl⟩) hax hbx;have hno:∀l∈M,ld l.1∉(eh M (r,[(k:Int)])).1:=λl hl=>k9 hM hax hl;generalize eh M (r,[(k:Int)])=y at *;have lo:∀b,b<nx->H1 b=H b:=λb hb=>(g1 b (by omega)).trans (by rw[dr (by omega),ae (by omega)]);have e1:fk y=.agg [aH y.1,aH y.2]:=rfl;rw[e1];by_cases h0:y.1=[]
  ·rw[if_pos h0] at hss;have z:decide ((y.1.length:Int)=0)=true:=by rw[h0];rfl
   refine wnY (aI @dW @z) ?_;refine eR (h6.same λb hb=>?_) ?_
   ·have:=h7 b hb;rw[ae (by omega),ae (by omega),ae (by omega)];exact lo b (by omega)
   rintro s2 H2 nx2 hr2 i1 i2 i3 i4;have lo2:∀b,b<nx->bX dv≠some b->H2 b=H b:=λb hb hn=>(i3 b (by omega) hn).trans (by rw[ae (by omega),ae (by omega),ae (by omega)];exact lo b hb);have hd:∀b,b<=2->bX dv≠some b:=λb hb e=>by have:=h7 b e;omega
   refine wnY and_self ?_;refine⟨(s2,k+1),by dsimp only;omega,⟨by dsimp only;omega,by omega,(lo2 0 (by omega) (hd 0 (by omega))).trans h3,(lo2 2 (by omega) (hd 2 (by omega))).trans h4,?_,?_,λb hb=>?_⟩,ag0⟩
   ·dsimp only;rw[hss];exact(lo2 1 (by omega) (hd 1 (by omega))).trans h5
   ·dsimp only;rw[hss,dq];exact hr2
   ·rcases i4 b hb with h|h
    ·have:=h7 b h;omega
    ·omega
  rw[if_neg h0] at hss;have z:decide ((y.1.length:Int)=0)=false:=ba (by have:=gY.2 h0;omega);refine wnY (aI @dW @z) ?_;have hd:∀b,b<=2->bX dv≠some b:=λb hb e=>by have:=h7 b e;omega
  have q0:ar (ar H1 nx1 [AV.esl,AV.esl]) nx1 (bC [AV.esl,AV.esl] 0 [aH y.1,aH y.2]) 0=some [.int .i64 c,bK R]:=by rw[ae (by omega),ae (by omega)];exact(lo 0 (by omega)).trans h3
  have q2:ar (ar H1 nx1 [AV.esl,AV.esl]) nx1 (bC [AV.esl,AV.esl] 0 [aH y.1,aH y.2]) 2=some [.mp 1]:=by rw[ae (by omega),ae (by omega)];exact(lo 2 (by omega)).trans h4
  have q1:LM (ar (ar H1 nx1 [AV.esl,AV.esl]) nx1 (bC [AV.esl,AV.esl] 0 [aH y.1,aH y.2])) 1 M:=by unfold LM;rw[ae (by omega),ae (by omega)];exact(lo 1 (by omega)).trans h5
  have qy:ar (ar H1 nx1 [AV.esl,AV.esl]) nx1 (bC [AV.esl,AV.esl] 0 [aH y.1,aH y.2]) nx1=some [aH y.1,aH y.2]:=by rw[af];rfl
  have qd:Row (ar (ar H1 nx1 [AV.esl,AV.esl]) nx1 (bC [AV.esl,AV.esl] 0 [aH y.1,aH y.2])) 1 dv (D.map aH):=h6.same λb hb=>by
   have:=h7 b hb;rw[ae (by omega),ae (by omega)];exact lo b (by omega)
  generalize ar (ar H1 nx1 [AV.esl,AV.esl]) nx1 (bC [AV.esl,AV.esl] 0 [aH y.1,aH y.2])=H2 at *;clear lo g1;refine wnY @q2 ?_;refine KC ev0 q1 ?_;refine wnY and_self ?_;have hkl:(b8 M).length=M.length:=by unfold b8;rw[bm]
  have hkn:=zU hM;have ix0:=IX h0;obtain⟨yl1,yl2⟩:=hby.len hay;refine lpI (X:=List Nat) (λx=>[(1,.ptr 0 2 0),(4,.ptr 2 1 0),(5,.func 149 [.ptr 2 1 0]),(6,dv),(9,.ptr nx1 2 0),(19,bK R),(20,.int .i64 R.length),(21,.int .i64 k),(43,.itr (nx1+1))]) (λseen H nx'=>H (nx1+1)=some [.oiter 1 ((b8 M).map (AV.int .i64)).length seen]/\nx1+2<=nx'/\seen.Nodup/\(∀i∈seen,i<M.length)/\H 0=some [.int .i64 c,bK R]/\H 2=some [.mp 1]/\H nx1=some [aH y.1,aH y.2]/\H 1=some [.omap ((b8 M).map (AV.int .i64)) (vsS M y seen)]/\Row H 1 dv (D.map aH)) (λseen=>M.length-seen.length) [] ⟨af,aM _,List.nodup_nil,λi h=>(by cases h),(ae (by omega)).trans q0,(ae (by omega)).trans q2,(ae (by omega)).trans qy,by rw[Ia];exact(ae (by omega)).trans q1,qd.same λb hb=>by have:=h7 b hb;rw[ae (by omega)]⟩ ?_;clear q0 q2 q1 qy qd;rintro seen H3 nx3 ⟨r1,r2,r3,r4,q0,q2,qy,q1,qd⟩
  have hsl:seen.length<=M.length:=by
   have:=Ap r3 (l₂:=List.range M.length) λi hi=>dE.2 (r4 i hi);simpa using this
  refine wnY and_self ?_;refine K9 ev0 r1 q1 rfl (λi hi hns=>?_) (λhall=>?_)
  ·have hi:i<M.length:=by rw[bm,hkl] at hi;exact hi
   have ek:((b8 M).map (AV.int .i64)).getD i .undef=.int .i64 (ld (M.getD i default).1):=by
    unfold b8;simp[List.getD,hi]
   have evv:(vsS M y seen).getD i .undef=.agg [aH (M.getD i default).1,aH (M.getD i default).2]:=Cr hi hns
   have hidx:(b8 M).idxOf (ld (M.getD i default).1)=i:=by
    have h5:i<(b8 M).length:=by rw[hkl];exact hi
    have h6:(b8 M)[i]=ld (M.getD i default).1:=by
     have:(b8 M)[i]=ld M[i].1:=List.getElem_map ..;rw[this];simp[List.getD,hi]
    have h7:=oh.2 (show ld (M.getD i default).1∈b8 M by rw[<-h6];exact oe h5);have h8:(b8 M)[(b8 M).idxOf (ld (M.getD i default).1)]=(b8 M)[i]:=by rw[List.getElem_idxOf h7,h6]
    exact(List.getElem_inj hkn).1 h8
   have hkm:ld (M.getD i default).1∈b8 M:=nS.2 ⟨_,aA hi,rfl⟩;have hla:=hM.asc _ (aA hi);have hlb:=hbl _ (aA hi);obtain⟨ll1,ll2⟩:=hlb.len hla;have hset:=Dr (M:=M) (y:=y) (seen:=seen) (i:=i);have hsame:=Gr (M:=M) (y:=y) (seen:=seen) (i:=i) hi hns;have r3':(seen++[i]).Nodup:=zA.2 ⟨r3,by simp,λx hx z hz e=>by rw[e,cC.1 hz] at hx;exact hns hx⟩
   have r4':∀x∈seen++[i],x<M.length:=λx hx=>by
    rcases eJ.1 hx with q|q
    ·exact r4 x q
    ·rw[cC.1 q];exact hi
   have hsl2:(seen++[i]).length<=M.length:=by
    have:=Ap r3' (l₂:=List.range M.length) λi hi=>dE.2 (r4' i hi);simpa using this
   rw[cP,List.length_singleton] at hsl2;generalize M.getD i default=l at *;have hhas:=HQ l.1 (ld y.1) (by omega) hla.1;refine wnY (aI @ek @evv) ?_;refine KB (i:=i) ev0 af (by rw[ae (by omega)];exact q1) rfl (by simp) (by rw[bm,hkl];exact hi) ?_;refine wnY (aI @ek @evv) ?_;have w0:ar (ar (ar H3 (nx1+1) [AV.oiter 1 ((b8 M).map (AV.int .i64)).length (seen++[i])]) nx3 [AV.esl,AV.esl]) nx3 (bC [AV.esl,AV.esl] 0 [aH l.1,aH l.2]) 0=some [.int .i64 c,bK R]:=by rw[ae (by omega),ae (by omega),ae (by omega)];exact q0
   have w2:ar (ar (ar H3 (nx1+1) [AV.oiter 1 ((b8 M).map (AV.int .i64)).length (seen++[i])]) nx3 [AV.esl,AV.esl]) nx3 (bC [AV.esl,AV.esl] 0 [aH l.1,aH l.2]) 2=some [.mp 1]:=by rw[ae (by omega),ae (by omega),ae (by omega)];exact q2
   have w1:ar (ar (ar H3 (nx1+1) [AV.oiter 1 ((b8 M).map (AV.int .i64)).length (seen++[i])]) nx3 [AV.esl,AV.esl]) nx3 (bC [AV.esl,AV.esl] 0 [aH l.1,aH l.2]) 1=some [.omap ((b8 M).map (AV.int .i64)) (vsS M y seen)]:=by rw[ae (by omega),ae (by omega),ae (by omega)];exact q1
   have wy:ar (ar (ar H3 (nx1+1) [AV.oiter 1 ((b8 M).map (AV.int .i64)).length (seen++[i])]) nx3 [AV.esl,AV.esl]) nx3 (bC [AV.esl,AV.esl] 0 [aH l.1,aH l.2]) nx1=some [aH y.1,aH y.2]:=by rw[ae (by omega),ae (by omega),ae (by omega)];exact qy
   have wl:ar (ar (ar H3 (nx1+1) [AV.oiter 1 ((b8 M).map (AV.int .i64)).length (seen++[i])]) nx3 [AV.esl,AV.esl]) nx3 (bC [AV.esl,AV.esl] 0 [aH l.1,aH l.2]) nx3=some [aH l.1,aH l.2]:=by rw[af];rfl
   have wi:ar (ar (ar H3 (nx1+1) [AV.oiter 1 ((b8 M).map (AV.int .i64)).length (seen++[i])]) nx3 [AV.esl,AV.esl]) nx3 (bC [AV.esl,AV.esl] 0 [aH l.1,aH l.2]) (nx1+1)=some [.oiter 1 ((b8 M).map (AV.int .i64)).length (seen++[i])]:=by rw[ae (by omega),ae (by omega),af]
   have wd:Row (ar (ar (ar H3 (nx1+1) [AV.oiter 1 ((b8 M).map (AV.int .i64)).length (seen++[i])]) nx3 [AV.esl,AV.esl]) nx3 (bC [AV.esl,AV.esl] 0 [aH l.1,aH l.2])) 1 dv (D.map aH):=qd.same λb hb=>by
    have:=h7 b hb;rw[ae (by omega),ae (by omega),ae (by omega)]
   generalize ar (ar (ar H3 (nx1+1) [AV.oiter 1 ((b8 M).map (AV.int .i64)).length (seen++[i])]) nx3 [AV.esl,AV.esl]) nx3 (bC [AV.esl,AV.esl] 0 [aH l.1,aH l.2])=H4 at *;clear q0 q2 q1 qy qd;by_cases hin:ld y.1∈l.1
   ·rw[a6 hin] at hhas;have hs1:=wZ l.1 y.1 (by omega) (by omega);have hs2:=wZ l.2 y.2 (by omega) (by omega);have hcl:fk (jW y l)=.agg [aH (bV l.1 y.1),aH (bV l.2 y.2)]:=by unfold jW;rw[if_pos hin];rfl
    rw[hcl] at hset;clear hcl;generalize bV l.1 y.1=s1 at *;generalize bV l.2 y.2=s2 at *;refine wkY (zI3 @wy @wl @ix0) ?_;refine B9 2 nx3 nx1 w2 wl wy (by omega) (by omega) (by omega) λS hS1 hS2 hS3 hsub=>?_;refine wnY (zI3 @hS1 @hS2 @hS3) ?_;simp only[ew,List.map_nil,List.getD_cons_succ,List.getD_cons_zero];refine d8 ?_;refine wnY and_self ?_;refine⟨hsub _ w2 wl wy,?_⟩;refine d8 ?_;refine wnY and_self ?_;refine⟨hsub _ w2 wl wy,?_⟩;refine wnY and_self ?_;have hmf:=jc (ld l.1) (b8 M);rw[if_pos hkm,hidx] at hmf;refine qz ev0 w1 ev0 ev0 rfl hmf ?_;refine wnY and_self ?_;refine⟨seen++[i],by rw[cP,List.length_singleton];omega,⟨(ae (by omega)).trans wi,by omega,r3',r4',(ae (by omega)).trans w0,(ae (by omega)).trans w2,(ae (by omega)).trans wy,?_,wd.same λb hb=>by have:=h7 b hb;rw[ae (by omega)]⟩,ag0⟩;rw[af,<-hset];rfl
   ·rw[ba hin] at hhas;refine wkY (zI3 @wy @wl @ix0) ?_;exact⟨seen++[i],by rw[cP,List.length_singleton];omega,⟨wi,by omega,r3',r4',w0,w2,wy,by rw[hsame hin];exact w1,wd⟩,ag0⟩
  ·have hall:∀i,i<M.length->i∈seen:=λi hi=>hall i (by rw[bm,hkl];exact hi) (by rw[bm,hkl];exact hi);rw[IV hall,<-AD hM hay h0 hno] at q1
   have hkk:ld y.1∉b8 (M.map (jW y)):=by
    rw[AD hM hay h0 hno,nS];rintro⟨l,hl,e⟩;exact hno l hl (by rw[e];exact dl h0)
   refine wnY (zI3 @q2 @qy @ix0) ?_;refine qE 2 nx1 q2 qy (by omega) λS hS1 hS2 hsub=>?_;have zz:=aI @hS1 (aI @hS2 @ix0);repeat' (first|apply a_n|refine zO ?_|refine nvY ?_|apply kg|fail)
   simp only[ew,List.map_nil,List.getD_cons_succ,List.getD_cons_zero]
   skip
   have hmf:=jc (ld y.1) (b8 (M.map (jW y)));rw[if_neg hkk] at hmf;refine qz ev0 q1 ev0 ev0 rfl hmf ?_;refine wnY and_self ?_;refine⟨(dv,k+1),by dsimp only;omega,⟨by dsimp only;omega,by omega,(ae (by omega)).trans q0,(ae (by omega)).trans q2,?_,?_,λb hb=>by have:=h7 b hb;omega⟩,ag0⟩
   ·dsimp only;rw[hss];unfold LM;rw[af];unfold kA b8;simp[da,gQ,fk]
   ·dsimp only;rw[hss];exact qd.same λb hb=>by have:=h7 b hb;rw[ae (by omega)]
 rintro T H nx ⟨t1,t4,h2,h3,h4,h5,dv,t6,h6,h7⟩;have hst:=eI hR (aM R.length);have hbl:=BH hR hv (aM R.length);have hsl:=yI hR (aM R.length);unfold ka;generalize stE R R.length=MD at *;obtain⟨M,D⟩:=MD;dsimp only at *;have hM:=hst.red;refine wnY (zI5 @t1 @t4 @t6 @h3 @h4) ?_;refine bF (X:=AV×Nat) (λx=>[(4,.ptr 2 1 0),(6,dv),(12,x.1),(77,.int .i64 c),(78,.int .i64 x.2)]) (λx H' nx'=>x.2<=c/\nx<=nx'/\H' 2=some [.mp 1]/\LM H' 1 M/\Row H' 1 dv (D.map aH)/\Row H' 2 x.1 (cLs (mC M x.2))/\∀b,bX x.1=some b->nx<=b/\b<nx') (λx=>c-x.2) (.esl,0) ⟨bQ _,aM _,h4,h5,h6,Row.nil,λb h=>(by cases h)⟩ (have zz:=aI @t4 @t6;agZ) ?_;clear h3 h4 h5 h6;rintro⟨ov,k⟩ H' nx' ⟨g1,g2,g3,g4,g5,g6,g7⟩;dsimp only at g1 g2 g3 g4 g5 g6 g7 |-;by_cases hk:k<c
 rotate_left
 ·obtain rfl:k=c:=by omega
  refine wnY and_self ?_;exact bA (ah (I0 g6) (ah (qi g5) ap))
 have hos:=qR (M:=M) (c:=k);have hol:=Bc (M:=M) (c:=k);have hmf:=jc (k:Int) (b8 M);refine wnY @g3 ?_;by_cases hm:(k:Int)∈b8 M
 rotate_left
 ·rw[if_neg hm] at hmf;refine jF ev0 g4 ev0 rfl hmf ?_;have hmg:Go.Abs.mget (.agg [.esl,.esl]) true none (M.map fk)=.tup [.agg [.esl,.esl],.bool false]:=rfl;rw[hmg];refine wnY and_self ?_;rw[BN hm] at hos;have hos:mC M (k+1)=mC M k:=by rw[hos];simp
  refine⟨(ov,k+1),by dsimp only;omega,⟨by dsimp only;omega,by omega,by rw[ae (by omega),ae (by omega)];exact g3,?_,g5.same λb hb=>by have:=h7 b hb;rw[ae (by omega),ae (by omega)],?_,λb hb=>by have:=g7 b hb;omega⟩,ag0⟩
  ·unfold LM;rw[ae (by omega),ae (by omega)];exact g4
  ·dsimp only;rw[hos];exact g6.same λb hb=>by have:=g7 b hb;rw[ae (by omega),ae (by omega)]
 obtain⟨l,hl,hld,hgd⟩:=wL hm;rw[if_pos hm] at hmf;refine jF ev0 g4 ev0 rfl hmf ?_
 have hmg:Go.Abs.mget (.agg [.esl,.esl]) true (some ((b8 M).idxOf (k:Int))) (M.map fk)=.tup [.agg [aH l.1,aH l.2],.bool true]:=by
  show AV.tup [(M.map fk).getD ((b8 M).idxOf (k:Int)) .undef,.bool true]=_;rw[hgd];rfl
 rw[hmg];rw[G1 hM hl hld] at hos;have hos:mC M (k+1)=mC M k++[l]:=hos;refine wnY and_self ?_;refine mg rfl ev0 (g6.same λb hb=>?_) ev0 rh rfl rfl (by omega) (by rw[Du];omega) (by rw[Du];omega) ?_
 ·have:=g7 b hb;rw[ae (by omega),ae (by omega),ae (by omega)]
 rintro s2 H2 nx2 hr2 i1 i2 i3 i4;have hdo:∀b,b<nx->bX ov≠some b:=λb hb e=>by have:=g7 b e;omega
 have lo2:∀b,b<nx->H2 b=H' b:=λb hb=>(i3 b (by omega) (hdo b hb)).trans (by rw[ae (by omega),ae (by omega),ae (by omega)]);refine wnY and_self ?_;refine⟨(s2,k+1),by dsimp only;omega,⟨by dsimp only;omega,by omega,(lo2 2 (by omega)).trans g3,(lo2 1 (by omega)).trans g4,g5.same λb hb=>by have:=h7 b hb;rw[lo2 b (by omega)],?_,λb hb=>?_⟩,ag0⟩
 ·dsimp only;rw[hos,G3];exact hr2
 ·rcases i4 b hb with h|h
  ·have:=g7 b h;omega
  ·omega
theorem o7(c:Nat)(R:List (List Int))(hm:hU c R):pU 134 [ez c R] (.tup [ez c (de R c),.int .i64 0]):=by
 refine pO Oe ?_;simp only[MY,aL];have h1:=me c R hm;have z0:decide ((0:Int)≠0)=false:=rfl;have hd:Dat (.agg [.int .i64 c,bK R]):=dG c R;have hec:=wW c R (by have:=hm.2.1;omega) hm.2.2.1 (gq hm) (λr hr z hz=>(hm.2.2.2 r hr).1 z hz);have hll:=lD (R:=R) (c:=c);have hmc:=hm.2.1;rw[dI] at hec |-;unfold de;generalize ka R c=L at *;refine wnY (aI @z0 @uY) ?_;refine lpI (X:=AV×Nat) (λx=>[(2,.ptr 1 2 0),(5,.ptr 2 2 0),(24,mQ L),(25,.int .i64 L.length),(26,.int .i64 x.2)]) (λx H nx=>x.2<=L.length/\3<=nx/\H 1=some [.int .i64 0,.esl]/\H 2=some [.int .i64 c,x.1]/\Row H 1 x.1 (((L.take x.2).map Prod.fst).map aH)/\∀b,bX x.1=some b->2<b/\b<nx) (λx=>L.length-x.2) (.esl,0) ⟨bQ _,aM _,rfl,rfl,Row.nil,λb h=>(by cases h)⟩ ?_;rintro⟨sv,k⟩ H nx ⟨g1,g2,g3,g4,g5,g6⟩;dsimp only at g1 g2 g3 g4 g5 g6 |-;by_cases hk:k<L.length
 rotate_left
 ·rw[ib (by omega)] at g5;obtain⟨o1,o2⟩:=g5.one;refine wnY (zI4 @g3 @g4 @o1 @o2) ?_;refine kB (qi (g5.same λb hb=>?_)) rfl;have:=g6 b hb;rw[ae (by omega)]
 have ix:=Nb hk;have hts:=ci hk;have hlt:(L.take k).length<=k:=by rw[gV];omega
 generalize L.getD k default=l at *;refine wnY (aI @ix @g4) ?_;refine mg rfl ev0 (g5.same λb hb=>?_) ev0 iJ rfl rfl lh (by rw[bm,bm];omega) (by rw[bm,bm];omega) ?_
 ·have:=g6 b hb;rw[ae (by omega),ae (by omega),ae (by omega)]
 rintro s2 H2 nx2 hr2 i1 i2 i3 i4;have hdo:∀b,b<=2->bX sv≠some b:=λb hb e=>by have:=g6 b e;omega
 have lo2:∀b,b<=2->H2 b=H b:=λb hb=>(i3 b (by omega) (hdo b hb)).trans (by rw[ae (by omega),ae (by omega),ae (by omega)])
 have hn2:∀b,bX s2=some b->2<b/\b<nx2:=λb hb=>by
  rcases i4 b hb with h|h
  ·have:=g6 b h;omega
  ·omega
 have k4:=(lo2 2 (by omega)).trans g4;obtain⟨o1,o2⟩:=hr2.one;refine wnY (zI3 @k4 @o1 @o2) ?_;refine⟨(s2,k+1),by dsimp only;omega,⟨by dsimp only;omega,by omega,by rw[ae (by omega)];exact(lo2 1 (by omega)).trans g3,by rw[af];rfl,?_,hn2⟩,ag0⟩;dsimp only;rw[hts,dq,dq];exact hr2.same λb hb=>by have:=hn2 b hb;rw[ae (by omega)]
theorem B5(c:Nat)(R:List (List Int))(hm:hU c R):pU 97 [ez c R] (.tup [.int .i64 (de R c).length,.int .i64 0]):=by
 refine pO Pn ?_;simp only[b97,aL];have he:=o7 c R hm;have hd:Dat (.agg [.int .i64 c,bK R]):=dG c R;rw[dI,dI] at he;rw[dI];generalize de R c=E at *;refine wnY @fm ?_;exact bA (ah (.int _ _) (ah (.int _ _) ap))
def Jn(D:List (List Int))(b:List Int):Option (List Int):=D.find? λy=>ja y b
def kW(L:List Ln)(b:List Int):List Int:=(L.filter λl=>ja l.2 b).map λl=>ld l.1
def rz(R:List (List Int))(c:Nat)(b:List Int):List Int×List Int×Bool:=match Jn (stE R R.length).2 b with
 |some y=>([],y,false)
 |none=>(kW (ka R c) b,[],true)
theorem EA{L:List Ln}{x:Ln}{b:List Int}:kW (L++[x]) b=kW L b++if ja x.2 b=true then [ld x.1] else []:=by
 unfold kW;rw[yw,dq]
 congr 1
 by_cases h:ja x.2 b=true
 ·rw[if_pos h,vW (by simpa using h)];rfl
 ·rw[if_neg h,vU (by simpa using h)];rfl
theorem Ed{D:List (List Int)}{p:List Int->Bool}{k:Nat}(h:∀i,i<k->p (D.getD i default)=false)(hk:k<D.length)(hp:p (D.getD k default)=true):D.find? p=some (D.getD k default):=by
 induction D generalizing k with
 |nil=>simp at hk
 |cons y D ih=>
  match k with
  | 0 => have hp : p y = true := hp
         show List.find? p (y::D)=some y;rw[List.find?_cons_of_pos hp]
  |k+1=>
   have h0:¬p y=true:=by have:=h 0 (by omega);rw[show(y::D).getD 0 default=y from rfl] at this;rw[this];decide
   rw[List.find?_cons_of_neg h0];exact ih (k:=k) (λi hi=>h (i+1) (by omega)) (by simpa using hk) hp
theorem Ix(c:Nat)(R:List (List Int))(b:List Int)(hm:hU c R)(hbr:∀v∈b,0<=v/\v<(R.length:Int))(hba:bd b):pU 59 [ez c R,aH b] (.tup [aH (rz R c b).1,aH (rz R c b).2.1,.bool (rz R c b).2.2,.int .i64 0]):=by
 refine pO PT ?_;simp only[b59,aL];have hmR:=gq hm;have hmv:∀r∈R,∀z∈r,0<=z/\z<(c:Int):=λr hr z hz=>(hm.2.2.2 r hr).1 z hz;have hbl:=eT hba hbr;have h1:=me c R hm
 have h2:=qx b (R.length:Int) (by have:=hm.2.2.1; omega) hbr (fun i hi=>by
  have:=kE.1 hba i (i+1) (by omega) hi (by omega);simpa[List.getD,show i<b.length by omega,hi] using this)
 have z0:decide ((0:Int)≠0)=false:=rfl;have hd:Dat (.agg [.int .i64 c,bK R]):=dG c R;have hec:=wW c R (by have:=hm.2.1;omega) hm.2.2.1 hmR hmv;have hll:=lD (R:=R) (c:=c);have hmc:=hm.2.1;have hrl:=hm.2.2.1;have hsl:=yI hmR (aM R.length);have hok:=eI hmR (aM R.length)
 have hel:∀l∈ka R c,l.1≠[]/\l.2.length<=4096:=λl hl=>by
  have hl':=((fR hmR hmv).2.2 l).1 hl;refine⟨hok.red.ne l hl',?_⟩;have:=((BH hmR hmv (aM R.length)) l hl').len (hok.red.asc l hl');omega
 have hdl:∀y∈(stE R R.length).2,y.length<=4096:=λy hy=>by
  have h3:=hok.dep y hy;have h4:y.length<=R.length:=eT h3.1.2 h3.2.2;omega
 rw[dI] at hec |-;unfold rz;generalize ka R c=L at *;generalize (stE R R.length).2=D at *;refine dJ ?_
 repeat' (first|apply a_n|refine zO ?_|refine vY ?_|refine bxY ?_|fail)
 refine dJ ?_;refine wnY (zI3 @z0 @uY @fm) ?_;refine lpI (X:=Nat) (λk=>[(1,aH b),(10,mQ L),(35,bK D),(36,.int .i64 D.length),(37,.int .i64 k)]) (λk H nx=>k<=D.length/\∀i,i<k->ja (D.getD i default) b=false) (λk=>D.length-k) 0 ⟨bQ _,λi h=>absurd h (by omega)⟩ ?_;rintro k H nx ⟨g1,g2⟩;by_cases hk:k<D.length
 ·have ix:=E6 hk;have hyl:=hdl _ (aA hk);have hod:=FY (D.getD k default) b (by omega) (by omega);by_cases ho:ja (D.getD k default) b=true
  ·have hsy:Jn D b=some (D.getD k default):=Ed (p:=λy=>ja y b) g2 hk ho;rw[hsy];rw[ho] at hod;generalize D.getD k default=y at *;refine wnY @ix ?_;refine r_4 rfl rfl rfl rfl ?_;exact bA (ah (.eslsl 1) (ah (dp y).snap (ah (.bool _) (ah (.int _ _) ap))))
  ·have ho:ja (D.getD k default) b=false:=by simpa using ho
   have hg2:∀i,i<k+1->ja (D.getD i default) b=false:=λi hi=>by
    rcases(by omega:i<k\/i=k) with h|rfl
    ·exact g2 i h
    ·exact ho
   rw[ho] at hod;generalize D.getD k default=y at *;refine wnY @ix ?_;exact⟨k+1,by omega,⟨by omega,hg2⟩,ag0⟩
 have hsy:Jn D b=none:=by
  refine List.find?_eq_none.2 λy hy=>?_;obtain⟨i,hi,e⟩:=kI hy;have:=g2 i (by omega);rw[show D.getD i default=y by simp[List.getD,hi,e]] at this;rw[this];decide
 rw[hsy];clear hsy g2;refine wnY @uY ?_;refine lpI (X:=AV×Nat) (λx=>[(1,aH b),(14,x.1),(46,mQ L),(47,.int .i64 L.length),(48,.int .i64 x.2)]) (λx H nx=>x.2<=L.length/\Row H 1 x.1 ((kW (L.take x.2) b).map (AV.int .i64))/\∀b,bX x.1=some b->b<nx) (λx=>L.length-x.2) (.esl,0) ⟨bQ _,Row.nil,λb h=>(by cases h)⟩ ?_;rintro⟨sv,k⟩ H nx ⟨g1,g2,g3⟩;dsimp only at g1 g2 g3 |-;by_cases hk:k<L.length
 rotate_left
 ·rw[ib (by omega)] at g2;refine wnY and_self ?_;refine r_4 rfl rfl rfl rfl ?_;exact bA (ah g2.snapI (ah (.eslsl 1) (ah (.bool _) (ah (.int _ _) ap))))
 have ix:=Nb hk;have hts:=ci hk;obtain⟨hn,hl2⟩:=hel _ (aA hk)
 have hxl:(kW (L.take k) b).length<=k:=by
  unfold kW;rw[bm];refine fK (List.length_filter_le _ _) ?_;rw[gV];omega
 have hsx:=EA (L:=L.take k) (x:=L.getD k default) (b:=b);rw[<-hts] at hsx;generalize L.getD k default=l at *;have hod:=FY l.2 b (by omega) (by omega);have ix0:=IX hn;by_cases ho:ja l.2 b=true
 ·rw[ho] at hod;rw[if_pos ho] at hsx;refine wnY (aI @ix @ix0) ?_;refine eR (g2.same λb hb=>?_) ?_
  ·have:=g3 b hb;rw[ae (by omega),ae (by omega),ae (by omega)]
  rintro s2 H2 nx2 hr2 i1 i2 i3 i4;refine wnY and_self ?_;refine⟨(s2,k+1),by dsimp only;omega,⟨by dsimp only;omega,?_,λb hb=>?_⟩,ag0⟩
  ·dsimp only;rw[hsx,dq];exact hr2
  ·rcases i4 b hb with h|h
   ·have:=g3 b h;omega
   ·omega
 ·have ho:ja l.2 b=false:=by simpa using ho
  rw[ho] at hod;rw[ho,if_neg (by decide),fY] at hsx;refine wnY (aI @ix @ix0) ?_;refine⟨(sv,k+1),by dsimp only;omega,⟨by dsimp only;omega,?_,λb hb=>by have:=g3 b hb;omega⟩,ag0⟩;dsimp only;rw[hsx];exact g2.same λb hb=>by have:=g3 b hb;rw[ae (by omega),ae (by omega)]
theorem Ds(c:List Spx)(hc:aB c=0)(hl:c.length<=50):pU 37 [cl c] (.tup [.int .i64 (tU c 8),.int .i64 0]):=by
 refine pO Mw ?_;simp only[b37,aL];have hcc:=jS c (show _<=_ by omega) (kP hc);rw[hc] at hcc;have z0:decide ((0:Int)≠0)=false:=rfl;have hbd:=λk:Nat=>CO (c:=c) (λk=>pm (k:=k) hl λs hs=>(cE ((d6 hc).2.1 s hs)).2.1) k;have hll:=λk=>pm (k:=k) hl λs hs=>(cE ((d6 hc).2.1 s hs)).2.1;have hf:=λk(hk:1<=k/\k<=8)=>A8 c k hl (d6 hc).2.1 hk;refine wnY (zI3 @z0 @ak @ag) ?_;refine lpI (X:=Nat) (λk=>[(1,.ptr 0 1 0),(5,.int .i64 (tU c k)),(6,.int .i64 (k+1:Nat))]) (λk H nx=>k<=8/\H 0=some [ao c]) (λk=>8-k) 0 ⟨bQ _,rfl⟩ ?_;rintro k H nx ⟨g1,g2⟩;by_cases hk:k<8
 rotate_left
 ·obtain rfl:k=8:=by omega
  refine wnY and_self ?_;exact bA (ah (.int _ _) (ah (.int _ _) ap))
 have hf1:=hf (k+1) ⟨by omega,by omega⟩;have hl1:=hll (k+1);have hb1:=hbd k;have hb2:=hbd (k+1);have hes:tU c (k+1)=if (k+1)%2=1 then tU c k+((jb c (k+1)).length:Int) else tU c k-((jb c (k+1)).length:Int):=rfl
 have hr:∀tb tf,bv .rem tb tf (.int .i64 ((k+1:Nat):Int)) (.int .i64 2)=some (.int .i64 (((k+1)%2:Nat):Int)):=λtb tf=>by
  rw[yb (by omega) (by omega)]
  congr 2
 generalize jb c (k+1)=L at *;generalize tU c k=E0 at *;by_cases hodd:(k+1)%2=1
 ·rw[if_pos hodd] at hes;rw[hes] at hb2;have zr:decide ((((k+1)%2:Nat):Int)=1)=true:=a6 (by omega);refine wnY (zI5 @g2 @z0 @hr @zr @ai) ?_;exact⟨k+1,by omega,⟨by omega,g2⟩,by rw[hes,show((k+1+1:Nat):Int)=((k+1:Nat):Int)+1 by omega];simp (disch:=omega) only[agr,ZG,reduceEqDiff,↓reduceIte]⟩
 ·rw[if_neg hodd] at hes;rw[hes] at hb2;have zr:decide ((((k+1)%2:Nat):Int)=1)=false:=ba (by omega);refine wnY (zI5 @g2 @z0 @hr @zr @ai) ?_;exact⟨k+1,by omega,⟨by omega,g2⟩,by rw[hes,show((k+1+1:Nat):Int)=((k+1:Nat):Int)+1 by omega];simp (disch:=omega) only[agr,ZG,reduceEqDiff,↓reduceIte]⟩
theorem zE(c:List Spx)(hc:Shn c)(hs:∀s∈c,Shn s):pU 94 [cl c] (.tup [.int .i64 (jL c-1),.bool (GN c)]):=by
 refine pO Pa ?_;simp only[b94,aL];unfold jL GN;have hc':c.length<=17592186044416:=hc;refine wnY (zI3 @ak @ag @ai) ?_;refine lpI (X:=Nat) (λk=>[(4,.int .i64 (nu c k).1),(5,.int .i64 (nu c k).2),(9,ao c),(10,.int .i64 c.length),(11,.int .i64 k)]) (λk H nx=>k<=c.length) (λk=>c.length-k) 0 (bQ _) ?_;rintro k H nx h1;have hb:=yA (m:=17592186044416) (by omega) (λs h=>by have:s.length<=_:=hs s h;omega) h1;by_cases hk:k<c.length
 rotate_left
 ·obtain rfl:k=c.length:=by omega
  generalize nu c c.length=P at *;obtain⟨a,m⟩:=P;dsimp only at hb |-;by_cases h0:m=0
  ·have z:decide (m=0)=true:=a6 h0;rw[z,Bool.true_or];refine wnY @z ?_;exact bA (ah (.int _ _) (ah (.bool _) ap))
  ·have z:decide (m=0)=false:=ba h0;rw[z,Bool.false_or];refine wnY @z ?_;exact bA (ah (.int _ _) (ah (.bool _) ap))
 have ix:=fQ hk;have hsl:(c.getD k default).length<=17592186044416:=hs _ (aA hk);have e:nu c (k+1)=(min (nu c k).1 ((c.getD k default).length:Int),max (nu c k).2 ((c.getD k default).length:Int)):=rfl;generalize c.getD k default=s at *;refine wnY (aI @ix @az) ?_;exact⟨k+1,by omega,by omega,by rw[e];simp (disch:=omega) only[agr,ZG,reduceEqDiff,↓reduceIte]⟩
theorem pM(c:List Spx)(hc:aB c=0)(hl:c.length<=50):pU 96 [cl c] (.tup [.int .i64 (jL c-1),.bool (GN c),.int .i64 0]):=by
 refine pO Px ?_;simp only[b96,aL];have hcc:=jS c (show _<=_ by omega) (kP hc);rw[hc] at hcc;have hd:=zE c (show _<=_ by omega) (kP hc);have z0:decide ((0:Int)≠0)=false:=rfl;refine wnY (zI3 @z0 @ak @ag) ?_;refine bA (ah (.int _ _) (ah (.bool _) (ah (.int _ _) ap)))
theorem sK(c:List Spx)(d:Nat)(hc:aB c=0)(hl:c.length<=50)(hd:d<=8):pU 98 [cl c,.int .i64 d] (.tup [.int .i64 (aj c ((d:Int)+1)).length,.int .i64 0]):=by
 refine pO PO ?_;simp only[b98,aL];by_cases h8:d=8
 ·rw[yT hc (by omega)];subst h8;refine wnY (aI @ak @ag) ?_;exact bA (ah (.int _ _) (ah (.int _ _) ap))
 have hs:=lV c ((d:Int)+1) hl (kP hc)
 have e:fM c ((d:Int)+1)=(aj c ((d:Int)+1),0):=by
  unfold fM aj;rw[if_neg (λq=>q hc),if_neg (by omega),if_neg (by omega)]
 rw[e] at hs;dsimp only at hs;have hll:=cQ hc hl (d:=(d:Int)+1);generalize aj c ((d:Int)+1)=X at *;have z1:decide ((d:Int)<0)=false:=ba (by omega);have z2:decide ((8:Int)<=d)=false:=ba (by omega);refine wnY (zI5 @ak @ag @ai @z1 @z2) ?_;exact bA (ah (.int _ _) (ah (.int _ _) ap))
theorem nM(c:List Spx)(d:Nat)(hc:aB c=0)(hl:c.length<=50)(hd:d<=8):pU 58 [cl c,.int .i64 d] (.tup [ez (aj c ((d:Int)+1)).length (b7 (aj c ((d:Int)+1)) (aj c d)),.int .i64 0]):=by
 refine pO Pb ?_;simp only[b58,aL];by_cases h8:d=8
 ·rw[yT hc (by omega),As];subst h8;have hs:pU 98 [cl c,.int .i64 (((8:Nat):Int)-1)] (.tup [.int .i64 (aj c ((8:Nat):Int)).length,.int .i64 0]):=sK c 7 hc hl (by omega);have hll:=cQ hc hl (d:=((8:Nat):Int));generalize (aj c ((8:Nat):Int)).length=n at *;have hzc:bH (AV.agg [AV.esl]) n=List.replicate n .esl:=by simp[bH,AV.cells]
  refine wnY (aI @ak @ag) ?_;refine yW (k1:=.i64) (k2:=.i64) (n:=n) (m:=n) rfl ev0 ev0 (by omega) (Int.le_refl _) (by omega) (by omega) ?_;rw[bN,hzc,Nat.mul_one];refine wnY and_self ?_;exact kB (Ew (by rw[ae (by omega),af])) rfl
 have hm:=Lk c d hl (kP hc)
 have e:pA c d=(((((aj c ((d:Int)+1)).length:Nat):Int),b7 (aj c ((d:Int)+1)) (aj c d)),0):=by
  unfold pA;rw[if_neg (λq=>q hc),if_neg (by omega)]
 rw[e] at hm;dsimp only at hm;generalize b7 (aj c ((d:Int)+1)) (aj c d)=R at *;generalize (aj c ((d:Int)+1)).length=n at *;rw[dI] at hm |-;have z2:decide ((d:Int)<8)=true:=a6 (by omega);refine wnY (zI3 @ak @ag @z2) ?_;exact kB (nF _).snap rfl
theorem Iu(c:List Spx)(m:Nat)(hc:aB c=0)(hl:c.length<=50)(hm:jL c=m)(hm8:m<=8):pU 44 [cl c] (.tup [aH (btL c m),.int .i64 0]):=by
 refine pO Mc ?_;simp only[b44,aL];have hdi:=pM c hc hl;rw[hm] at hdi;have z0:decide ((0:Int)≠0)=false:=rfl;have hed:=λd(h:d<=8)=>nM c d hc hl h;have hsz:=λd(h:d<=8)=>sK c d hc hl h;have hrl:=λd:Int=>cQ hc hl (d:=d);have hrk:=λd:Nat=>B5 (aj c ((d:Int)+1)).length (b7 (aj c ((d:Int)+1)) (aj c d)) (lW (by have:=hrl ((d:Int)+1);omega) (by have:=hrl d;omega));have hrf:=λd:Nat=>uH (c:=c) (d:=d);refine wnY (zI3 @z0 @ak @ag) ?_;refine ws ?_;refine wnY and_self ?_;refine lpI (X:=Nat) (λk=>[(1,.ptr 0 1 0),(4,.int .i64 ((m:Int)-1)),(7,.mp 1),(26,.int .i64 ((m:Int)-1+2)),(27,.int .i64 k)]) (λk H nx=>k<=m+1/\2<=nx/\H 0=some [ao c]/\H 1=some [.omap ((rkK k).map (AV.int .i64)) (rkV c k)]) (λk=>m+1-k) 0 ⟨bQ _,aM _,rfl,rfl⟩ ?_;rintro k H nx ⟨g1,g2,g3,g4⟩;by_cases hk:k<m+1
 ·have hed1:=hed k (by omega);have hrk1:=hrk k;have hr1:=hrl ((k:Int)+1);have hd1:Dat (ez (aj c ((k:Int)+1)).length (b7 (aj c ((k:Int)+1)) (aj c k))):=dG _ _;change pU 97 _ (.tup [.int .i64 (rkF c k),.int .i64 0]) at hrk1;rw[dI] at hed1 hrk1 hd1;generalize b7 (aj c ((k:Int)+1)) (aj c k)=R at *;generalize (aj c ((k:Int)+1)).length=n at *;have z1:decide ((k:Int)<(m:Int)-1+2)=true:=a6 (by omega);refine wnY (zI5 @g3 @z0 @z1 @ak @ag) ?_;have hmf:=jc (k:Int) (rkK k);rw[if_neg (λq=>by have:=lP.1 q;omega)] at hmf;refine qz ev0 ((ae (by omega)).trans ((ae (by omega)).trans g4)) ev0 ev0 rfl hmf ?_;refine wnY @z0 ?_;refine⟨k+1,by omega,⟨by omega,by omega,by rw[ae (by omega),ae (by omega),ae (by omega)];exact g3,?_⟩,ag0⟩;rw[af,y5,AQ,dq];rfl
 obtain rfl:k=m+1:=by omega
 have z1:decide (((m+1:Nat):Int)<(m:Int)-1+2)=false:=ba (by omega);refine wnY @z1 ?_;refine lpI (X:=AV×Nat) (λx=>[(1,.ptr 0 1 0),(7,.mp 1),(11,x.1),(51,.int .i64 ((m:Int)-1+1)),(52,.int .i64 x.2)]) (λx H nx=>x.2<=m/\2<=nx/\H 0=some [ao c]/\H 1=some [.omap ((rkK (m+1)).map (AV.int .i64)) (rkV c (m+1))]/\Row H 1 x.1 ((btL c x.2).map (AV.int .i64))/\∀b,bX x.1=some b->2<=b/\b<nx) (λx=>m-x.2) (.esl,0) ⟨bQ _,g2,g3,g4,Row.nil,λb h=>(by cases h)⟩ ?_;clear g1 g2 g3 g4;rintro⟨sv,k⟩ H nx ⟨g1,g2,g3,g4,g5,g6⟩;dsimp only at g1 g2 g3 g4 g5 g6 |-;by_cases hk:k<m
 rotate_left
 ·obtain rfl:k=m:=by omega
  have z1:decide ((k:Int)<(k:Int)-1+1)=false:=ba (by omega);refine wnY @z1 ?_;exact kG g5.snapI rfl
 have hsz1:=hsz k (by omega);have hr1:=hrl ((k:Int)+1);have hr2:=hrl (((k+1:Nat):Int)+1);have hf1:=hrf k;have hf2:=hrf (k+1);have hmf1:=jc (k:Int) (rkK (m+1));rw[if_pos (lP.2 (by omega)),sG (by omega)] at hmf1;have hmf2:=jc ((k+1:Nat):Int) (rkK (m+1));rw[if_pos (lP.2 (by omega)),sG (by omega)] at hmf2;rw[show((k+1:Nat):Int)=(k:Int)+1 by omega] at hmf2;have hv1:Go.Abs.mget (.int .i64 0) false (some k) (rkV c (m+1))=.int .i64 (rkF c k):=sx (by omega);have hv2:Go.Abs.mget (.int .i64 0) false (some (k+1)) (rkV c (m+1))=.int .i64 (rkF c (k+1)):=sx (by omega);have hsn:=A3 (c:=c) (n:=k);have hbl:(btL c k).length=k:=by unfold btL;simp
 have hbf:btF c k=((aj c ((k:Int)+1)).length:Int)-(rkF c k:Int)-(rkF c (k+1):Int):=rfl;rw[hbf] at hsn;generalize rkF c k=f1 at *;generalize rkF c (k+1)=f2 at *;generalize (aj c ((k:Int)+1)).length=n at *;generalize (aj c (((k+1:Nat):Int)+1)).length=n2 at *;have z1:decide ((k:Int)<(m:Int)-1+1)=true:=a6 (by omega);refine wnY (zI5 @g3 @z0 @z1 @ak @ag) ?_;refine jF ev0 g4 ev0 rfl hmf1 ?_;rw[hv1];refine wnY and_self ?_;refine jF ev0 g4 ev0 rfl hmf2 ?_;rw[hv2];refine wnY and_self ?_;refine eR (g5.same λb hb=>?_) ?_
 ·have:=g6 b hb;rw[ae (by omega)]
 rintro s2 H2 nx2 hr3 i1 i2 i3 i4;have hdo:∀b,b<2->bX sv≠some b:=λb hb e=>by have:=g6 b e;omega
 have lo2:∀b,b<2->H2 b=H b:=λb hb=>(i3 b (by omega) (hdo b hb)).trans (by rw[ae (by omega)]);refine wnY and_self ?_;refine⟨(s2,k+1),by dsimp only;omega,⟨by dsimp only;omega,by omega,(lo2 0 (by omega)).trans g3,(lo2 1 (by omega)).trans g4,?_,λb hb=>?_⟩,ag0⟩
 ·dsimp only;rw[hsn,dq];exact hr3
 ·rcases i4 b hb with h|h
  ·have:=g6 b h;omega
  ·omega
theorem qw(c:List Spx)(m:Nat)(hc:aB c=0)(hl:c.length<=50)(hm:jL c=m)(hm8:m<=8):pU 13 [cl c] (.tup [aH (btL c m),.int .i64 0]):=by
 have hch:pU 43 [cl c] (.int .i64 0):=by
  refine pO Kn ?_;simp only[b43,aL];have he:=Ds c hc hl;refine wnY (aI @ak @ag) ?_;exact .int _ _
 refine pO Pi ?_;simp only[b13,aL];have hb:=Iu c m hc hl hm hm8;have z0:decide ((0:Int)≠0)=false:=rfl;refine wnY (zI3 @z0 @ak @ag) ?_;exact kG (dp _).snap rfl
theorem l8(c:List Spx)(hc:aB c=0)(hl:c.length<=50):pU 43 [cl c] (.int .i64 0):=by
 refine pO Kn ?_;simp only[b43,aL];have he:=Ds c hc hl;refine wnY (aI @ak @ag) ?_;exact .int _ _
theorem Ow(s t:Spx)(hs:Shn s)(ht:Shn t):pU 69 [aF s,aF t] (.bool (decide (s=t))):=by
 refine pO PK ?_;simp only[b69,aL];have hc:=gL s t hs ht;have e:decide (bo s t=0)=decide (s=t):=decide_eq_decide.2 ⟨λh=>qf h,λh=>by rw[h];exact gJ t⟩;refine wnY @e ?_;exact .bool _
theorem Nv(a b:List Spx)(ha:ShC a)(hb:ShC b):pU 68 [ao a,ao b,.func 69 []] (.bool (decide (a=b))):=by
 refine pO Pz ?_;simp only[b68,aL];by_cases hl:a.length=b.length
 rotate_left
 ·have z:decide ((a.length:Int)≠b.length)=true:=a6 (by omega);rw[ba (λe=>hl (by rw[e]))];refine wnY (aI @ai @z) ?_;exact .bool _
 have z:decide ((a.length:Int)≠b.length)=false:=by rw[hl];exact ba (λh=>h rfl)
 have hal:=ha.1;refine wnY (aI @ai @z) ?_;refine np (X:=Nat) (λk=>[(0,ao a),(1,ao b),(2,.func 69 []),(15,ao a),(16,.int .i64 a.length),(17,.int .i64 k)]) (λk=>k<=a.length/\∀i,i<k->a.getD i default=b.getD i default) (λk=>a.length-k) 0 ⟨bQ _,λi h=>absurd h (by omega)⟩ ag0 ?_;rintro k ⟨h1,h2⟩;by_cases hk:k<a.length
 rotate_left
 ·obtain rfl:k=a.length:=by omega
  have e:a=b:=List.ext_getElem hl λi i1 i2=>by
   have:=h2 i i1;simpa[List.getD,i1,i2] using this
  rw[a6 e];refine wnY and_self ?_;exact .bool _
 have ix:=fQ hk;have iy:=fQ (l:=b) (k:=k) (by omega);have hcl:=Ow _ _ (ha.2 _ (aA hk)) (hb.2 _ (aA (l:=b) (i:=k) (by omega)));by_cases e:a.getD k default=b.getD k default
 ·rw[a6 e] at hcl
  have hn:∀i,i<k+1->a.getD i default=b.getD i default:=λi hi=>by
   rcases(by omega:i<k\/i=k) with h|rfl
   ·exact h2 i h
   ·exact e
  generalize a.getD k default=s at *;generalize b.getD k default=t at *;refine wnY (aI @ix @iy) ?_;exact⟨k+1,⟨by omega,hn⟩,by omega,ag0,rfl,rfl⟩
 ·rw[ba e] at hcl;rw[ba (λq=>e (by rw[q]))];generalize a.getD k default=s at *;generalize b.getD k default=t at *;refine wnY (aI @ix @iy) ?_;exact .bool _
theorem FC(c:Nat)(R:List (List Int))(b y:List Int)(hm:hU c R)(hbr:∀v∈b,0<=v/\v<(R.length:Int))(hba:bd b)(hyr:∀v∈y,0<=v/\v<(R.length:Int))(hya:bd y):pU 71 [ez c R,aH b,aH y] (.int .i64 (G7 R b y)):=by
 refine pO O7 ?_;simp only[b71,aL];have hmR:=gq hm;have hmv:∀r∈R,∀z∈r,0<=z/\z<(c:Int):=λr hr z hz=>(hm.2.2.2 r hr).1 z hz;have hbl:=eT hba hbr;have hyl:=eT hya hyr
 have hvec:∀ {x:List Int},x.length ≤ R.length→(∀ v ∈ x,0 ≤ v∧v < (R.length:Int))→bd x→pU 114 [aH x,.int .i64 R.length] (.int .i64 0):=fun {x} h1 h2 h3=>qx x (R.length:Int) (by have:=hm.2.2.1; omega) h2 (fun i hi=>by
  have:=kE.1 h3 i (i+1) (by omega) hi (by omega);simpa[List.getD,show i<x.length by omega,hi] using this)
 have h1:=me c R hm;have h2:=hvec hbl hbr hba;have h3:=hvec hyl hyr hya;have z0:decide ((0:Int)≠0)=false:=rfl;have hd:Dat (.agg [.int .i64 c,bK R]):=dG c R;have hmc:=hm.2.1;have hrl:=hm.2.2.1;have hod:=FY y b (by omega) (by omega);rw[dI];refine wnY (zI3 @z0 @fm @dW) ?_;refine NH (X:=Nat) (λk=>[(1,aH b),(2,aH y),(3,.ptr 0 2 0),(10,aH (mr R (y.take k))),(34,aH y),(35,.int .i64 y.length),(36,.int .i64 k)]) (λk H nx=>k<=y.length/\H 0=some [.int .i64 c,bK R]) (λk=>y.length-k) 0 ⟨_,_,Fz.none,⟨bQ _,rfl⟩,⟨.inl rfl,.inl rfl,.inl rfl,.inr (.eslsl 1),.inl rfl,.inl rfl,.inl rfl,trivial⟩⟩ ?_;rintro k H nx ⟨g1,g2⟩;obtain⟨a1,a2⟩:=C7 hmR hmv hyr k g1;have al:=eT a1 a2;by_cases hk:k<y.length
 ·have ix:=ixV hk;have hi:=hyr _ (aA hk);have hts:=ci hk;have hsn:mr R (y.take (k+1))=bV (mr R (y.take k)) (R.getD (y.getD k default).toNat default):=by rw[hts,wM]
  have iy:eY 1 (bK R) (.int .i64 (y.getD k default))=some (.iptr [aH (R.getD (y.getD k default).toNat default)] 0):=by
   rw[o9,if_pos ⟨hi.1,hi.2⟩]
  have hrow:R.getD (y.getD k default).toNat default∈R:=aA (by omega);have hrl2:=(hm.2.2.2 _ hrow).2.1;have hsu:=wZ (mr R (y.take k)) (R.getD (y.getD k default).toNat default) (by omega) (by omega);rw[<-hsn] at hsu;generalize R.getD (y.getD k default).toNat default=r at *;generalize y.getD k default=i at *;generalize mr R (y.take k)=s1 at *;refine wnY (zI3 @g2 @ix @iy) ?_;exact⟨k+1,by omega,_,_,Fz.none,⟨by omega,g2⟩,Ci ag0⟩
 obtain rfl:k=y.length:=by omega
 rw[List.take_length] at *;unfold G7;by_cases hs:mr R y=[]
 ·rw[if_pos hs];have z:decide ((0:Int)<(mr R y).length)=false:=by rw[hs];rfl
  cases ho:ja y b
  ·rw[ho] at hod;refine wnY (aI @z @dW) ?_;exact .int _ _
  ·rw[ho] at hod;refine wnY (aI @z @dW) ?_;exact .int _ _
 ·rw[if_neg hs];have z:decide ((0:Int)<(mr R y).length)=true:=a6 (by have:=gY.2 hs;omega);refine wnY (aI @z @dW) ?_;exact .int _ _
theorem Ea(s:AV)(l:List (List Int))(hl:l.length<=1000000)(H:Hp)(nx:Nat)(hr:mw H s l)(hb:∀b,bX s=some b->b<nx):Abs.Fn Tryz.prog 135 [s] H nx λr H' nx'=>Row H' 1 r (l.map aH)/\nx<=nx'/\(∀x,x<nx->H' x=H x)/\∀b,bX r=some b->nx<=b/\b<nx':=by
 refine fO Ol ?_;simp only[MC,aL];have hsrc:=hr.src (H':=H) λ_ _=>rfl;have hn:=hr.len;have fin:l.length=0->l.map aH=[]:=λh=>by rw[fI.1 h];rfl
 repeat' (first|refine zW ?_|apply a_n|refine zO ?_|refine vY ?_|fail)
 refine tw (k:=l.length) (by((try simp only[cf,ZA,reduceEqDiff,↓reduceIte,reduceAdd,reduceLeDiff]);(try with_reducible rfl));exact hn) (λh=>?_) (λh=>?_) (λh=>?_)
 ·repeat' (first|refine zW ?_|apply a_n|refine zO ?_|refine vY ?_|refine b0Y ?_|refine cFY ?_|fail)
  refine kJ rfl ev0 ev0 hsrc Dl (by omega) (by omega) ?_
  repeat' (first|apply a_n|refine zO ?_|refine vY ?_|refine b0 rfl ?_|refine r1Y ?_|fail)
  refine⟨by simpa only[Nat.mul_one] using Row.box (sz:=1) nx l.length (l.map aH) (af (H:=H)) (by rw[bm,Nat.mul_one]),by omega,λx hx=>ae (by omega),λb hb=>by cases hb;omega⟩
 ·repeat' (first|refine zW ?_|apply a_n|apply a_r|refine zO ?_|refine vY ?_|refine cTY ?_|refine b0 rfl ?_|refine r1Y ?_|fail)
  refine⟨by rw[fin h];exact Row.nil,aM _,λx hx=>rfl,λb hb=>(by cases hb)⟩
 ·repeat' (first|refine zW ?_|apply a_n|refine zO ?_|refine vY ?_|refine b0Y ?_|refine cFY ?_|fail)
  refine kJ rfl ev0 ev0 hsrc Dl (by omega) (by omega) ?_
  repeat' (first|apply a_n|refine zO ?_|refine vY ?_|refine b0 rfl ?_|refine r1Y ?_|fail)
  refine⟨by simpa only[Nat.mul_one] using Row.box (sz:=1) nx l.length (l.map aH) (af (H:=H)) (by rw[bm,Nat.mul_one]),by omega,λx hx=>ae (by omega),λb hb=>by cases hb;omega⟩
theorem JJ(c:Nat)(E:List (List Int))(rk:Nat)(v:List Int)(s:AV)(b:Nat)(H:Hp)(nx:Nat)(hm:hU c (E++[v]))(hb:H b=some [.int .i64 c,s,.int .i64 rk])(hbn:b<nx)(hr:mw H s E)(hs:∀x,bX s=some x->x<nx):
    Abs.Fn Tryz.prog 82 [.ptr b 3 0,aH v] H nx λr H' nx'=>nx<=nx'/\(∀x,x<nx->x≠b->H' x=H x)/\((de (E++[v]) c).length=rk/\r=.tup [.bool false,.int .i64 0]/\H' b=H b\/(de (E++[v]) c).length≠rk/\r=.tup [.bool true,.int .i64 0]/\∃rv,H' b=some [.int .i64 c,rv,.int .i64 (de (E++[v]) c).length]/\mw H' rv (E++[v])/\∀x,bX rv=some x->nx<=x/\x<nx'):=by
 refine fO PA ?_;simp only[b82,aL];have hrank:=B5 c (E++[v]) hm;have hel:E.length<=4096:=by have:=hm.2.2.1;rw[cP] at this;omega
 have hcl:=fun H' nx' (h1:∀ x,x < nx→H' x=H x) (h2:nx ≤ nx')=>Ea s E (by omega) H' nx' (by
  rcases hr with h|h
  ·exact .inl h
  ·exact .inr (h.same λx hx=>h1 x (hs x hx))) (λx hx=>by have:=hs x hx;omega)
 refine dJ ?_
 repeat' (first|apply a_n|refine zO ?_|refine vY ?_|fail)
 refine bn (λT H' nx'=>∃nb rv,T 0=.ptr b 3 0/\T 1=aH v/\T 6=.ptr nb 2 0/\nx<=nb/\nb<nx'/\H' nb=some [.int .i64 c,rv]/\Row H' 1 rv ((E++[v]).map aH)/\(∀x,bX rv=some x->nx<=x/\x<nx'/\x≠nb)/\∀x,x<nx->H' x=H x) ?_ ?_
 ·refine K0 (only b [.int .i64 c,s,.int .i64 rk]) (kQ hb) ?_;have hS:only b [.int .i64 c,s,.int .i64 rk] b=some [.int .i64 c,s,.int .i64 rk]:=ma;have hsub:∀H':Hp,H' b=some [.int .i64 c,s,.int .i64 rk]->Sub (only b [.int .i64 c,s,.int .i64 rk]) H':=λH' h=>kQ h;generalize only b [AV.int .i64 c,s,.int .i64 rk]=S at *;simp only[ew,List.map_nil,List.getD_cons_succ,List.getD_cons_zero];have zz:=aI @NK @hS;repeat' (first|apply a_n|refine zO ?_|refine nvY ?_|apply wg|refine JB ?_|fail)
  refine JF (pv:=[(0,1,aH v)]) (cs:=[aH v]) ev0 rfl (by decide) rfl rfl (wg ?_);have hsv:∀H':Hp,f8 1 H' (.sl 1 [aH v])=some (1,[aH v]):=λ_=>rfl;have ones_encVs:AV.ones [aH v]=true:=rfl;have happ:E.map aH++[aH v]=(E++[v]).map aH:=by rw[dq];rfl
  refine LR ?_ ?_
  ·refine d8 ?_
   repeat' (first|apply a_n|refine zO ?_|refine alY ?_|fail)
   refine⟨hsub _ (by rw[ae (by omega)];exact hb),?_⟩;refine d8 ?_;refine aQ ev0 ev0 (hcl _ _ (λx hx=>ae (by omega)) (by omega)) ?_;rintro r H1 nx1 ⟨k1,k2,k3,k4⟩;have q0:H1 nx=some [AV.int .i64 0,.esl]:=(k3 nx (by omega)).trans af;have q1:∀x,x<nx->H1 x=H x:=λx hx=>(k3 x (by omega)).trans (ae (by omega));refine jM ⟨hsub _ ((q1 b hbn).trans hb),?_⟩;refine d8 ?_;refine mg rfl ev0 k1 ev0 (hsv _) ones_encVs rfl lh (by rw[bm];omega) (by rw[bm];omega) ?_;rintro s2 H2 nx2 hr2 i1 i2 i3 i4;rw[happ] at hr2;have g:∀x,x<=nx->H2 x=H1 x:=λx hx=>i3 x (by omega) λh=>by have:=(k4 x h).1;omega
   refine jM ⟨hsub _ ((g b (by omega)).trans ((q1 b hbn).trans hb)),?_⟩;have q2:=(g nx (aM _)).trans q0;have hge:∀x,bX s2=some x->nx+1<=x/\x<nx2:=λx hx=>(i4 x hx).elim (λh=>⟨(k4 x h).1,by have:=(k4 x h).2;omega⟩) λh=>⟨by omega,by omega⟩
   clear zz;have zz:=aI @q2 (aI (uP hr2) (aI hr2.one.1 hr2.one.2));repeat' (first|apply a_n|refine zO ?_|refine nvY ?_|apply kg|refine stY ?_|fail)
   refine⟨nx,s2,rfl,rfl,rfl,by omega,by omega,af,hr2.same (λx hx=>ae (by have:=(hge x hx).1;omega)),λx hx=>⟨by have:=(hge x hx).1;omega,(hge x hx).2,by have:=(hge x hx).1;omega⟩,λx hx=>?_⟩;rw[ae (by omega)];exact(g x (by omega)).trans (q1 x hx)
  ·refine d8 ?_;refine aQ ev0 ev0 (hcl _ _ (λx hx=>rfl) (by omega)) ?_;rintro r H1 nx1 ⟨k1,k2,k3,k4⟩;refine jM ⟨hsub _ ((k3 b hbn).trans hb),wg ?_⟩;refine LR ?_ ?_
   ·refine d8 ?_
    repeat' (first|apply a_n|refine zO ?_|refine alY ?_|fail)
    refine⟨hsub _ (by rw[ae (by omega)];exact(k3 b hbn).trans hb),?_⟩;refine d8 ?_;refine mg rfl ev0 (k1.same λx hx=>ae (by have:=(k4 x hx).2;omega)) ev0 (hsv _) ones_encVs rfl lh (by rw[bm];omega) (by rw[bm];omega) ?_;rintro s2 H2 nx2 hr2 i1 i2 i3 i4;rw[happ] at hr2;have g:∀x,x<nx->H2 x=H1 x:=λx hx=>(i3 x (by omega) λh=>by have:=(k4 x h).1;omega).trans (ae (by omega));have q2:=(i3 nx1 (by omega) λh=>by have:=(k4 nx1 h).2;omega).trans af;refine jM ⟨hsub _ ((g b (by omega)).trans ((k3 b hbn).trans hb)),?_⟩;have hge:∀x,bX s2=some x->nx<=x/\x<nx2/\x≠nx1:=λx hx=>(i4 x hx).elim (λh=>⟨(k4 x h).1,by have:=(k4 x h).2;omega,by have:=(k4 x h).2;omega⟩) λh=>⟨by omega,by omega,by omega⟩
    clear zz;have zz:=aI @q2 (aI (uP hr2) (aI hr2.one.1 hr2.one.2));repeat' (first|apply a_n|refine zO ?_|refine nvY ?_|apply kg|refine stY ?_|fail)
    refine⟨nx1,s2,rfl,rfl,rfl,by omega,by omega,af,hr2.same (λx hx=>ae (by have:=(hge x hx).2.2;omega)),λx hx=>⟨(hge x hx).1,(hge x hx).2.1,by have:=(hge x hx).2.2;omega⟩,λx hx=>?_⟩;rw[ae (by omega)];exact(g x (by omega)).trans (k3 x hx)
   ·refine d8 ?_;refine mg rfl ev0 k1 ev0 (hsv _) ones_encVs rfl lh (by rw[bm];omega) (by rw[bm];omega) ?_;rintro s2 H2 nx2 hr2 i1 i2 i3 i4;rw[happ] at hr2;have g:∀x,x<nx->H2 x=H1 x:=λx hx=>i3 x (by omega) λh=>by have:=(k4 x h).1;omega
    refine jM ⟨hsub _ ((g b (by omega)).trans ((k3 b hbn).trans hb)),wg ?_⟩;have hge:∀x,bX s2=some x->nx<=x/\x<nx2:=λx hx=>(i4 x hx).elim (λh=>⟨(k4 x h).1,by have:=(k4 x h).2;omega⟩) λh=>⟨by omega,by omega⟩
    clear zz;have zz:=(uP hr2);repeat' (first|apply a_n|refine zO ?_|refine nvY ?_|apply wg|refine JB ?_|fail)
    refine LK (d8 ?_)
    repeat' (first|apply a_n|refine zO ?_|refine alY ?_|fail)
    refine⟨hsub _ (by rw[ae (by omega)];exact(g b hbn).trans ((k3 b hbn).trans hb)),?_⟩;clear zz;have zz:=aI hr2.one.1 hr2.one.2;repeat' (first|apply a_n|refine zO ?_|apply kg|refine stY ?_|fail)
    refine⟨nx2,s2,rfl,rfl,rfl,by omega,by omega,af,hr2.same (λx hx=>(ae (by have:=(hge x hx).2;omega)).trans (ae (by have:=(hge x hx).2;omega))),λx hx=>⟨(hge x hx).1,by have:=(hge x hx).2;omega,by have:=(hge x hx).2;omega⟩,λx hx=>?_⟩;rw[ae (by omega),ae (by omega)];exact(g x (by omega)).trans (k3 x hx)
 rintro T H1 nx1 ⟨nb,wv,t0,t1,t6,h1,h2,h3,h4,h5,h6⟩;have g0:H1 b=some [.int .i64 c,s,.int .i64 rk]:=(h6 b hbn).trans hb;generalize hEv:E++[v]=E' at *;have zz:=aI @t0 (aI @t1 (aI @t6 @h3));repeat' (first|refine zW ?_|apply a_n|refine zO ?_|refine vY ?_|fail)
 refine dh (have zz:=aI @t0 (aI @t1 (aI @t6 @h3));evY) (have zz:=aI @t0 (aI @t1 (aI @t6 @h3));evY) hrank (aG (ah (vv (ah (Dat.snap Dat.int) (ah (qi h4) ap))) ap) rfl) ?_;have bne:∀x,bX wv=some x->x≠b:=λx hx=>by have:=(h5 x hx).1;omega
 by_cases heq:(de E' c).length=rk
 ·have hi:decide ((((de E' c).length:Nat):Int)=(rk:Int))=true:=a6 (by rw[heq]);clear zz;have zz:=aI @t0 (aI @t1 (aI @t6 (aI @h3 (aI @g0 (aI @NK @hi)))));repeat' (first|refine zW ?_|apply a_n|apply a_r|refine zO ?_|refine vY ?_|refine gTY ?_|(refine zGY ?_ ?_<;>(intro _hg;try (exfalso;omega)))|refine cTY ?_|refine b0 rfl ?_|refine r2Y ?_|fail)
  exact⟨by omega,λx hx _=>h6 x hx,.inl ⟨heq,rfl,h6 b hbn⟩⟩
 ·have hi:decide ((((de E' c).length:Nat):Int)=(rk:Int))=false:=ba (λh=>heq (by exact_mod_cast h));clear zz;have zz:=aI @t0 (aI @t1 (aI @t6 (aI @h3 (aI @g0 (aI @NK (aI @hi (aI h4.one.1 h4.one.2)))))));repeat' (first|refine zW ?_|apply a_n|refine zO ?_|refine vY ?_|refine stY ?_|refine gTY ?_|(refine zGY ?_ ?_<;>(intro _hg;try (exfalso;omega)))|refine cFY ?_|refine b0 rfl ?_|refine r2Y ?_|fail)
  have e:bC [AV.int .i64 c,wv,.int .i64 rk] 2 [.int .i64 ((de E' c).length:Int)]=[.int .i64 c,wv,.int .i64 ((de E' c).length:Int)]:=rfl;refine⟨by omega,λx hx hxb=>?_,.inr ⟨heq,rfl,wv,?_,.inr (h4.same λx hx=>?_),λx hx=>⟨(h5 x hx).1,(h5 x hx).2.1⟩⟩⟩
  ·rw[ae hxb,ae hxb];exact h6 x hx
  ·rw[af,e]
  ·rw[ae (bne x hx),ae (bne x hx)]
section
variable{α:Type}[Inhabited α]{f:α->AV}{K:α->α->Int}{G:α->Prop}
theorem JR(hc:CmpO Tryz.prog f K G){L:List α}{H:Hp}{b nx n a e:Nat}(hH:H b=some (L.map f))(hn:L.length=n)(hG:∀x∈L,G x)(hae:a<=e)(hen:e<=n)(hn2:n<=1000000000):
    Abs.Fn Tryz.prog 189 [.msl b n 1 0 n,.int .i64 a,.int .i64 e] H nx λr H' nx'=>nx'=nx/\∃L',H'=ar H b (L'.map f)/\PermR a e L L'/\bh K a e L':=by
 refine fO OQ ?_;simp only[MX,aL];refine wnZ and_self ?_;refine bF (X:=Nat×List α) (λx=>[(0,.msl b n 1 0 n),(1,.int .i64 a),(2,.int .i64 e),(6,.int .i64 (x.1:Nat))]) (λx H' nx'=>a+1<=x.1/\(x.1<=e\/x.1=a+1)/\H'=ar H b (x.2.map f)/\nx'=nx/\PermR a e L x.2/\bh K a x.1 x.2) (λx=>e+1-x.1) (a+1,L) ⟨aM _,.inr rfl,gx hH,rfl,.refl,bh.one (aM _)⟩ ag0 ?_;rintro⟨i,M0⟩ H' nx' ⟨h1,h2,rfl,rfl,hp0,hs0⟩;dsimp only at *;have hl0:M0.length=n:=by rw[hp0.len,hn]
 by_cases hi:i<e
 rotate_left
 ·refine wnZ and_self ?_;exact⟨rfl,M0,rfl,hp0,hs0.mono (aM _) (by omega)⟩
 refine wnZ and_self ?_;refine bF (X:=Nat×List α) (λx=>[(0,.msl b n 1 0 n),(1,.int .i64 a),(2,.int .i64 e),(6,.int .i64 (i:Nat)),(7,.int .i64 (x.1:Nat))]) (λx H' nxx=>a<=x.1/\x.1<=i/\H'=ar H b (x.2.map f)/\nxx=nx'/\PermR a e L x.2/\fU K a i x.1 x.2) (λx=>x.1) (i,M0) ⟨by omega,aM _,rfl,rfl,hp0,.start hs0⟩ ag0 ?_;clear hp0 hs0 hl0;rintro⟨j,M⟩ H' nxx ⟨a1,a2,rfl,rfl,hp,hal⟩;dsimp only at *;have hl:M.length=n:=by rw[hp.len,hn]
 have hGM:=hp.mem hG;by_cases hja:j=a
 ·subst hja;refine wkZ and_self ?_;exact⟨(i+1,M),by dsimp only;omega,⟨by dsimp only;omega,.inl (by dsimp only;omega),rfl,rfl,hp,hal.done hc.ord (.inl rfl)⟩,ag0⟩
 ·obtain⟨k,rfl⟩:∃k,j=k+1:=⟨j-1,by omega⟩
  have tj:((k+1:Nat):Int)-1=(k:Int):=by omega
  have lc:=hc.run (M.getD (k+1) default) (M.getD k default) (hGM _ (aK (by omega))) (hGM _ (aK (by omega)));have d1:=hc.dat (M.getD (k+1) default);have d2:=hc.dat (M.getD k default);generalize hKK:K (M.getD (k+1) default) (M.getD k default)=kk at lc;by_cases hlt:kk<0
  ·obtain⟨M1,hl1,lm1,lm2⟩:∃M1:List α,M1.length=n/\bC (M.map f) (k+1) [f (M.getD k default)]=M1.map f/\bC (M1.map f) k [f (M.getD (k+1) default)]=(swp M (k+1) k).map f:=
     ⟨M.set (k+1) (M.getD k default),by simp[hl],jx (by omega),by rw[jx (by simp;omega)];rfl⟩
   have lm3:=lm2;simp only[bC,br,dw,bP] at lm1 lm2;refine wkZ (zI6 @tj @bN @lm1 @lm2 hc.cells hc.one) ?_;refine⟨(k,swp M (k+1) k),by dsimp only;omega,⟨by dsimp only;omega,by dsimp only;omega,?_,rfl,hp.trans (PermR.swap (by omega) (by omega) (by omega)),hal.step hc.ord (by omega) (by omega) (by omega) (by rw[hKK];exact hlt)⟩,(have zz:=@tj;agZ)⟩;dsimp only;rw[aC,aC,lm3]
  ·refine wkZ (zI4 @tj @bN hc.cells hc.one) ?_;exact⟨(i+1,M),by dsimp only;omega,⟨by dsimp only;omega,.inl (by dsimp only;omega),rfl,rfl,hp,hal.done hc.ord (.inr ⟨by omega,by rw[lX,hKK];exact hlt⟩)⟩,ag0⟩
end
theorem K7(x y:Int):pU 187 [.int .i64 x,.int .i64 y] (.bool (decide (x-y<0))):=by
 have e:decide (x-y<0)=decide (x<y):=decide_eq_decide.2 (by omega);rw[e];have n1:=jG x;refine pO JH ?_;simp only[KU,aL];refine wnZ and_self ?_;exact Dat.snap Dat.bool
theorem Md:CmpO Tryz.prog (λx:Int=>.int .i64 x) (λx y=>x-y) (λ_=>True):=⟨λ_=>rfl,λ_=>rfl,λ_=>.int,λx y _ _=>K7 x y,Pe⟩
theorem IS{L:List Int}{H:Hp}{b nx n lim:Nat}(hH:H b=some (L.map λx=>.int .i64 x))(hn:L.length=n)(hn2:n<=12):
    Abs.Fn Tryz.prog 164 [.msl b n 1 0 n,.int .i64 0,.int .i64 n,.int .i64 lim] H nx λr H' nx'=>nx'=nx/\∃L':List Int,H'=ar H b (L'.map λx=>.int .i64 x)/\PermR 0 n L L'/\bh (λx y:Int=>x-y) 0 n L':=by
 refine fO JS ?_;simp only[K2,aL];have z:decide ((n:Int)<=12)=true:=a6 (by omega);refine wnZ and_self ?_;refine bF (X:=Unit) (λx=>[(0,.msl b n 1 0 n),(1,.int .i64 0),(2,.int .i64 n),(3,.int .i64 lim)]) (λx H' nx'=>H'=H/\nx'=nx) (λx=>0) () ⟨rfl,rfl⟩ ag0 ?_;rintro _ _ _ ⟨rfl,rfl⟩;refine wnZ (aI @z @Int.sub_zero) ?_;refine aQ ev0 (have zz:=@Int.natCast_zero;evZ) (JR Md (a:=0) hH hn (λ_ _=>trivial) (bQ _) (aM _) (by omega)) ?_;rintro _ _ _ ⟨rfl,L',rfl,hp,hs⟩;refine wnZ and_self ?_;exact⟨rfl,L',rfl,hp,hs⟩
def oq(m:Nat):Prop:=∀{L:List Int}{H:Hp}{b nx n:Nat},H b=some (L.map λx=>.int .i64 x)->b<nx->L.length=n->0<n->n<=m->
    Abs.Fn Tryz.prog 147 [.msl b n 1 0 n] H nx λr H' nx'=>∃L':List Int,PS H H' nx nx' b (L'.map λx=>.int .i64 x)/\L'.Perm L/\L'.Pairwise (· <= ·)
theorem oq.le{m k:Nat}(h:oq m)(hk:k<=m):oq k:=λa b c d e=>h a b c d (fK e hk)
theorem Gm:oq 12:=λ{L H b nx n} hH hbx hn hn0 hn2=>by
 refine fO JE ?_;simp only[KJ,aL];have w:IntKind.wrap .u64 (n:Int)=n:=fB (by omega) (by omega);refine wnZ @w ?_;refine aQ ev0 (have zz:=@w;evZ) (Di hn0 (by omega)) ?_;rintro _ _ _ ⟨rfl,rfl,k,rfl,h3,h4⟩
 skip
 refine aQ ev0 (have zz:=@Int.natCast_zero;evZ) (IS hH hn hn2) ?_;rintro _ _ _ ⟨rfl,N,rfl,hp,hs⟩;refine wnZ and_self ?_;refine⟨N,⟨af,λi _ h2=>ae h2,aM _⟩,hp.perm,?_⟩;rw[kE];intro i j hi hj hij;have hl:N.length=n:=by rw[hp.len,hn]
 have:=hs i j (bQ _) hij (by omega);simp only[List.getD,hi,hj,rB,tB] at this;omega
theorem Fo(c:Nat)(R:List (List Int))(hm:hU c R)(hso:oq (c+1)):pU 103 [ez c R] (.tup [ez c (hZ (de R c) c),.int .i64 0]):=by
 refine pO Mg ?_;simp only[MH,aL];have he:=o7 c R hm;have z0:decide ((0:Int)≠0)=false:=rfl;have hd:Dat (.agg [.int .i64 c,bK R]):=dG c R;have hmc:=hm.2.1;have hmv:∀r∈R,∀z∈r,0<=z/\z<(c:Int):=λr hr z hz=>(hm.2.2.2 r hr).1 z hz;obtain⟨hred,hsp,-⟩:=fR (gq hm) hmv;have hEv:∀r∈de R c,∀z∈r,0<=z/\z<(c:Int):=λr hr=>fE (gq hm) hmv ((hsp r).1 (cR hr));have hEl:(de R c).length<=c:=by unfold de;rw[bm];exact lD
 rw[dI,dI] at he;rw[dI,dI];generalize de R c=E at *;clear hsp;refine wnY (aI @z0 @fm) ?_;refine ws ?_;refine wnY @fm ?_;refine lpI (X:=Nat) (λk=>[(1,.ptr 0 2 0),(2,.ptr 1 2 0),(4,.ptr 2 2 0),(6,.ptr 3 2 0),(7,.mp 4),(28,bK E),(29,.int .i64 E.length),(30,.int .i64 k)]) (λk H nx=>k<=E.length/\5<=nx/\H 0=some [.int .i64 c,bK R]/\H 1=some [.int .i64 0,.esl]/\H 2=some [.int .i64 c,bK E]/\H 3=some [.int .i64 c,.esl]/\H 4=some [.omap (((E.take k).map ld).map (AV.int .i64)) (oD k)]) (λk=>E.length-k) 0 ⟨bQ _,aM _,rfl,rfl,rfl,rfl,rfl⟩ ?_;rintro k H nx ⟨g1,g2,g3,g4,g5,g6,g7⟩;by_cases hk:k<E.length
 ·have ix:=E6 hk;have hn:=hred.ne _ (aA (l:=E) hk);have ix0:=IX hn;have hmf:=jc (ld (E.getD k default)) ((E.take k).map ld)
  have hni:ld (E.getD k default)∉(E.take k).map ld:=λh=>by
   obtain⟨r,hr,e⟩:=bz.1 h;obtain⟨i,hi,e2⟩:=kI hr;rw[gV] at hi;have hi2:i<E.length:=by omega
   have:=kE.1 hred.ord i k hi2 hk (by omega);rw[List.getElem_take] at e2;rw[show E[k]=E.getD k default by simp[List.getD,hk]] at this;rw[e2] at this;omega
  rw[if_neg hni] at hmf;have hts:=ci hk
  have hml:((E.take (k+1)).map ld).map (AV.int .i64)=((E.take k).map ld).map (AV.int .i64)++[.int .i64 (ld (E.getD k default))]:=by
   rw[hts,dq,dq];rfl
  have htr:oD (k+1)=oD k++[.bool true]:=by unfold oD;rw[List.replicate_succ']
  generalize E.getD k default=r at *;refine wnY (aI @ix @ix0) ?_;refine qz ev0 g7 ev0 ev0 rfl hmf ?_;refine wnY and_self ?_;refine⟨k+1,by omega,⟨by omega,by omega,(ae (by omega)).trans g3,(ae (by omega)).trans g4,(ae (by omega)).trans g5,(ae (by omega)).trans g6,?_⟩,ag0⟩;rw[af,hml,htr];rfl
 obtain rfl:k=E.length:=by omega
 rw[ib (aM _)] at g7;clear hk g1;refine wnY @g3 ?_;refine lpI (X:=AV×Nat) (λx=>[(1,.ptr 0 2 0),(2,.ptr 1 2 0),(4,.ptr 2 2 0),(6,.ptr 3 2 0),(7,.mp 4),(40,.int .i64 c),(41,.int .i64 x.2)]) (λx H nx=>x.2<=c/\5<=nx/\H 0=some [.int .i64 c,bK R]/\H 1=some [.int .i64 0,.esl]/\H 2=some [.int .i64 c,bK E]/\H 3=some [.int .i64 c,x.1]/\H 4=some [.omap ((E.map ld).map (AV.int .i64)) (oD E.length)]/\Row H 1 x.1 ((hZ E x.2).map aH)/\∀b,bX x.1=some b->4<b/\b<nx) (λx=>c-x.2) (.esl,0) ⟨bQ _,g2,g3,g4,g5,g6,g7,Row.nil,λb h=>(by cases h)⟩ ?_;clear g2 g3 g4 g5 g6 g7;rintro⟨sv,k⟩ H nx ⟨g1,g2,g3,g4,g5,g6,g7,g8,g9⟩;dsimp only at g1 g2 g3 g4 g5 g6 g7 g8 g9 |-;by_cases hk:k<c
 rotate_left
 ·obtain rfl:k=c:=by omega
  obtain⟨o1,o2⟩:=g8.one;refine wnY (zI4 @g6 @g4 @o1 @o2) ?_;refine kB (qi (g8.same λb hb=>?_)) rfl;have:=g9 b hb;rw[ae (by omega)]
 have hmf:=jc (k:Int) (E.map ld);have hks:=ww (E:=E) (k:=k);by_cases hlead:(k:Int)∈E.map ld
 ·rw[if_pos hlead] at hmf;rw[if_pos hlead,fY] at hks;have hgt:Go.Abs.mget (.bool false) false (some ((E.map ld).idxOf (k:Int))) (oD E.length)=.bool true:=Ee (by have:=List.idxOf_lt_length_of_mem hlead;rwa [bm] at this);refine dJ ?_;refine wnY and_self ?_;refine jF ev0 g7 ev0 rfl hmf ?_;rw[hgt];refine wnY and_self ?_;refine⟨(sv,k+1),by dsimp only;omega,⟨by dsimp only;omega,by omega,g3,g4,g5,g6,g7,?_,g9⟩,ag0⟩;dsimp only;rw[hks];exact g8
 rw[if_neg hlead] at hmf hks;refine wnY and_self ?_;refine jF ev0 g7 ev0 rfl hmf ?_;have hgf:Go.Abs.mget (.bool false) false none (oD E.length)=.bool false:=rfl;rw[hgf];refine wnY (aI @fm @g5) ?_;refine lpI (X:=AV×Nat) (λx=>[(1,.ptr 0 2 0),(2,.ptr 1 2 0),(4,.ptr 2 2 0),(6,.ptr 3 2 0),(7,.mp 4),(10,.int .i64 k),(11,x.1),(40,.int .i64 c),(41,.int .i64 k),(50,bK E),(51,.int .i64 E.length),(52,.int .i64 x.2)]) (λx H' nx'=>x.2<=E.length/\nx<=nx'/\(∀b,b<nx->H' b=H b)/\Row H' 1 x.1 ((pR (E.take x.2) k).map (AV.int .i64))/\∀b,bX x.1=some b->nx<=b/\b<nx') (λx=>E.length-x.2) (.msl nx 1 1 0 1,0) ⟨bQ _,by omega,λb hb=>ae (by omega),?_,λb hb=>by cases hb;omega⟩ ?_
 ·exact Row.box nx 1 [.int .i64 k] af rfl
 rintro⟨kv,j⟩ H' nx' ⟨h1,h2,h3,h4,h5⟩;dsimp only at h1 h2 h3 h4 h5 |-;by_cases hj:j<E.length
 ·have ix:=E6 hj;have hrm:=aA (l:=E) hj;have hn:=hred.ne _ hrm;have ix0:=IX hn;have hks:=DL (E:=E) (q:=k) hj;have hul:=Aq (E:=E.take j) (q:=k);rw[gV] at hul;have hha:=HQ (E.getD j default) k (by have:=eT (hred.asc _ hrm) (hEv _ hrm);omega) (hred.asc _ hrm);generalize E.getD j default=r at *;by_cases hin:(k:Int)∈r
  ·rw[if_pos hin] at hks;rw[a6 hin] at hha;refine wnY (aI @ix @ix0) ?_;refine eR (h4.same λb hb=>?_) ?_
   ·have:=h5 b hb;rw[ae (by omega)]
   rintro s2 H2 nx2 hr2 i1 i2 i3 i4;refine wnY and_self ?_;refine⟨(s2,j+1),by dsimp only;omega,⟨by dsimp only;omega,by omega,λb hb=>?_,?_,λb hb=>?_⟩,ag0⟩
   ·exact(i3 b (by omega) λe=>by have:=h5 b e;omega).trans ((ae (by omega)).trans (h3 b hb))
   ·dsimp only;rw[hks,dq];exact hr2
   ·rcases i4 b hb with h|h
    ·have:=h5 b h;omega
    ·omega
  ·rw[if_neg hin,fY] at hks;rw[ba hin] at hha;refine wnY (aI @ix @ix0) ?_;refine⟨(kv,j+1),by dsimp only;omega,⟨by dsimp only;omega,h2,h3,by dsimp only;rw[hks];exact h4,h5⟩,ag0⟩
 obtain rfl:j=E.length:=by omega
 rw[ib (aM _)] at h4;have hul:=Aq (E:=E) (q:=k);have hu0:0<(pR E k).length:=Nat.succ_pos _;obtain⟨B,rfl,hB⟩:=AW h4 hu0;have hBn:=h5 B rfl;refine wnY and_self ?_;refine aQ ev0 ev0 (hso hB hBn.2 rfl hu0 (by omega)) ?_;rintro _ H2 nx2 ⟨L',hps,hperm,hsrt⟩;obtain rfl:=DG hred hlead hperm hsrt;have hlen:=hperm.length_eq;have q0:∀b,b<nx->H2 b=H b:=λb hb=>(hps.fr b (by omega) (by omega)).trans (h3 b hb);have hle:=hps.le
 have hsn:Snap (only B ((qu E k).map (AV.int .i64))) (.msl B (pR E k).length 1 0 (pR E k).length) (aH (qu E k)):=by
  rw[<-hlen];have:=Row.box (sz:=1) B (qu E k).length ((qu E k).map (AV.int .i64)) ma (by rw[bm,Nat.mul_one]);rw[Nat.mul_one] at this;exact this.snapI
 clear hB hperm hsrt h4 hul hu0;generalize qu E k=v at *;refine jM (a_n ?_);refine qs _ _ [(1,.ptr 0 2 0),(2,.ptr 1 2 0),(4,.ptr 2 2 0),(6,.ptr 3 2 0),(7,.mp 4),(11,aH v),(40,.int .i64 c),(41,.int .i64 k)] (Fz.one hps.at_) ⟨.inl rfl,.inl rfl,.inl rfl,.inl rfl,.inl rfl,.inr hsn,.inl rfl,.inl rfl,trivial⟩ ?_;have q:∀b,b<nx->dK H2 B b=H b:=λb hb=>(dr (by omega)).trans (q0 b hb);clear hps q0 hsn;generalize dK H2 B=H4 at *;have q3:=(q 3 (by omega)).trans g6;have kll:=Be (E:=E) (k:=k);refine wnY @q3 ?_;refine eR (g8.same λb hb=>?_) ?_
 ·have:=g9 b hb;rw[ae (by omega)];exact q b (by omega)
 rintro s2 H3 nx3 hr2 i1 i2 i3 i4;have hdo:∀b,b<=4->bX sv≠some b:=λb hb e=>by have:=g9 b e;omega
 have lo2:∀b,b<=4->H3 b=H b:=λb hb=>(i3 b (by omega) (hdo b hb)).trans ((ae (by omega)).trans (q b (by omega)))
 have hn2:∀b,bX s2=some b->4<b/\b<nx3:=λb hb=>by
  rcases i4 b hb with h|h
  ·have:=g9 b h;omega
  ·omega
 have k6:=(lo2 3 (by omega)).trans g6;obtain⟨o1,o2⟩:=hr2.one;refine wnY (zI3 @k6 @o1 @o2) ?_;refine⟨(s2,k+1),by dsimp only;omega,⟨by dsimp only;omega,by omega,(ae (by omega)).trans ((lo2 0 (by omega)).trans g3),(ae (by omega)).trans ((lo2 1 (by omega)).trans g4),(ae (by omega)).trans ((lo2 2 (by omega)).trans g5),by rw[af];rfl,(ae (by omega)).trans ((lo2 4 (by omega)).trans g7),?_,hn2⟩,ag0⟩;dsimp only;rw[hks,dq];exact hr2.same λb hb=>by have:=hn2 b hb;rw[ae (by omega)]
theorem ot(c:List Spx)(d:Nat)(hc:aB c=0)(hl:c.length<=50)(hd:d<=7)(H:Hp)(nx:Nat):
    Abs.Fn Tryz.prog 81 [cl c,.int .i64 d] H nx λr H' nx'=>∃b,r=.tup [.ptr b 3 0,.int .i64 0]/\nx<=b/\b<nx'/\(∀x,x<nx->H' x=H x)/\H' b=some [.int .i64 (bdN c d),bK (bdE c d),.int .i64 (bdE c d).length]:=by
 refine fO O3 ?_;simp only[b81,aL];have he:=nM c (d+1) hc hl (by omega);have hs:=sK c d hc hl (by omega);have h2:=cQ hc hl (d:=(d:Int)+1+1);have h1:=cQ hc hl (d:=(d:Int)+1);rw[show((d+1:Nat):Int)=(d:Int)+1 by omega] at he;have ht:=z9 (aj c ((d:Int)+1+1)).length (b7 (aj c ((d:Int)+1+1)) (aj c ((d:Int)+1))) (lW (by omega) (by omega));rw[eV] at ht;have hel:(bdE c d).length<=bdN c d:=yK;have hec:pU 134 [ez (bdN c d) (bdM c d)] (.tup [ez (bdN c d) (bdE c d),.int .i64 0]):=o7 _ _ (mG hc hl);have hq:((aj c ((d:Int)+1)).length:Int)=bdN c d:=rfl;have hm:trL (aj c ((d:Int)+1+1)).length (b7 (aj c ((d:Int)+1+1)) (aj c ((d:Int)+1)))=bdM c d:=rfl;rw[hm] at ht;rw[hq] at hs ht;have z0:decide ((0:Int)≠0)=false:=rfl;have z2:ao c=ao c:=rfl;generalize b7 (aj c ((d:Int)+1+1)) (aj c ((d:Int)+1))=R at *;generalize (aj c ((d:Int)+1+1)).length=m at *;generalize bdM c d=M at *;generalize bdE c d=E at *;have hN:bdN c d<=3500:=h1;generalize bdN c d=n at *;have d1:Dat (.agg [.int .i64 m,bK R]):=dG m R;have d2:Dat (.agg [.int .i64 n,bK M]):=dG n M;rw[dI] at he ht hec;rw[dI] at ht hec;refine wnY (zI4 @z0 @ak @ag @fm) ?_;exact⟨nx+3,rfl,by omega,by omega,λx hx=>by(repeat rw[ae (by omega)]),af⟩
theorem HU(c:List Spx)(d:Nat)(H:Hp)(nx:Nat):Abs.Fn Tryz.prog 50 [cl c,.int .i64 d] H nx λr H' nx'=>r=.func 102 [.ptr nx 1 0,.ptr (nx+1) 1 0]/\H'=ar (ar H nx [ao c]) (nx+1) [.int .i64 d]/\nx'=nx+2:=by
 refine fO Po ?_;simp only[b50,aL];refine wnY (aI @ak @ag) ?_;exact⟨rfl,rfl,rfl⟩
theorem HO{y cb db:Nat}(c:List Spx)(d:Nat)(hso:oq (bdN c d+1))(hc:aB c=0)(hl:c.length<=50)(hd:d<=7)(hn:bdN c d<=1000)(H:Hp)(nx:Nat)(I:List Nat->List (List Int)->Hp->Nat->Prop)
    (g1:H cb=some [ao c]) (g2:H db=some [.int .i64 d]) (hcb:cb<nx) (hdb:db<nx)
    (st:∀F F' D H nx H' nx',I F D H nx->nx<=nx'->(∀x,x<nx->x∉F->H' x=H x)->(∀x∈F',x∈F\/nx<=x/\x<nx')->I F' D H' nx')
    (rnd:∀F D v H nx,I F D H nx->v∈bsK c d->D.length<=1000->Yl Tryz.prog y [aH v,.int .i64 0] H nx λr H' nx'=>r=.bool true/\nx<=nx'/\(∀x∈F,H' x=H x)/\I F (D++[v]) H' nx')
    (h0:I [] [] H nx):
    Abs.Fn Tryz.prog 102 [.yld y,.ptr cb 1 0,.ptr db 1 0] H nx λ_ H' nx'=>∃F,I F (bsT (bdE c d) (bdN c d) (bsK c d) (bsK c d).length) H' nx':=by
 refine fO NV ?_;simp only[NJ,aL];have hbd:=λH nx=>ot c d hc hl hd H nx;have he:=nM c d hc hl (by omega);have hk:=Fo _ _ (lG (d:=d) hc hl) hso;rw[show hZ (de (b7 (aj c ((d:Int)+1)) (aj c d)) (bdN c d)) (bdN c d)=bsK c d from rfl] at hk;rw[show(((aj c ((d:Int)+1)).length:Nat):Int)=(bdN c d:Int) from rfl] at he;obtain⟨mE,rE,-⟩:=Fm (d:=d) hc hl;obtain⟨mK,lK⟩:=o6 (d:=d) hc hl;have lE:(bdE c d).length<=bdN c d:=yK;have eE:=Ck rE (oO mE);have hd1:Dat (.agg [.int .i64 (bdN c d),bK (b7 (aj c ((d:Int)+1)) (aj c d))]):=dG _ _;rw[ql] at hbd he;rw[dI] at he;rw[dI,dI] at hk;generalize b7 (aj c ((d:Int)+1)) (aj c d)=R at *;have dcx:Dat (.agg [ao c]):=dt c;generalize bdE c d=E at *;generalize bdN c d=n at *;generalize bsK c d=K at *;have z0:decide ((0:Int)≠0)=false:=rfl;have z1:decide ((0:Int)=0)=true:=rfl;refine wnY (aI @g1 @g2) ?_;refine aQ ev0 ev0 (hbd _ _) ?_;rintro _ H1 nx1 ⟨b,rfl,b1,b2,b3,b4⟩;have g1':=(b3 cb hcb).trans g1;have g2':=(b3 db hdb).trans g2;refine wnY (zI5 @g1' @g2' @z0 @z1 @fm) ?_;refine lpI (X:=AV×Nat) (λx=>[(0,.yld y),(4,.ptr b 3 0),(39,bK K),(40,.int .i64 K.length),(41,.int .i64 x.2)]) (λx H' nx'=>x.2<=K.length/\I (b::II (bX x.1)) (bsT E n K x.2) H' nx'/\H' b=some [.int .i64 n,x.1,.int .i64 (de (E++bsT E n K x.2) n).length]/\mw H' x.1 (E++bsT E n K x.2)/\b<nx'/\∀z,bX x.1=some z->z<nx'/\z≠b) (λx=>K.length-x.2) (bK E,0) ⟨bQ _,?_,?_,?_,by omega,λz h=>?_⟩ ?_
 ·refine st [] _ [] _ nx _ _ h0 (by omega) (λx hx _=>?_) (λx hx=>?_)
  ·(repeat rw[ae (by omega)])
   exact b3 x hx
  ·rcases dg.1 hx with rfl|hx
   ·exact .inr ⟨by omega,by omega⟩
   ·cases hx
 ·(repeat rw[ae (by omega)])
  show H1 b=some [.int .i64 n,bK E,.int .i64 (de (E++[]) n).length];rw[fY,eE];exact b4
 ·refine .inl ?_;show bK E=bK (E++[]);rw[fY]
 ·exact by cases h
 clear h0 b3 b4 g1' g2' g1 g2;rintro⟨rv,k⟩ H' nx' ⟨h1,h2,h3,h4,h5,h6⟩;dsimp only at h1 h2 h3 h4 h5 h6 |-;by_cases hk2:k<K.length
 rotate_left
 ·obtain rfl:k=K.length:=by omega
  refine wnY and_self ?_;exact⟨_,h2⟩
 have ix:=E6 hk2;have hTl:=De (E:=E) (n:=n) (K:=K) (k:=k);have hTm:=yL (E:=E) (n:=n) (K:=K) h1;have hss:bsT E n K (k+1)=if (de ((E++bsT E n K k)++[K.getD k default]) n).length=(de (E++bsT E n K k) n).length then bsT E n K k else bsT E n K k++[K.getD k default]:=rfl
 have hvm:K.getD k default∈K:=aA hk2;generalize K.getD k default=v at *;have mS:hU n ((E++bsT E n K k)++[v]):=pZ (pZ mE (p8 mK (by omega) hTm) (by omega)) (p8 mK (by simp) λr hr=>by rw[cC] at hr;rw[hr];exact hvm) (by rw[cP];simp only[br,dw];omega);have hadd:=JJ n (E++bsT E n K k) (de (E++bsT E n K k) n).length v rv b H' nx' mS h3 h5 h4 λx hx=>(h6 x hx).1;generalize hT:bsT E n K k=D at *;refine wnY @ix ?_;refine aQ ev0 ev0 hadd ?_;rintro _ H2 nx2 ⟨q1,q2,q3⟩;rcases q3 with⟨e1,rfl,e3⟩|⟨e1,rfl,wv,e3,e4,e5⟩
 ·rw[if_pos e1] at hss;refine wnY @z0 ?_;refine⟨(rv,k+1),by dsimp only;omega,⟨by dsimp only;omega,?_,?_,?_,by omega,λz hz=>by have:=h6 z hz;omega⟩,ag0⟩
  ·dsimp only;rw[hss];exact st _ _ _ _ _ _ _ h2 q1 (λx hx hF=>q2 x hx λe=>hF (by rw[e];exact cz ..)) λx hx=>.inl hx
  ·dsimp only;rw[hss,e3];exact h3
  ·dsimp only;rw[hss];exact h4.same λz hz=>q2 z (h6 z hz).1 (h6 z hz).2
 rw[if_neg e1] at hss
 have hI2:I (b::II (bX wv)) D H2 nx2:=st _ _ _ _ _ _ _ h2 q1 (λx hx hF=>q2 x hx λe=>hF (by rw[e];exact cz ..)) λx hx=>by
  rcases dg.1 hx with rfl|hx
  ·exact .inl (cz ..)
  ·exact .inr (e5 x (AC.1 hx))
 refine wnY @z0 ?_;refine yC ev0 ev0 (Yl.mono (rnd _ D v _ _ hI2 hvm (by omega)) ?_);rintro _ H3 nx3 ⟨rfl,r1,r2,r3⟩;refine wnY @z0 ?_;refine⟨(wv,k+1),by dsimp only;omega,⟨by dsimp only;omega,?_,?_,?_,by omega,λz hz=>?_⟩,ag0⟩
 ·dsimp only;rw[hss];exact r3
 ·dsimp only;rw[hss,r2 b (cz ..),e3,i9]
 ·dsimp only;rw[hss,<-i9];exact e4.same λz hz=>r2 z (dy _ (AC.2 hz))
 ·have:=e5 z hz;omega
end
end Go.Proofs.YtekdaafnjdlenaaGreat
