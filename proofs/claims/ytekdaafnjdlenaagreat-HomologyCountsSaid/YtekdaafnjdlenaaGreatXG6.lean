/- Texts of this claim, one after the other: T223, T224, T225, T226, T227, T228, T170, T172, T173, T151, T171, T146, T174, T175, T176, T177, T179, T178, T180, T181, T144, T147, T148, T182, T183, T185, T190, T186, T187, T229, T230, T231, T232, T233, T234, T235, T236, T245, T246, T243. -/
import Derived.Test.YtekdaafnjdlenaaGreatXG5
import Derived.Test.YtekdaafnjdlenaaGreatXG4
import Derived.Test.YtekdaafnjdlenaaGreatXG3

set_option linter.unusedSimpArgs false
set_option linter.unusedVariables false
set_option maxHeartbeats 1000000
namespace Go.Proofs.YtekdaafnjdlenaaGreat
open Go Go.Abs
def cH(g:Int→Nat):List Int→Nat
 |[]=>0
 |x::l=>g x+cH g l
theorem gV{g:Int→Nat}:∀(n:Nat)(a b:List Int),a.length+b.length≤n→cH g (bN a b)%2=(cH g a+cH g b)%2
 |_,[],b,_=>by rw[io];show _=(0+cH g b)%2;rw[ce]
 |_,x::a,[],_=>by rw[fK];show _=(cH g (x::a)+0)%2;rw[ph]
 |0,x::a,y::b,h=>by simp only[bO] at h;omega
 |n+1,x::a,y::b,h=>by
  simp only[bO] at h;rw[jO];by_cases g1:x<y
  ·rw[if_pos g1];have ih:=gV (g:=g) n a (y::b) (by simp only[bO];omega);show(g x+cH g (bN a (y::b)))%2=(g x+cH g a+cH g (y::b))%2;omega
  rw[if_neg g1];by_cases g2:y<x
  ·rw[if_pos g2];have ih:=gV (g:=g) n (x::a) b (by simp only[bO];omega);show(g y+cH g (bN (x::a) b))%2=(cH g (x::a)+(g y+cH g b))%2;omega
  rw[if_neg g2];obtain rfl:x=y:=by omega
  have ih:=gV (g:=g) n a b (by omega);show cH g (bN a b)%2=(g x+cH g a+(g x+cH g b))%2;omega
def lJ(R:List (List Int))(n:Nat)(l:Ln):Prop:=(∀z,bit z l.1=cH (fun j=>bit z (R.getD j.toNat default)) l.2%2)∧∀j∈l.2,0≤j∧j<(n:Int)
theorem xV{R:List (List Int)}{n:Nat}{x l:Ln}(hx:cm x)(hl:cm l)(h1:lJ R n x)(h2:lJ R n l):lJ R n (dY x l):=by
 refine⟨fun z=>?_,fun j hj=>?_⟩
 ·show bit z (bN x.1 l.1)=cH _ (bN x.2 l.2)%2;rw[dP hx.1 hl.1,gV _ _ _ (aO _),h1.1,h2.1];omega
 ·rcases(dp hx.2 hl.2).1 hj with h|h
  ·exact h1.2 j h.1
  ·exact h2.2 j h.1
theorem rQ{R:List (List Int)}{n:Nat}{p:Ln→Bool}:∀{M:List Ln}{x:Ln},(∀l∈M,cm l∧lJ R n l)→cm x→lJ R n x→lJ R n (rdL M p x)
 |[],_,_,_,h=>h
 |l::M,x,hM,hx,h=>by
  obtain⟨hl,hlo⟩:=hM l (dq ..);have hM':=fun m hm=>hM m (ew _ hm);show lJ R n (rdL M p (if p l=true then dY x l else x));by_cases hp:p l=true
  ·rw[if_pos hp];exact rQ hM' (eJ hx hl) (xV hx hl h hlo)
  ·rw[if_neg hp];exact rQ hM' hx h
theorem lJ.mono{R:List (List Int)}{n m:Nat}{l:Ln}(h:lJ R n l)(hn:n≤m):lJ R m l:=⟨h.1,fun j hj=>by have:=h.2 j hj;omega⟩
def stE(R:List (List Int)):Nat→List Ln×List (List Int)
 |0=>([],[])
 |i+1=>if (eW (stE R i).1 (R.getD i default,[(i:Int)])).1=[] then((stE R i).1,(stE R i).2++[(eW (stE R i).1 (R.getD i default,[(i:Int)])).2]) else(lz (stE R i).1 (eW (stE R i).1 (R.getD i default,[(i:Int)])),(stE R i).2)
structure StOk(R:List (List Int))(i:Nat)(M:List Ln)(D:List (List Int)):Prop where
 red:RedU M
 ok:∀l∈M,lJ R i l
 dep:∀y∈D,cm ([],y)∧lJ R i ([],y)
 len:M.length+D.length=i
 inS:∀l∈M,Sp (R.take i) l.1
 all:∀r∈R.take i,Sp (M.map Prod.fst) r
theorem fC{M:List Ln}(h:RedU M):∀r∈M.map Prod.fst,bz r:=fun r hr=>by
 obtain⟨l,hl,rfl⟩:=bK.1 hr;exact(h.asc l hl).1
theorem iZ{R:List (List Int)}(hR:∀r∈R,bz r):∀{i:Nat},i≤R.length→StOk R i (stE R i).1 (stE R i).2
 |0,_=>⟨⟨fun _ h=>(by cases h),fun _ h=>(by cases h),fun _ h=>(by cases h),List.nodup_nil⟩,fun _ h=>(by cases h),fun _ h=>(by cases h),rfl,fun _ h=>(by cases h),fun _ h=>(by cases h)⟩
 |i+1,hi=>by
  have ih:=iZ hR (i:=i) (by omega);have hx:cm (R.getD i default,[(i:Int)]):=⟨hR _ (az (by omega)),List.pairwise_singleton ..⟩
  have hxo:lJ R (i + 1) (R.getD i default,[(i:Int)]):=⟨fun z=>by
   have:=gF (z:=z) (a:=R.getD i default);show bit z (R.getD i default)=(bit z (R.getD ((i:Nat):Int).toNat default)+0)%2;rw[cr];omega,fun j hj=>by rw[de.1 hj];omega⟩
  have hMo:∀l∈(stE R i).1,cm l∧lJ R (i+1) l:=fun l hl=>⟨ih.red.asc l hl,(ih.ok l hl).mono (by omega)⟩
  have hya:cm (eW (stE R i).1 (R.getD i default,[(i:Int)])):=iH ih.red.asc hx;have hyo:lJ R (i+1) (eW (stE R i).1 (R.getD i default,[(i:Int)])):=rQ hMo hx hxo;have hyn:=fun l hl=>mR ih.red hx (l:=l) hl;have hysp:Sp ((stE R i).1.map Prod.fst) (bN (R.getD i default) (eW (stE R i).1 (R.getD i default,[(i:Int)])).1):=xy (fC ih.red) (fun l hl=>⟨ih.red.asc l hl,bK.2 ⟨l,hl,rfl⟩⟩) hx;have htk:R.take (i+1)=R.take i++[R.getD i default]:=b5 (by omega);have hTa:∀r∈R.take (i+1),bz r:=fun r hr=>hR r (jq hr);unfold stE;generalize eW (stE R i).1 (R.getD i default,[(i:Int)])=y at *;generalize (stE R i).1=M at *;generalize (stE R i).2=D at *;have hup:∀l∈M,Sp (R.take (i+1)) l.1:=fun l hl=>li (fun r hr=>by rw[htk];exact np _ hr) (ih.inS l hl)
  have hMsp:∀ {v},Sp (M.map Prod.fst) v→Sp (R.take (i + 1)) v:=fun hv=>mB hTa (fun r hr=>by
   obtain⟨l,hl,rfl⟩:=bK.1 hr;exact hup l hl) hv
  by_cases h0:y.1=[]
  ·rw[if_pos h0];rw[h0,fK] at hysp;refine⟨ih.red,fun l hl=>(hMo l hl).2,fun z hz=>?_,?_,hup,fun r hr=>?_⟩
   ·rcases eD.1 hz with h|h
    ·exact⟨(ih.dep z h).1,(ih.dep z h).2.mono (by omega)⟩
    ·rw[de.1 h];have e:(([],y.2):Ln)=y:=by rw[←h0]
     rw[e];exact⟨hya,hyo⟩
   ·show M.length+(D++[y.2]).length=i+1;rw[cS,List.length_singleton];have:=ih.len;omega
   ·rw[htk] at hr;rcases eD.1 hr with h|h
    ·exact ih.all r h
    ·rw[de.1 h];exact hysp
  ·rw[if_neg h0];have hi2:=C5 ih.red hya h0 hyn
   have hyS:Sp (R.take (i+1)) y.1:=by
    have h1:=hMsp hysp;have h2:Sp (R.take (i+1)) (R.getD i default):=eA (by rw[htk];exact ng _ (de.2 rfl));have h3:=kY hTa h2 h1
    rwa [fg hx.1 hx.1 hya.1,fT hx.1,io] at h3
   have hyI:y∈lz M y:=ng _ (de.2 rfl)
   have hcl:∀l∈M,Sp ((lz M y).map Prod.fst) l.1:=fun l hl=>by
    have hm:jo y l∈lz M y:=np _ (bK.2 ⟨l,hl,rfl⟩);have h1:=eA (bK.2 ⟨_,hm,rfl⟩:(jo y l).1∈(lz M y).map Prod.fst);unfold jo at h1;by_cases h:ld y.1∈l.1
    ·rw[if_pos h] at h1;have h2:=kY (fC hi2) h1 (eA (bK.2 ⟨_,hyI,rfl⟩));have hla:=(ih.red.asc l hl).1
     rwa [show(dY l y).1=bN l.1 y.1 from rfl,←fg hla hya.1 hya.1,fT hya.1,fK] at h2
    ·rwa [if_neg h] at h1
   refine⟨hi2,fun m hm=>?_,fun z hz=>⟨(ih.dep z hz).1,(ih.dep z hz).2.mono (by omega)⟩,?_,fun m hm=>?_,fun r hr=>?_⟩
   ·rcases eD.1 hm with h|h
    ·obtain⟨l,hl,rfl⟩:=bK.1 h;unfold jo;split
     ·exact xV (hMo l hl).1 hya (hMo l hl).2 hyo
     ·exact(hMo l hl).2
    ·rw[de.1 h];exact hyo
   ·show(lz M y).length+D.length=i+1;unfold lz;rw[cS,bt,List.length_singleton];have:=ih.len;omega
   ·rcases eD.1 hm with h|h
    ·obtain⟨l,hl,rfl⟩:=bK.1 h;unfold jo;split
     ·exact kY hTa (hup l hl) hyS
     ·exact hup l hl
    ·rw[de.1 h];exact hyS
   ·have hMI:∀ {v},Sp (M.map Prod.fst) v→Sp ((lz M y).map Prod.fst) v:=fun hv=>mB (fC hi2) (fun r hr=>by
      obtain⟨l,hl,rfl⟩:=bK.1 hr;exact hcl l hl) hv
    rw[htk] at hr;rcases eD.1 hr with h|h
    ·exact hMI (ih.all r h)
    ·rw[de.1 h];have h2:=kY (fC hi2) (hMI hysp) (eA (bK.2 ⟨_,hyI,rfl⟩))
     rwa [←fg hx.1 hya.1 hya.1,fT hya.1,fK] at h2
def lM(M:List Ln)(c:Nat):List Ln:=(List.range c).filterMap fun(k:Nat)=>M.find? fun l=>decide (ld l.1=(k:Int))
theorem pS{M:List Ln}{c:Nat}:lM M (c+1)=lM M c++(M.find? fun l=>decide (ld l.1=(c:Int))).toList:=by
 unfold lM;rw[List.range_succ,List.filterMap_append]
 congr 1
theorem po{M:List Ln}{c:Nat}{l:Ln}(hM:RedU M):l∈lM M c↔l∈M∧0≤ld l.1∧ld l.1<c:=by
 unfold lM;rw[List.mem_filterMap];constructor
 ·rintro⟨k,hk,h⟩;have h1:=List.mem_of_find?_eq_some h;have h2:ld l.1=(k:Int):=by simpa using List.find?_some h
  have:=dT.1 hk;exact⟨h1,by omega,by omega⟩
 ·rintro⟨h1,h2,h3⟩;refine⟨(ld l.1).toNat,dT.2 (by omega),?_⟩;cases h:M.find? fun m=>decide (ld m.1=((ld l.1).toNat:Int)) with
  |none=>
   have:=List.find?_eq_none.1 h l h1;rw[f8] at this;omega
  |some m=>
   have e:ld m.1=((ld l.1).toNat:Int):=by simpa using List.find?_some h
   have hm:=List.mem_of_find?_eq_some h
   congr 1
   refine hM.own l h1 m hm ?_;rw[show ld l.1=ld m.1 by omega];exact dj (hM.ne m hm)
theorem ol{M:List Ln}(hM:RedU M):∀{c:Nat},(lM M c).Pairwise fun a b=>ld a.1<ld b.1
 |0=>qq
 |c+1=>by
  rw[pS];refine List.pairwise_append.2 ⟨ol hM,?_,fun a ha b hb=>?_⟩
  ·cases M.find? fun l=>decide (ld l.1=(c:Int))
   ·exact qq
   ·exact List.pairwise_singleton ..
  ·have h1:=((po hM).1 ha).2.2;have h2:ld b.1=(c:Int):=by simpa using List.find?_some (Option.mem_toList.1 hb)
   omega
theorem Ep{M:List Ln}{c:Nat}(hM:RedU M):Red ((lM M c).map Prod.fst):=by
 have hm:∀r∈(lM M c).map Prod.fst,∃l∈M,l.1=r:=fun r hr=>by
  obtain⟨l,hl,rfl⟩:=bK.1 hr;exact⟨l,((po hM).1 hl).1,rfl⟩
 refine⟨fun r hr=>?_,fun r hr=>?_,fun r hr q hq h=>?_,List.pairwise_map.2 (ol hM)⟩
 ·obtain⟨l,hl,rfl⟩:=hm r hr;exact(hM.asc l hl).1
 ·obtain⟨l,hl,rfl⟩:=hm r hr;exact hM.ne l hl
 ·obtain⟨l,hl,rfl⟩:=hm r hr;obtain⟨k,hk,rfl⟩:=hm q hq;rw[hM.own l hl k hk h]
def lL(R:List (List Int))(c:Nat):List Ln:=lM (stE R R.length).1 c
def d6(R:List (List Int))(c:Nat):List (List Int):=(lL R c).map Prod.fst
theorem kV{S:List (List Int)}{v:List Int}{P:Int→Prop}(hS:∀r∈S,bz r)(hP:∀r∈S,∀z∈r,P z)(h:Sp S v):∀z∈v,P z:=by
 induction h with
 |nil=>exact fun z hz=>by cases hz
 | @add w r h1 h2 ih=>
  intro z hz;rcases(dp (mw hS h1) (hS r h2)).1 hz with q|q
  ·exact ih z q.1
  ·exact hP r h2 z q.1
theorem lf{R:List (List Int)}{c:Nat}(hR:∀r∈R,bz r)(hv:∀r∈R,∀z∈r,0≤z∧z<(c:Int)):Red (d6 R c)∧(∀v,Sp (d6 R c) v↔Sp R v)∧∀l,l∈lL R c↔l∈(stE R R.length).1:=by
 have hs:=iZ hR (aO R.length);have hin:=hs.inS;have hall:=hs.all;rw[show R.take R.length=R from List.take_length] at hin hall
 have hmem:∀l,l∈lL R c↔l∈(stE R R.length).1:=fun l=>by
  unfold lL;rw[po hs.red];refine⟨fun h=>h.1,fun h=>?_⟩;have:=kV hR hv (hin l h) _ (dj (hs.red.ne l h));exact⟨h,this.1,this.2⟩
 have hred:Red (d6 R c):=Ep hs.red;refine⟨hred,fun v=>⟨fun h=>mB hR (fun r hr=>?_) h,fun h=>mB hred.asc (fun r hr=>?_) h⟩,hmem⟩
 ·obtain⟨l,hl,rfl⟩:=bK.1 hr;exact hin l ((hmem l).1 hl)
 ·refine mB hred.asc (fun q hq=>?_) (hall r hr);obtain⟨l,hl,rfl⟩:=bK.1 hq;exact eA (bK.2 ⟨l,(hmem l).2 hl,rfl⟩)
theorem oE{α:Type}[Inhabited α]{f:Nat→α}{n i:Nat}(h:i<n):((List.range n).map f).getD i default=f i:=by
 simp[List.getD,h]
theorem pN{α:Type}[Inhabited α]{l:List α}{x:α}(h:x∈l):∃i,i<l.length∧l.getD i default=x:=by
 obtain⟨i,hi,e⟩:=jp h;exact⟨i,hi,by simp[List.getD,hi,e]⟩
def t8(rows:List (List Int))(n c:Nat):Option Nat:=(List.range rows.length).find? fun i=>decide (n≤i)&&decide ((c:Int)∈rows.getD i default)
def swI(n k i:Nat):Nat:=if i=n then k else if i=k then n else i
def swL(rows:List (List Int))(n k:Nat):List (List Int):=(List.range rows.length).map fun i=>rows.getD (swI n k i) default
def elF(rows:List (List Int))(n c i:Nat):List Int:=if i≠n∧(c:Int)∈rows.getD i default then bN (rows.getD i default) (rows.getD n default) else rows.getD i default
def elL(rows:List (List Int))(n c:Nat):List (List Int):=(List.range rows.length).map (elF rows n c)
def stR(R:List (List Int)):Nat→List (List Int)×Nat
 |0=>(R,0)
 |c+1=>match t8 (stR R c).1 (stR R c).2 c with
  |none=>stR R c
  |some k=>(elL (swL (stR R c).1 (stR R c).2 k) (stR R c).2 c,(stR R c).2+1)
structure RdOk(R rows:List (List Int))(n c:Nat):Prop where
 asc:∀i,i<R.length→bz (rows.getD i default)
 len:rows.length=R.length
 nle:n≤R.length
 sp:∀v,Sp rows v↔Sp R v
 top:∀i,i<n→rows.getD i default≠[]∧ld (rows.getD i default)<c
 own:∀i,i<n→∀j,j<R.length→ld (rows.getD i default)∈rows.getD j default→j=i
 ord:∀i j,i<j→j<n→ld (rows.getD i default)<ld (rows.getD j default)
 low:∀i,n≤i→i<R.length→∀z∈rows.getD i default,(c:Int)≤z
theorem n7{n k i N:Nat}(hn:n<N)(hk:k<N)(hi:i<N):swI n k i<N:=by
 unfold swI;split
 ·exact hk
 ·split
  ·exact hn
  ·exact hi
theorem yg{n k i:Nat}:swI n k (swI n k i)=i:=by
 unfold swI;by_cases h1:i=n
 ·subst h1;rw[if_pos rfl];by_cases h2:k=i
  ·rw[if_pos h2];exact h2
  ·rw[if_neg h2,if_pos rfl]
 ·rw[if_neg h1];by_cases h2:i=k
  ·rw[if_pos h2,if_pos rfl];exact h2.symm
  ·rw[if_neg h2,if_neg h1,if_neg h2]
theorem HL{rows:List (List Int)}{N:Nat}(hl:rows.length=N)(h:∀i,i<N→bz (rows.getD i default)):∀r∈rows,bz r:=fun r hr=>by
 obtain⟨i,hi,e⟩:=pN hr;rw[←e];exact h i (by omega)
theorem Iq{rows:List (List Int)}{n k:Nat}(hn:n<rows.length)(hk:k<rows.length)(v:List Int):Sp (swL rows n k) v↔Sp rows v:=by
 constructor
 ·refine li fun r hr=>?_;obtain⟨i,hi,rfl⟩:=bK.1 hr;exact az (n7 hn hk (dT.1 hi))
 ·refine li fun r hr=>?_;obtain⟨i,hi,rfl⟩:=pN hr;refine bK.2 ⟨swI n k i,dT.2 (n7 hn hk hi),?_⟩;rw[yg]
theorem Jl{rows:List (List Int)}{n c:Nat}(ha:∀i,i<rows.length→bz (rows.getD i default))(hn:n<rows.length)(v:List Int):Sp (elL rows n c) v↔Sp rows v:=by
 have hE:∀i,i<rows.length→bz (elF rows n c i):=fun i hi=>by
  unfold elF;split
  ·exact eb (ha i hi) (ha n hn)
  ·exact ha i hi
 have hEa:∀r∈elL rows n c,bz r:=fun r hr=>by
  obtain⟨i,hi,rfl⟩:=bK.1 hr;exact hE i (dT.1 hi)
 have hRa:=HL rfl ha;have hin:∀i,i<rows.length→elF rows n c i∈elL rows n c:=fun i hi=>bK.2 ⟨i,dT.2 hi,rfl⟩
 have hpn:Sp (elL rows n c) (rows.getD n default):=by
  have h:=eA (hin n hn);unfold elF at h
  rwa [if_neg (fun q=>q.1 rfl)] at h
 constructor
 ·refine mB hRa fun r hr=>?_;obtain⟨i,hi,rfl⟩:=bK.1 hr;have hi:=dT.1 hi;unfold elF;split
  ·exact kY hRa (eA (az hi)) (eA (az hn))
  ·exact eA (az hi)
 ·refine mB hEa fun r hr=>?_;obtain⟨i,hi,rfl⟩:=pN hr;have h:=eA (hin i hi);unfold elF at h;split at h
  ·have h2:=kY hEa h hpn
   rwa [←fg (ha i hi) (ha n hn) (ha n hn),fT (ha n hn),fK] at h2
  ·exact h
theorem FV{R:List (List Int)}(hR:∀r∈R,bz r)(hv:∀r∈R,∀z∈r,(0:Int)≤z):∀{c:Nat},RdOk R (stR R c).1 (stR R c).2 c
 |0=>⟨fun i hi=>hR _ (az hi),rfl,bB _,fun _=>Iff.rfl,fun i h=>absurd h (Nat.not_lt_zero _),fun i h=>absurd h (Nat.not_lt_zero _),fun i j _ h=>absurd h (Nat.not_lt_zero _),fun i _ hi z hz=>hv _ (az hi) z hz⟩
 |c+1=>by
  have ih:=FV hR hv (c:=c);unfold stR;generalize e1:(stR R c).1=rows at *;generalize e2:(stR R c).2=n at *;obtain⟨i1,i2,i3,i4,i5,i6,i7,i8⟩:=ih;cases hp:t8 rows n c with
  |none=>
   show RdOk R (stR R c).1 (stR R c).2 (c+1);rw[e1,e2];refine⟨i1,i2,i3,i4,fun i hi=>⟨(i5 i hi).1,by have:=(i5 i hi).2;omega⟩,i6,i7,fun i h1 h2 z hz=>?_⟩;have h3:=i8 i h1 h2 z hz;have h4:=List.find?_eq_none.1 hp i (dT.2 (by omega));have h5:z≠(c:Int):=fun e=>h4 (by rw[←e];simp only[dz,f8];exact⟨h1,hz⟩);omega
  |some k=>
   show RdOk R (elL (swL rows n k) n c) (n+1) (c+1);have k1:=dT.1 (List.mem_of_find?_eq_some hp)
   have k2:n≤k∧(c:Int)∈rows.getD k default:=by
    have:=List.find?_some hp;simpa only[dz,f8] using this
   obtain⟨k3,k4⟩:=k2;have hkN:k<R.length:=by omega
   have hnN:n<R.length:=by omega
   have sl:(swL rows n k).length=R.length:=by unfold swL;rw[bt,List.length_range,i2]
   have gs:∀i,i<R.length→(swL rows n k).getD i default=rows.getD (swI n k i) default:=fun i hi=>oE (by omega)
   have gp:(swL rows n k).getD n default=rows.getD k default:=by
    rw[gs n hnN];unfold swI;rw[if_pos rfl]
   have ge:∀i,i<R.length→(elL (swL rows n k) n c).getD i default=elF (swL rows n k) n c i:=fun i hi=>oE (by omega)
   have gn:(elL (swL rows n k) n c).getD n default=rows.getD k default:=by
    rw[ge n hnN];unfold elF;rw[if_neg (fun q=>q.1 rfl),gp]
   have gi:∀i,i<R.length→i≠n→(elL (swL rows n k) n c).getD i default=if (c:Int)∈rows.getD (swI n k i) default then bN (rows.getD (swI n k i) default) (rows.getD k default) else rows.getD (swI n k i) default:=fun i hi hn=>by
    rw[ge i hi];unfold elF;rw[gs i hi,gp];by_cases h:(c:Int)∈rows.getD (swI n k i) default
    ·rw[if_pos ⟨hn,h⟩,if_pos h]
    ·rw[if_neg (fun q=>h q.2),if_neg h]
   have hpa:=i1 k hkN;have hpl:=i8 k k3 hkN;have hsa:∀i,i<R.length→bz (rows.getD (swI n k i) default):=fun i hi=>i1 _ (n7 hnN hkN hi);have hld:ld (rows.getD k default)=c:=Int.le_antisymm (nD hpa k4) (hpl _ (dj (fun e=>by rw[e] at k4;cases k4)));have hpne:rows.getD k default≠[]:=fun e=>by rw[e] at k4;cases k4
   have hsw:∀i,i<n→swI n k i=i:=fun i hi=>by unfold swI;rw[if_neg (by omega),if_neg (by omega)]
   have hnp:∀i,i<n→ld (rows.getD i default)∉rows.getD k default:=fun i hi h=>by have:=i6 i hi k hkN h;omega
   have hsw2:∀v,Sp (swL rows n k) v↔Sp rows v:=fun v=>Iq (by omega) (by omega) v;have hda:∀i,i<(swL rows n k).length→bz ((swL rows n k).getD i default):=fun i hi=>by rw[gs i (by omega)];exact hsa i (by omega)
   have hmem:∀j,j<R.length→j≠n→∀z,z∈(elL (swL rows n k) n c).getD j default→z∉rows.getD k default→z∈rows.getD (swI n k j) default:=fun j hj hn z hz hzp=>by
    rw[gi j hj hn] at hz;split at hz
    ·rcases(dp (hsa j hj) hpa).1 hz with q|q
     ·exact q.1
     ·exact absurd q.1 hzp
    ·exact hz
   have hlow:∀j,j<R.length→j≠n→(c:Int)∉(elL (swL rows n k) n c).getD j default:=fun j hj hn hz=>by
    rw[gi j hj hn] at hz;split at hz
    ·rename_i h;rcases(dp (hsa j hj) hpa).1 hz with q|q
     ·exact q.2 k4
     ·exact q.2 h
    ·rename_i h;exact h hz
   have htop:∀i,i<n→ld ((elL (swL rows n k) n c).getD i default)=ld (rows.getD i default)∧(elL (swL rows n k) n c).getD i default≠[]:=fun i hi=>by
    obtain⟨t1,t2⟩:=i5 i hi;rw[gi i (by omega) (by omega),hsw i hi];split
    ·have hm:ld (rows.getD i default)∈bN (rows.getD i default) (rows.getD k default):=(dp (i1 i (by omega)) hpa).2 (.inl ⟨dj t1,hnp i hi⟩);have hne:bN (rows.getD i default) (rows.getD k default)≠[]:=fun e=>by rw[e] at hm;cases hm
     refine⟨Int.le_antisymm (nD (eb (i1 i (by omega)) hpa) hm) ?_,hne⟩;rcases(dp (i1 i (by omega)) hpa).1 (dj hne) with q|q
     ·exact nD (i1 i (by omega)) q.1
     ·have:=hpl _ q.1;omega
    ·exact⟨rfl,t1⟩
   refine⟨fun i hi=>?_,?_,by omega,fun v=>?_,fun i hi=>?_,fun i hi j hj h=>?_,fun i j hij hj=>?_,fun i h1 h2 z hz=>?_⟩
   ·rw[ge i hi];unfold elF;split
    ·exact eb (hda i (by omega)) (hda n (by omega))
    ·exact hda i (by omega)
   ·unfold elL;rw[bt,List.length_range,sl]
   ·rw[Jl hda (by omega),hsw2,i4]
   ·by_cases hin:i=n
    ·subst hin;rw[gn,hld];exact⟨hpne,by omega⟩
    ·obtain⟨t1,t2⟩:=htop i (by omega);rw[t1];have:=(i5 i (by omega)).2;exact⟨t2,by omega⟩
   ·by_cases hin:i=n
    ·subst hin;rw[gn,hld] at h;exact Decidable.byContradiction fun hne=>hlow j hj hne h
    ·have hi':i<n:=by omega
     rw[(htop i hi').1] at h;by_cases hjn:j=n
     ·subst hjn;rw[gn] at h;exact absurd h (hnp i hi')
     ·have h3:=i6 i hi' _ (n7 hnN hkN hj) (hmem j hj hjn _ h (hnp i hi'));have h4:=congrArg (swI n k) h3;rw[yg,hsw i hi'] at h4;exact h4
   ·by_cases hjn:j=n
    ·subst hjn;rw[gn,hld,(htop i hij).1];exact(i5 i hij).2
    ·rw[(htop i (by omega)).1,(htop j (by omega)).1];exact i7 i j hij (by omega)
   ·have hz2:z≠(c:Int):=fun e=>hlow i h2 (by omega) (e▸hz);have hs:n≤swI n k i:=by unfold swI;split<;>(try split)<;>omega
    rw[gi i h2 (by omega)] at hz
    have hz3:(c:Int)≤z:=by
     split at hz
     ·rcases(dp (hsa i h2) hpa).1 hz with q|q
      ·exact i8 _ hs (n7 hnN hkN h2) z q.1
      ·exact hpl z q.1
     ·exact i8 _ hs (n7 hnN hkN h2) z hz
    omega
def v7(R:List (List Int))(c:Nat):List (List Int):=(stR R c).1.take (stR R c).2
theorem sD{R:List (List Int)}{c:Nat}(hR:∀r∈R,bz r)(hv:∀r∈R,∀z∈r,0≤z∧z<(c:Int)):v7 R c=d6 R c:=by
 have h:=FV hR (fun r hr z hz=>(hv r hr z hz).1) (c:=c);obtain⟨e1,e2,_⟩:=lf hR hv;unfold v7;generalize (stR R c).1=rows at *;generalize (stR R c).2=n at *;obtain⟨i1,i2,i3,i4,i5,i6,i7,i8⟩:=h;have hlt:(rows.take n).length=n:=by rw[f0];omega
 have hg:∀i,i<n→(rows.take n).getD i default=rows.getD i default:=fun i hi=>by
  simp[List.getD,iq,hi]
 have hex:∀r∈rows.take n,∃i,i<n∧rows.getD i default=r:=fun r hr=>by
  obtain⟨i,hi,e⟩:=pN hr;exact⟨i,by omega,by rw[←e,hg i (by omega)]⟩
 have hsub:∀r∈R,∀z∈r,0≤z∧z<(c:Int):=hv
 have hred:Red (rows.take n):=by
  refine⟨fun r hr=>?_,fun r hr=>?_,fun r hr q hq hl=>?_,?_⟩
  ·obtain⟨i,hi,rfl⟩:=hex r hr;exact i1 i (by omega)
  ·obtain⟨i,hi,rfl⟩:=hex r hr;exact(i5 i hi).1
  ·obtain⟨i,hi,rfl⟩:=hex r hr;obtain⟨j,hj,rfl⟩:=hex q hq;rw[i6 i hi j (by omega) hl]
  ·rw[kJ];intro i j hi hj hij;have h1:=hg i (by omega);have h2:=hg j (by omega);simp only[List.getD,hi,hj,rz,uc] at h1 h2;rw[h1,h2];exact i7 i j hij (by omega)
 refine sM hred e1 fun v=>?_;rw[e2,←i4];constructor
 ·exact li fun r hr=>jq hr
 ·refine mB hred.asc fun r hr=>?_;obtain⟨i,hi,e⟩:=pN hr;by_cases hin:i<n
  ·refine eA ?_;rw[←e,←hg i hin];exact az (by omega)
  ·have hnil:r=[]:=by
     cases hr0:r with
     |nil=>rfl
     |cons z l=>
      have hz:z∈rows.getD i default:=by rw[e,hr0];exact dq ..
      have h1:=i8 i (by omega) (by omega) z hz;have h2:=kV hR hv ((i4 r).1 (eA hr)) z (by rw[hr0];exact dq ..);omega
   rw[hnil];exact Sp.nil
theorem vI{M:List Ln}{v:List Int}(hM:RedU M)(hv:Sp (M.map Prod.fst) v)(h:∀l∈M,ld l.1∉v):v=[]:=by
 have hn:(M.map Prod.fst).Nodup:=List.pairwise_map.2 (List.Pairwise.imp_of_mem (fun{a b} ha hb hab e=>hab (hM.own b hb a ha (by rw[e];exact dj (hM.ne b hb)))) hM.nodup);obtain⟨av,p,hp⟩:=ww (fC hM) hn hv
 have hpf:∀r∈M.map Prod.fst,¬p r=true:=fun r hr hpr=>by
  obtain⟨l,hl,rfl⟩:=bK.1 hr;have h1:=hp (ld l.1)
  rw [sQ hn hr (dj (hM.ne l hl)) (fun q hq hz=>by
   obtain⟨m,hm,rfl⟩:=bK.1 hq;rw[hM.own l hl m hm hz]),if_pos hpr] at h1
  exact h l hl (dB.1 (by omega))
 exact we fun z=>by rw[hp z,mX fun q hq hpq=>absurd hpq (hpf q hq)]
def wN(R:List (List Int))(z j:Int):Nat:=bit z (R.getD j.toNat default)
theorem uJ{f:Ln→List Int}{z:Int}{p:Ln→Bool}:∀{E:List Ln},(∀l∈E,z∉f l)→kF f z p E=0
 |[],_=>rfl
 |r::E,h=>by
  unfold kF;have hb:bit z (f r)=0:=by unfold bit;rw[if_neg (h r (dq ..))]
  rw[hb,uJ fun l hl=>h l (ew _ hl)];split<;>rfl
theorem xk{R:List (List Int)}(hR:∀r∈R,bz r){i:Nat}(hi:i≤R.length):∀{w:List Int},(∀j∈w,0≤j∧j<(i:Int))→∃v,Sp (R.take i) v∧∀z,bit z v=cH (wN R z) w%2
 |[],_=>⟨[],Sp.nil,fun z=>m9⟩
 |j::w,h=>by
  obtain⟨v,h1,h2⟩:=xk hR hi (w:=w) fun k hk=>h k (ew _ hk);have hj:=h j (dq ..);have hT:∀r∈R.take i,bz r:=fun r hr=>hR r (jq hr)
  have hm:R.getD j.toNat default∈R.take i:=by
   have hk:j.toNat<(R.take i).length:=by rw[f0];omega
   have:=az hk
   rwa [show(R.take i).getD j.toNat default=R.getD j.toNat default by simp[List.getD,iq,show j.toNat<i by omega]] at this
  refine⟨_,Sp.add h1 hm,fun z=>?_⟩;rw[dP (mw hT h1) (hT _ hm),h2];show _=(bit z (R.getD j.toNat default)+cH (wN R z) w)%2;omega
theorem yq{R:List (List Int)}(hR:∀r∈R,bz r):∀{i:Nat},i≤R.length→∀{y:List Int},bz y→(∀j∈y,0≤j∧j<(i:Int))→(∀z,cH (wN R z) y%2=0)→Sp (stE R i).2 y
 |0,_,y,_,hr,_=>by
  cases y with
  |nil=>exact Sp.nil
  |cons j l=>have:=hr j (dq ..);omega
 |i+1,hi,y,hy,hr,h0=>by
  have ih:=fun{y}=>yq hR (i:=i) (by omega) (y:=y);have hs:=iZ hR (i:=i) (by omega);have hx:cm (R.getD i default,[(i:Int)]):=⟨hR _ (az (by omega)),List.pairwise_singleton ..⟩
  have hya:cm (eW (stE R i).1 (R.getD i default,[(i:Int)])):=iH hs.red.asc hx;have hyn:=fun l hl=>mR hs.red hx (l:=l) hl;have hysp:Sp ((stE R i).1.map Prod.fst) (bN (R.getD i default) (eW (stE R i).1 (R.getD i default,[(i:Int)])).1):=xy (fC hs.red) (fun l hl=>⟨hs.red.asc l hl,bK.2 ⟨l,hl,rfl⟩⟩) hx
  have hxo:lJ R (i + 1) (R.getD i default,[(i:Int)]):=⟨fun z=>by
   have:=gF (z:=z) (a:=R.getD i default);show bit z (R.getD i default)=(bit z (R.getD ((i:Nat):Int).toNat default)+0)%2;rw[cr];omega,fun j hj=>by rw[de.1 hj];omega⟩
  have hyo:lJ R (i+1) (eW (stE R i).1 (R.getD i default,[(i:Int)])):=rQ (fun l hl=>⟨hs.red.asc l hl,(hs.ok l hl).mono (by omega)⟩) hx hxo
  have hbi:bit (i:Int) (eW (stE R i).1 (R.getD i default,[(i:Int)])).2=1:=by
   unfold eW;rw[lW hs.red.asc hx,uJ fun l hl h=>by have:=(hs.ok l hl).2 _ h;omega];show(bit (i:Int) [(i:Int)]+0)%2=1;rw[dB.2 (de.2 rfl)]
  have ha:∀r∈(stE R i).2,bz r:=fun r hr=>(hs.dep r hr).1.2;by_cases hiy:(i:Int)∈y
  ·have hone:bz [(i:Int)]:=List.pairwise_singleton ..;by_cases hd:(eW (stE R i).1 (R.getD i default,[(i:Int)])).1=[]
   ·have hst:(stE R (i+1)).2=(stE R i).2++[(eW (stE R i).1 (R.getD i default,[(i:Int)])).2]:=by
      show(if _ then _ else _:List Ln×List (List Int)).2=_;rw[if_pos hd]
    rw[hst];obtain⟨hy1,hy2⟩:=hyo;rw[hd] at hy1;have hxa:=hya.2;generalize (eW (stE R i).1 (R.getD i default,[(i:Int)])).2=x at *
    have h1:Sp (stE R i).2 (bN y x):=ih (eb hy hxa) (fun j hj=>by
     have hne:j≠(i:Int):=fun e=>by
      rw[e] at hj;have hb:=dB.2 hj;rw[dP hy hxa,hbi,dB.2 hiy] at hb;cases hb
     rcases(dp hy hxa).1 hj with q|q
     ·have:=hr j q.1;omega
     ·have:=hy2 j q.1;omega) (fun z=>by
     rw[gV _ _ _ (aO _)];have e1:=h0 z;have e2:bit z []=cH (wN R z) x%2:=hy1 z;rw[m9] at e2;omega)
    have hm:x∈(stE R i).2++[x]:=ng _ (de.2 rfl);have h2:=Sp.add (li (fun r hr=>np [x] hr) h1) hm
    rwa [←fg hy hxa hxa,fT hxa,fK] at h2
   ·exfalso;refine hd (vI hs.red ?_ hyn)
    have hw:∀j∈bN y [(i:Int)],0≤j∧j<(i:Int):=fun j hj=>by
     rcases(dp hy hone).1 hj with q|q
     ·have h1:=hr j q.1;have h2:j≠(i:Int):=fun e=>q.2 (de.2 e);omega
     ·exact absurd (de.1 q.1▸hiy) q.2
    obtain⟨v,v1,v2⟩:=xk hR (i:=i) (by omega) hw;have hT:∀r∈R.take i,bz r:=fun r hr=>hR r (jq hr)
    have hv:v=R.getD i default:=jC (mw hT v1) hx.1 fun z=>by
     rw[v2,gV _ _ _ (aO _)];have e1:=h0 z;have e2:=gF (z:=z) (a:=R.getD i default);show(cH (wN R z) y+(bit z (R.getD ((i:Nat):Int).toNat default)+0))%2=_;rw[cr];omega
    rw[hv] at v1;have h3:=mB (fC hs.red) hs.all v1;have h4:=kY (fC hs.red) h3 hysp
    rwa [fg hx.1 hx.1 hya.1,fT hx.1,io] at h4
  ·refine li (fun r hr=>?_) (ih hy (fun j hj=>by
     have h1:=hr j hj;have h2:j≠(i:Int):=fun e=>hiy (e▸hj);omega) h0)
   show r∈(if _ then _ else _:List Ln×List (List Int)).2;split
   ·exact np _ hr
   ·exact hr
def rn(b y:List Int):Bool:=decide (cH (fun j=>bit j b) y%2=1)
def wdR(R:List (List Int))(c:Nat)(b:List Int)(i:Nat):List Int:=if (i:Int)∈b then R.getD i default++[(c:Int)] else R.getD i default
def lu(R:List (List Int))(c:Nat)(b:List Int):List (List Int):=(List.range R.length).map (wdR R c b)
def wdL(c:Nat)(b:List Int)(l:Ln):List Int:=if rn b l.2=true then l.1++[(c:Int)] else l.1
theorem Bz{a:List Int}{c:Nat}{t:Bool}(hc:∀z∈a,z<(c:Int))(z:Int):bit z (if t=true then a++[(c:Int)] else a)=if z=c then(if t=true then 1 else 0) else bit z a:=by
 unfold bit;by_cases hz:z=c
 ·have:z∉a:=fun h=>by have:=hc z h;omega
  cases t<;>simp[hz,this]
  ·exact fun h=>by have:=hc _ h;omega
 ·cases t<;>simp[hz]
theorem Bw{a:List Int}{c:Nat}{t:Bool}(ha:bz a)(hc:∀z∈a,z<(c:Int)):bz (if t=true then a++[(c:Int)] else a):=by
 cases t
 ·simpa using ha
 ·rw[if_pos rfl];exact List.pairwise_append.2 ⟨ha,List.pairwise_singleton ..,fun x hx y hy=>by rw[de.1 hy];exact hc x hx⟩
theorem kU{g h:Int→Nat}:∀{l:List Int},(∀x∈l,g x=h x)→cH g l=cH h l
 |[],_=>rfl
 |x::l,e=>by
  unfold cH;rw[e x (dq ..),kU fun y hy=>e y (ew _ hy)]
theorem Ci{g:Int→Nat}{D:List (List Int)}{y:List Int}(h:Sp D y)(h0:∀d∈D,cH g d%2=0):cH g y%2=0:=by
 induction h with
 |nil=>rfl
 |add h1 h2 ih=>rw[gV _ _ _ (aO _)];have:=h0 _ h2;omega
theorem zJ{g:Int→Nat}{p:Ln→Bool}:∀{M:List Ln}{x:Ln},cH g (rdL M p x).2%2=(cH g x.2+(M.map fun l=>if p l=true then cH g l.2%2 else 0).sum)%2
 |[],x=>by show cH g x.2%2=(cH g x.2+0)%2;rfl
 |l::M,x=>by
  have ih:=zJ (g:=g) (p:=p) (M:=M) (x:=if p l=true then dY x l else x);show cH g (rdL M p (if p l=true then dY x l else x)).2%2=(cH g x.2+((if p l=true then cH g l.2%2 else 0)+(M.map fun l=>if p l=true then cH g l.2%2 else 0).sum))%2;rw[ih];clear ih;by_cases h:p l=true
  ·rw[if_pos h,if_pos h];have:=gV (g:=g) _ x.2 l.2 (aO _);show(cH g (bN x.2 l.2)+_)%2=_;omega
  ·rw[if_neg h,if_neg h];omega
theorem BR{f:Ln→List Int}{p:Ln→Bool}{S:List (List Int)}(hS:∀r∈S,bz r):∀{E:List Ln},(∀l∈E,f l∈S)→∃v,Sp S v∧∀z,bit z v=(E.map fun l=>if p l=true then bit z (f l) else 0).sum%2
 |[],_=>⟨[],Sp.nil,fun z=>m9⟩
 |l::E,h=>by
  obtain⟨v,v1,v2⟩:=BR (f:=f) (p:=p) hS (E:=E) fun m hm=>h m (ew _ hm);have hl:=h l (dq ..);by_cases hp:p l=true
  ·refine⟨_,Sp.add v1 hl,fun z=>?_⟩;rw[dP (mw hS v1) (hS _ hl),v2];show _=((if p l=true then bit z (f l) else 0)+(E.map fun l=>if p l=true then bit z (f l) else 0).sum)%2;rw[if_pos hp];omega
  ·refine⟨v,v1,fun z=>?_⟩;rw[v2];show _=((if p l=true then bit z (f l) else 0)+(E.map fun l=>if p l=true then bit z (f l) else 0).sum)%2;rw[if_neg hp,ce]
theorem x9{f:Ln→List Int}{z:Int}{p:Ln→Bool}:∀{E:List Ln},(E.map fun l=>if p l=true then bit z (f l) else 0).sum=kF f z p E
 |[]=>rfl
 |l::E=>by
  show(if p l=true then bit z (f l) else 0)+(E.map fun l=>if p l=true then bit z (f l) else 0).sum=_;rw[x9];rfl
theorem zj{R:List (List Int)}{c:Nat}{b:List Int}{i:Nat}(h:i<R.length):(lu R c b).getD i default=wdR R c b i:=oE h
theorem nQ{R:List (List Int)}{c:Nat}{b:List Int}(hR:∀r∈R,bz r)(hv:∀r∈R,∀z∈r,0≤z∧z<(c:Int)):
    (∀r∈lu R c b,bz r)∧(∀r∈lu R c b,∀z∈r,0≤z∧z<((c+1:Nat):Int))∧∀i,i<R.length→∀z,bit z ((lu R c b).getD i default)=if z=c then bit (i:Int) b else bit z (R.getD i default):=by
 have hw:∀i,wdR R c b i=if decide ((i:Int)∈b)=true then R.getD i default++[(c:Int)] else R.getD i default:=fun i=>by
  unfold wdR;by_cases h:(i:Int)∈b<;>simp[h]
 refine⟨fun r hr=>?_,fun r hr z hz=>?_,fun i hi z=>?_⟩
 ·obtain⟨i,hi,rfl⟩:=bK.1 hr;have hi:=dT.1 hi;rw[hw];exact Bw (hR _ (az hi)) fun z hz=>(hv _ (az hi) z hz).2
 ·obtain⟨i,hi,rfl⟩:=bK.1 hr;have hi:=dT.1 hi;have hvi:=hv _ (az hi);unfold wdR at hz;split at hz
  ·rcases eD.1 hz with h|h
   ·have:=hvi z h;omega
   ·rw[de.1 h];omega
  ·have:=hvi z hz;omega
 ·rw[zj hi,hw,Bz (fun z hz=>(hv _ (az hi) z hz).2)];by_cases h:z=c
  ·rw[if_pos h,if_pos h];by_cases hb:(i:Int)∈b<;>simp[hb,bit]
  ·rw[if_neg h,if_neg h]
theorem Dt{R:List (List Int)}{c:Nat}{b:List Int}(hR:∀r∈R,bz r)(hv:∀r∈R,∀z∈r,0≤z∧z<(c:Int)){y:List Int}(hy:∀j∈y,0≤j∧j<(R.length:Int))(z:Int):
    cH (wN (lu R c b) z) y=if z=c then cH (fun j=>bit j b) y else cH (wN R z) y:=by
 obtain⟨_,_,h3⟩:=nQ (b:=b) hR hv;by_cases h:z=c
 ·rw[if_pos h];refine kU fun j hj=>?_;have:=hy j hj;unfold wN;rw[h3 j.toNat (by omega),if_pos h,show((j.toNat:Nat):Int)=j by omega]
 ·rw[if_neg h];refine kU fun j hj=>?_;have:=hy j hj;unfold wN;rw[h3 j.toNat (by omega),if_neg h]
theorem CM{R:List (List Int)}{c:Nat}{b:List Int}(hR:∀r∈R,bz r)(hv:∀r∈R,∀z∈r,0≤z∧z<(c:Int))(h0:∀y∈(stE R R.length).2,rn b y=false):v7 (lu R c b) (c+1)=(lL R c).map (wdL c b):=by
 obtain⟨h1,h2,h3⟩:=nQ (b:=b) hR hv;have hs:=iZ hR (aO R.length);obtain⟨e1,e2,_⟩:=lf h1 h2;obtain⟨d1,d2,d3⟩:=lf hR hv;rw[sD h1 h2];have hl:(lu R c b).length=R.length:=by unfold lu;simp
 have hlv:∀l∈(stE R R.length).1,∀z∈l.1,0≤z∧z<(c:Int):=fun l hl=>kV hR hv (li (fun r hr=>jq hr) (hs.inS l hl))
 have hbw:∀l∈(stE R R.length).1,∀z,bit z (wdL c b l)=if z=c then cH (fun j=>bit j b) l.2%2 else bit z l.1:=fun l hl z=>by
  unfold wdL;rw[Bz fun z hz=>(hlv l hl z hz).2];by_cases h:z=c
  ·rw[if_pos h,if_pos h];unfold rn;by_cases ho:cH (fun j=>bit j b) l.2%2=1
   ·simp[ho]
   ·simp[ho];omega
  ·rw[if_neg h,if_neg h]
 have hwa:∀l∈(stE R R.length).1,bz (wdL c b l):=fun l hl=>Bw (hs.red.asc l hl).1 fun z hz=>(hlv l hl z hz).2
 have hldw:∀l∈(stE R R.length).1,ld (wdL c b l)=ld l.1:=fun l hl=>by
  have hne:=hs.red.ne l hl;unfold wdL;split
  ·cases hq:l.1 with
   |nil=>exact absurd hq hne
   |cons x t=>rfl
  ·rfl
 have hF:Red ((lL R c).map (wdL c b)):=by
  refine⟨fun r hr=>?_,fun r hr=>?_,fun r hr q hq h=>?_,?_⟩
  ·obtain⟨l,hl,rfl⟩:=bK.1 hr;exact hwa l ((d3 l).1 hl)
  ·obtain⟨l,hl,rfl⟩:=bK.1 hr;have hne:=hs.red.ne l ((d3 l).1 hl);unfold wdL;split
   ·simp
   ·exact hne
  ·obtain⟨l,hl,rfl⟩:=bK.1 hr;obtain⟨m,hm,rfl⟩:=bK.1 hq;have hl:=(d3 l).1 hl;have hm:=(d3 m).1 hm;rw[hldw l hl] at h;have h4:=dB.2 h;have h5:=hlv l hl _ (dj (hs.red.ne l hl));rw[hbw m hm,if_neg (by omega)] at h4;rw[hs.red.own l hl m hm (dB.1 h4)]
  ·rw[List.pairwise_map];refine List.Pairwise.imp_of_mem (fun{x y} hx hy h=>?_) (ol hs.red (c:=c));rw[hldw x ((d3 x).1 hx),hldw y ((d3 y).1 hy)];exact h
 refine sM e1 hF fun v=>?_;rw[e2];have hTk:∀r∈(lu R c b).take R.length,bz r:=fun r hr=>h1 r (jq hr);constructor
 ·refine mB hF.asc fun r hr=>?_;obtain⟨i,hi,e⟩:=pN hr;have hiR:i<R.length:=by omega
  have hx:cm (R.getD i default,[(i:Int)]):=⟨hR _ (az hiR),List.pairwise_singleton ..⟩
  have hxo:lJ R R.length (R.getD i default,[(i:Int)]):=⟨fun z=>by
   have:=gF (z:=z) (a:=R.getD i default);show bit z (R.getD i default)=(bit z (R.getD ((i:Nat):Int).toNat default)+0)%2;rw[cr];omega,fun j hj=>by rw[de.1 hj];omega⟩
  have hya:=iH (p:=eP (R.getD i default,[(i:Int)])) hs.red.asc hx;have hyo:=rQ (p:=eP (R.getD i default,[(i:Int)])) (fun l hl=>⟨hs.red.asc l hl,hs.ok l hl⟩) hx hxo;have hysp:=xy (p:=eP (R.getD i default,[(i:Int)])) (fC hs.red) (fun l hl=>⟨hs.red.asc l hl,bK.2 ⟨l,hl,rfl⟩⟩) hx;have hyn:=fun l hl=>mR hs.red hx (l:=l) hl;have hb1:=fun z=>ka (p:=eP (R.getD i default,[(i:Int)])) (z:=z) hs.red.asc hx;have hg:=zJ (g:=fun j=>bit j b) (p:=eP (R.getD i default,[(i:Int)])) (M:=(stE R R.length).1) (x:=(R.getD i default,[(i:Int)]));unfold eW at hyn;generalize hpp:eP (R.getD i default,[(i:Int)])=p at *;have hRi:Sp ((stE R R.length).1.map Prod.fst) (R.getD i default):=hs.all _ (by rw[List.take_length];exact az hiR)
  have hnil:(rdL (stE R R.length).1 p (R.getD i default,[(i:Int)])).1=[]:=by
   refine vI hs.red ?_ hyn;have h4:=kY (fC hs.red) hRi hysp
   rwa [fg hx.1 hx.1 hya.1,fT hx.1,io] at h4
  obtain⟨q1,q2⟩:=hyo;rw[hnil] at q1
  have hdep:=yq hR (aO R.length) hya.2 q2 fun z=>by
   have:=q1 z;rw[m9] at this;exact this.symm
  have hev:=Ci (g:=fun j=>bit j b) hdep fun d hd=>by
   have:=h0 d hd;unfold rn at this;have:=of_decide_eq_false this;omega
  obtain⟨u,u1,u2⟩:=BR (f:=wdL c b) (p:=p) hF.asc (E:=(stE R R.length).1) fun l hl=>bK.2 ⟨l,(d3 l).2 hl,rfl⟩
  have hur:u=r:=by
   refine jC (mw hF.asc u1) (h1 r hr) fun z=>?_;rw[←e,h3 i hiR,u2];by_cases h:z=c
   ·rw[if_pos h,h]
    have hm:((stE R R.length).1.map fun l=>if p l=true then bit (c:Int) (wdL c b l) else 0)=(stE R R.length).1.map fun l=>if p l=true then cH (fun j=>bit j b) l.2%2 else 0:=
     uv fun l hl=>by rw[hbw l hl,if_pos rfl]
    rw[hm];rw[hev] at hg;have hone:cH (fun j=>bit j b) [(i:Int)]=bit (i:Int) b+0:=rfl;have hlt:=gF (z:=(i:Int)) (a:=b);change 0=(cH (fun j=>bit j b) [(i:Int)]+_)%2 at hg;rw[hone] at hg;omega
   ·rw[if_neg h]
    have hm:((stE R R.length).1.map fun l=>if p l=true then bit z (wdL c b l) else 0)=(stE R R.length).1.map fun l=>if p l=true then bit z l.1 else 0:=
     uv fun l hl=>by rw[hbw l hl,if_neg h]
    rw[hm,x9 (f:=Prod.fst)];have h5:=hb1 z;rw[hnil,m9] at h5;have hlt:=gF (z:=z) (a:=R.getD i default);change 0=(bit z (R.getD i default)+_)%2 at h5;omega
  rw[←hur];exact u1
 ·refine mB h1 fun r hr=>?_;obtain⟨l,hl,rfl⟩:=bK.1 hr;have hl:=(d3 l).1 hl;obtain⟨k1,k2⟩:=hs.ok l hl;obtain⟨v,v1,v2⟩:=xk h1 (i:=R.length) (by omega) k2
  have:v=wdL c b l:=jC (mw hTk v1) (hwa l hl) fun z=>by
   rw[v2,Dt hR hv k2,hbw l hl];by_cases h:z=c
   ·rw[if_pos h,if_pos h]
   ·rw[if_neg h,if_neg h];exact(k1 z).symm
  rw[←this];exact li (fun r hr=>jq hr) v1
section
variable{α:Type}{K:α→α→Int}
def v8(K:α→α→Int):Nat→List α→List α→List α
 |0,_,_=>[]
 |_+1,[],b=>b
 |_+1,x::a,[]=>x::a
 |n+1,x::a,y::b=>if K x y<0 then x::v8 K n a (y::b) else if K y x<0 then y::v8 K n (x::a) b else v8 K n a b
def lG(K:α→α→Int)(a b:List α):List α:=v8 K (a.length+b.length+1) a b
theorem mV:∀(n m:Nat)(a b:List α),a.length+b.length<n→a.length+b.length<m→v8 K n a b=v8 K m a b
 |0,_,_,_,h,_=>absurd h (by omega)
 |_+1,0,_,_,_,h=>absurd h (by omega)
 |_+1,_+1,[],b,_,_=>rfl
 |_+1,_+1,x::a,[],_,_=>rfl
 |n+1,m+1,x::a,y::b,h1,h2=>by
  simp only[bO] at h1 h2;simp only[v8];rw[mV n m a (y::b) (by simp only[bO];omega) (by simp only[bO];omega),mV n m (x::a) b (by simp only[bO];omega) (by simp only[bO];omega),mV n m a b (by omega) (by omega)]
theorem Eu{b:List α}:lG K [] b=b:=rfl
theorem EW{a:List α}:lG K a []=a:=by cases a<;>rfl
theorem Gj{x y:α}{a b:List α}:lG K (x::a) (y::b)=if K x y<0 then x::lG K a (y::b) else if K y x<0 then y::lG K (x::a) b else lG K a b:=by
 show v8 K (a.length+1+(b.length+1)+1) (x::a) (y::b)=_;simp only[v8];unfold lG;rw[mV (a.length+1+(b.length+1)) (a.length+(y::b).length+1) a (y::b) (by simp only[bO];omega) (by simp only[bO];omega),mV (a.length+1+(b.length+1)) ((x::a).length+b.length+1) (x::a) b (by simp only[bO];omega) (by simp only[bO];omega),mV (a.length+1+(b.length+1)) (a.length+b.length+1) a b (by omega) (by omega)]
theorem oo:∀(n:Nat)(a b:List α),a.length+b.length≤n→(lG K a b).length≤a.length+b.length
 |_,[],b,_=>by rw[Eu];simp
 |_,x::a,[],_=>by rw[EW];simp
 |0,x::a,y::b,h=>by simp only[bO] at h;omega
 |n+1,x::a,y::b,h=>by
  simp only[bO] at h ⊢;rw[Gj];have h1:=oo n a (y::b) (by simp only[bO];omega);have h2:=oo n (x::a) b (by simp only[bO];omega);have h3:=oo n a b (by omega);simp only[bO] at h1 h2;split
  ·simp only[bO];omega
  split
  ·simp only[bO];omega
  ·omega
theorem mj(hK:LinK K):∀(n:Nat)(a b:List α),a.length+b.length≤n→b8 K a→b8 K b→b8 K (lG K a b)∧∀z,z∈lG K a b↔(z∈a∧z∉b)∨(z∈b∧z∉a)
 |_,[],b,_,_,hb=>by rw[Eu];exact⟨hb,fun z=>by simp⟩
 |_,x::a,[],_,ha,_=>by rw[EW];exact⟨ha,fun z=>by simp⟩
 |0,x::a,y::b,h,_,_=>by simp only[bO] at h;omega
 |n+1,x::a,y::b,h,ha,hb=>by
  simp only[bO] at h;obtain⟨a1,a2⟩:=gU.1 ha;obtain⟨b1,b2⟩:=gU.1 hb;have irr:=fun v=>hK.ord.irr v;rw[Gj];by_cases g1:K x y<0
  ·rw[if_pos g1];obtain⟨h1,h2⟩:=mj hK n a (y::b) (by simp only[bO];omega) a2 hb
   have hxb:∀z∈y::b,K x z<0:=fun z hz=>by
    rcases cW.1 hz with rfl|hz
    ·exact g1
    ·exact hK.trans g1 (b1 z hz)
   refine⟨gU.2 ⟨fun z hz=>?_,h1⟩,fun z=>?_⟩
   ·rcases(h2 z).1 hz with⟨q,_⟩|⟨q,_⟩
    ·exact a1 z q
    ·exact hxb z q
   ·rw[cW,h2,cW (a:=z) (b:=x)];by_cases hz:z=x
    ·subst hz;have:z∉y::b:=fun q=>irr _ (hxb z q);simp[this]
    ·simp[hz]
  rw[if_neg g1];by_cases g2:K y x<0
  ·rw[if_pos g2];obtain⟨h1,h2⟩:=mj hK n (x::a) b (by simp only[bO];omega) ha b2
   have hya:∀z∈x::a,K y z<0:=fun z hz=>by
    rcases cW.1 hz with rfl|hz
    ·exact g2
    ·exact hK.trans g2 (a1 z hz)
   refine⟨gU.2 ⟨fun z hz=>?_,h1⟩,fun z=>?_⟩
   ·rcases(h2 z).1 hz with⟨q,_⟩|⟨q,_⟩
    ·exact hya z q
    ·exact b1 z q
   ·rw[cW,h2,cW (a:=z) (b:=y)];by_cases hz:z=y
    ·subst hz;have:z∉x::a:=fun q=>irr _ (hya z q);simp[this]
    ·simp[hz]
  rw[if_neg g2]
  obtain rfl:x=y:=by
   rcases hK.tri x y with q|q|q
   ·exact absurd q g1
   ·exact q
   ·exact absurd q g2
  obtain⟨h1,h2⟩:=mj hK n a b (by omega) a2 b2;refine⟨h1,fun z=>?_⟩;rw[h2];by_cases hz:z=x
  ·subst hz;have q1:z∉a:=fun q=>irr _ (a1 z q);have q2:z∉b:=fun q=>irr _ (b1 z q);simp[q1,q2]
  ·simp[hz]
theorem GY(hK:LinK K){a b:List α}(ha:b8 K a)(hb:b8 K b):b8 K (lG K a b):=(mj hK _ a b (aO _) ha hb).1
theorem GB(hK:LinK K){a b:List α}(ha:b8 K a)(hb:b8 K b){z:α}:z∈lG K a b↔(z∈a∧z∉b)∨(z∈b∧z∉a):=(mj hK _ a b (aO _) ha hb).2 z
theorem GI{a b:List α}:(lG K a b).length≤a.length+b.length:=oo _ a b (aO _)
end
def cA(s:Spx):List Spx:=if s.length<2 then [] else ca s (s.length-1)
def sV(a:List Spx)(o:List Spx):List Spx:=a.foldl (fun o s=>lG bl o (cA s)) o
def cR(a:List Spx):List Spx:=sV a []
theorem tK{s:Spx}(h:b8 cC s):b8 bl (cA s):=by
 unfold cA;split
 ·exact b8.nil
 ·exact mf h
theorem nN{s f:Spx}:f∈cA s↔2≤s.length∧f.Sublist s∧f.length=s.length-1:=by
 unfold cA;split
 ·exact⟨fun h=>(by cases h),fun h=>absurd h.1 (by omega)⟩
 ·rw[d7];exact⟨fun h=>⟨by omega,h⟩,fun h=>h.2⟩
def nW(a:List Spx)(f:Spx):Nat:=(a.map fun s=>(cA s).count f).sum
theorem u9{s:Spx}{a:List Spx}{f:Spx}:nW (s::a) f=(cA s).count f+nW a f:=by unfold nW;rw[fB,List.sum_cons]
theorem CG{L:List Spx}(h:b8 bl L)(f:Spx):L.count f%2=1↔f∈L:=by
 by_cases hf:f∈L
 ·have h1:=List.count_pos_iff.2 hf;have h2:=List.nodup_iff_count.1 (h.nodup my) f;exact⟨fun _=>hf,fun _=>by omega⟩
 ·rw[List.count_eq_zero_of_not_mem hf];exact⟨fun h=>absurd h (by decide),fun h=>absurd h hf⟩
theorem sy:∀(a o:List Spx)(c:Spx→Nat),(∀s∈a,b8 cC s)→b8 bl o→(∀f,f∈o↔c f%2=1)→b8 bl (sV a o)∧∀f,f∈sV a o↔(c f+nW a f)%2=1
 |[],o,c,_,ho,hc=>⟨ho,fun f=>by show f∈o↔_;rw[hc];rfl⟩
 |s::a,o,c,hs,ho,hc=>by
  have hf:=tK (hs s dq)
  obtain⟨h1,h2⟩:=sy a (lG bl o (cA s)) (fun f=>c f+(cA s).count f) (fun t ht=>hs t (ew _ ht)) (GY my ho hf) fun f=>by
   rw[GB my ho hf,hc,←CG hf f];omega
  refine⟨h1,fun f=>?_⟩;show f∈sV a (lG bl o (cA s))↔_;rw[h2,u9,pi]
theorem kE{a:List Spx}(hs:∀s∈a,b8 cC s):b8 bl (cR a)∧∀f,f∈cR a↔nW a f%2=1:=by
 obtain⟨h1,h2⟩:=sy a [] (fun _=>0) hs b8.nil fun f=>⟨fun h=>(by cases h),fun h=>absurd h (by decide)⟩
 exact⟨h1,fun f=>by rw[show cR a=sV a [] from rfl,h2,ce]⟩
theorem Dx{a:List Spx}(hs:∀s∈a,b8 cC s):b8 bl (cR a):=(kE hs).1
theorem AU{a:List Spx}(hs:∀s∈a,b8 cC s){f:Spx}(hf:f∈cR a):∃s∈a,f∈cA s:=by
 have h:=((kE hs).2 f).1 hf;have hp:0<nW a f:=by omega
 clear h hf hs
 induction a with
 |nil=>exact absurd hp (Nat.lt_irrefl 0)
 |cons s a ih=>
  rw[u9] at hp;by_cases h:0<(cA s).count f
  ·exact⟨s,dq,List.count_pos_iff.1 h⟩
  ·obtain⟨t,h1,h2⟩:=ih (by omega);exact⟨t,ew _ h1,h2⟩
theorem uH:∀(a o:List Spx),(∀s∈a,s.length≤8)→(sV a o).length≤o.length+a.length*70
 |[],o,_=>Nat.le_add_right _ _
 |s::a,o,h=>by
  have h1:=uH a (lG bl o (cA s)) fun t ht=>h t (ew _ ht);have h2:=GI (K:=bl) (a:=o) (b:=cA s)
  have h3:(cA s).length≤70:=by
   unfold cA;split
   ·exact bB _
   ·exact oz (h s dq)
  show(sV a (lG bl o (cA s))).length≤_;rw[bO];omega
theorem vT{a:List Spx}(h:∀s∈a,s.length≤8):(cR a).length≤a.length*70:=by
 have:=uH a [] h;rw[fA,ce] at this;exact this
def fc0:Spx→List Spx
 |[]=>[]
 |x::s=>s::(fc0 s).map (x:: ·)
theorem vQ:∀{s:Spx},ca s s.length=[s]
 |[]=>rfl
 |x::s=>by rw[bO,iU,vQ,kX (by omega)];rfl
theorem yU:∀{s:Spx},s≠[]→(ca s (s.length-1)).Perm (fc0 s)
 |[],h=>absurd rfl h
 |[x],_=>by show(ca [x] 0).Perm _;rw[nS];exact List.Perm.refl _
 |x::y::s,_=>by
  show(ca (x::y::s) (s.length+1)).Perm _;rw[iU,show s.length+1=(y::s).length from rfl,vQ];have ih:=yU (s:=y::s) (by simp);show((ca (y::s) s.length).map (x:: ·)++[y::s]).Perm ((y::s)::(fc0 (y::s)).map (x:: ·));exact List.perm_append_comm.trans ((ih.map (x:: ·)).cons _)
def Gv(a:List Spx)(k:Nat):Int:=if bV (a.getD k default)≠0 then bV (a.getD k default) else if (a.getD k default).length≠(a.getD 0 default).length then 15 else if 0<k∧0≤bl (a.getD (k-1) default) (a.getD k default) then 14 else 0
def jM(a:List Spx):Int:=if 4096<a.length then 5 else dK (Gv a) a.length
theorem n6{a:List Spx}(h:jM a=0):a.length≤4096∧(∀s∈a,bV s=0)∧b8 bl a∧∀s∈a,s.length=(a.getD 0 default).length:=by
 unfold jM at h;split at h
 ·exact absurd h (by decide)
 rename_i hl;have h0:=iX h
 have hk:∀k,k<a.length→bV (a.getD k default)=0∧(a.getD k default).length=(a.getD 0 default).length∧(0<k→bl (a.getD (k-1) default) (a.getD k default)<0):=fun k hk=>by
  have q:=h0 k hk;unfold Gv at q;split at q
  ·exact absurd q ‹_›
  split at q
  ·exact absurd q (by decide)
  split at q
  ·exact absurd q (by decide)
  ·rename_i q1 q2 q3;exact⟨uj q1,uj q2,fun h0=>by omega⟩
 have hm:∀s∈a,∃k,k<a.length∧a.getD k default=s:=fun s hs=>by
  obtain⟨k,h1,h2⟩:=jp hs;exact⟨k,h1,by simp[List.getD,h1,h2]⟩
 refine⟨by omega,fun s hs=>?_,?_,fun s hs=>?_⟩
 ·obtain⟨k,h1,rfl⟩:=hm s hs;exact(hk k h1).1
 ·have hchain:∀j i,i<j→j<a.length→bl (a.getD i default) (a.getD j default)<0:=fun j=>by
    induction j with
    |zero=>intro i hi;omega
    |succ j ih=>
     intro i hi hj;have q:=(hk (j+1) hj).2.2 (by omega);rw[ro] at q;rcases(by omega:i<j∨i=j) with h|rfl
     ·exact my.trans (ih i h (by omega)) q
     ·exact q
  unfold b8;rw[kJ];intro i j hi hj hij;have:=hchain j i hij hj
  rwa [show a.getD i default=a[i] by simp[List.getD,hi],show a.getD j default=a[j] by simp[List.getD,hj]] at this
 ·obtain⟨k,h1,rfl⟩:=hm s hs;exact(hk k h1).2.1
theorem ot{a:List Spx}(h:∀s∈a,bV s=0):∀s∈a,b8 cC s:=fun s hs=>(co (h s hs)).2.2.1
theorem Ad{a:List Spx}{k:Nat}:Gv a k=if bV (a.getD k default)≠0 then bV (a.getD k default) else if (a.getD k default).length≠(a.getD 0 default).length then 15 else if 0<k∧0≤bl (a.getD (k-1) default) (a.getD k default) then 14 else 0:=rfl
def fH(l:List (List Spx)):AV:=iK 1 am l
theorem jv(l:List (List Spx)):Dat (fH l):=DP (fun _=>rfl) bI
instance datI_encXsss{l:List (List Spx)}:DatI (fH l):=⟨jv l⟩
theorem ud{l:List (List Spx)}:dw (fH l)=some (.int .i64 l.length):=kT
theorem Nm{l:List (List Spx)}{k:Nat}(h:k<l.length):ey 1 (fH l) (.int .i64 (k:Int))=some (.iptr [am (l.getD k default)] 0):=by
 unfold fH;rw[mH,if_pos ⟨by omega,by omega⟩,cr];rfl
theorem ML{l:List Spx}(h:0<l.length):ey 1 (am l) (.int .i64 0)=some (.iptr [aA (l.getD 0 default)] 0):=ec h
abbrev ShC(a:List Spx):Prop:=Shn a∧∀s∈a,Shn s
attribute [local irreducible] aJ aj bf aX aP aQ aD aS a6 bk Go.Abs.Fn aV Go.Abs.Pure ar aK Yl
theorem tT(a:List Spx)(ha:ShC a):pU 75 [am a] (.int .i64 (jM a)):=by
 refine pO M8 ?_;simp only[b75,aG];have ha':a.length≤17592186044416:=ha.1;unfold jM;by_cases h0:4096<a.length
 ·rw[if_pos h0];refine wnZ (zI3 @ae @ai @af) ?_
  all_goals exact eh rfl
 rw[if_neg h0];refine wnZ (zI3 @ae @ai @af) ?_;refine lq (X:=Nat) (fun k=>[(0,am a),(9,am a),(10,.int .i64 a.length),(11,.int .i64 k)]) (fun k=>k≤a.length∧∀i,i<k→Gv a i=0) (fun k=>a.length-k) 0 ⟨bB _,fun i h=>absurd h (by omega)⟩ ag0 ?_;rintro k ⟨h1,h2⟩;by_cases hk:k<a.length
 rotate_left
 ·rw[dG fun i hi=>h2 i (by omega)];refine wnY and_self ?_;exact .int _ _
 have ix:=ec hk;have i0:=ML (l:=a) (by omega);have hs1:=ha.2 _ (az hk);have hp:=pk (a.getD k default) hs1;have hsp:=Ad (a:=a) (k:=k);by_cases he:bV (a.getD k default)≠0
 ·rw[if_pos he] at hsp;rw[di hk h2 (by rw[hsp];exact he),hsp];have z:decide (bV (a.getD k default)≠0)=true:=aR he;refine wnY (zI4 @ae @ao @ix @z) ?_;exact .int _ _
 rw[if_neg he] at hsp;have he:=uj he;rw[he] at hp;have z:decide ((0:Int)≠0)=false:=rfl;by_cases hl:(a.getD k default).length≠(a.getD 0 default).length
 ·rw[if_pos hl] at hsp;rw[di hk h2 (by rw[hsp];decide),hsp];have z1:decide (((a.getD k default).length:Int)≠(a.getD 0 default).length)=true:=aR (by omega);refine wnY (zI6 @ae @ao @ix @i0 @z @z1) ?_;exact .int _ _
 rw[if_neg hl] at hsp;have z1:decide (((a.getD k default).length:Int)≠(a.getD 0 default).length)=false:=aU (by omega);by_cases hk0:0<k
 rotate_left
 ·rw[if_neg (fun h=>hk0 h.1)] at hsp;have zk:decide (0<(k:Int))=false:=aU (by omega);refine wnY (zI7 @ae @ao @ix @i0 @z @z1 @zk) ?_
  exact ⟨k + 1,⟨by omega,fun i hi=>by
   rcases i9.1 hi with h'|rfl
   ·exact h2 i h'
   ·exact hsp⟩,by omega,ag0,rfl,rfl⟩
 have zk:decide (0<(k:Int))=true:=aR (by omega)
 have iy:ey 1 (am a) (.int .i64 ((k:Int)-1))=some (.iptr [aA (a.getD (k-1) default)] 0):=by
  have:=ec (l:=a) (k:=k-1) (by omega)
  rwa [show((k-1:Nat):Int)=(k:Int)-1 by omega] at this
 have hcm:=gy (a.getD (k-1) default) (a.getD k default) (ha.2 _ (az (by omega))) hs1;by_cases hv:0≤bl (a.getD (k-1) default) (a.getD k default)
 ·have z2:decide (0≤bl (a.getD (k-1) default) (a.getD k default))=true:=aR hv;rw[if_pos ⟨hk0,hv⟩] at hsp;rw[di hk h2 (by rw[hsp];decide),hsp];refine wnY (zI9 @ae @ao @ix @i0 @iy @z @z1 @zk @z2) ?_;exact .int _ _
 ·have z2:decide (0≤bl (a.getD (k-1) default) (a.getD k default))=false:=aU hv;rw[if_neg (fun h=>hv h.2)] at hsp;refine wnY (zI9 @ae @ao @ix @i0 @iy @z @z1 @zk @z2) ?_
  exact ⟨k + 1,⟨by omega,fun i hi=>by
   rcases i9.1 hi with h'|rfl
   ·exact h2 i h'
   ·exact hsp⟩,by omega,ag0,rfl,rfl⟩
def uh(a:List Spx):Bool:=((a.take 50).all fun s=>decide (s.length≤10))&&(decide (a.length≤40) || decide (4096<a.length))
theorem It(a:List Spx)(ha:ShC a):pU 40 [am a] (.bool (uh a)):=by
 refine pO Np ?_;simp only[b40,aG];have ha':a.length≤17592186044416:=ha.1;have hlt:(a.take 50).length=min 50 a.length:=f0;refine wnZ @ae ?_;refine lq (X:=Nat) (fun k=>[(0,am a),(3,.int .i64 k)]) (fun k=>k≤(a.take 50).length∧∀i,i<k→decide (((a.take 50).getD i default).length≤10)=true) (fun k=>(a.take 50).length-k) 0 ⟨bB _,fun i h=>absurd h (by omega)⟩ ag0 ?_;rintro k ⟨h1,h2⟩;by_cases hk:k<(a.take 50).length
 rotate_left
 ·have e:uh a=(decide (a.length≤40) || decide (4096<a.length)):=by
    unfold uh;rw[jW fun i hi=>h2 i (by omega),Bool.true_and]
  rw[e];by_cases h3:a.length≤40
  ·have y1:decide ((a.length:Int)≤40)=true:=aR (by omega);have y2:decide ((k:Int)<a.length)=false:=aU (by omega);rw[aR h3];refine wnY (zI3 @ae @y1 @y2) ?_;exact .bool _
  ·have y1:decide ((a.length:Int)≤40)=false:=aU (by omega);rw[aU h3,Bool.false_or];by_cases h4:k<a.length
   ·have y2:decide ((k:Int)<a.length)=true:=aR (by omega);have y3:decide ((k:Int)<50)=false:=aU (by omega);refine wnY (zI4 @ae @y1 @y2 @y3) ?_;exact b9 (decide_eq_decide.2 (by omega))
   ·have y2:decide ((k:Int)<a.length)=false:=aU (by omega);refine wnY (zI3 @ae @y1 @y2) ?_;exact b9 (decide_eq_decide.2 (by omega))
 have hk1:k<a.length:=by omega
 have ix:=ec hk1;have e:(a.take 50).getD k default=a.getD k default:=p9 (by omega);have y2:decide ((k:Int)<a.length)=true:=aR (by omega);have y3:decide ((k:Int)<50)=true:=aR (by omega);by_cases hs:(a.getD k default).length≤10
 ·have y4:decide ((10:Int)<(a.getD k default).length)=false:=aU (by omega);refine wnY (zI6 @ae @ao @ix @y2 @y3 @y4) ?_
  exact ⟨k + 1,⟨by omega,fun i hi=>by
   rcases i9.1 hi with h'|rfl
   ·exact h2 i h'
   ·rw[e];exact aR hs⟩,by omega,ag0,rfl,rfl⟩
 ·have y4:decide ((10:Int)<(a.getD k default).length)=true:=aR (by omega)
  have e2:uh a=false:=by
   unfold uh;rw[iS hk (by rw[e];exact aU hs),Bool.false_and]
  rw[e2];refine wnY (zI6 @ae @ao @ix @y2 @y3 @y4) ?_;exact .bool _
theorem vG(l:List Spx)(hl:l.length≤100000)(hs:∀x∈l,x.length≤1000000):pU 84 [am l] (am l):=by
 refine pO Nk ?_;simp only[b84,aG];refine wnZ @ae ?_;refine bT (X:=AV×Nat) (fun x=>[(3,x.1),(6,am l),(7,.int .i64 l.length),(8,.int .i64 x.2)]) (fun x H nx=>x.2≤l.length∧Row H 1 x.1 ((l.take x.2).map aA)∧∀b,bF x.1=some b→b<nx) (fun x=>l.length-x.2) (.esl,0) ⟨bB _,Row.nil,fun b hb=>(by cases hb)⟩ ag0 ?_;rintro⟨s,j⟩ H nx ⟨h1,h2,h3⟩;dsimp only at h1 h2 h3 ⊢;by_cases hj:j<l.length
 ·have hw:=az hj;have hcl:=Dp _ (hs _ hw);have ix:=ec hj;refine wnY @ix ?_;refine fI ev0 ev0 hcl (ah (dt _ _) ak) ?_;refine wnY (aI @a7 @aL) ?_;refine iW rfl ev0 (h2.same fun b hb=>?_) ev0 fv rfl rfl lC (by simp;omega) (by simp;omega) ?_
  ·have:=h3 b hb;rw[ac (by omega)]
  rintro s2 E e hrow hle1 hle2 hsame hb2;refine wnY and_self ?_;refine⟨(s2,j+1),by dsimp only;omega,⟨by dsimp only;omega,?_,fun b hb=>?_⟩,ag0⟩
  ·dsimp only;rw[A7 hj,cu];exact hrow
  ·rcases hb2 b hb with h|h
   ·have:=h3 b h;omega
   ·omega
 ·refine wnY and_self ?_;rw[fM (by omega)] at h2;exact gL h2
theorem Dj(l:List Spx)(hl:Shn l)(hs:∀x∈l,x.length≤1000000):pU 76 [am l] (.tup [am (if 4096<l.length then [] else l),.int .i64 (if 4096<l.length then 5 else 0)]):=by
 refine pO Nv ?_;simp only[b76,aG];have hl':l.length≤17592186044416:=hl;by_cases h:4096<l.length
 ·have z:decide ((4096:Int)<l.length)=true:=aR (by omega);rw[if_pos h,if_pos h];refine wnY (aI @ae @z) ?_;exact dR (.eslsl _) rfl
 ·have z:decide ((4096:Int)<l.length)=false:=aU (by omega);rw[if_neg h,if_neg h];have hc:=vG l (by omega) hs;refine wnY (aI @ae @z) ?_;exact dR (bI _).snap rfl
theorem oA{a:List Spx}(h:∀s∈a,bV s=0):∀s∈a,Shn s:=fun s hs=>by have:=(co (h s hs)).2.1;show _≤_;omega
theorem zq{a:List Spx}(h:∀s∈a,bV s=0):∀s∈a,s.length≤1000000:=fun s hs=>by have:=(co (h s hs)).2.1;omega
end Go.Proofs.YtekdaafnjdlenaaGreat
namespace Go.Proofs.YtekdaafnjdlenaaGreat
open Go Go.Abs
section
variable{α:Type}[DecidableEq α]{K:α→α→Int}
theorem Hu(hK:LinK K){a b:List α}(ha:b8 K a)(hb:b8 K b)(h:∀x∈a,x∈b):a.Sublist b:=by
 have:a=b.filter fun x=>decide (x∈a):=by
  refine nc hK ha (List.Pairwise.sublist EG hb) fun x=>?_;rw[gY,f8];exact⟨fun h'=>⟨h x h',h'⟩,And.right⟩
 rw[this];exact EG
end
section
variable{g:Vtx→Vtx}
end
def fcs(s:Spx):List Spx:=if s.length<2 then [] else fc0 s
theorem sn{s:Spx}:(fcs s).Perm (cA s):=by
 unfold fcs cA;split
 ·exact List.Perm.refl _
 ·rename_i h;exact(yU fun e=>by rw[e] at h;simp at h).symm
theorem Cb{s f:Spx}:f∈fcs s↔f∈cA s:=sn.mem_iff
theorem wE:∀{s:Spx},(fc0 s).length=s.length
 |[]=>rfl
 |x::s=>by show((fc0 s).map (x:: ·)).length+1=_;rw[bt,wE];rfl
theorem BD:∀{s:Spx}{i:Nat},i<s.length→(fc0 s).getD i default=s.take i++s.drop (i+1)
 |[],_,h=>absurd h (by simp)
 |x::s,0,_=>by simp[fc0]
 |x::s,i+1,h=>by
  have hi:i<s.length:=by simpa using h
  have:=BD hi;show((s::(fc0 s).map (x:: ·)).getD (i+1) default)=_;have hl:i<(fc0 s).length:=by rw[wE];exact hi
  simp only[List.getD,AG,lB,rz hl,lF,uc,List.take_succ_cons,List.drop_succ_cons,List.cons_append] at this ⊢;rw[this]
theorem xo{s:Spx}(h:b8 cC s):(cA s).Nodup:=(tK h).nodup my
theorem DC{s:Spx}(h:b8 cC s):(fcs s).Nodup:=sn.nodup_iff.2 (xo h)
def hJ(X Y:List Spx)(n i:Nat):List Nat:=(List.range n).filter fun k=>decide (Y.getD i default∈cA (X.getD k default))
theorem vn{X Y:List Spx}{n i:Nat}:hJ X Y (n+1) i=hJ X Y n i++if Y.getD i default∈cA (X.getD n default) then [n] else []:=by
 unfold hJ;rw[List.range_succ,wg]
 congr 1
 by_cases h:Y.getD i default∈cA (X.getD n default)
 ·rw[if_pos h,A4 (by simpa using h)];rfl
 ·rw[if_neg h,AY (by simpa using h)];rfl
theorem r9{X Y:List Spx}{n i:Nat}:(hJ X Y n i).length≤n:=by
 unfold hJ;exact eZ (List.length_filter_le _ _) (by simp)
def dN(X Y:List Spx):List (List Int):=(List.range Y.length).map fun i=>dQ (hJ X Y X.length i)
end Go.Proofs.YtekdaafnjdlenaaGreat
namespace Go.Proofs.YtekdaafnjdlenaaGreat
open Go Go.Abs
open Nat (reduceEqDiff reduceAdd reduceLeDiff)
section
variable{P:Program}{T:Tm}{H:Hp}{nx:Nat}
theorem JJ{dm:DM}{K:SP}{l:List Op2}{d:Option Nat}{sz bytes:Nat}{z:List AV}{s x:Opd}{k:IntKind}{n:Int}(hd:dm2 dm T (.apz sz bytes z s x)=true)(hs:ov T s=.esl)(hx:ov T x=.int k n)(h0:0<n)(h1:n≤9223372036854775807)(h2:n.toNat*bytes≤140737488355328)
    (kk:aj P dm l (aM T d (.msl nx (n.toNat*sz) sz 0 n.toNat)) (aq H nx (bn (.agg z) n.toNat)) (nx+1) K):aj P dm (⟨d,none,.apz sz bytes z s x⟩::l) T H nx K:=by
 refine nF rfl hd ?_ kk;simp only[jr,hs,hx];rw[if_pos ⟨h0,h1,h2⟩]
end
theorem G4(T:Tm)(H:Hp)(x:Opd):bC T H (.capE x)=match ov T x with|.esl=>some (.int .i64 0)|_=>none:=rfl
theorem GH(n:Nat):(bn (.agg [.int .i64 0,.int .i64 0]) n).length=n*2:=by simp[bn,AV.cells]
attribute [local irreducible] aJ aj bf aX aP aQ aD aS a6 bk Go.Abs.Fn aV Go.Abs.Pure ar aK Yl
theorem Gm(n:Nat)(h0:0<n)(h1:n≤1000000)(H:Hp)(nx:Nat):Abs.Fn Tryz.prog 161 [.esl,.int .i64 n] H nx fun r H' nx'=>r=.msl nx (n*2) 2 0 0∧H'=aq H nx (bn (.agg [.int .i64 0,.int .i64 0]) n)∧nx'=nx+1:=by
 refine fO LQ ?_;simp only[L6,aG];have z1:decide ((n:Int)<0)=false:=aU (by omega);have z2:decide ((0:Int)<n)=true:=aR (by omega);have s2:jH 2 .esl none (some (.int .i64 0)) none=some .esl:=rfl;have s3:=Aq (B:=nx) (n:=n*2) (len:=n) (k:=0) (by omega) (by omega);rw[show((0:Nat):Int)=0 from rfl] at s3;refine wnY (zI6 @z1 @z2 @s2 @Int.sub_zero @Int.sub_self @G4) ?_;refine JJ rfl (have zz:=@s2;evY) ev0 (by omega) (by omega) (by omega) ?_;refine wnY @s3 ?_;exact⟨rfl,rfl,rfl⟩
theorem wM{c:List Spx}{k:Nat}(hk:k<c.length):(c.take (k+1)).flatten=(c.take k).flatten++c.getD k default:=by
 rw[b5 hk,List.flatten_append];simp
end Go.Proofs.YtekdaafnjdlenaaGreat
namespace Go.Proofs.YtekdaafnjdlenaaGreat
open Go Go.Abs
open Nat (reduceEqDiff reduceAdd reduceLeDiff)
theorem Jb{P:Program}{T:Tm}{H:Hp}{nx:Nat}{dm:DM}{K:SP}{l:List Op2}{d:Option Nat}{sz bytes b N len n:Nat}{s x:Opd}{v:AV}{new C:List AV}(hd:dm2 dm T (.app sz bytes s x)=true)(hs:ov T s=.msl b N sz 0 len)(hb:H b=some C)(hN:C.length=N)(hx:ov T x=v)(hsrc:er sz H v=some (n,new))(ho:AV.ones new=true)(hnl:new.length=n*sz)(hz:0<sz)(h0:0<N)(hle:(len+n)*sz≤N)(h1:(len+n)*bytes≤140737488355328)(h2:len+n≤9223372036854775807)
    (next:∀C':List AV,C'.length=N→C'.take ((len+n)*sz)=C.take (len*sz)++new→aj P dm l (aM T d (.msl b N sz 0 (len+n))) (aq H b C') nx K):
    aj P dm (⟨d,none,.app sz bytes s x⟩::l) T H nx K:=by
 by_cases e:N=len*sz
 ·have hn:n=0:=by
    rcases Bc n with h|h
    ·exact h
    ·have:len*sz+1*1≤len*sz+n*sz:=Nat.add_le_add_left (Nat.mul_le_mul h hz) _;rw[fy] at hle;omega
  subst hn;obtain rfl:new=[]:=List.eq_nil_of_length_eq_zero (by rw[hnl,xC]);refine zE hd hs hb hx hsrc ho hN e h1 h2 ?_;rw[ph] at next ⊢;rw[←e];exact next _ (by rw[fP];exact hN) (by rw[fP,fP])
 ·refine AJ hd hs hb hx hsrc ho hN (fun _=>e) h0 (by rw[ce];exact hle) ?_;have hlen:len*sz+new.length≤N:=by rw[hnl,←fy];exact hle
  refine next _ ?_ ?_
  ·rw[gR (by rw[hN];omega)];exact hN
  ·simp only[bG,ce];rw[Hc (by rw[cS,f0,hN,hnl,fy];omega),fM (by rw[cS,f0,hN,hnl,fy];omega)]
attribute [local irreducible] aJ aj bf aX aP aQ aD aS a6 bk Go.Abs.Fn aV Go.Abs.Pure ar aK Yl
theorem DA(c:List Spx)(hpos:0<c.flatten.length)(hl:c.flatten.length≤1000000)(hc:c.length≤1000000)(H:Hp)(nx:Nat):
    Abs.Fn Tryz.prog 141 [am c] H nx fun r H' nx'=>r=.msl nx (c.flatten.length*2) 2 0 c.flatten.length∧H'=aq H nx (cX c.flatten)∧nx'=nx+1:=by
 refine fO Lp ?_;simp only[MH,aG]
 have hle:∀k,(c.take k).flatten.length≤c.flatten.length:=fun k=>by
  have:c.flatten=(c.take k).flatten++(c.drop k).flatten:=by rw[←List.flatten_append,F3]
  rw[this,cS];omega
 refine dD ?_
 repeat' (first|apply a_n|refine zO ?_|refine vY ?_|fail)
 refine dD ?_
 repeat' (first|apply a_n|refine zO ?_|refine vY ?_|fail)
 refine cl (fun T H' nx'=>T 0=am c∧T 3=.int .i64 (c.flatten.length:Nat)∧H=H'∧nx=nx') ?_ ?_
 ·refine wnY @ae ?_;refine lq (X:=Nat) (fun k=>[(0,am c),(3,.int .i64 ((c.take k).flatten.length:Nat)),(9,am c),(10,.int .i64 c.length),(11,.int .i64 (k:Nat))]) (fun k=>k≤c.length) (fun k=>c.length-k) 0 (by omega) (by simp (disch:=omega) only[agr,ZG,reduceEqDiff,↓reduceIte,List.take_zero,List.flatten_nil,fA]<;>simp) ?_;intro k hk;by_cases hk2:k<c.length
  rotate_left
  ·rw[fM (by omega)];refine wnY and_self ?_;exact⟨rfl,rfl,rfl,rfl⟩
  have ix:=ec hk2;have hle2:=hle (k+1);have e:(((c.take (k+1)).flatten.length:Nat):Int)=((c.take k).flatten.length:Nat)+((c.getD k default).length:Nat):=by rw[wM hk2,cS];omega
  rw[wM hk2,cS] at hle2;have z:decide ((((c.take k).flatten.length:Nat):Int)+((c.getD k default).length:Nat)<0)=false:=aU (by omega);generalize c.getD k default=s at *;refine wnY (zI3 @ix @ao @z) ?_;exact⟨k+1,by omega,by omega,(have zz:=@e;agZ),rfl,rfl⟩
 rintro T _ _ ⟨t0,t3,rfl,rfl⟩;refine wnY @t3 ?_;refine be ev0 (have zz:=@t3;evY) (Gm c.flatten.length (by omega) (by omega) H nx) ?_;rintro _ _ _ ⟨rfl,rfl,rfl⟩;refine wnY (aI @t0 @ae) ?_;refine bT (X:=Nat) (fun k=>[(6,.msl nx (c.flatten.length*2) 2 0 (c.take k).flatten.length),(25,am c),(26,.int .i64 c.length),(27,.int .i64 (k:Nat))]) (fun k H' nx'=>k≤c.length∧(∃C,H'=aq H nx C∧C.length=c.flatten.length*2∧C.take ((c.take k).flatten.length*2)=cX (c.take k).flatten)∧nx'=nx+1) (fun k=>c.length-k) 0 ⟨by omega,⟨_,rfl,GH _,rfl⟩,rfl⟩ (by simp (disch:=omega) only[agr,ZG,reduceEqDiff,↓reduceIte,List.take_zero,List.flatten_nil,fA]) ?_;rintro k _ _ ⟨hk,⟨C,rfl,h1,h2⟩,rfl⟩;by_cases hk2:k<c.length
 rotate_left
 ·have ek:c.take k=c:=fM (by omega);rw[ek] at h2 ⊢;rw[fM (by omega)] at h2;subst h2;refine wnY and_self ?_;exact⟨rfl,rfl,rfl⟩
 have ix:=ec hk2;have hle2:=hle (k+1);have e:=wM hk2;rw[e,cS] at hle2;have hcl:=gA (c.getD k default);have hcp:=gA (c.take k).flatten;generalize c.getD k default=s at *;refine wnY @ix ?_;refine Jb (b:=nx) (N:=c.flatten.length*2) (len:=(c.take k).flatten.length) (n:=s.length) (C:=C) rfl ev0 ag h1 ev0 uY (kB _) (by rw[hcl]) (by omega) (by omega) (by omega) (by omega) (by omega) fun C2 c1 c2=>?_;refine wnY and_self ?_;refine⟨k+1,by omega,⟨by omega,⟨_,ba _ _ _ _,c1,?_⟩,rfl⟩,by simp (disch:=omega) only[agr,ZG,reduceEqDiff,↓reduceIte,e,cS]⟩;rw[e,mI,cS,←h2];exact c2
theorem NH{P:Program}{T:Tm}{H S:Hp}{nx n:Nat}{K:SP}{l:List (Op2×Nat)}{d:Option Nat}{i:Ins}{t:Nat}{w:Bool}(h:T t=.bool w)(k:bc P S ((⟨d,none,i⟩,n)::l) T H nx K):bc P S ((⟨d,some (t,w),i⟩,n)::l) T H nx K:=by
 have e:g2 T (some (t,w))=some true:=by simp[g2,h]
 cases n with
 |zero=>show aS (g2 T (some (t,w))) _ _;rw[e];exact k
 |succ n=>show aS (g2 T (some (t,w))) _ _;rw[e];exact k
theorem CK(x y:Spx)(h:0<(x++y).length)(hl:(x++y).length≤1000000):PureF Tryz.prog 141 [am [x,y]] (aA (x++y)):=by
 refine PureF.of_fn ?_;have e:[x,y].flatten=x++y:=by simp
 have hc:=DA [x,y] (by rw[e];exact h) (by rw[e];exact hl) (by simp) bP 0;rw[e] at hc;refine Abs.Fn.mono hc ?_;rintro _ _ _ ⟨rfl,rfl,rfl⟩;exact rB (Row.box _ (x++y).length (cX (x++y)) ag (gA _))
theorem ve(s:Spx)(H:Hp)(nx:Nat):Abs.Fn Tryz.prog 129 [aA s] H nx fun r H' nx'=>r=.func 154 [.ptr nx 1 0]∧H'=aq H nx [aA s]∧nx'=nx+1:=by
 refine fO J2 ?_;simp only[LK,aG];refine wnY (aI @a7 @aL) ?_;exact⟨rfl,rfl,rfl⟩
theorem DW{H:Hp}{b:Nat}{x y:Spx}(h:H b=some [aA x,aA y]):aK H [.msl b 2 1 0 2] [am [x,y]]:=
 ah (uN (l:=[aA x,aA y]) h rfl rfl (by
  intro z hz;simp only[cW,List.not_mem_nil,or_false] at hz;rcases hz with rfl|rfl
  ·exact⟨rfl,dt _⟩
  ·exact⟨rfl,dt _⟩)) ak
theorem v6{s:Spx}(h:2≤s.length):(fcs s).length=s.length:=by
 unfold fcs;rw[if_neg (by omega),wE]
theorem Bt{s:Spx}{i:Nat}(h:2≤s.length)(hi:i<s.length):(fcs s).getD i default=s.take i++s.drop (i+1):=by
 unfold fcs;rw[if_neg (by omega),BD hi]
theorem uP{y sb:Nat}{s:Spx}{H:Hp}{nx:Nat}(hs:s.length≤1000)(I:List Spx→Hp→Nat→Prop)
    (hp:∀D H nx,I D H nx→H sb=some [aA s])
    (stab:∀D H H' nx1 nx',I D H nx1→nx1≤nx'→(∀i,i<nx1→H' i=H i)→I D H' nx')
    (rnd:∀D f H nx1,I D H nx1→D.length<(fcs s).length→f=(fcs s).getD D.length default→D=(fcs s).take D.length→Yl Tryz.prog y [aA f] H nx1 fun r H' nx'=>r=.bool true∧I (D++[f]) H' nx')
    (h0:I [] H nx):
    Abs.Fn Tryz.prog 154 [.yld y,.ptr sb 1 0] H nx fun _ H' nx'=>I (fcs s) H' nx':=by
 refine fO Kd ?_;simp only[Km,aG];have g1:=hp _ _ _ h0;refine wnY (zI4 @g1 @a7 @aL @ao) ?_;by_cases h2:2≤s.length
 rotate_left
 ·have e:fcs s=[]:=by unfold fcs;rw[if_pos (by omega)]
  rw[e];refine bT (X:=Nat) (fun k=>[(0,.yld y),(1,.ptr sb 1 0),(5,.int .i64 s.length),(6,.int .i64 k)]) (fun k H' nx'=>k≤s.length∧I [] H' nx') (fun k=>s.length-k) 0 ⟨bB _,h0⟩ ag0 ?_;rintro k H1 nx1 ⟨h1,hI⟩;have q1:=hp _ _ _ hI;by_cases hk:k<s.length
  rotate_left
  ·refine wnY and_self ?_;exact hI
  have z:decide ((1:Int)<s.length)=false:=aU (by omega);refine wkY (zI5 @q1 @a7 @aL @ao @z) ?_;exact⟨k+1,by omega,⟨by omega,hI⟩,ag0⟩
 have z:decide ((1:Int)<s.length)=true:=aR (by omega);have hfl:=v6 h2;have hfg:=fun{i:Nat}(hi:i<s.length)=>Bt (i:=i) h2 hi;refine bT (X:=Nat) (fun k=>[(0,.yld y),(1,.ptr sb 1 0),(5,.int .i64 s.length),(6,.int .i64 k)]) (fun k H' nx'=>k≤s.length∧I ((fcs s).take k) H' nx') (fun k=>s.length-k) 0 ⟨bB _,h0⟩ ag0 ?_;rintro k H1 nx1 ⟨h1,hI⟩;have q1:=hp _ _ _ hI;by_cases hk:k<s.length
 rotate_left
 ·rw[fM (by omega)] at hI;refine wnY and_self ?_;exact hI
 have a1:jH 2 (aA s) none (some (.int .i64 (k:Int))) none=some (aA (s.take k)):=wU (by omega);have a2:jH 2 (aA s) (some (.int .i64 ((k:Int)+1))) none none=some (aA (s.drop (k+1))):=sO (k:=k+1) (by omega);have hc:=CK (s.take k) (s.drop (k+1)) (by rw[cS,f0,wA];omega) (by rw[cS,f0,wA];omega);have hr:=rnd ((fcs s).take k) ((fcs s).getD k default) (aq H1 nx1 [aA (s.take k),aA (s.drop (k+1))]) (nx1+1) (stab _ _ _ _ _ hI (by omega) fun i hi=>ac (by omega)) (by rw[f0];omega) (by rw[f0,Nat.min_eq_left (by omega)]) (by rw[f0,Nat.min_eq_left (by omega)]);rw[←b5 (by omega),hfg hk] at hr;refine wnY (zI7 @q1 @a7 @aL @ao @z @a1 @a2) ?_;refine w_mix1 sb q1 fun S0 hS1 hsub=>?_;simp only[fB,List.map_nil,List.getD_cons_succ,List.getD_cons_zero];have zz:=aI @hS1 (aI @a7 (aI @aL (aI @ao (aI @z (aI @a1 @a2)))));repeat' (first|apply a_n|refine zO ?_|refine nvY ?_|apply iV|refine blY ?_|fail)
 repeat (refine NH ev0 ?_;skip)
 refine fI ev0 ev0 hc (DW (by rw[ag])) ?_
 repeat' (first|apply a_n|refine zO ?_|apply iV|fail)
 refine w7 ev0 ev0 (Yl.mono hr ?_);rintro v H3 nx3 ⟨rfl,e1⟩;refine wnY and_self ?_;exact⟨k+1,by omega,⟨by omega,e1⟩,ag0⟩
end Go.Proofs.YtekdaafnjdlenaaGreat
namespace Go.Proofs.YtekdaafnjdlenaaGreat
open Go Go.Abs
open Nat (reduceEqDiff reduceAdd reduceLeDiff)
def gJ:Nat→Spx→List Int
 |0,_=>[]
 |n+1,[]=>0::0::gJ n []
 |n+1,v::l=>v.color::v.label::gJ n l
theorem pq:∀{n:Nat}{s:Spx},(gJ n s).length=2*n
 |0,_=>rfl
 |n+1,[]=>by show(gJ n []).length+1+1=_;rw[pq];omega
 |n+1,v::l=>by show(gJ n l).length+1+1=_;rw[pq];omega
theorem zX:∀{n:Nat}{s t:Spx},s.length=t.length→t.length≤n→gJ n s=gJ n t→s=t
 |_,[],[],_,_,_=>rfl
 |_,[],w::m,h,_,_=>absurd h (by simp)
 |_,v::l,[],h,_,_=>absurd h (by simp)
 |0,v::l,w::m,_,h,_=>absurd h (by simp)
 |n+1,v::l,w::m,hl,hm,e=>by
  obtain⟨e1,e2⟩:=List.cons.inj e;obtain⟨e2,e3⟩:=List.cons.inj e2;have:=zX (n:=n) (by simpa using hl) (by simpa using hm) e3;rw[this,od.2 ⟨e1,e2⟩]
abbrev z16:List AV:=[.int .i64 0,.int .i64 0,.int .i64 0,.int .i64 0,.int .i64 0,.int .i64 0,.int .i64 0,.int .i64 0,.int .i64 0,.int .i64 0,.int .i64 0,.int .i64 0,.int .i64 0,.int .i64 0,.int .i64 0,.int .i64 0]
theorem IU:z16=(gJ 8 []).map (AV.int .i64):=rfl
theorem x7:∀{n:Nat}{s:Spx},s.length≤n→cX s++((gJ n []).map (AV.int .i64)).drop (s.length*2)=(gJ n s).map (AV.int .i64)
 |n,[],_=>by simp[cX]
 |0,_::_,h=>absurd h (by simp)
 |n+1,v::l,h=>by
  have:=x7 (n:=n) (s:=l) (by simp at h;omega);show [AV.int .i64 v.color,AV.int .i64 v.label]++cX l++_=AV.int .i64 v.color::AV.int .i64 v.label::(gJ n l).map (AV.int .i64);rw[←this,bO,show(l.length+1)*2=l.length*2+1+1 by omega];rfl
def kZ(s:Spx):K16:=⟨gJ 8 s,by rw[pq]⟩
theorem D8{s t:Spx}(h:s.length=t.length)(h8:t.length≤8)(e:kZ s=kZ t):s=t:=zX h h8 (congrArg Subtype.val e)
theorem FM{O:List Spx}{f:Spx}{n:Nat}(hn:n≤8)(hO:∀s∈O,s.length=n)(hf:f.length=n):kZ f∈O.map kZ↔f∈O:=by
 rw[bK];exact⟨fun⟨s,h1,h2⟩=>by rw[←D8 (by rw[hO s h1,hf]) (by omega) h2];exact h1,fun h=>⟨f,h,rfl⟩⟩
theorem EH{f:Spx}{n:Nat}(hn:n≤8)(hf:f.length=n):∀{O:List Spx},(∀s∈O,s.length=n)→(O.map kZ).idxOf (kZ f)=O.idxOf f
 |[],_=>rfl
 |g::O,hO=>by
  have ih:=EH hn hf (O:=O) fun s hs=>hO s (ew _ hs);have hg:=hO g dq;rw[fB,List.idxOf_cons,List.idxOf_cons,ih]
  have e:(kZ g==kZ f)=(g==f):=by
   rw[Bool.eq_iff_iff,beq_iff_eq,beq_iff_eq];exact⟨fun h=>D8 (by rw[hg,hf]) (by omega) h,fun h=>by rw[h]⟩
  rw[e]
structure BOk(H:Hp)(n:Nat)(c:Spx→Nat)(O:List Spx)(bs:List Nat)(ck:Nat):Prop where
 box:H 0=some [.bmap ((O.map kZ).map eK) (O.map aA) bs ck]
 len:bs.length=O.length
 asc:bs.Pairwise (· < ·)
 below:∀s∈bs,s<ck
 nd:O.Nodup
 all:∀f∈O,f.length=n
 odd:∀f,f∈O↔c f%2=1
theorem BOk.same{H H':Hp}{n:Nat}{c c':Spx→Nat}{O:List Spx}{bs:List Nat}{ck:Nat}(h:BOk H n c O bs ck)(hs:H' 0=H 0)(hc:∀f,c' f%2=c f%2):BOk H' n c' O bs ck:=
 ⟨hs.trans h.box,h.len,h.asc,h.below,h.nd,h.all,fun f=>by rw[hc];exact h.odd f⟩
theorem BOk.put{H H':Hp}{n:Nat}{c c':Spx→Nat}{O:List Spx}{bs:List Nat}{ck:Nat}{f:Spx}(h:BOk H n c O bs ck)(hf:f∉O)(hl:f.length=n)(hH:H' 0=some [.bmap ((O.map kZ).map eK++[eK (kZ f)]) (O.map aA++[aA f]) (bs++[ck]) (ck+1)])(hc:∀g,c' g=c g+if g=f then 1 else 0):BOk H' n c' (O++[f]) (bs++[ck]) (ck+1):=by
 refine⟨by rw[hH];simp,by rw[cS,cS,h.len];rfl,?_,fun s hs=>?_,?_,fun g hg=>?_,fun g=>?_⟩
 ·exact List.pairwise_append.2 ⟨h.asc,List.pairwise_singleton _ _,fun a ha b hb=>by rw[de.1 hb];exact h.below a ha⟩
 ·rcases eD.1 hs with q|q
  ·have:=h.below s q;omega
  ·rw[de.1 q];omega
 ·exact yu.2 ⟨h.nd,by simp,fun a ha b hb e=>by rw[e,de.1 hb] at ha;exact hf ha⟩
 ·rcases eD.1 hg with q|q
  ·exact h.all g q
  ·rw[de.1 q];exact hl
 ·rw[eD,de,h.odd,hc];by_cases e:g=f
  ·subst e;have:¬c g%2=1:=fun q=>hf ((h.odd g).2 q);rw[if_pos rfl];exact⟨fun _=>by omega,fun _=>.inr rfl⟩
  ·rw[if_neg e];simp[e]
theorem gM{α β:Type}{f:α→β}:∀{l:List α}{i:Nat},(l.map f).eraseIdx i=(l.eraseIdx i).map f
 |[],_=>rfl
 |a::l,0=>rfl
 |a::l,i+1=>by show f a::(l.map f).eraseIdx i=f a::(l.eraseIdx i).map f;rw[gM]
theorem BOk.del{H H':Hp}{n:Nat}{c c':Spx→Nat}{O:List Spx}{bs:List Nat}{ck i:Nat}{f:Spx}(h:BOk H n c O bs ck)(hf:f∈O)(hi:O.idxOf f=i)(hH:H' 0=some [.bmap (((O.map kZ).map eK).eraseIdx i) ((O.map aA).eraseIdx i) (bs.eraseIdx i) ck])(hc:∀g,c' g=c g+if g=f then 1 else 0):BOk H' n c' (O.erase f) (bs.eraseIdx i) ck:=by
 have hil:i<O.length:=by rw[←hi];exact pC.2 hf
 have he:O.erase f=O.eraseIdx i:=List.erase_eq_eraseIdx_of_idxOf hi;refine⟨?_,?_,h.asc.sublist (List.eraseIdx_sublist _ _),fun s hs=>h.below s ((List.eraseIdx_sublist _ _).subset hs),h.nd.erase _,fun g hg=>h.all g (List.mem_of_mem_erase hg),fun g=>?_⟩
 ·rw[hH,he];rw[gM,gM,gM]
 ·rw[he,List.length_eraseIdx_of_lt hil,List.length_eraseIdx_of_lt (by rw[h.len];exact hil),h.len]
 ·rw[h.nd.mem_erase_iff,h.odd,hc];by_cases e:g=f
  ·subst e;have:=(h.odd g).1 hf;rw[if_pos rfl];constructor
   ·exact fun q=>absurd rfl q.1
   ·intro q;omega
  ·rw[if_neg e];simp[e]
theorem me{α:Type}[DecidableEq α]{a b:List α}(h:a.Nodup)(hs:∀x∈a,x∈b):a.length≤b.length:=yM h hs
theorem Ds{l:List Spx}{s f:Spx}:nW (l++[s]) f=nW l f+(cA s).count f:=by unfold nW;simp
theorem AL{D:List Spx}{f g:Spx}{m:Nat}:m+(D++[f]).count g=m+D.count g+if g=f then 1 else 0:=by
 rw[List.count_append,List.count_singleton,pi]
 congr 2
 by_cases e:g=f
 ·subst e;simp
 ·rw[if_neg e,if_neg];simp only[beq_iff_eq];exact fun h=>e h.symm
theorem vj{O:List Spx}{i:Nat}(h:i<O.length):(O.map aA).getD i .undef=aA (O.getD i default):=by simp[List.getD,h]
attribute [local irreducible] aJ aj bf aX aP aQ aD aS a6 bk Go.Abs.Fn aV Go.Abs.Pure ar aK Yl
theorem FR{n:Nat}{c:Spx→Nat}{O:List Spx}{bs:List Nat}{ck:Nat}{f:Spx}{H:Hp}(hn:n≤8)(h:BOk H n c O bs ck)(hf:f.length=n):
    c9 (.st [.int,.int,.int,.int,.int,.int,.int,.int,.int,.int,.int,.int,.int,.int,.int,.int]) (eK (kZ f)) ((O.map kZ).map eK)=some (if f∈O then some (O.idxOf f) else none):=by
 rw[Gl,EH hn hf h.all];by_cases e:f∈O
 ·rw[if_pos e,if_pos ((FM hn h.all hf).2 e)]
 ·rw[if_neg e,if_neg fun q=>e ((FM hn h.all hf).1 q)]
set_option maxHeartbeats 1000000 in
theorem sa(a:List Spx)(n:Nat)(hn:n≤8)(ha:a.length≤4096)(hv:∀s∈a,b8 cC s)(hl:∀s∈a,s.length=n+1∨s.length<2)(h8:∀s∈a,s.length≤8):pU 77 [am a] (am (cR a)):=by
 refine pO NA ?_;simp only[b77,aG];refine dD ?_
 repeat' (first|apply a_n|refine zO ?_|refine vY ?_|fail)
 refine dD ?_;refine wnY and_self ?_;refine IB ?_;refine rF (cs:=[.nilm]) rfl rfl rfl ?_
 repeat' (first|apply a_n|refine zO ?_|refine stY ?_|fail)
 refine cl (fun T H nx=>T 3=.ptr 1 1 0∧2≤nx∧H 1=some [.mp 0]∧∃O bs ck,BOk H n (nW a) O bs ck) ?_ ?_
 ·refine wnY @ae ?_;refine lpI (X:=Nat) (fun k=>[(3,.ptr 1 1 0),(14,am a),(15,.int .i64 a.length),(16,.int .i64 k)]) (fun k H nx=>k≤a.length∧2≤nx∧H 1=some [.mp 0]∧∃O bs ck,BOk H n (nW (a.take k)) O bs ck) (fun k=>a.length-k) 0 ⟨bB _,aO _,by rw[ag];rfl,[],[],0,⟨by rw[ac (by omega),ac (by omega),ag];rfl,rfl,qq,fun s h=>(by cases h),List.nodup_nil,fun s h=>(by cases h),fun f=>⟨fun h=>(by cases h),fun h=>absurd h (by rw[List.take_zero];exact(by decide:¬(0:Nat)%2=1))⟩⟩⟩ ?_;rintro k H nx ⟨h1,h2,h3,O,bs,ck,h4⟩;by_cases hk:k<a.length
  rotate_left
  ·rw[fM (by omega)] at h4;refine wnY and_self ?_;exact⟨rfl,h2,h3,O,bs,ck,h4⟩
  have ix:=ec hk;have hts:=b5 hk;have hvs:=hv _ (az hk);have hls:=hl _ (az hk);have h8s:=h8 _ (az hk);generalize a.getD k default=s at *;refine wnY @ix ?_;refine be ev0 ev0 (ve s H nx) ?_;rintro _ H1 nx1 ⟨rfl,rfl,rfl⟩;refine wnY and_self ?_;refine mW (nx+1) (nx+2) rfl rfl ev0 (fun c0 cj hy=>?_);refine Abs.Fn.mono (uP (nx:=nx+2) (y:=nx+1) (sb:=nx) (s:=s) (by omega) (fun D H' nx'=>nx+2≤nx'∧H' nx=some [aA s]∧H' (nx+1)=some [c0]∧H' 1=some [.mp 0]∧∃O bs ck,BOk H' n (fun f=>nW (a.take k) f+D.count f) O bs ck) ?_ ?_ ?_ ?_) ?_
  ·rintro D H' nx' ⟨g1,g2,g3,g4⟩;exact g2
  ·rintro D H' H'' n1 n2 ⟨g1,g2,g3,g4,O,bs,ck,g5⟩ hle hsm;exact⟨by omega,(hsm _ (by omega)).trans g2,(hsm _ (by omega)).trans g3,(hsm _ (by omega)).trans g4,O,bs,ck,g5.same (hsm _ (by omega)) fun _=>rfl⟩
  ·rintro D f H' nx' ⟨g1,g2,g3,g4,O,bs,ck,g5⟩ hlt hfe hDe;refine hy _ _ _ _ g3 rfl ?_;clear hy
   have h2s:2≤s.length:=Nat.le_of_not_lt fun h=>by
    have:fcs s=[]:=by unfold fcs;rw[if_pos h]
    rw[this] at hlt;simp at hlt
   have hfl:f.length=n:=by
    rw[hfe,Bt h2s (by rw[v6 h2s] at hlt;exact hlt),cS,f0,wA];rw[v6 h2s] at hlt;omega
   clear hfe hDe;refine wnY and_self ?_;refine⟨g3,?_⟩;have hmf:=FR hn g5 hfl;have q0:=(cf (H:=H') (b:=nx+1) (x:=0) (by omega)).trans g5.box;have q1:=(cf (H:=H') (b:=nx+1) (x:=1) (by omega)).trans g4;have q2:=(cf (H:=H') (b:=nx+1) (x:=nx) (by omega)).trans g2;generalize dh H' (nx+1)=H2 at *;refine wnY and_self ?_;generalize hH3:aq H2 nx' z16=H3;have p0:H3 0=H2 0:=by rw[←hH3];exact ac (by omega)
   have p1:H3 1=H2 1:=by rw[←hH3];exact ac (by omega)
   have p2:H3 nx=H2 nx:=by rw[←hH3];exact ac (by omega)
   have p3:H3 nx'=some z16:=by rw[←hH3];exact ag
   clear hH3;refine Ij rfl p3 rfl rfl ?_;refine wnY and_self ?_;refine Ia (n:=f.length) (H':=aq H3 nx' ((gJ 8 f).map (AV.int .i64))) ?_ ?_
   ·((try simp only[bW,ZA,reduceEqDiff,↓reduceIte,reduceAdd,reduceLeDiff]);(try with_reducible rfl))
    have hnn:fx (aA f)=some f.length:=by unfold aA iK;simp[fx]
    have htr:uV f.length (aA f)=aA f:=by unfold aA iK;simp[uV];exact fM (by simp)
    have hmin:min f.length 8=f.length:=Nat.min_eq_left (by omega);have hal:fx (.msl nx' 16 2 0 8)=some 8:=rfl
    have hlp:bG z16 0 (cX f)=(gJ 8 f).map (AV.int .i64):=by
     rw[←x7 (n:=8) (s:=f) (by omega),IU];simp only[bG,List.take_zero,List.nil_append,ce,gA]
    by_cases hf0:f.length=0
    ·obtain rfl:=fq.1 hf0;have e0:(gJ 8 []).map (AV.int .i64)=z16:=rfl;rw[e0,←Cs p3];simp only[sG,hal,hnn,hmin];rfl
    ·simp only[sG,hal,hnn,hmin,if_neg hf0,p3,htr,uY];rw[if_pos (by refine⟨?_,?_,?_,?_⟩<;>first|rfl|trivial|omega|exact kB f),hlp]
   have hl16:((gJ 8 f).map (AV.int .i64)).length=16:=by rw[bt,pq]
   have ht:((gJ 8 f).map (AV.int .i64)).take 16=(gJ 8 f).map (AV.int .i64):=fM (by omega);have r0:=(ac (H:=H3) (b:=nx') (x:=0) (cs:=(gJ 8 f).map (AV.int .i64)) (by omega)).trans (p0.trans q0);have r1:=(ac (H:=H3) (b:=nx') (x:=1) (cs:=(gJ 8 f).map (AV.int .i64)) (by omega)).trans (p1.trans q1);have r2:=(ac (H:=H3) (b:=nx') (x:=nx) (cs:=(gJ 8 f).map (AV.int .i64)) (by omega)).trans (p2.trans q2);have r3:aq H3 nx' ((gJ 8 f).map (AV.int .i64)) nx'=some ((gJ 8 f).map (AV.int .i64)):=ag;generalize aq H3 nx' ((gJ 8 f).map (AV.int .i64))=H4 at *;have hek:eK (kZ f)=.agg ((gJ 8 f).map (AV.int .i64)):=rfl;have hkf:=B2 (kZ f);rw[hek] at hmf hkf;have hcnt:∀g,nW (a.take k) g+(D++[f]).count g=nW (a.take k) g+D.count g+if g=f then 1 else 0:=fun g=>AL
   by_cases hf:f∈O
   ·rw[if_pos hf] at hmf;have hil:O.idxOf f<O.length:=pC.2 hf
    have hgv:mget .esl true (some (O.idxOf f)) (O.map aA)=.tup [aA (O.getD (O.idxOf f) default),.bool true]:=by
     rw[←vj hil];rfl
    generalize hKK:(gJ 8 f).map (AV.int .i64)=KK at *;refine wnY (zI4 @r1 @r3 @hl16 @ht) ?_;refine BC ev0 r0 ev0 hkf hmf ?_;rw[hgv];refine wnY (zI4 @r1 @r3 @hl16 @ht) ?_;refine I7 ev0 r0 ev0 hkf hmf ?_;refine wnY and_self ?_;exact⟨rfl,by omega,by rw[ac (by omega),ac (by omega)];exact r2,ag,by rw[ac (by omega),ac (by omega)];exact r1,O.erase f,bs.eraseIdx (O.idxOf f),ck,g5.del hf rfl (by rw[ac (by omega),ag];rfl) hcnt⟩
   ·rw[if_neg hf] at hmf;have hgv:mget .esl true none (O.map aA)=.tup [.esl,.bool false]:=rfl;generalize hKK:(gJ 8 f).map (AV.int .i64)=KK at *;refine wnY (zI4 @r1 @r3 @hl16 @ht) ?_;refine BC ev0 r0 ev0 hkf hmf ?_;rw[hgv];refine wnY (zI4 @r1 @r3 @hl16 @ht) ?_;refine HM ev0 r0 ev0 ev0 hkf hmf ?_;refine wnY and_self ?_;exact⟨rfl,by omega,by rw[ac (by omega),ac (by omega)];exact r2,ag,by rw[ac (by omega),ac (by omega)];exact r1,O++[f],bs++[ck],ck+1,g5.put hf hfl (by rw[ac (by omega),ag,hek];rfl) hcnt⟩
  ·exact⟨aO _,by rw[ac (by omega),ag],ag,by rw[ac (by omega),ac (by omega)];exact h3,O,bs,ck,h4.same (by rw[ac (by omega),ac (by omega)]) fun f=>by simp⟩
  ·rintro r H' nx' ⟨g1,g2,g3,g4,O,bs,ck,g5⟩;refine .inl ⟨g3,?_⟩;refine wnY and_self ?_;exact⟨k+1,by omega,⟨by omega,by omega,by rw[cf (by omega)];exact g4,O,bs,ck,g5.same (cf (by omega)) fun f=>by rw[hts,Ds,sn.count_eq]⟩,ag0⟩
 rintro T H nx ⟨t3,h2,h3,O,bs,ck,h4⟩
 have hO70:O.length≤300000:=by
  have he:=kE hv;have h5:O.length≤(cR a).length:=me h4.nd fun f hf=>(he.2 f).2 ((h4.odd f).1 hf);have:=vT h8;omega
 refine wnY (aI @t3 @h3) ?_;refine Hh ev0 h4.box ?_;refine wnY and_self ?_;have hbn:bs.Nodup:=xK (fun{x y}(h:x<y) e=>by omega) h4.asc;refine lpI (X:=List Nat×List Spx×AV) (fun x=>[(10,x.2.2),(40,.itr nx)]) (fun x H' nx'=>H' nx=some [.biter 0 ck x.1]∧nx<nx'∧BOk H' n (nW a) O bs ck∧x.1.Nodup∧(∀s∈x.1,s∈bs)∧x.2.1=x.1.map (fun s=>O.getD (bs.idxOf s) default)∧Row H' 1 x.2.2 (x.2.1.map aA)∧∀b,bF x.2.2=some b→nx<b∧b<nx') (fun x=>bs.length-x.1.length) ([],[],.esl) ⟨ag,ut _,h4.same (ac (by omega)) fun _=>rfl,List.nodup_nil,fun s h=>(by cases h),rfl,Row.nil,fun b h=>(by cases h)⟩ ?_;rintro⟨seen,D,sv⟩ H1 nx1 ⟨hit,hnx,k4,hsn,hsb,hD,hrow,hbd⟩;dsimp only at hit hsn hsb hD hrow hbd ⊢;have hsl:seen.length≤bs.length:=me hsn hsb;have hDl:D.length=seen.length:=by rw[hD,bt]
 have hbl:=k4.len;refine wnY and_self ?_;refine G3 ev0 hit k4.box (fun i s hi hns=>?_) (fun hall=>?_)
 ·refine wnY and_self ?_;refine Gx (i:=i) (s:=s) ev0 ag (by rw[ac (by omega)];exact k4.box) (by simp) hi ?_;obtain⟨hil,his⟩:=bQ.1 hi;have hgx:=vj (O:=O) (i:=i) (by omega)
  have hidx:bs.idxOf s=i:=by
   have h5:=pC.2 (show s∈bs by rw[←his];exact nk hil);have h6:bs[bs.idxOf s]=bs[i]:=by rw[List.getElem_idxOf h5,his]
   exact(List.getElem_inj hbn).1 h6
  have hsnd:(seen++[s]).Nodup:=yu.2 ⟨hsn,by simp,fun x hx y hy e=>by rw[e,de.1 hy] at hx;exact hns hx⟩
  have hssb:∀x∈seen++[s],x∈bs:=fun x hx=>by
   rcases eD.1 hx with q|q
   ·exact hsb x q
   ·rw[de.1 q,←his];exact nk hil
  have hsl2:=me hsnd hssb;rw[cS,List.length_singleton] at hsl2;refine wnY (zI3 @hgx @a7 @aL) ?_;refine eR (hrow.same fun b hb=>?_) ?_
  ·have:=hbd b hb;rw[ac (by omega),ac (by omega)]
  rintro s2 H2 nx2 hr2 i1 i2 i3 i4;have lo:∀x,x≤nx→H2 x=aq H1 nx [.biter 0 ck (seen++[s])] x:=fun x hx=>(i3 x (by omega) (fun h=>by have:=hbd x h;omega)).trans (ac (by omega));refine wnY and_self ?_;refine⟨(seen++[s],D++[O.getD i default],s2),by dsimp only;rw[cS,List.length_singleton];omega,⟨(lo nx (aO _)).trans ag,by omega,k4.same ((lo 0 (by omega)).trans (ac (by omega))) fun _=>rfl,hsnd,hssb,?_,?_,fun b hb=>?_⟩,ag0⟩
  ·dsimp only;rw[hD,cu,List.map_singleton,hidx]
  ·dsimp only;rw[cu];exact hr2
  ·rcases i4 b hb with h|h
   ·have:=hbd b h;omega
   ·omega
 ·have hperm:seen.Perm bs:=(List.perm_ext_iff_of_nodup hsn hbn).2 fun x=>⟨hsb x,hall x⟩
  have hDO:D.Perm O:=by
   rw[hD];refine(hperm.map _).trans (List.Perm.of_eq ?_);refine List.ext_getElem (by rw[bt];exact hbl) fun j g1 g2=>?_;rw[bt] at g1
   have h5:bs.idxOf bs[j]=j:=by
    have h5:=pC.2 (nk g1);have h6:bs[bs.idxOf bs[j]]=bs[j]:=List.getElem_idxOf h5;exact(List.getElem_inj hbn).1 h6
   rw[List.getElem_map,h5];simp[List.getD,g2]
  have hDn:D.Nodup:=hDO.nodup_iff.2 k4.nd;have hDm:∀s,s∈D↔s∈cR a:=fun s=>by rw[hDO.mem_iff,k4.odd,(kE hv).2]
  have hfin:=GG my (Dx hv)
  have hsort:Abs.Fn Tryz.prog 130 [sv,.func 70 []] H1 nx1 fun _ H' nx'=>Row H' 1 sv ((cR a).map aA):=by
   generalize hcs:D.map aA=cs at hrow;cases hrow with
   |nil=>
    have hD0:D=[]:=List.map_eq_nil_iff.1 hcs;refine Abs.Fn.mono (o0 rfl) ?_;rintro _ _ _ ⟨rfl,rfl⟩
    have:cR a=[]:=by
     rw[ur];intro s h;have:=(hDm s).2 h;rw[hD0] at this;cases this
    rw[this];exact Row.nil
   |box b len cs k1 k2=>
    obtain rfl:len=D.length:=by rw[←hcs,bt] at k2;omega
    have hb:=hbd b rfl;subst hcs;by_cases h0:D.length=0
    ·have hD0:D=[]:=fq.1 h0
     have he:cR a=[]:=by
      rw[ur];intro s h;have:=(hDm s).2 h;rw[hD0] at this;cases this
     have hrw:Row H1 1 (.msl b (D.length*1) 1 0 D.length) ((cR a).map aA):=by
      have:=Row.box (H:=H1) (sz:=1) b D.length _ k1 (by rw[bt,Nat.mul_one]);rw[he];rwa [hD0] at this ⊢
     refine Abs.Fn.mono (o0 (by rw[h0];rfl)) ?_;rintro _ _ _ ⟨_,e⟩;rw[e];exact hrw
    ·have hg:∀s∈D,Shn s:=fun s h=>show s.length≤_ by have:=k4.all s (hDO.mem_iff.1 h);omega
     have hsf:=Bv JW (L:=D) (b:=b) (nx:=nx1) (n:=D.length) k1 hb.2 rfl (by omega) hg (by omega);rw[Nat.mul_one];refine Abs.Fn.mono hsf ?_;rintro _ H' nx' ⟨L',ps,p1,p2⟩;have hlen:=p1.length_eq;have:=qV p1 (by rw[hlen];exact p2) hDn hDm;rw[hfin] at this;rw[←this,←hlen];have:=Row.box (H:=H') (sz:=1) b L'.length (L'.map aA) ps.at_ (by simp)
     rwa [Nat.mul_one] at this
  refine wnY and_self ?_;refine be ev0 ev0 hsort ?_;rintro r H' nx' hr;refine wnY and_self ?_;exact gL hr
end Go.Proofs.YtekdaafnjdlenaaGreat
namespace Go.Proofs.YtekdaafnjdlenaaGreat
open Go Go.Abs
theorem CJ{s f:Spx}(hs:bV s=0)(hf:f∈cA s):bV f=0:=by
 obtain⟨h1,h2,h3⟩:=nN.1 hf;obtain⟨p1,p2,p3,p4⟩:=co hs;exact yx ⟨by omega,by omega⟩ (p3.sublist h2) fun v hv=>p4 v (h2.subset hv)
theorem uT{a:List Spx}(ha:∀s∈a,bV s=0):∀f∈cR a,bV f=0:=fun f hf=>by
 obtain⟨s,h1,h2⟩:=AU (ot ha) hf;exact CJ (ha s h1) h2
theorem E5{a:List Spx}(h:∀s∈a,bV s=0):∀s∈a,s.length≤8:=fun s hs=>(co (h s hs)).2.1
def mA(a:List Spx):List Spx×Int:=if jM a≠0 then([],jM a) else if 4096<(cR a).length then([],5) else(cR a,0)
def HG(a:List Spx):Bool×Int:=if jM a≠0 then(false,jM a) else(decide (cR a=[]),0)
attribute [local irreducible] aJ aj bf aX aP aQ aD aS a6 bk Go.Abs.Fn aV Go.Abs.Pure ar aK Yl
theorem uI{a:List Spx}(h:jM a=0):pU 77 [am a] (am (cR a)):=by
 obtain⟨h1,h2,h3,h4⟩:=n6 h;by_cases h0:a=[]
 ·subst h0;exact sa [] 0 (by omega) (by simp) (by simp) (by simp) (by simp)
 ·have hm:a.getD 0 default∈a:=az (jN.2 h0);have h5:=co (h2 _ hm);exact sa a ((a.getD 0 default).length-1) (by omega) h1 (ot h2) (fun s hs=>.inl (by rw[h4 s hs];omega)) (E5 h2)
theorem zc{a:List Spx}(h:jM a=0):Shn (cR a)∧∀s∈cR a,s.length≤1000000:=by
 obtain⟨h1,h2,h3,h4⟩:=n6 h;have:=vT (E5 h2);exact⟨show _≤_ by omega,zq (uT h2)⟩
theorem G8(a:List Spx)(ha:ShC a):pU 29 [am a] (.tup [am (mA a).1,.int .i64 (mA a).2]):=by
 refine pO Na ?_;simp only[b29,aG];have f1:=tT a ha;unfold mA;by_cases h:jM a=0
 rotate_left
 ·have z:decide (jM a≠0)=true:=aR h;rw[if_pos h];refine wnY @z ?_;exact dR (.eslsl _) rfl
 rw[if_neg (fun q=>q h)];have f2:=uI h;have f3:=Dj (cR a) (zc h).1 (zc h).2;have z:decide ((0:Int)≠0)=false:=rfl;rw[h] at f1
 have hfin:(if 4096<(cR a).length then(([]:List Spx),(5:Int)) else(cR a,0))=(if 4096<(cR a).length then [] else cR a,if 4096<(cR a).length then 5 else 0):=by
  split<;>rfl
 rw[hfin];refine wnY @z ?_;exact dR (bI _).snap rfl
theorem J9(a:List Spx)(ha:ShC a):pU 33 [am a] (.tup [.bool (HG a).1,.int .i64 (HG a).2]):=by
 refine pO N1 ?_;simp only[b33,aG];have f1:=tT a ha;unfold HG;by_cases h:jM a=0
 rotate_left
 ·have z:decide (jM a≠0)=true:=aR h;rw[if_pos h];refine wnY @z ?_;exact Fa rfl rfl
 rw[if_neg (fun q=>q h)];have f2:=uI h;have z:decide ((0:Int)≠0)=false:=rfl;have z2:decide ((((cR a).length:Nat):Int)=0)=decide (cR a=[]):=decide_eq_decide.2 (by rw[←fq];omega);rw[h] at f1;refine wnY (zI3 @z @z2 @ae) ?_;exact Fa rfl rfl
end Go.Proofs.YtekdaafnjdlenaaGreat
namespace Go.Proofs.YtekdaafnjdlenaaGreat
open Go Go.Abs
def on3(b1:Nat)(c1:List AV)(b2:Nat)(c2:List AV)(b3:Nat)(c3:List AV):Hp:=fun x=>if x=b1 then some c1 else if x=b2 then some c2 else if x=b3 then some c3 else none
theorem A1{P:Program}{T:Tm}{H:Hp}{nx:Nat}(b1 b2 b3:Nat){c1 c2 c3:List AV}{K:CP}{m:Nat}{l:List Op2}{C:List (Nat×Nat)}(h1:H b1=some c1)(h2:H b2=some c2)(h3:H b3=some c3)(n1:b2≠b1)(n2:b3≠b1)(n3:b3≠b2)(k:∀S:Hp,S b1=some c1→S b2=some c2→S b3=some c3→(∀H':Hp,H' b1=some c1→H' b2=some c2→H' b3=some c3→Sub S H')→bc P S (C.map fun k=>(l.getD k.1 ⟨none,none,.dead⟩,k.2)) T H nx fun T H nx=>K .normal T H nx):aJ P (.mixS m l C) T H nx K:=by
 have hsub:∀H':Hp,H' b1=some c1→H' b2=some c2→H' b3=some c3→Sub (on3 b1 c1 b2 c2 b3 c3) H':=fun H' a b c x cs h=>by
  unfold on3 at h;split at h
  ·rename_i e;rw[e,a];exact h
  split at h
  ·rename_i e;rw[e,b];exact h
  split at h
  ·rename_i e;rw[e,c];exact h
  ·cases h
 refine wJ (on3 b1 c1 b2 c2 b3 c3) rfl (hsub H h1 h2 h3) (k _ ?_ ?_ ?_ hsub)
 ·unfold on3;rw[if_pos rfl]
 ·unfold on3;rw[if_neg n1,if_pos rfl]
 ·unfold on3;rw[if_neg n2,if_neg n3,if_pos rfl]
theorem xq{α:Type}{p q:Prop}[Decidable p][Decidable q](h:p↔q){a b:α}:(if p then a else b)=if q then a else b:=by
 by_cases hq:q
 ·rw[if_pos hq,if_pos (h.2 hq)]
 ·rw[if_neg hq,if_neg fun x=>hq (h.1 x)]
def DX(c:List Spx)(d:Int):List Spx×Int:=if d<0 then([],0) else du c (d+1)
def aB(c:List Spx)(d:Int):List Spx:=if d≤0 then [] else gq c d.toNat
def uU(c:List Spx)(d:Int):(Int×List (List Int))×Int:=if ay c≠0 then((0,[]),ay c) else if d<0∨8≤d then((0,[]),2) else((((aB c (d+1)).length:Nat),dN (aB c (d+1)) (aB c d)),0)
theorem Cg{c:List Spx}{d:Int}(hc:ay c=0)(h1:-1≤d)(h2:d<8):DX c d=(aB c (d+1),0):=by
 unfold DX aB du;by_cases h:d<0
 ·rw[if_pos h,if_pos (by omega)]
 ·rw[if_neg h,if_neg (fun q=>q hc),if_neg (by omega),if_neg (by omega)]
theorem qr{c:List Spx}{d:Int}:b8 bl (aB c d):=by
 unfold aB;split
 ·exact b8.nil
 ·exact EV
theorem eM{c:List Spx}{d:Int}(hc:c.length≤50)(h:ay c=0):(aB c d).length≤3500:=by
 unfold aB;split
 ·exact bB _
 ·exact oe hc (E5 (cK h).2.1)
theorem pH{c:List Spx}{d:Int}{s:Spx}:s∈aB c d↔0<d∧s.length=d.toNat∧∃t∈c,s.Sublist t:=by
 unfold aB;split
 ·exact⟨fun h=>(by cases h),fun h=>absurd h.1 (by omega)⟩
 ·rw[rY];constructor
  ·rintro⟨t,t1,t2⟩;exact⟨by omega,(d7.1 t2).2,t,t1,(d7.1 t2).1⟩
  ·rintro⟨_,h1,t,t1,t2⟩;exact⟨t,t1,d7.2 ⟨t2,h1⟩⟩
theorem gK{c:List Spx}{d:Int}(h:ay c=0):∀s∈aB c d,bV s=0:=fun s hs=>by
 obtain⟨h1,h2,t,t1,t2⟩:=pH.1 hs;obtain⟨p1,p2,p3,p4⟩:=co ((cK h).2.1 t t1);have:=t2.length_le;exact yx ⟨by omega,by omega⟩ (p3.sublist t2) fun v hv=>p4 v (t2.subset hv)
attribute [local irreducible] aJ aj bf aX aP aQ aD aS a6 bk Go.Abs.Fn aV Go.Abs.Pure ar aK Yl
theorem yJ(l:List Spx)(v:Spx)(hl:Shn l)(hs:∀c∈l,Shn c)(hv:Shn v)(ha:b8 bl l):∃b:Nat,pU 80 [am l,aA v] (.tup [.int .i64 b,.bool (decide (v∈l))])∧(v∈l→b<l.length∧l.getD b default=v):=by
 obtain⟨b,hb,h1,h2⟩:=s9 (fun i=>bl (l.getD i default) v) l.length (fun i j hij hj h=>my.trans (eG ha hij hj) h);have hc:=Ao l v hl hs hv hb h1 h2
 have he:(decide (b<l.length)&&decide (bl (l.getD b default) v=0))=decide (v∈l)∧(v∈l→b<l.length∧l.getD b default=v):=by
  by_cases hm:v∈l
  ·obtain⟨i,hi,e⟩:=jp hm;have e':l.getD i default=v:=by simp[List.getD,hi,e]
   have hbi:b=i:=by
    rcases sK b i with h|h|h
    ·have h3:=h2 b (aO _) (by omega);have h4:=eG ha h hi;rw[e'] at h4;omega
    ·exact h
    ·have h3:=h1 i h;rw[e',fU] at h3;omega
   subst hbi;rw[aR hi,aR hm,e',aR (fU v)];exact⟨rfl,fun _=>⟨hi,rfl⟩⟩
  ·rw[aU hm];refine⟨?_,fun h=>absurd h hm⟩;by_cases hlt:b<l.length
   ·rw[aR hlt,Bool.true_and,aU];intro h;exact hm (by rw[←pf h];exact az hlt)
   ·rw[aU hlt,Bool.false_and]
 rw[he.1] at hc;refine⟨b,?_,he.2⟩;refine pO Ny ?_;simp only[b80,aG];refine wnZ (zI4 @a7 @aL @ai @af) ?_;exact br (ah (.int _ _) (ah (.bool _) ak))
theorem D3(c:List Spx)(d:Int)(hd:d≤1000)(hc:c.length≤50)(hs:∀s∈c,Shn s):pU 83 [bE c,.int .i64 d] (.tup [am (DX c d).1,.int .i64 (DX c d).2]):=by
 refine pO ND ?_;simp only[b83,aG];unfold DX;by_cases h:d<0
 ·have z:decide (d<0)=true:=aR h;rw[if_pos h];refine wnY (zI3 @z @ai @af) ?_;exact dR (.eslsl _) rfl
 ·have z:decide (d<0)=false:=aU h;rw[if_neg h];have hS:=kQ c (d+1) hc hs;refine wnY (zI3 @z @ai @af) ?_;exact dR (bI _).snap rfl
set_option maxHeartbeats 2000000 in
theorem JN(c:List Spx)(d:Int)(hc:c.length≤50)(hs:∀s∈c,Shn s):pU 112 [bE c,.int .i64 d] (.tup [dl (uU c d).1.1 (uU c d).1.2,.int .i64 (uU c d).2]):=by
 refine pO Ll ?_;simp only[K6,aG];have hcc:=ji c (show _≤_ by omega) hs;unfold uU;by_cases he:ay c=0
 rotate_left
 ·rw[if_pos he];have z:decide (ay c≠0)=true:=aR he;refine wnY (zI3 @ai @af @z) ?_;exact jF (.eslsl _) rfl
 rw[if_neg (fun h=>h he)];rw[he] at hcc;have z0:decide ((0:Int)≠0)=false:=rfl;by_cases hd:d<0∨8≤d
 ·rw[if_pos hd];have zz:=aI @ai (aI @af @z0);repeat' (first|refine zW ?_|apply a_n|apply a_r|refine zO ?_|refine vY ?_|refine cY ?_ (hp:=hcc) (hs:=by(first|refine aF ?_ rfl|apply aY);(repeat' (first|exact ak|apply bv|apply a5|exact cw _));first|done|fail)|refine alY ?_|refine bxY ?_|refine stY ?_|refine gTY ?_|refine gFY ?_|refine cTY ?_|refine cFY ?_|(refine zGY ?_ ?_<;>(intro _hg;try (exfalso;omega)))|refine bR rfl ?_|refine r2Y ?_|fail)
  all_goals first|exact jF (.eslsl _) rfl|(exfalso;omega)
 rw[if_neg hd];have hX:=D3 c d (by omega) hc hs;have hY:=D3 c (d-1) (by omega) hc hs;rw[Cg he (by omega) (by omega)] at hX hY;rw[show d-1+1=d by omega] at hY;have hXl:=eM (d:=d+1) hc he;have hYl:=eM (d:=d) hc he;have hXm:=gK (d:=d+1) he;have hYm:=oA (gK (d:=d) he);have hYa:=qr (c:=c) (d:=d);generalize aB c (d+1)=X at *;generalize aB c d=Y at *;have z1:decide (d<0)=false:=aU (by omega);have z2:decide (8≤d)=false:=aU (by omega);have hzc:bn (AV.agg [AV.esl]) Y.length=List.replicate Y.length .esl:=by simp[bn,AV.cells]
 refine wnY (zI6 @ai @af @ae @z0 @z1 @z2) ?_;refine xL (k1:=.i64) (k2:=.i64) (n:=Y.length) (m:=Y.length) rfl ev0 ev0 (by omega) (Int.le_refl _) (by omega) (by omega) ?_;rw[cr,hzc,Nat.mul_one];refine wnY @ae ?_;refine lpI (X:=Nat×List AV) (fun x=>[(4,.ptr 1 2 0),(9,.ptr 2 1 0),(10,.ptr 4 2 0),(56,am X),(57,.int .i64 X.length),(58,.int .i64 x.1)]) (fun x H' nx'=>x.1≤X.length∧5≤nx'∧H' 1=some [.int .i64 0,.esl]∧H' 2=some [am Y]∧H' 4=some [.int .i64 X.length,.msl 3 Y.length 1 0 Y.length]∧MatOk H' 3 5 nx' Y.length (hJ X Y x.1) x.2) (fun x=>X.length-x.1) (0,List.replicate Y.length .esl) ⟨bB _,aO _,by(repeat rw[ac (by omega)]);rw[ag],by(repeat rw[ac (by omega)]);rw[ag];rfl,by rw[ag];rfl,MatOk.new (by(repeat rw[ac (by omega)]);rw[ag]) (fun j _=>rfl)⟩ ?_;rintro⟨k,vs⟩ H nx ⟨h1,h2,g1,g2,g4,hmat⟩;dsimp only at h1 h2 g1 g2 g4 hmat ⊢;by_cases hk:k<X.length
 rotate_left
 ·obtain rfl:k=X.length:=by omega
  have hst:Snap (aq H 1 [.int .i64 X.length,.msl 3 Y.length 1 0 Y.length]) (.msl 3 Y.length 1 0 Y.length) (bu (dN X Y)):=(hmat.same (hi':=nx) (G:=hJ X Y X.length) (ac (by omega)) (fun x x1 x2 x3=>ac (by omega)) (aO _) (fun j _=>rfl)).snap;refine wnY (aI @g4 @g1) ?_;exact jF hst rfl
 have ix:=ec hk;have hsim:=hXm _ (az hk);have hF:∀i,hJ X Y (k+1) i=hJ X Y k i++if Y.getD i default∈cA (X.getD k default) then [k] else []:=fun i=>vn
 generalize X.getD k default=s at *;obtain⟨p1,p2,p3,p4⟩:=co hsim;refine wnY @ix ?_;refine be ev0 ev0 (ve s _ _) ?_;rintro _ H1 nx1 ⟨rfl,rfl,rfl⟩;refine wnY and_self ?_;refine mW (nx+2) (nx+3) rfl rfl ev0 (fun c0 cj hy=>?_);refine Abs.Fn.mono (uP (nx:=nx+3) (y:=nx+2) (sb:=nx+1) (s:=s) (by omega) (fun D H' nx'=>nx+3≤nx'∧H' (nx+1)=some [aA s]∧H' (nx+2)=some [c0]∧H' nx=some [.int .i64 (k:Int)]∧H' 1=some [.int .i64 0,.esl]∧H' 2=some [am Y]∧H' 4=some [.int .i64 X.length,.msl 3 Y.length 1 0 Y.length]∧∃vs,MatOk H' 3 5 nx' Y.length (fun i=>hJ X Y k i++if Y.getD i default∈D then [k] else []) vs∧∀j B,j<Y.length→bF (vs.getD j .undef)=some B→B<nx∨nx+3≤B) ?_ ?_ ?_ ?_) ?_
 ·rintro D H' nx' ⟨j1,j2,_⟩;exact j2
 ·rintro D H' H'' n1 n2 ⟨j1,j2,j3,j4,j5,j6,j7,vs,j8,j9⟩ hle hsm;exact⟨by omega,(hsm _ (by omega)).trans j2,(hsm _ (by omega)).trans j3,(hsm _ (by omega)).trans j4,(hsm _ (by omega)).trans j5,(hsm _ (by omega)).trans j6,(hsm _ (by omega)).trans j7,vs,j8.same (hsm _ (by omega)) (fun x x1 x2 x3=>hsm x x2) hle (fun _ _=>rfl),j9⟩
 ·rintro D f H' nx' ⟨j1,j2,j3,j4,j5,j6,j7,vs,j8,j9⟩ hlt hfe hDe;refine hy _ _ _ _ j3 rfl ?_;clear hy;have hfm:f∈fcs s:=by rw[hfe];exact az hlt
  have hfD:f∉D:=fun h=>by
   rw[hDe] at h;have hnd:=DC p3;have e:=b5 hlt;have h5:=(yu.1 (by rw[←e];exact hnd.sublist (List.take_sublist _ _):((fcs s).take D.length++[(fcs s).getD D.length default]).Nodup)).2.2 _ h _ (de.2 rfl);exact h5 hfe
  have hfs:=nN.1 (Cb.1 hfm);have hfn:Shn f:=by show _≤_;omega
  clear hfe hDe hlt hfm;refine wnY and_self ?_;refine⟨j3,?_⟩;have hd:∀x,x≠nx+2→dh H' (nx+2) x=H' x:=fun x hx=>cf hx;generalize dh H' (nx+2)=H2 at *;have q2:=(hd 2 (by omega)).trans j6;have q3:=(hd 3 (by omega)).trans j8.box;have q4:=(hd 4 (by omega)).trans j7;have qk:=(hd nx (by omega)).trans j4;obtain⟨p,hpl,hpm⟩:=yJ Y f (show _≤_ by omega) hYm hfn hYa;by_cases hin:f∈Y
  rotate_left
  ·rw[aU hin] at hpl;refine wnY (zI3 @q2 @ai @af) ?_;refine⟨rfl,j1,(ac (by omega)).trans ((hd _ (by omega)).trans j2),ag,(ac (by omega)).trans qk,(ac (by omega)).trans ((hd _ (by omega)).trans j5),(ac (by omega)).trans q2,(ac (by omega)).trans q4,vs,j8.same ((ac (by omega)).trans (hd _ (by omega))) (fun x x1 x2 x3=>?_) (aO _) (fun j hj=>?_),j9⟩
   ·by_cases e:x=nx+2
    ·rw[e,ag,j3]
    ·rw[ac e,hd x e]
   ·have hne:Y.getD j default≠f:=fun e=>hin (by rw[←e];exact az hj)
    congr 1
    exact xq (by rw[eD,de];exact⟨fun h=>h.resolve_right hne,.inl⟩)
  rw[aR hin] at hpl;obtain⟨pl1,pl2⟩:=hpm hin;have hFD:hJ X Y k p++(if Y.getD p default∈D then [k] else [])=hJ X Y k p:=by rw[pl2,if_neg hfD,fP]
  have hrow:Row H2 1 (vs.getD p .undef) ((hJ X Y k p).map sx):=by
   have:=j8.row p pl1;rw[hFD] at this;exact this.same fun b hb=>hd b (by have:=j9 p b pl1 hb;omega)
  have hvs:vs[p]?=some (vs.getD p .undef):=by
   have:=j8.len;simp[List.getD,show p<vs.length by omega]
  have hlen:=j8.len
  have hb3:∀b,bF (vs.getD p .undef)=some b→5≤b∧b<nx'∧b≠3∧(b<nx∨nx+3≤b):=fun b hb=>by
   have h5:=j8.bnd p b pl1 hb;have h6:=j9 p b pl1 hb;exact⟨h5.1,h5.2.1,h5.2.2,h6⟩
  generalize hrv:vs.getD p .undef=rv at *;refine wnY (zI3 @q2 @ai @af) ?_;refine A1 4 3 nx q4 q3 qk (by omega) (by omega) (by omega) fun S0 hS1 hS2 hS3 hsub=>?_;have hFl:=r9 (X:=X) (Y:=Y) (n:=k) (i:=p);refine wnY (zI5 @hS1 @hS2 @hS3 @hvs @hlen) ?_;refine dS ?_;refine wnY and_self ?_;refine⟨hsub _ (by rw[ac (by omega)];exact q4) (by rw[ac (by omega)];exact q3) (by rw[ac (by omega)];exact qk),?_⟩;refine dS ?_;refine eR (hrow.same fun b hb=>?_) ?_
  ·have:=hb3 b hb;rw[ac (by omega)]
  rintro s2 H4 nx4 hr2 i1 i2 i3 i4;have lo:∀x,x<nx'→bF rv≠some x→H4 x=H2 x:=fun x x1 x2=>(i3 x (by omega) x2).trans (ac (by omega));have l3:H4 3=H2 3:=lo 3 (by omega) (fun h=>by have:=hb3 _ h;omega);have l4:H4 4=H2 4:=lo 4 (by omega) (fun h=>by have:=hb3 _ h;omega);have lk:H4 nx=H2 nx:=lo nx (by omega) (fun h=>by have:=hb3 _ h;omega);have lo2:∀x,x<nx+3→5≤x→nx≤x→H4 x=H2 x:=fun x x1 x2 x3=>lo x (by omega) (fun h=>by have:=hb3 _ h;omega);have lo5:∀x,x<5→H4 x=H2 x:=fun x x1=>lo x (by omega) (fun h=>by have:=hb3 _ h;omega);obtain⟨o1,o2⟩:=hr2.one;have m3:=l3.trans q3;refine jz ⟨hsub _ (l4.trans q4) m3 (lk.trans qk),?_⟩
  have hlp:bG vs p [s2]=vs.set p s2:=by
   simp only[bG,bO,fA,ce];rw[HJ,if_pos (by omega)];simp
  have zz:=aI @m3 (aI @o1 (aI @o2 (aI @hlen @hlp)));repeat' (first|apply a_n|refine zO ?_|refine nvY ?_|apply iV|refine stY ?_|fail)
  have hB2:∀b,bF s2=some b→(bF rv=some b∨nx'≤b)∧b<nx4:=fun b hb=>by
   rcases i4 b hb with h|h
   ·exact⟨.inl h,by have:=hb3 b h;omega⟩
   ·exact⟨.inr (by omega),by omega⟩
  have hwd:∀x,x≠3→x≠nx+2→aq (aq H4 3 (vs.set p s2)) (nx+2) [c0] x=H4 x:=fun x x1 x2=>by rw[ac x2,ac x1]
  rw[hlp];refine⟨rfl,by omega,?_,ag,?_,?_,?_,?_,vs.set p s2,?_,?_⟩
  ·rw[hwd _ (by omega) (by omega),lo2 _ (by omega) (by omega) (by omega),hd _ (by omega)];exact j2
  ·rw[hwd _ (by omega) (by omega),lk];exact qk
  ·rw[hwd _ (by omega) (by omega),lo5 _ (by omega),hd _ (by omega)];exact j5
  ·rw[hwd _ (by omega) (by omega),lo5 _ (by omega)];exact q2
  ·rw[hwd _ (by omega) (by omega),l4];exact q4
  ·refine j8.put (sv:=s2) (x:=k) (i:=p) pl1 (fun j hj=>?_) ?_ (fun b hb=>?_) (by rw[ac (by omega),ag]) (fun x x1 x2 x3 x4=>?_) (by omega) (by omega)
   ·by_cases e:j=p
    ·subst e;rw[if_pos rfl,pl2,if_neg hfD,if_pos (ng _ (de.2 rfl)),fP]
    ·rw[if_neg e]
     have hne:Y.getD j default ≠ f:=fun h=>e (by
      rcases sK j p with h'|h'|h'
      ·have:=eG hYa h' pl1;rw[h,pl2,fU] at this;omega
      ·exact h'
      ·have:=eG hYa h' hj;rw[h,pl2,fU] at this;omega)
     congr 1
     exact xq (by rw[eD,de];exact⟨fun h=>h.resolve_right hne,.inl⟩)
   ·rw[hFD,cu];refine hr2.same fun b hb=>hwd b ?_ ?_
    ·have:=hB2 b hb;rcases this.1 with h|h
     ·have:=hb3 b h;omega
     ·omega
    ·have:=hB2 b hb;rcases this.1 with h|h
     ·have:=hb3 b h;omega
     ·omega
   ·rw[hrv];have:=hB2 b hb;rcases this.1 with h|h
    ·exact .inl h
    ·exact .inr ⟨h,this.2,by omega⟩
   ·rw[hrv] at x4;by_cases e:x=nx+2
    ·rw[e,ag,j3]
    ·rw[hwd x x3 e,lo x x2 x4,hd x e]
  ·intro j B hj hB;rw[qu (by omega)] at hB;by_cases e:p=j
   ·rw[if_pos e] at hB;have:=hB2 B hB;rcases this.1 with h|h
    ·have:=hb3 B h;omega
    ·omega
   ·rw[if_neg e] at hB;exact j9 j B hj hB
 ·have hlk:bG [AV.int .i64 0] 0 [.int .i64 (k:Int)]=[.int .i64 (k:Int)]:=rfl;have hw:∀x,x≠nx→x≠nx+1→x≠nx+2→aq (aq (aq (aq H nx [.int .i64 0]) nx (bG [.int .i64 0] 0 [.int .i64 (k:Int)])) (nx+1) [aA s]) (nx+2) [c0] x=H x:=fun x x1 x2 x3=>by rw[ac x3,ac x2,ac x1,ac x1]
  refine⟨aO _,by rw[ac (by omega),ag],ag,by rw[ac (by omega),ac (by omega),ag];rfl,(hw _ (by omega) (by omega) (by omega)).trans g1,(hw _ (by omega) (by omega) (by omega)).trans g2,(hw _ (by omega) (by omega) (by omega)).trans g4,vs,hmat.same (hw _ (by omega) (by omega) (by omega)) (fun x x1 x2 x3=>hw x (by omega) (by omega) (by omega)) (by omega) (fun j _=>by simp),fun j B hj hB=>by have:=hmat.bnd j B hj hB;omega⟩
 ·rintro r H' nx' ⟨j1,j2,j3,j4,j5,j6,j7,vs2,j8,j9⟩;refine .inl ⟨j3,?_⟩;refine wnY and_self ?_;refine⟨(k+1,vs2),by dsimp only;omega,⟨by dsimp only;omega,by omega,(cf (by omega)).trans j5,(cf (by omega)).trans j6,(cf (by omega)).trans j7,?_⟩,ag0⟩;dsimp only
  have hrows:∀j,j<Y.length→hJ X Y (k+1) j=hJ X Y k j++if Y.getD j default∈fcs s then [k] else []:=fun j _=>by
   rw[hF];congr 1;exact xq Cb.symm
  exact⟨(cf (by omega)).trans j8.box,j8.len,fun j hj=>by rw[hrows j hj];exact(j8.row j hj).same fun b hb=>cf (by have:=j9 j b hj hb;omega),fun j B hj hB=>by have:=j8.bnd j B hj hB;exact this,j8.apart⟩
end Go.Proofs.YtekdaafnjdlenaaGreat
namespace Go.Proofs.YtekdaafnjdlenaaGreat
open Go Go.Abs
def tO(L a:List Spx):List Nat:=a.map fun s=>L.idxOf s
abbrev eC(a:List Spx):Nat:=(a.getD 0 default).length
def il(c a:List Spx):List Int×Int:=if ay c≠0 then([],ay c) else if jM a≠0 then([],jM a) else if a=[] then([],0) else if (a.all fun s=>decide (s∈aB c (eC a)))=true then(dQ (tO (aB c (eC a)) a),0) else([],6)
theorem yA{l:List Nat}{n:Nat}:dQ (l++[n])=dQ l++[(n:Int)]:=by unfold dQ;rw[cu];rfl
theorem DI{L a:List Spx}{k:Nat}(h:k<a.length):tO L (a.take (k+1))=tO L (a.take k)++[L.idxOf (a.getD k default)]:=by
 unfold tO;rw[b5 h,cu];rfl
theorem G0{l:List Spx}(hn:l.Nodup){v:Spx}{k:Nat}(hk:k<l.length)(hv:l.getD k default=v):l.idxOf v=k:=by
 have hm:v∈l:=by rw[←hv];exact az hk
 have h1:=pC.2 hm;have h2:l[l.idxOf v]=v:=List.getElem_idxOf h1;have h3:l[k]=v:=by simpa[List.getD,hk] using hv
 exact(List.getElem_inj hn).1 (h2.trans h3.symm)
theorem ie{H:Hp}{s:AV}{l:List Int}{e f:Int}(h:Snap H s (aC l))(he:e=f):Snap H (.tup [s,.int .i64 e]) (.tup [aC l,.int .i64 f]):=by
 subst he;exact br (ah h (ah (.int _ _) ak))
def Cq(n:Nat)(v:List Int)(k:Nat):Int:=if v.getD k default<0∨(n:Int)≤v.getD k default then 2 else if 0<k∧v.getD k default≤v.getD (k-1) default then 14 else 0
def sW(n:Nat)(v:List Int):Int:=dK (Cq n v) v.length
theorem sI{n:Nat}{v:List Int}{k:Nat}:Cq n v k=if v.getD k default<0∨(n:Int)≤v.getD k default then 2 else if 0<k∧v.getD k default≤v.getD (k-1) default then 14 else 0:=rfl
def en(X:List Spx)(v:List Int):List Spx:=v.map fun i=>X.getD i.toNat default
theorem z9{X:List Spx}{v:List Int}{k:Nat}(h:k<v.length):en X (v.take (k+1))=en X (v.take k)++[X.getD (v.getD k default).toNat default]:=by
 unfold en;rw[b5 h,cu];rfl
def Af(c:List Spx)(d:Int)(v:List Int):List Spx×Int:=if ay c≠0 then([],ay c) else if d<0∨8≤d then([],2) else if sW (aB c (d+1)).length v≠0 then([],sW (aB c (d+1)).length v) else(en (aB c (d+1)) v,0)
attribute [local irreducible] aJ aj bf aX aP aQ aD aS a6 bk Go.Abs.Fn aV Go.Abs.Pure ar aK Yl
theorem Am(c a:List Spx)(hc:c.length≤50)(hs:∀s∈c,Shn s)(ha:ShC a):pU 30 [bE c,am a] (.tup [aC (il c a).1,.int .i64 (il c a).2]):=by
 refine pO NB ?_;simp only[b30,aG];have hcc:=ji c (show _≤_ by omega) hs;have hca:=tT a ha;have z0:decide ((0:Int)≠0)=false:=rfl;unfold il;by_cases he:ay c=0
 rotate_left
 ·rw[if_pos he];have z:decide (ay c≠0)=true:=aR he;refine wnY (zI3 @ai @af @z) ?_;exact ie (.eslsl _) rfl
 rw[if_neg (fun h=>h he)];rw[he] at hcc;by_cases h2:jM a=0
 rotate_left
 ·rw[if_pos h2];have z:decide (jM a≠0)=true:=aR h2;refine wnY (zI4 @ai @af @z @z0) ?_;exact ie (.eslsl _) rfl
 rw[if_neg (fun h=>h h2)];rw[h2] at hca;by_cases h3:a=[]
 ·rw[if_pos h3];subst h3;have al:dw (am [])=some (.int .i64 0):=rfl;refine wnY (zI4 @ai @af @al @z0) ?_;exact ie (.eslsl _) rfl
 rw[if_neg h3];have hpos:=jN.2 h3;have z3:decide ((a.length:Int)=0)=false:=aU (by omega);obtain⟨p1,p2,p3,p4⟩:=n6 h2;have p5:=co (p2 _ (az hpos));have i0:=ML hpos;have hS:=kQ c (eC a) hc hs;unfold du at hS;rw[if_neg (fun h=>h he),if_neg (by unfold eC;omega),cr] at hS;have eL:gq c (eC a)=aB c (eC a):=by unfold aB;rw[if_neg (by unfold eC;omega),cr]
 rw[eL] at hS;have hLs:=oA (gK (d:=(eC a:Nat)) he);have hLl:=eM (d:=(eC a:Nat)) hc he;have hLa:=qr (c:=c) (d:=(eC a:Nat));generalize aB c (eC a)=L at *;unfold eC at hS;refine wkY (zI7 @ai @af @ae @ao @i0 @z0 @z3) ?_;refine bT (X:=AV×Nat) (fun x=>[(8,am L),(10,x.1),(40,am a),(41,.int .i64 a.length),(42,.int .i64 x.2)]) (fun x H nx=>x.2≤a.length∧(∀i,i<x.2→decide (a.getD i default∈L)=true)∧Row H 1 x.1 ((dQ (tO L (a.take x.2))).map (AV.int .i64))∧∀b,bF x.1=some b→b<nx) (fun x=>a.length-x.2) (.esl,0) ⟨bB _,fun i h=>absurd h (by omega),Row.nil,fun b hb=>(by cases hb)⟩ ag0 ?_;rintro⟨sv,k⟩ H nx ⟨k1,k2,k3,k4⟩;dsimp only at k1 k2 k3 k4 ⊢;by_cases hk:k<a.length
 rotate_left
 ·rw[fM (by omega)] at k3;rw[if_pos (jW fun i hi=>k2 i (by omega))];refine wnY and_self ?_;exact ie k3.snapI rfl
 have ix:=ec hk;have hsx:=ha.2 _ (az hk);obtain⟨p,hpl,hpm⟩:=yJ L (a.getD k default) (show _≤_ by omega) hLs hsx hLa;by_cases hin:a.getD k default∈L
 rotate_left
 ·rw[aU hin] at hpl
  have hall:¬(a.all fun s=>decide (s∈L))=true:=by
   rw[iS hk (aU hin)];decide
  rw[if_neg hall];refine wnY @ix ?_;exact ie (.eslsl _) rfl
 rw[aR hin] at hpl;obtain⟨p1',p2'⟩:=hpm hin;have hidx:=G0 (hLa.nodup my) p1' p2';have hpt:=DI (L:=L) hk;rw[hidx] at hpt;have hnl:(dQ (tO L (a.take k))).length=k:=by unfold dQ tO;rw[bt,bt,f0];omega
 refine wnY @ix ?_;refine eR (k3.same fun b hb=>?_) ?_
 ·have:=k4 b hb;rw[ac (by omega)]
 rintro s2 E e hrow hle1 hle2 hsame hb2;refine wnY and_self ?_;refine⟨(s2,k+1),by dsimp only;omega,⟨by dsimp only;omega,fun i hi=>?_,?_,fun b hb=>?_⟩,ag0⟩
 ·rcases i9.1 hi with h'|rfl
  ·exact k2 i h'
  ·exact aR hin
 ·dsimp only;rw[hpt,yA,cu];exact hrow
 ·rcases hb2 b hb with h|h
  ·have:=k4 b h;omega
  ·omega
set_option maxHeartbeats 2000000 in
theorem C7(X Y:List Spx)(hXl:X.length≤4000)(hYl:Y.length≤4000)(hX:∀s∈X,Shn s)(hY:∀s∈Y,Shn s)(hin:∀i k,i<Y.length→k<X.length→ee (Y.getD i default) (X.getD k default)=decide (Y.getD i default∈cA (X.getD k default))):pU 110 [am X,am Y] (dl X.length (dN X Y)):=by
 refine pO La ?_;simp only[J8,aG];refine wnY @ae ?_;refine za (X:=Nat×AV) (fun x=>[(0,am X),(1,am Y),(4,.ptr 0 2 0),(5,.ptr 1 2 0),(6,.int .i64 x.1)]) (fun x H nx=>x.1≤Y.length∧2≤nx∧H 0=some [.int .i64 0,.esl]∧H 1=some [.int .i64 X.length,x.2]∧Row H 1 x.2 ((List.range x.1).map fun j=>aC (dQ (hJ X Y X.length j)))∧∀b,bF x.2=some b→2≤b∧b<nx) (fun x=>Y.length-x.1) (0,.esl) ⟨bP,_,Fz.none,⟨bB _,aO _,by(repeat rw[ac (by omega)]);rw[ag],by rw[ag];rfl,Row.nil,fun b h=>(by cases h)⟩,.inl rfl,.inl rfl,.inl rfl,.inl rfl,.inl rfl,trivial⟩ ?_;rintro⟨i,sv⟩ H nx ⟨h1,h2,g0,g1,hrow,hbd⟩;dsimp only at h1 g1 hrow hbd ⊢;obtain⟨o1,o2⟩:=hrow.one;by_cases hi:i<Y.length
 rotate_left
 ·obtain rfl:i=Y.length:=by omega
  refine wnY (zI5 @ae @g0 @g1 @o1 @o2) ?_
  have hr2:Row (aq H 0 [.int .i64 X.length,sv]) 1 sv ((dN X Y).map aC):=by
   unfold dN;rw[List.map_map];exact hrow.same fun b hb=>ac (by have:=hbd b hb;omega)
  exact kr (ah (.int _ _) (ah hr2.snapV ak))
 have iy:=ec hi;have hYi:=hY _ (az hi);have hF:∀k,hJ X Y (k+1) i=hJ X Y k i++if Y.getD i default∈cA (X.getD k default) then [k] else []:=fun k=>vn
 have hini:=fun k hk=>hin i k hi hk;generalize Y.getD i default=t at *;refine wnY @ae ?_;refine bT (X:=Nat×AV) (fun x=>[(0,am X),(1,am Y),(4,.ptr 0 2 0),(5,.ptr 1 2 0),(6,.int .i64 i),(7,x.2),(8,.int .i64 x.1)]) (fun x H' nx'=>x.1≤X.length∧nx≤nx'∧(∀y,y<nx→H' y=H y)∧Row H' 1 x.2 ((hJ X Y x.1 i).map sx)∧∀b,bF x.2=some b→nx≤b∧b<nx') (fun x=>X.length-x.1) (0,.esl) ⟨bB _,aO _,fun _ _=>rfl,Row.nil,fun b h=>(by cases h)⟩ ag0 ?_;rintro⟨k,rv⟩ H' nx' ⟨k1,k2,k3,krow,kbd⟩;dsimp only at k1 krow kbd ⊢;obtain⟨o3,o4⟩:=krow.one;have g1':H' 1=some [.int .i64 X.length,sv]:=(k3 1 (by omega)).trans g1;have g0':H' 0=some [.int .i64 0,.esl]:=(k3 0 (by omega)).trans g0;by_cases hk:k<X.length
 rotate_left
 ·obtain rfl:k=X.length:=by omega
  have hr1:Row H' 1 sv ((List.range i).map fun j=>aC (dQ (hJ X Y X.length j))):=hrow.same fun b hb=>k3 b (by have:=hbd b hb;omega);refine wnY (zI4 @ae @g1' @o3 @o4) ?_;refine iW rfl ev0 (hr1.same fun b hb=>?_) ev0 fv (by simp[AV.ones,o3]) rfl lC (by simp;omega) (by simp;omega) ?_
  ·have:=hbd b hb;rw[ac (by omega)]
  rintro s2 H2 nx2 hr2 i1 i2 i3 i4;have lo:∀x,x<nx'→bF sv≠some x→H2 x=H' x:=fun x x1 x2=>(i3 x (by omega) x2).trans (ac (by omega));have l4:∀x,x<2→H2 x=H' x:=fun x x1=>lo x (by omega) (fun h=>by have:=hbd _ h;omega);have g42:H2 1=some [.int .i64 X.length,sv]:=(l4 1 (by omega)).trans g1';obtain⟨o5,o6⟩:=hr2.one;have kr2:Row H2 1 rv ((hJ X Y X.length i).map sx):=krow.same fun b hb=>lo b (by have:=kbd b hb;omega) (fun h=>by have:=hbd b h;have:=kbd b hb;omega)
  have hb2:∀b,bF s2=some b→2≤b∧b<nx2∧bF rv≠some b:=fun b hb=>by
   rcases i4 b hb with h|h
   ·have:=hbd b h;exact⟨by omega,by omega,fun e=>by have:=kbd b e;omega⟩
   ·exact⟨by omega,by omega,fun e=>by have:=kbd b e;omega⟩
  refine wnY (zI3 @g42 @o5 @o6) ?_;obtain⟨Hf,H5,hfz,hr5,hs5⟩:=wT (H:=aq H2 1 (bG [.int .i64 X.length,sv] 1 [s2])) (hr2.same fun b hb=>ac (by have:=hb2 b hb;omega)) (kr2.same fun b hb=>ac (by have:=kbd b hb;omega)) (fun b hb e=>(hb2 b e).2.2 hb);have hlow:∀x,x<2→H5 x=aq H2 1 (bG [.int .i64 X.length,sv] 1 [s2]) x:=fun x hx=>hs5 x (fun e=>by have:=kbd x e;omega) (fun e=>by have:=hb2 x e;omega);refine⟨(i+1,s2),by dsimp only;omega,Hf,H5,hfz,⟨by dsimp only;omega,by omega,?_,?_,?_,fun b hb=>?_⟩,jt ag0⟩
  ·rw[hlow 0 (by omega),ac (by omega),l4 0 (by omega)];exact g0'
  ·rw[hlow 1 (by omega),ag];rfl
  ·dsimp only;rw[List.range_succ,cu];exact hr5
  ·have:=hb2 b hb;omega
 have ix:=ec hk;have hXk:=hX _ (az hk);have hinc:=xI t (X.getD k default) hYi hXk;rw[hini k hk] at hinc;have hFk:=hF k;have hFl:=r9 (X:=X) (Y:=Y) (n:=k) (i:=i);generalize X.getD k default=s at *;by_cases he2:t∈cA s
 ·rw[aR he2] at hinc;rw[if_pos he2] at hFk;refine wkY (zI3 @ae @ix @iy) ?_;refine eR (krow.same fun b hb=>?_) ?_
  ·have:=kbd b hb;rw[ac (by omega)]
  rintro r2 H2 nx2 hr2 i1 i2 i3 i4;obtain⟨o5,o6⟩:=hr2.one;refine wnY (aI @o5 @o6) ?_;refine⟨(k+1,r2),by dsimp only;omega,⟨by dsimp only;omega,by omega,fun y hy=>?_,?_,fun b hb=>?_⟩,ag0⟩
  ·rw[i3 y (by omega) (fun h=>by have:=kbd _ h;omega),ac (by omega)];exact k3 y hy
  ·dsimp only;rw[hFk,cu];exact hr2
  ·rcases i4 b hb with h|h
   ·have:=kbd b h;omega
   ·omega
 ·rw[aU he2] at hinc;rw[if_neg he2,fP] at hFk;refine wkY (zI3 @ae @ix @iy) ?_;exact⟨(k+1,rv),by dsimp only;omega,⟨by dsimp only;omega,k2,k3,by dsimp only;rw[hFk];exact krow,kbd⟩,ag0⟩
theorem yf{s f:Spx}{n:Nat}(hs:b8 cC s)(hf:b8 cC f)(hsl:s.length=n+1)(hfl:f.length=n)(hn:1≤n):ee f s=decide (f∈cA s):=by
 rw[Bool.eq_iff_iff,e6,f8,nN];exact⟨fun h=>⟨by omega,Hu zS hf hs h,by omega⟩,fun h v hv=>h.2.1.subset hv⟩
end Go.Proofs.YtekdaafnjdlenaaGreat
namespace Go.Proofs.YtekdaafnjdlenaaGreat
open Go Go.Abs
theorem ixV{l:List Int}{k:Nat}(h:k<l.length):ey 1 (aC l) (.int .i64 (k:Int))=some (.iptr [.int .i64 (l.getD k default)] 0):=by
 rw[mJ,if_pos ⟨by omega,by omega⟩,cr]
theorem ct{l:List Int}:dw (aC l)=some (.int .i64 l.length):=tY
attribute [local irreducible] aJ aj bf aX aP aQ aD aS a6 bk Go.Abs.Fn aV Go.Abs.Pure ar aK Yl
set_option maxHeartbeats 1000000 in
theorem wR(c:List Spx)(d:Int)(v:List Int)(hc:c.length≤50)(hs:∀s∈c,Shn s)(hv:v.length≤100000):pU 34 [bE c,.int .i64 d,aC v] (.tup [am (Af c d v).1,.int .i64 (Af c d v).2]):=by
 refine pO M9 ?_;simp only[b34,aG];have hcc:=ji c (show _≤_ by omega) hs;have z0:decide ((0:Int)≠0)=false:=rfl;unfold Af;by_cases he:ay c=0
 rotate_left
 ·rw[if_pos he];have z:decide (ay c≠0)=true:=aR he;refine wnY (zI3 @ai @af @z) ?_;exact dR (.eslsl _) rfl
 rw[if_neg (fun h=>h he)];rw[he] at hcc;by_cases hd:d<0∨8≤d
 ·rw[if_pos hd];have zz:=aI @ai (aI @af @z0);repeat' (first|refine zW ?_|apply a_n|apply a_r|refine zO ?_|refine vY ?_|refine cY ?_ (hp:=hcc) (hs:=by(first|refine aF ?_ rfl|apply aY);(repeat' (first|exact ak|apply bv|apply a5|exact cw _));first|done|fail)|refine bxY ?_|refine gTY ?_|refine gFY ?_|refine cTY ?_|refine cFY ?_|(refine zGY ?_ ?_<;>(intro _hg;try (exfalso;omega)))|refine bR rfl ?_|refine r2Y ?_|fail)
  all_goals first|exact dR (.eslsl _) rfl|(exfalso;omega)
 rw[if_neg hd];have hX:=D3 c d (by omega) hc hs;rw[Cg he (by omega) (by omega)] at hX;have hXl:=eM (d:=d+1) hc he;have hXm:=gK (d:=d+1) he;generalize aB c (d+1)=X at *;have z1:decide (d<0)=false:=aU (by omega);have z2:decide (8≤d)=false:=aU (by omega);refine wnY (zI5 @ai @af @z0 @z1 @z2) ?_;refine bT (X:=AV×Nat) (fun x=>[(2,aC v),(9,am X),(11,x.1),(34,aC v),(35,.int .i64 v.length),(36,.int .i64 x.2)]) (fun x H nx=>x.2≤v.length∧(∀i,i<x.2→Cq X.length v i=0)∧Row H 1 x.1 ((en X (v.take x.2)).map aA)∧∀b,bF x.1=some b→b<nx) (fun x=>v.length-x.2) (.esl,0) ⟨bB _,fun i h=>absurd h (by omega),Row.nil,fun b hb=>(by cases hb)⟩ ag0 ?_;rintro⟨sv,k⟩ H nx ⟨k1,k2,k3,k4⟩;dsimp only at k1 k2 k3 k4 ⊢;by_cases hk:k<v.length
 rotate_left
 ·have hz:sW X.length v=0:=dG fun i hi=>k2 i (by omega);rw[if_neg (fun h=>h hz)];rw[fM (by omega)] at k3;have hpl:(en X v).length=v.length:=by unfold en;rw[bt]
  have hcp:=vG (en X v) (by omega) fun s hs=>by
   unfold en at hs;obtain⟨i,hi,rfl⟩:=bK.1 hs;by_cases hl:i.toNat<X.length
   ·exact zq hXm _ (az hl)
   ·rw[show X.getD i.toNat default=[] by unfold List.getD;rw[List.getElem?_eq_none (by omega)];rfl];exact bB _
  obtain⟨Hf,H4,hfz,hsn,hoth⟩:=Jp k3;have z6:decide ((k:Int)<v.length)=false:=aU (by omega);refine dD ?_;have zz:=@z6;repeat' (first|apply a_n|refine zO ?_|refine vY ?_|fail)
  refine dD ?_;clear zz;have zz:=@z6;repeat' (first|apply a_n|apply a_x|refine zO ?_|refine cFY ?_|fail)
  refine dD ?_;refine pr Hf H4 [(11,am (en X v))] hfz ⟨.inr hsn,trivial⟩ ?_;refine wnY and_self ?_;exact dR (bI _).snap rfl
 have ix:=ixV hk;have hsp:=sI (n:=X.length) (v:=v) (k:=k)
 have hfin:∀e:Int,e≠0→Cq X.length v k=e→(if sW X.length v≠0 then(([]:List Spx),sW X.length v) else(en X v,0))=([],e):=fun e h0 he=>by
  have h5:sW X.length v=e:=by
   unfold sW;rw[di hk k2 (by rw[he];exact h0),he]
  rw[if_pos (by rw[h5];exact h0),h5]
 by_cases g1:v.getD k default<0
 ·rw[if_pos (.inl g1)] at hsp;rw[hfin 2 (by decide) hsp];have z1:decide (v.getD k default<0)=true:=aR g1;refine wnY (aI @ix @z1) ?_;exact dR (.eslsl _) rfl
 have z3:decide (v.getD k default<0)=false:=aU g1;by_cases g2:(X.length:Int)≤v.getD k default
 ·rw[if_pos (.inr g2)] at hsp;rw[hfin 2 (by decide) hsp];have z4:decide ((X.length:Int)≤v.getD k default)=true:=aR g2;refine wnY (zI4 @ix @z3 @z4 @ae) ?_;exact dR (.eslsl _) rfl
 have z4:decide ((X.length:Int)≤v.getD k default)=false:=aU g2;rw[if_neg (by omega)] at hsp
 have iw:ey 1 (am X) (.int .i64 (v.getD k default))=some (.iptr [aA (X.getD (v.getD k default).toNat default)] 0):=by
  rw[ra,if_pos ⟨by omega,by omega⟩]
 have hpt:=z9 (X:=X) hk;have hnl:(en X (v.take k)).length=k:=by unfold en;rw[bt,f0];omega
 have hstep:∀ (s2:AV) (E:Hp) (e:Nat),Cq X.length v k=0→Row E 1 s2 ((en X (v.take k)).map aA ++ [aA (X.getD (v.getD k default).toNat default)])→(∀ i,i < k + 1→Cq X.length v i=0)∧Row E 1 s2 ((en X (v.take (k + 1))).map aA):=fun s2 E e hz hr=>⟨fun i hi=>by
  rcases i9.1 hi with h'|rfl
  ·exact k2 i h'
  ·exact hz,by rw[hpt,cu];exact hr⟩
 generalize X.getD (v.getD k default).toNat default=x at *;by_cases hk0:0<k
 rotate_left
 ·rw[if_neg (fun h=>hk0 h.1)] at hsp;have zk:decide (0<(k:Int))=false:=aU (by omega);refine wnY (zI8 @ix @iw @z3 @z4 @zk @ae @a7 @aL) ?_;refine eR (k3.same fun b hb=>?_) ?_
  ·have:=k4 b hb;rw[ac (by omega)]
  rintro s2 E e hrow hle1 hle2 hsame hb2;refine wnY and_self ?_
  exact ⟨(s2,k + 1),by dsimp only; omega,⟨by dsimp only; omega,(hstep s2 E e hsp hrow).1,(hstep s2 E e hsp hrow).2,fun b hb=>by
   rcases hb2 b hb with h|h
   ·have:=k4 b h;omega
   ·omega⟩,ag0⟩
 have zk:decide (0<(k:Int))=true:=aR (by omega)
 have iy:ey 1 (aC v) (.int .i64 ((k:Int)-1))=some (.iptr [.int .i64 (v.getD (k-1) default)] 0):=by
  have:=ixV (l:=v) (k:=k-1) (by omega)
  rwa [show((k-1:Nat):Int)=(k:Int)-1 by omega] at this
 by_cases g3:v.getD k default≤v.getD (k-1) default
 ·rw[if_pos ⟨hk0,g3⟩] at hsp;rw[hfin 14 (by decide) hsp];have z5:decide (v.getD k default≤v.getD (k-1) default)=true:=aR g3;refine wnY (zI7 @ix @iy @z3 @z4 @zk @z5 @ae) ?_;exact dR (.eslsl _) rfl
 ·rw[if_neg (fun h=>g3 h.2)] at hsp;have z5:decide (v.getD k default≤v.getD (k-1) default)=false:=aU g3;refine wnY (jY @ix @iy @iw @z3 @z4 @zk @z5 @ae @a7 @aL) ?_;refine eR (k3.same fun b hb=>?_) ?_
  ·have:=k4 b hb;rw[ac (by omega)]
  rintro s2 E e hrow hle1 hle2 hsame hb2;refine wnY and_self ?_
  exact ⟨(s2,k + 1),by dsimp only; omega,⟨by dsimp only; omega,(hstep s2 E e hsp hrow).1,(hstep s2 E e hsp hrow).2,fun b hb=>by
   rcases hb2 b hb with h|h
   ·have:=k4 b h;omega
   ·omega⟩,ag0⟩
end Go.Proofs.YtekdaafnjdlenaaGreat
namespace Go.Proofs.YtekdaafnjdlenaaGreat
open Go Go.Abs
def dX(l:List Int):Spx:=l.map fun c=>⟨c,0⟩
theorem Dz{l:List Int}{k:Nat}(h:k<l.length):dX (l.take (k+1))=dX (l.take k)++[⟨l.getD k default,0⟩]:=by
 unfold dX;rw[b5 h,cu];rfl
attribute [local irreducible] aJ aj bf aX aP aQ aD aS a6 bk Go.Abs.Fn aV Go.Abs.Pure ar aK Yl
end Go.Proofs.YtekdaafnjdlenaaGreat
namespace Go.Proofs.YtekdaafnjdlenaaGreat
open Go Go.Abs
structure PairV where
 a:List Spx
 b:List Spx
 d:Int
attribute [local irreducible] aJ aj bf aX aP aQ aD aS a6 bk Go.Abs.Fn aV Go.Abs.Pure ar aK Yl
theorem pm(l m:List Int)(hl:l.length≤1000000)(hm:m.length≤1000000):pU 17 [aC l,aC m] (.bool (decide (l=m))):=by
 refine pO Nu ?_;simp only[b17,aG]
 repeat' (first|refine zW ?_|apply a_n|apply a_r|refine zO ?_|refine vZ ?_|(refine zGZ ?_ ?_<;>(intro _hg;try (exfalso;omega)))|refine bR rfl ?_|refine r1Z ?_|fail)
 ·refine b9 ?_
  symm;rw[decide_eq_false_iff_not];rintro rfl;omega
 refine lq (X:=Nat) (fun k=>[(0,aC l),(1,aC m),(12,.int .i64 l.length),(13,.int .i64 k)]) (fun k=>k≤l.length∧∀i,i<k→l.getD i default=m.getD i default) (fun k=>l.length-k) 0 ⟨bB _,by simp⟩ ag0 ?_;rintro k ⟨h1,h2⟩
 repeat' (first|refine zW ?_|apply a_n|apply a_x|apply a_r|refine zO ?_|refine vZ ?_|(refine zGZ ?_ ?_<;>(intro _hg;try (exfalso;omega)))|refine bR rfl ?_|refine r1Z ?_|fail)
 ·refine b9 ?_
  symm;rw[decide_eq_false_iff_not];rintro rfl;exact absurd rfl ‹_›
 ·refine⟨k+1,⟨by omega,fun i hi=>?_⟩,by omega,ag0,rfl,rfl⟩;rcases i9.1 hi with h|rfl
  ·exact h2 i h
  ·omega
 ·refine b9 ?_
  symm;rw[wW]
  refine List.ext_getElem (by omega) (fun i h3 h4=>?_);have:=h2 i (by omega);simpa[List.getD,h3,h4] using this
end Go.Proofs.YtekdaafnjdlenaaGreat
namespace Go.Proofs.YtekdaafnjdlenaaGreat
open Go Go.Abs
theorem pd{H:Hp}{b n:Nat}{l:List Spx}(h:H b=some (l.map aA))(hn:n=l.length):Snap H (.msl b n 1 0 n) (am l):=by
 subst hn;have:=Row.box (H:=H) (sz:=1) b l.length (l.map aA) h (by simp);rw[Nat.mul_one] at this;exact gL this
theorem Ea{H:Hp}{b n:Nat}{cs:List AV}{l:List (List Int)}(hb:H b=some cs)(hn:cs.length=n)(h:aK H cs (l.map aC)):Snap H (.msl b n 1 0 n) (bu l):=by
 have hl:=h.1;refine jd (l:=l.map aC) hb hn (by omega) (by omega) (fun y hy=>?_) (fun i a c ha hc=>?_)
 ·obtain⟨z,_,rfl⟩:=bK.1 hy;rfl
 ·rw[ce] at ha;exact h.2 i a c ha hc
attribute [local irreducible] aJ aj bf aX aP aQ aD aS a6 bk Go.Abs.Fn aV Go.Abs.Pure ar aK Yl
end Go.Proofs.YtekdaafnjdlenaaGreat
namespace Go.Proofs.YtekdaafnjdlenaaGreat
open Go Go.Abs
theorem pp:∀(n:Nat)(a b:List Int),a.length+b.length≤n→bz a→bz b→(bN a b).length+2*(a.filter fun x=>decide (x∈b)).length=a.length+b.length
 |_,[],b,_,_,_=>by rw[io];simp
 |_,x::a,[],_,_,_=>by
  rw[fK,GR.2 (fun z _=>by simp)];rfl
 |0,x::a,y::b,h,_,_=>by simp only[bO] at h;omega
 |n+1,x::a,y::b,h,ha,hb=>by
  simp only[bO] at h ⊢;obtain⟨a1,a2⟩:=gU.1 ha;obtain⟨b1,b2⟩:=gU.1 hb;rw[jO];by_cases g1:x<y
  ·have hx:x∉y::b:=fun q=>by
     rcases cW.1 q with rfl|q
     ·omega
     ·have:=b1 x q;omega
   have ih:=pp n a (y::b) (by simp only[bO];omega) a2 hb;rw[if_pos g1,bO,AY (by simpa using hx)];simp only[bO] at ih;omega
  rw[if_neg g1];by_cases g2:y<x
  ·have hf:(x::a).filter (fun z=>decide (z∈y::b))=(x::a).filter fun z=>decide (z∈b):=by
     refine List.filter_congr fun z hz=>decide_eq_decide.2 ?_;rw[cW];refine⟨fun h=>h.resolve_left ?_,.inr⟩;rintro rfl;rcases cW.1 hz with rfl|hz
     ·omega
     ·have:=a1 z hz;omega
   have ih:=pp n (x::a) b (by simp only[bO];omega) ha b2;rw[if_pos g2,bO,hf];simp only[bO] at ih;omega
  rw[if_neg g2];obtain rfl:x=y:=by omega
  have hf:a.filter (fun z=>decide (z∈x::b))=a.filter fun z=>decide (z∈b):=by
   refine List.filter_congr fun z hz=>decide_eq_decide.2 ?_;rw[cW];refine⟨fun h=>h.resolve_left ?_,.inr⟩;rintro rfl;have:=a1 z hz;omega
  have ih:=pp n a b (by omega) a2 b2;rw[A4 (by simp),bO,hf];omega
theorem bz.nodup{l:List Int}(h:bz l):l.Nodup:=xK (fun{x y}(h:x<y) e=>by omega) h
theorem zH{l:List Nat}{x:Int}:x∈dQ l↔ ∃i:Nat,i∈l∧(i:Int)=x:=by unfold dQ;exact bK
theorem nf{l:List Nat}(h:l.Pairwise (· < ·)):bz (dQ l):=by
 unfold dQ bz;rw[List.pairwise_map];exact xK (fun{a b}(h:a<b)=>by omega) h
theorem Eo{X Y:List Spx}{n i:Nat}:(hJ X Y n i).Pairwise (· < ·):=List.pairwise_lt_range.sublist EG
theorem DU{X Y:List Spx}{n i j:Nat}:j∈hJ X Y n i↔j<n∧Y.getD i default∈cA (X.getD j default):=by
 unfold hJ;simp only[gY,dT,f8]
theorem gQ{X Y:List Spx}:(dN X Y).length=Y.length:=by unfold dN;simp
theorem kR{X Y:List Spx}(hX:X.length≤4096)(hY:Y.length≤4096):gr X.length (dN X Y):=by
 refine⟨by omega,by omega,by rw[gQ];exact hY,fun r hr=>?_⟩;unfold dN at hr;obtain⟨i,hi,rfl⟩:=bK.1 hr;refine⟨fun v hv=>?_,?_,t5 (nf Eo)⟩
 ·unfold dQ at hv;obtain⟨j,hj,rfl⟩:=bK.1 hv;have:=(DU.1 hj).1;omega
 ·unfold dQ;rw[bt];exact eZ r9 hX
def jI(a b:List Int):Bool:=decide ((a.length+b.length-(bN a b).length)/2%2=1)
attribute [local irreducible] aJ aj bf aX aP aQ aD aS a6 bk Go.Abs.Fn aV Go.Abs.Pure ar aK Yl
theorem Ez(a b:List Int)(ha:a.length≤1000000)(hb:b.length≤1000000):pU 116 [aC a,aC b] (.bool (jI a b)):=by
 refine pO L3 ?_;simp only[K3,aG];have hs:=vE a b (by omega) (by omega);have hl:=oG _ a b (aO _);unfold jI;generalize bN a b=S at *
 have hq:∀tb tf,bq .quo tb tf (.int .i64 ((a.length:Int)+b.length-S.length)) (.int .i64 2)=some (.int .i64 (((a.length+b.length-S.length)/2:Nat):Int)):=fun tb tf=>by
  rw[oO (by omega) (by omega) (by omega)]
  congr 2;omega
 have hr:∀tb tf,bq .rem tb tf (.int .i64 (((a.length+b.length-S.length)/2:Nat):Int)) (.int .i64 2)=some (.int .i64 (((a.length+b.length-S.length)/2%2:Nat):Int)):=fun tb tf=>by
  rw[Br (by omega) (by omega)]
  congr 2
 have z:decide ((((a.length+b.length-S.length)/2%2:Nat):Int)=1)=decide ((a.length+b.length-S.length)/2%2=1):=decide_eq_decide.2 (by omega);refine wnY (zI4 @ct @hq @hr @z) ?_;exact .bool _
theorem A3{l:List (List Int)}{k:Nat}(h:k<l.length):ey 1 (bu l) (.int .i64 (k:Int))=some (.iptr [aC (l.getD k default)] 0):=by
 rw[nY,if_pos ⟨by omega,by omega⟩,cr]
theorem cz{l:List (List Int)}:dw (bu l)=some (.int .i64 l.length):=qJ
end Go.Proofs.YtekdaafnjdlenaaGreat
namespace Go.Proofs.YtekdaafnjdlenaaGreat
open Go Go.Abs
def trF(R:List (List Int))(n q:Nat):List Nat:=(List.range n).filter fun i=>decide ((q:Int)∈R.getD i default)
theorem ED{R:List (List Int)}{n q:Nat}:trF R (n+1) q=trF R n q++if (q:Int)∈R.getD n default then [n] else []:=by
 unfold trF;rw[List.range_succ,wg]
 congr 1
 by_cases h:(q:Int)∈R.getD n default
 ·rw[if_pos h,A4 (by simpa using h)];rfl
 ·rw[if_neg h,AY (by simpa using h)];rfl
theorem B1{R:List (List Int)}{n q:Nat}:(trF R n q).length≤n:=by
 unfold trF;exact eZ (List.length_filter_le _ _) (by simp)
def trL(c:Nat)(R:List (List Int)):List (List Int):=(List.range c).map fun q=>dQ (trF R R.length q)
attribute [local irreducible] aJ aj bf aX aP aQ aD aS a6 bk Go.Abs.Fn aV Go.Abs.Pure ar aK Yl
set_option maxHeartbeats 2000000 in
theorem yB(c:Nat)(R:List (List Int))(hm:gr c R):pU 133 [dl c R] (.tup [dl R.length (trL c R),.int .i64 0]):=by
 refine pO Lw ?_;simp only[Me,aG];have h1:=ll c R hm;have z0:decide ((0:Int)≠0)=false:=rfl;have dm:Dat (.agg [.int .i64 c,bu R]):=cT c R;obtain⟨m1,m2,m3,m4⟩:=hm;have hzc:bn (AV.agg [AV.esl]) c=List.replicate c .esl:=by simp[bn,AV.cells]
 unfold dl;refine wnY (aI @z0 @cz) ?_;refine xL (k1:=.i64) (k2:=.i64) (n:=c) (m:=c) rfl ev0 ev0 (by omega) (Int.le_refl _) (by omega) (by omega) ?_;rw[cr,hzc,Nat.mul_one];refine wnY @cz ?_;refine lpI (X:=Nat×List AV) (fun x=>[(2,.ptr 1 2 0),(5,.ptr 3 2 0),(24,bu R),(25,.int .i64 R.length),(26,.int .i64 x.1)]) (fun x H' nx'=>x.1≤R.length∧4≤nx'∧H' 1=some [.int .i64 0,.esl]∧H' 3=some [.int .i64 R.length,.msl 2 c 1 0 c]∧MatOk H' 2 4 nx' c (trF R x.1) x.2) (fun x=>R.length-x.1) (0,List.replicate c .esl) ⟨bB _,aO _,by(repeat rw[ac (by omega)]);rw[ag],by rw[ag];rfl,MatOk.new (by(repeat rw[ac (by omega)]);rw[ag]) (fun j _=>rfl)⟩ ?_;rintro⟨i,vs⟩ H nx ⟨i1,i2,g1,g3,hmat⟩;dsimp only at i1 i2 g1 g3 hmat ⊢;by_cases hi:i<R.length
 rotate_left
 ·obtain rfl:i=R.length:=by omega
  have hst:Snap (aq H 1 [.int .i64 R.length,.msl 2 c 1 0 c]) (.msl 2 c 1 0 c) (bu (trL c R)):=(hmat.same (hi':=nx) (G:=trF R R.length) (ac (by omega)) (fun x x1 x2 x3=>ac (by omega)) (aO _) (fun j _=>rfl)).snap;refine wnY (aI @g1 @g3) ?_;exact jF hst rfl
 have ix:=A3 hi;have hrow:=m4 _ (bg hi);have hF:∀q,trF R (i+1) q=trF R i q++if (q:Int)∈R.getD i default then [i] else []:=fun q=>ED
 generalize R.getD i default=r at *
 have hrasc:∀j,j<r.length→r.getD j default∉r.take j:=fun j hj hm=>by
  have hchain:∀b a,a<b→b<r.length→r.getD a default<r.getD b default:=fun b=>by
   induction b with
   |zero=>intro a ha;omega
   |succ b ih=>
    intro a ha hb;have q:=hrow.2.2 b hb;rcases(by omega:a<b∨a=b) with h|rfl
    ·have:=ih a h (by omega);omega
    ·exact q
  obtain⟨a,ha,e⟩:=jp hm;rw[f0] at ha;have h5:=hchain j a (by omega) hj;have e2:r.getD a default=r.getD j default:=by rw[←e];simp[List.getD,show a<r.length by omega]
  omega
 refine wnY @ix ?_;refine lpI (X:=Nat×List AV) (fun x=>[(2,.ptr 1 2 0),(5,.ptr 3 2 0),(6,.int .i64 i),(24,bu R),(25,.int .i64 R.length),(26,.int .i64 i),(31,aC r),(32,.int .i64 r.length),(33,.int .i64 x.1)]) (fun x H' nx'=>x.1≤r.length∧nx≤nx'∧H' 1=some [.int .i64 0,.esl]∧H' 3=some [.int .i64 R.length,.msl 2 c 1 0 c]∧MatOk H' 2 4 nx' c (fun q=>trF R i q++if (q:Int)∈r.take x.1 then [i] else []) x.2) (fun x=>r.length-x.1) (0,vs) ⟨bB _,aO _,g1,g3,hmat.same rfl (fun _ _ _ _=>rfl) (aO _) (fun j _=>by simp)⟩ ?_;clear hmat g1 g3;rintro⟨j,vs⟩ H' nx' ⟨j1,j2,g1,g3,hmat⟩;dsimp only at j1 g1 g3 hmat ⊢;by_cases hj:j<r.length
 rotate_left
 ·rw[fM (by omega)] at hmat;refine wnY and_self ?_;exact⟨(i+1,vs),by dsimp only;omega,⟨by dsimp only;omega,by omega,g1,g3,hmat.same rfl (fun _ _ _ _=>rfl) (aO _) (fun q _=>hF q)⟩,ag0⟩
 have iy:=ixV hj;have hjr:=hrow.1 _ (bg hj);have htk:=b5 hj;have hnm:=hrasc j hj;generalize r.getD j default=v at *;obtain⟨p,rfl⟩:∃p:Nat,v=p:=⟨v.toNat,by omega⟩
 have p1:p<c:=by omega
 refine wnY @iy ?_;refine pE 3 2 g3 hmat.box (by omega) fun S0 hS1 hS2 hsub=>?_;have hFp:trF R i p++(if (p:Int)∈r.take j then [i] else [])=trF R i p:=by rw[if_neg hnm,fP]
 have hrow2:=hmat.row p p1;rw[hFp] at hrow2
 have hvs:vs[p]?=some (vs.getD p .undef):=by
  have:=hmat.len;simp[List.getD,show p<vs.length by omega]
 have hlen:=hmat.len;have hb3:∀b,bF (vs.getD p .undef)=some b→4≤b∧b<nx'∧b≠2:=fun b hb=>hmat.bnd p b p1 hb;have hFl:=B1 (R:=R) (n:=i) (q:=p);generalize hrv:vs.getD p .undef=rv at *;refine wnY (zI4 @hS1 @hS2 @hvs @hlen) ?_;refine dS ?_;refine wnY and_self ?_;refine⟨hsub _ (by rw[ac (by omega)];exact g3) (by rw[ac (by omega)];exact hmat.box),?_⟩;refine dS ?_;refine eR (hrow2.same fun b hb=>?_) ?_
 ·have:=hb3 b hb;rw[ac (by omega)]
 rintro s2 H4 nx4 hr2 k1 k2 k3 k4;have lo:∀x,x<nx'→bF rv≠some x→H4 x=H' x:=fun x x1 x2=>(k3 x (by omega) x2).trans (ac (by omega));have l5:∀x,x<4→H4 x=H' x:=fun x hx=>lo x (by omega) (fun h=>by have:=hb3 _ h;omega);have q2:=(l5 2 (by omega)).trans hmat.box;have q3:=(l5 3 (by omega)).trans g3;obtain⟨o1,o2⟩:=hr2.one;refine jz ⟨hsub _ q3 q2,?_⟩
 have hlp:bG vs p [s2]=vs.set p s2:=by
  simp only[bG,bO,fA,ce];rw[HJ,if_pos (by omega)];simp
 have zz:=aI @q2 (aI @o1 (aI @o2 (aI @hlen @hlp)));repeat' (first|apply a_n|refine zO ?_|refine vY ?_|refine nvY ?_|apply iV|refine stY ?_|fail)
 refine⟨(j+1,vs.set p s2),by dsimp only;omega,⟨by dsimp only;omega,by omega,?_,?_,?_⟩,ag0⟩
 ·rw[ac (by omega),l5 _ (by omega)];exact g1
 ·rw[ac (by omega)];exact q3
 ·dsimp only;refine hmat.put (sv:=s2) (x:=i) p1 (fun q hq=>?_) ?_ (fun b hb=>?_) (by rw[ag,hlp]) (fun x x1 x2 x3 x4=>?_) (by omega) (by omega)
  ·rw[htk];by_cases e:q=p
   ·subst e;rw[if_pos rfl,if_neg hnm,if_pos (ng _ (de.2 rfl)),fP]
   ·rw[if_neg e]
    congr 1
    refine xq ?_;rw[eD,de];exact⟨fun h=>h.resolve_right (by omega),.inl⟩
  ·rw[hFp,cu]
   exact hr2.same fun b hb=>ac (by
    rcases k4 b hb with h|h
    ·have:=hb3 b h;omega
    ·omega)
  ·rw[hrv];rcases k4 b hb with h|h
   ·exact .inl h
   ·exact .inr ⟨by omega,by omega,by omega⟩
  ·rw[ac x3,lo x x2 (by rw[hrv] at x4;exact x4)]
end Go.Proofs.YtekdaafnjdlenaaGreat
namespace Go.Proofs.YtekdaafnjdlenaaGreat
open Go Go.Abs
theorem ib(v:Int)(ks:List Int):c9 (.one .int) (.int .i64 v) (ks.map (AV.int .i64))=some (if v∈ks then some (ks.idxOf v) else none):=
 mU _ (AV.int .i64) (fun a b=>rfl) v ks
theorem MN(v:Int):∀{l:List Int},bz l→∃b,b≤l.length∧(∀i,i<b→l.getD i default<v)∧∀i,b≤i→i<l.length→v≤l.getD i default
 |[],_=>⟨0,aO _,fun i h=>absurd h (by omega),fun i _ h=>absurd h (by simp)⟩
 |x::l,h=>by
  obtain⟨h1,h2⟩:=gU.1 h;by_cases hx:x<v
  ·obtain⟨b,b1,b2,b3⟩:=MN v h2;refine⟨b+1,by simp;omega,fun i hi=>?_,fun i hi hl=>?_⟩
   ·match i with
    |0=>exact hx
    |i+1=>exact b2 i (by omega)
   ·match i with
    |0=>omega
    |i+1=>exact b3 i (by omega) (by simp at hl;omega)
  ·refine⟨0,bB _,fun i h=>absurd h (by omega),fun i _ hl=>?_⟩
   match i with
   |0=>show v≤x;omega
   |i+1=>
    have:=h1 (l.getD i default) (az (by simp at hl;omega));show v≤l.getD i default;omega
theorem IK{v:Int}{l:List Int}{b:Nat}(h1:∀i,i<b→l.getD i default<v)(h2:∀i,b≤i→i<l.length→v≤l.getD i default)(ha:bz l):(decide (b<l.length)&&decide (l.getD b default=v))=decide (v∈l):=by
 by_cases hm:v∈l
 ·obtain⟨i,hi,e⟩:=jp hm;have e':l.getD i default=v:=by simp[List.getD,hi,e]
  have hbi:b=i:=by
   rcases sK b i with h|h|h
   ·have h3:=h2 b (aO _) (by omega);have h4:=kJ.1 ha b i (by omega) hi h;have e5:l.getD b default=l[b]:=by simp[List.getD,show b<l.length by omega]
    omega
   ·exact h
   ·have:=h1 i h;omega
  subst hbi;rw[aR hi,aR hm,aR e'];rfl
 ·rw[aU hm];by_cases hlt:b<l.length
  ·rw[aR hlt,Bool.true_and,aU];intro h;exact hm (by rw[←h];exact az hlt)
  ·rw[aU hlt,Bool.false_and]
attribute [local irreducible] aJ aj bf aX aP aQ aD aS a6 bk Go.Abs.Fn aV Go.Abs.Pure ar aK Yl
theorem GD(x y:Int):pU 187 [.int .i64 x,.int .i64 y] (.bool (decide (x<y))):=by
 have h1:=jb x;have h2:=jb y;refine pO HX ?_;simp only[Jo,aG];refine wnZ and_self ?_;exact .bool _
theorem AD(l:List Int)(v:Int)(hl:l.length≤1000000000)(ha:bz l):∃b:Nat,pU 163 [aC l,.int .i64 v] (.tup [.int .i64 b,.bool (decide (v∈l))]):=by
 obtain⟨b,hb,h1,h2⟩:=MN v ha;refine⟨b,?_⟩;rw[←IK h1 h2 ha];refine pO KM ?_;simp only[Lz,aG];refine wnZ @ct ?_;refine lq (X:=Nat×Nat) (fun x=>[(0,aC l),(1,.int .i64 v),(6,.int .i64 l.length),(7,.int .i64 x.1),(8,.int .i64 x.2)]) (fun x=>x.1≤b∧b≤x.2∧x.2≤l.length) (fun x=>x.2-x.1) (0,l.length) ⟨bB _,hb,aO _⟩ ag0 ?_;rintro⟨i,j⟩ ⟨g1,g2,g3⟩;dsimp only at g1 g2 g3 ⊢;by_cases hij:i<j
 ·have hh:(i+j)/2<l.length:=by omega
  have hc:=GD (l.getD ((i+j)/2) default) v;have ix:=ixV hh;by_cases hn:l.getD ((i+j)/2) default<v
  ·rw[aR hn] at hc;have hbb:(i+j)/2<b:=Nat.lt_of_not_le fun h=>by have:=h2 _ h hh;omega
   refine wnZ (zI4 @ct @ga @BU @ix) ?_;exact⟨((i+j)/2+1,j),⟨by omega,by omega,by omega⟩,by dsimp only;omega,ag0,rfl,rfl⟩
  ·rw[aU hn] at hc;have hbb:b≤(i+j)/2:=Nat.le_of_not_lt fun h=>hn (h1 _ h);refine wnZ (zI4 @ct @ga @BU @ix) ?_;exact⟨(i,(i+j)/2),⟨by omega,by omega,by omega⟩,by dsimp only;omega,ag0,rfl,rfl⟩
 ·have ei:i=b:=by omega
  have ej:j=b:=by omega
  clear hij g1 g2 g3;subst ei;have dij:decide ((i:Int)<(j:Int))=false:=aU (by omega);by_cases hlt:i<l.length
  ·have hc:=jb (l.getD i default);have ix:=ixV hlt;have hna:=jb v
   have hn2:∀n:Int,pU 188 [.int .i64 n] (.bool false):=fun n=>by
    refine pO Kq ?_;simp only[Lu,aG];refine wnZ and_self ?_;exact b9 (by simp)
   have dlt:decide ((i:Int)<(l.length:Int))=true:=aR (by omega);by_cases hv:l.getD i default=v
   ·have dv:decide (l.getD i default=v)=true:=aR hv;rw[dv,aR hlt,Bool.true_and];refine wnZ (zI5 @ct @ix @dlt @dij @dv) ?_;exact br (ah (.int _ _) (ah (.bool _) ak))
   ·have dv:decide (l.getD i default=v)=false:=aU hv;rw[dv,Bool.and_false];have zz:=aI @ct (aI @ix (aI @dlt (aI @dij @dv)));repeat' (first|refine zW ?_|apply a_n|apply a_x|refine zO ?_|refine vZ ?_|refine cZ ?_ (hp:=by exact hn2 _)|refine gTZ ?_|refine gFZ ?_|refine cFZ ?_|refine bR rfl ?_|refine r2Z ?_|fail)
    exact br (ah (.int _ _) (ah (.bool _) ak))
  ·have dlt:decide ((i:Int)<(l.length:Int))=false:=aU (by omega);rw[aU hlt,Bool.false_and];refine wnZ (zI3 @ct @dlt @dij) ?_;exact br (ah (.int _ _) (ah (.bool _) ak))
theorem Gc(l:List Int)(v:Int)(hl:l.length≤1000000000)(ha:bz l):pU 146 [aC l,.int .i64 v] (.bool (decide (v∈l))):=by
 obtain⟨b,hb⟩:=AD l v hl ha;refine pO Mw ?_;simp only[Mh,aG];refine wnZ and_self ?_;exact .bool _
end Go.Proofs.YtekdaafnjdlenaaGreat
namespace Go.Proofs.YtekdaafnjdlenaaGreat
open Go Go.Abs
def BL(c n:Nat)(x:Ln):Prop:=(∀z∈x.1,0≤z∧z<(c:Int))∧∀j∈x.2,0≤j∧j<(n:Int)
theorem fw{a:List Int}{c:Nat}(ha:bz a)(h:∀z∈a,0≤z∧z<(c:Int)):a.length≤c:=by
 have hn:a.Nodup:=xK (fun{x y}(q:x<y) e=>by omega) ha
 have:=yM hn (l₂:=(List.range c).map fun(k:Nat)=>(k:Int)) fun z hz=>by
  have:=h z hz;exact bK.2 ⟨z.toNat,dT.2 (by omega),by show((z.toNat:Nat):Int)=z;omega⟩
 simpa using this
theorem BL.len{c n:Nat}{x:Ln}(h:BL c n x)(ha:cm x):x.1.length≤c∧x.2.length≤n:=⟨fw ha.1 h.1,fw ha.2 h.2⟩
theorem BL.add{c n:Nat}{x l:Ln}(hx:BL c n x)(hl:BL c n l)(ax:cm x)(al:cm l):BL c n (dY x l):=by
 refine⟨fun z hz=>?_,fun z hz=>?_⟩
 ·rcases(dp ax.1 al.1).1 hz with q|q
  ·exact hx.1 z q.1
  ·exact hl.1 z q.1
 ·rcases(dp ax.2 al.2).1 hz with q|q
  ·exact hx.2 z q.1
  ·exact hl.2 z q.1
theorem AM{c n:Nat}{p:Ln→Bool}:∀{M:List Ln}{x:Ln},(∀l∈M,cm l∧BL c n l)→cm x→BL c n x→BL c n (rdL M p x)
 |[],_,_,_,h=>h
 |l::M,x,hM,hx,h=>by
  unfold rdL;rw[List.foldl_cons];have hl:=hM l dq;have hM':=fun m hm=>hM m (ew _ hm);show BL c n (rdL M p (if p l=true then dY x l else x));split
  ·exact AM hM' (eJ hx hl.1) (h.add hl.2 hx hl.1)
  ·exact AM hM' hx h
theorem yK:∀{i:Nat}{a b:List Int},i≤a.length→(∀j,j<i→∀z∈b,a.getD j default<z)→∀j,j<i→(bN a b).getD j default=a.getD j default
 |0,_,_,_,_,j,hj=>absurd hj (by omega)
 |i+1,[],_,h,_,_,_=>absurd h (by simp)
 |i+1,x::a,[],h,_,j,_=>by rw[fK]
 |i+1,x::a,y::b,h,hz,j,hj=>by
  have h0:x<y:=hz 0 (by omega) y dq;rw[jO,if_pos h0]
  match j with
  |0=>rfl
  |j+1=>exact yK (i:=i) (a:=a) (b:=y::b) (by simpa using h) (fun k hk z hz'=>hz (k+1) (by omega) z hz') j (by omega)
theorem vV:∀{i:Nat}{a b:List Int},i≤a.length→(∀j,j<i→∀z∈b,a.getD j default<z)→i≤(bN a b).length
 |0,_,_,_,_=>bB _
 |i+1,[],_,h,_=>absurd h (by simp)
 |i+1,x::a,[],h,_=>by rw[fK];exact h
 |i+1,x::a,y::b,h,hz=>by
  have h0:x<y:=hz 0 (by omega) y dq;rw[jO,if_pos h0,bO];have:=vV (i:=i) (a:=a) (b:=y::b) (by simpa using h) (fun k hk z hz'=>hz (k+1) (by omega) z hz');omega
theorem DD{M:List Ln}{p q:Ln→Bool}{l:Ln}(h:∀m∈M,q m=true→p m=true)(hl:l∈M)(h1:p l=true)(h2:q l=false):M.countP q<M.countP p:=by
 induction M with
 |nil=>cases hl
 |cons m M ih=>
  rw[List.countP_cons,List.countP_cons];have hle:M.countP q≤M.countP p:=List.countP_mono_left fun x hx=>h x (ew _ hx);rcases cW.1 hl with rfl|hl
  ·rw[if_pos h1,if_neg (by rw[h2];decide)];omega
  ·have:=ih (fun x hx=>h x (ew _ hx)) hl;have h3:=h m dq;by_cases hq:q m=true
   ·rw[if_pos hq,if_pos (h3 hq)];omega
   ·rw[if_neg hq];split<;>omega
def nL(M:List Ln)(x:Ln):Nat:=M.countP fun l=>decide (ld l.1∈x.1)
theorem JQ{M:List Ln}{x l:Ln}(hM:RedU M)(hx:cm x)(hl:l∈M)(h:ld l.1∈x.1):nL M (dY x l)<nL M x:=by
 have hla:=hM.asc l hl;refine DD (l:=l) (fun m hm hq=>?_) hl (aR h) (aU fun hq=>?_)
 ·have hq:=pW hq;refine aR ?_;rcases(dp hx.1 hla.1).1 hq with q|q
  ·exact q.1
  ·have:=hM.own m hm l hl q.1;rw[←this];exact h
 ·rcases(dp hx.1 hla.1).1 hq with q|q
  ·exact q.2 (dj (hM.ne l hl))
  ·exact q.2 h
def bU(M:List Ln):List Int:=M.map fun l=>ld l.1
def eF(x:Ln):AV:=.agg [aC x.1,aC x.2]
def LM(H:Hp)(m:Nat)(M:List Ln):Prop:=H m=some [.omap ((bU M).map (AV.int .i64)) (M.map eF)]
theorem vq{M:List Ln}{v:Int}(h:v∈bU M):∃l∈M,ld l.1=v∧(M.map eF).getD ((bU M).idxOf v) .undef=eF l:=by
 have hi:=pC.2 h;have h2:(bU M)[(bU M).idxOf v]=v:=List.getElem_idxOf hi;generalize (bU M).idxOf v=i at *;have hi':i<M.length:=by unfold bU at hi;simpa using hi
 refine⟨M[i],nk hi',?_,?_⟩
 ·have h3:(bU M)[i]'hi=ld M[i].1:=List.getElem_map ..;rw[←h3];exact h2
 ·simp[List.getD,hi']
theorem mO{M:List Ln}{v:Int}:v∈bU M↔ ∃l∈M,ld l.1=v:=by unfold bU;rw[bK]
theorem JX{T:Tm}{S:Hp}{m:Nat}{ks:List Int}{vs:List AV}{mo ko:Opd}{v:Int}{z:AV}{ok:Bool}(h1:ov T mo=.mp m)(h2:S m=some [.omap (ks.map (AV.int .i64)) vs])(h3:ov T ko=.int .i64 v):ilk T S (.mget (.one .int) z ok mo ko)=some (Go.Abs.mget z ok (if v∈ks then some (ks.idxOf v) else none) vs):=by
 show lkS _ _ _ (ov T mo) (ov T ko) S=_;rw[h1,h3];simp only[lkS,h2,ib];rfl
attribute [local irreducible] aJ aj bf aX aP aQ aD aS a6 bk Go.Abs.Fn aV Go.Abs.Pure ar aK Yl
set_option maxHeartbeats 1000000 in
theorem FG(M:List Ln)(c n:Nat)(hc:c≤4096)(hn:n≤4096)(hM:RedU M)(hMb:∀l∈M,BL c n l)(x:Ln)(hx:cm x)(hxb:BL c n x){a:AV}{Hf HA H:Hp}(hfz:Fz Hf HA H)(hs:Snap Hf a (eF x)){nx m lb:Nat}(hlb:lb<nx)(hm:m<nx)(hne:m≠lb)(h1:H lb=some [.mp m])(h2:LM H m M):
    Abs.Fn Tryz.prog 149 [a,.ptr lb 1 0] HA nx fun r H' nx'=>r=eF (eW M x)∧(∀b,b<nx→H' b=H b)∧nx≤nx':=by
 refine fO Kb ?_;simp only[KW,aG];have hx0:eF x=.agg [aC x.1,aC x.2]:=rfl;refine dD ?_;refine pr Hf H [(0,eF x),(1,.ptr lb 1 0)] hfz ⟨.inr hs,.inl rfl,trivial⟩ ?_;rw[hx0];clear hs hfz;refine wnY @h1 ?_;refine lpI (X:=Ln×Nat) (fun y=>[(1,.ptr lb 1 0),(2,.ptr nx 2 0),(3,.ptr (nx+1) 2 0),(4,.int .i64 y.2)]) (fun y H' nx'=>y.2≤y.1.1.length∧nx+2≤nx'∧cm y.1∧BL c n y.1∧eW M y.1=eW M x∧(∀j,j<y.2→∀l∈M,ld l.1≠y.1.1.getD j default)∧H' nx=some [aC y.1.1,aC y.1.2]∧H' (nx+1)=some [.esl,.esl]∧∀b,b<nx→H' b=H b) (fun y=>nL M y.1*10000+(y.1.1.length-y.2)) (x,0) ⟨bB _,aO _,hx,hxb,rfl,fun j h=>absurd h (by omega),by rw[ac (by omega),ag],by rw[ag],fun b hb=>by rw[ac (by omega),ac (by omega)]⟩ ?_;clear hx hxb hx0;rintro⟨y,i⟩ H' nx' ⟨g1,g2,g3,g4,g5,g6,g7,g8,g9⟩;dsimp only at g1 g2 g3 g4 g5 g6 g7 g8 g9 ⊢;obtain⟨l1,l2⟩:=g4.len g3;have k1:H' lb=some [.mp m]:=(g9 lb hlb).trans h1;have k2:LM H' m M:=(g9 m hm).trans h2;by_cases hi:i<y.1.length
 rotate_left
 ·have hr:eW M y=y:=Dh hM g3 fun l hl hz=>by
    obtain⟨j,hj,e⟩:=jp hz;refine g6 j (by omega) l hl ?_;rw[←e];simp[List.getD,hj]
  have z:decide ((i:Int)<y.1.length)=false:=aU (by omega);rw[←g5,hr];refine wnY (zI4 @ct @z @g7 @g8) ?_;exact⟨rfl,fun b hb=>by rw[ac (by omega)];exact g9 b hb,by omega⟩
 have z:decide ((i:Int)<y.1.length)=true:=aR (by omega);have ix:=ixV hi;have hvm:=az hi;generalize hv:y.1.getD i default=v at *;refine wnY (zI4 @ct @z @ix @g7) ?_;refine A1 lb m nx k1 k2 g7 (by omega) (by omega) (by omega) fun S hS1 hS2 hS3 hsub=>?_;refine wnY (zI4 @hS1 @hS2 @hS3 @ix) ?_;simp only[fB,List.map_nil,List.getD_cons_succ,List.getD_cons_zero];by_cases hk:v∈bU M
 rotate_left
 ·have hmg:Go.Abs.mget (.agg [.esl,.esl]) true (if v∈bU M then some ((bU M).idxOf v) else none) (M.map eF)=.tup [.agg [.esl,.esl],.bool false]:=by rw[if_neg hk];rfl
  refine JT (JX ev0 hS2 ev0) ?_;rw[hmg];refine wnY and_self ?_;refine dS ?_;refine wnY and_self ?_;refine⟨hsub _ (by rw[ac (by omega)];exact k1) (by rw[ac (by omega)];exact k2) (by rw[ac (by omega)];exact g7),?_⟩;refine wnY and_self ?_;refine⟨(y,i+1),by dsimp only;omega,⟨by dsimp only;omega,by omega,g3,g4,g5,fun j hj l hl=>?_,by rw[ac (by omega),ac (by omega)];exact g7,by rw[ac (by omega),ac (by omega)];exact g8,fun b hb=>by rw[ac (by omega),ac (by omega)];exact g9 b hb⟩,ag0⟩;dsimp only;rcases(by omega:j<i∨j=i) with q|rfl
  ·exact g6 j q l hl
  ·rw[hv];exact fun e=>hk (mO.2 ⟨l,hl,e⟩)
 obtain⟨l,hl,hld,hgd⟩:=vq hk
 have hmg:Go.Abs.mget (.agg [.esl,.esl]) true (if v∈bU M then some ((bU M).idxOf v) else none) (M.map eF)=.tup [.agg [aC l.1,aC l.2],.bool true]:=by
  rw[if_pos hk];show AV.tup [(M.map eF).getD ((bU M).idxOf v) .undef,.bool true]=_;rw[hgd];rfl
 refine JT (JX ev0 hS2 ev0) ?_;rw[hmg];refine wnY and_self ?_;refine dS ?_;refine wnY and_self ?_;refine⟨hsub _ (by rw[ac (by omega)];exact k1) (by rw[ac (by omega)];exact k2) (by rw[ac (by omega)];exact g7),?_⟩;refine wnY and_self ?_;have hla:=hM.asc l hl;have hlb':=hMb l hl;obtain⟨l3,l4⟩:=hlb'.len hla;have hs1:=vE y.1 l.1 (by omega) (by omega);have hs2:=vE y.2 l.2 (by omega) (by omega)
 have hlt:∀j,j<i→∀w∈l.1,y.1.getD j default<w:=fun j hj w hw=>by
  have h5:=nD hla.1 hw;have h6:=kJ.1 g3.1 j i (by omega) hi hj;have e1:y.1.getD j default=y.1[j]:=by simp[List.getD,show j<y.1.length by omega]
  have e2:y.1.getD i default=y.1[i]:=by simp[List.getD,hi]
  omega
 have hp1:=yK (i:=i) (a:=y.1) (b:=l.1) (by omega) hlt;have hp2:=vV (i:=i) (a:=y.1) (b:=l.1) (by omega) hlt;have hnl:=JQ hM g3 hl (by rw[hld];exact hvm);have ha':=eJ g3 hla;have hb':=g4.add hlb' g3 hla;obtain⟨l5,_⟩:=hb'.len ha';have hrx:=C9 hM g3 hl;have e7:aq (aq H' nx' [AV.esl,AV.esl]) nx' (bG [AV.esl,AV.esl] 0 [aC l.1,aC l.2]) nx'=some [aC l.1,aC l.2]:=by rw[ag];rfl
 have e8:aq (aq H' nx' [AV.esl,AV.esl]) nx' (bG [AV.esl,AV.esl] 0 [aC l.1,aC l.2]) nx=some [aC y.1,aC y.2]:=by rw[ac (by omega),ac (by omega)];exact g7
 have e9:∀b,b≠nx→b<nx'→aq (aq H' nx' [AV.esl,AV.esl]) nx' (bG [AV.esl,AV.esl] 0 [aC l.1,aC l.2]) b=H' b:=fun b h1 h2=>by rw[ac (by omega),ac (by omega)]
 generalize aq (aq H' nx' [AV.esl,AV.esl]) nx' (bG [AV.esl,AV.esl] 0 [aC l.1,aC l.2])=H2 at *;have hadd:dY y l=(bN y.1 l.1,bN y.2 l.2):=rfl;generalize bN y.1 l.1=s1 at *;generalize bN y.2 l.2=s2 at *;refine wkY (aI @e7 @e8) ?_;refine⟨((s1,s2),i),?_,⟨hp2,by omega,by rw[←hadd];exact ha',by rw[←hadd];exact hb',by rw[←hadd,hrx];exact g5,fun j hj l' hl'=>by dsimp only;rw[hp1 j hj];exact g6 j hj l' hl',by rw[ag];rfl,by rw[ac (by omega),e9 _ (by omega) (by omega)];exact g8,fun b hb=>by rw[ac (by omega),e9 _ (by omega) (by omega)];exact g9 b hb⟩,ag0⟩;rw[hadd] at hnl l5;dsimp only at hnl l5 ⊢;omega
end Go.Proofs.YtekdaafnjdlenaaGreat
namespace Go.Proofs.YtekdaafnjdlenaaGreat
open Go Go.Abs
open Nat (reduceEqDiff reduceAdd reduceLeDiff)
def cLs(l:List Ln):List AV:=l.flatMap fun x=>[aC x.1,aC x.2]
def l7(l:List Ln):AV:=iK 2 eF l
theorem Ft{l:List Ln}{x:Ln}:cLs (l++[x])=cLs l++[aC x.1,aC x.2]:=by unfold cLs;simp
theorem Cj{l:List Ln}:(cLs l).length=l.length*2:=by
 induction l with
 |nil=>rfl
 |cons x l ih=>show([aC x.1,aC x.2]++cLs l).length=_;rw[cS,ih,bO];simp;omega
theorem GW{l:List Ln}:cLs l=(l.map eF).flatMap AV.cells:=by
 induction l with
 |nil=>rfl
 |cons x l ih=>show [aC x.1,aC x.2]++cLs l=_;rw[ih];rfl
theorem Hi{H:Hp}{s:AV}{l:List Ln}(h:Row H 2 s (cLs l)):Snap H s (l7 l):=by
 refine Row.snap (elems:=l.map eF) (by rw[←GW];exact h) (fun y hy=>?_) (by omega) (fun y hy c hx=>?_)
 ·obtain⟨n,_,rfl⟩:=bK.1 hy;rfl
 ·obtain⟨n,_,rfl⟩:=bK.1 hy;simp only[eF,AV.cells,cW,List.not_mem_nil,or_false] at hx;rcases hx with rfl|rfl<;>exact cp _
theorem yw{M:List Ln}(hM:RedU M):(bU M).Nodup:=by
 unfold bU;refine List.pairwise_map.2 (List.Pairwise.imp_of_mem (fun{x y} hx hy hne e=>?_) hM.nodup);have:=dj (hM.ne y hy);rw[←e] at this;exact hne (hM.own x hx y hy this).symm
def vsS(M:List Ln)(y:Ln)(seen:List Nat):List AV:=(List.range M.length).map fun i=>eF (if i∈seen then jo y (M.getD i default) else M.getD i default)
theorem Gy{M:List Ln}{y:Ln}:vsS M y []=M.map eF:=by
 refine List.ext_getElem (by simp[vsS]) fun i h1 h2=>?_;have h2:i<M.length:=by simpa using h2
 simp[vsS,List.getD,h2]
theorem Bh{M:List Ln}{y:Ln}{seen:List Nat}{i:Nat}(hi:i<M.length)(h:i∉seen):(vsS M y seen).getD i .undef=eF (M.getD i default):=by
 simp[vsS,List.getD,hi,h]
theorem Ce{M:List Ln}{y:Ln}{seen:List Nat}{i:Nat}:(vsS M y seen).set i (eF (jo y (M.getD i default)))=vsS M y (seen++[i]):=by
 refine List.ext_getElem (by simp[vsS]) fun j h1 h2=>?_;have h2:j<M.length:=by simpa[vsS] using h2
 rw[List.getElem_set];by_cases e:i=j
 ·subst e;simp[vsS]
 ·have e':¬j=i:=fun h=>e h.symm;simp[vsS,e,e']
theorem ET{M:List Ln}{y:Ln}{seen:List Nat}{i:Nat}(hi:i<M.length)(hs:i∉seen)(h:ld y.1∉(M.getD i default).1):vsS M y (seen++[i])=vsS M y seen:=by
 rw[←Ce,show jo y (M.getD i default)=M.getD i default by unfold jo;rw[if_neg h],←Bh (y:=y) hi hs];refine List.ext_getElem (by simp) fun j h1 h2=>?_;rw[List.getElem_set];split
 ·rename_i e;subst e;simp[List.getD,h2]
 ·rfl
theorem Hb{M:List Ln}{y:Ln}{seen:List Nat}(h:∀i,i<M.length→i∈seen):vsS M y seen=(M.map (jo y)).map eF:=by
 refine List.ext_getElem (by simp[vsS]) fun i h1 h2=>?_;have h2:i<M.length:=by simpa using h2
 simp[vsS,List.getD,h2,h i h2]
theorem AB{R:List (List Int)}{c k:Nat}(hR:∀r∈R,bz r)(hv:∀r∈R,∀z∈r,0≤z∧z<(c:Int))(hk:k≤R.length):∀l∈(stE R k).1,BL c R.length l:=fun l hl=>by
 have hs:=iZ hR hk;refine⟨kV (fun r hr=>hR r (jq hr)) (fun r hr=>hv r (jq hr)) (hs.inS l hl),fun j hj=>?_⟩;have:=(hs.ok l hl).2 j hj;omega
theorem xu{R:List (List Int)}(hR:∀r∈R,bz r){k:Nat}(hk:k≤R.length):(stE R k).1.length≤k∧(stE R k).2.length≤k:=by
 have:=(iZ hR hk).len;omega
attribute [local irreducible] aJ aj bf aX aP aQ aD aS a6 bk Go.Abs.Fn aV Go.Abs.Pure ar aK Yl
theorem EJ(l:List Int)(hl:l.length≤1000000000):PureF Tryz.prog 150 [aC l] (aC l):=by
 refine qO LJ ?_;simp only[L4,aG];refine wnZ and_self ?_;refine wj (k:=l.length) (by((try simp only[bW,ZA,reduceEqDiff,↓reduceIte,reduceAdd,reduceLeDiff]);(try with_reducible rfl));exact AC) (fun h=>?_) (fun h=>?_) (fun h=>?_)
 ((all_goals (try have zz:=and_self));(repeat' (first|refine zW ?_|apply a_n|apply a_r|refine zO ?_|refine vZ ?_|refine b0Z ?_|refine a0Z ?_|refine cTZ ?_|refine cFZ ?_|refine bR rfl ?_|refine r1Z ?_|fail));(all_goals (try clear zz)))
 ·exact vO ag (by omega) rfl
 ·exact CI h
 ·exact vO ag (by omega) rfl
end Go.Proofs.YtekdaafnjdlenaaGreat
namespace Go.Proofs.YtekdaafnjdlenaaGreat
open Go Go.Abs
theorem Hd{l:List Int}(h:l≠[]):ey 1 (aC l) (.int .i64 0)=some (.iptr [.int .i64 (ld l)] 0):=by
 have:=ixV (l:=l) (k:=0) (jN.2 h);exact this
theorem y9{M:List Ln}{y:Ln}(hM:RedU M)(hy:cm y)(h0:y.1≠[])(hn:∀l∈M,ld l.1∉y.1):bU (M.map (jo y))=bU M:=by
 unfold bU;rw[List.map_map];exact uv fun l hl=>(tN hM hy h0 hn hl).2.2.2
theorem Fr{M:List Ln}(hM:RedU M){l:Ln}{v:Int}(hl:l∈M)(e:ld l.1=v):(M.find? fun l=>decide (ld l.1=v))=some l:=by
 cases h:M.find? fun l=>decide (ld l.1=v) with
 |none=>
  have:=List.find?_eq_none.1 h l hl;exact absurd (aR e) this
 |some m=>
  have h1:=pW (List.find?_some (p:=fun l:Ln=>decide (ld l.1=v)) h);have h2:=List.mem_of_find?_eq_some h;have:=dj (hM.ne m h2);rw[h1,←e] at this;rw[hM.own l hl m h2 this]
theorem AF{M:List Ln}{v:Int}(h:v∉bU M):(M.find? fun l=>decide (ld l.1=v))=none:=
 List.find?_eq_none.2 fun l hl hd=>h (mO.2 ⟨l,hl,pW hd⟩)
theorem zV{M:List Ln}{c:Nat}:(lM M c).length≤c:=by
 induction c with
 |zero=>simp[lM]
 |succ c ih=>
  rw[pS,cS];have:(M.find? fun l=>decide (ld l.1=(c:Int))).toList.length≤1:=by cases M.find? fun l=>decide (ld l.1=(c:Int))<;>simp
  omega
theorem m8{H:Hp}{s:AV}{l:List (List Int)}(h:Row H 1 s (l.map aC)):Snap H s (bu l):=by
 rw[G9];exact h.snapL' (fun _=>rfl) (fun x _=>cp x)
theorem cE{c:Int}{R:List (List Int)}:dl c R=.agg [.int .i64 c,bu R]:=rfl
attribute [local irreducible] aJ aj bf aX aP aQ aD aS a6 bk Go.Abs.Fn aV Go.Abs.Pure ar aK Yl
set_option maxHeartbeats 2000000 in
theorem vC(c:Nat)(R:List (List Int))(hc:c≤4096)(hl:R.length≤4096)(hR:∀r∈R,bz r)(hv:∀r∈R,∀z∈r,0≤z∧z<(c:Int)):pU 115 [dl c R] (.tup [l7 (lL R c),bu (stE R R.length).2]):=by
 refine pO Lj ?_;simp only[LF,aG];rw[cE];refine dD ?_
 repeat' (first|apply a_n|refine zO ?_|refine vY ?_|refine bxY ?_|fail)
 refine dD ?_;refine wnY and_self ?_;refine uQ ?_;refine rF (cs:=[.nilm]) rfl rfl rfl ?_
 repeat' (first|apply a_n|refine zO ?_|refine stY ?_|fail)
 refine dD ?_
 repeat' (first|apply a_n|refine zO ?_|refine vY ?_|fail)
 refine dD ?_
 repeat' (first|apply a_n|refine zO ?_|refine vY ?_|fail)
 refine cl (fun T H nx=>T 1=.ptr 0 2 0∧T 4=.ptr 2 1 0∧3≤nx∧H 0=some [.int .i64 c,bu R]∧H 2=some [.mp 1]∧LM H 1 (stE R R.length).1∧∃dv,T 6=dv∧Row H 1 dv ((stE R R.length).2.map aC)∧∀b,bF dv=some b→2<b∧b<nx) ?_ ?_
 ·refine wnY @cz ?_;refine lpI (X:=AV×Nat) (fun x=>[(1,.ptr 0 2 0),(4,.ptr 2 1 0),(5,.func 149 [.ptr 2 1 0]),(6,x.1),(19,bu R),(20,.int .i64 R.length),(21,.int .i64 x.2)]) (fun x H nx=>x.2≤R.length∧3≤nx∧H 0=some [.int .i64 c,bu R]∧H 2=some [.mp 1]∧LM H 1 (stE R x.2).1∧Row H 1 x.1 ((stE R x.2).2.map aC)∧∀b,bF x.1=some b→2<b∧b<nx) (fun x=>R.length-x.2) (.esl,0) ⟨bB _,aO _,rfl,rfl,rfl,Row.nil,fun b h=>(by cases h)⟩ ?_;rintro⟨dv,k⟩ H nx ⟨h1,h2,h3,h4,h5,h6,h7⟩;dsimp only at h1 h2 h3 h4 h5 h6 h7 ⊢;by_cases hk:k<R.length
  rotate_left
  ·obtain rfl:k=R.length:=by omega
   refine wnY and_self ?_;exact⟨rfl,rfl,h2,h3,h4,h5,dv,rfl,h6,h7⟩
  have ix:=A3 hk;have hrow:=hR _ (az hk);have hrv:=hv _ (az hk);have hst:=iZ hR (i:=k) (by omega);have hbl:=AB hR hv (k:=k) (by omega);have hsl:=xu hR (k:=k) (by omega);have hss:stE R (k+1)=if (eW (stE R k).1 (R.getD k default,[(k:Int)])).1=[] then((stE R k).1,(stE R k).2++[(eW (stE R k).1 (R.getD k default,[(k:Int)])).2]) else(lz (stE R k).1 (eW (stE R k).1 (R.getD k default,[(k:Int)])),(stE R k).2):=rfl
  generalize R.getD k default=r at *;generalize stE R k=MD at *;obtain⟨M,D⟩:=MD;dsimp only at *;have hrl:=fw hrow hrv;have hcl:=EJ r (by omega);refine wnY @ix ?_;refine fI ev0 ev0 hcl (ah (cp _ _) ak) ?_;refine wnY @ix ?_;have hM:=hst.red;have hax:cm (r,[(k:Int)]):=⟨hrow,List.pairwise_singleton _ _⟩
  have hbx:BL c R.length (r,[(k:Int)]):=⟨hrv,fun j hj=>by rw[de.1 hj];omega⟩
  refine be ev0 ev0 (FG M c R.length hc hl hM hbl (r,[(k:Int)]) hax hbx (Fz.one ag) (kr (ah (cp _ _) (ah (d8 (n:=1) (len:=1) (l:=[(k:Int)]) iL rfl rfl) ak))) (m:=1) (lb:=2) (by omega) (by omega) (by omega) (by rw[cf (by omega),ac (by omega)];exact h4) (by unfold LM;rw[cf (by omega),ac (by omega)];exact h5)) ?_;rintro _ H1 nx1 ⟨rfl,g1,g2⟩;have hay:cm (eW M (r,[(k:Int)])):=iH (fun l hl=>hM.asc l hl) hax;have hby:BL c R.length (eW M (r,[(k:Int)])):=AM (fun l hl=>⟨hM.asc l hl,hbl l hl⟩) hax hbx;have hno:∀l∈M,ld l.1∉(eW M (r,[(k:Int)])).1:=fun l hl=>mR hM hax hl;generalize eW M (r,[(k:Int)])=y at *;have lo:∀b,b<nx→H1 b=H b:=fun b hb=>(g1 b (by omega)).trans (by rw[cf (by omega),ac (by omega)]);have e1:eF y=.agg [aC y.1,aC y.2]:=rfl;rw[e1];by_cases h0:y.1=[]
  ·rw[if_pos h0] at hss;have z:decide ((y.1.length:Int)=0)=true:=by rw[h0];rfl
   refine wnY (aI @ct @z) ?_;refine eR (h6.same fun b hb=>?_) ?_
   ·have:=h7 b hb;rw[ac (by omega),ac (by omega),ac (by omega)];exact lo b (by omega)
   rintro s2 H2 nx2 hr2 i1 i2 i3 i4;have lo2:∀b,b<nx→bF dv≠some b→H2 b=H b:=fun b hb hn=>(i3 b (by omega) hn).trans (by rw[ac (by omega),ac (by omega),ac (by omega)];exact lo b hb);have hd:∀b,b≤2→bF dv≠some b:=fun b hb e=>by have:=h7 b e;omega
   refine wnY and_self ?_;refine⟨(s2,k+1),by dsimp only;omega,⟨by dsimp only;omega,by omega,(lo2 0 (by omega) (hd 0 (by omega))).trans h3,(lo2 2 (by omega) (hd 2 (by omega))).trans h4,?_,?_,fun b hb=>?_⟩,ag0⟩
   ·dsimp only;rw[hss];exact(lo2 1 (by omega) (hd 1 (by omega))).trans h5
   ·dsimp only;rw[hss,cu];exact hr2
   ·rcases i4 b hb with h|h
    ·have:=h7 b h;omega
    ·omega
  rw[if_neg h0] at hss;have z:decide ((y.1.length:Int)=0)=false:=aU (by have:=jN.2 h0;omega);refine wnY (aI @ct @z) ?_;have hd:∀b,b≤2→bF dv≠some b:=fun b hb e=>by have:=h7 b e;omega
  have q0:aq (aq H1 nx1 [AV.esl,AV.esl]) nx1 (bG [AV.esl,AV.esl] 0 [aC y.1,aC y.2]) 0=some [.int .i64 c,bu R]:=by rw[ac (by omega),ac (by omega)];exact(lo 0 (by omega)).trans h3
  have q2:aq (aq H1 nx1 [AV.esl,AV.esl]) nx1 (bG [AV.esl,AV.esl] 0 [aC y.1,aC y.2]) 2=some [.mp 1]:=by rw[ac (by omega),ac (by omega)];exact(lo 2 (by omega)).trans h4
  have q1:LM (aq (aq H1 nx1 [AV.esl,AV.esl]) nx1 (bG [AV.esl,AV.esl] 0 [aC y.1,aC y.2])) 1 M:=by unfold LM;rw[ac (by omega),ac (by omega)];exact(lo 1 (by omega)).trans h5
  have qy:aq (aq H1 nx1 [AV.esl,AV.esl]) nx1 (bG [AV.esl,AV.esl] 0 [aC y.1,aC y.2]) nx1=some [aC y.1,aC y.2]:=by rw[ag];rfl
  have qd:Row (aq (aq H1 nx1 [AV.esl,AV.esl]) nx1 (bG [AV.esl,AV.esl] 0 [aC y.1,aC y.2])) 1 dv (D.map aC):=h6.same fun b hb=>by
   have:=h7 b hb;rw[ac (by omega),ac (by omega)];exact lo b (by omega)
  generalize aq (aq H1 nx1 [AV.esl,AV.esl]) nx1 (bG [AV.esl,AV.esl] 0 [aC y.1,aC y.2])=H2 at *;clear lo g1;refine wnY @q2 ?_;refine I5 ev0 q1 ?_;refine wnY and_self ?_;have hkl:(bU M).length=M.length:=by unfold bU;rw[bt]
  have hkn:=yw hM;have ix0:=Hd h0;obtain⟨yl1,yl2⟩:=hby.len hay;refine lpI (X:=List Nat) (fun x=>[(1,.ptr 0 2 0),(4,.ptr 2 1 0),(5,.func 149 [.ptr 2 1 0]),(6,dv),(9,.ptr nx1 2 0),(19,bu R),(20,.int .i64 R.length),(21,.int .i64 k),(43,.itr (nx1+1))]) (fun seen H nx'=>H (nx1+1)=some [.oiter 1 ((bU M).map (AV.int .i64)).length seen]∧nx1+2≤nx'∧seen.Nodup∧(∀i∈seen,i<M.length)∧H 0=some [.int .i64 c,bu R]∧H 2=some [.mp 1]∧H nx1=some [aC y.1,aC y.2]∧H 1=some [.omap ((bU M).map (AV.int .i64)) (vsS M y seen)]∧Row H 1 dv (D.map aC)) (fun seen=>M.length-seen.length) [] ⟨ag,aO _,List.nodup_nil,fun i h=>(by cases h),(ac (by omega)).trans q0,(ac (by omega)).trans q2,(ac (by omega)).trans qy,by rw[Gy];exact(ac (by omega)).trans q1,qd.same fun b hb=>by have:=h7 b hb;rw[ac (by omega)]⟩ ?_;clear q0 q2 q1 qy qd;rintro seen H3 nx3 ⟨r1,r2,r3,r4,q0,q2,qy,q1,qd⟩
  have hsl:seen.length≤M.length:=by
   have:=yM r3 (l₂:=List.range M.length) fun i hi=>dT.2 (r4 i hi);simpa using this
  refine wnY and_self ?_;refine JE ev0 r1 q1 rfl (fun i hi hns=>?_) (fun hall=>?_)
  ·have hi:i<M.length:=by rw[bt,hkl] at hi;exact hi
   have ek:((bU M).map (AV.int .i64)).getD i .undef=.int .i64 (ld (M.getD i default).1):=by
    unfold bU;simp[List.getD,hi]
   have evv:(vsS M y seen).getD i .undef=.agg [aC (M.getD i default).1,aC (M.getD i default).2]:=Bh hi hns
   have hidx:(bU M).idxOf (ld (M.getD i default).1)=i:=by
    have h5:i<(bU M).length:=by rw[hkl];exact hi
    have h6:(bU M)[i]=ld (M.getD i default).1:=by
     have:(bU M)[i]=ld M[i].1:=List.getElem_map ..;rw[this];simp[List.getD,hi]
    have h7:=pC.2 (show ld (M.getD i default).1∈bU M by rw[←h6];exact nk h5);have h8:(bU M)[(bU M).idxOf (ld (M.getD i default).1)]=(bU M)[i]:=by rw[List.getElem_idxOf h7,h6]
    exact(List.getElem_inj hkn).1 h8
   have hkm:ld (M.getD i default).1∈bU M:=mO.2 ⟨_,az hi,rfl⟩;have hla:=hM.asc _ (az hi);have hlb:=hbl _ (az hi);obtain⟨ll1,ll2⟩:=hlb.len hla;have hset:=Ce (M:=M) (y:=y) (seen:=seen) (i:=i);have hsame:=ET (M:=M) (y:=y) (seen:=seen) (i:=i) hi hns;have r3':(seen++[i]).Nodup:=yu.2 ⟨r3,by simp,fun x hx z hz e=>by rw[e,de.1 hz] at hx;exact hns hx⟩
   have r4':∀x∈seen++[i],x<M.length:=fun x hx=>by
    rcases eD.1 hx with q|q
    ·exact r4 x q
    ·rw[de.1 q];exact hi
   have hsl2:(seen++[i]).length≤M.length:=by
    have:=yM r3' (l₂:=List.range M.length) fun i hi=>dT.2 (r4' i hi);simpa using this
   rw[cS,List.length_singleton] at hsl2;generalize M.getD i default=l at *;have hhas:=Gc l.1 (ld y.1) (by omega) hla.1;refine wnY (aI @ek @evv) ?_;refine I3 (i:=i) ev0 ag (by rw[ac (by omega)];exact q1) rfl (by simp) (by rw[bt,hkl];exact hi) ?_;refine wnY (aI @ek @evv) ?_;have w0:aq (aq (aq H3 (nx1+1) [AV.oiter 1 ((bU M).map (AV.int .i64)).length (seen++[i])]) nx3 [AV.esl,AV.esl]) nx3 (bG [AV.esl,AV.esl] 0 [aC l.1,aC l.2]) 0=some [.int .i64 c,bu R]:=by rw[ac (by omega),ac (by omega),ac (by omega)];exact q0
   have w2:aq (aq (aq H3 (nx1+1) [AV.oiter 1 ((bU M).map (AV.int .i64)).length (seen++[i])]) nx3 [AV.esl,AV.esl]) nx3 (bG [AV.esl,AV.esl] 0 [aC l.1,aC l.2]) 2=some [.mp 1]:=by rw[ac (by omega),ac (by omega),ac (by omega)];exact q2
   have w1:aq (aq (aq H3 (nx1+1) [AV.oiter 1 ((bU M).map (AV.int .i64)).length (seen++[i])]) nx3 [AV.esl,AV.esl]) nx3 (bG [AV.esl,AV.esl] 0 [aC l.1,aC l.2]) 1=some [.omap ((bU M).map (AV.int .i64)) (vsS M y seen)]:=by rw[ac (by omega),ac (by omega),ac (by omega)];exact q1
   have wy:aq (aq (aq H3 (nx1+1) [AV.oiter 1 ((bU M).map (AV.int .i64)).length (seen++[i])]) nx3 [AV.esl,AV.esl]) nx3 (bG [AV.esl,AV.esl] 0 [aC l.1,aC l.2]) nx1=some [aC y.1,aC y.2]:=by rw[ac (by omega),ac (by omega),ac (by omega)];exact qy
   have wl:aq (aq (aq H3 (nx1+1) [AV.oiter 1 ((bU M).map (AV.int .i64)).length (seen++[i])]) nx3 [AV.esl,AV.esl]) nx3 (bG [AV.esl,AV.esl] 0 [aC l.1,aC l.2]) nx3=some [aC l.1,aC l.2]:=by rw[ag];rfl
   have wi:aq (aq (aq H3 (nx1+1) [AV.oiter 1 ((bU M).map (AV.int .i64)).length (seen++[i])]) nx3 [AV.esl,AV.esl]) nx3 (bG [AV.esl,AV.esl] 0 [aC l.1,aC l.2]) (nx1+1)=some [.oiter 1 ((bU M).map (AV.int .i64)).length (seen++[i])]:=by rw[ac (by omega),ac (by omega),ag]
   have wd:Row (aq (aq (aq H3 (nx1+1) [AV.oiter 1 ((bU M).map (AV.int .i64)).length (seen++[i])]) nx3 [AV.esl,AV.esl]) nx3 (bG [AV.esl,AV.esl] 0 [aC l.1,aC l.2])) 1 dv (D.map aC):=qd.same fun b hb=>by
    have:=h7 b hb;rw[ac (by omega),ac (by omega),ac (by omega)]
   generalize aq (aq (aq H3 (nx1+1) [AV.oiter 1 ((bU M).map (AV.int .i64)).length (seen++[i])]) nx3 [AV.esl,AV.esl]) nx3 (bG [AV.esl,AV.esl] 0 [aC l.1,aC l.2])=H4 at *;clear q0 q2 q1 qy qd;by_cases hin:ld y.1∈l.1
   ·rw[aR hin] at hhas;have hs1:=vE l.1 y.1 (by omega) (by omega);have hs2:=vE l.2 y.2 (by omega) (by omega);have hcl:eF (jo y l)=.agg [aC (bN l.1 y.1),aC (bN l.2 y.2)]:=by unfold jo;rw[if_pos hin];rfl
    rw[hcl] at hset;clear hcl;generalize bN l.1 y.1=s1 at *;generalize bN l.2 y.2=s2 at *;refine wkY (zI3 @wy @wl @ix0) ?_;refine A1 2 nx3 nx1 w2 wl wy (by omega) (by omega) (by omega) fun S hS1 hS2 hS3 hsub=>?_;refine wnY (zI3 @hS1 @hS2 @hS3) ?_;simp only[fB,List.map_nil,List.getD_cons_succ,List.getD_cons_zero];refine dS ?_;refine wnY and_self ?_;refine⟨hsub _ w2 wl wy,?_⟩;refine dS ?_;refine wnY and_self ?_;refine⟨hsub _ w2 wl wy,?_⟩;refine wnY and_self ?_;have hmf:=ib (ld l.1) (bU M);rw[if_pos hkm,hidx] at hmf;refine pz ev0 w1 ev0 ev0 rfl hmf ?_;refine wnY and_self ?_;refine⟨seen++[i],by rw[cS,List.length_singleton];omega,⟨(ac (by omega)).trans wi,by omega,r3',r4',(ac (by omega)).trans w0,(ac (by omega)).trans w2,(ac (by omega)).trans wy,?_,wd.same fun b hb=>by have:=h7 b hb;rw[ac (by omega)]⟩,ag0⟩;rw[ag,←hset];rfl
   ·rw[aU hin] at hhas;refine wkY (zI3 @wy @wl @ix0) ?_;exact⟨seen++[i],by rw[cS,List.length_singleton];omega,⟨wi,by omega,r3',r4',w0,w2,wy,by rw[hsame hin];exact w1,wd⟩,ag0⟩
  ·have hall:∀i,i<M.length→i∈seen:=fun i hi=>hall i (by rw[bt,hkl];exact hi) (by rw[bt,hkl];exact hi);rw[Hb hall,←y9 hM hay h0 hno] at q1
   have hkk:ld y.1∉bU (M.map (jo y)):=by
    rw[y9 hM hay h0 hno,mO];rintro⟨l,hl,e⟩;exact hno l hl (by rw[e];exact dj h0)
   refine wnY (zI3 @q2 @qy @ix0) ?_;refine pE 2 nx1 q2 qy (by omega) fun S hS1 hS2 hsub=>?_;have zz:=aI @hS1 (aI @hS2 @ix0);repeat' (first|apply a_n|refine zO ?_|refine nvY ?_|apply iV|fail)
   simp only[fB,List.map_nil,List.getD_cons_succ,List.getD_cons_zero]
   skip
   have hmf:=ib (ld y.1) (bU (M.map (jo y)));rw[if_neg hkk] at hmf;refine pz ev0 q1 ev0 ev0 rfl hmf ?_;refine wnY and_self ?_;refine⟨(dv,k+1),by dsimp only;omega,⟨by dsimp only;omega,by omega,(ac (by omega)).trans q0,(ac (by omega)).trans q2,?_,?_,fun b hb=>by have:=h7 b hb;omega⟩,ag0⟩
   ·dsimp only;rw[hss];unfold LM;rw[ag];unfold lz bU;simp[cL,fZ,eF]
   ·dsimp only;rw[hss];exact qd.same fun b hb=>by have:=h7 b hb;rw[ac (by omega)]
 rintro T H nx ⟨t1,t4,h2,h3,h4,h5,dv,t6,h6,h7⟩;have hst:=iZ hR (aO R.length);have hbl:=AB hR hv (aO R.length);have hsl:=xu hR (aO R.length);unfold lL;generalize stE R R.length=MD at *;obtain⟨M,D⟩:=MD;dsimp only at *;have hM:=hst.red;refine wnY (zI5 @t1 @t4 @t6 @h3 @h4) ?_;refine bT (X:=AV×Nat) (fun x=>[(4,.ptr 2 1 0),(6,dv),(12,x.1),(77,.int .i64 c),(78,.int .i64 x.2)]) (fun x H' nx'=>x.2≤c∧nx≤nx'∧H' 2=some [.mp 1]∧LM H' 1 M∧Row H' 1 dv (D.map aC)∧Row H' 2 x.1 (cLs (lM M x.2))∧∀b,bF x.1=some b→nx≤b∧b<nx') (fun x=>c-x.2) (.esl,0) ⟨bB _,aO _,h4,h5,h6,Row.nil,fun b h=>(by cases h)⟩ (have zz:=aI @t4 @t6;agZ) ?_;clear h3 h4 h5 h6;rintro⟨ov,k⟩ H' nx' ⟨g1,g2,g3,g4,g5,g6,g7⟩;dsimp only at g1 g2 g3 g4 g5 g6 g7 ⊢;by_cases hk:k<c
 rotate_left
 ·obtain rfl:k=c:=by omega
  refine wnY and_self ?_;exact br (ah (Hi g6) (ah (m8 g5) ak))
 have hos:=pS (M:=M) (c:=k);have hol:=zV (M:=M) (c:=k);have hmf:=ib (k:Int) (bU M);refine wnY @g3 ?_;by_cases hm:(k:Int)∈bU M
 rotate_left
 ·rw[if_neg hm] at hmf;refine ja ev0 g4 ev0 rfl hmf ?_;have hmg:Go.Abs.mget (.agg [.esl,.esl]) true none (M.map eF)=.tup [.agg [.esl,.esl],.bool false]:=rfl;rw[hmg];refine wnY and_self ?_;rw[AF hm] at hos;have hos:lM M (k+1)=lM M k:=by rw[hos];simp
  refine⟨(ov,k+1),by dsimp only;omega,⟨by dsimp only;omega,by omega,by rw[ac (by omega),ac (by omega)];exact g3,?_,g5.same fun b hb=>by have:=h7 b hb;rw[ac (by omega),ac (by omega)],?_,fun b hb=>by have:=g7 b hb;omega⟩,ag0⟩
  ·unfold LM;rw[ac (by omega),ac (by omega)];exact g4
  ·dsimp only;rw[hos];exact g6.same fun b hb=>by have:=g7 b hb;rw[ac (by omega),ac (by omega)]
 obtain⟨l,hl,hld,hgd⟩:=vq hm;rw[if_pos hm] at hmf;refine ja ev0 g4 ev0 rfl hmf ?_
 have hmg:Go.Abs.mget (.agg [.esl,.esl]) true (some ((bU M).idxOf (k:Int))) (M.map eF)=.tup [.agg [aC l.1,aC l.2],.bool true]:=by
  show AV.tup [(M.map eF).getD ((bU M).idxOf (k:Int)) .undef,.bool true]=_;rw[hgd];rfl
 rw[hmg];rw[Fr hM hl hld] at hos;have hos:lM M (k+1)=lM M k++[l]:=hos;refine wnY and_self ?_;refine iW rfl ev0 (g6.same fun b hb=>?_) ev0 ql rfl rfl (by omega) (by rw[Cj];omega) (by rw[Cj];omega) ?_
 ·have:=g7 b hb;rw[ac (by omega),ac (by omega),ac (by omega)]
 rintro s2 H2 nx2 hr2 i1 i2 i3 i4;have hdo:∀b,b<nx→bF ov≠some b:=fun b hb e=>by have:=g7 b e;omega
 have lo2:∀b,b<nx→H2 b=H' b:=fun b hb=>(i3 b (by omega) (hdo b hb)).trans (by rw[ac (by omega),ac (by omega),ac (by omega)]);refine wnY and_self ?_;refine⟨(s2,k+1),by dsimp only;omega,⟨by dsimp only;omega,by omega,(lo2 2 (by omega)).trans g3,(lo2 1 (by omega)).trans g4,g5.same fun b hb=>by have:=h7 b hb;rw[lo2 b (by omega)],?_,fun b hb=>?_⟩,ag0⟩
 ·dsimp only;rw[hos,Ft];exact hr2
 ·rcases i4 b hb with h|h
  ·have:=g7 b h;omega
  ·omega
end Go.Proofs.YtekdaafnjdlenaaGreat
namespace Go.Proofs.YtekdaafnjdlenaaGreat
open Go Go.Abs
theorem C0{r:List Int}(h:∀i,i+1<r.length→r.getD i default<r.getD (i+1) default):bz r:=by
 have hchain:∀b a,a<b→b<r.length→r.getD a default<r.getD b default:=fun b=>by
  induction b with
  |zero=>intro a ha;omega
  |succ b ih=>
   intro a ha hb;have q:=h b hb;rcases(by omega:a<b∨a=b) with h|rfl
   ·have:=ih a h (by omega);omega
   ·exact q
 refine kJ.2 fun i j hi hj hij=>?_;have:=hchain j i hij hj;simpa[List.getD,hi,hj] using this
theorem fk{c:Int}{R:List (List Int)}(h:gr c R):∀r∈R,bz r:=fun r hr=>C0 (h.2.2.2 r hr).2.2
theorem Lr{l:List Ln}{k:Nat}(h:k<l.length):ey 2 (l7 l) (.int .i64 (k:Int))=some (.iptr [aC (l.getD k default).1,aC (l.getD k default).2] 0):=by
 unfold l7;rw[mH,if_pos ⟨by omega,by omega⟩,cr];rfl
theorem tM{l:List Ln}:dw (l7 l)=some (.int .i64 l.length):=kT
theorem ku{R:List (List Int)}{c:Nat}:(lL R c).length≤c:=zV
theorem r_4{T:Tm}{H:Hp}{K:AV→Prop}{a b c d:RV}{x y z u:AV}(ha:rv T H a=some x)(hb:rv T H b=some y)(hc:rv T H c=some z)(hd:rv T H d=some u)(h:K (.tup [x,y,z,u])):bk T H K [a,b,c,d]:=by
 show xm T H [a,b,c,d] fun xs=>K (.tup xs);simp only[xm,ha,hb,hc,hd];exact h
attribute [local irreducible] aJ aj bf aX aP aQ aD aS a6 bk Go.Abs.Fn aV Go.Abs.Pure ar aK Yl
theorem nV(c:Nat)(R:List (List Int))(hm:gr c R):pU 134 [dl c R] (.tup [dl c (d6 R c),.int .i64 0]):=by
 refine pO Mp ?_;simp only[Lf,aG];have h1:=ll c R hm;have z0:decide ((0:Int)≠0)=false:=rfl;have hd:Dat (.agg [.int .i64 c,bu R]):=cT c R;have hec:=vC c R (by have:=hm.2.1;omega) hm.2.2.1 (fk hm) (fun r hr z hz=>(hm.2.2.2 r hr).1 z hz);have hll:=ku (R:=R) (c:=c);have hmc:=hm.2.1;rw[cE] at hec ⊢;unfold d6;generalize lL R c=L at *;refine wnY (aI @z0 @tM) ?_;refine lpI (X:=AV×Nat) (fun x=>[(2,.ptr 1 2 0),(5,.ptr 2 2 0),(24,l7 L),(25,.int .i64 L.length),(26,.int .i64 x.2)]) (fun x H nx=>x.2≤L.length∧3≤nx∧H 1=some [.int .i64 0,.esl]∧H 2=some [.int .i64 c,x.1]∧Row H 1 x.1 (((L.take x.2).map Prod.fst).map aC)∧∀b,bF x.1=some b→2<b∧b<nx) (fun x=>L.length-x.2) (.esl,0) ⟨bB _,aO _,rfl,rfl,Row.nil,fun b h=>(by cases h)⟩ ?_;rintro⟨sv,k⟩ H nx ⟨g1,g2,g3,g4,g5,g6⟩;dsimp only at g1 g2 g3 g4 g5 g6 ⊢;by_cases hk:k<L.length
 rotate_left
 ·rw[fM (by omega)] at g5;obtain⟨o1,o2⟩:=g5.one;refine wnY (zI4 @g3 @g4 @o1 @o2) ?_;refine jF (m8 (g5.same fun b hb=>?_)) rfl;have:=g6 b hb;rw[ac (by omega)]
 have ix:=Lr hk;have hts:=b5 hk;have hlt:(L.take k).length≤k:=by rw[f0];omega
 generalize L.getD k default=l at *;refine wnY (aI @ix @g4) ?_;refine iW rfl ev0 (g5.same fun b hb=>?_) ev0 fv rfl rfl lC (by rw[bt,bt];omega) (by rw[bt,bt];omega) ?_
 ·have:=g6 b hb;rw[ac (by omega),ac (by omega),ac (by omega)]
 rintro s2 H2 nx2 hr2 i1 i2 i3 i4;have hdo:∀b,b≤2→bF sv≠some b:=fun b hb e=>by have:=g6 b e;omega
 have lo2:∀b,b≤2→H2 b=H b:=fun b hb=>(i3 b (by omega) (hdo b hb)).trans (by rw[ac (by omega),ac (by omega),ac (by omega)])
 have hn2:∀b,bF s2=some b→2<b∧b<nx2:=fun b hb=>by
  rcases i4 b hb with h|h
  ·have:=g6 b h;omega
  ·omega
 have k4:=(lo2 2 (by omega)).trans g4;obtain⟨o1,o2⟩:=hr2.one;refine wnY (zI3 @k4 @o1 @o2) ?_;refine⟨(s2,k+1),by dsimp only;omega,⟨by dsimp only;omega,by omega,by rw[ac (by omega)];exact(lo2 1 (by omega)).trans g3,by rw[ag];rfl,?_,hn2⟩,ag0⟩;dsimp only;rw[hts,cu,cu];exact hr2.same fun b hb=>by have:=hn2 b hb;rw[ac (by omega)]
theorem AW(c:Nat)(R:List (List Int))(hm:gr c R):pU 97 [dl c R] (.tup [.int .i64 (d6 R c).length,.int .i64 0]):=by
 refine pO Nr ?_;simp only[b97,aG];have he:=nV c R hm;have hd:Dat (.agg [.int .i64 c,bu R]):=cT c R;rw[cE,cE] at he;rw[cE];generalize d6 R c=E at *;refine wnY @cz ?_;exact br (ah (.int _ _) (ah (.int _ _) ak))
def HI(D:List (List Int))(b:List Int):Option (List Int):=D.find? fun y=>jI y b
def lU(L:List Ln)(b:List Int):List Int:=(L.filter fun l=>jI l.2 b).map fun l=>ld l.1
def uz(R:List (List Int))(c:Nat)(b:List Int):List Int×List Int×Bool:=match HI (stE R R.length).2 b with
 |some y=>([],y,false)
 |none=>(lU (lL R c) b,[],true)
theorem Di{L:List Ln}{x:Ln}{b:List Int}:lU (L++[x]) b=lU L b++if jI x.2 b=true then [ld x.1] else []:=by
 unfold lU;rw[wg,cu]
 congr 1
 by_cases h:jI x.2 b=true
 ·rw[if_pos h,A4 (by simpa using h)];rfl
 ·rw[if_neg h,AY (by simpa using h)];rfl
theorem CX{D:List (List Int)}{p:List Int→Bool}{k:Nat}(h:∀i,i<k→p (D.getD i default)=false)(hk:k<D.length)(hp:p (D.getD k default)=true):D.find? p=some (D.getD k default):=by
 induction D generalizing k with
 |nil=>simp at hk
 |cons y D ih=>
  match k with
  | 0 => have hp : p y = true := hp
         show List.find? p (y::D)=some y;rw[List.find?_cons_of_pos hp]
  |k+1=>
   have h0:¬p y=true:=by have:=h 0 (by omega);rw[show(y::D).getD 0 default=y from rfl] at this;rw[this];decide
   rw[List.find?_cons_of_neg h0];exact ih (k:=k) (fun i hi=>h (i+1) (by omega)) (by simpa using hk) hp
theorem GU(c:Nat)(R:List (List Int))(b:List Int)(hm:gr c R)(hbr:∀v∈b,0≤v∧v<(R.length:Int))(hba:bz b):pU 59 [dl c R,aC b] (.tup [aC (uz R c b).1,aC (uz R c b).2.1,.bool (uz R c b).2.2,.int .i64 0]):=by
 refine pO N0 ?_;simp only[b59,aG];have hmR:=fk hm;have hmv:∀r∈R,∀z∈r,0≤z∧z<(c:Int):=fun r hr z hz=>(hm.2.2.2 r hr).1 z hz;have hbl:=fw hba hbr;have h1:=ll c R hm
 have h2:=px b (R.length:Int) (by have:=hm.2.2.1; omega) hbr (fun i hi=>by
  have:=kJ.1 hba i (i+1) (by omega) hi (by omega);simpa[List.getD,show i<b.length by omega,hi] using this)
 have z0:decide ((0:Int)≠0)=false:=rfl;have hd:Dat (.agg [.int .i64 c,bu R]):=cT c R;have hec:=vC c R (by have:=hm.2.1;omega) hm.2.2.1 hmR hmv;have hll:=ku (R:=R) (c:=c);have hmc:=hm.2.1;have hrl:=hm.2.2.1;have hsl:=xu hmR (aO R.length);have hok:=iZ hmR (aO R.length)
 have hel:∀l∈lL R c,l.1≠[]∧l.2.length≤4096:=fun l hl=>by
  have hl':=((lf hmR hmv).2.2 l).1 hl;refine⟨hok.red.ne l hl',?_⟩;have:=((AB hmR hmv (aO R.length)) l hl').len (hok.red.asc l hl');omega
 have hdl:∀y∈(stE R R.length).2,y.length≤4096:=fun y hy=>by
  have h3:=hok.dep y hy;have h4:y.length≤R.length:=fw h3.1.2 h3.2.2;omega
 rw[cE] at hec ⊢;unfold uz;generalize lL R c=L at *;generalize (stE R R.length).2=D at *;refine dD ?_
 repeat' (first|apply a_n|refine zO ?_|refine vY ?_|refine bxY ?_|fail)
 refine dD ?_;refine wnY (zI3 @z0 @tM @cz) ?_;refine lpI (X:=Nat) (fun k=>[(1,aC b),(10,l7 L),(35,bu D),(36,.int .i64 D.length),(37,.int .i64 k)]) (fun k H nx=>k≤D.length∧∀i,i<k→jI (D.getD i default) b=false) (fun k=>D.length-k) 0 ⟨bB _,fun i h=>absurd h (by omega)⟩ ?_;rintro k H nx ⟨g1,g2⟩;by_cases hk:k<D.length
 ·have ix:=A3 hk;have hyl:=hdl _ (az hk);have hod:=Ez (D.getD k default) b (by omega) (by omega);by_cases ho:jI (D.getD k default) b=true
  ·have hsy:HI D b=some (D.getD k default):=CX (p:=fun y=>jI y b) g2 hk ho;rw[hsy];rw[ho] at hod;generalize D.getD k default=y at *;refine wnY @ix ?_;refine r_4 rfl rfl rfl rfl ?_;exact br (ah (.eslsl 1) (ah (cp y).snap (ah (.bool _) (ah (.int _ _) ak))))
  ·have ho:jI (D.getD k default) b=false:=by simpa using ho
   have hg2:∀i,i<k+1→jI (D.getD i default) b=false:=fun i hi=>by
    rcases(by omega:i<k∨i=k) with h|rfl
    ·exact g2 i h
    ·exact ho
   rw[ho] at hod;generalize D.getD k default=y at *;refine wnY @ix ?_;exact⟨k+1,by omega,⟨by omega,hg2⟩,ag0⟩
 have hsy:HI D b=none:=by
  refine List.find?_eq_none.2 fun y hy=>?_;obtain⟨i,hi,e⟩:=jp hy;have:=g2 i (by omega);rw[show D.getD i default=y by simp[List.getD,hi,e]] at this;rw[this];decide
 rw[hsy];clear hsy g2;refine wnY @tM ?_;refine lpI (X:=AV×Nat) (fun x=>[(1,aC b),(14,x.1),(46,l7 L),(47,.int .i64 L.length),(48,.int .i64 x.2)]) (fun x H nx=>x.2≤L.length∧Row H 1 x.1 ((lU (L.take x.2) b).map (AV.int .i64))∧∀b,bF x.1=some b→b<nx) (fun x=>L.length-x.2) (.esl,0) ⟨bB _,Row.nil,fun b h=>(by cases h)⟩ ?_;rintro⟨sv,k⟩ H nx ⟨g1,g2,g3⟩;dsimp only at g1 g2 g3 ⊢;by_cases hk:k<L.length
 rotate_left
 ·rw[fM (by omega)] at g2;refine wnY and_self ?_;refine r_4 rfl rfl rfl rfl ?_;exact br (ah g2.snapI (ah (.eslsl 1) (ah (.bool _) (ah (.int _ _) ak))))
 have ix:=Lr hk;have hts:=b5 hk;obtain⟨hn,hl2⟩:=hel _ (az hk)
 have hxl:(lU (L.take k) b).length≤k:=by
  unfold lU;rw[bt];refine eZ (List.length_filter_le _ _) ?_;rw[f0];omega
 have hsx:=Di (L:=L.take k) (x:=L.getD k default) (b:=b);rw[←hts] at hsx;generalize L.getD k default=l at *;have hod:=Ez l.2 b (by omega) (by omega);have ix0:=Hd hn;by_cases ho:jI l.2 b=true
 ·rw[ho] at hod;rw[if_pos ho] at hsx;refine wnY (aI @ix @ix0) ?_;refine eR (g2.same fun b hb=>?_) ?_
  ·have:=g3 b hb;rw[ac (by omega),ac (by omega),ac (by omega)]
  rintro s2 H2 nx2 hr2 i1 i2 i3 i4;refine wnY and_self ?_;refine⟨(s2,k+1),by dsimp only;omega,⟨by dsimp only;omega,?_,fun b hb=>?_⟩,ag0⟩
  ·dsimp only;rw[hsx,cu];exact hr2
  ·rcases i4 b hb with h|h
   ·have:=g3 b h;omega
   ·omega
 ·have ho:jI l.2 b=false:=by simpa using ho
  rw[ho] at hod;rw[ho,if_neg (by decide),fP] at hsx;refine wnY (aI @ix @ix0) ?_;refine⟨(sv,k+1),by dsimp only;omega,⟨by dsimp only;omega,?_,fun b hb=>by have:=g3 b hb;omega⟩,ag0⟩;dsimp only;rw[hsx];exact g2.same fun b hb=>by have:=g3 b hb;rw[ac (by omega),ac (by omega)]
end Go.Proofs.YtekdaafnjdlenaaGreat
namespace Go.Proofs.YtekdaafnjdlenaaGreat
open Go Go.Abs
open Nat (reduceEqDiff reduceAdd reduceLeDiff)
theorem jn{c:List Spx}(h:ay c=0):∀s∈c,Shn s:=fun s hs=>show _≤_ by
 have:=(co ((cK h).2.1 s hs)).2.1;omega
def sE(c:List Spx):Nat→Int
 |0=>0
 |k+1=>if (k+1)%2=1 then sE c k+((gq c (k+1)).length:Int) else sE c k-((gq c (k+1)).length:Int)
theorem BG{c:List Spx}(h:∀k,(gq c k).length≤3500):∀k:Nat,-(3500*(k:Int))≤sE c k∧sE c k≤3500*(k:Int)
 |0=>⟨by show -(3500*((0:Nat):Int))≤(0:Int);omega,by show(0:Int)≤3500*((0:Nat):Int);omega⟩
 |k+1=>by
  have:=BG h k;have h2:=h (k+1);unfold sE;split<;>omega
def kp(c:List Spx):Nat→Int×Int
 |0=>(8,0)
 |k+1=>(min (kp c k).1 ((c.getD k default).length:Int),max (kp c k).2 ((c.getD k default).length:Int))
theorem w5{c:List Spx}{m:Int}(h0:0≤m)(h:∀s∈c,(s.length:Int)≤m):∀{k:Nat},k≤c.length→0≤(kp c k).2∧(kp c k).2≤m
 |0,_=>⟨Int.le_refl _,h0⟩
 |k+1,hk=>by
  have:=w5 h0 h (k:=k) (by omega);have h2:=h _ (az (l:=c) (i:=k) (by omega));unfold kp;dsimp only;omega
def fW(c:List Spx):Int:=(kp c c.length).2
def Ff(c:List Spx):Bool:=decide ((kp c c.length).2=0) || decide ((kp c c.length).1=(kp c c.length).2)
theorem Jn{c:List Spx}(hc:ay c=0){k:Nat}(hk:8<k):gq c k=[]:=by
 refine ur.2 fun s hs=>?_;obtain⟨t,ht,h⟩:=rY.1 hs;obtain⟨h1,h2⟩:=d7.1 h;have:=(co ((cK hc).2.1 t ht)).2.1;have:=h1.length_le;omega
theorem yr{c:List Spx}{k:Nat}:aB c (k:Int)=if k=0 then [] else gq c k:=by
 unfold aB;by_cases h:k=0
 ·rw[if_pos (by omega),if_pos h]
 ·rw[if_neg (by omega),if_neg h,cr]
theorem da{c:List Spx}(hc:ay c=0)(hl:c.length≤50){d:Int}:(aB c d).length≤3500:=by
 unfold aB;split
 ·simp
 ·exact oe hl fun s hs=>(co ((cK hc).2.1 s hs)).2.1
theorem Bb{c:List Spx}(hc:ay c=0){d:Int}(h:8<d):aB c d=[]:=by
 unfold aB;rw[if_neg (by omega)];exact Jn hc (by omega)
theorem yQ{Y:List Spx}:dN [] Y=List.replicate Y.length []:=by
 refine List.ext_getElem (by simp[dN]) fun i h1 h2=>?_;simp[dN,dQ,hJ]
theorem Df{H:Hp}{b n:Nat}(h:H b=some (List.replicate n .esl)):Snap H (.msl b n 1 0 n) (bu (List.replicate n [])):=by
 refine Ea h (by simp) ⟨by simp,fun i x y hx hy=>?_⟩;obtain⟨h1,rfl⟩:=bQ.1 hx;obtain⟨h2,rfl⟩:=bQ.1 hy;simp only[List.getElem_map,List.getElem_replicate];exact .eslsl 1
attribute [local irreducible] aJ aj bf aX aP aQ aD aS a6 bk Go.Abs.Fn aV Go.Abs.Pure ar aK Yl
theorem Cf(c:List Spx)(hc:ay c=0)(hl:c.length≤50):pU 37 [bE c] (.tup [.int .i64 (sE c 8),.int .i64 0]):=by
 refine pO KN ?_;simp only[b37,aG];have hcc:=ji c (show _≤_ by omega) (jn hc);rw[hc] at hcc;have z0:decide ((0:Int)≠0)=false:=rfl;have hbd:=fun k:Nat=>BG (c:=c) (fun k=>oe (k:=k) hl fun s hs=>(co ((cK hc).2.1 s hs)).2.1) k;have hll:=fun k=>oe (k:=k) hl fun s hs=>(co ((cK hc).2.1 s hs)).2.1;have hf:=fun k(hk:1≤k∧k≤8)=>zR c k hl (cK hc).2.1 hk;refine wnY (zI3 @z0 @ai @af) ?_;refine lpI (X:=Nat) (fun k=>[(1,.ptr 0 1 0),(5,.int .i64 (sE c k)),(6,.int .i64 (k+1:Nat))]) (fun k H nx=>k≤8∧H 0=some [am c]) (fun k=>8-k) 0 ⟨bB _,rfl⟩ ?_;rintro k H nx ⟨g1,g2⟩;by_cases hk:k<8
 rotate_left
 ·obtain rfl:k=8:=by omega
  refine wnY and_self ?_;exact br (ah (.int _ _) (ah (.int _ _) ak))
 have hf1:=hf (k+1) ⟨by omega,by omega⟩;have hl1:=hll (k+1);have hb1:=hbd k;have hb2:=hbd (k+1);have hes:sE c (k+1)=if (k+1)%2=1 then sE c k+((gq c (k+1)).length:Int) else sE c k-((gq c (k+1)).length:Int):=rfl
 have hr:∀tb tf,bq .rem tb tf (.int .i64 ((k+1:Nat):Int)) (.int .i64 2)=some (.int .i64 (((k+1)%2:Nat):Int)):=fun tb tf=>by
  rw[Br (by omega) (by omega)]
  congr 2
 generalize gq c (k+1)=L at *;generalize sE c k=E0 at *;by_cases hodd:(k+1)%2=1
 ·rw[if_pos hodd] at hes;rw[hes] at hb2;have zr:decide ((((k+1)%2:Nat):Int)=1)=true:=aR (by omega);refine wnY (zI5 @g2 @z0 @hr @zr @ae) ?_;exact⟨k+1,by omega,⟨by omega,g2⟩,by rw[hes,show((k+1+1:Nat):Int)=((k+1:Nat):Int)+1 by omega];simp (disch:=omega) only[agr,ZG,reduceEqDiff,↓reduceIte]⟩
 ·rw[if_neg hodd] at hes;rw[hes] at hb2;have zr:decide ((((k+1)%2:Nat):Int)=1)=false:=aU (by omega);refine wnY (zI5 @g2 @z0 @hr @zr @ae) ?_;exact⟨k+1,by omega,⟨by omega,g2⟩,by rw[hes,show((k+1+1:Nat):Int)=((k+1:Nat):Int)+1 by omega];simp (disch:=omega) only[agr,ZG,reduceEqDiff,↓reduceIte]⟩
theorem yi(c:List Spx)(hc:Shn c)(hs:∀s∈c,Shn s):pU 94 [bE c] (.tup [.int .i64 (fW c-1),.bool (Ff c)]):=by
 refine pO Ng ?_;simp only[b94,aG];unfold fW Ff;have hc':c.length≤17592186044416:=hc;refine wnY (zI3 @ai @af @ae) ?_;refine lpI (X:=Nat) (fun k=>[(4,.int .i64 (kp c k).1),(5,.int .i64 (kp c k).2),(9,am c),(10,.int .i64 c.length),(11,.int .i64 k)]) (fun k H nx=>k≤c.length) (fun k=>c.length-k) 0 (bB _) ?_;rintro k H nx h1;have hb:=w5 (m:=17592186044416) (by omega) (fun s h=>by have:s.length≤_:=hs s h;omega) h1;by_cases hk:k<c.length
 rotate_left
 ·obtain rfl:k=c.length:=by omega
  generalize kp c c.length=P at *;obtain⟨a,m⟩:=P;dsimp only at hb ⊢;by_cases h0:m=0
  ·have z:decide (m=0)=true:=aR h0;rw[z,Bool.true_or];refine wnY @z ?_;exact br (ah (.int _ _) (ah (.bool _) ak))
  ·have z:decide (m=0)=false:=aU h0;rw[z,Bool.false_or];refine wnY @z ?_;exact br (ah (.int _ _) (ah (.bool _) ak))
 have ix:=ec hk;have hsl:(c.getD k default).length≤17592186044416:=hs _ (az hk);have e:kp c (k+1)=(min (kp c k).1 ((c.getD k default).length:Int),max (kp c k).2 ((c.getD k default).length:Int)):=rfl;generalize c.getD k default=s at *;refine wnY (aI @ix @ao) ?_;exact⟨k+1,by omega,by omega,by rw[e];simp (disch:=omega) only[agr,ZG,reduceEqDiff,↓reduceIte]⟩
theorem oQ(c:List Spx)(hc:ay c=0)(hl:c.length≤50):pU 96 [bE c] (.tup [.int .i64 (fW c-1),.bool (Ff c),.int .i64 0]):=by
 refine pO NC ?_;simp only[b96,aG];have hcc:=ji c (show _≤_ by omega) (jn hc);rw[hc] at hcc;have hd:=yi c (show _≤_ by omega) (jn hc);have z0:decide ((0:Int)≠0)=false:=rfl;refine wnY (zI3 @z0 @ai @af) ?_;refine br (ah (.int _ _) (ah (.bool _) (ah (.int _ _) ak)))
theorem rL(c:List Spx)(d:Nat)(hc:ay c=0)(hl:c.length≤50)(hd:d≤8):pU 98 [bE c,.int .i64 d] (.tup [.int .i64 (aB c ((d:Int)+1)).length,.int .i64 0]):=by
 refine pO NV ?_;simp only[b98,aG];by_cases h8:d=8
 ·rw[Bb hc (by omega)];subst h8;refine wnY (aI @ai @af) ?_;exact br (ah (.int _ _) (ah (.int _ _) ak))
 have hs:=kQ c ((d:Int)+1) hl (jn hc)
 have e:du c ((d:Int)+1)=(aB c ((d:Int)+1),0):=by
  unfold du aB;rw[if_neg (fun q=>q hc),if_neg (by omega),if_neg (by omega)]
 rw[e] at hs;dsimp only at hs;have hll:=da hc hl (d:=(d:Int)+1);generalize aB c ((d:Int)+1)=X at *;have z1:decide ((d:Int)<0)=false:=aU (by omega);have z2:decide ((8:Int)≤d)=false:=aU (by omega);refine wnY (zI5 @ai @af @ae @z1 @z2) ?_;exact br (ah (.int _ _) (ah (.int _ _) ak))
theorem mL(c:List Spx)(d:Nat)(hc:ay c=0)(hl:c.length≤50)(hd:d≤8):pU 58 [bE c,.int .i64 d] (.tup [dl (aB c ((d:Int)+1)).length (dN (aB c ((d:Int)+1)) (aB c d)),.int .i64 0]):=by
 refine pO Ni ?_;simp only[b58,aG];by_cases h8:d=8
 ·rw[Bb hc (by omega),yQ];subst h8;have hs:pU 98 [bE c,.int .i64 (((8:Nat):Int)-1)] (.tup [.int .i64 (aB c ((8:Nat):Int)).length,.int .i64 0]):=rL c 7 hc hl (by omega);have hll:=da hc hl (d:=((8:Nat):Int));generalize (aB c ((8:Nat):Int)).length=n at *;have hzc:bn (AV.agg [AV.esl]) n=List.replicate n .esl:=by simp[bn,AV.cells]
  refine wnY (aI @ai @af) ?_;refine xL (k1:=.i64) (k2:=.i64) (n:=n) (m:=n) rfl ev0 ev0 (by omega) (Int.le_refl _) (by omega) (by omega) ?_;rw[cr,hzc,Nat.mul_one];refine wnY and_self ?_;exact jF (Df (by rw[ac (by omega),ag])) rfl
 have hm:=JN c d hl (jn hc)
 have e:uU c d=(((((aB c ((d:Int)+1)).length:Nat):Int),dN (aB c ((d:Int)+1)) (aB c d)),0):=by
  unfold uU;rw[if_neg (fun q=>q hc),if_neg (by omega)]
 rw[e] at hm;dsimp only at hm;generalize dN (aB c ((d:Int)+1)) (aB c d)=R at *;generalize (aB c ((d:Int)+1)).length=n at *;rw[cE] at hm ⊢;have z2:decide ((d:Int)<8)=true:=aR (by omega);refine wnY (zI3 @ai @af @z2) ?_;exact jF (jP _).snap rfl
end Go.Proofs.YtekdaafnjdlenaaGreat
namespace Go.Proofs.YtekdaafnjdlenaaGreat
open Go Go.Abs
def rkF(c:List Spx)(d:Nat):Nat:=(d6 (dN (aB c ((d:Int)+1)) (aB c d)) (aB c ((d:Int)+1)).length).length
def btF(c:List Spx)(d:Nat):Int:=((aB c ((d:Int)+1)).length:Int)-(rkF c d:Int)-(rkF c (d+1):Int)
def btL(c:List Spx)(m:Nat):List Int:=(List.range m).map (btF c)
theorem nX{c:List Spx}{d:Nat}:rkF c d≤(aB c ((d:Int)+1)).length:=by
 unfold rkF d6;rw[bt];exact ku
theorem yh{c:List Spx}(hc:ay c=0):∃m:Nat,fW c=m∧m≤8:=by
 have h:=w5 (c:=c) (m:=8) (by omega) (fun s hs=>by have:=(co ((cK hc).2.1 s hs)).2.1;omega) (aO _);exact⟨(fW c).toNat,by unfold fW;omega,by unfold fW;omega⟩
def rkK(n:Nat):List Int:=dQ (List.range n)
theorem kH{n d:Nat}:(d:Int)∈rkK n↔d<n:=by
 unfold rkK;rw[zH];exact⟨fun⟨i,h1,h2⟩=>by have:=dT.1 h1;omega,fun h=>⟨d,dT.2 h,rfl⟩⟩
theorem rJ{n d:Nat}(h:d<n):(rkK n).idxOf (d:Int)=d:=by
 have hn:(rkK n).Nodup:=xK (fun{x y}(q:x<y) e=>by omega) (nf List.pairwise_lt_range);have h1:=pC.2 (kH.2 h);have hl:d<(rkK n).length:=by unfold rkK dQ;simpa using h
 have h2:(rkK n)[d]=(d:Int):=by
  have h4:(rkK n)[d]=(((List.range n)[d]'(by simpa using h):Nat):Int):=List.getElem_map ..;rw[h4,List.getElem_range]
 have h3:(rkK n)[(rkK n).idxOf (d:Int)]=(rkK n)[d]:=by rw[List.getElem_idxOf h1,h2]
 exact(List.getElem_inj hn).1 h3
theorem xN{n:Nat}:rkK (n+1)=rkK n++[(n:Int)]:=by unfold rkK dQ;rw[List.range_succ,cu];rfl
def rkV(c:List Spx)(n:Nat):List AV:=(List.range n).map fun d=>.int .i64 (rkF c d)
theorem zx{c:List Spx}{n:Nat}:rkV c (n+1)=rkV c n++[.int .i64 (rkF c n)]:=by unfold rkV;rw[List.range_succ,cu];rfl
theorem rA{c:List Spx}{n d:Nat}(h:d<n):(rkV c n).getD d .undef=.int .i64 (rkF c d):=by unfold rkV;simp[List.getD,h]
theorem tZ{c:List Spx}{n:Nat}:btL c (n+1)=btL c n++[btF c n]:=by unfold btL;rw[List.range_succ,cu];rfl
attribute [local irreducible] aJ aj bf aX aP aQ aD aS a6 bk Go.Abs.Fn aV Go.Abs.Pure ar aK Yl
theorem GM(c:List Spx)(m:Nat)(hc:ay c=0)(hl:c.length≤50)(hm:fW c=m)(hm8:m≤8):pU 44 [bE c] (.tup [aC (btL c m),.int .i64 0]):=by
 refine pO Ku ?_;simp only[b44,aG];have hdi:=oQ c hc hl;rw[hm] at hdi;have z0:decide ((0:Int)≠0)=false:=rfl;have hed:=fun d(h:d≤8)=>mL c d hc hl h;have hsz:=fun d(h:d≤8)=>rL c d hc hl h;have hrl:=fun d:Int=>da hc hl (d:=d);have hrk:=fun d:Nat=>AW (aB c ((d:Int)+1)).length (dN (aB c ((d:Int)+1)) (aB c d)) (kR (by have:=hrl ((d:Int)+1);omega) (by have:=hrl d;omega));have hrf:=fun d:Nat=>nX (c:=c) (d:=d);refine wnY (zI3 @z0 @ai @af) ?_;refine uQ ?_;refine wnY and_self ?_;refine lpI (X:=Nat) (fun k=>[(1,.ptr 0 1 0),(4,.int .i64 ((m:Int)-1)),(7,.mp 1),(26,.int .i64 ((m:Int)-1+2)),(27,.int .i64 k)]) (fun k H nx=>k≤m+1∧2≤nx∧H 0=some [am c]∧H 1=some [.omap ((rkK k).map (AV.int .i64)) (rkV c k)]) (fun k=>m+1-k) 0 ⟨bB _,aO _,rfl,rfl⟩ ?_;rintro k H nx ⟨g1,g2,g3,g4⟩;by_cases hk:k<m+1
 ·have hed1:=hed k (by omega);have hrk1:=hrk k;have hr1:=hrl ((k:Int)+1);have hd1:Dat (dl (aB c ((k:Int)+1)).length (dN (aB c ((k:Int)+1)) (aB c k))):=cT _ _;change pU 97 _ (.tup [.int .i64 (rkF c k),.int .i64 0]) at hrk1;rw[cE] at hed1 hrk1 hd1;generalize dN (aB c ((k:Int)+1)) (aB c k)=R at *;generalize (aB c ((k:Int)+1)).length=n at *;have z1:decide ((k:Int)<(m:Int)-1+2)=true:=aR (by omega);refine wnY (zI5 @g3 @z0 @z1 @ai @af) ?_;have hmf:=ib (k:Int) (rkK k);rw[if_neg (fun q=>by have:=kH.1 q;omega)] at hmf;refine pz ev0 ((ac (by omega)).trans ((ac (by omega)).trans g4)) ev0 ev0 rfl hmf ?_;refine wnY @z0 ?_;refine⟨k+1,by omega,⟨by omega,by omega,by rw[ac (by omega),ac (by omega),ac (by omega)];exact g3,?_⟩,ag0⟩;rw[ag,xN,zx,cu];rfl
 obtain rfl:k=m+1:=by omega
 have z1:decide (((m+1:Nat):Int)<(m:Int)-1+2)=false:=aU (by omega);refine wnY @z1 ?_;refine lpI (X:=AV×Nat) (fun x=>[(1,.ptr 0 1 0),(7,.mp 1),(11,x.1),(51,.int .i64 ((m:Int)-1+1)),(52,.int .i64 x.2)]) (fun x H nx=>x.2≤m∧2≤nx∧H 0=some [am c]∧H 1=some [.omap ((rkK (m+1)).map (AV.int .i64)) (rkV c (m+1))]∧Row H 1 x.1 ((btL c x.2).map (AV.int .i64))∧∀b,bF x.1=some b→2≤b∧b<nx) (fun x=>m-x.2) (.esl,0) ⟨bB _,g2,g3,g4,Row.nil,fun b h=>(by cases h)⟩ ?_;clear g1 g2 g3 g4;rintro⟨sv,k⟩ H nx ⟨g1,g2,g3,g4,g5,g6⟩;dsimp only at g1 g2 g3 g4 g5 g6 ⊢;by_cases hk:k<m
 rotate_left
 ·obtain rfl:k=m:=by omega
  have z1:decide ((k:Int)<(k:Int)-1+1)=false:=aU (by omega);refine wnY @z1 ?_;exact ie g5.snapI rfl
 have hsz1:=hsz k (by omega);have hr1:=hrl ((k:Int)+1);have hr2:=hrl (((k+1:Nat):Int)+1);have hf1:=hrf k;have hf2:=hrf (k+1);have hmf1:=ib (k:Int) (rkK (m+1));rw[if_pos (kH.2 (by omega)),rJ (by omega)] at hmf1;have hmf2:=ib ((k+1:Nat):Int) (rkK (m+1));rw[if_pos (kH.2 (by omega)),rJ (by omega)] at hmf2;rw[show((k+1:Nat):Int)=(k:Int)+1 by omega] at hmf2;have hv1:Go.Abs.mget (.int .i64 0) false (some k) (rkV c (m+1))=.int .i64 (rkF c k):=rA (by omega);have hv2:Go.Abs.mget (.int .i64 0) false (some (k+1)) (rkV c (m+1))=.int .i64 (rkF c (k+1)):=rA (by omega);have hsn:=tZ (c:=c) (n:=k);have hbl:(btL c k).length=k:=by unfold btL;simp
 have hbf:btF c k=((aB c ((k:Int)+1)).length:Int)-(rkF c k:Int)-(rkF c (k+1):Int):=rfl;rw[hbf] at hsn;generalize rkF c k=f1 at *;generalize rkF c (k+1)=f2 at *;generalize (aB c ((k:Int)+1)).length=n at *;generalize (aB c (((k+1:Nat):Int)+1)).length=n2 at *;have z1:decide ((k:Int)<(m:Int)-1+1)=true:=aR (by omega);refine wnY (zI5 @g3 @z0 @z1 @ai @af) ?_;refine ja ev0 g4 ev0 rfl hmf1 ?_;rw[hv1];refine wnY and_self ?_;refine ja ev0 g4 ev0 rfl hmf2 ?_;rw[hv2];refine wnY and_self ?_;refine eR (g5.same fun b hb=>?_) ?_
 ·have:=g6 b hb;rw[ac (by omega)]
 rintro s2 H2 nx2 hr3 i1 i2 i3 i4;have hdo:∀b,b<2→bF sv≠some b:=fun b hb e=>by have:=g6 b e;omega
 have lo2:∀b,b<2→H2 b=H b:=fun b hb=>(i3 b (by omega) (hdo b hb)).trans (by rw[ac (by omega)]);refine wnY and_self ?_;refine⟨(s2,k+1),by dsimp only;omega,⟨by dsimp only;omega,by omega,(lo2 0 (by omega)).trans g3,(lo2 1 (by omega)).trans g4,?_,fun b hb=>?_⟩,ag0⟩
 ·dsimp only;rw[hsn,cu];exact hr3
 ·rcases i4 b hb with h|h
  ·have:=g6 b h;omega
  ·omega
theorem pu(c:List Spx)(m:Nat)(hc:ay c=0)(hl:c.length≤50)(hm:fW c=m)(hm8:m≤8):pU 13 [bE c] (.tup [aC (btL c m),.int .i64 0]):=by
 have hch:pU 43 [bE c] (.int .i64 0):=by
  refine pO IM ?_;simp only[b43,aG];have he:=Cf c hc hl;refine wnY (aI @ai @af) ?_;exact .int _ _
 refine pO K0 ?_;simp only[b13,aG];have hb:=GM c m hc hl hm hm8;have z0:decide ((0:Int)≠0)=false:=rfl;refine wnY (zI3 @z0 @ai @af) ?_;exact ie (cp _).snap rfl
end Go.Proofs.YtekdaafnjdlenaaGreat
namespace Go.Proofs.YtekdaafnjdlenaaGreat
open Go Go.Abs
theorem zF{a:List Spx}(h:a≠[]):ey 1 (am a) (.int .i64 0)=some (.iptr [aA (a.getD 0 default)] 0):=by
 have:=ec (l:=a) (k:=0) (jN.2 h);exact this
attribute [local irreducible] aJ aj bf aX aP aQ aD aS a6 bk Go.Abs.Fn aV Go.Abs.Pure ar aK Yl
theorem nZ(c:List Spx)(hc:ay c=0)(hl:c.length≤50):pU 43 [bE c] (.int .i64 0):=by
 refine pO IM ?_;simp only[b43,aG];have he:=Cf c hc hl;refine wnY (aI @ai @af) ?_;exact .int _ _
theorem MB(s t:Spx)(hs:Shn s)(ht:Shn t):pU 69 [aA s,aA t] (.bool (decide (s=t))):=by
 refine pO NS ?_;simp only[b69,aG];have hc:=gy s t hs ht;have e:decide (bl s t=0)=decide (s=t):=decide_eq_decide.2 ⟨fun h=>pf h,fun h=>by rw[h];exact fU t⟩;refine wnY @e ?_;exact .bool _
theorem LI(a b:List Spx)(ha:ShC a)(hb:ShC b):pU 68 [am a,am b,.func 69 []] (.bool (decide (a=b))):=by
 refine pO NF ?_;simp only[b68,aG];by_cases hl:a.length=b.length
 rotate_left
 ·have z:decide ((a.length:Int)≠b.length)=true:=aR (by omega);rw[aU (fun e=>hl (by rw[e]))];refine wnY (aI @ae @z) ?_;exact .bool _
 have z:decide ((a.length:Int)≠b.length)=false:=by rw[hl];exact aU (fun h=>h rfl)
 have hal:=ha.1;refine wnY (aI @ae @z) ?_;refine lq (X:=Nat) (fun k=>[(0,am a),(1,am b),(2,.func 69 []),(15,am a),(16,.int .i64 a.length),(17,.int .i64 k)]) (fun k=>k≤a.length∧∀i,i<k→a.getD i default=b.getD i default) (fun k=>a.length-k) 0 ⟨bB _,fun i h=>absurd h (by omega)⟩ ag0 ?_;rintro k ⟨h1,h2⟩;by_cases hk:k<a.length
 rotate_left
 ·obtain rfl:k=a.length:=by omega
  have e:a=b:=List.ext_getElem hl fun i i1 i2=>by
   have:=h2 i i1;simpa[List.getD,i1,i2] using this
  rw[aR e];refine wnY and_self ?_;exact .bool _
 have ix:=ec hk;have iy:=ec (l:=b) (k:=k) (by omega);have hcl:=MB _ _ (ha.2 _ (az hk)) (hb.2 _ (az (l:=b) (i:=k) (by omega)));by_cases e:a.getD k default=b.getD k default
 ·rw[aR e] at hcl
  have hn:∀i,i<k+1→a.getD i default=b.getD i default:=fun i hi=>by
   rcases(by omega:i<k∨i=k) with h|rfl
   ·exact h2 i h
   ·exact e
  generalize a.getD k default=s at *;generalize b.getD k default=t at *;refine wnY (aI @ix @iy) ?_;exact⟨k+1,⟨by omega,hn⟩,by omega,ag0,rfl,rfl⟩
 ·rw[aU e] at hcl;rw[aU (fun q=>e (by rw[q]))];generalize a.getD k default=s at *;generalize b.getD k default=t at *;refine wnY (aI @ix @iy) ?_;exact .bool _
end Go.Proofs.YtekdaafnjdlenaaGreat
namespace Go.Proofs.YtekdaafnjdlenaaGreat
open Go Go.Abs
theorem jR{l:List Int}{i:Nat}(h:i<l.length):l.drop i=l.getD i default::l.drop (i+1):=by
 rw[List.drop_eq_getElem_cons h];simp[List.getD,h]
theorem Gp{a b:List Int}{i k:Nat}(hi:i<a.length)(h:k=b.length∨k<b.length∧a.getD i default<b.getD k default):bN (a.drop i) (b.drop k)=a.getD i default::bN (a.drop (i+1)) (b.drop k):=by
 rw[jR hi];rcases h with rfl|⟨h1,h2⟩
 ·rw[List.drop_length,fK,fK]
 ·rw[jR h1,jO,if_pos h2]
theorem GC{a b:List Int}{i k:Nat}(hk:k<b.length)(h:i=a.length∨i<a.length∧b.getD k default<a.getD i default):bN (a.drop i) (b.drop k)=b.getD k default::bN (a.drop i) (b.drop (k+1)):=by
 rw[jR hk];rcases h with rfl|⟨h1,h2⟩
 ·rw[List.drop_length,io,io]
 ·rw[jR h1,jO,if_neg (by omega),if_pos h2]
theorem Hl{a b:List Int}{i k:Nat}(hi:i<a.length)(hk:k<b.length)(h:a.getD i default=b.getD k default):bN (a.drop i) (b.drop k)=bN (a.drop (i+1)) (b.drop (k+1)):=by
 rw[jR hi,jR hk,jO,if_neg (by omega),if_neg (by omega)]
attribute [local irreducible] aJ aj bf aX aP aQ aD aS a6 bk Go.Abs.Fn aV Go.Abs.Pure ar aK Yl
theorem Ew(a:List Int)(n:Int)(ha:a.length≤1000000000):pU 108 [aC a,.int .i64 n] (.bool (decide (n∈a))):=by
 refine pO MR ?_;simp only[Kj,aG];refine wnZ @ct ?_;refine lq (X:=Nat) (fun k=>[(0,aC a),(1,.int .i64 n),(5,.int .i64 k)]) (fun k=>k≤a.length∧∀i,i<k→a.getD i default≠n) (fun k=>a.length-k) 0 ⟨bB _,fun i h=>absurd h (by omega)⟩ ag0 ?_;rintro k ⟨h1,h2⟩;by_cases hk:k<a.length
 ·have ix:=ixV hk;by_cases hv:a.getD k default=n
  ·have z:decide (a.getD k default=n)=true:=aR hv;rw[aR (show n∈a by rw[←hv];exact az hk)];refine wnZ (zI3 @ct @ix @z) ?_;exact .bool _
  ·have z:decide (a.getD k default=n)=false:=aU hv;refine wnZ (zI3 @ct @ix @z) ?_
   exact ⟨k + 1,⟨by omega,fun i hi=>by
    rcases(by omega:i<k∨i=k) with h|rfl
    ·exact h2 i h
    ·exact hv⟩,by omega,ag0,rfl,rfl⟩
 ·obtain rfl:k=a.length:=by omega
  rw [aU fun hm=>by
   obtain⟨i,hi,e⟩:=jp hm;exact h2 i hi (by simp[List.getD,hi,e])]
  refine wnZ @ct ?_;exact .bool _
set_option maxHeartbeats 1000000 in
theorem Hz(a b:List Int)(ha:a.length≤1000000)(hb:b.length≤1000000):pU 109 [aC a,aC b] (aC (bN a b)):=by
 refine pO KD ?_;simp only[LZ,aG];refine wnZ @ct ?_;refine lpI (X:=AV×List Int×Nat×Nat) (fun x=>[(0,aC a),(1,aC b),(5,x.1),(6,.int .i64 x.2.2.1),(7,.int .i64 x.2.2.2)]) (fun x H nx=>x.2.2.1≤a.length∧x.2.2.2≤b.length∧x.2.1++bN (a.drop x.2.2.1) (b.drop x.2.2.2)=bN a b∧x.2.1.length≤x.2.2.1+x.2.2.2∧Row H 1 x.1 (x.2.1.map (AV.int .i64))∧∀b,bF x.1=some b→b<nx) (fun x=>a.length+b.length-(x.2.2.1+x.2.2.2)) (.esl,[],0,0) ⟨bB _,bB _,rfl,bB _,Row.nil,fun b h=>(by cases h)⟩ ?_;rintro⟨sv,D,i,k⟩ H nx ⟨g1,g2,g3,g4,g5,g6⟩;dsimp only at g1 g2 g3 g4 g5 g6 ⊢;by_cases hA:i<a.length∧(k=b.length∨k<b.length∧a.getD i default<b.getD k default)
 ·rw[Gp hA.1 hA.2] at g3;have ix:=ixV hA.1;have zi:decide ((i:Int)<a.length)=true:=aR (by omega);rcases hA.2 with hk|⟨hk,hlt⟩
  ·have zk:decide ((k:Int)=b.length)=true:=aR (by omega);refine wnY (zI4 @ct @ix @zi @zk) ?_;refine eR (g5.same fun b hb=>?_) ?_
   ·have:=g6 b hb;rw[ac (by omega)]
   rintro s2 H2 nx2 hr2 i1 i2 i3 i4;refine wnY and_self ?_;refine⟨(s2,D++[a.getD i default],i+1,k),by dsimp only;omega,⟨by dsimp only;omega,by dsimp only;omega,by rw[←g3,lN];rfl,by dsimp only;rw[cS,List.length_singleton];omega,by dsimp only;rw[cu];exact hr2,fun b hb=>?_⟩,ag0⟩;rcases i4 b hb with h|h
   ·have:=g6 b h;omega
   ·omega
  ·have zk:decide ((k:Int)=b.length)=false:=aU (by omega);have zk2:decide ((k:Int)<b.length)=true:=aR (by omega);have iy:=ixV hk;have zl:decide (a.getD i default<b.getD k default)=true:=aR hlt;refine wnY (zI7 @ct @ix @iy @zi @zk @zk2 @zl) ?_;refine eR (g5.same fun b hb=>?_) ?_
   ·have:=g6 b hb;rw[ac (by omega)]
   rintro s2 H2 nx2 hr2 i1 i2 i3 i4;refine wnY and_self ?_;refine⟨(s2,D++[a.getD i default],i+1,k),by dsimp only;omega,⟨by dsimp only;omega,by dsimp only;omega,by rw[←g3,lN];rfl,by dsimp only;rw[cS,List.length_singleton];omega,by dsimp only;rw[cu];exact hr2,fun b hb=>?_⟩,ag0⟩;rcases i4 b hb with h|h
   ·have:=g6 b h;omega
   ·omega
 by_cases hB:k<b.length∧(i=a.length∨i<a.length∧b.getD k default<a.getD i default)
 ·rw[GC hB.1 hB.2] at g3;have iy:=ixV hB.1;have zk:decide ((k:Int)=b.length)=false:=aU (by omega);have zk2:decide ((k:Int)<b.length)=true:=aR (by omega);rcases hB.2 with hi|⟨hi,hlt⟩
  ·have zi:decide ((i:Int)<a.length)=false:=aU (by omega);have zi2:decide ((i:Int)=a.length)=true:=aR (by omega);refine wnY (zI6 @ct @iy @zi @zi2 @zk @zk2) ?_;refine eR (g5.same fun b hb=>?_) ?_
   ·have:=g6 b hb;rw[ac (by omega)]
   rintro s2 H2 nx2 hr2 i1 i2 i3 i4;refine wnY and_self ?_;refine⟨(s2,D++[b.getD k default],i,k+1),by dsimp only;omega,⟨by dsimp only;omega,by dsimp only;omega,by rw[←g3,lN];rfl,by dsimp only;rw[cS,List.length_singleton];omega,by dsimp only;rw[cu];exact hr2,fun b hb=>?_⟩,ag0⟩;rcases i4 b hb with h|h
   ·have:=g6 b h;omega
   ·omega
  ·have zi:decide ((i:Int)<a.length)=true:=aR (by omega);have zi2:decide ((i:Int)=a.length)=false:=aU (by omega);have ix:=ixV hi;have zl:decide (a.getD i default<b.getD k default)=false:=aU (by omega);have zl2:decide (b.getD k default<a.getD i default)=true:=aR hlt;refine wnY (zI9 @ct @ix @iy @zi @zi2 @zk @zk2 @zl @zl2) ?_;refine eR (g5.same fun b hb=>?_) ?_
   ·have:=g6 b hb;rw[ac (by omega)]
   rintro s2 H2 nx2 hr2 i1 i2 i3 i4;refine wnY and_self ?_;refine⟨(s2,D++[b.getD k default],i,k+1),by dsimp only;omega,⟨by dsimp only;omega,by dsimp only;omega,by rw[←g3,lN];rfl,by dsimp only;rw[cS,List.length_singleton];omega,by dsimp only;rw[cu];exact hr2,fun b hb=>?_⟩,ag0⟩;rcases i4 b hb with h|h
   ·have:=g6 b h;omega
   ·omega
 by_cases hC:i<a.length∧k<b.length
 ·have he:a.getD i default=b.getD k default:=by
    have h1:¬a.getD i default<b.getD k default:=fun h=>hA ⟨hC.1,.inr ⟨hC.2,h⟩⟩;have h2:¬b.getD k default<a.getD i default:=fun h=>hB ⟨hC.2,.inr ⟨hC.1,h⟩⟩;omega
  rw[Hl hC.1 hC.2 he] at g3;have ix:=ixV hC.1;have iy:=ixV hC.2;have zi:decide ((i:Int)<a.length)=true:=aR (by omega);have zi2:decide ((i:Int)=a.length)=false:=aU (by omega);have zk:decide ((k:Int)=b.length)=false:=aU (by omega);have zk2:decide ((k:Int)<b.length)=true:=aR (by omega);have zl:decide (a.getD i default<b.getD k default)=false:=aU (by omega);have zl2:decide (b.getD k default<a.getD i default)=false:=aU (by omega);refine wnY (zI9 @ct @ix @iy @zi @zi2 @zk @zk2 @zl @zl2) ?_;exact⟨(sv,D,i+1,k+1),by dsimp only;omega,⟨by dsimp only;omega,by dsimp only;omega,g3,by dsimp only;omega,g5,g6⟩,ag0⟩
 have hi:i=a.length:=by
  rcases qg i a.length with h|h
  ·exfalso;rcases qg k b.length with h2|h2
   ·exact hC ⟨h,h2⟩
   ·exact hA ⟨h,.inl (by omega)⟩
  ·omega
 have hk:k=b.length:=by
  rcases qg k b.length with h|h
  ·exact absurd ⟨h,.inl hi⟩ hB
  ·omega
 have zi:decide ((i:Int)<a.length)=false:=aU (by omega);have zk:decide ((k:Int)<b.length)=false:=aU (by omega);rw[hi,hk,List.drop_length,List.drop_length,io,fP] at g3;rw[←g3];refine wnY (zI3 @ct @zi @zk) ?_;exact g5.snapI
end Go.Proofs.YtekdaafnjdlenaaGreat
namespace Go.Proofs.YtekdaafnjdlenaaGreat
open Go Go.Abs
def Gk(rows:List (List Int))(n c:Nat):Int:=match t8 rows n c with
 |some k=>(k:Int)
 |none=>-1
theorem GQ{rows:List (List Int)}{n c k:Nat}(hn:n≤k)(hk:k<rows.length)(h:∀i,n≤i→i<k→(c:Int)∉rows.getD i default)(hc:(c:Int)∈rows.getD k default):t8 rows n c=some k:=by
 unfold t8;rw[List.find?_range_eq_some];refine⟨by simp only[dz,f8];exact⟨hn,hc⟩,dT.2 hk,fun j hj=>?_⟩;simp only[Bool.not_and,ke,Bool.not_eq_true',decide_eq_false_iff_not];by_cases hnj:n≤j
 ·exact .inr (h j hnj hj)
 ·exact .inl hnj
theorem Fv{rows:List (List Int)}{n c:Nat}(h:∀i,n≤i→i<rows.length→(c:Int)∉rows.getD i default):t8 rows n c=none:=by
 unfold t8;rw[List.find?_eq_none];intro i hi hd;simp only[dz,f8] at hd;exact h i hd.1 (dT.1 hi) hd.2
theorem xJ{rows:List (List Int)}{n c k:Nat}(h:t8 rows n c=some k):n≤k∧k<rows.length:=by
 unfold t8 at h;have h1:=List.find?_some h;have h2:=dT.1 (List.mem_of_find?_eq_some h);simp only[dz,f8] at h1;exact⟨h1.1,h2⟩
attribute [local irreducible] aJ aj bf aX aP aQ aD aS a6 bk Go.Abs.Fn aV Go.Abs.Pure ar aK Yl
theorem Fx(rows:List (List Int))(n c:Nat)(hl:rows.length≤100000)(hr:∀r∈rows,r.length≤100000)(hn:n≤rows.length):pU 148 [bu rows,.int .i64 n,.int .i64 c] (.int .i64 (Gk rows n c)):=by
 refine pO KV ?_;simp only[LC,aG];refine wnZ @cz ?_;refine lq (X:=Nat) (fun k=>[(0,bu rows),(2,.int .i64 c),(7,.int .i64 k)]) (fun k=>n≤k∧k≤rows.length∧∀i,n≤i→i<k→(c:Int)∉rows.getD i default) (fun k=>rows.length-k) n ⟨aO _,hn,fun i h1 h2=>absurd h1 (by omega)⟩ ag0 ?_;rintro k ⟨h0,h1,h2⟩;by_cases hk:k<rows.length
 ·have ix:=A3 hk;have hh:=Ew (rows.getD k default) c (by have:=hr _ (az hk);omega);by_cases hv:(c:Int)∈rows.getD k default
  ·rw[aR hv] at hh;unfold Gk;rw[GQ h0 hk h2 hv];generalize rows.getD k default=r at *;refine wnZ (aI @cz @ix) ?_;exact .int _ _
  ·rw[aU hv] at hh
   have h3:∀i,n≤i→i<k+1→(c:Int)∉rows.getD i default:=fun i hi hi2=>by
    rcases(by omega:i<k∨i=k) with h|rfl
    ·exact h2 i hi h
    ·exact hv
   generalize rows.getD k default=r at *;refine wnZ (aI @cz @ix) ?_;exact⟨k+1,⟨by omega,by omega,h3⟩,by omega,ag0,rfl,rfl⟩
 ·obtain rfl:k=rows.length:=by omega
  unfold Gk;rw[Fv fun i hi hi2=>h2 i hi hi2];refine wnZ @cz ?_;exact .int _ _
end Go.Proofs.YtekdaafnjdlenaaGreat
namespace Go.Proofs.YtekdaafnjdlenaaGreat
open Go Go.Abs
def oT(R:List (List Int))(y:List Int):List Int:=y.foldl (fun a i=>bN a (R.getD i.toNat default)) []
theorem vt{R:List (List Int)}{y:List Int}{i:Int}:oT R (y++[i])=bN (oT R y) (R.getD i.toNat default):=by unfold oT;rw[List.foldl_append];rfl
theorem BV{R:List (List Int)}{c:Nat}(hR:∀r∈R,bz r)(hv:∀r∈R,∀z∈r,0≤z∧z<(c:Int)){y:List Int}(hy:∀i∈y,0≤i∧i<(R.length:Int)):∀k,k≤y.length→bz (oT R (y.take k))∧∀z∈oT R (y.take k),0≤z∧z<(c:Int)
 |0,_=>⟨qq,fun z h=>(by cases h)⟩
 |k+1,hk=>by
  obtain⟨h1,h2⟩:=BV hR hv hy k (by omega);have hi:=hy _ (az (l:=y) (i:=k) (by omega));have hm:R.getD (y.getD k default).toNat default∈R:=az (by omega);rw[b5 (show k<y.length by omega),vt];refine⟨eb h1 (hR _ hm),fun z hz=>?_⟩;rcases(dp h1 (hR _ hm)).1 hz with q|q
  ·exact h2 z q.1
  ·exact hv _ hm z q.1
def Jt(R:List (List Int))(b y:List Int):Int:=if oT R y=[] then(if jI y b=true then 0 else 18) else 18
attribute [local irreducible] aJ aj bf aX aP aQ aD aS a6 bk Go.Abs.Fn aV Go.Abs.Pure ar aK Yl
theorem Ec(c:Nat)(R:List (List Int))(b y:List Int)(hm:gr c R)(hbr:∀v∈b,0≤v∧v<(R.length:Int))(hba:bz b)(hyr:∀v∈y,0≤v∧v<(R.length:Int))(hya:bz y):pU 71 [dl c R,aC b,aC y] (.int .i64 (Jt R b y)):=by
 refine pO Nb ?_;simp only[b71,aG];have hmR:=fk hm;have hmv:∀r∈R,∀z∈r,0≤z∧z<(c:Int):=fun r hr z hz=>(hm.2.2.2 r hr).1 z hz;have hbl:=fw hba hbr;have hyl:=fw hya hyr
 have hvec:∀ {x:List Int},x.length ≤ R.length→(∀ v ∈ x,0 ≤ v∧v < (R.length:Int))→bz x→pU 114 [aC x,.int .i64 R.length] (.int .i64 0):=fun {x} h1 h2 h3=>px x (R.length:Int) (by have:=hm.2.2.1; omega) h2 (fun i hi=>by
  have:=kJ.1 h3 i (i+1) (by omega) hi (by omega);simpa[List.getD,show i<x.length by omega,hi] using this)
 have h1:=ll c R hm;have h2:=hvec hbl hbr hba;have h3:=hvec hyl hyr hya;have z0:decide ((0:Int)≠0)=false:=rfl;have hd:Dat (.agg [.int .i64 c,bu R]):=cT c R;have hmc:=hm.2.1;have hrl:=hm.2.2.1;have hod:=Ez y b (by omega) (by omega);rw[cE];refine wnY (zI3 @z0 @cz @ct) ?_;refine za (X:=Nat) (fun k=>[(1,aC b),(2,aC y),(3,.ptr 0 2 0),(10,aC (oT R (y.take k))),(34,aC y),(35,.int .i64 y.length),(36,.int .i64 k)]) (fun k H nx=>k≤y.length∧H 0=some [.int .i64 c,bu R]) (fun k=>y.length-k) 0 ⟨_,_,Fz.none,⟨bB _,rfl⟩,⟨.inl rfl,.inl rfl,.inl rfl,.inr (.eslsl 1),.inl rfl,.inl rfl,.inl rfl,trivial⟩⟩ ?_;rintro k H nx ⟨g1,g2⟩;obtain⟨a1,a2⟩:=BV hmR hmv hyr k g1;have al:=fw a1 a2;by_cases hk:k<y.length
 ·have ix:=ixV hk;have hi:=hyr _ (az hk);have hts:=b5 hk;have hsn:oT R (y.take (k+1))=bN (oT R (y.take k)) (R.getD (y.getD k default).toNat default):=by rw[hts,vt]
  have iy:ey 1 (bu R) (.int .i64 (y.getD k default))=some (.iptr [aC (R.getD (y.getD k default).toNat default)] 0):=by
   rw[nY,if_pos ⟨hi.1,hi.2⟩]
  have hrow:R.getD (y.getD k default).toNat default∈R:=az (by omega);have hrl2:=(hm.2.2.2 _ hrow).2.1;have hsu:=vE (oT R (y.take k)) (R.getD (y.getD k default).toNat default) (by omega) (by omega);rw[←hsn] at hsu;generalize R.getD (y.getD k default).toNat default=r at *;generalize y.getD k default=i at *;generalize oT R (y.take k)=s1 at *;refine wnY (zI3 @g2 @ix @iy) ?_;exact⟨k+1,by omega,_,_,Fz.none,⟨by omega,g2⟩,jt ag0⟩
 obtain rfl:k=y.length:=by omega
 rw[List.take_length] at *;unfold Jt;by_cases hs:oT R y=[]
 ·rw[if_pos hs];have z:decide ((0:Int)<(oT R y).length)=false:=by rw[hs];rfl
  cases ho:jI y b
  ·rw[ho] at hod;refine wnY (aI @z @ct) ?_;exact .int _ _
  ·rw[ho] at hod;refine wnY (aI @z @ct) ?_;exact .int _ _
 ·rw[if_neg hs];have z:decide ((0:Int)<(oT R y).length)=true:=aR (by have:=jN.2 hs;omega);refine wnY (aI @z @ct) ?_;exact .int _ _
end Go.Proofs.YtekdaafnjdlenaaGreat