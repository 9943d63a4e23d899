/- Contracts of functions and plain laws, for all inputs that the theorems name. -/
import Derived.Test.YtekdaafnjdlenaaGreatXG4
import Derived.Test.YtekdaafnjdlenaaGreatXG3

set_option linter.unusedSimpArgs false
set_option linter.unusedVariables false
set_option maxHeartbeats 4000000
namespace Go.Proofs.YtekdaafnjdlenaaGreat
open Go Go.Abs
open Nat (reduceEqDiff reduceAdd reduceLeDiff)
def cP(g:Int->Nat):List Int->Nat
 |[]=>0
 |x::l=>g x+cP g l
theorem iA{g:Int->Nat}:∀(n:Nat)(a b:List Int),a.length+b.length<=n->cP g (bL a b)%2=(cP g a+cP g b)%2
 |_,[],b,_=>by rw[ia];show _=(0+cP g b)%2;rw[cp]
 |_,x::a,[],_=>by rw[fH];show _=(cP g (x::a)+0)%2;rw[oI]
 |0,x::a,y::b,h=>by simp only[bK] at h;omega
 |n+1,x::a,y::b,h=>by
  simp only[bK] at h;rw[kr];by_cases g1:x<y
  ·rw[if_pos g1];have ih:=iA (g:=g) n a (y::b) (by simp only[bK];omega);show(g x+cP g (bL a (y::b)))%2=(g x+cP g a+cP g (y::b))%2;omega
  rw[if_neg g1];by_cases g2:y<x
  ·rw[if_pos g2];have ih:=iA (g:=g) n (x::a) b (by simp only[bK];omega);show(g y+cP g (bL (x::a) b))%2=(cP g (x::a)+(g y+cP g b))%2;omega
  rw[if_neg g2];obtain rfl:x=y:=by omega
  have ih:=iA (g:=g) n a b (by omega);show cP g (bL a b)%2=(g x+cP g a+(g x+cP g b))%2;omega
def lP(R:List (List Int))(n:Nat)(l:Ln):Prop:=(∀z,bit z l.1=cP (λj=>bit z (R.getD j.toNat default)) l.2%2)/\∀j∈l.2,0<=j/\j<(n:Int)
theorem yc{R:List (List Int)}{n:Nat}{x l:Ln}(hx:co x)(hl:co l)(h1:lP R n x)(h2:lP R n l):lP R n (d5 x l):=by
 refine⟨λz=>?_,λj hj=>?_⟩
 ·show bit z (bL x.1 l.1)=cP _ (bL x.2 l.2)%2;rw[dU hx.1 hl.1,iA _ _ _ (aR _),h1.1,h2.1];omega
 ·rcases(du hx.2 hl.2).1 hj with h|h
  ·exact h1.2 j h.1
  ·exact h2.2 j h.1
theorem r8{R:List (List Int)}{n:Nat}{p:Ln->Bool}:∀{M:List Ln}{x:Ln},(∀l∈M,co l/\lP R n l)->co x->lP R n x->lP R n (rdL M p x)
 |[],_,_,_,h=>h
 |l::M,x,hM,hx,h=>by
  obtain⟨hl,hlo⟩:=hM l (dg ..);have hM':=λm hm=>hM m (ec _ hm);show lP R n (rdL M p (if p l=true then d5 x l else x));by_cases hp:p l=true
  ·rw[if_pos hp];exact r8 hM' (eV hx hl) (yc hx hl h hlo)
  ·rw[if_neg hp];exact r8 hM' hx h
theorem lP.mono{R:List (List Int)}{n m:Nat}{l:Ln}(h:lP R n l)(hn:n<=m):lP R m l:=⟨h.1,λj hj=>by have:=h.2 j hj;omega⟩
def stE(R:List (List Int)):Nat->List Ln×List (List Int)
 |0=>([],[])
 |i+1=>if (ee (stE R i).1 (R.getD i default,[(i:Int)])).1=[] then((stE R i).1,(stE R i).2++[(ee (stE R i).1 (R.getD i default,[(i:Int)])).2]) else(jZ (stE R i).1 (ee (stE R i).1 (R.getD i default,[(i:Int)])),(stE R i).2)
structure StOk(R:List (List Int))(i:Nat)(M:List Ln)(D:List (List Int)):Prop where
 red:RedU M
 ok:∀l∈M,lP R i l
 dep:∀y∈D,co ([],y)/\lP R i ([],y)
 len:M.length+D.length=i
 inS:∀l∈M,Sp (R.take i) l.1
 all:∀r∈R.take i,Sp (M.map Prod.fst) r
theorem ey{M:List Ln}(h:RedU M):∀r∈M.map Prod.fst,bq r:=λr hr=>by
 obtain⟨l,hl,rfl⟩:=bG.1 hr;exact(h.asc l hl).1
theorem gv{R:List (List Int)}(hR:∀r∈R,bq r):∀{i:Nat},i<=R.length->StOk R i (stE R i).1 (stE R i).2
 |0,_=>⟨⟨λ_ h=>(by cases h),λ_ h=>(by cases h),λ_ h=>(by cases h),List.nodup_nil⟩,λ_ h=>(by cases h),λ_ h=>(by cases h),rfl,λ_ h=>(by cases h),λ_ h=>(by cases h)⟩
 |i+1,hi=>by
  have ih:=gv hR (i:=i) (by omega);have hx:co (R.getD i default,[(i:Int)]):=⟨hR _ (ay (by omega)),List.pairwise_singleton ..⟩
  have hxo:lP R (i + 1) (R.getD i default,[(i:Int)]):=⟨fun z=>by
   have:=hZ (z:=z) (a:=R.getD i default);show bit z (R.getD i default)=(bit z (R.getD ((i:Nat):Int).toNat default)+0)%2;rw[cz];omega,λj hj=>by rw[cW.1 hj];omega⟩
  have hMo:∀l∈(stE R i).1,co l/\lP R (i+1) l:=λl hl=>⟨ih.red.asc l hl,(ih.ok l hl).mono (by omega)⟩
  have hya:co (ee (stE R i).1 (R.getD i default,[(i:Int)])):=io ih.red.asc hx;have hyo:lP R (i+1) (ee (stE R i).1 (R.getD i default,[(i:Int)])):=r8 hMo hx hxo;have hyn:=λl hl=>kD ih.red hx (l:=l) hl;have hysp:Sp ((stE R i).1.map Prod.fst) (bL (R.getD i default) (ee (stE R i).1 (R.getD i default,[(i:Int)])).1):=ui (ey ih.red) (λl hl=>⟨ih.red.asc l hl,bG.2 ⟨l,hl,rfl⟩⟩) hx;have htk:R.take (i+1)=R.take i++[R.getD i default]:=bI (by omega);have hTa:∀r∈R.take (i+1),bq r:=λr hr=>hR r (gV hr);unfold stE;generalize ee (stE R i).1 (R.getD i default,[(i:Int)])=y at *;generalize (stE R i).1=M at *;generalize (stE R i).2=D at *;have hup:∀l∈M,Sp (R.take (i+1)) l.1:=λl hl=>kq (λr hr=>by rw[htk];exact mH _ hr) (ih.inS l hl)
  have hMsp:∀ {v},Sp (M.map Prod.fst) v→Sp (R.take (i + 1)) v:=fun hv=>kd hTa (fun r hr=>by
   obtain⟨l,hl,rfl⟩:=bG.1 hr;exact hup l hl) hv
  by_cases h0:y.1=[]
  ·rw[if_pos h0];rw[h0,fH] at hysp;refine⟨ih.red,λl hl=>(hMo l hl).2,λz hz=>?_,?_,hup,λr hr=>?_⟩
   ·rcases eC.1 hz with h|h
    ·exact⟨(ih.dep z h).1,(ih.dep z h).2.mono (by omega)⟩
    ·rw[cW.1 h];have e:(([],y.2):Ln)=y:=by rw[<-h0]
     rw[e];exact⟨hya,hyo⟩
   ·show M.length+(D++[y.2]).length=i+1;rw[cA,List.length_singleton];have:=ih.len;omega
   ·rw[htk] at hr;rcases eC.1 hr with h|h
    ·exact ih.all r h
    ·rw[cW.1 h];exact hysp
  ·rw[if_neg h0];have hi2:=Db ih.red hya h0 hyn
   have hyS:Sp (R.take (i+1)) y.1:=by
    have h1:=hMsp hysp;have h2:Sp (R.take (i+1)) (R.getD i default):=dS (by rw[htk];exact lW _ (cW.2 rfl));have h3:=kp hTa h2 h1
    rwa [eG hx.1 hx.1 hya.1,fx hx.1,ia] at h3
   have hyI:y∈jZ M y:=lW _ (cW.2 rfl)
   have hcl:∀l∈M,Sp ((jZ M y).map Prod.fst) l.1:=λl hl=>by
    have hm:jJ y l∈jZ M y:=mH _ (bG.2 ⟨l,hl,rfl⟩);have h1:=dS (bG.2 ⟨_,hm,rfl⟩:(jJ y l).1∈(jZ M y).map Prod.fst);unfold jJ at h1;by_cases h:ld y.1∈l.1
    ·rw[if_pos h] at h1;have h2:=kp (ey hi2) h1 (dS (bG.2 ⟨_,hyI,rfl⟩));have hla:=(ih.red.asc l hl).1
     rwa [show(d5 l y).1=bL l.1 y.1 from rfl,<-eG hla hya.1 hya.1,fx hya.1,fH] at h2
    ·rwa [if_neg h] at h1
   refine⟨hi2,λm hm=>?_,λz hz=>⟨(ih.dep z hz).1,(ih.dep z hz).2.mono (by omega)⟩,?_,λm hm=>?_,λr hr=>?_⟩
   ·rcases eC.1 hm with h|h
    ·obtain⟨l,hl,rfl⟩:=bG.1 h;unfold jJ;split
     ·exact yc (hMo l hl).1 hya (hMo l hl).2 hyo
     ·exact(hMo l hl).2
    ·rw[cW.1 h];exact hyo
   ·show(jZ M y).length+D.length=i+1;unfold jZ;rw[cA,bi,List.length_singleton];have:=ih.len;omega
   ·rcases eC.1 hm with h|h
    ·obtain⟨l,hl,rfl⟩:=bG.1 h;unfold jJ;split
     ·exact kp hTa (hup l hl) hyS
     ·exact hup l hl
    ·rw[cW.1 h];exact hyS
   ·have hMI:∀ {v},Sp (M.map Prod.fst) v→Sp ((jZ M y).map Prod.fst) v:=fun hv=>kd (ey hi2) (fun r hr=>by
      obtain⟨l,hl,rfl⟩:=bG.1 hr;exact hcl l hl) hv
    rw[htk] at hr;rcases eC.1 hr with h|h
    ·exact hMI (ih.all r h)
    ·rw[cW.1 h];have h2:=kp (ey hi2) (hMI hysp) (dS (bG.2 ⟨_,hyI,rfl⟩))
     rwa [<-eG hx.1 hya.1 hya.1,fx hya.1,fH] at h2
def lQ(M:List Ln)(c:Nat):List Ln:=(List.range c).filterMap λ(k:Nat)=>M.find? λl=>decide (ld l.1=(k:Int))
theorem qb{M:List Ln}{c:Nat}:lQ M (c+1)=lQ M c++(M.find? λl=>decide (ld l.1=(c:Int))).toList:=by
 unfold lQ;rw[List.range_succ,List.filterMap_append]
 congr 1
theorem pF{M:List Ln}{c:Nat}{l:Ln}(hM:RedU M):l∈lQ M c↔l∈M/\0<=ld l.1/\ld l.1<c:=by
 unfold lQ;rw[List.mem_filterMap];constructor
 ·rintro⟨k,hk,h⟩;have h1:=List.mem_of_find?_eq_some h;have h2:ld l.1=(k:Int):=by simpa using List.find?_some h
  have:=ed.1 hk;exact⟨h1,by omega,by omega⟩
 ·rintro⟨h1,h2,h3⟩;refine⟨(ld l.1).toNat,ed.2 (by omega),?_⟩;cases h:M.find? λm=>decide (ld m.1=((ld l.1).toNat:Int)) with
  |none=>
   have:=List.find?_eq_none.1 h l h1;rw[gB] at this;omega
  |some m=>
   have e:ld m.1=((ld l.1).toNat:Int):=by simpa using List.find?_some h
   have hm:=List.mem_of_find?_eq_some h
   congr 1
   refine hM.own l h1 m hm ?_;rw[show ld l.1=ld m.1 by omega];exact dq (hM.ne m hm)
theorem lZ{M:List Ln}(hM:RedU M):∀{c:Nat},(lQ M c).Pairwise λa b=>ld a.1<ld b.1
 |0=>qB
 |c+1=>by
  rw[qb];refine List.pairwise_append.2 ⟨lZ hM,?_,λa ha b hb=>?_⟩
  ·cases M.find? λl=>decide (ld l.1=(c:Int))
   ·exact qB
   ·exact List.pairwise_singleton ..
  ·have h1:=((pF hM).1 ha).2.2;have h2:ld b.1=(c:Int):=by simpa using List.find?_some (Option.mem_toList.1 hb)
   omega
theorem Et{M:List Ln}{c:Nat}(hM:RedU M):Red ((lQ M c).map Prod.fst):=by
 have hm:∀r∈(lQ M c).map Prod.fst,∃l∈M,l.1=r:=λr hr=>by
  obtain⟨l,hl,rfl⟩:=bG.1 hr;exact⟨l,((pF hM).1 hl).1,rfl⟩
 refine⟨λr hr=>?_,λr hr=>?_,λr hr q hq h=>?_,List.pairwise_map.2 (lZ hM)⟩
 ·obtain⟨l,hl,rfl⟩:=hm r hr;exact(hM.asc l hl).1
 ·obtain⟨l,hl,rfl⟩:=hm r hr;exact hM.ne l hl
 ·obtain⟨l,hl,rfl⟩:=hm r hr;obtain⟨k,hk,rfl⟩:=hm q hq;rw[hM.own l hl k hk h]
def lC(R:List (List Int))(c:Nat):List Ln:=lQ (stE R R.length).1 c
def c7(R:List (List Int))(c:Nat):List (List Int):=(lC R c).map Prod.fst
theorem jU{S:List (List Int)}{v:List Int}{P:Int->Prop}(hS:∀r∈S,bq r)(hP:∀r∈S,∀z∈r,P z)(h:Sp S v):∀z∈v,P z:=by
 induction h with
 |nil=>exact λz hz=>by cases hz
 | @add w r h1 h2 ih=>
  intro z hz;rcases(du (mM hS h1) (hS r h2)).1 hz with q|q
  ·exact ih z q.1
  ·exact hP r h2 z q.1
theorem ib{R:List (List Int)}{c:Nat}(hR:∀r∈R,bq r)(hv:∀r∈R,∀z∈r,0<=z/\z<(c:Int)):Red (c7 R c)/\(∀v,Sp (c7 R c) v↔Sp R v)/\∀l,l∈lC R c↔l∈(stE R R.length).1:=by
 have hs:=gv hR (aR R.length);have hin:=hs.inS;have hall:=hs.all;rw[show R.take R.length=R from List.take_length] at hin hall
 have hmem:∀l,l∈lC R c↔l∈(stE R R.length).1:=λl=>by
  unfold lC;rw[pF hs.red];refine⟨λh=>h.1,λh=>?_⟩;have:=jU hR hv (hin l h) _ (dq (hs.red.ne l h));exact⟨h,this.1,this.2⟩
 have hred:Red (c7 R c):=Et hs.red;refine⟨hred,λv=>⟨λh=>kd hR (λr hr=>?_) h,λh=>kd hred.asc (λr hr=>?_) h⟩,hmem⟩
 ·obtain⟨l,hl,rfl⟩:=bG.1 hr;exact hin l ((hmem l).1 hl)
 ·refine kd hred.asc (λq hq=>?_) (hall r hr);obtain⟨l,hl,rfl⟩:=bG.1 hq;exact dS (bG.2 ⟨l,(hmem l).2 hl,rfl⟩)
theorem oT{α:Type}[Inhabited α]{f:Nat->α}{n i:Nat}(h:i<n):((List.range n).map f).getD i default=f i:=by
 simp[List.getD,h]
theorem nX{α:Type}[Inhabited α]{l:List α}{x:α}(h:x∈l):∃i,i<l.length/\l.getD i default=x:=by
 obtain⟨i,hi,e⟩:=jK h;exact⟨i,hi,by simp[List.getD,hi,e]⟩
def ul(rows:List (List Int))(n c:Nat):Option Nat:=(List.range rows.length).find? λi=>decide (n<=i)&&decide ((c:Int)∈rows.getD i default)
def swI(n k i:Nat):Nat:=if i=n then k else if i=k then n else i
def swL(rows:List (List Int))(n k:Nat):List (List Int):=(List.range rows.length).map λi=>rows.getD (swI n k i) default
def elF(rows:List (List Int))(n c i:Nat):List Int:=if i≠n/\(c:Int)∈rows.getD i default then bL (rows.getD i default) (rows.getD n default) else rows.getD i default
def elL(rows:List (List Int))(n c:Nat):List (List Int):=(List.range rows.length).map (elF rows n c)
def stR(R:List (List Int)):Nat->List (List Int)×Nat
 |0=>(R,0)
 |c+1=>match ul (stR R c).1 (stR R c).2 c with
  |none=>stR R c
  |some k=>(elL (swL (stR R c).1 (stR R c).2 k) (stR R c).2 c,(stR R c).2+1)
structure RdOk(R rows:List (List Int))(n c:Nat):Prop where
 asc:∀i,i<R.length->bq (rows.getD i default)
 len:rows.length=R.length
 nle:n<=R.length
 sp:∀v,Sp rows v↔Sp R v
 top:∀i,i<n->rows.getD i default≠[]/\ld (rows.getD i default)<c
 own:∀i,i<n->∀j,j<R.length->ld (rows.getD i default)∈rows.getD j default->j=i
 ord:∀i j,i<j->j<n->ld (rows.getD i default)<ld (rows.getD j default)
 low:∀i,n<=i->i<R.length->∀z∈rows.getD i default,(c:Int)<=z
theorem ou{n k i N:Nat}(hn:n<N)(hk:k<N)(hi:i<N):swI n k i<N:=by
 unfold swI;split
 ·exact hk
 ·split
  ·exact hn
  ·exact hi
theorem yv{n k i:Nat}:swI n k (swI n k i)=i:=by
 unfold swI;by_cases h1:i=n
 ·subst h1;rw[if_pos rfl];by_cases h2:k=i
  ·rw[if_pos h2];exact h2
  ·rw[if_neg h2,if_pos rfl]
 ·rw[if_neg h1];by_cases h2:i=k
  ·rw[if_pos h2,if_pos rfl];exact h2.symm
  ·rw[if_neg h2,if_neg h1,if_neg h2]
theorem HR{rows:List (List Int)}{N:Nat}(hl:rows.length=N)(h:∀i,i<N->bq (rows.getD i default)):∀r∈rows,bq r:=λr hr=>by
 obtain⟨i,hi,e⟩:=nX hr;rw[<-e];exact h i (by omega)
theorem IA{rows:List (List Int)}{n k:Nat}(hn:n<rows.length)(hk:k<rows.length)(v:List Int):Sp (swL rows n k) v↔Sp rows v:=by
 constructor
 ·refine kq λr hr=>?_;obtain⟨i,hi,rfl⟩:=bG.1 hr;exact ay (ou hn hk (ed.1 hi))
 ·refine kq λr hr=>?_;obtain⟨i,hi,rfl⟩:=nX hr;refine bG.2 ⟨swI n k i,ed.2 (ou hn hk hi),?_⟩;rw[yv]
theorem Jv{rows:List (List Int)}{n c:Nat}(ha:∀i,i<rows.length->bq (rows.getD i default))(hn:n<rows.length)(v:List Int):Sp (elL rows n c) v↔Sp rows v:=by
 have hE:∀i,i<rows.length->bq (elF rows n c i):=λi hi=>by
  unfold elF;split
  ·exact eb (ha i hi) (ha n hn)
  ·exact ha i hi
 have hEa:∀r∈elL rows n c,bq r:=λr hr=>by
  obtain⟨i,hi,rfl⟩:=bG.1 hr;exact hE i (ed.1 hi)
 have hRa:=HR rfl ha;have hin:∀i,i<rows.length->elF rows n c i∈elL rows n c:=λi hi=>bG.2 ⟨i,ed.2 hi,rfl⟩
 have hpn:Sp (elL rows n c) (rows.getD n default):=by
  have h:=dS (hin n hn);unfold elF at h
  rwa [if_neg (λq=>q.1 rfl)] at h
 constructor
 ·refine kd hRa λr hr=>?_;obtain⟨i,hi,rfl⟩:=bG.1 hr;have hi:=ed.1 hi;unfold elF;split
  ·exact kp hRa (dS (ay hi)) (dS (ay hn))
  ·exact dS (ay hi)
 ·refine kd hEa λr hr=>?_;obtain⟨i,hi,rfl⟩:=nX hr;have h:=dS (hin i hi);unfold elF at h;split at h
  ·have h2:=kp hEa h hpn
   rwa [<-eG (ha i hi) (ha n hn) (ha n hn),fx (ha n hn),fH] at h2
  ·exact h
theorem FZ{R:List (List Int)}(hR:∀r∈R,bq r)(hv:∀r∈R,∀z∈r,(0:Int)<=z):∀{c:Nat},RdOk R (stR R c).1 (stR R c).2 c
 |0=>⟨λi hi=>hR _ (ay hi),rfl,bw _,λ_=>Iff.rfl,λi h=>absurd h (Nat.not_lt_zero _),λi h=>absurd h (Nat.not_lt_zero _),λi j _ h=>absurd h (Nat.not_lt_zero _),λi _ hi z hz=>hv _ (ay hi) z hz⟩
 |c+1=>by
  have ih:=FZ hR hv (c:=c);unfold stR;generalize e1:(stR R c).1=rows at *;generalize e2:(stR R c).2=n at *;obtain⟨i1,i2,i3,i4,i5,i6,i7,i8⟩:=ih;cases hp:ul rows n c with
  |none=>
   show RdOk R (stR R c).1 (stR R c).2 (c+1);rw[e1,e2];refine⟨i1,i2,i3,i4,λi hi=>⟨(i5 i hi).1,by have:=(i5 i hi).2;omega⟩,i6,i7,λi h1 h2 z hz=>?_⟩;have h3:=i8 i h1 h2 z hz;have h4:=List.find?_eq_none.1 hp i (ed.2 (by omega));have h5:z≠(c:Int):=λe=>h4 (by rw[<-e];simp only[dN,gB];exact⟨h1,hz⟩);omega
  |some k=>
   show RdOk R (elL (swL rows n k) n c) (n+1) (c+1);have k1:=ed.1 (List.mem_of_find?_eq_some hp)
   have k2:n<=k/\(c:Int)∈rows.getD k default:=by
    have:=List.find?_some hp;simpa only[dN,gB] using this
   obtain⟨k3,k4⟩:=k2;have hkN:k<R.length:=by omega
   have hnN:n<R.length:=by omega
   have sl:(swL rows n k).length=R.length:=by unfold swL;rw[bi,List.length_range,i2]
   have gs:∀i,i<R.length->(swL rows n k).getD i default=rows.getD (swI n k i) default:=λi hi=>oT (by omega)
   have gp:(swL rows n k).getD n default=rows.getD k default:=by
    rw[gs n hnN];unfold swI;rw[if_pos rfl]
   have ge:∀i,i<R.length->(elL (swL rows n k) n c).getD i default=elF (swL rows n k) n c i:=λi hi=>oT (by omega)
   have gn:(elL (swL rows n k) n c).getD n default=rows.getD k default:=by
    rw[ge n hnN];unfold elF;rw[if_neg (λq=>q.1 rfl),gp]
   have gi:∀i,i<R.length->i≠n->(elL (swL rows n k) n c).getD i default=if (c:Int)∈rows.getD (swI n k i) default then bL (rows.getD (swI n k i) default) (rows.getD k default) else rows.getD (swI n k i) default:=λi hi hn=>by
    rw[ge i hi];unfold elF;rw[gs i hi,gp];by_cases h:(c:Int)∈rows.getD (swI n k i) default
    ·rw[if_pos ⟨hn,h⟩,if_pos h]
    ·rw[if_neg (λq=>h q.2),if_neg h]
   have hpa:=i1 k hkN;have hpl:=i8 k k3 hkN;have hsa:∀i,i<R.length->bq (rows.getD (swI n k i) default):=λi hi=>i1 _ (ou hnN hkN hi);have hld:ld (rows.getD k default)=c:=Int.le_antisymm (nT hpa k4) (hpl _ (dq (λe=>by rw[e] at k4;cases k4)));have hpne:rows.getD k default≠[]:=λe=>by rw[e] at k4;cases k4
   have hsw:∀i,i<n->swI n k i=i:=λi hi=>by unfold swI;rw[if_neg (by omega),if_neg (by omega)]
   have hnp:∀i,i<n->ld (rows.getD i default)∉rows.getD k default:=λi hi h=>by have:=i6 i hi k hkN h;omega
   have hsw2:∀v,Sp (swL rows n k) v↔Sp rows v:=λv=>IA (by omega) (by omega) v;have hda:∀i,i<(swL rows n k).length->bq ((swL rows n k).getD i default):=λi hi=>by rw[gs i (by omega)];exact hsa i (by omega)
   have hmem:∀j,j<R.length->j≠n->∀z,z∈(elL (swL rows n k) n c).getD j default->z∉rows.getD k default->z∈rows.getD (swI n k j) default:=λj hj hn z hz hzp=>by
    rw[gi j hj hn] at hz;split at hz
    ·rcases(du (hsa j hj) hpa).1 hz with q|q
     ·exact q.1
     ·exact absurd q.1 hzp
    ·exact hz
   have hlow:∀j,j<R.length->j≠n->(c:Int)∉(elL (swL rows n k) n c).getD j default:=λj hj hn hz=>by
    rw[gi j hj hn] at hz;split at hz
    ·rename_i h;rcases(du (hsa j hj) hpa).1 hz with q|q
     ·exact q.2 k4
     ·exact q.2 h
    ·rename_i h;exact h hz
   have htop:∀i,i<n->ld ((elL (swL rows n k) n c).getD i default)=ld (rows.getD i default)/\(elL (swL rows n k) n c).getD i default≠[]:=λi hi=>by
    obtain⟨t1,t2⟩:=i5 i hi;rw[gi i (by omega) (by omega),hsw i hi];split
    ·have hm:ld (rows.getD i default)∈bL (rows.getD i default) (rows.getD k default):=(du (i1 i (by omega)) hpa).2 (.inl ⟨dq t1,hnp i hi⟩);have hne:bL (rows.getD i default) (rows.getD k default)≠[]:=λe=>by rw[e] at hm;cases hm
     refine⟨Int.le_antisymm (nT (eb (i1 i (by omega)) hpa) hm) ?_,hne⟩;rcases(du (i1 i (by omega)) hpa).1 (dq hne) with q|q
     ·exact nT (i1 i (by omega)) q.1
     ·have:=hpl _ q.1;omega
    ·exact⟨rfl,t1⟩
   refine⟨λi hi=>?_,?_,by omega,λv=>?_,λi hi=>?_,λi hi j hj h=>?_,λi j hij hj=>?_,λi h1 h2 z hz=>?_⟩
   ·rw[ge i hi];unfold elF;split
    ·exact eb (hda i (by omega)) (hda n (by omega))
    ·exact hda i (by omega)
   ·unfold elL;rw[bi,List.length_range,sl]
   ·rw[Jv hda (by omega),hsw2,i4]
   ·by_cases hin:i=n
    ·subst hin;rw[gn,hld];exact⟨hpne,by omega⟩
    ·obtain⟨t1,t2⟩:=htop i (by omega);rw[t1];have:=(i5 i (by omega)).2;exact⟨t2,by omega⟩
   ·by_cases hin:i=n
    ·subst hin;rw[gn,hld] at h;exact Decidable.byContradiction λhne=>hlow j hj hne h
    ·have hi':i<n:=by omega
     rw[(htop i hi').1] at h;by_cases hjn:j=n
     ·subst hjn;rw[gn] at h;exact absurd h (hnp i hi')
     ·have h3:=i6 i hi' _ (ou hnN hkN hj) (hmem j hj hjn _ h (hnp i hi'));have h4:=congrArg (swI n k) h3;rw[yv,hsw i hi'] at h4;exact h4
   ·by_cases hjn:j=n
    ·subst hjn;rw[gn,hld,(htop i hij).1];exact(i5 i hij).2
    ·rw[(htop i (by omega)).1,(htop j (by omega)).1];exact i7 i j hij (by omega)
   ·have hz2:z≠(c:Int):=λe=>hlow i h2 (by omega) (e▸hz);have hs:n<=swI n k i:=by unfold swI;split<;>(try split)<;>omega
    rw[gi i h2 (by omega)] at hz
    have hz3:(c:Int)<=z:=by
     split at hz
     ·rcases(du (hsa i h2) hpa).1 hz with q|q
      ·exact i8 _ hs (ou hnN hkN h2) z q.1
      ·exact hpl z q.1
     ·exact i8 _ hs (ou hnN hkN h2) z hz
    omega
def xZ(R:List (List Int))(c:Nat):List (List Int):=(stR R c).1.take (stR R c).2
theorem sN{R:List (List Int)}{c:Nat}(hR:∀r∈R,bq r)(hv:∀r∈R,∀z∈r,0<=z/\z<(c:Int)):xZ R c=c7 R c:=by
 have h:=FZ hR (λr hr z hz=>(hv r hr z hz).1) (c:=c);obtain⟨e1,e2,_⟩:=ib hR hv;unfold xZ;generalize (stR R c).1=rows at *;generalize (stR R c).2=n at *;obtain⟨i1,i2,i3,i4,i5,i6,i7,i8⟩:=h;have hlt:(rows.take n).length=n:=by rw[eM];omega
 have hg:∀i,i<n->(rows.take n).getD i default=rows.getD i default:=λi hi=>by
  simp[List.getD,jg,hi]
 have hex:∀r∈rows.take n,∃i,i<n/\rows.getD i default=r:=λr hr=>by
  obtain⟨i,hi,e⟩:=nX hr;exact⟨i,by omega,by rw[<-e,hg i (by omega)]⟩
 have hsub:∀r∈R,∀z∈r,0<=z/\z<(c:Int):=hv
 have hred:Red (rows.take n):=by
  refine⟨λr hr=>?_,λr hr=>?_,λr hr q hq hl=>?_,?_⟩
  ·obtain⟨i,hi,rfl⟩:=hex r hr;exact i1 i (by omega)
  ·obtain⟨i,hi,rfl⟩:=hex r hr;exact(i5 i hi).1
  ·obtain⟨i,hi,rfl⟩:=hex r hr;obtain⟨j,hj,rfl⟩:=hex q hq;rw[i6 i hi j (by omega) hl]
  ·rw[k9];intro i j hi hj hij;have h1:=hg i (by omega);have h2:=hg j (by omega);simp only[List.getD,hi,hj,rL,uE] at h1 h2;rw[h1,h2];exact i7 i j hij (by omega)
 refine oX hred e1 λv=>?_;rw[e2,<-i4];constructor
 ·exact kq λr hr=>gV hr
 ·refine kd hred.asc λr hr=>?_;obtain⟨i,hi,e⟩:=nX hr;by_cases hin:i<n
  ·refine dS ?_;rw[<-e,<-hg i hin];exact ay (by omega)
  ·have hnil:r=[]:=by
     cases hr0:r with
     |nil=>rfl
     |cons z l=>
      have hz:z∈rows.getD i default:=by rw[e,hr0];exact dg ..
      have h1:=i8 i (by omega) (by omega) z hz;have h2:=jU hR hv ((i4 r).1 (dS hr)) z (by rw[hr0];exact dg ..);omega
   rw[hnil];exact Sp.nil
theorem qC{M:List Ln}{v:List Int}(hM:RedU M)(hv:Sp (M.map Prod.fst) v)(h:∀l∈M,ld l.1∉v):v=[]:=by
 have hn:(M.map Prod.fst).Nodup:=List.pairwise_map.2 (List.Pairwise.imp_of_mem (λ{a b} ha hb hab e=>hab (hM.own b hb a ha (by rw[e];exact dq (hM.ne b hb)))) hM.nodup);obtain⟨av,p,hp⟩:=wN (ey hM) hn hv
 have hpf:∀r∈M.map Prod.fst,¬p r=true:=λr hr hpr=>by
  obtain⟨l,hl,rfl⟩:=bG.1 hr;have h1:=hp (ld l.1)
  rw [s5 hn hr (dq (hM.ne l hl)) (fun q hq hz=>by
   obtain⟨m,hm,rfl⟩:=bG.1 hq;rw[hM.own l hl m hm hz]),if_pos hpr] at h1
  exact h l hl (dG.1 (by omega))
 exact ww λz=>by rw[hp z,nq λq hq hpq=>absurd hpq (hpf q hq)]
def w9(R:List (List Int))(z j:Int):Nat:=bit z (R.getD j.toNat default)
theorem uT{f:Ln->List Int}{z:Int}{p:Ln->Bool}:∀{E:List Ln},(∀l∈E,z∉f l)->kV f z p E=0
 |[],_=>rfl
 |r::E,h=>by
  unfold kV;have hb:bit z (f r)=0:=by unfold bit;rw[if_neg (h r (dg ..))]
  rw[hb,uT λl hl=>h l (ec _ hl)];split<;>rfl
theorem xB{R:List (List Int)}(hR:∀r∈R,bq r){i:Nat}(hi:i<=R.length):∀{w:List Int},(∀j∈w,0<=j/\j<(i:Int))->∃v,Sp (R.take i) v/\∀z,bit z v=cP (w9 R z) w%2
 |[],_=>⟨[],Sp.nil,λz=>nt⟩
 |j::w,h=>by
  obtain⟨v,h1,h2⟩:=xB hR hi (w:=w) λk hk=>h k (ec _ hk);have hj:=h j (dg ..);have hT:∀r∈R.take i,bq r:=λr hr=>hR r (gV hr)
  have hm:R.getD j.toNat default∈R.take i:=by
   have hk:j.toNat<(R.take i).length:=by rw[eM];omega
   have:=ay hk
   rwa [show(R.take i).getD j.toNat default=R.getD j.toNat default by simp[List.getD,jg,show j.toNat<i by omega]] at this
  refine⟨_,Sp.add h1 hm,λz=>?_⟩;rw[dU (mM hT h1) (hT _ hm),h2];show _=(bit z (R.getD j.toNat default)+cP (w9 R z) w)%2;omega
theorem yD{R:List (List Int)}(hR:∀r∈R,bq r):∀{i:Nat},i<=R.length->∀{y:List Int},bq y->(∀j∈y,0<=j/\j<(i:Int))->(∀z,cP (w9 R z) y%2=0)->Sp (stE R i).2 y
 |0,_,y,_,hr,_=>by
  cases y with
  |nil=>exact Sp.nil
  |cons j l=>have:=hr j (dg ..);omega
 |i+1,hi,y,hy,hr,h0=>by
  have ih:=λ{y}=>yD hR (i:=i) (by omega) (y:=y);have hs:=gv hR (i:=i) (by omega);have hx:co (R.getD i default,[(i:Int)]):=⟨hR _ (ay (by omega)),List.pairwise_singleton ..⟩
  have hya:co (ee (stE R i).1 (R.getD i default,[(i:Int)])):=io hs.red.asc hx;have hyn:=λl hl=>kD hs.red hx (l:=l) hl;have hysp:Sp ((stE R i).1.map Prod.fst) (bL (R.getD i default) (ee (stE R i).1 (R.getD i default,[(i:Int)])).1):=ui (ey hs.red) (λl hl=>⟨hs.red.asc l hl,bG.2 ⟨l,hl,rfl⟩⟩) hx
  have hxo:lP R (i + 1) (R.getD i default,[(i:Int)]):=⟨fun z=>by
   have:=hZ (z:=z) (a:=R.getD i default);show bit z (R.getD i default)=(bit z (R.getD ((i:Nat):Int).toNat default)+0)%2;rw[cz];omega,λj hj=>by rw[cW.1 hj];omega⟩
  have hyo:lP R (i+1) (ee (stE R i).1 (R.getD i default,[(i:Int)])):=r8 (λl hl=>⟨hs.red.asc l hl,(hs.ok l hl).mono (by omega)⟩) hx hxo
  have hbi:bit (i:Int) (ee (stE R i).1 (R.getD i default,[(i:Int)])).2=1:=by
   unfold ee;rw[ma hs.red.asc hx,uT λl hl h=>by have:=(hs.ok l hl).2 _ h;omega];show(bit (i:Int) [(i:Int)]+0)%2=1;rw[dG.2 (cW.2 rfl)]
  have ha:∀r∈(stE R i).2,bq r:=λr hr=>(hs.dep r hr).1.2;by_cases hiy:(i:Int)∈y
  ·have hone:bq [(i:Int)]:=List.pairwise_singleton ..;by_cases hd:(ee (stE R i).1 (R.getD i default,[(i:Int)])).1=[]
   ·have hst:(stE R (i+1)).2=(stE R i).2++[(ee (stE R i).1 (R.getD i default,[(i:Int)])).2]:=by
      show(if _ then _ else _:List Ln×List (List Int)).2=_;rw[if_pos hd]
    rw[hst];obtain⟨hy1,hy2⟩:=hyo;rw[hd] at hy1;have hxa:=hya.2;generalize (ee (stE R i).1 (R.getD i default,[(i:Int)])).2=x at *
    have h1:Sp (stE R i).2 (bL y x):=ih (eb hy hxa) (fun j hj=>by
     have hne:j≠(i:Int):=λe=>by
      rw[e] at hj;have hb:=dG.2 hj;rw[dU hy hxa,hbi,dG.2 hiy] at hb;cases hb
     rcases(du hy hxa).1 hj with q|q
     ·have:=hr j q.1;omega
     ·have:=hy2 j q.1;omega) (λz=>by
     rw[iA _ _ _ (aR _)];have e1:=h0 z;have e2:bit z []=cP (w9 R z) x%2:=hy1 z;rw[nt] at e2;omega)
    have hm:x∈(stE R i).2++[x]:=lW _ (cW.2 rfl);have h2:=Sp.add (kq (λr hr=>mH [x] hr) h1) hm
    rwa [<-eG hy hxa hxa,fx hxa,fH] at h2
   ·exfalso;refine hd (qC hs.red ?_ hyn)
    have hw:∀j∈bL y [(i:Int)],0<=j/\j<(i:Int):=λj hj=>by
     rcases(du hy hone).1 hj with q|q
     ·have h1:=hr j q.1;have h2:j≠(i:Int):=λe=>q.2 (cW.2 e);omega
     ·exact absurd (cW.1 q.1▸hiy) q.2
    obtain⟨v,v1,v2⟩:=xB hR (i:=i) (by omega) hw;have hT:∀r∈R.take i,bq r:=λr hr=>hR r (gV hr)
    have hv:v=R.getD i default:=jX (mM hT v1) hx.1 λz=>by
     rw[v2,iA _ _ _ (aR _)];have e1:=h0 z;have e2:=hZ (z:=z) (a:=R.getD i default);show(cP (w9 R z) y+(bit z (R.getD ((i:Nat):Int).toNat default)+0))%2=_;rw[cz];omega
    rw[hv] at v1;have h3:=kd (ey hs.red) hs.all v1;have h4:=kp (ey hs.red) h3 hysp
    rwa [eG hx.1 hx.1 hya.1,fx hx.1,ia] at h4
  ·refine kq (fun r hr=>?_) (ih hy (fun j hj=>by
     have h1:=hr j hj;have h2:j≠(i:Int):=λe=>hiy (e▸hj);omega) h0)
   show r∈(if _ then _ else _:List Ln×List (List Int)).2;split
   ·exact mH _ hr
   ·exact hr
def rC(b y:List Int):Bool:=decide (cP (λj=>bit j b) y%2=1)
def wdR(R:List (List Int))(c:Nat)(b:List Int)(i:Nat):List Int:=if (i:Int)∈b then R.getD i default++[(c:Int)] else R.getD i default
def lJ(R:List (List Int))(c:Nat)(b:List Int):List (List Int):=(List.range R.length).map (wdR R c b)
def wdL(c:Nat)(b:List Int)(l:Ln):List Int:=if rC b l.2=true then l.1++[(c:Int)] else l.1
theorem BG{a:List Int}{c:Nat}{t:Bool}(hc:∀z∈a,z<(c:Int))(z:Int):bit z (if t=true then a++[(c:Int)] else a)=if z=c then(if t=true then 1 else 0) else bit z a:=by
 unfold bit;by_cases hz:z=c
 ·have:z∉a:=λh=>by have:=hc z h;omega
  cases t<;>simp[hz,this]
  ·exact λh=>by have:=hc _ h;omega
 ·cases t<;>simp[hz]
theorem BE{a:List Int}{c:Nat}{t:Bool}(ha:bq a)(hc:∀z∈a,z<(c:Int)):bq (if t=true then a++[(c:Int)] else a):=by
 cases t
 ·simpa using ha
 ·rw[if_pos rfl];exact List.pairwise_append.2 ⟨ha,List.pairwise_singleton ..,λx hx y hy=>by rw[cW.1 hy];exact hc x hx⟩
theorem ln{g h:Int->Nat}:∀{l:List Int},(∀x∈l,g x=h x)->cP g l=cP h l
 |[],_=>rfl
 |x::l,e=>by
  unfold cP;rw[e x (dg ..),ln λy hy=>e y (ec _ hy)]
theorem Co{g:Int->Nat}{D:List (List Int)}{y:List Int}(h:Sp D y)(h0:∀d∈D,cP g d%2=0):cP g y%2=0:=by
 induction h with
 |nil=>rfl
 |add h1 h2 ih=>rw[iA _ _ _ (aR _)];have:=h0 _ h2;omega
theorem zQ{g:Int->Nat}{p:Ln->Bool}:∀{M:List Ln}{x:Ln},cP g (rdL M p x).2%2=(cP g x.2+(M.map λl=>if p l=true then cP g l.2%2 else 0).sum)%2
 |[],x=>by show cP g x.2%2=(cP g x.2+0)%2;rfl
 |l::M,x=>by
  have ih:=zQ (g:=g) (p:=p) (M:=M) (x:=if p l=true then d5 x l else x);show cP g (rdL M p (if p l=true then d5 x l else x)).2%2=(cP g x.2+((if p l=true then cP g l.2%2 else 0)+(M.map λl=>if p l=true then cP g l.2%2 else 0).sum))%2;rw[ih];clear ih;by_cases h:p l=true
  ·rw[if_pos h,if_pos h];have:=iA (g:=g) _ x.2 l.2 (aR _);show(cP g (bL x.2 l.2)+_)%2=_;omega
  ·rw[if_neg h,if_neg h];omega
theorem B0{f:Ln->List Int}{p:Ln->Bool}{S:List (List Int)}(hS:∀r∈S,bq r):∀{E:List Ln},(∀l∈E,f l∈S)->∃v,Sp S v/\∀z,bit z v=(E.map λl=>if p l=true then bit z (f l) else 0).sum%2
 |[],_=>⟨[],Sp.nil,λz=>nt⟩
 |l::E,h=>by
  obtain⟨v,v1,v2⟩:=B0 (f:=f) (p:=p) hS (E:=E) λm hm=>h m (ec _ hm);have hl:=h l (dg ..);by_cases hp:p l=true
  ·refine⟨_,Sp.add v1 hl,λz=>?_⟩;rw[dU (mM hS v1) (hS _ hl),v2];show _=((if p l=true then bit z (f l) else 0)+(E.map λl=>if p l=true then bit z (f l) else 0).sum)%2;rw[if_pos hp];omega
  ·refine⟨v,v1,λz=>?_⟩;rw[v2];show _=((if p l=true then bit z (f l) else 0)+(E.map λl=>if p l=true then bit z (f l) else 0).sum)%2;rw[if_neg hp,cp]
theorem ym{f:Ln->List Int}{z:Int}{p:Ln->Bool}:∀{E:List Ln},(E.map λl=>if p l=true then bit z (f l) else 0).sum=kV f z p E
 |[]=>rfl
 |l::E=>by
  show(if p l=true then bit z (f l) else 0)+(E.map λl=>if p l=true then bit z (f l) else 0).sum=_;rw[ym];rfl
theorem zt{R:List (List Int)}{c:Nat}{b:List Int}{i:Nat}(h:i<R.length):(lJ R c b).getD i default=wdR R c b i:=oT h
theorem n8{R:List (List Int)}{c:Nat}{b:List Int}(hR:∀r∈R,bq r)(hv:∀r∈R,∀z∈r,0<=z/\z<(c:Int)):
    (∀r∈lJ R c b,bq r)/\(∀r∈lJ R c b,∀z∈r,0<=z/\z<((c+1:Nat):Int))/\∀i,i<R.length->∀z,bit z ((lJ R c b).getD i default)=if z=c then bit (i:Int) b else bit z (R.getD i default):=by
 have hw:∀i,wdR R c b i=if decide ((i:Int)∈b)=true then R.getD i default++[(c:Int)] else R.getD i default:=λi=>by
  unfold wdR;by_cases h:(i:Int)∈b<;>simp[h]
 refine⟨λr hr=>?_,λr hr z hz=>?_,λi hi z=>?_⟩
 ·obtain⟨i,hi,rfl⟩:=bG.1 hr;have hi:=ed.1 hi;rw[hw];exact BE (hR _ (ay hi)) λz hz=>(hv _ (ay hi) z hz).2
 ·obtain⟨i,hi,rfl⟩:=bG.1 hr;have hi:=ed.1 hi;have hvi:=hv _ (ay hi);unfold wdR at hz;split at hz
  ·rcases eC.1 hz with h|h
   ·have:=hvi z h;omega
   ·rw[cW.1 h];omega
  ·have:=hvi z hz;omega
 ·rw[zt hi,hw,BG (λz hz=>(hv _ (ay hi) z hz).2)];by_cases h:z=c
  ·rw[if_pos h,if_pos h];by_cases hb:(i:Int)∈b<;>simp[hb,bit]
  ·rw[if_neg h,if_neg h]
theorem Dy{R:List (List Int)}{c:Nat}{b:List Int}(hR:∀r∈R,bq r)(hv:∀r∈R,∀z∈r,0<=z/\z<(c:Int)){y:List Int}(hy:∀j∈y,0<=j/\j<(R.length:Int))(z:Int):
    cP (w9 (lJ R c b) z) y=if z=c then cP (λj=>bit j b) y else cP (w9 R z) y:=by
 obtain⟨_,_,h3⟩:=n8 (b:=b) hR hv;by_cases h:z=c
 ·rw[if_pos h];refine ln λj hj=>?_;have:=hy j hj;unfold w9;rw[h3 j.toNat (by omega),if_pos h,show((j.toNat:Nat):Int)=j by omega]
 ·rw[if_neg h];refine ln λj hj=>?_;have:=hy j hj;unfold w9;rw[h3 j.toNat (by omega),if_neg h]
theorem CT{R:List (List Int)}{c:Nat}{b:List Int}(hR:∀r∈R,bq r)(hv:∀r∈R,∀z∈r,0<=z/\z<(c:Int))(h0:∀y∈(stE R R.length).2,rC b y=false):xZ (lJ R c b) (c+1)=(lC R c).map (wdL c b):=by
 obtain⟨h1,h2,h3⟩:=n8 (b:=b) hR hv;have hs:=gv hR (aR R.length);obtain⟨e1,e2,_⟩:=ib h1 h2;obtain⟨d1,d2,d3⟩:=ib hR hv;rw[sN h1 h2];have hl:(lJ R c b).length=R.length:=by unfold lJ;simp
 have hlv:∀l∈(stE R R.length).1,∀z∈l.1,0<=z/\z<(c:Int):=λl hl=>jU hR hv (kq (λr hr=>gV hr) (hs.inS l hl))
 have hbw:∀l∈(stE R R.length).1,∀z,bit z (wdL c b l)=if z=c then cP (λj=>bit j b) l.2%2 else bit z l.1:=λl hl z=>by
  unfold wdL;rw[BG λz hz=>(hlv l hl z hz).2];by_cases h:z=c
  ·rw[if_pos h,if_pos h];unfold rC;by_cases ho:cP (λj=>bit j b) l.2%2=1
   ·simp[ho]
   ·simp[ho];omega
  ·rw[if_neg h,if_neg h]
 have hwa:∀l∈(stE R R.length).1,bq (wdL c b l):=λl hl=>BE (hs.red.asc l hl).1 λz hz=>(hlv l hl z hz).2
 have hldw:∀l∈(stE R R.length).1,ld (wdL c b l)=ld l.1:=λl hl=>by
  have hne:=hs.red.ne l hl;unfold wdL;split
  ·cases hq:l.1 with
   |nil=>exact absurd hq hne
   |cons x t=>rfl
  ·rfl
 have hF:Red ((lC R c).map (wdL c b)):=by
  refine⟨λr hr=>?_,λr hr=>?_,λr hr q hq h=>?_,?_⟩
  ·obtain⟨l,hl,rfl⟩:=bG.1 hr;exact hwa l ((d3 l).1 hl)
  ·obtain⟨l,hl,rfl⟩:=bG.1 hr;have hne:=hs.red.ne l ((d3 l).1 hl);unfold wdL;split
   ·simp
   ·exact hne
  ·obtain⟨l,hl,rfl⟩:=bG.1 hr;obtain⟨m,hm,rfl⟩:=bG.1 hq;have hl:=(d3 l).1 hl;have hm:=(d3 m).1 hm;rw[hldw l hl] at h;have h4:=dG.2 h;have h5:=hlv l hl _ (dq (hs.red.ne l hl));rw[hbw m hm,if_neg (by omega)] at h4;rw[hs.red.own l hl m hm (dG.1 h4)]
  ·rw[List.pairwise_map];refine List.Pairwise.imp_of_mem (λ{x y} hx hy h=>?_) (lZ hs.red (c:=c));rw[hldw x ((d3 x).1 hx),hldw y ((d3 y).1 hy)];exact h
 refine oX e1 hF λv=>?_;rw[e2];have hTk:∀r∈(lJ R c b).take R.length,bq r:=λr hr=>h1 r (gV hr);constructor
 ·refine kd hF.asc λr hr=>?_;obtain⟨i,hi,e⟩:=nX hr;have hiR:i<R.length:=by omega
  have hx:co (R.getD i default,[(i:Int)]):=⟨hR _ (ay hiR),List.pairwise_singleton ..⟩
  have hxo:lP R R.length (R.getD i default,[(i:Int)]):=⟨fun z=>by
   have:=hZ (z:=z) (a:=R.getD i default);show bit z (R.getD i default)=(bit z (R.getD ((i:Nat):Int).toNat default)+0)%2;rw[cz];omega,λj hj=>by rw[cW.1 hj];omega⟩
  have hya:=io (p:=fc (R.getD i default,[(i:Int)])) hs.red.asc hx;have hyo:=r8 (p:=fc (R.getD i default,[(i:Int)])) (λl hl=>⟨hs.red.asc l hl,hs.ok l hl⟩) hx hxo;have hysp:=ui (p:=fc (R.getD i default,[(i:Int)])) (ey hs.red) (λl hl=>⟨hs.red.asc l hl,bG.2 ⟨l,hl,rfl⟩⟩) hx;have hyn:=λl hl=>kD hs.red hx (l:=l) hl;have hb1:=λz=>kH (p:=fc (R.getD i default,[(i:Int)])) (z:=z) hs.red.asc hx;have hg:=zQ (g:=λj=>bit j b) (p:=fc (R.getD i default,[(i:Int)])) (M:=(stE R R.length).1) (x:=(R.getD i default,[(i:Int)]));unfold ee at hyn;generalize hpp:fc (R.getD i default,[(i:Int)])=p at *;have hRi:Sp ((stE R R.length).1.map Prod.fst) (R.getD i default):=hs.all _ (by rw[List.take_length];exact ay hiR)
  have hnil:(rdL (stE R R.length).1 p (R.getD i default,[(i:Int)])).1=[]:=by
   refine qC hs.red ?_ hyn;have h4:=kp (ey hs.red) hRi hysp
   rwa [eG hx.1 hx.1 hya.1,fx hx.1,ia] at h4
  obtain⟨q1,q2⟩:=hyo;rw[hnil] at q1
  have hdep:=yD hR (aR R.length) hya.2 q2 λz=>by
   have:=q1 z;rw[nt] at this;exact this.symm
  have hev:=Co (g:=λj=>bit j b) hdep λd hd=>by
   have:=h0 d hd;unfold rC at this;have:=of_decide_eq_false this;omega
  obtain⟨u,u1,u2⟩:=B0 (f:=wdL c b) (p:=p) hF.asc (E:=(stE R R.length).1) λl hl=>bG.2 ⟨l,(d3 l).2 hl,rfl⟩
  have hur:u=r:=by
   refine jX (mM hF.asc u1) (h1 r hr) λz=>?_;rw[<-e,h3 i hiR,u2];by_cases h:z=c
   ·rw[if_pos h,h]
    have hm:((stE R R.length).1.map λl=>if p l=true then bit (c:Int) (wdL c b l) else 0)=(stE R R.length).1.map λl=>if p l=true then cP (λj=>bit j b) l.2%2 else 0:=
     uD λl hl=>by rw[hbw l hl,if_pos rfl]
    rw[hm];rw[hev] at hg;have hone:cP (λj=>bit j b) [(i:Int)]=bit (i:Int) b+0:=rfl;have hlt:=hZ (z:=(i:Int)) (a:=b);change 0=(cP (λj=>bit j b) [(i:Int)]+_)%2 at hg;rw[hone] at hg;omega
   ·rw[if_neg h]
    have hm:((stE R R.length).1.map λl=>if p l=true then bit z (wdL c b l) else 0)=(stE R R.length).1.map λl=>if p l=true then bit z l.1 else 0:=
     uD λl hl=>by rw[hbw l hl,if_neg h]
    rw[hm,ym (f:=Prod.fst)];have h5:=hb1 z;rw[hnil,nt] at h5;have hlt:=hZ (z:=z) (a:=R.getD i default);change 0=(bit z (R.getD i default)+_)%2 at h5;omega
  rw[<-hur];exact u1
 ·refine kd h1 λr hr=>?_;obtain⟨l,hl,rfl⟩:=bG.1 hr;have hl:=(d3 l).1 hl;obtain⟨k1,k2⟩:=hs.ok l hl;obtain⟨v,v1,v2⟩:=xB h1 (i:=R.length) (by omega) k2
  have:v=wdL c b l:=jX (mM hTk v1) (hwa l hl) λz=>by
   rw[v2,Dy hR hv k2,hbw l hl];by_cases h:z=c
   ·rw[if_pos h,if_pos h]
   ·rw[if_neg h,if_neg h];exact(k1 z).symm
  rw[<-this];exact kq (λr hr=>gV hr) v1
section
variable{α:Type}{K:α->α->Int}
def ws(K:α->α->Int):Nat->List α->List α->List α
 |0,_,_=>[]
 |_+1,[],b=>b
 |_+1,x::a,[]=>x::a
 |n+1,x::a,y::b=>if K x y<0 then x::ws K n a (y::b) else if K y x<0 then y::ws K n (x::a) b else ws K n a b
def jM(K:α->α->Int)(a b:List α):List α:=ws K (a.length+b.length+1) a b
theorem nk:∀(n m:Nat)(a b:List α),a.length+b.length<n->a.length+b.length<m->ws K n a b=ws K m a b
 |0,_,_,_,h,_=>absurd h (by omega)
 |_+1,0,_,_,_,h=>absurd h (by omega)
 |_+1,_+1,[],b,_,_=>rfl
 |_+1,_+1,x::a,[],_,_=>rfl
 |n+1,m+1,x::a,y::b,h1,h2=>by
  simp only[bK] at h1 h2;simp only[ws];rw[nk n m a (y::b) (by simp only[bK];omega) (by simp only[bK];omega),nk n m (x::a) b (by simp only[bK];omega) (by simp only[bK];omega),nk n m a b (by omega) (by omega)]
theorem wC{b:List α}:jM K [] b=b:=rfl
theorem w5{a:List α}:jM K a []=a:=by cases a<;>rfl
theorem Bi{x y:α}{a b:List α}:jM K (x::a) (y::b)=if K x y<0 then x::jM K a (y::b) else if K y x<0 then y::jM K (x::a) b else jM K a b:=by
 show ws K (a.length+1+(b.length+1)+1) (x::a) (y::b)=_;simp only[ws];unfold jM;rw[nk (a.length+1+(b.length+1)) (a.length+(y::b).length+1) a (y::b) (by simp only[bK];omega) (by simp only[bK];omega),nk (a.length+1+(b.length+1)) ((x::a).length+b.length+1) (x::a) b (by simp only[bK];omega) (by simp only[bK];omega),nk (a.length+1+(b.length+1)) (a.length+b.length+1) a b (by omega) (by omega)]
theorem oG:∀(n:Nat)(a b:List α),a.length+b.length<=n->(jM K a b).length<=a.length+b.length
 |_,[],b,_=>by rw[wC];simp
 |_,x::a,[],_=>by rw[w5];simp
 |0,x::a,y::b,h=>by simp only[bK] at h;omega
 |n+1,x::a,y::b,h=>by
  simp only[bK] at h |-;rw[Bi];have h1:=oG n a (y::b) (by simp only[bK];omega);have h2:=oG n (x::a) b (by simp only[bK];omega);have h3:=oG n a b (by omega);simp only[bK] at h1 h2;split
  ·simp only[bK];omega
  split
  ·simp only[bK];omega
  ·omega
theorem mC(hK:LinK K):∀(n:Nat)(a b:List α),a.length+b.length<=n->ce K a->ce K b->ce K (jM K a b)/\∀z,z∈jM K a b↔(z∈a/\z∉b)\/(z∈b/\z∉a)
 |_,[],b,_,_,hb=>by rw[wC];exact⟨hb,λz=>by simp⟩
 |_,x::a,[],_,ha,_=>by rw[w5];exact⟨ha,λz=>by simp⟩
 |0,x::a,y::b,h,_,_=>by simp only[bK] at h;omega
 |n+1,x::a,y::b,h,ha,hb=>by
  simp only[bK] at h;obtain⟨a1,a2⟩:=iz.1 ha;obtain⟨b1,b2⟩:=iz.1 hb;have irr:=λv=>hK.ord.irr v;rw[Bi];by_cases g1:K x y<0
  ·rw[if_pos g1];obtain⟨h1,h2⟩:=mC hK n a (y::b) (by simp only[bK];omega) a2 hb
   have hxb:∀z∈y::b,K x z<0:=λz hz=>by
    rcases da.1 hz with rfl|hz
    ·exact g1
    ·exact hK.trans g1 (b1 z hz)
   refine⟨iz.2 ⟨λz hz=>?_,h1⟩,λz=>?_⟩
   ·rcases(h2 z).1 hz with⟨q,_⟩|⟨q,_⟩
    ·exact a1 z q
    ·exact hxb z q
   ·rw[da,h2,da (a:=z) (b:=x)];by_cases hz:z=x
    ·subst hz;have:z∉y::b:=λq=>irr _ (hxb z q);simp[this]
    ·simp[hz]
  rw[if_neg g1];by_cases g2:K y x<0
  ·rw[if_pos g2];obtain⟨h1,h2⟩:=mC hK n (x::a) b (by simp only[bK];omega) ha b2
   have hya:∀z∈x::a,K y z<0:=λz hz=>by
    rcases da.1 hz with rfl|hz
    ·exact g2
    ·exact hK.trans g2 (a1 z hz)
   refine⟨iz.2 ⟨λz hz=>?_,h1⟩,λz=>?_⟩
   ·rcases(h2 z).1 hz with⟨q,_⟩|⟨q,_⟩
    ·exact hya z q
    ·exact b1 z q
   ·rw[da,h2,da (a:=z) (b:=y)];by_cases hz:z=y
    ·subst hz;have:z∉x::a:=λq=>irr _ (hya z q);simp[this]
    ·simp[hz]
  rw[if_neg g2]
  obtain rfl:x=y:=by
   rcases hK.tri x y with q|q|q
   ·exact absurd q g1
   ·exact q
   ·exact absurd q g2
  obtain⟨h1,h2⟩:=mC hK n a b (by omega) a2 b2;refine⟨h1,λz=>?_⟩;rw[h2];by_cases hz:z=x
  ·subst hz;have q1:z∉a:=λq=>irr _ (a1 z q);have q2:z∉b:=λq=>irr _ (b1 z q);simp[q1,q2]
  ·simp[hz]
theorem G4(hK:LinK K){a b:List α}(ha:ce K a)(hb:ce K b):ce K (jM K a b):=(mC hK _ a b (aR _) ha hb).1
theorem GG(hK:LinK K){a b:List α}(ha:ce K a)(hb:ce K b){z:α}:z∈jM K a b↔(z∈a/\z∉b)\/(z∈b/\z∉a):=(mC hK _ a b (aR _) ha hb).2 z
theorem GP{a b:List α}:(jM K a b).length<=a.length+b.length:=oG _ a b (aR _)
end
def b6(s:Spx):List Spx:=if s.length<2 then [] else cm s (s.length-1)
def kE(a:List Spx)(o:List Spx):List Spx:=a.foldl (λo s=>jM bh o (b6 s)) o
def bV(a:List Spx):List Spx:=kE a []
theorem tY{s:Spx}(h:ce cJ s):ce bh (b6 s):=by
 unfold b6;split
 ·exact ce.nil
 ·exact my h
theorem jt{s f:Spx}:f∈b6 s↔2<=s.length/\f.Sublist s/\f.length=s.length-1:=by
 unfold b6;split
 ·exact⟨λh=>(by cases h),λh=>absurd h.1 (by omega)⟩
 ·rw[ez];exact⟨λh=>⟨by omega,h⟩,λh=>h.2⟩
def og(a:List Spx)(f:Spx):Nat:=(a.map λs=>(b6 s).count f).sum
theorem vv{s:Spx}{a:List Spx}{f:Spx}:og (s::a) f=(b6 s).count f+og a f:=by unfold og;rw[fX,List.sum_cons]
theorem CM{L:List Spx}(h:ce bh L)(f:Spx):L.count f%2=1↔f∈L:=by
 by_cases hf:f∈L
 ·have h1:=List.count_pos_iff.2 hf;have h2:=List.nodup_iff_count.1 (h.nodup lO) f;exact⟨λ_=>hf,λ_=>by omega⟩
 ·rw[List.count_eq_zero_of_not_mem hf];exact⟨λh=>absurd h (by decide),λh=>absurd h hf⟩
theorem sK:∀(a o:List Spx)(c:Spx->Nat),(∀s∈a,ce cJ s)->ce bh o->(∀f,f∈o↔c f%2=1)->ce bh (kE a o)/\∀f,f∈kE a o↔(c f+og a f)%2=1
 |[],o,c,_,ho,hc=>⟨ho,λf=>by show f∈o↔_;rw[hc];rfl⟩
 |s::a,o,c,hs,ho,hc=>by
  have hf:=tY (hs s dg)
  obtain⟨h1,h2⟩:=sK a (jM bh o (b6 s)) (λf=>c f+(b6 s).count f) (λt ht=>hs t (ec _ ht)) (G4 lO ho hf) λf=>by
   rw[GG lO ho hf,hc,<-CM hf f];omega
  refine⟨h1,λf=>?_⟩;show f∈kE a (jM bh o (b6 s))↔_;rw[h2,vv,pz]
theorem kU{a:List Spx}(hs:∀s∈a,ce cJ s):ce bh (bV a)/\∀f,f∈bV a↔og a f%2=1:=by
 obtain⟨h1,h2⟩:=sK a [] (λ_=>0) hs ce.nil λf=>⟨λh=>(by cases h),λh=>absurd h (by decide)⟩
 exact⟨h1,λf=>by rw[show bV a=kE a [] from rfl,h2,cp]⟩
theorem DC{a:List Spx}(hs:∀s∈a,ce cJ s):ce bh (bV a):=(kU hs).1
theorem tR{a:List Spx}(hs:∀s∈a,ce cJ s){f:Spx}(hf:f∈bV a):∃s∈a,f∈b6 s:=by
 have h:=((kU hs).2 f).1 hf;have hp:0<og a f:=by omega
 clear h hf hs
 induction a with
 |nil=>exact absurd hp (Nat.lt_irrefl 0)
 |cons s a ih=>
  rw[vv] at hp;by_cases h:0<(b6 s).count f
  ·exact⟨s,dg,List.count_pos_iff.1 h⟩
  ·obtain⟨t,h1,h2⟩:=ih (by omega);exact⟨t,ec _ h1,h2⟩
theorem pM:∀(a o:List Spx),(∀s∈a,s.length<=8)->(kE a o).length<=o.length+a.length*70
 |[],o,_=>Nat.le_add_right _ _
 |s::a,o,h=>by
  have h1:=pM a (jM bh o (b6 s)) λt ht=>h t (ec _ ht);have h2:=GP (K:=bh) (a:=o) (b:=b6 s)
  have h3:(b6 s).length<=70:=by
   unfold b6;split
   ·exact bw _
   ·exact nc (h s dg)
  show(kE a (jM bh o (b6 s))).length<=_;rw[bK];omega
theorem v9{a:List Spx}(h:∀s∈a,s.length<=8):(bV a).length<=a.length*70:=by
 have:=pM a [] h;rw[fo,cp] at this;exact this
def fc0:Spx->List Spx
 |[]=>[]
 |x::s=>s::(fc0 s).map (x:: ·)
theorem v6:∀{s:Spx},cm s s.length=[s]
 |[]=>rfl
 |x::s=>by rw[bK,hU,v6,lr (by omega)];rfl
theorem za:∀{s:Spx},s≠[]->(cm s (s.length-1)).Perm (fc0 s)
 |[],h=>absurd rfl h
 |[x],_=>by show(cm [x] 0).Perm _;rw[mz];exact List.Perm.refl _
 |x::y::s,_=>by
  show(cm (x::y::s) (s.length+1)).Perm _;rw[hU,show s.length+1=(y::s).length from rfl,v6];have ih:=za (s:=y::s) (by simp);show((cm (y::s) s.length).map (x:: ·)++[y::s]).Perm ((y::s)::(fc0 (y::s)).map (x:: ·));exact List.perm_append_comm.trans ((ih.map (x:: ·)).cons _)
def Al(a:List Spx)(k:Nat):Int:=if bQ (a.getD k default)≠0 then bQ (a.getD k default) else if (a.getD k default).length≠(a.getD 0 default).length then 15 else if 0<k/\0<=bh (a.getD (k-1) default) (a.getD k default) then 14 else 0
def gU(a:List Spx):Int:=if 4096<a.length then 5 else dj (Al a) a.length
theorem jD{a:List Spx}(h:gU a=0):a.length<=4096/\(∀s∈a,bQ s=0)/\ce bh a/\∀s∈a,s.length=(a.getD 0 default).length:=by
 unfold gU at h;split at h
 ·exact absurd h (by decide)
 rename_i hl;have h0:=gK h
 have hk:∀k,k<a.length->bQ (a.getD k default)=0/\(a.getD k default).length=(a.getD 0 default).length/\(0<k->bh (a.getD (k-1) default) (a.getD k default)<0):=λk hk=>by
  have q:=h0 k hk;unfold Al at q;split at q
  ·exact absurd q ‹_›
  split at q
  ·exact absurd q (by decide)
  split at q
  ·exact absurd q (by decide)
  ·rename_i q1 q2 q3;exact⟨sW q1,sW q2,λh0=>by omega⟩
 have hm:∀s∈a,∃k,k<a.length/\a.getD k default=s:=λs hs=>by
  obtain⟨k,h1,h2⟩:=jK hs;exact⟨k,h1,by simp[List.getD,h1,h2]⟩
 refine⟨by omega,λs hs=>?_,?_,λs hs=>?_⟩
 ·obtain⟨k,h1,rfl⟩:=hm s hs;exact(hk k h1).1
 ·have hchain:∀j i,i<j->j<a.length->bh (a.getD i default) (a.getD j default)<0:=λj=>by
    induction j with
    |zero=>intro i hi;omega
    |succ j ih=>
     intro i hi hj;have q:=(hk (j+1) hj).2.2 (by omega);rw[rF] at q;rcases(by omega:i<j\/i=j) with h|rfl
     ·exact lO.trans (ih i h (by omega)) q
     ·exact q
  unfold ce;rw[k9];intro i j hi hj hij;have:=hchain j i hij hj
  rwa [show a.getD i default=a[i] by simp[List.getD,hi],show a.getD j default=a[j] by simp[List.getD,hj]] at this
 ·obtain⟨k,h1,rfl⟩:=hm s hs;exact(hk k h1).2.1
theorem l8{a:List Spx}(h:∀s∈a,bQ s=0):∀s∈a,ce cJ s:=λs hs=>(cE (h s hs)).2.2.1
theorem su{a:List Spx}{k:Nat}:Al a k=if bQ (a.getD k default)≠0 then bQ (a.getD k default) else if (a.getD k default).length≠(a.getD 0 default).length then 15 else if 0<k/\0<=bh (a.getD (k-1) default) (a.getD k default) then 14 else 0:=rfl
def cV(l:List (List Spx)):AV:=jf 1 am l
theorem eF(l:List (List Spx)):Dat (cV l):=DR (λ_=>rfl) bA
instance datI_encXsss{l:List (List Spx)}:DatI (cV l):=⟨eF l⟩
theorem bO{l:List (List Spx)}:dx (cV l)=some (.int .i64 l.length):=lm
theorem Jf{l:List (List Spx)}{k:Nat}(h:k<l.length):eu 1 (cV l) (.int .i64 (k:Int))=some (.iptr [am (l.getD k default)] 0):=by
 unfold cV;rw[mX,if_pos ⟨by omega,by omega⟩,cz];rfl
theorem HV{l:List Spx}(h:0<l.length):eu 1 (am l) (.int .i64 0)=some (.iptr [aA (l.getD 0 default)] 0):=dH h
abbrev ShC(a:List Spx):Prop:=Shn a/\∀s∈a,Shn s
section
variable{α:Type}[DecidableEq α]{K:α->α->Int}
theorem HC(hK:LinK K){a b:List α}(ha:ce K a)(hb:ce K b)(h:∀x∈a,x∈b):a.Sublist b:=by
 have:a=b.filter λx=>decide (x∈a):=by
  refine nw hK ha (List.Pairwise.sublist EF hb) λx=>?_;rw[iG,gB];exact⟨λh'=>⟨h x h',h'⟩,And.right⟩
 rw[this];exact EF
end
section
variable{g:Vtx->Vtx}
end
def fcs(s:Spx):List Spx:=if s.length<2 then [] else fc0 s
theorem sD{s:Spx}:(fcs s).Perm (b6 s):=by
 unfold fcs b6;split
 ·exact List.Perm.refl _
 ·rename_i h;exact(za λe=>by rw[e] at h;simp at h).symm
theorem Ci{s f:Spx}:f∈fcs s↔f∈b6 s:=sD.mem_iff
theorem wU:∀{s:Spx},(fc0 s).length=s.length
 |[]=>rfl
 |x::s=>by show((fc0 s).map (x:: ·)).length+1=_;rw[bi,wU];rfl
theorem BK:∀{s:Spx}{i:Nat},i<s.length->(fc0 s).getD i default=s.take i++s.drop (i+1)
 |[],_,h=>absurd h (by simp)
 |x::s,0,_=>by simp[fc0]
 |x::s,i+1,h=>by
  have hi:i<s.length:=by simpa using h
  have:=BK hi;show((s::(fc0 s).map (x:: ·)).getD (i+1) default)=_;have hl:i<(fc0 s).length:=by rw[wU];exact hi
  simp only[List.getD,AO,l6,rL hl,ml,uE,List.take_succ_cons,List.drop_succ_cons,List.cons_append] at this |-;rw[this]
theorem xE{s:Spx}(h:ce cJ s):(b6 s).Nodup:=(tY h).nodup lO
theorem DH{s:Spx}(h:ce cJ s):(fcs s).Nodup:=sD.nodup_iff.2 (xE h)
def iI(X Y:List Spx)(n i:Nat):List Nat:=(List.range n).filter λk=>decide (Y.getD i default∈b6 (X.getD k default))
theorem vC{X Y:List Spx}{n i:Nat}:iI X Y (n+1) i=iI X Y n i++if Y.getD i default∈b6 (X.getD n default) then [n] else []:=by
 unfold iI;rw[List.range_succ,wn]
 congr 1
 by_cases h:Y.getD i default∈b6 (X.getD n default)
 ·rw[if_pos h,Bb (by simpa using h)];rfl
 ·rw[if_neg h,A7 (by simpa using h)];rfl
theorem sn{X Y:List Spx}{n i:Nat}:(iI X Y n i).length<=n:=by
 unfold iI;exact fe (List.length_filter_le _ _) (by simp)
def dR(X Y:List Spx):List (List Int):=(List.range Y.length).map λi=>dt (iI X Y X.length i)
section
variable{P:Program}{T:Tm}{H:Hp}{nx:Nat}
theorem JS{dm:DM}{K:SP}{l:List Op2}{d:Option Nat}{sz bytes:Nat}{z:List AV}{s x:Opd}{k:IntKind}{n:Int}(hd:dm2 dm T (.apz sz bytes z s x)=true)(hs:ov T s=.esl)(hx:ov T x=.int k n)(h0:0<n)(h1:n<=9223372036854775807)(h2:n.toNat*bytes<=140737488355328)
    (kk:ak P dm l (aP T d (.msl nx (n.toNat*sz) sz 0 n.toNat)) (ar H nx (bz (.agg z) n.toNat)) (nx+1) K):ak P dm (⟨d,none,.apz sz bytes z s x⟩::l) T H nx K:=by
 refine nU rfl hd ?_ kk;simp only[jL,hs,hx];rw[if_pos ⟨h0,h1,h2⟩]
end
theorem Ha(T:Tm)(H:Hp)(x:Opd):bX T H (.capE x)=match ov T x with|.esl=>some (.int .i64 0)|_=>none:=rfl
theorem GM(n:Nat):(bz (.agg [.int .i64 0,.int .i64 0]) n).length=n*2:=by simp[bz,AV.cells]
theorem Jk{P:Program}{T:Tm}{H:Hp}{nx:Nat}{dm:DM}{K:SP}{l:List Op2}{d:Option Nat}{sz bytes b N len n:Nat}{s x:Opd}{v:AV}{new C:List AV}(hd:dm2 dm T (.app sz bytes s x)=true)(hs:ov T s=.msl b N sz 0 len)(hb:H b=some C)(hN:C.length=N)(hx:ov T x=v)(hsrc:gg sz H v=some (n,new))(ho:AV.ones new=true)(hnl:new.length=n*sz)(hz:0<sz)(h0:0<N)(hle:(len+n)*sz<=N)(h1:(len+n)*bytes<=140737488355328)(h2:len+n<=9223372036854775807)
    (next:∀C':List AV,C'.length=N->C'.take ((len+n)*sz)=C.take (len*sz)++new->ak P dm l (aP T d (.msl b N sz 0 (len+n))) (ar H b C') nx K):
    ak P dm (⟨d,none,.app sz bytes s x⟩::l) T H nx K:=by
 by_cases e:N=len*sz
 ·have hn:n=0:=by
    rcases Bj n with h|h
    ·exact h
    ·have:len*sz+1*1<=len*sz+n*sz:=Nat.add_le_add_left (Nat.mul_le_mul h hz) _;rw[fJ] at hle;omega
  subst hn;obtain rfl:new=[]:=List.eq_nil_of_length_eq_zero (by rw[hnl,xP]);refine zJ hd hs hb hx hsrc ho hN e h1 h2 ?_;rw[oI] at next |-;rw[<-e];exact next _ (by rw[eH];exact hN) (by rw[eH,eH])
 ·refine AS hd hs hb hx hsrc ho hN (λ_=>e) h0 (by rw[cp];exact hle) ?_;have hlen:len*sz+new.length<=N:=by rw[hnl,<-fJ];exact hle
  refine next _ ?_ ?_
  ·rw[iv (by rw[hN];omega)];exact hN
  ·simp only[bD,cp];rw[Hj (by rw[cA,eM,hN,hnl,fJ];omega),fI (by rw[cA,eM,hN,hnl,fJ];omega)]
def ik:Nat->Spx->List Int
 |0,_=>[]
 |n+1,[]=>0::0::ik n []
 |n+1,v::l=>v.color::v.label::ik n l
theorem pH:∀{n:Nat}{s:Spx},(ik n s).length=2*n
 |0,_=>rfl
 |n+1,[]=>by show(ik n []).length+1+1=_;rw[pH];omega
 |n+1,v::l=>by show(ik n l).length+1+1=_;rw[pH];omega
theorem Ad:∀{n:Nat}{s t:Spx},s.length=t.length->t.length<=n->ik n s=ik n t->s=t
 |_,[],[],_,_,_=>rfl
 |_,[],w::m,h,_,_=>absurd h (by simp)
 |_,v::l,[],h,_,_=>absurd h (by simp)
 |0,v::l,w::m,_,h,_=>absurd h (by simp)
 |n+1,v::l,w::m,hl,hm,e=>by
  obtain⟨e1,e2⟩:=List.cons.inj e;obtain⟨e2,e3⟩:=List.cons.inj e2;have:=Ad (n:=n) (by simpa using hl) (by simpa using hm) e3;rw[this,oB.2 ⟨e1,e2⟩]
abbrev z16:List AV:=[.int .i64 0,.int .i64 0,.int .i64 0,.int .i64 0,.int .i64 0,.int .i64 0,.int .i64 0,.int .i64 0,.int .i64 0,.int .i64 0,.int .i64 0,.int .i64 0,.int .i64 0,.int .i64 0,.int .i64 0,.int .i64 0]
theorem I3:z16=(ik 8 []).map (AV.int .i64):=rfl
theorem yk:∀{n:Nat}{s:Spx},s.length<=n->cX s++((ik n []).map (AV.int .i64)).drop (s.length*2)=(ik n s).map (AV.int .i64)
 |n,[],_=>by simp[cX]
 |0,_::_,h=>absurd h (by simp)
 |n+1,v::l,h=>by
  have:=yk (n:=n) (s:=l) (by simp at h;omega);show [AV.int .i64 v.color,AV.int .i64 v.label]++cX l++_=AV.int .i64 v.color::AV.int .i64 v.label::(ik n l).map (AV.int .i64);rw[<-this,bK,show(l.length+1)*2=l.length*2+1+1 by omega];rfl
def kZ(s:Spx):K16:=⟨ik 8 s,by rw[pH]⟩
theorem Ea{s t:Spx}(h:s.length=t.length)(h8:t.length<=8)(e:kZ s=kZ t):s=t:=Ad h h8 (congrArg Subtype.val e)
theorem FQ{O:List Spx}{f:Spx}{n:Nat}(hn:n<=8)(hO:∀s∈O,s.length=n)(hf:f.length=n):kZ f∈O.map kZ↔f∈O:=by
 rw[bG];exact⟨λ⟨s,h1,h2⟩=>by rw[<-Ea (by rw[hO s h1,hf]) (by omega) h2];exact h1,λh=>⟨f,h,rfl⟩⟩
theorem EG{f:Spx}{n:Nat}(hn:n<=8)(hf:f.length=n):∀{O:List Spx},(∀s∈O,s.length=n)->(O.map kZ).idxOf (kZ f)=O.idxOf f
 |[],_=>rfl
 |g::O,hO=>by
  have ih:=EG hn hf (O:=O) λs hs=>hO s (ec _ hs);have hg:=hO g dg;rw[fX,List.idxOf_cons,List.idxOf_cons,ih]
  have e:(kZ g==kZ f)=(g==f):=by
   rw[Bool.eq_iff_iff,beq_iff_eq,beq_iff_eq];exact⟨λh=>Ea (by rw[hg,hf]) (by omega) h,λh=>by rw[h]⟩
  rw[e]
structure BOk(H:Hp)(n:Nat)(c:Spx->Nat)(O:List Spx)(bs:List Nat)(ck:Nat):Prop where
 box:H 0=some [.bmap ((O.map kZ).map eK) (O.map aA) bs ck]
 len:bs.length=O.length
 asc:bs.Pairwise (· < ·)
 below:∀s∈bs,s<ck
 nd:O.Nodup
 all:∀f∈O,f.length=n
 odd:∀f,f∈O↔c f%2=1
theorem BOk.same{H H':Hp}{n:Nat}{c c':Spx->Nat}{O:List Spx}{bs:List Nat}{ck:Nat}(h:BOk H n c O bs ck)(hs:H' 0=H 0)(hc:∀f,c' f%2=c f%2):BOk H' n c' O bs ck:=
 ⟨hs.trans h.box,h.len,h.asc,h.below,h.nd,h.all,λf=>by rw[hc];exact h.odd f⟩
theorem BOk.put{H H':Hp}{n:Nat}{c c':Spx->Nat}{O:List Spx}{bs:List Nat}{ck:Nat}{f:Spx}(h:BOk H n c O bs ck)(hf:f∉O)(hl:f.length=n)(hH:H' 0=some [.bmap ((O.map kZ).map eK++[eK (kZ f)]) (O.map aA++[aA f]) (bs++[ck]) (ck+1)])(hc:∀g,c' g=c g+if g=f then 1 else 0):BOk H' n c' (O++[f]) (bs++[ck]) (ck+1):=by
 refine⟨by rw[hH];simp,by rw[cA,cA,h.len];rfl,?_,λs hs=>?_,?_,λg hg=>?_,λg=>?_⟩
 ·exact List.pairwise_append.2 ⟨h.asc,List.pairwise_singleton _ _,λa ha b hb=>by rw[cW.1 hb];exact h.below a ha⟩
 ·rcases eC.1 hs with q|q
  ·have:=h.below s q;omega
  ·rw[cW.1 q];omega
 ·exact zE.2 ⟨h.nd,by simp,λa ha b hb e=>by rw[e,cW.1 hb] at ha;exact hf ha⟩
 ·rcases eC.1 hg with q|q
  ·exact h.all g q
  ·rw[cW.1 q];exact hl
 ·rw[eC,cW,h.odd,hc];by_cases e:g=f
  ·subst e;have:¬c g%2=1:=λq=>hf ((h.odd g).2 q);rw[if_pos rfl];exact⟨λ_=>by omega,λ_=>.inr rfl⟩
  ·rw[if_neg e];simp[e]
theorem iq{α β:Type}{f:α->β}:∀{l:List α}{i:Nat},(l.map f).eraseIdx i=(l.eraseIdx i).map f
 |[],_=>rfl
 |a::l,0=>rfl
 |a::l,i+1=>by show f a::(l.map f).eraseIdx i=f a::(l.eraseIdx i).map f;rw[iq]
theorem BOk.del{H H':Hp}{n:Nat}{c c':Spx->Nat}{O:List Spx}{bs:List Nat}{ck i:Nat}{f:Spx}(h:BOk H n c O bs ck)(hf:f∈O)(hi:O.idxOf f=i)(hH:H' 0=some [.bmap (((O.map kZ).map eK).eraseIdx i) ((O.map aA).eraseIdx i) (bs.eraseIdx i) ck])(hc:∀g,c' g=c g+if g=f then 1 else 0):BOk H' n c' (O.erase f) (bs.eraseIdx i) ck:=by
 have hil:i<O.length:=by rw[<-hi];exact qa.2 hf
 have he:O.erase f=O.eraseIdx i:=List.erase_eq_eraseIdx_of_idxOf hi;refine⟨?_,?_,h.asc.sublist (List.eraseIdx_sublist _ _),λs hs=>h.below s ((List.eraseIdx_sublist _ _).subset hs),h.nd.erase _,λg hg=>h.all g (List.mem_of_mem_erase hg),λg=>?_⟩
 ·rw[hH,he];rw[iq,iq,iq]
 ·rw[he,List.length_eraseIdx_of_lt hil,List.length_eraseIdx_of_lt (by rw[h.len];exact hil),h.len]
 ·rw[h.nd.mem_erase_iff,h.odd,hc];by_cases e:g=f
  ·subst e;have:=(h.odd g).1 hf;rw[if_pos rfl];constructor
   ·exact λq=>absurd rfl q.1
   ·intro q;omega
  ·rw[if_neg e];simp[e]
theorem iE{α:Type}[DecidableEq α]{a b:List α}(h:a.Nodup)(hs:∀x∈a,x∈b):a.length<=b.length:=yY h hs
theorem Dx{l:List Spx}{s f:Spx}:og (l++[s]) f=og l f+(b6 s).count f:=by unfold og;simp
theorem AW{D:List Spx}{f g:Spx}{m:Nat}:m+(D++[f]).count g=m+D.count g+if g=f then 1 else 0:=by
 rw[List.count_append,List.count_singleton,pz]
 congr 2
 by_cases e:g=f
 ·subst e;simp
 ·rw[if_neg e,if_neg];simp only[beq_iff_eq];exact λh=>e h.symm
theorem vB{O:List Spx}{i:Nat}(h:i<O.length):(O.map aA).getD i .undef=aA (O.getD i default):=by simp[List.getD,h]
theorem CQ{s f:Spx}(hs:bQ s=0)(hf:f∈b6 s):bQ f=0:=by
 obtain⟨h1,h2,h3⟩:=jt.1 hf;obtain⟨p1,p2,p3,p4⟩:=cE hs;exact yJ ⟨by omega,by omega⟩ (p3.sublist h2) λv hv=>p4 v (h2.subset hv)
theorem ve{a:List Spx}(ha:∀s∈a,bQ s=0):∀f∈bV a,bQ f=0:=λf hf=>by
 obtain⟨s,h1,h2⟩:=tR (l8 ha) hf;exact CQ (ha s h1) h2
theorem AQ{a o:List Spx}{k:Nat}(hk:k<a.length):kE (a.take (k+1)) o=jM bh (kE (a.take k) o) (b6 (a.getD k default)):=by
 rw[bI hk];unfold kE;rw[List.foldl_append];rfl
theorem BN{a:List Spx}(h:∀s∈a,bQ s=0):∀s∈a,s.length<=8:=λs hs=>(cE (h s hs)).2.1
def mP(a:List Spx):List Spx×Int:=if gU a≠0 then([],gU a) else if 4096<(bV a).length then([],5) else(bV a,0)
def HN(a:List Spx):Bool×Int:=if gU a≠0 then(false,gU a) else(decide (bV a=[]),0)
def on3(b1:Nat)(c1:List AV)(b2:Nat)(c2:List AV)(b3:Nat)(c3:List AV):Hp:=λx=>if x=b1 then some c1 else if x=b2 then some c2 else if x=b3 then some c3 else none
theorem Ba{P:Program}{T:Tm}{H:Hp}{nx:Nat}(b1 b2 b3:Nat){c1 c2 c3:List AV}{K:CP}{m:Nat}{l:List Op2}{C:List (Nat×Nat)}(h1:H b1=some c1)(h2:H b2=some c2)(h3:H b3=some c3)(n1:b2≠b1)(n2:b3≠b1)(n3:b3≠b2)(k:∀S:Hp,S b1=some c1->S b2=some c2->S b3=some c3->(∀H':Hp,H' b1=some c1->H' b2=some c2->H' b3=some c3->Sub S H')->bf P S (C.map λk=>(l.getD k.1 ⟨none,none,.dead⟩,k.2)) T H nx λT H nx=>K .normal T H nx):aK P (.mixS m l C) T H nx K:=by
 have hsub:∀H':Hp,H' b1=some c1->H' b2=some c2->H' b3=some c3->Sub (on3 b1 c1 b2 c2 b3 c3) H':=λH' a b c x cs h=>by
  unfold on3 at h;split at h
  ·rename_i e;rw[e,a];exact h
  split at h
  ·rename_i e;rw[e,b];exact h
  split at h
  ·rename_i e;rw[e,c];exact h
  ·cases h
 refine wZ (on3 b1 c1 b2 c2 b3 c3) rfl (hsub H h1 h2 h3) (k _ ?_ ?_ ?_ hsub)
 ·unfold on3;rw[if_pos rfl]
 ·unfold on3;rw[if_neg n1,if_pos rfl]
 ·unfold on3;rw[if_neg n2,if_neg n3,if_pos rfl]
theorem xF{α:Type}{p q:Prop}[Decidable p][Decidable q](h:p↔q){a b:α}:(if p then a else b)=if q then a else b:=by
 by_cases hq:q
 ·rw[if_pos hq,if_pos (h.2 hq)]
 ·rw[if_neg hq,if_neg λx=>hq (h.1 x)]
def DY(c:List Spx)(d:Int):List Spx×Int:=if d<0 then([],0) else dr c (d+1)
def aB(c:List Spx)(d:Int):List Spx:=if d<=0 then [] else gx c d.toNat
def vh(c:List Spx)(d:Int):(Int×List (List Int))×Int:=if az c≠0 then((0,[]),az c) else if d<0\/8<=d then((0,[]),2) else((((aB c (d+1)).length:Nat),dR (aB c (d+1)) (aB c d)),0)
theorem Cn{c:List Spx}{d:Int}(hc:az c=0)(h1:-1<=d)(h2:d<8):DY c d=(aB c (d+1),0):=by
 unfold DY aB dr;by_cases h:d<0
 ·rw[if_pos h,if_pos (by omega)]
 ·rw[if_neg h,if_neg (λq=>q hc),if_neg (by omega),if_neg (by omega)]
theorem ns{c:List Spx}{d:Int}:ce bh (aB c d):=by
 unfold aB;split
 ·exact ce.nil
 ·exact EX
theorem gW{c:List Spx}{d:Int}(hc:c.length<=50)(h:az c=0):(aB c d).length<=3500:=by
 unfold aB;split
 ·exact bw _
 ·exact oC hc (BN (dz h).2.1)
theorem pX{c:List Spx}{d:Int}{s:Spx}:s∈aB c d↔0<d/\s.length=d.toNat/\∃t∈c,s.Sublist t:=by
 unfold aB;split
 ·exact⟨λh=>(by cases h),λh=>absurd h.1 (by omega)⟩
 ·rw[yb];constructor
  ·rintro⟨t,t1,t2⟩;exact⟨by omega,(ez.1 t2).2,t,t1,(ez.1 t2).1⟩
  ·rintro⟨_,h1,t,t1,t2⟩;exact⟨t,t1,ez.2 ⟨t2,h1⟩⟩
theorem fZ{c:List Spx}{d:Int}(h:az c=0):∀s∈aB c d,bQ s=0:=λs hs=>by
 obtain⟨h1,h2,t,t1,t2⟩:=pX.1 hs;obtain⟨p1,p2,p3,p4⟩:=cE ((dz h).2.1 t t1);have:=t2.length_le;exact yJ ⟨by omega,by omega⟩ (p3.sublist t2) λv hv=>p4 v (t2.subset hv)
def ot(L a:List Spx):List Nat:=a.map λs=>L.idxOf s
abbrev dp(a:List Spx):Nat:=(a.getD 0 default).length
def d9(c a:List Spx):List Int×Int:=if az c≠0 then([],az c) else if gU a≠0 then([],gU a) else if a=[] then([],0) else if (a.all λs=>decide (s∈aB c (dp a)))=true then(dt (ot (aB c (dp a)) a),0) else([],6)
theorem qV{l:List Nat}{n:Nat}:dt (l++[n])=dt l++[(n:Int)]:=by unfold dt;rw[cl];rfl
theorem v5{L a:List Spx}{k:Nat}(h:k<a.length):ot L (a.take (k+1))=ot L (a.take k)++[L.idxOf (a.getD k default)]:=by
 unfold ot;rw[bI h,cl];rfl
theorem BJ{l:List Spx}(hn:l.Nodup){v:Spx}{k:Nat}(hk:k<l.length)(hv:l.getD k default=v):l.idxOf v=k:=by
 have hm:v∈l:=by rw[<-hv];exact ay hk
 have h1:=qa.2 hm;have h2:l[l.idxOf v]=v:=List.getElem_idxOf h1;have h3:l[k]=v:=by simpa[List.getD,hk] using hv
 exact(List.getElem_inj hn).1 (h2.trans h3.symm)
theorem fU{H:Hp}{s:AV}{l:List Int}{e f:Int}(h:Snap H s (aC l))(he:e=f):Snap H (.tup [s,.int .i64 e]) (.tup [aC l,.int .i64 f]):=by
 subst he;exact bb (ag h (ag (.int _ _) aj))
def Cu(n:Nat)(v:List Int)(k:Nat):Int:=if v.getD k default<0\/(n:Int)<=v.getD k default then 2 else if 0<k/\v.getD k default<=v.getD (k-1) default then 14 else 0
def tc(n:Nat)(v:List Int):Int:=dj (Cu n v) v.length
theorem sS{n:Nat}{v:List Int}{k:Nat}:Cu n v k=if v.getD k default<0\/(n:Int)<=v.getD k default then 2 else if 0<k/\v.getD k default<=v.getD (k-1) default then 14 else 0:=rfl
def eo(X:List Spx)(v:List Int):List Spx:=v.map λi=>X.getD i.toNat default
theorem Ai{X:List Spx}{v:List Int}{k:Nat}(h:k<v.length):eo X (v.take (k+1))=eo X (v.take k)++[X.getD (v.getD k default).toNat default]:=by
 unfold eo;rw[bI h,cl];rfl
def An(c:List Spx)(d:Int)(v:List Int):List Spx×Int:=if az c≠0 then([],az c) else if d<0\/8<=d then([],2) else if tc (aB c (d+1)).length v≠0 then([],tc (aB c (d+1)).length v) else(eo (aB c (d+1)) v,0)
theorem ixV{l:List Int}{k:Nat}(h:k<l.length):eu 1 (aC l) (.int .i64 (k:Int))=some (.iptr [.int .i64 (l.getD k default)] 0):=by
 rw[mZ,if_pos ⟨by omega,by omega⟩,cz]
theorem cC{l:List Int}:dx (aC l)=some (.int .i64 l.length):=uh
def d4(l:List Int):Spx:=l.map λc=>⟨c,0⟩
theorem DE{l:List Int}{k:Nat}(h:k<l.length):d4 (l.take (k+1))=d4 (l.take k)++[⟨l.getD k default,0⟩]:=by
 unfold d4;rw[bI h,cl];rfl
structure PairV where
 a:List Spx
 b:List Spx
 d:Int
theorem pr{H:Hp}{b n:Nat}{l:List Spx}(h:H b=some (l.map aA))(hn:n=l.length):Snap H (.msl b n 1 0 n) (am l):=by
 subst hn;have:=Row.box (H:=H) (sz:=1) b l.length (l.map aA) h (by simp);rw[Nat.mul_one] at this;exact gj this
theorem Ee{H:Hp}{b n:Nat}{cs:List AV}{l:List (List Int)}(hb:H b=some cs)(hn:cs.length=n)(h:aM H cs (l.map aC)):Snap H (.msl b n 1 0 n) (bm l):=by
 have hl:=h.1;refine jy (l:=l.map aC) hb hn (by omega) (by omega) (λy hy=>?_) (λi a c ha hc=>?_)
 ·obtain⟨z,_,rfl⟩:=bG.1 hy;rfl
 ·rw[cp] at ha;exact h.2 i a c ha hc
theorem pG:∀(n:Nat)(a b:List Int),a.length+b.length<=n->bq a->bq b->(bL a b).length+2*(a.filter λx=>decide (x∈b)).length=a.length+b.length
 |_,[],b,_,_,_=>by rw[ia];simp
 |_,x::a,[],_,_,_=>by
  rw[fH,GY.2 (λz _=>by simp)];rfl
 |0,x::a,y::b,h,_,_=>by simp only[bK] at h;omega
 |n+1,x::a,y::b,h,ha,hb=>by
  simp only[bK] at h |-;obtain⟨a1,a2⟩:=iz.1 ha;obtain⟨b1,b2⟩:=iz.1 hb;rw[kr];by_cases g1:x<y
  ·have hx:x∉y::b:=λq=>by
     rcases da.1 q with rfl|q
     ·omega
     ·have:=b1 x q;omega
   have ih:=pG n a (y::b) (by simp only[bK];omega) a2 hb;rw[if_pos g1,bK,A7 (by simpa using hx)];simp only[bK] at ih;omega
  rw[if_neg g1];by_cases g2:y<x
  ·have hf:(x::a).filter (λz=>decide (z∈y::b))=(x::a).filter λz=>decide (z∈b):=by
     refine List.filter_congr λz hz=>decide_eq_decide.2 ?_;rw[da];refine⟨λh=>h.resolve_left ?_,.inr⟩;rintro rfl;rcases da.1 hz with rfl|hz
     ·omega
     ·have:=a1 z hz;omega
   have ih:=pG n (x::a) b (by simp only[bK];omega) ha b2;rw[if_pos g2,bK,hf];simp only[bK] at ih;omega
  rw[if_neg g2];obtain rfl:x=y:=by omega
  have hf:a.filter (λz=>decide (z∈x::b))=a.filter λz=>decide (z∈b):=by
   refine List.filter_congr λz hz=>decide_eq_decide.2 ?_;rw[da];refine⟨λh=>h.resolve_left ?_,.inr⟩;rintro rfl;have:=a1 z hz;omega
  have ih:=pG n a b (by omega) a2 b2;rw[Bb (by simp),bK,hf];omega
theorem bq.nodup{l:List Int}(h:bq l):l.Nodup:=yR (λ{x y}(h:x<y) e=>by omega) h
theorem zL{l:List Nat}{x:Int}:x∈dt l↔ ∃i:Nat,i∈l/\(i:Int)=x:=by unfold dt;exact bG
theorem ny{l:List Nat}(h:l.Pairwise (· < ·)):bq (dt l):=by
 unfold dt bq;rw[List.pairwise_map];exact yR (λ{a b}(h:a<b)=>by omega) h
theorem Er{X Y:List Spx}{n i:Nat}:(iI X Y n i).Pairwise (· < ·):=List.pairwise_lt_range.sublist EF
theorem DV{X Y:List Spx}{n i j:Nat}:j∈iI X Y n i↔j<n/\Y.getD i default∈b6 (X.getD j default):=by
 unfold iI;simp only[iG,ed,gB]
theorem gu{X Y:List Spx}:(dR X Y).length=Y.length:=by unfold dR;simp
theorem ll{X Y:List Spx}(hX:X.length<=4096)(hY:Y.length<=4096):fK X.length (dR X Y):=by
 refine⟨by omega,by omega,by rw[gu];exact hY,λr hr=>?_⟩;unfold dR at hr;obtain⟨i,hi,rfl⟩:=bG.1 hr;refine⟨λv hv=>?_,?_,uj (ny Er)⟩
 ·unfold dt at hv;obtain⟨j,hj,rfl⟩:=bG.1 hv;have:=(DV.1 hj).1;omega
 ·unfold dt;rw[bi];exact fe sn hX
def kf(a b:List Int):Bool:=decide ((a.length+b.length-(bL a b).length)/2%2=1)
def trF(R:List (List Int))(n q:Nat):List Nat:=(List.range n).filter λi=>decide ((q:Int)∈R.getD i default)
theorem yG{R:List (List Int)}{n q:Nat}:trF R (n+1) q=trF R n q++if (q:Int)∈R.getD n default then [n] else []:=by
 unfold trF;rw[List.range_succ,wn]
 congr 1
 by_cases h:(q:Int)∈R.getD n default
 ·rw[if_pos h,Bb (by simpa using h)];rfl
 ·rw[if_neg h,A7 (by simpa using h)];rfl
theorem xA{R:List (List Int)}{n q:Nat}:(trF R n q).length<=n:=by
 unfold trF;exact fe (List.length_filter_le _ _) (by simp)
def trL(c:Nat)(R:List (List Int)):List (List Int):=(List.range c).map λq=>dt (trF R R.length q)
theorem iO(v:Int)(ks:List Int):dh (.one .int) (.int .i64 v) (ks.map (AV.int .i64))=some (if v∈ks then some (ks.idxOf v) else none):=
 nj _ (AV.int .i64) (λa b=>rfl) v ks
theorem M7(v:Int):∀{l:List Int},bq l->∃b,b<=l.length/\(∀i,i<b->l.getD i default<v)/\∀i,b<=i->i<l.length->v<=l.getD i default
 |[],_=>⟨0,aR _,λi h=>absurd h (by omega),λi _ h=>absurd h (by simp)⟩
 |x::l,h=>by
  obtain⟨h1,h2⟩:=iz.1 h;by_cases hx:x<v
  ·obtain⟨b,b1,b2,b3⟩:=M7 v h2;refine⟨b+1,by simp;omega,λi hi=>?_,λi hi hl=>?_⟩
   ·match i with
    |0=>exact hx
    |i+1=>exact b2 i (by omega)
   ·match i with
    |0=>omega
    |i+1=>exact b3 i (by omega) (by simp at hl;omega)
  ·refine⟨0,bw _,λi h=>absurd h (by omega),λi _ hl=>?_⟩
   match i with
   |0=>show v<=x;omega
   |i+1=>
    have:=h1 (l.getD i default) (ay (by simp at hl;omega));show v<=l.getD i default;omega
theorem IV{v:Int}{l:List Int}{b:Nat}(h1:∀i,i<b->l.getD i default<v)(h2:∀i,b<=i->i<l.length->v<=l.getD i default)(ha:bq l):(decide (b<l.length)&&decide (l.getD b default=v))=decide (v∈l):=by
 by_cases hm:v∈l
 ·obtain⟨i,hi,e⟩:=jK hm;have e':l.getD i default=v:=by simp[List.getD,hi,e]
  have hbi:b=i:=by
   rcases sU b i with h|h|h
   ·have h3:=h2 b (aR _) (by omega);have h4:=k9.1 ha b i (by omega) hi h;have e5:l.getD b default=l[b]:=by simp[List.getD,show b<l.length by omega]
    omega
   ·exact h
   ·have:=h1 i h;omega
  subst hbi;rw[aL hi,aL hm,aL e'];rfl
 ·rw[aO hm];by_cases hlt:b<l.length
  ·rw[aL hlt,Bool.true_and,aO];intro h;exact hm (by rw[<-h];exact ay hlt)
  ·rw[aO hlt,Bool.false_and]
def BL(c n:Nat)(x:Ln):Prop:=(∀z∈x.1,0<=z/\z<(c:Int))/\∀j∈x.2,0<=j/\j<(n:Int)
theorem fE{a:List Int}{c:Nat}(ha:bq a)(h:∀z∈a,0<=z/\z<(c:Int)):a.length<=c:=by
 have hn:a.Nodup:=yR (λ{x y}(q:x<y) e=>by omega) ha
 have:=yY hn (l₂:=(List.range c).map λ(k:Nat)=>(k:Int)) λz hz=>by
  have:=h z hz;exact bG.2 ⟨z.toNat,ed.2 (by omega),by show((z.toNat:Nat):Int)=z;omega⟩
 simpa using this
theorem BL.len{c n:Nat}{x:Ln}(h:BL c n x)(ha:co x):x.1.length<=c/\x.2.length<=n:=⟨fE ha.1 h.1,fE ha.2 h.2⟩
theorem BL.add{c n:Nat}{x l:Ln}(hx:BL c n x)(hl:BL c n l)(ax:co x)(al:co l):BL c n (d5 x l):=by
 refine⟨λz hz=>?_,λz hz=>?_⟩
 ·rcases(du ax.1 al.1).1 hz with q|q
  ·exact hx.1 z q.1
  ·exact hl.1 z q.1
 ·rcases(du ax.2 al.2).1 hz with q|q
  ·exact hx.2 z q.1
  ·exact hl.2 z q.1
theorem AX{c n:Nat}{p:Ln->Bool}:∀{M:List Ln}{x:Ln},(∀l∈M,co l/\BL c n l)->co x->BL c n x->BL c n (rdL M p x)
 |[],_,_,_,h=>h
 |l::M,x,hM,hx,h=>by
  unfold rdL;rw[List.foldl_cons];have hl:=hM l dg;have hM':=λm hm=>hM m (ec _ hm);show BL c n (rdL M p (if p l=true then d5 x l else x));split
  ·exact AX hM' (eV hx hl.1) (h.add hl.2 hx hl.1)
  ·exact AX hM' hx h
theorem yW:∀{i:Nat}{a b:List Int},i<=a.length->(∀j,j<i->∀z∈b,a.getD j default<z)->∀j,j<i->(bL a b).getD j default=a.getD j default
 |0,_,_,_,_,j,hj=>absurd hj (by omega)
 |i+1,[],_,h,_,_,_=>absurd h (by simp)
 |i+1,x::a,[],h,_,j,_=>by rw[fH]
 |i+1,x::a,y::b,h,hz,j,hj=>by
  have h0:x<y:=hz 0 (by omega) y dg;rw[kr,if_pos h0]
  match j with
  |0=>rfl
  |j+1=>exact yW (i:=i) (a:=a) (b:=y::b) (by simpa using h) (λk hk z hz'=>hz (k+1) (by omega) z hz') j (by omega)
theorem we:∀{i:Nat}{a b:List Int},i<=a.length->(∀j,j<i->∀z∈b,a.getD j default<z)->i<=(bL a b).length
 |0,_,_,_,_=>bw _
 |i+1,[],_,h,_=>absurd h (by simp)
 |i+1,x::a,[],h,_=>by rw[fH];exact h
 |i+1,x::a,y::b,h,hz=>by
  have h0:x<y:=hz 0 (by omega) y dg;rw[kr,if_pos h0,bK];have:=we (i:=i) (a:=a) (b:=y::b) (by simpa using h) (λk hk z hz'=>hz (k+1) (by omega) z hz');omega
theorem DI{M:List Ln}{p q:Ln->Bool}{l:Ln}(h:∀m∈M,q m=true->p m=true)(hl:l∈M)(h1:p l=true)(h2:q l=false):M.countP q<M.countP p:=by
 induction M with
 |nil=>cases hl
 |cons m M ih=>
  rw[List.countP_cons,List.countP_cons];have hle:M.countP q<=M.countP p:=List.countP_mono_left λx hx=>h x (ec _ hx);rcases da.1 hl with rfl|hl
  ·rw[if_pos h1,if_neg (by rw[h2];decide)];omega
  ·have:=ih (λx hx=>h x (ec _ hx)) hl;have h3:=h m dg;by_cases hq:q m=true
   ·rw[if_pos hq,if_pos (h3 hq)];omega
   ·rw[if_neg hq];split<;>omega
def nL(M:List Ln)(x:Ln):Nat:=M.countP λl=>decide (ld l.1∈x.1)
theorem JZ{M:List Ln}{x l:Ln}(hM:RedU M)(hx:co x)(hl:l∈M)(h:ld l.1∈x.1):nL M (d5 x l)<nL M x:=by
 have hla:=hM.asc l hl;refine DI (l:=l) (λm hm hq=>?_) hl (aL h) (aO λhq=>?_)
 ·have hq:=qe hq;refine aL ?_;rcases(du hx.1 hla.1).1 hq with q|q
  ·exact q.1
  ·have:=hM.own m hm l hl q.1;rw[<-this];exact h
 ·rcases(du hx.1 hla.1).1 hq with q|q
  ·exact q.2 (dq (hM.ne l hl))
  ·exact q.2 h
def bW(M:List Ln):List Int:=M.map λl=>ld l.1
def eN(x:Ln):AV:=.agg [aC x.1,aC x.2]
def LM(H:Hp)(m:Nat)(M:List Ln):Prop:=H m=some [.omap ((bW M).map (AV.int .i64)) (M.map eN)]
theorem vE{M:List Ln}{v:Int}(h:v∈bW M):∃l∈M,ld l.1=v/\(M.map eN).getD ((bW M).idxOf v) .undef=eN l:=by
 have hi:=qa.2 h;have h2:(bW M)[(bW M).idxOf v]=v:=List.getElem_idxOf hi;generalize (bW M).idxOf v=i at *;have hi':i<M.length:=by unfold bW at hi;simpa using hi
 refine⟨M[i],nC hi',?_,?_⟩
 ·have h3:(bW M)[i]'hi=ld M[i].1:=List.getElem_map ..;rw[<-h3];exact h2
 ·simp[List.getD,hi']
theorem ng{M:List Ln}{v:Int}:v∈bW M↔ ∃l∈M,ld l.1=v:=by unfold bW;rw[bG]
theorem J7{T:Tm}{S:Hp}{m:Nat}{ks:List Int}{vs:List AV}{mo ko:Opd}{v:Int}{z:AV}{ok:Bool}(h1:ov T mo=.mp m)(h2:S m=some [.omap (ks.map (AV.int .i64)) vs])(h3:ov T ko=.int .i64 v):ilk T S (.mget (.one .int) z ok mo ko)=some (Go.Abs.mget z ok (if v∈ks then some (ks.idxOf v) else none) vs):=by
 show lkS _ _ _ (ov T mo) (ov T ko) S=_;rw[h1,h3];simp only[lkS,h2,iO];rfl
def cLs(l:List Ln):List AV:=l.flatMap λx=>[aC x.1,aC x.2]
def mh(l:List Ln):AV:=jf 2 eN l
theorem Fv{l:List Ln}{x:Ln}:cLs (l++[x])=cLs l++[aC x.1,aC x.2]:=by unfold cLs;simp
theorem Cp{l:List Ln}:(cLs l).length=l.length*2:=by
 induction l with
 |nil=>rfl
 |cons x l ih=>show([aC x.1,aC x.2]++cLs l).length=_;rw[cA,ih,bK];simp;omega
theorem G2{l:List Ln}:cLs l=(l.map eN).flatMap AV.cells:=by
 induction l with
 |nil=>rfl
 |cons x l ih=>show [aC x.1,aC x.2]++cLs l=_;rw[ih];rfl
theorem Ho{H:Hp}{s:AV}{l:List Ln}(h:Row H 2 s (cLs l)):Snap H s (mh l):=by
 refine Row.snap (elems:=l.map eN) (by rw[<-G2];exact h) (λy hy=>?_) (by omega) (λy hy c hx=>?_)
 ·obtain⟨n,_,rfl⟩:=bG.1 hy;rfl
 ·obtain⟨n,_,rfl⟩:=bG.1 hy;simp only[eN,AV.cells,da,List.not_mem_nil,or_false] at hx;rcases hx with rfl|rfl<;>exact ct _
theorem yI{M:List Ln}(hM:RedU M):(bW M).Nodup:=by
 unfold bW;refine List.pairwise_map.2 (List.Pairwise.imp_of_mem (λ{x y} hx hy hne e=>?_) hM.nodup);have:=dq (hM.ne y hy);rw[<-e] at this;exact hne (hM.own x hx y hy this).symm
def vsS(M:List Ln)(y:Ln)(seen:List Nat):List AV:=(List.range M.length).map λi=>eN (if i∈seen then jJ y (M.getD i default) else M.getD i default)
theorem GC{M:List Ln}{y:Ln}:vsS M y []=M.map eN:=by
 refine List.ext_getElem (by simp[vsS]) λi h1 h2=>?_;have h2:i<M.length:=by simpa using h2
 simp[vsS,List.getD,h2]
theorem Bo{M:List Ln}{y:Ln}{seen:List Nat}{i:Nat}(hi:i<M.length)(h:i∉seen):(vsS M y seen).getD i .undef=eN (M.getD i default):=by
 simp[vsS,List.getD,hi,h]
theorem Cl{M:List Ln}{y:Ln}{seen:List Nat}{i:Nat}:(vsS M y seen).set i (eN (jJ y (M.getD i default)))=vsS M y (seen++[i]):=by
 refine List.ext_getElem (by simp[vsS]) λj h1 h2=>?_;have h2:j<M.length:=by simpa[vsS] using h2
 rw[List.getElem_set];by_cases e:i=j
 ·subst e;simp[vsS]
 ·have e':¬j=i:=λh=>e h.symm;simp[vsS,e,e']
theorem EU{M:List Ln}{y:Ln}{seen:List Nat}{i:Nat}(hi:i<M.length)(hs:i∉seen)(h:ld y.1∉(M.getD i default).1):vsS M y (seen++[i])=vsS M y seen:=by
 rw[<-Cl,show jJ y (M.getD i default)=M.getD i default by unfold jJ;rw[if_neg h],<-Bo (y:=y) hi hs];refine List.ext_getElem (by simp) λj h1 h2=>?_;rw[List.getElem_set];split
 ·rename_i e;subst e;simp[List.getD,h2]
 ·rfl
theorem Hi{M:List Ln}{y:Ln}{seen:List Nat}(h:∀i,i<M.length->i∈seen):vsS M y seen=(M.map (jJ y)).map eN:=by
 refine List.ext_getElem (by simp[vsS]) λi h1 h2=>?_;have h2:i<M.length:=by simpa using h2
 simp[vsS,List.getD,h2,h i h2]
theorem AJ{R:List (List Int)}{c k:Nat}(hR:∀r∈R,bq r)(hv:∀r∈R,∀z∈r,0<=z/\z<(c:Int))(hk:k<=R.length):∀l∈(stE R k).1,BL c R.length l:=λl hl=>by
 have hs:=gv hR hk;refine⟨jU (λr hr=>hR r (gV hr)) (λr hr=>hv r (gV hr)) (hs.inS l hl),λj hj=>?_⟩;have:=(hs.ok l hl).2 j hj;omega
theorem xI{R:List (List Int)}(hR:∀r∈R,bq r){k:Nat}(hk:k<=R.length):(stE R k).1.length<=k/\(stE R k).2.length<=k:=by
 have:=(gv hR hk).len;omega
theorem Hk{l:List Int}(h:l≠[]):eu 1 (aC l) (.int .i64 0)=some (.iptr [.int .i64 (ld l)] 0):=by
 have:=ixV (l:=l) (k:=0) (iT.2 h);exact this
theorem zg{M:List Ln}{y:Ln}(hM:RedU M)(hy:co y)(h0:y.1≠[])(hn:∀l∈M,ld l.1∉y.1):bW (M.map (jJ y))=bW M:=by
 unfold bW;rw[List.map_map];exact uD λl hl=>(t7 hM hy h0 hn hl).2.2.2
theorem Ft{M:List Ln}(hM:RedU M){l:Ln}{v:Int}(hl:l∈M)(e:ld l.1=v):(M.find? λl=>decide (ld l.1=v))=some l:=by
 cases h:M.find? λl=>decide (ld l.1=v) with
 |none=>
  have:=List.find?_eq_none.1 h l hl;exact absurd (aL e) this
 |some m=>
  have h1:=qe (List.find?_some (p:=λl:Ln=>decide (ld l.1=v)) h);have h2:=List.mem_of_find?_eq_some h;have:=dq (hM.ne m h2);rw[h1,<-e] at this;rw[hM.own l hl m h2 this]
theorem AN{M:List Ln}{v:Int}(h:v∉bW M):(M.find? λl=>decide (ld l.1=v))=none:=
 List.find?_eq_none.2 λl hl hd=>h (ng.2 ⟨l,hl,qe hd⟩)
theorem Ac{M:List Ln}{c:Nat}:(lQ M c).length<=c:=by
 induction c with
 |zero=>simp[lQ]
 |succ c ih=>
  rw[qb,cA];have:(M.find? λl=>decide (ld l.1=(c:Int))).toList.length<=1:=by cases M.find? λl=>decide (ld l.1=(c:Int))<;>simp
  omega
theorem lA{H:Hp}{s:AV}{l:List (List Int)}(h:Row H 1 s (l.map aC)):Snap H s (bm l):=by
 rw[Hg];exact h.snapL' (λ_=>rfl) (λx _=>ct x)
theorem cH{c:Int}{R:List (List Int)}:dA c R=.agg [.int .i64 c,bm R]:=rfl
theorem Da{r:List Int}(h:∀i,i+1<r.length->r.getD i default<r.getD (i+1) default):bq r:=by
 have hchain:∀b a,a<b->b<r.length->r.getD a default<r.getD b default:=λb=>by
  induction b with
  |zero=>intro a ha;omega
  |succ b ih=>
   intro a ha hb;have q:=h b hb;rcases(by omega:a<b\/a=b) with h|rfl
   ·have:=ih a h (by omega);omega
   ·exact q
 refine k9.2 λi j hi hj hij=>?_;have:=hchain j i hij hj;simpa[List.getD,hi,hj] using this
theorem eT{c:Int}{R:List (List Int)}(h:fK c R):∀r∈R,bq r:=λr hr=>Da (h.2.2.2 r hr).2.2
theorem LB{l:List Ln}{k:Nat}(h:k<l.length):eu 2 (mh l) (.int .i64 (k:Int))=some (.iptr [aC (l.getD k default).1,aC (l.getD k default).2] 0):=by
 unfold mh;rw[mX,if_pos ⟨by omega,by omega⟩,cz];rfl
theorem t5{l:List Ln}:dx (mh l)=some (.int .i64 l.length):=lm
theorem jH{R:List (List Int)}{c:Nat}:(lC R c).length<=c:=Ac
theorem r_4{T:Tm}{H:Hp}{K:AV->Prop}{a b c d:RV}{x y z u:AV}(ha:rv T H a=some x)(hb:rv T H b=some y)(hc:rv T H c=some z)(hd:rv T H d=some u)(h:K (.tup [x,y,z,u])):bn T H K [a,b,c,d]:=by
 show xD T H [a,b,c,d] λxs=>K (.tup xs);simp only[xD,ha,hb,hc,hd];exact h
theorem iW{c:List Spx}(h:az c=0):∀s∈c,Shn s:=λs hs=>show _<=_ by
 have:=(cE ((dz h).2.1 s hs)).2.1;omega
def sO(c:List Spx):Nat->Int
 |0=>0
 |k+1=>if (k+1)%2=1 then sO c k+((gx c (k+1)).length:Int) else sO c k-((gx c (k+1)).length:Int)
theorem BQ{c:List Spx}(h:∀k,(gx c k).length<=3500):∀k:Nat,-(3500*(k:Int))<=sO c k/\sO c k<=3500*(k:Int)
 |0=>⟨by show -(3500*((0:Nat):Int))<=(0:Int);omega,by show(0:Int)<=3500*((0:Nat):Int);omega⟩
 |k+1=>by
  have:=BQ h k;have h2:=h (k+1);unfold sO;split<;>omega
def oz(c:List Spx):Nat->Int×Int
 |0=>(8,0)
 |k+1=>(min (oz c k).1 ((c.getD k default).length:Int),max (oz c k).2 ((c.getD k default).length:Int))
theorem B8{c:List Spx}{m:Int}(h0:0<=m)(h:∀s∈c,(s.length:Int)<=m):∀{k:Nat},k<=c.length->0<=(oz c k).2/\(oz c k).2<=m
 |0,_=>⟨Int.le_refl _,h0⟩
 |k+1,hk=>by
  have:=B8 h0 h (k:=k) (by omega);have h2:=h _ (ay (l:=c) (i:=k) (by omega));unfold oz;dsimp only;omega
def tt(c:List Spx):Int:=(oz c c.length).2
def Ff(c:List Spx):Bool:=decide ((oz c c.length).2=0) || decide ((oz c c.length).1=(oz c c.length).2)
theorem Jx{c:List Spx}(hc:az c=0){k:Nat}(hk:8<k):gx c k=[]:=by
 refine xk.2 λs hs=>?_;obtain⟨t,ht,h⟩:=yb.1 hs;obtain⟨h1,h2⟩:=ez.1 h;have:=(cE ((dz hc).2.1 t ht)).2.1;have:=h1.length_le;omega
theorem yE{c:List Spx}{k:Nat}:aB c (k:Int)=if k=0 then [] else gx c k:=by
 unfold aB;by_cases h:k=0
 ·rw[if_pos (by omega),if_pos h]
 ·rw[if_neg (by omega),if_neg h,cz]
theorem cw{c:List Spx}(hc:az c=0)(hl:c.length<=50){d:Int}:(aB c d).length<=3500:=by
 unfold aB;split
 ·simp
 ·exact oC hl λs hs=>(cE ((dz hc).2.1 s hs)).2.1
theorem Bh{c:List Spx}(hc:az c=0){d:Int}(h:8<d):aB c d=[]:=by
 unfold aB;rw[if_neg (by omega)];exact Jx hc (by omega)
theorem y6{Y:List Spx}:dR [] Y=List.replicate Y.length []:=by
 refine List.ext_getElem (by simp[dR]) λi h1 h2=>?_;simp[dR,dt,iI]
theorem Dl{H:Hp}{b n:Nat}(h:H b=some (List.replicate n .esl)):Snap H (.msl b n 1 0 n) (bm (List.replicate n [])):=by
 refine Ee h (by simp) ⟨by simp,λi x y hx hy=>?_⟩;obtain⟨h1,rfl⟩:=bU.1 hx;obtain⟨h2,rfl⟩:=bU.1 hy;simp only[List.getElem_map,List.getElem_replicate];exact .eslsl 1
def rkF(c:List Spx)(d:Nat):Nat:=(c7 (dR (aB c ((d:Int)+1)) (aB c d)) (aB c ((d:Int)+1)).length).length
def btF(c:List Spx)(d:Nat):Int:=((aB c ((d:Int)+1)).length:Int)-(rkF c d:Int)-(rkF c (d+1):Int)
def btL(c:List Spx)(m:Nat):List Int:=(List.range m).map (btF c)
theorem xx{c:List Spx}{d:Nat}:rkF c d<=(aB c ((d:Int)+1)).length:=by
 unfold rkF c7;rw[bi];exact jH
def rkK(n:Nat):List Int:=dt (List.range n)
theorem kX{n d:Nat}:(d:Int)∈rkK n↔d<n:=by
 unfold rkK;rw[zL];exact⟨λ⟨i,h1,h2⟩=>by have:=ed.1 h1;omega,λh=>⟨d,ed.2 h,rfl⟩⟩
theorem rS{n d:Nat}(h:d<n):(rkK n).idxOf (d:Int)=d:=by
 have hn:(rkK n).Nodup:=yR (λ{x y}(q:x<y) e=>by omega) (ny List.pairwise_lt_range);have h1:=qa.2 (kX.2 h);have hl:d<(rkK n).length:=by unfold rkK dt;simpa using h
 have h2:(rkK n)[d]=(d:Int):=by
  have h4:(rkK n)[d]=(((List.range n)[d]'(by simpa using h):Nat):Int):=List.getElem_map ..;rw[h4,List.getElem_range]
 have h3:(rkK n)[(rkK n).idxOf (d:Int)]=(rkK n)[d]:=by rw[List.getElem_idxOf h1,h2]
 exact(List.getElem_inj hn).1 h3
theorem xX{n:Nat}:rkK (n+1)=rkK n++[(n:Int)]:=by unfold rkK dt;rw[List.range_succ,cl];rfl
def rkV(c:List Spx)(n:Nat):List AV:=(List.range n).map λd=>.int .i64 (rkF c d)
theorem zC{c:List Spx}{n:Nat}:rkV c (n+1)=rkV c n++[.int .i64 (rkF c n)]:=by unfold rkV;rw[List.range_succ,cl];rfl
theorem rM{c:List Spx}{n d:Nat}(h:d<n):(rkV c n).getD d .undef=.int .i64 (rkF c d):=by unfold rkV;simp[List.getD,h]
theorem zR{c:List Spx}{n:Nat}:btL c (n+1)=btL c n++[btF c n]:=by unfold btL;rw[List.range_succ,cl];rfl
theorem ub{a:List Spx}(h:a≠[]):eu 1 (am a) (.int .i64 0)=some (.iptr [aA (a.getD 0 default)] 0):=by
 have:=dH (l:=a) (k:=0) (iT.2 h);exact this
theorem ky{l:List Int}{i:Nat}(h:i<l.length):l.drop i=l.getD i default::l.drop (i+1):=by
 rw[List.drop_eq_getElem_cons h];simp[List.getD,h]
theorem Gw{a b:List Int}{i k:Nat}(hi:i<a.length)(h:k=b.length\/k<b.length/\a.getD i default<b.getD k default):bL (a.drop i) (b.drop k)=a.getD i default::bL (a.drop (i+1)) (b.drop k):=by
 rw[ky hi];rcases h with rfl|⟨h1,h2⟩
 ·rw[List.drop_length,fH,fH]
 ·rw[ky h1,kr,if_pos h2]
theorem GH{a b:List Int}{i k:Nat}(hk:k<b.length)(h:i=a.length\/i<a.length/\b.getD k default<a.getD i default):bL (a.drop i) (b.drop k)=b.getD k default::bL (a.drop i) (b.drop (k+1)):=by
 rw[ky hk];rcases h with rfl|⟨h1,h2⟩
 ·rw[List.drop_length,ia,ia]
 ·rw[ky h1,kr,if_neg (by omega),if_pos h2]
theorem Hs{a b:List Int}{i k:Nat}(hi:i<a.length)(hk:k<b.length)(h:a.getD i default=b.getD k default):bL (a.drop i) (b.drop k)=bL (a.drop (i+1)) (b.drop (k+1)):=by
 rw[ky hi,ky hk,kr,if_neg (by omega),if_neg (by omega)]
def Gp(rows:List (List Int))(n c:Nat):Int:=match ul rows n c with
 |some k=>(k:Int)
 |none=>-1
theorem GX{rows:List (List Int)}{n c k:Nat}(hn:n<=k)(hk:k<rows.length)(h:∀i,n<=i->i<k->(c:Int)∉rows.getD i default)(hc:(c:Int)∈rows.getD k default):ul rows n c=some k:=by
 unfold ul;rw[List.find?_range_eq_some];refine⟨by simp only[dN,gB];exact⟨hn,hc⟩,ed.2 hk,λj hj=>?_⟩;simp only[Bool.not_and,lB,Bool.not_eq_true',decide_eq_false_iff_not];by_cases hnj:n<=j
 ·exact .inr (h j hnj hj)
 ·exact .inl hnj
theorem Fx{rows:List (List Int)}{n c:Nat}(h:∀i,n<=i->i<rows.length->(c:Int)∉rows.getD i default):ul rows n c=none:=by
 unfold ul;rw[List.find?_eq_none];intro i hi hd;simp only[dN,gB] at hd;exact h i hd.1 (ed.1 hi) hd.2
theorem xU{rows:List (List Int)}{n c k:Nat}(h:ul rows n c=some k):n<=k/\k<rows.length:=by
 unfold ul at h;have h1:=List.find?_some h;have h2:=ed.1 (List.mem_of_find?_eq_some h);simp only[dN,gB] at h1;exact⟨h1.1,h2⟩
def o9(R:List (List Int))(y:List Int):List Int:=y.foldl (λa i=>bL a (R.getD i.toNat default)) []
theorem vF{R:List (List Int)}{y:List Int}{i:Int}:o9 R (y++[i])=bL (o9 R y) (R.getD i.toNat default):=by unfold o9;rw[List.foldl_append];rfl
theorem B3{R:List (List Int)}{c:Nat}(hR:∀r∈R,bq r)(hv:∀r∈R,∀z∈r,0<=z/\z<(c:Int)){y:List Int}(hy:∀i∈y,0<=i/\i<(R.length:Int)):∀k,k<=y.length->bq (o9 R (y.take k))/\∀z∈o9 R (y.take k),0<=z/\z<(c:Int)
 |0,_=>⟨qB,λz h=>(by cases h)⟩
 |k+1,hk=>by
  obtain⟨h1,h2⟩:=B3 hR hv hy k (by omega);have hi:=hy _ (ay (l:=y) (i:=k) (by omega));have hm:R.getD (y.getD k default).toNat default∈R:=ay (by omega);rw[bI (show k<y.length by omega),vF];refine⟨eb h1 (hR _ hm),λz hz=>?_⟩;rcases(du h1 (hR _ hm)).1 hz with q|q
  ·exact h2 z q.1
  ·exact hv _ hm z q.1
def JD(R:List (List Int))(b y:List Int):Int:=if o9 R y=[] then(if kf y b=true then 0 else 18) else 18
def jN(H:Hp)(s:AV)(l:List (List Int)):Prop:=s=bm l\/Row H 1 s (l.map aC)
theorem jN.src{H H':Hp}{s:AV}{l:List (List Int)}(h:jN H s l)(hs:∀b,bv s=some b->H' b=H b):gg 1 H' s=some (l.length,l.map aC):=by
 rcases h with rfl|h
 ·exact fV
 ·have h:=h.same hs;generalize hc:l.map aC=cs at h;have hl:l.length=cs.length:=by rw[<-hc,bi]
  cases h with
  |nil=>rw[hl];rfl
  |box b len cs hb hn=>
   rw[Nat.mul_one] at hn;rw[ft hb (by rw[hn,Nat.mul_one]) (by omega),hl,hn,Nat.mul_one,List.drop_zero,fI (by omega)]
theorem jN.len{H:Hp}{s:AV}{l:List (List Int)}(h:jN H s l):fF s=some l.length:=by
 rcases h with rfl|h
 ·exact yr
 ·generalize hc:l.map aC=cs at h;have hl:l.length=cs.length:=by rw[<-hc,bi]
  cases h with
  |nil=>rw[hl];rfl
  |box b len cs hb hn=>rw[hl,hn,Nat.mul_one];rfl
theorem jN.snap{H:Hp}{s:AV}{l:List (List Int)}(h:jN H s l):Snap H s (bm l):=by
 rcases h with rfl|h
 ·exact(ku l).snap
 ·exact lA h
theorem tU{H:Hp}{s:AV}{cs:List AV}(h:Row H 1 s cs)(c:Int):en [AV.int .i64 0,.esl] [(0,1,.int .i64 c),(1,1,s)]=some [.int .i64 c,s]:=by cases h<;>rfl
theorem rW{l:List (List Int)}:AV.ones (l.map aC)=true:=by
 unfold AV.ones;rw[eB];intro x hx;obtain⟨y,_,rfl⟩:=bG.1 hx;rfl
def Gl(x:AV):Option AV:=match x with|.ptr b n o=>some (.ptr b n o)|.iptr c o=>some (.iptr c o)|.func f c=>some (.func f c)|_=>none
theorem NK:(∀(T:Tm)(H:Hp)(x:Opd),bX T H (.nilck x)=Gl (ov T x))/\(∀b n o:Nat,Gl (.ptr b n o)=some (.ptr b n o)):=⟨λ_ _ _=>rfl,λ_ _ _=>rfl⟩
theorem AI{l:List (List Int)}{k:Nat}{x:List Int}(h:k<l.length):bD (l.map aC) k [aC x]=(l.set k x).map aC:=by
 unfold bD;rw[List.map_set];have h2:k<(l.map aC).length:=by rw[bi];exact h
 rw[HQ,if_pos h2];simp
def elP(rows:List (List Int))(n c i:Nat):List (List Int):=(List.range rows.length).map λj=>if j<i then elF rows n c j else rows.getD j default
theorem jc{rows:List (List Int)}{n c i:Nat}:(elP rows n c i).length=rows.length:=by unfold elP;simp
theorem xC{l m:List (List Int)}(hl:l.length=m.length)(h:∀i,i<l.length->l.getD i default=m.getD i default):l=m:=by
 refine List.ext_getElem hl λj h1 h2=>?_;have:=h j h1;simpa[List.getD,h1,h2] using this
theorem Aj{l:List (List Int)}{i j:Nat}{x:List Int}(h:j<l.length):(l.set i x).getD j default=if i=j then x else l.getD j default:=by
 simp only[List.getD,List.getElem?_set];by_cases e:i=j
 ·subst e;simp[h]
 ·simp[e]
theorem kO{rows:List (List Int)}{n c i j:Nat}(h:j<rows.length):(elP rows n c i).getD j default=if j<i then elF rows n c j else rows.getD j default:=oT h
theorem Mo{rows:List (List Int)}{n c:Nat}:elP rows n c 0=rows:=xC jc λj h=>by
 rw[jc] at h;rw[kO h,if_neg (by omega)]
theorem Bs{rows:List (List Int)}{n c:Nat}:elP rows n c rows.length=elL rows n c:=by
 unfold elP elL;refine uD λj hj=>?_;rw[if_pos (ed.1 hj)]
theorem Hm{rows:List (List Int)}{n c i:Nat}:(elP rows n c i).set i (elF rows n c i)=elP rows n c (i+1):=xC (by rw[List.length_set,jc,jc]) λj h=>by
 rw[List.length_set] at h;rw[Aj h];rw[jc] at h;rw[kO h,kO h];by_cases e:i=j
 ·subst e;rw[if_pos rfl,if_pos (by omega)]
 ·rw[if_neg e];by_cases q:j<i
  ·rw[if_pos q,if_pos (by omega)]
  ·rw[if_neg q,if_neg (by omega)]
theorem F3{rows:List (List Int)}{n c i:Nat}(h:i<rows.length)(e:elF rows n c i=rows.getD i default):elP rows n c (i+1)=elP rows n c i:=xC (by rw[jc,jc]) λj hj=>by
 rw[jc] at hj;rw[kO hj,kO hj];by_cases q:i=j
 ·subst q;rw[if_pos (by omega),if_neg (by omega),e]
 ·by_cases q2:j<i
  ·rw[if_pos q2,if_pos (by omega)]
  ·rw[if_neg q2,if_neg (by omega)]
theorem rR{rows:List (List Int)}{n k:Nat}:(swL rows n k).length=rows.length:=by unfold swL;simp
theorem JT{rows:List (List Int)}{n k:Nat}(hn:n<rows.length)(hk:k<rows.length):(rows.set n (rows.getD k default)).set k (rows.getD n default)=swL rows n k:=xC (by rw[List.length_set,List.length_set,rR]) λj h=>by
 rw[List.length_set,List.length_set] at h;rw[Aj (by rw[List.length_set];exact h),Aj h,show(swL rows n k).getD j default=rows.getD (swI n k j) default from oT h];unfold swI;by_cases q:k=j
 ·subst q;rw[if_pos rfl];by_cases e:k=n
  ·rw[if_pos e,e]
  ·rw[if_neg e,if_pos rfl]
 ·rw[if_neg q];by_cases e:n=j
  ·rw[if_pos e,if_pos e.symm]
  ·rw[if_neg e,if_neg (λx=>e x.symm),if_neg (λx=>q x.symm)]
def RL(c:Nat)(rows:List (List Int)):Prop:=∀r∈rows,bq r/\∀z∈r,0<=z/\z<(c:Int)
theorem RL.len{c:Nat}{rows:List (List Int)}(h:RL c rows):∀r∈rows,r.length<=c:=λr hr=>fE (h r hr).1 (h r hr).2
theorem RL.sum {c:Nat} {a b:List Int} (h1:bq a∧∀ z ∈ a,0 ≤ z∧z < (c:Int)) (h2:bq b∧∀ z ∈ b,0 ≤ z∧z < (c:Int)):bq (bL a b)∧∀ z ∈ bL a b,0 ≤ z∧z < (c:Int):=⟨eb h1.1 h2.1,fun z hz=>by
 rcases(du h1.1 h2.1).1 hz with q|q
 ·exact h1.2 z q.1
 ·exact h2.2 z q.1⟩
theorem RL.elF{c:Nat}{rows:List (List Int)}(h:RL c rows){n k i:Nat}(hn:n<rows.length)(hi:i<rows.length):bq (elF rows n k i)/\∀z∈elF rows n k i,0<=z/\z<(c:Int):=by
 unfold Go.Proofs.YtekdaafnjdlenaaGreat.elF;split
 ·exact RL.sum (h _ (ay hi)) (h _ (ay hn))
 ·exact h _ (ay hi)
theorem RL.elP{c:Nat}{rows:List (List Int)}(h:RL c rows){n k i:Nat}(hn:n<rows.length):RL c (elP rows n k i):=λr hr=>by
 unfold Go.Proofs.YtekdaafnjdlenaaGreat.elP at hr;obtain⟨j,hj,rfl⟩:=bG.1 hr;have hj:=ed.1 hj;split
 ·exact h.elF hn hj
 ·exact h _ (ay hj)
theorem RL.swL{c:Nat}{rows:List (List Int)}(h:RL c rows){n k:Nat}(hn:n<rows.length)(hk:k<rows.length):RL c (swL rows n k):=λr hr=>by
 unfold Go.Proofs.YtekdaafnjdlenaaGreat.swL at hr;obtain⟨j,hj,rfl⟩:=bG.1 hr;exact h _ (ay (ou hn hk (ed.1 hj)))
theorem EA{c:Nat}{R:List (List Int)}(h:RL c R):∀{k:Nat},RL c (stR R k).1/\(stR R k).1.length=R.length/\(stR R k).2<=R.length
 |0=>⟨h,rfl,bw _⟩
 |k+1=>by
  obtain⟨h1,h2,h3⟩:=EA h (k:=k);unfold stR;split
  ·exact⟨h1,h2,h3⟩
  ·rename_i p hp;obtain⟨p1,p2⟩:=xU hp;have hs:=h1.swL (n:=(stR R k).2) (k:=p) (by omega) p2;refine⟨?_,?_,?_⟩
   ·dsimp only;rw[<-Bs];exact hs.elP (by rw[rR];omega)
   ·dsimp only;unfold elL;rw[bi,List.length_range,rR];exact h2
   ·dsimp only;omega
theorem jN.one{H:Hp}{s:AV}{l:List (List Int)}(h:jN H s l):s.one=true/\s.cells=[s]:=by
 rcases h with rfl|h
 ·exact⟨rfl,rfl⟩
 ·exact h.one
theorem B1:∀k,stR [] k=([],0)
 |0=>rfl
 |k+1=>by
  unfold stR;rw[B1 k];rfl
structure CmpO{α:Type}(P:Program)(f:α->AV)(K:α->α->Int)(G:α->Prop):Prop where
 cells:∀x,(f x).cells=[f x]
 one:∀x,(f x).one=true
 dat:∀x,Dat (f x)
 run:∀x y,G x->G y->Go.Abs.Pure P 187 [f x,f y] (.bool (decide (K x y<0)))
 ord:Ord K
theorem Nz:Ord (λx y:Int=>x-y):=⟨λx=>by omega,λx y h=>by omega,λx y z h1 h2=>by omega⟩
section
attribute [local irreducible] aK ak bg a6 aQ aS aE aU a8 bn Go.Abs.Fn a5 Go.Abs.Pure au aM Yl
theorem ua(a:List Spx)(ha:ShC a):pU 75 [am a] (.int .i64 (gU a)):=by
 refine pO Np ?_;simp only[b75,aH];have ha':a.length<=17592186044416:=ha.1;unfold gU;by_cases h0:4096<a.length
 ·rw[if_pos h0];refine wnZ (zI3 @ae @ai @af) ?_
  all_goals exact d6 rfl
 rw[if_neg h0];refine wnZ (zI3 @ae @ai @af) ?_;refine jY (X:=Nat) (λk=>[(0,am a),(9,am a),(10,.int .i64 a.length),(11,.int .i64 k)]) (λk=>k<=a.length/\∀i,i<k->Al a i=0) (λk=>a.length-k) 0 ⟨bw _,λi h=>absurd h (by omega)⟩ ag0 ?_;rintro k ⟨h1,h2⟩;by_cases hk:k<a.length
 rotate_left
 ·rw[cT λi hi=>h2 i (by omega)];refine wnY and_self ?_;exact .int _ _
 have ix:=dH hk;have i0:=HV (l:=a) (by omega);have hs1:=ha.2 _ (ay hk);have hp:=pD (a.getD k default) hs1;have hsp:=su (a:=a) (k:=k);by_cases he:bQ (a.getD k default)≠0
 ·rw[if_pos he] at hsp;rw[ci hk h2 (by rw[hsp];exact he),hsp];have z:decide (bQ (a.getD k default)≠0)=true:=aL he;refine wnY (zI4 @ae @ao @ix @z) ?_;exact .int _ _
 rw[if_neg he] at hsp;have he:=sW he;rw[he] at hp;have z:decide ((0:Int)≠0)=false:=rfl;by_cases hl:(a.getD k default).length≠(a.getD 0 default).length
 ·rw[if_pos hl] at hsp;rw[ci hk h2 (by rw[hsp];decide),hsp];have z1:decide (((a.getD k default).length:Int)≠(a.getD 0 default).length)=true:=aL (by omega);refine wnY (zI6 @ae @ao @ix @i0 @z @z1) ?_;exact .int _ _
 rw[if_neg hl] at hsp;have z1:decide (((a.getD k default).length:Int)≠(a.getD 0 default).length)=false:=aO (by omega);by_cases hk0:0<k
 rotate_left
 ·rw[if_neg (λh=>hk0 h.1)] at hsp;have zk:decide (0<(k:Int))=false:=aO (by omega);refine wnY (zI7 @ae @ao @ix @i0 @z @z1 @zk) ?_
  exact ⟨k + 1,⟨by omega,fun i hi=>by
   rcases gN.1 hi with h'|rfl
   ·exact h2 i h'
   ·exact hsp⟩,by omega,ag0,rfl,rfl⟩
 have zk:decide (0<(k:Int))=true:=aL (by omega)
 have iy:eu 1 (am a) (.int .i64 ((k:Int)-1))=some (.iptr [aA (a.getD (k-1) default)] 0):=by
  have:=dH (l:=a) (k:=k-1) (by omega)
  rwa [show((k-1:Nat):Int)=(k:Int)-1 by omega] at this
 have hcm:=gR (a.getD (k-1) default) (a.getD k default) (ha.2 _ (ay (by omega))) hs1;by_cases hv:0<=bh (a.getD (k-1) default) (a.getD k default)
 ·have z2:decide (0<=bh (a.getD (k-1) default) (a.getD k default))=true:=aL hv;rw[if_pos ⟨hk0,hv⟩] at hsp;rw[ci hk h2 (by rw[hsp];decide),hsp];refine wnY (zI9 @ae @ao @ix @i0 @iy @z @z1 @zk @z2) ?_;exact .int _ _
 ·have z2:decide (0<=bh (a.getD (k-1) default) (a.getD k default))=false:=aO hv;rw[if_neg (λh=>hv h.2)] at hsp;refine wnY (zI9 @ae @ao @ix @i0 @iy @z @z1 @zk @z2) ?_
  exact ⟨k + 1,⟨by omega,fun i hi=>by
   rcases gN.1 hi with h'|rfl
   ·exact h2 i h'
   ·exact hsp⟩,by omega,ag0,rfl,rfl⟩
theorem G7(a:List Spx)(ha:ShC a):pU 117 [am a] (.int .i64 (gU a)):=by
 refine pO L4 ?_;simp only[MX,aH];have ha':a.length<=17592186044416:=ha.1;unfold gU;by_cases h0:4096<a.length
 ·rw[if_pos h0];refine wnZ (zI3 @ae @ai @af) ?_
  all_goals exact d6 rfl
 rw[if_neg h0];refine wnZ (zI3 @ae @ai @af) ?_;refine jY (X:=Nat) (λk=>[(0,am a),(3,.int .i64 k)]) (λk=>k<=a.length/\∀i,i<k->Al a i=0) (λk=>a.length-k) 0 ⟨bw _,λi h=>absurd h (by omega)⟩ ag0 ?_;rintro k ⟨h1,h2⟩;by_cases hk:k<a.length
 rotate_left
 ·rw[cT λi hi=>h2 i (by omega)];refine wnY @ae ?_;exact .int _ _
 have ix:=dH hk;have i0:=HV (l:=a) (by omega);have hs1:=ha.2 _ (ay hk);have hp:=wx (a.getD k default) hs1;have hsp:=su (a:=a) (k:=k);by_cases he:bQ (a.getD k default)≠0
 ·rw[if_pos he] at hsp;rw[ci hk h2 (by rw[hsp];exact he),hsp];have z:decide (bQ (a.getD k default)≠0)=true:=aL he;refine wnY (zI4 @ae @ao @ix @z) ?_;exact .int _ _
 rw[if_neg he] at hsp;have he:=sW he;rw[he] at hp;have z:decide ((0:Int)≠0)=false:=rfl;by_cases hl:(a.getD k default).length≠(a.getD 0 default).length
 ·rw[if_pos hl] at hsp;rw[ci hk h2 (by rw[hsp];decide),hsp];have z1:decide (((a.getD k default).length:Int)≠(a.getD 0 default).length)=true:=aL (by omega);refine wnY (zI6 @ae @ao @ix @i0 @z @z1) ?_;exact .int _ _
 rw[if_neg hl] at hsp;have z1:decide (((a.getD k default).length:Int)≠(a.getD 0 default).length)=false:=aO (by omega);by_cases hk0:0<k
 rotate_left
 ·rw[if_neg (λh=>hk0 h.1)] at hsp;have zk:decide (0<(k:Int))=false:=aO (by omega);refine wkY (zI7 @ae @ao @ix @i0 @z @z1 @zk) ?_
  exact ⟨k + 1,⟨by omega,fun i hi=>by
   rcases gN.1 hi with h'|rfl
   ·exact h2 i h'
   ·exact hsp⟩,by omega,ag0,rfl,rfl⟩
 have zk:decide (0<(k:Int))=true:=aL (by omega)
 have iy:eu 1 (am a) (.int .i64 ((k:Int)-1))=some (.iptr [aA (a.getD (k-1) default)] 0):=by
  have:=dH (l:=a) (k:=k-1) (by omega)
  rwa [show((k-1:Nat):Int)=(k:Int)-1 by omega] at this
 have hcm:=fW (a.getD (k-1) default) (a.getD k default) (ha.2 _ (ay (by omega))) hs1;by_cases hv:0<=bh (a.getD (k-1) default) (a.getD k default)
 ·have z2:decide (0<=bh (a.getD (k-1) default) (a.getD k default))=true:=aL hv;rw[if_pos ⟨hk0,hv⟩] at hsp;rw[ci hk h2 (by rw[hsp];decide),hsp];refine wkY (zI9 @ae @ao @ix @i0 @iy @z @z1 @zk @z2) ?_;exact .int _ _
 ·have z2:decide (0<=bh (a.getD (k-1) default) (a.getD k default))=false:=aO hv;rw[if_neg (λh=>hv h.2)] at hsp;refine wkY (zI9 @ae @ao @ix @i0 @iy @z @z1 @zk @z2) ?_
  exact ⟨k + 1,⟨by omega,fun i hi=>by
   rcases gN.1 hi with h'|rfl
   ·exact h2 i h'
   ·exact hsp⟩,by omega,ag0,rfl,rfl⟩
def uv(a:List Spx):Bool:=((a.take 50).all λs=>decide (s.length<=10))&&(decide (a.length<=40) || decide (4096<a.length))
theorem IE(a:List Spx)(ha:ShC a):pU 40 [am a] (.bool (uv a)):=by
 refine pO NG ?_;simp only[b40,aH];have ha':a.length<=17592186044416:=ha.1;have hlt:(a.take 50).length=min 50 a.length:=eM;refine wnZ @ae ?_;refine jY (X:=Nat) (λk=>[(0,am a),(3,.int .i64 k)]) (λk=>k<=(a.take 50).length/\∀i,i<k->decide (((a.take 50).getD i default).length<=10)=true) (λk=>(a.take 50).length-k) 0 ⟨bw _,λi h=>absurd h (by omega)⟩ ag0 ?_;rintro k ⟨h1,h2⟩;by_cases hk:k<(a.take 50).length
 rotate_left
 ·have e:uv a=(decide (a.length<=40) || decide (4096<a.length)):=by
    unfold uv;rw[iC λi hi=>h2 i (by omega),Bool.true_and]
  rw[e];by_cases h3:a.length<=40
  ·have y1:decide ((a.length:Int)<=40)=true:=aL (by omega);have y2:decide ((k:Int)<a.length)=false:=aO (by omega);rw[aL h3];refine wnY (zI3 @ae @y1 @y2) ?_;exact .bool _
  ·have y1:decide ((a.length:Int)<=40)=false:=aO (by omega);rw[aO h3,Bool.false_or];by_cases h4:k<a.length
   ·have y2:decide ((k:Int)<a.length)=true:=aL (by omega);have y3:decide ((k:Int)<50)=false:=aO (by omega);refine wnY (zI4 @ae @y1 @y2 @y3) ?_;exact cf (decide_eq_decide.2 (by omega))
   ·have y2:decide ((k:Int)<a.length)=false:=aO (by omega);refine wnY (zI3 @ae @y1 @y2) ?_;exact cf (decide_eq_decide.2 (by omega))
 have hk1:k<a.length:=by omega
 have ix:=dH hk1;have e:(a.take 50).getD k default=a.getD k default:=qm (by omega);have y2:decide ((k:Int)<a.length)=true:=aL (by omega);have y3:decide ((k:Int)<50)=true:=aL (by omega);by_cases hs:(a.getD k default).length<=10
 ·have y4:decide ((10:Int)<(a.getD k default).length)=false:=aO (by omega);refine wnY (zI6 @ae @ao @ix @y2 @y3 @y4) ?_
  exact ⟨k + 1,⟨by omega,fun i hi=>by
   rcases gN.1 hi with h'|rfl
   ·exact h2 i h'
   ·rw[e];exact aL hs⟩,by omega,ag0,rfl,rfl⟩
 ·have y4:decide ((10:Int)<(a.getD k default).length)=true:=aL (by omega)
  have e2:uv a=false:=by
   unfold uv;rw[gQ hk (by rw[e];exact aO hs),Bool.false_and]
  rw[e2];refine wnY (zI6 @ae @ao @ix @y2 @y3 @y4) ?_;exact .bool _
theorem vR(l:List Spx)(hl:l.length<=100000)(hs:∀x∈l,x.length<=1000000):pU 84 [am l] (am l):=by
 refine pO NA ?_;simp only[b84,aH];refine wnZ @ae ?_;refine bN (X:=AV×Nat) (λx=>[(3,x.1),(6,am l),(7,.int .i64 l.length),(8,.int .i64 x.2)]) (λx H nx=>x.2<=l.length/\Row H 1 x.1 ((l.take x.2).map aA)/\∀b,bv x.1=some b->b<nx) (λx=>l.length-x.2) (.esl,0) ⟨bw _,Row.nil,λb hb=>(by cases hb)⟩ ag0 ?_;rintro⟨s,j⟩ H nx ⟨h1,h2,h3⟩;dsimp only at h1 h2 h3 |-;by_cases hj:j<l.length
 ·have hw:=ay hj;have hcl:=Du _ (hs _ hw);have ix:=dH hj;refine wnY @ix ?_;refine fR ev0 ev0 hcl (ag (cS _ _) aj) ?_;refine wnY (aI @aZ @aJ) ?_;refine gI rfl ev0 (h2.same λb hb=>?_) ev0 eA rfl rfl jq (by simp;omega) (by simp;omega) ?_
  ·have:=h3 b hb;rw[ac (by omega)]
  rintro s2 E e hrow hle1 hle2 hsame hb2;refine wnY and_self ?_;refine⟨(s2,j+1),by dsimp only;omega,⟨by dsimp only;omega,?_,λb hb=>?_⟩,ag0⟩
  ·dsimp only;rw[Be hj,cl];exact hrow
  ·rcases hb2 b hb with h|h
   ·have:=h3 b h;omega
   ·omega
 ·refine wnY and_self ?_;rw[fI (by omega)] at h2;exact gj h2
theorem Dp(l:List Spx)(hl:Shn l)(hs:∀x∈l,x.length<=1000000):pU 76 [am l] (.tup [am (if 4096<l.length then [] else l),.int .i64 (if 4096<l.length then 5 else 0)]):=by
 refine pO NP ?_;simp only[b76,aH];have hl':l.length<=17592186044416:=hl;by_cases h:4096<l.length
 ·have z:decide ((4096:Int)<l.length)=true:=aL (by omega);rw[if_pos h,if_pos h];refine wnY (aI @ae @z) ?_;exact dV (.eslsl _) rfl
 ·have z:decide ((4096:Int)<l.length)=false:=aO (by omega);rw[if_neg h,if_neg h];have hc:=vR l (by omega) hs;refine wnY (aI @ae @z) ?_;exact dV (bA _).snap rfl
theorem Jo(a b:List Spx)(ha:a.length<=1000000/\∀s∈a,Shn s)(hb:b.length<=1000000/\∀s∈b,Shn s):pU 119 [am a,am b] (am (jM bh a b)):=by
 refine pO Mu ?_;simp only[KW,aH]
 repeat' (first|refine zW ?_|apply a_n|refine zO ?_|refine vZ ?_|fail)
 refine bN (X:=Nat×Nat×List Spx×AV) (λx=>[(0,am a),(1,am b),(5,x.2.2.2),(6,.int .i64 x.1),(7,.int .i64 x.2.1)]) (λx H nx=>x.1<=a.length/\x.2.1<=b.length/\x.2.2.1.length<=x.1+x.2.1/\x.2.2.1++jM bh (a.drop x.1) (b.drop x.2.1)=jM bh a b/\Row H 1 x.2.2.2 (x.2.2.1.map aA)/\∀b,bv x.2.2.2=some b->b<nx) (λx=>(a.length-x.1)+(b.length-x.2.1)) (0,0,[],.esl) ⟨bw _,bw _,by simp,rfl,Row.nil,λb hb=>(by cases hb)⟩ ag0 ?_;rintro⟨i,j,D,sv⟩ H nx ⟨h1,h2,h3,h4,h5,h6⟩;dsimp only at h1 h2 h3 h4 h5 h6 |-
 have key:∀(x:Spx){P:Program}{T:Tm}{dm:DM}{K:SP}{l:List Op2}{d:Option Nat}{s v:Opd},dm2 dm T (.app 1 24 s v)=true->ov T s=sv->ov T v=.msl nx 1 1 0 1->
     (∀(sv':AV)(H':Hp)(nx':Nat),Row H' 1 sv' ((D++[x]).map aA)->(∀b,bv sv'=some b->b<nx')->ak P dm l (aP T d sv') H' nx' K)->
     D.length<=2000000->ak P dm (⟨d,none,.app 1 24 s v⟩::l) T (ar H nx [aA x]) (nx+1) K:=by
  intro x P T dm K l d s v k1 k2 k3 k4 k5;refine gI k1 k2 (h5.same λb hb=>?_) k3 eA rfl rfl jq (by rw[bi];omega) (by rw[bi];omega) ?_
  ·have:=h6 b hb;rw[ac (by omega)]
  rintro s2 E e hrow hle1 hle2 hsame hb2;refine k4 s2 E e (by rw[cl];exact hrow) λb hb=>?_;rcases hb2 b hb with h|h
  ·have:=h6 b h;omega
  ·omega
 by_cases hi:i<a.length
 ·have ix:=dH hi;have hsx:=ha.2 _ (ay hi);rw[eW hi] at h4;have z1:decide ((i:Int)<a.length)=true:=aL (by omega);have z5:decide ((i:Int)=a.length)=false:=aO (by omega);by_cases hj:j<b.length
  ·have iy:=dH hj;have hsy:=hb.2 _ (ay hj);rw[eW hj,Bi,<-eW hi,<-eW hj] at h4;have hc1:=fW _ _ hsx hsy;have hc2:=fW _ _ hsy hsx;have z2:decide ((j:Int)=b.length)=false:=aO (by omega);generalize a.getD i default=x at *;generalize b.getD j default=y at *;by_cases g1:bh x y<0
   ·have z3:decide (bh x y<0)=true:=aL g1;rw[if_pos g1] at h4;have zz:=aI @ae (aI @z1 (aI @z2 (aI @z3 (aI @ix (aI @iy (aI @aZ @aJ))))));repeat' (first|refine zW ?_|refine zM ?_|apply a_n|refine zO ?_|refine vY ?_|refine cY ?_ (hp:=by first|exact hc1|exact hc2) (hs:=by(first|refine aF ?_ rfl|apply aW);(repeat' (first|exact aj|apply bo|apply aX|exact cS _));first|done|fail)|refine blY ?_|refine gTY ?_|refine gFY ?_|refine cTY ?_|fail)
    refine key x rfl ev0 ev0 (λs2 H2 nx2 r1 r2=>?_) (by omega)
    repeat' (first|apply a_n|refine zO ?_|refine vY ?_|fail)
    exact⟨(i+1,j,D++[x],s2),by dsimp only;omega,⟨by dsimp only;omega,h2,by simp;omega,by dsimp only;rw[il];exact h4,r1,r2⟩,ag0⟩
   have z3:decide (bh x y<0)=false:=aO g1;rw[if_neg g1] at h4;by_cases g2:bh y x<0
   ·have z4:decide (bh y x<0)=true:=aL g2;rw[if_pos g2] at h4;have zz:=aI @ae (aI @z1 (aI @z2 (aI @z3 (aI @z4 (aI @z5 (aI @ix (aI @iy (aI @aZ @aJ))))))));repeat' (first|refine zW ?_|refine zM ?_|apply a_n|refine zO ?_|refine vY ?_|refine cY ?_ (hp:=by first|exact hc1|exact hc2) (hs:=by(first|refine aF ?_ rfl|apply aW);(repeat' (first|exact aj|apply bo|apply aX|exact cS _));first|done|fail)|refine blY ?_|refine gTY ?_|refine gFY ?_|refine cTY ?_|refine cFY ?_|fail)
    refine key y rfl ev0 ev0 (λs2 H2 nx2 r1 r2=>?_) (by omega)
    repeat' (first|apply a_n|refine zO ?_|refine vY ?_|fail)
    exact⟨(i,j+1,D++[y],s2),by dsimp only;omega,⟨h1,by dsimp only;omega,by simp;omega,by dsimp only;rw[il];exact h4,r1,r2⟩,ag0⟩
   ·have z4:decide (bh y x<0)=false:=aO g2;rw[if_neg g2] at h4;have zz:=aI @ae (aI @z1 (aI @z2 (aI @z3 (aI @z4 (aI @z5 (aI @ix (aI @iy (aI @aZ @aJ))))))));repeat' (first|refine zW ?_|refine zM ?_|apply a_n|refine zO ?_|refine vY ?_|refine cY ?_ (hp:=by first|exact hc1|exact hc2) (hs:=by(first|refine aF ?_ rfl|apply aW);(repeat' (first|exact aj|apply bo|apply aX|exact cS _));first|done|fail)|refine gTY ?_|refine gFY ?_|refine cTY ?_|refine cFY ?_|fail)
    exact⟨(i+1,j+1,D,sv),by dsimp only;omega,⟨by dsimp only;omega,by dsimp only;omega,by dsimp only;omega,h4,h5,h6⟩,ag0⟩
  ·have e:b.drop j=[]:=List.drop_of_length_le (by omega);rw[e,w5] at h4;have z2:decide ((j:Int)=b.length)=true:=aL (by omega);generalize a.getD i default=x at *;have zz:=aI @ae (aI @z1 (aI @z2 (aI @ix (aI @aZ @aJ))));repeat' (first|refine zW ?_|refine zM ?_|apply a_n|refine zO ?_|refine vY ?_|refine blY ?_|refine gFY ?_|refine cTY ?_|fail)
   refine key x rfl ev0 ev0 (λs2 H2 nx2 r1 r2=>?_) (by omega)
   repeat' (first|apply a_n|refine zO ?_|refine vY ?_|fail)
   exact⟨(i+1,j,D++[x],s2),by dsimp only;omega,⟨by dsimp only;omega,h2,by simp;omega,by dsimp only;rw[e,w5,il];exact h4,r1,r2⟩,ag0⟩
 ·have e:a.drop i=[]:=List.drop_of_length_le (by omega);rw[e,wC] at h4;have z1:decide ((i:Int)<a.length)=false:=aO (by omega);have z5:decide ((i:Int)=a.length)=true:=aL (by omega);by_cases hj:j<b.length
  ·have iy:=dH hj;rw[eW hj] at h4;have z2:decide ((j:Int)=b.length)=false:=aO (by omega);have z6:decide ((j:Int)<b.length)=true:=aL (by omega);generalize b.getD j default=y at *;refine wkY (zI8 @ae @z1 @z2 @z5 @z6 @iy @aZ @aJ) ?_;refine key y rfl ev0 ev0 (λs2 H2 nx2 r1 r2=>?_) (by omega);refine wnY and_self ?_;exact⟨(i,j+1,D++[y],s2),by dsimp only;omega,⟨h1,by dsimp only;omega,by simp;omega,by dsimp only;rw[e,wC,il];exact h4,r1,r2⟩,ag0⟩
  ·have z6:decide ((j:Int)<b.length)=false:=aO (by omega);rw[List.drop_of_length_le (by omega),eH] at h4;refine wnY (zI3 @ae @z1 @z6) ?_;rw[<-h4];exact gj h5
theorem me{a:List Spx}(h:∀s∈a,bQ s=0):∀s∈a,Shn s:=λs hs=>by have:=(cE (h s hs)).2.1;show _<=_;omega
theorem zw{a:List Spx}(h:∀s∈a,bQ s=0):∀s∈a,s.length<=1000000:=λs hs=>by have:=(cE (h s hs)).2.1;omega
theorem Gr(n:Nat)(h0:0<n)(h1:n<=1000000)(H:Hp)(nx:Nat):Abs.Fn Tryz.prog 161 [.esl,.int .i64 n] H nx λr H' nx'=>r=.msl nx (n*2) 2 0 0/\H'=ar H nx (bz (.agg [.int .i64 0,.int .i64 0]) n)/\nx'=nx+1:=by
 refine fO L1 ?_;simp only[Mh,aH];have z1:decide ((n:Int)<0)=false:=aO (by omega);have z2:decide ((0:Int)<n)=true:=aL (by omega);have s2:jI 2 .esl none (some (.int .i64 0)) none=some .esl:=rfl;have s3:=AB (B:=nx) (n:=n*2) (len:=n) (k:=0) (by omega) (by omega);rw[show((0:Nat):Int)=0 from rfl] at s3;refine wnY (zI6 @z1 @z2 @s2 @Int.sub_zero @Int.sub_self @Ha) ?_;refine JS rfl (have zz:=@s2;evY) ev0 (by omega) (by omega) (by omega) ?_;refine wnY @s3 ?_;exact⟨rfl,rfl,rfl⟩
theorem w7{c:List Spx}{k:Nat}(hk:k<c.length):(c.take (k+1)).flatten=(c.take k).flatten++c.getD k default:=by
 rw[bI hk,List.flatten_append];simp
theorem DF(c:List Spx)(hpos:0<c.flatten.length)(hl:c.flatten.length<=1000000)(hc:c.length<=1000000)(H:Hp)(nx:Nat):
    Abs.Fn Tryz.prog 141 [am c] H nx λr H' nx'=>r=.msl nx (c.flatten.length*2) 2 0 c.flatten.length/\H'=ar H nx (cX c.flatten)/\nx'=nx+1:=by
 refine fO Lz ?_;simp only[M3,aH]
 have hle:∀k,(c.take k).flatten.length<=c.flatten.length:=λk=>by
  have:c.flatten=(c.take k).flatten++(c.drop k).flatten:=by rw[<-List.flatten_append,Eu]
  rw[this,cA];omega
 refine dJ ?_
 repeat' (first|apply a_n|refine zO ?_|refine vY ?_|fail)
 refine dJ ?_
 repeat' (first|apply a_n|refine zO ?_|refine vY ?_|fail)
 refine cr (λT H' nx'=>T 0=am c/\T 3=.int .i64 (c.flatten.length:Nat)/\H=H'/\nx=nx') ?_ ?_
 ·refine wnY @ae ?_;refine jY (X:=Nat) (λk=>[(0,am c),(3,.int .i64 ((c.take k).flatten.length:Nat)),(9,am c),(10,.int .i64 c.length),(11,.int .i64 (k:Nat))]) (λk=>k<=c.length) (λk=>c.length-k) 0 (by omega) (by simp (disch:=omega) only[agr,ZG,reduceEqDiff,↓reduceIte,List.take_zero,List.flatten_nil,fo]<;>simp) ?_;intro k hk;by_cases hk2:k<c.length
  rotate_left
  ·rw[fI (by omega)];refine wnY and_self ?_;exact⟨rfl,rfl,rfl,rfl⟩
  have ix:=dH hk2;have hle2:=hle (k+1);have e:(((c.take (k+1)).flatten.length:Nat):Int)=((c.take k).flatten.length:Nat)+((c.getD k default).length:Nat):=by rw[w7 hk2,cA];omega
  rw[w7 hk2,cA] at hle2;have z:decide ((((c.take k).flatten.length:Nat):Int)+((c.getD k default).length:Nat)<0)=false:=aO (by omega);generalize c.getD k default=s at *;refine wnY (zI3 @ix @ao @z) ?_;exact⟨k+1,by omega,by omega,(have zz:=@e;agZ),rfl,rfl⟩
 rintro T _ _ ⟨t0,t3,rfl,rfl⟩;refine wnY @t3 ?_;refine bc ev0 (have zz:=@t3;evY) (Gr c.flatten.length (by omega) (by omega) H nx) ?_;rintro _ _ _ ⟨rfl,rfl,rfl⟩;refine wnY (aI @t0 @ae) ?_;refine bN (X:=Nat) (λk=>[(6,.msl nx (c.flatten.length*2) 2 0 (c.take k).flatten.length),(25,am c),(26,.int .i64 c.length),(27,.int .i64 (k:Nat))]) (λk H' nx'=>k<=c.length/\(∃C,H'=ar H nx C/\C.length=c.flatten.length*2/\C.take ((c.take k).flatten.length*2)=cX (c.take k).flatten)/\nx'=nx+1) (λk=>c.length-k) 0 ⟨by omega,⟨_,rfl,GM _,rfl⟩,rfl⟩ (by simp (disch:=omega) only[agr,ZG,reduceEqDiff,↓reduceIte,List.take_zero,List.flatten_nil,fo]) ?_;rintro k _ _ ⟨hk,⟨C,rfl,h1,h2⟩,rfl⟩;by_cases hk2:k<c.length
 rotate_left
 ·have ek:c.take k=c:=fI (by omega);rw[ek] at h2 |-;rw[fI (by omega)] at h2;subst h2;refine wnY and_self ?_;exact⟨rfl,rfl,rfl⟩
 have ix:=dH hk2;have hle2:=hle (k+1);have e:=w7 hk2;rw[e,cA] at hle2;have hcl:=gX (c.getD k default);have hcp:=gX (c.take k).flatten;generalize c.getD k default=s at *;refine wnY @ix ?_;refine Jk (b:=nx) (N:=c.flatten.length*2) (len:=(c.take k).flatten.length) (n:=s.length) (C:=C) rfl ev0 ah h1 ev0 vq (kR _) (by rw[hcl]) (by omega) (by omega) (by omega) (by omega) (by omega) λC2 c1 c2=>?_;refine wnY and_self ?_;refine⟨k+1,by omega,⟨by omega,⟨_,bd _ _ _ _,c1,?_⟩,rfl⟩,by simp (disch:=omega) only[agr,ZG,reduceEqDiff,↓reduceIte,e,cA]⟩;rw[e,mY,cA,<-h2];exact c2
theorem N3{P:Program}{T:Tm}{H S:Hp}{nx n:Nat}{K:SP}{l:List (Op2×Nat)}{d:Option Nat}{i:Ins}{t:Nat}{w:Bool}(h:T t=.bool w)(k:bf P S ((⟨d,none,i⟩,n)::l) T H nx K):bf P S ((⟨d,some (t,w),i⟩,n)::l) T H nx K:=by
 have e:g2 T (some (t,w))=some true:=by simp[g2,h]
 cases n with
 |zero=>show aU (g2 T (some (t,w))) _ _;rw[e];exact k
 |succ n=>show aU (g2 T (some (t,w))) _ _;rw[e];exact k
theorem CR(x y:Spx)(h:0<(x++y).length)(hl:(x++y).length<=1000000):PureF Tryz.prog 141 [am [x,y]] (aA (x++y)):=by
 refine PureF.of_fn ?_;have e:[x,y].flatten=x++y:=by simp
 have hc:=DF [x,y] (by rw[e];exact h) (by rw[e];exact hl) (by simp) bP 0;rw[e] at hc;refine Abs.Fn.mono hc ?_;rintro _ _ _ ⟨rfl,rfl,rfl⟩;exact rN (Row.box _ (x++y).length (cX (x++y)) ah (gX _))
theorem vw(s:Spx)(H:Hp)(nx:Nat):Abs.Fn Tryz.prog 129 [aA s] H nx λr H' nx'=>r=.func 154 [.ptr nx 1 0]/\H'=ar H nx [aA s]/\nx'=nx+1:=by
 refine fO Kc ?_;simp only[LV,aH];refine wnY (aI @aZ @aJ) ?_;exact⟨rfl,rfl,rfl⟩
theorem DX{H:Hp}{b:Nat}{x y:Spx}(h:H b=some [aA x,aA y]):aM H [.msl b 2 1 0 2] [am [x,y]]:=
 ag (uX (l:=[aA x,aA y]) h rfl rfl (by
  intro z hz;simp only[da,List.not_mem_nil,or_false] at hz;rcases hz with rfl|rfl
  ·exact⟨rfl,cS _⟩
  ·exact⟨rfl,cS _⟩)) aj
theorem wo{s:Spx}(h:2<=s.length):(fcs s).length=s.length:=by
 unfold fcs;rw[if_neg (by omega),wU]
theorem BC{s:Spx}{i:Nat}(h:2<=s.length)(hi:i<s.length):(fcs s).getD i default=s.take i++s.drop (i+1):=by
 unfold fcs;rw[if_neg (by omega),BK hi]
theorem uZ{y sb:Nat}{s:Spx}{H:Hp}{nx:Nat}(hs:s.length<=1000)(I:List Spx->Hp->Nat->Prop)
    (hp:∀D H nx,I D H nx->H sb=some [aA s])
    (stab:∀D H H' nx1 nx',I D H nx1->nx1<=nx'->(∀i,i<nx1->H' i=H i)->I D H' nx')
    (rnd:∀D f H nx1,I D H nx1->D.length<(fcs s).length->f=(fcs s).getD D.length default->D=(fcs s).take D.length->Yl Tryz.prog y [aA f] H nx1 λr H' nx'=>r=.bool true/\I (D++[f]) H' nx')
    (h0:I [] H nx):
    Abs.Fn Tryz.prog 154 [.yld y,.ptr sb 1 0] H nx λ_ H' nx'=>I (fcs s) H' nx':=by
 refine fO Kp ?_;simp only[Ky,aH];have g1:=hp _ _ _ h0;refine wnY (zI4 @g1 @aZ @aJ @ao) ?_;by_cases h2:2<=s.length
 rotate_left
 ·have e:fcs s=[]:=by unfold fcs;rw[if_pos (by omega)]
  rw[e];refine bN (X:=Nat) (λk=>[(0,.yld y),(1,.ptr sb 1 0),(5,.int .i64 s.length),(6,.int .i64 k)]) (λk H' nx'=>k<=s.length/\I [] H' nx') (λk=>s.length-k) 0 ⟨bw _,h0⟩ ag0 ?_;rintro k H1 nx1 ⟨h1,hI⟩;have q1:=hp _ _ _ hI;by_cases hk:k<s.length
  rotate_left
  ·refine wnY and_self ?_;exact hI
  have z:decide ((1:Int)<s.length)=false:=aO (by omega);refine wkY (zI5 @q1 @aZ @aJ @ao @z) ?_;exact⟨k+1,by omega,⟨by omega,hI⟩,ag0⟩
 have z:decide ((1:Int)<s.length)=true:=aL (by omega);have hfl:=wo h2;have hfg:=λ{i:Nat}(hi:i<s.length)=>BC (i:=i) h2 hi;refine bN (X:=Nat) (λk=>[(0,.yld y),(1,.ptr sb 1 0),(5,.int .i64 s.length),(6,.int .i64 k)]) (λk H' nx'=>k<=s.length/\I ((fcs s).take k) H' nx') (λk=>s.length-k) 0 ⟨bw _,h0⟩ ag0 ?_;rintro k H1 nx1 ⟨h1,hI⟩;have q1:=hp _ _ _ hI;by_cases hk:k<s.length
 rotate_left
 ·rw[fI (by omega)] at hI;refine wnY and_self ?_;exact hI
 have a1:jI 2 (aA s) none (some (.int .i64 (k:Int))) none=some (aA (s.take k)):=pi (by omega);have a2:jI 2 (aA s) (some (.int .i64 ((k:Int)+1))) none none=some (aA (s.drop (k+1))):=sZ (k:=k+1) (by omega);have hc:=CR (s.take k) (s.drop (k+1)) (by rw[cA,eM,wR];omega) (by rw[cA,eM,wR];omega);have hr:=rnd ((fcs s).take k) ((fcs s).getD k default) (ar H1 nx1 [aA (s.take k),aA (s.drop (k+1))]) (nx1+1) (stab _ _ _ _ _ hI (by omega) λi hi=>ac (by omega)) (by rw[eM];omega) (by rw[eM,Nat.min_eq_left (by omega)]) (by rw[eM,Nat.min_eq_left (by omega)]);rw[<-bI (by omega),hfg hk] at hr;refine wnY (zI7 @q1 @aZ @aJ @ao @z @a1 @a2) ?_;refine w_mix1 sb q1 λS0 hS1 hsub=>?_;simp only[fX,List.map_nil,List.getD_cons_succ,List.getD_cons_zero];have zz:=aI @hS1 (aI @aZ (aI @aJ (aI @ao (aI @z (aI @a1 @a2)))));repeat' (first|apply a_n|refine zO ?_|refine nvY ?_|apply jr|refine blY ?_|fail)
 repeat (refine N3 ev0 ?_;skip)
 refine fR ev0 ev0 hc (DX (by rw[ah])) ?_
 repeat' (first|apply a_n|refine zO ?_|apply jr|fail)
 refine xz ev0 ev0 (Yl.mono hr ?_);rintro v H3 nx3 ⟨rfl,e1⟩;refine wnY and_self ?_;exact⟨k+1,by omega,⟨by omega,e1⟩,ag0⟩
theorem FU{n:Nat}{c:Spx->Nat}{O:List Spx}{bs:List Nat}{ck:Nat}{f:Spx}{H:Hp}(hn:n<=8)(h:BOk H n c O bs ck)(hf:f.length=n):
    dh (.st [.int,.int,.int,.int,.int,.int,.int,.int,.int,.int,.int,.int,.int,.int,.int,.int]) (eK (kZ f)) ((O.map kZ).map eK)=some (if f∈O then some (O.idxOf f) else none):=by
 rw[Gq,EG hn hf h.all];by_cases e:f∈O
 ·rw[if_pos e,if_pos ((FQ hn h.all hf).2 e)]
 ·rw[if_neg e,if_neg λq=>e ((FQ hn h.all hf).1 q)]
theorem so(a:List Spx)(n:Nat)(hn:n<=8)(ha:a.length<=4096)(hv:∀s∈a,ce cJ s)(hl:∀s∈a,s.length=n+1\/s.length<2)(h8:∀s∈a,s.length<=8):pU 77 [am a] (am (bV a)):=by
 refine pO NU ?_;simp only[b77,aH];refine dJ ?_
 repeat' (first|apply a_n|refine zO ?_|refine vY ?_|fail)
 refine dJ ?_;refine wnY and_self ?_;refine IM ?_;refine rP (cs:=[.nilm]) rfl rfl rfl ?_
 repeat' (first|apply a_n|refine zO ?_|refine stY ?_|fail)
 refine cr (λT H nx=>T 3=.ptr 1 1 0/\2<=nx/\H 1=some [.mp 0]/\∃O bs ck,BOk H n (og a) O bs ck) ?_ ?_
 ·refine wnY @ae ?_;refine lpI (X:=Nat) (λk=>[(3,.ptr 1 1 0),(14,am a),(15,.int .i64 a.length),(16,.int .i64 k)]) (λk H nx=>k<=a.length/\2<=nx/\H 1=some [.mp 0]/\∃O bs ck,BOk H n (og (a.take k)) O bs ck) (λk=>a.length-k) 0 ⟨bw _,aR _,by rw[ah];rfl,[],[],0,⟨by rw[ac (by omega),ac (by omega),ah];rfl,rfl,qB,λs h=>(by cases h),List.nodup_nil,λs h=>(by cases h),λf=>⟨λh=>(by cases h),λh=>absurd h (by rw[List.take_zero];exact(by decide:¬(0:Nat)%2=1))⟩⟩⟩ ?_;rintro k H nx ⟨h1,h2,h3,O,bs,ck,h4⟩;by_cases hk:k<a.length
  rotate_left
  ·rw[fI (by omega)] at h4;refine wnY and_self ?_;exact⟨rfl,h2,h3,O,bs,ck,h4⟩
  have ix:=dH hk;have hts:=bI hk;have hvs:=hv _ (ay hk);have hls:=hl _ (ay hk);have h8s:=h8 _ (ay hk);generalize a.getD k default=s at *;refine wnY @ix ?_;refine bc ev0 ev0 (vw s H nx) ?_;rintro _ H1 nx1 ⟨rfl,rfl,rfl⟩;refine wnY and_self ?_;refine np (nx+1) (nx+2) rfl rfl ev0 (λc0 cj hy=>?_);refine Abs.Fn.mono (uZ (nx:=nx+2) (y:=nx+1) (sb:=nx) (s:=s) (by omega) (λD H' nx'=>nx+2<=nx'/\H' nx=some [aA s]/\H' (nx+1)=some [c0]/\H' 1=some [.mp 0]/\∃O bs ck,BOk H' n (λf=>og (a.take k) f+D.count f) O bs ck) ?_ ?_ ?_ ?_) ?_
  ·rintro D H' nx' ⟨g1,g2,g3,g4⟩;exact g2
  ·rintro D H' H'' n1 n2 ⟨g1,g2,g3,g4,O,bs,ck,g5⟩ hle hsm;exact⟨by omega,(hsm _ (by omega)).trans g2,(hsm _ (by omega)).trans g3,(hsm _ (by omega)).trans g4,O,bs,ck,g5.same (hsm _ (by omega)) λ_=>rfl⟩
  ·rintro D f H' nx' ⟨g1,g2,g3,g4,O,bs,ck,g5⟩ hlt hfe hDe;refine hy _ _ _ _ g3 rfl ?_;clear hy
   have h2s:2<=s.length:=Nat.le_of_not_lt λh=>by
    have:fcs s=[]:=by unfold fcs;rw[if_pos h]
    rw[this] at hlt;simp at hlt
   have hfl:f.length=n:=by
    rw[hfe,BC h2s (by rw[wo h2s] at hlt;exact hlt),cA,eM,wR];rw[wo h2s] at hlt;omega
   clear hfe hDe;refine wnY and_self ?_;refine⟨g3,?_⟩;have hmf:=FU hn g5 hfl;have q0:=(cq (H:=H') (b:=nx+1) (x:=0) (by omega)).trans g5.box;have q1:=(cq (H:=H') (b:=nx+1) (x:=1) (by omega)).trans g4;have q2:=(cq (H:=H') (b:=nx+1) (x:=nx) (by omega)).trans g2;generalize dl H' (nx+1)=H2 at *;refine wnY and_self ?_;generalize hH3:ar H2 nx' z16=H3;have p0:H3 0=H2 0:=by rw[<-hH3];exact ac (by omega)
   have p1:H3 1=H2 1:=by rw[<-hH3];exact ac (by omega)
   have p2:H3 nx=H2 nx:=by rw[<-hH3];exact ac (by omega)
   have p3:H3 nx'=some z16:=by rw[<-hH3];exact ah
   clear hH3;refine Iv rfl p3 rfl rfl ?_;refine wnY and_self ?_;refine Ik (n:=f.length) (H':=ar H3 nx' ((ik 8 f).map (AV.int .i64))) ?_ ?_
   ·((try simp only[bZ,ZA,reduceEqDiff,↓reduceIte,reduceAdd,reduceLeDiff]);(try with_reducible rfl))
    have hnn:fF (aA f)=some f.length:=by unfold aA jf;simp[fF]
    have htr:vj f.length (aA f)=aA f:=by unfold aA jf;simp[vj];exact fI (by simp)
    have hmin:min f.length 8=f.length:=Nat.min_eq_left (by omega);have hal:fF (.msl nx' 16 2 0 8)=some 8:=rfl
    have hlp:bD z16 0 (cX f)=(ik 8 f).map (AV.int .i64):=by
     rw[<-yk (n:=8) (s:=f) (by omega),I3];simp only[bD,List.take_zero,List.nil_append,cp,gX]
    by_cases hf0:f.length=0
    ·obtain rfl:=fA.1 hf0;have e0:(ik 8 []).map (AV.int .i64)=z16:=rfl;rw[e0,<-Cw p3];simp only[sQ,hal,hnn,hmin];rfl
    ·simp only[sQ,hal,hnn,hmin,if_neg hf0,p3,htr,vq];rw[if_pos (by refine⟨?_,?_,?_,?_⟩<;>first|rfl|trivial|omega|exact kR f),hlp]
   have hl16:((ik 8 f).map (AV.int .i64)).length=16:=by rw[bi,pH]
   have ht:((ik 8 f).map (AV.int .i64)).take 16=(ik 8 f).map (AV.int .i64):=fI (by omega);have r0:=(ac (H:=H3) (b:=nx') (x:=0) (cs:=(ik 8 f).map (AV.int .i64)) (by omega)).trans (p0.trans q0);have r1:=(ac (H:=H3) (b:=nx') (x:=1) (cs:=(ik 8 f).map (AV.int .i64)) (by omega)).trans (p1.trans q1);have r2:=(ac (H:=H3) (b:=nx') (x:=nx) (cs:=(ik 8 f).map (AV.int .i64)) (by omega)).trans (p2.trans q2);have r3:ar H3 nx' ((ik 8 f).map (AV.int .i64)) nx'=some ((ik 8 f).map (AV.int .i64)):=ah;generalize ar H3 nx' ((ik 8 f).map (AV.int .i64))=H4 at *;have hek:eK (kZ f)=.agg ((ik 8 f).map (AV.int .i64)):=rfl;have hkf:=Cb (kZ f);rw[hek] at hmf hkf;have hcnt:∀g,og (a.take k) g+(D++[f]).count g=og (a.take k) g+D.count g+if g=f then 1 else 0:=λg=>AW
   by_cases hf:f∈O
   ·rw[if_pos hf] at hmf;have hil:O.idxOf f<O.length:=qa.2 hf
    have hgv:mget .esl true (some (O.idxOf f)) (O.map aA)=.tup [aA (O.getD (O.idxOf f) default),.bool true]:=by
     rw[<-vB hil];rfl
    generalize hKK:(ik 8 f).map (AV.int .i64)=KK at *;refine wnY (zI4 @r1 @r3 @hl16 @ht) ?_;refine BI ev0 r0 ev0 hkf hmf ?_;rw[hgv];refine wnY (zI4 @r1 @r3 @hl16 @ht) ?_;refine Jh ev0 r0 ev0 hkf hmf ?_;refine wnY and_self ?_;exact⟨rfl,by omega,by rw[ac (by omega),ac (by omega)];exact r2,ah,by rw[ac (by omega),ac (by omega)];exact r1,O.erase f,bs.eraseIdx (O.idxOf f),ck,g5.del hf rfl (by rw[ac (by omega),ah];rfl) hcnt⟩
   ·rw[if_neg hf] at hmf;have hgv:mget .esl true none (O.map aA)=.tup [.esl,.bool false]:=rfl;generalize hKK:(ik 8 f).map (AV.int .i64)=KK at *;refine wnY (zI4 @r1 @r3 @hl16 @ht) ?_;refine BI ev0 r0 ev0 hkf hmf ?_;rw[hgv];refine wnY (zI4 @r1 @r3 @hl16 @ht) ?_;refine HS ev0 r0 ev0 ev0 hkf hmf ?_;refine wnY and_self ?_;exact⟨rfl,by omega,by rw[ac (by omega),ac (by omega)];exact r2,ah,by rw[ac (by omega),ac (by omega)];exact r1,O++[f],bs++[ck],ck+1,g5.put hf hfl (by rw[ac (by omega),ah,hek];rfl) hcnt⟩
  ·exact⟨aR _,by rw[ac (by omega),ah],ah,by rw[ac (by omega),ac (by omega)];exact h3,O,bs,ck,h4.same (by rw[ac (by omega),ac (by omega)]) λf=>by simp⟩
  ·rintro r H' nx' ⟨g1,g2,g3,g4,O,bs,ck,g5⟩;refine .inl ⟨g3,?_⟩;refine wnY and_self ?_;exact⟨k+1,by omega,⟨by omega,by omega,by rw[cq (by omega)];exact g4,O,bs,ck,g5.same (cq (by omega)) λf=>by rw[hts,Dx,sD.count_eq]⟩,ag0⟩
 rintro T H nx ⟨t3,h2,h3,O,bs,ck,h4⟩
 have hO70:O.length<=300000:=by
  have he:=kU hv;have h5:O.length<=(bV a).length:=iE h4.nd λf hf=>(he.2 f).2 ((h4.odd f).1 hf);have:=v9 h8;omega
 refine wnY (aI @t3 @h3) ?_;refine Hn ev0 h4.box ?_;refine wnY and_self ?_;have hbn:bs.Nodup:=yR (λ{x y}(h:x<y) e=>by omega) h4.asc;refine lpI (X:=List Nat×List Spx×AV) (λx=>[(10,x.2.2),(40,.itr nx)]) (λx H' nx'=>H' nx=some [.biter 0 ck x.1]/\nx<nx'/\BOk H' n (og a) O bs ck/\x.1.Nodup/\(∀s∈x.1,s∈bs)/\x.2.1=x.1.map (λs=>O.getD (bs.idxOf s) default)/\Row H' 1 x.2.2 (x.2.1.map aA)/\∀b,bv x.2.2=some b->nx<b/\b<nx') (λx=>bs.length-x.1.length) ([],[],.esl) ⟨ah,xp _,h4.same (ac (by omega)) λ_=>rfl,List.nodup_nil,λs h=>(by cases h),rfl,Row.nil,λb h=>(by cases h)⟩ ?_;rintro⟨seen,D,sv⟩ H1 nx1 ⟨hit,hnx,k4,hsn,hsb,hD,hrow,hbd⟩;dsimp only at hit hsn hsb hD hrow hbd |-;have hsl:seen.length<=bs.length:=iE hsn hsb;have hDl:D.length=seen.length:=by rw[hD,bi]
 have hbl:=k4.len;refine wnY and_self ?_;refine G9 ev0 hit k4.box (λi s hi hns=>?_) (λhall=>?_)
 ·refine wnY and_self ?_;refine GB (i:=i) (s:=s) ev0 ah (by rw[ac (by omega)];exact k4.box) (by simp) hi ?_;obtain⟨hil,his⟩:=bU.1 hi;have hgx:=vB (O:=O) (i:=i) (by omega)
  have hidx:bs.idxOf s=i:=by
   have h5:=qa.2 (show s∈bs by rw[<-his];exact nC hil);have h6:bs[bs.idxOf s]=bs[i]:=by rw[List.getElem_idxOf h5,his]
   exact(List.getElem_inj hbn).1 h6
  have hsnd:(seen++[s]).Nodup:=zE.2 ⟨hsn,by simp,λx hx y hy e=>by rw[e,cW.1 hy] at hx;exact hns hx⟩
  have hssb:∀x∈seen++[s],x∈bs:=λx hx=>by
   rcases eC.1 hx with q|q
   ·exact hsb x q
   ·rw[cW.1 q,<-his];exact nC hil
  have hsl2:=iE hsnd hssb;rw[cA,List.length_singleton] at hsl2;refine wnY (zI3 @hgx @aZ @aJ) ?_;refine eR (hrow.same λb hb=>?_) ?_
  ·have:=hbd b hb;rw[ac (by omega),ac (by omega)]
  rintro s2 H2 nx2 hr2 i1 i2 i3 i4;have lo:∀x,x<=nx->H2 x=ar H1 nx [.biter 0 ck (seen++[s])] x:=λx hx=>(i3 x (by omega) (λh=>by have:=hbd x h;omega)).trans (ac (by omega));refine wnY and_self ?_;refine⟨(seen++[s],D++[O.getD i default],s2),by dsimp only;rw[cA,List.length_singleton];omega,⟨(lo nx (aR _)).trans ah,by omega,k4.same ((lo 0 (by omega)).trans (ac (by omega))) λ_=>rfl,hsnd,hssb,?_,?_,λb hb=>?_⟩,ag0⟩
  ·dsimp only;rw[hD,cl,List.map_singleton,hidx]
  ·dsimp only;rw[cl];exact hr2
  ·rcases i4 b hb with h|h
   ·have:=hbd b h;omega
   ·omega
 ·have hperm:seen.Perm bs:=(List.perm_ext_iff_of_nodup hsn hbn).2 λx=>⟨hsb x,hall x⟩
  have hDO:D.Perm O:=by
   rw[hD];refine(hperm.map _).trans (List.Perm.of_eq ?_);refine List.ext_getElem (by rw[bi];exact hbl) λj g1 g2=>?_;rw[bi] at g1
   have h5:bs.idxOf bs[j]=j:=by
    have h5:=qa.2 (nC g1);have h6:bs[bs.idxOf bs[j]]=bs[j]:=List.getElem_idxOf h5;exact(List.getElem_inj hbn).1 h6
   rw[List.getElem_map,h5];simp[List.getD,g2]
  have hDn:D.Nodup:=hDO.nodup_iff.2 k4.nd;have hDm:∀s,s∈D↔s∈bV a:=λs=>by rw[hDO.mem_iff,k4.odd,(kU hv).2]
  have hfin:=GL lO (DC hv)
  have hsort:Abs.Fn Tryz.prog 130 [sv,.func 70 []] H1 nx1 λ_ H' nx'=>Row H' 1 sv ((bV a).map aA):=by
   generalize hcs:D.map aA=cs at hrow;cases hrow with
   |nil=>
    have hD0:D=[]:=List.map_eq_nil_iff.1 hcs;refine Abs.Fn.mono (pk rfl) ?_;rintro _ _ _ ⟨rfl,rfl⟩
    have:bV a=[]:=by
     rw[xk];intro s h;have:=(hDm s).2 h;rw[hD0] at this;cases this
    rw[this];exact Row.nil
   |box b len cs k1 k2=>
    obtain rfl:len=D.length:=by rw[<-hcs,bi] at k2;omega
    have hb:=hbd b rfl;subst hcs;by_cases h0:D.length=0
    ·have hD0:D=[]:=fA.1 h0
     have he:bV a=[]:=by
      rw[xk];intro s h;have:=(hDm s).2 h;rw[hD0] at this;cases this
     have hrw:Row H1 1 (.msl b (D.length*1) 1 0 D.length) ((bV a).map aA):=by
      have:=Row.box (H:=H1) (sz:=1) b D.length _ k1 (by rw[bi,Nat.mul_one]);rw[he];rwa [hD0] at this |-
     refine Abs.Fn.mono (pk (by rw[h0];rfl)) ?_;rintro _ _ _ ⟨_,e⟩;rw[e];exact hrw
    ·have hg:∀s∈D,Shn s:=λs h=>show s.length<=_ by have:=k4.all s (hDO.mem_iff.1 h);omega
     have hsf:=BD J6 (L:=D) (b:=b) (nx:=nx1) (n:=D.length) k1 hb.2 rfl (by omega) hg (by omega);rw[Nat.mul_one];refine Abs.Fn.mono hsf ?_;rintro _ H' nx' ⟨L',ps,p1,p2⟩;have hlen:=p1.length_eq;have:=ra p1 (by rw[hlen];exact p2) hDn hDm;rw[hfin] at this;rw[<-this,<-hlen];have:=Row.box (H:=H') (sz:=1) b L'.length (L'.map aA) ps.at_ (by simp)
     rwa [Nat.mul_one] at this
  refine wnY and_self ?_;refine bc ev0 ev0 hsort ?_;rintro r H' nx' hr;refine wnY and_self ?_;exact gj hr
theorem Fm(s:Spx)(hs:s.length<=8):pU 66 [aA s] (am (b6 s)):=by
 refine pO Oo ?_;simp only[b66,aH];unfold b6;by_cases h:s.length<2
 ·have z:decide ((s.length:Int)<2)=true:=aL (by omega);rw[if_pos h];refine wnY (aI @ao @z) ?_;exact .eslsl 1
 ·have z:decide ((s.length:Int)<2)=false:=aO (by omega);rw[if_neg h];have hs1:=sw (s.length-1) s (by omega) hs;rw[show((s.length-1:Nat):Int)=(s.length:Int)-1 by omega] at hs1;refine wnY (aI @ao @z) ?_;exact bA _ _
theorem G0(a:List Spx)(ha:a.length<=4096)(h8:∀s∈a,s.length<=8)(hv:∀s∈a,ce cJ s):pU 61 [am a] (am (bV a)):=by
 refine pO Nw ?_;simp only[b61,aH];refine wnY @ae ?_;refine tC (X:=Nat) (λj=>[(0,am a),(3,am (kE (a.take j) [])),(4,.int .i64 j)]) (λj H' nx'=>j<=a.length) (λj=>a.length-j) 0 ⟨_,_,Fz.none,bw _,⟨.inl rfl,.inr (.eslsl 1),.inl rfl,trivial⟩⟩ ?_;rintro j H nx j1;by_cases hj:j<a.length
 rotate_left
 ·rw[fI (by omega)];refine wnY @ae ?_;exact bA _ _
 have ix:=dH hj;have h8s:=h8 _ (ay hj);have hvs:=hv _ (ay hj);have het:=AQ (o:=[]) hj;have hlen:=pM (a.take j) [] λs hs=>h8 s (gV hs)
 have hel:∀f∈kE (a.take j) [],Shn f:=λf hf=>by
  obtain⟨s,h1,h2⟩:=tR (a:=a.take j) (λs hs=>hv s (gV hs)) hf;have:=h8 s (gV h1);have:=(jt.1 h2).2.2;show _<=_;omega
 rw[fo,eM] at hlen;generalize a.getD j default=s at *;have hf:=Fm s h8s
 have hfl:(b6 s).length<=70:=by
  unfold b6;split
  ·exact bw _
  ·exact nc h8s
 have hp:=Jo (kE (a.take j) []) (b6 s) ⟨by omega,hel⟩ ⟨by omega,λf hf=>by have:=(jt.1 hf).2.2;show _<=_;omega⟩;rw[<-het] at hp;refine wnY (aI @ae @ix) ?_;exact⟨j+1,by omega,_,_,Fz.none,by omega,im ag0⟩
theorem uS{a:List Spx}(h:gU a=0):pU 77 [am a] (am (bV a)):=by
 obtain⟨h1,h2,h3,h4⟩:=jD h;by_cases h0:a=[]
 ·subst h0;exact so [] 0 (by omega) (by simp) (by simp) (by simp) (by simp)
 ·have hm:a.getD 0 default∈a:=ay (iT.2 h0);have h5:=cE (h2 _ hm);exact so a ((a.getD 0 default).length-1) (by omega) h1 (l8 h2) (λs hs=>.inl (by rw[h4 s hs];omega)) (BN h2)
theorem zj{a:List Spx}(h:gU a=0):Shn (bV a)/\∀s∈bV a,s.length<=1000000:=by
 obtain⟨h1,h2,h3,h4⟩:=jD h;have:=v9 (BN h2);exact⟨show _<=_ by omega,zw (ve h2)⟩
theorem He(a:List Spx)(ha:ShC a):pU 29 [am a] (.tup [am (mP a).1,.int .i64 (mP a).2]):=by
 refine pO Nr ?_;simp only[b29,aH];have f1:=ua a ha;unfold mP;by_cases h:gU a=0
 rotate_left
 ·have z:decide (gU a≠0)=true:=aL h;rw[if_pos h];refine wnY @z ?_;exact dV (.eslsl _) rfl
 rw[if_neg (λq=>q h)];have f2:=uS h;have f3:=Dp (bV a) (zj h).1 (zj h).2;have z:decide ((0:Int)≠0)=false:=rfl;rw[h] at f1
 have hfin:(if 4096<(bV a).length then(([]:List Spx),(5:Int)) else(bV a,0))=(if 4096<(bV a).length then [] else bV a,if 4096<(bV a).length then 5 else 0):=by
  split<;>rfl
 rw[hfin];refine wnY @z ?_;exact dV (bA _).snap rfl
theorem Kl(a:List Spx)(ha:ShC a):pU 33 [am a] (.tup [.bool (HN a).1,.int .i64 (HN a).2]):=by
 refine pO Ol ?_;simp only[b33,aH];have f1:=ua a ha;unfold HN;by_cases h:gU a=0
 rotate_left
 ·have z:decide (gU a≠0)=true:=aL h;rw[if_pos h];refine wnY @z ?_;exact Fa rfl rfl
 rw[if_neg (λq=>q h)];have f2:=uS h;have z:decide ((0:Int)≠0)=false:=rfl;have z2:decide ((((bV a).length:Nat):Int)=0)=decide (bV a=[]):=decide_eq_decide.2 (by rw[<-fA];omega);rw[h] at f1;refine wnY (zI3 @z @z2 @ae) ?_;exact Fa rfl rfl
theorem yV(l:List Spx)(v:Spx)(hl:Shn l)(hs:∀c∈l,Shn c)(hv:Shn v)(ha:ce bh l):∃b:Nat,pU 80 [am l,aA v] (.tup [.int .i64 b,.bool (decide (v∈l))])/\(v∈l->b<l.length/\l.getD b default=v):=by
 obtain⟨b,hb,h1,h2⟩:=tA (λi=>bh (l.getD i default) v) l.length (λi j hij hj h=>lO.trans (eO ha hij hj) h);have hc:=Ay l v hl hs hv hb h1 h2
 have he:(decide (b<l.length)&&decide (bh (l.getD b default) v=0))=decide (v∈l)/\(v∈l->b<l.length/\l.getD b default=v):=by
  by_cases hm:v∈l
  ·obtain⟨i,hi,e⟩:=jK hm;have e':l.getD i default=v:=by simp[List.getD,hi,e]
   have hbi:b=i:=by
    rcases sU b i with h|h|h
    ·have h3:=h2 b (aR _) (by omega);have h4:=eO ha h hi;rw[e'] at h4;omega
    ·exact h
    ·have h3:=h1 i h;rw[e',f9] at h3;omega
   subst hbi;rw[aL hi,aL hm,e',aL (f9 v)];exact⟨rfl,λ_=>⟨hi,rfl⟩⟩
  ·rw[aO hm];refine⟨?_,λh=>absurd h hm⟩;by_cases hlt:b<l.length
   ·rw[aL hlt,Bool.true_and,aO];intro h;exact hm (by rw[<-pu h];exact ay hlt)
   ·rw[aO hlt,Bool.false_and]
 rw[he.1] at hc;refine⟨b,?_,he.2⟩;refine pO NS ?_;simp only[b80,aH];refine wnZ (zI4 @aZ @aJ @ai @af) ?_;exact bb (ag (.int _ _) (ag (.bool _) aj))
theorem D5(c:List Spx)(d:Int)(hd:d<=1000)(hc:c.length<=50)(hs:∀s∈c,Shn s):pU 83 [bH c,.int .i64 d] (.tup [am (DY c d).1,.int .i64 (DY c d).2]):=by
 refine pO N0 ?_;simp only[b83,aH];unfold DY;by_cases h:d<0
 ·have z:decide (d<0)=true:=aL h;rw[if_pos h];refine wnY (zI3 @z @ai @af) ?_;exact dV (.eslsl _) rfl
 ·have z:decide (d<0)=false:=aO h;rw[if_neg h];have hS:=lj c (d+1) hc hs;refine wnY (zI3 @z @ai @af) ?_;exact dV (bA _).snap rfl
theorem JW(c:List Spx)(d:Int)(hc:c.length<=50)(hs:∀s∈c,Shn s):pU 112 [bH c,.int .i64 d] (.tup [dA (vh c d).1.1 (vh c d).1.2,.int .i64 (vh c d).2]):=by
 refine pO Lw ?_;simp only[Lj,aH];have hcc:=jE c (show _<=_ by omega) hs;unfold vh;by_cases he:az c=0
 rotate_left
 ·rw[if_pos he];have z:decide (az c≠0)=true:=aL he;refine wnY (zI3 @ai @af @z) ?_;exact ka (.eslsl _) rfl
 rw[if_neg (λh=>h he)];rw[he] at hcc;have z0:decide ((0:Int)≠0)=false:=rfl;by_cases hd:d<0\/8<=d
 ·rw[if_pos hd];have zz:=aI @ai (aI @af @z0);repeat' (first|refine zW ?_|apply a_n|apply a_r|refine zO ?_|refine vY ?_|refine cY ?_ (hp:=hcc) (hs:=by(first|refine aF ?_ rfl|apply aW);(repeat' (first|exact aj|apply bo|apply aX|exact cI _));first|done|fail)|refine alY ?_|refine bxY ?_|refine stY ?_|refine gTY ?_|refine gFY ?_|refine cTY ?_|refine cFY ?_|(refine zGY ?_ ?_<;>(intro _hg;try (exfalso;omega)))|refine bS rfl ?_|refine r2Y ?_|fail)
  all_goals first|exact ka (.eslsl _) rfl|(exfalso;omega)
 rw[if_neg hd];have hX:=D5 c d (by omega) hc hs;have hY:=D5 c (d-1) (by omega) hc hs;rw[Cn he (by omega) (by omega)] at hX hY;rw[show d-1+1=d by omega] at hY;have hXl:=gW (d:=d+1) hc he;have hYl:=gW (d:=d) hc he;have hXm:=fZ (d:=d+1) he;have hYm:=me (fZ (d:=d) he);have hYa:=ns (c:=c) (d:=d);generalize aB c (d+1)=X at *;generalize aB c d=Y at *;have z1:decide (d<0)=false:=aO (by omega);have z2:decide (8<=d)=false:=aO (by omega);have hzc:bz (AV.agg [AV.esl]) Y.length=List.replicate Y.length .esl:=by simp[bz,AV.cells]
 refine wnY (zI6 @ai @af @ae @z0 @z1 @z2) ?_;refine xV (k1:=.i64) (k2:=.i64) (n:=Y.length) (m:=Y.length) rfl ev0 ev0 (by omega) (Int.le_refl _) (by omega) (by omega) ?_;rw[cz,hzc,Nat.mul_one];refine wnY @ae ?_;refine lpI (X:=Nat×List AV) (λx=>[(4,.ptr 1 2 0),(9,.ptr 2 1 0),(10,.ptr 4 2 0),(56,am X),(57,.int .i64 X.length),(58,.int .i64 x.1)]) (λx H' nx'=>x.1<=X.length/\5<=nx'/\H' 1=some [.int .i64 0,.esl]/\H' 2=some [am Y]/\H' 4=some [.int .i64 X.length,.msl 3 Y.length 1 0 Y.length]/\MatOk H' 3 5 nx' Y.length (iI X Y x.1) x.2) (λx=>X.length-x.1) (0,List.replicate Y.length .esl) ⟨bw _,aR _,by(repeat rw[ac (by omega)]);rw[ah],by(repeat rw[ac (by omega)]);rw[ah];rfl,by rw[ah];rfl,MatOk.new (by(repeat rw[ac (by omega)]);rw[ah]) (λj _=>rfl)⟩ ?_;rintro⟨k,vs⟩ H nx ⟨h1,h2,g1,g2,g4,hmat⟩;dsimp only at h1 h2 g1 g2 g4 hmat |-;by_cases hk:k<X.length
 rotate_left
 ·obtain rfl:k=X.length:=by omega
  have hst:Snap (ar H 1 [.int .i64 X.length,.msl 3 Y.length 1 0 Y.length]) (.msl 3 Y.length 1 0 Y.length) (bm (dR X Y)):=(hmat.same (hi':=nx) (G:=iI X Y X.length) (ac (by omega)) (λx x1 x2 x3=>ac (by omega)) (aR _) (λj _=>rfl)).snap;refine wnY (aI @g4 @g1) ?_;exact ka hst rfl
 have ix:=dH hk;have hsim:=hXm _ (ay hk);have hF:∀i,iI X Y (k+1) i=iI X Y k i++if Y.getD i default∈b6 (X.getD k default) then [k] else []:=λi=>vC
 generalize X.getD k default=s at *;obtain⟨p1,p2,p3,p4⟩:=cE hsim;refine wnY @ix ?_;refine bc ev0 ev0 (vw s _ _) ?_;rintro _ H1 nx1 ⟨rfl,rfl,rfl⟩;refine wnY and_self ?_;refine np (nx+2) (nx+3) rfl rfl ev0 (λc0 cj hy=>?_);refine Abs.Fn.mono (uZ (nx:=nx+3) (y:=nx+2) (sb:=nx+1) (s:=s) (by omega) (λD H' nx'=>nx+3<=nx'/\H' (nx+1)=some [aA s]/\H' (nx+2)=some [c0]/\H' nx=some [.int .i64 (k:Int)]/\H' 1=some [.int .i64 0,.esl]/\H' 2=some [am Y]/\H' 4=some [.int .i64 X.length,.msl 3 Y.length 1 0 Y.length]/\∃vs,MatOk H' 3 5 nx' Y.length (λi=>iI X Y k i++if Y.getD i default∈D then [k] else []) vs/\∀j B,j<Y.length->bv (vs.getD j .undef)=some B->B<nx\/nx+3<=B) ?_ ?_ ?_ ?_) ?_
 ·rintro D H' nx' ⟨j1,j2,_⟩;exact j2
 ·rintro D H' H'' n1 n2 ⟨j1,j2,j3,j4,j5,j6,j7,vs,j8,j9⟩ hle hsm;exact⟨by omega,(hsm _ (by omega)).trans j2,(hsm _ (by omega)).trans j3,(hsm _ (by omega)).trans j4,(hsm _ (by omega)).trans j5,(hsm _ (by omega)).trans j6,(hsm _ (by omega)).trans j7,vs,j8.same (hsm _ (by omega)) (λx x1 x2 x3=>hsm x x2) hle (λ_ _=>rfl),j9⟩
 ·rintro D f H' nx' ⟨j1,j2,j3,j4,j5,j6,j7,vs,j8,j9⟩ hlt hfe hDe;refine hy _ _ _ _ j3 rfl ?_;clear hy;have hfm:f∈fcs s:=by rw[hfe];exact ay hlt
  have hfD:f∉D:=λh=>by
   rw[hDe] at h;have hnd:=DH p3;have e:=bI hlt;have h5:=(zE.1 (by rw[<-e];exact hnd.sublist (List.take_sublist _ _):((fcs s).take D.length++[(fcs s).getD D.length default]).Nodup)).2.2 _ h _ (cW.2 rfl);exact h5 hfe
  have hfs:=jt.1 (Ci.1 hfm);have hfn:Shn f:=by show _<=_;omega
  clear hfe hDe hlt hfm;refine wnY and_self ?_;refine⟨j3,?_⟩;have hd:∀x,x≠nx+2->dl H' (nx+2) x=H' x:=λx hx=>cq hx;generalize dl H' (nx+2)=H2 at *;have q2:=(hd 2 (by omega)).trans j6;have q3:=(hd 3 (by omega)).trans j8.box;have q4:=(hd 4 (by omega)).trans j7;have qk:=(hd nx (by omega)).trans j4;obtain⟨p,hpl,hpm⟩:=yV Y f (show _<=_ by omega) hYm hfn hYa;by_cases hin:f∈Y
  rotate_left
  ·rw[aO hin] at hpl;refine wnY (zI3 @q2 @ai @af) ?_;refine⟨rfl,j1,(ac (by omega)).trans ((hd _ (by omega)).trans j2),ah,(ac (by omega)).trans qk,(ac (by omega)).trans ((hd _ (by omega)).trans j5),(ac (by omega)).trans q2,(ac (by omega)).trans q4,vs,j8.same ((ac (by omega)).trans (hd _ (by omega))) (λx x1 x2 x3=>?_) (aR _) (λj hj=>?_),j9⟩
   ·by_cases e:x=nx+2
    ·rw[e,ah,j3]
    ·rw[ac e,hd x e]
   ·have hne:Y.getD j default≠f:=λe=>hin (by rw[<-e];exact ay hj)
    congr 1
    exact xF (by rw[eC,cW];exact⟨λh=>h.resolve_right hne,.inl⟩)
  rw[aL hin] at hpl;obtain⟨pl1,pl2⟩:=hpm hin;have hFD:iI X Y k p++(if Y.getD p default∈D then [k] else [])=iI X Y k p:=by rw[pl2,if_neg hfD,eH]
  have hrow:Row H2 1 (vs.getD p .undef) ((iI X Y k p).map p9):=by
   have:=j8.row p pl1;rw[hFD] at this;exact this.same λb hb=>hd b (by have:=j9 p b pl1 hb;omega)
  have hvs:vs[p]?=some (vs.getD p .undef):=by
   have:=j8.len;simp[List.getD,show p<vs.length by omega]
  have hlen:=j8.len
  have hb3:∀b,bv (vs.getD p .undef)=some b->5<=b/\b<nx'/\b≠3/\(b<nx\/nx+3<=b):=λb hb=>by
   have h5:=j8.bnd p b pl1 hb;have h6:=j9 p b pl1 hb;exact⟨h5.1,h5.2.1,h5.2.2,h6⟩
  generalize hrv:vs.getD p .undef=rv at *;refine wnY (zI3 @q2 @ai @af) ?_;refine Ba 4 3 nx q4 q3 qk (by omega) (by omega) (by omega) λS0 hS1 hS2 hS3 hsub=>?_;have hFl:=sn (X:=X) (Y:=Y) (n:=k) (i:=p);refine wnY (zI5 @hS1 @hS2 @hS3 @hvs @hlen) ?_;refine dW ?_;refine wnY and_self ?_;refine⟨hsub _ (by rw[ac (by omega)];exact q4) (by rw[ac (by omega)];exact q3) (by rw[ac (by omega)];exact qk),?_⟩;refine dW ?_;refine eR (hrow.same λb hb=>?_) ?_
  ·have:=hb3 b hb;rw[ac (by omega)]
  rintro s2 H4 nx4 hr2 i1 i2 i3 i4;have lo:∀x,x<nx'->bv rv≠some x->H4 x=H2 x:=λx x1 x2=>(i3 x (by omega) x2).trans (ac (by omega));have l3:H4 3=H2 3:=lo 3 (by omega) (λh=>by have:=hb3 _ h;omega);have l4:H4 4=H2 4:=lo 4 (by omega) (λh=>by have:=hb3 _ h;omega);have lk:H4 nx=H2 nx:=lo nx (by omega) (λh=>by have:=hb3 _ h;omega);have lo2:∀x,x<nx+3->5<=x->nx<=x->H4 x=H2 x:=λx x1 x2 x3=>lo x (by omega) (λh=>by have:=hb3 _ h;omega);have lo5:∀x,x<5->H4 x=H2 x:=λx x1=>lo x (by omega) (λh=>by have:=hb3 _ h;omega);obtain⟨o1,o2⟩:=hr2.one;have m3:=l3.trans q3;refine jT ⟨hsub _ (l4.trans q4) m3 (lk.trans qk),?_⟩
  have hlp:bD vs p [s2]=vs.set p s2:=by
   simp only[bD,bK,fo,cp];rw[HQ,if_pos (by omega)];simp
  have zz:=aI @m3 (aI @o1 (aI @o2 (aI @hlen @hlp)));repeat' (first|apply a_n|refine zO ?_|refine nvY ?_|apply jr|refine stY ?_|fail)
  have hB2:∀b,bv s2=some b->(bv rv=some b\/nx'<=b)/\b<nx4:=λb hb=>by
   rcases i4 b hb with h|h
   ·exact⟨.inl h,by have:=hb3 b h;omega⟩
   ·exact⟨.inr (by omega),by omega⟩
  have hwd:∀x,x≠3->x≠nx+2->ar (ar H4 3 (vs.set p s2)) (nx+2) [c0] x=H4 x:=λx x1 x2=>by rw[ac x2,ac x1]
  rw[hlp];refine⟨rfl,by omega,?_,ah,?_,?_,?_,?_,vs.set p s2,?_,?_⟩
  ·rw[hwd _ (by omega) (by omega),lo2 _ (by omega) (by omega) (by omega),hd _ (by omega)];exact j2
  ·rw[hwd _ (by omega) (by omega),lk];exact qk
  ·rw[hwd _ (by omega) (by omega),lo5 _ (by omega),hd _ (by omega)];exact j5
  ·rw[hwd _ (by omega) (by omega),lo5 _ (by omega)];exact q2
  ·rw[hwd _ (by omega) (by omega),l4];exact q4
  ·refine j8.put (sv:=s2) (x:=k) (i:=p) pl1 (λj hj=>?_) ?_ (λb hb=>?_) (by rw[ac (by omega),ah]) (λx x1 x2 x3 x4=>?_) (by omega) (by omega)
   ·by_cases e:j=p
    ·subst e;rw[if_pos rfl,pl2,if_neg hfD,if_pos (lW _ (cW.2 rfl)),eH]
    ·rw[if_neg e]
     have hne:Y.getD j default ≠ f:=fun h=>e (by
      rcases sU j p with h'|h'|h'
      ·have:=eO hYa h' pl1;rw[h,pl2,f9] at this;omega
      ·exact h'
      ·have:=eO hYa h' hj;rw[h,pl2,f9] at this;omega)
     congr 1
     exact xF (by rw[eC,cW];exact⟨λh=>h.resolve_right hne,.inl⟩)
   ·rw[hFD,cl];refine hr2.same λb hb=>hwd b ?_ ?_
    ·have:=hB2 b hb;rcases this.1 with h|h
     ·have:=hb3 b h;omega
     ·omega
    ·have:=hB2 b hb;rcases this.1 with h|h
     ·have:=hb3 b h;omega
     ·omega
   ·rw[hrv];have:=hB2 b hb;rcases this.1 with h|h
    ·exact .inl h
    ·exact .inr ⟨h,this.2,by omega⟩
   ·rw[hrv] at x4;by_cases e:x=nx+2
    ·rw[e,ah,j3]
    ·rw[hwd x x3 e,lo x x2 x4,hd x e]
  ·intro j B hj hB;rw[qF (by omega)] at hB;by_cases e:p=j
   ·rw[if_pos e] at hB;have:=hB2 B hB;rcases this.1 with h|h
    ·have:=hb3 B h;omega
    ·omega
   ·rw[if_neg e] at hB;exact j9 j B hj hB
 ·have hlk:bD [AV.int .i64 0] 0 [.int .i64 (k:Int)]=[.int .i64 (k:Int)]:=rfl;have hw:∀x,x≠nx->x≠nx+1->x≠nx+2->ar (ar (ar (ar H nx [.int .i64 0]) nx (bD [.int .i64 0] 0 [.int .i64 (k:Int)])) (nx+1) [aA s]) (nx+2) [c0] x=H x:=λx x1 x2 x3=>by rw[ac x3,ac x2,ac x1,ac x1]
  refine⟨aR _,by rw[ac (by omega),ah],ah,by rw[ac (by omega),ac (by omega),ah];rfl,(hw _ (by omega) (by omega) (by omega)).trans g1,(hw _ (by omega) (by omega) (by omega)).trans g2,(hw _ (by omega) (by omega) (by omega)).trans g4,vs,hmat.same (hw _ (by omega) (by omega) (by omega)) (λx x1 x2 x3=>hw x (by omega) (by omega) (by omega)) (by omega) (λj _=>by simp),λj B hj hB=>by have:=hmat.bnd j B hj hB;omega⟩
 ·rintro r H' nx' ⟨j1,j2,j3,j4,j5,j6,j7,vs2,j8,j9⟩;refine .inl ⟨j3,?_⟩;refine wnY and_self ?_;refine⟨(k+1,vs2),by dsimp only;omega,⟨by dsimp only;omega,by omega,(cq (by omega)).trans j5,(cq (by omega)).trans j6,(cq (by omega)).trans j7,?_⟩,ag0⟩;dsimp only
  have hrows:∀j,j<Y.length->iI X Y (k+1) j=iI X Y k j++if Y.getD j default∈fcs s then [k] else []:=λj _=>by
   rw[hF];congr 1;exact xF Ci.symm
  exact⟨(cq (by omega)).trans j8.box,j8.len,λj hj=>by rw[hrows j hj];exact(j8.row j hj).same λb hb=>cq (by have:=j9 j b hj hb;omega),λj B hj hB=>by have:=j8.bnd j B hj hB;exact this,j8.apart⟩
theorem Aw(c a:List Spx)(hc:c.length<=50)(hs:∀s∈c,Shn s)(ha:ShC a):pU 30 [bH c,am a] (.tup [aC (d9 c a).1,.int .i64 (d9 c a).2]):=by
 refine pO NW ?_;simp only[b30,aH];have hcc:=jE c (show _<=_ by omega) hs;have hca:=ua a ha;have z0:decide ((0:Int)≠0)=false:=rfl;unfold d9;by_cases he:az c=0
 rotate_left
 ·rw[if_pos he];have z:decide (az c≠0)=true:=aL he;refine wnY (zI3 @ai @af @z) ?_;exact fU (.eslsl _) rfl
 rw[if_neg (λh=>h he)];rw[he] at hcc;by_cases h2:gU a=0
 rotate_left
 ·rw[if_pos h2];have z:decide (gU a≠0)=true:=aL h2;refine wnY (zI4 @ai @af @z @z0) ?_;exact fU (.eslsl _) rfl
 rw[if_neg (λh=>h h2)];rw[h2] at hca;by_cases h3:a=[]
 ·rw[if_pos h3];subst h3;have al:dx (am [])=some (.int .i64 0):=rfl;refine wnY (zI4 @ai @af @al @z0) ?_;exact fU (.eslsl _) rfl
 rw[if_neg h3];have hpos:=iT.2 h3;have z3:decide ((a.length:Int)=0)=false:=aO (by omega);obtain⟨p1,p2,p3,p4⟩:=jD h2;have p5:=cE (p2 _ (ay hpos));have i0:=HV hpos;have hS:=lj c (dp a) hc hs;unfold dr at hS;rw[if_neg (λh=>h he),if_neg (by unfold dp;omega),cz] at hS;have eL:gx c (dp a)=aB c (dp a):=by unfold aB;rw[if_neg (by unfold dp;omega),cz]
 rw[eL] at hS;have hLs:=me (fZ (d:=(dp a:Nat)) he);have hLl:=gW (d:=(dp a:Nat)) hc he;have hLa:=ns (c:=c) (d:=(dp a:Nat));generalize aB c (dp a)=L at *;unfold dp at hS;refine wkY (zI7 @ai @af @ae @ao @i0 @z0 @z3) ?_;refine bN (X:=AV×Nat) (λx=>[(8,am L),(10,x.1),(40,am a),(41,.int .i64 a.length),(42,.int .i64 x.2)]) (λx H nx=>x.2<=a.length/\(∀i,i<x.2->decide (a.getD i default∈L)=true)/\Row H 1 x.1 ((dt (ot L (a.take x.2))).map (AV.int .i64))/\∀b,bv x.1=some b->b<nx) (λx=>a.length-x.2) (.esl,0) ⟨bw _,λi h=>absurd h (by omega),Row.nil,λb hb=>(by cases hb)⟩ ag0 ?_;rintro⟨sv,k⟩ H nx ⟨k1,k2,k3,k4⟩;dsimp only at k1 k2 k3 k4 |-;by_cases hk:k<a.length
 rotate_left
 ·rw[fI (by omega)] at k3;rw[if_pos (iC λi hi=>k2 i (by omega))];refine wnY and_self ?_;exact fU k3.snapI rfl
 have ix:=dH hk;have hsx:=ha.2 _ (ay hk);obtain⟨p,hpl,hpm⟩:=yV L (a.getD k default) (show _<=_ by omega) hLs hsx hLa;by_cases hin:a.getD k default∈L
 rotate_left
 ·rw[aO hin] at hpl
  have hall:¬(a.all λs=>decide (s∈L))=true:=by
   rw[gQ hk (aO hin)];decide
  rw[if_neg hall];refine wnY @ix ?_;exact fU (.eslsl _) rfl
 rw[aL hin] at hpl;obtain⟨p1',p2'⟩:=hpm hin;have hidx:=BJ (hLa.nodup lO) p1' p2';have hpt:=v5 (L:=L) hk;rw[hidx] at hpt;have hnl:(dt (ot L (a.take k))).length=k:=by unfold dt ot;rw[bi,bi,eM];omega
 refine wnY @ix ?_;refine eR (k3.same λb hb=>?_) ?_
 ·have:=k4 b hb;rw[ac (by omega)]
 rintro s2 E e hrow hle1 hle2 hsame hb2;refine wnY and_self ?_;refine⟨(s2,k+1),by dsimp only;omega,⟨by dsimp only;omega,λi hi=>?_,?_,λb hb=>?_⟩,ag0⟩
 ·rcases gN.1 hi with h'|rfl
  ·exact k2 i h'
  ·exact aL hin
 ·dsimp only;rw[hpt,qV,cl];exact hrow
 ·rcases hb2 b hb with h|h
  ·have:=k4 b h;omega
  ·omega
theorem EW(l:List Spx)(v:Spx)(hl:Shn l)(hs:∀c∈l,Shn c)(hv:Shn v)(hn:l.Nodup):pU 121 [am l,aA v] (.int .i64 (if v∈l then(l.idxOf v:Nat) else-1)):=by
 refine pO MV ?_;simp only[LD,aH];have hl':l.length<=17592186044416:=hl;refine wnZ @ae ?_;refine jY (X:=Nat) (λk=>[(0,am l),(1,aA v),(5,.int .i64 k)]) (λk=>k<=l.length/\∀i,i<k->l.getD i default≠v) (λk=>l.length-k) 0 ⟨bw _,λi h=>absurd h (by omega)⟩ ag0 ?_;rintro k ⟨h1,h2⟩;by_cases hk:k<l.length
 rotate_left
 ·have hm:v∉l:=λh=>by
    obtain⟨i,hi,e⟩:=jK h;exact h2 i (by omega) (by simp[List.getD,hi,e])
  rw[if_neg hm];refine wnY @ae ?_;exact .int _ _
 have ix:=dH hk;have hsm:=Bz (l.getD k default) v (hs _ (ay hk)) hv;by_cases e:l.getD k default=v
 ·rw[aL e] at hsm;have hm:v∈l:=by rw[<-e];exact ay hk
  rw[if_pos hm,BJ hn hk e];refine wnY (aI @ae @ix) ?_;exact .int _ _
 ·rw[aO e] at hsm;refine wnY (aI @ae @ix) ?_
  exact ⟨k + 1,⟨by omega,fun i hi=>by
   rcases gN.1 hi with h'|rfl
   ·exact h2 i h'
   ·exact e⟩,by omega,ag0,rfl,rfl⟩
theorem zZ(l a:List Spx)(hl:Shn l)(hs:∀c∈l,Shn c)(hn:l.Nodup)(hal:a.length<=1000000)(ha:∀s∈a,Shn s):pU 118 [am l,am a] (.tup [aC (if (a.all λs=>decide (s∈l))=true then dt (ot l a) else []),.bool (a.all λs=>decide (s∈l))]):=by
 refine pO MC ?_;simp only[Ke,aH];refine wnZ @ae ?_;refine bN (X:=AV×Nat) (λx=>[(0,am l),(1,am a),(6,x.1),(7,.int .i64 x.2)]) (λx H nx=>x.2<=a.length/\(∀i,i<x.2->decide (a.getD i default∈l)=true)/\Row H 1 x.1 ((dt (ot l (a.take x.2))).map (AV.int .i64))/\∀b,bv x.1=some b->b<nx) (λx=>a.length-x.2) (.esl,0) ⟨bw _,λi h=>absurd h (by omega),Row.nil,λb hb=>(by cases hb)⟩ ag0 ?_;rintro⟨sv,k⟩ H nx ⟨k1,k2,k3,k4⟩;dsimp only at k1 k2 k3 k4 |-;by_cases hk:k<a.length
 rotate_left
 ·rw[fI (by omega)] at k3;rw[if_pos (iC λi hi=>k2 i (by omega)),iC λi hi=>k2 i (by omega)];refine wnY @ae ?_;exact bb (ag k3.snapI (ag (.bool _) aj))
 have ix:=dH hk;have hpl:=EW l (a.getD k default) hl hs (ha _ (ay hk)) hn;by_cases hin:a.getD k default∈l
 rotate_left
 ·rw[if_neg hin] at hpl;have hall:=gQ hk (p:=λs=>decide (s∈l)) (aO hin);rw[hall,if_neg (by decide)];have z:decide ((-1:Int)<0)=true:=rfl;refine wnY (zI3 @ae @ix @z) ?_;exact bb (ag (.eslsl _) (ag (.bool _) aj))
 rw[if_pos hin] at hpl;have hpt:=v5 (L:=l) hk;have hnl:(dt (ot l (a.take k))).length=k:=by unfold dt ot;rw[bi,bi,eM];omega
 generalize l.idxOf (a.getD k default)=p at *;have z:decide ((p:Int)<0)=false:=aO (by omega);refine wnY (zI3 @ae @ix @z) ?_;refine eR (k3.same λb hb=>?_) ?_
 ·have:=k4 b hb;rw[ac (by omega)]
 rintro s2 E e hrow hle1 hle2 hsame hb2;refine wnY and_self ?_;refine⟨(s2,k+1),by dsimp only;omega,⟨by dsimp only;omega,λi hi=>?_,?_,λb hb=>?_⟩,ag0⟩
 ·rcases gN.1 hi with h'|rfl
  ·exact k2 i h'
  ·exact aL hin
 ·dsimp only;rw[hpt,qV,cl];exact hrow
 ·rcases hb2 b hb with h|h
  ·have:=k4 b h;omega
  ·omega
theorem K2(c a:List Spx)(hc:c.length<=50)(hs:∀s∈c,Shn s)(ha:ShC a):pU 60 [bH c,am a] (.tup [aC (d9 c a).1,.int .i64 (d9 c a).2]):=by
 refine pO NL ?_;simp only[b60,aH];have hcc:=wX c (show _<=_ by omega) hs;have hca:=G7 a ha;have z0:decide ((0:Int)≠0)=false:=rfl;unfold d9;by_cases he:az c=0
 rotate_left
 ·rw[if_pos he];have z:decide (az c≠0)=true:=aL he;refine wnY (zI3 @ai @af @z) ?_;exact fU (.eslsl _) rfl
 rw[if_neg (λh=>h he)];rw[he] at hcc;by_cases h2:gU a=0
 rotate_left
 ·rw[if_pos h2];have z:decide (gU a≠0)=true:=aL h2;refine wnY (zI4 @ai @af @z @z0) ?_;exact fU (.eslsl _) rfl
 rw[if_neg (λh=>h h2)];rw[h2] at hca;by_cases h3:a=[]
 ·rw[if_pos h3];subst h3;have al:dx (am [])=some (.int .i64 0):=rfl;refine wnY (zI4 @ai @af @al @z0) ?_;exact fU (.eslsl _) rfl
 rw[if_neg h3];have hpos:=iT.2 h3;have z3:decide ((a.length:Int)=0)=false:=aO (by omega);obtain⟨p1,p2,p3,p4⟩:=jD h2;have p5:=cE (p2 _ (ay hpos));have i0:=HV hpos;have hS:=pB c (dp a) (by omega) hs;unfold dr at hS;rw[if_neg (λh=>h he),if_neg (by unfold dp;omega),cz] at hS;have eL:gx c (dp a)=aB c (dp a):=by unfold aB;rw[if_neg (by unfold dp;omega),cz]
 rw[eL] at hS;have hLs:=me (fZ (d:=(dp a:Nat)) he);have hLl:=gW (d:=(dp a:Nat)) hc he;have hLa:=ns (c:=c) (d:=(dp a:Nat));generalize aB c (dp a)=L at *;have hP:=zZ L a (show _<=_ by omega) hLs (hLa.nodup lO) (by omega) ha.2;unfold dp at hS;cases hall:a.all λs=>decide (s∈L)
 ·rw[if_neg (by decide)];rw[hall,if_neg (by decide)] at hP;refine wkY (zI7 @ai @af @ae @ao @i0 @z0 @z3) ?_;exact fU (.eslsl _) rfl
 ·rw[if_pos rfl];rw[hall,if_pos rfl] at hP;refine wkY (zI7 @ai @af @ae @ao @i0 @z0 @z3) ?_;exact fU (ct _).snap rfl
theorem Dd(X Y:List Spx)(hXl:X.length<=4000)(hYl:Y.length<=4000)(hX:∀s∈X,Shn s)(hY:∀s∈Y,Shn s)(hin:∀i k,i<Y.length->k<X.length->eh (Y.getD i default) (X.getD k default)=decide (Y.getD i default∈b6 (X.getD k default))):pU 110 [am X,am Y] (dA X.length (dR X Y)):=by
 refine pO Lo ?_;simp only[Kk,aH];refine wnY @ae ?_;refine tC (X:=Nat×AV) (λx=>[(0,am X),(1,am Y),(4,.ptr 0 2 0),(5,.ptr 1 2 0),(6,.int .i64 x.1)]) (λx H nx=>x.1<=Y.length/\2<=nx/\H 0=some [.int .i64 0,.esl]/\H 1=some [.int .i64 X.length,x.2]/\Row H 1 x.2 ((List.range x.1).map λj=>aC (dt (iI X Y X.length j)))/\∀b,bv x.2=some b->2<=b/\b<nx) (λx=>Y.length-x.1) (0,.esl) ⟨bP,_,Fz.none,⟨bw _,aR _,by(repeat rw[ac (by omega)]);rw[ah],by rw[ah];rfl,Row.nil,λb h=>(by cases h)⟩,.inl rfl,.inl rfl,.inl rfl,.inl rfl,.inl rfl,trivial⟩ ?_;rintro⟨i,sv⟩ H nx ⟨h1,h2,g0,g1,hrow,hbd⟩;dsimp only at h1 g1 hrow hbd |-;obtain⟨o1,o2⟩:=hrow.one;by_cases hi:i<Y.length
 rotate_left
 ·obtain rfl:i=Y.length:=by omega
  refine wnY (zI5 @ae @g0 @g1 @o1 @o2) ?_
  have hr2:Row (ar H 0 [.int .i64 X.length,sv]) 1 sv ((dR X Y).map aC):=by
   unfold dR;rw[List.map_map];exact hrow.same λb hb=>ac (by have:=hbd b hb;omega)
  exact mV (ag (.int _ _) (ag hr2.snapV aj))
 have iy:=dH hi;have hYi:=hY _ (ay hi);have hF:∀k,iI X Y (k+1) i=iI X Y k i++if Y.getD i default∈b6 (X.getD k default) then [k] else []:=λk=>vC
 have hini:=λk hk=>hin i k hi hk;generalize Y.getD i default=t at *;refine wnY @ae ?_;refine bN (X:=Nat×AV) (λx=>[(0,am X),(1,am Y),(4,.ptr 0 2 0),(5,.ptr 1 2 0),(6,.int .i64 i),(7,x.2),(8,.int .i64 x.1)]) (λx H' nx'=>x.1<=X.length/\nx<=nx'/\(∀y,y<nx->H' y=H y)/\Row H' 1 x.2 ((iI X Y x.1 i).map p9)/\∀b,bv x.2=some b->nx<=b/\b<nx') (λx=>X.length-x.1) (0,.esl) ⟨bw _,aR _,λ_ _=>rfl,Row.nil,λb h=>(by cases h)⟩ ag0 ?_;rintro⟨k,rv⟩ H' nx' ⟨k1,k2,k3,krow,kbd⟩;dsimp only at k1 krow kbd |-;obtain⟨o3,o4⟩:=krow.one;have g1':H' 1=some [.int .i64 X.length,sv]:=(k3 1 (by omega)).trans g1;have g0':H' 0=some [.int .i64 0,.esl]:=(k3 0 (by omega)).trans g0;by_cases hk:k<X.length
 rotate_left
 ·obtain rfl:k=X.length:=by omega
  have hr1:Row H' 1 sv ((List.range i).map λj=>aC (dt (iI X Y X.length j))):=hrow.same λb hb=>k3 b (by have:=hbd b hb;omega);refine wnY (zI4 @ae @g1' @o3 @o4) ?_;refine gI rfl ev0 (hr1.same λb hb=>?_) ev0 eA (by simp[AV.ones,o3]) rfl jq (by simp;omega) (by simp;omega) ?_
  ·have:=hbd b hb;rw[ac (by omega)]
  rintro s2 H2 nx2 hr2 i1 i2 i3 i4;have lo:∀x,x<nx'->bv sv≠some x->H2 x=H' x:=λx x1 x2=>(i3 x (by omega) x2).trans (ac (by omega));have l4:∀x,x<2->H2 x=H' x:=λx x1=>lo x (by omega) (λh=>by have:=hbd _ h;omega);have g42:H2 1=some [.int .i64 X.length,sv]:=(l4 1 (by omega)).trans g1';obtain⟨o5,o6⟩:=hr2.one;have kr2:Row H2 1 rv ((iI X Y X.length i).map p9):=krow.same λb hb=>lo b (by have:=kbd b hb;omega) (λh=>by have:=hbd b h;have:=kbd b hb;omega)
  have hb2:∀b,bv s2=some b->2<=b/\b<nx2/\bv rv≠some b:=λb hb=>by
   rcases i4 b hb with h|h
   ·have:=hbd b h;exact⟨by omega,by omega,λe=>by have:=kbd b e;omega⟩
   ·exact⟨by omega,by omega,λe=>by have:=kbd b e;omega⟩
  refine wnY (zI3 @g42 @o5 @o6) ?_;obtain⟨Hf,H5,hfz,hr5,hs5⟩:=ph (H:=ar H2 1 (bD [.int .i64 X.length,sv] 1 [s2])) (hr2.same λb hb=>ac (by have:=hb2 b hb;omega)) (kr2.same λb hb=>ac (by have:=kbd b hb;omega)) (λb hb e=>(hb2 b e).2.2 hb);have hlow:∀x,x<2->H5 x=ar H2 1 (bD [.int .i64 X.length,sv] 1 [s2]) x:=λx hx=>hs5 x (λe=>by have:=kbd x e;omega) (λe=>by have:=hb2 x e;omega);refine⟨(i+1,s2),by dsimp only;omega,Hf,H5,hfz,⟨by dsimp only;omega,by omega,?_,?_,?_,λb hb=>?_⟩,im ag0⟩
  ·rw[hlow 0 (by omega),ac (by omega),l4 0 (by omega)];exact g0'
  ·rw[hlow 1 (by omega),ah];rfl
  ·dsimp only;rw[List.range_succ,cl];exact hr5
  ·have:=hb2 b hb;omega
 have ix:=dH hk;have hXk:=hX _ (ay hk);have hinc:=xT t (X.getD k default) hYi hXk;rw[hini k hk] at hinc;have hFk:=hF k;have hFl:=sn (X:=X) (Y:=Y) (n:=k) (i:=i);generalize X.getD k default=s at *;by_cases he2:t∈b6 s
 ·rw[aL he2] at hinc;rw[if_pos he2] at hFk;refine wkY (zI3 @ae @ix @iy) ?_;refine eR (krow.same λb hb=>?_) ?_
  ·have:=kbd b hb;rw[ac (by omega)]
  rintro r2 H2 nx2 hr2 i1 i2 i3 i4;obtain⟨o5,o6⟩:=hr2.one;refine wnY (aI @o5 @o6) ?_;refine⟨(k+1,r2),by dsimp only;omega,⟨by dsimp only;omega,by omega,λy hy=>?_,?_,λb hb=>?_⟩,ag0⟩
  ·rw[i3 y (by omega) (λh=>by have:=kbd _ h;omega),ac (by omega)];exact k3 y hy
  ·dsimp only;rw[hFk,cl];exact hr2
  ·rcases i4 b hb with h|h
   ·have:=kbd b h;omega
   ·omega
 ·rw[aO he2] at hinc;rw[if_neg he2,eH] at hFk;refine wkY (zI3 @ae @ix @iy) ?_;exact⟨(k+1,rv),by dsimp only;omega,⟨by dsimp only;omega,k2,k3,by dsimp only;rw[hFk];exact krow,kbd⟩,ag0⟩
theorem yu{s f:Spx}{n:Nat}(hs:ce cJ s)(hf:ce cJ f)(hsl:s.length=n+1)(hfl:f.length=n)(hn:1<=n):eh f s=decide (f∈b6 s):=by
 rw[Bool.eq_iff_iff,fm,gB,jt];exact⟨λh=>⟨by omega,HC z9 hf hs h,by omega⟩,λh v hv=>h.2.1.subset hv⟩
theorem xn(c:List Spx)(d:Int)(v:List Int)(hc:c.length<=50)(hs:∀s∈c,Shn s)(hv:v.length<=100000):pU 34 [bH c,.int .i64 d,aC v] (.tup [am (An c d v).1,.int .i64 (An c d v).2]):=by
 refine pO Nq ?_;simp only[b34,aH];have hcc:=jE c (show _<=_ by omega) hs;have z0:decide ((0:Int)≠0)=false:=rfl;unfold An;by_cases he:az c=0
 rotate_left
 ·rw[if_pos he];have z:decide (az c≠0)=true:=aL he;refine wnY (zI3 @ai @af @z) ?_;exact dV (.eslsl _) rfl
 rw[if_neg (λh=>h he)];rw[he] at hcc;by_cases hd:d<0\/8<=d
 ·rw[if_pos hd];have zz:=aI @ai (aI @af @z0);repeat' (first|refine zW ?_|apply a_n|apply a_r|refine zO ?_|refine vY ?_|refine cY ?_ (hp:=hcc) (hs:=by(first|refine aF ?_ rfl|apply aW);(repeat' (first|exact aj|apply bo|apply aX|exact cI _));first|done|fail)|refine bxY ?_|refine gTY ?_|refine gFY ?_|refine cTY ?_|refine cFY ?_|(refine zGY ?_ ?_<;>(intro _hg;try (exfalso;omega)))|refine bS rfl ?_|refine r2Y ?_|fail)
  all_goals first|exact dV (.eslsl _) rfl|(exfalso;omega)
 rw[if_neg hd];have hX:=D5 c d (by omega) hc hs;rw[Cn he (by omega) (by omega)] at hX;have hXl:=gW (d:=d+1) hc he;have hXm:=fZ (d:=d+1) he;generalize aB c (d+1)=X at *;have z1:decide (d<0)=false:=aO (by omega);have z2:decide (8<=d)=false:=aO (by omega);refine wnY (zI5 @ai @af @z0 @z1 @z2) ?_;refine bN (X:=AV×Nat) (λx=>[(2,aC v),(9,am X),(11,x.1),(34,aC v),(35,.int .i64 v.length),(36,.int .i64 x.2)]) (λx H nx=>x.2<=v.length/\(∀i,i<x.2->Cu X.length v i=0)/\Row H 1 x.1 ((eo X (v.take x.2)).map aA)/\∀b,bv x.1=some b->b<nx) (λx=>v.length-x.2) (.esl,0) ⟨bw _,λi h=>absurd h (by omega),Row.nil,λb hb=>(by cases hb)⟩ ag0 ?_;rintro⟨sv,k⟩ H nx ⟨k1,k2,k3,k4⟩;dsimp only at k1 k2 k3 k4 |-;by_cases hk:k<v.length
 rotate_left
 ·have hz:tc X.length v=0:=cT λi hi=>k2 i (by omega);rw[if_neg (λh=>h hz)];rw[fI (by omega)] at k3;have hpl:(eo X v).length=v.length:=by unfold eo;rw[bi]
  have hcp:=vR (eo X v) (by omega) λs hs=>by
   unfold eo at hs;obtain⟨i,hi,rfl⟩:=bG.1 hs;by_cases hl:i.toNat<X.length
   ·exact zw hXm _ (ay hl)
   ·rw[show X.getD i.toNat default=[] by unfold List.getD;rw[List.getElem?_eq_none (by omega)];rfl];exact bw _
  obtain⟨Hf,H4,hfz,hsn,hoth⟩:=Jz k3;have z6:decide ((k:Int)<v.length)=false:=aO (by omega);refine dJ ?_;have zz:=@z6;repeat' (first|apply a_n|refine zO ?_|refine vY ?_|fail)
  refine dJ ?_;clear zz;have zz:=@z6;repeat' (first|apply a_n|apply a_x|refine zO ?_|refine cFY ?_|fail)
  refine dJ ?_;refine pI Hf H4 [(11,am (eo X v))] hfz ⟨.inr hsn,trivial⟩ ?_;refine wnY and_self ?_;exact dV (bA _).snap rfl
 have ix:=ixV hk;have hsp:=sS (n:=X.length) (v:=v) (k:=k)
 have hfin:∀e:Int,e≠0->Cu X.length v k=e->(if tc X.length v≠0 then(([]:List Spx),tc X.length v) else(eo X v,0))=([],e):=λe h0 he=>by
  have h5:tc X.length v=e:=by
   unfold tc;rw[ci hk k2 (by rw[he];exact h0),he]
  rw[if_pos (by rw[h5];exact h0),h5]
 by_cases g1:v.getD k default<0
 ·rw[if_pos (.inl g1)] at hsp;rw[hfin 2 (by decide) hsp];have z1:decide (v.getD k default<0)=true:=aL g1;refine wnY (aI @ix @z1) ?_;exact dV (.eslsl _) rfl
 have z3:decide (v.getD k default<0)=false:=aO g1;by_cases g2:(X.length:Int)<=v.getD k default
 ·rw[if_pos (.inr g2)] at hsp;rw[hfin 2 (by decide) hsp];have z4:decide ((X.length:Int)<=v.getD k default)=true:=aL g2;refine wnY (zI4 @ix @z3 @z4 @ae) ?_;exact dV (.eslsl _) rfl
 have z4:decide ((X.length:Int)<=v.getD k default)=false:=aO g2;rw[if_neg (by omega)] at hsp
 have iw:eu 1 (am X) (.int .i64 (v.getD k default))=some (.iptr [aA (X.getD (v.getD k default).toNat default)] 0):=by
  rw[rm,if_pos ⟨by omega,by omega⟩]
 have hpt:=Ai (X:=X) hk;have hnl:(eo X (v.take k)).length=k:=by unfold eo;rw[bi,eM];omega
 have hstep:∀ (s2:AV) (E:Hp) (e:Nat),Cu X.length v k=0→Row E 1 s2 ((eo X (v.take k)).map aA ++ [aA (X.getD (v.getD k default).toNat default)])→(∀ i,i < k + 1→Cu X.length v i=0)∧Row E 1 s2 ((eo X (v.take (k + 1))).map aA):=fun s2 E e hz hr=>⟨fun i hi=>by
  rcases gN.1 hi with h'|rfl
  ·exact k2 i h'
  ·exact hz,by rw[hpt,cl];exact hr⟩
 generalize X.getD (v.getD k default).toNat default=x at *;by_cases hk0:0<k
 rotate_left
 ·rw[if_neg (λh=>hk0 h.1)] at hsp;have zk:decide (0<(k:Int))=false:=aO (by omega);refine wnY (zI8 @ix @iw @z3 @z4 @zk @ae @aZ @aJ) ?_;refine eR (k3.same λb hb=>?_) ?_
  ·have:=k4 b hb;rw[ac (by omega)]
  rintro s2 E e hrow hle1 hle2 hsame hb2;refine wnY and_self ?_
  exact ⟨(s2,k + 1),by dsimp only; omega,⟨by dsimp only; omega,(hstep s2 E e hsp hrow).1,(hstep s2 E e hsp hrow).2,fun b hb=>by
   rcases hb2 b hb with h|h
   ·have:=k4 b h;omega
   ·omega⟩,ag0⟩
 have zk:decide (0<(k:Int))=true:=aL (by omega)
 have iy:eu 1 (aC v) (.int .i64 ((k:Int)-1))=some (.iptr [.int .i64 (v.getD (k-1) default)] 0):=by
  have:=ixV (l:=v) (k:=k-1) (by omega)
  rwa [show((k-1:Nat):Int)=(k:Int)-1 by omega] at this
 by_cases g3:v.getD k default<=v.getD (k-1) default
 ·rw[if_pos ⟨hk0,g3⟩] at hsp;rw[hfin 14 (by decide) hsp];have z5:decide (v.getD k default<=v.getD (k-1) default)=true:=aL g3;refine wnY (zI7 @ix @iy @z3 @z4 @zk @z5 @ae) ?_;exact dV (.eslsl _) rfl
 ·rw[if_neg (λh=>g3 h.2)] at hsp;have z5:decide (v.getD k default<=v.getD (k-1) default)=false:=aO g3;refine wnY (gH @ix @iy @iw @z3 @z4 @zk @z5 @ae @aZ @aJ) ?_;refine eR (k3.same λb hb=>?_) ?_
  ·have:=k4 b hb;rw[ac (by omega)]
  rintro s2 E e hrow hle1 hle2 hsame hb2;refine wnY and_self ?_
  exact ⟨(s2,k + 1),by dsimp only; omega,⟨by dsimp only; omega,(hstep s2 E e hsp hrow).1,(hstep s2 E e hsp hrow).2,fun b hb=>by
   rcases hb2 b hb with h|h
   ·have:=k4 b h;omega
   ·omega⟩,ag0⟩
theorem ug(l m:List Int)(hl:l.length<=1000000)(hm:m.length<=1000000):pU 17 [aC l,aC m] (.bool (decide (l=m))):=by
 refine pO NN ?_;simp only[b17,aH]
 repeat' (first|refine zW ?_|apply a_n|apply a_r|refine zO ?_|refine vZ ?_|(refine zGZ ?_ ?_<;>(intro _hg;try (exfalso;omega)))|refine bS rfl ?_|refine r1Z ?_|fail)
 ·refine cf ?_
  symm;rw[decide_eq_false_iff_not];rintro rfl;omega
 refine jY (X:=Nat) (λk=>[(0,aC l),(1,aC m),(12,.int .i64 l.length),(13,.int .i64 k)]) (λk=>k<=l.length/\∀i,i<k->l.getD i default=m.getD i default) (λk=>l.length-k) 0 ⟨bw _,by simp⟩ ag0 ?_;rintro k ⟨h1,h2⟩
 repeat' (first|refine zW ?_|apply a_n|apply a_x|apply a_r|refine zO ?_|refine vZ ?_|(refine zGZ ?_ ?_<;>(intro _hg;try (exfalso;omega)))|refine bS rfl ?_|refine r1Z ?_|fail)
 ·refine cf ?_
  symm;rw[decide_eq_false_iff_not];rintro rfl;exact absurd rfl ‹_›
 ·refine⟨k+1,⟨by omega,λi hi=>?_⟩,by omega,ag0,rfl,rfl⟩;rcases gN.1 hi with h|rfl
  ·exact h2 i h
  ·omega
 ·refine cf ?_
  symm;rw[xt]
  refine List.ext_getElem (by omega) (λi h3 h4=>?_);have:=h2 i (by omega);simpa[List.getD,h3,h4] using this
theorem Ez(a b:List Int)(ha:a.length<=1000000)(hb:b.length<=1000000):pU 116 [aC a,aC b] (.bool (kf a b)):=by
 refine pO Me ?_;simp only[Lg,aH];have hs:=vP a b (by omega) (by omega);have hl:=oU _ a b (aR _);unfold kf;generalize bL a b=S at *
 have hq:∀tb tf,bt .quo tb tf (.int .i64 ((a.length:Int)+b.length-S.length)) (.int .i64 2)=some (.int .i64 (((a.length+b.length-S.length)/2:Nat):Int)):=λtb tf=>by
  rw[o7 (by omega) (by omega) (by omega)]
  congr 2;omega
 have hr:∀tb tf,bt .rem tb tf (.int .i64 (((a.length+b.length-S.length)/2:Nat):Int)) (.int .i64 2)=some (.int .i64 (((a.length+b.length-S.length)/2%2:Nat):Int)):=λtb tf=>by
  rw[BA (by omega) (by omega)]
  congr 2
 have z:decide ((((a.length+b.length-S.length)/2%2:Nat):Int)=1)=decide ((a.length+b.length-S.length)/2%2=1):=decide_eq_decide.2 (by omega);refine wnY (zI4 @cC @hq @hr @z) ?_;exact .bool _
theorem zN{l:List (List Int)}{k:Nat}(h:k<l.length):eu 1 (bm l) (.int .i64 (k:Int))=some (.iptr [aC (l.getD k default)] 0):=by
 rw[oh,if_pos ⟨by omega,by omega⟩,cz]
theorem b5{l:List (List Int)}:dx (bm l)=some (.int .i64 l.length):=qU
theorem yM(c:Nat)(R:List (List Int))(hm:fK c R):pU 133 [dA c R] (.tup [dA R.length (trL c R),.int .i64 0]):=by
 refine pO LG ?_;simp only[Mq,aH];have h1:=lF c R hm;have z0:decide ((0:Int)≠0)=false:=rfl;have dm:Dat (.agg [.int .i64 c,bm R]):=c8 c R;obtain⟨m1,m2,m3,m4⟩:=hm;have hzc:bz (AV.agg [AV.esl]) c=List.replicate c .esl:=by simp[bz,AV.cells]
 unfold dA;refine wnY (aI @z0 @b5) ?_;refine xV (k1:=.i64) (k2:=.i64) (n:=c) (m:=c) rfl ev0 ev0 (by omega) (Int.le_refl _) (by omega) (by omega) ?_;rw[cz,hzc,Nat.mul_one];refine wnY @b5 ?_;refine lpI (X:=Nat×List AV) (λx=>[(2,.ptr 1 2 0),(5,.ptr 3 2 0),(24,bm R),(25,.int .i64 R.length),(26,.int .i64 x.1)]) (λx H' nx'=>x.1<=R.length/\4<=nx'/\H' 1=some [.int .i64 0,.esl]/\H' 3=some [.int .i64 R.length,.msl 2 c 1 0 c]/\MatOk H' 2 4 nx' c (trF R x.1) x.2) (λx=>R.length-x.1) (0,List.replicate c .esl) ⟨bw _,aR _,by(repeat rw[ac (by omega)]);rw[ah],by rw[ah];rfl,MatOk.new (by(repeat rw[ac (by omega)]);rw[ah]) (λj _=>rfl)⟩ ?_;rintro⟨i,vs⟩ H nx ⟨i1,i2,g1,g3,hmat⟩;dsimp only at i1 i2 g1 g3 hmat |-;by_cases hi:i<R.length
 rotate_left
 ·obtain rfl:i=R.length:=by omega
  have hst:Snap (ar H 1 [.int .i64 R.length,.msl 2 c 1 0 c]) (.msl 2 c 1 0 c) (bm (trL c R)):=(hmat.same (hi':=nx) (G:=trF R R.length) (ac (by omega)) (λx x1 x2 x3=>ac (by omega)) (aR _) (λj _=>rfl)).snap;refine wnY (aI @g1 @g3) ?_;exact ka hst rfl
 have ix:=zN hi;have hrow:=m4 _ (bk hi);have hF:∀q,trF R (i+1) q=trF R i q++if (q:Int)∈R.getD i default then [i] else []:=λq=>yG
 generalize R.getD i default=r at *
 have hrasc:∀j,j<r.length->r.getD j default∉r.take j:=λj hj hm=>by
  have hchain:∀b a,a<b->b<r.length->r.getD a default<r.getD b default:=λb=>by
   induction b with
   |zero=>intro a ha;omega
   |succ b ih=>
    intro a ha hb;have q:=hrow.2.2 b hb;rcases(by omega:a<b\/a=b) with h|rfl
    ·have:=ih a h (by omega);omega
    ·exact q
  obtain⟨a,ha,e⟩:=jK hm;rw[eM] at ha;have h5:=hchain j a (by omega) hj;have e2:r.getD a default=r.getD j default:=by rw[<-e];simp[List.getD,show a<r.length by omega]
  omega
 refine wnY @ix ?_;refine lpI (X:=Nat×List AV) (λx=>[(2,.ptr 1 2 0),(5,.ptr 3 2 0),(6,.int .i64 i),(24,bm R),(25,.int .i64 R.length),(26,.int .i64 i),(31,aC r),(32,.int .i64 r.length),(33,.int .i64 x.1)]) (λx H' nx'=>x.1<=r.length/\nx<=nx'/\H' 1=some [.int .i64 0,.esl]/\H' 3=some [.int .i64 R.length,.msl 2 c 1 0 c]/\MatOk H' 2 4 nx' c (λq=>trF R i q++if (q:Int)∈r.take x.1 then [i] else []) x.2) (λx=>r.length-x.1) (0,vs) ⟨bw _,aR _,g1,g3,hmat.same rfl (λ_ _ _ _=>rfl) (aR _) (λj _=>by simp)⟩ ?_;clear hmat g1 g3;rintro⟨j,vs⟩ H' nx' ⟨j1,j2,g1,g3,hmat⟩;dsimp only at j1 g1 g3 hmat |-;by_cases hj:j<r.length
 rotate_left
 ·rw[fI (by omega)] at hmat;refine wnY and_self ?_;exact⟨(i+1,vs),by dsimp only;omega,⟨by dsimp only;omega,by omega,g1,g3,hmat.same rfl (λ_ _ _ _=>rfl) (aR _) (λq _=>hF q)⟩,ag0⟩
 have iy:=ixV hj;have hjr:=hrow.1 _ (bk hj);have htk:=bI hj;have hnm:=hrasc j hj;generalize r.getD j default=v at *;obtain⟨p,rfl⟩:∃p:Nat,v=p:=⟨v.toNat,by omega⟩
 have p1:p<c:=by omega
 refine wnY @iy ?_;refine pS 3 2 g3 hmat.box (by omega) λS0 hS1 hS2 hsub=>?_;have hFp:trF R i p++(if (p:Int)∈r.take j then [i] else [])=trF R i p:=by rw[if_neg hnm,eH]
 have hrow2:=hmat.row p p1;rw[hFp] at hrow2
 have hvs:vs[p]?=some (vs.getD p .undef):=by
  have:=hmat.len;simp[List.getD,show p<vs.length by omega]
 have hlen:=hmat.len;have hb3:∀b,bv (vs.getD p .undef)=some b->4<=b/\b<nx'/\b≠2:=λb hb=>hmat.bnd p b p1 hb;have hFl:=xA (R:=R) (n:=i) (q:=p);generalize hrv:vs.getD p .undef=rv at *;refine wnY (zI4 @hS1 @hS2 @hvs @hlen) ?_;refine dW ?_;refine wnY and_self ?_;refine⟨hsub _ (by rw[ac (by omega)];exact g3) (by rw[ac (by omega)];exact hmat.box),?_⟩;refine dW ?_;refine eR (hrow2.same λb hb=>?_) ?_
 ·have:=hb3 b hb;rw[ac (by omega)]
 rintro s2 H4 nx4 hr2 k1 k2 k3 k4;have lo:∀x,x<nx'->bv rv≠some x->H4 x=H' x:=λx x1 x2=>(k3 x (by omega) x2).trans (ac (by omega));have l5:∀x,x<4->H4 x=H' x:=λx hx=>lo x (by omega) (λh=>by have:=hb3 _ h;omega);have q2:=(l5 2 (by omega)).trans hmat.box;have q3:=(l5 3 (by omega)).trans g3;obtain⟨o1,o2⟩:=hr2.one;refine jT ⟨hsub _ q3 q2,?_⟩
 have hlp:bD vs p [s2]=vs.set p s2:=by
  simp only[bD,bK,fo,cp];rw[HQ,if_pos (by omega)];simp
 have zz:=aI @q2 (aI @o1 (aI @o2 (aI @hlen @hlp)));repeat' (first|apply a_n|refine zO ?_|refine vY ?_|refine nvY ?_|apply jr|refine stY ?_|fail)
 refine⟨(j+1,vs.set p s2),by dsimp only;omega,⟨by dsimp only;omega,by omega,?_,?_,?_⟩,ag0⟩
 ·rw[ac (by omega),l5 _ (by omega)];exact g1
 ·rw[ac (by omega)];exact q3
 ·dsimp only;refine hmat.put (sv:=s2) (x:=i) p1 (λq hq=>?_) ?_ (λb hb=>?_) (by rw[ah,hlp]) (λx x1 x2 x3 x4=>?_) (by omega) (by omega)
  ·rw[htk];by_cases e:q=p
   ·subst e;rw[if_pos rfl,if_neg hnm,if_pos (lW _ (cW.2 rfl)),eH]
   ·rw[if_neg e]
    congr 1
    refine xF ?_;rw[eC,cW];exact⟨λh=>h.resolve_right (by omega),.inl⟩
  ·rw[hFp,cl]
   exact hr2.same fun b hb=>ac (by
    rcases k4 b hb with h|h
    ·have:=hb3 b h;omega
    ·omega)
  ·rw[hrv];rcases k4 b hb with h|h
   ·exact .inl h
   ·exact .inr ⟨by omega,by omega,by omega⟩
  ·rw[ac x3,lo x x2 (by rw[hrv] at x4;exact x4)]
theorem GI(x y:Int):pU 187 [.int .i64 x,.int .i64 y] (.bool (decide (x<y))):=by
 have h1:=jv x;have h2:=jv y;refine pO Ia ?_;simp only[Jy,aH];refine wnZ and_self ?_;exact .bool _
theorem AL(l:List Int)(v:Int)(hl:l.length<=1000000000)(ha:bq l):∃b:Nat,pU 163 [aC l,.int .i64 v] (.tup [.int .i64 b,.bool (decide (v∈l))]):=by
 obtain⟨b,hb,h1,h2⟩:=M7 v ha;refine⟨b,?_⟩;rw[<-IV h1 h2 ha];refine pO K0 ?_;simp only[LJ,aH];refine wnZ @cC ?_;refine jY (X:=Nat×Nat) (λx=>[(0,aC l),(1,.int .i64 v),(6,.int .i64 l.length),(7,.int .i64 x.1),(8,.int .i64 x.2)]) (λx=>x.1<=b/\b<=x.2/\x.2<=l.length) (λx=>x.2-x.1) (0,l.length) ⟨bw _,hb,aR _⟩ ag0 ?_;rintro⟨i,j⟩ ⟨g1,g2,g3⟩;dsimp only at g1 g2 g3 |-;by_cases hij:i<j
 ·have hh:(i+j)/2<l.length:=by omega
  have hc:=GI (l.getD ((i+j)/2) default) v;have ix:=ixV hh;by_cases hn:l.getD ((i+j)/2) default<v
  ·rw[aL hn] at hc;have hbb:(i+j)/2<b:=Nat.lt_of_not_le λh=>by have:=h2 _ h hh;omega
   refine wnZ (zI4 @cC @gq @B2 @ix) ?_;exact⟨((i+j)/2+1,j),⟨by omega,by omega,by omega⟩,by dsimp only;omega,ag0,rfl,rfl⟩
  ·rw[aO hn] at hc;have hbb:b<=(i+j)/2:=Nat.le_of_not_lt λh=>hn (h1 _ h);refine wnZ (zI4 @cC @gq @B2 @ix) ?_;exact⟨(i,(i+j)/2),⟨by omega,by omega,by omega⟩,by dsimp only;omega,ag0,rfl,rfl⟩
 ·have ei:i=b:=by omega
  have ej:j=b:=by omega
  clear hij g1 g2 g3;subst ei;have dij:decide ((i:Int)<(j:Int))=false:=aO (by omega);by_cases hlt:i<l.length
  ·have hc:=jv (l.getD i default);have ix:=ixV hlt;have hna:=jv v
   have hn2:∀n:Int,pU 188 [.int .i64 n] (.bool false):=λn=>by
    refine pO KC ?_;simp only[LC,aH];refine wnZ and_self ?_;exact cf (by simp)
   have dlt:decide ((i:Int)<(l.length:Int))=true:=aL (by omega);by_cases hv:l.getD i default=v
   ·have dv:decide (l.getD i default=v)=true:=aL hv;rw[dv,aL hlt,Bool.true_and];refine wnZ (zI5 @cC @ix @dlt @dij @dv) ?_;exact bb (ag (.int _ _) (ag (.bool _) aj))
   ·have dv:decide (l.getD i default=v)=false:=aO hv;rw[dv,Bool.and_false];have zz:=aI @cC (aI @ix (aI @dlt (aI @dij @dv)));repeat' (first|refine zW ?_|apply a_n|apply a_x|refine zO ?_|refine vZ ?_|refine cZ ?_ (hp:=by exact hn2 _)|refine gTZ ?_|refine gFZ ?_|refine cFZ ?_|refine bS rfl ?_|refine r2Z ?_|fail)
    exact bb (ag (.int _ _) (ag (.bool _) aj))
  ·have dlt:decide ((i:Int)<(l.length:Int))=false:=aO (by omega);rw[aO hlt,Bool.false_and];refine wnZ (zI3 @cC @dlt @dij) ?_;exact bb (ag (.int _ _) (ag (.bool _) aj))
theorem Gi(l:List Int)(v:Int)(hl:l.length<=1000000000)(ha:bq l):pU 146 [aC l,.int .i64 v] (.bool (decide (v∈l))):=by
 obtain⟨b,hb⟩:=AL l v hl ha;refine pO MM ?_;simp only[Mv,aH];refine wnZ and_self ?_;exact .bool _
theorem FI(M:List Ln)(c n:Nat)(hc:c<=4096)(hn:n<=4096)(hM:RedU M)(hMb:∀l∈M,BL c n l)(x:Ln)(hx:co x)(hxb:BL c n x){a:AV}{Hf HA H:Hp}(hfz:Fz Hf HA H)(hs:Snap Hf a (eN x)){nx m lb:Nat}(hlb:lb<nx)(hm:m<nx)(hne:m≠lb)(h1:H lb=some [.mp m])(h2:LM H m M):
    Abs.Fn Tryz.prog 149 [a,.ptr lb 1 0] HA nx λr H' nx'=>r=eN (ee M x)/\(∀b,b<nx->H' b=H b)/\nx<=nx':=by
 refine fO Kn ?_;simp only[Lb,aH];have hx0:eN x=.agg [aC x.1,aC x.2]:=rfl;refine dJ ?_;refine pI Hf H [(0,eN x),(1,.ptr lb 1 0)] hfz ⟨.inr hs,.inl rfl,trivial⟩ ?_;rw[hx0];clear hs hfz;refine wnY @h1 ?_;refine lpI (X:=Ln×Nat) (λy=>[(1,.ptr lb 1 0),(2,.ptr nx 2 0),(3,.ptr (nx+1) 2 0),(4,.int .i64 y.2)]) (λy H' nx'=>y.2<=y.1.1.length/\nx+2<=nx'/\co y.1/\BL c n y.1/\ee M y.1=ee M x/\(∀j,j<y.2->∀l∈M,ld l.1≠y.1.1.getD j default)/\H' nx=some [aC y.1.1,aC y.1.2]/\H' (nx+1)=some [.esl,.esl]/\∀b,b<nx->H' b=H b) (λy=>nL M y.1*10000+(y.1.1.length-y.2)) (x,0) ⟨bw _,aR _,hx,hxb,rfl,λj h=>absurd h (by omega),by rw[ac (by omega),ah],by rw[ah],λb hb=>by rw[ac (by omega),ac (by omega)]⟩ ?_;clear hx hxb hx0;rintro⟨y,i⟩ H' nx' ⟨g1,g2,g3,g4,g5,g6,g7,g8,g9⟩;dsimp only at g1 g2 g3 g4 g5 g6 g7 g8 g9 |-;obtain⟨l1,l2⟩:=g4.len g3;have k1:H' lb=some [.mp m]:=(g9 lb hlb).trans h1;have k2:LM H' m M:=(g9 m hm).trans h2;by_cases hi:i<y.1.length
 rotate_left
 ·have hr:ee M y=y:=Dm hM g3 λl hl hz=>by
    obtain⟨j,hj,e⟩:=jK hz;refine g6 j (by omega) l hl ?_;rw[<-e];simp[List.getD,hj]
  have z:decide ((i:Int)<y.1.length)=false:=aO (by omega);rw[<-g5,hr];refine wnY (zI4 @cC @z @g7 @g8) ?_;exact⟨rfl,λb hb=>by rw[ac (by omega)];exact g9 b hb,by omega⟩
 have z:decide ((i:Int)<y.1.length)=true:=aL (by omega);have ix:=ixV hi;have hvm:=ay hi;generalize hv:y.1.getD i default=v at *;refine wnY (zI4 @cC @z @ix @g7) ?_;refine Ba lb m nx k1 k2 g7 (by omega) (by omega) (by omega) λS hS1 hS2 hS3 hsub=>?_;refine wnY (zI4 @hS1 @hS2 @hS3 @ix) ?_;simp only[fX,List.map_nil,List.getD_cons_succ,List.getD_cons_zero];by_cases hk:v∈bW M
 rotate_left
 ·have hmg:Go.Abs.mget (.agg [.esl,.esl]) true (if v∈bW M then some ((bW M).idxOf v) else none) (M.map eN)=.tup [.agg [.esl,.esl],.bool false]:=by rw[if_neg hk];rfl
  refine J3 (J7 ev0 hS2 ev0) ?_;rw[hmg];refine wnY and_self ?_;refine dW ?_;refine wnY and_self ?_;refine⟨hsub _ (by rw[ac (by omega)];exact k1) (by rw[ac (by omega)];exact k2) (by rw[ac (by omega)];exact g7),?_⟩;refine wnY and_self ?_;refine⟨(y,i+1),by dsimp only;omega,⟨by dsimp only;omega,by omega,g3,g4,g5,λj hj l hl=>?_,by rw[ac (by omega),ac (by omega)];exact g7,by rw[ac (by omega),ac (by omega)];exact g8,λb hb=>by rw[ac (by omega),ac (by omega)];exact g9 b hb⟩,ag0⟩;dsimp only;rcases(by omega:j<i\/j=i) with q|rfl
  ·exact g6 j q l hl
  ·rw[hv];exact λe=>hk (ng.2 ⟨l,hl,e⟩)
 obtain⟨l,hl,hld,hgd⟩:=vE hk
 have hmg:Go.Abs.mget (.agg [.esl,.esl]) true (if v∈bW M then some ((bW M).idxOf v) else none) (M.map eN)=.tup [.agg [aC l.1,aC l.2],.bool true]:=by
  rw[if_pos hk];show AV.tup [(M.map eN).getD ((bW M).idxOf v) .undef,.bool true]=_;rw[hgd];rfl
 refine J3 (J7 ev0 hS2 ev0) ?_;rw[hmg];refine wnY and_self ?_;refine dW ?_;refine wnY and_self ?_;refine⟨hsub _ (by rw[ac (by omega)];exact k1) (by rw[ac (by omega)];exact k2) (by rw[ac (by omega)];exact g7),?_⟩;refine wnY and_self ?_;have hla:=hM.asc l hl;have hlb':=hMb l hl;obtain⟨l3,l4⟩:=hlb'.len hla;have hs1:=vP y.1 l.1 (by omega) (by omega);have hs2:=vP y.2 l.2 (by omega) (by omega)
 have hlt:∀j,j<i->∀w∈l.1,y.1.getD j default<w:=λj hj w hw=>by
  have h5:=nT hla.1 hw;have h6:=k9.1 g3.1 j i (by omega) hi hj;have e1:y.1.getD j default=y.1[j]:=by simp[List.getD,show j<y.1.length by omega]
  have e2:y.1.getD i default=y.1[i]:=by simp[List.getD,hi]
  omega
 have hp1:=yW (i:=i) (a:=y.1) (b:=l.1) (by omega) hlt;have hp2:=we (i:=i) (a:=y.1) (b:=l.1) (by omega) hlt;have hnl:=JZ hM g3 hl (by rw[hld];exact hvm);have ha':=eV g3 hla;have hb':=g4.add hlb' g3 hla;obtain⟨l5,_⟩:=hb'.len ha';have hrx:=Df hM g3 hl;have e7:ar (ar H' nx' [AV.esl,AV.esl]) nx' (bD [AV.esl,AV.esl] 0 [aC l.1,aC l.2]) nx'=some [aC l.1,aC l.2]:=by rw[ah];rfl
 have e8:ar (ar H' nx' [AV.esl,AV.esl]) nx' (bD [AV.esl,AV.esl] 0 [aC l.1,aC l.2]) nx=some [aC y.1,aC y.2]:=by rw[ac (by omega),ac (by omega)];exact g7
 have e9:∀b,b≠nx->b<nx'->ar (ar H' nx' [AV.esl,AV.esl]) nx' (bD [AV.esl,AV.esl] 0 [aC l.1,aC l.2]) b=H' b:=λb h1 h2=>by rw[ac (by omega),ac (by omega)]
 generalize ar (ar H' nx' [AV.esl,AV.esl]) nx' (bD [AV.esl,AV.esl] 0 [aC l.1,aC l.2])=H2 at *;have hadd:d5 y l=(bL y.1 l.1,bL y.2 l.2):=rfl;generalize bL y.1 l.1=s1 at *;generalize bL y.2 l.2=s2 at *;refine wkY (aI @e7 @e8) ?_;refine⟨((s1,s2),i),?_,⟨hp2,by omega,by rw[<-hadd];exact ha',by rw[<-hadd];exact hb',by rw[<-hadd,hrx];exact g5,λj hj l' hl'=>by dsimp only;rw[hp1 j hj];exact g6 j hj l' hl',by rw[ah];rfl,by rw[ac (by omega),e9 _ (by omega) (by omega)];exact g8,λb hb=>by rw[ac (by omega),e9 _ (by omega) (by omega)];exact g9 b hb⟩,ag0⟩;rw[hadd] at hnl l5;dsimp only at hnl l5 |-;omega
theorem EI(l:List Int)(hl:l.length<=1000000000):PureF Tryz.prog 150 [aC l] (aC l):=by
 refine qO LU ?_;simp only[Mf,aH];refine wnZ and_self ?_;refine wz (k:=l.length) (by((try simp only[bZ,ZA,reduceEqDiff,↓reduceIte,reduceAdd,reduceLeDiff]);(try with_reducible rfl));exact AK) (λh=>?_) (λh=>?_) (λh=>?_)
 ((all_goals (try have zz:=and_self));(repeat' (first|refine zW ?_|apply a_n|apply a_r|refine zO ?_|refine vZ ?_|refine b0Z ?_|refine a0Z ?_|refine cTZ ?_|refine cFZ ?_|refine bS rfl ?_|refine r1Z ?_|fail));(all_goals (try clear zz)))
 ·exact v4 ah (by omega) rfl
 ·exact CO h
 ·exact v4 ah (by omega) rfl
theorem vM(c:Nat)(R:List (List Int))(hc:c<=4096)(hl:R.length<=4096)(hR:∀r∈R,bq r)(hv:∀r∈R,∀z∈r,0<=z/\z<(c:Int)):pU 115 [dA c R] (.tup [mh (lC R c),bm (stE R R.length).2]):=by
 refine pO Lv ?_;simp only[LP,aH];rw[cH];refine dJ ?_
 repeat' (first|apply a_n|refine zO ?_|refine vY ?_|refine bxY ?_|fail)
 refine dJ ?_;refine wnY and_self ?_;refine u0 ?_;refine rP (cs:=[.nilm]) rfl rfl rfl ?_
 repeat' (first|apply a_n|refine zO ?_|refine stY ?_|fail)
 refine dJ ?_
 repeat' (first|apply a_n|refine zO ?_|refine vY ?_|fail)
 refine dJ ?_
 repeat' (first|apply a_n|refine zO ?_|refine vY ?_|fail)
 refine cr (λT H nx=>T 1=.ptr 0 2 0/\T 4=.ptr 2 1 0/\3<=nx/\H 0=some [.int .i64 c,bm R]/\H 2=some [.mp 1]/\LM H 1 (stE R R.length).1/\∃dv,T 6=dv/\Row H 1 dv ((stE R R.length).2.map aC)/\∀b,bv dv=some b->2<b/\b<nx) ?_ ?_
 ·refine wnY @b5 ?_;refine lpI (X:=AV×Nat) (λx=>[(1,.ptr 0 2 0),(4,.ptr 2 1 0),(5,.func 149 [.ptr 2 1 0]),(6,x.1),(19,bm R),(20,.int .i64 R.length),(21,.int .i64 x.2)]) (λx H nx=>x.2<=R.length/\3<=nx/\H 0=some [.int .i64 c,bm R]/\H 2=some [.mp 1]/\LM H 1 (stE R x.2).1/\Row H 1 x.1 ((stE R x.2).2.map aC)/\∀b,bv x.1=some b->2<b/\b<nx) (λx=>R.length-x.2) (.esl,0) ⟨bw _,aR _,rfl,rfl,rfl,Row.nil,λb h=>(by cases h)⟩ ?_;rintro⟨dv,k⟩ H nx ⟨h1,h2,h3,h4,h5,h6,h7⟩;dsimp only at h1 h2 h3 h4 h5 h6 h7 |-;by_cases hk:k<R.length
  rotate_left
  ·obtain rfl:k=R.length:=by omega
   refine wnY and_self ?_;exact⟨rfl,rfl,h2,h3,h4,h5,dv,rfl,h6,h7⟩
  have ix:=zN hk;have hrow:=hR _ (ay hk);have hrv:=hv _ (ay hk);have hst:=gv hR (i:=k) (by omega);have hbl:=AJ hR hv (k:=k) (by omega);have hsl:=xI hR (k:=k) (by omega);have hss:stE R (k+1)=if (ee (stE R k).1 (R.getD k default,[(k:Int)])).1=[] then((stE R k).1,(stE R k).2++[(ee (stE R k).1 (R.getD k default,[(k:Int)])).2]) else(jZ (stE R k).1 (ee (stE R k).1 (R.getD k default,[(k:Int)])),(stE R k).2):=rfl
  generalize R.getD k default=r at *;generalize stE R k=MD at *;obtain⟨M,D⟩:=MD;dsimp only at *;have hrl:=fE hrow hrv;have hcl:=EI r (by omega);refine wnY @ix ?_;refine fR ev0 ev0 hcl (ag (ct _ _) aj) ?_;refine wnY @ix ?_;have hM:=hst.red;have hax:co (r,[(k:Int)]):=⟨hrow,List.pairwise_singleton _ _⟩
  have hbx:BL c R.length (r,[(k:Int)]):=⟨hrv,λj hj=>by rw[cW.1 hj];omega⟩
  refine bc ev0 ev0 (FI M c R.length hc hl hM hbl (r,[(k:Int)]) hax hbx (Fz.one ah) (mV (ag (ct _ _) (ag (ea (n:=1) (len:=1) (l:=[(k:Int)]) ji rfl rfl) aj))) (m:=1) (lb:=2) (by omega) (by omega) (by omega) (by rw[cq (by omega),ac (by omega)];exact h4) (by unfold LM;rw[cq (by omega),ac (by omega)];exact h5)) ?_;rintro _ H1 nx1 ⟨rfl,g1,g2⟩;have hay:co (ee M (r,[(k:Int)])):=io (λl hl=>hM.asc l hl) hax;have hby:BL c R.length (ee M (r,[(k:Int)])):=AX (λl hl=>⟨hM.asc l hl,hbl l hl⟩) hax hbx;have hno:∀l∈M,ld l.1∉(ee M (r,[(k:Int)])).1:=λl hl=>kD hM hax hl;generalize ee M (r,[(k:Int)])=y at *;have lo:∀b,b<nx->H1 b=H b:=λb hb=>(g1 b (by omega)).trans (by rw[cq (by omega),ac (by omega)]);have e1:eN y=.agg [aC y.1,aC y.2]:=rfl;rw[e1];by_cases h0:y.1=[]
  ·rw[if_pos h0] at hss;have z:decide ((y.1.length:Int)=0)=true:=by rw[h0];rfl
   refine wnY (aI @cC @z) ?_;refine eR (h6.same λb hb=>?_) ?_
   ·have:=h7 b hb;rw[ac (by omega),ac (by omega),ac (by omega)];exact lo b (by omega)
   rintro s2 H2 nx2 hr2 i1 i2 i3 i4;have lo2:∀b,b<nx->bv dv≠some b->H2 b=H b:=λb hb hn=>(i3 b (by omega) hn).trans (by rw[ac (by omega),ac (by omega),ac (by omega)];exact lo b hb);have hd:∀b,b<=2->bv dv≠some b:=λb hb e=>by have:=h7 b e;omega
   refine wnY and_self ?_;refine⟨(s2,k+1),by dsimp only;omega,⟨by dsimp only;omega,by omega,(lo2 0 (by omega) (hd 0 (by omega))).trans h3,(lo2 2 (by omega) (hd 2 (by omega))).trans h4,?_,?_,λb hb=>?_⟩,ag0⟩
   ·dsimp only;rw[hss];exact(lo2 1 (by omega) (hd 1 (by omega))).trans h5
   ·dsimp only;rw[hss,cl];exact hr2
   ·rcases i4 b hb with h|h
    ·have:=h7 b h;omega
    ·omega
  rw[if_neg h0] at hss;have z:decide ((y.1.length:Int)=0)=false:=aO (by have:=iT.2 h0;omega);refine wnY (aI @cC @z) ?_;have hd:∀b,b<=2->bv dv≠some b:=λb hb e=>by have:=h7 b e;omega
  have q0:ar (ar H1 nx1 [AV.esl,AV.esl]) nx1 (bD [AV.esl,AV.esl] 0 [aC y.1,aC y.2]) 0=some [.int .i64 c,bm R]:=by rw[ac (by omega),ac (by omega)];exact(lo 0 (by omega)).trans h3
  have q2:ar (ar H1 nx1 [AV.esl,AV.esl]) nx1 (bD [AV.esl,AV.esl] 0 [aC y.1,aC y.2]) 2=some [.mp 1]:=by rw[ac (by omega),ac (by omega)];exact(lo 2 (by omega)).trans h4
  have q1:LM (ar (ar H1 nx1 [AV.esl,AV.esl]) nx1 (bD [AV.esl,AV.esl] 0 [aC y.1,aC y.2])) 1 M:=by unfold LM;rw[ac (by omega),ac (by omega)];exact(lo 1 (by omega)).trans h5
  have qy:ar (ar H1 nx1 [AV.esl,AV.esl]) nx1 (bD [AV.esl,AV.esl] 0 [aC y.1,aC y.2]) nx1=some [aC y.1,aC y.2]:=by rw[ah];rfl
  have qd:Row (ar (ar H1 nx1 [AV.esl,AV.esl]) nx1 (bD [AV.esl,AV.esl] 0 [aC y.1,aC y.2])) 1 dv (D.map aC):=h6.same λb hb=>by
   have:=h7 b hb;rw[ac (by omega),ac (by omega)];exact lo b (by omega)
  generalize ar (ar H1 nx1 [AV.esl,AV.esl]) nx1 (bD [AV.esl,AV.esl] 0 [aC y.1,aC y.2])=H2 at *;clear lo g1;refine wnY @q2 ?_;refine Je ev0 q1 ?_;refine wnY and_self ?_;have hkl:(bW M).length=M.length:=by unfold bW;rw[bi]
  have hkn:=yI hM;have ix0:=Hk h0;obtain⟨yl1,yl2⟩:=hby.len hay;refine lpI (X:=List Nat) (λx=>[(1,.ptr 0 2 0),(4,.ptr 2 1 0),(5,.func 149 [.ptr 2 1 0]),(6,dv),(9,.ptr nx1 2 0),(19,bm R),(20,.int .i64 R.length),(21,.int .i64 k),(43,.itr (nx1+1))]) (λseen H nx'=>H (nx1+1)=some [.oiter 1 ((bW M).map (AV.int .i64)).length seen]/\nx1+2<=nx'/\seen.Nodup/\(∀i∈seen,i<M.length)/\H 0=some [.int .i64 c,bm R]/\H 2=some [.mp 1]/\H nx1=some [aC y.1,aC y.2]/\H 1=some [.omap ((bW M).map (AV.int .i64)) (vsS M y seen)]/\Row H 1 dv (D.map aC)) (λseen=>M.length-seen.length) [] ⟨ah,aR _,List.nodup_nil,λi h=>(by cases h),(ac (by omega)).trans q0,(ac (by omega)).trans q2,(ac (by omega)).trans qy,by rw[GC];exact(ac (by omega)).trans q1,qd.same λb hb=>by have:=h7 b hb;rw[ac (by omega)]⟩ ?_;clear q0 q2 q1 qy qd;rintro seen H3 nx3 ⟨r1,r2,r3,r4,q0,q2,qy,q1,qd⟩
  have hsl:seen.length<=M.length:=by
   have:=yY r3 (l₂:=List.range M.length) λi hi=>ed.2 (r4 i hi);simpa using this
  refine wnY and_self ?_;refine JN ev0 r1 q1 rfl (λi hi hns=>?_) (λhall=>?_)
  ·have hi:i<M.length:=by rw[bi,hkl] at hi;exact hi
   have ek:((bW M).map (AV.int .i64)).getD i .undef=.int .i64 (ld (M.getD i default).1):=by
    unfold bW;simp[List.getD,hi]
   have evv:(vsS M y seen).getD i .undef=.agg [aC (M.getD i default).1,aC (M.getD i default).2]:=Bo hi hns
   have hidx:(bW M).idxOf (ld (M.getD i default).1)=i:=by
    have h5:i<(bW M).length:=by rw[hkl];exact hi
    have h6:(bW M)[i]=ld (M.getD i default).1:=by
     have:(bW M)[i]=ld M[i].1:=List.getElem_map ..;rw[this];simp[List.getD,hi]
    have h7:=qa.2 (show ld (M.getD i default).1∈bW M by rw[<-h6];exact nC h5);have h8:(bW M)[(bW M).idxOf (ld (M.getD i default).1)]=(bW M)[i]:=by rw[List.getElem_idxOf h7,h6]
    exact(List.getElem_inj hkn).1 h8
   have hkm:ld (M.getD i default).1∈bW M:=ng.2 ⟨_,ay hi,rfl⟩;have hla:=hM.asc _ (ay hi);have hlb:=hbl _ (ay hi);obtain⟨ll1,ll2⟩:=hlb.len hla;have hset:=Cl (M:=M) (y:=y) (seen:=seen) (i:=i);have hsame:=EU (M:=M) (y:=y) (seen:=seen) (i:=i) hi hns;have r3':(seen++[i]).Nodup:=zE.2 ⟨r3,by simp,λx hx z hz e=>by rw[e,cW.1 hz] at hx;exact hns hx⟩
   have r4':∀x∈seen++[i],x<M.length:=λx hx=>by
    rcases eC.1 hx with q|q
    ·exact r4 x q
    ·rw[cW.1 q];exact hi
   have hsl2:(seen++[i]).length<=M.length:=by
    have:=yY r3' (l₂:=List.range M.length) λi hi=>ed.2 (r4' i hi);simpa using this
   rw[cA,List.length_singleton] at hsl2;generalize M.getD i default=l at *;have hhas:=Gi l.1 (ld y.1) (by omega) hla.1;refine wnY (aI @ek @evv) ?_;refine Jd (i:=i) ev0 ah (by rw[ac (by omega)];exact q1) rfl (by simp) (by rw[bi,hkl];exact hi) ?_;refine wnY (aI @ek @evv) ?_;have w0:ar (ar (ar H3 (nx1+1) [AV.oiter 1 ((bW M).map (AV.int .i64)).length (seen++[i])]) nx3 [AV.esl,AV.esl]) nx3 (bD [AV.esl,AV.esl] 0 [aC l.1,aC l.2]) 0=some [.int .i64 c,bm R]:=by rw[ac (by omega),ac (by omega),ac (by omega)];exact q0
   have w2:ar (ar (ar H3 (nx1+1) [AV.oiter 1 ((bW M).map (AV.int .i64)).length (seen++[i])]) nx3 [AV.esl,AV.esl]) nx3 (bD [AV.esl,AV.esl] 0 [aC l.1,aC l.2]) 2=some [.mp 1]:=by rw[ac (by omega),ac (by omega),ac (by omega)];exact q2
   have w1:ar (ar (ar H3 (nx1+1) [AV.oiter 1 ((bW M).map (AV.int .i64)).length (seen++[i])]) nx3 [AV.esl,AV.esl]) nx3 (bD [AV.esl,AV.esl] 0 [aC l.1,aC l.2]) 1=some [.omap ((bW M).map (AV.int .i64)) (vsS M y seen)]:=by rw[ac (by omega),ac (by omega),ac (by omega)];exact q1
   have wy:ar (ar (ar H3 (nx1+1) [AV.oiter 1 ((bW M).map (AV.int .i64)).length (seen++[i])]) nx3 [AV.esl,AV.esl]) nx3 (bD [AV.esl,AV.esl] 0 [aC l.1,aC l.2]) nx1=some [aC y.1,aC y.2]:=by rw[ac (by omega),ac (by omega),ac (by omega)];exact qy
   have wl:ar (ar (ar H3 (nx1+1) [AV.oiter 1 ((bW M).map (AV.int .i64)).length (seen++[i])]) nx3 [AV.esl,AV.esl]) nx3 (bD [AV.esl,AV.esl] 0 [aC l.1,aC l.2]) nx3=some [aC l.1,aC l.2]:=by rw[ah];rfl
   have wi:ar (ar (ar H3 (nx1+1) [AV.oiter 1 ((bW M).map (AV.int .i64)).length (seen++[i])]) nx3 [AV.esl,AV.esl]) nx3 (bD [AV.esl,AV.esl] 0 [aC l.1,aC l.2]) (nx1+1)=some [.oiter 1 ((bW M).map (AV.int .i64)).length (seen++[i])]:=by rw[ac (by omega),ac (by omega),ah]
   have wd:Row (ar (ar (ar H3 (nx1+1) [AV.oiter 1 ((bW M).map (AV.int .i64)).length (seen++[i])]) nx3 [AV.esl,AV.esl]) nx3 (bD [AV.esl,AV.esl] 0 [aC l.1,aC l.2])) 1 dv (D.map aC):=qd.same λb hb=>by
    have:=h7 b hb;rw[ac (by omega),ac (by omega),ac (by omega)]
   generalize ar (ar (ar H3 (nx1+1) [AV.oiter 1 ((bW M).map (AV.int .i64)).length (seen++[i])]) nx3 [AV.esl,AV.esl]) nx3 (bD [AV.esl,AV.esl] 0 [aC l.1,aC l.2])=H4 at *;clear q0 q2 q1 qy qd;by_cases hin:ld y.1∈l.1
   ·rw[aL hin] at hhas;have hs1:=vP l.1 y.1 (by omega) (by omega);have hs2:=vP l.2 y.2 (by omega) (by omega);have hcl:eN (jJ y l)=.agg [aC (bL l.1 y.1),aC (bL l.2 y.2)]:=by unfold jJ;rw[if_pos hin];rfl
    rw[hcl] at hset;clear hcl;generalize bL l.1 y.1=s1 at *;generalize bL l.2 y.2=s2 at *;refine wkY (zI3 @wy @wl @ix0) ?_;refine Ba 2 nx3 nx1 w2 wl wy (by omega) (by omega) (by omega) λS hS1 hS2 hS3 hsub=>?_;refine wnY (zI3 @hS1 @hS2 @hS3) ?_;simp only[fX,List.map_nil,List.getD_cons_succ,List.getD_cons_zero];refine dW ?_;refine wnY and_self ?_;refine⟨hsub _ w2 wl wy,?_⟩;refine dW ?_;refine wnY and_self ?_;refine⟨hsub _ w2 wl wy,?_⟩;refine wnY and_self ?_;have hmf:=iO (ld l.1) (bW M);rw[if_pos hkm,hidx] at hmf;refine pN ev0 w1 ev0 ev0 rfl hmf ?_;refine wnY and_self ?_;refine⟨seen++[i],by rw[cA,List.length_singleton];omega,⟨(ac (by omega)).trans wi,by omega,r3',r4',(ac (by omega)).trans w0,(ac (by omega)).trans w2,(ac (by omega)).trans wy,?_,wd.same λb hb=>by have:=h7 b hb;rw[ac (by omega)]⟩,ag0⟩;rw[ah,<-hset];rfl
   ·rw[aO hin] at hhas;refine wkY (zI3 @wy @wl @ix0) ?_;exact⟨seen++[i],by rw[cA,List.length_singleton];omega,⟨wi,by omega,r3',r4',w0,w2,wy,by rw[hsame hin];exact w1,wd⟩,ag0⟩
  ·have hall:∀i,i<M.length->i∈seen:=λi hi=>hall i (by rw[bi,hkl];exact hi) (by rw[bi,hkl];exact hi);rw[Hi hall,<-zg hM hay h0 hno] at q1
   have hkk:ld y.1∉bW (M.map (jJ y)):=by
    rw[zg hM hay h0 hno,ng];rintro⟨l,hl,e⟩;exact hno l hl (by rw[e];exact dq h0)
   refine wnY (zI3 @q2 @qy @ix0) ?_;refine pS 2 nx1 q2 qy (by omega) λS hS1 hS2 hsub=>?_;have zz:=aI @hS1 (aI @hS2 @ix0);repeat' (first|apply a_n|refine zO ?_|refine nvY ?_|apply jr|fail)
   simp only[fX,List.map_nil,List.getD_cons_succ,List.getD_cons_zero]
   skip
   have hmf:=iO (ld y.1) (bW (M.map (jJ y)));rw[if_neg hkk] at hmf;refine pN ev0 q1 ev0 ev0 rfl hmf ?_;refine wnY and_self ?_;refine⟨(dv,k+1),by dsimp only;omega,⟨by dsimp only;omega,by omega,(ac (by omega)).trans q0,(ac (by omega)).trans q2,?_,?_,λb hb=>by have:=h7 b hb;omega⟩,ag0⟩
   ·dsimp only;rw[hss];unfold LM;rw[ah];unfold jZ bW;simp[cU,gd,eN]
   ·dsimp only;rw[hss];exact qd.same λb hb=>by have:=h7 b hb;rw[ac (by omega)]
 rintro T H nx ⟨t1,t4,h2,h3,h4,h5,dv,t6,h6,h7⟩;have hst:=gv hR (aR R.length);have hbl:=AJ hR hv (aR R.length);have hsl:=xI hR (aR R.length);unfold lC;generalize stE R R.length=MD at *;obtain⟨M,D⟩:=MD;dsimp only at *;have hM:=hst.red;refine wnY (zI5 @t1 @t4 @t6 @h3 @h4) ?_;refine bN (X:=AV×Nat) (λx=>[(4,.ptr 2 1 0),(6,dv),(12,x.1),(77,.int .i64 c),(78,.int .i64 x.2)]) (λx H' nx'=>x.2<=c/\nx<=nx'/\H' 2=some [.mp 1]/\LM H' 1 M/\Row H' 1 dv (D.map aC)/\Row H' 2 x.1 (cLs (lQ M x.2))/\∀b,bv x.1=some b->nx<=b/\b<nx') (λx=>c-x.2) (.esl,0) ⟨bw _,aR _,h4,h5,h6,Row.nil,λb h=>(by cases h)⟩ (have zz:=aI @t4 @t6;agZ) ?_;clear h3 h4 h5 h6;rintro⟨ov,k⟩ H' nx' ⟨g1,g2,g3,g4,g5,g6,g7⟩;dsimp only at g1 g2 g3 g4 g5 g6 g7 |-;by_cases hk:k<c
 rotate_left
 ·obtain rfl:k=c:=by omega
  refine wnY and_self ?_;exact bb (ag (Ho g6) (ag (lA g5) aj))
 have hos:=qb (M:=M) (c:=k);have hol:=Ac (M:=M) (c:=k);have hmf:=iO (k:Int) (bW M);refine wnY @g3 ?_;by_cases hm:(k:Int)∈bW M
 rotate_left
 ·rw[if_neg hm] at hmf;refine ju ev0 g4 ev0 rfl hmf ?_;have hmg:Go.Abs.mget (.agg [.esl,.esl]) true none (M.map eN)=.tup [.agg [.esl,.esl],.bool false]:=rfl;rw[hmg];refine wnY and_self ?_;rw[AN hm] at hos;have hos:lQ M (k+1)=lQ M k:=by rw[hos];simp
  refine⟨(ov,k+1),by dsimp only;omega,⟨by dsimp only;omega,by omega,by rw[ac (by omega),ac (by omega)];exact g3,?_,g5.same λb hb=>by have:=h7 b hb;rw[ac (by omega),ac (by omega)],?_,λb hb=>by have:=g7 b hb;omega⟩,ag0⟩
  ·unfold LM;rw[ac (by omega),ac (by omega)];exact g4
  ·dsimp only;rw[hos];exact g6.same λb hb=>by have:=g7 b hb;rw[ac (by omega),ac (by omega)]
 obtain⟨l,hl,hld,hgd⟩:=vE hm;rw[if_pos hm] at hmf;refine ju ev0 g4 ev0 rfl hmf ?_
 have hmg:Go.Abs.mget (.agg [.esl,.esl]) true (some ((bW M).idxOf (k:Int))) (M.map eN)=.tup [.agg [aC l.1,aC l.2],.bool true]:=by
  show AV.tup [(M.map eN).getD ((bW M).idxOf (k:Int)) .undef,.bool true]=_;rw[hgd];rfl
 rw[hmg];rw[Ft hM hl hld] at hos;have hos:lQ M (k+1)=lQ M k++[l]:=hos;refine wnY and_self ?_;refine gI rfl ev0 (g6.same λb hb=>?_) ev0 qu rfl rfl (by omega) (by rw[Cp];omega) (by rw[Cp];omega) ?_
 ·have:=g7 b hb;rw[ac (by omega),ac (by omega),ac (by omega)]
 rintro s2 H2 nx2 hr2 i1 i2 i3 i4;have hdo:∀b,b<nx->bv ov≠some b:=λb hb e=>by have:=g7 b e;omega
 have lo2:∀b,b<nx->H2 b=H' b:=λb hb=>(i3 b (by omega) (hdo b hb)).trans (by rw[ac (by omega),ac (by omega),ac (by omega)]);refine wnY and_self ?_;refine⟨(s2,k+1),by dsimp only;omega,⟨by dsimp only;omega,by omega,(lo2 2 (by omega)).trans g3,(lo2 1 (by omega)).trans g4,g5.same λb hb=>by have:=h7 b hb;rw[lo2 b (by omega)],?_,λb hb=>?_⟩,ag0⟩
 ·dsimp only;rw[hos,Fv];exact hr2
 ·rcases i4 b hb with h|h
  ·have:=g7 b h;omega
  ·omega
theorem oe(c:Nat)(R:List (List Int))(hm:fK c R):pU 134 [dA c R] (.tup [dA c (c7 R c),.int .i64 0]):=by
 refine pO ME ?_;simp only[Lr,aH];have h1:=lF c R hm;have z0:decide ((0:Int)≠0)=false:=rfl;have hd:Dat (.agg [.int .i64 c,bm R]):=c8 c R;have hec:=vM c R (by have:=hm.2.1;omega) hm.2.2.1 (eT hm) (λr hr z hz=>(hm.2.2.2 r hr).1 z hz);have hll:=jH (R:=R) (c:=c);have hmc:=hm.2.1;rw[cH] at hec |-;unfold c7;generalize lC R c=L at *;refine wnY (aI @z0 @t5) ?_;refine lpI (X:=AV×Nat) (λx=>[(2,.ptr 1 2 0),(5,.ptr 2 2 0),(24,mh L),(25,.int .i64 L.length),(26,.int .i64 x.2)]) (λx H nx=>x.2<=L.length/\3<=nx/\H 1=some [.int .i64 0,.esl]/\H 2=some [.int .i64 c,x.1]/\Row H 1 x.1 (((L.take x.2).map Prod.fst).map aC)/\∀b,bv x.1=some b->2<b/\b<nx) (λx=>L.length-x.2) (.esl,0) ⟨bw _,aR _,rfl,rfl,Row.nil,λb h=>(by cases h)⟩ ?_;rintro⟨sv,k⟩ H nx ⟨g1,g2,g3,g4,g5,g6⟩;dsimp only at g1 g2 g3 g4 g5 g6 |-;by_cases hk:k<L.length
 rotate_left
 ·rw[fI (by omega)] at g5;obtain⟨o1,o2⟩:=g5.one;refine wnY (zI4 @g3 @g4 @o1 @o2) ?_;refine ka (lA (g5.same λb hb=>?_)) rfl;have:=g6 b hb;rw[ac (by omega)]
 have ix:=LB hk;have hts:=bI hk;have hlt:(L.take k).length<=k:=by rw[eM];omega
 generalize L.getD k default=l at *;refine wnY (aI @ix @g4) ?_;refine gI rfl ev0 (g5.same λb hb=>?_) ev0 eA rfl rfl jq (by rw[bi,bi];omega) (by rw[bi,bi];omega) ?_
 ·have:=g6 b hb;rw[ac (by omega),ac (by omega),ac (by omega)]
 rintro s2 H2 nx2 hr2 i1 i2 i3 i4;have hdo:∀b,b<=2->bv sv≠some b:=λb hb e=>by have:=g6 b e;omega
 have lo2:∀b,b<=2->H2 b=H b:=λb hb=>(i3 b (by omega) (hdo b hb)).trans (by rw[ac (by omega),ac (by omega),ac (by omega)])
 have hn2:∀b,bv s2=some b->2<b/\b<nx2:=λb hb=>by
  rcases i4 b hb with h|h
  ·have:=g6 b h;omega
  ·omega
 have k4:=(lo2 2 (by omega)).trans g4;obtain⟨o1,o2⟩:=hr2.one;refine wnY (zI3 @k4 @o1 @o2) ?_;refine⟨(s2,k+1),by dsimp only;omega,⟨by dsimp only;omega,by omega,by rw[ac (by omega)];exact(lo2 1 (by omega)).trans g3,by rw[ah];rfl,?_,hn2⟩,ag0⟩;dsimp only;rw[hts,cl,cl];exact hr2.same λb hb=>by have:=hn2 b hb;rw[ac (by omega)]
theorem A4(c:Nat)(R:List (List Int))(hm:fK c R):pU 97 [dA c R] (.tup [.int .i64 (c7 R c).length,.int .i64 0]):=by
 refine pO NI ?_;simp only[b97,aH];have he:=oe c R hm;have hd:Dat (.agg [.int .i64 c,bm R]):=c8 c R;rw[cH,cH] at he;rw[cH];generalize c7 R c=E at *;refine wnY @b5 ?_;exact bb (ag (.int _ _) (ag (.int _ _) aj))
def HO(D:List (List Int))(b:List Int):Option (List Int):=D.find? λy=>kf y b
def l7(L:List Ln)(b:List Int):List Int:=(L.filter λl=>kf l.2 b).map λl=>ld l.1
def uJ(R:List (List Int))(c:Nat)(b:List Int):List Int×List Int×Bool:=match HO (stE R R.length).2 b with
 |some y=>([],y,false)
 |none=>(l7 (lC R c) b,[],true)
theorem Dn{L:List Ln}{x:Ln}{b:List Int}:l7 (L++[x]) b=l7 L b++if kf x.2 b=true then [ld x.1] else []:=by
 unfold l7;rw[wn,cl]
 congr 1
 by_cases h:kf x.2 b=true
 ·rw[if_pos h,Bb (by simpa using h)];rfl
 ·rw[if_neg h,A7 (by simpa using h)];rfl
theorem C7{D:List (List Int)}{p:List Int->Bool}{k:Nat}(h:∀i,i<k->p (D.getD i default)=false)(hk:k<D.length)(hp:p (D.getD k default)=true):D.find? p=some (D.getD k default):=by
 induction D generalizing k with
 |nil=>simp at hk
 |cons y D ih=>
  match k with
  | 0 => have hp : p y = true := hp
         show List.find? p (y::D)=some y;rw[List.find?_cons_of_pos hp]
  |k+1=>
   have h0:¬p y=true:=by have:=h 0 (by omega);rw[show(y::D).getD 0 default=y from rfl] at this;rw[this];decide
   rw[List.find?_cons_of_neg h0];exact ih (k:=k) (λi hi=>h (i+1) (by omega)) (by simpa using hk) hp
theorem GZ(c:Nat)(R:List (List Int))(b:List Int)(hm:fK c R)(hbr:∀v∈b,0<=v/\v<(R.length:Int))(hba:bq b):pU 59 [dA c R,aC b] (.tup [aC (uJ R c b).1,aC (uJ R c b).2.1,.bool (uJ R c b).2.2,.int .i64 0]):=by
 refine pO Oj ?_;simp only[b59,aH];have hmR:=eT hm;have hmv:∀r∈R,∀z∈r,0<=z/\z<(c:Int):=λr hr z hz=>(hm.2.2.2 r hr).1 z hz;have hbl:=fE hba hbr;have h1:=lF c R hm
 have h2:=pK b (R.length:Int) (by have:=hm.2.2.1; omega) hbr (fun i hi=>by
  have:=k9.1 hba i (i+1) (by omega) hi (by omega);simpa[List.getD,show i<b.length by omega,hi] using this)
 have z0:decide ((0:Int)≠0)=false:=rfl;have hd:Dat (.agg [.int .i64 c,bm R]):=c8 c R;have hec:=vM c R (by have:=hm.2.1;omega) hm.2.2.1 hmR hmv;have hll:=jH (R:=R) (c:=c);have hmc:=hm.2.1;have hrl:=hm.2.2.1;have hsl:=xI hmR (aR R.length);have hok:=gv hmR (aR R.length)
 have hel:∀l∈lC R c,l.1≠[]/\l.2.length<=4096:=λl hl=>by
  have hl':=((ib hmR hmv).2.2 l).1 hl;refine⟨hok.red.ne l hl',?_⟩;have:=((AJ hmR hmv (aR R.length)) l hl').len (hok.red.asc l hl');omega
 have hdl:∀y∈(stE R R.length).2,y.length<=4096:=λy hy=>by
  have h3:=hok.dep y hy;have h4:y.length<=R.length:=fE h3.1.2 h3.2.2;omega
 rw[cH] at hec |-;unfold uJ;generalize lC R c=L at *;generalize (stE R R.length).2=D at *;refine dJ ?_
 repeat' (first|apply a_n|refine zO ?_|refine vY ?_|refine bxY ?_|fail)
 refine dJ ?_;refine wnY (zI3 @z0 @t5 @b5) ?_;refine lpI (X:=Nat) (λk=>[(1,aC b),(10,mh L),(35,bm D),(36,.int .i64 D.length),(37,.int .i64 k)]) (λk H nx=>k<=D.length/\∀i,i<k->kf (D.getD i default) b=false) (λk=>D.length-k) 0 ⟨bw _,λi h=>absurd h (by omega)⟩ ?_;rintro k H nx ⟨g1,g2⟩;by_cases hk:k<D.length
 ·have ix:=zN hk;have hyl:=hdl _ (ay hk);have hod:=Ez (D.getD k default) b (by omega) (by omega);by_cases ho:kf (D.getD k default) b=true
  ·have hsy:HO D b=some (D.getD k default):=C7 (p:=λy=>kf y b) g2 hk ho;rw[hsy];rw[ho] at hod;generalize D.getD k default=y at *;refine wnY @ix ?_;refine r_4 rfl rfl rfl rfl ?_;exact bb (ag (.eslsl 1) (ag (ct y).snap (ag (.bool _) (ag (.int _ _) aj))))
  ·have ho:kf (D.getD k default) b=false:=by simpa using ho
   have hg2:∀i,i<k+1->kf (D.getD i default) b=false:=λi hi=>by
    rcases(by omega:i<k\/i=k) with h|rfl
    ·exact g2 i h
    ·exact ho
   rw[ho] at hod;generalize D.getD k default=y at *;refine wnY @ix ?_;exact⟨k+1,by omega,⟨by omega,hg2⟩,ag0⟩
 have hsy:HO D b=none:=by
  refine List.find?_eq_none.2 λy hy=>?_;obtain⟨i,hi,e⟩:=jK hy;have:=g2 i (by omega);rw[show D.getD i default=y by simp[List.getD,hi,e]] at this;rw[this];decide
 rw[hsy];clear hsy g2;refine wnY @t5 ?_;refine lpI (X:=AV×Nat) (λx=>[(1,aC b),(14,x.1),(46,mh L),(47,.int .i64 L.length),(48,.int .i64 x.2)]) (λx H nx=>x.2<=L.length/\Row H 1 x.1 ((l7 (L.take x.2) b).map (AV.int .i64))/\∀b,bv x.1=some b->b<nx) (λx=>L.length-x.2) (.esl,0) ⟨bw _,Row.nil,λb h=>(by cases h)⟩ ?_;rintro⟨sv,k⟩ H nx ⟨g1,g2,g3⟩;dsimp only at g1 g2 g3 |-;by_cases hk:k<L.length
 rotate_left
 ·rw[fI (by omega)] at g2;refine wnY and_self ?_;refine r_4 rfl rfl rfl rfl ?_;exact bb (ag g2.snapI (ag (.eslsl 1) (ag (.bool _) (ag (.int _ _) aj))))
 have ix:=LB hk;have hts:=bI hk;obtain⟨hn,hl2⟩:=hel _ (ay hk)
 have hxl:(l7 (L.take k) b).length<=k:=by
  unfold l7;rw[bi];refine fe (List.length_filter_le _ _) ?_;rw[eM];omega
 have hsx:=Dn (L:=L.take k) (x:=L.getD k default) (b:=b);rw[<-hts] at hsx;generalize L.getD k default=l at *;have hod:=Ez l.2 b (by omega) (by omega);have ix0:=Hk hn;by_cases ho:kf l.2 b=true
 ·rw[ho] at hod;rw[if_pos ho] at hsx;refine wnY (aI @ix @ix0) ?_;refine eR (g2.same λb hb=>?_) ?_
  ·have:=g3 b hb;rw[ac (by omega),ac (by omega),ac (by omega)]
  rintro s2 H2 nx2 hr2 i1 i2 i3 i4;refine wnY and_self ?_;refine⟨(s2,k+1),by dsimp only;omega,⟨by dsimp only;omega,?_,λb hb=>?_⟩,ag0⟩
  ·dsimp only;rw[hsx,cl];exact hr2
  ·rcases i4 b hb with h|h
   ·have:=g3 b h;omega
   ·omega
 ·have ho:kf l.2 b=false:=by simpa using ho
  rw[ho] at hod;rw[ho,if_neg (by decide),eH] at hsx;refine wnY (aI @ix @ix0) ?_;refine⟨(sv,k+1),by dsimp only;omega,⟨by dsimp only;omega,?_,λb hb=>by have:=g3 b hb;omega⟩,ag0⟩;dsimp only;rw[hsx];exact g2.same λb hb=>by have:=g3 b hb;rw[ac (by omega),ac (by omega)]
theorem Cm(c:List Spx)(hc:az c=0)(hl:c.length<=50):pU 37 [bH c] (.tup [.int .i64 (sO c 8),.int .i64 0]):=by
 refine pO K1 ?_;simp only[b37,aH];have hcc:=jE c (show _<=_ by omega) (iW hc);rw[hc] at hcc;have z0:decide ((0:Int)≠0)=false:=rfl;have hbd:=λk:Nat=>BQ (c:=c) (λk=>oC (k:=k) hl λs hs=>(cE ((dz hc).2.1 s hs)).2.1) k;have hll:=λk=>oC (k:=k) hl λs hs=>(cE ((dz hc).2.1 s hs)).2.1;have hf:=λk(hk:1<=k/\k<=8)=>zY c k hl (dz hc).2.1 hk;refine wnY (zI3 @z0 @ai @af) ?_;refine lpI (X:=Nat) (λk=>[(1,.ptr 0 1 0),(5,.int .i64 (sO c k)),(6,.int .i64 (k+1:Nat))]) (λk H nx=>k<=8/\H 0=some [am c]) (λk=>8-k) 0 ⟨bw _,rfl⟩ ?_;rintro k H nx ⟨g1,g2⟩;by_cases hk:k<8
 rotate_left
 ·obtain rfl:k=8:=by omega
  refine wnY and_self ?_;exact bb (ag (.int _ _) (ag (.int _ _) aj))
 have hf1:=hf (k+1) ⟨by omega,by omega⟩;have hl1:=hll (k+1);have hb1:=hbd k;have hb2:=hbd (k+1);have hes:sO c (k+1)=if (k+1)%2=1 then sO c k+((gx c (k+1)).length:Int) else sO c k-((gx c (k+1)).length:Int):=rfl
 have hr:∀tb tf,bt .rem tb tf (.int .i64 ((k+1:Nat):Int)) (.int .i64 2)=some (.int .i64 (((k+1)%2:Nat):Int)):=λtb tf=>by
  rw[BA (by omega) (by omega)]
  congr 2
 generalize gx c (k+1)=L at *;generalize sO c k=E0 at *;by_cases hodd:(k+1)%2=1
 ·rw[if_pos hodd] at hes;rw[hes] at hb2;have zr:decide ((((k+1)%2:Nat):Int)=1)=true:=aL (by omega);refine wnY (zI5 @g2 @z0 @hr @zr @ae) ?_;exact⟨k+1,by omega,⟨by omega,g2⟩,by rw[hes,show((k+1+1:Nat):Int)=((k+1:Nat):Int)+1 by omega];simp (disch:=omega) only[agr,ZG,reduceEqDiff,↓reduceIte]⟩
 ·rw[if_neg hodd] at hes;rw[hes] at hb2;have zr:decide ((((k+1)%2:Nat):Int)=1)=false:=aO (by omega);refine wnY (zI5 @g2 @z0 @hr @zr @ae) ?_;exact⟨k+1,by omega,⟨by omega,g2⟩,by rw[hes,show((k+1+1:Nat):Int)=((k+1:Nat):Int)+1 by omega];simp (disch:=omega) only[agr,ZG,reduceEqDiff,↓reduceIte]⟩
theorem yw(c:List Spx)(hc:Shn c)(hs:∀s∈c,Shn s):pU 94 [bH c] (.tup [.int .i64 (tt c-1),.bool (Ff c)]):=by
 refine pO Nv ?_;simp only[b94,aH];unfold tt Ff;have hc':c.length<=17592186044416:=hc;refine wnY (zI3 @ai @af @ae) ?_;refine lpI (X:=Nat) (λk=>[(4,.int .i64 (oz c k).1),(5,.int .i64 (oz c k).2),(9,am c),(10,.int .i64 c.length),(11,.int .i64 k)]) (λk H nx=>k<=c.length) (λk=>c.length-k) 0 (bw _) ?_;rintro k H nx h1;have hb:=B8 (m:=17592186044416) (by omega) (λs h=>by have:s.length<=_:=hs s h;omega) h1;by_cases hk:k<c.length
 rotate_left
 ·obtain rfl:k=c.length:=by omega
  generalize oz c c.length=P at *;obtain⟨a,m⟩:=P;dsimp only at hb |-;by_cases h0:m=0
  ·have z:decide (m=0)=true:=aL h0;rw[z,Bool.true_or];refine wnY @z ?_;exact bb (ag (.int _ _) (ag (.bool _) aj))
  ·have z:decide (m=0)=false:=aO h0;rw[z,Bool.false_or];refine wnY @z ?_;exact bb (ag (.int _ _) (ag (.bool _) aj))
 have ix:=dH hk;have hsl:(c.getD k default).length<=17592186044416:=hs _ (ay hk);have e:oz c (k+1)=(min (oz c k).1 ((c.getD k default).length:Int),max (oz c k).2 ((c.getD k default).length:Int)):=rfl;generalize c.getD k default=s at *;refine wnY (aI @ix @ao) ?_;exact⟨k+1,by omega,by omega,by rw[e];simp (disch:=omega) only[agr,ZG,reduceEqDiff,↓reduceIte]⟩
theorem o8(c:List Spx)(hc:az c=0)(hl:c.length<=50):pU 96 [bH c] (.tup [.int .i64 (tt c-1),.bool (Ff c),.int .i64 0]):=by
 refine pO NY ?_;simp only[b96,aH];have hcc:=jE c (show _<=_ by omega) (iW hc);rw[hc] at hcc;have hd:=yw c (show _<=_ by omega) (iW hc);have z0:decide ((0:Int)≠0)=false:=rfl;refine wnY (zI3 @z0 @ai @af) ?_;refine bb (ag (.int _ _) (ag (.bool _) (ag (.int _ _) aj)))
theorem rV(c:List Spx)(d:Nat)(hc:az c=0)(hl:c.length<=50)(hd:d<=8):pU 98 [bH c,.int .i64 d] (.tup [.int .i64 (aB c ((d:Int)+1)).length,.int .i64 0]):=by
 refine pO Og ?_;simp only[b98,aH];by_cases h8:d=8
 ·rw[Bh hc (by omega)];subst h8;refine wnY (aI @ai @af) ?_;exact bb (ag (.int _ _) (ag (.int _ _) aj))
 have hs:=lj c ((d:Int)+1) hl (iW hc)
 have e:dr c ((d:Int)+1)=(aB c ((d:Int)+1),0):=by
  unfold dr aB;rw[if_neg (λq=>q hc),if_neg (by omega),if_neg (by omega)]
 rw[e] at hs;dsimp only at hs;have hll:=cw hc hl (d:=(d:Int)+1);generalize aB c ((d:Int)+1)=X at *;have z1:decide ((d:Int)<0)=false:=aO (by omega);have z2:decide ((8:Int)<=d)=false:=aO (by omega);refine wnY (zI5 @ai @af @ae @z1 @z2) ?_;exact bb (ag (.int _ _) (ag (.int _ _) aj))
theorem m8(c:List Spx)(d:Nat)(hc:az c=0)(hl:c.length<=50)(hd:d<=8):pU 58 [bH c,.int .i64 d] (.tup [dA (aB c ((d:Int)+1)).length (dR (aB c ((d:Int)+1)) (aB c d)),.int .i64 0]):=by
 refine pO Ny ?_;simp only[b58,aH];by_cases h8:d=8
 ·rw[Bh hc (by omega),y6];subst h8;have hs:pU 98 [bH c,.int .i64 (((8:Nat):Int)-1)] (.tup [.int .i64 (aB c ((8:Nat):Int)).length,.int .i64 0]):=rV c 7 hc hl (by omega);have hll:=cw hc hl (d:=((8:Nat):Int));generalize (aB c ((8:Nat):Int)).length=n at *;have hzc:bz (AV.agg [AV.esl]) n=List.replicate n .esl:=by simp[bz,AV.cells]
  refine wnY (aI @ai @af) ?_;refine xV (k1:=.i64) (k2:=.i64) (n:=n) (m:=n) rfl ev0 ev0 (by omega) (Int.le_refl _) (by omega) (by omega) ?_;rw[cz,hzc,Nat.mul_one];refine wnY and_self ?_;exact ka (Dl (by rw[ac (by omega),ah])) rfl
 have hm:=JW c d hl (iW hc)
 have e:vh c d=(((((aB c ((d:Int)+1)).length:Nat):Int),dR (aB c ((d:Int)+1)) (aB c d)),0):=by
  unfold vh;rw[if_neg (λq=>q hc),if_neg (by omega)]
 rw[e] at hm;dsimp only at hm;generalize dR (aB c ((d:Int)+1)) (aB c d)=R at *;generalize (aB c ((d:Int)+1)).length=n at *;rw[cH] at hm |-;have z2:decide ((d:Int)<8)=true:=aL (by omega);refine wnY (zI3 @ai @af @z2) ?_;exact ka (ku _).snap rfl
theorem GU(c:List Spx)(m:Nat)(hc:az c=0)(hl:c.length<=50)(hm:tt c=m)(hm8:m<=8):pU 44 [bH c] (.tup [aC (btL c m),.int .i64 0]):=by
 refine pO KH ?_;simp only[b44,aH];have hdi:=o8 c hc hl;rw[hm] at hdi;have z0:decide ((0:Int)≠0)=false:=rfl;have hed:=λd(h:d<=8)=>m8 c d hc hl h;have hsz:=λd(h:d<=8)=>rV c d hc hl h;have hrl:=λd:Int=>cw hc hl (d:=d);have hrk:=λd:Nat=>A4 (aB c ((d:Int)+1)).length (dR (aB c ((d:Int)+1)) (aB c d)) (ll (by have:=hrl ((d:Int)+1);omega) (by have:=hrl d;omega));have hrf:=λd:Nat=>xx (c:=c) (d:=d);refine wnY (zI3 @z0 @ai @af) ?_;refine u0 ?_;refine wnY and_self ?_;refine lpI (X:=Nat) (λk=>[(1,.ptr 0 1 0),(4,.int .i64 ((m:Int)-1)),(7,.mp 1),(26,.int .i64 ((m:Int)-1+2)),(27,.int .i64 k)]) (λk H nx=>k<=m+1/\2<=nx/\H 0=some [am c]/\H 1=some [.omap ((rkK k).map (AV.int .i64)) (rkV c k)]) (λk=>m+1-k) 0 ⟨bw _,aR _,rfl,rfl⟩ ?_;rintro k H nx ⟨g1,g2,g3,g4⟩;by_cases hk:k<m+1
 ·have hed1:=hed k (by omega);have hrk1:=hrk k;have hr1:=hrl ((k:Int)+1);have hd1:Dat (dA (aB c ((k:Int)+1)).length (dR (aB c ((k:Int)+1)) (aB c k))):=c8 _ _;change pU 97 _ (.tup [.int .i64 (rkF c k),.int .i64 0]) at hrk1;rw[cH] at hed1 hrk1 hd1;generalize dR (aB c ((k:Int)+1)) (aB c k)=R at *;generalize (aB c ((k:Int)+1)).length=n at *;have z1:decide ((k:Int)<(m:Int)-1+2)=true:=aL (by omega);refine wnY (zI5 @g3 @z0 @z1 @ai @af) ?_;have hmf:=iO (k:Int) (rkK k);rw[if_neg (λq=>by have:=kX.1 q;omega)] at hmf;refine pN ev0 ((ac (by omega)).trans ((ac (by omega)).trans g4)) ev0 ev0 rfl hmf ?_;refine wnY @z0 ?_;refine⟨k+1,by omega,⟨by omega,by omega,by rw[ac (by omega),ac (by omega),ac (by omega)];exact g3,?_⟩,ag0⟩;rw[ah,xX,zC,cl];rfl
 obtain rfl:k=m+1:=by omega
 have z1:decide (((m+1:Nat):Int)<(m:Int)-1+2)=false:=aO (by omega);refine wnY @z1 ?_;refine lpI (X:=AV×Nat) (λx=>[(1,.ptr 0 1 0),(7,.mp 1),(11,x.1),(51,.int .i64 ((m:Int)-1+1)),(52,.int .i64 x.2)]) (λx H nx=>x.2<=m/\2<=nx/\H 0=some [am c]/\H 1=some [.omap ((rkK (m+1)).map (AV.int .i64)) (rkV c (m+1))]/\Row H 1 x.1 ((btL c x.2).map (AV.int .i64))/\∀b,bv x.1=some b->2<=b/\b<nx) (λx=>m-x.2) (.esl,0) ⟨bw _,g2,g3,g4,Row.nil,λb h=>(by cases h)⟩ ?_;clear g1 g2 g3 g4;rintro⟨sv,k⟩ H nx ⟨g1,g2,g3,g4,g5,g6⟩;dsimp only at g1 g2 g3 g4 g5 g6 |-;by_cases hk:k<m
 rotate_left
 ·obtain rfl:k=m:=by omega
  have z1:decide ((k:Int)<(k:Int)-1+1)=false:=aO (by omega);refine wnY @z1 ?_;exact fU g5.snapI rfl
 have hsz1:=hsz k (by omega);have hr1:=hrl ((k:Int)+1);have hr2:=hrl (((k+1:Nat):Int)+1);have hf1:=hrf k;have hf2:=hrf (k+1);have hmf1:=iO (k:Int) (rkK (m+1));rw[if_pos (kX.2 (by omega)),rS (by omega)] at hmf1;have hmf2:=iO ((k+1:Nat):Int) (rkK (m+1));rw[if_pos (kX.2 (by omega)),rS (by omega)] at hmf2;rw[show((k+1:Nat):Int)=(k:Int)+1 by omega] at hmf2;have hv1:Go.Abs.mget (.int .i64 0) false (some k) (rkV c (m+1))=.int .i64 (rkF c k):=rM (by omega);have hv2:Go.Abs.mget (.int .i64 0) false (some (k+1)) (rkV c (m+1))=.int .i64 (rkF c (k+1)):=rM (by omega);have hsn:=zR (c:=c) (n:=k);have hbl:(btL c k).length=k:=by unfold btL;simp
 have hbf:btF c k=((aB c ((k:Int)+1)).length:Int)-(rkF c k:Int)-(rkF c (k+1):Int):=rfl;rw[hbf] at hsn;generalize rkF c k=f1 at *;generalize rkF c (k+1)=f2 at *;generalize (aB c ((k:Int)+1)).length=n at *;generalize (aB c (((k+1:Nat):Int)+1)).length=n2 at *;have z1:decide ((k:Int)<(m:Int)-1+1)=true:=aL (by omega);refine wnY (zI5 @g3 @z0 @z1 @ai @af) ?_;refine ju ev0 g4 ev0 rfl hmf1 ?_;rw[hv1];refine wnY and_self ?_;refine ju ev0 g4 ev0 rfl hmf2 ?_;rw[hv2];refine wnY and_self ?_;refine eR (g5.same λb hb=>?_) ?_
 ·have:=g6 b hb;rw[ac (by omega)]
 rintro s2 H2 nx2 hr3 i1 i2 i3 i4;have hdo:∀b,b<2->bv sv≠some b:=λb hb e=>by have:=g6 b e;omega
 have lo2:∀b,b<2->H2 b=H b:=λb hb=>(i3 b (by omega) (hdo b hb)).trans (by rw[ac (by omega)]);refine wnY and_self ?_;refine⟨(s2,k+1),by dsimp only;omega,⟨by dsimp only;omega,by omega,(lo2 0 (by omega)).trans g3,(lo2 1 (by omega)).trans g4,?_,λb hb=>?_⟩,ag0⟩
 ·dsimp only;rw[hsn,cl];exact hr3
 ·rcases i4 b hb with h|h
  ·have:=g6 b h;omega
  ·omega
theorem uq(c:List Spx)(m:Nat)(hc:az c=0)(hl:c.length<=50)(hm:tt c=m)(hm8:m<=8):pU 13 [bH c] (.tup [aC (btL c m),.int .i64 0]):=by
 have hch:pU 43 [bH c] (.int .i64 0):=by
  refine pO IX ?_;simp only[b43,aH];have he:=Cm c hc hl;refine wnY (aI @ai @af) ?_;exact .int _ _
 refine pO ND ?_;simp only[b13,aH];have hb:=GU c m hc hl hm hm8;have z0:decide ((0:Int)≠0)=false:=rfl;refine wnY (zI3 @z0 @ai @af) ?_;exact fU (ct _).snap rfl
theorem lw(c:List Spx)(hc:az c=0)(hl:c.length<=50):pU 43 [bH c] (.int .i64 0):=by
 refine pO IX ?_;simp only[b43,aH];have he:=Cm c hc hl;refine wnY (aI @ai @af) ?_;exact .int _ _
theorem MS(s t:Spx)(hs:Shn s)(ht:Shn t):pU 69 [aA s,aA t] (.bool (decide (s=t))):=by
 refine pO Oc ?_;simp only[b69,aH];have hc:=gR s t hs ht;have e:decide (bh s t=0)=decide (s=t):=decide_eq_decide.2 ⟨λh=>pu h,λh=>by rw[h];exact f9 t⟩;refine wnY @e ?_;exact .bool _
theorem LS(a b:List Spx)(ha:ShC a)(hb:ShC b):pU 68 [am a,am b,.func 69 []] (.bool (decide (a=b))):=by
 refine pO N1 ?_;simp only[b68,aH];by_cases hl:a.length=b.length
 rotate_left
 ·have z:decide ((a.length:Int)≠b.length)=true:=aL (by omega);rw[aO (λe=>hl (by rw[e]))];refine wnY (aI @ae @z) ?_;exact .bool _
 have z:decide ((a.length:Int)≠b.length)=false:=by rw[hl];exact aO (λh=>h rfl)
 have hal:=ha.1;refine wnY (aI @ae @z) ?_;refine jY (X:=Nat) (λk=>[(0,am a),(1,am b),(2,.func 69 []),(15,am a),(16,.int .i64 a.length),(17,.int .i64 k)]) (λk=>k<=a.length/\∀i,i<k->a.getD i default=b.getD i default) (λk=>a.length-k) 0 ⟨bw _,λi h=>absurd h (by omega)⟩ ag0 ?_;rintro k ⟨h1,h2⟩;by_cases hk:k<a.length
 rotate_left
 ·obtain rfl:k=a.length:=by omega
  have e:a=b:=List.ext_getElem hl λi i1 i2=>by
   have:=h2 i i1;simpa[List.getD,i1,i2] using this
  rw[aL e];refine wnY and_self ?_;exact .bool _
 have ix:=dH hk;have iy:=dH (l:=b) (k:=k) (by omega);have hcl:=MS _ _ (ha.2 _ (ay hk)) (hb.2 _ (ay (l:=b) (i:=k) (by omega)));by_cases e:a.getD k default=b.getD k default
 ·rw[aL e] at hcl
  have hn:∀i,i<k+1->a.getD i default=b.getD i default:=λi hi=>by
   rcases(by omega:i<k\/i=k) with h|rfl
   ·exact h2 i h
   ·exact e
  generalize a.getD k default=s at *;generalize b.getD k default=t at *;refine wnY (aI @ix @iy) ?_;exact⟨k+1,⟨by omega,hn⟩,by omega,ag0,rfl,rfl⟩
 ·rw[aO e] at hcl;rw[aO (λq=>e (by rw[q]))];generalize a.getD k default=s at *;generalize b.getD k default=t at *;refine wnY (aI @ix @iy) ?_;exact .bool _
theorem Ar(a:List Int)(n:Int)(ha:a.length<=1000000000):pU 108 [aC a,.int .i64 n] (.bool (decide (n∈a))):=by
 refine pO Nb ?_;simp only[Kv,aH];refine wnZ @cC ?_;refine jY (X:=Nat) (λk=>[(0,aC a),(1,.int .i64 n),(5,.int .i64 k)]) (λk=>k<=a.length/\∀i,i<k->a.getD i default≠n) (λk=>a.length-k) 0 ⟨bw _,λi h=>absurd h (by omega)⟩ ag0 ?_;rintro k ⟨h1,h2⟩;by_cases hk:k<a.length
 ·have ix:=ixV hk;by_cases hv:a.getD k default=n
  ·have z:decide (a.getD k default=n)=true:=aL hv;rw[aL (show n∈a by rw[<-hv];exact ay hk)];refine wnZ (zI3 @cC @ix @z) ?_;exact .bool _
  ·have z:decide (a.getD k default=n)=false:=aO hv;refine wnZ (zI3 @cC @ix @z) ?_
   exact ⟨k + 1,⟨by omega,fun i hi=>by
    rcases(by omega:i<k\/i=k) with h|rfl
    ·exact h2 i h
    ·exact hv⟩,by omega,ag0,rfl,rfl⟩
 ·obtain rfl:k=a.length:=by omega
  rw [aO fun hm=>by
   obtain⟨i,hi,e⟩:=jK hm;exact h2 i hi (by simp[List.getD,hi,e])]
  refine wnZ @cC ?_;exact .bool _
theorem HI(a b:List Int)(ha:a.length<=1000000)(hb:b.length<=1000000):pU 109 [aC a,aC b] (aC (bL a b)):=by
 refine pO KR ?_;simp only[Ma,aH];refine wnZ @cC ?_;refine lpI (X:=AV×List Int×Nat×Nat) (λx=>[(0,aC a),(1,aC b),(5,x.1),(6,.int .i64 x.2.2.1),(7,.int .i64 x.2.2.2)]) (λx H nx=>x.2.2.1<=a.length/\x.2.2.2<=b.length/\x.2.1++bL (a.drop x.2.2.1) (b.drop x.2.2.2)=bL a b/\x.2.1.length<=x.2.2.1+x.2.2.2/\Row H 1 x.1 (x.2.1.map (AV.int .i64))/\∀b,bv x.1=some b->b<nx) (λx=>a.length+b.length-(x.2.2.1+x.2.2.2)) (.esl,[],0,0) ⟨bw _,bw _,rfl,bw _,Row.nil,λb h=>(by cases h)⟩ ?_;rintro⟨sv,D,i,k⟩ H nx ⟨g1,g2,g3,g4,g5,g6⟩;dsimp only at g1 g2 g3 g4 g5 g6 |-;by_cases hA:i<a.length/\(k=b.length\/k<b.length/\a.getD i default<b.getD k default)
 ·rw[Gw hA.1 hA.2] at g3;have ix:=ixV hA.1;have zi:decide ((i:Int)<a.length)=true:=aL (by omega);rcases hA.2 with hk|⟨hk,hlt⟩
  ·have zk:decide ((k:Int)=b.length)=true:=aL (by omega);refine wnY (zI4 @cC @ix @zi @zk) ?_;refine eR (g5.same λb hb=>?_) ?_
   ·have:=g6 b hb;rw[ac (by omega)]
   rintro s2 H2 nx2 hr2 i1 i2 i3 i4;refine wnY and_self ?_;refine⟨(s2,D++[a.getD i default],i+1,k),by dsimp only;omega,⟨by dsimp only;omega,by dsimp only;omega,by rw[<-g3,il];rfl,by dsimp only;rw[cA,List.length_singleton];omega,by dsimp only;rw[cl];exact hr2,λb hb=>?_⟩,ag0⟩;rcases i4 b hb with h|h
   ·have:=g6 b h;omega
   ·omega
  ·have zk:decide ((k:Int)=b.length)=false:=aO (by omega);have zk2:decide ((k:Int)<b.length)=true:=aL (by omega);have iy:=ixV hk;have zl:decide (a.getD i default<b.getD k default)=true:=aL hlt;refine wnY (zI7 @cC @ix @iy @zi @zk @zk2 @zl) ?_;refine eR (g5.same λb hb=>?_) ?_
   ·have:=g6 b hb;rw[ac (by omega)]
   rintro s2 H2 nx2 hr2 i1 i2 i3 i4;refine wnY and_self ?_;refine⟨(s2,D++[a.getD i default],i+1,k),by dsimp only;omega,⟨by dsimp only;omega,by dsimp only;omega,by rw[<-g3,il];rfl,by dsimp only;rw[cA,List.length_singleton];omega,by dsimp only;rw[cl];exact hr2,λb hb=>?_⟩,ag0⟩;rcases i4 b hb with h|h
   ·have:=g6 b h;omega
   ·omega
 by_cases hB:k<b.length/\(i=a.length\/i<a.length/\b.getD k default<a.getD i default)
 ·rw[GH hB.1 hB.2] at g3;have iy:=ixV hB.1;have zk:decide ((k:Int)=b.length)=false:=aO (by omega);have zk2:decide ((k:Int)<b.length)=true:=aL (by omega);rcases hB.2 with hi|⟨hi,hlt⟩
  ·have zi:decide ((i:Int)<a.length)=false:=aO (by omega);have zi2:decide ((i:Int)=a.length)=true:=aL (by omega);refine wnY (zI6 @cC @iy @zi @zi2 @zk @zk2) ?_;refine eR (g5.same λb hb=>?_) ?_
   ·have:=g6 b hb;rw[ac (by omega)]
   rintro s2 H2 nx2 hr2 i1 i2 i3 i4;refine wnY and_self ?_;refine⟨(s2,D++[b.getD k default],i,k+1),by dsimp only;omega,⟨by dsimp only;omega,by dsimp only;omega,by rw[<-g3,il];rfl,by dsimp only;rw[cA,List.length_singleton];omega,by dsimp only;rw[cl];exact hr2,λb hb=>?_⟩,ag0⟩;rcases i4 b hb with h|h
   ·have:=g6 b h;omega
   ·omega
  ·have zi:decide ((i:Int)<a.length)=true:=aL (by omega);have zi2:decide ((i:Int)=a.length)=false:=aO (by omega);have ix:=ixV hi;have zl:decide (a.getD i default<b.getD k default)=false:=aO (by omega);have zl2:decide (b.getD k default<a.getD i default)=true:=aL hlt;refine wnY (zI9 @cC @ix @iy @zi @zi2 @zk @zk2 @zl @zl2) ?_;refine eR (g5.same λb hb=>?_) ?_
   ·have:=g6 b hb;rw[ac (by omega)]
   rintro s2 H2 nx2 hr2 i1 i2 i3 i4;refine wnY and_self ?_;refine⟨(s2,D++[b.getD k default],i,k+1),by dsimp only;omega,⟨by dsimp only;omega,by dsimp only;omega,by rw[<-g3,il];rfl,by dsimp only;rw[cA,List.length_singleton];omega,by dsimp only;rw[cl];exact hr2,λb hb=>?_⟩,ag0⟩;rcases i4 b hb with h|h
   ·have:=g6 b h;omega
   ·omega
 by_cases hC:i<a.length/\k<b.length
 ·have he:a.getD i default=b.getD k default:=by
    have h1:¬a.getD i default<b.getD k default:=λh=>hA ⟨hC.1,.inr ⟨hC.2,h⟩⟩;have h2:¬b.getD k default<a.getD i default:=λh=>hB ⟨hC.2,.inr ⟨hC.1,h⟩⟩;omega
  rw[Hs hC.1 hC.2 he] at g3;have ix:=ixV hC.1;have iy:=ixV hC.2;have zi:decide ((i:Int)<a.length)=true:=aL (by omega);have zi2:decide ((i:Int)=a.length)=false:=aO (by omega);have zk:decide ((k:Int)=b.length)=false:=aO (by omega);have zk2:decide ((k:Int)<b.length)=true:=aL (by omega);have zl:decide (a.getD i default<b.getD k default)=false:=aO (by omega);have zl2:decide (b.getD k default<a.getD i default)=false:=aO (by omega);refine wnY (zI9 @cC @ix @iy @zi @zi2 @zk @zk2 @zl @zl2) ?_;exact⟨(sv,D,i+1,k+1),by dsimp only;omega,⟨by dsimp only;omega,by dsimp only;omega,g3,by dsimp only;omega,g5,g6⟩,ag0⟩
 have hi:i=a.length:=by
  rcases pW i a.length with h|h
  ·exfalso;rcases pW k b.length with h2|h2
   ·exact hC ⟨h,h2⟩
   ·exact hA ⟨h,.inl (by omega)⟩
  ·omega
 have hk:k=b.length:=by
  rcases pW k b.length with h|h
  ·exact absurd ⟨h,.inl hi⟩ hB
  ·omega
 have zi:decide ((i:Int)<a.length)=false:=aO (by omega);have zk:decide ((k:Int)<b.length)=false:=aO (by omega);rw[hi,hk,List.drop_length,List.drop_length,ia,eH] at g3;rw[<-g3];refine wnY (zI3 @cC @zi @zk) ?_;exact g5.snapI
theorem FA(rows:List (List Int))(n c:Nat)(hl:rows.length<=100000)(hr:∀r∈rows,r.length<=100000)(hn:n<=rows.length):pU 148 [bm rows,.int .i64 n,.int .i64 c] (.int .i64 (Gp rows n c)):=by
 refine pO La ?_;simp only[LN,aH];refine wnZ @b5 ?_;refine jY (X:=Nat) (λk=>[(0,bm rows),(2,.int .i64 c),(7,.int .i64 k)]) (λk=>n<=k/\k<=rows.length/\∀i,n<=i->i<k->(c:Int)∉rows.getD i default) (λk=>rows.length-k) n ⟨aR _,hn,λi h1 h2=>absurd h1 (by omega)⟩ ag0 ?_;rintro k ⟨h0,h1,h2⟩;by_cases hk:k<rows.length
 ·have ix:=zN hk;have hh:=Ar (rows.getD k default) c (by have:=hr _ (ay hk);omega);by_cases hv:(c:Int)∈rows.getD k default
  ·rw[aL hv] at hh;unfold Gp;rw[GX h0 hk h2 hv];generalize rows.getD k default=r at *;refine wnZ (aI @b5 @ix) ?_;exact .int _ _
  ·rw[aO hv] at hh
   have h3:∀i,n<=i->i<k+1->(c:Int)∉rows.getD i default:=λi hi hi2=>by
    rcases(by omega:i<k\/i=k) with h|rfl
    ·exact h2 i hi h
    ·exact hv
   generalize rows.getD k default=r at *;refine wnZ (aI @b5 @ix) ?_;exact⟨k+1,⟨by omega,by omega,h3⟩,by omega,ag0,rfl,rfl⟩
 ·obtain rfl:k=rows.length:=by omega
  unfold Gp;rw[Fx λi hi hi2=>h2 i hi hi2];refine wnZ @b5 ?_;exact .int _ _
theorem Ef(c:Nat)(R:List (List Int))(b y:List Int)(hm:fK c R)(hbr:∀v∈b,0<=v/\v<(R.length:Int))(hba:bq b)(hyr:∀v∈y,0<=v/\v<(R.length:Int))(hya:bq y):pU 71 [dA c R,aC b,aC y] (.int .i64 (JD R b y)):=by
 refine pO Ns ?_;simp only[b71,aH];have hmR:=eT hm;have hmv:∀r∈R,∀z∈r,0<=z/\z<(c:Int):=λr hr z hz=>(hm.2.2.2 r hr).1 z hz;have hbl:=fE hba hbr;have hyl:=fE hya hyr
 have hvec:∀ {x:List Int},x.length ≤ R.length→(∀ v ∈ x,0 ≤ v∧v < (R.length:Int))→bq x→pU 114 [aC x,.int .i64 R.length] (.int .i64 0):=fun {x} h1 h2 h3=>pK x (R.length:Int) (by have:=hm.2.2.1; omega) h2 (fun i hi=>by
  have:=k9.1 h3 i (i+1) (by omega) hi (by omega);simpa[List.getD,show i<x.length by omega,hi] using this)
 have h1:=lF c R hm;have h2:=hvec hbl hbr hba;have h3:=hvec hyl hyr hya;have z0:decide ((0:Int)≠0)=false:=rfl;have hd:Dat (.agg [.int .i64 c,bm R]):=c8 c R;have hmc:=hm.2.1;have hrl:=hm.2.2.1;have hod:=Ez y b (by omega) (by omega);rw[cH];refine wnY (zI3 @z0 @b5 @cC) ?_;refine tC (X:=Nat) (λk=>[(1,aC b),(2,aC y),(3,.ptr 0 2 0),(10,aC (o9 R (y.take k))),(34,aC y),(35,.int .i64 y.length),(36,.int .i64 k)]) (λk H nx=>k<=y.length/\H 0=some [.int .i64 c,bm R]) (λk=>y.length-k) 0 ⟨_,_,Fz.none,⟨bw _,rfl⟩,⟨.inl rfl,.inl rfl,.inl rfl,.inr (.eslsl 1),.inl rfl,.inl rfl,.inl rfl,trivial⟩⟩ ?_;rintro k H nx ⟨g1,g2⟩;obtain⟨a1,a2⟩:=B3 hmR hmv hyr k g1;have al:=fE a1 a2;by_cases hk:k<y.length
 ·have ix:=ixV hk;have hi:=hyr _ (ay hk);have hts:=bI hk;have hsn:o9 R (y.take (k+1))=bL (o9 R (y.take k)) (R.getD (y.getD k default).toNat default):=by rw[hts,vF]
  have iy:eu 1 (bm R) (.int .i64 (y.getD k default))=some (.iptr [aC (R.getD (y.getD k default).toNat default)] 0):=by
   rw[oh,if_pos ⟨hi.1,hi.2⟩]
  have hrow:R.getD (y.getD k default).toNat default∈R:=ay (by omega);have hrl2:=(hm.2.2.2 _ hrow).2.1;have hsu:=vP (o9 R (y.take k)) (R.getD (y.getD k default).toNat default) (by omega) (by omega);rw[<-hsn] at hsu;generalize R.getD (y.getD k default).toNat default=r at *;generalize y.getD k default=i at *;generalize o9 R (y.take k)=s1 at *;refine wnY (zI3 @g2 @ix @iy) ?_;exact⟨k+1,by omega,_,_,Fz.none,⟨by omega,g2⟩,im ag0⟩
 obtain rfl:k=y.length:=by omega
 rw[List.take_length] at *;unfold JD;by_cases hs:o9 R y=[]
 ·rw[if_pos hs];have z:decide ((0:Int)<(o9 R y).length)=false:=by rw[hs];rfl
  cases ho:kf y b
  ·rw[ho] at hod;refine wnY (aI @z @cC) ?_;exact .int _ _
  ·rw[ho] at hod;refine wnY (aI @z @cC) ?_;exact .int _ _
 ·rw[if_neg hs];have z:decide ((0:Int)<(o9 R y).length)=true:=aL (by have:=iT.2 hs;omega);refine wnY (aI @z @cC) ?_;exact .int _ _
theorem C0(s:AV)(l:List (List Int))(hl:l.length<=1000000)(H:Hp)(nx:Nat)(hr:jN H s l)(hb:∀b,bv s=some b->b<nx):Abs.Fn Tryz.prog 135 [s] H nx λr H' nx'=>Row H' 1 r (l.map aC)/\nx<=nx'/\(∀x,x<nx->H' x=H x)/\∀b,bv r=some b->nx<=b/\b<nx':=by
 refine fO MJ ?_;simp only[K7,aH];have hsrc:=hr.src (H':=H) λ_ _=>rfl;have hn:=hr.len;have fin:l.length=0->l.map aC=[]:=λh=>by rw[fA.1 h];rfl
 repeat' (first|refine zW ?_|apply a_n|refine zO ?_|refine vY ?_|fail)
 refine wz (k:=l.length) (by((try simp only[bZ,ZA,reduceEqDiff,↓reduceIte,reduceAdd,reduceLeDiff]);(try with_reducible rfl));exact hn) (λh=>?_) (λh=>?_) (λh=>?_)
 ·repeat' (first|refine zW ?_|apply a_n|refine zO ?_|refine vY ?_|refine b0Y ?_|refine cFY ?_|fail)
  refine iR rfl ev0 ev0 hsrc rW (by omega) (by omega) ?_
  repeat' (first|apply a_n|refine zO ?_|refine vY ?_|refine bS rfl ?_|refine r1Y ?_|fail)
  refine⟨by simpa only[Nat.mul_one] using Row.box (sz:=1) nx l.length (l.map aC) (ah (H:=H)) (by rw[bi,Nat.mul_one]),by omega,λx hx=>ac (by omega),λb hb=>by cases hb;omega⟩
 ·repeat' (first|refine zW ?_|apply a_n|apply a_r|refine zO ?_|refine vY ?_|refine cTY ?_|refine bS rfl ?_|refine r1Y ?_|fail)
  refine⟨by rw[fin h];exact Row.nil,aR _,λx hx=>rfl,λb hb=>(by cases hb)⟩
 ·repeat' (first|refine zW ?_|apply a_n|refine zO ?_|refine vY ?_|refine b0Y ?_|refine cFY ?_|fail)
  refine iR rfl ev0 ev0 hsrc rW (by omega) (by omega) ?_
  repeat' (first|apply a_n|refine zO ?_|refine vY ?_|refine bS rfl ?_|refine r1Y ?_|fail)
  refine⟨by simpa only[Nat.mul_one] using Row.box (sz:=1) nx l.length (l.map aC) (ah (H:=H)) (by rw[bi,Nat.mul_one]),by omega,λx hx=>ac (by omega),λb hb=>by cases hb;omega⟩
theorem Ic(c:Nat)(E:List (List Int))(rk:Nat)(v:List Int)(s:AV)(b:Nat)(H:Hp)(nx:Nat)(hm:fK c (E++[v]))(hb:H b=some [.int .i64 c,s,.int .i64 rk])(hbn:b<nx)(hr:jN H s E)(hs:∀x,bv s=some x->x<nx):
    Abs.Fn Tryz.prog 82 [.ptr b 3 0,aC v] H nx λr H' nx'=>nx<=nx'/\(∀x,x<nx->x≠b->H' x=H x)/\((c7 (E++[v]) c).length=rk/\r=.tup [.bool false,.int .i64 0]/\H' b=H b\/(c7 (E++[v]) c).length≠rk/\r=.tup [.bool true,.int .i64 0]/\∃rv,H' b=some [.int .i64 c,rv,.int .i64 (c7 (E++[v]) c).length]/\jN H' rv (E++[v])/\∀x,bv rv=some x->nx<=x/\x<nx'):=by
 refine fO N2 ?_;simp only[b82,aH];have hrank:=A4 c (E++[v]) hm;have hel:E.length<=4096:=by have:=hm.2.2.1;rw[cA] at this;omega
 have hcl:=fun H' nx' (h1:∀ x,x < nx→H' x=H x) (h2:nx ≤ nx')=>C0 s E (by omega) H' nx' (by
  rcases hr with h|h
  ·exact .inl h
  ·exact .inr (h.same λx hx=>h1 x (hs x hx))) (λx hx=>by have:=hs x hx;omega)
 refine dJ ?_
 repeat' (first|apply a_n|refine zO ?_|refine vY ?_|fail)
 refine cr (λT H' nx'=>∃nb rv,T 0=.ptr b 3 0/\T 1=aC v/\T 6=.ptr nb 2 0/\nx<=nb/\nb<nx'/\H' nb=some [.int .i64 c,rv]/\Row H' 1 rv ((E++[v]).map aC)/\(∀x,bv rv=some x->nx<=x/\x<nx'/\x≠nb)/\∀x,x<nx->H' x=H x) ?_ ?_
 ·refine JE (only b [.int .i64 c,s,.int .i64 rk]) (oA hb) ?_;have hS:only b [.int .i64 c,s,.int .i64 rk] b=some [.int .i64 c,s,.int .i64 rk]:=ji;have hsub:∀H':Hp,H' b=some [.int .i64 c,s,.int .i64 rk]->Sub (only b [.int .i64 c,s,.int .i64 rk]) H':=λH' h=>oA h;generalize only b [AV.int .i64 c,s,.int .i64 rk]=S at *;simp only[fX,List.map_nil,List.getD_cons_succ,List.getD_cons_zero];have zz:=aI @NK @hS;repeat' (first|apply a_n|refine zO ?_|refine nvY ?_|apply uW|refine HZ ?_|fail)
  refine H7 (pv:=[(0,1,aC v)]) (cs:=[aC v]) ev0 rfl (by decide) rfl rfl (uW ?_);have hsv:∀H':Hp,gg 1 H' (.sl 1 [aC v])=some (1,[aC v]):=λ_=>rfl;have ones_encVs:AV.ones [aC v]=true:=rfl;have happ:E.map aC++[aC v]=(E++[v]).map aC:=by rw[cl];rfl
  refine Km ?_ ?_
  ·refine dW ?_
   repeat' (first|apply a_n|refine zO ?_|refine alY ?_|fail)
   refine⟨hsub _ (by rw[ac (by omega)];exact hb),?_⟩;refine dW ?_;refine bc ev0 ev0 (hcl _ _ (λx hx=>ac (by omega)) (by omega)) ?_;rintro r H1 nx1 ⟨k1,k2,k3,k4⟩;have q0:H1 nx=some [AV.int .i64 0,.esl]:=(k3 nx (by omega)).trans ah;have q1:∀x,x<nx->H1 x=H x:=λx hx=>(k3 x (by omega)).trans (ac (by omega));refine jT ⟨hsub _ ((q1 b hbn).trans hb),?_⟩;refine dW ?_;refine gI rfl ev0 k1 ev0 (hsv _) ones_encVs rfl jq (by rw[bi];omega) (by rw[bi];omega) ?_;rintro s2 H2 nx2 hr2 i1 i2 i3 i4;rw[happ] at hr2;have g:∀x,x<=nx->H2 x=H1 x:=λx hx=>i3 x (by omega) λh=>by have:=(k4 x h).1;omega
   refine jT ⟨hsub _ ((g b (by omega)).trans ((q1 b hbn).trans hb)),?_⟩;have q2:=(g nx (aR _)).trans q0;have hge:∀x,bv s2=some x->nx+1<=x/\x<nx2:=λx hx=>(i4 x hx).elim (λh=>⟨(k4 x h).1,by have:=(k4 x h).2;omega⟩) λh=>⟨by omega,by omega⟩
   clear zz;have zz:=aI @q2 (aI (tU hr2) (aI hr2.one.1 hr2.one.2));repeat' (first|apply a_n|refine zO ?_|refine nvY ?_|apply jr|refine stY ?_|fail)
   refine⟨nx,s2,rfl,rfl,rfl,by omega,by omega,ah,hr2.same (λx hx=>ac (by have:=(hge x hx).1;omega)),λx hx=>⟨by have:=(hge x hx).1;omega,(hge x hx).2,by have:=(hge x hx).1;omega⟩,λx hx=>?_⟩;rw[ac (by omega)];exact(g x (by omega)).trans (q1 x hx)
  ·refine dW ?_;refine bc ev0 ev0 (hcl _ _ (λx hx=>rfl) (by omega)) ?_;rintro r H1 nx1 ⟨k1,k2,k3,k4⟩;refine jT ⟨hsub _ ((k3 b hbn).trans hb),uW ?_⟩;refine Km ?_ ?_
   ·refine dW ?_
    repeat' (first|apply a_n|refine zO ?_|refine alY ?_|fail)
    refine⟨hsub _ (by rw[ac (by omega)];exact(k3 b hbn).trans hb),?_⟩;refine dW ?_;refine gI rfl ev0 (k1.same λx hx=>ac (by have:=(k4 x hx).2;omega)) ev0 (hsv _) ones_encVs rfl jq (by rw[bi];omega) (by rw[bi];omega) ?_;rintro s2 H2 nx2 hr2 i1 i2 i3 i4;rw[happ] at hr2;have g:∀x,x<nx->H2 x=H1 x:=λx hx=>(i3 x (by omega) λh=>by have:=(k4 x h).1;omega).trans (ac (by omega));have q2:=(i3 nx1 (by omega) λh=>by have:=(k4 nx1 h).2;omega).trans ah;refine jT ⟨hsub _ ((g b (by omega)).trans ((k3 b hbn).trans hb)),?_⟩;have hge:∀x,bv s2=some x->nx<=x/\x<nx2/\x≠nx1:=λx hx=>(i4 x hx).elim (λh=>⟨(k4 x h).1,by have:=(k4 x h).2;omega,by have:=(k4 x h).2;omega⟩) λh=>⟨by omega,by omega,by omega⟩
    clear zz;have zz:=aI @q2 (aI (tU hr2) (aI hr2.one.1 hr2.one.2));repeat' (first|apply a_n|refine zO ?_|refine nvY ?_|apply jr|refine stY ?_|fail)
    refine⟨nx1,s2,rfl,rfl,rfl,by omega,by omega,ah,hr2.same (λx hx=>ac (by have:=(hge x hx).2.2;omega)),λx hx=>⟨(hge x hx).1,(hge x hx).2.1,by have:=(hge x hx).2.2;omega⟩,λx hx=>?_⟩;rw[ac (by omega)];exact(g x (by omega)).trans (k3 x hx)
   ·refine dW ?_;refine gI rfl ev0 k1 ev0 (hsv _) ones_encVs rfl jq (by rw[bi];omega) (by rw[bi];omega) ?_;rintro s2 H2 nx2 hr2 i1 i2 i3 i4;rw[happ] at hr2;have g:∀x,x<nx->H2 x=H1 x:=λx hx=>i3 x (by omega) λh=>by have:=(k4 x h).1;omega
    refine jT ⟨hsub _ ((g b (by omega)).trans ((k3 b hbn).trans hb)),uW ?_⟩;have hge:∀x,bv s2=some x->nx<=x/\x<nx2:=λx hx=>(i4 x hx).elim (λh=>⟨(k4 x h).1,by have:=(k4 x h).2;omega⟩) λh=>⟨by omega,by omega⟩
    clear zz;have zz:=(tU hr2);repeat' (first|apply a_n|refine zO ?_|refine nvY ?_|apply uW|refine HZ ?_|fail)
    refine Kd (dW ?_)
    repeat' (first|apply a_n|refine zO ?_|refine alY ?_|fail)
    refine⟨hsub _ (by rw[ac (by omega)];exact(g b hbn).trans ((k3 b hbn).trans hb)),?_⟩;clear zz;have zz:=aI hr2.one.1 hr2.one.2;repeat' (first|apply a_n|refine zO ?_|apply jr|refine stY ?_|fail)
    refine⟨nx2,s2,rfl,rfl,rfl,by omega,by omega,ah,hr2.same (λx hx=>(ac (by have:=(hge x hx).2;omega)).trans (ac (by have:=(hge x hx).2;omega))),λx hx=>⟨(hge x hx).1,by have:=(hge x hx).2;omega,by have:=(hge x hx).2;omega⟩,λx hx=>?_⟩;rw[ac (by omega),ac (by omega)];exact(g x (by omega)).trans (k3 x hx)
 rintro T H1 nx1 ⟨nb,wv,t0,t1,t6,h1,h2,h3,h4,h5,h6⟩;have g0:H1 b=some [.int .i64 c,s,.int .i64 rk]:=(h6 b hbn).trans hb;generalize hEv:E++[v]=E' at *;have zz:=aI @t0 (aI @t1 (aI @t6 @h3));repeat' (first|refine zW ?_|apply a_n|refine zO ?_|refine vY ?_|fail)
 refine ef (have zz:=aI @t0 (aI @t1 (aI @t6 @h3));evY) (have zz:=aI @t0 (aI @t1 (aI @t6 @h3));evY) hrank (aF (ag (mV (ag (Dat.snap Dat.int) (ag (lA h4) aj))) aj) rfl) ?_;have bne:∀x,bv wv=some x->x≠b:=λx hx=>by have:=(h5 x hx).1;omega
 by_cases heq:(c7 E' c).length=rk
 ·have hi:decide ((((c7 E' c).length:Nat):Int)=(rk:Int))=true:=aL (by rw[heq]);clear zz;have zz:=aI @t0 (aI @t1 (aI @t6 (aI @h3 (aI @g0 (aI @NK @hi)))));repeat' (first|refine zW ?_|apply a_n|apply a_r|refine zO ?_|refine vY ?_|refine gTY ?_|(refine zGY ?_ ?_<;>(intro _hg;try (exfalso;omega)))|refine cTY ?_|refine bS rfl ?_|refine r2Y ?_|fail)
  exact⟨by omega,λx hx _=>h6 x hx,.inl ⟨heq,rfl,h6 b hbn⟩⟩
 ·have hi:decide ((((c7 E' c).length:Nat):Int)=(rk:Int))=false:=aO (λh=>heq (by exact_mod_cast h));clear zz;have zz:=aI @t0 (aI @t1 (aI @t6 (aI @h3 (aI @g0 (aI @NK (aI @hi (aI h4.one.1 h4.one.2)))))));repeat' (first|refine zW ?_|apply a_n|refine zO ?_|refine vY ?_|refine stY ?_|refine gTY ?_|(refine zGY ?_ ?_<;>(intro _hg;try (exfalso;omega)))|refine cFY ?_|refine bS rfl ?_|refine r2Y ?_|fail)
  have e:bD [AV.int .i64 c,wv,.int .i64 rk] 2 [.int .i64 ((c7 E' c).length:Int)]=[.int .i64 c,wv,.int .i64 ((c7 E' c).length:Int)]:=rfl;refine⟨by omega,λx hx hxb=>?_,.inr ⟨heq,rfl,wv,?_,.inr (h4.same λx hx=>?_),λx hx=>⟨(h5 x hx).1,(h5 x hx).2.1⟩⟩⟩
  ·rw[ac hxb,ac hxb];exact h6 x hx
  ·rw[ah,e]
  ·rw[ac (bne x hx),ac (bne x hx)]
theorem A3(c:Nat)(hmc:c<=4096)(G:Hp)(n0:Nat)(s:AV)(hsR:jN G s [])(hsb:∀b,bv s=some b->b<n0):Abs.Fn Tryz.prog 106 [.agg [.int .i64 c,s]] G n0 λr H' nx'=>∃s',r=.agg [.int .i64 c,s']/\jN H' s' ([])/\n0<=nx'/\(∀x,x<n0->H' x=G x)/\∀b,bv s'=some b->n0<=b/\b<nx':=by
 refine fO Im ?_;simp only[JG,aH];obtain⟨o1,o2⟩:=hsR.one;refine wnY (zI3 @b5 @o1 @o2) ?_;refine iR rfl ev0 ev0 (hsR.src λb hb=>by have:=hsb b hb;rw[ac (by omega),ac (by omega)]) rW (by decide) (by decide) ?_;refine wnY @b5 ?_;refine tC (X:=Nat) (λk=>[(1,.ptr n0 2 0),(2,.ptr (n0+1) 2 0),(3,bm []),(4,.int .i64 0),(5,.int .i64 k)]) (λk H nx=>k<=c/\n0+3<=nx/\H n0=some [.int .i64 c,s]/\H (n0+1)=some [.int .i64 0,.esl]/\∀x,x<n0->H x=G x) (λk=>c-k) 0 ⟨_,_,Fz.one (b:=n0+2) (cs:=[]) (by rw[ah];rfl),⟨bw _,aR _,by rw[cq (by omega),ac (by omega),ac (by omega),ah],by rw[cq (by omega),ac (by omega),ah],λx hx=>by rw[cq (by omega),ac (by omega),ac (by omega),ac (by omega)]⟩,.inl rfl,.inl rfl,.inr (CJ (l:=[]) ji rfl rfl),.inl rfl,.inl rfl,trivial⟩ ?_;rintro k H nx ⟨h1,h2,g0,g1,gl⟩;by_cases hk:k<c
 ·have zk:decide ((k:Int)<c)=true:=aL (by omega);have hpv:=FA [] 0 k (by decide) (λr hr=>(by cases hr)) (by decide);rw[show Gp [] 0 k=-1 from rfl] at hpv;have z0:decide ((-1:Int)<0)=true:=rfl;refine wnY (zI3 @zk @g0 @z0) ?_;exact⟨k+1,by omega,bP,_,Fz.none,⟨by omega,h2,g0,g1,gl⟩,im ag0⟩
 ·obtain rfl:k=c:=by omega
  have zk:decide ((k:Int)<k)=false:=aO (by omega);have hsl:jI 1 (bm []) none (some (.int .i64 0)) none=some (bm []):=rfl;refine wnY (zI4 @g0 @g1 @zk @hsl) ?_;refine iR rfl ev0 ev0 (fV (l:=[])) gJ (by decide) (by decide) ?_;refine wnY @g1 ?_;refine⟨_,rfl,.inr ?_,by omega,λx hx=>by(repeat rw[ac (by omega)]);exact gl x hx,λb hb=>?_⟩
  ·exact Row.box (nx+1) 0 [] (by(repeat rw[ac (by omega)]);rw[ah];rfl) rfl
  ·cases hb;omega
theorem sa(c:Nat)(R:List (List Int))(hm:fK c R)(G:Hp)(n0:Nat)(s:AV)(hsR:jN G s R)(hsb:∀b,bv s=some b->b<n0):Abs.Fn Tryz.prog 106 [.agg [.int .i64 c,s]] G n0 λr H' nx'=>∃s',r=.agg [.int .i64 c,s']/\jN H' s' (xZ R c)/\n0<=nx'/\(∀x,x<n0->H' x=G x)/\∀b,bv s'=some b->n0<=b/\b<nx':=by
 have hmc:=hm.2.1;have hml:=hm.2.2.1;by_cases hR0:R=[]
 ·subst hR0;have e:xZ [] c=[]:=by unfold xZ;rw[B1];rfl
  rw[e];exact A3 c (by omega) G n0 s hsR hsb
 have hRn:R.length≠0:=λe=>hR0 (fA.1 e);refine fO Im ?_;simp only[JG,aH];have hR:RL c R:=λr hr=>⟨eT hm r hr,(hm.2.2.2 r hr).1⟩
 have hst:=λk=>EA hR (k:=k);obtain⟨o1,o2⟩:=hsR.one;refine wnY (zI3 @b5 @o1 @o2) ?_;refine iR rfl ev0 ev0 (hsR.src λb hb=>by have:=hsb b hb;rw[ac (by omega),ac (by omega)]) rW (by omega) (by omega) ?_;rw[Nat.mul_one];refine wnY @b5 ?_;refine lpI (X:=Nat) (λk=>[(1,.ptr n0 2 0),(2,.ptr (n0+1) 2 0),(3,.msl (n0+2) R.length 1 0 R.length),(4,.int .i64 (stR R k).2),(5,.int .i64 k)]) (λk H nx=>k<=c/\n0+3<=nx/\H n0=some [.int .i64 c,s]/\H (n0+1)=some [.int .i64 0,.esl]/\H (n0+2)=some ((stR R k).1.map aC)/\∀x,x<n0->H x=G x) (λk=>c-k) 0 ⟨bw _,aR _,by rw[ac (by omega),ac (by omega),ah],by rw[ac (by omega),ah],ah,λx hx=>by rw[ac (by omega),ac (by omega),ac (by omega)]⟩ ?_;rintro k H nx ⟨h1,h2,g0,g1,g2,gl⟩;obtain⟨r1,r2,r3⟩:=hst k;by_cases hk:k<c
 rotate_left
 ·obtain rfl:k=c:=by omega
  have hrr:xZ R k=(stR R k).1.take (stR R k).2:=rfl;generalize (stR R k).1=rows at *;generalize (stR R k).2=n at *;rw[hrr];have zk:decide ((k:Int)<k)=false:=aO (by omega)
  have hsl:jI 1 (.msl (n0+2) R.length 1 0 R.length) none (some (.int .i64 n)) none=some (.msl (n0+2) R.length 1 0 n):=by
   simp[jI,bJ];exact λq=>absurd (q r3) hR0
  refine wnY (zI5 @g0 @g1 @g2 @zk @hsl) ?_;refine iR rfl ev0 ev0 (ft (cs:=rows.map aC) ?_ (by rw[bi];omega) (by omega)) (by rw[List.drop_zero,<-List.map_take];exact gJ) (by omega) (by omega) ?_
  ·rw[ac (by omega),ac (by omega)];exact g2
  rw[List.drop_zero,<-List.map_take,Nat.mul_one];refine wnY @g1 ?_;refine⟨_,rfl,.inr ?_,by omega,λx hx=>by(repeat rw[ac (by omega)]);exact gl x hx,λb hb=>?_⟩
  ·simpa only[Nat.mul_one] using Row.box (sz:=1) (nx+1) n ((rows.take n).map aC) (by(repeat rw[ac (by omega)]);rw[ah]) (by rw[bi,eM];omega)
  ·cases hb;omega
 have zk:decide ((k:Int)<c)=true:=aL (by omega);have hpv:=FA (stR R k).1 (stR R k).2 k (by omega) (λr hr=>by have:=r1.len r hr;omega) (by omega)
 have hss:stR R (k+1)=match ul (stR R k).1 (stR R k).2 k with
  |none=>stR R k
  |some p=>(elL (swL (stR R k).1 (stR R k).2 p) (stR R k).2 k,(stR R k).2+1):=rfl
 unfold Gp at hpv;have hps:=λp=>xU (rows:=(stR R k).1) (n:=(stR R k).2) (c:=k) (k:=p);generalize hsk:stR R k=st at *;obtain⟨rows,n⟩:=st;dsimp only at *;have hrow:Row H 1 (.msl (n0+2) R.length 1 0 R.length) (rows.map aC):=by simpa only[Nat.mul_one] using Row.box (sz:=1) (n0+2) R.length (rows.map aC) g2 (by rw[bi,Nat.mul_one,r2])
 refine wnY (aI @zk @g0) ?_;refine ef ev0 ev0 hpv (aF (ag (lA hrow) (ag (.int _ _) (ag (.int _ _) aj))) rfl) ?_;cases hp:ul rows n k with
 |none=>
  rw[hp] at hss;dsimp only at hss;have z0:decide ((-1:Int)<0)=true:=rfl;refine wnY @z0 ?_;exact⟨k+1,by omega,⟨by omega,h2,g0,g1,by rw[hss];exact g2,gl⟩,by rw[hss];simp (disch:=omega) only[agr,ZG,reduceEqDiff,↓reduceIte]⟩
 |some p=>
  rw[hp] at hss;dsimp only at hss;obtain⟨p1,p2⟩:=hps p hp;have z0:decide ((p:Int)<0)=false:=aO (by omega);have rl:(rows.map aC).length=R.length:=by rw[bi,r2]
  refine wnY (zI4 @z0 @g2 @rl @r2) ?_;rw[AI (by omega)];have rl2:(rows.set n (rows.getD p default)).length=R.length:=by rw[List.length_set,r2]
  refine wnY @rl2 ?_;rw[AI (by rw[List.length_set];omega),JT (by omega) p2];have hSl:=rR (rows:=rows) (n:=n) (k:=p);have hSr:=r1.swL (n:=n) (k:=p) (by omega) p2;generalize swL rows n p=S at *;clear hrow g2 rl rl2 hpv;refine bN (X:=Nat) (λi=>[(1,.ptr n0 2 0),(2,.ptr (n0+1) 2 0),(3,.msl (n0+2) R.length 1 0 R.length),(4,.int .i64 n),(5,.int .i64 k),(7,.int .i64 i)]) (λi H' nx'=>i<=R.length/\n0+3<=nx'/\H' n0=some [.int .i64 c,s]/\H' (n0+1)=some [.int .i64 0,.esl]/\H' (n0+2)=some ((elP S n k i).map aC)/\∀x,x<n0->H' x=G x) (λi=>R.length-i) 0 ⟨bw _,h2,by rw[ac (by omega),ac (by omega)];exact g0,by rw[ac (by omega),ac (by omega)];exact g1,by rw[ah,Mo],λx hx=>by rw[ac (by omega),ac (by omega)];exact gl x hx⟩ ag0 ?_;rintro i H' nx' ⟨i1,i2,j0,j1,j2,jl⟩;have hPl:(elP S n k i).length=R.length:=by rw[jc];omega
  have hPr:=hSr.elP (n:=n) (k:=k) (i:=i) (by omega);have rl3:((elP S n k i).map aC).length=R.length:=by rw[bi,hPl]
  by_cases hi:i<R.length
  rotate_left
  ·obtain rfl:i=R.length:=by omega
   have zi:decide ((R.length:Int)<R.length)=false:=aO (by omega);refine wnY @zi ?_;refine⟨k+1,by omega,⟨by omega,i2,j0,j1,?_,jl⟩,by rw[hss];simp (disch:=omega) only[agr,ZG,reduceEqDiff,↓reduceIte]⟩;rw[hss,j2,show R.length=S.length by omega,Bs]
  have hPi:(elP S n k i).getD i default=S.getD i default:=by rw[kO (by omega),if_neg (by omega)]
  have hnn:elF S n k n=S.getD n default:=by unfold elF;rw[if_neg (λq=>q.1 rfl)]
  have hPn:(elP S n k i).getD n default=S.getD n default:=by rw[kO (by omega),hnn];split<;>rfl
  have hPs:=Hm (rows:=S) (n:=n) (c:=k) (i:=i);have hPe:=λe=>F3 (rows:=S) (n:=n) (c:=k) (i:=i) (by omega) e;have hFi:elF S n k i=if i≠n/\(k:Int)∈S.getD i default then bL (S.getD i default) (S.getD n default) else S.getD i default:=rfl
  have hli:=hSr.len _ (ay (show i<S.length by omega));have hln:=hSr.len _ (ay (show n<S.length by omega));have hh:=Ar (S.getD i default) (k:Int) (by omega);have hpl:=HI (S.getD i default) (S.getD n default) (by omega) (by omega);have zi:decide ((i:Int)<R.length)=true:=aL (by omega);generalize hP2:elP S n k (i+1)=P2 at *;generalize hP1:elP S n k i=P at *;generalize S.getD i default=x at *;generalize S.getD n default=y at *;by_cases hin:i=n
  ·have zn:decide ((i:Int)≠n)=false:=aO (by omega);rw[if_neg (λq=>q.1 hin)] at hFi;refine wnY (zI5 @zi @zn @j2 @rl3 @hPl) ?_;exact⟨i+1,by omega,⟨by omega,i2,j0,j1,by rw[hP2,hPe hFi];exact j2,jl⟩,ag0⟩
  have zn:decide ((i:Int)≠n)=true:=aL (by omega);by_cases hx:(k:Int)∈x
  ·rw[aL hx] at hh;rw[if_pos ⟨hin,hx⟩] at hFi;rw[<-hFi] at hpl;refine wkY (zI7 @zi @zn @j2 @rl3 @hPl @hPi @hPn) ?_;rw[AI (by omega),hPs]
   skip
   exact⟨i+1,by omega,⟨by omega,i2,by rw[ac (by omega)];exact j0,by rw[ac (by omega)];exact j1,by rw[hP2];exact ah,λx hx=>by rw[ac (by omega)];exact jl x hx⟩,ag0⟩
  ·rw[aO hx] at hh;rw[if_neg (λq=>hx q.2)] at hFi;refine wnY (zI6 @zi @zn @j2 @rl3 @hPl @hPi) ?_;exact⟨i+1,by omega,⟨by omega,i2,j0,j1,by rw[hP2,hPe hFi];exact j2,jl⟩,ag0⟩
section
variable{α:Type}[Inhabited α]{f:α->AV}{K:α->α->Int}{G:α->Prop}
theorem L6(hc:CmpO Tryz.prog f K G){L:List α}{H:Hp}{b nx n a e:Nat}(hH:H b=some (L.map f))(hn:L.length=n)(hG:∀x∈L,G x)(hae:a<=e)(hen:e<=n)(hn2:n<=1000000000):
    Abs.Fn Tryz.prog 189 [.msl b n 1 0 n,.int .i64 a,.int .i64 e] H nx λr H' nx'=>nx'=nx/\∃L',H'=ar H b (L'.map f)/\PermR a e L L'/\bu K a e L':=by
 refine fO Na ?_;simp only[Lq,aH];refine wnZ and_self ?_;refine bN (X:=Nat×List α) (λx=>[(0,.msl b n 1 0 n),(1,.int .i64 a),(2,.int .i64 e),(6,.int .i64 (x.1:Nat))]) (λx H' nx'=>a+1<=x.1/\(x.1<=e\/x.1=a+1)/\H'=ar H b (x.2.map f)/\nx'=nx/\PermR a e L x.2/\bu K a x.1 x.2) (λx=>e+1-x.1) (a+1,L) ⟨aR _,.inr rfl,lD hH,rfl,.refl,bu.one (aR _)⟩ ag0 ?_;rintro⟨i,M0⟩ H' nx' ⟨h1,h2,rfl,rfl,hp0,hs0⟩;dsimp only at *;have hl0:M0.length=n:=by rw[hp0.len,hn]
 by_cases hi:i<e
 rotate_left
 ·refine wnZ and_self ?_;exact⟨rfl,M0,rfl,hp0,hs0.mono (aR _) (by omega)⟩
 refine wnZ and_self ?_;refine bN (X:=Nat×List α) (λx=>[(0,.msl b n 1 0 n),(1,.int .i64 a),(2,.int .i64 e),(6,.int .i64 (i:Nat)),(7,.int .i64 (x.1:Nat))]) (λx H' nxx=>a<=x.1/\x.1<=i/\H'=ar H b (x.2.map f)/\nxx=nx'/\PermR a e L x.2/\gm K a i x.1 x.2) (λx=>x.1) (i,M0) ⟨by omega,aR _,rfl,rfl,hp0,.start hs0⟩ ag0 ?_;clear hp0 hs0 hl0;rintro⟨j,M⟩ H' nxx ⟨a1,a2,rfl,rfl,hp,hal⟩;dsimp only at *;have hl:M.length=n:=by rw[hp.len,hn]
 have hGM:=hp.mem hG;by_cases hja:j=a
 ·subst hja;refine wkZ and_self ?_;exact⟨(i+1,M),by dsimp only;omega,⟨by dsimp only;omega,.inl (by dsimp only;omega),rfl,rfl,hp,hal.done hc.ord (.inl rfl)⟩,ag0⟩
 ·obtain⟨k,rfl⟩:∃k,j=k+1:=⟨j-1,by omega⟩
  have tj:((k+1:Nat):Int)-1=(k:Int):=by omega
  have lc:=hc.run (M.getD (k+1) default) (M.getD k default) (hGM _ (bk (by omega))) (hGM _ (bk (by omega)));have d1:=hc.dat (M.getD (k+1) default);have d2:=hc.dat (M.getD k default);generalize hKK:K (M.getD (k+1) default) (M.getD k default)=kk at lc;by_cases hlt:kk<0
  ·obtain⟨M1,hl1,lm1,lm2⟩:∃M1:List α,M1.length=n/\bD (M.map f) (k+1) [f (M.getD k default)]=M1.map f/\bD (M1.map f) k [f (M.getD (k+1) default)]=(swp M (k+1) k).map f:=
     ⟨M.set (k+1) (M.getD k default),by simp[hl],jm (by omega),by rw[jm (by simp;omega)];rfl⟩
   have lm3:=lm2;simp only[bD,bK,fo,cp] at lm1 lm2;refine wkZ (zI6 @tj @cz @lm1 @lm2 hc.cells hc.one) ?_;refine⟨(k,swp M (k+1) k),by dsimp only;omega,⟨by dsimp only;omega,by dsimp only;omega,?_,rfl,hp.trans (PermR.swap (by omega) (by omega) (by omega)),hal.step hc.ord (by omega) (by omega) (by omega) (by rw[hKK];exact hlt)⟩,(have zz:=@tj;agZ)⟩;dsimp only;rw[bd,bd,lm3]
  ·refine wkZ (zI4 @tj @cz hc.cells hc.one) ?_;exact⟨(i+1,M),by dsimp only;omega,⟨by dsimp only;omega,.inl (by dsimp only;omega),rfl,rfl,hp,hal.done hc.ord (.inr ⟨by omega,by rw[rF,hKK];exact hlt⟩)⟩,ag0⟩
end
theorem JL(x y:Int):pU 187 [.int .i64 x,.int .i64 y] (.bool (decide (x-y<0))):=by
 have e:decide (x-y<0)=decide (x<y):=decide_eq_decide.2 (by omega);rw[e];have n1:=jv x;refine pO Ia ?_;simp only[Jy,aH];refine wnZ and_self ?_;exact Dat.snap Dat.bool
theorem Nu:CmpO Tryz.prog (λx:Int=>.int .i64 x) (λx y=>x-y) (λ_=>True):=⟨λ_=>rfl,λ_=>rfl,λ_=>.int,λx y _ _=>JL x y,Nz⟩
theorem Hd{L:List Int}{H:Hp}{b nx n lim:Nat}(hH:H b=some (L.map λx=>.int .i64 x))(hn:L.length=n)(hn2:n<=12):
    Abs.Fn Tryz.prog 164 [.msl b n 1 0 n,.int .i64 0,.int .i64 n,.int .i64 lim] H nx λr H' nx'=>nx'=nx/\∃L':List Int,H'=ar H b (L'.map λx=>.int .i64 x)/\PermR 0 n L L'/\bu (λx y:Int=>x-y) 0 n L':=by
 refine fO L8 ?_;simp only[Ml,aH];have z:decide ((n:Int)<=12)=true:=aL (by omega);refine wnZ and_self ?_;refine bN (X:=Unit) (λx=>[(0,.msl b n 1 0 n),(1,.int .i64 0),(2,.int .i64 n),(3,.int .i64 lim)]) (λx H' nx'=>H'=H/\nx'=nx) (λx=>0) () ⟨rfl,rfl⟩ ag0 ?_;rintro _ _ _ ⟨rfl,rfl⟩;refine wnZ (aI @z @Int.sub_zero) ?_;refine bc ev0 (have zz:=@Int.natCast_zero;evZ) (L6 Nu (a:=0) hH hn (λ_ _=>trivial) (bw _) (aR _) (by omega)) ?_;rintro _ _ _ ⟨rfl,L',rfl,hp,hs⟩;refine wnZ and_self ?_;exact⟨rfl,L',rfl,hp,hs⟩
def qM(m:Nat):Prop:=∀{L:List Int}{H:Hp}{b nx n:Nat},H b=some (L.map λx=>.int .i64 x)->b<nx->L.length=n->0<n->n<=m->
    Abs.Fn Tryz.prog 147 [.msl b n 1 0 n] H nx λr H' nx'=>∃L':List Int,PS H H' nx nx' b (L'.map λx=>.int .i64 x)/\L'.Perm L/\L'.Pairwise (· <= ·)
theorem qM.le{m k:Nat}(h:qM m)(hk:k<=m):qM k:=λa b c d e=>h a b c d (fe e hk)
theorem EO:qM 12:=λ{L H b nx n} hH hbx hn hn0 hn2=>by
 refine fO Ks ?_;simp only[Ly,aH];have w:IntKind.wrap .u64 (n:Int)=n:=gq (by omega) (by omega);refine wnZ @w ?_;refine bc ev0 (have zz:=@w;evZ) (FS hn0 (by omega)) ?_;rintro _ _ _ ⟨rfl,rfl,k,rfl,h3,h4⟩
 skip
 refine bc ev0 (have zz:=@Int.natCast_zero;evZ) (Hd hH hn hn2) ?_;rintro _ _ _ ⟨rfl,N,rfl,hp,hs⟩;refine wnZ and_self ?_;refine⟨N,⟨ah,λi _ h2=>ac h2,aR _⟩,hp.perm,?_⟩;rw[k9];intro i j hi hj hij;have hl:N.length=n:=by rw[hp.len,hn]
 have:=hs i j (bw _) hij (by omega);simp only[List.getD,hi,hj,rL,uE] at this;omega
end
end Go.Proofs.YtekdaafnjdlenaaGreat
