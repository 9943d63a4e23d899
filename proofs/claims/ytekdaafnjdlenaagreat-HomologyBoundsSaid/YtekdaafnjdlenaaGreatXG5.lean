/- Contracts of functions and plain laws, for all inputs that the theorems name. -/
import Derived.Test.YtekdaafnjdlenaaGreatXG4
import Derived.Test.YtekdaafnjdlenaaGreatXG3

set_option linter.unusedSimpArgs false
set_option linter.unusedVariables false
set_option maxHeartbeats 4000000
namespace Go.Proofs.YtekdaafnjdlenaaGreat
open Go Go.Abs
open Nat (reduceEqDiff reduceAdd reduceLeDiff)
theorem dA{a b:List Int}{z:Int}(ha:bj a)(hb:bj b):z∈bU a b↔(z∈a/\z∉b)\/(z∈b/\z∉a):=(jZ _ a b (aP _) ha hb).2 z
theorem fB{a b c:List Int}(ha:bj a)(hb:bj b)(hc:bj c):bU a (bU b c)=bU (bU a b) c:=
 iK (d9 ha (d9 hb hc)) (d9 (d9 ha hb) hc) λz=>by
  rw[dN ha (d9 hb hc),dN hb hc,dN (d9 ha hb) hc,dN ha hb];omega
theorem gA{a:List Int}(ha:bj a):bU a a=[]:=
 nA λz=>by rw[dN ha ha];omega
theorem lV{S:List (List Int)}{v w:List Int}(hS:∀r∈S,bj r)(hv:Sp S v)(hw:Sp S w):Sp S (bU v w):=by
 induction hw with
 |nil=>rw[gq];exact hv
 | @add w r h1 h2 ih=>
  rw[fB (kO hS hv) (kO hS h1) (hS _ h2)];exact Sp.add ih h2
theorem nk{R S:List (List Int)}{v:List Int}(hS:∀r∈S,bj r)(h:∀r∈R,Sp S r)(hv:Sp R v):Sp S v:=by
 induction hv with
 |nil=>exact Sp.nil
 |add h1 h2 ih=>exact lV hS ih (h _ h2)
theorem kP{R S:List (List Int)}{v:List Int}(h:∀r∈R,r∈S)(hv:Sp R v):Sp S v:=by
 induction hv with
 |nil=>exact Sp.nil
 |add h1 h2 ih=>exact Sp.add ih (h _ h2)
theorem yF{p:Ln->Bool}{S:List (List Int)}(hS:∀r∈S,bj r):∀{M:List Ln}{x:Ln},(∀l∈M,cI l/\l.1∈S)->cI x->Sp S (bU x.1 (rdL M p x).1)
 |[],x,_,hx=>by
  show Sp S (bU x.1 x.1);rw[gA hx.1];exact Sp.nil
 |l::M,x,hM,hx=>by
  obtain⟨hl,hlS⟩:=hM l (de ..);have hM':=λm hm=>hM m (dU _ hm)
  have hx':cI (if p l=true then ef x l else x):=by
   split
   ·exact eX hx hl
   ·exact hx
  have ih:=yF (p:=p) hS (M:=M) hM' hx';have hr:=jr (p:=p) (M:=M) (λm hm=>(hM' m hm).1) hx';show Sp S (bU x.1 (rdL M p (if p l=true then ef x l else x)).1);by_cases h:p l=true
  ·rw[if_pos h] at ih hr hx' |-
   have e:bU x.1 (rdL M p (ef x l)).1=bU (bU (ef x l).1 (rdL M p (ef x l)).1) l.1:=
    iK (d9 hx.1 hr.1) (d9 (d9 hx'.1 hr.1) hl.1) λz=>by
     rw[dN hx.1 hr.1,dN (d9 hx'.1 hr.1) hl.1,dN hx'.1 hr.1];show _=((bit z (bU x.1 l.1)+_)%2+_)%2;rw[dN hx.1 hl.1];omega
   rw[e];exact Sp.add ih hlS
  ·rw[if_neg h] at ih |-;exact ih
theorem nM{M:List Ln}{x:Ln}(hM:RedU M)(hx:cI x){l:Ln}(hl:l∈M):ld l.1∉(fp M x).1:=by
 rw[<-dD];unfold fp;rw[lg hM.asc hx]
 have hc:∀{E:List Ln},E.Nodup->(∀m∈E,ld l.1∈m.1->m=l)->lF Prod.fst (ld l.1) (fe x) E=if l∈E/\fe x l=true then 1 else 0:=by
  intro E
  induction E with
  |nil=>intro _ _;simp[lF]
  |cons m E ih=>
   intro hn ho;obtain⟨n1,n2⟩:=List.nodup_cons.1 hn;have ih:=ih n2 λm hm=>ho m (dU _ hm);show(if fe x m=true then bit (ld l.1) m.1 else 0)+lF Prod.fst (ld l.1) (fe x) E=_;rw[ih];by_cases e:m=l
   ·subst e;have hb:bit (ld m.1) m.1=1:=dD.2 (dq (hM.ne m hl));simp[n1,hb]
   ·have hb:bit (ld l.1) m.1=0:=by
      unfold bit;rw[if_neg λh=>e (ho m (de ..) h)]
    have e2:l≠m:=λh=>e h.symm;simp[hb,e2]
 rw[hc hM.nodup λm hm h=>hM.own l hl m hm h];unfold fe bit;by_cases h:ld l.1∈x.1<;>simp[h,hl]
def kd(y l:Ln):Ln:=if ld y.1∈l.1 then ef l y else l
def me(M:List Ln)(y:Ln):List Ln:=M.map (kd y)++[y]
theorem uL{M:List Ln}{y l:Ln}(hM:RedU M)(hy:cI y)(h0:y.1≠[])(hn:∀l∈M,ld l.1∉y.1)(hl:l∈M):
    cI (kd y l)/\(∀m∈M,ld m.1∈(kd y l).1↔l=m)/\ld y.1∉(kd y l).1/\ld (kd y l).1=ld l.1:=by
 have hla:=hM.asc l hl;have how:∀m∈M,ld m.1∈l.1↔l=m:=λm hm=>⟨λh=>hM.own m hm l hl h,λe=>e▸dq (hM.ne l hl)⟩
 unfold kd;by_cases h:ld y.1∈l.1
 ·rw[if_pos h];have hs:=λz=>dA (z:=z) hla.1 hy.1
  have ho:∀m∈M,ld m.1∈(ef l y).1↔l=m:=λm hm=>by
   show ld m.1∈bU l.1 y.1↔_;rw[hs];have:=hn m hm;rw[<-how m hm];simp[this]
  refine⟨eX hla hy,ho,?_,?_⟩
  ·show ld y.1∉bU l.1 y.1;rw[hs];have:=dq h0;simp[this,h]
  ·have hm:=(ho l hl).2 rfl;refine Int.le_antisymm (oB (eX hla hy).1 hm) ?_;have hne:(ef l y).1≠[]:=λe=>by rw[e] at hm;cases hm
   have hq:=dq hne;rcases(hs _).1 hq with q|q
   ·exact oB hla.1 q.1
   ·exact Int.le_trans (oB hla.1 h) (oB hy.1 q.1)
 ·rw[if_neg h];exact⟨hla,how,h,rfl⟩
theorem DX{M:List Ln}{y:Ln}(hM:RedU M)(hy:cI y)(h0:y.1≠[])(hn:∀l∈M,ld l.1∉y.1):RedU (me M y):=by
 have hf:=λl(hl:l∈M)=>uL hM hy h0 hn hl
 have hmem:∀{m},m∈me M y->(∃l∈M,kd y l=m)\/m=y:=λ{m} h=>by
  rcases eM.1 h with h|h
  ·exact .inl (bE.1 h)
  ·exact .inr (dg.1 h)
 constructor
 ·intro m hm;rcases hmem hm with⟨l,hl,rfl⟩|rfl
  ·exact(hf l hl).1
  ·exact hy
 ·intro m hm;rcases hmem hm with⟨l,hl,rfl⟩|rfl
  ·intro e;have:=((hf l hl).2.1 l hl).2 rfl;rw[e] at this;cases this
  ·exact h0
 ·intro m hm k hk h;rcases hmem hm with⟨l,hl,rfl⟩|rfl
  ·rw[(hf l hl).2.2.2] at h;rcases hmem hk with⟨q,hq,rfl⟩|rfl
   ·rw[((hf q hq).2.1 l hl).1 h]
   ·exact absurd h (hn l hl)
  ·rcases hmem hk with⟨q,hq,rfl⟩|rfl
   ·exact absurd h (hf q hq).2.2.1
   ·rfl
 ·refine zH.2 ⟨?_,by simp,λa ha b hb e=>?_⟩
  ·refine List.pairwise_map.2 (List.Pairwise.imp_of_mem (λ{a b} ha hb hab e=>hab ?_) hM.nodup);have h1:=(hf a ha).2.2.2;rw[e,(hf b hb).2.2.2] at h1;refine(hM.own b hb a ha ?_);rw[h1];exact dq (hM.ne a ha)
  ·obtain⟨l,hl,rfl⟩:=bE.1 ha;rw[dg] at hb;subst hb;have:=(hf l hl).2.2.1;rw[e] at this;exact this (dq h0)
def bK(g:Int->Nat):List Int->Nat
 |[]=>0
 |x::l=>g x+bK g l
theorem iS{g:Int->Nat}:∀(n:Nat)(a b:List Int),a.length+b.length<=n->bK g (bU a b)%2=(bK g a+bK g b)%2
 |_,[],b,_=>by rw[jg];show _=(0+bK g b)%2;rw[cq]
 |_,x::a,[],_=>by rw[gq];show _=(bK g (x::a)+0)%2;rw[p6]
 |0,x::a,y::b,h=>by simp only[bS] at h;omega
 |n+1,x::a,y::b,h=>by
  simp only[bS] at h;rw[kQ];by_cases g1:x<y
  ·rw[if_pos g1];have ih:=iS (g:=g) n a (y::b) (by simp only[bS];omega);show(g x+bK g (bU a (y::b)))%2=(g x+bK g a+bK g (y::b))%2;omega
  rw[if_neg g1];by_cases g2:y<x
  ·rw[if_pos g2];have ih:=iS (g:=g) n (x::a) b (by simp only[bS];omega);show(g y+bK g (bU (x::a) b))%2=(bK g (x::a)+(g y+bK g b))%2;omega
  rw[if_neg g2];obtain rfl:x=y:=by omega
  have ih:=iS (g:=g) n a b (by omega);show bK g (bU a b)%2=(g x+bK g a+(g x+bK g b))%2;omega
def mg(R:List (List Int))(n:Nat)(l:Ln):Prop:=(∀z,bit z l.1=bK (λj=>bit z (R.getD j.toNat default)) l.2%2)/\∀j∈l.2,0<=j/\j<(n:Int)
theorem y8{R:List (List Int)}{n:Nat}{x l:Ln}(hx:cI x)(hl:cI l)(h1:mg R n x)(h2:mg R n l):mg R n (ef x l):=by
 refine⟨λz=>?_,λj hj=>?_⟩
 ·show bit z (bU x.1 l.1)=bK _ (bU x.2 l.2)%2;rw[dN hx.1 hl.1,iS _ _ _ (aP _),h1.1,h2.1];omega
 ·rcases(dA hx.2 hl.2).1 hj with h|h
  ·exact h1.2 j h.1
  ·exact h2.2 j h.1
theorem sJ{R:List (List Int)}{n:Nat}{p:Ln->Bool}:∀{M:List Ln}{x:Ln},(∀l∈M,cI l/\mg R n l)->cI x->mg R n x->mg R n (rdL M p x)
 |[],_,_,_,h=>h
 |l::M,x,hM,hx,h=>by
  obtain⟨hl,hlo⟩:=hM l (de ..);have hM':=λm hm=>hM m (dU _ hm);show mg R n (rdL M p (if p l=true then ef x l else x));by_cases hp:p l=true
  ·rw[if_pos hp];exact sJ hM' (eX hx hl) (y8 hx hl h hlo)
  ·rw[if_neg hp];exact sJ hM' hx h
theorem mg.mono{R:List (List Int)}{n m:Nat}{l:Ln}(h:mg R n l)(hn:n<=m):mg R m l:=⟨h.1,λj hj=>by have:=h.2 j hj;omega⟩
def stE(R:List (List Int)):Nat->List Ln×List (List Int)
 |0=>([],[])
 |i+1=>if (fp (stE R i).1 (R.getD i default,[(i:Int)])).1=[] then((stE R i).1,(stE R i).2++[(fp (stE R i).1 (R.getD i default,[(i:Int)])).2]) else(me (stE R i).1 (fp (stE R i).1 (R.getD i default,[(i:Int)])),(stE R i).2)
structure StOk(R:List (List Int))(i:Nat)(M:List Ln)(D:List (List Int)):Prop where
 red:RedU M
 ok:∀l∈M,mg R i l
 dep:∀y∈D,cI ([],y)/\mg R i ([],y)
 len:M.length+D.length=i
 inS:∀l∈M,Sp (R.take i) l.1
 all:∀r∈R.take i,Sp (M.map Prod.fst) r
theorem ga{M:List Ln}(h:RedU M):∀r∈M.map Prod.fst,bj r:=λr hr=>by
 obtain⟨l,hl,rfl⟩:=bE.1 hr;exact(h.asc l hl).1
theorem fY{R:List (List Int)}(hR:∀r∈R,bj r):∀{i:Nat},i<=R.length->StOk R i (stE R i).1 (stE R i).2
 |0,_=>⟨⟨λ_ h=>(by cases h),λ_ h=>(by cases h),λ_ h=>(by cases h),List.nodup_nil⟩,λ_ h=>(by cases h),λ_ h=>(by cases h),rfl,λ_ h=>(by cases h),λ_ h=>(by cases h)⟩
 |i+1,hi=>by
  have ih:=fY hR (i:=i) (by omega);have hx:cI (R.getD i default,[(i:Int)]):=⟨hR _ (ar (by omega)),List.pairwise_singleton ..⟩
  have hxo:mg R (i + 1) (R.getD i default,[(i:Int)]):=⟨fun z=>by
   have:=gW (z:=z) (a:=R.getD i default);show bit z (R.getD i default)=(bit z (R.getD ((i:Nat):Int).toNat default)+0)%2;rw[cE];omega,λj hj=>by rw[dg.1 hj];omega⟩
  have hMo:∀l∈(stE R i).1,cI l/\mg R (i+1) l:=λl hl=>⟨ih.red.asc l hl,(ih.ok l hl).mono (by omega)⟩
  have hya:cI (fp (stE R i).1 (R.getD i default,[(i:Int)])):=jr ih.red.asc hx;have hyo:mg R (i+1) (fp (stE R i).1 (R.getD i default,[(i:Int)])):=sJ hMo hx hxo;have hyn:=λl hl=>nM ih.red hx (l:=l) hl;have hysp:Sp ((stE R i).1.map Prod.fst) (bU (R.getD i default) (fp (stE R i).1 (R.getD i default,[(i:Int)])).1):=yF (ga ih.red) (λl hl=>⟨ih.red.asc l hl,bE.2 ⟨l,hl,rfl⟩⟩) hx;have htk:R.take (i+1)=R.take i++[R.getD i default]:=bT (by omega);have hTa:∀r∈R.take (i+1),bj r:=λr hr=>hR r (iq hr);unfold stE;generalize fp (stE R i).1 (R.getD i default,[(i:Int)])=y at *;generalize (stE R i).1=M at *;generalize (stE R i).2=D at *;have hup:∀l∈M,Sp (R.take (i+1)) l.1:=λl hl=>kP (λr hr=>by rw[htk];exact n8 _ hr) (ih.inS l hl)
  have hMsp:∀ {v},Sp (M.map Prod.fst) v→Sp (R.take (i + 1)) v:=fun hv=>nk hTa (fun r hr=>by
   obtain⟨l,hl,rfl⟩:=bE.1 hr;exact hup l hl) hv
  by_cases h0:y.1=[]
  ·rw[if_pos h0];rw[h0,gq] at hysp;refine⟨ih.red,λl hl=>(hMo l hl).2,λz hz=>?_,?_,hup,λr hr=>?_⟩
   ·rcases eM.1 hz with h|h
    ·exact⟨(ih.dep z h).1,(ih.dep z h).2.mono (by omega)⟩
    ·rw[dg.1 h];have e:(([],y.2):Ln)=y:=by rw[<-h0]
     rw[e];exact⟨hya,hyo⟩
   ·show M.length+(D++[y.2]).length=i+1;rw[da,List.length_singleton];have:=ih.len;omega
   ·rw[htk] at hr;rcases eM.1 hr with h|h
    ·exact ih.all r h
    ·rw[dg.1 h];exact hysp
  ·rw[if_neg h0];have hi2:=DX ih.red hya h0 hyn
   have hyS:Sp (R.take (i+1)) y.1:=by
    have h1:=hMsp hysp;have h2:Sp (R.take (i+1)) (R.getD i default):=eO (by rw[htk];exact nX _ (dg.2 rfl));have h3:=lV hTa h2 h1
    rwa [fB hx.1 hx.1 hya.1,gA hx.1,jg] at h3
   have hyI:y∈me M y:=nX _ (dg.2 rfl)
   have hcl:∀l∈M,Sp ((me M y).map Prod.fst) l.1:=λl hl=>by
    have hm:kd y l∈me M y:=n8 _ (bE.2 ⟨l,hl,rfl⟩);have h1:=eO (bE.2 ⟨_,hm,rfl⟩:(kd y l).1∈(me M y).map Prod.fst);unfold kd at h1;by_cases h:ld y.1∈l.1
    ·rw[if_pos h] at h1;have h2:=lV (ga hi2) h1 (eO (bE.2 ⟨_,hyI,rfl⟩));have hla:=(ih.red.asc l hl).1
     rwa [show(ef l y).1=bU l.1 y.1 from rfl,<-fB hla hya.1 hya.1,gA hya.1,gq] at h2
    ·rwa [if_neg h] at h1
   refine⟨hi2,λm hm=>?_,λz hz=>⟨(ih.dep z hz).1,(ih.dep z hz).2.mono (by omega)⟩,?_,λm hm=>?_,λr hr=>?_⟩
   ·rcases eM.1 hm with h|h
    ·obtain⟨l,hl,rfl⟩:=bE.1 h;unfold kd;split
     ·exact y8 (hMo l hl).1 hya (hMo l hl).2 hyo
     ·exact(hMo l hl).2
    ·rw[dg.1 h];exact hyo
   ·show(me M y).length+D.length=i+1;unfold me;rw[da,bo,List.length_singleton];have:=ih.len;omega
   ·rcases eM.1 hm with h|h
    ·obtain⟨l,hl,rfl⟩:=bE.1 h;unfold kd;split
     ·exact lV hTa (hup l hl) hyS
     ·exact hup l hl
    ·rw[dg.1 h];exact hyS
   ·have hMI:∀ {v},Sp (M.map Prod.fst) v→Sp ((me M y).map Prod.fst) v:=fun hv=>nk (ga hi2) (fun r hr=>by
      obtain⟨l,hl,rfl⟩:=bE.1 hr;exact hcl l hl) hv
    rw[htk] at hr;rcases eM.1 hr with h|h
    ·exact hMI (ih.all r h)
    ·rw[dg.1 h];have h2:=lV (ga hi2) (hMI hysp) (eO (bE.2 ⟨_,hyI,rfl⟩))
     rwa [<-fB hx.1 hya.1 hya.1,gA hya.1,gq] at h2
def mh(M:List Ln)(c:Nat):List Ln:=(List.range c).filterMap λ(k:Nat)=>M.find? λl=>decide (ld l.1=(k:Int))
theorem qB{M:List Ln}{c:Nat}:mh M (c+1)=mh M c++(M.find? λl=>decide (ld l.1=(c:Int))).toList:=by
 unfold mh;rw[List.range_succ,List.filterMap_append]
 congr 1
theorem qe{M:List Ln}{c:Nat}{l:Ln}(hM:RedU M):l∈mh M c↔l∈M/\0<=ld l.1/\ld l.1<c:=by
 unfold mh;rw[List.mem_filterMap];constructor
 ·rintro⟨k,hk,h⟩;have h1:=List.mem_of_find?_eq_some h;have h2:ld l.1=(k:Int):=by simpa using List.find?_some h
  have:=dZ.1 hk;exact⟨h1,by omega,by omega⟩
 ·rintro⟨h1,h2,h3⟩;refine⟨(ld l.1).toNat,dZ.2 (by omega),?_⟩;cases h:M.find? λm=>decide (ld m.1=((ld l.1).toNat:Int)) with
  |none=>
   have:=List.find?_eq_none.1 h l h1;rw[f9] at this;omega
  |some m=>
   have e:ld m.1=((ld l.1).toNat:Int):=by simpa using List.find?_some h
   have hm:=List.mem_of_find?_eq_some h
   congr 1
   refine hM.own l h1 m hm ?_;rw[show ld l.1=ld m.1 by omega];exact dq (hM.ne m hm)
theorem pf{M:List Ln}(hM:RedU M):∀{c:Nat},(mh M c).Pairwise λa b=>ld a.1<ld b.1
 |0=>od
 |c+1=>by
  rw[qB];refine List.pairwise_append.2 ⟨pf hM,?_,λa ha b hb=>?_⟩
  ·cases M.find? λl=>decide (ld l.1=(c:Int))
   ·exact od
   ·exact List.pairwise_singleton ..
  ·have h1:=((qe hM).1 ha).2.2;have h2:ld b.1=(c:Int):=by simpa using List.find?_some (Option.mem_toList.1 hb)
   omega
theorem Fr{M:List Ln}{c:Nat}(hM:RedU M):Red ((mh M c).map Prod.fst):=by
 have hm:∀r∈(mh M c).map Prod.fst,∃l∈M,l.1=r:=λr hr=>by
  obtain⟨l,hl,rfl⟩:=bE.1 hr;exact⟨l,((qe hM).1 hl).1,rfl⟩
 refine⟨λr hr=>?_,λr hr=>?_,λr hr q hq h=>?_,List.pairwise_map.2 (pf hM)⟩
 ·obtain⟨l,hl,rfl⟩:=hm r hr;exact(hM.asc l hl).1
 ·obtain⟨l,hl,rfl⟩:=hm r hr;exact hM.ne l hl
 ·obtain⟨l,hl,rfl⟩:=hm r hr;obtain⟨k,hk,rfl⟩:=hm q hq;rw[hM.own l hl k hk h]
def ll(R:List (List Int))(c:Nat):List Ln:=mh (stE R R.length).1 c
def eD(R:List (List Int))(c:Nat):List (List Int):=(ll R c).map Prod.fst
theorem jw{S:List (List Int)}{v:List Int}{P:Int->Prop}(hS:∀r∈S,bj r)(hP:∀r∈S,∀z∈r,P z)(h:Sp S v):∀z∈v,P z:=by
 induction h with
 |nil=>exact λz hz=>by cases hz
 | @add w r h1 h2 ih=>
  intro z hz;rcases(dA (kO hS h1) (hS r h2)).1 hz with q|q
  ·exact ih z q.1
  ·exact hP r h2 z q.1
theorem jX{R:List (List Int)}{c:Nat}(hR:∀r∈R,bj r)(hv:∀r∈R,∀z∈r,0<=z/\z<(c:Int)):Red (eD R c)/\(∀v,Sp (eD R c) v↔Sp R v)/\∀l,l∈ll R c↔l∈(stE R R.length).1:=by
 have hs:=fY hR (aP R.length);have hin:=hs.inS;have hall:=hs.all;rw[show R.take R.length=R from List.take_length] at hin hall
 have hmem:∀l,l∈ll R c↔l∈(stE R R.length).1:=λl=>by
  unfold ll;rw[qe hs.red];refine⟨λh=>h.1,λh=>?_⟩;have:=jw hR hv (hin l h) _ (dq (hs.red.ne l h));exact⟨h,this.1,this.2⟩
 have hred:Red (eD R c):=Fr hs.red;refine⟨hred,λv=>⟨λh=>nk hR (λr hr=>?_) h,λh=>nk hred.asc (λr hr=>?_) h⟩,hmem⟩
 ·obtain⟨l,hl,rfl⟩:=bE.1 hr;exact hin l ((hmem l).1 hl)
 ·refine nk hred.asc (λq hq=>?_) (hall r hr);obtain⟨l,hl,rfl⟩:=bE.1 hq;exact eO (bE.2 ⟨l,(hmem l).2 hl,rfl⟩)
theorem nI{α:Type}[Inhabited α]{f:Nat->α}{n i:Nat}(h:i<n):((List.range n).map f).getD i default=f i:=by
 simp[List.getD,h]
theorem mB{α:Type}[Inhabited α]{l:List α}{x:α}(h:x∈l):∃i,i<l.length/\l.getD i default=x:=by
 obtain⟨i,hi,e⟩:=jO h;exact⟨i,hi,by simp[List.getD,hi,e]⟩
def uW(rows:List (List Int))(n c:Nat):Option Nat:=(List.range rows.length).find? λi=>decide (n<=i)&&decide ((c:Int)∈rows.getD i default)
def swI(n k i:Nat):Nat:=if i=n then k else if i=k then n else i
def swL(rows:List (List Int))(n k:Nat):List (List Int):=(List.range rows.length).map λi=>rows.getD (swI n k i) default
def elF(rows:List (List Int))(n c i:Nat):List Int:=if i≠n/\(c:Int)∈rows.getD i default then bU (rows.getD i default) (rows.getD n default) else rows.getD i default
def elL(rows:List (List Int))(n c:Nat):List (List Int):=(List.range rows.length).map (elF rows n c)
def stR(R:List (List Int)):Nat->List (List Int)×Nat
 |0=>(R,0)
 |c+1=>match uW (stR R c).1 (stR R c).2 c with
  |none=>stR R c
  |some k=>(elL (swL (stR R c).1 (stR R c).2 k) (stR R c).2 c,(stR R c).2+1)
structure RdOk(R rows:List (List Int))(n c:Nat):Prop where
 asc:∀i,i<R.length->bj (rows.getD i default)
 len:rows.length=R.length
 nle:n<=R.length
 sp:∀v,Sp rows v↔Sp R v
 top:∀i,i<n->rows.getD i default≠[]/\ld (rows.getD i default)<c
 own:∀i,i<n->∀j,j<R.length->ld (rows.getD i default)∈rows.getD j default->j=i
 ord:∀i j,i<j->j<n->ld (rows.getD i default)<ld (rows.getD j default)
 low:∀i,n<=i->i<R.length->∀z∈rows.getD i default,(c:Int)<=z
theorem oZ{n k i N:Nat}(hn:n<N)(hk:k<N)(hi:i<N):swI n k i<N:=by
 unfold swI;split
 ·exact hk
 ·split
  ·exact hn
  ·exact hi
theorem zw{n k i:Nat}:swI n k (swI n k i)=i:=by
 unfold swI;by_cases h1:i=n
 ·subst h1;rw[if_pos rfl];by_cases h2:k=i
  ·rw[if_pos h2];exact h2
  ·rw[if_neg h2,if_pos rfl]
 ·rw[if_neg h1];by_cases h2:i=k
  ·rw[if_pos h2,if_pos rfl];exact h2.symm
  ·rw[if_neg h2,if_neg h1,if_neg h2]
theorem I0{rows:List (List Int)}{N:Nat}(hl:rows.length=N)(h:∀i,i<N->bj (rows.getD i default)):∀r∈rows,bj r:=λr hr=>by
 obtain⟨i,hi,e⟩:=mB hr;rw[<-e];exact h i (by omega)
theorem JA{rows:List (List Int)}{n k:Nat}(hn:n<rows.length)(hk:k<rows.length)(v:List Int):Sp (swL rows n k) v↔Sp rows v:=by
 constructor
 ·refine kP λr hr=>?_;obtain⟨i,hi,rfl⟩:=bE.1 hr;exact ar (oZ hn hk (dZ.1 hi))
 ·refine kP λr hr=>?_;obtain⟨i,hi,rfl⟩:=mB hr;refine bE.2 ⟨swI n k i,dZ.2 (oZ hn hk hi),?_⟩;rw[zw]
theorem Kr{rows:List (List Int)}{n c:Nat}(ha:∀i,i<rows.length->bj (rows.getD i default))(hn:n<rows.length)(v:List Int):Sp (elL rows n c) v↔Sp rows v:=by
 have hE:∀i,i<rows.length->bj (elF rows n c i):=λi hi=>by
  unfold elF;split
  ·exact d9 (ha i hi) (ha n hn)
  ·exact ha i hi
 have hEa:∀r∈elL rows n c,bj r:=λr hr=>by
  obtain⟨i,hi,rfl⟩:=bE.1 hr;exact hE i (dZ.1 hi)
 have hRa:=I0 rfl ha;have hin:∀i,i<rows.length->elF rows n c i∈elL rows n c:=λi hi=>bE.2 ⟨i,dZ.2 hi,rfl⟩
 have hpn:Sp (elL rows n c) (rows.getD n default):=by
  have h:=eO (hin n hn);unfold elF at h
  rwa [if_neg (λq=>q.1 rfl)] at h
 constructor
 ·refine nk hRa λr hr=>?_;obtain⟨i,hi,rfl⟩:=bE.1 hr;have hi:=dZ.1 hi;unfold elF;split
  ·exact lV hRa (eO (ar hi)) (eO (ar hn))
  ·exact eO (ar hi)
 ·refine nk hEa λr hr=>?_;obtain⟨i,hi,rfl⟩:=mB hr;have h:=eO (hin i hi);unfold elF at h;split at h
  ·have h2:=lV hEa h hpn
   rwa [<-fB (ha i hi) (ha n hn) (ha n hn),gA (ha n hn),gq] at h2
  ·exact h
theorem GZ{R:List (List Int)}(hR:∀r∈R,bj r)(hv:∀r∈R,∀z∈r,(0:Int)<=z):∀{c:Nat},RdOk R (stR R c).1 (stR R c).2 c
 |0=>⟨λi hi=>hR _ (ar hi),rfl,bC _,λ_=>Iff.rfl,λi h=>absurd h (Nat.not_lt_zero _),λi h=>absurd h (Nat.not_lt_zero _),λi j _ h=>absurd h (Nat.not_lt_zero _),λi _ hi z hz=>hv _ (ar hi) z hz⟩
 |c+1=>by
  have ih:=GZ hR hv (c:=c);unfold stR;generalize e1:(stR R c).1=rows at *;generalize e2:(stR R c).2=n at *;obtain⟨i1,i2,i3,i4,i5,i6,i7,i8⟩:=ih;cases hp:uW rows n c with
  |none=>
   show RdOk R (stR R c).1 (stR R c).2 (c+1);rw[e1,e2];refine⟨i1,i2,i3,i4,λi hi=>⟨(i5 i hi).1,by have:=(i5 i hi).2;omega⟩,i6,i7,λi h1 h2 z hz=>?_⟩;have h3:=i8 i h1 h2 z hz;have h4:=List.find?_eq_none.1 hp i (dZ.2 (by omega));have h5:z≠(c:Int):=λe=>h4 (by rw[<-e];simp only[dT,f9];exact⟨h1,hz⟩);omega
  |some k=>
   show RdOk R (elL (swL rows n k) n c) (n+1) (c+1);have k1:=dZ.1 (List.mem_of_find?_eq_some hp)
   have k2:n<=k/\(c:Int)∈rows.getD k default:=by
    have:=List.find?_some hp;simpa only[dT,f9] using this
   obtain⟨k3,k4⟩:=k2;have hkN:k<R.length:=by omega
   have hnN:n<R.length:=by omega
   have sl:(swL rows n k).length=R.length:=by unfold swL;rw[bo,List.length_range,i2]
   have gs:∀i,i<R.length->(swL rows n k).getD i default=rows.getD (swI n k i) default:=λi hi=>nI (by omega)
   have gp:(swL rows n k).getD n default=rows.getD k default:=by
    rw[gs n hnN];unfold swI;rw[if_pos rfl]
   have ge:∀i,i<R.length->(elL (swL rows n k) n c).getD i default=elF (swL rows n k) n c i:=λi hi=>nI (by omega)
   have gn:(elL (swL rows n k) n c).getD n default=rows.getD k default:=by
    rw[ge n hnN];unfold elF;rw[if_neg (λq=>q.1 rfl),gp]
   have gi:∀i,i<R.length->i≠n->(elL (swL rows n k) n c).getD i default=if (c:Int)∈rows.getD (swI n k i) default then bU (rows.getD (swI n k i) default) (rows.getD k default) else rows.getD (swI n k i) default:=λi hi hn=>by
    rw[ge i hi];unfold elF;rw[gs i hi,gp];by_cases h:(c:Int)∈rows.getD (swI n k i) default
    ·rw[if_pos ⟨hn,h⟩,if_pos h]
    ·rw[if_neg (λq=>h q.2),if_neg h]
   have hpa:=i1 k hkN;have hpl:=i8 k k3 hkN;have hsa:∀i,i<R.length->bj (rows.getD (swI n k i) default):=λi hi=>i1 _ (oZ hnN hkN hi);have hld:ld (rows.getD k default)=c:=Int.le_antisymm (oB hpa k4) (hpl _ (dq (λe=>by rw[e] at k4;cases k4)));have hpne:rows.getD k default≠[]:=λe=>by rw[e] at k4;cases k4
   have hsw:∀i,i<n->swI n k i=i:=λi hi=>by unfold swI;rw[if_neg (by omega),if_neg (by omega)]
   have hnp:∀i,i<n->ld (rows.getD i default)∉rows.getD k default:=λi hi h=>by have:=i6 i hi k hkN h;omega
   have hsw2:∀v,Sp (swL rows n k) v↔Sp rows v:=λv=>JA (by omega) (by omega) v;have hda:∀i,i<(swL rows n k).length->bj ((swL rows n k).getD i default):=λi hi=>by rw[gs i (by omega)];exact hsa i (by omega)
   have hmem:∀j,j<R.length->j≠n->∀z,z∈(elL (swL rows n k) n c).getD j default->z∉rows.getD k default->z∈rows.getD (swI n k j) default:=λj hj hn z hz hzp=>by
    rw[gi j hj hn] at hz;split at hz
    ·rcases(dA (hsa j hj) hpa).1 hz with q|q
     ·exact q.1
     ·exact absurd q.1 hzp
    ·exact hz
   have hlow:∀j,j<R.length->j≠n->(c:Int)∉(elL (swL rows n k) n c).getD j default:=λj hj hn hz=>by
    rw[gi j hj hn] at hz;split at hz
    ·rename_i h;rcases(dA (hsa j hj) hpa).1 hz with q|q
     ·exact q.2 k4
     ·exact q.2 h
    ·rename_i h;exact h hz
   have htop:∀i,i<n->ld ((elL (swL rows n k) n c).getD i default)=ld (rows.getD i default)/\(elL (swL rows n k) n c).getD i default≠[]:=λi hi=>by
    obtain⟨t1,t2⟩:=i5 i hi;rw[gi i (by omega) (by omega),hsw i hi];split
    ·have hm:ld (rows.getD i default)∈bU (rows.getD i default) (rows.getD k default):=(dA (i1 i (by omega)) hpa).2 (.inl ⟨dq t1,hnp i hi⟩);have hne:bU (rows.getD i default) (rows.getD k default)≠[]:=λe=>by rw[e] at hm;cases hm
     refine⟨Int.le_antisymm (oB (d9 (i1 i (by omega)) hpa) hm) ?_,hne⟩;rcases(dA (i1 i (by omega)) hpa).1 (dq hne) with q|q
     ·exact oB (i1 i (by omega)) q.1
     ·have:=hpl _ q.1;omega
    ·exact⟨rfl,t1⟩
   refine⟨λi hi=>?_,?_,by omega,λv=>?_,λi hi=>?_,λi hi j hj h=>?_,λi j hij hj=>?_,λi h1 h2 z hz=>?_⟩
   ·rw[ge i hi];unfold elF;split
    ·exact d9 (hda i (by omega)) (hda n (by omega))
    ·exact hda i (by omega)
   ·unfold elL;rw[bo,List.length_range,sl]
   ·rw[Kr hda (by omega),hsw2,i4]
   ·by_cases hin:i=n
    ·subst hin;rw[gn,hld];exact⟨hpne,by omega⟩
    ·obtain⟨t1,t2⟩:=htop i (by omega);rw[t1];have:=(i5 i (by omega)).2;exact⟨t2,by omega⟩
   ·by_cases hin:i=n
    ·subst hin;rw[gn,hld] at h;exact Decidable.byContradiction λhne=>hlow j hj hne h
    ·have hi':i<n:=by omega
     rw[(htop i hi').1] at h;by_cases hjn:j=n
     ·subst hjn;rw[gn] at h;exact absurd h (hnp i hi')
     ·have h3:=i6 i hi' _ (oZ hnN hkN hj) (hmem j hj hjn _ h (hnp i hi'));have h4:=congrArg (swI n k) h3;rw[zw,hsw i hi'] at h4;exact h4
   ·by_cases hjn:j=n
    ·subst hjn;rw[gn,hld,(htop i hij).1];exact(i5 i hij).2
    ·rw[(htop i (by omega)).1,(htop j (by omega)).1];exact i7 i j hij (by omega)
   ·have hz2:z≠(c:Int):=λe=>hlow i h2 (by omega) (e▸hz);have hs:n<=swI n k i:=by unfold swI;split<;>(try split)<;>omega
    rw[gi i h2 (by omega)] at hz
    have hz3:(c:Int)<=z:=by
     split at hz
     ·rcases(dA (hsa i h2) hpa).1 hz with q|q
      ·exact i8 _ hs (oZ hnN hkN h2) z q.1
      ·exact hpl z q.1
     ·exact i8 _ hs (oZ hnN hkN h2) z hz
    omega
def pc(R:List (List Int))(c:Nat):List (List Int):=(stR R c).1.take (stR R c).2
theorem pt{R:List (List Int)}{c:Nat}(hR:∀r∈R,bj r)(hv:∀r∈R,∀z∈r,0<=z/\z<(c:Int)):pc R c=eD R c:=by
 have h:=GZ hR (λr hr z hz=>(hv r hr z hz).1) (c:=c);obtain⟨e1,e2,_⟩:=jX hR hv;unfold pc;generalize (stR R c).1=rows at *;generalize (stR R c).2=n at *;obtain⟨i1,i2,i3,i4,i5,i6,i7,i8⟩:=h;have hlt:(rows.take n).length=n:=by rw[fy];omega
 have hg:∀i,i<n->(rows.take n).getD i default=rows.getD i default:=λi hi=>by
  simp[List.getD,jy,hi]
 have hex:∀r∈rows.take n,∃i,i<n/\rows.getD i default=r:=λr hr=>by
  obtain⟨i,hi,e⟩:=mB hr;exact⟨i,by omega,by rw[<-e,hg i (by omega)]⟩
 have hsub:∀r∈R,∀z∈r,0<=z/\z<(c:Int):=hv
 have hred:Red (rows.take n):=by
  refine⟨λr hr=>?_,λr hr=>?_,λr hr q hq hl=>?_,?_⟩
  ·obtain⟨i,hi,rfl⟩:=hex r hr;exact i1 i (by omega)
  ·obtain⟨i,hi,rfl⟩:=hex r hr;exact(i5 i hi).1
  ·obtain⟨i,hi,rfl⟩:=hex r hr;obtain⟨j,hj,rfl⟩:=hex q hq;rw[i6 i hi j (by omega) hl]
  ·rw[kX];intro i j hi hj hij;have h1:=hg i (by omega);have h2:=hg j (by omega);simp only[List.getD,hi,hj,so,u6] at h1 h2;rw[h1,h2];exact i7 i j hij (by omega)
 refine tV hred e1 λv=>?_;rw[e2,<-i4];constructor
 ·exact kP λr hr=>iq hr
 ·refine nk hred.asc λr hr=>?_;obtain⟨i,hi,e⟩:=mB hr;by_cases hin:i<n
  ·refine eO ?_;rw[<-e,<-hg i hin];exact ar (by omega)
  ·have hnil:r=[]:=by
     cases hr0:r with
     |nil=>rfl
     |cons z l=>
      have hz:z∈rows.getD i default:=by rw[e,hr0];exact de ..
      have h1:=i8 i (by omega) (by omega) z hz;have h2:=jw hR hv ((i4 r).1 (eO hr)) z (by rw[hr0];exact de ..);omega
   rw[hnil];exact Sp.nil
theorem wT{M:List Ln}{v:List Int}(hM:RedU M)(hv:Sp (M.map Prod.fst) v)(h:∀l∈M,ld l.1∉v):v=[]:=by
 have hn:(M.map Prod.fst).Nodup:=List.pairwise_map.2 (List.Pairwise.imp_of_mem (λ{a b} ha hb hab e=>hab (hM.own b hb a ha (by rw[e];exact dq (hM.ne b hb)))) hM.nodup);obtain⟨av,p,hp⟩:=xQ (ga hM) hn hv
 have hpf:∀r∈M.map Prod.fst,¬p r=true:=λr hr hpr=>by
  obtain⟨l,hl,rfl⟩:=bE.1 hr;have h1:=hp (ld l.1)
  rw [t8 hn hr (dq (hM.ne l hl)) (fun q hq hz=>by
   obtain⟨m,hm,rfl⟩:=bE.1 hq;rw[hM.own l hl m hm hz]),if_pos hpr] at h1
  exact h l hl (dD.1 (by omega))
 exact nA λz=>by rw[hp z,nR λq hq hpq=>absurd hpq (hpf q hq)]
def kN(R:List (List Int))(z j:Int):Nat:=bit z (R.getD j.toNat default)
theorem vR{f:Ln->List Int}{z:Int}{p:Ln->Bool}:∀{E:List Ln},(∀l∈E,z∉f l)->lF f z p E=0
 |[],_=>rfl
 |r::E,h=>by
  unfold lF;have hb:bit z (f r)=0:=by unfold bit;rw[if_neg (h r (de ..))]
  rw[hb,vR λl hl=>h l (dU _ hl)];split<;>rfl
theorem sD{R:List (List Int)}(hR:∀r∈R,bj r){i:Nat}(hi:i<=R.length):∀{w:List Int},(∀j∈w,0<=j/\j<(i:Int))->∃v,Sp (R.take i) v/\∀z,bit z v=bK (kN R z) w%2
 |[],_=>⟨[],Sp.nil,λz=>fj⟩
 |j::w,h=>by
  obtain⟨v,h1,h2⟩:=sD hR hi (w:=w) λk hk=>h k (dU _ hk);have hj:=h j (de ..);have hT:∀r∈R.take i,bj r:=λr hr=>hR r (iq hr)
  have hm:R.getD j.toNat default∈R.take i:=by
   have hk:j.toNat<(R.take i).length:=by rw[fy];omega
   have:=ar hk
   rwa [show(R.take i).getD j.toNat default=R.getD j.toNat default by simp[List.getD,jy,show j.toNat<i by omega]] at this
  refine⟨_,Sp.add h1 hm,λz=>?_⟩;rw[dN (kO hT h1) (hT _ hm),h2];show _=(bit z (R.getD j.toNat default)+bK (kN R z) w)%2;omega
theorem tH{R:List (List Int)}(hR:∀r∈R,bj r):∀{i:Nat},i<=R.length->∀{y:List Int},bj y->(∀j∈y,0<=j/\j<(i:Int))->(∀z,bK (kN R z) y%2=0)->Sp (stE R i).2 y
 |0,_,y,_,hr,_=>by
  cases y with
  |nil=>exact Sp.nil
  |cons j l=>have:=hr j (de ..);omega
 |i+1,hi,y,hy,hr,h0=>by
  have ih:=λ{y}=>tH hR (i:=i) (by omega) (y:=y);have hs:=fY hR (i:=i) (by omega);have hx:cI (R.getD i default,[(i:Int)]):=⟨hR _ (ar (by omega)),List.pairwise_singleton ..⟩
  have hya:cI (fp (stE R i).1 (R.getD i default,[(i:Int)])):=jr hs.red.asc hx;have hyn:=λl hl=>nM hs.red hx (l:=l) hl;have hysp:Sp ((stE R i).1.map Prod.fst) (bU (R.getD i default) (fp (stE R i).1 (R.getD i default,[(i:Int)])).1):=yF (ga hs.red) (λl hl=>⟨hs.red.asc l hl,bE.2 ⟨l,hl,rfl⟩⟩) hx
  have hxo:mg R (i + 1) (R.getD i default,[(i:Int)]):=⟨fun z=>by
   have:=gW (z:=z) (a:=R.getD i default);show bit z (R.getD i default)=(bit z (R.getD ((i:Nat):Int).toNat default)+0)%2;rw[cE];omega,λj hj=>by rw[dg.1 hj];omega⟩
  have hyo:mg R (i+1) (fp (stE R i).1 (R.getD i default,[(i:Int)])):=sJ (λl hl=>⟨hs.red.asc l hl,(hs.ok l hl).mono (by omega)⟩) hx hxo
  have hbi:bit (i:Int) (fp (stE R i).1 (R.getD i default,[(i:Int)])).2=1:=by
   unfold fp;rw[mA hs.red.asc hx,vR λl hl h=>by have:=(hs.ok l hl).2 _ h;omega];show(bit (i:Int) [(i:Int)]+0)%2=1;rw[dD.2 (dg.2 rfl)]
  have ha:∀r∈(stE R i).2,bj r:=λr hr=>(hs.dep r hr).1.2;by_cases hiy:(i:Int)∈y
  ·have hone:bj [(i:Int)]:=List.pairwise_singleton ..;by_cases hd:(fp (stE R i).1 (R.getD i default,[(i:Int)])).1=[]
   ·have hst:(stE R (i+1)).2=(stE R i).2++[(fp (stE R i).1 (R.getD i default,[(i:Int)])).2]:=by
      show(if _ then _ else _:List Ln×List (List Int)).2=_;rw[if_pos hd]
    rw[hst];obtain⟨hy1,hy2⟩:=hyo;rw[hd] at hy1;have hxa:=hya.2;generalize (fp (stE R i).1 (R.getD i default,[(i:Int)])).2=x at *
    have h1:Sp (stE R i).2 (bU y x):=ih (d9 hy hxa) (fun j hj=>by
     have hne:j≠(i:Int):=λe=>by
      rw[e] at hj;have hb:=dD.2 hj;rw[dN hy hxa,hbi,dD.2 hiy] at hb;cases hb
     rcases(dA hy hxa).1 hj with q|q
     ·have:=hr j q.1;omega
     ·have:=hy2 j q.1;omega) (λz=>by
     rw[iS _ _ _ (aP _)];have e1:=h0 z;have e2:bit z []=bK (kN R z) x%2:=hy1 z;rw[fj] at e2;omega)
    have hm:x∈(stE R i).2++[x]:=nX _ (dg.2 rfl);have h2:=Sp.add (kP (λr hr=>n8 [x] hr) h1) hm
    rwa [<-fB hy hxa hxa,gA hxa,gq] at h2
   ·exfalso;refine hd (wT hs.red ?_ hyn)
    have hw:∀j∈bU y [(i:Int)],0<=j/\j<(i:Int):=λj hj=>by
     rcases(dA hy hone).1 hj with q|q
     ·have h1:=hr j q.1;have h2:j≠(i:Int):=λe=>q.2 (dg.2 e);omega
     ·exact absurd (dg.1 q.1▸hiy) q.2
    obtain⟨v,v1,v2⟩:=sD hR (i:=i) (by omega) hw;have hT:∀r∈R.take i,bj r:=λr hr=>hR r (iq hr)
    have hv:v=R.getD i default:=iK (kO hT v1) hx.1 λz=>by
     rw[v2,iS _ _ _ (aP _)];have e1:=h0 z;have e2:=gW (z:=z) (a:=R.getD i default);show(bK (kN R z) y+(bit z (R.getD ((i:Nat):Int).toNat default)+0))%2=_;rw[cE];omega
    rw[hv] at v1;have h3:=nk (ga hs.red) hs.all v1;have h4:=lV (ga hs.red) h3 hysp
    rwa [fB hx.1 hx.1 hya.1,gA hx.1,jg] at h4
  ·refine kP (fun r hr=>?_) (ih hy (fun j hj=>by
     have h1:=hr j hj;have h2:j≠(i:Int):=λe=>hiy (e▸hj);omega) h0)
   show r∈(if _ then _ else _:List Ln×List (List Int)).2;split
   ·exact n8 _ hr
   ·exact hr
def gZ(b y:List Int):Bool:=decide (bK (λj=>bit j b) y%2=1)
def wdR(R:List (List Int))(c:Nat)(b:List Int)(i:Nat):List Int:=if (i:Int)∈b then R.getD i default++[(c:Int)] else R.getD i default
def eU(R:List (List Int))(c:Nat)(b:List Int):List (List Int):=(List.range R.length).map (wdR R c b)
def wdL(c:Nat)(b:List Int)(l:Ln):List Int:=if gZ b l.2=true then l.1++[(c:Int)] else l.1
theorem Cs{a:List Int}{c:Nat}{t:Bool}(hc:∀z∈a,z<(c:Int))(z:Int):bit z (if t=true then a++[(c:Int)] else a)=if z=c then(if t=true then 1 else 0) else bit z a:=by
 unfold bit;by_cases hz:z=c
 ·have:z∉a:=λh=>by have:=hc z h;omega
  cases t<;>simp[hz,this]
  ·exact λh=>by have:=hc _ h;omega
 ·cases t<;>simp[hz]
theorem x6{a:List Int}{c:Nat}{t:Bool}(ha:bj a)(hc:∀z∈a,z<(c:Int)):bj (if t=true then a++[(c:Int)] else a):=by
 cases t
 ·simpa using ha
 ·rw[if_pos rfl];exact List.pairwise_append.2 ⟨ha,List.pairwise_singleton ..,λx hx y hy=>by rw[dg.1 hy];exact hc x hx⟩
theorem gv{g h:Int->Nat}:∀{l:List Int},(∀x∈l,g x=h x)->bK g l=bK h l
 |[],_=>rfl
 |x::l,e=>by
  unfold bK;rw[e x (de ..),gv λy hy=>e y (dU _ hy)]
theorem sF{g:Int->Nat}{D:List (List Int)}{y:List Int}(h:Sp D y)(h0:∀d∈D,bK g d%2=0):bK g y%2=0:=by
 induction h with
 |nil=>rfl
 |add h1 h2 ih=>rw[iS _ _ _ (aP _)];have:=h0 _ h2;omega
theorem AS{g:Int->Nat}{p:Ln->Bool}:∀{M:List Ln}{x:Ln},bK g (rdL M p x).2%2=(bK g x.2+(M.map λl=>if p l=true then bK g l.2%2 else 0).sum)%2
 |[],x=>by show bK g x.2%2=(bK g x.2+0)%2;rfl
 |l::M,x=>by
  have ih:=AS (g:=g) (p:=p) (M:=M) (x:=if p l=true then ef x l else x);show bK g (rdL M p (if p l=true then ef x l else x)).2%2=(bK g x.2+((if p l=true then bK g l.2%2 else 0)+(M.map λl=>if p l=true then bK g l.2%2 else 0).sum))%2;rw[ih];clear ih;by_cases h:p l=true
  ·rw[if_pos h,if_pos h];have:=iS (g:=g) _ x.2 l.2 (aP _);show(bK g (bU x.2 l.2)+_)%2=_;omega
  ·rw[if_neg h,if_neg h];omega
theorem CG{f:Ln->List Int}{p:Ln->Bool}{S:List (List Int)}(hS:∀r∈S,bj r):∀{E:List Ln},(∀l∈E,f l∈S)->∃v,Sp S v/\∀z,bit z v=(E.map λl=>if p l=true then bit z (f l) else 0).sum%2
 |[],_=>⟨[],Sp.nil,λz=>fj⟩
 |l::E,h=>by
  obtain⟨v,v1,v2⟩:=CG (f:=f) (p:=p) hS (E:=E) λm hm=>h m (dU _ hm);have hl:=h l (de ..);by_cases hp:p l=true
  ·refine⟨_,Sp.add v1 hl,λz=>?_⟩;rw[dN (kO hS v1) (hS _ hl),v2];show _=((if p l=true then bit z (f l) else 0)+(E.map λl=>if p l=true then bit z (f l) else 0).sum)%2;rw[if_pos hp];omega
  ·refine⟨v,v1,λz=>?_⟩;rw[v2];show _=((if p l=true then bit z (f l) else 0)+(E.map λl=>if p l=true then bit z (f l) else 0).sum)%2;rw[if_neg hp,cq]
theorem zj{f:Ln->List Int}{z:Int}{p:Ln->Bool}:∀{E:List Ln},(E.map λl=>if p l=true then bit z (f l) else 0).sum=lF f z p E
 |[]=>rfl
 |l::E=>by
  show(if p l=true then bit z (f l) else 0)+(E.map λl=>if p l=true then bit z (f l) else 0).sum=_;rw[zj];rfl
theorem AB{R:List (List Int)}{c:Nat}{b:List Int}{i:Nat}(h:i<R.length):(eU R c b).getD i default=wdR R c b i:=nI h
theorem lP{R:List (List Int)}{c:Nat}{b:List Int}(hR:∀r∈R,bj r)(hv:∀r∈R,∀z∈r,0<=z/\z<(c:Int)):
    (∀r∈eU R c b,bj r)/\(∀r∈eU R c b,∀z∈r,0<=z/\z<((c+1:Nat):Int))/\∀i,i<R.length->∀z,bit z ((eU R c b).getD i default)=if z=c then bit (i:Int) b else bit z (R.getD i default):=by
 have hw:∀i,wdR R c b i=if decide ((i:Int)∈b)=true then R.getD i default++[(c:Int)] else R.getD i default:=λi=>by
  unfold wdR;by_cases h:(i:Int)∈b<;>simp[h]
 refine⟨λr hr=>?_,λr hr z hz=>?_,λi hi z=>?_⟩
 ·obtain⟨i,hi,rfl⟩:=bE.1 hr;have hi:=dZ.1 hi;rw[hw];exact x6 (hR _ (ar hi)) λz hz=>(hv _ (ar hi) z hz).2
 ·obtain⟨i,hi,rfl⟩:=bE.1 hr;have hi:=dZ.1 hi;have hvi:=hv _ (ar hi);unfold wdR at hz;split at hz
  ·rcases eM.1 hz with h|h
   ·have:=hvi z h;omega
   ·rw[dg.1 h];omega
  ·have:=hvi z hz;omega
 ·rw[AB hi,hw,Cs (λz hz=>(hv _ (ar hi) z hz).2)];by_cases h:z=c
  ·rw[if_pos h,if_pos h];by_cases hb:(i:Int)∈b<;>simp[hb,bit]
  ·rw[if_neg h,if_neg h]
theorem wO{R:List (List Int)}{c:Nat}{b:List Int}(hR:∀r∈R,bj r)(hv:∀r∈R,∀z∈r,0<=z/\z<(c:Int)){y:List Int}(hy:∀j∈y,0<=j/\j<(R.length:Int))(z:Int):
    bK (kN (eU R c b) z) y=if z=c then bK (λj=>bit j b) y else bK (kN R z) y:=by
 obtain⟨_,_,h3⟩:=lP (b:=b) hR hv;by_cases h:z=c
 ·rw[if_pos h];refine gv λj hj=>?_;have:=hy j hj;unfold kN;rw[h3 j.toNat (by omega),if_pos h,show((j.toNat:Nat):Int)=j by omega]
 ·rw[if_neg h];refine gv λj hj=>?_;have:=hy j hj;unfold kN;rw[h3 j.toNat (by omega),if_neg h]
theorem Gn{R:List (List Int)}{c:Nat}{b:List Int}(hR:∀r∈R,bj r)(hv:∀r∈R,∀z∈r,0<=z/\z<(c:Int)){y:List Int}(hy:y∈(stE R R.length).2)(ho:gZ b y=true):∃r∈pc (eU R c b) (c+1),ld r=c:=by
 obtain⟨h1,h2,_⟩:=lP (b:=b) hR hv;have hs:=fY hR (aP R.length);obtain⟨⟨_,ya⟩,yz,yr⟩:=hs.dep y hy;obtain⟨e1,e2,_⟩:=jX h1 h2;rw[pt h1 h2];have hl:(eU R c b).length=R.length:=by unfold eU;simp
 obtain⟨v,v1,v2⟩:=sD h1 (i:=R.length) (by omega) yr
 have hcv:v=[(c:Int)]:=iK (kO (λr hr=>h1 r (iq hr)) v1) (List.pairwise_singleton ..) λz=>by
  rw[v2,wO hR hv yr];by_cases h:z=c
  ·rw[if_pos h,n5 ho,h];exact(dD.2 (dg.2 rfl)).symm
  ·rw[if_neg h];have:=yz z;rw[show bit z (([],y):Ln).1=0 from fj] at this;rw[show bK (kN R z) y%2=0 from this.symm];unfold bit;rw[if_neg λq=>h (dg.1 q)]
 rw[hcv] at v1;have v3:=kP (λr hr=>iq hr) v1;exact uN e1 ((e2 _).2 v3) (by simp)
theorem wj{R:List (List Int)}{c:Nat}{b:List Int}(hR:∀r∈R,bj r)(hv:∀r∈R,∀z∈r,0<=z/\z<(c:Int))(h0:∀y∈(stE R R.length).2,gZ b y=false):pc (eU R c b) (c+1)=(ll R c).map (wdL c b):=by
 obtain⟨h1,h2,h3⟩:=lP (b:=b) hR hv;have hs:=fY hR (aP R.length);obtain⟨e1,e2,_⟩:=jX h1 h2;obtain⟨d1,d2,d3⟩:=jX hR hv;rw[pt h1 h2];have hl:(eU R c b).length=R.length:=by unfold eU;simp
 have hlv:∀l∈(stE R R.length).1,∀z∈l.1,0<=z/\z<(c:Int):=λl hl=>jw hR hv (kP (λr hr=>iq hr) (hs.inS l hl))
 have hbw:∀l∈(stE R R.length).1,∀z,bit z (wdL c b l)=if z=c then bK (λj=>bit j b) l.2%2 else bit z l.1:=λl hl z=>by
  unfold wdL;rw[Cs λz hz=>(hlv l hl z hz).2];by_cases h:z=c
  ·rw[if_pos h,if_pos h];unfold gZ;by_cases ho:bK (λj=>bit j b) l.2%2=1
   ·simp[ho]
   ·simp[ho];omega
  ·rw[if_neg h,if_neg h]
 have hwa:∀l∈(stE R R.length).1,bj (wdL c b l):=λl hl=>x6 (hs.red.asc l hl).1 λz hz=>(hlv l hl z hz).2
 have hldw:∀l∈(stE R R.length).1,ld (wdL c b l)=ld l.1:=λl hl=>by
  have hne:=hs.red.ne l hl;unfold wdL;split
  ·cases hq:l.1 with
   |nil=>exact absurd hq hne
   |cons x t=>rfl
  ·rfl
 have hF:Red ((ll R c).map (wdL c b)):=by
  refine⟨λr hr=>?_,λr hr=>?_,λr hr q hq h=>?_,?_⟩
  ·obtain⟨l,hl,rfl⟩:=bE.1 hr;exact hwa l ((d3 l).1 hl)
  ·obtain⟨l,hl,rfl⟩:=bE.1 hr;have hne:=hs.red.ne l ((d3 l).1 hl);unfold wdL;split
   ·simp
   ·exact hne
  ·obtain⟨l,hl,rfl⟩:=bE.1 hr;obtain⟨m,hm,rfl⟩:=bE.1 hq;have hl:=(d3 l).1 hl;have hm:=(d3 m).1 hm;rw[hldw l hl] at h;have h4:=dD.2 h;have h5:=hlv l hl _ (dq (hs.red.ne l hl));rw[hbw m hm,if_neg (by omega)] at h4;rw[hs.red.own l hl m hm (dD.1 h4)]
  ·rw[List.pairwise_map];refine List.Pairwise.imp_of_mem (λ{x y} hx hy h=>?_) (pf hs.red (c:=c));rw[hldw x ((d3 x).1 hx),hldw y ((d3 y).1 hy)];exact h
 refine tV e1 hF λv=>?_;rw[e2];have hTk:∀r∈(eU R c b).take R.length,bj r:=λr hr=>h1 r (iq hr);constructor
 ·refine nk hF.asc λr hr=>?_;obtain⟨i,hi,e⟩:=mB hr;have hiR:i<R.length:=by omega
  have hx:cI (R.getD i default,[(i:Int)]):=⟨hR _ (ar hiR),List.pairwise_singleton ..⟩
  have hxo:mg R R.length (R.getD i default,[(i:Int)]):=⟨fun z=>by
   have:=gW (z:=z) (a:=R.getD i default);show bit z (R.getD i default)=(bit z (R.getD ((i:Nat):Int).toNat default)+0)%2;rw[cE];omega,λj hj=>by rw[dg.1 hj];omega⟩
  have hya:=jr (p:=fe (R.getD i default,[(i:Int)])) hs.red.asc hx;have hyo:=sJ (p:=fe (R.getD i default,[(i:Int)])) (λl hl=>⟨hs.red.asc l hl,hs.ok l hl⟩) hx hxo;have hysp:=yF (p:=fe (R.getD i default,[(i:Int)])) (ga hs.red) (λl hl=>⟨hs.red.asc l hl,bE.2 ⟨l,hl,rfl⟩⟩) hx;have hyn:=λl hl=>nM hs.red hx (l:=l) hl;have hb1:=λz=>lg (p:=fe (R.getD i default,[(i:Int)])) (z:=z) hs.red.asc hx;have hg:=AS (g:=λj=>bit j b) (p:=fe (R.getD i default,[(i:Int)])) (M:=(stE R R.length).1) (x:=(R.getD i default,[(i:Int)]));unfold fp at hyn;generalize hpp:fe (R.getD i default,[(i:Int)])=p at *;have hRi:Sp ((stE R R.length).1.map Prod.fst) (R.getD i default):=hs.all _ (by rw[List.take_length];exact ar hiR)
  have hnil:(rdL (stE R R.length).1 p (R.getD i default,[(i:Int)])).1=[]:=by
   refine wT hs.red ?_ hyn;have h4:=lV (ga hs.red) hRi hysp
   rwa [fB hx.1 hx.1 hya.1,gA hx.1,jg] at h4
  obtain⟨q1,q2⟩:=hyo;rw[hnil] at q1
  have hdep:=tH hR (aP R.length) hya.2 q2 λz=>by
   have:=q1 z;rw[fj] at this;exact this.symm
  have hev:=sF (g:=λj=>bit j b) hdep λd hd=>by
   have:=h0 d hd;unfold gZ at this;have:=of_decide_eq_false this;omega
  obtain⟨u,u1,u2⟩:=CG (f:=wdL c b) (p:=p) hF.asc (E:=(stE R R.length).1) λl hl=>bE.2 ⟨l,(d3 l).2 hl,rfl⟩
  have hur:u=r:=by
   refine iK (kO hF.asc u1) (h1 r hr) λz=>?_;rw[<-e,h3 i hiR,u2];by_cases h:z=c
   ·rw[if_pos h,h]
    have hm:((stE R R.length).1.map λl=>if p l=true then bit (c:Int) (wdL c b l) else 0)=(stE R R.length).1.map λl=>if p l=true then bK (λj=>bit j b) l.2%2 else 0:=
     pK λl hl=>by rw[hbw l hl,if_pos rfl]
    rw[hm];rw[hev] at hg;have hone:bK (λj=>bit j b) [(i:Int)]=bit (i:Int) b+0:=rfl;have hlt:=gW (z:=(i:Int)) (a:=b);change 0=(bK (λj=>bit j b) [(i:Int)]+_)%2 at hg;rw[hone] at hg;omega
   ·rw[if_neg h]
    have hm:((stE R R.length).1.map λl=>if p l=true then bit z (wdL c b l) else 0)=(stE R R.length).1.map λl=>if p l=true then bit z l.1 else 0:=
     pK λl hl=>by rw[hbw l hl,if_neg h]
    rw[hm,zj (f:=Prod.fst)];have h5:=hb1 z;rw[hnil,fj] at h5;have hlt:=gW (z:=z) (a:=R.getD i default);change 0=(bit z (R.getD i default)+_)%2 at h5;omega
  rw[<-hur];exact u1
 ·refine nk h1 λr hr=>?_;obtain⟨l,hl,rfl⟩:=bE.1 hr;have hl:=(d3 l).1 hl;obtain⟨k1,k2⟩:=hs.ok l hl;obtain⟨v,v1,v2⟩:=sD h1 (i:=R.length) (by omega) k2
  have:v=wdL c b l:=iK (kO hTk v1) (hwa l hl) λz=>by
   rw[v2,wO hR hv k2,hbw l hl];by_cases h:z=c
   ·rw[if_pos h,if_pos h]
   ·rw[if_neg h,if_neg h];exact(k1 z).symm
  rw[<-this];exact kP (λr hr=>iq hr) v1
section
variable{α:Type}{K:α->α->Int}
def xz(K:α->α->Int):Nat->List α->List α->List α
 |0,_,_=>[]
 |_+1,[],b=>b
 |_+1,x::a,[]=>x::a
 |n+1,x::a,y::b=>if K x y<0 then x::xz K n a (y::b) else if K y x<0 then y::xz K n (x::a) b else xz K n a b
def jv(K:α->α->Int)(a b:List α):List α:=xz K (a.length+b.length+1) a b
theorem nP:∀(n m:Nat)(a b:List α),a.length+b.length<n->a.length+b.length<m->xz K n a b=xz K m a b
 |0,_,_,_,h,_=>absurd h (by omega)
 |_+1,0,_,_,_,h=>absurd h (by omega)
 |_+1,_+1,[],b,_,_=>rfl
 |_+1,_+1,x::a,[],_,_=>rfl
 |n+1,m+1,x::a,y::b,h1,h2=>by
  simp only[bS] at h1 h2;simp only[xz];rw[nP n m a (y::b) (by simp only[bS];omega) (by simp only[bS];omega),nP n m (x::a) b (by simp only[bS];omega) (by simp only[bS];omega),nP n m a b (by omega) (by omega)]
theorem xG{b:List α}:jv K [] b=b:=rfl
theorem yb{a:List α}:jv K a []=a:=by cases a<;>rfl
theorem B8{x y:α}{a b:List α}:jv K (x::a) (y::b)=if K x y<0 then x::jv K a (y::b) else if K y x<0 then y::jv K (x::a) b else jv K a b:=by
 show xz K (a.length+1+(b.length+1)+1) (x::a) (y::b)=_;simp only[xz];unfold jv;rw[nP (a.length+1+(b.length+1)) (a.length+(y::b).length+1) a (y::b) (by simp only[bS];omega) (by simp only[bS];omega),nP (a.length+1+(b.length+1)) ((x::a).length+b.length+1) (x::a) b (by simp only[bS];omega) (by simp only[bS];omega),nP (a.length+1+(b.length+1)) (a.length+b.length+1) a b (by omega) (by omega)]
theorem pg:∀(n:Nat)(a b:List α),a.length+b.length<=n->(jv K a b).length<=a.length+b.length
 |_,[],b,_=>by rw[xG];simp
 |_,x::a,[],_=>by rw[yb];simp
 |0,x::a,y::b,h=>by simp only[bS] at h;omega
 |n+1,x::a,y::b,h=>by
  simp only[bS] at h |-;rw[B8];have h1:=pg n a (y::b) (by simp only[bS];omega);have h2:=pg n (x::a) b (by simp only[bS];omega);have h3:=pg n a b (by omega);simp only[bS] at h1 h2;split
  ·simp only[bS];omega
  split
  ·simp only[bS];omega
  ·omega
theorem mZ(hK:LinK K):∀(n:Nat)(a b:List α),a.length+b.length<=n->bO K a->bO K b->bO K (jv K a b)/\∀z,z∈jv K a b↔(z∈a/\z∉b)\/(z∈b/\z∉a)
 |_,[],b,_,_,hb=>by rw[xG];exact⟨hb,λz=>by simp⟩
 |_,x::a,[],_,ha,_=>by rw[yb];exact⟨ha,λz=>by simp⟩
 |0,x::a,y::b,h,_,_=>by simp only[bS] at h;omega
 |n+1,x::a,y::b,h,ha,hb=>by
  simp only[bS] at h;obtain⟨a1,a2⟩:=iR.1 ha;obtain⟨b1,b2⟩:=iR.1 hb;have irr:=λv=>hK.ord.irr v;rw[B8];by_cases g1:K x y<0
  ·rw[if_pos g1];obtain⟨h1,h2⟩:=mZ hK n a (y::b) (by simp only[bS];omega) a2 hb
   have hxb:∀z∈y::b,K x z<0:=λz hz=>by
    rcases dt.1 hz with rfl|hz
    ·exact g1
    ·exact hK.trans g1 (b1 z hz)
   refine⟨iR.2 ⟨λz hz=>?_,h1⟩,λz=>?_⟩
   ·rcases(h2 z).1 hz with⟨q,_⟩|⟨q,_⟩
    ·exact a1 z q
    ·exact hxb z q
   ·rw[dt,h2,dt (a:=z) (b:=x)];by_cases hz:z=x
    ·subst hz;have:z∉y::b:=λq=>irr _ (hxb z q);simp[this]
    ·simp[hz]
  rw[if_neg g1];by_cases g2:K y x<0
  ·rw[if_pos g2];obtain⟨h1,h2⟩:=mZ hK n (x::a) b (by simp only[bS];omega) ha b2
   have hya:∀z∈x::a,K y z<0:=λz hz=>by
    rcases dt.1 hz with rfl|hz
    ·exact g2
    ·exact hK.trans g2 (a1 z hz)
   refine⟨iR.2 ⟨λz hz=>?_,h1⟩,λz=>?_⟩
   ·rcases(h2 z).1 hz with⟨q,_⟩|⟨q,_⟩
    ·exact hya z q
    ·exact b1 z q
   ·rw[dt,h2,dt (a:=z) (b:=y)];by_cases hz:z=y
    ·subst hz;have:z∉x::a:=λq=>irr _ (hya z q);simp[this]
    ·simp[hz]
  rw[if_neg g2]
  obtain rfl:x=y:=by
   rcases hK.tri x y with q|q|q
   ·exact absurd q g1
   ·exact q
   ·exact absurd q g2
  obtain⟨h1,h2⟩:=mZ hK n a b (by omega) a2 b2;refine⟨h1,λz=>?_⟩;rw[h2];by_cases hz:z=x
  ·subst hz;have q1:z∉a:=λq=>irr _ (a1 z q);have q2:z∉b:=λq=>irr _ (b1 z q);simp[q1,q2]
  ·simp[hz]
theorem HZ(hK:LinK K){a b:List α}(ha:bO K a)(hb:bO K b):bO K (jv K a b):=(mZ hK _ a b (aP _) ha hb).1
theorem HE(hK:LinK K){a b:List α}(ha:bO K a)(hb:bO K b){z:α}:z∈jv K a b↔(z∈a/\z∉b)\/(z∈b/\z∉a):=(mZ hK _ a b (aP _) ha hb).2 z
theorem Cm{a b:List α}:(jv K a b).length<=a.length+b.length:=pg _ a b (aP _)
end
def bi(s:Spx):List Spx:=if s.length<2 then [] else ct s (s.length-1)
def jQ(a:List Spx)(o:List Spx):List Spx:=a.foldl (λo s=>jv bg o (bi s)) o
def bI(a:List Spx):List Spx:=jQ a []
theorem oX{s:Spx}(h:bO cz s):bO bg (bi s):=by
 unfold bi;split
 ·exact bO.nil
 ·exact mV h
theorem fx{s f:Spx}:f∈bi s↔2<=s.length/\f.Sublist s/\f.length=s.length-1:=by
 unfold bi;split
 ·exact⟨λh=>(by cases h),λh=>absurd h.1 (by omega)⟩
 ·rw[eH];exact⟨λh=>⟨by omega,h⟩,λh=>h.2⟩
def n9(a:List Spx)(f:Spx):Nat:=(a.map λs=>(bi s).count f).sum
theorem qG{s:Spx}{a:List Spx}{f:Spx}:n9 (s::a) f=(bi s).count f+n9 a f:=by unfold n9;rw[fF,List.sum_cons]
theorem Dz{L:List Spx}(h:bO bg L)(f:Spx):L.count f%2=1↔f∈L:=by
 by_cases hf:f∈L
 ·have h1:=List.count_pos_iff.2 hf;have h2:=List.nodup_iff_count.1 (h.nodup iC) f;exact⟨λ_=>hf,λ_=>by omega⟩
 ·rw[List.count_eq_zero_of_not_mem hf];exact⟨λh=>absurd h (by decide),λh=>absurd h hf⟩
theorem tI:∀(a o:List Spx)(c:Spx->Nat),(∀s∈a,bO cz s)->bO bg o->(∀f,f∈o↔c f%2=1)->bO bg (jQ a o)/\∀f,f∈jQ a o↔(c f+n9 a f)%2=1
 |[],o,c,_,ho,hc=>⟨ho,λf=>by show f∈o↔_;rw[hc];rfl⟩
 |s::a,o,c,hs,ho,hc=>by
  have hf:=oX (hs s de)
  obtain⟨h1,h2⟩:=tI a (jv bg o (bi s)) (λf=>c f+(bi s).count f) (λt ht=>hs t (dU _ ht)) (HZ iC ho hf) λf=>by
   rw[HE iC ho hf,hc,<-Dz hf f];omega
  refine⟨h1,λf=>?_⟩;show f∈jQ a (jv bg o (bi s))↔_;rw[h2,qG,p8]
theorem jJ{a:List Spx}(hs:∀s∈a,bO cz s):bO bg (bI a)/\∀f,f∈bI a↔n9 a f%2=1:=by
 obtain⟨h1,h2⟩:=tI a [] (λ_=>0) hs bO.nil λf=>⟨λh=>(by cases h),λh=>absurd h (by decide)⟩
 exact⟨h1,λf=>by rw[show bI a=jQ a [] from rfl,h2,cq]⟩
theorem rb{a:List Spx}(hs:∀s∈a,bO cz s):bO bg (bI a):=(jJ hs).1
theorem jW{a:List Spx}(hs:∀s∈a,bO cz s){f:Spx}(hf:f∈bI a):∃s∈a,f∈bi s:=by
 have h:=((jJ hs).2 f).1 hf;have hp:0<n9 a f:=by omega
 clear h hf hs
 induction a with
 |nil=>exact absurd hp (Nat.lt_irrefl 0)
 |cons s a ih=>
  rw[qG] at hp;by_cases h:0<(bi s).count f
  ·exact⟨s,de,List.count_pos_iff.1 h⟩
  ·obtain⟨t,h1,h2⟩:=ih (by omega);exact⟨t,dU _ h1,h2⟩
theorem qm:∀(a o:List Spx),(∀s∈a,s.length<=8)->(jQ a o).length<=o.length+a.length*70
 |[],o,_=>Nat.le_add_right _ _
 |s::a,o,h=>by
  have h1:=qm a (jv bg o (bi s)) λt ht=>h t (dU _ ht);have h2:=Cm (K:=bg) (a:=o) (b:=bi s)
  have h3:(bi s).length<=70:=by
   unfold bi;split
   ·exact bC _
   ·exact nF (h s de)
  show(jQ a (jv bg o (bi s))).length<=_;rw[bS];omega
theorem xn{a:List Spx}(h:∀s∈a,s.length<=8):(bI a).length<=a.length*70:=by
 have:=qm a [] h;rw[fJ,cq] at this;exact this
def fc0:Spx->List Spx
 |[]=>[]
 |x::s=>s::(fc0 s).map (x:: ·)
theorem xk:∀{s:Spx},ct s s.length=[s]
 |[]=>rfl
 |x::s=>by rw[bS,iB,xk,lU (by omega)];rfl
theorem Ai:∀{s:Spx},s≠[]->(ct s (s.length-1)).Perm (fc0 s)
 |[],h=>absurd rfl h
 |[x],_=>by show(ct [x] 0).Perm _;rw[mW];exact List.Perm.refl _
 |x::y::s,_=>by
  show(ct (x::y::s) (s.length+1)).Perm _;rw[iB,show s.length+1=(y::s).length from rfl,xk];have ih:=Ai (s:=y::s) (by simp);show((ct (y::s) s.length).map (x:: ·)++[y::s]).Perm ((y::s)::(fc0 (y::s)).map (x:: ·));exact List.perm_append_comm.trans ((ih.map (x:: ·)).cons _)
def Dr(a:List Spx)(k:Nat):Int:=if bW (a.getD k default)≠0 then bW (a.getD k default) else if (a.getD k default).length≠(a.getD 0 default).length then 15 else if 0<k/\0<=bg (a.getD (k-1) default) (a.getD k default) then 14 else 0
def fL(a:List Spx):Int:=if 4096<a.length then 5 else dW (Dr a) a.length
theorem dP{a:List Spx}(h:fL a=0):a.length<=4096/\(∀s∈a,bW s=0)/\bO bg a/\∀s∈a,s.length=(a.getD 0 default).length:=by
 unfold fL at h;split at h
 ·exact absurd h (by decide)
 rename_i hl;have h0:=ia h
 have hk:∀k,k<a.length->bW (a.getD k default)=0/\(a.getD k default).length=(a.getD 0 default).length/\(0<k->bg (a.getD (k-1) default) (a.getD k default)<0):=λk hk=>by
  have q:=h0 k hk;unfold Dr at q;split at q
  ·exact absurd q ‹_›
  split at q
  ·exact absurd q (by decide)
  split at q
  ·exact absurd q (by decide)
  ·rename_i q1 q2 q3;exact⟨tU q1,tU q2,λh0=>by omega⟩
 have hm:∀s∈a,∃k,k<a.length/\a.getD k default=s:=λs hs=>by
  obtain⟨k,h1,h2⟩:=jO hs;exact⟨k,h1,by simp[List.getD,h1,h2]⟩
 refine⟨by omega,λs hs=>?_,?_,λs hs=>?_⟩
 ·obtain⟨k,h1,rfl⟩:=hm s hs;exact(hk k h1).1
 ·have hchain:∀j i,i<j->j<a.length->bg (a.getD i default) (a.getD j default)<0:=λj=>by
    induction j with
    |zero=>intro i hi;omega
    |succ j ih=>
     intro i hi hj;have q:=(hk (j+1) hj).2.2 (by omega);rw[qJ] at q;rcases(by omega:i<j\/i=j) with h|rfl
     ·exact iC.trans (ih i h (by omega)) q
     ·exact q
  unfold bO;rw[kX];intro i j hi hj hij;have:=hchain j i hij hj
  rwa [show a.getD i default=a[i] by simp[List.getD,hi],show a.getD j default=a[j] by simp[List.getD,hj]] at this
 ·obtain⟨k,h1,rfl⟩:=hm s hs;exact(hk k h1).2.1
theorem Cc{a:List Spx}{n:Nat}(h1:a.length<=4096)(h2:∀s∈a,bW s=0)(h3:bO bg a)(h4:∀s∈a,s.length=n):fL a=0:=by
 unfold fL;rw[if_neg (by omega)];refine dl λk hk=>?_;unfold Dr;rw[if_neg (λh=>h (h2 _ (bc hk))),if_neg (λh=>h (by rw[h4 _ (bc hk),h4 _ (bc (by omega))])),if_neg];rintro⟨q1,q2⟩;have:=dY h3 (i:=k-1) (j:=k) (by omega) hk;omega
theorem fw{a:List Spx}(h:∀s∈a,bW s=0):∀s∈a,bO cz s:=λs hs=>(bX (h s hs)).2.2.1
theorem tc{a:List Spx}{k:Nat}:Dr a k=if bW (a.getD k default)≠0 then bW (a.getD k default) else if (a.getD k default).length≠(a.getD 0 default).length then 15 else if 0<k/\0<=bg (a.getD (k-1) default) (a.getD k default) then 14 else 0:=rfl
def fS(l:List (List Spx)):AV:=jx 1 aj l
theorem ku(l:List (List Spx)):Dat (fS l):=EG (λ_=>rfl) bm
instance datI_encXsss{l:List (List Spx)}:DatI (fS l):=⟨ku l⟩
theorem u9{l:List (List Spx)}:dz (fS l)=some (.int .i64 l.length):=lR
theorem OV{l:List (List Spx)}{k:Nat}(h:k<l.length):eF 1 (fS l) (.int .i64 (k:Int))=some (.iptr [aj (l.getD k default)] 0):=by
 unfold fS;rw[nu,if_pos ⟨by omega,by omega⟩,cE];rfl
theorem I4{l:List Spx}(h:0<l.length):eF 1 (aj l) (.int .i64 0)=some (.iptr [aB (l.getD 0 default)] 0):=dC h
abbrev ShC(a:List Spx):Prop:=Shn a/\∀s∈a,Shn s
section
variable{α:Type}[DecidableEq α]{K:α->α->Int}
theorem IH(hK:LinK K){a b:List α}(ha:bO K a)(hb:bO K b)(h:∀x∈a,x∈b):a.Sublist b:=by
 have:a=b.filter λx=>decide (x∈a):=by
  refine nV hK ha (List.Pairwise.sublist xR hb) λx=>?_;rw[fM,f9];exact⟨λh'=>⟨h x h',h'⟩,And.right⟩
 rw[this];exact xR
end
section
variable{g:Vtx->Vtx}
end
def fcs(s:Spx):List Spx:=if s.length<2 then [] else fc0 s
theorem pi{s:Spx}:(fcs s).Perm (bi s):=by
 unfold fcs bi;split
 ·exact List.Perm.refl _
 ·rename_i h;exact(Ai λe=>by rw[e] at h;simp at h).symm
theorem C6{s f:Spx}:f∈fcs s↔f∈bi s:=pi.mem_iff
theorem sx:∀{s:Spx},(fc0 s).length=s.length
 |[]=>rfl
 |x::s=>by show((fc0 s).map (x:: ·)).length+1=_;rw[bo,sx];rfl
theorem Cv:∀{s:Spx}{i:Nat},i<s.length->(fc0 s).getD i default=s.take i++s.drop (i+1)
 |[],_,h=>absurd h (by simp)
 |x::s,0,_=>by simp[fc0]
 |x::s,i+1,h=>by
  have hi:i<s.length:=by simpa using h
  have:=Cv hi;show((s::(fc0 s).map (x:: ·)).getD (i+1) default)=_;have hl:i<(fc0 s).length:=by rw[sx];exact hi
  simp only[List.getD,BE,ms,so hl,mN,u6,List.take_succ_cons,List.drop_succ_cons,List.cons_append] at this |-;rw[this]
theorem pX{s:Spx}(h:bO cz s):(bi s).Nodup:=(oX h).nodup iC
theorem Ey{s:Spx}(h:bO cz s):(fcs s).Nodup:=pi.nodup_iff.2 (pX h)
def gV(X Y:List Spx)(n i:Nat):List Nat:=(List.range n).filter λk=>decide (Y.getD i default∈bi (X.getD k default))
theorem ww{X Y:List Spx}{n i:Nat}:gV X Y (n+1) i=gV X Y n i++if Y.getD i default∈bi (X.getD n default) then [n] else []:=by
 unfold gV;rw[List.range_succ,s7]
 congr 1
 by_cases h:Y.getD i default∈bi (X.getD n default)
 ·rw[if_pos h,rf (by simpa using h)];rfl
 ·rw[if_neg h,q9 (by simpa using h)];rfl
theorem sW{X Y:List Spx}{n i:Nat}:(gV X Y n i).length<=n:=by
 unfold gV;exact fm (List.length_filter_le _ _) (by simp)
def ca(X Y:List Spx):List (List Int):=(List.range Y.length).map λi=>bl (gV X Y X.length i)
section
variable{P:Program}{T:Tm}{H:Hp}{nx:Nat}
theorem KQ{dm:DM}{K:SP}{l:List Op2}{d:Option Nat}{sz bytes:Nat}{z:List AV}{s x:Opd}{k:IntKind}{n:Int}(hd:dm2 dm T (.apz sz bytes z s x)=true)(hs:ov T s=.esl)(hx:ov T x=.int k n)(h0:0<n)(h1:n<=9223372036854775807)(h2:n.toNat*bytes<=140737488355328)
    (kk:an P dm l (aO T d (.msl nx (n.toNat*sz) sz 0 n.toNat)) (ay H nx (bD (.agg z) n.toNat)) (nx+1) K):an P dm (⟨d,none,.apz sz bytes z s x⟩::l) T H nx K:=by
 refine oC rfl hd ?_ kk;simp only[ki,hs,hx];rw[if_pos ⟨h0,h1,h2⟩]
end
theorem Ib(T:Tm)(H:Hp)(x:Opd):b9 T H (.capE x)=match ov T x with|.esl=>some (.int .i64 0)|_=>none:=rfl
theorem HK(n:Nat):(bD (.agg [.int .i64 0,.int .i64 0]) n).length=n*2:=by simp[bD,AV.cells]
theorem Kh{P:Program}{T:Tm}{H:Hp}{nx:Nat}{dm:DM}{K:SP}{l:List Op2}{d:Option Nat}{sz bytes b N len n:Nat}{s x:Opd}{v:AV}{new C:List AV}(hd:dm2 dm T (.app sz bytes s x)=true)(hs:ov T s=.msl b N sz 0 len)(hb:H b=some C)(hN:C.length=N)(hx:ov T x=v)(hsrc:gI sz H v=some (n,new))(ho:AV.ones new=true)(hnl:new.length=n*sz)(hz:0<sz)(h0:0<N)(hle:(len+n)*sz<=N)(h1:(len+n)*bytes<=140737488355328)(h2:len+n<=9223372036854775807)
    (next:∀C':List AV,C'.length=N->C'.take ((len+n)*sz)=C.take (len*sz)++new->an P dm l (aO T d (.msl b N sz 0 (len+n))) (ay H b C') nx K):
    an P dm (⟨d,none,.app sz bytes s x⟩::l) T H nx K:=by
 by_cases e:N=len*sz
 ·have hn:n=0:=by
    rcases B9 n with h|h
    ·exact h
    ·have:len*sz+1*1<=len*sz+n*sz:=Nat.add_le_add_left (Nat.mul_le_mul h hz) _;rw[fX] at hle;omega
  subst hn;obtain rfl:new=[]:=List.eq_nil_of_length_eq_zero (by rw[hnl,yJ]);refine AO hd hs hb hx hsrc ho hN e h1 h2 ?_;rw[p6] at next |-;rw[<-e];exact next _ (by rw[fR];exact hN) (by rw[fR,fR])
 ·refine BJ hd hs hb hx hsrc ho hN (λ_=>e) h0 (by rw[cq];exact hle) ?_;have hlen:len*sz+new.length<=N:=by rw[hnl,<-fX];exact hle
  refine next _ ?_ ?_
  ·rw[iQ (by rw[hN];omega)];exact hN
  ·simp only[bJ,cq];rw[Il (by rw[da,fy,hN,hnl,fX];omega),fP (by rw[da,fy,hN,hnl,fX];omega)]
def iJ:Nat->Spx->List Int
 |0,_=>[]
 |n+1,[]=>0::0::iJ n []
 |n+1,v::l=>v.color::v.label::iJ n l
theorem qg:∀{n:Nat}{s:Spx},(iJ n s).length=2*n
 |0,_=>rfl
 |n+1,[]=>by show(iJ n []).length+1+1=_;rw[qg];omega
 |n+1,v::l=>by show(iJ n l).length+1+1=_;rw[qg];omega
theorem A5:∀{n:Nat}{s t:Spx},s.length=t.length->t.length<=n->iJ n s=iJ n t->s=t
 |_,[],[],_,_,_=>rfl
 |_,[],w::m,h,_,_=>absurd h (by simp)
 |_,v::l,[],h,_,_=>absurd h (by simp)
 |0,v::l,w::m,_,h,_=>absurd h (by simp)
 |n+1,v::l,w::m,hl,hm,e=>by
  obtain⟨e1,e2⟩:=List.cons.inj e;obtain⟨e2,e3⟩:=List.cons.inj e2;have:=A5 (n:=n) (by simpa using hl) (by simpa using hm) e3;rw[this,o9.2 ⟨e1,e2⟩]
abbrev z16:List AV:=[.int .i64 0,.int .i64 0,.int .i64 0,.int .i64 0,.int .i64 0,.int .i64 0,.int .i64 0,.int .i64 0,.int .i64 0,.int .i64 0,.int .i64 0,.int .i64 0,.int .i64 0,.int .i64 0,.int .i64 0,.int .i64 0]
theorem J1:z16=(iJ 8 []).map (AV.int .i64):=rfl
theorem zg:∀{n:Nat}{s:Spx},s.length<=n->cX s++((iJ n []).map (AV.int .i64)).drop (s.length*2)=(iJ n s).map (AV.int .i64)
 |n,[],_=>by simp[cX]
 |0,_::_,h=>absurd h (by simp)
 |n+1,v::l,h=>by
  have:=zg (n:=n) (s:=l) (by simp at h;omega);show [AV.int .i64 v.color,AV.int .i64 v.label]++cX l++_=AV.int .i64 v.color::AV.int .i64 v.label::(iJ n l).map (AV.int .i64);rw[<-this,bS,show(l.length+1)*2=l.length*2+1+1 by omega];rfl
def kZ(s:Spx):K16:=⟨iJ 8 s,by rw[qg]⟩
theorem E6{s t:Spx}(h:s.length=t.length)(h8:t.length<=8)(e:kZ s=kZ t):s=t:=A5 h h8 (congrArg Subtype.val e)
theorem GN{O:List Spx}{f:Spx}{n:Nat}(hn:n<=8)(hO:∀s∈O,s.length=n)(hf:f.length=n):kZ f∈O.map kZ↔f∈O:=by
 rw[bE];exact⟨λ⟨s,h1,h2⟩=>by rw[<-E6 (by rw[hO s h1,hf]) (by omega) h2];exact h1,λh=>⟨f,h,rfl⟩⟩
theorem FF{f:Spx}{n:Nat}(hn:n<=8)(hf:f.length=n):∀{O:List Spx},(∀s∈O,s.length=n)->(O.map kZ).idxOf (kZ f)=O.idxOf f
 |[],_=>rfl
 |g::O,hO=>by
  have ih:=FF hn hf (O:=O) λs hs=>hO s (dU _ hs);have hg:=hO g de;rw[fF,List.idxOf_cons,List.idxOf_cons,ih]
  have e:(kZ g==kZ f)=(g==f):=by
   rw[Bool.eq_iff_iff,beq_iff_eq,beq_iff_eq];exact⟨λh=>E6 (by rw[hg,hf]) (by omega) h,λh=>by rw[h]⟩
  rw[e]
structure BOk(H:Hp)(n:Nat)(c:Spx->Nat)(O:List Spx)(bs:List Nat)(ck:Nat):Prop where
 box:H 0=some [.bmap ((O.map kZ).map eK) (O.map aB) bs ck]
 len:bs.length=O.length
 asc:bs.Pairwise (· < ·)
 below:∀s∈bs,s<ck
 nd:O.Nodup
 all:∀f∈O,f.length=n
 odd:∀f,f∈O↔c f%2=1
theorem BOk.same{H H':Hp}{n:Nat}{c c':Spx->Nat}{O:List Spx}{bs:List Nat}{ck:Nat}(h:BOk H n c O bs ck)(hs:H' 0=H 0)(hc:∀f,c' f%2=c f%2):BOk H' n c' O bs ck:=
 ⟨hs.trans h.box,h.len,h.asc,h.below,h.nd,h.all,λf=>by rw[hc];exact h.odd f⟩
theorem BOk.put{H H':Hp}{n:Nat}{c c':Spx->Nat}{O:List Spx}{bs:List Nat}{ck:Nat}{f:Spx}(h:BOk H n c O bs ck)(hf:f∉O)(hl:f.length=n)(hH:H' 0=some [.bmap ((O.map kZ).map eK++[eK (kZ f)]) (O.map aB++[aB f]) (bs++[ck]) (ck+1)])(hc:∀g,c' g=c g+if g=f then 1 else 0):BOk H' n c' (O++[f]) (bs++[ck]) (ck+1):=by
 refine⟨by rw[hH];simp,by rw[da,da,h.len];rfl,?_,λs hs=>?_,?_,λg hg=>?_,λg=>?_⟩
 ·exact List.pairwise_append.2 ⟨h.asc,List.pairwise_singleton _ _,λa ha b hb=>by rw[dg.1 hb];exact h.below a ha⟩
 ·rcases eM.1 hs with q|q
  ·have:=h.below s q;omega
  ·rw[dg.1 q];omega
 ·exact zH.2 ⟨h.nd,by simp,λa ha b hb e=>by rw[e,dg.1 hb] at ha;exact hf ha⟩
 ·rcases eM.1 hg with q|q
  ·exact h.all g q
  ·rw[dg.1 q];exact hl
 ·rw[eM,dg,h.odd,hc];by_cases e:g=f
  ·subst e;have:¬c g%2=1:=λq=>hf ((h.odd g).2 q);rw[if_pos rfl];exact⟨λ_=>by omega,λ_=>.inr rfl⟩
  ·rw[if_neg e];simp[e]
theorem iL{α β:Type}{f:α->β}:∀{l:List α}{i:Nat},(l.map f).eraseIdx i=(l.eraseIdx i).map f
 |[],_=>rfl
 |a::l,0=>rfl
 |a::l,i+1=>by show f a::(l.map f).eraseIdx i=f a::(l.eraseIdx i).map f;rw[iL]
theorem BOk.del{H H':Hp}{n:Nat}{c c':Spx->Nat}{O:List Spx}{bs:List Nat}{ck i:Nat}{f:Spx}(h:BOk H n c O bs ck)(hf:f∈O)(hi:O.idxOf f=i)(hH:H' 0=some [.bmap (((O.map kZ).map eK).eraseIdx i) ((O.map aB).eraseIdx i) (bs.eraseIdx i) ck])(hc:∀g,c' g=c g+if g=f then 1 else 0):BOk H' n c' (O.erase f) (bs.eraseIdx i) ck:=by
 have hil:i<O.length:=by rw[<-hi];exact nY.2 hf
 have he:O.erase f=O.eraseIdx i:=List.erase_eq_eraseIdx_of_idxOf hi;refine⟨?_,?_,h.asc.sublist (List.eraseIdx_sublist _ _),λs hs=>h.below s ((List.eraseIdx_sublist _ _).subset hs),h.nd.erase _,λg hg=>h.all g (List.mem_of_mem_erase hg),λg=>?_⟩
 ·rw[hH,he];rw[iL,iL,iL]
 ·rw[he,List.length_eraseIdx_of_lt hil,List.length_eraseIdx_of_lt (by rw[h.len];exact hil),h.len]
 ·rw[h.nd.mem_erase_iff,h.odd,hc];by_cases e:g=f
  ·subst e;have:=(h.odd g).1 hf;rw[if_pos rfl];constructor
   ·exact λq=>absurd rfl q.1
   ·intro q;omega
  ·rw[if_neg e];simp[e]
theorem mU{α:Type}[DecidableEq α]{a b:List α}(h:a.Nodup)(hs:∀x∈a,x∈b):a.length<=b.length:=Aa h hs
theorem El{l:List Spx}{s f:Spx}:n9 (l++[s]) f=n9 l f+(bi s).count f:=by unfold n9;simp
theorem BM{D:List Spx}{f g:Spx}{m:Nat}:m+(D++[f]).count g=m+D.count g+if g=f then 1 else 0:=by
 rw[List.count_append,List.count_singleton,p8]
 congr 2
 by_cases e:g=f
 ·subst e;simp
 ·rw[if_neg e,if_neg];simp only[beq_iff_eq];exact λh=>e h.symm
theorem wu{O:List Spx}{i:Nat}(h:i<O.length):(O.map aB).getD i .undef=aB (O.getD i default):=by simp[List.getD,h]
theorem DE{s f:Spx}(hs:bW s=0)(hf:f∈bi s):bW f=0:=by
 obtain⟨h1,h2,h3⟩:=fx.1 hf;obtain⟨p1,p2,p3,p4⟩:=bX hs;exact zK ⟨by omega,by omega⟩ (p3.sublist h2) λv hv=>p4 v (h2.subset hv)
theorem nH{a:List Spx}(ha:∀s∈a,bW s=0):∀f∈bI a,bW f=0:=λf hf=>by
 obtain⟨s,h1,h2⟩:=jW (fw ha) hf;exact DE (ha s h1) h2
theorem w5{a:List Spx}{n:Nat}(ha:∀s∈a,bO cz s)(hn:∀s∈a,s.length=n):∀f∈bI a,f.length=n-1:=λf hf=>by
 obtain⟨s,h1,h2⟩:=jW ha hf;rw[(fx.1 h2).2.2,hn s h1]
theorem BH{a o:List Spx}{k:Nat}(hk:k<a.length):jQ (a.take (k+1)) o=jv bg (jQ (a.take k) o) (bi (a.getD k default)):=by
 rw[bT hk];unfold jQ;rw[List.foldl_append];rfl
theorem wt{a:List Spx}(h:∀s∈a,bW s=0):∀s∈a,s.length<=8:=λs hs=>(bX (h s hs)).2.1
def gx(a:List Spx):List Spx×Int:=if fL a≠0 then([],fL a) else if 4096<(bI a).length then([],5) else(bI a,0)
def IV(a:List Spx):Bool×Int:=if fL a≠0 then(false,fL a) else(decide (bI a=[]),0)
def on3(b1:Nat)(c1:List AV)(b2:Nat)(c2:List AV)(b3:Nat)(c3:List AV):Hp:=λx=>if x=b1 then some c1 else if x=b2 then some c2 else if x=b3 then some c3 else none
theorem B2{P:Program}{T:Tm}{H:Hp}{nx:Nat}(b1 b2 b3:Nat){c1 c2 c3:List AV}{K:CP}{m:Nat}{l:List Op2}{C:List (Nat×Nat)}(h1:H b1=some c1)(h2:H b2=some c2)(h3:H b3=some c3)(n1:b2≠b1)(n2:b3≠b1)(n3:b3≠b2)(k:∀S:Hp,S b1=some c1->S b2=some c2->S b3=some c3->(∀H':Hp,H' b1=some c1->H' b2=some c2->H' b3=some c3->Sub S H')->be P S (C.map λk=>(l.getD k.1 ⟨none,none,.dead⟩,k.2)) T H nx λT H nx=>K .normal T H nx):aK P (.mixS m l C) T H nx K:=by
 have hsub:∀H':Hp,H' b1=some c1->H' b2=some c2->H' b3=some c3->Sub (on3 b1 c1 b2 c2 b3 c3) H':=λH' a b c x cs h=>by
  unfold on3 at h;split at h
  ·rename_i e;rw[e,a];exact h
  split at h
  ·rename_i e;rw[e,b];exact h
  split at h
  ·rename_i e;rw[e,c];exact h
  ·cases h
 refine x9 (on3 b1 c1 b2 c2 b3 c3) rfl (hsub H h1 h2 h3) (k _ ?_ ?_ ?_ hsub)
 ·unfold on3;rw[if_pos rfl]
 ·unfold on3;rw[if_neg n1,if_pos rfl]
 ·unfold on3;rw[if_neg n2,if_neg n3,if_pos rfl]
theorem yy{α:Type}{p q:Prop}[Decidable p][Decidable q](h:p↔q){a b:α}:(if p then a else b)=if q then a else b:=by
 by_cases hq:q
 ·rw[if_pos hq,if_pos (h.2 hq)]
 ·rw[if_neg hq,if_neg λx=>hq (h.1 x)]
def EN(c:List Spx)(d:Int):List Spx×Int:=if d<0 then([],0) else dy c (d+1)
def am(c:List Spx)(d:Int):List Spx:=if d<=0 then [] else gj c d.toNat
def pm(c:List Spx)(d:Int):(Int×List (List Int))×Int:=if aA c≠0 then((0,[]),aA c) else if d<0\/8<=d then((0,[]),2) else((((am c (d+1)).length:Nat),ca (am c (d+1)) (am c d)),0)
theorem Db{c:List Spx}{d:Int}(hc:aA c=0)(h1:-1<=d)(h2:d<8):EN c d=(am c (d+1),0):=by
 unfold EN am dy;by_cases h:d<0
 ·rw[if_pos h,if_pos (by omega)]
 ·rw[if_neg h,if_neg (λq=>q hc),if_neg (by omega),if_neg (by omega)]
theorem gG{c:List Spx}{d:Int}:bO bg (am c d):=by
 unfold am;split
 ·exact bO.nil
 ·exact FV
theorem ir{c:List Spx}{d:Int}(hc:c.length<=50)(h:aA c=0):(am c d).length<=3500:=by
 unfold am;split
 ·exact bC _
 ·exact pb hc (wt (di h).2.1)
theorem ig{c:List Spx}{d:Int}{s:Spx}:s∈am c d↔0<d/\s.length=d.toNat/\∃t∈c,s.Sublist t:=by
 unfold am;split
 ·exact⟨λh=>(by cases h),λh=>absurd h.1 (by omega)⟩
 ·rw[y7];constructor
  ·rintro⟨t,t1,t2⟩;exact⟨by omega,(eH.1 t2).2,t,t1,(eH.1 t2).1⟩
  ·rintro⟨_,h1,t,t1,t2⟩;exact⟨t,t1,eH.2 ⟨t2,h1⟩⟩
theorem dG{c:List Spx}{d:Int}(h:aA c=0):∀s∈am c d,bW s=0:=λs hs=>by
 obtain⟨h1,h2,t,t1,t2⟩:=ig.1 hs;obtain⟨p1,p2,p3,p4⟩:=bX ((di h).2.1 t t1);have:=t2.length_le;exact zK ⟨by omega,by omega⟩ (p3.sublist t2) λv hv=>p4 v (t2.subset hv)
theorem Bv{c:List Spx}{d:Int}{s f:Spx}(hs:s∈am c (d+1))(hf:f∈bi s):f∈am c d:=by
 obtain⟨h1,h2,t,t1,t2⟩:=ig.1 hs;obtain⟨g1,g2,g3⟩:=fx.1 hf;exact ig.2 ⟨by omega,by omega,t,t1,g2.trans t2⟩
def eI(L a:List Spx):List Nat:=a.map λs=>L.idxOf s
abbrev a9(a:List Spx):Nat:=(a.getD 0 default).length
def dF(c a:List Spx):List Int×Int:=if aA c≠0 then([],aA c) else if fL a≠0 then([],fL a) else if a=[] then([],0) else if (a.all λs=>decide (s∈am c (a9 a)))=true then(bl (eI (am c (a9 a)) a),0) else([],6)
theorem rB{l:List Nat}{n:Nat}:bl (l++[n])=bl l++[(n:Int)]:=by unfold bl;rw[cA];rfl
theorem w9{L a:List Spx}{k:Nat}(h:k<a.length):eI L (a.take (k+1))=eI L (a.take k)++[L.idxOf (a.getD k default)]:=by
 unfold eI;rw[bT h,cA];rfl
theorem Cu{l:List Spx}(hn:l.Nodup){v:Spx}{k:Nat}(hk:k<l.length)(hv:l.getD k default=v):l.idxOf v=k:=by
 have hm:v∈l:=by rw[<-hv];exact ar hk
 have h1:=nY.2 hm;have h2:l[l.idxOf v]=v:=List.getElem_idxOf h1;have h3:l[k]=v:=by simpa[List.getD,hk] using hv
 exact(List.getElem_inj hn).1 (h2.trans h3.symm)
theorem gu{H:Hp}{s:AV}{l:List Int}{e f:Int}(h:Snap H s (aD l))(he:e=f):Snap H (.tup [s,.int .i64 e]) (.tup [aD l,.int .i64 f]):=by
 subst he;exact bt (ag h (ag (.int _ _) ak))
def yR(n:Nat)(v:List Int)(k:Nat):Int:=if v.getD k default<0\/(n:Int)<=v.getD k default then 2 else if 0<k/\v.getD k default<=v.getD (k-1) default then 14 else 0
def qI(n:Nat)(v:List Int):Int:=dW (yR n v) v.length
theorem tQ{n:Nat}{v:List Int}{k:Nat}:yR n v k=if v.getD k default<0\/(n:Int)<=v.getD k default then 2 else if 0<k/\v.getD k default<=v.getD (k-1) default then 14 else 0:=rfl
def cf(X:List Spx)(v:List Int):List Spx:=v.map λi=>X.getD i.toNat default
theorem sL{X:List Spx}{v:List Int}{k:Nat}(h:k<v.length):cf X (v.take (k+1))=cf X (v.take k)++[X.getD (v.getD k default).toNat default]:=by
 unfold cf;rw[bT h,cA];rfl
def vn(c:List Spx)(d:Int)(v:List Int):List Spx×Int:=if aA c≠0 then([],aA c) else if d<0\/8<=d then([],2) else if qI (am c (d+1)).length v≠0 then([],qI (am c (d+1)).length v) else(cf (am c (d+1)) v,0)
theorem ixV{l:List Int}{k:Nat}(h:k<l.length):eF 1 (aD l) (.int .i64 (k:Int))=some (.iptr [.int .i64 (l.getD k default)] 0):=by
 rw[nz,if_pos ⟨by omega,by omega⟩,cE]
theorem cr{l:List Int}:dz (aD l)=some (.int .i64 l.length):=uV
def ee(l:List Int):Spx:=l.map λc=>⟨c,0⟩
theorem Er{l:List Int}{k:Nat}(h:k<l.length):ee (l.take (k+1))=ee (l.take k)++[⟨l.getD k default,0⟩]:=by
 unfold ee;rw[bT h,cA];rfl
structure PairV where
 a:List Spx
 b:List Spx
 d:Int
theorem pT{H:Hp}{b n:Nat}{l:List Spx}(h:H b=some (l.map aB))(hn:n=l.length):Snap H (.msl b n 1 0 n) (aj l):=by
 subst hn;have:=Row.box (H:=H) (sz:=1) b l.length (l.map aB) h (by simp);rw[Nat.mul_one] at this;exact gc this
theorem E9{H:Hp}{b n:Nat}{cs:List AV}{l:List (List Int)}(hb:H b=some cs)(hn:cs.length=n)(h:aL H cs (l.map aD)):Snap H (.msl b n 1 0 n) (br l):=by
 have hl:=h.1;refine jP (l:=l.map aD) hb hn (by omega) (by omega) (λy hy=>?_) (λi a c ha hc=>?_)
 ·obtain⟨z,_,rfl⟩:=bE.1 hy;rfl
 ·rw[cq] at ha;exact h.2 i a c ha hc
section
attribute [local irreducible] aK an bk a5 aR aU aF aV a8 bu Go.Abs.Fn aZ Go.Abs.Pure az aL Yl
theorem uP(a:List Spx)(ha:ShC a):pU 75 [aj a] (.int .i64 (fL a)):=by
 refine pO Oz ?_;simp only[b75,aH];have ha':a.length<=17592186044416:=ha.1;unfold fL;by_cases h0:4096<a.length
 ·rw[if_pos h0];refine wnZ (zI3 @ae @ai @af) ?_
  all_goals exact eh rfl
 rw[if_neg h0];refine wnZ (zI3 @ae @ai @af) ?_;refine kE (X:=Nat) (λk=>[(0,aj a),(9,aj a),(10,.int .i64 a.length),(11,.int .i64 k)]) (λk=>k<=a.length/\∀i,i<k->Dr a i=0) (λk=>a.length-k) 0 ⟨bC _,λi h=>absurd h (by omega)⟩ ag0 ?_;rintro k ⟨h1,h2⟩;by_cases hk:k<a.length
 rotate_left
 ·rw[dl λi hi=>h2 i (by omega)];refine wnY and_self ?_;exact .int _ _
 have ix:=dC hk;have i0:=I4 (l:=a) (by omega);have hs1:=ha.2 _ (ar hk);have hp:=qb (a.getD k default) hs1;have hsp:=tc (a:=a) (k:=k);by_cases he:bW (a.getD k default)≠0
 ·rw[if_pos he] at hsp;rw[cL hk h2 (by rw[hsp];exact he),hsp];have z:decide (bW (a.getD k default)≠0)=true:=aM he;refine wnY (zI4 @ae @ap @ix @z) ?_;exact .int _ _
 rw[if_neg he] at hsp;have he:=tU he;rw[he] at hp;have z:decide ((0:Int)≠0)=false:=rfl;by_cases hl:(a.getD k default).length≠(a.getD 0 default).length
 ·rw[if_pos hl] at hsp;rw[cL hk h2 (by rw[hsp];decide),hsp];have z1:decide (((a.getD k default).length:Int)≠(a.getD 0 default).length)=true:=aM (by omega);refine wnY (zI6 @ae @ap @ix @i0 @z @z1) ?_;exact .int _ _
 rw[if_neg hl] at hsp;have z1:decide (((a.getD k default).length:Int)≠(a.getD 0 default).length)=false:=aQ (by omega);by_cases hk0:0<k
 rotate_left
 ·rw[if_neg (λh=>hk0 h.1)] at hsp;have zk:decide (0<(k:Int))=false:=aQ (by omega);refine wnY (zI7 @ae @ap @ix @i0 @z @z1 @zk) ?_
  exact ⟨k + 1,⟨by omega,fun i hi=>by
   rcases ij.1 hi with h'|rfl
   ·exact h2 i h'
   ·exact hsp⟩,by omega,ag0,rfl,rfl⟩
 have zk:decide (0<(k:Int))=true:=aM (by omega)
 have iy:eF 1 (aj a) (.int .i64 ((k:Int)-1))=some (.iptr [aB (a.getD (k-1) default)] 0):=by
  have:=dC (l:=a) (k:=k-1) (by omega)
  rwa [show((k-1:Nat):Int)=(k:Int)-1 by omega] at this
 have hcm:=im (a.getD (k-1) default) (a.getD k default) (ha.2 _ (ar (by omega))) hs1;by_cases hv:0<=bg (a.getD (k-1) default) (a.getD k default)
 ·have z2:decide (0<=bg (a.getD (k-1) default) (a.getD k default))=true:=aM hv;rw[if_pos ⟨hk0,hv⟩] at hsp;rw[cL hk h2 (by rw[hsp];decide),hsp];refine wnY (zI9 @ae @ap @ix @i0 @iy @z @z1 @zk @z2) ?_;exact .int _ _
 ·have z2:decide (0<=bg (a.getD (k-1) default) (a.getD k default))=false:=aQ hv;rw[if_neg (λh=>hv h.2)] at hsp;refine wnY (zI9 @ae @ap @ix @i0 @iy @z @z1 @zk @z2) ?_
  exact ⟨k + 1,⟨by omega,fun i hi=>by
   rcases ij.1 hi with h'|rfl
   ·exact h2 i h'
   ·exact hsp⟩,by omega,ag0,rfl,rfl⟩
theorem H8(a:List Spx)(ha:ShC a):pU 117 [aj a] (.int .i64 (fL a)):=by
 refine pO M9 ?_;simp only[N5,aH];have ha':a.length<=17592186044416:=ha.1;unfold fL;by_cases h0:4096<a.length
 ·rw[if_pos h0];refine wnZ (zI3 @ae @ai @af) ?_
  all_goals exact eh rfl
 rw[if_neg h0];refine wnZ (zI3 @ae @ai @af) ?_;refine kE (X:=Nat) (λk=>[(0,aj a),(3,.int .i64 k)]) (λk=>k<=a.length/\∀i,i<k->Dr a i=0) (λk=>a.length-k) 0 ⟨bC _,λi h=>absurd h (by omega)⟩ ag0 ?_;rintro k ⟨h1,h2⟩;by_cases hk:k<a.length
 rotate_left
 ·rw[dl λi hi=>h2 i (by omega)];refine wnY @ae ?_;exact .int _ _
 have ix:=dC hk;have i0:=I4 (l:=a) (by omega);have hs1:=ha.2 _ (ar hk);have hp:=xC (a.getD k default) hs1;have hsp:=tc (a:=a) (k:=k);by_cases he:bW (a.getD k default)≠0
 ·rw[if_pos he] at hsp;rw[cL hk h2 (by rw[hsp];exact he),hsp];have z:decide (bW (a.getD k default)≠0)=true:=aM he;refine wnY (zI4 @ae @ap @ix @z) ?_;exact .int _ _
 rw[if_neg he] at hsp;have he:=tU he;rw[he] at hp;have z:decide ((0:Int)≠0)=false:=rfl;by_cases hl:(a.getD k default).length≠(a.getD 0 default).length
 ·rw[if_pos hl] at hsp;rw[cL hk h2 (by rw[hsp];decide),hsp];have z1:decide (((a.getD k default).length:Int)≠(a.getD 0 default).length)=true:=aM (by omega);refine wnY (zI6 @ae @ap @ix @i0 @z @z1) ?_;exact .int _ _
 rw[if_neg hl] at hsp;have z1:decide (((a.getD k default).length:Int)≠(a.getD 0 default).length)=false:=aQ (by omega);by_cases hk0:0<k
 rotate_left
 ·rw[if_neg (λh=>hk0 h.1)] at hsp;have zk:decide (0<(k:Int))=false:=aQ (by omega);refine wkY (zI7 @ae @ap @ix @i0 @z @z1 @zk) ?_
  exact ⟨k + 1,⟨by omega,fun i hi=>by
   rcases ij.1 hi with h'|rfl
   ·exact h2 i h'
   ·exact hsp⟩,by omega,ag0,rfl,rfl⟩
 have zk:decide (0<(k:Int))=true:=aM (by omega)
 have iy:eF 1 (aj a) (.int .i64 ((k:Int)-1))=some (.iptr [aB (a.getD (k-1) default)] 0):=by
  have:=dC (l:=a) (k:=k-1) (by omega)
  rwa [show((k-1:Nat):Int)=(k:Int)-1 by omega] at this
 have hcm:=gw (a.getD (k-1) default) (a.getD k default) (ha.2 _ (ar (by omega))) hs1;by_cases hv:0<=bg (a.getD (k-1) default) (a.getD k default)
 ·have z2:decide (0<=bg (a.getD (k-1) default) (a.getD k default))=true:=aM hv;rw[if_pos ⟨hk0,hv⟩] at hsp;rw[cL hk h2 (by rw[hsp];decide),hsp];refine wkY (zI9 @ae @ap @ix @i0 @iy @z @z1 @zk @z2) ?_;exact .int _ _
 ·have z2:decide (0<=bg (a.getD (k-1) default) (a.getD k default))=false:=aQ hv;rw[if_neg (λh=>hv h.2)] at hsp;refine wkY (zI9 @ae @ap @ix @i0 @iy @z @z1 @zk @z2) ?_
  exact ⟨k + 1,⟨by omega,fun i hi=>by
   rcases ij.1 hi with h'|rfl
   ·exact h2 i h'
   ·exact hsp⟩,by omega,ag0,rfl,rfl⟩
def vq(a:List Spx):Bool:=((a.take 50).all λs=>decide (s.length<=10))&&(decide (a.length<=40) || decide (4096<a.length))
theorem JC(a:List Spx)(ha:ShC a):pU 40 [aj a] (.bool (vq a)):=by
 refine pO OZ ?_;simp only[b40,aH];have ha':a.length<=17592186044416:=ha.1;have hlt:(a.take 50).length=min 50 a.length:=fy;refine wnZ @ae ?_;refine kE (X:=Nat) (λk=>[(0,aj a),(3,.int .i64 k)]) (λk=>k<=(a.take 50).length/\∀i,i<k->decide (((a.take 50).getD i default).length<=10)=true) (λk=>(a.take 50).length-k) 0 ⟨bC _,λi h=>absurd h (by omega)⟩ ag0 ?_;rintro k ⟨h1,h2⟩;by_cases hk:k<(a.take 50).length
 rotate_left
 ·have e:vq a=(decide (a.length<=40) || decide (4096<a.length)):=by
    unfold vq;rw[iU λi hi=>h2 i (by omega),Bool.true_and]
  rw[e];by_cases h3:a.length<=40
  ·have y1:decide ((a.length:Int)<=40)=true:=aM (by omega);have y2:decide ((k:Int)<a.length)=false:=aQ (by omega);rw[aM h3];refine wnY (zI3 @ae @y1 @y2) ?_;exact .bool _
  ·have y1:decide ((a.length:Int)<=40)=false:=aQ (by omega);rw[aQ h3,Bool.false_or];by_cases h4:k<a.length
   ·have y2:decide ((k:Int)<a.length)=true:=aM (by omega);have y3:decide ((k:Int)<50)=false:=aQ (by omega);refine wnY (zI4 @ae @y1 @y2 @y3) ?_;exact cC (decide_eq_decide.2 (by omega))
   ·have y2:decide ((k:Int)<a.length)=false:=aQ (by omega);refine wnY (zI3 @ae @y1 @y2) ?_;exact cC (decide_eq_decide.2 (by omega))
 have hk1:k<a.length:=by omega
 have ix:=dC hk1;have e:(a.take 50).getD k default=a.getD k default:=qM (by omega);have y2:decide ((k:Int)<a.length)=true:=aM (by omega);have y3:decide ((k:Int)<50)=true:=aM (by omega);by_cases hs:(a.getD k default).length<=10
 ·have y4:decide ((10:Int)<(a.getD k default).length)=false:=aQ (by omega);refine wnY (zI6 @ae @ap @ix @y2 @y3 @y4) ?_
  exact ⟨k + 1,⟨by omega,fun i hi=>by
   rcases ij.1 hi with h'|rfl
   ·exact h2 i h'
   ·rw[e];exact aM hs⟩,by omega,ag0,rfl,rfl⟩
 ·have y4:decide ((10:Int)<(a.getD k default).length)=true:=aM (by omega)
  have e2:vq a=false:=by
   unfold vq;rw[il hk (by rw[e];exact aQ hs),Bool.false_and]
  rw[e2];refine wnY (zI6 @ae @ap @ix @y2 @y3 @y4) ?_;exact .bool _
theorem wR(l:List Spx)(hl:l.length<=100000)(hs:∀x∈l,x.length<=1000000):pU 84 [aj l] (aj l):=by
 refine pO OT ?_;simp only[b84,aH];refine wnZ @ae ?_;refine bZ (X:=AV×Nat) (λx=>[(3,x.1),(6,aj l),(7,.int .i64 l.length),(8,.int .i64 x.2)]) (λx H nx=>x.2<=l.length/\Row H 1 x.1 ((l.take x.2).map aB)/\∀b,bz x.1=some b->b<nx) (λx=>l.length-x.2) (.esl,0) ⟨bC _,Row.nil,λb hb=>(by cases hb)⟩ ag0 ?_;rintro⟨s,j⟩ H nx ⟨h1,h2,h3⟩;dsimp only at h1 h2 h3 |-;by_cases hj:j<l.length
 ·have hw:=ar hj;have hcl:=Ei _ (hs _ hw);have ix:=dC hj;refine wnY @ix ?_;refine gg ev0 ev0 hcl (ag (cW _ _) ak) ?_;refine wnY (aI @aY @aJ) ?_;refine hZ rfl ev0 (h2.same λb hb=>?_) ev0 ed rfl rfl ke (by simp;omega) (by simp;omega) ?_
  ·have:=h3 b hb;rw[ac (by omega)]
  rintro s2 E e hrow hle1 hle2 hsame hb2;refine wnY and_self ?_;refine⟨(s2,j+1),by dsimp only;omega,⟨by dsimp only;omega,?_,λb hb=>?_⟩,ag0⟩
  ·dsimp only;rw[B5 hj,cA];exact hrow
  ·rcases hb2 b hb with h|h
   ·have:=h3 b h;omega
   ·omega
 ·refine wnY and_self ?_;rw[fP (by omega)] at h2;exact gc h2
theorem Ed(l:List Spx)(hl:Shn l)(hs:∀x∈l,x.length<=1000000):pU 76 [aj l] (.tup [aj (if 4096<l.length then [] else l),.int .i64 (if 4096<l.length then 5 else 0)]):=by
 refine pO O6 ?_;simp only[b76,aH];have hl':l.length<=17592186044416:=hl;by_cases h:4096<l.length
 ·have z:decide ((4096:Int)<l.length)=true:=aM (by omega);rw[if_pos h,if_pos h];refine wnY (aI @ae @z) ?_;exact d6 (.eslsl _) rfl
 ·have z:decide ((4096:Int)<l.length)=false:=aQ (by omega);rw[if_neg h,if_neg h];have hc:=wR l (by omega) hs;refine wnY (aI @ae @z) ?_;exact d6 (bm _).snap rfl
theorem Kk(a b:List Spx)(ha:a.length<=1000000/\∀s∈a,Shn s)(hb:b.length<=1000000/\∀s∈b,Shn s):pU 119 [aj a,aj b] (aj (jv bg a b)):=by
 refine pO Nz ?_;simp only[LZ,aH]
 repeat' (first|refine zW ?_|apply a_n|refine zO ?_|refine vZ ?_|fail)
 refine bZ (X:=Nat×Nat×List Spx×AV) (λx=>[(0,aj a),(1,aj b),(5,x.2.2.2),(6,.int .i64 x.1),(7,.int .i64 x.2.1)]) (λx H nx=>x.1<=a.length/\x.2.1<=b.length/\x.2.2.1.length<=x.1+x.2.1/\x.2.2.1++jv bg (a.drop x.1) (b.drop x.2.1)=jv bg a b/\Row H 1 x.2.2.2 (x.2.2.1.map aB)/\∀b,bz x.2.2.2=some b->b<nx) (λx=>(a.length-x.1)+(b.length-x.2.1)) (0,0,[],.esl) ⟨bC _,bC _,by simp,rfl,Row.nil,λb hb=>(by cases hb)⟩ ag0 ?_;rintro⟨i,j,D,sv⟩ H nx ⟨h1,h2,h3,h4,h5,h6⟩;dsimp only at h1 h2 h3 h4 h5 h6 |-
 have key:∀(x:Spx){P:Program}{T:Tm}{dm:DM}{K:SP}{l:List Op2}{d:Option Nat}{s v:Opd},dm2 dm T (.app 1 24 s v)=true->ov T s=sv->ov T v=.msl nx 1 1 0 1->
     (∀(sv':AV)(H':Hp)(nx':Nat),Row H' 1 sv' ((D++[x]).map aB)->(∀b,bz sv'=some b->b<nx')->an P dm l (aO T d sv') H' nx' K)->
     D.length<=2000000->an P dm (⟨d,none,.app 1 24 s v⟩::l) T (ay H nx [aB x]) (nx+1) K:=by
  intro x P T dm K l d s v k1 k2 k3 k4 k5;refine hZ k1 k2 (h5.same λb hb=>?_) k3 ed rfl rfl ke (by rw[bo];omega) (by rw[bo];omega) ?_
  ·have:=h6 b hb;rw[ac (by omega)]
  rintro s2 E e hrow hle1 hle2 hsame hb2;refine k4 s2 E e (by rw[cA];exact hrow) λb hb=>?_;rcases hb2 b hb with h|h
  ·have:=h6 b h;omega
  ·omega
 by_cases hi:i<a.length
 ·have ix:=dC hi;have hsx:=ha.2 _ (ar hi);rw[fK hi] at h4;have z1:decide ((i:Int)<a.length)=true:=aM (by omega);have z5:decide ((i:Int)=a.length)=false:=aQ (by omega);by_cases hj:j<b.length
  ·have iy:=dC hj;have hsy:=hb.2 _ (ar hj);rw[fK hj,B8,<-fK hi,<-fK hj] at h4;have hc1:=gw _ _ hsx hsy;have hc2:=gw _ _ hsy hsx;have z2:decide ((j:Int)=b.length)=false:=aQ (by omega);generalize a.getD i default=x at *;generalize b.getD j default=y at *;by_cases g1:bg x y<0
   ·have z3:decide (bg x y<0)=true:=aM g1;rw[if_pos g1] at h4;have zz:=aI @ae (aI @z1 (aI @z2 (aI @z3 (aI @ix (aI @iy (aI @aY @aJ))))));repeat' (first|refine zW ?_|refine zM ?_|apply a_n|refine zO ?_|refine vY ?_|refine cY ?_ (hp:=by first|exact hc1|exact hc2) (hs:=by(first|refine aG ?_ rfl|apply aW);(repeat' (first|exact ak|apply bv|apply aX|exact cW _));first|done|fail)|refine blY ?_|refine gTY ?_|refine gFY ?_|refine cTY ?_|fail)
    refine key x rfl ev0 ev0 (λs2 H2 nx2 r1 r2=>?_) (by omega)
    repeat' (first|apply a_n|refine zO ?_|refine vY ?_|fail)
    exact⟨(i+1,j,D++[x],s2),by dsimp only;omega,⟨by dsimp only;omega,h2,by simp;omega,by dsimp only;rw[kq];exact h4,r1,r2⟩,ag0⟩
   have z3:decide (bg x y<0)=false:=aQ g1;rw[if_neg g1] at h4;by_cases g2:bg y x<0
   ·have z4:decide (bg y x<0)=true:=aM g2;rw[if_pos g2] at h4;have zz:=aI @ae (aI @z1 (aI @z2 (aI @z3 (aI @z4 (aI @z5 (aI @ix (aI @iy (aI @aY @aJ))))))));repeat' (first|refine zW ?_|refine zM ?_|apply a_n|refine zO ?_|refine vY ?_|refine cY ?_ (hp:=by first|exact hc1|exact hc2) (hs:=by(first|refine aG ?_ rfl|apply aW);(repeat' (first|exact ak|apply bv|apply aX|exact cW _));first|done|fail)|refine blY ?_|refine gTY ?_|refine gFY ?_|refine cTY ?_|refine cFY ?_|fail)
    refine key y rfl ev0 ev0 (λs2 H2 nx2 r1 r2=>?_) (by omega)
    repeat' (first|apply a_n|refine zO ?_|refine vY ?_|fail)
    exact⟨(i,j+1,D++[y],s2),by dsimp only;omega,⟨h1,by dsimp only;omega,by simp;omega,by dsimp only;rw[kq];exact h4,r1,r2⟩,ag0⟩
   ·have z4:decide (bg y x<0)=false:=aQ g2;rw[if_neg g2] at h4;have zz:=aI @ae (aI @z1 (aI @z2 (aI @z3 (aI @z4 (aI @z5 (aI @ix (aI @iy (aI @aY @aJ))))))));repeat' (first|refine zW ?_|refine zM ?_|apply a_n|refine zO ?_|refine vY ?_|refine cY ?_ (hp:=by first|exact hc1|exact hc2) (hs:=by(first|refine aG ?_ rfl|apply aW);(repeat' (first|exact ak|apply bv|apply aX|exact cW _));first|done|fail)|refine gTY ?_|refine gFY ?_|refine cTY ?_|refine cFY ?_|fail)
    exact⟨(i+1,j+1,D,sv),by dsimp only;omega,⟨by dsimp only;omega,by dsimp only;omega,by dsimp only;omega,h4,h5,h6⟩,ag0⟩
  ·have e:b.drop j=[]:=List.drop_of_length_le (by omega);rw[e,yb] at h4;have z2:decide ((j:Int)=b.length)=true:=aM (by omega);generalize a.getD i default=x at *;have zz:=aI @ae (aI @z1 (aI @z2 (aI @ix (aI @aY @aJ))));repeat' (first|refine zW ?_|refine zM ?_|apply a_n|refine zO ?_|refine vY ?_|refine blY ?_|refine gFY ?_|refine cTY ?_|fail)
   refine key x rfl ev0 ev0 (λs2 H2 nx2 r1 r2=>?_) (by omega)
   repeat' (first|apply a_n|refine zO ?_|refine vY ?_|fail)
   exact⟨(i+1,j,D++[x],s2),by dsimp only;omega,⟨by dsimp only;omega,h2,by simp;omega,by dsimp only;rw[e,yb,kq];exact h4,r1,r2⟩,ag0⟩
 ·have e:a.drop i=[]:=List.drop_of_length_le (by omega);rw[e,xG] at h4;have z1:decide ((i:Int)<a.length)=false:=aQ (by omega);have z5:decide ((i:Int)=a.length)=true:=aM (by omega);by_cases hj:j<b.length
  ·have iy:=dC hj;rw[fK hj] at h4;have z2:decide ((j:Int)=b.length)=false:=aQ (by omega);have z6:decide ((j:Int)<b.length)=true:=aM (by omega);generalize b.getD j default=y at *;refine wkY (zI8 @ae @z1 @z2 @z5 @z6 @iy @aY @aJ) ?_;refine key y rfl ev0 ev0 (λs2 H2 nx2 r1 r2=>?_) (by omega);refine wnY and_self ?_;exact⟨(i,j+1,D++[y],s2),by dsimp only;omega,⟨h1,by dsimp only;omega,by simp;omega,by dsimp only;rw[e,xG,kq];exact h4,r1,r2⟩,ag0⟩
  ·have z6:decide ((j:Int)<b.length)=false:=aQ (by omega);rw[List.drop_of_length_le (by omega),fR] at h4;refine wnY (zI3 @ae @z1 @z6) ?_;rw[<-h4];exact gc h5
theorem jK{a:List Spx}(h:∀s∈a,bW s=0):∀s∈a,Shn s:=λs hs=>by have:=(bX (h s hs)).2.1;show _<=_;omega
theorem AE{a:List Spx}(h:∀s∈a,bW s=0):∀s∈a,s.length<=1000000:=λs hs=>by have:=(bX (h s hs)).2.1;omega
theorem Ho(n:Nat)(h0:0<n)(h1:n<=1000000)(H:Hp)(nx:Nat):Abs.Fn Tryz.prog 161 [.esl,.int .i64 n] H nx λr H' nx'=>r=.msl nx (n*2) 2 0 0/\H'=ay H nx (bD (.agg [.int .i64 0,.int .i64 0]) n)/\nx'=nx+1:=by
 refine fO M6 ?_;simp only[Nn,aH];have z1:decide ((n:Int)<0)=false:=aQ (by omega);have z2:decide ((0:Int)<n)=true:=aM (by omega);have s2:kI 2 .esl none (some (.int .i64 0)) none=some .esl:=rfl;have s3:=Bo (B:=nx) (n:=n*2) (len:=n) (k:=0) (by omega) (by omega);rw[show((0:Nat):Int)=0 from rfl] at s3;refine wnY (zI6 @z1 @z2 @s2 @Int.sub_zero @Int.sub_self @Ib) ?_;refine KQ rfl (have zz:=@s2;evY) ev0 (by omega) (by omega) (by omega) ?_;refine wnY @s3 ?_;exact⟨rfl,rfl,rfl⟩
theorem yd{c:List Spx}{k:Nat}(hk:k<c.length):(c.take (k+1)).flatten=(c.take k).flatten++c.getD k default:=by
 rw[bT hk,List.flatten_append];simp
theorem Et(c:List Spx)(hpos:0<c.flatten.length)(hl:c.flatten.length<=1000000)(hc:c.length<=1000000)(H:Hp)(nx:Nat):
    Abs.Fn Tryz.prog 141 [aj c] H nx λr H' nx'=>r=.msl nx (c.flatten.length*2) 2 0 c.flatten.length/\H'=ay H nx (cX c.flatten)/\nx'=nx+1:=by
 refine fO MA ?_;simp only[N8,aH]
 have hle:∀k,(c.take k).flatten.length<=c.flatten.length:=λk=>by
  have:c.flatten=(c.take k).flatten++(c.drop k).flatten:=by rw[<-List.flatten_append,G5]
  rw[this,da];omega
 refine dQ ?_
 repeat' (first|apply a_n|refine zO ?_|refine vY ?_|fail)
 refine dQ ?_
 repeat' (first|apply a_n|refine zO ?_|refine vY ?_|fail)
 refine cH (λT H' nx'=>T 0=aj c/\T 3=.int .i64 (c.flatten.length:Nat)/\H=H'/\nx=nx') ?_ ?_
 ·refine wnY @ae ?_;refine kE (X:=Nat) (λk=>[(0,aj c),(3,.int .i64 ((c.take k).flatten.length:Nat)),(9,aj c),(10,.int .i64 c.length),(11,.int .i64 (k:Nat))]) (λk=>k<=c.length) (λk=>c.length-k) 0 (by omega) (by simp (disch:=omega) only[agr,ZG,reduceEqDiff,↓reduceIte,List.take_zero,List.flatten_nil,fJ]<;>simp) ?_;intro k hk;by_cases hk2:k<c.length
  rotate_left
  ·rw[fP (by omega)];refine wnY and_self ?_;exact⟨rfl,rfl,rfl,rfl⟩
  have ix:=dC hk2;have hle2:=hle (k+1);have e:(((c.take (k+1)).flatten.length:Nat):Int)=((c.take k).flatten.length:Nat)+((c.getD k default).length:Nat):=by rw[yd hk2,da];omega
  rw[yd hk2,da] at hle2;have z:decide ((((c.take k).flatten.length:Nat):Int)+((c.getD k default).length:Nat)<0)=false:=aQ (by omega);generalize c.getD k default=s at *;refine wnY (zI3 @ix @ap @z) ?_;exact⟨k+1,by omega,by omega,(have zz:=@e;agZ),rfl,rfl⟩
 rintro T _ _ ⟨t0,t3,rfl,rfl⟩;refine wnY @t3 ?_;refine bh ev0 (have zz:=@t3;evY) (Ho c.flatten.length (by omega) (by omega) H nx) ?_;rintro _ _ _ ⟨rfl,rfl,rfl⟩;refine wnY (aI @t0 @ae) ?_;refine bZ (X:=Nat) (λk=>[(6,.msl nx (c.flatten.length*2) 2 0 (c.take k).flatten.length),(25,aj c),(26,.int .i64 c.length),(27,.int .i64 (k:Nat))]) (λk H' nx'=>k<=c.length/\(∃C,H'=ay H nx C/\C.length=c.flatten.length*2/\C.take ((c.take k).flatten.length*2)=cX (c.take k).flatten)/\nx'=nx+1) (λk=>c.length-k) 0 ⟨by omega,⟨_,rfl,HK _,rfl⟩,rfl⟩ (by simp (disch:=omega) only[agr,ZG,reduceEqDiff,↓reduceIte,List.take_zero,List.flatten_nil,fJ]) ?_;rintro k _ _ ⟨hk,⟨C,rfl,h1,h2⟩,rfl⟩;by_cases hk2:k<c.length
 rotate_left
 ·have ek:c.take k=c:=fP (by omega);rw[ek] at h2 |-;rw[fP (by omega)] at h2;subst h2;refine wnY and_self ?_;exact⟨rfl,rfl,rfl⟩
 have ix:=dC hk2;have hle2:=hle (k+1);have e:=yd hk2;rw[e,da] at hle2;have hcl:=iu (c.getD k default);have hcp:=iu (c.take k).flatten;generalize c.getD k default=s at *;refine wnY @ix ?_;refine Kh (b:=nx) (N:=c.flatten.length*2) (len:=(c.take k).flatten.length) (n:=s.length) (C:=C) rfl ev0 ah h1 ev0 wg (lB _) (by rw[hcl]) (by omega) (by omega) (by omega) (by omega) (by omega) λC2 c1 c2=>?_;refine wnY and_self ?_;refine⟨k+1,by omega,⟨by omega,⟨_,bd _ _ _ _,c1,?_⟩,rfl⟩,by simp (disch:=omega) only[agr,ZG,reduceEqDiff,↓reduceIte,e,da]⟩;rw[e,nw,da,<-h2];exact c2
theorem Pi{P:Program}{T:Tm}{H S:Hp}{nx n:Nat}{K:SP}{l:List (Op2×Nat)}{d:Option Nat}{i:Ins}{t:Nat}{w:Bool}(h:T t=.bool w)(k:be P S ((⟨d,none,i⟩,n)::l) T H nx K):be P S ((⟨d,some (t,w),i⟩,n)::l) T H nx K:=by
 have e:g2 T (some (t,w))=some true:=by simp[g2,h]
 cases n with
 |zero=>show aV (g2 T (some (t,w))) _ _;rw[e];exact k
 |succ n=>show aV (g2 T (some (t,w))) _ _;rw[e];exact k
theorem DF(x y:Spx)(h:0<(x++y).length)(hl:(x++y).length<=1000000):PureF Tryz.prog 141 [aj [x,y]] (aB (x++y)):=by
 refine PureF.of_fn ?_;have e:[x,y].flatten=x++y:=by simp
 have hc:=Et [x,y] (by rw[e];exact h) (by rw[e];exact hl) (by simp) bN 0;rw[e] at hc;refine Abs.Fn.mono hc ?_;rintro _ _ _ ⟨rfl,rfl,rfl⟩;exact sr (Row.box _ (x++y).length (cX (x++y)) ah (iu _))
theorem wq(s:Spx)(H:Hp)(nx:Nat):Abs.Fn Tryz.prog 129 [aB s] H nx λr H' nx'=>r=.func 154 [.ptr nx 1 0]/\H'=ay H nx [aB s]/\nx'=nx+1:=by
 refine fO La ?_;simp only[MY,aH];refine wnY (aI @aY @aJ) ?_;exact⟨rfl,rfl,rfl⟩
theorem EM{H:Hp}{b:Nat}{x y:Spx}(h:H b=some [aB x,aB y]):aL H [.msl b 2 1 0 2] [aj [x,y]]:=
 ag (qu (l:=[aB x,aB y]) h rfl rfl (by
  intro z hz;simp only[dt,List.not_mem_nil,or_false] at hz;rcases hz with rfl|rfl
  ·exact⟨rfl,cW _⟩
  ·exact⟨rfl,cW _⟩)) ak
theorem xy{s:Spx}(h:2<=s.length):(fcs s).length=s.length:=by
 unfold fcs;rw[if_neg (by omega),sx]
theorem Cp{s:Spx}{i:Nat}(h:2<=s.length)(hi:i<s.length):(fcs s).getD i default=s.take i++s.drop (i+1):=by
 unfold fcs;rw[if_neg (by omega),Cv hi]
theorem v4{y sb:Nat}{s:Spx}{H:Hp}{nx:Nat}(hs:s.length<=1000)(I:List Spx->Hp->Nat->Prop)
    (hp:∀D H nx,I D H nx->H sb=some [aB s])
    (stab:∀D H H' nx1 nx',I D H nx1->nx1<=nx'->(∀i,i<nx1->H' i=H i)->I D H' nx')
    (rnd:∀D f H nx1,I D H nx1->D.length<(fcs s).length->f=(fcs s).getD D.length default->D=(fcs s).take D.length->Yl Tryz.prog y [aB f] H nx1 λr H' nx'=>r=.bool true/\I (D++[f]) H' nx')
    (h0:I [] H nx):
    Abs.Fn Tryz.prog 154 [.yld y,.ptr sb 1 0] H nx λ_ H' nx'=>I (fcs s) H' nx':=by
 refine fO Lo ?_;simp only[Lz,aH];have g1:=hp _ _ _ h0;refine wnY (zI4 @g1 @aY @aJ @ap) ?_;by_cases h2:2<=s.length
 rotate_left
 ·have e:fcs s=[]:=by unfold fcs;rw[if_pos (by omega)]
  rw[e];refine bZ (X:=Nat) (λk=>[(0,.yld y),(1,.ptr sb 1 0),(5,.int .i64 s.length),(6,.int .i64 k)]) (λk H' nx'=>k<=s.length/\I [] H' nx') (λk=>s.length-k) 0 ⟨bC _,h0⟩ ag0 ?_;rintro k H1 nx1 ⟨h1,hI⟩;have q1:=hp _ _ _ hI;by_cases hk:k<s.length
  rotate_left
  ·refine wnY and_self ?_;exact hI
  have z:decide ((1:Int)<s.length)=false:=aQ (by omega);refine wkY (zI5 @q1 @aY @aJ @ap @z) ?_;exact⟨k+1,by omega,⟨by omega,hI⟩,ag0⟩
 have z:decide ((1:Int)<s.length)=true:=aM (by omega);have hfl:=xy h2;have hfg:=λ{i:Nat}(hi:i<s.length)=>Cp (i:=i) h2 hi;refine bZ (X:=Nat) (λk=>[(0,.yld y),(1,.ptr sb 1 0),(5,.int .i64 s.length),(6,.int .i64 k)]) (λk H' nx'=>k<=s.length/\I ((fcs s).take k) H' nx') (λk=>s.length-k) 0 ⟨bC _,h0⟩ ag0 ?_;rintro k H1 nx1 ⟨h1,hI⟩;have q1:=hp _ _ _ hI;by_cases hk:k<s.length
 rotate_left
 ·rw[fP (by omega)] at hI;refine wnY and_self ?_;exact hI
 have a1:kI 2 (aB s) none (some (.int .i64 (k:Int))) none=some (aB (s.take k)):=yl (by omega);have a2:kI 2 (aB s) (some (.int .i64 ((k:Int)+1))) none none=some (aB (s.drop (k+1))):=t5 (k:=k+1) (by omega);have hc:=DF (s.take k) (s.drop (k+1)) (by rw[da,fy,xV];omega) (by rw[da,fy,xV];omega);have hr:=rnd ((fcs s).take k) ((fcs s).getD k default) (ay H1 nx1 [aB (s.take k),aB (s.drop (k+1))]) (nx1+1) (stab _ _ _ _ _ hI (by omega) λi hi=>ac (by omega)) (by rw[fy];omega) (by rw[fy,Nat.min_eq_left (by omega)]) (by rw[fy,Nat.min_eq_left (by omega)]);rw[<-bT (by omega),hfg hk] at hr;refine wnY (zI7 @q1 @aY @aJ @ap @z @a1 @a2) ?_;refine w_mix1 sb q1 λS0 hS1 hsub=>?_;simp only[fF,List.map_nil,List.getD_cons_succ,List.getD_cons_zero];have zz:=aI @hS1 (aI @aY (aI @aJ (aI @ap (aI @z (aI @a1 @a2)))));repeat' (first|apply a_n|refine zO ?_|refine nvY ?_|apply jH|refine blY ?_|fail)
 repeat (refine Pi ev0 ?_;skip)
 refine gg ev0 ev0 hc (EM (by rw[ah])) ?_
 repeat' (first|apply a_n|refine zO ?_|apply jH|fail)
 refine yv ev0 ev0 (Yl.mono hr ?_);rintro v H3 nx3 ⟨rfl,e1⟩;refine wnY and_self ?_;exact⟨k+1,by omega,⟨by omega,e1⟩,ag0⟩
theorem GU{n:Nat}{c:Spx->Nat}{O:List Spx}{bs:List Nat}{ck:Nat}{f:Spx}{H:Hp}(hn:n<=8)(h:BOk H n c O bs ck)(hf:f.length=n):
    dw (.st [.int,.int,.int,.int,.int,.int,.int,.int,.int,.int,.int,.int,.int,.int,.int,.int]) (eK (kZ f)) ((O.map kZ).map eK)=some (if f∈O then some (O.idxOf f) else none):=by
 rw[Hn,FF hn hf h.all];by_cases e:f∈O
 ·rw[if_pos e,if_pos ((GN hn h.all hf).2 e)]
 ·rw[if_neg e,if_neg λq=>e ((GN hn h.all hf).1 q)]
theorem sX(a:List Spx)(n:Nat)(hn:n<=8)(ha:a.length<=4096)(hv:∀s∈a,bO cz s)(hl:∀s∈a,s.length=n+1\/s.length<2)(h8:∀s∈a,s.length<=8):pU 77 [aj a] (aj (bI a)):=by
 refine pO Pc ?_;simp only[b77,aH];refine dQ ?_
 repeat' (first|apply a_n|refine zO ?_|refine vY ?_|fail)
 refine dQ ?_;refine wnY and_self ?_;refine JM ?_;refine su (cs:=[.nilm]) rfl rfl rfl ?_
 repeat' (first|apply a_n|refine zO ?_|refine stY ?_|fail)
 refine cH (λT H nx=>T 3=.ptr 1 1 0/\2<=nx/\H 1=some [.mp 0]/\∃O bs ck,BOk H n (n9 a) O bs ck) ?_ ?_
 ·refine wnY @ae ?_;refine lpI (X:=Nat) (λk=>[(3,.ptr 1 1 0),(14,aj a),(15,.int .i64 a.length),(16,.int .i64 k)]) (λk H nx=>k<=a.length/\2<=nx/\H 1=some [.mp 0]/\∃O bs ck,BOk H n (n9 (a.take k)) O bs ck) (λk=>a.length-k) 0 ⟨bC _,aP _,by rw[ah];rfl,[],[],0,⟨by rw[ac (by omega),ac (by omega),ah];rfl,rfl,od,λs h=>(by cases h),List.nodup_nil,λs h=>(by cases h),λf=>⟨λh=>(by cases h),λh=>absurd h (by rw[List.take_zero];exact(by decide:¬(0:Nat)%2=1))⟩⟩⟩ ?_;rintro k H nx ⟨h1,h2,h3,O,bs,ck,h4⟩;by_cases hk:k<a.length
  rotate_left
  ·rw[fP (by omega)] at h4;refine wnY and_self ?_;exact⟨rfl,h2,h3,O,bs,ck,h4⟩
  have ix:=dC hk;have hts:=bT hk;have hvs:=hv _ (ar hk);have hls:=hl _ (ar hk);have h8s:=h8 _ (ar hk);generalize a.getD k default=s at *;refine wnY @ix ?_;refine bh ev0 ev0 (wq s H nx) ?_;rintro _ H1 nx1 ⟨rfl,rfl,rfl⟩;refine wnY and_self ?_;refine nQ (nx+1) (nx+2) rfl rfl ev0 (λc0 cj hy=>?_);refine Abs.Fn.mono (v4 (nx:=nx+2) (y:=nx+1) (sb:=nx) (s:=s) (by omega) (λD H' nx'=>nx+2<=nx'/\H' nx=some [aB s]/\H' (nx+1)=some [c0]/\H' 1=some [.mp 0]/\∃O bs ck,BOk H' n (λf=>n9 (a.take k) f+D.count f) O bs ck) ?_ ?_ ?_ ?_) ?_
  ·rintro D H' nx' ⟨g1,g2,g3,g4⟩;exact g2
  ·rintro D H' H'' n1 n2 ⟨g1,g2,g3,g4,O,bs,ck,g5⟩ hle hsm;exact⟨by omega,(hsm _ (by omega)).trans g2,(hsm _ (by omega)).trans g3,(hsm _ (by omega)).trans g4,O,bs,ck,g5.same (hsm _ (by omega)) λ_=>rfl⟩
  ·rintro D f H' nx' ⟨g1,g2,g3,g4,O,bs,ck,g5⟩ hlt hfe hDe;refine hy _ _ _ _ g3 rfl ?_;clear hy
   have h2s:2<=s.length:=Nat.le_of_not_lt λh=>by
    have:fcs s=[]:=by unfold fcs;rw[if_pos h]
    rw[this] at hlt;simp at hlt
   have hfl:f.length=n:=by
    rw[hfe,Cp h2s (by rw[xy h2s] at hlt;exact hlt),da,fy,xV];rw[xy h2s] at hlt;omega
   clear hfe hDe;refine wnY and_self ?_;refine⟨g3,?_⟩;have hmf:=GU hn g5 hfl;have q0:=(cw (H:=H') (b:=nx+1) (x:=0) (by omega)).trans g5.box;have q1:=(cw (H:=H') (b:=nx+1) (x:=1) (by omega)).trans g4;have q2:=(cw (H:=H') (b:=nx+1) (x:=nx) (by omega)).trans g2;generalize dp H' (nx+1)=H2 at *;refine wnY and_self ?_;generalize hH3:ay H2 nx' z16=H3;have p0:H3 0=H2 0:=by rw[<-hH3];exact ac (by omega)
   have p1:H3 1=H2 1:=by rw[<-hH3];exact ac (by omega)
   have p2:H3 nx=H2 nx:=by rw[<-hH3];exact ac (by omega)
   have p3:H3 nx'=some z16:=by rw[<-hH3];exact ah
   clear hH3;refine Jt rfl p3 rfl rfl ?_;refine wnY and_self ?_;refine Jl (n:=f.length) (H':=ay H3 nx' ((iJ 8 f).map (AV.int .i64))) ?_ ?_
   ·((try simp only[ce,ZA,reduceEqDiff,↓reduceIte,reduceAdd,reduceLeDiff]);(try with_reducible rfl))
    have hnn:fW (aB f)=some f.length:=by unfold aB jx;simp[fW]
    have htr:v9 f.length (aB f)=aB f:=by unfold aB jx;simp[v9];exact fP (by simp)
    have hmin:min f.length 8=f.length:=Nat.min_eq_left (by omega);have hal:fW (.msl nx' 16 2 0 8)=some 8:=rfl
    have hlp:bJ z16 0 (cX f)=(iJ 8 f).map (AV.int .i64):=by
     rw[<-zg (n:=8) (s:=f) (by omega),J1];simp only[bJ,List.take_zero,List.nil_append,cq,iu]
    by_cases hf0:f.length=0
    ·obtain rfl:=fo.1 hf0;have e0:(iJ 8 []).map (AV.int .i64)=z16:=rfl;rw[e0,<-Di p3];simp only[tO,hal,hnn,hmin];rfl
    ·simp only[tO,hal,hnn,hmin,if_neg hf0,p3,htr,wg];rw[if_pos (by refine⟨?_,?_,?_,?_⟩<;>first|rfl|trivial|omega|exact lB f),hlp]
   have hl16:((iJ 8 f).map (AV.int .i64)).length=16:=by rw[bo,qg]
   have ht:((iJ 8 f).map (AV.int .i64)).take 16=(iJ 8 f).map (AV.int .i64):=fP (by omega);have r0:=(ac (H:=H3) (b:=nx') (x:=0) (cs:=(iJ 8 f).map (AV.int .i64)) (by omega)).trans (p0.trans q0);have r1:=(ac (H:=H3) (b:=nx') (x:=1) (cs:=(iJ 8 f).map (AV.int .i64)) (by omega)).trans (p1.trans q1);have r2:=(ac (H:=H3) (b:=nx') (x:=nx) (cs:=(iJ 8 f).map (AV.int .i64)) (by omega)).trans (p2.trans q2);have r3:ay H3 nx' ((iJ 8 f).map (AV.int .i64)) nx'=some ((iJ 8 f).map (AV.int .i64)):=ah;generalize ay H3 nx' ((iJ 8 f).map (AV.int .i64))=H4 at *;have hek:eK (kZ f)=.agg ((iJ 8 f).map (AV.int .i64)):=rfl;have hkf:=CS (kZ f);rw[hek] at hmf hkf;have hcnt:∀g,n9 (a.take k) g+(D++[f]).count g=n9 (a.take k) g+D.count g+if g=f then 1 else 0:=λg=>BM
   by_cases hf:f∈O
   ·rw[if_pos hf] at hmf;have hil:O.idxOf f<O.length:=nY.2 hf
    have hgv:mget .esl true (some (O.idxOf f)) (O.map aB)=.tup [aB (O.getD (O.idxOf f) default),.bool true]:=by
     rw[<-wu hil];rfl
    generalize hKK:(iJ 8 f).map (AV.int .i64)=KK at *;refine wnY (zI4 @r1 @r3 @hl16 @ht) ?_;refine Ct ev0 r0 ev0 hkf hmf ?_;rw[hgv];refine wnY (zI4 @r1 @r3 @hl16 @ht) ?_;refine Kc ev0 r0 ev0 hkf hmf ?_;refine wnY and_self ?_;exact⟨rfl,by omega,by rw[ac (by omega),ac (by omega)];exact r2,ah,by rw[ac (by omega),ac (by omega)];exact r1,O.erase f,bs.eraseIdx (O.idxOf f),ck,g5.del hf rfl (by rw[ac (by omega),ah];rfl) hcnt⟩
   ·rw[if_neg hf] at hmf;have hgv:mget .esl true none (O.map aB)=.tup [.esl,.bool false]:=rfl;generalize hKK:(iJ 8 f).map (AV.int .i64)=KK at *;refine wnY (zI4 @r1 @r3 @hl16 @ht) ?_;refine Ct ev0 r0 ev0 hkf hmf ?_;rw[hgv];refine wnY (zI4 @r1 @r3 @hl16 @ht) ?_;refine I1 ev0 r0 ev0 ev0 hkf hmf ?_;refine wnY and_self ?_;exact⟨rfl,by omega,by rw[ac (by omega),ac (by omega)];exact r2,ah,by rw[ac (by omega),ac (by omega)];exact r1,O++[f],bs++[ck],ck+1,g5.put hf hfl (by rw[ac (by omega),ah,hek];rfl) hcnt⟩
  ·exact⟨aP _,by rw[ac (by omega),ah],ah,by rw[ac (by omega),ac (by omega)];exact h3,O,bs,ck,h4.same (by rw[ac (by omega),ac (by omega)]) λf=>by simp⟩
  ·rintro r H' nx' ⟨g1,g2,g3,g4,O,bs,ck,g5⟩;refine .inl ⟨g3,?_⟩;refine wnY and_self ?_;exact⟨k+1,by omega,⟨by omega,by omega,by rw[cw (by omega)];exact g4,O,bs,ck,g5.same (cw (by omega)) λf=>by rw[hts,El,pi.count_eq]⟩,ag0⟩
 rintro T H nx ⟨t3,h2,h3,O,bs,ck,h4⟩
 have hO70:O.length<=300000:=by
  have he:=jJ hv;have h5:O.length<=(bI a).length:=mU h4.nd λf hf=>(he.2 f).2 ((h4.odd f).1 hf);have:=xn h8;omega
 refine wnY (aI @t3 @h3) ?_;refine Iq ev0 h4.box ?_;refine wnY and_self ?_;have hbn:bs.Nodup:=u0 (λ{x y}(h:x<y) e=>by omega) h4.asc;refine lpI (X:=List Nat×List Spx×AV) (λx=>[(10,x.2.2),(40,.itr nx)]) (λx H' nx'=>H' nx=some [.biter 0 ck x.1]/\nx<nx'/\BOk H' n (n9 a) O bs ck/\x.1.Nodup/\(∀s∈x.1,s∈bs)/\x.2.1=x.1.map (λs=>O.getD (bs.idxOf s) default)/\Row H' 1 x.2.2 (x.2.1.map aB)/\∀b,bz x.2.2=some b->nx<b/\b<nx') (λx=>bs.length-x.1.length) ([],[],.esl) ⟨ah,yj _,h4.same (ac (by omega)) λ_=>rfl,List.nodup_nil,λs h=>(by cases h),rfl,Row.nil,λb h=>(by cases h)⟩ ?_;rintro⟨seen,D,sv⟩ H1 nx1 ⟨hit,hnx,k4,hsn,hsb,hD,hrow,hbd⟩;dsimp only at hit hsn hsb hD hrow hbd |-;have hsl:seen.length<=bs.length:=mU hsn hsb;have hDl:D.length=seen.length:=by rw[hD,bo]
 have hbl:=k4.len;refine wnY and_self ?_;refine Ia ev0 hit k4.box (λi s hi hns=>?_) (λhall=>?_)
 ·refine wnY and_self ?_;refine Hz (i:=i) (s:=s) ev0 ah (by rw[ac (by omega)];exact k4.box) (by simp) hi ?_;obtain⟨hil,his⟩:=bL.1 hi;have hgx:=wu (O:=O) (i:=i) (by omega)
  have hidx:bs.idxOf s=i:=by
   have h5:=nY.2 (show s∈bs by rw[<-his];exact n7 hil);have h6:bs[bs.idxOf s]=bs[i]:=by rw[List.getElem_idxOf h5,his]
   exact(List.getElem_inj hbn).1 h6
  have hsnd:(seen++[s]).Nodup:=zH.2 ⟨hsn,by simp,λx hx y hy e=>by rw[e,dg.1 hy] at hx;exact hns hx⟩
  have hssb:∀x∈seen++[s],x∈bs:=λx hx=>by
   rcases eM.1 hx with q|q
   ·exact hsb x q
   ·rw[dg.1 q,<-his];exact n7 hil
  have hsl2:=mU hsnd hssb;rw[da,List.length_singleton] at hsl2;refine wnY (zI3 @hgx @aY @aJ) ?_;refine eR (hrow.same λb hb=>?_) ?_
  ·have:=hbd b hb;rw[ac (by omega),ac (by omega)]
  rintro s2 H2 nx2 hr2 i1 i2 i3 i4;have lo:∀x,x<=nx->H2 x=ay H1 nx [.biter 0 ck (seen++[s])] x:=λx hx=>(i3 x (by omega) (λh=>by have:=hbd x h;omega)).trans (ac (by omega));refine wnY and_self ?_;refine⟨(seen++[s],D++[O.getD i default],s2),by dsimp only;rw[da,List.length_singleton];omega,⟨(lo nx (aP _)).trans ah,by omega,k4.same ((lo 0 (by omega)).trans (ac (by omega))) λ_=>rfl,hsnd,hssb,?_,?_,λb hb=>?_⟩,ag0⟩
  ·dsimp only;rw[hD,cA,List.map_singleton,hidx]
  ·dsimp only;rw[cA];exact hr2
  ·rcases i4 b hb with h|h
   ·have:=hbd b h;omega
   ·omega
 ·have hperm:seen.Perm bs:=(List.perm_ext_iff_of_nodup hsn hbn).2 λx=>⟨hsb x,hall x⟩
  have hDO:D.Perm O:=by
   rw[hD];refine(hperm.map _).trans (List.Perm.of_eq ?_);refine List.ext_getElem (by rw[bo];exact hbl) λj g1 g2=>?_;rw[bo] at g1
   have h5:bs.idxOf bs[j]=j:=by
    have h5:=nY.2 (n7 g1);have h6:bs[bs.idxOf bs[j]]=bs[j]:=List.getElem_idxOf h5;exact(List.getElem_inj hbn).1 h6
   rw[List.getElem_map,h5];simp[List.getD,g2]
  have hDn:D.Nodup:=hDO.nodup_iff.2 k4.nd;have hDm:∀s,s∈D↔s∈bI a:=λs=>by rw[hDO.mem_iff,k4.odd,(jJ hv).2]
  have hfin:=HJ iC (rb hv)
  have hsort:Abs.Fn Tryz.prog 130 [sv,.func 70 []] H1 nx1 λ_ H' nx'=>Row H' 1 sv ((bI a).map aB):=by
   generalize hcs:D.map aB=cs at hrow;cases hrow with
   |nil=>
    have hD0:D=[]:=List.map_eq_nil_iff.1 hcs;refine Abs.Fn.mono (pN rfl) ?_;rintro _ _ _ ⟨rfl,rfl⟩
    have:bI a=[]:=by
     rw[ye];intro s h;have:=(hDm s).2 h;rw[hD0] at this;cases this
    rw[this];exact Row.nil
   |box b len cs k1 k2=>
    obtain rfl:len=D.length:=by rw[<-hcs,bo] at k2;omega
    have hb:=hbd b rfl;subst hcs;by_cases h0:D.length=0
    ·have hD0:D=[]:=fo.1 h0
     have he:bI a=[]:=by
      rw[ye];intro s h;have:=(hDm s).2 h;rw[hD0] at this;cases this
     have hrw:Row H1 1 (.msl b (D.length*1) 1 0 D.length) ((bI a).map aB):=by
      have:=Row.box (H:=H1) (sz:=1) b D.length _ k1 (by rw[bo,Nat.mul_one]);rw[he];rwa [hD0] at this |-
     refine Abs.Fn.mono (pN (by rw[h0];rfl)) ?_;rintro _ _ _ ⟨_,e⟩;rw[e];exact hrw
    ·have hg:∀s∈D,Shn s:=λs h=>show s.length<=_ by have:=k4.all s (hDO.mem_iff.1 h);omega
     have hsf:=Cq K4 (L:=D) (b:=b) (nx:=nx1) (n:=D.length) k1 hb.2 rfl (by omega) hg (by omega);rw[Nat.mul_one];refine Abs.Fn.mono hsf ?_;rintro _ H' nx' ⟨L',ps,p1,p2⟩;have hlen:=p1.length_eq;have:=rO p1 (by rw[hlen];exact p2) hDn hDm;rw[hfin] at this;rw[<-this,<-hlen];have:=Row.box (H:=H') (sz:=1) b L'.length (L'.map aB) ps.at_ (by simp)
     rwa [Nat.mul_one] at this
  refine wnY and_self ?_;refine bh ev0 ev0 hsort ?_;rintro r H' nx' hr;refine wnY and_self ?_;exact gc hr
theorem Ak(s:Spx)(hs:s.length<=8):pU 66 [aB s] (aj (bi s)):=by
 refine pO PB ?_;simp only[b66,aH];unfold bi;by_cases h:s.length<2
 ·have z:decide ((s.length:Int)<2)=true:=aM (by omega);rw[if_pos h];refine wnY (aI @ap @z) ?_;exact .eslsl 1
 ·have z:decide ((s.length:Int)<2)=false:=aQ (by omega);rw[if_neg h];have hs1:=tg (s.length-1) s (by omega) hs;rw[show((s.length-1:Nat):Int)=(s.length:Int)-1 by omega] at hs1;refine wnY (aI @ap @z) ?_;exact bm _ _
theorem HT(a:List Spx)(ha:a.length<=4096)(h8:∀s∈a,s.length<=8)(hv:∀s∈a,bO cz s):pU 61 [aj a] (aj (bI a)):=by
 refine pO OJ ?_;simp only[b61,aH];refine wnY @ae ?_;refine uo (X:=Nat) (λj=>[(0,aj a),(3,aj (jQ (a.take j) [])),(4,.int .i64 j)]) (λj H' nx'=>j<=a.length) (λj=>a.length-j) 0 ⟨_,_,Fz.none,bC _,⟨.inl rfl,.inr (.eslsl 1),.inl rfl,trivial⟩⟩ ?_;rintro j H nx j1;by_cases hj:j<a.length
 rotate_left
 ·rw[fP (by omega)];refine wnY @ae ?_;exact bm _ _
 have ix:=dC hj;have h8s:=h8 _ (ar hj);have hvs:=hv _ (ar hj);have het:=BH (o:=[]) hj;have hlen:=qm (a.take j) [] λs hs=>h8 s (iq hs)
 have hel:∀f∈jQ (a.take j) [],Shn f:=λf hf=>by
  obtain⟨s,h1,h2⟩:=jW (a:=a.take j) (λs hs=>hv s (iq hs)) hf;have:=h8 s (iq h1);have:=(fx.1 h2).2.2;show _<=_;omega
 rw[fJ,fy] at hlen;generalize a.getD j default=s at *;have hf:=Ak s h8s
 have hfl:(bi s).length<=70:=by
  unfold bi;split
  ·exact bC _
  ·exact nF h8s
 have hp:=Kk (jQ (a.take j) []) (bi s) ⟨by omega,hel⟩ ⟨by omega,λf hf=>by have:=(fx.1 hf).2.2;show _<=_;omega⟩;rw[<-het] at hp;refine wnY (aI @ae @ix) ?_;exact⟨j+1,by omega,_,_,Fz.none,by omega,gK ag0⟩
theorem vP{a:List Spx}(h:fL a=0):pU 77 [aj a] (aj (bI a)):=by
 obtain⟨h1,h2,h3,h4⟩:=dP h;by_cases h0:a=[]
 ·subst h0;exact sX [] 0 (by omega) (by simp) (by simp) (by simp) (by simp)
 ·have hm:a.getD 0 default∈a:=ar (f8.2 h0);have h5:=bX (h2 _ hm);exact sX a ((a.getD 0 default).length-1) (by omega) h1 (fw h2) (λs hs=>.inl (by rw[h4 s hs];omega)) (wt h2)
theorem As{a:List Spx}(h:fL a=0):Shn (bI a)/\∀s∈bI a,s.length<=1000000:=by
 obtain⟨h1,h2,h3,h4⟩:=dP h;have:=xn (wt h2);exact⟨show _<=_ by omega,AE (nH h2)⟩
theorem Ih(a:List Spx)(ha:ShC a):pU 29 [aj a] (.tup [aj (gx a).1,.int .i64 (gx a).2]):=by
 refine pO OC ?_;simp only[b29,aH];have f1:=uP a ha;unfold gx;by_cases h:fL a=0
 rotate_left
 ·have z:decide (fL a≠0)=true:=aM h;rw[if_pos h];refine wnY @z ?_;exact d6 (.eslsl _) rfl
 rw[if_neg (λq=>q h)];have f2:=vP h;have f3:=Ed (bI a) (As h).1 (As h).2;have z:decide ((0:Int)≠0)=false:=rfl;rw[h] at f1
 have hfin:(if 4096<(bI a).length then(([]:List Spx),(5:Int)) else(bI a,0))=(if 4096<(bI a).length then [] else bI a,if 4096<(bI a).length then 5 else 0):=by
  split<;>rfl
 rw[hfin];refine wnY @z ?_;exact d6 (bm _).snap rfl
theorem Lj(a:List Spx)(ha:ShC a):pU 33 [aj a] (.tup [.bool (IV a).1,.int .i64 (IV a).2]):=by
 refine pO Pz ?_;simp only[b33,aH];have f1:=uP a ha;unfold IV;by_cases h:fL a=0
 rotate_left
 ·have z:decide (fL a≠0)=true:=aM h;rw[if_pos h];refine wnY @z ?_;exact F7 rfl rfl
 rw[if_neg (λq=>q h)];have f2:=vP h;have z:decide ((0:Int)≠0)=false:=rfl;have z2:decide ((((bI a).length:Nat):Int)=0)=decide (bI a=[]):=decide_eq_decide.2 (by rw[<-fo];omega);rw[h] at f1;refine wnY (zI3 @z @z2 @ae) ?_;exact F7 rfl rfl
theorem z7(l:List Spx)(v:Spx)(hl:Shn l)(hs:∀c∈l,Shn c)(hv:Shn v)(ha:bO bg l):∃b:Nat,pU 80 [aj l,aB v] (.tup [.int .i64 b,.bool (decide (v∈l))])/\(v∈l->b<l.length/\l.getD b default=v):=by
 obtain⟨b,hb,h1,h2⟩:=ul (λi=>bg (l.getD i default) v) l.length (λi j hij hj h=>iC.trans (dY ha hij hj) h);have hc:=Bm l v hl hs hv hb h1 h2
 have he:(decide (b<l.length)&&decide (bg (l.getD b default) v=0))=decide (v∈l)/\(v∈l->b<l.length/\l.getD b default=v):=by
  by_cases hm:v∈l
  ·obtain⟨i,hi,e⟩:=jO hm;have e':l.getD i default=v:=by simp[List.getD,hi,e]
   have hbi:b=i:=by
    rcases sg b i with h|h|h
    ·have h3:=h2 b (aP _) (by omega);have h4:=dY ha h hi;rw[e'] at h4;omega
    ·exact h
    ·have h3:=h1 i h;rw[e',gB] at h3;omega
   subst hbi;rw[aM hi,aM hm,e',aM (gB v)];exact⟨rfl,λ_=>⟨hi,rfl⟩⟩
  ·rw[aQ hm];refine⟨?_,λh=>absurd h hm⟩;by_cases hlt:b<l.length
   ·rw[aM hlt,Bool.true_and,aQ];intro h;exact hm (by rw[<-pY h];exact ar hlt)
   ·rw[aQ hlt,Bool.false_and]
 rw[he.1] at hc;refine⟨b,?_,he.2⟩;refine pO Pa ?_;simp only[b80,aH];refine wnZ (zI4 @aY @aJ @ai @af) ?_;exact bt (ag (.int _ _) (ag (.bool _) ak))
theorem EW(c:List Spx)(d:Int)(hd:d<=1000)(hc:c.length<=50)(hs:∀s∈c,Shn s):pU 83 [bR c,.int .i64 d] (.tup [aj (EN c d).1,.int .i64 (EN c d).2]):=by
 refine pO Pf ?_;simp only[b83,aH];unfold EN;by_cases h:d<0
 ·have z:decide (d<0)=true:=aM h;rw[if_pos h];refine wnY (zI3 @z @ai @af) ?_;exact d6 (.eslsl _) rfl
 ·have z:decide (d<0)=false:=aQ h;rw[if_neg h];have hS:=lQ c (d+1) hc hs;refine wnY (zI3 @z @ai @af) ?_;exact d6 (bm _).snap rfl
theorem KU(c:List Spx)(d:Int)(hc:c.length<=50)(hs:∀s∈c,Shn s):pU 112 [bR c,.int .i64 d] (.tup [dh (pm c d).1.1 (pm c d).1.2,.int .i64 (pm c d).2]):=by
 refine pO Mx ?_;simp only[Ml,aH];have hcc:=jY c (show _<=_ by omega) hs;unfold pm;by_cases he:aA c=0
 rotate_left
 ·rw[if_pos he];have z:decide (aA c≠0)=true:=aM he;refine wnY (zI3 @ai @af @z) ?_;exact kG (.eslsl _) rfl
 rw[if_neg (λh=>h he)];rw[he] at hcc;have z0:decide ((0:Int)≠0)=false:=rfl;by_cases hd:d<0\/8<=d
 ·rw[if_pos hd];have zz:=aI @ai (aI @af @z0);repeat' (first|refine zW ?_|apply a_n|apply a_r|refine zO ?_|refine vY ?_|refine cY ?_ (hp:=hcc) (hs:=by(first|refine aG ?_ rfl|apply aW);(repeat' (first|exact ak|apply bv|apply aX|exact cQ _));first|done|fail)|refine alY ?_|refine bxY ?_|refine stY ?_|refine gTY ?_|refine gFY ?_|refine cTY ?_|refine cFY ?_|(refine zGY ?_ ?_<;>(intro _hg;try (exfalso;omega)))|refine b6 rfl ?_|refine r2Y ?_|fail)
  all_goals first|exact kG (.eslsl _) rfl|(exfalso;omega)
 rw[if_neg hd];have hX:=EW c d (by omega) hc hs;have hY:=EW c (d-1) (by omega) hc hs;rw[Db he (by omega) (by omega)] at hX hY;rw[show d-1+1=d by omega] at hY;have hXl:=ir (d:=d+1) hc he;have hYl:=ir (d:=d) hc he;have hXm:=dG (d:=d+1) he;have hYm:=jK (dG (d:=d) he);have hYa:=gG (c:=c) (d:=d);generalize am c (d+1)=X at *;generalize am c d=Y at *;have z1:decide (d<0)=false:=aQ (by omega);have z2:decide (8<=d)=false:=aQ (by omega);have hzc:bD (AV.agg [AV.esl]) Y.length=List.replicate Y.length .esl:=by simp[bD,AV.cells]
 refine wnY (zI6 @ai @af @ae @z0 @z1 @z2) ?_;refine yQ (k1:=.i64) (k2:=.i64) (n:=Y.length) (m:=Y.length) rfl ev0 ev0 (by omega) (Int.le_refl _) (by omega) (by omega) ?_;rw[cE,hzc,Nat.mul_one];refine wnY @ae ?_;refine lpI (X:=Nat×List AV) (λx=>[(4,.ptr 1 2 0),(9,.ptr 2 1 0),(10,.ptr 4 2 0),(56,aj X),(57,.int .i64 X.length),(58,.int .i64 x.1)]) (λx H' nx'=>x.1<=X.length/\5<=nx'/\H' 1=some [.int .i64 0,.esl]/\H' 2=some [aj Y]/\H' 4=some [.int .i64 X.length,.msl 3 Y.length 1 0 Y.length]/\MatOk H' 3 5 nx' Y.length (gV X Y x.1) x.2) (λx=>X.length-x.1) (0,List.replicate Y.length .esl) ⟨bC _,aP _,by(repeat rw[ac (by omega)]);rw[ah],by(repeat rw[ac (by omega)]);rw[ah];rfl,by rw[ah];rfl,MatOk.new (by(repeat rw[ac (by omega)]);rw[ah]) (λj _=>rfl)⟩ ?_;rintro⟨k,vs⟩ H nx ⟨h1,h2,g1,g2,g4,hmat⟩;dsimp only at h1 h2 g1 g2 g4 hmat |-;by_cases hk:k<X.length
 rotate_left
 ·obtain rfl:k=X.length:=by omega
  have hst:Snap (ay H 1 [.int .i64 X.length,.msl 3 Y.length 1 0 Y.length]) (.msl 3 Y.length 1 0 Y.length) (br (ca X Y)):=(hmat.same (hi':=nx) (G:=gV X Y X.length) (ac (by omega)) (λx x1 x2 x3=>ac (by omega)) (aP _) (λj _=>rfl)).snap;refine wnY (aI @g4 @g1) ?_;exact kG hst rfl
 have ix:=dC hk;have hsim:=hXm _ (ar hk);have hF:∀i,gV X Y (k+1) i=gV X Y k i++if Y.getD i default∈bi (X.getD k default) then [k] else []:=λi=>ww
 generalize X.getD k default=s at *;obtain⟨p1,p2,p3,p4⟩:=bX hsim;refine wnY @ix ?_;refine bh ev0 ev0 (wq s _ _) ?_;rintro _ H1 nx1 ⟨rfl,rfl,rfl⟩;refine wnY and_self ?_;refine nQ (nx+2) (nx+3) rfl rfl ev0 (λc0 cj hy=>?_);refine Abs.Fn.mono (v4 (nx:=nx+3) (y:=nx+2) (sb:=nx+1) (s:=s) (by omega) (λD H' nx'=>nx+3<=nx'/\H' (nx+1)=some [aB s]/\H' (nx+2)=some [c0]/\H' nx=some [.int .i64 (k:Int)]/\H' 1=some [.int .i64 0,.esl]/\H' 2=some [aj Y]/\H' 4=some [.int .i64 X.length,.msl 3 Y.length 1 0 Y.length]/\∃vs,MatOk H' 3 5 nx' Y.length (λi=>gV X Y k i++if Y.getD i default∈D then [k] else []) vs/\∀j B,j<Y.length->bz (vs.getD j .undef)=some B->B<nx\/nx+3<=B) ?_ ?_ ?_ ?_) ?_
 ·rintro D H' nx' ⟨j1,j2,_⟩;exact j2
 ·rintro D H' H'' n1 n2 ⟨j1,j2,j3,j4,j5,j6,j7,vs,j8,j9⟩ hle hsm;exact⟨by omega,(hsm _ (by omega)).trans j2,(hsm _ (by omega)).trans j3,(hsm _ (by omega)).trans j4,(hsm _ (by omega)).trans j5,(hsm _ (by omega)).trans j6,(hsm _ (by omega)).trans j7,vs,j8.same (hsm _ (by omega)) (λx x1 x2 x3=>hsm x x2) hle (λ_ _=>rfl),j9⟩
 ·rintro D f H' nx' ⟨j1,j2,j3,j4,j5,j6,j7,vs,j8,j9⟩ hlt hfe hDe;refine hy _ _ _ _ j3 rfl ?_;clear hy;have hfm:f∈fcs s:=by rw[hfe];exact ar hlt
  have hfD:f∉D:=λh=>by
   rw[hDe] at h;have hnd:=Ey p3;have e:=bT hlt;have h5:=(zH.1 (by rw[<-e];exact hnd.sublist (List.take_sublist _ _):((fcs s).take D.length++[(fcs s).getD D.length default]).Nodup)).2.2 _ h _ (dg.2 rfl);exact h5 hfe
  have hfs:=fx.1 (C6.1 hfm);have hfn:Shn f:=by show _<=_;omega
  clear hfe hDe hlt hfm;refine wnY and_self ?_;refine⟨j3,?_⟩;have hd:∀x,x≠nx+2->dp H' (nx+2) x=H' x:=λx hx=>cw hx;generalize dp H' (nx+2)=H2 at *;have q2:=(hd 2 (by omega)).trans j6;have q3:=(hd 3 (by omega)).trans j8.box;have q4:=(hd 4 (by omega)).trans j7;have qk:=(hd nx (by omega)).trans j4;obtain⟨p,hpl,hpm⟩:=z7 Y f (show _<=_ by omega) hYm hfn hYa;by_cases hin:f∈Y
  rotate_left
  ·rw[aQ hin] at hpl;refine wnY (zI3 @q2 @ai @af) ?_;refine⟨rfl,j1,(ac (by omega)).trans ((hd _ (by omega)).trans j2),ah,(ac (by omega)).trans qk,(ac (by omega)).trans ((hd _ (by omega)).trans j5),(ac (by omega)).trans q2,(ac (by omega)).trans q4,vs,j8.same ((ac (by omega)).trans (hd _ (by omega))) (λx x1 x2 x3=>?_) (aP _) (λj hj=>?_),j9⟩
   ·by_cases e:x=nx+2
    ·rw[e,ah,j3]
    ·rw[ac e,hd x e]
   ·have hne:Y.getD j default≠f:=λe=>hin (by rw[<-e];exact ar hj)
    congr 1
    exact yy (by rw[eM,dg];exact⟨λh=>h.resolve_right hne,.inl⟩)
  rw[aM hin] at hpl;obtain⟨pl1,pl2⟩:=hpm hin;have hFD:gV X Y k p++(if Y.getD p default∈D then [k] else [])=gV X Y k p:=by rw[pl2,if_neg hfD,fR]
  have hrow:Row H2 1 (vs.getD p .undef) ((gV X Y k p).map tG):=by
   have:=j8.row p pl1;rw[hFD] at this;exact this.same λb hb=>hd b (by have:=j9 p b pl1 hb;omega)
  have hvs:vs[p]?=some (vs.getD p .undef):=by
   have:=j8.len;simp[List.getD,show p<vs.length by omega]
  have hlen:=j8.len
  have hb3:∀b,bz (vs.getD p .undef)=some b->5<=b/\b<nx'/\b≠3/\(b<nx\/nx+3<=b):=λb hb=>by
   have h5:=j8.bnd p b pl1 hb;have h6:=j9 p b pl1 hb;exact⟨h5.1,h5.2.1,h5.2.2,h6⟩
  generalize hrv:vs.getD p .undef=rv at *;refine wnY (zI3 @q2 @ai @af) ?_;refine B2 4 3 nx q4 q3 qk (by omega) (by omega) (by omega) λS0 hS1 hS2 hS3 hsub=>?_;have hFl:=sW (X:=X) (Y:=Y) (n:=k) (i:=p);refine wnY (zI5 @hS1 @hS2 @hS3 @hvs @hlen) ?_;refine d7 ?_;refine wnY and_self ?_;refine⟨hsub _ (by rw[ac (by omega)];exact q4) (by rw[ac (by omega)];exact q3) (by rw[ac (by omega)];exact qk),?_⟩;refine d7 ?_;refine eR (hrow.same λb hb=>?_) ?_
  ·have:=hb3 b hb;rw[ac (by omega)]
  rintro s2 H4 nx4 hr2 i1 i2 i3 i4;have lo:∀x,x<nx'->bz rv≠some x->H4 x=H2 x:=λx x1 x2=>(i3 x (by omega) x2).trans (ac (by omega));have l3:H4 3=H2 3:=lo 3 (by omega) (λh=>by have:=hb3 _ h;omega);have l4:H4 4=H2 4:=lo 4 (by omega) (λh=>by have:=hb3 _ h;omega);have lk:H4 nx=H2 nx:=lo nx (by omega) (λh=>by have:=hb3 _ h;omega);have lo2:∀x,x<nx+3->5<=x->nx<=x->H4 x=H2 x:=λx x1 x2 x3=>lo x (by omega) (λh=>by have:=hb3 _ h;omega);have lo5:∀x,x<5->H4 x=H2 x:=λx x1=>lo x (by omega) (λh=>by have:=hb3 _ h;omega);obtain⟨o1,o2⟩:=hr2.one;have m3:=l3.trans q3;refine kB ⟨hsub _ (l4.trans q4) m3 (lk.trans qk),?_⟩
  have hlp:bJ vs p [s2]=vs.set p s2:=by
   simp only[bJ,bS,fJ,cq];rw[IY,if_pos (by omega)];simp
  have zz:=aI @m3 (aI @o1 (aI @o2 (aI @hlen @hlp)));repeat' (first|apply a_n|refine zO ?_|refine nvY ?_|apply jH|refine stY ?_|fail)
  have hB2:∀b,bz s2=some b->(bz rv=some b\/nx'<=b)/\b<nx4:=λb hb=>by
   rcases i4 b hb with h|h
   ·exact⟨.inl h,by have:=hb3 b h;omega⟩
   ·exact⟨.inr (by omega),by omega⟩
  have hwd:∀x,x≠3->x≠nx+2->ay (ay H4 3 (vs.set p s2)) (nx+2) [c0] x=H4 x:=λx x1 x2=>by rw[ac x2,ac x1]
  rw[hlp];refine⟨rfl,by omega,?_,ah,?_,?_,?_,?_,vs.set p s2,?_,?_⟩
  ·rw[hwd _ (by omega) (by omega),lo2 _ (by omega) (by omega) (by omega),hd _ (by omega)];exact j2
  ·rw[hwd _ (by omega) (by omega),lk];exact qk
  ·rw[hwd _ (by omega) (by omega),lo5 _ (by omega),hd _ (by omega)];exact j5
  ·rw[hwd _ (by omega) (by omega),lo5 _ (by omega)];exact q2
  ·rw[hwd _ (by omega) (by omega),l4];exact q4
  ·refine j8.put (sv:=s2) (x:=k) (i:=p) pl1 (λj hj=>?_) ?_ (λb hb=>?_) (by rw[ac (by omega),ah]) (λx x1 x2 x3 x4=>?_) (by omega) (by omega)
   ·by_cases e:j=p
    ·subst e;rw[if_pos rfl,pl2,if_neg hfD,if_pos (nX _ (dg.2 rfl)),fR]
    ·rw[if_neg e]
     have hne:Y.getD j default ≠ f:=fun h=>e (by
      rcases sg j p with h'|h'|h'
      ·have:=dY hYa h' pl1;rw[h,pl2,gB] at this;omega
      ·exact h'
      ·have:=dY hYa h' hj;rw[h,pl2,gB] at this;omega)
     congr 1
     exact yy (by rw[eM,dg];exact⟨λh=>h.resolve_right hne,.inl⟩)
   ·rw[hFD,cA];refine hr2.same λb hb=>hwd b ?_ ?_
    ·have:=hB2 b hb;rcases this.1 with h|h
     ·have:=hb3 b h;omega
     ·omega
    ·have:=hB2 b hb;rcases this.1 with h|h
     ·have:=hb3 b h;omega
     ·omega
   ·rw[hrv];have:=hB2 b hb;rcases this.1 with h|h
    ·exact .inl h
    ·exact .inr ⟨h,this.2,by omega⟩
   ·rw[hrv] at x4;by_cases e:x=nx+2
    ·rw[e,ah,j3]
    ·rw[hwd x x3 e,lo x x2 x4,hd x e]
  ·intro j B hj hB;rw[re (by omega)] at hB;by_cases e:p=j
   ·rw[if_pos e] at hB;have:=hB2 B hB;rcases this.1 with h|h
    ·have:=hb3 B h;omega
    ·omega
   ·rw[if_neg e] at hB;exact j9 j B hj hB
 ·have hlk:bJ [AV.int .i64 0] 0 [.int .i64 (k:Int)]=[.int .i64 (k:Int)]:=rfl;have hw:∀x,x≠nx->x≠nx+1->x≠nx+2->ay (ay (ay (ay H nx [.int .i64 0]) nx (bJ [.int .i64 0] 0 [.int .i64 (k:Int)])) (nx+1) [aB s]) (nx+2) [c0] x=H x:=λx x1 x2 x3=>by rw[ac x3,ac x2,ac x1,ac x1]
  refine⟨aP _,by rw[ac (by omega),ah],ah,by rw[ac (by omega),ac (by omega),ah];rfl,(hw _ (by omega) (by omega) (by omega)).trans g1,(hw _ (by omega) (by omega) (by omega)).trans g2,(hw _ (by omega) (by omega) (by omega)).trans g4,vs,hmat.same (hw _ (by omega) (by omega) (by omega)) (λx x1 x2 x3=>hw x (by omega) (by omega) (by omega)) (by omega) (λj _=>by simp),λj B hj hB=>by have:=hmat.bnd j B hj hB;omega⟩
 ·rintro r H' nx' ⟨j1,j2,j3,j4,j5,j6,j7,vs2,j8,j9⟩;refine .inl ⟨j3,?_⟩;refine wnY and_self ?_;refine⟨(k+1,vs2),by dsimp only;omega,⟨by dsimp only;omega,by omega,(cw (by omega)).trans j5,(cw (by omega)).trans j6,(cw (by omega)).trans j7,?_⟩,ag0⟩;dsimp only
  have hrows:∀j,j<Y.length->gV X Y (k+1) j=gV X Y k j++if Y.getD j default∈fcs s then [k] else []:=λj _=>by
   rw[hF];congr 1;exact yy C6.symm
  exact⟨(cw (by omega)).trans j8.box,j8.len,λj hj=>by rw[hrows j hj];exact(j8.row j hj).same λb hb=>cw (by have:=j9 j b hj hb;omega),λj B hj hB=>by have:=j8.bnd j B hj hB;exact this,j8.apart⟩
theorem Bl(c a:List Spx)(hc:c.length<=50)(hs:∀s∈c,Shn s)(ha:ShC a):pU 30 [bR c,aj a] (.tup [aD (dF c a).1,.int .i64 (dF c a).2]):=by
 refine pO Pd ?_;simp only[b30,aH];have hcc:=jY c (show _<=_ by omega) hs;have hca:=uP a ha;have z0:decide ((0:Int)≠0)=false:=rfl;unfold dF;by_cases he:aA c=0
 rotate_left
 ·rw[if_pos he];have z:decide (aA c≠0)=true:=aM he;refine wnY (zI3 @ai @af @z) ?_;exact gu (.eslsl _) rfl
 rw[if_neg (λh=>h he)];rw[he] at hcc;by_cases h2:fL a=0
 rotate_left
 ·rw[if_pos h2];have z:decide (fL a≠0)=true:=aM h2;refine wnY (zI4 @ai @af @z @z0) ?_;exact gu (.eslsl _) rfl
 rw[if_neg (λh=>h h2)];rw[h2] at hca;by_cases h3:a=[]
 ·rw[if_pos h3];subst h3;have al:dz (aj [])=some (.int .i64 0):=rfl;refine wnY (zI4 @ai @af @al @z0) ?_;exact gu (.eslsl _) rfl
 rw[if_neg h3];have hpos:=f8.2 h3;have z3:decide ((a.length:Int)=0)=false:=aQ (by omega);obtain⟨p1,p2,p3,p4⟩:=dP h2;have p5:=bX (p2 _ (ar hpos));have i0:=I4 hpos;have hS:=lQ c (a9 a) hc hs;unfold dy at hS;rw[if_neg (λh=>h he),if_neg (by unfold a9;omega),cE] at hS;have eL:gj c (a9 a)=am c (a9 a):=by unfold am;rw[if_neg (by unfold a9;omega),cE]
 rw[eL] at hS;have hLs:=jK (dG (d:=(a9 a:Nat)) he);have hLl:=ir (d:=(a9 a:Nat)) hc he;have hLa:=gG (c:=c) (d:=(a9 a:Nat));generalize am c (a9 a)=L at *;unfold a9 at hS;refine wkY (zI7 @ai @af @ae @ap @i0 @z0 @z3) ?_;refine bZ (X:=AV×Nat) (λx=>[(8,aj L),(10,x.1),(40,aj a),(41,.int .i64 a.length),(42,.int .i64 x.2)]) (λx H nx=>x.2<=a.length/\(∀i,i<x.2->decide (a.getD i default∈L)=true)/\Row H 1 x.1 ((bl (eI L (a.take x.2))).map (AV.int .i64))/\∀b,bz x.1=some b->b<nx) (λx=>a.length-x.2) (.esl,0) ⟨bC _,λi h=>absurd h (by omega),Row.nil,λb hb=>(by cases hb)⟩ ag0 ?_;rintro⟨sv,k⟩ H nx ⟨k1,k2,k3,k4⟩;dsimp only at k1 k2 k3 k4 |-;by_cases hk:k<a.length
 rotate_left
 ·rw[fP (by omega)] at k3;rw[if_pos (iU λi hi=>k2 i (by omega))];refine wnY and_self ?_;exact gu k3.snapI rfl
 have ix:=dC hk;have hsx:=ha.2 _ (ar hk);obtain⟨p,hpl,hpm⟩:=z7 L (a.getD k default) (show _<=_ by omega) hLs hsx hLa;by_cases hin:a.getD k default∈L
 rotate_left
 ·rw[aQ hin] at hpl
  have hall:¬(a.all λs=>decide (s∈L))=true:=by
   rw[il hk (aQ hin)];decide
  rw[if_neg hall];refine wnY @ix ?_;exact gu (.eslsl _) rfl
 rw[aM hin] at hpl;obtain⟨p1',p2'⟩:=hpm hin;have hidx:=Cu (hLa.nodup iC) p1' p2';have hpt:=w9 (L:=L) hk;rw[hidx] at hpt;have hnl:(bl (eI L (a.take k))).length=k:=by unfold bl eI;rw[bo,bo,fy];omega
 refine wnY @ix ?_;refine eR (k3.same λb hb=>?_) ?_
 ·have:=k4 b hb;rw[ac (by omega)]
 rintro s2 E e hrow hle1 hle2 hsame hb2;refine wnY and_self ?_;refine⟨(s2,k+1),by dsimp only;omega,⟨by dsimp only;omega,λi hi=>?_,?_,λb hb=>?_⟩,ag0⟩
 ·rcases ij.1 hi with h'|rfl
  ·exact k2 i h'
  ·exact aM hin
 ·dsimp only;rw[hpt,rB,cA];exact hrow
 ·rcases hb2 b hb with h|h
  ·have:=k4 b h;omega
  ·omega
theorem zR(l:List Spx)(v:Spx)(hl:Shn l)(hs:∀c∈l,Shn c)(hv:Shn v)(hn:l.Nodup):pU 121 [aj l,aB v] (.int .i64 (if v∈l then(l.idxOf v:Nat) else-1)):=by
 refine pO N3 ?_;simp only[MG,aH];have hl':l.length<=17592186044416:=hl;refine wnZ @ae ?_;refine kE (X:=Nat) (λk=>[(0,aj l),(1,aB v),(5,.int .i64 k)]) (λk=>k<=l.length/\∀i,i<k->l.getD i default≠v) (λk=>l.length-k) 0 ⟨bC _,λi h=>absurd h (by omega)⟩ ag0 ?_;rintro k ⟨h1,h2⟩;by_cases hk:k<l.length
 rotate_left
 ·have hm:v∉l:=λh=>by
    obtain⟨i,hi,e⟩:=jO h;exact h2 i (by omega) (by simp[List.getD,hi,e])
  rw[if_neg hm];refine wnY @ae ?_;exact .int _ _
 have ix:=dC hk;have hsm:=Cn (l.getD k default) v (hs _ (ar hk)) hv;by_cases e:l.getD k default=v
 ·rw[aM e] at hsm;have hm:v∈l:=by rw[<-e];exact ar hk
  rw[if_pos hm,Cu hn hk e];refine wnY (aI @ae @ix) ?_;exact .int _ _
 ·rw[aQ e] at hsm;refine wnY (aI @ae @ix) ?_
  exact ⟨k + 1,⟨by omega,fun i hi=>by
   rcases ij.1 hi with h'|rfl
   ·exact h2 i h'
   ·exact e⟩,by omega,ag0,rfl,rfl⟩
theorem rZ(l a:List Spx)(hl:Shn l)(hs:∀c∈l,Shn c)(hn:l.Nodup)(hal:a.length<=1000000)(ha:∀s∈a,Shn s):pU 118 [aj l,aj a] (.tup [aD (if (a.all λs=>decide (s∈l))=true then bl (eI l a) else []),.bool (a.all λs=>decide (s∈l))]):=by
 refine pO NI ?_;simp only[Lc,aH];refine wnZ @ae ?_;refine bZ (X:=AV×Nat) (λx=>[(0,aj l),(1,aj a),(6,x.1),(7,.int .i64 x.2)]) (λx H nx=>x.2<=a.length/\(∀i,i<x.2->decide (a.getD i default∈l)=true)/\Row H 1 x.1 ((bl (eI l (a.take x.2))).map (AV.int .i64))/\∀b,bz x.1=some b->b<nx) (λx=>a.length-x.2) (.esl,0) ⟨bC _,λi h=>absurd h (by omega),Row.nil,λb hb=>(by cases hb)⟩ ag0 ?_;rintro⟨sv,k⟩ H nx ⟨k1,k2,k3,k4⟩;dsimp only at k1 k2 k3 k4 |-;by_cases hk:k<a.length
 rotate_left
 ·rw[fP (by omega)] at k3;rw[if_pos (iU λi hi=>k2 i (by omega)),iU λi hi=>k2 i (by omega)];refine wnY @ae ?_;exact bt (ag k3.snapI (ag (.bool _) ak))
 have ix:=dC hk;have hpl:=zR l (a.getD k default) hl hs (ha _ (ar hk)) hn;by_cases hin:a.getD k default∈l
 rotate_left
 ·rw[if_neg hin] at hpl;have hall:=il hk (p:=λs=>decide (s∈l)) (aQ hin);rw[hall,if_neg (by decide)];have z:decide ((-1:Int)<0)=true:=rfl;refine wnY (zI3 @ae @ix @z) ?_;exact bt (ag (.eslsl _) (ag (.bool _) ak))
 rw[if_pos hin] at hpl;have hpt:=w9 (L:=l) hk;have hnl:(bl (eI l (a.take k))).length=k:=by unfold bl eI;rw[bo,bo,fy];omega
 generalize l.idxOf (a.getD k default)=p at *;have z:decide ((p:Int)<0)=false:=aQ (by omega);refine wnY (zI3 @ae @ix @z) ?_;refine eR (k3.same λb hb=>?_) ?_
 ·have:=k4 b hb;rw[ac (by omega)]
 rintro s2 E e hrow hle1 hle2 hsame hb2;refine wnY and_self ?_;refine⟨(s2,k+1),by dsimp only;omega,⟨by dsimp only;omega,λi hi=>?_,?_,λb hb=>?_⟩,ag0⟩
 ·rcases ij.1 hi with h'|rfl
  ·exact k2 i h'
  ·exact aM hin
 ·dsimp only;rw[hpt,rB,cA];exact hrow
 ·rcases hb2 b hb with h|h
  ·have:=k4 b h;omega
  ·omega
theorem FG(c a:List Spx)(hc:c.length<=50)(hs:∀s∈c,Shn s)(ha:ShC a):pU 60 [bR c,aj a] (.tup [aD (dF c a).1,.int .i64 (dF c a).2]):=by
 refine pO O2 ?_;simp only[b60,aH];have hcc:=x5 c (show _<=_ by omega) hs;have hca:=H8 a ha;have z0:decide ((0:Int)≠0)=false:=rfl;unfold dF;by_cases he:aA c=0
 rotate_left
 ·rw[if_pos he];have z:decide (aA c≠0)=true:=aM he;refine wnY (zI3 @ai @af @z) ?_;exact gu (.eslsl _) rfl
 rw[if_neg (λh=>h he)];rw[he] at hcc;by_cases h2:fL a=0
 rotate_left
 ·rw[if_pos h2];have z:decide (fL a≠0)=true:=aM h2;refine wnY (zI4 @ai @af @z @z0) ?_;exact gu (.eslsl _) rfl
 rw[if_neg (λh=>h h2)];rw[h2] at hca;by_cases h3:a=[]
 ·rw[if_pos h3];subst h3;have al:dz (aj [])=some (.int .i64 0):=rfl;refine wnY (zI4 @ai @af @al @z0) ?_;exact gu (.eslsl _) rfl
 rw[if_neg h3];have hpos:=f8.2 h3;have z3:decide ((a.length:Int)=0)=false:=aQ (by omega);obtain⟨p1,p2,p3,p4⟩:=dP h2;have p5:=bX (p2 _ (ar hpos));have i0:=I4 hpos;have hS:=p9 c (a9 a) (by omega) hs;unfold dy at hS;rw[if_neg (λh=>h he),if_neg (by unfold a9;omega),cE] at hS;have eL:gj c (a9 a)=am c (a9 a):=by unfold am;rw[if_neg (by unfold a9;omega),cE]
 rw[eL] at hS;have hLs:=jK (dG (d:=(a9 a:Nat)) he);have hLl:=ir (d:=(a9 a:Nat)) hc he;have hLa:=gG (c:=c) (d:=(a9 a:Nat));generalize am c (a9 a)=L at *;have hP:=rZ L a (show _<=_ by omega) hLs (hLa.nodup iC) (by omega) ha.2;unfold a9 at hS;cases hall:a.all λs=>decide (s∈L)
 ·rw[if_neg (by decide)];rw[hall,if_neg (by decide)] at hP;refine wkY (zI7 @ai @af @ae @ap @i0 @z0 @z3) ?_;exact gu (.eslsl _) rfl
 ·rw[if_pos rfl];rw[hall,if_pos rfl] at hP;refine wkY (zI7 @ai @af @ae @ap @i0 @z0 @z3) ?_;exact gu (cJ _).snap rfl
theorem DZ(X Y:List Spx)(hXl:X.length<=4000)(hYl:Y.length<=4000)(hX:∀s∈X,Shn s)(hY:∀s∈Y,Shn s)(hin:∀i k,i<Y.length->k<X.length->eA (Y.getD i default) (X.getD k default)=decide (Y.getD i default∈bi (X.getD k default))):pU 110 [aj X,aj Y] (dh X.length (ca X Y)):=by
 refine pO Mo ?_;simp only[Li,aH];refine wnY @ae ?_;refine uo (X:=Nat×AV) (λx=>[(0,aj X),(1,aj Y),(4,.ptr 0 2 0),(5,.ptr 1 2 0),(6,.int .i64 x.1)]) (λx H nx=>x.1<=Y.length/\2<=nx/\H 0=some [.int .i64 0,.esl]/\H 1=some [.int .i64 X.length,x.2]/\Row H 1 x.2 ((List.range x.1).map λj=>aD (bl (gV X Y X.length j)))/\∀b,bz x.2=some b->2<=b/\b<nx) (λx=>Y.length-x.1) (0,.esl) ⟨bN,_,Fz.none,⟨bC _,aP _,by(repeat rw[ac (by omega)]);rw[ah],by rw[ah];rfl,Row.nil,λb h=>(by cases h)⟩,.inl rfl,.inl rfl,.inl rfl,.inl rfl,.inl rfl,trivial⟩ ?_;rintro⟨i,sv⟩ H nx ⟨h1,h2,g0,g1,hrow,hbd⟩;dsimp only at h1 g1 hrow hbd |-;obtain⟨o1,o2⟩:=hrow.one;by_cases hi:i<Y.length
 rotate_left
 ·obtain rfl:i=Y.length:=by omega
  refine wnY (zI5 @ae @g0 @g1 @o1 @o2) ?_
  have hr2:Row (ay H 0 [.int .i64 X.length,sv]) 1 sv ((ca X Y).map aD):=by
   unfold ca;rw[List.map_map];exact hrow.same λb hb=>ac (by have:=hbd b hb;omega)
  exact ja (ag (.int _ _) (ag hr2.snapV ak))
 have iy:=dC hi;have hYi:=hY _ (ar hi);have hF:∀k,gV X Y (k+1) i=gV X Y k i++if Y.getD i default∈bi (X.getD k default) then [k] else []:=λk=>ww
 have hini:=λk hk=>hin i k hi hk;generalize Y.getD i default=t at *;refine wnY @ae ?_;refine bZ (X:=Nat×AV) (λx=>[(0,aj X),(1,aj Y),(4,.ptr 0 2 0),(5,.ptr 1 2 0),(6,.int .i64 i),(7,x.2),(8,.int .i64 x.1)]) (λx H' nx'=>x.1<=X.length/\nx<=nx'/\(∀y,y<nx->H' y=H y)/\Row H' 1 x.2 ((gV X Y x.1 i).map tG)/\∀b,bz x.2=some b->nx<=b/\b<nx') (λx=>X.length-x.1) (0,.esl) ⟨bC _,aP _,λ_ _=>rfl,Row.nil,λb h=>(by cases h)⟩ ag0 ?_;rintro⟨k,rv⟩ H' nx' ⟨k1,k2,k3,krow,kbd⟩;dsimp only at k1 krow kbd |-;obtain⟨o3,o4⟩:=krow.one;have g1':H' 1=some [.int .i64 X.length,sv]:=(k3 1 (by omega)).trans g1;have g0':H' 0=some [.int .i64 0,.esl]:=(k3 0 (by omega)).trans g0;by_cases hk:k<X.length
 rotate_left
 ·obtain rfl:k=X.length:=by omega
  have hr1:Row H' 1 sv ((List.range i).map λj=>aD (bl (gV X Y X.length j))):=hrow.same λb hb=>k3 b (by have:=hbd b hb;omega);refine wnY (zI4 @ae @g1' @o3 @o4) ?_;refine hZ rfl ev0 (hr1.same λb hb=>?_) ev0 ed (by simp[AV.ones,o3]) rfl ke (by simp;omega) (by simp;omega) ?_
  ·have:=hbd b hb;rw[ac (by omega)]
  rintro s2 H2 nx2 hr2 i1 i2 i3 i4;have lo:∀x,x<nx'->bz sv≠some x->H2 x=H' x:=λx x1 x2=>(i3 x (by omega) x2).trans (ac (by omega));have l4:∀x,x<2->H2 x=H' x:=λx x1=>lo x (by omega) (λh=>by have:=hbd _ h;omega);have g42:H2 1=some [.int .i64 X.length,sv]:=(l4 1 (by omega)).trans g1';obtain⟨o5,o6⟩:=hr2.one;have kr2:Row H2 1 rv ((gV X Y X.length i).map tG):=krow.same λb hb=>lo b (by have:=kbd b hb;omega) (λh=>by have:=hbd b h;have:=kbd b hb;omega)
  have hb2:∀b,bz s2=some b->2<=b/\b<nx2/\bz rv≠some b:=λb hb=>by
   rcases i4 b hb with h|h
   ·have:=hbd b h;exact⟨by omega,by omega,λe=>by have:=kbd b e;omega⟩
   ·exact⟨by omega,by omega,λe=>by have:=kbd b e;omega⟩
  refine wnY (zI3 @g42 @o5 @o6) ?_;obtain⟨Hf,H5,hfz,hr5,hs5⟩:=yk (H:=ay H2 1 (bJ [.int .i64 X.length,sv] 1 [s2])) (hr2.same λb hb=>ac (by have:=hb2 b hb;omega)) (kr2.same λb hb=>ac (by have:=kbd b hb;omega)) (λb hb e=>(hb2 b e).2.2 hb);have hlow:∀x,x<2->H5 x=ay H2 1 (bJ [.int .i64 X.length,sv] 1 [s2]) x:=λx hx=>hs5 x (λe=>by have:=kbd x e;omega) (λe=>by have:=hb2 x e;omega);refine⟨(i+1,s2),by dsimp only;omega,Hf,H5,hfz,⟨by dsimp only;omega,by omega,?_,?_,?_,λb hb=>?_⟩,gK ag0⟩
  ·rw[hlow 0 (by omega),ac (by omega),l4 0 (by omega)];exact g0'
  ·rw[hlow 1 (by omega),ah];rfl
  ·dsimp only;rw[List.range_succ,cA];exact hr5
  ·have:=hb2 b hb;omega
 have ix:=dC hk;have hXk:=hX _ (ar hk);have hinc:=yO t (X.getD k default) hYi hXk;rw[hini k hk] at hinc;have hFk:=hF k;have hFl:=sW (X:=X) (Y:=Y) (n:=k) (i:=i);generalize X.getD k default=s at *;by_cases he2:t∈bi s
 ·rw[aM he2] at hinc;rw[if_pos he2] at hFk;refine wkY (zI3 @ae @ix @iy) ?_;refine eR (krow.same λb hb=>?_) ?_
  ·have:=kbd b hb;rw[ac (by omega)]
  rintro r2 H2 nx2 hr2 i1 i2 i3 i4;obtain⟨o5,o6⟩:=hr2.one;refine wnY (aI @o5 @o6) ?_;refine⟨(k+1,r2),by dsimp only;omega,⟨by dsimp only;omega,by omega,λy hy=>?_,?_,λb hb=>?_⟩,ag0⟩
  ·rw[i3 y (by omega) (λh=>by have:=kbd _ h;omega),ac (by omega)];exact k3 y hy
  ·dsimp only;rw[hFk,cA];exact hr2
  ·rcases i4 b hb with h|h
   ·have:=kbd b h;omega
   ·omega
 ·rw[aQ he2] at hinc;rw[if_neg he2,fR] at hFk;refine wkY (zI3 @ae @ix @iy) ?_;exact⟨(k+1,rv),by dsimp only;omega,⟨by dsimp only;omega,k2,k3,by dsimp only;rw[hFk];exact krow,kbd⟩,ag0⟩
theorem zv{s f:Spx}{n:Nat}(hs:bO cz s)(hf:bO cz f)(hsl:s.length=n+1)(hfl:f.length=n)(hn:1<=n):eA f s=decide (f∈bi s):=by
 rw[Bool.eq_iff_iff,fu,f9,fx];exact⟨λh=>⟨by omega,IH A1 hf hs h,by omega⟩,λh v hv=>h.2.1.subset hv⟩
theorem JL{n:Nat}{v:List Int}{k:Nat}(h:yR n v k=0):0<=v.getD k default/\v.getD k default<n/\(0<k->v.getD (k-1) default<v.getD k default):=by
 unfold yR at h;split at h
 ·exact absurd h (by decide)
 split at h
 ·exact absurd h (by decide)
 ·rename_i h1 h2;exact⟨by omega,by omega,λh0=>by omega⟩
theorem yh(c:List Spx)(d:Int)(v:List Int)(hc:c.length<=50)(hs:∀s∈c,Shn s)(hv:v.length<=100000):pU 34 [bR c,.int .i64 d,aD v] (.tup [aj (vn c d v).1,.int .i64 (vn c d v).2]):=by
 refine pO OB ?_;simp only[b34,aH];have hcc:=jY c (show _<=_ by omega) hs;have z0:decide ((0:Int)≠0)=false:=rfl;unfold vn;by_cases he:aA c=0
 rotate_left
 ·rw[if_pos he];have z:decide (aA c≠0)=true:=aM he;refine wnY (zI3 @ai @af @z) ?_;exact d6 (.eslsl _) rfl
 rw[if_neg (λh=>h he)];rw[he] at hcc;by_cases hd:d<0\/8<=d
 ·rw[if_pos hd];have zz:=aI @ai (aI @af @z0);repeat' (first|refine zW ?_|apply a_n|apply a_r|refine zO ?_|refine vY ?_|refine cY ?_ (hp:=hcc) (hs:=by(first|refine aG ?_ rfl|apply aW);(repeat' (first|exact ak|apply bv|apply aX|exact cQ _));first|done|fail)|refine bxY ?_|refine gTY ?_|refine gFY ?_|refine cTY ?_|refine cFY ?_|(refine zGY ?_ ?_<;>(intro _hg;try (exfalso;omega)))|refine b6 rfl ?_|refine r2Y ?_|fail)
  all_goals first|exact d6 (.eslsl _) rfl|(exfalso;omega)
 rw[if_neg hd];have hX:=EW c d (by omega) hc hs;rw[Db he (by omega) (by omega)] at hX;have hXl:=ir (d:=d+1) hc he;have hXm:=dG (d:=d+1) he;generalize am c (d+1)=X at *;have z1:decide (d<0)=false:=aQ (by omega);have z2:decide (8<=d)=false:=aQ (by omega);refine wnY (zI5 @ai @af @z0 @z1 @z2) ?_;refine bZ (X:=AV×Nat) (λx=>[(2,aD v),(9,aj X),(11,x.1),(34,aD v),(35,.int .i64 v.length),(36,.int .i64 x.2)]) (λx H nx=>x.2<=v.length/\(∀i,i<x.2->yR X.length v i=0)/\Row H 1 x.1 ((cf X (v.take x.2)).map aB)/\∀b,bz x.1=some b->b<nx) (λx=>v.length-x.2) (.esl,0) ⟨bC _,λi h=>absurd h (by omega),Row.nil,λb hb=>(by cases hb)⟩ ag0 ?_;rintro⟨sv,k⟩ H nx ⟨k1,k2,k3,k4⟩;dsimp only at k1 k2 k3 k4 |-;by_cases hk:k<v.length
 rotate_left
 ·have hz:qI X.length v=0:=dl λi hi=>k2 i (by omega);rw[if_neg (λh=>h hz)];rw[fP (by omega)] at k3;have hpl:(cf X v).length=v.length:=by unfold cf;rw[bo]
  have hcp:=wR (cf X v) (by omega) λs hs=>by
   unfold cf at hs;obtain⟨i,hi,rfl⟩:=bE.1 hs;by_cases hl:i.toNat<X.length
   ·exact AE hXm _ (ar hl)
   ·rw[show X.getD i.toNat default=[] by unfold List.getD;rw[List.getElem?_eq_none (by omega)];rfl];exact bC _
  obtain⟨Hf,H4,hfz,hsn,hoth⟩:=Kv k3;have z6:decide ((k:Int)<v.length)=false:=aQ (by omega);refine dQ ?_;have zz:=@z6;repeat' (first|apply a_n|refine zO ?_|refine vY ?_|fail)
  refine dQ ?_;clear zz;have zz:=@z6;repeat' (first|apply a_n|apply a_x|refine zO ?_|refine cFY ?_|fail)
  refine dQ ?_;refine qh Hf H4 [(11,aj (cf X v))] hfz ⟨.inr hsn,trivial⟩ ?_;refine wnY and_self ?_;exact d6 (bm _).snap rfl
 have ix:=ixV hk;have hsp:=tQ (n:=X.length) (v:=v) (k:=k)
 have hfin:∀e:Int,e≠0->yR X.length v k=e->(if qI X.length v≠0 then(([]:List Spx),qI X.length v) else(cf X v,0))=([],e):=λe h0 he=>by
  have h5:qI X.length v=e:=by
   unfold qI;rw[cL hk k2 (by rw[he];exact h0),he]
  rw[if_pos (by rw[h5];exact h0),h5]
 by_cases g1:v.getD k default<0
 ·rw[if_pos (.inl g1)] at hsp;rw[hfin 2 (by decide) hsp];have z1:decide (v.getD k default<0)=true:=aM g1;refine wnY (aI @ix @z1) ?_;exact d6 (.eslsl _) rfl
 have z3:decide (v.getD k default<0)=false:=aQ g1;by_cases g2:(X.length:Int)<=v.getD k default
 ·rw[if_pos (.inr g2)] at hsp;rw[hfin 2 (by decide) hsp];have z4:decide ((X.length:Int)<=v.getD k default)=true:=aM g2;refine wnY (zI4 @ix @z3 @z4 @ae) ?_;exact d6 (.eslsl _) rfl
 have z4:decide ((X.length:Int)<=v.getD k default)=false:=aQ g2;rw[if_neg (by omega)] at hsp
 have iw:eF 1 (aj X) (.int .i64 (v.getD k default))=some (.iptr [aB (X.getD (v.getD k default).toNat default)] 0):=by
  rw[r6,if_pos ⟨by omega,by omega⟩]
 have hpt:=sL (X:=X) hk;have hnl:(cf X (v.take k)).length=k:=by unfold cf;rw[bo,fy];omega
 have hstep:∀ (s2:AV) (E:Hp) (e:Nat),yR X.length v k=0→Row E 1 s2 ((cf X (v.take k)).map aB ++ [aB (X.getD (v.getD k default).toNat default)])→(∀ i,i < k + 1→yR X.length v i=0)∧Row E 1 s2 ((cf X (v.take (k + 1))).map aB):=fun s2 E e hz hr=>⟨fun i hi=>by
  rcases ij.1 hi with h'|rfl
  ·exact k2 i h'
  ·exact hz,by rw[hpt,cA];exact hr⟩
 generalize X.getD (v.getD k default).toNat default=x at *;by_cases hk0:0<k
 rotate_left
 ·rw[if_neg (λh=>hk0 h.1)] at hsp;have zk:decide (0<(k:Int))=false:=aQ (by omega);refine wnY (zI8 @ix @iw @z3 @z4 @zk @ae @aY @aJ) ?_;refine eR (k3.same λb hb=>?_) ?_
  ·have:=k4 b hb;rw[ac (by omega)]
  rintro s2 E e hrow hle1 hle2 hsame hb2;refine wnY and_self ?_
  exact ⟨(s2,k + 1),by dsimp only; omega,⟨by dsimp only; omega,(hstep s2 E e hsp hrow).1,(hstep s2 E e hsp hrow).2,fun b hb=>by
   rcases hb2 b hb with h|h
   ·have:=k4 b h;omega
   ·omega⟩,ag0⟩
 have zk:decide (0<(k:Int))=true:=aM (by omega)
 have iy:eF 1 (aD v) (.int .i64 ((k:Int)-1))=some (.iptr [.int .i64 (v.getD (k-1) default)] 0):=by
  have:=ixV (l:=v) (k:=k-1) (by omega)
  rwa [show((k-1:Nat):Int)=(k:Int)-1 by omega] at this
 by_cases g3:v.getD k default<=v.getD (k-1) default
 ·rw[if_pos ⟨hk0,g3⟩] at hsp;rw[hfin 14 (by decide) hsp];have z5:decide (v.getD k default<=v.getD (k-1) default)=true:=aM g3;refine wnY (zI7 @ix @iy @z3 @z4 @zk @z5 @ae) ?_;exact d6 (.eslsl _) rfl
 ·rw[if_neg (λh=>g3 h.2)] at hsp;have z5:decide (v.getD k default<=v.getD (k-1) default)=false:=aQ g3;refine wnY (jT @ix @iy @iw @z3 @z4 @zk @z5 @ae @aY @aJ) ?_;refine eR (k3.same λb hb=>?_) ?_
  ·have:=k4 b hb;rw[ac (by omega)]
  rintro s2 E e hrow hle1 hle2 hsame hb2;refine wnY and_self ?_
  exact ⟨(s2,k + 1),by dsimp only; omega,⟨by dsimp only; omega,(hstep s2 E e hsp hrow).1,(hstep s2 E e hsp hrow).2,fun b hb=>by
   rcases hb2 b hb with h|h
   ·have:=k4 b h;omega
   ·omega⟩,ag0⟩
theorem uT(l m:List Int)(hl:l.length<=1000000)(hm:m.length<=1000000):pU 17 [aD l,aD m] (.bool (decide (l=m))):=by
 refine pO O4 ?_;simp only[b17,aH]
 repeat' (first|refine zW ?_|apply a_n|apply a_r|refine zO ?_|refine vZ ?_|(refine zGZ ?_ ?_<;>(intro _hg;try (exfalso;omega)))|refine b6 rfl ?_|refine r1Z ?_|fail)
 ·refine cC ?_
  symm;rw[decide_eq_false_iff_not];rintro rfl;omega
 refine kE (X:=Nat) (λk=>[(0,aD l),(1,aD m),(12,.int .i64 l.length),(13,.int .i64 k)]) (λk=>k<=l.length/\∀i,i<k->l.getD i default=m.getD i default) (λk=>l.length-k) 0 ⟨bC _,by simp⟩ ag0 ?_;rintro k ⟨h1,h2⟩
 repeat' (first|refine zW ?_|apply a_n|apply a_x|apply a_r|refine zO ?_|refine vZ ?_|(refine zGZ ?_ ?_<;>(intro _hg;try (exfalso;omega)))|refine b6 rfl ?_|refine r1Z ?_|fail)
 ·refine cC ?_
  symm;rw[decide_eq_false_iff_not];rintro rfl;exact absurd rfl ‹_›
 ·refine⟨k+1,⟨by omega,λi hi=>?_⟩,by omega,ag0,rfl,rfl⟩;rcases ij.1 hi with h|rfl
  ·exact h2 i h
  ·omega
 ·refine cC ?_
  symm;rw[yn]
  refine List.ext_getElem (by omega) (λi h3 h4=>?_);have:=h2 i (by omega);simpa[List.getD,h3,h4] using this
end
theorem wh{a:List Spx}(h:a.length<=1000000)(hs:∀s∈a,bW s=0):ShC a:=⟨show _<=_ by omega,jK hs⟩
theorem uE{s:Spx}:(bi s).length<=s.length:=by
 rw[<-pi.length_eq];unfold fcs;split
 ·exact bC _
 ·rw[sx];exact aP _
theorem tL:∀(a o:List Spx),(∀s∈a,s.length<=8)->(jQ a o).length<=o.length+a.length*8
 |[],o,_=>Nat.le_add_right _ _
 |s::a,o,h=>by
  have h1:=tL a (jv bg o (bi s)) λt ht=>h t (dU _ ht);have h2:=Cm (K:=bg) (a:=o) (b:=bi s);have h3:=uE (s:=s);have h4:=h s de;show(jQ a (jv bg o (bi s))).length<=_;rw[bS];omega
theorem tZ{a:List Spx}(h:∀s∈a,s.length<=8):(bI a).length<=a.length*8:=by
 have:=tL a [] h;rw[fJ,cq] at this;exact this
theorem Ew{a:List Spx}(ha:fL a=0)(hl:a.length<=500):fL (bI a)=0:=by
 obtain⟨p1,p2,p3,p4⟩:=dP ha;have:=tZ (wt p2);exact Cc (by omega) (nH p2) (rb (fw p2)) (w5 (fw p2) p4)
theorem EJ{a:List Spx}(ha:fL a=0)(hl:a.length<=500):gx a=(bI a,0):=by
 have:=tZ (wt (dP ha).2.1);unfold gx;rw[if_neg (λh=>h ha),if_neg (by omega)]
theorem nj:∀(n:Nat)(a b:List Int),a.length+b.length<=n->bj a->bj b->(bU a b).length+2*(a.filter λx=>decide (x∈b)).length=a.length+b.length
 |_,[],b,_,_,_=>by rw[jg];simp
 |_,x::a,[],_,_,_=>by
  rw[gq,DI.2 (λz _=>by simp)];rfl
 |0,x::a,y::b,h,_,_=>by simp only[bS] at h;omega
 |n+1,x::a,y::b,h,ha,hb=>by
  simp only[bS] at h |-;obtain⟨a1,a2⟩:=iR.1 ha;obtain⟨b1,b2⟩:=iR.1 hb;rw[kQ];by_cases g1:x<y
  ·have hx:x∉y::b:=λq=>by
     rcases dt.1 q with rfl|q
     ·omega
     ·have:=b1 x q;omega
   have ih:=nj n a (y::b) (by simp only[bS];omega) a2 hb;rw[if_pos g1,bS,q9 (by simpa using hx)];simp only[bS] at ih;omega
  rw[if_neg g1];by_cases g2:y<x
  ·have hf:(x::a).filter (λz=>decide (z∈y::b))=(x::a).filter λz=>decide (z∈b):=by
     refine List.filter_congr λz hz=>decide_eq_decide.2 ?_;rw[dt];refine⟨λh=>h.resolve_left ?_,.inr⟩;rintro rfl;rcases dt.1 hz with rfl|hz
     ·omega
     ·have:=a1 z hz;omega
   have ih:=nj n (x::a) b (by simp only[bS];omega) ha b2;rw[if_pos g2,bS,hf];simp only[bS] at ih;omega
  rw[if_neg g2];obtain rfl:x=y:=by omega
  have hf:a.filter (λz=>decide (z∈x::b))=a.filter λz=>decide (z∈b):=by
   refine List.filter_congr λz hz=>decide_eq_decide.2 ?_;rw[dt];refine⟨λh=>h.resolve_left ?_,.inr⟩;rintro rfl;have:=a1 z hz;omega
  have ih:=nj n a b (by omega) a2 b2;rw[rf (by simp),bS,hf];omega
theorem rU{a b:List Int}(ha:a.Nodup)(hb:b.Nodup):(a.filter λx=>decide (x∈b)).length=(b.filter λx=>decide (x∈a)).length:=
 ((List.perm_ext_iff_of_nodup (ha.sublist xR) (hb.sublist xR)).2 fun x=>by
  simp only[fM,f9];exact And.comm).length_eq
theorem bj.nodup{l:List Int}(h:bj l):l.Nodup:=u0 (λ{x y}(h:x<y) e=>by omega) h
theorem wG{l:List Nat}{n:Nat}:(n:Int)∈bl l↔n∈l:=by
 unfold bl;rw[bE];exact⟨λ⟨m,h1,h2⟩=>by rwa [<-(by omega:m=n)],λh=>⟨n,h,rfl⟩⟩
theorem gY{l:List Nat}{x:Int}:x∈bl l↔ ∃i:Nat,i∈l/\(i:Int)=x:=by unfold bl;exact bE
theorem ec{l:List Nat}(h:l.Pairwise (· < ·)):bj (bl l):=by
 unfold bl bj;rw[List.pairwise_map];exact u0 (λ{a b}(h:a<b)=>by omega) h
theorem tx{X Y:List Spx}{n i:Nat}:(gV X Y n i).Pairwise (· < ·):=List.pairwise_lt_range.sublist xR
theorem sK{X Y:List Spx}{n i j:Nat}:j∈gV X Y n i↔j<n/\Y.getD i default∈bi (X.getD j default):=by
 unfold gV;simp only[fM,dZ,f9]
theorem fq{X Y:List Spx}:(ca X Y).length=Y.length:=by unfold ca;simp
theorem AG{X Y:List Spx}{i:Nat}(h:i<Y.length):(ca X Y).getD i default=bl (gV X Y X.length i):=by
 unfold ca;simp[List.getD,h]
theorem jt{X Y:List Spx}(hX:X.length<=4096)(hY:Y.length<=4096):fZ X.length (ca X Y):=by
 refine⟨by omega,by omega,by rw[fq];exact hY,λr hr=>?_⟩;unfold ca at hr;obtain⟨i,hi,rfl⟩:=bE.1 hr;refine⟨λv hv=>?_,?_,qf (ec tx)⟩
 ·unfold bl at hv;obtain⟨j,hj,rfl⟩:=bE.1 hv;have:=(sK.1 hj).1;omega
 ·unfold bl;rw[bo];exact fm sW hX
def gM(a b:List Int):Bool:=decide ((a.length+b.length-(bU a b).length)/2%2=1)
def fg(R:List (List Int))(x:List Int):List Nat:=(List.range R.length).filter λi=>gM (R.getD i default) x
theorem uU{X:List Spx}(hX:∀s∈X,bO cz s){f:Spx}:∀{w:List Nat},(∀j∈w,j<X.length)->(w.filter λj=>decide (f∈bi (X.getD j default))).length=n9 (w.map λj=>X.getD j default) f
 |[],_=>rfl
 |j::w,h=>by
  have ih:=uU hX (f:=f) (w:=w) λi hi=>h i (dU _ hi);have hn:=pX (hX _ (bc (h j de)));rw[fF,qG];by_cases hf:f∈bi (X.getD j default)
  ·have h1:=List.count_pos_iff.2 hf;have h2:=List.nodup_iff_count.1 hn f;rw[rf (by simpa using hf),bS,ih];omega
  ·rw[q9 (by simpa using hf),ih,List.count_eq_zero_of_not_mem hf,cq]
theorem D7{X Y:List Spx}(hX:∀s∈X,bO cz s){w:List Nat}(hw:w.Pairwise (· < ·))(hb:∀j∈w,j<X.length){i:Nat}:i∈fg (ca X Y) (bl w)↔i<Y.length/\Y.getD i default∈bI (w.map λj=>X.getD j default):=by
 have hsub:∀s∈w.map (λj=>X.getD j default),bO cz s:=λs hs=>by
  obtain⟨j,hj,rfl⟩:=bE.1 hs;exact hX _ (bc (hb j hj))
 unfold fg;rw[fM,dZ,fq];refine and_congr_right λhi=>?_;rw[AG hi,(jJ hsub).2,<-uU hX hb];have h1:=nj _ _ _ (aP _) (ec (tx (X:=X) (Y:=Y) (n:=X.length) (i:=i))) (ec hw);have h2:=rU (ec (tx (X:=X) (Y:=Y) (n:=X.length) (i:=i))).nodup (ec hw).nodup
 have h3:((bl w).filter λx=>decide (x∈bl (gV X Y X.length i))).length=(w.filter λj=>decide (Y.getD i default∈bi (X.getD j default))).length:=by
  rw[show bl w=w.map λ(n:Nat)=>(n:Int) from rfl,List.filter_map,bo]
  congr 1
  refine List.filter_congr λj hj=>?_;show decide ((j:Int)∈bl _)=_;refine decide_eq_decide.2 ?_;rw[wG,sK];exact⟨λh=>h.2,λh=>⟨hb j hj,h⟩⟩
 unfold gM;rw[f9];omega
theorem fc{Y:List Spx}{f:Spx}(h:f∈Y):Y.idxOf f<Y.length/\Y.getD (Y.idxOf f) default=f:=by
 have hl:=nY.2 h;exact⟨hl,by simp[List.getD,hl]⟩
theorem wZ{Y:List Spx}(hY:Y.Nodup){i:Nat}(h:i<Y.length):Y.idxOf (Y.getD i default)=i:=by
 have h1:=fc (bc h);have e1:Y[Y.idxOf (Y.getD i default)]'h1.1=Y[i]:=(List.getElem_idxOf h1.1).trans (by simp[List.getD,h]);exact(List.getElem_inj hY).1 e1
theorem Eu{Y a:List Spx}(hY:bO bg Y)(ha:bO bg a)(h:∀s∈a,s∈Y):(a.map λs=>Y.idxOf s).Pairwise (· < ·):=by
 rw[List.pairwise_map];refine List.Pairwise.imp_of_mem (λ{s t} hs ht hst=>?_) ha;obtain⟨h1,h2⟩:=fc (h s hs);obtain⟨h3,h4⟩:=fc (h t ht);rcases sg (Y.idxOf s) (Y.idxOf t) with q|q|q
 ·exact q
 ·rw[q,h4] at h2;subst h2;exact absurd hst (iC.ord.irr _)
 ·have:=dY hY q h1;rw[h2,h4] at this;exact absurd hst (iC.ord.asym _ _ this)
theorem BG{X Y:List Spx}(hX:∀s∈X,bO cz s)(hY:bO bg Y){w:List Nat}(hw:w.Pairwise (· < ·))(hb:∀j∈w,j<X.length)(hin:∀s∈bI (w.map λj=>X.getD j default),s∈Y):
    bl (fg (ca X Y) (bl w))=bl ((bI (w.map λj=>X.getD j default)).map λs=>Y.idxOf s):=by
 have hsub:∀s∈w.map (λj=>X.getD j default),bO cz s:=λs hs=>by
  obtain⟨j,hj,rfl⟩:=bE.1 hs;exact hX _ (bc (hb j hj))
 refine DC (ec (List.pairwise_lt_range.sublist xR)) (ec (Eu hY (rb hsub) hin)) λx=>?_;rw[gY,gY];refine exists_congr λi=>and_congr_left λ_=>?_;rw[D7 hX hw hb,bE]
 exact ⟨fun ⟨h1,h2⟩=>⟨_,h2,wZ (hY.nodup iC) h1⟩,fun ⟨s,h1,h2⟩=>by
  obtain⟨h3,h4⟩:=fc (hin s h1);rw[<-h2,h4];exact⟨h3,h1⟩⟩
def trF(R:List (List Int))(n q:Nat):List Nat:=(List.range n).filter λi=>decide ((q:Int)∈R.getD i default)
theorem FA{R:List (List Int)}{n q:Nat}:trF R (n+1) q=trF R n q++if (q:Int)∈R.getD n default then [n] else []:=by
 unfold trF;rw[List.range_succ,s7]
 congr 1
 by_cases h:(q:Int)∈R.getD n default
 ·rw[if_pos h,rf (by simpa using h)];rfl
 ·rw[if_neg h,q9 (by simpa using h)];rfl
theorem CR{R:List (List Int)}{n q:Nat}:(trF R n q).length<=n:=by
 unfold trF;exact fm (List.length_filter_le _ _) (by simp)
def trL(c:Nat)(R:List (List Int)):List (List Int):=(List.range c).map λq=>bl (trF R R.length q)
theorem jb(v:Int)(ks:List Int):dw (.one .int) (.int .i64 v) (ks.map (AV.int .i64))=some (if v∈ks then some (ks.idxOf v) else none):=
 nN _ (AV.int .i64) (λa b=>rfl) v ks
theorem Oc(v:Int):∀{l:List Int},bj l->∃b,b<=l.length/\(∀i,i<b->l.getD i default<v)/\∀i,b<=i->i<l.length->v<=l.getD i default
 |[],_=>⟨0,aP _,λi h=>absurd h (by omega),λi _ h=>absurd h (by simp)⟩
 |x::l,h=>by
  obtain⟨h1,h2⟩:=iR.1 h;by_cases hx:x<v
  ·obtain⟨b,b1,b2,b3⟩:=Oc v h2;refine⟨b+1,by simp;omega,λi hi=>?_,λi hi hl=>?_⟩
   ·match i with
    |0=>exact hx
    |i+1=>exact b2 i (by omega)
   ·match i with
    |0=>omega
    |i+1=>exact b3 i (by omega) (by simp at hl;omega)
  ·refine⟨0,bC _,λi h=>absurd h (by omega),λi _ hl=>?_⟩
   match i with
   |0=>show v<=x;omega
   |i+1=>
    have:=h1 (l.getD i default) (ar (by simp at hl;omega));show v<=l.getD i default;omega
theorem JS{v:Int}{l:List Int}{b:Nat}(h1:∀i,i<b->l.getD i default<v)(h2:∀i,b<=i->i<l.length->v<=l.getD i default)(ha:bj l):(decide (b<l.length)&&decide (l.getD b default=v))=decide (v∈l):=by
 by_cases hm:v∈l
 ·obtain⟨i,hi,e⟩:=jO hm;have e':l.getD i default=v:=by simp[List.getD,hi,e]
  have hbi:b=i:=by
   rcases sg b i with h|h|h
   ·have h3:=h2 b (aP _) (by omega);have h4:=kX.1 ha b i (by omega) hi h;have e5:l.getD b default=l[b]:=by simp[List.getD,show b<l.length by omega]
    omega
   ·exact h
   ·have:=h1 i h;omega
  subst hbi;rw[aM hi,aM hm,aM e'];rfl
 ·rw[aQ hm];by_cases hlt:b<l.length
  ·rw[aM hlt,Bool.true_and,aQ];intro h;exact hm (by rw[<-h];exact ar hlt)
  ·rw[aQ hlt,Bool.false_and]
def BL(c n:Nat)(x:Ln):Prop:=(∀z∈x.1,0<=z/\z<(c:Int))/\∀j∈x.2,0<=j/\j<(n:Int)
theorem d5{a:List Int}{c:Nat}(ha:bj a)(h:∀z∈a,0<=z/\z<(c:Int)):a.length<=c:=by
 have hn:a.Nodup:=u0 (λ{x y}(q:x<y) e=>by omega) ha
 have:=Aa hn (l₂:=(List.range c).map λ(k:Nat)=>(k:Int)) λz hz=>by
  have:=h z hz;exact bE.2 ⟨z.toNat,dZ.2 (by omega),by show((z.toNat:Nat):Int)=z;omega⟩
 simpa using this
theorem BL.len{c n:Nat}{x:Ln}(h:BL c n x)(ha:cI x):x.1.length<=c/\x.2.length<=n:=⟨d5 ha.1 h.1,d5 ha.2 h.2⟩
theorem BL.add{c n:Nat}{x l:Ln}(hx:BL c n x)(hl:BL c n l)(ax:cI x)(al:cI l):BL c n (ef x l):=by
 refine⟨λz hz=>?_,λz hz=>?_⟩
 ·rcases(dA ax.1 al.1).1 hz with q|q
  ·exact hx.1 z q.1
  ·exact hl.1 z q.1
 ·rcases(dA ax.2 al.2).1 hz with q|q
  ·exact hx.2 z q.1
  ·exact hl.2 z q.1
theorem BN{c n:Nat}{p:Ln->Bool}:∀{M:List Ln}{x:Ln},(∀l∈M,cI l/\BL c n l)->cI x->BL c n x->BL c n (rdL M p x)
 |[],_,_,_,h=>h
 |l::M,x,hM,hx,h=>by
  unfold rdL;rw[List.foldl_cons];have hl:=hM l de;have hM':=λm hm=>hM m (dU _ hm);show BL c n (rdL M p (if p l=true then ef x l else x));split
  ·exact BN hM' (eX hx hl.1) (h.add hl.2 hx hl.1)
  ·exact BN hM' hx h
theorem z8:∀{i:Nat}{a b:List Int},i<=a.length->(∀j,j<i->∀z∈b,a.getD j default<z)->∀j,j<i->(bU a b).getD j default=a.getD j default
 |0,_,_,_,_,j,hj=>absurd hj (by omega)
 |i+1,[],_,h,_,_,_=>absurd h (by simp)
 |i+1,x::a,[],h,_,j,_=>by rw[gq]
 |i+1,x::a,y::b,h,hz,j,hj=>by
  have h0:x<y:=hz 0 (by omega) y de;rw[kQ,if_pos h0]
  match j with
  |0=>rfl
  |j+1=>exact z8 (i:=i) (a:=a) (b:=y::b) (by simpa using h) (λk hk z hz'=>hz (k+1) (by omega) z hz') j (by omega)
theorem xq:∀{i:Nat}{a b:List Int},i<=a.length->(∀j,j<i->∀z∈b,a.getD j default<z)->i<=(bU a b).length
 |0,_,_,_,_=>bC _
 |i+1,[],_,h,_=>absurd h (by simp)
 |i+1,x::a,[],h,_=>by rw[gq];exact h
 |i+1,x::a,y::b,h,hz=>by
  have h0:x<y:=hz 0 (by omega) y de;rw[kQ,if_pos h0,bS];have:=xq (i:=i) (a:=a) (b:=y::b) (by simpa using h) (λk hk z hz'=>hz (k+1) (by omega) z hz');omega
theorem Ez{M:List Ln}{p q:Ln->Bool}{l:Ln}(h:∀m∈M,q m=true->p m=true)(hl:l∈M)(h1:p l=true)(h2:q l=false):M.countP q<M.countP p:=by
 induction M with
 |nil=>cases hl
 |cons m M ih=>
  rw[List.countP_cons,List.countP_cons];have hle:M.countP q<=M.countP p:=List.countP_mono_left λx hx=>h x (dU _ hx);rcases dt.1 hl with rfl|hl
  ·rw[if_pos h1,if_neg (by rw[h2];decide)];omega
  ·have:=ih (λx hx=>h x (dU _ hx)) hl;have h3:=h m de;by_cases hq:q m=true
   ·rw[if_pos hq,if_pos (h3 hq)];omega
   ·rw[if_neg hq];split<;>omega
def nL(M:List Ln)(x:Ln):Nat:=M.countP λl=>decide (ld l.1∈x.1)
theorem KX{M:List Ln}{x l:Ln}(hM:RedU M)(hx:cI x)(hl:l∈M)(h:ld l.1∈x.1):nL M (ef x l)<nL M x:=by
 have hla:=hM.asc l hl;refine Ez (l:=l) (λm hm hq=>?_) hl (aM h) (aQ λhq=>?_)
 ·have hq:=n5 hq;refine aM ?_;rcases(dA hx.1 hla.1).1 hq with q|q
  ·exact q.1
  ·have:=hM.own m hm l hl q.1;rw[<-this];exact h
 ·rcases(dA hx.1 hla.1).1 hq with q|q
  ·exact q.2 (dq (hM.ne l hl))
  ·exact q.2 h
def b8(M:List Ln):List Int:=M.map λl=>ld l.1
def eT(x:Ln):AV:=.agg [aD x.1,aD x.2]
def LM(H:Hp)(m:Nat)(M:List Ln):Prop:=H m=some [.omap ((b8 M).map (AV.int .i64)) (M.map eT)]
theorem wz{M:List Ln}{v:Int}(h:v∈b8 M):∃l∈M,ld l.1=v/\(M.map eT).getD ((b8 M).idxOf v) .undef=eT l:=by
 have hi:=nY.2 h;have h2:(b8 M)[(b8 M).idxOf v]=v:=List.getElem_idxOf hi;generalize (b8 M).idxOf v=i at *;have hi':i<M.length:=by unfold b8 at hi;simpa using hi
 refine⟨M[i],n7 hi',?_,?_⟩
 ·have h3:(b8 M)[i]'hi=ld M[i].1:=List.getElem_map ..;rw[<-h3];exact h2
 ·simp[List.getD,hi']
theorem nJ{M:List Ln}{v:Int}:v∈b8 M↔ ∃l∈M,ld l.1=v:=by unfold b8;rw[bE]
theorem K5{T:Tm}{S:Hp}{m:Nat}{ks:List Int}{vs:List AV}{mo ko:Opd}{v:Int}{z:AV}{ok:Bool}(h1:ov T mo=.mp m)(h2:S m=some [.omap (ks.map (AV.int .i64)) vs])(h3:ov T ko=.int .i64 v):ilk T S (.mget (.one .int) z ok mo ko)=some (Go.Abs.mget z ok (if v∈ks then some (ks.idxOf v) else none) vs):=by
 show lkS _ _ _ (ov T mo) (ov T ko) S=_;rw[h1,h3];simp only[lkS,h2,jb];rfl
def cLs(l:List Ln):List AV:=l.flatMap λx=>[aD x.1,aD x.2]
def mJ(l:List Ln):AV:=jx 2 eT l
theorem Gv{l:List Ln}{x:Ln}:cLs (l++[x])=cLs l++[aD x.1,aD x.2]:=by unfold cLs;simp
theorem Dd{l:List Ln}:(cLs l).length=l.length*2:=by
 induction l with
 |nil=>rfl
 |cons x l ih=>show([aD x.1,aD x.2]++cLs l).length=_;rw[da,ih,bS];simp;omega
theorem HX{l:List Ln}:cLs l=(l.map eT).flatMap AV.cells:=by
 induction l with
 |nil=>rfl
 |cons x l ih=>show [aD x.1,aD x.2]++cLs l=_;rw[ih];rfl
theorem Ir{H:Hp}{s:AV}{l:List Ln}(h:Row H 2 s (cLs l)):Snap H s (mJ l):=by
 refine Row.snap (elems:=l.map eT) (by rw[<-HX];exact h) (λy hy=>?_) (by omega) (λy hy c hx=>?_)
 ·obtain⟨n,_,rfl⟩:=bE.1 hy;rfl
 ·obtain⟨n,_,rfl⟩:=bE.1 hy;simp only[eT,AV.cells,dt,List.not_mem_nil,or_false] at hx;rcases hx with rfl|rfl<;>exact cJ _
theorem zJ{M:List Ln}(hM:RedU M):(b8 M).Nodup:=by
 unfold b8;refine List.pairwise_map.2 (List.Pairwise.imp_of_mem (λ{x y} hx hy hne e=>?_) hM.nodup);have:=dq (hM.ne y hy);rw[<-e] at this;exact hne (hM.own x hx y hy this).symm
def vsS(M:List Ln)(y:Ln)(seen:List Nat):List AV:=(List.range M.length).map λi=>eT (if i∈seen then kd y (M.getD i default) else M.getD i default)
theorem HB{M:List Ln}{y:Ln}:vsS M y []=M.map eT:=by
 refine List.ext_getElem (by simp[vsS]) λi h1 h2=>?_;have h2:i<M.length:=by simpa using h2
 simp[vsS,List.getD,h2]
theorem Ce{M:List Ln}{y:Ln}{seen:List Nat}{i:Nat}(hi:i<M.length)(h:i∉seen):(vsS M y seen).getD i .undef=eT (M.getD i default):=by
 simp[vsS,List.getD,hi,h]
theorem C9{M:List Ln}{y:Ln}{seen:List Nat}{i:Nat}:(vsS M y seen).set i (eT (kd y (M.getD i default)))=vsS M y (seen++[i]):=by
 refine List.ext_getElem (by simp[vsS]) λj h1 h2=>?_;have h2:j<M.length:=by simpa[vsS] using h2
 rw[List.getElem_set];by_cases e:i=j
 ·subst e;simp[vsS]
 ·have e':¬j=i:=λh=>e h.symm;simp[vsS,e,e']
theorem FT{M:List Ln}{y:Ln}{seen:List Nat}{i:Nat}(hi:i<M.length)(hs:i∉seen)(h:ld y.1∉(M.getD i default).1):vsS M y (seen++[i])=vsS M y seen:=by
 rw[<-C9,show kd y (M.getD i default)=M.getD i default by unfold kd;rw[if_neg h],<-Ce (y:=y) hi hs];refine List.ext_getElem (by simp) λj h1 h2=>?_;rw[List.getElem_set];split
 ·rename_i e;subst e;simp[List.getD,h2]
 ·rfl
theorem Ik{M:List Ln}{y:Ln}{seen:List Nat}(h:∀i,i<M.length->i∈seen):vsS M y seen=(M.map (kd y)).map eT:=by
 refine List.ext_getElem (by simp[vsS]) λi h1 h2=>?_;have h2:i<M.length:=by simpa using h2
 simp[vsS,List.getD,h2,h i h2]
theorem Bx{R:List (List Int)}{c k:Nat}(hR:∀r∈R,bj r)(hv:∀r∈R,∀z∈r,0<=z/\z<(c:Int))(hk:k<=R.length):∀l∈(stE R k).1,BL c R.length l:=λl hl=>by
 have hs:=fY hR hk;refine⟨jw (λr hr=>hR r (iq hr)) (λr hr=>hv r (iq hr)) (hs.inS l hl),λj hj=>?_⟩;have:=(hs.ok l hl).2 j hj;omega
theorem yC{R:List (List Int)}(hR:∀r∈R,bj r){k:Nat}(hk:k<=R.length):(stE R k).1.length<=k/\(stE R k).2.length<=k:=by
 have:=(fY hR hk).len;omega
theorem Ea{l:List Int}(h:l≠[]):eF 1 (aD l) (.int .i64 0)=some (.iptr [.int .i64 (ld l)] 0):=by
 have:=ixV (l:=l) (k:=0) (f8.2 h);exact this
theorem Aq{M:List Ln}{y:Ln}(hM:RedU M)(hy:cI y)(h0:y.1≠[])(hn:∀l∈M,ld l.1∉y.1):b8 (M.map (kd y))=b8 M:=by
 unfold b8;rw[List.map_map];exact pK λl hl=>(uL hM hy h0 hn hl).2.2.2
theorem Gr{M:List Ln}(hM:RedU M){l:Ln}{v:Int}(hl:l∈M)(e:ld l.1=v):(M.find? λl=>decide (ld l.1=v))=some l:=by
 cases h:M.find? λl=>decide (ld l.1=v) with
 |none=>
  have:=List.find?_eq_none.1 h l hl;exact absurd (aM e) this
 |some m=>
  have h1:=n5 (List.find?_some (p:=λl:Ln=>decide (ld l.1=v)) h);have h2:=List.mem_of_find?_eq_some h;have:=dq (hM.ne m h2);rw[h1,<-e] at this;rw[hM.own l hl m h2 this]
theorem BD{M:List Ln}{v:Int}(h:v∉b8 M):(M.find? λl=>decide (ld l.1=v))=none:=
 List.find?_eq_none.2 λl hl hd=>h (nJ.2 ⟨l,hl,n5 hd⟩)
theorem A4{M:List Ln}{c:Nat}:(mh M c).length<=c:=by
 induction c with
 |zero=>simp[mh]
 |succ c ih=>
  rw[qB,da];have:(M.find? λl=>decide (ld l.1=(c:Int))).toList.length<=1:=by cases M.find? λl=>decide (ld l.1=(c:Int))<;>simp
  omega
theorem kF{H:Hp}{s:AV}{l:List (List Int)}(h:Row H 1 s (l.map aD)):Snap H s (br l):=by
 rw[Ii];exact h.snapL' (λ_=>rfl) (λx _=>cJ x)
theorem cu{c:Int}{R:List (List Int)}:dh c R=.agg [.int .i64 c,br R]:=rfl
theorem DW{r:List Int}(h:∀i,i+1<r.length->r.getD i default<r.getD (i+1) default):bj r:=by
 have hchain:∀b a,a<b->b<r.length->r.getD a default<r.getD b default:=λb=>by
  induction b with
  |zero=>intro a ha;omega
  |succ b ih=>
   intro a ha hb;have q:=h b hb;rcases(by omega:a<b\/a=b) with h|rfl
   ·have:=ih a h (by omega);omega
   ·exact q
 refine kX.2 λi j hi hj hij=>?_;have:=hchain j i hij hj;simpa[List.getD,hi,hj] using this
theorem eu{c:Int}{R:List (List Int)}(h:fZ c R):∀r∈R,bj r:=λr hr=>DW (h.2.2.2 r hr).2.2
theorem MC{l:List Ln}{k:Nat}(h:k<l.length):eF 2 (mJ l) (.int .i64 (k:Int))=some (.iptr [aD (l.getD k default).1,aD (l.getD k default).2] 0):=by
 unfold mJ;rw[nu,if_pos ⟨by omega,by omega⟩,cE];rfl
theorem uK{l:List Ln}:dz (mJ l)=some (.int .i64 l.length):=lR
theorem lr{R:List (List Int)}{c:Nat}:(ll R c).length<=c:=A4
theorem r_4{T:Tm}{H:Hp}{K:AV->Prop}{a b c d:RV}{x y z u:AV}(ha:rv T H a=some x)(hb:rv T H b=some y)(hc:rv T H c=some z)(hd:rv T H d=some u)(h:K (.tup [x,y,z,u])):bu T H K [a,b,c,d]:=by
 show yx T H [a,b,c,d] λxs=>K (.tup xs);simp only[yx,ha,hb,hc,hd];exact h
theorem l7{c:List Spx}(h:aA c=0):∀s∈c,Shn s:=λs hs=>show _<=_ by
 have:=(bX ((di h).2.1 s hs)).2.1;omega
def tM(c:List Spx):Nat->Int
 |0=>0
 |k+1=>if (k+1)%2=1 then tM c k+((gj c (k+1)).length:Int) else tM c k-((gj c (k+1)).length:Int)
theorem Cx{c:List Spx}(h:∀k,(gj c k).length<=3500):∀k:Nat,-(3500*(k:Int))<=tM c k/\tM c k<=3500*(k:Int)
 |0=>⟨by show -(3500*((0:Nat):Int))<=(0:Int);omega,by show(0:Int)<=3500*((0:Nat):Int);omega⟩
 |k+1=>by
  have:=Cx h k;have h2:=h (k+1);unfold tM;split<;>omega
def o7(c:List Spx):Nat->Int×Int
 |0=>(8,0)
 |k+1=>(min (o7 c k).1 ((c.getD k default).length:Int),max (o7 c k).2 ((c.getD k default).length:Int))
theorem CN{c:List Spx}{m:Int}(h0:0<=m)(h:∀s∈c,(s.length:Int)<=m):∀{k:Nat},k<=c.length->0<=(o7 c k).2/\(o7 c k).2<=m
 |0,_=>⟨Int.le_refl _,h0⟩
 |k+1,hk=>by
  have:=CN h0 h (k:=k) (by omega);have h2:=h _ (ar (l:=c) (i:=k) (by omega));unfold o7;dsimp only;omega
def ug(c:List Spx):Int:=(o7 c c.length).2
def Gb(c:List Spx):Bool:=decide ((o7 c c.length).2=0) || decide ((o7 c c.length).1=(o7 c c.length).2)
theorem Kt{c:List Spx}(hc:aA c=0){k:Nat}(hk:8<k):gj c k=[]:=by
 refine ye.2 λs hs=>?_;obtain⟨t,ht,h⟩:=y7.1 hs;obtain⟨h1,h2⟩:=eH.1 h;have:=(bX ((di hc).2.1 t ht)).2.1;have:=h1.length_le;omega
theorem zF{c:List Spx}{k:Nat}:am c (k:Int)=if k=0 then [] else gj c k:=by
 unfold am;by_cases h:k=0
 ·rw[if_pos (by omega),if_pos h]
 ·rw[if_neg (by omega),if_neg h,cE]
theorem cl{c:List Spx}(hc:aA c=0)(hl:c.length<=50){d:Int}:(am c d).length<=3500:=by
 unfold am;split
 ·simp
 ·exact pb hl λs hs=>(bX ((di hc).2.1 s hs)).2.1
theorem yM{c:List Spx}(hc:aA c=0){d:Int}(h:8<d):am c d=[]:=by
 unfold am;rw[if_neg (by omega)];exact Kt hc (by omega)
theorem Ae{Y:List Spx}:ca [] Y=List.replicate Y.length []:=by
 refine List.ext_getElem (by simp[ca]) λi h1 h2=>?_;simp[ca,bl,gV]
theorem D8{H:Hp}{b n:Nat}(h:H b=some (List.replicate n .esl)):Snap H (.msl b n 1 0 n) (br (List.replicate n [])):=by
 refine E9 h (by simp) ⟨by simp,λi x y hx hy=>?_⟩;obtain⟨h1,rfl⟩:=bL.1 hx;obtain⟨h2,rfl⟩:=bL.1 hy;simp only[List.getElem_map,List.getElem_replicate];exact .eslsl 1
def rkF(c:List Spx)(d:Nat):Nat:=(eD (ca (am c ((d:Int)+1)) (am c d)) (am c ((d:Int)+1)).length).length
def btF(c:List Spx)(d:Nat):Int:=((am c ((d:Int)+1)).length:Int)-(rkF c d:Int)-(rkF c (d+1):Int)
def btL(c:List Spx)(m:Nat):List Int:=(List.range m).map (btF c)
theorem yt{c:List Spx}{d:Nat}:rkF c d<=(am c ((d:Int)+1)).length:=by
 unfold rkF eD;rw[bo];exact lr
def rkK(n:Nat):List Int:=bl (List.range n)
theorem lH{n d:Nat}:(d:Int)∈rkK n↔d<n:=by
 unfold rkK;rw[gY];exact⟨λ⟨i,h1,h2⟩=>by have:=dZ.1 h1;omega,λh=>⟨d,dZ.2 h,rfl⟩⟩
theorem sA{n d:Nat}(h:d<n):(rkK n).idxOf (d:Int)=d:=by
 have hn:(rkK n).Nodup:=u0 (λ{x y}(q:x<y) e=>by omega) (ec List.pairwise_lt_range);have h1:=nY.2 (lH.2 h);have hl:d<(rkK n).length:=by unfold rkK bl;simpa using h
 have h2:(rkK n)[d]=(d:Int):=by
  have h4:(rkK n)[d]=(((List.range n)[d]'(by simpa using h):Nat):Int):=List.getElem_map ..;rw[h4,List.getElem_range]
 have h3:(rkK n)[(rkK n).idxOf (d:Int)]=(rkK n)[d]:=by rw[List.getElem_idxOf h1,h2]
 exact(List.getElem_inj hn).1 h3
theorem yT{n:Nat}:rkK (n+1)=rkK n++[(n:Int)]:=by unfold rkK bl;rw[List.range_succ,cA];rfl
def rkV(c:List Spx)(n:Nat):List AV:=(List.range n).map λd=>.int .i64 (rkF c d)
theorem AJ{c:List Spx}{n:Nat}:rkV c (n+1)=rkV c n++[.int .i64 (rkF c n)]:=by unfold rkV;rw[List.range_succ,cA];rfl
theorem sq{c:List Spx}{n d:Nat}(h:d<n):(rkV c n).getD d .undef=.int .i64 (rkF c d):=by unfold rkV;simp[List.getD,h]
theorem AU{c:List Spx}{n:Nat}:btL c (n+1)=btL c n++[btF c n]:=by unfold btL;rw[List.range_succ,cA];rfl
theorem rV{a:List Spx}(h:a≠[]):eF 1 (aj a) (.int .i64 0)=some (.iptr [aB (a.getD 0 default)] 0):=by
 have:=dC (l:=a) (k:=0) (f8.2 h);exact this
theorem kT{l:List Int}{i:Nat}(h:i<l.length):l.drop i=l.getD i default::l.drop (i+1):=by
 rw[List.drop_eq_getElem_cons h];simp[List.getD,h]
theorem Hu{a b:List Int}{i k:Nat}(hi:i<a.length)(h:k=b.length\/k<b.length/\a.getD i default<b.getD k default):bU (a.drop i) (b.drop k)=a.getD i default::bU (a.drop (i+1)) (b.drop k):=by
 rw[kT hi];rcases h with rfl|⟨h1,h2⟩
 ·rw[List.drop_length,gq,gq]
 ·rw[kT h1,kQ,if_pos h2]
theorem HF{a b:List Int}{i k:Nat}(hk:k<b.length)(h:i=a.length\/i<a.length/\b.getD k default<a.getD i default):bU (a.drop i) (b.drop k)=b.getD k default::bU (a.drop i) (b.drop (k+1)):=by
 rw[kT hk];rcases h with rfl|⟨h1,h2⟩
 ·rw[List.drop_length,jg,jg]
 ·rw[kT h1,kQ,if_neg (by omega),if_pos h2]
theorem Iv{a b:List Int}{i k:Nat}(hi:i<a.length)(hk:k<b.length)(h:a.getD i default=b.getD k default):bU (a.drop i) (b.drop k)=bU (a.drop (i+1)) (b.drop (k+1)):=by
 rw[kT hi,kT hk,kQ,if_neg (by omega),if_neg (by omega)]
def Hm(rows:List (List Int))(n c:Nat):Int:=match uW rows n c with
 |some k=>(k:Int)
 |none=>-1
theorem HR{rows:List (List Int)}{n c k:Nat}(hn:n<=k)(hk:k<rows.length)(h:∀i,n<=i->i<k->(c:Int)∉rows.getD i default)(hc:(c:Int)∈rows.getD k default):uW rows n c=some k:=by
 unfold uW;rw[List.find?_range_eq_some];refine⟨by simp only[dT,f9];exact⟨hn,hc⟩,dZ.2 hk,λj hj=>?_⟩;simp only[Bool.not_and,lZ,Bool.not_eq_true',decide_eq_false_iff_not];by_cases hnj:n<=j
 ·exact .inr (h j hnj hj)
 ·exact .inl hnj
theorem Gx{rows:List (List Int)}{n c:Nat}(h:∀i,n<=i->i<rows.length->(c:Int)∉rows.getD i default):uW rows n c=none:=by
 unfold uW;rw[List.find?_eq_none];intro i hi hd;simp only[dT,f9] at hd;exact h i hd.1 (dZ.1 hi) hd.2
theorem yP{rows:List (List Int)}{n c k:Nat}(h:uW rows n c=some k):n<=k/\k<rows.length:=by
 unfold uW at h;have h1:=List.find?_some h;have h2:=dZ.1 (List.mem_of_find?_eq_some h);simp only[dT,f9] at h1;exact⟨h1.1,h2⟩
def kg(R:List (List Int))(y:List Int):List Int:=y.foldl (λa i=>bU a (R.getD i.toNat default)) []
theorem wA{R:List (List Int)}{y:List Int}{i:Int}:kg R (y++[i])=bU (kg R y) (R.getD i.toNat default):=by unfold kg;rw[List.foldl_append];rfl
theorem yq{R:List (List Int)}{c:Nat}(hR:∀r∈R,bj r)(hv:∀r∈R,∀z∈r,0<=z/\z<(c:Int)){y:List Int}(hy:∀i∈y,0<=i/\i<(R.length:Int)):∀k,k<=y.length->bj (kg R (y.take k))/\∀z∈kg R (y.take k),0<=z/\z<(c:Int)
 |0,_=>⟨od,λz h=>(by cases h)⟩
 |k+1,hk=>by
  obtain⟨h1,h2⟩:=yq hR hv hy k (by omega);have hi:=hy _ (ar (l:=y) (i:=k) (by omega));have hm:R.getD (y.getD k default).toNat default∈R:=ar (by omega);rw[bT (show k<y.length by omega),wA];refine⟨d9 h1 (hR _ hm),λz hz=>?_⟩;rcases(dA h1 (hR _ hm)).1 hz with q|q
  ·exact h2 z q.1
  ·exact hv _ hm z q.1
def Eg(R:List (List Int))(b y:List Int):Int:=if kg R y=[] then(if gM y b=true then 0 else 18) else 18
def jU(H:Hp)(s:AV)(l:List (List Int)):Prop:=s=br l\/Row H 1 s (l.map aD)
theorem jU.src{H H':Hp}{s:AV}{l:List (List Int)}(h:jU H s l)(hs:∀b,bz s=some b->H' b=H b):gI 1 H' s=some (l.length,l.map aD):=by
 rcases h with rfl|h
 ·exact io
 ·have h:=h.same hs;generalize hc:l.map aD=cs at h;have hl:l.length=cs.length:=by rw[<-hc,bo]
  cases h with
  |nil=>rw[hl];rfl
  |box b len cs hb hn=>
   rw[Nat.mul_one] at hn;rw[fE hb (by rw[hn,Nat.mul_one]) (by omega),hl,hn,Nat.mul_one,List.drop_zero,fP (by omega)]
theorem jU.len{H:Hp}{s:AV}{l:List (List Int)}(h:jU H s l):fW s=some l.length:=by
 rcases h with rfl|h
 ·exact zq
 ·generalize hc:l.map aD=cs at h;have hl:l.length=cs.length:=by rw[<-hc,bo]
  cases h with
  |nil=>rw[hl];rfl
  |box b len cs hb hn=>rw[hl,hn,Nat.mul_one];rfl
theorem jU.snap{H:Hp}{s:AV}{l:List (List Int)}(h:jU H s l):Snap H s (br l):=by
 rcases h with rfl|h
 ·exact(kR l).snap
 ·exact kF h
theorem uG{H:Hp}{s:AV}{cs:List AV}(h:Row H 1 s cs)(c:Int):eB [AV.int .i64 0,.esl] [(0,1,.int .i64 c),(1,1,s)]=some [.int .i64 c,s]:=by cases h<;>rfl
theorem sE{l:List (List Int)}:AV.ones (l.map aD)=true:=by
 unfold AV.ones;rw[ey];intro x hx;obtain⟨y,_,rfl⟩:=bE.1 hx;rfl
def Hk(x:AV):Option AV:=match x with|.ptr b n o=>some (.ptr b n o)|.iptr c o=>some (.iptr c o)|.func f c=>some (.func f c)|_=>none
theorem NK:(∀(T:Tm)(H:Hp)(x:Opd),b9 T H (.nilck x)=Hk (ov T x))/\(∀b n o:Nat,Hk (.ptr b n o)=some (.ptr b n o)):=⟨λ_ _ _=>rfl,λ_ _ _=>rfl⟩
section
attribute [local irreducible] aK an bk a5 aR aU aF aV a8 bu Go.Abs.Fn aZ Go.Abs.Pure az aL Yl
theorem Fx(a b:List Int)(ha:a.length<=1000000)(hb:b.length<=1000000):pU 116 [aD a,aD b] (.bool (gM a b)):=by
 refine pO Nk ?_;simp only[Mh,aH];have hs:=wN a b (by omega) (by omega);have hl:=pr _ a b (aP _);unfold gM;generalize bU a b=S at *
 have hq:∀tb tf,bw .quo tb tf (.int .i64 ((a.length:Int)+b.length-S.length)) (.int .i64 2)=some (.int .i64 (((a.length+b.length-S.length)/2:Nat):Int)):=λtb tf=>by
  rw[pC (by omega) (by omega) (by omega)]
  congr 2;omega
 have hr:∀tb tf,bw .rem tb tf (.int .i64 (((a.length+b.length-S.length)/2:Nat):Int)) (.int .i64 2)=some (.int .i64 (((a.length+b.length-S.length)/2%2:Nat):Int)):=λtb tf=>by
  rw[xU (by omega) (by omega)]
  congr 2
 have z:decide ((((a.length+b.length-S.length)/2%2:Nat):Int)=1)=decide ((a.length+b.length-S.length)/2%2=1):=decide_eq_decide.2 (by omega);refine wnY (zI4 @cr @hq @hr @z) ?_;exact .bool _
theorem vI{l:List (List Int)}{k:Nat}(h:k<l.length):eF 1 (br l) (.int .i64 (k:Int))=some (.iptr [aD (l.getD k default)] 0):=by
 rw[oU,if_pos ⟨by omega,by omega⟩,cE]
theorem bQ{l:List (List Int)}:dz (br l)=some (.int .i64 l.length):=rA
theorem Hr{n:Nat}{v:List Int}(h:qI n v=0):∃w:List Nat,v=bl w/\w.Pairwise (· < ·)/\∀j∈w,j<n:=by
 have hall:=ia h;have hk:=λk(hk:k<v.length)=>JL (hall k hk)
 have hm:∀x∈v,0<=x/\x<n:=λx hx=>by
  obtain⟨k,h1,h2⟩:=jO hx;have:=hk k h1;have e:v.getD k default=x:=by simp[List.getD,h1,h2]
  rw[e] at this;exact⟨this.1,this.2.1⟩
 have hasc:bj v:=by
  have hchain:∀j i,i<j->j<v.length->v.getD i default<v.getD j default:=λj=>by
   induction j with
   |zero=>intro i hi;omega
   |succ j ih=>
    intro i hi hj;have q:=(hk (j+1) hj).2.2 (by omega);rw[qJ] at q;rcases(by omega:i<j\/i=j) with h|rfl
    ·have:=ih i h (by omega);omega
    ·exact q
  unfold bj;rw[kX];intro i j hi hj hij;have:=hchain j i hij hj;simpa[List.getD,hi,hj] using this
 refine⟨v.map Int.toNat,?_,?_,λj hj=>?_⟩
 ·unfold bl;rw[List.map_map]
  symm
  refine(pK λx hx=>?_).trans (List.map_id v);have:=(hm x hx).1;show((x.toNat:Nat):Int)=x;omega
 ·rw[List.pairwise_map];exact List.Pairwise.imp_of_mem (λ{x y} hx hy hxy=>by have:=(hm x hx).1;omega) hasc
 ·obtain⟨x,hx,rfl⟩:=bE.1 hj;have:=hm x hx;omega
theorem DA{X:List Spx}{w:List Nat}:cf X (bl w)=w.map λj=>X.getD j default:=by
 unfold cf bl;rw[List.map_map];exact pK λj _=>rfl
theorem vD{c:List Spx}{k:Nat}{v:List Int}(hc:aA c=0)(hc50:c.length<=50)(hk:k<8)(hv:v.length<=400)(h:qI (am c (k+1)).length v=0):
    ∃a b,vn c k v=(a,0)/\dF c a=(v,0)/\gx a=(b,0)/\fL a=0/\ShC a/\ShC b/\pm c k=(((((am c (k+1)).length:Nat):Int),ca (am c (k+1)) (am c k)),0)/\dF c b=(bl (fg (ca (am c (k+1)) (am c k)) v),0)/\b=bI a/\fL b=0/\(∀s∈a,s.length=k+1)/\(∀s∈b,s.length=k)/\(∀s∈b,s∈am c k)/\bl (fg (ca (am c (k+1)) (am c k)) v)=bl (eI (am c k) b):=by
 obtain⟨w,rfl,hw,hb⟩:=Hr h;have hXs:=dG (d:=(k:Int)+1) hc;have hXa:=gG (c:=c) (d:=(k:Int)+1);have hXm:=λs=>ig (c:=c) (d:=(k:Int)+1) (s:=s);have hXf:=λs f=>Bv (c:=c) (d:=(k:Int)) (s:=s) (f:=f);have hYa:=gG (c:=c) (d:=(k:Int));have hYm:=λs=>ig (c:=c) (d:=(k:Int)) (s:=s);have hwl:w.length<=400:=by unfold bl at hv;rwa [bo] at hv
 have e1:vn c k (bl w)=(w.map λj=>(am c (k+1)).getD j default,0):=by
  unfold vn;rw[if_neg (λh=>h hc),if_neg (by omega),if_neg (λq=>q h),DA]
 have e5:pm c k=(((((am c (k+1)).length:Nat):Int),ca (am c (k+1)) (am c k)),0):=by
  unfold pm;rw[if_neg (λh=>h hc),if_neg (by omega)]
 have hvec:∀a:List Spx,fL a=0->(a=[]\/ ∃d:Nat,a9 a=d/\∀s∈a,s∈am c d)->dF c a=(bl (eI (am c (a9 a)) a),0):=λa ha hr=>by
  unfold dF;rw[if_neg (λh=>h hc),if_neg (λh=>h ha)];rcases hr with rfl|⟨d,hd,hr⟩
  ·rw[if_pos rfl];rfl
  ·by_cases h0:a=[]
   ·subst h0;rw[if_pos rfl];rfl
   ·rw[if_neg h0,if_pos (ey.2 λs hs=>aM (by rw[hd];exact hr s hs))]
 have hXe:am c (((k+1:Nat)):Int)=am c ((k:Int)+1):=by rw[show(((k+1:Nat)):Int)=(k:Int)+1 by omega]
 generalize am c ((k:Int)+1)=X at *
 have hsub:∀s∈w.map (λj=>X.getD j default),s∈X:=λs hs=>by
  obtain⟨j,hj,rfl⟩:=bE.1 hs;exact ar (hb j hj)
 have hlen:∀s∈w.map (λj=>X.getD j default),s.length=k+1:=λs hs=>by
  have:=((hXm s).1 (hsub s hs)).2.1;omega
 have hasc:bO bg (w.map λj=>X.getD j default):=by
  unfold bO;rw[List.pairwise_map];exact List.Pairwise.imp_of_mem (λ{i j} hi hj hij=>dY hXa hij (hb j hj)) hw
 have hsim:∀s∈w.map (λj=>X.getD j default),bW s=0:=λs hs=>hXs s (hsub s hs)
 have hpos:eI X (w.map λj=>X.getD j default)=w:=by
  unfold eI;rw[List.map_map];refine(pK λj hj=>?_).trans (List.map_id w);exact wZ (hXa.nodup iC) (hb j hj)
 have hap:=BG (X:=X) (Y:=am c k) (fw hXs) hYa hw hb (fun s hs=>by
  obtain⟨t,t1,t2⟩:=jW (λs hs=>fw hXs s (hsub s hs)) hs;exact hXf t s (hsub t t1) t2)
 have hin:∀s∈bI (w.map λj=>X.getD j default),s∈am c k:=λs hs=>by
  obtain⟨t,t1,t2⟩:=jW (λs hs=>fw hXs s (hsub s hs)) hs;exact hXf t s (hsub t t1) t2
 have hwl2:(w.map λj=>X.getD j default).length<=400:=by rw[bo];exact hwl
 have hl0:0<w.length->a9 (w.map λj=>X.getD j default)=k+1:=λh0=>hlen _ (ar (by rw[bo];exact h0));have hw0:w.length=0->(w.map λj=>X.getD j default)=[]:=λh0=>by rw[fo.1 h0];rfl
 have hpos2:w.length=0->w=[]:=λh0=>fo.1 h0;generalize (w.map λj=>X.getD j default)=a at *;have hca:fL a=0:=Cc (n:=k+1) (by omega) hsim hasc hlen;have hcb:=Ew hca (by omega);have hsame:=w5 (fw hsim) hlen;refine⟨a,bI a,e1,?_,EJ hca (by omega),hca,wh (by omega) hsim,wh (by have:=(dP hcb).1;omega) (nH hsim),e5,?_,rfl,hcb,hlen,λs hs=>by have:=hsame s hs;omega,hin,hap⟩
 ·by_cases h0:w.length=0
  ·rw[hvec a hca (.inl (hw0 h0)),hw0 h0,hpos2 h0];rfl
  ·have h1:a9 a=k+1:=hl0 (by omega);rw[hvec a hca (.inr ⟨k+1,h1,λs hs=>by rw[hXe];exact hsub s hs⟩),h1,hXe,hpos]
 ·by_cases h0:bI a=[]
  ·rw[hvec _ hcb (.inl h0),hap,h0];rfl
  ·have h1:a9 (bI a)=k:=by
     have:=hsame _ (ar (f8.2 h0));unfold a9;omega
   rw[hvec _ hcb (.inr ⟨k,h1,hin⟩),hap,h1];rfl
theorem zP(c:Nat)(R:List (List Int))(hm:fZ c R):pU 133 [dh c R] (.tup [dh R.length (trL c R),.int .i64 0]):=by
 refine pO MI ?_;simp only[Nw,aH];have h1:=l8 c R hm;have z0:decide ((0:Int)≠0)=false:=rfl;have dm:Dat (.agg [.int .i64 c,br R]):=cV c R;obtain⟨m1,m2,m3,m4⟩:=hm;have hzc:bD (AV.agg [AV.esl]) c=List.replicate c .esl:=by simp[bD,AV.cells]
 unfold dh;refine wnY (aI @z0 @bQ) ?_;refine yQ (k1:=.i64) (k2:=.i64) (n:=c) (m:=c) rfl ev0 ev0 (by omega) (Int.le_refl _) (by omega) (by omega) ?_;rw[cE,hzc,Nat.mul_one];refine wnY @bQ ?_;refine lpI (X:=Nat×List AV) (λx=>[(2,.ptr 1 2 0),(5,.ptr 3 2 0),(24,br R),(25,.int .i64 R.length),(26,.int .i64 x.1)]) (λx H' nx'=>x.1<=R.length/\4<=nx'/\H' 1=some [.int .i64 0,.esl]/\H' 3=some [.int .i64 R.length,.msl 2 c 1 0 c]/\MatOk H' 2 4 nx' c (trF R x.1) x.2) (λx=>R.length-x.1) (0,List.replicate c .esl) ⟨bC _,aP _,by(repeat rw[ac (by omega)]);rw[ah],by rw[ah];rfl,MatOk.new (by(repeat rw[ac (by omega)]);rw[ah]) (λj _=>rfl)⟩ ?_;rintro⟨i,vs⟩ H nx ⟨i1,i2,g1,g3,hmat⟩;dsimp only at i1 i2 g1 g3 hmat |-;by_cases hi:i<R.length
 rotate_left
 ·obtain rfl:i=R.length:=by omega
  have hst:Snap (ay H 1 [.int .i64 R.length,.msl 2 c 1 0 c]) (.msl 2 c 1 0 c) (br (trL c R)):=(hmat.same (hi':=nx) (G:=trF R R.length) (ac (by omega)) (λx x1 x2 x3=>ac (by omega)) (aP _) (λj _=>rfl)).snap;refine wnY (aI @g1 @g3) ?_;exact kG hst rfl
 have ix:=vI hi;have hrow:=m4 _ (bc hi);have hF:∀q,trF R (i+1) q=trF R i q++if (q:Int)∈R.getD i default then [i] else []:=λq=>FA
 generalize R.getD i default=r at *
 have hrasc:∀j,j<r.length->r.getD j default∉r.take j:=λj hj hm=>by
  have hchain:∀b a,a<b->b<r.length->r.getD a default<r.getD b default:=λb=>by
   induction b with
   |zero=>intro a ha;omega
   |succ b ih=>
    intro a ha hb;have q:=hrow.2.2 b hb;rcases(by omega:a<b\/a=b) with h|rfl
    ·have:=ih a h (by omega);omega
    ·exact q
  obtain⟨a,ha,e⟩:=jO hm;rw[fy] at ha;have h5:=hchain j a (by omega) hj;have e2:r.getD a default=r.getD j default:=by rw[<-e];simp[List.getD,show a<r.length by omega]
  omega
 refine wnY @ix ?_;refine lpI (X:=Nat×List AV) (λx=>[(2,.ptr 1 2 0),(5,.ptr 3 2 0),(6,.int .i64 i),(24,br R),(25,.int .i64 R.length),(26,.int .i64 i),(31,aD r),(32,.int .i64 r.length),(33,.int .i64 x.1)]) (λx H' nx'=>x.1<=r.length/\nx<=nx'/\H' 1=some [.int .i64 0,.esl]/\H' 3=some [.int .i64 R.length,.msl 2 c 1 0 c]/\MatOk H' 2 4 nx' c (λq=>trF R i q++if (q:Int)∈r.take x.1 then [i] else []) x.2) (λx=>r.length-x.1) (0,vs) ⟨bC _,aP _,g1,g3,hmat.same rfl (λ_ _ _ _=>rfl) (aP _) (λj _=>by simp)⟩ ?_;clear hmat g1 g3;rintro⟨j,vs⟩ H' nx' ⟨j1,j2,g1,g3,hmat⟩;dsimp only at j1 g1 g3 hmat |-;by_cases hj:j<r.length
 rotate_left
 ·rw[fP (by omega)] at hmat;refine wnY and_self ?_;exact⟨(i+1,vs),by dsimp only;omega,⟨by dsimp only;omega,by omega,g1,g3,hmat.same rfl (λ_ _ _ _=>rfl) (aP _) (λq _=>hF q)⟩,ag0⟩
 have iy:=ixV hj;have hjr:=hrow.1 _ (bc hj);have htk:=bT hj;have hnm:=hrasc j hj;generalize r.getD j default=v at *;obtain⟨p,rfl⟩:∃p:Nat,v=p:=⟨v.toNat,by omega⟩
 have p1:p<c:=by omega
 refine wnY @iy ?_;refine qr 3 2 g3 hmat.box (by omega) λS0 hS1 hS2 hsub=>?_;have hFp:trF R i p++(if (p:Int)∈r.take j then [i] else [])=trF R i p:=by rw[if_neg hnm,fR]
 have hrow2:=hmat.row p p1;rw[hFp] at hrow2
 have hvs:vs[p]?=some (vs.getD p .undef):=by
  have:=hmat.len;simp[List.getD,show p<vs.length by omega]
 have hlen:=hmat.len;have hb3:∀b,bz (vs.getD p .undef)=some b->4<=b/\b<nx'/\b≠2:=λb hb=>hmat.bnd p b p1 hb;have hFl:=CR (R:=R) (n:=i) (q:=p);generalize hrv:vs.getD p .undef=rv at *;refine wnY (zI4 @hS1 @hS2 @hvs @hlen) ?_;refine d7 ?_;refine wnY and_self ?_;refine⟨hsub _ (by rw[ac (by omega)];exact g3) (by rw[ac (by omega)];exact hmat.box),?_⟩;refine d7 ?_;refine eR (hrow2.same λb hb=>?_) ?_
 ·have:=hb3 b hb;rw[ac (by omega)]
 rintro s2 H4 nx4 hr2 k1 k2 k3 k4;have lo:∀x,x<nx'->bz rv≠some x->H4 x=H' x:=λx x1 x2=>(k3 x (by omega) x2).trans (ac (by omega));have l5:∀x,x<4->H4 x=H' x:=λx hx=>lo x (by omega) (λh=>by have:=hb3 _ h;omega);have q2:=(l5 2 (by omega)).trans hmat.box;have q3:=(l5 3 (by omega)).trans g3;obtain⟨o1,o2⟩:=hr2.one;refine kB ⟨hsub _ q3 q2,?_⟩
 have hlp:bJ vs p [s2]=vs.set p s2:=by
  simp only[bJ,bS,fJ,cq];rw[IY,if_pos (by omega)];simp
 have zz:=aI @q2 (aI @o1 (aI @o2 (aI @hlen @hlp)));repeat' (first|apply a_n|refine zO ?_|refine vY ?_|refine nvY ?_|apply jH|refine stY ?_|fail)
 refine⟨(j+1,vs.set p s2),by dsimp only;omega,⟨by dsimp only;omega,by omega,?_,?_,?_⟩,ag0⟩
 ·rw[ac (by omega),l5 _ (by omega)];exact g1
 ·rw[ac (by omega)];exact q3
 ·dsimp only;refine hmat.put (sv:=s2) (x:=i) p1 (λq hq=>?_) ?_ (λb hb=>?_) (by rw[ah,hlp]) (λx x1 x2 x3 x4=>?_) (by omega) (by omega)
  ·rw[htk];by_cases e:q=p
   ·subst e;rw[if_pos rfl,if_neg hnm,if_pos (nX _ (dg.2 rfl)),fR]
   ·rw[if_neg e]
    congr 1
    refine yy ?_;rw[eM,dg];exact⟨λh=>h.resolve_right (by omega),.inl⟩
  ·rw[hFp,cA]
   exact hr2.same fun b hb=>ac (by
    rcases k4 b hb with h|h
    ·have:=hb3 b h;omega
    ·omega)
  ·rw[hrv];rcases k4 b hb with h|h
   ·exact .inl h
   ·exact .inr ⟨by omega,by omega,by omega⟩
  ·rw[ac x3,lo x x2 (by rw[hrv] at x4;exact x4)]
theorem HG(x y:Int):pU 187 [.int .i64 x,.int .i64 y] (.bool (decide (x<y))):=by
 have h1:=jM x;have h2:=jM y;refine pO Je ?_;simp only[Ku,aH];refine wnZ and_self ?_;exact .bool _
theorem BA(l:List Int)(v:Int)(hl:l.length<=1000000000)(ha:bj l):∃b:Nat,pU 163 [aD l,.int .i64 v] (.tup [.int .i64 b,.bool (decide (v∈l))]):=by
 obtain⟨b,hb,h1,h2⟩:=Oc v ha;refine⟨b,?_⟩;rw[<-JS h1 h2 ha];refine pO L3 ?_;simp only[MM,aH];refine wnZ @cr ?_;refine kE (X:=Nat×Nat) (λx=>[(0,aD l),(1,.int .i64 v),(6,.int .i64 l.length),(7,.int .i64 x.1),(8,.int .i64 x.2)]) (λx=>x.1<=b/\b<=x.2/\x.2<=l.length) (λx=>x.2-x.1) (0,l.length) ⟨bC _,hb,aP _⟩ ag0 ?_;rintro⟨i,j⟩ ⟨g1,g2,g3⟩;dsimp only at g1 g2 g3 |-;by_cases hij:i<j
 ·have hh:(i+j)/2<l.length:=by omega
  have hc:=HG (l.getD ((i+j)/2) default) v;have ix:=ixV hh;by_cases hn:l.getD ((i+j)/2) default<v
  ·rw[aM hn] at hc;have hbb:(i+j)/2<b:=Nat.lt_of_not_le λh=>by have:=h2 _ h hh;omega
   refine wnZ (zI4 @cr @gN @CI @ix) ?_;exact⟨((i+j)/2+1,j),⟨by omega,by omega,by omega⟩,by dsimp only;omega,ag0,rfl,rfl⟩
  ·rw[aQ hn] at hc;have hbb:b<=(i+j)/2:=Nat.le_of_not_lt λh=>hn (h1 _ h);refine wnZ (zI4 @cr @gN @CI @ix) ?_;exact⟨(i,(i+j)/2),⟨by omega,by omega,by omega⟩,by dsimp only;omega,ag0,rfl,rfl⟩
 ·have ei:i=b:=by omega
  have ej:j=b:=by omega
  clear hij g1 g2 g3;subst ei;have dij:decide ((i:Int)<(j:Int))=false:=aQ (by omega);by_cases hlt:i<l.length
  ·have hc:=jM (l.getD i default);have ix:=ixV hlt;have hna:=jM v
   have hn2:∀n:Int,pU 188 [.int .i64 n] (.bool false):=λn=>by
    refine pO LD ?_;simp only[ME,aH];refine wnZ and_self ?_;exact cC (by simp)
   have dlt:decide ((i:Int)<(l.length:Int))=true:=aM (by omega);by_cases hv:l.getD i default=v
   ·have dv:decide (l.getD i default=v)=true:=aM hv;rw[dv,aM hlt,Bool.true_and];refine wnZ (zI5 @cr @ix @dlt @dij @dv) ?_;exact bt (ag (.int _ _) (ag (.bool _) ak))
   ·have dv:decide (l.getD i default=v)=false:=aQ hv;rw[dv,Bool.and_false];have zz:=aI @cr (aI @ix (aI @dlt (aI @dij @dv)));repeat' (first|refine zW ?_|apply a_n|apply a_x|refine zO ?_|refine vZ ?_|refine cZ ?_ (hp:=by exact hn2 _)|refine gTZ ?_|refine gFZ ?_|refine cFZ ?_|refine b6 rfl ?_|refine r2Z ?_|fail)
    exact bt (ag (.int _ _) (ag (.bool _) ak))
  ·have dlt:decide ((i:Int)<(l.length:Int))=false:=aQ (by omega);rw[aQ hlt,Bool.false_and];refine wnZ (zI3 @cr @dlt @dij) ?_;exact bt (ag (.int _ _) (ag (.bool _) ak))
theorem Hh(l:List Int)(v:Int)(hl:l.length<=1000000000)(ha:bj l):pU 146 [aD l,.int .i64 v] (.bool (decide (v∈l))):=by
 obtain⟨b,hb⟩:=BA l v hl ha;refine pO NT ?_;simp only[NA,aH];refine wnZ and_self ?_;exact .bool _
theorem GG(M:List Ln)(c n:Nat)(hc:c<=4096)(hn:n<=4096)(hM:RedU M)(hMb:∀l∈M,BL c n l)(x:Ln)(hx:cI x)(hxb:BL c n x){a:AV}{Hf HA H:Hp}(hfz:Fz Hf HA H)(hs:Snap Hf a (eT x)){nx m lb:Nat}(hlb:lb<nx)(hm:m<nx)(hne:m≠lb)(h1:H lb=some [.mp m])(h2:LM H m M):
    Abs.Fn Tryz.prog 149 [a,.ptr lb 1 0] HA nx λr H' nx'=>r=eT (fp M x)/\(∀b,b<nx->H' b=H b)/\nx<=nx':=by
 refine fO Ll ?_;simp only[Md,aH];have hx0:eT x=.agg [aD x.1,aD x.2]:=rfl;refine dQ ?_;refine qh Hf H [(0,eT x),(1,.ptr lb 1 0)] hfz ⟨.inr hs,.inl rfl,trivial⟩ ?_;rw[hx0];clear hs hfz;refine wnY @h1 ?_;refine lpI (X:=Ln×Nat) (λy=>[(1,.ptr lb 1 0),(2,.ptr nx 2 0),(3,.ptr (nx+1) 2 0),(4,.int .i64 y.2)]) (λy H' nx'=>y.2<=y.1.1.length/\nx+2<=nx'/\cI y.1/\BL c n y.1/\fp M y.1=fp M x/\(∀j,j<y.2->∀l∈M,ld l.1≠y.1.1.getD j default)/\H' nx=some [aD y.1.1,aD y.1.2]/\H' (nx+1)=some [.esl,.esl]/\∀b,b<nx->H' b=H b) (λy=>nL M y.1*10000+(y.1.1.length-y.2)) (x,0) ⟨bC _,aP _,hx,hxb,rfl,λj h=>absurd h (by omega),by rw[ac (by omega),ah],by rw[ah],λb hb=>by rw[ac (by omega),ac (by omega)]⟩ ?_;clear hx hxb hx0;rintro⟨y,i⟩ H' nx' ⟨g1,g2,g3,g4,g5,g6,g7,g8,g9⟩;dsimp only at g1 g2 g3 g4 g5 g6 g7 g8 g9 |-;obtain⟨l1,l2⟩:=g4.len g3;have k1:H' lb=some [.mp m]:=(g9 lb hlb).trans h1;have k2:LM H' m M:=(g9 m hm).trans h2;by_cases hi:i<y.1.length
 rotate_left
 ·have hr:fp M y=y:=Eb hM g3 λl hl hz=>by
    obtain⟨j,hj,e⟩:=jO hz;refine g6 j (by omega) l hl ?_;rw[<-e];simp[List.getD,hj]
  have z:decide ((i:Int)<y.1.length)=false:=aQ (by omega);rw[<-g5,hr];refine wnY (zI4 @cr @z @g7 @g8) ?_;exact⟨rfl,λb hb=>by rw[ac (by omega)];exact g9 b hb,by omega⟩
 have z:decide ((i:Int)<y.1.length)=true:=aM (by omega);have ix:=ixV hi;have hvm:=ar hi;generalize hv:y.1.getD i default=v at *;refine wnY (zI4 @cr @z @ix @g7) ?_;refine B2 lb m nx k1 k2 g7 (by omega) (by omega) (by omega) λS hS1 hS2 hS3 hsub=>?_;refine wnY (zI4 @hS1 @hS2 @hS3 @ix) ?_;simp only[fF,List.map_nil,List.getD_cons_succ,List.getD_cons_zero];by_cases hk:v∈b8 M
 rotate_left
 ·have hmg:Go.Abs.mget (.agg [.esl,.esl]) true (if v∈b8 M then some ((b8 M).idxOf v) else none) (M.map eT)=.tup [.agg [.esl,.esl],.bool false]:=by rw[if_neg hk];rfl
  refine K1 (K5 ev0 hS2 ev0) ?_;rw[hmg];refine wnY and_self ?_;refine d7 ?_;refine wnY and_self ?_;refine⟨hsub _ (by rw[ac (by omega)];exact k1) (by rw[ac (by omega)];exact k2) (by rw[ac (by omega)];exact g7),?_⟩;refine wnY and_self ?_;refine⟨(y,i+1),by dsimp only;omega,⟨by dsimp only;omega,by omega,g3,g4,g5,λj hj l hl=>?_,by rw[ac (by omega),ac (by omega)];exact g7,by rw[ac (by omega),ac (by omega)];exact g8,λb hb=>by rw[ac (by omega),ac (by omega)];exact g9 b hb⟩,ag0⟩;dsimp only;rcases(by omega:j<i\/j=i) with q|rfl
  ·exact g6 j q l hl
  ·rw[hv];exact λe=>hk (nJ.2 ⟨l,hl,e⟩)
 obtain⟨l,hl,hld,hgd⟩:=wz hk
 have hmg:Go.Abs.mget (.agg [.esl,.esl]) true (if v∈b8 M then some ((b8 M).idxOf v) else none) (M.map eT)=.tup [.agg [aD l.1,aD l.2],.bool true]:=by
  rw[if_pos hk];show AV.tup [(M.map eT).getD ((b8 M).idxOf v) .undef,.bool true]=_;rw[hgd];rfl
 refine K1 (K5 ev0 hS2 ev0) ?_;rw[hmg];refine wnY and_self ?_;refine d7 ?_;refine wnY and_self ?_;refine⟨hsub _ (by rw[ac (by omega)];exact k1) (by rw[ac (by omega)];exact k2) (by rw[ac (by omega)];exact g7),?_⟩;refine wnY and_self ?_;have hla:=hM.asc l hl;have hlb':=hMb l hl;obtain⟨l3,l4⟩:=hlb'.len hla;have hs1:=wN y.1 l.1 (by omega) (by omega);have hs2:=wN y.2 l.2 (by omega) (by omega)
 have hlt:∀j,j<i->∀w∈l.1,y.1.getD j default<w:=λj hj w hw=>by
  have h5:=oB hla.1 hw;have h6:=kX.1 g3.1 j i (by omega) hi hj;have e1:y.1.getD j default=y.1[j]:=by simp[List.getD,show j<y.1.length by omega]
  have e2:y.1.getD i default=y.1[i]:=by simp[List.getD,hi]
  omega
 have hp1:=z8 (i:=i) (a:=y.1) (b:=l.1) (by omega) hlt;have hp2:=xq (i:=i) (a:=y.1) (b:=l.1) (by omega) hlt;have hnl:=KX hM g3 hl (by rw[hld];exact hvm);have ha':=eX g3 hla;have hb':=g4.add hlb' g3 hla;obtain⟨l5,_⟩:=hb'.len ha';have hrx:=D1 hM g3 hl;have e7:ay (ay H' nx' [AV.esl,AV.esl]) nx' (bJ [AV.esl,AV.esl] 0 [aD l.1,aD l.2]) nx'=some [aD l.1,aD l.2]:=by rw[ah];rfl
 have e8:ay (ay H' nx' [AV.esl,AV.esl]) nx' (bJ [AV.esl,AV.esl] 0 [aD l.1,aD l.2]) nx=some [aD y.1,aD y.2]:=by rw[ac (by omega),ac (by omega)];exact g7
 have e9:∀b,b≠nx->b<nx'->ay (ay H' nx' [AV.esl,AV.esl]) nx' (bJ [AV.esl,AV.esl] 0 [aD l.1,aD l.2]) b=H' b:=λb h1 h2=>by rw[ac (by omega),ac (by omega)]
 generalize ay (ay H' nx' [AV.esl,AV.esl]) nx' (bJ [AV.esl,AV.esl] 0 [aD l.1,aD l.2])=H2 at *;have hadd:ef y l=(bU y.1 l.1,bU y.2 l.2):=rfl;generalize bU y.1 l.1=s1 at *;generalize bU y.2 l.2=s2 at *;refine wkY (aI @e7 @e8) ?_;refine⟨((s1,s2),i),?_,⟨hp2,by omega,by rw[<-hadd];exact ha',by rw[<-hadd];exact hb',by rw[<-hadd,hrx];exact g5,λj hj l' hl'=>by dsimp only;rw[hp1 j hj];exact g6 j hj l' hl',by rw[ah];rfl,by rw[ac (by omega),e9 _ (by omega) (by omega)];exact g8,λb hb=>by rw[ac (by omega),e9 _ (by omega) (by omega)];exact g9 b hb⟩,ag0⟩;rw[hadd] at hnl l5;dsimp only at hnl l5 |-;omega
theorem FI(l:List Int)(hl:l.length<=1000000000):PureF Tryz.prog 150 [aD l] (aD l):=by
 refine qO MX ?_;simp only[Nl,aH];refine wnZ and_self ?_;refine xD (k:=l.length) (by((try simp only[ce,ZA,reduceEqDiff,↓reduceIte,reduceAdd,reduceLeDiff]);(try with_reducible rfl));exact Bz) (λh=>?_) (λh=>?_) (λh=>?_)
 ((all_goals (try have zz:=and_self));(repeat' (first|refine zW ?_|apply a_n|apply a_r|refine zO ?_|refine vZ ?_|refine b0Z ?_|refine a0Z ?_|refine cTZ ?_|refine cFZ ?_|refine b6 rfl ?_|refine r1Z ?_|fail));(all_goals (try clear zz)))
 ·exact w6 ah (by omega) rfl
 ·exact DD h
 ·exact w6 ah (by omega) rfl
theorem wK(c:Nat)(R:List (List Int))(hc:c<=4096)(hl:R.length<=4096)(hR:∀r∈R,bj r)(hv:∀r∈R,∀z∈r,0<=z/\z<(c:Int)):pU 115 [dh c R] (.tup [mJ (ll R c),br (stE R R.length).2]):=by
 refine pO Mw ?_;simp only[MS,aH];rw[cu];refine dQ ?_
 repeat' (first|apply a_n|refine zO ?_|refine vY ?_|refine bxY ?_|fail)
 refine dQ ?_;refine wnY and_self ?_;refine v5 ?_;refine su (cs:=[.nilm]) rfl rfl rfl ?_
 repeat' (first|apply a_n|refine zO ?_|refine stY ?_|fail)
 refine dQ ?_
 repeat' (first|apply a_n|refine zO ?_|refine vY ?_|fail)
 refine dQ ?_
 repeat' (first|apply a_n|refine zO ?_|refine vY ?_|fail)
 refine cH (λT H nx=>T 1=.ptr 0 2 0/\T 4=.ptr 2 1 0/\3<=nx/\H 0=some [.int .i64 c,br R]/\H 2=some [.mp 1]/\LM H 1 (stE R R.length).1/\∃dv,T 6=dv/\Row H 1 dv ((stE R R.length).2.map aD)/\∀b,bz dv=some b->2<b/\b<nx) ?_ ?_
 ·refine wnY @bQ ?_;refine lpI (X:=AV×Nat) (λx=>[(1,.ptr 0 2 0),(4,.ptr 2 1 0),(5,.func 149 [.ptr 2 1 0]),(6,x.1),(19,br R),(20,.int .i64 R.length),(21,.int .i64 x.2)]) (λx H nx=>x.2<=R.length/\3<=nx/\H 0=some [.int .i64 c,br R]/\H 2=some [.mp 1]/\LM H 1 (stE R x.2).1/\Row H 1 x.1 ((stE R x.2).2.map aD)/\∀b,bz x.1=some b->2<b/\b<nx) (λx=>R.length-x.2) (.esl,0) ⟨bC _,aP _,rfl,rfl,rfl,Row.nil,λb h=>(by cases h)⟩ ?_;rintro⟨dv,k⟩ H nx ⟨h1,h2,h3,h4,h5,h6,h7⟩;dsimp only at h1 h2 h3 h4 h5 h6 h7 |-;by_cases hk:k<R.length
  rotate_left
  ·obtain rfl:k=R.length:=by omega
   refine wnY and_self ?_;exact⟨rfl,rfl,h2,h3,h4,h5,dv,rfl,h6,h7⟩
  have ix:=vI hk;have hrow:=hR _ (ar hk);have hrv:=hv _ (ar hk);have hst:=fY hR (i:=k) (by omega);have hbl:=Bx hR hv (k:=k) (by omega);have hsl:=yC hR (k:=k) (by omega);have hss:stE R (k+1)=if (fp (stE R k).1 (R.getD k default,[(k:Int)])).1=[] then((stE R k).1,(stE R k).2++[(fp (stE R k).1 (R.getD k default,[(k:Int)])).2]) else(me (stE R k).1 (fp (stE R k).1 (R.getD k default,[(k:Int)])),(stE R k).2):=rfl
  generalize R.getD k default=r at *;generalize stE R k=MD at *;obtain⟨M,D⟩:=MD;dsimp only at *;have hrl:=d5 hrow hrv;have hcl:=FI r (by omega);refine wnY @ix ?_;refine gg ev0 ev0 hcl (ag (cJ _ _) ak) ?_;refine wnY @ix ?_;have hM:=hst.red;have hax:cI (r,[(k:Int)]):=⟨hrow,List.pairwise_singleton _ _⟩
  have hbx:BL c R.length (r,[(k:Int)]):=⟨hrv,λj hj=>by rw[dg.1 hj];omega⟩
  refine bh ev0 ev0 (GG M c R.length hc hl hM hbl (r,[(k:Int)]) hax hbx (Fz.one ah) (ja (ag (cJ _ _) (ag (ew (n:=1) (len:=1) (l:=[(k:Int)]) gX rfl rfl) ak))) (m:=1) (lb:=2) (by omega) (by omega) (by omega) (by rw[cw (by omega),ac (by omega)];exact h4) (by unfold LM;rw[cw (by omega),ac (by omega)];exact h5)) ?_;rintro _ H1 nx1 ⟨rfl,g1,g2⟩;have hay:cI (fp M (r,[(k:Int)])):=jr (λl hl=>hM.asc l hl) hax;have hby:BL c R.length (fp M (r,[(k:Int)])):=BN (λl hl=>⟨hM.asc l hl,hbl l hl⟩) hax hbx;have hno:∀l∈M,ld l.1∉(fp M (r,[(k:Int)])).1:=λl hl=>nM hM hax hl;generalize fp M (r,[(k:Int)])=y at *;have lo:∀b,b<nx->H1 b=H b:=λb hb=>(g1 b (by omega)).trans (by rw[cw (by omega),ac (by omega)]);have e1:eT y=.agg [aD y.1,aD y.2]:=rfl;rw[e1];by_cases h0:y.1=[]
  ·rw[if_pos h0] at hss;have z:decide ((y.1.length:Int)=0)=true:=by rw[h0];rfl
   refine wnY (aI @cr @z) ?_;refine eR (h6.same λb hb=>?_) ?_
   ·have:=h7 b hb;rw[ac (by omega),ac (by omega),ac (by omega)];exact lo b (by omega)
   rintro s2 H2 nx2 hr2 i1 i2 i3 i4;have lo2:∀b,b<nx->bz dv≠some b->H2 b=H b:=λb hb hn=>(i3 b (by omega) hn).trans (by rw[ac (by omega),ac (by omega),ac (by omega)];exact lo b hb);have hd:∀b,b<=2->bz dv≠some b:=λb hb e=>by have:=h7 b e;omega
   refine wnY and_self ?_;refine⟨(s2,k+1),by dsimp only;omega,⟨by dsimp only;omega,by omega,(lo2 0 (by omega) (hd 0 (by omega))).trans h3,(lo2 2 (by omega) (hd 2 (by omega))).trans h4,?_,?_,λb hb=>?_⟩,ag0⟩
   ·dsimp only;rw[hss];exact(lo2 1 (by omega) (hd 1 (by omega))).trans h5
   ·dsimp only;rw[hss,cA];exact hr2
   ·rcases i4 b hb with h|h
    ·have:=h7 b h;omega
    ·omega
  rw[if_neg h0] at hss;have z:decide ((y.1.length:Int)=0)=false:=aQ (by have:=f8.2 h0;omega);refine wnY (aI @cr @z) ?_;have hd:∀b,b<=2->bz dv≠some b:=λb hb e=>by have:=h7 b e;omega
  have q0:ay (ay H1 nx1 [AV.esl,AV.esl]) nx1 (bJ [AV.esl,AV.esl] 0 [aD y.1,aD y.2]) 0=some [.int .i64 c,br R]:=by rw[ac (by omega),ac (by omega)];exact(lo 0 (by omega)).trans h3
  have q2:ay (ay H1 nx1 [AV.esl,AV.esl]) nx1 (bJ [AV.esl,AV.esl] 0 [aD y.1,aD y.2]) 2=some [.mp 1]:=by rw[ac (by omega),ac (by omega)];exact(lo 2 (by omega)).trans h4
  have q1:LM (ay (ay H1 nx1 [AV.esl,AV.esl]) nx1 (bJ [AV.esl,AV.esl] 0 [aD y.1,aD y.2])) 1 M:=by unfold LM;rw[ac (by omega),ac (by omega)];exact(lo 1 (by omega)).trans h5
  have qy:ay (ay H1 nx1 [AV.esl,AV.esl]) nx1 (bJ [AV.esl,AV.esl] 0 [aD y.1,aD y.2]) nx1=some [aD y.1,aD y.2]:=by rw[ah];rfl
  have qd:Row (ay (ay H1 nx1 [AV.esl,AV.esl]) nx1 (bJ [AV.esl,AV.esl] 0 [aD y.1,aD y.2])) 1 dv (D.map aD):=h6.same λb hb=>by
   have:=h7 b hb;rw[ac (by omega),ac (by omega)];exact lo b (by omega)
  generalize ay (ay H1 nx1 [AV.esl,AV.esl]) nx1 (bJ [AV.esl,AV.esl] 0 [aD y.1,aD y.2])=H2 at *;clear lo g1;refine wnY @q2 ?_;refine Ka ev0 q1 ?_;refine wnY and_self ?_;have hkl:(b8 M).length=M.length:=by unfold b8;rw[bo]
  have hkn:=zJ hM;have ix0:=Ea h0;obtain⟨yl1,yl2⟩:=hby.len hay;refine lpI (X:=List Nat) (λx=>[(1,.ptr 0 2 0),(4,.ptr 2 1 0),(5,.func 149 [.ptr 2 1 0]),(6,dv),(9,.ptr nx1 2 0),(19,br R),(20,.int .i64 R.length),(21,.int .i64 k),(43,.itr (nx1+1))]) (λseen H nx'=>H (nx1+1)=some [.oiter 1 ((b8 M).map (AV.int .i64)).length seen]/\nx1+2<=nx'/\seen.Nodup/\(∀i∈seen,i<M.length)/\H 0=some [.int .i64 c,br R]/\H 2=some [.mp 1]/\H nx1=some [aD y.1,aD y.2]/\H 1=some [.omap ((b8 M).map (AV.int .i64)) (vsS M y seen)]/\Row H 1 dv (D.map aD)) (λseen=>M.length-seen.length) [] ⟨ah,aP _,List.nodup_nil,λi h=>(by cases h),(ac (by omega)).trans q0,(ac (by omega)).trans q2,(ac (by omega)).trans qy,by rw[HB];exact(ac (by omega)).trans q1,qd.same λb hb=>by have:=h7 b hb;rw[ac (by omega)]⟩ ?_;clear q0 q2 q1 qy qd;rintro seen H3 nx3 ⟨r1,r2,r3,r4,q0,q2,qy,q1,qd⟩
  have hsl:seen.length<=M.length:=by
   have:=Aa r3 (l₂:=List.range M.length) λi hi=>dZ.2 (r4 i hi);simpa using this
  refine wnY and_self ?_;refine KI ev0 r1 q1 rfl (λi hi hns=>?_) (λhall=>?_)
  ·have hi:i<M.length:=by rw[bo,hkl] at hi;exact hi
   have ek:((b8 M).map (AV.int .i64)).getD i .undef=.int .i64 (ld (M.getD i default).1):=by
    unfold b8;simp[List.getD,hi]
   have evv:(vsS M y seen).getD i .undef=.agg [aD (M.getD i default).1,aD (M.getD i default).2]:=Ce hi hns
   have hidx:(b8 M).idxOf (ld (M.getD i default).1)=i:=by
    have h5:i<(b8 M).length:=by rw[hkl];exact hi
    have h6:(b8 M)[i]=ld (M.getD i default).1:=by
     have:(b8 M)[i]=ld M[i].1:=List.getElem_map ..;rw[this];simp[List.getD,hi]
    have h7:=nY.2 (show ld (M.getD i default).1∈b8 M by rw[<-h6];exact n7 h5);have h8:(b8 M)[(b8 M).idxOf (ld (M.getD i default).1)]=(b8 M)[i]:=by rw[List.getElem_idxOf h7,h6]
    exact(List.getElem_inj hkn).1 h8
   have hkm:ld (M.getD i default).1∈b8 M:=nJ.2 ⟨_,ar hi,rfl⟩;have hla:=hM.asc _ (ar hi);have hlb:=hbl _ (ar hi);obtain⟨ll1,ll2⟩:=hlb.len hla;have hset:=C9 (M:=M) (y:=y) (seen:=seen) (i:=i);have hsame:=FT (M:=M) (y:=y) (seen:=seen) (i:=i) hi hns;have r3':(seen++[i]).Nodup:=zH.2 ⟨r3,by simp,λx hx z hz e=>by rw[e,dg.1 hz] at hx;exact hns hx⟩
   have r4':∀x∈seen++[i],x<M.length:=λx hx=>by
    rcases eM.1 hx with q|q
    ·exact r4 x q
    ·rw[dg.1 q];exact hi
   have hsl2:(seen++[i]).length<=M.length:=by
    have:=Aa r3' (l₂:=List.range M.length) λi hi=>dZ.2 (r4' i hi);simpa using this
   rw[da,List.length_singleton] at hsl2;generalize M.getD i default=l at *;have hhas:=Hh l.1 (ld y.1) (by omega) hla.1;refine wnY (aI @ek @evv) ?_;refine J9 (i:=i) ev0 ah (by rw[ac (by omega)];exact q1) rfl (by simp) (by rw[bo,hkl];exact hi) ?_;refine wnY (aI @ek @evv) ?_;have w0:ay (ay (ay H3 (nx1+1) [AV.oiter 1 ((b8 M).map (AV.int .i64)).length (seen++[i])]) nx3 [AV.esl,AV.esl]) nx3 (bJ [AV.esl,AV.esl] 0 [aD l.1,aD l.2]) 0=some [.int .i64 c,br R]:=by rw[ac (by omega),ac (by omega),ac (by omega)];exact q0
   have w2:ay (ay (ay H3 (nx1+1) [AV.oiter 1 ((b8 M).map (AV.int .i64)).length (seen++[i])]) nx3 [AV.esl,AV.esl]) nx3 (bJ [AV.esl,AV.esl] 0 [aD l.1,aD l.2]) 2=some [.mp 1]:=by rw[ac (by omega),ac (by omega),ac (by omega)];exact q2
   have w1:ay (ay (ay H3 (nx1+1) [AV.oiter 1 ((b8 M).map (AV.int .i64)).length (seen++[i])]) nx3 [AV.esl,AV.esl]) nx3 (bJ [AV.esl,AV.esl] 0 [aD l.1,aD l.2]) 1=some [.omap ((b8 M).map (AV.int .i64)) (vsS M y seen)]:=by rw[ac (by omega),ac (by omega),ac (by omega)];exact q1
   have wy:ay (ay (ay H3 (nx1+1) [AV.oiter 1 ((b8 M).map (AV.int .i64)).length (seen++[i])]) nx3 [AV.esl,AV.esl]) nx3 (bJ [AV.esl,AV.esl] 0 [aD l.1,aD l.2]) nx1=some [aD y.1,aD y.2]:=by rw[ac (by omega),ac (by omega),ac (by omega)];exact qy
   have wl:ay (ay (ay H3 (nx1+1) [AV.oiter 1 ((b8 M).map (AV.int .i64)).length (seen++[i])]) nx3 [AV.esl,AV.esl]) nx3 (bJ [AV.esl,AV.esl] 0 [aD l.1,aD l.2]) nx3=some [aD l.1,aD l.2]:=by rw[ah];rfl
   have wi:ay (ay (ay H3 (nx1+1) [AV.oiter 1 ((b8 M).map (AV.int .i64)).length (seen++[i])]) nx3 [AV.esl,AV.esl]) nx3 (bJ [AV.esl,AV.esl] 0 [aD l.1,aD l.2]) (nx1+1)=some [.oiter 1 ((b8 M).map (AV.int .i64)).length (seen++[i])]:=by rw[ac (by omega),ac (by omega),ah]
   have wd:Row (ay (ay (ay H3 (nx1+1) [AV.oiter 1 ((b8 M).map (AV.int .i64)).length (seen++[i])]) nx3 [AV.esl,AV.esl]) nx3 (bJ [AV.esl,AV.esl] 0 [aD l.1,aD l.2])) 1 dv (D.map aD):=qd.same λb hb=>by
    have:=h7 b hb;rw[ac (by omega),ac (by omega),ac (by omega)]
   generalize ay (ay (ay H3 (nx1+1) [AV.oiter 1 ((b8 M).map (AV.int .i64)).length (seen++[i])]) nx3 [AV.esl,AV.esl]) nx3 (bJ [AV.esl,AV.esl] 0 [aD l.1,aD l.2])=H4 at *;clear q0 q2 q1 qy qd;by_cases hin:ld y.1∈l.1
   ·rw[aM hin] at hhas;have hs1:=wN l.1 y.1 (by omega) (by omega);have hs2:=wN l.2 y.2 (by omega) (by omega);have hcl:eT (kd y l)=.agg [aD (bU l.1 y.1),aD (bU l.2 y.2)]:=by unfold kd;rw[if_pos hin];rfl
    rw[hcl] at hset;clear hcl;generalize bU l.1 y.1=s1 at *;generalize bU l.2 y.2=s2 at *;refine wkY (zI3 @wy @wl @ix0) ?_;refine B2 2 nx3 nx1 w2 wl wy (by omega) (by omega) (by omega) λS hS1 hS2 hS3 hsub=>?_;refine wnY (zI3 @hS1 @hS2 @hS3) ?_;simp only[fF,List.map_nil,List.getD_cons_succ,List.getD_cons_zero];refine d7 ?_;refine wnY and_self ?_;refine⟨hsub _ w2 wl wy,?_⟩;refine d7 ?_;refine wnY and_self ?_;refine⟨hsub _ w2 wl wy,?_⟩;refine wnY and_self ?_;have hmf:=jb (ld l.1) (b8 M);rw[if_pos hkm,hidx] at hmf;refine qn ev0 w1 ev0 ev0 rfl hmf ?_;refine wnY and_self ?_;refine⟨seen++[i],by rw[da,List.length_singleton];omega,⟨(ac (by omega)).trans wi,by omega,r3',r4',(ac (by omega)).trans w0,(ac (by omega)).trans w2,(ac (by omega)).trans wy,?_,wd.same λb hb=>by have:=h7 b hb;rw[ac (by omega)]⟩,ag0⟩;rw[ah,<-hset];rfl
   ·rw[aQ hin] at hhas;refine wkY (zI3 @wy @wl @ix0) ?_;exact⟨seen++[i],by rw[da,List.length_singleton];omega,⟨wi,by omega,r3',r4',w0,w2,wy,by rw[hsame hin];exact w1,wd⟩,ag0⟩
  ·have hall:∀i,i<M.length->i∈seen:=λi hi=>hall i (by rw[bo,hkl];exact hi) (by rw[bo,hkl];exact hi);rw[Ik hall,<-Aq hM hay h0 hno] at q1
   have hkk:ld y.1∉b8 (M.map (kd y)):=by
    rw[Aq hM hay h0 hno,nJ];rintro⟨l,hl,e⟩;exact hno l hl (by rw[e];exact dq h0)
   refine wnY (zI3 @q2 @qy @ix0) ?_;refine qr 2 nx1 q2 qy (by omega) λS hS1 hS2 hsub=>?_;have zz:=aI @hS1 (aI @hS2 @ix0);repeat' (first|apply a_n|refine zO ?_|refine nvY ?_|apply jH|fail)
   simp only[fF,List.map_nil,List.getD_cons_succ,List.getD_cons_zero]
   skip
   have hmf:=jb (ld y.1) (b8 (M.map (kd y)));rw[if_neg hkk] at hmf;refine qn ev0 q1 ev0 ev0 rfl hmf ?_;refine wnY and_self ?_;refine⟨(dv,k+1),by dsimp only;omega,⟨by dsimp only;omega,by omega,(ac (by omega)).trans q0,(ac (by omega)).trans q2,?_,?_,λb hb=>by have:=h7 b hb;omega⟩,ag0⟩
   ·dsimp only;rw[hss];unfold LM;rw[ah];unfold me b8;simp[c9,gH,eT]
   ·dsimp only;rw[hss];exact qd.same λb hb=>by have:=h7 b hb;rw[ac (by omega)]
 rintro T H nx ⟨t1,t4,h2,h3,h4,h5,dv,t6,h6,h7⟩;have hst:=fY hR (aP R.length);have hbl:=Bx hR hv (aP R.length);have hsl:=yC hR (aP R.length);unfold ll;generalize stE R R.length=MD at *;obtain⟨M,D⟩:=MD;dsimp only at *;have hM:=hst.red;refine wnY (zI5 @t1 @t4 @t6 @h3 @h4) ?_;refine bZ (X:=AV×Nat) (λx=>[(4,.ptr 2 1 0),(6,dv),(12,x.1),(77,.int .i64 c),(78,.int .i64 x.2)]) (λx H' nx'=>x.2<=c/\nx<=nx'/\H' 2=some [.mp 1]/\LM H' 1 M/\Row H' 1 dv (D.map aD)/\Row H' 2 x.1 (cLs (mh M x.2))/\∀b,bz x.1=some b->nx<=b/\b<nx') (λx=>c-x.2) (.esl,0) ⟨bC _,aP _,h4,h5,h6,Row.nil,λb h=>(by cases h)⟩ (have zz:=aI @t4 @t6;agZ) ?_;clear h3 h4 h5 h6;rintro⟨ov,k⟩ H' nx' ⟨g1,g2,g3,g4,g5,g6,g7⟩;dsimp only at g1 g2 g3 g4 g5 g6 g7 |-;by_cases hk:k<c
 rotate_left
 ·obtain rfl:k=c:=by omega
  refine wnY and_self ?_;exact bt (ag (Ir g6) (ag (kF g5) ak))
 have hos:=qB (M:=M) (c:=k);have hol:=A4 (M:=M) (c:=k);have hmf:=jb (k:Int) (b8 M);refine wnY @g3 ?_;by_cases hm:(k:Int)∈b8 M
 rotate_left
 ·rw[if_neg hm] at hmf;refine jL ev0 g4 ev0 rfl hmf ?_;have hmg:Go.Abs.mget (.agg [.esl,.esl]) true none (M.map eT)=.tup [.agg [.esl,.esl],.bool false]:=rfl;rw[hmg];refine wnY and_self ?_;rw[BD hm] at hos;have hos:mh M (k+1)=mh M k:=by rw[hos];simp
  refine⟨(ov,k+1),by dsimp only;omega,⟨by dsimp only;omega,by omega,by rw[ac (by omega),ac (by omega)];exact g3,?_,g5.same λb hb=>by have:=h7 b hb;rw[ac (by omega),ac (by omega)],?_,λb hb=>by have:=g7 b hb;omega⟩,ag0⟩
  ·unfold LM;rw[ac (by omega),ac (by omega)];exact g4
  ·dsimp only;rw[hos];exact g6.same λb hb=>by have:=g7 b hb;rw[ac (by omega),ac (by omega)]
 obtain⟨l,hl,hld,hgd⟩:=wz hm;rw[if_pos hm] at hmf;refine jL ev0 g4 ev0 rfl hmf ?_
 have hmg:Go.Abs.mget (.agg [.esl,.esl]) true (some ((b8 M).idxOf (k:Int))) (M.map eT)=.tup [.agg [aD l.1,aD l.2],.bool true]:=by
  show AV.tup [(M.map eT).getD ((b8 M).idxOf (k:Int)) .undef,.bool true]=_;rw[hgd];rfl
 rw[hmg];rw[Gr hM hl hld] at hos;have hos:mh M (k+1)=mh M k++[l]:=hos;refine wnY and_self ?_;refine hZ rfl ev0 (g6.same λb hb=>?_) ev0 qW rfl rfl (by omega) (by rw[Dd];omega) (by rw[Dd];omega) ?_
 ·have:=g7 b hb;rw[ac (by omega),ac (by omega),ac (by omega)]
 rintro s2 H2 nx2 hr2 i1 i2 i3 i4;have hdo:∀b,b<nx->bz ov≠some b:=λb hb e=>by have:=g7 b e;omega
 have lo2:∀b,b<nx->H2 b=H' b:=λb hb=>(i3 b (by omega) (hdo b hb)).trans (by rw[ac (by omega),ac (by omega),ac (by omega)]);refine wnY and_self ?_;refine⟨(s2,k+1),by dsimp only;omega,⟨by dsimp only;omega,by omega,(lo2 2 (by omega)).trans g3,(lo2 1 (by omega)).trans g4,g5.same λb hb=>by have:=h7 b hb;rw[lo2 b (by omega)],?_,λb hb=>?_⟩,ag0⟩
 ·dsimp only;rw[hos,Gv];exact hr2
 ·rcases i4 b hb with h|h
  ·have:=g7 b h;omega
  ·omega
theorem oT(c:Nat)(R:List (List Int))(hm:fZ c R):pU 134 [dh c R] (.tup [dh c (eD R c),.int .i64 0]):=by
 refine pO NL ?_;simp only[Ms,aH];have h1:=l8 c R hm;have z0:decide ((0:Int)≠0)=false:=rfl;have hd:Dat (.agg [.int .i64 c,br R]):=cV c R;have hec:=wK c R (by have:=hm.2.1;omega) hm.2.2.1 (eu hm) (λr hr z hz=>(hm.2.2.2 r hr).1 z hz);have hll:=lr (R:=R) (c:=c);have hmc:=hm.2.1;rw[cu] at hec |-;unfold eD;generalize ll R c=L at *;refine wnY (aI @z0 @uK) ?_;refine lpI (X:=AV×Nat) (λx=>[(2,.ptr 1 2 0),(5,.ptr 2 2 0),(24,mJ L),(25,.int .i64 L.length),(26,.int .i64 x.2)]) (λx H nx=>x.2<=L.length/\3<=nx/\H 1=some [.int .i64 0,.esl]/\H 2=some [.int .i64 c,x.1]/\Row H 1 x.1 (((L.take x.2).map Prod.fst).map aD)/\∀b,bz x.1=some b->2<b/\b<nx) (λx=>L.length-x.2) (.esl,0) ⟨bC _,aP _,rfl,rfl,Row.nil,λb h=>(by cases h)⟩ ?_;rintro⟨sv,k⟩ H nx ⟨g1,g2,g3,g4,g5,g6⟩;dsimp only at g1 g2 g3 g4 g5 g6 |-;by_cases hk:k<L.length
 rotate_left
 ·rw[fP (by omega)] at g5;obtain⟨o1,o2⟩:=g5.one;refine wnY (zI4 @g3 @g4 @o1 @o2) ?_;refine kG (kF (g5.same λb hb=>?_)) rfl;have:=g6 b hb;rw[ac (by omega)]
 have ix:=MC hk;have hts:=bT hk;have hlt:(L.take k).length<=k:=by rw[fy];omega
 generalize L.getD k default=l at *;refine wnY (aI @ix @g4) ?_;refine hZ rfl ev0 (g5.same λb hb=>?_) ev0 ed rfl rfl ke (by rw[bo,bo];omega) (by rw[bo,bo];omega) ?_
 ·have:=g6 b hb;rw[ac (by omega),ac (by omega),ac (by omega)]
 rintro s2 H2 nx2 hr2 i1 i2 i3 i4;have hdo:∀b,b<=2->bz sv≠some b:=λb hb e=>by have:=g6 b e;omega
 have lo2:∀b,b<=2->H2 b=H b:=λb hb=>(i3 b (by omega) (hdo b hb)).trans (by rw[ac (by omega),ac (by omega),ac (by omega)])
 have hn2:∀b,bz s2=some b->2<b/\b<nx2:=λb hb=>by
  rcases i4 b hb with h|h
  ·have:=g6 b h;omega
  ·omega
 have k4:=(lo2 2 (by omega)).trans g4;obtain⟨o1,o2⟩:=hr2.one;refine wnY (zI3 @k4 @o1 @o2) ?_;refine⟨(s2,k+1),by dsimp only;omega,⟨by dsimp only;omega,by omega,by rw[ac (by omega)];exact(lo2 1 (by omega)).trans g3,by rw[ah];rfl,?_,hn2⟩,ag0⟩;dsimp only;rw[hts,cA,cA];exact hr2.same λb hb=>by have:=hn2 b hb;rw[ac (by omega)]
theorem BX(c:Nat)(R:List (List Int))(hm:fZ c R):pU 97 [dh c R] (.tup [.int .i64 (eD R c).length,.int .i64 0]):=by
 refine pO O1 ?_;simp only[b97,aH];have he:=oT c R hm;have hd:Dat (.agg [.int .i64 c,br R]):=cV c R;rw[cu,cu] at he;rw[cu];generalize eD R c=E at *;refine wnY @bQ ?_;exact bt (ag (.int _ _) (ag (.int _ _) ak))
def IW(D:List (List Int))(b:List Int):Option (List Int):=D.find? λy=>gM y b
def mw(L:List Ln)(b:List Int):List Int:=(L.filter λl=>gM l.2 b).map λl=>ld l.1
def kp(R:List (List Int))(c:Nat)(b:List Int):List Int×List Int×Bool:=match IW (stE R R.length).2 b with
 |some y=>([],y,false)
 |none=>(mw (ll R c) b,[],true)
theorem Ec{L:List Ln}{x:Ln}{b:List Int}:mw (L++[x]) b=mw L b++if gM x.2 b=true then [ld x.1] else []:=by
 unfold mw;rw[s7,cA]
 congr 1
 by_cases h:gM x.2 b=true
 ·rw[if_pos h,rf (by simpa using h)];rfl
 ·rw[if_neg h,q9 (by simpa using h)];rfl
theorem DT{D:List (List Int)}{p:List Int->Bool}{k:Nat}(h:∀i,i<k->p (D.getD i default)=false)(hk:k<D.length)(hp:p (D.getD k default)=true):D.find? p=some (D.getD k default):=by
 induction D generalizing k with
 |nil=>simp at hk
 |cons y D ih=>
  match k with
  | 0 => have hp : p y = true := hp
         show List.find? p (y::D)=some y;rw[List.find?_cons_of_pos hp]
  |k+1=>
   have h0:¬p y=true:=by have:=h 0 (by omega);rw[show(y::D).getD 0 default=y from rfl] at this;rw[this];decide
   rw[List.find?_cons_of_neg h0];exact ih (k:=k) (λi hi=>h (i+1) (by omega)) (by simpa using hk) hp
theorem HS(c:Nat)(R:List (List Int))(b:List Int)(hm:fZ c R)(hbr:∀v∈b,0<=v/\v<(R.length:Int))(hba:bj b):pU 59 [dh c R,aD b] (.tup [aD (kp R c b).1,aD (kp R c b).2.1,.bool (kp R c b).2.2,.int .i64 0]):=by
 refine pO Py ?_;simp only[b59,aH];have hmR:=eu hm;have hmv:∀r∈R,∀z∈r,0<=z/\z<(c:Int):=λr hr z hz=>(hm.2.2.2 r hr).1 z hz;have hbl:=d5 hba hbr;have h1:=l8 c R hm
 have h2:=qj b (R.length:Int) (by have:=hm.2.2.1; omega) hbr (fun i hi=>by
  have:=kX.1 hba i (i+1) (by omega) hi (by omega);simpa[List.getD,show i<b.length by omega,hi] using this)
 have z0:decide ((0:Int)≠0)=false:=rfl;have hd:Dat (.agg [.int .i64 c,br R]):=cV c R;have hec:=wK c R (by have:=hm.2.1;omega) hm.2.2.1 hmR hmv;have hll:=lr (R:=R) (c:=c);have hmc:=hm.2.1;have hrl:=hm.2.2.1;have hsl:=yC hmR (aP R.length);have hok:=fY hmR (aP R.length)
 have hel:∀l∈ll R c,l.1≠[]/\l.2.length<=4096:=λl hl=>by
  have hl':=((jX hmR hmv).2.2 l).1 hl;refine⟨hok.red.ne l hl',?_⟩;have:=((Bx hmR hmv (aP R.length)) l hl').len (hok.red.asc l hl');omega
 have hdl:∀y∈(stE R R.length).2,y.length<=4096:=λy hy=>by
  have h3:=hok.dep y hy;have h4:y.length<=R.length:=d5 h3.1.2 h3.2.2;omega
 rw[cu] at hec |-;unfold kp;generalize ll R c=L at *;generalize (stE R R.length).2=D at *;refine dQ ?_
 repeat' (first|apply a_n|refine zO ?_|refine vY ?_|refine bxY ?_|fail)
 refine dQ ?_;refine wnY (zI3 @z0 @uK @bQ) ?_;refine lpI (X:=Nat) (λk=>[(1,aD b),(10,mJ L),(35,br D),(36,.int .i64 D.length),(37,.int .i64 k)]) (λk H nx=>k<=D.length/\∀i,i<k->gM (D.getD i default) b=false) (λk=>D.length-k) 0 ⟨bC _,λi h=>absurd h (by omega)⟩ ?_;rintro k H nx ⟨g1,g2⟩;by_cases hk:k<D.length
 ·have ix:=vI hk;have hyl:=hdl _ (ar hk);have hod:=Fx (D.getD k default) b (by omega) (by omega);by_cases ho:gM (D.getD k default) b=true
  ·have hsy:IW D b=some (D.getD k default):=DT (p:=λy=>gM y b) g2 hk ho;rw[hsy];rw[ho] at hod;generalize D.getD k default=y at *;refine wnY @ix ?_;refine r_4 rfl rfl rfl rfl ?_;exact bt (ag (.eslsl 1) (ag (cJ y).snap (ag (.bool _) (ag (.int _ _) ak))))
  ·have ho:gM (D.getD k default) b=false:=by simpa using ho
   have hg2:∀i,i<k+1->gM (D.getD i default) b=false:=λi hi=>by
    rcases(by omega:i<k\/i=k) with h|rfl
    ·exact g2 i h
    ·exact ho
   rw[ho] at hod;generalize D.getD k default=y at *;refine wnY @ix ?_;exact⟨k+1,by omega,⟨by omega,hg2⟩,ag0⟩
 have hsy:IW D b=none:=by
  refine List.find?_eq_none.2 λy hy=>?_;obtain⟨i,hi,e⟩:=jO hy;have:=g2 i (by omega);rw[show D.getD i default=y by simp[List.getD,hi,e]] at this;rw[this];decide
 rw[hsy];clear hsy g2;refine wnY @uK ?_;refine lpI (X:=AV×Nat) (λx=>[(1,aD b),(14,x.1),(46,mJ L),(47,.int .i64 L.length),(48,.int .i64 x.2)]) (λx H nx=>x.2<=L.length/\Row H 1 x.1 ((mw (L.take x.2) b).map (AV.int .i64))/\∀b,bz x.1=some b->b<nx) (λx=>L.length-x.2) (.esl,0) ⟨bC _,Row.nil,λb h=>(by cases h)⟩ ?_;rintro⟨sv,k⟩ H nx ⟨g1,g2,g3⟩;dsimp only at g1 g2 g3 |-;by_cases hk:k<L.length
 rotate_left
 ·rw[fP (by omega)] at g2;refine wnY and_self ?_;refine r_4 rfl rfl rfl rfl ?_;exact bt (ag g2.snapI (ag (.eslsl 1) (ag (.bool _) (ag (.int _ _) ak))))
 have ix:=MC hk;have hts:=bT hk;obtain⟨hn,hl2⟩:=hel _ (ar hk)
 have hxl:(mw (L.take k) b).length<=k:=by
  unfold mw;rw[bo];refine fm (List.length_filter_le _ _) ?_;rw[fy];omega
 have hsx:=Ec (L:=L.take k) (x:=L.getD k default) (b:=b);rw[<-hts] at hsx;generalize L.getD k default=l at *;have hod:=Fx l.2 b (by omega) (by omega);have ix0:=Ea hn;by_cases ho:gM l.2 b=true
 ·rw[ho] at hod;rw[if_pos ho] at hsx;refine wnY (aI @ix @ix0) ?_;refine eR (g2.same λb hb=>?_) ?_
  ·have:=g3 b hb;rw[ac (by omega),ac (by omega),ac (by omega)]
  rintro s2 H2 nx2 hr2 i1 i2 i3 i4;refine wnY and_self ?_;refine⟨(s2,k+1),by dsimp only;omega,⟨by dsimp only;omega,?_,λb hb=>?_⟩,ag0⟩
  ·dsimp only;rw[hsx,cA];exact hr2
  ·rcases i4 b hb with h|h
   ·have:=g3 b h;omega
   ·omega
 ·have ho:gM l.2 b=false:=by simpa using ho
  rw[ho] at hod;rw[ho,if_neg (by decide),fR] at hsx;refine wnY (aI @ix @ix0) ?_;refine⟨(sv,k+1),by dsimp only;omega,⟨by dsimp only;omega,?_,λb hb=>by have:=g3 b hb;omega⟩,ag0⟩;dsimp only;rw[hsx];exact g2.same λb hb=>by have:=g3 b hb;rw[ac (by omega),ac (by omega)]
theorem Da(c:List Spx)(hc:aA c=0)(hl:c.length<=50):pU 37 [bR c] (.tup [.int .i64 (tM c 8),.int .i64 0]):=by
 refine pO L4 ?_;simp only[b37,aH];have hcc:=jY c (show _<=_ by omega) (l7 hc);rw[hc] at hcc;have z0:decide ((0:Int)≠0)=false:=rfl;have hbd:=λk:Nat=>Cx (c:=c) (λk=>pb (k:=k) hl λs hs=>(bX ((di hc).2.1 s hs)).2.1) k;have hll:=λk=>pb (k:=k) hl λs hs=>(bX ((di hc).2.1 s hs)).2.1;have hf:=λk(hk:1<=k/\k<=8)=>A0 c k hl (di hc).2.1 hk;refine wnY (zI3 @z0 @ai @af) ?_;refine lpI (X:=Nat) (λk=>[(1,.ptr 0 1 0),(5,.int .i64 (tM c k)),(6,.int .i64 (k+1:Nat))]) (λk H nx=>k<=8/\H 0=some [aj c]) (λk=>8-k) 0 ⟨bC _,rfl⟩ ?_;rintro k H nx ⟨g1,g2⟩;by_cases hk:k<8
 rotate_left
 ·obtain rfl:k=8:=by omega
  refine wnY and_self ?_;exact bt (ag (.int _ _) (ag (.int _ _) ak))
 have hf1:=hf (k+1) ⟨by omega,by omega⟩;have hl1:=hll (k+1);have hb1:=hbd k;have hb2:=hbd (k+1);have hes:tM c (k+1)=if (k+1)%2=1 then tM c k+((gj c (k+1)).length:Int) else tM c k-((gj c (k+1)).length:Int):=rfl
 have hr:∀tb tf,bw .rem tb tf (.int .i64 ((k+1:Nat):Int)) (.int .i64 2)=some (.int .i64 (((k+1)%2:Nat):Int)):=λtb tf=>by
  rw[xU (by omega) (by omega)]
  congr 2
 generalize gj c (k+1)=L at *;generalize tM c k=E0 at *;by_cases hodd:(k+1)%2=1
 ·rw[if_pos hodd] at hes;rw[hes] at hb2;have zr:decide ((((k+1)%2:Nat):Int)=1)=true:=aM (by omega);refine wnY (zI5 @g2 @z0 @hr @zr @ae) ?_;exact⟨k+1,by omega,⟨by omega,g2⟩,by rw[hes,show((k+1+1:Nat):Int)=((k+1:Nat):Int)+1 by omega];simp (disch:=omega) only[agr,ZG,reduceEqDiff,↓reduceIte]⟩
 ·rw[if_neg hodd] at hes;rw[hes] at hb2;have zr:decide ((((k+1)%2:Nat):Int)=1)=false:=aQ (by omega);refine wnY (zI5 @g2 @z0 @hr @zr @ae) ?_;exact⟨k+1,by omega,⟨by omega,g2⟩,by rw[hes,show((k+1+1:Nat):Int)=((k+1:Nat):Int)+1 by omega];simp (disch:=omega) only[agr,ZG,reduceEqDiff,↓reduceIte]⟩
theorem zx(c:List Spx)(hc:Shn c)(hs:∀s∈c,Shn s):pU 94 [bR c] (.tup [.int .i64 (ug c-1),.bool (Gb c)]):=by
 refine pO OI ?_;simp only[b94,aH];unfold ug Gb;have hc':c.length<=17592186044416:=hc;refine wnY (zI3 @ai @af @ae) ?_;refine lpI (X:=Nat) (λk=>[(4,.int .i64 (o7 c k).1),(5,.int .i64 (o7 c k).2),(9,aj c),(10,.int .i64 c.length),(11,.int .i64 k)]) (λk H nx=>k<=c.length) (λk=>c.length-k) 0 (bC _) ?_;rintro k H nx h1;have hb:=CN (m:=17592186044416) (by omega) (λs h=>by have:s.length<=_:=hs s h;omega) h1;by_cases hk:k<c.length
 rotate_left
 ·obtain rfl:k=c.length:=by omega
  generalize o7 c c.length=P at *;obtain⟨a,m⟩:=P;dsimp only at hb |-;by_cases h0:m=0
  ·have z:decide (m=0)=true:=aM h0;rw[z,Bool.true_or];refine wnY @z ?_;exact bt (ag (.int _ _) (ag (.bool _) ak))
  ·have z:decide (m=0)=false:=aQ h0;rw[z,Bool.false_or];refine wnY @z ?_;exact bt (ag (.int _ _) (ag (.bool _) ak))
 have ix:=dC hk;have hsl:(c.getD k default).length<=17592186044416:=hs _ (ar hk);have e:o7 c (k+1)=(min (o7 c k).1 ((c.getD k default).length:Int),max (o7 c k).2 ((c.getD k default).length:Int)):=rfl;generalize c.getD k default=s at *;refine wnY (aI @ix @ap) ?_;exact⟨k+1,by omega,by omega,by rw[e];simp (disch:=omega) only[agr,ZG,reduceEqDiff,↓reduceIte]⟩
theorem pD(c:List Spx)(hc:aA c=0)(hl:c.length<=50):pU 96 [bR c] (.tup [.int .i64 (ug c-1),.bool (Gb c),.int .i64 0]):=by
 refine pO Pe ?_;simp only[b96,aH];have hcc:=jY c (show _<=_ by omega) (l7 hc);rw[hc] at hcc;have hd:=zx c (show _<=_ by omega) (l7 hc);have z0:decide ((0:Int)≠0)=false:=rfl;refine wnY (zI3 @z0 @ai @af) ?_;refine bt (ag (.int _ _) (ag (.bool _) (ag (.int _ _) ak)))
theorem sC(c:List Spx)(d:Nat)(hc:aA c=0)(hl:c.length<=50)(hd:d<=8):pU 98 [bR c,.int .i64 d] (.tup [.int .i64 (am c ((d:Int)+1)).length,.int .i64 0]):=by
 refine pO Pv ?_;simp only[b98,aH];by_cases h8:d=8
 ·rw[yM hc (by omega)];subst h8;refine wnY (aI @ai @af) ?_;exact bt (ag (.int _ _) (ag (.int _ _) ak))
 have hs:=lQ c ((d:Int)+1) hl (l7 hc)
 have e:dy c ((d:Int)+1)=(am c ((d:Int)+1),0):=by
  unfold dy am;rw[if_neg (λq=>q hc),if_neg (by omega),if_neg (by omega)]
 rw[e] at hs;dsimp only at hs;have hll:=cl hc hl (d:=(d:Int)+1);generalize am c ((d:Int)+1)=X at *;have z1:decide ((d:Int)<0)=false:=aQ (by omega);have z2:decide ((8:Int)<=d)=false:=aQ (by omega);refine wnY (zI5 @ai @af @ae @z1 @z2) ?_;exact bt (ag (.int _ _) (ag (.int _ _) ak))
theorem nB(c:List Spx)(d:Nat)(hc:aA c=0)(hl:c.length<=50)(hd:d<=8):pU 58 [bR c,.int .i64 d] (.tup [dh (am c ((d:Int)+1)).length (ca (am c ((d:Int)+1)) (am c d)),.int .i64 0]):=by
 refine pO OO ?_;simp only[b58,aH];by_cases h8:d=8
 ·rw[yM hc (by omega),Ae];subst h8;have hs:pU 98 [bR c,.int .i64 (((8:Nat):Int)-1)] (.tup [.int .i64 (am c ((8:Nat):Int)).length,.int .i64 0]):=sC c 7 hc hl (by omega);have hll:=cl hc hl (d:=((8:Nat):Int));generalize (am c ((8:Nat):Int)).length=n at *;have hzc:bD (AV.agg [AV.esl]) n=List.replicate n .esl:=by simp[bD,AV.cells]
  refine wnY (aI @ai @af) ?_;refine yQ (k1:=.i64) (k2:=.i64) (n:=n) (m:=n) rfl ev0 ev0 (by omega) (Int.le_refl _) (by omega) (by omega) ?_;rw[cE,hzc,Nat.mul_one];refine wnY and_self ?_;exact kG (D8 (by rw[ac (by omega),ah])) rfl
 have hm:=KU c d hl (l7 hc)
 have e:pm c d=(((((am c ((d:Int)+1)).length:Nat):Int),ca (am c ((d:Int)+1)) (am c d)),0):=by
  unfold pm;rw[if_neg (λq=>q hc),if_neg (by omega)]
 rw[e] at hm;dsimp only at hm;generalize ca (am c ((d:Int)+1)) (am c d)=R at *;generalize (am c ((d:Int)+1)).length=n at *;rw[cu] at hm |-;have z2:decide ((d:Int)<8)=true:=aM (by omega);refine wnY (zI3 @ai @af @z2) ?_;exact kG (kR _).snap rfl
theorem HO(c:List Spx)(m:Nat)(hc:aA c=0)(hl:c.length<=50)(hm:ug c=m)(hm8:m<=8):pU 44 [bR c] (.tup [aD (btL c m),.int .i64 0]):=by
 refine pO LJ ?_;simp only[b44,aH];have hdi:=pD c hc hl;rw[hm] at hdi;have z0:decide ((0:Int)≠0)=false:=rfl;have hed:=λd(h:d<=8)=>nB c d hc hl h;have hsz:=λd(h:d<=8)=>sC c d hc hl h;have hrl:=λd:Int=>cl hc hl (d:=d);have hrk:=λd:Nat=>BX (am c ((d:Int)+1)).length (ca (am c ((d:Int)+1)) (am c d)) (jt (by have:=hrl ((d:Int)+1);omega) (by have:=hrl d;omega));have hrf:=λd:Nat=>yt (c:=c) (d:=d);refine wnY (zI3 @z0 @ai @af) ?_;refine v5 ?_;refine wnY and_self ?_;refine lpI (X:=Nat) (λk=>[(1,.ptr 0 1 0),(4,.int .i64 ((m:Int)-1)),(7,.mp 1),(26,.int .i64 ((m:Int)-1+2)),(27,.int .i64 k)]) (λk H nx=>k<=m+1/\2<=nx/\H 0=some [aj c]/\H 1=some [.omap ((rkK k).map (AV.int .i64)) (rkV c k)]) (λk=>m+1-k) 0 ⟨bC _,aP _,rfl,rfl⟩ ?_;rintro k H nx ⟨g1,g2,g3,g4⟩;by_cases hk:k<m+1
 ·have hed1:=hed k (by omega);have hrk1:=hrk k;have hr1:=hrl ((k:Int)+1);have hd1:Dat (dh (am c ((k:Int)+1)).length (ca (am c ((k:Int)+1)) (am c k))):=cV _ _;change pU 97 _ (.tup [.int .i64 (rkF c k),.int .i64 0]) at hrk1;rw[cu] at hed1 hrk1 hd1;generalize ca (am c ((k:Int)+1)) (am c k)=R at *;generalize (am c ((k:Int)+1)).length=n at *;have z1:decide ((k:Int)<(m:Int)-1+2)=true:=aM (by omega);refine wnY (zI5 @g3 @z0 @z1 @ai @af) ?_;have hmf:=jb (k:Int) (rkK k);rw[if_neg (λq=>by have:=lH.1 q;omega)] at hmf;refine qn ev0 ((ac (by omega)).trans ((ac (by omega)).trans g4)) ev0 ev0 rfl hmf ?_;refine wnY @z0 ?_;refine⟨k+1,by omega,⟨by omega,by omega,by rw[ac (by omega),ac (by omega),ac (by omega)];exact g3,?_⟩,ag0⟩;rw[ah,yT,AJ,cA];rfl
 obtain rfl:k=m+1:=by omega
 have z1:decide (((m+1:Nat):Int)<(m:Int)-1+2)=false:=aQ (by omega);refine wnY @z1 ?_;refine lpI (X:=AV×Nat) (λx=>[(1,.ptr 0 1 0),(7,.mp 1),(11,x.1),(51,.int .i64 ((m:Int)-1+1)),(52,.int .i64 x.2)]) (λx H nx=>x.2<=m/\2<=nx/\H 0=some [aj c]/\H 1=some [.omap ((rkK (m+1)).map (AV.int .i64)) (rkV c (m+1))]/\Row H 1 x.1 ((btL c x.2).map (AV.int .i64))/\∀b,bz x.1=some b->2<=b/\b<nx) (λx=>m-x.2) (.esl,0) ⟨bC _,g2,g3,g4,Row.nil,λb h=>(by cases h)⟩ ?_;clear g1 g2 g3 g4;rintro⟨sv,k⟩ H nx ⟨g1,g2,g3,g4,g5,g6⟩;dsimp only at g1 g2 g3 g4 g5 g6 |-;by_cases hk:k<m
 rotate_left
 ·obtain rfl:k=m:=by omega
  have z1:decide ((k:Int)<(k:Int)-1+1)=false:=aQ (by omega);refine wnY @z1 ?_;exact gu g5.snapI rfl
 have hsz1:=hsz k (by omega);have hr1:=hrl ((k:Int)+1);have hr2:=hrl (((k+1:Nat):Int)+1);have hf1:=hrf k;have hf2:=hrf (k+1);have hmf1:=jb (k:Int) (rkK (m+1));rw[if_pos (lH.2 (by omega)),sA (by omega)] at hmf1;have hmf2:=jb ((k+1:Nat):Int) (rkK (m+1));rw[if_pos (lH.2 (by omega)),sA (by omega)] at hmf2;rw[show((k+1:Nat):Int)=(k:Int)+1 by omega] at hmf2;have hv1:Go.Abs.mget (.int .i64 0) false (some k) (rkV c (m+1))=.int .i64 (rkF c k):=sq (by omega);have hv2:Go.Abs.mget (.int .i64 0) false (some (k+1)) (rkV c (m+1))=.int .i64 (rkF c (k+1)):=sq (by omega);have hsn:=AU (c:=c) (n:=k);have hbl:(btL c k).length=k:=by unfold btL;simp
 have hbf:btF c k=((am c ((k:Int)+1)).length:Int)-(rkF c k:Int)-(rkF c (k+1):Int):=rfl;rw[hbf] at hsn;generalize rkF c k=f1 at *;generalize rkF c (k+1)=f2 at *;generalize (am c ((k:Int)+1)).length=n at *;generalize (am c (((k+1:Nat):Int)+1)).length=n2 at *;have z1:decide ((k:Int)<(m:Int)-1+1)=true:=aM (by omega);refine wnY (zI5 @g3 @z0 @z1 @ai @af) ?_;refine jL ev0 g4 ev0 rfl hmf1 ?_;rw[hv1];refine wnY and_self ?_;refine jL ev0 g4 ev0 rfl hmf2 ?_;rw[hv2];refine wnY and_self ?_;refine eR (g5.same λb hb=>?_) ?_
 ·have:=g6 b hb;rw[ac (by omega)]
 rintro s2 H2 nx2 hr3 i1 i2 i3 i4;have hdo:∀b,b<2->bz sv≠some b:=λb hb e=>by have:=g6 b e;omega
 have lo2:∀b,b<2->H2 b=H b:=λb hb=>(i3 b (by omega) (hdo b hb)).trans (by rw[ac (by omega)]);refine wnY and_self ?_;refine⟨(s2,k+1),by dsimp only;omega,⟨by dsimp only;omega,by omega,(lo2 0 (by omega)).trans g3,(lo2 1 (by omega)).trans g4,?_,λb hb=>?_⟩,ag0⟩
 ·dsimp only;rw[hsn,cA];exact hr3
 ·rcases i4 b hb with h|h
  ·have:=g6 b h;omega
  ·omega
theorem uZ(c:List Spx)(m:Nat)(hc:aA c=0)(hl:c.length<=50)(hm:ug c=m)(hm8:m<=8):pU 13 [bR c] (.tup [aD (btL c m),.int .i64 0]):=by
 have hch:pU 43 [bR c] (.int .i64 0):=by
  refine pO JU ?_;simp only[b43,aH];have he:=Da c hc hl;refine wnY (aI @ai @af) ?_;exact .int _ _
 refine pO OX ?_;simp only[b13,aH];have hb:=HO c m hc hl hm hm8;have z0:decide ((0:Int)≠0)=false:=rfl;refine wnY (zI3 @z0 @ai @af) ?_;exact gu (cJ _).snap rfl
theorem oV(c:List Spx)(hc:aA c=0)(hl:c.length<=50):pU 43 [bR c] (.int .i64 0):=by
 refine pO JU ?_;simp only[b43,aH];have he:=Da c hc hl;refine wnY (aI @ai @af) ?_;exact .int _ _
theorem N1(s t:Spx)(hs:Shn s)(ht:Shn t):pU 69 [aB s,aB t] (.bool (decide (s=t))):=by
 refine pO Ps ?_;simp only[b69,aH];have hc:=im s t hs ht;have e:decide (bg s t=0)=decide (s=t):=decide_eq_decide.2 ⟨λh=>pY h,λh=>by rw[h];exact gB t⟩;refine wnY @e ?_;exact .bool _
theorem MW(a b:List Spx)(ha:ShC a)(hb:ShC b):pU 68 [aj a,aj b,.func 69 []] (.bool (decide (a=b))):=by
 refine pO Pg ?_;simp only[b68,aH];by_cases hl:a.length=b.length
 rotate_left
 ·have z:decide ((a.length:Int)≠b.length)=true:=aM (by omega);rw[aQ (λe=>hl (by rw[e]))];refine wnY (aI @ae @z) ?_;exact .bool _
 have z:decide ((a.length:Int)≠b.length)=false:=by rw[hl];exact aQ (λh=>h rfl)
 have hal:=ha.1;refine wnY (aI @ae @z) ?_;refine kE (X:=Nat) (λk=>[(0,aj a),(1,aj b),(2,.func 69 []),(15,aj a),(16,.int .i64 a.length),(17,.int .i64 k)]) (λk=>k<=a.length/\∀i,i<k->a.getD i default=b.getD i default) (λk=>a.length-k) 0 ⟨bC _,λi h=>absurd h (by omega)⟩ ag0 ?_;rintro k ⟨h1,h2⟩;by_cases hk:k<a.length
 rotate_left
 ·obtain rfl:k=a.length:=by omega
  have e:a=b:=List.ext_getElem hl λi i1 i2=>by
   have:=h2 i i1;simpa[List.getD,i1,i2] using this
  rw[aM e];refine wnY and_self ?_;exact .bool _
 have ix:=dC hk;have iy:=dC (l:=b) (k:=k) (by omega);have hcl:=N1 _ _ (ha.2 _ (ar hk)) (hb.2 _ (ar (l:=b) (i:=k) (by omega)));by_cases e:a.getD k default=b.getD k default
 ·rw[aM e] at hcl
  have hn:∀i,i<k+1->a.getD i default=b.getD i default:=λi hi=>by
   rcases(by omega:i<k\/i=k) with h|rfl
   ·exact h2 i h
   ·exact e
  generalize a.getD k default=s at *;generalize b.getD k default=t at *;refine wnY (aI @ix @iy) ?_;exact⟨k+1,⟨by omega,hn⟩,by omega,ag0,rfl,rfl⟩
 ·rw[aQ e] at hcl;rw[aQ (λq=>e (by rw[q]))];generalize a.getD k default=s at *;generalize b.getD k default=t at *;refine wnY (aI @ix @iy) ?_;exact .bool _
theorem xI(a:List Int)(n:Int)(ha:a.length<=1000000000):pU 108 [aD a,.int .i64 n] (.bool (decide (n∈a))):=by
 refine pO Oh ?_;simp only[Lw,aH];refine wnZ @cr ?_;refine kE (X:=Nat) (λk=>[(0,aD a),(1,.int .i64 n),(5,.int .i64 k)]) (λk=>k<=a.length/\∀i,i<k->a.getD i default≠n) (λk=>a.length-k) 0 ⟨bC _,λi h=>absurd h (by omega)⟩ ag0 ?_;rintro k ⟨h1,h2⟩;by_cases hk:k<a.length
 ·have ix:=ixV hk;by_cases hv:a.getD k default=n
  ·have z:decide (a.getD k default=n)=true:=aM hv;rw[aM (show n∈a by rw[<-hv];exact ar hk)];refine wnZ (zI3 @cr @ix @z) ?_;exact .bool _
  ·have z:decide (a.getD k default=n)=false:=aQ hv;refine wnZ (zI3 @cr @ix @z) ?_
   exact ⟨k + 1,⟨by omega,fun i hi=>by
    rcases(by omega:i<k\/i=k) with h|rfl
    ·exact h2 i h
    ·exact hv⟩,by omega,ag0,rfl,rfl⟩
 ·obtain rfl:k=a.length:=by omega
  rw [aQ fun hm=>by
   obtain⟨i,hi,e⟩:=jO hm;exact h2 i hi (by simp[List.getD,hi,e])]
  refine wnZ @cr ?_;exact .bool _
theorem IM(a b:List Int)(ha:a.length<=1000000)(hb:b.length<=1000000):pU 109 [aD a,aD b] (aD (bU a b)):=by
 refine pO LU ?_;simp only[Ng,aH];refine wnZ @cr ?_;refine lpI (X:=AV×List Int×Nat×Nat) (λx=>[(0,aD a),(1,aD b),(5,x.1),(6,.int .i64 x.2.2.1),(7,.int .i64 x.2.2.2)]) (λx H nx=>x.2.2.1<=a.length/\x.2.2.2<=b.length/\x.2.1++bU (a.drop x.2.2.1) (b.drop x.2.2.2)=bU a b/\x.2.1.length<=x.2.2.1+x.2.2.2/\Row H 1 x.1 (x.2.1.map (AV.int .i64))/\∀b,bz x.1=some b->b<nx) (λx=>a.length+b.length-(x.2.2.1+x.2.2.2)) (.esl,[],0,0) ⟨bC _,bC _,rfl,bC _,Row.nil,λb h=>(by cases h)⟩ ?_;rintro⟨sv,D,i,k⟩ H nx ⟨g1,g2,g3,g4,g5,g6⟩;dsimp only at g1 g2 g3 g4 g5 g6 |-;by_cases hA:i<a.length/\(k=b.length\/k<b.length/\a.getD i default<b.getD k default)
 ·rw[Hu hA.1 hA.2] at g3;have ix:=ixV hA.1;have zi:decide ((i:Int)<a.length)=true:=aM (by omega);rcases hA.2 with hk|⟨hk,hlt⟩
  ·have zk:decide ((k:Int)=b.length)=true:=aM (by omega);refine wnY (zI4 @cr @ix @zi @zk) ?_;refine eR (g5.same λb hb=>?_) ?_
   ·have:=g6 b hb;rw[ac (by omega)]
   rintro s2 H2 nx2 hr2 i1 i2 i3 i4;refine wnY and_self ?_;refine⟨(s2,D++[a.getD i default],i+1,k),by dsimp only;omega,⟨by dsimp only;omega,by dsimp only;omega,by rw[<-g3,kq];rfl,by dsimp only;rw[da,List.length_singleton];omega,by dsimp only;rw[cA];exact hr2,λb hb=>?_⟩,ag0⟩;rcases i4 b hb with h|h
   ·have:=g6 b h;omega
   ·omega
  ·have zk:decide ((k:Int)=b.length)=false:=aQ (by omega);have zk2:decide ((k:Int)<b.length)=true:=aM (by omega);have iy:=ixV hk;have zl:decide (a.getD i default<b.getD k default)=true:=aM hlt;refine wnY (zI7 @cr @ix @iy @zi @zk @zk2 @zl) ?_;refine eR (g5.same λb hb=>?_) ?_
   ·have:=g6 b hb;rw[ac (by omega)]
   rintro s2 H2 nx2 hr2 i1 i2 i3 i4;refine wnY and_self ?_;refine⟨(s2,D++[a.getD i default],i+1,k),by dsimp only;omega,⟨by dsimp only;omega,by dsimp only;omega,by rw[<-g3,kq];rfl,by dsimp only;rw[da,List.length_singleton];omega,by dsimp only;rw[cA];exact hr2,λb hb=>?_⟩,ag0⟩;rcases i4 b hb with h|h
   ·have:=g6 b h;omega
   ·omega
 by_cases hB:k<b.length/\(i=a.length\/i<a.length/\b.getD k default<a.getD i default)
 ·rw[HF hB.1 hB.2] at g3;have iy:=ixV hB.1;have zk:decide ((k:Int)=b.length)=false:=aQ (by omega);have zk2:decide ((k:Int)<b.length)=true:=aM (by omega);rcases hB.2 with hi|⟨hi,hlt⟩
  ·have zi:decide ((i:Int)<a.length)=false:=aQ (by omega);have zi2:decide ((i:Int)=a.length)=true:=aM (by omega);refine wnY (zI6 @cr @iy @zi @zi2 @zk @zk2) ?_;refine eR (g5.same λb hb=>?_) ?_
   ·have:=g6 b hb;rw[ac (by omega)]
   rintro s2 H2 nx2 hr2 i1 i2 i3 i4;refine wnY and_self ?_;refine⟨(s2,D++[b.getD k default],i,k+1),by dsimp only;omega,⟨by dsimp only;omega,by dsimp only;omega,by rw[<-g3,kq];rfl,by dsimp only;rw[da,List.length_singleton];omega,by dsimp only;rw[cA];exact hr2,λb hb=>?_⟩,ag0⟩;rcases i4 b hb with h|h
   ·have:=g6 b h;omega
   ·omega
  ·have zi:decide ((i:Int)<a.length)=true:=aM (by omega);have zi2:decide ((i:Int)=a.length)=false:=aQ (by omega);have ix:=ixV hi;have zl:decide (a.getD i default<b.getD k default)=false:=aQ (by omega);have zl2:decide (b.getD k default<a.getD i default)=true:=aM hlt;refine wnY (zI9 @cr @ix @iy @zi @zi2 @zk @zk2 @zl @zl2) ?_;refine eR (g5.same λb hb=>?_) ?_
   ·have:=g6 b hb;rw[ac (by omega)]
   rintro s2 H2 nx2 hr2 i1 i2 i3 i4;refine wnY and_self ?_;refine⟨(s2,D++[b.getD k default],i,k+1),by dsimp only;omega,⟨by dsimp only;omega,by dsimp only;omega,by rw[<-g3,kq];rfl,by dsimp only;rw[da,List.length_singleton];omega,by dsimp only;rw[cA];exact hr2,λb hb=>?_⟩,ag0⟩;rcases i4 b hb with h|h
   ·have:=g6 b h;omega
   ·omega
 by_cases hC:i<a.length/\k<b.length
 ·have he:a.getD i default=b.getD k default:=by
    have h1:¬a.getD i default<b.getD k default:=λh=>hA ⟨hC.1,.inr ⟨hC.2,h⟩⟩;have h2:¬b.getD k default<a.getD i default:=λh=>hB ⟨hC.2,.inr ⟨hC.1,h⟩⟩;omega
  rw[Iv hC.1 hC.2 he] at g3;have ix:=ixV hC.1;have iy:=ixV hC.2;have zi:decide ((i:Int)<a.length)=true:=aM (by omega);have zi2:decide ((i:Int)=a.length)=false:=aQ (by omega);have zk:decide ((k:Int)=b.length)=false:=aQ (by omega);have zk2:decide ((k:Int)<b.length)=true:=aM (by omega);have zl:decide (a.getD i default<b.getD k default)=false:=aQ (by omega);have zl2:decide (b.getD k default<a.getD i default)=false:=aQ (by omega);refine wnY (zI9 @cr @ix @iy @zi @zi2 @zk @zk2 @zl @zl2) ?_;exact⟨(sv,D,i+1,k+1),by dsimp only;omega,⟨by dsimp only;omega,by dsimp only;omega,g3,by dsimp only;omega,g5,g6⟩,ag0⟩
 have hi:i=a.length:=by
  rcases qT i a.length with h|h
  ·exfalso;rcases qT k b.length with h2|h2
   ·exact hC ⟨h,h2⟩
   ·exact hA ⟨h,.inl (by omega)⟩
  ·omega
 have hk:k=b.length:=by
  rcases qT k b.length with h|h
  ·exact absurd ⟨h,.inl hi⟩ hB
  ·omega
 have zi:decide ((i:Int)<a.length)=false:=aQ (by omega);have zk:decide ((k:Int)<b.length)=false:=aQ (by omega);rw[hi,hk,List.drop_length,List.drop_length,jg,fR] at g3;rw[<-g3];refine wnY (zI3 @cr @zi @zk) ?_;exact g5.snapI
theorem Gz(rows:List (List Int))(n c:Nat)(hl:rows.length<=100000)(hr:∀r∈rows,r.length<=100000)(hn:n<=rows.length):pU 148 [br rows,.int .i64 n,.int .i64 c] (.int .i64 (Hm rows n c)):=by
 refine pO Mc ?_;simp only[MQ,aH];refine wnZ @bQ ?_;refine kE (X:=Nat) (λk=>[(0,br rows),(2,.int .i64 c),(7,.int .i64 k)]) (λk=>n<=k/\k<=rows.length/\∀i,n<=i->i<k->(c:Int)∉rows.getD i default) (λk=>rows.length-k) n ⟨aP _,hn,λi h1 h2=>absurd h1 (by omega)⟩ ag0 ?_;rintro k ⟨h0,h1,h2⟩;by_cases hk:k<rows.length
 ·have ix:=vI hk;have hh:=xI (rows.getD k default) c (by have:=hr _ (ar hk);omega);by_cases hv:(c:Int)∈rows.getD k default
  ·rw[aM hv] at hh;unfold Hm;rw[HR h0 hk h2 hv];generalize rows.getD k default=r at *;refine wnZ (aI @bQ @ix) ?_;exact .int _ _
  ·rw[aQ hv] at hh
   have h3:∀i,n<=i->i<k+1->(c:Int)∉rows.getD i default:=λi hi hi2=>by
    rcases(by omega:i<k\/i=k) with h|rfl
    ·exact h2 i hi h
    ·exact hv
   generalize rows.getD k default=r at *;refine wnZ (aI @bQ @ix) ?_;exact⟨k+1,⟨by omega,by omega,h3⟩,by omega,ag0,rfl,rfl⟩
 ·obtain rfl:k=rows.length:=by omega
  unfold Hm;rw[Gx λi hi hi2=>h2 i hi hi2];refine wnZ @bQ ?_;exact .int _ _
theorem Fa(c:Nat)(R:List (List Int))(b y:List Int)(hm:fZ c R)(hbr:∀v∈b,0<=v/\v<(R.length:Int))(hba:bj b)(hyr:∀v∈y,0<=v/\v<(R.length:Int))(hya:bj y):pU 71 [dh c R,aD b,aD y] (.int .i64 (Eg R b y)):=by
 refine pO OD ?_;simp only[b71,aH];have hmR:=eu hm;have hmv:∀r∈R,∀z∈r,0<=z/\z<(c:Int):=λr hr z hz=>(hm.2.2.2 r hr).1 z hz;have hbl:=d5 hba hbr;have hyl:=d5 hya hyr
 have hvec:∀ {x:List Int},x.length ≤ R.length→(∀ v ∈ x,0 ≤ v∧v < (R.length:Int))→bj x→pU 114 [aD x,.int .i64 R.length] (.int .i64 0):=fun {x} h1 h2 h3=>qj x (R.length:Int) (by have:=hm.2.2.1; omega) h2 (fun i hi=>by
  have:=kX.1 h3 i (i+1) (by omega) hi (by omega);simpa[List.getD,show i<x.length by omega,hi] using this)
 have h1:=l8 c R hm;have h2:=hvec hbl hbr hba;have h3:=hvec hyl hyr hya;have z0:decide ((0:Int)≠0)=false:=rfl;have hd:Dat (.agg [.int .i64 c,br R]):=cV c R;have hmc:=hm.2.1;have hrl:=hm.2.2.1;have hod:=Fx y b (by omega) (by omega);rw[cu];refine wnY (zI3 @z0 @bQ @cr) ?_;refine uo (X:=Nat) (λk=>[(1,aD b),(2,aD y),(3,.ptr 0 2 0),(10,aD (kg R (y.take k))),(34,aD y),(35,.int .i64 y.length),(36,.int .i64 k)]) (λk H nx=>k<=y.length/\H 0=some [.int .i64 c,br R]) (λk=>y.length-k) 0 ⟨_,_,Fz.none,⟨bC _,rfl⟩,⟨.inl rfl,.inl rfl,.inl rfl,.inr (.eslsl 1),.inl rfl,.inl rfl,.inl rfl,trivial⟩⟩ ?_;rintro k H nx ⟨g1,g2⟩;obtain⟨a1,a2⟩:=yq hmR hmv hyr k g1;have al:=d5 a1 a2;by_cases hk:k<y.length
 ·have ix:=ixV hk;have hi:=hyr _ (ar hk);have hts:=bT hk;have hsn:kg R (y.take (k+1))=bU (kg R (y.take k)) (R.getD (y.getD k default).toNat default):=by rw[hts,wA]
  have iy:eF 1 (br R) (.int .i64 (y.getD k default))=some (.iptr [aD (R.getD (y.getD k default).toNat default)] 0):=by
   rw[oU,if_pos ⟨hi.1,hi.2⟩]
  have hrow:R.getD (y.getD k default).toNat default∈R:=ar (by omega);have hrl2:=(hm.2.2.2 _ hrow).2.1;have hsu:=wN (kg R (y.take k)) (R.getD (y.getD k default).toNat default) (by omega) (by omega);rw[<-hsn] at hsu;generalize R.getD (y.getD k default).toNat default=r at *;generalize y.getD k default=i at *;generalize kg R (y.take k)=s1 at *;refine wnY (zI3 @g2 @ix @iy) ?_;exact⟨k+1,by omega,_,_,Fz.none,⟨by omega,g2⟩,gK ag0⟩
 obtain rfl:k=y.length:=by omega
 rw[List.take_length] at *;unfold Eg;by_cases hs:kg R y=[]
 ·rw[if_pos hs];have z:decide ((0:Int)<(kg R y).length)=false:=by rw[hs];rfl
  cases ho:gM y b
  ·rw[ho] at hod;refine wnY (aI @z @cr) ?_;exact .int _ _
  ·rw[ho] at hod;refine wnY (aI @z @cr) ?_;exact .int _ _
 ·rw[if_neg hs];have z:decide ((0:Int)<(kg R y).length)=true:=aM (by have:=f8.2 hs;omega);refine wnY (aI @z @cr) ?_;exact .int _ _
theorem DP(s:AV)(l:List (List Int))(hl:l.length<=1000000)(H:Hp)(nx:Nat)(hr:jU H s l)(hb:∀b,bz s=some b->b<nx):Abs.Fn Tryz.prog 135 [s] H nx λr H' nx'=>Row H' 1 r (l.map aD)/\nx<=nx'/\(∀x,x<nx->H' x=H x)/\∀b,bz r=some b->nx<=b/\b<nx':=by
 refine fO NR ?_;simp only[L9,aH];have hsrc:=hr.src (H':=H) λ_ _=>rfl;have hn:=hr.len;have fin:l.length=0->l.map aD=[]:=λh=>by rw[fo.1 h];rfl
 repeat' (first|refine zW ?_|apply a_n|refine zO ?_|refine vY ?_|fail)
 refine xD (k:=l.length) (by((try simp only[ce,ZA,reduceEqDiff,↓reduceIte,reduceAdd,reduceLeDiff]);(try with_reducible rfl));exact hn) (λh=>?_) (λh=>?_) (λh=>?_)
 ·repeat' (first|refine zW ?_|apply a_n|refine zO ?_|refine vY ?_|refine b0Y ?_|refine cFY ?_|fail)
  refine jd rfl ev0 ev0 hsrc sE (by omega) (by omega) ?_
  repeat' (first|apply a_n|refine zO ?_|refine vY ?_|refine b6 rfl ?_|refine r1Y ?_|fail)
  refine⟨by simpa only[Nat.mul_one] using Row.box (sz:=1) nx l.length (l.map aD) (ah (H:=H)) (by rw[bo,Nat.mul_one]),by omega,λx hx=>ac (by omega),λb hb=>by cases hb;omega⟩
 ·repeat' (first|refine zW ?_|apply a_n|apply a_r|refine zO ?_|refine vY ?_|refine cTY ?_|refine b6 rfl ?_|refine r1Y ?_|fail)
  refine⟨by rw[fin h];exact Row.nil,aP _,λx hx=>rfl,λb hb=>(by cases hb)⟩
 ·repeat' (first|refine zW ?_|apply a_n|refine zO ?_|refine vY ?_|refine b0Y ?_|refine cFY ?_|fail)
  refine jd rfl ev0 ev0 hsrc sE (by omega) (by omega) ?_
  repeat' (first|apply a_n|refine zO ?_|refine vY ?_|refine b6 rfl ?_|refine r1Y ?_|fail)
  refine⟨by simpa only[Nat.mul_one] using Row.box (sz:=1) nx l.length (l.map aD) (ah (H:=H)) (by rw[bo,Nat.mul_one]),by omega,λx hx=>ac (by omega),λb hb=>by cases hb;omega⟩
theorem Mq(c:Nat)(E:List (List Int))(rk:Nat)(v:List Int)(s:AV)(b:Nat)(H:Hp)(nx:Nat)(hm:fZ c (E++[v]))(hb:H b=some [.int .i64 c,s,.int .i64 rk])(hbn:b<nx)(hr:jU H s E)(hs:∀x,bz s=some x->x<nx):
    Abs.Fn Tryz.prog 82 [.ptr b 3 0,aD v] H nx λr H' nx'=>nx<=nx'/\(∀x,x<nx->x≠b->H' x=H x)/\((eD (E++[v]) c).length=rk/\r=.tup [.bool false,.int .i64 0]/\H' b=H b\/(eD (E++[v]) c).length≠rk/\r=.tup [.bool true,.int .i64 0]/\∃rv,H' b=some [.int .i64 c,rv,.int .i64 (eD (E++[v]) c).length]/\jU H' rv (E++[v])/\∀x,bz rv=some x->nx<=x/\x<nx'):=by
 refine fO Ph ?_;simp only[b82,aH];have hrank:=BX c (E++[v]) hm;have hel:E.length<=4096:=by have:=hm.2.2.1;rw[da] at this;omega
 have hcl:=fun H' nx' (h1:∀ x,x < nx→H' x=H x) (h2:nx ≤ nx')=>DP s E (by omega) H' nx' (by
  rcases hr with h|h
  ·exact .inl h
  ·exact .inr (h.same λx hx=>h1 x (hs x hx))) (λx hx=>by have:=hs x hx;omega)
 refine dQ ?_
 repeat' (first|apply a_n|refine zO ?_|refine vY ?_|fail)
 refine cH (λT H' nx'=>∃nb rv,T 0=.ptr b 3 0/\T 1=aD v/\T 6=.ptr nb 2 0/\nx<=nb/\nb<nx'/\H' nb=some [.int .i64 c,rv]/\Row H' 1 rv ((E++[v]).map aD)/\(∀x,bz rv=some x->nx<=x/\x<nx'/\x≠nb)/\∀x,x<nx->H' x=H x) ?_ ?_
 ·refine Kz (only b [.int .i64 c,s,.int .i64 rk]) (o8 hb) ?_;have hS:only b [.int .i64 c,s,.int .i64 rk] b=some [.int .i64 c,s,.int .i64 rk]:=gX;have hsub:∀H':Hp,H' b=some [.int .i64 c,s,.int .i64 rk]->Sub (only b [.int .i64 c,s,.int .i64 rk]) H':=λH' h=>o8 h;generalize only b [AV.int .i64 c,s,.int .i64 rk]=S at *;simp only[fF,List.map_nil,List.getD_cons_succ,List.getD_cons_zero];have zz:=aI @NK @hS;repeat' (first|apply a_n|refine zO ?_|refine nvY ?_|apply vV|refine I9 ?_|fail)
  refine Jb (pv:=[(0,1,aD v)]) (cs:=[aD v]) ev0 rfl (by decide) rfl rfl (vV ?_);have hsv:∀H':Hp,gI 1 H' (.sl 1 [aD v])=some (1,[aD v]):=λ_=>rfl;have ones_encVs:AV.ones [aD v]=true:=rfl;have happ:E.map aD++[aD v]=(E++[v]).map aD:=by rw[cA];rfl
  refine Lk ?_ ?_
  ·refine d7 ?_
   repeat' (first|apply a_n|refine zO ?_|refine alY ?_|fail)
   refine⟨hsub _ (by rw[ac (by omega)];exact hb),?_⟩;refine d7 ?_;refine bh ev0 ev0 (hcl _ _ (λx hx=>ac (by omega)) (by omega)) ?_;rintro r H1 nx1 ⟨k1,k2,k3,k4⟩;have q0:H1 nx=some [AV.int .i64 0,.esl]:=(k3 nx (by omega)).trans ah;have q1:∀x,x<nx->H1 x=H x:=λx hx=>(k3 x (by omega)).trans (ac (by omega));refine kB ⟨hsub _ ((q1 b hbn).trans hb),?_⟩;refine d7 ?_;refine hZ rfl ev0 k1 ev0 (hsv _) ones_encVs rfl ke (by rw[bo];omega) (by rw[bo];omega) ?_;rintro s2 H2 nx2 hr2 i1 i2 i3 i4;rw[happ] at hr2;have g:∀x,x<=nx->H2 x=H1 x:=λx hx=>i3 x (by omega) λh=>by have:=(k4 x h).1;omega
   refine kB ⟨hsub _ ((g b (by omega)).trans ((q1 b hbn).trans hb)),?_⟩;have q2:=(g nx (aP _)).trans q0;have hge:∀x,bz s2=some x->nx+1<=x/\x<nx2:=λx hx=>(i4 x hx).elim (λh=>⟨(k4 x h).1,by have:=(k4 x h).2;omega⟩) λh=>⟨by omega,by omega⟩
   clear zz;have zz:=aI @q2 (aI (uG hr2) (aI hr2.one.1 hr2.one.2));repeat' (first|apply a_n|refine zO ?_|refine nvY ?_|apply jH|refine stY ?_|fail)
   refine⟨nx,s2,rfl,rfl,rfl,by omega,by omega,ah,hr2.same (λx hx=>ac (by have:=(hge x hx).1;omega)),λx hx=>⟨by have:=(hge x hx).1;omega,(hge x hx).2,by have:=(hge x hx).1;omega⟩,λx hx=>?_⟩;rw[ac (by omega)];exact(g x (by omega)).trans (q1 x hx)
  ·refine d7 ?_;refine bh ev0 ev0 (hcl _ _ (λx hx=>rfl) (by omega)) ?_;rintro r H1 nx1 ⟨k1,k2,k3,k4⟩;refine kB ⟨hsub _ ((k3 b hbn).trans hb),vV ?_⟩;refine Lk ?_ ?_
   ·refine d7 ?_
    repeat' (first|apply a_n|refine zO ?_|refine alY ?_|fail)
    refine⟨hsub _ (by rw[ac (by omega)];exact(k3 b hbn).trans hb),?_⟩;refine d7 ?_;refine hZ rfl ev0 (k1.same λx hx=>ac (by have:=(k4 x hx).2;omega)) ev0 (hsv _) ones_encVs rfl ke (by rw[bo];omega) (by rw[bo];omega) ?_;rintro s2 H2 nx2 hr2 i1 i2 i3 i4;rw[happ] at hr2;have g:∀x,x<nx->H2 x=H1 x:=λx hx=>(i3 x (by omega) λh=>by have:=(k4 x h).1;omega).trans (ac (by omega));have q2:=(i3 nx1 (by omega) λh=>by have:=(k4 nx1 h).2;omega).trans ah;refine kB ⟨hsub _ ((g b (by omega)).trans ((k3 b hbn).trans hb)),?_⟩;have hge:∀x,bz s2=some x->nx<=x/\x<nx2/\x≠nx1:=λx hx=>(i4 x hx).elim (λh=>⟨(k4 x h).1,by have:=(k4 x h).2;omega,by have:=(k4 x h).2;omega⟩) λh=>⟨by omega,by omega,by omega⟩
    clear zz;have zz:=aI @q2 (aI (uG hr2) (aI hr2.one.1 hr2.one.2));repeat' (first|apply a_n|refine zO ?_|refine nvY ?_|apply jH|refine stY ?_|fail)
    refine⟨nx1,s2,rfl,rfl,rfl,by omega,by omega,ah,hr2.same (λx hx=>ac (by have:=(hge x hx).2.2;omega)),λx hx=>⟨(hge x hx).1,(hge x hx).2.1,by have:=(hge x hx).2.2;omega⟩,λx hx=>?_⟩;rw[ac (by omega)];exact(g x (by omega)).trans (k3 x hx)
   ·refine d7 ?_;refine hZ rfl ev0 k1 ev0 (hsv _) ones_encVs rfl ke (by rw[bo];omega) (by rw[bo];omega) ?_;rintro s2 H2 nx2 hr2 i1 i2 i3 i4;rw[happ] at hr2;have g:∀x,x<nx->H2 x=H1 x:=λx hx=>i3 x (by omega) λh=>by have:=(k4 x h).1;omega
    refine kB ⟨hsub _ ((g b (by omega)).trans ((k3 b hbn).trans hb)),vV ?_⟩;have hge:∀x,bz s2=some x->nx<=x/\x<nx2:=λx hx=>(i4 x hx).elim (λh=>⟨(k4 x h).1,by have:=(k4 x h).2;omega⟩) λh=>⟨by omega,by omega⟩
    clear zz;have zz:=(uG hr2);repeat' (first|apply a_n|refine zO ?_|refine nvY ?_|apply vV|refine I9 ?_|fail)
    refine Lb (d7 ?_)
    repeat' (first|apply a_n|refine zO ?_|refine alY ?_|fail)
    refine⟨hsub _ (by rw[ac (by omega)];exact(g b hbn).trans ((k3 b hbn).trans hb)),?_⟩;clear zz;have zz:=aI hr2.one.1 hr2.one.2;repeat' (first|apply a_n|refine zO ?_|apply jH|refine stY ?_|fail)
    refine⟨nx2,s2,rfl,rfl,rfl,by omega,by omega,ah,hr2.same (λx hx=>(ac (by have:=(hge x hx).2;omega)).trans (ac (by have:=(hge x hx).2;omega))),λx hx=>⟨(hge x hx).1,by have:=(hge x hx).2;omega,by have:=(hge x hx).2;omega⟩,λx hx=>?_⟩;rw[ac (by omega),ac (by omega)];exact(g x (by omega)).trans (k3 x hx)
 rintro T H1 nx1 ⟨nb,wv,t0,t1,t6,h1,h2,h3,h4,h5,h6⟩;have g0:H1 b=some [.int .i64 c,s,.int .i64 rk]:=(h6 b hbn).trans hb;generalize hEv:E++[v]=E' at *;have zz:=aI @t0 (aI @t1 (aI @t6 @h3));repeat' (first|refine zW ?_|apply a_n|refine zO ?_|refine vY ?_|fail)
 refine ez (have zz:=aI @t0 (aI @t1 (aI @t6 @h3));evY) (have zz:=aI @t0 (aI @t1 (aI @t6 @h3));evY) hrank (aG (ag (ja (ag (Dat.snap Dat.int) (ag (kF h4) ak))) ak) rfl) ?_;have bne:∀x,bz wv=some x->x≠b:=λx hx=>by have:=(h5 x hx).1;omega
 by_cases heq:(eD E' c).length=rk
 ·have hi:decide ((((eD E' c).length:Nat):Int)=(rk:Int))=true:=aM (by rw[heq]);clear zz;have zz:=aI @t0 (aI @t1 (aI @t6 (aI @h3 (aI @g0 (aI @NK @hi)))));repeat' (first|refine zW ?_|apply a_n|apply a_r|refine zO ?_|refine vY ?_|refine gTY ?_|(refine zGY ?_ ?_<;>(intro _hg;try (exfalso;omega)))|refine cTY ?_|refine b6 rfl ?_|refine r2Y ?_|fail)
  exact⟨by omega,λx hx _=>h6 x hx,.inl ⟨heq,rfl,h6 b hbn⟩⟩
 ·have hi:decide ((((eD E' c).length:Nat):Int)=(rk:Int))=false:=aQ (λh=>heq (by exact_mod_cast h));clear zz;have zz:=aI @t0 (aI @t1 (aI @t6 (aI @h3 (aI @g0 (aI @NK (aI @hi (aI h4.one.1 h4.one.2)))))));repeat' (first|refine zW ?_|apply a_n|refine zO ?_|refine vY ?_|refine stY ?_|refine gTY ?_|(refine zGY ?_ ?_<;>(intro _hg;try (exfalso;omega)))|refine cFY ?_|refine b6 rfl ?_|refine r2Y ?_|fail)
  have e:bJ [AV.int .i64 c,wv,.int .i64 rk] 2 [.int .i64 ((eD E' c).length:Int)]=[.int .i64 c,wv,.int .i64 ((eD E' c).length:Int)]:=rfl;refine⟨by omega,λx hx hxb=>?_,.inr ⟨heq,rfl,wv,?_,.inr (h4.same λx hx=>?_),λx hx=>⟨(h5 x hx).1,(h5 x hx).2.1⟩⟩⟩
  ·rw[ac hxb,ac hxb];exact h6 x hx
  ·rw[ah,e]
  ·rw[ac (bne x hx),ac (bne x hx)]
end
end Go.Proofs.YtekdaafnjdlenaaGreat
