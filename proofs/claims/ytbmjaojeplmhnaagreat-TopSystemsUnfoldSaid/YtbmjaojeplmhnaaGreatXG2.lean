/- Contracts of functions and plain laws, for all inputs that the theorems name. -/
import Derived.Test.YtbmjaojeplmhnaaGreatXG1
import Derived.RangeFuncLeaves
import Derived.RangeFuncRecord
import Derived.RangeFuncNested
import Derived.Laws.IdiomStrings
import Derived.Laws.BytesArg

set_option linter.unusedSimpArgs false
set_option linter.unusedVariables false
set_option maxHeartbeats 4000000
namespace Go.Abs
open Go.RowKit
def Hk:Op->Bool
 |.move _|.assign _=>true
 |_=>false
theorem CI{op:Op}(h:Hk op=true):opk op=.pure:=by
 cases op<;>first|(cases h;done)|rfl
structure VP(vp:Op->Bool):Prop where
 pure:∀op,vp op=true->opk op=.pure
 mov:∀op,Hk op=true->vp op=true
def kd(vp:Op->Bool)(P:Program)(op:Op)(T:Tm)(H:Hp)(nx:Nat)(K:AV->Hp->Nat->Prop):Prop:=
 if vp op=true then ax (dF P T H op) λr=>K r H nx else tA P .text op T H nx K
def pD(vp:Op->Bool)(P:Program)(n:Nat)(dsts:List (Option Nat))(o:Oper)(T:Tm)(H:Hp)(nx:Nat)(K:SP):Prop:=
 aM (dok n o.dst) (aS (gval T dsts o.guard) (kd vp P o.op T H nx λr H' nx'=>K (aO T o.dst r) H' nx') (K (aO T o.dst (.tup [])) H nx))
def np(vp:Op->Bool)(P:Program)(n:Nat)(dsts:List (Option Nat)):List Oper->Tm->Hp->Nat->SP->Prop
 |[],T,H,nx,K=>K T H nx
 |o::l,T,H,nx,K=>pD vp P n dsts o T H nx λT H nx=>np vp P n dsts l T H nx K
theorem dJ{α:Type}{x:Option α}{K:α->Prop}(h:ax x K):∃a,x=some a/\K a:=by
 cases x with
 |none=>exact h.elim
 |some a=>exact⟨a,rfl,h⟩
theorem Ao{op:Op}(h:opk op=.pure):opc op=.val:=by
 unfold opc;split
 ·simp[opk] at h
 ·rw[h]
theorem B1{vp:Op->Bool}(hv:VP vp){P:Program}{op:Op}{T:Tm}{H:Hp}{nx:Nat}{K:AV->Hp->Nat->Prop}(h:kd vp P op T H nx K):tA P .text op T H nx K:=by
 unfold kd at h;split at h
 ·rename_i hp;left;unfold l8;rw[Ao (hv.pure _ hp)];exact⟨rfl,h⟩
 ·exact h
theorem Bj{vp:Op->Bool}(hv:VP vp){P:Program}{n:Nat}{dsts:List (Option Nat)}{o:Oper}{T:Tm}{H:Hp}{nx:Nat}{K:SP}(h:pD vp P n dsts o T H nx K):aop P n .text dsts o T H nx K:=by
 refine⟨h.1,?_⟩;have h:=h.2;cases hg:gval T dsts o.guard with
 |none=>rw[hg] at h;exact h.elim
 |some b=>
  rw[hg] at h;cases b with
  |true=>exact B1 hv h
  |false=>exact h
theorem qe{vp:Op->Bool}{P:Program}{op:Op}{T:Tm}{H:Hp}{nx:Nat}{K K':AV->Hp->Nat->Prop}(h:kd vp P op T H nx K)(hK:∀r H nx,K r H nx->K' r H nx):kd vp P op T H nx K':=by
 unfold kd at h |-;split
 ·rename_i hp;rw[if_pos hp] at h;obtain⟨a,ha,hk⟩:=dJ h;rw[ha];exact hK _ _ _ hk
 ·rename_i hp;rw[if_neg hp] at h;exact ky h hK
theorem sg{vp:Op->Bool}{P:Program}{n:Nat}{dsts:List (Option Nat)}{o:Oper}{T:Tm}{H:Hp}{nx:Nat}{K K':SP}(h:pD vp P n dsts o T H nx K)(hK:∀r H nx,K (aO T o.dst r) H nx->K' (aO T o.dst r) H nx):pD vp P n dsts o T H nx K':=by
 refine⟨h.1,?_⟩;have h:=h.2;cases hg:gval T dsts o.guard with
 |none=>rw[hg] at h;exact h.elim
 |some b=>
  rw[hg] at h;cases b with
  |true=>exact qe (K:=λr H' nx'=>K (aO T o.dst r) H' nx') h (λr H nx=>hK r H nx)
  |false=>exact hK _ _ _ h
theorem vT{vp:Op->Bool}{P:Program}{n:Nat}{dsts:List (Option Nat)}{K K':SP}(hK:∀T H nx,K T H nx->K' T H nx):∀(l:List Oper){T:Tm}{H:Hp}{nx:Nat},np vp P n dsts l T H nx K->np vp P n dsts l T H nx K'
 |[],_,_,_,h=>hK _ _ _ h
 |o::l,_,_,_,h=>sg h (λ_ _ _=>vT hK l)
def lz(ops:List Oper)(o:Oper)(T T':Tm):Prop:=∀t,t∈o.looksAt ops.toArray->T t=T' t
theorem lz.ev{ops:List Oper}{o:Oper}{T T':Tm}(h:lz ops o T T'):∀x∈o.op.operands,ev T x=ev T' x:=by
 intro x hx;refine Bh λt e=>?_;subst e;refine h t ?_;unfold Oper.looksAt;exact rm _ (List.mem_filterMap.2 ⟨.tmp t,by simpa using hx,rfl⟩)
theorem lz.gval{ops:List Oper}{o:Oper}{T T':Tm}(h:lz ops o T T'):gval T (ops.map (·.dst)) o.guard=gval T' (ops.map (·.dst)) o.guard:=by
 unfold Go.Abs.gval;cases hg:o.guard with
 |none=>rfl
 |some p=>
  obtain⟨j,want⟩:=p;simp only;cases hd:(ops.map (·.dst))[j]? with
  |none=>rfl
  |some d=>
   cases d with
   |none=>rfl
   |some d=>
    have:T d=T' d:=by
     refine h d ?_;unfold Oper.looksAt;refine wz _ ?_;rw[hg];rw[ko] at hd;cases ho:ops[j]? with
     |none=>rw[ho] at hd;cases hd
     |some o'=>rw[ho] at hd;simp at hd;simp[hd,ho]
    simp only[this]
theorem lz.upd{ops:List Oper}{o:Oper}{T:Tm}{d:Option Nat}{v:AV}(h:∀t,d=some t->t∉o.looksAt ops.toArray):lz ops o T (aO T d v):=by
 intro t ht;cases d with
 |none=>rfl
 |some d=>
  have:t≠d:=λe=>h d rfl (by rw[<-e];exact ht);simp[aO,Go.Abs.upd,this]
theorem sT{P:Program}{op:Op}{T T':Tm}{H:Hp}{nx:Nat}{K:AV->Hp->Nat->Prop}(he:∀x∈op.operands,ev T x=ev T' x)(h:l8 P .text op T H nx K):l8 P .text op T' H nx K:=by
 unfold l8 at h |-;generalize opc op=k at h |-;cases k with
 |val=>
  have h:aM (uz .text T op) (ax (dF P T H op) λr=>K r H nx):=h;show aM (uz .text T' op) (ax (dF P T' H op) λr=>K r H nx);rw[<-jq he];exact h
 |eff=>
  have h:aM (uz .text T op) (ax (il P T H nx op) λx=>K x.1 x.2.1 x.2.2):=h;show aM (uz .text T' op) (ax (il P T' H nx op) λx=>K x.1 x.2.1 x.2.2);rw[<-pZ he];exact h
 |call=>
  have h:ax (nN op) λx=>ax (qG (ev T x.1)) λy=>Fn P y.1 (x.2.toList.map (ev T)++y.2) H nx K:=h;show ax (nN op) λx=>ax (qG (ev T' x.1)) λy=>Fn P y.1 (x.2.toList.map (ev T')++y.2) H nx K;obtain⟨x,hx,h⟩:=dJ h;rw[hx];obtain⟨f,args⟩:=x;obtain⟨ts,rfl⟩:=oY hx;simp only[Op.operands,Call.operands] at he;have e1:ev T f=ev T' f:=he f (yT.2 (.inl (by simp)));have e2:args.toList.map (ev T)=args.toList.map (ev T'):=pz λx hm=>he x (yT.2 (.inr (by simpa using hm)));show ax (qG (ev T' f)) λy=>Fn P y.1 (args.toList.map (ev T')++y.2) H nx K;rw[<-e1,<-e2];exact h
 |other=>exact h.elim
theorem tc{P:Program}{op:Op}{T T':Tm}{H:Hp}{nx:Nat}{K:AV->Hp->Nat->Prop}(he:∀x∈op.operands,ev T x=ev T' x)(h:eY P op T H nx K):eY P op T' H nx K:=
 ⟨h.1,λrr E w a o next Q ho hE hh hf ht hn=>h.2 rr E w a o next Q ho hE hh hf (λx hx=>by rw[he x hx];exact ht x hx) hn⟩
theorem A6{vp:Op->Bool}{P:Program}{op:Op}{T T':Tm}{H:Hp}{nx:Nat}{K:AV->Hp->Nat->Prop}(he:∀x∈op.operands,ev T x=ev T' x)(h:kd vp P op T H nx K):kd vp P op T' H nx K:=by
 unfold kd at h |-;split
 ·rename_i hp;rw[if_pos hp] at h;rw[<-jq he];exact h
 ·rename_i hp;rw[if_neg hp] at h;rcases h with h|h
  ·exact .inl (sT he h)
  ·exact .inr ⟨h.1,tc he h.2⟩
theorem xO{T:Tm}{d e:Option Nat}{v r:AV}(h:∀t,d=some t->e≠some t):aO (aO T e r) d v=aO (aO T d v) e r:=by
 cases d with
 |none=>rfl
 |some d=>
  cases e with
  |none=>rfl
  |some e=>
   have hne:d≠e:=λhh=>h d rfl (by rw[hh])
   funext t
   simp only[aO,Go.Abs.upd];by_cases h1:t=d
   ·subst h1;rw[if_pos rfl,if_neg hne,if_pos rfl]
   ·rw[if_neg h1,if_neg h1]
structure Free(vp:Op->Bool)(ops:List Oper)(x o:Oper):Prop where
 d:∀t,o.dst=some t->x.dst≠some t
 l1:∀t,o.dst=some t->t∉x.looksAt ops.toArray
 l2:∀t,x.dst=some t->t∉o.looksAt ops.toArray
 k:vp x.op=true
def Ce(P:Program)(dsts:List (Option Nat))(o:Oper)(T:Tm)(H:Hp):Option AV:=match gval T dsts o.guard with
 |some true=>dF P T H o.op
 |some false=>some (.tup [])
 |none=>none
theorem FO{vp:Op->Bool}{P:Program}{n:Nat}{dsts:List (Option Nat)}{o:Oper}{T:Tm}{H:Hp}{nx:Nat}{K:SP}(hp:vp o.op=true)(h:pD vp P n dsts o T H nx K):∃v,Ce P dsts o T H=some v/\K (aO T o.dst v) H nx:=by
 obtain⟨_,h⟩:=h;unfold Ce;cases hg:gval T dsts o.guard with
 |none=>rw[hg] at h;exact h.elim
 |some b=>
  rw[hg] at h;cases b with
  |true=>
   have h:kd vp P o.op T H nx λr H' nx'=>K (aO T o.dst r) H' nx':=h;unfold kd at h;rw[if_pos hp] at h;exact dJ h
  |false=>exact⟨_,rfl,h⟩
theorem zs{vp:Op->Bool}{P:Program}{n:Nat}{dsts:List (Option Nat)}{o:Oper}{T:Tm}{H:Hp}{nx:Nat}{K:SP}(hp:vp o.op=true)(hd:dok n o.dst=true){v:AV}(hv:Ce P dsts o T H=some v)(hk:K (aO T o.dst v) H nx):pD vp P n dsts o T H nx K:=by
 refine⟨hd,?_⟩;unfold Ce at hv;cases hg:gval T dsts o.guard with
 |none=>rw[hg] at hv;cases hv
 |some b=>
  rw[hg] at hv;cases b with
  |true=>
   show kd vp P o.op T H nx _;unfold kd;rw[if_pos hp];have hv:dF P T H o.op=some v:=hv;rw[hv];exact hk
  |false=>cases hv;exact hk
theorem Bz{P:Program}{ops:List Oper}{o:Oper}{T T':Tm}{H H':Hp}(hp:opk o.op=.pure)(ha:lz ops o T T'):Ce P (ops.map (·.dst)) o T H=Ce P (ops.map (·.dst)) o T' H':=by
 unfold Ce;rw[ha.gval];cases gval T' (ops.map (·.dst)) o.guard with
 |none=>rfl
 |some b=>
  cases b with
  |true=>simp only;rw[jq ha.ev,rH hp]
  |false=>rfl
theorem Qc{vp:Op->Bool}(hvp:VP vp){P:Program}{n:Nat}{ops:List Oper}{x o:Oper}{T:Tm}{H:Hp}{nx:Nat}{K:SP}(hf:Free vp ops x o)
    (h:pD vp P n (ops.map (·.dst)) x T H nx λT1 H1 nx1=>pD vp P n (ops.map (·.dst)) o T1 H1 nx1 K):pD vp P n (ops.map (·.dst)) o T H nx λT1 H1 nx1=>pD vp P n (ops.map (·.dst)) x T1 H1 nx1 K:=by
 have hpk:=hvp.pure _ hf.k;have hdx:=h.1;obtain⟨r,hr,h⟩:=FO hf.k h;have ha:lz ops o T (aO T x.dst r):=lz.upd hf.l2
 have hx:∀(q:AV)(H1:Hp)(nx1:Nat),K (aO (aO T x.dst r) o.dst q) H1 nx1->pD vp P n (ops.map (·.dst)) x (aO T o.dst q) H1 nx1 K:=by
  intro q H1 nx1 hk;refine zs hf.k hdx (v:=r) ?_ ?_
  ·rw[<-hr];exact(Bz hpk (lz.upd hf.l1)).symm
  ·rw[<-xO hf.d];exact hk
 obtain⟨hdo,h⟩:=h;refine⟨hdo,?_⟩;rw[ha.gval];cases hg:gval (aO T x.dst r) (ops.map (·.dst)) o.guard with
 |none=>rw[hg] at h;exact h.elim
 |some b=>
  rw[hg] at h;cases b with
  |true=>
   have h:kd vp P o.op (aO T x.dst r) H nx λq H' nx'=>K (aO (aO T x.dst r) o.dst q) H' nx':=h;exact qe (A6 (λy hy=>(ha.ev y hy).symm) h) (λq H' nx' hk=>hx q H' nx' hk)
  |false=>exact hx _ _ _ h
theorem Ll{vp:Op->Bool}(hvp:VP vp){P:Program}{n:Nat}{ops:List Oper}{o:Oper}{l2:List Oper}{K:SP}:∀(l1:List Oper){T:Tm}{H:Hp}{nx:Nat},(∀x∈l1,Free vp ops x o)->
    np vp P n (ops.map (·.dst)) (l1++o::l2) T H nx K->pD vp P n (ops.map (·.dst)) o T H nx λT H nx=>np vp P n (ops.map (·.dst)) (l1++l2) T H nx K
 |[],_,_,_,_,h=>h
 |x::l1,T,H,nx,hf,h=>by
  have h:pD vp P n (ops.map (·.dst)) x T H nx λT H nx=>np vp P n (ops.map (·.dst)) (l1++o::l2) T H nx K:=h
  have h:pD vp P n (ops.map (·.dst)) x T H nx λT H nx=>pD vp P n (ops.map (·.dst)) o T H nx λT H nx=>np vp P n (ops.map (·.dst)) (l1++l2) T H nx K:=
   sg h (λr H1 nx1 h=>Ll hvp l1 (λy hy=>hf y (by simp[hy])) h)
  exact Qc hvp (hf x (by simp)) h
def HQ(vp:Op->Bool)(ops:List Oper)(x o:Oper):Bool:=
 (match o.dst with|some t=>x.dst !=some t&& !(x.looksAt ops.toArray).contains t|none=>true)&&
 (match x.dst with|some t=>!(o.looksAt ops.toArray).contains t|none=>true)&&vp x.op
theorem HN{vp:Op->Bool}{ops:List Oper}{x o:Oper}(h:HQ vp ops x o=true):Free vp ops x o:=by
 unfold HQ at h;simp only[eL] at h;obtain⟨⟨h1,h2⟩,h3⟩:=h;refine⟨λt ht=>?_,λt ht=>?_,λt ht=>?_,h3⟩
 ·rw[ht] at h1;simp at h1;exact h1.1
 ·rw[ht] at h1;simp at h1;exact h1.2
 ·rw[ht] at h2;simp at h2;exact h2
def sj(r:Nat->Nat->Bool):List Nat->Bool
 |[]=>true
 |k::l=>l.all (r k)&&sj r l
theorem o9{r:Nat->Nat->Bool}:∀{l:List Nat},sj r l=true->l.Pairwise (λk i=>r k i=true)
 |[],_=>It
 |k::l,h=>by
  simp only[sj,eL,dQ] at h;exact List.Pairwise.cons h.1 (o9 h.2)
def zD(vp:Op->Bool)(n:Nat)(ops:List Oper)(C:List Nat):Bool:=
 let m:=Region.before ops.toArray
 let len:=ops.length
 ((List.range len).all λj=>(dM (ops.getD j default)).all λk=>k<j)&&
 ((List.range len).all λj=>(List.range len).all λi=>!dS m j i || (dM (ops.getD j default)).any λk=>k==i || dS m k i)&&
 (sj (λk i=>k !=i&&((ops.getD i default).dst.isNone || (ops.getD i default).dst !=(ops.getD k default).dst)&&(dS m i k || HQ vp ops (ops.getD k default) (ops.getD i default))) C)&&
 ((List.range len).all λi=>C.contains i)&&(C.all λi=>i<len)&&((List.range len).all λi=>dok n (ops.getD i default).dst)
structure MixOk(vp:Op->Bool)(n:Nat)(ops:List Oper)(C:List Nat):Prop where
 dir:∀(j:Nat)(o:Oper),ops[j]?=some o->∀k∈dM o,k<j
 clo:∀(j:Nat)(o:Oper)(i:Nat),ops[j]?=some o->i<ops.length->dS (Region.before ops.toArray) j i=true->∃k∈dM o,k=i\/dS (Region.before ops.toArray) k i=true
 pw:C.Pairwise (λk i=>k≠i/\(∀t,(ops.getD i default).dst=some t->(ops.getD k default).dst≠some t)/\(dS (Region.before ops.toArray) i k=true\/Free vp ops (ops.getD k default) (ops.getD i default)))
 all:∀i,i<ops.length->i∈C
 lt:∀i∈C,i<ops.length
 dk:∀(i:Nat)(o:Oper),ops[i]?=some o->dok n o.dst=true
theorem Bc{vp:Op->Bool}{n:Nat}{ops:List Oper}{C:List Nat}(h:zD vp n ops C=true):MixOk vp n ops C:=by
 simp only[zD,eL,dQ,eM,gq] at h;obtain⟨⟨⟨⟨⟨h1,h2⟩,h3⟩,h4⟩,h5⟩,h6⟩:=h;have hlt:=λ{k:Nat}{o:Oper}(hk:ops[k]?=some o)=>(bH.1 hk).1;refine⟨λj o ho k hk=>?_,λj o i ho hi hb=>?_,(o9 h3).imp (λ{k i} h=>?_),λi hi=>by simpa using h4 i hi,h5,λi o ho=>?_⟩
 ·have:=h1 j (hlt ho) k;rw[cX ho] at this;exact this hk
 ·have:=h2 j (hlt ho) i hi;rw[cX ho,hb] at this;simp only[Bool.not_true,Bool.false_or,qS,lU,beq_iff_eq] at this;exact this
 ·simp only[eL,lU] at h;obtain⟨⟨h7,h8⟩,h9⟩:=h;refine⟨by simpa using h7,λt ht=>?_,h9.imp id HN⟩;rw[ht] at h8;simp at h8;exact λe=>h8 e.symm
 ·have:=h6 i (hlt ho);rw[cX ho] at this;exact this
def de(C:List Nat)(L:Array Bool):List Nat:=C.filter λk=>!L.getD k false
structure MInv(vp:Op->Bool)(P:Program)(N:Cfg)(ops:List Oper)(C:List Nat)(K:SP)(E₀:Env)(w₀:World)(L:Array Bool)(a:Act)(w:World)(E:Env)(T:Tm)(H:Hp)(nx:Nat):Prop where
 lsz:L.size=ops.length
 dc:∀j i,L.getD j false=true->dS (Region.before ops.toArray) j i=true->i<ops.length->L.getD i false=true
 ext:Ext E₀ w₀ E w
 sim:Sim E N ⟨T,H,nx⟩ a w
 rest:np vp P N.n (ops.map (·.dst)) ((de C L).map λk=>ops.getD k default) T H nx K
variable{vp:Op->Bool}{P:Program}{N:Cfg}{ops:List Oper}{C:List Nat}{K:SP}{E₀:Env}{w₀:World}{L:Array Bool}{a:Act}{w:World}{E:Env}{T:Tm}{H:Hp}{nx:Nat}
theorem Ca(hC:C.Pairwise (λk i=>k≠i/\(∀t,(ops.getD i default).dst=some t->(ops.getD k default).dst≠some t)/\(dS (Region.before ops.toArray) i k=true\/Free vp ops (ops.getD k default) (ops.getD i default))))
    {i:Nat} (hi:i∈de C L) (hil:i<L.size):∃l1 l2,de C L=l1++i::l2/\de C (L.setIfInBounds i true)=l1++l2/\
     (∀k∈l1,dS (Region.before ops.toArray) i k=true\/Free vp ops (ops.getD k default) (ops.getD i default))/\(∀k∈l1++l2,∀t,(ops.getD k default).dst=some t->(ops.getD i default).dst≠some t):=by
 obtain⟨l1,l2,e⟩:=List.append_of_mem hi;have hp:(de C L).Pairwise _:=hC.filter _;rw[e] at hp;obtain⟨p1,p2,p3⟩:=List.pairwise_append.1 hp;obtain⟨p4,p5⟩:=BM.1 p2;refine⟨l1,l2,e,?_,λk hk=>(p3 k hk i (by simp)).2.2,λk hk t ht he=>?_⟩
 ·have e2:de C (L.setIfInBounds i true)=(de C L).filter λk=>decide (k≠i):=by
    unfold de;rw[List.filter_filter];refine List.filter_congr (λk _=>?_);rw[ed L i k hil];by_cases h:k=i<;>simp[h]
  rw[e2,e,EG,List.filter_cons];have n1:l1.filter (λk=>decide (k≠i))=l1:=Ac.2 (λk hk=>bR (p3 k hk i (by simp)).1);have n2:l2.filter (λk=>decide (k≠i))=l2:=Ac.2 (λk hk=>bR (λh=>(p4 k hk).1 h.symm));rw[n1,n2];simp
 ·rcases oh.1 hk with h|h
  ·exact(p3 k h i (by simp)).2.1 t he ht
  ·exact(p4 k h).2.1 t ht he
theorem MInv.bits(hI:MInv vp P N ops C K E₀ w₀ L a w E T H nx)(hok:MixOk vp N.n ops C){i:Nat}{o:Oper}(hr:Ready ops L i o){k:Nat}(hk:k<ops.length)(hb:dS (Region.before ops.toArray) i k=true):L.getD k false=true:=by
 obtain⟨q,hq,h⟩:=hok.clo i o k hr.get hk hb;rcases h with rfl|h
 ·exact hr.dir _ hq
 ·exact hI.dc q k (hr.dir _ hq) h hk
theorem MInv.step(hvp:VP vp){rr:Option Nat}{Q:Exit->Act->World->Prop}{K':Act->World->Prop}(hI:MInv vp P N ops C K E₀ w₀ L a w E T H nx)(hok:MixOk vp N.n ops C){i:Nat}{o:Oper}(hr:Ready ops L i o)
    (hK:∀a' w' E' T' H' nx',MInv vp P N ops C K E₀ w₀ (L.setIfInBounds i true) a' w' E' T' H' nx'->K' a' w'):wpOpIn (FW rr) 0 P ops.toArray Q i K' a w:=by
 have hi:i<ops.length:=(bH.1 hr.get).1;have hgeti:(ops.toArray)[i]?=some o:=by simpa using hr.get
 unfold wpOpIn;rw[hgeti];simp only;have hmem:i∈de C L:=ik.2 ⟨hok.all i hi,by rw[hr.not];rfl⟩;obtain⟨l1,l2,e1,e2,f1,f2⟩:=Ca hok.pw hmem (by rw[hI.lsz];exact hi);have hgo:ops.getD i default=o:=cX hr.get
 have hfree:∀k∈l1,Free vp ops (ops.getD k default) o:=by
  intro k hk;rcases f1 k hk with h|h
  ·have hkC:k∈de C L:=by rw[e1];simp[hk]
   obtain⟨h1,h2⟩:=ik.1 hkC;have:=hI.bits hok hr (hok.lt k h1) h;rw[this] at h2;cases h2
  ·rw[hgo] at h;exact h
 have hrest:=hI.rest;rw[e1,dp,f9,hgo] at hrest
 have hpull:=Ll hvp (l1.map fun k=>ops.getD k default) (fun x hx=>by
  obtain⟨k,hk,rfl⟩:=cE.1 hx;exact hfree k hk) hrest
 have hpull2:pD vp P N.n (ops.map (·.dst)) o T H nx λT' H' nx'=>np vp P N.n (ops.map (·.dst)) ((l1++l2).map λk=>ops.getD k default) T' H' nx' K:=
  sg hpull (λr H1 nx1 h=>by rw[dp];exact h)
 have hset:=λk=>ed L i k (by rw[hI.lsz];exact hi);have hs:=jE (rr:=rr) (ops:=ops.toArray) (Q:=Q) (next:=K') hI.sim (Bj hvp hpull2) (λE' T' H' nx' a' w' he hS hk=>?_)
 ·exact hs
 ·refine hK a' w' E' T' H' nx' ⟨by simp[hI.lsz],?_,hI.ext.trans he,hS,by rw[e2];exact hk⟩;intro j k hj hb hkl;rw[hset] at hj |-;by_cases hki:k=i
  ·rw[if_pos hki]
  ·rw[if_neg hki];by_cases hji:j=i
   ·subst hji;exact hI.bits hok hr hkl hb
   ·rw[if_neg hji] at hj;exact hI.dc j k hj hb hkl
theorem MInv.some_ready(hI:MInv vp P N ops C K E₀ w₀ L a w E T H nx)(hok:MixOk vp N.n ops C)(h:Region.ready .any ops.toArray L=[]):∀k,k<ops.length->L.getD k false=true:=by
 rcases fc L ops.length with h1|⟨k,hk,hn,hall⟩
 ·exact h1
 ·exfalso;obtain⟨o,ho⟩:=dh hk
  have:k∈Region.ready .any ops.toArray L:=by
   refine mem_ready.2 ⟨?_,o,by simpa using ho,λe he hb=>hall _ ?_⟩
   ·have:k<L.size:=by rw[hI.lsz];exact hk
    simp[this] at hn |-;exact hn
   ·refine hok.dir k o ho e.on ?_;simp only[dM,cE,ik];exact⟨e,⟨by simpa using he,hb⟩,rfl⟩
  rw[h] at this;cases this
theorem MInv.final(hI:MInv vp P N ops C K E₀ w₀ L a w E T H nx)(hok:MixOk vp N.n ops C)(hall:∀k,k<ops.length->L.getD k false=true):K T H nx:=by
 have:de C L=[]:=List.filter_eq_nil_iff.2 (λk hk=>by simp[hall k (hok.lt k hk)]);have h:=hI.rest;rw[this] at h;exact h
theorem C6(hvp:VP vp){rr:Option Nat}{Q:Exit->Act->World->Prop}(hok:MixOk vp N.n ops C)(hQ:∀E' T' H' nx' a' w',Ext E₀ w₀ E' w'->Sim E' N ⟨T',H',nx'⟩ a' w'->K T' H' nx'->Q .normal a' w'):
    ∀(fuel:Nat)(L:Array Bool)(a:Act)(w:World)(E:Env)(T:Tm)(H:Hp)(nx:Nat),MInv vp P N ops C K E₀ w₀ L a w E T H nx->left ops.length L<=fuel->wpAnyIn (FW rr) 0 P .any ops.toArray Q fuel L a w
 |0,L,a,w,E,T,H,nx,hI,hl=>by
  have hall:∀k,k<ops.length->L.getD k false=true:=by
   rcases fc L ops.length with h1|⟨k,hk,hn,hall⟩
   ·exact h1
   ·exfalso;have:left ops.length (L.setIfInBounds k true)<left ops.length L:=iz L k _ hk hI.lsz hn;omega
  have hr:Region.ready .any ops.toArray L=[]:=by
   refine Iy.2 (λi hi=>?_);obtain⟨o,ho⟩:=iG hI.lsz hi;have:=hall i (bH.1 ho.get).1;rw[ho.not] at this;cases this
  exact⟨hr,hQ E T H nx a w hI.ext hI.sim (hI.final hok hall)⟩
 |fuel+1,L,a,w,E,T,H,nx,hI,hl=>by
  refine⟨λhr=>hQ E T H nx a w hI.ext hI.sim (hI.final hok (hI.some_ready hok hr)),λi hi=>?_⟩;obtain⟨o,ho⟩:=iG hI.lsz hi;refine hI.step hvp hok ho (λa' w' E' T' H' nx' hI'=>C6 hvp hok hQ fuel _ a' w' E' T' H' nx' hI' ?_);have:=iz L i ops.length (bH.1 ho.get).1 hI.lsz ho.not;omega
theorem ML{rr:Option Nat}{Q:Exit->Act->World->Prop}{rid:Nat}(hm:P.follows .mixedOrders=true)(hvp:VP vp)(hok:zD vp N.n ops C=true)(hS:Sim E₀ N ⟨T,H,nx⟩ a w₀)
    (h:np vp P N.n (ops.map (·.dst)) (C.map λk=>ops.getD k default) T H nx K)
    (hQ:∀E' T' H' nx' a' w',Ext E₀ w₀ E' w'->Sim E' N ⟨T',H',nx'⟩ a' w'->K T' H' nx'->Q .normal a' w'):(Code.region rid ops.toArray true).wpIn (FW rr) 0 P Q a w₀:=by
 refine wpIn_region_any hm ?_;have hdr:({w₀ with drawn:=w₀.drawn+1}:World).heap=w₀.heap:=rfl;have hext:Ext E₀ w₀ E₀ {w₀ with drawn:=w₀.drawn+1}:=Ext.same hdr;have hok:=Bc hok
 have hfalse:∀k,(Array.replicate ops.toArray.size false).getD k false=false:=by
  intro k;simp only[yX,Array.getElem?_replicate];split<;>rfl
 have hrest:de C (Array.replicate ops.toArray.size false)=C:=Ac.2 (λk _=>by rw[hfalse];rfl);refine C6 (C:=C) (K:=K) (E₀:=E₀) (w₀:=w₀) hvp hok hQ _ _ _ _ E₀ T H nx ⟨by simp,?_,hext,?_,by rw[hrest];exact h⟩ (by rw[List.size_toArray];unfold left;exact eK List.countP_le_length (by simp))
 ·intro j i h1;rw[hfalse] at h1;cases h1
 ·exact⟨hS.env.drew,hS.heap.same hdr,hS.fresh,hS.round,hS.floor,hS.size,λt=>(hS.tmps t).ext hext,hS.defers.ext hext⟩
end Go.Abs
namespace Go.Abs
open Go.RowKit
def Sub(S H:Hp):Prop:=∀b cs,S b=some cs->H b=some cs
theorem Jf{S H:Hp}(h:Sub S H){p x:AV}(hr:rd1 S p=some x):rd1 H p=some x:=by
 unfold rd1 at hr |-;split at hr
 ·rename_i b n off;cases hb:S b with
  |none=>rw[hb] at hr;cases hr
  |some cs=>rw[hb] at hr;simp only[h b cs hb];exact hr
 ·exact hr
 ·cases hr
theorem MX{S H:Hp}(h:Sub S H){k:Nat}{p:AV}{x:List AV}(hr:rd S k p=some x):rd H k p=some x:=by
 unfold rd at hr |-;split at hr
 ·rename_i b n off;cases hb:S b with
  |none=>rw[hb] at hr;cases hr
  |some cs=>rw[hb] at hr;simp only[h b cs hb];exact hr
 ·exact hr
 ·cases hr
theorem G8{P:Program}{T:Tm}{S H:Hp}(h:Sub S H){op:Op}(hl:kN op=true){r:AV}(hr:dF P T S op=some r):dF P T H op=some r:=by
 cases op<;>first|(cases hl;done)|skip
 simp only[dF] at hr |-;unfold lF at hr |-;split at hr
 ·split at hr
  ·split at hr
   ·rw[Option.map_eq_some_iff] at hr;obtain⟨x,hx,rfl⟩:=hr;rename_i h0 h1 h2;rw[if_pos h0,if_pos h1,if_pos h2,MX h hx];rfl
   ·cases hr
  ·rename_i h0 h1;rw[if_pos h0,if_neg h1];exact Jf h hr
 ·cases hr
def sv(vp:Op->Bool)(op:Op):Bool:=vp op || kN op
def j9:Op->Bool
 |.buildSlice ..=>true
 |_=>false
def rq:Option (AV×Hp×Nat)->Option AV
 |some (.msl 0 _ sz 0 len,H',_)=>match H' 0 with
  |some cs=>if sz=1 then(if len=cs.length/\len≠0/\cs.all AV.one=true then some (.sl 1 cs) else none)
   else if len=1/\cs.length=sz/\cs.all AV.one=true then some (.sl sz [.agg cs]) else none
  |none=>none
 |_=>none
def Ab(P:Program)(T:Tm)(op:Op):Option AV:=if j9 op=true then rq (il P T aP 0 op) else none
theorem sE{x:Option (AV×Hp×Nat)}{r:AV}(h:rq x=some r):∃n H' k cs sz len es,x=some (.msl 0 n sz 0 len,H',k)/\H' 0=some cs/\len≠0/\cs.all AV.one=true/\r=.sl sz es/\es.length=len/\es.length*sz=cs.length/\(∀y∈es,y.cells.length=sz)/\∀(i j:Nat)(x y:AV),es[i]?=some x->x.cells[j]?=some y->cs[i*sz+j]?=some y:=by
 unfold rq at h;split at h
 ·rename_i n sz len H' k;split at h
  ·rename_i cs hcs;split at h
   ·rename_i hs;subst hs;split at h
    ·rename_i hc;obtain⟨hl,h0,ho⟩:=hc;cases h
     have hone:∀y∈cs,y.cells=[y]:=λy hy=>by
      have:=dQ.1 ho y hy;cases y<;>first|rfl|(cases this;done)
     refine⟨n,H',k,cs,1,len,cs,rfl,hcs,h0,ho,rfl,hl.symm,Nat.mul_one _,λy hy=>by rw[hone y hy];rfl,λi j x y hx hy=>?_⟩;rw[hone x (ir hx)] at hy;cases j with
     |zero=>simp only[tG,mF] at hy;subst hy;rw[Nat.mul_one,uM];exact hx
     |succ j=>simp at hy
    ·cases h
   ·split at h
    ·rename_i hc;obtain⟨hl,h0,ho⟩:=hc;cases h;refine⟨n,H',k,cs,sz,len,[.agg cs],rfl,hcs,by omega,ho,rfl,hl.symm,by simp[h0],λy hy=>by rw[gH.1 hy];exact h0,λi j x y hx hy=>?_⟩;cases i with
     |zero=>simp only[tG,mF] at hx;subst hx;rw[nA,dt];exact hy
     |succ i=>simp at hx
    ·cases h
  ·cases h
 ·cases h
theorem BJ{P:Program}{op:Op}{T T':Tm}(he:∀x∈op.operands,ev T x=ev T' x):Ab P T op=Ab P T' op:=by
 unfold Ab;rw[pZ he]
theorem E9{op:Op}(h:j9 op=true):opk op=.alloc:=by
 cases op<;>first|(cases h;done)|rfl
theorem yR{E:Env}{w:World}{n L s blk sz:Nat}{v:Value}(hL:L≠0)(h:Rel {E with mu:=λ_ _=>some (blk,sz)} w (.msl 0 n s 0 L) v):∃cap,v=.slice (some ⟨blk,0,none⟩) L cap/\L<=cap:=by
 cases h with
 |msl b n sz off len blk bsz cap hm hl hc hn=>
  simp only[mF,Prod.mk.injEq] at hm;obtain⟨rfl,rfl⟩:=hm;exact⟨cap,rfl,hl⟩
 |msl0 b sz v h=>exact absurd rfl hL
theorem Fq{P:Program}{op:Op}{T:Tm}{H:Hp}{nx:Nat}{K:AV->Hp->Nat->Prop}{r:AV}(h:Ab P T op=some r)(hk:K r H nx):eY P op T H nx K:=by
 unfold Ab at h;split at h
 case isFalse=>cases h
 case isTrue hb=>
 obtain⟨n,H1,k,cs,sz,len,es,h1,h2,h0,h3,rfl,e1,e2,e3,e4⟩:=sE h;refine⟨λc hc=>(by rw[hc] at hb;cases hb),?_⟩;rintro rr E w a o next Q ho hE hh hf ht hn;have h1':il P T aP 0 o.op=some (.msl 0 n sz 0 len,H1,k):=by rw[ho];exact h1
 obtain⟨s,hs,hrun⟩:=v6 (E:=E) (w:=w) (a:=a) (E9 (by rw[ho];exact hb)) (by rw[ho];exact ht) h1';unfold x5 at hrun;rcases hrun with hrun|⟨cells,vals,ty,v,hH,_,hrun,hlen,hrel,hv⟩
 ·rw[hrun.2.1] at h2;cases h2
 rw[hH] at h2;have h2:cells=cs:=by simpa[av] using h2
 subst h2;obtain⟨cap,rfl,hcap⟩:=yR h0 (hv {E with mu:=λ_ _=>some (w.heap.size,vals.size)} w rfl);have hbw:Below w.heap.size w (w.alloc (.cells vals ty)):=(Below.refl _ _).alloc (bc _) _
 have hnew:(w.alloc (.cells vals ty)).heap[w.heap.size]?=some (.cells vals ty (0,0)):=by
  show(w.heap.push (.cells vals ty))[w.heap.size]?=_;simp
 have hsz:(w.alloc (.cells vals ty)).heap.size=w.heap.size+1:=by
  show(w.heap.push (.cells vals ty)).size=_;simp
 have he:Ext E w {E with imm:=λb=>E.imm b\/b=w.heap.size} (w.alloc (.cells vals ty)):=
  ⟨rfl,rfl,λ_ h=>.inl h,λb h=>h.imp id (λh=>by rw[h];exact hh.size),λ_ _ _ h=>h,λ_ _ h=>h,λ_ _ h=>h,λb h=>⟨h,hbw.block b (hE.dlt h)⟩,hbw.size,λb h=>hbw.block b (hE.lt b h),bc _⟩
 have hE':EnvOk {E with imm:=λb=>E.imm b\/b=w.heap.size} (w.alloc (.cells vals ty)):=
  hE.step he (λb h=>h.imp id (λh=>by rw[hsz,h];omega)) (λk hk=>hk.imp id (λhge b hb'=>by have:=hE.splt hb';omega)) (hbw.mono hh.size) (Below.still hbw) rfl rfl rfl (λ_ _ _ _=>rfl)
 have hh':=hh.below he hbw rfl (λb h=>h.imp id (λh=>by rw[h];omega)) rfl;rw[hs];simp only[bA,hrun,bu,eG];rw[Oper.uponIn_value];refine hn _ H nx (.sl sz es) _ _ he hE' hh' (hf.of (bc _) (λ_ _ _=>rfl) rfl rfl) ?_ hk;rw[<-e1] at hcap |-;refine .sl sz es w.heap.size 0 cap (λi=>vals.getD i Go.undef) (.inr rfl) hcap e3 (λi hi=>?_) (λi j x y hx hy=>?_)
 ·rw[dt];refine cell?_of_heap hnew ?_;have:i<vals.size:=by omega
  simp[Array.getD,this]
 ·obtain⟨v',h5,_,h6⟩:=hrel _ y (e4 i j x y hx hy);have:i*sz+j<vals.size:=(kT.1 h5).1
  have e:vals.getD (i*sz+j) Go.undef=v':=by
   rw[Cf this] at h5;cases h5;simp[Array.getD,this]
  rw[e];exact h6.ext he
def tF:Op->Bool
 |.lookup ..=>true
 |_=>false
structure BP where
 b:Op->Bool
 l:Bool
 lv:Op->Tm->Hp->Option AV
 cg:∀{op:Op}{T T':Tm}{S:Hp},(∀x∈op.operands,ev T x=ev T' x)->lv op T S=lv op T' S
def uV(P:Program)(bp:BP):Prop:=bp.l=true->∀{op:Op}{T:Tm}{S H:Hp}{nx:Nat}{K:AV->Hp->Nat->Prop}{r:AV},tF op=true->bp.lv op T S=some r->Sub S H->K r H nx->eY P op T H nx K
def yW(bp:BP)(op:Op):Bool:=kN op || (bp.l&&tF op)
def nv(vp:Op->Bool)(bp:BP)(op:Op):Bool:=sv vp op || (bp.b op&&j9 op) || (bp.l&&tF op)
def tp(P:Program)(bp:BP)(T:Tm)(S:Hp)(op:Op):Option AV:=if (bp.b op&&j9 op)=true then Ab P T op else if (bp.l&&tF op)=true then bp.lv op T S else dF P T S op
theorem ur{P:Program}{bp:BP}{op:Op}{T T':Tm}{S:Hp}(he:∀x∈op.operands,ev T x=ev T' x):tp P bp T S op=tp P bp T' S op:=by
 unfold tp;rw[BJ he,jq he,bp.cg he]
def gX(vp:Op->Bool)(bp:BP)(P:Program)(S:Hp)(op:Op)(keep:Bool)(T:Tm)(H:Hp)(nx:Nat)(K:AV->Hp->Nat->Prop):Prop:=
 if nv vp bp op=true then ax (tp P bp T S op) λr=>K r H nx else tA P .text op T H nx λr H' nx'=>(keep=true->Sub S H')/\K r H' nx'
def kU(vp:Op->Bool)(bp:BP)(P:Program)(n:Nat)(dsts:List (Option Nat))(S:Hp)(o:Oper×Bool)(T:Tm)(H:Hp)(nx:Nat)(K:SP):Prop:=
 aM (dok n o.1.dst) (aS (gval T dsts o.1.guard) (gX vp bp P S o.1.op o.2 T H nx λr H' nx'=>K (aO T o.1.dst r) H' nx') (K (aO T o.1.dst (.tup [])) H nx))
def i9(vp:Op->Bool)(bp:BP)(P:Program)(n:Nat)(dsts:List (Option Nat))(S:Hp):List (Oper×Bool)->Tm->Hp->Nat->SP->Prop
 |[],T,H,nx,K=>K T H nx
 |o::l,T,H,nx,K=>kU vp bp P n dsts S o T H nx λT H nx=>i9 vp bp P n dsts S l T H nx K
theorem uw{vp:Op->Bool}{bp:BP}{P:Program}{S:Hp}{op:Op}{keep:Bool}{T:Tm}{H:Hp}{nx:Nat}{K K':AV->Hp->Nat->Prop}(h:gX vp bp P S op keep T H nx K)(hK:∀r H nx,K r H nx->K' r H nx):gX vp bp P S op keep T H nx K':=by
 unfold gX at h |-;split
 ·rename_i hp;rw[if_pos hp] at h;obtain⟨a,ha,hk⟩:=dJ h;rw[ha];exact hK _ _ _ hk
 ·rename_i hp;rw[if_neg hp] at h;exact ky h (λr H nx hh=>⟨hh.1,hK _ _ _ hh.2⟩)
theorem gp{vp:Op->Bool}{bp:BP}{P:Program}{n:Nat}{dsts:List (Option Nat)}{S:Hp}{o:Oper×Bool}{T:Tm}{H:Hp}{nx:Nat}{K K':SP}(h:kU vp bp P n dsts S o T H nx K)(hK:∀r H nx,K (aO T o.1.dst r) H nx->K' (aO T o.1.dst r) H nx):kU vp bp P n dsts S o T H nx K':=by
 refine⟨h.1,?_⟩;have h:=h.2;cases hg:gval T dsts o.1.guard with
 |none=>rw[hg] at h;exact h.elim
 |some b=>
  rw[hg] at h;cases b with
  |true=>exact uw (K:=λr H' nx'=>K (aO T o.1.dst r) H' nx') h (λr H nx=>hK r H nx)
  |false=>exact hK _ _ _ h
theorem mG{vp:Op->Bool}{bp:BP}{P:Program}{n:Nat}{dsts:List (Option Nat)}{S:Hp}{K K':SP}(hK:∀T H nx,K T H nx->K' T H nx):∀(l:List (Oper×Bool)){T:Tm}{H:Hp}{nx:Nat},i9 vp bp P n dsts S l T H nx K->i9 vp bp P n dsts S l T H nx K'
 |[],_,_,_,h=>hK _ _ _ h
 |o::l,_,_,_,h=>gp h (λ_ _ _=>mG hK l)
theorem AF{vp:Op->Bool}{bp:BP}{P:Program}{S:Hp}{op:Op}{keep:Bool}{T T':Tm}{H:Hp}{nx:Nat}{K:AV->Hp->Nat->Prop}(he:∀x∈op.operands,ev T x=ev T' x)(h:gX vp bp P S op keep T H nx K):gX vp bp P S op keep T' H nx K:=by
 unfold gX at h |-;split
 ·rename_i hp;rw[if_pos hp] at h;rw[<-ur he];exact h
 ·rename_i hp;rw[if_neg hp] at h;rcases h with h|h
  ·exact .inl (sT he h)
  ·exact .inr ⟨h.1,tc he h.2⟩
theorem Bq{vp:Op->Bool}{bp:BP}(hv:VP vp){P:Program}(hb:uV P bp){n:Nat}{dsts:List (Option Nat)}{S:Hp}{o:Oper×Bool}{T:Tm}{H:Hp}{nx:Nat}{K:SP}(hs:yW bp o.1.op=true->Sub S H)(h:kU vp bp P n dsts S o T H nx K):
    aop P n .text dsts o.1 T H nx λT1 H1 nx1=>(H1=H\/(o.2=true->Sub S H1))/\K T1 H1 nx1:=by
 refine⟨h.1,?_⟩;have h:=h.2;cases hg:gval T dsts o.1.guard with
 |none=>rw[hg] at h;exact h.elim
 |some b=>
  rw[hg] at h;cases b with
  |false=>exact⟨.inl rfl,h⟩
  |true=>
   have h:gX vp bp P S o.1.op o.2 T H nx λr H' nx'=>K (aO T o.1.dst r) H' nx':=h;show tA P .text o.1.op T H nx λr H' nx'=>(H'=H\/(o.2=true->Sub S H'))/\K (aO T o.1.dst r) H' nx';unfold gX at h;split at h
   ·rename_i hp;obtain⟨r,hr,hk⟩:=dJ h;by_cases hbl:(bp.b o.1.op&&j9 o.1.op)=true
    ·unfold tp at hr;rw[if_pos hbl] at hr;exact .inr ⟨rfl,Fq hr ⟨.inl rfl,hk⟩⟩
    unfold tp at hr;rw[if_neg hbl] at hr;by_cases hlk:(bp.l&&tF o.1.op)=true
    ·rw[if_pos hlk] at hr;have hs':=hs (by unfold yW;rw[hlk,Bool.or_true]);rw[eL] at hlk;exact .inr ⟨rfl,hb hlk.1 hlk.2 hr hs' ⟨.inl rfl,hk⟩⟩
    rw[if_neg hlk] at hr
    have hp:sv vp o.1.op=true:=by
     unfold nv at hp;rw[lU,lU] at hp;exact(hp.resolve_right hlk).resolve_right hbl
    have hval:dF P T H o.1.op=some r/\opc o.1.op=.val:=by
     unfold sv at hp;rw[lU] at hp;rcases hp with hp|hp
     ·exact⟨by rw[rH (H':=S) (hv.pure _ hp)];exact hr,Ao (hv.pure _ hp)⟩
     ·refine⟨G8 (hs (by unfold yW;rw[hp,Bool.true_or])) hp hr,?_⟩;revert hp;cases o.1.op<;>intro hp<;>first|(cases hp;done)|rfl
    left;unfold l8;rw[hval.2];refine⟨rfl,?_⟩;rw[hval.1];exact⟨.inl rfl,hk⟩
   ·exact ky h (λr H' nx' hh=>⟨.inr hh.1,hh.2⟩)
def vP(P:Program)(bp:BP)(dsts:List (Option Nat))(o:Oper)(T:Tm)(H:Hp):Option AV:=match gval T dsts o.guard with
 |some true=>tp P bp T H o.op
 |some false=>some (.tup [])
 |none=>none
structure FreeN(vp:Op->Bool)(bp:BP)(ops:List Oper)(x o:Oper):Prop where
 d:∀t,o.dst=some t->x.dst≠some t
 l1:∀t,o.dst=some t->t∉x.looksAt ops.toArray
 l2:∀t,x.dst=some t->t∉o.looksAt ops.toArray
 k:nv vp bp x.op=true
theorem Gb{vp:Op->Bool}{bp:BP}{P:Program}{n:Nat}{dsts:List (Option Nat)}{S:Hp}{o:Oper×Bool}{T:Tm}{H:Hp}{nx:Nat}{K:SP}(hp:nv vp bp o.1.op=true)(h:kU vp bp P n dsts S o T H nx K):∃v,vP P bp dsts o.1 T S=some v/\K (aO T o.1.dst v) H nx:=by
 obtain⟨_,h⟩:=h;unfold vP;cases hg:gval T dsts o.1.guard with
 |none=>rw[hg] at h;exact h.elim
 |some b=>
  rw[hg] at h;cases b with
  |true=>
   have h:gX vp bp P S o.1.op o.2 T H nx λr H' nx'=>K (aO T o.1.dst r) H' nx':=h;unfold gX at h;rw[if_pos hp] at h;exact dJ h
  |false=>exact⟨_,rfl,h⟩
theorem zF{vp:Op->Bool}{bp:BP}{P:Program}{n:Nat}{dsts:List (Option Nat)}{S:Hp}{o:Oper×Bool}{T:Tm}{H:Hp}{nx:Nat}{K:SP}(hp:nv vp bp o.1.op=true)(hd:dok n o.1.dst=true){v:AV}(hv:vP P bp dsts o.1 T S=some v)(hk:K (aO T o.1.dst v) H nx):kU vp bp P n dsts S o T H nx K:=by
 refine⟨hd,?_⟩;unfold vP at hv;cases hg:gval T dsts o.1.guard with
 |none=>rw[hg] at hv;cases hv
 |some b=>
  rw[hg] at hv;cases b with
  |true=>
   show gX vp bp P S o.1.op o.2 T H nx _;unfold gX;rw[if_pos hp];have hv:tp P bp T S o.1.op=some v:=hv;rw[hv];exact hk
  |false=>cases hv;exact hk
theorem Ae{P:Program}{bp:BP}{ops:List Oper}{o:Oper}{T T':Tm}{S:Hp}(ha:lz ops o T T'):vP P bp (ops.map (·.dst)) o T S=vP P bp (ops.map (·.dst)) o T' S:=by
 unfold vP;rw[ha.gval];cases gval T' (ops.map (·.dst)) o.guard with
 |none=>rfl
 |some b=>
  cases b with
  |true=>simp only;rw[ur ha.ev]
  |false=>rfl
theorem G0{vp:Op->Bool}{bp:BP}{P:Program}{n:Nat}{ops:List Oper}{S:Hp}{x o:Oper×Bool}{T:Tm}{H:Hp}{nx:Nat}{K:SP}(hf:FreeN vp bp ops x.1 o.1)
    (h:kU vp bp P n (ops.map (·.dst)) S x T H nx λT1 H1 nx1=>kU vp bp P n (ops.map (·.dst)) S o T1 H1 nx1 K):kU vp bp P n (ops.map (·.dst)) S o T H nx λT1 H1 nx1=>kU vp bp P n (ops.map (·.dst)) S x T1 H1 nx1 K:=by
 have hdx:=h.1;obtain⟨r,hr,h⟩:=Gb hf.k h;have ha:lz ops o.1 T (aO T x.1.dst r):=lz.upd hf.l2
 have hx:∀(q:AV)(H1:Hp)(nx1:Nat),K (aO (aO T x.1.dst r) o.1.dst q) H1 nx1->kU vp bp P n (ops.map (·.dst)) S x (aO T o.1.dst q) H1 nx1 K:=by
  intro q H1 nx1 hk;refine zF hf.k hdx (v:=r) ?_ ?_
  ·rw[<-hr];exact(Ae (lz.upd hf.l1)).symm
  ·rw[<-xO hf.d];exact hk
 obtain⟨hdo,h⟩:=h;refine⟨hdo,?_⟩;rw[ha.gval];cases hg:gval (aO T x.1.dst r) (ops.map (·.dst)) o.1.guard with
 |none=>rw[hg] at h;exact h.elim
 |some b=>
  rw[hg] at h;cases b with
  |true=>
   have h:gX vp bp P S o.1.op o.2 (aO T x.1.dst r) H nx λq H' nx'=>K (aO (aO T x.1.dst r) o.1.dst q) H' nx':=h;exact uw (AF (λy hy=>(ha.ev y hy).symm) h) (λq H' nx' hk=>hx q H' nx' hk)
  |false=>exact hx _ _ _ h
theorem HZ{vp:Op->Bool}{bp:BP}{P:Program}{n:Nat}{ops:List Oper}{S:Hp}{o:Oper×Bool}{l2:List (Oper×Bool)}{K:SP}:∀(l1:List (Oper×Bool)){T:Tm}{H:Hp}{nx:Nat},(∀x∈l1,FreeN vp bp ops x.1 o.1)->
    i9 vp bp P n (ops.map (·.dst)) S (l1++o::l2) T H nx K->kU vp bp P n (ops.map (·.dst)) S o T H nx λT H nx=>i9 vp bp P n (ops.map (·.dst)) S (l1++l2) T H nx K
 |[],_,_,_,_,h=>h
 |x::l1,T,H,nx,hf,h=>by
  have h:kU vp bp P n (ops.map (·.dst)) S x T H nx λT H nx=>i9 vp bp P n (ops.map (·.dst)) S (l1++o::l2) T H nx K:=h
  have h:kU vp bp P n (ops.map (·.dst)) S x T H nx λT H nx=>kU vp bp P n (ops.map (·.dst)) S o T H nx λT H nx=>i9 vp bp P n (ops.map (·.dst)) S (l1++l2) T H nx K:=
   gp h (λr H1 nx1 h=>HZ l1 (λy hy=>hf y (by simp[hy])) h)
  exact G0 (hf x (by simp)) h
def freeNB(vp:Op->Bool)(bp:BP)(ops:List Oper)(x o:Oper):Bool:=
 (match o.dst with|some t=>x.dst !=some t&& !(x.looksAt ops.toArray).contains t|none=>true)&&
 (match x.dst with|some t=>!(o.looksAt ops.toArray).contains t|none=>true)&&nv vp bp x.op
theorem rC{vp:Op->Bool}{bp:BP}{ops:List Oper}{x o:Oper}(h:freeNB vp bp ops x o=true):FreeN vp bp ops x o:=by
 unfold freeNB at h;simp only[eL] at h;obtain⟨⟨h1,h2⟩,h3⟩:=h;refine⟨λt ht=>?_,λt ht=>?_,λt ht=>?_,h3⟩
 ·rw[ht] at h1;simp at h1;exact h1.1
 ·rw[ht] at h1;simp at h1;exact h1.2
 ·rw[ht] at h2;simp at h2;exact h2
def gM(bp:BP)(ops:List Oper)(i:Nat):Bool:=(List.range ops.length).any λj=>j !=i&&yW bp (ops.getD j default).op&& !dS (Region.before ops.toArray) i j
def ry(vp:Op->Bool)(bp:BP)(n:Nat)(ops:List Oper)(C:List Nat):Bool:=
 let m:=Region.before ops.toArray
 let len:=ops.length
 ((List.range len).all λj=>(dM (ops.getD j default)).all λk=>k<j)&&
 ((List.range len).all λj=>(List.range len).all λi=>!dS m j i || (dM (ops.getD j default)).any λk=>k==i || dS m k i)&&
 (sj (λk i=>k !=i&&((ops.getD i default).dst.isNone || (ops.getD i default).dst !=(ops.getD k default).dst)&&(dS m i k || freeNB vp bp ops (ops.getD k default) (ops.getD i default))) C)&&
 ((List.range len).all λi=>C.contains i)&&(C.all λi=>i<len)&&((List.range len).all λi=>dok n (ops.getD i default).dst)
structure MixNOk(vp:Op->Bool)(bp:BP)(n:Nat)(ops:List Oper)(C:List Nat):Prop where
 dir:∀(j:Nat)(o:Oper),ops[j]?=some o->∀k∈dM o,k<j
 clo:∀(j:Nat)(o:Oper)(i:Nat),ops[j]?=some o->i<ops.length->dS (Region.before ops.toArray) j i=true->∃k∈dM o,k=i\/dS (Region.before ops.toArray) k i=true
 pw:C.Pairwise (λk i=>k≠i/\(∀t,(ops.getD i default).dst=some t->(ops.getD k default).dst≠some t)/\(dS (Region.before ops.toArray) i k=true\/FreeN vp bp ops (ops.getD k default) (ops.getD i default)))
 all:∀i,i<ops.length->i∈C
 lt:∀i∈C,i<ops.length
 dk:∀(i:Nat)(o:Oper),ops[i]?=some o->dok n o.dst=true
theorem r8{vp:Op->Bool}{bp:BP}{n:Nat}{ops:List Oper}{C:List Nat}(h:ry vp bp n ops C=true):MixNOk vp bp n ops C:=by
 simp only[ry,eL,dQ,eM,gq] at h;obtain⟨⟨⟨⟨⟨h1,h2⟩,h3⟩,h4⟩,h5⟩,h6⟩:=h;have hlt:=λ{k:Nat}{o:Oper}(hk:ops[k]?=some o)=>(bH.1 hk).1;refine⟨λj o ho k hk=>?_,λj o i ho hi hb=>?_,(o9 h3).imp (λ{k i} h=>?_),λi hi=>by simpa using h4 i hi,h5,λi o ho=>?_⟩
 ·have:=h1 j (hlt ho) k;rw[cX ho] at this;exact this hk
 ·have:=h2 j (hlt ho) i hi;rw[cX ho,hb] at this;simp only[Bool.not_true,Bool.false_or,qS,lU,beq_iff_eq] at this;exact this
 ·simp only[eL,lU] at h;obtain⟨⟨h7,h8⟩,h9⟩:=h;refine⟨by simpa using h7,λt ht=>?_,h9.imp id rC⟩;rw[ht] at h8;simp at h8;exact λe=>h8 e.symm
 ·have:=h6 i (hlt ho);rw[cX ho] at this;exact this
def eI(bp:BP)(ops:List Oper)(k:Nat):Oper×Bool:=(ops.getD k default,gM bp ops k)
structure NInv(vp:Op->Bool)(bp:BP)(P:Program)(N:Cfg)(ops:List Oper)(C:List Nat)(S:Hp)(K:SP)(E₀:Env)(w₀:World)(L:Array Bool)(a:Act)(w:World)(E:Env)(T:Tm)(H:Hp)(nx:Nat):Prop where
 lsz:L.size=ops.length
 dc:∀j i,L.getD j false=true->dS (Region.before ops.toArray) j i=true->i<ops.length->L.getD i false=true
 ext:Ext E₀ w₀ E w
 sim:Sim E N ⟨T,H,nx⟩ a w
 st:∀j,j<ops.length->yW bp (ops.getD j default).op=true->L.getD j false=false->Sub S H
 rest:i9 vp bp P N.n (ops.map (·.dst)) S ((de C L).map (eI bp ops)) T H nx K
variable{vp:Op->Bool}{bp:BP}{P:Program}{N:Cfg}{ops:List Oper}{C:List Nat}{S:Hp}{K:SP}{E₀:Env}{w₀:World}{L:Array Bool}{a:Act}{w:World}{E:Env}{T:Tm}{H:Hp}{nx:Nat}
theorem nP(hC:C.Pairwise (λk i=>k≠i/\(∀t,(ops.getD i default).dst=some t->(ops.getD k default).dst≠some t)/\(dS (Region.before ops.toArray) i k=true\/FreeN vp bp ops (ops.getD k default) (ops.getD i default))))
    {i:Nat} (hi:i∈de C L) (hil:i<L.size):∃l1 l2,de C L=l1++i::l2/\de C (L.setIfInBounds i true)=l1++l2/\
     (∀k∈l1,dS (Region.before ops.toArray) i k=true\/FreeN vp bp ops (ops.getD k default) (ops.getD i default)):=by
 obtain⟨l1,l2,e⟩:=List.append_of_mem hi;have hp:(de C L).Pairwise _:=hC.filter _;rw[e] at hp;obtain⟨p1,p2,p3⟩:=List.pairwise_append.1 hp;obtain⟨p4,p5⟩:=BM.1 p2;refine⟨l1,l2,e,?_,λk hk=>(p3 k hk i (by simp)).2.2⟩
 have e2:de C (L.setIfInBounds i true)=(de C L).filter λk=>decide (k≠i):=by
  unfold de;rw[List.filter_filter];refine List.filter_congr (λk _=>?_);rw[ed L i k hil];by_cases h:k=i<;>simp[h]
 rw[e2,e,EG,List.filter_cons];have n1:l1.filter (λk=>decide (k≠i))=l1:=Ac.2 (λk hk=>bR (p3 k hk i (by simp)).1);have n2:l2.filter (λk=>decide (k≠i))=l2:=Ac.2 (λk hk=>bR (λh=>(p4 k hk).1 h.symm));rw[n1,n2];simp
theorem NInv.bits(hI:NInv vp bp P N ops C S K E₀ w₀ L a w E T H nx)(hok:MixNOk vp bp N.n ops C){i:Nat}{o:Oper}(hr:Ready ops L i o){k:Nat}(hk:k<ops.length)(hb:dS (Region.before ops.toArray) i k=true):L.getD k false=true:=by
 obtain⟨q,hq,h⟩:=hok.clo i o k hr.get hk hb;rcases h with rfl|h
 ·exact hr.dir _ hq
 ·exact hI.dc q k (hr.dir _ hq) h hk
theorem NInv.step(hvp:VP vp)(hbp:uV P bp){rr:Option Nat}{Q:Exit->Act->World->Prop}{K':Act->World->Prop}(hI:NInv vp bp P N ops C S K E₀ w₀ L a w E T H nx)(hok:MixNOk vp bp N.n ops C){i:Nat}{o:Oper}(hr:Ready ops L i o)
    (hK:∀a' w' E' T' H' nx',NInv vp bp P N ops C S K E₀ w₀ (L.setIfInBounds i true) a' w' E' T' H' nx'->K' a' w'):wpOpIn (FW rr) 0 P ops.toArray Q i K' a w:=by
 have hi:i<ops.length:=(bH.1 hr.get).1;have hgeti:(ops.toArray)[i]?=some o:=by simpa using hr.get
 unfold wpOpIn;rw[hgeti];simp only;have hmem:i∈de C L:=ik.2 ⟨hok.all i hi,by rw[hr.not];rfl⟩;obtain⟨l1,l2,e1,e2,f1⟩:=nP hok.pw hmem (by rw[hI.lsz];exact hi);have hgo:ops.getD i default=o:=cX hr.get
 have hfree:∀k∈l1,FreeN vp bp ops (ops.getD k default) o:=by
  intro k hk;rcases f1 k hk with h|h
  ·have hkC:k∈de C L:=by rw[e1];simp[hk]
   obtain⟨h1,h2⟩:=ik.1 hkC;have:=hI.bits hok hr (hok.lt k h1) h;rw[this] at h2;cases h2
  ·rw[hgo] at h;exact h
 have hrest:=hI.rest;rw[e1,dp,f9] at hrest;have hpo:eI bp ops i=(o,gM bp ops i):=by unfold eI;rw[hgo]
 rw[hpo] at hrest
 have hpull:=HZ (o:=(o,gM bp ops i)) (l1.map (eI bp ops)) (fun x hx=>by
  obtain⟨k,hk,rfl⟩:=cE.1 hx;exact hfree k hk) hrest
 have hpull2:kU vp bp P N.n (ops.map (·.dst)) S (o,gM bp ops i) T H nx λT' H' nx'=>i9 vp bp P N.n (ops.map (·.dst)) S ((l1++l2).map (eI bp ops)) T' H' nx' K:=
  gp hpull (λr H1 nx1 h=>by rw[dp];exact h)
 have hset:=λk=>ed L i k (by rw[hI.lsz];exact hi);have hld:yW bp o.op=true->Sub S H:=λh=>hI.st i hi (by rw[hgo];exact h) hr.not;have hs:=jE (rr:=rr) (ops:=ops.toArray) (Q:=Q) (next:=K') hI.sim (Bq hvp hbp hld hpull2) (λE' T' H' nx' a' w' he hS hk=>?_)
 ·exact hs
 ·obtain⟨hkeep,hk⟩:=hk;refine hK a' w' E' T' H' nx' ⟨by simp[hI.lsz],?_,hI.ext.trans he,hS,?_,by rw[e2];exact hk⟩
  ·intro j k hj hb hkl;rw[hset] at hj |-;by_cases hki:k=i
   ·rw[if_pos hki]
   ·rw[if_neg hki];by_cases hji:j=i
    ·subst hji;exact hI.bits hok hr hkl hb
    ·rw[if_neg hji] at hj;exact hI.dc j k hj hb hkl
  ·intro j hj hl hn;rw[hset] at hn;by_cases hji:j=i
   ·rw[if_pos hji] at hn;cases hn
   rw[if_neg hji] at hn;rcases hkeep with rfl|hkeep
   ·exact hI.st j hj hl hn
   ·refine hkeep ?_;show gM bp ops i=true;unfold gM;rw[qS];refine⟨j,eM.2 hj,?_⟩;rw[eL,eL];refine⟨⟨by simpa using hji,hl⟩,?_⟩;cases hb:dS (Region.before ops.toArray) i j with
    |false=>rfl
    |true=>
     have:=hI.bits hok hr hj hb;rw[this] at hn;cases hn
theorem NInv.some_ready(hI:NInv vp bp P N ops C S K E₀ w₀ L a w E T H nx)(hok:MixNOk vp bp N.n ops C)(h:Region.ready .any ops.toArray L=[]):∀k,k<ops.length->L.getD k false=true:=by
 rcases fc L ops.length with h1|⟨k,hk,hn,hall⟩
 ·exact h1
 ·exfalso;obtain⟨o,ho⟩:=dh hk
  have:k∈Region.ready .any ops.toArray L:=by
   refine mem_ready.2 ⟨?_,o,by simpa using ho,λe he hb=>hall _ ?_⟩
   ·have:k<L.size:=by rw[hI.lsz];exact hk
    simp[this] at hn |-;exact hn
   ·refine hok.dir k o ho e.on ?_;simp only[dM,cE,ik];exact⟨e,⟨by simpa using he,hb⟩,rfl⟩
  rw[h] at this;cases this
theorem NInv.final(hI:NInv vp bp P N ops C S K E₀ w₀ L a w E T H nx)(hok:MixNOk vp bp N.n ops C)(hall:∀k,k<ops.length->L.getD k false=true):K T H nx:=by
 have:de C L=[]:=List.filter_eq_nil_iff.2 (λk hk=>by simp[hall k (hok.lt k hk)]);have h:=hI.rest;rw[this] at h;exact h
theorem AH(hvp:VP vp)(hbp:uV P bp){rr:Option Nat}{Q:Exit->Act->World->Prop}(hok:MixNOk vp bp N.n ops C)(hQ:∀E' T' H' nx' a' w',Ext E₀ w₀ E' w'->Sim E' N ⟨T',H',nx'⟩ a' w'->K T' H' nx'->Q .normal a' w'):
    ∀(fuel:Nat)(L:Array Bool)(a:Act)(w:World)(E:Env)(T:Tm)(H:Hp)(nx:Nat),NInv vp bp P N ops C S K E₀ w₀ L a w E T H nx->left ops.length L<=fuel->wpAnyIn (FW rr) 0 P .any ops.toArray Q fuel L a w
 |0,L,a,w,E,T,H,nx,hI,hl=>by
  have hall:∀k,k<ops.length->L.getD k false=true:=by
   rcases fc L ops.length with h1|⟨k,hk,hn,hall⟩
   ·exact h1
   ·exfalso;have:left ops.length (L.setIfInBounds k true)<left ops.length L:=iz L k _ hk hI.lsz hn;omega
  have hr:Region.ready .any ops.toArray L=[]:=by
   refine Iy.2 (λi hi=>?_);obtain⟨o,ho⟩:=iG hI.lsz hi;have:=hall i (bH.1 ho.get).1;rw[ho.not] at this;cases this
  exact⟨hr,hQ E T H nx a w hI.ext hI.sim (hI.final hok hall)⟩
 |fuel+1,L,a,w,E,T,H,nx,hI,hl=>by
  refine⟨λhr=>hQ E T H nx a w hI.ext hI.sim (hI.final hok (hI.some_ready hok hr)),λi hi=>?_⟩;obtain⟨o,ho⟩:=iG hI.lsz hi;refine hI.step hvp hbp hok ho (λa' w' E' T' H' nx' hI'=>AH hvp hbp hok hQ fuel _ a' w' E' T' H' nx' hI' ?_);have:=iz L i ops.length (bH.1 ho.get).1 hI.lsz ho.not;omega
theorem IJ{rr:Option Nat}{Q:Exit->Act->World->Prop}{rid:Nat}(hm:P.follows .mixedOrders=true)(hvp:VP vp)(hbp:uV P bp)(hok:ry vp bp N.n ops C=true)(hS:Sim E₀ N ⟨T,H,nx⟩ a w₀)(hs:Sub S H)
    (h:i9 vp bp P N.n (ops.map (·.dst)) S (C.map (eI bp ops)) T H nx K)
    (hQ:∀E' T' H' nx' a' w',Ext E₀ w₀ E' w'->Sim E' N ⟨T',H',nx'⟩ a' w'->K T' H' nx'->Q .normal a' w'):(Code.region rid ops.toArray true).wpIn (FW rr) 0 P Q a w₀:=by
 refine wpIn_region_any hm ?_;have hdr:({w₀ with drawn:=w₀.drawn+1}:World).heap=w₀.heap:=rfl;have hext:Ext E₀ w₀ E₀ {w₀ with drawn:=w₀.drawn+1}:=Ext.same hdr;have hok:=r8 hok
 have hfalse:∀k,(Array.replicate ops.toArray.size false).getD k false=false:=by
  intro k;simp only[yX,Array.getElem?_replicate];split<;>rfl
 have hrest:de C (Array.replicate ops.toArray.size false)=C:=Ac.2 (λk _=>by rw[hfalse];rfl);refine AH (C:=C) (K:=K) (S:=S) (E₀:=E₀) (w₀:=w₀) hvp hbp hok hQ _ _ _ _ E₀ T H nx ⟨by simp,?_,hext,?_,λ_ _ _ _=>hs,by rw[hrest];exact h⟩ (by rw[List.size_toArray];unfold left;exact eK List.countP_le_length (by simp))
 ·intro j i h1;rw[hfalse] at h1;cases h1
 ·exact⟨hS.env.drew,hS.heap.same hdr,hS.fresh,hS.round,hS.floor,hS.size,λt=>(hS.tmps t).ext hext,hS.defers.ext hext⟩
end Go.Abs
namespace Go.Abs
open Go.RowKit
def nq(vp:Op->Bool)(bp:BP)(P:Program)(n:Nat)(dsts:List (Option Nat))(S:Hp)(f:Oper×Bool)(l2:List (Oper×Bool)):List (Oper×Bool)->Tm->Hp->Nat->SP->Prop
 |[],T,H,nx,K=>i9 vp bp P n dsts S (f::l2) T H nx K
 |o::l,T,H,nx,K=>(nv vp bp o.1.op=false->i9 vp bp P n dsts S (f::o::(l++l2)) T H nx K)/\kU vp bp P n dsts S o T H nx λT H nx=>nq vp bp P n dsts S f l2 l T H nx K
theorem uf{vp:Op->Bool}{bp:BP}{P:Program}{n:Nat}{dsts:List (Option Nat)}{S:Hp}{f:Oper×Bool}{l2:List (Oper×Bool)}{K K':SP}(hK:∀T H nx,K T H nx->K' T H nx):∀(l:List (Oper×Bool)){T:Tm}{H:Hp}{nx:Nat},nq vp bp P n dsts S f l2 l T H nx K->nq vp bp P n dsts S f l2 l T H nx K'
 |[],_,_,_,h=>mG hK _ h
 |o::l,_,_,_,h=>⟨λhn=>mG hK _ (h.1 hn),gp h.2 (λ_ _ _=>uf hK l)⟩
theorem Lj{vp:Op->Bool}{bp:BP}{P:Program}{n:Nat}{ops:List Oper}{S:Hp}{f o:Oper×Bool}{l2 l3:List (Oper×Bool)}{K:SP}:∀(l1:List (Oper×Bool)){T:Tm}{H:Hp}{nx:Nat},(∀x∈l1,FreeN vp bp ops x.1 o.1)->
    nq vp bp P n (ops.map (·.dst)) S f l2 (l1++o::l3) T H nx K->kU vp bp P n (ops.map (·.dst)) S o T H nx λT H nx=>nq vp bp P n (ops.map (·.dst)) S f l2 (l1++l3) T H nx K
 |[],_,_,_,_,h=>h.2
 |x::l1,T,H,nx,hf,h=>by
  have hx:=hf x (by simp);have h:kU vp bp P n (ops.map (·.dst)) S x T H nx λT H nx=>nq vp bp P n (ops.map (·.dst)) S f l2 (l1++o::l3) T H nx K:=h.2
  have h:kU vp bp P n (ops.map (·.dst)) S x T H nx λT H nx=>kU vp bp P n (ops.map (·.dst)) S o T H nx λT H nx=>nq vp bp P n (ops.map (·.dst)) S f l2 (l1++l3) T H nx K:=
   gp h (λr H1 nx1 h=>Lj l1 (λy hy=>hf y (by simp[hy])) h)
  refine gp (G0 hx h) (λr H1 nx1 h=>⟨λhn=>?_,h⟩);rw[hx.k] at hn;cases hn
theorem K6{vp:Op->Bool}{bp:BP}{P:Program}{n:Nat}{ops:List Oper}{S:Hp}{f:Oper×Bool}{l2:List (Oper×Bool)}{K:SP}:∀(l:List (Oper×Bool)){T:Tm}{H:Hp}{nx:Nat},(∀x∈l,nv vp bp x.1.op=true->FreeN vp bp ops x.1 f.1)->
    nq vp bp P n (ops.map (·.dst)) S f l2 l T H nx K->kU vp bp P n (ops.map (·.dst)) S f T H nx λT H nx=>i9 vp bp P n (ops.map (·.dst)) S (l++l2) T H nx K
 |[],_,_,_,_,h=>h
 |x::l,T,H,nx,hf,h=>by
  cases hn:nv vp bp x.1.op with
  |false=>exact h.1 hn
  |true=>
   have h:=h.2;exact G0 (hf x (by simp) hn) (gp h (λr H1 nx1 h=>K6 l (λy hy=>hf y (by simp[hy])) h))
def y5(vp:Op->Bool)(bp:BP)(n:Nat)(ops:List Oper)(f:Nat)(C D:List Nat):Bool:=
 let m:=Region.before ops.toArray
 let len:=ops.length
 ((List.range len).all λj=>(dM (ops.getD j default)).all λk=>k<j)&&
 ((List.range len).all λj=>(List.range len).all λi=>!dS m j i || (dM (ops.getD j default)).any λk=>k==i || dS m k i)&&
 (sj (λk i=>k !=i&&((ops.getD i default).dst.isNone || (ops.getD i default).dst !=(ops.getD k default).dst)&&(dS m i k || freeNB vp bp ops (ops.getD k default) (ops.getD i default))) (C++D))&&
 ((List.range len).all λi=>i==f || (C++D).contains i)&&((C++D).all λi=>i<len&&i !=f)&&decide (f<len)&&((List.range len).all λi=>dok n (ops.getD i default).dst)&&
 (C.all λk=>!nv vp bp (ops.getD k default).op || freeNB vp bp ops (ops.getD k default) (ops.getD f default))&&(D.all λk=>dS m k f)&& !yW bp (ops.getD f default).op
structure MixFOk(vp:Op->Bool)(bp:BP)(n:Nat)(ops:List Oper)(f:Nat)(C D:List Nat):Prop where
 dir:∀(j:Nat)(o:Oper),ops[j]?=some o->∀k∈dM o,k<j
 clo:∀(j:Nat)(o:Oper)(i:Nat),ops[j]?=some o->i<ops.length->dS (Region.before ops.toArray) j i=true->∃k∈dM o,k=i\/dS (Region.before ops.toArray) k i=true
 pw:(C++D).Pairwise (λk i=>k≠i/\(∀t,(ops.getD i default).dst=some t->(ops.getD k default).dst≠some t)/\(dS (Region.before ops.toArray) i k=true\/FreeN vp bp ops (ops.getD k default) (ops.getD i default)))
 all:∀i,i<ops.length->i=f\/i∈C++D
 lt:∀i∈C++D,i<ops.length/\i≠f
 fl:f<ops.length
 dk:∀(i:Nat)(o:Oper),ops[i]?=some o->dok n o.dst=true
 fr:∀k∈C,nv vp bp (ops.getD k default).op=true->FreeN vp bp ops (ops.getD k default) (ops.getD f default)
 dep:∀k∈D,dS (Region.before ops.toArray) k f=true
theorem Fg{vp:Op->Bool}{bp:BP}{n:Nat}{ops:List Oper}{f:Nat}{C D:List Nat}(h:y5 vp bp n ops f C D=true):MixFOk vp bp n ops f C D:=by
 simp only[y5,eL,gq] at h;obtain⟨⟨⟨⟨⟨⟨⟨⟨⟨h1,h2⟩,h3⟩,h4⟩,h5⟩,h6⟩,h7⟩,h8⟩,h9⟩,_⟩:=h;rw[dQ] at h1 h2 h4 h5 h7 h8 h9;have hlt:=λ{k:Nat}{o:Oper}(hk:ops[k]?=some o)=>(bH.1 hk).1;refine⟨λj o ho k hk=>?_,λj o i ho hi hb=>?_,(o9 h3).imp (λ{k i} h=>?_),λi hi=>?_,λi hi=>?_,h6,λi o ho=>?_,λk hk hn=>?_,λk hk=>h9 k hk⟩
 ·have:=h1 j (eM.2 (hlt ho));rw[dQ] at this;have:=this k (by rw[cX ho];exact hk);simpa using this
 ·have:=h2 j (eM.2 (hlt ho));rw[dQ] at this;have:=this i (eM.2 hi);rw[cX ho,hb] at this;simp only[Bool.not_true,Bool.false_or,qS,lU,beq_iff_eq] at this;exact this
 ·simp only[eL,lU] at h;obtain⟨⟨h7,h8⟩,h9⟩:=h;refine⟨by simpa using h7,λt ht=>?_,h9.imp id rC⟩;rw[ht] at h8;simp at h8;exact λe=>h8 e.symm
 ·have:=h4 i (eM.2 hi);simpa using this
 ·have:=h5 i hi;simpa using this
 ·have:=h7 i (eM.2 (hlt ho));rw[cX ho] at this;exact this
 ·have:=h8 k hk;rw[hn] at this;exact rC (by simpa using this)
structure FInv(vp:Op->Bool)(bp:BP)(P:Program)(N:Cfg)(ops:List Oper)(f:Nat)(C D:List Nat)(S:Hp)(K:SP)(E₀:Env)(w₀:World)(L:Array Bool)(a:Act)(w:World)(E:Env)(T:Tm)(H:Hp)(nx:Nat):Prop where
 lsz:L.size=ops.length
 dc:∀j i,L.getD j false=true->dS (Region.before ops.toArray) j i=true->i<ops.length->L.getD i false=true
 ext:Ext E₀ w₀ E w
 sim:Sim E N ⟨T,H,nx⟩ a w
 st:∀j,j<ops.length->yW bp (ops.getD j default).op=true->L.getD j false=false->Sub S H
 rest:(L.getD f false=false/\nq vp bp P N.n (ops.map (·.dst)) S (eI bp ops f) (D.map (eI bp ops)) ((de C L).map (eI bp ops)) T H nx K)\/(L.getD f false=true/\i9 vp bp P N.n (ops.map (·.dst)) S ((de (C++D) L).map (eI bp ops)) T H nx K)
variable{vp:Op->Bool}{bp:BP}{P:Program}{N:Cfg}{ops:List Oper}{f:Nat}{C D:List Nat}{S:Hp}{K:SP}{E₀:Env}{w₀:World}{L:Array Bool}{a:Act}{w:World}{E:Env}{T:Tm}{H:Hp}{nx:Nat}
theorem FInv.bits(hI:FInv vp bp P N ops f C D S K E₀ w₀ L a w E T H nx)(hok:MixFOk vp bp N.n ops f C D){i:Nat}{o:Oper}(hr:Ready ops L i o){k:Nat}(hk:k<ops.length)(hb:dS (Region.before ops.toArray) i k=true):L.getD k false=true:=by
 obtain⟨q,hq,h⟩:=hok.clo i o k hr.get hk hb;rcases h with rfl|h
 ·exact hr.dir _ hq
 ·exact hI.dc q k (hr.dir _ hq) h hk
theorem x7{C:List Nat}{L:Array Bool}{i:Nat}(hil:i<L.size)(h:i∉C):de C (L.setIfInBounds i true)=de C L:=by
 unfold de;refine List.filter_congr λk hk=>?_;rw[ed L i k hil,if_neg λe=>h (by rw[<-e];exact hk)]
theorem FInv.step(hvp:VP vp)(hbp:uV P bp){rr:Option Nat}{Q:Exit->Act->World->Prop}{K':Act->World->Prop}(hI:FInv vp bp P N ops f C D S K E₀ w₀ L a w E T H nx)(hok:MixFOk vp bp N.n ops f C D){i:Nat}{o:Oper}(hr:Ready ops L i o)
    (hK:∀a' w' E' T' H' nx',FInv vp bp P N ops f C D S K E₀ w₀ (L.setIfInBounds i true) a' w' E' T' H' nx'->K' a' w'):wpOpIn (FW rr) 0 P ops.toArray Q i K' a w:=by
 have hi:i<ops.length:=(bH.1 hr.get).1;have hil:i<L.size:=by rw[hI.lsz];exact hi
 have hgeti:(ops.toArray)[i]?=some o:=by simpa using hr.get
 unfold wpOpIn;rw[hgeti];simp only;have hgo:ops.getD i default=o:=cX hr.get;have hpo:eI bp ops i=(o,gM bp ops i):=by unfold eI;rw[hgo]
 have hset:=λk=>ed L i k hil
 have hDn:L.getD f false=false->de D L=D:=λhf=>Ac.2 λk hk=>by
  cases hb:L.getD k false with
  |false=>rfl
  |true=>
   have:=hI.dc k f hb (hok.dep k hk) hok.fl;rw[hf] at this;cases this
 have hld:yW bp o.op=true->Sub S H:=λh=>hI.st i hi (by rw[hgo];exact h) hr.not
 have main:kU vp bp P N.n (ops.map (·.dst)) S (o,gM bp ops i) T H nx λT' H' nx'=>((L.setIfInBounds i true).getD f false=false/\nq vp bp P N.n (ops.map (·.dst)) S (eI bp ops f) (D.map (eI bp ops)) ((de C (L.setIfInBounds i true)).map (eI bp ops)) T' H' nx' K)\/((L.setIfInBounds i true).getD f false=true/\i9 vp bp P N.n (ops.map (·.dst)) S ((de (C++D) (L.setIfInBounds i true)).map (eI bp ops)) T' H' nx' K):=by
  rcases hI.rest with⟨hf,hrest⟩|⟨hf,hrest⟩
  ·by_cases hif:i=f
   ·subst hif
    have ht:=K6 (ops:=ops) ((de C L).map (eI bp ops)) (fun x hx hn=>by
     obtain⟨k,hk,rfl⟩:=cE.1 hx;exact hok.fr k (ik.1 hk).1 hn) hrest
    rw[hpo] at ht;refine gp ht (λr H1 nx1 h=>.inr ⟨by rw[hset,if_pos rfl],?_⟩);have hnC:i∉C++D:=λq=>(hok.lt i q).2 rfl;rw[x7 hil hnC]
    have:de (C++D) L=de C L++D:=by
     unfold de;rw[EG]
     congr 1
     exact hDn hf
    rw[this,dp];exact h
   ·have hiC:i∈C:=by
      rcases hok.all i hi with h|h
      ·exact absurd h hif
      ·rcases oh.1 h with h|h
       ·exact h
       ·have:=hI.bits hok hr hok.fl (hok.dep i h);rw[hf] at this;cases this
    have hmem:i∈de C L:=ik.2 ⟨hiC,by rw[hr.not];rfl⟩;have pwC:C.Pairwise _:=(List.pairwise_append.1 hok.pw).1;obtain⟨l1,l2,e1,e2,f1⟩:=nP pwC hmem hil
    have hfree:∀k∈l1,FreeN vp bp ops (ops.getD k default) o:=by
     intro k hk;rcases f1 k hk with h|h
     ·have hkC:k∈de C L:=by rw[e1];simp[hk]
      obtain⟨h1,h2⟩:=ik.1 hkC;have:=hI.bits hok hr (hok.lt k (rm _ h1)).1 h;rw[this] at h2;cases h2
     ·rw[hgo] at h;exact h
    rw[e1,dp,f9,hpo] at hrest
    have hpull:=Lj (o:=(o,gM bp ops i)) (l1.map (eI bp ops)) (fun x hx=>by
     obtain⟨k,hk,rfl⟩:=cE.1 hx;exact hfree k hk) hrest
    refine gp hpull (λr H1 nx1 h=>.inl ⟨by rw[hset,if_neg λe=>hif e.symm];exact hf,?_⟩);rw[e2,dp];exact h
  ·have hif:i≠f:=λe=>by
     rw[<-e,hr.not] at hf;cases hf
   have hiC:i∈C++D:=(hok.all i hi).resolve_left hif;have hmem:i∈de (C++D) L:=ik.2 ⟨hiC,by rw[hr.not];rfl⟩;obtain⟨l1,l2,e1,e2,f1⟩:=nP hok.pw hmem hil
   have hfree:∀k∈l1,FreeN vp bp ops (ops.getD k default) o:=by
    intro k hk;rcases f1 k hk with h|h
    ·have hkC:k∈de (C++D) L:=by rw[e1];simp[hk]
     obtain⟨h1,h2⟩:=ik.1 hkC;have:=hI.bits hok hr (hok.lt k h1).1 h;rw[this] at h2;cases h2
    ·rw[hgo] at h;exact h
   rw[e1,dp,f9,hpo] at hrest
   have hpull:=HZ (o:=(o,gM bp ops i)) (l1.map (eI bp ops)) (fun x hx=>by
    obtain⟨k,hk,rfl⟩:=cE.1 hx;exact hfree k hk) hrest
   refine gp hpull (λr H1 nx1 h=>.inr ⟨by rw[hset];split<;>first|rfl|exact hf,?_⟩);rw[e2,dp];exact h
 have hs:=jE (rr:=rr) (ops:=ops.toArray) (Q:=Q) (next:=K') hI.sim (Bq hvp hbp hld main) (λE' T' H' nx' a' w' he hS hk=>?_)
 ·exact hs
 ·obtain⟨hkeep,hk⟩:=hk;refine hK a' w' E' T' H' nx' ⟨by simp[hI.lsz],?_,hI.ext.trans he,hS,?_,hk⟩
  ·intro j k hj hb hkl;rw[hset] at hj |-;by_cases hki:k=i
   ·rw[if_pos hki]
   ·rw[if_neg hki];by_cases hji:j=i
    ·subst hji;exact hI.bits hok hr hkl hb
    ·rw[if_neg hji] at hj;exact hI.dc j k hj hb hkl
  ·intro j hj hl hn;rw[hset] at hn;by_cases hji:j=i
   ·rw[if_pos hji] at hn;cases hn
   rw[if_neg hji] at hn;rcases hkeep with rfl|hkeep
   ·exact hI.st j hj hl hn
   ·refine hkeep ?_;show gM bp ops i=true;unfold gM;rw[qS];refine⟨j,eM.2 hj,?_⟩;rw[eL,eL];refine⟨⟨by simpa using hji,hl⟩,?_⟩;cases hb:dS (Region.before ops.toArray) i j with
    |false=>rfl
    |true=>
     have:=hI.bits hok hr hj hb;rw[this] at hn;cases hn
theorem FInv.some_ready(hI:FInv vp bp P N ops f C D S K E₀ w₀ L a w E T H nx)(hok:MixFOk vp bp N.n ops f C D)(h:Region.ready .any ops.toArray L=[]):∀k,k<ops.length->L.getD k false=true:=by
 rcases fc L ops.length with h1|⟨k,hk,hn,hall⟩
 ·exact h1
 ·exfalso;obtain⟨o,ho⟩:=dh hk
  have:k∈Region.ready .any ops.toArray L:=by
   refine mem_ready.2 ⟨?_,o,by simpa using ho,λe he hb=>hall _ ?_⟩
   ·have:k<L.size:=by rw[hI.lsz];exact hk
    simp[this] at hn |-;exact hn
   ·refine hok.dir k o ho e.on ?_;simp only[dM,cE,ik];exact⟨e,⟨by simpa using he,hb⟩,rfl⟩
  rw[h] at this;cases this
theorem FInv.final(hI:FInv vp bp P N ops f C D S K E₀ w₀ L a w E T H nx)(hok:MixFOk vp bp N.n ops f C D)(hall:∀k,k<ops.length->L.getD k false=true):K T H nx:=by
 rcases hI.rest with⟨hf,_⟩|⟨hf,h⟩
 ·rw[hall f hok.fl] at hf;cases hf
 ·have:de (C++D) L=[]:=List.filter_eq_nil_iff.2 (λk hk=>by simp[hall k (hok.lt k hk).1]);rw[this] at h;exact h
theorem zG(hvp:VP vp)(hbp:uV P bp){rr:Option Nat}{Q:Exit->Act->World->Prop}(hok:MixFOk vp bp N.n ops f C D)(hQ:∀E' T' H' nx' a' w',Ext E₀ w₀ E' w'->Sim E' N ⟨T',H',nx'⟩ a' w'->K T' H' nx'->Q .normal a' w'):
    ∀(fuel:Nat)(L:Array Bool)(a:Act)(w:World)(E:Env)(T:Tm)(H:Hp)(nx:Nat),FInv vp bp P N ops f C D S K E₀ w₀ L a w E T H nx->left ops.length L<=fuel->wpAnyIn (FW rr) 0 P .any ops.toArray Q fuel L a w
 |0,L,a,w,E,T,H,nx,hI,hl=>by
  have hall:∀k,k<ops.length->L.getD k false=true:=by
   rcases fc L ops.length with h1|⟨k,hk,hn,hall⟩
   ·exact h1
   ·exfalso;have:left ops.length (L.setIfInBounds k true)<left ops.length L:=iz L k _ hk hI.lsz hn;omega
  have hr:Region.ready .any ops.toArray L=[]:=by
   refine Iy.2 (λi hi=>?_);obtain⟨o,ho⟩:=iG hI.lsz hi;have:=hall i (bH.1 ho.get).1;rw[ho.not] at this;cases this
  exact⟨hr,hQ E T H nx a w hI.ext hI.sim (hI.final hok hall)⟩
 |fuel+1,L,a,w,E,T,H,nx,hI,hl=>by
  refine⟨λhr=>hQ E T H nx a w hI.ext hI.sim (hI.final hok (hI.some_ready hok hr)),λi hi=>?_⟩;obtain⟨o,ho⟩:=iG hI.lsz hi;refine hI.step hvp hbp hok ho (λa' w' E' T' H' nx' hI'=>zG hvp hbp hok hQ fuel _ a' w' E' T' H' nx' hI' ?_);have:=iz L i ops.length (bH.1 ho.get).1 hI.lsz ho.not;omega
theorem JH{rr:Option Nat}{Q:Exit->Act->World->Prop}{rid:Nat}(hm:P.follows .mixedOrders=true)(hvp:VP vp)(hbp:uV P bp)(hok:y5 vp bp N.n ops f C D=true)(hS:Sim E₀ N ⟨T,H,nx⟩ a w₀)(hs:Sub S H)
    (h:nq vp bp P N.n (ops.map (·.dst)) S (eI bp ops f) (D.map (eI bp ops)) (C.map (eI bp ops)) T H nx K)
    (hQ:∀E' T' H' nx' a' w',Ext E₀ w₀ E' w'->Sim E' N ⟨T',H',nx'⟩ a' w'->K T' H' nx'->Q .normal a' w'):(Code.region rid ops.toArray true).wpIn (FW rr) 0 P Q a w₀:=by
 refine wpIn_region_any hm ?_;have hdr:({w₀ with drawn:=w₀.drawn+1}:World).heap=w₀.heap:=rfl;have hext:Ext E₀ w₀ E₀ {w₀ with drawn:=w₀.drawn+1}:=Ext.same hdr;have hok:=Fg hok
 have hfalse:∀k,(Array.replicate ops.toArray.size false).getD k false=false:=by
  intro k;simp only[yX,Array.getElem?_replicate];split<;>rfl
 have hrest:de C (Array.replicate ops.toArray.size false)=C:=Ac.2 (λk _=>by rw[hfalse];rfl);refine zG (f:=f) (C:=C) (D:=D) (K:=K) (S:=S) (E₀:=E₀) (w₀:=w₀) hvp hbp hok hQ _ _ _ _ E₀ T H nx ⟨by simp,?_,hext,?_,λ_ _ _ _=>hs,.inl ⟨hfalse f,by rw[hrest];exact h⟩⟩ (by rw[List.size_toArray];unfold left;exact eK List.countP_le_length (by simp))
 ·intro j i h1;rw[hfalse] at h1;cases h1
 ·exact⟨hS.env.drew,hS.heap.same hdr,hS.fresh,hS.round,hS.floor,hS.size,λt=>(hS.tmps t).ext hext,hS.defers.ext hext⟩
end Go.Abs
namespace Go.Abs
open Go.RowKit
def xr(ops:List Oper):Bool:=
 let m:=Region.before ops.toArray
 let len:=ops.length
 ((List.range len).all λj=>(dM (ops.getD j default)).all λk=>k<j)&&
 ((List.range len).all λj=>(List.range len).all λi=>!dS m j i || (dM (ops.getD j default)).any λk=>k==i || dS m k i)
structure AnyOk(ops:List Oper):Prop where
 dir:∀(j:Nat)(o:Oper),ops[j]?=some o->∀k∈dM o,k<j
 clo:∀(j:Nat)(o:Oper)(i:Nat),ops[j]?=some o->i<ops.length->dS (Region.before ops.toArray) j i=true->∃k∈dM o,k=i\/dS (Region.before ops.toArray) k i=true
theorem F9{ops:List Oper}(h:xr ops=true):AnyOk ops:=by
 simp only[xr,eL] at h;obtain⟨h1,h2⟩:=h;rw[dQ] at h1 h2;have hlt:=λ{k:Nat}{o:Oper}(hk:ops[k]?=some o)=>(bH.1 hk).1;refine⟨λj o ho k hk=>?_,λj o i ho hi hb=>?_⟩
 ·have:=h1 j (eM.2 (hlt ho));rw[dQ] at this;have:=this k (by rw[cX ho];exact hk);simpa using this
 ·have:=h2 j (eM.2 (hlt ho));rw[dQ] at this;have:=this i (eM.2 hi);rw[cX ho,hb] at this;simp only[Bool.not_true,Bool.false_or,qS,lU,beq_iff_eq] at this;exact this
structure ByInv(P:Program)(n:Nat)(ops:List Oper)(I:(Nat->Bool)->Tm->Hp->Nat->Prop)(T:Tm)(H:Hp)(nx:Nat)(K:SP):Prop where
 start:I (λ_=>false) T H nx
 step:∀(i:Nat)(L:Nat->Bool)(T:Tm)(H:Hp)(nx:Nat),i<ops.length->L i=false->(∀k,k<ops.length->dS (Region.before ops.toArray) i k=true->L k=true)->I L T H nx->
  aop P n .text (ops.map (·.dst)) (ops.getD i default) T H nx (I λk=>L k || decide (k=i))
 last:∀(L:Nat->Bool)(T:Tm)(H:Hp)(nx:Nat),(∀k,k<ops.length->L k=true)->I L T H nx->K T H nx
theorem ByInv.mono{P:Program}{n:Nat}{ops:List Oper}{I:(Nat->Bool)->Tm->Hp->Nat->Prop}{T:Tm}{H:Hp}{nx:Nat}{K K':SP}(h:ByInv P n ops I T H nx K)(hK:∀T H nx,K T H nx->K' T H nx):ByInv P n ops I T H nx K':=
 ⟨h.start,h.step,λL T H nx h1 h2=>hK _ _ _ (h.last L T H nx h1 h2)⟩
structure GInv(N:Cfg)(ops:List Oper)(I:(Nat->Bool)->Tm->Hp->Nat->Prop)(E₀:Env)(w₀:World)(L:Array Bool)(a:Act)(w:World)(E:Env)(T:Tm)(H:Hp)(nx:Nat):Prop where
 lsz:L.size=ops.length
 dc:∀j i,L.getD j false=true->dS (Region.before ops.toArray) j i=true->i<ops.length->L.getD i false=true
 ext:Ext E₀ w₀ E w
 sim:Sim E N ⟨T,H,nx⟩ a w
 inv:I (λk=>L.getD k false) T H nx
variable{P:Program}{N:Cfg}{ops:List Oper}{I:(Nat->Bool)->Tm->Hp->Nat->Prop}{K:SP}{E₀:Env}{w₀:World}{L:Array Bool}{a:Act}{w:World}{E:Env}{T:Tm}{H:Hp}{nx:Nat}{T₀:Tm}{H₀:Hp}{nx₀:Nat}
theorem GInv.bits(hI:GInv N ops I E₀ w₀ L a w E T H nx)(hok:AnyOk ops){i:Nat}{o:Oper}(hr:Ready ops L i o){k:Nat}(hk:k<ops.length)(hb:dS (Region.before ops.toArray) i k=true):L.getD k false=true:=by
 obtain⟨q,hq,h⟩:=hok.clo i o k hr.get hk hb;rcases h with rfl|h
 ·exact hr.dir _ hq
 ·exact hI.dc q k (hr.dir _ hq) h hk
theorem GInv.step{rr:Option Nat}{Q:Exit->Act->World->Prop}{K':Act->World->Prop}(hI:GInv N ops I E₀ w₀ L a w E T H nx)(hok:AnyOk ops)(hby:ByInv P N.n ops I T₀ H₀ nx₀ K){i:Nat}{o:Oper}(hr:Ready ops L i o)
    (hK:∀a' w' E' T' H' nx',GInv N ops I E₀ w₀ (L.setIfInBounds i true) a' w' E' T' H' nx'->K' a' w'):wpOpIn (FW rr) 0 P ops.toArray Q i K' a w:=by
 have hi:i<ops.length:=(bH.1 hr.get).1;have hil:i<L.size:=by rw[hI.lsz];exact hi
 have hgeti:(ops.toArray)[i]?=some o:=by simpa using hr.get
 unfold wpOpIn;rw[hgeti];simp only;have hgo:ops.getD i default=o:=cX hr.get;have hset:=λk=>ed L i k hil;have main:=hby.step i (λk=>L.getD k false) T H nx hi hr.not (λk hk hb=>hI.bits hok hr hk hb) hI.inv;rw[hgo] at main
 have e:(λk=>(L.setIfInBounds i true).getD k false)=λk=>L.getD k false || decide (k=i):=funext λk=>by
  rw[hset];by_cases hk:k=i
  ·rw[if_pos hk,bR hk,Bool.or_true]
  ·rw[if_neg hk,bJ hk,Bool.or_false]
 have hs:=jE (rr:=rr) (ops:=ops.toArray) (Q:=Q) (next:=K') hI.sim main (λE' T' H' nx' a' w' he hS hk=>?_)
 ·exact hs
 ·refine hK a' w' E' T' H' nx' ⟨by simp[hI.lsz],?_,hI.ext.trans he,hS,?_⟩
  ·intro j k hj hb hkl;rw[hset] at hj |-;by_cases hki:k=i
   ·rw[if_pos hki]
   ·rw[if_neg hki];by_cases hji:j=i
    ·subst hji;exact hI.bits hok hr hkl hb
    ·rw[if_neg hji] at hj;exact hI.dc j k hj hb hkl
  ·rw[e];exact hk
theorem GInv.some_ready(hI:GInv N ops I E₀ w₀ L a w E T H nx)(hok:AnyOk ops)(h:Region.ready .any ops.toArray L=[]):∀k,k<ops.length->L.getD k false=true:=by
 rcases fc L ops.length with h1|⟨k,hk,hn,hall⟩
 ·exact h1
 ·exfalso;obtain⟨o,ho⟩:=dh hk
  have:k∈Region.ready .any ops.toArray L:=by
   refine mem_ready.2 ⟨?_,o,by simpa using ho,λe he hb=>hall _ ?_⟩
   ·have:k<L.size:=by rw[hI.lsz];exact hk
    simp[this] at hn |-;exact hn
   ·refine hok.dir k o ho e.on ?_;simp only[dM,cE,ik];exact⟨e,⟨by simpa using he,hb⟩,rfl⟩
  rw[h] at this;cases this
theorem DV{rr:Option Nat}{Q:Exit->Act->World->Prop}(hok:AnyOk ops)(hby:ByInv P N.n ops I T₀ H₀ nx₀ K)(hQ:∀E' T' H' nx' a' w',Ext E₀ w₀ E' w'->Sim E' N ⟨T',H',nx'⟩ a' w'->K T' H' nx'->Q .normal a' w'):
    ∀(fuel:Nat)(L:Array Bool)(a:Act)(w:World)(E:Env)(T:Tm)(H:Hp)(nx:Nat),GInv N ops I E₀ w₀ L a w E T H nx->left ops.length L<=fuel->wpAnyIn (FW rr) 0 P .any ops.toArray Q fuel L a w
 |0,L,a,w,E,T,H,nx,hI,hl=>by
  have hall:∀k,k<ops.length->L.getD k false=true:=by
   rcases fc L ops.length with h1|⟨k,hk,hn,hall⟩
   ·exact h1
   ·exfalso;have:left ops.length (L.setIfInBounds k true)<left ops.length L:=iz L k _ hk hI.lsz hn;omega
  have hr:Region.ready .any ops.toArray L=[]:=by
   refine Iy.2 (λi hi=>?_);obtain⟨o,ho⟩:=iG hI.lsz hi;have:=hall i (bH.1 ho.get).1;rw[ho.not] at this;cases this
  exact⟨hr,hQ E T H nx a w hI.ext hI.sim (hby.last _ T H nx hall hI.inv)⟩
 |fuel+1,L,a,w,E,T,H,nx,hI,hl=>by
  refine⟨λhr=>hQ E T H nx a w hI.ext hI.sim (hby.last _ T H nx (hI.some_ready hok hr) hI.inv),λi hi=>?_⟩;obtain⟨o,ho⟩:=iG hI.lsz hi;refine hI.step hok hby ho (λa' w' E' T' H' nx' hI'=>DV hok hby hQ fuel _ a' w' E' T' H' nx' hI' ?_);have:=iz L i ops.length (bH.1 ho.get).1 hI.lsz ho.not;omega
theorem MG{rr:Option Nat}{Q:Exit->Act->World->Prop}{rid:Nat}(hm:P.follows .mixedOrders=true)(hok:xr ops=true)(hS:Sim E₀ N ⟨T,H,nx⟩ a w₀)(h:ByInv P N.n ops I T H nx K)
    (hQ:∀E' T' H' nx' a' w',Ext E₀ w₀ E' w'->Sim E' N ⟨T',H',nx'⟩ a' w'->K T' H' nx'->Q .normal a' w'):(Code.region rid ops.toArray true).wpIn (FW rr) 0 P Q a w₀:=by
 refine wpIn_region_any hm ?_;have hdr:({w₀ with drawn:=w₀.drawn+1}:World).heap=w₀.heap:=rfl;have hext:Ext E₀ w₀ E₀ {w₀ with drawn:=w₀.drawn+1}:=Ext.same hdr;have hok:=F9 hok
 have hfalse:∀k,(Array.replicate ops.toArray.size false).getD k false=false:=by
  intro k;simp only[yX,Array.getElem?_replicate];split<;>rfl
 have hif:(λk=>(Array.replicate ops.toArray.size false).getD k false)=λ_=>false:=funext hfalse;refine DV (I:=I) (K:=K) (E₀:=E₀) (w₀:=w₀) hok h hQ _ _ _ _ E₀ T H nx ⟨by simp,?_,hext,?_,by rw[hif];exact h.start⟩ (by rw[List.size_toArray];unfold left;exact eK List.countP_le_length (by simp))
 ·intro j i h1;rw[hfalse] at h1;cases h1
 ·exact⟨hS.env.drew,hS.heap.same hdr,hS.fresh,hS.round,hS.floor,hS.size,λt=>(hS.tmps t).ext hext,hS.defers.ext hext⟩
end Go.Abs
namespace Go.Abs
open Go.RowKit
def awp(P:Program)(n:Nat):Code->Tm->Hp->Nat->CP->Prop
 |.skip,T,H,nx,K=>K .normal T H nx
 |.label _,T,H,nx,K=>K .normal T H nx
 |.region _ ops draw,T₀,H₀,nx₀,K=>∃T H nx Hf,Gh T₀ H₀ nx₀ T H nx Hf/\match draw with
  |true=>(if drawOk false ops.toList=true then rI P n .draw (ops.toList.map (·.dst)) ops.toList T H nx (K .normal) else aM (drawOk true ops.toList) (rI P n (.fresh nx) (ops.toList.map (·.dst)) ops.toList T H nx (K .normal)))\/
   (∃vp C,VP vp/\zD vp n ops.toList C=true/\np vp P n (ops.toList.map (·.dst)) (C.map λk=>ops.toList.getD k default) T H nx (K .normal))\/
   (∃vp bp C S,VP vp/\uV P bp/\ry vp bp n ops.toList C=true/\Sub S H/\i9 vp bp P n (ops.toList.map (·.dst)) S (C.map (eI bp ops.toList)) T H nx (K .normal))\/
   (∃vp bp f C D S,VP vp/\uV P bp/\y5 vp bp n ops.toList f C D=true/\Sub S H/\nq vp bp P n (ops.toList.map (·.dst)) S (eI bp ops.toList f) (D.map (eI bp ops.toList)) (C.map (eI bp ops.toList)) T H nx (K .normal))\/
   ∃I,xr ops.toList=true/\ByInv P n ops.toList I T H nx (K .normal)
  |false=>rI P n .text (ops.toList.map (·.dst)) ops.toList T H nx (K .normal)
 |.seq x y,T,H,nx,K=>awp P n x T H nx λe T H nx=>aN e (awp P n y T H nx K) (K e T H nx)
 |.cond c x y,T,H,nx,K=>a8 (ev T c) (awp P n x T H nx K) (awp P n y T H nx K)
 |.block id b,T,H,nx,K=>awp P n b T H nx λe T H nx=>K (rS id e) T H nx
 |.loop b,T,H,nx,K=>aY (awp P n b) T H nx K
 |.exit id,T,H,nx,K=>K (.exit id) T H nx
 |.ret,T,H,nx,K=>K .ret T H nx
 |.rangeFunc g ps x y,T,H,nx,K=>RF P n (.rangeFunc g ps x y) T H nx K
 |_,_,_,_,_=>False
theorem gg{P:Program}{N:Nat}:∀(c:Code){T:Tm}{H:Hp}{nx:Nat}{K K':CP},awp P N c T H nx K->(∀e T H nx,K e T H nx->K' e T H nx)->awp P N c T H nx K'
 |.skip,_,_,_,_,_,h,hK=>hK _ _ _ _ h
 |.label _,_,_,_,_,_,h,hK=>hK _ _ _ _ h
 |.exit _,_,_,_,_,_,h,hK=>hK _ _ _ _ h
 |.ret,_,_,_,_,_,h,hK=>hK _ _ _ _ h
 |.region _ ops draw,_,_,_,_,_,h,hK=>by
  obtain⟨T,H,nx,Hf,hg,h⟩:=h;refine⟨T,H,nx,Hf,hg,?_⟩;cases draw with
  |true=>
   simp only at h |-;rcases h with h|⟨vp,C,h0,h1,h3⟩|⟨vp,bp,C,S,h0,hbp,h1,hs,h3⟩|⟨vp,bp,f,C,D,S,h0,hbp,h1,hs,h3⟩|⟨I,h1,h3⟩
   ·left;split
    ·rename_i hd;rw[if_pos hd] at h;exact l6 (hK .normal) _ h
    ·rename_i hd;rw[if_neg hd] at h;exact⟨h.1,l6 (hK .normal) _ h.2⟩
   ·exact .inr (.inl ⟨vp,C,h0,h1,vT (hK .normal) _ h3⟩)
   ·exact .inr (.inr (.inl ⟨vp,bp,C,S,h0,hbp,h1,hs,mG (hK .normal) _ h3⟩))
   ·exact .inr (.inr (.inr (.inl ⟨vp,bp,f,C,D,S,h0,hbp,h1,hs,uf (hK .normal) _ h3⟩)))
   ·exact .inr (.inr (.inr (.inr ⟨I,h1,h3.mono (hK .normal)⟩)))
  |false=>exact l6 (hK .normal) _ h
 |.seq x y,_,_,_,K,K',h,hK=>by
  refine gg x h (λe T H nx h=>?_);cases e with
  |normal=>exact gg y h hK
  |exit i=>exact hK _ _ _ _ h
  |ret=>exact hK _ _ _ _ h
 |.cond c x y,T,H,nx,K,K',h,hK=>by
  simp only[awp] at h |-;unfold a8 at h |-;split at h
  ·exact⟨λhb=>gg x (h.1 hb) hK,λhb=>gg y (h.2 hb) hK⟩
  ·exact h
 |.block id b,_,_,_,_,_,h,hK=>gg b h (λe T H nx h=>hK _ _ _ _ h)
 |.loop b,T,H,nx,K,K',h,hK=>by
  obtain⟨n,h⟩:=h;refine⟨n,?_⟩
  induction n generalizing T H nx with
  |zero=>exact h
  |succ n ih=>
   obtain⟨T',H',nx',Hf,hw,h⟩:=h;refine⟨T',H',nx',Hf,hw,gg b h (λe T H nx h=>?_)⟩;cases e with
   |normal=>exact ih _ _ _ h
   |exit i=>exact hK _ _ _ _ h
   |ret=>exact hK _ _ _ _ h
 |.rangeFunc ..,_,_,_,_,_,h,hK=>h.mono hK
 |.scope _,_,_,_,_,_,h,_=>h
 |.goto _,_,_,_,_,_,h,_=>h
 |.refuse _,_,_,_,_,_,h,_=>h
theorem gl{P:Program}{N:Cfg}(hm:P.follows .mixedOrders=true):∀(c:Code){E:Env}{T:Tm}{H:Hp}{nx:Nat}{a:Act}{w:World}{K:CP},Sim E N ⟨T,H,nx⟩ a w->
    awp P N.n c T H nx K->c.wpIn (FW N.rd) 0 P (jT P N E w K) a w
 |.skip,_,_,_,_,_,_,_,hS,h=>wpIn_skip ⟨.normal,_,_,_,_,rfl,Ext.refl _ _,hS,h⟩
 |.label _,_,_,_,_,_,_,_,hS,h=>wpIn_label ⟨.normal,_,_,_,_,rfl,Ext.refl _ _,hS,h⟩
 |.exit i,_,_,_,_,_,_,_,hS,h=>wpIn_exit ⟨.exit i,_,_,_,_,rfl,Ext.refl _ _,hS,h⟩
 |.ret,_,_,_,_,_,_,_,hS,h=>wpIn_ret ⟨.ret,_,_,_,_,rfl,Ext.refl _ _,hS,h⟩
 |.region id ops draw,E₁,T₁,H₁,nx₁,a,w,K,hS₁,h=>by
  obtain⟨T,H,nx,Hf,hg,h⟩:=h;obtain⟨E,he₁,hS⟩:=hS₁.ghost hg;refine wpIn_mono (F:=FW N.rd) ?_ (λe a w h=>jT.trans he₁ h);cases draw with
  |false=>exact wpIn_region_list (uY ops.toList hS h (λE' T' H' nx' a' w' he hS' hk=>⟨.normal,E',T',H',nx',rfl,he,hS',hk⟩))
  |true=>
   simp only at h
   have key:∀dm:DM,dm.isText=false->drawOk dm.fr.isSome ops.toList=true->(∀m,dm.fr=some m->m=nx)->rI P N.n dm (ops.toList.map (·.dst)) ops.toList T H nx (K .normal)->(Code.region id ops true).wpIn (FW N.rd) 0 P (jT P N E w K) a w:=by
    intro dm hdm hok hm0 h;obtain⟨s,r,h0,h1,h2⟩:=ut hdm ops.toList h;have ht:Txt P N dm.fr ops.toList s r:=⟨h1,hok,by rw[h0];exact hm0⟩
    have:=KO (rr:=N.rd) (rid:=id) (Q:=jT P N E w K) (a:=a) (w₀:=w) (E₀:=E) hm ht (by rw[h0];exact hS) (λE' a' w' he hS'=>⟨.normal,E',_,_,_,rfl,he,hS',h2⟩);rw[Array.toArray_toList] at this;exact this
   rcases h with h|⟨vp,C,h0,h1,h3⟩|⟨vp,bp,C,S,h0,hbp,h1,hs,h3⟩|⟨vp,bp,f,C,D,S,h0,hbp,h1,hs,h3⟩|⟨I,h1,h3⟩
   ·split at h
    ·rename_i hok;exact key .draw rfl hok (λm hm=>(by cases hm)) h
    ·exact key (.fresh nx) rfl h.1 (λm hm=>by cases hm;rfl) h.2
   ·have:=ML (rr:=N.rd) (rid:=id) (Q:=jT P N E w K) (a:=a) (w₀:=w) (E₀:=E) hm h0 h1 hS h3 (λE' T' H' nx' a' w' he hS' hk=>⟨.normal,E',T',H',nx',rfl,he,hS',hk⟩);rw[Array.toArray_toList] at this;exact this
   ·have:=IJ (rr:=N.rd) (rid:=id) (Q:=jT P N E w K) (a:=a) (w₀:=w) (E₀:=E) hm h0 hbp h1 hS hs h3 (λE' T' H' nx' a' w' he hS' hk=>⟨.normal,E',T',H',nx',rfl,he,hS',hk⟩);rw[Array.toArray_toList] at this;exact this
   ·have:=JH (rr:=N.rd) (rid:=id) (Q:=jT P N E w K) (a:=a) (w₀:=w) (E₀:=E) hm h0 hbp h1 hS hs h3 (λE' T' H' nx' a' w' he hS' hk=>⟨.normal,E',T',H',nx',rfl,he,hS',hk⟩);rw[Array.toArray_toList] at this;exact this
   ·have:=MG (rr:=N.rd) (rid:=id) (Q:=jT P N E w K) (a:=a) (w₀:=w) (E₀:=E) hm h1 hS h3 (λE' T' H' nx' a' w' he hS' hk=>⟨.normal,E',T',H',nx',rfl,he,hS',hk⟩);rw[Array.toArray_toList] at this;exact this
 |.seq x y,E,T,H,nx,a,w,K,hS,h=>by
  refine wpIn_seq (wpIn_mono (gl hm x hS h) ?_);rintro e a' w' ⟨z,E',T',H',nx',rfl,he,hS',hk⟩;cases z with
  |normal=>exact wpIn_mono (gl hm y hS' hk) (λe a w h=>h.trans he)
  |exit i=>exact⟨.exit i,E',T',H',nx',rfl,he,hS',hk⟩
  |ret=>exact⟨.ret,E',T',H',nx',rfl,he,hS',hk⟩
 |.cond c x y,E,T,H,nx,a,w,K,hS,h=>by
  simp only[awp] at h;unfold a8 at h;split at h
  ·rename_i b hb;have hr:=nQ (E:=E) (w:=w) (a:=a) hS.tmps c;simp only at hr;rw[hb] at hr;generalize hv:a.eval c=v at hr;cases hr;exact wpIn_cond_split hv (λhb=>gl hm x hS (h.1 hb)) (λhb=>gl hm y hS (h.2 hb))
  ·exact h.elim
 |.block id b,E,T,H,nx,a,w,K,hS,h=>by
  refine wpIn_block (wpIn_mono (gl hm b hS h) ?_);rintro e a' w' ⟨z,E',T',H',nx',rfl,he,hS',hk⟩;cases z with
  |normal=>exact⟨.normal,E',T',H',nx',rfl,he,hS',hk⟩
  |exit i=>
   simp only[AEx.cv,Exit.inBlock];split
   ·rename_i hi;refine⟨.normal,E',T',H',nx',rfl,he,hS',?_⟩;simp only[rS,if_pos hi] at hk;exact hk
   ·rename_i hi;refine⟨.exit i,E',T',H',nx',rfl,he,hS',?_⟩;simp only[rS,if_neg hi] at hk;exact hk
  |ret=>exact⟨.ret,E',T',H',nx',rfl,he,hS',hk⟩
 |.loop b,E,T,H,nx,a,w,K,hS,h=>by
  obtain⟨n,h⟩:=h;refine wpIn_loop_rounds n ?_
  have key:∀n(E':Env) T H nx a w',Ext E w E' w'->Sim E' N ⟨T,H,nx⟩ a w'->zn (awp P N.n b) K n T H nx->Code.roundsIn (FW N.rd) 0 P b (jT P N E w K) n a w':=by
   intro n
   induction n with
   |zero=>intro E' T H nx a w' _ _ h;exact h
   |succ n ih=>
    intro E' T H nx a w' he hS h;obtain⟨T',H',nx',Hf,hwk,h⟩:=h;obtain⟨E₁,he₁,hS₁⟩:=hS.ghost hwk;refine wpIn_mono (gl hm b hS₁ h) ?_;rintro e a' w'' ⟨z,E'',T'',H'',nx'',rfl,he',hS',hk⟩;cases z with
    |normal=>exact ih E'' _ _ _ _ _ ((he.trans he₁).trans he') hS' hk
    |exit i=>exact⟨.exit i,E'',T'',H'',nx'',rfl,(he.trans he₁).trans he',hS',hk⟩
    |ret=>exact⟨.ret,E'',T'',H'',nx'',rfl,(he.trans he₁).trans he',hS',hk⟩
  exact key n E T H nx a w (Ext.refl _ _) hS h
 |.rangeFunc ..,_,_,_,_,_,_,_,hS,h=>h N _ _ _ rfl hS
 |.scope _,_,_,_,_,_,_,_,_,h=>h.elim
 |.goto _,_,_,_,_,_,_,_,_,h=>h.elim
 |.refuse _,_,_,_,_,_,_,_,_,h=>h.elim
def mU(P:Program)(T:Tm)(H:Hp):List ResultVar->Option (List AV)
 |[]=>some []
 |.tmp t::l=>match mU P T H l with|some xs=>some (T t::xs)|none=>none
 |.cell a t::l=>match lF P H t (T a),mU P T H l with|some x,some xs=>some (x::xs)|_,_=>none
def ma(P:Program)(T:Tm)(H:Hp)(l:List ResultVar):Option AV:=match mU P T H l with
 |some [x]=>some x
 |some xs=>some (.tup xs)
 |none=>none
def Cells(w w':World):Prop:=∀a v,w.cell? a=some v->w'.cell? a=some v
theorem sQ{P:Program}{E:Env}{H:Hp}{nx:Nat}{w:World}(hh:HeapOk E H nx w){p:AV}{v:Value}(hr:Rel E w p v){t:TypeId}{x:AV}(hx:lF P H t p=some x):
    ∃y,(∀w',Cells w w'->(do loadVar t (<-asAddr v):Sem Value).run P w'=.ok y w')/\Rel E w x y:=by
 unfold lF at hx;split at hx
 case isFalse=>cases hx
 case isTrue ht=>
  split at hx
  case isTrue hagg=>
   split at hx
   case isFalse=>cases hx
   case isTrue hpos=>
    cases hrd:rd H (P.cellsOf t) p with
    |none=>simp[hrd] at hx
    |some xs=>
     simp[hrd] at hx;subst hx;obtain⟨blk,o,vals,rfl,hlen,hrow⟩:=zy hh hr hrd hpos;refine⟨.agg vals.toArray,λw' hw=>?_,.agg xs vals hrow.len hrow.rel⟩;have hl:vals.length=P.cellsOf t:=hrow.len.trans hlen;simp only[asAddr,loadVar,bA,eG,bu,iV ht,hagg,if_true,aU ht,<-hl];rw[run_loadCells_list (P:=P) (w:=w') ⟨blk,o,none⟩ vals (λj v hv=>by rw[ci];exact hw _ _ (hrow.cell _ _ hv))];rfl
  case isFalse hagg=>
   obtain⟨blk,o,y,rfl,hc,hrel⟩:=xS hh hr hx;refine⟨y,λw' hw=>?_,hrel⟩;simp[asAddr,loadVar,iV ht,hagg,hw _ _ hc]
theorem uk{P:Program}{E:Env}{w:World}{H:Hp}{nx:Nat}{T:Tm}{tmps:Array Value}(hh:HeapOk E H nx w)(ht:∀t,Rel E w (T t) (tmps.getD t Go.undef)):∀(l:List ResultVar)(xs:List AV),mU P T H l=some xs->
    ∃vs,(∀w',Cells w w'->(l.mapM (λr:ResultVar=>match r with|.tmp t=>(pure (tmps.getD t Go.undef):Sem Value)|.cell a t=>do loadVar t (<-asAddr (tmps.getD a Go.undef)))).run P w'=.ok vs w')/\dI E w xs vs
 |[],xs,h=>by cases h;exact⟨[],λ_ _=>rfl,rfl,by simp⟩
 |.tmp t::l,xs,h=>by
  simp only[mU] at h;split at h
  ·rename_i ys hy;cases h;obtain⟨vs,h1,h2⟩:=uk (P:=P) hh ht l ys hy;refine⟨tmps.getD t Go.undef::vs,λw' hw=>?_,by simp[h2.1],λi x y hx hy=>?_⟩
   ·rw[List.mapM_cons];simp only[bA,eG,bu,h1 w' hw]
   ·cases i with
    |zero=>simp at hx hy;subst hx;rw[<-hy];have:=ht t;simpa using this
    |succ i=>exact h2.2 i x y (by simpa using hx) (by simpa using hy)
  ·cases h
 |.cell a t::l,xs,h=>by
  simp only[mU] at h;split at h
  ·rename_i x0 ys hx0 hy;cases h;obtain⟨vs,h1,h2⟩:=uk (P:=P) hh ht l ys hy;obtain⟨y0,k1,k2⟩:=sQ (P:=P) hh (ht a) hx0;refine⟨y0::vs,λw' hw=>?_,by simp[h2.1],λi x y hx hy=>?_⟩
   ·rw[List.mapM_cons,bA];have:=k1 w' hw;rw[this];simp only[bA,eG,bu,h1 w' hw]
   ·cases i with
    |zero=>simp at hx hy;subst hx;rw[<-hy];exact k2
    |succ i=>exact h2.2 i x y (by simpa using hx) (by simpa using hy)
  ·cases h
theorem rO{P:Program}{E:Env}{w:World}{H:Hp}{nx:Nat}{T:Tm}{tmps:Array Value}{fn:Func}{x:AV}(hh:HeapOk E H nx w)(ht:∀t,Rel E w (T t) (tmps.getD t Go.undef))(h:ma P T H fn.results.toList=some x):
    ∃v,(∀w',Cells w w'->(results fn tmps).run P w'=.ok v w')/\Rel E w x v:=by
 have key:∀xs,mU P T H fn.results.toList=some xs->∃vs:Array Value,(∀w',Cells w w'->(results fn tmps).run P w'=.ok (if h:vs.size=1 then vs[0] else .tuple vs) w')/\dI E w xs vs.toList:=by
  intro xs hx;obtain⟨vs,h1,h2⟩:=uk (P:=P) hh ht _ _ hx;refine⟨vs.toArray,λw' hw=>?_,h2⟩
  have e:results fn tmps=(do
      let vs <-(List.toArray <$> fn.results.toList.mapM (λr:ResultVar=>match r with|.tmp t=>(pure (tmps.getD t Go.undef):Sem Value)|.cell a t=>do loadVar t (<-asAddr (tmps.getD a Go.undef))):Sem (Array Value))
      pure (if h:vs.size=1 then vs[0] else .tuple vs)):=by
   unfold results;rw[Array.mapM_eq_mapM_toList];rfl
  rw[e,map_eq_pure_bind];simp only[bA,h1 w' hw,bu,eG]
 unfold ma at h;split at h
 ·rename_i y hy;cases h;obtain⟨vs,h1,h2⟩:=key _ hy;have hs:vs.size=1:=by have:=h2.1;simpa using this
  refine⟨vs[0],λw' hw=>by rw[h1 w' hw,dif_pos hs],h2.2 0 _ _ rfl (by simp[hs])⟩
 ·rename_i xs hne hy;cases h;obtain⟨vs,h1,h2⟩:=key _ hy
  have hs:vs.size≠1:=by
   intro hs;have:=h2.1;rw[Array.length_toList,hs] at this
   match xs,this,hne with
   |[x],_,hne=>exact hne x rfl
  refine⟨.tuple vs,λw' hw=>by rw[h1 w' hw,dif_neg hs],?_⟩;exact Rel.tup _ vs.toList h2.1 h2.2
 ·cases h
theorem Rel.world{E:Env}{w w':World}(hc:∀a v,w.cell? a=some v->w'.cell? a=some v){x:AV}{v:Value}(h:Rel E w x v):Rel E w' x v:=by
 induction h with
 |undef v=>exact .undef v
 |bool b=>exact .bool b
 |int k n=>exact .int k n
 |str s=>exact .str s
 |nilp=>exact .nilp
 |nilf=>exact .nilf
 |yld b l h=>exact .yld b l h
 |mp b k h=>exact .mp b k h
 |nilm=>exact .nilm
 |itr b k h=>exact .itr b k h
 |ptr b n off blk sz h=>exact .ptr b n off blk sz h
 |iptr cells off blk o vals h1 h2 _ ih=>exact .iptr cells off blk o vals h1 (λi h=>hc _ _ (h2 i h)) ih
 |eslnil=>exact .eslnil
 |esl a=>exact .esl a
 |slnil sz=>exact .slnil sz
 |slempty sz a c=>exact .slempty sz a c
 |sl sz elems blk o cap vals h1 hlen hsz h2 _ ih=>exact .sl sz elems blk o cap vals h1 hlen hsz (λi h=>hc _ _ (h2 i h)) ih
 |msl b n sz off len blk bsz cap h hl hc' hn=>exact .msl b n sz off len blk bsz cap h hl hc' hn
 |msl0 b sz v h=>exact .msl0 b sz v h
 |func f caps cv hl _ ih=>exact .func f caps cv hl ih
 |bfn f caps cv hl _ ih=>exact .bfn f caps cv hl ih
 |agg cs vs hl _ ih=>exact .agg cs vs hl ih
 |tup cs vs hl _ ih=>exact .tup cs vs hl ih
theorem xP{w:World}{D:Nat}{o o':Obj}(hD:w.heap[D]?=some o)(hno:∀c e f,o≠.cells c e f):∀a v,w.cell? a=some v->(w.putObj D o').cell? a=some v:=by
 intro a v h
 have hne:a.block≠D:=by
  intro e;unfold World.cell? at h;rw[e,hD] at h;split at h
  ·rename_i hh;cases hh;exact absurd rfl (hno _ _ _)
  ·cases h
 unfold World.cell? at h |-
 have:(w.putObj D o').heap[a.block]?=w.heap[a.block]?:=by
  simp only[World.putObj];exact FQ (Ne.symm hne)
 rw[this];exact h
theorem He{P:Program}{w:World}{D:Nat}(hD:w.heap[D]?=some (.deferred (some []))):(Instr.takeDeferred D).run P w=.ok [] (w.putObj D (.deferred none)):=by
 unfold Instr.takeDeferred;simp[getObj,setObj,Sem.run,hD,World.putObj,bind,Sem.bind,pure]
def HS(w w':World):Prop:=∀(k:Nat)(o:Obj),w.heap[k]?=some o->(∀ds,o≠.deferred ds)->w'.heap[k]?=some o
theorem mM{P:Program}{fn:Func}{tmps:Array Value}{R:Ending->World->Prop}{E:Env}{N:Cfg}{w₀:World}{v:Value}(hv:∀w,Cells w₀ w->(results fn tmps).run P w=.ok v w)
    (hR:∀w,Below E.base w₀ w->Below N.floor w₀ w->(w.heap.size=w₀.heap.size/\w₀.drawn<=w.drawn)->HS w₀ w->(∀a v,w₀.cell? a=some v->w.cell? a=some v)->R (.returned v) w):
    ∀(ds:List Deferred)(w:World),sH E N w ds->Below E.base w₀ w->Below N.floor w₀ w->(w.heap.size=w₀.heap.size/\w₀.drawn<=w.drawn)->HS w₀ w->(∀a v,w₀.cell? a=some v->w.cell? a=some v)->LeavesInM Fence.wide 0 P fn tmps R ds .returning w
 |[],w,_,hb,hb2,hs,hu,hc=>⟨v,hv w hc,hR w hb hb2 hs hu hc⟩
 |d::ds,w,hm,hb,hb2,hs,hu,hc=>by
  obtain⟨D,rfl,hD1,hD3,_,hD2⟩:=hm.2 d (by simp);have hpw:=BM.1 hm.1
  have hne:∀k,D≠k->(w.putObj D (.deferred none)).heap[k]?=w.heap[k]?:=λk hk=>by
   simp only[World.putObj];exact FQ hk
  refine⟨by simp,.inl ⟨D,w.putObj D (.deferred none),rfl,He hD2,mM (N:=N) hv hR ds _ ⟨hpw.2,λd' hd'=>?_⟩ ?_ ?_ ?_ ?_ ?_⟩⟩
  ·obtain⟨D',rfl,h2,h2',h3,h4⟩:=hm.2 d' (by simp[hd']);refine⟨D',rfl,h2,h2',h3,?_⟩;rw[hne D' (λe=>hpw.1 _ hd' (by rw[e]))];exact h4
  ·exact hb.trans ⟨rfl,rfl,rfl,by simp[World.putObj],λk hk=>hne k (by omega)⟩
  ·exact hb2.trans ⟨rfl,rfl,rfl,by simp[World.putObj],λk hk=>hne k (by omega)⟩
  ·exact⟨by simp[World.putObj,hs.1],hs.2⟩
  ·intro k o ho hno;have h1:=hu k o ho hno;rw[hne k (λe=>by subst e;rw[hD2] at h1;cases h1;exact hno _ rfl)];exact h1
  ·exact λa v h=>xP hD2 (by intros;simp) a v (hc a v h)
theorem Rel.env{E E':Env}{w:World}(hi:E'.imm=E.imm)(hm:E'.mu=E.mu)(hs:E'.sp=E.sp){x:AV}{v:Value}(h:Rel E w x v):Rel E' w x v:=
 h.mono (λb hb=>by rw[hi];exact hb) (λb n x hb=>by rw[hm];exact hb) (λb x hb=>by rw[hs];exact hb)
theorem wY{E E':Env}{w w₁ w':World}{H:Hp}{nx:Nat}(hE:EnvOk E w)(he:Ext E w E' w₁)(hE':EnvOk E' w₁)(hh:HeapOk E' H nx w₁)(hb:Below E'.base w₁ w')(hb2:Below w.heap.size w₁ w')(hs:w'.heap.size=w₁.heap.size/\w₁.drawn<=w'.drawn)(hu:HS w₁ w')(hc:∀a v,w₁.cell? a=some v->w'.cell? a=some v):
    Ext E w {E' with dm:=E.dm} w'/\EnvOk {E' with dm:=E.dm} w'/\HeapOk {E' with dm:=E.dm} H nx w'/\∀x v,Rel E' w₁ x v->Rel {E' with dm:=E.dm} w' x v:=by
 have hrel:∀x v,Rel E' w₁ x v->Rel {E' with dm:=E.dm} w' x v:=λx v h=>Rel.env (E:=E') (E':={E' with dm:=E.dm}) rfl rfl rfl (h.world hc)
 have hmapB:∀{ks vs bs ck es},MapB E' w₁ ks vs bs ck es->MapB {E' with dm:=E.dm} w' ks vs bs ck es:=λh=>
  ⟨h.len,h.len',h.blen,λi x e h1 h2=>hrel _ _ (h.key i x e h1 h2),λi x e h1 h2=>hrel _ _ (h.val i x e h1 h2),h.born,h.nd,h.lt⟩
 have hmap:∀{ks vs es clock},MapOk E' w₁ ks vs es clock->MapOk {E' with dm:=E.dm} w' ks vs es clock:=λh=>
  ⟨h.len,h.len',λi x e h1 h2=>hrel _ _ (h.key i x e h1 h2),λi x e h1 h2=>hrel _ _ (h.val i x e h1 h2),h.born,h.clk⟩
 refine⟨⟨he.base,he.w0,he.imm,he.new,he.mu,he.sp,he.lp,λb hb'=>⟨hb',?_⟩,by rw[hs.1];exact he.size,λb hb'=>?_,eK he.dr hs.2⟩,⟨λb hb'=>by rw[hs.1];exact hE'.lt b hb',hE'.below.trans hb,λb hb'=>?_,hE'.spi,λb k hk=>?_,hE'.spm,λb r T hl=>?_⟩,⟨λb cs hb'=>?_,hh.dom,hh.apart,by rw[hs.1];exact hh.size,hh.top,λb x hb' hx=>?_,hh.nsp⟩,hrel⟩
 ·rw[hb2.block b (hE.dlt hb'),(he.dm b hb').2]
 ·rw[hb2.block b (hE.lt b hb'),he.keep b hb']
 ·obtain⟨ds,hd⟩:=hE.dm b hb';exact⟨ds,by rw[hb2.block b (hE.dlt hb'),(he.dm b hb').2,hd]⟩
 ·obtain⟨h1,h2,o,h3,h4,h5⟩:=hE'.spb b k hk;exact⟨h1,h2,o,hu k o h3 h5,h4,h5⟩
 ·obtain⟨k,st,p,h1,h2,h3⟩:=hE'.lp b r T hl;exact⟨k,st,p,h1,hu _ _ h2 (by intro ds;simp),λt=>hrel _ _ (h3 t)⟩
 ·rcases hh.box b cs hb' with hn|⟨blk,sz,hx⟩
  ·exact .inl hn
  ·obtain⟨vals,ty,fz,k1,kz,k2,k3,k4⟩:=hx.cells
   exact .inr ⟨blk,sz,hx.mu,hx.base,hx.imm,vals,ty,fz,hu _ _ k1 (by intro ds; simp),kz,k2,k3,fun i x hx'=>by
    obtain⟨v,e1,e2,e3⟩:=k4 i x hx';exact⟨v,e1,e2,hrel _ _ e3⟩⟩
 ·obtain⟨k,h1,h2⟩:=hh.spec b x hb' hx;refine⟨k,h1,?_⟩;cases x with
  |omap ks vs=>
   obtain⟨es,clock,h3,h4⟩:=h2;exact⟨es,clock,hu _ _ h3 (by intro ds;simp),hmap h4⟩
  |oloop r T=>exact⟨hu _ _ h2.1 (by intro ds;simp),h2.2⟩
  |oiter m n0 seen=>
   obtain⟨km,last,h3,h4,h5⟩:=h2;exact⟨km,last,hu _ _ h3 (by intro ds;simp),h4,h5⟩
  |bmap ks vs bs ck=>
   obtain⟨es,h3,h4⟩:=h2;exact⟨es,hu _ _ h3 (by intro ds;simp),hmapB h4⟩
  |biter m n0 seen=>
   obtain⟨km,h3,h4⟩:=h2;exact⟨km,hu _ _ h3 (by intro ds;simp),h4⟩
  |_=>exact h2.elim
def AEx.ends:AEx->Bool
 |.exit _=>false
 |_=>true
def T0(args:List AV):Tm:=λt=>args.getD t .undef
def yp(P:Program)(fn:Func)(args:List AV)(H:Hp)(nx:Nat)(K:AV->Hp->Nat->Prop):Prop:=
 ∃c,fn.body=some c/\args.length<=fn.ntmps/\awp P fn.ntmps c (T0 args) H nx λe T H nx=>aM e.ends (ax (ma P T H fn.results.toList) λx=>K x H nx)
theorem F5{E:Env}{w:World}{args:List AV}{vs:List Value}(h:dI E w args vs)(N:Nat):∀t,Rel E w (T0 args t) ((vs.toArray++Array.replicate (N-vs.toArray.size) Go.undef).getD t Go.undef):=by
 intro t;unfold T0;by_cases hlt:t<args.length
 ·have h1:args.getD t .undef=args[t]:=by simp[List.getD,hlt]
  have hv:t<vs.length:=by rw[h.1];exact hlt
  have h2:(vs.toArray++Array.replicate (N-vs.toArray.size) Go.undef).getD t Go.undef=vs[t]:=by
   simp[Array.getElem?_append,hv]
  rw[h1,h2];exact h.2 t _ _ (by simp) (by simp)
 ·have h1:args.getD t .undef=.undef:=by
    simp only[List.getD];rw[List.getElem?_eq_none (by omega)];rfl
  rw[h1];exact .undef _
theorem Cx{P:Program}{f:FuncId}{fn:Func}{args:List AV}{H:Hp}{nx:Nat}{K:AV->Hp->Nat->Prop}(hm:P.follows .mixedOrders=true)(hf:P.funcs[f]?=some fn)(hb:yp P fn args H nx K)
    {E:Env} {w:World} {vs:List Value} (hE:EnvOk E w) (hh:HeapOk E H nx w) (hfr:cJ E nx) (hv:dI E w args vs):
    Calls P f vs.toArray w λe w'=>∃v E' r H' nx',e=.returned v/\Ext E w E' w'/\EnvOk E' w'/\HeapOk E' H' nx' w'/\cJ E' nx'/\Rel E' w' r v/\K r H' nx':=by
 obtain⟨c,hc,hlen,h⟩:=hb;refine(callsIn_wide (n:=0)).1 (callsIn_of_wp_marks hf hc trivial ?_)
 have hS:Sim E ⟨fn.ntmps,w.heap.size,none⟩ ⟨T0 args,H,nx⟩ {tmps:=vs.toArray++Array.replicate (fn.ntmps-vs.toArray.size) Go.undef,defers:=[]} w:=by
  refine⟨hE,hh,hfr,λl hl=>(by cases hl),bc _,?_,F5 hv _,⟨It,λd hd=>(by cases hd)⟩⟩;simp[hv.1];omega
 refine wpIn_mono (F:=Fence.wide) (gl hm c hS h) ?_;rintro e a' w₁ ⟨x,E',T,H',nx',rfl,he,hS',hk⟩;obtain⟨hx,hk⟩:=hk;cases hr:ma P T H' fn.results.toList with
 |none=>rw[hr] at hk;exact hk.elim
 |some r=>
  rw[hr] at hk;obtain⟨v,h1,h2⟩:=rO (P:=P) hS'.heap hS'.tmps hr
  have:LeavesInM Fence.wide 0 P fn a'.tmps (λe w'=>∃v E' r H' nx',e=.returned v/\Ext E w E' w'/\EnvOk E' w'/\HeapOk E' H' nx' w'/\cJ E' nx'/\Rel E' w' r v/\K r H' nx') a'.defers .returning w₁:=by
   refine mM (E:=E') (N:=⟨fn.ntmps,w.heap.size,none⟩) (w₀:=w₁) h1 (λw' hb hb2 hs hu hc=>?_) a'.defers w₁ hS'.defers (Below.refl _ _) (Below.refl _ _) ⟨rfl,bc _⟩ (λ_ _ h _=>h) (λ_ _ h=>h);obtain⟨k1,k2,k3,k4⟩:=wY hE he hS'.env hS'.heap hb hb2 hs hu hc;exact⟨v,_,r,H',nx',rfl,k1,k2,k3,hS'.fresh,k4 _ _ h2,hk⟩
  cases x with
  |normal=>exact this
  |ret=>exact this
  |exit i=>cases hx
theorem Fn.of_body{P:Program}{f:FuncId}{fn:Func}{args:List AV}{H:Hp}{nx:Nat}{K:AV->Hp->Nat->Prop}(hm:P.follows .mixedOrders=true)(hf:P.funcs[f]?=some fn)(hc:cok P f=true)(hb:yp P fn args H nx K):Fn P f args H nx K:=
 ⟨hc,λE w vs hE hh hfr hv=>Cx hm hf hb hE hh hfr hv⟩
theorem Pure.of_fn{P:Program}{f:FuncId}{args:List AV}{r:AV}(h:Fn P f args aP 0 λx H nx=>Snap H x r):Pure P f args r:=by
 refine⟨h.1,λimm w vs hi hv=>?_⟩
 let E:Env:=⟨w.heap.size,w,imm,λ_ _=>none,λ_=>none,λ_=>none,λ_=>False⟩
 have hE:EnvOk E w:=⟨hi,Below.refl _ _,λ_ h=>h.elim,λ_ _ _ h=>(by cases h),λ_ _ h=>(by cases h),λ_ _ h=>(by cases h),λ_ _ _ h=>(by cases h)⟩
 have hv':dI E w args vs:=⟨hv.1,λi x y hx hy=>Rel.mono (E:=E0 imm) (E':=E) (λ_ h=>h) (λ_ _ _ h=>h) (λ_ _ h=>h) (hv.2 i x y hx hy)⟩
 refine(h.2 E w vs hE (HeapOk.noBox (bc _)) (λ_ _=>⟨λ_=>rfl,rfl,rfl⟩) hv').mono ?_;rintro e w' ⟨v,E',x,H',nx',rfl,he,hE',hh',hfr',hrel,hs⟩;refine⟨v,λb=>E'.imm b\/iW E' H' b,rfl,?_,λb hb=>.inl (he.imm b hb),?_,?_,hs.sound hh' hrel,he.dr⟩
 ·have:=hE'.below;rw[he.base,he.w0] at this;exact this
 ·rintro b (hb|⟨b',cs,sz,h1,h2⟩)
  ·exact he.new b hb
  ·have:=(hh'.blk_lt h1 h2).2.1;rw[he.base] at this;exact .inr this
 ·rintro b (hb|⟨b',cs,sz,h1,h2⟩)
  ·exact hE'.lt b hb
  ·exact(hh'.blk_lt h1 h2).1
theorem PureF.of_fn{P:Program}{f:FuncId}{args:List AV}{r:AV}(h:Fn P f args aP 0 λx H nx=>SnapF H x r):PureF P f args r:=by
 refine⟨h.1,λimm w vs hi hv=>?_⟩
 let E:Env:=⟨w.heap.size,w,imm,λ_ _=>none,λ_=>none,λ_=>none,λ_=>False⟩
 have hE:EnvOk E w:=⟨hi,Below.refl _ _,λ_ h=>h.elim,λ_ _ _ h=>(by cases h),λ_ _ h=>(by cases h),λ_ _ h=>(by cases h),λ_ _ _ h=>(by cases h)⟩
 have hv':dI E w args vs:=⟨hv.1,λi x y hx hy=>Rel.mono (E:=E0 imm) (E':=E) (λ_ h=>h) (λ_ _ _ h=>h) (λ_ _ h=>h) (hv.2 i x y hx hy)⟩
 refine(h.2 E w vs hE (HeapOk.noBox (bc _)) (λ_ _=>⟨λ_=>rfl,rfl,rfl⟩) hv').mono ?_;rintro e w' ⟨v,E',x,H',nx',rfl,he,hE',hh',hfr',hrel,hs⟩;refine⟨v,λb=>iW E' H' b,rfl,?_,?_,?_,hs.sound hh' hrel,he.dr⟩
 ·have:=hE'.below;rw[he.base,he.w0] at this;exact this
 ·rintro b ⟨b',cs,sz,h1,h2⟩;have:=(hh'.blk_lt h1 h2).2.1;rw[he.base] at this;exact this
 ·rintro b ⟨b',cs,sz,h1,h2⟩;exact(hh'.blk_lt h1 h2).1
theorem Pure.of_body{P:Program}{f:FuncId}{fn:Func}{args:List AV}{r:AV}(hm:P.follows .mixedOrders=true)(hf:P.funcs[f]?=some fn)(hc:cok P f=true)(hb:yp P fn args aP 0 λx H nx=>Snap H x r):Pure P f args r:=
 Pure.of_fn (Fn.of_body hm hf hc hb)
def dv(H:Hp)(b:Nat):Hp:=λx=>if x=b then none else H x
theorem pq{H:Hp}{b:Nat}:dv H b b=none:=by simp[dv]
theorem jx{H:Hp}{b x:Nat}{cs:List AV}(h:dv H b x=some cs):x≠b/\H x=some cs:=by
 unfold dv at h;split at h
 ·cases h
 ·exact⟨‹_›,h⟩
theorem HeapOk.del{E:Env}{H:Hp}{nx:Nat}{w:World}(h:HeapOk E H nx w)(b:Nat):HeapOk E (dv H b) nx w:=
 h.fewer (λ_ _ hb=>(jx hb).2) (λx cs hb=>h.dom x cs (jx hb).2)
theorem BF{E:Env}{H:Hp}{nx:Nat}{w:World}(hE:EnvOk E w)(hh:HeapOk E H nx w){b k:Nat}{o o':Obj}(hs:E.sp b=some k)(ho:w.heap[k]?=some o)
    (hc:lu o=false) (hc':lu o'=false) (hd:∀ds,o≠.deferred ds) (hd':∀ds,o'≠.deferred ds)
    (hl:∀r T,E.lp b=some (r,T)->∃st p,o'=.loop {r with state:=st,pending:=p}) (hH:∀x,H b=some [x]->x.special=false):
    Ext E w E (w.putObj k o')/\EnvOk E (w.putObj k o')/\HeapOk E H nx (w.putObj k o'):=by
 obtain⟨hbase,himm,_⟩:=hE.spb b k hs;have hlt:k<w.heap.size:=(kT.1 ho).1;have hne:∀k',k'≠k->(w.putObj k o').heap[k']?=w.heap[k']?:=λk' h=>World.putObj_heap_other h;have hself:(w.putObj k o').heap[k]?=some o':=World.putObj_heap_same hlt
 have hcell:∀blk vals ty fz,w.heap[blk]?=some (.cells vals ty fz)->blk≠k:=λblk vals ty fz h e=>by
  subst e;rw[ho] at h;cases h;cases hc
 have hcs:∀ a v,w.cell? a=some v→(w.putObj k o').cell? a=some v:=xP ho (by
  intro c e f e';subst e';cases hc)
 have he:Ext E w E (w.putObj k o'):=⟨rfl,rfl,fun _ h=>h,fun _ h=>.inl h,fun _ _ _ h=>h,fun _ _ h=>h,fun _ _ h=>h,fun b' hb'=>⟨hb',hne b' (fun e=>by
  subst e;obtain⟨ds,hds⟩:=hE.dm _ hb';rw[ho] at hds;cases hds;exact hd _ rfl)⟩,by simp,λb' hb'=>hne b' (λe=>himm (e▸hb')),bc _⟩
 have hspE:∀b' x,b'≠b->∀k',E.sp b'=some k'->yJ E w b' k' x->yJ E (w.putObj k o') b' k' x:=by
  intro b' x hb' k' hk' h;have hkk:k'≠k:=λe=>hb' (hE.spi b' b k (by rw[<-e];exact hk') hs);cases x with
  |omap ks vs=>
   obtain⟨es,clock,h1,h2⟩:=h;exact⟨es,clock,(hne _ hkk).trans h1,h2.ext he⟩
  |oloop r T=>exact⟨(hne _ hkk).trans h.1,h.2⟩
  |oiter m n0 seen=>
   obtain⟨km,last,h1,h2,h3⟩:=h;exact⟨km,last,(hne _ hkk).trans h1,h2,h3⟩
  |bmap ks vs bs ck=>
   obtain⟨es,h1,h2⟩:=h;exact⟨es,(hne _ hkk).trans h1,h2.ext he⟩
  |biter m n0 seen=>
   obtain⟨km,h1,h2⟩:=h;exact⟨km,(hne _ hkk).trans h1,h2⟩
  |_=>exact h.elim
 refine ⟨he,⟨fun b' hb'=>by simpa using hE.lt b' hb',hE.below.trans ⟨rfl,rfl,rfl,by simp,fun k' hk'=>hne k' (by omega)⟩,fun b' hb'=>?_,hE.spi,fun b' k' hk'=>?_,hE.spm,fun b' r T hl'=>?_⟩,
  ⟨λb' cs hb'=>?_,hh.dom,hh.apart,by simpa using hh.size,hh.top,λb' x hb' hx=>?_,hh.nsp⟩⟩
 ·obtain⟨ds,hds⟩:=hE.dm b' hb';exact⟨ds,by rw[(he.dm b' hb').2];exact hds⟩
 ·obtain⟨h1,h2,o1,h3,h4,h5⟩:=hE.spb b' k' hk';by_cases hkk:k'=k
  ·subst hkk;exact⟨h1,h2,o',hself,hc',hd'⟩
  ·exact⟨h1,h2,o1,(hne _ hkk).trans h3,h4,h5⟩
 ·obtain⟨k',st,p,h1,h2,h3⟩:=hE.lp b' r T hl';by_cases hkk:k'=k
  ·subst hkk;obtain rfl:=hE.spi b' b _ h1 hs;obtain⟨st',p',rfl⟩:=hl r T hl';exact⟨_,st',p',h1,hself,λt=>(h3 t).world hcs⟩
  ·exact⟨k',st,p,h1,(hne _ hkk).trans h2,λt=>(h3 t).world hcs⟩
 ·rcases hh.box b' cs hb' with hn|⟨blk,sz,hx⟩
  ·exact .inl hn
  ·obtain⟨vals,ty,fz,k1,kz,k2,k3,k4⟩:=hx.cells
   exact .inr ⟨blk,sz,hx.mu,hx.base,hx.imm,vals,ty,fz,(hne _ (hcell _ _ _ _ k1)).trans k1,kz,k2,k3,fun i x hx'=>by
    obtain⟨v,e1,e2,e3⟩:=k4 i x hx';exact⟨v,e1,e2,e3.world hcs⟩⟩
 ·obtain⟨k',h1,h2⟩:=hh.spec b' x hb' hx;refine⟨k',h1,hspE b' x (λe=>?_) k' h1 h2⟩;subst e;rw[hH x hb'] at hx;cases hx
theorem HeapOk.addSp{E:Env}{H:Hp}{nx:Nat}{w:World}(h:HeapOk E H nx w){b k:Nat}{x:AV}(hb:b<nx)(hm:∀n,E.mu b n=none)(hs:E.sp b=some k)(hx:yJ E w b k x):HeapOk E (av H b [x]) nx w:=by
 refine⟨λb' cs hb'=>?_,λb' cs hb'=>?_,λb1 b2 cs1 cs2 blk1 sz1 blk2 sz2 hb1 hb2 hne m1 m2=>?_,h.size,λb' cs m y hb' hm'=>?_,λb' y hb' hy=>?_,λb' hb'=>?_⟩
 ·rcases gn hb' with⟨rfl,rfl⟩|⟨_,h1⟩
  ·exact .inl (hm _)
  ·exact h.box b' cs h1
 ·rcases gn hb' with⟨rfl,rfl⟩|⟨_,h1⟩
  ·exact hb
  ·exact h.dom b' cs h1
 ·rcases gn hb1 with⟨rfl,rfl⟩|⟨_,h1⟩
  ·rw[hm] at m1;cases m1
  ·rcases gn hb2 with⟨rfl,rfl⟩|⟨_,h2⟩
   ·rw[hm] at m2;cases m2
   ·exact h.apart b1 b2 cs1 cs2 blk1 sz1 blk2 sz2 h1 h2 hne m1 m2
 ·rcases gn hb' with⟨rfl,rfl⟩|⟨_,h1⟩
  ·rw[hm] at hm';cases hm'
  ·exact h.top b' cs m y h1 hm'
 ·rcases gn hb' with⟨rfl,e⟩|⟨_,h1⟩
  ·cases e;exact⟨k,hs,hx⟩
  ·exact h.spec b' y h1 hy
 ·rcases gn hb' with⟨rfl,e⟩|⟨_,h1⟩
  ·cases e
  ·exact h.nsp b' h1
theorem HI{E:Env}{H:Hp}{nx:Nat}{w:World}(hE:EnvOk E w)(hh:HeapOk E H nx w)(hf:nD E nx)(o:Obj)(hc:lu o=false)(hd:∀ds,o≠.deferred ds):
    ∃E',E'={E with sp:=λb=>if b=nx then some w.heap.size else E.sp b}/\Ext E w E' (w.alloc o)/\EnvOk E' (w.alloc o)/\HeapOk E' H (nx+1) (w.alloc o)/\E'.sp nx=some w.heap.size/\(w.alloc o).heap[w.heap.size]?=some o:=by
 let E':Env:={E with sp:=λb=>if b=nx then some w.heap.size else E.sp b}
 have hspo:∀b,b≠nx->E'.sp b=E.sp b:=λb hb=>if_neg hb;have hself:E'.sp nx=some w.heap.size:=if_pos rfl;have hspm:∀b x,E.sp b=some x->E'.sp b=some x:=λb x hb=>by rw[hspo b (λe=>by subst e;rw[hf.2.1] at hb;cases hb)];exact hb
 have hext:Ext E w E' (w.alloc o):=
  ⟨rfl,rfl,λ_ h=>h,λ_ h=>.inl h,λ_ _ _ h=>h,hspm,λ_ _ h=>h,λ_ h=>⟨h,cr (hE.dlt h)⟩,by simp,λb hb=>cr (hE.lt b hb),bc _⟩
 have hnew:(w.alloc o).heap[w.heap.size]?=some o:=World.alloc_heap_new w o;have hst:=fQ.alloc w o
 refine ⟨E',rfl,hext,⟨fun b hb=>?_,hE.below.trans ((Below.refl _ _).alloc hh.size o),fun b hb=>?_,fun b b' k h1 h2=>?_,fun b k hk=>?_,fun b k hk n=>?_,fun b r T hl=>?_⟩,
  ⟨λb cs hb=>?_,λb cs hb=>Nat.lt_succ_of_lt (hh.dom b cs hb),hh.apart,by simpa using Nat.le_succ_of_le hh.size,hh.top,λb x hb hx=>?_,λb hb=>?_⟩,hself,hnew⟩
 ·have:=hE.lt b hb;simp;omega
 ·obtain⟨ds,h⟩:=hE.dm b hb;exact⟨ds,hst _ _ h rfl⟩
 ·by_cases hb:b=nx
  ·subst hb;rw[hself] at h1;cases h1;by_cases hb':b'=b
   ·exact hb'.symm
   ·rw[hspo b' hb'] at h2;have:=hE.splt h2;omega
  ·rw[hspo b hb] at h1;by_cases hb':b'=nx
   ·subst hb';rw[hself] at h2;cases h2;have:=hE.splt h1;omega
   ·rw[hspo b' hb'] at h2;exact hE.spi b b' k h1 h2
 ·by_cases hb:b=nx
  ·subst hb;rw[hself] at hk;cases hk;exact⟨hh.size,λhi=>by have:=hE.lt _ hi;omega,o,hnew,hc,hd⟩
  ·rw[hspo b hb] at hk;obtain⟨h1,h2,o1,h3,h4,h5⟩:=hE.spb b k hk;exact⟨h1,h2,o1,hst _ _ h3 h4,h4,h5⟩
 ·by_cases hb:b=nx
  ·subst hb;exact hf.1 n
  ·rw[hspo b hb] at hk;exact hE.spm b k hk n
 ·obtain⟨k,st,p,h1,h2,h3⟩:=hE.lp b r T hl;exact⟨k,st,p,hspm _ _ h1,hst _ _ h2 rfl,λt=>(h3 t).ext hext⟩
 ·rcases hh.box b cs hb with hn|⟨blk,sz,hx⟩
  ·exact .inl hn
  ·obtain⟨vals,ty,fz,k1,kz,k2,k3,k4⟩:=hx.cells
   exact .inr ⟨blk,sz,hx.mu,hx.base,hx.imm,vals,ty,fz,(cr (kT.1 k1).1).trans k1,kz,k2,k3,fun i x hx'=>by
    obtain⟨v,e1,e2,e3⟩:=k4 i x hx';exact⟨v,e1,e2,e3.ext hext⟩⟩
 ·obtain⟨k,h1,h2⟩:=hh.spec b x hb hx;exact⟨k,hspm _ _ h1,h2.ext hext (λk o _=>hst k o)⟩
 ·have:=hh.dom b _ hb;rw[hspo b (by omega)];exact hh.nsp b hb
def Yl(P:Program)(b:Nat)(args:List AV)(H:Hp)(nx:Nat)(K:AV->Hp->Nat->Prop):Prop:=
 ∀(E:Env)(w:World)(vs:List Value),EnvOk E w->HeapOk E H nx w->cJ E nx->dI E w args vs->
  ∃l r,E.sp b=some l/\w.heap[l]?=some (.loop r)/\vs.length=r.params.size/\
   RoundIn Fence.wide 0 P l r.fn ((r.params.zip vs.toArray).foldl (λtmps(t,a)=>tmps.setIfInBounds t a) r.tmps) r.assign r.body w λe w'=>
    ∃v E' x H' nx',e=.returned v/\Ext E w E' w'/\EnvOk E' w'/\HeapOk E' H' nx' w'/\cJ E' nx'/\Rel E' w' x v/\K x H' nx'
theorem Yl.mono{P:Program}{b:Nat}{args:List AV}{H:Hp}{nx:Nat}{K K':AV->Hp->Nat->Prop}(h:Yl P b args H nx K)(hK:∀r H nx,K r H nx->K' r H nx):Yl P b args H nx K':=by
 intro E w vs h1 h2 h3 h4;obtain⟨l,r,k1,k2,k3,k4⟩:=h E w vs h1 h2 h3 h4;refine⟨l,r,k1,k2,k3,k4.mono ?_⟩;rintro e w' ⟨v,E',x,H',nx',m1,m2,m3,m4,m5,m6,m7⟩;exact⟨v,E',x,H',nx',m1,m2,m3,m4,m5,m6,hK _ _ _ m7⟩
theorem z8{P:Program}{f:Operand}{args:Array Operand}{ts:Array TypeId}{T:Tm}{H:Hp}{nx b:Nat}{K:AV->Hp->Nat->Prop}(hf:ev T f=.yld b)(h:Yl P b (args.toList.map (ev T)) H nx K):
    eY P (.call {callee:=.value f,args:=args,argTypes:=ts}) T H nx K:=by
 refine⟨by intro c;simp,?_⟩;rintro rr E w a ⟨dst,op,type,pos,after,guard⟩ next Q ho hE hh hfr ht hn;simp only at ho;subst ho;have hr:=ht f (by simp[Op.operands,Call.operands]);rw[hf] at hr;generalize hv:a.eval f=vf at hr;cases hr with
 |yld _ l hl=>
 obtain⟨l',r,k1,k2,k3,k4⟩:=h E w (args.toList.map a.eval) hE hh hfr (A8 (E:=E) (w:=w) (T:=T) (a:=a) args.toList (λx hx=>ht x (by simp only[Op.operands,Call.operands];exact yT.2 (.inr (by simpa using hx)))));rw[hl] at k1;cases k1;have harr:args.map a.eval=(args.toList.map a.eval).toArray:=jH a.eval args
 have hrun:(execOp a.eval ⟨dst,.call {callee:=.value f,args:=args,argTypes:=ts},type,pos,after,guard⟩).run P w=.ok (.round l r.fn ((r.params.zip (args.toList.map a.eval).toArray).foldl (λtmps(t,a)=>tmps.setIfInBounds t a) r.tmps) r.assign r.body) w:=by
  have hy:=run_yield (P:=P) (args:=(args.toList.map a.eval).toArray) k2 (by simpa using k3);unfold execOp;simp only[resolve,hv,Deferred.ofValue,invoke,bA,eG,bu,Array.empty_append];rw[harr];exact hy
 rw[hrun,Oper.uponIn_round];refine⟨(λh=>by cases h),?_⟩;refine(RoundIn.mono (F:=FW rr) (show RoundIn (FW rr) 0 P l r.fn _ r.assign r.body w _ from k4) ?_);rintro e w' ⟨v,E',x,H',nx',rfl,m2,m3,m4,m5,m6,m7⟩;exact hn E' H' nx' x v w' m2 m3 m4 m5 m6 m7
def mE(T:Tm):List Nat->List AV->Tm
 |t::ts,x::xs=>mE (upd T t x) ts xs
 |_,_=>T
theorem Bt{E:Env}{w:World}:∀(ps:List Nat)(xs:List AV)(vs:List Value)(T:Tm)(tmps:Array Value),dI E w xs vs->(∀t∈ps,t<tmps.size)->(∀t,Rel E w (T t) (tmps.getD t Go.undef))->
    ((ps.zip vs).foldl (λtmps(t,a)=>tmps.setIfInBounds t a) tmps).size=tmps.size/\∀t,Rel E w (mE T ps xs t) (((ps.zip vs).foldl (λtmps(t,a)=>tmps.setIfInBounds t a) tmps).getD t Go.undef)
 |[],xs,vs,T,tmps,hl,hp,h=>by simp[mE];exact λt=>by simpa using h t
 |p::ps,[],vs,T,tmps,hl,hp,h=>by
  have:vs=[]:=fP.1 hl.1;subst this;simp[mE];exact λt=>by simpa using h t
 |p::ps,x::xs,vs,T,tmps,hl,hp,h=>by
  cases vs with
  |nil=>have:=hl.1;simp at this
  |cons v vs=>
   have hx:Rel E w x v:=hl.2 0 x v rfl rfl;have hl':dI E w xs vs:=⟨by have:=hl.1;simpa using this,λi a b ha hb=>hl.2 (i+1) a b (by simpa using ha) (by simpa using hb)⟩
   have:=Bt ps xs vs (upd T p x) (tmps.setIfInBounds p v) hl' (fun t ht=>by simpa using hp t (by simp [ht])) (fun t=>by
    simp only[upd];split
    ·rename_i e;subst e;have:t<tmps.size:=hp t (by simp);simp[this];exact hx
    ·rename_i hne
     have e:(tmps.setIfInBounds p v).getD t Go.undef=tmps.getD t Go.undef:=by
      simp only[yX];rw[FQ (Ne.symm hne)]
     rw[e];exact h t)
   refine⟨by simpa using this.1,λt=>?_⟩;simpa[mE] using this.2 t
structure Ready0(n:Nat)(ps:Array Nat)(assign body:Code)(r:Loop):Prop where
 params:r.params=ps
 assign:r.assign=assign
 body:r.body=body
 state:r.state=.ready
 pending:r.pending=none
 size:r.tmps.size=n
def Mw:AEx->Code
 |.exit i=>.exit i
 |_=>.ret
def x8(r:Loop)(T:Tm)(e:AEx):AV:=.oloop {r with state:=.done,pending:=some (Mw e)} T
theorem qv{n:Nat}{ps:Array Nat}{assign body:Code}{r:Loop}(h:Ready0 n ps assign body r):{r with state:=.ready,pending:=none}=r:=by
 have h1:=h.state;have h2:=h.pending;cases r;simp only at h1 h2;subst h1 h2;rfl
theorem Yl.of_awp{P:Program}{n:Nat}{ps:Array Nat}{assign body:Code}{r:Loop}(hr:Ready0 n ps assign body r)(hm:P.follows .mixedOrders=true)(hps:∀t∈ps.toList,t<n)
    {b:Nat} {args:List AV} {T:Tm} {H:Hp} {nx:Nat} {K:AV->Hp->Nat->Prop} (hb:H b=some [.oloop r T]) (hl:args.length=ps.size)
    (h:awp P n assign (mE T ps.toList args) H nx fun e T2 H2 nx2=>aN e (H2 b=some [.oloop r T]∧awp P n body T2 (dv H2 b) nx2 fun e T3 H3 nx3 =>
     aN e (K (.bool true) (av H3 b [.oloop r T]) nx3) (K (.bool false) (av H3 b [x8 r T e]) nx3)) False):Yl P b args H nx K:=by
 intro E w vs hE hh hf hv;obtain⟨l,hs,hw,hlp⟩:=hh.spec b _ hb rfl;have hlp:E.lp b=some (r,T):=by rw[<-qv hr];exact hlp
 obtain⟨l',st,p,e1,e2,hT⟩:=hE.lp b r T hlp;rw[hs] at e1;cases e1;obtain⟨hbase,himm,_⟩:=hE.spb b l hs;refine⟨l,r,hs,hw,by rw[hr.params,hv.1,hl],?_⟩;refine roundIn_of_wpIn (F:=Fence.wide) trivial ?_;have htm:=Bt ps.toList args vs T r.tmps hv (λt ht=>by rw[hr.size];exact hps t ht) hT
 have hfold:(r.params.zip vs.toArray).foldl (λtmps(t,a)=>tmps.setIfInBounds t a) r.tmps=(ps.toList.zip vs).foldl (λtmps(t,a)=>tmps.setIfInBounds t a) r.tmps:=by
  rw[hr.params,<-Array.foldl_toList];simp
 rw[hfold,hr.assign,hr.body]
 have hS:Sim E ⟨n,0,some l⟩ ⟨mE T ps.toList args,H,nx⟩ {tmps:=(ps.toList.zip vs).foldl (λtmps(t,a)=>tmps.setIfInBounds t a) r.tmps,defers:=[]} w:=
  ⟨hE,hh,hf,λl' hl'=>by cases hl';exact⟨b,_,hlp,hs⟩,bo _,by rw[<-hr.size];exact htm.1,htm.2,⟨It,λd hd=>(by cases hd)⟩⟩
 have put:∀(E1:Env)(H1:Hp)(nx1:Nat)(w1:World)(r1:Loop)(st:LoopState)(p:Option Code),Ext E w E1 w1->EnvOk E1 w1->HeapOk E1 H1 nx1 w1->w1.heap[l]?=some (.loop r1)->
     Ext E1 w1 E1 (w1.putObj l (.loop {r with state:=st,pending:=p}))/\EnvOk E1 (w1.putObj l (.loop {r with state:=st,pending:=p}))/\HeapOk E1 (dv H1 b) nx1 (w1.putObj l (.loop {r with state:=st,pending:=p})):=by
  intro E1 H1 nx1 w1 r1 st p he1 hE1 hh1 hw1;refine BF hE1 (hh1.del b) (he1.sp _ _ hs) hw1 rfl rfl (by intro ds;simp) (by intro ds;simp) (λr' T' h'=>?_) (λx hx=>?_)
  ·rw[he1.lp _ _ hlp] at h';cases h';exact⟨st,p,rfl⟩
  ·rw[pq] at hx;cases hx
 have static:∀(E1:Env)(w1:World),Ext E w E1 w1->EnvOk E1 w1->∃st p,w1.heap[l]?=some (.loop {r with state:=st,pending:=p}):=by
  intro E1 w1 he1 hE1;obtain⟨l1,st1,p1,f1,f2,_⟩:=hE1.lp b r T (he1.lp _ _ hlp);rw[he1.sp _ _ hs] at f1;cases f1;exact⟨st1,p1,f2⟩
 refine wpIn_mono (F:=FW (some l)) (gl hm assign hS h) ?_;rintro e a1 w1 ⟨x,E1,T1,H1,nx1,rfl,he1,hS1,hk⟩;cases x with
 |exit i=>exact hk.elim
 |ret=>exact hk.elim
 |normal=>
 obtain⟨hb1,hk⟩:=hk;obtain⟨l1,g1,g2,_⟩:=hS1.heap.spec b _ hb1 rfl;rw[he1.sp _ _ hs] at g1;cases g1;refine⟨_,run_beginRound g2 hr.state,?_⟩;have hbusy:({r with state:=.busy}:Loop)={r with state:=.busy,pending:=none}:=by have:=hr.pending;cases r;simp only at this;subst this;rfl
 rw[hbusy];obtain⟨p1,p2,p3⟩:=put E1 H1 nx1 w1 r .busy none he1 hS1.env hS1.heap g2
 have hS2:Sim E1 ⟨n,0,some l⟩ ⟨T1,dv H1 b,nx1⟩ a1 (w1.putObj l (.loop {r with state:=.busy,pending:=none})):=
  ⟨p2,p3,hS1.fresh,hS1.round,bo _,hS1.size,λt=>(hS1.tmps t).ext p1,hS1.defers.ext p1⟩
 refine wpIn_mono (F:=FW (some l)) (gl hm body hS2 hk) ?_;rintro e a3 w3 ⟨x,E3,T3,H3,nx3,rfl,he3,hS3,hk3⟩;have he03:Ext E w E3 w3:=(he1.trans p1).trans he3;obtain⟨st3,pd3,hw3⟩:=static E3 w3 he03 hS3.env
 have hlt3:b<nx3:=by
  rcases CG b nx3 with h|h
  ·exact h
  ·have:=(hS3.fresh b h).2.1;rw[he03.sp _ _ hs] at this;cases this
 have hl3:=kT.1 hw3
 have fin:∀(st:LoopState)(jump:Option Code)(v:Bool),K (.bool v) (av H3 b [.oloop {r with state:=st,pending:=jump} T]) nx3->st=(if jump.isNone then .ready else .done)->v=jump.isNone->
     ∃v' w',(Instr.endRound l jump).run P w3=.ok v' w'/\∃v E' x H' nx',Ending.returned v'=.returned v/\Ext E w E' w'/\EnvOk E' w'/\HeapOk E' H' nx' w'/\cJ E' nx'/\Rel E' w' x v/\K x H' nx':=by
  intro st jump v hK hst hv;obtain⟨q1,q2,q3⟩:=put E3 H3 nx3 w3 _ st jump he03 hS3.env hS3.heap hw3
  have q4:=q3.addSp (x:=.oloop { r with state:=st,pending:=jump } T) hlt3 (q2.spm b l (he03.sp _ _ hs)) (he03.sp _ _ hs) ⟨World.putObj_heap_same hl3.1,by
   have:=he03.lp _ _ hlp;rw[<-qv hr] at this;exact this⟩
  have hH:av (dv H3 b) b [.oloop {r with state:=st,pending:=jump} T]=av H3 b [.oloop {r with state:=st,pending:=jump} T]:=by
   funext y;unfold av dv;split<;>rfl
  rw[hH] at q4;refine⟨_,_,run_endRound jump hw3,?_⟩;subst hv;refine⟨.bool jump.isNone,E3,.bool jump.isNone,_,nx3,rfl,?_,?_,?_,hS3.fresh,.bool _,hK⟩
  ·subst hst;exact he03.trans q1
  ·subst hst;exact q2
  ·subst hst;exact q4
 cases x with
 |normal=>
  have hk3:K (.bool true) (av H3 b [.oloop r T]) nx3:=hk3;rw[<-qv hr] at hk3;exact fin .ready none true hk3 rfl rfl
 |exit i=>exact fin .done (some (.exit i)) false hk3 rfl rfl
 |ret=>exact fin .done (some .ret) false hk3 rfl rfl
theorem M7{E:Env}{H:Hp}{nx:Nat}{w:World}(hE:EnvOk E w)(hh:HeapOk E H nx w):
    ∃E',E'={E with dm:=λb=>E.dm b\/b=w.heap.size}/\Ext E w E' (w.alloc (.deferred (some [])))/\EnvOk E' (w.alloc (.deferred (some [])))/\HeapOk E' H nx (w.alloc (.deferred (some []))):=by
 let E':Env:={E with dm:=λb=>E.dm b\/b=w.heap.size}
 have hext:Ext E w E' (w.alloc (.deferred (some []))):=
  ⟨rfl,rfl,λ_ h=>h,λ_ h=>.inl h,λ_ _ _ h=>h,λ_ _ h=>h,λ_ _ h=>h,λb h=>⟨.inl h,cr (hE.dlt h)⟩,by simp,λb hb=>cr (hE.lt b hb),bc _⟩
 have hst:=fQ.alloc w (.deferred (some []));refine⟨E',rfl,hext,⟨λb hb=>?_,hE.below.trans ((Below.refl _ _).alloc hh.size _),λb hb=>?_,hE.spi,λb k hk=>?_,hE.spm,λb r T hl=>?_⟩,?_⟩
 ·have:=hE.lt b hb;simp;omega
 ·rcases hb with hb|rfl
  ·obtain⟨ds,h⟩:=hE.dm b hb;exact⟨ds,hst _ _ h rfl⟩
  ·exact⟨some [],World.alloc_heap_new w _⟩
 ·obtain⟨h1,h2,o,h3,h4,h5⟩:=hE.spb b k hk;exact⟨h1,h2,o,hst _ _ h3 h4,h4,h5⟩
 ·obtain⟨k,st,p,h1,h2,h3⟩:=hE.lp b r T hl;exact⟨k,st,p,h1,hst _ _ h2 rfl,λt=>(h3 t).ext hext⟩
 ·exact hh.step hext (λ_ h=>.inl h) (bc _) (λ_ _ _ _=>rfl) (λb cs blk sz hb hm=>cr (hh.blk_lt hb hm).1) hst rfl
theorem Hb{E:Env}{H:Hp}{nx n:Nat}{w:World}(hE:EnvOk E w)(hh:HeapOk E H nx w)(hf:cJ E nx){r:Loop}{T:Tm}{ps:Array Nat}{assign body:Code}(hr:Ready0 n ps assign body r)(hT:∀t,Rel E w (T t) (r.tmps.getD t Go.undef)):
    ∃E',Ext E w E' (w.alloc (.loop r))/\EnvOk E' (w.alloc (.loop r))/\HeapOk E' (av H nx [.oloop r T]) (nx+1) (w.alloc (.loop r))/\cJ E' (nx+1)/\E'.sp nx=some w.heap.size/\E'.lp nx=some (r,T)/\E'.dm=E.dm:=by
 obtain⟨E1,hE1,he,hE',hh',hs,hnew⟩:=HI hE hh (hf nx (bc _)) (.loop r) rfl (by intro ds;simp)
 let E2:Env:={E1 with lp:=λb=>if b=nx then some (r,T) else E1.lp b}
 have hlp1:E1.lp=E.lp:=by rw[hE1]
 have hlpo:∀b x,E1.lp b=some x->E2.lp b=some x:=λb x hb=>by
  show(if b=nx then some (r,T) else E1.lp b)=some x;rw[if_neg (λe=>by subst e;rw[hlp1,(hf b (bc _)).2.2] at hb;cases hb)];exact hb
 have hself:E2.lp nx=some (r,T):=if_pos rfl
 have he2:Ext E1 (w.alloc (.loop r)) E2 (w.alloc (.loop r)):=
  ⟨rfl,rfl,λ_ h=>h,λ_ h=>.inl h,λ_ _ _ h=>h,λ_ _ h=>h,hlpo,λ_ h=>⟨h,rfl⟩,bc _,λ_ _=>rfl,bc _⟩
 have hE2:EnvOk E2 (w.alloc (.loop r)):=⟨hE'.lt,hE'.below,hE'.dm,hE'.spi,hE'.spb,hE'.spm,fun b r' T' hl=>by
  by_cases hb:b=nx
  ·subst hb;rw[hself] at hl;cases hl;exact⟨w.heap.size,r.state,r.pending,hs,hnew,λt=>(hT t).ext (he.trans he2)⟩
  ·have hl:E1.lp b=some (r',T'):=by rw[<-hl];exact(if_neg hb).symm
   obtain⟨k,st,p,h1,h2,h3⟩:=hE'.lp b r' T' hl;exact⟨k,st,p,h1,h2,λt=>(h3 t).ext he2⟩⟩
 have hh2:HeapOk E2 H (nx+1) (w.alloc (.loop r)):=hh'.step he2 (λ_ h=>.inl h) (bc _) (λ_ _ _ _=>rfl) (λ_ _ _ _ _ _=>rfl) (fQ.refl _) rfl;refine⟨E2,he.trans he2,hE2,?_,λb hb=>?_,hs,hself,by show E1.dm=E.dm;rw[hE1]⟩
 ·refine hh2.addSp (Fo _) (hE2.spm nx _ hs) hs ⟨hnew,?_⟩;rw[hself,qv hr]
 ·have h0:=hf b (by omega);refine⟨λn=>?_,?_,?_⟩
  ·show E1.mu b n=none;rw[hE1];exact h0.1 n
  ·show E1.sp b=none;rw[hE1];show(if b=nx then _ else _)=none;rw[if_neg (by omega)];exact h0.2.1
  ·show(if b=nx then _ else E1.lp b)=none;rw[if_neg (by omega),hlp1];exact h0.2.2
def MB(r:Loop)(T:Tm)(b:Nat)(K:CP):Hp->Nat->Prop:=λH nx=>
 (H b=some [.oloop r T]/\K .normal T (dv H b) nx)\/ ∃e,e≠.normal/\H b=some [x8 r T e]/\K e T (dv H b) nx
theorem Ot{P:Program}{n:Nat}{g:Operand}{ps:Array Nat}{assign body:Code}{T:Tm}{H:Hp}{nx:Nat}{K:CP}{f:FuncId}{caps:List AV}(hf:ev T g=.func f caps)
    (h:∀r:Loop,Ready0 n ps assign body r->Fn P f (.yld nx::caps) (av H nx [.oloop r T]) (nx+1) λ_ H' nx'=>MB r T nx K H' nx'):RF P n (.rangeFunc g ps assign body) T H nx K:=by
 intro N E a w hn hS;refine wpIn_rangeFunc (F:=FW N.rd) (n:=0) ?_;intro fn _
 have hgo:∃(l dd:Nat)(mark:List Deferred)(w₁:World)(E1:Env),(Instr.enterLoop fn a.tmps ps assign body N.rd).run P w=.ok (l,mark) (w₁.alloc (.loop {state:=.ready,pending:=none,fn,tmps:=a.tmps,params:=ps,assign,body,defers:=dd}))/\
     l=w₁.heap.size/\Ext E w E1 w₁/\EnvOk E1 w₁/\HeapOk E1 H nx w₁/\cJ E1 nx/\sH E1 N w₁ (mark++a.defers):=by
  cases hrd:N.rd with
  |none=>
   obtain⟨E1,hE1,he,hE',hh'⟩:=M7 hS.env hS.heap;refine⟨w.heap.size+1,w.heap.size,[{target:=.collected w.heap.size,args:=#[]}],_,E1,run_enterLoop_outer _ _ _ _ _,by simp,he,hE',hh',by rw[hE1];exact hS.fresh,?_⟩;refine⟨BM.2 ⟨λd hd=>?_,hS.defers.1⟩,λd hd=>?_⟩
   ·obtain⟨D,rfl,_,_,hD,_⟩:=hS.defers.2 d hd;have:=hS.env.dlt hD;intro e;simp at e;omega
   ·rcases gR.1 hd with rfl|hd
    ·exact⟨w.heap.size,rfl,by rw[he.base];exact hS.heap.size,hS.floor,by rw[hE1];exact .inr rfl,World.alloc_heap_new w _⟩
    ·exact(hS.defers.ext he).2 d hd
  |some l0=>
   obtain⟨b,⟨r0,T0⟩,h1,h2⟩:=hS.round l0 hrd;obtain⟨k,st,p,e1,e2,_⟩:=hS.env.lp b r0 T0 h1;rw[h2] at e1;cases e1;exact⟨w.heap.size,r0.defers,[],w,E,run_enterLoop_inner e2 _ _ _ _ _,rfl,Ext.refl _ _,hS.env,hS.heap,hS.fresh,hS.defers⟩
 obtain⟨l,dd,mark,w₁,E1,hrun,hl,he1,hE1,hh1,hf1,hmk⟩:=hgo;have hr:Ready0 n ps assign body {state:=.ready,pending:=none,fn,tmps:=a.tmps,params:=ps,assign,body,defers:=dd}:=⟨rfl,rfl,rfl,rfl,rfl,by show a.tmps.size=n;rw[hS.size,hn]⟩
 generalize hrr:({state:=.ready,pending:=none,fn,tmps:=a.tmps,params:=ps,assign,body,defers:=dd}:Loop)=r at hr hrun;have hrt:r.tmps=a.tmps:=by subst hrr;rfl
 obtain⟨E2,he2,hE2,hh2,hf2,hsp,hlp,hdm⟩:=Hb hE1 hh1 hf1 (T:=T) hr (λt=>by rw[hrt];exact(hS.tmps t).ext he1);rw[<-hl] at hsp;have hfn:=h r hr;have hfr:=nQ (E:=E) (w:=w) (a:=a) hS.tmps g;simp only at hfr;rw[hf] at hfr;generalize hvg:a.eval g=vg at hfr;cases hfr with
 |func _ _ cv hcl hcr=>
 have he12:=he1.trans he2;refine⟨l,mark,w₁.alloc (.loop r),{target:=.fn (.func f) cv.toArray,args:=#[.func (.yield l) #[] #[]]},w₁.alloc (.loop r),f,#[.func (.yield l) #[] #[]]++cv.toArray,w₁.alloc (.loop r),hrun,?_,λ_ _=>trivial,?_,(λh=>by cases h),?_⟩
 ·simp only[resolve,hvg];simp[go_sem]
 ·simp only[invoke];exact hJ hfn.1 _ _
 ·have hargs:dI E2 (w₁.alloc (.loop r)) (.yld nx::caps) (.func (.yield l) #[] #[]::cv):=by
    refine⟨by simp[hcl],λi x y hx hy=>?_⟩;cases i with
    |zero=>simp at hx hy;subst hx hy;exact .yld _ _ hsp
    |succ i=>exact(hcr i x y (by simpa using hx) (by simpa using hy)).ext he12
  have hcalls:=hfn.2 E2 _ _ hE2 hh2 hf2 hargs;have harr:#[.func (.yield l) #[] #[]]++cv.toArray=(.func (.yield l) #[] #[]::cv:List Value).toArray:=by simp
  rw[harr];refine(lc (r:=N.rd) (n:=0-1) hcalls).mono ?_;rintro e w' ⟨v,E',x,H',nx',rfl,he',hE',hh',hf',_,hpost⟩;have hsp':=he'.sp _ _ hsp;have hlp':=he'.lp _ _ hlp
  have fin:∀(r1:Loop)(T1:Tm),H' nx=some [.oloop r1 T1]->r1.state≠.busy->∃w4,(Instr.endLoop l).run P w'=.ok r1.pending w4/\∃E4,Ext E w E4 w4/\Sim E4 N ⟨T,dv H' nx,nx'⟩ {a with defers:=mark++a.defers} w4:=by
   intro r1 T1 hb hst;obtain⟨l1,g1,g2,g3⟩:=hh'.spec nx _ hb rfl;rw[hsp'] at g1;cases g1;refine⟨_,run_endLoop g2 hst,E',?_⟩;rw[hlp'] at g3;injection g3 with g3;injection g3 with g3 _
   obtain ⟨q1,q2,q3⟩:=BF hE' (hh'.del nx) hsp' g2 (o':=.loop { r1 with state:=.exhausted }) rfl rfl (by intro ds; simp) (by intro ds; simp) (fun r' T' h'=>by
    rw[hlp'] at h';cases h';exact⟨.exhausted,r1.pending,by rw[g3]⟩) (λx hx=>by rw[pq] at hx;cases hx)
   have heAll:Ext E w E' (w'.putObj l (.loop {r1 with state:=.exhausted})):=(he12.trans he').trans q1;refine⟨heAll,q2,q3,hf',λl' hl'=>?_,eK hS.floor heAll.size,hS.size,λt=>(hS.tmps t).ext heAll,hmk.ext ((he2.trans he').trans q1)⟩;obtain⟨b,x,h1,h2⟩:=hS.round l' hl';exact⟨b,x,heAll.lp _ _ h1,heAll.sp _ _ h2⟩
  rcases hpost with⟨hb,hk⟩|⟨e,hne,hb,hk⟩
  ·obtain⟨w4,h1,E4,h2,h3⟩:=fin r T hb (by rw[hr.state];simp);rw[hr.pending] at h1;exact⟨none,w4,h1,.normal,E4,T,_,nx',rfl,h2,h3,hk⟩
  ·obtain⟨w4,h1,E4,h2,h3⟩:=fin _ T hb (by simp);refine⟨_,w4,h1,?_⟩;cases e with
   |normal=>exact absurd rfl hne
   |exit i=>exact wpIn_exit ⟨.exit i,E4,T,_,nx',rfl,h2,h3,hk⟩
   |ret=>exact wpIn_ret ⟨.ret,E4,T,_,nx',rfl,h2,h3,hk⟩
theorem cz{P:Program}{op:Op}{T:Tm}{H:Hp}{nx:Nat}{K:AV->Hp->Nat->Prop}(hnd:∀c,op≠.defer c)
    (h:∀ (E:Env) (w:World) (a:Act) (o:Oper),o.op=op→EnvOk E w→HeapOk E H nx w→cJ E nx→(∀ x ∈ op.operands,Rel E w (ev T x) (a.eval x)) →
     ∃n v w' E' r H' nx',(execOp a.eval o).run P w=.ok n w'/\(n=.value v\/n=.skip/\v=Go.undef)/\Ext E w E' w'/\EnvOk E' w'/\HeapOk E' H' nx' w'/\cJ E' nx'/\Rel E' w' r v/\K r H' nx'):eY P op T H nx K:=by
 refine⟨hnd,?_⟩;rintro rr E w a o next Q ho hE hh hf ht hn;obtain⟨n,v,w',E',r,H',nx',h1,h2,h3,h4,h5,h6,h7,h8⟩:=h E w a o ho hE hh hf ht;rw[h1];have:=hn E' H' nx' r v w' h3 h4 h5 h6 h7 h8;rcases h2 with rfl|⟨rfl,rfl⟩
 ·rw[Oper.uponIn_value];exact this
 ·rw[Oper.uponIn_skip];exact this
inductive MK where
 |one (k:TK)
 |st (ks:List TK)
def tkA(P:Program)(t:TypeId):Option (List TK):=match P.underlying t with
 |some (.array n e)=>match tkS P e with
  |some ks=>if P.cellsOf e=ks.length then some ((List.replicate n ks).flatten) else none
  |none=>none
 |_=>none
def mkk(P:Program)(t:TypeId):Option MK:=match tk1 P t with
 |some k=>some (.one k)
 |none=>match tkS P t with
  |some ks=>some (.st ks)
  |none=>match tkA P t with
   |some ks=>some (.st ks)
   |none=>(tkT P t).map .st
def jV(k:MK)(x y:AV):Option Bool:=match k,x,y with
 |.one k,x,y=>lw k x y
 |.st ks,.agg xs,.agg ys=>dU ks xs ys
 |_,_,_=>none
def ef(k:MK)(key:AV):List AV->Option (Option Nat)
 |[]=>some none
 |x::l=>match jV k key x with
  |some true=>some (some 0)
  |some false=>(ef k key l).map (·.map (· +1))
  |none=>none
theorem rA{P:Program}{t:TypeId}{k:MK}(h:mkk P t=some k):(∃k',k=.one k'/\tk1 P t=some k')\/(∃ks,k=.st ks/\tkS P t=some ks)\/(∃ks,k=.st ks/\tkA P t=some ks)\/ ∃ks,k=.st ks/\tkT P t=some ks:=by
 unfold mkk at h;split at h
 ·cases h;exact .inl ⟨_,rfl,by assumption⟩
 ·split at h
  ·cases h;exact .inr (.inl ⟨_,rfl,by assumption⟩)
  ·split at h
   ·rename_i ks hk;cases h;exact .inr (.inr (.inl ⟨ks,rfl,hk⟩))
   ·cases hk:tkT P t with
    |none=>rw[hk] at h;cases h
    |some ks=>rw[hk] at h;cases h;exact .inr (.inr (.inr ⟨ks,rfl,rfl⟩))
theorem B2{P:Program}{t:TypeId}{ks:List TK}(h:tkA P t=some ks):∃n e es,P.underlying t=some (.array n e)/\tkS P e=some es/\P.cellsOf e=es.length/\ks=(List.replicate n es).flatten:=by
 unfold tkA at h;split at h
 ·rename_i n e hu;split at h
  ·rename_i es he;split at h
   ·rename_i hc;cases h;exact⟨n,e,es,hu,he,hc,rfl⟩
   ·cases h
  ·cases h
 ·cases h
theorem oC{P:Program}{w:World}{t:TypeId}{ks:List TK}(h:tkS P t=some ks)(hc:P.cellsOf t=ks.length)(cs:Array Value)(i:Nat):(part t cs i).run P w=.ok (.agg (cs.extract i (i+ks.length))) w:=by
 have hu:=(qf h).1;obtain⟨inf,hi⟩:=info_of_underlying hu;simp[part,isAgg,cp hu,run_sizeOf w hi,hc]
theorem sO{E:Env}{w:World}{xs:List AV}{vs:List Value}(hl:xs.length=vs.length)(hr:∀(i:Nat)(x:AV)(v:Value),xs[i]?=some x->vs[i]?=some v->Rel E w x v)(a n:Nat):Rel E w (.agg ((xs.drop a).take n)) (.agg (vs.toArray.extract a (a+n))):=by
 have e:vs.toArray.extract a (a+n)=((vs.drop a).take n).toArray:=by
  simp[List.extract_eq_take_drop,List.extract_toArray]
 rw[e];refine Rel.agg _ _ (by simp[hl]) (λi x v hx hv=>?_);rw[jl] at hx hv;split at hx
 ·rename_i hi;rw[if_pos hi] at hv;rw[kJ] at hx hv;exact hr _ x v hx hv
 ·cases hx
theorem sF{P:Program}{E:Env}{w:World}{d:Nat}{e:TypeId}{es:List TK}(he:tkS P e=some es)(hc:P.cellsOf e=es.length){xs ys:List AV}{vx vy:List Value}(lx:xs.length=vx.length)(ly:ys.length=vy.length)
    (hx:∀(i:Nat)(x:AV)(v:Value),xs[i]?=some x->vx[i]?=some v->Rel E w x v) (hy:∀(i:Nat)(x:AV)(v:Value),ys[i]?=some x->vy[i]?=some v->Rel E w x v):∀(m a:Nat)(r:Bool),
    dU (List.replicate m es).flatten (xs.drop (a*es.length)) (ys.drop (a*es.length))=some r->(Op.eqItems (d+2) e (P.cellsOf e) vx.toArray vy.toArray (List.range' a m)).run P w=.ok r w
 |0,a,r,h=>by
  generalize xs.drop (a*es.length)=l at h;generalize ys.drop (a*es.length)=m at h;cases l<;>cases m<;>first|(cases h;rfl)|cases h
 |m+1,a,r,h=>by
  rw[List.replicate_succ,List.flatten_cons] at h;obtain⟨b,q1,q2,q3⟩:=lD es _ _ _ r h;rw[List.drop_drop,List.drop_drop] at q3;have p1:=oC (w:=w) he hc vx.toArray (a*P.cellsOf e);have p2:=oC (w:=w) he hc vy.toArray (a*P.cellsOf e);have p3:=oD he (sO lx hx (a*P.cellsOf e) es.length) (sO ly hy (a*P.cellsOf e) es.length) (by rw[hc];exact q1) d;rw[List.range'_succ];simp only[Op.eqItems,bA,p1,p2,bu,p3];cases b with
  |false=>rw[q2 rfl];rfl
  |true=>
   simp only[Bool.not_true,dX,if_false];refine sF he hc lx ly hx hy m (a+1) r ?_;have e2:(a+1)*es.length=a*es.length+es.length:=by rw[d8,Nat.one_mul]
   rw[e2];exact q3 rfl
theorem sU{P:Program}{E:Env}{w:World}{t:TypeId}{k:MK}{x y:AV}{vx vy:Value}{r:Bool}(hk:mkk P t=some k)(hx:Rel E w x vx)(hy:Rel E w y vy)(h:jV k x y=some r):
    (Op.equal t vx vy).run P w=.ok r w:=by
 unfold Op.equal Op.maxDepth;rcases rA hk with⟨k',rfl,hk'⟩|⟨ks,rfl,hk'⟩|⟨ks,rfl,hk'⟩|⟨ks,rfl,hk'⟩
 ·exact eZ hk' hx hy h 9999
 ·cases x<;>first|(cases h;done)|skip
  cases y<;>first|(cases h;done)|skip
  exact oD hk' hx hy h 9998
 ·cases x<;>first|(cases h;done)|skip
  cases y<;>first|(cases h;done)|skip
  obtain⟨n,e,es,hu,he,hc,rfl⟩:=B2 hk';obtain⟨inf,hi⟩:=info_of_underlying (qf he).1;cases hx with
  |agg xs vs1 l1 r1=>
  cases hy with
  |agg ys vs2 l2 r2=>
  rw[run_equalIn_array w 9999 _ _ hu hi,List.range_eq_range'];refine sF (d:=9997) he hc l1.symm l2.symm r1 r2 n 0 r ?_;rw[nA,List.drop_zero,List.drop_zero];exact h
 ·cases x<;>first|(cases h;done)|skip
  cases y<;>first|(cases h;done)|skip
  exact sI hk' hx hy h 9992
def pC(l:List MapEntry)(i:Nat)(r:Option Nat):Option (Nat×Value):=r.map λj=>(i+j,(l.getD j default).val)
theorem xw{e:MapEntry}{l:List MapEntry}{i:Nat}{r:Option Nat}:pC (e::l) i (r.map (· +1))=pC l (i+1) r:=by
 cases r with
 |none=>rfl
 |some j=>simp[pC];omega
theorem ij{P:Program}{E:Env}{w:World}{t:TypeId}{k:MK}{key:AV}{vk:Value}(hk:mkk P t=some k)(hx:Rel E w key vk):∀(es:List MapEntry)(ks:List AV)(i:Nat)(r:Option Nat),
    es.length=ks.length->(∀(j:Nat)(x:AV)(e:MapEntry),ks[j]?=some x->es[j]?=some e->Rel E w x e.key)->ef k key ks=some r->(Instr.findAsking t vk es i).run P w=.ok (pC es i r) w
 |[],ks,i,r,hl,hr,h=>by
  have:ks=[]:=fP.1 hl.symm;subst this;cases h;rfl
 |e::es,ks,i,r,hl,hr,h=>by
  cases ks with
  |nil=>cases hl
  |cons x ks=>
   simp only[ef] at h;have he:=hr 0 x e rfl rfl;simp only[Instr.findAsking,bA];split at h
   ·rename_i hs;cases h;rw[sU hk hx he hs];simp[Result.andThen,pC]
   ·rename_i hs;cases hm:ef k key ks with
    |none=>rw[hm] at h;cases h
    |some r'=>
     rw[hm] at h;cases h;rw[sU hk hx he hs];simp only[bu,dX,if_false];rw[ij hk hx es ks (i+1) r' (by simpa using hl) (λj x e h1 h2=>hr (j+1) x e (by simpa using h1) (by simpa using h2)) hm,xw]
   ·cases h
theorem pG{P:Program}{E:Env}{w:World}{t:TypeId}{d:TypeDesc}{k:TK}{key:AV}{vk:Value}(hd:P.underlying t=some d)(hk:tk1 P t=some k)(hx:Rel E w key vk):∀(es:List MapEntry)(ks:List AV)(i:Nat)(r:Option Nat),
    es.length=ks.length->(∀(j:Nat)(x:AV)(e:MapEntry),ks[j]?=some x->es[j]?=some e->Rel E w x e.key)->ef (.one k) key ks=some r->Instr.findNow d vk es i=some (pC es i r)
 |[],ks,i,r,hl,hr,h=>by
  have:ks=[]:=fP.1 hl.symm;subst this;cases h;rfl
 |e::es,ks,i,r,hl,hr,h=>by
  cases ks with
  |nil=>cases hl
  |cons x ks=>
   simp only[ef] at h;have he:=hr 0 x e rfl rfl
   have hs:∀b,jV (.one k) key x=some b->Instr.sameNow d vk e.key=some b:=by
    intro b hb;generalize e.key=vke at he;replace hb:lw k key x=some b:=hb;unfold lw at hb;unfold tk1 at hk;rw[hd] at hk;split at hb
    ·cases hx;cases he;split at hb
     ·rename_i e2;subst e2;cases d<;>first|(cases hk;done)|skip
      simp only[Instr.sameNow,if_true];exact hb
     ·cases hb
    ·cases hx;cases he;cases d<;>first|(cases hk;done)|skip
     simp only[Instr.sameNow,beq_toListBytes];exact hb
    ·cases hx;cases he;cases d<;>first|(cases hk;done)|skip
     simp only[Instr.sameNow];exact hb
    ·cases hb
   simp only[Instr.findNow];split at h
   ·rename_i hb;cases h;rw[hs _ hb];simp[pC]
   ·rename_i hb;cases hm:ef (.one k) key ks with
    |none=>rw[hm] at h;cases h
    |some r'=>
     rw[hm] at h;cases h;rw[hs _ hb];simp only;rw[pG hd hk hx es ks (i+1) r' (by simpa using hl) (λj x e h1 h2=>hr (j+1) x e (by simpa using h1) (by simpa using h2)) hm,xw]
   ·cases h
theorem jI{P:Program}{E:Env}{w:World}{t:TypeId}{k:MK}{key:AV}{vk:Value}(hk:mkk P t=some k)(hx:Rel E w key vk){es:List MapEntry}{ks:List AV}{r:Option Nat}
    (hl:es.length=ks.length) (hr:∀(j:Nat)(x:AV)(e:MapEntry),ks[j]?=some x->es[j]?=some e->Rel E w x e.key) (h:ef k key ks=some r):(Instr.findKey t vk es).run P w=.ok (pC es 0 r) w:=by
 rcases rA hk with⟨k',rfl,hk'⟩|⟨fks,rfl,hk'⟩|⟨fks,rfl,hk'⟩|⟨fks,rfl,hk'⟩
 ·obtain⟨d,hd⟩:∃d,P.underlying t=some d:=by
    unfold tk1 at hk';cases hu:P.underlying t with
    |none=>rw[hu] at hk';cases hk'
    |some d=>exact⟨d,rfl⟩
  unfold Instr.findKey;simp only[bA,cp hd,bu,pG hd hk' hx es ks 0 r hl hr h];rfl
 ·have hu:=(qf hk').1;unfold Instr.findKey;simp only[bA,cp hu,bu];cases es with
  |nil=>
   have:ks=[]:=fP.1 hl.symm;subst this;cases h;rfl
  |cons e es=>
   have:Instr.findNow (.struct (P.fieldsOf t)) vk (e::es) 0=none:=rfl;rw[this];exact ij hk hx _ ks 0 r hl hr h
 ·obtain⟨n,el,els,hu,_,_,_⟩:=B2 hk';unfold Instr.findKey;simp only[bA,cp hu,bu];cases es with
  |nil=>
   have:ks=[]:=fP.1 hl.symm;subst this;cases h;rfl
  |cons e es=>
   have:Instr.findNow (.array n el) vk (e::es) 0=none:=rfl;rw[this];exact ij hk hx _ ks 0 r hl hr h
 ·obtain⟨d,hd,hno⟩:∃d,P.underlying t=some d/\∀e es,Instr.findNow d vk (e::es) 0=none:=by
    rcases(y7 hk').1 with⟨fs,hu⟩|⟨m,e,hu⟩
    ·exact⟨_,hu,λ_ _=>rfl⟩
    ·exact⟨_,hu,λ_ _=>rfl⟩
  unfold Instr.findKey;simp only[bA,cp hd,bu];cases es with
  |nil=>
   have:ks=[]:=fP.1 hl.symm;subst this;cases h;rfl
  |cons e es=>
   rw[hno];exact ij hk hx _ ks 0 r hl hr h
def sw(k:MK)(x:AV):Bool:=match k,x with
 |.one .int,.int _ _=>true
 |.one .str,.str _=>true
 |.one .bool,.bool _=>true
 |.st ks,.agg xs=>ks.length==xs.length
 |_,_=>false
theorem jG{P:Program}{w:World}{t:TypeId}{k:TK}(hk:tk1 P t=some k)(em:Bool)(n:Nat)(v:Value):(Instr.checkKey em (n+1) t v).run P w=.ok () w:=by
 unfold tk1 at hk;cases hu:P.underlying t with
 |none=>rw[hu] at hk;cases hk
 |some d=>
  rw[hu] at hk;cases d<;>first|(cases hk;done)|skip
  all_goals
   simp only[Instr.checkKey,bA,cp hu,bu];cases v<;>rfl
theorem DH{P:Program}:∀(fs:List Field)(i:Nat)(ks:List TK),tkF P i fs=some ks->ks.length=fs.length/\∀(j:Nat)(f:Field),fs[j]?=some f->f.offset=i+j/\∃k,tk1 P f.type=some k
 |[],i,ks,h=>by cases h;exact⟨rfl,by simp⟩
 |f::fs,i,ks,h=>by
  simp only[tkF] at h;split at h
  case isFalse=>cases h
  case isTrue hc=>
  split at h
  case h_2=>cases h
  rename_i k ks' h1 h2;cases h;obtain⟨e1,e2⟩:=DH fs (i+1) ks' h2;refine⟨by simp[e1],λj g hg=>?_⟩;cases j with
  |zero=>simp at hg;subst hg;exact⟨hc.2,k,h1⟩
  |succ j=>obtain⟨q1,q2⟩:=e2 j g (by simpa using hg);exact⟨by omega,q2⟩
theorem nY{α:Type}{P:Program}{w:World}:∀(l:List α)(f:α->PUnit->Sem (ForInStep PUnit)),(∀x∈l,(f x PUnit.unit).run P w=.ok (.yield PUnit.unit) w)->(forIn l PUnit.unit f).run P w=.ok PUnit.unit w
 |[],f,h=>by simp
 |x::l,f,h=>by
  rw[List.forIn_cons];simp only[bA,h x (by simp),bu];exact nY l f (λy hy=>h y (by simp[hy]))
theorem pI{P:Program}{w:World}{t:TypeId}{ks:List TK}(hk:tkS P t=some ks){vs:List Value}(hl:vs.length=ks.length)(em:Bool)(n:Nat)(hk1:∀t v k,tk1 P t=some k->(Instr.checkKey em n t v).run P w=.ok () w):(Instr.checkKey em (n+1) t (.agg vs.toArray)).run P w=.ok () w:=by
 obtain⟨h1,_,_,h4⟩:=qf hk;obtain⟨q1,q2⟩:=DH _ 0 ks h4;simp only[Instr.checkKey,bA,cp h1,bu];rw[<-Array.forIn_toList];rw[nY]
 ·rfl
 ·intro f hf;obtain⟨j,hj⟩:=rY hf;obtain⟨e1,k,e2⟩:=q2 j f hj;have hlt:f.offset<vs.toArray.size:=by have:=(bH.1 hj).1;simp;omega
  have hp:=ff (P:=P) (w:=w) e2 (cs:=vs.toArray) (i:=f.offset) (v:=vs.toArray[f.offset]) (by simp[hlt]);by_cases hn:f.name="_"
  ·simp only[hn,ne_eq,not_true_eq_false,if_false,eG]
  ·simp only[hn,ne_eq,not_false_eq_true,if_true,bA,hp,bu,hk1 _ _ _ e2,eG]
theorem wQ{P:Program}{w:World}{t:TypeId}{ks:List TK}(hk:tkA P t=some ks){vs:List Value}(hl:vs.length=ks.length)(em:Bool)(N:Nat)(hk1:∀(e:TypeId)(es:List TK)(us:List Value),tkS P e=some es->us.length=es.length->(Instr.checkKey em N e (.agg us.toArray)).run P w=.ok () w):(Instr.checkKey em (N+1) t (.agg vs.toArray)).run P w=.ok () w:=by
 obtain⟨n,e,es,hu,he,hc,rfl⟩:=B2 hk;obtain⟨inf,hi⟩:=info_of_underlying (qf he).1;have hlen:((List.replicate n es).flatten).length=n*es.length:=by simp
 rw[hlen] at hl;simp only[Instr.checkKey,bA,cp hu,bu,Std.Legacy.Range.forIn_eq_forIn_range',Std.Legacy.Range.size,Nat.sub_zero,Nat.add_one_sub_one,Nat.div_one];rw[nY]
 ·rfl
 ·intro i hin
  have hin:i<n:=by
   have:=List.mem_range'.1 hin;omega
  have hp:=oC (w:=w) he hc vs.toArray (i*P.cellsOf e);have hle:(i+1)*es.length<=n*es.length:=jv _ hin;rw[d8,Nat.one_mul] at hle
  have ex:vs.toArray.extract (i*P.cellsOf e) (i*P.cellsOf e+es.length)=((vs.drop (i*P.cellsOf e)).take es.length).toArray:=by
   simp[List.extract_eq_take_drop,List.extract_toArray]
  have hck:=hk1 e es ((vs.drop (i*P.cellsOf e)).take es.length) he (by rw[iX,Cy,hc];omega);simp only[bA,run_sizeOf w hi,hp,bu,ex,hck,eG]
theorem lR{P:Program}{w:World}{em:Bool}:∀(d:Nat)(t:TypeId)(ks:List TK),tkN P d t=some ks->∀(vs:List Value)(a:Nat),a+ks.length<=vs.length->∃v,(part t vs.toArray a).run P w=.ok v w/\∀D,d<=D->(Instr.checkKey em D t v).run P w=.ok () w
 |0,t,ks,h=>by cases h
 |d+1,t,ks,h=>by
  intro vs a hl;rcases kH h with⟨hu,hsi,hf,hc⟩|⟨n,e,es,hu,he,hc,hce,rfl⟩|⟨k,hk,rfl⟩
  ·refine⟨_,og (.inl ⟨_,hu⟩) hc _ _,λD hD=>?_⟩;obtain⟨D,rfl⟩:∃D',D=D'+1:=⟨D-1,by omega⟩
   simp only[Instr.checkKey,bA,cp hu,bu];rw[<-Array.forIn_toList,ja,nY]
   ·rfl
   ·intro f hfm;obtain⟨k,q1,q2,q3⟩:=AA hf f hfm;obtain⟨v,p1,p2⟩:=lR (em:=em) (w:=w) d f.type k q1 ((vs.drop a).take ks.length) f.offset (by rw[iX,Cy];omega);by_cases hn:f.name="_"
    ·simp only[hn,ne_eq,not_true_eq_false,if_false,eG]
    ·simp only[hn,ne_eq,not_false_eq_true,if_true,bA,p1,bu,p2 D (by omega),eG]
  ·obtain⟨inf,hi⟩:∃inf,P.info? e=some inf:=by
     have:∃u,P.underlying e=some u:=by
      cases d with
      |zero=>cases he
      |succ d=>
       rcases kH he with⟨hu,_⟩|⟨_,_,_,hu,_⟩|⟨k,hk,_⟩
       ·exact⟨_,hu⟩
       ·exact⟨_,hu⟩
       ·unfold tk1 at hk;cases hue:P.underlying e with
        |none=>rw[hue] at hk;cases hk
        |some u=>exact⟨u,rfl⟩
     obtain⟨u,hu⟩:=this;exact info_of_underlying hu
   refine⟨_,og (.inr ⟨_,_,hu⟩) hc _ _,λD hD=>?_⟩;obtain⟨D,rfl⟩:∃D',D=D'+1:=⟨D-1,by omega⟩
   simp only[Instr.checkKey,bA,cp hu,bu,Std.Legacy.Range.forIn_eq_forIn_range',Std.Legacy.Range.size,Nat.sub_zero,Nat.add_one_sub_one,Nat.div_one];rw[ja,nY]
   ·rfl
   ·intro i hin
    have hin:i<n:=by
     have:=List.mem_range'.1 hin;omega
    have hlen:((List.replicate n es).flatten).length=n*es.length:=by simp
    have hle:(i+1)*es.length<=n*es.length:=jv _ hin;rw[d8,Nat.one_mul] at hle;obtain⟨v,p1,p2⟩:=lR (em:=em) (w:=w) d e es he ((vs.drop a).take ((List.replicate n es).flatten).length) (i*P.cellsOf e) (by rw[iX,Cy,hce];omega);simp only[bA,run_sizeOf w hi,p1,bu,p2 D (by omega),eG]
  ·have hl:a+1<=vs.length:=hl;refine⟨vs[a],ff hk (by simp[show a<vs.length by omega]),λD hD=>?_⟩;obtain⟨D,rfl⟩:∃D',D=D'+1:=⟨D-1,by omega⟩
   exact jG hk em D _
theorem kp{P:Program}{E:Env}{w:World}{t:TypeId}{k:MK}(hk:mkk P t=some k){key:AV}{v:Value}(hx:Rel E w key v)(hfit:sw k key=true)(em:Bool):(Instr.checkKey em 10000 t v).run P w=.ok () w:=by
 rcases rA hk with⟨k',rfl,hk'⟩|⟨ks,rfl,hk'⟩|⟨ks,rfl,hk'⟩|⟨ks,rfl,hk'⟩
 ·exact jG hk' em 9999 v
 ·cases key<;>first|(cases hfit;done)|skip
  have hfit:ks.length==_:=hfit;cases hx with
  |agg cs vs hl _=>exact pI hk' (by have:=hfit;simp at this;omega) em 9999 (λt v k h=>jG h em 9998 v)
 ·cases key<;>first|(cases hfit;done)|skip
  have hfit:ks.length==_:=hfit;cases hx with
  |agg cs vs hl _=>exact wQ hk' (by have:=hfit;simp at this;omega) em 9999 (λe es us h1 h2=>pI h1 h2 em 9998 (λt v k h=>jG h em 9997 v))
 ·cases key<;>first|(cases hfit;done)|skip
  have hfit:ks.length==_:=hfit;obtain⟨hu,_,hN,hc⟩:=y7 hk';cases hx with
  |agg cs vs hl _=>
   obtain⟨v,p1,p2⟩:=lR (em:=em) (w:=w) 8 t ks hN vs 0 (by simp at hfit;omega);rw[og hu hc,ja,List.drop_zero,ju (by simp at hfit;omega)] at p1;cases p1;exact p2 10000 (by omega)
theorem kQ{P:Program}{w w':World}{s:Sem Value}{v:Value}(h:s.run P w=.ok v w'):(do pure (Next.value (<-s)):Sem Next).run P w=.ok (.value v) w':=by
 simp only[bA,h,bu];rfl
theorem xM{P:Program}{w w':World}{s:Sem Unit}(h:s.run P w=.ok () w'):(do s;pure Next.skip:Sem Next).run P w=.ok .skip w':=by
 simp only[bA,h,bu];rfl
def oL(P:Program)(t:TypeId):Option (TypeId×TypeId):=match P.underlying t with
 |some (.map k e)=>some (k,e)
 |_=>none
theorem po{P:Program}{t k e:TypeId}(h:oL P t=some (k,e)):P.underlying t=some (.map k e):=by
 unfold oL at h;split at h
 ·cases h;assumption
 ·cases h
theorem iS{P:Program}{w:World}{k:Nat}{o:Obj}(h:w.heap[k]?=some o)(hc:lu o=false):(getObj k).run P w=.ok o w:=by cases o<;>first|(cases hc;done)|simp[getObj,Sem.run,h]
theorem jZ{P:Program}{w:World}{k:Nat}{o o':Obj}(h:w.heap[k]?=some o)(hc:lu o=false):(setObj k o').run P w=.ok () (w.putObj k o'):=by cases o<;>first|(cases hc;done)|simp[setObj,Sem.run,h,World.putObj]
theorem cJ.sp{E E':Env}{nx:Nat}(h:cJ E nx){k:Nat}(he:E'={E with sp:=λb=>if b=nx then some k else E.sp b}):cJ E' (nx+1):=by
 intro b hb;subst he;obtain⟨h1,h2,h3⟩:=h b (by omega);exact⟨h1,by show(if b=nx then _ else _)=none;rw[if_neg (by omega)];exact h2,h3⟩
theorem wy{P:Program}{t:TypeId}{r:Option Operand}{T:Tm}{H:Hp}{nx:Nat}{K:AV->Hp->Nat->Prop}(ht:r=none\/ ∃x n k p,r=some x/\ev T x=.int k n/\oL P t=some p)
    (h:K (.mp nx) (av H nx [.omap [] []]) (nx+1)):eY P (.makeMap t r) T H nx K:=by
 refine cz (by intro c;simp) ?_;rintro E w a ⟨dst,op,type,pos,after,guard⟩ ho hE hh hf htm;simp only at ho;subst ho;obtain⟨E',hE',he,hEo,hh',hs,hnew⟩:=HI hE hh (hf nx (bc _)) (.map #[] 0) rfl (by intro ds;simp);have hspm:=hEo.spm nx _ hs;refine⟨.value (.map (some w.heap.size)),.map (some w.heap.size),w.alloc (.map #[] 0),E',.mp nx,_,nx+1,?_,.inl rfl,he,hEo,hh'.addSp (x:=.omap [] []) (Fo _) hspm hs ⟨#[],0,hnew,⟨rfl,rfl,by simp,by simp,by simp,rfl⟩⟩,hf.sp hE',.mp _ _ hs,h⟩;refine kQ ?_;rcases ht with rfl|⟨x,n,k,p,rfl,hx,hp⟩
 ·simp only[Option.map_none,Instr.makeMap,bA,run_newObj_alloc,bu];rfl
 ·have hr:=htm x (by simp[Op.operands,Call.operands]);rw[hx] at hr;generalize hvx:a.eval x=vx at hr;cases hr;have hu:=po (P:=P) (t:=t) (k:=p.1) (e:=p.2) hp;simp only[ny,hvx,Instr.makeMap,bA,cp hu,asInt,eG,run_newObj_alloc,bu];rfl
theorem wb{E:Env}{H:Hp}{nx:Nat}{w:World}(hh:HeapOk E H nx w){b k:Nat}{ks vs:List AV}(hb:H b=some [.omap ks vs])(hs:E.sp b=some k):∃es clock,w.heap[k]?=some (.map es clock)/\MapOk E w ks vs es clock:=by
 obtain⟨k',h1,es,clock,h2,h3⟩:=hh.spec b _ hb rfl;rw[hs] at h1;cases h1;exact⟨es,clock,h2,h3⟩
theorem map_set{E:Env}{H:Hp}{nx:Nat}{w:World}(hE:EnvOk E w)(hh:HeapOk E H nx w){b k:Nat}{ks vs ks' vs':List AV}{es es':Array MapEntry}{clock clock':Nat}(hb:H b=some [.omap ks vs])(hs:E.sp b=some k)(hw:w.heap[k]?=some (.map es clock))
    (hm:MapOk E w ks' vs' es' clock'):Ext E w E (w.putObj k (.map es' clock'))/\EnvOk E (w.putObj k (.map es' clock'))/\HeapOk E (av H b [.omap ks' vs']) nx (w.putObj k (.map es' clock')):=by
 have hlp:∀r T,E.lp b=some (r,T)->False:=by
  intro r T h;obtain⟨k',st,p,h1,h2,_⟩:=hE.lp b r T h;rw[hs] at h1;cases h1;rw[hw] at h2;cases h2
 obtain⟨q1,q2,q3⟩:=BF hE (hh.del b) hs hw (o':=.map es' clock') rfl rfl (by intro ds;simp) (by intro ds;simp) (λr T h=>(hlp r T h).elim) (λx hx=>by rw[pq] at hx;cases hx);refine⟨q1,q2,?_⟩
 have hH:av (dv H b) b [.omap ks' vs']=av H b [.omap ks' vs']:=by
  funext y;unfold av dv;split<;>rfl
 rw[<-hH];exact q3.addSp (hh.dom _ _ hb) (q2.spm b k hs) hs ⟨es',clock',World.putObj_heap_same (kT.1 hw).1,hm.ext q1⟩
def jc(key:AV)(r:Option Nat)(ks:List AV):List AV:=match r with|some _=>ks|none=>ks++[key]
def qX(v:AV)(r:Option Nat)(vs:List AV):List AV:=match r with|some i=>vs.set i v|none=>vs++[v]
theorem xQ{a b:ByteArray}(h:a.toList=b.toList):a=b:=by
 rw[ByteArray.toList_eq,ByteArray.toList_eq] at h;obtain⟨⟨x⟩⟩:=a;obtain⟨⟨y⟩⟩:=b;simp at h;rw[h]
theorem AM{k:TK}{x y:AV}(h:lw k x y=some true):x=y:=by
 unfold lw at h;split at h
 ·split at h
  ·subst_vars;simp at h;rw[h]
  ·cases h
 ·simp at h;rw[xQ h]
 ·simp at h;rw[h]
 ·cases h
theorem Ad:∀{ks:List TK}{xs ys:List AV},dU ks xs ys=some true->xs=ys
 |[],[],[],_=>rfl
 |k::ks,x::xs,y::ys,h=>by
  simp only[dU] at h;split at h
  ·rename_i hs;rw[AM hs,Ad h]
  ·cases h
  ·cases h
 |[],_::_,_,h=>by cases h
 |[],[],_::_,h=>by cases h
 |_::_,[],_,h=>by cases h
 |_::_,_::_,[],h=>by cases h
theorem AQ{k:MK}{x y:AV}(h:jV k x y=some true):x=y:=by
 cases k with
 |one k=>exact AM h
 |st ks=>
  cases x<;>first|(cases h;done)|skip
  cases y<;>first|(cases h;done)|skip
  rw[Ad h]
theorem kO{k:MK}{key:AV}:∀{ks:List AV}{i:Nat},ef k key ks=some (some i)->∃x,ks[i]?=some x/\jV k key x=some true
 |[],i,h=>by cases h
 |x::l,i,h=>by
  simp only[ef] at h;split at h
  ·rename_i hs;cases h;exact⟨x,rfl,hs⟩
  ·cases hm:ef k key l with
   |none=>rw[hm] at h;cases h
   |some r=>
    rw[hm] at h;cases r with
    |none=>cases h
    |some j=>
     cases h;obtain⟨y,h1,h2⟩:=kO hm;exact⟨y,by simpa using h1,h2⟩
  ·cases h
theorem u6{E:Env}{w:World}{k:TK}{x y:AV}{vx vy:Value}(hx:Rel E w x vx)(hy:Rel E w y vy)(h:lw k x y=some true)(n:Nat):Instr.sameBits n vy vx=true:=by
 unfold lw at h;split at h
 ·cases hx;cases hy;split at h
  ·subst_vars;simp at h;subst h;cases n<;>simp[Instr.sameBits]
  ·cases h
 ·cases hx;cases hy;simp at h;rw[xQ h];cases n<;>simp[Instr.sameBits,beq_toListBytes]
 ·cases hx;cases hy;simp at h;subst h;cases n<;>simp[Instr.sameBits]
 ·cases h
theorem vo{E:Env}{w:World}{n:Nat}:∀{ks:List TK}{xs ys:List AV}{vx vy:List Value},dI E w xs vx->dI E w ys vy->dU ks xs ys=some true->vx.length=vy.length/\((vy.zip vx).all λ(x,y)=>Instr.sameBits n x y)=true
 |[],[],[],vx,vy,hx,hy,h=>by
  have h1:vx=[]:=fP.1 hx.1;have h2:vy=[]:=fP.1 hy.1;subst h1 h2;exact⟨rfl,rfl⟩
 |k::ks,x::xs,y::ys,vx,vy,hx,hy,h=>by
  cases vx with
  |nil=>have:=hx.1;simp at this
  |cons v1 vx=>
  cases vy with
  |nil=>have:=hy.1;simp at this
  |cons v2 vy=>
  simp only[dU] at h;split at h
  ·rename_i hs;have r1:dI E w xs vx:=⟨by have:=hx.1;simpa using this,λi a b ha hb=>hx.2 (i+1) a b (by simpa using ha) (by simpa using hb)⟩
   have r2:dI E w ys vy:=⟨by have:=hy.1;simpa using this,λi a b ha hb=>hy.2 (i+1) a b (by simpa using ha) (by simpa using hb)⟩
   obtain⟨e1,e2⟩:=vo (n:=n) r1 r2 h;refine⟨by simp[e1],?_⟩;simp only[List.zip_cons_cons,List.all_cons,eL];exact⟨u6 (hx.2 0 x v1 rfl rfl) (hy.2 0 y v2 rfl rfl) hs n,e2⟩
  ·cases h
  ·cases h
 |[],_::_,_,_,_,_,_,h=>by cases h
 |[],[],_::_,_,_,_,_,h=>by cases h
 |_::_,[],_,_,_,_,_,h=>by cases h
 |_::_,_::_,[],_,_,_,_,h=>by cases h
theorem vh{E:Env}{w:World}{k:MK}{x y:AV}{vx vy:Value}(hx:Rel E w x vx)(hy:Rel E w y vy)(h:jV k x y=some true):Instr.sameBits 10000 vy vx=true:=by
 cases k with
 |one k=>exact u6 hx hy h _
 |st ks=>
  cases x<;>first|(cases h;done)|skip
  cases y<;>first|(cases h;done)|skip
  cases hx with
  |agg _ v1 l1 r1=>
  cases hy with
  |agg _ v2 l2 r2=>
  obtain⟨e1,e2⟩:=vo (n:=9999) ⟨l1,r1⟩ ⟨l2,r2⟩ h;show Instr.sameBits (9999+1) _ _=true;simp only[Instr.sameBits,eL];exact⟨by simp[e1],e2⟩
theorem th{P:Program}{t kt et:TypeId}{m k x:Operand}{T:Tm}{H:Hp}{nx b:Nat}{K:AV->Hp->Nat->Prop}{mk:MK}{ks vs:List AV}{r:Option Nat}(ht:oL P t=some (kt,et))(hk:mkk P kt=some mk)
    (hm:ev T m=.mp b) (hb:H b=some [.omap ks vs]) (hfit:sw mk (ev T k)=true) (hr:ef mk (ev T k) ks=some r)
    (h:K (.tup []) (av H b [.omap (jc (ev T k) r ks) (qX (ev T x) r vs)]) nx):eY P (.mapUpdate t m k x) T H nx K:=by
 refine cz (by intro c;simp) ?_;rintro E w a ⟨dst,op,type,pos,after,guard⟩ ho hE hh hf htm;simp only at ho;subst ho;have hmr:=htm m (by simp[Op.operands,Call.operands]);have hkr:=htm k (by simp[Op.operands,Call.operands]);have hxr:=htm x (by simp[Op.operands,Call.operands]);rw[hm] at hmr;generalize hvm:a.eval m=vm at hmr;cases hmr with
 |mp _ kb hs=>
 obtain⟨es,clock,hw,hok⟩:=wb hh hb hs;have hck:=kp (P:=P) (w:=w) hk hkr hfit false;have hfk:=jI (P:=P) (es:=es.toList) (ks:=ks) hk hkr (by simpa using hok.len) (λj y e h1 h2=>hok.key j y e h1 (by simpa using h2)) hr;have hu:=po ht
 have key:∃es' clock',(Instr.mapUpdate t (.map (some kb)) (a.eval k) (a.eval x)).run P w=.ok () (w.putObj kb (.map es' clock'))/\MapOk E w (jc (ev T k) r ks) (qX (ev T x) r vs) es' clock':=by
  unfold Instr.mapUpdate;simp only[bA,cp hu,bu,iS hw rfl,hck,hfk];cases r with
  |none=>
   simp only[pC,Option.map_none,jZ hw rfl];refine⟨_,_,rfl,?_⟩;have hl:=hok.len;have hl':=hok.len';refine⟨by simp[jc,hl],by simp[qX,jc,hl'],λi y e h1 h2=>?_,λi y e h1 h2=>?_,λi e h1=>?_,by simp[hok.clk]⟩
   ·simp only[jc] at h1;rw[EI] at h2;split at h2
    ·rename_i he;cases h2;rw[he,hl,iA (bc _)] at h1;simp at h1;subst h1;exact hkr
    ·rename_i hne;have hlt:i<es.size:=(kT.1 h2).1;rw[gG (by omega)] at h1;exact hok.key i y e h1 h2
   ·simp only[qX] at h1;rw[EI] at h2;split at h2
    ·rename_i he;cases h2;rw[he,hl,iA (by omega)] at h1;simp[hl'] at h1;subst h1;exact hxr
    ·rename_i hne;have hlt:i<es.size:=(kT.1 h2).1;rw[gG (by omega)] at h1;exact hok.val i y e h1 h2
   ·rw[EI] at h1;split at h1
    ·rename_i he;cases h1;rw[he];exact hok.clk
    ·exact hok.born i e h1
  |some i=>
   obtain⟨y,hy,hsame⟩:=kO hr;have hlt:i<es.size:=by have:=(bH.1 hy).1;have:=hok.len;omega
   have hbits:=vh hkr (hok.key i y es[i] hy (by simp[hlt])) hsame
   have hkeep:(Instr.keyThatStays (((es[i]?).map (·.key)).getD (a.eval k)) (a.eval k)).run P w=.ok (a.eval k) w:=by
    unfold Instr.keyThatStays;simp only[hlt,Cf,ny,tC];rw[if_pos hbits];rfl
   simp only[pC,ny,dt,bA,hkeep,bu,jZ hw rfl];refine⟨_,_,rfl,?_⟩
   have hmod:∀j e,(es.modify i λe=>{e with key:=a.eval k,val:=a.eval x})[j]?=some e->∃e0,es[j]?=some e0/\((i=j/\e={e0 with key:=a.eval k,val:=a.eval x})\/(i≠j/\e=e0)):=by
    intro j e he;rw[Array.getElem?_modify] at he;split at he
    ·rename_i hij;cases h0:es[j]? with
     |none=>rw[h0] at he;cases he
     |some e0=>rw[h0] at he;cases he;exact⟨e0,rfl,.inl ⟨hij,rfl⟩⟩
    ·rename_i hij;exact⟨e,he,.inr ⟨hij,rfl⟩⟩
   refine⟨by simp[jc,hok.len],by simp[qX,jc,hok.len'],λj z e h1 h2=>?_,λj z e h1 h2=>?_,λj e h1=>?_,by simp[hok.clk]⟩
   ·obtain⟨e0,k1,(⟨rfl,rfl⟩|⟨hne,rfl⟩)⟩:=hmod j e h2
    ·simp only[jc] at h1;rw[hy] at h1;cases h1;rw[<-AQ hsame];exact hkr
    ·exact hok.key j z e h1 k1
   ·obtain⟨e0,k1,(⟨rfl,rfl⟩|⟨hne,rfl⟩)⟩:=hmod j e h2
    ·simp only[qX] at h1;have:i<vs.length:=by have:=hok.len';have:=hok.len;omega
     rw[List.getElem?_set_self this] at h1;cases h1;exact hxr
    ·simp only[qX] at h1;rw[List.getElem?_set_ne hne] at h1;exact hok.val j z e h1 k1
   ·obtain⟨e0,k1,(⟨rfl,rfl⟩|⟨hne,rfl⟩)⟩:=hmod j e h1
    ·exact hok.born i e0 k1
    ·exact hok.born j e k1
 obtain⟨es',clock',hrun,hok'⟩:=key;obtain⟨q1,q2,q3⟩:=map_set hE hh hb hs hw hok';refine⟨.skip,Go.undef,_,E,.tup [],_,nx,?_,.inr ⟨rfl,rfl⟩,q1,q2,q3,hf,jp _ _,h⟩;refine xM ?_;show(Instr.mapUpdate t (a.eval m) (a.eval k) (a.eval x)).run P w=_;rw[hvm];exact hrun
def mget(z:AV)(ok:Bool)(r:Option Nat)(vs:List AV):AV:=match r with
 |some i=>if ok=true then .tup [vs.getD i .undef,.bool true] else vs.getD i .undef
 |none=>if ok=true then .tup [z,.bool false] else z
theorem lX{E:Env}{w:World}{x y:AV}{u v:Value}(h1:Rel E w x u)(h2:Rel E w y v):Rel E w (.tup [x,y]) (.tuple #[u,v]):=by
 refine Rel.tup [x,y] [u,v] rfl (λi a b ha hb=>?_)
 match i with
 |0=>cases ha;cases hb;exact h1
 |1=>cases ha;cases hb;exact h2
 |i+2=>cases ha
theorem qA{P:Program}{t kt et:TypeId}{m k:Operand}{ok:Bool}{T:Tm}{H:Hp}{nx b:Nat}{K:AV->Hp->Nat->Prop}{mk:MK}{ks vs:List AV}{r:Option Nat}{z:AV}(ht:oL P t=some (kt,et))(hk:mkk P kt=some mk)(hz:gJ P et=some z)
    (hm:ev T m=.mp b) (hb:H b=some [.omap ks vs]) (hfit:sw mk (ev T k)=true) (hr:ef mk (ev T k) ks=some r)
    (h:K (mget z ok r vs) H nx):eY P (.lookup t m k ok) T H nx K:=by
 refine cz (by intro c;simp) ?_;rintro E w a ⟨dst,op,type,pos,after,guard⟩ ho hE hh hf htm;simp only at ho;subst ho;have hmr:=htm m (by simp[Op.operands,Call.operands]);have hkr:=htm k (by simp[Op.operands,Call.operands]);rw[hm] at hmr;generalize hvm:a.eval m=vm at hmr;cases hmr with
 |mp _ kb hs=>
 obtain⟨es,clock,hw,hok⟩:=wb hh hb hs;have hck:=kp (P:=P) (w:=w) hk hkr hfit es.isEmpty;have hfk:=jI (P:=P) (es:=es.toList) (ks:=ks) hk hkr (by simpa using hok.len) (λj y e h1 h2=>hok.key j y e h1 (by simpa using h2)) hr;have hu:=po ht;obtain⟨vz,hvz,hrz⟩:=eU hz
 have key:∃v,(Instr.lookup t (.map (some kb)) (a.eval k) ok).run P w=.ok v w/\Rel E w (mget z ok r vs) v:=by
  unfold Instr.lookup;simp only[bA,cp hu,bu,iS hw rfl,eG,hck,hfk];cases r with
  |none=>
   simp only[pC,Option.map_none,bA,hvz,bu,eG];refine⟨_,rfl,?_⟩;unfold mget;cases ok with
   |true=>exact lX (hrz E w) (.bool _)
   |false=>exact hrz E w
  |some i=>
   obtain⟨y,hy,hsame⟩:=kO hr;have hlt:i<es.size:=by have:=(bH.1 hy).1;have:=hok.len;omega
   have hlv:i<vs.length:=by have:=hok.len';have:=hok.len;omega
   simp only[pC,ny,eG,bu];refine⟨_,rfl,?_⟩;have e1:es.toList.getD i default=es[i]:=by simp[List.getD,hlt]
   have e2:vs.getD i .undef=vs[i]:=by simp[List.getD,hlv]
   have hrel:=hok.val i vs[i] es[i] (by simp[hlv]) (by simp[hlt]);rw[e1];cases ok with
   |true=>
    show Rel E w (.tup [vs.getD i .undef,.bool true]) _;rw[e2];exact lX hrel (.bool _)
   |false=>
    show Rel E w (vs.getD i .undef) _;rw[e2];exact hrel
 obtain⟨v,hrun,hrel⟩:=key;refine⟨.value v,v,w,E,_,H,nx,?_,.inl rfl,Ext.refl _ _,hE,hh,hf,hrel,h⟩;refine kQ ?_;show(Instr.lookup t (a.eval m) (a.eval k) ok).run P w=_;rw[hvm];exact hrun
def BL(z:AV)(r:Option Nat)(vs:List AV):List AV:=match r with|some _=>vs|none=>vs++[z]
def Jc(r:Option Nat)(ks:List AV):Nat:=match r with|some i=>i|none=>ks.length
def Lz(z:AV)(r:Option Nat)(vs:List AV):AV:=match r with|some i=>vs.getD i .undef|none=>z
theorem vS{P:Program}{t kt et:TypeId}{m k:Operand}{T:Tm}{H:Hp}{nx b:Nat}{K:AV->Hp->Nat->Prop}{mk:MK}{ks vs:List AV}{r:Option Nat}{z:AV}(ht:oL P t=some (kt,et))(hk:mkk P kt=some mk)(hz:gJ P et=some z)
    (hm:ev T m=.mp b) (hb:H b=some [.omap ks vs]) (hfit:sw mk (ev T k)=true) (hr:ef mk (ev T k) ks=some r)
    (h:K (.tup [Lz z r vs,.int .i64 (Jc r ks)]) (av H b [.omap (jc (ev T k) r ks) (BL z r vs)]) nx):eY P (.mapEntry t m k) T H nx K:=by
 refine cz (by intro c;simp) ?_;rintro E w a ⟨dst,op,type,pos,after,guard⟩ ho hE hh hf htm;simp only at ho;subst ho;have hmr:=htm m (by simp[Op.operands,Call.operands]);have hkr:=htm k (by simp[Op.operands,Call.operands]);rw[hm] at hmr;generalize hvm:a.eval m=vm at hmr;cases hmr with
 |mp _ kb hs=>
 obtain⟨es,clock,hw,hok⟩:=wb hh hb hs;have hck:=kp (P:=P) (w:=w) hk hkr hfit false;have hfk:=jI (P:=P) (es:=es.toList) (ks:=ks) hk hkr (by simpa using hok.len) (λj y e h1 h2=>hok.key j y e h1 (by simpa using h2)) hr;have hu:=po ht;obtain⟨vz,hvz,hrz⟩:=eU hz
 have key:∃v es' clock',(Instr.mapEntry t (.map (some kb)) (a.eval k)).run P w=.ok v (w.putObj kb (.map es' clock'))/\MapOk E w (jc (ev T k) r ks) (BL z r vs) es' clock'/\Rel E w (.tup [Lz z r vs,.int .i64 (Jc r ks)]) v:=by
  unfold Instr.mapEntry;simp only[bA,cp hu,bu,iS hw rfl,hck,hfk];cases r with
  |none=>
   simp only[pC,Option.map_none,bA,hvz,bu,jZ hw rfl,eG];have hl:=hok.len;have hl':=hok.len';refine⟨_,_,_,rfl,⟨by simp[jc,hl],by simp[BL,jc,hl'],λi y e h1 h2=>?_,λi y e h1 h2=>?_,λi e h1=>?_,by simp[hok.clk]⟩,?_⟩
   ·simp only[jc] at h1;rw[EI] at h2;split at h2
    ·rename_i he;cases h2;rw[he,hl,iA (bc _)] at h1;simp at h1;subst h1;exact hkr
    ·rename_i hne;have hlt:i<es.size:=(kT.1 h2).1;rw[gG (by omega)] at h1;exact hok.key i y e h1 h2
   ·simp only[BL] at h1;rw[EI] at h2;split at h2
    ·rename_i he;cases h2;rw[he,hl,iA (by omega)] at h1;simp[hl'] at h1;subst h1;exact hrz E w
    ·rename_i hne;have hlt:i<es.size:=(kT.1 h2).1;rw[gG (by omega)] at h1;exact hok.val i y e h1 h2
   ·rw[EI] at h1;split at h1
    ·rename_i he;cases h1;rw[he];exact hok.clk
    ·exact hok.born i e h1
   ·refine lX (hrz E w) ?_;rw[show(Jc none ks:Int)=(clock:Int) by rw[hok.clk,hl];rfl];exact .int _ _
  |some i=>
   obtain⟨y,hy,hsame⟩:=kO hr;have hlt:i<es.size:=by have:=(bH.1 hy).1;have:=hok.len;omega
   have hlv:i<vs.length:=by have:=hok.len';have:=hok.len;omega
   have hbits:=vh hkr (hok.key i y es[i] hy (by simp[hlt])) hsame
   have hkeep:(Instr.keyThatStays (((es[i]?).map (·.key)).getD (a.eval k)) (a.eval k)).run P w=.ok (a.eval k) w:=by
    unfold Instr.keyThatStays;simp only[hlt,Cf,ny,tC];rw[if_pos hbits];rfl
   simp only[pC,ny,dt,bA,hkeep,bu,jZ hw rfl,eG]
   have hmod:∀j e,(es.modify i λe=>{e with key:=a.eval k})[j]?=some e->∃e0,es[j]?=some e0/\((i=j/\e={e0 with key:=a.eval k})\/(i≠j/\e=e0)):=by
    intro j e he;rw[Array.getElem?_modify] at he;split at he
    ·rename_i hij;cases h0:es[j]? with
     |none=>rw[h0] at he;cases he
     |some e0=>rw[h0] at he;cases he;exact⟨e0,rfl,.inl ⟨hij,rfl⟩⟩
    ·rename_i hij;exact⟨e,he,.inr ⟨hij,rfl⟩⟩
   refine⟨_,_,_,rfl,⟨by simp[jc,hok.len],by simp[BL,jc,hok.len'],λj z' e h1 h2=>?_,λj z' e h1 h2=>?_,λj e h1=>?_,by simp[hok.clk]⟩,?_⟩
   ·obtain⟨e0,k1,(⟨rfl,rfl⟩|⟨hne,rfl⟩)⟩:=hmod j e h2
    ·simp only[jc] at h1;rw[hy] at h1;cases h1;rw[<-AQ hsame];exact hkr
    ·exact hok.key j z' e h1 k1
   ·simp only[BL] at h1;obtain⟨e0,k1,(⟨rfl,rfl⟩|⟨hne,rfl⟩)⟩:=hmod j e h2
    ·exact hok.val i z' e0 h1 k1
    ·exact hok.val j z' e h1 k1
   ·obtain⟨e0,k1,(⟨rfl,rfl⟩|⟨hne,rfl⟩)⟩:=hmod j e h1
    ·exact hok.born i e0 k1
    ·exact hok.born j e k1
   ·have e1:es.toList.getD i default=es[i]:=by simp[List.getD,hlt]
    have e2:vs.getD i .undef=vs[i]:=by simp[List.getD,hlv]
    have hrel:=hok.val i vs[i] es[i] (by simp[hlv]) (by simp[hlt]);have hbn:=hok.born i es[i] (by simp[hlt]);rw[e1];simp only[hlt,Cf,ny,tC,hbn];show Rel E w (.tup [vs.getD i .undef,.int .i64 (i:Nat)]) _;rw[e2];exact lX hrel (.int _ _)
 obtain⟨v,es',clock',hrun,hok',hrel⟩:=key;obtain⟨q1,q2,q3⟩:=map_set hE hh hb hs hw hok';refine⟨.value v,v,_,E,_,_,nx,?_,.inl rfl,q1,q2,q3,hf,hrel.ext q1,h⟩;refine kQ ?_;show(Instr.mapEntry t (a.eval m) (a.eval k)).run P w=_;rw[hvm];exact hrun
theorem rZ{P:Program}{t:TypeId}{m s x:Operand}{T:Tm}{H:Hp}{nx b i:Nat}{K:AV->Hp->Nat->Prop}{ks vs:List AV}
    (hm:ev T m=.mp b) (hb:H b=some [.omap ks vs]) (hi:ev T s=.int .i64 (i:Int)) (hlt:i<ks.length)
    (h:K (.tup []) (av H b [.omap ks (vs.set i (ev T x))]) nx):eY P (.entryStore t m s x) T H nx K:=by
 refine cz (by intro c;simp) ?_;rintro E w a ⟨dst,op,type,pos,after,guard⟩ ho hE hh hf htm;simp only at ho;subst ho;have hmr:=htm m (by simp[Op.operands,Call.operands]);have hsr:=htm s (by simp[Op.operands,Call.operands]);have hxr:=htm x (by simp[Op.operands,Call.operands]);rw[hm] at hmr;rw[hi] at hsr;generalize hvm:a.eval m=vm at hmr;generalize hvs:a.eval s=vs1 at hsr;cases hsr;cases hmr with
 |mp _ kb hs=>
 obtain⟨es,clock,hw,hok⟩:=wb hh hb hs;have hle:i<es.size:=by have:=hok.len;omega
 have hfi:es.findIdx? (λe=>(e.born:Int)==(i:Int))=some i:=by
  rw[Array.findIdx?_eq_some_iff_getElem];refine⟨hle,?_,λj hj=>?_⟩
  ·have:=hok.born i es[i] (by simp[hle]);simp[this]
  ·have:=hok.born j es[j] (by simp[show j<es.size by omega]);simp[this];omega
 have key:∃es' clock',(Instr.entryStore t (.map (some kb)) (.int .i64 (i:Int)) (a.eval x)).run P w=.ok () (w.putObj kb (.map es' clock'))/\MapOk E w ks (vs.set i (ev T x)) es' clock':=by
  unfold Instr.entryStore;simp only[bA,bu,iS hw rfl,asInt,asIntOf,eG,hfi,jZ hw rfl]
  have hmod:∀j e,(es.modify i λe=>{e with val:=a.eval x})[j]?=some e->∃e0,es[j]?=some e0/\((i=j/\e={e0 with val:=a.eval x})\/(i≠j/\e=e0)):=by
   intro j e he;rw[Array.getElem?_modify] at he;split at he
   ·rename_i hij;cases h0:es[j]? with
    |none=>rw[h0] at he;cases he
    |some e0=>rw[h0] at he;cases he;exact⟨e0,rfl,.inl ⟨hij,rfl⟩⟩
   ·rename_i hij;exact⟨e,he,.inr ⟨hij,rfl⟩⟩
  refine⟨_,_,rfl,⟨by simp[hok.len],by simp[hok.len'],λj z e h1 h2=>?_,λj z e h1 h2=>?_,λj e h1=>?_,by simp[hok.clk]⟩⟩
  ·obtain⟨e0,k1,(⟨rfl,rfl⟩|⟨hne,rfl⟩)⟩:=hmod j e h2
   ·exact hok.key i z e0 h1 k1
   ·exact hok.key j z e h1 k1
  ·obtain⟨e0,k1,(⟨rfl,rfl⟩|⟨hne,rfl⟩)⟩:=hmod j e h2
   ·have:i<vs.length:=by have:=hok.len';omega
    rw[List.getElem?_set_self this] at h1;cases h1;exact hxr
   ·rw[List.getElem?_set_ne hne] at h1;exact hok.val j z e h1 k1
  ·obtain⟨e0,k1,(⟨rfl,rfl⟩|⟨hne,rfl⟩)⟩:=hmod j e h1
   ·exact hok.born i e0 k1
   ·exact hok.born j e k1
 obtain⟨es',clock',hrun,hok'⟩:=key;obtain⟨q1,q2,q3⟩:=map_set hE hh hb hs hw hok';refine⟨.skip,Go.undef,_,E,.tup [],_,nx,?_,.inr ⟨rfl,rfl⟩,q1,q2,q3,hf,jp _ _,h⟩;refine xM ?_;show(Instr.entryStore t (a.eval m) (a.eval s) (a.eval x)).run P w=_;rw[hvm,hvs];exact hrun
theorem Ck{P:Program}{t:TypeId}{m:Operand}{T:Tm}{H:Hp}{nx b:Nat}{K:AV->Hp->Nat->Prop}{p:TypeId×TypeId}{ks vs:List AV}(ht:oL P t=some p)(hm:ev T m=.mp b)(hb:H b=some [.omap ks vs])
    (h:K (.int .i64 ks.length) H nx):eY P (.call {callee:=.builtin .len,args:=#[m],argTypes:=#[t]}) T H nx K:=by
 refine cz (by intro c;simp) ?_;rintro E w a ⟨dst,op,type,pos,after,guard⟩ ho hE hh hf htm;simp only at ho;subst ho;have hmr:=htm m (by simp[Op.operands,Call.operands]);rw[hm] at hmr;generalize hvm:a.eval m=vm at hmr;cases hmr with
 |mp _ kb hs=>
 obtain⟨es,clock,hw,hok⟩:=wb hh hb hs;have hu:=po (P:=P) (t:=t) (k:=p.1) (e:=p.2) ht
 have hrun:(Builtin.len_ #[t] type #[.map (some kb)]).run P w=.ok (goInt es.size) w:=by
  unfold Builtin.len_;simp[cp hu,iS hw rfl]
 refine⟨.value (goInt es.size),goInt es.size,w,E,_,H,nx,?_,.inl rfl,Ext.refl _ _,hE,hh,hf,?_,h⟩
 ·simp only[execOp,resolve,invoke,builtin,bA,eG,bu];simp[hvm,hrun]
 ·rw[hok.len];exact .int _ _
def Ai(n:Nat):AV->AV
 |.sl sz l=>.sl sz (l.take n)
 |.msl b m sz off _=>.msl b m sz off n
 |x=>x
def jL:AV->Option Nat
 |.sl _ l=>some l.length
 |.msl _ _ _ _ len=>some len
 |.esl=>some 0
 |_=>none
theorem zH{P:Program}{E:Env}{H:Hp}{nx:Nat}{w:World}(hh:HeapOk E H nx w){x:AV}{v:Value}(hx:Rel E w x v){n k sz j:Nat}{new:List AV}(hk:jL x=some k)(hn:n<=k)(hn0:0<n)(h:ee sz H (Ai n x)=some (j,new)):
    (Builtin.lenOf v).run P w=.ok k w/\new.length=n*sz/\∃vals:List Value,(Builtin.firstCells sz n v).run P w=.ok vals.toArray w/\vals.length=new.length/\∀(i:Nat)(a:AV)(y:Value),new[i]?=some a->vals[i]?=some y->Rel E w a y:=by
 cases hx with
 |sl szz elems blk o cap vals him hlen hsz hcell hr=>
  cases hk;have htl:(elems.take n).length=n:=by simp;omega
  have hx':Rel E w (.sl szz (elems.take n)) (.slice (some ⟨blk,o,none⟩) (elems.take n).length cap):=
   Rel.sl szz (elems.take n) blk o cap vals him (by omega) (fun y hy=>hsz y (BW hy)) (fun i hi=>hcell i (Ak hi (jv _ (by omega)))) (fun i j y c hy hc=>by
    rw[jl] at hy;split at hy
    ·exact hr i j y c hy hc
    ·cases hy)
  obtain⟨h1,h2,vs,h3,h4,h5⟩:=jt (P:=P) hh hx' h
  have hj:j=n:=by
   have:=h1;simp only[Builtin.lenOf,eG] at this;injection this with e;omega
  subst hj;exact⟨rfl,h2,vs,h3,h4,h5⟩
 |msl b m szz off len blk bsz cap hm hl hc hnn=>
  cases hk;have hx':Rel E w (.msl b m szz off n) (.slice (some ⟨blk,off,none⟩) n cap):=.msl _ _ _ _ _ _ _ _ hm (by omega) hc hnn;obtain⟨h1,h2,vs,h3,h4,h5⟩:=jt (P:=P) hh hx' h
  have hj:j=n:=by
   have:=h1;simp only[Builtin.lenOf,eG] at this;injection this with e;exact e.symm
  subst hj;exact⟨rfl,h2,vs,h3,h4,h5⟩
 |slnil=>cases hk;simp at hn;omega
 |slempty=>cases hk;simp at hn;omega
 |msl0=>cases hk;omega
 |eslnil=>cases hk;omega
 |esl=>cases hk;omega
 |_=>cases hk
theorem sX{P:Program}{E:Env}{w:World}{x:AV}{v:Value}(hx:Rel E w x v){k:Nat}(hk:jL x=some k):(Builtin.lenOf v).run P w=.ok k w/\∃a c,v=.slice a k c:=by
 cases hx with
 |sl=>cases hk;exact⟨rfl,_,_,rfl⟩
 |msl=>cases hk;exact⟨rfl,_,_,rfl⟩
 |slnil=>cases hk;exact⟨rfl,_,_,rfl⟩
 |slempty=>cases hk;exact⟨rfl,_,_,rfl⟩
 |msl0 _ _ _ h=>cases hk;rcases h with rfl|⟨_,rfl⟩<;>exact⟨rfl,_,_,rfl⟩
 |eslnil=>cases hk;exact⟨rfl,_,_,rfl⟩
 |esl=>cases hk;exact⟨rfl,_,_,rfl⟩
 |_=>cases hk
theorem tr{P:Program}{w:World}{sz k c:Nat}{a:Option Addr}:(Builtin.firstCells sz 0 (.slice a k c)).run P w=.ok #[] w:=by
 cases a<;>simp[Builtin.firstCells,loadCells,loadCellsFrom]
def uR(sz:Nat)(d s:AV)(H:Hp):Option (Nat×Hp):=
 match jL d,jL s with
 |some ld,some ls=>
  if min ls ld=0 then some (0,H) else
  match d with
  |.msl b n sz' off _=>match H b,ee sz H (Ai (min ls ld) s) with
   |some cs,some (_,new)=>if cs.length=n/\sz'=sz/\off+min ls ld*sz<=n/\new.all AV.one=true then some (min ls ld,av H b (cI cs off new)) else none
   |_,_=>none
  |_=>none
 |_,_=>none
theorem BV{P:Program}{tD tS e:TypeId}{d s:Operand}{T:Tm}{H:Hp}{nx:Nat}{K:AV->Hp->Nat->Prop}{n:Nat}{H':Hp}(ht:gw P tD=some e)(hte:tok P e=true)
    (h:uR (P.cellsOf e) (ev T d) (ev T s) H=some (n,H')) (hk:K (.int .i64 n) H' nx):eY P (.call {callee:=.builtin .copy,args:=#[d,s],argTypes:=#[tD,tS]}) T H nx K:=by
 refine cz (by intro c;simp) ?_;rintro E w a ⟨dst,op,type,pos,after,guard⟩ ho hE hh hf htm;simp only at ho;subst ho;have hdr:=htm d (by simp[Op.operands,Call.operands]);have hsr:=htm s (by simp[Op.operands,Call.operands]);have hu:=iC ht
 have hexec:∀v w',(Builtin.copy_ #[tD,tS] type #[a.eval d,a.eval s]).run P w=.ok v w'->(execOp a.eval ⟨dst,.call {callee:=.builtin .copy,args:=#[d,s],argTypes:=#[tD,tS]},type,pos,after,guard⟩).run P w=.ok (.value v) w':=by
  intro v w' h;simp only[execOp,resolve,invoke,builtin,bA,eG,bu];simp[h]
 unfold uR at h;split at h
 case h_2=>cases h
 rename_i ld ls hld hls;obtain⟨_,ad,cd,hvd⟩:=sX (P:=P) hdr hld;obtain⟨hls',as,cs',hvs⟩:=sX (P:=P) hsr hls;split at h
 case isTrue h0=>
  cases h
  have hrun:(Builtin.copy_ #[tD,tS] type #[a.eval d,a.eval s]).run P w=.ok (goInt 0) w:=by
   have h0':Nat.min ls ld=0:=h0;unfold Builtin.copy_;simp only[pu,tG,Fh,bA,cp hu,bu,hvd];simp only[hls',bu,h0',aU hte];rw[hvs];simp only[tr,bu];cases ad<;>simp[storeCells]
  exact⟨.value (goInt 0),goInt 0,w,E,_,H,nx,hexec _ _ hrun,.inl rfl,Ext.refl _ _,hE,hh,hf,.int _ _,hk⟩
 case isFalse h0=>
  split at h
  case h_2=>cases h
  rename_i b n' sz' off len hd;split at h
  case h_2=>cases h
  rename_i cs j new hb hsrc;split at h
  case isFalse=>cases h
  case isTrue hc=>
  obtain⟨rfl,rfl,hfit,hone⟩:=hc;cases h;have hlen:len=ld:=by rw[hd] at hld;cases hld;rfl
  subst hlen;obtain⟨_,hnl,vals,h3,h4,h5⟩:=zH (P:=P) hh hsr hls (Nat.min_le_left _ _) (by omega) hsrc
  have hones:∀y∈vals,y.oneCell'=true:=by
   intro y hy;obtain⟨i,hi⟩:=rY hy;have hlt:i<new.length:=by have:=(bH.1 hi).1;omega
   exact(h5 i new[i] y (by simp[hlt]) hi).one (dQ.1 hone _ (mq hlt))
  rw[hd] at hdr;generalize hnn:cs.length=nn at hdr;generalize hvd':a.eval d=vd at hdr;cases hdr with
  |msl0=>omega
  |msl _ _ _ _ _ blk bsz cap hm hl hcp hcn=>
  subst hnn;obtain⟨w',E',g1,g2,g3,g4,g5,g6,g7⟩:=lJ (P:=P) hE hh (off:=off) hb hm (new:=new) (nv:=vals) (by rw[hnl];exact hfit) h4 h5 hones
  have hrun:(Builtin.copy_ #[tD,tS] type #[a.eval d,a.eval s]).run P w=.ok (goInt ((min ls len:Nat):Int)) w':=by
   have e:Nat.min ls len=min ls len:=rfl;unfold Builtin.copy_;simp only[pu,tG,Fh,bA,cp hu,bu,hvd',hls',e,aU hte,h3,g1,eG]
  exact⟨.value (goInt ((min ls len:Nat):Int)),goInt ((min ls len:Nat):Int),w',E',.int .i64 ((min ls len:Nat):Int),_,nx,hexec _ _ hrun,.inl rfl,g2,g3,g4,hf.of (bc _) (λb' n hb'=>g5 b' n (by have:=hh.dom _ _ hb;omega)) g6 g7,.int _ _,hk⟩
def wq(sz:Nat)(z x:AV)(H:Hp):Option Hp:=match x with
 |.msl b n sz' off len=>if len=0 then some H else match H b with
  |some cs=>if cs.length=n/\sz'=sz/\z.flat=true/\z.cells.length=sz/\off+len*sz<=n then some (av H b (cI cs off (bd z len))) else none
  |none=>none
 |_=>none
theorem AI{P:Program}{tX e:TypeId}{x:Operand}{T:Tm}{H:Hp}{nx:Nat}{K:AV->Hp->Nat->Prop}{z:AV}{H':Hp}(ht:gw P tX=some e)(hz:gJ P e=some z)
    (h:wq (P.cellsOf e) z (ev T x) H=some H') (hpos:0<P.cellsOf e) (hk:K (.tup []) H' nx):eY P (.call {callee:=.builtin .clear,args:=#[x],argTypes:=#[tX]}) T H nx K:=by
 refine cz (by intro c;simp) ?_;rintro E w a ⟨dst,op,type,pos,after,guard⟩ ho hE hh hf htm;simp only at ho;subst ho;have hxr:=htm x (by simp[Op.operands,Call.operands]);have hu:=iC ht
 have hexec:∀v w',(Builtin.clear_ #[tX] type #[a.eval x]).run P w=.ok v w'->(execOp a.eval ⟨dst,.call {callee:=.builtin .clear,args:=#[x],argTypes:=#[tX]},type,pos,after,guard⟩).run P w=.ok (.value v) w':=by
  intro v w' h;simp only[execOp,resolve,invoke,builtin,bA,eG,bu];simp[h]
 unfold wq at h;split at h
 case h_2=>cases h
 rename_i b n sz' off len hx;rw[hx] at hxr;split at h
 case isTrue h0=>
  cases h;subst h0
  have hrun:(Builtin.clear_ #[tX] type #[a.eval x]).run P w=.ok (.tuple #[]) w:=by
   generalize a.eval x=vx at hxr;unfold Builtin.clear_;simp only[pu,tG,bA,cp hu,bu];cases hxr with
   |msl=>rfl
   |msl0 _ _ _ hv=>rcases hv with rfl|⟨_,rfl⟩<;>rfl
  exact⟨.value (.tuple #[]),.tuple #[],w,E,.tup [],H,nx,hexec _ _ hrun,.inl rfl,Ext.refl _ _,hE,hh,hf,jp _ _,hk⟩
 case isFalse h0=>
  split at h
  case h_2=>cases h
  rename_i cs hb;split at h
  case isFalse=>cases h
  case isTrue hc=>
  obtain⟨rfl,rfl,hfl,hzl,hfit⟩:=hc;cases h;generalize hnn:cs.length=nn at hxr;generalize hvx:a.eval x=vx at hxr;cases hxr with
  |msl0=>omega
  |msl _ _ _ _ _ blk bsz cap hm hl hcp hcn=>
  subst hnn;obtain⟨vz,hvz,hrz⟩:=eU hz;obtain⟨k1,k2,k3⟩:=(hrz E w).cells hfl
  have hvs : vz.cells.size = P.cellsOf e := by have : vz.cells.toList.length = vz.cells.size := by simp
                                               omega
  have hzc:(bd z len).length=len*P.cellsOf e:=by simp[bd,hzl]
  have hzz:(Builtin.zeroCells vz.cells len).size=len*P.cellsOf e:=by simp[Builtin.zeroCells,hvs]
  have hget:∀j(y:Value),(Builtin.zeroCells vz.cells len)[j]?=some y->j<len*P.cellsOf e/\vz.cells[j%P.cellsOf e]?=some y:=by
   intro j y hy;have hj:j<len*P.cellsOf e:=by rw[<-hzz];exact(kT.1 hy).1
   refine⟨hj,?_⟩;have hlt:j%P.cellsOf e<vz.cells.size:=by rw[hvs];exact Nat.mod_lt _ hpos
   unfold Builtin.zeroCells at hy;rw[hvs,Array.getElem?_map,Array.getElem?_range,if_pos hj] at hy;simp only[ny] at hy;rw[getElem!_pos vz.cells _ hlt] at hy;rw[<-hy];simp[hlt]
  obtain ⟨w',E',g1,g2,g3,g4,g5,g6,g7⟩:=lJ (P:=P) hE hh (off:=off) hb hm (new:=bd z len) (nv:=(Builtin.zeroCells vz.cells len).toList) (by rw [hzc]; exact hfit) (by simp [hzz,hzc]) (fun j p y hp hy=>by
   obtain⟨hj,hvj⟩:=hget j y (by simpa using hy);unfold bd at hp;rw[dH _ _ (by rw[hzl];exact hj),hzl] at hp;exact k2 _ _ _ hp (by simpa using hvj)) (λy hy=>by
   obtain⟨j,hj⟩:=rY hy;obtain⟨_,hvj⟩:=hget j y (by simpa using hj);exact k3 y (by simpa using Array.mem_of_getElem? hvj))
  have hrun:(Builtin.clear_ #[tX] type #[a.eval x]).run P w=.ok (.tuple #[]) w':=by
   cases len with
   |zero=>exact absurd rfl h0
   |succ len=>
   unfold Builtin.clear_;simp only[pu,tG,bA,cp hu,bu,hvx,hvz,g1,eG]
  exact⟨.value (.tuple #[]),.tuple #[],w',E',.tup [],_,nx,hexec _ _ hrun,.inl rfl,g2,g3,g4,hf.of (bc _) (λb' n hb'=>g5 b' n (by have:=hh.dom _ _ hb;omega)) g6 g7,jp _ _,hk⟩
theorem y8{P:Program}{t:TypeId}{m k x:Operand}{T:Tm}{H:Hp}{nx:Nat}{K:AV->Hp->Nat->Prop}(h:eY P (.mapUpdate t m k x) T H nx K):eY P (.insert t m k x) T H nx K:=by
 refine⟨by intro c;simp,?_⟩;rintro rr E w a ⟨dst,op,type,pos,after,guard⟩ next Q ho hE hh hf htm hn;simp only at ho;subst ho;have:=h.2 rr E w a ⟨dst,.mapUpdate t m k x,type,pos,after,guard⟩ next Q rfl hE hh hf htm hn;have e:execOp a.eval ⟨dst,.insert t m k x,type,pos,after,guard⟩=execOp a.eval ⟨dst,.mapUpdate t m k x,type,pos,after,guard⟩:=rfl;rw[e];exact this
theorem Bx{E:Env}{w:World}{x:AV}{v:Value}(hx:Rel E w x v){k:Nat}(hk:jL x=some k):∃a c,v=.slice a k c/\(0<k->∃b,a=some b):=by
 cases hx with
 |sl=>cases hk;exact⟨_,_,rfl,λ_=>⟨_,rfl⟩⟩
 |msl=>cases hk;exact⟨_,_,rfl,λ_=>⟨_,rfl⟩⟩
 |slnil=>cases hk;exact⟨_,_,rfl,λh=>by simp at h⟩
 |slempty=>cases hk;exact⟨_,_,rfl,λh=>by simp at h⟩
 |msl0 _ _ _ h=>cases hk;rcases h with rfl|⟨_,rfl⟩<;>exact⟨_,_,rfl,λh=>by omega⟩
 |eslnil=>cases hk;exact⟨_,_,rfl,λh=>by omega⟩
 |esl=>cases hk;exact⟨_,_,rfl,λh=>by omega⟩
 |_=>cases hk
def Dd(neg:Bool)(k:Nat)(K:AV->Prop):Prop:=(0<k->K (.bool neg))/\(k=0->K (.bool true)/\K (.bool false))
theorem uj{P:Program}{t e ty:TypeId}{x:Operand}{neg:Bool}{T:Tm}{H:Hp}{nx:Nat}{K:AV->Hp->Nat->Prop}{k:Nat}(ht:gw P t=some e)(hk:jL (ev T x)=some k)
    (h:Dd neg k λr=>K r H nx):eY P (.binOp (if neg=true then .neq else .eql) t x (.const (.slice none 0 0)) ty) T H nx K:=by
 refine cz (by intro c;simp) ?_;rintro E w a ⟨dst,op,type,pos,after,guard⟩ ho hE hh hf htm;simp only at ho;subst ho;have hxr:=htm x (by simp[Op.operands,Call.operands]);obtain⟨ad,c,hv,hsome⟩:=Bx hxr hk;have hu:=iC ht
 have he0:∀d,(Op.equalIn (d+1) t (.slice ad k c) (.slice none 0 0)).run P w=.ok ad.isNone w:=by
  intro d;simp only[Op.equalIn,bA,cp hu,bu];cases ad<;>rfl
 have he:=he0 9999
 have hrun:∀op,op=(if neg=true then BinOp.neq else BinOp.eql)->(do eqGuard op t x (.const (.slice none 0 0)) (.slice ad k c) (.slice none 0 0);binOp op t (.slice ad k c) (.slice none 0 0):Sem Value).run P w=.ok (.bool (if neg=true then !ad.isNone else ad.isNone)) w:=by
  intro op hop;subst hop;rw[bA,gK (by simp) (by simp)];simp only[bu];cases neg with
  |true=>simp only[if_true,binOp,Op.equal,Op.maxDepth,bA,he,bu];rfl
  |false=>simp only[dX,if_false,binOp,Op.equal,Op.maxDepth,bA,he,bu];rfl
 have hexec:(execOp a.eval ⟨dst,.binOp (if neg=true then .neq else .eql) t x (.const (.slice none 0 0)) ty,type,pos,after,guard⟩).run P w=.ok (.value (.bool (if neg=true then !ad.isNone else ad.isNone))) w:=by
  refine kQ ?_;show(do eqGuard _ t x (.const (.slice none 0 0)) (a.eval x) (.slice none 0 0);binOp _ t (a.eval x) (.slice none 0 0):Sem Value).run P w=_;rw[hv];exact hrun _ rfl
 refine⟨_,.bool (if neg=true then !ad.isNone else ad.isNone),w,E,.bool (if neg=true then !ad.isNone else ad.isNone),H,nx,hexec,.inl rfl,Ext.refl _ _,hE,hh,hf,.bool _,?_⟩;by_cases hk0:k=0
 ·obtain⟨h1,h2⟩:=h.2 hk0;cases neg<;>cases ad<;>first|exact h1|exact h2
 ·obtain⟨b,rfl⟩:=hsome (by omega);have:=h.1 (by omega);cases neg<;>exact this
theorem wZ{P:Program}{t e:TypeId}{x:Operand}{T:Tm}{H:Hp}{nx:Nat}{K:AV->Hp->Nat->Prop}{n b n' off:Nat}{cs:List AV}(hu:P.underlying t=some (.array n e))(he:tok P e=true)(h0:0<n)(hx:ev T x=.ptr b n' off)(hb:H b=some cs)(hn:cs.length=n')(hf:off+n*P.cellsOf e=n')
    (hk:K (.msl b n' (P.cellsOf e) off n) H nx):eY P (.slice t x none none none) T H nx K:=by
 refine cz (by intro c;simp) ?_;rintro E w a ⟨dst,op,type,pos,after,guard⟩ ho hE hh hf' htm;simp only at ho;subst ho;have hxr:=htm x (by simp[Op.operands]);rw[hx] at hxr;generalize hvx:a.eval x=vx at hxr;cases hxr with
 |ptr _ _ _ blk sz hm=>
 have hle:n'<=sz:=by
  subst hn;rcases hh.box b cs hb with h|⟨blk',sz',hbx⟩
  ·rw[h] at hm;cases hm
  ·have:=hbx.mu;rw[hm] at this;cases this;obtain⟨vals,ty,fz,_,_,h1,h2,_⟩:=hbx.cells;exact h2
 have hb2:=cq (P:=P) (E:=E) (w:=w) (lo:=none) (hi:=none) (vlo:=none) (vhi:=none) (isS:=false) (len:=n) (cap:=n) (l:=0) (h:=n) (λ_ h=>by cases h) (λ_=>rfl) (λ_ h=>by cases h) (λ_=>rfl) rfl rfl (bo _) (bc _);have hsz:=aU (P:=P) he w
 have hrun:(Instr.sliceAt t (.pointer (some ⟨blk,off,none⟩)) none none none).run P w=.ok (.slice (some ⟨blk,off,none⟩) n n) w:=by
  have hne:n≠0:=by omega
  simp[Instr.sliceAt,cp hu,hb2,hsz,Instr.sureAddr,hne,ci]
 refine⟨.value (.slice (some ⟨blk,off,none⟩) n n),.slice (some ⟨blk,off,none⟩) n n,w,E,_,H,nx,?_,.inl rfl,Ext.refl _ _,hE,hh,hf',.msl _ _ _ _ _ blk sz n hm (bc _) (by omega) (by omega),hk⟩;refine kQ ?_;show(Instr.sliceAt t (a.eval x) none none none).run P w=_;rw[hvx];exact hrun
def lN(b:UInt8):AV:=.int .u8 (b.toNat:Int)
theorem Fl{P:Program}{s d e:TypeId}{x:Operand}{T:Tm}{H:Hp}{nx:Nat}{K:AV->Hp->Nat->Prop}{bs:ByteArray}(hs:P.underlying s=some .string)(hd:P.underlying d=some (.slice e))(he:P.underlying e=some (.int .u8))(hx:ev T x=.str bs)
    (h0:bs.size=0->K (.sl 1 []) H nx) (h1:bs.size≠0->K (.msl nx bs.size 1 0 bs.size) (av H nx (bs.data.toList.map lN)) (nx+1)):eY P (.convert s d x) T H nx K:=by
 refine cz (by intro c;simp) ?_;rintro E w a ⟨dst,op,type,pos,after,guard⟩ ho hE hh hf htm;simp only at ho;subst ho;have hxr:=htm x (by simp[Op.operands,Call.operands]);rw[hx] at hxr;generalize hv:a.eval x=vx at hxr;cases hxr;have hrun:=run_bytes_of_string (P:=P) w s d e bs hs hd he
 have hexec:(execOp a.eval ⟨dst,.convert s d x,type,pos,after,guard⟩).run P w=.ok (.value (.slice (some ⟨w.heap.size,0,none⟩) bs.size (grownCap w bs.size 0 e))) (w.drew.alloc (.cells (bytesRow bs (grownCap w bs.size 0 e)) e ((bytesRow bs (grownCap w bs.size 0 e)).size,(bytesRow bs (grownCap w bs.size 0 e)).size+1))):=by
  unfold execOp;simp only[hv,bA,hrun,bu,eG]
 have hge:=grownCap_ge w bs.size 0 e;generalize hcap:grownCap w bs.size 0 e=cap at *;have hdr:w.drew.heap=w.heap:=rfl;have hEd:=hE.drew;have hhd:=hh.same (w':=w.drew) hdr;have hext0:Ext E w E w.drew:=Ext.same hdr
 have hsz:(bytesRow bs cap).size=cap:=by
  have:bs.data.size=bs.size:=rfl;simp[bytesRow];omega
 by_cases hz:bs.size=0
 ·refine⟨_,_,_,E,.sl 1 [],H,nx,hexec,.inl rfl,hext0.trans (Ext.alloc E w.drew _ hEd),hEd.alloc hhd.size _,hhd.alloc hEd _,hf,?_,h0 hz⟩;rw[hz];exact .slempty _ _ _
 ·have hlen:(bs.data.toList.map lN).length=bs.size:=by simp
  obtain⟨E',q1,q2,q3,q4,q5,q6,q7,q8⟩:=hhd.placeZ hEd (b:=nx) (nx':=nx+1) (cs':=bs.data.toList.map lN) (Fo _) (Nat.le_succ _) (λm y hm=>by rw[(hf nx (bc _)).1] at hm;cases hm) (hf nx (bc _)).2.1
   (bytesRow bs cap) e ((bytesRow bs cap).size,(bytesRow bs cap).size + 1) (fun j hj h=>by simp only at h; omega) (by rw [hlen,hsz]; exact hge) (fun i y hi=>by
    rw[ko] at hi;cases hb:bs.data.toList[i]? with
    |none=>rw[hb] at hi;cases hi
    |some b=>
     rw[hb] at hi;cases hi
     have hi':i<bs.data.size:=by
      have:=(bH.1 hb).1;simpa using this
     refine⟨_,bytesRow_at bs cap i hi',rfl,?_⟩
     have:bs.data[i]=b:=by
      have:=(bH.1 hb).2;simpa using this
     rw[this];exact .int _ _)
  refine⟨_,_,_,E',.msl nx bs.size 1 0 bs.size,_,nx+1,hexec,.inl rfl,hext0.trans q1,q2,q3,hf.of (Nat.le_succ _) (λb n hb=>q6 b n (by omega)) q7 q8,?_,h1 hz⟩;rw[hlen,hsz] at q4;exact .msl nx bs.size 1 0 bs.size w.heap.size cap cap q4 hge (by omega) (by omega)
theorem Bl{E:Env}{H:Hp}{nx n:Nat}{w:World}(hh:HeapOk E H nx w){x:AV}{v:Value}(hr:Rel E w x v){bs:List UInt8}(h:ee 1 H x=some (n,bs.map lN)):
    (bs=[]/\∃c,v=.slice none 0 c)\/ ∃(a:Addr)(cap:Nat),v=.slice (some a) bs.length cap/\∀(j:Nat)(hj:j<bs.length),w.cell? (a.add j)=some (.int .u8 (bs[j].toNat:Int)):=by
 have hnil:∀{bs:List UInt8},[]=bs.map lN->bs=[]:=λh=>by
  rw[eq_comm,List.map_eq_nil_iff] at h;exact h
 cases hr with
 |eslnil=>
  simp only[ee,mF,Prod.mk.injEq] at h;exact .inl ⟨hnil h.2,0,rfl⟩
 |esl a=>
  simp only[ee,mF,Prod.mk.injEq] at h;have:=hnil h.2;subst this;exact .inr ⟨_,_,rfl,λj hj=>absurd hj (by simp)⟩
 |slnil sz=>
  simp only[ee,or_true,if_true,mF,Prod.mk.injEq,List.flatMap_nil] at h;exact .inl ⟨hnil h.2,0,rfl⟩
 |slempty sz a cap=>
  simp only[ee,or_true,if_true,mF,Prod.mk.injEq,List.flatMap_nil] at h;have:=hnil h.2;subst this;exact .inr ⟨_,_,rfl,λj hj=>absurd hj (by simp)⟩
 |sl sz elems blk o cap vals hi hlen hsz hc hr'=>
  simp only[ee] at h;split at h
  case isFalse=>cases h
  case isTrue hsz1=>
  simp only[mF,Prod.mk.injEq] at h;obtain⟨rfl,h2⟩:=h;by_cases he:elems=[]
  ·subst he;have:=hnil h2;subst this;exact .inr ⟨_,_,rfl,λj hj=>absurd hj (by simp)⟩
  have hs1:sz=1:=hsz1.resolve_right he;subst hs1;obtain⟨f1,f2⟩:=eV elems hsz;have hll:elems.length=bs.length:=by rw[h2] at f1;simpa using f1.symm
  refine .inr ⟨⟨blk,o,none⟩,cap,by rw[hll],λj hj=>?_⟩;rw[ci,hc j (by omega)];have hg:(elems.flatMap AV.cells)[j]?=some (lN bs[j]):=by rw[h2];simp[hj]
  obtain⟨i,k,y,e1,e2,e3,e4⟩:=f2 j _ hg;have hk:k=0:=by omega
  subst hk;have:=hr' i 0 y _ e3 e4;rw[<-e1] at this;unfold lN at this;generalize vals j=u at this;cases this;rfl
 |msl b m sz off len blk bsz cap hm hl hcap hn=>
  simp only[ee] at h;split at h
  ·rename_i h0;subst h0;simp only[mF,Prod.mk.injEq] at h;have:=hnil h.2;subst this;exact .inr ⟨_,_,rfl,λj hj=>absurd hj (by simp)⟩
  ·split at h
   ·rename_i cs hb;split at h
    case isFalse=>cases h
    case isTrue hc=>
    obtain⟨hc1,rfl,hc3⟩:=hc;simp only[mF,Prod.mk.injEq] at h;obtain⟨rfl,h2⟩:=h
    have hbl:bs.length=len:=by
     have:=congrArg List.length h2;simp at this;omega
    rcases hh.box b cs hb with hno|⟨blk',sz',hx⟩
    ·rw[hc1,hm] at hno;cases hno
    ·have:=hx.mu;rw[hc1,hm] at this;cases this;obtain⟨vals,ty,fz,k1,kz,k2,k3,k4⟩:=hx.cells;refine .inr ⟨⟨blk,off,none⟩,cap,by rw[hbl],λj hj=>?_⟩
     have hg:cs[off+j]?=some (lN bs[j]):=by
      have e:((cs.drop off).take (len*1))[j]?=some (lN bs[j]):=by rw[h2];simp[hj]
      rw[jl] at e;split at e
      ·rw[kJ] at e;exact e
      ·cases e
     obtain⟨v,e1,e2,e3⟩:=k4 _ _ hg;rw[ci];unfold lN at e3;cases e3;exact cell?_of_heap k1 e1
   ·cases h
 |msl0 b sz v hv=>
  simp only[ee,if_true,mF,Prod.mk.injEq] at h;have:=hnil h.2;subst this;rcases hv with rfl|⟨blk,o,rfl⟩
  ·exact .inl ⟨rfl,0,rfl⟩
  ·exact .inr ⟨_,_,rfl,λj hj=>absurd hj (by simp)⟩
 |_=>simp[ee] at h
theorem FI{P:Program}{s d e:TypeId}{x:Operand}{T:Tm}{H:Hp}{nx n:Nat}{K:AV->Hp->Nat->Prop}{bs:List UInt8}(hs:P.underlying s=some (.slice e))(he:P.underlying e=some (.int .u8))(hd:P.underlying d=some .string)(hx:ee 1 H (ev T x)=some (n,bs.map lN))
    (hk:K (.str ⟨bs.toArray⟩) H nx):eY P (.convert s d x) T H nx K:=by
 refine cz (by intro c;simp) ?_;rintro E w a ⟨dst,op,type,pos,after,guard⟩ ho hE hh hf htm;simp only at ho;subst ho;have hxr:=htm x (by simp[Op.operands,Call.operands])
 have hrun:(convert s d (a.eval x)).run P w=.ok (.string ⟨bs.toArray⟩) w:=by
  rcases Bl hh hxr hx with⟨rfl,c,hv⟩|⟨ad,cap,hv,hc⟩
  ·rw[hv,run_convert_bytes_nil (w:=w) s e hs he 0 c d hd];rfl
  ·rw[hv];exact run_convert_bytes_back w s d e ad cap bs hs he hd hc
 refine⟨.value (.string ⟨bs.toArray⟩),_,w,E,_,H,nx,?_,.inl rfl,Ext.refl _ _,hE,hh,hf,.str _,hk⟩;unfold execOp;simp only[bA,hrun,bu,eG]
theorem zL{P:Program}{f:Operand}{args:Array Operand}{ts:Array TypeId}{T:Tm}{H:Hp}{nx:Nat}{K:AV->Hp->Nat->Prop}{g:FuncId}{fs:List AV}(hf:ev T f=.bfn g fs)(h:Fn P g (fs++args.toList.map (ev T)) H nx K):
    eY P (.call {callee:=.value f,args:=args,argTypes:=ts}) T H nx K:=by
 refine⟨by intro c;simp,?_⟩;rintro rr E w a ⟨dst,op,type,pos,after,guard⟩ next Q ho hE hh hfr ht hn;simp only at ho;subst ho;have hr:=ht f (by simp[Op.operands,Call.operands]);rw[hf] at hr;generalize hv:a.eval f=vf at hr;cases hr with
 |bfn _ _ cv hl hcr=>
 have hargs:dI E w (fs++args.toList.map (ev T)) (cv++args.toList.map a.eval):=by
  have ha:=A8 (E:=E) (w:=w) (T:=T) (a:=a) args.toList (λx hx=>ht x (by simp only[Op.operands,Call.operands];exact yT.2 (.inr (by simpa using hx))));refine⟨by simp[hl],λj x y hx hy=>?_⟩;rw[List.getElem?_append] at hx hy;rw[hl] at hy;split at hx
  ·rename_i hlt;rw[if_pos hlt] at hy;exact hcr _ _ _ hx hy
  ·rename_i hlt;rw[if_neg hlt] at hy;exact ha.2 _ _ _ hx hy
 have hcalls:=h.2 E w _ hE hh hfr hargs
 have hrun:(execOp a.eval ⟨dst,.call {callee:=.value f,args:=args,argTypes:=ts},type,pos,after,guard⟩).run P w=.ok (.enter g (cv++args.toList.map a.eval).toArray) w:=by
  unfold execOp;simp only[resolve,hv,Deferred.ofValue,invoke,bA,eG,bu]
  have:cv.toArray++args.map a.eval++ #[]=(cv++args.toList.map a.eval).toArray:=by
   rw[jH];simp
  rw[this];exact hJ h.1 _ w
 rw[hrun,Oper.uponIn_enter];refine⟨(λh=>by cases h),?_⟩;refine(lc hcalls).mono ?_;rintro e w' ⟨v,E',r,H',nx',rfl,he,hE',hH',hf',hrel,hk⟩;exact hn E' H' nx' r v w' he hE' hH' hf' hrel hk
theorem Je{E:Env}{H:Hp}{nx:Nat}{w:World}(hh:HeapOk E H nx w){b k:Nat}{ks vs:List AV}{bs:List Nat}{ck:Nat}(hb:H b=some [.bmap ks vs bs ck])(hs:E.sp b=some k):∃es,w.heap[k]?=some (.map es ck)/\MapB E w ks vs bs ck es:=by
 obtain⟨k',h1,es,h2,h3⟩:=hh.spec b _ hb rfl;rw[hs] at h1;cases h1;exact⟨es,h2,h3⟩
theorem wN{P:Program}{t kt et:TypeId}{m k:Operand}{ok:Bool}{T:Tm}{H:Hp}{nx b:Nat}{K:AV->Hp->Nat->Prop}{mk:MK}{ks vs:List AV}{bs:List Nat}{ck:Nat}{r:Option Nat}{z:AV}(ht:oL P t=some (kt,et))(hk:mkk P kt=some mk)(hz:gJ P et=some z)
    (hm:ev T m=.mp b) (hb:H b=some [.bmap ks vs bs ck]) (hfit:sw mk (ev T k)=true) (hr:ef mk (ev T k) ks=some r)
    (h:K (mget z ok r vs) H nx):eY P (.lookup t m k ok) T H nx K:=by
 refine cz (by intro c;simp) ?_;rintro E w a ⟨dst,op,type,pos,after,guard⟩ ho hE hh hf htm;simp only at ho;subst ho;have hmr:=htm m (by simp[Op.operands,Call.operands]);have hkr:=htm k (by simp[Op.operands,Call.operands]);rw[hm] at hmr;generalize hvm:a.eval m=vm at hmr;cases hmr with
 |mp _ kb hs=>
 obtain⟨es,hw,hok⟩:=Je hh hb hs;have hck:=kp (P:=P) (w:=w) hk hkr hfit es.isEmpty;have hfk:=jI (P:=P) (es:=es.toList) (ks:=ks) hk hkr (by simpa using hok.len) (λj y e h1 h2=>hok.key j y e h1 (by simpa using h2)) hr;have hu:=po ht;obtain⟨vz,hvz,hrz⟩:=eU hz
 have key:∃v,(Instr.lookup t (.map (some kb)) (a.eval k) ok).run P w=.ok v w/\Rel E w (mget z ok r vs) v:=by
  unfold Instr.lookup;simp only[bA,cp hu,bu,iS hw rfl,eG,hck,hfk];cases r with
  |none=>
   simp only[pC,Option.map_none,bA,hvz,bu,eG];refine⟨_,rfl,?_⟩;unfold mget;cases ok with
   |true=>exact lX (hrz E w) (.bool _)
   |false=>exact hrz E w
  |some i=>
   obtain⟨y,hy,hsame⟩:=kO hr;have hlt:i<es.size:=by have:=(bH.1 hy).1;have:=hok.len;omega
   have hlv:i<vs.length:=by have:=hok.len';have:=hok.len;omega
   simp only[pC,ny,eG,bu];refine⟨_,rfl,?_⟩;have e1:es.toList.getD i default=es[i]:=by simp[List.getD,hlt]
   have e2:vs.getD i .undef=vs[i]:=by simp[List.getD,hlv]
   have hrel:=hok.val i vs[i] es[i] (by simp[hlv]) (by simp[hlt]);rw[e1];cases ok with
   |true=>
    show Rel E w (.tup [vs.getD i .undef,.bool true]) _;rw[e2];exact lX hrel (.bool _)
   |false=>
    show Rel E w (vs.getD i .undef) _;rw[e2];exact hrel
 obtain⟨v,hrun,hrel⟩:=key;refine⟨.value v,v,w,E,_,H,nx,?_,.inl rfl,Ext.refl _ _,hE,hh,hf,hrel,h⟩;refine kQ ?_;show(Instr.lookup t (a.eval m) (a.eval k) ok).run P w=_;rw[hvm];exact hrun
inductive Opd where
 |t (n:Nat)
 |c (v:AV)
 deriving Inhabited
def Opd.of:Operand->Opd
 |.tmp n=>.t n
 |x=>.c (ev (λ_=>.undef) x)
def ov(T:Tm):Opd->AV
 |.t n=>T n
 |.c v=>v
theorem bT{T:Tm}{x:Operand}:ov T (.of x)=ev T x:=by cases x<;>rfl
theorem l7{T:Tm}{l:List Operand}:(l.map Opd.of).map (ov T)=l.map (ev T):=by simp[bT]
theorem rF{T:Tm}{x:Option Operand}:(x.map Opd.of).map (ov T)=x.map (ev T):=by cases x<;>simp[bT]
inductive Ins where
 |dead
 |mov (x:Opd)
 |pick (c a b:Opd)
 |ld1 (a:Opd)
 |ldn (k:Nat) (a:Opd)
 |nilck (x:Opd)
 |bin (op:BinOp) (tb tf:Bool) (x y:Opd)
 |binS (op:BinOp) (ks:List TK) (x y:Opd)
 |un (op:UnOp) (x:Opd)
 |conv (k:IntKind) (x:Opd)
 |mkfn (f:FuncId) (caps:List Opd)
 |mkbf (f:FuncId) (first:List Opd)
 |slsA (n:Nat) (x:Opd) (lo hi:Option Opd)
 |sls (sz:Nat) (x:Opd) (lo hi mx:Option Opd)
 |slstr (x:Opd) (lo hi:Option Opd)
 |fa (k:Nat) (p:Opd)
 |part1 (off:Nat) (x:Opd)
 |partn (off k:Nat) (x:Opd)
 |ixaA (len sz:Nat) (x i:Opd)
 |ixaS (sz:Nat) (x i:Opd)
 |ixA1 (len sz:Nat) (x i:Opd)
 |ixAn (len sz:Nat) (x i:Opd)
 |ixStr (x i:Opd)
 |ext (x:Opd) (i:Nat)
 |bld (z:List AV) (parts:List (Nat×Nat×Opd))
 |lenS (x:Opd)
 |capE (x:Opd)
 |apz (sz bytes:Nat) (z:List AV) (s x:Opd)
 |lenStr (x:Opd)
 |lenC (n:Nat)
 |mx (x:Opd) (l:List Opd)
 |mn (x:Opd) (l:List Opd)
 |alloc (z:AV)
 |box (x:Opd)
 |bldS (sz len:Nat) (z:List AV) (parts:List (Nat×Nat×Opd))
 |mks (sz bytes:Nat) (z:List AV) (l c:Opd)
 |st (k:Nat) (p x:Opd)
 |app (sz bytes:Nat) (s x:Opd)
 |call (f:Opd) (args:List Opd)
 |mkm (h:Option Opd)
 |mput (k:MK) (m key x:Opd)
 |mget (k:MK) (z:AV) (ok:Bool) (m key:Opd)
 |mlen (m:Opd)
 |cpy (sz:Nat) (d s:Opd)
 |clr (sz:Nat) (z:AV) (x:Opd)
 |slp (len sz:Nat) (x:Opd)
 |snil (neg:Bool) (x:Opd)
 |s2b (x:Opd)
 |b2s (x:Opd)
 |mplc (k:MK) (z:AV) (m key:Opd)
 |mpst (m s x:Opd)
def D3(P:Program)(t:TypeId):Bool:=match P.underlying t with|some (.func ..)=>true|_=>false
def bt(op:BinOp)(tb tf:Bool)(x y:AV):Option AV:=
 match x,y with
 |.int k a,.int k' b=>if op=.shl\/op=.shr then ou op k a b else if k=k' then fe op k a b else none
 |.bool a,.bool b=>if tb=true then(match op with|.eql=>some (.bool (a==b))|.neq=>some (.bool (!(a==b)))|_=>none) else none
 |.str a,.str b=>yO op a b
 |.nilf,.nilf=>if tf=true then(match op with|.eql=>some (.bool true)|.neq=>some (.bool false)|_=>none) else none
 |.func _ _,.nilf=>if tf=true then(match op with|.eql=>some (.bool false)|.neq=>some (.bool true)|_=>none) else none
 |_,_=>none
theorem Hd{P:Program}{op:BinOp}{t:TypeId}{x y:AV}{r:AV}(h:bt op (DP P t) (D3 P t) x y=some r):Ee P op t x y=some r:=by
 unfold bt at h;unfold Ee;split at h
 ·exact h
 ·exact h
 ·exact h
 ·split at h
  ·rename_i hf;unfold D3 at hf;split at hf
   ·rename_i hu;simp only[hu];split at h<;>simp_all
   ·cases hf
  ·cases h
 ·split at h
  ·rename_i hf;unfold D3 at hf;split at hf
   ·rename_i hu;simp only[hu];split at h<;>simp_all
   ·cases hf
  ·cases h
 ·cases h
def eo(sz:Nat)(x i:AV):Option AV:=match i with
 |.int _ n=>match x with
  |.sl s elems=>if s=sz/\0<=n/\n<elems.length then some (.iptr (elems.getD n.toNat .undef).cells 0) else none
  |.msl b m s off len=>if s=sz/\0<=n/\n<len then some (.ptr b m (off+n.toNat*s)) else none
  |_=>none
 |_=>none
def nu(sz:Nat)(x:AV)(lo hi mx:Option AV):Option AV:=match x with
 |.sl s elems=>
  match bF 0 lo,bF elems.length hi,mx with
  |some l,some h,none=>if s=sz/\l<=h/\h<=elems.length then some (.sl s ((elems.take h).drop l)) else none
  |some l,some h,some m=>match bF 0 (some m) with
   |some m=>if l=0/\h=0/\m=0 then some .esl else none
   |none=>none
  |_,_,_=>none
 |.esl=>match bF 0 lo,bF 0 hi,mx with
  |some 0,some 0,none=>some .esl
  |_,_,_=>none
 |.msl b n s off len=>
  match bF 0 lo,bF len hi,mx with
  |some l,some h,none=>if s=sz/\l<=h/\h<=len/\n≠0 then(if l=0\/l<h then some (.msl b n s (off+l*s) (h-l)) else some (.sl s [])) else if s=sz/\l<h/\0<s/\off+h*s<=n/\n≠0 then some (.msl b n s (off+l*s) (h-l)) else none
  |some l,some h,some m=>match bF 0 (some m) with
   |some m=>if l=0/\h=0/\m=0 then some .esl else if l<=h/\h<=m/\m<=len/\n≠0 then some .undef else none
   |none=>none
  |_,_,_=>none
 |_=>none
def yI(x:AV)(lo hi:Option AV):Option AV:=match x with
 |.str s=>match bF 0 lo,bF s.size hi with
  |some l,some h=>if l<=h/\h<=s.size then some (.str (s.extract l h)) else none
  |_,_=>none
 |_=>none
def fq(cells:List AV):List (Nat×Nat×AV)->Option (List AV)
 |[]=>some cells
 |(off,size,x)::rest=>if x.flat=true/\x.cells.length=size/\off+size<=cells.length then fq (cI cells off x.cells) rest else none
def eD(x:AV)(f:List AV->Option AV):Option AV:=match x with|.agg cs=>f cs|_=>none
def nz(x:AV)(f:Int->Option AV):Option AV:=match x with|.int _ n=>f n|_=>none
def eW(x:AV):Option AV:=match x with
 |.sl _ elems=>some (.int .i64 elems.length)
 |.esl=>some (.int .i64 0)
 |.msl _ _ _ _ len=>some (.int .i64 len)
 |_=>none
def bv(T:Tm)(H:Hp):Ins->Option AV
 |.mov x=>some (ov T x)
 |.pick c a b=>match ov T c with|.bool t=>some (if t=true then ov T a else ov T b)|_=>none
 |.ld1 a=>rd1 H (ov T a)
 |.ldn k a=>(rd H k (ov T a)).map .agg
 |.nilck x=>match ov T x with|.ptr b n o=>some (.ptr b n o)|.iptr c o=>some (.iptr c o)|.func f c=>some (.func f c)|_=>none
 |.bin op tb tf x y=>bt op tb tf (ov T x) (ov T y)
 |.binS op ks x y=>eD (ov T x) λxs=>eD (ov T y) λys=>j8 op ks xs ys
 |.un op x=>aun op (ov T x)
 |.conv k x=>nz (ov T x) λn=>some (.int k (k.wrap n))
 |.mkfn f caps=>some (.func f (caps.map (ov T)))
 |.mkbf f first=>some (.bfn f (first.map (ov T)))
 |.slsA n x lo hi=>xL n (ov T x) (lo.map (ov T)) (hi.map (ov T)) none
 |.sls sz x lo hi mx=>nu sz (ov T x) (lo.map (ov T)) (hi.map (ov T)) (mx.map (ov T))
 |.slstr x lo hi=>yI (ov T x) (lo.map (ov T)) (hi.map (ov T))
 |.fa k p=>jm k (ov T p)
 |.part1 off x=>eD (ov T x) λcs=>cs[off]?
 |.partn off k x=>eD (ov T x) λcs=>if off+k<=cs.length then some (.agg ((cs.drop off).take k)) else none
 |.ixaA len sz x i=>nz (ov T i) λn=>if 0<=n/\n<len then jm (n.toNat*sz) (ov T x) else none
 |.ixaS sz x i=>eo sz (ov T x) (ov T i)
 |.ixA1 len sz x i=>eD (ov T x) λcs=>nz (ov T i) λn=>if 0<=n/\n<len then cs[n.toNat*sz]? else none
 |.ixAn len sz x i=>eD (ov T x) λcs=>nz (ov T i) λn=>if 0<=n/\n<len then(if n.toNat*sz+sz<=cs.length then some (.agg ((cs.drop (n.toNat*sz)).take sz)) else none) else none
 |.ixStr x i=>match ov T x with
  |.str s=>nz (ov T i) λn=>if 0<=n/\n<s.size then some (.int .u8 (s[n.toNat]?.getD 0).toNat) else none
  |_=>none
 |.ext x i=>jW (ov T x) i
 |.bld z parts=>(fq z (parts.map λp=>(p.1,p.2.1,ov T p.2.2))).map .agg
 |.lenS x=>eW (ov T x)
 |.capE x=>match ov T x with|.esl=>some (.int .i64 0)|_=>none
 |.lenStr x=>match ov T x with|.str s=>some (.int .i64 s.size)|_=>none
 |.lenC n=>some (.int .i64 n)
 |.mx x l=>jN qQ (ov T x) (l.map (ov T))
 |.mn x l=>jN qK (ov T x) (l.map (ov T))
 |_=>none
def Kd(sz bytes:Nat)(s x:AV)(H:Hp)(nx:Nat):Option (AV×Hp×Nat):=
 match ee sz H x with
 |none=>none
 |some (k,new)=>
  if new.all AV.one=true then
   match s with
   |.esl=>if k*bytes<=140737488355328/\k<=9223372036854775807 then some (.msl nx (k*sz) sz 0 k,av H nx new,nx+1) else none
   |.msl b n s off len=>match H b with
    |some cs=>
     if cs.length=n/\s=sz then
      if off=0/\n=len*s/\(len+k)*bytes<=140737488355328/\len+k<=9223372036854775807 then some (.msl b ((len+k)*s) s 0 (len+k),av H b (cs++new),nx)
      else if off+(len+k)*s<=n/\0<n then some (.msl b n s off (len+k),av H b (cI cs (off+len*s) new),nx)
      else if off=0/\len*s<n/\n<(len+k)*s/\(len+k)*bytes<=140737488355328/\len+k<=9223372036854775807 then some (.msl b ((len+k)*s) s 0 (len+k),av H b (cs.take (len*s)++new),nx)
      else none
     else none
    |none=>none
   |_=>none
  else none
def kW(T:Tm)(H:Hp)(nx:Nat):Ins->Option (AV×Hp×Nat)
 |.alloc z=>wH z H nx
 |.box x=>wH (ov T x) H nx
 |.bldS sz len z parts=>if len=0 then(if parts.isEmpty=true then some (.esl,H,nx) else none) else
     match fq (bd (.agg z) len) (parts.map λp=>(p.1,p.2.1,ov T p.2.2)) with
     |some cells=>some (.msl nx cells.length sz 0 len,av H nx cells,nx+1)
     |none=>none
 |.mks sz bytes z l c=>match ov T l,ov T c with
  |.int _ n,.int _ m=>if 0<=n/\n<=m/\m<=9223372036854775807/\bytes*m<=281474976710656 then some (.msl nx (m.toNat*sz) sz 0 n.toNat,av H nx (bd (.agg z) m.toNat),nx+1) else none
  |_,_=>none
 |.st k p x=>match ov T p with
  |.ptr b n off=>match H b with
   |some cs=>if cs.length=n/\(ov T x).flat=true/\(ov T x).cells.length=k/\off+k<=n then some (.tup [],av H b (cI cs off (ov T x).cells),nx) else none
   |none=>none
  |_=>none
 |.app sz bytes s x=>Kd sz bytes (ov T s) (ov T x) H nx
 |.apz sz bytes z s x=>match ov T s,ov T x with
  |.esl,.int _ n=>if 0<n/\n<=9223372036854775807/\n.toNat*bytes<=140737488355328 then some (.msl nx (n.toNat*sz) sz 0 n.toNat,av H nx (bd (.agg z) n.toNat),nx+1) else none
  |_,_=>none
 |_=>none
def Ln(lo hi mx:Option Operand):Bool:=!(mx.isSome&&hi.isNone)
def qE(pl:List (Nat×Nat)):List (Nat×Operand)->Option (List (Nat×Nat×Opd))
 |[]=>some []
 |(i,x)::l=>match pl[i]?,qE pl l with
  |some (o,s),some r=>some ((o,s,.of x)::r)
  |_,_=>none
def l9(sz:Nat)(l:List (Nat×Operand)):List (Nat×Nat×Opd):=l.map λp=>(p.1*sz,sz,.of p.2)
def ke(P:Program):Op->Option Ins
 |.move x=>some (.mov (.of x))
 |.assign x=>some (.mov (.of x))
 |.pick c a b=>some (.pick (.of c) (.of a) (.of b))
 |.load t a=>if tok P t then(if sf P t then(if 0<P.cellsOf t then some (.ldn (P.cellsOf t) (.of a)) else none) else some (.ld1 (.of a))) else none
 |.nilCheck x=>some (.nilck (.of x))
 |.binOp op t x y _=>match gw P t with|some _=>none|none=>match KL P t with|some ks=>some (.binS op ks (.of x) (.of y))|none=>some (.bin op (DP P t) (D3 P t) (.of x) (.of y))
 |.unOp op _ x=>some (.un op (.of x))
 |.convert s d x=>if tok P s then(match lS P d with|some k=>some (.conv k (.of x))|none=>none) else none
 |.makeFunc (.func f) first captured=>if first.size=0 then some (.mkfn f (captured.toList.map .of)) else if captured.size=0 then some (.mkbf f (first.toList.map .of)) else none
 | .slice t x lo hi mx=>if Ln lo hi mx then (match P.underlying t with
  |some (.slice e)=>if tok P e then some (.sls (P.cellsOf e) (.of x) (lo.map .of) (hi.map .of) (mx.map .of)) else none
  |some .string=>match mx with|none=>some (.slstr (.of x) (lo.map .of) (hi.map .of))|some _=>none
  |some (.array n e)=>if tok P e=true/\P.cellsOf e=1 then(match mx with|none=>some (.slsA n (.of x) (lo.map .of) (hi.map .of))|some _=>none) else none
  |_=>none) else none
 |.fieldAddr t x f=>match MP P t f with|some k=>some (.fa k (.of x))|none=>none
 |.field t x f=>match P.underlying t with
  |some (.struct fs)=>match fs[f]? with
   |some fd=>if tok P fd.type then(if sf P fd.type then some (.partn fd.offset (P.cellsOf fd.type) (.of x)) else some (.part1 fd.offset (.of x))) else none
   |none=>none
  |_=>none
 |.indexAddr t x i=>match P.underlying t with
  |some (.array len e)=>if tok P e then some (.ixaA len (P.cellsOf e) (.of x) (.of i)) else none
  |some (.slice e)=>if tok P e then some (.ixaS (P.cellsOf e) (.of x) (.of i)) else none
  |_=>none
 |.index t x i=>match P.underlying t with
  |some (.array len e)=>if tok P e then(if sf P e then some (.ixAn len (P.cellsOf e) (.of x) (.of i)) else some (.ixA1 len (P.cellsOf e) (.of x) (.of i))) else none
  |some .string=>some (.ixStr (.of x) (.of i))
  |_=>none
 |.extract x i=>some (.ext (.of x) i)
 |.build t parts=>match gJ P t with
  |some z=>if z.flat=true then
   match yC P t with
   |some pl=>match qE pl parts.toList with
    |some ps=>some (.bld z.cells ps)
    |none=>none
   |none=>match B3 P t with
    |some (_,e)=>if tok P e=true then some (.bld z.cells (l9 (P.cellsOf e) parts.toList)) else none
    |none=>none
   else none
  |none=>none
 |.call {callee:=.builtin .len,args:=⟨[x]⟩,argTypes:=⟨[t]⟩}=>match P.underlying t with
  |some (.slice _)=>some (.lenS (.of x))
  |some .string=>some (.lenStr (.of x))
  |some (.array n _)=>some (.lenC n)
  |_=>none
 |.call {callee:=.builtin .max,args:=⟨x::l⟩,argTypes:=_}=>some (.mx (.of x) (l.map .of))
 |.call {callee:=.builtin .cap,args:=⟨[x]⟩,argTypes:=⟨[t]⟩}=>match gw P t with
  |some _=>some (.capE (.of x))
  |none=>none
 |.call {callee:=.builtin .min,args:=⟨x::l⟩,argTypes:=_}=>some (.mn (.of x) (l.map .of))
 |_=>none
def lB(P:Program):Op->Option Ins
 |.alloc e=>match gJ P e with|some z=>some (.alloc z)|none=>none
 |.box _ x=>some (.box (.of x))
 |.buildSlice t len parts=>match gw P t with
  |none=>none
  | some e=>if tok P e=true∧0 < P.cellsOf e∧len * P.cellsOf e ≤ 16777216 then (match gJ P e with
   |some z=>if z.flat=true/\z.cells.length=P.cellsOf e then some (.bldS (P.cellsOf e) len z.cells (l9 (P.cellsOf e) parts.toList)) else none
   |none=>none) else none
 |.makeSlice t l c=>match gw P t with
  |none=>none
  |some e=>match gJ P e with
   |some z=>if tok P e=true/\z.flat=true/\z.cells.length=P.cellsOf e/\0<P.cellsOf e then some (.mks (P.cellsOf e) (fu P e) z.cells (.of l) (.of c)) else none
   |none=>none
 |.store t p x=>if tok P t=true/\0<P.cellsOf t then some (.st (P.cellsOf t) (.of p) (.of x)) else none
 |.call {callee:=.builtin .append,args:=⟨[s,x]⟩,argTypes:=⟨[tS,tX]⟩}=>match gw P tS with
  |none=>none
  | some e=>if tok P e=true∧tok P tX=true∧lS P tX=none∧0 < P.cellsOf e∧zok P e=true then some (.app (P.cellsOf e) (fu P e) (.of s) (.of x)) else if (lS P tX).isSome=true then (match gJ P e with
   |some z=>if tok P e=true/\z.flat=true/\z.cells.length=P.cellsOf e/\0<P.cellsOf e/\zok P e=true then some (.apz (P.cellsOf e) (fu P e) z.cells (.of s) (.of x)) else none
   |none=>none) else none
 |_=>none
theorem pF{T:Tm}(pl:List (Nat×Nat)):∀(parts:List (Nat×Operand))(ps:List (Nat×Nat×Opd))(cells:List AV),qE pl parts=some ps->
    kf (λi=>pl[i]?) cells (parts.map λp=>(p.1,ev T p.2))=fq cells (ps.map λp=>(p.1,p.2.1,ov T p.2.2))
 |[],ps,cells,h=>by cases h;rfl
 |(i,x)::l,ps,cells,h=>by
  simp only[qE] at h;split at h
  ·rename_i o s r h1 h2;cases h;simp only[f9,kf,h1,fq,bT];split
   ·exact pF pl l r _ h2
   ·rfl
  ·cases h
theorem kZ{T:Tm}(sz:Nat):∀(parts:List (Nat×Operand))(cells:List AV),
    kf (λi=>some (i*sz,sz)) cells (parts.map λp=>(p.1,ev T p.2))=fq cells ((l9 sz parts).map λp=>(p.1,p.2.1,ov T p.2.2))
 |[],cells=>rfl
 |(i,x)::l,cells=>by
  simp only[f9,kf,fq,l9,bT];split
  ·exact kZ sz l _
  ·rfl
theorem mN(z:AV)(k:Nat):bd (.agg z.cells) k=bd z k:=rfl
theorem yj{P:Program}{op:Op}{i:Ins}{T:Tm}{H:Hp}{r:AV}(hc:ke P op=some i)(h:bv T H i=some r):dF P T H op=some r:=by
 cases op with
 |move x=>cases hc;simp only[bv,bT] at h;exact h
 |assign x=>cases hc;simp only[bv,bT] at h;exact h
 |pick c a b=>cases hc;simp only[bv,bT] at h;exact h
 |load t a=>
  simp only[ke] at hc;simp only[dF,lF];split at hc
  ·rename_i h1;rw[if_pos h1];split at hc
   ·rename_i h2;rw[if_pos h2];split at hc
    ·rename_i h3;rw[if_pos h3];cases hc;simp only[bv,bT] at h;exact h
    ·cases hc
   ·rename_i h2;rw[if_neg h2];cases hc;simp only[bv,bT] at h;exact h
  ·cases hc
 |nilCheck x=>cases hc;simp only[bv,bT] at h;exact h
 |binOp op t x y _=>
  simp only[ke] at hc;split at hc
  ·cases hc
  split at hc
  ·rename_i ks hks;cases hc;simp only[bv,bT] at h;simp only[dF];unfold eD at h;split at h
   ·rename_i cs hx;split at h
    ·rename_i cs' hy;rw[hx,hy];simp only[Ee,hks];exact h
    ·cases h
   ·cases h
  ·cases hc;simp only[bv,bT] at h;exact Hd h
 |unOp op _ x=>cases hc;simp only[bv,bT] at h;exact h
 |convert s d x=>
  simp only[ke] at hc;split at hc
  ·rename_i h1;split at hc
   ·rename_i k hk;cases hc;simp only[bv,bT] at h;simp only[dF,Dm];unfold nz at h;split at h
    ·rename_i hx;simp only[hx,h1,hk,if_true];exact h
    ·cases h
   ·cases hc
  ·cases hc
 |makeFunc fn first captured=>
  cases fn with
  |func f=>
   simp only[ke] at hc;split at hc
   ·rename_i h1;cases hc;simp only[bv,l7] at h;simp only[dF,if_pos h1];exact h
   ·rename_i h1;split at hc
    ·rename_i h2;cases hc;simp only[bv,l7] at h;simp only[dF,if_neg h1,if_pos h2];exact h
    ·cases hc
  |_=>cases hc
 |slice t x lo hi mx=>
  simp only[ke] at hc;split at hc
  ·rename_i hb
   have hb':¬(mx.isSome=true/\hi.isNone=true):=by
    rintro⟨h1,h2⟩;simp[Ln,h1,h2] at hb
   split at hc
   ·rename_i e hu;split at hc
    ·rename_i h1;cases hc;simp only[bv,bT,rF] at h;simp only[dF,if_neg hb',su,hu,h1,if_true];exact h
    ·cases hc
   ·rename_i hu;split at hc
    ·cases hc;simp only[bv,bT,rF] at h;simp only[dF,if_neg hb',su,hu];unfold yI at h;split at h
     ·rename_i s hs;rw[hs];simp only[Option.map_none];split at h
      ·rename_i l h' e1 e2;simp only[e1,e2];exact h
      ·cases h
     ·cases h
    ·cases hc
   ·rename_i n e hu;split at hc
    ·rename_i h1;split at hc
     ·cases hc;simp only[bv,bT,rF] at h;simp only[dF,if_neg hb',su,hu,if_pos h1];exact h
     ·cases hc
    ·cases hc
   ·cases hc
  ·cases hc
 |fieldAddr t x f=>
  simp only[ke] at hc;split at hc
  ·rename_i k hk;cases hc;simp only[bv,bT] at h;simp only[dF,ni,hk];exact h
  ·cases hc
 |field t x f=>
  simp only[ke] at hc;split at hc
  ·rename_i fs hu;split at hc
   ·rename_i fd hfd;split at hc
    ·rename_i h1;split at hc
     ·rename_i h2;cases hc;simp only[bv,bT] at h;unfold eD at h;split at h
      ·rename_i cs hx;simp only[dF,uN,hx,hu,hfd,apart,h1,h2,if_true];exact h
      ·cases h
     ·rename_i h2;cases hc;simp only[bv,bT] at h;unfold eD at h;split at h
      ·rename_i cs hx;simp only[dF,uN,hx,hu,hfd,apart,h1,h2,if_true];exact h
      ·cases h
    ·cases hc
   ·cases hc
  ·cases hc
 |indexAddr t x i=>
  simp only[ke] at hc;split at hc
  ·rename_i len e hu;split at hc
   ·rename_i h1;cases hc;simp only[bv,bT] at h;unfold nz at h;split at h
    ·rename_i n hn;simp only[dF,kV,hn,hu,h1,true_and];exact h
    ·cases h
   ·cases hc
  ·rename_i e hu;split at hc
   ·rename_i h1;cases hc;simp only[bv,bT] at h;unfold eo at h;split at h
    ·rename_i n hn;simp only[dF,kV,hn,hu,h1,if_true];split at h
     ·rename_i s elems hx;simp only[hx];split at h
      ·rename_i hb;obtain⟨b1,b2,b3⟩:=hb;rw[if_pos ⟨b1,b2⟩];have hlt:n.toNat<elems.length:=by omega
       rw[mB hlt];simp only[List.getD,mB hlt,tC] at h;exact h
      ·cases h
     ·rename_i hx;simp only[hx];exact h
     ·cases h
    ·cases h
   ·cases hc
  ·cases hc
 |index t x i=>
  simp only[ke] at hc;split at hc
  ·rename_i len e hu;have hta:B3 P t=some (len,e):=by simp[B3,hu]
   split at hc
   ·rename_i h1;split at hc
    ·rename_i h2;cases hc;simp only[bv,bT] at h;unfold eD at h;split at h
     ·rename_i cs hx;unfold nz at h;split at h
      ·rename_i n hn;simp only[dF,rK,hx,hn,hta,apart,h1,h2,if_true];exact h
      ·cases h
     ·cases h
    ·rename_i h2;cases hc;simp only[bv,bT] at h;unfold eD at h;split at h
     ·rename_i cs hx;unfold nz at h;split at h
      ·rename_i n hn;simp only[dF,rK,hx,hn,hta,apart,h1,h2,if_true];exact h
      ·cases h
     ·cases h
   ·cases hc
  ·rename_i hu;cases hc;simp only[bv,bT] at h;split at h
   ·rename_i s hs;unfold nz at h;split at h
    ·rename_i n hn;simp only[dF,rK,hs,hn,hu];simp only at h;split at h
     ·rename_i hb;rw[if_pos hb.1];have hlt:n.toNat<s.size:=by omega
      have e:s[n.toNat]?=some s[n.toNat]:=by simp[hlt]
      rw[e] at h |-;exact h
     ·cases h
    ·cases h
   ·cases h
  ·cases hc
 |extract x i=>cases hc;simp only[bv,bT] at h;exact h
 |build t parts=>
  simp only[ke] at hc;split at hc
  ·rename_i z hz;split at hc
   ·rename_i hf;split at hc
    ·rename_i pl hpl;split at hc
     ·rename_i ps hps;cases hc;simp only[bv] at h;rw[<-pF pl _ _ _ hps] at h;simp only[dF,uL,hz,hpl,if_pos hf];exact h
     ·cases hc
    ·rename_i hpl;split at hc
     ·rename_i k e hta;split at hc
      ·rename_i h1;cases hc;simp only[bv] at h;rw[<-kZ] at h;simp only[dF,uL,hz,hpl,if_pos hf,hta,if_pos h1];exact h
      ·cases hc
     ·cases hc
   ·cases hc
  ·cases hc
 |call c=>
  obtain⟨callee,args,argTypes⟩:=c;cases callee with
  |builtin b=>
   obtain⟨args⟩:=args;obtain⟨argTypes⟩:=argTypes;cases b with
   |len=>
    rcases args with _|⟨x,_|⟨y,l⟩⟩
    ·cases hc
    ·rcases argTypes with _|⟨t,_|⟨u,l⟩⟩
     ·cases hc
     ·simp only[ke] at hc;split at hc
      ·rename_i e hu;cases hc;simp only[bv,bT] at h;unfold eW at h;simp only[dF,D5,hu];split at h<;>rename_i hx<;>first|(simp only[hx];exact h)|cases h
      ·rename_i hu;cases hc;simp only[bv,bT] at h;simp only[dF,D5,hu];split at h<;>rename_i hx<;>first|(simp only[hx];exact h)|cases h
      ·rename_i n e hu;cases hc;simp only[bv] at h;simp only[dF,D5,hu];exact h
      ·cases hc
     ·cases hc
    ·cases hc
   |max=>
    rcases args with _|⟨x,l⟩
    ·cases hc
    ·cases hc;simp only[bv,bT,l7] at h;exact h
   |cap=>
    rcases args with _|⟨x,_|⟨y,l⟩⟩
    ·cases hc
    ·rcases argTypes with _|⟨t,_|⟨u,l⟩⟩
     ·cases hc
     ·simp only[ke] at hc;split at hc
      ·rename_i e he;cases hc;simp only[bv,bT] at h;simp only[dF,he];split at h<;>rename_i hx<;>first|(simp only[hx];exact h)|cases h
      ·cases hc
     ·cases hc
    ·cases hc
   |min=>
    rcases args with _|⟨x,l⟩
    ·cases hc
    ·cases hc;simp only[bv,bT,l7] at h;exact h
   |_=>cases hc
  |_=>cases hc
 |_=>cases hc
theorem Dt{P:Program}{op:Op}{i:Ins}{T:Tm}{H:Hp}{nx:Nat}{r:AV×Hp×Nat}(hc:lB P op=some i)(h:kW T H nx i=some r):il P T H nx op=some r:=by
 cases op with
 |alloc e=>
  simp only[lB] at hc;split at hc
  ·rename_i z hz;cases hc;simp only[il,uE,hz];exact h
  ·cases hc
 |box _ x=>cases hc;simp only[kW,bT] at h;exact h
 |buildSlice t len parts=>
  simp only[lB] at hc;split at hc
  ·cases hc
  ·rename_i e he;split at hc
   ·rename_i h1;split at hc
    ·rename_i z hz;split at hc
     ·rename_i h2;cases hc;simp only[kW] at h;simp only[il,qR,he,if_pos h1];split at h
      ·rename_i hl;rw[if_pos hl];split at h
       ·rename_i hp
        have:parts.toList=[]:=by
         unfold l9 at hp;simpa using hp
        rw[this];exact h
       ·cases h
      ·rename_i hl;rw[if_neg hl];simp only[hz,if_pos h2];rw[mN,<-kZ] at h;exact h
     ·cases hc
    ·cases hc
   ·cases hc
 |makeSlice t l c=>
  simp only[lB] at hc;split at hc
  ·cases hc
  ·rename_i e he;split at hc
   ·rename_i z hz;split at hc
    ·rename_i h1;cases hc;simp only[kW,bT] at h;split at h
     ·rename_i k n k' m hl hm;split at h
      ·rename_i hb;simp only[il,zC,he,hl,hm,hz];rw[if_pos ⟨h1.1,h1.2.1,h1.2.2.1,h1.2.2.2,hb.1,hb.2.1,hb.2.2.1,hb.2.2.2⟩];rw[mN] at h;exact h
      ·cases h
     ·cases h
    ·cases hc
   ·cases hc
 |store t p x=>
  simp only[lB] at hc;split at hc
  ·rename_i h1;cases hc;simp only[kW,bT] at h;split at h
   ·rename_i b n off hp;split at h
    ·rename_i cs hb;split at h
     ·rename_i h2;simp only[il,lQ,hp,hb];rw[if_pos ⟨h2.1,h1.1,h2.2.1,h2.2.2.1,h2.2.2.2,h1.2⟩];exact h
     ·cases h
    ·cases h
   ·cases h
  ·cases hc
 |call c=>
  obtain⟨callee,args,argTypes⟩:=c;cases callee with
  |builtin b=>
   obtain⟨args⟩:=args;obtain⟨argTypes⟩:=argTypes;cases b with
   |append=>
    rcases args with _|⟨x,_|⟨y,_|⟨z,l⟩⟩⟩
    ·cases hc
    ·cases hc
    ·rcases argTypes with _|⟨t,_|⟨u,_|⟨v,l⟩⟩⟩
     ·cases hc
     ·cases hc
     ·simp only[lB] at hc;split at hc
      ·cases hc
      ·rename_i e he;split at hc
       ·rename_i h1;cases hc;simp only[kW,bT] at h;simp only[il,h1.2.2.1,Option.isSome_none,dX,if_false];simp only[qF,he,if_pos h1];exact h
       ·split at hc
        ·rename_i hti;obtain⟨kx,hkx⟩:=Er.1 hti;split at hc
         ·rename_i z hz;split at hc
          ·rename_i h2;cases hc;simp only[kW,bT] at h;split at h
           ·rename_i kn n hs hx;split at h
            ·rename_i h3;simp only[il,hkx,Option.isSome_some,if_true,Bn,he,hs,hx,hz];rw[if_pos ⟨h2.1,h2.2.1,h2.2.2.1,h2.2.2.2.1,h2.2.2.2.2,h3.1,h3.2.1,h3.2.2⟩];rw[mN] at h;exact h
            ·cases h
           ·cases h
          ·cases hc
         ·cases hc
        ·cases hc
     ·cases hc
    ·cases hc
   |_=>cases hc
  |_=>cases hc
 |_=>cases hc
def isp(i:Ins)(T:Tm)(H:Hp)(nx:Nat)(K:AV->Hp->Nat->Prop):Prop:=match i with
 |.mkm h=>(h=none\/ ∃x k n,h=some x/\ov T x=.int k n)/\K (.mp nx) (av H nx [.omap [] []]) (nx+1)
 |.mput k m key x=>∃b ks vs r,ov T m=.mp b/\H b=some [.omap ks vs]/\sw k (ov T key)=true/\ef k (ov T key) ks=some r/\K (.tup []) (av H b [.omap (jc (ov T key) r ks) (qX (ov T x) r vs)]) nx
 |.mget k z ok m key=>∃b ks vs r,ov T m=.mp b/\H b=some [.omap ks vs]/\sw k (ov T key)=true/\ef k (ov T key) ks=some r/\K (Go.Abs.mget z ok r vs) H nx
 |.mlen m=>∃b ks vs,ov T m=.mp b/\H b=some [.omap ks vs]/\K (.int .i64 ks.length) H nx
 |.cpy sz d s=>∃n H',uR sz (ov T d) (ov T s) H=some (n,H')/\K (.int .i64 n) H' nx
 |.clr sz z x=>∃H',wq sz z (ov T x) H=some H'/\K (.tup []) H' nx
 |.slp len sz x=>∃(b n off:Nat)(cs:List AV),ov T x=.ptr b n off/\H b=some cs/\cs.length=n/\off+len*sz=n/\K (.msl b n sz off len) H nx
 |.snil neg x=>∃k,jL (ov T x)=some k/\Dd neg k λr=>K r H nx
 |.s2b x=>∃bs:ByteArray,ov T x=.str bs/\(bs.size=0->K (.sl 1 []) H nx)/\(bs.size≠0->K (.msl nx bs.size 1 0 bs.size) (av H nx (bs.data.toList.map lN)) (nx+1))
 |.b2s x=>∃(n:Nat)(bs:List UInt8),ee 1 H (ov T x)=some (n,bs.map lN)/\K (.str ⟨bs.toArray⟩) H nx
 |.mplc k z m key=>∃b ks vs r,ov T m=.mp b/\H b=some [.omap ks vs]/\sw k (ov T key)=true/\ef k (ov T key) ks=some r/\K (.tup [Lz z r vs,.int .i64 (Jc r ks)]) (av H b [.omap (jc (ov T key) r ks) (BL z r vs)]) nx
 |.mpst m s x=>∃(b:Nat)(ks vs:List AV)(i:Nat),ov T m=.mp b/\H b=some [.omap ks vs]/\ov T s=.int .i64 (i:Int)/\i<ks.length/\K (.tup []) (av H b [.omap ks (vs.set i (ov T x))]) nx
 |_=>False
def vw(P:Program):Op->Option Ins
 |.makeMap t r=>match oL P t with|some _=>some (.mkm (r.map .of))|none=>none
 |.mapUpdate t m k x=>match oL P t with
  |some (kt,_)=>(mkk P kt).map λmk=>.mput mk (.of m) (.of k) (.of x)
  |none=>none
 |.insert t m k x=>match oL P t with
  |some (kt,_)=>(mkk P kt).map λmk=>.mput mk (.of m) (.of k) (.of x)
  |none=>none
 |.lookup t m k ok=>match oL P t with
  |some (kt,et)=>match mkk P kt,gJ P et with
   |some mk,some z=>some (.mget mk z ok (.of m) (.of k))
   |_,_=>none
  |none=>none
 |.call {callee:=.builtin .len,args:=⟨[x]⟩,argTypes:=⟨[t]⟩}=>match oL P t with|some _=>some (.mlen (.of x))|none=>none
 |.binOp .eql t x (.const (.slice none 0 0)) _=>match gw P t with|some _=>some (.snil false (.of x))|none=>none
 |.binOp .neq t x (.const (.slice none 0 0)) _=>match gw P t with|some _=>some (.snil true (.of x))|none=>none
 |.call {callee:=.builtin .copy,args:=⟨[d,s]⟩,argTypes:=⟨[tD,_]⟩}=>match gw P tD with
  |some e=>if tok P e=true then some (.cpy (P.cellsOf e) (.of d) (.of s)) else none
  |none=>none
 |.call {callee:=.builtin .clear,args:=⟨[x]⟩,argTypes:=⟨[t]⟩}=>match gw P t with
  |some e=>match gJ P e with
   |some z=>if 0<P.cellsOf e then some (.clr (P.cellsOf e) z (.of x)) else none
   |none=>none
  |none=>none
 |.convert s d x=>match P.underlying s,P.underlying d with
  |some .string,some (.slice e)=>if lS P e=some .u8 then some (.s2b (.of x)) else none
  |some (.slice e),some .string=>if lS P e=some .u8 then some (.b2s (.of x)) else none
  |_,_=>none
 |.mapEntry t m k=>match oL P t with
  |some (kt,et)=>match mkk P kt,gJ P et with
   |some mk,some z=>some (.mplc mk z (.of m) (.of k))
   |_,_=>none
  |none=>none
 |.entryStore _ m s x=>some (.mpst (.of m) (.of s) (.of x))
 |.slice t x none none none=>match P.underlying t with
  |some (.array n e)=>if tok P e=true/\0<n then some (.slp n (P.cellsOf e) (.of x)) else none
  |_=>none
 |_=>none
theorem LL{P:Program}{op:Op}{i:Ins}{T:Tm}{H:Hp}{nx:Nat}{K:AV->Hp->Nat->Prop}(hc:vw P op=some i)(h:isp i T H nx K):eY P op T H nx K:=by
 have put:∀t m k x,vw P (.mapUpdate t m k x)=some i->isp i T H nx K->eY P (.mapUpdate t m k x) T H nx K:=by
  intro t m k x hc h;simp only[vw] at hc;split at hc
  ·rename_i kt et ht;cases hk:mkk P kt with
   |none=>rw[hk] at hc;cases hc
   |some mk=>
    rw[hk] at hc;cases hc;obtain⟨b,ks,vs,r,h1,h2,h3,h4,h5⟩:=h;simp only[bT] at h1 h3 h4 h5;exact th ht hk h1 h2 h3 h4 h5
  ·cases hc
 unfold vw at hc;split at hc
 ·rename_i t r;split at hc
  ·rename_i p ht;cases hc;obtain⟨h1,h2⟩:=h
   have h4:r=none\/ ∃x n k p,r=some x/\ev T x=.int k n/\oL P t=some p:=by
    rcases h1 with h1|⟨x,k,n,h1,h3⟩
    ·cases r with
     |none=>exact .inl rfl
     |some r=>cases h1
    ·cases r with
     |none=>cases h1
     |some r=>cases h1;rw[bT] at h3;exact .inr ⟨r,n,k,p,rfl,h3,ht⟩
   exact wy h4 h2
  ·cases hc
 ·rename_i t m k x;exact put t m k x hc h
 ·rename_i t m k x;exact y8 (put t m k x hc h)
 ·rename_i t m k ok;split at hc
  ·rename_i kt et ht;split at hc
   ·rename_i mk z hk hz;cases hc;obtain⟨b,ks,vs,r,h1,h2,h3,h4,h5⟩:=h;simp only[bT] at h1 h3 h4;exact qA ht hk hz h1 h2 h3 h4 h5
   ·cases hc
  ·cases hc
 ·rename_i x t;split at hc
  ·rename_i p ht;cases hc;obtain⟨b,ks,vs,h1,h2,h3⟩:=h;rw[bT] at h1;exact Ck ht h1 h2 h3
  ·cases hc
 ·rename_i t x ty;split at hc
  ·rename_i e ht;cases hc;obtain⟨k,h1,h2⟩:=h;rw[bT] at h1;exact uj (neg:=false) ht h1 h2
  ·cases hc
 ·rename_i t x ty;split at hc
  ·rename_i e ht;cases hc;obtain⟨k,h1,h2⟩:=h;rw[bT] at h1;exact uj (neg:=true) ht h1 h2
  ·cases hc
 ·rename_i d s tD tS;split at hc
  ·rename_i e ht;split at hc
   ·rename_i hte;cases hc;obtain⟨n,H',h1,h2⟩:=h;simp only[bT] at h1;exact BV ht hte h1 h2
   ·cases hc
  ·cases hc
 ·rename_i x t;split at hc
  ·rename_i e ht;split at hc
   ·rename_i z hz;split at hc
    ·rename_i hpos;cases hc;obtain⟨H',h1,h2⟩:=h;simp only[bT] at h1;exact AI ht hz h1 hpos h2
    ·cases hc
   ·cases hc
  ·cases hc
 ·rename_i s d x
  have tu:∀{e},lS P e=some .u8->P.underlying e=some (.int .u8):=λ{e} h=>by
   unfold lS at h;split at h
   ·rename_i hu;cases h;exact hu
   ·cases h
  split at hc
  ·rename_i e hs hd;split at hc
   ·rename_i he;cases hc;obtain⟨bs,h1,h2,h3⟩:=h;rw[bT] at h1;exact Fl hs hd (tu he) h1 h2 h3
   ·cases hc
  ·rename_i e hs hd;split at hc
   ·rename_i he;cases hc;obtain⟨n,bs,h1,h2⟩:=h;rw[bT] at h1;exact FI hs (tu he) hd h1 h2
   ·cases hc
  ·cases hc
 ·rename_i t m k;split at hc
  ·rename_i kt et ht;split at hc
   ·rename_i mk z hk hz;cases hc;obtain⟨b,ks,vs,r,h1,h2,h3,h4,h5⟩:=h;simp only[bT] at h1 h3 h4 h5;exact vS ht hk hz h1 h2 h3 h4 h5
   ·cases hc
  ·cases hc
 ·cases hc;obtain⟨b,ks,vs,i,h1,h2,h3,h4,h5⟩:=h;simp only[bT] at h1 h3 h5;exact rZ h1 h2 h3 h4 h5
 ·rename_i t x;split at hc
  ·rename_i n e hu;split at hc
   ·rename_i hce;cases hc;obtain⟨b,n',off,cs,h1,h2,h3,h4,h5⟩:=h;rw[bT] at h1;exact wZ hu hce.1 hce.2 h1 h2 h3 h4 h5
   ·cases hc
  ·cases hc
 ·cases hc
theorem Ar{P:Program}{E:Env}{H:Nat->Option (List AV)}{nx:Nat}{w:World}(hE:EnvOk E w)(hh:HeapOk E H nx w)(hfr:cJ E nx){tS tX ty e:TypeId}{x:AV}{vs vx:Value}{b n off len k:Nat}{cs new:List AV}(hte:gw P tS=some e)
    (hc:tok P e=true/\tok P tX=true/\lS P tX=none/\0<P.cellsOf e/\zok P e=true) (hs:Rel E w (.msl b n (P.cellsOf e) off len) vs) (hx:Rel E w x vx)
    (hb:H b=some cs) (hn:cs.length=n) (h0:0<n) (hfull:off+len*P.cellsOf e=n) (hsrc:ee (P.cellsOf e) H x=some (k,new)) (hall:new.all AV.one=true)
    (hb1:(len+k)*fu P e<=140737488355328) (hb2:len+k<=9223372036854775807):
    oB P E w (Builtin.append_ #[tS,tX] ty #[vs,vx]) (.msl b (n+k*P.cellsOf e) (P.cellsOf e) off (len+k)) (av H b (cs++new)) nx\/
    oB P E w (Builtin.append_ #[tS,tX] ty #[vs,vx]) (.msl nx ((len+k)*P.cellsOf e) (P.cellsOf e) 0 (len+k)) (av H nx (cs.drop off++new)) (nx+1):=by
 have hu:=iC hte;obtain⟨he,hX,hXi,hpos,hz⟩:=hc;obtain⟨hk,hnl,vals,hnew,hvl,hvr⟩:=jt (P:=P) hh hx hsrc;have hd:HeapOk E H nx w.drew:=hh.same rfl;have hEd:EnvOk E w.drew:=hE.drew;have hextd:Ext E w E w.drew:=Ext.same rfl
 have hone:∀y∈vals,y.oneCell'=true:=by
  intro y hy;obtain⟨i,hi⟩:=rY hy;have hlt:i<new.length:=by have:=(bH.1 hi).1;omega
  exact(hvr i new[i] y (by simp[hlt]) hi).one (dQ.1 hall _ (mq hlt))
 obtain⟨_,_,valsd,hnewd,hvld,hvrd⟩:=jt (P:=P) hd (hx.ext hextd) hsrc
 have honed:∀y∈valsd,y.oneCell'=true:=by
  intro y hy;obtain⟨i,hi⟩:=rY hy;have hlt:i<new.length:=by have:=(bH.1 hi).1;omega
  exact(hvrd i new[i] y (by simp[hlt]) hi).one (dQ.1 hall _ (mq hlt))
 have hmul:(len+k)*P.cellsOf e=len*P.cellsOf e+k*P.cellsOf e:=d8 _ _ _;cases hs with
 |msl0=>omega
 |msl _ _ _ _ _ blk bsz cap hm hl hcp hnc=>
  subst hn;rcases hh.box b cs hb with hn0|⟨blk',bsz',hbx⟩
  ·rw[hn0] at hm;cases hm
  rw[hbx.mu] at hm;cases hm;obtain⟨v0,ty0,fz,k1,kz,k2,k3,k4⟩:=hbx.cells;by_cases hcap:len+k<=cap
  ·-- in place
   left
   have hfit:off+(len+k)*P.cellsOf e<=bsz:=by
    have:=jv (P.cellsOf e) hcap;omega
   have hcsl:cs.length+vals.length<=v0.size:=by omega
   have hrun:=eC P blk cs.length ty0 fz vals 0 v0 w k1 kz (by omega) hone;simp only[uM] at hrun;have hlen':(cs++new).length=cs.length+k*P.cellsOf e:=by rw[cP,hnl]
   obtain⟨E',he',hE',hh',hmu',_,hmo,hms,hml⟩:=hh.write hE hb hbx (cs':=cs++new) (v0.toList.take cs.length++vals++v0.toList.drop (cs.length+vals.length)).toArray
    (by simp; omega) (by omega) (by simp) (by
     by_cases hk0:k=0
     ·left;rw[hlen',hk0,nA];rfl
     ·right;left;have hkp:0<k*P.cellsOf e:=Nat.mul_pos (by omega) hpos;cases hq:E.mu b (cs++new).length with
      |none=>rfl
      |some q=>
       have:=hh.top b cs _ q hb hq;rw[cP] at this;omega) (λi a ha=>by
    have:=yH (E:=E) (w:=w) (vals:=v0.toList) (nv:=vals) (by simpa using (by omega:cs.length ≤ v0.size)) hvl (fun i x hx'=>by
     obtain⟨v,hv,ho,hr⟩:=k4 i x hx';exact⟨v,by simpa using hv,ho,hr⟩) hvr hone i a ha
    obtain⟨v,hv,ho,hr⟩:=this;exact⟨v,by simpa using hv,ho,hr⟩)
   refine⟨_,_,E',iK hu he hX hXi hk hnew (by rw[ci,hfull];exact hrun) hcap,he',hE',hh',?_,hfr.of (bc _) (λb' n hb'=>hmo b' n (by have:=hh.dom _ _ hb;omega)) hms hml⟩;rw[hlen'] at hmu';exact .msl _ _ _ _ _ _ _ _ hmu' hcap (by omega) (by have:=jv (P.cellsOf e) hcap;omega)
  ·-- a copy into a new block
   right;have hl0:(cs.drop off).length=len*P.cellsOf e:=by rw[Cy];omega
   have hlo:((v0.toList.drop off).take (len*P.cellsOf e)).length=len*P.cellsOf e:=by
    rw[iX,Cy,Array.length_toList];omega
   have ho1:(Builtin.firstCells (P.cellsOf e) len (.slice (some ⟨blk,off,none⟩) len cap)).run P w.drew=.ok ((v0.toList.drop off).take (len*P.cellsOf e)).toArray w.drew:=by
    simp only[Builtin.firstCells]
    have:=run_loadCells_list (P:=P) w.drew ⟨blk,off,none⟩ ((v0.toList.drop off).take (len * P.cellsOf e)) (fun j v hv=>by
     rw[ci];rw[jl] at hv;split at hv
     ·rw[kJ] at hv;exact cell?_of_heap (w:=w.drew) k1 (by simpa using hv)
     ·cases hv)
    rw[hlo] at this;exact this
   obtain⟨newCap,rest,h1,h2,h3⟩:=iJ (P:=P) (w:=w) (ty:=ty) hu he hX hXi hz hk ho1 hnewd (by omega) hb1 hb2;have hnb:(cs.drop off++new).length=(len+k)*P.cellsOf e:=by rw[cP,hl0,hnl,hmul]
   obtain ⟨E',he',hE',hh',hmu,_,hmo,hms,hml⟩:=hd.newBox hEd (hfr nx (bc _)) (cs.drop off ++ new) ((v0.toList.drop off).take (len * P.cellsOf e) ++ valsd ++ rest).toArray e (by
    rw[hnb,List.size_toArray,cP,cP,hlo,hvld,hnl,hmul];omega) (λi a ha=>by
    rw[io];by_cases hi:i<len*P.cellsOf e
    ·rw[gG (by omega),kJ] at ha;obtain⟨v,hv,ho,hr⟩:=k4 _ a ha;refine⟨v,?_,ho,hr.ext hextd⟩;rw[pu,gG (by omega),jl,if_pos hi,kJ];simpa using hv
    ·rw[iA (by omega),hl0] at ha;have hlt:i-len*P.cellsOf e<valsd.length:=by have:=(bH.1 ha).1;omega
     refine⟨valsd[i-len*P.cellsOf e],?_,honed _ (mq hlt),hvrd _ a _ ha (by simp[hlt])⟩;rw[pu,iA (by omega),hlo,gG hlt];simp[hlt])
   refine⟨_,_,E',h3,hextd.trans he',hE',hh',?_,hfr.of (by omega) (λb' n hb'=>hmo b' n (by omega)) hms hml⟩
   have hsz:((v0.toList.drop off).take (len*P.cellsOf e)++valsd++rest).toArray.size=newCap*P.cellsOf e:=by
    simp only[List.size_toArray,cP,hlo,hvld,hnl,h2];rw[<-d8,<-d8];congr 1;omega
   rw[hnb,hsz] at hmu;exact .msl _ _ _ _ _ _ _ _ hmu h1 (by omega) (by rw[dt];exact jv _ h1)
theorem BI{P:Program}{tS tX e:TypeId}{s x:Operand}{T:Tm}{H:Hp}{nx:Nat}{K:AV->Hp->Nat->Prop}{b n off len k:Nat}{cs new:List AV}(hte:gw P tS=some e)
    (hc:tok P e=true/\tok P tX=true/\lS P tX=none/\0<P.cellsOf e/\zok P e=true) (hs:ev T s=.msl b n (P.cellsOf e) off len)
    (hb:H b=some cs) (hn:cs.length=n) (h0:0<n) (hfull:off+len*P.cellsOf e=n) (hsrc:ee (P.cellsOf e) H (ev T x)=some (k,new)) (hall:new.all AV.one=true)
    (hb1:(len+k)*fu P e<=140737488355328) (hb2:len+k<=9223372036854775807)
    (k1:K (.msl b (n+k*P.cellsOf e) (P.cellsOf e) off (len+k)) (av H b (cs++new)) nx)
    (k2:K (.msl nx ((len+k)*P.cellsOf e) (P.cellsOf e) 0 (len+k)) (av H nx (cs.drop off++new)) (nx+1)):
    eY P (.call {callee:=.builtin .append,args:=#[s,x],argTypes:=#[tS,tX]}) T H nx K:=by
 refine cz (by intro c;simp) ?_;rintro E w a ⟨dst,op,type,pos,after,guard⟩ ho hE hh hf htm;simp only at ho;subst ho;have hsr:=htm s (by simp[Op.operands,Call.operands]);have hxr:=htm x (by simp[Op.operands,Call.operands]);rw[hs] at hsr
 have hexec:∀v w',(Builtin.append_ #[tS,tX] type #[a.eval s,a.eval x]).run P w=.ok v w'->(execOp a.eval ⟨dst,.call {callee:=.builtin .append,args:=#[s,x],argTypes:=#[tS,tX]},type,pos,after,guard⟩).run P w=.ok (.value v) w':=by
  intro v w' h;simp only[execOp,resolve,invoke,builtin,bA,eG,bu];simp[h]
 rcases Ar (ty:=type) hE hh hf hte hc hsr hxr hb hn h0 hfull hsrc hall hb1 hb2 with⟨v,w',E',g1,g2,g3,g4,g5,g6⟩|⟨v,w',E',g1,g2,g3,g4,g5,g6⟩
 ·exact⟨.value v,v,w',E',_,_,_,hexec _ _ g1,.inl rfl,g2,g3,g4,g6,g5,k1⟩
 ·exact⟨.value v,v,w',E',_,_,_,hexec _ _ g1,.inl rfl,g2,g3,g4,g6,g5,k2⟩
structure Op2 where
 d:Option Nat
 g:Option (Nat×Bool)
 i:Ins
inductive C2 where
 |skip
 |ops (m:Nat) (l:List Op2)
 |mix (m:Nat) (l:List Op2) (C:List Nat)
 |mixS (m:Nat) (l:List Op2) (C:List (Nat×Nat))
 |anyI (l:List Op2) (B:List (List Nat))
 |seq (a b:C2)
 |cond (c:Opd) (a b:C2)
 |block (id:Nat) (b:C2)
 |loop (b:C2)
 |exit (id:Nat)
 |ret
 |rangeF (g:Opd) (ps:List Nat) (a b:C2)
inductive IC where
 |val|eff|call|sp
 deriving DecidableEq
def ic:Ins->IC
 |.alloc _|.box _|.bldS .. |.mks .. |.st .. |.app .. |.apz ..=>.eff
 |.call ..=>.call
 |.mkm .. |.mput .. |.mget .. |.mlen _|.cpy .. |.clr .. |.snil .. |.s2b _|.b2s _|.mplc .. |.mpst .. |.slp ..=>.sp
 |_=>.val
def tv(m:Nat)(p:AV):Bool:=match p with|.ptr b _ _=>b<m|_=>true
def wG(m:Nat)(p:AV):Bool:=match p with|.ptr b _ _=>m<=b|_=>true
def dm2(dm:DM)(T:Tm)(i:Ins):Bool:=match dm with
 |.fresh m=>match i with
  |.ld1 a=>tv m (ov T a)
  |.ldn _ a=>tv m (ov T a)
  |.st _ p _=>wG m (ov T p)
  |.app ..=>false
  |.apz ..=>false
  |_=>true
 |_=>true
def Cs(i:Ins)(T:Tm)(H:Hp)(nx:Nat)(K:AV->Hp->Nat->Prop):Prop:=match i with
 |.app sz bytes s x=>∃(b n off len k:Nat)(cs new:List AV),ov T s=.msl b n sz off len/\H b=some cs/\cs.length=n/\0<n/\off+len*sz=n/\ee sz H (ov T x)=some (k,new)/\new.all AV.one=true/\
     (len+k)*bytes<=140737488355328/\len+k<=9223372036854775807/\K (.msl b (n+k*sz) sz off (len+k)) (av H b (cs++new)) nx/\K (.msl nx ((len+k)*sz) sz 0 (len+k)) (av H nx (cs.drop off++new)) (nx+1)
 |_=>False
def bj(P:Program)(dm:DM)(i:Ins)(T:Tm)(H:Hp)(nx:Nat)(K:AV->Hp->Nat->Prop):Prop:=
 match ic i with
 |.val=>aM (dm2 dm T i) (ax (bv T H i) λr=>K r H nx)
 |.eff=>aM (dm2 dm T i) (ax (kW T H nx i) λx=>K x.1 x.2.1 x.2.2)\/(dm.isText=true/\Cs i T H nx K)
 |.call=>match i with
  | .call f args=>(ax (qG (ov T f)) fun y=>match dm.isText with
   |false=>aX P y.1 (args.map (ov T)++y.2) H λr=>K r H nx
   |true=>Fn P y.1 (args.map (ov T)++y.2) H nx K)\/(dm.isText=true/\((∃b,ov T f=.yld b/\Yl P b (args.map (ov T)) H nx K)\/ ∃g fs,ov T f=.bfn g fs/\Fn P g (fs++args.map (ov T)) H nx K))
  |_=>False
 |.sp=>dm.isText=true/\isp i T H nx K
def g2(T:Tm):Option (Nat×Bool)->Option Bool
 |none=>some true
 |some (t,want)=>match T t with
  |.bool b=>some (b==want)
  |.tup []=>some false
  |_=>none
def ai(P:Program)(dm:DM):List Op2->Tm->Hp->Nat->SP->Prop
 |[],T,H,nx,K=>K T H nx
 |o::l,T,H,nx,K=>aS (g2 T o.g) (bj P dm o.i T H nx λr H nx=>ai P dm l (aO T o.d r) H nx K) (ai P dm l (aO T o.d (.tup [])) H nx K)
def sr(T:Tm):Ins->Option AV
 |.bldS sz len z parts=>rq (kW T aP 0 (.bldS sz len z parts))
 |_=>none
def lkS(mk:MK)(z:AV)(ok:Bool)(mv kv:AV)(S:Hp):Option AV:=match mv with
 |.mp b=>match S b with
  |some [.omap ks vs]=>if sw mk kv=true then(match ef mk kv ks with|some r=>some (mget z ok r vs)|none=>none) else none
  |some [.bmap ks vs _ _]=>if sw mk kv=true then(match ef mk kv ks with|some r=>some (mget z ok r vs)|none=>none) else none
  |_=>none
 |_=>none
def ilk(T:Tm)(S:Hp):Ins->Option AV
 |.mget mk z ok m key=>lkS mk z ok (ov T m) (ov T key) S
 |_=>none
def bn(P:Program)(S:Hp):List (Op2×Nat)->Tm->Hp->Nat->SP->Prop
 |[],T,H,nx,K=>K T H nx
 |(o,0)::l,T,H,nx,K=>aS (g2 T o.g) (ax (bv T S o.i) λr=>bn P S l (aO T o.d r) H nx K) (bn P S l (aO T o.d (.tup [])) H nx K)
 |(o,k+1)::l,T,H,nx,K=>aS (g2 T o.g) (if k=2 then ax (sr T o.i) λr=>bn P S l (aO T o.d r) H nx K else if k=3 then ax (ilk T S o.i) λr=>bn P S l (aO T o.d r) H nx K else bj P .text o.i T H nx λr H' nx'=>(k=0->Sub S H')/\bn P S l (aO T o.d r) H' nx' K) (bn P S l (aO T o.d (.tup [])) H nx K)
def aF(P:Program):C2->Tm->Hp->Nat->CP->Prop
 |.skip,T,H,nx,K=>K .normal T H nx
 |.ops m l,T₀,H₀,nx₀,K=>∃T H nx Hf,Gh T₀ H₀ nx₀ T H nx Hf/\ai P (match m with|0=>.text|1=>.draw|_=>.fresh nx) l T H nx (K .normal)
 |.mix m l C,T₀,H₀,nx₀,K=>(m≠9/\∃T H nx Hf,Gh T₀ H₀ nx₀ T H nx Hf/\ai P (match m with|1=>.draw|_=>.fresh nx) l T H nx (K .normal))\/
     ∃T H nx Hf,Gh T₀ H₀ nx₀ T H nx Hf/\ai P .text (C.map λk=>l.getD k ⟨none,none,.dead⟩) T H nx (K .normal)
 |.mixS m l C,T₀,H₀,nx₀,K=>(m≠9/\∃T H nx Hf,Gh T₀ H₀ nx₀ T H nx Hf/\ai P (match m with|1=>.draw|_=>.fresh nx) l T H nx (K .normal))\/
     ∃T H nx Hf S,Gh T₀ H₀ nx₀ T H nx Hf/\Sub S H/\bn P S (C.map λk=>(l.getD k.1 ⟨none,none,.dead⟩,k.2)) T H nx (K .normal)
 |.anyI l B,T₀,H₀,nx₀,K=>∃T H nx Hf,∃I:(Nat->Bool)->Tm->Hp->Nat->Prop,Gh T₀ H₀ nx₀ T H nx Hf/\I (λ_=>false) T H nx/\
     (∀(i:Nat)(L:Nat->Bool)(T:Tm)(H:Hp)(nx:Nat),i<l.length->L i=false->(∀k∈B.getD i [],L k=true)->I L T H nx->ai P .text [l.getD i ⟨none,none,.dead⟩] T H nx (I λk=>L k || decide (k=i)))/\
     ∀(L:Nat->Bool)(T:Tm)(H:Hp)(nx:Nat),(∀k,k<l.length->L k=true)->I L T H nx->K .normal T H nx
 |.seq x y,T,H,nx,K=>aF P x T H nx λe T H nx=>aN e (aF P y T H nx K) (K e T H nx)
 |.cond c x y,T,H,nx,K=>a8 (ov T c) (aF P x T H nx K) (aF P y T H nx K)
 |.block id b,T,H,nx,K=>aF P b T H nx λe T H nx=>K (rS id e) T H nx
 |.loop b,T,H,nx,K=>aY (aF P b) T H nx K
 |.exit id,T,H,nx,K=>K (.exit id) T H nx
 |.ret,T,H,nx,K=>K .ret T H nx
 |.rangeF g ps a b,T,H,nx,K=>∃f caps,ov T g=.func f caps/\∀(c0:AV)(cj:AEx->AV),
     (∀ (args:List AV) (H':Hp) (nx':Nat) (K':AV→Hp→Nat→Prop),H' nx=some [c0]→args.length=ps.length →
      aF P a (mE T ps args) H' nx' (λe T2 H2 nx2=>aN e (H2 nx=some [c0]/\aF P b T2 (dv H2 nx) nx2 λe T3 H3 nx3=>aN e (K' (.bool true) (av H3 nx [c0]) nx3) (K' (.bool false) (av H3 nx [cj e]) nx3)) False)->
      Yl P nx args H' nx' K')->
     Fn P f (.yld nx::caps) (av H nx [c0]) (nx+1) λ_ H' nx'=>(H' nx=some [c0]/\K .normal T (dv H' nx) nx')\/ ∃e,e≠.normal/\H' nx=some [cj e]/\K e T (dv H' nx) nx'
def wO:Op->Option IC
 |.call {callee:=.value _,..}=>some .call
 |op=>match opk op with
  |.pure|.touch=>some .val
  |.alloc|.write=>some .eff
  |.other=>none
def kc(P:Program)(op:Op):Option Ins:=match wO op with
 |some .call=>match nN op with
  |some (f,args)=>some (.call (.of f) (args.toList.map .of))
  |none=>none
 |some .val=>match ke P op with
  |some i=>if ic i=.val then some i else none
  |none=>none
 |some .eff=>match lB P op with
  |some i=>if ic i=.eff then some i else none
  |none=>none
 |_=>none
def gv(P:Program)(op:Op):Ins:=match kc P op with
 |some i=>i
 |none=>match vw P op with
  |some i=>if ic i=.sp then i else .dead
  |none=>.dead
def HR(dsts:List (Option Nat)):Option (Nat×Bool)->Option (Option (Nat×Bool))
 |none=>some none
 |some (j,want)=>match dsts[j]? with
  |some (some d)=>some (some (d,want))
  |_=>none
def Aw(P:Program)(N:Nat)(dsts:List (Option Nat))(o:Oper):Option Op2:=
 if dok N o.dst then (match HR dsts o.guard with
  |some g=>some ⟨o.dst,g,gv P o.op⟩
  |none=>none) else none
def li(P:Program)(N:Nat)(dsts:List (Option Nat)):List Oper->Option (List Op2)
 |[]=>some []
 |o::l=>match Aw P N dsts o,li P N dsts l with
  |some o,some l=>some (o::l)
  |_,_=>none
def vpP(P:Program)(op:Op):Bool:=Hk op || (opk op==.pure&&(kc P op).isSome)
theorem rR (P:Program):VP (vpP P):=⟨fun op h=>by
 unfold vpP at h;rw[lU,eL] at h;rcases h with h|h
 ·exact CI h
 ·simpa using h.1,λop h=>by unfold vpP;rw[h];rfl⟩
def yt(P:Program)(ops:List Oper):Bool:=ops.any λo=>opk o.op==.other || (opk o.op==.pure&& !vpP P o.op)
def NN(P:Program)(ops:List Oper):List Nat:=
 let m:=Region.before ops.toArray
 let r:=List.range ops.length
 let sp:=r.filter λi=>!vpP P (ops.getD i default).op
 let C:=sp.foldl (λacc s=>acc++(r.filter λi=>vpP P (ops.getD i default).op&& !acc.contains i&& !sp.any λq=>dS m i q&& !acc.contains q)++[s]) []
 C++r.filter λi=>!C.contains i
def Ni(P:Program)(N:Nat)(ops:List Oper):Bool:=
 (yt P ops || ops.any λo=>wO o.op==some .call)&&zD (vpP P) N ops (NN P ops)
def svP(P:Program)(op:Op):Bool:=sv (vpP P) op
def lvP(P:Program)(op:Op)(T:Tm)(S:Hp):Option AV:=match op with
 |.lookup t m k ok=>match oL P t with
  |some (kt,et)=>match mkk P kt,gJ P et with
   |some mk,some z=>lkS mk z ok (ev T m) (ev T k) S
   |_,_=>none
  |none=>none
 |_=>none
def bpF(P:Program)(b:Op->Bool)(l:Bool):BP where
 b:=b
 l:=l
 lv:=lvP P
 cg:=λ{op T T' S} h=>by
  cases op<;>first|rfl|skip
  rename_i t m k ok;unfold lvP;simp only;rw[h m (by simp[Op.operands]),h k (by simp[Op.operands])]
theorem wa{P:Program}{b:Op->Bool}{l:Bool}:uV P (bpF P b l):=λ_{op T S H nx K r} hl hr hs hk=>by
 cases op<;>first|(cases hl;done)|skip
 rename_i t m k ok;have hr:lvP P (.lookup t m k ok) T S=some r:=hr;unfold lvP at hr;simp only at hr;split at hr
 ·rename_i kt et ht;split at hr
  ·rename_i mk z hmk hz;unfold lkS at hr;split at hr
   ·rename_i bx hm;split at hr
    ·rename_i ks vs hb;split at hr
     ·rename_i hf;split at hr
      ·rename_i q hq;cases hr;exact qA ht hmk hz hm (hs _ _ hb) hf hq hk
      ·cases hr
     ·cases hr
    ·rename_i ks vs bs ck hb;split at hr
     ·rename_i hf;split at hr
      ·rename_i q hq;cases hr;exact wN ht hmk hz hm (hs _ _ hb) hf hq hk
      ·cases hr
     ·cases hr
    ·cases hr
   ·cases hr
  ·cases hr
 ·cases hr
def Ld(P:Program)(ops:List Oper):List Nat:=
 let m:=Region.before ops.toArray
 let r:=List.range ops.length
 let sp:=r.filter λi=>!svP P (ops.getD i default).op
 let C:=sp.foldl (λacc s=>acc++(r.filter λi=>svP P (ops.getD i default).op&& !acc.contains i&& !sp.any λq=>dS m i q&& !acc.contains q)++[s]) []
 C++r.filter λi=>!C.contains i
def Lh(P:Program)(N:Nat)(ops:List Oper):Bool:=
 (yt P ops || (ops.any λo=>wO o.op==some .call) || !drawOk false ops)&&(ops.all λo=>!kN o.op || (kc P o.op).isSome)&&ry (vpP P) (bpF P (λ_=>false) false) N ops (Ld P ops)
def iB(P:Program)(bp:BP)(ops:List Oper)(k:Nat):Nat:=if (bp.b (ops.getD k default).op&&j9 (ops.getD k default).op)=true then 3 else if (bp.l&&tF (ops.getD k default).op)=true then 4 else if svP P (ops.getD k default).op=true then 0 else if gM bp ops k=true then 1 else 2
def xm(P:Program)(bp:BP)(ops:List Oper):List Nat:=
 let m:=Region.before ops.toArray
 let r:=List.range ops.length
 let v:=λi=>svP P (ops.getD i default).op || (bp.b (ops.getD i default).op&&j9 (ops.getD i default).op) || (bp.l&&tF (ops.getD i default).op)
 let sp:=r.filter λi=>!v i
 let C:=sp.foldl (λacc s=>acc++(r.filter λi=>v i&& !acc.contains i&& !sp.any λq=>dS m i q&& !acc.contains q)++[s]) []
 C++r.filter λi=>!C.contains i
def xD(P:Program)(bp:BP)(N:Nat)(ops:List Oper):Bool:=
 (ops.all λo=>!(kN o.op || (bp.b o.op&&j9 o.op)) || (kc P o.op).isSome)&&ry (vpP P) bp N ops (xm P bp ops)
def bpA(P:Program)(op:Op):Bool:=match kc P op with
 |some (.bldS 1 _ _ _)=>true
 |_=>false
def KT(P:Program)(N:Nat)(ops:List Oper):Bool:=
 (ops.any λo=>bpA P o.op)&&(ops.any λo=>j9 o.op&& !bpA P o.op)&&xD P (bpF P (bpA P) false) N ops
def Li(P:Program)(N:Nat)(ops:List Oper):Bool:=
 (ops.any λo=>tF o.op)&&(drawOk false ops || drawOk true ops)&&xD P (bpF P (λ_=>false) true) N ops
def Nd:Op->Bool
 |.alloc _=>true
 |_=>false
def Sz(o:Op2):Bool:=match o with
 |⟨_,_,.call (.t _) _⟩=>true
 |_=>false
def L9(ops:List Oper):List (List Nat):=(List.range ops.length).map λi=>(List.range ops.length).filter λk=>dS (Region.before ops.toArray) i k
def OM(ops:List Oper):Bool:=xr ops&&(List.range ops.length).any λi=>(List.range ops.length).any λj=>decide (i<j)&&Nd (ops.getD i default).op&&Nd (ops.getD j default).op&& !dS (Region.before ops.toArray) j i
def N7(o:Op2):Bool:=match o with
 |⟨_,_,.app ..⟩=>true
 |_=>false
def nB(P:Program)(N:Nat):Code->Option C2
 |.skip=>some .skip
 |.label _=>some .skip
 |.region _ ops draw=>match li P N (ops.toList.map (·.dst)) ops.toList with
  |some l=>if draw=true then(if KT P N ops.toList=true then some (.mixS 9 l ((xm P (bpF P (bpA P) false) ops.toList).map λk=>(k,iB P (bpF P (bpA P) false) ops.toList k))) else if Ni P N ops.toList=true then some (.mix (if yt P ops.toList=true then 9 else if drawOk false ops.toList=true then 1 else if drawOk true ops.toList=true then 2 else 9) l (NN P ops.toList)) else if Lh P N ops.toList=true then some (.mixS (if yt P ops.toList=true then 9 else if drawOk false ops.toList=true then 1 else if drawOk true ops.toList=true then 2 else 9) l ((Ld P ops.toList).map λk=>(k,iB P (bpF P (λ_=>false) false) ops.toList k))) else if Li P N ops.toList=true then some (.mixS 9 l ((xm P (bpF P (λ_=>false) true) ops.toList).map λk=>(k,iB P (bpF P (λ_=>false) true) ops.toList k))) else if (l.any Sz&&OM ops.toList)=true then some (.anyI l (L9 ops.toList)) else if drawOk false ops.toList=true then some (.ops 1 l) else if (l.any N7&&xD P (bpF P (λ_=>true) false) N ops.toList)=true then some (.mixS 9 l ((xm P (bpF P (λ_=>true) false) ops.toList).map λk=>(k,iB P (bpF P (λ_=>true) false) ops.toList k))) else if drawOk true ops.toList=true then some (.ops 2 l) else if xD P (bpF P (λ_=>true) false) N ops.toList=true then some (.mixS 9 l ((xm P (bpF P (λ_=>true) false) ops.toList).map λk=>(k,iB P (bpF P (λ_=>true) false) ops.toList k))) else none) else some (.ops 0 l)
  |none=>none
 |.seq a b=>match nB P N a,nB P N b with
  |some a,some b=>some (.seq a b)
  |_,_=>none
 |.cond c a b=>match nB P N a,nB P N b with
  |some a,some b=>some (.cond (.of c) a b)
  |_,_=>none
 |.block id b=>match nB P N b with
  |some b=>some (.block id b)
  |none=>none
 |.loop b=>match nB P N b with
  |some b=>some (.loop b)
  |none=>none
 |.exit id=>some (.exit id)
 |.ret=>some .ret
 | .rangeFunc g ps a b=>if ps.toList.all (fun t=>decide (t < N))=true then (match nB P N a,nB P N b with
  |some a,some b=>some (.rangeF (.of g) ps.toList a b)
  |_,_=>none) else none
 |_=>none
theorem pT{α:Type}{x:Option α}{A B:α->Prop}(hab:∀a,A a->B a)(h:ax x A):ax x B:=by
 cases x with
 |none=>exact h
 |some a=>exact hab a h
theorem G7{P:Program}{dm:DM}{op:Op}{i:Ins}{T:Tm}(hc:(ke P op=some i/\opk op≠.write)\/lB P op=some i)(h:dm2 dm T i=true):uz dm T op=true:=by
 cases dm with
 |text=>rfl
 |draw=>rfl
 |fresh m=>
  rcases hc with⟨hc,hk⟩|hc
  ·cases op with
   |load t a=>
    simp only[ke] at hc;split at hc
    ·split at hc
     ·split at hc
      ·cases hc;simp only[dm2,tv,bT] at h;simp only[uz,tg];exact h
      ·cases hc
     ·cases hc;simp only[dm2,tv,bT] at h;simp only[uz,tg];exact h
    ·cases hc
   |store t p x=>exact absurd rfl hk
   |_=>simpa[uz,tg] using hk
  ·cases op with
   |store t p x=>
    simp only[lB] at hc;split at hc
    ·cases hc;simp only[dm2,wG,bT] at h;simp only[uz,tg];exact h
    ·cases hc
   |alloc e=>rfl
   |box e x=>rfl
   |buildSlice t len parts=>rfl
   |makeSlice t l c=>rfl
   |call c=>
    obtain⟨callee,args,argTypes⟩:=c;cases callee with
    |builtin b=>
     obtain⟨args⟩:=args;obtain⟨argTypes⟩:=argTypes;cases b with
     |append=>
      rcases args with _|⟨x,_|⟨y,_|⟨z,l⟩⟩⟩
      ·cases hc
      ·cases hc
      ·rcases argTypes with _|⟨t,_|⟨u,_|⟨v,l⟩⟩⟩
       ·cases hc
       ·cases hc
       ·simp only[lB] at hc;split at hc
        ·cases hc
        ·split at hc
         ·cases hc;cases h
         ·split at hc
          ·split at hc
           ·split at hc
            ·cases hc;cases h
            ·cases hc
           ·cases hc
          ·cases hc
       ·cases hc
      ·cases hc
     |_=>cases hc
    |_=>cases hc
   |_=>cases hc
theorem E8{P:Program}{op:Op}{sz bytes:Nat}{s x:Opd}(h:lB P op=some (.app sz bytes s x)):∃s0 x0 tS tX e,op=.call {callee:=.builtin .append,args:=⟨[s0,x0]⟩,argTypes:=⟨[tS,tX]⟩}/\gw P tS=some e/\
    (tok P e=true/\tok P tX=true/\lS P tX=none/\0<P.cellsOf e/\zok P e=true)/\sz=P.cellsOf e/\bytes=fu P e/\s=.of s0/\x=.of x0:=by
 unfold lB at h;split at h
 ·split at h<;>cases h
 ·cases h
 ·split at h
  ·cases h
  ·split at h
   ·split at h
    ·split at h<;>cases h
    ·cases h
   ·cases h
 ·split at h
  ·cases h
  ·split at h
   ·split at h<;>cases h
   ·cases h
 ·split at h<;>cases h
 ·rename_i s0 x0 tS tX;split at h
  ·cases h
  ·rename_i e he;split at h
   ·rename_i hc;cases h;exact⟨s0,x0,tS,tX,e,rfl,he,hc,rfl,rfl,rfl,rfl⟩
   ·split at h
    ·split at h
     ·split at h<;>cases h
     ·cases h
    ·cases h
 ·cases h
theorem Jg{P:Program}{op:Op}{i:Ins}{T:Tm}{H:Hp}{nx:Nat}{K:AV->Hp->Nat->Prop}(hj:lB P op=some i)(h:Cs i T H nx K):eY P op T H nx K:=by
 unfold Cs at h;split at h
 ·obtain⟨b,n,off,len,k,cs,new,h1,h2,h3,h4,h5,h6,h7,h8,h9,k1,k2⟩:=h;obtain⟨s0,x0,tS,tX,e,rfl,he,hc,rfl,rfl,rfl,rfl⟩:=E8 hj;rw[bT] at h1 h6;exact BI he hc h1 h2 h3 h4 h5 h6 h7 h8 h9 k1 k2
 ·exact h.elim
theorem JV{P:Program}{dm:DM}{op:Op}{i:Ins}{T:Tm}{H:Hp}{nx:Nat}{K:AV->Hp->Nat->Prop}(hc:kc P op=some i)(h:bj P dm i T H nx K):tA P dm op T H nx K:=by
 unfold tA;unfold kc at hc;split at hc
 ·rename_i hk;split at hc
  ·rename_i f args hf;cases hc
   have h:(ax (qG (ov T (.of f))) fun y=>match (generalizing:=false) dm.isText with
    |false=>aX P y.1 ((args.toList.map Opd.of).map (ov T)++y.2) H λr=>K r H nx
    |true=>Fn P y.1 ((args.toList.map Opd.of).map (ov T)++y.2) H nx K)\/(dm.isText=true/\((∃b,ov T (.of f)=.yld b/\Yl P b ((args.toList.map Opd.of).map (ov T)) H nx K)\/ ∃g fs,ov T (.of f)=.bfn g fs/\Fn P g (fs++(args.toList.map Opd.of).map (ov T)) H nx K)):=h
   rw[bT,l7] at h;obtain⟨ts,rfl⟩:=oY hf;rcases h with h|⟨h1,⟨b,h2,h3⟩|⟨g,fs,h2,h3⟩⟩
   ·exact .inl h
   ·exact .inr ⟨h1,z8 h2 h3⟩
   ·exact .inr ⟨h1,zL h2 h3⟩
  ·cases hc
 ·rename_i hk;split at hc
  ·rename_i j hj;split at hc
   ·rename_i hic;cases hc
    have hoc:opc op=.val/\opk op≠.write:=by
     unfold wO at hk;split at hk
     ·cases hk
     ·rename_i hn;unfold opc;split
      ·rename_i a b c;exact absurd rfl (hn _ _ _)
      ·split at hk<;>rename_i hkk<;>(try rw[hkk])<;>first|(cases hk;done)|(exact⟨rfl,by decide⟩)
    unfold bj at h;rw[hic] at h;simp only at h;left;unfold l8;rw[hoc.1];simp only;refine⟨G7 (.inl ⟨hj,hoc.2⟩) h.1,?_⟩;have h:=h.2;cases hv:bv T H i with
    |none=>rw[hv] at h;exact h.elim
    |some r=>rw[yj hj hv];rw[hv] at h;exact h
   ·cases hc
  ·cases hc
 ·rename_i hk;split at hc
  ·rename_i j hj;split at hc
   ·rename_i hic;cases hc
    have hoc:opc op=.eff:=by
     unfold wO at hk;split at hk
     ·cases hk
     ·rename_i hn;unfold opc;split
      ·rename_i a b c;exact absurd rfl (hn _ _ _)
      ·split at hk<;>rename_i hkk<;>(try rw[hkk])<;>cases hk
    unfold bj at h;rw[hic] at h;simp only at h;rcases h with h|⟨h0,h⟩
    rotate_left
    ·exact .inr ⟨h0,Jg hj h⟩
    left;unfold l8;rw[hoc];simp only;refine⟨G7 (.inr hj) h.1,?_⟩;have h:=h.2;cases hv:kW T H nx i with
    |none=>rw[hv] at h;exact h.elim
    |some r=>rw[Dt hj hv];rw[hv] at h;exact h
   ·cases hc
  ·cases hc
 ·cases hc
theorem uv{P:Program}{dm:DM}{op:Op}{T:Tm}{H:Hp}{nx:Nat}{K:AV->Hp->Nat->Prop}(h:bj P dm (gv P op) T H nx K):tA P dm op T H nx K:=by
 unfold gv at h;split at h
 ·rename_i i hi;exact JV hi h
 ·split at h
  ·rename_i i hi;split at h
   ·rename_i hic;unfold bj at h;rw[hic] at h;exact .inr ⟨h.1,LL hi h.2⟩
   ·exact h.2.elim
  ·exact h.2.elim
theorem Gx{dsts:List (Option Nat)}{T:Tm}{g:Option (Nat×Bool)}{g':Option (Nat×Bool)}(h:HR dsts g=some g'):gval T dsts g=g2 T g':=by
 unfold HR at h;split at h
 ·cases h;rfl
 ·split at h
  ·rename_i d hd;cases h;simp only[gval,hd,g2];generalize T d=v;cases v<;>try rfl
  ·cases h
theorem gN{P:Program}{N:Nat}{dm:DM}{dsts:List (Option Nat)}{K:SP}:∀(l:List Oper)(l2:List Op2){T:Tm}{H:Hp}{nx:Nat},li P N dsts l=some l2->ai P dm l2 T H nx K->rI P N dm dsts l T H nx K
 |[],l2,T,H,nx,hc,h=>by cases hc;exact h
 |o::l,l2,T,H,nx,hc,h=>by
  simp only[li] at hc;split at hc
  ·rename_i o2 r2 ho hr;cases hc;unfold Aw at ho;split at ho
   ·rename_i hd;split at ho
    ·rename_i g hg;cases ho;refine⟨hd,?_⟩;rw[Gx hg];have h:aS (g2 T g) (bj P dm (gv P o.op) T H nx λr H nx=>ai P dm r2 (aO T o.dst r) H nx K) (ai P dm r2 (aO T o.dst (.tup [])) H nx K):=h;cases hgv:g2 T g with
     |none=>rw[hgv] at h;exact h.elim
     |some b=>
      rw[hgv] at h;cases b with
      |true=>
       have h:bj P dm (gv P o.op) T H nx λr H nx=>ai P dm r2 (aO T o.dst r) H nx K:=h;exact ky (uv h) (λr H nx hh=>gN l r2 hr hh)
      |false=>exact gN l r2 hr h
    ·cases ho
   ·cases ho
  ·cases hc
theorem Hg{P:Program}{op:Op}{T:Tm}{H:Hp}{nx:Nat}{K:AV->Hp->Nat->Prop}(h:bj P .text (gv P op) T H nx K):kd (vpP P) P op T H nx K:=by
 unfold kd;split
 ·rename_i hk0;have hk:=(rR P).pure _ hk0
  have hsome:(kc P op).isSome=true:=by
   unfold vpP at hk0;rw[lU,eL] at hk0;rcases hk0 with h|h
   ·cases op<;>first|(cases h;done)|rfl
   ·exact h.2
  obtain⟨i,hi⟩:=Er.1 hsome;unfold gv at h;rw[hi] at h;have h:bj P .text i T H nx K:=h;unfold kc at hi
  have hic:wO op=some .val:=by
   unfold wO;split
   ·simp[opk] at hk
   ·rw[hk]
  rw[hic] at hi;simp only at hi;split at hi
  ·rename_i j hj;split at hi
   ·rename_i hc;cases hi;unfold bj at h;rw[hc] at h;obtain⟨_,h⟩:=h;obtain⟨r,hr,hk⟩:=dJ h;rw[yj hj hr];exact hk
   ·cases hi
  ·cases hi
 ·exact uv h
theorem rU{P:Program}{N:Nat}{dsts:List (Option Nat)}:∀{l:List Oper}{l2:List Op2},li P N dsts l=some l2->∀{k:Nat}{o:Oper},l[k]?=some o->∃o2,l2[k]?=some o2/\Aw P N dsts o=some o2
 |[],l2,h,k,o,ho=>by simp at ho
 |x::l,l2,h,k,o,ho=>by
  simp only[li] at h;split at h
  ·rename_i o2 r2 h1 h2;cases h;cases k with
   |zero=>simp at ho;subst ho;exact⟨o2,rfl,h1⟩
   |succ k=>
    obtain⟨o3,h3,h4⟩:=rU h2 (k:=k) (o:=o) (by simpa using ho);exact⟨o3,by simpa using h3,h4⟩
  ·cases h
theorem ra{P:Program}{N:Nat}{ops:List Oper}{l:List Op2}(hl:li P N (ops.map (·.dst)) ops=some l){K:SP}:∀(C:List Nat),(∀k∈C,k<ops.length)->∀{T:Tm}{H:Hp}{nx:Nat},
    ai P .text (C.map λk=>l.getD k ⟨none,none,.dead⟩) T H nx K->np (vpP P) P N (ops.map (·.dst)) (C.map λk=>ops.getD k default) T H nx K
 |[],_,_,_,_,h=>h
 |k::C,hC,T,H,nx,h=>by
  have hk:=hC k (by simp);obtain⟨o,ho⟩:=dh hk;obtain⟨o2,ho2,hc⟩:=rU hl ho;have e1:ops.getD k default=o:=cX ho;have e2:l.getD k ⟨none,none,.dead⟩=o2:=by simp[List.getD,ho2]
  rw[f9,e1];rw[f9,e2] at h;unfold Aw at hc;split at hc
  ·rename_i hd;split at hc
   ·rename_i g hg;cases hc;refine⟨hd,?_⟩;rw[Gx hg];have h:aS (g2 T g) (bj P .text (gv P o.op) T H nx λr H nx=>ai P .text (C.map λk=>l.getD k ⟨none,none,.dead⟩) (aO T o.dst r) H nx K) (ai P .text (C.map λk=>l.getD k ⟨none,none,.dead⟩) (aO T o.dst (.tup [])) H nx K):=h;cases hgv:g2 T g with
    |none=>rw[hgv] at h;exact h.elim
    |some b=>
     rw[hgv] at h;cases b with
     |true=>
      have h:bj P .text (gv P o.op) T H nx λr H nx=>ai P .text (C.map λk=>l.getD k ⟨none,none,.dead⟩) (aO T o.dst r) H nx K:=h;exact qe (Hg h) (λr H nx hh=>ra hl C (λq hq=>hC q (by simp[hq])) hh)
     |false=>exact ra hl C (λq hq=>hC q (by simp[hq])) h
   ·cases hc
  ·cases hc
theorem KS{P:Program}{op:Op}{T:Tm}{r:AV}(hb:j9 op=true)(hc:(kc P op).isSome=true)(h:sr T (gv P op)=some r):Ab P T op=some r:=by
 obtain⟨i,hi⟩:=Er.1 hc;have hcd:gv P op=i:=by unfold gv;rw[hi]
 rw[hcd] at h;cases op<;>first|(cases hb;done)|skip
 rename_i t len parts
 have hi2:lB P (.buildSlice t len parts)=some i:=by
  unfold kc at hi;have:wO (.buildSlice t len parts)=some .eff:=rfl;rw[this] at hi;simp only at hi;split at hi
  ·rename_i j hj;split at hi
   ·cases hi;exact hj
   ·cases hi
  ·cases hi
 unfold Ab;rw[if_pos hb];unfold sr at h;split at h
 ·rename_i sz len' z parts';obtain⟨n,H',k,cs,sz1,len1,es,h1,h2⟩:=sE h;rw[Dt hi2 h1];rw[h1] at h;exact h
 ·cases h
theorem Lu{P:Program}{op:Op}{T:Tm}{S:Hp}{r:AV}(hl:tF op=true)(h:ilk T S (gv P op)=some r):lvP P op T S=some r:=by
 cases op<;>first|(cases hl;done)|skip
 rename_i t m k ok
 have e:gv P (.lookup t m k ok)=match vw P (.lookup t m k ok) with
  |some i=>if ic i=.sp then i else .dead
  |none=>.dead:=rfl
 rw[e] at h;simp only[vw] at h;unfold lvP;simp only;cases ht:oL P t with
 |none=>rw[ht] at h;cases h
 |some p=>
  obtain⟨kt,et⟩:=p;rw[ht] at h;simp only at h |-;cases hk:mkk P kt with
  |none=>rw[hk] at h;cases h
  |some mk=>
   cases hz:gJ P et with
   |none=>rw[hk,hz] at h;cases h
   |some z=>
    rw[hk,hz] at h;simp only[ic,if_true,ilk,bT] at h;exact h
theorem vK{P:Program}{bp:BP}(hlv:bp.lv=lvP P){N:Nat}{ops:List Oper}{l:List Op2}(hl:li P N (ops.map (·.dst)) ops=some l)(hld:(ops.all λo=>!kN o.op || (kc P o.op).isSome)=true)(hbd:(ops.all λo=>!(bp.b o.op&&j9 o.op) || (kc P o.op).isSome)=true){S:Hp}{K:SP}:∀(C:List Nat),(∀k∈C,k<ops.length)->∀{T:Tm}{H:Hp}{nx:Nat},
    bn P S (C.map λk=>(l.getD k ⟨none,none,.dead⟩,iB P bp ops k)) T H nx K->i9 (vpP P) bp P N (ops.map (·.dst)) S (C.map (eI bp ops)) T H nx K
 |[],_,_,_,_,h=>h
 |k::C,hC,T,H,nx,h=>by
  have hk:=hC k (by simp);obtain⟨o,ho⟩:=dh hk;obtain⟨o2,ho2,hc⟩:=rU hl ho;have e1:ops.getD k default=o:=cX ho;have e2:l.getD k ⟨none,none,.dead⟩=o2:=by simp[List.getD,ho2]
  have hrec:=λ(T:Tm)(H:Hp)(nx:Nat) hh=>vK hlv hl hld hbd (S:=S) (K:=K) C (λq hq=>hC q (by simp[hq])) (T:=T) (H:=H) (nx:=nx) hh;rw[f9];rw[f9,e2] at h;have ep:eI bp ops k=(o,gM bp ops k):=by unfold eI;rw[e1]
  have ek:iB P bp ops k=if (bp.b o.op&&j9 o.op)=true then 3 else if (bp.l&&tF o.op)=true then 4 else if sv (vpP P) o.op=true then 0 else if gM bp ops k=true then 1 else 2:=by unfold iB svP;rw[e1]
  rw[ep];rw[ek] at h;unfold Aw at hc;split at hc
  case isFalse=>cases hc
  rename_i hd;split at hc
  case h_2=>cases hc
  rename_i g hg;cases hc;refine⟨hd,?_⟩;show aS (gval T (ops.map (·.dst)) o.guard) (gX (vpP P) bp P S o.op (gM bp ops k) T H nx λr H' nx'=>i9 (vpP P) bp P N (ops.map (·.dst)) S (C.map (eI bp ops)) (aO T o.dst r) H' nx' K) (i9 (vpP P) bp P N (ops.map (·.dst)) S (C.map (eI bp ops)) (aO T o.dst (.tup [])) H nx K);rw[Gx hg];by_cases hbl:(bp.b o.op&&j9 o.op)=true
  ·rw[if_pos hbl] at h;have h:aS (g2 T g) (ax (sr T (gv P o.op)) λr=>bn P S (C.map λk=>(l.getD k ⟨none,none,.dead⟩,iB P bp ops k)) (aO T o.dst r) H nx K) (bn P S (C.map λk=>(l.getD k ⟨none,none,.dead⟩,iB P bp ops k)) (aO T o.dst (.tup [])) H nx K):=h;cases hgv:g2 T g with
   |none=>rw[hgv] at h;exact h.elim
   |some b=>
    rw[hgv] at h;cases b with
    |false=>exact hrec _ _ _ h
    |true=>
     have h:ax (sr T (gv P o.op)) λr=>bn P S (C.map λk=>(l.getD k ⟨none,none,.dead⟩,iB P bp ops k)) (aO T o.dst r) H nx K:=h;show gX (vpP P) bp P S o.op (gM bp ops k) T H nx _;unfold gX;rw[if_pos (show nv (vpP P) bp o.op=true by unfold nv;rw[hbl,Bool.or_true,Bool.true_or])];obtain⟨r,hr,hh⟩:=dJ h;rw[eL] at hbl
     have hsome:(kc P o.op).isSome=true:=by
      have:=dQ.1 hbd o (ir ho);rw[hbl.1,hbl.2] at this;simpa using this
     unfold tp;rw[if_pos (show(bp.b o.op&&j9 o.op)=true by rw[hbl.1,hbl.2];rfl),KS hbl.2 hsome hr];exact hrec _ _ _ hh
  rw[if_neg hbl] at h;by_cases hlk:(bp.l&&tF o.op)=true
  ·rw[if_pos hlk] at h;have h:aS (g2 T g) (ax (ilk T S (gv P o.op)) λr=>bn P S (C.map λk=>(l.getD k ⟨none,none,.dead⟩,iB P bp ops k)) (aO T o.dst r) H nx K) (bn P S (C.map λk=>(l.getD k ⟨none,none,.dead⟩,iB P bp ops k)) (aO T o.dst (.tup [])) H nx K):=h;cases hgv:g2 T g with
   |none=>rw[hgv] at h;exact h.elim
   |some b=>
    rw[hgv] at h;cases b with
    |false=>exact hrec _ _ _ h
    |true=>
     have h:ax (ilk T S (gv P o.op)) λr=>bn P S (C.map λk=>(l.getD k ⟨none,none,.dead⟩,iB P bp ops k)) (aO T o.dst r) H nx K:=h;show gX (vpP P) bp P S o.op (gM bp ops k) T H nx _;unfold gX;rw[if_pos (show nv (vpP P) bp o.op=true by unfold nv;rw[hlk,Bool.or_true])];obtain⟨r,hr,hh⟩:=dJ h;unfold tp;rw[if_neg hbl,if_pos hlk,hlv];rw[eL] at hlk;rw[Lu hlk.2 hr];exact hrec _ _ _ hh
  have hnv:nv (vpP P) bp o.op=sv (vpP P) o.op:=by
   unfold nv;cases hb:(bp.b o.op&&j9 o.op) with
   |true=>exact absurd hb hbl
   |false=>
    cases hb2:(bp.l&&tF o.op) with
    |true=>exact absurd hb2 hlk
    |false=>rw[Bool.or_false,Bool.or_false]
  have hnval:tp P bp T S o.op=dF P T S o.op:=by unfold tp;rw[if_neg hbl,if_neg hlk]
  rw[if_neg hlk] at h;by_cases hs:sv (vpP P) o.op=true
  ·rw[if_pos hs] at h;have h:aS (g2 T g) (ax (bv T S (gv P o.op)) λr=>bn P S (C.map λk=>(l.getD k ⟨none,none,.dead⟩,iB P bp ops k)) (aO T o.dst r) H nx K) (bn P S (C.map λk=>(l.getD k ⟨none,none,.dead⟩,iB P bp ops k)) (aO T o.dst (.tup [])) H nx K):=h;cases hgv:g2 T g with
   |none=>rw[hgv] at h;exact h.elim
   |some b=>
    rw[hgv] at h;cases b with
    |false=>exact hrec _ _ _ h
    |true=>
     have h:ax (bv T S (gv P o.op)) λr=>bn P S (C.map λk=>(l.getD k ⟨none,none,.dead⟩,iB P bp ops k)) (aO T o.dst r) H nx K:=h;show gX (vpP P) bp P S o.op (gM bp ops k) T H nx _;unfold gX;rw[if_pos (hnv.trans hs),hnval];obtain⟨r,hr,hh⟩:=dJ h
     have hsome:(kc P o.op).isSome=true:=by
      unfold sv at hs;rw[lU] at hs;rcases hs with hs|hs
      ·unfold vpP at hs;rw[lU,eL] at hs;rcases hs with h|h
       ·revert h;cases o.op<;>intro h<;>first|(cases h;done)|rfl
       ·exact h.2
      ·have:=dQ.1 hld o (ir ho);rw[hs] at this;simpa using this
     obtain⟨i,hi⟩:=Er.1 hsome;have hcd:gv P o.op=i:=by unfold gv;rw[hi]
     rw[hcd] at hr
     have hic:wO o.op=some .val:=by
      unfold sv at hs;rw[lU] at hs;rcases hs with hs|hs
      ·have hk:=(rR P).pure _ hs;unfold wO;split
       ·rename_i heq;rw[heq] at hk;simp[opk] at hk
       ·rw[hk]
      ·revert hs;cases o.op<;>intro hs<;>first|(cases hs;done)|rfl
     unfold kc at hi;rw[hic] at hi;simp only at hi;split at hi
     ·rename_i j hj;split at hi
      ·cases hi;rw[yj hj hr];exact hrec _ _ _ hh
      ·cases hi
     ·cases hi
  ·rw[if_neg hs] at h
   obtain⟨q,hq,hq2,hq3,hq4⟩:∃q,(if gM bp ops k=true then 1 else 2)=q+1/\(gM bp ops k=true->q=0)/\q≠2/\q≠3:=by
    by_cases hkk:gM bp ops k=true
    ·exact⟨0,by rw[if_pos hkk],λ_=>rfl,by omega,by omega⟩
    ·exact⟨1,by rw[if_neg hkk],λh=>absurd h hkk,by omega,by omega⟩
   rw[hq] at h;simp only[bn,if_neg hq3,if_neg hq4] at h;have h:aS (g2 T g) (bj P .text (gv P o.op) T H nx λr H' nx'=>(q=0->Sub S H')/\bn P S (C.map λk=>(l.getD k ⟨none,none,.dead⟩,iB P bp ops k)) (aO T o.dst r) H' nx' K) (bn P S (C.map λk=>(l.getD k ⟨none,none,.dead⟩,iB P bp ops k)) (aO T o.dst (.tup [])) H nx K):=h;cases hgv:g2 T g with
   |none=>rw[hgv] at h;exact h.elim
   |some b=>
    rw[hgv] at h;cases b with
    |false=>exact hrec _ _ _ h
    |true=>
     have h:bj P .text (gv P o.op) T H nx λr H' nx'=>(q=0->Sub S H')/\bn P S (C.map λk=>(l.getD k ⟨none,none,.dead⟩,iB P bp ops k)) (aO T o.dst r) H' nx' K:=h;show gX (vpP P) bp P S o.op (gM bp ops k) T H nx _;unfold gX;rw[if_neg (by rw[hnv];exact hs)];exact ky (uv h) (λr H nx hh=>⟨λhkk=>hh.1 (hq2 hkk),hrec _ _ _ hh.2⟩)
theorem tQ{P:Program}{bp:BP}(hbp:uV P bp)(hlv:bp.lv=lvP P){N:Nat}{rid:Nat}{ops:Array Oper}{l:List Op2}(hl:li P N (ops.toList.map (·.dst)) ops.toList=some l)(hmx:xD P bp N ops.toList=true){T:Tm}{H:Hp}{nx:Nat}{K:CP}
    (h:aF P (.mixS 9 l ((xm P bp ops.toList).map λk=>(k,iB P bp ops.toList k))) T H nx K):awp P N (.region rid ops true) T H nx K:=by
 unfold xD at hmx;rw[eL] at hmx;obtain⟨hld,hok⟩:=hmx;rcases h with⟨h9,_⟩|⟨T,H,nx,Hf,S,hg,hs,h⟩
 ·exact absurd rfl h9
 ·rw[List.map_map] at h;rw[dQ] at hld;refine⟨T,H,nx,Hf,hg,.inr (.inr (.inl ⟨_,bp,_,S,rR P,hbp,hok,hs,vK hlv hl ?_ ?_ _ (r8 hok).lt h⟩))⟩
  ·rw[dQ];intro o ho;have:=hld o ho;cases h1:kN o.op with
   |false=>rfl
   |true=>rw[h1] at this;simpa using this
  ·rw[dQ];intro o ho;have:=hld o ho;cases h1:(bp.b o.op&&j9 o.op) with
   |false=>rfl
   |true=>rw[h1] at this;simpa using this
theorem xY{P:Program}{N:Nat}{dsts:List (Option Nat)}:∀{ops:List Oper}{l:List Op2},li P N dsts ops=some l->l.length=ops.length
 |[],l,h=>by cases h;rfl
 |o::ops,l,h=>by
  unfold li at h;split at h
  ·rename_i o2 l2 _ h2;cases h;rw[ig,ig,xY h2]
  ·cases h
theorem Na{P:Program}{N:Nat}{rid:Nat}{ops:Array Oper}{l:List Op2}(hl:li P N (ops.toList.map (·.dst)) ops.toList=some l)(hok:xr ops.toList=true){T:Tm}{H:Hp}{nx:Nat}{K:CP}
    (h:aF P (.anyI l (L9 ops.toList)) T H nx K):awp P N (.region rid ops true) T H nx K:=by
 obtain⟨T,H,nx,Hf,I,hg,h0,h1,h2⟩:=h;have hlen:l.length=ops.toList.length:=xY hl;refine⟨T,H,nx,Hf,hg,.inr (.inr (.inr (.inr ⟨I,hok,⟨h0,λi L T H nx hi hL hb hI=>?_,λL T H nx hall hI=>h2 L T H nx (λk hk=>hall k (by omega)) hI⟩⟩)))⟩
 have h3:=h1 i L T H nx (by omega) hL (fun k hk=>by
  unfold L9 at hk;rw[ng,ko,List.getElem?_range hi] at hk;simp only[ny,tC,ik,eM] at hk;exact hb k hk.1 hk.2) hI
 exact Bj (rR P) (ra hl [i] (λk hk=>by rw[gH.1 hk];exact hi) h3)
theorem iI{P:Program}{N:Nat}(hm:P.follows .mixedOrders=true):∀(c:Code)(c2:C2){T:Tm}{H:Hp}{nx:Nat}{K:CP},nB P N c=some c2->aF P c2 T H nx K->awp P N c T H nx K
 |.skip,c2,_,_,_,_,hc,h=>by cases hc;exact h
 |.label _,c2,_,_,_,_,hc,h=>by cases hc;exact h
 |.exit _,c2,_,_,_,_,hc,h=>by cases hc;exact h
 |.ret,c2,_,_,_,_,hc,h=>by cases hc;exact h
 |.region _ ops draw,c2,_,_,_,_,hc,h=>by
  simp only[nB] at hc;split at hc
  ·rename_i l hl;cases draw with
   |true=>
    simp only[if_true] at hc;split at hc
    ·rename_i hmx;cases hc;unfold KT at hmx;rw[eL] at hmx;exact tQ wa rfl hl hmx.2 h
    split at hc
    ·rename_i hmx;cases hc;unfold Ni at hmx;rw[eL] at hmx;obtain⟨_,hok⟩:=hmx;rcases h with⟨h9,T,H,nx,Hf,hg,h⟩|⟨T,H,nx,Hf,hg,h⟩
     ·refine⟨T,H,nx,Hf,hg,.inl ?_⟩;split at h9
      ·exact absurd rfl h9
      ·rename_i ho;rw[if_neg ho] at h;split at h9
       ·rename_i hd;rw[if_pos hd] at h |-;exact gN _ _ hl h
       ·rename_i hd;rw[if_neg hd] at h |-;split at h9
        ·rename_i hd2;rw[if_pos hd2] at h;exact⟨hd2,gN _ _ hl h⟩
        ·exact absurd rfl h9
     ·exact⟨T,H,nx,Hf,hg,.inr (.inl ⟨_,_,rR P,hok,ra hl _ (Bc hok).lt h⟩)⟩
    ·split at hc
     ·rename_i hmx;cases hc;unfold Lh at hmx;rw[eL,eL] at hmx;obtain⟨⟨_,hld⟩,hok⟩:=hmx;rcases h with⟨h9,T,H,nx,Hf,hg,h⟩|⟨T,H,nx,Hf,S,hg,hs,h⟩
      ·refine⟨T,H,nx,Hf,hg,.inl ?_⟩;split at h9
       ·exact absurd rfl h9
       ·rename_i ho;rw[if_neg ho] at h;split at h9
        ·rename_i hd;rw[if_pos hd] at h |-;exact gN _ _ hl h
        ·rename_i hd;rw[if_neg hd] at h |-;split at h9
         ·rename_i hd2;rw[if_pos hd2] at h;exact⟨hd2,gN _ _ hl h⟩
         ·exact absurd rfl h9
      ·rw[List.map_map] at h;exact⟨T,H,nx,Hf,hg,.inr (.inr (.inl ⟨_,bpF P (λ_=>false) false,_,S,rR P,wa,hok,hs,vK rfl hl hld (dQ.2 λ_ _=>rfl) _ (r8 hok).lt h⟩))⟩
     split at hc
     ·rename_i hmx;cases hc;unfold Li at hmx;rw[eL] at hmx;exact tQ wa rfl hl hmx.2 h
     split at hc
     ·rename_i hmx;cases hc;unfold OM at hmx;rw[eL,eL] at hmx;exact Na hl hmx.2.1 h
     split at hc
     ·rename_i hd;cases hc;obtain⟨T,H,nx,Hf,hg,h⟩:=h;refine⟨T,H,nx,Hf,hg,?_⟩;simp only;rw[if_pos hd];exact .inl (gN _ _ hl h)
     ·rename_i hd;split at hc
      ·rename_i hmx;cases hc;rw[eL] at hmx;exact tQ wa rfl hl hmx.2 h
      split at hc
      ·rename_i hd2;cases hc;obtain⟨T,H,nx,Hf,hg,h⟩:=h;refine⟨T,H,nx,Hf,hg,?_⟩;simp only;rw[if_neg hd];exact .inl ⟨hd2,gN _ _ hl h⟩
      ·split at hc
       ·rename_i hmx;cases hc;exact tQ wa rfl hl hmx h
       ·cases hc
   |false=>
    simp only[dX,if_false] at hc;cases hc;obtain⟨T,H,nx,Hf,hg,h⟩:=h;exact⟨T,H,nx,Hf,hg,gN _ _ hl h⟩
  ·cases hc
 |.seq a b,c2,_,_,_,K,hc,h=>by
  simp only[nB] at hc;split at hc
  ·rename_i a2 b2 ha hb;cases hc;refine gg a (iI hm a a2 ha h) (λe T H nx h=>?_);cases e with
   |normal=>exact iI hm b b2 hb h
   |exit i=>exact h
   |ret=>exact h
  ·cases hc
 |.cond c a b,c2,_,_,_,K,hc,h=>by
  simp only[nB] at hc;split at hc
  ·rename_i a2 b2 ha hb;cases hc;simp only[aF,bT] at h;simp only[awp];unfold a8 at h |-;split at h
   ·exact⟨λhh=>iI hm a a2 ha (h.1 hh),λhh=>iI hm b b2 hb (h.2 hh)⟩
   ·exact h
  ·cases hc
 |.block id b,c2,_,_,_,K,hc,h=>by
  simp only[nB] at hc;split at hc
  ·rename_i b2 hb;cases hc;exact iI hm b b2 hb h
  ·cases hc
 |.loop b,c2,T,H,nx,K,hc,h=>by
  simp only[nB] at hc;split at hc
  ·rename_i b2 hb;cases hc;obtain⟨n,h⟩:=h;refine⟨n,?_⟩
   induction n generalizing T H nx with
   |zero=>exact h
   |succ n ih=>
    obtain⟨T',H',nx',Hf,hg,h⟩:=h;refine⟨T',H',nx',Hf,hg,gg b (iI hm b b2 hb h) (λe T H nx h=>?_)⟩;cases e with
    |normal=>exact ih _ _ _ h
    |exit i=>exact h
    |ret=>exact h
  ·cases hc
 |.rangeFunc g ps a b,c2,T,H,nx,K,hc,h=>by
  simp only[nB] at hc;split at hc
  case isFalse=>cases hc
  case isTrue hps=>
  split at hc
  ·rename_i a2 b2 ha hb;cases hc;obtain⟨f,caps,h1,h2⟩:=h;rw[bT] at h1;show RF P N _ T H nx K;refine Ot h1 (λr hr=>?_);refine h2 (.oloop r T) (x8 r T) (λargs H' nx' K' hH hl hw=>?_);refine Yl.of_awp hr hm (λt ht=>by simpa using dQ.1 hps t ht) hH (by simpa using hl) (gg a (iI hm a a2 ha hw) (λe T2 H2 nx2 h=>?_));cases e with
   |normal=>exact⟨h.1,iI hm b b2 hb h.2⟩
   |exit i=>exact h
   |ret=>exact h
  ·cases hc
 |.scope _,_,_,_,_,_,hc,_=>by cases hc
 |.goto _,_,_,_,_,_,hc,_=>by cases hc
 |.refuse _,_,_,_,_,_,hc,_=>by cases hc
inductive RV where
 |t (n:Nat)
 |c1 (n:Nat)
 |cn (n k:Nat)
structure F2 where
 n:Nat
 res:List RV
 body:C2
def jX(P:Program):List ResultVar->Option (List RV)
 |[]=>some []
 |.tmp t::l=>match jX P l with|some l=>some (.t t::l)|none=>none
 | .cell a t :: l=>if tok P t=true then (match jX P l with
  |some l=>if sf P t=true then(if 0<P.cellsOf t then some (.cn a (P.cellsOf t)::l) else none) else some (.c1 a::l)
  |none=>none) else none
def zB(P:Program)(fn:Func):Option F2:=
 match fn.body with
 |some c=>if fn.name== "runtime.NumGoroutine" then none else match nB P fn.ntmps c,jX P fn.results.toList with
  |some b,some r=>some ⟨fn.ntmps,r,b⟩
  |_,_=>none
 |none=>none
def rv(T:Tm)(H:Hp):RV->Option AV
 |.t n=>some (T n)
 |.c1 n=>rd1 H (T n)
 |.cn n k=>(rd H k (T n)).map .agg
def A9(T:Tm)(H:Hp):List RV->(List AV->Prop)->Prop
 |[],K=>K []
 |a::l,K=>ax (rv T H a) λx=>A9 T H l λxs=>K (x::xs)
def bm(T:Tm)(H:Hp)(K:AV->Prop):List RV->Prop
 |[a]=>ax (rv T H a) K
 |[a,b]=>ax (rv T H a) λx=>ax (rv T H b) λy=>K (.tup [x,y])
 |[a,b,c]=>ax (rv T H a) λx=>ax (rv T H b) λy=>ax (rv T H c) λz=>K (.tup [x,y,z])
 |[]=>K (.tup [])
 |a::b::c::d::l=>A9 T H (a::b::c::d::l) λxs=>K (.tup xs)
theorem uC{P:Program}{T:Tm}{H:Hp}{r:ResultVar}{l:List ResultVar}{x:RV}{xs:List RV}{v:AV}(h:jX P (r::l)=some (x::xs))(hv:rv T H x=some v):
    jX P l=some xs/\mU P T H (r::l)=(match mU P T H l with|some ys=>some (v::ys)|none=>none):=by
 cases r with
 |tmp t=>
  simp only[jX] at h;split at h
  ·rename_i ys hy;cases h;cases hv;exact⟨hy,rfl⟩
  ·cases h
 |cell a t=>
  simp only[jX] at h;split at h
  ·rename_i h1;split at h
   ·rename_i ys hy;split at h
    ·rename_i h2;split at h
     ·rename_i h3;cases h;refine⟨hy,?_⟩;simp only[rv] at hv;simp only[mU,lF,h1,h2,if_true,if_pos h3,hv];cases mU P T H l<;>rfl
     ·cases h
    ·rename_i h2;cases h;refine⟨hy,?_⟩;simp only[rv] at hv;simp only[mU,lF,h1,h2,if_true,hv];cases mU P T H l<;>rfl
   ·cases h
  ·cases h
theorem mA{P:Program}{l:List ResultVar}(h:jX P l=some []):l=[]:=by
 cases l with
 |nil=>rfl
 |cons r l=>
  cases r with
  |tmp t=>simp only[jX] at h;split at h<;>cases h
  |cell a t=>
   simp only[jX] at h;split at h
   ·split at h
    ·split at h
     ·split at h<;>cases h
     ·cases h
    ·cases h
   ·cases h
theorem iR{P:Program}{l:List ResultVar}{x:RV}{xs:List RV}(h:jX P l=some (x::xs)):∃r l',l=r::l':=by
 cases l with
 |nil=>cases h
 |cons r l=>exact⟨r,l,rfl⟩
theorem DJ{P:Program}{T:Tm}{H:Hp}:∀{r:List RV}{l:List ResultVar}{K:List AV->Prop},jX P l=some r->A9 T H r K->∃xs,mU P T H l=some xs/\xs.length=r.length/\K xs
 |[],l,K,h,hk=>by
  have:=mA h;subst this;exact⟨[],rfl,rfl,hk⟩
 |a::r,l,K,h,hk=>by
  obtain⟨r1,l1,rfl⟩:=iR h;have hk:ax (rv T H a) λx=>A9 T H r λxs=>K (x::xs):=hk;cases hv:rv T H a with
  |none=>rw[hv] at hk;exact hk.elim
  |some v=>
   rw[hv] at hk;obtain⟨h1,e1⟩:=uC h hv;obtain⟨xs,h2,h3,h4⟩:=DJ h1 hk;exact⟨v::xs,by rw[e1,h2],by simp[h3],h4⟩
theorem y9{P:Program}{T:Tm}{H:Hp}{K:AV->Prop}{l:List ResultVar}{r:List RV}(h:jX P l=some r)(hk:bm T H K r):ax (ma P T H l) K:=by
 have one:∀{x:RV}{K':AV->Prop},ax (rv T H x) K'->∃v,rv T H x=some v/\K' v:=by
  intro x K' h;cases hv:rv T H x with
  |none=>rw[hv] at h;exact h.elim
  |some v=>rw[hv] at h;exact⟨v,rfl,h⟩
 rcases r with _|⟨a,_|⟨b,_|⟨c,_|⟨d,r⟩⟩⟩⟩
 ·have:=mA h;subst this;exact hk
 ·obtain⟨r1,l1,rfl⟩:=iR h;obtain⟨v,hv,hk⟩:=one hk;obtain⟨h1,e1⟩:=uC h hv;have:=mA h1;subst this;simp only[ma,e1,mU];exact hk
 ·obtain⟨r1,l1,rfl⟩:=iR h;obtain⟨v,hv,hk⟩:=one hk;obtain⟨h1,e1⟩:=uC h hv;obtain⟨r2,l2,rfl⟩:=iR h1;obtain⟨v2,hv2,hk⟩:=one hk;obtain⟨h2,e2⟩:=uC h1 hv2;have:=mA h2;subst this;simp only[ma,e1,e2,mU];exact hk
 ·obtain⟨r1,l1,rfl⟩:=iR h;obtain⟨v,hv,hk⟩:=one hk;obtain⟨h1,e1⟩:=uC h hv;obtain⟨r2,l2,rfl⟩:=iR h1;obtain⟨v2,hv2,hk⟩:=one hk;obtain⟨h2,e2⟩:=uC h1 hv2;obtain⟨r3,l3,rfl⟩:=iR h2;obtain⟨v3,hv3,hk⟩:=one hk;obtain⟨h3,e3⟩:=uC h2 hv3;have:=mA h3;subst this;simp only[ma,e1,e2,e3,mU];exact hk
 ·have hk:A9 T H (a::b::c::d::r) λxs=>K (.tup xs):=hk;obtain⟨xs,h1,h2,h3⟩:=DJ h hk;unfold ma;rw[h1];rcases xs with _|⟨x,_|⟨y,xs⟩⟩
  ·simp at h2
  ·simp at h2
  ·exact h3
structure Is(P:Program)(f:FuncId)(F:F2):Prop where
 out:∃fn,P.funcs[f]?=some fn/\zB P fn=some F
theorem Is.mk'{P:Program}{f:FuncId}{F:F2}{fn:Func}(h1:P.funcs[f]?=some fn)(h2:zB P fn=some F):Is P f F:=⟨fn,h1,h2⟩
theorem Is.cok{P:Program}{f:FuncId}{F:F2}(h:Is P f F):cok P f=true:=by
 obtain⟨fn,h1,h2⟩:=h.out;unfold zB at h2;split at h2
 ·rename_i c hc;split at h2
  ·cases h2
  ·rename_i hn;unfold Go.Abs.cok;simp only[h1,hc,Option.isSome_some,Bool.true_and,Bool.not_eq_true'];simpa using hn
 ·cases h2
theorem Is.bodyOk{P:Program}{f:FuncId}{F:F2}(h:Is P f F)(hm:P.follows .mixedOrders=true){args:List AV}{H:Hp}{nx:Nat}{K:AV->Hp->Nat->Prop}(hl:args.length<=F.n)
    (hb:aF P F.body (T0 args) H nx λe T H nx=>aM e.ends (bm T H (λx=>K x H nx) F.res)):∃fn,P.funcs[f]?=some fn/\yp P fn args H nx K:=by
 obtain⟨fn,h1,h2⟩:=h.out;refine⟨fn,h1,?_⟩;unfold zB at h2;split at h2
 ·rename_i c hc;split at h2
  ·cases h2
  ·split at h2
   ·rename_i b r hb' hr;cases h2;exact⟨c,hc,hl,gg c (iI hm c b hb' hb) (λe T H nx hh=>⟨hh.1,y9 hr hh.2⟩)⟩
   ·cases h2
 ·cases h2
theorem Pure.of_c2{P:Program}{f:FuncId}{F:F2}{args:List AV}{r:AV}(hm:P.follows .mixedOrders=true)(hf:Is P f F)(hl:args.length<=F.n)
    (hb:aF P F.body (T0 args) aP 0 λe T H nx=>aM e.ends (bm T H (λx=>Snap H x r) F.res)):Pure P f args r:=by
 obtain⟨fn,h1,h2⟩:=hf.bodyOk hm (K:=λx H nx=>Snap H x r) hl hb;exact Pure.of_body hm h1 hf.cok h2
theorem Fn.of_c2{P:Program}{f:FuncId}{F:F2}{args:List AV}{H:Hp}{nx:Nat}{K:AV->Hp->Nat->Prop}(hm:P.follows .mixedOrders=true)(hf:Is P f F)(hl:args.length<=F.n)
    (hb:aF P F.body (T0 args) H nx λe T H nx=>aM e.ends (bm T H (λx=>K x H nx) F.res)):Fn P f args H nx K:=by
 obtain⟨fn,h1,h2⟩:=hf.bodyOk hm (K:=K) hl hb;exact Fn.of_body hm h1 hf.cok h2
theorem PureF.of_c2{P:Program}{f:FuncId}{F:F2}{args:List AV}{r:AV}(hm:P.follows .mixedOrders=true)(hf:Is P f F)(hl:args.length<=F.n)
    (hb:aF P F.body (T0 args) aP 0 λe T H nx=>aM e.ends (bm T H (λx=>SnapF H x r) F.res)):PureF P f args r:=
 PureF.of_fn (Fn.of_c2 hm hf hl hb)
end Go.Abs
