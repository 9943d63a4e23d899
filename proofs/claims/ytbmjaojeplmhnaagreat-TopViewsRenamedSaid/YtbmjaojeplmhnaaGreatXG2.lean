/- Contracts of functions and plain laws, for all inputs that the theorems name. -/
import Derived.Test.YtbmjaojeplmhnaaGreatXG1
import Derived.RangeFuncLeaves
import Derived.RangeFuncRecord
import Derived.RangeFuncNested
import Derived.Laws.IdiomStrings
import Derived.Laws.BytesArg

set_option linter.unusedSimpArgs false
set_option linter.unusedVariables false
set_option maxHeartbeats 4000000
namespace Go.Abs
open Go.RowKit
def Hi:Op->Bool
 |.move _|.assign _=>true
 |_=>false
theorem CO{op:Op}(h:Hi op=true):opk op=.pure:=by
 cases op<;>first|(cases h;done)|rfl
structure VP(vp:Op->Bool):Prop where
 pure:∀op,vp op=true->opk op=.pure
 mov:∀op,Hi op=true->vp op=true
def j7(vp:Op->Bool)(P:Program)(op:Op)(T:Tm)(H:Hp)(nx:Nat)(K:AV->Hp->Nat->Prop):Prop:=
 if vp op=true then ax (dG P T H op) λr=>K r H nx else tB P .text op T H nx K
def pB(vp:Op->Bool)(P:Program)(n:Nat)(dsts:List (Option Nat))(o:Oper)(T:Tm)(H:Hp)(nx:Nat)(K:SP):Prop:=
 aM (dok n o.dst) (aS (gval T dsts o.guard) (j7 vp P o.op T H nx λr H' nx'=>K (aP T o.dst r) H' nx') (K (aP T o.dst (.tup [])) H nx))
def nk(vp:Op->Bool)(P:Program)(n:Nat)(dsts:List (Option Nat)):List Oper->Tm->Hp->Nat->SP->Prop
 |[],T,H,nx,K=>K T H nx
 |o::l,T,H,nx,K=>pB vp P n dsts o T H nx λT H nx=>nk vp P n dsts l T H nx K
theorem dK{α:Type}{x:Option α}{K:α->Prop}(h:ax x K):∃a,x=some a/\K a:=by
 cases x with
 |none=>exact h.elim
 |some a=>exact⟨a,rfl,h⟩
theorem Av{op:Op}(h:opk op=.pure):opc op=.val:=by
 unfold opc;split
 ·simp[opk] at h
 ·rw[h]
theorem B8{vp:Op->Bool}(hv:VP vp){P:Program}{op:Op}{T:Tm}{H:Hp}{nx:Nat}{K:AV->Hp->Nat->Prop}(h:j7 vp P op T H nx K):tB P .text op T H nx K:=by
 unfold j7 at h;split at h
 ·rename_i hp;left;unfold l7;rw[Av (hv.pure _ hp)];exact⟨rfl,h⟩
 ·exact h
theorem Bo{vp:Op->Bool}(hv:VP vp){P:Program}{n:Nat}{dsts:List (Option Nat)}{o:Oper}{T:Tm}{H:Hp}{nx:Nat}{K:SP}(h:pB vp P n dsts o T H nx K):aop P n .text dsts o T H nx K:=by
 refine⟨h.1,?_⟩;have h:=h.2;cases hg:gval T dsts o.guard with
 |none=>rw[hg] at h;exact h.elim
 |some b=>
  rw[hg] at h;cases b with
  |true=>exact B8 hv h
  |false=>exact h
theorem qe{vp:Op->Bool}{P:Program}{op:Op}{T:Tm}{H:Hp}{nx:Nat}{K K':AV->Hp->Nat->Prop}(h:j7 vp P op T H nx K)(hK:∀r H nx,K r H nx->K' r H nx):j7 vp P op T H nx K':=by
 unfold j7 at h |-;split
 ·rename_i hp;rw[if_pos hp] at h;obtain⟨a,ha,hk⟩:=dK h;rw[ha];exact hK _ _ _ hk
 ·rename_i hp;rw[if_neg hp] at h;exact ko h hK
theorem sd{vp:Op->Bool}{P:Program}{n:Nat}{dsts:List (Option Nat)}{o:Oper}{T:Tm}{H:Hp}{nx:Nat}{K K':SP}(h:pB vp P n dsts o T H nx K)(hK:∀r H nx,K (aP T o.dst r) H nx->K' (aP T o.dst r) H nx):pB vp P n dsts o T H nx K':=by
 refine⟨h.1,?_⟩;have h:=h.2;cases hg:gval T dsts o.guard with
 |none=>rw[hg] at h;exact h.elim
 |some b=>
  rw[hg] at h;cases b with
  |true=>exact qe (K:=λr H' nx'=>K (aP T o.dst r) H' nx') h (λr H nx=>hK r H nx)
  |false=>exact hK _ _ _ h
theorem vS{vp:Op->Bool}{P:Program}{n:Nat}{dsts:List (Option Nat)}{K K':SP}(hK:∀T H nx,K T H nx->K' T H nx):∀(l:List Oper){T:Tm}{H:Hp}{nx:Nat},nk vp P n dsts l T H nx K->nk vp P n dsts l T H nx K'
 |[],_,_,_,h=>hK _ _ _ h
 |o::l,_,_,_,h=>sd h (λ_ _ _=>vS hK l)
def lq(ops:List Oper)(o:Oper)(T T':Tm):Prop:=∀t,t∈o.looksAt ops.toArray->T t=T' t
theorem lq.ev{ops:List Oper}{o:Oper}{T T':Tm}(h:lq ops o T T'):∀x∈o.op.operands,ev T x=ev T' x:=by
 intro x hx;refine Bm λt e=>?_;subst e;refine h t ?_;unfold Oper.looksAt;exact qD _ (List.mem_filterMap.2 ⟨.tmp t,by simpa using hx,rfl⟩)
theorem lq.gval{ops:List Oper}{o:Oper}{T T':Tm}(h:lq ops o T T'):gval T (ops.map (·.dst)) o.guard=gval T' (ops.map (·.dst)) o.guard:=by
 unfold Go.Abs.gval;cases hg:o.guard with
 |none=>rfl
 |some p=>
  obtain⟨j,want⟩:=p;simp only;cases hd:(ops.map (·.dst))[j]? with
  |none=>rfl
  |some d=>
   cases d with
   |none=>rfl
   |some d=>
    have:T d=T' d:=by
     refine h d ?_;unfold Oper.looksAt;refine wA _ ?_;rw[hg];rw[kf] at hd;cases ho:ops[j]? with
     |none=>rw[ho] at hd;cases hd
     |some o'=>rw[ho] at hd;simp at hd;simp[hd,ho]
    simp only[this]
theorem lq.upd{ops:List Oper}{o:Oper}{T:Tm}{d:Option Nat}{v:AV}(h:∀t,d=some t->t∉o.looksAt ops.toArray):lq ops o T (aP T d v):=by
 intro t ht;cases d with
 |none=>rfl
 |some d=>
  have:t≠d:=λe=>h d rfl (by rw[<-e];exact ht);simp[aP,Go.Abs.upd,this]
theorem sT{P:Program}{op:Op}{T T':Tm}{H:Hp}{nx:Nat}{K:AV->Hp->Nat->Prop}(he:∀x∈op.operands,ev T x=ev T' x)(h:l7 P .text op T H nx K):l7 P .text op T' H nx K:=by
 unfold l7 at h |-;generalize opc op=k at h |-;cases k with
 |val=>
  have h:aM (uv .text T op) (ax (dG P T H op) λr=>K r H nx):=h;show aM (uv .text T' op) (ax (dG P T' H op) λr=>K r H nx);rw[<-jo he];exact h
 |eff=>
  have h:aM (uv .text T op) (ax (gY P T H nx op) λx=>K x.1 x.2.1 x.2.2):=h;show aM (uv .text T' op) (ax (gY P T' H nx op) λx=>K x.1 x.2.1 x.2.2);rw[<-pZ he];exact h
 |call=>
  have h:ax (nL op) λx=>ax (qG (ev T x.1)) λy=>Fn P y.1 (x.2.toList.map (ev T)++y.2) H nx K:=h;show ax (nL op) λx=>ax (qG (ev T' x.1)) λy=>Fn P y.1 (x.2.toList.map (ev T')++y.2) H nx K;obtain⟨x,hx,h⟩:=dK h;rw[hx];obtain⟨f,args⟩:=x;obtain⟨ts,rfl⟩:=oX hx;simp only[Op.operands,Call.operands] at he;have e1:ev T f=ev T' f:=he f (zq.2 (.inl (by simp)));have e2:args.toList.map (ev T)=args.toList.map (ev T'):=pz λx hm=>he x (zq.2 (.inr (by simpa using hm)));show ax (qG (ev T' f)) λy=>Fn P y.1 (args.toList.map (ev T')++y.2) H nx K;rw[<-e1,<-e2];exact h
 |other=>exact h.elim
theorem tc{P:Program}{op:Op}{T T':Tm}{H:Hp}{nx:Nat}{K:AV->Hp->Nat->Prop}(he:∀x∈op.operands,ev T x=ev T' x)(h:eY P op T H nx K):eY P op T' H nx K:=
 ⟨h.1,λrr E w a o next Q ho hE hh hf ht hn=>h.2 rr E w a o next Q ho hE hh hf (λx hx=>by rw[he x hx];exact ht x hx) hn⟩
theorem A9{vp:Op->Bool}{P:Program}{op:Op}{T T':Tm}{H:Hp}{nx:Nat}{K:AV->Hp->Nat->Prop}(he:∀x∈op.operands,ev T x=ev T' x)(h:j7 vp P op T H nx K):j7 vp P op T' H nx K:=by
 unfold j7 at h |-;split
 ·rename_i hp;rw[if_pos hp] at h;rw[<-jo he];exact h
 ·rename_i hp;rw[if_neg hp] at h;rcases h with h|h
  ·exact .inl (sT he h)
  ·exact .inr ⟨h.1,tc he h.2⟩
theorem xQ{T:Tm}{d e:Option Nat}{v r:AV}(h:∀t,d=some t->e≠some t):aP (aP T e r) d v=aP (aP T d v) e r:=by
 cases d with
 |none=>rfl
 |some d=>
  cases e with
  |none=>rfl
  |some e=>
   have hne:d≠e:=λhh=>h d rfl (by rw[hh])
   funext t
   simp only[aP,Go.Abs.upd];by_cases h1:t=d
   ·subst h1;rw[if_pos rfl,if_neg hne,if_pos rfl]
   ·rw[if_neg h1,if_neg h1]
structure Free(vp:Op->Bool)(ops:List Oper)(x o:Oper):Prop where
 d:∀t,o.dst=some t->x.dst≠some t
 l1:∀t,o.dst=some t->t∉x.looksAt ops.toArray
 l2:∀t,x.dst=some t->t∉o.looksAt ops.toArray
 k:vp x.op=true
def Cl(P:Program)(dsts:List (Option Nat))(o:Oper)(T:Tm)(H:Hp):Option AV:=match gval T dsts o.guard with
 |some true=>dG P T H o.op
 |some false=>some (.tup [])
 |none=>none
theorem FQ{vp:Op->Bool}{P:Program}{n:Nat}{dsts:List (Option Nat)}{o:Oper}{T:Tm}{H:Hp}{nx:Nat}{K:SP}(hp:vp o.op=true)(h:pB vp P n dsts o T H nx K):∃v,Cl P dsts o T H=some v/\K (aP T o.dst v) H nx:=by
 obtain⟨_,h⟩:=h;unfold Cl;cases hg:gval T dsts o.guard with
 |none=>rw[hg] at h;exact h.elim
 |some b=>
  rw[hg] at h;cases b with
  |true=>
   have h:j7 vp P o.op T H nx λr H' nx'=>K (aP T o.dst r) H' nx':=h;unfold j7 at h;rw[if_pos hp] at h;exact dK h
  |false=>exact⟨_,rfl,h⟩
theorem zw{vp:Op->Bool}{P:Program}{n:Nat}{dsts:List (Option Nat)}{o:Oper}{T:Tm}{H:Hp}{nx:Nat}{K:SP}(hp:vp o.op=true)(hd:dok n o.dst=true){v:AV}(hv:Cl P dsts o T H=some v)(hk:K (aP T o.dst v) H nx):pB vp P n dsts o T H nx K:=by
 refine⟨hd,?_⟩;unfold Cl at hv;cases hg:gval T dsts o.guard with
 |none=>rw[hg] at hv;cases hv
 |some b=>
  rw[hg] at hv;cases b with
  |true=>
   show j7 vp P o.op T H nx _;unfold j7;rw[if_pos hp];have hv:dG P T H o.op=some v:=hv;rw[hv];exact hk
  |false=>cases hv;exact hk
theorem BD{P:Program}{ops:List Oper}{o:Oper}{T T':Tm}{H H':Hp}(hp:opk o.op=.pure)(ha:lq ops o T T'):Cl P (ops.map (·.dst)) o T H=Cl P (ops.map (·.dst)) o T' H':=by
 unfold Cl;rw[ha.gval];cases gval T' (ops.map (·.dst)) o.guard with
 |none=>rfl
 |some b=>
  cases b with
  |true=>simp only;rw[jo ha.ev,rH hp]
  |false=>rfl
theorem P0{vp:Op->Bool}(hvp:VP vp){P:Program}{n:Nat}{ops:List Oper}{x o:Oper}{T:Tm}{H:Hp}{nx:Nat}{K:SP}(hf:Free vp ops x o)
    (h:pB vp P n (ops.map (·.dst)) x T H nx λT1 H1 nx1=>pB vp P n (ops.map (·.dst)) o T1 H1 nx1 K):pB vp P n (ops.map (·.dst)) o T H nx λT1 H1 nx1=>pB vp P n (ops.map (·.dst)) x T1 H1 nx1 K:=by
 have hpk:=hvp.pure _ hf.k;have hdx:=h.1;obtain⟨r,hr,h⟩:=FQ hf.k h;have ha:lq ops o T (aP T x.dst r):=lq.upd hf.l2
 have hx:∀(q:AV)(H1:Hp)(nx1:Nat),K (aP (aP T x.dst r) o.dst q) H1 nx1->pB vp P n (ops.map (·.dst)) x (aP T o.dst q) H1 nx1 K:=by
  intro q H1 nx1 hk;refine zw hf.k hdx (v:=r) ?_ ?_
  ·rw[<-hr];exact(BD hpk (lq.upd hf.l1)).symm
  ·rw[<-xQ hf.d];exact hk
 obtain⟨hdo,h⟩:=h;refine⟨hdo,?_⟩;rw[ha.gval];cases hg:gval (aP T x.dst r) (ops.map (·.dst)) o.guard with
 |none=>rw[hg] at h;exact h.elim
 |some b=>
  rw[hg] at h;cases b with
  |true=>
   have h:j7 vp P o.op (aP T x.dst r) H nx λq H' nx'=>K (aP (aP T x.dst r) o.dst q) H' nx':=h;exact qe (A9 (λy hy=>(ha.ev y hy).symm) h) (λq H' nx' hk=>hx q H' nx' hk)
  |false=>exact hx _ _ _ h
theorem Lb{vp:Op->Bool}(hvp:VP vp){P:Program}{n:Nat}{ops:List Oper}{o:Oper}{l2:List Oper}{K:SP}:∀(l1:List Oper){T:Tm}{H:Hp}{nx:Nat},(∀x∈l1,Free vp ops x o)->
    nk vp P n (ops.map (·.dst)) (l1++o::l2) T H nx K->pB vp P n (ops.map (·.dst)) o T H nx λT H nx=>nk vp P n (ops.map (·.dst)) (l1++l2) T H nx K
 |[],_,_,_,_,h=>h
 |x::l1,T,H,nx,hf,h=>by
  have h:pB vp P n (ops.map (·.dst)) x T H nx λT H nx=>nk vp P n (ops.map (·.dst)) (l1++o::l2) T H nx K:=h
  have h:pB vp P n (ops.map (·.dst)) x T H nx λT H nx=>pB vp P n (ops.map (·.dst)) o T H nx λT H nx=>nk vp P n (ops.map (·.dst)) (l1++l2) T H nx K:=
   sd h (λr H1 nx1 h=>Lb hvp l1 (λy hy=>hf y (by simp[hy])) h)
  exact P0 hvp (hf x (by simp)) h
def HN(vp:Op->Bool)(ops:List Oper)(x o:Oper):Bool:=
 (match o.dst with|some t=>x.dst !=some t&& !(x.looksAt ops.toArray).contains t|none=>true)&&
 (match x.dst with|some t=>!(o.looksAt ops.toArray).contains t|none=>true)&&vp x.op
theorem HK{vp:Op->Bool}{ops:List Oper}{x o:Oper}(h:HN vp ops x o=true):Free vp ops x o:=by
 unfold HN at h;simp only[eN] at h;obtain⟨⟨h1,h2⟩,h3⟩:=h;refine⟨λt ht=>?_,λt ht=>?_,λt ht=>?_,h3⟩
 ·rw[ht] at h1;simp at h1;exact h1.1
 ·rw[ht] at h1;simp at h1;exact h1.2
 ·rw[ht] at h2;simp at h2;exact h2
def sg(r:Nat->Nat->Bool):List Nat->Bool
 |[]=>true
 |k::l=>l.all (r k)&&sg r l
theorem oZ{r:Nat->Nat->Bool}:∀{l:List Nat},sg r l=true->l.Pairwise (λk i=>r k i=true)
 |[],_=>Gm
 |k::l,h=>by
  simp only[sg,eN,dS] at h;exact List.Pairwise.cons h.1 (oZ h.2)
def zJ(vp:Op->Bool)(n:Nat)(ops:List Oper)(C:List Nat):Bool:=
 let m:=Region.before ops.toArray
 let len:=ops.length
 ((List.range len).all λj=>(dN (ops.getD j default)).all λk=>k<j)&&
 ((List.range len).all λj=>(List.range len).all λi=>!dU m j i || (dN (ops.getD j default)).any λk=>k==i || dU m k i)&&
 (sg (λk i=>k !=i&&((ops.getD i default).dst.isNone || (ops.getD i default).dst !=(ops.getD k default).dst)&&(dU m i k || HN vp ops (ops.getD k default) (ops.getD i default))) C)&&
 ((List.range len).all λi=>C.contains i)&&(C.all λi=>i<len)&&((List.range len).all λi=>dok n (ops.getD i default).dst)
structure MixOk(vp:Op->Bool)(n:Nat)(ops:List Oper)(C:List Nat):Prop where
 dir:∀(j:Nat)(o:Oper),ops[j]?=some o->∀k∈dN o,k<j
 clo:∀(j:Nat)(o:Oper)(i:Nat),ops[j]?=some o->i<ops.length->dU (Region.before ops.toArray) j i=true->∃k∈dN o,k=i\/dU (Region.before ops.toArray) k i=true
 pw:C.Pairwise (λk i=>k≠i/\(∀t,(ops.getD i default).dst=some t->(ops.getD k default).dst≠some t)/\(dU (Region.before ops.toArray) i k=true\/Free vp ops (ops.getD k default) (ops.getD i default)))
 all:∀i,i<ops.length->i∈C
 lt:∀i∈C,i<ops.length
 dk:∀(i:Nat)(o:Oper),ops[i]?=some o->dok n o.dst=true
theorem Bi{vp:Op->Bool}{n:Nat}{ops:List Oper}{C:List Nat}(h:zJ vp n ops C=true):MixOk vp n ops C:=by
 simp only[zJ,eN,dS,gI,iC] at h;obtain⟨⟨⟨⟨⟨h1,h2⟩,h3⟩,h4⟩,h5⟩,h6⟩:=h;have hlt:=λ{k:Nat}{o:Oper}(hk:ops[k]?=some o)=>(bF.1 hk).1;refine⟨λj o ho k hk=>?_,λj o i ho hi hb=>?_,(oZ h3).imp (λ{k i} h=>?_),λi hi=>by simpa using h4 i hi,h5,λi o ho=>?_⟩
 ·have:=h1 j (hlt ho) k;rw[cX ho] at this;exact this hk
 ·have:=h2 j (hlt ho) i hi;rw[cX ho,hb] at this;simp only[Bool.not_true,Bool.false_or,qS,lM,beq_iff_eq] at this;exact this
 ·simp only[eN,lM] at h;obtain⟨⟨h7,h8⟩,h9⟩:=h;refine⟨by simpa using h7,λt ht=>?_,h9.imp id HK⟩;rw[ht] at h8;simp at h8;exact λe=>h8 e.symm
 ·have:=h6 i (hlt ho);rw[cX ho] at this;exact this
def c9(C:List Nat)(L:Array Bool):List Nat:=C.filter λk=>!L.getD k false
structure MInv(vp:Op->Bool)(P:Program)(N:Cfg)(ops:List Oper)(C:List Nat)(K:SP)(E₀:Env)(w₀:World)(L:Array Bool)(a:Act)(w:World)(E:Env)(T:Tm)(H:Hp)(nx:Nat):Prop where
 lsz:L.size=ops.length
 dc:∀j i,L.getD j false=true->dU (Region.before ops.toArray) j i=true->i<ops.length->L.getD i false=true
 ext:Ext E₀ w₀ E w
 sim:Sim E N ⟨T,H,nx⟩ a w
 rest:nk vp P N.n (ops.map (·.dst)) ((c9 C L).map λk=>ops.getD k default) T H nx K
variable{vp:Op->Bool}{P:Program}{N:Cfg}{ops:List Oper}{C:List Nat}{K:SP}{E₀:Env}{w₀:World}{L:Array Bool}{a:Act}{w:World}{E:Env}{T:Tm}{H:Hp}{nx:Nat}
theorem Ch(hC:C.Pairwise (λk i=>k≠i/\(∀t,(ops.getD i default).dst=some t->(ops.getD k default).dst≠some t)/\(dU (Region.before ops.toArray) i k=true\/Free vp ops (ops.getD k default) (ops.getD i default))))
    {i:Nat} (hi:i∈c9 C L) (hil:i<L.size):∃l1 l2,c9 C L=l1++i::l2/\c9 C (L.setIfInBounds i true)=l1++l2/\
     (∀k∈l1,dU (Region.before ops.toArray) i k=true\/Free vp ops (ops.getD k default) (ops.getD i default))/\(∀k∈l1++l2,∀t,(ops.getD k default).dst=some t->(ops.getD i default).dst≠some t):=by
 obtain⟨l1,l2,e⟩:=List.append_of_mem hi;have hp:(c9 C L).Pairwise _:=hC.filter _;rw[e] at hp;obtain⟨p1,p2,p3⟩:=List.pairwise_append.1 hp;obtain⟨p4,p5⟩:=BV.1 p2;refine⟨l1,l2,e,?_,λk hk=>(p3 k hk i (by simp)).2.2,λk hk t ht he=>?_⟩
 ·have e2:c9 C (L.setIfInBounds i true)=(c9 C L).filter λk=>decide (k≠i):=by
    unfold c9;rw[List.filter_filter];refine List.filter_congr (λk _=>?_);rw[ee L i k hil];by_cases h:k=i<;>simp[h]
  rw[e2,e,Ha,List.filter_cons];have n1:l1.filter (λk=>decide (k≠i))=l1:=Bh.2 (λk hk=>bV (p3 k hk i (by simp)).1);have n2:l2.filter (λk=>decide (k≠i))=l2:=Bh.2 (λk hk=>bV (λh=>(p4 k hk).1 h.symm));rw[n1,n2];simp
 ·rcases mL.1 hk with h|h
  ·exact(p3 k h i (by simp)).2.1 t he ht
  ·exact(p4 k h).2.1 t ht he
theorem MInv.bits(hI:MInv vp P N ops C K E₀ w₀ L a w E T H nx)(hok:MixOk vp N.n ops C){i:Nat}{o:Oper}(hr:Ready ops L i o){k:Nat}(hk:k<ops.length)(hb:dU (Region.before ops.toArray) i k=true):L.getD k false=true:=by
 obtain⟨q,hq,h⟩:=hok.clo i o k hr.get hk hb;rcases h with rfl|h
 ·exact hr.dir _ hq
 ·exact hI.dc q k (hr.dir _ hq) h hk
theorem MInv.step(hvp:VP vp){rr:Option Nat}{Q:Exit->Act->World->Prop}{K':Act->World->Prop}(hI:MInv vp P N ops C K E₀ w₀ L a w E T H nx)(hok:MixOk vp N.n ops C){i:Nat}{o:Oper}(hr:Ready ops L i o)
    (hK:∀a' w' E' T' H' nx',MInv vp P N ops C K E₀ w₀ (L.setIfInBounds i true) a' w' E' T' H' nx'->K' a' w'):wpOpIn (FW rr) 0 P ops.toArray Q i K' a w:=by
 have hi:i<ops.length:=(bF.1 hr.get).1;have hgeti:(ops.toArray)[i]?=some o:=by simpa using hr.get
 unfold wpOpIn;rw[hgeti];simp only;have hmem:i∈c9 C L:=kW.2 ⟨hok.all i hi,by rw[hr.not];rfl⟩;obtain⟨l1,l2,e1,e2,f1,f2⟩:=Ch hok.pw hmem (by rw[hI.lsz];exact hi);have hgo:ops.getD i default=o:=cX hr.get
 have hfree:∀k∈l1,Free vp ops (ops.getD k default) o:=by
  intro k hk;rcases f1 k hk with h|h
  ·have hkC:k∈c9 C L:=by rw[e1];simp[hk]
   obtain⟨h1,h2⟩:=kW.1 hkC;have:=hI.bits hok hr (hok.lt k h1) h;rw[this] at h2;cases h2
  ·rw[hgo] at h;exact h
 have hrest:=hI.rest;rw[e1,dv,fY,hgo] at hrest
 have hpull:=Lb hvp (l1.map fun k=>ops.getD k default) (fun x hx=>by
  obtain⟨k,hk,rfl⟩:=cC.1 hx;exact hfree k hk) hrest
 have hpull2:pB vp P N.n (ops.map (·.dst)) o T H nx λT' H' nx'=>nk vp P N.n (ops.map (·.dst)) ((l1++l2).map λk=>ops.getD k default) T' H' nx' K:=
  sd hpull (λr H1 nx1 h=>by rw[dv];exact h)
 have hset:=λk=>ee L i k (by rw[hI.lsz];exact hi);have hs:=jC (rr:=rr) (ops:=ops.toArray) (Q:=Q) (next:=K') hI.sim (Bo hvp hpull2) (λE' T' H' nx' a' w' he hS hk=>?_)
 ·exact hs
 ·refine hK a' w' E' T' H' nx' ⟨by simp[hI.lsz],?_,hI.ext.trans he,hS,by rw[e2];exact hk⟩;intro j k hj hb hkl;rw[hset] at hj |-;by_cases hki:k=i
  ·rw[if_pos hki]
  ·rw[if_neg hki];by_cases hji:j=i
   ·subst hji;exact hI.bits hok hr hkl hb
   ·rw[if_neg hji] at hj;exact hI.dc j k hj hb hkl
theorem MInv.some_ready(hI:MInv vp P N ops C K E₀ w₀ L a w E T H nx)(hok:MixOk vp N.n ops C)(h:Region.ready .any ops.toArray L=[]):∀k,k<ops.length->L.getD k false=true:=by
 rcases oQ L ops.length with h1|⟨k,hk,hn,hall⟩
 ·exact h1
 ·exfalso;obtain⟨o,ho⟩:=di hk
  have:k∈Region.ready .any ops.toArray L:=by
   refine mem_ready.2 ⟨?_,o,by simpa using ho,λe he hb=>hall _ ?_⟩
   ·have:k<L.size:=by rw[hI.lsz];exact hk
    simp[this] at hn |-;exact hn
   ·refine hok.dir k o ho e.on ?_;simp only[dN,cC,kW];exact⟨e,⟨by simpa using he,hb⟩,rfl⟩
  rw[h] at this;cases this
theorem MInv.final(hI:MInv vp P N ops C K E₀ w₀ L a w E T H nx)(hok:MixOk vp N.n ops C)(hall:∀k,k<ops.length->L.getD k false=true):K T H nx:=by
 have:c9 C L=[]:=List.filter_eq_nil_iff.2 (λk hk=>by simp[hall k (hok.lt k hk)]);have h:=hI.rest;rw[this] at h;exact h
theorem Db(hvp:VP vp){rr:Option Nat}{Q:Exit->Act->World->Prop}(hok:MixOk vp N.n ops C)(hQ:∀E' T' H' nx' a' w',Ext E₀ w₀ E' w'->Sim E' N ⟨T',H',nx'⟩ a' w'->K T' H' nx'->Q .normal a' w'):
    ∀(fuel:Nat)(L:Array Bool)(a:Act)(w:World)(E:Env)(T:Tm)(H:Hp)(nx:Nat),MInv vp P N ops C K E₀ w₀ L a w E T H nx->left ops.length L<=fuel->wpAnyIn (FW rr) 0 P .any ops.toArray Q fuel L a w
 |0,L,a,w,E,T,H,nx,hI,hl=>by
  have hall:∀k,k<ops.length->L.getD k false=true:=by
   rcases oQ L ops.length with h1|⟨k,hk,hn,hall⟩
   ·exact h1
   ·exfalso;have:left ops.length (L.setIfInBounds k true)<left ops.length L:=ig L k _ hk hI.lsz hn;omega
  have hr:Region.ready .any ops.toArray L=[]:=by
   refine G9.2 (λi hi=>?_);obtain⟨o,ho⟩:=ir hI.lsz hi;have:=hall i (bF.1 ho.get).1;rw[ho.not] at this;cases this
  exact⟨hr,hQ E T H nx a w hI.ext hI.sim (hI.final hok hall)⟩
 |fuel+1,L,a,w,E,T,H,nx,hI,hl=>by
  refine⟨λhr=>hQ E T H nx a w hI.ext hI.sim (hI.final hok (hI.some_ready hok hr)),λi hi=>?_⟩;obtain⟨o,ho⟩:=ir hI.lsz hi;refine hI.step hvp hok ho (λa' w' E' T' H' nx' hI'=>Db hvp hok hQ fuel _ a' w' E' T' H' nx' hI' ?_);have:=ig L i ops.length (bF.1 ho.get).1 hI.lsz ho.not;omega
theorem My{rr:Option Nat}{Q:Exit->Act->World->Prop}{rid:Nat}(hm:P.follows .mixedOrders=true)(hvp:VP vp)(hok:zJ vp N.n ops C=true)(hS:Sim E₀ N ⟨T,H,nx⟩ a w₀)
    (h:nk vp P N.n (ops.map (·.dst)) (C.map λk=>ops.getD k default) T H nx K)
    (hQ:∀E' T' H' nx' a' w',Ext E₀ w₀ E' w'->Sim E' N ⟨T',H',nx'⟩ a' w'->K T' H' nx'->Q .normal a' w'):(Code.region rid ops.toArray true).wpIn (FW rr) 0 P Q a w₀:=by
 refine wpIn_region_any hm ?_;have hdr:({w₀ with drawn:=w₀.drawn+1}:World).heap=w₀.heap:=rfl;have hext:Ext E₀ w₀ E₀ {w₀ with drawn:=w₀.drawn+1}:=Ext.same hdr;have hok:=Bi hok
 have hfalse:∀k,(Array.replicate ops.toArray.size false).getD k false=false:=by
  intro k;simp only[yW,Array.getElem?_replicate];split<;>rfl
 have hrest:c9 C (Array.replicate ops.toArray.size false)=C:=Bh.2 (λk _=>by rw[hfalse];rfl);refine Db (C:=C) (K:=K) (E₀:=E₀) (w₀:=w₀) hvp hok hQ _ _ _ _ E₀ T H nx ⟨by simp,?_,hext,?_,by rw[hrest];exact h⟩ (by rw[List.size_toArray];unfold left;exact fu List.countP_le_length (by simp))
 ·intro j i h1;rw[hfalse] at h1;cases h1
 ·exact⟨hS.env.drew,hS.heap.same hdr,hS.fresh,hS.round,hS.floor,hS.size,λt=>(hS.tmps t).ext hext,hS.defers.ext hext⟩
end Go.Abs
namespace Go.Abs
open Go.RowKit
def Sub(S H:Hp):Prop:=∀b cs,S b=some cs->H b=some cs
theorem Ja{S H:Hp}(h:Sub S H){p x:AV}(hr:rd1 S p=some x):rd1 H p=some x:=by
 unfold rd1 at hr |-;split at hr
 ·rename_i b n off;cases hb:S b with
  |none=>rw[hb] at hr;cases hr
  |some cs=>rw[hb] at hr;simp only[h b cs hb];exact hr
 ·exact hr
 ·cases hr
theorem ML{S H:Hp}(h:Sub S H){k:Nat}{p:AV}{x:List AV}(hr:rd S k p=some x):rd H k p=some x:=by
 unfold rd at hr |-;split at hr
 ·rename_i b n off;cases hb:S b with
  |none=>rw[hb] at hr;cases hr
  |some cs=>rw[hb] at hr;simp only[h b cs hb];exact hr
 ·exact hr
 ·cases hr
theorem G4{P:Program}{T:Tm}{S H:Hp}(h:Sub S H){op:Op}(hl:kH op=true){r:AV}(hr:dG P T S op=some r):dG P T H op=some r:=by
 cases op<;>first|(cases hl;done)|skip
 simp only[dG] at hr |-;unfold lB at hr |-;split at hr
 ·split at hr
  ·split at hr
   ·rw[Option.map_eq_some_iff] at hr;obtain⟨x,hx,rfl⟩:=hr;rename_i h0 h1 h2;rw[if_pos h0,if_pos h1,if_pos h2,ML h hx];rfl
   ·cases hr
  ·rename_i h0 h1;rw[if_pos h0,if_neg h1];exact Ja h hr
 ·cases hr
def sv(vp:Op->Bool)(op:Op):Bool:=vp op || kH op
def j5:Op->Bool
 |.buildSlice ..=>true
 |_=>false
def rq:Option (AV×Hp×Nat)->Option AV
 |some (.msl 0 _ sz 0 len,H',_)=>match H' 0 with
  |some cs=>if sz=1 then(if len=cs.length/\len≠0/\cs.all AV.one=true then some (.sl 1 cs) else none)
   else if len=1/\cs.length=sz/\cs.all AV.one=true then some (.sl sz [.agg cs]) else none
  |none=>none
 |_=>none
def Af(P:Program)(T:Tm)(op:Op):Option AV:=if j5 op=true then rq (gY P T aQ 0 op) else none
theorem sE{x:Option (AV×Hp×Nat)}{r:AV}(h:rq x=some r):∃n H' k cs sz len es,x=some (.msl 0 n sz 0 len,H',k)/\H' 0=some cs/\len≠0/\cs.all AV.one=true/\r=.sl sz es/\es.length=len/\es.length*sz=cs.length/\(∀y∈es,y.cells.length=sz)/\∀(i j:Nat)(x y:AV),es[i]?=some x->x.cells[j]?=some y->cs[i*sz+j]?=some y:=by
 unfold rq at h;split at h
 ·rename_i n sz len H' k;split at h
  ·rename_i cs hcs;split at h
   ·rename_i hs;subst hs;split at h
    ·rename_i hc;obtain⟨hl,h0,ho⟩:=hc;cases h
     have hone:∀y∈cs,y.cells=[y]:=λy hy=>by
      have:=dS.1 ho y hy;cases y<;>first|rfl|(cases this;done)
     refine⟨n,H',k,cs,1,len,cs,rfl,hcs,h0,ho,rfl,hl.symm,Nat.mul_one _,λy hy=>by rw[hone y hy];rfl,λi j x y hx hy=>?_⟩;rw[hone x (hJ hx)] at hy;cases j with
     |zero=>simp only[tG,mR] at hy;subst hy;rw[Nat.mul_one,ur];exact hx
     |succ j=>simp at hy
    ·cases h
   ·split at h
    ·rename_i hc;obtain⟨hl,h0,ho⟩:=hc;cases h;refine⟨n,H',k,cs,sz,len,[.agg cs],rfl,hcs,by omega,ho,rfl,hl.symm,by simp[h0],λy hy=>by rw[fX.1 hy];exact h0,λi j x y hx hy=>?_⟩;cases i with
     |zero=>simp only[tG,mR] at hx;subst hx;rw[nz,dt];exact hy
     |succ i=>simp at hx
    ·cases h
  ·cases h
 ·cases h
theorem BR{P:Program}{op:Op}{T T':Tm}(he:∀x∈op.operands,ev T x=ev T' x):Af P T op=Af P T' op:=by
 unfold Af;rw[pZ he]
theorem Fg{op:Op}(h:j5 op=true):opk op=.alloc:=by
 cases op<;>first|(cases h;done)|rfl
theorem yU{E:Env}{w:World}{n L s blk sz:Nat}{v:Value}(hL:L≠0)(h:Rel {E with mu:=λ_ _=>some (blk,sz)} w (.msl 0 n s 0 L) v):∃cap,v=.slice (some ⟨blk,0,none⟩) L cap/\L<=cap:=by
 cases h with
 |msl b n sz off len blk bsz cap hm hl hc hn=>
  simp only[mR,Prod.mk.injEq] at hm;obtain⟨rfl,rfl⟩:=hm;exact⟨cap,rfl,hl⟩
 |msl0 b sz v h=>exact absurd rfl hL
theorem Fw{P:Program}{op:Op}{T:Tm}{H:Hp}{nx:Nat}{K:AV->Hp->Nat->Prop}{r:AV}(h:Af P T op=some r)(hk:K r H nx):eY P op T H nx K:=by
 unfold Af at h;split at h
 case isFalse=>cases h
 case isTrue hb=>
 obtain⟨n,H1,k,cs,sz,len,es,h1,h2,h0,h3,rfl,e1,e2,e3,e4⟩:=sE h;refine⟨λc hc=>(by rw[hc] at hb;cases hb),?_⟩;rintro rr E w a o next Q ho hE hh hf ht hn;have h1':gY P T aQ 0 o.op=some (.msl 0 n sz 0 len,H1,k):=by rw[ho];exact h1
 obtain⟨s,hs,hrun⟩:=vX (E:=E) (w:=w) (a:=a) (Fg (by rw[ho];exact hb)) (by rw[ho];exact ht) h1';unfold x8 at hrun;rcases hrun with hrun|⟨cells,vals,ty,v,hH,_,hrun,hlen,hrel,hv⟩
 ·rw[hrun.2.1] at h2;cases h2
 rw[hH] at h2;have h2:cells=cs:=by simpa[av] using h2
 subst h2;obtain⟨cap,rfl,hcap⟩:=yU h0 (hv {E with mu:=λ_ _=>some (w.heap.size,vals.size)} w rfl);have hbw:Below w.heap.size w (w.alloc (.cells vals ty)):=(Below.refl _ _).alloc (bd _) _
 have hnew:(w.alloc (.cells vals ty)).heap[w.heap.size]?=some (.cells vals ty (0,0)):=by
  show(w.heap.push (.cells vals ty))[w.heap.size]?=_;simp
 have hsz:(w.alloc (.cells vals ty)).heap.size=w.heap.size+1:=by
  show(w.heap.push (.cells vals ty)).size=_;simp
 have he:Ext E w {E with imm:=λb=>E.imm b\/b=w.heap.size} (w.alloc (.cells vals ty)):=
  ⟨rfl,rfl,λ_ h=>.inl h,λb h=>h.imp id (λh=>by rw[h];exact hh.size),λ_ _ _ h=>h,λ_ _ h=>h,λ_ _ h=>h,λb h=>⟨h,hbw.block b (hE.dlt h)⟩,hbw.size,λb h=>hbw.block b (hE.lt b h),bd _⟩
 have hE':EnvOk {E with imm:=λb=>E.imm b\/b=w.heap.size} (w.alloc (.cells vals ty)):=
  hE.step he (λb h=>h.imp id (λh=>by rw[hsz,h];omega)) (λk hk=>hk.imp id (λhge b hb'=>by have:=hE.splt hb';omega)) (hbw.mono hh.size) (Below.still hbw) rfl rfl rfl (λ_ _ _ _=>rfl)
 have hh':=hh.below he hbw rfl (λb h=>h.imp id (λh=>by rw[h];omega)) rfl;rw[hs];simp only[bB,hrun,bv,eE];rw[Oper.uponIn_value];refine hn _ H nx (.sl sz es) _ _ he hE' hh' (hf.of (bd _) (λ_ _ _=>rfl) rfl rfl) ?_ hk;rw[<-e1] at hcap |-;refine .sl sz es w.heap.size 0 cap (λi=>vals.getD i Go.undef) (.inr rfl) hcap e3 (λi hi=>?_) (λi j x y hx hy=>?_)
 ·rw[dt];refine cell?_of_heap hnew ?_;have:i<vals.size:=by omega
  simp[Array.getD,this]
 ·obtain⟨v',h5,_,h6⟩:=hrel _ y (e4 i j x y hx hy);have:i*sz+j<vals.size:=(kN.1 h5).1
  have e:vals.getD (i*sz+j) Go.undef=v':=by
   rw[CN this] at h5;cases h5;simp[Array.getD,this]
  rw[e];exact h6.ext he
def tE:Op->Bool
 |.lookup ..=>true
 |_=>false
structure BP where
 b:Op->Bool
 l:Bool
 lv:Op->Tm->Hp->Option AV
 cg:∀{op:Op}{T T':Tm}{S:Hp},(∀x∈op.operands,ev T x=ev T' x)->lv op T S=lv op T' S
def uT(P:Program)(bp:BP):Prop:=bp.l=true->∀{op:Op}{T:Tm}{S H:Hp}{nx:Nat}{K:AV->Hp->Nat->Prop}{r:AV},tE op=true->bp.lv op T S=some r->Sub S H->K r H nx->eY P op T H nx K
def yY(bp:BP)(op:Op):Bool:=kH op || (bp.l&&tE op)
def nv(vp:Op->Bool)(bp:BP)(op:Op):Bool:=sv vp op || (bp.b op&&j5 op) || (bp.l&&tE op)
def tp(P:Program)(bp:BP)(T:Tm)(S:Hp)(op:Op):Option AV:=if (bp.b op&&j5 op)=true then Af P T op else if (bp.l&&tE op)=true then bp.lv op T S else dG P T S op
theorem uo{P:Program}{bp:BP}{op:Op}{T T':Tm}{S:Hp}(he:∀x∈op.operands,ev T x=ev T' x):tp P bp T S op=tp P bp T' S op:=by
 unfold tp;rw[BR he,jo he,bp.cg he]
def gM(vp:Op->Bool)(bp:BP)(P:Program)(S:Hp)(op:Op)(keep:Bool)(T:Tm)(H:Hp)(nx:Nat)(K:AV->Hp->Nat->Prop):Prop:=
 if nv vp bp op=true then ax (tp P bp T S op) λr=>K r H nx else tB P .text op T H nx λr H' nx'=>(keep=true->Sub S H')/\K r H' nx'
def kO(vp:Op->Bool)(bp:BP)(P:Program)(n:Nat)(dsts:List (Option Nat))(S:Hp)(o:Oper×Bool)(T:Tm)(H:Hp)(nx:Nat)(K:SP):Prop:=
 aM (dok n o.1.dst) (aS (gval T dsts o.1.guard) (gM vp bp P S o.1.op o.2 T H nx λr H' nx'=>K (aP T o.1.dst r) H' nx') (K (aP T o.1.dst (.tup [])) H nx))
def i5(vp:Op->Bool)(bp:BP)(P:Program)(n:Nat)(dsts:List (Option Nat))(S:Hp):List (Oper×Bool)->Tm->Hp->Nat->SP->Prop
 |[],T,H,nx,K=>K T H nx
 |o::l,T,H,nx,K=>kO vp bp P n dsts S o T H nx λT H nx=>i5 vp bp P n dsts S l T H nx K
theorem uu{vp:Op->Bool}{bp:BP}{P:Program}{S:Hp}{op:Op}{keep:Bool}{T:Tm}{H:Hp}{nx:Nat}{K K':AV->Hp->Nat->Prop}(h:gM vp bp P S op keep T H nx K)(hK:∀r H nx,K r H nx->K' r H nx):gM vp bp P S op keep T H nx K':=by
 unfold gM at h |-;split
 ·rename_i hp;rw[if_pos hp] at h;obtain⟨a,ha,hk⟩:=dK h;rw[ha];exact hK _ _ _ hk
 ·rename_i hp;rw[if_neg hp] at h;exact ko h (λr H nx hh=>⟨hh.1,hK _ _ _ hh.2⟩)
theorem gl{vp:Op->Bool}{bp:BP}{P:Program}{n:Nat}{dsts:List (Option Nat)}{S:Hp}{o:Oper×Bool}{T:Tm}{H:Hp}{nx:Nat}{K K':SP}(h:kO vp bp P n dsts S o T H nx K)(hK:∀r H nx,K (aP T o.1.dst r) H nx->K' (aP T o.1.dst r) H nx):kO vp bp P n dsts S o T H nx K':=by
 refine⟨h.1,?_⟩;have h:=h.2;cases hg:gval T dsts o.1.guard with
 |none=>rw[hg] at h;exact h.elim
 |some b=>
  rw[hg] at h;cases b with
  |true=>exact uu (K:=λr H' nx'=>K (aP T o.1.dst r) H' nx') h (λr H nx=>hK r H nx)
  |false=>exact hK _ _ _ h
theorem mF{vp:Op->Bool}{bp:BP}{P:Program}{n:Nat}{dsts:List (Option Nat)}{S:Hp}{K K':SP}(hK:∀T H nx,K T H nx->K' T H nx):∀(l:List (Oper×Bool)){T:Tm}{H:Hp}{nx:Nat},i5 vp bp P n dsts S l T H nx K->i5 vp bp P n dsts S l T H nx K'
 |[],_,_,_,h=>hK _ _ _ h
 |o::l,_,_,_,h=>gl h (λ_ _ _=>mF hK l)
theorem AK{vp:Op->Bool}{bp:BP}{P:Program}{S:Hp}{op:Op}{keep:Bool}{T T':Tm}{H:Hp}{nx:Nat}{K:AV->Hp->Nat->Prop}(he:∀x∈op.operands,ev T x=ev T' x)(h:gM vp bp P S op keep T H nx K):gM vp bp P S op keep T' H nx K:=by
 unfold gM at h |-;split
 ·rename_i hp;rw[if_pos hp] at h;rw[<-uo he];exact h
 ·rename_i hp;rw[if_neg hp] at h;rcases h with h|h
  ·exact .inl (sT he h)
  ·exact .inr ⟨h.1,tc he h.2⟩
theorem Bu{vp:Op->Bool}{bp:BP}(hv:VP vp){P:Program}(hb:uT P bp){n:Nat}{dsts:List (Option Nat)}{S:Hp}{o:Oper×Bool}{T:Tm}{H:Hp}{nx:Nat}{K:SP}(hs:yY bp o.1.op=true->Sub S H)(h:kO vp bp P n dsts S o T H nx K):
    aop P n .text dsts o.1 T H nx λT1 H1 nx1=>(H1=H\/(o.2=true->Sub S H1))/\K T1 H1 nx1:=by
 refine⟨h.1,?_⟩;have h:=h.2;cases hg:gval T dsts o.1.guard with
 |none=>rw[hg] at h;exact h.elim
 |some b=>
  rw[hg] at h;cases b with
  |false=>exact⟨.inl rfl,h⟩
  |true=>
   have h:gM vp bp P S o.1.op o.2 T H nx λr H' nx'=>K (aP T o.1.dst r) H' nx':=h;show tB P .text o.1.op T H nx λr H' nx'=>(H'=H\/(o.2=true->Sub S H'))/\K (aP T o.1.dst r) H' nx';unfold gM at h;split at h
   ·rename_i hp;obtain⟨r,hr,hk⟩:=dK h;by_cases hbl:(bp.b o.1.op&&j5 o.1.op)=true
    ·unfold tp at hr;rw[if_pos hbl] at hr;exact .inr ⟨rfl,Fw hr ⟨.inl rfl,hk⟩⟩
    unfold tp at hr;rw[if_neg hbl] at hr;by_cases hlk:(bp.l&&tE o.1.op)=true
    ·rw[if_pos hlk] at hr;have hs':=hs (by unfold yY;rw[hlk,Bool.or_true]);rw[eN] at hlk;exact .inr ⟨rfl,hb hlk.1 hlk.2 hr hs' ⟨.inl rfl,hk⟩⟩
    rw[if_neg hlk] at hr
    have hp:sv vp o.1.op=true:=by
     unfold nv at hp;rw[lM,lM] at hp;exact(hp.resolve_right hlk).resolve_right hbl
    have hval:dG P T H o.1.op=some r/\opc o.1.op=.val:=by
     unfold sv at hp;rw[lM] at hp;rcases hp with hp|hp
     ·exact⟨by rw[rH (H':=S) (hv.pure _ hp)];exact hr,Av (hv.pure _ hp)⟩
     ·refine⟨G4 (hs (by unfold yY;rw[hp,Bool.true_or])) hp hr,?_⟩;revert hp;cases o.1.op<;>intro hp<;>first|(cases hp;done)|rfl
    left;unfold l7;rw[hval.2];refine⟨rfl,?_⟩;rw[hval.1];exact⟨.inl rfl,hk⟩
   ·exact ko h (λr H' nx' hh=>⟨.inr hh.1,hh.2⟩)
def vO(P:Program)(bp:BP)(dsts:List (Option Nat))(o:Oper)(T:Tm)(H:Hp):Option AV:=match gval T dsts o.guard with
 |some true=>tp P bp T H o.op
 |some false=>some (.tup [])
 |none=>none
structure FreeN(vp:Op->Bool)(bp:BP)(ops:List Oper)(x o:Oper):Prop where
 d:∀t,o.dst=some t->x.dst≠some t
 l1:∀t,o.dst=some t->t∉x.looksAt ops.toArray
 l2:∀t,x.dst=some t->t∉o.looksAt ops.toArray
 k:nv vp bp x.op=true
theorem Gb{vp:Op->Bool}{bp:BP}{P:Program}{n:Nat}{dsts:List (Option Nat)}{S:Hp}{o:Oper×Bool}{T:Tm}{H:Hp}{nx:Nat}{K:SP}(hp:nv vp bp o.1.op=true)(h:kO vp bp P n dsts S o T H nx K):∃v,vO P bp dsts o.1 T S=some v/\K (aP T o.1.dst v) H nx:=by
 obtain⟨_,h⟩:=h;unfold vO;cases hg:gval T dsts o.1.guard with
 |none=>rw[hg] at h;exact h.elim
 |some b=>
  rw[hg] at h;cases b with
  |true=>
   have h:gM vp bp P S o.1.op o.2 T H nx λr H' nx'=>K (aP T o.1.dst r) H' nx':=h;unfold gM at h;rw[if_pos hp] at h;exact dK h
  |false=>exact⟨_,rfl,h⟩
theorem zK{vp:Op->Bool}{bp:BP}{P:Program}{n:Nat}{dsts:List (Option Nat)}{S:Hp}{o:Oper×Bool}{T:Tm}{H:Hp}{nx:Nat}{K:SP}(hp:nv vp bp o.1.op=true)(hd:dok n o.1.dst=true){v:AV}(hv:vO P bp dsts o.1 T S=some v)(hk:K (aP T o.1.dst v) H nx):kO vp bp P n dsts S o T H nx K:=by
 refine⟨hd,?_⟩;unfold vO at hv;cases hg:gval T dsts o.1.guard with
 |none=>rw[hg] at hv;cases hv
 |some b=>
  rw[hg] at hv;cases b with
  |true=>
   show gM vp bp P S o.1.op o.2 T H nx _;unfold gM;rw[if_pos hp];have hv:tp P bp T S o.1.op=some v:=hv;rw[hv];exact hk
  |false=>cases hv;exact hk
theorem Aj{P:Program}{bp:BP}{ops:List Oper}{o:Oper}{T T':Tm}{S:Hp}(ha:lq ops o T T'):vO P bp (ops.map (·.dst)) o T S=vO P bp (ops.map (·.dst)) o T' S:=by
 unfold vO;rw[ha.gval];cases gval T' (ops.map (·.dst)) o.guard with
 |none=>rfl
 |some b=>
  cases b with
  |true=>simp only;rw[uo ha.ev]
  |false=>rfl
theorem GY{vp:Op->Bool}{bp:BP}{P:Program}{n:Nat}{ops:List Oper}{S:Hp}{x o:Oper×Bool}{T:Tm}{H:Hp}{nx:Nat}{K:SP}(hf:FreeN vp bp ops x.1 o.1)
    (h:kO vp bp P n (ops.map (·.dst)) S x T H nx λT1 H1 nx1=>kO vp bp P n (ops.map (·.dst)) S o T1 H1 nx1 K):kO vp bp P n (ops.map (·.dst)) S o T H nx λT1 H1 nx1=>kO vp bp P n (ops.map (·.dst)) S x T1 H1 nx1 K:=by
 have hdx:=h.1;obtain⟨r,hr,h⟩:=Gb hf.k h;have ha:lq ops o.1 T (aP T x.1.dst r):=lq.upd hf.l2
 have hx:∀(q:AV)(H1:Hp)(nx1:Nat),K (aP (aP T x.1.dst r) o.1.dst q) H1 nx1->kO vp bp P n (ops.map (·.dst)) S x (aP T o.1.dst q) H1 nx1 K:=by
  intro q H1 nx1 hk;refine zK hf.k hdx (v:=r) ?_ ?_
  ·rw[<-hr];exact(Aj (lq.upd hf.l1)).symm
  ·rw[<-xQ hf.d];exact hk
 obtain⟨hdo,h⟩:=h;refine⟨hdo,?_⟩;rw[ha.gval];cases hg:gval (aP T x.1.dst r) (ops.map (·.dst)) o.1.guard with
 |none=>rw[hg] at h;exact h.elim
 |some b=>
  rw[hg] at h;cases b with
  |true=>
   have h:gM vp bp P S o.1.op o.2 (aP T x.1.dst r) H nx λq H' nx'=>K (aP (aP T x.1.dst r) o.1.dst q) H' nx':=h;exact uu (AK (λy hy=>(ha.ev y hy).symm) h) (λq H' nx' hk=>hx q H' nx' hk)
  |false=>exact hx _ _ _ h
theorem HW{vp:Op->Bool}{bp:BP}{P:Program}{n:Nat}{ops:List Oper}{S:Hp}{o:Oper×Bool}{l2:List (Oper×Bool)}{K:SP}:∀(l1:List (Oper×Bool)){T:Tm}{H:Hp}{nx:Nat},(∀x∈l1,FreeN vp bp ops x.1 o.1)->
    i5 vp bp P n (ops.map (·.dst)) S (l1++o::l2) T H nx K->kO vp bp P n (ops.map (·.dst)) S o T H nx λT H nx=>i5 vp bp P n (ops.map (·.dst)) S (l1++l2) T H nx K
 |[],_,_,_,_,h=>h
 |x::l1,T,H,nx,hf,h=>by
  have h:kO vp bp P n (ops.map (·.dst)) S x T H nx λT H nx=>i5 vp bp P n (ops.map (·.dst)) S (l1++o::l2) T H nx K:=h
  have h:kO vp bp P n (ops.map (·.dst)) S x T H nx λT H nx=>kO vp bp P n (ops.map (·.dst)) S o T H nx λT H nx=>i5 vp bp P n (ops.map (·.dst)) S (l1++l2) T H nx K:=
   gl h (λr H1 nx1 h=>HW l1 (λy hy=>hf y (by simp[hy])) h)
  exact GY (hf x (by simp)) h
def freeNB(vp:Op->Bool)(bp:BP)(ops:List Oper)(x o:Oper):Bool:=
 (match o.dst with|some t=>x.dst !=some t&& !(x.looksAt ops.toArray).contains t|none=>true)&&
 (match x.dst with|some t=>!(o.looksAt ops.toArray).contains t|none=>true)&&nv vp bp x.op
theorem rC{vp:Op->Bool}{bp:BP}{ops:List Oper}{x o:Oper}(h:freeNB vp bp ops x o=true):FreeN vp bp ops x o:=by
 unfold freeNB at h;simp only[eN] at h;obtain⟨⟨h1,h2⟩,h3⟩:=h;refine⟨λt ht=>?_,λt ht=>?_,λt ht=>?_,h3⟩
 ·rw[ht] at h1;simp at h1;exact h1.1
 ·rw[ht] at h1;simp at h1;exact h1.2
 ·rw[ht] at h2;simp at h2;exact h2
def gG(bp:BP)(ops:List Oper)(i:Nat):Bool:=(List.range ops.length).any λj=>j !=i&&yY bp (ops.getD j default).op&& !dU (Region.before ops.toArray) i j
def ry(vp:Op->Bool)(bp:BP)(n:Nat)(ops:List Oper)(C:List Nat):Bool:=
 let m:=Region.before ops.toArray
 let len:=ops.length
 ((List.range len).all λj=>(dN (ops.getD j default)).all λk=>k<j)&&
 ((List.range len).all λj=>(List.range len).all λi=>!dU m j i || (dN (ops.getD j default)).any λk=>k==i || dU m k i)&&
 (sg (λk i=>k !=i&&((ops.getD i default).dst.isNone || (ops.getD i default).dst !=(ops.getD k default).dst)&&(dU m i k || freeNB vp bp ops (ops.getD k default) (ops.getD i default))) C)&&
 ((List.range len).all λi=>C.contains i)&&(C.all λi=>i<len)&&((List.range len).all λi=>dok n (ops.getD i default).dst)
structure MixNOk(vp:Op->Bool)(bp:BP)(n:Nat)(ops:List Oper)(C:List Nat):Prop where
 dir:∀(j:Nat)(o:Oper),ops[j]?=some o->∀k∈dN o,k<j
 clo:∀(j:Nat)(o:Oper)(i:Nat),ops[j]?=some o->i<ops.length->dU (Region.before ops.toArray) j i=true->∃k∈dN o,k=i\/dU (Region.before ops.toArray) k i=true
 pw:C.Pairwise (λk i=>k≠i/\(∀t,(ops.getD i default).dst=some t->(ops.getD k default).dst≠some t)/\(dU (Region.before ops.toArray) i k=true\/FreeN vp bp ops (ops.getD k default) (ops.getD i default)))
 all:∀i,i<ops.length->i∈C
 lt:∀i∈C,i<ops.length
 dk:∀(i:Nat)(o:Oper),ops[i]?=some o->dok n o.dst=true
theorem r8{vp:Op->Bool}{bp:BP}{n:Nat}{ops:List Oper}{C:List Nat}(h:ry vp bp n ops C=true):MixNOk vp bp n ops C:=by
 simp only[ry,eN,dS,gI,iC] at h;obtain⟨⟨⟨⟨⟨h1,h2⟩,h3⟩,h4⟩,h5⟩,h6⟩:=h;have hlt:=λ{k:Nat}{o:Oper}(hk:ops[k]?=some o)=>(bF.1 hk).1;refine⟨λj o ho k hk=>?_,λj o i ho hi hb=>?_,(oZ h3).imp (λ{k i} h=>?_),λi hi=>by simpa using h4 i hi,h5,λi o ho=>?_⟩
 ·have:=h1 j (hlt ho) k;rw[cX ho] at this;exact this hk
 ·have:=h2 j (hlt ho) i hi;rw[cX ho,hb] at this;simp only[Bool.not_true,Bool.false_or,qS,lM,beq_iff_eq] at this;exact this
 ·simp only[eN,lM] at h;obtain⟨⟨h7,h8⟩,h9⟩:=h;refine⟨by simpa using h7,λt ht=>?_,h9.imp id rC⟩;rw[ht] at h8;simp at h8;exact λe=>h8 e.symm
 ·have:=h6 i (hlt ho);rw[cX ho] at this;exact this
def eK(bp:BP)(ops:List Oper)(k:Nat):Oper×Bool:=(ops.getD k default,gG bp ops k)
structure NInv(vp:Op->Bool)(bp:BP)(P:Program)(N:Cfg)(ops:List Oper)(C:List Nat)(S:Hp)(K:SP)(E₀:Env)(w₀:World)(L:Array Bool)(a:Act)(w:World)(E:Env)(T:Tm)(H:Hp)(nx:Nat):Prop where
 lsz:L.size=ops.length
 dc:∀j i,L.getD j false=true->dU (Region.before ops.toArray) j i=true->i<ops.length->L.getD i false=true
 ext:Ext E₀ w₀ E w
 sim:Sim E N ⟨T,H,nx⟩ a w
 st:∀j,j<ops.length->yY bp (ops.getD j default).op=true->L.getD j false=false->Sub S H
 rest:i5 vp bp P N.n (ops.map (·.dst)) S ((c9 C L).map (eK bp ops)) T H nx K
variable{vp:Op->Bool}{bp:BP}{P:Program}{N:Cfg}{ops:List Oper}{C:List Nat}{S:Hp}{K:SP}{E₀:Env}{w₀:World}{L:Array Bool}{a:Act}{w:World}{E:Env}{T:Tm}{H:Hp}{nx:Nat}
theorem nM(hC:C.Pairwise (λk i=>k≠i/\(∀t,(ops.getD i default).dst=some t->(ops.getD k default).dst≠some t)/\(dU (Region.before ops.toArray) i k=true\/FreeN vp bp ops (ops.getD k default) (ops.getD i default))))
    {i:Nat} (hi:i∈c9 C L) (hil:i<L.size):∃l1 l2,c9 C L=l1++i::l2/\c9 C (L.setIfInBounds i true)=l1++l2/\
     (∀k∈l1,dU (Region.before ops.toArray) i k=true\/FreeN vp bp ops (ops.getD k default) (ops.getD i default)):=by
 obtain⟨l1,l2,e⟩:=List.append_of_mem hi;have hp:(c9 C L).Pairwise _:=hC.filter _;rw[e] at hp;obtain⟨p1,p2,p3⟩:=List.pairwise_append.1 hp;obtain⟨p4,p5⟩:=BV.1 p2;refine⟨l1,l2,e,?_,λk hk=>(p3 k hk i (by simp)).2.2⟩
 have e2:c9 C (L.setIfInBounds i true)=(c9 C L).filter λk=>decide (k≠i):=by
  unfold c9;rw[List.filter_filter];refine List.filter_congr (λk _=>?_);rw[ee L i k hil];by_cases h:k=i<;>simp[h]
 rw[e2,e,Ha,List.filter_cons];have n1:l1.filter (λk=>decide (k≠i))=l1:=Bh.2 (λk hk=>bV (p3 k hk i (by simp)).1);have n2:l2.filter (λk=>decide (k≠i))=l2:=Bh.2 (λk hk=>bV (λh=>(p4 k hk).1 h.symm));rw[n1,n2];simp
theorem NInv.bits(hI:NInv vp bp P N ops C S K E₀ w₀ L a w E T H nx)(hok:MixNOk vp bp N.n ops C){i:Nat}{o:Oper}(hr:Ready ops L i o){k:Nat}(hk:k<ops.length)(hb:dU (Region.before ops.toArray) i k=true):L.getD k false=true:=by
 obtain⟨q,hq,h⟩:=hok.clo i o k hr.get hk hb;rcases h with rfl|h
 ·exact hr.dir _ hq
 ·exact hI.dc q k (hr.dir _ hq) h hk
theorem NInv.step(hvp:VP vp)(hbp:uT P bp){rr:Option Nat}{Q:Exit->Act->World->Prop}{K':Act->World->Prop}(hI:NInv vp bp P N ops C S K E₀ w₀ L a w E T H nx)(hok:MixNOk vp bp N.n ops C){i:Nat}{o:Oper}(hr:Ready ops L i o)
    (hK:∀a' w' E' T' H' nx',NInv vp bp P N ops C S K E₀ w₀ (L.setIfInBounds i true) a' w' E' T' H' nx'->K' a' w'):wpOpIn (FW rr) 0 P ops.toArray Q i K' a w:=by
 have hi:i<ops.length:=(bF.1 hr.get).1;have hgeti:(ops.toArray)[i]?=some o:=by simpa using hr.get
 unfold wpOpIn;rw[hgeti];simp only;have hmem:i∈c9 C L:=kW.2 ⟨hok.all i hi,by rw[hr.not];rfl⟩;obtain⟨l1,l2,e1,e2,f1⟩:=nM hok.pw hmem (by rw[hI.lsz];exact hi);have hgo:ops.getD i default=o:=cX hr.get
 have hfree:∀k∈l1,FreeN vp bp ops (ops.getD k default) o:=by
  intro k hk;rcases f1 k hk with h|h
  ·have hkC:k∈c9 C L:=by rw[e1];simp[hk]
   obtain⟨h1,h2⟩:=kW.1 hkC;have:=hI.bits hok hr (hok.lt k h1) h;rw[this] at h2;cases h2
  ·rw[hgo] at h;exact h
 have hrest:=hI.rest;rw[e1,dv,fY] at hrest;have hpo:eK bp ops i=(o,gG bp ops i):=by unfold eK;rw[hgo]
 rw[hpo] at hrest
 have hpull:=HW (o:=(o,gG bp ops i)) (l1.map (eK bp ops)) (fun x hx=>by
  obtain⟨k,hk,rfl⟩:=cC.1 hx;exact hfree k hk) hrest
 have hpull2:kO vp bp P N.n (ops.map (·.dst)) S (o,gG bp ops i) T H nx λT' H' nx'=>i5 vp bp P N.n (ops.map (·.dst)) S ((l1++l2).map (eK bp ops)) T' H' nx' K:=
  gl hpull (λr H1 nx1 h=>by rw[dv];exact h)
 have hset:=λk=>ee L i k (by rw[hI.lsz];exact hi);have hld:yY bp o.op=true->Sub S H:=λh=>hI.st i hi (by rw[hgo];exact h) hr.not;have hs:=jC (rr:=rr) (ops:=ops.toArray) (Q:=Q) (next:=K') hI.sim (Bu hvp hbp hld hpull2) (λE' T' H' nx' a' w' he hS hk=>?_)
 ·exact hs
 ·obtain⟨hkeep,hk⟩:=hk;refine hK a' w' E' T' H' nx' ⟨by simp[hI.lsz],?_,hI.ext.trans he,hS,?_,by rw[e2];exact hk⟩
  ·intro j k hj hb hkl;rw[hset] at hj |-;by_cases hki:k=i
   ·rw[if_pos hki]
   ·rw[if_neg hki];by_cases hji:j=i
    ·subst hji;exact hI.bits hok hr hkl hb
    ·rw[if_neg hji] at hj;exact hI.dc j k hj hb hkl
  ·intro j hj hl hn;rw[hset] at hn;by_cases hji:j=i
   ·rw[if_pos hji] at hn;cases hn
   rw[if_neg hji] at hn;rcases hkeep with rfl|hkeep
   ·exact hI.st j hj hl hn
   ·refine hkeep ?_;show gG bp ops i=true;unfold gG;rw[qS];refine⟨j,gI.2 hj,?_⟩;rw[eN,eN];refine⟨⟨by simpa using hji,hl⟩,?_⟩;cases hb:dU (Region.before ops.toArray) i j with
    |false=>rfl
    |true=>
     have:=hI.bits hok hr hj hb;rw[this] at hn;cases hn
theorem NInv.some_ready(hI:NInv vp bp P N ops C S K E₀ w₀ L a w E T H nx)(hok:MixNOk vp bp N.n ops C)(h:Region.ready .any ops.toArray L=[]):∀k,k<ops.length->L.getD k false=true:=by
 rcases oQ L ops.length with h1|⟨k,hk,hn,hall⟩
 ·exact h1
 ·exfalso;obtain⟨o,ho⟩:=di hk
  have:k∈Region.ready .any ops.toArray L:=by
   refine mem_ready.2 ⟨?_,o,by simpa using ho,λe he hb=>hall _ ?_⟩
   ·have:k<L.size:=by rw[hI.lsz];exact hk
    simp[this] at hn |-;exact hn
   ·refine hok.dir k o ho e.on ?_;simp only[dN,cC,kW];exact⟨e,⟨by simpa using he,hb⟩,rfl⟩
  rw[h] at this;cases this
theorem NInv.final(hI:NInv vp bp P N ops C S K E₀ w₀ L a w E T H nx)(hok:MixNOk vp bp N.n ops C)(hall:∀k,k<ops.length->L.getD k false=true):K T H nx:=by
 have:c9 C L=[]:=List.filter_eq_nil_iff.2 (λk hk=>by simp[hall k (hok.lt k hk)]);have h:=hI.rest;rw[this] at h;exact h
theorem AM(hvp:VP vp)(hbp:uT P bp){rr:Option Nat}{Q:Exit->Act->World->Prop}(hok:MixNOk vp bp N.n ops C)(hQ:∀E' T' H' nx' a' w',Ext E₀ w₀ E' w'->Sim E' N ⟨T',H',nx'⟩ a' w'->K T' H' nx'->Q .normal a' w'):
    ∀(fuel:Nat)(L:Array Bool)(a:Act)(w:World)(E:Env)(T:Tm)(H:Hp)(nx:Nat),NInv vp bp P N ops C S K E₀ w₀ L a w E T H nx->left ops.length L<=fuel->wpAnyIn (FW rr) 0 P .any ops.toArray Q fuel L a w
 |0,L,a,w,E,T,H,nx,hI,hl=>by
  have hall:∀k,k<ops.length->L.getD k false=true:=by
   rcases oQ L ops.length with h1|⟨k,hk,hn,hall⟩
   ·exact h1
   ·exfalso;have:left ops.length (L.setIfInBounds k true)<left ops.length L:=ig L k _ hk hI.lsz hn;omega
  have hr:Region.ready .any ops.toArray L=[]:=by
   refine G9.2 (λi hi=>?_);obtain⟨o,ho⟩:=ir hI.lsz hi;have:=hall i (bF.1 ho.get).1;rw[ho.not] at this;cases this
  exact⟨hr,hQ E T H nx a w hI.ext hI.sim (hI.final hok hall)⟩
 |fuel+1,L,a,w,E,T,H,nx,hI,hl=>by
  refine⟨λhr=>hQ E T H nx a w hI.ext hI.sim (hI.final hok (hI.some_ready hok hr)),λi hi=>?_⟩;obtain⟨o,ho⟩:=ir hI.lsz hi;refine hI.step hvp hbp hok ho (λa' w' E' T' H' nx' hI'=>AM hvp hbp hok hQ fuel _ a' w' E' T' H' nx' hI' ?_);have:=ig L i ops.length (bF.1 ho.get).1 hI.lsz ho.not;omega
theorem Iz{rr:Option Nat}{Q:Exit->Act->World->Prop}{rid:Nat}(hm:P.follows .mixedOrders=true)(hvp:VP vp)(hbp:uT P bp)(hok:ry vp bp N.n ops C=true)(hS:Sim E₀ N ⟨T,H,nx⟩ a w₀)(hs:Sub S H)
    (h:i5 vp bp P N.n (ops.map (·.dst)) S (C.map (eK bp ops)) T H nx K)
    (hQ:∀E' T' H' nx' a' w',Ext E₀ w₀ E' w'->Sim E' N ⟨T',H',nx'⟩ a' w'->K T' H' nx'->Q .normal a' w'):(Code.region rid ops.toArray true).wpIn (FW rr) 0 P Q a w₀:=by
 refine wpIn_region_any hm ?_;have hdr:({w₀ with drawn:=w₀.drawn+1}:World).heap=w₀.heap:=rfl;have hext:Ext E₀ w₀ E₀ {w₀ with drawn:=w₀.drawn+1}:=Ext.same hdr;have hok:=r8 hok
 have hfalse:∀k,(Array.replicate ops.toArray.size false).getD k false=false:=by
  intro k;simp only[yW,Array.getElem?_replicate];split<;>rfl
 have hrest:c9 C (Array.replicate ops.toArray.size false)=C:=Bh.2 (λk _=>by rw[hfalse];rfl);refine AM (C:=C) (K:=K) (S:=S) (E₀:=E₀) (w₀:=w₀) hvp hbp hok hQ _ _ _ _ E₀ T H nx ⟨by simp,?_,hext,?_,λ_ _ _ _=>hs,by rw[hrest];exact h⟩ (by rw[List.size_toArray];unfold left;exact fu List.countP_le_length (by simp))
 ·intro j i h1;rw[hfalse] at h1;cases h1
 ·exact⟨hS.env.drew,hS.heap.same hdr,hS.fresh,hS.round,hS.floor,hS.size,λt=>(hS.tmps t).ext hext,hS.defers.ext hext⟩
end Go.Abs
namespace Go.Abs
open Go.RowKit
def np(vp:Op->Bool)(bp:BP)(P:Program)(n:Nat)(dsts:List (Option Nat))(S:Hp)(f:Oper×Bool)(l2:List (Oper×Bool)):List (Oper×Bool)->Tm->Hp->Nat->SP->Prop
 |[],T,H,nx,K=>i5 vp bp P n dsts S (f::l2) T H nx K
 |o::l,T,H,nx,K=>(nv vp bp o.1.op=false->i5 vp bp P n dsts S (f::o::(l++l2)) T H nx K)/\kO vp bp P n dsts S o T H nx λT H nx=>np vp bp P n dsts S f l2 l T H nx K
theorem ud{vp:Op->Bool}{bp:BP}{P:Program}{n:Nat}{dsts:List (Option Nat)}{S:Hp}{f:Oper×Bool}{l2:List (Oper×Bool)}{K K':SP}(hK:∀T H nx,K T H nx->K' T H nx):∀(l:List (Oper×Bool)){T:Tm}{H:Hp}{nx:Nat},np vp bp P n dsts S f l2 l T H nx K->np vp bp P n dsts S f l2 l T H nx K'
 |[],_,_,_,h=>mF hK _ h
 |o::l,_,_,_,h=>⟨λhn=>mF hK _ (h.1 hn),gl h.2 (λ_ _ _=>ud hK l)⟩
theorem K9{vp:Op->Bool}{bp:BP}{P:Program}{n:Nat}{ops:List Oper}{S:Hp}{f o:Oper×Bool}{l2 l3:List (Oper×Bool)}{K:SP}:∀(l1:List (Oper×Bool)){T:Tm}{H:Hp}{nx:Nat},(∀x∈l1,FreeN vp bp ops x.1 o.1)->
    np vp bp P n (ops.map (·.dst)) S f l2 (l1++o::l3) T H nx K->kO vp bp P n (ops.map (·.dst)) S o T H nx λT H nx=>np vp bp P n (ops.map (·.dst)) S f l2 (l1++l3) T H nx K
 |[],_,_,_,_,h=>h.2
 |x::l1,T,H,nx,hf,h=>by
  have hx:=hf x (by simp);have h:kO vp bp P n (ops.map (·.dst)) S x T H nx λT H nx=>np vp bp P n (ops.map (·.dst)) S f l2 (l1++o::l3) T H nx K:=h.2
  have h:kO vp bp P n (ops.map (·.dst)) S x T H nx λT H nx=>kO vp bp P n (ops.map (·.dst)) S o T H nx λT H nx=>np vp bp P n (ops.map (·.dst)) S f l2 (l1++l3) T H nx K:=
   gl h (λr H1 nx1 h=>K9 l1 (λy hy=>hf y (by simp[hy])) h)
  refine gl (GY hx h) (λr H1 nx1 h=>⟨λhn=>?_,h⟩);rw[hx.k] at hn;cases hn
theorem KV{vp:Op->Bool}{bp:BP}{P:Program}{n:Nat}{ops:List Oper}{S:Hp}{f:Oper×Bool}{l2:List (Oper×Bool)}{K:SP}:∀(l:List (Oper×Bool)){T:Tm}{H:Hp}{nx:Nat},(∀x∈l,nv vp bp x.1.op=true->FreeN vp bp ops x.1 f.1)->
    np vp bp P n (ops.map (·.dst)) S f l2 l T H nx K->kO vp bp P n (ops.map (·.dst)) S f T H nx λT H nx=>i5 vp bp P n (ops.map (·.dst)) S (l++l2) T H nx K
 |[],_,_,_,_,h=>h
 |x::l,T,H,nx,hf,h=>by
  cases hn:nv vp bp x.1.op with
  |false=>exact h.1 hn
  |true=>
   have h:=h.2;exact GY (hf x (by simp) hn) (gl h (λr H1 nx1 h=>KV l (λy hy=>hf y (by simp[hy])) h))
def y6(vp:Op->Bool)(bp:BP)(n:Nat)(ops:List Oper)(f:Nat)(C D:List Nat):Bool:=
 let m:=Region.before ops.toArray
 let len:=ops.length
 ((List.range len).all λj=>(dN (ops.getD j default)).all λk=>k<j)&&
 ((List.range len).all λj=>(List.range len).all λi=>!dU m j i || (dN (ops.getD j default)).any λk=>k==i || dU m k i)&&
 (sg (λk i=>k !=i&&((ops.getD i default).dst.isNone || (ops.getD i default).dst !=(ops.getD k default).dst)&&(dU m i k || freeNB vp bp ops (ops.getD k default) (ops.getD i default))) (C++D))&&
 ((List.range len).all λi=>i==f || (C++D).contains i)&&((C++D).all λi=>i<len&&i !=f)&&decide (f<len)&&((List.range len).all λi=>dok n (ops.getD i default).dst)&&
 (C.all λk=>!nv vp bp (ops.getD k default).op || freeNB vp bp ops (ops.getD k default) (ops.getD f default))&&(D.all λk=>dU m k f)&& !yY bp (ops.getD f default).op
structure MixFOk(vp:Op->Bool)(bp:BP)(n:Nat)(ops:List Oper)(f:Nat)(C D:List Nat):Prop where
 dir:∀(j:Nat)(o:Oper),ops[j]?=some o->∀k∈dN o,k<j
 clo:∀(j:Nat)(o:Oper)(i:Nat),ops[j]?=some o->i<ops.length->dU (Region.before ops.toArray) j i=true->∃k∈dN o,k=i\/dU (Region.before ops.toArray) k i=true
 pw:(C++D).Pairwise (λk i=>k≠i/\(∀t,(ops.getD i default).dst=some t->(ops.getD k default).dst≠some t)/\(dU (Region.before ops.toArray) i k=true\/FreeN vp bp ops (ops.getD k default) (ops.getD i default)))
 all:∀i,i<ops.length->i=f\/i∈C++D
 lt:∀i∈C++D,i<ops.length/\i≠f
 fl:f<ops.length
 dk:∀(i:Nat)(o:Oper),ops[i]?=some o->dok n o.dst=true
 fr:∀k∈C,nv vp bp (ops.getD k default).op=true->FreeN vp bp ops (ops.getD k default) (ops.getD f default)
 dep:∀k∈D,dU (Region.before ops.toArray) k f=true
theorem Fm{vp:Op->Bool}{bp:BP}{n:Nat}{ops:List Oper}{f:Nat}{C D:List Nat}(h:y6 vp bp n ops f C D=true):MixFOk vp bp n ops f C D:=by
 simp only[y6,eN,iC] at h;obtain⟨⟨⟨⟨⟨⟨⟨⟨⟨h1,h2⟩,h3⟩,h4⟩,h5⟩,h6⟩,h7⟩,h8⟩,h9⟩,_⟩:=h;rw[dS] at h1 h2 h4 h5 h7 h8 h9;have hlt:=λ{k:Nat}{o:Oper}(hk:ops[k]?=some o)=>(bF.1 hk).1;refine⟨λj o ho k hk=>?_,λj o i ho hi hb=>?_,(oZ h3).imp (λ{k i} h=>?_),λi hi=>?_,λi hi=>?_,h6,λi o ho=>?_,λk hk hn=>?_,λk hk=>h9 k hk⟩
 ·have:=h1 j (gI.2 (hlt ho));rw[dS] at this;have:=this k (by rw[cX ho];exact hk);simpa using this
 ·have:=h2 j (gI.2 (hlt ho));rw[dS] at this;have:=this i (gI.2 hi);rw[cX ho,hb] at this;simp only[Bool.not_true,Bool.false_or,qS,lM,beq_iff_eq] at this;exact this
 ·simp only[eN,lM] at h;obtain⟨⟨h7,h8⟩,h9⟩:=h;refine⟨by simpa using h7,λt ht=>?_,h9.imp id rC⟩;rw[ht] at h8;simp at h8;exact λe=>h8 e.symm
 ·have:=h4 i (gI.2 hi);simpa using this
 ·have:=h5 i hi;simpa using this
 ·have:=h7 i (gI.2 (hlt ho));rw[cX ho] at this;exact this
 ·have:=h8 k hk;rw[hn] at this;exact rC (by simpa using this)
structure FInv(vp:Op->Bool)(bp:BP)(P:Program)(N:Cfg)(ops:List Oper)(f:Nat)(C D:List Nat)(S:Hp)(K:SP)(E₀:Env)(w₀:World)(L:Array Bool)(a:Act)(w:World)(E:Env)(T:Tm)(H:Hp)(nx:Nat):Prop where
 lsz:L.size=ops.length
 dc:∀j i,L.getD j false=true->dU (Region.before ops.toArray) j i=true->i<ops.length->L.getD i false=true
 ext:Ext E₀ w₀ E w
 sim:Sim E N ⟨T,H,nx⟩ a w
 st:∀j,j<ops.length->yY bp (ops.getD j default).op=true->L.getD j false=false->Sub S H
 rest:(L.getD f false=false/\np vp bp P N.n (ops.map (·.dst)) S (eK bp ops f) (D.map (eK bp ops)) ((c9 C L).map (eK bp ops)) T H nx K)\/(L.getD f false=true/\i5 vp bp P N.n (ops.map (·.dst)) S ((c9 (C++D) L).map (eK bp ops)) T H nx K)
variable{vp:Op->Bool}{bp:BP}{P:Program}{N:Cfg}{ops:List Oper}{f:Nat}{C D:List Nat}{S:Hp}{K:SP}{E₀:Env}{w₀:World}{L:Array Bool}{a:Act}{w:World}{E:Env}{T:Tm}{H:Hp}{nx:Nat}
theorem FInv.bits(hI:FInv vp bp P N ops f C D S K E₀ w₀ L a w E T H nx)(hok:MixFOk vp bp N.n ops f C D){i:Nat}{o:Oper}(hr:Ready ops L i o){k:Nat}(hk:k<ops.length)(hb:dU (Region.before ops.toArray) i k=true):L.getD k false=true:=by
 obtain⟨q,hq,h⟩:=hok.clo i o k hr.get hk hb;rcases h with rfl|h
 ·exact hr.dir _ hq
 ·exact hI.dc q k (hr.dir _ hq) h hk
theorem ya{C:List Nat}{L:Array Bool}{i:Nat}(hil:i<L.size)(h:i∉C):c9 C (L.setIfInBounds i true)=c9 C L:=by
 unfold c9;refine List.filter_congr λk hk=>?_;rw[ee L i k hil,if_neg λe=>h (by rw[<-e];exact hk)]
theorem FInv.step(hvp:VP vp)(hbp:uT P bp){rr:Option Nat}{Q:Exit->Act->World->Prop}{K':Act->World->Prop}(hI:FInv vp bp P N ops f C D S K E₀ w₀ L a w E T H nx)(hok:MixFOk vp bp N.n ops f C D){i:Nat}{o:Oper}(hr:Ready ops L i o)
    (hK:∀a' w' E' T' H' nx',FInv vp bp P N ops f C D S K E₀ w₀ (L.setIfInBounds i true) a' w' E' T' H' nx'->K' a' w'):wpOpIn (FW rr) 0 P ops.toArray Q i K' a w:=by
 have hi:i<ops.length:=(bF.1 hr.get).1;have hil:i<L.size:=by rw[hI.lsz];exact hi
 have hgeti:(ops.toArray)[i]?=some o:=by simpa using hr.get
 unfold wpOpIn;rw[hgeti];simp only;have hgo:ops.getD i default=o:=cX hr.get;have hpo:eK bp ops i=(o,gG bp ops i):=by unfold eK;rw[hgo]
 have hset:=λk=>ee L i k hil
 have hDn:L.getD f false=false->c9 D L=D:=λhf=>Bh.2 λk hk=>by
  cases hb:L.getD k false with
  |false=>rfl
  |true=>
   have:=hI.dc k f hb (hok.dep k hk) hok.fl;rw[hf] at this;cases this
 have hld:yY bp o.op=true->Sub S H:=λh=>hI.st i hi (by rw[hgo];exact h) hr.not
 have main:kO vp bp P N.n (ops.map (·.dst)) S (o,gG bp ops i) T H nx λT' H' nx'=>((L.setIfInBounds i true).getD f false=false/\np vp bp P N.n (ops.map (·.dst)) S (eK bp ops f) (D.map (eK bp ops)) ((c9 C (L.setIfInBounds i true)).map (eK bp ops)) T' H' nx' K)\/((L.setIfInBounds i true).getD f false=true/\i5 vp bp P N.n (ops.map (·.dst)) S ((c9 (C++D) (L.setIfInBounds i true)).map (eK bp ops)) T' H' nx' K):=by
  rcases hI.rest with⟨hf,hrest⟩|⟨hf,hrest⟩
  ·by_cases hif:i=f
   ·subst hif
    have ht:=KV (ops:=ops) ((c9 C L).map (eK bp ops)) (fun x hx hn=>by
     obtain⟨k,hk,rfl⟩:=cC.1 hx;exact hok.fr k (kW.1 hk).1 hn) hrest
    rw[hpo] at ht;refine gl ht (λr H1 nx1 h=>.inr ⟨by rw[hset,if_pos rfl],?_⟩);have hnC:i∉C++D:=λq=>(hok.lt i q).2 rfl;rw[ya hil hnC]
    have:c9 (C++D) L=c9 C L++D:=by
     unfold c9;rw[Ha]
     congr 1
     exact hDn hf
    rw[this,dv];exact h
   ·have hiC:i∈C:=by
      rcases hok.all i hi with h|h
      ·exact absurd h hif
      ·rcases mL.1 h with h|h
       ·exact h
       ·have:=hI.bits hok hr hok.fl (hok.dep i h);rw[hf] at this;cases this
    have hmem:i∈c9 C L:=kW.2 ⟨hiC,by rw[hr.not];rfl⟩;have pwC:C.Pairwise _:=(List.pairwise_append.1 hok.pw).1;obtain⟨l1,l2,e1,e2,f1⟩:=nM pwC hmem hil
    have hfree:∀k∈l1,FreeN vp bp ops (ops.getD k default) o:=by
     intro k hk;rcases f1 k hk with h|h
     ·have hkC:k∈c9 C L:=by rw[e1];simp[hk]
      obtain⟨h1,h2⟩:=kW.1 hkC;have:=hI.bits hok hr (hok.lt k (qD _ h1)).1 h;rw[this] at h2;cases h2
     ·rw[hgo] at h;exact h
    rw[e1,dv,fY,hpo] at hrest
    have hpull:=K9 (o:=(o,gG bp ops i)) (l1.map (eK bp ops)) (fun x hx=>by
     obtain⟨k,hk,rfl⟩:=cC.1 hx;exact hfree k hk) hrest
    refine gl hpull (λr H1 nx1 h=>.inl ⟨by rw[hset,if_neg λe=>hif e.symm];exact hf,?_⟩);rw[e2,dv];exact h
  ·have hif:i≠f:=λe=>by
     rw[<-e,hr.not] at hf;cases hf
   have hiC:i∈C++D:=(hok.all i hi).resolve_left hif;have hmem:i∈c9 (C++D) L:=kW.2 ⟨hiC,by rw[hr.not];rfl⟩;obtain⟨l1,l2,e1,e2,f1⟩:=nM hok.pw hmem hil
   have hfree:∀k∈l1,FreeN vp bp ops (ops.getD k default) o:=by
    intro k hk;rcases f1 k hk with h|h
    ·have hkC:k∈c9 (C++D) L:=by rw[e1];simp[hk]
     obtain⟨h1,h2⟩:=kW.1 hkC;have:=hI.bits hok hr (hok.lt k h1).1 h;rw[this] at h2;cases h2
    ·rw[hgo] at h;exact h
   rw[e1,dv,fY,hpo] at hrest
   have hpull:=HW (o:=(o,gG bp ops i)) (l1.map (eK bp ops)) (fun x hx=>by
    obtain⟨k,hk,rfl⟩:=cC.1 hx;exact hfree k hk) hrest
   refine gl hpull (λr H1 nx1 h=>.inr ⟨by rw[hset];split<;>first|rfl|exact hf,?_⟩);rw[e2,dv];exact h
 have hs:=jC (rr:=rr) (ops:=ops.toArray) (Q:=Q) (next:=K') hI.sim (Bu hvp hbp hld main) (λE' T' H' nx' a' w' he hS hk=>?_)
 ·exact hs
 ·obtain⟨hkeep,hk⟩:=hk;refine hK a' w' E' T' H' nx' ⟨by simp[hI.lsz],?_,hI.ext.trans he,hS,?_,hk⟩
  ·intro j k hj hb hkl;rw[hset] at hj |-;by_cases hki:k=i
   ·rw[if_pos hki]
   ·rw[if_neg hki];by_cases hji:j=i
    ·subst hji;exact hI.bits hok hr hkl hb
    ·rw[if_neg hji] at hj;exact hI.dc j k hj hb hkl
  ·intro j hj hl hn;rw[hset] at hn;by_cases hji:j=i
   ·rw[if_pos hji] at hn;cases hn
   rw[if_neg hji] at hn;rcases hkeep with rfl|hkeep
   ·exact hI.st j hj hl hn
   ·refine hkeep ?_;show gG bp ops i=true;unfold gG;rw[qS];refine⟨j,gI.2 hj,?_⟩;rw[eN,eN];refine⟨⟨by simpa using hji,hl⟩,?_⟩;cases hb:dU (Region.before ops.toArray) i j with
    |false=>rfl
    |true=>
     have:=hI.bits hok hr hj hb;rw[this] at hn;cases hn
theorem FInv.some_ready(hI:FInv vp bp P N ops f C D S K E₀ w₀ L a w E T H nx)(hok:MixFOk vp bp N.n ops f C D)(h:Region.ready .any ops.toArray L=[]):∀k,k<ops.length->L.getD k false=true:=by
 rcases oQ L ops.length with h1|⟨k,hk,hn,hall⟩
 ·exact h1
 ·exfalso;obtain⟨o,ho⟩:=di hk
  have:k∈Region.ready .any ops.toArray L:=by
   refine mem_ready.2 ⟨?_,o,by simpa using ho,λe he hb=>hall _ ?_⟩
   ·have:k<L.size:=by rw[hI.lsz];exact hk
    simp[this] at hn |-;exact hn
   ·refine hok.dir k o ho e.on ?_;simp only[dN,cC,kW];exact⟨e,⟨by simpa using he,hb⟩,rfl⟩
  rw[h] at this;cases this
theorem FInv.final(hI:FInv vp bp P N ops f C D S K E₀ w₀ L a w E T H nx)(hok:MixFOk vp bp N.n ops f C D)(hall:∀k,k<ops.length->L.getD k false=true):K T H nx:=by
 rcases hI.rest with⟨hf,_⟩|⟨hf,h⟩
 ·rw[hall f hok.fl] at hf;cases hf
 ·have:c9 (C++D) L=[]:=List.filter_eq_nil_iff.2 (λk hk=>by simp[hall k (hok.lt k hk).1]);rw[this] at h;exact h
theorem zL(hvp:VP vp)(hbp:uT P bp){rr:Option Nat}{Q:Exit->Act->World->Prop}(hok:MixFOk vp bp N.n ops f C D)(hQ:∀E' T' H' nx' a' w',Ext E₀ w₀ E' w'->Sim E' N ⟨T',H',nx'⟩ a' w'->K T' H' nx'->Q .normal a' w'):
    ∀(fuel:Nat)(L:Array Bool)(a:Act)(w:World)(E:Env)(T:Tm)(H:Hp)(nx:Nat),FInv vp bp P N ops f C D S K E₀ w₀ L a w E T H nx->left ops.length L<=fuel->wpAnyIn (FW rr) 0 P .any ops.toArray Q fuel L a w
 |0,L,a,w,E,T,H,nx,hI,hl=>by
  have hall:∀k,k<ops.length->L.getD k false=true:=by
   rcases oQ L ops.length with h1|⟨k,hk,hn,hall⟩
   ·exact h1
   ·exfalso;have:left ops.length (L.setIfInBounds k true)<left ops.length L:=ig L k _ hk hI.lsz hn;omega
  have hr:Region.ready .any ops.toArray L=[]:=by
   refine G9.2 (λi hi=>?_);obtain⟨o,ho⟩:=ir hI.lsz hi;have:=hall i (bF.1 ho.get).1;rw[ho.not] at this;cases this
  exact⟨hr,hQ E T H nx a w hI.ext hI.sim (hI.final hok hall)⟩
 |fuel+1,L,a,w,E,T,H,nx,hI,hl=>by
  refine⟨λhr=>hQ E T H nx a w hI.ext hI.sim (hI.final hok (hI.some_ready hok hr)),λi hi=>?_⟩;obtain⟨o,ho⟩:=ir hI.lsz hi;refine hI.step hvp hbp hok ho (λa' w' E' T' H' nx' hI'=>zL hvp hbp hok hQ fuel _ a' w' E' T' H' nx' hI' ?_);have:=ig L i ops.length (bF.1 ho.get).1 hI.lsz ho.not;omega
theorem JA{rr:Option Nat}{Q:Exit->Act->World->Prop}{rid:Nat}(hm:P.follows .mixedOrders=true)(hvp:VP vp)(hbp:uT P bp)(hok:y6 vp bp N.n ops f C D=true)(hS:Sim E₀ N ⟨T,H,nx⟩ a w₀)(hs:Sub S H)
    (h:np vp bp P N.n (ops.map (·.dst)) S (eK bp ops f) (D.map (eK bp ops)) (C.map (eK bp ops)) T H nx K)
    (hQ:∀E' T' H' nx' a' w',Ext E₀ w₀ E' w'->Sim E' N ⟨T',H',nx'⟩ a' w'->K T' H' nx'->Q .normal a' w'):(Code.region rid ops.toArray true).wpIn (FW rr) 0 P Q a w₀:=by
 refine wpIn_region_any hm ?_;have hdr:({w₀ with drawn:=w₀.drawn+1}:World).heap=w₀.heap:=rfl;have hext:Ext E₀ w₀ E₀ {w₀ with drawn:=w₀.drawn+1}:=Ext.same hdr;have hok:=Fm hok
 have hfalse:∀k,(Array.replicate ops.toArray.size false).getD k false=false:=by
  intro k;simp only[yW,Array.getElem?_replicate];split<;>rfl
 have hrest:c9 C (Array.replicate ops.toArray.size false)=C:=Bh.2 (λk _=>by rw[hfalse];rfl);refine zL (f:=f) (C:=C) (D:=D) (K:=K) (S:=S) (E₀:=E₀) (w₀:=w₀) hvp hbp hok hQ _ _ _ _ E₀ T H nx ⟨by simp,?_,hext,?_,λ_ _ _ _=>hs,.inl ⟨hfalse f,by rw[hrest];exact h⟩⟩ (by rw[List.size_toArray];unfold left;exact fu List.countP_le_length (by simp))
 ·intro j i h1;rw[hfalse] at h1;cases h1
 ·exact⟨hS.env.drew,hS.heap.same hdr,hS.fresh,hS.round,hS.floor,hS.size,λt=>(hS.tmps t).ext hext,hS.defers.ext hext⟩
end Go.Abs
namespace Go.Abs
open Go.RowKit
def xo(ops:List Oper):Bool:=
 let m:=Region.before ops.toArray
 let len:=ops.length
 ((List.range len).all λj=>(dN (ops.getD j default)).all λk=>k<j)&&
 ((List.range len).all λj=>(List.range len).all λi=>!dU m j i || (dN (ops.getD j default)).any λk=>k==i || dU m k i)
structure AnyOk(ops:List Oper):Prop where
 dir:∀(j:Nat)(o:Oper),ops[j]?=some o->∀k∈dN o,k<j
 clo:∀(j:Nat)(o:Oper)(i:Nat),ops[j]?=some o->i<ops.length->dU (Region.before ops.toArray) j i=true->∃k∈dN o,k=i\/dU (Region.before ops.toArray) k i=true
theorem F9{ops:List Oper}(h:xo ops=true):AnyOk ops:=by
 simp only[xo,eN] at h;obtain⟨h1,h2⟩:=h;rw[dS] at h1 h2;have hlt:=λ{k:Nat}{o:Oper}(hk:ops[k]?=some o)=>(bF.1 hk).1;refine⟨λj o ho k hk=>?_,λj o i ho hi hb=>?_⟩
 ·have:=h1 j (gI.2 (hlt ho));rw[dS] at this;have:=this k (by rw[cX ho];exact hk);simpa using this
 ·have:=h2 j (gI.2 (hlt ho));rw[dS] at this;have:=this i (gI.2 hi);rw[cX ho,hb] at this;simp only[Bool.not_true,Bool.false_or,qS,lM,beq_iff_eq] at this;exact this
structure ByInv(P:Program)(n:Nat)(ops:List Oper)(I:(Nat->Bool)->Tm->Hp->Nat->Prop)(T:Tm)(H:Hp)(nx:Nat)(K:SP):Prop where
 start:I (λ_=>false) T H nx
 step:∀(i:Nat)(L:Nat->Bool)(T:Tm)(H:Hp)(nx:Nat),i<ops.length->L i=false->(∀k,k<ops.length->dU (Region.before ops.toArray) i k=true->L k=true)->I L T H nx->
  aop P n .text (ops.map (·.dst)) (ops.getD i default) T H nx (I λk=>L k || decide (k=i))
 last:∀(L:Nat->Bool)(T:Tm)(H:Hp)(nx:Nat),(∀k,k<ops.length->L k=true)->I L T H nx->K T H nx
theorem ByInv.mono{P:Program}{n:Nat}{ops:List Oper}{I:(Nat->Bool)->Tm->Hp->Nat->Prop}{T:Tm}{H:Hp}{nx:Nat}{K K':SP}(h:ByInv P n ops I T H nx K)(hK:∀T H nx,K T H nx->K' T H nx):ByInv P n ops I T H nx K':=
 ⟨h.start,h.step,λL T H nx h1 h2=>hK _ _ _ (h.last L T H nx h1 h2)⟩
structure GInv(N:Cfg)(ops:List Oper)(I:(Nat->Bool)->Tm->Hp->Nat->Prop)(E₀:Env)(w₀:World)(L:Array Bool)(a:Act)(w:World)(E:Env)(T:Tm)(H:Hp)(nx:Nat):Prop where
 lsz:L.size=ops.length
 dc:∀j i,L.getD j false=true->dU (Region.before ops.toArray) j i=true->i<ops.length->L.getD i false=true
 ext:Ext E₀ w₀ E w
 sim:Sim E N ⟨T,H,nx⟩ a w
 inv:I (λk=>L.getD k false) T H nx
variable{P:Program}{N:Cfg}{ops:List Oper}{I:(Nat->Bool)->Tm->Hp->Nat->Prop}{K:SP}{E₀:Env}{w₀:World}{L:Array Bool}{a:Act}{w:World}{E:Env}{T:Tm}{H:Hp}{nx:Nat}{T₀:Tm}{H₀:Hp}{nx₀:Nat}
theorem GInv.bits(hI:GInv N ops I E₀ w₀ L a w E T H nx)(hok:AnyOk ops){i:Nat}{o:Oper}(hr:Ready ops L i o){k:Nat}(hk:k<ops.length)(hb:dU (Region.before ops.toArray) i k=true):L.getD k false=true:=by
 obtain⟨q,hq,h⟩:=hok.clo i o k hr.get hk hb;rcases h with rfl|h
 ·exact hr.dir _ hq
 ·exact hI.dc q k (hr.dir _ hq) h hk
theorem GInv.step{rr:Option Nat}{Q:Exit->Act->World->Prop}{K':Act->World->Prop}(hI:GInv N ops I E₀ w₀ L a w E T H nx)(hok:AnyOk ops)(hby:ByInv P N.n ops I T₀ H₀ nx₀ K){i:Nat}{o:Oper}(hr:Ready ops L i o)
    (hK:∀a' w' E' T' H' nx',GInv N ops I E₀ w₀ (L.setIfInBounds i true) a' w' E' T' H' nx'->K' a' w'):wpOpIn (FW rr) 0 P ops.toArray Q i K' a w:=by
 have hi:i<ops.length:=(bF.1 hr.get).1;have hil:i<L.size:=by rw[hI.lsz];exact hi
 have hgeti:(ops.toArray)[i]?=some o:=by simpa using hr.get
 unfold wpOpIn;rw[hgeti];simp only;have hgo:ops.getD i default=o:=cX hr.get;have hset:=λk=>ee L i k hil;have main:=hby.step i (λk=>L.getD k false) T H nx hi hr.not (λk hk hb=>hI.bits hok hr hk hb) hI.inv;rw[hgo] at main
 have e:(λk=>(L.setIfInBounds i true).getD k false)=λk=>L.getD k false || decide (k=i):=funext λk=>by
  rw[hset];by_cases hk:k=i
  ·rw[if_pos hk,bV hk,Bool.or_true]
  ·rw[if_neg hk,bR hk,Bool.or_false]
 have hs:=jC (rr:=rr) (ops:=ops.toArray) (Q:=Q) (next:=K') hI.sim main (λE' T' H' nx' a' w' he hS hk=>?_)
 ·exact hs
 ·refine hK a' w' E' T' H' nx' ⟨by simp[hI.lsz],?_,hI.ext.trans he,hS,?_⟩
  ·intro j k hj hb hkl;rw[hset] at hj |-;by_cases hki:k=i
   ·rw[if_pos hki]
   ·rw[if_neg hki];by_cases hji:j=i
    ·subst hji;exact hI.bits hok hr hkl hb
    ·rw[if_neg hji] at hj;exact hI.dc j k hj hb hkl
  ·rw[e];exact hk
theorem GInv.some_ready(hI:GInv N ops I E₀ w₀ L a w E T H nx)(hok:AnyOk ops)(h:Region.ready .any ops.toArray L=[]):∀k,k<ops.length->L.getD k false=true:=by
 rcases oQ L ops.length with h1|⟨k,hk,hn,hall⟩
 ·exact h1
 ·exfalso;obtain⟨o,ho⟩:=di hk
  have:k∈Region.ready .any ops.toArray L:=by
   refine mem_ready.2 ⟨?_,o,by simpa using ho,λe he hb=>hall _ ?_⟩
   ·have:k<L.size:=by rw[hI.lsz];exact hk
    simp[this] at hn |-;exact hn
   ·refine hok.dir k o ho e.on ?_;simp only[dN,cC,kW];exact⟨e,⟨by simpa using he,hb⟩,rfl⟩
  rw[h] at this;cases this
theorem D6{rr:Option Nat}{Q:Exit->Act->World->Prop}(hok:AnyOk ops)(hby:ByInv P N.n ops I T₀ H₀ nx₀ K)(hQ:∀E' T' H' nx' a' w',Ext E₀ w₀ E' w'->Sim E' N ⟨T',H',nx'⟩ a' w'->K T' H' nx'->Q .normal a' w'):
    ∀(fuel:Nat)(L:Array Bool)(a:Act)(w:World)(E:Env)(T:Tm)(H:Hp)(nx:Nat),GInv N ops I E₀ w₀ L a w E T H nx->left ops.length L<=fuel->wpAnyIn (FW rr) 0 P .any ops.toArray Q fuel L a w
 |0,L,a,w,E,T,H,nx,hI,hl=>by
  have hall:∀k,k<ops.length->L.getD k false=true:=by
   rcases oQ L ops.length with h1|⟨k,hk,hn,hall⟩
   ·exact h1
   ·exfalso;have:left ops.length (L.setIfInBounds k true)<left ops.length L:=ig L k _ hk hI.lsz hn;omega
  have hr:Region.ready .any ops.toArray L=[]:=by
   refine G9.2 (λi hi=>?_);obtain⟨o,ho⟩:=ir hI.lsz hi;have:=hall i (bF.1 ho.get).1;rw[ho.not] at this;cases this
  exact⟨hr,hQ E T H nx a w hI.ext hI.sim (hby.last _ T H nx hall hI.inv)⟩
 |fuel+1,L,a,w,E,T,H,nx,hI,hl=>by
  refine⟨λhr=>hQ E T H nx a w hI.ext hI.sim (hby.last _ T H nx (hI.some_ready hok hr) hI.inv),λi hi=>?_⟩;obtain⟨o,ho⟩:=ir hI.lsz hi;refine hI.step hok hby ho (λa' w' E' T' H' nx' hI'=>D6 hok hby hQ fuel _ a' w' E' T' H' nx' hI' ?_);have:=ig L i ops.length (bF.1 ho.get).1 hI.lsz ho.not;omega
theorem Mu{rr:Option Nat}{Q:Exit->Act->World->Prop}{rid:Nat}(hm:P.follows .mixedOrders=true)(hok:xo ops=true)(hS:Sim E₀ N ⟨T,H,nx⟩ a w₀)(h:ByInv P N.n ops I T H nx K)
    (hQ:∀E' T' H' nx' a' w',Ext E₀ w₀ E' w'->Sim E' N ⟨T',H',nx'⟩ a' w'->K T' H' nx'->Q .normal a' w'):(Code.region rid ops.toArray true).wpIn (FW rr) 0 P Q a w₀:=by
 refine wpIn_region_any hm ?_;have hdr:({w₀ with drawn:=w₀.drawn+1}:World).heap=w₀.heap:=rfl;have hext:Ext E₀ w₀ E₀ {w₀ with drawn:=w₀.drawn+1}:=Ext.same hdr;have hok:=F9 hok
 have hfalse:∀k,(Array.replicate ops.toArray.size false).getD k false=false:=by
  intro k;simp only[yW,Array.getElem?_replicate];split<;>rfl
 have hif:(λk=>(Array.replicate ops.toArray.size false).getD k false)=λ_=>false:=funext hfalse;refine D6 (I:=I) (K:=K) (E₀:=E₀) (w₀:=w₀) hok h hQ _ _ _ _ E₀ T H nx ⟨by simp,?_,hext,?_,by rw[hif];exact h.start⟩ (by rw[List.size_toArray];unfold left;exact fu List.countP_le_length (by simp))
 ·intro j i h1;rw[hfalse] at h1;cases h1
 ·exact⟨hS.env.drew,hS.heap.same hdr,hS.fresh,hS.round,hS.floor,hS.size,λt=>(hS.tmps t).ext hext,hS.defers.ext hext⟩
end Go.Abs
namespace Go.Abs
open Go.RowKit
def awp(P:Program)(n:Nat):Code->Tm->Hp->Nat->CP->Prop
 |.skip,T,H,nx,K=>K .normal T H nx
 |.label _,T,H,nx,K=>K .normal T H nx
 |.region _ ops draw,T₀,H₀,nx₀,K=>∃T H nx Hf,Gh T₀ H₀ nx₀ T H nx Hf/\match draw with
  |true=>(if drawOk false ops.toList=true then rI P n .draw (ops.toList.map (·.dst)) ops.toList T H nx (K .normal) else aM (drawOk true ops.toList) (rI P n (.fresh nx) (ops.toList.map (·.dst)) ops.toList T H nx (K .normal)))\/
   (∃vp C,VP vp/\zJ vp n ops.toList C=true/\nk vp P n (ops.toList.map (·.dst)) (C.map λk=>ops.toList.getD k default) T H nx (K .normal))\/
   (∃vp bp C S,VP vp/\uT P bp/\ry vp bp n ops.toList C=true/\Sub S H/\i5 vp bp P n (ops.toList.map (·.dst)) S (C.map (eK bp ops.toList)) T H nx (K .normal))\/
   (∃vp bp f C D S,VP vp/\uT P bp/\y6 vp bp n ops.toList f C D=true/\Sub S H/\np vp bp P n (ops.toList.map (·.dst)) S (eK bp ops.toList f) (D.map (eK bp ops.toList)) (C.map (eK bp ops.toList)) T H nx (K .normal))\/
   ∃I,xo ops.toList=true/\ByInv P n ops.toList I T H nx (K .normal)
  |false=>rI P n .text (ops.toList.map (·.dst)) ops.toList T H nx (K .normal)
 |.seq x y,T,H,nx,K=>awp P n x T H nx λe T H nx=>aO e (awp P n y T H nx K) (K e T H nx)
 |.cond c x y,T,H,nx,K=>a7 (ev T c) (awp P n x T H nx K) (awp P n y T H nx K)
 |.block id b,T,H,nx,K=>awp P n b T H nx λe T H nx=>K (rR id e) T H nx
 |.loop b,T,H,nx,K=>aY (awp P n b) T H nx K
 |.exit id,T,H,nx,K=>K (.exit id) T H nx
 |.ret,T,H,nx,K=>K .ret T H nx
 |.rangeFunc g ps x y,T,H,nx,K=>RF P n (.rangeFunc g ps x y) T H nx K
 |_,_,_,_,_=>False
theorem f9{P:Program}{N:Nat}:∀(c:Code){T:Tm}{H:Hp}{nx:Nat}{K K':CP},awp P N c T H nx K->(∀e T H nx,K e T H nx->K' e T H nx)->awp P N c T H nx K'
 |.skip,_,_,_,_,_,h,hK=>hK _ _ _ _ h
 |.label _,_,_,_,_,_,h,hK=>hK _ _ _ _ h
 |.exit _,_,_,_,_,_,h,hK=>hK _ _ _ _ h
 |.ret,_,_,_,_,_,h,hK=>hK _ _ _ _ h
 |.region _ ops draw,_,_,_,_,_,h,hK=>by
  obtain⟨T,H,nx,Hf,hg,h⟩:=h;refine⟨T,H,nx,Hf,hg,?_⟩;cases draw with
  |true=>
   simp only at h |-;rcases h with h|⟨vp,C,h0,h1,h3⟩|⟨vp,bp,C,S,h0,hbp,h1,hs,h3⟩|⟨vp,bp,f,C,D,S,h0,hbp,h1,hs,h3⟩|⟨I,h1,h3⟩
   ·left;split
    ·rename_i hd;rw[if_pos hd] at h;exact l5 (hK .normal) _ h
    ·rename_i hd;rw[if_neg hd] at h;exact⟨h.1,l5 (hK .normal) _ h.2⟩
   ·exact .inr (.inl ⟨vp,C,h0,h1,vS (hK .normal) _ h3⟩)
   ·exact .inr (.inr (.inl ⟨vp,bp,C,S,h0,hbp,h1,hs,mF (hK .normal) _ h3⟩))
   ·exact .inr (.inr (.inr (.inl ⟨vp,bp,f,C,D,S,h0,hbp,h1,hs,ud (hK .normal) _ h3⟩)))
   ·exact .inr (.inr (.inr (.inr ⟨I,h1,h3.mono (hK .normal)⟩)))
  |false=>exact l5 (hK .normal) _ h
 |.seq x y,_,_,_,K,K',h,hK=>by
  refine f9 x h (λe T H nx h=>?_);cases e with
  |normal=>exact f9 y h hK
  |exit i=>exact hK _ _ _ _ h
  |ret=>exact hK _ _ _ _ h
 |.cond c x y,T,H,nx,K,K',h,hK=>by
  simp only[awp] at h |-;unfold a7 at h |-;split at h
  ·exact⟨λhb=>f9 x (h.1 hb) hK,λhb=>f9 y (h.2 hb) hK⟩
  ·exact h
 |.block id b,_,_,_,_,_,h,hK=>f9 b h (λe T H nx h=>hK _ _ _ _ h)
 |.loop b,T,H,nx,K,K',h,hK=>by
  obtain⟨n,h⟩:=h;refine⟨n,?_⟩
  induction n generalizing T H nx with
  |zero=>exact h
  |succ n ih=>
   obtain⟨T',H',nx',Hf,hw,h⟩:=h;refine⟨T',H',nx',Hf,hw,f9 b h (λe T H nx h=>?_)⟩;cases e with
   |normal=>exact ih _ _ _ h
   |exit i=>exact hK _ _ _ _ h
   |ret=>exact hK _ _ _ _ h
 |.rangeFunc ..,_,_,_,_,_,h,hK=>h.mono hK
 |.scope _,_,_,_,_,_,h,_=>h
 |.goto _,_,_,_,_,_,h,_=>h
 |.refuse _,_,_,_,_,_,h,_=>h
theorem gg{P:Program}{N:Cfg}(hm:P.follows .mixedOrders=true):∀(c:Code){E:Env}{T:Tm}{H:Hp}{nx:Nat}{a:Act}{w:World}{K:CP},Sim E N ⟨T,H,nx⟩ a w->
    awp P N.n c T H nx K->c.wpIn (FW N.rd) 0 P (jQ P N E w K) a w
 |.skip,_,_,_,_,_,_,_,hS,h=>wpIn_skip ⟨.normal,_,_,_,_,rfl,Ext.refl _ _,hS,h⟩
 |.label _,_,_,_,_,_,_,_,hS,h=>wpIn_label ⟨.normal,_,_,_,_,rfl,Ext.refl _ _,hS,h⟩
 |.exit i,_,_,_,_,_,_,_,hS,h=>wpIn_exit ⟨.exit i,_,_,_,_,rfl,Ext.refl _ _,hS,h⟩
 |.ret,_,_,_,_,_,_,_,hS,h=>wpIn_ret ⟨.ret,_,_,_,_,rfl,Ext.refl _ _,hS,h⟩
 |.region id ops draw,E₁,T₁,H₁,nx₁,a,w,K,hS₁,h=>by
  obtain⟨T,H,nx,Hf,hg,h⟩:=h;obtain⟨E,he₁,hS⟩:=hS₁.ghost hg;refine wpIn_mono (F:=FW N.rd) ?_ (λe a w h=>jQ.trans he₁ h);cases draw with
  |false=>exact wpIn_region_list (uX ops.toList hS h (λE' T' H' nx' a' w' he hS' hk=>⟨.normal,E',T',H',nx',rfl,he,hS',hk⟩))
  |true=>
   simp only at h
   have key:∀dm:DM,dm.isText=false->drawOk dm.fr.isSome ops.toList=true->(∀m,dm.fr=some m->m=nx)->rI P N.n dm (ops.toList.map (·.dst)) ops.toList T H nx (K .normal)->(Code.region id ops true).wpIn (FW N.rd) 0 P (jQ P N E w K) a w:=by
    intro dm hdm hok hm0 h;obtain⟨s,r,h0,h1,h2⟩:=up hdm ops.toList h;have ht:Txt P N dm.fr ops.toList s r:=⟨h1,hok,by rw[h0];exact hm0⟩
    have:=KD (rr:=N.rd) (rid:=id) (Q:=jQ P N E w K) (a:=a) (w₀:=w) (E₀:=E) hm ht (by rw[h0];exact hS) (λE' a' w' he hS'=>⟨.normal,E',_,_,_,rfl,he,hS',h2⟩);rw[Array.toArray_toList] at this;exact this
   rcases h with h|⟨vp,C,h0,h1,h3⟩|⟨vp,bp,C,S,h0,hbp,h1,hs,h3⟩|⟨vp,bp,f,C,D,S,h0,hbp,h1,hs,h3⟩|⟨I,h1,h3⟩
   ·split at h
    ·rename_i hok;exact key .draw rfl hok (λm hm=>(by cases hm)) h
    ·exact key (.fresh nx) rfl h.1 (λm hm=>by cases hm;rfl) h.2
   ·have:=My (rr:=N.rd) (rid:=id) (Q:=jQ P N E w K) (a:=a) (w₀:=w) (E₀:=E) hm h0 h1 hS h3 (λE' T' H' nx' a' w' he hS' hk=>⟨.normal,E',T',H',nx',rfl,he,hS',hk⟩);rw[Array.toArray_toList] at this;exact this
   ·have:=Iz (rr:=N.rd) (rid:=id) (Q:=jQ P N E w K) (a:=a) (w₀:=w) (E₀:=E) hm h0 hbp h1 hS hs h3 (λE' T' H' nx' a' w' he hS' hk=>⟨.normal,E',T',H',nx',rfl,he,hS',hk⟩);rw[Array.toArray_toList] at this;exact this
   ·have:=JA (rr:=N.rd) (rid:=id) (Q:=jQ P N E w K) (a:=a) (w₀:=w) (E₀:=E) hm h0 hbp h1 hS hs h3 (λE' T' H' nx' a' w' he hS' hk=>⟨.normal,E',T',H',nx',rfl,he,hS',hk⟩);rw[Array.toArray_toList] at this;exact this
   ·have:=Mu (rr:=N.rd) (rid:=id) (Q:=jQ P N E w K) (a:=a) (w₀:=w) (E₀:=E) hm h1 hS h3 (λE' T' H' nx' a' w' he hS' hk=>⟨.normal,E',T',H',nx',rfl,he,hS',hk⟩);rw[Array.toArray_toList] at this;exact this
 |.seq x y,E,T,H,nx,a,w,K,hS,h=>by
  refine wpIn_seq (wpIn_mono (gg hm x hS h) ?_);rintro e a' w' ⟨z,E',T',H',nx',rfl,he,hS',hk⟩;cases z with
  |normal=>exact wpIn_mono (gg hm y hS' hk) (λe a w h=>h.trans he)
  |exit i=>exact⟨.exit i,E',T',H',nx',rfl,he,hS',hk⟩
  |ret=>exact⟨.ret,E',T',H',nx',rfl,he,hS',hk⟩
 |.cond c x y,E,T,H,nx,a,w,K,hS,h=>by
  simp only[awp] at h;unfold a7 at h;split at h
  ·rename_i b hb;have hr:=nN (E:=E) (w:=w) (a:=a) hS.tmps c;simp only at hr;rw[hb] at hr;generalize hv:a.eval c=v at hr;cases hr;exact wpIn_cond_split hv (λhb=>gg hm x hS (h.1 hb)) (λhb=>gg hm y hS (h.2 hb))
  ·exact h.elim
 |.block id b,E,T,H,nx,a,w,K,hS,h=>by
  refine wpIn_block (wpIn_mono (gg hm b hS h) ?_);rintro e a' w' ⟨z,E',T',H',nx',rfl,he,hS',hk⟩;cases z with
  |normal=>exact⟨.normal,E',T',H',nx',rfl,he,hS',hk⟩
  |exit i=>
   simp only[AEx.cv,Exit.inBlock];split
   ·rename_i hi;refine⟨.normal,E',T',H',nx',rfl,he,hS',?_⟩;simp only[rR,if_pos hi] at hk;exact hk
   ·rename_i hi;refine⟨.exit i,E',T',H',nx',rfl,he,hS',?_⟩;simp only[rR,if_neg hi] at hk;exact hk
  |ret=>exact⟨.ret,E',T',H',nx',rfl,he,hS',hk⟩
 |.loop b,E,T,H,nx,a,w,K,hS,h=>by
  obtain⟨n,h⟩:=h;refine wpIn_loop_rounds n ?_
  have key:∀n(E':Env) T H nx a w',Ext E w E' w'->Sim E' N ⟨T,H,nx⟩ a w'->zs (awp P N.n b) K n T H nx->Code.roundsIn (FW N.rd) 0 P b (jQ P N E w K) n a w':=by
   intro n
   induction n with
   |zero=>intro E' T H nx a w' _ _ h;exact h
   |succ n ih=>
    intro E' T H nx a w' he hS h;obtain⟨T',H',nx',Hf,hwk,h⟩:=h;obtain⟨E₁,he₁,hS₁⟩:=hS.ghost hwk;refine wpIn_mono (gg hm b hS₁ h) ?_;rintro e a' w'' ⟨z,E'',T'',H'',nx'',rfl,he',hS',hk⟩;cases z with
    |normal=>exact ih E'' _ _ _ _ _ ((he.trans he₁).trans he') hS' hk
    |exit i=>exact⟨.exit i,E'',T'',H'',nx'',rfl,(he.trans he₁).trans he',hS',hk⟩
    |ret=>exact⟨.ret,E'',T'',H'',nx'',rfl,(he.trans he₁).trans he',hS',hk⟩
  exact key n E T H nx a w (Ext.refl _ _) hS h
 |.rangeFunc ..,_,_,_,_,_,_,_,hS,h=>h N _ _ _ rfl hS
 |.scope _,_,_,_,_,_,_,_,_,h=>h.elim
 |.goto _,_,_,_,_,_,_,_,_,h=>h.elim
 |.refuse _,_,_,_,_,_,_,_,_,h=>h.elim
def mU(P:Program)(T:Tm)(H:Hp):List ResultVar->Option (List AV)
 |[]=>some []
 |.tmp t::l=>match mU P T H l with|some xs=>some (T t::xs)|none=>none
 |.cell a t::l=>match lB P H t (T a),mU P T H l with|some x,some xs=>some (x::xs)|_,_=>none
def l9(P:Program)(T:Tm)(H:Hp)(l:List ResultVar):Option AV:=match mU P T H l with
 |some [x]=>some x
 |some xs=>some (.tup xs)
 |none=>none
def Cells(w w':World):Prop:=∀a v,w.cell? a=some v->w'.cell? a=some v
theorem sQ{P:Program}{E:Env}{H:Hp}{nx:Nat}{w:World}(hh:HeapOk E H nx w){p:AV}{v:Value}(hr:Rel E w p v){t:TypeId}{x:AV}(hx:lB P H t p=some x):
    ∃y,(∀w',Cells w w'->(do loadVar t (<-asAddr v):Sem Value).run P w'=.ok y w')/\Rel E w x y:=by
 unfold lB at hx;split at hx
 case isFalse=>cases hx
 case isTrue ht=>
  split at hx
  case isTrue hagg=>
   split at hx
   case isFalse=>cases hx
   case isTrue hpos=>
    cases hrd:rd H (P.cellsOf t) p with
    |none=>simp[hrd] at hx
    |some xs=>
     simp[hrd] at hx;subst hx;obtain⟨blk,o,vals,rfl,hlen,hrow⟩:=zF hh hr hrd hpos;refine⟨.agg vals.toArray,λw' hw=>?_,.agg xs vals hrow.len hrow.rel⟩;have hl:vals.length=P.cellsOf t:=hrow.len.trans hlen;simp only[asAddr,loadVar,bB,eE,bv,iR ht,hagg,if_true,aU ht,<-hl];rw[run_loadCells_list (P:=P) (w:=w') ⟨blk,o,none⟩ vals (λj v hv=>by rw[cf];exact hw _ _ (hrow.cell _ _ hv))];rfl
  case isFalse hagg=>
   obtain⟨blk,o,y,rfl,hc,hrel⟩:=xU hh hr hx;refine⟨y,λw' hw=>?_,hrel⟩;simp[asAddr,loadVar,iR ht,hagg,hw _ _ hc]
theorem ui{P:Program}{E:Env}{w:World}{H:Hp}{nx:Nat}{T:Tm}{tmps:Array Value}(hh:HeapOk E H nx w)(ht:∀t,Rel E w (T t) (tmps.getD t Go.undef)):∀(l:List ResultVar)(xs:List AV),mU P T H l=some xs->
    ∃vs,(∀w',Cells w w'->(l.mapM (λr:ResultVar=>match r with|.tmp t=>(pure (tmps.getD t Go.undef):Sem Value)|.cell a t=>do loadVar t (<-asAddr (tmps.getD a Go.undef)))).run P w'=.ok vs w')/\dJ E w xs vs
 |[],xs,h=>by cases h;exact⟨[],λ_ _=>rfl,rfl,by simp⟩
 |.tmp t::l,xs,h=>by
  simp only[mU] at h;split at h
  ·rename_i ys hy;cases h;obtain⟨vs,h1,h2⟩:=ui (P:=P) hh ht l ys hy;refine⟨tmps.getD t Go.undef::vs,λw' hw=>?_,by simp[h2.1],λi x y hx hy=>?_⟩
   ·rw[List.mapM_cons];simp only[bB,eE,bv,h1 w' hw]
   ·cases i with
    |zero=>simp at hx hy;subst hx;rw[<-hy];have:=ht t;simpa using this
    |succ i=>exact h2.2 i x y (by simpa using hx) (by simpa using hy)
  ·cases h
 |.cell a t::l,xs,h=>by
  simp only[mU] at h;split at h
  ·rename_i x0 ys hx0 hy;cases h;obtain⟨vs,h1,h2⟩:=ui (P:=P) hh ht l ys hy;obtain⟨y0,k1,k2⟩:=sQ (P:=P) hh (ht a) hx0;refine⟨y0::vs,λw' hw=>?_,by simp[h2.1],λi x y hx hy=>?_⟩
   ·rw[List.mapM_cons,bB];have:=k1 w' hw;rw[this];simp only[bB,eE,bv,h1 w' hw]
   ·cases i with
    |zero=>simp at hx hy;subst hx;rw[<-hy];exact k2
    |succ i=>exact h2.2 i x y (by simpa using hx) (by simpa using hy)
  ·cases h
theorem rN{P:Program}{E:Env}{w:World}{H:Hp}{nx:Nat}{T:Tm}{tmps:Array Value}{fn:Func}{x:AV}(hh:HeapOk E H nx w)(ht:∀t,Rel E w (T t) (tmps.getD t Go.undef))(h:l9 P T H fn.results.toList=some x):
    ∃v,(∀w',Cells w w'->(results fn tmps).run P w'=.ok v w')/\Rel E w x v:=by
 have key:∀xs,mU P T H fn.results.toList=some xs->∃vs:Array Value,(∀w',Cells w w'->(results fn tmps).run P w'=.ok (if h:vs.size=1 then vs[0] else .tuple vs) w')/\dJ E w xs vs.toList:=by
  intro xs hx;obtain⟨vs,h1,h2⟩:=ui (P:=P) hh ht _ _ hx;refine⟨vs.toArray,λw' hw=>?_,h2⟩
  have e:results fn tmps=(do
      let vs <-(List.toArray <$> fn.results.toList.mapM (λr:ResultVar=>match r with|.tmp t=>(pure (tmps.getD t Go.undef):Sem Value)|.cell a t=>do loadVar t (<-asAddr (tmps.getD a Go.undef))):Sem (Array Value))
      pure (if h:vs.size=1 then vs[0] else .tuple vs)):=by
   unfold results;rw[Array.mapM_eq_mapM_toList];rfl
  rw[e,map_eq_pure_bind];simp only[bB,h1 w' hw,bv,eE]
 unfold l9 at h;split at h
 ·rename_i y hy;cases h;obtain⟨vs,h1,h2⟩:=key _ hy;have hs:vs.size=1:=by have:=h2.1;simpa using this
  refine⟨vs[0],λw' hw=>by rw[h1 w' hw,dif_pos hs],h2.2 0 _ _ rfl (by simp[hs])⟩
 ·rename_i xs hne hy;cases h;obtain⟨vs,h1,h2⟩:=key _ hy
  have hs:vs.size≠1:=by
   intro hs;have:=h2.1;rw[Array.length_toList,hs] at this
   match xs,this,hne with
   |[x],_,hne=>exact hne x rfl
  refine⟨.tuple vs,λw' hw=>by rw[h1 w' hw,dif_neg hs],?_⟩;exact Rel.tup _ vs.toList h2.1 h2.2
 ·cases h
theorem Rel.world{E:Env}{w w':World}(hc:∀a v,w.cell? a=some v->w'.cell? a=some v){x:AV}{v:Value}(h:Rel E w x v):Rel E w' x v:=by
 induction h with
 |undef v=>exact .undef v
 |bool b=>exact .bool b
 |int k n=>exact .int k n
 |str s=>exact .str s
 |nilp=>exact .nilp
 |nilf=>exact .nilf
 |yld b l h=>exact .yld b l h
 |mp b k h=>exact .mp b k h
 |nilm=>exact .nilm
 |itr b k h=>exact .itr b k h
 |ptr b n off blk sz h=>exact .ptr b n off blk sz h
 |iptr cells off blk o vals h1 h2 _ ih=>exact .iptr cells off blk o vals h1 (λi h=>hc _ _ (h2 i h)) ih
 |eslnil=>exact .eslnil
 |esl a=>exact .esl a
 |slnil sz=>exact .slnil sz
 |slempty sz a c=>exact .slempty sz a c
 |sl sz elems blk o cap vals h1 hlen hsz h2 _ ih=>exact .sl sz elems blk o cap vals h1 hlen hsz (λi h=>hc _ _ (h2 i h)) ih
 |msl b n sz off len blk bsz cap h hl hc' hn=>exact .msl b n sz off len blk bsz cap h hl hc' hn
 |msl0 b sz v h=>exact .msl0 b sz v h
 |func f caps cv hl _ ih=>exact .func f caps cv hl ih
 |bfn f caps cv hl _ ih=>exact .bfn f caps cv hl ih
 |agg cs vs hl _ ih=>exact .agg cs vs hl ih
 |tup cs vs hl _ ih=>exact .tup cs vs hl ih
theorem xR{w:World}{D:Nat}{o o':Obj}(hD:w.heap[D]?=some o)(hno:∀c e f,o≠.cells c e f):∀a v,w.cell? a=some v->(w.putObj D o').cell? a=some v:=by
 intro a v h
 have hne:a.block≠D:=by
  intro e;unfold World.cell? at h;rw[e,hD] at h;split at h
  ·rename_i hh;cases hh;exact absurd rfl (hno _ _ _)
  ·cases h
 unfold World.cell? at h |-
 have:(w.putObj D o').heap[a.block]?=w.heap[a.block]?:=by
  simp only[World.putObj];exact Ee (Ne.symm hne)
 rw[this];exact h
theorem Hc{P:Program}{w:World}{D:Nat}(hD:w.heap[D]?=some (.deferred (some []))):(Instr.takeDeferred D).run P w=.ok [] (w.putObj D (.deferred none)):=by
 unfold Instr.takeDeferred;simp[getObj,setObj,Sem.run,hD,World.putObj,bind,Sem.bind,pure]
def HP(w w':World):Prop:=∀(k:Nat)(o:Obj),w.heap[k]?=some o->(∀ds,o≠.deferred ds)->w'.heap[k]?=some o
theorem mJ{P:Program}{fn:Func}{tmps:Array Value}{R:Ending->World->Prop}{E:Env}{N:Cfg}{w₀:World}{v:Value}(hv:∀w,Cells w₀ w->(results fn tmps).run P w=.ok v w)
    (hR:∀w,Below E.base w₀ w->Below N.floor w₀ w->(w.heap.size=w₀.heap.size/\w₀.drawn<=w.drawn)->HP w₀ w->(∀a v,w₀.cell? a=some v->w.cell? a=some v)->R (.returned v) w):
    ∀(ds:List Deferred)(w:World),sH E N w ds->Below E.base w₀ w->Below N.floor w₀ w->(w.heap.size=w₀.heap.size/\w₀.drawn<=w.drawn)->HP w₀ w->(∀a v,w₀.cell? a=some v->w.cell? a=some v)->LeavesInM Fence.wide 0 P fn tmps R ds .returning w
 |[],w,_,hb,hb2,hs,hu,hc=>⟨v,hv w hc,hR w hb hb2 hs hu hc⟩
 |d::ds,w,hm,hb,hb2,hs,hu,hc=>by
  obtain⟨D,rfl,hD1,hD3,_,hD2⟩:=hm.2 d (by simp);have hpw:=BV.1 hm.1
  have hne:∀k,D≠k->(w.putObj D (.deferred none)).heap[k]?=w.heap[k]?:=λk hk=>by
   simp only[World.putObj];exact Ee hk
  refine⟨by simp,.inl ⟨D,w.putObj D (.deferred none),rfl,Hc hD2,mJ (N:=N) hv hR ds _ ⟨hpw.2,λd' hd'=>?_⟩ ?_ ?_ ?_ ?_ ?_⟩⟩
  ·obtain⟨D',rfl,h2,h2',h3,h4⟩:=hm.2 d' (by simp[hd']);refine⟨D',rfl,h2,h2',h3,?_⟩;rw[hne D' (λe=>hpw.1 _ hd' (by rw[e]))];exact h4
  ·exact hb.trans ⟨rfl,rfl,rfl,by simp[World.putObj],λk hk=>hne k (by omega)⟩
  ·exact hb2.trans ⟨rfl,rfl,rfl,by simp[World.putObj],λk hk=>hne k (by omega)⟩
  ·exact⟨by simp[World.putObj,hs.1],hs.2⟩
  ·intro k o ho hno;have h1:=hu k o ho hno;rw[hne k (λe=>by subst e;rw[hD2] at h1;cases h1;exact hno _ rfl)];exact h1
  ·exact λa v h=>xR hD2 (by intros;simp) a v (hc a v h)
theorem Rel.env{E E':Env}{w:World}(hi:E'.imm=E.imm)(hm:E'.mu=E.mu)(hs:E'.sp=E.sp){x:AV}{v:Value}(h:Rel E w x v):Rel E' w x v:=
 h.mono (λb hb=>by rw[hi];exact hb) (λb n x hb=>by rw[hm];exact hb) (λb x hb=>by rw[hs];exact hb)
theorem wX{E E':Env}{w w₁ w':World}{H:Hp}{nx:Nat}(hE:EnvOk E w)(he:Ext E w E' w₁)(hE':EnvOk E' w₁)(hh:HeapOk E' H nx w₁)(hb:Below E'.base w₁ w')(hb2:Below w.heap.size w₁ w')(hs:w'.heap.size=w₁.heap.size/\w₁.drawn<=w'.drawn)(hu:HP w₁ w')(hc:∀a v,w₁.cell? a=some v->w'.cell? a=some v):
    Ext E w {E' with dm:=E.dm} w'/\EnvOk {E' with dm:=E.dm} w'/\HeapOk {E' with dm:=E.dm} H nx w'/\∀x v,Rel E' w₁ x v->Rel {E' with dm:=E.dm} w' x v:=by
 have hrel:∀x v,Rel E' w₁ x v->Rel {E' with dm:=E.dm} w' x v:=λx v h=>Rel.env (E:=E') (E':={E' with dm:=E.dm}) rfl rfl rfl (h.world hc)
 have hmapB:∀{ks vs bs ck es},MapB E' w₁ ks vs bs ck es->MapB {E' with dm:=E.dm} w' ks vs bs ck es:=λh=>
  ⟨h.len,h.len',h.blen,λi x e h1 h2=>hrel _ _ (h.key i x e h1 h2),λi x e h1 h2=>hrel _ _ (h.val i x e h1 h2),h.born,h.nd,h.lt⟩
 have hmap:∀{ks vs es clock},MapOk E' w₁ ks vs es clock->MapOk {E' with dm:=E.dm} w' ks vs es clock:=λh=>
  ⟨h.len,h.len',λi x e h1 h2=>hrel _ _ (h.key i x e h1 h2),λi x e h1 h2=>hrel _ _ (h.val i x e h1 h2),h.born,h.clk⟩
 refine⟨⟨he.base,he.w0,he.imm,he.new,he.mu,he.sp,he.lp,λb hb'=>⟨hb',?_⟩,by rw[hs.1];exact he.size,λb hb'=>?_,fu he.dr hs.2⟩,⟨λb hb'=>by rw[hs.1];exact hE'.lt b hb',hE'.below.trans hb,λb hb'=>?_,hE'.spi,λb k hk=>?_,hE'.spm,λb r T hl=>?_⟩,⟨λb cs hb'=>?_,hh.dom,hh.apart,by rw[hs.1];exact hh.size,hh.top,λb x hb' hx=>?_,hh.nsp⟩,hrel⟩
 ·rw[hb2.block b (hE.dlt hb'),(he.dm b hb').2]
 ·rw[hb2.block b (hE.lt b hb'),he.keep b hb']
 ·obtain⟨ds,hd⟩:=hE.dm b hb';exact⟨ds,by rw[hb2.block b (hE.dlt hb'),(he.dm b hb').2,hd]⟩
 ·obtain⟨h1,h2,o,h3,h4,h5⟩:=hE'.spb b k hk;exact⟨h1,h2,o,hu k o h3 h5,h4,h5⟩
 ·obtain⟨k,st,p,h1,h2,h3⟩:=hE'.lp b r T hl;exact⟨k,st,p,h1,hu _ _ h2 (by intro ds;simp),λt=>hrel _ _ (h3 t)⟩
 ·rcases hh.box b cs hb' with hn|⟨blk,sz,hx⟩
  ·exact .inl hn
  ·obtain⟨vals,ty,fz,k1,kz,k2,k3,k4⟩:=hx.cells
   exact .inr ⟨blk,sz,hx.mu,hx.base,hx.imm,vals,ty,fz,hu _ _ k1 (by intro ds; simp),kz,k2,k3,fun i x hx'=>by
    obtain⟨v,e1,e2,e3⟩:=k4 i x hx';exact⟨v,e1,e2,hrel _ _ e3⟩⟩
 ·obtain⟨k,h1,h2⟩:=hh.spec b x hb' hx;refine⟨k,h1,?_⟩;cases x with
  |omap ks vs=>
   obtain⟨es,clock,h3,h4⟩:=h2;exact⟨es,clock,hu _ _ h3 (by intro ds;simp),hmap h4⟩
  |oloop r T=>exact⟨hu _ _ h2.1 (by intro ds;simp),h2.2⟩
  |oiter m n0 seen=>
   obtain⟨km,last,h3,h4,h5⟩:=h2;exact⟨km,last,hu _ _ h3 (by intro ds;simp),h4,h5⟩
  |bmap ks vs bs ck=>
   obtain⟨es,h3,h4⟩:=h2;exact⟨es,hu _ _ h3 (by intro ds;simp),hmapB h4⟩
  |biter m n0 seen=>
   obtain⟨km,h3,h4⟩:=h2;exact⟨km,hu _ _ h3 (by intro ds;simp),h4⟩
  |_=>exact h2.elim
def AEx.ends:AEx->Bool
 |.exit _=>false
 |_=>true
def T0(args:List AV):Tm:=λt=>args.getD t .undef
def yu(P:Program)(fn:Func)(args:List AV)(H:Hp)(nx:Nat)(K:AV->Hp->Nat->Prop):Prop:=
 ∃c,fn.body=some c/\args.length<=fn.ntmps/\awp P fn.ntmps c (T0 args) H nx λe T H nx=>aM e.ends (ax (l9 P T H fn.results.toList) λx=>K x H nx)
theorem F6{E:Env}{w:World}{args:List AV}{vs:List Value}(h:dJ E w args vs)(N:Nat):∀t,Rel E w (T0 args t) ((vs.toArray++Array.replicate (N-vs.toArray.size) Go.undef).getD t Go.undef):=by
 intro t;unfold T0;by_cases hlt:t<args.length
 ·have h1:args.getD t .undef=args[t]:=by simp[List.getD,hlt]
  have hv:t<vs.length:=by rw[h.1];exact hlt
  have h2:(vs.toArray++Array.replicate (N-vs.toArray.size) Go.undef).getD t Go.undef=vs[t]:=by
   simp[Array.getElem?_append,hv]
  rw[h1,h2];exact h.2 t _ _ (by simp) (by simp)
 ·have h1:args.getD t .undef=.undef:=by
    simp only[List.getD];rw[List.getElem?_eq_none (by omega)];rfl
  rw[h1];exact .undef _
theorem CC{P:Program}{f:FuncId}{fn:Func}{args:List AV}{H:Hp}{nx:Nat}{K:AV->Hp->Nat->Prop}(hm:P.follows .mixedOrders=true)(hf:P.funcs[f]?=some fn)(hb:yu P fn args H nx K)
    {E:Env} {w:World} {vs:List Value} (hE:EnvOk E w) (hh:HeapOk E H nx w) (hfr:cI E nx) (hv:dJ E w args vs):
    Calls P f vs.toArray w λe w'=>∃v E' r H' nx',e=.returned v/\Ext E w E' w'/\EnvOk E' w'/\HeapOk E' H' nx' w'/\cI E' nx'/\Rel E' w' r v/\K r H' nx':=by
 obtain⟨c,hc,hlen,h⟩:=hb;refine(callsIn_wide (n:=0)).1 (callsIn_of_wp_marks hf hc trivial ?_)
 have hS:Sim E ⟨fn.ntmps,w.heap.size,none⟩ ⟨T0 args,H,nx⟩ {tmps:=vs.toArray++Array.replicate (fn.ntmps-vs.toArray.size) Go.undef,defers:=[]} w:=by
  refine⟨hE,hh,hfr,λl hl=>(by cases hl),bd _,?_,F6 hv _,⟨Gm,λd hd=>(by cases hd)⟩⟩;simp[hv.1];omega
 refine wpIn_mono (F:=Fence.wide) (gg hm c hS h) ?_;rintro e a' w₁ ⟨x,E',T,H',nx',rfl,he,hS',hk⟩;obtain⟨hx,hk⟩:=hk;cases hr:l9 P T H' fn.results.toList with
 |none=>rw[hr] at hk;exact hk.elim
 |some r=>
  rw[hr] at hk;obtain⟨v,h1,h2⟩:=rN (P:=P) hS'.heap hS'.tmps hr
  have:LeavesInM Fence.wide 0 P fn a'.tmps (λe w'=>∃v E' r H' nx',e=.returned v/\Ext E w E' w'/\EnvOk E' w'/\HeapOk E' H' nx' w'/\cI E' nx'/\Rel E' w' r v/\K r H' nx') a'.defers .returning w₁:=by
   refine mJ (E:=E') (N:=⟨fn.ntmps,w.heap.size,none⟩) (w₀:=w₁) h1 (λw' hb hb2 hs hu hc=>?_) a'.defers w₁ hS'.defers (Below.refl _ _) (Below.refl _ _) ⟨rfl,bd _⟩ (λ_ _ h _=>h) (λ_ _ h=>h);obtain⟨k1,k2,k3,k4⟩:=wX hE he hS'.env hS'.heap hb hb2 hs hu hc;exact⟨v,_,r,H',nx',rfl,k1,k2,k3,hS'.fresh,k4 _ _ h2,hk⟩
  cases x with
  |normal=>exact this
  |ret=>exact this
  |exit i=>cases hx
theorem Fn.of_body{P:Program}{f:FuncId}{fn:Func}{args:List AV}{H:Hp}{nx:Nat}{K:AV->Hp->Nat->Prop}(hm:P.follows .mixedOrders=true)(hf:P.funcs[f]?=some fn)(hc:cok P f=true)(hb:yu P fn args H nx K):Fn P f args H nx K:=
 ⟨hc,λE w vs hE hh hfr hv=>CC hm hf hb hE hh hfr hv⟩
theorem Pure.of_fn{P:Program}{f:FuncId}{args:List AV}{r:AV}(h:Fn P f args aQ 0 λx H nx=>Snap H x r):Pure P f args r:=by
 refine⟨h.1,λimm w vs hi hv=>?_⟩
 let E:Env:=⟨w.heap.size,w,imm,λ_ _=>none,λ_=>none,λ_=>none,λ_=>False⟩
 have hE:EnvOk E w:=⟨hi,Below.refl _ _,λ_ h=>h.elim,λ_ _ _ h=>(by cases h),λ_ _ h=>(by cases h),λ_ _ h=>(by cases h),λ_ _ _ h=>(by cases h)⟩
 have hv':dJ E w args vs:=⟨hv.1,λi x y hx hy=>Rel.mono (E:=E0 imm) (E':=E) (λ_ h=>h) (λ_ _ _ h=>h) (λ_ _ h=>h) (hv.2 i x y hx hy)⟩
 refine(h.2 E w vs hE (HeapOk.noBox (bd _)) (λ_ _=>⟨λ_=>rfl,rfl,rfl⟩) hv').mono ?_;rintro e w' ⟨v,E',x,H',nx',rfl,he,hE',hh',hfr',hrel,hs⟩;refine⟨v,λb=>E'.imm b\/iS E' H' b,rfl,?_,λb hb=>.inl (he.imm b hb),?_,?_,hs.sound hh' hrel,he.dr⟩
 ·have:=hE'.below;rw[he.base,he.w0] at this;exact this
 ·rintro b (hb|⟨b',cs,sz,h1,h2⟩)
  ·exact he.new b hb
  ·have:=(hh'.blk_lt h1 h2).2.1;rw[he.base] at this;exact .inr this
 ·rintro b (hb|⟨b',cs,sz,h1,h2⟩)
  ·exact hE'.lt b hb
  ·exact(hh'.blk_lt h1 h2).1
theorem PureF.of_fn{P:Program}{f:FuncId}{args:List AV}{r:AV}(h:Fn P f args aQ 0 λx H nx=>SnapF H x r):PureF P f args r:=by
 refine⟨h.1,λimm w vs hi hv=>?_⟩
 let E:Env:=⟨w.heap.size,w,imm,λ_ _=>none,λ_=>none,λ_=>none,λ_=>False⟩
 have hE:EnvOk E w:=⟨hi,Below.refl _ _,λ_ h=>h.elim,λ_ _ _ h=>(by cases h),λ_ _ h=>(by cases h),λ_ _ h=>(by cases h),λ_ _ _ h=>(by cases h)⟩
 have hv':dJ E w args vs:=⟨hv.1,λi x y hx hy=>Rel.mono (E:=E0 imm) (E':=E) (λ_ h=>h) (λ_ _ _ h=>h) (λ_ _ h=>h) (hv.2 i x y hx hy)⟩
 refine(h.2 E w vs hE (HeapOk.noBox (bd _)) (λ_ _=>⟨λ_=>rfl,rfl,rfl⟩) hv').mono ?_;rintro e w' ⟨v,E',x,H',nx',rfl,he,hE',hh',hfr',hrel,hs⟩;refine⟨v,λb=>iS E' H' b,rfl,?_,?_,?_,hs.sound hh' hrel,he.dr⟩
 ·have:=hE'.below;rw[he.base,he.w0] at this;exact this
 ·rintro b ⟨b',cs,sz,h1,h2⟩;have:=(hh'.blk_lt h1 h2).2.1;rw[he.base] at this;exact this
 ·rintro b ⟨b',cs,sz,h1,h2⟩;exact(hh'.blk_lt h1 h2).1
theorem Pure.of_body{P:Program}{f:FuncId}{fn:Func}{args:List AV}{r:AV}(hm:P.follows .mixedOrders=true)(hf:P.funcs[f]?=some fn)(hc:cok P f=true)(hb:yu P fn args aQ 0 λx H nx=>Snap H x r):Pure P f args r:=
 Pure.of_fn (Fn.of_body hm hf hc hb)
def dw(H:Hp)(b:Nat):Hp:=λx=>if x=b then none else H x
theorem po{H:Hp}{b:Nat}:dw H b b=none:=by simp[dw]
theorem jv{H:Hp}{b x:Nat}{cs:List AV}(h:dw H b x=some cs):x≠b/\H x=some cs:=by
 unfold dw at h;split at h
 ·cases h
 ·exact⟨‹_›,h⟩
theorem HeapOk.del{E:Env}{H:Hp}{nx:Nat}{w:World}(h:HeapOk E H nx w)(b:Nat):HeapOk E (dw H b) nx w:=
 h.fewer (λ_ _ hb=>(jv hb).2) (λx cs hb=>h.dom x cs (jv hb).2)
theorem BL{E:Env}{H:Hp}{nx:Nat}{w:World}(hE:EnvOk E w)(hh:HeapOk E H nx w){b k:Nat}{o o':Obj}(hs:E.sp b=some k)(ho:w.heap[k]?=some o)
    (hc:lm o=false) (hc':lm o'=false) (hd:∀ds,o≠.deferred ds) (hd':∀ds,o'≠.deferred ds)
    (hl:∀r T,E.lp b=some (r,T)->∃st p,o'=.loop {r with state:=st,pending:=p}) (hH:∀x,H b=some [x]->x.special=false):
    Ext E w E (w.putObj k o')/\EnvOk E (w.putObj k o')/\HeapOk E H nx (w.putObj k o'):=by
 obtain⟨hbase,himm,_⟩:=hE.spb b k hs;have hlt:k<w.heap.size:=(kN.1 ho).1;have hne:∀k',k'≠k->(w.putObj k o').heap[k']?=w.heap[k']?:=λk' h=>World.putObj_heap_other h;have hself:(w.putObj k o').heap[k]?=some o':=World.putObj_heap_same hlt
 have hcell:∀blk vals ty fz,w.heap[blk]?=some (.cells vals ty fz)->blk≠k:=λblk vals ty fz h e=>by
  subst e;rw[ho] at h;cases h;cases hc
 have hcs:∀ a v,w.cell? a=some v→(w.putObj k o').cell? a=some v:=xR ho (by
  intro c e f e';subst e';cases hc)
 have he:Ext E w E (w.putObj k o'):=⟨rfl,rfl,fun _ h=>h,fun _ h=>.inl h,fun _ _ _ h=>h,fun _ _ h=>h,fun _ _ h=>h,fun b' hb'=>⟨hb',hne b' (fun e=>by
  subst e;obtain⟨ds,hds⟩:=hE.dm _ hb';rw[ho] at hds;cases hds;exact hd _ rfl)⟩,by simp,λb' hb'=>hne b' (λe=>himm (e▸hb')),bd _⟩
 have hspE:∀b' x,b'≠b->∀k',E.sp b'=some k'->yM E w b' k' x->yM E (w.putObj k o') b' k' x:=by
  intro b' x hb' k' hk' h;have hkk:k'≠k:=λe=>hb' (hE.spi b' b k (by rw[<-e];exact hk') hs);cases x with
  |omap ks vs=>
   obtain⟨es,clock,h1,h2⟩:=h;exact⟨es,clock,(hne _ hkk).trans h1,h2.ext he⟩
  |oloop r T=>exact⟨(hne _ hkk).trans h.1,h.2⟩
  |oiter m n0 seen=>
   obtain⟨km,last,h1,h2,h3⟩:=h;exact⟨km,last,(hne _ hkk).trans h1,h2,h3⟩
  |bmap ks vs bs ck=>
   obtain⟨es,h1,h2⟩:=h;exact⟨es,(hne _ hkk).trans h1,h2.ext he⟩
  |biter m n0 seen=>
   obtain⟨km,h1,h2⟩:=h;exact⟨km,(hne _ hkk).trans h1,h2⟩
  |_=>exact h.elim
 refine ⟨he,⟨fun b' hb'=>by simpa using hE.lt b' hb',hE.below.trans ⟨rfl,rfl,rfl,by simp,fun k' hk'=>hne k' (by omega)⟩,fun b' hb'=>?_,hE.spi,fun b' k' hk'=>?_,hE.spm,fun b' r T hl'=>?_⟩,
  ⟨λb' cs hb'=>?_,hh.dom,hh.apart,by simpa using hh.size,hh.top,λb' x hb' hx=>?_,hh.nsp⟩⟩
 ·obtain⟨ds,hds⟩:=hE.dm b' hb';exact⟨ds,by rw[(he.dm b' hb').2];exact hds⟩
 ·obtain⟨h1,h2,o1,h3,h4,h5⟩:=hE.spb b' k' hk';by_cases hkk:k'=k
  ·subst hkk;exact⟨h1,h2,o',hself,hc',hd'⟩
  ·exact⟨h1,h2,o1,(hne _ hkk).trans h3,h4,h5⟩
 ·obtain⟨k',st,p,h1,h2,h3⟩:=hE.lp b' r T hl';by_cases hkk:k'=k
  ·subst hkk;obtain rfl:=hE.spi b' b _ h1 hs;obtain⟨st',p',rfl⟩:=hl r T hl';exact⟨_,st',p',h1,hself,λt=>(h3 t).world hcs⟩
  ·exact⟨k',st,p,h1,(hne _ hkk).trans h2,λt=>(h3 t).world hcs⟩
 ·rcases hh.box b' cs hb' with hn|⟨blk,sz,hx⟩
  ·exact .inl hn
  ·obtain⟨vals,ty,fz,k1,kz,k2,k3,k4⟩:=hx.cells
   exact .inr ⟨blk,sz,hx.mu,hx.base,hx.imm,vals,ty,fz,(hne _ (hcell _ _ _ _ k1)).trans k1,kz,k2,k3,fun i x hx'=>by
    obtain⟨v,e1,e2,e3⟩:=k4 i x hx';exact⟨v,e1,e2,e3.world hcs⟩⟩
 ·obtain⟨k',h1,h2⟩:=hh.spec b' x hb' hx;refine⟨k',h1,hspE b' x (λe=>?_) k' h1 h2⟩;subst e;rw[hH x hb'] at hx;cases hx
theorem HeapOk.addSp{E:Env}{H:Hp}{nx:Nat}{w:World}(h:HeapOk E H nx w){b k:Nat}{x:AV}(hb:b<nx)(hm:∀n,E.mu b n=none)(hs:E.sp b=some k)(hx:yM E w b k x):HeapOk E (av H b [x]) nx w:=by
 refine⟨λb' cs hb'=>?_,λb' cs hb'=>?_,λb1 b2 cs1 cs2 blk1 sz1 blk2 sz2 hb1 hb2 hne m1 m2=>?_,h.size,λb' cs m y hb' hm'=>?_,λb' y hb' hy=>?_,λb' hb'=>?_⟩
 ·rcases gk hb' with⟨rfl,rfl⟩|⟨_,h1⟩
  ·exact .inl (hm _)
  ·exact h.box b' cs h1
 ·rcases gk hb' with⟨rfl,rfl⟩|⟨_,h1⟩
  ·exact hb
  ·exact h.dom b' cs h1
 ·rcases gk hb1 with⟨rfl,rfl⟩|⟨_,h1⟩
  ·rw[hm] at m1;cases m1
  ·rcases gk hb2 with⟨rfl,rfl⟩|⟨_,h2⟩
   ·rw[hm] at m2;cases m2
   ·exact h.apart b1 b2 cs1 cs2 blk1 sz1 blk2 sz2 h1 h2 hne m1 m2
 ·rcases gk hb' with⟨rfl,rfl⟩|⟨_,h1⟩
  ·rw[hm] at hm';cases hm'
  ·exact h.top b' cs m y h1 hm'
 ·rcases gk hb' with⟨rfl,e⟩|⟨_,h1⟩
  ·cases e;exact⟨k,hs,hx⟩
  ·exact h.spec b' y h1 hy
 ·rcases gk hb' with⟨rfl,e⟩|⟨_,h1⟩
  ·cases e
  ·exact h.nsp b' h1
theorem HE{E:Env}{H:Hp}{nx:Nat}{w:World}(hE:EnvOk E w)(hh:HeapOk E H nx w)(hf:nC E nx)(o:Obj)(hc:lm o=false)(hd:∀ds,o≠.deferred ds):
    ∃E',E'={E with sp:=λb=>if b=nx then some w.heap.size else E.sp b}/\Ext E w E' (w.alloc o)/\EnvOk E' (w.alloc o)/\HeapOk E' H (nx+1) (w.alloc o)/\E'.sp nx=some w.heap.size/\(w.alloc o).heap[w.heap.size]?=some o:=by
 let E':Env:={E with sp:=λb=>if b=nx then some w.heap.size else E.sp b}
 have hspo:∀b,b≠nx->E'.sp b=E.sp b:=λb hb=>if_neg hb;have hself:E'.sp nx=some w.heap.size:=if_pos rfl;have hspm:∀b x,E.sp b=some x->E'.sp b=some x:=λb x hb=>by rw[hspo b (λe=>by subst e;rw[hf.2.1] at hb;cases hb)];exact hb
 have hext:Ext E w E' (w.alloc o):=
  ⟨rfl,rfl,λ_ h=>h,λ_ h=>.inl h,λ_ _ _ h=>h,hspm,λ_ _ h=>h,λ_ h=>⟨h,cr (hE.dlt h)⟩,by simp,λb hb=>cr (hE.lt b hb),bd _⟩
 have hnew:(w.alloc o).heap[w.heap.size]?=some o:=World.alloc_heap_new w o;have hst:=fJ.alloc w o
 refine ⟨E',rfl,hext,⟨fun b hb=>?_,hE.below.trans ((Below.refl _ _).alloc hh.size o),fun b hb=>?_,fun b b' k h1 h2=>?_,fun b k hk=>?_,fun b k hk n=>?_,fun b r T hl=>?_⟩,
  ⟨λb cs hb=>?_,λb cs hb=>Nat.lt_succ_of_lt (hh.dom b cs hb),hh.apart,by simpa using Nat.le_succ_of_le hh.size,hh.top,λb x hb hx=>?_,λb hb=>?_⟩,hself,hnew⟩
 ·have:=hE.lt b hb;simp;omega
 ·obtain⟨ds,h⟩:=hE.dm b hb;exact⟨ds,hst _ _ h rfl⟩
 ·by_cases hb:b=nx
  ·subst hb;rw[hself] at h1;cases h1;by_cases hb':b'=b
   ·exact hb'.symm
   ·rw[hspo b' hb'] at h2;have:=hE.splt h2;omega
  ·rw[hspo b hb] at h1;by_cases hb':b'=nx
   ·subst hb';rw[hself] at h2;cases h2;have:=hE.splt h1;omega
   ·rw[hspo b' hb'] at h2;exact hE.spi b b' k h1 h2
 ·by_cases hb:b=nx
  ·subst hb;rw[hself] at hk;cases hk;exact⟨hh.size,λhi=>by have:=hE.lt _ hi;omega,o,hnew,hc,hd⟩
  ·rw[hspo b hb] at hk;obtain⟨h1,h2,o1,h3,h4,h5⟩:=hE.spb b k hk;exact⟨h1,h2,o1,hst _ _ h3 h4,h4,h5⟩
 ·by_cases hb:b=nx
  ·subst hb;exact hf.1 n
  ·rw[hspo b hb] at hk;exact hE.spm b k hk n
 ·obtain⟨k,st,p,h1,h2,h3⟩:=hE.lp b r T hl;exact⟨k,st,p,hspm _ _ h1,hst _ _ h2 rfl,λt=>(h3 t).ext hext⟩
 ·rcases hh.box b cs hb with hn|⟨blk,sz,hx⟩
  ·exact .inl hn
  ·obtain⟨vals,ty,fz,k1,kz,k2,k3,k4⟩:=hx.cells
   exact .inr ⟨blk,sz,hx.mu,hx.base,hx.imm,vals,ty,fz,(cr (kN.1 k1).1).trans k1,kz,k2,k3,fun i x hx'=>by
    obtain⟨v,e1,e2,e3⟩:=k4 i x hx';exact⟨v,e1,e2,e3.ext hext⟩⟩
 ·obtain⟨k,h1,h2⟩:=hh.spec b x hb hx;exact⟨k,hspm _ _ h1,h2.ext hext (λk o _=>hst k o)⟩
 ·have:=hh.dom b _ hb;rw[hspo b (by omega)];exact hh.nsp b hb
def Yl(P:Program)(b:Nat)(args:List AV)(H:Hp)(nx:Nat)(K:AV->Hp->Nat->Prop):Prop:=
 ∀(E:Env)(w:World)(vs:List Value),EnvOk E w->HeapOk E H nx w->cI E nx->dJ E w args vs->
  ∃l r,E.sp b=some l/\w.heap[l]?=some (.loop r)/\vs.length=r.params.size/\
   RoundIn Fence.wide 0 P l r.fn ((r.params.zip vs.toArray).foldl (λtmps(t,a)=>tmps.setIfInBounds t a) r.tmps) r.assign r.body w λe w'=>
    ∃v E' x H' nx',e=.returned v/\Ext E w E' w'/\EnvOk E' w'/\HeapOk E' H' nx' w'/\cI E' nx'/\Rel E' w' x v/\K x H' nx'
theorem Yl.mono{P:Program}{b:Nat}{args:List AV}{H:Hp}{nx:Nat}{K K':AV->Hp->Nat->Prop}(h:Yl P b args H nx K)(hK:∀r H nx,K r H nx->K' r H nx):Yl P b args H nx K':=by
 intro E w vs h1 h2 h3 h4;obtain⟨l,r,k1,k2,k3,k4⟩:=h E w vs h1 h2 h3 h4;refine⟨l,r,k1,k2,k3,k4.mono ?_⟩;rintro e w' ⟨v,E',x,H',nx',m1,m2,m3,m4,m5,m6,m7⟩;exact⟨v,E',x,H',nx',m1,m2,m3,m4,m5,m6,hK _ _ _ m7⟩
theorem Ad{P:Program}{f:Operand}{args:Array Operand}{ts:Array TypeId}{T:Tm}{H:Hp}{nx b:Nat}{K:AV->Hp->Nat->Prop}(hf:ev T f=.yld b)(h:Yl P b (args.toList.map (ev T)) H nx K):
    eY P (.call {callee:=.value f,args:=args,argTypes:=ts}) T H nx K:=by
 refine⟨by intro c;simp,?_⟩;rintro rr E w a ⟨dst,op,type,pos,after,guard⟩ next Q ho hE hh hfr ht hn;simp only at ho;subst ho;have hr:=ht f (by simp[Op.operands,Call.operands]);rw[hf] at hr;generalize hv:a.eval f=vf at hr;cases hr with
 |yld _ l hl=>
 obtain⟨l',r,k1,k2,k3,k4⟩:=h E w (args.toList.map a.eval) hE hh hfr (Bb (E:=E) (w:=w) (T:=T) (a:=a) args.toList (λx hx=>ht x (by simp only[Op.operands,Call.operands];exact zq.2 (.inr (by simpa using hx)))));rw[hl] at k1;cases k1;have harr:args.map a.eval=(args.toList.map a.eval).toArray:=jF a.eval args
 have hrun:(execOp a.eval ⟨dst,.call {callee:=.value f,args:=args,argTypes:=ts},type,pos,after,guard⟩).run P w=.ok (.round l r.fn ((r.params.zip (args.toList.map a.eval).toArray).foldl (λtmps(t,a)=>tmps.setIfInBounds t a) r.tmps) r.assign r.body) w:=by
  have hy:=run_yield (P:=P) (args:=(args.toList.map a.eval).toArray) k2 (by simpa using k3);unfold execOp;simp only[resolve,hv,Deferred.ofValue,invoke,bB,eE,bv,Array.empty_append];rw[harr];exact hy
 rw[hrun,Oper.uponIn_round];refine⟨(λh=>by cases h),?_⟩;refine(RoundIn.mono (F:=FW rr) (show RoundIn (FW rr) 0 P l r.fn _ r.assign r.body w _ from k4) ?_);rintro e w' ⟨v,E',x,H',nx',rfl,m2,m3,m4,m5,m6,m7⟩;exact hn E' H' nx' x v w' m2 m3 m4 m5 m6 m7
def mE(T:Tm):List Nat->List AV->Tm
 |t::ts,x::xs=>mE (upd T t x) ts xs
 |_,_=>T
theorem Bx{E:Env}{w:World}:∀(ps:List Nat)(xs:List AV)(vs:List Value)(T:Tm)(tmps:Array Value),dJ E w xs vs->(∀t∈ps,t<tmps.size)->(∀t,Rel E w (T t) (tmps.getD t Go.undef))->
    ((ps.zip vs).foldl (λtmps(t,a)=>tmps.setIfInBounds t a) tmps).size=tmps.size/\∀t,Rel E w (mE T ps xs t) (((ps.zip vs).foldl (λtmps(t,a)=>tmps.setIfInBounds t a) tmps).getD t Go.undef)
 |[],xs,vs,T,tmps,hl,hp,h=>by simp[mE];exact λt=>by simpa using h t
 |p::ps,[],vs,T,tmps,hl,hp,h=>by
  have:vs=[]:=fI.1 hl.1;subst this;simp[mE];exact λt=>by simpa using h t
 |p::ps,x::xs,vs,T,tmps,hl,hp,h=>by
  cases vs with
  |nil=>have:=hl.1;simp at this
  |cons v vs=>
   have hx:Rel E w x v:=hl.2 0 x v rfl rfl;have hl':dJ E w xs vs:=⟨by have:=hl.1;simpa using this,λi a b ha hb=>hl.2 (i+1) a b (by simpa using ha) (by simpa using hb)⟩
   have:=Bx ps xs vs (upd T p x) (tmps.setIfInBounds p v) hl' (fun t ht=>by simpa using hp t (by simp [ht])) (fun t=>by
    simp only[upd];split
    ·rename_i e;subst e;have:t<tmps.size:=hp t (by simp);simp[this];exact hx
    ·rename_i hne
     have e:(tmps.setIfInBounds p v).getD t Go.undef=tmps.getD t Go.undef:=by
      simp only[yW];rw[Ee (Ne.symm hne)]
     rw[e];exact h t)
   refine⟨by simpa using this.1,λt=>?_⟩;simpa[mE] using this.2 t
structure Ready0(n:Nat)(ps:Array Nat)(assign body:Code)(r:Loop):Prop where
 params:r.params=ps
 assign:r.assign=assign
 body:r.body=body
 state:r.state=.ready
 pending:r.pending=none
 size:r.tmps.size=n
def Mi:AEx->Code
 |.exit i=>.exit i
 |_=>.ret
def yb(r:Loop)(T:Tm)(e:AEx):AV:=.oloop {r with state:=.done,pending:=some (Mi e)} T
theorem qu{n:Nat}{ps:Array Nat}{assign body:Code}{r:Loop}(h:Ready0 n ps assign body r):{r with state:=.ready,pending:=none}=r:=by
 have h1:=h.state;have h2:=h.pending;cases r;simp only at h1 h2;subst h1 h2;rfl
theorem Yl.of_awp{P:Program}{n:Nat}{ps:Array Nat}{assign body:Code}{r:Loop}(hr:Ready0 n ps assign body r)(hm:P.follows .mixedOrders=true)(hps:∀t∈ps.toList,t<n)
    {b:Nat} {args:List AV} {T:Tm} {H:Hp} {nx:Nat} {K:AV->Hp->Nat->Prop} (hb:H b=some [.oloop r T]) (hl:args.length=ps.size)
    (h:awp P n assign (mE T ps.toList args) H nx fun e T2 H2 nx2=>aO e (H2 b=some [.oloop r T]∧awp P n body T2 (dw H2 b) nx2 fun e T3 H3 nx3 =>
     aO e (K (.bool true) (av H3 b [.oloop r T]) nx3) (K (.bool false) (av H3 b [yb r T e]) nx3)) False):Yl P b args H nx K:=by
 intro E w vs hE hh hf hv;obtain⟨l,hs,hw,hlp⟩:=hh.spec b _ hb rfl;have hlp:E.lp b=some (r,T):=by rw[<-qu hr];exact hlp
 obtain⟨l',st,p,e1,e2,hT⟩:=hE.lp b r T hlp;rw[hs] at e1;cases e1;obtain⟨hbase,himm,_⟩:=hE.spb b l hs;refine⟨l,r,hs,hw,by rw[hr.params,hv.1,hl],?_⟩;refine roundIn_of_wpIn (F:=Fence.wide) trivial ?_;have htm:=Bx ps.toList args vs T r.tmps hv (λt ht=>by rw[hr.size];exact hps t ht) hT
 have hfold:(r.params.zip vs.toArray).foldl (λtmps(t,a)=>tmps.setIfInBounds t a) r.tmps=(ps.toList.zip vs).foldl (λtmps(t,a)=>tmps.setIfInBounds t a) r.tmps:=by
  rw[hr.params,<-Array.foldl_toList];simp
 rw[hfold,hr.assign,hr.body]
 have hS:Sim E ⟨n,0,some l⟩ ⟨mE T ps.toList args,H,nx⟩ {tmps:=(ps.toList.zip vs).foldl (λtmps(t,a)=>tmps.setIfInBounds t a) r.tmps,defers:=[]} w:=
  ⟨hE,hh,hf,λl' hl'=>by cases hl';exact⟨b,_,hlp,hs⟩,bo _,by rw[<-hr.size];exact htm.1,htm.2,⟨Gm,λd hd=>(by cases hd)⟩⟩
 have put:∀(E1:Env)(H1:Hp)(nx1:Nat)(w1:World)(r1:Loop)(st:LoopState)(p:Option Code),Ext E w E1 w1->EnvOk E1 w1->HeapOk E1 H1 nx1 w1->w1.heap[l]?=some (.loop r1)->
     Ext E1 w1 E1 (w1.putObj l (.loop {r with state:=st,pending:=p}))/\EnvOk E1 (w1.putObj l (.loop {r with state:=st,pending:=p}))/\HeapOk E1 (dw H1 b) nx1 (w1.putObj l (.loop {r with state:=st,pending:=p})):=by
  intro E1 H1 nx1 w1 r1 st p he1 hE1 hh1 hw1;refine BL hE1 (hh1.del b) (he1.sp _ _ hs) hw1 rfl rfl (by intro ds;simp) (by intro ds;simp) (λr' T' h'=>?_) (λx hx=>?_)
  ·rw[he1.lp _ _ hlp] at h';cases h';exact⟨st,p,rfl⟩
  ·rw[po] at hx;cases hx
 have static:∀(E1:Env)(w1:World),Ext E w E1 w1->EnvOk E1 w1->∃st p,w1.heap[l]?=some (.loop {r with state:=st,pending:=p}):=by
  intro E1 w1 he1 hE1;obtain⟨l1,st1,p1,f1,f2,_⟩:=hE1.lp b r T (he1.lp _ _ hlp);rw[he1.sp _ _ hs] at f1;cases f1;exact⟨st1,p1,f2⟩
 refine wpIn_mono (F:=FW (some l)) (gg hm assign hS h) ?_;rintro e a1 w1 ⟨x,E1,T1,H1,nx1,rfl,he1,hS1,hk⟩;cases x with
 |exit i=>exact hk.elim
 |ret=>exact hk.elim
 |normal=>
 obtain⟨hb1,hk⟩:=hk;obtain⟨l1,g1,g2,_⟩:=hS1.heap.spec b _ hb1 rfl;rw[he1.sp _ _ hs] at g1;cases g1;refine⟨_,run_beginRound g2 hr.state,?_⟩;have hbusy:({r with state:=.busy}:Loop)={r with state:=.busy,pending:=none}:=by have:=hr.pending;cases r;simp only at this;subst this;rfl
 rw[hbusy];obtain⟨p1,p2,p3⟩:=put E1 H1 nx1 w1 r .busy none he1 hS1.env hS1.heap g2
 have hS2:Sim E1 ⟨n,0,some l⟩ ⟨T1,dw H1 b,nx1⟩ a1 (w1.putObj l (.loop {r with state:=.busy,pending:=none})):=
  ⟨p2,p3,hS1.fresh,hS1.round,bo _,hS1.size,λt=>(hS1.tmps t).ext p1,hS1.defers.ext p1⟩
 refine wpIn_mono (F:=FW (some l)) (gg hm body hS2 hk) ?_;rintro e a3 w3 ⟨x,E3,T3,H3,nx3,rfl,he3,hS3,hk3⟩;have he03:Ext E w E3 w3:=(he1.trans p1).trans he3;obtain⟨st3,pd3,hw3⟩:=static E3 w3 he03 hS3.env
 have hlt3:b<nx3:=by
  rcases B7 b nx3 with h|h
  ·exact h
  ·have:=(hS3.fresh b h).2.1;rw[he03.sp _ _ hs] at this;cases this
 have hl3:=kN.1 hw3
 have fin:∀(st:LoopState)(jump:Option Code)(v:Bool),K (.bool v) (av H3 b [.oloop {r with state:=st,pending:=jump} T]) nx3->st=(if jump.isNone then .ready else .done)->v=jump.isNone->
     ∃v' w',(Instr.endRound l jump).run P w3=.ok v' w'/\∃v E' x H' nx',Ending.returned v'=.returned v/\Ext E w E' w'/\EnvOk E' w'/\HeapOk E' H' nx' w'/\cI E' nx'/\Rel E' w' x v/\K x H' nx':=by
  intro st jump v hK hst hv;obtain⟨q1,q2,q3⟩:=put E3 H3 nx3 w3 _ st jump he03 hS3.env hS3.heap hw3
  have q4:=q3.addSp (x:=.oloop { r with state:=st,pending:=jump } T) hlt3 (q2.spm b l (he03.sp _ _ hs)) (he03.sp _ _ hs) ⟨World.putObj_heap_same hl3.1,by
   have:=he03.lp _ _ hlp;rw[<-qu hr] at this;exact this⟩
  have hH:av (dw H3 b) b [.oloop {r with state:=st,pending:=jump} T]=av H3 b [.oloop {r with state:=st,pending:=jump} T]:=by
   funext y;unfold av dw;split<;>rfl
  rw[hH] at q4;refine⟨_,_,run_endRound jump hw3,?_⟩;subst hv;refine⟨.bool jump.isNone,E3,.bool jump.isNone,_,nx3,rfl,?_,?_,?_,hS3.fresh,.bool _,hK⟩
  ·subst hst;exact he03.trans q1
  ·subst hst;exact q2
  ·subst hst;exact q4
 cases x with
 |normal=>
  have hk3:K (.bool true) (av H3 b [.oloop r T]) nx3:=hk3;rw[<-qu hr] at hk3;exact fin .ready none true hk3 rfl rfl
 |exit i=>exact fin .done (some (.exit i)) false hk3 rfl rfl
 |ret=>exact fin .done (some .ret) false hk3 rfl rfl
theorem MS{E:Env}{H:Hp}{nx:Nat}{w:World}(hE:EnvOk E w)(hh:HeapOk E H nx w):
    ∃E',E'={E with dm:=λb=>E.dm b\/b=w.heap.size}/\Ext E w E' (w.alloc (.deferred (some [])))/\EnvOk E' (w.alloc (.deferred (some [])))/\HeapOk E' H nx (w.alloc (.deferred (some []))):=by
 let E':Env:={E with dm:=λb=>E.dm b\/b=w.heap.size}
 have hext:Ext E w E' (w.alloc (.deferred (some []))):=
  ⟨rfl,rfl,λ_ h=>h,λ_ h=>.inl h,λ_ _ _ h=>h,λ_ _ h=>h,λ_ _ h=>h,λb h=>⟨.inl h,cr (hE.dlt h)⟩,by simp,λb hb=>cr (hE.lt b hb),bd _⟩
 have hst:=fJ.alloc w (.deferred (some []));refine⟨E',rfl,hext,⟨λb hb=>?_,hE.below.trans ((Below.refl _ _).alloc hh.size _),λb hb=>?_,hE.spi,λb k hk=>?_,hE.spm,λb r T hl=>?_⟩,?_⟩
 ·have:=hE.lt b hb;simp;omega
 ·rcases hb with hb|rfl
  ·obtain⟨ds,h⟩:=hE.dm b hb;exact⟨ds,hst _ _ h rfl⟩
  ·exact⟨some [],World.alloc_heap_new w _⟩
 ·obtain⟨h1,h2,o,h3,h4,h5⟩:=hE.spb b k hk;exact⟨h1,h2,o,hst _ _ h3 h4,h4,h5⟩
 ·obtain⟨k,st,p,h1,h2,h3⟩:=hE.lp b r T hl;exact⟨k,st,p,h1,hst _ _ h2 rfl,λt=>(h3 t).ext hext⟩
 ·exact hh.step hext (λ_ h=>.inl h) (bd _) (λ_ _ _ _=>rfl) (λb cs blk sz hb hm=>cr (hh.blk_lt hb hm).1) hst rfl
theorem G7{E:Env}{H:Hp}{nx n:Nat}{w:World}(hE:EnvOk E w)(hh:HeapOk E H nx w)(hf:cI E nx){r:Loop}{T:Tm}{ps:Array Nat}{assign body:Code}(hr:Ready0 n ps assign body r)(hT:∀t,Rel E w (T t) (r.tmps.getD t Go.undef)):
    ∃E',Ext E w E' (w.alloc (.loop r))/\EnvOk E' (w.alloc (.loop r))/\HeapOk E' (av H nx [.oloop r T]) (nx+1) (w.alloc (.loop r))/\cI E' (nx+1)/\E'.sp nx=some w.heap.size/\E'.lp nx=some (r,T)/\E'.dm=E.dm:=by
 obtain⟨E1,hE1,he,hE',hh',hs,hnew⟩:=HE hE hh (hf nx (bd _)) (.loop r) rfl (by intro ds;simp)
 let E2:Env:={E1 with lp:=λb=>if b=nx then some (r,T) else E1.lp b}
 have hlp1:E1.lp=E.lp:=by rw[hE1]
 have hlpo:∀b x,E1.lp b=some x->E2.lp b=some x:=λb x hb=>by
  show(if b=nx then some (r,T) else E1.lp b)=some x;rw[if_neg (λe=>by subst e;rw[hlp1,(hf b (bd _)).2.2] at hb;cases hb)];exact hb
 have hself:E2.lp nx=some (r,T):=if_pos rfl
 have he2:Ext E1 (w.alloc (.loop r)) E2 (w.alloc (.loop r)):=
  ⟨rfl,rfl,λ_ h=>h,λ_ h=>.inl h,λ_ _ _ h=>h,λ_ _ h=>h,hlpo,λ_ h=>⟨h,rfl⟩,bd _,λ_ _=>rfl,bd _⟩
 have hE2:EnvOk E2 (w.alloc (.loop r)):=⟨hE'.lt,hE'.below,hE'.dm,hE'.spi,hE'.spb,hE'.spm,fun b r' T' hl=>by
  by_cases hb:b=nx
  ·subst hb;rw[hself] at hl;cases hl;exact⟨w.heap.size,r.state,r.pending,hs,hnew,λt=>(hT t).ext (he.trans he2)⟩
  ·have hl:E1.lp b=some (r',T'):=by rw[<-hl];exact(if_neg hb).symm
   obtain⟨k,st,p,h1,h2,h3⟩:=hE'.lp b r' T' hl;exact⟨k,st,p,h1,h2,λt=>(h3 t).ext he2⟩⟩
 have hh2:HeapOk E2 H (nx+1) (w.alloc (.loop r)):=hh'.step he2 (λ_ h=>.inl h) (bd _) (λ_ _ _ _=>rfl) (λ_ _ _ _ _ _=>rfl) (fJ.refl _) rfl;refine⟨E2,he.trans he2,hE2,?_,λb hb=>?_,hs,hself,by show E1.dm=E.dm;rw[hE1]⟩
 ·refine hh2.addSp (Fa _) (hE2.spm nx _ hs) hs ⟨hnew,?_⟩;rw[hself,qu hr]
 ·have h0:=hf b (by omega);refine⟨λn=>?_,?_,?_⟩
  ·show E1.mu b n=none;rw[hE1];exact h0.1 n
  ·show E1.sp b=none;rw[hE1];show(if b=nx then _ else _)=none;rw[if_neg (by omega)];exact h0.2.1
  ·show(if b=nx then _ else E1.lp b)=none;rw[if_neg (by omega),hlp1];exact h0.2.2
def Mo(r:Loop)(T:Tm)(b:Nat)(K:CP):Hp->Nat->Prop:=λH nx=>
 (H b=some [.oloop r T]/\K .normal T (dw H b) nx)\/ ∃e,e≠.normal/\H b=some [yb r T e]/\K e T (dw H b) nx
theorem Od{P:Program}{n:Nat}{g:Operand}{ps:Array Nat}{assign body:Code}{T:Tm}{H:Hp}{nx:Nat}{K:CP}{f:FuncId}{caps:List AV}(hf:ev T g=.func f caps)
    (h:∀r:Loop,Ready0 n ps assign body r->Fn P f (.yld nx::caps) (av H nx [.oloop r T]) (nx+1) λ_ H' nx'=>Mo r T nx K H' nx'):RF P n (.rangeFunc g ps assign body) T H nx K:=by
 intro N E a w hn hS;refine wpIn_rangeFunc (F:=FW N.rd) (n:=0) ?_;intro fn _
 have hgo:∃(l dd:Nat)(mark:List Deferred)(w₁:World)(E1:Env),(Instr.enterLoop fn a.tmps ps assign body N.rd).run P w=.ok (l,mark) (w₁.alloc (.loop {state:=.ready,pending:=none,fn,tmps:=a.tmps,params:=ps,assign,body,defers:=dd}))/\
     l=w₁.heap.size/\Ext E w E1 w₁/\EnvOk E1 w₁/\HeapOk E1 H nx w₁/\cI E1 nx/\sH E1 N w₁ (mark++a.defers):=by
  cases hrd:N.rd with
  |none=>
   obtain⟨E1,hE1,he,hE',hh'⟩:=MS hS.env hS.heap;refine⟨w.heap.size+1,w.heap.size,[{target:=.collected w.heap.size,args:=#[]}],_,E1,run_enterLoop_outer _ _ _ _ _,by simp,he,hE',hh',by rw[hE1];exact hS.fresh,?_⟩;refine⟨BV.2 ⟨λd hd=>?_,hS.defers.1⟩,λd hd=>?_⟩
   ·obtain⟨D,rfl,_,_,hD,_⟩:=hS.defers.2 d hd;have:=hS.env.dlt hD;intro e;simp at e;omega
   ·rcases gV.1 hd with rfl|hd
    ·exact⟨w.heap.size,rfl,by rw[he.base];exact hS.heap.size,hS.floor,by rw[hE1];exact .inr rfl,World.alloc_heap_new w _⟩
    ·exact(hS.defers.ext he).2 d hd
  |some l0=>
   obtain⟨b,⟨r0,T0⟩,h1,h2⟩:=hS.round l0 hrd;obtain⟨k,st,p,e1,e2,_⟩:=hS.env.lp b r0 T0 h1;rw[h2] at e1;cases e1;exact⟨w.heap.size,r0.defers,[],w,E,run_enterLoop_inner e2 _ _ _ _ _,rfl,Ext.refl _ _,hS.env,hS.heap,hS.fresh,hS.defers⟩
 obtain⟨l,dd,mark,w₁,E1,hrun,hl,he1,hE1,hh1,hf1,hmk⟩:=hgo;have hr:Ready0 n ps assign body {state:=.ready,pending:=none,fn,tmps:=a.tmps,params:=ps,assign,body,defers:=dd}:=⟨rfl,rfl,rfl,rfl,rfl,by show a.tmps.size=n;rw[hS.size,hn]⟩
 generalize hrr:({state:=.ready,pending:=none,fn,tmps:=a.tmps,params:=ps,assign,body,defers:=dd}:Loop)=r at hr hrun;have hrt:r.tmps=a.tmps:=by subst hrr;rfl
 obtain⟨E2,he2,hE2,hh2,hf2,hsp,hlp,hdm⟩:=G7 hE1 hh1 hf1 (T:=T) hr (λt=>by rw[hrt];exact(hS.tmps t).ext he1);rw[<-hl] at hsp;have hfn:=h r hr;have hfr:=nN (E:=E) (w:=w) (a:=a) hS.tmps g;simp only at hfr;rw[hf] at hfr;generalize hvg:a.eval g=vg at hfr;cases hfr with
 |func _ _ cv hcl hcr=>
 have he12:=he1.trans he2;refine⟨l,mark,w₁.alloc (.loop r),{target:=.fn (.func f) cv.toArray,args:=#[.func (.yield l) #[] #[]]},w₁.alloc (.loop r),f,#[.func (.yield l) #[] #[]]++cv.toArray,w₁.alloc (.loop r),hrun,?_,λ_ _=>trivial,?_,(λh=>by cases h),?_⟩
 ·simp only[resolve,hvg];simp[go_sem]
 ·simp only[invoke];exact gQ hfn.1 _ _
 ·have hargs:dJ E2 (w₁.alloc (.loop r)) (.yld nx::caps) (.func (.yield l) #[] #[]::cv):=by
    refine⟨by simp[hcl],λi x y hx hy=>?_⟩;cases i with
    |zero=>simp at hx hy;subst hx hy;exact .yld _ _ hsp
    |succ i=>exact(hcr i x y (by simpa using hx) (by simpa using hy)).ext he12
  have hcalls:=hfn.2 E2 _ _ hE2 hh2 hf2 hargs;have harr:#[.func (.yield l) #[] #[]]++cv.toArray=(.func (.yield l) #[] #[]::cv:List Value).toArray:=by simp
  rw[harr];refine(kY (r:=N.rd) (n:=0-1) hcalls).mono ?_;rintro e w' ⟨v,E',x,H',nx',rfl,he',hE',hh',hf',_,hpost⟩;have hsp':=he'.sp _ _ hsp;have hlp':=he'.lp _ _ hlp
  have fin:∀(r1:Loop)(T1:Tm),H' nx=some [.oloop r1 T1]->r1.state≠.busy->∃w4,(Instr.endLoop l).run P w'=.ok r1.pending w4/\∃E4,Ext E w E4 w4/\Sim E4 N ⟨T,dw H' nx,nx'⟩ {a with defers:=mark++a.defers} w4:=by
   intro r1 T1 hb hst;obtain⟨l1,g1,g2,g3⟩:=hh'.spec nx _ hb rfl;rw[hsp'] at g1;cases g1;refine⟨_,run_endLoop g2 hst,E',?_⟩;rw[hlp'] at g3;injection g3 with g3;injection g3 with g3 _
   obtain ⟨q1,q2,q3⟩:=BL hE' (hh'.del nx) hsp' g2 (o':=.loop { r1 with state:=.exhausted }) rfl rfl (by intro ds; simp) (by intro ds; simp) (fun r' T' h'=>by
    rw[hlp'] at h';cases h';exact⟨.exhausted,r1.pending,by rw[g3]⟩) (λx hx=>by rw[po] at hx;cases hx)
   have heAll:Ext E w E' (w'.putObj l (.loop {r1 with state:=.exhausted})):=(he12.trans he').trans q1;refine⟨heAll,q2,q3,hf',λl' hl'=>?_,fu hS.floor heAll.size,hS.size,λt=>(hS.tmps t).ext heAll,hmk.ext ((he2.trans he').trans q1)⟩;obtain⟨b,x,h1,h2⟩:=hS.round l' hl';exact⟨b,x,heAll.lp _ _ h1,heAll.sp _ _ h2⟩
  rcases hpost with⟨hb,hk⟩|⟨e,hne,hb,hk⟩
  ·obtain⟨w4,h1,E4,h2,h3⟩:=fin r T hb (by rw[hr.state];simp);rw[hr.pending] at h1;exact⟨none,w4,h1,.normal,E4,T,_,nx',rfl,h2,h3,hk⟩
  ·obtain⟨w4,h1,E4,h2,h3⟩:=fin _ T hb (by simp);refine⟨_,w4,h1,?_⟩;cases e with
   |normal=>exact absurd rfl hne
   |exit i=>exact wpIn_exit ⟨.exit i,E4,T,_,nx',rfl,h2,h3,hk⟩
   |ret=>exact wpIn_ret ⟨.ret,E4,T,_,nx',rfl,h2,h3,hk⟩
theorem cz{P:Program}{op:Op}{T:Tm}{H:Hp}{nx:Nat}{K:AV->Hp->Nat->Prop}(hnd:∀c,op≠.defer c)
    (h:∀ (E:Env) (w:World) (a:Act) (o:Oper),o.op=op→EnvOk E w→HeapOk E H nx w→cI E nx→(∀ x ∈ op.operands,Rel E w (ev T x) (a.eval x)) →
     ∃n v w' E' r H' nx',(execOp a.eval o).run P w=.ok n w'/\(n=.value v\/n=.skip/\v=Go.undef)/\Ext E w E' w'/\EnvOk E' w'/\HeapOk E' H' nx' w'/\cI E' nx'/\Rel E' w' r v/\K r H' nx'):eY P op T H nx K:=by
 refine⟨hnd,?_⟩;rintro rr E w a o next Q ho hE hh hf ht hn;obtain⟨n,v,w',E',r,H',nx',h1,h2,h3,h4,h5,h6,h7,h8⟩:=h E w a o ho hE hh hf ht;rw[h1];have:=hn E' H' nx' r v w' h3 h4 h5 h6 h7 h8;rcases h2 with rfl|⟨rfl,rfl⟩
 ·rw[Oper.uponIn_value];exact this
 ·rw[Oper.uponIn_skip];exact this
inductive MK where
 |one (k:TK)
 |st (ks:List TK)
def tkA(P:Program)(t:TypeId):Option (List TK):=match P.underlying t with
 |some (.array n e)=>match tkS P e with
  |some ks=>if P.cellsOf e=ks.length then some ((List.replicate n ks).flatten) else none
  |none=>none
 |_=>none
def mkk(P:Program)(t:TypeId):Option MK:=match tk1 P t with
 |some k=>some (.one k)
 |none=>match tkS P t with
  |some ks=>some (.st ks)
  |none=>match tkA P t with
   |some ks=>some (.st ks)
   |none=>(tkT P t).map .st
def kT(k:MK)(x y:AV):Option Bool:=match k,x,y with
 |.one k,x,y=>mh k x y
 |.st ks,.agg xs,.agg ys=>dY ks xs ys
 |_,_,_=>none
def eI(k:MK)(key:AV):List AV->Option (Option Nat)
 |[]=>some none
 |x::l=>match kT k key x with
  |some true=>some (some 0)
  |some false=>(eI k key l).map (·.map (· +1))
  |none=>none
theorem rA{P:Program}{t:TypeId}{k:MK}(h:mkk P t=some k):(∃k',k=.one k'/\tk1 P t=some k')\/(∃ks,k=.st ks/\tkS P t=some ks)\/(∃ks,k=.st ks/\tkA P t=some ks)\/ ∃ks,k=.st ks/\tkT P t=some ks:=by
 unfold mkk at h;split at h
 ·cases h;exact .inl ⟨_,rfl,by assumption⟩
 ·split at h
  ·cases h;exact .inr (.inl ⟨_,rfl,by assumption⟩)
  ·split at h
   ·rename_i ks hk;cases h;exact .inr (.inr (.inl ⟨ks,rfl,hk⟩))
   ·cases hk:tkT P t with
    |none=>rw[hk] at h;cases h
    |some ks=>rw[hk] at h;cases h;exact .inr (.inr (.inr ⟨ks,rfl,rfl⟩))
theorem B9{P:Program}{t:TypeId}{ks:List TK}(h:tkA P t=some ks):∃n e es,P.underlying t=some (.array n e)/\tkS P e=some es/\P.cellsOf e=es.length/\ks=(List.replicate n es).flatten:=by
 unfold tkA at h;split at h
 ·rename_i n e hu;split at h
  ·rename_i es he;split at h
   ·rename_i hc;cases h;exact⟨n,e,es,hu,he,hc,rfl⟩
   ·cases h
  ·cases h
 ·cases h
theorem oA{P:Program}{w:World}{t:TypeId}{ks:List TK}(h:tkS P t=some ks)(hc:P.cellsOf t=ks.length)(cs:Array Value)(i:Nat):(part t cs i).run P w=.ok (.agg (cs.extract i (i+ks.length))) w:=by
 have hu:=(qf h).1;obtain⟨inf,hi⟩:=info_of_underlying hu;simp[part,isAgg,cp hu,run_sizeOf w hi,hc]
theorem sO{E:Env}{w:World}{xs:List AV}{vs:List Value}(hl:xs.length=vs.length)(hr:∀(i:Nat)(x:AV)(v:Value),xs[i]?=some x->vs[i]?=some v->Rel E w x v)(a n:Nat):Rel E w (.agg ((xs.drop a).take n)) (.agg (vs.toArray.extract a (a+n))):=by
 have e:vs.toArray.extract a (a+n)=((vs.drop a).take n).toArray:=by
  simp[List.extract_eq_take_drop,List.extract_toArray]
 rw[e];refine Rel.agg _ _ (by simp[hl]) (λi x v hx hv=>?_);rw[jj] at hx hv;split at hx
 ·rename_i hi;rw[if_pos hi] at hv;rw[kD] at hx hv;exact hr _ x v hx hv
 ·cases hx
theorem sF{P:Program}{E:Env}{w:World}{d:Nat}{e:TypeId}{es:List TK}(he:tkS P e=some es)(hc:P.cellsOf e=es.length){xs ys:List AV}{vx vy:List Value}(lx:xs.length=vx.length)(ly:ys.length=vy.length)
    (hx:∀(i:Nat)(x:AV)(v:Value),xs[i]?=some x->vx[i]?=some v->Rel E w x v) (hy:∀(i:Nat)(x:AV)(v:Value),ys[i]?=some x->vy[i]?=some v->Rel E w x v):∀(m a:Nat)(r:Bool),
    dY (List.replicate m es).flatten (xs.drop (a*es.length)) (ys.drop (a*es.length))=some r->(Op.eqItems (d+2) e (P.cellsOf e) vx.toArray vy.toArray (List.range' a m)).run P w=.ok r w
 |0,a,r,h=>by
  generalize xs.drop (a*es.length)=l at h;generalize ys.drop (a*es.length)=m at h;cases l<;>cases m<;>first|(cases h;rfl)|cases h
 |m+1,a,r,h=>by
  rw[List.replicate_succ,List.flatten_cons] at h;obtain⟨b,q1,q2,q3⟩:=lA es _ _ _ r h;rw[List.drop_drop,List.drop_drop] at q3;have p1:=oA (w:=w) he hc vx.toArray (a*P.cellsOf e);have p2:=oA (w:=w) he hc vy.toArray (a*P.cellsOf e);have p3:=oB he (sO lx hx (a*P.cellsOf e) es.length) (sO ly hy (a*P.cellsOf e) es.length) (by rw[hc];exact q1) d;rw[List.range'_succ];simp only[Op.eqItems,bB,p1,p2,bv,p3];cases b with
  |false=>rw[q2 rfl];rfl
  |true=>
   simp only[Bool.not_true,dZ,if_false];refine sF he hc lx ly hx hy m (a+1) r ?_;have e2:(a+1)*es.length=a*es.length+es.length:=by rw[eh,Nat.one_mul]
   rw[e2];exact q3 rfl
theorem sU{P:Program}{E:Env}{w:World}{t:TypeId}{k:MK}{x y:AV}{vx vy:Value}{r:Bool}(hk:mkk P t=some k)(hx:Rel E w x vx)(hy:Rel E w y vy)(h:kT k x y=some r):
    (Op.equal t vx vy).run P w=.ok r w:=by
 unfold Op.equal Op.maxDepth;rcases rA hk with⟨k',rfl,hk'⟩|⟨ks,rfl,hk'⟩|⟨ks,rfl,hk'⟩|⟨ks,rfl,hk'⟩
 ·exact eZ hk' hx hy h 9999
 ·cases x<;>first|(cases h;done)|skip
  cases y<;>first|(cases h;done)|skip
  exact oB hk' hx hy h 9998
 ·cases x<;>first|(cases h;done)|skip
  cases y<;>first|(cases h;done)|skip
  obtain⟨n,e,es,hu,he,hc,rfl⟩:=B9 hk';obtain⟨inf,hi⟩:=info_of_underlying (qf he).1;cases hx with
  |agg xs vs1 l1 r1=>
  cases hy with
  |agg ys vs2 l2 r2=>
  rw[run_equalIn_array w 9999 _ _ hu hi,List.range_eq_range'];refine sF (d:=9997) he hc l1.symm l2.symm r1 r2 n 0 r ?_;rw[nz,List.drop_zero,List.drop_zero];exact h
 ·cases x<;>first|(cases h;done)|skip
  cases y<;>first|(cases h;done)|skip
  exact sI hk' hx hy h 9992
def pA(l:List MapEntry)(i:Nat)(r:Option Nat):Option (Nat×Value):=r.map λj=>(i+j,(l.getD j default).val)
theorem xt{e:MapEntry}{l:List MapEntry}{i:Nat}{r:Option Nat}:pA (e::l) i (r.map (· +1))=pA l (i+1) r:=by
 cases r with
 |none=>rfl
 |some j=>simp[pA];omega
theorem gX{P:Program}{E:Env}{w:World}{t:TypeId}{k:MK}{key:AV}{vk:Value}(hk:mkk P t=some k)(hx:Rel E w key vk):∀(es:List MapEntry)(ks:List AV)(i:Nat)(r:Option Nat),
    es.length=ks.length->(∀(j:Nat)(x:AV)(e:MapEntry),ks[j]?=some x->es[j]?=some e->Rel E w x e.key)->eI k key ks=some r->(Instr.findAsking t vk es i).run P w=.ok (pA es i r) w
 |[],ks,i,r,hl,hr,h=>by
  have:ks=[]:=fI.1 hl.symm;subst this;cases h;rfl
 |e::es,ks,i,r,hl,hr,h=>by
  cases ks with
  |nil=>cases hl
  |cons x ks=>
   simp only[eI] at h;have he:=hr 0 x e rfl rfl;simp only[Instr.findAsking,bB];split at h
   ·rename_i hs;cases h;rw[sU hk hx he hs];simp[Result.andThen,pA]
   ·rename_i hs;cases hm:eI k key ks with
    |none=>rw[hm] at h;cases h
    |some r'=>
     rw[hm] at h;cases h;rw[sU hk hx he hs];simp only[bv,dZ,if_false];rw[gX hk hx es ks (i+1) r' (by simpa using hl) (λj x e h1 h2=>hr (j+1) x e (by simpa using h1) (by simpa using h2)) hm,xt]
   ·cases h
theorem pE{P:Program}{E:Env}{w:World}{t:TypeId}{d:TypeDesc}{k:TK}{key:AV}{vk:Value}(hd:P.underlying t=some d)(hk:tk1 P t=some k)(hx:Rel E w key vk):∀(es:List MapEntry)(ks:List AV)(i:Nat)(r:Option Nat),
    es.length=ks.length->(∀(j:Nat)(x:AV)(e:MapEntry),ks[j]?=some x->es[j]?=some e->Rel E w x e.key)->eI (.one k) key ks=some r->Instr.findNow d vk es i=some (pA es i r)
 |[],ks,i,r,hl,hr,h=>by
  have:ks=[]:=fI.1 hl.symm;subst this;cases h;rfl
 |e::es,ks,i,r,hl,hr,h=>by
  cases ks with
  |nil=>cases hl
  |cons x ks=>
   simp only[eI] at h;have he:=hr 0 x e rfl rfl
   have hs:∀b,kT (.one k) key x=some b->Instr.sameNow d vk e.key=some b:=by
    intro b hb;generalize e.key=vke at he;replace hb:mh k key x=some b:=hb;unfold mh at hb;unfold tk1 at hk;rw[hd] at hk;split at hb
    ·cases hx;cases he;split at hb
     ·rename_i e2;subst e2;cases d<;>first|(cases hk;done)|skip
      simp only[Instr.sameNow,if_true];exact hb
     ·cases hb
    ·cases hx;cases he;cases d<;>first|(cases hk;done)|skip
     simp only[Instr.sameNow,beq_toListBytes];exact hb
    ·cases hx;cases he;cases d<;>first|(cases hk;done)|skip
     simp only[Instr.sameNow];exact hb
    ·cases hb
   simp only[Instr.findNow];split at h
   ·rename_i hb;cases h;rw[hs _ hb];simp[pA]
   ·rename_i hb;cases hm:eI (.one k) key ks with
    |none=>rw[hm] at h;cases h
    |some r'=>
     rw[hm] at h;cases h;rw[hs _ hb];simp only;rw[pE hd hk hx es ks (i+1) r' (by simpa using hl) (λj x e h1 h2=>hr (j+1) x e (by simpa using h1) (by simpa using h2)) hm,xt]
   ·cases h
theorem jG{P:Program}{E:Env}{w:World}{t:TypeId}{k:MK}{key:AV}{vk:Value}(hk:mkk P t=some k)(hx:Rel E w key vk){es:List MapEntry}{ks:List AV}{r:Option Nat}
    (hl:es.length=ks.length) (hr:∀(j:Nat)(x:AV)(e:MapEntry),ks[j]?=some x->es[j]?=some e->Rel E w x e.key) (h:eI k key ks=some r):(Instr.findKey t vk es).run P w=.ok (pA es 0 r) w:=by
 rcases rA hk with⟨k',rfl,hk'⟩|⟨fks,rfl,hk'⟩|⟨fks,rfl,hk'⟩|⟨fks,rfl,hk'⟩
 ·obtain⟨d,hd⟩:∃d,P.underlying t=some d:=by
    unfold tk1 at hk';cases hu:P.underlying t with
    |none=>rw[hu] at hk';cases hk'
    |some d=>exact⟨d,rfl⟩
  unfold Instr.findKey;simp only[bB,cp hd,bv,pE hd hk' hx es ks 0 r hl hr h];rfl
 ·have hu:=(qf hk').1;unfold Instr.findKey;simp only[bB,cp hu,bv];cases es with
  |nil=>
   have:ks=[]:=fI.1 hl.symm;subst this;cases h;rfl
  |cons e es=>
   have:Instr.findNow (.struct (P.fieldsOf t)) vk (e::es) 0=none:=rfl;rw[this];exact gX hk hx _ ks 0 r hl hr h
 ·obtain⟨n,el,els,hu,_,_,_⟩:=B9 hk';unfold Instr.findKey;simp only[bB,cp hu,bv];cases es with
  |nil=>
   have:ks=[]:=fI.1 hl.symm;subst this;cases h;rfl
  |cons e es=>
   have:Instr.findNow (.array n el) vk (e::es) 0=none:=rfl;rw[this];exact gX hk hx _ ks 0 r hl hr h
 ·obtain⟨d,hd,hno⟩:∃d,P.underlying t=some d/\∀e es,Instr.findNow d vk (e::es) 0=none:=by
    rcases(za hk').1 with⟨fs,hu⟩|⟨m,e,hu⟩
    ·exact⟨_,hu,λ_ _=>rfl⟩
    ·exact⟨_,hu,λ_ _=>rfl⟩
  unfold Instr.findKey;simp only[bB,cp hd,bv];cases es with
  |nil=>
   have:ks=[]:=fI.1 hl.symm;subst this;cases h;rfl
  |cons e es=>
   rw[hno];exact gX hk hx _ ks 0 r hl hr h
def ss(k:MK)(x:AV):Bool:=match k,x with
 |.one .int,.int _ _=>true
 |.one .str,.str _=>true
 |.one .bool,.bool _=>true
 |.st ks,.agg xs=>ks.length==xs.length
 |_,_=>false
theorem jE{P:Program}{w:World}{t:TypeId}{k:TK}(hk:tk1 P t=some k)(em:Bool)(n:Nat)(v:Value):(Instr.checkKey em (n+1) t v).run P w=.ok () w:=by
 unfold tk1 at hk;cases hu:P.underlying t with
 |none=>rw[hu] at hk;cases hk
 |some d=>
  rw[hu] at hk;cases d<;>first|(cases hk;done)|skip
  all_goals
   simp only[Instr.checkKey,bB,cp hu,bv];cases v<;>rfl
theorem DN{P:Program}:∀(fs:List Field)(i:Nat)(ks:List TK),tkF P i fs=some ks->ks.length=fs.length/\∀(j:Nat)(f:Field),fs[j]?=some f->f.offset=i+j/\∃k,tk1 P f.type=some k
 |[],i,ks,h=>by cases h;exact⟨rfl,by simp⟩
 |f::fs,i,ks,h=>by
  simp only[tkF] at h;split at h
  case isFalse=>cases h
  case isTrue hc=>
  split at h
  case h_2=>cases h
  rename_i k ks' h1 h2;cases h;obtain⟨e1,e2⟩:=DN fs (i+1) ks' h2;refine⟨by simp[e1],λj g hg=>?_⟩;cases j with
  |zero=>simp at hg;subst hg;exact⟨hc.2,k,h1⟩
  |succ j=>obtain⟨q1,q2⟩:=e2 j g (by simpa using hg);exact⟨by omega,q2⟩
theorem nW{α:Type}{P:Program}{w:World}:∀(l:List α)(f:α->PUnit->Sem (ForInStep PUnit)),(∀x∈l,(f x PUnit.unit).run P w=.ok (.yield PUnit.unit) w)->(forIn l PUnit.unit f).run P w=.ok PUnit.unit w
 |[],f,h=>by simp
 |x::l,f,h=>by
  rw[List.forIn_cons];simp only[bB,h x (by simp),bv];exact nW l f (λy hy=>h y (by simp[hy]))
theorem pG{P:Program}{w:World}{t:TypeId}{ks:List TK}(hk:tkS P t=some ks){vs:List Value}(hl:vs.length=ks.length)(em:Bool)(n:Nat)(hk1:∀t v k,tk1 P t=some k->(Instr.checkKey em n t v).run P w=.ok () w):(Instr.checkKey em (n+1) t (.agg vs.toArray)).run P w=.ok () w:=by
 obtain⟨h1,_,_,h4⟩:=qf hk;obtain⟨q1,q2⟩:=DN _ 0 ks h4;simp only[Instr.checkKey,bB,cp h1,bv];rw[<-Array.forIn_toList];rw[nW]
 ·rfl
 ·intro f hf;obtain⟨j,hj⟩:=sB hf;obtain⟨e1,k,e2⟩:=q2 j f hj;have hlt:f.offset<vs.toArray.size:=by have:=(bF.1 hj).1;simp;omega
  have hp:=fe (P:=P) (w:=w) e2 (cs:=vs.toArray) (i:=f.offset) (v:=vs.toArray[f.offset]) (by simp[hlt]);by_cases hn:f.name="_"
  ·simp only[hn,ne_eq,not_true_eq_false,if_false,eE]
  ·simp only[hn,ne_eq,not_false_eq_true,if_true,bB,hp,bv,hk1 _ _ _ e2,eE]
theorem wO{P:Program}{w:World}{t:TypeId}{ks:List TK}(hk:tkA P t=some ks){vs:List Value}(hl:vs.length=ks.length)(em:Bool)(N:Nat)(hk1:∀(e:TypeId)(es:List TK)(us:List Value),tkS P e=some es->us.length=es.length->(Instr.checkKey em N e (.agg us.toArray)).run P w=.ok () w):(Instr.checkKey em (N+1) t (.agg vs.toArray)).run P w=.ok () w:=by
 obtain⟨n,e,es,hu,he,hc,rfl⟩:=B9 hk;obtain⟨inf,hi⟩:=info_of_underlying (qf he).1;have hlen:((List.replicate n es).flatten).length=n*es.length:=by simp
 rw[hlen] at hl;simp only[Instr.checkKey,bB,cp hu,bv,Std.Legacy.Range.forIn_eq_forIn_range',Std.Legacy.Range.size,Nat.sub_zero,Nat.add_one_sub_one,Nat.div_one];rw[nW]
 ·rfl
 ·intro i hin
  have hin:i<n:=by
   have:=List.mem_range'.1 hin;omega
  have hp:=oA (w:=w) he hc vs.toArray (i*P.cellsOf e);have hle:(i+1)*es.length<=n*es.length:=jt _ hin;rw[eh,Nat.one_mul] at hle
  have ex:vs.toArray.extract (i*P.cellsOf e) (i*P.cellsOf e+es.length)=((vs.drop (i*P.cellsOf e)).take es.length).toArray:=by
   simp[List.extract_eq_take_drop,List.extract_toArray]
  have hck:=hk1 e es ((vs.drop (i*P.cellsOf e)).take es.length) he (by rw[jg,Ce,hc];omega);simp only[bB,run_sizeOf w hi,hp,bv,ex,hck,eE]
theorem lR{P:Program}{w:World}{em:Bool}:∀(d:Nat)(t:TypeId)(ks:List TK),tkN P d t=some ks->∀(vs:List Value)(a:Nat),a+ks.length<=vs.length->∃v,(part t vs.toArray a).run P w=.ok v w/\∀D,d<=D->(Instr.checkKey em D t v).run P w=.ok () w
 |0,t,ks,h=>by cases h
 |d+1,t,ks,h=>by
  intro vs a hl;rcases kA h with⟨hu,hsi,hf,hc⟩|⟨n,e,es,hu,he,hc,hce,rfl⟩|⟨k,hk,rfl⟩
  ·refine⟨_,od (.inl ⟨_,hu⟩) hc _ _,λD hD=>?_⟩;obtain⟨D,rfl⟩:∃D',D=D'+1:=⟨D-1,by omega⟩
   simp only[Instr.checkKey,bB,cp hu,bv];rw[<-Array.forIn_toList,i6,nW]
   ·rfl
   ·intro f hfm;obtain⟨k,q1,q2,q3⟩:=AF hf f hfm;obtain⟨v,p1,p2⟩:=lR (em:=em) (w:=w) d f.type k q1 ((vs.drop a).take ks.length) f.offset (by rw[jg,Ce];omega);by_cases hn:f.name="_"
    ·simp only[hn,ne_eq,not_true_eq_false,if_false,eE]
    ·simp only[hn,ne_eq,not_false_eq_true,if_true,bB,p1,bv,p2 D (by omega),eE]
  ·obtain⟨inf,hi⟩:∃inf,P.info? e=some inf:=by
     have:∃u,P.underlying e=some u:=by
      cases d with
      |zero=>cases he
      |succ d=>
       rcases kA he with⟨hu,_⟩|⟨_,_,_,hu,_⟩|⟨k,hk,_⟩
       ·exact⟨_,hu⟩
       ·exact⟨_,hu⟩
       ·unfold tk1 at hk;cases hue:P.underlying e with
        |none=>rw[hue] at hk;cases hk
        |some u=>exact⟨u,rfl⟩
     obtain⟨u,hu⟩:=this;exact info_of_underlying hu
   refine⟨_,od (.inr ⟨_,_,hu⟩) hc _ _,λD hD=>?_⟩;obtain⟨D,rfl⟩:∃D',D=D'+1:=⟨D-1,by omega⟩
   simp only[Instr.checkKey,bB,cp hu,bv,Std.Legacy.Range.forIn_eq_forIn_range',Std.Legacy.Range.size,Nat.sub_zero,Nat.add_one_sub_one,Nat.div_one];rw[i6,nW]
   ·rfl
   ·intro i hin
    have hin:i<n:=by
     have:=List.mem_range'.1 hin;omega
    have hlen:((List.replicate n es).flatten).length=n*es.length:=by simp
    have hle:(i+1)*es.length<=n*es.length:=jt _ hin;rw[eh,Nat.one_mul] at hle;obtain⟨v,p1,p2⟩:=lR (em:=em) (w:=w) d e es he ((vs.drop a).take ((List.replicate n es).flatten).length) (i*P.cellsOf e) (by rw[jg,Ce,hce];omega);simp only[bB,run_sizeOf w hi,p1,bv,p2 D (by omega),eE]
  ·have hl:a+1<=vs.length:=hl;refine⟨vs[a],fe hk (by simp[show a<vs.length by omega]),λD hD=>?_⟩;obtain⟨D,rfl⟩:∃D',D=D'+1:=⟨D-1,by omega⟩
   exact jE hk em D _
theorem kg{P:Program}{E:Env}{w:World}{t:TypeId}{k:MK}(hk:mkk P t=some k){key:AV}{v:Value}(hx:Rel E w key v)(hfit:ss k key=true)(em:Bool):(Instr.checkKey em 10000 t v).run P w=.ok () w:=by
 rcases rA hk with⟨k',rfl,hk'⟩|⟨ks,rfl,hk'⟩|⟨ks,rfl,hk'⟩|⟨ks,rfl,hk'⟩
 ·exact jE hk' em 9999 v
 ·cases key<;>first|(cases hfit;done)|skip
  have hfit:ks.length==_:=hfit;cases hx with
  |agg cs vs hl _=>exact pG hk' (by have:=hfit;simp at this;omega) em 9999 (λt v k h=>jE h em 9998 v)
 ·cases key<;>first|(cases hfit;done)|skip
  have hfit:ks.length==_:=hfit;cases hx with
  |agg cs vs hl _=>exact wO hk' (by have:=hfit;simp at this;omega) em 9999 (λe es us h1 h2=>pG h1 h2 em 9998 (λt v k h=>jE h em 9997 v))
 ·cases key<;>first|(cases hfit;done)|skip
  have hfit:ks.length==_:=hfit;obtain⟨hu,_,hN,hc⟩:=za hk';cases hx with
  |agg cs vs hl _=>
   obtain⟨v,p1,p2⟩:=lR (em:=em) (w:=w) 8 t ks hN vs 0 (by simp at hfit;omega);rw[od hu hc,i6,List.drop_zero,js (by simp at hfit;omega)] at p1;cases p1;exact p2 10000 (by omega)
theorem kK{P:Program}{w w':World}{s:Sem Value}{v:Value}(h:s.run P w=.ok v w'):(do pure (Next.value (<-s)):Sem Next).run P w=.ok (.value v) w':=by
 simp only[bB,h,bv];rfl
theorem xN{P:Program}{w w':World}{s:Sem Unit}(h:s.run P w=.ok () w'):(do s;pure Next.skip:Sem Next).run P w=.ok .skip w':=by
 simp only[bB,h,bv];rfl
def oI(P:Program)(t:TypeId):Option (TypeId×TypeId):=match P.underlying t with
 |some (.map k e)=>some (k,e)
 |_=>none
theorem pk{P:Program}{t k e:TypeId}(h:oI P t=some (k,e)):P.underlying t=some (.map k e):=by
 unfold oI at h;split at h
 ·cases h;assumption
 ·cases h
theorem iK{P:Program}{w:World}{k:Nat}{o:Obj}(h:w.heap[k]?=some o)(hc:lm o=false):(getObj k).run P w=.ok o w:=by cases o<;>first|(cases hc;done)|simp[getObj,Sem.run,h]
theorem jW{P:Program}{w:World}{k:Nat}{o o':Obj}(h:w.heap[k]?=some o)(hc:lm o=false):(setObj k o').run P w=.ok () (w.putObj k o'):=by cases o<;>first|(cases hc;done)|simp[setObj,Sem.run,h,World.putObj]
theorem cI.sp{E E':Env}{nx:Nat}(h:cI E nx){k:Nat}(he:E'={E with sp:=λb=>if b=nx then some k else E.sp b}):cI E' (nx+1):=by
 intro b hb;subst he;obtain⟨h1,h2,h3⟩:=h b (by omega);exact⟨h1,by show(if b=nx then _ else _)=none;rw[if_neg (by omega)];exact h2,h3⟩
theorem wx{P:Program}{t:TypeId}{r:Option Operand}{T:Tm}{H:Hp}{nx:Nat}{K:AV->Hp->Nat->Prop}(ht:r=none\/ ∃x n k p,r=some x/\ev T x=.int k n/\oI P t=some p)
    (h:K (.mp nx) (av H nx [.omap [] []]) (nx+1)):eY P (.makeMap t r) T H nx K:=by
 refine cz (by intro c;simp) ?_;rintro E w a ⟨dst,op,type,pos,after,guard⟩ ho hE hh hf htm;simp only at ho;subst ho;obtain⟨E',hE',he,hEo,hh',hs,hnew⟩:=HE hE hh (hf nx (bd _)) (.map #[] 0) rfl (by intro ds;simp);have hspm:=hEo.spm nx _ hs;refine⟨.value (.map (some w.heap.size)),.map (some w.heap.size),w.alloc (.map #[] 0),E',.mp nx,_,nx+1,?_,.inl rfl,he,hEo,hh'.addSp (x:=.omap [] []) (Fa _) hspm hs ⟨#[],0,hnew,⟨rfl,rfl,by simp,by simp,by simp,rfl⟩⟩,hf.sp hE',.mp _ _ hs,h⟩;refine kK ?_;rcases ht with rfl|⟨x,n,k,p,rfl,hx,hp⟩
 ·simp only[Option.map_none,Instr.makeMap,bB,run_newObj_alloc,bv];rfl
 ·have hr:=htm x (by simp[Op.operands,Call.operands]);rw[hx] at hr;generalize hvx:a.eval x=vx at hr;cases hr;have hu:=pk (P:=P) (t:=t) (k:=p.1) (e:=p.2) hp;simp only[nw,hvx,Instr.makeMap,bB,cp hu,asInt,eE,run_newObj_alloc,bv];rfl
theorem v8{E:Env}{H:Hp}{nx:Nat}{w:World}(hh:HeapOk E H nx w){b k:Nat}{ks vs:List AV}(hb:H b=some [.omap ks vs])(hs:E.sp b=some k):∃es clock,w.heap[k]?=some (.map es clock)/\MapOk E w ks vs es clock:=by
 obtain⟨k',h1,es,clock,h2,h3⟩:=hh.spec b _ hb rfl;rw[hs] at h1;cases h1;exact⟨es,clock,h2,h3⟩
theorem map_set{E:Env}{H:Hp}{nx:Nat}{w:World}(hE:EnvOk E w)(hh:HeapOk E H nx w){b k:Nat}{ks vs ks' vs':List AV}{es es':Array MapEntry}{clock clock':Nat}(hb:H b=some [.omap ks vs])(hs:E.sp b=some k)(hw:w.heap[k]?=some (.map es clock))
    (hm:MapOk E w ks' vs' es' clock'):Ext E w E (w.putObj k (.map es' clock'))/\EnvOk E (w.putObj k (.map es' clock'))/\HeapOk E (av H b [.omap ks' vs']) nx (w.putObj k (.map es' clock')):=by
 have hlp:∀r T,E.lp b=some (r,T)->False:=by
  intro r T h;obtain⟨k',st,p,h1,h2,_⟩:=hE.lp b r T h;rw[hs] at h1;cases h1;rw[hw] at h2;cases h2
 obtain⟨q1,q2,q3⟩:=BL hE (hh.del b) hs hw (o':=.map es' clock') rfl rfl (by intro ds;simp) (by intro ds;simp) (λr T h=>(hlp r T h).elim) (λx hx=>by rw[po] at hx;cases hx);refine⟨q1,q2,?_⟩
 have hH:av (dw H b) b [.omap ks' vs']=av H b [.omap ks' vs']:=by
  funext y;unfold av dw;split<;>rfl
 rw[<-hH];exact q3.addSp (hh.dom _ _ hb) (q2.spm b k hs) hs ⟨es',clock',World.putObj_heap_same (kN.1 hw).1,hm.ext q1⟩
def jb(key:AV)(r:Option Nat)(ks:List AV):List AV:=match r with|some _=>ks|none=>ks++[key]
def qY(v:AV)(r:Option Nat)(vs:List AV):List AV:=match r with|some i=>vs.set i v|none=>vs++[v]
theorem xS{a b:ByteArray}(h:a.toList=b.toList):a=b:=by
 rw[ByteArray.toList_eq,ByteArray.toList_eq] at h;obtain⟨⟨x⟩⟩:=a;obtain⟨⟨y⟩⟩:=b;simp at h;rw[h]
theorem AS{k:TK}{x y:AV}(h:mh k x y=some true):x=y:=by
 unfold mh at h;split at h
 ·split at h
  ·subst_vars;simp at h;rw[h]
  ·cases h
 ·simp at h;rw[xS h]
 ·simp at h;rw[h]
 ·cases h
theorem Ai:∀{ks:List TK}{xs ys:List AV},dY ks xs ys=some true->xs=ys
 |[],[],[],_=>rfl
 |k::ks,x::xs,y::ys,h=>by
  simp only[dY] at h;split at h
  ·rename_i hs;rw[AS hs,Ai h]
  ·cases h
  ·cases h
 |[],_::_,_,h=>by cases h
 |[],[],_::_,h=>by cases h
 |_::_,[],_,h=>by cases h
 |_::_,_::_,[],h=>by cases h
theorem AX{k:MK}{x y:AV}(h:kT k x y=some true):x=y:=by
 cases k with
 |one k=>exact AS h
 |st ks=>
  cases x<;>first|(cases h;done)|skip
  cases y<;>first|(cases h;done)|skip
  rw[Ai h]
theorem kI{k:MK}{key:AV}:∀{ks:List AV}{i:Nat},eI k key ks=some (some i)->∃x,ks[i]?=some x/\kT k key x=some true
 |[],i,h=>by cases h
 |x::l,i,h=>by
  simp only[eI] at h;split at h
  ·rename_i hs;cases h;exact⟨x,rfl,hs⟩
  ·cases hm:eI k key l with
   |none=>rw[hm] at h;cases h
   |some r=>
    rw[hm] at h;cases r with
    |none=>cases h
    |some j=>
     cases h;obtain⟨y,h1,h2⟩:=kI hm;exact⟨y,by simpa using h1,h2⟩
  ·cases h
theorem u6{E:Env}{w:World}{k:TK}{x y:AV}{vx vy:Value}(hx:Rel E w x vx)(hy:Rel E w y vy)(h:mh k x y=some true)(n:Nat):Instr.sameBits n vy vx=true:=by
 unfold mh at h;split at h
 ·cases hx;cases hy;split at h
  ·subst_vars;simp at h;subst h;cases n<;>simp[Instr.sameBits]
  ·cases h
 ·cases hx;cases hy;simp at h;rw[xS h];cases n<;>simp[Instr.sameBits,beq_toListBytes]
 ·cases hx;cases hy;simp at h;subst h;cases n<;>simp[Instr.sameBits]
 ·cases h
theorem vo{E:Env}{w:World}{n:Nat}:∀{ks:List TK}{xs ys:List AV}{vx vy:List Value},dJ E w xs vx->dJ E w ys vy->dY ks xs ys=some true->vx.length=vy.length/\((vy.zip vx).all λ(x,y)=>Instr.sameBits n x y)=true
 |[],[],[],vx,vy,hx,hy,h=>by
  have h1:vx=[]:=fI.1 hx.1;have h2:vy=[]:=fI.1 hy.1;subst h1 h2;exact⟨rfl,rfl⟩
 |k::ks,x::xs,y::ys,vx,vy,hx,hy,h=>by
  cases vx with
  |nil=>have:=hx.1;simp at this
  |cons v1 vx=>
  cases vy with
  |nil=>have:=hy.1;simp at this
  |cons v2 vy=>
  simp only[dY] at h;split at h
  ·rename_i hs;have r1:dJ E w xs vx:=⟨by have:=hx.1;simpa using this,λi a b ha hb=>hx.2 (i+1) a b (by simpa using ha) (by simpa using hb)⟩
   have r2:dJ E w ys vy:=⟨by have:=hy.1;simpa using this,λi a b ha hb=>hy.2 (i+1) a b (by simpa using ha) (by simpa using hb)⟩
   obtain⟨e1,e2⟩:=vo (n:=n) r1 r2 h;refine⟨by simp[e1],?_⟩;simp only[List.zip_cons_cons,List.all_cons,eN];exact⟨u6 (hx.2 0 x v1 rfl rfl) (hy.2 0 y v2 rfl rfl) hs n,e2⟩
  ·cases h
  ·cases h
 |[],_::_,_,_,_,_,_,h=>by cases h
 |[],[],_::_,_,_,_,_,h=>by cases h
 |_::_,[],_,_,_,_,_,h=>by cases h
 |_::_,_::_,[],_,_,_,_,h=>by cases h
theorem vh{E:Env}{w:World}{k:MK}{x y:AV}{vx vy:Value}(hx:Rel E w x vx)(hy:Rel E w y vy)(h:kT k x y=some true):Instr.sameBits 10000 vy vx=true:=by
 cases k with
 |one k=>exact u6 hx hy h _
 |st ks=>
  cases x<;>first|(cases h;done)|skip
  cases y<;>first|(cases h;done)|skip
  cases hx with
  |agg _ v1 l1 r1=>
  cases hy with
  |agg _ v2 l2 r2=>
  obtain⟨e1,e2⟩:=vo (n:=9999) ⟨l1,r1⟩ ⟨l2,r2⟩ h;show Instr.sameBits (9999+1) _ _=true;simp only[Instr.sameBits,eN];exact⟨by simp[e1],e2⟩
theorem th{P:Program}{t kt et:TypeId}{m k x:Operand}{T:Tm}{H:Hp}{nx b:Nat}{K:AV->Hp->Nat->Prop}{mk:MK}{ks vs:List AV}{r:Option Nat}(ht:oI P t=some (kt,et))(hk:mkk P kt=some mk)
    (hm:ev T m=.mp b) (hb:H b=some [.omap ks vs]) (hfit:ss mk (ev T k)=true) (hr:eI mk (ev T k) ks=some r)
    (h:K (.tup []) (av H b [.omap (jb (ev T k) r ks) (qY (ev T x) r vs)]) nx):eY P (.mapUpdate t m k x) T H nx K:=by
 refine cz (by intro c;simp) ?_;rintro E w a ⟨dst,op,type,pos,after,guard⟩ ho hE hh hf htm;simp only at ho;subst ho;have hmr:=htm m (by simp[Op.operands,Call.operands]);have hkr:=htm k (by simp[Op.operands,Call.operands]);have hxr:=htm x (by simp[Op.operands,Call.operands]);rw[hm] at hmr;generalize hvm:a.eval m=vm at hmr;cases hmr with
 |mp _ kb hs=>
 obtain⟨es,clock,hw,hok⟩:=v8 hh hb hs;have hck:=kg (P:=P) (w:=w) hk hkr hfit false;have hfk:=jG (P:=P) (es:=es.toList) (ks:=ks) hk hkr (by simpa using hok.len) (λj y e h1 h2=>hok.key j y e h1 (by simpa using h2)) hr;have hu:=pk ht
 have key:∃es' clock',(Instr.mapUpdate t (.map (some kb)) (a.eval k) (a.eval x)).run P w=.ok () (w.putObj kb (.map es' clock'))/\MapOk E w (jb (ev T k) r ks) (qY (ev T x) r vs) es' clock':=by
  unfold Instr.mapUpdate;simp only[bB,cp hu,bv,iK hw rfl,hck,hfk];cases r with
  |none=>
   simp only[pA,Option.map_none,jW hw rfl];refine⟨_,_,rfl,?_⟩;have hl:=hok.len;have hl':=hok.len';refine⟨by simp[jb,hl],by simp[qY,jb,hl'],λi y e h1 h2=>?_,λi y e h1 h2=>?_,λi e h1=>?_,by simp[hok.clk]⟩
   ·simp only[jb] at h1;rw[Fu] at h2;split at h2
    ·rename_i he;cases h2;rw[he,hl,ia (bd _)] at h1;simp at h1;subst h1;exact hkr
    ·rename_i hne;have hlt:i<es.size:=(kN.1 h2).1;rw[fT (by omega)] at h1;exact hok.key i y e h1 h2
   ·simp only[qY] at h1;rw[Fu] at h2;split at h2
    ·rename_i he;cases h2;rw[he,hl,ia (by omega)] at h1;simp[hl'] at h1;subst h1;exact hxr
    ·rename_i hne;have hlt:i<es.size:=(kN.1 h2).1;rw[fT (by omega)] at h1;exact hok.val i y e h1 h2
   ·rw[Fu] at h1;split at h1
    ·rename_i he;cases h1;rw[he];exact hok.clk
    ·exact hok.born i e h1
  |some i=>
   obtain⟨y,hy,hsame⟩:=kI hr;have hlt:i<es.size:=by have:=(bF.1 hy).1;have:=hok.len;omega
   have hbits:=vh hkr (hok.key i y es[i] hy (by simp[hlt])) hsame
   have hkeep:(Instr.keyThatStays (((es[i]?).map (·.key)).getD (a.eval k)) (a.eval k)).run P w=.ok (a.eval k) w:=by
    unfold Instr.keyThatStays;simp only[hlt,CN,nw,tw];rw[if_pos hbits];rfl
   simp only[pA,nw,dt,bB,hkeep,bv,jW hw rfl];refine⟨_,_,rfl,?_⟩
   have hmod:∀j e,(es.modify i λe=>{e with key:=a.eval k,val:=a.eval x})[j]?=some e->∃e0,es[j]?=some e0/\((i=j/\e={e0 with key:=a.eval k,val:=a.eval x})\/(i≠j/\e=e0)):=by
    intro j e he;rw[Array.getElem?_modify] at he;split at he
    ·rename_i hij;cases h0:es[j]? with
     |none=>rw[h0] at he;cases he
     |some e0=>rw[h0] at he;cases he;exact⟨e0,rfl,.inl ⟨hij,rfl⟩⟩
    ·rename_i hij;exact⟨e,he,.inr ⟨hij,rfl⟩⟩
   refine⟨by simp[jb,hok.len],by simp[qY,jb,hok.len'],λj z e h1 h2=>?_,λj z e h1 h2=>?_,λj e h1=>?_,by simp[hok.clk]⟩
   ·obtain⟨e0,k1,(⟨rfl,rfl⟩|⟨hne,rfl⟩)⟩:=hmod j e h2
    ·simp only[jb] at h1;rw[hy] at h1;cases h1;rw[<-AX hsame];exact hkr
    ·exact hok.key j z e h1 k1
   ·obtain⟨e0,k1,(⟨rfl,rfl⟩|⟨hne,rfl⟩)⟩:=hmod j e h2
    ·simp only[qY] at h1;have:i<vs.length:=by have:=hok.len';have:=hok.len;omega
     rw[List.getElem?_set_self this] at h1;cases h1;exact hxr
    ·simp only[qY] at h1;rw[List.getElem?_set_ne hne] at h1;exact hok.val j z e h1 k1
   ·obtain⟨e0,k1,(⟨rfl,rfl⟩|⟨hne,rfl⟩)⟩:=hmod j e h1
    ·exact hok.born i e0 k1
    ·exact hok.born j e k1
 obtain⟨es',clock',hrun,hok'⟩:=key;obtain⟨q1,q2,q3⟩:=map_set hE hh hb hs hw hok';refine⟨.skip,Go.undef,_,E,.tup [],_,nx,?_,.inr ⟨rfl,rfl⟩,q1,q2,q3,hf,jn _ _,h⟩;refine xN ?_;show(Instr.mapUpdate t (a.eval m) (a.eval k) (a.eval x)).run P w=_;rw[hvm];exact hrun
def mget(z:AV)(ok:Bool)(r:Option Nat)(vs:List AV):AV:=match r with
 |some i=>if ok=true then .tup [vs.getD i .undef,.bool true] else vs.getD i .undef
 |none=>if ok=true then .tup [z,.bool false] else z
theorem lW{E:Env}{w:World}{x y:AV}{u v:Value}(h1:Rel E w x u)(h2:Rel E w y v):Rel E w (.tup [x,y]) (.tuple #[u,v]):=by
 refine Rel.tup [x,y] [u,v] rfl (λi a b ha hb=>?_)
 match i with
 |0=>cases ha;cases hb;exact h1
 |1=>cases ha;cases hb;exact h2
 |i+2=>cases ha
theorem qz{P:Program}{t kt et:TypeId}{m k:Operand}{ok:Bool}{T:Tm}{H:Hp}{nx b:Nat}{K:AV->Hp->Nat->Prop}{mk:MK}{ks vs:List AV}{r:Option Nat}{z:AV}(ht:oI P t=some (kt,et))(hk:mkk P kt=some mk)(hz:gw P et=some z)
    (hm:ev T m=.mp b) (hb:H b=some [.omap ks vs]) (hfit:ss mk (ev T k)=true) (hr:eI mk (ev T k) ks=some r)
    (h:K (mget z ok r vs) H nx):eY P (.lookup t m k ok) T H nx K:=by
 refine cz (by intro c;simp) ?_;rintro E w a ⟨dst,op,type,pos,after,guard⟩ ho hE hh hf htm;simp only at ho;subst ho;have hmr:=htm m (by simp[Op.operands,Call.operands]);have hkr:=htm k (by simp[Op.operands,Call.operands]);rw[hm] at hmr;generalize hvm:a.eval m=vm at hmr;cases hmr with
 |mp _ kb hs=>
 obtain⟨es,clock,hw,hok⟩:=v8 hh hb hs;have hck:=kg (P:=P) (w:=w) hk hkr hfit es.isEmpty;have hfk:=jG (P:=P) (es:=es.toList) (ks:=ks) hk hkr (by simpa using hok.len) (λj y e h1 h2=>hok.key j y e h1 (by simpa using h2)) hr;have hu:=pk ht;obtain⟨vz,hvz,hrz⟩:=eU hz
 have key:∃v,(Instr.lookup t (.map (some kb)) (a.eval k) ok).run P w=.ok v w/\Rel E w (mget z ok r vs) v:=by
  unfold Instr.lookup;simp only[bB,cp hu,bv,iK hw rfl,eE,hck,hfk];cases r with
  |none=>
   simp only[pA,Option.map_none,bB,hvz,bv,eE];refine⟨_,rfl,?_⟩;unfold mget;cases ok with
   |true=>exact lW (hrz E w) (.bool _)
   |false=>exact hrz E w
  |some i=>
   obtain⟨y,hy,hsame⟩:=kI hr;have hlt:i<es.size:=by have:=(bF.1 hy).1;have:=hok.len;omega
   have hlv:i<vs.length:=by have:=hok.len';have:=hok.len;omega
   simp only[pA,nw,eE,bv];refine⟨_,rfl,?_⟩;have e1:es.toList.getD i default=es[i]:=by simp[List.getD,hlt]
   have e2:vs.getD i .undef=vs[i]:=by simp[List.getD,hlv]
   have hrel:=hok.val i vs[i] es[i] (by simp[hlv]) (by simp[hlt]);rw[e1];cases ok with
   |true=>
    show Rel E w (.tup [vs.getD i .undef,.bool true]) _;rw[e2];exact lW hrel (.bool _)
   |false=>
    show Rel E w (vs.getD i .undef) _;rw[e2];exact hrel
 obtain⟨v,hrun,hrel⟩:=key;refine⟨.value v,v,w,E,_,H,nx,?_,.inl rfl,Ext.refl _ _,hE,hh,hf,hrel,h⟩;refine kK ?_;show(Instr.lookup t (a.eval m) (a.eval k) ok).run P w=_;rw[hvm];exact hrun
def BU(z:AV)(r:Option Nat)(vs:List AV):List AV:=match r with|some _=>vs|none=>vs++[z]
def I5(r:Option Nat)(ks:List AV):Nat:=match r with|some i=>i|none=>ks.length
def Lq(z:AV)(r:Option Nat)(vs:List AV):AV:=match r with|some i=>vs.getD i .undef|none=>z
theorem vR{P:Program}{t kt et:TypeId}{m k:Operand}{T:Tm}{H:Hp}{nx b:Nat}{K:AV->Hp->Nat->Prop}{mk:MK}{ks vs:List AV}{r:Option Nat}{z:AV}(ht:oI P t=some (kt,et))(hk:mkk P kt=some mk)(hz:gw P et=some z)
    (hm:ev T m=.mp b) (hb:H b=some [.omap ks vs]) (hfit:ss mk (ev T k)=true) (hr:eI mk (ev T k) ks=some r)
    (h:K (.tup [Lq z r vs,.int .i64 (I5 r ks)]) (av H b [.omap (jb (ev T k) r ks) (BU z r vs)]) nx):eY P (.mapEntry t m k) T H nx K:=by
 refine cz (by intro c;simp) ?_;rintro E w a ⟨dst,op,type,pos,after,guard⟩ ho hE hh hf htm;simp only at ho;subst ho;have hmr:=htm m (by simp[Op.operands,Call.operands]);have hkr:=htm k (by simp[Op.operands,Call.operands]);rw[hm] at hmr;generalize hvm:a.eval m=vm at hmr;cases hmr with
 |mp _ kb hs=>
 obtain⟨es,clock,hw,hok⟩:=v8 hh hb hs;have hck:=kg (P:=P) (w:=w) hk hkr hfit false;have hfk:=jG (P:=P) (es:=es.toList) (ks:=ks) hk hkr (by simpa using hok.len) (λj y e h1 h2=>hok.key j y e h1 (by simpa using h2)) hr;have hu:=pk ht;obtain⟨vz,hvz,hrz⟩:=eU hz
 have key:∃v es' clock',(Instr.mapEntry t (.map (some kb)) (a.eval k)).run P w=.ok v (w.putObj kb (.map es' clock'))/\MapOk E w (jb (ev T k) r ks) (BU z r vs) es' clock'/\Rel E w (.tup [Lq z r vs,.int .i64 (I5 r ks)]) v:=by
  unfold Instr.mapEntry;simp only[bB,cp hu,bv,iK hw rfl,hck,hfk];cases r with
  |none=>
   simp only[pA,Option.map_none,bB,hvz,bv,jW hw rfl,eE];have hl:=hok.len;have hl':=hok.len';refine⟨_,_,_,rfl,⟨by simp[jb,hl],by simp[BU,jb,hl'],λi y e h1 h2=>?_,λi y e h1 h2=>?_,λi e h1=>?_,by simp[hok.clk]⟩,?_⟩
   ·simp only[jb] at h1;rw[Fu] at h2;split at h2
    ·rename_i he;cases h2;rw[he,hl,ia (bd _)] at h1;simp at h1;subst h1;exact hkr
    ·rename_i hne;have hlt:i<es.size:=(kN.1 h2).1;rw[fT (by omega)] at h1;exact hok.key i y e h1 h2
   ·simp only[BU] at h1;rw[Fu] at h2;split at h2
    ·rename_i he;cases h2;rw[he,hl,ia (by omega)] at h1;simp[hl'] at h1;subst h1;exact hrz E w
    ·rename_i hne;have hlt:i<es.size:=(kN.1 h2).1;rw[fT (by omega)] at h1;exact hok.val i y e h1 h2
   ·rw[Fu] at h1;split at h1
    ·rename_i he;cases h1;rw[he];exact hok.clk
    ·exact hok.born i e h1
   ·refine lW (hrz E w) ?_;rw[show(I5 none ks:Int)=(clock:Int) by rw[hok.clk,hl];rfl];exact .int _ _
  |some i=>
   obtain⟨y,hy,hsame⟩:=kI hr;have hlt:i<es.size:=by have:=(bF.1 hy).1;have:=hok.len;omega
   have hlv:i<vs.length:=by have:=hok.len';have:=hok.len;omega
   have hbits:=vh hkr (hok.key i y es[i] hy (by simp[hlt])) hsame
   have hkeep:(Instr.keyThatStays (((es[i]?).map (·.key)).getD (a.eval k)) (a.eval k)).run P w=.ok (a.eval k) w:=by
    unfold Instr.keyThatStays;simp only[hlt,CN,nw,tw];rw[if_pos hbits];rfl
   simp only[pA,nw,dt,bB,hkeep,bv,jW hw rfl,eE]
   have hmod:∀j e,(es.modify i λe=>{e with key:=a.eval k})[j]?=some e->∃e0,es[j]?=some e0/\((i=j/\e={e0 with key:=a.eval k})\/(i≠j/\e=e0)):=by
    intro j e he;rw[Array.getElem?_modify] at he;split at he
    ·rename_i hij;cases h0:es[j]? with
     |none=>rw[h0] at he;cases he
     |some e0=>rw[h0] at he;cases he;exact⟨e0,rfl,.inl ⟨hij,rfl⟩⟩
    ·rename_i hij;exact⟨e,he,.inr ⟨hij,rfl⟩⟩
   refine⟨_,_,_,rfl,⟨by simp[jb,hok.len],by simp[BU,jb,hok.len'],λj z' e h1 h2=>?_,λj z' e h1 h2=>?_,λj e h1=>?_,by simp[hok.clk]⟩,?_⟩
   ·obtain⟨e0,k1,(⟨rfl,rfl⟩|⟨hne,rfl⟩)⟩:=hmod j e h2
    ·simp only[jb] at h1;rw[hy] at h1;cases h1;rw[<-AX hsame];exact hkr
    ·exact hok.key j z' e h1 k1
   ·simp only[BU] at h1;obtain⟨e0,k1,(⟨rfl,rfl⟩|⟨hne,rfl⟩)⟩:=hmod j e h2
    ·exact hok.val i z' e0 h1 k1
    ·exact hok.val j z' e h1 k1
   ·obtain⟨e0,k1,(⟨rfl,rfl⟩|⟨hne,rfl⟩)⟩:=hmod j e h1
    ·exact hok.born i e0 k1
    ·exact hok.born j e k1
   ·have e1:es.toList.getD i default=es[i]:=by simp[List.getD,hlt]
    have e2:vs.getD i .undef=vs[i]:=by simp[List.getD,hlv]
    have hrel:=hok.val i vs[i] es[i] (by simp[hlv]) (by simp[hlt]);have hbn:=hok.born i es[i] (by simp[hlt]);rw[e1];simp only[hlt,CN,nw,tw,hbn];show Rel E w (.tup [vs.getD i .undef,.int .i64 (i:Nat)]) _;rw[e2];exact lW hrel (.int _ _)
 obtain⟨v,es',clock',hrun,hok',hrel⟩:=key;obtain⟨q1,q2,q3⟩:=map_set hE hh hb hs hw hok';refine⟨.value v,v,_,E,_,_,nx,?_,.inl rfl,q1,q2,q3,hf,hrel.ext q1,h⟩;refine kK ?_;show(Instr.mapEntry t (a.eval m) (a.eval k)).run P w=_;rw[hvm];exact hrun
theorem rZ{P:Program}{t:TypeId}{m s x:Operand}{T:Tm}{H:Hp}{nx b i:Nat}{K:AV->Hp->Nat->Prop}{ks vs:List AV}
    (hm:ev T m=.mp b) (hb:H b=some [.omap ks vs]) (hi:ev T s=.int .i64 (i:Int)) (hlt:i<ks.length)
    (h:K (.tup []) (av H b [.omap ks (vs.set i (ev T x))]) nx):eY P (.entryStore t m s x) T H nx K:=by
 refine cz (by intro c;simp) ?_;rintro E w a ⟨dst,op,type,pos,after,guard⟩ ho hE hh hf htm;simp only at ho;subst ho;have hmr:=htm m (by simp[Op.operands,Call.operands]);have hsr:=htm s (by simp[Op.operands,Call.operands]);have hxr:=htm x (by simp[Op.operands,Call.operands]);rw[hm] at hmr;rw[hi] at hsr;generalize hvm:a.eval m=vm at hmr;generalize hvs:a.eval s=vs1 at hsr;cases hsr;cases hmr with
 |mp _ kb hs=>
 obtain⟨es,clock,hw,hok⟩:=v8 hh hb hs;have hle:i<es.size:=by have:=hok.len;omega
 have hfi:es.findIdx? (λe=>(e.born:Int)==(i:Int))=some i:=by
  rw[Array.findIdx?_eq_some_iff_getElem];refine⟨hle,?_,λj hj=>?_⟩
  ·have:=hok.born i es[i] (by simp[hle]);simp[this]
  ·have:=hok.born j es[j] (by simp[show j<es.size by omega]);simp[this];omega
 have key:∃es' clock',(Instr.entryStore t (.map (some kb)) (.int .i64 (i:Int)) (a.eval x)).run P w=.ok () (w.putObj kb (.map es' clock'))/\MapOk E w ks (vs.set i (ev T x)) es' clock':=by
  unfold Instr.entryStore;simp only[bB,bv,iK hw rfl,asInt,asIntOf,eE,hfi,jW hw rfl]
  have hmod:∀j e,(es.modify i λe=>{e with val:=a.eval x})[j]?=some e->∃e0,es[j]?=some e0/\((i=j/\e={e0 with val:=a.eval x})\/(i≠j/\e=e0)):=by
   intro j e he;rw[Array.getElem?_modify] at he;split at he
   ·rename_i hij;cases h0:es[j]? with
    |none=>rw[h0] at he;cases he
    |some e0=>rw[h0] at he;cases he;exact⟨e0,rfl,.inl ⟨hij,rfl⟩⟩
   ·rename_i hij;exact⟨e,he,.inr ⟨hij,rfl⟩⟩
  refine⟨_,_,rfl,⟨by simp[hok.len],by simp[hok.len'],λj z e h1 h2=>?_,λj z e h1 h2=>?_,λj e h1=>?_,by simp[hok.clk]⟩⟩
  ·obtain⟨e0,k1,(⟨rfl,rfl⟩|⟨hne,rfl⟩)⟩:=hmod j e h2
   ·exact hok.key i z e0 h1 k1
   ·exact hok.key j z e h1 k1
  ·obtain⟨e0,k1,(⟨rfl,rfl⟩|⟨hne,rfl⟩)⟩:=hmod j e h2
   ·have:i<vs.length:=by have:=hok.len';omega
    rw[List.getElem?_set_self this] at h1;cases h1;exact hxr
   ·rw[List.getElem?_set_ne hne] at h1;exact hok.val j z e h1 k1
  ·obtain⟨e0,k1,(⟨rfl,rfl⟩|⟨hne,rfl⟩)⟩:=hmod j e h1
   ·exact hok.born i e0 k1
   ·exact hok.born j e k1
 obtain⟨es',clock',hrun,hok'⟩:=key;obtain⟨q1,q2,q3⟩:=map_set hE hh hb hs hw hok';refine⟨.skip,Go.undef,_,E,.tup [],_,nx,?_,.inr ⟨rfl,rfl⟩,q1,q2,q3,hf,jn _ _,h⟩;refine xN ?_;show(Instr.entryStore t (a.eval m) (a.eval s) (a.eval x)).run P w=_;rw[hvm,hvs];exact hrun
theorem Cq{P:Program}{t:TypeId}{m:Operand}{T:Tm}{H:Hp}{nx b:Nat}{K:AV->Hp->Nat->Prop}{p:TypeId×TypeId}{ks vs:List AV}(ht:oI P t=some p)(hm:ev T m=.mp b)(hb:H b=some [.omap ks vs])
    (h:K (.int .i64 ks.length) H nx):eY P (.call {callee:=.builtin .len,args:=#[m],argTypes:=#[t]}) T H nx K:=by
 refine cz (by intro c;simp) ?_;rintro E w a ⟨dst,op,type,pos,after,guard⟩ ho hE hh hf htm;simp only at ho;subst ho;have hmr:=htm m (by simp[Op.operands,Call.operands]);rw[hm] at hmr;generalize hvm:a.eval m=vm at hmr;cases hmr with
 |mp _ kb hs=>
 obtain⟨es,clock,hw,hok⟩:=v8 hh hb hs;have hu:=pk (P:=P) (t:=t) (k:=p.1) (e:=p.2) ht
 have hrun:(Builtin.len_ #[t] type #[.map (some kb)]).run P w=.ok (goInt es.size) w:=by
  unfold Builtin.len_;simp[cp hu,iK hw rfl]
 refine⟨.value (goInt es.size),goInt es.size,w,E,_,H,nx,?_,.inl rfl,Ext.refl _ _,hE,hh,hf,?_,h⟩
 ·simp only[execOp,resolve,invoke,builtin,bB,eE,bv];simp[hvm,hrun]
 ·rw[hok.len];exact .int _ _
def Ao(n:Nat):AV->AV
 |.sl sz l=>.sl sz (l.take n)
 |.msl b m sz off _=>.msl b m sz off n
 |x=>x
def jJ:AV->Option Nat
 |.sl _ l=>some l.length
 |.msl _ _ _ _ len=>some len
 |.esl=>some 0
 |_=>none
theorem zP{P:Program}{E:Env}{H:Hp}{nx:Nat}{w:World}(hh:HeapOk E H nx w){x:AV}{v:Value}(hx:Rel E w x v){n k sz j:Nat}{new:List AV}(hk:jJ x=some k)(hn:n<=k)(hn0:0<n)(h:ef sz H (Ao n x)=some (j,new)):
    (Builtin.lenOf v).run P w=.ok k w/\new.length=n*sz/\∃vals:List Value,(Builtin.firstCells sz n v).run P w=.ok vals.toArray w/\vals.length=new.length/\∀(i:Nat)(a:AV)(y:Value),new[i]?=some a->vals[i]?=some y->Rel E w a y:=by
 cases hx with
 |sl szz elems blk o cap vals him hlen hsz hcell hr=>
  cases hk;have htl:(elems.take n).length=n:=by simp;omega
  have hx':Rel E w (.sl szz (elems.take n)) (.slice (some ⟨blk,o,none⟩) (elems.take n).length cap):=
   Rel.sl szz (elems.take n) blk o cap vals him (by omega) (fun y hy=>hsz y (BK hy)) (fun i hi=>hcell i (Ah hi (jt _ (by omega)))) (fun i j y c hy hc=>by
    rw[jj] at hy;split at hy
    ·exact hr i j y c hy hc
    ·cases hy)
  obtain⟨h1,h2,vs,h3,h4,h5⟩:=jr (P:=P) hh hx' h
  have hj:j=n:=by
   have:=h1;simp only[Builtin.lenOf,eE] at this;injection this with e;omega
  subst hj;exact⟨rfl,h2,vs,h3,h4,h5⟩
 |msl b m szz off len blk bsz cap hm hl hc hnn=>
  cases hk;have hx':Rel E w (.msl b m szz off n) (.slice (some ⟨blk,off,none⟩) n cap):=.msl _ _ _ _ _ _ _ _ hm (by omega) hc hnn;obtain⟨h1,h2,vs,h3,h4,h5⟩:=jr (P:=P) hh hx' h
  have hj:j=n:=by
   have:=h1;simp only[Builtin.lenOf,eE] at this;injection this with e;exact e.symm
  subst hj;exact⟨rfl,h2,vs,h3,h4,h5⟩
 |slnil=>cases hk;simp at hn;omega
 |slempty=>cases hk;simp at hn;omega
 |msl0=>cases hk;omega
 |eslnil=>cases hk;omega
 |esl=>cases hk;omega
 |_=>cases hk
theorem sX{P:Program}{E:Env}{w:World}{x:AV}{v:Value}(hx:Rel E w x v){k:Nat}(hk:jJ x=some k):(Builtin.lenOf v).run P w=.ok k w/\∃a c,v=.slice a k c:=by
 cases hx with
 |sl=>cases hk;exact⟨rfl,_,_,rfl⟩
 |msl=>cases hk;exact⟨rfl,_,_,rfl⟩
 |slnil=>cases hk;exact⟨rfl,_,_,rfl⟩
 |slempty=>cases hk;exact⟨rfl,_,_,rfl⟩
 |msl0 _ _ _ h=>cases hk;rcases h with rfl|⟨_,rfl⟩<;>exact⟨rfl,_,_,rfl⟩
 |eslnil=>cases hk;exact⟨rfl,_,_,rfl⟩
 |esl=>cases hk;exact⟨rfl,_,_,rfl⟩
 |_=>cases hk
theorem tr{P:Program}{w:World}{sz k c:Nat}{a:Option Addr}:(Builtin.firstCells sz 0 (.slice a k c)).run P w=.ok #[] w:=by
 cases a<;>simp[Builtin.firstCells,loadCells,loadCellsFrom]
def uO(sz:Nat)(d s:AV)(H:Hp):Option (Nat×Hp):=
 match jJ d,jJ s with
 |some ld,some ls=>
  if min ls ld=0 then some (0,H) else
  match d with
  |.msl b n sz' off _=>match H b,ef sz H (Ao (min ls ld) s) with
   |some cs,some (_,new)=>if cs.length=n/\sz'=sz/\off+min ls ld*sz<=n/\new.all AV.one=true then some (min ls ld,av H b (cE cs off new)) else none
   |_,_=>none
  |_=>none
 |_,_=>none
theorem B4{P:Program}{tD tS e:TypeId}{d s:Operand}{T:Tm}{H:Hp}{nx:Nat}{K:AV->Hp->Nat->Prop}{n:Nat}{H':Hp}(ht:gr P tD=some e)(hte:tok P e=true)
    (h:uO (P.cellsOf e) (ev T d) (ev T s) H=some (n,H')) (hk:K (.int .i64 n) H' nx):eY P (.call {callee:=.builtin .copy,args:=#[d,s],argTypes:=#[tD,tS]}) T H nx K:=by
 refine cz (by intro c;simp) ?_;rintro E w a ⟨dst,op,type,pos,after,guard⟩ ho hE hh hf htm;simp only at ho;subst ho;have hdr:=htm d (by simp[Op.operands,Call.operands]);have hsr:=htm s (by simp[Op.operands,Call.operands]);have hu:=io ht
 have hexec:∀v w',(Builtin.copy_ #[tD,tS] type #[a.eval d,a.eval s]).run P w=.ok v w'->(execOp a.eval ⟨dst,.call {callee:=.builtin .copy,args:=#[d,s],argTypes:=#[tD,tS]},type,pos,after,guard⟩).run P w=.ok (.value v) w':=by
  intro v w' h;simp only[execOp,resolve,invoke,builtin,bB,eE,bv];simp[h]
 unfold uO at h;split at h
 case h_2=>cases h
 rename_i ld ls hld hls;obtain⟨_,ad,cd,hvd⟩:=sX (P:=P) hdr hld;obtain⟨hls',as,cs',hvs⟩:=sX (P:=P) hsr hls;split at h
 case isTrue h0=>
  cases h
  have hrun:(Builtin.copy_ #[tD,tS] type #[a.eval d,a.eval s]).run P w=.ok (goInt 0) w:=by
   have h0':Nat.min ls ld=0:=h0;unfold Builtin.copy_;simp only[pu,tG,Fj,bB,cp hu,bv,hvd];simp only[hls',bv,h0',aU hte];rw[hvs];simp only[tr,bv];cases ad<;>simp[storeCells]
  exact⟨.value (goInt 0),goInt 0,w,E,_,H,nx,hexec _ _ hrun,.inl rfl,Ext.refl _ _,hE,hh,hf,.int _ _,hk⟩
 case isFalse h0=>
  split at h
  case h_2=>cases h
  rename_i b n' sz' off len hd;split at h
  case h_2=>cases h
  rename_i cs j new hb hsrc;split at h
  case isFalse=>cases h
  case isTrue hc=>
  obtain⟨rfl,rfl,hfit,hone⟩:=hc;cases h;have hlen:len=ld:=by rw[hd] at hld;cases hld;rfl
  subst hlen;obtain⟨_,hnl,vals,h3,h4,h5⟩:=zP (P:=P) hh hsr hls (Nat.min_le_left _ _) (by omega) hsrc
  have hones:∀y∈vals,y.oneCell'=true:=by
   intro y hy;obtain⟨i,hi⟩:=sB hy;have hlt:i<new.length:=by have:=(bF.1 hi).1;omega
   exact(h5 i new[i] y (by simp[hlt]) hi).one (dS.1 hone _ (mo hlt))
  rw[hd] at hdr;generalize hnn:cs.length=nn at hdr;generalize hvd':a.eval d=vd at hdr;cases hdr with
  |msl0=>omega
  |msl _ _ _ _ _ blk bsz cap hm hl hcp hcn=>
  subst hnn;obtain⟨w',E',g1,g2,g3,g4,g5,g6,g7⟩:=lH (P:=P) hE hh (off:=off) hb hm (new:=new) (nv:=vals) (by rw[hnl];exact hfit) h4 h5 hones
  have hrun:(Builtin.copy_ #[tD,tS] type #[a.eval d,a.eval s]).run P w=.ok (goInt ((min ls len:Nat):Int)) w':=by
   have e:Nat.min ls len=min ls len:=rfl;unfold Builtin.copy_;simp only[pu,tG,Fj,bB,cp hu,bv,hvd',hls',e,aU hte,h3,g1,eE]
  exact⟨.value (goInt ((min ls len:Nat):Int)),goInt ((min ls len:Nat):Int),w',E',.int .i64 ((min ls len:Nat):Int),_,nx,hexec _ _ hrun,.inl rfl,g2,g3,g4,hf.of (bd _) (λb' n hb'=>g5 b' n (by have:=hh.dom _ _ hb;omega)) g6 g7,.int _ _,hk⟩
def wn(sz:Nat)(z x:AV)(H:Hp):Option Hp:=match x with
 |.msl b n sz' off len=>if len=0 then some H else match H b with
  |some cs=>if cs.length=n/\sz'=sz/\z.flat=true/\z.cells.length=sz/\off+len*sz<=n then some (av H b (cE cs off (bc z len))) else none
  |none=>none
 |_=>none
theorem AO{P:Program}{tX e:TypeId}{x:Operand}{T:Tm}{H:Hp}{nx:Nat}{K:AV->Hp->Nat->Prop}{z:AV}{H':Hp}(ht:gr P tX=some e)(hz:gw P e=some z)
    (h:wn (P.cellsOf e) z (ev T x) H=some H') (hpos:0<P.cellsOf e) (hk:K (.tup []) H' nx):eY P (.call {callee:=.builtin .clear,args:=#[x],argTypes:=#[tX]}) T H nx K:=by
 refine cz (by intro c;simp) ?_;rintro E w a ⟨dst,op,type,pos,after,guard⟩ ho hE hh hf htm;simp only at ho;subst ho;have hxr:=htm x (by simp[Op.operands,Call.operands]);have hu:=io ht
 have hexec:∀v w',(Builtin.clear_ #[tX] type #[a.eval x]).run P w=.ok v w'->(execOp a.eval ⟨dst,.call {callee:=.builtin .clear,args:=#[x],argTypes:=#[tX]},type,pos,after,guard⟩).run P w=.ok (.value v) w':=by
  intro v w' h;simp only[execOp,resolve,invoke,builtin,bB,eE,bv];simp[h]
 unfold wn at h;split at h
 case h_2=>cases h
 rename_i b n sz' off len hx;rw[hx] at hxr;split at h
 case isTrue h0=>
  cases h;subst h0
  have hrun:(Builtin.clear_ #[tX] type #[a.eval x]).run P w=.ok (.tuple #[]) w:=by
   generalize a.eval x=vx at hxr;unfold Builtin.clear_;simp only[pu,tG,bB,cp hu,bv];cases hxr with
   |msl=>rfl
   |msl0 _ _ _ hv=>rcases hv with rfl|⟨_,rfl⟩<;>rfl
  exact⟨.value (.tuple #[]),.tuple #[],w,E,.tup [],H,nx,hexec _ _ hrun,.inl rfl,Ext.refl _ _,hE,hh,hf,jn _ _,hk⟩
 case isFalse h0=>
  split at h
  case h_2=>cases h
  rename_i cs hb;split at h
  case isFalse=>cases h
  case isTrue hc=>
  obtain⟨rfl,rfl,hfl,hzl,hfit⟩:=hc;cases h;generalize hnn:cs.length=nn at hxr;generalize hvx:a.eval x=vx at hxr;cases hxr with
  |msl0=>omega
  |msl _ _ _ _ _ blk bsz cap hm hl hcp hcn=>
  subst hnn;obtain⟨vz,hvz,hrz⟩:=eU hz;obtain⟨k1,k2,k3⟩:=(hrz E w).cells hfl
  have hvs : vz.cells.size = P.cellsOf e := by have : vz.cells.toList.length = vz.cells.size := by simp
                                               omega
  have hzc:(bc z len).length=len*P.cellsOf e:=by simp[bc,hzl]
  have hzz:(Builtin.zeroCells vz.cells len).size=len*P.cellsOf e:=by simp[Builtin.zeroCells,hvs]
  have hget:∀j(y:Value),(Builtin.zeroCells vz.cells len)[j]?=some y->j<len*P.cellsOf e/\vz.cells[j%P.cellsOf e]?=some y:=by
   intro j y hy;have hj:j<len*P.cellsOf e:=by rw[<-hzz];exact(kN.1 hy).1
   refine⟨hj,?_⟩;have hlt:j%P.cellsOf e<vz.cells.size:=by rw[hvs];exact Nat.mod_lt _ hpos
   unfold Builtin.zeroCells at hy;rw[hvs,Array.getElem?_map,Array.getElem?_range,if_pos hj] at hy;simp only[nw] at hy;rw[getElem!_pos vz.cells _ hlt] at hy;rw[<-hy];simp[hlt]
  obtain ⟨w',E',g1,g2,g3,g4,g5,g6,g7⟩:=lH (P:=P) hE hh (off:=off) hb hm (new:=bc z len) (nv:=(Builtin.zeroCells vz.cells len).toList) (by rw [hzc]; exact hfit) (by simp [hzz,hzc]) (fun j p y hp hy=>by
   obtain⟨hj,hvj⟩:=hget j y (by simpa using hy);unfold bc at hp;rw[dI _ _ (by rw[hzl];exact hj),hzl] at hp;exact k2 _ _ _ hp (by simpa using hvj)) (λy hy=>by
   obtain⟨j,hj⟩:=sB hy;obtain⟨_,hvj⟩:=hget j y (by simpa using hj);exact k3 y (by simpa using Array.mem_of_getElem? hvj))
  have hrun:(Builtin.clear_ #[tX] type #[a.eval x]).run P w=.ok (.tuple #[]) w':=by
   cases len with
   |zero=>exact absurd rfl h0
   |succ len=>
   unfold Builtin.clear_;simp only[pu,tG,bB,cp hu,bv,hvx,hvz,g1,eE]
  exact⟨.value (.tuple #[]),.tuple #[],w',E',.tup [],_,nx,hexec _ _ hrun,.inl rfl,g2,g3,g4,hf.of (bd _) (λb' n hb'=>g5 b' n (by have:=hh.dom _ _ hb;omega)) g6 g7,jn _ _,hk⟩
theorem zb{P:Program}{t:TypeId}{m k x:Operand}{T:Tm}{H:Hp}{nx:Nat}{K:AV->Hp->Nat->Prop}(h:eY P (.mapUpdate t m k x) T H nx K):eY P (.insert t m k x) T H nx K:=by
 refine⟨by intro c;simp,?_⟩;rintro rr E w a ⟨dst,op,type,pos,after,guard⟩ next Q ho hE hh hf htm hn;simp only at ho;subst ho;have:=h.2 rr E w a ⟨dst,.mapUpdate t m k x,type,pos,after,guard⟩ next Q rfl hE hh hf htm hn;have e:execOp a.eval ⟨dst,.insert t m k x,type,pos,after,guard⟩=execOp a.eval ⟨dst,.mapUpdate t m k x,type,pos,after,guard⟩:=rfl;rw[e];exact this
theorem BC{E:Env}{w:World}{x:AV}{v:Value}(hx:Rel E w x v){k:Nat}(hk:jJ x=some k):∃a c,v=.slice a k c/\(0<k->∃b,a=some b):=by
 cases hx with
 |sl=>cases hk;exact⟨_,_,rfl,λ_=>⟨_,rfl⟩⟩
 |msl=>cases hk;exact⟨_,_,rfl,λ_=>⟨_,rfl⟩⟩
 |slnil=>cases hk;exact⟨_,_,rfl,λh=>by simp at h⟩
 |slempty=>cases hk;exact⟨_,_,rfl,λh=>by simp at h⟩
 |msl0 _ _ _ h=>cases hk;rcases h with rfl|⟨_,rfl⟩<;>exact⟨_,_,rfl,λh=>by omega⟩
 |eslnil=>cases hk;exact⟨_,_,rfl,λh=>by omega⟩
 |esl=>cases hk;exact⟨_,_,rfl,λh=>by omega⟩
 |_=>cases hk
def Dh(neg:Bool)(k:Nat)(K:AV->Prop):Prop:=(0<k->K (.bool neg))/\(k=0->K (.bool true)/\K (.bool false))
theorem uh{P:Program}{t e ty:TypeId}{x:Operand}{neg:Bool}{T:Tm}{H:Hp}{nx:Nat}{K:AV->Hp->Nat->Prop}{k:Nat}(ht:gr P t=some e)(hk:jJ (ev T x)=some k)
    (h:Dh neg k λr=>K r H nx):eY P (.binOp (if neg=true then .neq else .eql) t x (.const (.slice none 0 0)) ty) T H nx K:=by
 refine cz (by intro c;simp) ?_;rintro E w a ⟨dst,op,type,pos,after,guard⟩ ho hE hh hf htm;simp only at ho;subst ho;have hxr:=htm x (by simp[Op.operands,Call.operands]);obtain⟨ad,c,hv,hsome⟩:=BC hxr hk;have hu:=io ht
 have he0:∀d,(Op.equalIn (d+1) t (.slice ad k c) (.slice none 0 0)).run P w=.ok ad.isNone w:=by
  intro d;simp only[Op.equalIn,bB,cp hu,bv];cases ad<;>rfl
 have he:=he0 9999
 have hrun:∀op,op=(if neg=true then BinOp.neq else BinOp.eql)->(do eqGuard op t x (.const (.slice none 0 0)) (.slice ad k c) (.slice none 0 0);binOp op t (.slice ad k c) (.slice none 0 0):Sem Value).run P w=.ok (.bool (if neg=true then !ad.isNone else ad.isNone)) w:=by
  intro op hop;subst hop;rw[bB,gD (by simp) (by simp)];simp only[bv];cases neg with
  |true=>simp only[if_true,binOp,Op.equal,Op.maxDepth,bB,he,bv];rfl
  |false=>simp only[dZ,if_false,binOp,Op.equal,Op.maxDepth,bB,he,bv];rfl
 have hexec:(execOp a.eval ⟨dst,.binOp (if neg=true then .neq else .eql) t x (.const (.slice none 0 0)) ty,type,pos,after,guard⟩).run P w=.ok (.value (.bool (if neg=true then !ad.isNone else ad.isNone))) w:=by
  refine kK ?_;show(do eqGuard _ t x (.const (.slice none 0 0)) (a.eval x) (.slice none 0 0);binOp _ t (a.eval x) (.slice none 0 0):Sem Value).run P w=_;rw[hv];exact hrun _ rfl
 refine⟨_,.bool (if neg=true then !ad.isNone else ad.isNone),w,E,.bool (if neg=true then !ad.isNone else ad.isNone),H,nx,hexec,.inl rfl,Ext.refl _ _,hE,hh,hf,.bool _,?_⟩;by_cases hk0:k=0
 ·obtain⟨h1,h2⟩:=h.2 hk0;cases neg<;>cases ad<;>first|exact h1|exact h2
 ·obtain⟨b,rfl⟩:=hsome (by omega);have:=h.1 (by omega);cases neg<;>exact this
theorem wY{P:Program}{t e:TypeId}{x:Operand}{T:Tm}{H:Hp}{nx:Nat}{K:AV->Hp->Nat->Prop}{n b n' off:Nat}{cs:List AV}(hu:P.underlying t=some (.array n e))(he:tok P e=true)(h0:0<n)(hx:ev T x=.ptr b n' off)(hb:H b=some cs)(hn:cs.length=n')(hf:off+n*P.cellsOf e=n')
    (hk:K (.msl b n' (P.cellsOf e) off n) H nx):eY P (.slice t x none none none) T H nx K:=by
 refine cz (by intro c;simp) ?_;rintro E w a ⟨dst,op,type,pos,after,guard⟩ ho hE hh hf' htm;simp only at ho;subst ho;have hxr:=htm x (by simp[Op.operands]);rw[hx] at hxr;generalize hvx:a.eval x=vx at hxr;cases hxr with
 |ptr _ _ _ blk sz hm=>
 have hle:n'<=sz:=by
  subst hn;rcases hh.box b cs hb with h|⟨blk',sz',hbx⟩
  ·rw[h] at hm;cases hm
  ·have:=hbx.mu;rw[hm] at this;cases this;obtain⟨vals,ty,fz,_,_,h1,h2,_⟩:=hbx.cells;exact h2
 have hb2:=cq (P:=P) (E:=E) (w:=w) (lo:=none) (hi:=none) (vlo:=none) (vhi:=none) (isS:=false) (len:=n) (cap:=n) (l:=0) (h:=n) (λ_ h=>by cases h) (λ_=>rfl) (λ_ h=>by cases h) (λ_=>rfl) rfl rfl (bo _) (bd _);have hsz:=aU (P:=P) he w
 have hrun:(Instr.sliceAt t (.pointer (some ⟨blk,off,none⟩)) none none none).run P w=.ok (.slice (some ⟨blk,off,none⟩) n n) w:=by
  have hne:n≠0:=by omega
  simp[Instr.sliceAt,cp hu,hb2,hsz,Instr.sureAddr,hne,cf]
 refine⟨.value (.slice (some ⟨blk,off,none⟩) n n),.slice (some ⟨blk,off,none⟩) n n,w,E,_,H,nx,?_,.inl rfl,Ext.refl _ _,hE,hh,hf',.msl _ _ _ _ _ blk sz n hm (bd _) (by omega) (by omega),hk⟩;refine kK ?_;show(Instr.sliceAt t (a.eval x) none none none).run P w=_;rw[hvx];exact hrun
def lN(b:UInt8):AV:=.int .u8 (b.toNat:Int)
theorem Fs{P:Program}{s d e:TypeId}{x:Operand}{T:Tm}{H:Hp}{nx:Nat}{K:AV->Hp->Nat->Prop}{bs:ByteArray}(hs:P.underlying s=some .string)(hd:P.underlying d=some (.slice e))(he:P.underlying e=some (.int .u8))(hx:ev T x=.str bs)
    (h0:bs.size=0->K (.sl 1 []) H nx) (h1:bs.size≠0->K (.msl nx bs.size 1 0 bs.size) (av H nx (bs.data.toList.map lN)) (nx+1)):eY P (.convert s d x) T H nx K:=by
 refine cz (by intro c;simp) ?_;rintro E w a ⟨dst,op,type,pos,after,guard⟩ ho hE hh hf htm;simp only at ho;subst ho;have hxr:=htm x (by simp[Op.operands,Call.operands]);rw[hx] at hxr;generalize hv:a.eval x=vx at hxr;cases hxr;have hrun:=run_bytes_of_string (P:=P) w s d e bs hs hd he
 have hexec:(execOp a.eval ⟨dst,.convert s d x,type,pos,after,guard⟩).run P w=.ok (.value (.slice (some ⟨w.heap.size,0,none⟩) bs.size (grownCap w bs.size 0 e))) (w.drew.alloc (.cells (bytesRow bs (grownCap w bs.size 0 e)) e ((bytesRow bs (grownCap w bs.size 0 e)).size,(bytesRow bs (grownCap w bs.size 0 e)).size+1))):=by
  unfold execOp;simp only[hv,bB,hrun,bv,eE]
 have hge:=grownCap_ge w bs.size 0 e;generalize hcap:grownCap w bs.size 0 e=cap at *;have hdr:w.drew.heap=w.heap:=rfl;have hEd:=hE.drew;have hhd:=hh.same (w':=w.drew) hdr;have hext0:Ext E w E w.drew:=Ext.same hdr
 have hsz:(bytesRow bs cap).size=cap:=by
  have:bs.data.size=bs.size:=rfl;simp[bytesRow];omega
 by_cases hz:bs.size=0
 ·refine⟨_,_,_,E,.sl 1 [],H,nx,hexec,.inl rfl,hext0.trans (Ext.alloc E w.drew _ hEd),hEd.alloc hhd.size _,hhd.alloc hEd _,hf,?_,h0 hz⟩;rw[hz];exact .slempty _ _ _
 ·have hlen:(bs.data.toList.map lN).length=bs.size:=by simp
  obtain⟨E',q1,q2,q3,q4,q5,q6,q7,q8⟩:=hhd.placeZ hEd (b:=nx) (nx':=nx+1) (cs':=bs.data.toList.map lN) (Fa _) (Nat.le_succ _) (λm y hm=>by rw[(hf nx (bd _)).1] at hm;cases hm) (hf nx (bd _)).2.1
   (bytesRow bs cap) e ((bytesRow bs cap).size,(bytesRow bs cap).size + 1) (fun j hj h=>by simp only at h; omega) (by rw [hlen,hsz]; exact hge) (fun i y hi=>by
    rw[kf] at hi;cases hb:bs.data.toList[i]? with
    |none=>rw[hb] at hi;cases hi
    |some b=>
     rw[hb] at hi;cases hi
     have hi':i<bs.data.size:=by
      have:=(bF.1 hb).1;simpa using this
     refine⟨_,bytesRow_at bs cap i hi',rfl,?_⟩
     have:bs.data[i]=b:=by
      have:=(bF.1 hb).2;simpa using this
     rw[this];exact .int _ _)
  refine⟨_,_,_,E',.msl nx bs.size 1 0 bs.size,_,nx+1,hexec,.inl rfl,hext0.trans q1,q2,q3,hf.of (Nat.le_succ _) (λb n hb=>q6 b n (by omega)) q7 q8,?_,h1 hz⟩;rw[hlen,hsz] at q4;exact .msl nx bs.size 1 0 bs.size w.heap.size cap cap q4 hge (by omega) (by omega)
theorem Bq{E:Env}{H:Hp}{nx n:Nat}{w:World}(hh:HeapOk E H nx w){x:AV}{v:Value}(hr:Rel E w x v){bs:List UInt8}(h:ef 1 H x=some (n,bs.map lN)):
    (bs=[]/\∃c,v=.slice none 0 c)\/ ∃(a:Addr)(cap:Nat),v=.slice (some a) bs.length cap/\∀(j:Nat)(hj:j<bs.length),w.cell? (a.add j)=some (.int .u8 (bs[j].toNat:Int)):=by
 have hnil:∀{bs:List UInt8},[]=bs.map lN->bs=[]:=λh=>by
  rw[eq_comm,List.map_eq_nil_iff] at h;exact h
 cases hr with
 |eslnil=>
  simp only[ef,mR,Prod.mk.injEq] at h;exact .inl ⟨hnil h.2,0,rfl⟩
 |esl a=>
  simp only[ef,mR,Prod.mk.injEq] at h;have:=hnil h.2;subst this;exact .inr ⟨_,_,rfl,λj hj=>absurd hj (by simp)⟩
 |slnil sz=>
  simp only[ef,or_true,if_true,mR,Prod.mk.injEq,List.flatMap_nil] at h;exact .inl ⟨hnil h.2,0,rfl⟩
 |slempty sz a cap=>
  simp only[ef,or_true,if_true,mR,Prod.mk.injEq,List.flatMap_nil] at h;have:=hnil h.2;subst this;exact .inr ⟨_,_,rfl,λj hj=>absurd hj (by simp)⟩
 |sl sz elems blk o cap vals hi hlen hsz hc hr'=>
  simp only[ef] at h;split at h
  case isFalse=>cases h
  case isTrue hsz1=>
  simp only[mR,Prod.mk.injEq] at h;obtain⟨rfl,h2⟩:=h;by_cases he:elems=[]
  ·subst he;have:=hnil h2;subst this;exact .inr ⟨_,_,rfl,λj hj=>absurd hj (by simp)⟩
  have hs1:sz=1:=hsz1.resolve_right he;subst hs1;obtain⟨f1,f2⟩:=eV elems hsz;have hll:elems.length=bs.length:=by rw[h2] at f1;simpa using f1.symm
  refine .inr ⟨⟨blk,o,none⟩,cap,by rw[hll],λj hj=>?_⟩;rw[cf,hc j (by omega)];have hg:(elems.flatMap AV.cells)[j]?=some (lN bs[j]):=by rw[h2];simp[hj]
  obtain⟨i,k,y,e1,e2,e3,e4⟩:=f2 j _ hg;have hk:k=0:=by omega
  subst hk;have:=hr' i 0 y _ e3 e4;rw[<-e1] at this;unfold lN at this;generalize vals j=u at this;cases this;rfl
 |msl b m sz off len blk bsz cap hm hl hcap hn=>
  simp only[ef] at h;split at h
  ·rename_i h0;subst h0;simp only[mR,Prod.mk.injEq] at h;have:=hnil h.2;subst this;exact .inr ⟨_,_,rfl,λj hj=>absurd hj (by simp)⟩
  ·split at h
   ·rename_i cs hb;split at h
    case isFalse=>cases h
    case isTrue hc=>
    obtain⟨hc1,rfl,hc3⟩:=hc;simp only[mR,Prod.mk.injEq] at h;obtain⟨rfl,h2⟩:=h
    have hbl:bs.length=len:=by
     have:=congrArg List.length h2;simp at this;omega
    rcases hh.box b cs hb with hno|⟨blk',sz',hx⟩
    ·rw[hc1,hm] at hno;cases hno
    ·have:=hx.mu;rw[hc1,hm] at this;cases this;obtain⟨vals,ty,fz,k1,kz,k2,k3,k4⟩:=hx.cells;refine .inr ⟨⟨blk,off,none⟩,cap,by rw[hbl],λj hj=>?_⟩
     have hg:cs[off+j]?=some (lN bs[j]):=by
      have e:((cs.drop off).take (len*1))[j]?=some (lN bs[j]):=by rw[h2];simp[hj]
      rw[jj] at e;split at e
      ·rw[kD] at e;exact e
      ·cases e
     obtain⟨v,e1,e2,e3⟩:=k4 _ _ hg;rw[cf];unfold lN at e3;cases e3;exact cell?_of_heap k1 e1
   ·cases h
 |msl0 b sz v hv=>
  simp only[ef,if_true,mR,Prod.mk.injEq] at h;have:=hnil h.2;subst this;rcases hv with rfl|⟨blk,o,rfl⟩
  ·exact .inl ⟨rfl,0,rfl⟩
  ·exact .inr ⟨_,_,rfl,λj hj=>absurd hj (by simp)⟩
 |_=>simp[ef] at h
theorem FK{P:Program}{s d e:TypeId}{x:Operand}{T:Tm}{H:Hp}{nx n:Nat}{K:AV->Hp->Nat->Prop}{bs:List UInt8}(hs:P.underlying s=some (.slice e))(he:P.underlying e=some (.int .u8))(hd:P.underlying d=some .string)(hx:ef 1 H (ev T x)=some (n,bs.map lN))
    (hk:K (.str ⟨bs.toArray⟩) H nx):eY P (.convert s d x) T H nx K:=by
 refine cz (by intro c;simp) ?_;rintro E w a ⟨dst,op,type,pos,after,guard⟩ ho hE hh hf htm;simp only at ho;subst ho;have hxr:=htm x (by simp[Op.operands,Call.operands])
 have hrun:(convert s d (a.eval x)).run P w=.ok (.string ⟨bs.toArray⟩) w:=by
  rcases Bq hh hxr hx with⟨rfl,c,hv⟩|⟨ad,cap,hv,hc⟩
  ·rw[hv,run_convert_bytes_nil (w:=w) s e hs he 0 c d hd];rfl
  ·rw[hv];exact run_convert_bytes_back w s d e ad cap bs hs he hd hc
 refine⟨.value (.string ⟨bs.toArray⟩),_,w,E,_,H,nx,?_,.inl rfl,Ext.refl _ _,hE,hh,hf,.str _,hk⟩;unfold execOp;simp only[bB,hrun,bv,eE]
theorem zU{P:Program}{f:Operand}{args:Array Operand}{ts:Array TypeId}{T:Tm}{H:Hp}{nx:Nat}{K:AV->Hp->Nat->Prop}{g:FuncId}{fs:List AV}(hf:ev T f=.bfn g fs)(h:Fn P g (fs++args.toList.map (ev T)) H nx K):
    eY P (.call {callee:=.value f,args:=args,argTypes:=ts}) T H nx K:=by
 refine⟨by intro c;simp,?_⟩;rintro rr E w a ⟨dst,op,type,pos,after,guard⟩ next Q ho hE hh hfr ht hn;simp only at ho;subst ho;have hr:=ht f (by simp[Op.operands,Call.operands]);rw[hf] at hr;generalize hv:a.eval f=vf at hr;cases hr with
 |bfn _ _ cv hl hcr=>
 have hargs:dJ E w (fs++args.toList.map (ev T)) (cv++args.toList.map a.eval):=by
  have ha:=Bb (E:=E) (w:=w) (T:=T) (a:=a) args.toList (λx hx=>ht x (by simp only[Op.operands,Call.operands];exact zq.2 (.inr (by simpa using hx))));refine⟨by simp[hl],λj x y hx hy=>?_⟩;rw[List.getElem?_append] at hx hy;rw[hl] at hy;split at hx
  ·rename_i hlt;rw[if_pos hlt] at hy;exact hcr _ _ _ hx hy
  ·rename_i hlt;rw[if_neg hlt] at hy;exact ha.2 _ _ _ hx hy
 have hcalls:=h.2 E w _ hE hh hfr hargs
 have hrun:(execOp a.eval ⟨dst,.call {callee:=.value f,args:=args,argTypes:=ts},type,pos,after,guard⟩).run P w=.ok (.enter g (cv++args.toList.map a.eval).toArray) w:=by
  unfold execOp;simp only[resolve,hv,Deferred.ofValue,invoke,bB,eE,bv]
  have:cv.toArray++args.map a.eval++ #[]=(cv++args.toList.map a.eval).toArray:=by
   rw[jF];simp
  rw[this];exact gQ h.1 _ w
 rw[hrun,Oper.uponIn_enter];refine⟨(λh=>by cases h),?_⟩;refine(kY hcalls).mono ?_;rintro e w' ⟨v,E',r,H',nx',rfl,he,hE',hH',hf',hrel,hk⟩;exact hn E' H' nx' r v w' he hE' hH' hf' hrel hk
theorem I7{E:Env}{H:Hp}{nx:Nat}{w:World}(hh:HeapOk E H nx w){b k:Nat}{ks vs:List AV}{bs:List Nat}{ck:Nat}(hb:H b=some [.bmap ks vs bs ck])(hs:E.sp b=some k):∃es,w.heap[k]?=some (.map es ck)/\MapB E w ks vs bs ck es:=by
 obtain⟨k',h1,es,h2,h3⟩:=hh.spec b _ hb rfl;rw[hs] at h1;cases h1;exact⟨es,h2,h3⟩
theorem wM{P:Program}{t kt et:TypeId}{m k:Operand}{ok:Bool}{T:Tm}{H:Hp}{nx b:Nat}{K:AV->Hp->Nat->Prop}{mk:MK}{ks vs:List AV}{bs:List Nat}{ck:Nat}{r:Option Nat}{z:AV}(ht:oI P t=some (kt,et))(hk:mkk P kt=some mk)(hz:gw P et=some z)
    (hm:ev T m=.mp b) (hb:H b=some [.bmap ks vs bs ck]) (hfit:ss mk (ev T k)=true) (hr:eI mk (ev T k) ks=some r)
    (h:K (mget z ok r vs) H nx):eY P (.lookup t m k ok) T H nx K:=by
 refine cz (by intro c;simp) ?_;rintro E w a ⟨dst,op,type,pos,after,guard⟩ ho hE hh hf htm;simp only at ho;subst ho;have hmr:=htm m (by simp[Op.operands,Call.operands]);have hkr:=htm k (by simp[Op.operands,Call.operands]);rw[hm] at hmr;generalize hvm:a.eval m=vm at hmr;cases hmr with
 |mp _ kb hs=>
 obtain⟨es,hw,hok⟩:=I7 hh hb hs;have hck:=kg (P:=P) (w:=w) hk hkr hfit es.isEmpty;have hfk:=jG (P:=P) (es:=es.toList) (ks:=ks) hk hkr (by simpa using hok.len) (λj y e h1 h2=>hok.key j y e h1 (by simpa using h2)) hr;have hu:=pk ht;obtain⟨vz,hvz,hrz⟩:=eU hz
 have key:∃v,(Instr.lookup t (.map (some kb)) (a.eval k) ok).run P w=.ok v w/\Rel E w (mget z ok r vs) v:=by
  unfold Instr.lookup;simp only[bB,cp hu,bv,iK hw rfl,eE,hck,hfk];cases r with
  |none=>
   simp only[pA,Option.map_none,bB,hvz,bv,eE];refine⟨_,rfl,?_⟩;unfold mget;cases ok with
   |true=>exact lW (hrz E w) (.bool _)
   |false=>exact hrz E w
  |some i=>
   obtain⟨y,hy,hsame⟩:=kI hr;have hlt:i<es.size:=by have:=(bF.1 hy).1;have:=hok.len;omega
   have hlv:i<vs.length:=by have:=hok.len';have:=hok.len;omega
   simp only[pA,nw,eE,bv];refine⟨_,rfl,?_⟩;have e1:es.toList.getD i default=es[i]:=by simp[List.getD,hlt]
   have e2:vs.getD i .undef=vs[i]:=by simp[List.getD,hlv]
   have hrel:=hok.val i vs[i] es[i] (by simp[hlv]) (by simp[hlt]);rw[e1];cases ok with
   |true=>
    show Rel E w (.tup [vs.getD i .undef,.bool true]) _;rw[e2];exact lW hrel (.bool _)
   |false=>
    show Rel E w (vs.getD i .undef) _;rw[e2];exact hrel
 obtain⟨v,hrun,hrel⟩:=key;refine⟨.value v,v,w,E,_,H,nx,?_,.inl rfl,Ext.refl _ _,hE,hh,hf,hrel,h⟩;refine kK ?_;show(Instr.lookup t (a.eval m) (a.eval k) ok).run P w=_;rw[hvm];exact hrun
inductive Opd where
 |t (n:Nat)
 |c (v:AV)
 deriving Inhabited
def Opd.of:Operand->Opd
 |.tmp n=>.t n
 |x=>.c (ev (λ_=>.undef) x)
def ov(T:Tm):Opd->AV
 |.t n=>T n
 |.c v=>v
theorem bT{T:Tm}{x:Operand}:ov T (.of x)=ev T x:=by cases x<;>rfl
theorem l6{T:Tm}{l:List Operand}:(l.map Opd.of).map (ov T)=l.map (ev T):=by simp[bT]
theorem rF{T:Tm}{x:Option Operand}:(x.map Opd.of).map (ov T)=x.map (ev T):=by cases x<;>simp[bT]
inductive Ins where
 |dead
 |mov (x:Opd)
 |pick (c a b:Opd)
 |ld1 (a:Opd)
 |ldn (k:Nat) (a:Opd)
 |nilck (x:Opd)
 |bin (op:BinOp) (tb tf:Bool) (x y:Opd)
 |binS (op:BinOp) (ks:List TK) (x y:Opd)
 |un (op:UnOp) (x:Opd)
 |conv (k:IntKind) (x:Opd)
 |mkfn (f:FuncId) (caps:List Opd)
 |mkbf (f:FuncId) (first:List Opd)
 |slsA (n:Nat) (x:Opd) (lo hi:Option Opd)
 |sls (sz:Nat) (x:Opd) (lo hi mx:Option Opd)
 |slstr (x:Opd) (lo hi:Option Opd)
 |fa (k:Nat) (p:Opd)
 |part1 (off:Nat) (x:Opd)
 |partn (off k:Nat) (x:Opd)
 |ixaA (len sz:Nat) (x i:Opd)
 |ixaS (sz:Nat) (x i:Opd)
 |ixA1 (len sz:Nat) (x i:Opd)
 |ixAn (len sz:Nat) (x i:Opd)
 |ixStr (x i:Opd)
 |ext (x:Opd) (i:Nat)
 |bld (z:List AV) (parts:List (Nat×Nat×Opd))
 |lenS (x:Opd)
 |capE (x:Opd)
 |apz (sz bytes:Nat) (z:List AV) (s x:Opd)
 |lenStr (x:Opd)
 |lenC (n:Nat)
 |mx (x:Opd) (l:List Opd)
 |mn (x:Opd) (l:List Opd)
 |alloc (z:AV)
 |box (x:Opd)
 |bldS (sz len:Nat) (z:List AV) (parts:List (Nat×Nat×Opd))
 |mks (sz bytes:Nat) (z:List AV) (l c:Opd)
 |st (k:Nat) (p x:Opd)
 |app (sz bytes:Nat) (s x:Opd)
 |call (f:Opd) (args:List Opd)
 |mkm (h:Option Opd)
 |mput (k:MK) (m key x:Opd)
 |mget (k:MK) (z:AV) (ok:Bool) (m key:Opd)
 |mlen (m:Opd)
 |cpy (sz:Nat) (d s:Opd)
 |clr (sz:Nat) (z:AV) (x:Opd)
 |slp (len sz:Nat) (x:Opd)
 |snil (neg:Bool) (x:Opd)
 |s2b (x:Opd)
 |b2s (x:Opd)
 |mplc (k:MK) (z:AV) (m key:Opd)
 |mpst (m s x:Opd)
def Ec(P:Program)(t:TypeId):Bool:=match P.underlying t with|some (.func ..)=>true|_=>false
def br(op:BinOp)(tb tf:Bool)(x y:AV):Option AV:=
 match x,y with
 |.int k a,.int k' b=>if op=.shl\/op=.shr then oo op k a b else if k=k' then fc op k a b else none
 |.bool a,.bool b=>if tb=true then(match op with|.eql=>some (.bool (a==b))|.neq=>some (.bool (!(a==b)))|_=>none) else none
 |.str a,.str b=>yR op a b
 |.nilf,.nilf=>if tf=true then(match op with|.eql=>some (.bool true)|.neq=>some (.bool false)|_=>none) else none
 |.func _ _,.nilf=>if tf=true then(match op with|.eql=>some (.bool false)|.neq=>some (.bool true)|_=>none) else none
 |_,_=>none
theorem Hb{P:Program}{op:BinOp}{t:TypeId}{x y:AV}{r:AV}(h:br op (DX P t) (Ec P t) x y=some r):En P op t x y=some r:=by
 unfold br at h;unfold En;split at h
 ·exact h
 ·exact h
 ·exact h
 ·split at h
  ·rename_i hf;unfold Ec at hf;split at hf
   ·rename_i hu;simp only[hu];split at h<;>simp_all
   ·cases hf
  ·cases h
 ·split at h
  ·rename_i hf;unfold Ec at hf;split at hf
   ·rename_i hu;simp only[hu];split at h<;>simp_all
   ·cases hf
  ·cases h
 ·cases h
def d9(sz:Nat)(x i:AV):Option AV:=match i with
 |.int _ n=>match x with
  |.sl s elems=>if s=sz/\0<=n/\n<elems.length then some (.iptr (elems.getD n.toNat .undef).cells 0) else none
  |.msl b m s off len=>if s=sz/\0<=n/\n<len then some (.ptr b m (off+n.toNat*s)) else none
  |_=>none
 |_=>none
def nt(sz:Nat)(x:AV)(lo hi mx:Option AV):Option AV:=match x with
 |.sl s elems=>
  match bE 0 lo,bE elems.length hi,mx with
  |some l,some h,none=>if s=sz/\l<=h/\h<=elems.length then some (.sl s ((elems.take h).drop l)) else none
  |some l,some h,some m=>match bE 0 (some m) with
   |some m=>if l=0/\h=0/\m=0 then some .esl else none
   |none=>none
  |_,_,_=>none
 |.esl=>match bE 0 lo,bE 0 hi,mx with
  |some 0,some 0,none=>some .esl
  |_,_,_=>none
 |.msl b n s off len=>
  match bE 0 lo,bE len hi,mx with
  |some l,some h,none=>if s=sz/\l<=h/\h<=len/\n≠0 then(if l=0\/l<h then some (.msl b n s (off+l*s) (h-l)) else some (.sl s [])) else if s=sz/\l<h/\0<s/\off+h*s<=n/\n≠0 then some (.msl b n s (off+l*s) (h-l)) else none
  |some l,some h,some m=>match bE 0 (some m) with
   |some m=>if l=0/\h=0/\m=0 then some .esl else if l<=h/\h<=m/\m<=len/\n≠0 then some .undef else none
   |none=>none
  |_,_,_=>none
 |_=>none
def yL(x:AV)(lo hi:Option AV):Option AV:=match x with
 |.str s=>match bE 0 lo,bE s.size hi with
  |some l,some h=>if l<=h/\h<=s.size then some (.str (s.extract l h)) else none
  |_,_=>none
 |_=>none
def fk(cells:List AV):List (Nat×Nat×AV)->Option (List AV)
 |[]=>some cells
 |(off,size,x)::rest=>if x.flat=true/\x.cells.length=size/\off+size<=cells.length then fk (cE cells off x.cells) rest else none
def eF(x:AV)(f:List AV->Option AV):Option AV:=match x with|.agg cs=>f cs|_=>none
def ny(x:AV)(f:Int->Option AV):Option AV:=match x with|.int _ n=>f n|_=>none
def eW(x:AV):Option AV:=match x with
 |.sl _ elems=>some (.int .i64 elems.length)
 |.esl=>some (.int .i64 0)
 |.msl _ _ _ _ len=>some (.int .i64 len)
 |_=>none
def bw(T:Tm)(H:Hp):Ins->Option AV
 |.mov x=>some (ov T x)
 |.pick c a b=>match ov T c with|.bool t=>some (if t=true then ov T a else ov T b)|_=>none
 |.ld1 a=>rd1 H (ov T a)
 |.ldn k a=>(rd H k (ov T a)).map .agg
 |.nilck x=>match ov T x with|.ptr b n o=>some (.ptr b n o)|.iptr c o=>some (.iptr c o)|.func f c=>some (.func f c)|_=>none
 |.bin op tb tf x y=>br op tb tf (ov T x) (ov T y)
 |.binS op ks x y=>eF (ov T x) λxs=>eF (ov T y) λys=>j4 op ks xs ys
 |.un op x=>aun op (ov T x)
 |.conv k x=>ny (ov T x) λn=>some (.int k (k.wrap n))
 |.mkfn f caps=>some (.func f (caps.map (ov T)))
 |.mkbf f first=>some (.bfn f (first.map (ov T)))
 |.slsA n x lo hi=>xM n (ov T x) (lo.map (ov T)) (hi.map (ov T)) none
 |.sls sz x lo hi mx=>nt sz (ov T x) (lo.map (ov T)) (hi.map (ov T)) (mx.map (ov T))
 |.slstr x lo hi=>yL (ov T x) (lo.map (ov T)) (hi.map (ov T))
 |.fa k p=>jk k (ov T p)
 |.part1 off x=>eF (ov T x) λcs=>cs[off]?
 |.partn off k x=>eF (ov T x) λcs=>if off+k<=cs.length then some (.agg ((cs.drop off).take k)) else none
 |.ixaA len sz x i=>ny (ov T i) λn=>if 0<=n/\n<len then jk (n.toNat*sz) (ov T x) else none
 |.ixaS sz x i=>d9 sz (ov T x) (ov T i)
 |.ixA1 len sz x i=>eF (ov T x) λcs=>ny (ov T i) λn=>if 0<=n/\n<len then cs[n.toNat*sz]? else none
 |.ixAn len sz x i=>eF (ov T x) λcs=>ny (ov T i) λn=>if 0<=n/\n<len then(if n.toNat*sz+sz<=cs.length then some (.agg ((cs.drop (n.toNat*sz)).take sz)) else none) else none
 |.ixStr x i=>match ov T x with
  |.str s=>ny (ov T i) λn=>if 0<=n/\n<s.size then some (.int .u8 (s[n.toNat]?.getD 0).toNat) else none
  |_=>none
 |.ext x i=>jS (ov T x) i
 |.bld z parts=>(fk z (parts.map λp=>(p.1,p.2.1,ov T p.2.2))).map .agg
 |.lenS x=>eW (ov T x)
 |.capE x=>match ov T x with|.esl=>some (.int .i64 0)|_=>none
 |.lenStr x=>match ov T x with|.str s=>some (.int .i64 s.size)|_=>none
 |.lenC n=>some (.int .i64 n)
 |.mx x l=>jL qQ (ov T x) (l.map (ov T))
 |.mn x l=>jL qK (ov T x) (l.map (ov T))
 |_=>none
def J5(sz bytes:Nat)(s x:AV)(H:Hp)(nx:Nat):Option (AV×Hp×Nat):=
 match ef sz H x with
 |none=>none
 |some (k,new)=>
  if new.all AV.one=true then
   match s with
   |.esl=>if k*bytes<=140737488355328/\k<=9223372036854775807 then some (.msl nx (k*sz) sz 0 k,av H nx new,nx+1) else none
   |.msl b n s off len=>match H b with
    |some cs=>
     if cs.length=n/\s=sz then
      if off=0/\n=len*s/\(len+k)*bytes<=140737488355328/\len+k<=9223372036854775807 then some (.msl b ((len+k)*s) s 0 (len+k),av H b (cs++new),nx)
      else if off+(len+k)*s<=n/\0<n then some (.msl b n s off (len+k),av H b (cE cs (off+len*s) new),nx)
      else if off=0/\len*s<n/\n<(len+k)*s/\(len+k)*bytes<=140737488355328/\len+k<=9223372036854775807 then some (.msl b ((len+k)*s) s 0 (len+k),av H b (cs.take (len*s)++new),nx)
      else none
     else none
    |none=>none
   |_=>none
  else none
def kQ(T:Tm)(H:Hp)(nx:Nat):Ins->Option (AV×Hp×Nat)
 |.alloc z=>wG z H nx
 |.box x=>wG (ov T x) H nx
 |.bldS sz len z parts=>if len=0 then(if parts.isEmpty=true then some (.esl,H,nx) else none) else
     match fk (bc (.agg z) len) (parts.map λp=>(p.1,p.2.1,ov T p.2.2)) with
     |some cells=>some (.msl nx cells.length sz 0 len,av H nx cells,nx+1)
     |none=>none
 |.mks sz bytes z l c=>match ov T l,ov T c with
  |.int _ n,.int _ m=>if 0<=n/\n<=m/\m<=9223372036854775807/\bytes*m<=281474976710656 then some (.msl nx (m.toNat*sz) sz 0 n.toNat,av H nx (bc (.agg z) m.toNat),nx+1) else none
  |_,_=>none
 |.st k p x=>match ov T p with
  |.ptr b n off=>match H b with
   |some cs=>if cs.length=n/\(ov T x).flat=true/\(ov T x).cells.length=k/\off+k<=n then some (.tup [],av H b (cE cs off (ov T x).cells),nx) else none
   |none=>none
  |_=>none
 |.app sz bytes s x=>J5 sz bytes (ov T s) (ov T x) H nx
 |.apz sz bytes z s x=>match ov T s,ov T x with
  |.esl,.int _ n=>if 0<n/\n<=9223372036854775807/\n.toNat*bytes<=140737488355328 then some (.msl nx (n.toNat*sz) sz 0 n.toNat,av H nx (bc (.agg z) n.toNat),nx+1) else none
  |_,_=>none
 |_=>none
def Ld(lo hi mx:Option Operand):Bool:=!(mx.isSome&&hi.isNone)
def qE(pl:List (Nat×Nat)):List (Nat×Operand)->Option (List (Nat×Nat×Opd))
 |[]=>some []
 |(i,x)::l=>match pl[i]?,qE pl l with
  |some (o,s),some r=>some ((o,s,.of x)::r)
  |_,_=>none
def l8(sz:Nat)(l:List (Nat×Operand)):List (Nat×Nat×Opd):=l.map λp=>(p.1*sz,sz,.of p.2)
def j8(P:Program):Op->Option Ins
 |.move x=>some (.mov (.of x))
 |.assign x=>some (.mov (.of x))
 |.pick c a b=>some (.pick (.of c) (.of a) (.of b))
 |.load t a=>if tok P t then(if qd P t then(if 0<P.cellsOf t then some (.ldn (P.cellsOf t) (.of a)) else none) else some (.ld1 (.of a))) else none
 |.nilCheck x=>some (.nilck (.of x))
 |.binOp op t x y _=>match gr P t with|some _=>none|none=>match KA P t with|some ks=>some (.binS op ks (.of x) (.of y))|none=>some (.bin op (DX P t) (Ec P t) (.of x) (.of y))
 |.unOp op _ x=>some (.un op (.of x))
 |.convert s d x=>if tok P s then(match lS P d with|some k=>some (.conv k (.of x))|none=>none) else none
 |.makeFunc (.func f) first captured=>if first.size=0 then some (.mkfn f (captured.toList.map .of)) else if captured.size=0 then some (.mkbf f (first.toList.map .of)) else none
 | .slice t x lo hi mx=>if Ld lo hi mx then (match P.underlying t with
  |some (.slice e)=>if tok P e then some (.sls (P.cellsOf e) (.of x) (lo.map .of) (hi.map .of) (mx.map .of)) else none
  |some .string=>match mx with|none=>some (.slstr (.of x) (lo.map .of) (hi.map .of))|some _=>none
  |some (.array n e)=>if tok P e=true/\P.cellsOf e=1 then(match mx with|none=>some (.slsA n (.of x) (lo.map .of) (hi.map .of))|some _=>none) else none
  |_=>none) else none
 |.fieldAddr t x f=>match MC P t f with|some k=>some (.fa k (.of x))|none=>none
 |.field t x f=>match P.underlying t with
  |some (.struct fs)=>match fs[f]? with
   |some fd=>if tok P fd.type then(if qd P fd.type then some (.partn fd.offset (P.cellsOf fd.type) (.of x)) else some (.part1 fd.offset (.of x))) else none
   |none=>none
  |_=>none
 |.indexAddr t x i=>match P.underlying t with
  |some (.array len e)=>if tok P e then some (.ixaA len (P.cellsOf e) (.of x) (.of i)) else none
  |some (.slice e)=>if tok P e then some (.ixaS (P.cellsOf e) (.of x) (.of i)) else none
  |_=>none
 |.index t x i=>match P.underlying t with
  |some (.array len e)=>if tok P e then(if qd P e then some (.ixAn len (P.cellsOf e) (.of x) (.of i)) else some (.ixA1 len (P.cellsOf e) (.of x) (.of i))) else none
  |some .string=>some (.ixStr (.of x) (.of i))
  |_=>none
 |.extract x i=>some (.ext (.of x) i)
 |.build t parts=>match gw P t with
  |some z=>if z.flat=true then
   match yH P t with
   |some pl=>match qE pl parts.toList with
    |some ps=>some (.bld z.cells ps)
    |none=>none
   |none=>match Ca P t with
    |some (_,e)=>if tok P e=true then some (.bld z.cells (l8 (P.cellsOf e) parts.toList)) else none
    |none=>none
   else none
  |none=>none
 |.call {callee:=.builtin .len,args:=⟨[x]⟩,argTypes:=⟨[t]⟩}=>match P.underlying t with
  |some (.slice _)=>some (.lenS (.of x))
  |some .string=>some (.lenStr (.of x))
  |some (.array n _)=>some (.lenC n)
  |_=>none
 |.call {callee:=.builtin .max,args:=⟨x::l⟩,argTypes:=_}=>some (.mx (.of x) (l.map .of))
 |.call {callee:=.builtin .cap,args:=⟨[x]⟩,argTypes:=⟨[t]⟩}=>match gr P t with
  |some _=>some (.capE (.of x))
  |none=>none
 |.call {callee:=.builtin .min,args:=⟨x::l⟩,argTypes:=_}=>some (.mn (.of x) (l.map .of))
 |_=>none
def lu(P:Program):Op->Option Ins
 |.alloc e=>match gw P e with|some z=>some (.alloc z)|none=>none
 |.box _ x=>some (.box (.of x))
 |.buildSlice t len parts=>match gr P t with
  |none=>none
  | some e=>if tok P e=true∧0 < P.cellsOf e∧len * P.cellsOf e ≤ 16777216 then (match gw P e with
   |some z=>if z.flat=true/\z.cells.length=P.cellsOf e then some (.bldS (P.cellsOf e) len z.cells (l8 (P.cellsOf e) parts.toList)) else none
   |none=>none) else none
 |.makeSlice t l c=>match gr P t with
  |none=>none
  |some e=>match gw P e with
   |some z=>if tok P e=true/\z.flat=true/\z.cells.length=P.cellsOf e/\0<P.cellsOf e then some (.mks (P.cellsOf e) (fm P e) z.cells (.of l) (.of c)) else none
   |none=>none
 |.store t p x=>if tok P t=true/\0<P.cellsOf t then some (.st (P.cellsOf t) (.of p) (.of x)) else none
 |.call {callee:=.builtin .append,args:=⟨[s,x]⟩,argTypes:=⟨[tS,tX]⟩}=>match gr P tS with
  |none=>none
  | some e=>if tok P e=true∧tok P tX=true∧lS P tX=none∧0 < P.cellsOf e∧zok P e=true then some (.app (P.cellsOf e) (fm P e) (.of s) (.of x)) else if (lS P tX).isSome=true then (match gw P e with
   |some z=>if tok P e=true/\z.flat=true/\z.cells.length=P.cellsOf e/\0<P.cellsOf e/\zok P e=true then some (.apz (P.cellsOf e) (fm P e) z.cells (.of s) (.of x)) else none
   |none=>none) else none
 |_=>none
theorem pD{T:Tm}(pl:List (Nat×Nat)):∀(parts:List (Nat×Operand))(ps:List (Nat×Nat×Opd))(cells:List AV),qE pl parts=some ps->
    j9 (λi=>pl[i]?) cells (parts.map λp=>(p.1,ev T p.2))=fk cells (ps.map λp=>(p.1,p.2.1,ov T p.2.2))
 |[],ps,cells,h=>by cases h;rfl
 |(i,x)::l,ps,cells,h=>by
  simp only[qE] at h;split at h
  ·rename_i o s r h1 h2;cases h;simp only[fY,j9,h1,fk,bT];split
   ·exact pD pl l r _ h2
   ·rfl
  ·cases h
theorem kS{T:Tm}(sz:Nat):∀(parts:List (Nat×Operand))(cells:List AV),
    j9 (λi=>some (i*sz,sz)) cells (parts.map λp=>(p.1,ev T p.2))=fk cells ((l8 sz parts).map λp=>(p.1,p.2.1,ov T p.2.2))
 |[],cells=>rfl
 |(i,x)::l,cells=>by
  simp only[fY,j9,fk,l8,bT];split
  ·exact kS sz l _
  ·rfl
theorem mM(z:AV)(k:Nat):bc (.agg z.cells) k=bc z k:=rfl
theorem ym{P:Program}{op:Op}{i:Ins}{T:Tm}{H:Hp}{r:AV}(hc:j8 P op=some i)(h:bw T H i=some r):dG P T H op=some r:=by
 cases op with
 |move x=>cases hc;simp only[bw,bT] at h;exact h
 |assign x=>cases hc;simp only[bw,bT] at h;exact h
 |pick c a b=>cases hc;simp only[bw,bT] at h;exact h
 |load t a=>
  simp only[j8] at hc;simp only[dG,lB];split at hc
  ·rename_i h1;rw[if_pos h1];split at hc
   ·rename_i h2;rw[if_pos h2];split at hc
    ·rename_i h3;rw[if_pos h3];cases hc;simp only[bw,bT] at h;exact h
    ·cases hc
   ·rename_i h2;rw[if_neg h2];cases hc;simp only[bw,bT] at h;exact h
  ·cases hc
 |nilCheck x=>cases hc;simp only[bw,bT] at h;exact h
 |binOp op t x y _=>
  simp only[j8] at hc;split at hc
  ·cases hc
  split at hc
  ·rename_i ks hks;cases hc;simp only[bw,bT] at h;simp only[dG];unfold eF at h;split at h
   ·rename_i cs hx;split at h
    ·rename_i cs' hy;rw[hx,hy];simp only[En,hks];exact h
    ·cases h
   ·cases h
  ·cases hc;simp only[bw,bT] at h;exact Hb h
 |unOp op _ x=>cases hc;simp only[bw,bT] at h;exact h
 |convert s d x=>
  simp only[j8] at hc;split at hc
  ·rename_i h1;split at hc
   ·rename_i k hk;cases hc;simp only[bw,bT] at h;simp only[dG,Ds];unfold ny at h;split at h
    ·rename_i hx;simp only[hx,h1,hk,if_true];exact h
    ·cases h
   ·cases hc
  ·cases hc
 |makeFunc fn first captured=>
  cases fn with
  |func f=>
   simp only[j8] at hc;split at hc
   ·rename_i h1;cases hc;simp only[bw,l6] at h;simp only[dG,if_pos h1];exact h
   ·rename_i h1;split at hc
    ·rename_i h2;cases hc;simp only[bw,l6] at h;simp only[dG,if_neg h1,if_pos h2];exact h
    ·cases hc
  |_=>cases hc
 |slice t x lo hi mx=>
  simp only[j8] at hc;split at hc
  ·rename_i hb
   have hb':¬(mx.isSome=true/\hi.isNone=true):=by
    rintro⟨h1,h2⟩;simp[Ld,h1,h2] at hb
   split at hc
   ·rename_i e hu;split at hc
    ·rename_i h1;cases hc;simp only[bw,bT,rF] at h;simp only[dG,if_neg hb',sq,hu,h1,if_true];exact h
    ·cases hc
   ·rename_i hu;split at hc
    ·cases hc;simp only[bw,bT,rF] at h;simp only[dG,if_neg hb',sq,hu];unfold yL at h;split at h
     ·rename_i s hs;rw[hs];simp only[Option.map_none];split at h
      ·rename_i l h' e1 e2;simp only[e1,e2];exact h
      ·cases h
     ·cases h
    ·cases hc
   ·rename_i n e hu;split at hc
    ·rename_i h1;split at hc
     ·cases hc;simp only[bw,bT,rF] at h;simp only[dG,if_neg hb',sq,hu,if_pos h1];exact h
     ·cases hc
    ·cases hc
   ·cases hc
  ·cases hc
 |fieldAddr t x f=>
  simp only[j8] at hc;split at hc
  ·rename_i k hk;cases hc;simp only[bw,bT] at h;simp only[dG,ni,hk];exact h
  ·cases hc
 |field t x f=>
  simp only[j8] at hc;split at hc
  ·rename_i fs hu;split at hc
   ·rename_i fd hfd;split at hc
    ·rename_i h1;split at hc
     ·rename_i h2;cases hc;simp only[bw,bT] at h;unfold eF at h;split at h
      ·rename_i cs hx;simp only[dG,uK,hx,hu,hfd,apart,h1,h2,if_true];exact h
      ·cases h
     ·rename_i h2;cases hc;simp only[bw,bT] at h;unfold eF at h;split at h
      ·rename_i cs hx;simp only[dG,uK,hx,hu,hfd,apart,h1,h2,if_true];exact h
      ·cases h
    ·cases hc
   ·cases hc
  ·cases hc
 |indexAddr t x i=>
  simp only[j8] at hc;split at hc
  ·rename_i len e hu;split at hc
   ·rename_i h1;cases hc;simp only[bw,bT] at h;unfold ny at h;split at h
    ·rename_i n hn;simp only[dG,kP,hn,hu,h1,true_and];exact h
    ·cases h
   ·cases hc
  ·rename_i e hu;split at hc
   ·rename_i h1;cases hc;simp only[bw,bT] at h;unfold d9 at h;split at h
    ·rename_i n hn;simp only[dG,kP,hn,hu,h1,if_true];split at h
     ·rename_i s elems hx;simp only[hx];split at h
      ·rename_i hb;obtain⟨b1,b2,b3⟩:=hb;rw[if_pos ⟨b1,b2⟩];have hlt:n.toNat<elems.length:=by omega
       rw[mB hlt];simp only[List.getD,mB hlt,tw] at h;exact h
      ·cases h
     ·rename_i hx;simp only[hx];exact h
     ·cases h
    ·cases h
   ·cases hc
  ·cases hc
 |index t x i=>
  simp only[j8] at hc;split at hc
  ·rename_i len e hu;have hta:Ca P t=some (len,e):=by simp[Ca,hu]
   split at hc
   ·rename_i h1;split at hc
    ·rename_i h2;cases hc;simp only[bw,bT] at h;unfold eF at h;split at h
     ·rename_i cs hx;unfold ny at h;split at h
      ·rename_i n hn;simp only[dG,rK,hx,hn,hta,apart,h1,h2,if_true];exact h
      ·cases h
     ·cases h
    ·rename_i h2;cases hc;simp only[bw,bT] at h;unfold eF at h;split at h
     ·rename_i cs hx;unfold ny at h;split at h
      ·rename_i n hn;simp only[dG,rK,hx,hn,hta,apart,h1,h2,if_true];exact h
      ·cases h
     ·cases h
   ·cases hc
  ·rename_i hu;cases hc;simp only[bw,bT] at h;split at h
   ·rename_i s hs;unfold ny at h;split at h
    ·rename_i n hn;simp only[dG,rK,hs,hn,hu];simp only at h;split at h
     ·rename_i hb;rw[if_pos hb.1];have hlt:n.toNat<s.size:=by omega
      have e:s[n.toNat]?=some s[n.toNat]:=by simp[hlt]
      rw[e] at h |-;exact h
     ·cases h
    ·cases h
   ·cases h
  ·cases hc
 |extract x i=>cases hc;simp only[bw,bT] at h;exact h
 |build t parts=>
  simp only[j8] at hc;split at hc
  ·rename_i z hz;split at hc
   ·rename_i hf;split at hc
    ·rename_i pl hpl;split at hc
     ·rename_i ps hps;cases hc;simp only[bw] at h;rw[<-pD pl _ _ _ hps] at h;simp only[dG,uJ,hz,hpl,if_pos hf];exact h
     ·cases hc
    ·rename_i hpl;split at hc
     ·rename_i k e hta;split at hc
      ·rename_i h1;cases hc;simp only[bw] at h;rw[<-kS] at h;simp only[dG,uJ,hz,hpl,if_pos hf,hta,if_pos h1];exact h
      ·cases hc
     ·cases hc
   ·cases hc
  ·cases hc
 |call c=>
  obtain⟨callee,args,argTypes⟩:=c;cases callee with
  |builtin b=>
   obtain⟨args⟩:=args;obtain⟨argTypes⟩:=argTypes;cases b with
   |len=>
    rcases args with _|⟨x,_|⟨y,l⟩⟩
    ·cases hc
    ·rcases argTypes with _|⟨t,_|⟨u,l⟩⟩
     ·cases hc
     ·simp only[j8] at hc;split at hc
      ·rename_i e hu;cases hc;simp only[bw,bT] at h;unfold eW at h;simp only[dG,Ed,hu];split at h<;>rename_i hx<;>first|(simp only[hx];exact h)|cases h
      ·rename_i hu;cases hc;simp only[bw,bT] at h;simp only[dG,Ed,hu];split at h<;>rename_i hx<;>first|(simp only[hx];exact h)|cases h
      ·rename_i n e hu;cases hc;simp only[bw] at h;simp only[dG,Ed,hu];exact h
      ·cases hc
     ·cases hc
    ·cases hc
   |max=>
    rcases args with _|⟨x,l⟩
    ·cases hc
    ·cases hc;simp only[bw,bT,l6] at h;exact h
   |cap=>
    rcases args with _|⟨x,_|⟨y,l⟩⟩
    ·cases hc
    ·rcases argTypes with _|⟨t,_|⟨u,l⟩⟩
     ·cases hc
     ·simp only[j8] at hc;split at hc
      ·rename_i e he;cases hc;simp only[bw,bT] at h;simp only[dG,he];split at h<;>rename_i hx<;>first|(simp only[hx];exact h)|cases h
      ·cases hc
     ·cases hc
    ·cases hc
   |min=>
    rcases args with _|⟨x,l⟩
    ·cases hc
    ·cases hc;simp only[bw,bT,l6] at h;exact h
   |_=>cases hc
  |_=>cases hc
 |_=>cases hc
theorem Dy{P:Program}{op:Op}{i:Ins}{T:Tm}{H:Hp}{nx:Nat}{r:AV×Hp×Nat}(hc:lu P op=some i)(h:kQ T H nx i=some r):gY P T H nx op=some r:=by
 cases op with
 |alloc e=>
  simp only[lu] at hc;split at hc
  ·rename_i z hz;cases hc;simp only[gY,uB,hz];exact h
  ·cases hc
 |box _ x=>cases hc;simp only[kQ,bT] at h;exact h
 |buildSlice t len parts=>
  simp only[lu] at hc;split at hc
  ·cases hc
  ·rename_i e he;split at hc
   ·rename_i h1;split at hc
    ·rename_i z hz;split at hc
     ·rename_i h2;cases hc;simp only[kQ] at h;simp only[gY,qR,he,if_pos h1];split at h
      ·rename_i hl;rw[if_pos hl];split at h
       ·rename_i hp
        have:parts.toList=[]:=by
         unfold l8 at hp;simpa using hp
        rw[this];exact h
       ·cases h
      ·rename_i hl;rw[if_neg hl];simp only[hz,if_pos h2];rw[mM,<-kS] at h;exact h
     ·cases hc
    ·cases hc
   ·cases hc
 |makeSlice t l c=>
  simp only[lu] at hc;split at hc
  ·cases hc
  ·rename_i e he;split at hc
   ·rename_i z hz;split at hc
    ·rename_i h1;cases hc;simp only[kQ,bT] at h;split at h
     ·rename_i k n k' m hl hm;split at h
      ·rename_i hb;simp only[gY,zI,he,hl,hm,hz];rw[if_pos ⟨h1.1,h1.2.1,h1.2.2.1,h1.2.2.2,hb.1,hb.2.1,hb.2.2.1,hb.2.2.2⟩];rw[mM] at h;exact h
      ·cases h
     ·cases h
    ·cases hc
   ·cases hc
 |store t p x=>
  simp only[lu] at hc;split at hc
  ·rename_i h1;cases hc;simp only[kQ,bT] at h;split at h
   ·rename_i b n off hp;split at h
    ·rename_i cs hb;split at h
     ·rename_i h2;simp only[gY,lQ,hp,hb];rw[if_pos ⟨h2.1,h1.1,h2.2.1,h2.2.2.1,h2.2.2.2,h1.2⟩];exact h
     ·cases h
    ·cases h
   ·cases h
  ·cases hc
 |call c=>
  obtain⟨callee,args,argTypes⟩:=c;cases callee with
  |builtin b=>
   obtain⟨args⟩:=args;obtain⟨argTypes⟩:=argTypes;cases b with
   |append=>
    rcases args with _|⟨x,_|⟨y,_|⟨z,l⟩⟩⟩
    ·cases hc
    ·cases hc
    ·rcases argTypes with _|⟨t,_|⟨u,_|⟨v,l⟩⟩⟩
     ·cases hc
     ·cases hc
     ·simp only[lu] at hc;split at hc
      ·cases hc
      ·rename_i e he;split at hc
       ·rename_i h1;cases hc;simp only[kQ,bT] at h;simp only[gY,h1.2.2.1,Option.isSome_none,dZ,if_false];simp only[qF,he,if_pos h1];exact h
       ·split at hc
        ·rename_i hti;obtain⟨kx,hkx⟩:=E8.1 hti;split at hc
         ·rename_i z hz;split at hc
          ·rename_i h2;cases hc;simp only[kQ,bT] at h;split at h
           ·rename_i kn n hs hx;split at h
            ·rename_i h3;simp only[gY,hkx,Option.isSome_some,if_true,Bs,he,hs,hx,hz];rw[if_pos ⟨h2.1,h2.2.1,h2.2.2.1,h2.2.2.2.1,h2.2.2.2.2,h3.1,h3.2.1,h3.2.2⟩];rw[mM] at h;exact h
            ·cases h
           ·cases h
          ·cases hc
         ·cases hc
        ·cases hc
     ·cases hc
    ·cases hc
   |_=>cases hc
  |_=>cases hc
 |_=>cases hc
def isp(i:Ins)(T:Tm)(H:Hp)(nx:Nat)(K:AV->Hp->Nat->Prop):Prop:=match i with
 |.mkm h=>(h=none\/ ∃x k n,h=some x/\ov T x=.int k n)/\K (.mp nx) (av H nx [.omap [] []]) (nx+1)
 |.mput k m key x=>∃b ks vs r,ov T m=.mp b/\H b=some [.omap ks vs]/\ss k (ov T key)=true/\eI k (ov T key) ks=some r/\K (.tup []) (av H b [.omap (jb (ov T key) r ks) (qY (ov T x) r vs)]) nx
 |.mget k z ok m key=>∃b ks vs r,ov T m=.mp b/\H b=some [.omap ks vs]/\ss k (ov T key)=true/\eI k (ov T key) ks=some r/\K (Go.Abs.mget z ok r vs) H nx
 |.mlen m=>∃b ks vs,ov T m=.mp b/\H b=some [.omap ks vs]/\K (.int .i64 ks.length) H nx
 |.cpy sz d s=>∃n H',uO sz (ov T d) (ov T s) H=some (n,H')/\K (.int .i64 n) H' nx
 |.clr sz z x=>∃H',wn sz z (ov T x) H=some H'/\K (.tup []) H' nx
 |.slp len sz x=>∃(b n off:Nat)(cs:List AV),ov T x=.ptr b n off/\H b=some cs/\cs.length=n/\off+len*sz=n/\K (.msl b n sz off len) H nx
 |.snil neg x=>∃k,jJ (ov T x)=some k/\Dh neg k λr=>K r H nx
 |.s2b x=>∃bs:ByteArray,ov T x=.str bs/\(bs.size=0->K (.sl 1 []) H nx)/\(bs.size≠0->K (.msl nx bs.size 1 0 bs.size) (av H nx (bs.data.toList.map lN)) (nx+1))
 |.b2s x=>∃(n:Nat)(bs:List UInt8),ef 1 H (ov T x)=some (n,bs.map lN)/\K (.str ⟨bs.toArray⟩) H nx
 |.mplc k z m key=>∃b ks vs r,ov T m=.mp b/\H b=some [.omap ks vs]/\ss k (ov T key)=true/\eI k (ov T key) ks=some r/\K (.tup [Lq z r vs,.int .i64 (I5 r ks)]) (av H b [.omap (jb (ov T key) r ks) (BU z r vs)]) nx
 |.mpst m s x=>∃(b:Nat)(ks vs:List AV)(i:Nat),ov T m=.mp b/\H b=some [.omap ks vs]/\ov T s=.int .i64 (i:Int)/\i<ks.length/\K (.tup []) (av H b [.omap ks (vs.set i (ov T x))]) nx
 |_=>False
def vt(P:Program):Op->Option Ins
 |.makeMap t r=>match oI P t with|some _=>some (.mkm (r.map .of))|none=>none
 |.mapUpdate t m k x=>match oI P t with
  |some (kt,_)=>(mkk P kt).map λmk=>.mput mk (.of m) (.of k) (.of x)
  |none=>none
 |.insert t m k x=>match oI P t with
  |some (kt,_)=>(mkk P kt).map λmk=>.mput mk (.of m) (.of k) (.of x)
  |none=>none
 |.lookup t m k ok=>match oI P t with
  |some (kt,et)=>match mkk P kt,gw P et with
   |some mk,some z=>some (.mget mk z ok (.of m) (.of k))
   |_,_=>none
  |none=>none
 |.call {callee:=.builtin .len,args:=⟨[x]⟩,argTypes:=⟨[t]⟩}=>match oI P t with|some _=>some (.mlen (.of x))|none=>none
 |.binOp .eql t x (.const (.slice none 0 0)) _=>match gr P t with|some _=>some (.snil false (.of x))|none=>none
 |.binOp .neq t x (.const (.slice none 0 0)) _=>match gr P t with|some _=>some (.snil true (.of x))|none=>none
 |.call {callee:=.builtin .copy,args:=⟨[d,s]⟩,argTypes:=⟨[tD,_]⟩}=>match gr P tD with
  |some e=>if tok P e=true then some (.cpy (P.cellsOf e) (.of d) (.of s)) else none
  |none=>none
 |.call {callee:=.builtin .clear,args:=⟨[x]⟩,argTypes:=⟨[t]⟩}=>match gr P t with
  |some e=>match gw P e with
   |some z=>if 0<P.cellsOf e then some (.clr (P.cellsOf e) z (.of x)) else none
   |none=>none
  |none=>none
 |.convert s d x=>match P.underlying s,P.underlying d with
  |some .string,some (.slice e)=>if lS P e=some .u8 then some (.s2b (.of x)) else none
  |some (.slice e),some .string=>if lS P e=some .u8 then some (.b2s (.of x)) else none
  |_,_=>none
 |.mapEntry t m k=>match oI P t with
  |some (kt,et)=>match mkk P kt,gw P et with
   |some mk,some z=>some (.mplc mk z (.of m) (.of k))
   |_,_=>none
  |none=>none
 |.entryStore _ m s x=>some (.mpst (.of m) (.of s) (.of x))
 |.slice t x none none none=>match P.underlying t with
  |some (.array n e)=>if tok P e=true/\0<n then some (.slp n (P.cellsOf e) (.of x)) else none
  |_=>none
 |_=>none
theorem LD{P:Program}{op:Op}{i:Ins}{T:Tm}{H:Hp}{nx:Nat}{K:AV->Hp->Nat->Prop}(hc:vt P op=some i)(h:isp i T H nx K):eY P op T H nx K:=by
 have put:∀t m k x,vt P (.mapUpdate t m k x)=some i->isp i T H nx K->eY P (.mapUpdate t m k x) T H nx K:=by
  intro t m k x hc h;simp only[vt] at hc;split at hc
  ·rename_i kt et ht;cases hk:mkk P kt with
   |none=>rw[hk] at hc;cases hc
   |some mk=>
    rw[hk] at hc;cases hc;obtain⟨b,ks,vs,r,h1,h2,h3,h4,h5⟩:=h;simp only[bT] at h1 h3 h4 h5;exact th ht hk h1 h2 h3 h4 h5
  ·cases hc
 unfold vt at hc;split at hc
 ·rename_i t r;split at hc
  ·rename_i p ht;cases hc;obtain⟨h1,h2⟩:=h
   have h4:r=none\/ ∃x n k p,r=some x/\ev T x=.int k n/\oI P t=some p:=by
    rcases h1 with h1|⟨x,k,n,h1,h3⟩
    ·cases r with
     |none=>exact .inl rfl
     |some r=>cases h1
    ·cases r with
     |none=>cases h1
     |some r=>cases h1;rw[bT] at h3;exact .inr ⟨r,n,k,p,rfl,h3,ht⟩
   exact wx h4 h2
  ·cases hc
 ·rename_i t m k x;exact put t m k x hc h
 ·rename_i t m k x;exact zb (put t m k x hc h)
 ·rename_i t m k ok;split at hc
  ·rename_i kt et ht;split at hc
   ·rename_i mk z hk hz;cases hc;obtain⟨b,ks,vs,r,h1,h2,h3,h4,h5⟩:=h;simp only[bT] at h1 h3 h4;exact qz ht hk hz h1 h2 h3 h4 h5
   ·cases hc
  ·cases hc
 ·rename_i x t;split at hc
  ·rename_i p ht;cases hc;obtain⟨b,ks,vs,h1,h2,h3⟩:=h;rw[bT] at h1;exact Cq ht h1 h2 h3
  ·cases hc
 ·rename_i t x ty;split at hc
  ·rename_i e ht;cases hc;obtain⟨k,h1,h2⟩:=h;rw[bT] at h1;exact uh (neg:=false) ht h1 h2
  ·cases hc
 ·rename_i t x ty;split at hc
  ·rename_i e ht;cases hc;obtain⟨k,h1,h2⟩:=h;rw[bT] at h1;exact uh (neg:=true) ht h1 h2
  ·cases hc
 ·rename_i d s tD tS;split at hc
  ·rename_i e ht;split at hc
   ·rename_i hte;cases hc;obtain⟨n,H',h1,h2⟩:=h;simp only[bT] at h1;exact B4 ht hte h1 h2
   ·cases hc
  ·cases hc
 ·rename_i x t;split at hc
  ·rename_i e ht;split at hc
   ·rename_i z hz;split at hc
    ·rename_i hpos;cases hc;obtain⟨H',h1,h2⟩:=h;simp only[bT] at h1;exact AO ht hz h1 hpos h2
    ·cases hc
   ·cases hc
  ·cases hc
 ·rename_i s d x
  have tu:∀{e},lS P e=some .u8->P.underlying e=some (.int .u8):=λ{e} h=>by
   unfold lS at h;split at h
   ·rename_i hu;cases h;exact hu
   ·cases h
  split at hc
  ·rename_i e hs hd;split at hc
   ·rename_i he;cases hc;obtain⟨bs,h1,h2,h3⟩:=h;rw[bT] at h1;exact Fs hs hd (tu he) h1 h2 h3
   ·cases hc
  ·rename_i e hs hd;split at hc
   ·rename_i he;cases hc;obtain⟨n,bs,h1,h2⟩:=h;rw[bT] at h1;exact FK hs (tu he) hd h1 h2
   ·cases hc
  ·cases hc
 ·rename_i t m k;split at hc
  ·rename_i kt et ht;split at hc
   ·rename_i mk z hk hz;cases hc;obtain⟨b,ks,vs,r,h1,h2,h3,h4,h5⟩:=h;simp only[bT] at h1 h3 h4 h5;exact vR ht hk hz h1 h2 h3 h4 h5
   ·cases hc
  ·cases hc
 ·cases hc;obtain⟨b,ks,vs,i,h1,h2,h3,h4,h5⟩:=h;simp only[bT] at h1 h3 h5;exact rZ h1 h2 h3 h4 h5
 ·rename_i t x;split at hc
  ·rename_i n e hu;split at hc
   ·rename_i hce;cases hc;obtain⟨b,n',off,cs,h1,h2,h3,h4,h5⟩:=h;rw[bT] at h1;exact wY hu hce.1 hce.2 h1 h2 h3 h4 h5
   ·cases hc
  ·cases hc
 ·cases hc
theorem Ax{P:Program}{E:Env}{H:Nat->Option (List AV)}{nx:Nat}{w:World}(hE:EnvOk E w)(hh:HeapOk E H nx w)(hfr:cI E nx){tS tX ty e:TypeId}{x:AV}{vs vx:Value}{b n off len k:Nat}{cs new:List AV}(hte:gr P tS=some e)
    (hc:tok P e=true/\tok P tX=true/\lS P tX=none/\0<P.cellsOf e/\zok P e=true) (hs:Rel E w (.msl b n (P.cellsOf e) off len) vs) (hx:Rel E w x vx)
    (hb:H b=some cs) (hn:cs.length=n) (h0:0<n) (hfull:off+len*P.cellsOf e=n) (hsrc:ef (P.cellsOf e) H x=some (k,new)) (hall:new.all AV.one=true)
    (hb1:(len+k)*fm P e<=140737488355328) (hb2:len+k<=9223372036854775807):
    oz P E w (Builtin.append_ #[tS,tX] ty #[vs,vx]) (.msl b (n+k*P.cellsOf e) (P.cellsOf e) off (len+k)) (av H b (cs++new)) nx\/
    oz P E w (Builtin.append_ #[tS,tX] ty #[vs,vx]) (.msl nx ((len+k)*P.cellsOf e) (P.cellsOf e) 0 (len+k)) (av H nx (cs.drop off++new)) (nx+1):=by
 have hu:=io hte;obtain⟨he,hX,hXi,hpos,hz⟩:=hc;obtain⟨hk,hnl,vals,hnew,hvl,hvr⟩:=jr (P:=P) hh hx hsrc;have hd:HeapOk E H nx w.drew:=hh.same rfl;have hEd:EnvOk E w.drew:=hE.drew;have hextd:Ext E w E w.drew:=Ext.same rfl
 have hone:∀y∈vals,y.oneCell'=true:=by
  intro y hy;obtain⟨i,hi⟩:=sB hy;have hlt:i<new.length:=by have:=(bF.1 hi).1;omega
  exact(hvr i new[i] y (by simp[hlt]) hi).one (dS.1 hall _ (mo hlt))
 obtain⟨_,_,valsd,hnewd,hvld,hvrd⟩:=jr (P:=P) hd (hx.ext hextd) hsrc
 have honed:∀y∈valsd,y.oneCell'=true:=by
  intro y hy;obtain⟨i,hi⟩:=sB hy;have hlt:i<new.length:=by have:=(bF.1 hi).1;omega
  exact(hvrd i new[i] y (by simp[hlt]) hi).one (dS.1 hall _ (mo hlt))
 have hmul:(len+k)*P.cellsOf e=len*P.cellsOf e+k*P.cellsOf e:=eh _ _ _;cases hs with
 |msl0=>omega
 |msl _ _ _ _ _ blk bsz cap hm hl hcp hnc=>
  subst hn;rcases hh.box b cs hb with hn0|⟨blk',bsz',hbx⟩
  ·rw[hn0] at hm;cases hm
  rw[hbx.mu] at hm;cases hm;obtain⟨v0,ty0,fz,k1,kz,k2,k3,k4⟩:=hbx.cells;by_cases hcap:len+k<=cap
  ·-- in place
   left
   have hfit:off+(len+k)*P.cellsOf e<=bsz:=by
    have:=jt (P.cellsOf e) hcap;omega
   have hcsl:cs.length+vals.length<=v0.size:=by omega
   have hrun:=eD P blk cs.length ty0 fz vals 0 v0 w k1 kz (by omega) hone;simp only[ur] at hrun;have hlen':(cs++new).length=cs.length+k*P.cellsOf e:=by rw[cQ,hnl]
   obtain⟨E',he',hE',hh',hmu',_,hmo,hms,hml⟩:=hh.write hE hb hbx (cs':=cs++new) (v0.toList.take cs.length++vals++v0.toList.drop (cs.length+vals.length)).toArray
    (by simp; omega) (by omega) (by simp) (by
     by_cases hk0:k=0
     ·left;rw[hlen',hk0,nz];rfl
     ·right;left;have hkp:0<k*P.cellsOf e:=Nat.mul_pos (by omega) hpos;cases hq:E.mu b (cs++new).length with
      |none=>rfl
      |some q=>
       have:=hh.top b cs _ q hb hq;rw[cQ] at this;omega) (λi a ha=>by
    have:=yK (E:=E) (w:=w) (vals:=v0.toList) (nv:=vals) (by simpa using (by omega:cs.length ≤ v0.size)) hvl (fun i x hx'=>by
     obtain⟨v,hv,ho,hr⟩:=k4 i x hx';exact⟨v,by simpa using hv,ho,hr⟩) hvr hone i a ha
    obtain⟨v,hv,ho,hr⟩:=this;exact⟨v,by simpa using hv,ho,hr⟩)
   refine⟨_,_,E',iB hu he hX hXi hk hnew (by rw[cf,hfull];exact hrun) hcap,he',hE',hh',?_,hfr.of (bd _) (λb' n hb'=>hmo b' n (by have:=hh.dom _ _ hb;omega)) hms hml⟩;rw[hlen'] at hmu';exact .msl _ _ _ _ _ _ _ _ hmu' hcap (by omega) (by have:=jt (P.cellsOf e) hcap;omega)
  ·-- a copy into a new block
   right;have hl0:(cs.drop off).length=len*P.cellsOf e:=by rw[Ce];omega
   have hlo:((v0.toList.drop off).take (len*P.cellsOf e)).length=len*P.cellsOf e:=by
    rw[jg,Ce,Array.length_toList];omega
   have ho1:(Builtin.firstCells (P.cellsOf e) len (.slice (some ⟨blk,off,none⟩) len cap)).run P w.drew=.ok ((v0.toList.drop off).take (len*P.cellsOf e)).toArray w.drew:=by
    simp only[Builtin.firstCells]
    have:=run_loadCells_list (P:=P) w.drew ⟨blk,off,none⟩ ((v0.toList.drop off).take (len * P.cellsOf e)) (fun j v hv=>by
     rw[cf];rw[jj] at hv;split at hv
     ·rw[kD] at hv;exact cell?_of_heap (w:=w.drew) k1 (by simpa using hv)
     ·cases hv)
    rw[hlo] at this;exact this
   obtain⟨newCap,rest,h1,h2,h3⟩:=iA (P:=P) (w:=w) (ty:=ty) hu he hX hXi hz hk ho1 hnewd (by omega) hb1 hb2;have hnb:(cs.drop off++new).length=(len+k)*P.cellsOf e:=by rw[cQ,hl0,hnl,hmul]
   obtain ⟨E',he',hE',hh',hmu,_,hmo,hms,hml⟩:=hd.newBox hEd (hfr nx (bd _)) (cs.drop off ++ new) ((v0.toList.drop off).take (len * P.cellsOf e) ++ valsd ++ rest).toArray e (by
    rw[hnb,List.size_toArray,cQ,cQ,hlo,hvld,hnl,hmul];omega) (λi a ha=>by
    rw[iw];by_cases hi:i<len*P.cellsOf e
    ·rw[fT (by omega),kD] at ha;obtain⟨v,hv,ho,hr⟩:=k4 _ a ha;refine⟨v,?_,ho,hr.ext hextd⟩;rw[pu,fT (by omega),jj,if_pos hi,kD];simpa using hv
    ·rw[ia (by omega),hl0] at ha;have hlt:i-len*P.cellsOf e<valsd.length:=by have:=(bF.1 ha).1;omega
     refine⟨valsd[i-len*P.cellsOf e],?_,honed _ (mo hlt),hvrd _ a _ ha (by simp[hlt])⟩;rw[pu,ia (by omega),hlo,fT hlt];simp[hlt])
   refine⟨_,_,E',h3,hextd.trans he',hE',hh',?_,hfr.of (by omega) (λb' n hb'=>hmo b' n (by omega)) hms hml⟩
   have hsz:((v0.toList.drop off).take (len*P.cellsOf e)++valsd++rest).toArray.size=newCap*P.cellsOf e:=by
    simp only[List.size_toArray,cQ,hlo,hvld,hnl,h2];rw[<-eh,<-eh];congr 1;omega
   rw[hnb,hsz] at hmu;exact .msl _ _ _ _ _ _ _ _ hmu h1 (by omega) (by rw[dt];exact jt _ h1)
theorem BQ{P:Program}{tS tX e:TypeId}{s x:Operand}{T:Tm}{H:Hp}{nx:Nat}{K:AV->Hp->Nat->Prop}{b n off len k:Nat}{cs new:List AV}(hte:gr P tS=some e)
    (hc:tok P e=true/\tok P tX=true/\lS P tX=none/\0<P.cellsOf e/\zok P e=true) (hs:ev T s=.msl b n (P.cellsOf e) off len)
    (hb:H b=some cs) (hn:cs.length=n) (h0:0<n) (hfull:off+len*P.cellsOf e=n) (hsrc:ef (P.cellsOf e) H (ev T x)=some (k,new)) (hall:new.all AV.one=true)
    (hb1:(len+k)*fm P e<=140737488355328) (hb2:len+k<=9223372036854775807)
    (k1:K (.msl b (n+k*P.cellsOf e) (P.cellsOf e) off (len+k)) (av H b (cs++new)) nx)
    (k2:K (.msl nx ((len+k)*P.cellsOf e) (P.cellsOf e) 0 (len+k)) (av H nx (cs.drop off++new)) (nx+1)):
    eY P (.call {callee:=.builtin .append,args:=#[s,x],argTypes:=#[tS,tX]}) T H nx K:=by
 refine cz (by intro c;simp) ?_;rintro E w a ⟨dst,op,type,pos,after,guard⟩ ho hE hh hf htm;simp only at ho;subst ho;have hsr:=htm s (by simp[Op.operands,Call.operands]);have hxr:=htm x (by simp[Op.operands,Call.operands]);rw[hs] at hsr
 have hexec:∀v w',(Builtin.append_ #[tS,tX] type #[a.eval s,a.eval x]).run P w=.ok v w'->(execOp a.eval ⟨dst,.call {callee:=.builtin .append,args:=#[s,x],argTypes:=#[tS,tX]},type,pos,after,guard⟩).run P w=.ok (.value v) w':=by
  intro v w' h;simp only[execOp,resolve,invoke,builtin,bB,eE,bv];simp[h]
 rcases Ax (ty:=type) hE hh hf hte hc hsr hxr hb hn h0 hfull hsrc hall hb1 hb2 with⟨v,w',E',g1,g2,g3,g4,g5,g6⟩|⟨v,w',E',g1,g2,g3,g4,g5,g6⟩
 ·exact⟨.value v,v,w',E',_,_,_,hexec _ _ g1,.inl rfl,g2,g3,g4,g6,g5,k1⟩
 ·exact⟨.value v,v,w',E',_,_,_,hexec _ _ g1,.inl rfl,g2,g3,g4,g6,g5,k2⟩
structure Op2 where
 d:Option Nat
 g:Option (Nat×Bool)
 i:Ins
inductive C2 where
 |skip
 |ops (m:Nat) (l:List Op2)
 |mix (m:Nat) (l:List Op2) (C:List Nat)
 |mixS (m:Nat) (l:List Op2) (C:List (Nat×Nat))
 |anyI (l:List Op2) (B:List (List Nat))
 |seq (a b:C2)
 |cond (c:Opd) (a b:C2)
 |block (id:Nat) (b:C2)
 |loop (b:C2)
 |exit (id:Nat)
 |ret
 |rangeF (g:Opd) (ps:List Nat) (a b:C2)
inductive IC where
 |val|eff|call|sp
 deriving DecidableEq
def ic:Ins->IC
 |.alloc _|.box _|.bldS .. |.mks .. |.st .. |.app .. |.apz ..=>.eff
 |.call ..=>.call
 |.mkm .. |.mput .. |.mget .. |.mlen _|.cpy .. |.clr .. |.snil .. |.s2b _|.b2s _|.mplc .. |.mpst .. |.slp ..=>.sp
 |_=>.val
def tv(m:Nat)(p:AV):Bool:=match p with|.ptr b _ _=>b<m|_=>true
def wB(m:Nat)(p:AV):Bool:=match p with|.ptr b _ _=>m<=b|_=>true
def dm2(dm:DM)(T:Tm)(i:Ins):Bool:=match dm with
 |.fresh m=>match i with
  |.ld1 a=>tv m (ov T a)
  |.ldn _ a=>tv m (ov T a)
  |.st _ p _=>wB m (ov T p)
  |.app ..=>false
  |.apz ..=>false
  |_=>true
 |_=>true
def Cy(i:Ins)(T:Tm)(H:Hp)(nx:Nat)(K:AV->Hp->Nat->Prop):Prop:=match i with
 |.app sz bytes s x=>∃(b n off len k:Nat)(cs new:List AV),ov T s=.msl b n sz off len/\H b=some cs/\cs.length=n/\0<n/\off+len*sz=n/\ef sz H (ov T x)=some (k,new)/\new.all AV.one=true/\
     (len+k)*bytes<=140737488355328/\len+k<=9223372036854775807/\K (.msl b (n+k*sz) sz off (len+k)) (av H b (cs++new)) nx/\K (.msl nx ((len+k)*sz) sz 0 (len+k)) (av H nx (cs.drop off++new)) (nx+1)
 |_=>False
def bh(P:Program)(dm:DM)(i:Ins)(T:Tm)(H:Hp)(nx:Nat)(K:AV->Hp->Nat->Prop):Prop:=
 match ic i with
 |.val=>aM (dm2 dm T i) (ax (bw T H i) λr=>K r H nx)
 |.eff=>aM (dm2 dm T i) (ax (kQ T H nx i) λx=>K x.1 x.2.1 x.2.2)\/(dm.isText=true/\Cy i T H nx K)
 |.call=>match i with
  | .call f args=>(ax (qG (ov T f)) fun y=>match dm.isText with
   |false=>aX P y.1 (args.map (ov T)++y.2) H λr=>K r H nx
   |true=>Fn P y.1 (args.map (ov T)++y.2) H nx K)\/(dm.isText=true/\((∃b,ov T f=.yld b/\Yl P b (args.map (ov T)) H nx K)\/ ∃g fs,ov T f=.bfn g fs/\Fn P g (fs++args.map (ov T)) H nx K))
  |_=>False
 |.sp=>dm.isText=true/\isp i T H nx K
def g2(T:Tm):Option (Nat×Bool)->Option Bool
 |none=>some true
 |some (t,want)=>match T t with
  |.bool b=>some (b==want)
  |.tup []=>some false
  |_=>none
def ai(P:Program)(dm:DM):List Op2->Tm->Hp->Nat->SP->Prop
 |[],T,H,nx,K=>K T H nx
 |o::l,T,H,nx,K=>aS (g2 T o.g) (bh P dm o.i T H nx λr H nx=>ai P dm l (aP T o.d r) H nx K) (ai P dm l (aP T o.d (.tup [])) H nx K)
def sk(T:Tm):Ins->Option AV
 |.bldS sz len z parts=>rq (kQ T aQ 0 (.bldS sz len z parts))
 |_=>none
def lkS(mk:MK)(z:AV)(ok:Bool)(mv kv:AV)(S:Hp):Option AV:=match mv with
 |.mp b=>match S b with
  |some [.omap ks vs]=>if ss mk kv=true then(match eI mk kv ks with|some r=>some (mget z ok r vs)|none=>none) else none
  |some [.bmap ks vs _ _]=>if ss mk kv=true then(match eI mk kv ks with|some r=>some (mget z ok r vs)|none=>none) else none
  |_=>none
 |_=>none
def ilk(T:Tm)(S:Hp):Ins->Option AV
 |.mget mk z ok m key=>lkS mk z ok (ov T m) (ov T key) S
 |_=>none
def bn(P:Program)(S:Hp):List (Op2×Nat)->Tm->Hp->Nat->SP->Prop
 |[],T,H,nx,K=>K T H nx
 |(o,0)::l,T,H,nx,K=>aS (g2 T o.g) (ax (bw T S o.i) λr=>bn P S l (aP T o.d r) H nx K) (bn P S l (aP T o.d (.tup [])) H nx K)
 |(o,k+1)::l,T,H,nx,K=>aS (g2 T o.g) (if k=2 then ax (sk T o.i) λr=>bn P S l (aP T o.d r) H nx K else if k=3 then ax (ilk T S o.i) λr=>bn P S l (aP T o.d r) H nx K else bh P .text o.i T H nx λr H' nx'=>(k=0->Sub S H')/\bn P S l (aP T o.d r) H' nx' K) (bn P S l (aP T o.d (.tup [])) H nx K)
def aF(P:Program):C2->Tm->Hp->Nat->CP->Prop
 |.skip,T,H,nx,K=>K .normal T H nx
 |.ops m l,T₀,H₀,nx₀,K=>∃T H nx Hf,Gh T₀ H₀ nx₀ T H nx Hf/\ai P (match m with|0=>.text|1=>.draw|_=>.fresh nx) l T H nx (K .normal)
 |.mix m l C,T₀,H₀,nx₀,K=>(m≠9/\∃T H nx Hf,Gh T₀ H₀ nx₀ T H nx Hf/\ai P (match m with|1=>.draw|_=>.fresh nx) l T H nx (K .normal))\/
     ∃T H nx Hf,Gh T₀ H₀ nx₀ T H nx Hf/\ai P .text (C.map λk=>l.getD k ⟨none,none,.dead⟩) T H nx (K .normal)
 |.mixS m l C,T₀,H₀,nx₀,K=>(m≠9/\∃T H nx Hf,Gh T₀ H₀ nx₀ T H nx Hf/\ai P (match m with|1=>.draw|_=>.fresh nx) l T H nx (K .normal))\/
     ∃T H nx Hf S,Gh T₀ H₀ nx₀ T H nx Hf/\Sub S H/\bn P S (C.map λk=>(l.getD k.1 ⟨none,none,.dead⟩,k.2)) T H nx (K .normal)
 |.anyI l B,T₀,H₀,nx₀,K=>∃T H nx Hf,∃I:(Nat->Bool)->Tm->Hp->Nat->Prop,Gh T₀ H₀ nx₀ T H nx Hf/\I (λ_=>false) T H nx/\
     (∀(i:Nat)(L:Nat->Bool)(T:Tm)(H:Hp)(nx:Nat),i<l.length->L i=false->(∀k∈B.getD i [],L k=true)->I L T H nx->ai P .text [l.getD i ⟨none,none,.dead⟩] T H nx (I λk=>L k || decide (k=i)))/\
     ∀(L:Nat->Bool)(T:Tm)(H:Hp)(nx:Nat),(∀k,k<l.length->L k=true)->I L T H nx->K .normal T H nx
 |.seq x y,T,H,nx,K=>aF P x T H nx λe T H nx=>aO e (aF P y T H nx K) (K e T H nx)
 |.cond c x y,T,H,nx,K=>a7 (ov T c) (aF P x T H nx K) (aF P y T H nx K)
 |.block id b,T,H,nx,K=>aF P b T H nx λe T H nx=>K (rR id e) T H nx
 |.loop b,T,H,nx,K=>aY (aF P b) T H nx K
 |.exit id,T,H,nx,K=>K (.exit id) T H nx
 |.ret,T,H,nx,K=>K .ret T H nx
 |.rangeF g ps a b,T,H,nx,K=>∃f caps,ov T g=.func f caps/\∀(c0:AV)(cj:AEx->AV),
     (∀ (args:List AV) (H':Hp) (nx':Nat) (K':AV→Hp→Nat→Prop),H' nx=some [c0]→args.length=ps.length →
      aF P a (mE T ps args) H' nx' (λe T2 H2 nx2=>aO e (H2 nx=some [c0]/\aF P b T2 (dw H2 nx) nx2 λe T3 H3 nx3=>aO e (K' (.bool true) (av H3 nx [c0]) nx3) (K' (.bool false) (av H3 nx [cj e]) nx3)) False)->
      Yl P nx args H' nx' K')->
     Fn P f (.yld nx::caps) (av H nx [c0]) (nx+1) λ_ H' nx'=>(H' nx=some [c0]/\K .normal T (dw H' nx) nx')\/ ∃e,e≠.normal/\H' nx=some [cj e]/\K e T (dw H' nx) nx'
def wN:Op->Option IC
 |.call {callee:=.value _,..}=>some .call
 |op=>match opk op with
  |.pure|.touch=>some .val
  |.alloc|.write=>some .eff
  |.other=>none
def j6(P:Program)(op:Op):Option Ins:=match wN op with
 |some .call=>match nL op with
  |some (f,args)=>some (.call (.of f) (args.toList.map .of))
  |none=>none
 |some .val=>match j8 P op with
  |some i=>if ic i=.val then some i else none
  |none=>none
 |some .eff=>match lu P op with
  |some i=>if ic i=.eff then some i else none
  |none=>none
 |_=>none
def gq(P:Program)(op:Op):Ins:=match j6 P op with
 |some i=>i
 |none=>match vt P op with
  |some i=>if ic i=.sp then i else .dead
  |none=>.dead
def HO(dsts:List (Option Nat)):Option (Nat×Bool)->Option (Option (Nat×Bool))
 |none=>some none
 |some (j,want)=>match dsts[j]? with
  |some (some d)=>some (some (d,want))
  |_=>none
def AB(P:Program)(N:Nat)(dsts:List (Option Nat))(o:Oper):Option Op2:=
 if dok N o.dst then (match HO dsts o.guard with
  |some g=>some ⟨o.dst,g,gq P o.op⟩
  |none=>none) else none
def lc(P:Program)(N:Nat)(dsts:List (Option Nat)):List Oper->Option (List Op2)
 |[]=>some []
 |o::l=>match AB P N dsts o,lc P N dsts l with
  |some o,some l=>some (o::l)
  |_,_=>none
def vpP(P:Program)(op:Op):Bool:=Hi op || (opk op==.pure&&(j6 P op).isSome)
theorem rQ (P:Program):VP (vpP P):=⟨fun op h=>by
 unfold vpP at h;rw[lM,eN] at h;rcases h with h|h
 ·exact CO h
 ·simpa using h.1,λop h=>by unfold vpP;rw[h];rfl⟩
def yx(P:Program)(ops:List Oper):Bool:=ops.any λo=>opk o.op==.other || (opk o.op==.pure&& !vpP P o.op)
def NC(P:Program)(ops:List Oper):List Nat:=
 let m:=Region.before ops.toArray
 let r:=List.range ops.length
 let sp:=r.filter λi=>!vpP P (ops.getD i default).op
 let C:=sp.foldl (λacc s=>acc++(r.filter λi=>vpP P (ops.getD i default).op&& !acc.contains i&& !sp.any λq=>dU m i q&& !acc.contains q)++[s]) []
 C++r.filter λi=>!C.contains i
def M7(P:Program)(N:Nat)(ops:List Oper):Bool:=
 (yx P ops || ops.any λo=>wN o.op==some .call)&&zJ (vpP P) N ops (NC P ops)
def svP(P:Program)(op:Op):Bool:=sv (vpP P) op
def lvP(P:Program)(op:Op)(T:Tm)(S:Hp):Option AV:=match op with
 |.lookup t m k ok=>match oI P t with
  |some (kt,et)=>match mkk P kt,gw P et with
   |some mk,some z=>lkS mk z ok (ev T m) (ev T k) S
   |_,_=>none
  |none=>none
 |_=>none
def bpF(P:Program)(b:Op->Bool)(l:Bool):BP where
 b:=b
 l:=l
 lv:=lvP P
 cg:=λ{op T T' S} h=>by
  cases op<;>first|rfl|skip
  rename_i t m k ok;unfold lvP;simp only;rw[h m (by simp[Op.operands]),h k (by simp[Op.operands])]
theorem v7{P:Program}{b:Op->Bool}{l:Bool}:uT P (bpF P b l):=λ_{op T S H nx K r} hl hr hs hk=>by
 cases op<;>first|(cases hl;done)|skip
 rename_i t m k ok;have hr:lvP P (.lookup t m k ok) T S=some r:=hr;unfold lvP at hr;simp only at hr;split at hr
 ·rename_i kt et ht;split at hr
  ·rename_i mk z hmk hz;unfold lkS at hr;split at hr
   ·rename_i bx hm;split at hr
    ·rename_i ks vs hb;split at hr
     ·rename_i hf;split at hr
      ·rename_i q hq;cases hr;exact qz ht hmk hz hm (hs _ _ hb) hf hq hk
      ·cases hr
     ·cases hr
    ·rename_i ks vs bs ck hb;split at hr
     ·rename_i hf;split at hr
      ·rename_i q hq;cases hr;exact wM ht hmk hz hm (hs _ _ hb) hf hq hk
      ·cases hr
     ·cases hr
    ·cases hr
   ·cases hr
  ·cases hr
 ·cases hr
def K3(P:Program)(ops:List Oper):List Nat:=
 let m:=Region.before ops.toArray
 let r:=List.range ops.length
 let sp:=r.filter λi=>!svP P (ops.getD i default).op
 let C:=sp.foldl (λacc s=>acc++(r.filter λi=>svP P (ops.getD i default).op&& !acc.contains i&& !sp.any λq=>dU m i q&& !acc.contains q)++[s]) []
 C++r.filter λi=>!C.contains i
def K7(P:Program)(N:Nat)(ops:List Oper):Bool:=
 (yx P ops || (ops.any λo=>wN o.op==some .call) || !drawOk false ops)&&(ops.all λo=>!kH o.op || (j6 P o.op).isSome)&&ry (vpP P) (bpF P (λ_=>false) false) N ops (K3 P ops)
def ik(P:Program)(bp:BP)(ops:List Oper)(k:Nat):Nat:=if (bp.b (ops.getD k default).op&&j5 (ops.getD k default).op)=true then 3 else if (bp.l&&tE (ops.getD k default).op)=true then 4 else if svP P (ops.getD k default).op=true then 0 else if gG bp ops k=true then 1 else 2
def xk(P:Program)(bp:BP)(ops:List Oper):List Nat:=
 let m:=Region.before ops.toArray
 let r:=List.range ops.length
 let v:=λi=>svP P (ops.getD i default).op || (bp.b (ops.getD i default).op&&j5 (ops.getD i default).op) || (bp.l&&tE (ops.getD i default).op)
 let sp:=r.filter λi=>!v i
 let C:=sp.foldl (λacc s=>acc++(r.filter λi=>v i&& !acc.contains i&& !sp.any λq=>dU m i q&& !acc.contains q)++[s]) []
 C++r.filter λi=>!C.contains i
def xE(P:Program)(bp:BP)(N:Nat)(ops:List Oper):Bool:=
 (ops.all λo=>!(kH o.op || (bp.b o.op&&j5 o.op)) || (j6 P o.op).isSome)&&ry (vpP P) bp N ops (xk P bp ops)
def bpA(P:Program)(op:Op):Bool:=match j6 P op with
 |some (.bldS 1 _ _ _)=>true
 |_=>false
def KI(P:Program)(N:Nat)(ops:List Oper):Bool:=
 (ops.any λo=>bpA P o.op)&&(ops.any λo=>j5 o.op&& !bpA P o.op)&&xE P (bpF P (bpA P) false) N ops
def K8(P:Program)(N:Nat)(ops:List Oper):Bool:=
 (ops.any λo=>tE o.op)&&(drawOk false ops || drawOk true ops)&&xE P (bpF P (λ_=>false) true) N ops
def M0:Op->Bool
 |.alloc _=>true
 |_=>false
def Sn(o:Op2):Bool:=match o with
 |⟨_,_,.call (.t _) _⟩=>true
 |_=>false
def LZ(ops:List Oper):List (List Nat):=(List.range ops.length).map λi=>(List.range ops.length).filter λk=>dU (Region.before ops.toArray) i k
def OA(ops:List Oper):Bool:=xo ops&&(List.range ops.length).any λi=>(List.range ops.length).any λj=>decide (i<j)&&M0 (ops.getD i default).op&&M0 (ops.getD j default).op&& !dU (Region.before ops.toArray) j i
def NV(o:Op2):Bool:=match o with
 |⟨_,_,.app ..⟩=>true
 |_=>false
def nA(P:Program)(N:Nat):Code->Option C2
 |.skip=>some .skip
 |.label _=>some .skip
 |.region _ ops draw=>match lc P N (ops.toList.map (·.dst)) ops.toList with
  |some l=>if draw=true then(if KI P N ops.toList=true then some (.mixS 9 l ((xk P (bpF P (bpA P) false) ops.toList).map λk=>(k,ik P (bpF P (bpA P) false) ops.toList k))) else if M7 P N ops.toList=true then some (.mix (if yx P ops.toList=true then 9 else if drawOk false ops.toList=true then 1 else if drawOk true ops.toList=true then 2 else 9) l (NC P ops.toList)) else if K7 P N ops.toList=true then some (.mixS (if yx P ops.toList=true then 9 else if drawOk false ops.toList=true then 1 else if drawOk true ops.toList=true then 2 else 9) l ((K3 P ops.toList).map λk=>(k,ik P (bpF P (λ_=>false) false) ops.toList k))) else if K8 P N ops.toList=true then some (.mixS 9 l ((xk P (bpF P (λ_=>false) true) ops.toList).map λk=>(k,ik P (bpF P (λ_=>false) true) ops.toList k))) else if (l.any Sn&&OA ops.toList)=true then some (.anyI l (LZ ops.toList)) else if drawOk false ops.toList=true then some (.ops 1 l) else if (l.any NV&&xE P (bpF P (λ_=>true) false) N ops.toList)=true then some (.mixS 9 l ((xk P (bpF P (λ_=>true) false) ops.toList).map λk=>(k,ik P (bpF P (λ_=>true) false) ops.toList k))) else if drawOk true ops.toList=true then some (.ops 2 l) else if xE P (bpF P (λ_=>true) false) N ops.toList=true then some (.mixS 9 l ((xk P (bpF P (λ_=>true) false) ops.toList).map λk=>(k,ik P (bpF P (λ_=>true) false) ops.toList k))) else none) else some (.ops 0 l)
  |none=>none
 |.seq a b=>match nA P N a,nA P N b with
  |some a,some b=>some (.seq a b)
  |_,_=>none
 |.cond c a b=>match nA P N a,nA P N b with
  |some a,some b=>some (.cond (.of c) a b)
  |_,_=>none
 |.block id b=>match nA P N b with
  |some b=>some (.block id b)
  |none=>none
 |.loop b=>match nA P N b with
  |some b=>some (.loop b)
  |none=>none
 |.exit id=>some (.exit id)
 |.ret=>some .ret
 | .rangeFunc g ps a b=>if ps.toList.all (fun t=>decide (t < N))=true then (match nA P N a,nA P N b with
  |some a,some b=>some (.rangeF (.of g) ps.toList a b)
  |_,_=>none) else none
 |_=>none
theorem pT{α:Type}{x:Option α}{A B:α->Prop}(hab:∀a,A a->B a)(h:ax x A):ax x B:=by
 cases x with
 |none=>exact h
 |some a=>exact hab a h
theorem G3{P:Program}{dm:DM}{op:Op}{i:Ins}{T:Tm}(hc:(j8 P op=some i/\opk op≠.write)\/lu P op=some i)(h:dm2 dm T i=true):uv dm T op=true:=by
 cases dm with
 |text=>rfl
 |draw=>rfl
 |fresh m=>
  rcases hc with⟨hc,hk⟩|hc
  ·cases op with
   |load t a=>
    simp only[j8] at hc;split at hc
    ·split at hc
     ·split at hc
      ·cases hc;simp only[dm2,tv,bT] at h;simp only[uv,tg];exact h
      ·cases hc
     ·cases hc;simp only[dm2,tv,bT] at h;simp only[uv,tg];exact h
    ·cases hc
   |store t p x=>exact absurd rfl hk
   |_=>simpa[uv,tg] using hk
  ·cases op with
   |store t p x=>
    simp only[lu] at hc;split at hc
    ·cases hc;simp only[dm2,wB,bT] at h;simp only[uv,tg];exact h
    ·cases hc
   |alloc e=>rfl
   |box e x=>rfl
   |buildSlice t len parts=>rfl
   |makeSlice t l c=>rfl
   |call c=>
    obtain⟨callee,args,argTypes⟩:=c;cases callee with
    |builtin b=>
     obtain⟨args⟩:=args;obtain⟨argTypes⟩:=argTypes;cases b with
     |append=>
      rcases args with _|⟨x,_|⟨y,_|⟨z,l⟩⟩⟩
      ·cases hc
      ·cases hc
      ·rcases argTypes with _|⟨t,_|⟨u,_|⟨v,l⟩⟩⟩
       ·cases hc
       ·cases hc
       ·simp only[lu] at hc;split at hc
        ·cases hc
        ·split at hc
         ·cases hc;cases h
         ·split at hc
          ·split at hc
           ·split at hc
            ·cases hc;cases h
            ·cases hc
           ·cases hc
          ·cases hc
       ·cases hc
      ·cases hc
     |_=>cases hc
    |_=>cases hc
   |_=>cases hc
theorem Ff{P:Program}{op:Op}{sz bytes:Nat}{s x:Opd}(h:lu P op=some (.app sz bytes s x)):∃s0 x0 tS tX e,op=.call {callee:=.builtin .append,args:=⟨[s0,x0]⟩,argTypes:=⟨[tS,tX]⟩}/\gr P tS=some e/\
    (tok P e=true/\tok P tX=true/\lS P tX=none/\0<P.cellsOf e/\zok P e=true)/\sz=P.cellsOf e/\bytes=fm P e/\s=.of s0/\x=.of x0:=by
 unfold lu at h;split at h
 ·split at h<;>cases h
 ·cases h
 ·split at h
  ·cases h
  ·split at h
   ·split at h
    ·split at h<;>cases h
    ·cases h
   ·cases h
 ·split at h
  ·cases h
  ·split at h
   ·split at h<;>cases h
   ·cases h
 ·split at h<;>cases h
 ·rename_i s0 x0 tS tX;split at h
  ·cases h
  ·rename_i e he;split at h
   ·rename_i hc;cases h;exact⟨s0,x0,tS,tX,e,rfl,he,hc,rfl,rfl,rfl,rfl⟩
   ·split at h
    ·split at h
     ·split at h<;>cases h
     ·cases h
    ·cases h
 ·cases h
theorem Jb{P:Program}{op:Op}{i:Ins}{T:Tm}{H:Hp}{nx:Nat}{K:AV->Hp->Nat->Prop}(hj:lu P op=some i)(h:Cy i T H nx K):eY P op T H nx K:=by
 unfold Cy at h;split at h
 ·obtain⟨b,n,off,len,k,cs,new,h1,h2,h3,h4,h5,h6,h7,h8,h9,k1,k2⟩:=h;obtain⟨s0,x0,tS,tX,e,rfl,he,hc,rfl,rfl,rfl,rfl⟩:=Ff hj;rw[bT] at h1 h6;exact BQ he hc h1 h2 h3 h4 h5 h6 h7 h8 h9 k1 k2
 ·exact h.elim
theorem JN{P:Program}{dm:DM}{op:Op}{i:Ins}{T:Tm}{H:Hp}{nx:Nat}{K:AV->Hp->Nat->Prop}(hc:j6 P op=some i)(h:bh P dm i T H nx K):tB P dm op T H nx K:=by
 unfold tB;unfold j6 at hc;split at hc
 ·rename_i hk;split at hc
  ·rename_i f args hf;cases hc
   have h:(ax (qG (ov T (.of f))) fun y=>match (generalizing:=false) dm.isText with
    |false=>aX P y.1 ((args.toList.map Opd.of).map (ov T)++y.2) H λr=>K r H nx
    |true=>Fn P y.1 ((args.toList.map Opd.of).map (ov T)++y.2) H nx K)\/(dm.isText=true/\((∃b,ov T (.of f)=.yld b/\Yl P b ((args.toList.map Opd.of).map (ov T)) H nx K)\/ ∃g fs,ov T (.of f)=.bfn g fs/\Fn P g (fs++(args.toList.map Opd.of).map (ov T)) H nx K)):=h
   rw[bT,l6] at h;obtain⟨ts,rfl⟩:=oX hf;rcases h with h|⟨h1,⟨b,h2,h3⟩|⟨g,fs,h2,h3⟩⟩
   ·exact .inl h
   ·exact .inr ⟨h1,Ad h2 h3⟩
   ·exact .inr ⟨h1,zU h2 h3⟩
  ·cases hc
 ·rename_i hk;split at hc
  ·rename_i j hj;split at hc
   ·rename_i hic;cases hc
    have hoc:opc op=.val/\opk op≠.write:=by
     unfold wN at hk;split at hk
     ·cases hk
     ·rename_i hn;unfold opc;split
      ·rename_i a b c;exact absurd rfl (hn _ _ _)
      ·split at hk<;>rename_i hkk<;>(try rw[hkk])<;>first|(cases hk;done)|(exact⟨rfl,by decide⟩)
    unfold bh at h;rw[hic] at h;simp only at h;left;unfold l7;rw[hoc.1];simp only;refine⟨G3 (.inl ⟨hj,hoc.2⟩) h.1,?_⟩;have h:=h.2;cases hv:bw T H i with
    |none=>rw[hv] at h;exact h.elim
    |some r=>rw[ym hj hv];rw[hv] at h;exact h
   ·cases hc
  ·cases hc
 ·rename_i hk;split at hc
  ·rename_i j hj;split at hc
   ·rename_i hic;cases hc
    have hoc:opc op=.eff:=by
     unfold wN at hk;split at hk
     ·cases hk
     ·rename_i hn;unfold opc;split
      ·rename_i a b c;exact absurd rfl (hn _ _ _)
      ·split at hk<;>rename_i hkk<;>(try rw[hkk])<;>cases hk
    unfold bh at h;rw[hic] at h;simp only at h;rcases h with h|⟨h0,h⟩
    rotate_left
    ·exact .inr ⟨h0,Jb hj h⟩
    left;unfold l7;rw[hoc];simp only;refine⟨G3 (.inr hj) h.1,?_⟩;have h:=h.2;cases hv:kQ T H nx i with
    |none=>rw[hv] at h;exact h.elim
    |some r=>rw[Dy hj hv];rw[hv] at h;exact h
   ·cases hc
  ·cases hc
 ·cases hc
theorem ut{P:Program}{dm:DM}{op:Op}{T:Tm}{H:Hp}{nx:Nat}{K:AV->Hp->Nat->Prop}(h:bh P dm (gq P op) T H nx K):tB P dm op T H nx K:=by
 unfold gq at h;split at h
 ·rename_i i hi;exact JN hi h
 ·split at h
  ·rename_i i hi;split at h
   ·rename_i hic;unfold bh at h;rw[hic] at h;exact .inr ⟨h.1,LD hi h.2⟩
   ·exact h.2.elim
  ·exact h.2.elim
theorem Gy{dsts:List (Option Nat)}{T:Tm}{g:Option (Nat×Bool)}{g':Option (Nat×Bool)}(h:HO dsts g=some g'):gval T dsts g=g2 T g':=by
 unfold HO at h;split at h
 ·cases h;rfl
 ·split at h
  ·rename_i d hd;cases h;simp only[gval,hd,g2];generalize T d=v;cases v<;>try rfl
  ·cases h
theorem gH{P:Program}{N:Nat}{dm:DM}{dsts:List (Option Nat)}{K:SP}:∀(l:List Oper)(l2:List Op2){T:Tm}{H:Hp}{nx:Nat},lc P N dsts l=some l2->ai P dm l2 T H nx K->rI P N dm dsts l T H nx K
 |[],l2,T,H,nx,hc,h=>by cases hc;exact h
 |o::l,l2,T,H,nx,hc,h=>by
  simp only[lc] at hc;split at hc
  ·rename_i o2 r2 ho hr;cases hc;unfold AB at ho;split at ho
   ·rename_i hd;split at ho
    ·rename_i g hg;cases ho;refine⟨hd,?_⟩;rw[Gy hg];have h:aS (g2 T g) (bh P dm (gq P o.op) T H nx λr H nx=>ai P dm r2 (aP T o.dst r) H nx K) (ai P dm r2 (aP T o.dst (.tup [])) H nx K):=h;cases hgv:g2 T g with
     |none=>rw[hgv] at h;exact h.elim
     |some b=>
      rw[hgv] at h;cases b with
      |true=>
       have h:bh P dm (gq P o.op) T H nx λr H nx=>ai P dm r2 (aP T o.dst r) H nx K:=h;exact ko (ut h) (λr H nx hh=>gH l r2 hr hh)
      |false=>exact gH l r2 hr h
    ·cases ho
   ·cases ho
  ·cases hc
theorem Hd{P:Program}{op:Op}{T:Tm}{H:Hp}{nx:Nat}{K:AV->Hp->Nat->Prop}(h:bh P .text (gq P op) T H nx K):j7 (vpP P) P op T H nx K:=by
 unfold j7;split
 ·rename_i hk0;have hk:=(rQ P).pure _ hk0
  have hsome:(j6 P op).isSome=true:=by
   unfold vpP at hk0;rw[lM,eN] at hk0;rcases hk0 with h|h
   ·cases op<;>first|(cases h;done)|rfl
   ·exact h.2
  obtain⟨i,hi⟩:=E8.1 hsome;unfold gq at h;rw[hi] at h;have h:bh P .text i T H nx K:=h;unfold j6 at hi
  have hic:wN op=some .val:=by
   unfold wN;split
   ·simp[opk] at hk
   ·rw[hk]
  rw[hic] at hi;simp only at hi;split at hi
  ·rename_i j hj;split at hi
   ·rename_i hc;cases hi;unfold bh at h;rw[hc] at h;obtain⟨_,h⟩:=h;obtain⟨r,hr,hk⟩:=dK h;rw[ym hj hr];exact hk
   ·cases hi
  ·cases hi
 ·exact ut h
theorem rU{P:Program}{N:Nat}{dsts:List (Option Nat)}:∀{l:List Oper}{l2:List Op2},lc P N dsts l=some l2->∀{k:Nat}{o:Oper},l[k]?=some o->∃o2,l2[k]?=some o2/\AB P N dsts o=some o2
 |[],l2,h,k,o,ho=>by simp at ho
 |x::l,l2,h,k,o,ho=>by
  simp only[lc] at h;split at h
  ·rename_i o2 r2 h1 h2;cases h;cases k with
   |zero=>simp at ho;subst ho;exact⟨o2,rfl,h1⟩
   |succ k=>
    obtain⟨o3,h3,h4⟩:=rU h2 (k:=k) (o:=o) (by simpa using ho);exact⟨o3,by simpa using h3,h4⟩
  ·cases h
theorem rc{P:Program}{N:Nat}{ops:List Oper}{l:List Op2}(hl:lc P N (ops.map (·.dst)) ops=some l){K:SP}:∀(C:List Nat),(∀k∈C,k<ops.length)->∀{T:Tm}{H:Hp}{nx:Nat},
    ai P .text (C.map λk=>l.getD k ⟨none,none,.dead⟩) T H nx K->nk (vpP P) P N (ops.map (·.dst)) (C.map λk=>ops.getD k default) T H nx K
 |[],_,_,_,_,h=>h
 |k::C,hC,T,H,nx,h=>by
  have hk:=hC k (by simp);obtain⟨o,ho⟩:=di hk;obtain⟨o2,ho2,hc⟩:=rU hl ho;have e1:ops.getD k default=o:=cX ho;have e2:l.getD k ⟨none,none,.dead⟩=o2:=by simp[List.getD,ho2]
  rw[fY,e1];rw[fY,e2] at h;unfold AB at hc;split at hc
  ·rename_i hd;split at hc
   ·rename_i g hg;cases hc;refine⟨hd,?_⟩;rw[Gy hg];have h:aS (g2 T g) (bh P .text (gq P o.op) T H nx λr H nx=>ai P .text (C.map λk=>l.getD k ⟨none,none,.dead⟩) (aP T o.dst r) H nx K) (ai P .text (C.map λk=>l.getD k ⟨none,none,.dead⟩) (aP T o.dst (.tup [])) H nx K):=h;cases hgv:g2 T g with
    |none=>rw[hgv] at h;exact h.elim
    |some b=>
     rw[hgv] at h;cases b with
     |true=>
      have h:bh P .text (gq P o.op) T H nx λr H nx=>ai P .text (C.map λk=>l.getD k ⟨none,none,.dead⟩) (aP T o.dst r) H nx K:=h;exact qe (Hd h) (λr H nx hh=>rc hl C (λq hq=>hC q (by simp[hq])) hh)
     |false=>exact rc hl C (λq hq=>hC q (by simp[hq])) h
   ·cases hc
  ·cases hc
theorem KH{P:Program}{op:Op}{T:Tm}{r:AV}(hb:j5 op=true)(hc:(j6 P op).isSome=true)(h:sk T (gq P op)=some r):Af P T op=some r:=by
 obtain⟨i,hi⟩:=E8.1 hc;have hcd:gq P op=i:=by unfold gq;rw[hi]
 rw[hcd] at h;cases op<;>first|(cases hb;done)|skip
 rename_i t len parts
 have hi2:lu P (.buildSlice t len parts)=some i:=by
  unfold j6 at hi;have:wN (.buildSlice t len parts)=some .eff:=rfl;rw[this] at hi;simp only at hi;split at hi
  ·rename_i j hj;split at hi
   ·cases hi;exact hj
   ·cases hi
  ·cases hi
 unfold Af;rw[if_pos hb];unfold sk at h;split at h
 ·rename_i sz len' z parts';obtain⟨n,H',k,cs,sz1,len1,es,h1,h2⟩:=sE h;rw[Dy hi2 h1];rw[h1] at h;exact h
 ·cases h
theorem Lk{P:Program}{op:Op}{T:Tm}{S:Hp}{r:AV}(hl:tE op=true)(h:ilk T S (gq P op)=some r):lvP P op T S=some r:=by
 cases op<;>first|(cases hl;done)|skip
 rename_i t m k ok
 have e:gq P (.lookup t m k ok)=match vt P (.lookup t m k ok) with
  |some i=>if ic i=.sp then i else .dead
  |none=>.dead:=rfl
 rw[e] at h;simp only[vt] at h;unfold lvP;simp only;cases ht:oI P t with
 |none=>rw[ht] at h;cases h
 |some p=>
  obtain⟨kt,et⟩:=p;rw[ht] at h;simp only at h |-;cases hk:mkk P kt with
  |none=>rw[hk] at h;cases h
  |some mk=>
   cases hz:gw P et with
   |none=>rw[hk,hz] at h;cases h
   |some z=>
    rw[hk,hz] at h;simp only[ic,if_true,ilk,bT] at h;exact h
theorem vH{P:Program}{bp:BP}(hlv:bp.lv=lvP P){N:Nat}{ops:List Oper}{l:List Op2}(hl:lc P N (ops.map (·.dst)) ops=some l)(hld:(ops.all λo=>!kH o.op || (j6 P o.op).isSome)=true)(hbd:(ops.all λo=>!(bp.b o.op&&j5 o.op) || (j6 P o.op).isSome)=true){S:Hp}{K:SP}:∀(C:List Nat),(∀k∈C,k<ops.length)->∀{T:Tm}{H:Hp}{nx:Nat},
    bn P S (C.map λk=>(l.getD k ⟨none,none,.dead⟩,ik P bp ops k)) T H nx K->i5 (vpP P) bp P N (ops.map (·.dst)) S (C.map (eK bp ops)) T H nx K
 |[],_,_,_,_,h=>h
 |k::C,hC,T,H,nx,h=>by
  have hk:=hC k (by simp);obtain⟨o,ho⟩:=di hk;obtain⟨o2,ho2,hc⟩:=rU hl ho;have e1:ops.getD k default=o:=cX ho;have e2:l.getD k ⟨none,none,.dead⟩=o2:=by simp[List.getD,ho2]
  have hrec:=λ(T:Tm)(H:Hp)(nx:Nat) hh=>vH hlv hl hld hbd (S:=S) (K:=K) C (λq hq=>hC q (by simp[hq])) (T:=T) (H:=H) (nx:=nx) hh;rw[fY];rw[fY,e2] at h;have ep:eK bp ops k=(o,gG bp ops k):=by unfold eK;rw[e1]
  have ek:ik P bp ops k=if (bp.b o.op&&j5 o.op)=true then 3 else if (bp.l&&tE o.op)=true then 4 else if sv (vpP P) o.op=true then 0 else if gG bp ops k=true then 1 else 2:=by unfold ik svP;rw[e1]
  rw[ep];rw[ek] at h;unfold AB at hc;split at hc
  case isFalse=>cases hc
  rename_i hd;split at hc
  case h_2=>cases hc
  rename_i g hg;cases hc;refine⟨hd,?_⟩;show aS (gval T (ops.map (·.dst)) o.guard) (gM (vpP P) bp P S o.op (gG bp ops k) T H nx λr H' nx'=>i5 (vpP P) bp P N (ops.map (·.dst)) S (C.map (eK bp ops)) (aP T o.dst r) H' nx' K) (i5 (vpP P) bp P N (ops.map (·.dst)) S (C.map (eK bp ops)) (aP T o.dst (.tup [])) H nx K);rw[Gy hg];by_cases hbl:(bp.b o.op&&j5 o.op)=true
  ·rw[if_pos hbl] at h;have h:aS (g2 T g) (ax (sk T (gq P o.op)) λr=>bn P S (C.map λk=>(l.getD k ⟨none,none,.dead⟩,ik P bp ops k)) (aP T o.dst r) H nx K) (bn P S (C.map λk=>(l.getD k ⟨none,none,.dead⟩,ik P bp ops k)) (aP T o.dst (.tup [])) H nx K):=h;cases hgv:g2 T g with
   |none=>rw[hgv] at h;exact h.elim
   |some b=>
    rw[hgv] at h;cases b with
    |false=>exact hrec _ _ _ h
    |true=>
     have h:ax (sk T (gq P o.op)) λr=>bn P S (C.map λk=>(l.getD k ⟨none,none,.dead⟩,ik P bp ops k)) (aP T o.dst r) H nx K:=h;show gM (vpP P) bp P S o.op (gG bp ops k) T H nx _;unfold gM;rw[if_pos (show nv (vpP P) bp o.op=true by unfold nv;rw[hbl,Bool.or_true,Bool.true_or])];obtain⟨r,hr,hh⟩:=dK h;rw[eN] at hbl
     have hsome:(j6 P o.op).isSome=true:=by
      have:=dS.1 hbd o (hJ ho);rw[hbl.1,hbl.2] at this;simpa using this
     unfold tp;rw[if_pos (show(bp.b o.op&&j5 o.op)=true by rw[hbl.1,hbl.2];rfl),KH hbl.2 hsome hr];exact hrec _ _ _ hh
  rw[if_neg hbl] at h;by_cases hlk:(bp.l&&tE o.op)=true
  ·rw[if_pos hlk] at h;have h:aS (g2 T g) (ax (ilk T S (gq P o.op)) λr=>bn P S (C.map λk=>(l.getD k ⟨none,none,.dead⟩,ik P bp ops k)) (aP T o.dst r) H nx K) (bn P S (C.map λk=>(l.getD k ⟨none,none,.dead⟩,ik P bp ops k)) (aP T o.dst (.tup [])) H nx K):=h;cases hgv:g2 T g with
   |none=>rw[hgv] at h;exact h.elim
   |some b=>
    rw[hgv] at h;cases b with
    |false=>exact hrec _ _ _ h
    |true=>
     have h:ax (ilk T S (gq P o.op)) λr=>bn P S (C.map λk=>(l.getD k ⟨none,none,.dead⟩,ik P bp ops k)) (aP T o.dst r) H nx K:=h;show gM (vpP P) bp P S o.op (gG bp ops k) T H nx _;unfold gM;rw[if_pos (show nv (vpP P) bp o.op=true by unfold nv;rw[hlk,Bool.or_true])];obtain⟨r,hr,hh⟩:=dK h;unfold tp;rw[if_neg hbl,if_pos hlk,hlv];rw[eN] at hlk;rw[Lk hlk.2 hr];exact hrec _ _ _ hh
  have hnv:nv (vpP P) bp o.op=sv (vpP P) o.op:=by
   unfold nv;cases hb:(bp.b o.op&&j5 o.op) with
   |true=>exact absurd hb hbl
   |false=>
    cases hb2:(bp.l&&tE o.op) with
    |true=>exact absurd hb2 hlk
    |false=>rw[Bool.or_false,Bool.or_false]
  have hnval:tp P bp T S o.op=dG P T S o.op:=by unfold tp;rw[if_neg hbl,if_neg hlk]
  rw[if_neg hlk] at h;by_cases hs:sv (vpP P) o.op=true
  ·rw[if_pos hs] at h;have h:aS (g2 T g) (ax (bw T S (gq P o.op)) λr=>bn P S (C.map λk=>(l.getD k ⟨none,none,.dead⟩,ik P bp ops k)) (aP T o.dst r) H nx K) (bn P S (C.map λk=>(l.getD k ⟨none,none,.dead⟩,ik P bp ops k)) (aP T o.dst (.tup [])) H nx K):=h;cases hgv:g2 T g with
   |none=>rw[hgv] at h;exact h.elim
   |some b=>
    rw[hgv] at h;cases b with
    |false=>exact hrec _ _ _ h
    |true=>
     have h:ax (bw T S (gq P o.op)) λr=>bn P S (C.map λk=>(l.getD k ⟨none,none,.dead⟩,ik P bp ops k)) (aP T o.dst r) H nx K:=h;show gM (vpP P) bp P S o.op (gG bp ops k) T H nx _;unfold gM;rw[if_pos (hnv.trans hs),hnval];obtain⟨r,hr,hh⟩:=dK h
     have hsome:(j6 P o.op).isSome=true:=by
      unfold sv at hs;rw[lM] at hs;rcases hs with hs|hs
      ·unfold vpP at hs;rw[lM,eN] at hs;rcases hs with h|h
       ·revert h;cases o.op<;>intro h<;>first|(cases h;done)|rfl
       ·exact h.2
      ·have:=dS.1 hld o (hJ ho);rw[hs] at this;simpa using this
     obtain⟨i,hi⟩:=E8.1 hsome;have hcd:gq P o.op=i:=by unfold gq;rw[hi]
     rw[hcd] at hr
     have hic:wN o.op=some .val:=by
      unfold sv at hs;rw[lM] at hs;rcases hs with hs|hs
      ·have hk:=(rQ P).pure _ hs;unfold wN;split
       ·rename_i heq;rw[heq] at hk;simp[opk] at hk
       ·rw[hk]
      ·revert hs;cases o.op<;>intro hs<;>first|(cases hs;done)|rfl
     unfold j6 at hi;rw[hic] at hi;simp only at hi;split at hi
     ·rename_i j hj;split at hi
      ·cases hi;rw[ym hj hr];exact hrec _ _ _ hh
      ·cases hi
     ·cases hi
  ·rw[if_neg hs] at h
   obtain⟨q,hq,hq2,hq3,hq4⟩:∃q,(if gG bp ops k=true then 1 else 2)=q+1/\(gG bp ops k=true->q=0)/\q≠2/\q≠3:=by
    by_cases hkk:gG bp ops k=true
    ·exact⟨0,by rw[if_pos hkk],λ_=>rfl,by omega,by omega⟩
    ·exact⟨1,by rw[if_neg hkk],λh=>absurd h hkk,by omega,by omega⟩
   rw[hq] at h;simp only[bn,if_neg hq3,if_neg hq4] at h;have h:aS (g2 T g) (bh P .text (gq P o.op) T H nx λr H' nx'=>(q=0->Sub S H')/\bn P S (C.map λk=>(l.getD k ⟨none,none,.dead⟩,ik P bp ops k)) (aP T o.dst r) H' nx' K) (bn P S (C.map λk=>(l.getD k ⟨none,none,.dead⟩,ik P bp ops k)) (aP T o.dst (.tup [])) H nx K):=h;cases hgv:g2 T g with
   |none=>rw[hgv] at h;exact h.elim
   |some b=>
    rw[hgv] at h;cases b with
    |false=>exact hrec _ _ _ h
    |true=>
     have h:bh P .text (gq P o.op) T H nx λr H' nx'=>(q=0->Sub S H')/\bn P S (C.map λk=>(l.getD k ⟨none,none,.dead⟩,ik P bp ops k)) (aP T o.dst r) H' nx' K:=h;show gM (vpP P) bp P S o.op (gG bp ops k) T H nx _;unfold gM;rw[if_neg (by rw[hnv];exact hs)];exact ko (ut h) (λr H nx hh=>⟨λhkk=>hh.1 (hq2 hkk),hrec _ _ _ hh.2⟩)
theorem tT{P:Program}{bp:BP}(hbp:uT P bp)(hlv:bp.lv=lvP P){N:Nat}{rid:Nat}{ops:Array Oper}{l:List Op2}(hl:lc P N (ops.toList.map (·.dst)) ops.toList=some l)(hmx:xE P bp N ops.toList=true){T:Tm}{H:Hp}{nx:Nat}{K:CP}
    (h:aF P (.mixS 9 l ((xk P bp ops.toList).map λk=>(k,ik P bp ops.toList k))) T H nx K):awp P N (.region rid ops true) T H nx K:=by
 unfold xE at hmx;rw[eN] at hmx;obtain⟨hld,hok⟩:=hmx;rcases h with⟨h9,_⟩|⟨T,H,nx,Hf,S,hg,hs,h⟩
 ·exact absurd rfl h9
 ·rw[List.map_map] at h;rw[dS] at hld;refine⟨T,H,nx,Hf,hg,.inr (.inr (.inl ⟨_,bp,_,S,rQ P,hbp,hok,hs,vH hlv hl ?_ ?_ _ (r8 hok).lt h⟩))⟩
  ·rw[dS];intro o ho;have:=hld o ho;cases h1:kH o.op with
   |false=>rfl
   |true=>rw[h1] at this;simpa using this
  ·rw[dS];intro o ho;have:=hld o ho;cases h1:(bp.b o.op&&j5 o.op) with
   |false=>rfl
   |true=>rw[h1] at this;simpa using this
theorem x6{P:Program}{N:Nat}{dsts:List (Option Nat)}:∀{ops:List Oper}{l:List Op2},lc P N dsts ops=some l->l.length=ops.length
 |[],l,h=>by cases h;rfl
 |o::ops,l,h=>by
  unfold lc at h;split at h
  ·rename_i o2 l2 _ h2;cases h;rw[il,il,x6 h2]
  ·cases h
theorem MX{P:Program}{N:Nat}{rid:Nat}{ops:Array Oper}{l:List Op2}(hl:lc P N (ops.toList.map (·.dst)) ops.toList=some l)(hok:xo ops.toList=true){T:Tm}{H:Hp}{nx:Nat}{K:CP}
    (h:aF P (.anyI l (LZ ops.toList)) T H nx K):awp P N (.region rid ops true) T H nx K:=by
 obtain⟨T,H,nx,Hf,I,hg,h0,h1,h2⟩:=h;have hlen:l.length=ops.toList.length:=x6 hl;refine⟨T,H,nx,Hf,hg,.inr (.inr (.inr (.inr ⟨I,hok,⟨h0,λi L T H nx hi hL hb hI=>?_,λL T H nx hall hI=>h2 L T H nx (λk hk=>hall k (by omega)) hI⟩⟩)))⟩
 have h3:=h1 i L T H nx (by omega) hL (fun k hk=>by
  unfold LZ at hk;rw[mY,kf,List.getElem?_range hi] at hk;simp only[nw,tw,kW,gI] at hk;exact hb k hk.1 hk.2) hI
 exact Bo (rQ P) (rc hl [i] (λk hk=>by rw[fX.1 hk];exact hi) h3)
theorem iz{P:Program}{N:Nat}(hm:P.follows .mixedOrders=true):∀(c:Code)(c2:C2){T:Tm}{H:Hp}{nx:Nat}{K:CP},nA P N c=some c2->aF P c2 T H nx K->awp P N c T H nx K
 |.skip,c2,_,_,_,_,hc,h=>by cases hc;exact h
 |.label _,c2,_,_,_,_,hc,h=>by cases hc;exact h
 |.exit _,c2,_,_,_,_,hc,h=>by cases hc;exact h
 |.ret,c2,_,_,_,_,hc,h=>by cases hc;exact h
 |.region _ ops draw,c2,_,_,_,_,hc,h=>by
  simp only[nA] at hc;split at hc
  ·rename_i l hl;cases draw with
   |true=>
    simp only[if_true] at hc;split at hc
    ·rename_i hmx;cases hc;unfold KI at hmx;rw[eN] at hmx;exact tT v7 rfl hl hmx.2 h
    split at hc
    ·rename_i hmx;cases hc;unfold M7 at hmx;rw[eN] at hmx;obtain⟨_,hok⟩:=hmx;rcases h with⟨h9,T,H,nx,Hf,hg,h⟩|⟨T,H,nx,Hf,hg,h⟩
     ·refine⟨T,H,nx,Hf,hg,.inl ?_⟩;split at h9
      ·exact absurd rfl h9
      ·rename_i ho;rw[if_neg ho] at h;split at h9
       ·rename_i hd;rw[if_pos hd] at h |-;exact gH _ _ hl h
       ·rename_i hd;rw[if_neg hd] at h |-;split at h9
        ·rename_i hd2;rw[if_pos hd2] at h;exact⟨hd2,gH _ _ hl h⟩
        ·exact absurd rfl h9
     ·exact⟨T,H,nx,Hf,hg,.inr (.inl ⟨_,_,rQ P,hok,rc hl _ (Bi hok).lt h⟩)⟩
    ·split at hc
     ·rename_i hmx;cases hc;unfold K7 at hmx;rw[eN,eN] at hmx;obtain⟨⟨_,hld⟩,hok⟩:=hmx;rcases h with⟨h9,T,H,nx,Hf,hg,h⟩|⟨T,H,nx,Hf,S,hg,hs,h⟩
      ·refine⟨T,H,nx,Hf,hg,.inl ?_⟩;split at h9
       ·exact absurd rfl h9
       ·rename_i ho;rw[if_neg ho] at h;split at h9
        ·rename_i hd;rw[if_pos hd] at h |-;exact gH _ _ hl h
        ·rename_i hd;rw[if_neg hd] at h |-;split at h9
         ·rename_i hd2;rw[if_pos hd2] at h;exact⟨hd2,gH _ _ hl h⟩
         ·exact absurd rfl h9
      ·rw[List.map_map] at h;exact⟨T,H,nx,Hf,hg,.inr (.inr (.inl ⟨_,bpF P (λ_=>false) false,_,S,rQ P,v7,hok,hs,vH rfl hl hld (dS.2 λ_ _=>rfl) _ (r8 hok).lt h⟩))⟩
     split at hc
     ·rename_i hmx;cases hc;unfold K8 at hmx;rw[eN] at hmx;exact tT v7 rfl hl hmx.2 h
     split at hc
     ·rename_i hmx;cases hc;unfold OA at hmx;rw[eN,eN] at hmx;exact MX hl hmx.2.1 h
     split at hc
     ·rename_i hd;cases hc;obtain⟨T,H,nx,Hf,hg,h⟩:=h;refine⟨T,H,nx,Hf,hg,?_⟩;simp only;rw[if_pos hd];exact .inl (gH _ _ hl h)
     ·rename_i hd;split at hc
      ·rename_i hmx;cases hc;rw[eN] at hmx;exact tT v7 rfl hl hmx.2 h
      split at hc
      ·rename_i hd2;cases hc;obtain⟨T,H,nx,Hf,hg,h⟩:=h;refine⟨T,H,nx,Hf,hg,?_⟩;simp only;rw[if_neg hd];exact .inl ⟨hd2,gH _ _ hl h⟩
      ·split at hc
       ·rename_i hmx;cases hc;exact tT v7 rfl hl hmx h
       ·cases hc
   |false=>
    simp only[dZ,if_false] at hc;cases hc;obtain⟨T,H,nx,Hf,hg,h⟩:=h;exact⟨T,H,nx,Hf,hg,gH _ _ hl h⟩
  ·cases hc
 |.seq a b,c2,_,_,_,K,hc,h=>by
  simp only[nA] at hc;split at hc
  ·rename_i a2 b2 ha hb;cases hc;refine f9 a (iz hm a a2 ha h) (λe T H nx h=>?_);cases e with
   |normal=>exact iz hm b b2 hb h
   |exit i=>exact h
   |ret=>exact h
  ·cases hc
 |.cond c a b,c2,_,_,_,K,hc,h=>by
  simp only[nA] at hc;split at hc
  ·rename_i a2 b2 ha hb;cases hc;simp only[aF,bT] at h;simp only[awp];unfold a7 at h |-;split at h
   ·exact⟨λhh=>iz hm a a2 ha (h.1 hh),λhh=>iz hm b b2 hb (h.2 hh)⟩
   ·exact h
  ·cases hc
 |.block id b,c2,_,_,_,K,hc,h=>by
  simp only[nA] at hc;split at hc
  ·rename_i b2 hb;cases hc;exact iz hm b b2 hb h
  ·cases hc
 |.loop b,c2,T,H,nx,K,hc,h=>by
  simp only[nA] at hc;split at hc
  ·rename_i b2 hb;cases hc;obtain⟨n,h⟩:=h;refine⟨n,?_⟩
   induction n generalizing T H nx with
   |zero=>exact h
   |succ n ih=>
    obtain⟨T',H',nx',Hf,hg,h⟩:=h;refine⟨T',H',nx',Hf,hg,f9 b (iz hm b b2 hb h) (λe T H nx h=>?_)⟩;cases e with
    |normal=>exact ih _ _ _ h
    |exit i=>exact h
    |ret=>exact h
  ·cases hc
 |.rangeFunc g ps a b,c2,T,H,nx,K,hc,h=>by
  simp only[nA] at hc;split at hc
  case isFalse=>cases hc
  case isTrue hps=>
  split at hc
  ·rename_i a2 b2 ha hb;cases hc;obtain⟨f,caps,h1,h2⟩:=h;rw[bT] at h1;show RF P N _ T H nx K;refine Od h1 (λr hr=>?_);refine h2 (.oloop r T) (yb r T) (λargs H' nx' K' hH hl hw=>?_);refine Yl.of_awp hr hm (λt ht=>by simpa using dS.1 hps t ht) hH (by simpa using hl) (f9 a (iz hm a a2 ha hw) (λe T2 H2 nx2 h=>?_));cases e with
   |normal=>exact⟨h.1,iz hm b b2 hb h.2⟩
   |exit i=>exact h
   |ret=>exact h
  ·cases hc
 |.scope _,_,_,_,_,_,hc,_=>by cases hc
 |.goto _,_,_,_,_,_,hc,_=>by cases hc
 |.refuse _,_,_,_,_,_,hc,_=>by cases hc
inductive RV where
 |t (n:Nat)
 |c1 (n:Nat)
 |cn (n k:Nat)
structure F2 where
 n:Nat
 res:List RV
 body:C2
def jT(P:Program):List ResultVar->Option (List RV)
 |[]=>some []
 |.tmp t::l=>match jT P l with|some l=>some (.t t::l)|none=>none
 | .cell a t :: l=>if tok P t=true then (match jT P l with
  |some l=>if qd P t=true then(if 0<P.cellsOf t then some (.cn a (P.cellsOf t)::l) else none) else some (.c1 a::l)
  |none=>none) else none
def zH(P:Program)(fn:Func):Option F2:=
 match fn.body with
 |some c=>if fn.name== "runtime.NumGoroutine" then none else match nA P fn.ntmps c,jT P fn.results.toList with
  |some b,some r=>some ⟨fn.ntmps,r,b⟩
  |_,_=>none
 |none=>none
def rv(T:Tm)(H:Hp):RV->Option AV
 |.t n=>some (T n)
 |.c1 n=>rd1 H (T n)
 |.cn n k=>(rd H k (T n)).map .agg
def Bc(T:Tm)(H:Hp):List RV->(List AV->Prop)->Prop
 |[],K=>K []
 |a::l,K=>ax (rv T H a) λx=>Bc T H l λxs=>K (x::xs)
def bm(T:Tm)(H:Hp)(K:AV->Prop):List RV->Prop
 |[a]=>ax (rv T H a) K
 |[a,b]=>ax (rv T H a) λx=>ax (rv T H b) λy=>K (.tup [x,y])
 |[a,b,c]=>ax (rv T H a) λx=>ax (rv T H b) λy=>ax (rv T H c) λz=>K (.tup [x,y,z])
 |[]=>K (.tup [])
 |a::b::c::d::l=>Bc T H (a::b::c::d::l) λxs=>K (.tup xs)
theorem uz{P:Program}{T:Tm}{H:Hp}{r:ResultVar}{l:List ResultVar}{x:RV}{xs:List RV}{v:AV}(h:jT P (r::l)=some (x::xs))(hv:rv T H x=some v):
    jT P l=some xs/\mU P T H (r::l)=(match mU P T H l with|some ys=>some (v::ys)|none=>none):=by
 cases r with
 |tmp t=>
  simp only[jT] at h;split at h
  ·rename_i ys hy;cases h;cases hv;exact⟨hy,rfl⟩
  ·cases h
 |cell a t=>
  simp only[jT] at h;split at h
  ·rename_i h1;split at h
   ·rename_i ys hy;split at h
    ·rename_i h2;split at h
     ·rename_i h3;cases h;refine⟨hy,?_⟩;simp only[rv] at hv;simp only[mU,lB,h1,h2,if_true,if_pos h3,hv];cases mU P T H l<;>rfl
     ·cases h
    ·rename_i h2;cases h;refine⟨hy,?_⟩;simp only[rv] at hv;simp only[mU,lB,h1,h2,if_true,hv];cases mU P T H l<;>rfl
   ·cases h
  ·cases h
theorem mA{P:Program}{l:List ResultVar}(h:jT P l=some []):l=[]:=by
 cases l with
 |nil=>rfl
 |cons r l=>
  cases r with
  |tmp t=>simp only[jT] at h;split at h<;>cases h
  |cell a t=>
   simp only[jT] at h;split at h
   ·split at h
    ·split at h
     ·split at h<;>cases h
     ·cases h
    ·cases h
   ·cases h
theorem iJ{P:Program}{l:List ResultVar}{x:RV}{xs:List RV}(h:jT P l=some (x::xs)):∃r l',l=r::l':=by
 cases l with
 |nil=>cases h
 |cons r l=>exact⟨r,l,rfl⟩
theorem DR{P:Program}{T:Tm}{H:Hp}:∀{r:List RV}{l:List ResultVar}{K:List AV->Prop},jT P l=some r->Bc T H r K->∃xs,mU P T H l=some xs/\xs.length=r.length/\K xs
 |[],l,K,h,hk=>by
  have:=mA h;subst this;exact⟨[],rfl,rfl,hk⟩
 |a::r,l,K,h,hk=>by
  obtain⟨r1,l1,rfl⟩:=iJ h;have hk:ax (rv T H a) λx=>Bc T H r λxs=>K (x::xs):=hk;cases hv:rv T H a with
  |none=>rw[hv] at hk;exact hk.elim
  |some v=>
   rw[hv] at hk;obtain⟨h1,e1⟩:=uz h hv;obtain⟨xs,h2,h3,h4⟩:=DR h1 hk;exact⟨v::xs,by rw[e1,h2],by simp[h3],h4⟩
theorem zc{P:Program}{T:Tm}{H:Hp}{K:AV->Prop}{l:List ResultVar}{r:List RV}(h:jT P l=some r)(hk:bm T H K r):ax (l9 P T H l) K:=by
 have one:∀{x:RV}{K':AV->Prop},ax (rv T H x) K'->∃v,rv T H x=some v/\K' v:=by
  intro x K' h;cases hv:rv T H x with
  |none=>rw[hv] at h;exact h.elim
  |some v=>rw[hv] at h;exact⟨v,rfl,h⟩
 rcases r with _|⟨a,_|⟨b,_|⟨c,_|⟨d,r⟩⟩⟩⟩
 ·have:=mA h;subst this;exact hk
 ·obtain⟨r1,l1,rfl⟩:=iJ h;obtain⟨v,hv,hk⟩:=one hk;obtain⟨h1,e1⟩:=uz h hv;have:=mA h1;subst this;simp only[l9,e1,mU];exact hk
 ·obtain⟨r1,l1,rfl⟩:=iJ h;obtain⟨v,hv,hk⟩:=one hk;obtain⟨h1,e1⟩:=uz h hv;obtain⟨r2,l2,rfl⟩:=iJ h1;obtain⟨v2,hv2,hk⟩:=one hk;obtain⟨h2,e2⟩:=uz h1 hv2;have:=mA h2;subst this;simp only[l9,e1,e2,mU];exact hk
 ·obtain⟨r1,l1,rfl⟩:=iJ h;obtain⟨v,hv,hk⟩:=one hk;obtain⟨h1,e1⟩:=uz h hv;obtain⟨r2,l2,rfl⟩:=iJ h1;obtain⟨v2,hv2,hk⟩:=one hk;obtain⟨h2,e2⟩:=uz h1 hv2;obtain⟨r3,l3,rfl⟩:=iJ h2;obtain⟨v3,hv3,hk⟩:=one hk;obtain⟨h3,e3⟩:=uz h2 hv3;have:=mA h3;subst this;simp only[l9,e1,e2,e3,mU];exact hk
 ·have hk:Bc T H (a::b::c::d::r) λxs=>K (.tup xs):=hk;obtain⟨xs,h1,h2,h3⟩:=DR h hk;unfold l9;rw[h1];rcases xs with _|⟨x,_|⟨y,xs⟩⟩
  ·simp at h2
  ·simp at h2
  ·exact h3
structure Is(P:Program)(f:FuncId)(F:F2):Prop where
 out:∃fn,P.funcs[f]?=some fn/\zH P fn=some F
theorem Is.mk'{P:Program}{f:FuncId}{F:F2}{fn:Func}(h1:P.funcs[f]?=some fn)(h2:zH P fn=some F):Is P f F:=⟨fn,h1,h2⟩
theorem Is.cok{P:Program}{f:FuncId}{F:F2}(h:Is P f F):cok P f=true:=by
 obtain⟨fn,h1,h2⟩:=h.out;unfold zH at h2;split at h2
 ·rename_i c hc;split at h2
  ·cases h2
  ·rename_i hn;unfold Go.Abs.cok;simp only[h1,hc,Option.isSome_some,Bool.true_and,Bool.not_eq_true'];simpa using hn
 ·cases h2
theorem Is.bodyOk{P:Program}{f:FuncId}{F:F2}(h:Is P f F)(hm:P.follows .mixedOrders=true){args:List AV}{H:Hp}{nx:Nat}{K:AV->Hp->Nat->Prop}(hl:args.length<=F.n)
    (hb:aF P F.body (T0 args) H nx λe T H nx=>aM e.ends (bm T H (λx=>K x H nx) F.res)):∃fn,P.funcs[f]?=some fn/\yu P fn args H nx K:=by
 obtain⟨fn,h1,h2⟩:=h.out;refine⟨fn,h1,?_⟩;unfold zH at h2;split at h2
 ·rename_i c hc;split at h2
  ·cases h2
  ·split at h2
   ·rename_i b r hb' hr;cases h2;exact⟨c,hc,hl,f9 c (iz hm c b hb' hb) (λe T H nx hh=>⟨hh.1,zc hr hh.2⟩)⟩
   ·cases h2
 ·cases h2
theorem Pure.of_c2{P:Program}{f:FuncId}{F:F2}{args:List AV}{r:AV}(hm:P.follows .mixedOrders=true)(hf:Is P f F)(hl:args.length<=F.n)
    (hb:aF P F.body (T0 args) aQ 0 λe T H nx=>aM e.ends (bm T H (λx=>Snap H x r) F.res)):Pure P f args r:=by
 obtain⟨fn,h1,h2⟩:=hf.bodyOk hm (K:=λx H nx=>Snap H x r) hl hb;exact Pure.of_body hm h1 hf.cok h2
theorem Fn.of_c2{P:Program}{f:FuncId}{F:F2}{args:List AV}{H:Hp}{nx:Nat}{K:AV->Hp->Nat->Prop}(hm:P.follows .mixedOrders=true)(hf:Is P f F)(hl:args.length<=F.n)
    (hb:aF P F.body (T0 args) H nx λe T H nx=>aM e.ends (bm T H (λx=>K x H nx) F.res)):Fn P f args H nx K:=by
 obtain⟨fn,h1,h2⟩:=hf.bodyOk hm (K:=K) hl hb;exact Fn.of_body hm h1 hf.cok h2
theorem PureF.of_c2{P:Program}{f:FuncId}{F:F2}{args:List AV}{r:AV}(hm:P.follows .mixedOrders=true)(hf:Is P f F)(hl:args.length<=F.n)
    (hb:aF P F.body (T0 args) aQ 0 λe T H nx=>aM e.ends (bm T H (λx=>SnapF H x r) F.res)):PureF P f args r:=
 PureF.of_fn (Fn.of_c2 hm hf hl hb)
end Go.Abs
