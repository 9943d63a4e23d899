/- Contracts of functions and plain laws, for all inputs that the theorems name. -/
import Derived.Test.YtpbjhjkfobapeaaXG1
import Derived.RangeFuncLeaves
import Derived.RangeFuncRecord
import Derived.RangeFuncNested
import Derived.Laws.IdiomStrings
import Derived.Laws.BytesArg

set_option linter.unusedSimpArgs false
set_option linter.unusedVariables false
set_option maxHeartbeats 4000000
namespace Go.Abs
open Go.RowKit
def zh:Op->Bool
 |.move _|.assign _=>true
 |_=>false
theorem wK{op:Op}(h:zh op=true):opk op=.pure:=by
 cases op<;>first|(cases h;done)|rfl
structure VP(vp:Op->Bool):Prop where
 pure:∀op,vp op=true->opk op=.pure
 mov:∀op,zh op=true->vp op=true
def gY(vp:Op->Bool)(P:Program)(op:Op)(T:Tm)(H:Hp)(nx:Nat)(K:AV->Hp->Nat->Prop):Prop:=
 if vp op=true then aC (cz P T H op) λr=>K r H nx else o8 P .text op T H nx K
def lJ(vp:Op->Bool)(P:Program)(n:Nat)(dsts:List (Option Nat))(o:Oper)(T:Tm)(H:Hp)(nx:Nat)(K:SP):Prop:=
 bf (dok n o.dst) (bn (gval T dsts o.guard) (gY vp P o.op T H nx λr H' nx'=>K (aD T o.dst r) H' nx') (K (aD T o.dst (.tup [])) H nx))
def kg(vp:Op->Bool)(P:Program)(n:Nat)(dsts:List (Option Nat)):List Oper->Tm->Hp->Nat->SP->Prop
 |[],T,H,nx,K=>K T H nx
 |o::l,T,H,nx,K=>lJ vp P n dsts o T H nx λT H nx=>kg vp P n dsts l T H nx K
theorem cL{α:Type}{x:Option α}{K:α->Prop}(h:aC x K):∃a,x=some a/\K a:=by
 cases x with
 |none=>exact h.elim
 |some a=>exact⟨a,rfl,h⟩
theorem ut{op:Op}(h:opk op=.pure):opc op=.val:=by
 unfold opc;split
 ·simp[opk] at h
 ·rw[h]
theorem v6{vp:Op->Bool}(hv:VP vp){P:Program}{op:Op}{T:Tm}{H:Hp}{nx:Nat}{K:AV->Hp->Nat->Prop}(h:gY vp P op T H nx K):o8 P .text op T H nx K:=by
 unfold gY at h;split at h
 ·rename_i hp;left;unfold jl;rw[ut (hv.pure _ hp)];exact⟨rfl,h⟩
 ·exact h
theorem vu{vp:Op->Bool}(hv:VP vp){P:Program}{n:Nat}{dsts:List (Option Nat)}{o:Oper}{T:Tm}{H:Hp}{nx:Nat}{K:SP}(h:lJ vp P n dsts o T H nx K):aop P n .text dsts o T H nx K:=by
 refine⟨h.1,?_⟩;have h:=h.2;cases hg:gval T dsts o.guard with
 |none=>rw[hg] at h;exact h.elim
 |some b=>
  rw[hg] at h;cases b with
  |true=>exact v6 hv h
  |false=>exact h
theorem mb{vp:Op->Bool}{P:Program}{op:Op}{T:Tm}{H:Hp}{nx:Nat}{K K':AV->Hp->Nat->Prop}(h:gY vp P op T H nx K)(hK:∀r H nx,K r H nx->K' r H nx):gY vp P op T H nx K':=by
 unfold gY at h |-;split
 ·rename_i hp;rw[if_pos hp] at h;obtain⟨a,ha,hk⟩:=cL h;rw[ha];exact hK _ _ _ hk
 ·rename_i hp;rw[if_neg hp] at h;exact iq h hK
theorem nX{vp:Op->Bool}{P:Program}{n:Nat}{dsts:List (Option Nat)}{o:Oper}{T:Tm}{H:Hp}{nx:Nat}{K K':SP}(h:lJ vp P n dsts o T H nx K)(hK:∀r H nx,K (aD T o.dst r) H nx->K' (aD T o.dst r) H nx):lJ vp P n dsts o T H nx K':=by
 refine⟨h.1,?_⟩;have h:=h.2;cases hg:gval T dsts o.guard with
 |none=>rw[hg] at h;exact h.elim
 |some b=>
  rw[hg] at h;cases b with
  |true=>exact mb (K:=λr H' nx'=>K (aD T o.dst r) H' nx') h (λr H nx=>hK r H nx)
  |false=>exact hK _ _ _ h
theorem qQ{vp:Op->Bool}{P:Program}{n:Nat}{dsts:List (Option Nat)}{K K':SP}(hK:∀T H nx,K T H nx->K' T H nx):∀(l:List Oper){T:Tm}{H:Hp}{nx:Nat},kg vp P n dsts l T H nx K->kg vp P n dsts l T H nx K'
 |[],_,_,_,h=>hK _ _ _ h
 |o::l,_,_,_,h=>nX h (λ_ _ _=>qQ hK l)
def iQ(ops:List Oper)(o:Oper)(T T':Tm):Prop:=∀t,t∈o.looksAt ops.toArray->T t=T' t
theorem iQ.ev{ops:List Oper}{o:Oper}{T T':Tm}(h:iQ ops o T T'):∀x∈o.op.operands,ev T x=ev T' x:=by
 intro x hx;refine vt λt e=>?_;subst e;refine h t ?_;unfold Oper.looksAt;exact rn _ (List.mem_filterMap.2 ⟨.tmp t,by simpa using hx,rfl⟩)
theorem iQ.gval{ops:List Oper}{o:Oper}{T T':Tm}(h:iQ ops o T T'):gval T (ops.map (·.dst)) o.guard=gval T' (ops.map (·.dst)) o.guard:=by
 unfold Go.Abs.gval;cases hg:o.guard with
 |none=>rfl
 |some p=>
  obtain⟨j,want⟩:=p;simp only;cases hd:(ops.map (·.dst))[j]? with
  |none=>rfl
  |some d=>
   cases d with
   |none=>rfl
   |some d=>
    have:T d=T' d:=by
     refine h d ?_;unfold Oper.looksAt;refine uV _ ?_;rw[hg];rw[nJ] at hd;cases ho:ops[j]? with
     |none=>rw[ho] at hd;cases hd
     |some o'=>rw[ho] at hd;simp at hd;simp[hd,ho]
    simp only[this]
theorem iQ.upd{ops:List Oper}{o:Oper}{T:Tm}{d:Option Nat}{v:AV}(h:∀t,d=some t->t∉o.looksAt ops.toArray):iQ ops o T (aD T d v):=by
 intro t ht;cases d with
 |none=>rfl
 |some d=>
  have:t≠d:=λe=>h d rfl (by rw[<-e];exact ht);simp[aD,Go.Abs.upd,this]
theorem oE{P:Program}{op:Op}{T T':Tm}{H:Hp}{nx:Nat}{K:AV->Hp->Nat->Prop}(he:∀x∈op.operands,ev T x=ev T' x)(h:jl P .text op T H nx K):jl P .text op T' H nx K:=by
 unfold jl at h |-;generalize opc op=k at h |-;cases k with
 |val=>
  have h:bf (pP .text T op) (aC (cz P T H op) λr=>K r H nx):=h;show bf (pP .text T' op) (aC (cz P T' H op) λr=>K r H nx);rw[<-gc he];exact h
 |eff=>
  have h:bf (pP .text T op) (aC (ff P T H nx op) λx=>K x.1 x.2.1 x.2.2):=h;show bf (pP .text T' op) (aC (ff P T' H nx op) λx=>K x.1 x.2.1 x.2.2);rw[<-l9 he];exact h
 |call=>
  have h:aC (kC op) λx=>aC (mJ (ev T x.1)) λy=>Fn P y.1 (x.2.toList.map (ev T)++y.2) H nx K:=h;show aC (kC op) λx=>aC (mJ (ev T' x.1)) λy=>Fn P y.1 (x.2.toList.map (ev T')++y.2) H nx K;obtain⟨x,hx,h⟩:=cL h;rw[hx];obtain⟨f,args⟩:=x;obtain⟨ts,rfl⟩:=ln hx;simp only[Op.operands,Call.operands] at he;have e1:ev T f=ev T' f:=he f (rC.2 (.inl (by simp)));have e2:args.toList.map (ev T)=args.toList.map (ev T'):=zg λx hm=>he x (rC.2 (.inr (by simpa using hm)));show aC (mJ (ev T' f)) λy=>Fn P y.1 (args.toList.map (ev T')++y.2) H nx K;rw[<-e1,<-e2];exact h
 |other=>exact h.elim
theorem oU{P:Program}{op:Op}{T T':Tm}{H:Hp}{nx:Nat}{K:AV->Hp->Nat->Prop}(he:∀x∈op.operands,ev T x=ev T' x)(h:cJ P op T H nx K):cJ P op T' H nx K:=
 ⟨h.1,λrr E w a o next Q ho hE hh hf ht hn=>h.2 rr E w a o next Q ho hE hh hf (λx hx=>by rw[he x hx];exact ht x hx) hn⟩
theorem u3{vp:Op->Bool}{P:Program}{op:Op}{T T':Tm}{H:Hp}{nx:Nat}{K:AV->Hp->Nat->Prop}(he:∀x∈op.operands,ev T x=ev T' x)(h:gY vp P op T H nx K):gY vp P op T' H nx K:=by
 unfold gY at h |-;split
 ·rename_i hp;rw[if_pos hp] at h;rw[<-gc he];exact h
 ·rename_i hp;rw[if_neg hp] at h;rcases h with h|h
  ·exact .inl (oE he h)
  ·exact .inr ⟨h.1,oU he h.2⟩
theorem sd{T:Tm}{d e:Option Nat}{v r:AV}(h:∀t,d=some t->e≠some t):aD (aD T e r) d v=aD (aD T d v) e r:=by
 cases d with
 |none=>rfl
 |some d=>
  cases e with
  |none=>rfl
  |some e=>
   have hne:d≠e:=λhh=>h d rfl (by rw[hh])
   funext t
   simp only[aD,Go.Abs.upd];by_cases h1:t=d
   ·subst h1;rw[if_pos rfl,if_neg hne,if_pos rfl]
   ·rw[if_neg h1,if_neg h1]
structure Free(vp:Op->Bool)(ops:List Oper)(x o:Oper):Prop where
 d:∀t,o.dst=some t->x.dst≠some t
 l1:∀t,o.dst=some t->t∉x.looksAt ops.toArray
 l2:∀t,x.dst=some t->t∉o.looksAt ops.toArray
 k:vp x.op=true
def wt(P:Program)(dsts:List (Option Nat))(o:Oper)(T:Tm)(H:Hp):Option AV:=match gval T dsts o.guard with
 |some true=>cz P T H o.op
 |some false=>some (.tup [])
 |none=>none
theorem yv{vp:Op->Bool}{P:Program}{n:Nat}{dsts:List (Option Nat)}{o:Oper}{T:Tm}{H:Hp}{nx:Nat}{K:SP}(hp:vp o.op=true)(h:lJ vp P n dsts o T H nx K):∃v,wt P dsts o T H=some v/\K (aD T o.dst v) H nx:=by
 obtain⟨_,h⟩:=h;unfold wt;cases hg:gval T dsts o.guard with
 |none=>rw[hg] at h;exact h.elim
 |some b=>
  rw[hg] at h;cases b with
  |true=>
   have h:gY vp P o.op T H nx λr H' nx'=>K (aD T o.dst r) H' nx':=h;unfold gY at h;rw[if_pos hp] at h;exact cL h
  |false=>exact⟨_,rfl,h⟩
theorem tI{vp:Op->Bool}{P:Program}{n:Nat}{dsts:List (Option Nat)}{o:Oper}{T:Tm}{H:Hp}{nx:Nat}{K:SP}(hp:vp o.op=true)(hd:dok n o.dst=true){v:AV}(hv:wt P dsts o T H=some v)(hk:K (aD T o.dst v) H nx):lJ vp P n dsts o T H nx K:=by
 refine⟨hd,?_⟩;unfold wt at hv;cases hg:gval T dsts o.guard with
 |none=>rw[hg] at hv;cases hv
 |some b=>
  rw[hg] at hv;cases b with
  |true=>
   show gY vp P o.op T H nx _;unfold gY;rw[if_pos hp];have hv:cz P T H o.op=some v:=hv;rw[hv];exact hk
  |false=>cases hv;exact hk
theorem vI{P:Program}{ops:List Oper}{o:Oper}{T T':Tm}{H H':Hp}(hp:opk o.op=.pure)(ha:iQ ops o T T'):wt P (ops.map (·.dst)) o T H=wt P (ops.map (·.dst)) o T' H':=by
 unfold wt;rw[ha.gval];cases gval T' (ops.map (·.dst)) o.guard with
 |none=>rfl
 |some b=>
  cases b with
  |true=>simp only;rw[gc ha.ev,nz hp]
  |false=>rfl
theorem CH{vp:Op->Bool}(hvp:VP vp){P:Program}{n:Nat}{ops:List Oper}{x o:Oper}{T:Tm}{H:Hp}{nx:Nat}{K:SP}(hf:Free vp ops x o)
    (h:lJ vp P n (ops.map (·.dst)) x T H nx λT1 H1 nx1=>lJ vp P n (ops.map (·.dst)) o T1 H1 nx1 K):lJ vp P n (ops.map (·.dst)) o T H nx λT1 H1 nx1=>lJ vp P n (ops.map (·.dst)) x T1 H1 nx1 K:=by
 have hpk:=hvp.pure _ hf.k;have hdx:=h.1;obtain⟨r,hr,h⟩:=yv hf.k h;have ha:iQ ops o T (aD T x.dst r):=iQ.upd hf.l2
 have hx:∀(q:AV)(H1:Hp)(nx1:Nat),K (aD (aD T x.dst r) o.dst q) H1 nx1->lJ vp P n (ops.map (·.dst)) x (aD T o.dst q) H1 nx1 K:=by
  intro q H1 nx1 hk;refine tI hf.k hdx (v:=r) ?_ ?_
  ·rw[<-hr];exact(vI hpk (iQ.upd hf.l1)).symm
  ·rw[<-sd hf.d];exact hk
 obtain⟨hdo,h⟩:=h;refine⟨hdo,?_⟩;rw[ha.gval];cases hg:gval (aD T x.dst r) (ops.map (·.dst)) o.guard with
 |none=>rw[hg] at h;exact h.elim
 |some b=>
  rw[hg] at h;cases b with
  |true=>
   have h:gY vp P o.op (aD T x.dst r) H nx λq H' nx'=>K (aD (aD T x.dst r) o.dst q) H' nx':=h;exact mb (u3 (λy hy=>(ha.ev y hy).symm) h) (λq H' nx' hk=>hx q H' nx' hk)
  |false=>exact hx _ _ _ h
theorem Bo{vp:Op->Bool}(hvp:VP vp){P:Program}{n:Nat}{ops:List Oper}{o:Oper}{l2:List Oper}{K:SP}:∀(l1:List Oper){T:Tm}{H:Hp}{nx:Nat},(∀x∈l1,Free vp ops x o)->
    kg vp P n (ops.map (·.dst)) (l1++o::l2) T H nx K->lJ vp P n (ops.map (·.dst)) o T H nx λT H nx=>kg vp P n (ops.map (·.dst)) (l1++l2) T H nx K
 |[],_,_,_,_,h=>h
 |x::l1,T,H,nx,hf,h=>by
  have h:lJ vp P n (ops.map (·.dst)) x T H nx λT H nx=>kg vp P n (ops.map (·.dst)) (l1++o::l2) T H nx K:=h
  have h:lJ vp P n (ops.map (·.dst)) x T H nx λT H nx=>lJ vp P n (ops.map (·.dst)) o T H nx λT H nx=>kg vp P n (ops.map (·.dst)) (l1++l2) T H nx K:=
   nX h (λr H1 nx1 h=>Bo hvp l1 (λy hy=>hf y (by simp[hy])) h)
  exact CH hvp (hf x (by simp)) h
def zB(vp:Op->Bool)(ops:List Oper)(x o:Oper):Bool:=
 (match o.dst with|some t=>x.dst !=some t&& !(x.looksAt ops.toArray).contains t|none=>true)&&
 (match x.dst with|some t=>!(o.looksAt ops.toArray).contains t|none=>true)&&vp x.op
theorem zv{vp:Op->Bool}{ops:List Oper}{x o:Oper}(h:zB vp ops x o=true):Free vp ops x o:=by
 unfold zB at h;simp only[cE] at h;obtain⟨⟨h1,h2⟩,h3⟩:=h;refine⟨λt ht=>?_,λt ht=>?_,λt ht=>?_,h3⟩
 ·rw[ht] at h1;simp at h1;exact h1.1
 ·rw[ht] at h1;simp at h1;exact h1.2
 ·rw[ht] at h2;simp at h2;exact h2
def n5(r:Nat->Nat->Bool):List Nat->Bool
 |[]=>true
 |k::l=>l.all (r k)&&n5 r l
theorem lu{r:Nat->Nat->Bool}:∀{l:List Nat},n5 r l=true->l.Pairwise (λk i=>r k i=true)
 |[],_=>List.Pairwise.nil
 |k::l,h=>by
  simp only[n5,cE,cV] at h;exact List.Pairwise.cons h.1 (lu h.2)
def tP(vp:Op->Bool)(n:Nat)(ops:List Oper)(C:List Nat):Bool:=
 let m:=Region.before ops.toArray
 let len:=ops.length
 ((List.range len).all λj=>(cQ (ops.getD j default)).all λk=>k<j)&&
 ((List.range len).all λj=>(List.range len).all λi=>!cH m j i || (cQ (ops.getD j default)).any λk=>k==i || cH m k i)&&
 (n5 (λk i=>k !=i&&((ops.getD i default).dst.isNone || (ops.getD i default).dst !=(ops.getD k default).dst)&&(cH m i k || zB vp ops (ops.getD k default) (ops.getD i default))) C)&&
 ((List.range len).all λi=>C.contains i)&&(C.all λi=>i<len)&&((List.range len).all λi=>dok n (ops.getD i default).dst)
structure MixOk(vp:Op->Bool)(n:Nat)(ops:List Oper)(C:List Nat):Prop where
 dir:∀(j:Nat)(o:Oper),ops[j]?=some o->∀k∈cQ o,k<j
 clo:∀(j:Nat)(o:Oper)(i:Nat),ops[j]?=some o->i<ops.length->cH (Region.before ops.toArray) j i=true->∃k∈cQ o,k=i\/cH (Region.before ops.toArray) k i=true
 pw:C.Pairwise (λk i=>k≠i/\(∀t,(ops.getD i default).dst=some t->(ops.getD k default).dst≠some t)/\(cH (Region.before ops.toArray) i k=true\/Free vp ops (ops.getD k default) (ops.getD i default)))
 all:∀i,i<ops.length->i∈C
 lt:∀i∈C,i<ops.length
 dk:∀(i:Nat)(o:Oper),ops[i]?=some o->dok n o.dst=true
theorem u9{vp:Op->Bool}{n:Nat}{ops:List Oper}{C:List Nat}(h:tP vp n ops C=true):MixOk vp n ops C:=by
 simp only[tP,cE,cV,gJ,lc] at h;obtain⟨⟨⟨⟨⟨h1,h2⟩,h3⟩,h4⟩,h5⟩,h6⟩:=h;have hlt:=λ{k:Nat}{o:Oper}(hk:ops[k]?=some o)=>(bJ.1 hk).1;refine⟨λj o ho k hk=>?_,λj o i ho hi hb=>?_,(lu h3).imp (λ{k i} h=>?_),λi hi=>by simpa using h4 i hi,h5,λi o ho=>?_⟩
 ·have:=h1 j (hlt ho) k;rw[ca ho] at this;exact this hk
 ·have:=h2 j (hlt ho) i hi;rw[ca ho,hb] at this;simp only[Bool.not_true,Bool.false_or,sO,jT,beq_iff_eq] at this;exact this
 ·simp only[cE,jT] at h;obtain⟨⟨h7,h8⟩,h9⟩:=h;refine⟨by simpa using h7,λt ht=>?_,h9.imp id zv⟩;rw[ht] at h8;simp at h8;exact λe=>h8 e.symm
 ·have:=h6 i (hlt ho);rw[ca ho] at this;exact this
def ch(C:List Nat)(L:Array Bool):List Nat:=C.filter λk=>!L.getD k false
structure MInv(vp:Op->Bool)(P:Program)(N:Cfg)(ops:List Oper)(C:List Nat)(K:SP)(E₀:Env)(w₀:World)(L:Array Bool)(a:Act)(w:World)(E:Env)(T:Tm)(H:Hp)(nx:Nat):Prop where
 lsz:L.size=ops.length
 dc:∀j i,L.getD j false=true->cH (Region.before ops.toArray) j i=true->i<ops.length->L.getD i false=true
 ext:Ext E₀ w₀ E w
 sim:Sim E N ⟨T,H,nx⟩ a w
 rest:kg vp P N.n (ops.map (·.dst)) ((ch C L).map λk=>ops.getD k default) T H nx K
variable{vp:Op->Bool}{P:Program}{N:Cfg}{ops:List Oper}{C:List Nat}{K:SP}{E₀:Env}{w₀:World}{L:Array Bool}{a:Act}{w:World}{E:Env}{T:Tm}{H:Hp}{nx:Nat}
theorem wn(hC:C.Pairwise (λk i=>k≠i/\(∀t,(ops.getD i default).dst=some t->(ops.getD k default).dst≠some t)/\(cH (Region.before ops.toArray) i k=true\/Free vp ops (ops.getD k default) (ops.getD i default))))
    {i:Nat} (hi:i∈ch C L) (hil:i<L.size):∃l1 l2,ch C L=l1++i::l2/\ch C (L.setIfInBounds i true)=l1++l2/\
     (∀k∈l1,cH (Region.before ops.toArray) i k=true\/Free vp ops (ops.getD k default) (ops.getD i default))/\(∀k∈l1++l2,∀t,(ops.getD k default).dst=some t->(ops.getD i default).dst≠some t):=by
 obtain⟨l1,l2,e⟩:=List.append_of_mem hi;have hp:(ch C L).Pairwise _:=hC.filter _;rw[e] at hp;obtain⟨p1,p2,p3⟩:=List.pairwise_append.1 hp;obtain⟨p4,p5⟩:=A7.1 p2;refine⟨l1,l2,e,?_,λk hk=>(p3 k hk i (by simp)).2.2,λk hk t ht he=>?_⟩
 ·have e2:ch C (L.setIfInBounds i true)=(ch C L).filter λk=>decide (k≠i):=by
    unfold ch;rw[List.filter_filter];refine List.filter_congr (λk _=>?_);rw[d8 L i k hil];by_cases h:k=i<;>simp[h]
  rw[e2,e,List.filter_append,List.filter_cons];have n1:l1.filter (λk=>decide (k≠i))=l1:=uH.2 (λk hk=>bk (p3 k hk i (by simp)).1);have n2:l2.filter (λk=>decide (k≠i))=l2:=uH.2 (λk hk=>bk (λh=>(p4 k hk).1 h.symm));rw[n1,n2];simp
 ·rcases th.1 hk with h|h
  ·exact(p3 k h i (by simp)).2.1 t he ht
  ·exact(p4 k h).2.1 t ht he
theorem MInv.bits(hI:MInv vp P N ops C K E₀ w₀ L a w E T H nx)(hok:MixOk vp N.n ops C){i:Nat}{o:Oper}(hr:Ready ops L i o){k:Nat}(hk:k<ops.length)(hb:cH (Region.before ops.toArray) i k=true):L.getD k false=true:=by
 obtain⟨q,hq,h⟩:=hok.clo i o k hr.get hk hb;rcases h with rfl|h
 ·exact hr.dir _ hq
 ·exact hI.dc q k (hr.dir _ hq) h hk
theorem MInv.step(hvp:VP vp){rr:Option Nat}{Q:Exit->Act->World->Prop}{K':Act->World->Prop}(hI:MInv vp P N ops C K E₀ w₀ L a w E T H nx)(hok:MixOk vp N.n ops C){i:Nat}{o:Oper}(hr:Ready ops L i o)
    (hK:∀a' w' E' T' H' nx',MInv vp P N ops C K E₀ w₀ (L.setIfInBounds i true) a' w' E' T' H' nx'->K' a' w'):wpOpIn (FW rr) 0 P ops.toArray Q i K' a w:=by
 have hi:i<ops.length:=(bJ.1 hr.get).1;have hgeti:(ops.toArray)[i]?=some o:=by simpa using hr.get
 unfold wpOpIn;rw[hgeti];simp only;have hmem:i∈ch C L:=lG.2 ⟨hok.all i hi,by rw[hr.not];rfl⟩;obtain⟨l1,l2,e1,e2,f1,f2⟩:=wn hok.pw hmem (by rw[hI.lsz];exact hi);have hgo:ops.getD i default=o:=ca hr.get
 have hfree:∀k∈l1,Free vp ops (ops.getD k default) o:=by
  intro k hk;rcases f1 k hk with h|h
  ·have hkC:k∈ch C L:=by rw[e1];simp[hk]
   obtain⟨h1,h2⟩:=lG.1 hkC;have:=hI.bits hok hr (hok.lt k h1) h;rw[this] at h2;cases h2
  ·rw[hgo] at h;exact h
 have hrest:=hI.rest;rw[e1,eU,gD,hgo] at hrest
 have hpull:=Bo hvp (l1.map fun k=>ops.getD k default) (fun x hx=>by
  obtain⟨k,hk,rfl⟩:=gL.1 hx;exact hfree k hk) hrest
 have hpull2:lJ vp P N.n (ops.map (·.dst)) o T H nx λT' H' nx'=>kg vp P N.n (ops.map (·.dst)) ((l1++l2).map λk=>ops.getD k default) T' H' nx' K:=
  nX hpull (λr H1 nx1 h=>by rw[eU];exact h)
 have hset:=λk=>d8 L i k (by rw[hI.lsz];exact hi);have hs:=jG (rr:=rr) (ops:=ops.toArray) (Q:=Q) (next:=K') hI.sim (vu hvp hpull2) (λE' T' H' nx' a' w' he hS hk=>?_)
 ·exact hs
 ·refine hK a' w' E' T' H' nx' ⟨by simp[hI.lsz],?_,hI.ext.trans he,hS,by rw[e2];exact hk⟩;intro j k hj hb hkl;rw[hset] at hj |-;by_cases hki:k=i
  ·rw[if_pos hki]
  ·rw[if_neg hki];by_cases hji:j=i
   ·subst hji;exact hI.bits hok hr hkl hb
   ·rw[if_neg hji] at hj;exact hI.dc j k hj hb hkl
theorem MInv.some_ready(hI:MInv vp P N ops C K E₀ w₀ L a w E T H nx)(hok:MixOk vp N.n ops C)(h:Region.ready .any ops.toArray L=[]):∀k,k<ops.length->L.getD k false=true:=by
 rcases lj L ops.length with h1|⟨k,hk,hn,hall⟩
 ·exact h1
 ·exfalso;obtain⟨o,ho⟩:=cl hk
  have:k∈Region.ready .any ops.toArray L:=by
   refine mem_ready.2 ⟨?_,o,by simpa using ho,λe he hb=>hall _ ?_⟩
   ·have:k<L.size:=by rw[hI.lsz];exact hk
    simp[this] at hn |-;exact hn
   ·refine hok.dir k o ho e.on ?_;simp only[cQ,gL,lG];exact⟨e,⟨by simpa using he,hb⟩,rfl⟩
  rw[h] at this;cases this
theorem MInv.final(hI:MInv vp P N ops C K E₀ w₀ L a w E T H nx)(hok:MixOk vp N.n ops C)(hall:∀k,k<ops.length->L.getD k false=true):K T H nx:=by
 have:ch C L=[]:=List.filter_eq_nil_iff.2 (λk hk=>by simp[hall k (hok.lt k hk)]);have h:=hI.rest;rw[this] at h;exact h
theorem wT(hvp:VP vp){rr:Option Nat}{Q:Exit->Act->World->Prop}(hok:MixOk vp N.n ops C)(hQ:∀E' T' H' nx' a' w',Ext E₀ w₀ E' w'->Sim E' N ⟨T',H',nx'⟩ a' w'->K T' H' nx'->Q .normal a' w'):
    ∀(fuel:Nat)(L:Array Bool)(a:Act)(w:World)(E:Env)(T:Tm)(H:Hp)(nx:Nat),MInv vp P N ops C K E₀ w₀ L a w E T H nx->left ops.length L<=fuel->wpAnyIn (FW rr) 0 P .any ops.toArray Q fuel L a w
 |0,L,a,w,E,T,H,nx,hI,hl=>by
  have hall:∀k,k<ops.length->L.getD k false=true:=by
   rcases lj L ops.length with h1|⟨k,hk,hn,hall⟩
   ·exact h1
   ·exfalso;have:left ops.length (L.setIfInBounds k true)<left ops.length L:=fj L k _ hk hI.lsz hn;omega
  have hr:Region.ready .any ops.toArray L=[]:=by
   refine zs.2 (λi hi=>?_);obtain⟨o,ho⟩:=fo hI.lsz hi;have:=hall i (bJ.1 ho.get).1;rw[ho.not] at this;cases this
  exact⟨hr,hQ E T H nx a w hI.ext hI.sim (hI.final hok hall)⟩
 |fuel+1,L,a,w,E,T,H,nx,hI,hl=>by
  refine⟨λhr=>hQ E T H nx a w hI.ext hI.sim (hI.final hok (hI.some_ready hok hr)),λi hi=>?_⟩;obtain⟨o,ho⟩:=fo hI.lsz hi;refine hI.step hvp hok ho (λa' w' E' T' H' nx' hI'=>wT hvp hok hQ fuel _ a' w' E' T' H' nx' hI' ?_);have:=fj L i ops.length (bJ.1 ho.get).1 hI.lsz ho.not;omega
theorem Cc{rr:Option Nat}{Q:Exit->Act->World->Prop}{rid:Nat}(hm:P.follows .mixedOrders=true)(hvp:VP vp)(hok:tP vp N.n ops C=true)(hS:Sim E₀ N ⟨T,H,nx⟩ a w₀)
    (h:kg vp P N.n (ops.map (·.dst)) (C.map λk=>ops.getD k default) T H nx K)
    (hQ:∀E' T' H' nx' a' w',Ext E₀ w₀ E' w'->Sim E' N ⟨T',H',nx'⟩ a' w'->K T' H' nx'->Q .normal a' w'):(Code.region rid ops.toArray true).wpIn (FW rr) 0 P Q a w₀:=by
 refine wpIn_region_any hm ?_;have hdr:({w₀ with drawn:=w₀.drawn+1}:World).heap=w₀.heap:=rfl;have hext:Ext E₀ w₀ E₀ {w₀ with drawn:=w₀.drawn+1}:=Ext.same hdr;have hok:=u9 hok
 have hfalse:∀k,(Array.replicate ops.toArray.size false).getD k false=false:=by
  intro k;simp only[tE,Array.getElem?_replicate];split<;>rfl
 have hrest:ch C (Array.replicate ops.toArray.size false)=C:=uH.2 (λk _=>by rw[hfalse];rfl);refine wT (C:=C) (K:=K) (E₀:=E₀) (w₀:=w₀) hvp hok hQ _ _ _ _ E₀ T H nx ⟨by simp,?_,hext,?_,by rw[hrest];exact h⟩ (by rw[List.size_toArray];unfold left;exact gK List.countP_le_length (by simp))
 ·intro j i h1;rw[hfalse] at h1;cases h1
 ·exact⟨hS.env.drew,hS.heap.same hdr,hS.fresh,hS.round,hS.floor,hS.size,λt=>(hS.tmps t).ext hext,hS.defers.ext hext⟩
end Go.Abs
namespace Go.Abs
open Go.RowKit
def Sub(S H:Hp):Prop:=∀b cs,S b=some cs->H b=some cs
theorem Ae{S H:Hp}(h:Sub S H){p x:AV}(hr:rd1 S p=some x):rd1 H p=some x:=by
 unfold rd1 at hr |-;split at hr
 ·rename_i b n off;cases hb:S b with
  |none=>rw[hb] at hr;cases hr
  |some cs=>rw[hb] at hr;simp only[h b cs hb];exact hr
 ·exact hr
 ·cases hr
theorem Cj{S H:Hp}(h:Sub S H){k:Nat}{p:AV}{x:List AV}(hr:rd S k p=some x):rd H k p=some x:=by
 unfold rd at hr |-;split at hr
 ·rename_i b n off;cases hb:S b with
  |none=>rw[hb] at hr;cases hr
  |some cs=>rw[hb] at hr;simp only[h b cs hb];exact hr
 ·exact hr
 ·cases hr
theorem y8{P:Program}{T:Tm}{S H:Hp}(h:Sub S H){op:Op}(hl:fK op=true){r:AV}(hr:cz P T S op=some r):cz P T H op=some r:=by
 cases op<;>first|(cases hl;done)|skip
 simp only[cz] at hr |-;unfold jt at hr |-;split at hr
 ·split at hr
  ·split at hr
   ·rw[Option.map_eq_some_iff] at hr;obtain⟨x,hx,rfl⟩:=hr;rename_i h0 h1 h2;rw[if_pos h0,if_pos h1,if_pos h2,Cj h hx];rfl
   ·cases hr
  ·rename_i h0 h1;rw[if_pos h0,if_neg h1];exact Ae h hr
 ·cases hr
def sv(vp:Op->Bool)(op:Op):Bool:=vp op || fK op
def fE:Op->Bool
 |.buildSlice ..=>true
 |_=>false
def pB:Option (AV×Hp×Nat)->Option AV
 |some (.msl 0 _ sz 0 len,H',_)=>match H' 0 with
  |some cs=>if sz=1 then(if len=cs.length/\len≠0/\cs.all AV.one=true then some (.sl 1 cs) else none)
   else if len=1/\cs.length=sz/\cs.all AV.one=true then some (.sl sz [.agg cs]) else none
  |none=>none
 |_=>none
def ui(P:Program)(T:Tm)(op:Op):Option AV:=if fE op=true then pB (ff P T bi 0 op) else none
theorem oe{x:Option (AV×Hp×Nat)}{r:AV}(h:pB x=some r):∃n H' k cs sz len es,x=some (.msl 0 n sz 0 len,H',k)/\H' 0=some cs/\len≠0/\cs.all AV.one=true/\r=.sl sz es/\es.length=len/\es.length*sz=cs.length/\(∀y∈es,y.cells.length=sz)/\∀(i j:Nat)(x y:AV),es[i]?=some x->x.cells[j]?=some y->cs[i*sz+j]?=some y:=by
 unfold pB at h;split at h
 ·rename_i n sz len H' k;split at h
  ·rename_i cs hcs;split at h
   ·rename_i hs;subst hs;split at h
    ·rename_i hc;obtain⟨hl,h0,ho⟩:=hc;cases h
     have hone:∀y∈cs,y.cells=[y]:=λy hy=>by
      have:=cV.1 ho y hy;cases y<;>first|rfl|(cases this;done)
     refine⟨n,H',k,cs,1,len,cs,rfl,hcs,h0,ho,rfl,hl.symm,Nat.mul_one _,λy hy=>by rw[hone y hy];rfl,λi j x y hx hy=>?_⟩;rw[hone x (gG hx)] at hy;cases j with
     |zero=>simp only[nC,jD] at hy;subst hy;rw[Nat.mul_one,rB];exact hx
     |succ j=>simp at hy
    ·cases h
   ·split at h
    ·rename_i hc;obtain⟨hl,h0,ho⟩:=hc;cases h;refine⟨n,H',k,cs,sz,len,[.agg cs],rfl,hcs,by omega,ho,rfl,hl.symm,by simp[h0],λy hy=>by rw[qZ.1 hy];exact h0,λi j x y hx hy=>?_⟩;cases i with
     |zero=>simp only[nC,jD] at hx;subst hx;rw[tx,eF];exact hy
     |succ i=>simp at hx
    ·cases h
  ·cases h
 ·cases h
theorem vQ{P:Program}{op:Op}{T T':Tm}(he:∀x∈op.operands,ev T x=ev T' x):ui P T op=ui P T' op:=by
 unfold ui;rw[l9 he]
theorem yb{op:Op}(h:fE op=true):opk op=.alloc:=by
 cases op<;>first|(cases h;done)|rfl
theorem tj{E:Env}{w:World}{n L s blk sz:Nat}{v:Value}(hL:L≠0)(h:Rel {E with mu:=λ_ _=>some (blk,sz)} w (.msl 0 n s 0 L) v):∃cap,v=.slice (some ⟨blk,0,none⟩) L cap/\L<=cap:=by
 cases h with
 |msl b n sz off len blk bsz cap hm hl hc hn=>
  simp only[jD,Prod.mk.injEq] at hm;obtain⟨rfl,rfl⟩:=hm;exact⟨cap,rfl,hl⟩
 |msl0 b sz v h=>exact absurd rfl hL
theorem yj{P:Program}{op:Op}{T:Tm}{H:Hp}{nx:Nat}{K:AV->Hp->Nat->Prop}{r:AV}(h:ui P T op=some r)(hk:K r H nx):cJ P op T H nx K:=by
 unfold ui at h;split at h
 case isFalse=>cases h
 case isTrue hb=>
 obtain⟨n,H1,k,cs,sz,len,es,h1,h2,h0,h3,rfl,e1,e2,e3,e4⟩:=oe h;refine⟨λc hc=>(by rw[hc] at hb;cases hb),?_⟩;rintro rr E w a o next Q ho hE hh hf ht hn;have h1':ff P T bi 0 o.op=some (.msl 0 n sz 0 len,H1,k):=by rw[ho];exact h1
 obtain⟨s,hs,hrun⟩:=qS (E:=E) (w:=w) (a:=a) (yb (by rw[ho];exact hb)) (by rw[ho];exact ht) h1';unfold sC at hrun;rcases hrun with hrun|⟨cells,vals,ty,v,hH,_,hrun,hlen,hrel,hv⟩
 ·rw[hrun.2.1] at h2;cases h2
 rw[hH] at h2;have h2:cells=cs:=by simpa[ah] using h2
 subst h2;obtain⟨cap,rfl,hcap⟩:=tj h0 (hv {E with mu:=λ_ _=>some (w.heap.size,vals.size)} w rfl);have hbw:Below w.heap.size w (w.alloc (.cells vals ty)):=(Below.refl _ _).alloc (bj _) _
 have hnew:(w.alloc (.cells vals ty)).heap[w.heap.size]?=some (.cells vals ty (0,0)):=by
  show(w.heap.push (.cells vals ty))[w.heap.size]?=_;simp
 have hsz:(w.alloc (.cells vals ty)).heap.size=w.heap.size+1:=by
  show(w.heap.push (.cells vals ty)).size=_;simp
 have he:Ext E w {E with imm:=λb=>E.imm b\/b=w.heap.size} (w.alloc (.cells vals ty)):=
  ⟨rfl,rfl,λ_ h=>.inl h,λb h=>h.imp id (λh=>by rw[h];exact hh.size),λ_ _ _ h=>h,λ_ _ h=>h,λ_ _ h=>h,λb h=>⟨h,hbw.block b (hE.dlt h)⟩,hbw.size,λb h=>hbw.block b (hE.lt b h)⟩
 have hE':EnvOk {E with imm:=λb=>E.imm b\/b=w.heap.size} (w.alloc (.cells vals ty)):=
  hE.step he (λb h=>h.imp id (λh=>by rw[hsz,h];omega)) (λk hk=>hk.imp id (λhge b hb'=>by have:=hE.splt hb';omega)) (hbw.mono hh.size) (Below.still hbw) rfl rfl rfl (λ_ _ _ _=>rfl)
 have hh':=hh.below he hbw rfl (λb h=>h.imp id (λh=>by rw[h];omega)) rfl;rw[hs];simp only[bg,hrun,a9,dl];rw[Oper.uponIn_value];refine hn _ H nx (.sl sz es) _ _ he hE' hh' (hf.of (bj _) (λ_ _ _=>rfl) rfl rfl) ?_ hk;rw[<-e1] at hcap |-;refine .sl sz es w.heap.size 0 cap (λi=>vals.getD i Go.undef) (.inr rfl) hcap e3 (λi hi=>?_) (λi j x y hx hy=>?_)
 ·rw[eF];refine cell?_of_heap hnew ?_;have:i<vals.size:=by omega
  simp[Array.getD,this]
 ·obtain⟨v',h5,_,h6⟩:=hrel _ y (e4 i j x y hx hy);have:i*sz+j<vals.size:=(gR.1 h5).1
  have e:vals.getD (i*sz+j) Go.undef=v':=by
   rw[x8 this] at h5;cases h5;simp[Array.getD,this]
  rw[e];exact h6.ext he
def pd:Op->Bool
 |.lookup ..=>true
 |_=>false
structure BP where
 b:Op->Bool
 l:Bool
 lv:Op->Tm->Hp->Option AV
 cg:∀{op:Op}{T T':Tm}{S:Hp},(∀x∈op.operands,ev T x=ev T' x)->lv op T S=lv op T' S
def o7(P:Program)(bp:BP):Prop:=bp.l=true->∀{op:Op}{T:Tm}{S H:Hp}{nx:Nat}{K:AV->Hp->Nat->Prop}{r:AV},pd op=true->bp.lv op T S=some r->Sub S H->K r H nx->cJ P op T H nx K
def tn(bp:BP)(op:Op):Bool:=fK op || (bp.l&&pd op)
def nv(vp:Op->Bool)(bp:BP)(op:Op):Bool:=sv vp op || (bp.b op&&fE op) || (bp.l&&pd op)
def o0(P:Program)(bp:BP)(T:Tm)(S:Hp)(op:Op):Option AV:=if (bp.b op&&fE op)=true then ui P T op else if (bp.l&&pd op)=true then bp.lv op T S else cz P T S op
theorem pH{P:Program}{bp:BP}{op:Op}{T T':Tm}{S:Hp}(he:∀x∈op.operands,ev T x=ev T' x):o0 P bp T S op=o0 P bp T' S op:=by
 unfold o0;rw[vQ he,gc he,bp.cg he]
def eV(vp:Op->Bool)(bp:BP)(P:Program)(S:Hp)(op:Op)(keep:Bool)(T:Tm)(H:Hp)(nx:Nat)(K:AV->Hp->Nat->Prop):Prop:=
 if nv vp bp op=true then aC (o0 P bp T S op) λr=>K r H nx else o8 P .text op T H nx λr H' nx'=>(keep=true->Sub S H')/\K r H' nx'
def ik(vp:Op->Bool)(bp:BP)(P:Program)(n:Nat)(dsts:List (Option Nat))(S:Hp)(o:Oper×Bool)(T:Tm)(H:Hp)(nx:Nat)(K:SP):Prop:=
 bf (dok n o.1.dst) (bn (gval T dsts o.1.guard) (eV vp bp P S o.1.op o.2 T H nx λr H' nx'=>K (aD T o.1.dst r) H' nx') (K (aD T o.1.dst (.tup [])) H nx))
def fT(vp:Op->Bool)(bp:BP)(P:Program)(n:Nat)(dsts:List (Option Nat))(S:Hp):List (Oper×Bool)->Tm->Hp->Nat->SP->Prop
 |[],T,H,nx,K=>K T H nx
 |o::l,T,H,nx,K=>ik vp bp P n dsts S o T H nx λT H nx=>fT vp bp P n dsts S l T H nx K
theorem pM{vp:Op->Bool}{bp:BP}{P:Program}{S:Hp}{op:Op}{keep:Bool}{T:Tm}{H:Hp}{nx:Nat}{K K':AV->Hp->Nat->Prop}(h:eV vp bp P S op keep T H nx K)(hK:∀r H nx,K r H nx->K' r H nx):eV vp bp P S op keep T H nx K':=by
 unfold eV at h |-;split
 ·rename_i hp;rw[if_pos hp] at h;obtain⟨a,ha,hk⟩:=cL h;rw[ha];exact hK _ _ _ hk
 ·rename_i hp;rw[if_neg hp] at h;exact iq h (λr H nx hh=>⟨hh.1,hK _ _ _ hh.2⟩)
theorem ed{vp:Op->Bool}{bp:BP}{P:Program}{n:Nat}{dsts:List (Option Nat)}{S:Hp}{o:Oper×Bool}{T:Tm}{H:Hp}{nx:Nat}{K K':SP}(h:ik vp bp P n dsts S o T H nx K)(hK:∀r H nx,K (aD T o.1.dst r) H nx->K' (aD T o.1.dst r) H nx):ik vp bp P n dsts S o T H nx K':=by
 refine⟨h.1,?_⟩;have h:=h.2;cases hg:gval T dsts o.1.guard with
 |none=>rw[hg] at h;exact h.elim
 |some b=>
  rw[hg] at h;cases b with
  |true=>exact pM (K:=λr H' nx'=>K (aD T o.1.dst r) H' nx') h (λr H nx=>hK r H nx)
  |false=>exact hK _ _ _ h
theorem jL{vp:Op->Bool}{bp:BP}{P:Program}{n:Nat}{dsts:List (Option Nat)}{S:Hp}{K K':SP}(hK:∀T H nx,K T H nx->K' T H nx):∀(l:List (Oper×Bool)){T:Tm}{H:Hp}{nx:Nat},fT vp bp P n dsts S l T H nx K->fT vp bp P n dsts S l T H nx K'
 |[],_,_,_,h=>hK _ _ _ h
 |o::l,_,_,_,h=>ed h (λ_ _ _=>jL hK l)
theorem uL{vp:Op->Bool}{bp:BP}{P:Program}{S:Hp}{op:Op}{keep:Bool}{T T':Tm}{H:Hp}{nx:Nat}{K:AV->Hp->Nat->Prop}(he:∀x∈op.operands,ev T x=ev T' x)(h:eV vp bp P S op keep T H nx K):eV vp bp P S op keep T' H nx K:=by
 unfold eV at h |-;split
 ·rename_i hp;rw[if_pos hp] at h;rw[<-pH he];exact h
 ·rename_i hp;rw[if_neg hp] at h;rcases h with h|h
  ·exact .inl (oE he h)
  ·exact .inr ⟨h.1,oU he h.2⟩
theorem vC{vp:Op->Bool}{bp:BP}(hv:VP vp){P:Program}(hb:o7 P bp){n:Nat}{dsts:List (Option Nat)}{S:Hp}{o:Oper×Bool}{T:Tm}{H:Hp}{nx:Nat}{K:SP}(hs:tn bp o.1.op=true->Sub S H)(h:ik vp bp P n dsts S o T H nx K):
    aop P n .text dsts o.1 T H nx λT1 H1 nx1=>(H1=H\/(o.2=true->Sub S H1))/\K T1 H1 nx1:=by
 refine⟨h.1,?_⟩;have h:=h.2;cases hg:gval T dsts o.1.guard with
 |none=>rw[hg] at h;exact h.elim
 |some b=>
  rw[hg] at h;cases b with
  |false=>exact⟨.inl rfl,h⟩
  |true=>
   have h:eV vp bp P S o.1.op o.2 T H nx λr H' nx'=>K (aD T o.1.dst r) H' nx':=h;show o8 P .text o.1.op T H nx λr H' nx'=>(H'=H\/(o.2=true->Sub S H'))/\K (aD T o.1.dst r) H' nx';unfold eV at h;split at h
   ·rename_i hp;obtain⟨r,hr,hk⟩:=cL h;by_cases hbl:(bp.b o.1.op&&fE o.1.op)=true
    ·unfold o0 at hr;rw[if_pos hbl] at hr;exact .inr ⟨rfl,yj hr ⟨.inl rfl,hk⟩⟩
    unfold o0 at hr;rw[if_neg hbl] at hr;by_cases hlk:(bp.l&&pd o.1.op)=true
    ·rw[if_pos hlk] at hr;have hs':=hs (by unfold tn;rw[hlk,Bool.or_true]);rw[cE] at hlk;exact .inr ⟨rfl,hb hlk.1 hlk.2 hr hs' ⟨.inl rfl,hk⟩⟩
    rw[if_neg hlk] at hr
    have hp:sv vp o.1.op=true:=by
     unfold nv at hp;rw[jT,jT] at hp;exact(hp.resolve_right hlk).resolve_right hbl
    have hval:cz P T H o.1.op=some r/\opc o.1.op=.val:=by
     unfold sv at hp;rw[jT] at hp;rcases hp with hp|hp
     ·exact⟨by rw[nz (H':=S) (hv.pure _ hp)];exact hr,ut (hv.pure _ hp)⟩
     ·refine⟨y8 (hs (by unfold tn;rw[hp,Bool.true_or])) hp hr,?_⟩;revert hp;cases o.1.op<;>intro hp<;>first|(cases hp;done)|rfl
    left;unfold jl;rw[hval.2];refine⟨rfl,?_⟩;rw[hval.1];exact⟨.inl rfl,hk⟩
   ·exact iq h (λr H' nx' hh=>⟨.inr hh.1,hh.2⟩)
def qM(P:Program)(bp:BP)(dsts:List (Option Nat))(o:Oper)(T:Tm)(H:Hp):Option AV:=match gval T dsts o.guard with
 |some true=>o0 P bp T H o.op
 |some false=>some (.tup [])
 |none=>none
structure FreeN(vp:Op->Bool)(bp:BP)(ops:List Oper)(x o:Oper):Prop where
 d:∀t,o.dst=some t->x.dst≠some t
 l1:∀t,o.dst=some t->t∉x.looksAt ops.toArray
 l2:∀t,x.dst=some t->t∉o.looksAt ops.toArray
 k:nv vp bp x.op=true
theorem yD{vp:Op->Bool}{bp:BP}{P:Program}{n:Nat}{dsts:List (Option Nat)}{S:Hp}{o:Oper×Bool}{T:Tm}{H:Hp}{nx:Nat}{K:SP}(hp:nv vp bp o.1.op=true)(h:ik vp bp P n dsts S o T H nx K):∃v,qM P bp dsts o.1 T S=some v/\K (aD T o.1.dst v) H nx:=by
 obtain⟨_,h⟩:=h;unfold qM;cases hg:gval T dsts o.1.guard with
 |none=>rw[hg] at h;exact h.elim
 |some b=>
  rw[hg] at h;cases b with
  |true=>
   have h:eV vp bp P S o.1.op o.2 T H nx λr H' nx'=>K (aD T o.1.dst r) H' nx':=h;unfold eV at h;rw[if_pos hp] at h;exact cL h
  |false=>exact⟨_,rfl,h⟩
theorem tQ{vp:Op->Bool}{bp:BP}{P:Program}{n:Nat}{dsts:List (Option Nat)}{S:Hp}{o:Oper×Bool}{T:Tm}{H:Hp}{nx:Nat}{K:SP}(hp:nv vp bp o.1.op=true)(hd:dok n o.1.dst=true){v:AV}(hv:qM P bp dsts o.1 T S=some v)(hk:K (aD T o.1.dst v) H nx):ik vp bp P n dsts S o T H nx K:=by
 refine⟨hd,?_⟩;unfold qM at hv;cases hg:gval T dsts o.1.guard with
 |none=>rw[hg] at hv;cases hv
 |some b=>
  rw[hg] at hv;cases b with
  |true=>
   show eV vp bp P S o.1.op o.2 T H nx _;unfold eV;rw[if_pos hp];have hv:o0 P bp T S o.1.op=some v:=hv;rw[hv];exact hk
  |false=>cases hv;exact hk
theorem ul{P:Program}{bp:BP}{ops:List Oper}{o:Oper}{T T':Tm}{S:Hp}(ha:iQ ops o T T'):qM P bp (ops.map (·.dst)) o T S=qM P bp (ops.map (·.dst)) o T' S:=by
 unfold qM;rw[ha.gval];cases gval T' (ops.map (·.dst)) o.guard with
 |none=>rfl
 |some b=>
  cases b with
  |true=>simp only;rw[pH ha.ev]
  |false=>rfl
theorem yY{vp:Op->Bool}{bp:BP}{P:Program}{n:Nat}{ops:List Oper}{S:Hp}{x o:Oper×Bool}{T:Tm}{H:Hp}{nx:Nat}{K:SP}(hf:FreeN vp bp ops x.1 o.1)
    (h:ik vp bp P n (ops.map (·.dst)) S x T H nx λT1 H1 nx1=>ik vp bp P n (ops.map (·.dst)) S o T1 H1 nx1 K):ik vp bp P n (ops.map (·.dst)) S o T H nx λT1 H1 nx1=>ik vp bp P n (ops.map (·.dst)) S x T1 H1 nx1 K:=by
 have hdx:=h.1;obtain⟨r,hr,h⟩:=yD hf.k h;have ha:iQ ops o.1 T (aD T x.1.dst r):=iQ.upd hf.l2
 have hx:∀(q:AV)(H1:Hp)(nx1:Nat),K (aD (aD T x.1.dst r) o.1.dst q) H1 nx1->ik vp bp P n (ops.map (·.dst)) S x (aD T o.1.dst q) H1 nx1 K:=by
  intro q H1 nx1 hk;refine tQ hf.k hdx (v:=r) ?_ ?_
  ·rw[<-hr];exact(ul (iQ.upd hf.l1)).symm
  ·rw[<-sd hf.d];exact hk
 obtain⟨hdo,h⟩:=h;refine⟨hdo,?_⟩;rw[ha.gval];cases hg:gval (aD T x.1.dst r) (ops.map (·.dst)) o.1.guard with
 |none=>rw[hg] at h;exact h.elim
 |some b=>
  rw[hg] at h;cases b with
  |true=>
   have h:eV vp bp P S o.1.op o.2 (aD T x.1.dst r) H nx λq H' nx'=>K (aD (aD T x.1.dst r) o.1.dst q) H' nx':=h;exact pM (uL (λy hy=>(ha.ev y hy).symm) h) (λq H' nx' hk=>hx q H' nx' hk)
  |false=>exact hx _ _ _ h
theorem zE{vp:Op->Bool}{bp:BP}{P:Program}{n:Nat}{ops:List Oper}{S:Hp}{o:Oper×Bool}{l2:List (Oper×Bool)}{K:SP}:∀(l1:List (Oper×Bool)){T:Tm}{H:Hp}{nx:Nat},(∀x∈l1,FreeN vp bp ops x.1 o.1)->
    fT vp bp P n (ops.map (·.dst)) S (l1++o::l2) T H nx K->ik vp bp P n (ops.map (·.dst)) S o T H nx λT H nx=>fT vp bp P n (ops.map (·.dst)) S (l1++l2) T H nx K
 |[],_,_,_,_,h=>h
 |x::l1,T,H,nx,hf,h=>by
  have h:ik vp bp P n (ops.map (·.dst)) S x T H nx λT H nx=>fT vp bp P n (ops.map (·.dst)) S (l1++o::l2) T H nx K:=h
  have h:ik vp bp P n (ops.map (·.dst)) S x T H nx λT H nx=>ik vp bp P n (ops.map (·.dst)) S o T H nx λT H nx=>fT vp bp P n (ops.map (·.dst)) S (l1++l2) T H nx K:=
   ed h (λr H1 nx1 h=>zE l1 (λy hy=>hf y (by simp[hy])) h)
  exact yY (hf x (by simp)) h
def freeNB(vp:Op->Bool)(bp:BP)(ops:List Oper)(x o:Oper):Bool:=
 (match o.dst with|some t=>x.dst !=some t&& !(x.looksAt ops.toArray).contains t|none=>true)&&
 (match x.dst with|some t=>!(o.looksAt ops.toArray).contains t|none=>true)&&nv vp bp x.op
theorem nw{vp:Op->Bool}{bp:BP}{ops:List Oper}{x o:Oper}(h:freeNB vp bp ops x o=true):FreeN vp bp ops x o:=by
 unfold freeNB at h;simp only[cE] at h;obtain⟨⟨h1,h2⟩,h3⟩:=h;refine⟨λt ht=>?_,λt ht=>?_,λt ht=>?_,h3⟩
 ·rw[ht] at h1;simp at h1;exact h1.1
 ·rw[ht] at h1;simp at h1;exact h1.2
 ·rw[ht] at h2;simp at h2;exact h2
def eR(bp:BP)(ops:List Oper)(i:Nat):Bool:=(List.range ops.length).any λj=>j !=i&&tn bp (ops.getD j default).op&& !cH (Region.before ops.toArray) i j
def nr(vp:Op->Bool)(bp:BP)(n:Nat)(ops:List Oper)(C:List Nat):Bool:=
 let m:=Region.before ops.toArray
 let len:=ops.length
 ((List.range len).all λj=>(cQ (ops.getD j default)).all λk=>k<j)&&
 ((List.range len).all λj=>(List.range len).all λi=>!cH m j i || (cQ (ops.getD j default)).any λk=>k==i || cH m k i)&&
 (n5 (λk i=>k !=i&&((ops.getD i default).dst.isNone || (ops.getD i default).dst !=(ops.getD k default).dst)&&(cH m i k || freeNB vp bp ops (ops.getD k default) (ops.getD i default))) C)&&
 ((List.range len).all λi=>C.contains i)&&(C.all λi=>i<len)&&((List.range len).all λi=>dok n (ops.getD i default).dst)
structure MixNOk(vp:Op->Bool)(bp:BP)(n:Nat)(ops:List Oper)(C:List Nat):Prop where
 dir:∀(j:Nat)(o:Oper),ops[j]?=some o->∀k∈cQ o,k<j
 clo:∀(j:Nat)(o:Oper)(i:Nat),ops[j]?=some o->i<ops.length->cH (Region.before ops.toArray) j i=true->∃k∈cQ o,k=i\/cH (Region.before ops.toArray) k i=true
 pw:C.Pairwise (λk i=>k≠i/\(∀t,(ops.getD i default).dst=some t->(ops.getD k default).dst≠some t)/\(cH (Region.before ops.toArray) i k=true\/FreeN vp bp ops (ops.getD k default) (ops.getD i default)))
 all:∀i,i<ops.length->i∈C
 lt:∀i∈C,i<ops.length
 dk:∀(i:Nat)(o:Oper),ops[i]?=some o->dok n o.dst=true
theorem nU{vp:Op->Bool}{bp:BP}{n:Nat}{ops:List Oper}{C:List Nat}(h:nr vp bp n ops C=true):MixNOk vp bp n ops C:=by
 simp only[nr,cE,cV,gJ,lc] at h;obtain⟨⟨⟨⟨⟨h1,h2⟩,h3⟩,h4⟩,h5⟩,h6⟩:=h;have hlt:=λ{k:Nat}{o:Oper}(hk:ops[k]?=some o)=>(bJ.1 hk).1;refine⟨λj o ho k hk=>?_,λj o i ho hi hb=>?_,(lu h3).imp (λ{k i} h=>?_),λi hi=>by simpa using h4 i hi,h5,λi o ho=>?_⟩
 ·have:=h1 j (hlt ho) k;rw[ca ho] at this;exact this hk
 ·have:=h2 j (hlt ho) i hi;rw[ca ho,hb] at this;simp only[Bool.not_true,Bool.false_or,sO,jT,beq_iff_eq] at this;exact this
 ·simp only[cE,jT] at h;obtain⟨⟨h7,h8⟩,h9⟩:=h;refine⟨by simpa using h7,λt ht=>?_,h9.imp id nw⟩;rw[ht] at h8;simp at h8;exact λe=>h8 e.symm
 ·have:=h6 i (hlt ho);rw[ca ho] at this;exact this
def db(bp:BP)(ops:List Oper)(k:Nat):Oper×Bool:=(ops.getD k default,eR bp ops k)
structure NInv(vp:Op->Bool)(bp:BP)(P:Program)(N:Cfg)(ops:List Oper)(C:List Nat)(S:Hp)(K:SP)(E₀:Env)(w₀:World)(L:Array Bool)(a:Act)(w:World)(E:Env)(T:Tm)(H:Hp)(nx:Nat):Prop where
 lsz:L.size=ops.length
 dc:∀j i,L.getD j false=true->cH (Region.before ops.toArray) j i=true->i<ops.length->L.getD i false=true
 ext:Ext E₀ w₀ E w
 sim:Sim E N ⟨T,H,nx⟩ a w
 st:∀j,j<ops.length->tn bp (ops.getD j default).op=true->L.getD j false=false->Sub S H
 rest:fT vp bp P N.n (ops.map (·.dst)) S ((ch C L).map (db bp ops)) T H nx K
variable{vp:Op->Bool}{bp:BP}{P:Program}{N:Cfg}{ops:List Oper}{C:List Nat}{S:Hp}{K:SP}{E₀:Env}{w₀:World}{L:Array Bool}{a:Act}{w:World}{E:Env}{T:Tm}{H:Hp}{nx:Nat}
theorem kD(hC:C.Pairwise (λk i=>k≠i/\(∀t,(ops.getD i default).dst=some t->(ops.getD k default).dst≠some t)/\(cH (Region.before ops.toArray) i k=true\/FreeN vp bp ops (ops.getD k default) (ops.getD i default))))
    {i:Nat} (hi:i∈ch C L) (hil:i<L.size):∃l1 l2,ch C L=l1++i::l2/\ch C (L.setIfInBounds i true)=l1++l2/\
     (∀k∈l1,cH (Region.before ops.toArray) i k=true\/FreeN vp bp ops (ops.getD k default) (ops.getD i default)):=by
 obtain⟨l1,l2,e⟩:=List.append_of_mem hi;have hp:(ch C L).Pairwise _:=hC.filter _;rw[e] at hp;obtain⟨p1,p2,p3⟩:=List.pairwise_append.1 hp;obtain⟨p4,p5⟩:=A7.1 p2;refine⟨l1,l2,e,?_,λk hk=>(p3 k hk i (by simp)).2.2⟩
 have e2:ch C (L.setIfInBounds i true)=(ch C L).filter λk=>decide (k≠i):=by
  unfold ch;rw[List.filter_filter];refine List.filter_congr (λk _=>?_);rw[d8 L i k hil];by_cases h:k=i<;>simp[h]
 rw[e2,e,List.filter_append,List.filter_cons];have n1:l1.filter (λk=>decide (k≠i))=l1:=uH.2 (λk hk=>bk (p3 k hk i (by simp)).1);have n2:l2.filter (λk=>decide (k≠i))=l2:=uH.2 (λk hk=>bk (λh=>(p4 k hk).1 h.symm));rw[n1,n2];simp
theorem NInv.bits(hI:NInv vp bp P N ops C S K E₀ w₀ L a w E T H nx)(hok:MixNOk vp bp N.n ops C){i:Nat}{o:Oper}(hr:Ready ops L i o){k:Nat}(hk:k<ops.length)(hb:cH (Region.before ops.toArray) i k=true):L.getD k false=true:=by
 obtain⟨q,hq,h⟩:=hok.clo i o k hr.get hk hb;rcases h with rfl|h
 ·exact hr.dir _ hq
 ·exact hI.dc q k (hr.dir _ hq) h hk
theorem NInv.step(hvp:VP vp)(hbp:o7 P bp){rr:Option Nat}{Q:Exit->Act->World->Prop}{K':Act->World->Prop}(hI:NInv vp bp P N ops C S K E₀ w₀ L a w E T H nx)(hok:MixNOk vp bp N.n ops C){i:Nat}{o:Oper}(hr:Ready ops L i o)
    (hK:∀a' w' E' T' H' nx',NInv vp bp P N ops C S K E₀ w₀ (L.setIfInBounds i true) a' w' E' T' H' nx'->K' a' w'):wpOpIn (FW rr) 0 P ops.toArray Q i K' a w:=by
 have hi:i<ops.length:=(bJ.1 hr.get).1;have hgeti:(ops.toArray)[i]?=some o:=by simpa using hr.get
 unfold wpOpIn;rw[hgeti];simp only;have hmem:i∈ch C L:=lG.2 ⟨hok.all i hi,by rw[hr.not];rfl⟩;obtain⟨l1,l2,e1,e2,f1⟩:=kD hok.pw hmem (by rw[hI.lsz];exact hi);have hgo:ops.getD i default=o:=ca hr.get
 have hfree:∀k∈l1,FreeN vp bp ops (ops.getD k default) o:=by
  intro k hk;rcases f1 k hk with h|h
  ·have hkC:k∈ch C L:=by rw[e1];simp[hk]
   obtain⟨h1,h2⟩:=lG.1 hkC;have:=hI.bits hok hr (hok.lt k h1) h;rw[this] at h2;cases h2
  ·rw[hgo] at h;exact h
 have hrest:=hI.rest;rw[e1,eU,gD] at hrest;have hpo:db bp ops i=(o,eR bp ops i):=by unfold db;rw[hgo]
 rw[hpo] at hrest
 have hpull:=zE (o:=(o,eR bp ops i)) (l1.map (db bp ops)) (fun x hx=>by
  obtain⟨k,hk,rfl⟩:=gL.1 hx;exact hfree k hk) hrest
 have hpull2:ik vp bp P N.n (ops.map (·.dst)) S (o,eR bp ops i) T H nx λT' H' nx'=>fT vp bp P N.n (ops.map (·.dst)) S ((l1++l2).map (db bp ops)) T' H' nx' K:=
  ed hpull (λr H1 nx1 h=>by rw[eU];exact h)
 have hset:=λk=>d8 L i k (by rw[hI.lsz];exact hi);have hld:tn bp o.op=true->Sub S H:=λh=>hI.st i hi (by rw[hgo];exact h) hr.not;have hs:=jG (rr:=rr) (ops:=ops.toArray) (Q:=Q) (next:=K') hI.sim (vC hvp hbp hld hpull2) (λE' T' H' nx' a' w' he hS hk=>?_)
 ·exact hs
 ·obtain⟨ec,hk⟩:=hk;refine hK a' w' E' T' H' nx' ⟨by simp[hI.lsz],?_,hI.ext.trans he,hS,?_,by rw[e2];exact hk⟩
  ·intro j k hj hb hkl;rw[hset] at hj |-;by_cases hki:k=i
   ·rw[if_pos hki]
   ·rw[if_neg hki];by_cases hji:j=i
    ·subst hji;exact hI.bits hok hr hkl hb
    ·rw[if_neg hji] at hj;exact hI.dc j k hj hb hkl
  ·intro j hj hl hn;rw[hset] at hn;by_cases hji:j=i
   ·rw[if_pos hji] at hn;cases hn
   rw[if_neg hji] at hn;rcases ec with rfl|ec
   ·exact hI.st j hj hl hn
   ·refine ec ?_;show eR bp ops i=true;unfold eR;rw[sO];refine⟨j,gJ.2 hj,?_⟩;rw[cE,cE];refine⟨⟨by simpa using hji,hl⟩,?_⟩;cases hb:cH (Region.before ops.toArray) i j with
    |false=>rfl
    |true=>
     have:=hI.bits hok hr hj hb;rw[this] at hn;cases hn
theorem NInv.some_ready(hI:NInv vp bp P N ops C S K E₀ w₀ L a w E T H nx)(hok:MixNOk vp bp N.n ops C)(h:Region.ready .any ops.toArray L=[]):∀k,k<ops.length->L.getD k false=true:=by
 rcases lj L ops.length with h1|⟨k,hk,hn,hall⟩
 ·exact h1
 ·exfalso;obtain⟨o,ho⟩:=cl hk
  have:k∈Region.ready .any ops.toArray L:=by
   refine mem_ready.2 ⟨?_,o,by simpa using ho,λe he hb=>hall _ ?_⟩
   ·have:k<L.size:=by rw[hI.lsz];exact hk
    simp[this] at hn |-;exact hn
   ·refine hok.dir k o ho e.on ?_;simp only[cQ,gL,lG];exact⟨e,⟨by simpa using he,hb⟩,rfl⟩
  rw[h] at this;cases this
theorem NInv.final(hI:NInv vp bp P N ops C S K E₀ w₀ L a w E T H nx)(hok:MixNOk vp bp N.n ops C)(hall:∀k,k<ops.length->L.getD k false=true):K T H nx:=by
 have:ch C L=[]:=List.filter_eq_nil_iff.2 (λk hk=>by simp[hall k (hok.lt k hk)]);have h:=hI.rest;rw[this] at h;exact h
theorem uM(hvp:VP vp)(hbp:o7 P bp){rr:Option Nat}{Q:Exit->Act->World->Prop}(hok:MixNOk vp bp N.n ops C)(hQ:∀E' T' H' nx' a' w',Ext E₀ w₀ E' w'->Sim E' N ⟨T',H',nx'⟩ a' w'->K T' H' nx'->Q .normal a' w'):
    ∀(fuel:Nat)(L:Array Bool)(a:Act)(w:World)(E:Env)(T:Tm)(H:Hp)(nx:Nat),NInv vp bp P N ops C S K E₀ w₀ L a w E T H nx->left ops.length L<=fuel->wpAnyIn (FW rr) 0 P .any ops.toArray Q fuel L a w
 |0,L,a,w,E,T,H,nx,hI,hl=>by
  have hall:∀k,k<ops.length->L.getD k false=true:=by
   rcases lj L ops.length with h1|⟨k,hk,hn,hall⟩
   ·exact h1
   ·exfalso;have:left ops.length (L.setIfInBounds k true)<left ops.length L:=fj L k _ hk hI.lsz hn;omega
  have hr:Region.ready .any ops.toArray L=[]:=by
   refine zs.2 (λi hi=>?_);obtain⟨o,ho⟩:=fo hI.lsz hi;have:=hall i (bJ.1 ho.get).1;rw[ho.not] at this;cases this
  exact⟨hr,hQ E T H nx a w hI.ext hI.sim (hI.final hok hall)⟩
 |fuel+1,L,a,w,E,T,H,nx,hI,hl=>by
  refine⟨λhr=>hQ E T H nx a w hI.ext hI.sim (hI.final hok (hI.some_ready hok hr)),λi hi=>?_⟩;obtain⟨o,ho⟩:=fo hI.lsz hi;refine hI.step hvp hbp hok ho (λa' w' E' T' H' nx' hI'=>uM hvp hbp hok hQ fuel _ a' w' E' T' H' nx' hI' ?_);have:=fj L i ops.length (bJ.1 ho.get).1 hI.lsz ho.not;omega
theorem zT{rr:Option Nat}{Q:Exit->Act->World->Prop}{rid:Nat}(hm:P.follows .mixedOrders=true)(hvp:VP vp)(hbp:o7 P bp)(hok:nr vp bp N.n ops C=true)(hS:Sim E₀ N ⟨T,H,nx⟩ a w₀)(hs:Sub S H)
    (h:fT vp bp P N.n (ops.map (·.dst)) S (C.map (db bp ops)) T H nx K)
    (hQ:∀E' T' H' nx' a' w',Ext E₀ w₀ E' w'->Sim E' N ⟨T',H',nx'⟩ a' w'->K T' H' nx'->Q .normal a' w'):(Code.region rid ops.toArray true).wpIn (FW rr) 0 P Q a w₀:=by
 refine wpIn_region_any hm ?_;have hdr:({w₀ with drawn:=w₀.drawn+1}:World).heap=w₀.heap:=rfl;have hext:Ext E₀ w₀ E₀ {w₀ with drawn:=w₀.drawn+1}:=Ext.same hdr;have hok:=nU hok
 have hfalse:∀k,(Array.replicate ops.toArray.size false).getD k false=false:=by
  intro k;simp only[tE,Array.getElem?_replicate];split<;>rfl
 have hrest:ch C (Array.replicate ops.toArray.size false)=C:=uH.2 (λk _=>by rw[hfalse];rfl);refine uM (C:=C) (K:=K) (S:=S) (E₀:=E₀) (w₀:=w₀) hvp hbp hok hQ _ _ _ _ E₀ T H nx ⟨by simp,?_,hext,?_,λ_ _ _ _=>hs,by rw[hrest];exact h⟩ (by rw[List.size_toArray];unfold left;exact gK List.countP_le_length (by simp))
 ·intro j i h1;rw[hfalse] at h1;cases h1
 ·exact⟨hS.env.drew,hS.heap.same hdr,hS.fresh,hS.round,hS.floor,hS.size,λt=>(hS.tmps t).ext hext,hS.defers.ext hext⟩
end Go.Abs
namespace Go.Abs
open Go.RowKit
def jH(vp:Op->Bool)(bp:BP)(P:Program)(n:Nat)(dsts:List (Option Nat))(S:Hp)(f:Oper×Bool)(l2:List (Oper×Bool)):List (Oper×Bool)->Tm->Hp->Nat->SP->Prop
 |[],T,H,nx,K=>fT vp bp P n dsts S (f::l2) T H nx K
 |o::l,T,H,nx,K=>(nv vp bp o.1.op=false->fT vp bp P n dsts S (f::o::(l++l2)) T H nx K)/\ik vp bp P n dsts S o T H nx λT H nx=>jH vp bp P n dsts S f l2 l T H nx K
theorem px{vp:Op->Bool}{bp:BP}{P:Program}{n:Nat}{dsts:List (Option Nat)}{S:Hp}{f:Oper×Bool}{l2:List (Oper×Bool)}{K K':SP}(hK:∀T H nx,K T H nx->K' T H nx):∀(l:List (Oper×Bool)){T:Tm}{H:Hp}{nx:Nat},jH vp bp P n dsts S f l2 l T H nx K->jH vp bp P n dsts S f l2 l T H nx K'
 |[],_,_,_,h=>jL hK _ h
 |o::l,_,_,_,h=>⟨λhn=>jL hK _ (h.1 hn),ed h.2 (λ_ _ _=>px hK l)⟩
theorem Bn{vp:Op->Bool}{bp:BP}{P:Program}{n:Nat}{ops:List Oper}{S:Hp}{f o:Oper×Bool}{l2 l3:List (Oper×Bool)}{K:SP}:∀(l1:List (Oper×Bool)){T:Tm}{H:Hp}{nx:Nat},(∀x∈l1,FreeN vp bp ops x.1 o.1)->
    jH vp bp P n (ops.map (·.dst)) S f l2 (l1++o::l3) T H nx K->ik vp bp P n (ops.map (·.dst)) S o T H nx λT H nx=>jH vp bp P n (ops.map (·.dst)) S f l2 (l1++l3) T H nx K
 |[],_,_,_,_,h=>h.2
 |x::l1,T,H,nx,hf,h=>by
  have hx:=hf x (by simp);have h:ik vp bp P n (ops.map (·.dst)) S x T H nx λT H nx=>jH vp bp P n (ops.map (·.dst)) S f l2 (l1++o::l3) T H nx K:=h.2
  have h:ik vp bp P n (ops.map (·.dst)) S x T H nx λT H nx=>ik vp bp P n (ops.map (·.dst)) S o T H nx λT H nx=>jH vp bp P n (ops.map (·.dst)) S f l2 (l1++l3) T H nx K:=
   ed h (λr H1 nx1 h=>Bn l1 (λy hy=>hf y (by simp[hy])) h)
  refine ed (yY hx h) (λr H1 nx1 h=>⟨λhn=>?_,h⟩);rw[hx.k] at hn;cases hn
theorem Bg{vp:Op->Bool}{bp:BP}{P:Program}{n:Nat}{ops:List Oper}{S:Hp}{f:Oper×Bool}{l2:List (Oper×Bool)}{K:SP}:∀(l:List (Oper×Bool)){T:Tm}{H:Hp}{nx:Nat},(∀x∈l,nv vp bp x.1.op=true->FreeN vp bp ops x.1 f.1)->
    jH vp bp P n (ops.map (·.dst)) S f l2 l T H nx K->ik vp bp P n (ops.map (·.dst)) S f T H nx λT H nx=>fT vp bp P n (ops.map (·.dst)) S (l++l2) T H nx K
 |[],_,_,_,_,h=>h
 |x::l,T,H,nx,hf,h=>by
  cases hn:nv vp bp x.1.op with
  |false=>exact h.1 hn
  |true=>
   have h:=h.2;exact yY (hf x (by simp) hn) (ed h (λr H1 nx1 h=>Bg l (λy hy=>hf y (by simp[hy])) h))
def qF(vp:Op->Bool)(bp:BP)(n:Nat)(ops:List Oper)(f:Nat)(C D:List Nat):Bool:=
 let m:=Region.before ops.toArray
 let len:=ops.length
 ((List.range len).all λj=>(cQ (ops.getD j default)).all λk=>k<j)&&
 ((List.range len).all λj=>(List.range len).all λi=>!cH m j i || (cQ (ops.getD j default)).any λk=>k==i || cH m k i)&&
 (n5 (λk i=>k !=i&&((ops.getD i default).dst.isNone || (ops.getD i default).dst !=(ops.getD k default).dst)&&(cH m i k || freeNB vp bp ops (ops.getD k default) (ops.getD i default))) (C++D))&&
 ((List.range len).all λi=>i==f || (C++D).contains i)&&((C++D).all λi=>i<len&&i !=f)&&decide (f<len)&&((List.range len).all λi=>dok n (ops.getD i default).dst)&&
 (C.all λk=>!nv vp bp (ops.getD k default).op || freeNB vp bp ops (ops.getD k default) (ops.getD f default))&&(D.all λk=>cH m k f)&& !tn bp (ops.getD f default).op
structure MixFOk(vp:Op->Bool)(bp:BP)(n:Nat)(ops:List Oper)(f:Nat)(C D:List Nat):Prop where
 dir:∀(j:Nat)(o:Oper),ops[j]?=some o->∀k∈cQ o,k<j
 clo:∀(j:Nat)(o:Oper)(i:Nat),ops[j]?=some o->i<ops.length->cH (Region.before ops.toArray) j i=true->∃k∈cQ o,k=i\/cH (Region.before ops.toArray) k i=true
 pw:(C++D).Pairwise (λk i=>k≠i/\(∀t,(ops.getD i default).dst=some t->(ops.getD k default).dst≠some t)/\(cH (Region.before ops.toArray) i k=true\/FreeN vp bp ops (ops.getD k default) (ops.getD i default)))
 all:∀i,i<ops.length->i=f\/i∈C++D
 lt:∀i∈C++D,i<ops.length/\i≠f
 fl:f<ops.length
 dk:∀(i:Nat)(o:Oper),ops[i]?=some o->dok n o.dst=true
 fr:∀k∈C,nv vp bp (ops.getD k default).op=true->FreeN vp bp ops (ops.getD k default) (ops.getD f default)
 dep:∀k∈D,cH (Region.before ops.toArray) k f=true
theorem sc{vp:Op->Bool}{bp:BP}{n:Nat}{ops:List Oper}{f:Nat}{C D:List Nat}(h:qF vp bp n ops f C D=true):MixFOk vp bp n ops f C D:=by
 simp only[qF,cE,lc] at h;obtain⟨⟨⟨⟨⟨⟨⟨⟨⟨h1,h2⟩,h3⟩,h4⟩,h5⟩,h6⟩,h7⟩,h8⟩,h9⟩,_⟩:=h;rw[cV] at h1 h2 h4 h5 h7 h8 h9;have hlt:=λ{k:Nat}{o:Oper}(hk:ops[k]?=some o)=>(bJ.1 hk).1;refine⟨λj o ho k hk=>?_,λj o i ho hi hb=>?_,(lu h3).imp (λ{k i} h=>?_),λi hi=>?_,λi hi=>?_,h6,λi o ho=>?_,λk hk hn=>?_,λk hk=>h9 k hk⟩
 ·have:=h1 j (gJ.2 (hlt ho));rw[cV] at this;have:=this k (by rw[ca ho];exact hk);simpa using this
 ·have:=h2 j (gJ.2 (hlt ho));rw[cV] at this;have:=this i (gJ.2 hi);rw[ca ho,hb] at this;simp only[Bool.not_true,Bool.false_or,sO,jT,beq_iff_eq] at this;exact this
 ·simp only[cE,jT] at h;obtain⟨⟨h7,h8⟩,h9⟩:=h;refine⟨by simpa using h7,λt ht=>?_,h9.imp id nw⟩;rw[ht] at h8;simp at h8;exact λe=>h8 e.symm
 ·have:=h4 i (gJ.2 hi);simpa using this
 ·have:=h5 i hi;simpa using this
 ·have:=h7 i (gJ.2 (hlt ho));rw[ca ho] at this;exact this
 ·have:=h8 k hk;rw[hn] at this;exact nw (by simpa using this)
structure FInv(vp:Op->Bool)(bp:BP)(P:Program)(N:Cfg)(ops:List Oper)(f:Nat)(C D:List Nat)(S:Hp)(K:SP)(E₀:Env)(w₀:World)(L:Array Bool)(a:Act)(w:World)(E:Env)(T:Tm)(H:Hp)(nx:Nat):Prop where
 lsz:L.size=ops.length
 dc:∀j i,L.getD j false=true->cH (Region.before ops.toArray) j i=true->i<ops.length->L.getD i false=true
 ext:Ext E₀ w₀ E w
 sim:Sim E N ⟨T,H,nx⟩ a w
 st:∀j,j<ops.length->tn bp (ops.getD j default).op=true->L.getD j false=false->Sub S H
 rest:(L.getD f false=false/\jH vp bp P N.n (ops.map (·.dst)) S (db bp ops f) (D.map (db bp ops)) ((ch C L).map (db bp ops)) T H nx K)\/(L.getD f false=true/\fT vp bp P N.n (ops.map (·.dst)) S ((ch (C++D) L).map (db bp ops)) T H nx K)
variable{vp:Op->Bool}{bp:BP}{P:Program}{N:Cfg}{ops:List Oper}{f:Nat}{C D:List Nat}{S:Hp}{K:SP}{E₀:Env}{w₀:World}{L:Array Bool}{a:Act}{w:World}{E:Env}{T:Tm}{H:Hp}{nx:Nat}
theorem FInv.bits(hI:FInv vp bp P N ops f C D S K E₀ w₀ L a w E T H nx)(hok:MixFOk vp bp N.n ops f C D){i:Nat}{o:Oper}(hr:Ready ops L i o){k:Nat}(hk:k<ops.length)(hb:cH (Region.before ops.toArray) i k=true):L.getD k false=true:=by
 obtain⟨q,hq,h⟩:=hok.clo i o k hr.get hk hb;rcases h with rfl|h
 ·exact hr.dir _ hq
 ·exact hI.dc q k (hr.dir _ hq) h hk
theorem sF{C:List Nat}{L:Array Bool}{i:Nat}(hil:i<L.size)(h:i∉C):ch C (L.setIfInBounds i true)=ch C L:=by
 unfold ch;refine List.filter_congr λk hk=>?_;rw[d8 L i k hil,if_neg λe=>h (by rw[<-e];exact hk)]
theorem FInv.step(hvp:VP vp)(hbp:o7 P bp){rr:Option Nat}{Q:Exit->Act->World->Prop}{K':Act->World->Prop}(hI:FInv vp bp P N ops f C D S K E₀ w₀ L a w E T H nx)(hok:MixFOk vp bp N.n ops f C D){i:Nat}{o:Oper}(hr:Ready ops L i o)
    (hK:∀a' w' E' T' H' nx',FInv vp bp P N ops f C D S K E₀ w₀ (L.setIfInBounds i true) a' w' E' T' H' nx'->K' a' w'):wpOpIn (FW rr) 0 P ops.toArray Q i K' a w:=by
 have hi:i<ops.length:=(bJ.1 hr.get).1;have hil:i<L.size:=by rw[hI.lsz];exact hi
 have hgeti:(ops.toArray)[i]?=some o:=by simpa using hr.get
 unfold wpOpIn;rw[hgeti];simp only;have hgo:ops.getD i default=o:=ca hr.get;have hpo:db bp ops i=(o,eR bp ops i):=by unfold db;rw[hgo]
 have hset:=λk=>d8 L i k hil
 have hDn:L.getD f false=false->ch D L=D:=λhf=>uH.2 λk hk=>by
  cases hb:L.getD k false with
  |false=>rfl
  |true=>
   have:=hI.dc k f hb (hok.dep k hk) hok.fl;rw[hf] at this;cases this
 have hld:tn bp o.op=true->Sub S H:=λh=>hI.st i hi (by rw[hgo];exact h) hr.not
 have main:ik vp bp P N.n (ops.map (·.dst)) S (o,eR bp ops i) T H nx λT' H' nx'=>((L.setIfInBounds i true).getD f false=false/\jH vp bp P N.n (ops.map (·.dst)) S (db bp ops f) (D.map (db bp ops)) ((ch C (L.setIfInBounds i true)).map (db bp ops)) T' H' nx' K)\/((L.setIfInBounds i true).getD f false=true/\fT vp bp P N.n (ops.map (·.dst)) S ((ch (C++D) (L.setIfInBounds i true)).map (db bp ops)) T' H' nx' K):=by
  rcases hI.rest with⟨hf,hrest⟩|⟨hf,hrest⟩
  ·by_cases hif:i=f
   ·subst hif
    have ht:=Bg (ops:=ops) ((ch C L).map (db bp ops)) (fun x hx hn=>by
     obtain⟨k,hk,rfl⟩:=gL.1 hx;exact hok.fr k (lG.1 hk).1 hn) hrest
    rw[hpo] at ht;refine ed ht (λr H1 nx1 h=>.inr ⟨by rw[hset,if_pos rfl],?_⟩);have hnC:i∉C++D:=λq=>(hok.lt i q).2 rfl;rw[sF hil hnC]
    have:ch (C++D) L=ch C L++D:=by
     unfold ch;rw[List.filter_append]
     congr 1
     exact hDn hf
    rw[this,eU];exact h
   ·have hiC:i∈C:=by
      rcases hok.all i hi with h|h
      ·exact absurd h hif
      ·rcases th.1 h with h|h
       ·exact h
       ·have:=hI.bits hok hr hok.fl (hok.dep i h);rw[hf] at this;cases this
    have hmem:i∈ch C L:=lG.2 ⟨hiC,by rw[hr.not];rfl⟩;have pwC:C.Pairwise _:=(List.pairwise_append.1 hok.pw).1;obtain⟨l1,l2,e1,e2,f1⟩:=kD pwC hmem hil
    have hfree:∀k∈l1,FreeN vp bp ops (ops.getD k default) o:=by
     intro k hk;rcases f1 k hk with h|h
     ·have hkC:k∈ch C L:=by rw[e1];simp[hk]
      obtain⟨h1,h2⟩:=lG.1 hkC;have:=hI.bits hok hr (hok.lt k (rn _ h1)).1 h;rw[this] at h2;cases h2
     ·rw[hgo] at h;exact h
    rw[e1,eU,gD,hpo] at hrest
    have hpull:=Bn (o:=(o,eR bp ops i)) (l1.map (db bp ops)) (fun x hx=>by
     obtain⟨k,hk,rfl⟩:=gL.1 hx;exact hfree k hk) hrest
    refine ed hpull (λr H1 nx1 h=>.inl ⟨by rw[hset,if_neg λe=>hif e.symm];exact hf,?_⟩);rw[e2,eU];exact h
  ·have hif:i≠f:=λe=>by
     rw[<-e,hr.not] at hf;cases hf
   have hiC:i∈C++D:=(hok.all i hi).resolve_left hif;have hmem:i∈ch (C++D) L:=lG.2 ⟨hiC,by rw[hr.not];rfl⟩;obtain⟨l1,l2,e1,e2,f1⟩:=kD hok.pw hmem hil
   have hfree:∀k∈l1,FreeN vp bp ops (ops.getD k default) o:=by
    intro k hk;rcases f1 k hk with h|h
    ·have hkC:k∈ch (C++D) L:=by rw[e1];simp[hk]
     obtain⟨h1,h2⟩:=lG.1 hkC;have:=hI.bits hok hr (hok.lt k h1).1 h;rw[this] at h2;cases h2
    ·rw[hgo] at h;exact h
   rw[e1,eU,gD,hpo] at hrest
   have hpull:=zE (o:=(o,eR bp ops i)) (l1.map (db bp ops)) (fun x hx=>by
    obtain⟨k,hk,rfl⟩:=gL.1 hx;exact hfree k hk) hrest
   refine ed hpull (λr H1 nx1 h=>.inr ⟨by rw[hset];split<;>first|rfl|exact hf,?_⟩);rw[e2,eU];exact h
 have hs:=jG (rr:=rr) (ops:=ops.toArray) (Q:=Q) (next:=K') hI.sim (vC hvp hbp hld main) (λE' T' H' nx' a' w' he hS hk=>?_)
 ·exact hs
 ·obtain⟨ec,hk⟩:=hk;refine hK a' w' E' T' H' nx' ⟨by simp[hI.lsz],?_,hI.ext.trans he,hS,?_,hk⟩
  ·intro j k hj hb hkl;rw[hset] at hj |-;by_cases hki:k=i
   ·rw[if_pos hki]
   ·rw[if_neg hki];by_cases hji:j=i
    ·subst hji;exact hI.bits hok hr hkl hb
    ·rw[if_neg hji] at hj;exact hI.dc j k hj hb hkl
  ·intro j hj hl hn;rw[hset] at hn;by_cases hji:j=i
   ·rw[if_pos hji] at hn;cases hn
   rw[if_neg hji] at hn;rcases ec with rfl|ec
   ·exact hI.st j hj hl hn
   ·refine ec ?_;show eR bp ops i=true;unfold eR;rw[sO];refine⟨j,gJ.2 hj,?_⟩;rw[cE,cE];refine⟨⟨by simpa using hji,hl⟩,?_⟩;cases hb:cH (Region.before ops.toArray) i j with
    |false=>rfl
    |true=>
     have:=hI.bits hok hr hj hb;rw[this] at hn;cases hn
theorem FInv.some_ready(hI:FInv vp bp P N ops f C D S K E₀ w₀ L a w E T H nx)(hok:MixFOk vp bp N.n ops f C D)(h:Region.ready .any ops.toArray L=[]):∀k,k<ops.length->L.getD k false=true:=by
 rcases lj L ops.length with h1|⟨k,hk,hn,hall⟩
 ·exact h1
 ·exfalso;obtain⟨o,ho⟩:=cl hk
  have:k∈Region.ready .any ops.toArray L:=by
   refine mem_ready.2 ⟨?_,o,by simpa using ho,λe he hb=>hall _ ?_⟩
   ·have:k<L.size:=by rw[hI.lsz];exact hk
    simp[this] at hn |-;exact hn
   ·refine hok.dir k o ho e.on ?_;simp only[cQ,gL,lG];exact⟨e,⟨by simpa using he,hb⟩,rfl⟩
  rw[h] at this;cases this
theorem FInv.final(hI:FInv vp bp P N ops f C D S K E₀ w₀ L a w E T H nx)(hok:MixFOk vp bp N.n ops f C D)(hall:∀k,k<ops.length->L.getD k false=true):K T H nx:=by
 rcases hI.rest with⟨hf,_⟩|⟨hf,h⟩
 ·rw[hall f hok.fl] at hf;cases hf
 ·have:ch (C++D) L=[]:=List.filter_eq_nil_iff.2 (λk hk=>by simp[hall k (hok.lt k hk).1]);rw[this] at h;exact h
theorem tR(hvp:VP vp)(hbp:o7 P bp){rr:Option Nat}{Q:Exit->Act->World->Prop}(hok:MixFOk vp bp N.n ops f C D)(hQ:∀E' T' H' nx' a' w',Ext E₀ w₀ E' w'->Sim E' N ⟨T',H',nx'⟩ a' w'->K T' H' nx'->Q .normal a' w'):
    ∀(fuel:Nat)(L:Array Bool)(a:Act)(w:World)(E:Env)(T:Tm)(H:Hp)(nx:Nat),FInv vp bp P N ops f C D S K E₀ w₀ L a w E T H nx->left ops.length L<=fuel->wpAnyIn (FW rr) 0 P .any ops.toArray Q fuel L a w
 |0,L,a,w,E,T,H,nx,hI,hl=>by
  have hall:∀k,k<ops.length->L.getD k false=true:=by
   rcases lj L ops.length with h1|⟨k,hk,hn,hall⟩
   ·exact h1
   ·exfalso;have:left ops.length (L.setIfInBounds k true)<left ops.length L:=fj L k _ hk hI.lsz hn;omega
  have hr:Region.ready .any ops.toArray L=[]:=by
   refine zs.2 (λi hi=>?_);obtain⟨o,ho⟩:=fo hI.lsz hi;have:=hall i (bJ.1 ho.get).1;rw[ho.not] at this;cases this
  exact⟨hr,hQ E T H nx a w hI.ext hI.sim (hI.final hok hall)⟩
 |fuel+1,L,a,w,E,T,H,nx,hI,hl=>by
  refine⟨λhr=>hQ E T H nx a w hI.ext hI.sim (hI.final hok (hI.some_ready hok hr)),λi hi=>?_⟩;obtain⟨o,ho⟩:=fo hI.lsz hi;refine hI.step hvp hbp hok ho (λa' w' E' T' H' nx' hI'=>tR hvp hbp hok hQ fuel _ a' w' E' T' H' nx' hI' ?_);have:=fj L i ops.length (bJ.1 ho.get).1 hI.lsz ho.not;omega
theorem Ar{rr:Option Nat}{Q:Exit->Act->World->Prop}{rid:Nat}(hm:P.follows .mixedOrders=true)(hvp:VP vp)(hbp:o7 P bp)(hok:qF vp bp N.n ops f C D=true)(hS:Sim E₀ N ⟨T,H,nx⟩ a w₀)(hs:Sub S H)
    (h:jH vp bp P N.n (ops.map (·.dst)) S (db bp ops f) (D.map (db bp ops)) (C.map (db bp ops)) T H nx K)
    (hQ:∀E' T' H' nx' a' w',Ext E₀ w₀ E' w'->Sim E' N ⟨T',H',nx'⟩ a' w'->K T' H' nx'->Q .normal a' w'):(Code.region rid ops.toArray true).wpIn (FW rr) 0 P Q a w₀:=by
 refine wpIn_region_any hm ?_;have hdr:({w₀ with drawn:=w₀.drawn+1}:World).heap=w₀.heap:=rfl;have hext:Ext E₀ w₀ E₀ {w₀ with drawn:=w₀.drawn+1}:=Ext.same hdr;have hok:=sc hok
 have hfalse:∀k,(Array.replicate ops.toArray.size false).getD k false=false:=by
  intro k;simp only[tE,Array.getElem?_replicate];split<;>rfl
 have hrest:ch C (Array.replicate ops.toArray.size false)=C:=uH.2 (λk _=>by rw[hfalse];rfl);refine tR (f:=f) (C:=C) (D:=D) (K:=K) (S:=S) (E₀:=E₀) (w₀:=w₀) hvp hbp hok hQ _ _ _ _ E₀ T H nx ⟨by simp,?_,hext,?_,λ_ _ _ _=>hs,.inl ⟨hfalse f,by rw[hrest];exact h⟩⟩ (by rw[List.size_toArray];unfold left;exact gK List.countP_le_length (by simp))
 ·intro j i h1;rw[hfalse] at h1;cases h1
 ·exact⟨hS.env.drew,hS.heap.same hdr,hS.fresh,hS.round,hS.floor,hS.size,λt=>(hS.tmps t).ext hext,hS.defers.ext hext⟩
end Go.Abs
namespace Go.Abs
open Go.RowKit
def rQ(ops:List Oper):Bool:=
 let m:=Region.before ops.toArray
 let len:=ops.length
 ((List.range len).all λj=>(cQ (ops.getD j default)).all λk=>k<j)&&
 ((List.range len).all λj=>(List.range len).all λi=>!cH m j i || (cQ (ops.getD j default)).any λk=>k==i || cH m k i)
structure AnyOk(ops:List Oper):Prop where
 dir:∀(j:Nat)(o:Oper),ops[j]?=some o->∀k∈cQ o,k<j
 clo:∀(j:Nat)(o:Oper)(i:Nat),ops[j]?=some o->i<ops.length->cH (Region.before ops.toArray) j i=true->∃k∈cQ o,k=i\/cH (Region.before ops.toArray) k i=true
theorem yA{ops:List Oper}(h:rQ ops=true):AnyOk ops:=by
 simp only[rQ,cE] at h;obtain⟨h1,h2⟩:=h;rw[cV] at h1 h2;have hlt:=λ{k:Nat}{o:Oper}(hk:ops[k]?=some o)=>(bJ.1 hk).1;refine⟨λj o ho k hk=>?_,λj o i ho hi hb=>?_⟩
 ·have:=h1 j (gJ.2 (hlt ho));rw[cV] at this;have:=this k (by rw[ca ho];exact hk);simpa using this
 ·have:=h2 j (gJ.2 (hlt ho));rw[cV] at this;have:=this i (gJ.2 hi);rw[ca ho,hb] at this;simp only[Bool.not_true,Bool.false_or,sO,jT,beq_iff_eq] at this;exact this
structure ByInv(P:Program)(n:Nat)(ops:List Oper)(I:(Nat->Bool)->Tm->Hp->Nat->Prop)(T:Tm)(H:Hp)(nx:Nat)(K:SP):Prop where
 start:I (λ_=>false) T H nx
 step:∀(i:Nat)(L:Nat->Bool)(T:Tm)(H:Hp)(nx:Nat),i<ops.length->L i=false->(∀k,k<ops.length->cH (Region.before ops.toArray) i k=true->L k=true)->I L T H nx->
  aop P n .text (ops.map (·.dst)) (ops.getD i default) T H nx (I λk=>L k || decide (k=i))
 last:∀(L:Nat->Bool)(T:Tm)(H:Hp)(nx:Nat),(∀k,k<ops.length->L k=true)->I L T H nx->K T H nx
theorem ByInv.mono{P:Program}{n:Nat}{ops:List Oper}{I:(Nat->Bool)->Tm->Hp->Nat->Prop}{T:Tm}{H:Hp}{nx:Nat}{K K':SP}(h:ByInv P n ops I T H nx K)(hK:∀T H nx,K T H nx->K' T H nx):ByInv P n ops I T H nx K':=
 ⟨h.start,h.step,λL T H nx h1 h2=>hK _ _ _ (h.last L T H nx h1 h2)⟩
structure GInv(N:Cfg)(ops:List Oper)(I:(Nat->Bool)->Tm->Hp->Nat->Prop)(E₀:Env)(w₀:World)(L:Array Bool)(a:Act)(w:World)(E:Env)(T:Tm)(H:Hp)(nx:Nat):Prop where
 lsz:L.size=ops.length
 dc:∀j i,L.getD j false=true->cH (Region.before ops.toArray) j i=true->i<ops.length->L.getD i false=true
 ext:Ext E₀ w₀ E w
 sim:Sim E N ⟨T,H,nx⟩ a w
 inv:I (λk=>L.getD k false) T H nx
variable{P:Program}{N:Cfg}{ops:List Oper}{I:(Nat->Bool)->Tm->Hp->Nat->Prop}{K:SP}{E₀:Env}{w₀:World}{L:Array Bool}{a:Act}{w:World}{E:Env}{T:Tm}{H:Hp}{nx:Nat}{T₀:Tm}{H₀:Hp}{nx₀:Nat}
theorem GInv.bits(hI:GInv N ops I E₀ w₀ L a w E T H nx)(hok:AnyOk ops){i:Nat}{o:Oper}(hr:Ready ops L i o){k:Nat}(hk:k<ops.length)(hb:cH (Region.before ops.toArray) i k=true):L.getD k false=true:=by
 obtain⟨q,hq,h⟩:=hok.clo i o k hr.get hk hb;rcases h with rfl|h
 ·exact hr.dir _ hq
 ·exact hI.dc q k (hr.dir _ hq) h hk
theorem GInv.step{rr:Option Nat}{Q:Exit->Act->World->Prop}{K':Act->World->Prop}(hI:GInv N ops I E₀ w₀ L a w E T H nx)(hok:AnyOk ops)(hby:ByInv P N.n ops I T₀ H₀ nx₀ K){i:Nat}{o:Oper}(hr:Ready ops L i o)
    (hK:∀a' w' E' T' H' nx',GInv N ops I E₀ w₀ (L.setIfInBounds i true) a' w' E' T' H' nx'->K' a' w'):wpOpIn (FW rr) 0 P ops.toArray Q i K' a w:=by
 have hi:i<ops.length:=(bJ.1 hr.get).1;have hil:i<L.size:=by rw[hI.lsz];exact hi
 have hgeti:(ops.toArray)[i]?=some o:=by simpa using hr.get
 unfold wpOpIn;rw[hgeti];simp only;have hgo:ops.getD i default=o:=ca hr.get;have hset:=λk=>d8 L i k hil;have main:=hby.step i (λk=>L.getD k false) T H nx hi hr.not (λk hk hb=>hI.bits hok hr hk hb) hI.inv;rw[hgo] at main
 have e:(λk=>(L.setIfInBounds i true).getD k false)=λk=>L.getD k false || decide (k=i):=funext λk=>by
  rw[hset];by_cases hk:k=i
  ·rw[if_pos hk,bk hk,Bool.or_true]
  ·rw[if_neg hk,bq hk,Bool.or_false]
 have hs:=jG (rr:=rr) (ops:=ops.toArray) (Q:=Q) (next:=K') hI.sim main (λE' T' H' nx' a' w' he hS hk=>?_)
 ·exact hs
 ·refine hK a' w' E' T' H' nx' ⟨by simp[hI.lsz],?_,hI.ext.trans he,hS,?_⟩
  ·intro j k hj hb hkl;rw[hset] at hj |-;by_cases hki:k=i
   ·rw[if_pos hki]
   ·rw[if_neg hki];by_cases hji:j=i
    ·subst hji;exact hI.bits hok hr hkl hb
    ·rw[if_neg hji] at hj;exact hI.dc j k hj hb hkl
  ·rw[e];exact hk
theorem GInv.some_ready(hI:GInv N ops I E₀ w₀ L a w E T H nx)(hok:AnyOk ops)(h:Region.ready .any ops.toArray L=[]):∀k,k<ops.length->L.getD k false=true:=by
 rcases lj L ops.length with h1|⟨k,hk,hn,hall⟩
 ·exact h1
 ·exfalso;obtain⟨o,ho⟩:=cl hk
  have:k∈Region.ready .any ops.toArray L:=by
   refine mem_ready.2 ⟨?_,o,by simpa using ho,λe he hb=>hall _ ?_⟩
   ·have:k<L.size:=by rw[hI.lsz];exact hk
    simp[this] at hn |-;exact hn
   ·refine hok.dir k o ho e.on ?_;simp only[cQ,gL,lG];exact⟨e,⟨by simpa using he,hb⟩,rfl⟩
  rw[h] at this;cases this
theorem xq{rr:Option Nat}{Q:Exit->Act->World->Prop}(hok:AnyOk ops)(hby:ByInv P N.n ops I T₀ H₀ nx₀ K)(hQ:∀E' T' H' nx' a' w',Ext E₀ w₀ E' w'->Sim E' N ⟨T',H',nx'⟩ a' w'->K T' H' nx'->Q .normal a' w'):
    ∀(fuel:Nat)(L:Array Bool)(a:Act)(w:World)(E:Env)(T:Tm)(H:Hp)(nx:Nat),GInv N ops I E₀ w₀ L a w E T H nx->left ops.length L<=fuel->wpAnyIn (FW rr) 0 P .any ops.toArray Q fuel L a w
 |0,L,a,w,E,T,H,nx,hI,hl=>by
  have hall:∀k,k<ops.length->L.getD k false=true:=by
   rcases lj L ops.length with h1|⟨k,hk,hn,hall⟩
   ·exact h1
   ·exfalso;have:left ops.length (L.setIfInBounds k true)<left ops.length L:=fj L k _ hk hI.lsz hn;omega
  have hr:Region.ready .any ops.toArray L=[]:=by
   refine zs.2 (λi hi=>?_);obtain⟨o,ho⟩:=fo hI.lsz hi;have:=hall i (bJ.1 ho.get).1;rw[ho.not] at this;cases this
  exact⟨hr,hQ E T H nx a w hI.ext hI.sim (hby.last _ T H nx hall hI.inv)⟩
 |fuel+1,L,a,w,E,T,H,nx,hI,hl=>by
  refine⟨λhr=>hQ E T H nx a w hI.ext hI.sim (hby.last _ T H nx (hI.some_ready hok hr) hI.inv),λi hi=>?_⟩;obtain⟨o,ho⟩:=fo hI.lsz hi;refine hI.step hok hby ho (λa' w' E' T' H' nx' hI'=>xq hok hby hQ fuel _ a' w' E' T' H' nx' hI' ?_);have:=fj L i ops.length (bJ.1 ho.get).1 hI.lsz ho.not;omega
theorem B9{rr:Option Nat}{Q:Exit->Act->World->Prop}{rid:Nat}(hm:P.follows .mixedOrders=true)(hok:rQ ops=true)(hS:Sim E₀ N ⟨T,H,nx⟩ a w₀)(h:ByInv P N.n ops I T H nx K)
    (hQ:∀E' T' H' nx' a' w',Ext E₀ w₀ E' w'->Sim E' N ⟨T',H',nx'⟩ a' w'->K T' H' nx'->Q .normal a' w'):(Code.region rid ops.toArray true).wpIn (FW rr) 0 P Q a w₀:=by
 refine wpIn_region_any hm ?_;have hdr:({w₀ with drawn:=w₀.drawn+1}:World).heap=w₀.heap:=rfl;have hext:Ext E₀ w₀ E₀ {w₀ with drawn:=w₀.drawn+1}:=Ext.same hdr;have hok:=yA hok
 have hfalse:∀k,(Array.replicate ops.toArray.size false).getD k false=false:=by
  intro k;simp only[tE,Array.getElem?_replicate];split<;>rfl
 have hif:(λk=>(Array.replicate ops.toArray.size false).getD k false)=λ_=>false:=funext hfalse;refine xq (I:=I) (K:=K) (E₀:=E₀) (w₀:=w₀) hok h hQ _ _ _ _ E₀ T H nx ⟨by simp,?_,hext,?_,by rw[hif];exact h.start⟩ (by rw[List.size_toArray];unfold left;exact gK List.countP_le_length (by simp))
 ·intro j i h1;rw[hfalse] at h1;cases h1
 ·exact⟨hS.env.drew,hS.heap.same hdr,hS.fresh,hS.round,hS.floor,hS.size,λt=>(hS.tmps t).ext hext,hS.defers.ext hext⟩
end Go.Abs
namespace Go.Abs
open Go.RowKit
def awp(P:Program)(n:Nat):Code->Tm->Hp->Nat->CP->Prop
 |.skip,T,H,nx,K=>K .normal T H nx
 |.label _,T,H,nx,K=>K .normal T H nx
 |.region _ ops draw,T₀,H₀,nx₀,K=>∃T H nx Hf,Gh T₀ H₀ nx₀ T H nx Hf/\match draw with
  |true=>(if drawOk false ops.toList=true then nA P n .draw (ops.toList.map (·.dst)) ops.toList T H nx (K .normal) else bf (drawOk true ops.toList) (nA P n (.fresh nx) (ops.toList.map (·.dst)) ops.toList T H nx (K .normal)))\/
   (∃vp C,VP vp/\tP vp n ops.toList C=true/\kg vp P n (ops.toList.map (·.dst)) (C.map λk=>ops.toList.getD k default) T H nx (K .normal))\/
   (∃vp bp C S,VP vp/\o7 P bp/\nr vp bp n ops.toList C=true/\Sub S H/\fT vp bp P n (ops.toList.map (·.dst)) S (C.map (db bp ops.toList)) T H nx (K .normal))\/
   (∃vp bp f C D S,VP vp/\o7 P bp/\qF vp bp n ops.toList f C D=true/\Sub S H/\jH vp bp P n (ops.toList.map (·.dst)) S (db bp ops.toList f) (D.map (db bp ops.toList)) (C.map (db bp ops.toList)) T H nx (K .normal))\/
   ∃I,rQ ops.toList=true/\ByInv P n ops.toList I T H nx (K .normal)
  |false=>nA P n .text (ops.toList.map (·.dst)) ops.toList T H nx (K .normal)
 |.seq x y,T,H,nx,K=>awp P n x T H nx λe T H nx=>bl e (awp P n y T H nx K) (K e T H nx)
 |.cond c x y,T,H,nx,K=>bF (ev T c) (awp P n x T H nx K) (awp P n y T H nx K)
 |.block id b,T,H,nx,K=>awp P n b T H nx λe T H nx=>K (nN id e) T H nx
 |.loop b,T,H,nx,K=>bA (awp P n b) T H nx K
 |.exit id,T,H,nx,K=>K (.exit id) T H nx
 |.ret,T,H,nx,K=>K .ret T H nx
 |.rangeFunc g ps x y,T,H,nx,K=>RF P n (.rangeFunc g ps x y) T H nx K
 |_,_,_,_,_=>False
theorem fq{P:Program}{N:Nat}:∀(c:Code){T:Tm}{H:Hp}{nx:Nat}{K K':CP},awp P N c T H nx K->(∀e T H nx,K e T H nx->K' e T H nx)->awp P N c T H nx K'
 |.skip,_,_,_,_,_,h,hK=>hK _ _ _ _ h
 |.label _,_,_,_,_,_,h,hK=>hK _ _ _ _ h
 |.exit _,_,_,_,_,_,h,hK=>hK _ _ _ _ h
 |.ret,_,_,_,_,_,h,hK=>hK _ _ _ _ h
 |.region _ ops draw,_,_,_,_,_,h,hK=>by
  obtain⟨T,H,nx,Hf,hg,h⟩:=h;refine⟨T,H,nx,Hf,hg,?_⟩;cases draw with
  |true=>
   simp only at h |-;rcases h with h|⟨vp,C,h0,h1,h3⟩|⟨vp,bp,C,S,h0,hbp,h1,hs,h3⟩|⟨vp,bp,f,C,D,S,h0,hbp,h1,hs,h3⟩|⟨I,h1,h3⟩
   ·left;split
    ·rename_i hd;rw[if_pos hd] at h;exact lm (hK .normal) _ h
    ·rename_i hd;rw[if_neg hd] at h;exact⟨h.1,lm (hK .normal) _ h.2⟩
   ·exact .inr (.inl ⟨vp,C,h0,h1,qQ (hK .normal) _ h3⟩)
   ·exact .inr (.inr (.inl ⟨vp,bp,C,S,h0,hbp,h1,hs,jL (hK .normal) _ h3⟩))
   ·exact .inr (.inr (.inr (.inl ⟨vp,bp,f,C,D,S,h0,hbp,h1,hs,px (hK .normal) _ h3⟩)))
   ·exact .inr (.inr (.inr (.inr ⟨I,h1,h3.mono (hK .normal)⟩)))
  |false=>exact lm (hK .normal) _ h
 |.seq x y,_,_,_,K,K',h,hK=>by
  refine fq x h (λe T H nx h=>?_);cases e with
  |normal=>exact fq y h hK
  |exit i=>exact hK _ _ _ _ h
  |ret=>exact hK _ _ _ _ h
 |.cond c x y,T,H,nx,K,K',h,hK=>by
  simp only[awp] at h |-;unfold bF at h |-;split at h
  ·exact⟨λhb=>fq x (h.1 hb) hK,λhb=>fq y (h.2 hb) hK⟩
  ·exact h
 |.block id b,_,_,_,_,_,h,hK=>fq b h (λe T H nx h=>hK _ _ _ _ h)
 |.loop b,T,H,nx,K,K',h,hK=>by
  obtain⟨n,h⟩:=h;refine⟨n,?_⟩
  induction n generalizing T H nx with
  |zero=>exact h
  |succ n ih=>
   obtain⟨T',H',nx',Hf,hw,h⟩:=h;refine⟨T',H',nx',Hf,hw,fq b h (λe T H nx h=>?_)⟩;cases e with
   |normal=>exact ih _ _ _ h
   |exit i=>exact hK _ _ _ _ h
   |ret=>exact hK _ _ _ _ h
 |.rangeFunc ..,_,_,_,_,_,h,hK=>h.mono hK
 |.scope _,_,_,_,_,_,h,_=>h
 |.goto _,_,_,_,_,_,h,_=>h
 |.refuse _,_,_,_,_,_,h,_=>h
theorem eZ{P:Program}{N:Cfg}(hm:P.follows .mixedOrders=true):∀(c:Code){E:Env}{T:Tm}{H:Hp}{nx:Nat}{a:Act}{w:World}{K:CP},Sim E N ⟨T,H,nx⟩ a w->
    awp P N.n c T H nx K->c.wpIn (FW N.rd) 0 P (gy P N E w K) a w
 |.skip,_,_,_,_,_,_,_,hS,h=>wpIn_skip ⟨.normal,_,_,_,_,rfl,Ext.refl _ _,hS,h⟩
 |.label _,_,_,_,_,_,_,_,hS,h=>wpIn_label ⟨.normal,_,_,_,_,rfl,Ext.refl _ _,hS,h⟩
 |.exit i,_,_,_,_,_,_,_,hS,h=>wpIn_exit ⟨.exit i,_,_,_,_,rfl,Ext.refl _ _,hS,h⟩
 |.ret,_,_,_,_,_,_,_,hS,h=>wpIn_ret ⟨.ret,_,_,_,_,rfl,Ext.refl _ _,hS,h⟩
 |.region id ops draw,E₁,T₁,H₁,nx₁,a,w,K,hS₁,h=>by
  obtain⟨T,H,nx,Hf,hg,h⟩:=h;obtain⟨E,he₁,hS⟩:=hS₁.ghost hg;refine wpIn_mono (F:=FW N.rd) ?_ (λe a w h=>gy.trans he₁ h);cases draw with
  |false=>exact wpIn_region_list (ql ops.toList hS h (λE' T' H' nx' a' w' he hS' hk=>⟨.normal,E',T',H',nx',rfl,he,hS',hk⟩))
  |true=>
   simp only at h
   have key:∀dm:DM,dm.isText=false->drawOk dm.fr.isSome ops.toList=true->(∀m,dm.fr=some m->m=nx)->nA P N.n dm (ops.toList.map (·.dst)) ops.toList T H nx (K .normal)->(Code.region id ops true).wpIn (FW N.rd) 0 P (gy P N E w K) a w:=by
    intro dm hdm hok hm0 h;obtain⟨s,r,h0,h1,h2⟩:=pI hdm ops.toList h;have ht:Txt P N dm.fr ops.toList s r:=⟨h1,hok,by rw[h0];exact hm0⟩
    have:=A4 (rr:=N.rd) (rid:=id) (Q:=gy P N E w K) (a:=a) (w₀:=w) (E₀:=E) hm ht (by rw[h0];exact hS) (λE' a' w' he hS'=>⟨.normal,E',_,_,_,rfl,he,hS',h2⟩);rw[Array.toArray_toList] at this;exact this
   rcases h with h|⟨vp,C,h0,h1,h3⟩|⟨vp,bp,C,S,h0,hbp,h1,hs,h3⟩|⟨vp,bp,f,C,D,S,h0,hbp,h1,hs,h3⟩|⟨I,h1,h3⟩
   ·split at h
    ·rename_i hok;exact key .draw rfl hok (λm hm=>(by cases hm)) h
    ·exact key (.fresh nx) rfl h.1 (λm hm=>by cases hm;rfl) h.2
   ·have:=Cc (rr:=N.rd) (rid:=id) (Q:=gy P N E w K) (a:=a) (w₀:=w) (E₀:=E) hm h0 h1 hS h3 (λE' T' H' nx' a' w' he hS' hk=>⟨.normal,E',T',H',nx',rfl,he,hS',hk⟩);rw[Array.toArray_toList] at this;exact this
   ·have:=zT (rr:=N.rd) (rid:=id) (Q:=gy P N E w K) (a:=a) (w₀:=w) (E₀:=E) hm h0 hbp h1 hS hs h3 (λE' T' H' nx' a' w' he hS' hk=>⟨.normal,E',T',H',nx',rfl,he,hS',hk⟩);rw[Array.toArray_toList] at this;exact this
   ·have:=Ar (rr:=N.rd) (rid:=id) (Q:=gy P N E w K) (a:=a) (w₀:=w) (E₀:=E) hm h0 hbp h1 hS hs h3 (λE' T' H' nx' a' w' he hS' hk=>⟨.normal,E',T',H',nx',rfl,he,hS',hk⟩);rw[Array.toArray_toList] at this;exact this
   ·have:=B9 (rr:=N.rd) (rid:=id) (Q:=gy P N E w K) (a:=a) (w₀:=w) (E₀:=E) hm h1 hS h3 (λE' T' H' nx' a' w' he hS' hk=>⟨.normal,E',T',H',nx',rfl,he,hS',hk⟩);rw[Array.toArray_toList] at this;exact this
 |.seq x y,E,T,H,nx,a,w,K,hS,h=>by
  refine wpIn_seq (wpIn_mono (eZ hm x hS h) ?_);rintro e a' w' ⟨z,E',T',H',nx',rfl,he,hS',hk⟩;cases z with
  |normal=>exact wpIn_mono (eZ hm y hS' hk) (λe a w h=>h.trans he)
  |exit i=>exact⟨.exit i,E',T',H',nx',rfl,he,hS',hk⟩
  |ret=>exact⟨.ret,E',T',H',nx',rfl,he,hS',hk⟩
 |.cond c x y,E,T,H,nx,a,w,K,hS,h=>by
  simp only[awp] at h;unfold bF at h;split at h
  ·rename_i b hb;have hr:=kE (E:=E) (w:=w) (a:=a) hS.tmps c;simp only at hr;rw[hb] at hr;generalize hv:a.eval c=v at hr;cases hr;exact wpIn_cond_split hv (λhb=>eZ hm x hS (h.1 hb)) (λhb=>eZ hm y hS (h.2 hb))
  ·exact h.elim
 |.block id b,E,T,H,nx,a,w,K,hS,h=>by
  refine wpIn_block (wpIn_mono (eZ hm b hS h) ?_);rintro e a' w' ⟨z,E',T',H',nx',rfl,he,hS',hk⟩;cases z with
  |normal=>exact⟨.normal,E',T',H',nx',rfl,he,hS',hk⟩
  |exit i=>
   simp only[AEx.cv,Exit.inBlock];split
   ·rename_i hi;refine⟨.normal,E',T',H',nx',rfl,he,hS',?_⟩;simp only[nN,if_pos hi] at hk;exact hk
   ·rename_i hi;refine⟨.exit i,E',T',H',nx',rfl,he,hS',?_⟩;simp only[nN,if_neg hi] at hk;exact hk
  |ret=>exact⟨.ret,E',T',H',nx',rfl,he,hS',hk⟩
 |.loop b,E,T,H,nx,a,w,K,hS,h=>by
  obtain⟨n,h⟩:=h;refine wpIn_loop_rounds n ?_
  have key:∀n(E':Env) T H nx a w',Ext E w E' w'->Sim E' N ⟨T,H,nx⟩ a w'->tG (awp P N.n b) K n T H nx->Code.roundsIn (FW N.rd) 0 P b (gy P N E w K) n a w':=by
   intro n
   induction n with
   |zero=>intro E' T H nx a w' _ _ h;exact h
   |succ n ih=>
    intro E' T H nx a w' he hS h;obtain⟨T',H',nx',Hf,hwk,h⟩:=h;obtain⟨E₁,he₁,hS₁⟩:=hS.ghost hwk;refine wpIn_mono (eZ hm b hS₁ h) ?_;rintro e a' w'' ⟨z,E'',T'',H'',nx'',rfl,he',hS',hk⟩;cases z with
    |normal=>exact ih E'' _ _ _ _ _ ((he.trans he₁).trans he') hS' hk
    |exit i=>exact⟨.exit i,E'',T'',H'',nx'',rfl,(he.trans he₁).trans he',hS',hk⟩
    |ret=>exact⟨.ret,E'',T'',H'',nx'',rfl,(he.trans he₁).trans he',hS',hk⟩
  exact key n E T H nx a w (Ext.refl _ _) hS h
 |.rangeFunc ..,_,_,_,_,_,_,_,hS,h=>h N _ _ _ rfl hS
 |.scope _,_,_,_,_,_,_,_,_,h=>h.elim
 |.goto _,_,_,_,_,_,_,_,_,h=>h.elim
 |.refuse _,_,_,_,_,_,_,_,_,h=>h.elim
def kU(P:Program)(T:Tm)(H:Hp):List ResultVar->Option (List AV)
 |[]=>some []
 |.tmp t::l=>match kU P T H l with|some xs=>some (T t::xs)|none=>none
 |.cell a t::l=>match jt P H t (T a),kU P T H l with|some x,some xs=>some (x::xs)|_,_=>none
def mA(P:Program)(T:Tm)(H:Hp)(l:List ResultVar):Option AV:=match kU P T H l with
 |some [x]=>some x
 |some xs=>some (.tup xs)
 |none=>none
def Cells(w w':World):Prop:=∀a v,w.cell? a=some v->w'.cell? a=some v
theorem uB{P:Program}{E:Env}{H:Hp}{nx:Nat}{w:World}(hh:HeapOk E H nx w){p:AV}{v:Value}(hr:Rel E w p v){t:TypeId}{x:AV}(hx:jt P H t p=some x):
    ∃y,(∀w',Cells w w'->(do loadVar t (<-asAddr v):Sem Value).run P w'=.ok y w')/\Rel E w x y:=by
 unfold jt at hx;split at hx
 case isFalse=>cases hx
 case isTrue ht=>
  split at hx
  case isTrue hagg=>
   split at hx
   case isFalse=>cases hx
   case isTrue hpos=>
    cases hrd:rd H (P.cellsOf t) p with
    |none=>simp[hrd] at hx
    |some xs=>
     simp[hrd] at hx;subst hx;obtain⟨blk,o,vals,rfl,hlen,hrow⟩:=tL hh hr hrd hpos;refine⟨.agg vals.toArray,λw' hw=>?_,.agg xs vals hrow.len hrow.rel⟩;have hl:vals.length=P.cellsOf t:=hrow.len.trans hlen;simp only[asAddr,loadVar,bg,dl,a9,gj ht,hagg,if_true,aE ht,<-hl];rw[run_loadCells_list (P:=P) (w:=w') ⟨blk,o,none⟩ vals (λj v hv=>by rw[bX];exact hw _ _ (hrow.cell _ _ hv))];rfl
  case isFalse hagg=>
   obtain⟨blk,o,y,rfl,hc,hrel⟩:=sn hh hr hx;refine⟨y,λw' hw=>?_,hrel⟩;simp[asAddr,loadVar,gj ht,hagg,hw _ _ hc]
theorem pE{P:Program}{E:Env}{w:World}{H:Hp}{nx:Nat}{T:Tm}{tmps:Array Value}(hh:HeapOk E H nx w)(ht:∀t,Rel E w (T t) (tmps.getD t Go.undef)):∀(l:List ResultVar)(xs:List AV),kU P T H l=some xs->
    ∃vs,(∀w',Cells w w'->(l.mapM (λr:ResultVar=>match r with|.tmp t=>(pure (tmps.getD t Go.undef):Sem Value)|.cell a t=>do loadVar t (<-asAddr (tmps.getD a Go.undef)))).run P w'=.ok vs w')/\cX E w xs vs
 |[],xs,h=>by cases h;exact⟨[],λ_ _=>rfl,rfl,by simp⟩
 |.tmp t::l,xs,h=>by
  simp only[kU] at h;split at h
  ·rename_i ys hy;cases h;obtain⟨vs,h1,h2⟩:=pE (P:=P) hh ht l ys hy;refine⟨tmps.getD t Go.undef::vs,λw' hw=>?_,by simp[h2.1],λi x y hx hy=>?_⟩
   ·rw[List.mapM_cons];simp only[bg,dl,a9,h1 w' hw]
   ·cases i with
    |zero=>simp at hx hy;subst hx;rw[<-hy];have:=ht t;simpa using this
    |succ i=>exact h2.2 i x y (by simpa using hx) (by simpa using hy)
  ·cases h
 |.cell a t::l,xs,h=>by
  simp only[kU] at h;split at h
  ·rename_i x0 ys hx0 hy;cases h;obtain⟨vs,h1,h2⟩:=pE (P:=P) hh ht l ys hy;obtain⟨y0,k1,k2⟩:=uB (P:=P) hh (ht a) hx0;refine⟨y0::vs,λw' hw=>?_,by simp[h2.1],λi x y hx hy=>?_⟩
   ·rw[List.mapM_cons,bg];have:=k1 w' hw;rw[this];simp only[bg,dl,a9,h1 w' hw]
   ·cases i with
    |zero=>simp at hx hy;subst hx;rw[<-hy];exact k2
    |succ i=>exact h2.2 i x y (by simpa using hx) (by simpa using hy)
  ·cases h
theorem xS{P:Program}{E:Env}{w:World}{H:Hp}{nx:Nat}{T:Tm}{tmps:Array Value}{fn:Func}{x:AV}(hh:HeapOk E H nx w)(ht:∀t,Rel E w (T t) (tmps.getD t Go.undef))(h:mA P T H fn.results.toList=some x):
    ∃v,(∀w',Cells w w'->(results fn tmps).run P w'=.ok v w')/\Rel E w x v:=by
 have key:∀xs,kU P T H fn.results.toList=some xs->∃vs:Array Value,(∀w',Cells w w'->(results fn tmps).run P w'=.ok (if h:vs.size=1 then vs[0] else .tuple vs) w')/\cX E w xs vs.toList:=by
  intro xs hx;obtain⟨vs,h1,h2⟩:=pE (P:=P) hh ht _ _ hx;refine⟨vs.toArray,λw' hw=>?_,h2⟩
  have e:results fn tmps=(do
      let vs <-(List.toArray <$> fn.results.toList.mapM (λr:ResultVar=>match r with|.tmp t=>(pure (tmps.getD t Go.undef):Sem Value)|.cell a t=>do loadVar t (<-asAddr (tmps.getD a Go.undef))):Sem (Array Value))
      pure (if h:vs.size=1 then vs[0] else .tuple vs)):=by
   unfold results;rw[Array.mapM_eq_mapM_toList];rfl
  rw[e,map_eq_pure_bind];simp only[bg,h1 w' hw,a9,dl]
 unfold mA at h;split at h
 ·rename_i y hy;cases h;obtain⟨vs,h1,h2⟩:=key _ hy;have hs:vs.size=1:=by have:=h2.1;simpa using this
  refine⟨vs[0],λw' hw=>by rw[h1 w' hw,dif_pos hs],h2.2 0 _ _ rfl (by simp[hs])⟩
 ·rename_i xs hne hy;cases h;obtain⟨vs,h1,h2⟩:=key _ hy
  have hs:vs.size≠1:=by
   intro hs;have:=h2.1;rw[Array.length_toList,hs] at this
   match xs,this,hne with
   |[x],_,hne=>exact hne x rfl
  refine⟨.tuple vs,λw' hw=>by rw[h1 w' hw,dif_neg hs],?_⟩;exact Rel.tup _ vs.toList h2.1 h2.2
 ·cases h
theorem Rel.world{E:Env}{w w':World}(hc:∀a v,w.cell? a=some v->w'.cell? a=some v){x:AV}{v:Value}(h:Rel E w x v):Rel E w' x v:=by
 induction h with
 |undef v=>exact .undef v
 |bool b=>exact .bool b
 |int k n=>exact .int k n
 |str s=>exact .str s
 |nilp=>exact .nilp
 |nilf=>exact .nilf
 |yld b l h=>exact .yld b l h
 |mp b k h=>exact .mp b k h
 |nilm=>exact .nilm
 |itr b k h=>exact .itr b k h
 |ptr b n off blk sz h=>exact .ptr b n off blk sz h
 |iptr cells off blk o vals h1 h2 _ ih=>exact .iptr cells off blk o vals h1 (λi h=>hc _ _ (h2 i h)) ih
 |eslnil=>exact .eslnil
 |esl a=>exact .esl a
 |slnil sz=>exact .slnil sz
 |slempty sz a c=>exact .slempty sz a c
 |sl sz elems blk o cap vals h1 hlen hsz h2 _ ih=>exact .sl sz elems blk o cap vals h1 hlen hsz (λi h=>hc _ _ (h2 i h)) ih
 |msl b n sz off len blk bsz cap h hl hc' hn=>exact .msl b n sz off len blk bsz cap h hl hc' hn
 |msl0 b sz v h=>exact .msl0 b sz v h
 |func f caps cv hl _ ih=>exact .func f caps cv hl ih
 |bfn f caps cv hl _ ih=>exact .bfn f caps cv hl ih
 |agg cs vs hl _ ih=>exact .agg cs vs hl ih
 |tup cs vs hl _ ih=>exact .tup cs vs hl ih
theorem sg{w:World}{D:Nat}{o o':Obj}(hD:w.heap[D]?=some o)(hno:∀c e f,o≠.cells c e f):∀a v,w.cell? a=some v->(w.putObj D o').cell? a=some v:=by
 intro a v h
 have hne:a.block≠D:=by
  intro e;unfold World.cell? at h;rw[e,hD] at h;split at h
  ·rename_i hh;cases hh;exact absurd rfl (hno _ _ _)
  ·cases h
 unfold World.cell? at h |-
 have:(w.putObj D o').heap[a.block]?=w.heap[a.block]?:=by
  simp only[World.putObj];exact x5 (Ne.symm hne)
 rw[this];exact h
theorem zd{P:Program}{w:World}{D:Nat}(hD:w.heap[D]?=some (.deferred (some []))):(Instr.takeDeferred D).run P w=.ok [] (w.putObj D (.deferred none)):=by
 unfold Instr.takeDeferred;simp[getObj,setObj,Sem.run,hD,World.putObj,bind,Sem.bind,pure]
def zD(w w':World):Prop:=∀(k:Nat)(o:Obj),w.heap[k]?=some o->(∀ds,o≠.deferred ds)->w'.heap[k]?=some o
theorem mD{P:Program}{fn:Func}{tmps:Array Value}{R:Ending->World->Prop}{E:Env}{N:Cfg}{w₀:World}{v:Value}(hv:∀w,Cells w₀ w->(results fn tmps).run P w=.ok v w)
    (hR:∀w,Below E.base w₀ w->Below N.floor w₀ w->w.heap.size=w₀.heap.size->zD w₀ w->(∀a v,w₀.cell? a=some v->w.cell? a=some v)->R (.returned v) w):
    ∀(ds:List Deferred)(w:World),ot E N w ds->Below E.base w₀ w->Below N.floor w₀ w->w.heap.size=w₀.heap.size->zD w₀ w->(∀a v,w₀.cell? a=some v->w.cell? a=some v)->LeavesInM Fence.wide 0 P fn tmps R ds .returning w
 |[],w,_,hb,hb2,hs,hu,hc=>⟨v,hv w hc,hR w hb hb2 hs hu hc⟩
 |d::ds,w,hm,hb,hb2,hs,hu,hc=>by
  obtain⟨D,rfl,hD1,hD3,_,hD2⟩:=hm.2 d (by simp);have hpw:=A7.1 hm.1
  have hne:∀k,D≠k->(w.putObj D (.deferred none)).heap[k]?=w.heap[k]?:=λk hk=>by
   simp only[World.putObj];exact x5 hk
  refine⟨by simp,.inl ⟨D,w.putObj D (.deferred none),rfl,zd hD2,mD (N:=N) hv hR ds _ ⟨hpw.2,λd' hd'=>?_⟩ ?_ ?_ ?_ ?_ ?_⟩⟩
  ·obtain⟨D',rfl,h2,h2',h3,h4⟩:=hm.2 d' (by simp[hd']);refine⟨D',rfl,h2,h2',h3,?_⟩;rw[hne D' (λe=>hpw.1 _ hd' (by rw[e]))];exact h4
  ·exact hb.trans ⟨rfl,rfl,rfl,by simp[World.putObj],λk hk=>hne k (by omega)⟩
  ·exact hb2.trans ⟨rfl,rfl,rfl,by simp[World.putObj],λk hk=>hne k (by omega)⟩
  ·simp[World.putObj,hs]
  ·intro k o ho hno;have h1:=hu k o ho hno;rw[hne k (λe=>by subst e;rw[hD2] at h1;cases h1;exact hno _ rfl)];exact h1
  ·exact λa v h=>sg hD2 (by intros;simp) a v (hc a v h)
theorem Rel.env{E E':Env}{w:World}(hi:E'.imm=E.imm)(hm:E'.mu=E.mu)(hs:E'.sp=E.sp){x:AV}{v:Value}(h:Rel E w x v):Rel E' w x v:=
 h.mono (λb hb=>by rw[hi];exact hb) (λb n x hb=>by rw[hm];exact hb) (λb x hb=>by rw[hs];exact hb)
theorem xE{E E':Env}{w w₁ w':World}{H:Hp}{nx:Nat}(hE:EnvOk E w)(he:Ext E w E' w₁)(hE':EnvOk E' w₁)(hh:HeapOk E' H nx w₁)(hb:Below E'.base w₁ w')(hb2:Below w.heap.size w₁ w')(hs:w'.heap.size=w₁.heap.size)(hu:zD w₁ w')(hc:∀a v,w₁.cell? a=some v->w'.cell? a=some v):
    Ext E w {E' with dm:=E.dm} w'/\EnvOk {E' with dm:=E.dm} w'/\HeapOk {E' with dm:=E.dm} H nx w'/\∀x v,Rel E' w₁ x v->Rel {E' with dm:=E.dm} w' x v:=by
 have hrel:∀x v,Rel E' w₁ x v->Rel {E' with dm:=E.dm} w' x v:=λx v h=>Rel.env (E:=E') (E':={E' with dm:=E.dm}) rfl rfl rfl (h.world hc)
 have hmapB:∀{ks vs bs ck es},MapB E' w₁ ks vs bs ck es->MapB {E' with dm:=E.dm} w' ks vs bs ck es:=λh=>
  ⟨h.len,h.len',h.blen,λi x e h1 h2=>hrel _ _ (h.key i x e h1 h2),λi x e h1 h2=>hrel _ _ (h.val i x e h1 h2),h.born,h.nd,h.lt⟩
 have hmap:∀{ks vs es clock},MapOk E' w₁ ks vs es clock->MapOk {E' with dm:=E.dm} w' ks vs es clock:=λh=>
  ⟨h.len,h.len',λi x e h1 h2=>hrel _ _ (h.key i x e h1 h2),λi x e h1 h2=>hrel _ _ (h.val i x e h1 h2),h.born,h.clk⟩
 refine⟨⟨he.base,he.w0,he.imm,he.new,he.mu,he.sp,he.lp,λb hb'=>⟨hb',?_⟩,by rw[hs];exact he.size,λb hb'=>?_⟩,⟨λb hb'=>by rw[hs];exact hE'.lt b hb',hE'.below.trans hb,λb hb'=>?_,hE'.spi,λb k hk=>?_,hE'.spm,λb r T hl=>?_⟩,⟨λb cs hb'=>?_,hh.dom,hh.apart,by rw[hs];exact hh.size,hh.top,λb x hb' hx=>?_,hh.nsp⟩,hrel⟩
 ·rw[hb2.block b (hE.dlt hb'),(he.dm b hb').2]
 ·rw[hb2.block b (hE.lt b hb'),he.keep b hb']
 ·obtain⟨ds,hd⟩:=hE.dm b hb';exact⟨ds,by rw[hb2.block b (hE.dlt hb'),(he.dm b hb').2,hd]⟩
 ·obtain⟨h1,h2,o,h3,h4,h5⟩:=hE'.spb b k hk;exact⟨h1,h2,o,hu k o h3 h5,h4,h5⟩
 ·obtain⟨k,st,p,h1,h2,h3⟩:=hE'.lp b r T hl;exact⟨k,st,p,h1,hu _ _ h2 (by intro ds;simp),λt=>hrel _ _ (h3 t)⟩
 ·rcases hh.box b cs hb' with hn|⟨blk,sz,hx⟩
  ·exact .inl hn
  ·obtain⟨vals,ty,fz,k1,kz,k2,k3,k4⟩:=hx.cells
   exact .inr ⟨blk,sz,hx.mu,hx.base,hx.imm,vals,ty,fz,hu _ _ k1 (by intro ds; simp),kz,k2,k3,fun i x hx'=>by
    obtain⟨v,e1,e2,e3⟩:=k4 i x hx';exact⟨v,e1,e2,hrel _ _ e3⟩⟩
 ·obtain⟨k,h1,h2⟩:=hh.spec b x hb' hx;refine⟨k,h1,?_⟩;cases x with
  |omap ks vs=>
   obtain⟨es,clock,h3,h4⟩:=h2;exact⟨es,clock,hu _ _ h3 (by intro ds;simp),hmap h4⟩
  |oloop r T=>exact⟨hu _ _ h2.1 (by intro ds;simp),h2.2⟩
  |oiter m n0 seen=>
   obtain⟨km,last,h3,h4,h5⟩:=h2;exact⟨km,last,hu _ _ h3 (by intro ds;simp),h4,h5⟩
  |bmap ks vs bs ck=>
   obtain⟨es,h3,h4⟩:=h2;exact⟨es,hu _ _ h3 (by intro ds;simp),hmapB h4⟩
  |biter m n0 seen=>
   obtain⟨km,h3,h4⟩:=h2;exact⟨km,hu _ _ h3 (by intro ds;simp),h4⟩
  |_=>exact h2.elim
def AEx.ends:AEx->Bool
 |.exit _=>false
 |_=>true
def T0(args:List AV):Tm:=λt=>args.getD t .undef
def sQ(P:Program)(fn:Func)(args:List AV)(H:Hp)(nx:Nat)(K:AV->Hp->Nat->Prop):Prop:=
 ∃c,fn.body=some c/\args.length<=fn.ntmps/\awp P fn.ntmps c (T0 args) H nx λe T H nx=>bf e.ends (aC (mA P T H fn.results.toList) λx=>K x H nx)
theorem Bt{E:Env}{w:World}{args:List AV}{vs:List Value}(h:cX E w args vs)(N:Nat):∀t,Rel E w (T0 args t) ((vs.toArray++Array.replicate (N-vs.toArray.size) Go.undef).getD t Go.undef):=by
 intro t;unfold T0;by_cases hlt:t<args.length
 ·have h1:args.getD t .undef=args[t]:=by simp[List.getD,hlt]
  have hv:t<vs.length:=by rw[h.1];exact hlt
  have h2:(vs.toArray++Array.replicate (N-vs.toArray.size) Go.undef).getD t Go.undef=vs[t]:=by
   simp[Array.getElem?_append,hv]
  rw[h1,h2];exact h.2 t _ _ (by simp) (by simp)
 ·have h1:args.getD t .undef=.undef:=by
    simp only[List.getD];rw[List.getElem?_eq_none (by omega)];rfl
  rw[h1];exact .undef _
theorem wE{P:Program}{f:FuncId}{fn:Func}{args:List AV}{H:Hp}{nx:Nat}{K:AV->Hp->Nat->Prop}(hm:P.follows .mixedOrders=true)(hf:P.funcs[f]?=some fn)(hb:sQ P fn args H nx K)
    {E:Env} {w:World} {vs:List Value} (hE:EnvOk E w) (hh:HeapOk E H nx w) (hfr:ci E nx) (hv:cX E w args vs):
    Calls P f vs.toArray w λe w'=>∃v E' r H' nx',e=.returned v/\Ext E w E' w'/\EnvOk E' w'/\HeapOk E' H' nx' w'/\ci E' nx'/\Rel E' w' r v/\K r H' nx':=by
 obtain⟨c,hc,hlen,h⟩:=hb;refine(callsIn_wide (n:=0)).1 (callsIn_of_wp_marks hf hc trivial ?_)
 have hS:Sim E ⟨fn.ntmps,w.heap.size,none⟩ ⟨T0 args,H,nx⟩ {tmps:=vs.toArray++Array.replicate (fn.ntmps-vs.toArray.size) Go.undef,defers:=[]} w:=by
  refine⟨hE,hh,hfr,λl hl=>(by cases hl),bj _,?_,Bt hv _,⟨List.Pairwise.nil,λd hd=>(by cases hd)⟩⟩;simp[hv.1];omega
 refine wpIn_mono (F:=Fence.wide) (eZ hm c hS h) ?_;rintro e a' w₁ ⟨x,E',T,H',nx',rfl,he,hS',hk⟩;obtain⟨hx,hk⟩:=hk;cases hr:mA P T H' fn.results.toList with
 |none=>rw[hr] at hk;exact hk.elim
 |some r=>
  rw[hr] at hk;obtain⟨v,h1,h2⟩:=xS (P:=P) hS'.heap hS'.tmps hr
  have:LeavesInM Fence.wide 0 P fn a'.tmps (λe w'=>∃v E' r H' nx',e=.returned v/\Ext E w E' w'/\EnvOk E' w'/\HeapOk E' H' nx' w'/\ci E' nx'/\Rel E' w' r v/\K r H' nx') a'.defers .returning w₁:=by
   refine mD (E:=E') (N:=⟨fn.ntmps,w.heap.size,none⟩) (w₀:=w₁) h1 (λw' hb hb2 hs hu hc=>?_) a'.defers w₁ hS'.defers (Below.refl _ _) (Below.refl _ _) rfl (λ_ _ h _=>h) (λ_ _ h=>h);obtain⟨k1,k2,k3,k4⟩:=xE hE he hS'.env hS'.heap hb hb2 hs hu hc;exact⟨v,_,r,H',nx',rfl,k1,k2,k3,hS'.fresh,k4 _ _ h2,hk⟩
  cases x with
  |normal=>exact this
  |ret=>exact this
  |exit i=>cases hx
theorem Fn.of_body{P:Program}{f:FuncId}{fn:Func}{args:List AV}{H:Hp}{nx:Nat}{K:AV->Hp->Nat->Prop}(hm:P.follows .mixedOrders=true)(hf:P.funcs[f]?=some fn)(hc:cok P f=true)(hb:sQ P fn args H nx K):Fn P f args H nx K:=
 ⟨hc,λE w vs hE hh hfr hv=>wE hm hf hb hE hh hfr hv⟩
theorem Pure.of_fn{P:Program}{f:FuncId}{args:List AV}{r:AV}(h:Fn P f args bi 0 λx H nx=>Snap H x r):Pure P f args r:=by
 refine⟨h.1,λimm w vs hi hv=>?_⟩
 let E:Env:=⟨w.heap.size,w,imm,λ_ _=>none,λ_=>none,λ_=>none,λ_=>False⟩
 have hE:EnvOk E w:=⟨hi,Below.refl _ _,λ_ h=>h.elim,λ_ _ _ h=>(by cases h),λ_ _ h=>(by cases h),λ_ _ h=>(by cases h),λ_ _ _ h=>(by cases h)⟩
 have hv':cX E w args vs:=⟨hv.1,λi x y hx hy=>Rel.mono (E:=E0 imm) (E':=E) (λ_ h=>h) (λ_ _ _ h=>h) (λ_ _ h=>h) (hv.2 i x y hx hy)⟩
 refine(h.2 E w vs hE (HeapOk.noBox (bj _)) (λ_ _=>⟨λ_=>rfl,rfl,rfl⟩) hv').mono ?_;rintro e w' ⟨v,E',x,H',nx',rfl,he,hE',hh',hfr',hrel,hs⟩;refine⟨v,λb=>E'.imm b\/fH E' H' b,rfl,?_,λb hb=>.inl (he.imm b hb),?_,?_,hs.sound hh' hrel⟩
 ·have:=hE'.below;rw[he.base,he.w0] at this;exact this
 ·rintro b (hb|⟨b',cs,sz,h1,h2⟩)
  ·exact he.new b hb
  ·have:=(hh'.blk_lt h1 h2).2.1;rw[he.base] at this;exact .inr this
 ·rintro b (hb|⟨b',cs,sz,h1,h2⟩)
  ·exact hE'.lt b hb
  ·exact(hh'.blk_lt h1 h2).1
theorem qU.of_fn{P:Program}{f:FuncId}{args:List AV}{r:AV}(h:Fn P f args bi 0 λx H nx=>SnapF H x r):qU P f args r:=by
 refine⟨h.1,λimm w vs hi hv=>?_⟩
 let E:Env:=⟨w.heap.size,w,imm,λ_ _=>none,λ_=>none,λ_=>none,λ_=>False⟩
 have hE:EnvOk E w:=⟨hi,Below.refl _ _,λ_ h=>h.elim,λ_ _ _ h=>(by cases h),λ_ _ h=>(by cases h),λ_ _ h=>(by cases h),λ_ _ _ h=>(by cases h)⟩
 have hv':cX E w args vs:=⟨hv.1,λi x y hx hy=>Rel.mono (E:=E0 imm) (E':=E) (λ_ h=>h) (λ_ _ _ h=>h) (λ_ _ h=>h) (hv.2 i x y hx hy)⟩
 refine(h.2 E w vs hE (HeapOk.noBox (bj _)) (λ_ _=>⟨λ_=>rfl,rfl,rfl⟩) hv').mono ?_;rintro e w' ⟨v,E',x,H',nx',rfl,he,hE',hh',hfr',hrel,hs⟩;refine⟨v,λb=>fH E' H' b,rfl,?_,?_,?_,hs.sound hh' hrel⟩
 ·have:=hE'.below;rw[he.base,he.w0] at this;exact this
 ·rintro b ⟨b',cs,sz,h1,h2⟩;have:=(hh'.blk_lt h1 h2).2.1;rw[he.base] at this;exact this
 ·rintro b ⟨b',cs,sz,h1,h2⟩;exact(hh'.blk_lt h1 h2).1
theorem Pure.of_body{P:Program}{f:FuncId}{fn:Func}{args:List AV}{r:AV}(hm:P.follows .mixedOrders=true)(hf:P.funcs[f]?=some fn)(hc:cok P f=true)(hb:sQ P fn args bi 0 λx H nx=>Snap H x r):Pure P f args r:=
 Pure.of_fn (Fn.of_body hm hf hc hb)
def e8(H:Hp)(b:Nat):Hp:=λx=>if x=b then none else H x
theorem gm{H:Hp}{b:Nat}:e8 H b b=none:=by simp[e8]
theorem lw{H:Hp}{b x:Nat}{cs:List AV}(h:e8 H b x=some cs):x≠b/\H x=some cs:=by
 unfold e8 at h;split at h
 ·cases h
 ·exact⟨‹_›,h⟩
theorem HeapOk.del{E:Env}{H:Hp}{nx:Nat}{w:World}(h:HeapOk E H nx w)(b:Nat):HeapOk E (e8 H b) nx w:=
 h.fewer (λ_ _ hb=>(lw hb).2) (λx cs hb=>h.dom x cs (lw hb).2)
theorem nu{E:Env}{H:Hp}{nx:Nat}{w:World}(hE:EnvOk E w)(hh:HeapOk E H nx w){b k:Nat}{o o':Obj}(hs:E.sp b=some k)(ho:w.heap[k]?=some o)
    (hc:iM o=false) (hc':iM o'=false) (hd:∀ds,o≠.deferred ds) (hd':∀ds,o'≠.deferred ds)
    (hl:∀r T,E.lp b=some (r,T)->∃st p,o'=.loop {r with state:=st,pending:=p}) (hH:∀x,H b=some [x]->x.special=false):
    Ext E w E (w.putObj k o')/\EnvOk E (w.putObj k o')/\HeapOk E H nx (w.putObj k o'):=by
 obtain⟨hbase,himm,_⟩:=hE.spb b k hs;have hlt:k<w.heap.size:=(gR.1 ho).1;have hne:∀k',k'≠k->(w.putObj k o').heap[k']?=w.heap[k']?:=λk' h=>World.putObj_heap_other h;have hself:(w.putObj k o').heap[k]?=some o':=x7 hlt
 have hcell:∀blk vals ty fz,w.heap[blk]?=some (.cells vals ty fz)->blk≠k:=λblk vals ty fz h e=>by
  subst e;rw[ho] at h;cases h;cases hc
 have hcs:∀ a v,w.cell? a=some v→(w.putObj k o').cell? a=some v:=sg ho (by
  intro c e f e';subst e';cases hc)
 have he:Ext E w E (w.putObj k o'):=⟨rfl,rfl,fun _ h=>h,fun _ h=>.inl h,fun _ _ _ h=>h,fun _ _ h=>h,fun _ _ h=>h,fun b' hb'=>⟨hb',hne b' (fun e=>by
  subst e;obtain⟨ds,hds⟩:=hE.dm _ hb';rw[ho] at hds;cases hds;exact hd _ rfl)⟩,by simp,λb' hb'=>hne b' (λe=>himm (e▸hb'))⟩
 have hspE:∀b' x,b'≠b->∀k',E.sp b'=some k'->tg E w b' k' x->tg E (w.putObj k o') b' k' x:=by
  intro b' x hb' k' hk' h;have hkk:k'≠k:=λe=>hb' (hE.spi b' b k (by rw[<-e];exact hk') hs);cases x with
  |omap ks vs=>
   obtain⟨es,clock,h1,h2⟩:=h;exact⟨es,clock,(hne _ hkk).trans h1,h2.ext he⟩
  |oloop r T=>exact⟨(hne _ hkk).trans h.1,h.2⟩
  |oiter m n0 seen=>
   obtain⟨km,last,h1,h2,h3⟩:=h;exact⟨km,last,(hne _ hkk).trans h1,h2,h3⟩
  |bmap ks vs bs ck=>
   obtain⟨es,h1,h2⟩:=h;exact⟨es,(hne _ hkk).trans h1,h2.ext he⟩
  |biter m n0 seen=>
   obtain⟨km,h1,h2⟩:=h;exact⟨km,(hne _ hkk).trans h1,h2⟩
  |_=>exact h.elim
 refine ⟨he,⟨fun b' hb'=>by simpa using hE.lt b' hb',hE.below.trans ⟨rfl,rfl,rfl,by simp,fun k' hk'=>hne k' (by omega)⟩,fun b' hb'=>?_,hE.spi,fun b' k' hk'=>?_,hE.spm,fun b' r T hl'=>?_⟩,
  ⟨λb' cs hb'=>?_,hh.dom,hh.apart,by simpa using hh.size,hh.top,λb' x hb' hx=>?_,hh.nsp⟩⟩
 ·obtain⟨ds,hds⟩:=hE.dm b' hb';exact⟨ds,by rw[(he.dm b' hb').2];exact hds⟩
 ·obtain⟨h1,h2,o1,h3,h4,h5⟩:=hE.spb b' k' hk';by_cases hkk:k'=k
  ·subst hkk;exact⟨h1,h2,o',hself,hc',hd'⟩
  ·exact⟨h1,h2,o1,(hne _ hkk).trans h3,h4,h5⟩
 ·obtain⟨k',st,p,h1,h2,h3⟩:=hE.lp b' r T hl';by_cases hkk:k'=k
  ·subst hkk;obtain rfl:=hE.spi b' b _ h1 hs;obtain⟨st',p',rfl⟩:=hl r T hl';exact⟨_,st',p',h1,hself,λt=>(h3 t).world hcs⟩
  ·exact⟨k',st,p,h1,(hne _ hkk).trans h2,λt=>(h3 t).world hcs⟩
 ·rcases hh.box b' cs hb' with hn|⟨blk,sz,hx⟩
  ·exact .inl hn
  ·obtain⟨vals,ty,fz,k1,kz,k2,k3,k4⟩:=hx.cells
   exact .inr ⟨blk,sz,hx.mu,hx.base,hx.imm,vals,ty,fz,(hne _ (hcell _ _ _ _ k1)).trans k1,kz,k2,k3,fun i x hx'=>by
    obtain⟨v,e1,e2,e3⟩:=k4 i x hx';exact⟨v,e1,e2,e3.world hcs⟩⟩
 ·obtain⟨k',h1,h2⟩:=hh.spec b' x hb' hx;refine⟨k',h1,hspE b' x (λe=>?_) k' h1 h2⟩;subst e;rw[hH x hb'] at hx;cases hx
theorem HeapOk.addSp{E:Env}{H:Hp}{nx:Nat}{w:World}(h:HeapOk E H nx w){b k:Nat}{x:AV}(hb:b<nx)(hm:∀n,E.mu b n=none)(hs:E.sp b=some k)(hx:tg E w b k x):HeapOk E (ah H b [x]) nx w:=by
 refine⟨λb' cs hb'=>?_,λb' cs hb'=>?_,λb1 b2 cs1 cs2 blk1 sz1 blk2 sz2 hb1 hb2 hne m1 m2=>?_,h.size,λb' cs m y hb' hm'=>?_,λb' y hb' hy=>?_,λb' hb'=>?_⟩
 ·rcases d9 hb' with⟨rfl,rfl⟩|⟨_,h1⟩
  ·exact .inl (hm _)
  ·exact h.box b' cs h1
 ·rcases d9 hb' with⟨rfl,rfl⟩|⟨_,h1⟩
  ·exact hb
  ·exact h.dom b' cs h1
 ·rcases d9 hb1 with⟨rfl,rfl⟩|⟨_,h1⟩
  ·rw[hm] at m1;cases m1
  ·rcases d9 hb2 with⟨rfl,rfl⟩|⟨_,h2⟩
   ·rw[hm] at m2;cases m2
   ·exact h.apart b1 b2 cs1 cs2 blk1 sz1 blk2 sz2 h1 h2 hne m1 m2
 ·rcases d9 hb' with⟨rfl,rfl⟩|⟨_,h1⟩
  ·rw[hm] at hm';cases hm'
  ·exact h.top b' cs m y h1 hm'
 ·rcases d9 hb' with⟨rfl,e⟩|⟨_,h1⟩
  ·cases e;exact⟨k,hs,hx⟩
  ·exact h.spec b' y h1 hy
 ·rcases d9 hb' with⟨rfl,e⟩|⟨_,h1⟩
  ·cases e
  ·exact h.nsp b' h1
theorem qK{E:Env}{H:Hp}{nx:Nat}{w:World}(hE:EnvOk E w)(hh:HeapOk E H nx w)(hf:kr E nx)(o:Obj)(hc:iM o=false)(hd:∀ds,o≠.deferred ds):
    ∃E',E'={E with sp:=λb=>if b=nx then some w.heap.size else E.sp b}/\Ext E w E' (w.alloc o)/\EnvOk E' (w.alloc o)/\HeapOk E' H (nx+1) (w.alloc o)/\E'.sp nx=some w.heap.size/\(w.alloc o).heap[w.heap.size]?=some o:=by
 let E':Env:={E with sp:=λb=>if b=nx then some w.heap.size else E.sp b}
 have hspo:∀b,b≠nx->E'.sp b=E.sp b:=λb hb=>if_neg hb;have hself:E'.sp nx=some w.heap.size:=if_pos rfl;have hspm:∀b x,E.sp b=some x->E'.sp b=some x:=λb x hb=>by rw[hspo b (λe=>by subst e;rw[hf.2.1] at hb;cases hb)];exact hb
 have hext:Ext E w E' (w.alloc o):=
  ⟨rfl,rfl,λ_ h=>h,λ_ h=>.inl h,λ_ _ _ h=>h,hspm,λ_ _ h=>h,λ_ h=>⟨h,bR (hE.dlt h)⟩,by simp,λb hb=>bR (hE.lt b hb)⟩
 have hnew:(w.alloc o).heap[w.heap.size]?=some o:=World.alloc_heap_new w o;have hst:=ez.alloc w o
 refine ⟨E',rfl,hext,⟨fun b hb=>?_,hE.below.trans ((Below.refl _ _).alloc hh.size o),fun b hb=>?_,fun b b' k h1 h2=>?_,fun b k hk=>?_,fun b k hk n=>?_,fun b r T hl=>?_⟩,
  ⟨λb cs hb=>?_,λb cs hb=>Nat.lt_succ_of_lt (hh.dom b cs hb),hh.apart,by simpa using Nat.le_succ_of_le hh.size,hh.top,λb x hb hx=>?_,λb hb=>?_⟩,hself,hnew⟩
 ·have:=hE.lt b hb;simp;omega
 ·obtain⟨ds,h⟩:=hE.dm b hb;exact⟨ds,hst _ _ h rfl⟩
 ·by_cases hb:b=nx
  ·subst hb;rw[hself] at h1;cases h1;by_cases hb':b'=b
   ·exact hb'.symm
   ·rw[hspo b' hb'] at h2;have:=hE.splt h2;omega
  ·rw[hspo b hb] at h1;by_cases hb':b'=nx
   ·subst hb';rw[hself] at h2;cases h2;have:=hE.splt h1;omega
   ·rw[hspo b' hb'] at h2;exact hE.spi b b' k h1 h2
 ·by_cases hb:b=nx
  ·subst hb;rw[hself] at hk;cases hk;exact⟨hh.size,λhi=>by have:=hE.lt _ hi;omega,o,hnew,hc,hd⟩
  ·rw[hspo b hb] at hk;obtain⟨h1,h2,o1,h3,h4,h5⟩:=hE.spb b k hk;exact⟨h1,h2,o1,hst _ _ h3 h4,h4,h5⟩
 ·by_cases hb:b=nx
  ·subst hb;exact hf.1 n
  ·rw[hspo b hb] at hk;exact hE.spm b k hk n
 ·obtain⟨k,st,p,h1,h2,h3⟩:=hE.lp b r T hl;exact⟨k,st,p,hspm _ _ h1,hst _ _ h2 rfl,λt=>(h3 t).ext hext⟩
 ·rcases hh.box b cs hb with hn|⟨blk,sz,hx⟩
  ·exact .inl hn
  ·obtain⟨vals,ty,fz,k1,kz,k2,k3,k4⟩:=hx.cells
   exact .inr ⟨blk,sz,hx.mu,hx.base,hx.imm,vals,ty,fz,(bR (gR.1 k1).1).trans k1,kz,k2,k3,fun i x hx'=>by
    obtain⟨v,e1,e2,e3⟩:=k4 i x hx';exact⟨v,e1,e2,e3.ext hext⟩⟩
 ·obtain⟨k,h1,h2⟩:=hh.spec b x hb hx;exact⟨k,hspm _ _ h1,h2.ext hext (λk o _=>hst k o)⟩
 ·have:=hh.dom b _ hb;rw[hspo b (by omega)];exact hh.nsp b hb
def Yl(P:Program)(b:Nat)(args:List AV)(H:Hp)(nx:Nat)(K:AV->Hp->Nat->Prop):Prop:=
 ∀(E:Env)(w:World)(vs:List Value),EnvOk E w->HeapOk E H nx w->ci E nx->cX E w args vs->
  ∃l r,E.sp b=some l/\w.heap[l]?=some (.loop r)/\vs.length=r.params.size/\
   RoundIn Fence.wide 0 P l r.fn ((r.params.zip vs.toArray).foldl (λtmps(t,a)=>tmps.setIfInBounds t a) r.tmps) r.assign r.body w λe w'=>
    ∃v E' x H' nx',e=.returned v/\Ext E w E' w'/\EnvOk E' w'/\HeapOk E' H' nx' w'/\ci E' nx'/\Rel E' w' x v/\K x H' nx'
theorem Yl.mono{P:Program}{b:Nat}{args:List AV}{H:Hp}{nx:Nat}{K K':AV->Hp->Nat->Prop}(h:Yl P b args H nx K)(hK:∀r H nx,K r H nx->K' r H nx):Yl P b args H nx K':=by
 intro E w vs h1 h2 h3 h4;obtain⟨l,r,k1,k2,k3,k4⟩:=h E w vs h1 h2 h3 h4;refine⟨l,r,k1,k2,k3,k4.mono ?_⟩;rintro e w' ⟨v,E',x,H',nx',m1,m2,m3,m4,m5,m6,m7⟩;exact⟨v,E',x,H',nx',m1,m2,m3,m4,m5,m6,hK _ _ _ m7⟩
theorem ud{P:Program}{f:Operand}{args:Array Operand}{ts:Array TypeId}{T:Tm}{H:Hp}{nx b:Nat}{K:AV->Hp->Nat->Prop}(hf:ev T f=.yld b)(h:Yl P b (args.toList.map (ev T)) H nx K):
    cJ P (.call {callee:=.value f,args:=args,argTypes:=ts}) T H nx K:=by
 refine⟨by intro c;simp,?_⟩;rintro rr E w a ⟨dst,op,type,pos,after,guard⟩ next Q ho hE hh hfr ht hn;simp only at ho;subst ho;have hr:=ht f (by simp[Op.operands,Call.operands]);rw[hf] at hr;generalize hv:a.eval f=vf at hr;cases hr with
 |yld _ l hl=>
 obtain⟨l',r,k1,k2,k3,k4⟩:=h E w (args.toList.map a.eval) hE hh hfr (u4 (E:=E) (w:=w) (T:=T) (a:=a) args.toList (λx hx=>ht x (by simp only[Op.operands,Call.operands];exact rC.2 (.inr (by simpa using hx)))));rw[hl] at k1;cases k1;have harr:args.map a.eval=(args.toList.map a.eval).toArray:=ii a.eval args
 have hrun:(execOp a.eval ⟨dst,.call {callee:=.value f,args:=args,argTypes:=ts},type,pos,after,guard⟩).run P w=.ok (.round l r.fn ((r.params.zip (args.toList.map a.eval).toArray).foldl (λtmps(t,a)=>tmps.setIfInBounds t a) r.tmps) r.assign r.body) w:=by
  have hy:=run_yield (P:=P) (args:=(args.toList.map a.eval).toArray) k2 (by simpa using k3);unfold execOp;simp only[resolve,hv,Deferred.ofValue,invoke,bg,dl,a9,Array.empty_append];rw[harr];exact hy
 rw[hrun,Oper.uponIn_round];refine⟨(λh=>by cases h),?_⟩;refine(RoundIn.mono (F:=FW rr) (show RoundIn (FW rr) 0 P l r.fn _ r.assign r.body w _ from k4) ?_);rintro e w' ⟨v,E',x,H',nx',rfl,m2,m3,m4,m5,m6,m7⟩;exact hn E' H' nx' x v w' m2 m3 m4 m5 m6 m7
def ky(T:Tm):List Nat->List AV->Tm
 |t::ts,x::xs=>ky (upd T t x) ts xs
 |_,_=>T
theorem vF{E:Env}{w:World}:∀(ps:List Nat)(xs:List AV)(vs:List Value)(T:Tm)(tmps:Array Value),cX E w xs vs->(∀t∈ps,t<tmps.size)->(∀t,Rel E w (T t) (tmps.getD t Go.undef))->
    ((ps.zip vs).foldl (λtmps(t,a)=>tmps.setIfInBounds t a) tmps).size=tmps.size/\∀t,Rel E w (ky T ps xs t) (((ps.zip vs).foldl (λtmps(t,a)=>tmps.setIfInBounds t a) tmps).getD t Go.undef)
 |[],xs,vs,T,tmps,hl,hp,h=>by simp[ky];exact λt=>by simpa using h t
 |p::ps,[],vs,T,tmps,hl,hp,h=>by
  have:vs=[]:=fI.1 hl.1;subst this;simp[ky];exact λt=>by simpa using h t
 |p::ps,x::xs,vs,T,tmps,hl,hp,h=>by
  cases vs with
  |nil=>have:=hl.1;simp at this
  |cons v vs=>
   have hx:Rel E w x v:=hl.2 0 x v rfl rfl;have hl':cX E w xs vs:=⟨by have:=hl.1;simpa using this,λi a b ha hb=>hl.2 (i+1) a b (by simpa using ha) (by simpa using hb)⟩
   have:=vF ps xs vs (upd T p x) (tmps.setIfInBounds p v) hl' (fun t ht=>by simpa using hp t (by simp [ht])) (fun t=>by
    simp only[upd];split
    ·rename_i e;subst e;have:t<tmps.size:=hp t (by simp);simp[this];exact hx
    ·rename_i hne
     have e:(tmps.setIfInBounds p v).getD t Go.undef=tmps.getD t Go.undef:=by
      simp only[tE];rw[x5 (Ne.symm hne)]
     rw[e];exact h t)
   refine⟨by simpa using this.1,λt=>?_⟩;simpa[ky] using this.2 t
structure Ready0(n:Nat)(ps:Array Nat)(assign body:Code)(r:Loop):Prop where
 params:r.params=ps
 assign:r.assign=assign
 body:r.body=body
 state:r.state=.ready
 pending:r.pending=none
 size:r.tmps.size=n
def B0:AEx->Code
 |.exit i=>.exit i
 |_=>.ret
def sG(r:Loop)(T:Tm)(e:AEx):AV:=.oloop {r with state:=.done,pending:=some (B0 e)} T
theorem mw{n:Nat}{ps:Array Nat}{assign body:Code}{r:Loop}(h:Ready0 n ps assign body r):{r with state:=.ready,pending:=none}=r:=by
 have h1:=h.state;have h2:=h.pending;cases r;simp only at h1 h2;subst h1 h2;rfl
theorem Yl.of_awp{P:Program}{n:Nat}{ps:Array Nat}{assign body:Code}{r:Loop}(hr:Ready0 n ps assign body r)(hm:P.follows .mixedOrders=true)(hps:∀t∈ps.toList,t<n)
    {b:Nat} {args:List AV} {T:Tm} {H:Hp} {nx:Nat} {K:AV->Hp->Nat->Prop} (hb:H b=some [.oloop r T]) (hl:args.length=ps.size)
    (h:awp P n assign (ky T ps.toList args) H nx fun e T2 H2 nx2=>bl e (H2 b=some [.oloop r T]∧awp P n body T2 (e8 H2 b) nx2 fun e T3 H3 nx3 =>
     bl e (K (.bool true) (ah H3 b [.oloop r T]) nx3) (K (.bool false) (ah H3 b [sG r T e]) nx3)) False):Yl P b args H nx K:=by
 intro E w vs hE hh hf hv;obtain⟨l,hs,hw,hlp⟩:=hh.spec b _ hb rfl;have hlp:E.lp b=some (r,T):=by rw[<-mw hr];exact hlp
 obtain⟨l',st,p,e1,e2,hT⟩:=hE.lp b r T hlp;rw[hs] at e1;cases e1;obtain⟨hbase,himm,_⟩:=hE.spb b l hs;refine⟨l,r,hs,hw,by rw[hr.params,hv.1,hl],?_⟩;refine roundIn_of_wpIn (F:=Fence.wide) trivial ?_;have htm:=vF ps.toList args vs T r.tmps hv (λt ht=>by rw[hr.size];exact hps t ht) hT
 have hfold:(r.params.zip vs.toArray).foldl (λtmps(t,a)=>tmps.setIfInBounds t a) r.tmps=(ps.toList.zip vs).foldl (λtmps(t,a)=>tmps.setIfInBounds t a) r.tmps:=by
  rw[hr.params,<-Array.foldl_toList];simp
 rw[hfold,hr.assign,hr.body]
 have hS:Sim E ⟨n,0,some l⟩ ⟨ky T ps.toList args,H,nx⟩ {tmps:=(ps.toList.zip vs).foldl (λtmps(t,a)=>tmps.setIfInBounds t a) r.tmps,defers:=[]} w:=
  ⟨hE,hh,hf,λl' hl'=>by cases hl';exact⟨b,_,hlp,hs⟩,bZ _,by rw[<-hr.size];exact htm.1,htm.2,⟨List.Pairwise.nil,λd hd=>(by cases hd)⟩⟩
 have put:∀(E1:Env)(H1:Hp)(nx1:Nat)(w1:World)(r1:Loop)(st:LoopState)(p:Option Code),Ext E w E1 w1->EnvOk E1 w1->HeapOk E1 H1 nx1 w1->w1.heap[l]?=some (.loop r1)->
     Ext E1 w1 E1 (w1.putObj l (.loop {r with state:=st,pending:=p}))/\EnvOk E1 (w1.putObj l (.loop {r with state:=st,pending:=p}))/\HeapOk E1 (e8 H1 b) nx1 (w1.putObj l (.loop {r with state:=st,pending:=p})):=by
  intro E1 H1 nx1 w1 r1 st p he1 hE1 hh1 hw1;refine nu hE1 (hh1.del b) (he1.sp _ _ hs) hw1 rfl rfl (by intro ds;simp) (by intro ds;simp) (λr' T' h'=>?_) (λx hx=>?_)
  ·rw[he1.lp _ _ hlp] at h';cases h';exact⟨st,p,rfl⟩
  ·rw[gm] at hx;cases hx
 have static:∀(E1:Env)(w1:World),Ext E w E1 w1->EnvOk E1 w1->∃st p,w1.heap[l]?=some (.loop {r with state:=st,pending:=p}):=by
  intro E1 w1 he1 hE1;obtain⟨l1,st1,p1,f1,f2,_⟩:=hE1.lp b r T (he1.lp _ _ hlp);rw[he1.sp _ _ hs] at f1;cases f1;exact⟨st1,p1,f2⟩
 refine wpIn_mono (F:=FW (some l)) (eZ hm assign hS h) ?_;rintro e a1 w1 ⟨x,E1,T1,H1,nx1,rfl,he1,hS1,hk⟩;cases x with
 |exit i=>exact hk.elim
 |ret=>exact hk.elim
 |normal=>
 obtain⟨hb1,hk⟩:=hk;obtain⟨l1,g1,g2,_⟩:=hS1.heap.spec b _ hb1 rfl;rw[he1.sp _ _ hs] at g1;cases g1;refine⟨_,run_beginRound g2 hr.state,?_⟩;have hbusy:({r with state:=.busy}:Loop)={r with state:=.busy,pending:=none}:=by have:=hr.pending;cases r;simp only at this;subst this;rfl
 rw[hbusy];obtain⟨p1,p2,p3⟩:=put E1 H1 nx1 w1 r .busy none he1 hS1.env hS1.heap g2
 have hS2:Sim E1 ⟨n,0,some l⟩ ⟨T1,e8 H1 b,nx1⟩ a1 (w1.putObj l (.loop {r with state:=.busy,pending:=none})):=
  ⟨p2,p3,hS1.fresh,hS1.round,bZ _,hS1.size,λt=>(hS1.tmps t).ext p1,hS1.defers.ext p1⟩
 refine wpIn_mono (F:=FW (some l)) (eZ hm body hS2 hk) ?_;rintro e a3 w3 ⟨x,E3,T3,H3,nx3,rfl,he3,hS3,hk3⟩;have he03:Ext E w E3 w3:=(he1.trans p1).trans he3;obtain⟨st3,pd3,hw3⟩:=static E3 w3 he03 hS3.env
 have hlt3:b<nx3:=by
  rcases ya b nx3 with h|h
  ·exact h
  ·have:=(hS3.fresh b h).2.1;rw[he03.sp _ _ hs] at this;cases this
 have hl3:=gR.1 hw3
 have fin:∀(st:LoopState)(jump:Option Code)(v:Bool),K (.bool v) (ah H3 b [.oloop {r with state:=st,pending:=jump} T]) nx3->st=(if jump.isNone then .ready else .done)->v=jump.isNone->
     ∃v' w',(Instr.endRound l jump).run P w3=.ok v' w'/\∃v E' x H' nx',Ending.returned v'=.returned v/\Ext E w E' w'/\EnvOk E' w'/\HeapOk E' H' nx' w'/\ci E' nx'/\Rel E' w' x v/\K x H' nx':=by
  intro st jump v hK hst hv;obtain⟨q1,q2,q3⟩:=put E3 H3 nx3 w3 _ st jump he03 hS3.env hS3.heap hw3
  have q4:=q3.addSp (x:=.oloop { r with state:=st,pending:=jump } T) hlt3 (q2.spm b l (he03.sp _ _ hs)) (he03.sp _ _ hs) ⟨x7 hl3.1,by
   have:=he03.lp _ _ hlp;rw[<-mw hr] at this;exact this⟩
  have hH:ah (e8 H3 b) b [.oloop {r with state:=st,pending:=jump} T]=ah H3 b [.oloop {r with state:=st,pending:=jump} T]:=by
   funext y;unfold ah e8;split<;>rfl
  rw[hH] at q4;refine⟨_,_,run_endRound jump hw3,?_⟩;subst hv;refine⟨.bool jump.isNone,E3,.bool jump.isNone,_,nx3,rfl,?_,?_,?_,hS3.fresh,.bool _,hK⟩
  ·subst hst;exact he03.trans q1
  ·subst hst;exact q2
  ·subst hst;exact q4
 cases x with
 |normal=>
  have hk3:K (.bool true) (ah H3 b [.oloop r T]) nx3:=hk3;rw[<-mw hr] at hk3;exact fin .ready none true hk3 rfl rfl
 |exit i=>exact fin .done (some (.exit i)) false hk3 rfl rfl
 |ret=>exact fin .done (some .ret) false hk3 rfl rfl
theorem Cl{E:Env}{H:Hp}{nx:Nat}{w:World}(hE:EnvOk E w)(hh:HeapOk E H nx w):
    ∃E',E'={E with dm:=λb=>E.dm b\/b=w.heap.size}/\Ext E w E' (w.alloc (.deferred (some [])))/\EnvOk E' (w.alloc (.deferred (some [])))/\HeapOk E' H nx (w.alloc (.deferred (some []))):=by
 let E':Env:={E with dm:=λb=>E.dm b\/b=w.heap.size}
 have hext:Ext E w E' (w.alloc (.deferred (some []))):=
  ⟨rfl,rfl,λ_ h=>h,λ_ h=>.inl h,λ_ _ _ h=>h,λ_ _ h=>h,λ_ _ h=>h,λb h=>⟨.inl h,bR (hE.dlt h)⟩,by simp,λb hb=>bR (hE.lt b hb)⟩
 have hst:=ez.alloc w (.deferred (some []));refine⟨E',rfl,hext,⟨λb hb=>?_,hE.below.trans ((Below.refl _ _).alloc hh.size _),λb hb=>?_,hE.spi,λb k hk=>?_,hE.spm,λb r T hl=>?_⟩,?_⟩
 ·have:=hE.lt b hb;simp;omega
 ·rcases hb with hb|rfl
  ·obtain⟨ds,h⟩:=hE.dm b hb;exact⟨ds,hst _ _ h rfl⟩
  ·exact⟨some [],World.alloc_heap_new w _⟩
 ·obtain⟨h1,h2,o,h3,h4,h5⟩:=hE.spb b k hk;exact⟨h1,h2,o,hst _ _ h3 h4,h4,h5⟩
 ·obtain⟨k,st,p,h1,h2,h3⟩:=hE.lp b r T hl;exact⟨k,st,p,h1,hst _ _ h2 rfl,λt=>(h3 t).ext hext⟩
 ·exact hh.step hext (λ_ h=>.inl h) (bj _) (λ_ _ _ _=>rfl) (λb cs blk sz hb hm=>bR (hh.blk_lt hb hm).1) hst rfl
theorem y9{E:Env}{H:Hp}{nx n:Nat}{w:World}(hE:EnvOk E w)(hh:HeapOk E H nx w)(hf:ci E nx){r:Loop}{T:Tm}{ps:Array Nat}{assign body:Code}(hr:Ready0 n ps assign body r)(hT:∀t,Rel E w (T t) (r.tmps.getD t Go.undef)):
    ∃E',Ext E w E' (w.alloc (.loop r))/\EnvOk E' (w.alloc (.loop r))/\HeapOk E' (ah H nx [.oloop r T]) (nx+1) (w.alloc (.loop r))/\ci E' (nx+1)/\E'.sp nx=some w.heap.size/\E'.lp nx=some (r,T)/\E'.dm=E.dm:=by
 obtain⟨E1,hE1,he,hE',hh',hs,hnew⟩:=qK hE hh (hf nx (bj _)) (.loop r) rfl (by intro ds;simp)
 let E2:Env:={E1 with lp:=λb=>if b=nx then some (r,T) else E1.lp b}
 have hlp1:E1.lp=E.lp:=by rw[hE1]
 have hlpo:∀b x,E1.lp b=some x->E2.lp b=some x:=λb x hb=>by
  show(if b=nx then some (r,T) else E1.lp b)=some x;rw[if_neg (λe=>by subst e;rw[hlp1,(hf b (bj _)).2.2] at hb;cases hb)];exact hb
 have hself:E2.lp nx=some (r,T):=if_pos rfl
 have he2:Ext E1 (w.alloc (.loop r)) E2 (w.alloc (.loop r)):=
  ⟨rfl,rfl,λ_ h=>h,λ_ h=>.inl h,λ_ _ _ h=>h,λ_ _ h=>h,hlpo,λ_ h=>⟨h,rfl⟩,bj _,λ_ _=>rfl⟩
 have hE2:EnvOk E2 (w.alloc (.loop r)):=⟨hE'.lt,hE'.below,hE'.dm,hE'.spi,hE'.spb,hE'.spm,fun b r' T' hl=>by
  by_cases hb:b=nx
  ·subst hb;rw[hself] at hl;cases hl;exact⟨w.heap.size,r.state,r.pending,hs,hnew,λt=>(hT t).ext (he.trans he2)⟩
  ·have hl:E1.lp b=some (r',T'):=by rw[<-hl];exact(if_neg hb).symm
   obtain⟨k,st,p,h1,h2,h3⟩:=hE'.lp b r' T' hl;exact⟨k,st,p,h1,h2,λt=>(h3 t).ext he2⟩⟩
 have hh2:HeapOk E2 H (nx+1) (w.alloc (.loop r)):=hh'.step he2 (λ_ h=>.inl h) (bj _) (λ_ _ _ _=>rfl) (λ_ _ _ _ _ _=>rfl) (ez.refl _) rfl;refine⟨E2,he.trans he2,hE2,?_,λb hb=>?_,hs,hself,by show E1.dm=E.dm;rw[hE1]⟩
 ·refine hh2.addSp (sZ _) (hE2.spm nx _ hs) hs ⟨hnew,?_⟩;rw[hself,mw hr]
 ·have h0:=hf b (by omega);refine⟨λn=>?_,?_,?_⟩
  ·show E1.mu b n=none;rw[hE1];exact h0.1 n
  ·show E1.sp b=none;rw[hE1];show(if b=nx then _ else _)=none;rw[if_neg (by omega)];exact h0.2.1
  ·show(if b=nx then _ else E1.lp b)=none;rw[if_neg (by omega),hlp1];exact h0.2.2
def B8(r:Loop)(T:Tm)(b:Nat)(K:CP):Hp->Nat->Prop:=λH nx=>
 (H b=some [.oloop r T]/\K .normal T (e8 H b) nx)\/ ∃e,e≠.normal/\H b=some [sG r T e]/\K e T (e8 H b) nx
theorem Cw{P:Program}{n:Nat}{g:Operand}{ps:Array Nat}{assign body:Code}{T:Tm}{H:Hp}{nx:Nat}{K:CP}{f:FuncId}{caps:List AV}(hf:ev T g=.func f caps)
    (h:∀r:Loop,Ready0 n ps assign body r->Fn P f (.yld nx::caps) (ah H nx [.oloop r T]) (nx+1) λ_ H' nx'=>B8 r T nx K H' nx'):RF P n (.rangeFunc g ps assign body) T H nx K:=by
 intro N E a w hn hS;refine wpIn_rangeFunc (F:=FW N.rd) (n:=0) ?_;intro fn _
 have hgo:∃(l dd:Nat)(mark:List Deferred)(w₁:World)(E1:Env),(Instr.enterLoop fn a.tmps ps assign body N.rd).run P w=.ok (l,mark) (w₁.alloc (.loop {state:=.ready,pending:=none,fn,tmps:=a.tmps,params:=ps,assign,body,defers:=dd}))/\
     l=w₁.heap.size/\Ext E w E1 w₁/\EnvOk E1 w₁/\HeapOk E1 H nx w₁/\ci E1 nx/\ot E1 N w₁ (mark++a.defers):=by
  cases hrd:N.rd with
  |none=>
   obtain⟨E1,hE1,he,hE',hh'⟩:=Cl hS.env hS.heap;refine⟨w.heap.size+1,w.heap.size,[{target:=.collected w.heap.size,args:=#[]}],_,E1,run_enterLoop_outer _ _ _ _ _,by simp,he,hE',hh',by rw[hE1];exact hS.fresh,?_⟩;refine⟨A7.2 ⟨λd hd=>?_,hS.defers.1⟩,λd hd=>?_⟩
   ·obtain⟨D,rfl,_,_,hD,_⟩:=hS.defers.2 d hd;have:=hS.env.dlt hD;intro e;simp at e;omega
   ·rcases nj.1 hd with rfl|hd
    ·exact⟨w.heap.size,rfl,by rw[he.base];exact hS.heap.size,hS.floor,by rw[hE1];exact .inr rfl,World.alloc_heap_new w _⟩
    ·exact(hS.defers.ext he).2 d hd
  |some l0=>
   obtain⟨b,⟨r0,T0⟩,h1,h2⟩:=hS.round l0 hrd;obtain⟨k,st,p,e1,e2,_⟩:=hS.env.lp b r0 T0 h1;rw[h2] at e1;cases e1;exact⟨w.heap.size,r0.defers,[],w,E,run_enterLoop_inner e2 _ _ _ _ _,rfl,Ext.refl _ _,hS.env,hS.heap,hS.fresh,hS.defers⟩
 obtain⟨l,dd,mark,w₁,E1,hrun,hl,he1,hE1,hh1,hf1,hmk⟩:=hgo;have hr:Ready0 n ps assign body {state:=.ready,pending:=none,fn,tmps:=a.tmps,params:=ps,assign,body,defers:=dd}:=⟨rfl,rfl,rfl,rfl,rfl,by show a.tmps.size=n;rw[hS.size,hn]⟩
 generalize hrr:({state:=.ready,pending:=none,fn,tmps:=a.tmps,params:=ps,assign,body,defers:=dd}:Loop)=r at hr hrun;have hrt:r.tmps=a.tmps:=by subst hrr;rfl
 obtain⟨E2,he2,hE2,hh2,hf2,hsp,hlp,hdm⟩:=y9 hE1 hh1 hf1 (T:=T) hr (λt=>by rw[hrt];exact(hS.tmps t).ext he1);rw[<-hl] at hsp;have hfn:=h r hr;have hfr:=kE (E:=E) (w:=w) (a:=a) hS.tmps g;simp only at hfr;rw[hf] at hfr;generalize hvg:a.eval g=vg at hfr;cases hfr with
 |func _ _ cv hcl hcr=>
 have he12:=he1.trans he2;refine⟨l,mark,w₁.alloc (.loop r),{target:=.fn (.func f) cv.toArray,args:=#[.func (.yield l) #[] #[]]},w₁.alloc (.loop r),f,#[.func (.yield l) #[] #[]]++cv.toArray,w₁.alloc (.loop r),hrun,?_,λ_ _=>trivial,?_,(λh=>by cases h),?_⟩
 ·simp only[resolve,hvg];simp[go_sem]
 ·simp only[invoke];exact jJ hfn.1 _ _
 ·have hargs:cX E2 (w₁.alloc (.loop r)) (.yld nx::caps) (.func (.yield l) #[] #[]::cv):=by
    refine⟨by simp[hcl],λi x y hx hy=>?_⟩;cases i with
    |zero=>simp at hx hy;subst hx hy;exact .yld _ _ hsp
    |succ i=>exact(hcr i x y (by simpa using hx) (by simpa using hy)).ext he12
  have hcalls:=hfn.2 E2 _ _ hE2 hh2 hf2 hargs;have harr:#[.func (.yield l) #[] #[]]++cv.toArray=(.func (.yield l) #[] #[]::cv:List Value).toArray:=by simp
  rw[harr];refine(j6 (r:=N.rd) (n:=0-1) hcalls).mono ?_;rintro e w' ⟨v,E',x,H',nx',rfl,he',hE',hh',hf',_,hpost⟩;have hsp':=he'.sp _ _ hsp;have hlp':=he'.lp _ _ hlp
  have fin:∀(r1:Loop)(T1:Tm),H' nx=some [.oloop r1 T1]->r1.state≠.busy->∃w4,(Instr.endLoop l).run P w'=.ok r1.pending w4/\∃E4,Ext E w E4 w4/\Sim E4 N ⟨T,e8 H' nx,nx'⟩ {a with defers:=mark++a.defers} w4:=by
   intro r1 T1 hb hst;obtain⟨l1,g1,g2,g3⟩:=hh'.spec nx _ hb rfl;rw[hsp'] at g1;cases g1;refine⟨_,run_endLoop g2 hst,E',?_⟩;rw[hlp'] at g3;injection g3 with g3;injection g3 with g3 _
   obtain ⟨q1,q2,q3⟩:=nu hE' (hh'.del nx) hsp' g2 (o':=.loop { r1 with state:=.exhausted }) rfl rfl (by intro ds; simp) (by intro ds; simp) (fun r' T' h'=>by
    rw[hlp'] at h';cases h';exact⟨.exhausted,r1.pending,by rw[g3]⟩) (λx hx=>by rw[gm] at hx;cases hx)
   have heAll:Ext E w E' (w'.putObj l (.loop {r1 with state:=.exhausted})):=(he12.trans he').trans q1;refine⟨heAll,q2,q3,hf',λl' hl'=>?_,gK hS.floor heAll.size,hS.size,λt=>(hS.tmps t).ext heAll,hmk.ext ((he2.trans he').trans q1)⟩;obtain⟨b,x,h1,h2⟩:=hS.round l' hl';exact⟨b,x,heAll.lp _ _ h1,heAll.sp _ _ h2⟩
  rcases hpost with⟨hb,hk⟩|⟨e,hne,hb,hk⟩
  ·obtain⟨w4,h1,E4,h2,h3⟩:=fin r T hb (by rw[hr.state];simp);rw[hr.pending] at h1;exact⟨none,w4,h1,.normal,E4,T,_,nx',rfl,h2,h3,hk⟩
  ·obtain⟨w4,h1,E4,h2,h3⟩:=fin _ T hb (by simp);refine⟨_,w4,h1,?_⟩;cases e with
   |normal=>exact absurd rfl hne
   |exit i=>exact wpIn_exit ⟨.exit i,E4,T,_,nx',rfl,h2,h3,hk⟩
   |ret=>exact wpIn_ret ⟨.ret,E4,T,_,nx',rfl,h2,h3,hk⟩
theorem aZ{P:Program}{op:Op}{T:Tm}{H:Hp}{nx:Nat}{K:AV->Hp->Nat->Prop}(hnd:∀c,op≠.defer c)
    (h:∀ (E:Env) (w:World) (a:Act) (o:Oper),o.op=op→EnvOk E w→HeapOk E H nx w→ci E nx→(∀ x ∈ op.operands,Rel E w (ev T x) (a.eval x)) →
     ∃n v w' E' r H' nx',(execOp a.eval o).run P w=.ok n w'/\(n=.value v\/n=.skip/\v=Go.undef)/\Ext E w E' w'/\EnvOk E' w'/\HeapOk E' H' nx' w'/\ci E' nx'/\Rel E' w' r v/\K r H' nx'):cJ P op T H nx K:=by
 refine⟨hnd,?_⟩;rintro rr E w a o next Q ho hE hh hf ht hn;obtain⟨n,v,w',E',r,H',nx',h1,h2,h3,h4,h5,h6,h7,h8⟩:=h E w a o ho hE hh hf ht;rw[h1];have:=hn E' H' nx' r v w' h3 h4 h5 h6 h7 h8;rcases h2 with rfl|⟨rfl,rfl⟩
 ·rw[Oper.uponIn_value];exact this
 ·rw[Oper.uponIn_skip];exact this
inductive MK where
 |one (k:TK)
 |st (ks:List TK)
def tkA(P:Program)(t:TypeId):Option (List TK):=match P.underlying t with
 |some (.array n e)=>match tkS P e with
  |some ks=>if P.cellsOf e=ks.length then some ((List.replicate n ks).flatten) else none
  |none=>none
 |_=>none
def mkk(P:Program)(t:TypeId):Option MK:=match tk1 P t with
 |some k=>some (.one k)
 |none=>match tkS P t with
  |some ks=>some (.st ks)
  |none=>match tkA P t with
   |some ks=>some (.st ks)
   |none=>(tkT P t).map .st
def mV(k:MK)(x y:AV):Option Bool:=match k,x,y with
 |.one k,x,y=>ke k x y
 |.st ks,.agg xs,.agg ys=>cR ks xs ys
 |_,_,_=>none
def dE(k:MK)(key:AV):List AV->Option (Option Nat)
 |[]=>some none
 |x::l=>match mV k key x with
  |some true=>some (some 0)
  |some false=>(dE k key l).map (·.map (· +1))
  |none=>none
theorem nt{P:Program}{t:TypeId}{k:MK}(h:mkk P t=some k):(∃k',k=.one k'/\tk1 P t=some k')\/(∃ks,k=.st ks/\tkS P t=some ks)\/(∃ks,k=.st ks/\tkA P t=some ks)\/ ∃ks,k=.st ks/\tkT P t=some ks:=by
 unfold mkk at h;split at h
 ·cases h;exact .inl ⟨_,rfl,by assumption⟩
 ·split at h
  ·cases h;exact .inr (.inl ⟨_,rfl,by assumption⟩)
  ·split at h
   ·rename_i ks hk;cases h;exact .inr (.inr (.inl ⟨ks,rfl,hk⟩))
   ·cases hk:tkT P t with
    |none=>rw[hk] at h;cases h
    |some ks=>rw[hk] at h;cases h;exact .inr (.inr (.inr ⟨ks,rfl,rfl⟩))
theorem wa{P:Program}{t:TypeId}{ks:List TK}(h:tkA P t=some ks):∃n e es,P.underlying t=some (.array n e)/\tkS P e=some es/\P.cellsOf e=es.length/\ks=(List.replicate n es).flatten:=by
 unfold tkA at h;split at h
 ·rename_i n e hu;split at h
  ·rename_i es he;split at h
   ·rename_i hc;cases h;exact⟨n,e,es,hu,he,hc,rfl⟩
   ·cases h
  ·cases h
 ·cases h
theorem kR{P:Program}{w:World}{t:TypeId}{ks:List TK}(h:tkS P t=some ks)(hc:P.cellsOf t=ks.length)(cs:Array Value)(i:Nat):(part t cs i).run P w=.ok (.agg (cs.extract i (i+ks.length))) w:=by
 have hu:=(md h).1;obtain⟨inf,hi⟩:=info_of_underlying hu;simp[part,isAgg,bL hu,run_sizeOf w hi,hc]
theorem oC{E:Env}{w:World}{xs:List AV}{vs:List Value}(hl:xs.length=vs.length)(hr:∀(i:Nat)(x:AV)(v:Value),xs[i]?=some x->vs[i]?=some v->Rel E w x v)(a n:Nat):Rel E w (.agg ((xs.drop a).take n)) (.agg (vs.toArray.extract a (a+n))):=by
 have e:vs.toArray.extract a (a+n)=((vs.drop a).take n).toArray:=by
  simp[List.extract_eq_take_drop,List.extract_toArray]
 rw[e];refine Rel.agg _ _ (by simp[hl]) (λi x v hx hv=>?_);rw[jb] at hx hv;split at hx
 ·rename_i hi;rw[if_pos hi] at hv;rw[kS] at hx hv;exact hr _ x v hx hv
 ·cases hx
theorem ol{P:Program}{E:Env}{w:World}{d:Nat}{e:TypeId}{es:List TK}(he:tkS P e=some es)(hc:P.cellsOf e=es.length){xs ys:List AV}{vx vy:List Value}(lx:xs.length=vx.length)(ly:ys.length=vy.length)
    (hx:∀(i:Nat)(x:AV)(v:Value),xs[i]?=some x->vx[i]?=some v->Rel E w x v) (hy:∀(i:Nat)(x:AV)(v:Value),ys[i]?=some x->vy[i]?=some v->Rel E w x v):∀(m a:Nat)(r:Bool),
    cR (List.replicate m es).flatten (xs.drop (a*es.length)) (ys.drop (a*es.length))=some r->(Op.eqItems (d+2) e (P.cellsOf e) vx.toArray vy.toArray (List.range' a m)).run P w=.ok r w
 |0,a,r,h=>by
  generalize xs.drop (a*es.length)=l at h;generalize ys.drop (a*es.length)=m at h;cases l<;>cases m<;>first|(cases h;rfl)|cases h
 |m+1,a,r,h=>by
  rw[List.replicate_succ,List.flatten_cons] at h;obtain⟨b,q1,q2,q3⟩:=iT es _ _ _ r h;rw[List.drop_drop,List.drop_drop] at q3;have p1:=kR (w:=w) he hc vx.toArray (a*P.cellsOf e);have p2:=kR (w:=w) he hc vy.toArray (a*P.cellsOf e);have p3:=kT he (oC lx hx (a*P.cellsOf e) es.length) (oC ly hy (a*P.cellsOf e) es.length) (by rw[hc];exact q1) d;rw[List.range'_succ];simp only[Op.eqItems,bg,p1,p2,a9,p3];cases b with
  |false=>rw[q2 rfl];rfl
  |true=>
   simp only[Bool.not_true,bm,if_false];refine ol he hc lx ly hx hy m (a+1) r ?_;have e2:(a+1)*es.length=a*es.length+es.length:=by rw[fi,Nat.one_mul]
   rw[e2];exact q3 rfl
theorem oG{P:Program}{E:Env}{w:World}{t:TypeId}{k:MK}{x y:AV}{vx vy:Value}{r:Bool}(hk:mkk P t=some k)(hx:Rel E w x vx)(hy:Rel E w y vy)(h:mV k x y=some r):
    (Op.equal t vx vy).run P w=.ok r w:=by
 unfold Op.equal Op.maxDepth;rcases nt hk with⟨k',rfl,hk'⟩|⟨ks,rfl,hk'⟩|⟨ks,rfl,hk'⟩|⟨ks,rfl,hk'⟩
 ·exact dR hk' hx hy h 9999
 ·cases x<;>first|(cases h;done)|skip
  cases y<;>first|(cases h;done)|skip
  exact kT hk' hx hy h 9998
 ·cases x<;>first|(cases h;done)|skip
  cases y<;>first|(cases h;done)|skip
  obtain⟨n,e,es,hu,he,hc,rfl⟩:=wa hk';obtain⟨inf,hi⟩:=info_of_underlying (md he).1;cases hx with
  |agg xs vs1 l1 r1=>
  cases hy with
  |agg ys vs2 l2 r2=>
  rw[run_equalIn_array w 9999 _ _ hu hi,List.range_eq_range'];refine ol (d:=9997) he hc l1.symm l2.symm r1 r2 n 0 r ?_;rw[tx,List.drop_zero,List.drop_zero];exact h
 ·cases x<;>first|(cases h;done)|skip
  cases y<;>first|(cases h;done)|skip
  exact ou hk' hx hy h 9992
def jE(l:List MapEntry)(i:Nat)(r:Option Nat):Option (Nat×Value):=r.map λj=>(i+j,(l.getD j default).val)
theorem rS{e:MapEntry}{l:List MapEntry}{i:Nat}{r:Option Nat}:jE (e::l) i (r.map (· +1))=jE l (i+1) r:=by
 cases r with
 |none=>rfl
 |some j=>simp[jE];omega
theorem fc{P:Program}{E:Env}{w:World}{t:TypeId}{k:MK}{key:AV}{vk:Value}(hk:mkk P t=some k)(hx:Rel E w key vk):∀(es:List MapEntry)(ks:List AV)(i:Nat)(r:Option Nat),
    es.length=ks.length->(∀(j:Nat)(x:AV)(e:MapEntry),ks[j]?=some x->es[j]?=some e->Rel E w x e.key)->dE k key ks=some r->(Instr.findAsking t vk es i).run P w=.ok (jE es i r) w
 |[],ks,i,r,hl,hr,h=>by
  have:ks=[]:=fI.1 hl.symm;subst this;cases h;rfl
 |e::es,ks,i,r,hl,hr,h=>by
  cases ks with
  |nil=>cases hl
  |cons x ks=>
   simp only[dE] at h;have he:=hr 0 x e rfl rfl;simp only[Instr.findAsking,bg];split at h
   ·rename_i hs;cases h;rw[oG hk hx he hs];simp[Result.andThen,jE]
   ·rename_i hs;cases hm:dE k key ks with
    |none=>rw[hm] at h;cases h
    |some r'=>
     rw[hm] at h;cases h;rw[oG hk hx he hs];simp only[a9,bm,if_false];rw[fc hk hx es ks (i+1) r' (by simpa using hl) (λj x e h1 h2=>hr (j+1) x e (by simpa using h1) (by simpa using h2)) hm,rS]
   ·cases h
theorem lM{P:Program}{E:Env}{w:World}{t:TypeId}{d:TypeDesc}{k:TK}{key:AV}{vk:Value}(hd:P.underlying t=some d)(hk:tk1 P t=some k)(hx:Rel E w key vk):∀(es:List MapEntry)(ks:List AV)(i:Nat)(r:Option Nat),
    es.length=ks.length->(∀(j:Nat)(x:AV)(e:MapEntry),ks[j]?=some x->es[j]?=some e->Rel E w x e.key)->dE (.one k) key ks=some r->Instr.findNow d vk es i=some (jE es i r)
 |[],ks,i,r,hl,hr,h=>by
  have:ks=[]:=fI.1 hl.symm;subst this;cases h;rfl
 |e::es,ks,i,r,hl,hr,h=>by
  cases ks with
  |nil=>cases hl
  |cons x ks=>
   simp only[dE] at h;have he:=hr 0 x e rfl rfl
   have hs:∀b,mV (.one k) key x=some b->Instr.sameNow d vk e.key=some b:=by
    intro b hb;generalize e.key=vke at he;replace hb:ke k key x=some b:=hb;unfold ke at hb;unfold tk1 at hk;rw[hd] at hk;split at hb
    ·cases hx;cases he;split at hb
     ·rename_i e2;subst e2;cases d<;>first|(cases hk;done)|skip
      simp only[Instr.sameNow,if_true];exact hb
     ·cases hb
    ·cases hx;cases he;cases d<;>first|(cases hk;done)|skip
     simp only[Instr.sameNow,beq_toListBytes];exact hb
    ·cases hx;cases he;cases d<;>first|(cases hk;done)|skip
     simp only[Instr.sameNow];exact hb
    ·cases hb
   simp only[Instr.findNow];split at h
   ·rename_i hb;cases h;rw[hs _ hb];simp[jE]
   ·rename_i hb;cases hm:dE (.one k) key ks with
    |none=>rw[hm] at h;cases h
    |some r'=>
     rw[hm] at h;cases h;rw[hs _ hb];simp only;rw[lM hd hk hx es ks (i+1) r' (by simpa using hl) (λj x e h1 h2=>hr (j+1) x e (by simpa using h1) (by simpa using h2)) hm,rS]
   ·cases h
theorem eD{P:Program}{E:Env}{w:World}{t:TypeId}{k:MK}{key:AV}{vk:Value}(hk:mkk P t=some k)(hx:Rel E w key vk){es:List MapEntry}{ks:List AV}{r:Option Nat}
    (hl:es.length=ks.length) (hr:∀(j:Nat)(x:AV)(e:MapEntry),ks[j]?=some x->es[j]?=some e->Rel E w x e.key) (h:dE k key ks=some r):(Instr.findKey t vk es).run P w=.ok (jE es 0 r) w:=by
 rcases nt hk with⟨k',rfl,hk'⟩|⟨fks,rfl,hk'⟩|⟨fks,rfl,hk'⟩|⟨fks,rfl,hk'⟩
 ·obtain⟨d,hd⟩:∃d,P.underlying t=some d:=by
    unfold tk1 at hk';cases hu:P.underlying t with
    |none=>rw[hu] at hk';cases hk'
    |some d=>exact⟨d,rfl⟩
  unfold Instr.findKey;simp only[bg,bL hd,a9,lM hd hk' hx es ks 0 r hl hr h];rfl
 ·have hu:=(md hk').1;unfold Instr.findKey;simp only[bg,bL hu,a9];cases es with
  |nil=>
   have:ks=[]:=fI.1 hl.symm;subst this;cases h;rfl
  |cons e es=>
   have:Instr.findNow (.struct (P.fieldsOf t)) vk (e::es) 0=none:=rfl;rw[this];exact fc hk hx _ ks 0 r hl hr h
 ·obtain⟨n,el,els,hu,_,_,_⟩:=wa hk';unfold Instr.findKey;simp only[bg,bL hu,a9];cases es with
  |nil=>
   have:ks=[]:=fI.1 hl.symm;subst this;cases h;rfl
  |cons e es=>
   have:Instr.findNow (.array n el) vk (e::es) 0=none:=rfl;rw[this];exact fc hk hx _ ks 0 r hl hr h
 ·obtain⟨d,hd,hno⟩:∃d,P.underlying t=some d/\∀e es,Instr.findNow d vk (e::es) 0=none:=by
    rcases(tv hk').1 with⟨fs,hu⟩|⟨m,e,hu⟩
    ·exact⟨_,hu,λ_ _=>rfl⟩
    ·exact⟨_,hu,λ_ _=>rfl⟩
  unfold Instr.findKey;simp only[bg,bL hd,a9];cases es with
  |nil=>
   have:ks=[]:=fI.1 hl.symm;subst this;cases h;rfl
  |cons e es=>
   rw[hno];exact fc hk hx _ ks 0 r hl hr h
def lf(k:MK)(x:AV):Bool:=match k,x with
 |.one .int,.int _ _=>true
 |.one .str,.str _=>true
 |.one .bool,.bool _=>true
 |.st ks,.agg xs=>ks.length==xs.length
 |_,_=>false
theorem gn{P:Program}{w:World}{t:TypeId}{k:TK}(hk:tk1 P t=some k)(em:Bool)(n:Nat)(v:Value):(Instr.checkKey em (n+1) t v).run P w=.ok () w:=by
 unfold tk1 at hk;cases hu:P.underlying t with
 |none=>rw[hu] at hk;cases hk
 |some d=>
  rw[hu] at hk;cases d<;>first|(cases hk;done)|skip
  all_goals
   simp only[Instr.checkKey,bg,bL hu,a9];cases v<;>rfl
theorem xh{P:Program}:∀(fs:List Field)(i:Nat)(ks:List TK),tkF P i fs=some ks->ks.length=fs.length/\∀(j:Nat)(f:Field),fs[j]?=some f->f.offset=i+j/\∃k,tk1 P f.type=some k
 |[],i,ks,h=>by cases h;exact⟨rfl,by simp⟩
 |f::fs,i,ks,h=>by
  simp only[tkF] at h;split at h
  case isFalse=>cases h
  case isTrue hc=>
  split at h
  case h_2=>cases h
  rename_i k ks' h1 h2;cases h;obtain⟨e1,e2⟩:=xh fs (i+1) ks' h2;refine⟨by simp[e1],λj g hg=>?_⟩;cases j with
  |zero=>simp at hg;subst hg;exact⟨hc.2,k,h1⟩
  |succ j=>obtain⟨q1,q2⟩:=e2 j g (by simpa using hg);exact⟨by omega,q2⟩
theorem kJ{α:Type}{P:Program}{w:World}:∀(l:List α)(f:α->PUnit->Sem (ForInStep PUnit)),(∀x∈l,(f x PUnit.unit).run P w=.ok (.yield PUnit.unit) w)->(forIn l PUnit.unit f).run P w=.ok PUnit.unit w
 |[],f,h=>by simp
 |x::l,f,h=>by
  rw[List.forIn_cons];simp only[bg,h x (by simp),a9];exact kJ l f (λy hy=>h y (by simp[hy]))
theorem lO{P:Program}{w:World}{t:TypeId}{ks:List TK}(hk:tkS P t=some ks){vs:List Value}(hl:vs.length=ks.length)(em:Bool)(n:Nat)(hk1:∀t v k,tk1 P t=some k->(Instr.checkKey em n t v).run P w=.ok () w):(Instr.checkKey em (n+1) t (.agg vs.toArray)).run P w=.ok () w:=by
 obtain⟨h1,_,_,h4⟩:=md hk;obtain⟨q1,q2⟩:=xh _ 0 ks h4;simp only[Instr.checkKey,bg,bL h1,a9];rw[<-Array.forIn_toList];rw[kJ]
 ·rfl
 ·intro f hf;obtain⟨j,hj⟩:=sR hf;obtain⟨e1,k,e2⟩:=q2 j f hj;have hlt:f.offset<vs.toArray.size:=by have:=(bJ.1 hj).1;simp;omega
  have hp:=dU (P:=P) (w:=w) e2 (cs:=vs.toArray) (i:=f.offset) (v:=vs.toArray[f.offset]) (by simp[hlt]);by_cases hn:f.name="_"
  ·simp only[hn,ne_eq,not_true_eq_false,if_false,dl]
  ·simp only[hn,ne_eq,not_false_eq_true,if_true,bg,hp,a9,hk1 _ _ _ e2,dl]
theorem rE{P:Program}{w:World}{t:TypeId}{ks:List TK}(hk:tkA P t=some ks){vs:List Value}(hl:vs.length=ks.length)(em:Bool)(N:Nat)(hk1:∀(e:TypeId)(es:List TK)(us:List Value),tkS P e=some es->us.length=es.length->(Instr.checkKey em N e (.agg us.toArray)).run P w=.ok () w):(Instr.checkKey em (N+1) t (.agg vs.toArray)).run P w=.ok () w:=by
 obtain⟨n,e,es,hu,he,hc,rfl⟩:=wa hk;obtain⟨inf,hi⟩:=info_of_underlying (md he).1;have hlen:((List.replicate n es).flatten).length=n*es.length:=by simp
 rw[hlen] at hl;simp only[Instr.checkKey,bg,bL hu,a9,Std.Legacy.Range.forIn_eq_forIn_range',Std.Legacy.Range.size,Nat.sub_zero,Nat.add_one_sub_one,Nat.div_one];rw[kJ]
 ·rfl
 ·intro i hin
  have hin:i<n:=by
   have:=List.mem_range'.1 hin;omega
  have hp:=kR (w:=w) he hc vs.toArray (i*P.cellsOf e);have hle:(i+1)*es.length<=n*es.length:=gF _ hin;rw[fi,Nat.one_mul] at hle
  have ex:vs.toArray.extract (i*P.cellsOf e) (i*P.cellsOf e+es.length)=((vs.drop (i*P.cellsOf e)).take es.length).toArray:=by
   simp[List.extract_eq_take_drop,List.extract_toArray]
  have hck:=hk1 e es ((vs.drop (i*P.cellsOf e)).take es.length) he (by rw[gN,rz,hc];omega);simp only[bg,run_sizeOf w hi,hp,a9,ex,hck,dl]
theorem jc{P:Program}{w:World}{em:Bool}:∀(d:Nat)(t:TypeId)(ks:List TK),tkN P d t=some ks->∀(vs:List Value)(a:Nat),a+ks.length<=vs.length->∃v,(part t vs.toArray a).run P w=.ok v w/\∀D,d<=D->(Instr.checkKey em D t v).run P w=.ok () w
 |0,t,ks,h=>by cases h
 |d+1,t,ks,h=>by
  intro vs a hl;rcases iv h with⟨hu,hsi,hf,hc⟩|⟨n,e,es,hu,he,hc,hce,rfl⟩|⟨k,hk,rfl⟩
  ·refine⟨_,kM (.inl ⟨_,hu⟩) hc _ _,λD hD=>?_⟩;obtain⟨D,rfl⟩:∃D',D=D'+1:=⟨D-1,by omega⟩
   simp only[Instr.checkKey,bg,bL hu,a9];rw[<-Array.forIn_toList,fU,kJ]
   ·rfl
   ·intro f hfm;obtain⟨k,q1,q2,q3⟩:=uF hf f hfm;obtain⟨v,p1,p2⟩:=jc (em:=em) (w:=w) d f.type k q1 ((vs.drop a).take ks.length) f.offset (by rw[gN,rz];omega);by_cases hn:f.name="_"
    ·simp only[hn,ne_eq,not_true_eq_false,if_false,dl]
    ·simp only[hn,ne_eq,not_false_eq_true,if_true,bg,p1,a9,p2 D (by omega),dl]
  ·obtain⟨inf,hi⟩:∃inf,P.info? e=some inf:=by
     have:∃u,P.underlying e=some u:=by
      cases d with
      |zero=>cases he
      |succ d=>
       rcases iv he with⟨hu,_⟩|⟨_,_,_,hu,_⟩|⟨k,hk,_⟩
       ·exact⟨_,hu⟩
       ·exact⟨_,hu⟩
       ·unfold tk1 at hk;cases hue:P.underlying e with
        |none=>rw[hue] at hk;cases hk
        |some u=>exact⟨u,rfl⟩
     obtain⟨u,hu⟩:=this;exact info_of_underlying hu
   refine⟨_,kM (.inr ⟨_,_,hu⟩) hc _ _,λD hD=>?_⟩;obtain⟨D,rfl⟩:∃D',D=D'+1:=⟨D-1,by omega⟩
   simp only[Instr.checkKey,bg,bL hu,a9,Std.Legacy.Range.forIn_eq_forIn_range',Std.Legacy.Range.size,Nat.sub_zero,Nat.add_one_sub_one,Nat.div_one];rw[fU,kJ]
   ·rfl
   ·intro i hin
    have hin:i<n:=by
     have:=List.mem_range'.1 hin;omega
    have hlen:((List.replicate n es).flatten).length=n*es.length:=by simp
    have hle:(i+1)*es.length<=n*es.length:=gF _ hin;rw[fi,Nat.one_mul] at hle;obtain⟨v,p1,p2⟩:=jc (em:=em) (w:=w) d e es he ((vs.drop a).take ((List.replicate n es).flatten).length) (i*P.cellsOf e) (by rw[gN,rz,hce];omega);simp only[bg,run_sizeOf w hi,p1,a9,p2 D (by omega),dl]
  ·have hl:a+1<=vs.length:=hl;refine⟨vs[a],dU hk (by simp[show a<vs.length by omega]),λD hD=>?_⟩;obtain⟨D,rfl⟩:∃D',D=D'+1:=⟨D-1,by omega⟩
   exact gn hk em D _
theorem e7{P:Program}{E:Env}{w:World}{t:TypeId}{k:MK}(hk:mkk P t=some k){key:AV}{v:Value}(hx:Rel E w key v)(hfit:lf k key=true)(em:Bool):(Instr.checkKey em 10000 t v).run P w=.ok () w:=by
 rcases nt hk with⟨k',rfl,hk'⟩|⟨ks,rfl,hk'⟩|⟨ks,rfl,hk'⟩|⟨ks,rfl,hk'⟩
 ·exact gn hk' em 9999 v
 ·cases key<;>first|(cases hfit;done)|skip
  have hfit:ks.length==_:=hfit;cases hx with
  |agg cs vs hl _=>exact lO hk' (by have:=hfit;simp at this;omega) em 9999 (λt v k h=>gn h em 9998 v)
 ·cases key<;>first|(cases hfit;done)|skip
  have hfit:ks.length==_:=hfit;cases hx with
  |agg cs vs hl _=>exact rE hk' (by have:=hfit;simp at this;omega) em 9999 (λe es us h1 h2=>lO h1 h2 em 9998 (λt v k h=>gn h em 9997 v))
 ·cases key<;>first|(cases hfit;done)|skip
  have hfit:ks.length==_:=hfit;obtain⟨hu,_,hN,hc⟩:=tv hk';cases hx with
  |agg cs vs hl _=>
   obtain⟨v,p1,p2⟩:=jc (em:=em) (w:=w) 8 t ks hN vs 0 (by simp at hfit;omega);rw[kM hu hc,fU,List.drop_zero,gP (by simp at hfit;omega)] at p1;cases p1;exact p2 10000 (by omega)
theorem dZ{P:Program}{w w':World}{s:Sem Value}{v:Value}(h:s.run P w=.ok v w'):(do pure (Next.value (<-s)):Sem Next).run P w=.ok (.value v) w':=by
 simp only[bg,h,a9];rfl
theorem nW{P:Program}{w w':World}{s:Sem Unit}(h:s.run P w=.ok () w'):(do s;pure Next.skip:Sem Next).run P w=.ok .skip w':=by
 simp only[bg,h,a9];rfl
def gV(P:Program)(t:TypeId):Option (TypeId×TypeId):=match P.underlying t with
 |some (.map k e)=>some (k,e)
 |_=>none
theorem fu{P:Program}{t k e:TypeId}(h:gV P t=some (k,e)):P.underlying t=some (.map k e):=by
 unfold gV at h;split at h
 ·cases h;assumption
 ·cases h
theorem bK{P:Program}{w:World}{k:Nat}{o:Obj}(h:w.heap[k]?=some o)(hc:iM o=false):(getObj k).run P w=.ok o w:=by cases o<;>first|(cases hc;done)|simp[getObj,Sem.run,h]
theorem dv{P:Program}{w:World}{k:Nat}{o o':Obj}(h:w.heap[k]?=some o)(hc:iM o=false):(setObj k o').run P w=.ok () (w.putObj k o'):=by cases o<;>first|(cases hc;done)|simp[setObj,Sem.run,h,World.putObj]
theorem ci.sp{E E':Env}{nx:Nat}(h:ci E nx){k:Nat}(he:E'={E with sp:=λb=>if b=nx then some k else E.sp b}):ci E' (nx+1):=by
 intro b hb;subst he;obtain⟨h1,h2,h3⟩:=h b (by omega);exact⟨h1,by show(if b=nx then _ else _)=none;rw[if_neg (by omega)];exact h2,h3⟩
theorem rf{P:Program}{t:TypeId}{r:Option Operand}{T:Tm}{H:Hp}{nx:Nat}{K:AV->Hp->Nat->Prop}(ht:r=none\/ ∃x n k p,r=some x/\ev T x=.int k n/\gV P t=some p)
    (h:K (.mp nx) (ah H nx [.omap [] []]) (nx+1)):cJ P (.makeMap t r) T H nx K:=by
 refine aZ (by intro c;simp) ?_;rintro E w a ⟨dst,op,type,pos,after,guard⟩ ho hE hh hf htm;simp only at ho;subst ho;obtain⟨E',hE',he,hEo,hh',hs,hnew⟩:=qK hE hh (hf nx (bj _)) (.map #[] 0) rfl (by intro ds;simp);have hspm:=hEo.spm nx _ hs;refine⟨.value (.map (some w.heap.size)),.map (some w.heap.size),w.alloc (.map #[] 0),E',.mp nx,_,nx+1,?_,.inl rfl,he,hEo,hh'.addSp (x:=.omap [] []) (sZ _) hspm hs ⟨#[],0,hnew,⟨rfl,rfl,by simp,by simp,by simp,rfl⟩⟩,hf.sp hE',.mp _ _ hs,h⟩;refine dZ ?_;rcases ht with rfl|⟨x,n,k,p,rfl,hx,hp⟩
 ·simp only[Option.map_none,Instr.makeMap,bg,run_newObj_alloc,a9];rfl
 ·have hr:=htm x (by simp[Op.operands,Call.operands]);rw[hx] at hr;generalize hvx:a.eval x=vx at hr;cases hr;have hu:=fu (P:=P) (t:=t) (k:=p.1) (e:=p.2) hp;simp only[ko,hvx,Instr.makeMap,bg,bL hu,asInt,dl,run_newObj_alloc,a9];rfl
theorem lg{E:Env}{H:Hp}{nx:Nat}{w:World}(hh:HeapOk E H nx w){b k:Nat}{ks vs:List AV}(hb:H b=some [.omap ks vs])(hs:E.sp b=some k):∃es clock,w.heap[k]?=some (.map es clock)/\MapOk E w ks vs es clock:=by
 obtain⟨k',h1,es,clock,h2,h3⟩:=hh.spec b _ hb rfl;rw[hs] at h1;cases h1;exact⟨es,clock,h2,h3⟩
theorem td{E:Env}{H:Hp}{nx:Nat}{w:World}(hE:EnvOk E w)(hh:HeapOk E H nx w){b k:Nat}{ks vs ks' vs':List AV}{es es':Array MapEntry}{clock clock':Nat}(hb:H b=some [.omap ks vs])(hs:E.sp b=some k)(hw:w.heap[k]?=some (.map es clock))
    (hm:MapOk E w ks' vs' es' clock'):Ext E w E (w.putObj k (.map es' clock'))/\EnvOk E (w.putObj k (.map es' clock'))/\HeapOk E (ah H b [.omap ks' vs']) nx (w.putObj k (.map es' clock')):=by
 have hlp:∀r T,E.lp b=some (r,T)->False:=by
  intro r T h;obtain⟨k',st,p,h1,h2,_⟩:=hE.lp b r T h;rw[hs] at h1;cases h1;rw[hw] at h2;cases h2
 obtain⟨q1,q2,q3⟩:=nu hE (hh.del b) hs hw (o':=.map es' clock') rfl rfl (by intro ds;simp) (by intro ds;simp) (λr T h=>(hlp r T h).elim) (λx hx=>by rw[gm] at hx;cases hx);refine⟨q1,q2,?_⟩
 have hH:ah (e8 H b) b [.omap ks' vs']=ah H b [.omap ks' vs']:=by
  funext y;unfold ah e8;split<;>rfl
 rw[<-hH];exact q3.addSp (hh.dom _ _ hb) (q2.spm b k hs) hs ⟨es',clock',x7 (gR.1 hw).1,hm.ext q1⟩
def dD(key:AV)(r:Option Nat)(ks:List AV):List AV:=match r with|some _=>ks|none=>ks++[key]
def fY(v:AV)(r:Option Nat)(vs:List AV):List AV:=match r with|some i=>vs.set i v|none=>vs++[v]
theorem n8{a b:ByteArray}(h:a.toList=b.toList):a=b:=by
 rw[ByteArray.toList_eq,ByteArray.toList_eq] at h;obtain⟨⟨x⟩⟩:=a;obtain⟨⟨y⟩⟩:=b;simp at h;rw[h]
theorem uU{k:TK}{x y:AV}(h:ke k x y=some true):x=y:=by
 unfold ke at h;split at h
 ·split at h
  ·subst_vars;simp at h;rw[h]
  ·cases h
 ·simp at h;rw[n8 h]
 ·simp at h;rw[h]
 ·cases h
theorem uk:∀{ks:List TK}{xs ys:List AV},cR ks xs ys=some true->xs=ys
 |[],[],[],_=>rfl
 |k::ks,x::xs,y::ys,h=>by
  simp only[cR] at h;split at h
  ·rename_i hs;rw[uU hs,uk h]
  ·cases h
  ·cases h
 |[],_::_,_,h=>by cases h
 |[],[],_::_,h=>by cases h
 |_::_,[],_,h=>by cases h
 |_::_,_::_,[],h=>by cases h
theorem qB{k:MK}{x y:AV}(h:mV k x y=some true):x=y:=by
 cases k with
 |one k=>exact uU h
 |st ks=>
  cases x<;>first|(cases h;done)|skip
  cases y<;>first|(cases h;done)|skip
  rw[uk h]
theorem fv{k:MK}{key:AV}:∀{ks:List AV}{i:Nat},dE k key ks=some (some i)->∃x,ks[i]?=some x/\mV k key x=some true
 |[],i,h=>by cases h
 |x::l,i,h=>by
  simp only[dE] at h;split at h
  ·rename_i hs;cases h;exact⟨x,rfl,hs⟩
  ·cases hm:dE k key l with
   |none=>rw[hm] at h;cases h
   |some r=>
    rw[hm] at h;cases r with
    |none=>cases h
    |some j=>
     cases h;obtain⟨y,h1,h2⟩:=fv hm;exact⟨y,by simpa using h1,h2⟩
  ·cases h
theorem qp{E:Env}{w:World}{k:TK}{x y:AV}{vx vy:Value}(hx:Rel E w x vx)(hy:Rel E w y vy)(h:ke k x y=some true)(n:Nat):Instr.sameBits n vy vx=true:=by
 unfold ke at h;split at h
 ·cases hx;cases hy;split at h
  ·subst_vars;simp at h;subst h;cases n<;>simp[Instr.sameBits]
  ·cases h
 ·cases hx;cases hy;simp at h;rw[n8 h];cases n<;>simp[Instr.sameBits,beq_toListBytes]
 ·cases hx;cases hy;simp at h;subst h;cases n<;>simp[Instr.sameBits]
 ·cases h
theorem qs{E:Env}{w:World}{n:Nat}:∀{ks:List TK}{xs ys:List AV}{vx vy:List Value},cX E w xs vx->cX E w ys vy->cR ks xs ys=some true->vx.length=vy.length/\((vy.zip vx).all λ(x,y)=>Instr.sameBits n x y)=true
 |[],[],[],vx,vy,hx,hy,h=>by
  have h1:vx=[]:=fI.1 hx.1;have h2:vy=[]:=fI.1 hy.1;subst h1 h2;exact⟨rfl,rfl⟩
 |k::ks,x::xs,y::ys,vx,vy,hx,hy,h=>by
  cases vx with
  |nil=>have:=hx.1;simp at this
  |cons v1 vx=>
  cases vy with
  |nil=>have:=hy.1;simp at this
  |cons v2 vy=>
  simp only[cR] at h;split at h
  ·rename_i hs;have r1:cX E w xs vx:=⟨by have:=hx.1;simpa using this,λi a b ha hb=>hx.2 (i+1) a b (by simpa using ha) (by simpa using hb)⟩
   have r2:cX E w ys vy:=⟨by have:=hy.1;simpa using this,λi a b ha hb=>hy.2 (i+1) a b (by simpa using ha) (by simpa using hb)⟩
   obtain⟨e1,e2⟩:=qs (n:=n) r1 r2 h;refine⟨by simp[e1],?_⟩;simp only[List.zip_cons_cons,List.all_cons,cE];exact⟨qp (hx.2 0 x v1 rfl rfl) (hy.2 0 y v2 rfl rfl) hs n,e2⟩
  ·cases h
  ·cases h
 |[],_::_,_,_,_,_,_,h=>by cases h
 |[],[],_::_,_,_,_,_,h=>by cases h
 |_::_,[],_,_,_,_,_,h=>by cases h
 |_::_,_::_,[],_,_,_,_,h=>by cases h
theorem l8{E:Env}{w:World}{k:MK}{x y:AV}{vx vy:Value}(hx:Rel E w x vx)(hy:Rel E w y vy)(h:mV k x y=some true):Instr.sameBits 10000 vy vx=true:=by
 cases k with
 |one k=>exact qp hx hy h _
 |st ks=>
  cases x<;>first|(cases h;done)|skip
  cases y<;>first|(cases h;done)|skip
  cases hx with
  |agg _ v1 l1 r1=>
  cases hy with
  |agg _ v2 l2 r2=>
  obtain⟨e1,e2⟩:=qs (n:=9999) ⟨l1,r1⟩ ⟨l2,r2⟩ h;show Instr.sameBits (9999+1) _ _=true;simp only[Instr.sameBits,cE];exact⟨by simp[e1],e2⟩
theorem oX{P:Program}{t kt et:TypeId}{m k x:Operand}{T:Tm}{H:Hp}{nx b:Nat}{K:AV->Hp->Nat->Prop}{mk:MK}{ks vs:List AV}{r:Option Nat}(ht:gV P t=some (kt,et))(hk:mkk P kt=some mk)
    (hm:ev T m=.mp b) (hb:H b=some [.omap ks vs]) (hfit:lf mk (ev T k)=true) (hr:dE mk (ev T k) ks=some r)
    (h:K (.tup []) (ah H b [.omap (dD (ev T k) r ks) (fY (ev T x) r vs)]) nx):cJ P (.mapUpdate t m k x) T H nx K:=by
 refine aZ (by intro c;simp) ?_;rintro E w a ⟨dst,op,type,pos,after,guard⟩ ho hE hh hf htm;simp only at ho;subst ho;have hmr:=htm m (by simp[Op.operands,Call.operands]);have hkr:=htm k (by simp[Op.operands,Call.operands]);have hxr:=htm x (by simp[Op.operands,Call.operands]);rw[hm] at hmr;generalize hvm:a.eval m=vm at hmr;cases hmr with
 |mp _ kb hs=>
 obtain⟨es,clock,hw,hok⟩:=lg hh hb hs;have hck:=e7 (P:=P) (w:=w) hk hkr hfit false;have hfk:=eD (P:=P) (es:=es.toList) (ks:=ks) hk hkr (by simpa using hok.len) (λj y e h1 h2=>hok.key j y e h1 (by simpa using h2)) hr;have hu:=fu ht
 have key:∃es' clock',(Instr.mapUpdate t (.map (some kb)) (a.eval k) (a.eval x)).run P w=.ok () (w.putObj kb (.map es' clock'))/\MapOk E w (dD (ev T k) r ks) (fY (ev T x) r vs) es' clock':=by
  unfold Instr.mapUpdate;simp only[bg,bL hu,a9,bK hw rfl,hck,hfk];cases r with
  |none=>
   simp only[jE,Option.map_none,dv hw rfl];refine⟨_,_,rfl,?_⟩;have hl:=hok.len;have hl':=hok.len';refine⟨by simp[dD,hl],by simp[fY,dD,hl'],λi y e h1 h2=>?_,λi y e h1 h2=>?_,λi e h1=>?_,by simp[hok.clk]⟩
   ·simp only[dD] at h1;rw[sB] at h2;split at h2
    ·rename_i he;cases h2;rw[he,hl,ij (bj _)] at h1;simp at h1;subst h1;exact hkr
    ·rename_i hne;have hlt:i<es.size:=(gR.1 h2).1;rw[gH (by omega)] at h1;exact hok.key i y e h1 h2
   ·simp only[fY] at h1;rw[sB] at h2;split at h2
    ·rename_i he;cases h2;rw[he,hl,ij (by omega)] at h1;simp[hl'] at h1;subst h1;exact hxr
    ·rename_i hne;have hlt:i<es.size:=(gR.1 h2).1;rw[gH (by omega)] at h1;exact hok.val i y e h1 h2
   ·rw[sB] at h1;split at h1
    ·rename_i he;cases h1;rw[he];exact hok.clk
    ·exact hok.born i e h1
  |some i=>
   obtain⟨y,hy,hsame⟩:=fv hr;have hlt:i<es.size:=by have:=(bJ.1 hy).1;have:=hok.len;omega
   have hbits:=l8 hkr (hok.key i y es[i] hy (by simp[hlt])) hsame
   have ec:(Instr.keyThatStays (((es[i]?).map (·.key)).getD (a.eval k)) (a.eval k)).run P w=.ok (a.eval k) w:=by
    unfold Instr.keyThatStays;simp only[hlt,x8,ko,u5];rw[if_pos hbits];rfl
   simp only[jE,ko,eF,bg,ec,a9,dv hw rfl];refine⟨_,_,rfl,?_⟩
   have hmod:∀j e,(es.modify i λe=>{e with key:=a.eval k,val:=a.eval x})[j]?=some e->∃e0,es[j]?=some e0/\((i=j/\e={e0 with key:=a.eval k,val:=a.eval x})\/(i≠j/\e=e0)):=by
    intro j e he;rw[Array.getElem?_modify] at he;split at he
    ·rename_i hij;cases h0:es[j]? with
     |none=>rw[h0] at he;cases he
     |some e0=>rw[h0] at he;cases he;exact⟨e0,rfl,.inl ⟨hij,rfl⟩⟩
    ·rename_i hij;exact⟨e,he,.inr ⟨hij,rfl⟩⟩
   refine⟨by simp[dD,hok.len],by simp[fY,dD,hok.len'],λj z e h1 h2=>?_,λj z e h1 h2=>?_,λj e h1=>?_,by simp[hok.clk]⟩
   ·obtain⟨e0,k1,(⟨rfl,rfl⟩|⟨hne,rfl⟩)⟩:=hmod j e h2
    ·simp only[dD] at h1;rw[hy] at h1;cases h1;rw[<-qB hsame];exact hkr
    ·exact hok.key j z e h1 k1
   ·obtain⟨e0,k1,(⟨rfl,rfl⟩|⟨hne,rfl⟩)⟩:=hmod j e h2
    ·simp only[fY] at h1;have:i<vs.length:=by have:=hok.len';have:=hok.len;omega
     rw[List.getElem?_set_self this] at h1;cases h1;exact hxr
    ·simp only[fY] at h1;rw[List.getElem?_set_ne hne] at h1;exact hok.val j z e h1 k1
   ·obtain⟨e0,k1,(⟨rfl,rfl⟩|⟨hne,rfl⟩)⟩:=hmod j e h1
    ·exact hok.born i e0 k1
    ·exact hok.born j e k1
 obtain⟨es',clock',hrun,hok'⟩:=key;obtain⟨q1,q2,q3⟩:=td hE hh hb hs hw hok';refine⟨.skip,Go.undef,_,E,.tup [],_,nx,?_,.inr ⟨rfl,rfl⟩,q1,q2,q3,hf,fB _ _,h⟩;refine nW ?_;show(Instr.mapUpdate t (a.eval m) (a.eval k) (a.eval x)).run P w=_;rw[hvm];exact hrun
def mget(z:AV)(ok:Bool)(r:Option Nat)(vs:List AV):AV:=match r with
 |some i=>if ok=true then .tup [vs.getD i .undef,.bool true] else vs.getD i .undef
 |none=>if ok=true then .tup [z,.bool false] else z
theorem jg{E:Env}{w:World}{x y:AV}{u v:Value}(h1:Rel E w x u)(h2:Rel E w y v):Rel E w (.tup [x,y]) (.tuple #[u,v]):=by
 refine Rel.tup [x,y] [u,v] rfl (λi a b ha hb=>?_)
 match i with
 |0=>cases ha;cases hb;exact h1
 |1=>cases ha;cases hb;exact h2
 |i+2=>cases ha
theorem vh{E:Env}{w:World}{x y z:AV}{u v t:Value}(h1:Rel E w x u)(h2:Rel E w y v)(h3:Rel E w z t):Rel E w (.tup [x,y,z]) (.tuple #[u,v,t]):=by
 refine Rel.tup [x,y,z] [u,v,t] rfl (λi a b ha hb=>?_)
 match i with
 |0=>cases ha;cases hb;exact h1
 |1=>cases ha;cases hb;exact h2
 |2=>cases ha;cases hb;exact h3
 |i+3=>cases ha
theorem uc{E:Env}{w:World}{x:AV}{u:Value}(h1:Rel E w x u):Rel E w (.tup [x]) (.tuple #[u]):=by
 refine Rel.tup [x] [u] rfl (λi a b ha hb=>?_)
 match i with
 |0=>cases ha;cases hb;exact h1
 |i+1=>cases ha
theorem mz{P:Program}{t kt et:TypeId}{m k:Operand}{ok:Bool}{T:Tm}{H:Hp}{nx b:Nat}{K:AV->Hp->Nat->Prop}{mk:MK}{ks vs:List AV}{r:Option Nat}{z:AV}(ht:gV P t=some (kt,et))(hk:mkk P kt=some mk)(hz:eO P et=some z)
    (hm:ev T m=.mp b) (hb:H b=some [.omap ks vs]) (hfit:lf mk (ev T k)=true) (hr:dE mk (ev T k) ks=some r)
    (h:K (mget z ok r vs) H nx):cJ P (.lookup t m k ok) T H nx K:=by
 refine aZ (by intro c;simp) ?_;rintro E w a ⟨dst,op,type,pos,after,guard⟩ ho hE hh hf htm;simp only at ho;subst ho;have hmr:=htm m (by simp[Op.operands,Call.operands]);have hkr:=htm k (by simp[Op.operands,Call.operands]);rw[hm] at hmr;generalize hvm:a.eval m=vm at hmr;cases hmr with
 |mp _ kb hs=>
 obtain⟨es,clock,hw,hok⟩:=lg hh hb hs;have hck:=e7 (P:=P) (w:=w) hk hkr hfit es.isEmpty;have hfk:=eD (P:=P) (es:=es.toList) (ks:=ks) hk hkr (by simpa using hok.len) (λj y e h1 h2=>hok.key j y e h1 (by simpa using h2)) hr;have hu:=fu ht;obtain⟨vz,hvz,hrz⟩:=dM hz
 have key:∃v,(Instr.lookup t (.map (some kb)) (a.eval k) ok).run P w=.ok v w/\Rel E w (mget z ok r vs) v:=by
  unfold Instr.lookup;simp only[bg,bL hu,a9,bK hw rfl,dl,hck,hfk];cases r with
  |none=>
   simp only[jE,Option.map_none,bg,hvz,a9,dl];refine⟨_,rfl,?_⟩;unfold mget;cases ok with
   |true=>exact jg (hrz E w) (.bool _)
   |false=>exact hrz E w
  |some i=>
   obtain⟨y,hy,hsame⟩:=fv hr;have hlt:i<es.size:=by have:=(bJ.1 hy).1;have:=hok.len;omega
   have hlv:i<vs.length:=by have:=hok.len';have:=hok.len;omega
   simp only[jE,ko,dl,a9];refine⟨_,rfl,?_⟩;have e1:es.toList.getD i default=es[i]:=by simp[List.getD,hlt]
   have e2:vs.getD i .undef=vs[i]:=by simp[List.getD,hlv]
   have hrel:=hok.val i vs[i] es[i] (by simp[hlv]) (by simp[hlt]);rw[e1];cases ok with
   |true=>
    show Rel E w (.tup [vs.getD i .undef,.bool true]) _;rw[e2];exact jg hrel (.bool _)
   |false=>
    show Rel E w (vs.getD i .undef) _;rw[e2];exact hrel
 obtain⟨v,hrun,hrel⟩:=key;refine⟨.value v,v,w,E,_,H,nx,?_,.inl rfl,Ext.refl _ _,hE,hh,hf,hrel,h⟩;refine dZ ?_;show(Instr.lookup t (a.eval m) (a.eval k) ok).run P w=_;rw[hvm];exact hrun
def vR(z:AV)(r:Option Nat)(vs:List AV):List AV:=match r with|some _=>vs|none=>vs++[z]
def Ad(r:Option Nat)(ks:List AV):Nat:=match r with|some i=>i|none=>ks.length
def Bx(z:AV)(r:Option Nat)(vs:List AV):AV:=match r with|some i=>vs.getD i .undef|none=>z
theorem qP{P:Program}{t kt et:TypeId}{m k:Operand}{T:Tm}{H:Hp}{nx b:Nat}{K:AV->Hp->Nat->Prop}{mk:MK}{ks vs:List AV}{r:Option Nat}{z:AV}(ht:gV P t=some (kt,et))(hk:mkk P kt=some mk)(hz:eO P et=some z)
    (hm:ev T m=.mp b) (hb:H b=some [.omap ks vs]) (hfit:lf mk (ev T k)=true) (hr:dE mk (ev T k) ks=some r)
    (h:K (.tup [Bx z r vs,.int .i64 (Ad r ks)]) (ah H b [.omap (dD (ev T k) r ks) (vR z r vs)]) nx):cJ P (.mapEntry t m k) T H nx K:=by
 refine aZ (by intro c;simp) ?_;rintro E w a ⟨dst,op,type,pos,after,guard⟩ ho hE hh hf htm;simp only at ho;subst ho;have hmr:=htm m (by simp[Op.operands,Call.operands]);have hkr:=htm k (by simp[Op.operands,Call.operands]);rw[hm] at hmr;generalize hvm:a.eval m=vm at hmr;cases hmr with
 |mp _ kb hs=>
 obtain⟨es,clock,hw,hok⟩:=lg hh hb hs;have hck:=e7 (P:=P) (w:=w) hk hkr hfit false;have hfk:=eD (P:=P) (es:=es.toList) (ks:=ks) hk hkr (by simpa using hok.len) (λj y e h1 h2=>hok.key j y e h1 (by simpa using h2)) hr;have hu:=fu ht;obtain⟨vz,hvz,hrz⟩:=dM hz
 have key:∃v es' clock',(Instr.mapEntry t (.map (some kb)) (a.eval k)).run P w=.ok v (w.putObj kb (.map es' clock'))/\MapOk E w (dD (ev T k) r ks) (vR z r vs) es' clock'/\Rel E w (.tup [Bx z r vs,.int .i64 (Ad r ks)]) v:=by
  unfold Instr.mapEntry;simp only[bg,bL hu,a9,bK hw rfl,hck,hfk];cases r with
  |none=>
   simp only[jE,Option.map_none,bg,hvz,a9,dv hw rfl,dl];have hl:=hok.len;have hl':=hok.len';refine⟨_,_,_,rfl,⟨by simp[dD,hl],by simp[vR,dD,hl'],λi y e h1 h2=>?_,λi y e h1 h2=>?_,λi e h1=>?_,by simp[hok.clk]⟩,?_⟩
   ·simp only[dD] at h1;rw[sB] at h2;split at h2
    ·rename_i he;cases h2;rw[he,hl,ij (bj _)] at h1;simp at h1;subst h1;exact hkr
    ·rename_i hne;have hlt:i<es.size:=(gR.1 h2).1;rw[gH (by omega)] at h1;exact hok.key i y e h1 h2
   ·simp only[vR] at h1;rw[sB] at h2;split at h2
    ·rename_i he;cases h2;rw[he,hl,ij (by omega)] at h1;simp[hl'] at h1;subst h1;exact hrz E w
    ·rename_i hne;have hlt:i<es.size:=(gR.1 h2).1;rw[gH (by omega)] at h1;exact hok.val i y e h1 h2
   ·rw[sB] at h1;split at h1
    ·rename_i he;cases h1;rw[he];exact hok.clk
    ·exact hok.born i e h1
   ·refine jg (hrz E w) ?_;rw[show(Ad none ks:Int)=(clock:Int) by rw[hok.clk,hl];rfl];exact .int _ _
  |some i=>
   obtain⟨y,hy,hsame⟩:=fv hr;have hlt:i<es.size:=by have:=(bJ.1 hy).1;have:=hok.len;omega
   have hlv:i<vs.length:=by have:=hok.len';have:=hok.len;omega
   have hbits:=l8 hkr (hok.key i y es[i] hy (by simp[hlt])) hsame
   have ec:(Instr.keyThatStays (((es[i]?).map (·.key)).getD (a.eval k)) (a.eval k)).run P w=.ok (a.eval k) w:=by
    unfold Instr.keyThatStays;simp only[hlt,x8,ko,u5];rw[if_pos hbits];rfl
   simp only[jE,ko,eF,bg,ec,a9,dv hw rfl,dl]
   have hmod:∀j e,(es.modify i λe=>{e with key:=a.eval k})[j]?=some e->∃e0,es[j]?=some e0/\((i=j/\e={e0 with key:=a.eval k})\/(i≠j/\e=e0)):=by
    intro j e he;rw[Array.getElem?_modify] at he;split at he
    ·rename_i hij;cases h0:es[j]? with
     |none=>rw[h0] at he;cases he
     |some e0=>rw[h0] at he;cases he;exact⟨e0,rfl,.inl ⟨hij,rfl⟩⟩
    ·rename_i hij;exact⟨e,he,.inr ⟨hij,rfl⟩⟩
   refine⟨_,_,_,rfl,⟨by simp[dD,hok.len],by simp[vR,dD,hok.len'],λj z' e h1 h2=>?_,λj z' e h1 h2=>?_,λj e h1=>?_,by simp[hok.clk]⟩,?_⟩
   ·obtain⟨e0,k1,(⟨rfl,rfl⟩|⟨hne,rfl⟩)⟩:=hmod j e h2
    ·simp only[dD] at h1;rw[hy] at h1;cases h1;rw[<-qB hsame];exact hkr
    ·exact hok.key j z' e h1 k1
   ·simp only[vR] at h1;obtain⟨e0,k1,(⟨rfl,rfl⟩|⟨hne,rfl⟩)⟩:=hmod j e h2
    ·exact hok.val i z' e0 h1 k1
    ·exact hok.val j z' e h1 k1
   ·obtain⟨e0,k1,(⟨rfl,rfl⟩|⟨hne,rfl⟩)⟩:=hmod j e h1
    ·exact hok.born i e0 k1
    ·exact hok.born j e k1
   ·have e1:es.toList.getD i default=es[i]:=by simp[List.getD,hlt]
    have e2:vs.getD i .undef=vs[i]:=by simp[List.getD,hlv]
    have hrel:=hok.val i vs[i] es[i] (by simp[hlv]) (by simp[hlt]);have hbn:=hok.born i es[i] (by simp[hlt]);rw[e1];simp only[hlt,x8,ko,u5,hbn];show Rel E w (.tup [vs.getD i .undef,.int .i64 (i:Nat)]) _;rw[e2];exact jg hrel (.int _ _)
 obtain⟨v,es',clock',hrun,hok',hrel⟩:=key;obtain⟨q1,q2,q3⟩:=td hE hh hb hs hw hok';refine⟨.value v,v,_,E,_,_,nx,?_,.inl rfl,q1,q2,q3,hf,hrel.ext q1,h⟩;refine dZ ?_;show(Instr.mapEntry t (a.eval m) (a.eval k)).run P w=_;rw[hvm];exact hrun
theorem nT{P:Program}{t:TypeId}{m s x:Operand}{T:Tm}{H:Hp}{nx b i:Nat}{K:AV->Hp->Nat->Prop}{ks vs:List AV}
    (hm:ev T m=.mp b) (hb:H b=some [.omap ks vs]) (hi:ev T s=.int .i64 (i:Int)) (hlt:i<ks.length)
    (h:K (.tup []) (ah H b [.omap ks (vs.set i (ev T x))]) nx):cJ P (.entryStore t m s x) T H nx K:=by
 refine aZ (by intro c;simp) ?_;rintro E w a ⟨dst,op,type,pos,after,guard⟩ ho hE hh hf htm;simp only at ho;subst ho;have hmr:=htm m (by simp[Op.operands,Call.operands]);have hsr:=htm s (by simp[Op.operands,Call.operands]);have hxr:=htm x (by simp[Op.operands,Call.operands]);rw[hm] at hmr;rw[hi] at hsr;generalize hvm:a.eval m=vm at hmr;generalize hvs:a.eval s=vs1 at hsr;cases hsr;cases hmr with
 |mp _ kb hs=>
 obtain⟨es,clock,hw,hok⟩:=lg hh hb hs;have hle:i<es.size:=by have:=hok.len;omega
 have hfi:es.findIdx? (λe=>(e.born:Int)==(i:Int))=some i:=by
  rw[Array.findIdx?_eq_some_iff_getElem];refine⟨hle,?_,λj hj=>?_⟩
  ·have:=hok.born i es[i] (by simp[hle]);simp[this]
  ·have:=hok.born j es[j] (by simp[show j<es.size by omega]);simp[this];omega
 have key:∃es' clock',(Instr.entryStore t (.map (some kb)) (.int .i64 (i:Int)) (a.eval x)).run P w=.ok () (w.putObj kb (.map es' clock'))/\MapOk E w ks (vs.set i (ev T x)) es' clock':=by
  unfold Instr.entryStore;simp only[bg,a9,bK hw rfl,asInt,asIntOf,dl,hfi,dv hw rfl]
  have hmod:∀j e,(es.modify i λe=>{e with val:=a.eval x})[j]?=some e->∃e0,es[j]?=some e0/\((i=j/\e={e0 with val:=a.eval x})\/(i≠j/\e=e0)):=by
   intro j e he;rw[Array.getElem?_modify] at he;split at he
   ·rename_i hij;cases h0:es[j]? with
    |none=>rw[h0] at he;cases he
    |some e0=>rw[h0] at he;cases he;exact⟨e0,rfl,.inl ⟨hij,rfl⟩⟩
   ·rename_i hij;exact⟨e,he,.inr ⟨hij,rfl⟩⟩
  refine⟨_,_,rfl,⟨by simp[hok.len],by simp[hok.len'],λj z e h1 h2=>?_,λj z e h1 h2=>?_,λj e h1=>?_,by simp[hok.clk]⟩⟩
  ·obtain⟨e0,k1,(⟨rfl,rfl⟩|⟨hne,rfl⟩)⟩:=hmod j e h2
   ·exact hok.key i z e0 h1 k1
   ·exact hok.key j z e h1 k1
  ·obtain⟨e0,k1,(⟨rfl,rfl⟩|⟨hne,rfl⟩)⟩:=hmod j e h2
   ·have:i<vs.length:=by have:=hok.len';omega
    rw[List.getElem?_set_self this] at h1;cases h1;exact hxr
   ·rw[List.getElem?_set_ne hne] at h1;exact hok.val j z e h1 k1
  ·obtain⟨e0,k1,(⟨rfl,rfl⟩|⟨hne,rfl⟩)⟩:=hmod j e h1
   ·exact hok.born i e0 k1
   ·exact hok.born j e k1
 obtain⟨es',clock',hrun,hok'⟩:=key;obtain⟨q1,q2,q3⟩:=td hE hh hb hs hw hok';refine⟨.skip,Go.undef,_,E,.tup [],_,nx,?_,.inr ⟨rfl,rfl⟩,q1,q2,q3,hf,fB _ _,h⟩;refine nW ?_;show(Instr.entryStore t (a.eval m) (a.eval s) (a.eval x)).run P w=_;rw[hvm,hvs];exact hrun
theorem wv{P:Program}{t:TypeId}{m:Operand}{T:Tm}{H:Hp}{nx b:Nat}{K:AV->Hp->Nat->Prop}{p:TypeId×TypeId}{ks vs:List AV}(ht:gV P t=some p)(hm:ev T m=.mp b)(hb:H b=some [.omap ks vs])
    (h:K (.int .i64 ks.length) H nx):cJ P (.call {callee:=.builtin .len,args:=#[m],argTypes:=#[t]}) T H nx K:=by
 refine aZ (by intro c;simp) ?_;rintro E w a ⟨dst,op,type,pos,after,guard⟩ ho hE hh hf htm;simp only at ho;subst ho;have hmr:=htm m (by simp[Op.operands,Call.operands]);rw[hm] at hmr;generalize hvm:a.eval m=vm at hmr;cases hmr with
 |mp _ kb hs=>
 obtain⟨es,clock,hw,hok⟩:=lg hh hb hs;have hu:=fu (P:=P) (t:=t) (k:=p.1) (e:=p.2) ht
 have hrun:(Builtin.len_ #[t] type #[.map (some kb)]).run P w=.ok (goInt es.size) w:=by
  unfold Builtin.len_;simp[bL hu,bK hw rfl]
 refine⟨.value (goInt es.size),goInt es.size,w,E,_,H,nx,?_,.inl rfl,Ext.refl _ _,hE,hh,hf,?_,h⟩
 ·simp only[execOp,resolve,invoke,builtin,bg,dl,a9];simp[hvm,hrun]
 ·rw[hok.len];exact .int _ _
theorem te{P:Program}{t:TypeId}{m:Operand}{T:Tm}{H:Hp}{nx b:Nat}{K:AV->Hp->Nat->Prop}{p:TypeId×TypeId}{ks vs:List AV}(ht:gV P t=some p)(hm:ev T m=.mp b)(hb:H b=some [.omap ks vs])
    (h:K (.itr nx) (ah H nx [.oiter b ks.length []]) (nx+1)):cJ P (.range t m) T H nx K:=by
 refine aZ (by intro c;simp) ?_;rintro E w a ⟨dst,op,type,pos,after,guard⟩ ho hE hh hf htm;simp only at ho;subst ho;have hmr:=htm m (by simp[Op.operands,Call.operands]);rw[hm] at hmr;generalize hvm:a.eval m=vm at hmr;cases hmr with
 |mp _ kb hs=>
 obtain⟨es,clock,hw,hok⟩:=lg hh hb hs;have hu:=fu (P:=P) (t:=t) (k:=p.1) (e:=p.2) ht;obtain⟨E',hE',he,hEo,hh',hs',hnew⟩:=qK hE hh (hf nx (bj _)) (.mapIter (some kb) clock #[] clock) rfl (by intro ds;simp);have hcl:clock=ks.length:=by rw[hok.clk,hok.len]
 refine ⟨.value (.pointer (some ⟨w.heap.size,0,none⟩)),.pointer (some ⟨w.heap.size,0,none⟩),w.alloc (.mapIter (some kb) clock #[] clock),E',.itr nx,_,nx + 1,?_,.inl rfl,he,hEo,
  hh'.addSp (x:=.oiter b ks.length []) (sZ _) (hEo.spm nx _ hs') hs' ⟨kb,clock,by rw[hnew,hcl],he.sp _ _ hs,λh=>absurd rfl h,hcl⟩,hf.sp hE',.itr _ _ hs',h⟩
 refine dZ ?_;show(Instr.range t (a.eval m)).run P w=_;rw[hvm];unfold Instr.range;simp only[bg,bL hu,a9,bK hw rfl,dl,run_newObj_alloc]
theorem xg{E:Env}{H:Hp}{nx:Nat}{w:World}(hh:HeapOk E H nx w){b k m n0:Nat}{seen:List Nat}(hb:H b=some [.oiter m n0 seen])(hs:E.sp b=some k):
    ∃km last,w.heap[k]?=some (.mapIter (some km) n0 seen.toArray last)/\E.sp m=some km/\(seen≠[]->0<last)/\last=n0:=by
 obtain⟨k',h1,h2⟩:=hh.spec b _ hb rfl;rw[hs] at h1;cases h1;exact h2
theorem qr{es:Array MapEntry}{p:MapEntry->Bool}{e:MapEntry}(h:e∈es.filter p):(∃i:Nat,es[i]?=some e)/\p e=true:=by
 rw[Array.mem_filter] at h;obtain⟨i,hi,rfl⟩:=Array.mem_iff_getElem.1 h.1;exact⟨⟨i,by simp[hi]⟩,h.2⟩
theorem pb{P:Program}{w:World}{n:Nat}(hn:0<n):∃c w1,(choose (.mapNext n)).run P w=.ok c w1/\c<n/\(w1=w\/w1=w.drew):=by
 rw[run_choose_drew];by_cases h:(Question.mapNext n).forced=true
 ·rw[if_pos h];exact⟨0,w,rfl,hn,.inl rfl⟩
 ·rw[if_neg h];exact⟨_,w.drew,rfl,Nat.mod_lt _ hn,.inr rfl⟩
def ey(es:Array MapEntry)(seen:List Nat)(n0:Nat):Array MapEntry:=(es.filter λe=>!seen.toArray.contains e.born).filter (·.born<n0)
def pf(es:Array MapEntry)(seen:List Nat)(n0:Nat):Array MapEntry:=(es.filter λe=>!seen.toArray.contains e.born).filter (·.born≥n0)
theorem uS{P:Program}{w:World}{k km n0 last clock:Nat}{seen:List Nat}{es:Array MapEntry}{ty:TypeId}(hw:w.heap[k]?=some (.mapIter (some km) n0 seen.toArray last))(hwm:w.heap[km]?=some (.map es clock))
    (hg:(!seen.toArray.isEmpty&& !es.isEmpty&&es.all (·.born≥last))=false):
    ∃w1,(w1=w\/w1=w.drew)/\
     ((ey es seen n0).isEmpty=true∧(Instr.next (.pointer (some ⟨k,0,none⟩)) false ty).run P w=.ok (.tuple #[.bool false]) w1 ∨
      ∃(e:MapEntry)(i:Nat),es[i]?=some e/\seen.toArray.contains e.born=false/\(Instr.next (.pointer (some ⟨k,0,none⟩)) false ty).run P w=.ok (.tuple #[.bool true,e.key,e.val]) (w1.putObj k (.mapIter (some km) n0 (seen.toArray.push e.born) clock))):=by
 let cand:Array (Option MapEntry):=(if (ey es seen n0).isEmpty then #[none] else #[])++(ey es seen n0++pf es seen n0).map some
 have hpos:0<cand.size:=by
  show 0<((if (ey es seen n0).isEmpty then #[none] else #[])++(ey es seen n0++pf es seen n0).map some).size;split
  ·simp;omega
  ·rename_i hne;have:(ey es seen n0).size≠0:=by intro h;exact hne (by simp[Array.isEmpty,h])
   simp;omega
 obtain⟨c,w1,hc,hlt,hw1⟩:=pb (P:=P) (w:=w) hpos;refine⟨w1,hw1,?_⟩;have hh1:w1.heap=w.heap:=by rcases hw1 with rfl|rfl<;>rfl
 have hget:cand[c]?=some cand[c]:=by simp[hlt]
 have hrun:(Instr.next (.pointer (some ⟨k,0,none⟩)) false ty).run P w=(match cand[c] with
     |some e=>(do setObj k (.mapIter (some km) n0 (seen.toArray.push e.born) clock);pure (.tuple #[.bool true,e.key,e.val]):Sem Value).run P w1
     |none=>.ok (.tuple #[.bool false]) w1):=by
  unfold Instr.next;simp only[bg,bK hw rfl,bK hwm rfl,a9,hg,bm,if_false];have hc':(choose (.mapNext ((if (Array.filter (λ(x:MapEntry)=>decide (x.born<n0)) (Array.filter (λ(e:MapEntry)=>!seen.toArray.contains e.born) es)).isEmpty then #[none] else #[])++Array.map some (Array.filter (λ(x:MapEntry)=>decide (x.born<n0)) (Array.filter (λ(e:MapEntry)=>!seen.toArray.contains e.born) es)++Array.filter (λ(x:MapEntry)=>decide (x.born≥n0)) (Array.filter (λ(e:MapEntry)=>!seen.toArray.contains e.born) es))).size)).run P w=.ok c w1:=hc;simp only[hc',a9];have hget':((if (Array.filter (λ(x:MapEntry)=>decide (x.born<n0)) (Array.filter (λ(e:MapEntry)=>!seen.toArray.contains e.born) es)).isEmpty then #[none] else #[])++Array.map some (Array.filter (λ(x:MapEntry)=>decide (x.born<n0)) (Array.filter (λ(e:MapEntry)=>!seen.toArray.contains e.born) es)++Array.filter (λ(x:MapEntry)=>decide (x.born≥n0)) (Array.filter (λ(e:MapEntry)=>!seen.toArray.contains e.born) es)))[c]?=some cand[c]:=hget;rw[hget'];cases cand[c] with
  |none=>rfl
  |some e=>simp only[bg]
 have hmem:cand[c]∈cand:=Array.getElem_mem hlt;have hmem':cand[c]∈(if (ey es seen n0).isEmpty then #[none] else #[])++(ey es seen n0++pf es seen n0).map some:=hmem;generalize cand[c]=x at hrun hmem';rw[rC] at hmem';cases x with
 |none=>
  left;refine⟨?_,hrun⟩;rcases hmem' with h|h
  ·split at h
   ·assumption
   ·simp at h
  ·simp at h
 |some e=>
  right
  have he:e∈ey es seen n0\/e∈pf es seen n0:=by
   rcases hmem' with h|h
   ·split at h<;>simp at h
   ·simpa using h
  have hleft:e∈es.filter λe=>!seen.toArray.contains e.born:=by
   rcases he with h|h
   ·exact(Array.mem_filter.1 h).1
   ·exact(Array.mem_filter.1 h).1
  obtain⟨⟨i,hi⟩,hs⟩:=qr hleft;refine⟨e,i,hi,by simpa using hs,?_⟩;rw[hrun];have hw':w1.heap[k]?=some (.mapIter (some km) n0 seen.toArray last):=by rw[hh1];exact hw
  simp only[bg,dv hw' rfl,a9];rfl
theorem vD{P:Program}{it:Operand}{T:Tm}{H:Hp}{nx b m n0:Nat}{K:AV->Hp->Nat->Prop}{ks vs:List AV}{seen:List Nat}(hi:ev T it=.itr b)(hb:H b=some [.oiter m n0 seen])(hm:H m=some [.omap ks vs])(hkn:ks.length=n0)
    (h1:∀i,i<ks.length->i∉seen->K (.tup [.bool true,ks.getD i .undef,vs.getD i .undef]) (ah H b [.oiter m n0 (seen++[i])]) nx)
    (h2:(∀i,i<n0->i<ks.length->i∈seen)->K (.tup [.bool false]) H nx):cJ P (.next it false) T H nx K:=by
 refine aZ (by intro c;simp) ?_;rintro E w a ⟨dst,op,type,pos,after,guard⟩ ho hE hh hf htm;simp only at ho;subst ho;have hir:=htm it (by simp[Op.operands,Call.operands]);rw[hi] at hir;generalize hvi:a.eval it=vi at hir;cases hir with
 |itr _ k hs=>
 obtain⟨km,last,hw,hsm,hlast,hln⟩:=xg hh hb hs;obtain⟨es,clock,hwm,hok⟩:=lg hh hm hsm;have hl:=hok.len;have hl':=hok.len'
 have hguard:(!seen.toArray.isEmpty&& !es.isEmpty&&es.all (·.born≥last))=false:=by
  by_cases hse:seen=[]
  ·subst hse;rfl
  ·have hpos:=hlast hse;by_cases hz:es.size=0
   ·have:es=#[]:=xP hz;subst this;simp
   ·have h0:=hok.born 0 es[0] (by simp)
    have:es.all (·.born≥last)=false:=by
     rw[Array.all_eq_false];exact⟨0,by omega,by simp;omega⟩
    rw[this];simp
 obtain⟨w1,hw1,hrun⟩:=uS (P:=P) (ty:=type) hw hwm hguard
 have hE1:Ext E w E w1/\EnvOk E w1/\HeapOk E H nx w1/\w1.heap=w.heap:=by
  rcases hw1 with rfl|rfl
  ·exact⟨Ext.refl _ _,hE,hh,rfl⟩
  ·exact⟨Ext.same rfl,hE.drew,hh.same rfl,rfl⟩
 obtain⟨k1,k2,k3,k4⟩:=hE1
 have hexec:∀v w',(Instr.next (.pointer (some ⟨k,0,none⟩)) false type).run P w=.ok v w'->(execOp a.eval ⟨dst,.next it false,type,pos,after,guard⟩).run P w=.ok (.value v) w':=by
  intro v w' h;refine dZ ?_;show(Instr.next (a.eval it) false type).run P w=_;rw[hvi];exact h
 rcases hrun with⟨hold,hrun⟩|⟨e,i,hei,hns,hrun⟩
 ·refine⟨.value (.tuple #[.bool false]),.tuple #[.bool false],w1,E,.tup [.bool false],H,nx,hexec _ _ hrun,.inl rfl,k1,k2,k3,hf,uc (.bool _),h2 (λi h0 hi=>?_)⟩;have hlt:i<es.size:=by omega
  rcases Decidable.em (i∈seen) with h|h
  ·exact h
  ·exfalso;have hb0:=hok.born i es[i] (by simp[hlt])
   have hmem:es[i]∈ey es seen n0:=by
    unfold ey;rw[Array.mem_filter];refine⟨Array.mem_filter.2 ⟨Array.getElem_mem hlt,?_⟩,by rw[hb0];simpa using h0⟩;rw[hb0];simpa using h
   have:(ey es seen n0).size=0:=by simpa[Array.isEmpty] using hold
   rw[xP this] at hmem;simp at hmem
 ·have hlt:i<es.size:=(gR.1 hei).1;have hb0:=hok.born i e hei
  have hni:i∉seen:=by
   rw[hb0] at hns;simpa using hns
  have hw1k:w1.heap[k]?=some (.mapIter (some km) n0 seen.toArray last):=by rw[k4];exact hw
  have hlp:∀r T,E.lp b=some (r,T)->False:=by
   intro r T h;obtain⟨k',st,p,h1,h2,_⟩:=hE.lp b r T h;rw[hs] at h1;cases h1;rw[hw] at h2;cases h2
  obtain⟨q1,q2,q3⟩:=nu k2 (k3.del b) hs hw1k (o':=.mapIter (some km) n0 (seen.toArray.push e.born) clock) rfl rfl (by intro ds;simp) (by intro ds;simp) (λr T h=>(hlp r T h).elim) (λx hx=>by rw[gm] at hx;cases hx)
  have hH:ah (e8 H b) b [.oiter m n0 (seen++[i])]=ah H b [.oiter m n0 (seen++[i])]:=by
   funext y;unfold ah e8;split<;>rfl
  have q4:=q3.addSp (x:=.oiter m n0 (seen ++ [i])) (hh.dom _ _ hb) (q2.spm b k hs) hs ⟨km,clock,by
   rw[x7 (gR.1 hw1k).1,hb0];simp,hsm,λ_=>by rw[hok.clk];omega,by rw[hok.clk,hl,hkn]⟩
  rw[hH] at q4;have hkr:=hok.key i (ks.getD i .undef) e (by simp[List.getD,show i<ks.length by omega]) hei;have hvr:=hok.val i (vs.getD i .undef) e (by simp[List.getD,show i<vs.length by omega]) hei
  exact ⟨.value (.tuple #[.bool true,e.key,e.val]),.tuple #[.bool true,e.key,e.val],_,E,.tup [.bool true,ks.getD i .undef,vs.getD i .undef],_,nx,hexec _ _ hrun,.inl rfl,k1.trans q1,q2,q4,hf,
   vh (.bool _) (hkr.ext (k1.trans q1)) (hvr.ext (k1.trans q1)),h1 i (by omega) hni⟩
theorem rP{E:Env}{w:World}{x y:AV}{u v:Value}(h1:Rel E w x u)(h2:Rel E w y v):Rel E w (.tup [x,y]) (.tuple #[u,v]):=by
 refine Rel.tup [x,y] [u,v] rfl (λi a b ha hb=>?_)
 match i with
 |0=>cases ha;cases hb;exact h1
 |1=>cases ha;cases hb;exact h2
 |i+2=>cases ha
theorem sU{P:Program}{it:Operand}{T:Tm}{H:Hp}{nx b m n0 i:Nat}{K:AV->Hp->Nat->Prop}{ks vs:List AV}{seen:List Nat}(hi:ev T it=.itr b)(hb:H b=some [.oiter m n0 seen])(hm:H m=some [.omap ks vs])
    (hkn:ks.length=n0) (hl:seen.getLast?=some i) (hlt:i<ks.length) (h:K (.tup [ks.getD i .undef,vs.getD i .undef]) H nx):cJ P (.entry it) T H nx K:=by
 refine aZ (by intro c;simp) ?_;rintro E w a ⟨dst,op,type,pos,after,guard⟩ ho hE hh hf htm;simp only at ho;subst ho;have hir:=htm it (by simp[Op.operands,Call.operands]);rw[hi] at hir;generalize hvi:a.eval it=vi at hir;cases hir with
 |itr _ k hs=>
 obtain⟨km,last,hw,hsm,hlast,hln⟩:=xg hh hb hs;obtain⟨es,clock,hwm,hok⟩:=lg hh hm hsm;have hlen:=hok.len;have hlen':=hok.len';have hie:i<es.size:=by omega
 have hei:es[i]?=some es[i]:=by simp[hie]
 have hborn:=hok.born i es[i] hei;have hback:seen.toArray.back?=some i:=by rw[List.back?_toArray,hl]
 have hfind:es.find? (·.born==i)=some es[i]:=by
  cases hf:es.find? (·.born==i) with
  |none=>
   have:=Array.find?_eq_none.1 hf es[i] (Array.getElem_mem hie);rw[hborn] at this;simp at this
  |some e=>
   have h1:=Array.find?_some hf;have h2:=Array.mem_of_find?_eq_some hf;obtain⟨j,hj,rfl⟩:=Array.mem_iff_getElem.1 h2;have h3:=hok.born j es[j] (by simp[hj]);simp only[h3,beq_iff_eq] at h1;subst h1;rfl
 have hclk:(clock !=last)=false:=by
  have:clock=last:=by rw[hok.clk,hlen,hkn,hln]
  simp[this]
 have hkr:=hok.key i (ks.getD i .undef) es[i] (by simp[List.getD,hlt]) hei;have hvr:=hok.val i (vs.getD i .undef) es[i] (by simp[List.getD,show i<vs.length by omega]) hei;refine⟨.value (.tuple #[es[i].key,es[i].val]),.tuple #[es[i].key,es[i].val],w,E,.tup [ks.getD i .undef,vs.getD i .undef],H,nx,?_,.inl rfl,Ext.refl _ _,hE,hh,hf,rP hkr hvr,h⟩;refine dZ ?_;show(Instr.entry (a.eval it)).run P w=_;rw[hvi];unfold Instr.entry;simp only[bg,bK hw rfl,bK hwm rfl,a9,hback,hclk,hfind,bm,if_false,dl]
def Be(n:Nat):AV->AV
 |.sl sz l=>.sl sz (l.take n)
 |.msl b m sz off _=>.msl b m sz off n
 |x=>x
def pr:AV->Option Nat
 |.sl _ l=>some l.length
 |.msl _ _ _ _ len=>some len
 |.esl=>some 0
 |_=>none
theorem tT{P:Program}{E:Env}{H:Hp}{nx:Nat}{w:World}(hh:HeapOk E H nx w){x:AV}{v:Value}(hx:Rel E w x v){n k sz j:Nat}{new:List AV}(hk:pr x=some k)(hn:n<=k)(hn0:0<n)(h:fV sz H (Be n x)=some (j,new)):
    (Builtin.lenOf v).run P w=.ok k w/\new.length=n*sz/\∃vals:List Value,(Builtin.firstCells sz n v).run P w=.ok vals.toArray w/\vals.length=new.length/\∀(i:Nat)(a:AV)(y:Value),new[i]?=some a->vals[i]?=some y->Rel E w a y:=by
 cases hx with
 |sl szz elems blk o cap vals him hlen hsz hcell hr=>
  cases hk;have htl:(elems.take n).length=n:=by simp;omega
  have hx':Rel E w (.sl szz (elems.take n)) (.slice (some ⟨blk,o,none⟩) (elems.take n).length cap):=
   Rel.sl szz (elems.take n) blk o cap vals him (by omega) (fun y hy=>hsz y (yw hy)) (fun i hi=>hcell i (yu hi (gF _ (by omega)))) (fun i j y c hy hc=>by
    rw[jb] at hy;split at hy
    ·exact hr i j y c hy hc
    ·cases hy)
  obtain⟨h1,h2,vs,h3,h4,h5⟩:=jR (P:=P) hh hx' h
  have hj:j=n:=by
   have:=h1;simp only[Builtin.lenOf,dl] at this;injection this with e;omega
  subst hj;exact⟨rfl,h2,vs,h3,h4,h5⟩
 |msl b m szz off len blk bsz cap hm hl hc hnn=>
  cases hk;have hx':Rel E w (.msl b m szz off n) (.slice (some ⟨blk,off,none⟩) n cap):=.msl _ _ _ _ _ _ _ _ hm (by omega) hc hnn;obtain⟨h1,h2,vs,h3,h4,h5⟩:=jR (P:=P) hh hx' h
  have hj:j=n:=by
   have:=h1;simp only[Builtin.lenOf,dl] at this;injection this with e;exact e.symm
  subst hj;exact⟨rfl,h2,vs,h3,h4,h5⟩
 |slnil=>cases hk;simp at hn;omega
 |slempty=>cases hk;simp at hn;omega
 |msl0=>cases hk;omega
 |eslnil=>cases hk;omega
 |esl=>cases hk;omega
 |_=>cases hk
theorem oI{P:Program}{E:Env}{w:World}{x:AV}{v:Value}(hx:Rel E w x v){k:Nat}(hk:pr x=some k):(Builtin.lenOf v).run P w=.ok k w/\∃a c,v=.slice a k c:=by
 cases hx with
 |sl=>cases hk;exact⟨rfl,_,_,rfl⟩
 |msl=>cases hk;exact⟨rfl,_,_,rfl⟩
 |slnil=>cases hk;exact⟨rfl,_,_,rfl⟩
 |slempty=>cases hk;exact⟨rfl,_,_,rfl⟩
 |msl0 _ _ _ h=>cases hk;rcases h with rfl|⟨_,rfl⟩<;>exact⟨rfl,_,_,rfl⟩
 |eslnil=>cases hk;exact⟨rfl,_,_,rfl⟩
 |esl=>cases hk;exact⟨rfl,_,_,rfl⟩
 |_=>cases hk
theorem o6{P:Program}{w:World}{sz k c:Nat}{a:Option Addr}:(Builtin.firstCells sz 0 (.slice a k c)).run P w=.ok #[] w:=by
 cases a<;>simp[Builtin.firstCells,loadCells,loadCellsFrom]
def yU(sz:Nat)(d s:AV)(H:Hp):Option (Nat×Hp):=
 match pr d,pr s with
 |some ld,some ls=>
  if min ls ld=0 then some (0,H) else
  match d with
  |.msl b n sz' off _=>match H b,fV sz H (Be (min ls ld) s) with
   |some cs,some (_,new)=>if cs.length=n/\sz'=sz/\off+min ls ld*sz<=n/\new.all AV.one=true then some (min ls ld,ah H b (dr cs off new)) else none
   |_,_=>none
  |_=>none
 |_,_=>none
theorem vU{P:Program}{tD tS e:TypeId}{d s:Operand}{T:Tm}{H:Hp}{nx:Nat}{K:AV->Hp->Nat->Prop}{n:Nat}{H':Hp}(ht:f0 P tD=some e)(hte:tok P e=true)
    (h:yU (P.cellsOf e) (ev T d) (ev T s) H=some (n,H')) (hk:K (.int .i64 n) H' nx):cJ P (.call {callee:=.builtin .copy,args:=#[d,s],argTypes:=#[tD,tS]}) T H nx K:=by
 refine aZ (by intro c;simp) ?_;rintro E w a ⟨dst,op,type,pos,after,guard⟩ ho hE hh hf htm;simp only at ho;subst ho;have hdr:=htm d (by simp[Op.operands,Call.operands]);have hsr:=htm s (by simp[Op.operands,Call.operands]);have hu:=gx ht
 have hexec:∀v w',(Builtin.copy_ #[tD,tS] type #[a.eval d,a.eval s]).run P w=.ok v w'->(execOp a.eval ⟨dst,.call {callee:=.builtin .copy,args:=#[d,s],argTypes:=#[tD,tS]},type,pos,after,guard⟩).run P w=.ok (.value v) w':=by
  intro v w' h;simp only[execOp,resolve,invoke,builtin,bg,dl,a9];simp[h]
 unfold yU at h;split at h
 case h_2=>cases h
 rename_i ld ls hld hls;obtain⟨_,ad,cd,hvd⟩:=oI (P:=P) hdr hld;obtain⟨hls',as,cs',hvs⟩:=oI (P:=P) hsr hls;split at h
 case isTrue h0=>
  cases h
  have hrun:(Builtin.copy_ #[tD,tS] type #[a.eval d,a.eval s]).run P w=.ok (goInt 0) w:=by
   have h0':Nat.min ls ld=0:=h0;unfold Builtin.copy_;simp only[mH,nC,wG,bg,bL hu,a9,hvd];simp only[hls',a9,h0',aE hte];rw[hvs];simp only[o6,a9];cases ad<;>simp[storeCells]
  exact⟨.value (goInt 0),goInt 0,w,E,_,H,nx,hexec _ _ hrun,.inl rfl,Ext.refl _ _,hE,hh,hf,.int _ _,hk⟩
 case isFalse h0=>
  split at h
  case h_2=>cases h
  rename_i b n' sz' off len hd;split at h
  case h_2=>cases h
  rename_i cs j new hb hsrc;split at h
  case isFalse=>cases h
  case isTrue hc=>
  obtain⟨rfl,rfl,hfit,hone⟩:=hc;cases h;have hlen:len=ld:=by rw[hd] at hld;cases hld;rfl
  subst hlen;obtain⟨_,hnl,vals,h3,h4,h5⟩:=tT (P:=P) hh hsr hls (Nat.min_le_left _ _) (by omega) hsrc
  have hones:∀y∈vals,y.oneCell'=true:=by
   intro y hy;obtain⟨i,hi⟩:=sR hy;have hlt:i<new.length:=by have:=(bJ.1 hi).1;omega
   exact(h5 i new[i] y (by simp[hlt]) hi).one (cV.1 hone _ (nH hlt))
  rw[hd] at hdr;generalize hnn:cs.length=nn at hdr;generalize hvd':a.eval d=vd at hdr;cases hdr with
  |msl0=>omega
  |msl _ _ _ _ _ blk bsz cap hm hl hcp hcn=>
  subst hnn;obtain⟨w',E',g1,g2,g3,g4,g5,g6,g7⟩:=iX (P:=P) hE hh (off:=off) hb hm (new:=new) (nv:=vals) (by rw[hnl];exact hfit) h4 h5 hones
  have hrun:(Builtin.copy_ #[tD,tS] type #[a.eval d,a.eval s]).run P w=.ok (goInt ((min ls len:Nat):Int)) w':=by
   have e:Nat.min ls len=min ls len:=rfl;unfold Builtin.copy_;simp only[mH,nC,wG,bg,bL hu,a9,hvd',hls',e,aE hte,h3,g1,dl]
  exact⟨.value (goInt ((min ls len:Nat):Int)),goInt ((min ls len:Nat):Int),w',E',.int .i64 ((min ls len:Nat):Int),_,nx,hexec _ _ hrun,.inl rfl,g2,g3,g4,hf.of (bj _) (λb' n hb'=>g5 b' n (by have:=hh.dom _ _ hb;omega)) g6 g7,.int _ _,hk⟩
def wJ(sz:Nat)(z x:AV)(H:Hp):Option Hp:=match x with
 |.msl b n sz' off len=>if len=0 then some H else match H b with
  |some cs=>if cs.length=n/\sz'=sz/\z.flat=true/\z.cells.length=sz/\off+len*sz<=n then some (ah H b (dr cs off (bC z len))) else none
  |none=>none
 |_=>none
theorem uP{P:Program}{tX e:TypeId}{x:Operand}{T:Tm}{H:Hp}{nx:Nat}{K:AV->Hp->Nat->Prop}{z:AV}{H':Hp}(ht:f0 P tX=some e)(hz:eO P e=some z)
    (h:wJ (P.cellsOf e) z (ev T x) H=some H') (hpos:0<P.cellsOf e) (hk:K (.tup []) H' nx):cJ P (.call {callee:=.builtin .clear,args:=#[x],argTypes:=#[tX]}) T H nx K:=by
 refine aZ (by intro c;simp) ?_;rintro E w a ⟨dst,op,type,pos,after,guard⟩ ho hE hh hf htm;simp only at ho;subst ho;have hxr:=htm x (by simp[Op.operands,Call.operands]);have hu:=gx ht
 have hexec:∀v w',(Builtin.clear_ #[tX] type #[a.eval x]).run P w=.ok v w'->(execOp a.eval ⟨dst,.call {callee:=.builtin .clear,args:=#[x],argTypes:=#[tX]},type,pos,after,guard⟩).run P w=.ok (.value v) w':=by
  intro v w' h;simp only[execOp,resolve,invoke,builtin,bg,dl,a9];simp[h]
 unfold wJ at h;split at h
 case h_2=>cases h
 rename_i b n sz' off len hx;rw[hx] at hxr;split at h
 case isTrue h0=>
  cases h;subst h0
  have hrun:(Builtin.clear_ #[tX] type #[a.eval x]).run P w=.ok (.tuple #[]) w:=by
   generalize a.eval x=vx at hxr;unfold Builtin.clear_;simp only[mH,nC,bg,bL hu,a9];cases hxr with
   |msl=>rfl
   |msl0 _ _ _ hv=>rcases hv with rfl|⟨_,rfl⟩<;>rfl
  exact⟨.value (.tuple #[]),.tuple #[],w,E,.tup [],H,nx,hexec _ _ hrun,.inl rfl,Ext.refl _ _,hE,hh,hf,fB _ _,hk⟩
 case isFalse h0=>
  split at h
  case h_2=>cases h
  rename_i cs hb;split at h
  case isFalse=>cases h
  case isTrue hc=>
  obtain⟨rfl,rfl,hfl,hzl,hfit⟩:=hc;cases h;generalize hnn:cs.length=nn at hxr;generalize hvx:a.eval x=vx at hxr;cases hxr with
  |msl0=>omega
  |msl _ _ _ _ _ blk bsz cap hm hl hcp hcn=>
  subst hnn;obtain⟨vz,hvz,hrz⟩:=dM hz;obtain⟨k1,k2,k3⟩:=(hrz E w).cells hfl
  have hvs : vz.cells.size = P.cellsOf e := by have : vz.cells.toList.length = vz.cells.size := by simp
                                               omega
  have hzc:(bC z len).length=len*P.cellsOf e:=by simp[bC,hzl]
  have hzz:(Builtin.zeroCells vz.cells len).size=len*P.cellsOf e:=by simp[Builtin.zeroCells,hvs]
  have hget:∀j(y:Value),(Builtin.zeroCells vz.cells len)[j]?=some y->j<len*P.cellsOf e/\vz.cells[j%P.cellsOf e]?=some y:=by
   intro j y hy;have hj:j<len*P.cellsOf e:=by rw[<-hzz];exact(gR.1 hy).1
   refine⟨hj,?_⟩;have hlt:j%P.cellsOf e<vz.cells.size:=by rw[hvs];exact Nat.mod_lt _ hpos
   unfold Builtin.zeroCells at hy;rw[hvs,Array.getElem?_map,Array.getElem?_range,if_pos hj] at hy;simp only[ko] at hy;rw[getElem!_pos vz.cells _ hlt] at hy;rw[<-hy];simp[hlt]
  obtain ⟨w',E',g1,g2,g3,g4,g5,g6,g7⟩:=iX (P:=P) hE hh (off:=off) hb hm (new:=bC z len) (nv:=(Builtin.zeroCells vz.cells len).toList) (by rw [hzc]; exact hfit) (by simp [hzz,hzc]) (fun j p y hp hy=>by
   obtain⟨hj,hvj⟩:=hget j y (by simpa using hy);unfold bC at hp;rw[cI _ _ (by rw[hzl];exact hj),hzl] at hp;exact k2 _ _ _ hp (by simpa using hvj)) (λy hy=>by
   obtain⟨j,hj⟩:=sR hy;obtain⟨_,hvj⟩:=hget j y (by simpa using hj);exact k3 y (by simpa using Array.mem_of_getElem? hvj))
  have hrun:(Builtin.clear_ #[tX] type #[a.eval x]).run P w=.ok (.tuple #[]) w':=by
   cases len with
   |zero=>exact absurd rfl h0
   |succ len=>
   unfold Builtin.clear_;simp only[mH,nC,bg,bL hu,a9,hvx,hvz,g1,dl]
  exact⟨.value (.tuple #[]),.tuple #[],w',E',.tup [],_,nx,hexec _ _ hrun,.inl rfl,g2,g3,g4,hf.of (bj _) (λb' n hb'=>g5 b' n (by have:=hh.dom _ _ hb;omega)) g6 g7,fB _ _,hk⟩
theorem tw{P:Program}{t:TypeId}{m k x:Operand}{T:Tm}{H:Hp}{nx:Nat}{K:AV->Hp->Nat->Prop}(h:cJ P (.mapUpdate t m k x) T H nx K):cJ P (.insert t m k x) T H nx K:=by
 refine⟨by intro c;simp,?_⟩;rintro rr E w a ⟨dst,op,type,pos,after,guard⟩ next Q ho hE hh hf htm hn;simp only at ho;subst ho;have:=h.2 rr E w a ⟨dst,.mapUpdate t m k x,type,pos,after,guard⟩ next Q rfl hE hh hf htm hn;have e:execOp a.eval ⟨dst,.insert t m k x,type,pos,after,guard⟩=execOp a.eval ⟨dst,.mapUpdate t m k x,type,pos,after,guard⟩:=rfl;rw[e];exact this
theorem vH{E:Env}{w:World}{x:AV}{v:Value}(hx:Rel E w x v){k:Nat}(hk:pr x=some k):∃a c,v=.slice a k c/\(0<k->∃b,a=some b):=by
 cases hx with
 |sl=>cases hk;exact⟨_,_,rfl,λ_=>⟨_,rfl⟩⟩
 |msl=>cases hk;exact⟨_,_,rfl,λ_=>⟨_,rfl⟩⟩
 |slnil=>cases hk;exact⟨_,_,rfl,λh=>by simp at h⟩
 |slempty=>cases hk;exact⟨_,_,rfl,λh=>by simp at h⟩
 |msl0 _ _ _ h=>cases hk;rcases h with rfl|⟨_,rfl⟩<;>exact⟨_,_,rfl,λh=>by omega⟩
 |eslnil=>cases hk;exact⟨_,_,rfl,λh=>by omega⟩
 |esl=>cases hk;exact⟨_,_,rfl,λh=>by omega⟩
 |_=>cases hk
def wY(neg:Bool)(k:Nat)(K:AV->Prop):Prop:=(0<k->K (.bool neg))/\(k=0->K (.bool true)/\K (.bool false))
theorem pA{P:Program}{t e ty:TypeId}{x:Operand}{neg:Bool}{T:Tm}{H:Hp}{nx:Nat}{K:AV->Hp->Nat->Prop}{k:Nat}(ht:f0 P t=some e)(hk:pr (ev T x)=some k)
    (h:wY neg k λr=>K r H nx):cJ P (.binOp (if neg=true then .neq else .eql) t x (.const (.slice none 0 0)) ty) T H nx K:=by
 refine aZ (by intro c;simp) ?_;rintro E w a ⟨dst,op,type,pos,after,guard⟩ ho hE hh hf htm;simp only at ho;subst ho;have hxr:=htm x (by simp[Op.operands,Call.operands]);obtain⟨ad,c,hv,hsome⟩:=vH hxr hk;have hu:=gx ht
 have he0:∀d,(Op.equalIn (d+1) t (.slice ad k c) (.slice none 0 0)).run P w=.ok ad.isNone w:=by
  intro d;simp only[Op.equalIn,bg,bL hu,a9];cases ad<;>rfl
 have he:=he0 9999
 have hrun:∀op,op=(if neg=true then BinOp.neq else BinOp.eql)->(do eqGuard op t x (.const (.slice none 0 0)) (.slice ad k c) (.slice none 0 0);binOp op t (.slice ad k c) (.slice none 0 0):Sem Value).run P w=.ok (.bool (if neg=true then !ad.isNone else ad.isNone)) w:=by
  intro op hop;subst hop;rw[bg,fG (by simp) (by simp)];simp only[a9];cases neg with
  |true=>simp only[if_true,binOp,Op.equal,Op.maxDepth,bg,he,a9];rfl
  |false=>simp only[bm,if_false,binOp,Op.equal,Op.maxDepth,bg,he,a9];rfl
 have hexec:(execOp a.eval ⟨dst,.binOp (if neg=true then .neq else .eql) t x (.const (.slice none 0 0)) ty,type,pos,after,guard⟩).run P w=.ok (.value (.bool (if neg=true then !ad.isNone else ad.isNone))) w:=by
  refine dZ ?_;show(do eqGuard _ t x (.const (.slice none 0 0)) (a.eval x) (.slice none 0 0);binOp _ t (a.eval x) (.slice none 0 0):Sem Value).run P w=_;rw[hv];exact hrun _ rfl
 refine⟨_,.bool (if neg=true then !ad.isNone else ad.isNone),w,E,.bool (if neg=true then !ad.isNone else ad.isNone),H,nx,hexec,.inl rfl,Ext.refl _ _,hE,hh,hf,.bool _,?_⟩;by_cases hk0:k=0
 ·obtain⟨h1,h2⟩:=h.2 hk0;cases neg<;>cases ad<;>first|exact h1|exact h2
 ·obtain⟨b,rfl⟩:=hsome (by omega);have:=h.1 (by omega);cases neg<;>exact this
theorem xF{P:Program}{t e:TypeId}{x:Operand}{T:Tm}{H:Hp}{nx:Nat}{K:AV->Hp->Nat->Prop}{n b n' off:Nat}{cs:List AV}(hu:P.underlying t=some (.array n e))(he:tok P e=true)(h0:0<n)(hx:ev T x=.ptr b n' off)(hb:H b=some cs)(hn:cs.length=n')(hf:off+n*P.cellsOf e=n')
    (hk:K (.msl b n' (P.cellsOf e) off n) H nx):cJ P (.slice t x none none none) T H nx K:=by
 refine aZ (by intro c;simp) ?_;rintro E w a ⟨dst,op,type,pos,after,guard⟩ ho hE hh hf' htm;simp only at ho;subst ho;have hxr:=htm x (by simp[Op.operands]);rw[hx] at hxr;generalize hvx:a.eval x=vx at hxr;cases hxr with
 |ptr _ _ _ blk sz hm=>
 have hle:n'<=sz:=by
  subst hn;rcases hh.box b cs hb with h|⟨blk',sz',hbx⟩
  ·rw[h] at hm;cases hm
  ·have:=hbx.mu;rw[hm] at this;cases this;obtain⟨vals,ty,fz,_,_,h1,h2,_⟩:=hbx.cells;exact h2
 have hb2:=bQ (P:=P) (E:=E) (w:=w) (lo:=none) (hi:=none) (vlo:=none) (vhi:=none) (isS:=false) (len:=n) (cap:=n) (l:=0) (h:=n) (λ_ h=>by cases h) (λ_=>rfl) (λ_ h=>by cases h) (λ_=>rfl) rfl rfl (bZ _) (bj _);have hsz:=aE (P:=P) he w
 have hrun:(Instr.sliceAt t (.pointer (some ⟨blk,off,none⟩)) none none none).run P w=.ok (.slice (some ⟨blk,off,none⟩) n n) w:=by
  have hne:n≠0:=by omega
  simp[Instr.sliceAt,bL hu,hb2,hsz,Instr.sureAddr,hne,bX]
 refine⟨.value (.slice (some ⟨blk,off,none⟩) n n),.slice (some ⟨blk,off,none⟩) n n,w,E,_,H,nx,?_,.inl rfl,Ext.refl _ _,hE,hh,hf',.msl _ _ _ _ _ blk sz n hm (bj _) (by omega) (by omega),hk⟩;refine dZ ?_;show(Instr.sliceAt t (a.eval x) none none none).run P w=_;rw[hvx];exact hrun
def dW(b:UInt8):AV:=.int .u8 (b.toNat:Int)
theorem yi{P:Program}{s d e:TypeId}{x:Operand}{T:Tm}{H:Hp}{nx:Nat}{K:AV->Hp->Nat->Prop}{bs:ByteArray}(hs:P.underlying s=some .string)(hd:P.underlying d=some (.slice e))(he:P.underlying e=some (.int .u8))(hx:ev T x=.str bs)
    (h0:bs.size=0->K (.sl 1 []) H nx) (h1:bs.size≠0->K (.msl nx bs.size 1 0 bs.size) (ah H nx (bs.data.toList.map dW)) (nx+1)):cJ P (.convert s d x) T H nx K:=by
 refine aZ (by intro c;simp) ?_;rintro E w a ⟨dst,op,type,pos,after,guard⟩ ho hE hh hf htm;simp only at ho;subst ho;have hxr:=htm x (by simp[Op.operands,Call.operands]);rw[hx] at hxr;generalize hv:a.eval x=vx at hxr;cases hxr;have hrun:=run_bytes_of_string (P:=P) w s d e bs hs hd he
 have hexec:(execOp a.eval ⟨dst,.convert s d x,type,pos,after,guard⟩).run P w=.ok (.value (.slice (some ⟨w.heap.size,0,none⟩) bs.size (grownCap w bs.size 0 e))) (w.drew.alloc (.cells (bytesRow bs (grownCap w bs.size 0 e)) e ((bytesRow bs (grownCap w bs.size 0 e)).size,(bytesRow bs (grownCap w bs.size 0 e)).size+1))):=by
  unfold execOp;simp only[hv,bg,hrun,a9,dl]
 have hge:=grownCap_ge w bs.size 0 e;generalize hcap:grownCap w bs.size 0 e=cap at *;have hdr:w.drew.heap=w.heap:=rfl;have hEd:=hE.drew;have hhd:=hh.same (w':=w.drew) hdr;have hext0:Ext E w E w.drew:=Ext.same hdr
 have hsz:(bytesRow bs cap).size=cap:=by
  have:bs.data.size=bs.size:=rfl;simp[bytesRow];omega
 by_cases hz:bs.size=0
 ·refine⟨_,_,_,E,.sl 1 [],H,nx,hexec,.inl rfl,hext0.trans (Ext.alloc E w.drew _ hEd),hEd.alloc hhd.size _,hhd.alloc hEd _,hf,?_,h0 hz⟩;rw[hz];exact .slempty _ _ _
 ·have hlen:(bs.data.toList.map dW).length=bs.size:=by simp
  obtain⟨E',q1,q2,q3,q4,q5,q6,q7,q8⟩:=hhd.placeZ hEd (b:=nx) (nx':=nx+1) (cs':=bs.data.toList.map dW) (sZ _) (Nat.le_succ _) (λm y hm=>by rw[(hf nx (bj _)).1] at hm;cases hm) (hf nx (bj _)).2.1
   (bytesRow bs cap) e ((bytesRow bs cap).size,(bytesRow bs cap).size + 1) (fun j hj h=>by simp only at h; omega) (by rw [hlen,hsz]; exact hge) (fun i y hi=>by
    rw[nJ] at hi;cases hb:bs.data.toList[i]? with
    |none=>rw[hb] at hi;cases hi
    |some b=>
     rw[hb] at hi;cases hi
     have hi':i<bs.data.size:=by
      have:=(bJ.1 hb).1;simpa using this
     refine⟨_,bytesRow_at bs cap i hi',rfl,?_⟩
     have:bs.data[i]=b:=by
      have:=(bJ.1 hb).2;simpa using this
     rw[this];exact .int _ _)
  refine⟨_,_,_,E',.msl nx bs.size 1 0 bs.size,_,nx+1,hexec,.inl rfl,hext0.trans q1,q2,q3,hf.of (Nat.le_succ _) (λb n hb=>q6 b n (by omega)) q7 q8,?_,h1 hz⟩;rw[hlen,hsz] at q4;exact .msl nx bs.size 1 0 bs.size w.heap.size cap cap q4 hge (by omega) (by omega)
theorem vA{E:Env}{H:Hp}{nx n:Nat}{w:World}(hh:HeapOk E H nx w){x:AV}{v:Value}(hr:Rel E w x v){bs:List UInt8}(h:fV 1 H x=some (n,bs.map dW)):
    (bs=[]/\∃c,v=.slice none 0 c)\/ ∃(a:Addr)(cap:Nat),v=.slice (some a) bs.length cap/\∀(j:Nat)(hj:j<bs.length),w.cell? (a.add j)=some (.int .u8 (bs[j].toNat:Int)):=by
 have hnil:∀{bs:List UInt8},[]=bs.map dW->bs=[]:=λh=>by
  rw[eq_comm,List.map_eq_nil_iff] at h;exact h
 cases hr with
 |eslnil=>
  simp only[fV,jD,Prod.mk.injEq] at h;exact .inl ⟨hnil h.2,0,rfl⟩
 |esl a=>
  simp only[fV,jD,Prod.mk.injEq] at h;have:=hnil h.2;subst this;exact .inr ⟨_,_,rfl,λj hj=>absurd hj (by simp)⟩
 |slnil sz=>
  simp only[fV,or_true,if_true,jD,Prod.mk.injEq,List.flatMap_nil] at h;exact .inl ⟨hnil h.2,0,rfl⟩
 |slempty sz a cap=>
  simp only[fV,or_true,if_true,jD,Prod.mk.injEq,List.flatMap_nil] at h;have:=hnil h.2;subst this;exact .inr ⟨_,_,rfl,λj hj=>absurd hj (by simp)⟩
 |sl sz elems blk o cap vals hi hlen hsz hc hr'=>
  simp only[fV] at h;split at h
  case isFalse=>cases h
  case isTrue hsz1=>
  simp only[jD,Prod.mk.injEq] at h;obtain⟨rfl,h2⟩:=h;by_cases he:elems=[]
  ·subst he;have:=hnil h2;subst this;exact .inr ⟨_,_,rfl,λj hj=>absurd hj (by simp)⟩
  have hs1:sz=1:=hsz1.resolve_right he;subst hs1;obtain⟨f1,f2⟩:=eH elems hsz;have hll:elems.length=bs.length:=by rw[h2] at f1;simpa using f1.symm
  refine .inr ⟨⟨blk,o,none⟩,cap,by rw[hll],λj hj=>?_⟩;rw[bX,hc j (by omega)];have hg:(elems.flatMap AV.cells)[j]?=some (dW bs[j]):=by rw[h2];simp[hj]
  obtain⟨i,k,y,e1,e2,e3,e4⟩:=f2 j _ hg;have hk:k=0:=by omega
  subst hk;have:=hr' i 0 y _ e3 e4;rw[<-e1] at this;unfold dW at this;generalize vals j=u at this;cases this;rfl
 |msl b m sz off len blk bsz cap hm hl hcap hn=>
  simp only[fV] at h;split at h
  ·rename_i h0;subst h0;simp only[jD,Prod.mk.injEq] at h;have:=hnil h.2;subst this;exact .inr ⟨_,_,rfl,λj hj=>absurd hj (by simp)⟩
  ·split at h
   ·rename_i cs hb;split at h
    case isFalse=>cases h
    case isTrue hc=>
    obtain⟨hc1,rfl,hc3⟩:=hc;simp only[jD,Prod.mk.injEq] at h;obtain⟨rfl,h2⟩:=h
    have hbl:bs.length=len:=by
     have:=congrArg List.length h2;simp at this;omega
    rcases hh.box b cs hb with hno|⟨blk',sz',hx⟩
    ·rw[hc1,hm] at hno;cases hno
    ·have:=hx.mu;rw[hc1,hm] at this;cases this;obtain⟨vals,ty,fz,k1,kz,k2,k3,k4⟩:=hx.cells;refine .inr ⟨⟨blk,off,none⟩,cap,by rw[hbl],λj hj=>?_⟩
     have hg:cs[off+j]?=some (dW bs[j]):=by
      have e:((cs.drop off).take (len*1))[j]?=some (dW bs[j]):=by rw[h2];simp[hj]
      rw[jb] at e;split at e
      ·rw[kS] at e;exact e
      ·cases e
     obtain⟨v,e1,e2,e3⟩:=k4 _ _ hg;rw[bX];unfold dW at e3;cases e3;exact cell?_of_heap k1 e1
   ·cases h
 |msl0 b sz v hv=>
  simp only[fV,if_true,jD,Prod.mk.injEq] at h;have:=hnil h.2;subst this;rcases hv with rfl|⟨blk,o,rfl⟩
  ·exact .inl ⟨rfl,0,rfl⟩
  ·exact .inr ⟨_,_,rfl,λj hj=>absurd hj (by simp)⟩
 |_=>simp[fV] at h
theorem yp{P:Program}{s d e:TypeId}{x:Operand}{T:Tm}{H:Hp}{nx n:Nat}{K:AV->Hp->Nat->Prop}{bs:List UInt8}(hs:P.underlying s=some (.slice e))(he:P.underlying e=some (.int .u8))(hd:P.underlying d=some .string)(hx:fV 1 H (ev T x)=some (n,bs.map dW))
    (hk:K (.str ⟨bs.toArray⟩) H nx):cJ P (.convert s d x) T H nx K:=by
 refine aZ (by intro c;simp) ?_;rintro E w a ⟨dst,op,type,pos,after,guard⟩ ho hE hh hf htm;simp only at ho;subst ho;have hxr:=htm x (by simp[Op.operands,Call.operands])
 have hrun:(convert s d (a.eval x)).run P w=.ok (.string ⟨bs.toArray⟩) w:=by
  rcases vA hh hxr hx with⟨rfl,c,hv⟩|⟨ad,cap,hv,hc⟩
  ·rw[hv,run_convert_bytes_nil (w:=w) s e hs he 0 c d hd];rfl
  ·rw[hv];exact run_convert_bytes_back w s d e ad cap bs hs he hd hc
 refine⟨.value (.string ⟨bs.toArray⟩),_,w,E,_,H,nx,?_,.inl rfl,Ext.refl _ _,hE,hh,hf,.str _,hk⟩;unfold execOp;simp only[bg,hrun,a9,dl]
theorem tV{P:Program}{f:Operand}{args:Array Operand}{ts:Array TypeId}{T:Tm}{H:Hp}{nx:Nat}{K:AV->Hp->Nat->Prop}{g:FuncId}{fs:List AV}(hf:ev T f=.bfn g fs)(h:Fn P g (fs++args.toList.map (ev T)) H nx K):
    cJ P (.call {callee:=.value f,args:=args,argTypes:=ts}) T H nx K:=by
 refine⟨by intro c;simp,?_⟩;rintro rr E w a ⟨dst,op,type,pos,after,guard⟩ next Q ho hE hh hfr ht hn;simp only at ho;subst ho;have hr:=ht f (by simp[Op.operands,Call.operands]);rw[hf] at hr;generalize hv:a.eval f=vf at hr;cases hr with
 |bfn _ _ cv hl hcr=>
 have hargs:cX E w (fs++args.toList.map (ev T)) (cv++args.toList.map a.eval):=by
  have ha:=u4 (E:=E) (w:=w) (T:=T) (a:=a) args.toList (λx hx=>ht x (by simp only[Op.operands,Call.operands];exact rC.2 (.inr (by simpa using hx))));refine⟨by simp[hl],λj x y hx hy=>?_⟩;rw[List.getElem?_append] at hx hy;rw[hl] at hy;split at hx
  ·rename_i hlt;rw[if_pos hlt] at hy;exact hcr _ _ _ hx hy
  ·rename_i hlt;rw[if_neg hlt] at hy;exact ha.2 _ _ _ hx hy
 have hcalls:=h.2 E w _ hE hh hfr hargs
 have hrun:(execOp a.eval ⟨dst,.call {callee:=.value f,args:=args,argTypes:=ts},type,pos,after,guard⟩).run P w=.ok (.enter g (cv++args.toList.map a.eval).toArray) w:=by
  unfold execOp;simp only[resolve,hv,Deferred.ofValue,invoke,bg,dl,a9]
  have:cv.toArray++args.map a.eval++ #[]=(cv++args.toList.map a.eval).toArray:=by
   rw[ii];simp
  rw[this];exact jJ h.1 _ w
 rw[hrun,Oper.uponIn_enter];refine⟨(λh=>by cases h),?_⟩;refine(j6 hcalls).mono ?_;rintro e w' ⟨v,E',r,H',nx',rfl,he,hE',hH',hf',hrel,hk⟩;exact hn E' H' nx' r v w' he hE' hH' hf' hrel hk
def py(ck:Nat)(r:Option Nat)(bs:List Nat):List Nat:=match r with|some _=>bs|none=>bs++[ck]
def tY(ck:Nat)(r:Option Nat):Nat:=match r with|some _=>ck|none=>ck+1
def mX{α:Type}(r:Option Nat)(l:List α):List α:=match r with|some i=>l.eraseIdx i|none=>l
theorem qo{P:Program}{t:TypeId}{r:Option Operand}{T:Tm}{H:Hp}{nx:Nat}{K:AV->Hp->Nat->Prop}(ht:r=none\/ ∃x n k p,r=some x/\ev T x=.int k n/\gV P t=some p)
    (h:K (.mp nx) (ah H nx [.bmap [] [] [] 0]) (nx+1)):cJ P (.makeMap t r) T H nx K:=by
 refine aZ (by intro c;simp) ?_;rintro E w a ⟨dst,op,type,pos,after,guard⟩ ho hE hh hf htm;simp only at ho;subst ho;obtain⟨E',hE',he,hEo,hh',hs,hnew⟩:=qK hE hh (hf nx (bj _)) (.map #[] 0) rfl (by intro ds;simp);have hspm:=hEo.spm nx _ hs;refine⟨.value (.map (some w.heap.size)),.map (some w.heap.size),w.alloc (.map #[] 0),E',.mp nx,_,nx+1,?_,.inl rfl,he,hEo,hh'.addSp (x:=.bmap [] [] [] 0) (sZ _) hspm hs ⟨#[],hnew,⟨rfl,rfl,rfl,by simp,by simp,by simp,List.nodup_nil,by simp⟩⟩,hf.sp hE',.mp _ _ hs,h⟩;refine dZ ?_;rcases ht with rfl|⟨x,n,k,p,rfl,hx,hp⟩
 ·simp only[Option.map_none,Instr.makeMap,bg,run_newObj_alloc,a9];rfl
 ·have hr:=htm x (by simp[Op.operands,Call.operands]);rw[hx] at hr;generalize hvx:a.eval x=vx at hr;cases hr;have hu:=fu (P:=P) (t:=t) (k:=p.1) (e:=p.2) hp;simp only[ko,hvx,Instr.makeMap,bg,bL hu,asInt,dl,run_newObj_alloc,a9];rfl
theorem jO{E:Env}{H:Hp}{nx:Nat}{w:World}(hh:HeapOk E H nx w){b k:Nat}{ks vs:List AV}{bs:List Nat}{ck:Nat}(hb:H b=some [.bmap ks vs bs ck])(hs:E.sp b=some k):∃es,w.heap[k]?=some (.map es ck)/\MapB E w ks vs bs ck es:=by
 obtain⟨k',h1,es,h2,h3⟩:=hh.spec b _ hb rfl;rw[hs] at h1;cases h1;exact⟨es,h2,h3⟩
theorem u7{E:Env}{H:Hp}{nx:Nat}{w:World}(hE:EnvOk E w)(hh:HeapOk E H nx w){b k:Nat}{ks vs ks' vs':List AV}{bs bs':List Nat}{ck ck':Nat}{es es':Array MapEntry}(hb:H b=some [.bmap ks vs bs ck])(hs:E.sp b=some k)(hw:w.heap[k]?=some (.map es ck))
    (hm:MapB E w ks' vs' bs' ck' es'):Ext E w E (w.putObj k (.map es' ck'))/\EnvOk E (w.putObj k (.map es' ck'))/\HeapOk E (ah H b [.bmap ks' vs' bs' ck']) nx (w.putObj k (.map es' ck')):=by
 have hlp:∀r T,E.lp b=some (r,T)->False:=by
  intro r T h;obtain⟨k',st,p,h1,h2,_⟩:=hE.lp b r T h;rw[hs] at h1;cases h1;rw[hw] at h2;cases h2
 obtain⟨q1,q2,q3⟩:=nu hE (hh.del b) hs hw (o':=.map es' ck') rfl rfl (by intro ds;simp) (by intro ds;simp) (λr T h=>(hlp r T h).elim) (λx hx=>by rw[gm] at hx;cases hx);refine⟨q1,q2,?_⟩
 have hH:ah (e8 H b) b [.bmap ks' vs' bs' ck']=ah H b [.bmap ks' vs' bs' ck']:=by
  funext y;unfold ah e8;split<;>rfl
 rw[<-hH];exact q3.addSp (hh.dom _ _ hb) (q2.spm b k hs) hs ⟨es',x7 (gR.1 hw).1,hm.ext q1⟩
theorem ns{P:Program}{t kt et:TypeId}{m k x:Operand}{T:Tm}{H:Hp}{nx b:Nat}{K:AV->Hp->Nat->Prop}{mk:MK}{ks vs:List AV}{bs:List Nat}{ck:Nat}{r:Option Nat}(ht:gV P t=some (kt,et))(hk:mkk P kt=some mk)
    (hm:ev T m=.mp b) (hb:H b=some [.bmap ks vs bs ck]) (hfit:lf mk (ev T k)=true) (hr:dE mk (ev T k) ks=some r)
    (h:K (.tup []) (ah H b [.bmap (dD (ev T k) r ks) (fY (ev T x) r vs) (py ck r bs) (tY ck r)]) nx):cJ P (.mapUpdate t m k x) T H nx K:=by
 refine aZ (by intro c;simp) ?_;rintro E w a ⟨dst,op,type,pos,after,guard⟩ ho hE hh hf htm;simp only at ho;subst ho;have hmr:=htm m (by simp[Op.operands,Call.operands]);have hkr:=htm k (by simp[Op.operands,Call.operands]);have hxr:=htm x (by simp[Op.operands,Call.operands]);rw[hm] at hmr;generalize hvm:a.eval m=vm at hmr;cases hmr with
 |mp _ kb hs=>
 obtain⟨es,hw,hok⟩:=jO hh hb hs;have hck:=e7 (P:=P) (w:=w) hk hkr hfit false;have hfk:=eD (P:=P) (es:=es.toList) (ks:=ks) hk hkr (by simpa using hok.len) (λj y e h1 h2=>hok.key j y e h1 (by simpa using h2)) hr;have hu:=fu ht
 have key:∃es',(Instr.mapUpdate t (.map (some kb)) (a.eval k) (a.eval x)).run P w=.ok () (w.putObj kb (.map es' (tY ck r)))/\MapB E w (dD (ev T k) r ks) (fY (ev T x) r vs) (py ck r bs) (tY ck r) es':=by
  unfold Instr.mapUpdate;simp only[bg,bL hu,a9,bK hw rfl,hck,hfk];cases r with
  |none=>
   simp only[jE,Option.map_none,dv hw rfl];refine⟨_,rfl,?_⟩;have hl:=hok.len;have hl':=hok.len';have hbl:=hok.blen;refine⟨by simp[dD,hl],by simp[fY,dD,hl'],by simp[py,dD,hbl],λi y e h1 h2=>?_,λi y e h1 h2=>?_,λi e h1=>?_,?_,?_⟩
   ·simp only[dD] at h1;rw[sB] at h2;split at h2
    ·rename_i he;cases h2;rw[he,hl,ij (bj _)] at h1;simp at h1;subst h1;exact hkr
    ·rename_i hne;have hlt:i<es.size:=(gR.1 h2).1;rw[gH (by omega)] at h1;exact hok.key i y e h1 h2
   ·simp only[fY] at h1;rw[sB] at h2;split at h2
    ·rename_i he;cases h2;rw[he,hl,ij (by omega)] at h1;simp[hl'] at h1;subst h1;exact hxr
    ·rename_i hne;have hlt:i<es.size:=(gR.1 h2).1;rw[gH (by omega)] at h1;exact hok.val i y e h1 h2
   ·simp only[py];rw[sB] at h1;split at h1
    ·rename_i he;cases h1;rw[he,hl,ij (by omega)];simp[hbl]
    ·have:=hok.born i e h1;have hlt:i<es.size:=(gR.1 h1).1;rw[gH (by omega)];exact this
   ·simp only[py];refine List.nodup_append.2 ⟨hok.nd,by simp,λa ha c hc=>?_⟩;simp at hc;subst hc;have:=hok.lt a ha;omega
   ·simp only[py,tY];intro y hy;rcases th.1 hy with h'|h'
    ·have:=hok.lt y h';omega
    ·simp at h';omega
  |some i=>
   obtain⟨y,hy,hsame⟩:=fv hr;have hlt:i<es.size:=by have:=(bJ.1 hy).1;have:=hok.len;omega
   have hbits:=l8 hkr (hok.key i y es[i] hy (by simp[hlt])) hsame
   have ec:(Instr.keyThatStays (((es[i]?).map (·.key)).getD (a.eval k)) (a.eval k)).run P w=.ok (a.eval k) w:=by
    unfold Instr.keyThatStays;simp only[hlt,x8,ko,u5];rw[if_pos hbits];rfl
   simp only[jE,ko,eF,bg,ec,a9,dv hw rfl];refine⟨_,rfl,?_⟩
   have hmod:∀j e,(es.modify i λe=>{e with key:=a.eval k,val:=a.eval x})[j]?=some e->∃e0,es[j]?=some e0/\((i=j/\e={e0 with key:=a.eval k,val:=a.eval x})\/(i≠j/\e=e0)):=by
    intro j e he;rw[Array.getElem?_modify] at he;split at he
    ·rename_i hij;cases h0:es[j]? with
     |none=>rw[h0] at he;cases he
     |some e0=>rw[h0] at he;cases he;exact⟨e0,rfl,.inl ⟨hij,rfl⟩⟩
    ·rename_i hij;exact⟨e,he,.inr ⟨hij,rfl⟩⟩
   refine⟨by simp[dD,hok.len],by simp[fY,dD,hok.len'],hok.blen,λj z e h1 h2=>?_,λj z e h1 h2=>?_,λj e h1=>?_,hok.nd,hok.lt⟩
   ·obtain⟨e0,k1,(⟨rfl,rfl⟩|⟨hne,rfl⟩)⟩:=hmod j e h2
    ·simp only[dD] at h1;rw[hy] at h1;cases h1;rw[<-qB hsame];exact hkr
    ·exact hok.key j z e h1 k1
   ·obtain⟨e0,k1,(⟨rfl,rfl⟩|⟨hne,rfl⟩)⟩:=hmod j e h2
    ·simp only[fY] at h1;have:i<vs.length:=by have:=hok.len';have:=hok.len;omega
     rw[List.getElem?_set_self this] at h1;cases h1;exact hxr
    ·simp only[fY] at h1;rw[List.getElem?_set_ne hne] at h1;exact hok.val j z e h1 k1
   ·obtain⟨e0,k1,(⟨rfl,rfl⟩|⟨hne,rfl⟩)⟩:=hmod j e h1
    ·exact hok.born i e0 k1
    ·exact hok.born j e k1
 obtain⟨es',hrun,hok'⟩:=key;obtain⟨q1,q2,q3⟩:=u7 hE hh hb hs hw hok';refine⟨.skip,Go.undef,_,E,.tup [],_,nx,?_,.inr ⟨rfl,rfl⟩,q1,q2,q3,hf,fB _ _,h⟩;refine nW ?_;show(Instr.mapUpdate t (a.eval m) (a.eval k) (a.eval x)).run P w=_;rw[hvm];exact hrun
theorem lW{P:Program}{t kt et:TypeId}{m k:Operand}{ok:Bool}{T:Tm}{H:Hp}{nx b:Nat}{K:AV->Hp->Nat->Prop}{mk:MK}{ks vs:List AV}{bs:List Nat}{ck:Nat}{r:Option Nat}{z:AV}(ht:gV P t=some (kt,et))(hk:mkk P kt=some mk)(hz:eO P et=some z)
    (hm:ev T m=.mp b) (hb:H b=some [.bmap ks vs bs ck]) (hfit:lf mk (ev T k)=true) (hr:dE mk (ev T k) ks=some r)
    (h:K (mget z ok r vs) H nx):cJ P (.lookup t m k ok) T H nx K:=by
 refine aZ (by intro c;simp) ?_;rintro E w a ⟨dst,op,type,pos,after,guard⟩ ho hE hh hf htm;simp only at ho;subst ho;have hmr:=htm m (by simp[Op.operands,Call.operands]);have hkr:=htm k (by simp[Op.operands,Call.operands]);rw[hm] at hmr;generalize hvm:a.eval m=vm at hmr;cases hmr with
 |mp _ kb hs=>
 obtain⟨es,hw,hok⟩:=jO hh hb hs;have hck:=e7 (P:=P) (w:=w) hk hkr hfit es.isEmpty;have hfk:=eD (P:=P) (es:=es.toList) (ks:=ks) hk hkr (by simpa using hok.len) (λj y e h1 h2=>hok.key j y e h1 (by simpa using h2)) hr;have hu:=fu ht;obtain⟨vz,hvz,hrz⟩:=dM hz
 have key:∃v,(Instr.lookup t (.map (some kb)) (a.eval k) ok).run P w=.ok v w/\Rel E w (mget z ok r vs) v:=by
  unfold Instr.lookup;simp only[bg,bL hu,a9,bK hw rfl,dl,hck,hfk];cases r with
  |none=>
   simp only[jE,Option.map_none,bg,hvz,a9,dl];refine⟨_,rfl,?_⟩;unfold mget;cases ok with
   |true=>exact jg (hrz E w) (.bool _)
   |false=>exact hrz E w
  |some i=>
   obtain⟨y,hy,hsame⟩:=fv hr;have hlt:i<es.size:=by have:=(bJ.1 hy).1;have:=hok.len;omega
   have hlv:i<vs.length:=by have:=hok.len';have:=hok.len;omega
   simp only[jE,ko,dl,a9];refine⟨_,rfl,?_⟩;have e1:es.toList.getD i default=es[i]:=by simp[List.getD,hlt]
   have e2:vs.getD i .undef=vs[i]:=by simp[List.getD,hlv]
   have hrel:=hok.val i vs[i] es[i] (by simp[hlv]) (by simp[hlt]);rw[e1];cases ok with
   |true=>
    show Rel E w (.tup [vs.getD i .undef,.bool true]) _;rw[e2];exact jg hrel (.bool _)
   |false=>
    show Rel E w (vs.getD i .undef) _;rw[e2];exact hrel
 obtain⟨v,hrun,hrel⟩:=key;refine⟨.value v,v,w,E,_,H,nx,?_,.inl rfl,Ext.refl _ _,hE,hh,hf,hrel,h⟩;refine dZ ?_;show(Instr.lookup t (a.eval m) (a.eval k) ok).run P w=_;rw[hvm];exact hrun
theorem nB{α:Type}{l:List α}{i j:Nat}{x:α}(h:(l.eraseIdx i)[j]?=some x):l[if j<i then j else j+1]?=some x:=by
 rw[List.getElem?_eraseIdx] at h;split at h
 ·rename_i hh;rw[if_pos hh];exact h
 ·rename_i hh;rw[if_neg hh];exact h
theorem ro{P:Program}{t kt et:TypeId}{tk:TypeId}{m k:Operand}{T:Tm}{H:Hp}{nx b:Nat}{K:AV->Hp->Nat->Prop}{mk:MK}{ks vs:List AV}{bs:List Nat}{ck:Nat}{r:Option Nat}(ht:gV P t=some (kt,et))(hk:mkk P kt=some mk)
    (hm:ev T m=.mp b) (hb:H b=some [.bmap ks vs bs ck]) (hfit:lf mk (ev T k)=true) (hr:dE mk (ev T k) ks=some r)
    (h:K (.tup []) (ah H b [.bmap (mX r ks) (mX r vs) (mX r bs) ck]) nx):cJ P (.call {callee:=.builtin .delete,args:=#[m,k],argTypes:=#[t,tk]}) T H nx K:=by
 refine aZ (by intro c;simp) ?_;rintro E w a ⟨dst,op,type,pos,after,guard⟩ ho hE hh hf htm;simp only at ho;subst ho;have hmr:=htm m (by simp[Op.operands,Call.operands]);have hkr:=htm k (by simp[Op.operands,Call.operands]);rw[hm] at hmr;generalize hvm:a.eval m=vm at hmr;cases hmr with
 |mp _ kb hs=>
 obtain⟨es,hw,hok⟩:=jO hh hb hs;have hck:=e7 (P:=P) (w:=w) hk hkr hfit es.isEmpty;have hfk:=eD (P:=P) (es:=es.toList) (ks:=ks) hk hkr (by simpa using hok.len) (λj y e h1 h2=>hok.key j y e h1 (by simpa using h2)) hr;have hu:=fu ht;have hl:=hok.len;have hl':=hok.len';have hbl:=hok.blen
 have key:∃es',(Builtin.delete_ #[t,tk] type #[.map (some kb),a.eval k]).run P w=.ok (.tuple #[]) (w.putObj kb (.map es' ck))/\MapB E w (mX r ks) (mX r vs) (mX r bs) ck es':=by
  unfold Builtin.delete_;cases r with
  |none=>
   refine⟨es,?_,hok⟩;simp[bL hu,bK hw rfl,hck,hfk,jE,dv hw rfl]
  |some i=>
   obtain⟨y,hy,hsame⟩:=fv hr;have hlt:i<es.size:=by have:=(bJ.1 hy).1;omega
   have he:∀(j:Nat)(e:MapEntry),(es.eraseIdxIfInBounds i)[j]?=some e->es[if j<i then j else j+1]?=some e:=λj e h=>by
    rw[Array.eraseIdxIfInBounds_eq,dif_pos hlt] at h;have h2:((es.eraseIdx i hlt).toList)[j]?=some e:=by rw[Array.getElem?_toList];exact h
    rw[Array.toList_eraseIdx] at h2;simpa using nB h2
   refine⟨es.eraseIdxIfInBounds i,?_,⟨?_,?_,?_,λj x e h1 h2=>hok.key _ x e (nB h1) (he j e h2),λj x e h1 h2=>hok.val _ x e (nB h1) (he j e h2),λj e h1=>?_,hok.nd.sublist (List.eraseIdx_sublist ..),λy hy=>hok.lt y (List.mem_of_mem_eraseIdx hy)⟩⟩
   ·simp[bL hu,bK hw rfl,hck,hfk,jE,dv hw rfl]
   ·show(es.eraseIdxIfInBounds i).size=(ks.eraseIdx i).length;rw[Array.eraseIdxIfInBounds_eq,dif_pos hlt,Array.size_eraseIdx,List.length_eraseIdx,if_pos (by omega),hl]
   ·show(vs.eraseIdx i).length=(ks.eraseIdx i).length;rw[List.length_eraseIdx,List.length_eraseIdx,if_pos (by omega),if_pos (by omega),hl']
   ·show(bs.eraseIdx i).length=(ks.eraseIdx i).length;rw[List.length_eraseIdx,List.length_eraseIdx,if_pos (by omega),if_pos (by omega),hbl]
   ·have:=hok.born _ e (he j e h1);show(bs.eraseIdx i)[j]?=some e.born;rw[List.getElem?_eraseIdx];split at this<;>(rename_i hh;first|rw[if_pos hh]|rw[if_neg hh])<;>exact this
 obtain⟨es',hrun,hok'⟩:=key;obtain⟨q1,q2,q3⟩:=u7 hE hh hb hs hw hok';refine⟨.value (.tuple #[]),.tuple #[],_,E,.tup [],_,nx,?_,.inl rfl,q1,q2,q3,hf,.tup [] [] rfl (λi a b h=>by simp at h),h⟩;simp only[execOp,resolve,invoke,builtin,bg,dl,a9];simp[hvm,hrun]
theorem uv{P:Program}{t:TypeId}{m:Operand}{T:Tm}{H:Hp}{nx b:Nat}{K:AV->Hp->Nat->Prop}{p:TypeId×TypeId}{ks vs:List AV}{bs:List Nat}{ck:Nat}(ht:gV P t=some p)(hm:ev T m=.mp b)(hb:H b=some [.bmap ks vs bs ck])
    (h:K (.int .i64 ks.length) H nx):cJ P (.call {callee:=.builtin .len,args:=#[m],argTypes:=#[t]}) T H nx K:=by
 refine aZ (by intro c;simp) ?_;rintro E w a ⟨dst,op,type,pos,after,guard⟩ ho hE hh hf htm;simp only at ho;subst ho;have hmr:=htm m (by simp[Op.operands,Call.operands]);rw[hm] at hmr;generalize hvm:a.eval m=vm at hmr;cases hmr with
 |mp _ kb hs=>
 obtain⟨es,hw,hok⟩:=jO hh hb hs;have hu:=fu (P:=P) (t:=t) (k:=p.1) (e:=p.2) ht
 have hrun:(Builtin.len_ #[t] type #[.map (some kb)]).run P w=.ok (goInt es.size) w:=by
  unfold Builtin.len_;simp[bL hu,bK hw rfl]
 refine⟨.value (goInt es.size),goInt es.size,w,E,_,H,nx,?_,.inl rfl,Ext.refl _ _,hE,hh,hf,?_,h⟩
 ·simp only[execOp,resolve,invoke,builtin,bg,dl,a9];simp[hvm,hrun]
 ·rw[hok.len];exact .int _ _
theorem rp{P:Program}{t:TypeId}{m:Operand}{T:Tm}{H:Hp}{nx b:Nat}{K:AV->Hp->Nat->Prop}{p:TypeId×TypeId}{ks vs:List AV}{bs:List Nat}{ck:Nat}(ht:gV P t=some p)(hm:ev T m=.mp b)(hb:H b=some [.bmap ks vs bs ck])
    (h:K (.itr nx) (ah H nx [.biter b ck []]) (nx+1)):cJ P (.range t m) T H nx K:=by
 refine aZ (by intro c;simp) ?_;rintro E w a ⟨dst,op,type,pos,after,guard⟩ ho hE hh hf htm;simp only at ho;subst ho;have hmr:=htm m (by simp[Op.operands,Call.operands]);rw[hm] at hmr;generalize hvm:a.eval m=vm at hmr;cases hmr with
 |mp _ kb hs=>
 obtain⟨es,hw,hok⟩:=jO hh hb hs;have hu:=fu (P:=P) (t:=t) (k:=p.1) (e:=p.2) ht;obtain⟨E',hE',he,hEo,hh',hs',hnew⟩:=qK hE hh (hf nx (bj _)) (.mapIter (some kb) ck #[] ck) rfl (by intro ds;simp)
 refine ⟨.value (.pointer (some ⟨w.heap.size,0,none⟩)),.pointer (some ⟨w.heap.size,0,none⟩),w.alloc (.mapIter (some kb) ck #[] ck),E',.itr nx,_,nx + 1,?_,.inl rfl,he,hEo,
  hh'.addSp (x:=.biter b ck []) (sZ _) (hEo.spm nx _ hs') hs' ⟨kb,hnew,he.sp _ _ hs⟩,hf.sp hE',.itr _ _ hs',h⟩
 refine dZ ?_;show(Instr.range t (a.eval m)).run P w=_;rw[hvm];unfold Instr.range;simp only[bg,bL hu,a9,bK hw rfl,dl,run_newObj_alloc]
theorem ug{E:Env}{H:Hp}{nx:Nat}{w:World}(hh:HeapOk E H nx w){b k m n0:Nat}{seen:List Nat}(hb:H b=some [.biter m n0 seen])(hs:E.sp b=some k):
    ∃km,w.heap[k]?=some (.mapIter (some km) n0 seen.toArray n0)/\E.sp m=some km:=by
 obtain⟨k',h1,h2⟩:=hh.spec b _ hb rfl;rw[hs] at h1;cases h1;exact h2
theorem sT{P:Program}{it:Operand}{T:Tm}{H:Hp}{nx b m ck:Nat}{K:AV->Hp->Nat->Prop}{ks vs:List AV}{bs seen:List Nat}(hi:ev T it=.itr b)(hb:H b=some [.biter m ck seen])(hm:H m=some [.bmap ks vs bs ck])
    (h1:∀i s,bs[i]?=some s->s∉seen->K (.tup [.bool true,ks.getD i .undef,vs.getD i .undef]) (ah H b [.biter m ck (seen++[s])]) nx)
    (h2:(∀s∈bs,s∈seen)->K (.tup [.bool false]) H nx):cJ P (.next it false) T H nx K:=by
 refine aZ (by intro c;simp) ?_;rintro E w a ⟨dst,op,type,pos,after,guard⟩ ho hE hh hf htm;simp only at ho;subst ho;have hir:=htm it (by simp[Op.operands,Call.operands]);rw[hi] at hir;generalize hvi:a.eval it=vi at hir;cases hir with
 |itr _ k hs=>
 obtain⟨km,hw,hsm⟩:=ug hh hb hs;obtain⟨es,hwm,hok⟩:=jO hh hm hsm;have hl:=hok.len;have hl':=hok.len';have hbl:=hok.blen;have hbn:∀(i:Nat)(e:MapEntry),es[i]?=some e->e.born<ck:=λi e h=>hok.lt _ (gG (hok.born i e h))
 have hguard:(!seen.toArray.isEmpty&& !es.isEmpty&&es.all (·.born≥ck))=false:=by
  by_cases hz:es.size=0
  ·have:es=#[]:=xP hz;subst this;simp
  ·have h0:=hbn 0 es[0] (by simp)
   have:es.all (·.born≥ck)=false:=by
    rw[Array.all_eq_false];exact⟨0,by omega,by simp;omega⟩
   rw[this];simp
 obtain⟨w1,hw1,hrun⟩:=uS (P:=P) (ty:=type) hw hwm hguard
 have hE1:Ext E w E w1/\EnvOk E w1/\HeapOk E H nx w1/\w1.heap=w.heap:=by
  rcases hw1 with rfl|rfl
  ·exact⟨Ext.refl _ _,hE,hh,rfl⟩
  ·exact⟨Ext.same rfl,hE.drew,hh.same rfl,rfl⟩
 obtain⟨k1,k2,k3,k4⟩:=hE1
 have hexec:∀v w',(Instr.next (.pointer (some ⟨k,0,none⟩)) false type).run P w=.ok v w'->(execOp a.eval ⟨dst,.next it false,type,pos,after,guard⟩).run P w=.ok (.value v) w':=by
  intro v w' h;refine dZ ?_;show(Instr.next (a.eval it) false type).run P w=_;rw[hvi];exact h
 rcases hrun with⟨hold,hrun⟩|⟨e,i,hei,hns,hrun⟩
 ·refine⟨.value (.tuple #[.bool false]),.tuple #[.bool false],w1,E,.tup [.bool false],H,nx,hexec _ _ hrun,.inl rfl,k1,k2,k3,hf,uc (.bool _),h2 (λs hs'=>?_)⟩;rcases Decidable.em (s∈seen) with h|h
  ·exact h
  ·exfalso;obtain⟨i,hib,hie⟩:=wh hs';have hlt:i<es.size:=by omega
   have hb0:=hok.born i es[i] (by simp[hlt])
   have hsb:s=es[i].born:=by
    rw[tC hib,hie] at hb0;exact Option.some.inj hb0
   have hmem:es[i]∈ey es seen ck:=by
    unfold ey;rw[Array.mem_filter];refine⟨Array.mem_filter.2 ⟨Array.getElem_mem hlt,?_⟩,by rw[<-hsb];simpa using hok.lt s hs'⟩;rw[<-hsb];simpa using h
   have:(ey es seen ck).size=0:=by simpa[Array.isEmpty] using hold
   rw[xP this] at hmem;simp at hmem
 ·have hlt:i<es.size:=(gR.1 hei).1;have hb0:=hok.born i e hei;have hni:e.born∉seen:=by simpa using hns
  have hw1k:w1.heap[k]?=some (.mapIter (some km) ck seen.toArray ck):=by rw[k4];exact hw
  have hlp:∀r T,E.lp b=some (r,T)->False:=by
   intro r T h;obtain⟨k',st,p,h1,h2,_⟩:=hE.lp b r T h;rw[hs] at h1;cases h1;rw[hw] at h2;cases h2
  obtain⟨q1,q2,q3⟩:=nu k2 (k3.del b) hs hw1k (o':=.mapIter (some km) ck (seen.toArray.push e.born) ck) rfl rfl (by intro ds;simp) (by intro ds;simp) (λr T h=>(hlp r T h).elim) (λx hx=>by rw[gm] at hx;cases hx)
  have hH:ah (e8 H b) b [.biter m ck (seen++[e.born])]=ah H b [.biter m ck (seen++[e.born])]:=by
   funext y;unfold ah e8;split<;>rfl
  have q4:=q3.addSp (x:=.biter m ck (seen ++ [e.born])) (hh.dom _ _ hb) (q2.spm b k hs) hs ⟨km,by
   rw[x7 (gR.1 hw1k).1];simp,hsm⟩
  rw[hH] at q4;have hkr:=hok.key i (ks.getD i .undef) e (by simp[List.getD,show i<ks.length by omega]) hei;have hvr:=hok.val i (vs.getD i .undef) e (by simp[List.getD,show i<vs.length by omega]) hei
  exact ⟨.value (.tuple #[.bool true,e.key,e.val]),.tuple #[.bool true,e.key,e.val],_,E,.tup [.bool true,ks.getD i .undef,vs.getD i .undef],_,nx,hexec _ _ hrun,.inl rfl,k1.trans q1,q2,q4,hf,
   vh (.bool _) (hkr.ext (k1.trans q1)) (hvr.ext (k1.trans q1)),h1 i e.born hb0 hni⟩
theorem rj{P:Program}{it:Operand}{T:Tm}{H:Hp}{nx b m ck i s:Nat}{K:AV->Hp->Nat->Prop}{ks vs:List AV}{bs seen:List Nat}(hi:ev T it=.itr b)(hb:H b=some [.biter m ck seen])(hm:H m=some [.bmap ks vs bs ck])
    (hl:seen.getLast?=some s) (hbi:bs[i]?=some s) (h:K (.tup [ks.getD i .undef,vs.getD i .undef]) H nx):cJ P (.entry it) T H nx K:=by
 refine aZ (by intro c;simp) ?_;rintro E w a ⟨dst,op,type,pos,after,guard⟩ ho hE hh hf htm;simp only at ho;subst ho;have hir:=htm it (by simp[Op.operands,Call.operands]);rw[hi] at hir;generalize hvi:a.eval it=vi at hir;cases hir with
 |itr _ k hs=>
 obtain⟨km,hw,hsm⟩:=ug hh hb hs;obtain⟨es,hwm,hok⟩:=jO hh hm hsm;have hlen:=hok.len;have hlen':=hok.len';have hbl:=hok.blen;have hib:i<bs.length:=(bJ.1 hbi).1;have hie:i<es.size:=by omega
 have hei:es[i]?=some es[i]:=by simp[hie]
 have hborn:es[i].born=s:=by
  have:=hok.born i es[i] hei;rw[hbi] at this;exact(Option.some.inj this).symm
 have hback:seen.toArray.back?=some s:=by rw[List.back?_toArray,hl]
 have hfind:es.find? (·.born==s)=some es[i]:=by
  cases hf:es.find? (·.born==s) with
  |none=>
   have:=Array.find?_eq_none.1 hf es[i] (Array.getElem_mem hie);rw[hborn] at this;simp at this
  |some e=>
   have h1:=Array.find?_some hf;have h2:=Array.mem_of_find?_eq_some hf;obtain⟨j,hj,rfl⟩:=Array.mem_iff_getElem.1 h2;have h3:=hok.born j es[j] (by simp[hj]);simp only[beq_iff_eq] at h1;rw[h1] at h3;have hj':j<bs.length:=by omega
   have e1:bs[j]=s:=by rw[tC hj'] at h3;exact Option.some.inj h3
   have e2:bs[i]=s:=by rw[tC hib] at hbi;exact Option.some.inj hbi
   have hpw:=List.pairwise_iff_getElem.1 hok.nd
   have:j=i:=by
    rcases zL j i with h'|h'|h'
    ·exact absurd (e1.trans e2.symm) (hpw j i hj' hib h')
    ·exact h'
    ·exact absurd (e2.trans e1.symm) (hpw i j hib hj' h')
   subst this;rfl
 have hclk:(ck !=ck)=false:=by simp
 have hkr:=hok.key i (ks.getD i .undef) es[i] (by simp[List.getD,show i<ks.length by omega]) hei;have hvr:=hok.val i (vs.getD i .undef) es[i] (by simp[List.getD,show i<vs.length by omega]) hei;refine⟨.value (.tuple #[es[i].key,es[i].val]),.tuple #[es[i].key,es[i].val],w,E,.tup [ks.getD i .undef,vs.getD i .undef],H,nx,?_,.inl rfl,Ext.refl _ _,hE,hh,hf,rP hkr hvr,h⟩;refine dZ ?_;show(Instr.entry (a.eval it)).run P w=_;rw[hvi];unfold Instr.entry;simp only[bg,bK hw rfl,bK hwm rfl,a9,hback,hclk,hfind,bm,if_false,dl]
inductive Opd where
 |t (n:Nat)
 |c (v:AV)
 deriving Inhabited
def Opd.of:Operand->Opd
 |.tmp n=>.t n
 |x=>.c (ev (λ_=>.undef) x)
def ov(T:Tm):Opd->AV
 |.t n=>T n
 |.c v=>v
theorem bt{T:Tm}{x:Operand}:ov T (.of x)=ev T x:=by cases x<;>rfl
theorem jk{T:Tm}{l:List Operand}:(l.map Opd.of).map (ov T)=l.map (ev T):=by simp[bt]
theorem ny{T:Tm}{x:Option Operand}:(x.map Opd.of).map (ov T)=x.map (ev T):=by cases x<;>simp[bt]
inductive Ins where
 |dead
 |mov (x:Opd)
 |pick (c a b:Opd)
 |ld1 (a:Opd)
 |ldn (k:Nat) (a:Opd)
 |nilck (x:Opd)
 |bin (op:BinOp) (tb tf:Bool) (x y:Opd)
 |binS (op:BinOp) (ks:List TK) (x y:Opd)
 |un (op:UnOp) (x:Opd)
 |conv (k:IntKind) (x:Opd)
 |mkfn (f:FuncId) (caps:List Opd)
 |mkbf (f:FuncId) (first:List Opd)
 |slsA (n:Nat) (x:Opd) (lo hi:Option Opd)
 |sls (sz:Nat) (x:Opd) (lo hi mx:Option Opd)
 |slstr (x:Opd) (lo hi:Option Opd)
 |fa (k:Nat) (p:Opd)
 |part1 (off:Nat) (x:Opd)
 |partn (off k:Nat) (x:Opd)
 |ixaA (len sz:Nat) (x i:Opd)
 |ixaS (sz:Nat) (x i:Opd)
 |ixA1 (len sz:Nat) (x i:Opd)
 |ixAn (len sz:Nat) (x i:Opd)
 |ixStr (x i:Opd)
 |ext (x:Opd) (i:Nat)
 |bld (z:List AV) (parts:List (Nat×Nat×Opd))
 |lenS (x:Opd)
 |capE (x:Opd)
 |apz (sz bytes:Nat) (z:List AV) (s x:Opd)
 |lenStr (x:Opd)
 |lenC (n:Nat)
 |mx (x:Opd) (l:List Opd)
 |mn (x:Opd) (l:List Opd)
 |alloc (z:AV)
 |box (x:Opd)
 |bldS (sz len:Nat) (z:List AV) (parts:List (Nat×Nat×Opd))
 |mks (sz bytes:Nat) (z:List AV) (l c:Opd)
 |st (k:Nat) (p x:Opd)
 |app (sz bytes:Nat) (s x:Opd)
 |call (f:Opd) (args:List Opd)
 |mkm (h:Option Opd)
 |mput (k:MK) (m key x:Opd)
 |mdel (k:MK) (m key:Opd)
 |mget (k:MK) (z:AV) (ok:Bool) (m key:Opd)
 |mlen (m:Opd)
 |mrng (m:Opd)
 |mnxt (it:Opd)
 |ment (it:Opd)
 |cpy (sz:Nat) (d s:Opd)
 |clr (sz:Nat) (z:AV) (x:Opd)
 |slp (len sz:Nat) (x:Opd)
 |snil (neg:Bool) (x:Opd)
 |s2b (x:Opd)
 |b2s (x:Opd)
 |mplc (k:MK) (z:AV) (m key:Opd)
 |mpst (m s x:Opd)
def xt(P:Program)(t:TypeId):Bool:=match P.underlying t with|some (.func ..)=>true|_=>false
def aX(op:BinOp)(tb tf:Bool)(x y:AV):Option AV:=
 match x,y with
 |.int k a,.int k' b=>if op=.shl\/op=.shr then nL op k a b else if k=k' then dA op k a b else none
 |.bool a,.bool b=>if tb=true then(match op with|.eql=>some (.bool (a==b))|.neq=>some (.bool (!(a==b)))|_=>none) else none
 |.str a,.str b=>nQ op a b
 |.nilf,.nilf=>if tf=true then(match op with|.eql=>some (.bool true)|.neq=>some (.bool false)|_=>none) else none
 |.func _ _,.nilf=>if tf=true then(match op with|.eql=>some (.bool false)|.neq=>some (.bool true)|_=>none) else none
 |_,_=>none
theorem zc{P:Program}{op:BinOp}{t:TypeId}{x y:AV}{r:AV}(h:aX op (xl P t) (xt P t) x y=some r):xD P op t x y=some r:=by
 unfold aX at h;unfold xD;split at h
 ·exact h
 ·exact h
 ·exact h
 ·split at h
  ·rename_i hf;unfold xt at hf;split at hf
   ·rename_i hu;simp only[hu];split at h<;>simp_all
   ·cases hf
  ·cases h
 ·split at h
  ·rename_i hf;unfold xt at hf;split at hf
   ·rename_i hu;simp only[hu];split at h<;>simp_all
   ·cases hf
  ·cases h
 ·cases h
def ja(sz:Nat)(x i:AV):Option AV:=match i with
 |.int _ n=>match x with
  |.sl s elems=>if s=sz/\0<=n/\n<elems.length then some (.iptr (elems.getD n.toNat .undef).cells 0) else none
  |.msl b m s off len=>if s=sz/\0<=n/\n<len then some (.ptr b m (off+n.toNat*s)) else none
  |_=>none
 |_=>none
def xz(sz:Nat)(x:AV)(lo hi mx:Option AV):Option AV:=match x with
 |.sl s elems=>
  match bB 0 lo,bB elems.length hi,mx with
  |some l,some h,none=>if s=sz/\l<=h/\h<=elems.length then some (.sl s ((elems.take h).drop l)) else none
  |some l,some h,some m=>match bB 0 (some m) with
   |some m=>if l=0/\h=0/\m=0 then some .esl else none
   |none=>none
  |_,_,_=>none
 |.esl=>match bB 0 lo,bB 0 hi,mx with
  |some 0,some 0,none=>some .esl
  |_,_,_=>none
 |.msl b n s off len=>
  match bB 0 lo,bB len hi,mx with
  |some l,some h,none=>if s=sz/\l<=h/\h<=len/\n≠0 then(if l=0\/l<h then some (.msl b n s (off+l*s) (h-l)) else some (.sl s [])) else if s=sz/\l<h/\0<s/\off+h*s<=n/\n≠0 then some (.msl b n s (off+l*s) (h-l)) else none
  |some l,some h,some m=>match bB 0 (some m) with
   |some m=>if l=0/\h=0/\m=0 then some .esl else if l<=h/\h<=m/\m<=len/\n≠0 then some .undef else none
   |none=>none
  |_,_,_=>none
 |_=>none
def fw(x:AV)(lo hi:Option AV):Option AV:=match x with
 |.str s=>match bB 0 lo,bB s.size hi with
  |some l,some h=>if l<=h/\h<=s.size then some (.str (s.extract l h)) else none
  |_,_=>none
 |_=>none
def ej(cells:List AV):List (Nat×Nat×AV)->Option (List AV)
 |[]=>some cells
 |(off,size,x)::rest=>if x.flat=true/\x.cells.length=size/\off+size<=cells.length then ej (dr cells off x.cells) rest else none
def dS(x:AV)(f:List AV->Option AV):Option AV:=match x with|.agg cs=>f cs|_=>none
def lH(x:AV)(f:Int->Option AV):Option AV:=match x with|.int _ n=>f n|_=>none
def ef(x:AV):Option AV:=match x with
 |.sl _ elems=>some (.int .i64 elems.length)
 |.esl=>some (.int .i64 0)
 |.msl _ _ _ _ len=>some (.int .i64 len)
 |_=>none
def bo(T:Tm)(H:Hp):Ins->Option AV
 |.mov x=>some (ov T x)
 |.pick c a b=>match ov T c with|.bool t=>some (if t=true then ov T a else ov T b)|_=>none
 |.ld1 a=>rd1 H (ov T a)
 |.ldn k a=>(rd H k (ov T a)).map .agg
 |.nilck x=>match ov T x with|.ptr b n o=>some (.ptr b n o)|.iptr c o=>some (.iptr c o)|.func f c=>some (.func f c)|_=>none
 |.bin op tb tf x y=>aX op tb tf (ov T x) (ov T y)
 |.binS op ks x y=>dS (ov T x) λxs=>dS (ov T y) λys=>pC op ks xs ys
 |.un op x=>aun op (ov T x)
 |.conv k x=>lH (ov T x) λn=>some (.int k (k.wrap n))
 |.mkfn f caps=>some (.func f (caps.map (ov T)))
 |.mkbf f first=>some (.bfn f (first.map (ov T)))
 |.slsA n x lo hi=>lS n (ov T x) (lo.map (ov T)) (hi.map (ov T)) none
 |.sls sz x lo hi mx=>xz sz (ov T x) (lo.map (ov T)) (hi.map (ov T)) (mx.map (ov T))
 |.slstr x lo hi=>fw (ov T x) (lo.map (ov T)) (hi.map (ov T))
 |.fa k p=>kf k (ov T p)
 |.part1 off x=>dS (ov T x) λcs=>cs[off]?
 |.partn off k x=>dS (ov T x) λcs=>if off+k<=cs.length then some (.agg ((cs.drop off).take k)) else none
 |.ixaA len sz x i=>lH (ov T i) λn=>if 0<=n/\n<len then kf (n.toNat*sz) (ov T x) else none
 |.ixaS sz x i=>ja sz (ov T x) (ov T i)
 |.ixA1 len sz x i=>dS (ov T x) λcs=>lH (ov T i) λn=>if 0<=n/\n<len then cs[n.toNat*sz]? else none
 |.ixAn len sz x i=>dS (ov T x) λcs=>lH (ov T i) λn=>if 0<=n/\n<len then(if n.toNat*sz+sz<=cs.length then some (.agg ((cs.drop (n.toNat*sz)).take sz)) else none) else none
 |.ixStr x i=>match ov T x with
  |.str s=>lH (ov T i) λn=>if 0<=n/\n<s.size then some (.int .u8 (s[n.toNat]?.getD 0).toNat) else none
  |_=>none
 |.ext x i=>gC (ov T x) i
 |.bld z parts=>(ej z (parts.map λp=>(p.1,p.2.1,ov T p.2.2))).map .agg
 |.lenS x=>ef (ov T x)
 |.capE x=>match ov T x with|.esl=>some (.int .i64 0)|_=>none
 |.lenStr x=>match ov T x with|.str s=>some (.int .i64 s.size)|_=>none
 |.lenC n=>some (.int .i64 n)
 |.mx x l=>gr mY (ov T x) (l.map (ov T))
 |.mn x l=>gr mQ (ov T x) (l.map (ov T))
 |_=>none
def Cf(sz bytes:Nat)(s x:AV)(H:Hp)(nx:Nat):Option (AV×Hp×Nat):=
 match fV sz H x with
 |none=>none
 |some (k,new)=>
  if new.all AV.one=true then
   match s with
   |.esl=>if k*bytes<=140737488355328/\k<=9223372036854775807 then some (.msl nx (k*sz) sz 0 k,ah H nx new,nx+1) else none
   |.msl b n s off len=>match H b with
    |some cs=>
     if cs.length=n/\s=sz then
      if off=0/\n=len*s/\(len+k)*bytes<=140737488355328/\len+k<=9223372036854775807 then some (.msl b ((len+k)*s) s 0 (len+k),ah H b (cs++new),nx)
      else if off+(len+k)*s<=n/\0<n then some (.msl b n s off (len+k),ah H b (dr cs (off+len*s) new),nx)
      else if off=0/\len*s<n/\n<(len+k)*s/\(len+k)*bytes<=140737488355328/\len+k<=9223372036854775807 then some (.msl b ((len+k)*s) s 0 (len+k),ah H b (cs.take (len*s)++new),nx)
      else none
     else none
    |none=>none
   |_=>none
  else none
def jW(T:Tm)(H:Hp)(nx:Nat):Ins->Option (AV×Hp×Nat)
 |.alloc z=>rk z H nx
 |.box x=>rk (ov T x) H nx
 |.bldS sz len z parts=>if len=0 then(if parts.isEmpty=true then some (.esl,H,nx) else none) else
     match ej (bC (.agg z) len) (parts.map λp=>(p.1,p.2.1,ov T p.2.2)) with
     |some cells=>some (.msl nx cells.length sz 0 len,ah H nx cells,nx+1)
     |none=>none
 |.mks sz bytes z l c=>match ov T l,ov T c with
  |.int _ n,.int _ m=>if 0<=n/\n<=m/\m<=9223372036854775807/\bytes*m<=281474976710656 then some (.msl nx (m.toNat*sz) sz 0 n.toNat,ah H nx (bC (.agg z) m.toNat),nx+1) else none
  |_,_=>none
 |.st k p x=>match ov T p with
  |.ptr b n off=>match H b with
   |some cs=>if cs.length=n/\(ov T x).flat=true/\(ov T x).cells.length=k/\off+k<=n then some (.tup [],ah H b (dr cs off (ov T x).cells),nx) else none
   |none=>none
  |_=>none
 |.app sz bytes s x=>Cf sz bytes (ov T s) (ov T x) H nx
 |.apz sz bytes z s x=>match ov T s,ov T x with
  |.esl,.int _ n=>if 0<n/\n<=9223372036854775807/\n.toNat*bytes<=140737488355328 then some (.msl nx (n.toNat*sz) sz 0 n.toNat,ah H nx (bC (.agg z) n.toNat),nx+1) else none
  |_,_=>none
 |_=>none
def Bp(lo hi mx:Option Operand):Bool:=!(mx.isSome&&hi.isNone)
def mB(pl:List (Nat×Nat)):List (Nat×Operand)->Option (List (Nat×Nat×Opd))
 |[]=>some []
 |(i,x)::l=>match pl[i]?,mB pl l with
  |some (o,s),some r=>some ((o,s,.of x)::r)
  |_,_=>none
def jm(sz:Nat)(l:List (Nat×Operand)):List (Nat×Nat×Opd):=l.map λp=>(p.1*sz,sz,.of p.2)
def gZ(P:Program):Op->Option Ins
 |.move x=>some (.mov (.of x))
 |.assign x=>some (.mov (.of x))
 |.pick c a b=>some (.pick (.of c) (.of a) (.of b))
 |.load t a=>if tok P t then(if pe P t then(if 0<P.cellsOf t then some (.ldn (P.cellsOf t) (.of a)) else none) else some (.ld1 (.of a))) else none
 |.nilCheck x=>some (.nilck (.of x))
 |.binOp op t x y _=>match f0 P t with|some _=>none|none=>match A1 P t with|some ks=>some (.binS op ks (.of x) (.of y))|none=>some (.bin op (xl P t) (xt P t) (.of x) (.of y))
 |.unOp op _ x=>some (.un op (.of x))
 |.convert s d x=>if tok P s then(match kq P d with|some k=>some (.conv k (.of x))|none=>none) else none
 |.makeFunc (.func f) first captured=>if first.size=0 then some (.mkfn f (captured.toList.map .of)) else if captured.size=0 then some (.mkbf f (first.toList.map .of)) else none
 | .slice t x lo hi mx=>if Bp lo hi mx then (match P.underlying t with
  |some (.slice e)=>if tok P e then some (.sls (P.cellsOf e) (.of x) (lo.map .of) (hi.map .of) (mx.map .of)) else none
  |some .string=>match mx with|none=>some (.slstr (.of x) (lo.map .of) (hi.map .of))|some _=>none
  |some (.array n e)=>if tok P e=true/\P.cellsOf e=1 then(match mx with|none=>some (.slsA n (.of x) (lo.map .of) (hi.map .of))|some _=>none) else none
  |_=>none) else none
 |.fieldAddr t x f=>match Ce P t f with|some k=>some (.fa k (.of x))|none=>none
 |.field t x f=>match P.underlying t with
  |some (.struct fs)=>match fs[f]? with
   |some fd=>if tok P fd.type then(if pe P fd.type then some (.partn fd.offset (P.cellsOf fd.type) (.of x)) else some (.part1 fd.offset (.of x))) else none
   |none=>none
  |_=>none
 |.indexAddr t x i=>match P.underlying t with
  |some (.array len e)=>if tok P e then some (.ixaA len (P.cellsOf e) (.of x) (.of i)) else none
  |some (.slice e)=>if tok P e then some (.ixaS (P.cellsOf e) (.of x) (.of i)) else none
  |_=>none
 |.index t x i=>match P.underlying t with
  |some (.array len e)=>if tok P e then(if pe P e then some (.ixAn len (P.cellsOf e) (.of x) (.of i)) else some (.ixA1 len (P.cellsOf e) (.of x) (.of i))) else none
  |some .string=>some (.ixStr (.of x) (.of i))
  |_=>none
 |.extract x i=>some (.ext (.of x) i)
 |.build t parts=>match eO P t with
  |some z=>if z.flat=true then
   match tc P t with
   |some pl=>match mB pl parts.toList with
    |some ps=>some (.bld z.cells ps)
    |none=>none
   |none=>match wb P t with
    |some (_,e)=>if tok P e=true then some (.bld z.cells (jm (P.cellsOf e) parts.toList)) else none
    |none=>none
   else none
  |none=>none
 |.call {callee:=.builtin .len,args:=⟨[x]⟩,argTypes:=⟨[t]⟩}=>match P.underlying t with
  |some (.slice _)=>some (.lenS (.of x))
  |some .string=>some (.lenStr (.of x))
  |some (.array n _)=>some (.lenC n)
  |_=>none
 |.call {callee:=.builtin .max,args:=⟨x::l⟩,argTypes:=_}=>some (.mx (.of x) (l.map .of))
 |.call {callee:=.builtin .cap,args:=⟨[x]⟩,argTypes:=⟨[t]⟩}=>match f0 P t with
  |some _=>some (.capE (.of x))
  |none=>none
 |.call {callee:=.builtin .min,args:=⟨x::l⟩,argTypes:=_}=>some (.mn (.of x) (l.map .of))
 |_=>none
def kN(P:Program):Op->Option Ins
 |.alloc e=>match eO P e with|some z=>some (.alloc z)|none=>none
 |.box _ x=>some (.box (.of x))
 |.buildSlice t len parts=>match f0 P t with
  |none=>none
  | some e=>if tok P e=true∧0 < P.cellsOf e∧len * P.cellsOf e ≤ 16777216 then (match eO P e with
   |some z=>if z.flat=true/\z.cells.length=P.cellsOf e then some (.bldS (P.cellsOf e) len z.cells (jm (P.cellsOf e) parts.toList)) else none
   |none=>none) else none
 |.makeSlice t l c=>match f0 P t with
  |none=>none
  |some e=>match eO P e with
   |some z=>if tok P e=true/\z.flat=true/\z.cells.length=P.cellsOf e/\0<P.cellsOf e then some (.mks (P.cellsOf e) (eM P e) z.cells (.of l) (.of c)) else none
   |none=>none
 |.store t p x=>if tok P t=true/\0<P.cellsOf t then some (.st (P.cellsOf t) (.of p) (.of x)) else none
 |.call {callee:=.builtin .append,args:=⟨[s,x]⟩,argTypes:=⟨[tS,tX]⟩}=>match f0 P tS with
  |none=>none
  | some e=>if tok P e=true∧tok P tX=true∧kq P tX=none∧0 < P.cellsOf e∧zok P e=true then some (.app (P.cellsOf e) (eM P e) (.of s) (.of x)) else if (kq P tX).isSome=true then (match eO P e with
   |some z=>if tok P e=true/\z.flat=true/\z.cells.length=P.cellsOf e/\0<P.cellsOf e/\zok P e=true then some (.apz (P.cellsOf e) (eM P e) z.cells (.of s) (.of x)) else none
   |none=>none) else none
 |_=>none
theorem lL{T:Tm}(pl:List (Nat×Nat)):∀(parts:List (Nat×Operand))(ps:List (Nat×Nat×Opd))(cells:List AV),mB pl parts=some ps->
    ib (λi=>pl[i]?) cells (parts.map λp=>(p.1,ev T p.2))=ej cells (ps.map λp=>(p.1,p.2.1,ov T p.2.2))
 |[],ps,cells,h=>by cases h;rfl
 |(i,x)::l,ps,cells,h=>by
  simp only[mB] at h;split at h
  ·rename_i o s r h1 h2;cases h;simp only[gD,ib,h1,ej,bt];split
   ·exact lL pl l r _ h2
   ·rfl
  ·cases h
theorem iH{T:Tm}(sz:Nat):∀(parts:List (Nat×Operand))(cells:List AV),
    ib (λi=>some (i*sz,sz)) cells (parts.map λp=>(p.1,ev T p.2))=ej cells ((jm sz parts).map λp=>(p.1,p.2.1,ov T p.2.2))
 |[],cells=>rfl
 |(i,x)::l,cells=>by
  simp only[gD,ib,ej,jm,bt];split
  ·exact iH sz l _
  ·rfl
theorem jS(z:AV)(k:Nat):bC (.agg z.cells) k=bC z k:=rfl
theorem sN{P:Program}{op:Op}{i:Ins}{T:Tm}{H:Hp}{r:AV}(hc:gZ P op=some i)(h:bo T H i=some r):cz P T H op=some r:=by
 cases op with
 |move x=>cases hc;simp only[bo,bt] at h;exact h
 |assign x=>cases hc;simp only[bo,bt] at h;exact h
 |pick c a b=>cases hc;simp only[bo,bt] at h;exact h
 |load t a=>
  simp only[gZ] at hc;simp only[cz,jt];split at hc
  ·rename_i h1;rw[if_pos h1];split at hc
   ·rename_i h2;rw[if_pos h2];split at hc
    ·rename_i h3;rw[if_pos h3];cases hc;simp only[bo,bt] at h;exact h
    ·cases hc
   ·rename_i h2;rw[if_neg h2];cases hc;simp only[bo,bt] at h;exact h
  ·cases hc
 |nilCheck x=>cases hc;simp only[bo,bt] at h;exact h
 |binOp op t x y _=>
  simp only[gZ] at hc;split at hc
  ·cases hc
  split at hc
  ·rename_i ks hks;cases hc;simp only[bo,bt] at h;simp only[cz];unfold dS at h;split at h
   ·rename_i cs hx;split at h
    ·rename_i cs' hy;rw[hx,hy];simp only[xD,hks];exact h
    ·cases h
   ·cases h
  ·cases hc;simp only[bo,bt] at h;exact zc h
 |unOp op _ x=>cases hc;simp only[bo,bt] at h;exact h
 |convert s d x=>
  simp only[gZ] at hc;split at hc
  ·rename_i h1;split at hc
   ·rename_i k hk;cases hc;simp only[bo,bt] at h;simp only[cz,w8];unfold lH at h;split at h
    ·rename_i hx;simp only[hx,h1,hk,if_true];exact h
    ·cases h
   ·cases hc
  ·cases hc
 |makeFunc fn first captured=>
  cases fn with
  |func f=>
   simp only[gZ] at hc;split at hc
   ·rename_i h1;cases hc;simp only[bo,jk] at h;simp only[cz,if_pos h1];exact h
   ·rename_i h1;split at hc
    ·rename_i h2;cases hc;simp only[bo,jk] at h;simp only[cz,if_neg h1,if_pos h2];exact h
    ·cases hc
  |_=>cases hc
 |slice t x lo hi mx=>
  simp only[gZ] at hc;split at hc
  ·rename_i hb
   have hb':¬(mx.isSome=true/\hi.isNone=true):=by
    rintro⟨h1,h2⟩;simp[Bp,h1,h2] at hb
   split at hc
   ·rename_i e hu;split at hc
    ·rename_i h1;cases hc;simp only[bo,bt,ny] at h;simp only[cz,if_neg hb',n9,hu,h1,if_true];exact h
    ·cases hc
   ·rename_i hu;split at hc
    ·cases hc;simp only[bo,bt,ny] at h;simp only[cz,if_neg hb',n9,hu];unfold fw at h;split at h
     ·rename_i s hs;rw[hs];simp only[Option.map_none];split at h
      ·rename_i l h' e1 e2;simp only[e1,e2];exact h
      ·cases h
     ·cases h
    ·cases hc
   ·rename_i n e hu;split at hc
    ·rename_i h1;split at hc
     ·cases hc;simp only[bo,bt,ny] at h;simp only[cz,if_neg hb',n9,hu,if_pos h1];exact h
     ·cases hc
    ·cases hc
   ·cases hc
  ·cases hc
 |fieldAddr t x f=>
  simp only[gZ] at hc;split at hc
  ·rename_i k hk;cases hc;simp only[bo,bt] at h;simp only[cz,j9,hk];exact h
  ·cases hc
 |field t x f=>
  simp only[gZ] at hc;split at hc
  ·rename_i fs hu;split at hc
   ·rename_i fd hfd;split at hc
    ·rename_i h1;split at hc
     ·rename_i h2;cases hc;simp only[bo,bt] at h;unfold dS at h;split at h
      ·rename_i cs hx;simp only[cz,qf,hx,hu,hfd,apart,h1,h2,if_true];exact h
      ·cases h
     ·rename_i h2;cases hc;simp only[bo,bt] at h;unfold dS at h;split at h
      ·rename_i cs hx;simp only[cz,qf,hx,hu,hfd,apart,h1,h2,if_true];exact h
      ·cases h
    ·cases hc
   ·cases hc
  ·cases hc
 |indexAddr t x i=>
  simp only[gZ] at hc;split at hc
  ·rename_i len e hu;split at hc
   ·rename_i h1;cases hc;simp only[bo,bt] at h;unfold lH at h;split at h
    ·rename_i n hn;simp only[cz,iE,hn,hu,h1,true_and];exact h
    ·cases h
   ·cases hc
  ·rename_i e hu;split at hc
   ·rename_i h1;cases hc;simp only[bo,bt] at h;unfold ja at h;split at h
    ·rename_i n hn;simp only[cz,iE,hn,hu,h1,if_true];split at h
     ·rename_i s elems hx;simp only[hx];split at h
      ·rename_i hb;obtain⟨b1,b2,b3⟩:=hb;rw[if_pos ⟨b1,b2⟩];have hlt:n.toNat<elems.length:=by omega
       rw[tC hlt];simp only[List.getD,tC hlt,u5] at h;exact h
      ·cases h
     ·rename_i hx;simp only[hx];exact h
     ·cases h
    ·cases h
   ·cases hc
  ·cases hc
 |index t x i=>
  simp only[gZ] at hc;split at hc
  ·rename_i len e hu;have hta:wb P t=some (len,e):=by simp[wb,hu]
   split at hc
   ·rename_i h1;split at hc
    ·rename_i h2;cases hc;simp only[bo,bt] at h;unfold dS at h;split at h
     ·rename_i cs hx;unfold lH at h;split at h
      ·rename_i n hn;simp only[cz,nF,hx,hn,hta,apart,h1,h2,if_true];exact h
      ·cases h
     ·cases h
    ·rename_i h2;cases hc;simp only[bo,bt] at h;unfold dS at h;split at h
     ·rename_i cs hx;unfold lH at h;split at h
      ·rename_i n hn;simp only[cz,nF,hx,hn,hta,apart,h1,h2,if_true];exact h
      ·cases h
     ·cases h
   ·cases hc
  ·rename_i hu;cases hc;simp only[bo,bt] at h;split at h
   ·rename_i s hs;unfold lH at h;split at h
    ·rename_i n hn;simp only[cz,nF,hs,hn,hu];simp only at h;split at h
     ·rename_i hb;rw[if_pos hb.1];have hlt:n.toNat<s.size:=by omega
      have e:s[n.toNat]?=some s[n.toNat]:=by simp[hlt]
      rw[e] at h |-;exact h
     ·cases h
    ·cases h
   ·cases h
  ·cases hc
 |extract x i=>cases hc;simp only[bo,bt] at h;exact h
 |build t parts=>
  simp only[gZ] at hc;split at hc
  ·rename_i z hz;split at hc
   ·rename_i hf;split at hc
    ·rename_i pl hpl;split at hc
     ·rename_i ps hps;cases hc;simp only[bo] at h;rw[<-lL pl _ _ _ hps] at h;simp only[cz,qe,hz,hpl,if_pos hf];exact h
     ·cases hc
    ·rename_i hpl;split at hc
     ·rename_i k e hta;split at hc
      ·rename_i h1;cases hc;simp only[bo] at h;rw[<-iH] at h;simp only[cz,qe,hz,hpl,if_pos hf,hta,if_pos h1];exact h
      ·cases hc
     ·cases hc
   ·cases hc
  ·cases hc
 |call c=>
  obtain⟨callee,args,argTypes⟩:=c;cases callee with
  |builtin b=>
   obtain⟨args⟩:=args;obtain⟨argTypes⟩:=argTypes;cases b with
   |len=>
    rcases args with _|⟨x,_|⟨y,l⟩⟩
    ·cases hc
    ·rcases argTypes with _|⟨t,_|⟨u,l⟩⟩
     ·cases hc
     ·simp only[gZ] at hc;split at hc
      ·rename_i e hu;cases hc;simp only[bo,bt] at h;unfold ef at h;simp only[cz,xy,hu];split at h<;>rename_i hx<;>first|(simp only[hx];exact h)|cases h
      ·rename_i hu;cases hc;simp only[bo,bt] at h;simp only[cz,xy,hu];split at h<;>rename_i hx<;>first|(simp only[hx];exact h)|cases h
      ·rename_i n e hu;cases hc;simp only[bo] at h;simp only[cz,xy,hu];exact h
      ·cases hc
     ·cases hc
    ·cases hc
   |max=>
    rcases args with _|⟨x,l⟩
    ·cases hc
    ·cases hc;simp only[bo,bt,jk] at h;exact h
   |cap=>
    rcases args with _|⟨x,_|⟨y,l⟩⟩
    ·cases hc
    ·rcases argTypes with _|⟨t,_|⟨u,l⟩⟩
     ·cases hc
     ·simp only[gZ] at hc;split at hc
      ·rename_i e he;cases hc;simp only[bo,bt] at h;simp only[cz,he];split at h<;>rename_i hx<;>first|(simp only[hx];exact h)|cases h
      ·cases hc
     ·cases hc
    ·cases hc
   |min=>
    rcases args with _|⟨x,l⟩
    ·cases hc
    ·cases hc;simp only[bo,bt,jk] at h;exact h
   |_=>cases hc
  |_=>cases hc
 |_=>cases hc
theorem xf{P:Program}{op:Op}{i:Ins}{T:Tm}{H:Hp}{nx:Nat}{r:AV×Hp×Nat}(hc:kN P op=some i)(h:jW T H nx i=some r):ff P T H nx op=some r:=by
 cases op with
 |alloc e=>
  simp only[kN] at hc;split at hc
  ·rename_i z hz;cases hc;simp only[ff,pV,hz];exact h
  ·cases hc
 |box _ x=>cases hc;simp only[jW,bt] at h;exact h
 |buildSlice t len parts=>
  simp only[kN] at hc;split at hc
  ·cases hc
  ·rename_i e he;split at hc
   ·rename_i h1;split at hc
    ·rename_i z hz;split at hc
     ·rename_i h2;cases hc;simp only[jW] at h;simp only[ff,mZ,he,if_pos h1];split at h
      ·rename_i hl;rw[if_pos hl];split at h
       ·rename_i hp
        have:parts.toList=[]:=by
         unfold jm at hp;simpa using hp
        rw[this];exact h
       ·cases h
      ·rename_i hl;rw[if_neg hl];simp only[hz,if_pos h2];rw[jS,<-iH] at h;exact h
     ·cases hc
    ·cases hc
   ·cases hc
 |makeSlice t l c=>
  simp only[kN] at hc;split at hc
  ·cases hc
  ·rename_i e he;split at hc
   ·rename_i z hz;split at hc
    ·rename_i h1;cases hc;simp only[jW,bt] at h;split at h
     ·rename_i k n k' m hl hm;split at h
      ·rename_i hb;simp only[ff,tO,he,hl,hm,hz];rw[if_pos ⟨h1.1,h1.2.1,h1.2.2.1,h1.2.2.2,hb.1,hb.2.1,hb.2.2.1,hb.2.2.2⟩];rw[jS] at h;exact h
      ·cases h
     ·cases h
    ·cases hc
   ·cases hc
 |store t p x=>
  simp only[kN] at hc;split at hc
  ·rename_i h1;cases hc;simp only[jW,bt] at h;split at h
   ·rename_i b n off hp;split at h
    ·rename_i cs hb;split at h
     ·rename_i h2;simp only[ff,nZ,hp,hb];rw[if_pos ⟨h2.1,h1.1,h2.2.1,h2.2.2.1,h2.2.2.2,h1.2⟩];exact h
     ·cases h
    ·cases h
   ·cases h
  ·cases hc
 |call c=>
  obtain⟨callee,args,argTypes⟩:=c;cases callee with
  |builtin b=>
   obtain⟨args⟩:=args;obtain⟨argTypes⟩:=argTypes;cases b with
   |append=>
    rcases args with _|⟨x,_|⟨y,_|⟨z,l⟩⟩⟩
    ·cases hc
    ·cases hc
    ·rcases argTypes with _|⟨t,_|⟨u,_|⟨v,l⟩⟩⟩
     ·cases hc
     ·cases hc
     ·simp only[kN] at hc;split at hc
      ·cases hc
      ·rename_i e he;split at hc
       ·rename_i h1;cases hc;simp only[jW,bt] at h;simp only[ff,h1.2.2.1,Option.isSome_none,bm,if_false];simp only[mI,he,if_pos h1];exact h
       ·split at hc
        ·rename_i hti;obtain⟨kx,hkx⟩:=zP.1 hti;split at hc
         ·rename_i z hz;split at hc
          ·rename_i h2;cases hc;simp only[jW,bt] at h;split at h
           ·rename_i kn n hs hx;split at h
            ·rename_i h3;simp only[ff,hkx,Option.isSome_some,if_true,vB,he,hs,hx,hz];rw[if_pos ⟨h2.1,h2.2.1,h2.2.2.1,h2.2.2.2.1,h2.2.2.2.2,h3.1,h3.2.1,h3.2.2⟩];rw[jS] at h;exact h
            ·cases h
           ·cases h
          ·cases hc
         ·cases hc
        ·cases hc
     ·cases hc
    ·cases hc
   |_=>cases hc
  |_=>cases hc
 |_=>cases hc
def isp(i:Ins)(T:Tm)(H:Hp)(nx:Nat)(K:AV->Hp->Nat->Prop):Prop:=match i with
 |.mkm h=>(h=none\/ ∃x k n,h=some x/\ov T x=.int k n)/\(K (.mp nx) (ah H nx [.omap [] []]) (nx+1)\/K (.mp nx) (ah H nx [.bmap [] [] [] 0]) (nx+1))
 |.mput k m key x=>(∃b ks vs r,ov T m=.mp b/\H b=some [.omap ks vs]/\lf k (ov T key)=true/\dE k (ov T key) ks=some r/\K (.tup []) (ah H b [.omap (dD (ov T key) r ks) (fY (ov T x) r vs)]) nx)\/
     ∃b ks vs bs ck r,ov T m=.mp b/\H b=some [.bmap ks vs bs ck]/\lf k (ov T key)=true/\dE k (ov T key) ks=some r/\K (.tup []) (ah H b [.bmap (dD (ov T key) r ks) (fY (ov T x) r vs) (py ck r bs) (tY ck r)]) nx
 |.mdel k m key=>∃b ks vs bs ck r,ov T m=.mp b/\H b=some [.bmap ks vs bs ck]/\lf k (ov T key)=true/\dE k (ov T key) ks=some r/\K (.tup []) (ah H b [.bmap (mX r ks) (mX r vs) (mX r bs) ck]) nx
 |.mget k z ok m key=>(∃b ks vs r,ov T m=.mp b/\H b=some [.omap ks vs]/\lf k (ov T key)=true/\dE k (ov T key) ks=some r/\K (Go.Abs.mget z ok r vs) H nx)\/
     ∃b ks vs bs ck r,ov T m=.mp b/\H b=some [.bmap ks vs bs ck]/\lf k (ov T key)=true/\dE k (ov T key) ks=some r/\K (Go.Abs.mget z ok r vs) H nx
 |.mlen m=>(∃b ks vs,ov T m=.mp b/\H b=some [.omap ks vs]/\K (.int .i64 ks.length) H nx)\/ ∃b ks vs bs ck,ov T m=.mp b/\H b=some [.bmap ks vs bs ck]/\K (.int .i64 ks.length) H nx
 |.mrng m=>(∃b ks vs,ov T m=.mp b/\H b=some [.omap ks vs]/\K (.itr nx) (ah H nx [.oiter b ks.length []]) (nx+1))\/ ∃b ks vs bs ck,ov T m=.mp b/\H b=some [.bmap ks vs bs ck]/\K (.itr nx) (ah H nx [.biter b ck []]) (nx+1)
 | .mnxt it=>(∃ b m n0 seen ks vs,ov T it=.itr b∧H b=some [.oiter m n0 seen]∧H m=some [.omap ks vs]∧ks.length=n0 ∧
     (∀i,i<ks.length->i∉seen->K (.tup [.bool true,ks.getD i .undef,vs.getD i .undef]) (ah H b [.oiter m n0 (seen++[i])]) nx)/\
     ((∀i,i<n0->i<ks.length->i∈seen)->K (.tup [.bool false]) H nx))\/
     ∃(b m ck:Nat)(seen:List Nat)(ks vs:List AV)(bs:List Nat),ov T it=.itr b/\H b=some [.biter m ck seen]/\H m=some [.bmap ks vs bs ck]/\
     (∀(i s:Nat),bs[i]?=some s->s∉seen->K (.tup [.bool true,ks.getD i .undef,vs.getD i .undef]) (ah H b [.biter m ck (seen++[s])]) nx)/\
     ((∀s∈bs,s∈seen)->K (.tup [.bool false]) H nx)
 |.ment it=>(∃b m n0 i seen ks vs,ov T it=.itr b/\H b=some [.oiter m n0 seen]/\H m=some [.omap ks vs]/\ks.length=n0/\seen.getLast?=some i/\i<ks.length/\K (.tup [ks.getD i .undef,vs.getD i .undef]) H nx)\/
     ∃(b m ck i s:Nat)(seen:List Nat)(ks vs:List AV)(bs:List Nat),ov T it=.itr b/\H b=some [.biter m ck seen]/\H m=some [.bmap ks vs bs ck]/\seen.getLast?=some s/\bs[i]?=some s/\K (.tup [ks.getD i .undef,vs.getD i .undef]) H nx
 |.cpy sz d s=>∃n H',yU sz (ov T d) (ov T s) H=some (n,H')/\K (.int .i64 n) H' nx
 |.clr sz z x=>∃H',wJ sz z (ov T x) H=some H'/\K (.tup []) H' nx
 |.slp len sz x=>∃(b n off:Nat)(cs:List AV),ov T x=.ptr b n off/\H b=some cs/\cs.length=n/\off+len*sz=n/\K (.msl b n sz off len) H nx
 |.snil neg x=>∃k,pr (ov T x)=some k/\wY neg k λr=>K r H nx
 |.s2b x=>∃bs:ByteArray,ov T x=.str bs/\(bs.size=0->K (.sl 1 []) H nx)/\(bs.size≠0->K (.msl nx bs.size 1 0 bs.size) (ah H nx (bs.data.toList.map dW)) (nx+1))
 |.b2s x=>∃(n:Nat)(bs:List UInt8),fV 1 H (ov T x)=some (n,bs.map dW)/\K (.str ⟨bs.toArray⟩) H nx
 |.mplc k z m key=>∃b ks vs r,ov T m=.mp b/\H b=some [.omap ks vs]/\lf k (ov T key)=true/\dE k (ov T key) ks=some r/\K (.tup [Bx z r vs,.int .i64 (Ad r ks)]) (ah H b [.omap (dD (ov T key) r ks) (vR z r vs)]) nx
 |.mpst m s x=>∃(b:Nat)(ks vs:List AV)(i:Nat),ov T m=.mp b/\H b=some [.omap ks vs]/\ov T s=.int .i64 (i:Int)/\i<ks.length/\K (.tup []) (ah H b [.omap ks (vs.set i (ov T x))]) nx
 |_=>False
def qx(P:Program):Op->Option Ins
 |.makeMap t r=>match gV P t with|some _=>some (.mkm (r.map .of))|none=>none
 |.mapUpdate t m k x=>match gV P t with
  |some (kt,_)=>(mkk P kt).map λmk=>.mput mk (.of m) (.of k) (.of x)
  |none=>none
 |.insert t m k x=>match gV P t with
  |some (kt,_)=>(mkk P kt).map λmk=>.mput mk (.of m) (.of k) (.of x)
  |none=>none
 |.lookup t m k ok=>match gV P t with
  |some (kt,et)=>match mkk P kt,eO P et with
   |some mk,some z=>some (.mget mk z ok (.of m) (.of k))
   |_,_=>none
  |none=>none
 |.range t m=>match gV P t with|some _=>some (.mrng (.of m))|none=>none
 |.next it false=>some (.mnxt (.of it))
 |.entry it=>some (.ment (.of it))
 |.call {callee:=.builtin .len,args:=⟨[x]⟩,argTypes:=⟨[t]⟩}=>match gV P t with|some _=>some (.mlen (.of x))|none=>none
 |.call {callee:=.builtin .delete,args:=⟨[m,k]⟩,argTypes:=⟨[t,_]⟩}=>match gV P t with
  |some (kt,_)=>(mkk P kt).map λmk=>.mdel mk (.of m) (.of k)
  |none=>none
 |.binOp .eql t x (.const (.slice none 0 0)) _=>match f0 P t with|some _=>some (.snil false (.of x))|none=>none
 |.binOp .neq t x (.const (.slice none 0 0)) _=>match f0 P t with|some _=>some (.snil true (.of x))|none=>none
 |.call {callee:=.builtin .copy,args:=⟨[d,s]⟩,argTypes:=⟨[tD,_]⟩}=>match f0 P tD with
  |some e=>if tok P e=true then some (.cpy (P.cellsOf e) (.of d) (.of s)) else none
  |none=>none
 |.call {callee:=.builtin .clear,args:=⟨[x]⟩,argTypes:=⟨[t]⟩}=>match f0 P t with
  |some e=>match eO P e with
   |some z=>if 0<P.cellsOf e then some (.clr (P.cellsOf e) z (.of x)) else none
   |none=>none
  |none=>none
 |.convert s d x=>match P.underlying s,P.underlying d with
  |some .string,some (.slice e)=>if kq P e=some .u8 then some (.s2b (.of x)) else none
  |some (.slice e),some .string=>if kq P e=some .u8 then some (.b2s (.of x)) else none
  |_,_=>none
 |.mapEntry t m k=>match gV P t with
  |some (kt,et)=>match mkk P kt,eO P et with
   |some mk,some z=>some (.mplc mk z (.of m) (.of k))
   |_,_=>none
  |none=>none
 |.entryStore _ m s x=>some (.mpst (.of m) (.of s) (.of x))
 |.slice t x none none none=>match P.underlying t with
  |some (.array n e)=>if tok P e=true/\0<n then some (.slp n (P.cellsOf e) (.of x)) else none
  |_=>none
 |_=>none
theorem BE{P:Program}{op:Op}{i:Ins}{T:Tm}{H:Hp}{nx:Nat}{K:AV->Hp->Nat->Prop}(hc:qx P op=some i)(h:isp i T H nx K):cJ P op T H nx K:=by
 have put:∀t m k x,qx P (.mapUpdate t m k x)=some i->isp i T H nx K->cJ P (.mapUpdate t m k x) T H nx K:=by
  intro t m k x hc h;simp only[qx] at hc;split at hc
  ·rename_i kt et ht;cases hk:mkk P kt with
   |none=>rw[hk] at hc;cases hc
   |some mk=>
    rw[hk] at hc;cases hc;rcases h with⟨b,ks,vs,r,h1,h2,h3,h4,h5⟩|⟨b,ks,vs,bs,ck,r,h1,h2,h3,h4,h5⟩
    ·simp only[bt] at h1 h3 h4 h5;exact oX ht hk h1 h2 h3 h4 h5
    ·simp only[bt] at h1 h3 h4 h5;exact ns ht hk h1 h2 h3 h4 h5
  ·cases hc
 unfold qx at hc;split at hc
 ·rename_i t r;split at hc
  ·rename_i p ht;cases hc;obtain⟨h1,h2⟩:=h
   have h4:r=none\/ ∃x n k p,r=some x/\ev T x=.int k n/\gV P t=some p:=by
    rcases h1 with h1|⟨x,k,n,h1,h3⟩
    ·cases r with
     |none=>exact .inl rfl
     |some r=>cases h1
    ·cases r with
     |none=>cases h1
     |some r=>cases h1;rw[bt] at h3;exact .inr ⟨r,n,k,p,rfl,h3,ht⟩
   rcases h2 with h2|h2
   ·exact rf h4 h2
   ·exact qo h4 h2
  ·cases hc
 ·rename_i t m k x;exact put t m k x hc h
 ·rename_i t m k x;exact tw (put t m k x hc h)
 ·rename_i t m k ok;split at hc
  ·rename_i kt et ht;split at hc
   ·rename_i mk z hk hz;cases hc;rcases h with⟨b,ks,vs,r,h1,h2,h3,h4,h5⟩|⟨b,ks,vs,bs,ck,r,h1,h2,h3,h4,h5⟩
    ·simp only[bt] at h1 h3 h4;exact mz ht hk hz h1 h2 h3 h4 h5
    ·simp only[bt] at h1 h3 h4;exact lW ht hk hz h1 h2 h3 h4 h5
   ·cases hc
  ·cases hc
 ·rename_i t m;split at hc
  ·rename_i p ht;cases hc;rcases h with⟨b,ks,vs,h1,h2,h3⟩|⟨b,ks,vs,bs,ck,h1,h2,h3⟩
   ·rw[bt] at h1;exact te ht h1 h2 h3
   ·rw[bt] at h1;exact rp ht h1 h2 h3
  ·cases hc
 ·cases hc;rcases h with⟨b,m,n0,seen,ks,vs,h1,h2,h3,h4,h5,h6⟩|⟨b,m,ck,seen,ks,vs,bs,h1,h2,h3,h5,h6⟩
  ·rw[bt] at h1;exact vD h1 h2 h3 h4 h5 h6
  ·rw[bt] at h1;exact sT h1 h2 h3 h5 h6
 ·cases hc;rcases h with⟨b,m,n0,i,seen,ks,vs,h1,h2,h3,h4,h5,h6,h7⟩|⟨b,m,ck,i,s,seen,ks,vs,bs,h1,h2,h3,h5,h6,h7⟩
  ·rw[bt] at h1;exact sU h1 h2 h3 h4 h5 h6 h7
  ·rw[bt] at h1;exact rj h1 h2 h3 h5 h6 h7
 ·rename_i x t;split at hc
  ·rename_i p ht;cases hc;rcases h with⟨b,ks,vs,h1,h2,h3⟩|⟨b,ks,vs,bs,ck,h1,h2,h3⟩
   ·rw[bt] at h1;exact wv ht h1 h2 h3
   ·rw[bt] at h1;exact uv ht h1 h2 h3
  ·cases hc
 ·rename_i m k t tk;split at hc
  ·rename_i kt et ht;cases hk:mkk P kt with
   |none=>rw[hk] at hc;cases hc
   |some mk=>
    rw[hk] at hc;cases hc;obtain⟨b,ks,vs,bs,ck,r,h1,h2,h3,h4,h5⟩:=h;simp only[bt] at h1 h3 h4 h5;exact ro ht hk h1 h2 h3 h4 h5
  ·cases hc
 ·rename_i t x ty;split at hc
  ·rename_i e ht;cases hc;obtain⟨k,h1,h2⟩:=h;rw[bt] at h1;exact pA (neg:=false) ht h1 h2
  ·cases hc
 ·rename_i t x ty;split at hc
  ·rename_i e ht;cases hc;obtain⟨k,h1,h2⟩:=h;rw[bt] at h1;exact pA (neg:=true) ht h1 h2
  ·cases hc
 ·rename_i d s tD tS;split at hc
  ·rename_i e ht;split at hc
   ·rename_i hte;cases hc;obtain⟨n,H',h1,h2⟩:=h;simp only[bt] at h1;exact vU ht hte h1 h2
   ·cases hc
  ·cases hc
 ·rename_i x t;split at hc
  ·rename_i e ht;split at hc
   ·rename_i z hz;split at hc
    ·rename_i hpos;cases hc;obtain⟨H',h1,h2⟩:=h;simp only[bt] at h1;exact uP ht hz h1 hpos h2
    ·cases hc
   ·cases hc
  ·cases hc
 ·rename_i s d x
  have tu:∀{e},kq P e=some .u8->P.underlying e=some (.int .u8):=λ{e} h=>by
   unfold kq at h;split at h
   ·rename_i hu;cases h;exact hu
   ·cases h
  split at hc
  ·rename_i e hs hd;split at hc
   ·rename_i he;cases hc;obtain⟨bs,h1,h2,h3⟩:=h;rw[bt] at h1;exact yi hs hd (tu he) h1 h2 h3
   ·cases hc
  ·rename_i e hs hd;split at hc
   ·rename_i he;cases hc;obtain⟨n,bs,h1,h2⟩:=h;rw[bt] at h1;exact yp hs (tu he) hd h1 h2
   ·cases hc
  ·cases hc
 ·rename_i t m k;split at hc
  ·rename_i kt et ht;split at hc
   ·rename_i mk z hk hz;cases hc;obtain⟨b,ks,vs,r,h1,h2,h3,h4,h5⟩:=h;simp only[bt] at h1 h3 h4 h5;exact qP ht hk hz h1 h2 h3 h4 h5
   ·cases hc
  ·cases hc
 ·cases hc;obtain⟨b,ks,vs,i,h1,h2,h3,h4,h5⟩:=h;simp only[bt] at h1 h3 h5;exact nT h1 h2 h3 h4 h5
 ·rename_i t x;split at hc
  ·rename_i n e hu;split at hc
   ·rename_i hce;cases hc;obtain⟨b,n',off,cs,h1,h2,h3,h4,h5⟩:=h;rw[bt] at h1;exact xF hu hce.1 hce.2 h1 h2 h3 h4 h5
   ·cases hc
  ·cases hc
 ·cases hc
end Go.Abs
