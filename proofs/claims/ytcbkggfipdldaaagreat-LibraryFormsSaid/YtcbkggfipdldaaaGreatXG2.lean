/- Texts of this claim, one after the other: AbsB4, AbsB5, AbsBM, AbsBN, AbsBF, AbsB5z, AbsB6, AbsB7, AbsB8, AbsB9, AbsBX. -/
import Derived.Test.YtcbkggfipdldaaaGreatXG1
import Derived.LoopNIn
import Derived.TacticsIn
import Derived.RangeFuncLeaves
import Derived.RangeFuncRecord
import Derived.RangeFuncNested
import Derived.Laws.IdiomStrings
import Derived.Laws.BytesArg

set_option linter.unusedSimpArgs false
set_option linter.unusedVariables false
set_option maxHeartbeats 1000000
namespace Go.Abs
open Go.RowKit
variable{P:Program}{N:Cfg}{fr:Option Nat}{ops:List Oper}{s:Nat→St}{r:Nat→AV}
theorem jN{o:Oper}{f:Operand}{args:Array Operand}{argTypes:Array TypeId}{a:Act}{w:World}{g:FuncId}{cv:Array Value}(ho:o.op=.call {callee:=.value f,args:=args,argTypes:=argTypes})
    (hf:a.eval f=.func (.func g) #[] cv) (hc:cok P g=true):(execOp a.eval o).run P w=.ok (.enter g (args.map a.eval++cv)) w:=by
 unfold execOp;rw[ho];simp only[resolve,hf,Deferred.ofValue,invoke,bj,cS,bg,Array.empty_append];exact gY hc _ w
theorem kE{T:Nat→AV}{H:Nat→Option (List AV)}{op:Op}{q:AV}(h:bX P T H op=some q):∀c,op≠.defer c:=by
 intro c e;subst e;cases h
theorem kK{T:Nat→AV}{H:Nat→Option (List AV)}{nx:Nat}{op:Op}{q:AV×(Nat→Option (List AV))×Nat}(h:d9 P T H nx op=some q):∀c,op≠.defer c:=by
 intro c e;subst e;cases h
section
variable{E₀:Env}{w₀:World}{df:List Deferred}{L:Array Bool}{a:Act}{w:World}{E:Env}
theorem DInv.move(hI:DInv P N ops s r E₀ w₀ df L a w E)(ht:Txt P N fr ops s r)(h0:Dom (s 0).H (s 0).nx){i:Nat}{o:Oper}(hr:Ready ops L i o)(hk:opk o.op=.write):
    HeapOk E (s i).H (s i).nx w∧bT E (s i).nx∧
    ∀(v:Value)(w':World)(E':Env),Ext E w E' w'→EnvOk E' w'→Rel E' w' (r i) v→dok N.n o.dst=true→HeapOk E' (s (i+1)).H (s (i+1)).nx w'→bT E' (s (i+1)).nx→
     DInv P N ops s r E₀ w₀ df (L.setIfInBounds i true) (a.put o.dst v) w' E':=by
 have hi:i<ops.length:=(bC.1 hr.get).1;have hset:=fun k=>cr L i k (by rw[hI.lsz];exact hi);obtain⟨c,hc,c1,c2,c3,c4,c5⟩:=hI.cur;have hkp:gf fr.isSome o.op=false:=l9 hk
 have hci:c=i:=by
  rcases tH i c with h|h|h
  ·have:=c1 i o h hr.get hk;rw[hr.not] at this;cases this
  ·exact h.symm
  ·obtain⟨⟨oc,hoc,hw⟩,hn⟩:=c2 (by omega);have:=hI.earlier ht.ok hr hoc h (gi hw hkp);rw[hn] at this;cases this
 subst hci;refine⟨c3,c4,fun v w' E' he hE' hv hd hH hfr=>hI.next ht hr he hE' hv hd ?_⟩
 have hex:∃c',c<c'∧c'≤ops.length∧(∀k o,c<k→k<c'→ops[k]?=some o→opk o.op≠.write)∧(c'<ops.length→∃o,ops[c']?=some o∧opk o.op=.write):=by
  have:∀m,c<m→m≤ops.length→(∃c',c<c'∧c'≤ops.length∧(∀k o,c<k→k<c'→ops[k]?=some o→opk o.op≠.write)∧(c'<ops.length→∃o,ops[c']?=some o∧opk o.op=.write))∨(∀k o,c<k→k<m→ops[k]?=some o→opk o.op≠.write):=by
   intro m
   induction m with
   |zero=>intro h;omega
   |succ m ih=>
    intro h1 h2;by_cases hcm:c=m
    ·subst hcm;exact .inr (fun k o h1 h2=>by omega)
    ·rcases ih (by omega) (by omega) with h|h
     ·exact .inl h
     ·obtain⟨om,hom⟩:=bW (ops:=ops) (i:=m) (by omega);by_cases hw:opk om.op=.write
      ·exact .inl ⟨m,by omega,by omega,h,fun _=>⟨om,hom,hw⟩⟩
      ·refine .inr (fun k o h3 h4 h5=>?_);by_cases hkm:k=m
       ·subst hkm;rw[hom] at h5;cases h5;exact hw
       ·exact h k o h3 (by omega) h5
  rcases this ops.length hi (aM _) with h|h
  ·exact h
  ·exact⟨ops.length,hi,aM _,h,fun h=>by omega⟩
 obtain⟨c',hcc,hcl,hno,hyes⟩:=hex;have hno':∀k o,c+1≤k→k<c'→ops[k]?=some o→opk o.op≠.write:=fun k o h1 h2 h3=>hno k o (by omega) h2 h3;have hmono:=ht.nx_mono h0 c' (show c+1≤c' by omega) hcl;refine⟨c',hcl,?_,?_,?_,?_,?_⟩
 ·intro k o' h1 h2 h3;rw[hset];split
  ·rfl
  ·rename_i hne;rcases oV k c with h|h
   ·exact c1 k o' h h2 h3
   ·exact absurd h3 (hno k o' (by omega) h1 h2)
 ·intro h;obtain⟨o',ho',hw'⟩:=hyes h;refine⟨⟨o',ho',hw'⟩,?_⟩;rw[hset,if_neg (by omega)];exact hI.later ht.ok hr ho' hcc (gi hk (l9 hw'))
 ·exact hH.more (fun b cs hb=>(ht.new h0 c' (show c+1≤c' by omega) hcl hno' b cs hb).imp id (fun h=>⟨hfr b h.1,h.2⟩)) (ht.dom h0 c' hcl)
 ·exact hfr.le (by omega)
 ·intro k o' h1 h2 h3 h4 h5;rw[hset] at h3;split at h3
  ·cases h3
  ·rename_i hne;rcases oV k c with h|h
   ·have:=hI.earlier ht.ok hr h2 h (l6 hk (gj h4));rw[h3] at this;cases this
   ·exact hfr _ (ht.nx_mono h0 k (show c+1≤k by omega) (by have:=(bC.1 h2).1;omega))
theorem DInv.step{rr:Option Nat}{Q:Exit→Act→World→Prop}{K:Act→World→Prop}(hI:DInv P N ops s r E₀ w₀ df L a w E)(ht:Txt P N fr ops s r)(h0:Dom (s 0).H (s 0).nx){i:Nat}{o:Oper}(hr:Ready ops L i o)
    (hK:∀a' w' E',DInv P N ops s r E₀ w₀ df (L.setIfInBounds i true) a' w' E'→K a' w'):wpOpIn (FW rr) 0 P ops.toArray Q i K a w:=by
 have hi:i<ops.length:=(bC.1 hr.get).1;have hgeti:(ops.toArray)[i]?=some o:=by simpa using hr.get
 unfold wpOpIn;rw[hgeti];simp only;obtain⟨c,hc,c1,c2,c3,c4,c5⟩:=hI.cur
 have touch:∀cc,cc≤ops.length→HeapOk E (s cc).H (s cc).nx w→(i<cc∧∀k ok,i≤k→k<cc→ops[k]?=some ok→opk ok.op≠.write)→HeapOk E (s i).H (s i).nx w:=by
  intro cc hcc hh ⟨h1,h2⟩;exact hh.fewer (ht.sub h0 cc (by omega) hcc h2).1 (ht.dom h0 i (by omega))
 have pos:gf fr.isSome o.op=false→opk o.op≠.write→i<c∧∀k ok,i≤k→k<c→ops[k]?=some ok→opk ok.op≠.write:=by
  intro hp hk
  have hlt:i<c:=by
   rcases tH i c with h|h|h
   ·exact h
   ·subst h;obtain⟨⟨oc,hoc,hw⟩,hn⟩:=c2 hi;rw[hr.get] at hoc;cases hoc;exact absurd hw hk
   ·obtain⟨⟨oc,hoc,hw⟩,hn⟩:=c2 (by omega);have:=hI.earlier ht.ok hr hoc h (gi hw hp);rw[hn] at this;cases this
  refine⟨hlt,fun k ok hik hkc hok hw=>?_⟩;by_cases he:k=i
  ·subst he;rw[hr.get] at hok;cases hok;exact hk hw
  ·have h1:=c1 k ok hkc hok hw;have h2:=hI.later ht.ok hr hok (by omega) (l6 hw hp);rw[h2] at h1;cases h1
 have htm:=hI.tm;have hops:=hI.operands ht hr;have hoprel:∀x∈o.op.operands,Rel E w (ev (s i).T x) (a.eval x):=fun x hx=>by rw[←hops x hx];exact iK htm x
 have hst:=ht.step i o hr.get;generalize hsi:s (i+1)=s' at hst;generalize hri:r i=q at hst
 have same:∀(v:Value),Rel E w q v→dok N.n o.dst=true→(s'.H=(s i).H∧s'.nx=(s i).nx)→DInv P N ops s r E₀ w₀ df (L.setIfInBounds i true) (a.put o.dst v) w E:=by
  intro v hv hd ⟨hsH,hsn⟩;subst hri hsi;by_cases hk:opk o.op=.write
  ·obtain⟨h1,h2,h3⟩:=hI.move ht h0 hr hk;exact h3 v w E (Ext.refl _ _) hI.env hv hd (by rw[hsH,hsn];exact h1) (by rw[hsn];exact h2)
  ·exact hI.stay ht hr hk (Ext.refl _ _) hI.env hv hd (fun _ _=>.inr rfl) rfl rfl h0 hc c1 c2 c4 c5 c3
 cases hst with
 |skip hg hd=>
  rw[hI.guard ht hr hg];simp only[cI,if_false];exact⟨fun _ _=>trivial,hK _ _ _ (same Go.undef (eA _ _) hd ⟨rfl,rfl⟩)⟩
 |val _ hff hg hd h=>
  rw[hI.guard ht hr hg];simp only[if_true];have hnd:=kE h;have hcong:=eR (P:=P) (T:=TL ops (s 0).T r L) (T':=(s i).T) (H:=(s i).H) hops
  obtain⟨v,h1,h2⟩:∃v,(execOp a.eval o).run P w=.ok (.value v) w∧Rel E w q v:=by
   rcases wq h with hk|hk
   ·rw[←hcong,kW (H':=(s c).H) hk] at h;exact ik c3 htm h
   ·cases hq:gf fr.isSome o.op with
    |false=>
     rw[←hcong] at h;exact ik (touch c hc c3 (pos hq (by rw[hk];decide))) htm h
    |true=>
     have hl:eJ o.op=true∧fr.isSome=true:=by
      simp only[gf,hk,im,dl] at hq;rcases hq with hq|hq
      ·exact absurd hq (by decide)
      ·exact hq.symm
     obtain⟨m,hm⟩:=xG.1 hl.2;have hfo:=hff m hm
     have hH:bX P (s i).T (s i).H o.op=bX P (s i).T (s c).H o.op:=by
      generalize o.op=op at hl hfo;cases op<;>first|(simp[eJ] at hl;done)|skip
      rename_i t p;simp only[bX];refine wI (fun b n off hp=>?_);simp only[mg,hp,jA] at hfo;rw[ht.old h0 hm i (by omega) b hfo,ht.old h0 hm c hc b hfo]
     rw[hH,←eR (P:=P) (T:=TL ops (s 0).T r L) (T':=(s i).T) (H:=(s c).H) hops] at h;exact ik c3 htm h
  refine⟨fun _ _=>trivial,?_⟩;rw[fq hnd,h1,Oper.uponIn_value];exact hK _ _ _ (same v h2 hd ⟨rfl,rfl⟩)
 |call _ f args argTypes g caps hg hd ho hf hp=>
  rw[hI.guard ht hr hg];simp only[if_true];have hk:opk o.op=.touch:=by rw[ho];rfl
  have hkw:opk o.op≠.write:=by rw[hk];decide
  have hh:=touch c hc c3 (pos (n8 (by rw[hk];decide) (by rw[ho];rfl)) hkw);have hfr:=hoprel f (by rw[ho];simp[Op.operands,Call.operands]);rw[hf] at hfr;generalize hev:a.eval f=vf at hfr;cases hfr with
  |func _ _ cv hl hcr=>
  have hargs:cJ E w (args.toList.map (ev (s i).T)++caps) (args.toList.map a.eval++cv):=by
   refine⟨by simp[hl],fun j x y hx hy=>?_⟩;rw[List.getElem?_append] at hx hy;simp only[dM] at hx hy;split at hx
   ·rename_i hlt;rw[if_pos hlt] at hy;rw[jW] at hx hy;cases hj:args.toList[j]? with
    |none=>rw[hj] at hx;cases hx
    |some z=>
     rw[hj] at hx hy;cases hx;cases hy;exact hoprel z (by rw[ho];simp only[Op.operands,Call.operands];exact o7.2 (.inr (by simpa using fh hj)))
   ·rename_i hlt;rw[if_neg hlt] at hy;exact hcr _ _ _ hx hy
  have hcalls:=hp.2 E _ w _ hI.env hh hargs;refine⟨fun _ _=>trivial,?_⟩;rw[fq (by rw[ho];intro c;simp),jN ho hev hp.1,Oper.uponIn_enter];refine⟨(fun h=>by cases h),?_⟩
  have harr:args.map a.eval++cv.toArray=(args.toList.map a.eval++cv).toArray:=by
   rw[fL];simp
  rw[harr];refine(il hcalls).mono ?_;rintro e w' ⟨v,E',rfl,hb,he,hE',hmu,himm,hsp,hlp,hrel⟩;refine hK _ _ E' ?_;subst hri;exact hI.stay ht hr hkw he hE' hrel hd (fun b m=>.inr (by rw[hmu])) hsp hlp h0 hc c1 c2 c4 c5 (c3.below he hb hmu himm hsp)
 |eff _ H' nx' hff hg hd h=>
  rw[hI.guard ht hr hg];simp only[if_true];have hnd:=kK h;have hcong:=jZ (P:=P) (T:=TL ops (s 0).T r L) (T':=(s i).T) (H:=(s i).H) (nx:=(s i).nx) hops;rcases gy h with hk|hk
  ·have hkw:opk o.op≠.write:=by rw[hk];decide
   have hkp:gf fr.isSome o.op=false:=gj hk;obtain⟨sm,hsm,hrun⟩:=oE (E:=E) (w:=w) hk hoprel h;refine⟨fun _ _=>trivial,?_⟩;rw[fq hnd,hsm];rcases hrun with⟨rfl,rfl,v,ob,h1,h2⟩|⟨cells,vals,ty,v,rfl,rfl,h1,h2,h3,h4⟩
   ·have e:(do pure (Next.value (←sm)):Sem Next).run P w=.ok (.value v) (w.alloc ob):=by
      simp only[bj,h1,bg];rfl
    rw[e,Oper.uponIn_value];refine hK _ _ E ?_;subst hri;exact hI.stay ht hr hkw (Ext.alloc E w ob hI.env) (hI.env.alloc c3.size ob) (h2 _ _) hd (fun b m=>.inr rfl) rfl rfl h0 hc c1 c2 c4 c5 (c3.alloc hI.env ob)
   ·have e:(do pure (Next.value (←sm)):Sem Next).run P w=.ok (.value v) (w.alloc (.cells vals ty)):=by
      simp only[bj,h1,bg];rfl
    rw[e,Oper.uponIn_value];have hposc:=pos hkp hkw;have hlt:(s i).nx<(s (i+1)).nx:=by rw[hsi];exact ms _
    have hfresh:=c5 i o hposc.1 hr.get hr.not hk hlt
    have hnew:∀cc,i<cc→cc≤ops.length→(∀k ok,i≤k→k<cc→ops[k]?=some ok→opk ok.op≠.write)→(s cc).H (s i).nx=some cells∧(s i).nx<(s cc).nx:=by
     intro cc h1 h2 h3;obtain⟨k1,k2⟩:=ht.sub h0 cc (show i+1≤cc by omega) h2 (fun k ok hk1 hk2=>h3 k ok (by omega) hk2);refine⟨k1 _ _ ?_,by omega⟩;rw[hsi];simp[am,St.put]
    obtain⟨hnc,hnc2⟩:=hnew c hposc.1 hc hposc.2;obtain⟨E',he,hE',hH,hmu,_,hmo,hms,hml⟩:=c3.place hI.env hnc2 (aM _) (cs':=cells) (fun m x hm=>by rw[hfresh.1] at hm;cases hm) hfresh.2.1 vals ty h2 h3;refine hK _ _ E' ?_;subst hri;refine hI.stay ht hr hkw he hE' (h4 E' _ hmu) hd (fun b m=>?_) hms hml h0 hc c1 c2 c4 c5 (by rw[pS hnc] at hH;exact hH);by_cases hb:b=(s i).nx
    ·exact .inl ⟨hb,hk,hlt⟩
    ·exact .inr (hmo b m hb)
  ·obtain⟨hh,hfr,hmv⟩:=hI.move ht h0 hr hk;rw[←hcong] at h;obtain⟨n,v,w',E',h1,h2,h3,h4,h5,h6,h7⟩:=nK hI.env hh hfr htm h;refine⟨fun _ _=>trivial,?_⟩;rw[fq hnd,h1]
   have hfin:K (a.put o.dst v) w':=by
    refine hK _ _ E' ?_;subst hri;exact hmv v w' E' h3 h4 h6 hd (by rw[hsi];exact h5) (by rw[hsi];exact h7)
   rcases h2 with rfl|⟨rfl,rfl⟩
   ·rw[Oper.uponIn_value];exact hfin
   ·rw[Oper.uponIn_skip];exact hfin
def left(n:Nat)(L:Array Bool):Nat:=(List.range n).countP (fun k=>L.getD k false==false)
theorem fg(L:Array Bool)(i n:Nat)(hi:i<n)(hs:L.size=n)(hn:L.getD i false=false):left n (L.setIfInBounds i true)<left n L:=by
 have key:∀(l:List Nat),i∈l→l.countP (fun k=>(L.setIfInBounds i true).getD k false==false)<l.countP (fun k=>L.getD k false==false)∧True:=by
  have le:∀(l:List Nat),l.countP (fun k=>(L.setIfInBounds i true).getD k false==false)≤l.countP (fun k=>L.getD k false==false):=by
   intro l;refine List.countP_mono_left (fun k _ h=>?_);rw[cr L i k (by omega)] at h;split at h
   ·cases h
   ·exact h
  intro l
  induction l with
  |nil=>intro h;cases h
  |cons x l ih=>
   intro h;refine⟨?_,trivial⟩;rw[List.countP_cons,List.countP_cons,cr L i x (by omega)];by_cases hx:x=i
   ·subst hx;have:=le l;rw[if_pos rfl,hn,if_neg (by decide),if_pos (by decide)];omega
   ·rw[if_neg hx];rcases fo.1 h with rfl|h
    ·exact absurd rfl hx
    ·have:=(ih h).1;omega
 exact(key _ (en.2 hi)).1
theorem kN(L:Array Bool):∀n,(∀k,k<n→L.getD k false=true)∨ ∃k,k<n∧L.getD k false=false∧∀j,j<k→L.getD j false=true
 |0=>.inl (fun k h=>by omega)
 |n+1=>by
  rcases kN L n with h|⟨k,h1,h2⟩
  ·cases hn:L.getD n false with
   | true=>exact .inl (fun k hk=>by
       by_cases e:k=n
       ·subst e;exact hn
       ·exact h k (by omega))
   |false=>exact .inr ⟨n,by omega,hn,h⟩
  ·exact .inr ⟨k,by omega,h2⟩
theorem DInv.some_ready(hI:DInv P N ops s r E₀ w₀ df L a w E)(ht:Txt P N fr ops s r)(h:Region.ready .any ops.toArray L=[]):∀k,k<ops.length→L.getD k false=true:=by
 rcases kN L ops.length with h1|⟨k,hk,hn,hall⟩
 ·exact h1
 ·exfalso;obtain⟨o,ho⟩:=bW hk
  have:k∈Region.ready .any ops.toArray L:=by
   refine mem_ready.2 ⟨?_,o,by simpa using ho,fun e he hb=>hall _ ?_⟩
   ·have:k<L.size:=by rw[hI.lsz];exact hk
    simp[this] at hn ⊢;exact hn
   ·refine(fS ht.ok).1 k o ho e.on ?_;simp only[cX,dp,fQ];exact⟨e,⟨by simpa using he,hb⟩,rfl⟩
  rw[h] at this;cases this
theorem DInv.final(hI:DInv P N ops s r E₀ w₀ df L a w E)(ht:Txt P N fr ops s r)(hall:∀k,k<ops.length→L.getD k false=true)(hdf:lS E₀ N w₀ df):Sim E N (s ops.length) a w:=by
 obtain⟨c,hc,c1,c2,c3,c4,c5⟩:=hI.cur
 have hcl:c=ops.length:=by
  rcases oV c ops.length with h|h
  ·have:=(c2 h).2;rw[hall c h] at this;cases this
  ·omega
 subst hcl;refine⟨hI.env,c3,c4,fun l hl=>let ⟨b,x,h1,h2⟩:=hI.rnd l hl;⟨b,x,hI.ext.lp _ _ h1,hI.ext.sp _ _ h2⟩,fR hI.flr hI.ext.size,hI.asz,fun t=>?_,by rw[hI.defs];exact hdf.ext hI.ext⟩
 ·have:=hI.tm t;rw[ht.temps t _ (aM _)];unfold TL at this;cases hw:wtr ops t with
  |none=>rw[hw] at this;exact this
  |some j=>
   rw[hw] at this;obtain⟨oj,hj,_⟩:=iT hw;have hlt:=(bC.1 hj).1;simp only[hall j hlt,if_true] at this;simp only[if_pos hlt];exact this
theorem pE{rr:Option Nat}{Q:Exit→Act→World→Prop}(ht:Txt P N fr ops s r)(h0:Dom (s 0).H (s 0).nx)(hdf:lS E₀ N w₀ df)
    (hQ:∀E' a' w',Ext E₀ w₀ E' w'→Sim E' N (s ops.length) a' w'→Q .normal a' w'):
    ∀(fuel:Nat)(L:Array Bool)(a:Act)(w:World)(E:Env),DInv P N ops s r E₀ w₀ df L a w E→left ops.length L≤fuel→wpAnyIn (FW rr) 0 P .any ops.toArray Q fuel L a w
 |0,L,a,w,E,hI,hl=>by
  have hall:∀k,k<ops.length→L.getD k false=true:=by
   rcases kN L ops.length with h1|⟨k,hk,hn,hall⟩
   ·exact h1
   ·exfalso;have:left ops.length (L.setIfInBounds k true)<left ops.length L:=fg L k _ hk hI.lsz hn;omega
  have hr:Region.ready .any ops.toArray L=[]:=by
   refine zI.2 (fun i hi=>?_);obtain⟨o,ho⟩:=fp hI.lsz hi;have:=hall i (bC.1 ho.get).1;rw[ho.not] at this;cases this
  exact⟨hr,hQ E a w hI.ext (hI.final ht hall hdf)⟩
 |fuel+1,L,a,w,E,hI,hl=>by
  refine⟨fun hr=>hQ E a w hI.ext (hI.final ht (hI.some_ready ht hr) hdf),fun i hi=>?_⟩;obtain⟨o,ho⟩:=fp hI.lsz hi;refine hI.step ht h0 ho (fun a' w' E' hI'=>pE ht h0 hdf hQ fuel _ a' w' E' hI' ?_);have:=fg L i ops.length (bC.1 ho.get).1 hI.lsz ho.not;omega
theorem zG{rr:Option Nat}{Q:Exit→Act→World→Prop}{rid:Nat}(hm:P.follows .mixedOrders=true)(ht:Txt P N fr ops s r)(hS:Sim E₀ N (s 0) a w₀)
    (hQ:∀E' a' w',Ext E₀ w₀ E' w'→Sim E' N (s ops.length) a' w'→Q .normal a' w'):(Code.region rid ops.toArray true).wpIn (FW rr) 0 P Q a w₀:=by
 refine wpIn_region_any hm ?_;have hdr:({w₀ with drawn:=w₀.drawn+1}:World).heap=w₀.heap:=rfl;have hext:Ext E₀ w₀ E₀ {w₀ with drawn:=w₀.drawn+1}:=Ext.same hdr;have h0:Dom (s 0).H (s 0).nx:=hS.heap.dom;refine pE (E₀:=E₀) (w₀:=w₀) (df:=a.defers) ht h0 hS.defers hQ _ _ _ _ E₀ ?_ (by rw[List.size_toArray];unfold left;exact fR List.countP_le_length (by simp))
 have hfalse:∀k,(Array.replicate ops.toArray.size false).getD k false=false:=by
  intro k;simp only[sA,Array.getElem?_replicate];split<;>rfl
 have hex:∃c,c≤ops.length∧(∀k o,k<c→ops[k]?=some o→opk o.op≠.write)∧(c<ops.length→∃o,ops[c]?=some o∧opk o.op=.write):=by
  have:∀m,m≤ops.length→(∃c,c≤ops.length∧(∀k o,k<c→ops[k]?=some o→opk o.op≠.write)∧(c<ops.length→∃o,ops[c]?=some o∧opk o.op=.write))∨(∀k o,k<m→ops[k]?=some o→opk o.op≠.write):=by
   intro m
   induction m with
   |zero=>intro _;exact .inr (fun k o h=>by omega)
   |succ m ih=>
    intro h2;rcases ih (by omega) with h|h
    ·exact .inl h
    ·obtain⟨om,hom⟩:=bW (ops:=ops) (i:=m) (by omega);by_cases hw:opk om.op=.write
     ·exact .inl ⟨m,by omega,h,fun _=>⟨om,hom,hw⟩⟩
     ·refine .inr (fun k o h4 h5=>?_);by_cases hkm:k=m
      ·subst hkm;rw[hom] at h5;cases h5;exact hw
      ·exact h k o (by omega) h5
  rcases this ops.length (aM _) with h|h
  ·exact h
  ·exact⟨ops.length,aM _,h,fun h=>by omega⟩
 obtain⟨c,hc,c1,c2⟩:=hex;have hsub:=ht.sub h0 c (cu _) hc (fun k o _ h2 h3=>c1 k o h2 h3);refine⟨by simp,?_,hS.env.drew,hext,hS.size,fun t=>?_,rfl,hS.round,hS.floor,c,hc,fun k o h1 h2 h3=>absurd h3 (c1 k o h1 h2),fun h=>⟨c2 h,hfalse _⟩,?_,hS.fresh.le hsub.2,?_⟩
 ·intro j i h1;rw[hfalse] at h1;cases h1
 ·unfold TL;have:=(hS.tmps t).ext hext;cases wtr ops t with
  |none=>exact this
  |some j=>simp only[hfalse];exact this
 ·refine(hS.heap.same hdr).more (fun b cs hb=>?_) (ht.dom h0 c hc);refine(ht.new h0 c (cu _) hc (fun k o _ h2 h3=>c1 k o h2 h3) b cs hb).imp id (fun h=>⟨hS.fresh b h.1,h.2⟩)
 ·intro k o h1 h2 _ _ _;exact hS.fresh _ (ht.nx_mono h0 k (cu _) (by omega))
end
end Go.Abs
namespace Go.Abs
open Go.RowKit
abbrev Tm:=Nat→AV
abbrev Hp:=Nat→Option (List AV)
abbrev SP:=Tm→Hp→Nat→Prop
inductive AEx where
 |normal|exit (id:Nat)|ret
def aB{α:Type}(x:Option α)(K:α→Prop):Prop:=match x with|some a=>K a|none=>False
@[congr] theorem obind_congr {α:Type} {x y:Option α} {K:α→Prop} (h:x=y):aB x K=aB y K:=by rw[h]
def aX(x:Option Bool)(A B:Prop):Prop:=match x with|some true=>A|some false=>B|none=>False
@[congr] theorem gbind_congr {x y:Option Bool} {A B:Prop} (h:x=y):aX x A B=aX y A B:=by rw[h]
def aU(x:Bool)(A:Prop):Prop:=x=true∧A
@[congr] theorem bbind_congr {x y:Bool} {A:Prop} (h:x=y):aU x A=aU y A:=by rw[h]
def a9(v:AV)(A B:Prop):Prop:=match v with|.bool b=>(b=true→A)∧(b=false→B)|_=>False
@[congr] theorem acond_congr {v v':AV} {A B:Prop} (h:v=v'):a9 v A B=a9 v' A B:=by rw[h]
def aZ(P:Program)(g:FuncId)(args:List AV)(H:Hp)(K:AV→Prop):Prop:=∃r,lM P g args H r∧K r
@[congr] theorem PCall_congr {P:Program} {g:FuncId} {args args':List AV} {H H':Hp} {K:AV→Prop} (h:args=args') (h2:H=H'):aZ P g args H K=aZ P g args' H' K:=by rw[h,h2]
theorem aZ.of_pure{P:Program}{f:FuncId}{args args':List AV}{r:AV}{H:Hp}{K:AV→Prop}(hp:Pure P f args' r)(hs:ax H args args' r)(hR:K r):aZ P f args H K:=⟨_,hp.callOk hs,hR⟩
theorem aZ.of_callOk{P:Program}{f:FuncId}{args:List AV}{r:AV}{H:Hp}{K:AV→Prop}(hp:lM P f args H r)(hR:K r):aZ P f args H K:=⟨_,hp,hR⟩
def kA(v:AV):Option (FuncId×List AV):=match v with|.func g caps=>some (g,caps)|_=>none
def iH:Op→Option (Operand×Array Operand)
 |.call {callee:=.value f,args:=args,argTypes:=_}=>some (f,args)
 |_=>none
theorem jo{op:Op}{f:Operand}{args:Array Operand}(h:iH op=some (f,args)):∃ts,op=.call {callee:=.value f,args:=args,argTypes:=ts}:=by
 unfold iH at h;split at h
 ·cases h;exact⟨_,rfl⟩
 ·cases h
inductive OpC where
 |val|eff|call|other
def opc:Op→OpC
 |.call {callee:=.value _,..}=>.call
 |op=>match opk op with
  |.pure|.touch=>.val
  |.alloc|.write=>.eff
  |.other=>.other
inductive DM where
 |text|draw|fresh (m:Nat)
def DM.fr:DM→Option Nat
 |.fresh m=>some m
 |_=>none
def DM.isText:DM→Bool
 |.text=>true
 |_=>false
def ny(dm:DM)(T:Tm)(op:Op):Bool:=match dm with
 |.fresh m=>mg T op m
 |_=>true
def gB(P:Program)(dm:DM)(op:Op)(T:Tm)(H:Hp)(nx:Nat)(K:AV→Hp→Nat→Prop):Prop:=
 match opc op with
 |.val=>aU (ny dm T op) (aB (bX P T H op) fun r=>K r H nx)
 |.eff=>aU (ny dm T op) (aB (d9 P T H nx op) fun x=>K x.1 x.2.1 x.2.2)
 |.call=>aB (iH op) fun x=>aB (kA (ev T x.1)) fun y=>match dm.isText with
  |false=>aZ P y.1 (x.2.toList.map (ev T)++y.2) H fun r=>K r H nx
  |true=>Fn P y.1 (x.2.toList.map (ev T)++y.2) H nx K
 |.other=>False
def ce(P:Program)(op:Op)(T:Tm)(H:Hp)(nx:Nat)(K:AV→Hp→Nat→Prop):Prop:=
 (∀c,op≠.defer c)∧∀(rr:Option Nat)(E:Env)(w:World)(a:Act)(o:Oper)(next:Act→World→Prop)(Q:Exit→Act→World→Prop),o.op=op→EnvOk E w→HeapOk E H nx w→bT E nx→(∀x∈op.operands,Rel E w (ev T x) (a.eval x))→
  (∀(E':Env)(H':Hp)(nx':Nat)(r:AV)(v:Value)(w':World),Ext E w E' w'→EnvOk E' w'→HeapOk E' H' nx' w'→bT E' nx'→Rel E' w' r v→K r H' nx'→next (a.put o.dst v) w')→
  o.uponIn (FW rr) 0 P a next Q ((execOp a.eval o).run P w)
def mw(P:Program)(dm:DM)(op:Op)(T:Tm)(H:Hp)(nx:Nat)(K:AV→Hp→Nat→Prop):Prop:=
 gB P dm op T H nx K∨(dm.isText=true∧ce P op T H nx K)
def aop(P:Program)(n:Nat)(dm:DM)(dsts:List (Option Nat))(o:Oper)(T:Tm)(H:Hp)(nx:Nat)(K:SP):Prop:=
 aU (dok n o.dst) (aX (gval T dsts o.guard) (mw P dm o.op T H nx fun r H' nx'=>K (aH T o.dst r) H' nx') (K (aH T o.dst (.tup [])) H nx))
def kX(P:Program)(n:Nat)(dm:DM)(dsts:List (Option Nat)):List Oper→Tm→Hp→Nat→SP→Prop
 |[],T,H,nx,K=>K T H nx
 |o::l,T,H,nx,K=>aop P n dm dsts o T H nx fun T H nx=>kX P n dm dsts l T H nx K
theorem ue{P:Program}{op:Op}{T:Tm}{H:Hp}{nx:Nat}{K K':AV→Hp→Nat→Prop}(h:ce P op T H nx K)(hK:∀r H nx,K r H nx→K' r H nx):ce P op T H nx K':=
 ⟨h.1,fun rr E w a o next Q ho hE hh hf ht hn=>h.2 rr E w a o next Q ho hE hh hf ht (fun E' H' nx' r v w' h1 h2 h3 h4 h5 h6=>hn E' H' nx' r v w' h1 h2 h3 h4 h5 (hK _ _ _ h6))⟩
theorem tV{P:Program}{dm:DM}{op:Op}{T:Tm}{H:Hp}{nx:Nat}{K K':AV→Hp→Nat→Prop}(h:gB P dm op T H nx K)(hK:∀r H nx,K r H nx→K' r H nx):gB P dm op T H nx K':=by
 have ob:∀{α:Type}{x:Option α}{A B:α→Prop},(∀a,A a→B a)→aB x A→aB x B:=by
  intro α x A B hab h;cases x with
  |none=>exact h
  |some a=>exact hab a h
 unfold gB at h ⊢;split at h
 ·exact⟨h.1,ob (fun a=>hK _ _ _) h.2⟩
 ·exact⟨h.1,ob (fun a=>hK _ _ _) h.2⟩
 ·refine ob (fun a=>ob (fun b=>?_)) h;intro h;cases hd:dm.isText with
  |false=>rw[hd] at h;obtain⟨r,h1,h3⟩:=h;exact⟨r,h1,hK _ _ _ h3⟩
  |true=>rw[hd] at h;exact Fn.mono h hK
 ·exact h
theorem fV{P:Program}{dm:DM}{op:Op}{T:Tm}{H:Hp}{nx:Nat}{K K':AV→Hp→Nat→Prop}(h:mw P dm op T H nx K)(hK:∀r H nx,K r H nx→K' r H nx):mw P dm op T H nx K':=
 h.imp (fun h=>tV h hK) (fun h=>⟨h.1,ue h.2 hK⟩)
theorem xa{P:Program}{N:Nat}{dm:DM}{dsts:List (Option Nat)}{o:Oper}{T:Tm}{H:Hp}{nx:Nat}{K K':SP}(h:aop P N dm dsts o T H nx K)(hK:∀T H nx,K T H nx→K' T H nx):aop P N dm dsts o T H nx K':=by
 unfold aop at h ⊢;refine⟨h.1,?_⟩;have h:=h.2;cases hg:gval T dsts o.guard with
 |none=>rw[hg] at h;exact h.elim
 |some b=>
  rw[hg] at h;cases b with
  |true=>exact fV (K:=fun r H' nx'=>K (aH T o.dst r) H' nx') h (fun _ _ _=>hK _ _ _)
  |false=>exact hK _ _ _ h
theorem jn{P:Program}{N:Nat}{dm:DM}{dsts:List (Option Nat)}{K K':SP}(hK:∀T H nx,K T H nx→K' T H nx):∀(l:List Oper){T:Tm}{H:Hp}{nx:Nat},kX P N dm dsts l T H nx K→kX P N dm dsts l T H nx K'
 |[],_,_,_,h=>hK _ _ _ h
 |o::l,_,_,_,h=>xa h (fun _ _ _=>jn hK l)
def AH(T T':Tm):Prop:=∀t,T' t=T t∨T' t=.undef
theorem AH.refl(T:Tm):AH T T:=fun _=>.inl rfl
theorem Sim.weak{E:Env}{N:Cfg}{T T':Tm}{H:Hp}{nx:Nat}{a:Act}{w:World}(h:Sim E N ⟨T,H,nx⟩ a w)(hw:AH T T'):Sim E N ⟨T',H,nx⟩ a w:=
 ⟨h.env,h.heap,h.fresh,h.round,h.floor,h.size,fun t=>by
  show Rel E w (T' t) _;rcases hw t with e|e
  ·rw[e];exact h.tmps t
  ·rw[e];exact .undef _,h.defers⟩
def GhV(Hf:Hp)(nx nx':Nat)(x x':AV):Prop:=x'=x∨Snap Hf x x'∨(x=.esl∧∃b sz,x'=.msl b 0 sz 0 0∧nx≤b∧b<nx')
structure Gh(T:Tm)(H:Hp)(nx:Nat)(T':Tm)(H':Hp)(nx':Nat)(Hf:Hp):Prop where
 sub:∀b cs,Hf b=some cs→H b=some cs
 le:nx≤nx'
 heap:∀b cs',H' b=some cs'→(∃cs,H b=some cs∧Hf b=none∧cs'.length=cs.length∧∀(i:Nat)(x x':AV),cs[i]?=some x→cs'[i]?=some x'→GhV Hf nx nx' x x')∨(cs'=[]∧nx≤b∧b<nx')
 tmps:∀t,T' t=.undef∨GhV Hf nx nx' (T t) (T' t)
theorem Gh.refl(T:Tm)(H:Hp)(nx:Nat):Gh T H nx T H nx bA:=
 ⟨fun _ _ h=>(by cases h),aM _,fun b cs h=>.inl ⟨cs,h,rfl,rfl,fun i x x' h1 h2=>.inl (by rw[h1] at h2;cases h2;rfl)⟩,fun t=>.inr (.inl rfl)⟩
theorem HeapOk.blk_cells{E:Env}{H:Hp}{nx:Nat}{w:World}(h:HeapOk E H nx w){b:Nat}{cs:List AV}{blk sz:Nat}(hb:H b=some cs)(hm:E.mu b cs.length=some (blk,sz)):∃vals ty fz,w.heap[blk]?=some (.cells vals ty fz):=by
 rcases h.box b cs hb with hn|⟨blk',sz',hx⟩
 ·rw[hn] at hm;cases hm
 ·rw[hx.mu] at hm;cases hm;obtain⟨vals,ty,fz,h1,_⟩:=hx.cells;exact⟨vals,ty,fz,h1⟩
theorem GhV.sound{E:Env}{H Hf:Hp}{nx nx':Nat}{w:World}(hh:HeapOk E H nx w)(hsub:∀b cs,Hf b=some cs→H b=some cs){x x':AV}(h:GhV Hf nx nx' x x'){v:Value}(hv:Rel E w x v):
    Rel {E with imm:=fun b=>E.imm b∨eF E Hf b} w x' v:=by
 rcases h with rfl|h|⟨rfl,b,sz,rfl,_,_⟩
 ·exact hv.mono (E':={E with imm:=fun b=>E.imm b∨eF E Hf b}) (fun _ h=>.inl h) (fun _ _ _ h=>h) (fun _ _ h=>h)
 ·have hf:HeapOk E Hf nx w:=hh.fewer hsub (fun b cs hb=>hh.dom b cs (hsub b cs hb));exact Rel.mono (E:=E0 fun b=>E.imm b∨eF E Hf b) (E':={E with imm:=fun b=>E.imm b∨eF E Hf b}) (fun _ h=>h) (fun _ _ _ h=>(by cases h)) (fun _ _ h=>(by cases h)) (h.sound hf hv)
 ·cases hv with
  |eslnil=>exact .msl0 _ _ _ (.inl rfl)
  |esl a=>exact .msl0 _ _ _ (.inr ⟨_,rfl⟩)
theorem Sim.ghost{E:Env}{N:Cfg}{T T':Tm}{H H' Hf:Hp}{nx nx':Nat}{a:Act}{w:World}(h:Sim E N ⟨T,H,nx⟩ a w)(hg:Gh T H nx T' H' nx' Hf):∃E',Ext E w E' w∧Sim E' N ⟨T',H',nx'⟩ a w:=by
 have hh:=h.heap;have hfr:=h.fresh;simp only at hh hfr;have hblk:∀b,eF E Hf b→b<w.heap.size∧E.base≤b∧¬E.imm b:=fun b ⟨b',cs,sz,h1,h2⟩=>hh.blk_lt (hg.sub _ _ h1) h2
 have he:Ext E w {E with imm:=fun b=>E.imm b∨eF E Hf b} w:=
  ⟨rfl,rfl,fun _ h=>.inl h,fun b hb=>hb.imp id (fun h=>(hblk b h).2.1),fun _ _ _ h=>h,fun _ _ h=>h,fun _ _ h=>h,fun _ h=>⟨h,rfl⟩,aM _,fun _ _=>rfl⟩
 have hEs:EnvOk { E with imm:=fun b=>E.imm b ∨ eF E Hf b } w:=h.env.step he (fun b hb=>hb.imp id (fun h=>(hblk b h).1)) (fun k hk=>hk.imp id (fun ⟨b',cs,sz,h1,h2⟩ b hb=>by
  obtain⟨vals,ty,fz,hc⟩:=hh.blk_cells (hg.sub _ _ h1) h2;obtain⟨_,_,o,ho,hno,_⟩:=h.env.spb b k hb;rw[hc] at ho;cases ho;cases hno)) (Below.refl _ _) (dy.refl _) rfl rfl rfl (fun _ _ _ _=>rfl)
 refine⟨_,he,hEs,?_,fun b hb=>hfr b (fR hg.le hb),fun l hl=>h.round l hl,h.floor,h.size,fun t=>?_,h.defers.ext he⟩
 ·refine⟨fun b cs' hb=>?_,fun b cs' hb=>?_,fun b b' cs1 cs2 blk sz blk' sz' hb hb' hne m1 m2=>?_,hh.size,fun b cs' m x hb hm=>?_,fun b x hb hx=>?_,fun b hb=>?_⟩
  ·rcases hg.heap b cs' hb with⟨cs,h1,h2,h3,h4⟩|⟨rfl,h1,h2⟩
   ·rw[h3];rcases hh.box b cs h1 with hn|⟨blk,sz,hx⟩
    ·exact .inl hn
    ·refine .inr ⟨blk,sz,by rw[h3];exact hx.mu,hx.base,?_,?_⟩
     ·rintro(hi|⟨b',cs1,sz',k1,k2⟩)
      ·exact hx.imm hi
      ·have hne:b≠b':=fun e=>by subst e;rw[h2] at k1;cases k1
       exact hh.apart b b' cs cs1 blk sz blk sz' h1 (hg.sub _ _ k1) hne hx.mu k2 rfl
     ·obtain⟨vals,ty,fz,k1,kz,k2,k3,k4⟩:=hx.cells;refine⟨vals,ty,fz,k1,kz,k2,by omega,fun i x' hx'=>?_⟩;have hlt:i<cs.length:=by have:=(bC.1 hx').1;omega
      obtain⟨v,e1,e2,e3⟩:=k4 i cs[i] (by simp[hlt]);exact⟨v,e1,e2,(h4 i _ x' (by simp[hlt]) hx').sound hh hg.sub e3⟩
   ·exact .inl ((hfr b h1).1 _)
  ·rcases hg.heap b cs' hb with⟨cs,h1,_⟩|⟨_,_,h2⟩
   ·exact vR (hh.dom _ _ h1) hg.le
   ·exact h2
  ·rcases hg.heap b cs1 hb with⟨ds1,h1,_,h1',_⟩|⟨_,h1,_⟩
   ·rcases hg.heap b' cs2 hb' with⟨ds2,h2,_,h2',_⟩|⟨_,h2,_⟩
    ·rw[h1'] at m1;rw[h2'] at m2;exact hh.apart b b' ds1 ds2 blk sz blk' sz' h1 h2 hne m1 m2
    ·have:=(hfr b' h2).1 cs2.length;rw[this] at m2;cases m2
   ·have:=(hfr b h1).1 cs1.length;rw[this] at m1;cases m1
  ·rcases hg.heap b cs' hb with⟨cs,h1,_,h3,_⟩|⟨_,h1,_⟩
   ·rw[h3];exact hh.top b cs m x h1 hm
   ·have:=(hfr b h1).1 m;rw[this] at hm;cases hm
  ·rcases hg.heap b [x] hb with⟨cs,h1,_,h3,h4⟩|⟨hn,_⟩
   ·match cs,h3 with
    |[y],_=>
     have e:x=y:=by
      rcases h4 0 y x rfl rfl with e|e|⟨_,_,_,e,_⟩
      ·exact e
      ·exfalso;cases e<;>cases hx
      ·subst e;cases hx
     subst e;obtain⟨k,k1,k2⟩:=hh.spec b x h1 hx;exact⟨k,k1,k2.ext he (fun _ _ _ h _=>h)⟩
   ·cases hn
  ·rcases hg.heap b [] hb with⟨cs,h1,_,h3,_⟩|⟨_,h1,_⟩
   ·exact hh.nsp b (by rw[h1,e8.1 h3.symm])
   ·exact(hfr b h1).2.1
 ·show Rel _ w (T' t) _;rcases hg.tmps t with e|e
  ·rw[e];exact .undef _
  ·exact e.sound hh hg.sub (h.tmps t)
def aV(e:AEx)(A B:Prop):Prop:=match e with|.normal=>A|_=>B
@[congr] theorem athen_congr {e e':AEx} {A B:Prop} (h:e=e'):aV e A B=aV e' A B:=by rw[h]
def lj(id:Nat):AEx→AEx
 |.exit i=>if i=id then .normal else .exit i
 |e=>e
abbrev CP:=AEx→SP
def qW(body:Tm→Hp→Nat→CP→Prop)(K:CP):Nat→Tm→Hp→Nat→Prop
 |0,_,_,_=>False
 |n+1,T,H,nx=>∃T' H' nx' Hf,Gh T H nx T' H' nx' Hf∧body T' H' nx' fun e T H nx=>aV e (qW body K n T H nx) (K e T H nx)
def a7(body:Tm→Hp→Nat→CP→Prop)(T:Tm)(H:Hp)(nx:Nat)(K:CP):Prop:=∃n,qW body K n T H nx
def AEx.cv:AEx→Exit
 |.normal=>.normal
 |.exit i=>.exit i
 |.ret=>.ret
def fG(P:Program)(N:Cfg)(E:Env)(w:World)(K:CP):Exit→Act→World→Prop:=fun e a' w'=>
 ∃x E' T H nx,e=AEx.cv x∧Ext E w E' w'∧Sim E' N ⟨T,H,nx⟩ a' w'∧K x T H nx
theorem fG.trans{P:Program}{N:Cfg}{E E':Env}{w w':World}{K:CP}(he:Ext E w E' w'){e:Exit}{a:Act}{w'':World}(h:fG P N E' w' K e a w''):fG P N E w K e a w'':=by
 obtain⟨x,E'',T,H,nx,h1,h2,h3,h4⟩:=h;exact⟨x,E'',T,H,nx,h1,he.trans h2,h3,h4⟩
theorem fG.mono{P:Program}{N:Cfg}{E:Env}{w:World}{K K':CP}(hK:∀e T H nx,K e T H nx→K' e T H nx){e:Exit}{a:Act}{w':World}(h:fG P N E w K e a w'):fG P N E w K' e a w':=by
 obtain⟨x,E',T,H,nx,h1,h2,h3,h4⟩:=h;exact⟨x,E',T,H,nx,h1,h2,h3,hK _ _ _ _ h4⟩
def RF(P:Program)(n:Nat)(c:Code)(T:Tm)(H:Hp)(nx:Nat)(K:CP):Prop:=
 ∀(N:Cfg)(E:Env)(a:Act)(w:World),N.n=n→Sim E N ⟨T,H,nx⟩ a w→c.wpIn (FW N.rd) 0 P (fG P N E w K) a w
theorem RF.mono{P:Program}{n:Nat}{c:Code}{T:Tm}{H:Hp}{nx:Nat}{K K':CP}(h:RF P n c T H nx K)(hK:∀e T H nx,K e T H nx→K' e T H nx):RF P n c T H nx K':=
 fun N E a w hn hS=>wpIn_mono (h N E a w hn hS) (fun _ _ _=>fG.mono hK)
theorem Sim.put{E E':Env}{N:Cfg}{T:Tm}{H H':Hp}{nx nx':Nat}{a:Act}{w w':World}(h:Sim E N ⟨T,H,nx⟩ a w)(he:Ext E w E' w')(hE:EnvOk E' w')(hH:HeapOk E' H' nx' w')(hf:bT E' nx')
    {d:Option Nat} (hd:dok N.n d=true) {r:AV} {v:Value} (hr:Rel E' w' r v):Sim E' N ⟨aH T d r,H',nx'⟩ (a.put d v) w':=by
 refine⟨hE,hH,hf,fun l hl=>let ⟨b,x,h1,h2⟩:=h.round l hl;⟨b,x,he.lp _ _ h1,he.sp _ _ h2⟩,fR h.floor he.size,?_,fun t=>?_,?_⟩
 ·cases d with
  |none=>exact h.size
  |some d=>simp[Act.put,h.size]
 ·cases d with
  |none=>exact(h.tmps t).ext he
  |some d=>
   simp only[dok,jA] at hd;simp only[aH,upd,Act.put];by_cases hdt:t=d
   ·subst hdt;rw[if_pos rfl];have:t<a.tmps.size:=by rw[h.size];exact hd
    simp[this];exact hr
   ·rw[if_neg hdt];have:=(h.tmps t).ext he
    have e:(a.tmps.setIfInBounds d v).getD t Go.undef=a.tmps.getD t Go.undef:=by
     simp only[sA];rw[wY (Ne.symm hdt)]
    rw[e];exact this
 ·have:(a.put d v).defers=a.defers:=by cases d<;>rfl
  rw[this];exact h.defers.ext he
theorem ju{P:Program}{N:Cfg}{rr:Option Nat}{ops:Array Oper}{Q:Exit→Act→World→Prop}{next:Act→World→Prop}{o:Oper}{E:Env}{T:Tm}{H:Hp}{nx:Nat}{a:Act}{w:World}{K:SP}(hS:Sim E N ⟨T,H,nx⟩ a w)
    (h:aop P N.n .text (ops.toList.map (·.dst)) o T H nx K) (hK:∀E' T' H' nx' a' w',Ext E w E' w'→Sim E' N ⟨T',H',nx'⟩ a' w'→K T' H' nx'→next a' w'):
    if Region.wanted o (yielded ops a.tmps) then o.wpIn (FW rr) 0 P a w next Q else(∀f,o.about P w a.eval=some f→(FW rr).fn f)∧next (a.put o.dst Go.undef) w:=by
 obtain⟨hd,h⟩:=h
 have hfin:∀E' H' nx' r v w',Ext E w E' w'→EnvOk E' w'→HeapOk E' H' nx' w'→bT E' nx'→Rel E' w' r v→K (aH T o.dst r) H' nx'→next (a.put o.dst v) w':=
  fun E' H' nx' r v w' he hE hH hf hr hk=>hK E' _ _ _ _ _ he (hS.put he hE hH hf hd hr) hk
 cases hg:gval T (ops.toList.map (·.dst)) o.guard with
 |none=>rw[hg] at h;exact h.elim
 |some b=>
  have hw:=nA (E:=E) (w:=w) (a:=a) (o:=o) (fun t _=>hS.tmps t) hg;rw[hg] at h;rw[Array.toArray_toList] at hw;rw[hw];cases b with
  |false=>
   simp only[cI,if_false];exact⟨fun _ _=>trivial,hfin E H nx (.tup []) Go.undef w (Ext.refl _ _) hS.env hS.heap hS.fresh (eA _ _) h⟩
  |true=>
   simp only[if_true];refine⟨fun _ _=>trivial,?_⟩;have h:mw P .text o.op T H nx fun r H' nx'=>K (aH T o.dst r) H' nx':=h;rcases h with h|h
   rotate_left
   ·rw[fq h.2.1];exact h.2.2 rr E w a o next Q rfl hS.env hS.heap hS.fresh (fun x _=>iK hS.tmps x) (fun E' H' nx' r v w' h1 h2 h3 h4 h5 h6=>hfin E' H' nx' r v w' h1 h2 h3 h4 h5 h6)
   unfold gB at h;split at h
   ·obtain⟨_,h⟩:=h;cases ha:bX P T H o.op with
    |none=>rw[ha] at h;exact h.elim
    |some r=>
     rw[ha] at h;obtain⟨v,h1,h2⟩:=ik hS.heap hS.tmps ha;rw[fq (kE ha),h1,Oper.uponIn_value];exact hfin E H nx r v w (Ext.refl _ _) hS.env hS.heap hS.fresh h2 h
   ·obtain⟨_,h⟩:=h;cases ha:d9 P T H nx o.op with
    |none=>rw[ha] at h;exact h.elim
    |some x=>
     obtain⟨r,H',nx'⟩:=x;rw[ha] at h;obtain⟨n,v,w',E',h1,h2,h3,h4,h5,h6,h7⟩:=nK hS.env hS.heap hS.fresh hS.tmps ha;rw[fq (kK ha),h1];have:=hfin E' H' nx' r v w' h3 h4 h5 h7 h6 h;rcases h2 with rfl|⟨rfl,rfl⟩
     ·rw[Oper.uponIn_value];exact this
     ·rw[Oper.uponIn_skip];exact this
   ·cases hc:iH o.op with
    |none=>rw[hc] at h;exact h.elim
    |some x=>
     obtain⟨f,args⟩:=x;rw[hc] at h;obtain⟨ts,ho⟩:=jo hc;have h:aB (kA (ev T f)) fun y=>Fn P y.1 (args.toList.map (ev T)++y.2) H nx fun r H' nx'=>K (aH T o.dst r) H' nx':=h;cases hf:kA (ev T f) with
     |none=>rw[hf] at h;exact h.elim
     |some y=>
      obtain⟨g,caps⟩:=y;rw[hf] at h
      have hev:ev T f=.func g caps:=by
       unfold kA at hf;split at hf
       ·rename_i hh;cases hf;exact hh
       ·cases hf
      have h:Fn P g (args.toList.map (ev T)++caps) H nx fun r H' nx'=>K (aH T o.dst r) H' nx':=h;have hfr:=iK (E:=E) (w:=w) (a:=a) hS.tmps f;simp only at hfr;rw[hev] at hfr;generalize hvf:a.eval f=vf at hfr;cases hfr with
      |func _ _ cv hl hcr=>
      have hargs:cJ E w (args.toList.map (ev T)++caps) (args.toList.map a.eval++cv):=by
       refine⟨by simp[hl],fun j x y hx hy=>?_⟩;rw[List.getElem?_append] at hx hy;simp only[dM] at hx hy;split at hx
       ·rename_i hlt;rw[if_pos hlt] at hy;exact(iM (T:=T) hS.tmps args.toList).2 j x y hx hy
       ·rename_i hlt;rw[if_neg hlt] at hy;exact hcr _ _ _ hx hy
      have hcalls:=h.2 E w _ hS.env hS.heap hS.fresh hargs;rw[fq (by rw[ho];intro c;simp),jN ho hvf h.1,Oper.uponIn_enter];refine⟨(fun h=>by cases h),?_⟩
      have harr:args.map a.eval++cv.toArray=(args.toList.map a.eval++cv).toArray:=by
       rw[fL];simp
      rw[harr];refine(il hcalls).mono ?_;rintro e w' ⟨v,E',r,H',nx',rfl,he,hE',hH',hf',hrel,hk⟩;exact hfin E' H' nx' r v w' he hE' hH' hf' hrel hk
   ·exact h.elim
theorem nL{P:Program}{N:Cfg}{rr:Option Nat}{ops:Array Oper}{Q:Exit→Act→World→Prop}{K:SP}:∀(l:List Oper){E:Env}{T:Tm}{H:Hp}{nx:Nat}{a:Act}{w:World},Sim E N ⟨T,H,nx⟩ a w→
    kX P N.n .text (ops.toList.map (·.dst)) l T H nx K→(∀E' T' H' nx' a' w',Ext E w E' w'→Sim E' N ⟨T',H',nx'⟩ a' w'→K T' H' nx'→Q .normal a' w')→wpListIn (FW rr) 0 P ops Q l a w
 |[],E,T,H,nx,a,w,hS,h,hQ=>hQ E T H nx a w (Ext.refl _ _) hS h
 |o::l,E,T,H,nx,a,w,hS,h,hQ=>by
  have:=ju (rr:=rr) (ops:=ops) (Q:=Q) (next:=wpListIn (FW rr) 0 P ops Q l) hS h (fun E' T' H' nx' a' w' he hS' hk =>
   nL l hS' hk (fun E'' T'' H'' nx'' a'' w'' he'=>hQ E'' T'' H'' nx'' a'' w'' (he.trans he')))
  exact this
theorem nr{P:Program}{N:Cfg}{dm:DM}(hdm:dm.isText=false){dsts:List (Option Nat)}{K:SP}:∀(l:List Oper){T:Tm}{H:Hp}{nx:Nat},kX P N.n dm dsts l T H nx K→
    ∃(s:Nat→St)(r:Nat→AV),s 0=⟨T,H,nx⟩∧(∀i o,l[i]?=some o→DStep P N dm.fr dsts o (s i) (r i) (s (i+1)))∧K (s l.length).T (s l.length).H (s l.length).nx
 |[],T,H,nx,h=>⟨fun _=>⟨T,H,nx⟩,fun _=>.undef,rfl,fun i o h=>(by cases h),h⟩
 |o::l,T,H,nx,h=>by
  have hgo:∀(q:AV)(st':St),DStep P N dm.fr dsts o ⟨T,H,nx⟩ q st'→kX P N.n dm dsts l st'.T st'.H st'.nx K→
      ∃(s:Nat→St)(r:Nat→AV),s 0=⟨T,H,nx⟩∧(∀i o',(o::l)[i]?=some o'→DStep P N dm.fr dsts o' (s i) (r i) (s (i+1)))∧K (s (o::l).length).T (s (o::l).length).H (s (o::l).length).nx:=by
   intro q st' hst hrest;obtain⟨s,r,h0,h1,h2⟩:=nr hdm l hrest;refine⟨fun i=>match i with|0=>⟨T,H,nx⟩|i+1=>s i,fun i=>match i with|0=>q|i+1=>r i,rfl,fun i o' ho'=>?_,h2⟩;cases i with
   |zero=>
    simp at ho';subst ho';show DStep P N dm.fr dsts o ⟨T,H,nx⟩ q (s 0);rw[h0];exact hst
   |succ i=>exact h1 i o' (by simpa using ho')
  obtain⟨hd,h⟩:=h;cases hg:gval T dsts o.guard with
  |none=>rw[hg] at h;exact h.elim
  |some b=>
   rw[hg] at h;cases b with
   |false=>exact hgo (.tup []) _ (.skip hg hd) h
   |true=>
    have h:mw P dm o.op T H nx fun r H' nx'=>kX P N.n dm dsts l (aH T o.dst r) H' nx' K:=h;replace h:=h.resolve_right (fun h=>by rw[hdm] at h;cases h.1);unfold gB at h;split at h
    ·obtain⟨hk,h⟩:=h
     have hk':∀m,dm.fr=some m→mg T o.op m=true:=by
      intro m hm;cases dm<;>first|(cases hm;done)|(cases hm;exact hk)
     cases ha:bX P T H o.op with
     |none=>rw[ha] at h;exact h.elim
     |some r=>rw[ha] at h;exact hgo r _ (.val r hk' hg hd ha) h
    ·obtain⟨hk,h⟩:=h
     have hk':∀m,dm.fr=some m→mg T o.op m=true:=by
      intro m hm;cases dm<;>first|(cases hm;done)|(cases hm;exact hk)
     cases ha:d9 P T H nx o.op with
     |none=>rw[ha] at h;exact h.elim
     |some x=>obtain⟨r,H',nx'⟩:=x;rw[ha] at h;exact hgo r _ (.eff r H' nx' hk' hg hd ha) h
    ·cases hc:iH o.op with
     |none=>rw[hc] at h;exact h.elim
     |some x=>
      obtain⟨f,args⟩:=x;rw[hc,hdm] at h;obtain⟨ts,ho⟩:=jo hc;have h:aB (kA (ev T f)) fun y=>aZ P y.1 (args.toList.map (ev T)++y.2) H fun r=>kX P N.n dm dsts l (aH T o.dst r) H nx K:=h;cases hf:kA (ev T f) with
      |none=>rw[hf] at h;exact h.elim
      |some y=>
       obtain⟨g,caps⟩:=y;rw[hf] at h
       have hev:ev T f=.func g caps:=by
        unfold kA at hf;split at hf
        ·rename_i hh;cases hf;exact hh
        ·cases hf
       obtain⟨r,h1,h3⟩:=h;exact hgo r _ (.call r f args ts g caps hg hd ho hev h1) h3
    ·exact h.elim
end Go.Abs
namespace Go.Abs
open Go.RowKit
def xO:Op→Bool
 |.move _|.assign _=>true
 |_=>false
theorem ur{op:Op}(h:xO op=true):opk op=.pure:=by
 cases op<;>first|(cases h;done)|rfl
structure VP(vp:Op→Bool):Prop where
 pure:∀op,vp op=true→opk op=.pure
 mov:∀op,xO op=true→vp op=true
def fE(vp:Op→Bool)(P:Program)(op:Op)(T:Tm)(H:Hp)(nx:Nat)(K:AV→Hp→Nat→Prop):Prop:=
 if vp op=true then aB (bX P T H op) fun r=>K r H nx else mw P .text op T H nx K
def jF(vp:Op→Bool)(P:Program)(n:Nat)(dsts:List (Option Nat))(o:Oper)(T:Tm)(H:Hp)(nx:Nat)(K:SP):Prop:=
 aU (dok n o.dst) (aX (gval T dsts o.guard) (fE vp P o.op T H nx fun r H' nx'=>K (aH T o.dst r) H' nx') (K (aH T o.dst (.tup [])) H nx))
def iw(vp:Op→Bool)(P:Program)(n:Nat)(dsts:List (Option Nat)):List Oper→Tm→Hp→Nat→SP→Prop
 |[],T,H,nx,K=>K T H nx
 |o::l,T,H,nx,K=>jF vp P n dsts o T H nx fun T H nx=>iw vp P n dsts l T H nx K
theorem cf{α:Type}{x:Option α}{K:α→Prop}(h:aB x K):∃a,x=some a∧K a:=by
 cases x with
 |none=>exact h.elim
 |some a=>exact⟨a,rfl,h⟩
theorem rS{op:Op}(h:opk op=.pure):opc op=.val:=by
 unfold opc;split
 ·simp[opk] at h
 ·rw[h]
theorem tK{vp:Op→Bool}(hv:VP vp){P:Program}{op:Op}{T:Tm}{H:Hp}{nx:Nat}{K:AV→Hp→Nat→Prop}(h:fE vp P op T H nx K):mw P .text op T H nx K:=by
 unfold fE at h;split at h
 ·rename_i hp;left;unfold gB;rw[rS (hv.pure _ hp)];exact⟨rfl,h⟩
 ·exact h
theorem ym{vp:Op→Bool}(hv:VP vp){P:Program}{n:Nat}{dsts:List (Option Nat)}{o:Oper}{T:Tm}{H:Hp}{nx:Nat}{K:SP}(h:jF vp P n dsts o T H nx K):aop P n .text dsts o T H nx K:=by
 refine⟨h.1,?_⟩;have h:=h.2;cases hg:gval T dsts o.guard with
 |none=>rw[hg] at h;exact h.elim
 |some b=>
  rw[hg] at h;cases b with
  |true=>exact tK hv h
  |false=>exact h
theorem j6{vp:Op→Bool}{P:Program}{op:Op}{T:Tm}{H:Hp}{nx:Nat}{K K':AV→Hp→Nat→Prop}(h:fE vp P op T H nx K)(hK:∀r H nx,K r H nx→K' r H nx):fE vp P op T H nx K':=by
 unfold fE at h ⊢;split
 ·rename_i hp;rw[if_pos hp] at h;obtain⟨a,ha,hk⟩:=cf h;rw[ha];exact hK _ _ _ hk
 ·rename_i hp;rw[if_neg hp] at h;exact fV h hK
theorem lD{vp:Op→Bool}{P:Program}{n:Nat}{dsts:List (Option Nat)}{o:Oper}{T:Tm}{H:Hp}{nx:Nat}{K K':SP}(h:jF vp P n dsts o T H nx K)(hK:∀r H nx,K (aH T o.dst r) H nx→K' (aH T o.dst r) H nx):jF vp P n dsts o T H nx K':=by
 refine⟨h.1,?_⟩;have h:=h.2;cases hg:gval T dsts o.guard with
 |none=>rw[hg] at h;exact h.elim
 |some b=>
  rw[hg] at h;cases b with
  |true=>exact j6 (K:=fun r H' nx'=>K (aH T o.dst r) H' nx') h (fun r H nx=>hK r H nx)
  |false=>exact hK _ _ _ h
theorem oB{vp:Op→Bool}{P:Program}{n:Nat}{dsts:List (Option Nat)}{K K':SP}(hK:∀T H nx,K T H nx→K' T H nx):∀(l:List Oper){T:Tm}{H:Hp}{nx:Nat},iw vp P n dsts l T H nx K→iw vp P n dsts l T H nx K'
 |[],_,_,_,h=>hK _ _ _ h
 |o::l,_,_,_,h=>lD h (fun _ _ _=>oB hK l)
def gc(ops:List Oper)(o:Oper)(T T':Tm):Prop:=∀t,t∈o.looksAt ops.toArray→T t=T' t
theorem gc.ev{ops:List Oper}{o:Oper}{T T':Tm}(h:gc ops o T T'):∀x∈o.op.operands,ev T x=ev T' x:=by
 intro x hx;refine sR fun t e=>?_;subst e;refine h t ?_;unfold Oper.looksAt;exact o5 _ (List.mem_filterMap.2 ⟨.tmp t,by simpa using hx,rfl⟩)
theorem gc.gval{ops:List Oper}{o:Oper}{T T':Tm}(h:gc ops o T T'):gval T (ops.map (·.dst)) o.guard=gval T' (ops.map (·.dst)) o.guard:=by
 unfold Go.Abs.gval;cases hg:o.guard with
 |none=>rfl
 |some p=>
  obtain⟨j,want⟩:=p;simp only;cases hd:(ops.map (·.dst))[j]? with
  |none=>rfl
  |some d=>
   cases d with
   |none=>rfl
   |some d=>
    have:T d=T' d:=by
     refine h d ?_;unfold Oper.looksAt;refine rk _ ?_;rw[hg];rw[jW] at hd;cases ho:ops[j]? with
     |none=>rw[ho] at hd;cases hd
     |some o'=>rw[ho] at hd;simp at hd;simp[hd,ho]
    simp only[this]
theorem gc.upd{ops:List Oper}{o:Oper}{T:Tm}{d:Option Nat}{v:AV}(h:∀t,d=some t→t∉o.looksAt ops.toArray):gc ops o T (aH T d v):=by
 intro t ht;cases d with
 |none=>rfl
 |some d=>
  have:t≠d:=fun e=>h d rfl (by rw[←e];exact ht);simp[aH,Go.Abs.upd,this]
theorem lZ{P:Program}{op:Op}{T T':Tm}{H:Hp}{nx:Nat}{K:AV→Hp→Nat→Prop}(he:∀x∈op.operands,ev T x=ev T' x)(h:gB P .text op T H nx K):gB P .text op T' H nx K:=by
 unfold gB at h ⊢;generalize opc op=k at h ⊢;cases k with
 |val=>
  have h:aU (ny .text T op) (aB (bX P T H op) fun r=>K r H nx):=h;show aU (ny .text T' op) (aB (bX P T' H op) fun r=>K r H nx);rw[←eR he];exact h
 |eff=>
  have h:aU (ny .text T op) (aB (d9 P T H nx op) fun x=>K x.1 x.2.1 x.2.2):=h;show aU (ny .text T' op) (aB (d9 P T' H nx op) fun x=>K x.1 x.2.1 x.2.2);rw[←jZ he];exact h
 |call=>
  have h:aB (iH op) fun x=>aB (kA (ev T x.1)) fun y=>Fn P y.1 (x.2.toList.map (ev T)++y.2) H nx K:=h;show aB (iH op) fun x=>aB (kA (ev T' x.1)) fun y=>Fn P y.1 (x.2.toList.map (ev T')++y.2) H nx K;obtain⟨x,hx,h⟩:=cf h;rw[hx];obtain⟨f,args⟩:=x;obtain⟨ts,rfl⟩:=jo hx;simp only[Op.operands,Call.operands] at he;have e1:ev T f=ev T' f:=he f (o7.2 (.inl (by simp)));have e2:args.toList.map (ev T)=args.toList.map (ev T'):=qu fun x hm=>he x (o7.2 (.inr (by simpa using hm)));show aB (kA (ev T' f)) fun y=>Fn P y.1 (args.toList.map (ev T')++y.2) H nx K;rw[←e1,←e2];exact h
 |other=>exact h.elim
theorem mf{P:Program}{op:Op}{T T':Tm}{H:Hp}{nx:Nat}{K:AV→Hp→Nat→Prop}(he:∀x∈op.operands,ev T x=ev T' x)(h:ce P op T H nx K):ce P op T' H nx K:=
 ⟨h.1,fun rr E w a o next Q ho hE hh hf ht hn=>h.2 rr E w a o next Q ho hE hh hf (fun x hx=>by rw[he x hx];exact ht x hx) hn⟩
theorem sG{vp:Op→Bool}{P:Program}{op:Op}{T T':Tm}{H:Hp}{nx:Nat}{K:AV→Hp→Nat→Prop}(he:∀x∈op.operands,ev T x=ev T' x)(h:fE vp P op T H nx K):fE vp P op T' H nx K:=by
 unfold fE at h ⊢;split
 ·rename_i hp;rw[if_pos hp] at h;rw[←eR he];exact h
 ·rename_i hp;rw[if_neg hp] at h;rcases h with h|h
  ·exact .inl (lZ he h)
  ·exact .inr ⟨h.1,mf he h.2⟩
theorem pN{T:Tm}{d e:Option Nat}{v r:AV}(h:∀t,d=some t→e≠some t):aH (aH T e r) d v=aH (aH T d v) e r:=by
 cases d with
 |none=>rfl
 |some d=>
  cases e with
  |none=>rfl
  |some e=>
   have hne:d≠e:=fun hh=>h d rfl (by rw[hh])
   funext t
   simp only[aH,Go.Abs.upd];by_cases h1:t=d
   ·subst h1;rw[if_pos rfl,if_neg hne,if_pos rfl]
   ·rw[if_neg h1,if_neg h1]
structure Free(vp:Op→Bool)(ops:List Oper)(x o:Oper):Prop where
 d:∀t,o.dst=some t→x.dst≠some t
 l1:∀t,o.dst=some t→t∉x.looksAt ops.toArray
 l2:∀t,x.dst=some t→t∉o.looksAt ops.toArray
 k:vp x.op=true
def tY(P:Program)(dsts:List (Option Nat))(o:Oper)(T:Tm)(H:Hp):Option AV:=match gval T dsts o.guard with
 |some true=>bX P T H o.op
 |some false=>some (.tup [])
 |none=>none
theorem wW{vp:Op→Bool}{P:Program}{n:Nat}{dsts:List (Option Nat)}{o:Oper}{T:Tm}{H:Hp}{nx:Nat}{K:SP}(hp:vp o.op=true)(h:jF vp P n dsts o T H nx K):∃v,tY P dsts o T H=some v∧K (aH T o.dst v) H nx:=by
 obtain⟨_,h⟩:=h;unfold tY;cases hg:gval T dsts o.guard with
 |none=>rw[hg] at h;exact h.elim
 |some b=>
  rw[hg] at h;cases b with
  |true=>
   have h:fE vp P o.op T H nx fun r H' nx'=>K (aH T o.dst r) H' nx':=h;unfold fE at h;rw[if_pos hp] at h;exact cf h
  |false=>exact⟨_,rfl,h⟩
theorem qY{vp:Op→Bool}{P:Program}{n:Nat}{dsts:List (Option Nat)}{o:Oper}{T:Tm}{H:Hp}{nx:Nat}{K:SP}(hp:vp o.op=true)(hd:dok n o.dst=true){v:AV}(hv:tY P dsts o T H=some v)(hk:K (aH T o.dst v) H nx):jF vp P n dsts o T H nx K:=by
 refine⟨hd,?_⟩;unfold tY at hv;cases hg:gval T dsts o.guard with
 |none=>rw[hg] at hv;cases hv
 |some b=>
  rw[hg] at hv;cases b with
  |true=>
   show fE vp P o.op T H nx _;unfold fE;rw[if_pos hp];have hv:bX P T H o.op=some v:=hv;rw[hv];exact hk
  |false=>cases hv;exact hk
theorem s7{P:Program}{ops:List Oper}{o:Oper}{T T':Tm}{H H':Hp}(hp:opk o.op=.pure)(ha:gc ops o T T'):tY P (ops.map (·.dst)) o T H=tY P (ops.map (·.dst)) o T' H':=by
 unfold tY;rw[ha.gval];cases gval T' (ops.map (·.dst)) o.guard with
 |none=>rfl
 |some b=>
  cases b with
  |true=>simp only;rw[eR ha.ev,kW hp]
  |false=>rfl
theorem Cs{vp:Op→Bool}(hvp:VP vp){P:Program}{n:Nat}{ops:List Oper}{x o:Oper}{T:Tm}{H:Hp}{nx:Nat}{K:SP}(hf:Free vp ops x o)
    (h:jF vp P n (ops.map (·.dst)) x T H nx fun T1 H1 nx1=>jF vp P n (ops.map (·.dst)) o T1 H1 nx1 K):jF vp P n (ops.map (·.dst)) o T H nx fun T1 H1 nx1=>jF vp P n (ops.map (·.dst)) x T1 H1 nx1 K:=by
 have hpk:=hvp.pure _ hf.k;have hdx:=h.1;obtain⟨r,hr,h⟩:=wW hf.k h;have ha:gc ops o T (aH T x.dst r):=gc.upd hf.l2
 have hx:∀(q:AV)(H1:Hp)(nx1:Nat),K (aH (aH T x.dst r) o.dst q) H1 nx1→jF vp P n (ops.map (·.dst)) x (aH T o.dst q) H1 nx1 K:=by
  intro q H1 nx1 hk;refine qY hf.k hdx (v:=r) ?_ ?_
  ·rw[←hr];exact(s7 hpk (gc.upd hf.l1)).symm
  ·rw[←pN hf.d];exact hk
 obtain⟨hdo,h⟩:=h;refine⟨hdo,?_⟩;rw[ha.gval];cases hg:gval (aH T x.dst r) (ops.map (·.dst)) o.guard with
 |none=>rw[hg] at h;exact h.elim
 |some b=>
  rw[hg] at h;cases b with
  |true=>
   have h:fE vp P o.op (aH T x.dst r) H nx fun q H' nx'=>K (aH (aH T x.dst r) o.dst q) H' nx':=h;exact j6 (sG (fun y hy=>(ha.ev y hy).symm) h) (fun q H' nx' hk=>hx q H' nx' hk)
  |false=>exact hx _ _ _ h
theorem z9{vp:Op→Bool}(hvp:VP vp){P:Program}{n:Nat}{ops:List Oper}{o:Oper}{l2:List Oper}{K:SP}:∀(l1:List Oper){T:Tm}{H:Hp}{nx:Nat},(∀x∈l1,Free vp ops x o)→
    iw vp P n (ops.map (·.dst)) (l1++o::l2) T H nx K→jF vp P n (ops.map (·.dst)) o T H nx fun T H nx=>iw vp P n (ops.map (·.dst)) (l1++l2) T H nx K
 |[],_,_,_,_,h=>h
 |x::l1,T,H,nx,hf,h=>by
  have h:jF vp P n (ops.map (·.dst)) x T H nx fun T H nx=>iw vp P n (ops.map (·.dst)) (l1++o::l2) T H nx K:=h
  have h:jF vp P n (ops.map (·.dst)) x T H nx fun T H nx=>jF vp P n (ops.map (·.dst)) o T H nx fun T H nx=>iw vp P n (ops.map (·.dst)) (l1++l2) T H nx K:=
   lD h (fun r H1 nx1 h=>z9 hvp l1 (fun y hy=>hf y (by simp[hy])) h)
  exact Cs hvp (hf x (by simp)) h
def x4(vp:Op→Bool)(ops:List Oper)(x o:Oper):Bool:=
 (match o.dst with|some t=>x.dst !=some t&& !(x.looksAt ops.toArray).contains t|none=>true)&&
 (match x.dst with|some t=>!(o.looksAt ops.toArray).contains t|none=>true)&&vp x.op
theorem xZ{vp:Op→Bool}{ops:List Oper}{x o:Oper}(h:x4 vp ops x o=true):Free vp ops x o:=by
 unfold x4 at h;simp only[dl] at h;obtain⟨⟨h1,h2⟩,h3⟩:=h;refine⟨fun t ht=>?_,fun t ht=>?_,fun t ht=>?_,h3⟩
 ·rw[ht] at h1;simp at h1;exact h1.1
 ·rw[ht] at h1;simp at h1;exact h1.2
 ·rw[ht] at h2;simp at h2;exact h2
def lG(r:Nat→Nat→Bool):List Nat→Bool
 |[]=>true
 |k::l=>l.all (r k)&&lG r l
theorem jp{r:Nat→Nat→Bool}:∀{l:List Nat},lG r l=true→l.Pairwise (fun k i=>r k i=true)
 |[],_=>List.Pairwise.nil
 |k::l,h=>by
  simp only[lG,dl,cT] at h;exact List.Pairwise.cons h.1 (jp h.2)
def rc(vp:Op→Bool)(n:Nat)(ops:List Oper)(C:List Nat):Bool:=
 let m:=Region.before ops.toArray
 let len:=ops.length
 ((List.range len).all fun j=>(cX (ops.getD j default)).all fun k=>k<j)&&
 ((List.range len).all fun j=>(List.range len).all fun i=>!cU m j i || (cX (ops.getD j default)).any fun k=>k==i || cU m k i)&&
 (lG (fun k i=>k !=i&&((ops.getD i default).dst.isNone || (ops.getD i default).dst !=(ops.getD k default).dst)&&(cU m i k || x4 vp ops (ops.getD k default) (ops.getD i default))) C)&&
 ((List.range len).all fun i=>C.contains i)&&(C.all fun i=>i<len)&&((List.range len).all fun i=>dok n (ops.getD i default).dst)
structure MixOk(vp:Op→Bool)(n:Nat)(ops:List Oper)(C:List Nat):Prop where
 dir:∀(j:Nat)(o:Oper),ops[j]?=some o→∀k∈cX o,k<j
 clo:∀(j:Nat)(o:Oper)(i:Nat),ops[j]?=some o→i<ops.length→cU (Region.before ops.toArray) j i=true→∃k∈cX o,k=i∨cU (Region.before ops.toArray) k i=true
 pw:C.Pairwise (fun k i=>k≠i∧(∀t,(ops.getD i default).dst=some t→(ops.getD k default).dst≠some t)∧(cU (Region.before ops.toArray) i k=true∨Free vp ops (ops.getD k default) (ops.getD i default)))
 all:∀i,i<ops.length→i∈C
 lt:∀i∈C,i<ops.length
 dk:∀(i:Nat)(o:Oper),ops[i]?=some o→dok n o.dst=true
theorem sN{vp:Op→Bool}{n:Nat}{ops:List Oper}{C:List Nat}(h:rc vp n ops C=true):MixOk vp n ops C:=by
 simp only[rc,dl,cT,en,jA] at h;obtain⟨⟨⟨⟨⟨h1,h2⟩,h3⟩,h4⟩,h5⟩,h6⟩:=h;have hlt:=fun{k:Nat}{o:Oper}(hk:ops[k]?=some o)=>(bC.1 hk).1;refine⟨fun j o ho k hk=>?_,fun j o i ho hi hb=>?_,(jp h3).imp (fun{k i} h=>?_),fun i hi=>by simpa using h4 i hi,h5,fun i o ho=>?_⟩
 ·have:=h1 j (hlt ho) k;rw[bZ ho] at this;exact this hk
 ·have:=h2 j (hlt ho) i hi;rw[bZ ho,hb] at this;simp only[Bool.not_true,Bool.false_or,jB,im,beq_iff_eq] at this;exact this
 ·simp only[dl,im] at h;obtain⟨⟨h7,h8⟩,h9⟩:=h;refine⟨by simpa using h7,fun t ht=>?_,h9.imp id xZ⟩;rw[ht] at h8;simp at h8;exact fun e=>h8 e.symm
 ·have:=h6 i (hlt ho);rw[bZ ho] at this;exact this
def bS(C:List Nat)(L:Array Bool):List Nat:=C.filter fun k=>!L.getD k false
structure MInv(vp:Op→Bool)(P:Program)(N:Cfg)(ops:List Oper)(C:List Nat)(K:SP)(E₀:Env)(w₀:World)(L:Array Bool)(a:Act)(w:World)(E:Env)(T:Tm)(H:Hp)(nx:Nat):Prop where
 lsz:L.size=ops.length
 dc:∀j i,L.getD j false=true→cU (Region.before ops.toArray) j i=true→i<ops.length→L.getD i false=true
 ext:Ext E₀ w₀ E w
 sim:Sim E N ⟨T,H,nx⟩ a w
 rest:iw vp P N.n (ops.map (·.dst)) ((bS C L).map fun k=>ops.getD k default) T H nx K
variable{vp:Op→Bool}{P:Program}{N:Cfg}{ops:List Oper}{C:List Nat}{K:SP}{E₀:Env}{w₀:World}{L:Array Bool}{a:Act}{w:World}{E:Env}{T:Tm}{H:Hp}{nx:Nat}
theorem tU(hC:C.Pairwise (fun k i=>k≠i∧(∀t,(ops.getD i default).dst=some t→(ops.getD k default).dst≠some t)∧(cU (Region.before ops.toArray) i k=true∨Free vp ops (ops.getD k default) (ops.getD i default))))
    {i:Nat} (hi:i∈bS C L) (hil:i<L.size):∃l1 l2,bS C L=l1++i::l2∧bS C (L.setIfInBounds i true)=l1++l2∧
     (∀k∈l1,cU (Region.before ops.toArray) i k=true∨Free vp ops (ops.getD k default) (ops.getD i default))∧(∀k∈l1++l2,∀t,(ops.getD k default).dst=some t→(ops.getD i default).dst≠some t):=by
 obtain⟨l1,l2,e⟩:=List.append_of_mem hi;have hp:(bS C L).Pairwise _:=hC.filter _;rw[e] at hp;obtain⟨p1,p2,p3⟩:=List.pairwise_append.1 hp;obtain⟨p4,p5⟩:=xX.1 p2;refine⟨l1,l2,e,?_,fun k hk=>(p3 k hk i (by simp)).2.2,fun k hk t ht he=>?_⟩
 ·have e2:bS C (L.setIfInBounds i true)=(bS C L).filter fun k=>decide (k≠i):=by
    unfold bS;rw[List.filter_filter];refine List.filter_congr (fun k _=>?_);rw[cr L i k hil];by_cases h:k=i<;>simp[h]
  rw[e2,e,nU,List.filter_cons];have n1:l1.filter (fun k=>decide (k≠i))=l1:=pe.2 (fun k hk=>cA (p3 k hk i (by simp)).1);have n2:l2.filter (fun k=>decide (k≠i))=l2:=pe.2 (fun k hk=>cA (fun h=>(p4 k hk).1 h.symm));rw[n1,n2];simp
 ·rcases pf.1 hk with h|h
  ·exact(p3 k h i (by simp)).2.1 t he ht
  ·exact(p4 k h).2.1 t ht he
theorem MInv.bits(hI:MInv vp P N ops C K E₀ w₀ L a w E T H nx)(hok:MixOk vp N.n ops C){i:Nat}{o:Oper}(hr:Ready ops L i o){k:Nat}(hk:k<ops.length)(hb:cU (Region.before ops.toArray) i k=true):L.getD k false=true:=by
 obtain⟨q,hq,h⟩:=hok.clo i o k hr.get hk hb;rcases h with rfl|h
 ·exact hr.dir _ hq
 ·exact hI.dc q k (hr.dir _ hq) h hk
theorem MInv.step(hvp:VP vp){rr:Option Nat}{Q:Exit→Act→World→Prop}{K':Act→World→Prop}(hI:MInv vp P N ops C K E₀ w₀ L a w E T H nx)(hok:MixOk vp N.n ops C){i:Nat}{o:Oper}(hr:Ready ops L i o)
    (hK:∀a' w' E' T' H' nx',MInv vp P N ops C K E₀ w₀ (L.setIfInBounds i true) a' w' E' T' H' nx'→K' a' w'):wpOpIn (FW rr) 0 P ops.toArray Q i K' a w:=by
 have hi:i<ops.length:=(bC.1 hr.get).1;have hgeti:(ops.toArray)[i]?=some o:=by simpa using hr.get
 unfold wpOpIn;rw[hgeti];simp only;have hmem:i∈bS C L:=fQ.2 ⟨hok.all i hi,by rw[hr.not];rfl⟩;obtain⟨l1,l2,e1,e2,f1,f2⟩:=tU hok.pw hmem (by rw[hI.lsz];exact hi);have hgo:ops.getD i default=o:=bZ hr.get
 have hfree:∀k∈l1,Free vp ops (ops.getD k default) o:=by
  intro k hk;rcases f1 k hk with h|h
  ·have hkC:k∈bS C L:=by rw[e1];simp[hk]
   obtain⟨h1,h2⟩:=fQ.1 hkC;have:=hI.bits hok hr (hok.lt k h1) h;rw[this] at h2;cases h2
  ·rw[hgo] at h;exact h
 have hrest:=hI.rest;rw[e1,hU,fZ,hgo] at hrest
 have hpull:=z9 hvp (l1.map fun k=>ops.getD k default) (fun x hx=>by
  obtain⟨k,hk,rfl⟩:=dp.1 hx;exact hfree k hk) hrest
 have hpull2:jF vp P N.n (ops.map (·.dst)) o T H nx fun T' H' nx'=>iw vp P N.n (ops.map (·.dst)) ((l1++l2).map fun k=>ops.getD k default) T' H' nx' K:=
  lD hpull (fun r H1 nx1 h=>by rw[hU];exact h)
 have hset:=fun k=>cr L i k (by rw[hI.lsz];exact hi);have hs:=ju (rr:=rr) (ops:=ops.toArray) (Q:=Q) (next:=K') hI.sim (ym hvp hpull2) (fun E' T' H' nx' a' w' he hS hk=>?_)
 ·exact hs
 ·refine hK a' w' E' T' H' nx' ⟨by simp[hI.lsz],?_,hI.ext.trans he,hS,by rw[e2];exact hk⟩;intro j k hj hb hkl;rw[hset] at hj ⊢;by_cases hki:k=i
  ·rw[if_pos hki]
  ·rw[if_neg hki];by_cases hji:j=i
   ·subst hji;exact hI.bits hok hr hkl hb
   ·rw[if_neg hji] at hj;exact hI.dc j k hj hb hkl
theorem MInv.some_ready(hI:MInv vp P N ops C K E₀ w₀ L a w E T H nx)(hok:MixOk vp N.n ops C)(h:Region.ready .any ops.toArray L=[]):∀k,k<ops.length→L.getD k false=true:=by
 rcases kN L ops.length with h1|⟨k,hk,hn,hall⟩
 ·exact h1
 ·exfalso;obtain⟨o,ho⟩:=bW hk
  have:k∈Region.ready .any ops.toArray L:=by
   refine mem_ready.2 ⟨?_,o,by simpa using ho,fun e he hb=>hall _ ?_⟩
   ·have:k<L.size:=by rw[hI.lsz];exact hk
    simp[this] at hn ⊢;exact hn
   ·refine hok.dir k o ho e.on ?_;simp only[cX,dp,fQ];exact⟨e,⟨by simpa using he,hb⟩,rfl⟩
  rw[h] at this;cases this
theorem MInv.final(hI:MInv vp P N ops C K E₀ w₀ L a w E T H nx)(hok:MixOk vp N.n ops C)(hall:∀k,k<ops.length→L.getD k false=true):K T H nx:=by
 have:bS C L=[]:=zf.2 (fun k hk=>by simp[hall k (hok.lt k hk)]);have h:=hI.rest;rw[this] at h;exact h
theorem uB(hvp:VP vp){rr:Option Nat}{Q:Exit→Act→World→Prop}(hok:MixOk vp N.n ops C)(hQ:∀E' T' H' nx' a' w',Ext E₀ w₀ E' w'→Sim E' N ⟨T',H',nx'⟩ a' w'→K T' H' nx'→Q .normal a' w'):
    ∀(fuel:Nat)(L:Array Bool)(a:Act)(w:World)(E:Env)(T:Tm)(H:Hp)(nx:Nat),MInv vp P N ops C K E₀ w₀ L a w E T H nx→left ops.length L≤fuel→wpAnyIn (FW rr) 0 P .any ops.toArray Q fuel L a w
 |0,L,a,w,E,T,H,nx,hI,hl=>by
  have hall:∀k,k<ops.length→L.getD k false=true:=by
   rcases kN L ops.length with h1|⟨k,hk,hn,hall⟩
   ·exact h1
   ·exfalso;have:left ops.length (L.setIfInBounds k true)<left ops.length L:=fg L k _ hk hI.lsz hn;omega
  have hr:Region.ready .any ops.toArray L=[]:=by
   refine zI.2 (fun i hi=>?_);obtain⟨o,ho⟩:=fp hI.lsz hi;have:=hall i (bC.1 ho.get).1;rw[ho.not] at this;cases this
  exact⟨hr,hQ E T H nx a w hI.ext hI.sim (hI.final hok hall)⟩
 |fuel+1,L,a,w,E,T,H,nx,hI,hl=>by
  refine⟨fun hr=>hQ E T H nx a w hI.ext hI.sim (hI.final hok (hI.some_ready hok hr)),fun i hi=>?_⟩;obtain⟨o,ho⟩:=fp hI.lsz hi;refine hI.step hvp hok ho (fun a' w' E' T' H' nx' hI'=>uB hvp hok hQ fuel _ a' w' E' T' H' nx' hI' ?_);have:=fg L i ops.length (bC.1 ho.get).1 hI.lsz ho.not;omega
theorem AS{rr:Option Nat}{Q:Exit→Act→World→Prop}{rid:Nat}(hm:P.follows .mixedOrders=true)(hvp:VP vp)(hok:rc vp N.n ops C=true)(hS:Sim E₀ N ⟨T,H,nx⟩ a w₀)
    (h:iw vp P N.n (ops.map (·.dst)) (C.map fun k=>ops.getD k default) T H nx K)
    (hQ:∀E' T' H' nx' a' w',Ext E₀ w₀ E' w'→Sim E' N ⟨T',H',nx'⟩ a' w'→K T' H' nx'→Q .normal a' w'):(Code.region rid ops.toArray true).wpIn (FW rr) 0 P Q a w₀:=by
 refine wpIn_region_any hm ?_;have hdr:({w₀ with drawn:=w₀.drawn+1}:World).heap=w₀.heap:=rfl;have hext:Ext E₀ w₀ E₀ {w₀ with drawn:=w₀.drawn+1}:=Ext.same hdr;have hok:=sN hok
 have hfalse:∀k,(Array.replicate ops.toArray.size false).getD k false=false:=by
  intro k;simp only[sA,Array.getElem?_replicate];split<;>rfl
 have hrest:bS C (Array.replicate ops.toArray.size false)=C:=pe.2 (fun k _=>by rw[hfalse];rfl);refine uB (C:=C) (K:=K) (E₀:=E₀) (w₀:=w₀) hvp hok hQ _ _ _ _ E₀ T H nx ⟨by simp,?_,hext,?_,by rw[hrest];exact h⟩ (by rw[List.size_toArray];unfold left;exact fR List.countP_le_length (by simp))
 ·intro j i h1;rw[hfalse] at h1;cases h1
 ·exact⟨hS.env.drew,hS.heap.same hdr,hS.fresh,hS.round,hS.floor,hS.size,fun t=>(hS.tmps t).ext hext,hS.defers.ext hext⟩
end Go.Abs
namespace Go.Abs
open Go.RowKit
def Sub(S H:Hp):Prop:=∀b cs,S b=some cs→H b=some cs
theorem yG{S H:Hp}(h:Sub S H){p x:AV}(hr:rd1 S p=some x):rd1 H p=some x:=by
 unfold rd1 at hr ⊢;split at hr
 ·rename_i b n off;cases hb:S b with
  |none=>rw[hb] at hr;cases hr
  |some cs=>rw[hb] at hr;simp only[h b cs hb];exact hr
 ·exact hr
 ·cases hr
theorem A2{S H:Hp}(h:Sub S H){k:Nat}{p:AV}{x:List AV}(hr:rd S k p=some x):rd H k p=some x:=by
 unfold rd at hr ⊢;split at hr
 ·rename_i b n off;cases hb:S b with
  |none=>rw[hb] at hr;cases hr
  |some cs=>rw[hb] at hr;simp only[h b cs hb];exact hr
 ·exact hr
 ·cases hr
theorem xC{P:Program}{T:Tm}{S H:Hp}(h:Sub S H){op:Op}(hl:eJ op=true){r:AV}(hr:bX P T S op=some r):bX P T H op=some r:=by
 cases op<;>first|(cases hl;done)|skip
 simp only[bX] at hr ⊢;unfold gK at hr ⊢;split at hr
 ·split at hr
  ·split at hr
   ·rw[Option.map_eq_some_iff] at hr;obtain⟨x,hx,rfl⟩:=hr;rename_i h0 h1 h2;rw[if_pos h0,if_pos h1,if_pos h2,A2 h hx];rfl
   ·cases hr
  ·rename_i h0 h1;rw[if_pos h0,if_neg h1];exact yG h hr
 ·cases hr
def sv(vp:Op→Bool)(op:Op):Bool:=vp op || eJ op
def eB:Op→Bool
 |.buildSlice ..=>true
 |_=>false
def nc:Option (AV×Hp×Nat)→Option AV
 |some (.msl 0 _ 1 0 len,H',_)=>match H' 0 with
  |some cs=>if len=cs.length∧len≠0∧cs.all AV.one=true then some (.sl 1 cs) else none
  |none=>none
 |_=>none
def rE(P:Program)(T:Tm)(op:Op):Option AV:=if eB op=true then nc (d9 P T bA 0 op) else none
theorem lO{x:Option (AV×Hp×Nat)}{r:AV}(h:nc x=some r):∃n H' k cs,x=some (.msl 0 n 1 0 cs.length,H',k)∧H' 0=some cs∧cs.length≠0∧cs.all AV.one=true∧r=.sl 1 cs:=by
 unfold nc at h;split at h
 ·rename_i n len H' k;split at h
  ·rename_i cs hcs;split at h
   ·rename_i hc;obtain⟨hl,h0,ho⟩:=hc;cases h;subst hl;exact⟨n,H',k,cs,rfl,hcs,h0,ho,rfl⟩
   ·cases h
  ·cases h
 ·cases h
theorem tt{P:Program}{op:Op}{T T':Tm}(he:∀x∈op.operands,ev T x=ev T' x):rE P T op=rE P T' op:=by
 unfold rE;rw[jZ he]
theorem wx{op:Op}(h:eB op=true):opk op=.alloc:=by
 cases op<;>first|(cases h;done)|rfl
theorem pZ{x:AV}(h:x.one=true):x.cells=[x]:=by cases x<;>first|rfl|(cases h;done)
theorem qC{E:Env}{w:World}{n L blk sz:Nat}{v:Value}(hL:L≠0)(h:Rel {E with mu:=fun _ _=>some (blk,sz)} w (.msl 0 n 1 0 L) v):∃cap,v=.slice (some ⟨blk,0,none⟩) L cap∧L≤cap:=by
 cases h with
 |msl b n sz off len blk bsz cap hm hl hc hn=>
  simp only[iy,Prod.mk.injEq] at hm;obtain⟨rfl,rfl⟩:=hm;exact⟨cap,rfl,hl⟩
 |msl0 b sz v h=>exact absurd rfl hL
theorem wL{P:Program}{op:Op}{T:Tm}{H:Hp}{nx:Nat}{K:AV→Hp→Nat→Prop}{r:AV}(h:rE P T op=some r)(hk:K r H nx):ce P op T H nx K:=by
 unfold rE at h;split at h
 case isFalse=>cases h
 case isTrue hb=>
 obtain⟨n,H1,k,cs,h1,h2,h0,h3,rfl⟩:=lO h;refine⟨fun c hc=>(by rw[hc] at hb;cases hb),?_⟩;rintro rr E w a o next Q ho hE hh hf ht hn;have h1':d9 P T bA 0 o.op=some (.msl 0 n 1 0 cs.length,H1,k):=by rw[ho];exact h1
 obtain⟨s,hs,hrun⟩:=oE (E:=E) (w:=w) (a:=a) (wx (by rw[ho];exact hb)) (by rw[ho];exact ht) h1';unfold p8 at hrun;rcases hrun with hrun|⟨cells,vals,ty,v,hH,_,hrun,hlen,hrel,hv⟩
 ·rw[hrun.2.1] at h2;cases h2
 rw[hH] at h2;have h2:cells=cs:=by simpa[am] using h2
 subst h2;obtain⟨cap,rfl,hcap⟩:=qC h0 (hv {E with mu:=fun _ _=>some (w.heap.size,vals.size)} w rfl);have hbw:Below w.heap.size w (w.alloc (.cells vals ty)):=(Below.refl _ _).alloc (aM _) _
 have hnew:(w.alloc (.cells vals ty)).heap[w.heap.size]?=some (.cells vals ty (0,0)):=by
  show(w.heap.push (.cells vals ty))[w.heap.size]?=_;simp
 have hsz:(w.alloc (.cells vals ty)).heap.size=w.heap.size+1:=by
  show(w.heap.push (.cells vals ty)).size=_;simp
 have he:Ext E w {E with imm:=fun b=>E.imm b∨b=w.heap.size} (w.alloc (.cells vals ty)):=
  ⟨rfl,rfl,fun _ h=>.inl h,fun b h=>h.imp id (fun h=>by rw[h];exact hh.size),fun _ _ _ h=>h,fun _ _ h=>h,fun _ _ h=>h,fun b h=>⟨h,hbw.block b (hE.dlt h)⟩,hbw.size,fun b h=>hbw.block b (hE.lt b h)⟩
 have hE':EnvOk {E with imm:=fun b=>E.imm b∨b=w.heap.size} (w.alloc (.cells vals ty)):=
  hE.step he (fun b h=>h.imp id (fun h=>by rw[hsz,h];omega)) (fun k hk=>hk.imp id (fun hge b hb'=>by have:=hE.splt hb';omega)) (hbw.mono hh.size) (Below.still hbw) rfl rfl rfl (fun _ _ _ _=>rfl)
 have hh':=hh.below he hbw rfl (fun b h=>h.imp id (fun h=>by rw[h];omega)) rfl;rw[hs];simp only[bj,hrun,bg,cS];rw[Oper.uponIn_value];refine hn _ H nx (.sl 1 cells) _ _ he hE' hh' (hf.of (aM _) (fun _ _ _=>rfl) rfl rfl) ?_ hk;refine .sl 1 cells w.heap.size 0 cap (fun i=>vals.getD i Go.undef) (.inr rfl) hcap (fun x hx=>by rw[pZ (cT.1 h3 x hx)];rfl) (fun i hi=>?_) (fun i j x y hx hy=>?_)
 ·rw[bQ];refine cell?_of_heap hnew ?_;have:i<vals.size:=by omega
  simp[Array.getD,this]
 ·have hone:=pZ (cT.1 h3 x (fh hx));rw[hone] at hy
  have hj:j=0:=by
   cases j with
   |zero=>rfl
   |succ j=>simp at hy
  subst hj;simp only[mA,iy] at hy;subst hy;obtain⟨v',h5,_,h6⟩:=hrel i x hx;have:i<vals.size:=(fA.1 h5).1;rw[Nat.mul_one,o8]
  have e:vals.getD i Go.undef=v':=by
   rw[ww this] at h5;cases h5;simp[Array.getD,this]
  rw[e];exact h6.ext he
def mB:Op→Bool
 |.lookup ..=>true
 |_=>false
structure BP where
 b:Op→Bool
 l:Bool
 lv:Op→Tm→Hp→Option AV
 cg:∀{op:Op}{T T':Tm}{S:Hp},(∀x∈op.operands,ev T x=ev T' x)→lv op T S=lv op T' S
def mq(P:Program)(bp:BP):Prop:=bp.l=true→∀{op:Op}{T:Tm}{S H:Hp}{nx:Nat}{K:AV→Hp→Nat→Prop}{r:AV},mB op=true→bp.lv op T S=some r→Sub S H→K r H nx→ce P op T H nx K
def qD(bp:BP)(op:Op):Bool:=eJ op || (bp.l&&mB op)
def nv(vp:Op→Bool)(bp:BP)(op:Op):Bool:=sv vp op || (bp.b op&&eB op) || (bp.l&&mB op)
def mj(P:Program)(bp:BP)(T:Tm)(S:Hp)(op:Op):Option AV:=if (bp.b op&&eB op)=true then rE P T op else if (bp.l&&mB op)=true then bp.lv op T S else bX P T S op
theorem np{P:Program}{bp:BP}{op:Op}{T T':Tm}{S:Hp}(he:∀x∈op.operands,ev T x=ev T' x):mj P bp T S op=mj P bp T' S op:=by
 unfold mj;rw[tt he,eR he,bp.cg he]
def dX(vp:Op→Bool)(bp:BP)(P:Program)(S:Hp)(op:Op)(keep:Bool)(T:Tm)(H:Hp)(nx:Nat)(K:AV→Hp→Nat→Prop):Prop:=
 if nv vp bp op=true then aB (mj P bp T S op) fun r=>K r H nx else mw P .text op T H nx fun r H' nx'=>(keep=true→Sub S H')∧K r H' nx'
def fM(vp:Op→Bool)(bp:BP)(P:Program)(n:Nat)(dsts:List (Option Nat))(S:Hp)(o:Oper×Bool)(T:Tm)(H:Hp)(nx:Nat)(K:SP):Prop:=
 aU (dok n o.1.dst) (aX (gval T dsts o.1.guard) (dX vp bp P S o.1.op o.2 T H nx fun r H' nx'=>K (aH T o.1.dst r) H' nx') (K (aH T o.1.dst (.tup [])) H nx))
def eN(vp:Op→Bool)(bp:BP)(P:Program)(n:Nat)(dsts:List (Option Nat))(S:Hp):List (Oper×Bool)→Tm→Hp→Nat→SP→Prop
 |[],T,H,nx,K=>K T H nx
 |o::l,T,H,nx,K=>fM vp bp P n dsts S o T H nx fun T H nx=>eN vp bp P n dsts S l T H nx K
theorem nw{vp:Op→Bool}{bp:BP}{P:Program}{S:Hp}{op:Op}{keep:Bool}{T:Tm}{H:Hp}{nx:Nat}{K K':AV→Hp→Nat→Prop}(h:dX vp bp P S op keep T H nx K)(hK:∀r H nx,K r H nx→K' r H nx):dX vp bp P S op keep T H nx K':=by
 unfold dX at h ⊢;split
 ·rename_i hp;rw[if_pos hp] at h;obtain⟨a,ha,hk⟩:=cf h;rw[ha];exact hK _ _ _ hk
 ·rename_i hp;rw[if_neg hp] at h;exact fV h (fun r H nx hh=>⟨hh.1,hK _ _ _ hh.2⟩)
theorem du{vp:Op→Bool}{bp:BP}{P:Program}{n:Nat}{dsts:List (Option Nat)}{S:Hp}{o:Oper×Bool}{T:Tm}{H:Hp}{nx:Nat}{K K':SP}(h:fM vp bp P n dsts S o T H nx K)(hK:∀r H nx,K (aH T o.1.dst r) H nx→K' (aH T o.1.dst r) H nx):fM vp bp P n dsts S o T H nx K':=by
 refine⟨h.1,?_⟩;have h:=h.2;cases hg:gval T dsts o.1.guard with
 |none=>rw[hg] at h;exact h.elim
 |some b=>
  rw[hg] at h;cases b with
  |true=>exact nw (K:=fun r H' nx'=>K (aH T o.1.dst r) H' nx') h (fun r H nx=>hK r H nx)
  |false=>exact hK _ _ _ h
theorem hY{vp:Op→Bool}{bp:BP}{P:Program}{n:Nat}{dsts:List (Option Nat)}{S:Hp}{K K':SP}(hK:∀T H nx,K T H nx→K' T H nx):∀(l:List (Oper×Bool)){T:Tm}{H:Hp}{nx:Nat},eN vp bp P n dsts S l T H nx K→eN vp bp P n dsts S l T H nx K'
 |[],_,_,_,h=>hK _ _ _ h
 |o::l,_,_,_,h=>du h (fun _ _ _=>hY hK l)
theorem sj{vp:Op→Bool}{bp:BP}{P:Program}{S:Hp}{op:Op}{keep:Bool}{T T':Tm}{H:Hp}{nx:Nat}{K:AV→Hp→Nat→Prop}(he:∀x∈op.operands,ev T x=ev T' x)(h:dX vp bp P S op keep T H nx K):dX vp bp P S op keep T' H nx K:=by
 unfold dX at h ⊢;split
 ·rename_i hp;rw[if_pos hp] at h;rw[←np he];exact h
 ·rename_i hp;rw[if_neg hp] at h;rcases h with h|h
  ·exact .inl (lZ he h)
  ·exact .inr ⟨h.1,mf he h.2⟩
theorem sV{vp:Op→Bool}{bp:BP}(hv:VP vp){P:Program}(hb:mq P bp){n:Nat}{dsts:List (Option Nat)}{S:Hp}{o:Oper×Bool}{T:Tm}{H:Hp}{nx:Nat}{K:SP}(hs:qD bp o.1.op=true→Sub S H)(h:fM vp bp P n dsts S o T H nx K):
    aop P n .text dsts o.1 T H nx fun T1 H1 nx1=>(H1=H∨(o.2=true→Sub S H1))∧K T1 H1 nx1:=by
 refine⟨h.1,?_⟩;have h:=h.2;cases hg:gval T dsts o.1.guard with
 |none=>rw[hg] at h;exact h.elim
 |some b=>
  rw[hg] at h;cases b with
  |false=>exact⟨.inl rfl,h⟩
  |true=>
   have h:dX vp bp P S o.1.op o.2 T H nx fun r H' nx'=>K (aH T o.1.dst r) H' nx':=h;show mw P .text o.1.op T H nx fun r H' nx'=>(H'=H∨(o.2=true→Sub S H'))∧K (aH T o.1.dst r) H' nx';unfold dX at h;split at h
   ·rename_i hp;obtain⟨r,hr,hk⟩:=cf h;by_cases hbl:(bp.b o.1.op&&eB o.1.op)=true
    ·unfold mj at hr;rw[if_pos hbl] at hr;exact .inr ⟨rfl,wL hr ⟨.inl rfl,hk⟩⟩
    unfold mj at hr;rw[if_neg hbl] at hr;by_cases hlk:(bp.l&&mB o.1.op)=true
    ·rw[if_pos hlk] at hr;have hs':=hs (by unfold qD;rw[hlk,Bool.or_true]);rw[dl] at hlk;exact .inr ⟨rfl,hb hlk.1 hlk.2 hr hs' ⟨.inl rfl,hk⟩⟩
    rw[if_neg hlk] at hr
    have hp:sv vp o.1.op=true:=by
     unfold nv at hp;rw[im,im] at hp;exact(hp.resolve_right hlk).resolve_right hbl
    have hval:bX P T H o.1.op=some r∧opc o.1.op=.val:=by
     unfold sv at hp;rw[im] at hp;rcases hp with hp|hp
     ·exact⟨by rw[kW (H':=S) (hv.pure _ hp)];exact hr,rS (hv.pure _ hp)⟩
     ·refine⟨xC (hs (by unfold qD;rw[hp,Bool.true_or])) hp hr,?_⟩;revert hp;cases o.1.op<;>intro hp<;>first|(cases hp;done)|rfl
    left;unfold gB;rw[hval.2];refine⟨rfl,?_⟩;rw[hval.1];exact⟨.inl rfl,hk⟩
   ·exact fV h (fun r H' nx' hh=>⟨.inr hh.1,hh.2⟩)
def oq(P:Program)(bp:BP)(dsts:List (Option Nat))(o:Oper)(T:Tm)(H:Hp):Option AV:=match gval T dsts o.guard with
 |some true=>mj P bp T H o.op
 |some false=>some (.tup [])
 |none=>none
structure FreeN(vp:Op→Bool)(bp:BP)(ops:List Oper)(x o:Oper):Prop where
 d:∀t,o.dst=some t→x.dst≠some t
 l1:∀t,o.dst=some t→t∉x.looksAt ops.toArray
 l2:∀t,x.dst=some t→t∉o.looksAt ops.toArray
 k:nv vp bp x.op=true
theorem xc{vp:Op→Bool}{bp:BP}{P:Program}{n:Nat}{dsts:List (Option Nat)}{S:Hp}{o:Oper×Bool}{T:Tm}{H:Hp}{nx:Nat}{K:SP}(hp:nv vp bp o.1.op=true)(h:fM vp bp P n dsts S o T H nx K):∃v,oq P bp dsts o.1 T S=some v∧K (aH T o.1.dst v) H nx:=by
 obtain⟨_,h⟩:=h;unfold oq;cases hg:gval T dsts o.1.guard with
 |none=>rw[hg] at h;exact h.elim
 |some b=>
  rw[hg] at h;cases b with
  |true=>
   have h:dX vp bp P S o.1.op o.2 T H nx fun r H' nx'=>K (aH T o.1.dst r) H' nx':=h;unfold dX at h;rw[if_pos hp] at h;exact cf h
  |false=>exact⟨_,rfl,h⟩
theorem re{vp:Op→Bool}{bp:BP}{P:Program}{n:Nat}{dsts:List (Option Nat)}{S:Hp}{o:Oper×Bool}{T:Tm}{H:Hp}{nx:Nat}{K:SP}(hp:nv vp bp o.1.op=true)(hd:dok n o.1.dst=true){v:AV}(hv:oq P bp dsts o.1 T S=some v)(hk:K (aH T o.1.dst v) H nx):fM vp bp P n dsts S o T H nx K:=by
 refine⟨hd,?_⟩;unfold oq at hv;cases hg:gval T dsts o.1.guard with
 |none=>rw[hg] at hv;cases hv
 |some b=>
  rw[hg] at hv;cases b with
  |true=>
   show dX vp bp P S o.1.op o.2 T H nx _;unfold dX;rw[if_pos hp];have hv:mj P bp T S o.1.op=some v:=hv;rw[hv];exact hk
  |false=>cases hv;exact hk
theorem rH{P:Program}{bp:BP}{ops:List Oper}{o:Oper}{T T':Tm}{S:Hp}(ha:gc ops o T T'):oq P bp (ops.map (·.dst)) o T S=oq P bp (ops.map (·.dst)) o T' S:=by
 unfold oq;rw[ha.gval];cases gval T' (ops.map (·.dst)) o.guard with
 |none=>rfl
 |some b=>
  cases b with
  |true=>simp only;rw[np ha.ev]
  |false=>rfl
theorem xw{vp:Op→Bool}{bp:BP}{P:Program}{n:Nat}{ops:List Oper}{S:Hp}{x o:Oper×Bool}{T:Tm}{H:Hp}{nx:Nat}{K:SP}(hf:FreeN vp bp ops x.1 o.1)
    (h:fM vp bp P n (ops.map (·.dst)) S x T H nx fun T1 H1 nx1=>fM vp bp P n (ops.map (·.dst)) S o T1 H1 nx1 K):fM vp bp P n (ops.map (·.dst)) S o T H nx fun T1 H1 nx1=>fM vp bp P n (ops.map (·.dst)) S x T1 H1 nx1 K:=by
 have hdx:=h.1;obtain⟨r,hr,h⟩:=xc hf.k h;have ha:gc ops o.1 T (aH T x.1.dst r):=gc.upd hf.l2
 have hx:∀(q:AV)(H1:Hp)(nx1:Nat),K (aH (aH T x.1.dst r) o.1.dst q) H1 nx1→fM vp bp P n (ops.map (·.dst)) S x (aH T o.1.dst q) H1 nx1 K:=by
  intro q H1 nx1 hk;refine re hf.k hdx (v:=r) ?_ ?_
  ·rw[←hr];exact(rH (gc.upd hf.l1)).symm
  ·rw[←pN hf.d];exact hk
 obtain⟨hdo,h⟩:=h;refine⟨hdo,?_⟩;rw[ha.gval];cases hg:gval (aH T x.1.dst r) (ops.map (·.dst)) o.1.guard with
 |none=>rw[hg] at h;exact h.elim
 |some b=>
  rw[hg] at h;cases b with
  |true=>
   have h:dX vp bp P S o.1.op o.2 (aH T x.1.dst r) H nx fun q H' nx'=>K (aH (aH T x.1.dst r) o.1.dst q) H' nx':=h;exact nw (sj (fun y hy=>(ha.ev y hy).symm) h) (fun q H' nx' hk=>hx q H' nx' hk)
  |false=>exact hx _ _ _ h
theorem ye{vp:Op→Bool}{bp:BP}{P:Program}{n:Nat}{ops:List Oper}{S:Hp}{o:Oper×Bool}{l2:List (Oper×Bool)}{K:SP}:∀(l1:List (Oper×Bool)){T:Tm}{H:Hp}{nx:Nat},(∀x∈l1,FreeN vp bp ops x.1 o.1)→
    eN vp bp P n (ops.map (·.dst)) S (l1++o::l2) T H nx K→fM vp bp P n (ops.map (·.dst)) S o T H nx fun T H nx=>eN vp bp P n (ops.map (·.dst)) S (l1++l2) T H nx K
 |[],_,_,_,_,h=>h
 |x::l1,T,H,nx,hf,h=>by
  have h:fM vp bp P n (ops.map (·.dst)) S x T H nx fun T H nx=>eN vp bp P n (ops.map (·.dst)) S (l1++o::l2) T H nx K:=h
  have h:fM vp bp P n (ops.map (·.dst)) S x T H nx fun T H nx=>fM vp bp P n (ops.map (·.dst)) S o T H nx fun T H nx=>eN vp bp P n (ops.map (·.dst)) S (l1++l2) T H nx K:=
   du h (fun r H1 nx1 h=>ye l1 (fun y hy=>hf y (by simp[hy])) h)
  exact xw (hf x (by simp)) h
def freeNB(vp:Op→Bool)(bp:BP)(ops:List Oper)(x o:Oper):Bool:=
 (match o.dst with|some t=>x.dst !=some t&& !(x.looksAt ops.toArray).contains t|none=>true)&&
 (match x.dst with|some t=>!(o.looksAt ops.toArray).contains t|none=>true)&&nv vp bp x.op
theorem kT{vp:Op→Bool}{bp:BP}{ops:List Oper}{x o:Oper}(h:freeNB vp bp ops x o=true):FreeN vp bp ops x o:=by
 unfold freeNB at h;simp only[dl] at h;obtain⟨⟨h1,h2⟩,h3⟩:=h;refine⟨fun t ht=>?_,fun t ht=>?_,fun t ht=>?_,h3⟩
 ·rw[ht] at h1;simp at h1;exact h1.1
 ·rw[ht] at h1;simp at h1;exact h1.2
 ·rw[ht] at h2;simp at h2;exact h2
def dU(bp:BP)(ops:List Oper)(i:Nat):Bool:=(List.range ops.length).any fun j=>j !=i&&qD bp (ops.getD j default).op&& !cU (Region.before ops.toArray) i j
def kP(vp:Op→Bool)(bp:BP)(n:Nat)(ops:List Oper)(C:List Nat):Bool:=
 let m:=Region.before ops.toArray
 let len:=ops.length
 ((List.range len).all fun j=>(cX (ops.getD j default)).all fun k=>k<j)&&
 ((List.range len).all fun j=>(List.range len).all fun i=>!cU m j i || (cX (ops.getD j default)).any fun k=>k==i || cU m k i)&&
 (lG (fun k i=>k !=i&&((ops.getD i default).dst.isNone || (ops.getD i default).dst !=(ops.getD k default).dst)&&(cU m i k || freeNB vp bp ops (ops.getD k default) (ops.getD i default))) C)&&
 ((List.range len).all fun i=>C.contains i)&&(C.all fun i=>i<len)&&((List.range len).all fun i=>dok n (ops.getD i default).dst)
structure MixNOk(vp:Op→Bool)(bp:BP)(n:Nat)(ops:List Oper)(C:List Nat):Prop where
 dir:∀(j:Nat)(o:Oper),ops[j]?=some o→∀k∈cX o,k<j
 clo:∀(j:Nat)(o:Oper)(i:Nat),ops[j]?=some o→i<ops.length→cU (Region.before ops.toArray) j i=true→∃k∈cX o,k=i∨cU (Region.before ops.toArray) k i=true
 pw:C.Pairwise (fun k i=>k≠i∧(∀t,(ops.getD i default).dst=some t→(ops.getD k default).dst≠some t)∧(cU (Region.before ops.toArray) i k=true∨FreeN vp bp ops (ops.getD k default) (ops.getD i default)))
 all:∀i,i<ops.length→i∈C
 lt:∀i∈C,i<ops.length
 dk:∀(i:Nat)(o:Oper),ops[i]?=some o→dok n o.dst=true
theorem lr{vp:Op→Bool}{bp:BP}{n:Nat}{ops:List Oper}{C:List Nat}(h:kP vp bp n ops C=true):MixNOk vp bp n ops C:=by
 simp only[kP,dl,cT,en,jA] at h;obtain⟨⟨⟨⟨⟨h1,h2⟩,h3⟩,h4⟩,h5⟩,h6⟩:=h;have hlt:=fun{k:Nat}{o:Oper}(hk:ops[k]?=some o)=>(bC.1 hk).1;refine⟨fun j o ho k hk=>?_,fun j o i ho hi hb=>?_,(jp h3).imp (fun{k i} h=>?_),fun i hi=>by simpa using h4 i hi,h5,fun i o ho=>?_⟩
 ·have:=h1 j (hlt ho) k;rw[bZ ho] at this;exact this hk
 ·have:=h2 j (hlt ho) i hi;rw[bZ ho,hb] at this;simp only[Bool.not_true,Bool.false_or,jB,im,beq_iff_eq] at this;exact this
 ·simp only[dl,im] at h;obtain⟨⟨h7,h8⟩,h9⟩:=h;refine⟨by simpa using h7,fun t ht=>?_,h9.imp id kT⟩;rw[ht] at h8;simp at h8;exact fun e=>h8 e.symm
 ·have:=h6 i (hlt ho);rw[bZ ho] at this;exact this
def ct(bp:BP)(ops:List Oper)(k:Nat):Oper×Bool:=(ops.getD k default,dU bp ops k)
structure NInv(vp:Op→Bool)(bp:BP)(P:Program)(N:Cfg)(ops:List Oper)(C:List Nat)(S:Hp)(K:SP)(E₀:Env)(w₀:World)(L:Array Bool)(a:Act)(w:World)(E:Env)(T:Tm)(H:Hp)(nx:Nat):Prop where
 lsz:L.size=ops.length
 dc:∀j i,L.getD j false=true→cU (Region.before ops.toArray) j i=true→i<ops.length→L.getD i false=true
 ext:Ext E₀ w₀ E w
 sim:Sim E N ⟨T,H,nx⟩ a w
 st:∀j,j<ops.length→qD bp (ops.getD j default).op=true→L.getD j false=false→Sub S H
 rest:eN vp bp P N.n (ops.map (·.dst)) S ((bS C L).map (ct bp ops)) T H nx K
variable{vp:Op→Bool}{bp:BP}{P:Program}{N:Cfg}{ops:List Oper}{C:List Nat}{S:Hp}{K:SP}{E₀:Env}{w₀:World}{L:Array Bool}{a:Act}{w:World}{E:Env}{T:Tm}{H:Hp}{nx:Nat}
theorem iI(hC:C.Pairwise (fun k i=>k≠i∧(∀t,(ops.getD i default).dst=some t→(ops.getD k default).dst≠some t)∧(cU (Region.before ops.toArray) i k=true∨FreeN vp bp ops (ops.getD k default) (ops.getD i default))))
    {i:Nat} (hi:i∈bS C L) (hil:i<L.size):∃l1 l2,bS C L=l1++i::l2∧bS C (L.setIfInBounds i true)=l1++l2∧
     (∀k∈l1,cU (Region.before ops.toArray) i k=true∨FreeN vp bp ops (ops.getD k default) (ops.getD i default)):=by
 obtain⟨l1,l2,e⟩:=List.append_of_mem hi;have hp:(bS C L).Pairwise _:=hC.filter _;rw[e] at hp;obtain⟨p1,p2,p3⟩:=List.pairwise_append.1 hp;obtain⟨p4,p5⟩:=xX.1 p2;refine⟨l1,l2,e,?_,fun k hk=>(p3 k hk i (by simp)).2.2⟩
 have e2:bS C (L.setIfInBounds i true)=(bS C L).filter fun k=>decide (k≠i):=by
  unfold bS;rw[List.filter_filter];refine List.filter_congr (fun k _=>?_);rw[cr L i k hil];by_cases h:k=i<;>simp[h]
 rw[e2,e,nU,List.filter_cons];have n1:l1.filter (fun k=>decide (k≠i))=l1:=pe.2 (fun k hk=>cA (p3 k hk i (by simp)).1);have n2:l2.filter (fun k=>decide (k≠i))=l2:=pe.2 (fun k hk=>cA (fun h=>(p4 k hk).1 h.symm));rw[n1,n2];simp
theorem NInv.bits(hI:NInv vp bp P N ops C S K E₀ w₀ L a w E T H nx)(hok:MixNOk vp bp N.n ops C){i:Nat}{o:Oper}(hr:Ready ops L i o){k:Nat}(hk:k<ops.length)(hb:cU (Region.before ops.toArray) i k=true):L.getD k false=true:=by
 obtain⟨q,hq,h⟩:=hok.clo i o k hr.get hk hb;rcases h with rfl|h
 ·exact hr.dir _ hq
 ·exact hI.dc q k (hr.dir _ hq) h hk
theorem NInv.step(hvp:VP vp)(hbp:mq P bp){rr:Option Nat}{Q:Exit→Act→World→Prop}{K':Act→World→Prop}(hI:NInv vp bp P N ops C S K E₀ w₀ L a w E T H nx)(hok:MixNOk vp bp N.n ops C){i:Nat}{o:Oper}(hr:Ready ops L i o)
    (hK:∀a' w' E' T' H' nx',NInv vp bp P N ops C S K E₀ w₀ (L.setIfInBounds i true) a' w' E' T' H' nx'→K' a' w'):wpOpIn (FW rr) 0 P ops.toArray Q i K' a w:=by
 have hi:i<ops.length:=(bC.1 hr.get).1;have hgeti:(ops.toArray)[i]?=some o:=by simpa using hr.get
 unfold wpOpIn;rw[hgeti];simp only;have hmem:i∈bS C L:=fQ.2 ⟨hok.all i hi,by rw[hr.not];rfl⟩;obtain⟨l1,l2,e1,e2,f1⟩:=iI hok.pw hmem (by rw[hI.lsz];exact hi);have hgo:ops.getD i default=o:=bZ hr.get
 have hfree:∀k∈l1,FreeN vp bp ops (ops.getD k default) o:=by
  intro k hk;rcases f1 k hk with h|h
  ·have hkC:k∈bS C L:=by rw[e1];simp[hk]
   obtain⟨h1,h2⟩:=fQ.1 hkC;have:=hI.bits hok hr (hok.lt k h1) h;rw[this] at h2;cases h2
  ·rw[hgo] at h;exact h
 have hrest:=hI.rest;rw[e1,hU,fZ] at hrest;have hpo:ct bp ops i=(o,dU bp ops i):=by unfold ct;rw[hgo]
 rw[hpo] at hrest
 have hpull:=ye (o:=(o,dU bp ops i)) (l1.map (ct bp ops)) (fun x hx=>by
  obtain⟨k,hk,rfl⟩:=dp.1 hx;exact hfree k hk) hrest
 have hpull2:fM vp bp P N.n (ops.map (·.dst)) S (o,dU bp ops i) T H nx fun T' H' nx'=>eN vp bp P N.n (ops.map (·.dst)) S ((l1++l2).map (ct bp ops)) T' H' nx' K:=
  du hpull (fun r H1 nx1 h=>by rw[hU];exact h)
 have hset:=fun k=>cr L i k (by rw[hI.lsz];exact hi);have hld:qD bp o.op=true→Sub S H:=fun h=>hI.st i hi (by rw[hgo];exact h) hr.not;have hs:=ju (rr:=rr) (ops:=ops.toArray) (Q:=Q) (next:=K') hI.sim (sV hvp hbp hld hpull2) (fun E' T' H' nx' a' w' he hS hk=>?_)
 ·exact hs
 ·obtain⟨dA,hk⟩:=hk;refine hK a' w' E' T' H' nx' ⟨by simp[hI.lsz],?_,hI.ext.trans he,hS,?_,by rw[e2];exact hk⟩
  ·intro j k hj hb hkl;rw[hset] at hj ⊢;by_cases hki:k=i
   ·rw[if_pos hki]
   ·rw[if_neg hki];by_cases hji:j=i
    ·subst hji;exact hI.bits hok hr hkl hb
    ·rw[if_neg hji] at hj;exact hI.dc j k hj hb hkl
  ·intro j hj hl hn;rw[hset] at hn;by_cases hji:j=i
   ·rw[if_pos hji] at hn;cases hn
   rw[if_neg hji] at hn;rcases dA with rfl|dA
   ·exact hI.st j hj hl hn
   ·refine dA ?_;show dU bp ops i=true;unfold dU;rw[jB];refine⟨j,en.2 hj,?_⟩;rw[dl,dl];refine⟨⟨by simpa using hji,hl⟩,?_⟩;cases hb:cU (Region.before ops.toArray) i j with
    |false=>rfl
    |true=>
     have:=hI.bits hok hr hj hb;rw[this] at hn;cases hn
theorem NInv.some_ready(hI:NInv vp bp P N ops C S K E₀ w₀ L a w E T H nx)(hok:MixNOk vp bp N.n ops C)(h:Region.ready .any ops.toArray L=[]):∀k,k<ops.length→L.getD k false=true:=by
 rcases kN L ops.length with h1|⟨k,hk,hn,hall⟩
 ·exact h1
 ·exfalso;obtain⟨o,ho⟩:=bW hk
  have:k∈Region.ready .any ops.toArray L:=by
   refine mem_ready.2 ⟨?_,o,by simpa using ho,fun e he hb=>hall _ ?_⟩
   ·have:k<L.size:=by rw[hI.lsz];exact hk
    simp[this] at hn ⊢;exact hn
   ·refine hok.dir k o ho e.on ?_;simp only[cX,dp,fQ];exact⟨e,⟨by simpa using he,hb⟩,rfl⟩
  rw[h] at this;cases this
theorem NInv.final(hI:NInv vp bp P N ops C S K E₀ w₀ L a w E T H nx)(hok:MixNOk vp bp N.n ops C)(hall:∀k,k<ops.length→L.getD k false=true):K T H nx:=by
 have:bS C L=[]:=zf.2 (fun k hk=>by simp[hall k (hok.lt k hk)]);have h:=hI.rest;rw[this] at h;exact h
theorem sk(hvp:VP vp)(hbp:mq P bp){rr:Option Nat}{Q:Exit→Act→World→Prop}(hok:MixNOk vp bp N.n ops C)(hQ:∀E' T' H' nx' a' w',Ext E₀ w₀ E' w'→Sim E' N ⟨T',H',nx'⟩ a' w'→K T' H' nx'→Q .normal a' w'):
    ∀(fuel:Nat)(L:Array Bool)(a:Act)(w:World)(E:Env)(T:Tm)(H:Hp)(nx:Nat),NInv vp bp P N ops C S K E₀ w₀ L a w E T H nx→left ops.length L≤fuel→wpAnyIn (FW rr) 0 P .any ops.toArray Q fuel L a w
 |0,L,a,w,E,T,H,nx,hI,hl=>by
  have hall:∀k,k<ops.length→L.getD k false=true:=by
   rcases kN L ops.length with h1|⟨k,hk,hn,hall⟩
   ·exact h1
   ·exfalso;have:left ops.length (L.setIfInBounds k true)<left ops.length L:=fg L k _ hk hI.lsz hn;omega
  have hr:Region.ready .any ops.toArray L=[]:=by
   refine zI.2 (fun i hi=>?_);obtain⟨o,ho⟩:=fp hI.lsz hi;have:=hall i (bC.1 ho.get).1;rw[ho.not] at this;cases this
  exact⟨hr,hQ E T H nx a w hI.ext hI.sim (hI.final hok hall)⟩
 |fuel+1,L,a,w,E,T,H,nx,hI,hl=>by
  refine⟨fun hr=>hQ E T H nx a w hI.ext hI.sim (hI.final hok (hI.some_ready hok hr)),fun i hi=>?_⟩;obtain⟨o,ho⟩:=fp hI.lsz hi;refine hI.step hvp hbp hok ho (fun a' w' E' T' H' nx' hI'=>sk hvp hbp hok hQ fuel _ a' w' E' T' H' nx' hI' ?_);have:=fg L i ops.length (bC.1 ho.get).1 hI.lsz ho.not;omega
theorem yx{rr:Option Nat}{Q:Exit→Act→World→Prop}{rid:Nat}(hm:P.follows .mixedOrders=true)(hvp:VP vp)(hbp:mq P bp)(hok:kP vp bp N.n ops C=true)(hS:Sim E₀ N ⟨T,H,nx⟩ a w₀)(hs:Sub S H)
    (h:eN vp bp P N.n (ops.map (·.dst)) S (C.map (ct bp ops)) T H nx K)
    (hQ:∀E' T' H' nx' a' w',Ext E₀ w₀ E' w'→Sim E' N ⟨T',H',nx'⟩ a' w'→K T' H' nx'→Q .normal a' w'):(Code.region rid ops.toArray true).wpIn (FW rr) 0 P Q a w₀:=by
 refine wpIn_region_any hm ?_;have hdr:({w₀ with drawn:=w₀.drawn+1}:World).heap=w₀.heap:=rfl;have hext:Ext E₀ w₀ E₀ {w₀ with drawn:=w₀.drawn+1}:=Ext.same hdr;have hok:=lr hok
 have hfalse:∀k,(Array.replicate ops.toArray.size false).getD k false=false:=by
  intro k;simp only[sA,Array.getElem?_replicate];split<;>rfl
 have hrest:bS C (Array.replicate ops.toArray.size false)=C:=pe.2 (fun k _=>by rw[hfalse];rfl);refine sk (C:=C) (K:=K) (S:=S) (E₀:=E₀) (w₀:=w₀) hvp hbp hok hQ _ _ _ _ E₀ T H nx ⟨by simp,?_,hext,?_,fun _ _ _ _=>hs,by rw[hrest];exact h⟩ (by rw[List.size_toArray];unfold left;exact fR List.countP_le_length (by simp))
 ·intro j i h1;rw[hfalse] at h1;cases h1
 ·exact⟨hS.env.drew,hS.heap.same hdr,hS.fresh,hS.round,hS.floor,hS.size,fun t=>(hS.tmps t).ext hext,hS.defers.ext hext⟩
end Go.Abs
namespace Go.Abs
open Go.RowKit
def gW(vp:Op→Bool)(bp:BP)(P:Program)(n:Nat)(dsts:List (Option Nat))(S:Hp)(f:Oper×Bool)(l2:List (Oper×Bool)):List (Oper×Bool)→Tm→Hp→Nat→SP→Prop
 |[],T,H,nx,K=>eN vp bp P n dsts S (f::l2) T H nx K
 |o::l,T,H,nx,K=>(nv vp bp o.1.op=false→eN vp bp P n dsts S (f::o::(l++l2)) T H nx K)∧fM vp bp P n dsts S o T H nx fun T H nx=>gW vp bp P n dsts S f l2 l T H nx K
theorem mY{vp:Op→Bool}{bp:BP}{P:Program}{n:Nat}{dsts:List (Option Nat)}{S:Hp}{f:Oper×Bool}{l2:List (Oper×Bool)}{K K':SP}(hK:∀T H nx,K T H nx→K' T H nx):∀(l:List (Oper×Bool)){T:Tm}{H:Hp}{nx:Nat},gW vp bp P n dsts S f l2 l T H nx K→gW vp bp P n dsts S f l2 l T H nx K'
 |[],_,_,_,h=>hY hK _ h
 |o::l,_,_,_,h=>⟨fun hn=>hY hK _ (h.1 hn),du h.2 (fun _ _ _=>mY hK l)⟩
theorem z8{vp:Op→Bool}{bp:BP}{P:Program}{n:Nat}{ops:List Oper}{S:Hp}{f o:Oper×Bool}{l2 l3:List (Oper×Bool)}{K:SP}:∀(l1:List (Oper×Bool)){T:Tm}{H:Hp}{nx:Nat},(∀x∈l1,FreeN vp bp ops x.1 o.1)→
    gW vp bp P n (ops.map (·.dst)) S f l2 (l1++o::l3) T H nx K→fM vp bp P n (ops.map (·.dst)) S o T H nx fun T H nx=>gW vp bp P n (ops.map (·.dst)) S f l2 (l1++l3) T H nx K
 |[],_,_,_,_,h=>h.2
 |x::l1,T,H,nx,hf,h=>by
  have hx:=hf x (by simp);have h:fM vp bp P n (ops.map (·.dst)) S x T H nx fun T H nx=>gW vp bp P n (ops.map (·.dst)) S f l2 (l1++o::l3) T H nx K:=h.2
  have h:fM vp bp P n (ops.map (·.dst)) S x T H nx fun T H nx=>fM vp bp P n (ops.map (·.dst)) S o T H nx fun T H nx=>gW vp bp P n (ops.map (·.dst)) S f l2 (l1++l3) T H nx K:=
   du h (fun r H1 nx1 h=>z8 l1 (fun y hy=>hf y (by simp[hy])) h)
  refine du (xw hx h) (fun r H1 nx1 h=>⟨fun hn=>?_,h⟩);rw[hx.k] at hn;cases hn
theorem zT{vp:Op→Bool}{bp:BP}{P:Program}{n:Nat}{ops:List Oper}{S:Hp}{f:Oper×Bool}{l2:List (Oper×Bool)}{K:SP}:∀(l:List (Oper×Bool)){T:Tm}{H:Hp}{nx:Nat},(∀x∈l,nv vp bp x.1.op=true→FreeN vp bp ops x.1 f.1)→
    gW vp bp P n (ops.map (·.dst)) S f l2 l T H nx K→fM vp bp P n (ops.map (·.dst)) S f T H nx fun T H nx=>eN vp bp P n (ops.map (·.dst)) S (l++l2) T H nx K
 |[],_,_,_,_,h=>h
 |x::l,T,H,nx,hf,h=>by
  cases hn:nv vp bp x.1.op with
  |false=>exact h.1 hn
  |true=>
   have h:=h.2;exact xw (hf x (by simp) hn) (du h (fun r H1 nx1 h=>zT l (fun y hy=>hf y (by simp[hy])) h))
def oa(vp:Op→Bool)(bp:BP)(n:Nat)(ops:List Oper)(f:Nat)(C D:List Nat):Bool:=
 let m:=Region.before ops.toArray
 let len:=ops.length
 ((List.range len).all fun j=>(cX (ops.getD j default)).all fun k=>k<j)&&
 ((List.range len).all fun j=>(List.range len).all fun i=>!cU m j i || (cX (ops.getD j default)).any fun k=>k==i || cU m k i)&&
 (lG (fun k i=>k !=i&&((ops.getD i default).dst.isNone || (ops.getD i default).dst !=(ops.getD k default).dst)&&(cU m i k || freeNB vp bp ops (ops.getD k default) (ops.getD i default))) (C++D))&&
 ((List.range len).all fun i=>i==f || (C++D).contains i)&&((C++D).all fun i=>i<len&&i !=f)&&decide (f<len)&&((List.range len).all fun i=>dok n (ops.getD i default).dst)&&
 (C.all fun k=>!nv vp bp (ops.getD k default).op || freeNB vp bp ops (ops.getD k default) (ops.getD f default))&&(D.all fun k=>cU m k f)&& !qD bp (ops.getD f default).op
structure MixFOk(vp:Op→Bool)(bp:BP)(n:Nat)(ops:List Oper)(f:Nat)(C D:List Nat):Prop where
 dir:∀(j:Nat)(o:Oper),ops[j]?=some o→∀k∈cX o,k<j
 clo:∀(j:Nat)(o:Oper)(i:Nat),ops[j]?=some o→i<ops.length→cU (Region.before ops.toArray) j i=true→∃k∈cX o,k=i∨cU (Region.before ops.toArray) k i=true
 pw:(C++D).Pairwise (fun k i=>k≠i∧(∀t,(ops.getD i default).dst=some t→(ops.getD k default).dst≠some t)∧(cU (Region.before ops.toArray) i k=true∨FreeN vp bp ops (ops.getD k default) (ops.getD i default)))
 all:∀i,i<ops.length→i=f∨i∈C++D
 lt:∀i∈C++D,i<ops.length∧i≠f
 fl:f<ops.length
 dk:∀(i:Nat)(o:Oper),ops[i]?=some o→dok n o.dst=true
 fr:∀k∈C,nv vp bp (ops.getD k default).op=true→FreeN vp bp ops (ops.getD k default) (ops.getD f default)
 dep:∀k∈D,cU (Region.before ops.toArray) k f=true
theorem pM{vp:Op→Bool}{bp:BP}{n:Nat}{ops:List Oper}{f:Nat}{C D:List Nat}(h:oa vp bp n ops f C D=true):MixFOk vp bp n ops f C D:=by
 simp only[oa,dl,jA] at h;obtain⟨⟨⟨⟨⟨⟨⟨⟨⟨h1,h2⟩,h3⟩,h4⟩,h5⟩,h6⟩,h7⟩,h8⟩,h9⟩,_⟩:=h;rw[cT] at h1 h2 h4 h5 h7 h8 h9;have hlt:=fun{k:Nat}{o:Oper}(hk:ops[k]?=some o)=>(bC.1 hk).1;refine⟨fun j o ho k hk=>?_,fun j o i ho hi hb=>?_,(jp h3).imp (fun{k i} h=>?_),fun i hi=>?_,fun i hi=>?_,h6,fun i o ho=>?_,fun k hk hn=>?_,fun k hk=>h9 k hk⟩
 ·have:=h1 j (en.2 (hlt ho));rw[cT] at this;have:=this k (by rw[bZ ho];exact hk);simpa using this
 ·have:=h2 j (en.2 (hlt ho));rw[cT] at this;have:=this i (en.2 hi);rw[bZ ho,hb] at this;simp only[Bool.not_true,Bool.false_or,jB,im,beq_iff_eq] at this;exact this
 ·simp only[dl,im] at h;obtain⟨⟨h7,h8⟩,h9⟩:=h;refine⟨by simpa using h7,fun t ht=>?_,h9.imp id kT⟩;rw[ht] at h8;simp at h8;exact fun e=>h8 e.symm
 ·have:=h4 i (en.2 hi);simpa using this
 ·have:=h5 i hi;simpa using this
 ·have:=h7 i (en.2 (hlt ho));rw[bZ ho] at this;exact this
 ·have:=h8 k hk;rw[hn] at this;exact kT (by simpa using this)
structure FInv(vp:Op→Bool)(bp:BP)(P:Program)(N:Cfg)(ops:List Oper)(f:Nat)(C D:List Nat)(S:Hp)(K:SP)(E₀:Env)(w₀:World)(L:Array Bool)(a:Act)(w:World)(E:Env)(T:Tm)(H:Hp)(nx:Nat):Prop where
 lsz:L.size=ops.length
 dc:∀j i,L.getD j false=true→cU (Region.before ops.toArray) j i=true→i<ops.length→L.getD i false=true
 ext:Ext E₀ w₀ E w
 sim:Sim E N ⟨T,H,nx⟩ a w
 st:∀j,j<ops.length→qD bp (ops.getD j default).op=true→L.getD j false=false→Sub S H
 rest:(L.getD f false=false∧gW vp bp P N.n (ops.map (·.dst)) S (ct bp ops f) (D.map (ct bp ops)) ((bS C L).map (ct bp ops)) T H nx K)∨(L.getD f false=true∧eN vp bp P N.n (ops.map (·.dst)) S ((bS (C++D) L).map (ct bp ops)) T H nx K)
variable{vp:Op→Bool}{bp:BP}{P:Program}{N:Cfg}{ops:List Oper}{f:Nat}{C D:List Nat}{S:Hp}{K:SP}{E₀:Env}{w₀:World}{L:Array Bool}{a:Act}{w:World}{E:Env}{T:Tm}{H:Hp}{nx:Nat}
theorem FInv.bits(hI:FInv vp bp P N ops f C D S K E₀ w₀ L a w E T H nx)(hok:MixFOk vp bp N.n ops f C D){i:Nat}{o:Oper}(hr:Ready ops L i o){k:Nat}(hk:k<ops.length)(hb:cU (Region.before ops.toArray) i k=true):L.getD k false=true:=by
 obtain⟨q,hq,h⟩:=hok.clo i o k hr.get hk hb;rcases h with rfl|h
 ·exact hr.dir _ hq
 ·exact hI.dc q k (hr.dir _ hq) h hk
theorem qd{C:List Nat}{L:Array Bool}{i:Nat}(hil:i<L.size)(h:i∉C):bS C (L.setIfInBounds i true)=bS C L:=by
 unfold bS;refine List.filter_congr fun k hk=>?_;rw[cr L i k hil,if_neg fun e=>h (by rw[←e];exact hk)]
theorem FInv.step(hvp:VP vp)(hbp:mq P bp){rr:Option Nat}{Q:Exit→Act→World→Prop}{K':Act→World→Prop}(hI:FInv vp bp P N ops f C D S K E₀ w₀ L a w E T H nx)(hok:MixFOk vp bp N.n ops f C D){i:Nat}{o:Oper}(hr:Ready ops L i o)
    (hK:∀a' w' E' T' H' nx',FInv vp bp P N ops f C D S K E₀ w₀ (L.setIfInBounds i true) a' w' E' T' H' nx'→K' a' w'):wpOpIn (FW rr) 0 P ops.toArray Q i K' a w:=by
 have hi:i<ops.length:=(bC.1 hr.get).1;have hil:i<L.size:=by rw[hI.lsz];exact hi
 have hgeti:(ops.toArray)[i]?=some o:=by simpa using hr.get
 unfold wpOpIn;rw[hgeti];simp only;have hgo:ops.getD i default=o:=bZ hr.get;have hpo:ct bp ops i=(o,dU bp ops i):=by unfold ct;rw[hgo]
 have hset:=fun k=>cr L i k hil
 have hDn:L.getD f false=false→bS D L=D:=fun hf=>pe.2 fun k hk=>by
  cases hb:L.getD k false with
  |false=>rfl
  |true=>
   have:=hI.dc k f hb (hok.dep k hk) hok.fl;rw[hf] at this;cases this
 have hld:qD bp o.op=true→Sub S H:=fun h=>hI.st i hi (by rw[hgo];exact h) hr.not
 have main:fM vp bp P N.n (ops.map (·.dst)) S (o,dU bp ops i) T H nx fun T' H' nx'=>((L.setIfInBounds i true).getD f false=false∧gW vp bp P N.n (ops.map (·.dst)) S (ct bp ops f) (D.map (ct bp ops)) ((bS C (L.setIfInBounds i true)).map (ct bp ops)) T' H' nx' K)∨((L.setIfInBounds i true).getD f false=true∧eN vp bp P N.n (ops.map (·.dst)) S ((bS (C++D) (L.setIfInBounds i true)).map (ct bp ops)) T' H' nx' K):=by
  rcases hI.rest with⟨hf,hrest⟩|⟨hf,hrest⟩
  ·by_cases hif:i=f
   ·subst hif
    have ht:=zT (ops:=ops) ((bS C L).map (ct bp ops)) (fun x hx hn=>by
     obtain⟨k,hk,rfl⟩:=dp.1 hx;exact hok.fr k (fQ.1 hk).1 hn) hrest
    rw[hpo] at ht;refine du ht (fun r H1 nx1 h=>.inr ⟨by rw[hset,if_pos rfl],?_⟩);have hnC:i∉C++D:=fun q=>(hok.lt i q).2 rfl;rw[qd hil hnC]
    have:bS (C++D) L=bS C L++D:=by
     unfold bS;rw[nU]
     congr 1
     exact hDn hf
    rw[this,hU];exact h
   ·have hiC:i∈C:=by
      rcases hok.all i hi with h|h
      ·exact absurd h hif
      ·rcases pf.1 h with h|h
       ·exact h
       ·have:=hI.bits hok hr hok.fl (hok.dep i h);rw[hf] at this;cases this
    have hmem:i∈bS C L:=fQ.2 ⟨hiC,by rw[hr.not];rfl⟩;have pwC:C.Pairwise _:=(List.pairwise_append.1 hok.pw).1;obtain⟨l1,l2,e1,e2,f1⟩:=iI pwC hmem hil
    have hfree:∀k∈l1,FreeN vp bp ops (ops.getD k default) o:=by
     intro k hk;rcases f1 k hk with h|h
     ·have hkC:k∈bS C L:=by rw[e1];simp[hk]
      obtain⟨h1,h2⟩:=fQ.1 hkC;have:=hI.bits hok hr (hok.lt k (o5 _ h1)).1 h;rw[this] at h2;cases h2
     ·rw[hgo] at h;exact h
    rw[e1,hU,fZ,hpo] at hrest
    have hpull:=z8 (o:=(o,dU bp ops i)) (l1.map (ct bp ops)) (fun x hx=>by
     obtain⟨k,hk,rfl⟩:=dp.1 hx;exact hfree k hk) hrest
    refine du hpull (fun r H1 nx1 h=>.inl ⟨by rw[hset,if_neg fun e=>hif e.symm];exact hf,?_⟩);rw[e2,hU];exact h
  ·have hif:i≠f:=fun e=>by
     rw[←e,hr.not] at hf;cases hf
   have hiC:i∈C++D:=(hok.all i hi).resolve_left hif;have hmem:i∈bS (C++D) L:=fQ.2 ⟨hiC,by rw[hr.not];rfl⟩;obtain⟨l1,l2,e1,e2,f1⟩:=iI hok.pw hmem hil
   have hfree:∀k∈l1,FreeN vp bp ops (ops.getD k default) o:=by
    intro k hk;rcases f1 k hk with h|h
    ·have hkC:k∈bS (C++D) L:=by rw[e1];simp[hk]
     obtain⟨h1,h2⟩:=fQ.1 hkC;have:=hI.bits hok hr (hok.lt k h1).1 h;rw[this] at h2;cases h2
    ·rw[hgo] at h;exact h
   rw[e1,hU,fZ,hpo] at hrest
   have hpull:=ye (o:=(o,dU bp ops i)) (l1.map (ct bp ops)) (fun x hx=>by
    obtain⟨k,hk,rfl⟩:=dp.1 hx;exact hfree k hk) hrest
   refine du hpull (fun r H1 nx1 h=>.inr ⟨by rw[hset];split<;>first|rfl|exact hf,?_⟩);rw[e2,hU];exact h
 have hs:=ju (rr:=rr) (ops:=ops.toArray) (Q:=Q) (next:=K') hI.sim (sV hvp hbp hld main) (fun E' T' H' nx' a' w' he hS hk=>?_)
 ·exact hs
 ·obtain⟨dA,hk⟩:=hk;refine hK a' w' E' T' H' nx' ⟨by simp[hI.lsz],?_,hI.ext.trans he,hS,?_,hk⟩
  ·intro j k hj hb hkl;rw[hset] at hj ⊢;by_cases hki:k=i
   ·rw[if_pos hki]
   ·rw[if_neg hki];by_cases hji:j=i
    ·subst hji;exact hI.bits hok hr hkl hb
    ·rw[if_neg hji] at hj;exact hI.dc j k hj hb hkl
  ·intro j hj hl hn;rw[hset] at hn;by_cases hji:j=i
   ·rw[if_pos hji] at hn;cases hn
   rw[if_neg hji] at hn;rcases dA with rfl|dA
   ·exact hI.st j hj hl hn
   ·refine dA ?_;show dU bp ops i=true;unfold dU;rw[jB];refine⟨j,en.2 hj,?_⟩;rw[dl,dl];refine⟨⟨by simpa using hji,hl⟩,?_⟩;cases hb:cU (Region.before ops.toArray) i j with
    |false=>rfl
    |true=>
     have:=hI.bits hok hr hj hb;rw[this] at hn;cases hn
theorem FInv.some_ready(hI:FInv vp bp P N ops f C D S K E₀ w₀ L a w E T H nx)(hok:MixFOk vp bp N.n ops f C D)(h:Region.ready .any ops.toArray L=[]):∀k,k<ops.length→L.getD k false=true:=by
 rcases kN L ops.length with h1|⟨k,hk,hn,hall⟩
 ·exact h1
 ·exfalso;obtain⟨o,ho⟩:=bW hk
  have:k∈Region.ready .any ops.toArray L:=by
   refine mem_ready.2 ⟨?_,o,by simpa using ho,fun e he hb=>hall _ ?_⟩
   ·have:k<L.size:=by rw[hI.lsz];exact hk
    simp[this] at hn ⊢;exact hn
   ·refine hok.dir k o ho e.on ?_;simp only[cX,dp,fQ];exact⟨e,⟨by simpa using he,hb⟩,rfl⟩
  rw[h] at this;cases this
theorem FInv.final(hI:FInv vp bp P N ops f C D S K E₀ w₀ L a w E T H nx)(hok:MixFOk vp bp N.n ops f C D)(hall:∀k,k<ops.length→L.getD k false=true):K T H nx:=by
 rcases hI.rest with⟨hf,_⟩|⟨hf,h⟩
 ·rw[hall f hok.fl] at hf;cases hf
 ·have:bS (C++D) L=[]:=zf.2 (fun k hk=>by simp[hall k (hok.lt k hk).1]);rw[this] at h;exact h
theorem rf(hvp:VP vp)(hbp:mq P bp){rr:Option Nat}{Q:Exit→Act→World→Prop}(hok:MixFOk vp bp N.n ops f C D)(hQ:∀E' T' H' nx' a' w',Ext E₀ w₀ E' w'→Sim E' N ⟨T',H',nx'⟩ a' w'→K T' H' nx'→Q .normal a' w'):
    ∀(fuel:Nat)(L:Array Bool)(a:Act)(w:World)(E:Env)(T:Tm)(H:Hp)(nx:Nat),FInv vp bp P N ops f C D S K E₀ w₀ L a w E T H nx→left ops.length L≤fuel→wpAnyIn (FW rr) 0 P .any ops.toArray Q fuel L a w
 |0,L,a,w,E,T,H,nx,hI,hl=>by
  have hall:∀k,k<ops.length→L.getD k false=true:=by
   rcases kN L ops.length with h1|⟨k,hk,hn,hall⟩
   ·exact h1
   ·exfalso;have:left ops.length (L.setIfInBounds k true)<left ops.length L:=fg L k _ hk hI.lsz hn;omega
  have hr:Region.ready .any ops.toArray L=[]:=by
   refine zI.2 (fun i hi=>?_);obtain⟨o,ho⟩:=fp hI.lsz hi;have:=hall i (bC.1 ho.get).1;rw[ho.not] at this;cases this
  exact⟨hr,hQ E T H nx a w hI.ext hI.sim (hI.final hok hall)⟩
 |fuel+1,L,a,w,E,T,H,nx,hI,hl=>by
  refine⟨fun hr=>hQ E T H nx a w hI.ext hI.sim (hI.final hok (hI.some_ready hok hr)),fun i hi=>?_⟩;obtain⟨o,ho⟩:=fp hI.lsz hi;refine hI.step hvp hbp hok ho (fun a' w' E' T' H' nx' hI'=>rf hvp hbp hok hQ fuel _ a' w' E' T' H' nx' hI' ?_);have:=fg L i ops.length (bC.1 ho.get).1 hI.lsz ho.not;omega
theorem yV{rr:Option Nat}{Q:Exit→Act→World→Prop}{rid:Nat}(hm:P.follows .mixedOrders=true)(hvp:VP vp)(hbp:mq P bp)(hok:oa vp bp N.n ops f C D=true)(hS:Sim E₀ N ⟨T,H,nx⟩ a w₀)(hs:Sub S H)
    (h:gW vp bp P N.n (ops.map (·.dst)) S (ct bp ops f) (D.map (ct bp ops)) (C.map (ct bp ops)) T H nx K)
    (hQ:∀E' T' H' nx' a' w',Ext E₀ w₀ E' w'→Sim E' N ⟨T',H',nx'⟩ a' w'→K T' H' nx'→Q .normal a' w'):(Code.region rid ops.toArray true).wpIn (FW rr) 0 P Q a w₀:=by
 refine wpIn_region_any hm ?_;have hdr:({w₀ with drawn:=w₀.drawn+1}:World).heap=w₀.heap:=rfl;have hext:Ext E₀ w₀ E₀ {w₀ with drawn:=w₀.drawn+1}:=Ext.same hdr;have hok:=pM hok
 have hfalse:∀k,(Array.replicate ops.toArray.size false).getD k false=false:=by
  intro k;simp only[sA,Array.getElem?_replicate];split<;>rfl
 have hrest:bS C (Array.replicate ops.toArray.size false)=C:=pe.2 (fun k _=>by rw[hfalse];rfl);refine rf (f:=f) (C:=C) (D:=D) (K:=K) (S:=S) (E₀:=E₀) (w₀:=w₀) hvp hbp hok hQ _ _ _ _ E₀ T H nx ⟨by simp,?_,hext,?_,fun _ _ _ _=>hs,.inl ⟨hfalse f,by rw[hrest];exact h⟩⟩ (by rw[List.size_toArray];unfold left;exact fR List.countP_le_length (by simp))
 ·intro j i h1;rw[hfalse] at h1;cases h1
 ·exact⟨hS.env.drew,hS.heap.same hdr,hS.fresh,hS.round,hS.floor,hS.size,fun t=>(hS.tmps t).ext hext,hS.defers.ext hext⟩
end Go.Abs
namespace Go.Abs
open Go.RowKit
def awp(P:Program)(n:Nat):Code→Tm→Hp→Nat→CP→Prop
 |.skip,T,H,nx,K=>K .normal T H nx
 |.label _,T,H,nx,K=>K .normal T H nx
 |.region _ ops draw,T₀,H₀,nx₀,K=>∃T H nx Hf,Gh T₀ H₀ nx₀ T H nx Hf∧match draw with
  |true=>(if drawOk false ops.toList=true then kX P n .draw (ops.toList.map (·.dst)) ops.toList T H nx (K .normal) else aU (drawOk true ops.toList) (kX P n (.fresh nx) (ops.toList.map (·.dst)) ops.toList T H nx (K .normal)))∨
   (∃vp C,VP vp∧rc vp n ops.toList C=true∧iw vp P n (ops.toList.map (·.dst)) (C.map fun k=>ops.toList.getD k default) T H nx (K .normal))∨
   (∃vp bp C S,VP vp∧mq P bp∧kP vp bp n ops.toList C=true∧Sub S H∧eN vp bp P n (ops.toList.map (·.dst)) S (C.map (ct bp ops.toList)) T H nx (K .normal))∨
   ∃vp bp f C D S,VP vp∧mq P bp∧oa vp bp n ops.toList f C D=true∧Sub S H∧gW vp bp P n (ops.toList.map (·.dst)) S (ct bp ops.toList f) (D.map (ct bp ops.toList)) (C.map (ct bp ops.toList)) T H nx (K .normal)
  |false=>kX P n .text (ops.toList.map (·.dst)) ops.toList T H nx (K .normal)
 |.seq x y,T,H,nx,K=>awp P n x T H nx fun e T H nx=>aV e (awp P n y T H nx K) (K e T H nx)
 |.cond c x y,T,H,nx,K=>a9 (ev T c) (awp P n x T H nx K) (awp P n y T H nx K)
 |.block id b,T,H,nx,K=>awp P n b T H nx fun e T H nx=>K (lj id e) T H nx
 |.loop b,T,H,nx,K=>a7 (awp P n b) T H nx K
 |.exit id,T,H,nx,K=>K (.exit id) T H nx
 |.ret,T,H,nx,K=>K .ret T H nx
 |.rangeFunc g ps x y,T,H,nx,K=>RF P n (.rangeFunc g ps x y) T H nx K
 |_,_,_,_,_=>False
theorem ef{P:Program}{N:Nat}:∀(c:Code){T:Tm}{H:Hp}{nx:Nat}{K K':CP},awp P N c T H nx K→(∀e T H nx,K e T H nx→K' e T H nx)→awp P N c T H nx K'
 |.skip,_,_,_,_,_,h,hK=>hK _ _ _ _ h
 |.label _,_,_,_,_,_,h,hK=>hK _ _ _ _ h
 |.exit _,_,_,_,_,_,h,hK=>hK _ _ _ _ h
 |.ret,_,_,_,_,_,h,hK=>hK _ _ _ _ h
 |.region _ ops draw,_,_,_,_,_,h,hK=>by
  obtain⟨T,H,nx,Hf,hg,h⟩:=h;refine⟨T,H,nx,Hf,hg,?_⟩;cases draw with
  |true=>
   simp only at h ⊢;rcases h with h|⟨vp,C,h0,h1,h3⟩|⟨vp,bp,C,S,h0,hbp,h1,hs,h3⟩|⟨vp,bp,f,C,D,S,h0,hbp,h1,hs,h3⟩
   ·left;split
    ·rename_i hd;rw[if_pos hd] at h;exact jn (hK .normal) _ h
    ·rename_i hd;rw[if_neg hd] at h;exact⟨h.1,jn (hK .normal) _ h.2⟩
   ·exact .inr (.inl ⟨vp,C,h0,h1,oB (hK .normal) _ h3⟩)
   ·exact .inr (.inr (.inl ⟨vp,bp,C,S,h0,hbp,h1,hs,hY (hK .normal) _ h3⟩))
   ·exact .inr (.inr (.inr ⟨vp,bp,f,C,D,S,h0,hbp,h1,hs,mY (hK .normal) _ h3⟩))
  |false=>exact jn (hK .normal) _ h
 |.seq x y,_,_,_,K,K',h,hK=>by
  refine ef x h (fun e T H nx h=>?_);cases e with
  |normal=>exact ef y h hK
  |exit i=>exact hK _ _ _ _ h
  |ret=>exact hK _ _ _ _ h
 |.cond c x y,T,H,nx,K,K',h,hK=>by
  simp only[awp] at h ⊢;unfold a9 at h ⊢;split at h
  ·exact⟨fun hb=>ef x (h.1 hb) hK,fun hb=>ef y (h.2 hb) hK⟩
  ·exact h
 |.block id b,_,_,_,_,_,h,hK=>ef b h (fun e T H nx h=>hK _ _ _ _ h)
 |.loop b,T,H,nx,K,K',h,hK=>by
  obtain⟨n,h⟩:=h;refine⟨n,?_⟩
  induction n generalizing T H nx with
  |zero=>exact h
  |succ n ih=>
   obtain⟨T',H',nx',Hf,hw,h⟩:=h;refine⟨T',H',nx',Hf,hw,ef b h (fun e T H nx h=>?_)⟩;cases e with
   |normal=>exact ih _ _ _ h
   |exit i=>exact hK _ _ _ _ h
   |ret=>exact hK _ _ _ _ h
 |.rangeFunc ..,_,_,_,_,_,h,hK=>h.mono hK
 |.scope _,_,_,_,_,_,h,_=>h
 |.goto _,_,_,_,_,_,h,_=>h
 |.refuse _,_,_,_,_,_,h,_=>h
theorem dZ{P:Program}{N:Cfg}(hm:P.follows .mixedOrders=true):∀(c:Code){E:Env}{T:Tm}{H:Hp}{nx:Nat}{a:Act}{w:World}{K:CP},Sim E N ⟨T,H,nx⟩ a w→
    awp P N.n c T H nx K→c.wpIn (FW N.rd) 0 P (fG P N E w K) a w
 |.skip,_,_,_,_,_,_,_,hS,h=>wpIn_skip ⟨.normal,_,_,_,_,rfl,Ext.refl _ _,hS,h⟩
 |.label _,_,_,_,_,_,_,_,hS,h=>wpIn_label ⟨.normal,_,_,_,_,rfl,Ext.refl _ _,hS,h⟩
 |.exit i,_,_,_,_,_,_,_,hS,h=>wpIn_exit ⟨.exit i,_,_,_,_,rfl,Ext.refl _ _,hS,h⟩
 |.ret,_,_,_,_,_,_,_,hS,h=>wpIn_ret ⟨.ret,_,_,_,_,rfl,Ext.refl _ _,hS,h⟩
 |.region id ops draw,E₁,T₁,H₁,nx₁,a,w,K,hS₁,h=>by
  obtain⟨T,H,nx,Hf,hg,h⟩:=h;obtain⟨E,he₁,hS⟩:=hS₁.ghost hg;refine wpIn_mono (F:=FW N.rd) ?_ (fun e a w h=>fG.trans he₁ h);cases draw with
  |false=>exact wpIn_region_list (nL ops.toList hS h (fun E' T' H' nx' a' w' he hS' hk=>⟨.normal,E',T',H',nx',rfl,he,hS',hk⟩))
  |true=>
   simp only at h
   have key:∀dm:DM,dm.isText=false→drawOk dm.fr.isSome ops.toList=true→(∀m,dm.fr=some m→m=nx)→kX P N.n dm (ops.toList.map (·.dst)) ops.toList T H nx (K .normal)→(Code.region id ops true).wpIn (FW N.rd) 0 P (fG P N E w K) a w:=by
    intro dm hdm hok hm0 h;obtain⟨s,r,h0,h1,h2⟩:=nr hdm ops.toList h;have ht:Txt P N dm.fr ops.toList s r:=⟨h1,hok,by rw[h0];exact hm0⟩
    have:=zG (rr:=N.rd) (rid:=id) (Q:=fG P N E w K) (a:=a) (w₀:=w) (E₀:=E) hm ht (by rw[h0];exact hS) (fun E' a' w' he hS'=>⟨.normal,E',_,_,_,rfl,he,hS',h2⟩);rw[Array.toArray_toList] at this;exact this
   rcases h with h|⟨vp,C,h0,h1,h3⟩|⟨vp,bp,C,S,h0,hbp,h1,hs,h3⟩|⟨vp,bp,f,C,D,S,h0,hbp,h1,hs,h3⟩
   ·split at h
    ·rename_i hok;exact key .draw rfl hok (fun m hm=>(by cases hm)) h
    ·exact key (.fresh nx) rfl h.1 (fun m hm=>by cases hm;rfl) h.2
   ·have:=AS (rr:=N.rd) (rid:=id) (Q:=fG P N E w K) (a:=a) (w₀:=w) (E₀:=E) hm h0 h1 hS h3 (fun E' T' H' nx' a' w' he hS' hk=>⟨.normal,E',T',H',nx',rfl,he,hS',hk⟩);rw[Array.toArray_toList] at this;exact this
   ·have:=yx (rr:=N.rd) (rid:=id) (Q:=fG P N E w K) (a:=a) (w₀:=w) (E₀:=E) hm h0 hbp h1 hS hs h3 (fun E' T' H' nx' a' w' he hS' hk=>⟨.normal,E',T',H',nx',rfl,he,hS',hk⟩);rw[Array.toArray_toList] at this;exact this
   ·have:=yV (rr:=N.rd) (rid:=id) (Q:=fG P N E w K) (a:=a) (w₀:=w) (E₀:=E) hm h0 hbp h1 hS hs h3 (fun E' T' H' nx' a' w' he hS' hk=>⟨.normal,E',T',H',nx',rfl,he,hS',hk⟩);rw[Array.toArray_toList] at this;exact this
 |.seq x y,E,T,H,nx,a,w,K,hS,h=>by
  refine wpIn_seq (wpIn_mono (dZ hm x hS h) ?_);rintro e a' w' ⟨z,E',T',H',nx',rfl,he,hS',hk⟩;cases z with
  |normal=>exact wpIn_mono (dZ hm y hS' hk) (fun e a w h=>h.trans he)
  |exit i=>exact⟨.exit i,E',T',H',nx',rfl,he,hS',hk⟩
  |ret=>exact⟨.ret,E',T',H',nx',rfl,he,hS',hk⟩
 |.cond c x y,E,T,H,nx,a,w,K,hS,h=>by
  simp only[awp] at h;unfold a9 at h;split at h
  ·rename_i b hb;have hr:=iK (E:=E) (w:=w) (a:=a) hS.tmps c;simp only at hr;rw[hb] at hr;generalize hv:a.eval c=v at hr;cases hr;exact wpIn_cond_split hv (fun hb=>dZ hm x hS (h.1 hb)) (fun hb=>dZ hm y hS (h.2 hb))
  ·exact h.elim
 |.block id b,E,T,H,nx,a,w,K,hS,h=>by
  refine wpIn_block (wpIn_mono (dZ hm b hS h) ?_);rintro e a' w' ⟨z,E',T',H',nx',rfl,he,hS',hk⟩;cases z with
  |normal=>exact⟨.normal,E',T',H',nx',rfl,he,hS',hk⟩
  |exit i=>
   simp only[AEx.cv,Exit.inBlock];split
   ·rename_i hi;refine⟨.normal,E',T',H',nx',rfl,he,hS',?_⟩;simp only[lj,if_pos hi] at hk;exact hk
   ·rename_i hi;refine⟨.exit i,E',T',H',nx',rfl,he,hS',?_⟩;simp only[lj,if_neg hi] at hk;exact hk
  |ret=>exact⟨.ret,E',T',H',nx',rfl,he,hS',hk⟩
 |.loop b,E,T,H,nx,a,w,K,hS,h=>by
  obtain⟨n,h⟩:=h;refine wpIn_loop_rounds n ?_
  have key:∀n(E':Env) T H nx a w',Ext E w E' w'→Sim E' N ⟨T,H,nx⟩ a w'→qW (awp P N.n b) K n T H nx→Code.roundsIn (FW N.rd) 0 P b (fG P N E w K) n a w':=by
   intro n
   induction n with
   |zero=>intro E' T H nx a w' _ _ h;exact h
   |succ n ih=>
    intro E' T H nx a w' he hS h;obtain⟨T',H',nx',Hf,hwk,h⟩:=h;obtain⟨E₁,he₁,hS₁⟩:=hS.ghost hwk;refine wpIn_mono (dZ hm b hS₁ h) ?_;rintro e a' w'' ⟨z,E'',T'',H'',nx'',rfl,he',hS',hk⟩;cases z with
    |normal=>exact ih E'' _ _ _ _ _ ((he.trans he₁).trans he') hS' hk
    |exit i=>exact⟨.exit i,E'',T'',H'',nx'',rfl,(he.trans he₁).trans he',hS',hk⟩
    |ret=>exact⟨.ret,E'',T'',H'',nx'',rfl,(he.trans he₁).trans he',hS',hk⟩
  exact key n E T H nx a w (Ext.refl _ _) hS h
 |.rangeFunc ..,_,_,_,_,_,_,_,hS,h=>h N _ _ _ rfl hS
 |.scope _,_,_,_,_,_,_,_,_,h=>h.elim
 |.goto _,_,_,_,_,_,_,_,_,h=>h.elim
 |.refuse _,_,_,_,_,_,_,_,_,h=>h.elim
end Go.Abs
namespace Go.Abs
open Go.RowKit
def iX(P:Program)(T:Tm)(H:Hp):List ResultVar→Option (List AV)
 |[]=>some []
 |.tmp t::l=>match iX P T H l with|some xs=>some (T t::xs)|none=>none
 |.cell a t::l=>match gK P H t (T a),iX P T H l with|some x,some xs=>some (x::xs)|_,_=>none
def kp(P:Program)(T:Tm)(H:Hp)(l:List ResultVar):Option AV:=match iX P T H l with
 |some [x]=>some x
 |some xs=>some (.tup xs)
 |none=>none
def Cells(w w':World):Prop:=∀a v,w.cell? a=some v→w'.cell? a=some v
theorem rZ{P:Program}{E:Env}{H:Hp}{nx:Nat}{w:World}(hh:HeapOk E H nx w){p:AV}{v:Value}(hr:Rel E w p v){t:TypeId}{x:AV}(hx:gK P H t p=some x):
    ∃y,(∀w',Cells w w'→(do loadVar t (←asAddr v):Sem Value).run P w'=.ok y w')∧Rel E w x y:=by
 unfold gK at hx;split at hx
 case isFalse=>cases hx
 case isTrue ht=>
  split at hx
  case isTrue hagg=>
   split at hx
   case isFalse=>cases hx
   case isTrue hpos=>
    cases hrd:rd H (P.cellsOf t) p with
    |none=>simp[hrd] at hx
    |some xs=>
     simp[hrd] at hx;subst hx;obtain⟨blk,o,vals,rfl,hlen,hrow⟩:=q9 hh hr hrd hpos;refine⟨.agg vals.toArray,fun w' hw=>?_,.agg xs vals hrow.len hrow.rel⟩;have hl:vals.length=P.cellsOf t:=hrow.len.trans hlen;simp only[asAddr,loadVar,bj,cS,bg,eW ht,hagg,if_true,aK ht,←hl];rw[run_loadCells_list (P:=P) (w:=w') ⟨blk,o,none⟩ vals (fun j v hv=>by rw[bM];exact hw _ _ (hrow.cell _ _ hv))];rfl
  case isFalse hagg=>
   obtain⟨blk,o,y,rfl,hc,hrel⟩:=pT hh hr hx;refine⟨y,fun w' hw=>?_,hrel⟩;simp[asAddr,loadVar,eW ht,hagg,hw _ _ hc]
theorem nj{P:Program}{E:Env}{w:World}{H:Hp}{nx:Nat}{T:Tm}{tmps:Array Value}(hh:HeapOk E H nx w)(ht:∀t,Rel E w (T t) (tmps.getD t Go.undef)):∀(l:List ResultVar)(xs:List AV),iX P T H l=some xs→
    ∃vs,(∀w',Cells w w'→(l.mapM (fun r:ResultVar=>match r with|.tmp t=>(pure (tmps.getD t Go.undef):Sem Value)|.cell a t=>do loadVar t (←asAddr (tmps.getD a Go.undef)))).run P w'=.ok vs w')∧cJ E w xs vs
 |[],xs,h=>by cases h;exact⟨[],fun _ _=>rfl,rfl,by simp⟩
 |.tmp t::l,xs,h=>by
  simp only[iX] at h;split at h
  ·rename_i ys hy;cases h;obtain⟨vs,h1,h2⟩:=nj (P:=P) hh ht l ys hy;refine⟨tmps.getD t Go.undef::vs,fun w' hw=>?_,by simp[h2.1],fun i x y hx hy=>?_⟩
   ·rw[List.mapM_cons];simp only[bj,cS,bg,h1 w' hw]
   ·cases i with
    |zero=>simp at hx hy;subst hx;rw[←hy];have:=ht t;simpa using this
    |succ i=>exact h2.2 i x y (by simpa using hx) (by simpa using hy)
  ·cases h
 |.cell a t::l,xs,h=>by
  simp only[iX] at h;split at h
  ·rename_i x0 ys hx0 hy;cases h;obtain⟨vs,h1,h2⟩:=nj (P:=P) hh ht l ys hy;obtain⟨y0,k1,k2⟩:=rZ (P:=P) hh (ht a) hx0;refine⟨y0::vs,fun w' hw=>?_,by simp[h2.1],fun i x y hx hy=>?_⟩
   ·rw[List.mapM_cons,bj];have:=k1 w' hw;rw[this];simp only[bj,cS,bg,h1 w' hw]
   ·cases i with
    |zero=>simp at hx hy;subst hx;rw[←hy];exact k2
    |succ i=>exact h2.2 i x y (by simpa using hx) (by simpa using hy)
  ·cases h
theorem v5{P:Program}{E:Env}{w:World}{H:Hp}{nx:Nat}{T:Tm}{tmps:Array Value}{fn:Func}{x:AV}(hh:HeapOk E H nx w)(ht:∀t,Rel E w (T t) (tmps.getD t Go.undef))(h:kp P T H fn.results.toList=some x):
    ∃v,(∀w',Cells w w'→(results fn tmps).run P w'=.ok v w')∧Rel E w x v:=by
 have key:∀xs,iX P T H fn.results.toList=some xs→∃vs:Array Value,(∀w',Cells w w'→(results fn tmps).run P w'=.ok (if h:vs.size=1 then vs[0] else .tuple vs) w')∧cJ E w xs vs.toList:=by
  intro xs hx;obtain⟨vs,h1,h2⟩:=nj (P:=P) hh ht _ _ hx;refine⟨vs.toArray,fun w' hw=>?_,h2⟩
  have e:results fn tmps=(do
      let vs ←(List.toArray <$> fn.results.toList.mapM (fun r:ResultVar=>match r with|.tmp t=>(pure (tmps.getD t Go.undef):Sem Value)|.cell a t=>do loadVar t (←asAddr (tmps.getD a Go.undef))):Sem (Array Value))
      pure (if h:vs.size=1 then vs[0] else .tuple vs)):=by
   unfold results;rw[Array.mapM_eq_mapM_toList];rfl
  rw[e,map_eq_pure_bind];simp only[bj,h1 w' hw,bg,cS]
 unfold kp at h;split at h
 ·rename_i y hy;cases h;obtain⟨vs,h1,h2⟩:=key _ hy;have hs:vs.size=1:=by have:=h2.1;simpa using this
  refine⟨vs[0],fun w' hw=>by rw[h1 w' hw,dif_pos hs],h2.2 0 _ _ rfl (by simp[hs])⟩
 ·rename_i xs hne hy;cases h;obtain⟨vs,h1,h2⟩:=key _ hy
  have hs:vs.size≠1:=by
   intro hs;have:=h2.1;rw[Array.length_toList,hs] at this
   match xs,this,hne with
   |[x],_,hne=>exact hne x rfl
  refine⟨.tuple vs,fun w' hw=>by rw[h1 w' hw,dif_neg hs],?_⟩;exact Rel.tup _ vs.toList h2.1 h2.2
 ·cases h
theorem Rel.world{E:Env}{w w':World}(hc:∀a v,w.cell? a=some v→w'.cell? a=some v){x:AV}{v:Value}(h:Rel E w x v):Rel E w' x v:=by
 induction h with
 |undef v=>exact .undef v
 |bool b=>exact .bool b
 |int k n=>exact .int k n
 |str s=>exact .str s
 |nilp=>exact .nilp
 |nilf=>exact .nilf
 |yld b l h=>exact .yld b l h
 |mp b k h=>exact .mp b k h
 |nilm=>exact .nilm
 |itr b k h=>exact .itr b k h
 |ptr b n off blk sz h=>exact .ptr b n off blk sz h
 |iptr cells off blk o vals h1 h2 _ ih=>exact .iptr cells off blk o vals h1 (fun i h=>hc _ _ (h2 i h)) ih
 |eslnil=>exact .eslnil
 |esl a=>exact .esl a
 |slnil sz=>exact .slnil sz
 |slempty sz a c=>exact .slempty sz a c
 |sl sz elems blk o cap vals h1 hlen hsz h2 _ ih=>exact .sl sz elems blk o cap vals h1 hlen hsz (fun i h=>hc _ _ (h2 i h)) ih
 |msl b n sz off len blk bsz cap h hl hc' hn=>exact .msl b n sz off len blk bsz cap h hl hc' hn
 |msl0 b sz v h=>exact .msl0 b sz v h
 |func f caps cv hl _ ih=>exact .func f caps cv hl ih
 |bfn f caps cv hl _ ih=>exact .bfn f caps cv hl ih
 |agg cs vs hl _ ih=>exact .agg cs vs hl ih
 |tup cs vs hl _ ih=>exact .tup cs vs hl ih
theorem pQ{w:World}{D:Nat}{o o':Obj}(hD:w.heap[D]?=some o)(hno:∀c e f,o≠.cells c e f):∀a v,w.cell? a=some v→(w.putObj D o').cell? a=some v:=by
 intro a v h
 have hne:a.block≠D:=by
  intro e;unfold World.cell? at h;rw[e,hD] at h;split at h
  ·rename_i hh;cases hh;exact absurd rfl (hno _ _ _)
  ·cases h
 unfold World.cell? at h ⊢
 have:(w.putObj D o').heap[a.block]?=w.heap[a.block]?:=by
  simp only[World.putObj];exact wY (Ne.symm hne)
 rw[this];exact h
theorem xL{P:Program}{w:World}{D:Nat}(hD:w.heap[D]?=some (.deferred (some []))):(Instr.takeDeferred D).run P w=.ok [] (w.putObj D (.deferred none)):=by
 unfold Instr.takeDeferred;simp[getObj,setObj,Sem.run,hD,World.putObj,bind,Sem.bind,pure]
def yb(w w':World):Prop:=∀(k:Nat)(o:Obj),w.heap[k]?=some o→(∀ds,o≠.deferred ds)→w'.heap[k]?=some o
theorem kr{P:Program}{fn:Func}{tmps:Array Value}{R:Ending→World→Prop}{E:Env}{N:Cfg}{w₀:World}{v:Value}(hv:∀w,Cells w₀ w→(results fn tmps).run P w=.ok v w)
    (hR:∀w,Below E.base w₀ w→Below N.floor w₀ w→w.heap.size=w₀.heap.size→yb w₀ w→(∀a v,w₀.cell? a=some v→w.cell? a=some v)→R (.returned v) w):
    ∀(ds:List Deferred)(w:World),lS E N w ds→Below E.base w₀ w→Below N.floor w₀ w→w.heap.size=w₀.heap.size→yb w₀ w→(∀a v,w₀.cell? a=some v→w.cell? a=some v)→LeavesInM Fence.wide 0 P fn tmps R ds .returning w
 |[],w,_,hb,hb2,hs,hu,hc=>⟨v,hv w hc,hR w hb hb2 hs hu hc⟩
 |d::ds,w,hm,hb,hb2,hs,hu,hc=>by
  obtain⟨D,rfl,hD1,hD3,_,hD2⟩:=hm.2 d (by simp);have hpw:=xX.1 hm.1
  have hne:∀k,D≠k→(w.putObj D (.deferred none)).heap[k]?=w.heap[k]?:=fun k hk=>by
   simp only[World.putObj];exact wY hk
  refine⟨by simp,.inl ⟨D,w.putObj D (.deferred none),rfl,xL hD2,kr (N:=N) hv hR ds _ ⟨hpw.2,fun d' hd'=>?_⟩ ?_ ?_ ?_ ?_ ?_⟩⟩
  ·obtain⟨D',rfl,h2,h2',h3,h4⟩:=hm.2 d' (by simp[hd']);refine⟨D',rfl,h2,h2',h3,?_⟩;rw[hne D' (fun e=>hpw.1 _ hd' (by rw[e]))];exact h4
  ·exact hb.trans ⟨rfl,rfl,rfl,by simp[World.putObj],fun k hk=>hne k (by omega)⟩
  ·exact hb2.trans ⟨rfl,rfl,rfl,by simp[World.putObj],fun k hk=>hne k (by omega)⟩
  ·simp[World.putObj,hs]
  ·intro k o ho hno;have h1:=hu k o ho hno;rw[hne k (fun e=>by subst e;rw[hD2] at h1;cases h1;exact hno _ rfl)];exact h1
  ·exact fun a v h=>pQ hD2 (by intros;simp) a v (hc a v h)
theorem Rel.env{E E':Env}{w:World}(hi:E'.imm=E.imm)(hm:E'.mu=E.mu)(hs:E'.sp=E.sp){x:AV}{v:Value}(h:Rel E w x v):Rel E' w x v:=
 h.mono (fun b hb=>by rw[hi];exact hb) (fun b n x hb=>by rw[hm];exact hb) (fun b x hb=>by rw[hs];exact hb)
theorem vK{E E':Env}{w w₁ w':World}{H:Hp}{nx:Nat}(hE:EnvOk E w)(he:Ext E w E' w₁)(hE':EnvOk E' w₁)(hh:HeapOk E' H nx w₁)(hb:Below E'.base w₁ w')(hb2:Below w.heap.size w₁ w')(hs:w'.heap.size=w₁.heap.size)(hu:yb w₁ w')(hc:∀a v,w₁.cell? a=some v→w'.cell? a=some v):
    Ext E w {E' with dm:=E.dm} w'∧EnvOk {E' with dm:=E.dm} w'∧HeapOk {E' with dm:=E.dm} H nx w'∧∀x v,Rel E' w₁ x v→Rel {E' with dm:=E.dm} w' x v:=by
 have hrel:∀x v,Rel E' w₁ x v→Rel {E' with dm:=E.dm} w' x v:=fun x v h=>Rel.env (E:=E') (E':={E' with dm:=E.dm}) rfl rfl rfl (h.world hc)
 have hmapB:∀{ks vs bs ck es},MapB E' w₁ ks vs bs ck es→MapB {E' with dm:=E.dm} w' ks vs bs ck es:=fun h=>
  ⟨h.len,h.len',h.blen,fun i x e h1 h2=>hrel _ _ (h.key i x e h1 h2),fun i x e h1 h2=>hrel _ _ (h.val i x e h1 h2),h.born,h.nd,h.lt⟩
 have hmap:∀{ks vs es clock},MapOk E' w₁ ks vs es clock→MapOk {E' with dm:=E.dm} w' ks vs es clock:=fun h=>
  ⟨h.len,h.len',fun i x e h1 h2=>hrel _ _ (h.key i x e h1 h2),fun i x e h1 h2=>hrel _ _ (h.val i x e h1 h2),h.born,h.clk⟩
 refine⟨⟨he.base,he.w0,he.imm,he.new,he.mu,he.sp,he.lp,fun b hb'=>⟨hb',?_⟩,by rw[hs];exact he.size,fun b hb'=>?_⟩,⟨fun b hb'=>by rw[hs];exact hE'.lt b hb',hE'.below.trans hb,fun b hb'=>?_,hE'.spi,fun b k hk=>?_,hE'.spm,fun b r T hl=>?_⟩,⟨fun b cs hb'=>?_,hh.dom,hh.apart,by rw[hs];exact hh.size,hh.top,fun b x hb' hx=>?_,hh.nsp⟩,hrel⟩
 ·rw[hb2.block b (hE.dlt hb'),(he.dm b hb').2]
 ·rw[hb2.block b (hE.lt b hb'),he.keep b hb']
 ·obtain⟨ds,hd⟩:=hE.dm b hb';exact⟨ds,by rw[hb2.block b (hE.dlt hb'),(he.dm b hb').2,hd]⟩
 ·obtain⟨h1,h2,o,h3,h4,h5⟩:=hE'.spb b k hk;exact⟨h1,h2,o,hu k o h3 h5,h4,h5⟩
 ·obtain⟨k,st,p,h1,h2,h3⟩:=hE'.lp b r T hl;exact⟨k,st,p,h1,hu _ _ h2 (by intro ds;simp),fun t=>hrel _ _ (h3 t)⟩
 ·rcases hh.box b cs hb' with hn|⟨blk,sz,hx⟩
  ·exact .inl hn
  ·obtain⟨vals,ty,fz,k1,kz,k2,k3,k4⟩:=hx.cells
   exact .inr ⟨blk,sz,hx.mu,hx.base,hx.imm,vals,ty,fz,hu _ _ k1 (by intro ds; simp),kz,k2,k3,fun i x hx'=>by
    obtain⟨v,e1,e2,e3⟩:=k4 i x hx';exact⟨v,e1,e2,hrel _ _ e3⟩⟩
 ·obtain⟨k,h1,h2⟩:=hh.spec b x hb' hx;refine⟨k,h1,?_⟩;cases x with
  |omap ks vs=>
   obtain⟨es,clock,h3,h4⟩:=h2;exact⟨es,clock,hu _ _ h3 (by intro ds;simp),hmap h4⟩
  |oloop r T=>exact⟨hu _ _ h2.1 (by intro ds;simp),h2.2⟩
  |oiter m n0 seen=>
   obtain⟨km,last,h3,h4,h5⟩:=h2;exact⟨km,last,hu _ _ h3 (by intro ds;simp),h4,h5⟩
  |bmap ks vs bs ck=>
   obtain⟨es,h3,h4⟩:=h2;exact⟨es,hu _ _ h3 (by intro ds;simp),hmapB h4⟩
  |biter m n0 seen=>
   obtain⟨km,h3,h4⟩:=h2;exact⟨km,hu _ _ h3 (by intro ds;simp),h4⟩
  |_=>exact h2.elim
def AEx.ends:AEx→Bool
 |.exit _=>false
 |_=>true
def T0(args:List AV):Tm:=fun t=>args.getD t .undef
def qm(P:Program)(fn:Func)(args:List AV)(H:Hp)(nx:Nat)(K:AV→Hp→Nat→Prop):Prop:=
 ∃c,fn.body=some c∧args.length≤fn.ntmps∧awp P fn.ntmps c (T0 args) H nx fun e T H nx=>aU e.ends (aB (kp P T H fn.results.toList) fun x=>K x H nx)
theorem Ah{E:Env}{w:World}{args:List AV}{vs:List Value}(h:cJ E w args vs)(N:Nat):∀t,Rel E w (T0 args t) ((vs.toArray++Array.replicate (N-vs.toArray.size) Go.undef).getD t Go.undef):=by
 intro t;unfold T0;by_cases hlt:t<args.length
 ·have h1:args.getD t .undef=args[t]:=by simp[List.getD,hlt]
  have hv:t<vs.length:=by rw[h.1];exact hlt
  have h2:(vs.toArray++Array.replicate (N-vs.toArray.size) Go.undef).getD t Go.undef=vs[t]:=by
   simp[Array.getElem?_append,hv]
  rw[h1,h2];exact h.2 t _ _ (by simp) (by simp)
 ·have h1:args.getD t .undef=.undef:=by
    simp only[List.getD];rw[List.getElem?_eq_none (by omega)];rfl
  rw[h1];exact .undef _
theorem uh{P:Program}{f:FuncId}{fn:Func}{args:List AV}{H:Hp}{nx:Nat}{K:AV→Hp→Nat→Prop}(hm:P.follows .mixedOrders=true)(hf:P.funcs[f]?=some fn)(hb:qm P fn args H nx K)
    {E:Env} {w:World} {vs:List Value} (hE:EnvOk E w) (hh:HeapOk E H nx w) (hfr:bT E nx) (hv:cJ E w args vs):
    Calls P f vs.toArray w fun e w'=>∃v E' r H' nx',e=.returned v∧Ext E w E' w'∧EnvOk E' w'∧HeapOk E' H' nx' w'∧bT E' nx'∧Rel E' w' r v∧K r H' nx':=by
 obtain⟨c,hc,hlen,h⟩:=hb;refine(callsIn_wide (n:=0)).1 (callsIn_of_wp_marks hf hc trivial ?_)
 have hS:Sim E ⟨fn.ntmps,w.heap.size,none⟩ ⟨T0 args,H,nx⟩ {tmps:=vs.toArray++Array.replicate (fn.ntmps-vs.toArray.size) Go.undef,defers:=[]} w:=by
  refine⟨hE,hh,hfr,fun l hl=>(by cases hl),aM _,?_,Ah hv _,⟨List.Pairwise.nil,fun d hd=>(by cases hd)⟩⟩;simp[hv.1];omega
 refine wpIn_mono (F:=Fence.wide) (dZ hm c hS h) ?_;rintro e a' w₁ ⟨x,E',T,H',nx',rfl,he,hS',hk⟩;obtain⟨hx,hk⟩:=hk;cases hr:kp P T H' fn.results.toList with
 |none=>rw[hr] at hk;exact hk.elim
 |some r=>
  rw[hr] at hk;obtain⟨v,h1,h2⟩:=v5 (P:=P) hS'.heap hS'.tmps hr
  have:LeavesInM Fence.wide 0 P fn a'.tmps (fun e w'=>∃v E' r H' nx',e=.returned v∧Ext E w E' w'∧EnvOk E' w'∧HeapOk E' H' nx' w'∧bT E' nx'∧Rel E' w' r v∧K r H' nx') a'.defers .returning w₁:=by
   refine kr (E:=E') (N:=⟨fn.ntmps,w.heap.size,none⟩) (w₀:=w₁) h1 (fun w' hb hb2 hs hu hc=>?_) a'.defers w₁ hS'.defers (Below.refl _ _) (Below.refl _ _) rfl (fun _ _ h _=>h) (fun _ _ h=>h);obtain⟨k1,k2,k3,k4⟩:=vK hE he hS'.env hS'.heap hb hb2 hs hu hc;exact⟨v,_,r,H',nx',rfl,k1,k2,k3,hS'.fresh,k4 _ _ h2,hk⟩
  cases x with
  |normal=>exact this
  |ret=>exact this
  |exit i=>cases hx
theorem Fn.of_body{P:Program}{f:FuncId}{fn:Func}{args:List AV}{H:Hp}{nx:Nat}{K:AV→Hp→Nat→Prop}(hm:P.follows .mixedOrders=true)(hf:P.funcs[f]?=some fn)(hc:cok P f=true)(hb:qm P fn args H nx K):Fn P f args H nx K:=
 ⟨hc,fun E w vs hE hh hfr hv=>uh hm hf hb hE hh hfr hv⟩
theorem Pure.of_fn{P:Program}{f:FuncId}{args:List AV}{r:AV}(h:Fn P f args bA 0 fun x H nx=>Snap H x r):Pure P f args r:=by
 refine⟨h.1,fun imm w vs hi hv=>?_⟩
 let E:Env:=⟨w.heap.size,w,imm,fun _ _=>none,fun _=>none,fun _=>none,fun _=>False⟩
 have hE:EnvOk E w:=⟨hi,Below.refl _ _,fun _ h=>h.elim,fun _ _ _ h=>(by cases h),fun _ _ h=>(by cases h),fun _ _ h=>(by cases h),fun _ _ _ h=>(by cases h)⟩
 have hv':cJ E w args vs:=⟨hv.1,fun i x y hx hy=>Rel.mono (E:=E0 imm) (E':=E) (fun _ h=>h) (fun _ _ _ h=>h) (fun _ _ h=>h) (hv.2 i x y hx hy)⟩
 refine(h.2 E w vs hE (HeapOk.noBox (aM _)) (fun _ _=>⟨fun _=>rfl,rfl,rfl⟩) hv').mono ?_;rintro e w' ⟨v,E',x,H',nx',rfl,he,hE',hh',hfr',hrel,hs⟩;refine⟨v,fun b=>E'.imm b∨eF E' H' b,rfl,?_,fun b hb=>.inl (he.imm b hb),?_,?_,hs.sound hh' hrel⟩
 ·have:=hE'.below;rw[he.base,he.w0] at this;exact this
 ·rintro b (hb|⟨b',cs,sz,h1,h2⟩)
  ·exact he.new b hb
  ·have:=(hh'.blk_lt h1 h2).2.1;rw[he.base] at this;exact .inr this
 ·rintro b (hb|⟨b',cs,sz,h1,h2⟩)
  ·exact hE'.lt b hb
  ·exact(hh'.blk_lt h1 h2).1
theorem PureF.of_fn{P:Program}{f:FuncId}{args:List AV}{r:AV}(h:Fn P f args bA 0 fun x H nx=>SnapF H x r):PureF P f args r:=by
 refine⟨h.1,fun imm w vs hi hv=>?_⟩
 let E:Env:=⟨w.heap.size,w,imm,fun _ _=>none,fun _=>none,fun _=>none,fun _=>False⟩
 have hE:EnvOk E w:=⟨hi,Below.refl _ _,fun _ h=>h.elim,fun _ _ _ h=>(by cases h),fun _ _ h=>(by cases h),fun _ _ h=>(by cases h),fun _ _ _ h=>(by cases h)⟩
 have hv':cJ E w args vs:=⟨hv.1,fun i x y hx hy=>Rel.mono (E:=E0 imm) (E':=E) (fun _ h=>h) (fun _ _ _ h=>h) (fun _ _ h=>h) (hv.2 i x y hx hy)⟩
 refine(h.2 E w vs hE (HeapOk.noBox (aM _)) (fun _ _=>⟨fun _=>rfl,rfl,rfl⟩) hv').mono ?_;rintro e w' ⟨v,E',x,H',nx',rfl,he,hE',hh',hfr',hrel,hs⟩;refine⟨v,fun b=>eF E' H' b,rfl,?_,?_,?_,hs.sound hh' hrel⟩
 ·have:=hE'.below;rw[he.base,he.w0] at this;exact this
 ·rintro b ⟨b',cs,sz,h1,h2⟩;have:=(hh'.blk_lt h1 h2).2.1;rw[he.base] at this;exact this
 ·rintro b ⟨b',cs,sz,h1,h2⟩;exact(hh'.blk_lt h1 h2).1
theorem Pure.of_body{P:Program}{f:FuncId}{fn:Func}{args:List AV}{r:AV}(hm:P.follows .mixedOrders=true)(hf:P.funcs[f]?=some fn)(hc:cok P f=true)(hb:qm P fn args bA 0 fun x H nx=>Snap H x r):Pure P f args r:=
 Pure.of_fn (Fn.of_body hm hf hc hb)
end Go.Abs
namespace Go.Abs
open Go.RowKit
def dv(H:Hp)(b:Nat):Hp:=fun x=>if x=b then none else H x
theorem eZ{H:Hp}{b:Nat}:dv H b b=none:=by simp[dv]
theorem ln{H:Hp}{b x:Nat}{cs:List AV}(h:dv H b x=some cs):x≠b∧H x=some cs:=by
 unfold dv at h;split at h
 ·cases h
 ·exact⟨‹_›,h⟩
theorem HeapOk.del{E:Env}{H:Hp}{nx:Nat}{w:World}(h:HeapOk E H nx w)(b:Nat):HeapOk E (dv H b) nx w:=
 h.fewer (fun _ _ hb=>(ln hb).2) (fun x cs hb=>h.dom x cs (ln hb).2)
theorem kS{E:Env}{H:Hp}{nx:Nat}{w:World}(hE:EnvOk E w)(hh:HeapOk E H nx w){b k:Nat}{o o':Obj}(hs:E.sp b=some k)(ho:w.heap[k]?=some o)
    (hc:f9 o=false) (hc':f9 o'=false) (hd:∀ds,o≠.deferred ds) (hd':∀ds,o'≠.deferred ds)
    (hl:∀r T,E.lp b=some (r,T)→∃st p,o'=.loop {r with state:=st,pending:=p}) (hH:∀x,H b=some [x]→x.special=false):
    Ext E w E (w.putObj k o')∧EnvOk E (w.putObj k o')∧HeapOk E H nx (w.putObj k o'):=by
 obtain⟨hbase,himm,_⟩:=hE.spb b k hs;have hlt:k<w.heap.size:=(fA.1 ho).1;have hne:∀k',k'≠k→(w.putObj k o').heap[k']?=w.heap[k']?:=fun k' h=>World.putObj_heap_other h;have hself:(w.putObj k o').heap[k]?=some o':=vH hlt
 have hcell:∀blk vals ty fz,w.heap[blk]?=some (.cells vals ty fz)→blk≠k:=fun blk vals ty fz h e=>by
  subst e;rw[ho] at h;cases h;cases hc
 have hcs:∀ a v,w.cell? a=some v→(w.putObj k o').cell? a=some v:=pQ ho (by
  intro c e f e';subst e';cases hc)
 have he:Ext E w E (w.putObj k o'):=⟨rfl,rfl,fun _ h=>h,fun _ h=>.inl h,fun _ _ _ h=>h,fun _ _ h=>h,fun _ _ h=>h,fun b' hb'=>⟨hb',hne b' (fun e=>by
  subst e;obtain⟨ds,hds⟩:=hE.dm _ hb';rw[ho] at hds;cases hds;exact hd _ rfl)⟩,by simp,fun b' hb'=>hne b' (fun e=>himm (e▸hb'))⟩
 have hspE:∀b' x,b'≠b→∀k',E.sp b'=some k'→qz E w b' k' x→qz E (w.putObj k o') b' k' x:=by
  intro b' x hb' k' hk' h;have hkk:k'≠k:=fun e=>hb' (hE.spi b' b k (by rw[←e];exact hk') hs);cases x with
  |omap ks vs=>
   obtain⟨es,clock,h1,h2⟩:=h;exact⟨es,clock,(hne _ hkk).trans h1,h2.ext he⟩
  |oloop r T=>exact⟨(hne _ hkk).trans h.1,h.2⟩
  |oiter m n0 seen=>
   obtain⟨km,last,h1,h2,h3⟩:=h;exact⟨km,last,(hne _ hkk).trans h1,h2,h3⟩
  |bmap ks vs bs ck=>
   obtain⟨es,h1,h2⟩:=h;exact⟨es,(hne _ hkk).trans h1,h2.ext he⟩
  |biter m n0 seen=>
   obtain⟨km,h1,h2⟩:=h;exact⟨km,(hne _ hkk).trans h1,h2⟩
  |_=>exact h.elim
 refine ⟨he,⟨fun b' hb'=>by simpa using hE.lt b' hb',hE.below.trans ⟨rfl,rfl,rfl,by simp,fun k' hk'=>hne k' (by omega)⟩,fun b' hb'=>?_,hE.spi,fun b' k' hk'=>?_,hE.spm,fun b' r T hl'=>?_⟩,
  ⟨fun b' cs hb'=>?_,hh.dom,hh.apart,by simpa using hh.size,hh.top,fun b' x hb' hx=>?_,hh.nsp⟩⟩
 ·obtain⟨ds,hds⟩:=hE.dm b' hb';exact⟨ds,by rw[(he.dm b' hb').2];exact hds⟩
 ·obtain⟨h1,h2,o1,h3,h4,h5⟩:=hE.spb b' k' hk';by_cases hkk:k'=k
  ·subst hkk;exact⟨h1,h2,o',hself,hc',hd'⟩
  ·exact⟨h1,h2,o1,(hne _ hkk).trans h3,h4,h5⟩
 ·obtain⟨k',st,p,h1,h2,h3⟩:=hE.lp b' r T hl';by_cases hkk:k'=k
  ·subst hkk;obtain rfl:=hE.spi b' b _ h1 hs;obtain⟨st',p',rfl⟩:=hl r T hl';exact⟨_,st',p',h1,hself,fun t=>(h3 t).world hcs⟩
  ·exact⟨k',st,p,h1,(hne _ hkk).trans h2,fun t=>(h3 t).world hcs⟩
 ·rcases hh.box b' cs hb' with hn|⟨blk,sz,hx⟩
  ·exact .inl hn
  ·obtain⟨vals,ty,fz,k1,kz,k2,k3,k4⟩:=hx.cells
   exact .inr ⟨blk,sz,hx.mu,hx.base,hx.imm,vals,ty,fz,(hne _ (hcell _ _ _ _ k1)).trans k1,kz,k2,k3,fun i x hx'=>by
    obtain⟨v,e1,e2,e3⟩:=k4 i x hx';exact⟨v,e1,e2,e3.world hcs⟩⟩
 ·obtain⟨k',h1,h2⟩:=hh.spec b' x hb' hx;refine⟨k',h1,hspE b' x (fun e=>?_) k' h1 h2⟩;subst e;rw[hH x hb'] at hx;cases hx
theorem HeapOk.addSp{E:Env}{H:Hp}{nx:Nat}{w:World}(h:HeapOk E H nx w){b k:Nat}{x:AV}(hb:b<nx)(hm:∀n,E.mu b n=none)(hs:E.sp b=some k)(hx:qz E w b k x):HeapOk E (am H b [x]) nx w:=by
 refine⟨fun b' cs hb'=>?_,fun b' cs hb'=>?_,fun b1 b2 cs1 cs2 blk1 sz1 blk2 sz2 hb1 hb2 hne m1 m2=>?_,h.size,fun b' cs m y hb' hm'=>?_,fun b' y hb' hy=>?_,fun b' hb'=>?_⟩
 ·rcases dD hb' with⟨rfl,rfl⟩|⟨_,h1⟩
  ·exact .inl (hm _)
  ·exact h.box b' cs h1
 ·rcases dD hb' with⟨rfl,rfl⟩|⟨_,h1⟩
  ·exact hb
  ·exact h.dom b' cs h1
 ·rcases dD hb1 with⟨rfl,rfl⟩|⟨_,h1⟩
  ·rw[hm] at m1;cases m1
  ·rcases dD hb2 with⟨rfl,rfl⟩|⟨_,h2⟩
   ·rw[hm] at m2;cases m2
   ·exact h.apart b1 b2 cs1 cs2 blk1 sz1 blk2 sz2 h1 h2 hne m1 m2
 ·rcases dD hb' with⟨rfl,rfl⟩|⟨_,h1⟩
  ·rw[hm] at hm';cases hm'
  ·exact h.top b' cs m y h1 hm'
 ·rcases dD hb' with⟨rfl,e⟩|⟨_,h1⟩
  ·cases e;exact⟨k,hs,hx⟩
  ·exact h.spec b' y h1 hy
 ·rcases dD hb' with⟨rfl,e⟩|⟨_,h1⟩
  ·cases e
  ·exact h.nsp b' h1
theorem oh{E:Env}{H:Hp}{nx:Nat}{w:World}(hE:EnvOk E w)(hh:HeapOk E H nx w)(hf:iB E nx)(o:Obj)(hc:f9 o=false)(hd:∀ds,o≠.deferred ds):
    ∃E',E'={E with sp:=fun b=>if b=nx then some w.heap.size else E.sp b}∧Ext E w E' (w.alloc o)∧EnvOk E' (w.alloc o)∧HeapOk E' H (nx+1) (w.alloc o)∧E'.sp nx=some w.heap.size∧(w.alloc o).heap[w.heap.size]?=some o:=by
 let E':Env:={E with sp:=fun b=>if b=nx then some w.heap.size else E.sp b}
 have hspo:∀b,b≠nx→E'.sp b=E.sp b:=fun b hb=>if_neg hb;have hself:E'.sp nx=some w.heap.size:=if_pos rfl;have hspm:∀b x,E.sp b=some x→E'.sp b=some x:=fun b x hb=>by rw[hspo b (fun e=>by subst e;rw[hf.2.1] at hb;cases hb)];exact hb
 have hext:Ext E w E' (w.alloc o):=
  ⟨rfl,rfl,fun _ h=>h,fun _ h=>.inl h,fun _ _ _ h=>h,hspm,fun _ _ h=>h,fun _ h=>⟨h,bJ (hE.dlt h)⟩,by simp,fun b hb=>bJ (hE.lt b hb)⟩
 have hnew:(w.alloc o).heap[w.heap.size]?=some o:=World.alloc_heap_new w o;have hst:=dy.alloc w o
 refine ⟨E',rfl,hext,⟨fun b hb=>?_,hE.below.trans ((Below.refl _ _).alloc hh.size o),fun b hb=>?_,fun b b' k h1 h2=>?_,fun b k hk=>?_,fun b k hk n=>?_,fun b r T hl=>?_⟩,
  ⟨fun b cs hb=>?_,fun b cs hb=>Nat.lt_succ_of_lt (hh.dom b cs hb),hh.apart,by simpa using Nat.le_succ_of_le hh.size,hh.top,fun b x hb hx=>?_,fun b hb=>?_⟩,hself,hnew⟩
 ·have:=hE.lt b hb;simp;omega
 ·obtain⟨ds,h⟩:=hE.dm b hb;exact⟨ds,hst _ _ h rfl⟩
 ·by_cases hb:b=nx
  ·subst hb;rw[hself] at h1;cases h1;by_cases hb':b'=b
   ·exact hb'.symm
   ·rw[hspo b' hb'] at h2;have:=hE.splt h2;omega
  ·rw[hspo b hb] at h1;by_cases hb':b'=nx
   ·subst hb';rw[hself] at h2;cases h2;have:=hE.splt h1;omega
   ·rw[hspo b' hb'] at h2;exact hE.spi b b' k h1 h2
 ·by_cases hb:b=nx
  ·subst hb;rw[hself] at hk;cases hk;exact⟨hh.size,fun hi=>by have:=hE.lt _ hi;omega,o,hnew,hc,hd⟩
  ·rw[hspo b hb] at hk;obtain⟨h1,h2,o1,h3,h4,h5⟩:=hE.spb b k hk;exact⟨h1,h2,o1,hst _ _ h3 h4,h4,h5⟩
 ·by_cases hb:b=nx
  ·subst hb;exact hf.1 n
  ·rw[hspo b hb] at hk;exact hE.spm b k hk n
 ·obtain⟨k,st,p,h1,h2,h3⟩:=hE.lp b r T hl;exact⟨k,st,p,hspm _ _ h1,hst _ _ h2 rfl,fun t=>(h3 t).ext hext⟩
 ·rcases hh.box b cs hb with hn|⟨blk,sz,hx⟩
  ·exact .inl hn
  ·obtain⟨vals,ty,fz,k1,kz,k2,k3,k4⟩:=hx.cells
   exact .inr ⟨blk,sz,hx.mu,hx.base,hx.imm,vals,ty,fz,(bJ (fA.1 k1).1).trans k1,kz,k2,k3,fun i x hx'=>by
    obtain⟨v,e1,e2,e3⟩:=k4 i x hx';exact⟨v,e1,e2,e3.ext hext⟩⟩
 ·obtain⟨k,h1,h2⟩:=hh.spec b x hb hx;exact⟨k,hspm _ _ h1,h2.ext hext (fun k o _=>hst k o)⟩
 ·have:=hh.dom b _ hb;rw[hspo b (by omega)];exact hh.nsp b hb
def Yl(P:Program)(b:Nat)(args:List AV)(H:Hp)(nx:Nat)(K:AV→Hp→Nat→Prop):Prop:=
 ∀(E:Env)(w:World)(vs:List Value),EnvOk E w→HeapOk E H nx w→bT E nx→cJ E w args vs→
  ∃l r,E.sp b=some l∧w.heap[l]?=some (.loop r)∧vs.length=r.params.size∧
   RoundIn Fence.wide 0 P l r.fn ((r.params.zip vs.toArray).foldl (fun tmps(t,a)=>tmps.setIfInBounds t a) r.tmps) r.assign r.body w fun e w'=>
    ∃v E' x H' nx',e=.returned v∧Ext E w E' w'∧EnvOk E' w'∧HeapOk E' H' nx' w'∧bT E' nx'∧Rel E' w' x v∧K x H' nx'
theorem Yl.mono{P:Program}{b:Nat}{args:List AV}{H:Hp}{nx:Nat}{K K':AV→Hp→Nat→Prop}(h:Yl P b args H nx K)(hK:∀r H nx,K r H nx→K' r H nx):Yl P b args H nx K':=by
 intro E w vs h1 h2 h3 h4;obtain⟨l,r,k1,k2,k3,k4⟩:=h E w vs h1 h2 h3 h4;refine⟨l,r,k1,k2,k3,k4.mono ?_⟩;rintro e w' ⟨v,E',x,H',nx',m1,m2,m3,m4,m5,m6,m7⟩;exact⟨v,E',x,H',nx',m1,m2,m3,m4,m5,m6,hK _ _ _ m7⟩
theorem rA{P:Program}{f:Operand}{args:Array Operand}{ts:Array TypeId}{T:Tm}{H:Hp}{nx b:Nat}{K:AV→Hp→Nat→Prop}(hf:ev T f=.yld b)(h:Yl P b (args.toList.map (ev T)) H nx K):
    ce P (.call {callee:=.value f,args:=args,argTypes:=ts}) T H nx K:=by
 refine⟨by intro c;simp,?_⟩;rintro rr E w a ⟨dst,op,type,pos,after,guard⟩ next Q ho hE hh hfr ht hn;simp only at ho;subst ho;have hr:=ht f (by simp[Op.operands,Call.operands]);rw[hf] at hr;generalize hv:a.eval f=vf at hr;cases hr with
 |yld _ l hl=>
 obtain⟨l',r,k1,k2,k3,k4⟩:=h E w (args.toList.map a.eval) hE hh hfr (sI (E:=E) (w:=w) (T:=T) (a:=a) args.toList (fun x hx=>ht x (by simp only[Op.operands,Call.operands];exact o7.2 (.inr (by simpa using hx)))));rw[hl] at k1;cases k1;have harr:args.map a.eval=(args.toList.map a.eval).toArray:=fL a.eval args
 have hrun:(execOp a.eval ⟨dst,.call {callee:=.value f,args:=args,argTypes:=ts},type,pos,after,guard⟩).run P w=.ok (.round l r.fn ((r.params.zip (args.toList.map a.eval).toArray).foldl (fun tmps(t,a)=>tmps.setIfInBounds t a) r.tmps) r.assign r.body) w:=by
  have hy:=run_yield (P:=P) (args:=(args.toList.map a.eval).toArray) k2 (by simpa using k3);unfold execOp;simp only[resolve,hv,Deferred.ofValue,invoke,bj,cS,bg,Array.empty_append];rw[harr];exact hy
 rw[hrun,Oper.uponIn_round];refine⟨(fun h=>by cases h),?_⟩;refine(RoundIn.mono (F:=FW rr) (show RoundIn (FW rr) 0 P l r.fn _ r.assign r.body w _ from k4) ?_);rintro e w' ⟨v,E',x,H',nx',rfl,m2,m3,m4,m5,m6,m7⟩;exact hn E' H' nx' x v w' m2 m3 m4 m5 m6 m7
def gZ(T:Tm):List Nat→List AV→Tm
 |t::ts,x::xs=>gZ (upd T t x) ts xs
 |_,_=>T
theorem sY{E:Env}{w:World}:∀(ps:List Nat)(xs:List AV)(vs:List Value)(T:Tm)(tmps:Array Value),cJ E w xs vs→(∀t∈ps,t<tmps.size)→(∀t,Rel E w (T t) (tmps.getD t Go.undef))→
    ((ps.zip vs).foldl (fun tmps(t,a)=>tmps.setIfInBounds t a) tmps).size=tmps.size∧∀t,Rel E w (gZ T ps xs t) (((ps.zip vs).foldl (fun tmps(t,a)=>tmps.setIfInBounds t a) tmps).getD t Go.undef)
 |[],xs,vs,T,tmps,hl,hp,h=>by simp[gZ];exact fun t=>by simpa using h t
 |p::ps,[],vs,T,tmps,hl,hp,h=>by
  have:vs=[]:=e8.1 hl.1;subst this;simp[gZ];exact fun t=>by simpa using h t
 |p::ps,x::xs,vs,T,tmps,hl,hp,h=>by
  cases vs with
  |nil=>have:=hl.1;simp at this
  |cons v vs=>
   have hx:Rel E w x v:=hl.2 0 x v rfl rfl;have hl':cJ E w xs vs:=⟨by have:=hl.1;simpa using this,fun i a b ha hb=>hl.2 (i+1) a b (by simpa using ha) (by simpa using hb)⟩
   have:=sY ps xs vs (upd T p x) (tmps.setIfInBounds p v) hl' (fun t ht=>by simpa using hp t (by simp [ht])) (fun t=>by
    simp only[upd];split
    ·rename_i e;subst e;have:t<tmps.size:=hp t (by simp);simp[this];exact hx
    ·rename_i hne
     have e:(tmps.setIfInBounds p v).getD t Go.undef=tmps.getD t Go.undef:=by
      simp only[sA];rw[wY (Ne.symm hne)]
     rw[e];exact h t)
   refine⟨by simpa using this.1,fun t=>?_⟩;simpa[gZ] using this.2 t
structure Ready0(n:Nat)(ps:Array Nat)(assign body:Code)(r:Loop):Prop where
 params:r.params=ps
 assign:r.assign=assign
 body:r.body=body
 state:r.state=.ready
 pending:r.pending=none
 size:r.tmps.size=n
def AL:AEx→Code
 |.exit i=>.exit i
 |_=>.ret
def qe(r:Loop)(T:Tm)(e:AEx):AV:=.oloop {r with state:=.done,pending:=some (AL e)} T
theorem ki{n:Nat}{ps:Array Nat}{assign body:Code}{r:Loop}(h:Ready0 n ps assign body r):{r with state:=.ready,pending:=none}=r:=by
 have h1:=h.state;have h2:=h.pending;cases r;simp only at h1 h2;subst h1 h2;rfl
theorem Yl.of_awp{P:Program}{n:Nat}{ps:Array Nat}{assign body:Code}{r:Loop}(hr:Ready0 n ps assign body r)(hm:P.follows .mixedOrders=true)(hps:∀t∈ps.toList,t<n)
    {b:Nat} {args:List AV} {T:Tm} {H:Hp} {nx:Nat} {K:AV→Hp→Nat→Prop} (hb:H b=some [.oloop r T]) (hl:args.length=ps.size)
    (h:awp P n assign (gZ T ps.toList args) H nx fun e T2 H2 nx2=>aV e (H2 b=some [.oloop r T]∧awp P n body T2 (dv H2 b) nx2 fun e T3 H3 nx3 =>
     aV e (K (.bool true) (am H3 b [.oloop r T]) nx3) (K (.bool false) (am H3 b [qe r T e]) nx3)) False):Yl P b args H nx K:=by
 intro E w vs hE hh hf hv;obtain⟨l,hs,hw,hlp⟩:=hh.spec b _ hb rfl;have hlp:E.lp b=some (r,T):=by rw[←ki hr];exact hlp
 obtain⟨l',st,p,e1,e2,hT⟩:=hE.lp b r T hlp;rw[hs] at e1;cases e1;obtain⟨hbase,himm,_⟩:=hE.spb b l hs;refine⟨l,r,hs,hw,by rw[hr.params,hv.1,hl],?_⟩;refine roundIn_of_wpIn (F:=Fence.wide) trivial ?_;have htm:=sY ps.toList args vs T r.tmps hv (fun t ht=>by rw[hr.size];exact hps t ht) hT
 have hfold:(r.params.zip vs.toArray).foldl (fun tmps(t,a)=>tmps.setIfInBounds t a) r.tmps=(ps.toList.zip vs).foldl (fun tmps(t,a)=>tmps.setIfInBounds t a) r.tmps:=by
  rw[hr.params,←Array.foldl_toList];simp
 rw[hfold,hr.assign,hr.body]
 have hS:Sim E ⟨n,0,some l⟩ ⟨gZ T ps.toList args,H,nx⟩ {tmps:=(ps.toList.zip vs).foldl (fun tmps(t,a)=>tmps.setIfInBounds t a) r.tmps,defers:=[]} w:=
  ⟨hE,hh,hf,fun l' hl'=>by cases hl';exact⟨b,_,hlp,hs⟩,cu _,by rw[←hr.size];exact htm.1,htm.2,⟨List.Pairwise.nil,fun d hd=>(by cases hd)⟩⟩
 have put:∀(E1:Env)(H1:Hp)(nx1:Nat)(w1:World)(r1:Loop)(st:LoopState)(p:Option Code),Ext E w E1 w1→EnvOk E1 w1→HeapOk E1 H1 nx1 w1→w1.heap[l]?=some (.loop r1)→
     Ext E1 w1 E1 (w1.putObj l (.loop {r with state:=st,pending:=p}))∧EnvOk E1 (w1.putObj l (.loop {r with state:=st,pending:=p}))∧HeapOk E1 (dv H1 b) nx1 (w1.putObj l (.loop {r with state:=st,pending:=p})):=by
  intro E1 H1 nx1 w1 r1 st p he1 hE1 hh1 hw1;refine kS hE1 (hh1.del b) (he1.sp _ _ hs) hw1 rfl rfl (by intro ds;simp) (by intro ds;simp) (fun r' T' h'=>?_) (fun x hx=>?_)
  ·rw[he1.lp _ _ hlp] at h';cases h';exact⟨st,p,rfl⟩
  ·rw[eZ] at hx;cases hx
 have static:∀(E1:Env)(w1:World),Ext E w E1 w1→EnvOk E1 w1→∃st p,w1.heap[l]?=some (.loop {r with state:=st,pending:=p}):=by
  intro E1 w1 he1 hE1;obtain⟨l1,st1,p1,f1,f2,_⟩:=hE1.lp b r T (he1.lp _ _ hlp);rw[he1.sp _ _ hs] at f1;cases f1;exact⟨st1,p1,f2⟩
 refine wpIn_mono (F:=FW (some l)) (dZ hm assign hS h) ?_;rintro e a1 w1 ⟨x,E1,T1,H1,nx1,rfl,he1,hS1,hk⟩;cases x with
 |exit i=>exact hk.elim
 |ret=>exact hk.elim
 |normal=>
 obtain⟨hb1,hk⟩:=hk;obtain⟨l1,g1,g2,_⟩:=hS1.heap.spec b _ hb1 rfl;rw[he1.sp _ _ hs] at g1;cases g1;refine⟨_,run_beginRound g2 hr.state,?_⟩;have hbusy:({r with state:=.busy}:Loop)={r with state:=.busy,pending:=none}:=by have:=hr.pending;cases r;simp only at this;subst this;rfl
 rw[hbusy];obtain⟨p1,p2,p3⟩:=put E1 H1 nx1 w1 r .busy none he1 hS1.env hS1.heap g2
 have hS2:Sim E1 ⟨n,0,some l⟩ ⟨T1,dv H1 b,nx1⟩ a1 (w1.putObj l (.loop {r with state:=.busy,pending:=none})):=
  ⟨p2,p3,hS1.fresh,hS1.round,cu _,hS1.size,fun t=>(hS1.tmps t).ext p1,hS1.defers.ext p1⟩
 refine wpIn_mono (F:=FW (some l)) (dZ hm body hS2 hk) ?_;rintro e a3 w3 ⟨x,E3,T3,H3,nx3,rfl,he3,hS3,hk3⟩;have he03:Ext E w E3 w3:=(he1.trans p1).trans he3;obtain⟨st3,pd3,hw3⟩:=static E3 w3 he03 hS3.env
 have hlt3:b<nx3:=by
  rcases oV b nx3 with h|h
  ·exact h
  ·have:=(hS3.fresh b h).2.1;rw[he03.sp _ _ hs] at this;cases this
 have hl3:=fA.1 hw3
 have fin:∀(st:LoopState)(jump:Option Code)(v:Bool),K (.bool v) (am H3 b [.oloop {r with state:=st,pending:=jump} T]) nx3→st=(if jump.isNone then .ready else .done)→v=jump.isNone→
     ∃v' w',(Instr.endRound l jump).run P w3=.ok v' w'∧∃v E' x H' nx',Ending.returned v'=.returned v∧Ext E w E' w'∧EnvOk E' w'∧HeapOk E' H' nx' w'∧bT E' nx'∧Rel E' w' x v∧K x H' nx':=by
  intro st jump v hK hst hv;obtain⟨q1,q2,q3⟩:=put E3 H3 nx3 w3 _ st jump he03 hS3.env hS3.heap hw3
  have q4:=q3.addSp (x:=.oloop { r with state:=st,pending:=jump } T) hlt3 (q2.spm b l (he03.sp _ _ hs)) (he03.sp _ _ hs) ⟨vH hl3.1,by
   have:=he03.lp _ _ hlp;rw[←ki hr] at this;exact this⟩
  have hH:am (dv H3 b) b [.oloop {r with state:=st,pending:=jump} T]=am H3 b [.oloop {r with state:=st,pending:=jump} T]:=by
   funext y;unfold am dv;split<;>rfl
  rw[hH] at q4;refine⟨_,_,run_endRound jump hw3,?_⟩;subst hv;refine⟨.bool jump.isNone,E3,.bool jump.isNone,_,nx3,rfl,?_,?_,?_,hS3.fresh,.bool _,hK⟩
  ·subst hst;exact he03.trans q1
  ·subst hst;exact q2
  ·subst hst;exact q4
 cases x with
 |normal=>
  have hk3:K (.bool true) (am H3 b [.oloop r T]) nx3:=hk3;rw[←ki hr] at hk3;exact fin .ready none true hk3 rfl rfl
 |exit i=>exact fin .done (some (.exit i)) false hk3 rfl rfl
 |ret=>exact fin .done (some .ret) false hk3 rfl rfl
theorem A5{E:Env}{H:Hp}{nx:Nat}{w:World}(hE:EnvOk E w)(hh:HeapOk E H nx w):
    ∃E',E'={E with dm:=fun b=>E.dm b∨b=w.heap.size}∧Ext E w E' (w.alloc (.deferred (some [])))∧EnvOk E' (w.alloc (.deferred (some [])))∧HeapOk E' H nx (w.alloc (.deferred (some []))):=by
 let E':Env:={E with dm:=fun b=>E.dm b∨b=w.heap.size}
 have hext:Ext E w E' (w.alloc (.deferred (some []))):=
  ⟨rfl,rfl,fun _ h=>h,fun _ h=>.inl h,fun _ _ _ h=>h,fun _ _ h=>h,fun _ _ h=>h,fun b h=>⟨.inl h,bJ (hE.dlt h)⟩,by simp,fun b hb=>bJ (hE.lt b hb)⟩
 have hst:=dy.alloc w (.deferred (some []));refine⟨E',rfl,hext,⟨fun b hb=>?_,hE.below.trans ((Below.refl _ _).alloc hh.size _),fun b hb=>?_,hE.spi,fun b k hk=>?_,hE.spm,fun b r T hl=>?_⟩,?_⟩
 ·have:=hE.lt b hb;simp;omega
 ·rcases hb with hb|rfl
  ·obtain⟨ds,h⟩:=hE.dm b hb;exact⟨ds,hst _ _ h rfl⟩
  ·exact⟨some [],World.alloc_heap_new w _⟩
 ·obtain⟨h1,h2,o,h3,h4,h5⟩:=hE.spb b k hk;exact⟨h1,h2,o,hst _ _ h3 h4,h4,h5⟩
 ·obtain⟨k,st,p,h1,h2,h3⟩:=hE.lp b r T hl;exact⟨k,st,p,h1,hst _ _ h2 rfl,fun t=>(h3 t).ext hext⟩
 ·exact hh.step hext (fun _ h=>.inl h) (aM _) (fun _ _ _ _=>rfl) (fun b cs blk sz hb hm=>bJ (hh.blk_lt hb hm).1) hst rfl
theorem xE{E:Env}{H:Hp}{nx n:Nat}{w:World}(hE:EnvOk E w)(hh:HeapOk E H nx w)(hf:bT E nx){r:Loop}{T:Tm}{ps:Array Nat}{assign body:Code}(hr:Ready0 n ps assign body r)(hT:∀t,Rel E w (T t) (r.tmps.getD t Go.undef)):
    ∃E',Ext E w E' (w.alloc (.loop r))∧EnvOk E' (w.alloc (.loop r))∧HeapOk E' (am H nx [.oloop r T]) (nx+1) (w.alloc (.loop r))∧bT E' (nx+1)∧E'.sp nx=some w.heap.size∧E'.lp nx=some (r,T)∧E'.dm=E.dm:=by
 obtain⟨E1,hE1,he,hE',hh',hs,hnew⟩:=oh hE hh (hf nx (aM _)) (.loop r) rfl (by intro ds;simp)
 let E2:Env:={E1 with lp:=fun b=>if b=nx then some (r,T) else E1.lp b}
 have hlp1:E1.lp=E.lp:=by rw[hE1]
 have hlpo:∀b x,E1.lp b=some x→E2.lp b=some x:=fun b x hb=>by
  show(if b=nx then some (r,T) else E1.lp b)=some x;rw[if_neg (fun e=>by subst e;rw[hlp1,(hf b (aM _)).2.2] at hb;cases hb)];exact hb
 have hself:E2.lp nx=some (r,T):=if_pos rfl
 have he2:Ext E1 (w.alloc (.loop r)) E2 (w.alloc (.loop r)):=
  ⟨rfl,rfl,fun _ h=>h,fun _ h=>.inl h,fun _ _ _ h=>h,fun _ _ h=>h,hlpo,fun _ h=>⟨h,rfl⟩,aM _,fun _ _=>rfl⟩
 have hE2:EnvOk E2 (w.alloc (.loop r)):=⟨hE'.lt,hE'.below,hE'.dm,hE'.spi,hE'.spb,hE'.spm,fun b r' T' hl=>by
  by_cases hb:b=nx
  ·subst hb;rw[hself] at hl;cases hl;exact⟨w.heap.size,r.state,r.pending,hs,hnew,fun t=>(hT t).ext (he.trans he2)⟩
  ·have hl:E1.lp b=some (r',T'):=by rw[←hl];exact(if_neg hb).symm
   obtain⟨k,st,p,h1,h2,h3⟩:=hE'.lp b r' T' hl;exact⟨k,st,p,h1,h2,fun t=>(h3 t).ext he2⟩⟩
 have hh2:HeapOk E2 H (nx+1) (w.alloc (.loop r)):=hh'.step he2 (fun _ h=>.inl h) (aM _) (fun _ _ _ _=>rfl) (fun _ _ _ _ _ _=>rfl) (dy.refl _) rfl;refine⟨E2,he.trans he2,hE2,?_,fun b hb=>?_,hs,hself,by show E1.dm=E.dm;rw[hE1]⟩
 ·refine hh2.addSp (ms _) (hE2.spm nx _ hs) hs ⟨hnew,?_⟩;rw[hself,ki hr]
 ·have h0:=hf b (by omega);refine⟨fun n=>?_,?_,?_⟩
  ·show E1.mu b n=none;rw[hE1];exact h0.1 n
  ·show E1.sp b=none;rw[hE1];show(if b=nx then _ else _)=none;rw[if_neg (by omega)];exact h0.2.1
  ·show(if b=nx then _ else E1.lp b)=none;rw[if_neg (by omega),hlp1];exact h0.2.2
def AN(r:Loop)(T:Tm)(b:Nat)(K:CP):Hp→Nat→Prop:=fun H nx=>
 (H b=some [.oloop r T]∧K .normal T (dv H b) nx)∨ ∃e,e≠.normal∧H b=some [qe r T e]∧K e T (dv H b) nx
theorem BF{P:Program}{n:Nat}{g:Operand}{ps:Array Nat}{assign body:Code}{T:Tm}{H:Hp}{nx:Nat}{K:CP}{f:FuncId}{caps:List AV}(hf:ev T g=.func f caps)
    (h:∀r:Loop,Ready0 n ps assign body r→Fn P f (.yld nx::caps) (am H nx [.oloop r T]) (nx+1) fun _ H' nx'=>AN r T nx K H' nx'):RF P n (.rangeFunc g ps assign body) T H nx K:=by
 intro N E a w hn hS;refine wpIn_rangeFunc (F:=FW N.rd) (n:=0) ?_;intro fn _
 have hgo:∃(l dd:Nat)(mark:List Deferred)(w₁:World)(E1:Env),(Instr.enterLoop fn a.tmps ps assign body N.rd).run P w=.ok (l,mark) (w₁.alloc (.loop {state:=.ready,pending:=none,fn,tmps:=a.tmps,params:=ps,assign,body,defers:=dd}))∧
     l=w₁.heap.size∧Ext E w E1 w₁∧EnvOk E1 w₁∧HeapOk E1 H nx w₁∧bT E1 nx∧lS E1 N w₁ (mark++a.defers):=by
  cases hrd:N.rd with
  |none=>
   obtain⟨E1,hE1,he,hE',hh'⟩:=A5 hS.env hS.heap;refine⟨w.heap.size+1,w.heap.size,[{target:=.collected w.heap.size,args:=#[]}],_,E1,run_enterLoop_outer _ _ _ _ _,by simp,he,hE',hh',by rw[hE1];exact hS.fresh,?_⟩;refine⟨xX.2 ⟨fun d hd=>?_,hS.defers.1⟩,fun d hd=>?_⟩
   ·obtain⟨D,rfl,_,_,hD,_⟩:=hS.defers.2 d hd;have:=hS.env.dlt hD;intro e;simp at e;omega
   ·rcases fo.1 hd with rfl|hd
    ·exact⟨w.heap.size,rfl,by rw[he.base];exact hS.heap.size,hS.floor,by rw[hE1];exact .inr rfl,World.alloc_heap_new w _⟩
    ·exact(hS.defers.ext he).2 d hd
  |some l0=>
   obtain⟨b,⟨r0,T0⟩,h1,h2⟩:=hS.round l0 hrd;obtain⟨k,st,p,e1,e2,_⟩:=hS.env.lp b r0 T0 h1;rw[h2] at e1;cases e1;exact⟨w.heap.size,r0.defers,[],w,E,run_enterLoop_inner e2 _ _ _ _ _,rfl,Ext.refl _ _,hS.env,hS.heap,hS.fresh,hS.defers⟩
 obtain⟨l,dd,mark,w₁,E1,hrun,hl,he1,hE1,hh1,hf1,hmk⟩:=hgo;have hr:Ready0 n ps assign body {state:=.ready,pending:=none,fn,tmps:=a.tmps,params:=ps,assign,body,defers:=dd}:=⟨rfl,rfl,rfl,rfl,rfl,by show a.tmps.size=n;rw[hS.size,hn]⟩
 generalize hrr:({state:=.ready,pending:=none,fn,tmps:=a.tmps,params:=ps,assign,body,defers:=dd}:Loop)=r at hr hrun;have hrt:r.tmps=a.tmps:=by subst hrr;rfl
 obtain⟨E2,he2,hE2,hh2,hf2,hsp,hlp,hdm⟩:=xE hE1 hh1 hf1 (T:=T) hr (fun t=>by rw[hrt];exact(hS.tmps t).ext he1);rw[←hl] at hsp;have hfn:=h r hr;have hfr:=iK (E:=E) (w:=w) (a:=a) hS.tmps g;simp only at hfr;rw[hf] at hfr;generalize hvg:a.eval g=vg at hfr;cases hfr with
 |func _ _ cv hcl hcr=>
 have he12:=he1.trans he2;refine⟨l,mark,w₁.alloc (.loop r),{target:=.fn (.func f) cv.toArray,args:=#[.func (.yield l) #[] #[]]},w₁.alloc (.loop r),f,#[.func (.yield l) #[] #[]]++cv.toArray,w₁.alloc (.loop r),hrun,?_,fun _ _=>trivial,?_,(fun h=>by cases h),?_⟩
 ·simp only[resolve,hvg];simp[go_sem]
 ·simp only[invoke];exact gY hfn.1 _ _
 ·have hargs:cJ E2 (w₁.alloc (.loop r)) (.yld nx::caps) (.func (.yield l) #[] #[]::cv):=by
    refine⟨by simp[hcl],fun i x y hx hy=>?_⟩;cases i with
    |zero=>simp at hx hy;subst hx hy;exact .yld _ _ hsp
    |succ i=>exact(hcr i x y (by simpa using hx) (by simpa using hy)).ext he12
  have hcalls:=hfn.2 E2 _ _ hE2 hh2 hf2 hargs;have harr:#[.func (.yield l) #[] #[]]++cv.toArray=(.func (.yield l) #[] #[]::cv:List Value).toArray:=by simp
  rw[harr];refine(il (r:=N.rd) (n:=0-1) hcalls).mono ?_;rintro e w' ⟨v,E',x,H',nx',rfl,he',hE',hh',hf',_,hpost⟩;have hsp':=he'.sp _ _ hsp;have hlp':=he'.lp _ _ hlp
  have fin:∀(r1:Loop)(T1:Tm),H' nx=some [.oloop r1 T1]→r1.state≠.busy→∃w4,(Instr.endLoop l).run P w'=.ok r1.pending w4∧∃E4,Ext E w E4 w4∧Sim E4 N ⟨T,dv H' nx,nx'⟩ {a with defers:=mark++a.defers} w4:=by
   intro r1 T1 hb hst;obtain⟨l1,g1,g2,g3⟩:=hh'.spec nx _ hb rfl;rw[hsp'] at g1;cases g1;refine⟨_,run_endLoop g2 hst,E',?_⟩;rw[hlp'] at g3;injection g3 with g3;injection g3 with g3 _
   obtain ⟨q1,q2,q3⟩:=kS hE' (hh'.del nx) hsp' g2 (o':=.loop { r1 with state:=.exhausted }) rfl rfl (by intro ds; simp) (by intro ds; simp) (fun r' T' h'=>by
    rw[hlp'] at h';cases h';exact⟨.exhausted,r1.pending,by rw[g3]⟩) (fun x hx=>by rw[eZ] at hx;cases hx)
   have heAll:Ext E w E' (w'.putObj l (.loop {r1 with state:=.exhausted})):=(he12.trans he').trans q1;refine⟨heAll,q2,q3,hf',fun l' hl'=>?_,fR hS.floor heAll.size,hS.size,fun t=>(hS.tmps t).ext heAll,hmk.ext ((he2.trans he').trans q1)⟩;obtain⟨b,x,h1,h2⟩:=hS.round l' hl';exact⟨b,x,heAll.lp _ _ h1,heAll.sp _ _ h2⟩
  rcases hpost with⟨hb,hk⟩|⟨e,hne,hb,hk⟩
  ·obtain⟨w4,h1,E4,h2,h3⟩:=fin r T hb (by rw[hr.state];simp);rw[hr.pending] at h1;exact⟨none,w4,h1,.normal,E4,T,_,nx',rfl,h2,h3,hk⟩
  ·obtain⟨w4,h1,E4,h2,h3⟩:=fin _ T hb (by simp);refine⟨_,w4,h1,?_⟩;cases e with
   |normal=>exact absurd rfl hne
   |exit i=>exact wpIn_exit ⟨.exit i,E4,T,_,nx',rfl,h2,h3,hk⟩
   |ret=>exact wpIn_ret ⟨.ret,E4,T,_,nx',rfl,h2,h3,hk⟩
end Go.Abs
namespace Go.Abs
open Go.RowKit
theorem bc{P:Program}{op:Op}{T:Tm}{H:Hp}{nx:Nat}{K:AV→Hp→Nat→Prop}(hnd:∀c,op≠.defer c)
    (h:∀ (E:Env) (w:World) (a:Act) (o:Oper),o.op=op→EnvOk E w→HeapOk E H nx w→bT E nx→(∀ x ∈ op.operands,Rel E w (ev T x) (a.eval x)) →
     ∃n v w' E' r H' nx',(execOp a.eval o).run P w=.ok n w'∧(n=.value v∨n=.skip∧v=Go.undef)∧Ext E w E' w'∧EnvOk E' w'∧HeapOk E' H' nx' w'∧bT E' nx'∧Rel E' w' r v∧K r H' nx'):ce P op T H nx K:=by
 refine⟨hnd,?_⟩;rintro rr E w a o next Q ho hE hh hf ht hn;obtain⟨n,v,w',E',r,H',nx',h1,h2,h3,h4,h5,h6,h7,h8⟩:=h E w a o ho hE hh hf ht;rw[h1];have:=hn E' H' nx' r v w' h3 h4 h5 h6 h7 h8;rcases h2 with rfl|⟨rfl,rfl⟩
 ·rw[Oper.uponIn_value];exact this
 ·rw[Oper.uponIn_skip];exact this
inductive MK where
 |one (k:TK)
 |st (ks:List TK)
def tkA(P:Program)(t:TypeId):Option (List TK):=match P.underlying t with
 |some (.array n e)=>match tkS P e with
  |some ks=>if P.cellsOf e=ks.length then some ((List.replicate n ks).flatten) else none
  |none=>none
 |_=>none
def mkk(P:Program)(t:TypeId):Option MK:=match tk1 P t with
 |some k=>some (.one k)
 |none=>match tkS P t with
  |some ks=>some (.st ks)
  |none=>(tkA P t).map .st
def jM(k:MK)(x y:AV):Option Bool:=match k,x,y with
 |.one k,x,y=>iv k x y
 |.st ks,.agg xs,.agg ys=>dK ks xs ys
 |_,_,_=>none
def cR(k:MK)(key:AV):List AV→Option (Option Nat)
 |[]=>some none
 |x::l=>match jM k key x with
  |some true=>some (some 0)
  |some false=>(cR k key l).map (·.map (· +1))
  |none=>none
theorem kR{P:Program}{t:TypeId}{k:MK}(h:mkk P t=some k):(∃k',k=.one k'∧tk1 P t=some k')∨(∃ks,k=.st ks∧tkS P t=some ks)∨ ∃ks,k=.st ks∧tkA P t=some ks:=by
 unfold mkk at h;split at h
 ·cases h;exact .inl ⟨_,rfl,by assumption⟩
 ·split at h
  ·cases h;exact .inr (.inl ⟨_,rfl,by assumption⟩)
  ·cases hk:tkA P t with
   |none=>rw[hk] at h;cases h
   |some ks=>rw[hk] at h;cases h;exact .inr (.inr ⟨ks,rfl,rfl⟩)
theorem tL{P:Program}{t:TypeId}{ks:List TK}(h:tkA P t=some ks):∃n e es,P.underlying t=some (.array n e)∧tkS P e=some es∧P.cellsOf e=es.length∧ks=(List.replicate n es).flatten:=by
 unfold tkA at h;split at h
 ·rename_i n e hu;split at h
  ·rename_i es he;split at h
   ·rename_i hc;cases h;exact⟨n,e,es,hu,he,hc,rfl⟩
   ·cases h
  ·cases h
 ·cases h
theorem iU{P:Program}{w:World}{t:TypeId}{ks:List TK}(h:tkS P t=some ks)(hc:P.cellsOf t=ks.length)(cs:Array Value)(i:Nat):(part t cs i).run P w=.ok (.agg (cs.extract i (i+ks.length))) w:=by
 have hu:=(j7 h).1;obtain⟨inf,hi⟩:=info_of_underlying hu;simp[part,isAgg,bE hu,run_sizeOf w hi,hc]
theorem l5:∀(ks ks':List TK)(xs ys:List AV)(r:Bool),dK (ks++ks') xs ys=some r→∃b,dK ks (xs.take ks.length) (ys.take ks.length)=some b∧(b=false→r=false)∧(b=true→dK ks' (xs.drop ks.length) (ys.drop ks.length)=some r)
 |[],ks',xs,ys,r,h=>⟨true,rfl,fun h=>(by cases h),fun _=>h⟩
 |k::ks,ks',[],ys,r,h=>by cases ys<;>cases h
 |k::ks,ks',x::xs,[],r,h=>by cases h
 |k::ks,ks',x::xs,y::ys,r,h=>by
  simp only[List.cons_append,dK,de,List.take_succ_cons,List.drop_succ_cons] at h ⊢;split at h
  ·rename_i hs;exact l5 ks ks' xs ys r h
  ·rename_i hs;cases h;exact⟨false,rfl,fun _=>rfl,fun h=>(by cases h)⟩
  ·cases h
theorem lX{E:Env}{w:World}{xs:List AV}{vs:List Value}(hl:xs.length=vs.length)(hr:∀(i:Nat)(x:AV)(v:Value),xs[i]?=some x→vs[i]?=some v→Rel E w x v)(a n:Nat):Rel E w (.agg ((xs.drop a).take n)) (.agg (vs.toArray.extract a (a+n))):=by
 have e:vs.toArray.extract a (a+n)=((vs.drop a).take n).toArray:=by
  simp[List.extract_eq_take_drop,List.extract_toArray]
 rw[e];refine Rel.agg _ _ (by simp[hl]) (fun i x v hx hv=>?_);rw[fT] at hx hv;split at hx
 ·rename_i hi;rw[if_pos hi] at hv;rw[jw] at hx hv;exact hr _ x v hx hv
 ·cases hx
theorem lP{P:Program}{E:Env}{w:World}{d:Nat}{e:TypeId}{es:List TK}(he:tkS P e=some es)(hc:P.cellsOf e=es.length){xs ys:List AV}{vx vy:List Value}(lx:xs.length=vx.length)(ly:ys.length=vy.length)
    (hx:∀(i:Nat)(x:AV)(v:Value),xs[i]?=some x→vx[i]?=some v→Rel E w x v) (hy:∀(i:Nat)(x:AV)(v:Value),ys[i]?=some x→vy[i]?=some v→Rel E w x v):∀(m a:Nat)(r:Bool),
    dK (List.replicate m es).flatten (xs.drop (a*es.length)) (ys.drop (a*es.length))=some r→(Op.eqItems (d+2) e (P.cellsOf e) vx.toArray vy.toArray (List.range' a m)).run P w=.ok r w
 |0,a,r,h=>by
  generalize xs.drop (a*es.length)=l at h;generalize ys.drop (a*es.length)=m at h;cases l<;>cases m<;>first|(cases h;rfl)|cases h
 |m+1,a,r,h=>by
  rw[List.replicate_succ,List.flatten_cons] at h;obtain⟨b,q1,q2,q3⟩:=l5 es _ _ _ r h;rw[List.drop_drop,List.drop_drop] at q3;have p1:=iU (w:=w) he hc vx.toArray (a*P.cellsOf e);have p2:=iU (w:=w) he hc vy.toArray (a*P.cellsOf e);have p3:=iW he (lX lx hx (a*P.cellsOf e) es.length) (lX ly hy (a*P.cellsOf e) es.length) (by rw[hc];exact q1) d;rw[List.range'_succ];simp only[Op.eqItems,bj,p1,p2,bg,p3];cases b with
  |false=>rw[q2 rfl];rfl
  |true=>
   simp only[Bool.not_true,cI,if_false];refine lP he hc lx ly hx hy m (a+1) r ?_;have e2:(a+1)*es.length=a*es.length+es.length:=by rw[fu,Nat.one_mul]
   rw[e2];exact q3 rfl
theorem l4{P:Program}{E:Env}{w:World}{t:TypeId}{k:MK}{x y:AV}{vx vy:Value}{r:Bool}(hk:mkk P t=some k)(hx:Rel E w x vx)(hy:Rel E w y vy)(h:jM k x y=some r):
    (Op.equal t vx vy).run P w=.ok r w:=by
 unfold Op.equal Op.maxDepth;rcases kR hk with⟨k',rfl,hk'⟩|⟨ks,rfl,hk'⟩|⟨ks,rfl,hk'⟩
 ·exact dW hk' hx hy h 9999
 ·cases x<;>first|(cases h;done)|skip
  cases y<;>first|(cases h;done)|skip
  exact iW hk' hx hy h 9998
 ·cases x<;>first|(cases h;done)|skip
  cases y<;>first|(cases h;done)|skip
  obtain⟨n,e,es,hu,he,hc,rfl⟩:=tL hk';obtain⟨inf,hi⟩:=info_of_underlying (j7 he).1;cases hx with
  |agg xs vs1 l1 r1=>
  cases hy with
  |agg ys vs2 l2 r2=>
  rw[run_equalIn_array w 9999 _ _ hu hi,List.range_eq_range'];refine lP (d:=9997) he hc l1.symm l2.symm r1 r2 n 0 r ?_;rw[Nat.zero_mul,List.drop_zero,List.drop_zero];exact h
def gU(l:List MapEntry)(i:Nat)(r:Option Nat):Option (Nat×Value):=r.map fun j=>(i+j,(l.getD j default).val)
theorem py{e:MapEntry}{l:List MapEntry}{i:Nat}{r:Option Nat}:gU (e::l) i (r.map (· +1))=gU l (i+1) r:=by
 cases r with
 |none=>rfl
 |some j=>simp[gU];omega
theorem eX{P:Program}{E:Env}{w:World}{t:TypeId}{k:MK}{key:AV}{vk:Value}(hk:mkk P t=some k)(hx:Rel E w key vk):∀(es:List MapEntry)(ks:List AV)(i:Nat)(r:Option Nat),
    es.length=ks.length→(∀(j:Nat)(x:AV)(e:MapEntry),ks[j]?=some x→es[j]?=some e→Rel E w x e.key)→cR k key ks=some r→(Instr.findAsking t vk es i).run P w=.ok (gU es i r) w
 |[],ks,i,r,hl,hr,h=>by
  have:ks=[]:=e8.1 hl.symm;subst this;cases h;rfl
 |e::es,ks,i,r,hl,hr,h=>by
  cases ks with
  |nil=>cases hl
  |cons x ks=>
   simp only[cR] at h;have he:=hr 0 x e rfl rfl;simp only[Instr.findAsking,bj];split at h
   ·rename_i hs;cases h;rw[l4 hk hx he hs];simp[Result.andThen,gU]
   ·rename_i hs;cases hm:cR k key ks with
    |none=>rw[hm] at h;cases h
    |some r'=>
     rw[hm] at h;cases h;rw[l4 hk hx he hs];simp only[bg,cI,if_false];rw[eX hk hx es ks (i+1) r' (by simpa using hl) (fun j x e h1 h2=>hr (j+1) x e (by simpa using h1) (by simpa using h2)) hm,py]
   ·cases h
theorem jI{P:Program}{E:Env}{w:World}{t:TypeId}{d:TypeDesc}{k:TK}{key:AV}{vk:Value}(hd:P.underlying t=some d)(hk:tk1 P t=some k)(hx:Rel E w key vk):∀(es:List MapEntry)(ks:List AV)(i:Nat)(r:Option Nat),
    es.length=ks.length→(∀(j:Nat)(x:AV)(e:MapEntry),ks[j]?=some x→es[j]?=some e→Rel E w x e.key)→cR (.one k) key ks=some r→Instr.findNow d vk es i=some (gU es i r)
 |[],ks,i,r,hl,hr,h=>by
  have:ks=[]:=e8.1 hl.symm;subst this;cases h;rfl
 |e::es,ks,i,r,hl,hr,h=>by
  cases ks with
  |nil=>cases hl
  |cons x ks=>
   simp only[cR] at h;have he:=hr 0 x e rfl rfl
   have hs:∀b,jM (.one k) key x=some b→Instr.sameNow d vk e.key=some b:=by
    intro b hb;generalize e.key=vke at he;replace hb:iv k key x=some b:=hb;unfold iv at hb;unfold tk1 at hk;rw[hd] at hk;split at hb
    ·cases hx;cases he;split at hb
     ·rename_i e2;subst e2;cases d<;>first|(cases hk;done)|skip
      simp only[Instr.sameNow,if_true];exact hb
     ·cases hb
    ·cases hx;cases he;cases d<;>first|(cases hk;done)|skip
     simp only[Instr.sameNow,beq_toListBytes];exact hb
    ·cases hx;cases he;cases d<;>first|(cases hk;done)|skip
     simp only[Instr.sameNow];exact hb
    ·cases hb
   simp only[Instr.findNow];split at h
   ·rename_i hb;cases h;rw[hs _ hb];simp[gU]
   ·rename_i hb;cases hm:cR (.one k) key ks with
    |none=>rw[hm] at h;cases h
    |some r'=>
     rw[hm] at h;cases h;rw[hs _ hb];simp only;rw[jI hd hk hx es ks (i+1) r' (by simpa using hl) (fun j x e h1 h2=>hr (j+1) x e (by simpa using h1) (by simpa using h2)) hm,py]
   ·cases h
theorem dE{P:Program}{E:Env}{w:World}{t:TypeId}{k:MK}{key:AV}{vk:Value}(hk:mkk P t=some k)(hx:Rel E w key vk){es:List MapEntry}{ks:List AV}{r:Option Nat}
    (hl:es.length=ks.length) (hr:∀(j:Nat)(x:AV)(e:MapEntry),ks[j]?=some x→es[j]?=some e→Rel E w x e.key) (h:cR k key ks=some r):(Instr.findKey t vk es).run P w=.ok (gU es 0 r) w:=by
 rcases kR hk with⟨k',rfl,hk'⟩|⟨fks,rfl,hk'⟩|⟨fks,rfl,hk'⟩
 ·obtain⟨d,hd⟩:∃d,P.underlying t=some d:=by
    unfold tk1 at hk';cases hu:P.underlying t with
    |none=>rw[hu] at hk';cases hk'
    |some d=>exact⟨d,rfl⟩
  unfold Instr.findKey;simp only[bj,bE hd,bg,jI hd hk' hx es ks 0 r hl hr h];rfl
 ·have hu:=(j7 hk').1;unfold Instr.findKey;simp only[bj,bE hu,bg];cases es with
  |nil=>
   have:ks=[]:=e8.1 hl.symm;subst this;cases h;rfl
  |cons e es=>
   have:Instr.findNow (.struct (P.fieldsOf t)) vk (e::es) 0=none:=rfl;rw[this];exact eX hk hx _ ks 0 r hl hr h
 ·obtain⟨n,el,els,hu,_,_,_⟩:=tL hk';unfold Instr.findKey;simp only[bj,bE hu,bg];cases es with
  |nil=>
   have:ks=[]:=e8.1 hl.symm;subst this;cases h;rfl
  |cons e es=>
   have:Instr.findNow (.array n el) vk (e::es) 0=none:=rfl;rw[this];exact eX hk hx _ ks 0 r hl hr h
def je(k:MK)(x:AV):Bool:=match k,x with
 |.one .int,.int _ _=>true
 |.one .str,.str _=>true
 |.one .bool,.bool _=>true
 |.st ks,.agg xs=>ks.length==xs.length
 |_,_=>false
theorem gq{P:Program}{w:World}{t:TypeId}{k:TK}(hk:tk1 P t=some k)(em:Bool)(n:Nat)(v:Value):(Instr.checkKey em (n+1) t v).run P w=.ok () w:=by
 unfold tk1 at hk;cases hu:P.underlying t with
 |none=>rw[hu] at hk;cases hk
 |some d=>
  rw[hu] at hk;cases d<;>first|(cases hk;done)|skip
  all_goals
   simp only[Instr.checkKey,bj,bE hu,bg];cases v<;>rfl
theorem uR{P:Program}:∀(fs:List Field)(i:Nat)(ks:List TK),tkF P i fs=some ks→ks.length=fs.length∧∀(j:Nat)(f:Field),fs[j]?=some f→f.offset=i+j∧∃k,tk1 P f.type=some k
 |[],i,ks,h=>by cases h;exact⟨rfl,by simp⟩
 |f::fs,i,ks,h=>by
  simp only[tkF] at h;split at h
  case isFalse=>cases h
  case isTrue hc=>
  split at h
  case h_2=>cases h
  rename_i k ks' h1 h2;cases h;obtain⟨e1,e2⟩:=uR fs (i+1) ks' h2;refine⟨by simp[e1],fun j g hg=>?_⟩;cases j with
  |zero=>simp at hg;subst hg;exact⟨hc.2,k,h1⟩
  |succ j=>obtain⟨q1,q2⟩:=e2 j g (by simpa using hg);exact⟨by omega,q2⟩
theorem nC{α:Type}{P:Program}{w:World}:∀(l:List α)(f:α→PUnit→Sem (ForInStep PUnit)),(∀x∈l,(f x PUnit.unit).run P w=.ok (.yield PUnit.unit) w)→(forIn l PUnit.unit f).run P w=.ok PUnit.unit w
 |[],f,h=>by simp
 |x::l,f,h=>by
  rw[List.forIn_cons];simp only[bj,h x (by simp),bg];exact nC l f (fun y hy=>h y (by simp[hy]))
theorem jK{P:Program}{w:World}{t:TypeId}{ks:List TK}(hk:tkS P t=some ks){vs:List Value}(hl:vs.length=ks.length)(em:Bool)(n:Nat)(hk1:∀t v k,tk1 P t=some k→(Instr.checkKey em n t v).run P w=.ok () w):(Instr.checkKey em (n+1) t (.agg vs.toArray)).run P w=.ok () w:=by
 obtain⟨h1,_,_,h4⟩:=j7 hk;obtain⟨q1,q2⟩:=uR _ 0 ks h4;simp only[Instr.checkKey,bj,bE h1,bg];rw[←Array.forIn_toList];rw[nC]
 ·rfl
 ·intro f hf;obtain⟨j,hj⟩:=rO hf;obtain⟨e1,k,e2⟩:=q2 j f hj;have hlt:f.offset<vs.toArray.size:=by have:=(bC.1 hj).1;simp;omega
  have hp:=eu (P:=P) (w:=w) e2 (cs:=vs.toArray) (i:=f.offset) (v:=vs.toArray[f.offset]) (by simp[hlt]);by_cases hn:f.name="_"
  ·simp only[hn,ne_eq,not_true_eq_false,if_false,cS]
  ·simp only[hn,ne_eq,not_false_eq_true,if_true,bj,hp,bg,hk1 _ _ _ e2,cS]
theorem pj{P:Program}{w:World}{t:TypeId}{ks:List TK}(hk:tkA P t=some ks){vs:List Value}(hl:vs.length=ks.length)(em:Bool)(N:Nat)(hk1:∀(e:TypeId)(es:List TK)(us:List Value),tkS P e=some es→us.length=es.length→(Instr.checkKey em N e (.agg us.toArray)).run P w=.ok () w):(Instr.checkKey em (N+1) t (.agg vs.toArray)).run P w=.ok () w:=by
 obtain⟨n,e,es,hu,he,hc,rfl⟩:=tL hk;obtain⟨inf,hi⟩:=info_of_underlying (j7 he).1;have hlen:((List.replicate n es).flatten).length=n*es.length:=by simp
 rw[hlen] at hl;simp only[Instr.checkKey,bj,bE hu,bg,Std.Legacy.Range.forIn_eq_forIn_range',Std.Legacy.Range.size,Nat.sub_zero,Nat.add_one_sub_one,Nat.div_one];rw[nC]
 ·rfl
 ·intro i hin
  have hin:i<n:=by
   have:=List.mem_range'.1 hin;omega
  have hp:=iU (w:=w) he hc vs.toArray (i*P.cellsOf e);have hle:(i+1)*es.length≤n*es.length:=iz _ hin;rw[fu,Nat.one_mul] at hle
  have ex:vs.toArray.extract (i*P.cellsOf e) (i*P.cellsOf e+es.length)=((vs.drop (i*P.cellsOf e)).take es.length).toArray:=by
   simp[List.extract_eq_take_drop,List.extract_toArray]
  have hck:=hk1 e es ((vs.drop (i*P.cellsOf e)).take es.length) he (by rw[wX,List.length_drop,hc];omega);simp only[bj,run_sizeOf w hi,hp,bg,ex,hck,cS]
theorem d4{P:Program}{E:Env}{w:World}{t:TypeId}{k:MK}(hk:mkk P t=some k){key:AV}{v:Value}(hx:Rel E w key v)(hfit:je k key=true)(em:Bool):(Instr.checkKey em 10000 t v).run P w=.ok () w:=by
 rcases kR hk with⟨k',rfl,hk'⟩|⟨ks,rfl,hk'⟩|⟨ks,rfl,hk'⟩
 ·exact gq hk' em 9999 v
 ·cases key<;>first|(cases hfit;done)|skip
  have hfit:ks.length==_:=hfit;cases hx with
  |agg cs vs hl _=>exact jK hk' (by have:=hfit;simp at this;omega) em 9999 (fun t v k h=>gq h em 9998 v)
 ·cases key<;>first|(cases hfit;done)|skip
  have hfit:ks.length==_:=hfit;cases hx with
  |agg cs vs hl _=>exact pj hk' (by have:=hfit;simp at this;omega) em 9999 (fun e es us h1 h2=>jK h1 h2 em 9998 (fun t v k h=>gq h em 9997 v))
end Go.Abs
namespace Go.Abs
open Go.RowKit
theorem dt{P:Program}{w w':World}{s:Sem Value}{v:Value}(h:s.run P w=.ok v w'):(do pure (Next.value (←s)):Sem Next).run P w=.ok (.value v) w':=by
 simp only[bj,h,bg];rfl
theorem lw{P:Program}{w w':World}{s:Sem Unit}(h:s.run P w=.ok () w'):(do s;pure Next.skip:Sem Next).run P w=.ok .skip w':=by
 simp only[bj,h,bg];rfl
def fC(P:Program)(t:TypeId):Option (TypeId×TypeId):=match P.underlying t with
 |some (.map k e)=>some (k,e)
 |_=>none
theorem eg{P:Program}{t k e:TypeId}(h:fC P t=some (k,e)):P.underlying t=some (.map k e):=by
 unfold fC at h;split at h
 ·cases h;assumption
 ·cases h
theorem bz{P:Program}{w:World}{k:Nat}{o:Obj}(h:w.heap[k]?=some o)(hc:f9 o=false):(getObj k).run P w=.ok o w:=by cases o<;>first|(cases hc;done)|simp[getObj,Sem.run,h]
theorem cQ{P:Program}{w:World}{k:Nat}{o o':Obj}(h:w.heap[k]?=some o)(hc:f9 o=false):(setObj k o').run P w=.ok () (w.putObj k o'):=by cases o<;>first|(cases hc;done)|simp[setObj,Sem.run,h,World.putObj]
theorem bT.sp{E E':Env}{nx:Nat}(h:bT E nx){k:Nat}(he:E'={E with sp:=fun b=>if b=nx then some k else E.sp b}):bT E' (nx+1):=by
 intro b hb;subst he;obtain⟨h1,h2,h3⟩:=h b (by omega);exact⟨h1,by show(if b=nx then _ else _)=none;rw[if_neg (by omega)];exact h2,h3⟩
theorem oO{P:Program}{t:TypeId}{r:Option Operand}{T:Tm}{H:Hp}{nx:Nat}{K:AV→Hp→Nat→Prop}(ht:r=none∨ ∃x n k p,r=some x∧ev T x=.int k n∧fC P t=some p)
    (h:K (.mp nx) (am H nx [.omap [] []]) (nx+1)):ce P (.makeMap t r) T H nx K:=by
 refine bc (by intro c;simp) ?_;rintro E w a ⟨dst,op,type,pos,after,guard⟩ ho hE hh hf htm;simp only at ho;subst ho;obtain⟨E',hE',he,hEo,hh',hs,hnew⟩:=oh hE hh (hf nx (aM _)) (.map #[] 0) rfl (by intro ds;simp);have hspm:=hEo.spm nx _ hs;refine⟨.value (.map (some w.heap.size)),.map (some w.heap.size),w.alloc (.map #[] 0),E',.mp nx,_,nx+1,?_,.inl rfl,he,hEo,hh'.addSp (x:=.omap [] []) (ms _) hspm hs ⟨#[],0,hnew,⟨rfl,rfl,by simp,by simp,by simp,rfl⟩⟩,hf.sp hE',.mp _ _ hs,h⟩;refine dt ?_;rcases ht with rfl|⟨x,n,k,p,rfl,hx,hp⟩
 ·simp only[Option.map_none,Instr.makeMap,bj,run_newObj_alloc,bg];rfl
 ·have hr:=htm x (by simp[Op.operands,Call.operands]);rw[hx] at hr;generalize hvx:a.eval x=vx at hr;cases hr;have hu:=eg (P:=P) (t:=t) (k:=p.1) (e:=p.2) hp;simp only[jd,hvx,Instr.makeMap,bj,bE hu,asInt,cS,run_newObj_alloc,bg];rfl
theorem jf{E:Env}{H:Hp}{nx:Nat}{w:World}(hh:HeapOk E H nx w){b k:Nat}{ks vs:List AV}(hb:H b=some [.omap ks vs])(hs:E.sp b=some k):∃es clock,w.heap[k]?=some (.map es clock)∧MapOk E w ks vs es clock:=by
 obtain⟨k',h1,es,clock,h2,h3⟩:=hh.spec b _ hb rfl;rw[hs] at h1;cases h1;exact⟨es,clock,h2,h3⟩
theorem map_set{E:Env}{H:Hp}{nx:Nat}{w:World}(hE:EnvOk E w)(hh:HeapOk E H nx w){b k:Nat}{ks vs ks' vs':List AV}{es es':Array MapEntry}{clock clock':Nat}(hb:H b=some [.omap ks vs])(hs:E.sp b=some k)(hw:w.heap[k]?=some (.map es clock))
    (hm:MapOk E w ks' vs' es' clock'):Ext E w E (w.putObj k (.map es' clock'))∧EnvOk E (w.putObj k (.map es' clock'))∧HeapOk E (am H b [.omap ks' vs']) nx (w.putObj k (.map es' clock')):=by
 have hlp:∀r T,E.lp b=some (r,T)→False:=by
  intro r T h;obtain⟨k',st,p,h1,h2,_⟩:=hE.lp b r T h;rw[hs] at h1;cases h1;rw[hw] at h2;cases h2
 obtain⟨q1,q2,q3⟩:=kS hE (hh.del b) hs hw (o':=.map es' clock') rfl rfl (by intro ds;simp) (by intro ds;simp) (fun r T h=>(hlp r T h).elim) (fun x hx=>by rw[eZ] at hx;cases hx);refine⟨q1,q2,?_⟩
 have hH:am (dv H b) b [.omap ks' vs']=am H b [.omap ks' vs']:=by
  funext y;unfold am dv;split<;>rfl
 rw[←hH];exact q3.addSp (hh.dom _ _ hb) (q2.spm b k hs) hs ⟨es',clock',vH (fA.1 hw).1,hm.ext q1⟩
def cW(key:AV)(r:Option Nat)(ks:List AV):List AV:=match r with|some _=>ks|none=>ks++[key]
def fw(v:AV)(r:Option Nat)(vs:List AV):List AV:=match r with|some i=>vs.set i v|none=>vs++[v]
theorem pR{a b:ByteArray}(h:a.toList=b.toList):a=b:=by
 rw[ByteArray.toList_eq,ByteArray.toList_eq] at h;obtain⟨⟨x⟩⟩:=a;obtain⟨⟨y⟩⟩:=b;simp at h;rw[h]
theorem sw{k:TK}{x y:AV}(h:iv k x y=some true):x=y:=by
 unfold iv at h;split at h
 ·split at h
  ·subst_vars;simp at h;rw[h]
  ·cases h
 ·simp at h;rw[pR h]
 ·simp at h;rw[h]
 ·cases h
theorem rF:∀{ks:List TK}{xs ys:List AV},dK ks xs ys=some true→xs=ys
 |[],[],[],_=>rfl
 |k::ks,x::xs,y::ys,h=>by
  simp only[dK] at h;split at h
  ·rename_i hs;rw[sw hs,rF h]
  ·cases h
  ·cases h
 |[],_::_,_,h=>by cases h
 |[],[],_::_,h=>by cases h
 |_::_,[],_,h=>by cases h
 |_::_,_::_,[],h=>by cases h
theorem n6{k:MK}{x y:AV}(h:jM k x y=some true):x=y:=by
 cases k with
 |one k=>exact sw h
 |st ks=>
  cases x<;>first|(cases h;done)|skip
  cases y<;>first|(cases h;done)|skip
  rw[rF h]
theorem eo{k:MK}{key:AV}:∀{ks:List AV}{i:Nat},cR k key ks=some (some i)→∃x,ks[i]?=some x∧jM k key x=some true
 |[],i,h=>by cases h
 |x::l,i,h=>by
  simp only[cR] at h;split at h
  ·rename_i hs;cases h;exact⟨x,rfl,hs⟩
  ·cases hm:cR k key l with
   |none=>rw[hm] at h;cases h
   |some r=>
    rw[hm] at h;cases r with
    |none=>cases h
    |some j=>
     cases h;obtain⟨y,h1,h2⟩:=eo hm;exact⟨y,by simpa using h1,h2⟩
  ·cases h
theorem nP{E:Env}{w:World}{k:TK}{x y:AV}{vx vy:Value}(hx:Rel E w x vx)(hy:Rel E w y vy)(h:iv k x y=some true)(n:Nat):Instr.sameBits n vy vx=true:=by
 unfold iv at h;split at h
 ·cases hx;cases hy;split at h
  ·subst_vars;simp at h;subst h;cases n<;>simp[Instr.sameBits]
  ·cases h
 ·cases hx;cases hy;simp at h;rw[pR h];cases n<;>simp[Instr.sameBits,beq_toListBytes]
 ·cases hx;cases hy;simp at h;subst h;cases n<;>simp[Instr.sameBits]
 ·cases h
theorem nT{E:Env}{w:World}{n:Nat}:∀{ks:List TK}{xs ys:List AV}{vx vy:List Value},cJ E w xs vx→cJ E w ys vy→dK ks xs ys=some true→vx.length=vy.length∧((vy.zip vx).all fun(x,y)=>Instr.sameBits n x y)=true
 |[],[],[],vx,vy,hx,hy,h=>by
  have h1:vx=[]:=e8.1 hx.1;have h2:vy=[]:=e8.1 hy.1;subst h1 h2;exact⟨rfl,rfl⟩
 |k::ks,x::xs,y::ys,vx,vy,hx,hy,h=>by
  cases vx with
  |nil=>have:=hx.1;simp at this
  |cons v1 vx=>
  cases vy with
  |nil=>have:=hy.1;simp at this
  |cons v2 vy=>
  simp only[dK] at h;split at h
  ·rename_i hs;have r1:cJ E w xs vx:=⟨by have:=hx.1;simpa using this,fun i a b ha hb=>hx.2 (i+1) a b (by simpa using ha) (by simpa using hb)⟩
   have r2:cJ E w ys vy:=⟨by have:=hy.1;simpa using this,fun i a b ha hb=>hy.2 (i+1) a b (by simpa using ha) (by simpa using hb)⟩
   obtain⟨e1,e2⟩:=nT (n:=n) r1 r2 h;refine⟨by simp[e1],?_⟩;simp only[List.zip_cons_cons,List.all_cons,dl];exact⟨nP (hx.2 0 x v1 rfl rfl) (hy.2 0 y v2 rfl rfl) hs n,e2⟩
  ·cases h
  ·cases h
 |[],_::_,_,_,_,_,_,h=>by cases h
 |[],[],_::_,_,_,_,_,h=>by cases h
 |_::_,[],_,_,_,_,_,h=>by cases h
 |_::_,_::_,[],_,_,_,_,h=>by cases h
theorem jV{E:Env}{w:World}{k:MK}{x y:AV}{vx vy:Value}(hx:Rel E w x vx)(hy:Rel E w y vy)(h:jM k x y=some true):Instr.sameBits 10000 vy vx=true:=by
 cases k with
 |one k=>exact nP hx hy h _
 |st ks=>
  cases x<;>first|(cases h;done)|skip
  cases y<;>first|(cases h;done)|skip
  cases hx with
  |agg _ v1 l1 r1=>
  cases hy with
  |agg _ v2 l2 r2=>
  obtain⟨e1,e2⟩:=nT (n:=9999) ⟨l1,r1⟩ ⟨l2,r2⟩ h;show Instr.sameBits (9999+1) _ _=true;simp only[Instr.sameBits,dl];exact⟨by simp[e1],e2⟩
theorem mh{P:Program}{t kt et:TypeId}{m k x:Operand}{T:Tm}{H:Hp}{nx b:Nat}{K:AV→Hp→Nat→Prop}{mk:MK}{ks vs:List AV}{r:Option Nat}(ht:fC P t=some (kt,et))(hk:mkk P kt=some mk)
    (hm:ev T m=.mp b) (hb:H b=some [.omap ks vs]) (hfit:je mk (ev T k)=true) (hr:cR mk (ev T k) ks=some r)
    (h:K (.tup []) (am H b [.omap (cW (ev T k) r ks) (fw (ev T x) r vs)]) nx):ce P (.mapUpdate t m k x) T H nx K:=by
 refine bc (by intro c;simp) ?_;rintro E w a ⟨dst,op,type,pos,after,guard⟩ ho hE hh hf htm;simp only at ho;subst ho;have hmr:=htm m (by simp[Op.operands,Call.operands]);have hkr:=htm k (by simp[Op.operands,Call.operands]);have hxr:=htm x (by simp[Op.operands,Call.operands]);rw[hm] at hmr;generalize hvm:a.eval m=vm at hmr;cases hmr with
 |mp _ kb hs=>
 obtain⟨es,clock,hw,hok⟩:=jf hh hb hs;have hck:=d4 (P:=P) (w:=w) hk hkr hfit false;have hfk:=dE (P:=P) (es:=es.toList) (ks:=ks) hk hkr (by simpa using hok.len) (fun j y e h1 h2=>hok.key j y e h1 (by simpa using h2)) hr;have hu:=eg ht
 have key:∃es' clock',(Instr.mapUpdate t (.map (some kb)) (a.eval k) (a.eval x)).run P w=.ok () (w.putObj kb (.map es' clock'))∧MapOk E w (cW (ev T k) r ks) (fw (ev T x) r vs) es' clock':=by
  unfold Instr.mapUpdate;simp only[bj,bE hu,bg,bz hw rfl,hck,hfk];cases r with
  |none=>
   simp only[gU,Option.map_none,cQ hw rfl];refine⟨_,_,rfl,?_⟩;have hl:=hok.len;have hl':=hok.len';refine⟨by simp[cW,hl],by simp[fw,cW,hl'],fun i y e h1 h2=>?_,fun i y e h1 h2=>?_,fun i e h1=>?_,by simp[hok.clk]⟩
   ·simp only[cW] at h1;rw[qU] at h2;split at h2
    ·rename_i he;cases h2;rw[he,hl,fJ (aM _)] at h1;simp at h1;subst h1;exact hkr
    ·rename_i hne;have hlt:i<es.size:=(fA.1 h2).1;rw[eV (by omega)] at h1;exact hok.key i y e h1 h2
   ·simp only[fw] at h1;rw[qU] at h2;split at h2
    ·rename_i he;cases h2;rw[he,hl,fJ (by omega)] at h1;simp[hl'] at h1;subst h1;exact hxr
    ·rename_i hne;have hlt:i<es.size:=(fA.1 h2).1;rw[eV (by omega)] at h1;exact hok.val i y e h1 h2
   ·rw[qU] at h1;split at h1
    ·rename_i he;cases h1;rw[he];exact hok.clk
    ·exact hok.born i e h1
  |some i=>
   obtain⟨y,hy,hsame⟩:=eo hr;have hlt:i<es.size:=by have:=(bC.1 hy).1;have:=hok.len;omega
   have hbits:=jV hkr (hok.key i y es[i] hy (by simp[hlt])) hsame
   have dA:(Instr.keyThatStays (((es[i]?).map (·.key)).getD (a.eval k)) (a.eval k)).run P w=.ok (a.eval k) w:=by
    unfold Instr.keyThatStays;simp only[hlt,ww,jd,tF];rw[if_pos hbits];rfl
   simp only[gU,jd,bQ,bj,dA,bg,cQ hw rfl];refine⟨_,_,rfl,?_⟩
   have hmod:∀j e,(es.modify i fun e=>{e with key:=a.eval k,val:=a.eval x})[j]?=some e→∃e0,es[j]?=some e0∧((i=j∧e={e0 with key:=a.eval k,val:=a.eval x})∨(i≠j∧e=e0)):=by
    intro j e he;rw[Array.getElem?_modify] at he;split at he
    ·rename_i hij;cases h0:es[j]? with
     |none=>rw[h0] at he;cases he
     |some e0=>rw[h0] at he;cases he;exact⟨e0,rfl,.inl ⟨hij,rfl⟩⟩
    ·rename_i hij;exact⟨e,he,.inr ⟨hij,rfl⟩⟩
   refine⟨by simp[cW,hok.len],by simp[fw,cW,hok.len'],fun j z e h1 h2=>?_,fun j z e h1 h2=>?_,fun j e h1=>?_,by simp[hok.clk]⟩
   ·obtain⟨e0,k1,(⟨rfl,rfl⟩|⟨hne,rfl⟩)⟩:=hmod j e h2
    ·simp only[cW] at h1;rw[hy] at h1;cases h1;rw[←n6 hsame];exact hkr
    ·exact hok.key j z e h1 k1
   ·obtain⟨e0,k1,(⟨rfl,rfl⟩|⟨hne,rfl⟩)⟩:=hmod j e h2
    ·simp only[fw] at h1;have:i<vs.length:=by have:=hok.len';have:=hok.len;omega
     rw[List.getElem?_set_self this] at h1;cases h1;exact hxr
    ·simp only[fw] at h1;rw[List.getElem?_set_ne hne] at h1;exact hok.val j z e h1 k1
   ·obtain⟨e0,k1,(⟨rfl,rfl⟩|⟨hne,rfl⟩)⟩:=hmod j e h1
    ·exact hok.born i e0 k1
    ·exact hok.born j e k1
 obtain⟨es',clock',hrun,hok'⟩:=key;obtain⟨q1,q2,q3⟩:=map_set hE hh hb hs hw hok';refine⟨.skip,Go.undef,_,E,.tup [],_,nx,?_,.inr ⟨rfl,rfl⟩,q1,q2,q3,hf,eA _ _,h⟩;refine lw ?_;show(Instr.mapUpdate t (a.eval m) (a.eval k) (a.eval x)).run P w=_;rw[hvm];exact hrun
def mget(z:AV)(ok:Bool)(r:Option Nat)(vs:List AV):AV:=match r with
 |some i=>if ok=true then .tup [vs.getD i .undef,.bool true] else vs.getD i .undef
 |none=>if ok=true then .tup [z,.bool false] else z
theorem gw{E:Env}{w:World}{x y:AV}{u v:Value}(h1:Rel E w x u)(h2:Rel E w y v):Rel E w (.tup [x,y]) (.tuple #[u,v]):=by
 refine Rel.tup [x,y] [u,v] rfl (fun i a b ha hb=>?_)
 match i with
 |0=>cases ha;cases hb;exact h1
 |1=>cases ha;cases hb;exact h2
 |i+2=>cases ha
theorem sO{E:Env}{w:World}{x y z:AV}{u v t:Value}(h1:Rel E w x u)(h2:Rel E w y v)(h3:Rel E w z t):Rel E w (.tup [x,y,z]) (.tuple #[u,v,t]):=by
 refine Rel.tup [x,y,z] [u,v,t] rfl (fun i a b ha hb=>?_)
 match i with
 |0=>cases ha;cases hb;exact h1
 |1=>cases ha;cases hb;exact h2
 |2=>cases ha;cases hb;exact h3
 |i+3=>cases ha
theorem rz{E:Env}{w:World}{x:AV}{u:Value}(h1:Rel E w x u):Rel E w (.tup [x]) (.tuple #[u]):=by
 refine Rel.tup [x] [u] rfl (fun i a b ha hb=>?_)
 match i with
 |0=>cases ha;cases hb;exact h1
 |i+1=>cases ha
theorem kj{P:Program}{t kt et:TypeId}{m k:Operand}{ok:Bool}{T:Tm}{H:Hp}{nx b:Nat}{K:AV→Hp→Nat→Prop}{mk:MK}{ks vs:List AV}{r:Option Nat}{z:AV}(ht:fC P t=some (kt,et))(hk:mkk P kt=some mk)(hz:dS P et=some z)
    (hm:ev T m=.mp b) (hb:H b=some [.omap ks vs]) (hfit:je mk (ev T k)=true) (hr:cR mk (ev T k) ks=some r)
    (h:K (mget z ok r vs) H nx):ce P (.lookup t m k ok) T H nx K:=by
 refine bc (by intro c;simp) ?_;rintro E w a ⟨dst,op,type,pos,after,guard⟩ ho hE hh hf htm;simp only at ho;subst ho;have hmr:=htm m (by simp[Op.operands,Call.operands]);have hkr:=htm k (by simp[Op.operands,Call.operands]);rw[hm] at hmr;generalize hvm:a.eval m=vm at hmr;cases hmr with
 |mp _ kb hs=>
 obtain⟨es,clock,hw,hok⟩:=jf hh hb hs;have hck:=d4 (P:=P) (w:=w) hk hkr hfit es.isEmpty;have hfk:=dE (P:=P) (es:=es.toList) (ks:=ks) hk hkr (by simpa using hok.len) (fun j y e h1 h2=>hok.key j y e h1 (by simpa using h2)) hr;have hu:=eg ht;obtain⟨vz,hvz,hrz⟩:=c8 hz
 have key:∃v,(Instr.lookup t (.map (some kb)) (a.eval k) ok).run P w=.ok v w∧Rel E w (mget z ok r vs) v:=by
  unfold Instr.lookup;simp only[bj,bE hu,bg,bz hw rfl,cS,hck,hfk];cases r with
  |none=>
   simp only[gU,Option.map_none,bj,hvz,bg,cS];refine⟨_,rfl,?_⟩;unfold mget;cases ok with
   |true=>exact gw (hrz E w) (.bool _)
   |false=>exact hrz E w
  |some i=>
   obtain⟨y,hy,hsame⟩:=eo hr;have hlt:i<es.size:=by have:=(bC.1 hy).1;have:=hok.len;omega
   have hlv:i<vs.length:=by have:=hok.len';have:=hok.len;omega
   simp only[gU,jd,cS,bg];refine⟨_,rfl,?_⟩;have e1:es.toList.getD i default=es[i]:=by simp[List.getD,hlt]
   have e2:vs.getD i .undef=vs[i]:=by simp[List.getD,hlv]
   have hrel:=hok.val i vs[i] es[i] (by simp[hlv]) (by simp[hlt]);rw[e1];cases ok with
   |true=>
    show Rel E w (.tup [vs.getD i .undef,.bool true]) _;rw[e2];exact gw hrel (.bool _)
   |false=>
    show Rel E w (vs.getD i .undef) _;rw[e2];exact hrel
 obtain⟨v,hrun,hrel⟩:=key;refine⟨.value v,v,w,E,_,H,nx,?_,.inl rfl,Ext.refl _ _,hE,hh,hf,hrel,h⟩;refine dt ?_;show(Instr.lookup t (a.eval m) (a.eval k) ok).run P w=_;rw[hvm];exact hrun
def tw(z:AV)(r:Option Nat)(vs:List AV):List AV:=match r with|some _=>vs|none=>vs++[z]
def yF(r:Option Nat)(ks:List AV):Nat:=match r with|some i=>i|none=>ks.length
def Am(z:AV)(r:Option Nat)(vs:List AV):AV:=match r with|some i=>vs.getD i .undef|none=>z
theorem oz{P:Program}{t kt et:TypeId}{m k:Operand}{T:Tm}{H:Hp}{nx b:Nat}{K:AV→Hp→Nat→Prop}{mk:MK}{ks vs:List AV}{r:Option Nat}{z:AV}(ht:fC P t=some (kt,et))(hk:mkk P kt=some mk)(hz:dS P et=some z)
    (hm:ev T m=.mp b) (hb:H b=some [.omap ks vs]) (hfit:je mk (ev T k)=true) (hr:cR mk (ev T k) ks=some r)
    (h:K (.tup [Am z r vs,.int .i64 (yF r ks)]) (am H b [.omap (cW (ev T k) r ks) (tw z r vs)]) nx):ce P (.mapEntry t m k) T H nx K:=by
 refine bc (by intro c;simp) ?_;rintro E w a ⟨dst,op,type,pos,after,guard⟩ ho hE hh hf htm;simp only at ho;subst ho;have hmr:=htm m (by simp[Op.operands,Call.operands]);have hkr:=htm k (by simp[Op.operands,Call.operands]);rw[hm] at hmr;generalize hvm:a.eval m=vm at hmr;cases hmr with
 |mp _ kb hs=>
 obtain⟨es,clock,hw,hok⟩:=jf hh hb hs;have hck:=d4 (P:=P) (w:=w) hk hkr hfit false;have hfk:=dE (P:=P) (es:=es.toList) (ks:=ks) hk hkr (by simpa using hok.len) (fun j y e h1 h2=>hok.key j y e h1 (by simpa using h2)) hr;have hu:=eg ht;obtain⟨vz,hvz,hrz⟩:=c8 hz
 have key:∃v es' clock',(Instr.mapEntry t (.map (some kb)) (a.eval k)).run P w=.ok v (w.putObj kb (.map es' clock'))∧MapOk E w (cW (ev T k) r ks) (tw z r vs) es' clock'∧Rel E w (.tup [Am z r vs,.int .i64 (yF r ks)]) v:=by
  unfold Instr.mapEntry;simp only[bj,bE hu,bg,bz hw rfl,hck,hfk];cases r with
  |none=>
   simp only[gU,Option.map_none,bj,hvz,bg,cQ hw rfl,cS];have hl:=hok.len;have hl':=hok.len';refine⟨_,_,_,rfl,⟨by simp[cW,hl],by simp[tw,cW,hl'],fun i y e h1 h2=>?_,fun i y e h1 h2=>?_,fun i e h1=>?_,by simp[hok.clk]⟩,?_⟩
   ·simp only[cW] at h1;rw[qU] at h2;split at h2
    ·rename_i he;cases h2;rw[he,hl,fJ (aM _)] at h1;simp at h1;subst h1;exact hkr
    ·rename_i hne;have hlt:i<es.size:=(fA.1 h2).1;rw[eV (by omega)] at h1;exact hok.key i y e h1 h2
   ·simp only[tw] at h1;rw[qU] at h2;split at h2
    ·rename_i he;cases h2;rw[he,hl,fJ (by omega)] at h1;simp[hl'] at h1;subst h1;exact hrz E w
    ·rename_i hne;have hlt:i<es.size:=(fA.1 h2).1;rw[eV (by omega)] at h1;exact hok.val i y e h1 h2
   ·rw[qU] at h1;split at h1
    ·rename_i he;cases h1;rw[he];exact hok.clk
    ·exact hok.born i e h1
   ·refine gw (hrz E w) ?_;rw[show(yF none ks:Int)=(clock:Int) by rw[hok.clk,hl];rfl];exact .int _ _
  |some i=>
   obtain⟨y,hy,hsame⟩:=eo hr;have hlt:i<es.size:=by have:=(bC.1 hy).1;have:=hok.len;omega
   have hlv:i<vs.length:=by have:=hok.len';have:=hok.len;omega
   have hbits:=jV hkr (hok.key i y es[i] hy (by simp[hlt])) hsame
   have dA:(Instr.keyThatStays (((es[i]?).map (·.key)).getD (a.eval k)) (a.eval k)).run P w=.ok (a.eval k) w:=by
    unfold Instr.keyThatStays;simp only[hlt,ww,jd,tF];rw[if_pos hbits];rfl
   simp only[gU,jd,bQ,bj,dA,bg,cQ hw rfl,cS]
   have hmod:∀j e,(es.modify i fun e=>{e with key:=a.eval k})[j]?=some e→∃e0,es[j]?=some e0∧((i=j∧e={e0 with key:=a.eval k})∨(i≠j∧e=e0)):=by
    intro j e he;rw[Array.getElem?_modify] at he;split at he
    ·rename_i hij;cases h0:es[j]? with
     |none=>rw[h0] at he;cases he
     |some e0=>rw[h0] at he;cases he;exact⟨e0,rfl,.inl ⟨hij,rfl⟩⟩
    ·rename_i hij;exact⟨e,he,.inr ⟨hij,rfl⟩⟩
   refine⟨_,_,_,rfl,⟨by simp[cW,hok.len],by simp[tw,cW,hok.len'],fun j z' e h1 h2=>?_,fun j z' e h1 h2=>?_,fun j e h1=>?_,by simp[hok.clk]⟩,?_⟩
   ·obtain⟨e0,k1,(⟨rfl,rfl⟩|⟨hne,rfl⟩)⟩:=hmod j e h2
    ·simp only[cW] at h1;rw[hy] at h1;cases h1;rw[←n6 hsame];exact hkr
    ·exact hok.key j z' e h1 k1
   ·simp only[tw] at h1;obtain⟨e0,k1,(⟨rfl,rfl⟩|⟨hne,rfl⟩)⟩:=hmod j e h2
    ·exact hok.val i z' e0 h1 k1
    ·exact hok.val j z' e h1 k1
   ·obtain⟨e0,k1,(⟨rfl,rfl⟩|⟨hne,rfl⟩)⟩:=hmod j e h1
    ·exact hok.born i e0 k1
    ·exact hok.born j e k1
   ·have e1:es.toList.getD i default=es[i]:=by simp[List.getD,hlt]
    have e2:vs.getD i .undef=vs[i]:=by simp[List.getD,hlv]
    have hrel:=hok.val i vs[i] es[i] (by simp[hlv]) (by simp[hlt]);have hbn:=hok.born i es[i] (by simp[hlt]);rw[e1];simp only[hlt,ww,jd,tF,hbn];show Rel E w (.tup [vs.getD i .undef,.int .i64 (i:Nat)]) _;rw[e2];exact gw hrel (.int _ _)
 obtain⟨v,es',clock',hrun,hok',hrel⟩:=key;obtain⟨q1,q2,q3⟩:=map_set hE hh hb hs hw hok';refine⟨.value v,v,_,E,_,_,nx,?_,.inl rfl,q1,q2,q3,hf,hrel.ext q1,h⟩;refine dt ?_;show(Instr.mapEntry t (a.eval m) (a.eval k)).run P w=_;rw[hvm];exact hrun
theorem lq{P:Program}{t:TypeId}{m s x:Operand}{T:Tm}{H:Hp}{nx b i:Nat}{K:AV→Hp→Nat→Prop}{ks vs:List AV}
    (hm:ev T m=.mp b) (hb:H b=some [.omap ks vs]) (hi:ev T s=.int .i64 (i:Int)) (hlt:i<ks.length)
    (h:K (.tup []) (am H b [.omap ks (vs.set i (ev T x))]) nx):ce P (.entryStore t m s x) T H nx K:=by
 refine bc (by intro c;simp) ?_;rintro E w a ⟨dst,op,type,pos,after,guard⟩ ho hE hh hf htm;simp only at ho;subst ho;have hmr:=htm m (by simp[Op.operands,Call.operands]);have hsr:=htm s (by simp[Op.operands,Call.operands]);have hxr:=htm x (by simp[Op.operands,Call.operands]);rw[hm] at hmr;rw[hi] at hsr;generalize hvm:a.eval m=vm at hmr;generalize hvs:a.eval s=vs1 at hsr;cases hsr;cases hmr with
 |mp _ kb hs=>
 obtain⟨es,clock,hw,hok⟩:=jf hh hb hs;have hle:i<es.size:=by have:=hok.len;omega
 have hfi:es.findIdx? (fun e=>(e.born:Int)==(i:Int))=some i:=by
  rw[Array.findIdx?_eq_some_iff_getElem];refine⟨hle,?_,fun j hj=>?_⟩
  ·have:=hok.born i es[i] (by simp[hle]);simp[this]
  ·have:=hok.born j es[j] (by simp[show j<es.size by omega]);simp[this];omega
 have key:∃es' clock',(Instr.entryStore t (.map (some kb)) (.int .i64 (i:Int)) (a.eval x)).run P w=.ok () (w.putObj kb (.map es' clock'))∧MapOk E w ks (vs.set i (ev T x)) es' clock':=by
  unfold Instr.entryStore;simp only[bj,bg,bz hw rfl,asInt,asIntOf,cS,hfi,cQ hw rfl]
  have hmod:∀j e,(es.modify i fun e=>{e with val:=a.eval x})[j]?=some e→∃e0,es[j]?=some e0∧((i=j∧e={e0 with val:=a.eval x})∨(i≠j∧e=e0)):=by
   intro j e he;rw[Array.getElem?_modify] at he;split at he
   ·rename_i hij;cases h0:es[j]? with
    |none=>rw[h0] at he;cases he
    |some e0=>rw[h0] at he;cases he;exact⟨e0,rfl,.inl ⟨hij,rfl⟩⟩
   ·rename_i hij;exact⟨e,he,.inr ⟨hij,rfl⟩⟩
  refine⟨_,_,rfl,⟨by simp[hok.len],by simp[hok.len'],fun j z e h1 h2=>?_,fun j z e h1 h2=>?_,fun j e h1=>?_,by simp[hok.clk]⟩⟩
  ·obtain⟨e0,k1,(⟨rfl,rfl⟩|⟨hne,rfl⟩)⟩:=hmod j e h2
   ·exact hok.key i z e0 h1 k1
   ·exact hok.key j z e h1 k1
  ·obtain⟨e0,k1,(⟨rfl,rfl⟩|⟨hne,rfl⟩)⟩:=hmod j e h2
   ·have:i<vs.length:=by have:=hok.len';omega
    rw[List.getElem?_set_self this] at h1;cases h1;exact hxr
   ·rw[List.getElem?_set_ne hne] at h1;exact hok.val j z e h1 k1
  ·obtain⟨e0,k1,(⟨rfl,rfl⟩|⟨hne,rfl⟩)⟩:=hmod j e h1
   ·exact hok.born i e0 k1
   ·exact hok.born j e k1
 obtain⟨es',clock',hrun,hok'⟩:=key;obtain⟨q1,q2,q3⟩:=map_set hE hh hb hs hw hok';refine⟨.skip,Go.undef,_,E,.tup [],_,nx,?_,.inr ⟨rfl,rfl⟩,q1,q2,q3,hf,eA _ _,h⟩;refine lw ?_;show(Instr.entryStore t (a.eval m) (a.eval s) (a.eval x)).run P w=_;rw[hvm,hvs];exact hrun
theorem tZ{P:Program}{t:TypeId}{m:Operand}{T:Tm}{H:Hp}{nx b:Nat}{K:AV→Hp→Nat→Prop}{p:TypeId×TypeId}{ks vs:List AV}(ht:fC P t=some p)(hm:ev T m=.mp b)(hb:H b=some [.omap ks vs])
    (h:K (.int .i64 ks.length) H nx):ce P (.call {callee:=.builtin .len,args:=#[m],argTypes:=#[t]}) T H nx K:=by
 refine bc (by intro c;simp) ?_;rintro E w a ⟨dst,op,type,pos,after,guard⟩ ho hE hh hf htm;simp only at ho;subst ho;have hmr:=htm m (by simp[Op.operands,Call.operands]);rw[hm] at hmr;generalize hvm:a.eval m=vm at hmr;cases hmr with
 |mp _ kb hs=>
 obtain⟨es,clock,hw,hok⟩:=jf hh hb hs;have hu:=eg (P:=P) (t:=t) (k:=p.1) (e:=p.2) ht
 have hrun:(Builtin.len_ #[t] type #[.map (some kb)]).run P w=.ok (goInt es.size) w:=by
  unfold Builtin.len_;simp[bE hu,bz hw rfl]
 refine⟨.value (goInt es.size),goInt es.size,w,E,_,H,nx,?_,.inl rfl,Ext.refl _ _,hE,hh,hf,?_,h⟩
 ·simp only[execOp,resolve,invoke,builtin,bj,cS,bg];simp[hvm,hrun]
 ·rw[hok.len];exact .int _ _
theorem qx{P:Program}{t:TypeId}{m:Operand}{T:Tm}{H:Hp}{nx b:Nat}{K:AV→Hp→Nat→Prop}{p:TypeId×TypeId}{ks vs:List AV}(ht:fC P t=some p)(hm:ev T m=.mp b)(hb:H b=some [.omap ks vs])
    (h:K (.itr nx) (am H nx [.oiter b ks.length []]) (nx+1)):ce P (.range t m) T H nx K:=by
 refine bc (by intro c;simp) ?_;rintro E w a ⟨dst,op,type,pos,after,guard⟩ ho hE hh hf htm;simp only at ho;subst ho;have hmr:=htm m (by simp[Op.operands,Call.operands]);rw[hm] at hmr;generalize hvm:a.eval m=vm at hmr;cases hmr with
 |mp _ kb hs=>
 obtain⟨es,clock,hw,hok⟩:=jf hh hb hs;have hu:=eg (P:=P) (t:=t) (k:=p.1) (e:=p.2) ht;obtain⟨E',hE',he,hEo,hh',hs',hnew⟩:=oh hE hh (hf nx (aM _)) (.mapIter (some kb) clock #[] clock) rfl (by intro ds;simp);have hcl:clock=ks.length:=by rw[hok.clk,hok.len]
 refine ⟨.value (.pointer (some ⟨w.heap.size,0,none⟩)),.pointer (some ⟨w.heap.size,0,none⟩),w.alloc (.mapIter (some kb) clock #[] clock),E',.itr nx,_,nx + 1,?_,.inl rfl,he,hEo,
  hh'.addSp (x:=.oiter b ks.length []) (ms _) (hEo.spm nx _ hs') hs' ⟨kb,clock,by rw[hnew,hcl],he.sp _ _ hs,fun h=>absurd rfl h,hcl⟩,hf.sp hE',.itr _ _ hs',h⟩
 refine dt ?_;show(Instr.range t (a.eval m)).run P w=_;rw[hvm];unfold Instr.range;simp only[bj,bE hu,bg,bz hw rfl,cS,run_newObj_alloc]
theorem uP{E:Env}{H:Hp}{nx:Nat}{w:World}(hh:HeapOk E H nx w){b k m n0:Nat}{seen:List Nat}(hb:H b=some [.oiter m n0 seen])(hs:E.sp b=some k):
    ∃km last,w.heap[k]?=some (.mapIter (some km) n0 seen.toArray last)∧E.sp m=some km∧(seen≠[]→0<last)∧last=n0:=by
 obtain⟨k',h1,h2⟩:=hh.spec b _ hb rfl;rw[hs] at h1;cases h1;exact h2
theorem nR{es:Array MapEntry}{p:MapEntry→Bool}{e:MapEntry}(h:e∈es.filter p):(∃i:Nat,es[i]?=some e)∧p e=true:=by
 rw[Array.mem_filter] at h;obtain⟨i,hi,rfl⟩:=Array.mem_iff_getElem.1 h.1;exact⟨⟨i,by simp[hi]⟩,h.2⟩
theorem mz{P:Program}{w:World}{n:Nat}(hn:0<n):∃c w1,(choose (.mapNext n)).run P w=.ok c w1∧c<n∧(w1=w∨w1=w.drew):=by
 rw[run_choose_drew];by_cases h:(Question.mapNext n).forced=true
 ·rw[if_pos h];exact⟨0,w,rfl,hn,.inl rfl⟩
 ·rw[if_neg h];exact⟨_,w.drew,rfl,Nat.mod_lt _ hn,.inr rfl⟩
def dx(es:Array MapEntry)(seen:List Nat)(n0:Nat):Array MapEntry:=(es.filter fun e=>!seen.toArray.contains e.born).filter (·.born<n0)
def mI(es:Array MapEntry)(seen:List Nat)(n0:Nat):Array MapEntry:=(es.filter fun e=>!seen.toArray.contains e.born).filter (·.born≥n0)
theorem ss{P:Program}{w:World}{k km n0 last clock:Nat}{seen:List Nat}{es:Array MapEntry}{ty:TypeId}(hw:w.heap[k]?=some (.mapIter (some km) n0 seen.toArray last))(hwm:w.heap[km]?=some (.map es clock))
    (hg:(!seen.toArray.isEmpty&& !es.isEmpty&&es.all (·.born≥last))=false):
    ∃w1,(w1=w∨w1=w.drew)∧
     ((dx es seen n0).isEmpty=true∧(Instr.next (.pointer (some ⟨k,0,none⟩)) false ty).run P w=.ok (.tuple #[.bool false]) w1 ∨
      ∃(e:MapEntry)(i:Nat),es[i]?=some e∧seen.toArray.contains e.born=false∧(Instr.next (.pointer (some ⟨k,0,none⟩)) false ty).run P w=.ok (.tuple #[.bool true,e.key,e.val]) (w1.putObj k (.mapIter (some km) n0 (seen.toArray.push e.born) clock))):=by
 let cand:Array (Option MapEntry):=(if (dx es seen n0).isEmpty then #[none] else #[])++(dx es seen n0++mI es seen n0).map some
 have hpos:0<cand.size:=by
  show 0<((if (dx es seen n0).isEmpty then #[none] else #[])++(dx es seen n0++mI es seen n0).map some).size;split
  ·simp;omega
  ·rename_i hne;have:(dx es seen n0).size≠0:=by intro h;exact hne (by simp[Array.isEmpty,h])
   simp;omega
 obtain⟨c,w1,hc,hlt,hw1⟩:=mz (P:=P) (w:=w) hpos;refine⟨w1,hw1,?_⟩;have hh1:w1.heap=w.heap:=by rcases hw1 with rfl|rfl<;>rfl
 have hget:cand[c]?=some cand[c]:=by simp[hlt]
 have hrun:(Instr.next (.pointer (some ⟨k,0,none⟩)) false ty).run P w=(match cand[c] with
     |some e=>(do setObj k (.mapIter (some km) n0 (seen.toArray.push e.born) clock);pure (.tuple #[.bool true,e.key,e.val]):Sem Value).run P w1
     |none=>.ok (.tuple #[.bool false]) w1):=by
  unfold Instr.next;simp only[bj,bz hw rfl,bz hwm rfl,bg,hg,cI,if_false];have hc':(choose (.mapNext ((if (Array.filter (fun(x:MapEntry)=>decide (x.born<n0)) (Array.filter (fun(e:MapEntry)=>!seen.toArray.contains e.born) es)).isEmpty then #[none] else #[])++Array.map some (Array.filter (fun(x:MapEntry)=>decide (x.born<n0)) (Array.filter (fun(e:MapEntry)=>!seen.toArray.contains e.born) es)++Array.filter (fun(x:MapEntry)=>decide (x.born≥n0)) (Array.filter (fun(e:MapEntry)=>!seen.toArray.contains e.born) es))).size)).run P w=.ok c w1:=hc;simp only[hc',bg];have hget':((if (Array.filter (fun(x:MapEntry)=>decide (x.born<n0)) (Array.filter (fun(e:MapEntry)=>!seen.toArray.contains e.born) es)).isEmpty then #[none] else #[])++Array.map some (Array.filter (fun(x:MapEntry)=>decide (x.born<n0)) (Array.filter (fun(e:MapEntry)=>!seen.toArray.contains e.born) es)++Array.filter (fun(x:MapEntry)=>decide (x.born≥n0)) (Array.filter (fun(e:MapEntry)=>!seen.toArray.contains e.born) es)))[c]?=some cand[c]:=hget;rw[hget'];cases cand[c] with
  |none=>rfl
  |some e=>simp only[bj]
 have hmem:cand[c]∈cand:=Array.getElem_mem hlt;have hmem':cand[c]∈(if (dx es seen n0).isEmpty then #[none] else #[])++(dx es seen n0++mI es seen n0).map some:=hmem;generalize cand[c]=x at hrun hmem';rw[o7] at hmem';cases x with
 |none=>
  left;refine⟨?_,hrun⟩;rcases hmem' with h|h
  ·split at h
   ·assumption
   ·simp at h
  ·simp at h
 |some e=>
  right
  have he:e∈dx es seen n0∨e∈mI es seen n0:=by
   rcases hmem' with h|h
   ·split at h<;>simp at h
   ·simpa using h
  have hleft:e∈es.filter fun e=>!seen.toArray.contains e.born:=by
   rcases he with h|h
   ·exact(Array.mem_filter.1 h).1
   ·exact(Array.mem_filter.1 h).1
  obtain⟨⟨i,hi⟩,hs⟩:=nR hleft;refine⟨e,i,hi,by simpa using hs,?_⟩;rw[hrun];have hw':w1.heap[k]?=some (.mapIter (some km) n0 seen.toArray last):=by rw[hh1];exact hw
  simp only[bj,cQ hw' rfl,bg];rfl
theorem sW{P:Program}{it:Operand}{T:Tm}{H:Hp}{nx b m n0:Nat}{K:AV→Hp→Nat→Prop}{ks vs:List AV}{seen:List Nat}(hi:ev T it=.itr b)(hb:H b=some [.oiter m n0 seen])(hm:H m=some [.omap ks vs])(hkn:ks.length=n0)
    (h1:∀i,i<ks.length→i∉seen→K (.tup [.bool true,ks.getD i .undef,vs.getD i .undef]) (am H b [.oiter m n0 (seen++[i])]) nx)
    (h2:(∀i,i<n0→i<ks.length→i∈seen)→K (.tup [.bool false]) H nx):ce P (.next it false) T H nx K:=by
 refine bc (by intro c;simp) ?_;rintro E w a ⟨dst,op,type,pos,after,guard⟩ ho hE hh hf htm;simp only at ho;subst ho;have hir:=htm it (by simp[Op.operands,Call.operands]);rw[hi] at hir;generalize hvi:a.eval it=vi at hir;cases hir with
 |itr _ k hs=>
 obtain⟨km,last,hw,hsm,hlast,hln⟩:=uP hh hb hs;obtain⟨es,clock,hwm,hok⟩:=jf hh hm hsm;have hl:=hok.len;have hl':=hok.len'
 have hguard:(!seen.toArray.isEmpty&& !es.isEmpty&&es.all (·.born≥last))=false:=by
  by_cases hse:seen=[]
  ·subst hse;rfl
  ·have hpos:=hlast hse;by_cases hz:es.size=0
   ·have:es=#[]:=vD hz;subst this;simp
   ·have h0:=hok.born 0 es[0] (by simp)
    have:es.all (·.born≥last)=false:=by
     rw[Array.all_eq_false];exact⟨0,by omega,by simp;omega⟩
    rw[this];simp
 obtain⟨w1,hw1,hrun⟩:=ss (P:=P) (ty:=type) hw hwm hguard
 have hE1:Ext E w E w1∧EnvOk E w1∧HeapOk E H nx w1∧w1.heap=w.heap:=by
  rcases hw1 with rfl|rfl
  ·exact⟨Ext.refl _ _,hE,hh,rfl⟩
  ·exact⟨Ext.same rfl,hE.drew,hh.same rfl,rfl⟩
 obtain⟨k1,k2,k3,k4⟩:=hE1
 have hexec:∀v w',(Instr.next (.pointer (some ⟨k,0,none⟩)) false type).run P w=.ok v w'→(execOp a.eval ⟨dst,.next it false,type,pos,after,guard⟩).run P w=.ok (.value v) w':=by
  intro v w' h;refine dt ?_;show(Instr.next (a.eval it) false type).run P w=_;rw[hvi];exact h
 rcases hrun with⟨hold,hrun⟩|⟨e,i,hei,hns,hrun⟩
 ·refine⟨.value (.tuple #[.bool false]),.tuple #[.bool false],w1,E,.tup [.bool false],H,nx,hexec _ _ hrun,.inl rfl,k1,k2,k3,hf,rz (.bool _),h2 (fun i h0 hi=>?_)⟩;have hlt:i<es.size:=by omega
  rcases Decidable.em (i∈seen) with h|h
  ·exact h
  ·exfalso;have hb0:=hok.born i es[i] (by simp[hlt])
   have hmem:es[i]∈dx es seen n0:=by
    unfold dx;rw[Array.mem_filter];refine⟨Array.mem_filter.2 ⟨Array.getElem_mem hlt,?_⟩,by rw[hb0];simpa using h0⟩;rw[hb0];simpa using h
   have:(dx es seen n0).size=0:=by simpa[Array.isEmpty] using hold
   rw[vD this] at hmem;simp at hmem
 ·have hlt:i<es.size:=(fA.1 hei).1;have hb0:=hok.born i e hei
  have hni:i∉seen:=by
   rw[hb0] at hns;simpa using hns
  have hw1k:w1.heap[k]?=some (.mapIter (some km) n0 seen.toArray last):=by rw[k4];exact hw
  have hlp:∀r T,E.lp b=some (r,T)→False:=by
   intro r T h;obtain⟨k',st,p,h1,h2,_⟩:=hE.lp b r T h;rw[hs] at h1;cases h1;rw[hw] at h2;cases h2
  obtain⟨q1,q2,q3⟩:=kS k2 (k3.del b) hs hw1k (o':=.mapIter (some km) n0 (seen.toArray.push e.born) clock) rfl rfl (by intro ds;simp) (by intro ds;simp) (fun r T h=>(hlp r T h).elim) (fun x hx=>by rw[eZ] at hx;cases hx)
  have hH:am (dv H b) b [.oiter m n0 (seen++[i])]=am H b [.oiter m n0 (seen++[i])]:=by
   funext y;unfold am dv;split<;>rfl
  have q4:=q3.addSp (x:=.oiter m n0 (seen ++ [i])) (hh.dom _ _ hb) (q2.spm b k hs) hs ⟨km,clock,by
   rw[vH (fA.1 hw1k).1,hb0];simp,hsm,fun _=>by rw[hok.clk];omega,by rw[hok.clk,hl,hkn]⟩
  rw[hH] at q4;have hkr:=hok.key i (ks.getD i .undef) e (by simp[List.getD,show i<ks.length by omega]) hei;have hvr:=hok.val i (vs.getD i .undef) e (by simp[List.getD,show i<vs.length by omega]) hei
  exact ⟨.value (.tuple #[.bool true,e.key,e.val]),.tuple #[.bool true,e.key,e.val],_,E,.tup [.bool true,ks.getD i .undef,vs.getD i .undef],_,nx,hexec _ _ hrun,.inl rfl,k1.trans q1,q2,q4,hf,
   sO (.bool _) (hkr.ext (k1.trans q1)) (hvr.ext (k1.trans q1)),h1 i (by omega) hni⟩
theorem pr{E:Env}{w:World}{x y:AV}{u v:Value}(h1:Rel E w x u)(h2:Rel E w y v):Rel E w (.tup [x,y]) (.tuple #[u,v]):=by
 refine Rel.tup [x,y] [u,v] rfl (fun i a b ha hb=>?_)
 match i with
 |0=>cases ha;cases hb;exact h1
 |1=>cases ha;cases hb;exact h2
 |i+2=>cases ha
theorem qq{P:Program}{it:Operand}{T:Tm}{H:Hp}{nx b m n0 i:Nat}{K:AV→Hp→Nat→Prop}{ks vs:List AV}{seen:List Nat}(hi:ev T it=.itr b)(hb:H b=some [.oiter m n0 seen])(hm:H m=some [.omap ks vs])
    (hkn:ks.length=n0) (hl:seen.getLast?=some i) (hlt:i<ks.length) (h:K (.tup [ks.getD i .undef,vs.getD i .undef]) H nx):ce P (.entry it) T H nx K:=by
 refine bc (by intro c;simp) ?_;rintro E w a ⟨dst,op,type,pos,after,guard⟩ ho hE hh hf htm;simp only at ho;subst ho;have hir:=htm it (by simp[Op.operands,Call.operands]);rw[hi] at hir;generalize hvi:a.eval it=vi at hir;cases hir with
 |itr _ k hs=>
 obtain⟨km,last,hw,hsm,hlast,hln⟩:=uP hh hb hs;obtain⟨es,clock,hwm,hok⟩:=jf hh hm hsm;have hlen:=hok.len;have hlen':=hok.len';have hie:i<es.size:=by omega
 have hei:es[i]?=some es[i]:=by simp[hie]
 have hborn:=hok.born i es[i] hei;have hback:seen.toArray.back?=some i:=by rw[List.back?_toArray,hl]
 have hfind:es.find? (·.born==i)=some es[i]:=by
  cases hf:es.find? (·.born==i) with
  |none=>
   have:=Array.find?_eq_none.1 hf es[i] (Array.getElem_mem hie);rw[hborn] at this;simp at this
  |some e=>
   have h1:=Array.find?_some hf;have h2:=Array.mem_of_find?_eq_some hf;obtain⟨j,hj,rfl⟩:=Array.mem_iff_getElem.1 h2;have h3:=hok.born j es[j] (by simp[hj]);simp only[h3,beq_iff_eq] at h1;subst h1;rfl
 have hclk:(clock !=last)=false:=by
  have:clock=last:=by rw[hok.clk,hlen,hkn,hln]
  simp[this]
 have hkr:=hok.key i (ks.getD i .undef) es[i] (by simp[List.getD,hlt]) hei;have hvr:=hok.val i (vs.getD i .undef) es[i] (by simp[List.getD,show i<vs.length by omega]) hei;refine⟨.value (.tuple #[es[i].key,es[i].val]),.tuple #[es[i].key,es[i].val],w,E,.tup [ks.getD i .undef,vs.getD i .undef],H,nx,?_,.inl rfl,Ext.refl _ _,hE,hh,hf,pr hkr hvr,h⟩;refine dt ?_;show(Instr.entry (a.eval it)).run P w=_;rw[hvi];unfold Instr.entry;simp only[bj,bz hw rfl,bz hwm rfl,bg,hback,hclk,hfind,cI,if_false,cS]
def zR(n:Nat):AV→AV
 |.sl sz l=>.sl sz (l.take n)
 |.msl b m sz off _=>.msl b m sz off n
 |x=>x
def jG:AV→Option Nat
 |.sl _ l=>some l.length
 |.msl _ _ _ _ len=>some len
 |.esl=>some 0
 |_=>none
theorem rh{P:Program}{E:Env}{H:Hp}{nx:Nat}{w:World}(hh:HeapOk E H nx w){x:AV}{v:Value}(hx:Rel E w x v){n k sz j:Nat}{new:List AV}(hk:jG x=some k)(hn:n≤k)(hn0:0<n)(h:ee sz H (zR n x)=some (j,new)):
    (Builtin.lenOf v).run P w=.ok k w∧new.length=n*sz∧∃vals:List Value,(Builtin.firstCells sz n v).run P w=.ok vals.toArray w∧vals.length=new.length∧∀(i:Nat)(a:AV)(y:Value),new[i]?=some a→vals[i]?=some y→Rel E w a y:=by
 cases hx with
 |sl szz elems blk o cap vals him hlen hsz hcell hr=>
  cases hk;have htl:(elems.take n).length=n:=by simp;omega
  have hx':Rel E w (.sl szz (elems.take n)) (.slice (some ⟨blk,o,none⟩) (elems.take n).length cap):=
   Rel.sl szz (elems.take n) blk o cap vals him (by omega) (fun y hy=>hsz y (wS hy)) (fun i hi=>hcell i (vR hi (iz _ (by omega)))) (fun i j y c hy hc=>by
    rw[fT] at hy;split at hy
    ·exact hr i j y c hy hc
    ·cases hy)
  obtain⟨h1,h2,vs,h3,h4,h5⟩:=ia (P:=P) hh hx' h
  have hj:j=n:=by
   have:=h1;simp only[Builtin.lenOf,cS] at this;injection this with e;omega
  subst hj;exact⟨rfl,h2,vs,h3,h4,h5⟩
 |msl b m szz off len blk bsz cap hm hl hc hnn=>
  cases hk;have hx':Rel E w (.msl b m szz off n) (.slice (some ⟨blk,off,none⟩) n cap):=.msl _ _ _ _ _ _ _ _ hm (by omega) hc hnn;obtain⟨h1,h2,vs,h3,h4,h5⟩:=ia (P:=P) hh hx' h
  have hj:j=n:=by
   have:=h1;simp only[Builtin.lenOf,cS] at this;injection this with e;exact e.symm
  subst hj;exact⟨rfl,h2,vs,h3,h4,h5⟩
 |slnil=>cases hk;simp at hn;omega
 |slempty=>cases hk;simp at hn;omega
 |msl0=>cases hk;omega
 |eslnil=>cases hk;omega
 |esl=>cases hk;omega
 |_=>cases hk
theorem l7{P:Program}{E:Env}{w:World}{x:AV}{v:Value}(hx:Rel E w x v){k:Nat}(hk:jG x=some k):(Builtin.lenOf v).run P w=.ok k w∧∃a c,v=.slice a k c:=by
 cases hx with
 |sl=>cases hk;exact⟨rfl,_,_,rfl⟩
 |msl=>cases hk;exact⟨rfl,_,_,rfl⟩
 |slnil=>cases hk;exact⟨rfl,_,_,rfl⟩
 |slempty=>cases hk;exact⟨rfl,_,_,rfl⟩
 |msl0 _ _ _ h=>cases hk;rcases h with rfl|⟨_,rfl⟩<;>exact⟨rfl,_,_,rfl⟩
 |eslnil=>cases hk;exact⟨rfl,_,_,rfl⟩
 |esl=>cases hk;exact⟨rfl,_,_,rfl⟩
 |_=>cases hk
theorem mo{P:Program}{w:World}{sz k c:Nat}{a:Option Addr}:(Builtin.firstCells sz 0 (.slice a k c)).run P w=.ok #[] w:=by
 cases a<;>simp[Builtin.firstCells,loadCells,loadCellsFrom]
def xp(sz:Nat)(d s:AV)(H:Hp):Option (Nat×Hp):=
 match jG d,jG s with
 |some ld,some ls=>
  if min ls ld=0 then some (0,H) else
  match d with
  |.msl b n sz' off _=>match H b,ee sz H (zR (min ls ld) s) with
   |some cs,some (_,new)=>if cs.length=n∧sz'=sz∧off+min ls ld*sz≤n∧new.all AV.one=true then some (min ls ld,am H b (bv cs off new)) else none
   |_,_=>none
  |_=>none
 |_,_=>none
theorem tC{P:Program}{tD tS e:TypeId}{d s:Operand}{T:Tm}{H:Hp}{nx:Nat}{K:AV→Hp→Nat→Prop}{n:Nat}{H':Hp}(ht:eO P tD=some e)(hte:tok P e=true)
    (h:xp (P.cellsOf e) (ev T d) (ev T s) H=some (n,H')) (hk:K (.int .i64 n) H' nx):ce P (.call {callee:=.builtin .copy,args:=#[d,s],argTypes:=#[tD,tS]}) T H nx K:=by
 refine bc (by intro c;simp) ?_;rintro E w a ⟨dst,op,type,pos,after,guard⟩ ho hE hh hf htm;simp only at ho;subst ho;have hdr:=htm d (by simp[Op.operands,Call.operands]);have hsr:=htm s (by simp[Op.operands,Call.operands]);have hu:=fk ht
 have hexec:∀v w',(Builtin.copy_ #[tD,tS] type #[a.eval d,a.eval s]).run P w=.ok v w'→(execOp a.eval ⟨dst,.call {callee:=.builtin .copy,args:=#[d,s],argTypes:=#[tD,tS]},type,pos,after,guard⟩).run P w=.ok (.value v) w':=by
  intro v w' h;simp only[execOp,resolve,invoke,builtin,bj,cS,bg];simp[h]
 unfold xp at h;split at h
 case h_2=>cases h
 rename_i ld ls hld hls;obtain⟨_,ad,cd,hvd⟩:=l7 (P:=P) hdr hld;obtain⟨hls',as,cs',hvs⟩:=l7 (P:=P) hsr hls;split at h
 case isTrue h0=>
  cases h
  have hrun:(Builtin.copy_ #[tD,tS] type #[a.eval d,a.eval s]).run P w=.ok (goInt 0) w:=by
   have h0':Nat.min ls ld=0:=h0;unfold Builtin.copy_;simp only[kO,mA,ua,bj,bE hu,bg,hvd];simp only[hls',bg,h0',aK hte];rw[hvs];simp only[mo,bg];cases ad<;>simp[storeCells]
  exact⟨.value (goInt 0),goInt 0,w,E,_,H,nx,hexec _ _ hrun,.inl rfl,Ext.refl _ _,hE,hh,hf,.int _ _,hk⟩
 case isFalse h0=>
  split at h
  case h_2=>cases h
  rename_i b n' sz' off len hd;split at h
  case h_2=>cases h
  rename_i cs j new hb hsrc;split at h
  case isFalse=>cases h
  case isTrue hc=>
  obtain⟨rfl,rfl,hfit,hone⟩:=hc;cases h;have hlen:len=ld:=by rw[hd] at hld;cases hld;rfl
  subst hlen;obtain⟨_,hnl,vals,h3,h4,h5⟩:=rh (P:=P) hh hsr hls (Nat.min_le_left _ _) (by omega) hsrc
  have hones:∀y∈vals,y.oneCell'=true:=by
   intro y hy;obtain⟨i,hi⟩:=rO hy;have hlt:i<new.length:=by have:=(bC.1 hi).1;omega
   exact(h5 i new[i] y (by simp[hlt]) hi).one (cT.1 hone _ (jx hlt))
  rw[hd] at hdr;generalize hnn:cs.length=nn at hdr;generalize hvd':a.eval d=vd at hdr;cases hdr with
  |msl0=>omega
  |msl _ _ _ _ _ blk bsz cap hm hl hcp hcn=>
  subst hnn;obtain⟨w',E',g1,g2,g3,g4,g5,g6,g7⟩:=gk (P:=P) hE hh (off:=off) hb hm (new:=new) (nv:=vals) (by rw[hnl];exact hfit) h4 h5 hones
  have hrun:(Builtin.copy_ #[tD,tS] type #[a.eval d,a.eval s]).run P w=.ok (goInt ((min ls len:Nat):Int)) w':=by
   have e:Nat.min ls len=min ls len:=rfl;unfold Builtin.copy_;simp only[kO,mA,ua,bj,bE hu,bg,hvd',hls',e,aK hte,h3,g1,cS]
  exact⟨.value (goInt ((min ls len:Nat):Int)),goInt ((min ls len:Nat):Int),w',E',.int .i64 ((min ls len:Nat):Int),_,nx,hexec _ _ hrun,.inl rfl,g2,g3,g4,hf.of (aM _) (fun b' n hb'=>g5 b' n (by have:=hh.dom _ _ hb;omega)) g6 g7,.int _ _,hk⟩
def lN(sz:Nat)(z x:AV)(H:Hp):Option Hp:=match x with
 |.msl b n sz' off len=>if len=0 then some H else match H b with
  |some cs=>if cs.length=n∧sz'=sz∧z.flat=true∧z.cells.length=sz∧off+len*sz≤n then some (am H b (bv cs off (bn z len))) else none
  |none=>none
 |_=>none
theorem sq{P:Program}{tX e:TypeId}{x:Operand}{T:Tm}{H:Hp}{nx:Nat}{K:AV→Hp→Nat→Prop}{z:AV}{H':Hp}(ht:eO P tX=some e)(hz:dS P e=some z)
    (h:lN (P.cellsOf e) z (ev T x) H=some H') (hpos:0<P.cellsOf e) (hk:K (.tup []) H' nx):ce P (.call {callee:=.builtin .clear,args:=#[x],argTypes:=#[tX]}) T H nx K:=by
 refine bc (by intro c;simp) ?_;rintro E w a ⟨dst,op,type,pos,after,guard⟩ ho hE hh hf htm;simp only at ho;subst ho;have hxr:=htm x (by simp[Op.operands,Call.operands]);have hu:=fk ht
 have hexec:∀v w',(Builtin.clear_ #[tX] type #[a.eval x]).run P w=.ok v w'→(execOp a.eval ⟨dst,.call {callee:=.builtin .clear,args:=#[x],argTypes:=#[tX]},type,pos,after,guard⟩).run P w=.ok (.value v) w':=by
  intro v w' h;simp only[execOp,resolve,invoke,builtin,bj,cS,bg];simp[h]
 unfold lN at h;split at h
 case h_2=>cases h
 rename_i b n sz' off len hx;rw[hx] at hxr;split at h
 case isTrue h0=>
  cases h;subst h0
  have hrun:(Builtin.clear_ #[tX] type #[a.eval x]).run P w=.ok (.tuple #[]) w:=by
   generalize a.eval x=vx at hxr;unfold Builtin.clear_;simp only[kO,mA,bj,bE hu,bg];cases hxr with
   |msl=>rfl
   |msl0 _ _ _ hv=>rcases hv with rfl|⟨_,rfl⟩<;>rfl
  exact⟨.value (.tuple #[]),.tuple #[],w,E,.tup [],H,nx,hexec _ _ hrun,.inl rfl,Ext.refl _ _,hE,hh,hf,eA _ _,hk⟩
 case isFalse h0=>
  split at h
  case h_2=>cases h
  rename_i cs hb;split at h
  case isFalse=>cases h
  case isTrue hc=>
  obtain⟨rfl,rfl,hfl,hzl,hfit⟩:=hc;cases h;generalize hnn:cs.length=nn at hxr;generalize hvx:a.eval x=vx at hxr;cases hxr with
  |msl0=>omega
  |msl _ _ _ _ _ blk bsz cap hm hl hcp hcn=>
  subst hnn;obtain⟨vz,hvz,hrz⟩:=c8 hz;obtain⟨k1,k2,k3⟩:=(hrz E w).cells hfl
  have hvs : vz.cells.size = P.cellsOf e := by have : vz.cells.toList.length = vz.cells.size := by simp
                                               omega
  have hzc:(bn z len).length=len*P.cellsOf e:=by simp[bn,hzl]
  have hzz:(Builtin.zeroCells vz.cells len).size=len*P.cellsOf e:=by simp[Builtin.zeroCells,hvs]
  have hget:∀j(y:Value),(Builtin.zeroCells vz.cells len)[j]?=some y→j<len*P.cellsOf e∧vz.cells[j%P.cellsOf e]?=some y:=by
   intro j y hy;have hj:j<len*P.cellsOf e:=by rw[←hzz];exact(fA.1 hy).1
   refine⟨hj,?_⟩;have hlt:j%P.cellsOf e<vz.cells.size:=by rw[hvs];exact Nat.mod_lt _ hpos
   unfold Builtin.zeroCells at hy;rw[hvs,Array.getElem?_map,Array.getElem?_range,if_pos hj] at hy;simp only[jd] at hy;rw[getElem!_pos vz.cells _ hlt] at hy;rw[←hy];simp[hlt]
  obtain ⟨w',E',g1,g2,g3,g4,g5,g6,g7⟩:=gk (P:=P) hE hh (off:=off) hb hm (new:=bn z len) (nv:=(Builtin.zeroCells vz.cells len).toList) (by rw [hzc]; exact hfit) (by simp [hzz,hzc]) (fun j p y hp hy=>by
   obtain⟨hj,hvj⟩:=hget j y (by simpa using hy);unfold bn at hp;rw[cb _ _ (by rw[hzl];exact hj),hzl] at hp;exact k2 _ _ _ hp (by simpa using hvj)) (fun y hy=>by
   obtain⟨j,hj⟩:=rO hy;obtain⟨_,hvj⟩:=hget j y (by simpa using hj);exact k3 y (by simpa using Array.mem_of_getElem? hvj))
  have hrun:(Builtin.clear_ #[tX] type #[a.eval x]).run P w=.ok (.tuple #[]) w':=by
   cases len with
   |zero=>exact absurd rfl h0
   |succ len=>
   unfold Builtin.clear_;simp only[kO,mA,bj,bE hu,bg,hvx,hvz,g1,cS]
  exact⟨.value (.tuple #[]),.tuple #[],w',E',.tup [],_,nx,hexec _ _ hrun,.inl rfl,g2,g3,g4,hf.of (aM _) (fun b' n hb'=>g5 b' n (by have:=hh.dom _ _ hb;omega)) g6 g7,eA _ _,hk⟩
theorem qH{P:Program}{t:TypeId}{m k x:Operand}{T:Tm}{H:Hp}{nx:Nat}{K:AV→Hp→Nat→Prop}(h:ce P (.mapUpdate t m k x) T H nx K):ce P (.insert t m k x) T H nx K:=by
 refine⟨by intro c;simp,?_⟩;rintro rr E w a ⟨dst,op,type,pos,after,guard⟩ next Q ho hE hh hf htm hn;simp only at ho;subst ho;have:=h.2 rr E w a ⟨dst,.mapUpdate t m k x,type,pos,after,guard⟩ next Q rfl hE hh hf htm hn;have e:execOp a.eval ⟨dst,.insert t m k x,type,pos,after,guard⟩=execOp a.eval ⟨dst,.mapUpdate t m k x,type,pos,after,guard⟩:=rfl;rw[e];exact this
theorem s0{E:Env}{w:World}{x:AV}{v:Value}(hx:Rel E w x v){k:Nat}(hk:jG x=some k):∃a c,v=.slice a k c∧(0<k→∃b,a=some b):=by
 cases hx with
 |sl=>cases hk;exact⟨_,_,rfl,fun _=>⟨_,rfl⟩⟩
 |msl=>cases hk;exact⟨_,_,rfl,fun _=>⟨_,rfl⟩⟩
 |slnil=>cases hk;exact⟨_,_,rfl,fun h=>by simp at h⟩
 |slempty=>cases hk;exact⟨_,_,rfl,fun h=>by simp at h⟩
 |msl0 _ _ _ h=>cases hk;rcases h with rfl|⟨_,rfl⟩<;>exact⟨_,_,rfl,fun h=>by omega⟩
 |eslnil=>cases hk;exact⟨_,_,rfl,fun h=>by omega⟩
 |esl=>cases hk;exact⟨_,_,rfl,fun h=>by omega⟩
 |_=>cases hk
def uG(neg:Bool)(k:Nat)(K:AV→Prop):Prop:=(0<k→K (.bool neg))∧(k=0→K (.bool true)∧K (.bool false))
theorem nb{P:Program}{t e ty:TypeId}{x:Operand}{neg:Bool}{T:Tm}{H:Hp}{nx:Nat}{K:AV→Hp→Nat→Prop}{k:Nat}(ht:eO P t=some e)(hk:jG (ev T x)=some k)
    (h:uG neg k fun r=>K r H nx):ce P (.binOp (if neg=true then .neq else .eql) t x (.const (.slice none 0 0)) ty) T H nx K:=by
 refine bc (by intro c;simp) ?_;rintro E w a ⟨dst,op,type,pos,after,guard⟩ ho hE hh hf htm;simp only at ho;subst ho;have hxr:=htm x (by simp[Op.operands,Call.operands]);obtain⟨ad,c,hv,hsome⟩:=s0 hxr hk;have hu:=fk ht
 have he0:∀d,(Op.equalIn (d+1) t (.slice ad k c) (.slice none 0 0)).run P w=.ok ad.isNone w:=by
  intro d;simp only[Op.equalIn,bj,bE hu,bg];cases ad<;>rfl
 have he:=he0 9999
 have hrun:∀op,op=(if neg=true then BinOp.neq else BinOp.eql)→(do eqGuard op t x (.const (.slice none 0 0)) (.slice ad k c) (.slice none 0 0);binOp op t (.slice ad k c) (.slice none 0 0):Sem Value).run P w=.ok (.bool (if neg=true then !ad.isNone else ad.isNone)) w:=by
  intro op hop;subst hop;rw[bj,eC (by simp) (by simp)];simp only[bg];cases neg with
  |true=>simp only[if_true,binOp,Op.equal,Op.maxDepth,bj,he,bg];rfl
  |false=>simp only[cI,if_false,binOp,Op.equal,Op.maxDepth,bj,he,bg];rfl
 have hexec:(execOp a.eval ⟨dst,.binOp (if neg=true then .neq else .eql) t x (.const (.slice none 0 0)) ty,type,pos,after,guard⟩).run P w=.ok (.value (.bool (if neg=true then !ad.isNone else ad.isNone))) w:=by
  refine dt ?_;show(do eqGuard _ t x (.const (.slice none 0 0)) (a.eval x) (.slice none 0 0);binOp _ t (a.eval x) (.slice none 0 0):Sem Value).run P w=_;rw[hv];exact hrun _ rfl
 refine⟨_,.bool (if neg=true then !ad.isNone else ad.isNone),w,E,.bool (if neg=true then !ad.isNone else ad.isNone),H,nx,hexec,.inl rfl,Ext.refl _ _,hE,hh,hf,.bool _,?_⟩;by_cases hk0:k=0
 ·obtain⟨h1,h2⟩:=h.2 hk0;cases neg<;>cases ad<;>first|exact h1|exact h2
 ·obtain⟨b,rfl⟩:=hsome (by omega);have:=h.1 (by omega);cases neg<;>exact this
theorem vL{P:Program}{t e:TypeId}{x:Operand}{T:Tm}{H:Hp}{nx:Nat}{K:AV→Hp→Nat→Prop}{n b n' off:Nat}{cs:List AV}(hu:P.underlying t=some (.array n e))(he:tok P e=true)(h0:0<n)(hx:ev T x=.ptr b n' off)(hb:H b=some cs)(hn:cs.length=n')(hf:off+n*P.cellsOf e=n')
    (hk:K (.msl b n' (P.cellsOf e) off n) H nx):ce P (.slice t x none none none) T H nx K:=by
 refine bc (by intro c;simp) ?_;rintro E w a ⟨dst,op,type,pos,after,guard⟩ ho hE hh hf' htm;simp only at ho;subst ho;have hxr:=htm x (by simp[Op.operands]);rw[hx] at hxr;generalize hvx:a.eval x=vx at hxr;cases hxr with
 |ptr _ _ _ blk sz hm=>
 have hle:n'≤sz:=by
  subst hn;rcases hh.box b cs hb with h|⟨blk',sz',hbx⟩
  ·rw[h] at hm;cases hm
  ·have:=hbx.mu;rw[hm] at this;cases this;obtain⟨vals,ty,fz,_,_,h1,h2,_⟩:=hbx.cells;exact h2
 have hb2:=bI (P:=P) (E:=E) (w:=w) (lo:=none) (hi:=none) (vlo:=none) (vhi:=none) (isS:=false) (len:=n) (cap:=n) (l:=0) (h:=n) (fun _ h=>by cases h) (fun _=>rfl) (fun _ h=>by cases h) (fun _=>rfl) rfl rfl (cu _) (aM _);have hsz:=aK (P:=P) he w
 have hrun:(Instr.sliceAt t (.pointer (some ⟨blk,off,none⟩)) none none none).run P w=.ok (.slice (some ⟨blk,off,none⟩) n n) w:=by
  have hne:n≠0:=by omega
  simp[Instr.sliceAt,bE hu,hb2,hsz,Instr.sureAddr,hne,bM]
 refine⟨.value (.slice (some ⟨blk,off,none⟩) n n),.slice (some ⟨blk,off,none⟩) n n,w,E,_,H,nx,?_,.inl rfl,Ext.refl _ _,hE,hh,hf',.msl _ _ _ _ _ blk sz n hm (aM _) (by omega) (by omega),hk⟩;refine dt ?_;show(Instr.sliceAt t (a.eval x) none none none).run P w=_;rw[hvx];exact hrun
end Go.Abs
namespace Go.Abs
open Go.RowKit
def lu(b:UInt8):AV:=.int .u8 (b.toNat:Int)
theorem wJ{P:Program}{s d e:TypeId}{x:Operand}{T:Tm}{H:Hp}{nx:Nat}{K:AV→Hp→Nat→Prop}{bs:ByteArray}(hs:P.underlying s=some .string)(hd:P.underlying d=some (.slice e))(he:P.underlying e=some (.int .u8))(hx:ev T x=.str bs)
    (h0:bs.size=0→K (.sl 1 []) H nx) (h1:bs.size≠0→K (.msl nx bs.size 1 0 bs.size) (am H nx (bs.data.toList.map lu)) (nx+1)):ce P (.convert s d x) T H nx K:=by
 refine bc (by intro c;simp) ?_;rintro E w a ⟨dst,op,type,pos,after,guard⟩ ho hE hh hf htm;simp only at ho;subst ho;have hxr:=htm x (by simp[Op.operands,Call.operands]);rw[hx] at hxr;generalize hv:a.eval x=vx at hxr;cases hxr;have hrun:=run_bytes_of_string (P:=P) w s d e bs hs hd he
 have hexec:(execOp a.eval ⟨dst,.convert s d x,type,pos,after,guard⟩).run P w=.ok (.value (.slice (some ⟨w.heap.size,0,none⟩) bs.size (grownCap w bs.size 0 e))) (w.drew.alloc (.cells (bytesRow bs (grownCap w bs.size 0 e)) e ((bytesRow bs (grownCap w bs.size 0 e)).size,(bytesRow bs (grownCap w bs.size 0 e)).size+1))):=by
  unfold execOp;simp only[hv,bj,hrun,bg,cS]
 have hge:=grownCap_ge w bs.size 0 e;generalize hcap:grownCap w bs.size 0 e=cap at *;have hdr:w.drew.heap=w.heap:=rfl;have hEd:=hE.drew;have hhd:=hh.same (w':=w.drew) hdr;have hext0:Ext E w E w.drew:=Ext.same hdr
 have hsz:(bytesRow bs cap).size=cap:=by
  have:bs.data.size=bs.size:=rfl;simp[bytesRow];omega
 by_cases hz:bs.size=0
 ·refine⟨_,_,_,E,.sl 1 [],H,nx,hexec,.inl rfl,hext0.trans (Ext.alloc E w.drew _ hEd),hEd.alloc hhd.size _,hhd.alloc hEd _,hf,?_,h0 hz⟩;rw[hz];exact .slempty _ _ _
 ·have hlen:(bs.data.toList.map lu).length=bs.size:=by simp
  obtain⟨E',q1,q2,q3,q4,q5,q6,q7,q8⟩:=hhd.placeZ hEd (b:=nx) (nx':=nx+1) (cs':=bs.data.toList.map lu) (ms _) (Nat.le_succ _) (fun m y hm=>by rw[(hf nx (aM _)).1] at hm;cases hm) (hf nx (aM _)).2.1
   (bytesRow bs cap) e ((bytesRow bs cap).size,(bytesRow bs cap).size + 1) (fun j hj h=>by simp only at h; omega) (by rw [hlen,hsz]; exact hge) (fun i y hi=>by
    rw[jW] at hi;cases hb:bs.data.toList[i]? with
    |none=>rw[hb] at hi;cases hi
    |some b=>
     rw[hb] at hi;cases hi
     have hi':i<bs.data.size:=by
      have:=(bC.1 hb).1;simpa using this
     refine⟨_,bytesRow_at bs cap i hi',rfl,?_⟩
     have:bs.data[i]=b:=by
      have:=(bC.1 hb).2;simpa using this
     rw[this];exact .int _ _)
  refine⟨_,_,_,E',.msl nx bs.size 1 0 bs.size,_,nx+1,hexec,.inl rfl,hext0.trans q1,q2,q3,hf.of (Nat.le_succ _) (fun b n hb=>q6 b n (by omega)) q7 q8,?_,h1 hz⟩;rw[hlen,hsz] at q4;exact .msl nx bs.size 1 0 bs.size w.heap.size cap cap q4 hge (by omega) (by omega)
theorem sS{E:Env}{H:Hp}{nx n:Nat}{w:World}(hh:HeapOk E H nx w){x:AV}{v:Value}(hr:Rel E w x v){bs:List UInt8}(h:ee 1 H x=some (n,bs.map lu)):
    (bs=[]∧∃c,v=.slice none 0 c)∨ ∃(a:Addr)(cap:Nat),v=.slice (some a) bs.length cap∧∀(j:Nat)(hj:j<bs.length),w.cell? (a.add j)=some (.int .u8 (bs[j].toNat:Int)):=by
 have hnil:∀{bs:List UInt8},[]=bs.map lu→bs=[]:=fun h=>by
  rw[eq_comm,List.map_eq_nil_iff] at h;exact h
 cases hr with
 |eslnil=>
  simp only[ee,iy,Prod.mk.injEq] at h;exact .inl ⟨hnil h.2,0,rfl⟩
 |esl a=>
  simp only[ee,iy,Prod.mk.injEq] at h;have:=hnil h.2;subst this;exact .inr ⟨_,_,rfl,fun j hj=>absurd hj (by simp)⟩
 |slnil sz=>
  simp only[ee,or_true,if_true,iy,Prod.mk.injEq,List.flatMap_nil] at h;exact .inl ⟨hnil h.2,0,rfl⟩
 |slempty sz a cap=>
  simp only[ee,or_true,if_true,iy,Prod.mk.injEq,List.flatMap_nil] at h;have:=hnil h.2;subst this;exact .inr ⟨_,_,rfl,fun j hj=>absurd hj (by simp)⟩
 |sl sz elems blk o cap vals hi hlen hsz hc hr'=>
  simp only[ee] at h;split at h
  case isFalse=>cases h
  case isTrue hsz1=>
  simp only[iy,Prod.mk.injEq] at h;obtain⟨rfl,h2⟩:=h;by_cases he:elems=[]
  ·subst he;have:=hnil h2;subst this;exact .inr ⟨_,_,rfl,fun j hj=>absurd hj (by simp)⟩
  have hs1:sz=1:=hsz1.resolve_right he;subst hs1;obtain⟨f1,f2⟩:=c9 elems hsz;have hll:elems.length=bs.length:=by rw[h2] at f1;simpa using f1.symm
  refine .inr ⟨⟨blk,o,none⟩,cap,by rw[hll],fun j hj=>?_⟩;rw[bM,hc j (by omega)];have hg:(elems.flatMap AV.cells)[j]?=some (lu bs[j]):=by rw[h2];simp[hj]
  obtain⟨i,k,y,e1,e2,e3,e4⟩:=f2 j _ hg;have hk:k=0:=by omega
  subst hk;have:=hr' i 0 y _ e3 e4;rw[←e1] at this;unfold lu at this;generalize vals j=u at this;cases this;rfl
 |msl b m sz off len blk bsz cap hm hl hcap hn=>
  simp only[ee] at h;split at h
  ·rename_i h0;subst h0;simp only[iy,Prod.mk.injEq] at h;have:=hnil h.2;subst this;exact .inr ⟨_,_,rfl,fun j hj=>absurd hj (by simp)⟩
  ·split at h
   ·rename_i cs hb;split at h
    case isFalse=>cases h
    case isTrue hc=>
    obtain⟨hc1,rfl,hc3⟩:=hc;simp only[iy,Prod.mk.injEq] at h;obtain⟨rfl,h2⟩:=h
    have hbl:bs.length=len:=by
     have:=congrArg List.length h2;simp at this;omega
    rcases hh.box b cs hb with hno|⟨blk',sz',hx⟩
    ·rw[hc1,hm] at hno;cases hno
    ·have:=hx.mu;rw[hc1,hm] at this;cases this;obtain⟨vals,ty,fz,k1,kz,k2,k3,k4⟩:=hx.cells;refine .inr ⟨⟨blk,off,none⟩,cap,by rw[hbl],fun j hj=>?_⟩
     have hg:cs[off+j]?=some (lu bs[j]):=by
      have e:((cs.drop off).take (len*1))[j]?=some (lu bs[j]):=by rw[h2];simp[hj]
      rw[fT] at e;split at e
      ·rw[jw] at e;exact e
      ·cases e
     obtain⟨v,e1,e2,e3⟩:=k4 _ _ hg;rw[bM];unfold lu at e3;cases e3;exact cell?_of_heap k1 e1
   ·cases h
 |msl0 b sz v hv=>
  simp only[ee,if_true,iy,Prod.mk.injEq] at h;have:=hnil h.2;subst this;rcases hv with rfl|⟨blk,o,rfl⟩
  ·exact .inl ⟨rfl,0,rfl⟩
  ·exact .inr ⟨_,_,rfl,fun j hj=>absurd hj (by simp)⟩
 |_=>simp[ee] at h
theorem wU{P:Program}{s d e:TypeId}{x:Operand}{T:Tm}{H:Hp}{nx n:Nat}{K:AV→Hp→Nat→Prop}{bs:List UInt8}(hs:P.underlying s=some (.slice e))(he:P.underlying e=some (.int .u8))(hd:P.underlying d=some .string)(hx:ee 1 H (ev T x)=some (n,bs.map lu))
    (hk:K (.str ⟨bs.toArray⟩) H nx):ce P (.convert s d x) T H nx K:=by
 refine bc (by intro c;simp) ?_;rintro E w a ⟨dst,op,type,pos,after,guard⟩ ho hE hh hf htm;simp only at ho;subst ho;have hxr:=htm x (by simp[Op.operands,Call.operands])
 have hrun:(convert s d (a.eval x)).run P w=.ok (.string ⟨bs.toArray⟩) w:=by
  rcases sS hh hxr hx with⟨rfl,c,hv⟩|⟨ad,cap,hv,hc⟩
  ·rw[hv,run_convert_bytes_nil (w:=w) s e hs he 0 c d hd];rfl
  ·rw[hv];exact run_convert_bytes_back w s d e ad cap bs hs he hd hc
 refine⟨.value (.string ⟨bs.toArray⟩),_,w,E,_,H,nx,?_,.inl rfl,Ext.refl _ _,hE,hh,hf,.str _,hk⟩;unfold execOp;simp only[bj,hrun,bg,cS]
theorem rj{P:Program}{f:Operand}{args:Array Operand}{ts:Array TypeId}{T:Tm}{H:Hp}{nx:Nat}{K:AV→Hp→Nat→Prop}{g:FuncId}{fs:List AV}(hf:ev T f=.bfn g fs)(h:Fn P g (fs++args.toList.map (ev T)) H nx K):
    ce P (.call {callee:=.value f,args:=args,argTypes:=ts}) T H nx K:=by
 refine⟨by intro c;simp,?_⟩;rintro rr E w a ⟨dst,op,type,pos,after,guard⟩ next Q ho hE hh hfr ht hn;simp only at ho;subst ho;have hr:=ht f (by simp[Op.operands,Call.operands]);rw[hf] at hr;generalize hv:a.eval f=vf at hr;cases hr with
 |bfn _ _ cv hl hcr=>
 have hargs:cJ E w (fs++args.toList.map (ev T)) (cv++args.toList.map a.eval):=by
  have ha:=sI (E:=E) (w:=w) (T:=T) (a:=a) args.toList (fun x hx=>ht x (by simp only[Op.operands,Call.operands];exact o7.2 (.inr (by simpa using hx))));refine⟨by simp[hl],fun j x y hx hy=>?_⟩;rw[List.getElem?_append] at hx hy;rw[hl] at hy;split at hx
  ·rename_i hlt;rw[if_pos hlt] at hy;exact hcr _ _ _ hx hy
  ·rename_i hlt;rw[if_neg hlt] at hy;exact ha.2 _ _ _ hx hy
 have hcalls:=h.2 E w _ hE hh hfr hargs
 have hrun:(execOp a.eval ⟨dst,.call {callee:=.value f,args:=args,argTypes:=ts},type,pos,after,guard⟩).run P w=.ok (.enter g (cv++args.toList.map a.eval).toArray) w:=by
  unfold execOp;simp only[resolve,hv,Deferred.ofValue,invoke,bj,cS,bg]
  have:cv.toArray++args.map a.eval++ #[]=(cv++args.toList.map a.eval).toArray:=by
   rw[fL];simp
  rw[this];exact gY h.1 _ w
 rw[hrun,Oper.uponIn_enter];refine⟨(fun h=>by cases h),?_⟩;refine(il hcalls).mono ?_;rintro e w' ⟨v,E',r,H',nx',rfl,he,hE',hH',hf',hrel,hk⟩;exact hn E' H' nx' r v w' he hE' hH' hf' hrel hk
end Go.Abs