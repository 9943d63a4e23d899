/- Contracts of functions and plain laws, for all inputs that the theorems name. -/
import Derived.CallsIn
import Derived.OrdersIn
import Derived.RangeFuncIn
import Derived.RangeFuncCalls
import Derived.Below
import Derived.Deep.Draws
import Derived.Laws.Cells
import Derived.Laws.World
import Derived.Laws.Sem
import Derived.WalkKit
import Derived.Laws.StructEq
import Derived.Laws.Pointers
import Derived.ChangeKeysEq
import Derived.Laws.CopyOwn
import Derived.Laws.CopyRow
import Derived.Laws.Tables
import Derived.Laws.Append
import Derived.Laws.MakeOwn
import Derived.OwnWalkIn
import Derived.LoopNIn
import Derived.TacticsIn

namespace Go.Abs
abbrev B9:=@Nat.le_of_ble_eq_true
abbrev bH:=@List.getElem?_eq_some_iff
abbrev bu:=@Result.andThen_ok
abbrev bc:=@Nat.le_refl
abbrev c9:=@Int.toNat_natCast
abbrev bJ:=@decide_eq_false
abbrev bR:=@decide_eq_true
abbrev bi:=@List.length_map
abbrev cP:=@List.length_append
abbrev ig:=@List.length_cons
abbrev dt:=@Nat.zero_add
abbrev fP:=@List.length_eq_zero_iff
abbrev gG:=@List.getElem?_append_left
abbrev ju:=@List.take_of_length_le
abbrev dQ:=@List.all_eq_true
abbrev kT:=@Array.getElem?_eq_some_iff
abbrev iA:=@List.getElem?_append_right
abbrev cE:=@List.mem_map
abbrev bo:=@Nat.zero_le
abbrev ir:=@List.mem_of_getElem?
abbrev lL:=@Nat.lt_succ_iff_lt_or_eq
abbrev eL:=@Bool.and_eq_true
abbrev ss:=@List.length_nil
abbrev jl:=@List.getElem?_take
abbrev gH:=@List.mem_singleton
abbrev gq:=@decide_eq_true_eq
abbrev iX:=@List.length_take
abbrev gR:=@List.mem_cons
abbrev ik:=@List.mem_filter
abbrev dX:=@Bool.false_eq_true
abbrev dp:=@List.map_append
abbrev eK:=@Nat.le_trans
abbrev jv:=@Nat.mul_le_mul_right
abbrev fW:=@List.getElem_of_mem
abbrev kJ:=@List.getElem?_drop
abbrev d8:=@Nat.add_mul
abbrev gP:=@List.mem_cons_self
abbrev jd:=@List.append_nil
abbrev oh:=@List.mem_append
abbrev f9:=@List.map_cons
abbrev EK:=@Decidable.of_not_not
abbrev pu:=@List.getElem?_toArray
abbrev mB:=@List.getElem?_eq_getElem
abbrev ko:=@List.getElem?_map
abbrev eM:=@List.mem_range
abbrev BM:=@List.pairwise_cons
abbrev qS:=@List.any_eq_true
abbrev ny:=@Option.map_some
abbrev tG:=@List.getElem?_cons_zero
abbrev Ch:=@List.take_append_of_le_length
abbrev io:=@List.append_assoc
abbrev nw:=@List.pairwise_iff_getElem
abbrev yV:=@List.length_pos_iff
abbrev oQ:=@List.mem_cons_of_mem
abbrev Mr:=@List.Nodup.length_le_of_subset
abbrev lU:=@Bool.or_eq_true
abbrev pB:=@of_decide_eq_true
abbrev wz:=@List.mem_append_right
abbrev Kz:=@List.filter_sublist
abbrev BW:=@List.mem_of_mem_take
abbrev rY:=@List.getElem?_of_mem
abbrev rm:=@List.mem_append_left
abbrev yX:=@Array.getD_eq_getD_getElem?
abbrev FQ:=@Array.getElem?_setIfInBounds_ne
abbrev Fh:=@List.getElem?_cons_succ
abbrev lj:=@List.flatMap_cons
abbrev vv:=@Nat.lt_trichotomy
abbrev LX:=@List.set_eq_take_append_cons_drop
abbrev mq:=@List.getElem_mem
abbrev pz:=@List.map_congr_left
abbrev EI:=@Array.getElem?_push
abbrev It:=@List.Pairwise.nil
abbrev vt:=@decide_eq_true_iff
abbrev yT:=@Array.mem_append
abbrev Iy:=@List.eq_nil_iff_forall_not_mem
abbrev sk:=@List.drop_eq_nil_of_le
abbrev Cf:=@Array.getElem?_eq_getElem
abbrev kw:=@Nat.add_assoc
abbrev nA:=@Nat.zero_mul
abbrev B7:=@List.mem_of_mem_drop
abbrev Fo:=@Nat.lt_succ_self
abbrev Cy:=@List.length_drop
abbrev ng:=@List.getD_eq_getElem?_getD
abbrev Ac:=@List.filter_eq_self
abbrev qI:=@List.take_append_drop
abbrev Ak:=@Nat.lt_of_lt_of_le
abbrev EG:=@List.filter_append
abbrev tC:=@Option.getD_some
abbrev CG:=@Nat.lt_or_ge
abbrev Er:=@Option.isSome_iff_exists
abbrev yf:=@List.nodup_append
abbrev bA:=@Sem.run_bind
abbrev eG:=@Sem.run_pure
abbrev cp:=@run_underlying
abbrev mF:=@Option.some.injEq
abbrev uM:=@Nat.add_zero
abbrev jf:=@Nat.one_pos
end Go.Abs
set_option linter.unusedSimpArgs false
set_option linter.unusedVariables false
set_option maxHeartbeats 4000000
namespace Go.Abs
open Go.RowKit
inductive AV where
 |undef
 |bool (b:Bool)
 |int (k:IntKind) (n:Int)
 |str (s:ByteArray)
 |nilp
 |ptr (b n off:Nat)
 |iptr (cells:List AV) (off:Nat)
 |esl
 |sl (sz:Nat) (elems:List AV)
 |msl (b n sz off len:Nat)
 |func (f:FuncId) (caps:List AV)
 |bfn (f:FuncId) (first:List AV)
 |nilf
 |yld (b:Nat)
 |mp (b:Nat)
 |nilm
 |itr (b:Nat)
 |agg (cells:List AV)
 |tup (vs:List AV)
 |omap (ks vs:List AV)
 |oloop (r:Loop) (T:Nat->AV)
 |oiter (m n0:Nat) (seen:List Nat)
 |bmap (ks vs:List AV) (bs:List Nat) (ck:Nat)
 |biter (m n0:Nat) (seen:List Nat)
 deriving Inhabited
def AV.special:AV->Bool
 |.omap _ _|.oloop _ _|.oiter _ _ _|.bmap _ _ _ _|.biter _ _ _=>true
 |_=>false
def AV.cells:AV->List AV
 |.agg cs=>cs
 |v=>[v]
structure Env where
 base:Nat
 w0:World
 imm:Nat->Prop
 mu:Nat->Nat->Option (Nat×Nat)
 sp:Nat->Option Nat
 lp:Nat->Option (Loop×(Nat->AV))
 dm:Nat->Prop
inductive Rel(E:Env)(w:World):AV->Value->Prop
 |undef (v:Value):Rel E w .undef v
 |bool (b:Bool):Rel E w (.bool b) (.bool b)
 |int (k:IntKind) (n:Int):Rel E w (.int k n) (.int k n)
 |str (s:ByteArray):Rel E w (.str s) (.string s)
 |nilp:Rel E w .nilp (.pointer none)
 |nilf:Rel E w .nilf .nilFunc
 |yld (b l:Nat) (h:E.sp b=some l):Rel E w (.yld b) (.func (.yield l) #[] #[])
 |mp (b k:Nat) (h:E.sp b=some k):Rel E w (.mp b) (.map (some k))
 |nilm:Rel E w .nilm (.map none)
 |itr (b k:Nat) (h:E.sp b=some k):Rel E w (.itr b) (.pointer (some ⟨k,0,none⟩))
 |ptr (b n off blk sz:Nat) (h:E.mu b n=some (blk,sz)):Rel E w (.ptr b n off) (.pointer (some ⟨blk,off,none⟩))
 |iptr (cells:List AV) (off blk o:Nat) (vals:Nat->Value) (hi:E.imm blk)
     (hc:∀i,i<cells.length->w.cell? ⟨blk,o+i,none⟩=some (vals i))
     (hr:∀(i:Nat)(x:AV),cells[i]?=some x->Rel E w x (vals i)):Rel E w (.iptr cells off) (.pointer (some ⟨blk,o+off,none⟩))
 |eslnil:Rel E w .esl (.slice none 0 0)
 |esl (a:Addr):Rel E w .esl (.slice (some a) 0 0)
 |slnil (sz:Nat):Rel E w (.sl sz []) (.slice none 0 0)
 |slempty (sz:Nat) (a:Addr) (cap:Nat):Rel E w (.sl sz []) (.slice (some a) 0 cap)
 |sl (sz:Nat) (elems:List AV) (blk o cap:Nat) (vals:Nat->Value) (hi:E.imm blk) (hlen:elems.length<=cap)
     (hsz:∀x∈elems,x.cells.length=sz)
     (hc:∀i,i<elems.length*sz->w.cell? ⟨blk,o+i,none⟩=some (vals i))
     (hr:∀(i j:Nat)(x y:AV),elems[i]?=some x->x.cells[j]?=some y->Rel E w y (vals (i*sz+j))):
     Rel E w (.sl sz elems) (.slice (some ⟨blk,o,none⟩) elems.length cap)
 |msl (b n sz off len blk bsz cap:Nat) (h:E.mu b n=some (blk,bsz)) (hl:len<=cap) (hc:off+cap*sz<=bsz) (hn:n<=off+cap*sz):
     Rel E w (.msl b n sz off len) (.slice (some ⟨blk,off,none⟩) len cap)
 |msl0 (b sz:Nat) (v:Value) (h:v=.slice none 0 0\/ ∃a,v=.slice (some a) 0 0):Rel E w (.msl b 0 sz 0 0) v
 |func (f:FuncId) (caps:List AV) (cv:List Value) (hl:cv.length=caps.length)
     (hr:∀(i:Nat)(x:AV)(y:Value),caps[i]?=some x->cv[i]?=some y->Rel E w x y):Rel E w (.func f caps) (.func (.func f) #[] cv.toArray)
 |bfn (f:FuncId) (caps:List AV) (cv:List Value) (hl:cv.length=caps.length)
     (hr:∀(i:Nat)(x:AV)(y:Value),caps[i]?=some x->cv[i]?=some y->Rel E w x y):Rel E w (.bfn f caps) (.func (.func f) cv.toArray #[])
 |agg (cs:List AV) (vs:List Value) (hl:vs.length=cs.length)
     (hr:∀(i:Nat)(x:AV)(y:Value),cs[i]?=some x->vs[i]?=some y->Rel E w x y):Rel E w (.agg cs) (.agg vs.toArray)
 |tup (cs:List AV) (vs:List Value) (hl:vs.length=cs.length)
     (hr:∀(i:Nat)(x:AV)(y:Value),cs[i]?=some x->vs[i]?=some y->Rel E w x y):Rel E w (.tup cs) (.tuple vs.toArray)
structure Ext(E:Env)(w:World)(E':Env)(w':World):Prop where
 base:E'.base=E.base
 w0:E'.w0=E.w0
 imm:∀b,E.imm b->E'.imm b
 new:∀b,E'.imm b->E.imm b\/E.base<=b
 mu:∀b n x,E.mu b n=some x->E'.mu b n=some x
 sp:∀b x,E.sp b=some x->E'.sp b=some x
 lp:∀b x,E.lp b=some x->E'.lp b=some x
 dm:∀b,E.dm b->E'.dm b/\w'.heap[b]?=w.heap[b]?
 size:w.heap.size<=w'.heap.size
 keep:∀b,E.imm b->w'.heap[b]?=w.heap[b]?
 dr:w.drawn<=w'.drawn
theorem Ext.refl(E:Env)(w:World):Ext E w E w:=
 ⟨rfl,rfl,λ_ h=>h,λ_ h=>.inl h,λ_ _ _ h=>h,λ_ _ h=>h,λ_ _ h=>h,λ_ h=>⟨h,rfl⟩,bc _,λ_ _=>rfl,bc _⟩
theorem Ext.trans{E E' E'':Env}{w w' w'':World}(h:Ext E w E' w')(k:Ext E' w' E'' w''):Ext E w E'' w'':=
 ⟨k.base.trans h.base,k.w0.trans h.w0,fun b hb=>k.imm b (h.imm b hb),
  λb hb=>(k.new b hb).elim (h.new b) (λhh=>.inr (by rw[<-h.base];exact hh)),
  λb n x hx=>k.mu b n x (h.mu b n x hx),λb x hx=>k.sp b x (h.sp b x hx),λb x hx=>k.lp b x (h.lp b x hx),λb hb=>⟨(k.dm b (h.dm b hb).1).1,(k.dm b (h.dm b hb).1).2.trans (h.dm b hb).2⟩,eK h.size k.size,λb hb=>(k.keep b (h.imm b hb)).trans (h.keep b hb),eK h.dr k.dr⟩
theorem Rel.ext{E E':Env}{w w':World}(he:Ext E w E' w'){a:AV}{v:Value}(h:Rel E w a v):Rel E' w' a v:=by
 induction h with
 |undef v=>exact .undef v
 |bool b=>exact .bool b
 |int k n=>exact .int k n
 |str s=>exact .str s
 |nilp=>exact .nilp
 |nilf=>exact .nilf
 |yld b l h=>exact .yld b l (he.sp _ _ h)
 |mp b k h=>exact .mp b k (he.sp _ _ h)
 |nilm=>exact .nilm
 |itr b k h=>exact .itr b k (he.sp _ _ h)
 |ptr b n off blk sz h=>exact .ptr b n off blk sz (he.mu _ _ _ h)
 |iptr cells off blk o vals hi hc _ ih=>
  exact .iptr cells off blk o vals (he.imm _ hi) (λi h=>(World.cell?_of_block (w:=w) (he.keep blk hi)).trans (hc i h)) ih
 |eslnil=>exact .eslnil
 |esl a=>exact .esl a
 |slnil sz=>exact .slnil sz
 |slempty sz a c=>exact .slempty sz a c
 |sl sz elems blk o cap vals hi hlen hsz hc _ ih=>
  exact .sl sz elems blk o cap vals (he.imm _ hi) hlen hsz (λi h=>(World.cell?_of_block (w:=w) (he.keep blk hi)).trans (hc i h)) ih
 |msl b n sz off len blk bsz cap h hl hc hn=>exact .msl b n sz off len blk bsz cap (he.mu _ _ _ h) hl hc hn
 |msl0 b sz v h=>exact .msl0 b sz v h
 |func f caps cv hl _ ih=>exact .func f caps cv hl ih
 |bfn f caps cv hl _ ih=>exact .bfn f caps cv hl ih
 |agg cs vs hl _ ih=>exact .agg cs vs hl ih
 |tup cs vs hl _ ih=>exact .tup cs vs hl ih
structure St where
 T:Nat->AV
 H:Nat->Option (List AV)
 nx:Nat
def lu:Obj->Bool
 |.cells ..=>true
 |_=>false
structure EnvOk(E:Env)(w:World):Prop where
 lt:∀b,E.imm b->b<w.heap.size
 below:Below E.base E.w0 w
 dm:∀b,E.dm b->∃ds,w.heap[b]?=some (.deferred ds)
 spi:∀b b' k,E.sp b=some k->E.sp b'=some k->b=b'
 spb:∀b k,E.sp b=some k->E.base<=k/\¬E.imm k/\∃o,w.heap[k]?=some o/\lu o=false/\∀ds,o≠.deferred ds
 spm:∀b k,E.sp b=some k->∀n,E.mu b n=none
 lp:∀b r T,E.lp b=some (r,T)->∃k st p,E.sp b=some k/\w.heap[k]?=some (.loop {r with state:=st,pending:=p})/\∀t,Rel E w (T t) (r.tmps.getD t Go.undef)
structure MapOk(E:Env)(w:World)(ks vs:List AV)(es:Array MapEntry)(clock:Nat):Prop where
 len:es.size=ks.length
 len':vs.length=ks.length
 key:∀(i:Nat)(x:AV)(e:MapEntry),ks[i]?=some x->es[i]?=some e->Rel E w x e.key
 val:∀(i:Nat)(x:AV)(e:MapEntry),vs[i]?=some x->es[i]?=some e->Rel E w x e.val
 born:∀(i:Nat)(e:MapEntry),es[i]?=some e->e.born=i
 clk:clock=es.size
structure MapB(E:Env)(w:World)(ks vs:List AV)(bs:List Nat)(ck:Nat)(es:Array MapEntry):Prop where
 len:es.size=ks.length
 len':vs.length=ks.length
 blen:bs.length=ks.length
 key:∀(i:Nat)(x:AV)(e:MapEntry),ks[i]?=some x->es[i]?=some e->Rel E w x e.key
 val:∀(i:Nat)(x:AV)(e:MapEntry),vs[i]?=some x->es[i]?=some e->Rel E w x e.val
 born:∀(i:Nat)(e:MapEntry),es[i]?=some e->bs[i]?=some e.born
 nd:bs.Nodup
 lt:∀b∈bs,b<ck
def yJ(E:Env)(w:World)(b k:Nat):AV->Prop
 |.omap ks vs=>∃es clock,w.heap[k]?=some (.map es clock)/\MapOk E w ks vs es clock
 |.oloop r T=>w.heap[k]?=some (.loop r)/\E.lp b=some ({r with state:=.ready,pending:=none},T)
 |.oiter m n0 seen=>∃km last,w.heap[k]?=some (.mapIter (some km) n0 seen.toArray last)/\E.sp m=some km/\(seen≠[]->0<last)/\last=n0
 |.bmap ks vs bs ck=>∃es,w.heap[k]?=some (.map es ck)/\MapB E w ks vs bs ck es
 |.biter m n0 seen=>∃km,w.heap[k]?=some (.mapIter (some km) n0 seen.toArray n0)/\E.sp m=some km
 |_=>False
structure BoxOk(E:Env)(w:World)(b:Nat)(cs:List AV)(blk sz:Nat):Prop where
 mu:E.mu b cs.length=some (blk,sz)
 base:E.base<=blk
 imm:¬E.imm blk
 cells:∃(vals:Array Value)(ty:TypeId)(fz:Nat×Nat),w.heap[blk]?=some (.cells vals ty fz)/\(∀j,j<vals.size->¬(fz.1<=j/\j<fz.2))/\vals.size=sz/\cs.length<=sz/\
  ∀(i:Nat)(x:AV),cs[i]?=some x->∃v:Value,vals[i]?=some v/\v.oneCell'=true/\Rel E w x v
structure HeapOk(E:Env)(H:Nat->Option (List AV))(nx:Nat)(w:World):Prop where
 box:∀b cs,H b=some cs->E.mu b cs.length=none\/ ∃blk sz,BoxOk E w b cs blk sz
 dom:∀b cs,H b=some cs->b<nx
 apart:∀b b' cs cs' blk sz blk' sz',H b=some cs->H b'=some cs'->b≠b'->E.mu b cs.length=some (blk,sz)->E.mu b' cs'.length=some (blk',sz')->blk≠blk'
 size:E.base<=w.heap.size
 top:∀b cs m x,H b=some cs->E.mu b m=some x->m<=cs.length
 spec:∀b x,H b=some [x]->x.special=true->∃k,E.sp b=some k/\yJ E w b k x
 nsp:∀b,H b=some []->E.sp b=none
def nD(E:Env)(b:Nat):Prop:=(∀n,E.mu b n=none)/\E.sp b=none/\E.lp b=none
def cJ(E:Env)(nx:Nat):Prop:=∀b,nx<=b->nD E b
theorem cJ.of{E E':Env}{nx nx':Nat}(h:cJ E nx)(hn:nx<=nx')(hm:∀b n,nx'<=b->E'.mu b n=E.mu b n)(hs:E'.sp=E.sp)(hl:E'.lp=E.lp):cJ E' nx':=λb hb=>
 ⟨λn=>by rw[hm b n hb];exact(h b (eK hn hb)).1 n,by rw[hs];exact(h b (eK hn hb)).2.1,by rw[hl];exact(h b (eK hn hb)).2.2⟩
theorem cJ.le{E:Env}{nx nx':Nat}(h:cJ E nx)(hn:nx<=nx'):cJ E nx':=λb hb=>h b (eK hn hb)
structure Cfg where
 n:Nat
 floor:Nat:=0
 rd:Option Nat:=none
def sH(E:Env)(N:Cfg)(w:World)(ds:List Deferred):Prop:=
 ds.Pairwise (· ≠ ·)/\∀d∈ds,∃D,d={target:=.collected D,args:=#[]}/\E.base<=D/\N.floor<=D/\E.dm D/\w.heap[D]?=some (.deferred (some []))
theorem sH.ext{E E':Env}{N:Cfg}{w w':World}{ds:List Deferred}(h:sH E N w ds)(he:Ext E w E' w'):sH E' N w' ds:=
 ⟨h.1,λd hd=>let ⟨D,h1,h2,h2',h3,h4⟩:=h.2 d hd;⟨D,h1,by rw[he.base];exact h2,h2',(he.dm _ h3).1,by rw[(he.dm _ h3).2];exact h4⟩⟩
structure Sim(E:Env)(N:Cfg)(st:St)(a:Act)(w:World):Prop where
 env:EnvOk E w
 heap:HeapOk E st.H st.nx w
 fresh:cJ E st.nx
 round:∀l,N.rd=some l->∃b x,E.lp b=some x/\E.sp b=some l
 floor:N.floor<=w.heap.size
 size:a.tmps.size=N.n
 tmps:∀t,Rel E w (st.T t) (a.tmps.getD t Go.undef)
 defers:sH E N w a.defers
structure RowAt(E:Env)(w:World)(blk o:Nat)(xs:List AV)(vals:List Value):Prop where
 len:vals.length=xs.length
 cell:∀(i:Nat)(y:Value),vals[i]?=some y->w.cell? ⟨blk,o+i,none⟩=some y
 rel:∀(i:Nat)(x:AV)(y:Value),xs[i]?=some x->vals[i]?=some y->Rel E w x y
theorem lM{β:Type}{f:Nat->β}{k i:Nat}{y:β}(h:((List.range k).map f)[i]?=some y):i<k/\f i=y:=by
 by_cases hi:i<k
 ·refine⟨hi,?_⟩;simpa[hi] using h
 ·rw[List.getElem?_eq_none (by simpa using hi)] at h;cases h
def rd1(H:Nat->Option (List AV)):AV->Option AV
 |.ptr b n off=>match H b with
  |some cs=>if cs.length=n then cs[off]? else none
  |none=>none
 |.iptr cells off=>cells[off]?
 |_=>none
def rd(H:Nat->Option (List AV))(k:Nat):AV->Option (List AV)
 |.ptr b n off=>match H b with
  |some cs=>if cs.length=n/\off+k<=n then some ((cs.drop off).take k) else none
  |none=>none
 |.iptr cells off=>if off+k<=cells.length then some ((cells.drop off).take k) else none
 |_=>none
theorem cell?_of_heap{w:World}{blk i:Nat}{vals:Array Value}{ty:TypeId}{fz:Nat×Nat}{v:Value}(h:w.heap[blk]?=some (.cells vals ty fz))(hv:vals[i]?=some v):
    w.cell? ⟨blk,i,none⟩=some v:=by
 simp[World.cell?,h,hv]
theorem zy{E:Env}{H:Nat->Option (List AV)}{nx:Nat}{w:World}(hh:HeapOk E H nx w){p:AV}{v:Value}(hr:Rel E w p v){k:Nat}{xs:List AV}(hx:rd H k p=some xs)(hk:0<k):
    ∃blk o vals,v=.pointer (some ⟨blk,o,none⟩)/\xs.length=k/\RowAt E w blk o xs vals:=by
 cases hr with
 |ptr b n off blk sz hm=>
  simp only[rd] at hx;cases hb:H b with
  |none=>simp[hb] at hx
  |some cs=>
   simp only[hb] at hx;split at hx
   case isFalse=>cases hx
   case isTrue h=>
    obtain⟨hn,ho⟩:=h;cases hx;obtain⟨blk',sz',hbox⟩:=(hh.box b cs hb).resolve_left (λh=>by rw[hn,hm] at h;cases h);have e:=hbox.mu;rw[hn,hm] at e;cases e;obtain⟨vals,ty,fz,hheap,hfz0,hvs,hle,hcells⟩:=hbox.cells;refine⟨blk,off,(vals.toList.drop off).take k,rfl,by simp;omega,⟨?_,?_,?_⟩⟩
    ·simp;omega
    ·intro i y hy;rw[jl] at hy;split at hy
     case isFalse=>cases hy
     case isTrue hi=>
      rw[kJ] at hy;exact cell?_of_heap hheap (by simpa using hy)
    ·intro i x y hx hy;rw[jl] at hx hy;split at hx
     case isFalse=>cases hx
     case isTrue hi=>
      rw[if_pos hi] at hy;rw[kJ] at hx hy;obtain⟨v',hv',_,hrel⟩:=hcells _ _ hx;simp at hy;rw[hv'] at hy;cases hy;exact hrel
 |iptr cells off blk o vals hi hc hrel=>
  simp only[rd] at hx;split at hx
  case isFalse=>cases hx
  case isTrue h=>
   cases hx;refine⟨blk,o+off,(List.range k).map (λi=>vals (off+i)),rfl,by simp;omega,⟨by simp;omega,?_,?_⟩⟩
   ·intro i y hy;obtain⟨hi',rfl⟩:=lM hy;have:=hc (off+i) (by omega);rw[show o+off+i=o+(off+i) by omega];exact this
   ·intro i x y hx hy;obtain⟨hi',rfl⟩:=lM hy;rw[jl,if_pos hi',kJ] at hx;exact hrel _ _ hx
 |_=>simp[rd] at hx
theorem xS{E:Env}{H:Nat->Option (List AV)}{nx:Nat}{w:World}(hh:HeapOk E H nx w){p:AV}{v:Value}(hr:Rel E w p v){x:AV}(hx:rd1 H p=some x):
    ∃blk o y,v=.pointer (some ⟨blk,o,none⟩)/\w.cell? ⟨blk,o,none⟩=some y/\Rel E w x y:=by
 cases hr with
 |ptr b n off blk sz hm=>
  simp only[rd1] at hx;cases hb:H b with
  |none=>simp[hb] at hx
  |some cs=>
   simp only[hb] at hx;split at hx
   case isFalse=>cases hx
   case isTrue hn=>
    obtain⟨blk',sz',hbox⟩:=(hh.box b cs hb).resolve_left (λh=>by rw[hn,hm] at h;cases h);have e:=hbox.mu;rw[hn,hm] at e;cases e;obtain⟨vals,ty,fz,hheap,hfz0,hvs,hle,hcells⟩:=hbox.cells;obtain⟨v',hv',_,hrel⟩:=hcells _ _ hx;exact⟨blk,off,v',rfl,cell?_of_heap hheap hv',hrel⟩
 |iptr cells off blk o vals hi hc hrel=>
  simp only[rd1] at hx;have hlt:off<cells.length:=(bH.1 hx).1;exact⟨blk,o+off,vals off,rfl,hc _ hlt,hrel _ _ hx⟩
 |_=>simp[rd1] at hx
def sf(P:Program)(t:TypeId):Bool:=match P.underlying t with|some (.struct _)|some (.array _ _)=>true|_=>false
def tok(P:Program)(t:TypeId):Bool:=(P.underlying t).isSome
def MP(P:Program)(t f:Nat):Option Nat:=match P.underlying t with
 |some (.struct fs)=>match fs[f]? with
  |some fd=>if P.cellsOf fd.type=0 || (P.info? fd.type).isNone then none else some fd.offset
  |none=>none
 |_=>none
def gw(P:Program)(t:TypeId):Option TypeId:=match P.underlying t with|some (.slice e)=>some e|_=>none
def B3(P:Program)(t:TypeId):Option (Nat×TypeId):=match P.underlying t with|some (.array n e)=>some (n,e)|_=>none
def lS(P:Program)(t:TypeId):Option IntKind:=match P.underlying t with|some (.int k)=>some k|_=>none
def DP(P:Program)(t:TypeId):Bool:=match P.underlying t with|some .bool=>true|_=>false
theorem oE{P:Program}{t:TypeId}{d:TypeDesc}(h:P.underlying t=some d):∃i,P.info? t=some i:=by
 unfold Program.underlying at h;cases hi:P.info? t with
 |none=>simp[hi] at h
 |some i=>exact⟨i,rfl⟩
theorem iV{P:Program}{t:TypeId}(h:tok P t=true)(w:World):(isAgg t).run P w=.ok (sf P t) w:=by
 unfold tok at h;cases hd:P.underlying t with
 |none=>simp[hd] at h
 |some d=>
  unfold isAgg;simp only[bA,cp hd,bu,sf,hd];cases d<;>rfl
theorem aU{P:Program}{t:TypeId}(h:tok P t=true)(w:World):(sizeOf t).run P w=.ok (P.cellsOf t) w:=by
 unfold tok at h;cases hd:P.underlying t with
 |none=>simp[hd] at h
 |some d=>
  obtain⟨i,hi⟩:=oE hd;simp[sizeOf,typeInfo,hi,Program.cellsOf]
theorem ci(blk o n:Nat):(⟨blk,o,none⟩:Addr).add n=⟨blk,o+n,none⟩:=by
 unfold Addr.add;split
 ·subst_vars;rfl
 ·rfl
def lF(P:Program)(H:Nat->Option (List AV))(t:TypeId)(p:AV):Option AV:=
 if tok P t then
  if sf P t then(if 0<P.cellsOf t then(rd H (P.cellsOf t) p).map .agg else none) else rd1 H p
 else none
theorem AE{P:Program}{E:Env}{H:Nat->Option (List AV)}{nx:Nat}{w:World}(hh:HeapOk E H nx w){p:AV}{v:Value}(hr:Rel E w p v){t:TypeId}{x:AV}(hx:lF P H t p=some x):
    ∃y,(Instr.loadAt t v).run P w=.ok y w/\Rel E w x y:=by
 unfold lF at hx;split at hx
 case isFalse=>cases hx
 case isTrue ht=>
  split at hx
  case isTrue hagg=>
   split at hx
   case isFalse=>cases hx
   case isTrue hpos=>
    cases hrd:rd H (P.cellsOf t) p with
    |none=>simp[hrd] at hx
    |some xs=>
     simp[hrd] at hx;subst hx;obtain⟨blk,o,vals,rfl,hlen,hrow⟩:=zy hh hr hrd hpos;refine⟨.agg vals.toArray,?_,.agg xs vals hrow.len hrow.rel⟩;have hl:vals.length=P.cellsOf t:=hrow.len.trans hlen;simp only[Instr.loadAt,Instr.sureAddr,loadVar,bA,eG,bu,iV ht,hagg,if_true,aU ht,<-hl];rw[run_loadCells_list (P:=P) (w:=w) ⟨blk,o,none⟩ vals (λj v hv=>by rw[ci];exact hrow.cell _ _ hv)];rfl
  case isFalse hagg=>
   obtain⟨blk,o,y,rfl,hc,hrel⟩:=xS hh hr hx;refine⟨y,?_,hrel⟩;simp[Instr.loadAt,Instr.sureAddr,loadVar,iV ht,hagg,hc]
def BG:Value->AV
 |.bool b=>.bool b
 |.int k n=>.int k n
 |.string s=>.str s
 |.pointer none=>.nilp
 |.slice none 0 0=>.esl
 |.nilFunc=>.nilf
 |.map none=>.nilm
 |_=>.undef
def ofV:Value->AV
 |.agg cs=>.agg (cs.toList.map BG)
 |.tuple cs=>.tup (cs.toList.map BG)
 |v=>BG v
theorem ue(E:Env)(w:World)(v:Value):Rel E w (BG v) v:=by
 unfold BG;split<;>constructor
theorem yz(E:Env)(w:World)(v:Value):Rel E w (ofV v) v:=by
 unfold ofV;split
 ·rename_i cs
  have:=Rel.agg (E:=E) (w:=w) (cs.toList.map BG) cs.toList (by simp) (fun i x y hx hy=>by
   rw[ko,hy] at hx;cases hx;exact ue E w y)
  simpa using this
 ·rename_i cs
  have:=Rel.tup (E:=E) (w:=w) (cs.toList.map BG) cs.toList (by simp) (fun i x y hx hy=>by
   rw[ko,hy] at hx;cases hx;exact ue E w y)
  simpa using this
 ·exact ue E w _
def ev(T:Nat->AV):Operand->AV
 |.tmp t=>T t
 |.const v=>ofV v
 |.global _=>.undef
 |.func f=>.func f []
theorem nQ{E:Env}{w:World}{T:Nat->AV}{a:Act}(h:∀t,Rel E w (T t) (a.tmps.getD t Go.undef))(x:Operand):Rel E w (ev T x) (a.eval x):=by
 cases x with
 |tmp t=>exact h t
 |const v=>exact yz E w v
 |global g=>exact .undef _
 |func f=>exact Rel.func f [] [] rfl (by simp)
def fe(op:BinOp)(k:IntKind)(a b:Int):Option AV:=
 match op with
 |.add=>some (.int k (k.wrap (a+b)))
 |.sub=>some (.int k (k.wrap (a-b)))
 |.mul=>some (.int k (k.wrap (a*b)))
 |.quo=>if b=0 then none else some (.int k (k.wrap (a.tdiv b)))
 |.rem=>if b=0 then none else some (.int k (a.tmod b))
 |.and=>some (.int k (k.wrap (BitVec.ofInt k.bits a &&& BitVec.ofInt k.bits b).toNat))
 |.or=>some (.int k (k.wrap (BitVec.ofInt k.bits a ||| BitVec.ofInt k.bits b).toNat))
 |.xor=>some (.int k (k.wrap (BitVec.ofInt k.bits a ^^^ BitVec.ofInt k.bits b).toNat))
 |.andNot=>some (.int k (k.wrap (BitVec.ofInt k.bits a &&& ~~~BitVec.ofInt k.bits b).toNat))
 |.eql=>some (.bool (a==b))
 |.neq=>some (.bool (a !=b))
 |.lss=>some (.bool (a<b))
 |.leq=>some (.bool (a<=b))
 |.gtr=>some (.bool (a>b))
 |.geq=>some (.bool (a≥b))
 |_=>none
def ou(op:BinOp)(k:IntKind)(a b:Int):Option AV:=
 if b<0 then none else
 match op with
 |.shl=>some (.int k (k.wrap (a*2^(min b.toNat k.bits))))
 |.shr=>some (.int k (a.fdiv (2^(min b.toNat k.bits))))
 |_=>none
def yO(op:BinOp)(x y:ByteArray):Option AV:=
 match op with
 |.add=>if x.size+y.size<=9223372036854775807 then some (.str (x++y)) else none
 |.eql=>some (.bool (x.toList==y.toList))
 |.neq=>some (.bool (!(x.toList==y.toList)))
 |.lss=>some (.bool (Op.bytesLess x.toList y.toList))
 |.leq=>some (.bool (Op.bytesLess x.toList y.toList || x.toList==y.toList))
 |.gtr=>some (.bool (!(Op.bytesLess x.toList y.toList || x.toList==y.toList)))
 |.geq=>some (.bool (!(Op.bytesLess x.toList y.toList)))
 |_=>none
inductive TK where
 |int|str|bool
 deriving DecidableEq
def tk1(P:Program)(t:TypeId):Option TK:=match P.underlying t with
 |some (.int _)=>some .int
 |some .string=>some .str
 |some .bool=>some .bool
 |_=>none
def tkF(P:Program):Nat->List Field->Option (List TK)
 |_,[]=>some []
 | i,f :: fs=>if f.name ≠ "_"∧f.offset=i then (match tk1 P f.type,tkF P (i + 1) fs with
  |some k,some ks=>some (k::ks)
  |_,_=>none) else none
def tkS(P:Program)(t:TypeId):Option (List TK):=match P.underlying t with
 |some (.struct fs)=>if P.stoodInHeld t=false/\P.eqGuardType P.depth t=false then tkF P 0 fs.toList else none
 |_=>none
def lw(k:TK)(x y:AV):Option Bool:=match k,x,y with
 |.int,.int j a,.int j' b=>if j=j' then some (a==b) else none
 |.str,.str a,.str b=>some (a.toList==b.toList)
 |.bool,.bool a,.bool b=>some (a==b)
 |_,_,_=>none
def dU:List TK->List AV->List AV->Option Bool
 |[],[],[]=>some true
 |k::ks,x::xs,y::ys=>match lw k x y with
  |some true=>dU ks xs ys
  |some false=>some false
  |none=>none
 |_,_,_=>none
theorem eZ{P:Program}{E:Env}{w:World}{t:TypeId}{k:TK}{x y:AV}{vx vy:Value}{r:Bool}(hk:tk1 P t=some k)(hx:Rel E w x vx)(hy:Rel E w y vy)(h:lw k x y=some r)(d:Nat):
    (Op.equalIn (d+1) t vx vy).run P w=.ok r w:=by
 unfold lw at h;unfold tk1 at hk;split at h
 ·cases hx;cases hy;split at h
  ·rename_i e;subst e;cases h;split at hk<;>first|(cases hk;done)|skip
   rename_i hu;exact run_equalIn_int w d t _ _ _ _ hu
  ·cases h
 ·cases hx;cases hy;cases h;split at hk<;>first|(cases hk;done)|skip
  rename_i hu;exact run_equalIn_string w d t _ _ hu
 ·cases hx;cases hy;cases h;split at hk<;>first|(cases hk;done)|skip
  rename_i hu;exact run_equalIn_bool' w d t _ _ hu
 ·cases h
theorem ff{P:Program}{w:World}{t:TypeId}{k:TK}(hk:tk1 P t=some k){cs:Array Value}{i:Nat}{v:Value}(h:cs[i]?=some v):(part t cs i).run P w=.ok v w:=by
 have ht:tok P t=true/\sf P t=false:=by
  unfold tk1 at hk;unfold tok sf;split at hk<;>first|(cases hk;done)|(rename_i hu;simp[hu])
 simp[part,iV ht.1,ht.2,h]
theorem sK{P:Program}{E:Env}{w:World}{d:Nat}{vx vy:List Value}:∀(fs:List Field)(i:Nat)(ks:List TK)(xs ys:List AV)(r:Bool),tkF P i fs=some ks->
    (∀(j:Nat)(x:AV),xs[j]?=some x->∃v,vx[i+j]?=some v/\Rel E w x v)->(∀(j:Nat)(x:AV),ys[j]?=some x->∃v,vy[i+j]?=some v/\Rel E w x v)->dU ks xs ys=some r->
    (Op.eqFields (d+1) vx.toArray vy.toArray fs).run P w=.ok r w
 |[],i,ks,xs,ys,r,hk,hx,hy,h=>by
  cases hk;cases xs<;>cases ys<;>first|(cases h;done)|skip
  cases h;rfl
 |f::fs,i,ks,xs,ys,r,hk,hx,hy,h=>by
  simp only[tkF] at hk;split at hk
  case isFalse=>cases hk
  case isTrue hc=>
  obtain⟨hn,ho⟩:=hc;split at hk
  case h_2=>cases hk
  rename_i k ks' h1 h2;cases hk;cases xs with
  |nil=>cases h
  |cons x xs=>
  cases ys with
  |nil=>cases h
  |cons y ys=>
  obtain⟨v1,e1,r1⟩:=hx 0 x rfl;obtain⟨v2,e2,r2⟩:=hy 0 y rfl;simp only[dU] at h;have p1:=ff (P:=P) (w:=w) h1 (cs:=vx.toArray) (i:=f.offset) (v:=v1) (by rw[ho];simpa using e1);have p2:=ff (P:=P) (w:=w) h1 (cs:=vy.toArray) (i:=f.offset) (v:=v2) (by rw[ho];simpa using e2)
  have rest:∀r',dU ks' xs ys=some r'->(Op.eqFields (d+1) vx.toArray vy.toArray fs).run P w=.ok r' w:=λr' h'=>
   sK fs (i+1) ks' xs ys r' h2 (λj x hj=>by have:=hx (j+1) x (by simpa using hj);rwa [show i+1+j=i+(j+1) by omega]) (λj x hj=>by have:=hy (j+1) x (by simpa using hj);rwa [show i+1+j=i+(j+1) by omega]) h'
  simp only[Op.eqFields,hn,ne_eq,not_false_eq_true,if_true,bA,p1,p2,bu];split at h
  ·rename_i hs;rw[eZ h1 r1 r2 hs d];simp only[bu,Bool.not_true,dX,if_false];exact rest r h
  ·rename_i hs;cases h;rw[eZ h1 r1 r2 hs d];rfl
  ·cases h
theorem qf{P:Program}{t:TypeId}{ks:List TK}(h:tkS P t=some ks):P.underlying t=some (.struct (P.fieldsOf t))/\P.stoodInHeld t=false/\P.eqGuardType P.depth t=false/\tkF P 0 (P.fieldsOf t).toList=some ks:=by
 unfold tkS at h;split at h
 ·rename_i fs hu;split at h
  ·rename_i hc;have e:P.fieldsOf t=fs:=by simp[Program.fieldsOf,hu]
   rw[e];exact⟨hu,hc.1,hc.2,h⟩
  ·cases h
 ·cases h
theorem oD{P:Program}{E:Env}{w:World}{t:TypeId}{ks:List TK}{xs ys:List AV}{vx vy:Value}{r:Bool}(hk:tkS P t=some ks)(hx:Rel E w (.agg xs) vx)(hy:Rel E w (.agg ys) vy)(h:dU ks xs ys=some r)(d:Nat):
    (Op.equalIn (d+2) t vx vy).run P w=.ok r w:=by
 obtain⟨h1,h2,_,h4⟩:=qf hk;cases hx with
 |agg _ v1 l1 r1=>
 cases hy with
 |agg _ v2 l2 r2=>
 rw[run_equalIn_agg w (d+1) t _ _ h1 h2];refine sK (E:=E) _ 0 ks xs ys r h4 (λj x hj=>?_) (λj x hj=>?_) h
 ·have hlt:j<v1.length:=by have:=(bH.1 hj).1;omega
  exact⟨v1[j],by simp[hlt],r1 j x _ hj (by simp[hlt])⟩
 ·have hlt:j<v2.length:=by have:=(bH.1 hj).1;omega
  exact⟨v2[j],by simp[hlt],r2 j x _ hj (by simp[hlt])⟩
def tkG(P:Program):Nat->List Field->Option (List TK)
 |_,[]=>some []
 | i,f :: fs=>if f.name ≠ "_"∧f.offset=i then (match P.underlying f.type with
  | some (.array n e)=>(match tk1 P e,tkG P (i + n) fs with
   |some k,some ks=>if P.cellsOf e=1/\P.cellsOf f.type=n then some (List.replicate n k++ks) else none
   |_,_=>none)
  |_=>match tk1 P f.type,tkG P (i+1) fs with
   |some k,some ks=>some (k::ks)
   |_,_=>none) else none
def tkR(P:Program)(t:TypeId):Option (List TK):=match P.underlying t with
 |some (.struct fs)=>if P.stoodInHeld t=false/\P.eqGuardType P.depth t=false then tkG P 0 fs.toList else none
 |_=>none
theorem sY{P:Program}{E:Env}{w:World}{d:Nat}{e:TypeId}{k:TK}(hk:tk1 P e=some k)(h1:P.cellsOf e=1){cx cy:Array Value}:∀(m a:Nat)(ks:List TK)(xs ys:List AV)(r:Bool),dU (List.replicate m k++ks) xs ys=some r->
    (∀(j:Nat)(x:AV),j<m->xs[j]?=some x->∃v,cx[a+j]?=some v/\Rel E w x v)->(∀(j:Nat)(x:AV),j<m->ys[j]?=some x->∃v,cy[a+j]?=some v/\Rel E w x v)->
    ∃b,(Op.eqItems (d+1) e (P.cellsOf e) cx cy (List.range' a m)).run P w=.ok b w/\(b=false->r=false)/\(b=true->dU ks (xs.drop m) (ys.drop m)=some r)
 |0,a,ks,xs,ys,r,h,_,_=>⟨true,rfl,λh=>(by cases h),λ_=>h⟩
 |m+1,a,ks,xs,ys,r,h,hx,hy=>by
  rw[List.replicate_succ,List.cons_append] at h;cases xs with
  |nil=>cases h
  |cons x xs=>
  cases ys with
  |nil=>cases h
  |cons y ys=>
  obtain⟨v1,e1,r1⟩:=hx 0 x (by omega) rfl;obtain⟨v2,e2,r2⟩:=hy 0 y (by omega) rfl;simp only[dU] at h;have p1:=ff (P:=P) (w:=w) hk (cs:=cx) (i:=a*P.cellsOf e) (v:=v1) (by rw[h1,Nat.mul_one];exact e1);have p2:=ff (P:=P) (w:=w) hk (cs:=cy) (i:=a*P.cellsOf e) (v:=v2) (by rw[h1,Nat.mul_one];exact e2);rw[List.range'_succ];simp only[Op.eqItems,bA,p1,p2,bu];split at h
  ·rename_i hs;rw[eZ hk r1 r2 hs d];obtain⟨b,q1,q2,q3⟩:=sY hk h1 m (a+1) ks xs ys r h (λj x hj hx'=>by have:=hx (j+1) x (by omega) (by simpa using hx');rwa [show a+1+j=a+(j+1) by omega]) (λj x hj hx'=>by have:=hy (j+1) x (by omega) (by simpa using hx');rwa [show a+1+j=a+(j+1) by omega]);exact⟨b,by simpa using q1,q2,λhb=>by simpa using q3 hb⟩
  ·rename_i hs;cases h;rw[eZ hk r1 r2 hs d];exact⟨false,rfl,λ_=>rfl,λh=>(by cases h)⟩
  ·cases h
theorem we{P:Program}{w:World}{t e:TypeId}{n:Nat}(hu:P.underlying t=some (.array n e))(hc:P.cellsOf t=n)(cs:Array Value)(i:Nat):(part t cs i).run P w=.ok (.agg (cs.extract i (i+n))) w:=by
 obtain⟨inf,hi⟩:=info_of_underlying hu;simp[part,isAgg,cp hu,run_sizeOf w hi,hc]
theorem oT{P:Program}{E:Env}{w:World}{d:Nat}{vx vy:List Value}:∀(fs:List Field)(i:Nat)(ks:List TK)(xs ys:List AV)(r:Bool),tkG P i fs=some ks->
    (∀(j:Nat)(x:AV),xs[j]?=some x->∃v,vx[i+j]?=some v/\Rel E w x v)->(∀(j:Nat)(x:AV),ys[j]?=some x->∃v,vy[i+j]?=some v/\Rel E w x v)->dU ks xs ys=some r->
    (Op.eqFields (d+2) vx.toArray vy.toArray fs).run P w=.ok r w
 |[],i,ks,xs,ys,r,hk,hx,hy,h=>by
  cases hk;cases xs<;>cases ys<;>first|(cases h;done)|skip
  cases h;rfl
 |f::fs,i,ks,xs,ys,r,hk,hx,hy,h=>by
  simp only[tkG] at hk;split at hk
  case isFalse=>cases hk
  case isTrue hc=>
  obtain⟨hn,ho⟩:=hc;split at hk
  ·rename_i n e hu;split at hk
   case h_2=>cases hk
   rename_i k ks' h1 h2;split at hk
   case isFalse=>cases hk
   rename_i hcc;cases hk;have p1:=we (w:=w) hu hcc.2 vx.toArray f.offset;have p2:=we (w:=w) hu hcc.2 vy.toArray f.offset
   have hext:∀(vs:List Value)(j:Nat),j<n->(vs.toArray.extract f.offset (f.offset+n))[0+j]?=vs[i+j]?:=by
    intro vs j hj;rw[dt,ho,Array.getElem?_extract];split
    ·simp
    ·rename_i hh;simp at hh;rw[List.getElem?_eq_none (by omega)]
   obtain⟨b,q1,q2,q3⟩:=sY (E:=E) (w:=w) (d:=d) h1 hcc.1 (cx:=vx.toArray.extract f.offset (f.offset+n)) (cy:=vy.toArray.extract f.offset (f.offset+n)) n 0 ks' xs ys r h
    (λj x hj hx'=>by rw[hext vx j hj];exact hx j x hx') (λj x hj hx'=>by rw[hext vy j hj];exact hy j x hx')
   obtain⟨inf,hi⟩:∃inf,P.info? e=some inf:=by
    unfold tk1 at h1;cases hue:P.underlying e with
    |none=>rw[hue] at h1;cases h1
    |some _=>exact info_of_underlying hue
   simp only[Op.eqFields,hn,ne_eq,not_false_eq_true,if_true,bA,p1,p2,bu];rw[run_equalIn_array w (d+1) _ _ hu hi,List.range_eq_range',q1];cases b with
   |false=>rw[q2 rfl];rfl
   |true=>
    simp only[bu,Bool.not_true,dX,if_false];exact oT fs (i+n) ks' (xs.drop n) (ys.drop n) r h2 (λj x hj=>by rw[kJ] at hj;have:=hx (n+j) x hj;rwa [show i+n+j=i+(n+j) by omega]) (λj x hj=>by rw[kJ] at hj;have:=hy (n+j) x hj;rwa [show i+n+j=i+(n+j) by omega]) (q3 rfl)
  ·split at hk
   case h_2=>cases hk
   rename_i k ks' h1 h2;cases hk;cases xs with
   |nil=>cases h
   |cons x xs=>
   cases ys with
   |nil=>cases h
   |cons y ys=>
   obtain⟨v1,e1,r1⟩:=hx 0 x rfl;obtain⟨v2,e2,r2⟩:=hy 0 y rfl;simp only[dU] at h;have p1:=ff (P:=P) (w:=w) h1 (cs:=vx.toArray) (i:=f.offset) (v:=v1) (by rw[ho];simpa using e1);have p2:=ff (P:=P) (w:=w) h1 (cs:=vy.toArray) (i:=f.offset) (v:=v2) (by rw[ho];simpa using e2)
   have rest:∀r',dU ks' xs ys=some r'->(Op.eqFields (d+2) vx.toArray vy.toArray fs).run P w=.ok r' w:=λr' h'=>
    oT fs (i+1) ks' xs ys r' h2 (λj x hj=>by have:=hx (j+1) x (by simpa using hj);rwa [show i+1+j=i+(j+1) by omega]) (λj x hj=>by have:=hy (j+1) x (by simpa using hj);rwa [show i+1+j=i+(j+1) by omega]) h'
   simp only[Op.eqFields,hn,ne_eq,not_false_eq_true,if_true,bA,p1,p2,bu];split at h
   ·rename_i hs;rw[eZ h1 r1 r2 hs (d+1)];simp only[bu,Bool.not_true,dX,if_false];exact rest r h
   ·rename_i hs;cases h;rw[eZ h1 r1 r2 hs (d+1)];rfl
   ·cases h
theorem Hw{P:Program}{t:TypeId}{ks:List TK}(h:tkR P t=some ks):P.underlying t=some (.struct (P.fieldsOf t))/\P.stoodInHeld t=false/\P.eqGuardType P.depth t=false/\tkG P 0 (P.fieldsOf t).toList=some ks:=by
 unfold tkR at h;split at h
 ·rename_i fs hu;split at h
  ·rename_i hc;have e:P.fieldsOf t=fs:=by simp[Program.fieldsOf,hu]
   rw[e];exact⟨hu,hc.1,hc.2,h⟩
  ·cases h
 ·cases h
theorem Al{P:Program}{E:Env}{w:World}{t:TypeId}{ks:List TK}{xs ys:List AV}{vx vy:Value}{r:Bool}(hk:tkR P t=some ks)(hx:Rel E w (.agg xs) vx)(hy:Rel E w (.agg ys) vy)(h:dU ks xs ys=some r)(d:Nat):
    (Op.equalIn (d+3) t vx vy).run P w=.ok r w:=by
 obtain⟨h1,h2,_,h4⟩:=Hw hk;cases hx with
 |agg _ v1 l1 r1=>
 cases hy with
 |agg _ v2 l2 r2=>
 rw[run_equalIn_agg w (d+2) t _ _ h1 h2];refine oT (E:=E) _ 0 ks xs ys r h4 (λj x hj=>?_) (λj x hj=>?_) h
 ·have hlt:j<v1.length:=by have:=(bH.1 hj).1;omega
  exact⟨v1[j],by simp[hlt],r1 j x _ hj (by simp[hlt])⟩
 ·have hlt:j<v2.length:=by have:=(bH.1 hj).1;omega
  exact⟨v2[j],by simp[hlt],r2 j x _ hj (by simp[hlt])⟩
def Cq(P:Program)(f:TypeId->Option (List TK)):Nat->List Field->Option (List TK)
 |_,[]=>some []
 | i,g :: fs=>if g.name ≠ "_"∧g.offset=i then (match f g.type with
  | some ks=>(match Cq P f (i + ks.length) fs with
   |some ks'=>some (ks++ks')
   |none=>none)
  |none=>none) else none
def tkN(P:Program):Nat->TypeId->Option (List TK)
 |0,_=>none
 |d+1,t=>match P.underlying t with
  | some (.struct fs)=>if P.stoodInHeld t=false then (match Cq P (tkN P d) 0 fs.toList with
   |some ks=>if P.cellsOf t=ks.length then some ks else none
   |none=>none) else none
  | some (.array n e)=>(match tkN P d e with
   |some ks=>if P.cellsOf t=(List.replicate n ks).flatten.length/\P.cellsOf e=ks.length then some (List.replicate n ks).flatten else none
   |none=>none)
  |_=>match tk1 P t with
   |some k=>some [k]
   |none=>none
theorem kH{P:Program}{d:Nat}{t:TypeId}{ks:List TK}(h:tkN P (d+1) t=some ks):
    (P.underlying t=some (.struct (P.fieldsOf t))/\P.stoodInHeld t=false/\Cq P (tkN P d) 0 (P.fieldsOf t).toList=some ks/\P.cellsOf t=ks.length)\/
    (∃n e es,P.underlying t=some (.array n e)/\tkN P d e=some es/\P.cellsOf t=ks.length/\P.cellsOf e=es.length/\ks=(List.replicate n es).flatten)\/ ∃k,tk1 P t=some k/\ks=[k]:=by
 simp only[tkN] at h;split at h
 ·rename_i fs hu;split at h
  case isFalse=>cases h
  rename_i hs;split at h
  case h_2=>cases h
  rename_i ks' hf;split at h
  case isFalse=>cases h
  rename_i hc;cases h;have e:P.fieldsOf t=fs:=by simp[Program.fieldsOf,hu]
  rw[e];exact .inl ⟨hu,hs,hf,hc⟩
 ·rename_i n e hu;split at h
  case h_2=>cases h
  rename_i es he;split at h
  case isFalse=>cases h
  rename_i hc;cases h;exact .inr (.inl ⟨n,e,es,hu,he,hc.1,hc.2,rfl⟩)
 ·split at h
  case h_2=>cases h
  rename_i k hk;cases h;exact .inr (.inr ⟨k,hk,rfl⟩)
theorem lD:∀(ks ks':List TK)(xs ys:List AV)(r:Bool),dU (ks++ks') xs ys=some r->∃b,dU ks (xs.take ks.length) (ys.take ks.length)=some b/\(b=false->r=false)/\(b=true->dU ks' (xs.drop ks.length) (ys.drop ks.length)=some r)
 |[],ks',xs,ys,r,h=>⟨true,rfl,λh=>(by cases h),λ_=>h⟩
 |k::ks,ks',[],ys,r,h=>by cases ys<;>cases h
 |k::ks,ks',x::xs,[],r,h=>by cases h
 |k::ks,ks',x::xs,y::ys,r,h=>by
  simp only[List.cons_append,dU,ig,List.take_succ_cons,List.drop_succ_cons] at h |-;split at h
  ·rename_i hs;exact lD ks ks' xs ys r h
  ·rename_i hs;cases h;exact⟨false,rfl,λ_=>rfl,λh=>(by cases h)⟩
  ·cases h
theorem og{P:Program}{w:World}{t:TypeId}{n:Nat}(hu:(∃fs,P.underlying t=some (.struct fs))\/ ∃m e,P.underlying t=some (.array m e))(hc:P.cellsOf t=n)(cs:Array Value)(i:Nat):(part t cs i).run P w=.ok (.agg (cs.extract i (i+n))) w:=by
 rcases hu with⟨fs,hu⟩|⟨m,e,hu⟩
 all_goals
  obtain⟨inf,hi⟩:=info_of_underlying hu;simp[part,isAgg,cp hu,run_sizeOf w hi,hc]
def dP(E:Env)(w:World)(vs:List Value)(a:Nat)(xs:List AV):Prop:=∀(j:Nat)(x:AV),xs[j]?=some x->∃v,vs[a+j]?=some v/\Rel E w x v
theorem dP.take{E:Env}{w:World}{vs:List Value}{a:Nat}{xs:List AV}(h:dP E w vs a xs)(n:Nat):dP E w vs a (xs.take n):=λj x hj=>by
 rw[jl] at hj;split at hj
 ·exact h j x hj
 ·cases hj
theorem dP.drop{E:Env}{w:World}{vs:List Value}{a:Nat}{xs:List AV}(h:dP E w vs a xs)(n:Nat):dP E w vs (a+n) (xs.drop n):=λj x hj=>by
 rw[kJ] at hj;have:=h (n+j) x hj
 rwa [kw]
theorem dP.ext{E:Env}{w:World}{vs:List Value}{a n:Nat}{xs:List AV}(h:dP E w vs a xs)(hn:xs.length<=n):dP E w ((vs.drop a).take n) 0 xs:=λj x hj=>by
 have hl:=(bH.1 hj).1;obtain⟨v,h1,h2⟩:=h j x hj;refine⟨v,?_,h2⟩;rw[dt,jl,if_pos (by omega),kJ,h1]
theorem ja(vs:List Value)(a n:Nat):vs.toArray.extract a (a+n)=((vs.drop a).take n).toArray:=by
 simp[List.extract_eq_take_drop,List.extract_toArray]
theorem AW{P:Program}{E:Env}{w:World}{d:Nat}
    (IH:∀ (t:TypeId) (ks:List TK),tkN P d t=some ks→∀ (vx vy:List Value) (a a':Nat) (xs ys:List AV) (r:Bool),dP E w vx a xs→dP E w vy a' ys→xs.length ≤ ks.length→ys.length ≤ ks.length→dU ks xs ys=some r →
     ∃v1 v2,(part t vx.toArray a).run P w=.ok v1 w/\(part t vy.toArray a').run P w=.ok v2 w/\∀D,d<=D->(Op.equalIn D t v1 v2).run P w=.ok r w)
    {t:TypeId} {ks:List TK} (h:tkN P (d+1) t=some ks) (hu:(∃fs,P.underlying t=some (.struct fs))\/ ∃m e,P.underlying t=some (.array m e)) {ux uy:List Value} {xs ys:List AV} {r:Bool} (hx:dP E w ux 0 xs) (hy:dP E w uy 0 ys) (hs:dU ks xs ys=some r) (D:Nat) (hD:d<=D):
    (Op.equalIn (D+1) t (.agg ux.toArray) (.agg uy.toArray)).run P w=.ok r w:=by
 rcases kH h with⟨hu,hsi,hf,hc⟩|⟨n,e,es,hu,he,hc,hce,rfl⟩|⟨k,hk,rfl⟩
 ·rw[run_equalIn_agg w D t _ _ hu hsi];generalize (P.fieldsOf t).toList=fs at hf
  have key:∀(fs:List Field)(i:Nat)(ks:List TK)(xs ys:List AV)(r:Bool),Cq P (tkN P d) i fs=some ks->dP E w ux i xs->dP E w uy i ys->dU ks xs ys=some r->(Op.eqFields D ux.toArray uy.toArray fs).run P w=.ok r w:=by
   intro fs
   induction fs with
   |nil=>
    intro i ks xs ys r hf hx hy hs;cases hf;cases xs<;>cases ys<;>first|(cases hs;done)|skip
    cases hs;rfl
   |cons f fs ih=>
    intro i ks xs ys r hf hx hy hs;simp only[Cq] at hf;split at hf
    case isFalse=>cases hf
    rename_i hno;split at hf
    case h_2=>cases hf
    rename_i k1 h1;split at hf
    case h_2=>cases hf
    rename_i k2 h2;cases hf;obtain⟨b,q1,q2,q3⟩:=lD k1 k2 xs ys r hs;obtain⟨v1,v2,p1,p2,p3⟩:=IH f.type k1 h1 ux uy i i _ _ b (hx.take _) (hy.take _) (by rw[iX];omega) (by rw[iX];omega) q1;simp only[Op.eqFields,hno.1,ne_eq,not_false_eq_true,if_true,bA,hno.2,p1,p2,bu,p3 D hD];cases b with
    |false=>rw[q2 rfl];rfl
    |true=>
     simp only[Bool.not_true,dX,if_false];exact ih (i+k1.length) k2 _ _ r h2 (hx.drop _) (hy.drop _) (q3 rfl)
  exact key fs 0 ks xs ys r hf hx hy hs
 ·obtain⟨inf,hi⟩:∃inf,P.info? e=some inf:=by
    have:∃u,P.underlying e=some u:=by
     cases d with
     |zero=>cases he
     |succ d=>
      rcases kH he with⟨hu,_⟩|⟨_,_,_,hu,_⟩|⟨k,hk,_⟩
      ·exact⟨_,hu⟩
      ·exact⟨_,hu⟩
      ·unfold tk1 at hk;cases hue:P.underlying e with
       |none=>rw[hue] at hk;cases hk
       |some u=>exact⟨u,rfl⟩
    obtain⟨u,hu⟩:=this;exact info_of_underlying hu
  rw[run_equalIn_array w D _ _ hu hi,List.range_eq_range',hce]
  have key:∀(m i:Nat)(xs ys:List AV)(r:Bool),dP E w ux (i*es.length) xs->dP E w uy (i*es.length) ys->dU (List.replicate m es).flatten xs ys=some r->(Op.eqItems D e es.length ux.toArray uy.toArray (List.range' i m)).run P w=.ok r w:=by
   intro m
   induction m with
   |zero=>
    intro i xs ys r hx hy hs;cases xs<;>cases ys<;>first|(cases hs;done)|skip
    cases hs;rfl
   |succ m ih=>
    intro i xs ys r hx hy hs;rw[List.replicate_succ,List.flatten_cons] at hs;obtain⟨b,q1,q2,q3⟩:=lD es _ xs ys r hs;obtain⟨v1,v2,p1,p2,p3⟩:=IH e es he ux uy _ _ _ _ b (hx.take _) (hy.take _) (by rw[iX];omega) (by rw[iX];omega) q1;rw[List.range'_succ];simp only[Op.eqItems,bA,p1,p2,bu,p3 D hD];cases b with
    |false=>rw[q2 rfl];rfl
    |true=>
     simp only[Bool.not_true,dX,if_false];have e1:(i+1)*es.length=i*es.length+es.length:=by rw[d8,Nat.one_mul]
     exact ih (i+1) _ _ r (by rw[e1];exact hx.drop _) (by rw[e1];exact hy.drop _) (q3 rfl)
  exact key n 0 xs ys r (by rw[nA];exact hx) (by rw[nA];exact hy) hs
 ·exfalso;unfold tk1 at hk;rcases hu with⟨fs,hu⟩|⟨m,e,hu⟩<;>(rw[hu] at hk;cases hk)
theorem sM{P:Program}{E:Env}{w:World}:∀(d:Nat)(t:TypeId)(ks:List TK),tkN P d t=some ks->∀(vx vy:List Value)(a a':Nat)(xs ys:List AV)(r:Bool),dP E w vx a xs->dP E w vy a' ys->xs.length<=ks.length->ys.length<=ks.length->dU ks xs ys=some r->
    ∃v1 v2,(part t vx.toArray a).run P w=.ok v1 w/\(part t vy.toArray a').run P w=.ok v2 w/\∀D,d<=D->(Op.equalIn D t v1 v2).run P w=.ok r w
 |0,t,ks,h=>by cases h
 |d+1,t,ks,h=>by
  intro vx vy a a' xs ys r hx hy lx ly hs
  have agg:((∃fs,P.underlying t=some (.struct fs))\/ ∃m e,P.underlying t=some (.array m e))->P.cellsOf t=ks.length->∃v1 v2,(part t vx.toArray a).run P w=.ok v1 w/\(part t vy.toArray a').run P w=.ok v2 w/\∀D,d+1<=D->(Op.equalIn D t v1 v2).run P w=.ok r w:=λhu hc=>by
   refine⟨_,_,og hu hc _ _,og hu hc _ _,λD hD=>?_⟩;obtain⟨D,rfl⟩:∃D',D=D'+1:=⟨D-1,by omega⟩
   rw[ja,ja];exact AW (sM d) h hu (hx.ext lx) (hy.ext ly) hs D (by omega)
  rcases kH h with⟨hu,_,_,hc⟩|⟨n,e,es,hu,_,hc,_⟩|⟨k,hk,rfl⟩
  ·exact agg (.inl ⟨_,hu⟩) hc
  ·exact agg (.inr ⟨_,_,hu⟩) hc
  ·cases xs with
   |nil=>cases ys<;>cases hs
   |cons x xs=>
   cases ys with
   |nil=>cases hs
   |cons y ys=>
   have lx:xs.length+1<=1:=lx;have ly:ys.length+1<=1:=ly;obtain rfl:xs=[]:=fP.1 (by omega);obtain rfl:ys=[]:=fP.1 (by omega);obtain⟨v1,e1,r1⟩:=hx 0 x rfl;obtain⟨v2,e2,r2⟩:=hy 0 y rfl;refine⟨v1,v2,ff hk (by simpa using e1),ff hk (by simpa using e2),λD hD=>?_⟩;obtain⟨D,rfl⟩:∃D',D=D'+1:=⟨D-1,by omega⟩
   simp only[dU] at hs;split at hs
   ·rename_i h1;cases hs;exact eZ hk r1 r2 h1 D
   ·rename_i h1;cases hs;exact eZ hk r1 r2 h1 D
   ·cases hs
def tkT(P:Program)(t:TypeId):Option (List TK):=match P.underlying t with
 |some (.struct _)|some (.array _ _)=>if P.eqGuardType P.depth t=false then tkN P 8 t else none
 |_=>none
theorem y7{P:Program}{t:TypeId}{ks:List TK}(h:tkT P t=some ks):((∃fs,P.underlying t=some (.struct fs))\/ ∃m e,P.underlying t=some (.array m e))/\P.eqGuardType P.depth t=false/\tkN P 8 t=some ks/\P.cellsOf t=ks.length:=by
 unfold tkT at h
 have key:tkN P 8 t=some ks->((∃fs,P.underlying t=some (.struct fs))\/ ∃m e,P.underlying t=some (.array m e))->P.cellsOf t=ks.length:=by
  intro h1 hu;rcases kH h1 with⟨_,_,_,hc⟩|⟨_,_,_,_,_,hc,_⟩|⟨k,hk,_⟩
  ·exact hc
  ·exact hc
  ·unfold tk1 at hk;rcases hu with⟨fs,hu⟩|⟨m,e,hu⟩<;>(rw[hu] at hk;cases hk)
 split at h
 ·rename_i fs hu;split at h
  ·exact⟨.inl ⟨_,hu⟩,by assumption,h,key h (.inl ⟨_,hu⟩)⟩
  ·cases h
 ·rename_i m e hu;split at h
  ·exact⟨.inr ⟨_,_,hu⟩,by assumption,h,key h (.inr ⟨_,_,hu⟩)⟩
  ·cases h
 ·cases h
theorem dP.of{E:Env}{w:World}{vs:List Value}{xs:List AV}(hl:vs.length=xs.length)(hr:∀(i:Nat)(x:AV)(y:Value),xs[i]?=some x->vs[i]?=some y->Rel E w x y):dP E w vs 0 xs:=λj x hj=>by
 have hlt:j<vs.length:=by have:=(bH.1 hj).1;omega
 exact⟨vs[j],by simp[hlt],hr j x _ hj (by simp[hlt])⟩
theorem sI{P:Program}{E:Env}{w:World}{t:TypeId}{ks:List TK}{xs ys:List AV}{vx vy:Value}{r:Bool}(hk:tkT P t=some ks)(hx:Rel E w (.agg xs) vx)(hy:Rel E w (.agg ys) vy)(h:dU ks xs ys=some r)(D:Nat):
    (Op.equalIn (D+8) t vx vy).run P w=.ok r w:=by
 obtain⟨hu,_,hN,hc⟩:=y7 hk;cases hx with
 |agg _ v1 l1 r1=>
 cases hy with
 |agg _ v2 l2 r2=>
 exact AW (sM 7) hN hu (.of l1 r1) (.of l2 r2) h (D+7) (by omega)
theorem AA{P:Program}{f:TypeId->Option (List TK)}:∀{fs:List Field}{i:Nat}{ks:List TK},Cq P f i fs=some ks->∀g∈fs,∃k,f g.type=some k/\i<=g.offset/\g.offset+k.length<=i+ks.length
 |[],i,ks,_,g,hg=>by cases hg
 |f1::fs,i,ks,h,g,hg=>by
  simp only[Cq] at h;split at h
  case isFalse=>cases h
  rename_i hno;split at h
  case h_2=>cases h
  rename_i k1 h1;split at h
  case h_2=>cases h
  rename_i k2 h2;cases h;rw[cP];rcases gR.1 hg with rfl|hg
  ·exact⟨k1,h1,by omega,by omega⟩
  ·obtain⟨k,q1,q2,q3⟩:=AA h2 g hg;exact⟨k,q1,by omega,by omega⟩
def KL(P:Program)(t:TypeId):Option (List TK):=match tkS P t with
 |some ks=>some ks
 |none=>match tkR P t with
  |some ks=>some ks
  |none=>tkT P t
theorem yb{P:Program}{t:TypeId}{ks:List TK}(hk:KL P t=some ks):P.eqGuardType P.depth t=false/\∀{E:Env}{w:World}{xs ys:List AV}{vx vy:Value}{r:Bool},Rel E w (.agg xs) vx->Rel E w (.agg ys) vy->dU ks xs ys=some r->(Op.equalIn 10000 t vx vy).run P w=.ok r w:=by
 unfold KL at hk;split at hk
 ·rename_i ks' hs;cases hk;exact⟨(qf hs).2.2.1,λhx hy h=>oD hs hx hy h 9998⟩
 ·split at hk
  ·rename_i ks' hs;cases hk;exact⟨(Hw hs).2.2.1,λhx hy h=>Al hs hx hy h 9997⟩
  ·exact⟨(y7 hk).2.1,λhx hy h=>sI hk hx hy h 9992⟩
def j8(op:BinOp)(ks:List TK)(xs ys:List AV):Option AV:=match op,dU ks xs ys with
 |.eql,some b=>some (.bool b)
 |.neq,some b=>some (.bool (!b))
 |_,_=>none
def Ee(P:Program)(op:BinOp)(t:TypeId)(x y:AV):Option AV:=
 match x,y with
 |.agg xs,.agg ys=>match KL P t with|some ks=>j8 op ks xs ys|none=>none
 |.int k a,.int k' b=>if op=.shl\/op=.shr then ou op k a b else if k=k' then fe op k a b else none
 |.bool a,.bool b=>if DP P t then(match op with|.eql=>some (.bool (a==b))|.neq=>some (.bool (!(a==b)))|_=>none) else none
 |.str a,.str b=>yO op a b
 |.nilf,.nilf=>match P.underlying t,op with
  |some (.func ..),.eql=>some (.bool true)
  |some (.func ..),.neq=>some (.bool false)
  |_,_=>none
 |.func _ _,.nilf=>match P.underlying t,op with
  |some (.func ..),.eql=>some (.bool false)
  |some (.func ..),.neq=>some (.bool true)
  |_,_=>none
 |_,_=>none
theorem EJ{P:Program}{w:World}{op:BinOp}{k k':IntKind}{a b:Int}{r:AV}(h:ou op k a b=some r):
    ∃v,(Op.shift op k a k' b).run P w=.ok v w/\∀E,Rel E w r v:=by
 unfold ou at h;split at h
 case isTrue=>cases h
 case isFalse hb=>
  unfold Op.shift;simp only[hb,if_false];cases op<;>simp at h<;>subst h<;>exact⟨_,rfl,λE=>.int _ _⟩
theorem ET{P:Program}{w:World}{op:BinOp}{k:IntKind}{a b:Int}{t:TypeId}{r:AV}(h:fe op k a b=some r):
    ∃v,(binOp op t (.int k a) (.int k b)).run P w=.ok v w/\∀E,Rel E w r v:=by
 cases op<;>simp only[fe] at h
 case quo=>
  split at h
  ·cases h
  ·rename_i hb;cases h;exact⟨_,by simp only[binOp,Op.intDiv,ne_eq,not_true_eq_false,if_false,hb];rfl,λE=>.int _ _⟩
 case rem=>
  split at h
  ·cases h
  ·rename_i hb;cases h;exact⟨_,by simp only[binOp,Op.intDiv,ne_eq,not_true_eq_false,if_false,hb];rfl,λE=>.int _ _⟩
 case shl=>cases h
 case shr=>cases h
 all_goals
  cases h;refine⟨_,by simp only[binOp,Op.intArith,Op.intBits,Op.intCmp,ne_eq,not_true_eq_false,if_false];rfl,λE=>?_⟩;constructor
theorem Fi{P:Program}{w:World}{op:BinOp}{x y:ByteArray}{r:AV}(h:yO op x y=some r):
    ∃v,(Op.stringOp op x y).run P w=.ok v w/\∀E,Rel E w r v:=by
 cases op<;>simp only[yO] at h
 case add=>
  split at h
  case isFalse=>cases h
  case isTrue hs=>
   cases h;refine⟨_,?_,λE=>.str _⟩;unfold Op.stringOp;simp only;rw[if_neg]
   ·rfl
   ·have:IntKind.i64.max=9223372036854775807:=by decide
    rw[this];omega
 all_goals first
  |(cases h;done)
  | (cases h
     refine⟨_,by unfold Op.stringOp;rfl,λE=>?_⟩;constructor)
theorem HC{β:Type}{c:Prop}[Decidable c]{x y z:β}(hx:x=z)(hy:y=z):(if c then x else y)=z:=by split<;>assumption
theorem gK{P:Program}{w:World}{op:BinOp}{t:TypeId}{x y:Operand}{a b:Value}
    (h:¬(a=.nilIface/\b=.nilIface)) (h2:∀c,a≠.agg c):(eqGuard op t x y a b).run P w=.ok () w:=by
 unfold eqGuard;rw[Sem.run_ite];refine HC rfl ?_;cases a<;>cases b<;>first|rfl|(exact absurd ⟨rfl,rfl⟩ h)|(exact absurd rfl (h2 _))
theorem BZ{P:Program}{E:Env}{w:World}{op:BinOp}{t:TypeId}{x y:AV}{vx vy:Value}{r:AV}(ox oy:Operand)
    (hx:Rel E w x vx) (hy:Rel E w y vy) (h:Ee P op t x y=some r):
    ∃v,(do eqGuard op t ox oy vx vy;binOp op t vx vy:Sem Value).run P w=.ok v w/\Rel E w r v:=by
 unfold Ee at h;split at h
 ·rename_i xs ys;split at h
  case h_2=>cases h
  rename_i ks hks;have hE:=(yb hks).1;unfold j8 at h;split at h
  ·rename_i b hs;cases h;have:=(yb hks).2 hx hy hs;cases hx;cases hy;rw[bA,run_eqGuard_agg w _ t _ _ _ _ hE];simp only[bu];exact⟨_,by rw[run_eql_struct w,this];rfl,.bool _⟩
  ·rename_i b hs;cases h;have:=(yb hks).2 hx hy hs;cases hx;cases hy;rw[bA,run_eqGuard_agg w _ t _ _ _ _ hE];simp only[bu];exact⟨_,by rw[run_neq_struct w,this];rfl,.bool _⟩
  ·cases h
 ·rename_i k a k' b;cases hx;cases hy;rw[bA,gK (by simp) (by simp)];simp only[bu];split at h
  case isTrue hs=>
   obtain⟨v,hv,hr⟩:=EJ (P:=P) (w:=w) (k':=k') h;refine⟨v,?_,hr E⟩;rcases hs with rfl|rfl<;>exact hv
  case isFalse hs=>
   split at h
   case isFalse=>cases h
   case isTrue hk=>
    subst hk;obtain⟨v,hv,hr⟩:=ET (P:=P) (w:=w) (t:=t) h;exact⟨v,hv,hr E⟩
 ·rename_i a b;cases hx;cases hy;rw[bA,gK (by simp) (by simp)];simp only[bu];split at h
  case isFalse=>cases h
  case isTrue ht=>
   have hu:P.underlying t=some .bool:=by
    unfold DP at ht;cases hd:P.underlying t with
    |none=>simp[hd] at ht
    |some d=>cases d<;>simp[hd] at ht;rfl
   cases op<;>simp at h<;>subst h
   ·exact⟨_,run_eql_bool w t a b hu,.bool _⟩
   ·exact⟨_,run_neq_bool w t a b hu,by have:=Rel.bool (E:=E) (w:=w) (!(a==b));simpa[bne] using this⟩
 ·rename_i a b;cases hx;cases hy;rw[bA,gK (by simp) (by simp)];simp only[bu];obtain⟨v,hv,hr⟩:=Fi (P:=P) (w:=w) h;refine⟨v,?_,hr E⟩;have:binOp op t (.string a) (.string b)=Op.stringOp op a b:=by unfold binOp;cases op<;>rfl
  rw[this];exact hv
 ·cases hx;cases hy;rw[bA,gK (by simp) (by simp)];simp only[bu]
  have he:∀d ps rs vr,P.underlying t=some (.func ps rs vr)->(Op.equalIn (d+1) t .nilFunc .nilFunc).run P w=.ok true w:=λd ps rs vr hu=>by
   simp[Op.equalIn,cp hu]
  split at h<;>cases h
  ·rename_i ps rs vr hu;exact⟨.bool true,by simp only[binOp,Op.equal,Op.maxDepth,bA,he 9999 _ _ _ hu,bu];rfl,.bool _⟩
  ·rename_i ps rs vr hu;exact⟨.bool false,by simp only[binOp,Op.equal,Op.maxDepth,bA,he 9999 _ _ _ hu,bu];rfl,.bool _⟩
 ·rename_i f caps;cases hy;cases hx with
  |func f caps cv hl hr=>
  rw[bA,gK (by simp) (by simp)];simp only[bu]
  have he:∀d ps rs vr,P.underlying t=some (.func ps rs vr)->(Op.equalIn (d+1) t (.func (.func f) #[] cv.toArray) .nilFunc).run P w=.ok false w:=λd ps rs vr hu=>by
   simp[Op.equalIn,cp hu]
  split at h<;>cases h
  ·rename_i ps rs vr hu;exact⟨.bool false,by simp only[binOp,Op.equal,Op.maxDepth,bA,he 9999 _ _ _ hu,bu];rfl,.bool _⟩
  ·rename_i ps rs vr hu;exact⟨.bool true,by simp only[binOp,Op.equal,Op.maxDepth,bA,he 9999 _ _ _ hu,bu];rfl,.bool _⟩
 ·cases h
def aun(op:UnOp)(x:AV):Option AV:=
 match op,x with
 |.neg,.int k n=>some (.int k (k.wrap (0-n)))
 |.xor,.int k n=>some (.int k (k.wrap (BitVec.ofInt k.bits (if k.signed then-1 else k.max) ^^^ BitVec.ofInt k.bits n).toNat))
 |.not,.bool b=>some (.bool (!b))
 |_,_=>none
theorem EO{P:Program}{E:Env}{w:World}{op:UnOp}{x:AV}{vx:Value}{r:AV}(hx:Rel E w x vx)(h:aun op x=some r):
    ∃v,(Op.unary op vx).run P w=.ok v w/\Rel E w r v:=by
 unfold aun at h;split at h<;>cases h<;>cases hx
 ·exact⟨_,rfl,.int _ _⟩
 ·exact⟨_,rfl,.int _ _⟩
 ·exact⟨_,rfl,.bool _⟩
def Dm(P:Program)(src dst:TypeId)(x:AV):Option AV:=
 match x with
 |.int _ n=>if tok P src then(match lS P dst with|some k=>some (.int k (k.wrap n))|none=>none) else none
 |_=>none
theorem AD{P:Program}{E:Env}{w:World}{src dst:TypeId}{x:AV}{vx:Value}{r:AV}(hx:Rel E w x vx)(h:Dm P src dst x=some r):
    ∃v,(convert src dst vx).run P w=.ok v w/\Rel E w r v:=by
 unfold Dm at h;split at h
 ·rename_i k0 n;cases hx;split at h
  case isFalse=>cases h
  case isTrue hs=>
   split at h
   ·rename_i k hk;cases h;unfold tok at hs;unfold lS at hk;cases hd:P.underlying src with
    |none=>simp[hd] at hs
    |some d=>
     cases hd2:P.underlying dst with
     |none=>simp[hd2] at hk
     |some d2=>
      cases d2<;>simp[hd2] at hk;subst hk;refine⟨_,?_,.int _ _⟩;simp only[convert,bA,cp hd,cp hd2,bu];cases d<;>rfl
   ·cases h
 ·cases h
def apart(P:Program)(t:TypeId)(cs:List AV)(off:Nat):Option AV:=
 if tok P t then
  if sf P t then(if off+P.cellsOf t<=cs.length then some (.agg ((cs.drop off).take (P.cellsOf t))) else none) else cs[off]?
 else none
theorem sG{P:Program}{E:Env}{w:World}{t:TypeId}{cs:List AV}{vs:List Value}{off:Nat}{r:AV}(hl:vs.length=cs.length)
    (hr:∀(i:Nat)(x:AV)(y:Value),cs[i]?=some x->vs[i]?=some y->Rel E w x y) (h:apart P t cs off=some r):
    ∃v,(part t vs.toArray off).run P w=.ok v w/\Rel E w r v:=by
 unfold apart at h;split at h
 case isFalse=>cases h
 case isTrue ht=>
  split at h
  case isTrue ha=>
   split at h
   case isFalse=>cases h
   case isTrue hle=>
    cases h;refine⟨.agg ((vs.drop off).take (P.cellsOf t)).toArray,?_,.agg _ _ (by simp;omega) ?_⟩
    ·simp only[part,bA,iV ht,ha,if_true,aU ht,bu,eG]
     congr 2
     rw[List.extract_toArray]
     congr 1
     rw[List.extract_eq_take_drop]
     congr 1
     omega
    ·intro i x y hx hy;rw[jl] at hx hy;split at hx
     case isFalse=>cases hx
     case isTrue hi=>
      rw[if_pos hi] at hy;rw[kJ] at hx hy;exact hr _ _ _ hx hy
  case isFalse ha=>
   have hlt:off<vs.length:=by have:=(bH.1 h).1;omega
   refine⟨vs[off],?_,hr off r _ h (by simp[hlt])⟩;simp[part,iV ht,ha,hlt]
def uN(P:Program)(t:TypeId)(x:AV)(f:Nat):Option AV:=
 match x,P.underlying t with
 |.agg cs,some (.struct fs)=>match fs[f]? with
  |some fd=>apart P fd.type cs fd.offset
  |none=>none
 |_,_=>none
theorem yP{P:Program}{E:Env}{w:World}{t:TypeId}{x:AV}{vx:Value}{f:Nat}{r:AV}(hx:Rel E w x vx)(h:uN P t x f=some r):
    ∃v,(Instr.field t vx f).run P w=.ok v w/\Rel E w r v:=by
 unfold uN at h;split at h
 ·rename_i cs fs hu;cases hx with
  |agg cs vs hl hr=>
  split at h
  ·rename_i fd hf;obtain⟨v,hv,hrel⟩:=sG (P:=P) hl hr h;refine⟨v,?_,hrel⟩;simp[Instr.field,cp hu,hf,asAgg,hv]
  ·cases h
 ·cases h
def rK(P:Program)(t:TypeId)(x i:AV):Option AV:=
 match x,i with
 |.agg cs,.int _ n=>match B3 P t with
  |some (len,e)=>if 0<=n/\n<len then apart P e cs (n.toNat*P.cellsOf e) else none
  |none=>none
 |.str s,.int _ n=>match P.underlying t with
  |some .string=>if 0<=n then(match s[n.toNat]? with|some b=>some (.int .u8 b.toNat)|none=>none) else none
  |_=>none
 |_,_=>none
theorem CU{P:Program}{t:TypeId}{n:Nat}{e:TypeId}(h:B3 P t=some (n,e)):P.underlying t=some (.array n e):=by
 unfold B3 at h;cases hd:P.underlying t with
 |none=>simp[hd] at h
 |some d=>cases d<;>simp[hd] at h;obtain⟨rfl,rfl⟩:=h;rfl
theorem iC{P:Program}{t:TypeId}{e:TypeId}(h:gw P t=some e):P.underlying t=some (.slice e):=by
 unfold gw at h;cases hd:P.underlying t with
 |none=>simp[hd] at h
 |some d=>cases d<;>simp[hd] at h;subst h;rfl
theorem Ff{P:Program}{t:TypeId}{cs:List AV}{off:Nat}{r:AV}(h:apart P t cs off=some r):tok P t=true:=by
 unfold apart at h;split at h
 ·assumption
 ·cases h
theorem zk{P:Program}{E:Env}{w:World}{t:TypeId}{x i:AV}{vx vi:Value}{r:AV}(hx:Rel E w x vx)(hi:Rel E w i vi)(h:rK P t x i=some r):
    ∃v,(Instr.index t vx vi).run P w=.ok v w/\Rel E w r v:=by
 unfold rK at h;split at h
 ·rename_i cs k n;cases hi;cases hx with
  |agg cs vs hl hr=>
  split at h
  ·rename_i len e he;split at h
   case isFalse=>cases h
   case isTrue hb=>
    obtain⟨v,hv,hrel⟩:=sG (P:=P) hl hr h;refine⟨v,?_,hrel⟩;simp[Instr.index,asIntOf,cp (CU he),hb,aU (Ff h),hv]
  ·cases h
 ·rename_i s k n;cases hi;cases hx;split at h
  ·rename_i hu;split at h
   case isFalse=>cases h
   case isTrue hb=>
    split at h
    ·rename_i b hs;cases h;refine⟨_,?_,.int _ _⟩;simp[Instr.index,asIntOf,cp hu,hb,hs]
    ·cases h
  ·cases h
 ·cases h
def jW(x:AV)(i:Nat):Option AV:=
 match x with
 |.tup vs=>vs[i]?
 |_=>none
theorem uu{P:Program}{E:Env}{w:World}{x:AV}{vx:Value}{i:Nat}{r:AV}(hx:Rel E w x vx)(h:jW x i=some r):
    ∃v,(Instr.extract vx i).run P w=.ok v w/\Rel E w r v:=by
 unfold jW at h;split at h
 ·cases hx with
  |tup cs vs hl hr=>
  have hlt:i<vs.length:=by have:=(bH.1 h).1;omega
  exact⟨vs[i],by simp[Instr.extract,hlt],hr i r _ h (by simp[hlt])⟩
 ·cases h
def jm(k:Nat):AV->Option AV
 |.ptr b n off=>some (.ptr b n (off+k))
 |.iptr cells off=>some (.iptr cells (off+k))
 |_=>none
theorem s9{E:Env}{w:World}{p:AV}{v:Value}{k:Nat}{r:AV}(hp:Rel E w p v)(h:jm k p=some r):
    ∃blk o,v=.pointer (some ⟨blk,o,none⟩)/\Rel E w r (.pointer (some ⟨blk,o+k,none⟩)):=by
 unfold jm at h;split at h
 ·cases h;cases hp with
  |ptr b n off blk sz hm=>exact⟨blk,_,rfl,.ptr _ _ _ _ _ hm⟩
 ·cases h;cases hp with
  |iptr cells off blk o vals hi hc hr=>exact⟨blk,_,rfl,by rw[kw];exact .iptr _ _ _ _ _ hi hc hr⟩
 ·cases h
def ni(P:Program)(t:TypeId)(p:AV)(f:Nat):Option AV:=
 match MP P t f with
 |some k=>jm k p
 |none=>none
theorem rP{P:Program}{E:Env}{w:World}{t:TypeId}{p:AV}{v:Value}{f:Nat}{r:AV}(hp:Rel E w p v)(h:ni P t p f=some r):
    ∃u,(Instr.fieldAt t v f).run P w=.ok u w/\Rel E w r u:=by
 unfold ni at h;split at h
 ·rename_i k hk;obtain⟨blk,o,rfl,hr⟩:=s9 hp h;refine⟨_,?_,hr⟩;unfold MP at hk;cases hd:P.underlying t with
  |none=>simp[hd] at hk
  |some d=>
   cases d<;>simp only[hd] at hk<;>try (cases hk)
   rename_i fs;cases hf:fs[f]? with
   |none=>simp[hf] at hk
   |some fd=>
    simp only[hf] at hk;split at hk
    ·cases hk
    ·rename_i hz;cases hk;simp only[lU,gq,not_or,Bool.not_eq_true] at hz;obtain⟨hz1,hz2⟩:=hz;cases hi:P.info? fd.type with
     |none=>simp[hi] at hz2
     |some i=>
     have hsz:(sizeOf fd.type).run P w=.ok (P.cellsOf fd.type) w:=by simp[sizeOf,typeInfo,hi,Program.cellsOf]
     simp only[Instr.fieldAt,bA,cp hd,bu,hf,Instr.sureAddr,eG,fieldPlace,hsz,hz1,if_false,ci]
 ·cases h
def kV(P:Program)(t:TypeId)(x i:AV):Option AV:=
 match i with
 |.int _ n=>
  match P.underlying t with
  |some (.array len e)=>if tok P e/\0<=n/\n<len then jm (n.toNat*P.cellsOf e) x else none
  | some (.slice e)=>if tok P e then (match x with
   |.sl sz elems=>if sz=P.cellsOf e/\0<=n then(match elems[n.toNat]? with|some y=>some (.iptr y.cells 0)|none=>none) else none
   |.msl b m sz off len=>if sz=P.cellsOf e/\0<=n/\n<len then some (.ptr b m (off+n.toNat*sz)) else none
   |_=>none) else none
  |_=>none
 |_=>none
theorem rM{P:Program}{E:Env}{w:World}{t:TypeId}{x i:AV}{vx vi:Value}{r:AV}(hx:Rel E w x vx)(hi:Rel E w i vi)(h:kV P t x i=some r):
    ∃v,(Instr.indexAt t vx vi).run P w=.ok v w/\Rel E w r v:=by
 unfold kV at h;split at h
 ·rename_i k n;cases hi;split at h
  ·rename_i len e hu;split at h
   case isFalse=>cases h
   case isTrue hc=>
    obtain⟨he,h0,h1⟩:=hc;obtain⟨blk,o,rfl,hr⟩:=s9 hx h;refine⟨_,?_,hr⟩;simp[Instr.indexAt,asIntOf,cp hu,Instr.sureAddr,h0,h1,aU he,ci]
  ·rename_i e hu;split at h
   case isFalse=>cases h
   case isTrue he=>
    split at h
    ·rename_i sz elems;split at h
     case isFalse=>cases h
     case isTrue hc=>
      obtain⟨rfl,h0⟩:=hc;split at h
      ·rename_i y hy;cases h;have hlt:n.toNat<elems.length:=(bH.1 hy).1;have h1:n<(elems.length:Int):=by omega
       cases hx with
       |slnil sz=>simp at hlt
       |slempty sz=>simp at hlt
       |sl sz elems blk o cap vals him hlen hsz hcell hr=>
       have hyl:y.cells.length=P.cellsOf e:=hsz y (ir hy);refine⟨.pointer (some ⟨blk,o+n.toNat*P.cellsOf e,none⟩),?_,?_⟩
       ·simp[Instr.indexAt,asIntOf,cp hu,h0,h1,aU he,ci]
       ·have:=Rel.iptr (E:=E) (w:=w) y.cells 0 blk (o + n.toNat * P.cellsOf e) (fun j=>vals (n.toNat * P.cellsOf e + j)) him (fun j hj=>by
          rw[kw];refine hcell _ ?_;rw[hyl] at hj;have:(n.toNat+1)*P.cellsOf e<=elems.length*P.cellsOf e:=jv _ hlt;rw[d8] at this;omega) (λj z hz=>hr _ _ _ _ hy hz)
        exact this
      ·cases h
    ·rename_i b m sz off len;split at h
     case isFalse=>cases h
     case isTrue hc=>
      obtain⟨rfl,h0,h1⟩:=hc;cases h;cases hx with
      |msl _ _ _ _ _ blk bsz cap hm hl hcp hn=>
       refine⟨_,?_,.ptr _ _ _ _ _ hm⟩;simp[Instr.indexAt,asIntOf,cp hu,h0,h1,aU he,ci]
      |msl0 b sz v hv=>omega
    ·cases h
  ·cases h
 ·cases h
def D5(P:Program)(t:TypeId)(x:AV):Option AV:=
 match P.underlying t,x with
 |some (.slice _),.sl _ elems=>some (.int .i64 elems.length)
 |some (.slice _),.esl=>some (.int .i64 0)
 |some (.slice _),.msl _ _ _ _ len=>some (.int .i64 len)
 |some .string,.str s=>some (.int .i64 s.size)
 |some (.array n _),_=>some (.int .i64 n)
 |_,_=>none
theorem BX{P:Program}{E:Env}{w:World}{t:TypeId}{x:AV}{vx:Value}{r:AV}(ty:TypeId)(hx:Rel E w x vx)(h:D5 P t x=some r):
    ∃v,(Builtin.len_ #[t] ty #[vx]).run P w=.ok v w/\Rel E w r v:=by
 unfold D5 at h;split at h<;>cases h
 ·rename_i e sz elems hu;refine⟨_,?_,.int _ _⟩;cases hx<;>simp[Builtin.len_,cp hu,goInt]
 ·rename_i e hu;refine⟨_,?_,.int _ _⟩;cases hx<;>simp[Builtin.len_,cp hu,goInt]
 ·rename_i e b n sz off len hu;refine⟨_,?_,.int _ _⟩;cases hx with
  |msl=>simp[Builtin.len_,cp hu,goInt]
  |msl0 b sz v hv=>rcases hv with rfl|⟨_,rfl⟩<;>simp[Builtin.len_,cp hu,goInt]
 ·rename_i s hu;cases hx;exact⟨_,by simp[Builtin.len_,cp hu];rfl,.int _ _⟩
 ·rename_i n e hu;exact⟨_,by simp[Builtin.len_,cp hu];rfl,.int _ _⟩
def bF(d:Nat):Option AV->Option Nat
 |none=>some d
 |some (.int _ n)=>if 0<=n then some n.toNat else none
 |some _=>none
def AV.isAgg:AV->Bool
 |.agg _=>true
 |_=>false
theorem AV.cells_self{x:AV}(h:x.isAgg=false):x.cells=[x]:=by cases x<;>first|rfl|(cases h;done)
def xL(n:Nat)(x:AV)(lo hi mx:Option AV):Option AV:=match x with
 |.iptr cells off=>match bF 0 lo,bF n hi,mx with
  |some l,some h,none=>if l<=h/\h<=n/\off+n<=cells.length/\cells.all (λc=>!c.isAgg)=true then some (.sl 1 ((((cells.drop off).take h).drop l))) else none
  |_,_,_=>none
 |_=>none
def su(P:Program)(t:TypeId)(x:AV)(lo hi mx:Option AV):Option AV:=
 match P.underlying t with
 |some (.slice e)=>if tok P e then
     match x with
     |.sl sz elems=>
      match bF 0 lo,bF elems.length hi,mx with
      |some l,some h,none=>if sz=P.cellsOf e/\l<=h/\h<=elems.length then some (.sl sz ((elems.take h).drop l)) else none
      |some l,some h,some m=>match bF 0 (some m) with
       |some m=>if l=0/\h=0/\m=0 then some .esl else none
       |none=>none
      |_,_,_=>none
     |.esl=>match bF 0 lo,bF 0 hi,mx with
      |some 0,some 0,none=>some .esl
      |_,_,_=>none
     |.msl b n sz off len=>
      match bF 0 lo,bF len hi,mx with
      |some l,some h,none=>if sz=P.cellsOf e/\l<=h/\h<=len/\n≠0 then(if l=0\/l<h then some (.msl b n sz (off+l*sz) (h-l)) else some (.sl sz [])) else if sz=P.cellsOf e/\l<h/\0<sz/\off+h*sz<=n/\n≠0 then some (.msl b n sz (off+l*sz) (h-l)) else none
      |some l,some h,some m=>match bF 0 (some m) with
       |some m=>if l=0/\h=0/\m=0 then some .esl else if l<=h/\h<=m/\m<=len/\n≠0 then some .undef else none
       |none=>none
      |_,_,_=>none
     |_=>none
  else none
 |some .string=>match x with
  |.str s=>match bF 0 lo,bF s.size hi,mx with
   |some l,some h,none=>if l<=h/\h<=s.size then some (.str (s.extract l h)) else none
   |_,_,_=>none
  |_=>none
 |some (.array n e)=>if tok P e=true/\P.cellsOf e=1 then xL n x lo hi mx else none
 |_=>none
theorem bO{P:Program}{w:World}{k:IntKind}{n:Int}{y:Nat}{c:BoundsCode}(h0:0<=n)(h1:n.toNat<=y):
    (Instr.sliceBound (.int k n) y c).run P w=.ok n.toNat w:=by
 have:0<=n/\n<=(y:Int):=by omega
 simp[Instr.sliceBound,asIntOf,this]
theorem cq{P:Program}{E:Env}{w:World}{lo hi:Option AV}{vlo vhi:Option Value}{isS:Bool}{len cap l h:Nat}
    (hlo:∀x,lo=some x->∃v,vlo=some v/\Rel E w x v) (hlo':lo=none->vlo=none) (hhi:∀x,hi=some x->∃v,vhi=some v/\Rel E w x v) (hhi':hi=none->vhi=none)
    (hl:bF 0 lo=some l) (hh:bF len hi=some h) (h1:l<=h) (h2:h<=cap):
    (Instr.sliceBounds isS len cap vlo vhi none).run P w=.ok (l,h,cap) w:=by
 unfold Instr.sliceBounds;cases hi with
 |none=>
  simp[bF] at hh;subst hh;rw[hhi' rfl];cases lo with
  |none=>
   simp[bF] at hl;subst hl;rw[hlo' rfl];simp
  |some x=>
   obtain⟨v,rfl,hv⟩:=hlo x rfl;cases x<;>simp[bF] at hl;cases hv;obtain⟨h0,rfl⟩:=hl;simp[bO h0 h1]
 |some y=>
  obtain⟨u,rfl,hu⟩:=hhi y rfl;cases y<;>simp[bF] at hh;cases hu;obtain⟨h0',rfl⟩:=hh;cases lo with
  |none=>
   simp[bF] at hl;subst hl;rw[hlo' rfl];simp[bO h0' h2]
  |some x=>
   obtain⟨v,rfl,hv⟩:=hlo x rfl;cases x<;>simp[bF] at hl;cases hv;obtain⟨h0,rfl⟩:=hl;simp[bO h0' h2,bO h0 h1]
theorem my{P:Program}{E:Env}{w:World}{lo hi:Option AV}{m:AV}{vlo vhi:Option Value}{vm:Value}{isS:Bool}{len cap d:Nat}
    (hlo:∀x,lo=some x->∃v,vlo=some v/\Rel E w x v) (hlo':lo=none->vlo=none) (hhi:∀x,hi=some x->∃v,vhi=some v/\Rel E w x v) (hhi':hi=none->vhi=none)
    (hm:Rel E w m vm) (hl:bF 0 lo=some 0) (hh:bF d hi=some 0) (hhs:hi≠none) (hm0:bF 0 (some m)=some 0):
    (Instr.sliceBounds isS len cap vlo vhi (some vm)).run P w=.ok (0,0,0) w:=by
 unfold Instr.sliceBounds;cases m<;>simp only[bF] at hm0<;>try (cases hm0)
 rename_i km nm;split at hm0
 case isFalse=>cases hm0
 case isTrue hnm=>
 simp only[mF] at hm0;cases hm;cases hi with
 |none=>exact absurd rfl hhs
 |some y=>
  obtain⟨u,rfl,hu⟩:=hhi y rfl;cases y<;>simp only[bF] at hh<;>try (cases hh)
  rename_i kh nh;split at hh
  case isFalse=>cases hh
  case isTrue hnh=>
  simp only[mF] at hh;cases hu;cases lo with
  |none=>
   rw[hlo' rfl];simp[bO hnm (show nm.toNat<=cap by omega),hm0,bO hnh (show nh.toNat<=0 by omega),hh]
  |some x=>
   obtain⟨v,rfl,hv⟩:=hlo x rfl;cases x<;>simp only[bF] at hl<;>try (cases hl)
   rename_i kl nl;split at hl
   case isFalse=>cases hl
   case isTrue hnl=>
   simp only[mF] at hl;cases hv;simp[bO hnm (show nm.toNat<=cap by omega),hm0,bO hnh (show nh.toNat<=0 by omega),hh,bO hnl (show nl.toNat<=0 by omega),hl]
theorem qJ{P:Program}{E:Env}{w:World}{lo hi:Option AV}{m:AV}{vlo vhi:Option Value}{vm:Value}{isS:Bool}{len cap d l h mm:Nat}
    (hlo:∀x,lo=some x->∃v,vlo=some v/\Rel E w x v) (hlo':lo=none->vlo=none) (hhi:∀x,hi=some x->∃v,vhi=some v/\Rel E w x v) (hhi':hi=none->vhi=none)
    (hm:Rel E w m vm) (hl:bF 0 lo=some l) (hh:bF d hi=some h) (hhs:hi≠none) (hm0:bF 0 (some m)=some mm) (h1:l<=h) (h2:h<=mm) (h3:mm<=cap):
    (Instr.sliceBounds isS len cap vlo vhi (some vm)).run P w=.ok (l,h,mm) w:=by
 unfold Instr.sliceBounds;cases m<;>simp only[bF] at hm0<;>try (cases hm0)
 rename_i km nm;split at hm0
 case isFalse=>cases hm0
 case isTrue hnm=>
 simp only[mF] at hm0;subst hm0;cases hm;cases hi with
 |none=>exact absurd rfl hhs
 |some y=>
  obtain⟨u,rfl,hu⟩:=hhi y rfl;cases y<;>simp only[bF] at hh<;>try (cases hh)
  rename_i kh nh;split at hh
  case isFalse=>cases hh
  case isTrue hnh=>
  simp only[mF] at hh;subst hh;cases hu;cases lo with
  |none=>
   rw[hlo' rfl];simp only[bF,mF] at hl;subst hl;simp[bO hnm h3,bO hnh h2]
  |some x=>
   obtain⟨v,rfl,hv⟩:=hlo x rfl;cases x<;>simp only[bF] at hl<;>try (cases hl)
   rename_i kl nl;split at hl
   case isFalse=>cases hl
   case isTrue hnl=>
   simp only[mF] at hl;subst hl;cases hv;simp[bO hnm h3,bO hnh h2,bO hnl h1]
theorem Eb{P:Program}{w:World}{t e:TypeId}{x:Value}{lo hi mx:Option Value}(hu:P.underlying t=some (.slice e)):
    (Instr.sliceAt t x lo hi mx).run P w=(Instr.slice t x lo hi mx).run P w:=by
 simp[Instr.sliceAt,cp hu]
theorem pH{α:Type}{l:List α}{a h i:Nat}{x:α}(hx:((l.take h).drop a)[i]?=some x):l[a+i]?=some x:=by
 rw[kJ,jl] at hx;split at hx
 ·exact hx
 ·cases hx
theorem x6{P:Program}{E:Env}{w:World}{t:TypeId}{x:AV}{vx:Value}{lo hi mx:Option AV}{vlo vhi vmx:Option Value}{r:AV}(hx:Rel E w x vx)
    (hlo:∀x,lo=some x->∃v,vlo=some v/\Rel E w x v) (hlo':lo=none->vlo=none) (hhi:∀x,hi=some x->∃v,vhi=some v/\Rel E w x v) (hhi':hi=none->vhi=none)
    (hmx:∀x,mx=some x->∃v,vmx=some v/\Rel E w x v) (hmx':mx=none->vmx=none) (hmh:mx≠none->hi≠none) (h:su P t x lo hi mx=some r):
    ∃v,(Instr.sliceAt t vx vlo vhi vmx).run P w=.ok v w/\Rel E w r v:=by
 unfold su at h;split at h
 ·rename_i e hu;rw[Eb hu];split at h
  case isFalse=>cases h
  case isTrue he=>
  split at h
  ·rename_i sz elems;split at h
   ·rename_i l hh hl hhh;split at h
    case isFalse=>cases h
    case isTrue hc=>
    obtain⟨rfl,h1,h2⟩:=hc;cases h;rw[hmx' rfl];cases hx with
    |slnil sz=>
     simp at h2;subst h2;obtain rfl:l=0:=by omega
     refine⟨.slice none 0 0,?_,by simpa using Rel.slnil _⟩;have:=cq (P:=P) (w:=w) (isS:=true) (len:=0) (cap:=0) hlo hlo' hhi hhi' hl hhh (bc _) (bc _);simp[Instr.slice,cp hu,this,aU he]
    |slempty sz a cap=>
     simp at h2;subst h2;obtain rfl:l=0:=by omega
     have:=cq (P:=P) (w:=w) (isS:=true) (len:=0) (cap:=cap) hlo hlo' hhi hhi' hl hhh (bc _) (bo _);refine⟨.slice (some a) 0 cap,?_,by simpa using Rel.slempty _ a cap⟩;by_cases hc0:cap=0
     ·subst hc0;simp[Instr.slice,cp hu,this,aU he]
     ·simp[Instr.slice,cp hu,this,aU he,hc0,Addr.add]
    |sl sz elems blk o cap vals him hlen hsz hcell hr=>
     have:=cq (P:=P) (w:=w) (isS:=true) (len:=elems.length) (cap:=cap) hlo hlo' hhi hhi' hl hhh h1 (by omega);by_cases hcl:cap=l
     ·-- nothing is left
      subst hcl;obtain rfl:hh=cap:=by omega
      refine⟨.slice (some ⟨blk,o,none⟩) 0 0,?_,?_⟩
      ·simp[Instr.slice,cp hu,this,aU he]
      ·have hnil:List.drop hh (List.take hh elems)=[]:=by simp
       rw[hnil];have:=Rel.sl (E:=E) (w:=w) (P.cellsOf e) [] blk o 0 vals him (bc _) (by simp) (by simp) (by simp);exact this
     ·refine⟨.slice (some ⟨blk,o+l*P.cellsOf e,none⟩) (hh-l) (cap-l),?_,?_⟩
      ·simp[Instr.slice,cp hu,this,aU he,hcl,ci]
      ·have hlen':(List.drop l (List.take hh elems)).length=hh-l:=by simp;omega
       have:=Rel.sl (E:=E) (w:=w) (P.cellsOf e) (List.drop l (List.take hh elems)) blk (o+l*P.cellsOf e) (cap-l) (λi=>vals (l*P.cellsOf e+i)) him (by omega)
        (λx hx=>hsz x (BW (B7 hx)))
        (fun i hi=>by
         rw[kw];refine hcell _ ?_;rw[hlen'] at hi;have:l*P.cellsOf e+(hh-l)*P.cellsOf e<=elems.length*P.cellsOf e:=by rw[<-d8];exact jv _ (by omega)
         omega)
        (fun i j x y hx hy=>by
         have:=hr (l+i) j x y (pH hx) hy;rw[d8,kw] at this;exact this)
       rw[hlen'] at this;exact this
   ·rename_i l hh m hl hhh;split at h
    ·rename_i m' hm';split at h
     case isFalse=>cases h
     case isTrue hc=>
     obtain⟨rfl,rfl,rfl⟩:=hc;cases h;obtain⟨vm,rfl,hvm⟩:=hmx m rfl;have hhn:=hmh (by simp);have this:=λlen cap=>my (P:=P) (w:=w) (isS:=true) (len:=len) (cap:=cap) (d:=elems.length) hlo hlo' hhi hhi' hvm hl hhh hhn hm';cases hx with
     |slnil sz=>
      refine⟨.slice none 0 0,?_,.eslnil⟩;simp[Instr.slice,cp hu,this,aU he]
     |slempty sz a cap=>
      refine⟨.slice (some a) 0 0,?_,.esl _⟩;simp[Instr.slice,cp hu,this,aU he]
     |sl sz elems blk o cap vals him hlen hsz hcell hr=>
      refine⟨.slice (some ⟨blk,o,none⟩) 0 0,?_,.esl _⟩;simp[Instr.slice,cp hu,this,aU he]
    ·cases h
   ·cases h
  ·split at h
   ·rename_i hl hhh;cases h;rw[hmx' rfl];cases hx with
    |eslnil=>
     have:=cq (P:=P) (w:=w) (isS:=true) (len:=0) (cap:=0) hlo hlo' hhi hhi' hl hhh (bc _) (bc _);exact⟨.slice none 0 0,by simp[Instr.slice,cp hu,this,aU he],.eslnil⟩
    |esl a=>
     have:=cq (P:=P) (w:=w) (isS:=true) (len:=0) (cap:=0) hlo hlo' hhi hhi' hl hhh (bc _) (bc _);exact⟨.slice (some a) 0 0,by simp[Instr.slice,cp hu,this,aU he],.esl _⟩
   ·cases h
  ·rename_i b n sz off len;split at h
   ·rename_i l hh hl hhh;split at h
    case isFalse=>
     split at h
     case isFalse=>cases h
     case isTrue hc=>
     obtain⟨rfl,h1,h2,h4,h3⟩:=hc;cases h;rw[hmx' rfl];cases hx with
     |msl0=>exact absurd rfl h3
     |msl _ _ _ _ _ blk bsz cap hm hlc hcp hn=>
      have hcap:hh<=cap:=Nat.le_of_mul_le_mul_right (show hh*P.cellsOf e<=cap*P.cellsOf e by omega) h2;have:=cq (P:=P) (w:=w) (isS:=true) (len:=len) (cap:=cap) hlo hlo' hhi hhi' hl hhh (Nat.le_of_lt h1) hcap;have hmul:l*P.cellsOf e+(cap-l)*P.cellsOf e=cap*P.cellsOf e:=by rw[<-d8];congr 1;omega
      refine⟨.slice (some ⟨blk,off+l*P.cellsOf e,none⟩) (hh-l) (cap-l),?_,.msl _ _ _ _ _ blk bsz _ hm (by omega) (by omega) (by omega)⟩;simp[Instr.slice,cp hu,this,aU he,ci,show ¬cap=l by omega]
    case isTrue hc=>
    obtain⟨rfl,h1,h2,h3⟩:=hc;rw[hmx' rfl];cases hx with
    |msl0=>exact absurd rfl h3
    |msl _ _ _ _ _ blk bsz cap hm hlc hcp hn=>
     have:=cq (P:=P) (w:=w) (isS:=true) (len:=len) (cap:=cap) hlo hlo' hhi hhi' hl hhh h1 (by omega)
     have hrun:(Instr.slice t (.slice (some ⟨blk,off,none⟩) len cap) vlo vhi none).run P w=.ok (.slice (some (if cap=l then⟨blk,off,none⟩ else⟨blk,off+l*P.cellsOf e,none⟩)) (hh-l) (cap-l)) w:=by
      simp[Instr.slice,cp hu,this,aU he,ci];split<;>rfl
     have hmul:l*P.cellsOf e+(cap-l)*P.cellsOf e=cap*P.cellsOf e:=by rw[<-d8];congr 1;omega
     split at h
     ·rename_i hll;cases h;refine⟨_,hrun,?_⟩
      have hadd:(if cap=l then(⟨blk,off,none⟩:Addr) else⟨blk,off+l*P.cellsOf e,none⟩)=⟨blk,off+l*P.cellsOf e,none⟩:=by
       split
       ·rcases hll with rfl|hll
        ·simp
        ·omega
       ·rfl
      rw[hadd];exact .msl _ _ _ _ _ blk bsz _ hm (by omega) (by omega) (by omega)
     ·rename_i hll;cases h;refine⟨_,hrun,?_⟩;have:hh-l=0:=by omega
      rw[this];split
      ·exact .slempty _ _ _
      ·exact .slempty _ _ _
   ·rename_i l hh m hl hhh;split at h
    ·rename_i m' hm';split at h
     case isFalse=>
      split at h
      case isFalse=>cases h
      case isTrue hc=>
      obtain⟨c1,c2,c3,c4⟩:=hc;cases h;obtain⟨vm,rfl,hvm⟩:=hmx m rfl;have hhn:=hmh (by simp);cases hx with
      |msl0=>exact absurd rfl c4
      |msl _ _ _ _ _ blk bsz cap hm hlc hcp hn=>
       have this:=qJ (P:=P) (w:=w) (isS:=true) (len:=len) (cap:=cap) (d:=len) hlo hlo' hhi hhi' hvm hl hhh hhn hm' c1 c2 (by omega);refine⟨.slice (some (if m'=l then⟨blk,off,none⟩ else⟨blk,off+l*P.cellsOf e,none⟩)) (hh-l) (m'-l),?_,.undef _⟩;simp[Instr.slice,cp hu,this,aU he,ci];split<;>rfl
     case isTrue hc=>
     obtain⟨rfl,rfl,rfl⟩:=hc;cases h;obtain⟨vm,rfl,hvm⟩:=hmx m rfl;have hhn:=hmh (by simp);have this:=λlen' cap=>my (P:=P) (w:=w) (isS:=true) (len:=len') (cap:=cap) (d:=len) hlo hlo' hhi hhi' hvm hl hhh hhn hm';cases hx with
     |msl0 b sz v hv=>
      rcases hv with rfl|⟨a,rfl⟩
      ·exact⟨.slice none 0 0,by simp[Instr.slice,cp hu,this,aU he],.eslnil⟩
      ·exact⟨.slice (some a) 0 0,by simp[Instr.slice,cp hu,this,aU he],.esl _⟩
     |msl _ _ _ _ _ blk bsz cap hm hlc hcp hn=>
      refine⟨.slice (some ⟨blk,off,none⟩) 0 0,?_,.esl _⟩;simp[Instr.slice,cp hu,this,aU he]
    ·cases h
   ·cases h
  ·cases h
 ·rename_i hu;split at h
  ·rename_i s;cases hx;split at h
   ·rename_i l hh hl hhh;split at h
    case isFalse=>cases h
    case isTrue hc=>
    cases h;rw[hmx' rfl];have:=cq (P:=P) (w:=w) (isS:=false) (len:=s.size) (cap:=s.size) hlo hlo' hhi hhi' hl hhh hc.1 hc.2;refine⟨.string (s.extract l hh),?_,.str _⟩;simp[Instr.sliceAt,Instr.slice,cp hu,this]
   ·cases h
  ·cases h
 ·rename_i n e hu;split at h
  case isFalse=>cases h
  case isTrue he=>
  obtain⟨he1,he2⟩:=he;unfold xL at h;split at h
  ·rename_i cells off;split at h
   ·rename_i l hh hl hhh;split at h
    case isFalse=>cases h
    case isTrue hc=>
    obtain⟨h1,h2,h3,h4⟩:=hc;cases h;rw[hmx' rfl];cases hx with
    |iptr _ _ blk o vals hi hcell hr=>
     have:=cq (P:=P) (w:=w) (isS:=false) (len:=n) (cap:=n) hlo hlo' hhi hhi' hl hhh h1 h2;have hsz:=aU (P:=P) he1 w;rw[he2] at hsz;have hself:∀x∈cells,x.cells=[x]:=λx hx=>AV.cells_self (by simpa using dQ.1 h4 x hx);by_cases hnl:n=l
     ·subst hnl;obtain rfl:hh=n:=by omega
      refine⟨.slice (some ⟨blk,o+off,none⟩) 0 0,?_,?_⟩
      ·simp[Instr.sliceAt,cp hu,this,hsz,Instr.sureAddr]
      ·have hnil:List.drop hh (List.take hh (List.drop off cells))=[]:=by simp
       rw[hnil];exact .slempty _ _ _
     ·refine⟨.slice (some ⟨blk,o+off+l,none⟩) (hh-l) (n-l),?_,?_⟩
      ·simp[Instr.sliceAt,cp hu,this,hsz,Instr.sureAddr,hnl,ci]
      ·have hlen':(List.drop l (List.take hh (List.drop off cells))).length=hh-l:=by simp;omega
       have hget:∀(i:Nat)(x:AV),(List.drop l (List.take hh (List.drop off cells)))[i]?=some x->cells[off+l+i]?=some x:=by
        intro i x hx;have:=pH hx;rw[kJ] at this;rw[<-this];congr 1;omega
       have:=Rel.sl (E:=E) (w:=w) 1 (List.drop l (List.take hh (List.drop off cells))) blk (o+off+l) (n-l) (λi=>vals (off+l+i)) hi (by omega)
        (λx hx=>by rw[hself x (B7 (BW (B7 hx)))];rfl)
        (fun i hi'=>by
         have:=hcell (off+l+i) (by rw[hlen'] at hi';omega);rw[<-this];congr 2;omega)
        (fun i j x y hx hy=>by
         rw[hself x (B7 (BW (B7 (ir hx))))] at hy;cases j with
         |zero=>
          simp at hy;subst hy;have:=hr _ _ (hget i x hx);simpa using this
         |succ j=>simp at hy)
       rw[hlen'] at this;exact this
   ·cases h
  ·cases h
 ·cases h
def AV.one:AV->Bool
 |.undef|.agg _|.tup _|.omap _ _|.oloop _ _|.oiter _ _ _|.bmap _ _ _ _|.biter _ _ _=>false
 |_=>true
theorem AV.one_special{x:AV}(h:x.one=true):x.special=false:=by cases x<;>first|rfl|(cases h;done)
theorem Rel.one{E:Env}{w:World}{x:AV}{v:Value}(h:Rel E w x v)(ho:x.one=true):v.oneCell'=true:=by
 cases h<;>first|rfl|(simp[AV.one] at ho;done)|skip
 case msl0 b sz h=>rcases h with rfl|⟨_,rfl⟩<;>rfl
def AV.flat(x:AV):Bool:=x.cells.all AV.one
theorem Rel.cells{E:Env}{w:World}{x:AV}{v:Value}(h:Rel E w x v)(hf:x.flat=true):
    v.cells.toList.length=x.cells.length/\(∀(i:Nat)(a:AV)(y:Value),x.cells[i]?=some a->v.cells.toList[i]?=some y->Rel E w a y)/\(∀y∈v.cells.toList,y.oneCell'=true):=by
 have hone:∀(hx:x.cells=[x])(hv:v.cells=#[v]),v.cells.toList.length=x.cells.length/\(∀(i:Nat)(a:AV)(y:Value),x.cells[i]?=some a->v.cells.toList[i]?=some y->Rel E w a y)/\(∀y∈v.cells.toList,y.oneCell'=true):=by
  intro hx hv;have ho:x.one=true:=by simpa[AV.flat,hx] using hf
  rw[hx,hv];refine⟨rfl,?_,?_⟩
  ·intro i a y ha hy;cases i with
   |zero=>simp at ha hy;subst ha hy;exact h
   |succ i=>simp at ha
  ·intro y hy;simp at hy;subst hy;exact h.one ho
 cases h with
 |agg cs vs hl hr=>
  refine⟨by simpa[Value.cells,AV.cells] using hl,by simpa[Value.cells,AV.cells] using hr,?_⟩;intro y hy;simp[Value.cells] at hy;obtain⟨i,hi⟩:=rY hy;have hlt:i<cs.length:=by have:=(bH.1 hi).1;omega
  have:=hr i cs[i] y (by simp[hlt]) hi;refine this.one ?_;have hall:cs.all AV.one=true:=hf;exact dQ.1 hall _ (mq hlt)
 |undef v=>simp[AV.flat,AV.cells,AV.one] at hf
 |tup cs vs hl hr=>simp[AV.flat,AV.cells,AV.one] at hf
 |msl0 b sz v h=>rcases h with rfl|⟨_,rfl⟩<;>exact hone rfl rfl
 |_=>exact hone rfl rfl
def fQ(w w':World):Prop:=∀(k:Nat)(o:Obj),w.heap[k]?=some o->lu o=false->w'.heap[k]?=some o
theorem fQ.refl(w:World):fQ w w:=λ_ _ h _=>h
theorem fQ.trans{w w' w'':World}(h:fQ w w')(h':fQ w' w''):fQ w w'':=λk o ho hc=>h' k o (h k o ho hc) hc
theorem EnvOk.step{E E':Env}{w w':World}(h:EnvOk E w)(he:Ext E w E' w')(hn:∀b,E'.imm b->E.imm b\/b<w'.heap.size)(hns:∀k,E'.imm k->E.imm k\/ ∀b,E.sp b≠some k)(hb:Below E.base w w')(hst:fQ w w')(hsp:E'.sp=E.sp)(hlp:E'.lp=E.lp)(hdm:E'.dm=E.dm)(hmu:∀b k,E.sp b=some k->∀n,E'.mu b n=E.mu b n):EnvOk E' w':=by
 refine⟨λb hb'=>?_,?_,λb hb'=>?_,?_,λb k hk=>?_,λb k hk n=>?_,λb r T hl=>?_⟩
 ·rcases hn b hb' with h1|h1
  ·exact Ak (h.lt b h1) he.size
  ·exact h1
 ·rw[he.base,he.w0];exact h.below.trans hb
 ·rw[hdm] at hb';obtain⟨ds,hd⟩:=h.dm b hb';exact⟨ds,hst _ _ hd rfl⟩
 ·rw[hsp];exact h.spi
 ·rw[hsp] at hk;obtain⟨h1,h2,o,h3,h4,h5⟩:=h.spb b k hk;refine⟨by rw[he.base];exact h1,λhi=>?_,o,hst _ _ h3 h4,h4,h5⟩;rcases hns k hi with h6|h6
  ·exact h2 h6
  ·exact h6 b hk
 ·rw[hsp] at hk;rw[hmu b k hk n];exact h.spm b k hk n
 ·rw[hlp] at hl;obtain⟨k,st,p,h1,h2,h3⟩:=h.lp b r T hl;exact⟨k,st,p,by rw[hsp];exact h1,hst _ _ h2 rfl,λt=>(h3 t).ext he⟩
theorem EnvOk.step0{E E':Env}{w w':World}(h:EnvOk E w)(he:Ext E w E' w')(hi:E'.imm=E.imm)(hb:Below E.base w w')(hst:fQ w w')(hsp:E'.sp=E.sp)(hlp:E'.lp=E.lp)(hdm:E'.dm=E.dm)(hmu:∀b k,E.sp b=some k->∀n,E'.mu b n=E.mu b n):EnvOk E' w':=
 h.step he (λb hb=>.inl (by rw[hi] at hb;exact hb)) (λk hk=>.inl (by rw[hi] at hk;exact hk)) hb hst hsp hlp hdm hmu
theorem MapOk.ext{E E':Env}{w w':World}(he:Ext E w E' w'){ks vs:List AV}{es:Array MapEntry}{clock:Nat}(h:MapOk E w ks vs es clock):MapOk E' w' ks vs es clock:=
 ⟨h.len,h.len',λi x e h1 h2=>(h.key i x e h1 h2).ext he,λi x e h1 h2=>(h.val i x e h1 h2).ext he,h.born,h.clk⟩
theorem MapB.ext{E E':Env}{w w':World}(he:Ext E w E' w'){ks vs:List AV}{bs:List Nat}{ck:Nat}{es:Array MapEntry}(h:MapB E w ks vs bs ck es):MapB E' w' ks vs bs ck es:=
 ⟨h.len,h.len',h.blen,λi x e h1 h2=>(h.key i x e h1 h2).ext he,λi x e h1 h2=>(h.val i x e h1 h2).ext he,h.born,h.nd,h.lt⟩
theorem yJ.ext{E E':Env}{w w':World}(he:Ext E w E' w')(hst:∀(k:Nat)(o:Obj),E.sp k=none\/True->w.heap[k]?=some o->lu o=false->w'.heap[k]?=some o){b k:Nat}{x:AV}(h:yJ E w b k x):yJ E' w' b k x:=by
 cases x with
 |omap ks vs=>
  obtain⟨es,clock,h1,h2⟩:=h;exact⟨es,clock,hst _ _ (.inr trivial) h1 rfl,h2.ext he⟩
 |oloop r T=>exact⟨hst _ _ (.inr trivial) h.1 rfl,he.lp _ _ h.2⟩
 |oiter m n0 seen=>
  obtain⟨km,last,h1,h2,h3⟩:=h;exact⟨km,last,hst _ _ (.inr trivial) h1 rfl,he.sp _ _ h2,h3⟩
 |bmap ks vs bs ck=>
  obtain⟨es,h1,h2⟩:=h;exact⟨es,hst _ _ (.inr trivial) h1 rfl,h2.ext he⟩
 |biter m n0 seen=>
  obtain⟨km,h1,h2⟩:=h;exact⟨km,hst _ _ (.inr trivial) h1 rfl,he.sp _ _ h2⟩
 |_=>exact h.elim
theorem HeapOk.step{E E':Env}{H:Nat->Option (List AV)}{nx nx':Nat}{w w':World}(h:HeapOk E H nx w)(he:Ext E w E' w')
    (hi:∀b,E'.imm b->E.imm b\/w.heap.size<=b) (hnx:nx<=nx')
    (hv:∀b cs,H b=some cs->∀m,E'.mu b m=E.mu b m)
    (hk:∀b cs blk sz,H b=some cs->E.mu b cs.length=some (blk,sz)->w'.heap[blk]?=w.heap[blk]?) (hst:fQ w w') (hsp:E'.sp=E.sp):HeapOk E' H nx' w':=by
 refine⟨?_,λb cs hb=>Ak (h.dom b cs hb) hnx,?_,by rw[he.base];exact eK h.size he.size,λb cs m x hb hm=>h.top b cs m x hb (by rw[<-hv b cs hb m];exact hm),λb x hb hx=>?_,λb hb=>by rw[hsp];exact h.nsp b hb⟩
 ·intro b cs hb;rcases h.box b cs hb with hn|⟨blk,sz,hx⟩
  ·exact .inl (by rw[hv b cs hb];exact hn)
  obtain⟨vals,ty,fz,h1,hz1,h2,h3,h4⟩:=hx.cells;refine .inr ⟨blk,sz,he.mu _ _ _ hx.mu,by rw[he.base];exact hx.base,?_,vals,ty,fz,by rw[hk b cs blk sz hb hx.mu];exact h1,hz1,h2,h3,?_⟩
  ·intro him;rcases hi blk him with h5|h5
   ·exact hx.imm h5
   ·have:=(kT.1 h1).1;omega
  ·intro i x hx';obtain⟨v,hv,ho,hr⟩:=h4 i x hx';exact⟨v,hv,ho,hr.ext he⟩
 ·have key:∀b cs blk sz,H b=some cs->E'.mu b cs.length=some (blk,sz)->E.mu b cs.length=some (blk,sz):=by
    intro b cs blk sz hb hm;rw[hv b cs hb] at hm;exact hm
  intro b b' cs cs' blk sz blk' sz' hb hb' hne h1 h2;exact h.apart b b' cs cs' blk sz blk' sz' hb hb' hne (key _ _ _ _ hb h1) (key _ _ _ _ hb' h2)
 ·obtain⟨k,h1,h2⟩:=h.spec b x hb hx;exact⟨k,he.sp _ _ h1,h2.ext he (λk o _=>hst k o)⟩
theorem sN{E:Env}{w:World}{x:AV}{v:Value}(h:Rel E w x v):x.special=false:=by cases h<;>rfl
def av(H:Nat->Option (List AV))(b:Nat)(cs:List AV):Nat->Option (List AV):=λx=>if x=b then some cs else H x
theorem cr{w:World}{o:Obj}{k:Nat}(h:k<w.heap.size):(w.alloc o).heap[k]?=w.heap[k]?:=Below.heap_alloc w o k h
theorem fQ.alloc(w:World)(o:Obj):fQ w (w.alloc o):=λk o' h _=>by
 rw[cr (kT.1 h).1];exact h
theorem EnvOk.dlt{E:Env}{w:World}(hE:EnvOk E w){b:Nat}(h:E.dm b):b<w.heap.size:=by
 obtain⟨ds,hd⟩:=hE.dm b h;exact(kT.1 hd).1
theorem EnvOk.splt{E:Env}{w:World}(hE:EnvOk E w){b k:Nat}(h:E.sp b=some k):k<w.heap.size:=by
 obtain⟨_,_,o,hd,_⟩:=hE.spb b k h;exact(kT.1 hd).1
theorem Ext.alloc(E:Env)(w:World)(o:Obj)(hE:EnvOk E w):Ext E w E (w.alloc o):=
 ⟨rfl,rfl,λ_ h=>h,λ_ h=>.inl h,λ_ _ _ h=>h,λ_ _ h=>h,λ_ _ h=>h,λ_ h=>⟨h,cr (hE.dlt h)⟩,by simp,λb hb=>cr (hE.lt b hb),bc _⟩
theorem HeapOk.blk_lt{E:Env}{H:Nat->Option (List AV)}{nx:Nat}{w:World}(h:HeapOk E H nx w){b:Nat}{cs:List AV}{blk sz:Nat}(hb:H b=some cs)(hm:E.mu b cs.length=some (blk,sz)):
    blk<w.heap.size/\E.base<=blk/\¬E.imm blk:=by
 rcases h.box b cs hb with hn|⟨blk',sz',hx⟩
 ·rw[hn] at hm;cases hm
 ·rw[hx.mu] at hm;cases hm;obtain⟨vals,ty,fz,h1,_⟩:=hx.cells;exact⟨(kT.1 h1).1,hx.base,hx.imm⟩
theorem HeapOk.alloc{E:Env}{H:Nat->Option (List AV)}{nx:Nat}{w:World}(h:HeapOk E H nx w)(hE:EnvOk E w)(o:Obj):HeapOk E H nx (w.alloc o):=
 h.step (Ext.alloc E w o hE) (λ_ h=>.inl h) (bc _) (λ_ _ _ _=>rfl) (λb cs blk sz hb hm=>cr (h.blk_lt hb hm).1) (fQ.alloc w o) rfl
theorem EnvOk.alloc{E:Env}{w:World}(hE:EnvOk E w)(hs:E.base<=w.heap.size)(o:Obj):EnvOk E (w.alloc o):=
 hE.step0 (Ext.alloc E w o hE) rfl ((Below.refl _ _).alloc hs o) (fQ.alloc w o) rfl rfl rfl (λ_ _ _ _=>rfl)
theorem HeapOk.placeZ{E:Env}{H:Nat->Option (List AV)}{nx nx':Nat}{w:World}(h:HeapOk E H nx w)(hE:EnvOk E w){b:Nat}{cs':List AV}(hb:b<nx')(hnx:nx<=nx')(hold:∀m x,E.mu b m=some x->m<cs'.length)(hnsp:E.sp b=none)
    (vals:Array Value) (ty:TypeId) (fz:Nat×Nat) (hz:∀j,j<vals.size->¬(fz.1<=j/\j<fz.2)) (hl:cs'.length<=vals.size)
    (hr:∀(i:Nat)(x:AV),cs'[i]?=some x->∃v:Value,vals[i]?=some v/\v.oneCell'=true/\Rel E w x v):
    ∃E',Ext E w E' (w.alloc (.cells vals ty fz))/\EnvOk E' (w.alloc (.cells vals ty fz))/\HeapOk E' (av H b cs') nx' (w.alloc (.cells vals ty fz))/\E'.mu b cs'.length=some (w.heap.size,vals.size)/\(∀b,E'.imm b->E.imm b)/\(∀b' n,b'≠b->E'.mu b' n=E.mu b' n)/\E'.sp=E.sp/\E'.lp=E.lp:=by
 let E':Env:={E with mu:=λb' n=>if b'=b/\n=cs'.length then some (w.heap.size,vals.size) else E.mu b' n}
 have hmuE:∀b' n x,E.mu b' n=some x->E'.mu b' n=some x:=by
  intro b' n x hm;show(if b'=b/\n=cs'.length then some (w.heap.size,vals.size) else E.mu b' n)=some x;split
  ·rename_i hc;obtain⟨rfl,rfl⟩:=hc;have:=hold _ _ hm;omega
  ·exact hm
 have hext:Ext E w E' (w.alloc (.cells vals ty fz)):=
  ⟨rfl,rfl,λ_ h=>h,λ_ h=>.inl h,hmuE,λ_ _ h=>h,λ_ _ h=>h,λ_ h=>⟨h,cr (hE.dlt h)⟩,by simp,λb hb=>cr (hE.lt b hb),bc _⟩
 have hmu':∀b' n,b'≠b->E'.mu b' n=E.mu b' n:=λb' n hb'=>if_neg (λe=>hb' e.1);have hself:E'.mu b cs'.length=some (w.heap.size,vals.size):=if_pos ⟨rfl,rfl⟩;have hlt:∀b' cs1 blk1 sz1,H b'=some cs1->E.mu b' cs1.length=some (blk1,sz1)->blk1<w.heap.size:=λb' cs1 blk1 sz1 hb' hm=>(h.blk_lt hb' hm).1
 have hspec:∀b' x,av H b cs' b'=some [x]->x.special=true->∃k,E'.sp b'=some k/\yJ E' (w.alloc (.cells vals ty fz)) b' k x:=by
  intro b' x hb' hx;unfold av at hb';split at hb'
  ·cases hb';obtain⟨v,_,_,hrel⟩:=hr 0 x rfl;rw[sN hrel] at hx;cases hx
  ·obtain⟨k,h1,h2⟩:=h.spec b' x hb' hx;exact⟨k,h1,h2.ext hext (λk o _=>fQ.alloc w _ k o)⟩
 refine ⟨E',hext,hE.step0 hext rfl ((Below.refl _ _).alloc h.size _) (fQ.alloc w _) rfl rfl rfl (fun b' k hk n=>hmu' b' n (fun e=>by subst e; rw [hnsp] at hk; cases hk)),⟨?_,?_,?_,by simpa using Nat.le_succ_of_le h.size,?_,hspec,fun b' hb'=>by
  unfold av at hb';split at hb'
  ·subst_vars;exact hnsp
  ·exact h.nsp b' hb'⟩,hself,λ_ h=>h,hmu',rfl,rfl⟩
 ·intro b' cs1 hb';unfold av at hb';split at hb'
  ·subst_vars;cases hb'
   refine .inr ⟨w.heap.size,vals.size,hself,h.size,λhi=>by have:=hE.lt _ hi;omega,vals,ty,fz,World.alloc_heap_new w _,hz,rfl,hl,λi x hx=>?_⟩;obtain⟨v,hv,ho,hrel⟩:=hr i x hx;exact⟨v,hv,ho,hrel.ext hext⟩
  ·rename_i hne;rcases h.box b' cs1 hb' with hn|⟨blk1,sz1,hx1⟩
   ·exact .inl (by rw[hmu' _ _ hne];exact hn)
   ·obtain⟨vals1,ty1,fz1,k1,kz1,k2,k3,k4⟩:=hx1.cells;refine .inr ⟨blk1,sz1,by rw[hmu' _ _ hne];exact hx1.mu,hx1.base,hx1.imm,vals1,ty1,fz1,by rw[cr (hlt _ _ _ _ hb' hx1.mu)];exact k1,kz1,k2,k3,λi x hxi=>?_⟩;obtain⟨v,hv,ho,hrel⟩:=k4 i x hxi;exact⟨v,hv,ho,hrel.ext hext⟩
 ·intro b' cs1 hb';unfold av at hb';split at hb'
  ·subst_vars;exact hb
  ·exact Ak (h.dom _ _ hb') hnx
 ·intro b1 b2 cs1 cs2 blk1 sz1 blk2 sz2 hb1 hb2 hne m1 m2;unfold av at hb1 hb2;split at hb1
  ·subst_vars;cases hb1
   rw[if_neg (Ne.symm hne)] at hb2;rw[hself] at m1;cases m1;rw[hmu' _ _ (Ne.symm hne)] at m2;have:=hlt _ _ _ _ hb2 m2;omega
  ·rename_i hn1;split at hb2
   ·subst_vars;cases hb2
    rw[hself] at m2;cases m2;rw[hmu' _ _ hn1] at m1;have:=hlt _ _ _ _ hb1 m1;omega
   ·rename_i hn2;rw[hmu' _ _ hn1] at m1;rw[hmu' _ _ hn2] at m2;exact h.apart b1 b2 cs1 cs2 blk1 sz1 blk2 sz2 hb1 hb2 hne m1 m2
 ·intro b' cs1 m x hb' hm;unfold av at hb';split at hb'
  ·subst_vars;cases hb'
   have hm:(if b'=b'/\m=cs'.length then some (w.heap.size,vals.size) else E.mu b' m)=some x:=hm;split at hm
   ·rename_i hc;omega
   ·have:=hold _ _ hm;omega
  ·rename_i hne;rw[hmu' _ _ hne] at hm;exact h.top _ _ _ _ hb' hm
theorem HeapOk.place{E:Env}{H:Nat->Option (List AV)}{nx nx':Nat}{w:World}(h:HeapOk E H nx w)(hE:EnvOk E w){b:Nat}{cs':List AV}(hb:b<nx')(hnx:nx<=nx')(hold:∀m x,E.mu b m=some x->m<cs'.length)(hnsp:E.sp b=none)
    (vals:Array Value) (ty:TypeId) (hl:cs'.length<=vals.size)
    (hr:∀(i:Nat)(x:AV),cs'[i]?=some x->∃v:Value,vals[i]?=some v/\v.oneCell'=true/\Rel E w x v):
    ∃E',Ext E w E' (w.alloc (.cells vals ty))/\EnvOk E' (w.alloc (.cells vals ty))/\HeapOk E' (av H b cs') nx' (w.alloc (.cells vals ty))/\E'.mu b cs'.length=some (w.heap.size,vals.size)/\(∀b,E'.imm b->E.imm b)/\(∀b' n,b'≠b->E'.mu b' n=E.mu b' n)/\E'.sp=E.sp/\E'.lp=E.lp:=
 h.placeZ hE hb hnx hold hnsp vals ty (0,0) (λj _ h=>by omega) hl hr
theorem HeapOk.newBox{E:Env}{H:Nat->Option (List AV)}{nx:Nat}{w:World}(h:HeapOk E H nx w)(hE:EnvOk E w)(hfree:nD E nx)(cs:List AV)(vals:Array Value)(ty:TypeId)(hl:cs.length<=vals.size)
    (hr:∀(i:Nat)(x:AV),cs[i]?=some x->∃v:Value,vals[i]?=some v/\v.oneCell'=true/\Rel E w x v):
    ∃E',Ext E w E' (w.alloc (.cells vals ty))/\EnvOk E' (w.alloc (.cells vals ty))/\HeapOk E' (av H nx cs) (nx+1) (w.alloc (.cells vals ty))/\E'.mu nx cs.length=some (w.heap.size,vals.size)/\
     (∀b,E'.imm b->E.imm b)/\(∀b n,b≠nx->E'.mu b n=E.mu b n)/\E'.sp=E.sp/\E'.lp=E.lp:=
 h.place hE (Fo _) (Nat.le_succ _) (λm x hm=>by rw[hfree.1] at hm;cases hm) hfree.2.1 vals ty hl hr
theorem HeapOk.write{E:Env}{H:Nat->Option (List AV)}{nx:Nat}{w:World}(h:HeapOk E H nx w)(hE:EnvOk E w){b:Nat}{cs cs':List AV}{blk sz:Nat}(hb:H b=some cs)(hx:BoxOk E w b cs blk sz)
    (vals':Array Value) (hs:vals'.size=sz) (hl:cs'.length<=sz) (hge:cs.length<=cs'.length) (hfree:cs'.length=cs.length\/E.mu b cs'.length=none\/E.mu b cs'.length=some (blk,sz))
    (hr:∀(i:Nat)(x:AV),cs'[i]?=some x->∃v:Value,vals'[i]?=some v/\v.oneCell'=true/\Rel E w x v):
    ∃E',Ext E w E' (w.setRow blk vals')/\EnvOk E' (w.setRow blk vals')/\HeapOk E' (av H b cs') nx (w.setRow blk vals')/\E'.mu b cs'.length=some (blk,sz)/\(∀b,E'.imm b->E.imm b)/\(∀b' n,b'≠b->E'.mu b' n=E.mu b' n)/\E'.sp=E.sp/\E'.lp=E.lp:=by
 let E':Env:={E with mu:=λb' n=>if b'=b/\n=cs'.length then some (blk,sz) else E.mu b' n}
 have hkeep:∀k,k≠blk->(w.setRow blk vals').heap[k]?=w.heap[k]?:=λk hk=>setRow_other w blk k vals' hk
 have hmuE:∀b' n x,E.mu b' n=some x->E'.mu b' n=some x:=by
  intro b' n x hm;show(if b'=b/\n=cs'.length then some (blk,sz) else E.mu b' n)=some x;split
  ·rename_i hc;obtain⟨rfl,rfl⟩:=hc;rcases hfree with h1|h1|h1
   ·rw[h1,hx.mu] at hm;exact hm
   ·rw[h1] at hm;cases hm
   ·rw[h1] at hm;exact hm
  ·exact hm
 obtain⟨vals0,ty0,fz0,h01,_⟩:=hx.cells
 have hstill:fQ w (w.setRow blk vals'):=λk o ho hc=>by
  rw[hkeep k (λe=>by subst e;rw[h01] at ho;cases ho;cases hc)];exact ho
 have hext:Ext E w E' (w.setRow blk vals'):=
  ⟨rfl,rfl,λ_ h=>h,λ_ h=>.inl h,hmuE,λ_ _ h=>h,λ_ _ h=>h,λb' hb'=>⟨hb',by obtain⟨ds,hd⟩:=hE.dm b' hb';rw[hstill _ _ hd rfl,hd]⟩,by simp,λb' hb'=>hkeep b' (λe=>hx.imm (e▸hb')),bc _⟩
 have hbel:Below E.base w (w.setRow blk vals'):=below_setRow (Below.refl _ _) hx.base _;obtain⟨vals,ty,fz,h1,hz1,h2,h3,h4⟩:=hx.cells;have hmu':∀b' n,b'≠b->E'.mu b' n=E.mu b' n:=λb' n hb'=>if_neg (λe=>hb' e.1);have hself:E'.mu b cs'.length=some (blk,sz):=if_pos ⟨rfl,rfl⟩
 have hother:∀b' cs1 blk1 sz1,b'≠b->H b'=some cs1->E.mu b' cs1.length=some (blk1,sz1)->blk1≠blk:=λb' cs1 blk1 sz1 hne hb' hm=>
  h.apart b' b cs1 cs blk1 sz1 blk sz hb' hb hne hm hx.mu
 have hspec:∀b' x,av H b cs' b'=some [x]->x.special=true->∃k,E'.sp b'=some k/\yJ E' (w.setRow blk vals') b' k x:=by
  intro b' x hb' hxs;unfold av at hb';split at hb'
  ·cases hb';obtain⟨v,_,_,hrel⟩:=hr 0 x rfl;rw[sN hrel] at hxs;cases hxs
  ·obtain⟨k,h1,h2⟩:=h.spec b' x hb' hxs;exact⟨k,h1,h2.ext hext (λk o _=>hstill k o)⟩
 refine ⟨E',hext,hE.step0 hext rfl hbel hstill rfl rfl rfl (fun b' k hk n=>hmu' b' n (fun e=>by subst e; have:=hE.spm _ _ hk cs.length; rw [hx.mu] at this; cases this)),⟨?_,?_,?_,by simpa using h.size,?_,hspec,fun b' hb'=>by
  unfold av at hb';split at hb'
  ·subst_vars;cases hb';exact h.nsp _ (by rw[hb,fP.1 (Nat.le_zero.1 hge)])
  ·exact h.nsp b' hb'⟩,hself,λ_ h=>h,hmu',rfl,rfl⟩
 ·intro b' cs1 hb';unfold av at hb';split at hb'
  ·subst_vars;cases hb'
   refine .inr ⟨blk,vals'.size,hself,hx.base,hx.imm,vals',ty,fz,setRow_heap w blk vals vals' ty fz h1,(λj hj=>hz1 j (by omega)),rfl,hl,λi x hxi=>?_⟩;obtain⟨v,hv,ho,hrel⟩:=hr i x hxi;exact⟨v,hv,ho,hrel.ext hext⟩
  ·rename_i hne;rcases h.box b' cs1 hb' with hn|⟨blk1,sz1,hx1⟩
   ·exact .inl (by rw[hmu' _ _ hne];exact hn)
   ·obtain⟨vals1,ty1,fz1,k1,kz1,k2,k3,k4⟩:=hx1.cells;refine .inr ⟨blk1,sz1,by rw[hmu' _ _ hne];exact hx1.mu,hx1.base,hx1.imm,vals1,ty1,fz1,by rw[hkeep _ (hother _ _ _ _ hne hb' hx1.mu)];exact k1,kz1,k2,k3,λi x hxi=>?_⟩;obtain⟨v,hv,ho,hrel⟩:=k4 i x hxi;exact⟨v,hv,ho,hrel.ext hext⟩
 ·intro b' cs1 hb';unfold av at hb';split at hb'
  ·subst_vars;exact h.dom _ _ hb
  ·exact h.dom _ _ hb'
 ·intro b1 b2 cs1 cs2 blk1 sz1 blk2 sz2 hb1 hb2 hne m1 m2;unfold av at hb1 hb2;split at hb1
  ·subst_vars;cases hb1
   rw[if_neg (Ne.symm hne)] at hb2;rw[hself] at m1;cases m1;rw[hmu' _ _ (Ne.symm hne)] at m2;exact Ne.symm (hother _ _ _ _ (Ne.symm hne) hb2 m2)
  ·rename_i hn1;split at hb2
   ·subst_vars;cases hb2
    rw[hself] at m2;cases m2;rw[hmu' _ _ hn1] at m1;exact hother _ _ _ _ hn1 hb1 m1
   ·rename_i hn2;rw[hmu' _ _ hn1] at m1;rw[hmu' _ _ hn2] at m2;exact h.apart b1 b2 cs1 cs2 blk1 sz1 blk2 sz2 hb1 hb2 hne m1 m2
 ·intro b' cs1 m x hb' hm;unfold av at hb';split at hb'
  ·subst_vars;cases hb'
   have hm:(if b'=b'/\m=cs'.length then some (blk,vals'.size) else E.mu b' m)=some x:=hm;split at hm
   ·rename_i hc;omega
   ·have:=h.top _ _ _ _ hb hm;omega
  ·rename_i hne;rw[hmu' _ _ hne] at hm;exact h.top _ _ _ _ hb' hm
theorem HeapOk.move{E:Env}{H:Nat->Option (List AV)}{nx:Nat}{w:World}(h:HeapOk E H nx w)(hE:EnvOk E w){b:Nat}{cs cs':List AV}(hb:H b=some cs)
    (vals:Array Value) (ty:TypeId) (hl:cs'.length<=vals.size) (hge:cs.length<cs'.length) (hnsp:E.sp b=none)
    (hr:∀(i:Nat)(x:AV),cs'[i]?=some x->∃v:Value,vals[i]?=some v/\v.oneCell'=true/\Rel E w x v):
    ∃E',Ext E w E' (w.alloc (.cells vals ty))/\EnvOk E' (w.alloc (.cells vals ty))/\HeapOk E' (av H b cs') nx (w.alloc (.cells vals ty))/\E'.mu b cs'.length=some (w.heap.size,vals.size)/\(∀b,E'.imm b->E.imm b)/\(∀b' n,b'≠b->E'.mu b' n=E.mu b' n)/\E'.sp=E.sp/\E'.lp=E.lp:=
 h.place hE (h.dom _ _ hb) (bc _) (λm x hm=>by have:=h.top _ _ _ _ hb hm;omega) hnsp vals ty hl hr
theorem HeapOk.virtual{E:Env}{H:Nat->Option (List AV)}{nx:Nat}{w:World}(h:HeapOk E H nx w)(hfree:nD E nx):HeapOk E (av H nx []) (nx+1) w:=by
 refine⟨?_,?_,?_,h.size,?_,?_,?_⟩
 ·intro b cs hb;unfold av at hb;split at hb
  ·subst_vars;cases hb;exact .inl (hfree.1 _)
  ·exact h.box b cs hb
 ·intro b cs hb;unfold av at hb;split at hb
  ·omega
  ·have:=h.dom _ _ hb;omega
 ·intro b1 b2 cs1 cs2 blk1 sz1 blk2 sz2 hb1 hb2 hne m1 m2;unfold av at hb1 hb2;split at hb1
  ·subst_vars;rw[hfree.1] at m1;cases m1
  ·split at hb2
   ·subst_vars;rw[hfree.1] at m2;cases m2
   ·exact h.apart b1 b2 cs1 cs2 blk1 sz1 blk2 sz2 hb1 hb2 hne m1 m2
 ·intro b cs m x hb hm;unfold av at hb;split at hb
  ·subst_vars;rw[hfree.1] at hm;cases hm
  ·exact h.top _ _ _ _ hb hm
 ·intro b x hb hx;unfold av at hb;split at hb
  ·cases hb
  ·exact h.spec b x hb hx
 ·intro b hb;unfold av at hb;split at hb
  ·subst_vars;exact hfree.2.1
  ·exact h.nsp b hb
theorem Ext.same{E:Env}{w w':World}(hh:w'.heap=w.heap)(hd:w.drawn<=w'.drawn:=by first|exact bc _|exact Nat.le_succ _|assumption):Ext E w E w':=
 ⟨rfl,rfl,λ_ h=>h,λ_ h=>.inl h,λ_ _ _ h=>h,λ_ _ h=>h,λ_ _ h=>h,λ_ h=>⟨h,by rw[hh]⟩,by rw[hh];exact bc _,λb _=>by rw[hh],hd⟩
theorem fQ.same{w w':World}(hh:w'.heap=w.heap):fQ w w':=λ_ _ h _=>by rw[hh];exact h
theorem HeapOk.same{E:Env}{H:Nat->Option (List AV)}{nx:Nat}{w w':World}(h:HeapOk E H nx w)(hh:w'.heap=w.heap)(hd:w.drawn<=w'.drawn:=by first|exact bc _|exact Nat.le_succ _|assumption):HeapOk E H nx w':=
 h.step (Ext.same hh hd) (λ_ h=>.inl h) (bc _) (λ_ _ _ _=>rfl) (λb cs blk sz hb hm=>by rw[hh]) (fQ.same hh) rfl
theorem EnvOk.drew{E:Env}{w:World}(h:EnvOk E w):EnvOk E w.drew:=h.step0 (Ext.same rfl) rfl (Below.refl _ _).drew (fQ.same rfl) rfl rfl rfl (λ_ _ _ _=>rfl)
def cI(cs:List AV)(off:Nat)(new:List AV):List AV:=cs.take off++new++cs.drop (off+new.length)
theorem nR{cs new:List AV}{off:Nat}(h:off+new.length<=cs.length):(cI cs off new).length=cs.length:=by
 simp[cI];omega
theorem zZ{E:Env}{w:World}{cs new:List AV}{vals nv:List Value}{off:Nat}(h:off+new.length<=cs.length)(hvl:cs.length<=vals.length)(hnl:nv.length=new.length)
    (hr:∀(i:Nat)(x:AV),cs[i]?=some x->∃v:Value,vals[i]?=some v/\v.oneCell'=true/\Rel E w x v)
    (hn:∀(i:Nat)(x:AV)(y:Value),new[i]?=some x->nv[i]?=some y->Rel E w x y) (h1:∀y∈nv,y.oneCell'=true)
    (i:Nat) (x:AV) (hx:(cI cs off new)[i]?=some x):∃v:Value,(vals.take off++nv++vals.drop (off+nv.length))[i]?=some v/\v.oneCell'=true/\Rel E w x v:=by
 unfold cI at hx;rw[io] at hx |-;by_cases hi:i<off
 ·rw[gG (by simp;omega),jl,if_pos hi] at hx;rw[gG (by simp;omega),jl,if_pos hi];exact hr i x hx
 ·rw[iA (by simp;omega)] at hx;rw[iA (by simp;omega)];have e1:(List.take off cs).length=off:=by simp;omega
  have e2:(List.take off vals).length=off:=by simp;omega
  rw[e1] at hx;rw[e2];by_cases hi2:i-off<new.length
  ·rw[gG hi2] at hx;rw[gG (by omega)];have hlt:i-off<nv.length:=by omega
   refine⟨nv[i-off],by simp[hlt],h1 _ (mq hlt),hn _ _ _ hx (by simp[hlt])⟩
  ·rw[iA (by omega),kJ] at hx;rw[iA (by omega),kJ,hnl];exact hr _ x hx
theorem eC(P:Program)(g o:Nat)(t:TypeId)(fz:Nat×Nat):∀(vs:List Value)(i:Nat)(cur:Array Value)(w:World),w.heap[g]?=some (.cells cur t fz)->(∀j,j<cur.size->¬(fz.1<=j/\j<fz.2))->o+i+vs.length<=cur.size->(∀v∈vs,v.oneCell'=true)->
    (storeCells ⟨g,o,none⟩ vs i).run P w=.ok () (w.setRow g (cur.toList.take (o+i)++vs++cur.toList.drop (o+i+vs.length)).toArray)
 |[],i,cur,w,hg,_,_,_=>by
  simp only[storeCells,jd,ss,uM,qI,Array.toArray_toList];rw[setRow_self w g cur t fz hg];rfl
 |v::rest,i,cur,w,hg,hfz,hl,h1=>by
  have hi:o+i<cur.size:=by simp at hl;omega
  have hadd:(⟨g,o,none⟩:Addr).add i=⟨g,o+i,none⟩:=by unfold Addr.add;split<;>simp_all
  have hcell:w.cell? ⟨g,o+i,none⟩=some cur[o+i]:=by simp[World.cell?,hg,hi]
  have hfro:w.frozen? ⟨g,o+i,none⟩=false:=by
   obtain⟨lo,hi'⟩:=fz;have:=hfz (o+i) hi;simp only[World.frozen?,hg,Bool.and_eq_false_iff,decide_eq_false_iff_not];simp only at this;omega
  have hst:(store ((⟨g,o,none⟩:Addr).add i) v).run P w=.ok () (w.setRow g (cur.setIfInBounds (o+i) v)):=by
   rw[hadd,run_store P w _ v _ (h1 v (by simp)),hcell];simp[hfro,setCell_eq_setRow w g (o+i) cur t fz v hg]
  have ih:=eC P g o t fz rest (i+1) (cur.setIfInBounds (o+i) v) (w.setRow g (cur.setIfInBounds (o+i) v)) (setRow_heap w g cur _ t _ hg) (λj hj=>hfz j (by simpa using hj)) (by simp at hl |-;omega) (λx hx=>h1 x (by simp[hx]));simp only[storeCells,bA,hst,bu,ih,setRow_setRow]
  congr 3
  have e:=list_seg_step cur.toList (o+i) v rest (by simp at hl |-;omega);simpa[Array.toList_setIfInBounds,kw] using e
def oB(P:Program)(E:Env)(w:World)(s:Sem Value)(r:AV)(H':Nat->Option (List AV))(nx':Nat):Prop:=
 ∃v w' E',s.run P w=.ok v w'/\Ext E w E' w'/\EnvOk E' w'/\HeapOk E' H' nx' w'/\Rel E' w' r v/\cJ E' nx'
def x5(P:Program)(E:Env)(w:World)(s:Sem Value)(r:AV)(H:Nat->Option (List AV))(nx:Nat)(H':Nat->Option (List AV))(nx':Nat):Prop:=
 (nx'=nx/\H'=H/\∃v o,s.run P w=.ok v (w.alloc o)/\∀E w,Rel E w r v)\/
 ∃(cells:List AV)(vals:Array Value)(ty:TypeId)(v:Value),H'=av H nx cells/\nx'=nx+1/\s.run P w=.ok v (w.alloc (.cells vals ty))/\cells.length<=vals.size/\
  (∀(i:Nat)(x:AV),cells[i]?=some x->∃v:Value,vals[i]?=some v/\v.oneCell'=true/\Rel E w x v)/\
  ∀(E'':Env)(w'':World),E''.mu nx cells.length=some (w.heap.size,vals.size)->Rel E'' w'' r v
theorem x5.effOk{P:Program}{E:Env}{w:World}{s:Sem Value}{r:AV}{H:Nat->Option (List AV)}{nx:Nat}{H':Nat->Option (List AV)}{nx':Nat}(h:x5 P E w s r H nx H' nx')
    (hE:EnvOk E w) (hh:HeapOk E H nx w) (hfr:cJ E nx):oB P E w s r H' nx':=by
 rcases h with⟨rfl,rfl,v,o,h1,h2⟩|⟨cells,vals,ty,v,rfl,rfl,h1,h2,h3,h4⟩
 ·exact⟨v,_,E,h1,Ext.alloc E w o hE,hE.alloc hh.size o,hh.alloc hE o,h2 _ _,hfr⟩
 ·obtain⟨E',he,hE',hh',hmu,_,hmo,hms,hml⟩:=hh.newBox hE (hfr nx (bc _)) cells vals ty h2 h3;exact⟨v,_,E',h1,he,hE',hh',h4 E' _ hmu,hfr.of (by omega) (λb n hb=>hmo b n (by omega)) hms hml⟩
def wH(x:AV)(H:Nat->Option (List AV))(nx:Nat):Option (AV×(Nat->Option (List AV))×Nat):=
 if x.flat then some (.ptr nx x.cells.length 0,av H nx x.cells,nx+1) else none
theorem vF{P:Program}{E:Env}{H:Nat->Option (List AV)}{nx:Nat}{w:World}{t:TypeId}{x:AV}{v:Value}(hx:Rel E w x v)
    {r:AV} {H':Nat->Option (List AV)} {nx':Nat} (h:wH x H nx=some (r,H',nx')):x5 P E w (Instr.box t v) r H nx H' nx':=by
 unfold wH at h;split at h
 case isFalse=>cases h
 case isTrue hf=>
  cases h;obtain⟨hl,hr,h1⟩:=hx.cells hf;refine .inr ⟨x.cells,v.cells,t,.pointer (some ⟨w.heap.size,0,none⟩),rfl,rfl,by simp[Instr.box,newVar,newRow],by simpa using Nat.le_of_eq hl.symm,λi a ha=>?_,λE'' w'' hmu=>.ptr _ _ _ _ _ hmu⟩;have hlt:i<v.cells.toList.length:=by have:=(bH.1 ha).1;omega
  exact⟨v.cells.toList[i],by simp[Cf (show i<v.cells.size by simpa using hlt)],h1 _ (mq hlt),hr i a _ ha (mB hlt)⟩
def gJ(P:Program)(t:TypeId):Option AV:=match P.info? t with
 |some i=>match i.zero with
  |some z=>some (ofV z)
  |none=>none
 |none=>none
theorem eU{P:Program}{t:TypeId}{z:AV}(h:gJ P t=some z):∃v,(∀w,(zeroValue t).run P w=.ok v w)/\∀E w,Rel E w z v:=by
 unfold gJ at h;split at h
 ·rename_i i hi;split at h
  ·rename_i v hz;cases h;exact⟨v,λw=>by simp[zeroValue,typeInfo,hi,hz],λE w=>yz E w v⟩
  ·cases h
 ·cases h
def uE(P:Program)(t:TypeId)(H:Nat->Option (List AV))(nx:Nat):Option (AV×(Nat->Option (List AV))×Nat):=
 match gJ P t with
 |some z=>wH z H nx
 |none=>none
theorem vN{P:Program}{E:Env}{H:Nat->Option (List AV)}{nx:Nat}{w:World}{t:TypeId}
    {r:AV} {H':Nat->Option (List AV)} {nx':Nat} (h:uE P t H nx=some (r,H',nx')):x5 P E w (Instr.alloc t true (.tuple #[])) r H nx H' nx':=by
 unfold uE at h;split at h
 ·rename_i z hz;obtain⟨v,hv,hr⟩:=eU hz
  have he:(Instr.alloc t true (.tuple #[])).run P w=(Instr.box t v).run P w:=by
   simp only[Instr.alloc,Instr.box,bA,hv,bu]
  have:=vF (P:=P) (t:=t) (hr E w) h;unfold x5 at this |-;rw[he];exact this
 ·cases h
def lQ(P:Program)(t:TypeId)(p x:AV)(H:Nat->Option (List AV)):Option (Nat->Option (List AV)):=
 match p with
 |.ptr b n off=>match H b with
  |some cs=>if cs.length=n/\tok P t=true/\x.flat=true/\x.cells.length=P.cellsOf t/\off+P.cellsOf t<=n/\0<P.cellsOf t then some (av H b (cI cs off x.cells)) else none
  |none=>none
 |_=>none
theorem lJ{P:Program}{E:Env}{H:Nat->Option (List AV)}{nx:Nat}{w:World}(hE:EnvOk E w)(hh:HeapOk E H nx w){b:Nat}{cs:List AV}{blk sz off:Nat}(hb:H b=some cs)
    (hm:E.mu b cs.length=some (blk,sz)) {new:List AV} {nv:List Value} (hfit:off+new.length<=cs.length) (hnl:nv.length=new.length)
    (hn:∀(i:Nat)(x:AV)(y:Value),new[i]?=some x->nv[i]?=some y->Rel E w x y) (h1:∀y∈nv,y.oneCell'=true):
    ∃w' E',(storeCells ⟨blk,off,none⟩ nv).run P w=.ok () w'/\Ext E w E' w'/\EnvOk E' w'/\HeapOk E' (av H b (cI cs off new)) nx w'/\(∀b' n,b'≠b->E'.mu b' n=E.mu b' n)/\E'.sp=E.sp/\E'.lp=E.lp:=by
 rcases hh.box b cs hb with hn0|⟨blk',sz',hx⟩
 ·rw[hn0] at hm;cases hm
 ·rw[hx.mu] at hm;cases hm;obtain⟨vals,ty,fz,k1,kz,k2,k3,k4⟩:=hx.cells;have hrun:=eC P blk off ty fz nv 0 vals w k1 kz (by omega) h1;simp only[uM] at hrun;have hlen:=nR (cs:=cs) (new:=new) (off:=off) hfit
  obtain⟨E',he,hE',hh',_,_,hmo,hms,hml⟩:=hh.write hE hb hx (cs':=cI cs off new) (vals.toList.take off++nv++vals.toList.drop (off+nv.length)).toArray
   (by simp; omega) (by omega) (by omega) (.inl hlen) (fun i x hxi=>by
    have:=zZ (E:=E) (w:=w) (vals:=vals.toList) (nv:=nv) hfit (by simpa using (by omega:cs.length ≤ vals.size)) hnl (fun i x hx'=>by
     obtain⟨v,hv,ho,hr⟩:=k4 i x hx';exact⟨v,by simpa using hv,ho,hr⟩) hn h1 i x hxi
    obtain⟨v,hv,ho,hr⟩:=this;exact⟨v,by simpa using hv,ho,hr⟩)
  exact⟨_,E',hrun,he,hE',hh',hmo,hms,hml⟩
theorem yi{P:Program}{E:Env}{H:Nat->Option (List AV)}{nx:Nat}{w:World}(hE:EnvOk E w)(hh:HeapOk E H nx w)(hfr:cJ E nx){t:TypeId}{p x:AV}{vp vx:Value}(hp:Rel E w p vp)(hx:Rel E w x vx)
    {H':Nat->Option (List AV)} (h:lQ P t p x H=some H'):∃w' E',(Instr.storeAt t vp vx).run P w=.ok () w'/\Ext E w E' w'/\EnvOk E' w'/\HeapOk E' H' nx w'/\cJ E' nx:=by
 unfold lQ at h;split at h
 ·rename_i b n off;split at h
  ·rename_i cs hb;split at h
   case isFalse=>cases h
   case isTrue hc=>
    obtain⟨rfl,ht,hf,hsz,hfit,hpos⟩:=hc;cases h;cases hp with
    |ptr _ _ _ blk bsz hm=>
    obtain⟨hl,hr,h1⟩:=hx.cells hf;obtain⟨w',E',h2,h3,h4,h5,h6,hms,hml⟩:=lJ (P:=P) hE hh (off:=off) (nv:=vx.cells.toList) hb hm (by omega) hl hr h1;refine⟨w',E',?_,h3,h4,h5,hfr.of (bc _) (λb' n hb'=>h6 b' n (by have:=hh.dom _ _ hb;omega)) hms hml⟩
    have hs : vx.cells.size = P.cellsOf t := by have : vx.cells.toList.length = vx.cells.size := by simp
                                                omega
    simp[Instr.storeAt,Instr.sureAddr,storeVar,aU ht,hs,h2]
  ·cases h
 ·cases h
def ee(sz:Nat)(H:Nat->Option (List AV))(x:AV):Option (Nat×List AV):=
 match x with
 |.esl=>some (0,[])
 |.sl sz' elems=>if sz'=sz\/elems=[] then some (elems.length,elems.flatMap AV.cells) else none
 |.msl b n sz' off len=>if len=0 then some (0,[]) else
  match H b with
  |some cs=>if cs.length=n/\sz'=sz/\off+len*sz<=n then some (len,(cs.drop off).take (len*sz)) else none
  |none=>none
 |_=>none
theorem eV{sz:Nat}:∀(elems:List AV),(∀x∈elems,x.cells.length=sz)->(elems.flatMap AV.cells).length=elems.length*sz/\
    ∀(k:Nat)(y:AV),(elems.flatMap AV.cells)[k]?=some y->∃i j x,k=i*sz+j/\j<sz/\elems[i]?=some x/\x.cells[j]?=some y
 |[],_=>⟨by simp,by simp⟩
 |x::l,h=>by
  obtain⟨h1,h2⟩:=eV l (λy hy=>h y (by simp[hy]));have hx:x.cells.length=sz:=h x (by simp);refine⟨by simp[h1,hx,d8];omega,?_⟩;intro k y hk;rw[lj] at hk;by_cases hlt:k<sz
  ·rw[gG (by omega)] at hk;exact⟨0,k,x,by simp,hlt,by simp,hk⟩
  ·rw[iA (by omega),hx] at hk;obtain⟨i,j,x',e,hj,hi,hc⟩:=h2 _ _ hk;exact⟨i+1,j,x',by rw[d8];omega,hj,by simpa using hi,hc⟩
theorem jt{P:Program}{E:Env}{H:Nat->Option (List AV)}{nx:Nat}{w:World}(hh:HeapOk E H nx w){x:AV}{v:Value}(hx:Rel E w x v){sz n:Nat}{xs:List AV}(h:ee sz H x=some (n,xs)):
    (Builtin.lenOf v).run P w=.ok n w/\xs.length=n*sz/\
    ∃vals:List Value,(Builtin.firstCells sz n v).run P w=.ok vals.toArray w/\vals.length=xs.length/\∀(i:Nat)(a:AV)(y:Value),xs[i]?=some a->vals[i]?=some y->Rel E w a y:=by
 unfold ee at h;split at h
 ·cases h;cases hx with
  |eslnil=>exact⟨rfl,by simp,[],by simp[Builtin.firstCells],rfl,by simp⟩
  |esl a=>exact⟨rfl,by simp,[],by simp[Builtin.firstCells,loadCells,loadCellsFrom],rfl,by simp⟩
 ·rename_i sz' elems;split at h
  case isFalse=>cases h
  case isTrue hc=>
   cases h;cases hx with
   |slnil=>exact⟨rfl,by simp,[],by simp[Builtin.firstCells],rfl,by simp⟩
   |slempty=>exact⟨rfl,by simp,[],by simp[Builtin.firstCells,loadCells,loadCellsFrom],rfl,by simp⟩
   |sl _ _ blk o cap vals him hlen hsz hcell hr=>
    by_cases hnil:elems=[]
    ·subst hnil;exact⟨rfl,by simp,[],by simp[Builtin.firstCells,loadCells,loadCellsFrom],rfl,by simp⟩
    ·obtain rfl:sz'=sz:=hc.resolve_right hnil;obtain⟨f1,f2⟩:=eV elems hsz;refine⟨rfl,f1,(List.range (elems.length*sz')).map vals,?_,by simp[f1],?_⟩
     ·simp only[Builtin.firstCells];exact run_loadCells (P:=P) w ⟨blk,o,none⟩ _ vals (λj hj=>by rw[ci];exact hcell j hj)
     ·intro i a y ha hy;obtain⟨hi,rfl⟩:=lM hy;obtain⟨p,j,x,rfl,hj,hp,hc'⟩:=f2 _ _ ha;exact hr _ _ _ _ hp hc'
 ·rename_i b n' sz' off len;split at h
  case isTrue h0=>
   cases h;subst h0;cases hx with
   |msl=>exact⟨rfl,by simp,[],by simp[Builtin.firstCells,loadCells,loadCellsFrom],rfl,by simp⟩
   |msl0 _ _ _ hv=>rcases hv with rfl|⟨_,rfl⟩<;>exact⟨rfl,by simp,[],by simp[Builtin.firstCells,loadCells,loadCellsFrom],rfl,by simp⟩
  case isFalse h0=>
   split at h
   ·rename_i cs hb;split at h
    case isFalse=>cases h
    case isTrue hc=>
     obtain⟨rfl,rfl,hfit⟩:=hc;cases h;generalize hnn:cs.length=nn at hx;cases hx with
     |msl0=>exact absurd rfl h0
     |msl _ _ _ _ _ blk bsz cap hm hl hcp hn=>
      subst hnn;rcases hh.box b cs hb with hn0|⟨blk',sz'',hbx⟩
      ·rw[hn0] at hm;cases hm
      ·rw[hbx.mu] at hm;cases hm;obtain⟨vals,ty,fz,k1,kz,k2,k3,k4⟩:=hbx.cells;refine⟨rfl,by simp;omega,(vals.toList.drop off).take (n*sz'),?_,by simp;omega,?_⟩
       ·simp only[Builtin.firstCells];have hlen:((vals.toList.drop off).take (n*sz')).length=n*sz':=by simp;omega
        have:=run_loadCells_list (P:=P) w ⟨blk,off,none⟩ ((vals.toList.drop off).take (n * sz')) (fun j v hv=>by
         rw[ci];rw[jl] at hv;split at hv
         ·rw[kJ] at hv;exact cell?_of_heap k1 (by simpa using hv)
         ·cases hv)
        rw[hlen] at this;exact this
       ·intro i a y ha hy;rw[jl] at ha hy;split at ha
        case isFalse=>cases ha
        case isTrue hi=>
         rw[if_pos hi] at hy;rw[kJ] at ha hy;obtain⟨v',hv',_,hrel⟩:=k4 _ _ ha;simp at hy;rw[hv'] at hy;cases hy;exact hrel
   ·cases h
 ·cases h
def zok(P:Program)(e:TypeId):Bool:=match gJ P e with
 |some z=>z.flat&&z.cells.length==P.cellsOf e
 |none=>false
def fu(P:Program)(e:TypeId):Nat:=((P.info? e).map (·.bytes)).getD 0
def qF(P:Program)(tS tX:TypeId)(s x:AV)(H:Nat->Option (List AV))(nx:Nat):Option (AV×(Nat->Option (List AV))×Nat):=
 match gw P tS with
 |none=>none
 |some e=>
  if tok P e=true/\tok P tX=true/\lS P tX=none/\0<P.cellsOf e/\zok P e=true then
   match ee (P.cellsOf e) H x with
   |none=>none
   |some (k,new)=>
    if new.all AV.one=true then
     match s with
     |.esl=>if k*fu P e<=140737488355328/\k<=9223372036854775807 then some (.msl nx (k*P.cellsOf e) (P.cellsOf e) 0 k,av H nx new,nx+1) else none
     |.msl b n sz off len=>match H b with
      |some cs=>
       if cs.length=n/\sz=P.cellsOf e then
        if off=0/\n=len*sz/\(len+k)*fu P e<=140737488355328/\len+k<=9223372036854775807 then some (.msl b ((len+k)*sz) sz 0 (len+k),av H b (cs++new),nx)
        else if off+(len+k)*sz<=n/\0<n then some (.msl b n sz off (len+k),av H b (cI cs (off+len*sz) new),nx)
        else if off=0/\len*sz<n/\n<(len+k)*sz/\(len+k)*fu P e<=140737488355328/\len+k<=9223372036854775807 then some (.msl b ((len+k)*sz) sz 0 (len+k),av H b (cs.take (len*sz)++new),nx)
        else none
       else none
      |none=>none
     |_=>none
    else none
  else none
def Ay:TypeDesc->Bool|.int _=>true|_=>false
theorem nL{P:Program}{t:TypeId}(ht:tok P t=true)(h:lS P t=none):∃d,P.underlying t=some d/\Ay d=false:=by
 unfold tok at ht;unfold lS at h;cases hd:P.underlying t with
 |none=>simp[hd] at ht
 |some d=>exact⟨d,rfl,by cases d<;>simp[hd,Ay] at h |-⟩
theorem En{P:Program}{e:TypeId}(h:zok P e=true):∃v:Value,(∀w,(zeroValue e).run P w=.ok v w)/\v.cells.size=P.cellsOf e:=by
 unfold zok at h;split at h
 ·rename_i z hz;obtain⟨v,hv,hr⟩:=eU hz;simp only[eL,beq_iff_eq] at h;have E0:Env:=⟨0,default,λ_=>False,λ_ _=>none,λ_=>none,λ_=>none,λ_=>False⟩
  obtain⟨hl,_,_⟩:=(hr E0 default).cells h.1
  exact ⟨v, hv, by have : v.cells.toList.length = v.cells.size := by simp
                   omega⟩
 ·cases h
theorem iJ{P:Program}{w:World}{tS tX ty e:TypeId}{base:Option Addr}{sLen sCap k:Nat}{vx:Value}{old new:List Value}(hu:P.underlying tS=some (.slice e))(he:tok P e=true)
    (hX:tok P tX=true) (hXi:lS P tX=none) (hz:zok P e=true) (hk:(Builtin.lenOf vx).run P w=.ok k w)
    (hold:(Builtin.firstCells (P.cellsOf e) sLen (.slice base sLen sCap)).run P w.drew=.ok old.toArray w.drew) (hnew:(Builtin.firstCells (P.cellsOf e) k vx).run P w.drew=.ok new.toArray w.drew)
    (hcap:sCap<sLen+k) (hb:(sLen+k)*fu P e<=140737488355328) (hm:sLen+k<=9223372036854775807):
    ∃newCap rest,sLen+k<=newCap/\rest.length=(newCap-(sLen+k))*P.cellsOf e/\
     (Builtin.append_ #[tS,tX] ty #[.slice base sLen sCap,vx]).run P w=.ok (.slice (some ⟨w.heap.size,0,none⟩) (sLen+k) newCap) (w.drew.alloc (.cells (old++new++rest).toArray e)):=by
 obtain⟨d,hd,hdi⟩:=nL hX hXi;obtain⟨z,hzr,hzs⟩:=En hz
 obtain⟨i,hi⟩:∃i,P.info? e=some i:=by
  unfold tok at he;cases hx:P.underlying e with
  |none=>simp[hx] at he
  |some d=>exact oE hx
 have hbytes:fu P e=i.bytes:=by simp[fu,hi]
 rw[hbytes] at hb;have hnext:=growslice_fits hcap hb
 let newCap:=(sLen+k)+w.tape w.drawn (.appendCap (sLen+k) sCap e)%(2^63-(sLen+k))
 refine⟨newCap,(Builtin.zeroCells z.cells (newCap-(sLen+k))).toList,by omega,by simp[Builtin.zeroCells,hzs],?_⟩;have hi64:IntKind.i64.max=9223372036854775807:=by decide
 have hneed:¬((sLen+k:Nat):Int)>IntKind.i64.max:=by rw[hi64];omega
 have hforced:(Question.appendCap (sLen+k) sCap e).forced=false:=rfl
 have hch:(choose (.appendCap (sLen+k) sCap e)).run P w=.ok newCap w.drew:=by
  rw[run_choose,hforced];rfl
 have hle:¬(sLen+k<=sCap):=by omega
 have hbig:¬(Builtin.nextslicecap (sLen+k) sCap*i.bytes>2^48):=by
  have:(2:Nat)^48=281474976710656:=by decide
  omega
 have harr:old.toArray++new.toArray++Builtin.zeroCells z.cells (newCap-(sLen+k))=(old++new++(Builtin.zeroCells z.cells (newCap-(sLen+k))).toList).toArray:=by
  apply Array.ext';simp
 unfold Builtin.append_;simp only[pu,tG,Fh,bA,cp hu,bu,aU he,cp hd];cases d<;>first|(simp[Ay] at hdi;done)|skip
 all_goals
  simp only[eG,bu,dX,if_false,hk,hle,hneed,false_and,typeInfo,bA,run_program,hi,hbig,hch,run_askRoom,hold,Bool.not_false,if_true,hnew,hzr,newRow,run_newObj];rw[harr];rfl
theorem iK{P:Program}{w w':World}{tS tX ty e:TypeId}{a:Addr}{sLen sCap k:Nat}{vx:Value}{new:List Value}(hu:P.underlying tS=some (.slice e))(he:tok P e=true)
    (hX:tok P tX=true) (hXi:lS P tX=none) (hk:(Builtin.lenOf vx).run P w=.ok k w)
    (hnew:(Builtin.firstCells (P.cellsOf e) k vx).run P w=.ok new.toArray w) (hst:(storeCells (a.add (sLen*P.cellsOf e)) new).run P w=.ok () w')
    (hcap:sLen+k<=sCap):
    (Builtin.append_ #[tS,tX] ty #[.slice (some a) sLen sCap,vx]).run P w=.ok (.slice (some a) (sLen+k) sCap) w':=by
 obtain⟨d,hd,hdi⟩:=nL hX hXi;unfold Builtin.append_;simp only[pu,tG,Fh,bA,cp hu,bu,aU he,cp hd];cases d<;>first|(simp[Ay] at hdi;done)|skip
 all_goals
  simp only[eG,bu,dX,if_false,hk,hcap,if_true,bA,Bool.not_false,hnew,hst]
theorem nX{P:Program}{w:World}{tS tX ty e:TypeId}{sCap sLen:Nat}{vx:Value}(hu:P.underlying tS=some (.slice e))(he:tok P e=true)
    (hX:tok P tX=true) (hXi:lS P tX=none) (hk:(Builtin.lenOf vx).run P w=.ok 0 w)
    (hnew:(Builtin.firstCells (P.cellsOf e) 0 vx).run P w=.ok #[] w) (hcap:sLen<=sCap) (base:Option Addr):
    (Builtin.append_ #[tS,tX] ty #[.slice base sLen sCap,vx]).run P w=.ok (.slice base sLen sCap) w:=by
 obtain⟨d,hd,hdi⟩:=nL hX hXi;unfold Builtin.append_;simp only[pu,tG,Fh,bA,cp hu,bu,aU he,cp hd];cases d<;>first|(simp[Ay] at hdi;done)|skip
 all_goals
  simp only[eG,bu,dX,if_false,hk,uM,hcap,if_true,bA,Bool.not_false,hnew];cases base<;>simp[storeCells]
theorem ow{P:Program}{w:World}{sz:Nat}{v:Value}{vals:List Value}(h:(Builtin.firstCells sz 0 v).run P w=.ok vals.toArray w)(hl:vals.length=0):(Builtin.firstCells sz 0 v).run P w=.ok #[] w:=by
 have:vals=[]:=fP.1 hl;subst this;exact h
theorem xR{H:Nat->Option (List AV)}{b:Nat}{cs:List AV}(h:H b=some cs):av H b cs=H:=by
 funext x
 unfold av;split
 ·subst_vars;exact h.symm
 ·rfl
theorem yH{E:Env}{w:World}{cs new:List AV}{vals nv:List Value}(hvl:cs.length<=vals.length)(hnl:nv.length=new.length)
    (hr:∀(i:Nat)(x:AV),cs[i]?=some x->∃v:Value,vals[i]?=some v/\v.oneCell'=true/\Rel E w x v)
    (hn:∀(i:Nat)(x:AV)(y:Value),new[i]?=some x->nv[i]?=some y->Rel E w x y) (h1:∀y∈nv,y.oneCell'=true)
    (i:Nat) (x:AV) (hx:(cs++new)[i]?=some x):∃v:Value,(vals.take cs.length++nv++vals.drop (cs.length+nv.length))[i]?=some v/\v.oneCell'=true/\Rel E w x v:=by
 rw[io];by_cases hi:i<cs.length
 ·rw[gG hi] at hx;rw[gG (by simp;omega),jl,if_pos hi];exact hr i x hx
 ·rw[iA (by omega)] at hx;have e2:(List.take cs.length vals).length=cs.length:=by simp;omega
  rw[iA (by omega),e2];have hlt:i-cs.length<nv.length:=by have:=(bH.1 hx).1;omega
  rw[gG hlt];exact⟨nv[i-cs.length],by simp[hlt],h1 _ (mq hlt),hn _ _ _ hx (by simp[hlt])⟩
theorem wI{P:Program}{E:Env}{H:Nat->Option (List AV)}{nx:Nat}{w:World}(hE:EnvOk E w)(hh:HeapOk E H nx w)(hfr:cJ E nx){tS tX ty:TypeId}{s x:AV}{vs vx:Value}(hs:Rel E w s vs)(hx:Rel E w x vx)
    {r:AV} {H':Nat->Option (List AV)} {nx':Nat} (h:qF P tS tX s x H nx=some (r,H',nx')):oB P E w (Builtin.append_ #[tS,tX] ty #[vs,vx]) r H' nx':=by
 unfold qF at h;split at h
 ·cases h
 rename_i e hte;have hu:=iC hte;split at h
 case isFalse=>cases h
 case isTrue hc=>
 obtain⟨he,hX,hXi,hpos,hz⟩:=hc;split at h
 ·cases h
 rename_i k new hsrc;obtain⟨hk,hnl,vals,hnew,hvl,hvr⟩:=jt (P:=P) hh hx hsrc;have hd:HeapOk E H nx w.drew:=hh.same rfl;have hEd:EnvOk E w.drew:=hE.drew;have hextd:Ext E w E w.drew:=Ext.same rfl;split at h
 case isFalse=>cases h
 case isTrue hall=>
 have hone:∀y∈vals,y.oneCell'=true:=by
  intro y hy;obtain⟨i,hi⟩:=rY hy;have hlt:i<new.length:=by have:=(bH.1 hi).1;omega
  exact(hvr i new[i] y (by simp[hlt]) hi).one (dQ.1 hall _ (mq hlt))
 obtain⟨_,_,valsd,hnewd,hvld,hvrd⟩:=jt (P:=P) hd (hx.ext hextd) hsrc
 have honed:∀y∈valsd,y.oneCell'=true:=by
  intro y hy;obtain⟨i,hi⟩:=rY hy;have hlt:i<new.length:=by have:=(bH.1 hi).1;omega
  exact(hvrd i new[i] y (by simp[hlt]) hi).one (dQ.1 hall _ (mq hlt))
 have fresh:∀base:Option Addr,(base=none\/ ∃a,base=some a)->k*fu P e<=140737488355328->k<=9223372036854775807->0<k->
     ∃newCap rest,k<=newCap/\rest.length=(newCap-k)*P.cellsOf e/\
     (Builtin.append_ #[tS,tX] ty #[.slice base 0 0,vx]).run P w=.ok (.slice (some ⟨w.heap.size,0,none⟩) k newCap) (w.drew.alloc (.cells (valsd++rest).toArray e)):=by
  intro base hbase hb1 hb2 hk0
  have:=iJ (P:=P) (w:=w) (ty:=ty) (base:=base) (sLen:=0) (sCap:=0) (old:=[]) hu he hX hXi hz hk (by
   rcases hbase with rfl|⟨a,rfl⟩<;>simp[Builtin.firstCells,loadCells,loadCellsFrom]) hnewd (by omega) (by simpa using hb1) (by omega)
  obtain⟨newCap,rest,h1,h2,h3⟩:=this;simp only[dt,List.nil_append] at h1 h2 h3;exact⟨newCap,rest,h1,h2,h3⟩
 have relcells:∀(rest:List Value)(i:Nat)(a:AV),new[i]?=some a->∃v:Value,(valsd++rest).toArray[i]?=some v/\v.oneCell'=true/\Rel E w.drew a v:=by
  intro rest i a ha;have hlt:i<valsd.length:=by have:=(bH.1 ha).1;omega
  refine⟨valsd[i],by simp[gG hlt,hlt],honed _ (mq hlt),hvrd i a _ ha (by simp[hlt])⟩
 split at h
 ·-- nothing before
  split at h
  case isFalse=>cases h
  case isTrue hb=>
  cases h
  have key:∀base:Option Addr,(base=none\/ ∃a,base=some a)->vs=.slice base 0 0->oB P E w (Builtin.append_ #[tS,tX] ty #[vs,vx]) (.msl nx (k*P.cellsOf e) (P.cellsOf e) 0 k) (av H nx new) (nx+1):=by
   intro base hbase hvs;subst hvs;by_cases hk0:k=0
   ·subst hk0;have hnil:new=[]:=fP.1 (by omega);subst hnil;refine⟨_,w,E,nX hu he hX hXi hk (ow hnew (by simpa using hvl)) (bc _) base,Ext.refl _ _,hE,hh.virtual (hfr nx (bc _)),?_,hfr.le (by omega)⟩;rw[nA];refine .msl0 _ _ _ ?_;rcases hbase with rfl|⟨a,rfl⟩
    ·exact .inl rfl
    ·exact .inr ⟨a,rfl⟩
   ·obtain⟨newCap,rest,h1,h2,h3⟩:=fresh base hbase hb.1 hb.2 (by omega);obtain⟨E',he',hE',hh',hmu,_,hmo,hms,hml⟩:=hd.newBox hEd (hfr nx (bc _)) new (valsd++rest).toArray e (by simp;omega) (relcells rest);refine⟨_,_,E',h3,(hextd.trans he'),hE',hh',?_,hfr.of (by omega) (λb n hb=>hmo b n (by omega)) hms hml⟩
    have hsz:(valsd++rest).toArray.size=newCap*P.cellsOf e:=by
     simp only[List.size_toArray,cP,hvld,hnl,h2];rw[<-d8];congr 1;omega
    rw[hnl,hsz] at hmu;exact .msl _ _ _ _ _ _ _ _ hmu h1 (by omega) (by rw[dt];exact jv _ h1)
  cases hs with
  |eslnil=>exact key none (.inl rfl) rfl
  |esl a=>exact key (some a) (.inr ⟨a,rfl⟩) rfl
 ·rename_i b n sz off len;split at h
  case h_2=>cases h
  rename_i cs hb;split at h
  case isFalse=>cases h
  case isTrue hcs=>
  obtain⟨rfl,rfl⟩:=hcs;split at h
  case isTrue hfront=>
   obtain⟨rfl,hn,hb1,hb2⟩:=hfront;cases h;have hlen':(cs++new).length=(len+k)*P.cellsOf e:=by rw[cP,hn,hnl,d8]
   have hnsp:E.sp b=none:=by
    cases hq:E.sp b with
    |none=>rfl
    |some q=>
     exfalso;have hsm:=hE.spm b q hq;clear hn hlen' hb1 hb2;generalize hnn:cs.length=nn at hs;cases hs with
     |msl _ _ _ _ _ blk bsz cap h _ _ _=>rw[hsm] at h;cases h
     |msl0=>
      have:=hh.nsp b (by rw[hb,fP.1 hnn]);rw[this] at hq;cases hq
   have moved:∀ (base:Option Addr) (sCap:Nat),vs=.slice base len sCap→len ≤ sCap→sCap < len + k→(∃ oldv:List Value,(Builtin.firstCells (P.cellsOf e) len (.slice base len sCap)).run P w.drew=.ok oldv.toArray w.drew ∧
       oldv.length=cs.length/\∀(i:Nat)(a:AV),cs[i]?=some a->∃v:Value,oldv[i]?=some v/\v.oneCell'=true/\Rel E w.drew a v)->
       oB P E w (Builtin.append_ #[tS,tX] ty #[vs,vx]) (.msl b ((len+k)*P.cellsOf e) (P.cellsOf e) 0 (len+k)) (av H b (cs++new)) nx:=by
    intro base sCap hvs hlc hcap ⟨oldv,ho1,ho2,ho3⟩;subst hvs;by_cases hk0:k=0
    ·omega
    ·obtain⟨newCap,rest,h1,h2,h3⟩:=iJ (P:=P) (w:=w) (ty:=ty) hu he hX hXi hz hk ho1 hnewd hcap hb1 hb2;have hkp:0<k*P.cellsOf e:=Nat.mul_pos (by omega) hpos
     obtain ⟨E',he',hE',hh',hmu,_,hmo,hms,hml⟩:=hd.move hEd hb (cs':=cs ++ new) (oldv ++ valsd ++ rest).toArray e (by simp; omega) (by simp; omega) hnsp (fun i a ha=>by
      rw[io];by_cases hi:i<cs.length
      ·rw[gG hi] at ha;obtain⟨v,hv,h5,h6⟩:=ho3 i a ha;refine⟨v,?_,h5,h6⟩;have:i<oldv.length:=by omega
       simpa[gG this] using hv
      ·rw[iA (by omega)] at ha;obtain⟨v,hv,h5,h6⟩:=relcells rest _ a ha;refine⟨v,?_,h5,h6⟩;simp only[pu] at hv |-;rw[iA (by omega),ho2];exact hv)
     refine⟨_,_,E',h3,hextd.trans he',hE',hh',?_,hfr.of (bc _) (λb' n hb'=>hmo b' n (by have:=hh.dom _ _ hb;omega)) hms hml⟩
     have hsz:(oldv++valsd++rest).toArray.size=newCap*P.cellsOf e:=by
      simp only[List.size_toArray,cP,hvld,hnl,h2,ho2,hn];rw[<-d8,<-d8];congr 1;omega
     rw[hlen',hsz] at hmu;exact .msl _ _ _ _ _ _ _ _ hmu h1 (by omega) (by rw[dt];exact jv _ h1)
   generalize hnn:cs.length=nn at hs;cases hs with
   |msl0 _ _ _ hv=>
    have hcs:cs=[]:=fP.1 hnn;subst hcs
    have key:∀base:Option Addr,(base=none\/ ∃a,base=some a)->vs=.slice base 0 0->oB P E w (Builtin.append_ #[tS,tX] ty #[vs,vx]) (.msl b ((0+k)*P.cellsOf e) (P.cellsOf e) 0 (0+k)) (av H b ([]++new)) nx:=by
     intro base hbase hvs;by_cases hk0:k=0
     ·subst hk0;have hnil:new=[]:=fP.1 (by omega);subst hnil;subst hvs;refine⟨_,w,E,nX hu he hX hXi hk (ow hnew (by simpa using hvl)) (bc _) base,Ext.refl _ _,hE,by rw[jd,xR hb];exact hh,?_,hfr⟩;rw[dt,nA];refine .msl0 _ _ _ ?_;rcases hbase with rfl|⟨a,rfl⟩
      ·exact .inl rfl
      ·exact .inr ⟨a,rfl⟩
     ·refine moved base 0 hvs (bc _) (by omega) ⟨[],?_,rfl,by simp⟩;rcases hbase with rfl|⟨a,rfl⟩<;>simp[Builtin.firstCells,loadCells,loadCellsFrom]
    rcases hv with rfl|⟨a,rfl⟩
    ·exact key none (.inl rfl) rfl
    ·exact key (some a) (.inr ⟨a,rfl⟩) rfl
   |msl _ _ _ _ _ blk bsz cap hm hl hcp hnc=>
    subst hnn;rcases hh.box b cs hb with hn0|⟨blk',bsz',hbx⟩
    ·rw[hn0] at hm;cases hm
    rw[hbx.mu] at hm;cases hm;obtain⟨v0,ty0,fz,k1,kz,k2,k3,k4⟩:=hbx.cells;by_cases hcap:len+k<=cap
    ·-- in place
     have hfit:(len+k)*P.cellsOf e<=bsz:=by
      have:=jv (P.cellsOf e) hcap;omega
     have hcsl:len*P.cellsOf e+vals.length<=v0.size:=by rw[d8] at hfit;omega
     have hrun:=eC P blk (len*P.cellsOf e) ty0 fz vals 0 v0 w k1 kz (by omega) hone;simp only[uM] at hrun
     obtain⟨E',he',hE',hh',hmu',_,hmo,hms,hml⟩:=hh.write hE hb hbx (cs':=cs++new) (v0.toList.take (len*P.cellsOf e)++vals++v0.toList.drop (len*P.cellsOf e+vals.length)).toArray
      (by simp; omega) (by omega) (by simp) (by
       by_cases hk0:k=0
       ·left;rw[hlen',hn,hk0];rfl
       ·right;left;have hkp:0<k*P.cellsOf e:=Nat.mul_pos (by omega) hpos;cases hq:E.mu b (cs++new).length with
        |none=>rfl
        |some q=>
         have:=hh.top b cs _ q hb hq;rw[cP] at this;omega) (λi a ha=>by
      have:=yH (E:=E) (w:=w) (vals:=v0.toList) (nv:=vals) (by simpa using (by omega:cs.length ≤ v0.size)) hvl (fun i x hx'=>by
       obtain⟨v,hv,ho,hr⟩:=k4 i x hx';exact⟨v,by simpa using hv,ho,hr⟩) hvr hone i a ha
      rw[hn] at this;obtain⟨v,hv,ho,hr⟩:=this;exact⟨v,by simpa using hv,ho,hr⟩)
     refine⟨_,_,E',iK hu he hX hXi hk hnew (by rw[ci,dt];exact hrun) hcap,he',hE',hh',?_,hfr.of (bc _) (λb' n hb'=>hmo b' n (by have:=hh.dom _ _ hb;omega)) hms hml⟩;rw[hlen'] at hmu';exact .msl _ _ _ _ _ _ _ _ hmu' hcap (by omega) (by rw[dt];exact jv _ hcap)
    ·refine moved (some ⟨blk,0,none⟩) cap rfl hl (by omega) ⟨v0.toList.take (len*P.cellsOf e),?_,by simp;omega,?_⟩
     ·simp only[Builtin.firstCells];have hlen2:(v0.toList.take (len*P.cellsOf e)).length=len*P.cellsOf e:=by simp;omega
      have:=run_loadCells_list (P:=P) w.drew ⟨blk,0,none⟩ (v0.toList.take (len * P.cellsOf e)) (fun j v hv=>by
       rw[ci,dt];rw[jl] at hv;split at hv
       ·exact cell?_of_heap (w:=w.drew) k1 (by simpa using hv)
       ·cases hv)
      rw[hlen2] at this;exact this
     ·intro i a ha;obtain⟨v,hv,ho,hr⟩:=k4 i a ha;have hlt:i<len*P.cellsOf e:=by have:=(bH.1 ha).1;omega
      exact⟨v,by rw[jl,if_pos hlt];simpa using hv,ho,hr.ext hextd⟩
  case isFalse hfront=>
   split at h
   case isFalse hnin=>
    split at h
    case isFalse=>cases h
    case isTrue hpart=>
    obtain⟨rfl,hlt,hgt,hb1,hb2⟩:=hpart;cases h;have hc0:(cs.take (len*P.cellsOf e)).length=len*P.cellsOf e:=by rw[iX];omega
    have hc0r:∀{i:Nat}{a:AV},(cs.take (len*P.cellsOf e))[i]?=some a->cs[i]?=some a:=λ{i a} ha=>by
     rw[jl] at ha;split at ha
     ·exact ha
     ·cases ha
    generalize hC0:cs.take (len*P.cellsOf e)=c0 at *;have hlen':(c0++new).length=(len+k)*P.cellsOf e:=by rw[cP,hc0,hnl,d8]
    have hk0:0<k:=by
     rcases Nat.eq_zero_or_pos k with h0|h0
     ·rw[h0,uM] at hgt;omega
     ·exact h0
    have hnsp:E.sp b=none:=by
     cases hq:E.sp b with
     |none=>rfl
     |some q=>
      exfalso;have hsm:=hE.spm b q hq;clear hlt hgt hlen' hb1 hb2 hfront hnin hc0r;generalize hnn:cs.length=nn at hs;cases hs with
      |msl _ _ _ _ _ blk bsz cap h _ _ _=>rw[hsm] at h;cases h
      |msl0=>
       have:=hh.nsp b (by rw[hb,fP.1 hnn]);rw[this] at hq;cases hq
    generalize hnn:cs.length=nn at hs;cases hs with
    |msl0=>omega
    |msl _ _ _ _ _ blk bsz cap hm hl hcp hnc=>
     subst hnn;rcases hh.box b cs hb with hn0|⟨blk',bsz',hbx⟩
     ·rw[hn0] at hm;cases hm
     rw[hbx.mu] at hm;cases hm;obtain⟨v0,ty0,fz,k1,kz,k2,k3,k4⟩:=hbx.cells;by_cases hcap:len+k<=cap
     ·have hfit:(len+k)*P.cellsOf e<=bsz:=by
        have:=jv (P.cellsOf e) hcap;omega
      have hcsl:len*P.cellsOf e+vals.length<=v0.size:=by rw[d8] at hfit;omega
      have hrun:=eC P blk (len*P.cellsOf e) ty0 fz vals 0 v0 w k1 kz (by omega) hone;simp only[uM] at hrun
      obtain⟨E',he',hE',hh',hmu',_,hmo,hms,hml⟩:=hh.write hE hb hbx (cs':=c0++new) (v0.toList.take (len*P.cellsOf e)++vals++v0.toList.drop (len*P.cellsOf e+vals.length)).toArray
       (by simp; omega) (by omega) (by omega) (by
        right;left;cases hq:E.mu b (c0++new).length with
        |none=>rfl
        |some q=>
         have:=hh.top b cs _ q hb hq;omega) (λi a ha=>by
       have:=yH (E:=E) (w:=w) (vals:=v0.toList) (nv:=vals) (cs:=c0) (by rw [hc0]; simpa using (by omega:len * P.cellsOf e ≤ v0.size)) hvl (fun i x hx'=>by
        obtain⟨v,hv,ho,hr⟩:=k4 i x (hc0r hx');exact⟨v,by simpa using hv,ho,hr⟩) hvr hone i a ha
       rw[hc0] at this;obtain⟨v,hv,ho,hr⟩:=this;exact⟨v,by simpa using hv,ho,hr⟩)
      refine⟨_,_,E',iK hu he hX hXi hk hnew (by rw[ci,dt];exact hrun) hcap,he',hE',hh',?_,hfr.of (bc _) (λb' n hb'=>hmo b' n (by have:=hh.dom _ _ hb;omega)) hms hml⟩;rw[hlen'] at hmu';exact .msl _ _ _ _ _ _ _ _ hmu' hcap (by omega) (by rw[dt];exact jv _ hcap)
     ·have ho1:(Builtin.firstCells (P.cellsOf e) len (.slice (some ⟨blk,0,none⟩) len cap)).run P w.drew=.ok (v0.toList.take (len*P.cellsOf e)).toArray w.drew:=by
        simp only[Builtin.firstCells];have hlen2:(v0.toList.take (len*P.cellsOf e)).length=len*P.cellsOf e:=by simp;omega
        have:=run_loadCells_list (P:=P) w.drew ⟨blk,0,none⟩ (v0.toList.take (len * P.cellsOf e)) (fun j v hv=>by
         rw[ci,dt];rw[jl] at hv;split at hv
         ·exact cell?_of_heap (w:=w.drew) k1 (by simpa using hv)
         ·cases hv)
        rw[hlen2] at this;exact this
      have ho2:(v0.toList.take (len*P.cellsOf e)).length=c0.length:=by rw[hc0];simp;omega
      have ho3:∀(i:Nat)(a:AV),c0[i]?=some a->∃v:Value,(v0.toList.take (len*P.cellsOf e))[i]?=some v/\v.oneCell'=true/\Rel E w.drew a v:=λi a ha=>by
       obtain⟨v,hv,ho,hr⟩:=k4 i a (hc0r ha);have hlt:i<len*P.cellsOf e:=by have:=(bH.1 ha).1;omega
       exact⟨v,by rw[jl,if_pos hlt];simpa using hv,ho,hr.ext hextd⟩
      generalize v0.toList.take (len*P.cellsOf e)=oldv at ho1 ho2 ho3;obtain⟨newCap,rest,h1,h2,h3⟩:=iJ (P:=P) (w:=w) (ty:=ty) hu he hX hXi hz hk ho1 hnewd (by omega) hb1 hb2
      obtain ⟨E',he',hE',hh',hmu,_,hmo,hms,hml⟩:=hd.move hEd hb (cs':=c0 ++ new) (oldv ++ valsd ++ rest).toArray e (by simp; omega) (by omega) hnsp (fun i a ha=>by
       rw[io];by_cases hi:i<c0.length
       ·rw[gG hi] at ha;obtain⟨v,hv,h5,h6⟩:=ho3 i a ha;refine⟨v,?_,h5,h6⟩;have:i<oldv.length:=by omega
        simpa[gG this] using hv
       ·rw[iA (by omega)] at ha;obtain⟨v,hv,h5,h6⟩:=relcells rest _ a ha;refine⟨v,?_,h5,h6⟩;simp only[pu] at hv |-;rw[iA (by omega),ho2];exact hv)
      refine⟨_,_,E',h3,hextd.trans he',hE',hh',?_,hfr.of (bc _) (λb' n hb'=>hmo b' n (by have:=hh.dom _ _ hb;omega)) hms hml⟩
      have hsz:(oldv++valsd++rest).toArray.size=newCap*P.cellsOf e:=by
       simp only[List.size_toArray,cP,hvld,hnl,h2,ho2,hc0];rw[<-d8,<-d8];congr 1;omega
      rw[hlen',hsz] at hmu;exact .msl _ _ _ _ _ _ _ _ hmu h1 (by omega) (by rw[dt];exact jv _ h1)
   case isTrue hin=>
   cases h;generalize hnn:cs.length=nn at hs;cases hs with
   |msl0=>omega
   |msl _ _ _ _ _ blk bsz cap hm hl hcp hnc=>
    subst hnn
    have hcap:len+k<=cap:=by
     have h1:(len+k)*P.cellsOf e<=cap*P.cellsOf e:=by omega
     exact Nat.le_of_mul_le_mul_right h1 hpos
    obtain⟨w',E',h1,h2,h3,h4,h5,hms,hml⟩:=lJ (P:=P) hE hh (off:=off+len*P.cellsOf e) hb hm (new:=new) (nv:=vals) (by rw[d8] at hin;omega) hvl hvr hone;refine⟨_,w',E',iK hu he hX hXi hk hnew (by rw[ci];exact h1) hcap,h2,h3,h4,?_,hfr.of (bc _) (λb' n hb'=>h5 b' n (by have:=hh.dom _ _ hb;omega)) hms hml⟩;exact .msl _ _ _ _ _ _ _ _ (h2.mu _ _ _ hm) hcap hcp hnc
 ·cases h
def kf(place:Nat->Option (Nat×Nat))(cells:List AV):List (Nat×AV)->Option (List AV)
 |[]=>some cells
 |(i,x)::rest=>match place i with
  |some (off,size)=>if x.flat=true/\x.cells.length=size/\off+size<=cells.length then kf place (cI cells off x.cells) rest else none
  |none=>none
def dI(E:Env)(w:World)(xs:List AV)(vs:List Value):Prop:=vs.length=xs.length/\∀(i:Nat)(x:AV)(y:Value),xs[i]?=some x->vs[i]?=some y->Rel E w x y
theorem dI.ext{E E':Env}{w w':World}(he:Ext E w E' w'){xs:List AV}{vs:List Value}(h:dI E w xs vs):dI E' w' xs vs:=
 ⟨h.1,λi x y hx hy=>(h.2 i x y hx hy).ext he⟩
theorem xz(off:Nat):∀(l:List Value)(k:Nat)(cs:Array Value),off+k+l.length<=cs.size->
    ((l.zipIdx k).foldl (λ(cs:Array Value)(p:Value×Nat)=>cs.setIfInBounds (off+p.2) p.1) cs).toList=cs.toList.take (off+k)++l++cs.toList.drop (off+k+l.length)
 |[],k,cs,h=>by simp
 |v::l,k,cs,h=>by
  simp only[List.zipIdx_cons,List.foldl_cons];simp only[ig] at h;rw[xz off l (k+1) (cs.setIfInBounds (off+k) v) (by simp;omega)];have:=list_seg_step cs.toList (off+k) v l (by simp;omega);simpa[Array.toList_setIfInBounds,kw] using this
theorem yB(cells:Array Value)(off:Nat)(v:Array Value)(h:off+v.size<=cells.size):
    (v.zipIdx.foldl (λcs(c,j)=>cs.setIfInBounds (off+j) c) cells).toList=cells.toList.take off++v.toList++cells.toList.drop (off+v.size):=by
 have:=xz off v.toList 0 cells (by simpa using h);simp only[uM,Array.length_toList] at this;rw[<-this,<-Array.foldl_toList,Array.toList_zipIdx]
theorem lK{E:Env}{w:World}{place:Nat->Option (Nat×Nat)}:∀(parts:List (Nat×AV))(vparts:List (Nat×Value))(cells:List AV)(vc:Array Value)(r:List AV),
    vparts.length=parts.length->(∀(i:Nat)(p:Nat×AV)(q:Nat×Value),parts[i]?=some p->vparts[i]?=some q->q.1=p.1/\Rel E w p.2 q.2)->dI E w cells vc.toList->(∀y∈vc,y.oneCell'=true)->
    kf place cells parts=some r->∃vr,Instr.fill place vc vparts=some vr/\dI E w r vr.toList/\(∀y∈vr,y.oneCell'=true)
 |[],vparts,cells,vc,r,hl,_,hc,h1,h=>by
  cases vparts with
  |nil=>cases h;exact⟨vc,rfl,hc,h1⟩
  |cons=>simp at hl
 |(i,x)::rest,vparts,cells,vc,r,hl,hp,hc,h1,h=>by
  cases vparts with
  |nil=>simp at hl
  |cons q vrest=>
   obtain⟨i',v⟩:=q;obtain⟨hii,hrel⟩:=hp 0 (i,x) (i',v) rfl rfl;simp only at hii hrel;subst hii;simp only[kf] at h;cases hpl:place i' with
   |none=>simp[hpl] at h
   |some os=>
    obtain⟨off,size⟩:=os;simp only[hpl] at h;split at h
    case isFalse=>cases h
    case isTrue hcnd=>
     obtain⟨hf,hsz,hfit⟩:=hcnd;obtain⟨k1,k2,k3⟩:=hrel.cells hf
     have hvs : v.cells.size = size := by have : v.cells.toList.length = v.cells.size := by simp
                                          omega
     have hcl:vc.size=cells.length:=by have:=hc.1;simpa using this
     have hz:=yB vc off v.cells (by omega)
     have hrr:=zZ (E:=E) (w:=w) (cs:=cells) (new:=x.cells) (vals:=vc.toList) (nv:=v.cells.toList) (off:=off) (by omega) (by simp; omega) k1 (fun i a ha=>by
      have hlt:i<vc.toList.length:=by have:=(bH.1 ha).1;simp;omega
      refine⟨vc.toList[i],by simp,h1 _ (by simp),hc.2 i a _ ha (mB hlt)⟩) k2 k3
     have hnew:dI E w (cI cells off x.cells) (v.cells.zipIdx.foldl (λcs(c,j)=>cs.setIfInBounds (off+j) c) vc).toList:=by
      refine⟨?_,λj a y ha hy=>?_⟩
      ·rw[hz,nR (by omega)];simp;omega
      ·obtain⟨y',hy',_,hr⟩:=hrr j a ha;rw[hz] at hy;simp only[Array.length_toList] at hy';rw[hy'] at hy;cases hy;exact hr
     have hone:∀y∈v.cells.zipIdx.foldl (λcs(c,j)=>cs.setIfInBounds (off+j) c) vc,y.oneCell'=true:=by
      intro y hy;rw[<-Array.mem_toList_iff,hz] at hy;simp only[oh] at hy;rcases hy with(hy|hy)|hy
      ·exact h1 y (by have:=BW hy;simpa using this)
      ·exact k3 y hy
      ·exact h1 y (by have:=B7 hy;simpa using this)
     obtain⟨vr,e1,e2,e3⟩:=lK rest vrest _ _ r (by simpa using hl) (λj p q hp' hq'=>hp (j+1) p q (by simpa using hp') (by simpa using hq')) hnew hone h;refine⟨vr,?_,e2,e3⟩;have hge:¬(v.cells.size≠size\/off+v.cells.size>vc.size):=by omega
     simp only[Instr.fill,hpl];simp only[lU,gq,hge,if_false];exact e1
def yC(P:Program)(t:TypeId):Option (List (Nat×Nat)):=match P.underlying t with
 |some (.struct fs)=>if fs.all λf=>tok P f.type then some (fs.toList.map λf=>(f.offset,P.cellsOf f.type)) else none
 |_=>none
def uL(P:Program)(t:TypeId)(parts:List (Nat×AV)):Option AV:=
 match gJ P t with
 |some z=>
  if z.flat=true then
   match yC P t with
   |some pl=>(kf (λi=>pl[i]?) z.cells parts).map .agg
   |none=>match B3 P t with
    |some (_,e)=>if tok P e=true then(kf (λi=>some (i*P.cellsOf e,P.cellsOf e)) z.cells parts).map .agg else none
    |none=>none
  else none
 |none=>none
theorem tq{P:Program}{w:World}(fs:List Field)(h:∀f∈fs,tok P f.type=true):
    (fs.mapM (λf=>do pure (f.offset,<-sizeOf f.type):Field->Sem (Nat×Nat))).run P w=.ok (fs.map λf=>(f.offset,P.cellsOf f.type)) w:=by
 induction fs with
 |nil=>rfl
 |cons f fs ih=>
  rw[List.mapM_cons];simp only[bA,aU (h f (by simp)),bu,eG,ih (λg hg=>h g (by simp[hg])),f9]
theorem zh{P:Program}{E:Env}{w:World}{t:TypeId}{parts:List (Nat×AV)}{vparts:List (Nat×Value)}(hl:vparts.length=parts.length)
    (hp:∀(i:Nat)(p:Nat×AV)(q:Nat×Value),parts[i]?=some p->vparts[i]?=some q->q.1=p.1/\Rel E w p.2 q.2) {r:AV} (h:uL P t parts=some r):
    ∃v,(Instr.build t vparts.toArray).run P w=.ok v w/\Rel E w r v:=by
 unfold uL at h;split at h
 case h_2=>cases h
 rename_i z hz;obtain⟨vz,hvz,hrz⟩:=eU hz;split at h
 case isFalse=>cases h
 case isTrue hf=>
 obtain⟨k1,k2,k3⟩:=(hrz E w).cells hf;split at h
 ·rename_i pl hpl;unfold yC at hpl;split at hpl
  case h_2=>cases hpl
  rename_i fs hu;split at hpl
  case isFalse=>cases hpl
  case isTrue hall=>
  cases hpl;cases hfl:kf (λi=>(fs.toList.map λf=>(f.offset,P.cellsOf f.type))[i]?) z.cells parts with
  |none=>rw[hfl] at h;cases h
  |some cells=>
   rw[hfl] at h;cases h;obtain⟨vr,e1,e2,e3⟩:=lK parts vparts z.cells vz.cells cells hl hp ⟨k1,k2⟩ (λy hy=>k3 y (by simpa using hy)) hfl;refine⟨.agg vr,?_,by have:=Rel.agg cells vr.toList e2.1 e2.2;simpa using this⟩
   have hm:=tq (P:=P) (w:=w) fs.toList (fun f hf'=>by
    rw[Array.all_eq_true_iff_forall_mem] at hall;exact hall f (by simpa using hf'))
   have hmA:(fs.mapM (λf=>do pure (f.offset,<-sizeOf f.type):Field->Sem (Nat×Nat))).run P w=.ok (fs.toList.map λf=>(f.offset,P.cellsOf f.type)).toArray w:=by
    have:fs=fs.toList.toArray:=by simp
    rw[this,List.mapM_toArray];simp only[Sem.run_map,hm,bu]
   have hfill:Instr.fill (λx=>(fs.toList.map λf=>(f.offset,P.cellsOf f.type)).toArray[x]?) vz.cells vparts=some vr:=by
    simp only[pu];exact e1
   simp only[Instr.build,bA,hvz,bu,cp hu,hmA,hfill];rfl
 ·split at h
  case h_2=>cases h
  rename_i n e he;split at h
  case isFalse=>cases h
  case isTrue hte=>
  cases hfl:kf (λi=>some (i*P.cellsOf e,P.cellsOf e)) z.cells parts with
  |none=>rw[hfl] at h;cases h
  |some cells=>
   rw[hfl] at h;cases h;obtain⟨vr,e1,e2,e3⟩:=lK parts vparts z.cells vz.cells cells hl hp ⟨k1,k2⟩ (λy hy=>k3 y (by simpa using hy)) hfl;refine⟨.agg vr,?_,by have:=Rel.agg cells vr.toList e2.1 e2.2;simpa using this⟩;simp only[Instr.build,bA,hvz,bu,cp (CU he),aU hte,e1];rfl
def bd(z:AV)(k:Nat):List AV:=(List.replicate k z.cells).flatten
def zC(P:Program)(t:TypeId)(l c:AV)(H:Nat->Option (List AV))(nx:Nat):Option (AV×(Nat->Option (List AV))×Nat):=
 match gw P t,l,c with
 |some e,.int _ n,.int _ m=>
  match gJ P e with
  |some z=>if tok P e=true/\z.flat=true/\z.cells.length=P.cellsOf e/\0<P.cellsOf e/\0<=n/\n<=m/\m<=9223372036854775807/\fu P e*m<=281474976710656 then
      some (.msl nx (m.toNat*P.cellsOf e) (P.cellsOf e) 0 n.toNat,av H nx (bd z m.toNat),nx+1) else none
  |none=>none
 |_,_,_=>none
theorem dH{z:List AV}:∀(k i:Nat),i<k*z.length->((List.replicate k z).flatten)[i]?=z[i%z.length]?
 |0,i,h=>by simp at h
 |k+1,i,h=>by
  rw[List.replicate_succ,List.flatten_cons];by_cases hi:i<z.length
  ·rw[gG hi,Nat.mod_eq_of_lt hi]
  ·rw[iA (by omega),dH k (i-z.length) (by rw[d8] at h;omega)]
   congr 1
   exact(Nat.mod_eq_sub_mod (by omega)).symm
theorem xU{P:Program}{E:Env}{H:Nat->Option (List AV)}{nx:Nat}{w:World}{t:TypeId}{l c:AV}{vl vc:Value}(hl:Rel E w l vl)(hc:Rel E w c vc)
    {r:AV} {H':Nat->Option (List AV)} {nx':Nat} (h:zC P t l c H nx=some (r,H',nx')):x5 P E w (Instr.makeSlice t vl vc) r H nx H' nx':=by
 unfold zC at h;split at h
 case h_2=>cases h
 rename_i e kn n km m hte;have hu:=iC hte;split at h
 case h_2=>cases h
 rename_i z hz;split at h
 case isFalse=>cases h
 case isTrue hcnd=>
 obtain⟨he,hf,hzl,hpos,h0,h1,h2,h3⟩:=hcnd;cases h;cases hl;cases hc
 obtain⟨i,vz,hi,hiz,hrz⟩:∃i vz,P.info? e=some i/\i.zero=some vz/\∀E w,Rel E w z vz:=by
  unfold gJ at hz;split at hz
  ·rename_i i hi;split at hz
   ·rename_i v hv;cases hz;exact⟨i,v,hi,hv,λE w=>yz E w v⟩
   ·cases hz
  ·cases hz
 obtain⟨k1,k2,k3⟩:=(hrz E w).cells hf
 have hvs : vz.cells.size = P.cellsOf e := by have : vz.cells.toList.length = vz.cells.size := by simp
                                              omega
 have hbytes:fu P e=i.bytes:=by simp[fu,hi]
 have hsz:P.cellsOf e=i.size:=by simp[Program.cellsOf,hi]
 rw[hbytes] at h3;have hrun:=run_make (P:=P) w t e i vz hu hi hiz kn km n m h0 h1 h3 h2;rw[<-hsz] at hrun;have hzc:(bd z m.toNat).length=m.toNat*P.cellsOf e:=by simp[bd,hzl]
 have hvsz:(madeCells vz.cells (m.toNat*P.cellsOf e)).size=m.toNat*P.cellsOf e:=size_madeCells _ _;have hnm:n.toNat*P.cellsOf e<=m.toNat*P.cellsOf e:=jv _ (by omega)
 have hget:∀j,j<m.toNat*P.cellsOf e->∀x,(bd z m.toNat)[j]?=some x->∃v:Value,(madeCells vz.cells (m.toNat*P.cellsOf e))[j]?=some v/\v.oneCell'=true/\Rel E w x v:=by
  intro j hj x hx;have hjm:j<m.toNat*P.cellsOf e:=by omega
  unfold bd at hx;rw[dH _ _ (by rw[hzl];exact hj),hzl] at hx;have hlt:j%P.cellsOf e<vz.cells.size:=by rw[hvs];exact Nat.mod_lt _ hpos
  refine⟨vz.cells[j%P.cellsOf e],?_,k3 _ (by simp),k2 _ _ _ hx (by simp[hlt])⟩;unfold madeCells;rw[Array.getElem?_map,Array.getElem?_range,if_pos hjm];simp only[ny,hvs];rw[getElem!_pos]
 refine .inr ⟨bd z m.toNat,madeCells vz.cells (m.toNat * P.cellsOf e),e,_,rfl,rfl,hrun,by omega,(fun j x hx=>by
  have:j<(bd z m.toNat).length:=(bH.1 hx).1;exact hget j (by omega) x hx),λE'' w'' hmu=>?_⟩
 rw[hzc,hvsz] at hmu;exact .msl _ _ _ _ _ _ _ _ hmu (show n.toNat<=m.toNat by omega) (by omega) (by omega)
def qR(P:Program)(t:TypeId)(len:Nat)(parts:List (Nat×AV))(H:Nat->Option (List AV))(nx:Nat):Option (AV×(Nat->Option (List AV))×Nat):=
 match gw P t with
 |none=>none
 |some e=>
  if tok P e=true/\0<P.cellsOf e/\len*P.cellsOf e<=16777216 then
   if len=0 then(if parts=[] then some (.esl,H,nx) else none) else
   match gJ P e with
   |some z=>if z.flat=true/\z.cells.length=P.cellsOf e then
       match kf (λi=>some (i*P.cellsOf e,P.cellsOf e)) (bd z len) parts with
       |some cells=>some (.msl nx cells.length (P.cellsOf e) 0 len,av H nx cells,nx+1)
       |none=>none
    else none
   |none=>none
  else none
theorem qq{place:Nat->Option (Nat×Nat)}:∀(parts:List (Nat×AV))(cells r:List AV),kf place cells parts=some r->r.length=cells.length
 |[],cells,r,h=>by cases h;rfl
 |(i,x)::rest,cells,r,h=>by
  simp only[kf] at h;cases hpl:place i with
  |none=>simp[hpl] at h
  |some os=>
   obtain⟨off,size⟩:=os;simp only[hpl] at h;split at h
   ·rename_i hc;rw[qq rest _ _ h,nR (by omega)]
   ·cases h
theorem sJ{P:Program}{E:Env}{H:Nat->Option (List AV)}{nx:Nat}{w:World}{t:TypeId}{len:Nat}{parts:List (Nat×AV)}{vparts:List (Nat×Value)}(hl:vparts.length=parts.length)
    (hp:∀(i:Nat)(p:Nat×AV)(q:Nat×Value),parts[i]?=some p->vparts[i]?=some q->q.1=p.1/\Rel E w p.2 q.2)
    {r:AV} {H':Nat->Option (List AV)} {nx':Nat} (h:qR P t len parts H nx=some (r,H',nx')):x5 P E w (Instr.buildSlice t len vparts.toArray) r H nx H' nx':=by
 unfold qR at h;split at h
 ·cases h
 rename_i e hte;have hu:=iC hte;split at h
 case isFalse=>cases h
 case isTrue hc=>
 obtain⟨he,hpos,hsz⟩:=hc;have e24:(2:Nat)^24=16777216:=by decide
 have hbig:¬(len*P.cellsOf e>2^24):=by omega
 split at h
 case isTrue h0=>
  subst h0;split at h
  case isFalse=>cases h
  case isTrue hpn=>
  subst hpn;cases h;have hv:vparts=[]:=fP.1 hl;subst hv;refine .inl ⟨rfl,rfl,.slice (some ⟨w.heap.size,0,none⟩) 0 0,.cells #[] e,?_,λ_ _=>.esl _⟩;simp[Instr.buildSlice,cp hu,aU he,Instr.fill,newRow,Array.range_zero']
 case isFalse h0=>
  split at h
  case h_2=>cases h
  rename_i z hz;obtain⟨vz,hvz,hrz⟩:=eU hz;split at h
  case isFalse=>cases h
  case isTrue hcnd=>
  obtain⟨hf,hzl⟩:=hcnd;split at h
  case h_2=>cases h
  rename_i cells hfl;cases h;obtain⟨k1,k2,k3⟩:=(hrz E w).cells hf
  have hvs : vz.cells.size = P.cellsOf e := by have : vz.cells.toList.length = vz.cells.size := by simp
                                               omega
  have hzc:(bd z len).length=len*P.cellsOf e:=by simp[bd,hzl]
  have hrel0:dI E w (bd z len) (madeCells vz.cells (len*P.cellsOf e)).toList:=by
   refine⟨by simp[hzc,madeCells],λj x y hx hy=>?_⟩;have hj:j<len*P.cellsOf e:=by rw[<-hzc];exact(bH.1 hx).1
   unfold bd at hx;rw[dH _ _ (by rw[hzl];exact hj),hzl] at hx;have hlt:j%P.cellsOf e<vz.cells.size:=by rw[hvs];exact Nat.mod_lt _ hpos
   unfold madeCells at hy;rw[Array.getElem?_toList,Array.getElem?_map,Array.getElem?_range,if_pos hj] at hy;simp only[ny,hvs] at hy;rw[getElem!_pos vz.cells _ hlt] at hy;cases hy;exact k2 _ _ _ hx (by simp[hlt])
  have hone0:∀y∈madeCells vz.cells (len*P.cellsOf e),y.oneCell'=true:=by
   intro y hy;unfold madeCells at hy;rw[Array.mem_map] at hy;obtain⟨j,hj,rfl⟩:=hy;have hlt:j%vz.cells.size<vz.cells.size:=Nat.mod_lt _ (by omega);rw[getElem!_pos vz.cells _ hlt];exact k3 _ (by simp)
  obtain⟨vr,e1,e2,e3⟩:=lK parts vparts (bd z len) (madeCells vz.cells (len*P.cellsOf e)) cells hl hp hrel0 hone0 hfl;have hcl:=qq parts _ _ hfl;have hvr:vr.size=cells.length:=by have:=e2.1;simpa using this
  refine .inr ⟨cells,vr,e,.slice (some ⟨w.heap.size,0,none⟩) len len,rfl,rfl,?_,by omega,(fun j x hx=>by
   have hlt:j<vr.toList.length:=by have:=(bH.1 hx).1;simp;omega
   refine⟨vr.toList[j],by simp,e3 _ (by simp),e2.2 j x _ hx (mB hlt)⟩),λE'' w'' hmu=>by
   rw[hvr] at hmu;exact .msl _ _ _ _ _ _ _ _ hmu (bc _) (by omega) (by omega)⟩
  have hne:¬(len*P.cellsOf e=0):=by have:=Nat.mul_pos (Nat.pos_of_ne_zero h0) hpos;omega
  unfold madeCells at e1;simp[Instr.buildSlice,cp hu,aU he,hbig,hne,hvz,e1,newRow]
theorem ti{P:Program}{w:World}{tS tX ty e:TypeId}{base:Option Addr}{n:Nat}{k kx:IntKind}{z:Value}(hb0:base=none\/ ∃a,base=some a)(hu:P.underlying tS=some (.slice e))(he:tok P e=true)
    (hX:P.underlying tX=some (.int kx)) (hzr:∀w,(zeroValue e).run P w=.ok z w) (hzs:z.cells.size=P.cellsOf e) (hpos:0<P.cellsOf e) (h0:0<n) (hb:n*fu P e<=140737488355328) (hm:n<=9223372036854775807):
    ∃newCap,n<=newCap/\
     (Builtin.append_ #[tS,tX] ty #[.slice base 0 0,.int k (n:Int)]).run P w=.ok (.slice (some ⟨w.heap.size,0,none⟩) n newCap) (w.drew.alloc (.cells (Builtin.zeroCells z.cells n++Builtin.zeroCells z.cells (newCap-n)) e)):=by
 obtain⟨i,hi⟩:∃i,P.info? e=some i:=by
  unfold tok at he;cases hx:P.underlying e with
  |none=>simp[hx] at he
  |some d=>exact oE hx
 have hbytes:fu P e=i.bytes:=by simp[fu,hi]
 rw[hbytes] at hb;have hnext:=growslice_fits (need:=0+n) (old:=0) (bytes:=i.bytes) (by omega) (by simpa using hb)
 let newCap:=n+w.tape w.drawn (.appendCap n 0 e)%(2^63-n)
 refine⟨newCap,by omega,?_⟩;have hi64:IntKind.i64.max=9223372036854775807:=by decide
 have hneed:¬((0+n:Nat):Int)>IntKind.i64.max:=by rw[hi64];omega
 have hforced:(Question.appendCap n 0 e).forced=false:=rfl
 have hch:(choose (.appendCap (0+n) 0 e)).run P w=.ok newCap w.drew:=by
  rw[dt,run_choose,hforced];rfl
 have hle:¬(0+n<=0):=by omega
 have hbig:¬(Builtin.nextslicecap (0+n) 0*i.bytes>2^48):=by
  have:(2:Nat)^48=281474976710656:=by decide
  omega
 have hw:IntKind.i64.wrap (n:Int)=(n:Int):=by simp only[IntKind.wrap,IntKind.bits,IntKind.signed];simp;omega
 have hneg:¬((n:Int)<0):=by omega
 have hlb:¬((n:Int)*(i.bytes:Int)>2^48):=by
  have:((n*i.bytes:Nat):Int)<=140737488355328:=by omega
  rw[Int.natCast_mul] at this;omega
 have hns:¬(n*P.cellsOf e=0):=by
  have:=Nat.mul_pos h0 hpos;omega
 have hold:(Builtin.firstCells (P.cellsOf e) 0 (.slice base 0 0)).run P w.drew=.ok #[] w.drew:=by
  rcases hb0 with rfl|⟨a,rfl⟩<;>simp[Builtin.firstCells,loadCells,loadCellsFrom]
 unfold Builtin.append_;simp only[pu,tG,Fh,bA,cp hu,bu,aU he,cp hX,asInt,asIntOf];simp only[eG,bu,if_true,hw,hneg,if_false,c9,hle,hneed,false_and,typeInfo,bA,run_program,hi,hlb,hbig,hch,run_askRoom,hold,Bool.not_true,dX,hns,hzr,newRow,run_newObj];simp only[dt,Array.empty_append];rfl
def Bn(P:Program)(tS tX:TypeId)(s x:AV)(H:Nat->Option (List AV))(nx:Nat):Option (AV×(Nat->Option (List AV))×Nat):=
 match gw P tS,lS P tX,s,x with
 |some e,some _,.esl,.int _ n=>
  match gJ P e with
  |some z=>if tok P e=true/\z.flat=true/\z.cells.length=P.cellsOf e/\0<P.cellsOf e/\zok P e=true/\0<n/\n<=9223372036854775807/\n.toNat*fu P e<=140737488355328 then
      some (.msl nx (n.toNat*P.cellsOf e) (P.cellsOf e) 0 n.toNat,av H nx (bd z n.toNat),nx+1) else none
  |none=>none
 |_,_,_,_=>none
theorem zR{P:Program}{E:Env}{H:Nat->Option (List AV)}{nx:Nat}{w:World}(hE:EnvOk E w)(hh:HeapOk E H nx w)(hfr:cJ E nx){tS tX ty:TypeId}{s x:AV}{vs vx:Value}(hs:Rel E w s vs)(hx:Rel E w x vx)
    {r:AV} {H':Nat->Option (List AV)} {nx':Nat} (h:Bn P tS tX s x H nx=some (r,H',nx')):oB P E w (Builtin.append_ #[tS,tX] ty #[vs,vx]) r H' nx':=by
 unfold Bn at h;split at h
 case h_2=>cases h
 rename_i e kx kn m hte hti;have hu:=iC hte;split at h
 case h_2=>cases h
 rename_i z hz;split at h
 case isFalse=>cases h
 case isTrue hcnd=>
 obtain⟨he,hf,hzl,hpos,hzk,h0,h1,h2⟩:=hcnd;cases h;obtain⟨n,rfl⟩:∃n:Nat,m=n:=⟨m.toNat,by omega⟩
 rw[c9] at h2 |-
 have hX:P.underlying tX=some (.int kx):=by
  unfold lS at hti;split at hti
  ·rename_i k hk;cases hti;exact hk
  ·cases hti
 obtain⟨vz,hvz,hrz⟩:=eU hz;obtain⟨k1,k2,k3⟩:=(hrz E w.drew).cells hf
 have hvs : vz.cells.size = P.cellsOf e := by have : vz.cells.toList.length = vz.cells.size := by simp
                                              omega
 have hd:HeapOk E H nx w.drew:=hh.same rfl;have hEd:EnvOk E w.drew:=hE.drew;have hextd:Ext E w E w.drew:=Ext.same rfl;have hzc:(bd z n).length=n*P.cellsOf e:=by simp[bd,hzl]
 have hzs:∀q,(Builtin.zeroCells vz.cells q).size=q*P.cellsOf e:=λq=>by simp[Builtin.zeroCells,hvs]
 cases hx
 have key:∀base:Option Addr,(base=none\/ ∃a,base=some a)->vs=.slice base 0 0->oB P E w (Builtin.append_ #[tS,tX] ty #[vs,.int kn (n:Int)]) (.msl nx (n*P.cellsOf e) (P.cellsOf e) 0 n) (av H nx (bd z n)) (nx+1):=by
  intro base hbase hvs';subst hvs';obtain⟨newCap,g1,g3⟩:=ti (P:=P) (w:=w) (ty:=ty) (k:=kn) hbase hu he hX hvz hvs hpos (by omega) h2 (by omega)
  have hget:∀(i:Nat)(a:AV),(bd z n)[i]?=some a->∃v:Value,(Builtin.zeroCells vz.cells n++Builtin.zeroCells vz.cells (newCap-n))[i]?=some v/\v.oneCell'=true/\Rel E w.drew a v:=by
   intro j a ha;have hj:j<n*P.cellsOf e:=by have:=(bH.1 ha).1;omega
   unfold bd at ha;rw[dH _ _ (by rw[hzl];exact hj),hzl] at ha;have hlt:j%P.cellsOf e<vz.cells.size:=by rw[hvs];exact Nat.mod_lt _ hpos
   refine⟨vz.cells[j%P.cellsOf e],?_,k3 _ (by simp),k2 _ _ _ ha (by simp[hlt])⟩;rw[Array.getElem?_append_left (by rw[hzs];exact hj)];unfold Builtin.zeroCells;rw[Array.getElem?_map,Array.getElem?_range,if_pos (by rw[hvs];exact hj)];simp only[ny,hvs];rw[getElem!_pos]
  obtain⟨E',he',hE',hh',hmu,_,hmo,hms,hml⟩:=hd.newBox hEd (hfr nx (bc _)) (bd z n) (Builtin.zeroCells vz.cells n++Builtin.zeroCells vz.cells (newCap-n)) e (by rw[hzc,Array.size_append,hzs];omega) hget;refine⟨_,_,E',g3,(hextd.trans he'),hE',hh',?_,hfr.of (by omega) (λb n hb=>hmo b n (by omega)) hms hml⟩
  have hsz:(Builtin.zeroCells vz.cells n++Builtin.zeroCells vz.cells (newCap-n)).size=newCap*P.cellsOf e:=by
   rw[Array.size_append,hzs,hzs,<-d8];congr 1;omega
  rw[hzc,hsz] at hmu;exact .msl _ _ _ _ _ _ _ _ hmu g1 (by omega) (by rw[dt];exact jv _ g1)
 cases hs with
 |eslnil=>exact key none (.inl rfl) rfl
 |esl a=>exact key (some a) (.inr ⟨a,rfl⟩) rfl
def qQ:AV->AV->Option AV
 |.int k x,.int _ y=>some (.int k (if y>x then y else x))
 |_,_=>none
def qK:AV->AV->Option AV
 |.int k x,.int _ y=>some (.int k (if y<x then y else x))
 |_,_=>none
def jN(f:AV->AV->Option AV):AV->List AV->Option AV
 |x,[]=>some x
 |x,y::l=>match f x y with|some z=>jN f z l|none=>none
def dF(P:Program)(T:Nat->AV)(H:Nat->Option (List AV)):Op->Option AV
 |.move x=>some (ev T x)
 |.assign x=>some (ev T x)
 |.pick c a b=>match ev T c with|.bool t=>some (if t=true then ev T a else ev T b)|_=>none
 |.load t a=>lF P H t (ev T a)
 |.nilCheck x=>match ev T x with|.ptr b n o=>some (.ptr b n o)|.iptr c o=>some (.iptr c o)|.func f c=>some (.func f c)|_=>none
 |.binOp op t x y _=>Ee P op t (ev T x) (ev T y)
 |.unOp op _ x=>aun op (ev T x)
 |.convert s d x=>Dm P s d (ev T x)
 |.makeFunc (.func f) first captured=>if first.size=0 then some (.func f (captured.toList.map (ev T))) else if captured.size=0 then some (.bfn f (first.toList.map (ev T))) else none
 |.slice t x lo hi mx=>if mx.isSome=true/\hi.isNone=true then none else su P t (ev T x) (lo.map (ev T)) (hi.map (ev T)) (mx.map (ev T))
 |.fieldAddr t x f=>ni P t (ev T x) f
 |.field t x f=>uN P t (ev T x) f
 |.indexAddr t x i=>kV P t (ev T x) (ev T i)
 |.index t x i=>rK P t (ev T x) (ev T i)
 |.extract x i=>jW (ev T x) i
 |.build t parts=>uL P t (parts.toList.map λp=>(p.1,ev T p.2))
 |.call {callee:=.builtin .len,args:=⟨[x]⟩,argTypes:=⟨[t]⟩}=>D5 P t (ev T x)
 |.call {callee:=.builtin .max,args:=⟨x::l⟩,argTypes:=_}=>jN qQ (ev T x) (l.map (ev T))
 |.call {callee:=.builtin .min,args:=⟨x::l⟩,argTypes:=_}=>jN qK (ev T x) (l.map (ev T))
 |.call {callee:=.builtin .cap,args:=⟨[x]⟩,argTypes:=⟨[t]⟩}=>match gw P t,ev T x with
  |some _,.esl=>some (.int .i64 0)
  |_,_=>none
 |_=>none
theorem nG{P:Program}{E:Env}{w:World}{f:AV->AV->Option AV}{g:Value->Value->Sem Value}
    (hf:∀x y vx vy r,Rel E w x vx->Rel E w y vy->f x y=some r->∃v,(g vx vy).run P w=.ok v w/\Rel E w r v):
    ∀(l:List AV)(vl:List Value)(x:AV)(vx:Value)(r:AV),Rel E w x vx->dI E w l vl->jN f x l=some r->∃v,(vl.foldlM g vx).run P w=.ok v w/\Rel E w r v
 |[],vl,x,vx,r,hx,hl,h=>by
  have:vl=[]:=fP.1 hl.1;subst this;cases h;exact⟨vx,rfl,hx⟩
 |y::l,vl,x,vx,r,hx,hl,h=>by
  cases vl with
  |nil=>have:=hl.1;simp at this
  |cons vy vl=>
   simp only[jN] at h;split at h
   ·rename_i z hz;obtain⟨vz,h1,h2⟩:=hf x y vx vy z hx (hl.2 0 y vy rfl rfl) hz;obtain⟨v,h3,h4⟩:=nG hf l vl z vz r h2 ⟨by have:=hl.1;simpa using this,λi a b ha hb=>hl.2 (i+1) a b (by simpa using ha) (by simpa using hb)⟩ h;refine⟨v,?_,h4⟩;simp only[List.foldlM_cons,bA,h1,bu,h3]
   ·cases h
theorem jH{α β:Type}(f:α->β)(xs:Array α):xs.map f=(xs.toList.map f).toArray:=by
 apply Array.ext';simp
theorem nW{E:Env}{w:World}{T:Nat->AV}{a:Act}(h:∀t,Rel E w (T t) (a.tmps.getD t Go.undef))(l:List Operand):dI E w (l.map (ev T)) (l.map a.eval):=by
 refine⟨by simp,λi x y hx hy=>?_⟩;rw[ko] at hx hy;cases hl:l[i]? with
 |none=>rw[hl] at hx;cases hx
 |some o=>rw[hl] at hx hy;cases hx;cases hy;exact nQ h o
theorem A8{E:Env}{w:World}{T:Nat->AV}{a:Act}(l:List Operand)(h:∀x∈l,Rel E w (ev T x) (a.eval x)):dI E w (l.map (ev T)) (l.map a.eval):=by
 refine⟨by simp,λi x y hx hy=>?_⟩;rw[ko] at hx hy;cases hl:l[i]? with
 |none=>rw[hl] at hx;cases hx
 |some o=>rw[hl] at hx hy;cases hx;cases hy;exact h o (ir hl)
theorem mW{P:Program}{E:Env}{H:Nat->Option (List AV)}{nx:Nat}{w:World}{T:Nat->AV}{a:Act}(hh:HeapOk E H nx w)(ht:∀t,Rel E w (T t) (a.tmps.getD t Go.undef)){o:Oper}{r:AV}
    (h:dF P T H o.op=some r):∃v,(execOp a.eval o).run P w=.ok (.value v) w/\Rel E w r v:=by
 have he:=λx=>nQ (E:=E) (w:=w) (T:=T) (a:=a) ht x
 have lift:∀(s:Sem Value)(r:AV),(∃v,s.run P w=.ok v w/\Rel E w r v)->∃v,(do pure (Next.value (<-s)):Sem Next).run P w=.ok (.value v) w/\Rel E w r v:=by
  rintro s r ⟨v,h1,h2⟩;exact⟨v,by simp only[bA,h1,bu];rfl,h2⟩
 obtain⟨dst,op,type,pos,after,guard⟩:=o;simp only at h;unfold dF at h;split at h
 ·cases h;exact⟨_,rfl,he _⟩
 ·cases h;exact⟨_,rfl,he _⟩
 ·rename_i c x y;split at h
  ·rename_i t hc;cases h;have hc':=he c;rw[hc] at hc';generalize hv:a.eval c=vc at hc';cases hc';refine⟨if t=true then a.eval x else a.eval y,?_,?_⟩
   ·simp only[execOp,hv,bA,asBool,eG,bu]
   ·split
    ·exact he _
    ·exact he _
  ·cases h
 ·rename_i t x;exact lift _ _ (AE hh (he x) h)
 ·rename_i x;have hx:=he x;split at h
  all_goals first|(cases h;done)|skip
  ·rename_i b n o hc;cases h;rw[hc] at hx;refine⟨a.eval x,?_,hx⟩;generalize hv:a.eval x=vx at hx;cases hx with
   |ptr=>simp only[execOp,hv];rfl
  ·rename_i c o hc;cases h;rw[hc] at hx;refine⟨a.eval x,?_,hx⟩;generalize hv:a.eval x=vx at hx;cases hx with
   |iptr=>simp only[execOp,hv];rfl
  ·rename_i f c hc;cases h;rw[hc] at hx;refine⟨a.eval x,?_,hx⟩;generalize hv:a.eval x=vx at hx;cases hx with
   |func=>simp only[execOp,hv];rfl
 ·rename_i op t x y ty;exact lift _ _ (BZ x y (he x) (he y) h)
 ·rename_i op t x;exact lift _ _ (EO (he x) h)
 ·rename_i s d x;exact lift _ _ (AD (he x) h)
 ·rename_i f first captured
  split at h
  case isFalse=>
   split at h
   case isFalse=>cases h
   case isTrue hs=>
    cases h;have hcap:captured=#[]:=Array.eq_empty_of_size_eq_zero hs;subst hcap;have hl:=nW (E:=E) (w:=w) ht first.toList
    refine⟨.func (.func f) (first.toList.map a.eval).toArray #[],?_,.bfn f _ _ hl.1 hl.2⟩;simp only[execOp,Instr.makeFunc,jH a.eval first,bA,eG,bu];simp
  case isTrue hs=>
   cases h;have hfirst:first=#[]:=Array.eq_empty_of_size_eq_zero hs
   subst hfirst;have hl:=nW (E:=E) (w:=w) ht captured.toList;refine⟨.func (.func f) #[] (captured.toList.map a.eval).toArray,?_,.func f _ _ hl.1 hl.2⟩;simp only[execOp,Instr.makeFunc,jH a.eval captured,bA,eG,bu];simp
 ·rename_i t x lo hi mx;split at h
  case isTrue=>cases h
  case isFalse hmh=>
   refine lift _ _ (x6 (he x) ?_ ?_ ?_ ?_ ?_ ?_ ?_ h)
   ·intro y hy;cases lo with
    |none=>cases hy
    |some l=>cases hy;exact⟨_,rfl,he l⟩
   ·intro hn;cases lo with
    |none=>rfl
    |some l=>cases hn
   ·intro y hy;cases hi with
    |none=>cases hy
    |some l=>cases hy;exact⟨_,rfl,he l⟩
   ·intro hn;cases hi with
    |none=>rfl
    |some l=>cases hn
   ·intro y hy;cases mx with
    |none=>cases hy
    |some l=>cases hy;exact⟨_,rfl,he l⟩
   ·intro hn;cases mx with
    |none=>rfl
    |some l=>cases hn
   ·intro hm hn;cases mx with
    |none=>exact hm rfl
    |some m=>cases hi with
     |none=>exact hmh ⟨rfl,rfl⟩
     |some _=>cases hn
 ·rename_i t x f;exact lift _ _ (rP (he x) h)
 ·rename_i t x f;exact lift _ _ (yP (he x) h)
 ·rename_i t x i;exact lift _ _ (rM (he x) (he i) h)
 ·rename_i t x i;exact lift _ _ (zk (he x) (he i) h)
 ·rename_i x i;exact lift _ _ (uu (he x) h)
 ·rename_i t parts
  have:=zh (P:=P) (E:=E) (w:=w) (parts:=parts.toList.map fun p=>(p.1,ev T p.2)) (vparts:=parts.toList.map fun p=>(p.1,a.eval p.2)) (by simp) (fun i p q hp hq=>by
   rw[ko] at hp hq;cases hl:parts.toList[i]? with
   |none=>rw[hl] at hp;cases hp
   |some o=>rw[hl] at hp hq;cases hp;cases hq;exact⟨rfl,he _⟩) h
  obtain⟨v,h1,h2⟩:=this;refine lift _ _ ⟨v,?_,h2⟩;rw[<-h1,<-jH]
 ·rename_i x t;obtain⟨v,h1,h2⟩:=BX (P:=P) type (he x) h;refine⟨v,?_,h2⟩;simp[execOp,resolve,invoke,builtin,h1]
 ·rename_i x l ts
  obtain ⟨v,h1,h2⟩:=nG (P:=P) (E:=E) (w:=w) (f:=qQ) (g:=Builtin.max2) (fun x y vx vy r hx hy hr=>by
   unfold qQ at hr;split at hr
   ·cases hr;cases hx;cases hy;exact⟨_,rfl,.int _ _⟩
   ·cases hr) (l.map (ev T)) (l.map a.eval) (ev T x) (a.eval x) r (he x) (nW ht l) h
  refine⟨v,?_,h2⟩;simp[execOp,resolve,invoke,builtin,Builtin.max_,h1]
 ·rename_i x l ts
  obtain ⟨v,h1,h2⟩:=nG (P:=P) (E:=E) (w:=w) (f:=qK) (g:=Builtin.min2) (fun x y vx vy r hx hy hr=>by
   unfold qK at hr;split at hr
   ·cases hr;cases hx;cases hy;exact⟨_,rfl,.int _ _⟩
   ·cases hr) (l.map (ev T)) (l.map a.eval) (ev T x) (a.eval x) r (he x) (nW ht l) h
  refine⟨v,?_,h2⟩;simp[execOp,resolve,invoke,builtin,Builtin.min_,h1]
 ·rename_i x t;split at h
  ·rename_i e hte hxe;cases h;have hr:=he x;rw[hxe] at hr;have hu:=iC hte;refine⟨.int .i64 0,?_,.int _ _⟩;obtain⟨vx,hvx⟩:∃v,a.eval x=v:=⟨_,rfl⟩
   rw[hvx] at hr;cases hr<;>simp[execOp,resolve,invoke,builtin,Builtin.cap_,cp hu,goInt,hvx]
  ·cases h
 ·cases h
def il(P:Program)(T:Nat->AV)(H:Nat->Option (List AV))(nx:Nat):Op->Option (AV×(Nat->Option (List AV))×Nat)
 |.alloc e=>uE P e H nx
 |.box _ x=>wH (ev T x) H nx
 |.buildSlice t len parts=>qR P t len (parts.toList.map λp=>(p.1,ev T p.2)) H nx
 |.makeSlice t l c=>zC P t (ev T l) (ev T c) H nx
 |.store t p x=>match lQ P t (ev T p) (ev T x) H with
  |some H'=>some (.tup [],H',nx)
  |none=>none
 |.call {callee:=.builtin .append,args:=⟨[s,x]⟩,argTypes:=⟨[tS,tX]⟩}=>if (lS P tX).isSome=true then Bn P tS tX (ev T s) (ev T x) H nx else qF P tS tX (ev T s) (ev T x) H nx
 |_=>none
theorem jp(E:Env)(w:World):Rel E w (.tup []) Go.undef:=Rel.tup [] [] rfl (by simp)
theorem uU{P:Program}{E:Env}{H:Nat->Option (List AV)}{nx:Nat}{w:World}{T:Nat->AV}{a:Act}(hE:EnvOk E w)(hh:HeapOk E H nx w)(hfr:cJ E nx)(ht:∀t,Rel E w (T t) (a.tmps.getD t Go.undef)){o:Oper}
    {r:AV} {H':Nat->Option (List AV)} {nx':Nat} (h:il P T H nx o.op=some (r,H',nx')):
    ∃n v w' E',(execOp a.eval o).run P w=.ok n w'/\(n=.value v\/n=.skip/\v=Go.undef)/\Ext E w E' w'/\EnvOk E' w'/\HeapOk E' H' nx' w'/\Rel E' w' r v/\cJ E' nx':=by
 have he:=λx=>nQ (E:=E) (w:=w) (T:=T) (a:=a) ht x
 have lift:∀(s:Sem Value)(r:AV)(H':Nat->Option (List AV))(nx':Nat),oB P E w s r H' nx'->
     ∃v w' E',(do pure (Next.value (<-s)):Sem Next).run P w=.ok (.value v) w'/\Ext E w E' w'/\EnvOk E' w'/\HeapOk E' H' nx' w'/\Rel E' w' r v/\cJ E' nx':=by
  rintro s r H' nx' ⟨v,w',E',h1,h2⟩;exact⟨v,w',E',by simp only[bA,h1,bu];rfl,h2⟩
 have fin:∀(s:Sem Value)(r:AV)(H':Nat->Option (List AV))(nx':Nat),execOp a.eval o=(do pure (Next.value (<-s)):Sem Next)->oB P E w s r H' nx'->
     ∃n v w' E',(execOp a.eval o).run P w=.ok n w'/\(n=.value v\/n=.skip/\v=Go.undef)/\Ext E w E' w'/\EnvOk E' w'/\HeapOk E' H' nx' w'/\Rel E' w' r v/\cJ E' nx':=by
  intro s r H' nx' hs hk;obtain⟨v,w',E',h1,h2⟩:=lift s r H' nx' hk;exact⟨.value v,v,w',E',by rw[hs];exact h1,.inl rfl,h2⟩
 obtain⟨dst,op,type,pos,after,guard⟩:=o;simp only at h;unfold il at h;have pmap:∀parts:Array (Nat×Operand),(parts.map λ(i,x)=>(i,a.eval x))=(parts.toList.map λp=>(p.1,a.eval p.2)).toArray:=λparts=>by rw[<-jH]
 have prel:∀parts:Array (Nat×Operand),∀(i:Nat)(p:Nat×AV)(q:Nat×Value),(parts.toList.map λp=>(p.1,ev T p.2))[i]?=some p->(parts.toList.map λp=>(p.1,a.eval p.2))[i]?=some q->q.1=p.1/\Rel E w p.2 q.2:=by
  intro parts i p q hp hq;rw[ko] at hp hq;cases hl:parts.toList[i]? with
  |none=>rw[hl] at hp;cases hp
  |some o=>rw[hl] at hp hq;cases hp;cases hq;exact⟨rfl,he _⟩
 split at h
 ·exact fin _ _ _ _ rfl ((vN h).effOk hE hh hfr)
 ·rename_i t x;exact fin _ _ _ _ rfl ((vF (t:=t) (he x) h).effOk hE hh hfr)
 ·rename_i t len parts;have hs:=sJ (P:=P) (vparts:=parts.toList.map λp=>(p.1,a.eval p.2)) (by rw[bi,bi]) (prel parts) h;refine fin _ _ _ _ ?_ (hs.effOk hE hh hfr);rw[<-pmap];rfl
 ·rename_i t l c;exact fin _ _ _ _ rfl ((xU (he l) (he c) h).effOk hE hh hfr)
 ·rename_i t p x;split at h
  ·rename_i H1 hs;cases h;obtain⟨w',E',h1,h2,h3,h4,h5⟩:=yi (P:=P) hE hh hfr (he p) (he x) hs;exact⟨.skip,Go.undef,w',E',by simp only[execOp,bA,h1,bu];rfl,.inr ⟨rfl,rfl⟩,h2,h3,h4,jp _ _,h5⟩
  ·cases h
 ·rename_i s x tS tX;split at h
  ·refine fin (Builtin.append_ #[tS,tX] type #[a.eval s,a.eval x]) _ _ _ ?_ (zR hE hh hfr (he s) (he x) h);simp[execOp,resolve,invoke,builtin]
  ·refine fin (Builtin.append_ #[tS,tX] type #[a.eval s,a.eval x]) _ _ _ ?_ (wI hE hh hfr (he s) (he x) h);simp[execOp,resolve,invoke,builtin]
 ·cases h
def cok(P:Program)(g:FuncId):Bool:=match P.funcs[g]? with
 |some fn=>fn.body.isSome&& !(fn.name== "runtime.NumGoroutine")
 |none=>false
theorem hJ{P:Program}{g:FuncId}(h:cok P g=true)(args:Array Value)(w:World):(callFunc g args).run P w=.ok (.enter g args) w:=by
 unfold cok at h;split at h
 ·rename_i fn hf;simp only[eL,Bool.not_eq_true'] at h;obtain⟨h1,h2⟩:=h;have h3:fn.body.isNone=false:=by cases hb:fn.body<;>simp[hb] at h1 |-
  simp only[callFunc,bA,run_program,bu,hf,h2,h3,dX,if_false];rfl
 ·cases h
def E0(imm:Nat->Prop):Env:=⟨0,default,imm,λ_ _=>none,λ_=>none,λ_=>none,λ_=>False⟩
theorem Rel.mono{E E':Env}{w:World}(hi:∀b,E.imm b->E'.imm b)(hm:∀b n x,E.mu b n=some x->E'.mu b n=some x)(hs:∀b x,E.sp b=some x->E'.sp b=some x){a:AV}{v:Value}(h:Rel E w a v):Rel E' w a v:=by
 induction h with
 |undef v=>exact .undef v
 |bool b=>exact .bool b
 |int k n=>exact .int k n
 |str s=>exact .str s
 |nilp=>exact .nilp
 |nilf=>exact .nilf
 |yld b l h=>exact .yld b l (hs _ _ h)
 |mp b k h=>exact .mp b k (hs _ _ h)
 |nilm=>exact .nilm
 |itr b k h=>exact .itr b k (hs _ _ h)
 |ptr b n off blk sz h=>exact .ptr b n off blk sz (hm _ _ _ h)
 |iptr cells off blk o vals h1 hc _ ih=>exact .iptr cells off blk o vals (hi _ h1) hc ih
 |eslnil=>exact .eslnil
 |esl a=>exact .esl a
 |slnil sz=>exact .slnil sz
 |slempty sz a c=>exact .slempty sz a c
 |sl sz elems blk o cap vals h1 hlen hsz hc _ ih=>exact .sl sz elems blk o cap vals (hi _ h1) hlen hsz hc ih
 |msl b n sz off len blk bsz cap h hl hc hn=>exact .msl b n sz off len blk bsz cap (hm _ _ _ h) hl hc hn
 |msl0 b sz v h=>exact .msl0 b sz v h
 |func f caps cv hl _ ih=>exact .func f caps cv hl ih
 |bfn f caps cv hl _ ih=>exact .bfn f caps cv hl ih
 |agg cs vs hl _ ih=>exact .agg cs vs hl ih
 |tup cs vs hl _ ih=>exact .tup cs vs hl ih
def Pure(P:Program)(f:FuncId)(args:List AV)(r:AV):Prop:=
 cok P f=true/\∀(imm:Nat->Prop)(w:World)(vs:List Value),(∀b,imm b->b<w.heap.size)->dI (E0 imm) w args vs->
  Calls P f vs.toArray w λe w'=>∃v imm',e=.returned v/\Below w.heap.size w w'/\(∀b,imm b->imm' b)/\(∀b,imm' b->imm b\/w.heap.size<=b)/\(∀b,imm' b->b<w'.heap.size)/\Rel (E0 imm') w' r v/\w.drawn<=w'.drawn
def Fn(P:Program)(f:FuncId)(args:List AV)(H:Nat->Option (List AV))(nx:Nat)(R:AV->(Nat->Option (List AV))->Nat->Prop):Prop:=
 cok P f=true/\∀(E:Env)(w:World)(vs:List Value),EnvOk E w->HeapOk E H nx w->cJ E nx->dI E w args vs->
  Calls P f vs.toArray w λe w'=>∃v E' r H' nx',e=.returned v/\Ext E w E' w'/\EnvOk E' w'/\HeapOk E' H' nx' w'/\cJ E' nx'/\Rel E' w' r v/\R r H' nx'
theorem Fn.mono{P:Program}{f:FuncId}{args:List AV}{H:Nat->Option (List AV)}{nx:Nat}{R R':AV->(Nat->Option (List AV))->Nat->Prop}(h:Fn P f args H nx R)(hR:∀r H' nx',R r H' nx'->R' r H' nx'):Fn P f args H nx R':=
 ⟨h.1,λE w vs h1 h2 h3 h4=>(h.2 E w vs h1 h2 h3 h4).mono λe w' ⟨v,E',r,H',nx',k1,k2,k3,k4,k5,k6,k7⟩=>⟨v,E',r,H',nx',k1,k2,k3,k4,k5,k6,hR _ _ _ k7⟩⟩
@[congr] theorem Fn_congr {P:Program} {f:FuncId} {args args':List AV} {H H':Nat->Option (List AV)} {nx nx':Nat} {R:AV->(Nat->Option (List AV))->Nat->Prop} (ha:args=args') (hH:H=H') (hn:nx=nx'):Fn P f args H nx R=Fn P f args' H' nx' R:=by
 subst ha hH hn;rfl
inductive Snap(H:Nat->Option (List AV)):AV->AV->Prop
 |bool (b:Bool):Snap H (.bool b) (.bool b)
 |int (k:IntKind) (n:Int):Snap H (.int k n) (.int k n)
 |str (s:ByteArray):Snap H (.str s) (.str s)
 |nilp:Snap H .nilp .nilp
 |nilf:Snap H .nilf .nilf
 |nilm:Snap H .nilm .nilm
 |esl:Snap H .esl .esl
 |eslsl (sz:Nat):Snap H .esl (.sl sz [])
 |sl (sz:Nat) (l l':List AV) (hl:l.length=l'.length) (hc:∀(i:Nat)(x y:AV),l[i]?=some x->l'[i]?=some y->y.cells.length=x.cells.length)
     (h:∀(i j:Nat)(x y a b:AV),l[i]?=some x->l'[i]?=some y->x.cells[j]?=some a->y.cells[j]?=some b->Snap H a b):Snap H (.sl sz l) (.sl sz l')
 |slnil (sz sz':Nat):Snap H (.sl sz []) (.sl sz' [])
 |msl (b n sz off len:Nat) (cs:List AV) (l':List AV) (hb:H b=some cs) (hn:cs.length=n) (hfit:off+len*sz<=n) (hl:l'.length=len) (hc:∀y∈l',y.cells.length=sz)
     (h:∀(i j:Nat)(y a c:AV),l'[i]?=some y->y.cells[j]?=some c->cs[off+i*sz+j]?=some a->Snap H a c):Snap H (.msl b n sz off len) (.sl sz l')
 |mslnil (b n sz off sz':Nat):Snap H (.msl b n sz off 0) (.sl sz' [])
 |ptr (b n off:Nat) (cs cs':List AV) (hb:H b=some cs) (hn:cs.length=n) (hl:cs'.length=n) (h:∀(i:Nat)(a c:AV),cs[i]?=some a->cs'[i]?=some c->Snap H a c):Snap H (.ptr b n off) (.iptr cs' off)
 |iptr (cs cs':List AV) (off:Nat) (hl:cs'.length=cs.length) (h:∀(i:Nat)(a c:AV),cs[i]?=some a->cs'[i]?=some c->Snap H a c):Snap H (.iptr cs off) (.iptr cs' off)
 |func (f:FuncId) (cs cs':List AV) (hl:cs'.length=cs.length) (h:∀(i:Nat)(a c:AV),cs[i]?=some a->cs'[i]?=some c->Snap H a c):Snap H (.func f cs) (.func f cs')
 |agg (cs cs':List AV) (hl:cs'.length=cs.length) (h:∀(i:Nat)(a c:AV),cs[i]?=some a->cs'[i]?=some c->Snap H a c):Snap H (.agg cs) (.agg cs')
 |tup (cs cs':List AV) (hl:cs'.length=cs.length) (h:∀(i:Nat)(a c:AV),cs[i]?=some a->cs'[i]?=some c->Snap H a c):Snap H (.tup cs) (.tup cs')
def iW(E:Env)(H:Nat->Option (List AV))(blk:Nat):Prop:=∃b cs sz,H b=some cs/\E.mu b cs.length=some (blk,sz)
theorem Snap.sound{E:Env}{H:Nat->Option (List AV)}{nx:Nat}{w:World}(hh:HeapOk E H nx w){x y:AV}(h:Snap H x y):∀{v:Value},Rel E w x v->Rel (E0 λb=>E.imm b\/iW E H b) w y v:=by
 induction h with
 |bool b=>intro v hv;cases hv;exact .bool _
 |int k n=>intro v hv;cases hv;exact .int _ _
 |str s=>intro v hv;cases hv;exact .str _
 |nilp=>intro v hv;cases hv;exact .nilp
 |nilf=>intro v hv;cases hv;exact .nilf
 |nilm=>intro v hv;cases hv;exact .nilm
 |esl=>intro v hv;cases hv with
  |eslnil=>exact .eslnil
  |esl a=>exact .esl _
 |eslsl sz=>intro v hv;cases hv with
  |eslnil=>exact .slnil _
  |esl a=>exact .slempty _ _ _
 |slnil sz sz'=>intro v hv;cases hv with
  |slnil=>exact .slnil _
  |slempty=>exact .slempty _ _ _
  |sl _ _ blk o cap vals h1 h2 h3 h4 h5=>exact .slempty _ _ _
 |mslnil b n sz off sz'=>intro v hv;cases hv with
  |msl=>exact .slempty _ _ _
  | msl0 _ _ _ h => rcases h with rfl | ⟨_, rfl⟩
                    ·exact .slnil _
                    ·exact .slempty _ _ _
 |sl sz l l' hl hc h ih=>
  intro v hv;cases hv with
  | slnil => have : l' = [] := fP.1 hl.symm
             subst this;exact .slnil _
  | slempty => have : l' = [] := fP.1 hl.symm
               subst this;exact .slempty _ _ _
  |sl _ _ blk o cap vals h1 h2 h3 h4 h5=>
   have hcl:∀y∈l',y.cells.length=sz:=by
    intro y hy;obtain⟨i,hi⟩:=rY hy;have hlt:i<l.length:=by have:=(bH.1 hi).1;omega
    rw[hc i l[i] y (by simp[hlt]) hi];exact h3 _ (mq hlt)
   have:=Rel.sl (E:=E0 fun b=>E.imm b ∨ iW E H b) (w:=w) sz l' blk o cap vals (.inl h1) (by omega) hcl (fun i hi=>h4 i (by rw [hl]; exact hi)) (fun i j y c hy hc'=>by
    have hlt:i<l.length:=by have:=(bH.1 hy).1;omega
    have hjl:j<l[i].cells.length:=by
     have e1:=(bH.1 hc').1;rw[hc i l[i] y (by simp[hlt]) hy] at e1;exact e1
    exact ih i j l[i] y l[i].cells[j] c (by simp[hlt]) hy (by simp[hjl]) hc' (h5 i j l[i] _ (by simp[hlt]) (by simp[hjl])))
   rw[<-hl] at this;exact this
 |msl b n sz off len cs l' hb hn hfit hl hc h ih=>
  intro v hv;generalize hnn:n=nn at hv;cases hv with
  |msl0=>
   have:l'=[]:=fP.1 hl;subst this;rename_i hv;rcases hv with rfl|⟨_,rfl⟩
   ·exact .slnil _
   ·exact .slempty _ _ _
  |msl _ _ _ _ _ blk bsz cap hm hlc hcp hnc=>
   subst hnn;rcases hh.box b cs hb with hn0|⟨blk',sz'',hbx⟩
   ·rw[hn,hm] at hn0;cases hn0
   have e:=hbx.mu;rw[hn,hm] at e;cases e;obtain⟨vals,ty,fz,k1,kz,k2,k3,k4⟩:=hbx.cells
   have hcell:∀i,off+i<cs.length->w.cell? ⟨blk,off+i,none⟩=some (vals.getD (off+i) Go.undef):=by
    intro i hi;refine cell?_of_heap k1 ?_;have:off+i<vals.size:=by omega
    simp[this]
   have:=Rel.sl (E:=E0 λb=>E.imm b\/iW E H b) (w:=w) sz l' blk off cap (λi=>vals.getD (off+i) Go.undef) (.inr ⟨b,cs,bsz,hb,by rw[hn];exact hm⟩) (by omega) hc
    (fun i hi=>hcell i (by rw [hl] at hi; omega)) (fun i j y c hy hc'=>by
    have hil:i<len:=by have:=(bH.1 hy).1;omega
    have hjs:j<sz:=by have e1:=(bH.1 hc').1;rw[hc y (ir hy)] at e1;exact e1
    have hlt:off+i*sz+j<cs.length:=by
     have:(i+1)*sz<=len*sz:=jv _ hil;rw[d8] at this;omega
    obtain⟨v',hv',_,hr⟩:=k4 (off+i*sz+j) cs[off+i*sz+j] (by simp[hlt]);have:=ih i j y _ c hy hc' (by simp[hlt]) hr
    have e2:vals.getD (off+(i*sz+j)) Go.undef=v':=by
     rw[<-kw];simp[hv']
    rw[e2];exact this)
   rw[hl] at this;exact this
 |ptr b n off cs cs' hb hn hl h ih=>
  intro v hv;cases hv with
  |ptr _ _ _ blk sz hm=>
   rcases hh.box b cs hb with hn0|⟨blk',sz'',hbx⟩
   ·rw[hn,hm] at hn0;cases hn0
   have e:=hbx.mu;rw[hn,hm] at e;cases e;obtain⟨vals,ty,fz,k1,kz,k2,k3,k4⟩:=hbx.cells
   have:=Rel.iptr (E:=E0 λb=>E.imm b\/iW E H b) (w:=w) cs' off blk 0 (λi=>vals.getD i Go.undef) (.inr ⟨b,cs,sz,hb,by rw[hn];exact hm⟩)
    (fun i hi=>by
     rw[dt];refine cell?_of_heap k1 ?_;have:i<vals.size:=by omega
     simp[this]) (λi c hc=>by
     have hlt:i<cs.length:=by have:=(bH.1 hc).1;omega
     obtain⟨v',hv',_,hr⟩:=k4 i cs[i] (by simp[hlt]);have:=ih i _ c (by simp[hlt]) hc hr;have e2:vals.getD i Go.undef=v':=by simp[hv']
     rw[e2];exact this)
   rw[dt] at this;exact this
 |iptr cs cs' off hl h ih=>
  intro v hv;cases hv with
  |iptr _ _ blk o vals h1 h2 h3=>
   exact .iptr cs' off blk o vals (.inl h1) (fun i hi=>h2 i (by omega)) (fun i c hc=>by
    have hlt:i<cs.length:=by have:=(bH.1 hc).1;omega
    exact ih i cs[i] c (by simp[hlt]) hc (h3 i _ (by simp[hlt])))
 |func f cs cs' hl h ih=>
  intro v hv;cases hv with
  |func _ _ cv h1 h2=>
   exact .func f cs' cv (by omega) (fun i c y hc hy=>by
    have hlt:i<cs.length:=by have:=(bH.1 hc).1;omega
    exact ih i cs[i] c (by simp[hlt]) hc (h2 i _ y (by simp[hlt]) hy))
 |agg cs cs' hl h ih=>
  intro v hv;cases hv with
  |agg _ cv h1 h2=>
   exact .agg cs' cv (by omega) (fun i c y hc hy=>by
    have hlt:i<cs.length:=by have:=(bH.1 hc).1;omega
    exact ih i cs[i] c (by simp[hlt]) hc (h2 i _ y (by simp[hlt]) hy))
 |tup cs cs' hl h ih=>
  intro v hv;cases hv with
  |tup _ cv h1 h2=>
   exact .tup cs' cv (by omega) (fun i c y hc hy=>by
    have hlt:i<cs.length:=by have:=(bH.1 hc).1;omega
    exact ih i cs[i] c (by simp[hlt]) hc (h2 i _ y (by simp[hlt]) hy))
def aP:Nat->Option (List AV):=λ_=>none
def aK(H:Nat->Option (List AV))(xs ys:List AV):Prop:=ys.length=xs.length/\∀(i:Nat)(x y:AV),xs[i]?=some x->ys[i]?=some y->Snap H x y
theorem aK.nil{H:Nat->Option (List AV)}:aK H [] []:=⟨rfl,by simp⟩
theorem aK.cons{H:Nat->Option (List AV)}{x y:AV}{xs ys:List AV}(h:Snap H x y)(hs:aK H xs ys):aK H (x::xs) (y::ys):=by
 refine⟨by simp[hs.1],λi a b ha hb=>?_⟩;cases i with
 |zero=>simp at ha hb;subst ha hb;exact h
 |succ i=>exact hs.2 i a b (by simpa using ha) (by simpa using hb)
theorem aK.sound{E:Env}{H:Nat->Option (List AV)}{nx:Nat}{w:World}(hh:HeapOk E H nx w){xs ys:List AV}(h:aK H xs ys){vs:List Value}(hv:dI E w xs vs):dI (E0 λb=>E.imm b\/iW E H b) w ys vs:=by
 refine⟨by rw[hv.1,h.1],λi y v hy hvi=>?_⟩;have hlt:i<xs.length:=by have:=(bH.1 hy).1;rw[h.1] at this;exact this
 exact(h.2 i xs[i] y (by simp[hlt]) hy).sound hh (hv.2 i _ v (by simp[hlt]) hvi)
theorem HeapOk.noBox{E:Env}{w:World}(hs:E.base<=w.heap.size):HeapOk E aP 0 w:=
 ⟨λ_ _ h=>(by cases h),λ_ _ h=>(by cases h),λ_ _ _ _ _ _ _ _ h=>(by cases h),hs,λ_ _ _ _ h=>(by cases h),λ_ _ h=>(by cases h),λ_ h=>(by cases h)⟩
theorem aK.sound0{E:Env}{w:World}(hs:E.base<=w.heap.size){xs ys:List AV}(h:aK aP xs ys){vs:List Value}(hv:dI E w xs vs):dI (E0 E.imm) w ys vs:=by
 have:=h.sound (HeapOk.noBox (E:=E) (w:=w) hs) hv;refine⟨this.1,λi x y hx hy=>Rel.mono (E:=E0 λb=>E.imm b\/iW E aP b) (E':=E0 E.imm) ?_ (λ_ _ _ h=>h) (λ_ _ h=>h) (this.2 i x y hx hy)⟩;intro b hb;rcases hb with hb|⟨_,_,_,hn,_⟩
 ·exact hb
 ·exact(by cases hn)
def AV.sca1:AV->Bool
 |.bool _|.int _ _|.str _|.nilp|.nilf|.nilm|.esl|.sl _ []=>true
 |_=>false
def AV.sca:AV->Bool
 |.agg cs=>cs.all AV.sca1
 |.tup cs=>cs.all AV.sca1
 |x=>x.sca1
theorem Rel.sca1{E E':Env}{w w':World}{x:AV}{v:Value}(h:Rel E w x v)(hs:x.sca1=true):Rel E' w' x v:=by
 cases h with
 |bool b=>exact .bool _
 |int k n=>exact .int _ _
 |str s=>exact .str _
 |nilp=>exact .nilp
 |nilf=>exact .nilf
 |eslnil=>exact .eslnil
 |esl a=>exact .esl _
 |slnil sz=>exact .slnil _
 |slempty=>exact .slempty _ _ _
 |sl sz elems blk o cap vals h1 h2 h3 h4 h5=>
  cases elems with
  |nil=>exact .slempty _ _ _
  |cons a l=>simp[AV.sca1] at hs
 |undef=>simp[AV.sca1] at hs
 |yld=>simp[AV.sca1] at hs
 |mp=>simp[AV.sca1] at hs
 |itr=>simp[AV.sca1] at hs
 |nilm=>exact .nilm
 |ptr=>simp[AV.sca1] at hs
 |iptr=>simp[AV.sca1] at hs
 |msl=>simp[AV.sca1] at hs
 |msl0=>simp[AV.sca1] at hs
 |func=>simp[AV.sca1] at hs
 |bfn=>simp[AV.sca1] at hs
 |agg=>simp[AV.sca1] at hs
 |tup=>simp[AV.sca1] at hs
theorem Rel.sca{E E':Env}{w w':World}{x:AV}{v:Value}(h:Rel E w x v)(hs:x.sca=true):Rel E' w' x v:=by
 cases h with
 |agg cs vs hl hr=>
  exact .agg cs vs hl (λi a y ha hy=>(hr i a y ha hy).sca1 (dQ.1 hs a (ir ha)))
 |tup cs vs hl hr=>
  exact .tup cs vs hl (λi a y ha hy=>(hr i a y ha hy).sca1 (dQ.1 hs a (ir ha)))
 |bool b=>exact .bool _
 |int k n=>exact .int _ _
 |str s=>exact .str _
 |nilp=>exact .nilp
 |nilf=>exact .nilf
 |eslnil=>exact .eslnil
 |esl a=>exact .esl _
 |slnil sz=>exact .slnil _
 |slempty=>exact .slempty _ _ _
 |sl sz elems blk o cap vals h1 h2 h3 h4 h5=>exact(Rel.sl (E:=E) (w:=w) sz elems blk o cap vals h1 h2 h3 h4 h5).sca1 hs
 |undef=>simp[AV.sca,AV.sca1] at hs
 |yld=>simp[AV.sca,AV.sca1] at hs
 |mp=>simp[AV.sca,AV.sca1] at hs
 |itr=>simp[AV.sca,AV.sca1] at hs
 |nilm=>exact .nilm
 |ptr=>simp[AV.sca,AV.sca1] at hs
 |iptr=>simp[AV.sca,AV.sca1] at hs
 |msl=>simp[AV.sca,AV.sca1] at hs
 |msl0=>simp[AV.sca,AV.sca1] at hs
 |func=>simp[AV.sca,AV.sca1] at hs
 |bfn=>simp[AV.sca,AV.sca1] at hs
def ap(H:Nat->Option (List AV))(args args':List AV)(r:AV):Prop:=aK aP args args'\/aK H args args'/\r.sca=true
theorem Below.still{w w':World}(h:Below w.heap.size w w'):fQ w w':=λk o ho _=>by
 rw[h.block k (kT.1 ho).1];exact ho
theorem Pure.calls{P:Program}{f:FuncId}{args args':List AV}{r:AV}(hp:Pure P f args' r){H:Nat->Option (List AV)}{nx:Nat}(hs:ap H args args' r)
    {E:Env} {w:World} {vs:List Value} (hE:EnvOk E w) (hh:HeapOk E H nx w) (hv:dI E w args vs):
    Calls P f vs.toArray w λe w'=>∃v E',e=.returned v/\Below w.heap.size w w'/\Ext E w E' w'/\EnvOk E' w'/\E'.mu=E.mu/\(∀b,E'.imm b->E.imm b\/w.heap.size<=b)/\E'.sp=E.sp/\E'.lp=E.lp/\Rel E' w' r v:=by
 have fin:∀(imm':Nat->Prop)(w':World),Below w.heap.size w w'->w.drawn<=w'.drawn->(∀b,E.imm b->imm' b)->(∀b,imm' b->E.imm b\/w.heap.size<=b)->(∀b,imm' b->b<w'.heap.size)->
     Ext E w {E with imm:=imm'} w'/\EnvOk {E with imm:=imm'} w':=by
  intro imm' w' hb hdr h1 h2 h3;have he:Ext E w {E with imm:=imm'} w':=⟨rfl,rfl,h1,λb hb'=>(h2 b hb').imp id (λh=>eK hh.size h),λ_ _ _ h=>h,λ_ _ h=>h,λ_ _ h=>h,λb h=>⟨h,hb.block b (hE.dlt h)⟩,hb.size,λb hb'=>hb.block b (hE.lt b hb'),hdr⟩
  refine⟨he,hE.step he (λb h=>.inr (h3 b h)) (λk hk=>(h2 k hk).imp id (λhge b hb'=>?_)) (hb.mono hh.size) (Below.still hb) rfl rfl rfl (λ_ _ _ _=>rfl)⟩;have:=hE.splt hb';omega
 rcases hs with hs|⟨hs,hr⟩
 ·have:=hp.2 E.imm w vs hE.lt (hs.sound0 hh.size hv);refine this.mono ?_;rintro e w' ⟨v,imm',rfl,hb,h1,h2,h3,h4,hdr⟩;obtain⟨k1,k2⟩:=fin imm' w' hb hdr h1 h2 h3;exact⟨v,_,rfl,hb,k1,k2,rfl,h2,rfl,rfl,Rel.mono (E:=E0 imm') (E':={E with imm:=imm'}) (λ_ h=>h) (λ_ _ _ h=>(by cases h)) (λ_ _ h=>(by cases h)) h4⟩
 ·have:=hp.2 (λb=>E.imm b\/iW E H b) w vs (λb hb=>hb.elim (hE.lt b) (λ⟨b',cs,sz,h1,h2⟩=>(hh.blk_lt h1 h2).1)) (hs.sound hh hv);refine this.mono ?_;rintro e w' ⟨v,imm',rfl,hb,h1,h2,h3,h4,hdr⟩;obtain⟨k1,k2⟩:=fin E.imm w' hb hdr (λ_ h=>h) (λ_ h=>.inl h) (λb hb'=>Ak (hE.lt b hb') hb.size);exact⟨v,E,rfl,hb,k1,k2,rfl,λ_ h=>.inl h,rfl,rfl,h4.sca hr⟩
theorem HeapOk.below{E E':Env}{H:Nat->Option (List AV)}{nx:Nat}{w w':World}(h:HeapOk E H nx w)(he:Ext E w E' w')(hb:Below w.heap.size w w')(hmu:E'.mu=E.mu)(hi:∀b,E'.imm b->E.imm b\/w.heap.size<=b)(hsp:E'.sp=E.sp):HeapOk E' H nx w':=
 h.step he hi (bc _) (λ_ _ _ _=>by rw[hmu]) (λb cs blk sz h1 h2=>hb.block _ (h.blk_lt h1 h2).1) (Below.still hb) hsp
theorem Fn.of_pure{P:Program}{f:FuncId}{args args':List AV}{r:AV}(hp:Pure P f args' r){H:Nat->Option (List AV)}{nx:Nat}(hs:ap H args args' r){R:AV->(Nat->Option (List AV))->Nat->Prop}(hR:R r H nx):Fn P f args H nx R:=by
 refine⟨hp.1,λE w vs hE hh hfr hv=>(hp.calls hs hE hh hv).mono ?_⟩;rintro e w' ⟨v,E',rfl,hb,he,hE',hmu,hi,hsp,hlp,hr⟩;exact⟨v,E',r,H,nx,rfl,he,hE',hh.below he hb hmu hi hsp,hfr.of (bc _) (λb n _=>by rw[hmu]) hsp hlp,hr,hR⟩
def sC(P:Program)(f:FuncId)(args:List AV)(H:Nat->Option (List AV))(r:AV):Prop:=
 cok P f=true/\∀(E:Env)(nx:Nat)(w:World)(vs:List Value),EnvOk E w->HeapOk E H nx w->dI E w args vs->
  Calls P f vs.toArray w λe w'=>∃v E',e=.returned v/\Below w.heap.size w w'/\Ext E w E' w'/\EnvOk E' w'/\E'.mu=E.mu/\(∀b,E'.imm b->E.imm b\/w.heap.size<=b)/\E'.sp=E.sp/\E'.lp=E.lp/\Rel E' w' r v
theorem Pure.callOk{P:Program}{f:FuncId}{args args':List AV}{r:AV}(hp:Pure P f args' r){H:Nat->Option (List AV)}(hs:ap H args args' r):sC P f args H r:=
 ⟨hp.1,λE nx w vs hE hh hv=>hp.calls hs hE hh hv⟩
theorem Fn.of_callOk{P:Program}{f:FuncId}{args:List AV}{r:AV}{H:Nat->Option (List AV)}{nx:Nat}(hp:sC P f args H r){R:AV->(Nat->Option (List AV))->Nat->Prop}(hR:R r H nx):Fn P f args H nx R:=by
 refine⟨hp.1,λE w vs hE hh hfr hv=>(hp.2 E nx w vs hE hh hv).mono ?_⟩;rintro e w' ⟨v,E',rfl,hb,he,hE',hmu,hi,hsp,hlp,hr⟩;exact⟨v,E',r,H,nx,rfl,he,hE',hh.below he hb hmu hi hsp,hfr.of (bc _) (λb n _=>by rw[hmu]) hsp hlp,hr,hR⟩
inductive SnapF(H:Nat->Option (List AV)):AV->AV->Prop
 |bool (b:Bool):SnapF H (.bool b) (.bool b)
 |int (k:IntKind) (n:Int):SnapF H (.int k n) (.int k n)
 |str (s:ByteArray):SnapF H (.str s) (.str s)
 |nilp:SnapF H .nilp .nilp
 |nilf:SnapF H .nilf .nilf
 |nilm:SnapF H .nilm .nilm
 |esl:SnapF H .esl .esl
 |eslsl (sz:Nat):SnapF H .esl (.sl sz [])
 |slnil (sz sz':Nat):SnapF H (.sl sz []) (.sl sz' [])
 |msl (b n sz off len:Nat) (cs:List AV) (l':List AV) (hb:H b=some cs) (hn:cs.length=n) (hfit:off+len*sz<=n) (hl:l'.length=len) (hc:∀y∈l',y.cells.length=sz)
     (h:∀(i j:Nat)(y a c:AV),l'[i]?=some y->y.cells[j]?=some c->cs[off+i*sz+j]?=some a->SnapF H a c):SnapF H (.msl b n sz off len) (.sl sz l')
 |mslnil (b n sz off sz':Nat):SnapF H (.msl b n sz off 0) (.sl sz' [])
 |ptr (b n off:Nat) (cs cs':List AV) (hb:H b=some cs) (hn:cs.length=n) (hl:cs'.length=n) (h:∀(i:Nat)(a c:AV),cs[i]?=some a->cs'[i]?=some c->SnapF H a c):SnapF H (.ptr b n off) (.iptr cs' off)
 |func (f:FuncId) (cs cs':List AV) (hl:cs'.length=cs.length) (h:∀(i:Nat)(a c:AV),cs[i]?=some a->cs'[i]?=some c->SnapF H a c):SnapF H (.func f cs) (.func f cs')
 |agg (cs cs':List AV) (hl:cs'.length=cs.length) (h:∀(i:Nat)(a c:AV),cs[i]?=some a->cs'[i]?=some c->SnapF H a c):SnapF H (.agg cs) (.agg cs')
 |tup (cs cs':List AV) (hl:cs'.length=cs.length) (h:∀(i:Nat)(a c:AV),cs[i]?=some a->cs'[i]?=some c->SnapF H a c):SnapF H (.tup cs) (.tup cs')
theorem SnapF.sound{E:Env}{H:Nat->Option (List AV)}{nx:Nat}{w:World}(hh:HeapOk E H nx w){x y:AV}(h:SnapF H x y):∀{v:Value},Rel E w x v->Rel (E0 λb=>iW E H b) w y v:=by
 induction h with
 |bool b=>intro v hv;cases hv;exact .bool _
 |int k n=>intro v hv;cases hv;exact .int _ _
 |str s=>intro v hv;cases hv;exact .str _
 |nilp=>intro v hv;cases hv;exact .nilp
 |nilf=>intro v hv;cases hv;exact .nilf
 |nilm=>intro v hv;cases hv;exact .nilm
 |esl=>intro v hv;cases hv with
  |eslnil=>exact .eslnil
  |esl a=>exact .esl _
 |eslsl sz=>intro v hv;cases hv with
  |eslnil=>exact .slnil _
  |esl a=>exact .slempty _ _ _
 |slnil sz sz'=>intro v hv;cases hv with
  |slnil=>exact .slnil _
  |slempty=>exact .slempty _ _ _
  |sl _ _ blk o cap vals h1 h2 h3 h4 h5=>exact .slempty _ _ _
 |mslnil b n sz off sz'=>intro v hv;cases hv with
  |msl=>exact .slempty _ _ _
  | msl0 _ _ _ h => rcases h with rfl | ⟨_, rfl⟩
                    ·exact .slnil _
                    ·exact .slempty _ _ _
 |msl b n sz off len cs l' hb hn hfit hl hc h ih=>
  intro v hv;generalize hnn:n=nn at hv;cases hv with
  |msl0=>
   have:l'=[]:=fP.1 hl;subst this;rename_i hv;rcases hv with rfl|⟨_,rfl⟩
   ·exact .slnil _
   ·exact .slempty _ _ _
  |msl _ _ _ _ _ blk bsz cap hm hlc hcp hnc=>
   subst hnn;rcases hh.box b cs hb with hn0|⟨blk',sz'',hbx⟩
   ·rw[hn,hm] at hn0;cases hn0
   have e:=hbx.mu;rw[hn,hm] at e;cases e;obtain⟨vals,ty,fz,k1,kz,k2,k3,k4⟩:=hbx.cells
   have hcell:∀i,off+i<cs.length->w.cell? ⟨blk,off+i,none⟩=some (vals.getD (off+i) Go.undef):=by
    intro i hi;refine cell?_of_heap k1 ?_;have:off+i<vals.size:=by omega
    simp[this]
   have:=Rel.sl (E:=E0 λb=>iW E H b) (w:=w) sz l' blk off cap (λi=>vals.getD (off+i) Go.undef) ⟨b,cs,bsz,hb,by rw[hn];exact hm⟩ (by omega) hc
    (fun i hi=>hcell i (by rw [hl] at hi; omega)) (fun i j y c hy hc'=>by
    have hil:i<len:=by have:=(bH.1 hy).1;omega
    have hjs:j<sz:=by have e1:=(bH.1 hc').1;rw[hc y (ir hy)] at e1;exact e1
    have hlt:off+i*sz+j<cs.length:=by
     have:(i+1)*sz<=len*sz:=jv _ hil;rw[d8] at this;omega
    obtain⟨v',hv',_,hr⟩:=k4 (off+i*sz+j) cs[off+i*sz+j] (by simp[hlt]);have:=ih i j y _ c hy hc' (by simp[hlt]) hr
    have e2:vals.getD (off+(i*sz+j)) Go.undef=v':=by
     rw[<-kw];simp[hv']
    rw[e2];exact this)
   rw[hl] at this;exact this
 |ptr b n off cs cs' hb hn hl h ih=>
  intro v hv;cases hv with
  |ptr _ _ _ blk sz hm=>
   rcases hh.box b cs hb with hn0|⟨blk',sz'',hbx⟩
   ·rw[hn,hm] at hn0;cases hn0
   have e:=hbx.mu;rw[hn,hm] at e;cases e;obtain⟨vals,ty,fz,k1,kz,k2,k3,k4⟩:=hbx.cells
   have:=Rel.iptr (E:=E0 λb=>iW E H b) (w:=w) cs' off blk 0 (λi=>vals.getD i Go.undef) ⟨b,cs,sz,hb,by rw[hn];exact hm⟩
    (fun i hi=>by
     rw[dt];refine cell?_of_heap k1 ?_;have:i<vals.size:=by omega
     simp[this]) (λi c hc=>by
     have hlt:i<cs.length:=by have:=(bH.1 hc).1;omega
     obtain⟨v',hv',_,hr⟩:=k4 i cs[i] (by simp[hlt]);have:=ih i _ c (by simp[hlt]) hc hr;have e2:vals.getD i Go.undef=v':=by simp[hv']
     rw[e2];exact this)
   rw[dt] at this;exact this
 |func f cs cs' hl h ih=>
  intro v hv;cases hv with
  |func _ _ cv h1 h2=>
   exact .func f cs' cv (by omega) (fun i c y hc hy=>by
    have hlt:i<cs.length:=by have:=(bH.1 hc).1;omega
    exact ih i cs[i] c (by simp[hlt]) hc (h2 i _ y (by simp[hlt]) hy))
 |agg cs cs' hl h ih=>
  intro v hv;cases hv with
  |agg _ cv h1 h2=>
   exact .agg cs' cv (by omega) (fun i c y hc hy=>by
    have hlt:i<cs.length:=by have:=(bH.1 hc).1;omega
    exact ih i cs[i] c (by simp[hlt]) hc (h2 i _ y (by simp[hlt]) hy))
 |tup cs cs' hl h ih=>
  intro v hv;cases hv with
  |tup _ cv h1 h2=>
   exact .tup cs' cv (by omega) (fun i c y hc hy=>by
    have hlt:i<cs.length:=by have:=(bH.1 hc).1;omega
    exact ih i cs[i] c (by simp[hlt]) hc (h2 i _ y (by simp[hlt]) hy))
def PureF(P:Program)(f:FuncId)(args:List AV)(r:AV):Prop:=
 cok P f=true/\∀(imm:Nat->Prop)(w:World)(vs:List Value),(∀b,imm b->b<w.heap.size)->dI (E0 imm) w args vs->
  Calls P f vs.toArray w λe w'=>∃v imm',e=.returned v/\Below w.heap.size w w'/\(∀b,imm' b->w.heap.size<=b)/\(∀b,imm' b->b<w'.heap.size)/\Rel (E0 imm') w' r v/\w.drawn<=w'.drawn
theorem PureF.callOk{P:Program}{f:FuncId}{args args':List AV}{r:AV}(hp:PureF P f args' r){H:Nat->Option (List AV)}(hs:aK H args args'):sC P f args H r:=by
 refine⟨hp.1,λE nx w vs hE hh hv=>?_⟩;refine(hp.2 (λb=>E.imm b\/iW E H b) w vs (λb hb=>hb.elim (hE.lt b) (λ⟨b',cs,sz,h1,h2⟩=>(hh.blk_lt h1 h2).1)) (hs.sound hh hv)).mono ?_;rintro e w' ⟨v,imm',rfl,hb,h1,h2,h3,hdr⟩;have he:Ext E w {E with imm:=λb=>E.imm b\/imm' b} w':=⟨rfl,rfl,λ_ h=>.inl h,λb hb'=>hb'.imp id (λh=>eK hh.size (h1 b h)),λ_ _ _ h=>h,λ_ _ h=>h,λ_ _ h=>h,λb h=>⟨h,hb.block b (hE.dlt h)⟩,hb.size,λb hb'=>hb.block b (hE.lt b hb'),hdr⟩
 refine⟨v,{E with imm:=λb=>E.imm b\/imm' b},rfl,hb,he,hE.step he (λb h=>h.imp id (h2 b)) (λk hk=>hk.imp id (λhge b hb'=>?_)) (hb.mono hh.size) (Below.still hb) rfl rfl rfl (λ_ _ _ _=>rfl),rfl,λb h=>h.imp id (h1 b),rfl,rfl,?_⟩
 ·have:=hE.splt hb';have:=h1 k hge;omega
 ·exact Rel.mono (E:=E0 imm') (E':={E with imm:=λb=>E.imm b\/imm' b}) (λ_ h=>.inr h) (λ_ _ _ h=>(by cases h)) (λ_ _ h=>(by cases h)) h3
def upd(T:Nat->AV)(d:Nat)(v:AV):Nat->AV:=λt=>if t=d then v else T t
def aO(T:Nat->AV)(d:Option Nat)(v:AV):Nat->AV:=match d with
 |some d=>upd T d v
 |none=>T
def St.put(st:St)(d:Option Nat)(v:AV):St:={st with T:=aO st.T d v}
def dok(N:Nat)(d:Option Nat):Bool:=match d with
 |some d=>d<N
 |none=>true
def gval(T:Nat->AV)(dsts:List (Option Nat))(g:Option (Nat×Bool)):Option Bool:=
 match g with
 |none=>some true
 |some (j,want)=>match dsts[j]? with
  |some (some d)=>match T d with
   |.bool b=>some (b==want)
   |.tup []=>some false
   |_=>none
  |_=>none
theorem uD{E:Env}{w:World}{T:Nat->AV}{a:Act}{ops:List Oper}{o:Oper}{b:Bool}(ht:∀t,(∃j want,o.guard=some (j,want)/\((ops[j]?).bind (·.dst))=some t)->Rel E w (T t) (a.tmps.getD t Go.undef))
    (h:gval T (ops.map (·.dst)) o.guard=some b):Region.wanted o (yielded ops.toArray a.tmps)=b:=by
 unfold gval at h;unfold Region.wanted;split at h
 ·rename_i hg;rw[hg];cases h;rfl
 ·rename_i j want hg;rw[hg];simp only;split at h
  ·rename_i d hd
   have hj:(ops[j]?).bind (·.dst)=some d:=by
    rw[ko] at hd;cases ho:ops[j]? with
    |none=>rw[ho] at hd;cases hd
    |some o'=>rw[ho] at hd;simp at hd;simp[hd]
   have hr:=ht d ⟨j,want,hg,hj⟩;split at h
   ·rename_i b' hb;cases h;rw[hb] at hr;generalize hv:a.tmps.getD d Go.undef=v at hr;cases hr
    have:a.tmps[d]?=some (.bool b'):=by
     cases hq:a.tmps[d]? with
     |none=>simp[hq] at hv;cases hv
     |some u=>simp[hq] at hv;rw[hv]
    have hy:yielded ops.toArray a.tmps j=some b':=by
     unfold yielded;simp only[pu,hj,Option.bind_some,this]
    rw[hy];cases b'<;>cases want<;>rfl
   ·rename_i hb;cases h;rw[hb] at hr;generalize hv:a.tmps.getD d Go.undef=v at hr;cases hr with
    |tup cs vs hl _=>
    have hvs:vs=[]:=fP.1 hl;subst hvs
    have hy:yielded ops.toArray a.tmps j=none:=by
     unfold yielded;simp only[pu,hj,Option.bind_some];cases hq:a.tmps[d]? with
     |none=>rfl
     |some u=>simp[hq] at hv;rw[hv]
    rw[hy];cases want<;>rfl
   ·cases h
  ·cases h
inductive OpK where
 |pure|touch|alloc|write|other
 deriving DecidableEq
def opk:Op->OpK
 |.move _|.assign _|.pick .. |.nilCheck _|.binOp .. |.unOp .. |.convert .. |.makeFunc .. |.slice .. |.fieldAddr .. |.field .. |.indexAddr .. |.index .. |.extract .. |.build ..=>.pure
 |.load ..=>.touch
 |.alloc _|.box .. |.buildSlice .. |.makeSlice ..=>.alloc
 |.store ..=>.write
 |.call {callee:=.value _,..}=>.touch
 |.call {callee:=.builtin .len,..}|.call {callee:=.builtin .max,..}|.call {callee:=.builtin .min,..}|.call {callee:=.builtin .cap,..}=>.pure
 |.call {callee:=.builtin .append,..}=>.write
 |_=>.other
def kN:Op->Bool
 |.load ..=>true
 |_=>false
def lC(fr:Bool)(op:Op):Bool:=opk op==.pure || (fr&&kN op)
def tg(T:Nat->AV)(op:Op)(m:Nat):Bool:=match op with
 |.load _ a=>match ev T a with|.ptr b _ _=>b<m|_=>true
 |.store _ p _=>match ev T p with|.ptr b _ _=>m<=b|_=>true
 |op=>opk op !=.write
def gd(fr:Bool)(ops:List Oper)(x y:Oper):Bool:=
 (match x.dst with|some d=>(y.looksAt ops.toArray).contains d|none=>false) ||
 (match y.dst with|some d=>(x.looksAt ops.toArray).contains d|none=>false) ||
 (opk x.op==.write&& !lC fr y.op) || (opk y.op==.write&& !lC fr x.op)
theorem vI{fr:Bool}{op:Op}(h:opk op≠.pure)(h2:kN op=false):lC fr op=false:=by
 simp[lC,h2,h]
theorem lI{fr:Bool}{op:Op}(h:opk op=.alloc):lC fr op=false:=by
 refine vI (by rw[h];decide) ?_;cases op<;>first|rfl|(simp[opk] at h;done)
theorem sZ{fr:Bool}{op:Op}(h:opk op=.write):lC fr op=false:=by
 refine vI (by rw[h];decide) ?_;cases op<;>first|rfl|(simp[opk] at h;done)
def dS(m:Array Nat)(j i:Nat):Bool:=(m.getD j 0).testBit i
def dM(o:Oper):List Nat:=(o.after.toList.filter (Region.binds .any ·)).map (·.on)
def drawOk(fr:Bool)(ops:List Oper):Bool:=
 let m:=Region.before ops.toArray
 let n:=ops.length
 ((List.range n).all λj=>(dM (ops.getD j default)).all λk=>k<j)&&
 ((List.range n).all λj=>(List.range n).all λi=>!dS m j i || (dM (ops.getD j default)).any λk=>k==i || dS m k i)&&
 ((List.range n).all λj=>(List.range j).all λi=>!gd fr ops (ops.getD i default) (ops.getD j default) || dS m j i)&&
 ((List.range n).all λj=>(List.range j).all λi=>(ops.getD i default).dst.isNone || (ops.getD i default).dst !=(ops.getD j default).dst)
theorem Bh{T T':Nat->AV}{x:Operand}(h:∀t,x=.tmp t->T t=T' t):ev T x=ev T' x:=by
 cases x with
 |tmp t=>exact h t rfl
 |_=>rfl
theorem jq{P:Program}{T T':Nat->AV}{H:Nat->Option (List AV)}{op:Op}(h:∀x∈op.operands,ev T x=ev T' x):dF P T H op=dF P T' H op:=by
 have harr:∀(xs:Array Operand),(∀x∈xs,ev T x=ev T' x)->xs.toList.map (ev T)=xs.toList.map (ev T'):=λxs hx=>pz λx hm=>hx x (by simpa using hm);have hlist:∀(xs:List Operand),(∀x∈xs,ev T x=ev T' x)->xs.map (ev T)=xs.map (ev T'):=λxs hx=>pz λx hm=>hx x hm;cases op with
 |call c=>
  obtain⟨callee,args,argTypes⟩:=c;simp only[Op.operands,Call.operands] at h;obtain⟨args⟩:=args;obtain⟨argTypes⟩:=argTypes;cases callee with
  |builtin b=>
   simp only[yT] at h;have ha:∀x∈args,ev T x=ev T' x:=λx hx=>h x (.inr (by simpa using hx));cases b<;>try rfl
   ·rcases args with _|⟨x,_|⟨y,l⟩⟩
    ·rfl
    ·rcases argTypes with _|⟨t,_|⟨u,l⟩⟩
     ·rfl
     ·simp only[dF,ha x (by simp)]
     ·rfl
    ·rfl
   ·rcases args with _|⟨x,_|⟨y,l⟩⟩
    ·rfl
    ·rcases argTypes with _|⟨t,_|⟨u,l⟩⟩
     ·rfl
     ·simp only[dF,ha x (by simp)]
     ·rfl
    ·rfl
   ·rcases args with _|⟨x,l⟩
    ·rfl
    ·simp only[dF,ha x (by simp),hlist l (λy hy=>ha y (by simp[hy]))]
   ·rcases args with _|⟨x,l⟩
    ·rfl
    ·simp only[dF,ha x (by simp),hlist l (λy hy=>ha y (by simp[hy]))]
  |_=>rfl
 |makeFunc fn first captured=>
  cases fn with
  |func f=>
   simp only[Op.operands,yT] at h;simp only[dF,harr captured (λx hx=>h x (.inr hx)),harr first (λx hx=>h x (.inl hx))]
  |_=>rfl
 |build t parts=>
  simp only[Op.operands] at h;simp only[dF]
  congr 1
  refine pz λp hp=>?_;rw[h p.2 (by simp;exact⟨p.1,by simpa using hp⟩)]
 |slice t x lo hi mx=>
  simp only[Op.operands,yT] at h;have h1:ev T x=ev T' x:=h x (.inl (.inl (.inl (by simp))));have h2:lo.map (ev T)=lo.map (ev T'):=by cases lo with|none=>rfl|some l=>simp[h l (.inl (.inl (.inr (by simp))))]
  have h3:hi.map (ev T)=hi.map (ev T'):=by cases hi with|none=>rfl|some l=>simp[h l (.inl (.inr (by simp)))]
  have h4:mx.map (ev T)=mx.map (ev T'):=by cases mx with|none=>rfl|some l=>simp[h l (.inr (by simp))]
  simp only[dF,h1,h2,h3,h4]
 |_=>first
  |rfl
  | (simp only [Op.operands] at h
     simp_all only[dF,List.mem_toArray,gR,List.not_mem_nil,or_false,forall_eq_or_imp,forall_eq]
     done)
theorem pZ{P:Program}{T T':Nat->AV}{H:Nat->Option (List AV)}{nx:Nat}{op:Op}(h:∀x∈op.operands,ev T x=ev T' x):il P T H nx op=il P T' H nx op:=by
 cases op with
 |call c=>
  obtain⟨callee,args,argTypes⟩:=c;simp only[Op.operands,Call.operands] at h;obtain⟨args⟩:=args;obtain⟨argTypes⟩:=argTypes;cases callee with
  |builtin b=>
   simp only[yT] at h;have ha:∀x∈args,ev T x=ev T' x:=λx hx=>h x (.inr (by simpa using hx));cases b<;>try rfl
   rcases args with _|⟨x,_|⟨y,_|⟨z,l⟩⟩⟩
   ·rfl
   ·rfl
   ·rcases argTypes with _|⟨t,_|⟨u,_|⟨v,l⟩⟩⟩
    ·rfl
    ·rfl
    ·simp only[il,ha x (by simp),ha y (by simp)]
    ·rfl
   ·rfl
  |_=>rfl
 |buildSlice t len parts=>
  simp only[Op.operands] at h;simp only[il]
  congr 1
  refine pz λp hp=>?_;rw[h p.2 (by simp;exact⟨p.1,by simpa using hp⟩)]
 |_=>first
  |rfl
  | (simp only [Op.operands] at h
     simp_all only[il,List.mem_toArray,gR,List.not_mem_nil,or_false,forall_eq_or_imp,forall_eq]
     done)
theorem EV{P:Program}{T:Nat->AV}{H:Nat->Option (List AV)}{op:Op}{r:AV}(h:dF P T H op=some r):opk op=.pure\/opk op=.touch:=by
 unfold dF at h;split at h<;>first|(cases h;done)|(simp[opk];done)
theorem rH{P:Program}{T:Nat->AV}{H H':Nat->Option (List AV)}{op:Op}(h:opk op=.pure):dF P T H op=dF P T H' op:=by
 cases op with
 |call c=>
  obtain⟨callee,args,argTypes⟩:=c;cases callee with
  |builtin b=>
   obtain⟨args⟩:=args;obtain⟨argTypes⟩:=argTypes;cases b<;>first|rfl|(rcases args with _|⟨x,_|⟨y,l⟩⟩<;>rcases argTypes with _|⟨t,_|⟨u,l'⟩⟩<;>rfl)
  |_=>rfl
 |makeFunc fn first captured=>cases fn<;>rfl
 |_=>first|rfl|(simp[opk] at h;done)
theorem lZ{P:Program}{T:Nat->AV}{H:Nat->Option (List AV)}{nx:Nat}{op:Op}{r:AV}{H':Nat->Option (List AV)}{nx':Nat}(h:il P T H nx op=some (r,H',nx')):opk op=.alloc\/opk op=.write:=by
 unfold il at h;split at h<;>first|(cases h;done)|(simp[opk];done)
theorem v6{P:Program}{E:Env}{w:World}{T:Nat->AV}{a:Act}{H:Nat->Option (List AV)}{nx:Nat}{o:Oper}{r:AV}{H':Nat->Option (List AV)}{nx':Nat}(hk:opk o.op=.alloc)(he:∀x∈o.op.operands,Rel E w (ev T x) (a.eval x))
    (h:il P T H nx o.op=some (r,H',nx')):∃s:Sem Value,execOp a.eval o=(do pure (Next.value (<-s)):Sem Next)/\x5 P E w s r H nx H' nx':=by
 obtain⟨dst,op,type,pos,after,guard⟩:=o;simp only at h hk he;cases op<;>first|(simp[opk] at hk;done)|skip
 ·exact⟨_,rfl,vN h⟩
 ·exact⟨_,rfl,vF (he _ (by simp[Op.operands])) h⟩
 ·rename_i t len parts;refine⟨Instr.buildSlice t len (parts.toList.map λp=>(p.1,a.eval p.2)).toArray,?_,sJ (by simp) (λi p q hp hq=>?_) h⟩
  ·have pmap:(parts.map λ(i,x)=>(i,a.eval x))=(parts.toList.map λp=>(p.1,a.eval p.2)).toArray:=by rw[<-jH]
   rw[<-pmap];rfl
  ·rw[ko] at hp hq;cases hl:parts.toList[i]? with
   |none=>rw[hl] at hp;cases hp
   |some o=>
    rw[hl] at hp hq;cases hp;cases hq;refine⟨rfl,he _ ?_⟩;simp only[Op.operands,List.mem_toArray,cE];exact⟨o,ir hl,rfl⟩
 ·exact⟨_,rfl,xU (he _ (by simp[Op.operands])) (he _ (by simp[Op.operands])) h⟩
 ·rename_i c;obtain⟨callee,args,argTypes⟩:=c;cases callee<;>first|(simp[opk] at hk;done)|skip
  rename_i b;cases b<;>simp[opk] at hk
theorem Fj{P:Program}{H H':Nat->Option (List AV)}{t:TypeId}{p:AV}(h:∀b n off,p=.ptr b n off->H b=H' b):lF P H t p=lF P H' t p:=by
 unfold lF;cases p with
 |ptr b n off=>
  have e:=h b n off rfl;simp only[rd,rd1,e]
 |_=>rfl
end Go.Abs
namespace Go.Abs
open Go.RowKit
def FW(r:Option Nat):Fence:={Fence.wide with round:=r}
theorem lc{r:Option Nat}{n:Nat}{P:Program}{f:FuncId}{args:Array Value}{w:World}{R:Ending->World->Prop}(h:Calls P f args w R):CallsIn (FW r) n P f args w R:=
 (callsIn_wide (n:=n)).2 h
theorem fX{r:Option Nat}{ρ:Operand->Value}{o:Oper}(h:∀c,o.op≠.defer c):o.semAt (FW r).round ρ=execOp ρ o:=Oper.semAt_eq _ _ _ h
inductive DStep(P:Program)(N:Cfg)(fr:Option Nat)(dsts:List (Option Nat))(o:Oper)(st:St):AV->St->Prop
 |skip (hg:gval st.T dsts o.guard=some false) (hd:dok N.n o.dst=true):DStep P N fr dsts o st (.tup []) (st.put o.dst (.tup []))
 |val (r:AV) (hfr:∀m,fr=some m->tg st.T o.op m=true) (hg:gval st.T dsts o.guard=some true) (hd:dok N.n o.dst=true) (h:dF P st.T st.H o.op=some r):DStep P N fr dsts o st r (st.put o.dst r)
 |call (r:AV) (f:Operand) (args:Array Operand) (argTypes:Array TypeId) (g:FuncId) (caps:List AV) (hg:gval st.T dsts o.guard=some true) (hd:dok N.n o.dst=true)
     (ho:o.op=.call {callee:=.value f,args:=args,argTypes:=argTypes}) (hf:ev st.T f=.func g caps)
     (hp:sC P g (args.toList.map (ev st.T)++caps) st.H r):DStep P N fr dsts o st r (st.put o.dst r)
 |eff (r:AV) (H':Nat->Option (List AV)) (nx':Nat) (hfr:∀m,fr=some m->tg st.T o.op m=true) (hg:gval st.T dsts o.guard=some true) (hd:dok N.n o.dst=true) (h:il P st.T st.H st.nx o.op=some (r,H',nx')):
     DStep P N fr dsts o st r ({st with H:=H',nx:=nx'}.put o.dst r)
theorem St.put_T{st:St}{d:Option Nat}{v:AV}:(st.put d v).T=aO st.T d v:=rfl
theorem St.put_H{st:St}{d:Option Nat}{v:AV}:(st.put d v).H=st.H:=rfl
theorem St.put_nx{st:St}{d:Option Nat}{v:AV}:(st.put d v).nx=st.nx:=rfl
theorem DStep.T{P:Program}{N:Cfg}{fr:Option Nat}{dsts:List (Option Nat)}{o:Oper}{st st':St}{r:AV}(h:DStep P N fr dsts o st r st'):st'.T=aO st.T o.dst r:=by
 cases h<;>rw[St.put_T]
theorem DStep.dok{P:Program}{N:Cfg}{fr:Option Nat}{dsts:List (Option Nat)}{o:Oper}{st st':St}{r:AV}(h:DStep P N fr dsts o st r st'):dok N.n o.dst=true:=by
 cases h<;>assumption
def wtr(ops:List Oper)(t:Nat):Option Nat:=ops.findIdx? (λo=>o.dst==some t)
structure Txt(P:Program)(N:Cfg)(fr:Option Nat)(ops:List Oper)(s:Nat->St)(r:Nat->AV):Prop where
 step:∀i o,ops[i]?=some o->DStep P N fr (ops.map (·.dst)) o (s i) (r i) (s (i+1))
 ok:drawOk fr.isSome ops=true
 m0:∀m,fr=some m->m=(s 0).nx
theorem oz{ops:List Oper}{t j:Nat}(h:wtr ops t=some j):∃o,ops[j]?=some o/\o.dst=some t:=by
 unfold wtr at h;rw[List.findIdx?_eq_some_iff_getElem] at h;obtain⟨hj,h1,_⟩:=h;exact⟨ops[j],by simp[hj],by simpa using h1⟩
theorem zV{ops:List Oper}{t j:Nat}{o:Oper}(h:wtr ops t=none)(ho:ops[j]?=some o):o.dst≠some t:=by
 unfold wtr at h;rw[List.findIdx?_eq_none_iff] at h;have:=h o (ir ho);simpa using this
theorem cX{ops:List Oper}{j:Nat}{o:Oper}(h:ops[j]?=some o):ops.getD j default=o:=by simp[List.getD,h]
theorem pK{fr:Bool}{ops:List Oper}(h:drawOk fr ops=true){i j:Nat}{oi oj:Oper}(hi:ops[i]?=some oi)(hj:ops[j]?=some oj){d:Nat}(h1:oi.dst=some d)(h2:oj.dst=some d):i=j:=by
 simp only[drawOk,eL,dQ,eM] at h;have hlt:=λ{k o}(hk:ops[k]?=some o)=>(bH.1 hk).1;rcases vv i j with hij|hij|hij
 ·have:=h.2 j (hlt hj) i hij;rw[cX hi,cX hj,h1,h2] at this;simp at this
 ·exact hij
 ·have:=h.2 i (hlt hi) j hij;rw[cX hi,cX hj,h1,h2] at this;simp at this
theorem Lx{fr:Bool}{ops:List Oper}(h:drawOk fr ops=true){i d:Nat}{o:Oper}(hi:ops[i]?=some o)(hd:o.dst=some d):wtr ops d=some i:=by
 cases hw:wtr ops d with
 |none=>exact absurd hd (zV hw hi)
 |some j=>
  obtain⟨oj,hj,hdj⟩:=oz hw;rw[pK h hj hi hdj hd]
theorem dh{ops:List Oper}{i:Nat}(h:i<ops.length):∃o,ops[i]?=some o:=⟨_,mB h⟩
variable{P:Program}{N:Cfg}{fr:Option Nat}{ops:List Oper}{s:Nat->St}{r:Nat->AV}
theorem Txt.temps(h:Txt P N fr ops s r)(t:Nat):∀i,i<=ops.length->(s i).T t=(match wtr ops t with|some j=>if j<i then r j else(s 0).T t|none=>(s 0).T t)
 |0,_=>by cases wtr ops t<;>simp
 |i+1,hi=>by
  obtain⟨o,ho⟩:∃o,ops[i]?=some o:=dh (by omega);have ih:=h.temps t i (by omega);have hT:=(h.step i o ho).T;cases hw:wtr ops t with
  |none=>
   have:=zV hw ho;rw[hw] at ih;rw[hT];cases hd:o.dst with
   |none=>exact ih
   |some d=>
    have hne:t≠d:=λe=>this (by rw[hd,e]);simp only[aO,upd,if_neg hne];exact ih
  |some j=>
   rw[hw] at ih;simp only at ih |-;rw[hT];obtain⟨oj,hj,hdj⟩:=oz hw;by_cases hji:j=i
   ·subst hji;rw[hj] at ho;cases ho;simp[hdj,aO,upd]
   ·have hnd:∀d,o.dst=some d->t≠d:=λd hd e=>by
      subst e;exact hji (pK h.ok hj ho hdj hd)
    have:aO (s i).T o.dst (r i) t=(s i).T t:=by
     cases hd:o.dst with
     |none=>rfl
     |some d=>simp[aO,upd,hnd d hd]
    rw[this,ih];by_cases h1:j<i
    ·rw[if_pos h1,if_pos (by omega)]
    ·rw[if_neg h1,if_neg (by omega)]
theorem gn{H:Nat->Option (List AV)}{b x:Nat}{cs c:List AV}(h:av H b cs x=some c):(x=b/\c=cs)\/(x≠b/\H x=some c):=by
 unfold av at h;split at h
 ·cases h;exact .inl ⟨‹_›,rfl⟩
 ·exact .inr ⟨‹_›,h⟩
theorem uK{z:AV}{k:Nat}(h:z.flat=true):∀x∈bd z k,x.one=true:=by
 intro x hx;simp only[bd,List.mem_flatten,List.mem_replicate] at hx;obtain⟨l,⟨_,rfl⟩,hx⟩:=hx;exact dQ.1 h x hx
theorem xW{place:Nat->Option (Nat×Nat)}:∀(parts:List (Nat×AV))(cells r:List AV),(∀x∈cells,x.one=true)->kf place cells parts=some r->∀x∈r,x.one=true
 |[],cells,r,h0,h=>by cases h;exact h0
 |(i,x)::rest,cells,r,h0,h=>by
  simp only[kf] at h;split at h
  ·split at h
   ·rename_i hc;refine xW rest _ _ (λy hy=>?_) h;simp only[cI,oh] at hy;rcases hy with(hy|hy)|hy
    ·exact h0 y (BW hy)
    ·exact dQ.1 hc.1 y hy
    ·exact h0 y (B7 hy)
   ·cases h
  ·cases h
theorem ii{T:Nat->AV}{H:Nat->Option (List AV)}{nx:Nat}{op:Op}{q:AV}{H':Nat->Option (List AV)}{nx':Nat}(hk:opk op=.alloc)(h:il P T H nx op=some (q,H',nx')):
    (H'=H/\nx'=nx)\/ ∃cs,H'=av H nx cs/\nx'=nx+1/\∀x∈cs,x.one=true:=by
 cases op<;>first|(simp[opk] at hk;done)|skip
 ·simp only[il,uE] at h;split at h
  ·simp only[wH] at h;split at h<;>cases h;rename_i hf;exact .inr ⟨_,rfl,rfl,dQ.1 hf⟩
  ·cases h
 ·simp only[il,wH] at h;split at h<;>cases h;rename_i hf;exact .inr ⟨_,rfl,rfl,dQ.1 hf⟩
 ·simp only[il,qR] at h;split at h
  ·cases h
  ·split at h
   ·split at h
    ·split at h<;>cases h;exact .inl ⟨rfl,rfl⟩
    ·split at h
     ·split at h
      ·rename_i hz;split at h
       ·rename_i hfl;cases h;exact .inr ⟨_,rfl,rfl,xW _ _ _ (uK hz.1) hfl⟩
       ·cases h
      ·cases h
     ·cases h
   ·cases h
 ·simp only[il,zC] at h;split at h
  ·split at h
   ·split at h
    ·rename_i hz;cases h;exact .inr ⟨_,rfl,rfl,uK hz.2.1⟩
    ·cases h
   ·cases h
  ·cases h
 ·rename_i c;obtain⟨callee,args,argTypes⟩:=c;cases callee<;>first|(simp[opk] at hk;done)|skip
  rename_i b;cases b<;>simp[opk] at hk
def Dom(H:Nat->Option (List AV))(nx:Nat):Prop:=∀b cs,H b=some cs->b<nx
theorem Il{T:Nat->AV}{H:Nat->Option (List AV)}{nx:Nat}{op:Op}{q:AV}{H':Nat->Option (List AV)}{nx':Nat}(hd:Dom H nx)(h:il P T H nx op=some (q,H',nx')):Dom H' nx'/\nx<=nx':=by
 have hup:∀b cs,b<nx->Dom (av H b cs) nx:=λb cs hb x c hx=>by
  rcases gn hx with⟨rfl,_⟩|⟨_,h⟩
  ·exact hb
  ·exact hd _ _ h
 have hnew:∀cs,Dom (av H nx cs) (nx+1):=λcs x c hx=>by
  rcases gn hx with⟨rfl,_⟩|⟨_,h⟩
  ·omega
  ·have:=hd _ _ h;omega
 rcases lZ h with hk|hk
 ·rcases ii hk h with⟨rfl,rfl⟩|⟨cs,rfl,rfl,_⟩
  ·exact⟨hd,bc _⟩
  ·exact⟨hnew cs,by omega⟩
 ·unfold il at h;split at h<;>first|(simp[opk] at hk;done)|skip
  ·rename_i t p x;split at h
   ·rename_i H1 hs;cases h;unfold lQ at hs;split at hs
    ·split at hs
     ·rename_i cs hb;split at hs
      ·cases hs;exact⟨hup _ _ (hd _ _ hb),bc _⟩
      ·cases hs
     ·cases hs
    ·cases hs
   ·cases h
  ·split at h
   ·unfold Bn at h;split at h
    ·split at h
     ·split at h
      ·cases h;exact⟨hnew _,by omega⟩
      ·cases h
     ·cases h
    ·cases h
   ·unfold qF at h;split at h
    ·cases h
    ·split at h
     ·split at h
      ·cases h
      ·split at h
       ·split at h
        ·split at h
         ·cases h;exact⟨hnew _,by omega⟩
         ·cases h
        ·split at h
         ·rename_i cs hb;split at h
          ·split at h
           ·cases h;exact⟨hup _ _ (hd _ _ hb),bc _⟩
           ·split at h
            ·cases h;exact⟨hup _ _ (hd _ _ hb),bc _⟩
            ·split at h
             ·cases h;exact⟨hup _ _ (hd _ _ hb),bc _⟩
             ·cases h
          ·cases h
         ·cases h
        ·cases h
       ·cases h
     ·cases h
  ·cases h
theorem DStep.dom{dsts:List (Option Nat)}{o:Oper}{st st':St}{q:AV}(h:DStep P N fr dsts o st q st')(hd:Dom st.H st.nx):Dom st'.H st'.nx/\st.nx<=st'.nx:=by
 cases h with
 |eff _ H' nx' _ hg hdk h=>
  rw[St.put_H,St.put_nx];exact Il hd h
 |_=>rw[St.put_H,St.put_nx];exact⟨hd,bc _⟩
theorem DStep.sub{dsts:List (Option Nat)}{o:Oper}{st st':St}{q:AV}(h:DStep P N fr dsts o st q st')(hd:Dom st.H st.nx)(hk:opk o.op≠.write):∀b cs,st.H b=some cs->st'.H b=some cs:=by
 cases h with
 |eff _ H' nx' _ hg hdk h=>
  rw[St.put_H];rcases lZ h with hk'|hk'
  ·rcases ii hk' h with⟨rfl,rfl⟩|⟨cs,rfl,rfl,_⟩
   ·exact λ_ _ h=>h
   ·intro b cs hb;have:=hd _ _ hb;simp only[av];rw[if_neg (by omega)];exact hb
  ·exact absurd hk' hk
 |_=>rw[St.put_H];exact λ_ _ h=>h
theorem Txt.dom(h:Txt P N fr ops s r)(h0:Dom (s 0).H (s 0).nx):∀i,i<=ops.length->Dom (s i).H (s i).nx
 |0,_=>h0
 |i+1,hi=>by
  obtain⟨o,ho⟩:∃o,ops[i]?=some o:=dh (by omega);exact((h.step i o ho).dom (h.dom h0 i (by omega))).1
theorem Txt.sub(h:Txt P N fr ops s r)(h0:Dom (s 0).H (s 0).nx){i:Nat}:∀j,i<=j->j<=ops.length->(∀k o,i<=k->k<j->ops[k]?=some o->opk o.op≠.write)->
    (∀b cs,(s i).H b=some cs->(s j).H b=some cs)/\(s i).nx<=(s j).nx
 | 0, hij, _, _ => by obtain rfl : i = 0 := by omega
                      exact⟨λ_ _ h=>h,bc _⟩
 |j+1,hij,hj,hk=>by
  by_cases he:i=j+1
  ·subst he;exact⟨λ_ _ h=>h,bc _⟩
  ·obtain⟨o,ho⟩:∃o,ops[j]?=some o:=dh (by omega);obtain⟨h1,h2⟩:=h.sub h0 j (by omega) (by omega) (λk o h1 h2 h3=>hk k o h1 (by omega) h3);have hd:=h.dom h0 j (by omega);exact⟨λb cs hb=>(h.step j o ho).sub hd (hk j o (by omega) (by omega) ho) b cs (h1 b cs hb),eK h2 ((h.step j o ho).dom hd).2⟩
theorem HeapOk.fewer{E:Env}{H H':Nat->Option (List AV)}{nx nx':Nat}{w:World}(h:HeapOk E H' nx' w)(hs:∀b cs,H b=some cs->H' b=some cs)(hd:Dom H nx):HeapOk E H nx w:=
 ⟨λb cs hb=>h.box b cs (hs b cs hb),hd,λb b' cs cs' blk sz blk' sz' hb hb'=>h.apart b b' cs cs' blk sz blk' sz' (hs _ _ hb) (hs _ _ hb'),h.size,λb cs m x hb=>h.top b cs m x (hs _ _ hb),λb x hb hx=>h.spec b x (hs _ _ hb) hx,λb hb=>h.nsp b (hs _ _ hb)⟩
theorem HeapOk.more{E:Env}{H H':Nat->Option (List AV)}{nx nx':Nat}{w:World}(h:HeapOk E H nx w)(hs:∀b cs,H' b=some cs->H b=some cs\/nD E b/\∀x∈cs,x.one=true)(hd:Dom H' nx'):HeapOk E H' nx' w:=by
 have key:∀b cs m x,H' b=some cs->E.mu b m=some x->H b=some cs:=λb cs m x hb hm=>(hs b cs hb).resolve_right (λhn=>by rw[hn.1.1] at hm;cases hm);refine⟨λb cs hb=>?_,hd,?_,h.size,λb cs m x hb hm=>h.top b cs m x (key b cs m x hb hm) hm,λb x hb hx=>?_,λb hb=>(hs b [] hb).elim (h.nsp b) (λh=>h.1.2.1)⟩
 ·rcases hs b cs hb with h1|h1
  ·exact h.box b cs h1
  ·exact .inl (h1.1.1 _)
 rotate_left
 ·rcases hs b [x] hb with h1|h1
  ·exact h.spec b x h1 hx
  ·rw[AV.one_special (h1.2 x (by simp))] at hx;cases hx
 ·intro b b' cs cs' blk sz blk' sz' hb hb' hne h1 h2;exact h.apart b b' cs cs' blk sz blk' sz' (key _ _ _ _ hb h1) (key _ _ _ _ hb' h2) hne h1 h2
end Go.Abs
namespace Go.Abs
open Go.RowKit
variable{P:Program}{N:Cfg}{fr:Option Nat}{ops:List Oper}{s:Nat->St}{r:Nat->AV}
theorem Txt.nx_mono(h:Txt P N fr ops s r)(h0:Dom (s 0).H (s 0).nx){i:Nat}:∀j,i<=j->j<=ops.length->(s i).nx<=(s j).nx
 | 0, hij, _ => by obtain rfl : i = 0 := by omega
                   exact bc _
 |j+1,hij,hj=>by
  by_cases he:i=j+1
  ·subst he;exact bc _
  ·obtain⟨o,ho⟩:∃o,ops[j]?=some o:=dh (by omega);exact eK (h.nx_mono h0 j (by omega) (by omega)) ((h.step j o ho).dom (h.dom h0 j (by omega))).2
theorem Txt.new(h:Txt P N fr ops s r)(h0:Dom (s 0).H (s 0).nx){i:Nat}:∀j,i<=j->j<=ops.length->(∀k o,i<=k->k<j->ops[k]?=some o->opk o.op≠.write)->
    ∀b cs,(s j).H b=some cs->(s i).H b=some cs\/(s i).nx<=b/\∀x∈cs,x.one=true
 | 0, hij, _, _ => by obtain rfl : i = 0 := by omega
                      exact λ_ _ h=>.inl h
 |j+1,hij,hj,hk=>by
  by_cases he:i=j+1
  ·subst he;exact λ_ _ h=>.inl h
  ·obtain⟨o,ho⟩:∃o,ops[j]?=some o:=dh (by omega);intro b cs hb;have ih:=h.new h0 j (by omega) (by omega) (λk o h1 h2 h3=>hk k o h1 (by omega) h3) b cs;have hmono:=h.nx_mono h0 j (show i<=j by omega) (by omega);have hst:=h.step j o ho;generalize hsj:s (j+1)=s' at hst hb;generalize r j=q at hst;cases hst with
   |eff _ H' nx' _ hg hdk h1=>
    rw[St.put_H] at hb;rcases lZ h1 with hk'|hk'
    ·rcases ii hk' h1 with⟨rfl,_⟩|⟨cs',rfl,_,hone⟩
     ·exact ih hb
     ·rcases gn hb with⟨rfl,rfl⟩|⟨_,h2⟩
      ·exact .inr ⟨hmono,hone⟩
      ·exact ih h2
    ·exact absurd hk' (hk j o (by omega) (by omega) ho)
   |skip=>exact ih hb
   |val=>exact ih hb
   |call=>exact ih hb
theorem Txt.old(h:Txt P N fr ops s r)(h0:Dom (s 0).H (s 0).nx){m:Nat}(hm:fr=some m):∀j,j<=ops.length->∀b,b<m->(s j).H b=(s 0).H b
 |0,_,_,_=>rfl
 |j+1,hj,b,hb=>by
  obtain⟨o,ho⟩:∃o,ops[j]?=some o:=dh (by omega);rw[<-h.old h0 hm j (by omega) b hb];have hmono:=h.nx_mono h0 j (bo j) (by omega);have hm0:=h.m0 m hm;have hst:=h.step j o ho;generalize s (j+1)=s' at hst;generalize r j=q at hst;cases hst with
  |eff _ H' nx' hf hg hdk h1=>
   rw[St.put_H];show H' b=_;rcases lZ h1 with hk'|hk'
   ·rcases ii hk' h1 with⟨rfl,_⟩|⟨cs',rfl,_⟩
    ·rfl
    ·simp only[av];rw[if_neg (by omega)]
   ·have hfo:=hf m hm;generalize o.op=op at hk' hfo h1;cases op<;>first|(simp[opk] at hk';done)|skip
    ·rename_i t p x;simp only[tg] at hfo;simp only[il] at h1;split at h1
     ·rename_i H1 hs;cases h1;unfold lQ at hs;split at hs
      ·rename_i b' n off hp;rw[hp] at hfo;simp only[gq] at hfo;split at hs
       ·split at hs
        ·cases hs;simp only[av];rw[if_neg (by omega)]
        ·cases hs
       ·cases hs
      ·cases hs
     ·cases h1
    ·simp[tg,hk'] at hfo
  |skip=>rfl
  |val=>rfl
  |call=>rfl
def TL(ops:List Oper)(T0:Nat->AV)(r:Nat->AV)(L:Array Bool)(t:Nat):AV:=match wtr ops t with
 |some j=>if L.getD j false=true then r j else T0 t
 |none=>T0 t
structure DInv(P:Program)(N:Cfg)(ops:List Oper)(s:Nat->St)(r:Nat->AV)(E₀:Env)(w₀:World)(df:List Deferred)(L:Array Bool)(a:Act)(w:World)(E:Env):Prop where
 lsz:L.size=ops.length
 dc:∀j i,L.getD j false=true->dS (Region.before ops.toArray) j i=true->i<ops.length->L.getD i false=true
 env:EnvOk E w
 ext:Ext E₀ w₀ E w
 asz:a.tmps.size=N.n
 tm:∀t,Rel E w (TL ops (s 0).T r L t) (a.tmps.getD t Go.undef)
 defs:a.defers=df
 rnd:∀l,N.rd=some l->∃b x,E₀.lp b=some x/\E₀.sp b=some l
 flr:N.floor<=w₀.heap.size
 cur:∃c,c<=ops.length/\(∀k o,k<c->ops[k]?=some o->opk o.op=.write->L.getD k false=true)/\(c<ops.length->(∃o,ops[c]?=some o/\opk o.op=.write)/\L.getD c false=false)/\
  HeapOk E (s c).H (s c).nx w/\cJ E (s c).nx/\
  (∀k o,k<c->ops[k]?=some o->L.getD k false=false->opk o.op=.alloc->(s k).nx<(s (k+1)).nx->nD E (s k).nx)
theorem ed(L:Array Bool)(i k:Nat)(hi:i<L.size):(L.setIfInBounds i true).getD k false=(if k=i then true else L.getD k false):=by
 by_cases h:k=i
 ·subst h;simp[hi]
 ·rw[if_neg h];simp only[yX];rw[FQ (Ne.symm h)]
structure Ready(ops:List Oper)(L:Array Bool)(i:Nat)(o:Oper):Prop where
 get:ops[i]?=some o
 not:L.getD i false=false
 dir:∀k∈dM o,L.getD k false=true
theorem iG{L:Array Bool}{i:Nat}(hsz:L.size=ops.length)(h:i∈Region.ready .any ops.toArray L):∃o,Ready ops L i o:=by
 obtain⟨h1,o,ho,hall⟩:=mem_ready.1 h;have ho':ops[i]?=some o:=by simpa using ho
 have hlt:i<ops.length:=(bH.1 ho').1;refine⟨o,ho',?_,?_⟩
 ·have:i<L.size:=by omega
  simp[this] at h1 |-;exact h1
 ·intro k hk;simp only[dM,cE,ik] at hk;obtain⟨e,⟨he,hb⟩,rfl⟩:=hk;exact hall e (by simpa using he) hb
theorem ku{fb:Bool}(h:drawOk fb ops=true):
    (∀j o,ops[j]?=some o->∀k∈dM o,k<j)/\
    (∀j o i,ops[j]?=some o->i<ops.length->dS (Region.before ops.toArray) j i=true->∃k∈dM o,k=i\/dS (Region.before ops.toArray) k i=true)/\
    (∀i j oi oj,ops[i]?=some oi->ops[j]?=some oj->i<j->gd fb ops oi oj=true->dS (Region.before ops.toArray) j i=true):=by
 simp only[drawOk,eL,dQ,eM,lU,Bool.not_eq_true',gq,qS,beq_iff_eq] at h;obtain⟨⟨⟨h1,h2⟩,h3⟩,_⟩:=h;have hlt:=λ{k:Nat}{o:Oper}(hk:ops[k]?=some o)=>(bH.1 hk).1;refine⟨λj o ho k hk=>?_,λj o i ho hi hb=>?_,λi j oi oj hi hj hij hc=>?_⟩
 ·have:=h1 j (hlt ho) k;rw[cX ho] at this;exact this hk
 ·have:=h2 j (hlt ho) i hi;rw[cX ho,hb] at this;rcases this with h|h
  ·cases h
  ·exact h
 ·have:=h3 j (hlt hj) i hij;rw[cX hi,cX hj,hc] at this;rcases this with h|h
  ·cases h
  ·exact h
section
variable{E₀:Env}{w₀:World}{df:List Deferred}{L:Array Bool}{a:Act}{w:World}{E:Env}
theorem DInv.bits(hI:DInv P N ops s r E₀ w₀ df L a w E){fb:Bool}(hok:drawOk fb ops=true){i:Nat}{o:Oper}(hr:Ready ops L i o){k:Nat}(hk:k<ops.length)(hb:dS (Region.before ops.toArray) i k=true):L.getD k false=true:=by
 obtain⟨_,h2,_⟩:=ku hok;obtain⟨q,hq,h⟩:=h2 i o k hr.get hk hb;rcases h with rfl|h
 ·exact hr.dir _ hq
 ·exact hI.dc q k (hr.dir _ hq) h hk
theorem DInv.earlier(hI:DInv P N ops s r E₀ w₀ df L a w E){fb:Bool}(hok:drawOk fb ops=true){i k:Nat}{o ok:Oper}(hr:Ready ops L i o)(hk:ops[k]?=some ok)(hki:k<i)(hc:gd fb ops ok o=true):L.getD k false=true:=
 hI.bits hok hr (bH.1 hk).1 ((ku hok).2.2 k i ok o hk hr.get hki hc)
theorem DInv.later(hI:DInv P N ops s r E₀ w₀ df L a w E){fb:Bool}(hok:drawOk fb ops=true){i k:Nat}{o ok:Oper}(hr:Ready ops L i o)(hk:ops[k]?=some ok)(hki:i<k)(hc:gd fb ops o ok=true):L.getD k false=false:=by
 cases h:L.getD k false with
 |false=>rfl
 |true=>
  have:=hI.dc k i h ((ku hok).2.2 i k o ok hr.get hk hki hc) (bH.1 hr.get).1;rw[hr.not] at this;cases this
theorem wK{fb:Bool}{x y:Oper}{d:Nat}(h:x.dst=some d)(hy:d∈y.looksAt ops.toArray):gd fb ops x y=true:=by
 simp[gd,h,hy]
theorem uT{fb:Bool}{x y:Oper}{d:Nat}(h:y.dst=some d)(hx:d∈x.looksAt ops.toArray):gd fb ops x y=true:=by
 simp[gd,h,hx]
theorem lH{fb:Bool}{x y:Oper}(h:opk x.op=.write)(hy:lC fb y.op=false):gd fb ops x y=true:=by
 simp[gd,h,hy]
theorem sV{fb:Bool}{x y:Oper}(h:opk y.op=.write)(hx:lC fb x.op=false):gd fb ops x y=true:=by
 simp[gd,h,hx]
theorem DInv.looks(hI:DInv P N ops s r E₀ w₀ df L a w E)(ht:Txt P N fr ops s r){i:Nat}{o:Oper}(hr:Ready ops L i o){t:Nat}(hl:t∈o.looksAt ops.toArray):TL ops (s 0).T r L t=(s i).T t:=by
 have hi:i<ops.length:=(bH.1 hr.get).1;rw[ht.temps t i (by omega)];unfold TL;cases hw:wtr ops t with
 |none=>rfl
 |some j=>
  obtain⟨oj,hj,hdj⟩:=oz hw;simp only;rcases vv j i with h|h|h
  ·rw[if_pos (hI.earlier ht.ok hr hj h (wK hdj hl)),if_pos h]
  ·subst h;rw[if_neg (by rw[hr.not];simp),if_neg (by omega)]
  ·rw[if_neg (by rw[hI.later ht.ok hr hj h (uT hdj hl)];simp),if_neg (by omega)]
theorem DInv.operands(hI:DInv P N ops s r E₀ w₀ df L a w E)(ht:Txt P N fr ops s r){i:Nat}{o:Oper}(hr:Ready ops L i o):∀x∈o.op.operands,ev (TL ops (s 0).T r L) x=ev (s i).T x:=by
 intro x hx;refine Bh λt e=>?_;subst e;refine hI.looks ht hr ?_;unfold Oper.looksAt;exact rm _ (List.mem_filterMap.2 ⟨.tmp t,by simpa using hx,rfl⟩)
theorem DInv.guard(hI:DInv P N ops s r E₀ w₀ df L a w E)(ht:Txt P N fr ops s r){i:Nat}{o:Oper}(hr:Ready ops L i o){b:Bool}(hg:gval (s i).T (ops.map (·.dst)) o.guard=some b):Region.wanted o (yielded ops.toArray a.tmps)=b:=by
 refine uD (E:=E) (w:=w) (T:=(s i).T) (λt ⟨j,want,hgj,hd⟩=>?_) hg
 have hl:t∈o.looksAt ops.toArray:=by
  unfold Oper.looksAt;refine wz _ ?_;rw[hgj];simp only[pu,hd];simp
 rw[<-hI.looks ht hr hl];exact hI.tm t
theorem Kv{fb:Bool}(hok:drawOk fb ops=true)(hsz:L.size=ops.length){i:Nat}{o:Oper}(hr:Ready ops L i o)(T0:Nat->AV):TL ops T0 r (L.setIfInBounds i true)=aO (TL ops T0 r L) o.dst (r i):=by
 have hi:i<ops.length:=(bH.1 hr.get).1
 funext t
 have hset:=ed L i;by_cases hd:o.dst=some t
 ·have hw:=Lx hok hr.get hd;simp[TL,hw,aO,upd,hd,hsz,hi]
 ·have e2:aO (TL ops T0 r L) o.dst (r i) t=TL ops T0 r L t:=by
    cases ho:o.dst with
    |none=>rfl
    |some d=>
     have:t≠d:=λe=>hd (by rw[ho,e]);simp[aO,upd,this]
  rw[e2];unfold TL;cases hw:wtr ops t with
  |none=>rfl
  |some j=>
   obtain⟨oj,hj,hdj⟩:=oz hw;have hji:j≠i:=λe=>by subst e;rw[hr.get] at hj;cases hj;exact hd hdj
   simp only;rw[hset j (by omega),if_neg hji]
theorem DInv.next(hI:DInv P N ops s r E₀ w₀ df L a w E)(ht:Txt P N fr ops s r){i:Nat}{o:Oper}(hr:Ready ops L i o){v:Value}{w':World}{E':Env}(he:Ext E w E' w')(hE':EnvOk E' w')(hv:Rel E' w' (r i) v)(hd:dok N.n o.dst=true)
    (hcur:∃ c,c ≤ ops.length∧(∀ k o,k < c→ops[k]?=some o→opk o.op=.write→(L.setIfInBounds i true).getD k false=true)∧(c < ops.length→(∃ o,ops[c]?=some o∧opk o.op=.write)∧(L.setIfInBounds i true).getD c false=false) ∧
     HeapOk E' (s c).H (s c).nx w'/\cJ E' (s c).nx/\
     (∀k o,k<c->ops[k]?=some o->(L.setIfInBounds i true).getD k false=false->opk o.op=.alloc->(s k).nx<(s (k+1)).nx->nD E' (s k).nx)):
    DInv P N ops s r E₀ w₀ df (L.setIfInBounds i true) (a.put o.dst v) w' E':=by
 have hi:i<ops.length:=(bH.1 hr.get).1;have hset:=λk=>ed L i k (by rw[hI.lsz];exact hi);refine⟨by simp[hI.lsz],?_,hE',hI.ext.trans he,?_,?_,?_,hI.rnd,hI.flr,hcur⟩
 ·intro j k hj hb hk;rw[hset] at hj |-;by_cases hki:k=i
  ·rw[if_pos hki]
  ·rw[if_neg hki];by_cases hji:j=i
   ·subst hji;exact hI.bits ht.ok hr hk hb
   ·rw[if_neg hji] at hj;exact hI.dc j k hj hb hk
 ·cases ho:o.dst with
  |none=>exact hI.asz
  |some d=>simp[Act.put,hI.asz]
 ·intro t;rw[Kv ht.ok hI.lsz hr];cases ho:o.dst with
  |none=>exact(hI.tm t).ext he
  |some d=>
   rw[ho] at hd;simp only[dok,gq] at hd;simp only[aO,upd,Act.put];by_cases hdt:t=d
   ·subst hdt;rw[if_pos rfl];have:t<a.tmps.size:=by rw[hI.asz];exact hd
    simp[this];exact hv
   ·rw[if_neg hdt];have:=(hI.tm t).ext he
    have e:(a.tmps.setIfInBounds d v).getD t Go.undef=a.tmps.getD t Go.undef:=by
     simp only[yX];rw[FQ (Ne.symm hdt)]
    rw[e];exact this
 ·cases ho:o.dst<;>exact hI.defs
theorem DInv.stay(hI:DInv P N ops s r E₀ w₀ df L a w E)(ht:Txt P N fr ops s r){i:Nat}{o:Oper}(hr:Ready ops L i o)(hk:opk o.op≠.write){v:Value}{w':World}{E':Env}(he:Ext E w E' w')(hE':EnvOk E' w')(hv:Rel E' w' (r i) v)(hd:dok N.n o.dst=true)
    (hmu:∀b m,(b=(s i).nx/\opk o.op=.alloc/\(s i).nx<(s (i+1)).nx)\/E'.mu b m=E.mu b m) (hsp:E'.sp=E.sp) (hlp:E'.lp=E.lp)
    (h0:Dom (s 0).H (s 0).nx) {c:Nat} (hc:c<=ops.length) (c1:∀k o,k<c->ops[k]?=some o->opk o.op=.write->L.getD k false=true) (c2:c<ops.length->(∃o,ops[c]?=some o/\opk o.op=.write)/\L.getD c false=false)
    (c4:cJ E (s c).nx)
    (c5:∀k o,k<c->ops[k]?=some o->L.getD k false=false->opk o.op=.alloc->(s k).nx<(s (k+1)).nx->nD E (s k).nx)
    (hheap:HeapOk E' (s c).H (s c).nx w'):
    DInv P N ops s r E₀ w₀ df (L.setIfInBounds i true) (a.put o.dst v) w' E':=by
 have hi:i<ops.length:=(bH.1 hr.get).1;have hset:=λk=>ed L i k (by rw[hI.lsz];exact hi)
 have hic:i≠c:=by
  intro e;subst e;obtain⟨⟨o',ho',hw⟩,_⟩:=c2 hi;rw[hr.get] at ho';cases ho';exact hk hw
 have hpos:lC fr.isSome o.op=false->i<c:=by
  intro hp;rcases CG i c with h|h
  ·exact h
  ·have hci:c<i:=by omega
   obtain⟨⟨oc,hoc,hw⟩,hn⟩:=c2 (by omega);have:=hI.earlier ht.ok hr hoc hci (lH hw hp);rw[hn] at this;cases this
 refine hI.next ht hr he hE' hv hd ⟨c,hc,?_,?_,hheap,?_,?_⟩
 ·intro k o' h1 h2 h3;rw[hset];split
  ·rfl
  ·exact c1 k o' h1 h2 h3
 ·intro h1;obtain⟨h2,h3⟩:=c2 h1;refine⟨h2,?_⟩;rw[hset,if_neg (Ne.symm hic)];exact h3
 ·intro b hb;refine⟨λm=>?_,by rw[hsp];exact(c4 b hb).2.1,by rw[hlp];exact(c4 b hb).2.2⟩;rcases hmu b m with⟨rfl,hal,hlt⟩|h
  ·have hp:=hpos (lI hal);have:=ht.nx_mono h0 c (show i+1<=c by omega) hc;omega
  ·rw[h];exact(c4 b hb).1 m
 ·intro k o' h1 h2 h3 h4 h5;rw[hset] at h3;split at h3
  ·cases h3
  ·rename_i hki;have c5k:=c5 k o' h1 h2 h3 h4 h5;refine⟨λm=>?_,by rw[hsp];exact c5k.2.1,by rw[hlp];exact c5k.2.2⟩;rcases hmu (s k).nx m with⟨hb,hal,hlt⟩|h
   ·exfalso;have hp:=hpos (lI hal);rcases CG k i with hlt'|hge
    ·have:=ht.nx_mono h0 i (show k+1<=i by omega) (by omega);omega
    ·have:=ht.nx_mono h0 k (show i+1<=k by omega) (by omega);omega
   ·rw[h];exact c5k.1 m
end
end Go.Abs
namespace Go.Abs
open Go.RowKit
variable{P:Program}{N:Cfg}{fr:Option Nat}{ops:List Oper}{s:Nat->St}{r:Nat->AV}
theorem lO{o:Oper}{f:Operand}{args:Array Operand}{argTypes:Array TypeId}{a:Act}{w:World}{g:FuncId}{cv:Array Value}(ho:o.op=.call {callee:=.value f,args:=args,argTypes:=argTypes})
    (hf:a.eval f=.func (.func g) #[] cv) (hc:cok P g=true):(execOp a.eval o).run P w=.ok (.enter g (args.map a.eval++cv)) w:=by
 unfold execOp;rw[ho];simp only[resolve,hf,Deferred.ofValue,invoke,bA,eG,bu,Array.empty_append];exact hJ hc _ w
theorem qL{T:Nat->AV}{H:Nat->Option (List AV)}{op:Op}{q:AV}(h:dF P T H op=some q):∀c,op≠.defer c:=by
 intro c e;subst e;cases h
theorem q9{T:Nat->AV}{H:Nat->Option (List AV)}{nx:Nat}{op:Op}{q:AV×(Nat->Option (List AV))×Nat}(h:il P T H nx op=some q):∀c,op≠.defer c:=by
 intro c e;subst e;cases h
section
variable{E₀:Env}{w₀:World}{df:List Deferred}{L:Array Bool}{a:Act}{w:World}{E:Env}
theorem DInv.move(hI:DInv P N ops s r E₀ w₀ df L a w E)(ht:Txt P N fr ops s r)(h0:Dom (s 0).H (s 0).nx){i:Nat}{o:Oper}(hr:Ready ops L i o)(hk:opk o.op=.write):
    HeapOk E (s i).H (s i).nx w/\cJ E (s i).nx/\
    ∀(v:Value)(w':World)(E':Env),Ext E w E' w'->EnvOk E' w'->Rel E' w' (r i) v->dok N.n o.dst=true->HeapOk E' (s (i+1)).H (s (i+1)).nx w'->cJ E' (s (i+1)).nx->
     DInv P N ops s r E₀ w₀ df (L.setIfInBounds i true) (a.put o.dst v) w' E':=by
 have hi:i<ops.length:=(bH.1 hr.get).1;have hset:=λk=>ed L i k (by rw[hI.lsz];exact hi);obtain⟨c,hc,c1,c2,c3,c4,c5⟩:=hI.cur;have hkp:lC fr.isSome o.op=false:=sZ hk
 have hci:c=i:=by
  rcases vv i c with h|h|h
  ·have:=c1 i o h hr.get hk;rw[hr.not] at this;cases this
  ·exact h.symm
  ·obtain⟨⟨oc,hoc,hw⟩,hn⟩:=c2 (by omega);have:=hI.earlier ht.ok hr hoc h (lH hw hkp);rw[hn] at this;cases this
 subst hci;refine⟨c3,c4,λv w' E' he hE' hv hd hH hfr=>hI.next ht hr he hE' hv hd ?_⟩
 have hex:∃c',c<c'/\c'<=ops.length/\(∀k o,c<k->k<c'->ops[k]?=some o->opk o.op≠.write)/\(c'<ops.length->∃o,ops[c']?=some o/\opk o.op=.write):=by
  have:∀m,c<m->m<=ops.length->(∃c',c<c'/\c'<=ops.length/\(∀k o,c<k->k<c'->ops[k]?=some o->opk o.op≠.write)/\(c'<ops.length->∃o,ops[c']?=some o/\opk o.op=.write))\/(∀k o,c<k->k<m->ops[k]?=some o->opk o.op≠.write):=by
   intro m
   induction m with
   |zero=>intro h;omega
   |succ m ih=>
    intro h1 h2;by_cases hcm:c=m
    ·subst hcm;exact .inr (λk o h1 h2=>by omega)
    ·rcases ih (by omega) (by omega) with h|h
     ·exact .inl h
     ·obtain⟨om,hom⟩:=dh (ops:=ops) (i:=m) (by omega);by_cases hw:opk om.op=.write
      ·exact .inl ⟨m,by omega,by omega,h,λ_=>⟨om,hom,hw⟩⟩
      ·refine .inr (λk o h3 h4 h5=>?_);by_cases hkm:k=m
       ·subst hkm;rw[hom] at h5;cases h5;exact hw
       ·exact h k o h3 (by omega) h5
  rcases this ops.length hi (bc _) with h|h
  ·exact h
  ·exact⟨ops.length,hi,bc _,h,λh=>by omega⟩
 obtain⟨c',hcc,hcl,hno,hyes⟩:=hex;have hno':∀k o,c+1<=k->k<c'->ops[k]?=some o->opk o.op≠.write:=λk o h1 h2 h3=>hno k o (by omega) h2 h3;have hmono:=ht.nx_mono h0 c' (show c+1<=c' by omega) hcl;refine⟨c',hcl,?_,?_,?_,?_,?_⟩
 ·intro k o' h1 h2 h3;rw[hset];split
  ·rfl
  ·rename_i hne;rcases CG k c with h|h
   ·exact c1 k o' h h2 h3
   ·exact absurd h3 (hno k o' (by omega) h1 h2)
 ·intro h;obtain⟨o',ho',hw'⟩:=hyes h;refine⟨⟨o',ho',hw'⟩,?_⟩;rw[hset,if_neg (by omega)];exact hI.later ht.ok hr ho' hcc (lH hk (sZ hw'))
 ·exact hH.more (λb cs hb=>(ht.new h0 c' (show c+1<=c' by omega) hcl hno' b cs hb).imp id (λh=>⟨hfr b h.1,h.2⟩)) (ht.dom h0 c' hcl)
 ·exact hfr.le (by omega)
 ·intro k o' h1 h2 h3 h4 h5;rw[hset] at h3;split at h3
  ·cases h3
  ·rename_i hne;rcases CG k c with h|h
   ·have:=hI.earlier ht.ok hr h2 h (sV hk (lI h4));rw[h3] at this;cases this
   ·exact hfr _ (ht.nx_mono h0 k (show c+1<=k by omega) (by have:=(bH.1 h2).1;omega))
theorem DInv.step{rr:Option Nat}{Q:Exit->Act->World->Prop}{K:Act->World->Prop}(hI:DInv P N ops s r E₀ w₀ df L a w E)(ht:Txt P N fr ops s r)(h0:Dom (s 0).H (s 0).nx){i:Nat}{o:Oper}(hr:Ready ops L i o)
    (hK:∀a' w' E',DInv P N ops s r E₀ w₀ df (L.setIfInBounds i true) a' w' E'->K a' w'):wpOpIn (FW rr) 0 P ops.toArray Q i K a w:=by
 have hi:i<ops.length:=(bH.1 hr.get).1;have hgeti:(ops.toArray)[i]?=some o:=by simpa using hr.get
 unfold wpOpIn;rw[hgeti];simp only;obtain⟨c,hc,c1,c2,c3,c4,c5⟩:=hI.cur
 have touch:∀cc,cc<=ops.length->HeapOk E (s cc).H (s cc).nx w->(i<cc/\∀k ok,i<=k->k<cc->ops[k]?=some ok->opk ok.op≠.write)->HeapOk E (s i).H (s i).nx w:=by
  intro cc hcc hh ⟨h1,h2⟩;exact hh.fewer (ht.sub h0 cc (by omega) hcc h2).1 (ht.dom h0 i (by omega))
 have pos:lC fr.isSome o.op=false->opk o.op≠.write->i<c/\∀k ok,i<=k->k<c->ops[k]?=some ok->opk ok.op≠.write:=by
  intro hp hk
  have hlt:i<c:=by
   rcases vv i c with h|h|h
   ·exact h
   ·subst h;obtain⟨⟨oc,hoc,hw⟩,hn⟩:=c2 hi;rw[hr.get] at hoc;cases hoc;exact absurd hw hk
   ·obtain⟨⟨oc,hoc,hw⟩,hn⟩:=c2 (by omega);have:=hI.earlier ht.ok hr hoc h (lH hw hp);rw[hn] at this;cases this
  refine⟨hlt,λk ok hik hkc hok hw=>?_⟩;by_cases he:k=i
  ·subst he;rw[hr.get] at hok;cases hok;exact hk hw
  ·have h1:=c1 k ok hkc hok hw;have h2:=hI.later ht.ok hr hok (by omega) (sV hw hp);rw[h2] at h1;cases h1
 have htm:=hI.tm;have hops:=hI.operands ht hr;have hoprel:∀x∈o.op.operands,Rel E w (ev (s i).T x) (a.eval x):=λx hx=>by rw[<-hops x hx];exact nQ htm x
 have hst:=ht.step i o hr.get;generalize hsi:s (i+1)=s' at hst;generalize hri:r i=q at hst
 have same:∀(v:Value),Rel E w q v->dok N.n o.dst=true->(s'.H=(s i).H/\s'.nx=(s i).nx)->DInv P N ops s r E₀ w₀ df (L.setIfInBounds i true) (a.put o.dst v) w E:=by
  intro v hv hd ⟨hsH,hsn⟩;subst hri hsi;by_cases hk:opk o.op=.write
  ·obtain⟨h1,h2,h3⟩:=hI.move ht h0 hr hk;exact h3 v w E (Ext.refl _ _) hI.env hv hd (by rw[hsH,hsn];exact h1) (by rw[hsn];exact h2)
  ·exact hI.stay ht hr hk (Ext.refl _ _) hI.env hv hd (λ_ _=>.inr rfl) rfl rfl h0 hc c1 c2 c4 c5 c3
 cases hst with
 |skip hg hd=>
  rw[hI.guard ht hr hg];simp only[dX,if_false];exact⟨λ_ _=>trivial,hK _ _ _ (same Go.undef (jp _ _) hd ⟨rfl,rfl⟩)⟩
 |val _ hff hg hd h=>
  rw[hI.guard ht hr hg];simp only[if_true];have hnd:=qL h;have hcong:=jq (P:=P) (T:=TL ops (s 0).T r L) (T':=(s i).T) (H:=(s i).H) hops
  obtain⟨v,h1,h2⟩:∃v,(execOp a.eval o).run P w=.ok (.value v) w/\Rel E w q v:=by
   rcases EV h with hk|hk
   ·rw[<-hcong,rH (H':=(s c).H) hk] at h;exact mW c3 htm h
   ·cases hq:lC fr.isSome o.op with
    |false=>
     rw[<-hcong] at h;exact mW (touch c hc c3 (pos hq (by rw[hk];decide))) htm h
    |true=>
     have hl:kN o.op=true/\fr.isSome=true:=by
      simp only[lC,hk,lU,eL] at hq;rcases hq with hq|hq
      ·exact absurd hq (by decide)
      ·exact hq.symm
     obtain⟨m,hm⟩:=Er.1 hl.2;have hfo:=hff m hm
     have hH:dF P (s i).T (s i).H o.op=dF P (s i).T (s c).H o.op:=by
      generalize o.op=op at hl hfo;cases op<;>first|(simp[kN] at hl;done)|skip
      rename_i t p;simp only[dF];refine Fj (λb n off hp=>?_);simp only[tg,hp,gq] at hfo;rw[ht.old h0 hm i (by omega) b hfo,ht.old h0 hm c hc b hfo]
     rw[hH,<-jq (P:=P) (T:=TL ops (s 0).T r L) (T':=(s i).T) (H:=(s c).H) hops] at h;exact mW c3 htm h
  refine⟨λ_ _=>trivial,?_⟩;rw[fX hnd,h1,Oper.uponIn_value];exact hK _ _ _ (same v h2 hd ⟨rfl,rfl⟩)
 |call _ f args argTypes g caps hg hd ho hf hp=>
  rw[hI.guard ht hr hg];simp only[if_true];have hk:opk o.op=.touch:=by rw[ho];rfl
  have hkw:opk o.op≠.write:=by rw[hk];decide
  have hh:=touch c hc c3 (pos (vI (by rw[hk];decide) (by rw[ho];rfl)) hkw);have hfr:=hoprel f (by rw[ho];simp[Op.operands,Call.operands]);rw[hf] at hfr;generalize hev:a.eval f=vf at hfr;cases hfr with
  |func _ _ cv hl hcr=>
  have hargs:dI E w (args.toList.map (ev (s i).T)++caps) (args.toList.map a.eval++cv):=by
   refine⟨by simp[hl],λj x y hx hy=>?_⟩;rw[List.getElem?_append] at hx hy;simp only[bi] at hx hy;split at hx
   ·rename_i hlt;rw[if_pos hlt] at hy;rw[ko] at hx hy;cases hj:args.toList[j]? with
    |none=>rw[hj] at hx;cases hx
    |some z=>
     rw[hj] at hx hy;cases hx;cases hy;exact hoprel z (by rw[ho];simp only[Op.operands,Call.operands];exact yT.2 (.inr (by simpa using ir hj)))
   ·rename_i hlt;rw[if_neg hlt] at hy;exact hcr _ _ _ hx hy
  have hcalls:=hp.2 E _ w _ hI.env hh hargs;refine⟨λ_ _=>trivial,?_⟩;rw[fX (by rw[ho];intro c;simp),lO ho hev hp.1,Oper.uponIn_enter];refine⟨(λh=>by cases h),?_⟩
  have harr:args.map a.eval++cv.toArray=(args.toList.map a.eval++cv).toArray:=by
   rw[jH];simp
  rw[harr];refine(lc hcalls).mono ?_;rintro e w' ⟨v,E',rfl,hb,he,hE',hmu,himm,hsp,hlp,hrel⟩;refine hK _ _ E' ?_;subst hri;exact hI.stay ht hr hkw he hE' hrel hd (λb m=>.inr (by rw[hmu])) hsp hlp h0 hc c1 c2 c4 c5 (c3.below he hb hmu himm hsp)
 |eff _ H' nx' hff hg hd h=>
  rw[hI.guard ht hr hg];simp only[if_true];have hnd:=q9 h;have hcong:=pZ (P:=P) (T:=TL ops (s 0).T r L) (T':=(s i).T) (H:=(s i).H) (nx:=(s i).nx) hops;rcases lZ h with hk|hk
  ·have hkw:opk o.op≠.write:=by rw[hk];decide
   have hkp:lC fr.isSome o.op=false:=lI hk;obtain⟨sm,hsm,hrun⟩:=v6 (E:=E) (w:=w) hk hoprel h;refine⟨λ_ _=>trivial,?_⟩;rw[fX hnd,hsm];rcases hrun with⟨rfl,rfl,v,ob,h1,h2⟩|⟨cells,vals,ty,v,rfl,rfl,h1,h2,h3,h4⟩
   ·have e:(do pure (Next.value (<-sm)):Sem Next).run P w=.ok (.value v) (w.alloc ob):=by
      simp only[bA,h1,bu];rfl
    rw[e,Oper.uponIn_value];refine hK _ _ E ?_;subst hri;exact hI.stay ht hr hkw (Ext.alloc E w ob hI.env) (hI.env.alloc c3.size ob) (h2 _ _) hd (λb m=>.inr rfl) rfl rfl h0 hc c1 c2 c4 c5 (c3.alloc hI.env ob)
   ·have e:(do pure (Next.value (<-sm)):Sem Next).run P w=.ok (.value v) (w.alloc (.cells vals ty)):=by
      simp only[bA,h1,bu];rfl
    rw[e,Oper.uponIn_value];have hposc:=pos hkp hkw;have hlt:(s i).nx<(s (i+1)).nx:=by rw[hsi];exact Fo _
    have hfresh:=c5 i o hposc.1 hr.get hr.not hk hlt
    have hnew:∀cc,i<cc->cc<=ops.length->(∀k ok,i<=k->k<cc->ops[k]?=some ok->opk ok.op≠.write)->(s cc).H (s i).nx=some cells/\(s i).nx<(s cc).nx:=by
     intro cc h1 h2 h3;obtain⟨k1,k2⟩:=ht.sub h0 cc (show i+1<=cc by omega) h2 (λk ok hk1 hk2=>h3 k ok (by omega) hk2);refine⟨k1 _ _ ?_,by omega⟩;rw[hsi];simp[av,St.put]
    obtain⟨hnc,hnc2⟩:=hnew c hposc.1 hc hposc.2;obtain⟨E',he,hE',hH,hmu,_,hmo,hms,hml⟩:=c3.place hI.env hnc2 (bc _) (cs':=cells) (λm x hm=>by rw[hfresh.1] at hm;cases hm) hfresh.2.1 vals ty h2 h3;refine hK _ _ E' ?_;subst hri;refine hI.stay ht hr hkw he hE' (h4 E' _ hmu) hd (λb m=>?_) hms hml h0 hc c1 c2 c4 c5 (by rw[xR hnc] at hH;exact hH);by_cases hb:b=(s i).nx
    ·exact .inl ⟨hb,hk,hlt⟩
    ·exact .inr (hmo b m hb)
  ·obtain⟨hh,hfr,hmv⟩:=hI.move ht h0 hr hk;rw[<-hcong] at h;obtain⟨n,v,w',E',h1,h2,h3,h4,h5,h6,h7⟩:=uU hI.env hh hfr htm h;refine⟨λ_ _=>trivial,?_⟩;rw[fX hnd,h1]
   have hfin:K (a.put o.dst v) w':=by
    refine hK _ _ E' ?_;subst hri;exact hmv v w' E' h3 h4 h6 hd (by rw[hsi];exact h5) (by rw[hsi];exact h7)
   rcases h2 with rfl|⟨rfl,rfl⟩
   ·rw[Oper.uponIn_value];exact hfin
   ·rw[Oper.uponIn_skip];exact hfin
def left(n:Nat)(L:Array Bool):Nat:=(List.range n).countP (λk=>L.getD k false==false)
theorem iz(L:Array Bool)(i n:Nat)(hi:i<n)(hs:L.size=n)(hn:L.getD i false=false):left n (L.setIfInBounds i true)<left n L:=by
 have key:∀(l:List Nat),i∈l->l.countP (λk=>(L.setIfInBounds i true).getD k false==false)<l.countP (λk=>L.getD k false==false)/\True:=by
  have le:∀(l:List Nat),l.countP (λk=>(L.setIfInBounds i true).getD k false==false)<=l.countP (λk=>L.getD k false==false):=by
   intro l;refine List.countP_mono_left (λk _ h=>?_);rw[ed L i k (by omega)] at h;split at h
   ·cases h
   ·exact h
  intro l
  induction l with
  |nil=>intro h;cases h
  |cons x l ih=>
   intro h;refine⟨?_,trivial⟩;rw[List.countP_cons,List.countP_cons,ed L i x (by omega)];by_cases hx:x=i
   ·subst hx;have:=le l;rw[if_pos rfl,hn,if_neg (by decide),if_pos (by decide)];omega
   ·rw[if_neg hx];rcases gR.1 h with rfl|h
    ·exact absurd rfl hx
    ·have:=(ih h).1;omega
 exact(key _ (eM.2 hi)).1
theorem fc(L:Array Bool):∀n,(∀k,k<n->L.getD k false=true)\/ ∃k,k<n/\L.getD k false=false/\∀j,j<k->L.getD j false=true
 |0=>.inl (λk h=>by omega)
 |n+1=>by
  rcases fc L n with h|⟨k,h1,h2⟩
  ·cases hn:L.getD n false with
   | true=>exact .inl (fun k hk=>by
       by_cases e:k=n
       ·subst e;exact hn
       ·exact h k (by omega))
   |false=>exact .inr ⟨n,by omega,hn,h⟩
  ·exact .inr ⟨k,by omega,h2⟩
theorem DInv.some_ready(hI:DInv P N ops s r E₀ w₀ df L a w E)(ht:Txt P N fr ops s r)(h:Region.ready .any ops.toArray L=[]):∀k,k<ops.length->L.getD k false=true:=by
 rcases fc L ops.length with h1|⟨k,hk,hn,hall⟩
 ·exact h1
 ·exfalso;obtain⟨o,ho⟩:=dh hk
  have:k∈Region.ready .any ops.toArray L:=by
   refine mem_ready.2 ⟨?_,o,by simpa using ho,λe he hb=>hall _ ?_⟩
   ·have:k<L.size:=by rw[hI.lsz];exact hk
    simp[this] at hn |-;exact hn
   ·refine(ku ht.ok).1 k o ho e.on ?_;simp only[dM,cE,ik];exact⟨e,⟨by simpa using he,hb⟩,rfl⟩
  rw[h] at this;cases this
theorem DInv.final(hI:DInv P N ops s r E₀ w₀ df L a w E)(ht:Txt P N fr ops s r)(hall:∀k,k<ops.length->L.getD k false=true)(hdf:sH E₀ N w₀ df):Sim E N (s ops.length) a w:=by
 obtain⟨c,hc,c1,c2,c3,c4,c5⟩:=hI.cur
 have hcl:c=ops.length:=by
  rcases CG c ops.length with h|h
  ·have:=(c2 h).2;rw[hall c h] at this;cases this
  ·omega
 subst hcl;refine⟨hI.env,c3,c4,λl hl=>let ⟨b,x,h1,h2⟩:=hI.rnd l hl;⟨b,x,hI.ext.lp _ _ h1,hI.ext.sp _ _ h2⟩,eK hI.flr hI.ext.size,hI.asz,λt=>?_,by rw[hI.defs];exact hdf.ext hI.ext⟩
 ·have:=hI.tm t;rw[ht.temps t _ (bc _)];unfold TL at this;cases hw:wtr ops t with
  |none=>rw[hw] at this;exact this
  |some j=>
   rw[hw] at this;obtain⟨oj,hj,_⟩:=oz hw;have hlt:=(bH.1 hj).1;simp only[hall j hlt,if_true] at this;simp only[if_pos hlt];exact this
theorem xF{rr:Option Nat}{Q:Exit->Act->World->Prop}(ht:Txt P N fr ops s r)(h0:Dom (s 0).H (s 0).nx)(hdf:sH E₀ N w₀ df)
    (hQ:∀E' a' w',Ext E₀ w₀ E' w'->Sim E' N (s ops.length) a' w'->Q .normal a' w'):
    ∀(fuel:Nat)(L:Array Bool)(a:Act)(w:World)(E:Env),DInv P N ops s r E₀ w₀ df L a w E->left ops.length L<=fuel->wpAnyIn (FW rr) 0 P .any ops.toArray Q fuel L a w
 |0,L,a,w,E,hI,hl=>by
  have hall:∀k,k<ops.length->L.getD k false=true:=by
   rcases fc L ops.length with h1|⟨k,hk,hn,hall⟩
   ·exact h1
   ·exfalso;have:left ops.length (L.setIfInBounds k true)<left ops.length L:=iz L k _ hk hI.lsz hn;omega
  have hr:Region.ready .any ops.toArray L=[]:=by
   refine Iy.2 (λi hi=>?_);obtain⟨o,ho⟩:=iG hI.lsz hi;have:=hall i (bH.1 ho.get).1;rw[ho.not] at this;cases this
  exact⟨hr,hQ E a w hI.ext (hI.final ht hall hdf)⟩
 |fuel+1,L,a,w,E,hI,hl=>by
  refine⟨λhr=>hQ E a w hI.ext (hI.final ht (hI.some_ready ht hr) hdf),λi hi=>?_⟩;obtain⟨o,ho⟩:=iG hI.lsz hi;refine hI.step ht h0 ho (λa' w' E' hI'=>xF ht h0 hdf hQ fuel _ a' w' E' hI' ?_);have:=iz L i ops.length (bH.1 ho.get).1 hI.lsz ho.not;omega
theorem KO{rr:Option Nat}{Q:Exit->Act->World->Prop}{rid:Nat}(hm:P.follows .mixedOrders=true)(ht:Txt P N fr ops s r)(hS:Sim E₀ N (s 0) a w₀)
    (hQ:∀E' a' w',Ext E₀ w₀ E' w'->Sim E' N (s ops.length) a' w'->Q .normal a' w'):(Code.region rid ops.toArray true).wpIn (FW rr) 0 P Q a w₀:=by
 refine wpIn_region_any hm ?_;have hdr:({w₀ with drawn:=w₀.drawn+1}:World).heap=w₀.heap:=rfl;have hext:Ext E₀ w₀ E₀ {w₀ with drawn:=w₀.drawn+1}:=Ext.same hdr;have h0:Dom (s 0).H (s 0).nx:=hS.heap.dom;refine xF (E₀:=E₀) (w₀:=w₀) (df:=a.defers) ht h0 hS.defers hQ _ _ _ _ E₀ ?_ (by rw[List.size_toArray];unfold left;exact eK List.countP_le_length (by simp))
 have hfalse:∀k,(Array.replicate ops.toArray.size false).getD k false=false:=by
  intro k;simp only[yX,Array.getElem?_replicate];split<;>rfl
 have hex:∃c,c<=ops.length/\(∀k o,k<c->ops[k]?=some o->opk o.op≠.write)/\(c<ops.length->∃o,ops[c]?=some o/\opk o.op=.write):=by
  have:∀m,m<=ops.length->(∃c,c<=ops.length/\(∀k o,k<c->ops[k]?=some o->opk o.op≠.write)/\(c<ops.length->∃o,ops[c]?=some o/\opk o.op=.write))\/(∀k o,k<m->ops[k]?=some o->opk o.op≠.write):=by
   intro m
   induction m with
   |zero=>intro _;exact .inr (λk o h=>by omega)
   |succ m ih=>
    intro h2;rcases ih (by omega) with h|h
    ·exact .inl h
    ·obtain⟨om,hom⟩:=dh (ops:=ops) (i:=m) (by omega);by_cases hw:opk om.op=.write
     ·exact .inl ⟨m,by omega,h,λ_=>⟨om,hom,hw⟩⟩
     ·refine .inr (λk o h4 h5=>?_);by_cases hkm:k=m
      ·subst hkm;rw[hom] at h5;cases h5;exact hw
      ·exact h k o (by omega) h5
  rcases this ops.length (bc _) with h|h
  ·exact h
  ·exact⟨ops.length,bc _,h,λh=>by omega⟩
 obtain⟨c,hc,c1,c2⟩:=hex;have hsub:=ht.sub h0 c (bo _) hc (λk o _ h2 h3=>c1 k o h2 h3);refine⟨by simp,?_,hS.env.drew,hext,hS.size,λt=>?_,rfl,hS.round,hS.floor,c,hc,λk o h1 h2 h3=>absurd h3 (c1 k o h1 h2),λh=>⟨c2 h,hfalse _⟩,?_,hS.fresh.le hsub.2,?_⟩
 ·intro j i h1;rw[hfalse] at h1;cases h1
 ·unfold TL;have:=(hS.tmps t).ext hext;cases wtr ops t with
  |none=>exact this
  |some j=>simp only[hfalse];exact this
 ·refine(hS.heap.same hdr).more (λb cs hb=>?_) (ht.dom h0 c hc);refine(ht.new h0 c (bo _) hc (λk o _ h2 h3=>c1 k o h2 h3) b cs hb).imp id (λh=>⟨hS.fresh b h.1,h.2⟩)
 ·intro k o h1 h2 _ _ _;exact hS.fresh _ (ht.nx_mono h0 k (bo _) (by omega))
end
end Go.Abs
namespace Go.Abs
open Go.RowKit
abbrev Tm:=Nat->AV
abbrev Hp:=Nat->Option (List AV)
abbrev SP:=Tm->Hp->Nat->Prop
inductive AEx where
 |normal|exit (id:Nat)|ret
def ax{α:Type}(x:Option α)(K:α->Prop):Prop:=match x with|some a=>K a|none=>False
@[congr] theorem obind_congr {α:Type} {x y:Option α} {K:α->Prop} (h:x=y):ax x K=ax y K:=by rw[h]
def aS(x:Option Bool)(A B:Prop):Prop:=match x with|some true=>A|some false=>B|none=>False
@[congr] theorem gbind_congr {x y:Option Bool} {A B:Prop} (h:x=y):aS x A B=aS y A B:=by rw[h]
def aM(x:Bool)(A:Prop):Prop:=x=true/\A
@[congr] theorem bbind_congr {x y:Bool} {A:Prop} (h:x=y):aM x A=aM y A:=by rw[h]
def a8(v:AV)(A B:Prop):Prop:=match v with|.bool b=>(b=true->A)/\(b=false->B)|_=>False
@[congr] theorem acond_congr {v v':AV} {A B:Prop} (h:v=v'):a8 v A B=a8 v' A B:=by rw[h]
def aX(P:Program)(g:FuncId)(args:List AV)(H:Hp)(K:AV->Prop):Prop:=∃r,sC P g args H r/\K r
@[congr] theorem PCall_congr {P:Program} {g:FuncId} {args args':List AV} {H H':Hp} {K:AV->Prop} (h:args=args') (h2:H=H'):aX P g args H K=aX P g args' H' K:=by rw[h,h2]
theorem aX.of_pure{P:Program}{f:FuncId}{args args':List AV}{r:AV}{H:Hp}{K:AV->Prop}(hp:Pure P f args' r)(hs:ap H args args' r)(hR:K r):aX P f args H K:=⟨_,hp.callOk hs,hR⟩
theorem aX.of_callOk{P:Program}{f:FuncId}{args:List AV}{r:AV}{H:Hp}{K:AV->Prop}(hp:sC P f args H r)(hR:K r):aX P f args H K:=⟨_,hp,hR⟩
def qG(v:AV):Option (FuncId×List AV):=match v with|.func g caps=>some (g,caps)|_=>none
def nN:Op->Option (Operand×Array Operand)
 |.call {callee:=.value f,args:=args,argTypes:=_}=>some (f,args)
 |_=>none
theorem oY{op:Op}{f:Operand}{args:Array Operand}(h:nN op=some (f,args)):∃ts,op=.call {callee:=.value f,args:=args,argTypes:=ts}:=by
 unfold nN at h;split at h
 ·cases h;exact⟨_,rfl⟩
 ·cases h
inductive OpC where
 |val|eff|call|other
def opc:Op->OpC
 |.call {callee:=.value _,..}=>.call
 |op=>match opk op with
  |.pure|.touch=>.val
  |.alloc|.write=>.eff
  |.other=>.other
inductive DM where
 |text|draw|fresh (m:Nat)
def DM.fr:DM->Option Nat
 |.fresh m=>some m
 |_=>none
def DM.isText:DM->Bool
 |.text=>true
 |_=>false
def uz(dm:DM)(T:Tm)(op:Op):Bool:=match dm with
 |.fresh m=>tg T op m
 |_=>true
def l8(P:Program)(dm:DM)(op:Op)(T:Tm)(H:Hp)(nx:Nat)(K:AV->Hp->Nat->Prop):Prop:=
 match opc op with
 |.val=>aM (uz dm T op) (ax (dF P T H op) λr=>K r H nx)
 |.eff=>aM (uz dm T op) (ax (il P T H nx op) λx=>K x.1 x.2.1 x.2.2)
 |.call=>ax (nN op) λx=>ax (qG (ev T x.1)) λy=>match dm.isText with
  |false=>aX P y.1 (x.2.toList.map (ev T)++y.2) H λr=>K r H nx
  |true=>Fn P y.1 (x.2.toList.map (ev T)++y.2) H nx K
 |.other=>False
def eY(P:Program)(op:Op)(T:Tm)(H:Hp)(nx:Nat)(K:AV->Hp->Nat->Prop):Prop:=
 (∀c,op≠.defer c)/\∀(rr:Option Nat)(E:Env)(w:World)(a:Act)(o:Oper)(next:Act->World->Prop)(Q:Exit->Act->World->Prop),o.op=op->EnvOk E w->HeapOk E H nx w->cJ E nx->(∀x∈op.operands,Rel E w (ev T x) (a.eval x))->
  (∀(E':Env)(H':Hp)(nx':Nat)(r:AV)(v:Value)(w':World),Ext E w E' w'->EnvOk E' w'->HeapOk E' H' nx' w'->cJ E' nx'->Rel E' w' r v->K r H' nx'->next (a.put o.dst v) w')->
  o.uponIn (FW rr) 0 P a next Q ((execOp a.eval o).run P w)
def tA(P:Program)(dm:DM)(op:Op)(T:Tm)(H:Hp)(nx:Nat)(K:AV->Hp->Nat->Prop):Prop:=
 l8 P dm op T H nx K\/(dm.isText=true/\eY P op T H nx K)
def aop(P:Program)(n:Nat)(dm:DM)(dsts:List (Option Nat))(o:Oper)(T:Tm)(H:Hp)(nx:Nat)(K:SP):Prop:=
 aM (dok n o.dst) (aS (gval T dsts o.guard) (tA P dm o.op T H nx λr H' nx'=>K (aO T o.dst r) H' nx') (K (aO T o.dst (.tup [])) H nx))
def rI(P:Program)(n:Nat)(dm:DM)(dsts:List (Option Nat)):List Oper->Tm->Hp->Nat->SP->Prop
 |[],T,H,nx,K=>K T H nx
 |o::l,T,H,nx,K=>aop P n dm dsts o T H nx λT H nx=>rI P n dm dsts l T H nx K
theorem Cr{P:Program}{op:Op}{T:Tm}{H:Hp}{nx:Nat}{K K':AV->Hp->Nat->Prop}(h:eY P op T H nx K)(hK:∀r H nx,K r H nx->K' r H nx):eY P op T H nx K':=
 ⟨h.1,λrr E w a o next Q ho hE hh hf ht hn=>h.2 rr E w a o next Q ho hE hh hf ht (λE' H' nx' r v w' h1 h2 h3 h4 h5 h6=>hn E' H' nx' r v w' h1 h2 h3 h4 h5 (hK _ _ _ h6))⟩
theorem Cc{P:Program}{dm:DM}{op:Op}{T:Tm}{H:Hp}{nx:Nat}{K K':AV->Hp->Nat->Prop}(h:l8 P dm op T H nx K)(hK:∀r H nx,K r H nx->K' r H nx):l8 P dm op T H nx K':=by
 have ob:∀{α:Type}{x:Option α}{A B:α->Prop},(∀a,A a->B a)->ax x A->ax x B:=by
  intro α x A B hab h;cases x with
  |none=>exact h
  |some a=>exact hab a h
 unfold l8 at h |-;split at h
 ·exact⟨h.1,ob (λa=>hK _ _ _) h.2⟩
 ·exact⟨h.1,ob (λa=>hK _ _ _) h.2⟩
 ·refine ob (λa=>ob (λb=>?_)) h;intro h;cases hd:dm.isText with
  |false=>rw[hd] at h;obtain⟨r,h1,h3⟩:=h;exact⟨r,h1,hK _ _ _ h3⟩
  |true=>rw[hd] at h;exact Fn.mono h hK
 ·exact h
theorem ky{P:Program}{dm:DM}{op:Op}{T:Tm}{H:Hp}{nx:Nat}{K K':AV->Hp->Nat->Prop}(h:tA P dm op T H nx K)(hK:∀r H nx,K r H nx->K' r H nx):tA P dm op T H nx K':=
 h.imp (λh=>Cc h hK) (λh=>⟨h.1,Cr h.2 hK⟩)
theorem F8{P:Program}{N:Nat}{dm:DM}{dsts:List (Option Nat)}{o:Oper}{T:Tm}{H:Hp}{nx:Nat}{K K':SP}(h:aop P N dm dsts o T H nx K)(hK:∀T H nx,K T H nx->K' T H nx):aop P N dm dsts o T H nx K':=by
 unfold aop at h |-;refine⟨h.1,?_⟩;have h:=h.2;cases hg:gval T dsts o.guard with
 |none=>rw[hg] at h;exact h.elim
 |some b=>
  rw[hg] at h;cases b with
  |true=>exact ky (K:=λr H' nx'=>K (aO T o.dst r) H' nx') h (λ_ _ _=>hK _ _ _)
  |false=>exact hK _ _ _ h
theorem l6{P:Program}{N:Nat}{dm:DM}{dsts:List (Option Nat)}{K K':SP}(hK:∀T H nx,K T H nx->K' T H nx):∀(l:List Oper){T:Tm}{H:Hp}{nx:Nat},rI P N dm dsts l T H nx K->rI P N dm dsts l T H nx K'
 |[],_,_,_,h=>hK _ _ _ h
 |o::l,_,_,_,h=>F8 h (λ_ _ _=>l6 hK l)
def Mc(T T':Tm):Prop:=∀t,T' t=T t\/T' t=.undef
theorem Mc.refl(T:Tm):Mc T T:=λ_=>.inl rfl
theorem Sim.weak{E:Env}{N:Cfg}{T T':Tm}{H:Hp}{nx:Nat}{a:Act}{w:World}(h:Sim E N ⟨T,H,nx⟩ a w)(hw:Mc T T'):Sim E N ⟨T',H,nx⟩ a w:=
 ⟨h.env,h.heap,h.fresh,h.round,h.floor,h.size,fun t=>by
  show Rel E w (T' t) _;rcases hw t with e|e
  ·rw[e];exact h.tmps t
  ·rw[e];exact .undef _,h.defers⟩
def GhV(Hf:Hp)(nx nx':Nat)(x x':AV):Prop:=x'=x\/Snap Hf x x'\/(x=.esl/\∃b sz,x'=.msl b 0 sz 0 0/\nx<=b/\b<nx')
structure Gh(T:Tm)(H:Hp)(nx:Nat)(T':Tm)(H':Hp)(nx':Nat)(Hf:Hp):Prop where
 sub:∀b cs,Hf b=some cs->H b=some cs
 le:nx<=nx'
 heap:∀b cs',H' b=some cs'->(∃cs,H b=some cs/\Hf b=none/\cs'.length=cs.length/\∀(i:Nat)(x x':AV),cs[i]?=some x->cs'[i]?=some x'->GhV Hf nx nx' x x')\/(cs'=[]/\nx<=b/\b<nx')
 tmps:∀t,T' t=.undef\/GhV Hf nx nx' (T t) (T' t)
theorem Gh.refl(T:Tm)(H:Hp)(nx:Nat):Gh T H nx T H nx aP:=
 ⟨λ_ _ h=>(by cases h),bc _,λb cs h=>.inl ⟨cs,h,rfl,rfl,λi x x' h1 h2=>.inl (by rw[h1] at h2;cases h2;rfl)⟩,λt=>.inr (.inl rfl)⟩
theorem HeapOk.blk_cells{E:Env}{H:Hp}{nx:Nat}{w:World}(h:HeapOk E H nx w){b:Nat}{cs:List AV}{blk sz:Nat}(hb:H b=some cs)(hm:E.mu b cs.length=some (blk,sz)):∃vals ty fz,w.heap[blk]?=some (.cells vals ty fz):=by
 rcases h.box b cs hb with hn|⟨blk',sz',hx⟩
 ·rw[hn] at hm;cases hm
 ·rw[hx.mu] at hm;cases hm;obtain⟨vals,ty,fz,h1,_⟩:=hx.cells;exact⟨vals,ty,fz,h1⟩
theorem GhV.sound{E:Env}{H Hf:Hp}{nx nx':Nat}{w:World}(hh:HeapOk E H nx w)(hsub:∀b cs,Hf b=some cs->H b=some cs){x x':AV}(h:GhV Hf nx nx' x x'){v:Value}(hv:Rel E w x v):
    Rel {E with imm:=λb=>E.imm b\/iW E Hf b} w x' v:=by
 rcases h with rfl|h|⟨rfl,b,sz,rfl,_,_⟩
 ·exact hv.mono (E':={E with imm:=λb=>E.imm b\/iW E Hf b}) (λ_ h=>.inl h) (λ_ _ _ h=>h) (λ_ _ h=>h)
 ·have hf:HeapOk E Hf nx w:=hh.fewer hsub (λb cs hb=>hh.dom b cs (hsub b cs hb));exact Rel.mono (E:=E0 λb=>E.imm b\/iW E Hf b) (E':={E with imm:=λb=>E.imm b\/iW E Hf b}) (λ_ h=>h) (λ_ _ _ h=>(by cases h)) (λ_ _ h=>(by cases h)) (h.sound hf hv)
 ·cases hv with
  |eslnil=>exact .msl0 _ _ _ (.inl rfl)
  |esl a=>exact .msl0 _ _ _ (.inr ⟨_,rfl⟩)
theorem Sim.ghost{E:Env}{N:Cfg}{T T':Tm}{H H' Hf:Hp}{nx nx':Nat}{a:Act}{w:World}(h:Sim E N ⟨T,H,nx⟩ a w)(hg:Gh T H nx T' H' nx' Hf):∃E',Ext E w E' w/\Sim E' N ⟨T',H',nx'⟩ a w:=by
 have hh:=h.heap;have hfr:=h.fresh;simp only at hh hfr;have hblk:∀b,iW E Hf b->b<w.heap.size/\E.base<=b/\¬E.imm b:=λb ⟨b',cs,sz,h1,h2⟩=>hh.blk_lt (hg.sub _ _ h1) h2
 have he:Ext E w {E with imm:=λb=>E.imm b\/iW E Hf b} w:=
  ⟨rfl,rfl,λ_ h=>.inl h,λb hb=>hb.imp id (λh=>(hblk b h).2.1),λ_ _ _ h=>h,λ_ _ h=>h,λ_ _ h=>h,λ_ h=>⟨h,rfl⟩,bc _,λ_ _=>rfl,bc _⟩
 have hEs:EnvOk { E with imm:=fun b=>E.imm b ∨ iW E Hf b } w:=h.env.step he (fun b hb=>hb.imp id (fun h=>(hblk b h).1)) (fun k hk=>hk.imp id (fun ⟨b',cs,sz,h1,h2⟩ b hb=>by
  obtain⟨vals,ty,fz,hc⟩:=hh.blk_cells (hg.sub _ _ h1) h2;obtain⟨_,_,o,ho,hno,_⟩:=h.env.spb b k hb;rw[hc] at ho;cases ho;cases hno)) (Below.refl _ _) (fQ.refl _) rfl rfl rfl (λ_ _ _ _=>rfl)
 refine⟨_,he,hEs,?_,λb hb=>hfr b (eK hg.le hb),λl hl=>h.round l hl,h.floor,h.size,λt=>?_,h.defers.ext he⟩
 ·refine⟨λb cs' hb=>?_,λb cs' hb=>?_,λb b' cs1 cs2 blk sz blk' sz' hb hb' hne m1 m2=>?_,hh.size,λb cs' m x hb hm=>?_,λb x hb hx=>?_,λb hb=>?_⟩
  ·rcases hg.heap b cs' hb with⟨cs,h1,h2,h3,h4⟩|⟨rfl,h1,h2⟩
   ·rw[h3];rcases hh.box b cs h1 with hn|⟨blk,sz,hx⟩
    ·exact .inl hn
    ·refine .inr ⟨blk,sz,by rw[h3];exact hx.mu,hx.base,?_,?_⟩
     ·rintro(hi|⟨b',cs1,sz',k1,k2⟩)
      ·exact hx.imm hi
      ·have hne:b≠b':=λe=>by subst e;rw[h2] at k1;cases k1
       exact hh.apart b b' cs cs1 blk sz blk sz' h1 (hg.sub _ _ k1) hne hx.mu k2 rfl
     ·obtain⟨vals,ty,fz,k1,kz,k2,k3,k4⟩:=hx.cells;refine⟨vals,ty,fz,k1,kz,k2,by omega,λi x' hx'=>?_⟩;have hlt:i<cs.length:=by have:=(bH.1 hx').1;omega
      obtain⟨v,e1,e2,e3⟩:=k4 i cs[i] (by simp[hlt]);exact⟨v,e1,e2,(h4 i _ x' (by simp[hlt]) hx').sound hh hg.sub e3⟩
   ·exact .inl ((hfr b h1).1 _)
  ·rcases hg.heap b cs' hb with⟨cs,h1,_⟩|⟨_,_,h2⟩
   ·exact Ak (hh.dom _ _ h1) hg.le
   ·exact h2
  ·rcases hg.heap b cs1 hb with⟨ds1,h1,_,h1',_⟩|⟨_,h1,_⟩
   ·rcases hg.heap b' cs2 hb' with⟨ds2,h2,_,h2',_⟩|⟨_,h2,_⟩
    ·rw[h1'] at m1;rw[h2'] at m2;exact hh.apart b b' ds1 ds2 blk sz blk' sz' h1 h2 hne m1 m2
    ·have:=(hfr b' h2).1 cs2.length;rw[this] at m2;cases m2
   ·have:=(hfr b h1).1 cs1.length;rw[this] at m1;cases m1
  ·rcases hg.heap b cs' hb with⟨cs,h1,_,h3,_⟩|⟨_,h1,_⟩
   ·rw[h3];exact hh.top b cs m x h1 hm
   ·have:=(hfr b h1).1 m;rw[this] at hm;cases hm
  ·rcases hg.heap b [x] hb with⟨cs,h1,_,h3,h4⟩|⟨hn,_⟩
   ·match cs,h3 with
    |[y],_=>
     have e:x=y:=by
      rcases h4 0 y x rfl rfl with e|e|⟨_,_,_,e,_⟩
      ·exact e
      ·exfalso;cases e<;>cases hx
      ·subst e;cases hx
     subst e;obtain⟨k,k1,k2⟩:=hh.spec b x h1 hx;exact⟨k,k1,k2.ext he (λ_ _ _ h _=>h)⟩
   ·cases hn
  ·rcases hg.heap b [] hb with⟨cs,h1,_,h3,_⟩|⟨_,h1,_⟩
   ·exact hh.nsp b (by rw[h1,fP.1 h3.symm])
   ·exact(hfr b h1).2.1
 ·show Rel _ w (T' t) _;rcases hg.tmps t with e|e
  ·rw[e];exact .undef _
  ·exact e.sound hh hg.sub (h.tmps t)
def aN(e:AEx)(A B:Prop):Prop:=match e with|.normal=>A|_=>B
@[congr] theorem athen_congr {e e':AEx} {A B:Prop} (h:e=e'):aN e A B=aN e' A B:=by rw[h]
def rS(id:Nat):AEx->AEx
 |.exit i=>if i=id then .normal else .exit i
 |e=>e
abbrev CP:=AEx->SP
def zn(body:Tm->Hp->Nat->CP->Prop)(K:CP):Nat->Tm->Hp->Nat->Prop
 |0,_,_,_=>False
 |n+1,T,H,nx=>∃T' H' nx' Hf,Gh T H nx T' H' nx' Hf/\body T' H' nx' λe T H nx=>aN e (zn body K n T H nx) (K e T H nx)
def aY(body:Tm->Hp->Nat->CP->Prop)(T:Tm)(H:Hp)(nx:Nat)(K:CP):Prop:=∃n,zn body K n T H nx
def AEx.cv:AEx->Exit
 |.normal=>.normal
 |.exit i=>.exit i
 |.ret=>.ret
def jT(P:Program)(N:Cfg)(E:Env)(w:World)(K:CP):Exit->Act->World->Prop:=λe a' w'=>
 ∃x E' T H nx,e=AEx.cv x/\Ext E w E' w'/\Sim E' N ⟨T,H,nx⟩ a' w'/\K x T H nx
theorem jT.trans{P:Program}{N:Cfg}{E E':Env}{w w':World}{K:CP}(he:Ext E w E' w'){e:Exit}{a:Act}{w'':World}(h:jT P N E' w' K e a w''):jT P N E w K e a w'':=by
 obtain⟨x,E'',T,H,nx,h1,h2,h3,h4⟩:=h;exact⟨x,E'',T,H,nx,h1,he.trans h2,h3,h4⟩
theorem jT.mono{P:Program}{N:Cfg}{E:Env}{w:World}{K K':CP}(hK:∀e T H nx,K e T H nx->K' e T H nx){e:Exit}{a:Act}{w':World}(h:jT P N E w K e a w'):jT P N E w K' e a w':=by
 obtain⟨x,E',T,H,nx,h1,h2,h3,h4⟩:=h;exact⟨x,E',T,H,nx,h1,h2,h3,hK _ _ _ _ h4⟩
def RF(P:Program)(n:Nat)(c:Code)(T:Tm)(H:Hp)(nx:Nat)(K:CP):Prop:=
 ∀(N:Cfg)(E:Env)(a:Act)(w:World),N.n=n->Sim E N ⟨T,H,nx⟩ a w->c.wpIn (FW N.rd) 0 P (jT P N E w K) a w
theorem RF.mono{P:Program}{n:Nat}{c:Code}{T:Tm}{H:Hp}{nx:Nat}{K K':CP}(h:RF P n c T H nx K)(hK:∀e T H nx,K e T H nx->K' e T H nx):RF P n c T H nx K':=
 λN E a w hn hS=>wpIn_mono (h N E a w hn hS) (λ_ _ _=>jT.mono hK)
theorem Sim.put{E E':Env}{N:Cfg}{T:Tm}{H H':Hp}{nx nx':Nat}{a:Act}{w w':World}(h:Sim E N ⟨T,H,nx⟩ a w)(he:Ext E w E' w')(hE:EnvOk E' w')(hH:HeapOk E' H' nx' w')(hf:cJ E' nx')
    {d:Option Nat} (hd:dok N.n d=true) {r:AV} {v:Value} (hr:Rel E' w' r v):Sim E' N ⟨aO T d r,H',nx'⟩ (a.put d v) w':=by
 refine⟨hE,hH,hf,λl hl=>let ⟨b,x,h1,h2⟩:=h.round l hl;⟨b,x,he.lp _ _ h1,he.sp _ _ h2⟩,eK h.floor he.size,?_,λt=>?_,?_⟩
 ·cases d with
  |none=>exact h.size
  |some d=>simp[Act.put,h.size]
 ·cases d with
  |none=>exact(h.tmps t).ext he
  |some d=>
   simp only[dok,gq] at hd;simp only[aO,upd,Act.put];by_cases hdt:t=d
   ·subst hdt;rw[if_pos rfl];have:t<a.tmps.size:=by rw[h.size];exact hd
    simp[this];exact hr
   ·rw[if_neg hdt];have:=(h.tmps t).ext he
    have e:(a.tmps.setIfInBounds d v).getD t Go.undef=a.tmps.getD t Go.undef:=by
     simp only[yX];rw[FQ (Ne.symm hdt)]
    rw[e];exact this
 ·have:(a.put d v).defers=a.defers:=by cases d<;>rfl
  rw[this];exact h.defers.ext he
theorem jE{P:Program}{N:Cfg}{rr:Option Nat}{ops:Array Oper}{Q:Exit->Act->World->Prop}{next:Act->World->Prop}{o:Oper}{E:Env}{T:Tm}{H:Hp}{nx:Nat}{a:Act}{w:World}{K:SP}(hS:Sim E N ⟨T,H,nx⟩ a w)
    (h:aop P N.n .text (ops.toList.map (·.dst)) o T H nx K) (hK:∀E' T' H' nx' a' w',Ext E w E' w'->Sim E' N ⟨T',H',nx'⟩ a' w'->K T' H' nx'->next a' w'):
    if Region.wanted o (yielded ops a.tmps) then o.wpIn (FW rr) 0 P a w next Q else(∀f,o.about P w a.eval=some f->(FW rr).fn f)/\next (a.put o.dst Go.undef) w:=by
 obtain⟨hd,h⟩:=h
 have hfin:∀E' H' nx' r v w',Ext E w E' w'->EnvOk E' w'->HeapOk E' H' nx' w'->cJ E' nx'->Rel E' w' r v->K (aO T o.dst r) H' nx'->next (a.put o.dst v) w':=
  λE' H' nx' r v w' he hE hH hf hr hk=>hK E' _ _ _ _ _ he (hS.put he hE hH hf hd hr) hk
 cases hg:gval T (ops.toList.map (·.dst)) o.guard with
 |none=>rw[hg] at h;exact h.elim
 |some b=>
  have hw:=uD (E:=E) (w:=w) (a:=a) (o:=o) (λt _=>hS.tmps t) hg;rw[hg] at h;rw[Array.toArray_toList] at hw;rw[hw];cases b with
  |false=>
   simp only[dX,if_false];exact⟨λ_ _=>trivial,hfin E H nx (.tup []) Go.undef w (Ext.refl _ _) hS.env hS.heap hS.fresh (jp _ _) h⟩
  |true=>
   simp only[if_true];refine⟨λ_ _=>trivial,?_⟩;have h:tA P .text o.op T H nx λr H' nx'=>K (aO T o.dst r) H' nx':=h;rcases h with h|h
   rotate_left
   ·rw[fX h.2.1];exact h.2.2 rr E w a o next Q rfl hS.env hS.heap hS.fresh (λx _=>nQ hS.tmps x) (λE' H' nx' r v w' h1 h2 h3 h4 h5 h6=>hfin E' H' nx' r v w' h1 h2 h3 h4 h5 h6)
   unfold l8 at h;split at h
   ·obtain⟨_,h⟩:=h;cases ha:dF P T H o.op with
    |none=>rw[ha] at h;exact h.elim
    |some r=>
     rw[ha] at h;obtain⟨v,h1,h2⟩:=mW hS.heap hS.tmps ha;rw[fX (qL ha),h1,Oper.uponIn_value];exact hfin E H nx r v w (Ext.refl _ _) hS.env hS.heap hS.fresh h2 h
   ·obtain⟨_,h⟩:=h;cases ha:il P T H nx o.op with
    |none=>rw[ha] at h;exact h.elim
    |some x=>
     obtain⟨r,H',nx'⟩:=x;rw[ha] at h;obtain⟨n,v,w',E',h1,h2,h3,h4,h5,h6,h7⟩:=uU hS.env hS.heap hS.fresh hS.tmps ha;rw[fX (q9 ha),h1];have:=hfin E' H' nx' r v w' h3 h4 h5 h7 h6 h;rcases h2 with rfl|⟨rfl,rfl⟩
     ·rw[Oper.uponIn_value];exact this
     ·rw[Oper.uponIn_skip];exact this
   ·cases hc:nN o.op with
    |none=>rw[hc] at h;exact h.elim
    |some x=>
     obtain⟨f,args⟩:=x;rw[hc] at h;obtain⟨ts,ho⟩:=oY hc;have h:ax (qG (ev T f)) λy=>Fn P y.1 (args.toList.map (ev T)++y.2) H nx λr H' nx'=>K (aO T o.dst r) H' nx':=h;cases hf:qG (ev T f) with
     |none=>rw[hf] at h;exact h.elim
     |some y=>
      obtain⟨g,caps⟩:=y;rw[hf] at h
      have hev:ev T f=.func g caps:=by
       unfold qG at hf;split at hf
       ·rename_i hh;cases hf;exact hh
       ·cases hf
      have h:Fn P g (args.toList.map (ev T)++caps) H nx λr H' nx'=>K (aO T o.dst r) H' nx':=h;have hfr:=nQ (E:=E) (w:=w) (a:=a) hS.tmps f;simp only at hfr;rw[hev] at hfr;generalize hvf:a.eval f=vf at hfr;cases hfr with
      |func _ _ cv hl hcr=>
      have hargs:dI E w (args.toList.map (ev T)++caps) (args.toList.map a.eval++cv):=by
       refine⟨by simp[hl],λj x y hx hy=>?_⟩;rw[List.getElem?_append] at hx hy;simp only[bi] at hx hy;split at hx
       ·rename_i hlt;rw[if_pos hlt] at hy;exact(nW (T:=T) hS.tmps args.toList).2 j x y hx hy
       ·rename_i hlt;rw[if_neg hlt] at hy;exact hcr _ _ _ hx hy
      have hcalls:=h.2 E w _ hS.env hS.heap hS.fresh hargs;rw[fX (by rw[ho];intro c;simp),lO ho hvf h.1,Oper.uponIn_enter];refine⟨(λh=>by cases h),?_⟩
      have harr:args.map a.eval++cv.toArray=(args.toList.map a.eval++cv).toArray:=by
       rw[jH];simp
      rw[harr];refine(lc hcalls).mono ?_;rintro e w' ⟨v,E',r,H',nx',rfl,he,hE',hH',hf',hrel,hk⟩;exact hfin E' H' nx' r v w' he hE' hH' hf' hrel hk
   ·exact h.elim
theorem uY{P:Program}{N:Cfg}{rr:Option Nat}{ops:Array Oper}{Q:Exit->Act->World->Prop}{K:SP}:∀(l:List Oper){E:Env}{T:Tm}{H:Hp}{nx:Nat}{a:Act}{w:World},Sim E N ⟨T,H,nx⟩ a w->
    rI P N.n .text (ops.toList.map (·.dst)) l T H nx K->(∀E' T' H' nx' a' w',Ext E w E' w'->Sim E' N ⟨T',H',nx'⟩ a' w'->K T' H' nx'->Q .normal a' w')->wpListIn (FW rr) 0 P ops Q l a w
 |[],E,T,H,nx,a,w,hS,h,hQ=>hQ E T H nx a w (Ext.refl _ _) hS h
 |o::l,E,T,H,nx,a,w,hS,h,hQ=>by
  have:=jE (rr:=rr) (ops:=ops) (Q:=Q) (next:=wpListIn (FW rr) 0 P ops Q l) hS h (fun E' T' H' nx' a' w' he hS' hk =>
   uY l hS' hk (λE'' T'' H'' nx'' a'' w'' he'=>hQ E'' T'' H'' nx'' a'' w'' (he.trans he')))
  exact this
theorem ut{P:Program}{N:Cfg}{dm:DM}(hdm:dm.isText=false){dsts:List (Option Nat)}{K:SP}:∀(l:List Oper){T:Tm}{H:Hp}{nx:Nat},rI P N.n dm dsts l T H nx K->
    ∃(s:Nat->St)(r:Nat->AV),s 0=⟨T,H,nx⟩/\(∀i o,l[i]?=some o->DStep P N dm.fr dsts o (s i) (r i) (s (i+1)))/\K (s l.length).T (s l.length).H (s l.length).nx
 |[],T,H,nx,h=>⟨λ_=>⟨T,H,nx⟩,λ_=>.undef,rfl,λi o h=>(by cases h),h⟩
 |o::l,T,H,nx,h=>by
  have hgo:∀(q:AV)(st':St),DStep P N dm.fr dsts o ⟨T,H,nx⟩ q st'->rI P N.n dm dsts l st'.T st'.H st'.nx K->
      ∃(s:Nat->St)(r:Nat->AV),s 0=⟨T,H,nx⟩/\(∀i o',(o::l)[i]?=some o'->DStep P N dm.fr dsts o' (s i) (r i) (s (i+1)))/\K (s (o::l).length).T (s (o::l).length).H (s (o::l).length).nx:=by
   intro q st' hst hrest;obtain⟨s,r,h0,h1,h2⟩:=ut hdm l hrest;refine⟨λi=>match i with|0=>⟨T,H,nx⟩|i+1=>s i,λi=>match i with|0=>q|i+1=>r i,rfl,λi o' ho'=>?_,h2⟩;cases i with
   |zero=>
    simp at ho';subst ho';show DStep P N dm.fr dsts o ⟨T,H,nx⟩ q (s 0);rw[h0];exact hst
   |succ i=>exact h1 i o' (by simpa using ho')
  obtain⟨hd,h⟩:=h;cases hg:gval T dsts o.guard with
  |none=>rw[hg] at h;exact h.elim
  |some b=>
   rw[hg] at h;cases b with
   |false=>exact hgo (.tup []) _ (.skip hg hd) h
   |true=>
    have h:tA P dm o.op T H nx λr H' nx'=>rI P N.n dm dsts l (aO T o.dst r) H' nx' K:=h;replace h:=h.resolve_right (λh=>by rw[hdm] at h;cases h.1);unfold l8 at h;split at h
    ·obtain⟨hk,h⟩:=h
     have hk':∀m,dm.fr=some m->tg T o.op m=true:=by
      intro m hm;cases dm<;>first|(cases hm;done)|(cases hm;exact hk)
     cases ha:dF P T H o.op with
     |none=>rw[ha] at h;exact h.elim
     |some r=>rw[ha] at h;exact hgo r _ (.val r hk' hg hd ha) h
    ·obtain⟨hk,h⟩:=h
     have hk':∀m,dm.fr=some m->tg T o.op m=true:=by
      intro m hm;cases dm<;>first|(cases hm;done)|(cases hm;exact hk)
     cases ha:il P T H nx o.op with
     |none=>rw[ha] at h;exact h.elim
     |some x=>obtain⟨r,H',nx'⟩:=x;rw[ha] at h;exact hgo r _ (.eff r H' nx' hk' hg hd ha) h
    ·cases hc:nN o.op with
     |none=>rw[hc] at h;exact h.elim
     |some x=>
      obtain⟨f,args⟩:=x;rw[hc,hdm] at h;obtain⟨ts,ho⟩:=oY hc;have h:ax (qG (ev T f)) λy=>aX P y.1 (args.toList.map (ev T)++y.2) H λr=>rI P N.n dm dsts l (aO T o.dst r) H nx K:=h;cases hf:qG (ev T f) with
      |none=>rw[hf] at h;exact h.elim
      |some y=>
       obtain⟨g,caps⟩:=y;rw[hf] at h
       have hev:ev T f=.func g caps:=by
        unfold qG at hf;split at hf
        ·rename_i hh;cases hf;exact hh
        ·cases hf
       obtain⟨r,h1,h3⟩:=h;exact hgo r _ (.call r f args ts g caps hg hd ho hev h1) h3
    ·exact h.elim
end Go.Abs
