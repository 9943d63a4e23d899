/- Texts of this claim, one after the other: AbsO, Code, U1, T100, T101, T102, T103, T104, T105, T108, U2s, U3s, U4s, U5s, U6s, U7s. -/
import Derived.Test.YtekdaafnjdlenaaGreatXG3
import Derived.ChangeArms
import Derived.Carry
import Derived.Deep.Slices
import Derived.Lib.SmallJoins
import Derived.Test.YtekdaafnjdlenaaGreatProg
import Derived.KernelRfl

set_option linter.unusedSimpArgs false
set_option linter.unusedVariables false
set_option maxHeartbeats 1000000
namespace Go.Abs
open Go Go.RowKit
def uq(W:World):Nat→Prop:=fun b=>b<W.heap.size
theorem Dd{W:World}{a:Addr}{v:Value}(h:W.cell? a=some v):uq W a.block∧a.spot=none:=by
 unfold World.cell? at h;unfold uq;cases hb:W.heap[a.block]? with
 |none=>simp[hb] at h
 |some o=>
  refine⟨(ir.1 hb).1,?_⟩;cases hs:a.spot with
  |none=>rfl
  |some s=>cases o<;>simp[hb,hs] at h
section
variable{H:Type}{enc:TypeId×Value→H}{P:Program}{W:World}
def fc(enc:TypeId×Value→H)(P:Program)(W:World)(t:TypeId){α:Type}(f:α→AV)(good:α→Prop):Prop:=
 ∀(n:Nat)(cs:List Value)(x:DataW H×List MemPlace),DataW.trod enc P W 0 (fun _=>true) true n t cs=some x→(∀k∈x.1.weights P t,k≤reachBytes)→∃a:α,good a∧dC (E0 (uq W)) W (f a).cells cs
theorem fc.mono{t:TypeId}{α:Type}{f:α→AV}{good good':α→Prop}(h:fc enc P W t f good)(hg:∀a,good a→good' a):fc enc P W t f good':=
 fun n cs x hx hw=>let ⟨a,h1,h2⟩:=h n cs x hx hw;⟨a,hg a h1,h2⟩
theorem rV {E:Env} {w:World} {x:AV} {y:Value} (h:Rel E w x y):dC E w [x] [y]:=⟨rfl,fun i a b ha hb=>by
 cases i with
 |zero=>simp at ha hb;subst ha hb;exact h
 |succ i=>simp at ha⟩
theorem dC.app{E:Env}{w:World}{xs xs':List AV}{ys ys':List Value}(h:dC E w xs ys)(h':dC E w xs' ys'):dC E w (xs++xs') (ys++ys'):=by
 have hl:xs.length=ys.length:=h.1.symm;refine⟨by simp[h.1,h'.1],fun i a b ha hb=>?_⟩;by_cases hi:i<xs.length
 ·rw[gv hi] at ha;rw[gv (by omega)] at hb;exact h.2 i a b ha hb
 ·rw[ik (by omega)] at ha;rw[ik (by omega)] at hb;rw[hl] at ha;exact h'.2 _ a b ha hb
theorem DJ{t:TypeId}{k:IntKind}(ht:P.underlying t=some (.int k)):fc enc P W t (AV.int k) (fun n=>(Lit.int k n).wf=true):=fun n cs x hx _=>by
 obtain⟨a,rfl,rfl,hw⟩:=DataW.trod_int ht hx;exact⟨a,hw,rV (.int _ _)⟩
theorem tF{e:TypeId}{l:List (DataW H)}{d:DataW H}(h:d∈l){k:Nat}(hk:k∈d.weights P e):k∈DataW.weightsAll P e l:=by
 induction l with
 |nil=>cases h
 |cons a l ih=>
  unfold DataW.weightsAll;rcases cW.1 h with rfl|h
  ·exact np _ hk
  ·exact ng _ (ih h)
theorem yF{α:Type}{len:Nat}{Q:Nat→α→Prop}(h:∀i,i<len→∃a,Q i a):∃l:List α,l.length=len∧∀i a,l[i]?=some a→Q i a:=by
 induction len with
 |zero=>exact⟨[],rfl,fun i a h=>by simp at h⟩
 |succ n ih=>
  obtain⟨l,h1,h2⟩:=ih (fun i hi=>h i (by omega));obtain⟨a,ha⟩:=h n (by omega);refine⟨l++[a],by simp[h1],fun i b hb=>?_⟩;by_cases hi:i<l.length
  ·rw[gv hi] at hb;exact h2 i b hb
  ·rw[ik (by omega)] at hb
   have:i-l.length=0:=by
    by_cases h0:i-l.length=0
    ·exact h0
    ·rw[List.getElem?_eq_none (by simp;omega)] at hb;cases hb
   rw[this] at hb;simp at hb;subst hb;have:i=n:=by omega
   subst this;exact ha
theorem qS{t e:TypeId}{sz by_:Nat}{α:Type}{f:α→AV}{good:α→Prop}(ht:P.underlying t=some (.slice e))(hsz:P.cellsOf e=sz)(hby:P.bytesOf e=by_)(hpos:0<sz)(hc:∀a,(f a).cells.length=sz)
    (he:fc enc P W e f good):fc enc P W t (iK sz f) (fun l=>(∀a∈l,good a)∧l.length≤9223372036854775807∧l.length*by_≤140737488351232):=fun n cs x hx hw=>by
 rcases Go.Deep.open_slice ht hx with⟨rfl,rfl⟩|⟨a,len,cap,m,n',D,Pl,rfl,hb,hlc,hcm,hm,hxe,hel⟩
 ·exact⟨[],⟨fun _ h=>(by cases h),by simp,by simp⟩,rV (.slnil _)⟩
 simp only[if_true] at hm;subst hxe;subst hm;have hw':∀k∈((DataW.slice (H:=H) ((List.range len).map D) ((List.range (m-len)).map fun j=>D (len+j))).weights P t),k≤reachBytes:=hw;simp only[DataW.weights,ht] at hw';have hlen:(((List.range len).map D).length+((List.range (m-len)).map fun j=>D (len+j)).length)*P.bytesOf e≤reachBytes:=hw' _ (dq ..)
 have hbd:len*by_≤140737488351232:=by
  rw[hby] at hlen;simp only[bt,List.length_range] at hlen;have h1:len*by_≤(len+(m-len))*by_:=lI _ (by omega);have h2:reachBytes=140737488351232:=rfl;omega
 have hlm:len≤9223372036854775807:=eZ hlc hcm
 have key:∀i,i<len→∃a':α,good a'∧∃cs',W.cells? 0 (a.add (i*sz)) sz=some cs'∧dC (E0 (uq W)) W (f a').cells cs':=fun i hi=>by
  obtain⟨cs',h1,h2⟩:=hel i (by omega);rw[hsz] at h1;obtain⟨a',g1,g2⟩:=he n' cs' _ h2 (fun k hk=>hw' k (ew _ (np _ (tF (bK.2 ⟨i,dT.2 hi,rfl⟩) hk))));exact⟨a',g1,cs',h1,g2⟩
 obtain⟨l,hl,hq⟩:=yF key;refine⟨l,⟨fun x hx=>?_,by omega,by rw[hl];exact hbd⟩,rV ?_⟩
 ·obtain⟨i,hi⟩:=xH hx;exact(hq i x hi).1
 by_cases h0:len=0
 ·subst h0;have:l=[]:=fq.1 hl;subst this;exact .slempty _ _ _
 have hcell:∀i j,i<len→j<sz→∃v,W.cell? ((a.add (i*sz)).add j)=some v:=fun i j hi hj=>by
  obtain⟨a',_,cs',h1,h2⟩:=key i hi;unfold World.cells? at h1;rw[if_pos (bB _)] at h1;have h3:=mapM_some_get h1 j j (by simp[hj])
  have h4:j<cs'.length:=by
   have:=mapM_some_length h1;simp at this;omega
  exact⟨cs'[j],by rw[h3];simp[h4]⟩
 obtain⟨v0,hv0⟩:=hcell 0 0 (by omega) hpos;have ho:=Dd hv0;simp only[xC,Addr.add,if_true] at ho;obtain⟨blk,off,sp⟩:=a;obtain⟨ho,hsp⟩:=ho;simp only at hsp ho;subst hsp
 have hadd:∀i j,((⟨blk,off,none⟩:Addr).add (i*sz)).add j=⟨blk,off+(i*sz+j),none⟩:=fun i j=>by
  rw[ci,ci,pi]
 have hcell':∀k,k<len*sz→∃v,W.cell? ⟨blk,off+k,none⟩=some v:=fun k hk=>by
  have h1:k/sz<len:=Nat.div_lt_of_lt_mul (by rw[Nat.mul_comm];exact hk);have h2:k%sz<sz:=Nat.mod_lt _ hpos;obtain⟨v,hv⟩:=hcell (k/sz) (k%sz) h1 h2;rw[hadd,Nat.div_add_mod'] at hv;exact⟨v,hv⟩
 have hlen2:(l.map f).length=len:=by simp[hl]
 have:=Rel.sl (E:=E0 (uq W)) (w:=W) sz (l.map f) blk off m (fun k=>(W.cell? ⟨blk,off+k,none⟩).getD Go.undef) ho (by rw[hlen2];exact hlc)
  (fun x hx=>by obtain⟨b,_,rfl⟩:=bK.1 hx;exact hc b)
  (fun k hk=>by
   rw[hlen2] at hk;obtain⟨v,hv⟩:=hcell' k hk;simp only[hv,uc])
  (fun i j x y hx hy=>by
   rw[lB,Option.map_eq_some_iff] at hx;obtain⟨a',ha',rfl⟩:=hx;obtain⟨_,cs',h1,h2⟩:=hq i a' ha'
   have hj:j<sz:=by
    have:=(bQ.1 hy).1
    rwa [hc] at this
   have hi:i<len:=by
    have:=(bQ.1 ha').1;omega
   unfold World.cells? at h1;rw[if_pos (bB _)] at h1;have h3:=mapM_some_get h1 j j (by simp[hj])
   have h4:j<cs'.length:=by
    have:=mapM_some_length h1;simp at this;omega
   rw[hadd] at h3;have h5:cs'[j]?=some cs'[j]:=by simp[h4]
   rw[h5] at h3;simp only[h3,uc];exact h2.2 j y _ hy h5)
 rw[hlen2] at this;exact this
def wC(enc:TypeId×Value→H)(P:Program)(W:World)(fs:List Field)(off:Nat){α:Type}(g:α→List AV)(good:α→Prop):Prop:=
 ∀(n tot:Nat)(cs:List Value)(ys:List (DataW H×List MemPlace)),ys.length=fs.length→(∀(i:Nat)(f:Field),fs[i]?=some f→DataW.trod enc P W 0 (fun _=>true) true n f.type ((cs.drop f.offset).take (P.cellsOf f.type))=ys[i]?)→
  (∀k∈DataW.weightsEach P (fs.map fun f:Field=>f.type) (ys.map (·.1)),k≤reachBytes)→cs.length=tot→tot=off+(fs.map fun f:Field=>P.cellsOf f.type).sum→∃a:α,good a∧dC (E0 (uq W)) W (g a) (cs.drop off)
theorem ua{off:Nat}:wC enc P W [] off (fun _:Unit=>[]) (fun _=>True):=fun n tot cs ys _ _ _ h1 h2=>by
 refine⟨(),trivial,?_⟩;rw[EZ (by simp at h2;omega)];exact⟨rfl,fun i a b h=>by simp at h⟩
theorem mC{fd:Field}{fs:List Field}{off off':Nat}{α β:Type}{f:α→AV}{g:β→List AV}{good:α→Prop}{good':β→Prop}(ho:fd.offset=off)(ho':off+P.cellsOf fd.type=off')
    (h:fc enc P W fd.type f good) (h':wC enc P W fs off' g good'):wC enc P W (fd::fs) off (fun a:α×β=>(f a.1).cells++g a.2) (fun a=>good a.1∧good' a.2):=fun n tot cs ys hl hy hw h1 h2=>by
 obtain⟨y,ys,rfl⟩:∃y ys',ys=y::ys':=by
  cases ys with
  |nil=>simp at hl
  |cons y ys=>exact⟨y,ys,rfl⟩
 have hy0:=hy 0 fd rfl;simp only[tP] at hy0;rw[ho] at hy0;simp only[fB,DataW.weightsEach] at hw;obtain⟨a,g1,g2⟩:=h n _ y hy0 (fun k hk=>hw k (np _ hk));simp only[fB,List.sum_cons] at h2
 obtain ⟨b,g3,g4⟩:=h' n tot cs ys (by simpa using hl) (fun i f hf=>by
  have:=hy (i+1) f (by simpa using hf);simpa using this) (fun k hk=>hw k (ng _ hk)) h1 (by omega)
 refine⟨(a,b),⟨g1,g3⟩,?_⟩
 have e:cs.drop off=(cs.drop off).take (P.cellsOf fd.type)++cs.drop off':=by
  rw[←ho',←List.drop_drop,F3]
 rw[e];exact dC.app g2 g4
theorem og{t:TypeId}{fs:Array Field}{α:Type}{g:α→List AV}{good:α→Prop}(ht:P.underlying t=some (.struct fs))(hsum:P.cellsOf t=(fs.toList.map fun f:Field=>P.cellsOf f.type).sum)
    (h:wC enc P W fs.toList 0 g good):fc enc P W t (fun a=>.agg (g a)) good:=fun n cs x hx hw=>by
 obtain⟨ys,n',rfl,rfl,hl,hs,hy⟩:=DataW.trod_struct ht hx
 obtain ⟨a,g1,g2⟩:=h n' _ cs ys (by rw [hs]; simp) (fun i f hf=>hy i f (by simpa using hf)) (fun k hk=>hw k (by
  simp only[DataW.weights,ht];exact hk)) hl (by rw[ce,hsum])
 exact⟨a,g1,by rw[List.drop_zero] at g2;exact g2⟩
theorem fc.map{t:TypeId}{α β:Type}{f:α→AV}{good:α→Prop}{f':β→AV}{good':β→Prop}(h:fc enc P W t f good)(φ:α→β)(hg:∀a,good a→good' (φ a))(hf:∀a,good a→(f' (φ a)).cells=(f a).cells):fc enc P W t f' good':=fun n cs x hx hw=>by
 obtain⟨a,h1,h2⟩:=h n cs x hx hw;exact⟨φ a,hg a h1,by rw[hf a h1];exact h2⟩
theorem fc.at{t u:TypeId}{α:Type}{f:α→AV}{good:α→Prop}(e:t=u)(h:fc enc P W u f good):fc enc P W t f good:=e▸h
theorem fc.argA{t:TypeId}{α:Type}{f:α→AV}{good:α→Prop}(h:fc enc P W t f good){r:Reach}{base:Nat}{v:Value}{d:DataW H}{ps:List MemPlace}(ht:pc P t=true)(hf:∀a,∃cs,f a=.agg cs)
    (hval:Value.okWide P W r base t v) (hd:DataW.Trod enc P W 0 (fun _=>true) true t v d ps) (hw:∀k∈d.weights P t,k≤reachBytes):∃a,good a∧Rel (E0 (uq W)) W (f a) v:=by
 obtain⟨n,hn⟩:=hd;obtain⟨a,h1,h2⟩:=h n _ _ hn hw;refine⟨a,h1,?_⟩
 obtain⟨cs,hcs,_⟩:∃cs,v=.agg cs∧True:=by
  unfold Value.okWide at hval;unfold pc at ht;split at hval
  ·obtain⟨cs,h,_⟩:=hval;exact⟨cs,h,trivial⟩
  ·obtain⟨cs,h,_⟩:=hval;exact⟨cs,h,trivial⟩
  ·rename_i k1 k2;revert ht;cases hu:P.underlying t with
   |none=>simp
   |some u=>
    cases u with
    |struct fs=>exact absurd hu (k1 fs)
    |array m e=>exact absurd hu (k2 m e)
    |_=>simp
 subst hcs;obtain⟨xs,hx⟩:=hf a;rw[hx] at h2 ⊢;exact .agg xs cs.toList h2.1 h2.2
theorem fc.arg1{t:TypeId}{α:Type}{f:α→AV}{good:α→Prop}(h:fc enc P W t f good){v:Value}{d:DataW H}{ps:List MemPlace}(hf:∀a,(f a).cells=[f a])(hv:v.cells=#[v])
    (hd:DataW.Trod enc P W 0 (fun _=>true) true t v d ps) (hw:∀k∈d.weights P t,k≤reachBytes):∃a,good a∧Rel (E0 (uq W)) W (f a) v:=by
 obtain⟨n,hn⟩:=hd;obtain⟨a,h1,h2⟩:=h n _ _ hn hw;rw[hf,hv] at h2;exact⟨a,h1,h2.2 0 _ _ rfl rfl⟩
theorem Dg{t:TypeId}{r:Reach}{base:Nat}{v:Value}(ht:pc P t=false)(hval:Value.okWide P W r base t v):v.cells=#[v]:=by
 cases v<;>try rfl
 rename_i cs;exfalso;unfold Value.okWide at hval;unfold pc at ht;cases hu:P.underlying t with
 |none=>simp only[hu,Cell.okWide,Cell.ok] at hval
 |some u=>
  rw[hu] at ht;cases u<;>simp only[hu,Cell.okWide,Cell.ok] at hval<;>simp at ht
theorem nC(hl:laidOutB P=true){W':World}(hb:Below W.heap.size W W'){sp:Nat→Bool}:∀{ts:List TypeId}{vs:List Value}{ds:List (DataW H)}{ps:List MemPlace},(∀t∈ts,P.readableRec t=true∧t<P.types.size)→
    DataW.TrodAll enc P W 0 (fun _=>true) true ts vs ds ps→(∀p∈ps,p.block<W.heap.size)→(∀p∈ps,sp p.block=true)→DataW.TrodAll enc P W' 0 sp true ts vs ds ps
 |[],[],[],ps,_,h,_,_=>h
 |t::ts,v::vs,d::ds,ps,hr,⟨p,q,h1,h2,e⟩,hlt,hsp=>by
  subst e
  exact ⟨p,q,WideElems.Trod_stays hl (hr t (dq ..)).1 (hr t (dq ..)).2 h1 (fun x hx=>hb.same (hlt x (np _ hx))) (fun x hx=>hsp x (np _ hx)),
   nC hl hb (fun t ht=>hr t (ew _ ht)) h2 (fun x hx=>hlt x (ng _ hx)) (fun x hx=>hsp x (ng _ hx)),rfl⟩
 |[],_::_,_,_,_,h,_,_=>h.elim
 |[],[],_::_,_,_,h,_,_=>h.elim
 |_::_,[],_,_,_,h,_,_=>h.elim
 |_::_,_::_,[],_,_,h,_,_=>h.elim
theorem mG:∀{ts:List TypeId}{ds:List (DataW H)}{i:Nat}{t:TypeId}{d:DataW H},ts[i]?=some t→ds[i]?=some d→∀k∈d.weights P t,k∈DataW.weightsEach P ts ds
 |t::ts,d::ds,0,_,_,h1,h2,k,hk=>by
  simp at h1 h2;subst h1 h2;unfold DataW.weightsEach;exact np _ hk
 |t::ts,d::ds,i+1,_,_,h1,h2,k,hk=>by
  unfold DataW.weightsEach;exact ng _ (mG (ts:=ts) (ds:=ds) (by simpa using h1) (by simpa using h2) k hk)
 |[],_,i,_,_,h1,_,_,_=>by simp at h1
 |_::_,[],i,_,_,_,h2,_,_=>by simp at h2
end
end Go.Abs
namespace Go.Proofs.YtekdaafnjdlenaaGreat
open Go Go.Abs Go.Abs.C2 Go.Abs.Ins Go.Abs.Opd Go.Abs.TK Go.Abs.MK
def cO(d:Nat)(i:Ins):Op2:=Op2.mk (some d) none i
def cG(d g:Nat)(b:Bool)(i:Ins):Op2:=Op2.mk (some d) (some (g,b)) i
def cN(k:Int):Opd:=Opd.c (AV.int IntKind.i64 k)
def cM(n:Nat):Ins:=Ins.mov (Opd.t n)
def cD(n:Nat):Ins:=Ins.ld1 (Opd.t n)
def cF(n:Nat):Opd:=Opd.c (AV.func n [])
def cB(o:BinOp)(x y:Opd):Ins:=Ins.bin o false false x y
def bd:Opd:=Opd.c (AV.bool false)
def cP:Opd:=Opd.c (AV.bool true)
def aa(d s:Nat):Op2:=Op2.mk (some d) none (Ins.mov (Opd.t s))
def aE(d s:Nat):Op2:=Op2.mk (some d) none (Ins.ld1 (Opd.t s))
def bj(d n s:Nat):Op2:=Op2.mk (some d) none (Ins.ldn n (Opd.t s))
def a9(d s:Nat):Op2:=Op2.mk (some d) none (Ins.lenS (Opd.t s))
def bL(d n s:Nat):Op2:=Op2.mk (some d) none (Ins.fa n (Opd.t s))
def aW(d s n:Nat):Op2:=Op2.mk (some d) none (Ins.ext (Opd.t s) n)
def aH(d f:Nat)(l:List Opd):Op2:=Op2.mk (some d) none (Ins.call (Opd.c (AV.func f [])) l)
def aN(d:Nat)(o:BinOp)(x y:Nat):Op2:=Op2.mk (some d) none (Ins.bin o false false (Opd.t x) (Opd.t y))
def ap(d:Nat)(o:BinOp)(x:Nat)(y:Int):Op2:=Op2.mk (some d) none (Ins.bin o false false (Opd.t x) (Opd.c (AV.int IntKind.i64 y)))
def bw(n p v:Nat):Op2:=Op2.mk none none (Ins.st n (Opd.t p) (Opd.t v))
def bi(d g:Nat)(i:Ins):Op2:=Op2.mk (some d) (some (g,false)) i
def an(d g:Nat)(i:Ins):Op2:=Op2.mk (some d) (some (g,true)) i
def au(n:Nat)(x y:C2):C2:=C2.cond (Opd.t n) x y
def ab(l:List Op2)(x:C2):C2:=C2.seq (C2.ops 0 l) x
def a8:AV:=AV.int IntKind.i64 0
theorem aG:(∀(d:Nat)(i:Ins),cO d i=Op2.mk (some d) none i)∧(∀(d g:Nat)(b:Bool)(i:Ins),cG d g b i=Op2.mk (some d) (some (g,b)) i)∧(∀(k:Int),cN k=Opd.c (AV.int IntKind.i64 k))∧(∀(n:Nat),cM n=Ins.mov (Opd.t n))∧(∀(n:Nat),cD n=Ins.ld1 (Opd.t n))∧(∀(n:Nat),cF n=Opd.c (AV.func n []))∧(∀(o:BinOp)(x y:Opd),cB o x y=Ins.bin o false false x y)∧(bd=Opd.c (AV.bool false))∧(cP=Opd.c (AV.bool true))∧(∀(d s:Nat),aa d s=Op2.mk (some d) none (Ins.mov (Opd.t s)))∧(∀(d s:Nat),aE d s=Op2.mk (some d) none (Ins.ld1 (Opd.t s)))∧(∀(d n s:Nat),bj d n s=Op2.mk (some d) none (Ins.ldn n (Opd.t s)))∧(∀(d s:Nat),a9 d s=Op2.mk (some d) none (Ins.lenS (Opd.t s)))∧(∀(d n s:Nat),bL d n s=Op2.mk (some d) none (Ins.fa n (Opd.t s)))∧(∀(d s n:Nat),aW d s n=Op2.mk (some d) none (Ins.ext (Opd.t s) n))∧(∀(d f:Nat)(l:List Opd),aH d f l=Op2.mk (some d) none (Ins.call (Opd.c (AV.func f [])) l))∧(∀(d:Nat)(o:BinOp)(x y:Nat),aN d o x y=Op2.mk (some d) none (Ins.bin o false false (Opd.t x) (Opd.t y)))∧(∀(d:Nat)(o:BinOp)(x:Nat)(y:Int),ap d o x y=Op2.mk (some d) none (Ins.bin o false false (Opd.t x) (Opd.c (AV.int IntKind.i64 y))))∧(∀(n p v:Nat),bw n p v=Op2.mk none none (Ins.st n (Opd.t p) (Opd.t v)))∧(∀(d g:Nat)(i:Ins),bi d g i=Op2.mk (some d) (some (g,false)) i)∧(∀(d g:Nat)(i:Ins),an d g i=Op2.mk (some d) (some (g,true)) i)∧(∀(n:Nat)(x y:C2),au n x y=C2.cond (Opd.t n) x y)∧(∀(l:List Op2)(x:C2),ab l x=C2.seq (C2.ops 0 l) x)∧(a8=AV.int IntKind.i64 0):=⟨fun _ _=>rfl,fun _ _ _ _=>rfl,fun _=>rfl,fun _=>rfl,fun _=>rfl,fun _=>rfl,fun _ _ _=>rfl,rfl,rfl,fun _ _=>rfl,fun _ _=>rfl,fun _ _ _=>rfl,fun _ _=>rfl,fun _ _ _=>rfl,fun _ _ _=>rfl,fun _ _ _=>rfl,fun _ _ _ _=>rfl,fun _ _ _ _=>rfl,fun _ _ _=>rfl,fun _ _ _=>rfl,fun _ _ _=>rfl,fun _ _ _=>rfl,fun _ _=>rfl,rfl⟩
theorem mkI{P:Program}{f:FuncId}{F:F2}{fn:Func}(h1:P.funcs[f]?=some fn)(h2:xO P fn=some F:=by kernel_rfl):Is P f F:=Is.mk' h1 h2
theorem follows:Tryz.prog.follows .mixedOrders=true:=by rfl
abbrev pU:=@Go.Abs.Pure Tryz.prog
theorem pO{f:FuncId}{F:F2}{args:List AV}{r:AV}(hf:Is Tryz.prog f F)(hb:aJ Tryz.prog F.body (T0 args) bP 0 fun e T H nx=>aQ e.ends (bk T H (fun x=>Snap H x r) F.res))(hl:args.length≤F.n:=by exact Nat.le_of_ble_eq_true rfl):Go.Abs.Pure Tryz.prog f args r:=Go.Abs.Pure.of_c2 follows hf hl hb
theorem fO{f:FuncId}{F:F2}{args:List AV}{H:Hp}{nx:Nat}{K:AV→Hp→Nat→Prop}(hf:Is Tryz.prog f F)(hb:aJ Tryz.prog F.body (T0 args) H nx fun e T H nx=>aQ e.ends (bk T H (fun x=>K x H nx) F.res))(hl:args.length≤F.n:=by exact Nat.le_of_ble_eq_true rfl):Go.Abs.Fn Tryz.prog f args H nx K:=Go.Abs.Fn.of_c2 follows hf hl hb
theorem qO{f:FuncId}{F:F2}{args:List AV}{r:AV}(hf:Is Tryz.prog f F)(hb:aJ Tryz.prog F.body (T0 args) bP 0 fun e T H nx=>aQ e.ends (bk T H (fun x=>SnapF H x r) F.res))(hl:args.length≤F.n:=by exact Nat.le_of_ble_eq_true rfl):Go.Abs.PureF Tryz.prog f args r:=Go.Abs.PureF.of_c2 follows hf hl hb
def b3:F2:=(F2.mk 60 [RV.t 4] (ab [cO 2 (box (t 0)),cO 4 (mov bd)] ((ab [bj 13 1 2,aH 14 11 [t 13,c AV.esl],cO 15 (un UnOp.not (t 14))] (au 15 (ab [aH 16 12 [],aa 4 16] ret) skip)).seq (ab [bj 18 1 2,aH 19 13 [t 18],aa 17 19,aW 20 17 0,aW 21 17 1,aa 5 20,aa 6 21] (ab [bj 23 1 2,aH 24 14 [t 23],aa 22 24,aW 25 22 0,aW 26 22 1,aa 7 25,aa 8 26] (ab [bj 28 1 2,aa 29 1,aH 30 15 [t 28,t 29],aa 27 30,aW 31 27 0,aW 32 27 1,aa 9 31,aa 10 32] (ab [bj 34 1 2,aa 35 1,aH 36 16 [t 34,t 35],aa 33 36,aW 37 33 0,aW 38 33 1,aa 11 37,aa 12 38] (ab [aH 39 12 [],aa 40 39,an 41 40 (cM 5),an 42 40 (cM 7),an 43 40 (call (cF 17) [t 41,t 42]),cO 44 (pick (t 40) (t 43) bd),aa 45 44,an 46 45 (cM 6),an 47 45 (cM 8),an 48 45 (cB .eql (t 46) (t 47)),cO 49 (pick (t 45) (t 48) bd),aa 50 49,an 51 50 (cM 9),an 52 50 (cM 11),an 53 50 (bin BinOp.eql true false (t 51) (t 52)),cO 54 (pick (t 50) (t 53) bd),aa 55 54,an 56 55 (cM 10),an 57 55 (cM 12),an 58 55 (cB .eql (t 56) (t 57)),cO 59 (pick (t 55) (t 58) bd),aa 4 59] ret))))))))
theorem is3:Is Tryz.prog 3 b3:=mkI Tryz.func3
def b11:F2:=(F2.mk 40 [RV.t 4] (ab [cO 2 (box (t 0)),cO 4 (mov bd)] ((ab [aa 10 1,a9 11 10,cO 12 (mov (cN 0))] (block 0 (ab [aN 13 .lss 12 11] ((au 13 skip (exit 0)).seq ((block 1 (ab [cO 14 (ixaS 1 (t 10) (t 12)),aE 15 14,aa 6 15] (ab [aa 16 6,aH 17 40 [t 16],cO 18 (un UnOp.not (t 17))] (au 18 (ab [cO 4 (mov bd)] ret) skip)))).seq (ops 0 [ap 19 .add 12 1,aa 12 19])))).loop)).seq (ab [cO 7 (mov (cN 0))] ((ab [bL 20 0 2,aE 21 20,a9 22 21,cO 23 (mov (cN 0))] (block 2 (ab [aN 24 .lss 23 22] ((au 24 skip (exit 2)).seq ((block 3 (ab [cO 25 (ixaS 1 (t 21) (t 23)),aE 26 25,aa 9 26] (ops 0 [aa 27 7,aa 28 9,a9 29 28,cO 30 (mn (t 29) [cN ((10))]),cO 31 (cB .shl (cN 1) (t 30)),aN 32 .add 27 31,aa 7 32]))).seq (ops 0 [ap 33 .add 23 1,aa 23 33])))).loop)).seq (ab [bj 34 1 2,aH 35 41 [t 34],aa 36 35,an 37 36 (cM 7),an 38 36 (cB .leq (t 37) (cN 400)),cO 39 (pick (t 36) (t 38) bd),aa 4 39] ret))))))
theorem Nq:Is Tryz.prog 11 b11:=mkI Tryz.func11
def b12:F2:=(F2.mk 193 [RV.t 0] (ab [cO 0 (mov bd)] (ab [cO 21 (bldS 1 2 [a8] [(0,1,cN ((0))),(1,1,cN ((1)))]),aH 22 42 [t 21],cO 23 (bldS 1 2 [a8] [(0,1,cN ((0))),(1,1,cN ((2)))]),aH 24 42 [t 23],cO 25 (bldS 1 2 [a8] [(0,1,cN ((1))),(1,1,cN ((2)))]),aH 26 42 [t 25],cO 27 (bldS 1 3 [AV.esl] [(0,1,t 22),(1,1,t 24),(2,1,t 26)]),aa 1 27] (ab [aa 28 1,cO 29 (bld [AV.esl] [(0,1,t 28)]),cO 30 (bldS 1 3 [a8] [(0,1,cN ((0))),(1,1,cN ((1))),(2,1,cN ((2)))]),aH 31 42 [t 30],cO 32 (bldS 1 1 [AV.esl] [(0,1,t 31)]),cO 33 (bld [AV.esl] [(0,1,t 32)]),cO 2 (alloc (AV.agg [AV.esl])),cO 3 (alloc (AV.agg [AV.esl])),bw 1 2 29,bw 1 3 33] (ab [cO 34 (bldS 1 3 [a8] [(0,1,cN ((0))),(1,1,cN ((1))),(2,1,cN ((2)))]),aH 35 42 [t 34],cO 36 (bldS 1 3 [a8] [(0,1,cN ((0))),(1,1,cN ((1))),(2,1,cN ((3)))]),aH 37 42 [t 36],cO 38 (bldS 1 3 [a8] [(0,1,cN ((0))),(1,1,cN ((2))),(2,1,cN ((3)))]),aH 39 42 [t 38],cO 40 (bldS 1 3 [a8] [(0,1,cN ((1))),(1,1,cN ((2))),(2,1,cN ((3)))]),aH 41 42 [t 40],cO 42 (bldS 1 4 [AV.esl] [(0,1,t 35),(1,1,t 37),(2,1,t 39),(3,1,t 41)]),cO 43 (bld [AV.esl] [(0,1,t 42)]),cO 4 (alloc (AV.agg [AV.esl])),bw 1 4 43] (ab [bj 45 1 2,aH 46 13 [t 45],aa 44 46,aW 47 44 0,aW 48 44 1,aa 5 47,aa 6 48] (ab [bj 50 1 3,aH 51 13 [t 50],aa 49 51,aW 52 49 0,aW 53 49 1,aa 7 52,aa 8 53] (ab [bj 55 1 4,aH 56 13 [t 55],aa 54 56,aW 57 54 0,aW 58 54 1,aa 9 57,aa 10 58] (ab [bj 60 1 2,aH 61 18 ([t 60,cN ((1))]),aa 59 61,aW 62 59 0,aW 63 59 1,aa 11 62,aa 12 63] ((ab [aa 64 6,aa 65 8,aN 66 .add 64 65,aa 67 10,aN 68 .add 66 67,aa 69 12,aN 70 .add 68 69,ap 71 .neq 70 0,aa 72 71,bi 73 72 (cM 5),bi 74 72 (bldS 1 2 [a8] [(0,1,cN ((1))),(1,1,cN ((1)))]),bi 75 72 (call (cF 17) [t 73,t 74]),bi 76 72 (un UnOp.not (t 75)),cO 77 (pick (t 72) cP (t 76)),aa 78 77,bi 79 78 (cM 7),bi 80 78 (bldS 1 3 [a8] [(0,1,cN ((1))),(1,1,cN ((0))),(2,1,cN ((0)))]),bi 81 78 (call (cF 17) [t 79,t 80]),bi 82 78 (un UnOp.not (t 81)),cO 83 (pick (t 78) cP (t 82)),aa 84 83,bi 85 84 (cM 9),bi 86 84 (bldS 1 3 [a8] [(0,1,cN ((1))),(1,1,cN ((0))),(2,1,cN ((1)))]),bi 87 84 (call (cF 17) [t 85,t 86]),bi 88 84 (un UnOp.not (t 87)),cO 89 (pick (t 84) cP (t 88)),aa 90 89,bi 91 90 (cM 11),bi 92 90 (lenS (t 91)),bi 93 90 (cB .neq (t 92) (cN 1)),cO 94 (pick (t 90) cP (t 93)),aa 95 94,bi 96 95 (cM 11),bi 97 95 (ixaS 1 (t 96) (cN 0)),bi 98 95 (cD 97),bi 99 95 (cM 1),bi 100 95 (call (cF 23) [t 98,t 99]),bi 101 95 (un UnOp.not (t 100)),cO 102 (pick (t 95) cP (t 101))] (au 102 (ab [cO 0 (mov bd)] ret) skip)).seq (ab [bj 104 1 2,aa 105 1,aH 106 21 [t 104,t 105],aa 103 106,aW 107 103 0,aW 108 103 1,aW 109 103 2,aW 110 103 3,aa 13 107,aa 14 108,aa 15 109,aa 6 110] (ab [bj 112 1 3,aa 113 1,aH 114 21 [t 112,t 113],aa 111 114,aW 115 111 0,aW 116 111 1,aW 117 111 2,aW 118 111 3,aa 16 115,aa 17 116,aa 18 117,aa 8 118] (ab [bj 120 1 4,aH 121 15 ([t 120,cN ((1))]),aa 119 121,aW 122 119 0,aW 123 119 1,aa 19 122,aa 10 123] (ab [bj 125 1 4,aH 126 15 ([t 125,cN ((2))]),aa 124 126,aW 127 124 0,aW 128 124 1,aa 20 127,aa 12 128] ((ab [aa 129 6,aa 130 8,aN 131 .add 129 130,aa 132 10,aN 133 .add 131 132,aa 134 12,aN 135 .add 133 134,ap 136 .neq 135 0,aa 137 136,bi 138 137 (cM 15),cO 139 (pick (t 137) cP (t 138)),aa 140 139,bi 141 140 (cM 18),bi 142 140 (un UnOp.not (t 141)),cO 143 (pick (t 140) cP (t 142)),aa 144 143,bi 145 144 (cM 19),bi 146 144 (un UnOp.not (t 145)),cO 147 (pick (t 144) cP (t 146)),aa 148 147,bi 149 148 (cM 20),cO 150 (pick (t 148) cP (t 149)),aa 151 150,bi 152 151 (cM 16),bi 153 151 (bldS 1 3 [a8] [(0,1,cN ((0))),(1,1,cN ((1))),(2,1,cN ((2)))]),bi 154 151 (call (cF 42) [t 153]),bi 155 151 (bldS 1 1 [AV.esl] [(0,1,t 154)]),bi 156 151 (call (cF 23) [t 152,t 155]),bi 157 151 (un UnOp.not (t 156)),cO 158 (pick (t 151) cP (t 157))] (au 158 (ab [cO 0 (mov bd)] ret) skip)).seq ((mix 1 [bj 159 1 2,aa 160 1,aa 161 14,aH 162 27 [t 159,t 160,t 161],ap 163 .eql 162 0,aa 164 163,an 165 164 (ldn 1 (t 2)),an 166 164 (cM 1),an 167 164 (cM 1),an 168 164 (sls 1 (t 167) (some (cN 2)) none none),an 169 164 (call (cF 27) [t 165,t 166,t 168]),an 170 164 (cB .eql (t 169) (cN 0)),cO 171 (pick (t 164) (t 170) bd),aa 172 171,an 173 172 (ldn 1 (t 3)),an 174 172 (cM 1),an 175 172 (cM 1),an 176 172 (sls 1 (t 175) (some (cN 2)) none none),an 177 172 (call (cF 27) [t 173,t 174,t 176]),an 178 172 (cB .eql (t 177) (cN 18)),cO 179 (pick (t 172) (t 178) bd),aa 180 179,an 181 180 (ldn 1 (t 3)),an 182 180 (cM 1),an 183 180 (cM 16),an 184 180 (call (cF 25) [t 181,t 182,t 183]),an 185 180 (cB .eql (t 184) (cN 0)),cO 186 (pick (t 180) (t 185) bd),aa 187 186,an 188 187 (ldn 1 (t 2)),an 189 187 (cM 1),an 190 187 (call (cF 25) [t 188,t 189,c AV.esl]),an 191 187 (cB .eql (t 190) (cN 18)),cO 192 (pick (t 187) (t 191) bd),aa 0 192] [1,2,0,3,4,5,7,8,9,6,10,11,12,13,15,16,17,14,18,19,20,21,23,24,22,25,26,27,28,30,29,31,32,33,34]).seq ret))))))))))))))))
theorem NP:Is Tryz.prog 12 b12:=mkI Tryz.func12
def b13:F2:=(F2.mk 14 [RV.t 2,RV.t 3] (ab [cO 1 (box (t 0)),cO 2 (mov (c AV.esl)),cO 3 (mov (cN 0))] ((ab [bj 5 1 1,aH 6 43 [t 5],aa 4 6] (ab [aa 7 4,ap 8 .neq 7 0] (au 8 (ab [aa 9 4,cO 2 (mov (c AV.esl)),aa 3 9] ret) skip))).seq (ab [bj 10 1 1,aH 11 44 [t 10],aW 12 11 0,aW 13 11 1,aa 2 12,aa 3 13] ret))))
theorem K0:Is Tryz.prog 13 b13:=mkI Tryz.func13
def b14:F2:=(F2.mk 31 [RV.t 2,RV.t 3] (ab [cO 1 (box (t 0)),cO 2 (mov (c AV.esl)),cO 3 (mov (cN 0))] ((ab [bj 9 1 1,aH 10 45 [t 9],aa 4 10] (ab [aa 11 4,ap 12 .neq 11 0] (au 12 (ab [aa 13 4,cO 2 (mov (c AV.esl)),aa 3 13] ret) skip))).seq (ab [bj 15 1 1,aH 16 46 [t 15],aa 14 16,aW 17 14 0,aW 18 14 1,aa 5 17,aa 6 18] (ab [cO 7 (mov (c AV.esl))] ((ab [cO 8 (mov (cN 0))] (block 0 ((ab [aa 19 8,aa 20 5,aN 21 .leq 19 20] (au 21 skip (exit 0))).seq ((block 1 (ops 0 [aa 24 7,bj 25 1 1,aa 26 8,aH 27 47 [t 25,t 26],cO 28 (bldS 1 1 [a8] [(0,1,t 27)]),cO 29 (app 1 8 (t 24) (t 28)),aa 7 29])).seq (ops 0 [aa 22 8,ap 23 .add 22 1,aa 8 23]))).loop)).seq (ab [aa 30 7,aa 2 30,cO 3 (mov (cN 0))] ret)))))))
theorem Ls:Is Tryz.prog 14 b14:=mkI Tryz.func14
def b15:F2:=(F2.mk 47 [RV.t 4,RV.t 5] (ab [cO 2 (box (t 0)),cO 4 (mov bd),cO 5 (mov (cN 0))] ((ab [bj 9 1 2,aH 10 43 [t 9],aa 6 10] (ab [aa 11 6,ap 12 .neq 11 0] (au 12 (ab [aa 13 6,cO 4 (mov bd),aa 5 13] ret) skip))).seq ((ab [aa 14 1,cO 15 (cB .lss (t 14) (cN ((-1)))),aa 16 15,bi 17 16 (cM 1),bi 18 16 (cB .geq (t 17) (cN 8)),cO 19 (pick (t 16) cP (t 18))] (au 19 (ab [cO 4 (mov bd),cO 5 (mov (cN 2))] ret) skip)).seq (ab [bj 21 1 2,aH 22 44 [t 21],aa 20 22,aW 23 20 0,aW 24 20 1,aa 7 23,aa 8 24] ((ab [aa 25 8,ap 26 .neq 25 0,aa 27 26,bi 28 27 (cM 7),bi 29 27 (lenS (t 28)),bi 30 27 (cB .eql (t 29) (cN 0)),cO 31 (pick (t 27) cP (t 30))] (au 31 (ab [aa 32 8,cO 4 (mov bd),aa 5 32] ret) skip)).seq (ab [aa 33 7,cO 34 (ixaS 1 (t 33) (cN 0)),aE 35 34,ap 36 .sub 35 1,cO 37 (ixaS 1 (t 33) (cN 0)),bw 1 37 36] (ab [aa 38 7,aa 39 1,ap 40 .add 39 1,aa 41 7,a9 42 41,cO 43 (mn (t 40) [t 42]),cO 44 (sls 1 (t 38) none (some (t 43)) none),aH 45 48 ([t 44,c (AV.func 49 [])]),cO 46 (un UnOp.not (t 45)),aa 4 46,cO 5 (mov (cN 0))] ret))))))))
theorem KX:Is Tryz.prog 15 b15:=mkI Tryz.func15
def b16:F2:=(F2.mk 41 [RV.t 4,RV.t 5] (ab [cO 2 (box (t 0)),cO 4 (mov bd),cO 5 (mov (cN 0))] ((ab [bj 8 1 2,aH 9 45 [t 8],aa 6 9] (ab [aa 10 6,ap 11 .neq 10 0] (au 11 (ab [aa 12 6,cO 4 (mov bd),aa 5 12] ret) skip))).seq ((ab [aa 13 1,cO 14 (cB .lss (t 13) (cN ((-1)))),aa 15 14,bi 16 15 (cM 1),bi 17 15 (cB .geq (t 16) (cN 8)),cO 18 (pick (t 15) cP (t 17))] (au 18 (ab [cO 4 (mov bd),cO 5 (mov (cN 2))] ret) skip)).seq ((ab [bL 19 0 2,aE 20 19,a9 21 20,ap 22 .eql 21 0,aa 23 22,bi 24 23 (cM 1),bi 25 23 (cB .geq (t 24) (cN 0)),bi 26 23 (cM 25),an 27 26 (ldn 1 (t 2)),an 28 26 (call (cF 47) [t 27,cN ((0))]),an 29 26 (cB .neq (t 28) (cN 1)),bi 30 23 (pick (t 26) (t 29) bd),cO 31 (pick (t 23) cP (t 30))] (au 31 (ab [cO 4 (mov bd),cO 5 (mov (cN 0))] ret) skip)).seq ((ab [cO 7 (mov (cN 1))] (block 0 ((ab [aa 32 7,aa 33 1,aN 34 .leq 32 33] (au 34 skip (exit 0))).seq ((block 1 (ab [bj 37 1 2,aa 38 7,aH 39 47 [t 37,t 38],ap 40 .neq 39 0] (au 40 (ab [cO 4 (mov bd),cO 5 (mov (cN 0))] ret) skip))).seq (ops 0 [aa 35 7,ap 36 .add 35 1,aa 7 36]))).loop)).seq (ab [cO 4 (mov cP),cO 5 (mov (cN 0))] ret)))))))
theorem KZ:Is Tryz.prog 16 b16:=mkI Tryz.func16
def b17:F2:=(F2.mk 26 [RV.t 4] (ab [cO 4 (mov bd)] ((ab [aa 6 0,a9 7 6,aa 8 1,a9 9 8,aN 10 .neq 7 9] (au 10 (ab [cO 4 (mov bd)] ret) skip)).seq ((ab [aa 11 0,a9 12 11,cO 13 (mov (cN 0))] (block 0 (ab [aN 14 .lss 13 12] ((au 14 skip (exit 0)).seq ((block 1 (ab [aa 15 13,aa 5 15] ((ops 1 [aa 16 0,aa 17 5,cO 18 (ixaS 1 (t 16) (t 17)),aE 19 18,aa 20 1,aa 21 5,cO 22 (ixaS 1 (t 20) (t 21)),aE 23 22,aN 24 .neq 19 23]).seq (au 24 (ab [cO 4 (mov bd)] ret) skip)))).seq (ops 0 [ap 25 .add 13 1,aa 13 25])))).loop)).seq (ab [cO 4 (mov cP)] ret)))))
theorem Nu:Is Tryz.prog 17 b17:=mkI Tryz.func17
def b18:F2:=(F2.mk 46 [RV.c1 4,RV.c1 5] (ab [cO 2 (box (t 0)),cO 3 (box (t 1)),cO 4 (alloc AV.esl),cO 5 (alloc (a8))] ((ab [bj 12 1 2,aH 13 43 [t 12],aa 6 13] (ab [aa 14 6,ap 15 .neq 14 0] (au 15 (ab [aa 16 6,Op2.mk none none (Ins.st 1 (t 4) (c AV.esl)),bw 1 5 16] ret) skip))).seq ((ab [aE 17 3,ap 18 .lss 17 0,aa 19 18,bi 20 19 (cD 3),bi 21 19 (cB .geq (t 20) (cN 8)),cO 22 (pick (t 19) cP (t 21))] (au 22 (ab [Op2.mk none none (Ins.st 1 (t 4) (c AV.esl)),Op2.mk none none (Ins.st 1 (t 5) (cN 2))] ret) skip)).seq (ab [cO 7 (alloc AV.esl)] ((ab [bj 23 1 2,aE 24 3,aH 25 50 [t 23,t 24]] (block 0 (rangeF (t 25) [26,27] (ab [aa 8 26] (ops 0 [aa 9 27])) (block 1 ((ab [aa 28 9,ap 29 .neq 28 0] (au 29 (ab [aa 30 9,Op2.mk none none (Ins.st 1 (t 4) (c AV.esl)),bw 1 5 30] ret) skip)).seq (ab [bj 32 1 2,aE 33 3,aa 34 8,aH 35 34 [t 32,t 33,t 34],aa 31 35,aW 36 31 0,aW 37 31 1,aa 10 36,aa 11 37] ((ab [aa 38 11,ap 39 .neq 38 0] (au 39 (ab [aa 40 11,Op2.mk none none (Ins.st 1 (t 4) (c AV.esl)),bw 1 5 40] ret) skip)).seq (ops 0 [aE 41 7,aa 42 10,cO 43 (bldS 1 1 [AV.esl] [(0,1,t 42)]),cO 44 (app 1 24 (t 41) (t 43)),bw 1 7 44])))))))).seq (ab [aE 45 7,bw 1 4 45,Op2.mk none none (Ins.st 1 (t 5) (cN 0))] ret)))))))
theorem NY:Is Tryz.prog 18 b18:=mkI Tryz.func18
def b21:F2:=(F2.mk 84 [RV.t 4,RV.t 5,RV.t 6,RV.t 7] (ab [cO 2 (box (t 0)),cO 4 (mov (c AV.esl)),cO 5 (mov (c AV.esl)),cO 6 (mov bd),cO 7 (mov (cN 0))] ((ab [bj 19 1 2,aH 20 43 [t 19],aa 8 20] (ab [aa 21 8,ap 22 .neq 21 0] (au 22 (ab [aa 23 8,cO 4 (mov (c AV.esl)),cO 5 (mov (c AV.esl)),cO 6 (mov bd),aa 7 23] ret) skip))).seq (ab [bj 25 1 2,aa 26 1,aH 27 57 [t 25,t 26],aa 24 27,aW 28 24 0,aW 29 24 1,aa 9 28,aa 10 29] ((ab [aa 30 10,ap 31 .neq 30 0] (au 31 (ab [aa 32 10,cO 4 (mov (c AV.esl)),cO 5 (mov (c AV.esl)),cO 6 (mov bd),aa 7 32] ret) skip)).seq ((ab [aa 33 1,a9 34 33,ap 35 .eql 34 0] (au 35 (ab [cO 4 (mov (c AV.esl)),cO 5 (mov (c AV.esl)),cO 6 (mov cP),cO 7 (mov (cN 0))] ret) skip)).seq (ab [aa 36 1,cO 37 (ixaS 1 (t 36) (cN 0)),aE 38 37,a9 39 38,ap 40 .sub 39 1,aa 11 40] (ab [bj 42 1 2,aa 43 11,ap 44 .add 43 1,aH 45 58 [t 42,t 44],aa 41 45,aW 46 41 0,aW 47 41 1,cO 12 (alloc (AV.agg [a8,AV.esl])),bw 2 12 46,aa 10 47] ((ab [aa 48 10,ap 49 .neq 48 0] (au 49 (ab [aa 50 10,cO 4 (mov (c AV.esl)),cO 5 (mov (c AV.esl)),cO 6 (mov bd),aa 7 50] ret) skip)).seq (ab [bj 52 2 12,aa 53 9,aH 54 59 [t 52,t 53],aa 51 54,aW 55 51 0,aW 56 51 1,aW 57 51 2,aW 58 51 3,aa 13 55,aa 14 56,aa 15 57,aa 10 58] ((ab [aa 59 10,ap 60 .neq 59 0] (au 60 (ab [aa 61 10,cO 4 (mov (c AV.esl)),cO 5 (mov (c AV.esl)),cO 6 (mov bd),aa 7 61] ret) skip)).seq ((ab [aa 62 15] (au 62 (ab [bj 64 1 2,aa 65 11,ap 66 .add 65 1,aa 67 13,aH 68 34 [t 64,t 66,t 67],aa 63 68,aW 69 63 0,aW 70 63 1,aa 16 69,aa 17 70] (ab [aa 71 16,aa 72 17,ap 73 .eql 72 0,aa 74 17,aa 4 71,cO 5 (mov (c AV.esl)),aa 6 73,aa 7 74] ret)) skip)).seq (ab [bj 76 1 2,aa 77 11,aa 78 14,aH 79 34 [t 76,t 77,t 78],aa 75 79,aW 80 75 0,aW 81 75 1,aa 18 80,aa 10 81] (ab [aa 82 18,aa 83 10,cO 4 (mov (c AV.esl)),aa 5 82,cO 6 (mov bd),aa 7 83] ret))))))))))))))
theorem MX:Is Tryz.prog 21 b21:=mkI Tryz.func21
def b23:F2:=(F2.mk 27 [RV.t 4] (ab [cO 4 (mov bd)] ((ab [aa 6 0,a9 7 6,aa 8 1,a9 9 8,aN 10 .neq 7 9] (au 10 (ab [cO 4 (mov bd)] ret) skip)).seq ((ab [cO 5 (mov (cN 0))] (block 0 ((ab [aa 11 5,aa 12 0,a9 13 12,aN 14 .lss 11 13] (au 14 skip (exit 0))).seq ((block 1 ((mixS 1 [aa 17 0,aa 18 5,cO 19 (ixaS 1 (t 17) (t 18)),aE 20 19,aa 21 1,aa 22 5,cO 23 (ixaS 1 (t 21) (t 22)),aE 24 23,aH 25 63 [t 20,t 24],cO 26 (un UnOp.not (t 25))] [(0,0),(1,0),(2,0),(3,0),(4,0),(5,0),(6,0),(7,0),(8,2),(9,0)]).seq (au 26 (ab [cO 4 (mov bd)] ret) skip))).seq (ops 0 [aa 15 5,ap 16 .add 15 1,aa 5 16]))).loop)).seq (ab [cO 4 (mov cP)] ret)))))
theorem NI:Is Tryz.prog 23 b23:=mkI Tryz.func23
def b25:F2:=(F2.mk 55 [RV.t 6] (ab [cO 3 (box (t 0)),cO 6 (mov (cN 0))] ((ab [bj 13 1 3,aa 14 1,aa 15 2,aH 16 67 [t 13,t 14,t 15],aa 12 16,aW 17 12 0,aW 18 12 1,aW 19 12 2,aa 7 17,aa 8 18,aa 9 19] (ab [aa 20 9,ap 21 .neq 20 0] (au 21 (ab [aa 22 9,aa 6 22] ret) skip))).seq (((ops 1 [aa 23 1,a9 24 23,ap 25 .gtr 24 0,aa 26 25,an 27 26 (cM 2),an 28 26 (lenS (t 27)),an 29 26 (cB .gtr (t 28) (cN 0)),cO 30 (pick (t 26) (t 29) bd),aa 31 30,an 32 31 (cM 2),an 33 31 (ixaS 1 (t 32) (cN 0)),an 34 31 (cD 33),an 35 31 (lenS (t 34)),an 36 31 (cM 1),an 37 31 (ixaS 1 (t 36) (cN 0)),an 38 31 (cD 37),an 39 31 (lenS (t 38)),an 40 31 (cB .add (t 39) (cN 1)),an 41 31 (cB .neq (t 35) (t 40)),cO 42 (pick (t 31) (t 41) bd)]).seq (au 42 (ab [cO 6 (mov (cN 15))] ret) skip)).seq (ab [aa 44 2,aH 45 29 [t 44],aa 43 45,aW 46 43 0,aW 47 43 1,aa 10 46,aa 11 47] ((ab [aa 48 11,ap 49 .neq 48 0] (au 49 (ab [aa 50 11,aa 6 50] ret) skip)).seq ((ab [aa 51 10,aa 52 1,aH 53 68 ([t 51,t 52,c (AV.func 69 [])]),cO 54 (un UnOp.not (t 53))] (au 54 (ab [cO 6 (mov (cN 18))] ret) skip)).seq (ab [cO 6 (mov (cN 0))] ret))))))))
theorem Nx:Is Tryz.prog 25 b25:=mkI Tryz.func25
def b27:F2:=(F2.mk 55 [RV.t 6] (ab [cO 3 (box (t 0)),cO 6 (mov (cN 0))] (ab [bj 12 1 3,aa 13 1,aa 14 2,aH 15 67 [t 12,t 13,t 14],aa 11 15,aW 16 11 0,aW 17 11 1,aW 18 11 2,aa 7 16,aa 8 17,aa 9 18] ((ab [aa 19 9,ap 20 .neq 19 0] (au 20 (ab [aa 21 9,aa 6 21] ret) skip)).seq ((ab [aa 22 1,a9 23 22,ap 24 .eql 23 0,aa 25 24,bi 26 25 (cM 2),bi 27 25 (lenS (t 26)),bi 28 25 (cB .eql (t 27) (cN 0)),cO 29 (pick (t 25) cP (t 28))] (au 29 (ab [cO 6 (mov (cN 18))] ret) skip)).seq (((ops 1 [aa 30 1,cO 31 (ixaS 1 (t 30) (cN 0)),aE 32 31,a9 33 32,aa 34 2,cO 35 (ixaS 1 (t 34) (cN 0)),aE 36 35,a9 37 36,aN 38 .neq 33 37]).seq (au 38 (ab [cO 6 (mov (cN 15))] ret) skip)).seq ((ops 1 [bj 40 1 3,aa 41 1,cO 42 (ixaS 1 (t 41) (cN 0)),aE 43 42,a9 44 43,aH 45 58 [t 40,t 44],aa 39 45,aW 46 39 0,aW 47 39 1,cO 10 (alloc (AV.agg [a8,AV.esl])),bw 2 10 46,aa 9 47]).seq ((ab [aa 48 9,ap 49 .neq 48 0] (au 49 (ab [aa 50 9,aa 6 50] ret) skip)).seq (ab [bj 51 2 10,aa 52 7,aa 53 8,aH 54 71 [t 51,t 52,t 53],aa 6 54] ret)))))))))
theorem MZ:Is Tryz.prog 27 b27:=mkI Tryz.func27
def b28:F2:=(F2.mk 68 [RV.t 2] (ab [cO 1 (box (t 0)),cO 2 (mov (cN 0))] (ab [bL 8 0 1,aE 9 8,aa 3 9] ((ab [aa 10 3,a9 11 10,ap 12 .gtr 11 4096] (au 12 (ab [cO 2 (mov (cN 5))] ret) skip)).seq ((ab [cO 4 (mov (cN 0))] (block 0 ((ab [aa 13 4,aa 14 3,a9 15 14,aN 16 .lss 13 15] (au 16 skip (exit 0))).seq ((block 1 ((ab [aa 19 3,aa 20 4,cO 21 (ixaS 1 (t 19) (t 20)),aE 22 21,aH 23 72 [t 22],aa 5 23] (ab [aa 24 5,ap 25 .neq 24 0] (au 25 (ab [aa 26 5,aa 2 26] ret) skip))).seq ((mixS 1 [aa 27 4,ap 28 .gtr 27 0,aa 29 28,an 30 29 (cM 3),an 31 29 (cM 4),an 32 29 (cB .sub (t 31) (cN 1)),an 33 29 (ixaS 1 (t 30) (t 32)),an 34 29 (cD 33),an 35 29 (cM 3),an 36 29 (cM 4),an 37 29 (ixaS 1 (t 35) (t 36)),an 38 29 (cD 37),an 39 29 (call (cF 73) [t 34,t 38]),an 40 29 (cB .geq (t 39) (cN 0)),cO 41 (pick (t 29) (t 40) bd)] [(0,0),(1,0),(2,0),(3,0),(4,0),(5,0),(6,0),(7,0),(8,0),(9,0),(10,0),(11,0),(12,2),(13,0),(14,0)]).seq (au 41 (ab [cO 2 (mov (cN 14))] ret) skip)))).seq (ops 0 [aa 17 4,ap 18 .add 17 1,aa 4 18]))).loop)).seq ((ab [cO 6 (mov (cN 0))] (block 2 ((ab [aa 42 6,aa 43 3,a9 44 43,aN 45 .lss 42 44] (au 45 skip (exit 2))).seq ((block 3 (ab [cO 7 (mov (cN 0))] (block 4 ((ab [aa 48 7,aa 49 3,a9 50 49,aN 51 .lss 48 50] (au 51 skip (exit 4))).seq ((block 5 ((mixS 1 [aa 54 6,aa 55 7,aN 56 .neq 54 55,aa 57 56,an 58 57 (cM 3),an 59 57 (cM 6),an 60 57 (ixaS 1 (t 58) (t 59)),an 61 57 (cD 60),an 62 57 (cM 3),an 63 57 (cM 7),an 64 57 (ixaS 1 (t 62) (t 63)),an 65 57 (cD 64),an 66 57 (call (cF 74) [t 61,t 65]),cO 67 (pick (t 57) (t 66) bd)] [(0,0),(1,0),(2,0),(3,0),(4,0),(5,0),(6,0),(7,0),(8,0),(9,0),(10,0),(11,0),(12,2),(13,0)]).seq (au 67 (ab [cO 2 (mov (cN 7))] ret) skip))).seq (ops 0 [aa 52 7,ap 53 .add 52 1,aa 7 53]))).loop))).seq (ops 0 [aa 46 6,ap 47 .add 46 1,aa 6 47]))).loop)).seq (ab [cO 2 (mov (cN 0))] ret)))))))
theorem MV:Is Tryz.prog 28 b28:=mkI Tryz.func28
def b29:F2:=(F2.mk 15 [RV.t 2,RV.t 3] (ab [cO 2 (mov (c AV.esl)),cO 3 (mov (cN 0))] ((ab [aa 5 0,aH 6 75 [t 5],aa 4 6] (ab [aa 7 4,ap 8 .neq 7 0] (au 8 (ab [aa 9 4,cO 2 (mov (c AV.esl)),aa 3 9] ret) skip))).seq (ab [aa 10 0,aH 11 77 [t 10],aH 12 76 [t 11],aW 13 12 0,aW 14 12 1,aa 2 13,aa 3 14] ret))))
theorem Na:Is Tryz.prog 29 b29:=mkI Tryz.func29
def b30:F2:=(F2.mk 60 [RV.t 4,RV.t 5] (ab [cO 2 (box (t 0)),cO 4 (mov (c AV.esl)),cO 5 (mov (cN 0))] ((ab [bj 15 1 2,aH 16 78 [t 15],aa 6 16] (ab [aa 17 6,ap 18 .neq 17 0] (au 18 (ab [aa 19 6,cO 4 (mov (c AV.esl)),aa 5 19] ret) skip))).seq ((ab [aa 20 1,aH 21 75 [t 20],aa 7 21] (ab [aa 22 7,ap 23 .neq 22 0] (au 23 (ab [aa 24 7,cO 4 (mov (c AV.esl)),aa 5 24] ret) skip))).seq ((ab [aa 25 1,a9 26 25,ap 27 .eql 26 0] (au 27 (ab [cO 4 (mov (c AV.esl)),cO 5 (mov (cN 0))] ret) skip)).seq ((mixS 1 [bj 29 1 2,aa 30 1,cO 31 (ixaS 1 (t 30) (cN 0)),aE 32 31,a9 33 32,aH 34 79 [t 29,t 33],aa 28 34,aW 35 28 0,aW 36 28 1,aa 8 35,aa 9 36] [(0,0),(1,0),(2,0),(3,0),(4,0),(5,2),(6,0),(7,0),(8,0),(9,0),(10,0)]).seq ((ab [aa 37 9,ap 38 .neq 37 0] (au 38 (ab [aa 39 9,cO 4 (mov (c AV.esl)),aa 5 39] ret) skip)).seq (ab [cO 10 (mov (c AV.esl))] ((ab [aa 40 1,a9 41 40,cO 42 (mov (cN 0))] (block 0 (ab [aN 43 .lss 42 41] ((au 43 skip (exit 0)).seq ((block 1 (ab [cO 44 (ixaS 1 (t 40) (t 42)),aE 45 44,aa 12 45] (ab [aa 47 8,aa 48 12,aH 49 80 [t 47,t 48],aa 46 49,aW 50 46 0,aW 51 46 1,aa 13 50,aa 14 51] ((ab [aa 52 14,cO 53 (un UnOp.not (t 52))] (au 53 (ab [cO 4 (mov (c AV.esl)),cO 5 (mov (cN 6))] ret) skip)).seq (ops 0 [aa 54 10,aa 55 13,cO 56 (bldS 1 1 [a8] [(0,1,t 55)]),cO 57 (app 1 8 (t 54) (t 56)),aa 10 57]))))).seq (ops 0 [ap 58 .add 42 1,aa 42 58])))).loop)).seq (ab [aa 59 10,aa 4 59,cO 5 (mov (cN 0))] ret))))))))))
theorem NB:Is Tryz.prog 30 b30:=mkI Tryz.func30
def b33:F2:=(F2.mk 14 [RV.t 2,RV.t 3] (ab [cO 2 (mov bd),cO 3 (mov (cN 0))] ((ab [aa 5 0,aH 6 75 [t 5],aa 4 6] (ab [aa 7 4,ap 8 .neq 7 0] (au 8 (ab [aa 9 4,cO 2 (mov bd),aa 3 9] ret) skip))).seq (ab [aa 10 0,aH 11 77 [t 10],a9 12 11,ap 13 .eql 12 0,aa 2 13,cO 3 (mov (cN 0))] ret))))
theorem N1:Is Tryz.prog 33 b33:=mkI Tryz.func33
def b34:F2:=(F2.mk 72 [RV.t 6,RV.t 7] (ab [cO 3 (box (t 0)),cO 6 (mov (c AV.esl)),cO 7 (mov (cN 0))] ((ab [bj 14 1 3,aH 15 78 [t 14],aa 8 15] (ab [aa 16 8,ap 17 .neq 16 0] (au 17 (ab [aa 18 8,cO 6 (mov (c AV.esl)),aa 7 18] ret) skip))).seq ((ab [aa 19 1,ap 20 .lss 19 0,aa 21 20,bi 22 21 (cM 1),bi 23 21 (cB .geq (t 22) (cN 8)),cO 24 (pick (t 21) cP (t 23))] (au 24 (ab [cO 6 (mov (c AV.esl)),cO 7 (mov (cN 2))] ret) skip)).seq (ab [bj 26 1 3,aa 27 1,aH 28 83 [t 26,t 27],aa 25 28,aW 29 25 0,aW 30 25 1,aa 9 29,aa 10 30] ((ab [aa 31 10,ap 32 .neq 31 0] (au 32 (ab [aa 33 10,cO 6 (mov (c AV.esl)),aa 7 33] ret) skip)).seq (ab [cO 11 (mov (c AV.esl))] ((ab [aa 34 2,a9 35 34,cO 36 (mov (cN 0))] (block 0 (ab [aN 37 .lss 36 35] ((au 37 skip (exit 0)).seq ((block 1 (ab [aa 38 36,cO 39 (ixaS 1 (t 34) (t 36)),aE 40 39,aa 12 38,aa 13 40] ((block 2 (ab [aa 42 13,ap 43 .lss 42 0,aa 44 43,bi 45 44 (cM 13),bi 46 44 (cM 9),bi 47 44 (lenS (t 46)),bi 48 44 (cB .geq (t 45) (t 47)),cO 49 (pick (t 44) cP (t 48)),aa 41 49] (au 41 (ab [cO 6 (mov (c AV.esl)),cO 7 (mov (cN 2))] ret) (ab [aa 51 12,ap 52 .gtr 51 0,aa 53 52,an 54 53 (cM 13),an 55 53 (cM 2),an 56 53 (cM 12),an 57 53 (cB .sub (t 56) (cN 1)),an 58 53 (ixaS 1 (t 55) (t 57)),an 59 53 (cD 58),an 60 53 (cB .leq (t 54) (t 59)),cO 61 (pick (t 53) (t 60) bd),aa 50 61] (au 50 (ab [cO 6 (mov (c AV.esl)),cO 7 (mov (cN 14))] ret) skip))))).seq (ops 0 [aa 62 11,aa 63 9,aa 64 13,cO 65 (ixaS 1 (t 63) (t 64)),aE 66 65,cO 67 (bldS 1 1 [AV.esl] [(0,1,t 66)]),cO 68 (app 1 24 (t 62) (t 67)),aa 11 68])))).seq (ops 0 [ap 69 .add 36 1,aa 36 69])))).loop)).seq (ab [aa 70 11,aH 71 84 [t 70],aa 6 71,cO 7 (mov (cN 0))] ret)))))))))
theorem M9:Is Tryz.prog 34 b34:=mkI Tryz.func34
def b37:F2:=(F2.mk 40 [RV.t 2,RV.t 3] (ab [cO 1 (box (t 0)),cO 2 (mov (cN 0)),cO 3 (mov (cN 0))] ((ab [bj 9 1 1,aH 10 78 [t 9],aa 4 10] (ab [aa 11 4,ap 12 .neq 11 0] (au 12 (ab [aa 13 4,cO 2 (mov (cN 0)),aa 3 13] ret) skip))).seq (ab [cO 5 (mov (cN 0))] ((ab [cO 6 (mov (cN 1))] (block 0 ((ab [aa 14 6,ap 15 .leq 14 8] (au 15 skip (exit 0))).seq ((block 1 (ab [bL 19 0 1,aE 20 19,aa 21 6,aH 22 87 [t 20,t 21],aa 18 22,aW 23 18 0,aW 24 18 1,aa 7 23,aa 8 24] ((ab [aa 25 8,ap 26 .neq 25 0] (au 26 (ab [aa 27 8,cO 2 (mov (cN 0)),aa 3 27] ret) skip)).seq (ab [aa 28 6,ap 29 .rem 28 2,ap 30 .eql 29 1] (au 30 (ops 0 [aa 31 5,aa 32 7,a9 33 32,aN 34 .add 31 33,aa 5 34]) (ops 0 [aa 35 5,aa 36 7,a9 37 36,aN 38 .sub 35 37,aa 5 38])))))).seq (ops 0 [aa 16 6,ap 17 .add 16 1,aa 6 17]))).loop)).seq (ab [aa 39 5,aa 2 39,cO 3 (mov (cN 0))] ret))))))
theorem KN:Is Tryz.prog 37 b37:=mkI Tryz.func37
def b40:F2:=(F2.mk 28 [RV.t 2] (ab [cO 2 (mov bd)] ((ab [cO 3 (mov (cN 0))] (block 0 ((ab [aa 4 3,aa 5 0,a9 6 5,aN 7 .lss 4 6,aa 8 7,an 9 8 (cM 3),an 10 8 (cB .lss (t 9) (cN 50)),cO 11 (pick (t 8) (t 10) bd)] (au 11 skip (exit 0))).seq ((block 1 (ab [aa 14 0,aa 15 3,cO 16 (ixaS 1 (t 14) (t 15)),aE 17 16,a9 18 17,ap 19 .gtr 18 10] (au 19 (ab [cO 2 (mov bd)] ret) skip))).seq (ops 0 [aa 12 3,ap 13 .add 12 1,aa 3 13]))).loop)).seq (ab [aa 20 0,a9 21 20,ap 22 .leq 21 40,aa 23 22,bi 24 23 (cM 0),bi 25 23 (lenS (t 24)),bi 26 23 (cB .gtr (t 25) (cN 4096)),cO 27 (pick (t 23) cP (t 26)),aa 2 27] ret))))
theorem Np:Is Tryz.prog 40 b40:=mkI Tryz.func40
def b41:F2:=(F2.mk 6 [RV.t 2] (ab [cO 1 (box (t 0)),cO 2 (mov bd)] (ab [bL 3 0 1,aE 4 3,aH 5 95 [t 4],aa 2 5] ret)))
theorem NJ:Is Tryz.prog 41 b41:=mkI Tryz.func41
def b42:F2:=(F2.mk 19 [RV.t 2] (ab [cO 2 (mov (c AV.esl))] (ab [cO 3 (mov (c AV.esl))] ((ab [aa 6 0,a9 7 6,cO 8 (mov (cN 0))] (block 0 (ab [aN 9 .lss 8 7] ((au 9 skip (exit 0)).seq ((block 1 (ab [cO 10 (ixaS 1 (t 6) (t 8)),aE 11 10,aa 5 11] (ops 0 [aa 12 3,aa 13 5,cO 14 (bld [a8,a8] [(0,1,t 13)]),cO 15 (bldS 2 1 [a8,a8] [(0,2,t 14)]),cO 16 (app 2 16 (t 12) (t 15)),aa 3 16]))).seq (ops 0 [ap 17 .add 8 1,aa 8 17])))).loop)).seq (ab [aa 18 3,aa 2 18] ret)))))
theorem NT:Is Tryz.prog 42 b42:=mkI Tryz.func42
def b43:F2:=(F2.mk 11 [RV.t 2] (ab [cO 1 (box (t 0)),cO 2 (mov (cN 0))] (ab [bj 6 1 1,aH 7 37 [t 6],aa 5 7,aW 8 5 0,aW 9 5 1,aa 3 8,aa 4 9] (ab [aa 10 4,aa 2 10] ret))))
theorem IM:Is Tryz.prog 43 b43:=mkI Tryz.func43
def b44:F2:=(F2.mk 79 [RV.t 2,RV.t 3] (ab [cO 1 (box (t 0)),cO 2 (mov (c AV.esl)),cO 3 (mov (cN 0))] (ab [bj 16 1 1,aH 17 96 [t 16],aa 15 17,aW 18 15 0,aW 19 15 1,aW 20 15 2,aa 4 18,aa 5 19,aa 6 20] ((ab [aa 21 6,ap 22 .neq 21 0] (au 22 (ab [aa 23 6,cO 2 (mov (c AV.esl)),aa 3 23] ret) skip)).seq (ab [cO 24 (mkm none),aa 7 24] ((ab [aa 25 4,ap 26 .add 25 2,cO 27 (mov (cN 0))] (block 0 (ab [aN 28 .lss 27 26] ((au 28 skip (exit 0)).seq ((block 1 (ab [aa 29 27,aa 8 29] (ab [bj 31 1 1,aa 32 8,aH 33 58 [t 31,t 32],aa 30 33,aW 34 30 0,aW 35 30 1,cO 9 (alloc (AV.agg [a8,AV.esl])),bw 2 9 34,aa 10 35] ((ab [aa 36 10,ap 37 .neq 36 0] (au 37 (ab [aa 38 10,cO 2 (mov (c AV.esl)),aa 3 38] ret) skip)).seq (ab [aa 40 7,aa 41 8,bj 42 2 9,aH 43 97 [t 42],aa 39 43,aW 44 39 0,aW 45 39 1,Op2.mk none none (mput (one int) (t 40) (t 41) (t 44)),aa 10 45] (ab [aa 46 10,ap 47 .neq 46 0] (au 47 (ab [aa 48 10,cO 2 (mov (c AV.esl)),aa 3 48] ret) skip))))))).seq (ops 0 [ap 49 .add 27 1,aa 27 49])))).loop)).seq (ab [cO 11 (mov (c AV.esl))] ((ab [aa 50 4,ap 51 .add 50 1,cO 52 (mov (cN 0))] (block 2 (ab [aN 53 .lss 52 51] ((au 53 skip (exit 2)).seq ((block 3 (ab [aa 54 52,aa 12 54] (ab [bj 56 1 1,aa 57 12,aH 58 98 [t 56,t 57],aa 55 58,aW 59 55 0,aW 60 55 1,aa 13 59,aa 14 60] ((ab [aa 61 14,ap 62 .neq 61 0] (au 62 (ab [aa 63 14,cO 2 (mov (c AV.esl)),aa 3 63] ret) skip)).seq (ops 0 [aa 64 11,aa 65 13,aa 66 7,aa 67 12,cO 68 (Ins.mget (one int) (a8) false (t 66) (t 67)),aN 69 .sub 65 68,aa 70 7,aa 71 12,ap 72 .add 71 1,cO 73 (Ins.mget (one int) (a8) false (t 70) (t 72)),aN 74 .sub 69 73,cO 75 (bldS 1 1 [a8] [(0,1,t 74)]),cO 76 (app 1 8 (t 64) (t 75)),aa 11 76]))))).seq (ops 0 [ap 77 .add 52 1,aa 52 77])))).loop)).seq (ab [aa 78 11,aa 2 78,cO 3 (mov (cN 0))] ret)))))))))
theorem Ku:Is Tryz.prog 44 b44:=mkI Tryz.func44
def b45:F2:=(F2.mk 25 [RV.t 2] (ab [cO 1 (box (t 0)),cO 2 (mov (cN 0))] ((ab [bj 7 1 1,aH 8 28 [t 7],aa 3 8] (ab [aa 9 3,ap 10 .neq 9 0] (au 10 (ab [aa 11 3,aa 2 11] ret) skip))).seq ((ab [cO 4 (mov (cN 1))] (block 0 ((ab [aa 12 4,ap 13 .leq 12 8] (au 13 skip (exit 0))).seq ((block 1 (ab [bj 17 1 1,aa 18 4,aH 19 99 [t 17,t 18],aa 16 19,aW 20 16 0,aW 21 16 1,aa 5 20,aa 6 21] (ab [aa 22 6,ap 23 .neq 22 0] (au 23 (ab [aa 24 6,aa 2 24] ret) skip)))).seq (ops 0 [aa 14 4,ap 15 .add 14 1,aa 4 15]))).loop)).seq (ab [cO 2 (mov (cN 0))] ret)))))
theorem M3:Is Tryz.prog 45 b45:=mkI Tryz.func45
def b46:F2:=(F2.mk 38 [RV.t 2,RV.t 3] (ab [cO 1 (box (t 0)),cO 2 (mov (cN 0)),cO 3 (mov bd)] (ab [cO 4 (mov (cN ((-1)))),cO 5 (mov cP)] ((ab [cO 6 (mov (cN 0))] (block 0 ((ab [aa 8 6,bL 9 0 1,aE 10 9,a9 11 10,aN 12 .lss 8 11] (au 12 skip (exit 0))).seq ((block 1 (ab [bL 15 0 1,aE 16 15,aa 17 6,cO 18 (ixaS 1 (t 16) (t 17)),aE 19 18,a9 20 19,ap 21 .sub 20 1,aa 7 21] (ab [aa 22 5,aa 23 22,an 24 23 (cM 6),an 25 23 (cB .eql (t 24) (cN 0)),an 26 23 (cM 25),bi 27 26 (cM 7),bi 28 26 (cM 4),bi 29 26 (cB .eql (t 27) (t 28)),an 30 23 (pick (t 26) cP (t 29)),cO 31 (pick (t 23) (t 30) bd),aa 5 31] (ab [aa 32 7,aa 33 4,aN 34 .gtr 32 33] (au 34 (ops 0 [aa 35 7,aa 4 35]) skip))))).seq (ops 0 [aa 13 6,ap 14 .add 13 1,aa 6 14]))).loop)).seq (ab [aa 36 4,aa 37 5,aa 2 36,aa 3 37] ret)))))
theorem M4:Is Tryz.prog 46 b46:=mkI Tryz.func46
def b47:F2:=(F2.mk 19 [RV.t 4] (ab [cO 2 (box (t 0)),cO 4 (mov (cN 0))] ((mixS 1 [bj 5 1 2,aa 6 1,ap 7 .add 6 1,aH 8 51 [t 5,t 7],a9 9 8,bj 10 1 2,aa 11 1,aH 12 100 [t 10,t 11],aN 13 .sub 9 12,bj 14 1 2,aa 15 1,ap 16 .add 15 1,aH 17 100 [t 14,t 16],aN 18 .sub 13 17,aa 4 18] [(0,0),(1,0),(2,0),(5,0),(6,0),(9,0),(10,0),(11,0),(3,1),(4,0),(7,1),(8,0),(12,2),(13,0),(14,0)]).seq ret)))
theorem N3:Is Tryz.prog 47 b47:=mkI Tryz.func47
def b48:F2:=(F2.mk 9 [RV.t 4] (ab [cO 4 (mov bd)] (ab [aa 5 0,aa 6 1,aH 7 101 [t 5,t 6],ap 8 .geq 7 0,aa 4 8] ret)))
theorem N5:Is Tryz.prog 48 b48:=mkI Tryz.func48
def b49:F2:=(F2.mk 5 [RV.t 2] (ab [cO 2 (mov bd)] (ab [aa 3 0,ap 4 .neq 3 0,aa 2 4] ret)))
theorem NM:Is Tryz.prog 49 b49:=mkI Tryz.func49
def b50:F2:=(F2.mk 6 [RV.t 4] (ab [cO 2 (box (t 0)),cO 3 (box (t 1)),cO 4 (mov (c AV.nilf))] (ab [cO 5 (mkfn 102 [t 2,t 3]),aa 4 5] ret)))
theorem Nt:Is Tryz.prog 50 b50:=mkI Tryz.func50
def b51:F2:=(F2.mk 44 [RV.t 4] (ab [cO 2 (box (t 0)),cO 4 (mov (c AV.esl))] (ab [cO 5 (mov (c AV.esl))] ((ab [cO 6 (mov (cN 0))] (block 0 ((ab [aa 9 6,bL 10 0 2,aE 11 10,a9 12 11,aN 13 .lss 9 12] (au 13 skip (exit 0))).seq ((block 1 ((ab [aa 16 1,bL 17 0 2,aE 18 17,aa 19 6,cO 20 (ixaS 1 (t 18) (t 19)),aE 21 20,a9 22 21,aN 23 .gtr 16 22] (au 23 (exit 1) skip)).seq (ab [bL 24 0 2,aE 25 24,aa 26 6,cO 27 (ixaS 1 (t 25) (t 26)),aE 28 27,aa 29 1,aH 30 104 [t 28,t 29],aa 7 30] (ab [cO 8 (mov (cN 0))] (block 2 ((ab [aa 31 8,aa 32 7,a9 33 32,aN 34 .lss 31 33] (au 34 skip (exit 2))).seq ((block 3 (ops 0 [aa 37 5,aa 38 7,aa 39 8,cO 40 (ixaS 1 (t 38) (t 39)),aE 41 40,aH 42 105 [t 37,t 41],aa 5 42])).seq (ops 0 [aa 35 8,ap 36 .add 35 1,aa 8 36]))).loop))))).seq (ops 0 [aa 14 6,ap 15 .add 14 1,aa 6 15]))).loop)).seq (ab [aa 43 5,aa 4 43] ret)))))
theorem MY:Is Tryz.prog 51 b51:=mkI Tryz.func51
def b53:F2:=(F2.mk 20 [RV.cn 4 2] (ab [cO 2 (box (t 0)),cO 4 (alloc (AV.agg [a8,AV.esl]))] (ab [bj 6 1 2,aa 7 1,ap 8 .add 7 1,aH 9 51 [t 6,t 8],aa 5 9] ((ab [aa 10 1,ap 11 .eql 10 0] (au 11 (ab [aa 12 5,a9 13 12,cO 14 (bld [a8,AV.esl] [(0,1,t 13)]),bw 2 4 14] ret) skip)).seq (ab [aa 15 5,bj 16 1 2,aa 17 1,aH 18 51 [t 16,t 17],aH 19 110 [t 15,t 18],bw 2 4 19] ret)))))
theorem NR:Is Tryz.prog 53 b53:=mkI Tryz.func53
def b57:F2:=(F2.mk 31 [RV.t 4,RV.t 5] (ab [cO 2 (box (t 0)),cO 4 (mov (c AV.esl)),cO 5 (mov (cN 0))] (ab [bj 10 1 2,aa 11 1,aH 12 30 [t 10,t 11],aa 9 12,aW 13 9 0,aW 14 9 1,aa 6 13,aa 7 14] ((ab [aa 15 7,ap 16 .neq 15 0] (au 16 (ab [aa 17 7,cO 4 (mov (c AV.esl)),aa 5 17] ret) skip)).seq (ab [aa 19 1,aH 20 33 [t 19],aa 18 20,aW 21 18 0,aW 22 18 1,aa 8 21,aa 7 22] ((ab [aa 23 7,ap 24 .eql 23 0,aa 25 24,an 26 25 (cM 8),an 27 25 (un UnOp.not (t 26)),cO 28 (pick (t 25) (t 27) bd)] (au 28 (ab [cO 4 (mov (c AV.esl)),cO 5 (mov (cN 3))] ret) skip)).seq (ab [aa 29 6,aa 30 7,aa 4 29,aa 5 30] ret)))))))
theorem NL:Is Tryz.prog 57 b57:=mkI Tryz.func57
def b58:F2:=(F2.mk 26 [RV.cn 4 2,RV.t 5] (ab [cO 2 (box (t 0)),cO 4 (alloc (AV.agg [a8,AV.esl])),cO 5 (mov (cN 0))] ((ab [aa 8 1,ap 9 .lss 8 8] (au 9 (ab [bj 10 1 2,aa 11 1,aH 12 112 [t 10,t 11],aW 13 12 0,aW 14 12 1,bw 2 4 13,aa 5 14] ret) skip)).seq (ab [bj 16 1 2,aa 17 1,ap 18 .sub 17 1,aH 19 98 [t 16,t 18],aa 15 19,aW 20 15 0,aW 21 15 1,aa 6 20,aa 7 21] (ab [aa 22 6,cO 23 (mks 1 24 [AV.esl] (t 22) (t 22)),cO 24 (bld [a8,AV.esl] [(1,1,t 23)]),aa 25 7,bw 2 4 24,aa 5 25] ret)))))
theorem Ni:Is Tryz.prog 58 b58:=mkI Tryz.func58
def b59:F2:=(F2.mk 65 [RV.t 4,RV.t 5,RV.t 6,RV.t 7] (ab [cO 2 (box (t 0)),cO 4 (mov (c AV.esl)),cO 5 (mov (c AV.esl)),cO 6 (mov bd),cO 7 (mov (cN 0))] ((ab [bj 17 2 2,aH 18 113 [t 17],aa 8 18] (ab [aa 19 8,ap 20 .neq 19 0] (au 20 (ab [aa 21 8,cO 4 (mov (c AV.esl)),cO 5 (mov (c AV.esl)),cO 6 (mov bd),aa 7 21] ret) skip))).seq ((ab [aa 22 1,bL 23 1 2,aE 24 23,a9 25 24,aH 26 114 [t 22,t 25],aa 9 26] (ab [aa 27 9,ap 28 .neq 27 0] (au 28 (ab [aa 29 9,cO 4 (mov (c AV.esl)),cO 5 (mov (c AV.esl)),cO 6 (mov bd),aa 7 29] ret) skip))).seq (ab [bj 31 2 2,aH 32 115 [t 31],aa 30 32,aW 33 30 0,aW 34 30 1,aa 10 33,aa 11 34] ((ab [aa 35 11,a9 36 35,cO 37 (mov (cN 0))] (block 0 (ab [aN 38 .lss 37 36] ((au 38 skip (exit 0)).seq ((block 1 (ab [cO 39 (ixaS 1 (t 35) (t 37)),aE 40 39,aa 13 40] (ab [aa 41 13,aa 42 1,aH 43 116 [t 41,t 42]] (au 43 (ab [aa 44 13,cO 4 (mov (c AV.esl)),aa 5 44,cO 6 (mov bd),cO 7 (mov (cN 0))] ret) skip)))).seq (ops 0 [ap 45 .add 37 1,aa 37 45])))).loop)).seq (ab [cO 14 (mov (c AV.esl))] ((ab [aa 46 10,a9 47 46,cO 48 (mov (cN 0))] (block 2 (ab [aN 49 .lss 48 47] ((au 49 skip (exit 2)).seq ((block 3 (ab [cO 50 (ixaS 2 (t 46) (t 48)),bj 51 2 50,cO 16 (alloc (AV.agg [AV.esl,AV.esl])),bw 2 16 51] (ab [bL 52 1 16,aE 53 52,aa 54 1,aH 55 116 [t 53,t 54]] (au 55 (ops 0 [aa 56 14,bL 57 0 16,aE 58 57,cO 59 (ixaS 1 (t 58) (cN 0)),aE 60 59,cO 61 (bldS 1 1 [a8] [(0,1,t 60)]),cO 62 (app 1 8 (t 56) (t 61)),aa 14 62]) skip)))).seq (ops 0 [ap 63 .add 48 1,aa 48 63])))).loop)).seq (ab [aa 64 14,aa 4 64,cO 5 (mov (c AV.esl)),cO 6 (mov cP),cO 7 (mov (cN 0))] ret)))))))))
theorem N0:Is Tryz.prog 59 b59:=mkI Tryz.func59
def b63:F2:=(F2.mk 9 [RV.t 4] (ab [cO 4 (mov bd)] (ab [aa 5 0,aa 6 1,aH 7 73 [t 5,t 6],ap 8 .eql 7 0,aa 4 8] ret)))
theorem Nl:Is Tryz.prog 63 b63:=mkI Tryz.func63
def b67:F2:=(F2.mk 36 [RV.t 6,RV.t 7,RV.t 8] (ab [cO 3 (box (t 0)),cO 6 (mov (c AV.esl)),cO 7 (mov (c AV.esl)),cO 8 (mov (cN 0))] ((ab [bj 13 1 3,aH 14 43 [t 13],aa 9 14] (ab [aa 15 9,ap 16 .neq 15 0] (au 16 (ab [aa 17 9,cO 6 (mov (c AV.esl)),cO 7 (mov (c AV.esl)),aa 8 17] ret) skip))).seq (ab [bj 19 1 3,aa 20 1,aH 21 30 [t 19,t 20],aa 18 21,aW 22 18 0,aW 23 18 1,aa 10 22,aa 11 23] ((ab [aa 24 11,ap 25 .neq 24 0] (au 25 (ab [aa 26 11,cO 6 (mov (c AV.esl)),cO 7 (mov (c AV.esl)),aa 8 26] ret) skip)).seq (ab [bj 28 1 3,aa 29 2,aH 30 30 [t 28,t 29],aa 27 30,aW 31 27 0,aW 32 27 1,aa 12 31,aa 11 32] (ab [aa 33 10,aa 34 12,aa 35 11,aa 6 33,aa 7 34,aa 8 35] ret)))))))
theorem NU:Is Tryz.prog 67 b67:=mkI Tryz.func67
def b68:F2:=(F2.mk 32 [RV.t 6] (ab [cO 6 (mov bd)] ((ab [aa 10 0,a9 11 10,aa 12 1,a9 13 12,aN 14 .neq 11 13] (au 14 (ab [cO 6 (mov bd)] ret) skip)).seq ((ab [aa 15 0,a9 16 15,cO 17 (mov (cN 0))] (block 0 (ab [aN 18 .lss 17 16] ((au 18 skip (exit 0)).seq ((block 1 (ab [aa 19 17,cO 20 (ixaS 1 (t 15) (t 17)),aE 21 20,aa 7 19,aa 8 21] (ab [aa 22 1,aa 23 7,cO 24 (ixaS 1 (t 22) (t 23)),aE 25 24,aa 9 25] (ab [aa 26 2,aa 27 8,aa 28 9,cO 29 (call (t 26) [t 27,t 28]),cO 30 (un UnOp.not (t 29))] (au 30 (ab [cO 6 (mov bd)] ret) skip))))).seq (ops 0 [ap 31 .add 17 1,aa 17 31])))).loop)).seq (ab [cO 6 (mov cP)] ret)))))
theorem NF:Is Tryz.prog 68 b68:=mkI Tryz.func68
def b69:F2:=(F2.mk 9 [RV.t 4] (ab [cO 4 (mov bd)] (ab [aa 5 0,aa 6 1,aH 7 70 [t 5,t 6],ap 8 .eql 7 0,aa 4 8] ret)))
theorem NS:Is Tryz.prog 69 b69:=mkI Tryz.func69
def b70:F2:=(F2.mk 8 [RV.t 4] (ab [cO 4 (mov (cN 0))] (ab [aa 5 0,aa 6 1,aH 7 122 ([t 5,t 6,c (AV.func 123 [])]),aa 4 7] ret)))
theorem N4:Is Tryz.prog 70 b70:=mkI Tryz.func70
def b71:F2:=(F2.mk 57 [RV.t 6] (ab [cO 3 (box (t 0)),cO 6 (mov (cN 0))] ((ab [bj 13 2 3,aH 14 113 [t 13],aa 7 14] (ab [aa 15 7,ap 16 .neq 15 0] (au 16 (ab [aa 17 7,aa 6 17] ret) skip))).seq ((ab [aa 18 1,bL 19 1 3,aE 20 19,a9 21 20,aH 22 114 [t 18,t 21],aa 8 22] (ab [aa 23 8,ap 24 .neq 23 0] (au 24 (ab [aa 25 8,aa 6 25] ret) skip))).seq ((ab [aa 26 2,bL 27 1 3,aE 28 27,a9 29 28,aH 30 114 [t 26,t 29],aa 9 30] (ab [aa 31 9,ap 32 .neq 31 0] (au 32 (ab [aa 33 9,aa 6 33] ret) skip))).seq (ab [cO 10 (mov (c AV.esl))] ((ab [aa 34 2,a9 35 34,cO 36 (mov (cN 0))] (block 0 (ab [aN 37 .lss 36 35] ((au 37 skip (exit 0)).seq ((block 1 (ab [cO 38 (ixaS 1 (t 34) (t 36)),aE 39 38,aa 12 39] (ops 0 [aa 40 10,bL 41 1 3,aE 42 41,aa 43 12,cO 44 (ixaS 1 (t 42) (t 43)),aE 45 44,aH 46 124 [t 40,t 45],aa 10 46]))).seq (ops 0 [ap 47 .add 36 1,aa 36 47])))).loop)).seq ((ab [aa 48 10,a9 49 48,ap 50 .gtr 49 0,aa 51 50,bi 52 51 (cM 2),bi 53 51 (cM 1),bi 54 51 (call (cF 116) [t 52,t 53]),bi 55 51 (un UnOp.not (t 54)),cO 56 (pick (t 51) cP (t 55))] (au 56 (ab [cO 6 (mov (cN 18))] ret) skip)).seq (ab [cO 6 (mov (cN 0))] ret)))))))))
theorem Nb:Is Tryz.prog 71 b71:=mkI Tryz.func71
def b72:F2:=(F2.mk 39 [RV.t 2] (ab [cO 2 (mov (cN 0))] ((block 0 (ab [aa 5 0,a9 6 5,ap 7 .eql 6 0,aa 4 7] (au 4 (ab [cO 2 (mov (cN 16))] ret) (ab [aa 9 0,a9 10 9,ap 11 .gtr 10 8,aa 8 11] (au 8 (ab [cO 2 (mov (cN 5))] ret) skip))))).seq ((ab [cO 3 (mov (cN 0))] (block 1 ((ab [aa 12 3,aa 13 0,a9 14 13,aN 15 .lss 12 14] (au 15 skip (exit 1))).seq ((block 2 ((ab [aa 18 0,aa 19 3,cO 20 (ixaS 2 (t 18) (t 19)),bj 21 2 20,aH 22 125 [t 21],cO 23 (un UnOp.not (t 22))] (au 23 (ab [cO 2 (mov (cN 2))] ret) skip)).seq ((mixS 1 [aa 24 3,ap 25 .gtr 24 0,aa 26 25,an 27 26 (cM 0),an 28 26 (cM 3),an 29 26 (cB .sub (t 28) (cN 1)),an 30 26 (ixaS 2 (t 27) (t 29)),an 31 26 (ldn 2 (t 30)),an 32 26 (cM 0),an 33 26 (cM 3),an 34 26 (ixaS 2 (t 32) (t 33)),an 35 26 (ldn 2 (t 34)),an 36 26 (call (cF 126) [t 31,t 35]),an 37 26 (cB .geq (t 36) (cN 0)),cO 38 (pick (t 26) (t 37) bd)] [(0,0),(1,0),(2,0),(3,0),(4,0),(5,0),(6,0),(7,0),(8,0),(9,0),(10,0),(11,0),(12,2),(13,0),(14,0)]).seq (au 38 (ab [cO 2 (mov (cN 14))] ret) skip)))).seq (ops 0 [aa 16 3,ap 17 .add 16 1,aa 3 17]))).loop)).seq (ab [cO 2 (mov (cN 0))] ret)))))
theorem Nz:Is Tryz.prog 72 b72:=mkI Tryz.func72
def b73:F2:=(F2.mk 43 [RV.t 4] (ab [cO 4 (mov (cN 0))] ((ab [cO 5 (mov (cN 0))] (block 0 ((ab [aa 7 5,aa 8 0,a9 9 8,aN 10 .lss 7 9,aa 11 10,an 12 11 (cM 5),an 13 11 (cM 1),an 14 11 (lenS (t 13)),an 15 11 (cB .lss (t 12) (t 14)),cO 16 (pick (t 11) (t 15) bd)] (au 16 skip (exit 0))).seq ((block 1 ((mixS 1 [aa 19 0,aa 20 5,cO 21 (ixaS 2 (t 19) (t 20)),bj 22 2 21,aa 23 1,aa 24 5,cO 25 (ixaS 2 (t 23) (t 24)),bj 26 2 25,aH 27 126 [t 22,t 26],aa 6 27] [(0,0),(1,0),(2,0),(3,0),(4,0),(5,0),(6,0),(7,0),(8,2),(9,0)]).seq (ab [aa 28 6,ap 29 .neq 28 0] (au 29 (ab [aa 30 6,aa 4 30] ret) skip)))).seq (ops 0 [aa 17 5,ap 18 .add 17 1,aa 5 18]))).loop)).seq ((block 2 (ab [aa 32 0,a9 33 32,aa 34 1,a9 35 34,aN 36 .lss 33 35,aa 31 36] (au 31 (ab [cO 4 (mov (cN ((-1))))] ret) (ab [aa 38 0,a9 39 38,aa 40 1,a9 41 40,aN 42 .gtr 39 41,aa 37 42] (au 37 (ab [cO 4 (mov (cN 1))] ret) skip))))).seq (ab [cO 4 (mov (cN 0))] ret)))))
theorem Nn:Is Tryz.prog 73 b73:=mkI Tryz.func73
def b74:F2:=(F2.mk 19 [RV.t 4] (ab [cO 4 (mov bd)] ((ab [cO 5 (mov (cN 0))] (block 0 ((ab [aa 6 5,aa 7 0,a9 8 7,aN 9 .lss 6 8] (au 9 skip (exit 0))).seq ((block 1 (ab [aa 12 1,aa 13 0,aa 14 5,cO 15 (ixaS 2 (t 13) (t 14)),bj 16 2 15,aH 17 127 [t 12,t 16],cO 18 (un UnOp.not (t 17))] (au 18 (ab [cO 4 (mov bd)] ret) skip))).seq (ops 0 [aa 10 5,ap 11 .add 10 1,aa 5 11]))).loop)).seq (ab [cO 4 (mov cP)] ret))))
theorem M5:Is Tryz.prog 74 b74:=mkI Tryz.func74
def b75:F2:=(F2.mk 43 [RV.t 2] (ab [cO 2 (mov (cN 0))] ((ab [aa 6 0,a9 7 6,ap 8 .gtr 7 4096] (au 8 (ab [cO 2 (mov (cN 5))] ret) skip)).seq ((ab [aa 9 0,a9 10 9,cO 11 (mov (cN 0))] (block 0 (ab [aN 12 .lss 11 10] ((au 12 skip (exit 0)).seq ((block 1 (ab [aa 13 11,cO 14 (ixaS 1 (t 9) (t 11)),aE 15 14,aa 3 13,aa 4 15] ((ab [aa 16 4,aH 17 128 [t 16],aa 5 17] (ab [aa 18 5,ap 19 .neq 18 0] (au 19 (ab [aa 20 5,aa 2 20] ret) skip))).seq (block 2 (ab [aa 22 4,a9 23 22,aa 24 0,cO 25 (ixaS 1 (t 24) (cN 0)),aE 26 25,a9 27 26,aN 28 .neq 23 27,aa 21 28] (au 21 (ab [cO 2 (mov (cN 15))] ret) (ab [aa 30 3,ap 31 .gtr 30 0,aa 32 31,an 33 32 (cM 0),an 34 32 (cM 3),an 35 32 (cB .sub (t 34) (cN 1)),an 36 32 (ixaS 1 (t 33) (t 35)),an 37 32 (cD 36),an 38 32 (cM 4),an 39 32 (call (cF 70) [t 37,t 38]),an 40 32 (cB .geq (t 39) (cN 0)),cO 41 (pick (t 32) (t 40) bd),aa 29 41] (au 29 (ab [cO 2 (mov (cN 14))] ret) skip)))))))).seq (ops 0 [ap 42 .add 11 1,aa 11 42])))).loop)).seq (ab [cO 2 (mov (cN 0))] ret)))))
theorem M8:Is Tryz.prog 75 b75:=mkI Tryz.func75
def b76:F2:=(F2.mk 9 [RV.t 2,RV.t 3] (ab [cO 2 (mov (c AV.esl)),cO 3 (mov (cN 0))] ((ab [aa 4 0,a9 5 4,ap 6 .gtr 5 4096] (au 6 (ab [cO 2 (mov (c AV.esl)),cO 3 (mov (cN 5))] ret) skip)).seq (ab [aa 7 0,aH 8 84 [t 7],aa 2 8,cO 3 (mov (cN 0))] ret))))
theorem Nv:Is Tryz.prog 76 b76:=mkI Tryz.func76
def b77:F2:=(F2.mk 52 [RV.t 2] (ab [cO 2 (mov (c AV.esl))] (ab [cO 13 (mkm none),cO 3 (alloc AV.nilm),bw 1 3 13] ((ab [aa 14 0,a9 15 14,cO 16 (mov (cN 0))] (block 0 (ab [aN 17 .lss 16 15] ((au 17 skip (exit 0)).seq ((block 1 (ab [cO 18 (ixaS 1 (t 14) (t 16)),aE 19 18,aa 5 19] (ab [aa 20 5,aH 21 129 [t 20]] (block 2 (rangeF (t 21) [22] (ops 0 [aa 6 22]) (block 3 (ab [cO 7 (alloc (AV.agg [a8,a8,a8,a8,a8,a8,a8,a8,a8,a8,a8,a8,a8,a8,a8,a8]))] (ab [cO 23 (slp 8 2 (t 7)),aa 24 6,cO 25 (cpy 2 (t 23) (t 24))] (ab [aE 27 3,bj 28 16 7,cO 29 (Ins.mget (MK.st [int,int,int,int,int,int,int,int,int,int,int,int,int,int,int,int]) AV.esl true (t 27) (t 28)),aa 26 29,aW 30 26 0,aW 31 26 1,aa 8 30,aa 9 31] (ab [aa 32 9] (au 32 (ops 0 [aE 33 3,bj 34 16 7,Op2.mk none none (mdel (MK.st [int,int,int,int,int,int,int,int,int,int,int,int,int,int,int,int]) (t 33) (t 34))]) (ops 0 [aE 35 3,bj 36 16 7,aa 37 6,Op2.mk none none (mput (MK.st [int,int,int,int,int,int,int,int,int,int,int,int,int,int,int,int]) (t 35) (t 36) (t 37))])))))))))))).seq (ops 0 [ap 38 .add 16 1,aa 16 38])))).loop)).seq (ab [cO 10 (mov (c AV.esl))] ((ab [aE 39 3,cO 40 (mrng (t 39))] (block 4 (ab [cO 41 (mnxt (t 40)),aW 42 41 0] ((au 42 skip (exit 4)).seq (block 5 (ab [cO 43 (ment (t 40)),aW 44 43 1,aa 12 44] (ops 0 [aa 45 10,aa 46 12,cO 47 (bldS 1 1 [AV.esl] [(0,1,t 46)]),cO 48 (app 1 24 (t 45) (t 47)),aa 10 48]))))).loop)).seq (ab [aa 49 10,aH 50 130 ([t 49,c (AV.func 70 [])])] (ab [aa 51 10,aa 2 51] ret))))))))
theorem NA:Is Tryz.prog 77 b77:=mkI Tryz.func77
def b78:F2:=(F2.mk 60 [RV.t 2] (ab [cO 1 (box (t 0)),cO 2 (mov (cN 0))] ((ab [bL 9 0 1,aE 10 9,a9 11 10,ap 12 .gtr 11 4096] (au 12 (ab [cO 2 (mov (cN 5))] ret) skip)).seq ((ab [bL 13 0 1,aE 14 13,a9 15 14,cO 16 (mov (cN 0))] (block 0 (ab [aN 17 .lss 16 15] ((au 17 skip (exit 0)).seq ((block 1 (ab [aa 18 16,cO 19 (ixaS 1 (t 14) (t 16)),aE 20 19,aa 3 18,aa 4 20] ((ab [aa 21 4,aH 22 128 [t 21],aa 5 22] (ab [aa 23 5,ap 24 .neq 23 0] (au 24 (ab [aa 25 5,aa 2 25] ret) skip))).seq (ab [aa 26 3,ap 27 .gtr 26 0,aa 28 27,an 29 28 (fa 0 (t 1)),an 30 28 (cD 29),an 31 28 (cM 3),an 32 28 (cB .sub (t 31) (cN 1)),an 33 28 (ixaS 1 (t 30) (t 32)),an 34 28 (cD 33),an 35 28 (cM 4),an 36 28 (call (cF 70) [t 34,t 35]),an 37 28 (cB .geq (t 36) (cN 0)),cO 38 (pick (t 28) (t 37) bd)] (au 38 (ab [cO 2 (mov (cN 14))] ret) skip))))).seq (ops 0 [ap 39 .add 16 1,aa 16 39])))).loop)).seq (ab [bL 40 0 1,aE 41 40,aH 42 92 [t 41],aa 6 42] ((ab [bL 43 0 1,aE 44 43,a9 45 44,cO 46 (mov (cN 0))] (block 2 (ab [aN 47 .lss 46 45] ((au 47 skip (exit 2)).seq ((block 3 (ab [cO 48 (ixaS 1 (t 44) (t 46)),aE 49 48,aa 8 49] ((mixS 9 [bL 50 0 1,aE 51 50,aa 52 6,aa 53 8,cO 54 (ixaS 2 (t 53) (cN 0)),bj 55 2 54,cO 56 (Ins.mget (MK.st [int,int]) AV.esl false (t 52) (t 55)),aa 57 8,aH 58 131 [t 51,t 56,t 57]] [(0,0),(1,0),(2,0),(3,0),(4,0),(5,0),(7,0),(6,1),(8,2)]).seq (au 58 (ab [cO 2 (mov (cN 7))] ret) skip)))).seq (ops 0 [ap 59 .add 46 1,aa 46 59])))).loop)).seq (ab [cO 2 (mov (cN 0))] ret)))))))
theorem NQ:Is Tryz.prog 78 b78:=mkI Tryz.func78
def b79:F2:=(F2.mk 24 [RV.t 4,RV.t 5] (ab [cO 2 (box (t 0)),cO 4 (mov (c AV.esl)),cO 5 (mov (cN 0))] ((ab [bj 7 1 2,aH 8 78 [t 7],aa 6 8] (ab [aa 9 6,ap 10 .neq 9 0] (au 10 (ab [aa 11 6,cO 4 (mov (c AV.esl)),aa 5 11] ret) skip))).seq ((ab [aa 12 1,ap 13 .lss 12 1,aa 14 13,bi 15 14 (cM 1),bi 16 14 (cB .gtr (t 15) (cN 8)),cO 17 (pick (t 14) cP (t 16))] (au 17 (ab [cO 4 (mov (c AV.esl)),cO 5 (mov (cN 2))] ret) skip)).seq (ab [bL 18 0 2,aE 19 18,aa 20 1,aH 21 87 [t 19,t 20],aW 22 21 0,aW 23 21 1,aa 4 22,aa 5 23] ret)))))
theorem Nc:Is Tryz.prog 79 b79:=mkI Tryz.func79
def b80:F2:=(F2.mk 11 [RV.t 4,RV.t 5] (ab [cO 4 (mov (cN 0)),cO 5 (mov bd)] (ab [aa 6 0,aa 7 1,aH 8 132 ([t 6,t 7,c (AV.func 70 [])]),aW 9 8 0,aW 10 8 1,aa 4 9,aa 5 10] ret)))
theorem Ny:Is Tryz.prog 80 b80:=mkI Tryz.func80
def b81:F2:=(F2.mk 51 [RV.t 4,RV.t 5] (ab [cO 2 (box (t 0)),cO 4 (mov (c AV.nilp)),cO 5 (mov (cN 0))] (ab [bj 11 1 2,aa 12 1,ap 13 .add 12 1,aH 14 58 [t 11,t 13],aa 10 14,aW 15 10 0,aW 16 10 1,cO 6 (alloc (AV.agg [a8,AV.esl])),bw 2 6 15,aa 7 16] ((ab [aa 17 7,ap 18 .neq 17 0] (au 18 (ab [aa 19 7,cO 4 (mov (c AV.nilp)),aa 5 19] ret) skip)).seq (ab [bj 21 1 2,aa 22 1,aH 23 98 [t 21,t 22],aa 20 23,aW 24 20 0,aW 25 20 1,aa 8 24,aa 7 25] ((ab [aa 26 7,ap 27 .neq 26 0] (au 27 (ab [aa 28 7,cO 4 (mov (c AV.nilp)),aa 5 28] ret) skip)).seq (ab [bj 30 2 6,aH 31 133 [t 30],aa 29 31,aW 32 29 0,aW 33 29 1,cO 9 (alloc (AV.agg [a8,AV.esl])),bw 2 9 32,aa 7 33] ((ab [aa 34 7,ap 35 .neq 34 0] (au 35 (ab [aa 36 7,cO 4 (mov (c AV.nilp)),aa 5 36] ret) skip)).seq (ab [aa 37 8,bL 38 0 9,bw 1 38 37] (ab [bj 40 2 9,aH 41 134 [t 40],aa 39 41,aW 42 39 0,aW 43 39 1,bw 2 9 42,aa 7 43] (ab [bj 44 2 9,bL 45 1 9,aE 46 45,a9 47 46,cO 48 (bld [a8,AV.esl,a8] [(0,2,t 44),(2,1,t 47)]),cO 49 (box (t 48)),aa 50 7,aa 4 49,aa 5 50] ret)))))))))))
theorem M7:Is Tryz.prog 81 b81:=mkI Tryz.func81
def b82:F2:=(F2.mk 48 [RV.t 4,RV.t 5] (ab [cO 4 (mov bd),cO 5 (mov (cN 0))] ((mixF [aa 9 0,cO 10 (nilck (t 9)),bL 11 0 10,bL 12 0 11,aE 13 12,aa 14 0,cO 15 (nilck (t 14)),bL 16 0 15,bL 17 1 16,aE 18 17,aH 19 135 [t 18],aa 20 1,cO 21 (bldS 1 1 [AV.esl] [(0,1,t 20)]),cO 22 (app 1 24 (t 19) (t 21)),cO 23 (bld [a8,AV.esl] [(0,1,t 13),(1,1,t 22)]),cO 6 (alloc (AV.agg [a8,AV.esl])),bw 2 6 23] (15,1) [(0,0),(1,0),(2,0),(3,0),(4,0),(5,0),(6,0),(7,0),(8,0),(9,0),(11,0),(12,3),(10,1),(13,1),(14,0)] [(16,2)]).seq (ab [bj 25 2 6,aH 26 97 [t 25],aa 24 26,aW 27 24 0,aW 28 24 1,aa 7 27,aa 8 28] ((ab [aa 29 8,ap 30 .neq 29 0,aa 31 30,bi 32 31 (cM 7),bi 33 31 (cM 0),bi 34 31 (nilck (t 33)),bi 35 31 (fa 2 (t 34)),bi 36 31 (cD 35),bi 37 31 (cB .eql (t 32) (t 36)),cO 38 (pick (t 31) cP (t 37))] (au 38 (ab [aa 39 8,cO 4 (mov bd),aa 5 39] ret) skip)).seq (ab [aa 40 0,aa 41 0,bj 42 2 6,aa 43 7,cO 44 (nilck (t 40)),bL 45 0 44,bw 2 45 42,cO 46 (nilck (t 41)),bL 47 2 46,bw 1 47 43] (ab [cO 4 (mov cP),cO 5 (mov (cN 0))] ret)))))))
theorem NG:Is Tryz.prog 82 b82:=mkI Tryz.func82
def b83:F2:=(F2.mk 14 [RV.t 4,RV.t 5] (ab [cO 2 (box (t 0)),cO 4 (mov (c AV.esl)),cO 5 (mov (cN 0))] ((ab [aa 6 1,ap 7 .lss 6 0] (au 7 (ab [cO 4 (mov (c AV.esl)),cO 5 (mov (cN 0))] ret) skip)).seq (ab [bj 8 1 2,aa 9 1,ap 10 .add 9 1,aH 11 79 [t 8,t 10],aW 12 11 0,aW 13 11 1,aa 4 12,aa 5 13] ret))))
theorem ND:Is Tryz.prog 83 b83:=mkI Tryz.func83
def b84:F2:=(F2.mk 19 [RV.t 2] (ab [cO 2 (mov (c AV.esl))] (ab [cO 3 (mov (c AV.esl))] ((ab [aa 6 0,a9 7 6,cO 8 (mov (cN 0))] (block 0 (ab [aN 9 .lss 8 7] ((au 9 skip (exit 0)).seq ((block 1 (ab [cO 10 (ixaS 1 (t 6) (t 8)),aE 11 10,aa 5 11] (ops 0 [aa 12 3,aa 13 5,aH 14 136 [t 13],cO 15 (bldS 1 1 [AV.esl] [(0,1,t 14)]),cO 16 (app 1 24 (t 12) (t 15)),aa 3 16]))).seq (ops 0 [ap 17 .add 8 1,aa 8 17])))).loop)).seq (ab [aa 18 3,aa 2 18] ret)))))
theorem Nk:Is Tryz.prog 84 b84:=mkI Tryz.func84
def b87:F2:=(F2.mk 60 [RV.t 4,RV.t 5] (ab [cO 4 (mov (c AV.esl)),cO 5 (mov (cN 0))] (ab [cO 14 (mkm none),aa 6 14] (ab [cO 7 (mov (c AV.esl))] ((ab [aa 15 0,a9 16 15,cO 17 (mov (cN 0))] (block 0 (ab [aN 18 .lss 17 16] ((au 18 skip (exit 0)).seq ((block 1 (ab [cO 19 (ixaS 1 (t 15) (t 17)),aE 20 19,aa 9 20] ((ab [aa 21 9,a9 22 21,aa 23 1,aN 24 .lss 22 23] (au 24 (exit 1) skip)).seq (ab [aa 26 9,aa 27 1,aH 28 137 [t 26,t 27],aa 25 28,aW 29 25 0,aW 30 25 1,aa 10 29,aa 11 30] ((ab [aa 31 11,ap 32 .neq 31 0] (au 32 (ab [aa 33 11,cO 4 (mov (c AV.esl)),aa 5 33] ret) skip)).seq ((ab [aa 34 10,a9 35 34,cO 36 (mov (cN 0))] (block 2 (ab [aN 37 .lss 36 35] ((au 37 skip (exit 2)).seq ((block 3 (ab [cO 38 (ixaS 1 (t 34) (t 36)),aE 39 38,aa 13 39] (ab [aa 40 6,aa 41 13,aH 42 138 [t 41],cO 43 (Ins.mget (MK.st [int,int,int,int,int,int,int,int,int,int,int,int,int,int,int,int]) (AV.bool false) false (t 40) (t 42)),cO 44 (un UnOp.not (t 43))] (au 44 (ab [aa 45 6,aa 46 13,aH 47 138 [t 46],Op2.mk none none (mput (MK.st [int,int,int,int,int,int,int,int,int,int,int,int,int,int,int,int]) (t 45) (t 47) cP)] (ops 0 [aa 48 7,aa 49 13,cO 50 (bldS 1 1 [AV.esl] [(0,1,t 49)]),cO 51 (app 1 24 (t 48) (t 50)),aa 7 51])) skip)))).seq (ops 0 [ap 52 .add 36 1,aa 36 52])))).loop)).seq (ab [aa 53 7,a9 54 53,ap 55 .gtr 54 4096] (au 55 (ab [cO 4 (mov (c AV.esl)),cO 5 (mov (cN 17))] ret) skip)))))))).seq (ops 0 [ap 56 .add 17 1,aa 17 56])))).loop)).seq (ab [aa 57 7,aH 58 130 ([t 57,c (AV.func 70 [])])] (ab [aa 59 7,aa 4 59,cO 5 (mov (cN 0))] ret)))))))
theorem Nw:Is Tryz.prog 87 b87:=mkI Tryz.func87
def b92:F2:=(F2.mk 33 [RV.t 2] (ab [cO 2 (mov (c AV.nilm))] (ab [cO 8 (mkm none),aa 3 8] ((ab [aa 9 0,a9 10 9,cO 11 (mov (cN 0))] (block 0 (ab [aN 12 .lss 11 10] ((au 12 skip (exit 0)).seq ((block 1 (ab [aa 13 11,cO 14 (ixaS 1 (t 9) (t 11)),aE 15 14,aa 4 13,aa 5 15] (ab [aa 16 5,a9 17 16,cO 18 (mov (cN 0))] (block 2 (ab [aN 19 .lss 18 17] ((au 19 skip (exit 2)).seq ((block 3 (ab [cO 20 (ixaS 2 (t 16) (t 18)),bj 21 2 20,cO 7 (alloc (AV.agg [a8,a8])),bw 2 7 21] (ops 0 [aa 22 3,bj 23 2 7,aa 25 4,cO 26 (bldS 1 1 [a8] [(0,1,t 25)]),cO 27 (mplc (MK.st [int,int]) AV.esl (t 22) (t 23)),aW 24 27 0,cO 28 (app 1 8 (t 24) (t 26)),aW 29 27 1,Op2.mk none none (mpst (t 22) (t 29) (t 28))]))).seq (ops 0 [ap 30 .add 18 1,aa 18 30])))).loop)))).seq (ops 0 [ap 31 .add 11 1,aa 11 31])))).loop)).seq (ab [aa 32 3,aa 2 32] ret)))))
theorem NN:Is Tryz.prog 92 b92:=mkI Tryz.func92
def b94:F2:=(F2.mk 33 [RV.t 2,RV.t 3] (ab [cO 1 (box (t 0)),cO 2 (mov (cN 0)),cO 3 (mov bd)] (ab [cO 4 (mov (cN 8)),cO 5 (mov (cN 0))] ((ab [bL 8 0 1,aE 9 8,a9 10 9,cO 11 (mov (cN 0))] (block 0 (ab [aN 12 .lss 11 10] ((au 12 skip (exit 0)).seq ((block 1 (ab [cO 13 (ixaS 1 (t 9) (t 11)),aE 14 13,aa 7 14] (ops 0 [aa 15 4,aa 16 7,a9 17 16,cO 18 (mn (t 15) [t 17]),aa 19 5,aa 20 7,a9 21 20,cO 22 (mx (t 19) [t 21]),aa 4 18,aa 5 22]))).seq (ops 0 [ap 23 .add 11 1,aa 11 23])))).loop)).seq (ab [aa 24 5,ap 25 .sub 24 1,aa 26 5,ap 27 .eql 26 0,aa 28 27,bi 29 28 (cM 4),bi 30 28 (cM 5),bi 31 28 (cB .eql (t 29) (t 30)),cO 32 (pick (t 28) cP (t 31)),aa 2 25,aa 3 32] ret)))))
theorem Ng:Is Tryz.prog 94 b94:=mkI Tryz.func94
def b95:F2:=(F2.mk 19 [RV.t 2] (ab [cO 2 (mov bd)] ((ab [aa 4 0,a9 5 4,ap 6 .gtr 5 30] (au 6 (ab [cO 2 (mov bd)] ret) skip)).seq ((ab [cO 3 (mov (cN 0))] (block 0 ((ab [aa 7 3,aa 8 0,a9 9 8,aN 10 .lss 7 9] (au 10 skip (exit 0))).seq ((block 1 (ab [aa 13 0,aa 14 3,cO 15 (ixaS 1 (t 13) (t 14)),aE 16 15,aH 17 145 [t 16],cO 18 (un UnOp.not (t 17))] (au 18 (ab [cO 2 (mov bd)] ret) skip))).seq (ops 0 [aa 11 3,ap 12 .add 11 1,aa 3 12]))).loop)).seq (ab [cO 2 (mov cP)] ret)))))
theorem NW:Is Tryz.prog 95 b95:=mkI Tryz.func95
def b96:F2:=(F2.mk 20 [RV.t 2,RV.t 3,RV.t 4] (ab [cO 1 (box (t 0)),cO 2 (mov (cN 0)),cO 3 (mov bd),cO 4 (mov (cN 0))] ((ab [bj 8 1 1,aH 9 78 [t 8],aa 5 9] (ab [aa 10 5,ap 11 .neq 10 0] (au 11 (ab [aa 12 5,cO 2 (mov (cN 0)),cO 3 (mov bd),aa 4 12] ret) skip))).seq (ab [bj 14 1 1,aH 15 94 [t 14],aa 13 15,aW 16 13 0,aW 17 13 1,aa 6 16,aa 7 17] (ab [aa 18 6,aa 19 7,aa 2 18,aa 3 19,cO 4 (mov (cN 0))] ret)))))
theorem NC:Is Tryz.prog 96 b96:=mkI Tryz.func96
def b97:F2:=(F2.mk 15 [RV.t 2,RV.t 3] (ab [cO 1 (box (t 0)),cO 2 (mov (cN 0)),cO 3 (mov (cN 0))] (ab [bj 7 2 1,aH 8 134 [t 7],aa 6 8,aW 9 6 0,aW 10 6 1,cO 4 (alloc (AV.agg [a8,AV.esl])),bw 2 4 9,aa 5 10] (ab [bL 11 1 4,aE 12 11,a9 13 12,aa 14 5,aa 2 13,aa 3 14] ret))))
theorem Nr:Is Tryz.prog 97 b97:=mkI Tryz.func97
def b98:F2:=(F2.mk 24 [RV.t 4,RV.t 5] (ab [cO 2 (box (t 0)),cO 4 (mov (cN 0)),cO 5 (mov (cN 0))] ((ab [aa 8 1,ap 9 .lss 8 0,aa 10 9,bi 11 10 (cM 1),bi 12 10 (cB .geq (t 11) (cN 8)),cO 13 (pick (t 10) cP (t 12))] (au 13 (ab [cO 4 (mov (cN 0)),cO 5 (mov (cN 0))] ret) skip)).seq (ab [bj 15 1 2,aa 16 1,ap 17 .add 16 1,aH 18 79 [t 15,t 17],aa 14 18,aW 19 14 0,aW 20 14 1,aa 6 19,aa 7 20] (ab [aa 21 6,a9 22 21,aa 23 7,aa 4 22,aa 5 23] ret)))))
theorem NV:Is Tryz.prog 98 b98:=mkI Tryz.func98
def b99:F2:=(F2.mk 26 [RV.t 4,RV.t 5] (ab [cO 2 (box (t 0)),cO 4 (mov (c AV.esl)),cO 5 (mov (cN 0))] ((ab [bj 8 1 2,aH 9 28 [t 8],aa 6 9] (ab [aa 10 6,ap 11 .neq 10 0] (au 11 (ab [aa 12 6,cO 4 (mov (c AV.esl)),aa 5 12] ret) skip))).seq ((ab [aa 13 1,ap 14 .lss 13 1,aa 15 14,bi 16 15 (cM 1),bi 17 15 (cB .gtr (t 16) (cN 8)),cO 18 (pick (t 15) cP (t 17))] (au 18 (ab [cO 4 (mov (c AV.esl)),cO 5 (mov (cN 2))] ret) skip)).seq (ab [bj 19 1 2,aa 20 1,aH 21 51 [t 19,t 20],aa 7 21] ((ab [aa 22 7,a9 23 22,ap 24 .gtr 23 4096] (au 24 (ab [cO 4 (mov (c AV.esl)),cO 5 (mov (cN 17))] ret) skip)).seq (ab [aa 25 7,aa 4 25,cO 5 (mov (cN 0))] ret)))))))
theorem Nh:Is Tryz.prog 99 b99:=mkI Tryz.func99
def Lk:F2:=(F2.mk 11 [RV.t 4] (ab [cO 2 (box (t 0)),cO 4 (mov (cN 0))] (ab [bj 5 1 2,aa 6 1,aH 7 53 [t 5,t 6],aH 8 106 [t 7],cO 9 (part1 1 (t 8)),a9 10 9,aa 4 10] ret)))
theorem Lh:Is Tryz.prog 100 Lk:=mkI Tryz.func100
def LD:F2:=(F2.mk 19 [RV.t 4] (ab [cO 4 (mov (cN 0))] ((ab [aa 6 0,a9 7 6,cO 8 (mov (cN 0))] (block 0 (ab [aN 9 .lss 8 7] ((au 9 skip (exit 0)).seq ((block 1 (ab [aa 10 8,aa 5 10] (ab [aa 11 1,aa 12 0,aa 13 5,cO 14 (ixaS 1 (t 12) (t 13)),aE 15 14,cO 16 (call (t 11) [t 15])] (au 16 (ab [aa 17 5,aa 4 17] ret) skip)))).seq (ops 0 [ap 18 .add 8 1,aa 8 18])))).loop)).seq (ab [cO 4 (mov (cN ((-1))))] ret))))
theorem Lm:Is Tryz.prog 101 LD:=mkI Tryz.func101
def LW:F2:=(F2.mk 64 [] (ab [bj 13 1 1,aE 14 2,aH 15 81 [t 13,t 14],aa 12 15,aW 16 12 0,aW 17 12 1,aa 4 16,aa 5 17] (ab [cO 6 (alloc (AV.agg [a8,AV.esl]))] ((ab [aa 18 5,ap 19 .eql 18 0] (au 19 (ab [cO 7 (alloc (AV.agg [a8,AV.esl]))] (ab [bj 21 1 1,aE 22 2,aH 23 58 [t 21,t 22],aa 20 23,aW 24 20 0,aW 25 20 1,bw 2 7 24,aa 5 25] (ab [aa 26 5,ap 27 .eql 26 0] (au 27 (ops 0 [bj 29 2 7,aH 30 103 [t 29],aa 28 30,aW 31 28 0,aW 32 28 1,bw 2 6 31,aa 5 32]) skip)))) skip)).seq ((ab [aa 33 5,ap 34 .neq 33 0] (au 34 (ab [aa 35 0,aa 36 5,cO 37 (call (t 35) [c AV.esl,t 36])] ret) skip)).seq (ab [bL 38 1 6,aE 39 38,a9 40 39,cO 41 (mov (cN 0))] (block 0 (ab [aN 42 .lss 41 40] ((au 42 skip (exit 0)).seq ((block 1 (ab [cO 43 (ixaS 1 (t 39) (t 41)),aE 44 43,aa 9 44] (ab [aa 46 4,aa 47 9,aH 48 82 [t 46,t 47],aa 45 48,aW 49 45 0,aW 50 45 1,aa 10 49,aa 11 50] (ab [aa 51 10,aa 52 51,bi 53 52 (cM 11),bi 54 52 (cB .neq (t 53) (cN 0)),cO 55 (pick (t 52) cP (t 54)),aa 56 55,an 57 56 (cM 0),an 58 56 (cM 9),an 59 56 (cM 11),an 60 56 (call (t 57) [t 58,t 59]),an 61 56 (un UnOp.not (t 60)),cO 62 (pick (t 56) (t 61) bd)] (au 62 ret skip))))).seq (ops 0 [ap 63 .add 41 1,aa 41 63])))).loop)))))))
theorem L8:Is Tryz.prog 102 LW:=mkI Tryz.func102
def KY:F2:=(F2.mk 76 [RV.cn 2 2,RV.t 3] (ab [cO 1 (box (t 0)),cO 2 (alloc (AV.agg [a8,AV.esl])),cO 3 (mov (cN 0))] (ab [bj 15 2 1,aH 16 134 [t 15],aa 14 16,aW 17 14 0,aW 18 14 1,cO 4 (alloc (AV.agg [a8,AV.esl])),bw 2 4 17,aa 5 18] ((ab [aa 19 5,ap 20 .neq 19 0] (au 20 (ab [cO 21 (bld [a8,AV.esl] []),aa 22 5,bw 2 2 21,aa 3 22] ret) skip)).seq (ab [bL 23 0 1,aE 24 23,cO 25 (bld [a8,AV.esl] [(0,1,t 24)]),cO 6 (alloc (AV.agg [a8,AV.esl])),bw 2 6 25] (ab [cO 26 (mkm none),aa 7 26] ((ab [bL 27 1 4,aE 28 27,a9 29 28,cO 30 (mov (cN 0))] (block 0 (ab [aN 31 .lss 30 29] ((au 31 skip (exit 0)).seq ((block 1 (ab [cO 32 (ixaS 1 (t 28) (t 30)),aE 33 32,aa 9 33] (ops 0 [aa 34 7,aa 35 9,cO 36 (ixaS 1 (t 35) (cN 0)),aE 37 36,Op2.mk none none (mput (one int) (t 34) (t 37) cP)]))).seq (ops 0 [ap 38 .add 30 1,aa 30 38])))).loop)).seq ((ab [bL 39 0 1,aE 40 39,cO 41 (mov (cN 0))] (block 2 (ab [aN 42 .lss 41 40] ((au 42 skip (exit 2)).seq ((block 3 (ab [aa 43 41,aa 10 43] ((ab [aa 44 7,aa 45 10,cO 46 (Ins.mget (one int) (AV.bool false) false (t 44) (t 45))] (au 46 (exit 3) skip)).seq (ab [aa 47 10,cO 48 (bldS 1 1 [a8] [(0,1,t 47)]),aa 11 48] ((ab [bL 49 1 4,aE 50 49,a9 51 50,cO 52 (mov (cN 0))] (block 4 (ab [aN 53 .lss 52 51] ((au 53 skip (exit 4)).seq ((block 5 (ab [cO 54 (ixaS 1 (t 50) (t 52)),aE 55 54,aa 13 55] (ab [aa 56 13,aa 57 10,aH 58 146 [t 56,t 57]] (au 58 (ops 0 [aa 59 11,aa 60 13,cO 61 (ixaS 1 (t 60) (cN 0)),aE 62 61,cO 63 (bldS 1 1 [a8] [(0,1,t 62)]),cO 64 (app 1 8 (t 59) (t 63)),aa 11 64]) skip)))).seq (ops 0 [ap 65 .add 52 1,aa 52 65])))).loop)).seq (ab [aa 66 11,aH 67 147 [t 66]] (ops 0 [bL 68 1 6,aE 69 68,aa 70 11,cO 71 (bldS 1 1 [AV.esl] [(0,1,t 70)]),cO 72 (app 1 24 (t 69) (t 71)),bL 73 1 6,bw 1 73 72]))))))).seq (ops 0 [ap 74 .add 41 1,aa 41 74])))).loop)).seq (ab [bj 75 2 6,bw 2 2 75,cO 3 (mov (cN 0))] ret)))))))))
theorem Kx:Is Tryz.prog 103 KY:=mkI Tryz.func103
def JI:F2:=(F2.mk 47 [RV.t 4] (ab [cO 4 (mov (c AV.esl))] ((ab [aa 9 1,ap 10 .eql 9 0] (au 10 (ab [cO 11 (bldS 1 1 [AV.esl] [(0,1,c AV.esl)]),aa 4 11] ret) skip)).seq (ab [cO 5 (mov (c AV.esl))] ((ab [cO 6 (mov (cN 0))] (block 0 ((ab [aa 12 6,aa 13 1,aN 14 .add 12 13,aa 15 0,a9 16 15,aN 17 .leq 14 16] (au 17 skip (exit 0))).seq ((block 1 (ab [aa 20 0,aa 21 6,ap 22 .add 21 1,cO 23 (sls 2 (t 20) (some (t 22)) none none),aa 24 1,ap 25 .sub 24 1,aH 26 104 [t 23,t 25],aa 7 26] (ab [cO 8 (mov (cN 0))] (block 2 ((ab [aa 27 8,aa 28 7,a9 29 28,aN 30 .lss 27 29] (au 30 skip (exit 2))).seq ((block 3 (mixS 9 [aa 33 5,aa 34 0,aa 35 6,cO 36 (ixaS 2 (t 34) (t 35)),bj 37 2 36,cO 38 (bldS 2 1 [a8,a8] [(0,2,t 37)]),aa 39 7,aa 40 8,cO 41 (ixaS 1 (t 39) (t 40)),aE 42 41,cO 43 (app 2 16 (t 38) (t 42)),cO 44 (bldS 1 1 [AV.esl] [(0,1,t 43)]),cO 45 (app 1 24 (t 33) (t 44)),aa 5 45] [(0,0),(1,0),(2,0),(3,0),(4,0),(6,0),(7,0),(8,0),(9,0),(5,1),(10,2),(11,3),(12,2),(13,0)])).seq (ops 0 [aa 31 8,ap 32 .add 31 1,aa 8 32]))).loop)))).seq (ops 0 [aa 18 6,ap 19 .add 18 1,aa 6 19]))).loop)).seq (ab [aa 46 5,aa 4 46] ret))))))
theorem HV:Is Tryz.prog 104 JI:=mkI Tryz.func104
def Ma:F2:=(F2.mk 48 [RV.t 4] (ab [cO 4 (mov (c AV.esl))] (ab [cO 5 (mov (c AV.esl))] (ab [cO 6 (mov bd)] ((ab [cO 7 (mov (cN 0))] (block 0 ((ab [aa 9 7,aa 10 0,a9 11 10,aN 12 .lss 9 11] (au 12 skip (exit 0))).seq ((block 1 (ab [aa 15 1,aa 16 0,aa 17 7,cO 18 (ixaS 1 (t 16) (t 17)),aE 19 18,aH 20 73 [t 15,t 19],aa 8 20] ((ab [aa 21 8,ap 22 .eql 21 0] (au 22 (ab [aa 23 0,aa 4 23] ret) skip)).seq ((ab [aa 24 6,cO 25 (un UnOp.not (t 24)),aa 26 25,an 27 26 (cM 8),an 28 26 (cB .lss (t 27) (cN 0)),cO 29 (pick (t 26) (t 28) bd)] (au 29 (ops 0 [aa 30 5,aa 31 1,cO 32 (bldS 1 1 [AV.esl] [(0,1,t 31)]),cO 33 (app 1 24 (t 30) (t 32)),aa 5 33,cO 6 (mov cP)]) skip)).seq (ops 0 [aa 34 5,aa 35 0,aa 36 7,cO 37 (ixaS 1 (t 35) (t 36)),aE 38 37,cO 39 (bldS 1 1 [AV.esl] [(0,1,t 38)]),cO 40 (app 1 24 (t 34) (t 39)),aa 5 40]))))).seq (ops 0 [aa 13 7,ap 14 .add 13 1,aa 7 14]))).loop)).seq ((ab [aa 41 6,cO 42 (un UnOp.not (t 41))] (au 42 (ops 0 [aa 43 5,aa 44 1,cO 45 (bldS 1 1 [AV.esl] [(0,1,t 44)]),cO 46 (app 1 24 (t 43) (t 45)),aa 5 46]) skip)).seq (ab [aa 47 5,aa 4 47] ret)))))))
theorem Mq:Is Tryz.prog 105 Ma:=mkI Tryz.func105
def Jw:F2:=(F2.mk 81 [RV.cn 2 2] (ab [cO 1 (box (t 0)),cO 2 (alloc (AV.agg [a8,AV.esl]))] (ab [cO 3 (mov (c AV.esl))] (ab [aa 9 3,bL 10 1 1,aE 11 10,cO 12 (app 1 24 (t 9) (t 11)),aa 3 12] (ab [cO 4 (mov (cN 0))] ((ab [cO 5 (mov (cN 0))] (block 0 ((ab [aa 13 5,bL 14 0 1,aE 15 14,aN 16 .lss 13 15] (au 16 skip (exit 0))).seq ((block 1 (ab [aa 19 3,aa 20 4,aa 21 5,aH 22 148 [t 19,t 20,t 21],aa 6 22] ((ab [aa 23 6,ap 24 .lss 23 0] (au 24 (exit 1) skip)).seq ((ops 1 [aa 25 3,aa 26 4,aa 27 3,aa 28 6,aa 29 3,aa 30 6,cO 31 (ixaS 1 (t 29) (t 30)),aE 32 31,aa 33 3,aa 34 4,cO 35 (ixaS 1 (t 33) (t 34)),aE 36 35,cO 37 (ixaS 1 (t 25) (t 26)),bw 1 37 32,cO 38 (ixaS 1 (t 27) (t 28)),bw 1 38 36]).seq ((ab [cO 7 (mov (cN 0))] (block 2 ((ab [aa 39 7,aa 40 3,a9 41 40,aN 42 .lss 39 41] (au 42 skip (exit 2))).seq ((block 3 (ab [aa 45 7,aa 46 4,aN 47 .neq 45 46,aa 48 47,an 49 48 (cM 3),an 50 48 (cM 7),an 51 48 (ixaS 1 (t 49) (t 50)),an 52 48 (cD 51),an 53 48 (cM 5),an 54 48 (call (cF 108) [t 52,t 53]),cO 55 (pick (t 48) (t 54) bd)] (au 55 (mixS 1 [aa 56 3,aa 57 7,aa 58 3,aa 59 7,cO 60 (ixaS 1 (t 58) (t 59)),aE 61 60,aa 62 3,aa 63 4,cO 64 (ixaS 1 (t 62) (t 63)),aE 65 64,aH 66 109 [t 61,t 65],cO 67 (ixaS 1 (t 56) (t 57)),bw 1 67 66] [(0,0),(1,0),(2,0),(3,0),(4,0),(5,0),(6,0),(7,0),(8,0),(9,0),(10,2),(11,0),(12,2)]) skip))).seq (ops 0 [aa 43 7,ap 44 .add 43 1,aa 7 44]))).loop)).seq (ops 0 [aa 68 4,ap 69 .add 68 1,aa 4 69])))))).seq (ops 0 [aa 17 5,ap 18 .add 17 1,aa 5 18]))).loop)).seq (ab [bL 70 0 1,aE 71 70,cO 72 (bld [a8,AV.esl] [(0,1,t 71)]),cO 8 (alloc (AV.agg [a8,AV.esl])),bw 2 8 72] ((ops 1 [bL 73 1 8,aE 74 73,aa 75 3,aa 76 4,cO 77 (sls 1 (t 75) none (some (t 76)) none),cO 78 (app 1 24 (t 74) (t 77)),bL 79 1 8,bw 1 79 78]).seq (ab [bj 80 2 8,bw 2 2 80] ret)))))))))
theorem Ib:Is Tryz.prog 106 Jw:=mkI Tryz.func106
def Kj:F2:=(F2.mk 18 [RV.t 4] (ab [cO 4 (mov bd)] ((ab [cO 5 (mov (cN 0))] (block 0 ((ab [aa 6 5,aa 7 0,a9 8 7,aN 9 .lss 6 8] (au 9 skip (exit 0))).seq ((block 1 (ab [aa 12 0,aa 13 5,cO 14 (ixaS 1 (t 12) (t 13)),aE 15 14,aa 16 1,aN 17 .eql 15 16] (au 17 (ab [cO 4 (mov cP)] ret) skip))).seq (ops 0 [aa 10 5,ap 11 .add 10 1,aa 5 11]))).loop)).seq (ab [cO 4 (mov bd)] ret))))
theorem MR:Is Tryz.prog 108 Kj:=mkI Tryz.func108
def LZ:F2:=(F2.mk 77 [RV.t 4] (ab [cO 4 (mov (c AV.esl))] (ab [cO 5 (mov (c AV.esl))] (ab [cO 6 (mov (cN 0)),cO 7 (mov (cN 0))] ((block 0 ((ab [aa 8 6,aa 9 0,a9 10 9,aN 11 .lss 8 10,aa 12 11,bi 13 12 (cM 7),bi 14 12 (cM 1),bi 15 12 (lenS (t 14)),bi 16 12 (cB .lss (t 13) (t 15)),cO 17 (pick (t 12) cP (t 16))] (au 17 skip (exit 0))).seq (block 1 ((ops 1 [aa 18 7,aa 19 1,a9 20 19,aN 21 .eql 18 20,aa 22 21,bi 23 22 (cM 6),bi 24 22 (cM 0),bi 25 22 (lenS (t 24)),bi 26 22 (cB .lss (t 23) (t 25)),bi 27 22 (cM 26),an 28 27 (cM 0),an 29 27 (cM 6),an 30 27 (ixaS 1 (t 28) (t 29)),an 31 27 (cD 30),an 32 27 (cM 1),an 33 27 (cM 7),an 34 27 (ixaS 1 (t 32) (t 33)),an 35 27 (cD 34),an 36 27 (cB .lss (t 31) (t 35)),bi 37 22 (pick (t 27) (t 36) bd),cO 38 (pick (t 22) cP (t 37))]).seq (au 38 (ab [aa 39 5,aa 40 0,aa 41 6,cO 42 (ixaS 1 (t 40) (t 41)),aE 43 42,cO 44 (bldS 1 1 [a8] [(0,1,t 43)]),cO 45 (app 1 8 (t 39) (t 44)),aa 5 45] (ops 0 [aa 46 6,ap 47 .add 46 1,aa 6 47])) ((ops 1 [aa 48 6,aa 49 0,a9 50 49,aN 51 .eql 48 50,aa 52 51,bi 53 52 (cM 1),bi 54 52 (cM 7),bi 55 52 (ixaS 1 (t 53) (t 54)),bi 56 52 (cD 55),bi 57 52 (cM 0),bi 58 52 (cM 6),bi 59 52 (ixaS 1 (t 57) (t 58)),bi 60 52 (cD 59),bi 61 52 (cB .lss (t 56) (t 60)),cO 62 (pick (t 52) cP (t 61))]).seq (au 62 (ab [aa 63 5,aa 64 1,aa 65 7,cO 66 (ixaS 1 (t 64) (t 65)),aE 67 66,cO 68 (bldS 1 1 [a8] [(0,1,t 67)]),cO 69 (app 1 8 (t 63) (t 68)),aa 5 69] (ops 0 [aa 70 7,ap 71 .add 70 1,aa 7 71])) (ab [aa 72 6,ap 73 .add 72 1,aa 6 73] (ops 0 [aa 74 7,ap 75 .add 74 1,aa 7 75])))))))).loop).seq (ab [aa 76 5,aa 4 76] ret))))))
theorem KD:Is Tryz.prog 109 LZ:=mkI Tryz.func109
def J8:F2:=(F2.mk 44 [RV.cn 4 2] (ab [cO 4 (alloc (AV.agg [a8,AV.esl]))] (ab [aa 9 0,a9 10 9,cO 11 (bld [a8,AV.esl] [(0,1,t 10)]),cO 5 (alloc (AV.agg [a8,AV.esl])),bw 2 5 11] ((ab [cO 6 (mov (cN 0))] (block 0 ((ab [aa 12 6,aa 13 1,a9 14 13,aN 15 .lss 12 14] (au 15 skip (exit 0))).seq ((block 1 (ab [cO 7 (mov (c AV.esl))] ((ab [cO 8 (mov (cN 0))] (block 2 ((ab [aa 18 8,aa 19 0,a9 20 19,aN 21 .lss 18 20] (au 21 skip (exit 2))).seq ((block 3 ((mixS 1 [aa 24 1,aa 25 6,cO 26 (ixaS 1 (t 24) (t 25)),aE 27 26,aa 28 0,aa 29 8,cO 30 (ixaS 1 (t 28) (t 29)),aE 31 30,aH 32 74 [t 27,t 31]] [(0,0),(1,0),(2,0),(3,0),(4,0),(5,0),(6,0),(7,0),(8,2)]).seq (au 32 (ops 0 [aa 33 7,aa 34 8,cO 35 (bldS 1 1 [a8] [(0,1,t 34)]),cO 36 (app 1 8 (t 33) (t 35)),aa 7 36]) skip))).seq (ops 0 [aa 22 8,ap 23 .add 22 1,aa 8 23]))).loop)).seq (ops 0 [bL 37 1 5,aE 38 37,aa 39 7,cO 40 (bldS 1 1 [AV.esl] [(0,1,t 39)]),cO 41 (app 1 24 (t 38) (t 40)),bL 42 1 5,bw 1 42 41])))).seq (ops 0 [aa 16 6,ap 17 .add 16 1,aa 6 17]))).loop)).seq (ab [bj 43 2 5,bw 2 4 43] ret)))))
theorem La:Is Tryz.prog 110 J8:=mkI Tryz.func110
def K6:F2:=(F2.mk 87 [RV.cn 4 2,RV.t 5] (ab [cO 2 (box (t 0)),cO 4 (alloc (AV.agg [a8,AV.esl])),cO 5 (mov (cN 0))] ((ab [bj 16 1 2,aH 17 78 [t 16],aa 6 17] (ab [aa 18 6,ap 19 .neq 18 0] (au 19 (ab [cO 20 (bld [a8,AV.esl] []),aa 21 6,bw 2 4 20,aa 5 21] ret) skip))).seq ((ab [aa 22 1,ap 23 .lss 22 0,aa 24 23,bi 25 24 (cM 1),bi 26 24 (cB .geq (t 25) (cN 8)),cO 27 (pick (t 24) cP (t 26))] (au 27 (ab [cO 28 (bld [a8,AV.esl] []),bw 2 4 28,cO 5 (mov (cN 2))] ret) skip)).seq (ab [bj 30 1 2,aa 31 1,aH 32 83 [t 30,t 31],aa 29 32,aW 33 29 0,aW 34 29 1,aa 7 33,aa 8 34] ((ab [aa 35 8,ap 36 .neq 35 0] (au 36 (ab [cO 37 (bld [a8,AV.esl] []),aa 38 8,bw 2 4 37,aa 5 38] ret) skip)).seq (ab [bj 40 1 2,aa 41 1,ap 42 .sub 41 1,aH 43 83 [t 40,t 42],aa 39 43,aW 44 39 0,aW 45 39 1,cO 9 (alloc AV.esl),bw 1 9 44,aa 8 45] ((ab [aa 46 8,ap 47 .neq 46 0] (au 47 (ab [cO 48 (bld [a8,AV.esl] []),aa 49 8,bw 2 4 48,aa 5 49] ret) skip)).seq (ab [aa 50 7,a9 51 50,aE 52 9,a9 53 52,cO 54 (mks 1 24 [AV.esl] (t 53) (t 53)),cO 55 (bld [a8,AV.esl] [(0,1,t 51),(1,1,t 54)]),cO 10 (alloc (AV.agg [a8,AV.esl])),bw 2 10 55] ((ab [aa 56 7,a9 57 56,cO 58 (mov (cN 0))] (block 0 (ab [aN 59 .lss 58 57] ((au 59 skip (exit 0)).seq ((block 1 (ab [aa 60 58,cO 61 (ixaS 1 (t 56) (t 58)),aE 62 61,cO 11 (alloc (a8)),bw 1 11 60,aa 12 62] (ab [aa 63 12,aH 64 129 [t 63]] (block 2 (rangeF (t 64) [65] (ops 0 [aa 13 65]) (block 3 (ab [aE 67 9,aa 68 13,aH 69 80 [t 67,t 68],aa 66 69,aW 70 66 0,aW 71 66 1,aa 14 70,aa 15 71] (ab [aa 72 15] (au 72 (mixS 2 [bL 73 1 10,aE 74 73,aa 75 14,bL 76 1 10,aE 77 76,aa 78 14,cO 79 (ixaS 1 (t 77) (t 78)),aE 80 79,aE 81 11,cO 82 (bldS 1 1 [a8] [(0,1,t 81)]),cO 83 (app 1 8 (t 80) (t 82)),cO 84 (ixaS 1 (t 74) (t 75)),bw 1 84 83] [(0,0),(1,0),(2,0),(3,0),(4,0),(5,0),(6,0),(7,0),(8,0),(9,1),(10,1),(11,0),(12,2)]) skip))))))))).seq (ops 0 [ap 85 .add 58 1,aa 58 85])))).loop)).seq (ab [bj 86 2 10,bw 2 4 86,cO 5 (mov (cN 0))] ret)))))))))))
theorem Ll:Is Tryz.prog 112 K6:=mkI Tryz.func112
def KC:F2:=(F2.mk 35 [RV.t 2] (ab [cO 1 (box (t 0)),cO 2 (mov (cN 0))] ((block 0 (ab [bL 7 0 1,aE 8 7,ap 9 .lss 8 0,aa 10 9,bi 11 10 (fa 0 (t 1)),bi 12 10 (cD 11),bi 13 10 (cB .gtr (t 12) (cN 4096)),cO 14 (pick (t 10) cP (t 13)),aa 6 14] (au 6 (ab [cO 2 (mov (cN 2))] ret) (ab [bL 16 1 1,aE 17 16,a9 18 17,ap 19 .gtr 18 4096,aa 15 19] (au 15 (ab [cO 2 (mov (cN 5))] ret) skip))))).seq ((ab [bL 20 1 1,aE 21 20,a9 22 21,cO 23 (mov (cN 0))] (block 1 (ab [aN 24 .lss 23 22] ((au 24 skip (exit 1)).seq ((block 2 (ab [cO 25 (ixaS 1 (t 21) (t 23)),aE 26 25,aa 4 26] (ab [aa 27 4,bL 28 0 1,aE 29 28,aH 30 114 [t 27,t 29],aa 5 30] (ab [aa 31 5,ap 32 .neq 31 0] (au 32 (ab [aa 33 5,aa 2 33] ret) skip))))).seq (ops 0 [ap 34 .add 23 1,aa 23 34])))).loop)).seq (ab [cO 2 (mov (cN 0))] ret)))))
theorem MJ:Is Tryz.prog 113 KC:=mkI Tryz.func113
def L0:F2:=(F2.mk 35 [RV.t 4] (ab [cO 4 (mov (cN 0))] ((ab [aa 7 0,a9 8 7,cO 9 (mov (cN 0))] (block 0 (ab [aN 10 .lss 9 8] ((au 10 skip (exit 0)).seq ((block 1 (ab [aa 11 9,cO 12 (ixaS 1 (t 7) (t 9)),aE 13 12,aa 5 11,aa 6 13] (block 2 (ab [aa 15 6,ap 16 .lss 15 0,aa 17 16,bi 18 17 (cM 6),bi 19 17 (cM 1),bi 20 17 (cB .geq (t 18) (t 19)),cO 21 (pick (t 17) cP (t 20)),aa 14 21] (au 14 (ab [cO 4 (mov (cN 2))] ret) (ab [aa 23 5,ap 24 .gtr 23 0,aa 25 24,an 26 25 (cM 0),an 27 25 (cM 5),an 28 25 (cB .sub (t 27) (cN 1)),an 29 25 (ixaS 1 (t 26) (t 28)),an 30 25 (cD 29),an 31 25 (cM 6),an 32 25 (cB .geq (t 30) (t 31)),cO 33 (pick (t 25) (t 32) bd),aa 22 33] (au 22 (ab [cO 4 (mov (cN 14))] ret) skip))))))).seq (ops 0 [ap 34 .add 9 1,aa 9 34])))).loop)).seq (ab [cO 4 (mov (cN 0))] ret))))
theorem Mo:Is Tryz.prog 114 L0:=mkI Tryz.func114
def LF:F2:=(F2.mk 95 [RV.t 2,RV.t 3] (ab [cO 1 (box (t 0)),cO 2 (mov (c AV.esl)),cO 3 (mov (c AV.esl))] (ab [cO 16 (mkm none),cO 4 (alloc AV.nilm),bw 1 4 16] (ab [cO 17 (mkfn 149 [t 4]),aa 5 17] (ab [cO 6 (mov (c AV.esl))] ((ab [bL 18 1 1,aE 19 18,a9 20 19,cO 21 (mov (cN 0))] (block 0 (ab [aN 22 .lss 21 20] ((au 22 skip (exit 0)).seq ((block 1 (ab [aa 23 21,cO 24 (ixaS 1 (t 19) (t 21)),aE 25 24,aa 7 23,aa 8 25] (ab [aa 26 5,aa 27 8,aH 28 150 [t 27],aa 29 7,cO 30 (bldS 1 1 [a8] [(0,1,t 29)]),cO 31 (bld [AV.esl,AV.esl] [(0,1,t 28),(1,1,t 30)]),cO 32 (call (t 26) [t 31]),cO 9 (alloc (AV.agg [AV.esl,AV.esl])),bw 2 9 32] ((ab [bL 33 0 9,aE 34 33,a9 35 34,ap 36 .eql 35 0] (au 36 (ab [aa 37 6,bL 38 1 9,aE 39 38,cO 40 (bldS 1 1 [AV.esl] [(0,1,t 39)]),cO 41 (app 1 24 (t 37) (t 40)),aa 6 41] (exit 1)) skip)).seq ((ab [aE 42 4,cO 43 (mrng (t 42))] (block 2 (ab [cO 44 (mnxt (t 43)),aW 45 44 0] ((au 45 skip (exit 2)).seq (block 3 (ab [cO 46 (ment (t 43)),aW 47 46 0,aW 48 46 1,cO 11 (alloc (AV.agg [AV.esl,AV.esl])),aa 10 47,bw 2 11 48] ((mixS 1 [bL 49 0 11,aE 50 49,bL 51 0 9,aE 52 51,cO 53 (ixaS 1 (t 52) (cN 0)),aE 54 53,aH 55 146 [t 50,t 54]] [(0,0),(1,0),(2,0),(3,0),(4,0),(5,0),(6,2)]).seq (au 55 (mixS 9 [aE 56 4,aa 57 10,bL 58 0 11,aE 59 58,bL 60 0 9,aE 61 60,aH 62 124 [t 59,t 61],bL 63 1 11,aE 64 63,bL 65 1 9,aE 66 65,aH 67 124 [t 64,t 66],cO 68 (bld [AV.esl,AV.esl] [(0,1,t 62),(1,1,t 67)]),Op2.mk none none (mput (one int) (t 56) (t 57) (t 68))] [(0,0),(1,0),(2,0),(3,0),(4,0),(5,0),(7,0),(8,0),(9,0),(10,0),(6,1),(11,1),(12,0),(13,2)]) skip)))))).loop)).seq (mixS 9 [aE 69 4,bL 70 0 9,aE 71 70,cO 72 (ixaS 1 (t 71) (cN 0)),aE 73 72,bj 74 2 9,Op2.mk none none (mput (one int) (t 69) (t 73) (t 74))] [(0,0),(1,0),(2,0),(3,0),(4,0),(5,0),(6,2)])))))).seq (ops 0 [ap 75 .add 21 1,aa 21 75])))).loop)).seq (ab [cO 12 (mov (c AV.esl))] ((ab [bL 76 0 1,aE 77 76,cO 78 (mov (cN 0))] (block 4 (ab [aN 79 .lss 78 77] ((au 79 skip (exit 4)).seq ((block 5 (ab [aa 80 78,aa 13 80] (ab [aE 82 4,aa 83 13,cO 84 (Ins.mget (one int) (AV.agg [AV.esl,AV.esl]) true (t 82) (t 83)),aa 81 84,aW 85 81 0,aW 86 81 1,cO 14 (alloc (AV.agg [AV.esl,AV.esl])),bw 2 14 85,aa 15 86] (ab [aa 87 15] (au 87 (ops 0 [aa 88 12,bj 89 2 14,cO 90 (bldS 2 1 [AV.esl,AV.esl] [(0,2,t 89)]),cO 91 (app 2 48 (t 88) (t 90)),aa 12 91]) skip))))).seq (ops 0 [ap 92 .add 78 1,aa 78 92])))).loop)).seq (ab [aa 93 12,aa 94 6,aa 2 93,aa 3 94] ret)))))))))
theorem Lj:Is Tryz.prog 115 LF:=mkI Tryz.func115
def K3:F2:=(F2.mk 18 [RV.t 4] (ab [cO 4 (mov bd)] (ab [aa 5 0,a9 6 5,aa 7 1,a9 8 7,aN 9 .add 6 8,aa 10 0,aa 11 1,aH 12 124 [t 10,t 11],a9 13 12,aN 14 .sub 9 13,ap 15 .quo 14 2,ap 16 .rem 15 2,ap 17 .eql 16 1,aa 4 17] ret)))
theorem L3:Is Tryz.prog 116 K3:=mkI Tryz.func116
def KH:F2:=(F2.mk 39 [RV.t 6] (ab [cO 6 (mov (cN 0))] ((ab [aa 11 0,a9 12 11,cO 13 (mov (cN 0))] (block 0 (ab [aN 14 .lss 13 12] ((au 14 skip (exit 0)).seq ((block 1 (ab [aa 15 13,cO 16 (ixaS 2 (t 11) (t 13)),bj 17 2 16,cO 8 (alloc (AV.agg [a8,a8])),aa 7 15,bw 2 8 17] ((ab [aa 18 7,aa 19 1,a9 20 19,aN 21 .geq 18 20] (au 21 (ab [cO 6 (mov (cN 1))] ret) skip)).seq (ab [aa 22 1,aa 23 7,cO 24 (ixaS 2 (t 22) (t 23)),bj 25 2 24,cO 9 (alloc (AV.agg [a8,a8])),bw 2 9 25] (ab [aa 26 2,bj 27 2 8,bj 28 2 9,cO 29 (call (t 26) [t 27,t 28]),aa 10 29] (ab [aa 30 10,ap 31 .neq 30 0] (au 31 (ab [aa 32 10,aa 6 32] ret) skip))))))).seq (ops 0 [ap 33 .add 13 1,aa 13 33])))).loop)).seq ((ab [aa 34 0,a9 35 34,aa 36 1,a9 37 36,aN 38 .lss 35 37] (au 38 (ab [cO 6 (mov (cN ((-1))))] ret) skip)).seq (ab [cO 6 (mov (cN 0))] ret)))))
theorem LY:Is Tryz.prog 122 KH:=mkI Tryz.func122
def MP:F2:=(F2.mk 17 [RV.t 4] (ab [cO 2 (box (t 0)),cO 3 (box (t 1)),cO 4 (mov (cN 0))] ((mixS 1 [bL 5 0 2,aE 6 5,bL 7 0 3,aE 8 7,aH 9 152 [t 6,t 8],bL 10 1 2,aE 11 10,bL 12 1 3,aE 13 12,aH 14 152 [t 11,t 13],cO 15 (bldS 1 2 [a8] [(0,1,t 9),(1,1,t 14)]),aH 16 151 [t 15],aa 4 16] [(0,0),(1,0),(2,0),(3,0),(5,0),(6,0),(7,0),(8,0),(4,1),(9,2),(10,2),(11,2),(12,0)]).seq ret)))
theorem K4:Is Tryz.prog 123 MP:=mkI Tryz.func123
def Lv:F2:=(F2.mk 61 [RV.t 4] (ab [cO 4 (mov (c AV.esl))] (ab [aa 6 0,a9 7 6,aa 8 1,a9 9 8,aN 10 .add 7 9,cO 11 (mks 1 8 [a8] (cN 0) (t 10)),aa 5 11] ((block 0 ((ab [aa 12 0,a9 13 12,ap 14 .gtr 13 0,aa 15 14,an 16 15 (cM 1),an 17 15 (lenS (t 16)),an 18 15 (cB .gtr (t 17) (cN 0)),cO 19 (pick (t 15) (t 18) bd)] (au 19 skip (exit 0))).seq (block 1 (block 2 ((ops 1 [aa 25 0,cO 26 (ixaS 1 (t 25) (cN 0)),aE 27 26,aa 28 1,cO 29 (ixaS 1 (t 28) (cN 0)),aE 30 29,aN 31 .lss 27 30,aa 24 31]).seq (au 24 (ops 1 [aa 32 5,aa 33 0,cO 34 (ixaS 1 (t 33) (cN 0)),aE 35 34,cO 36 (bldS 1 1 [a8] [(0,1,t 35)]),cO 37 (app 1 8 (t 32) (t 36)),aa 38 0,cO 39 (sls 1 (t 38) (some (cN 1)) none none),aa 5 37,aa 0 39]) ((ops 1 [aa 41 0,cO 42 (ixaS 1 (t 41) (cN 0)),aE 43 42,aa 44 1,cO 45 (ixaS 1 (t 44) (cN 0)),aE 46 45,aN 47 .gtr 43 46,aa 40 47]).seq (au 40 (ops 1 [aa 48 5,aa 49 1,cO 50 (ixaS 1 (t 49) (cN 0)),aE 51 50,cO 52 (bldS 1 1 [a8] [(0,1,t 51)]),cO 53 (app 1 8 (t 48) (t 52)),aa 54 1,cO 55 (sls 1 (t 54) (some (cN 1)) none none),aa 5 53,aa 1 55]) (ops 1 [aa 20 0,cO 21 (sls 1 (t 20) (some (cN 1)) none none),aa 22 1,cO 23 (sls 1 (t 22) (some (cN 1)) none none),aa 0 21,aa 1 23])))))))).loop).seq (ab [aa 56 5,aa 57 0,cO 58 (app 1 8 (t 56) (t 57)),aa 59 1,cO 60 (app 1 8 (t 58) (t 59)),aa 4 60] ret)))))
theorem Kf:Is Tryz.prog 124 Lv:=mkI Tryz.func124
def Lq:F2:=(F2.mk 21 [RV.t 2] (ab [cO 1 (box (t 0)),cO 2 (mov bd)] (ab [bL 3 0 1,aE 4 3,ap 5 .geq 4 0,aa 6 5,an 7 6 (fa 0 (t 1)),an 8 6 (cD 7),an 9 6 (cB .lss (t 8) (cN 8)),cO 10 (pick (t 6) (t 9) bd),aa 11 10,an 12 11 (fa 1 (t 1)),an 13 11 (cD 12),an 14 11 (cB .geq (t 13) (cN 0)),cO 15 (pick (t 11) (t 14) bd),aa 16 15,an 17 16 (fa 1 (t 1)),an 18 16 (cD 17),an 19 16 (cB .leq (t 18) (cN 1048576)),cO 20 (pick (t 16) (t 19) bd),aa 2 20] ret)))
theorem Ko:Is Tryz.prog 125 Lq:=mkI Tryz.func125
def Kt:F2:=(F2.mk 29 [RV.t 4] (ab [cO 2 (box (t 0)),cO 3 (box (t 1)),cO 4 (mov (cN 0))] ((block 0 (ab [bL 6 0 2,aE 7 6,bL 8 0 3,aE 9 8,aN 10 .lss 7 9,aa 5 10] (au 5 (ab [cO 4 (mov (cN ((-1))))] ret) (ab [bL 12 0 2,aE 13 12,bL 14 0 3,aE 15 14,aN 16 .gtr 13 15,aa 11 16] (au 11 (ab [cO 4 (mov (cN 1))] ret) (ab [bL 18 1 2,aE 19 18,bL 20 1 3,aE 21 20,aN 22 .lss 19 21,aa 17 22] (au 17 (ab [cO 4 (mov (cN ((-1))))] ret) (ab [bL 24 1 2,aE 25 24,bL 26 1 3,aE 27 26,aN 28 .gtr 25 27,aa 23 28] (au 23 (ab [cO 4 (mov (cN 1))] ret) skip))))))))).seq (ab [cO 4 (mov (cN 0))] ret))))
theorem JR:Is Tryz.prog 126 Kt:=mkI Tryz.func126
def L5:F2:=(F2.mk 18 [RV.t 4] (ab [cO 3 (box (t 1)),cO 4 (mov bd)] ((ab [cO 5 (mov (cN 0))] (block 0 ((ab [aa 6 5,aa 7 0,a9 8 7,aN 9 .lss 6 8] (au 9 skip (exit 0))).seq ((block 1 ((ops 1 [aa 12 0,aa 13 5,cO 14 (ixaS 2 (t 12) (t 13)),bj 15 2 14,bj 16 2 3,cO 17 (binS BinOp.eql [int,int] (t 15) (t 16))]).seq (au 17 (ab [cO 4 (mov cP)] ret) skip))).seq (ops 0 [aa 10 5,ap 11 .add 10 1,aa 5 11]))).loop)).seq (ab [cO 4 (mov bd)] ret))))
theorem JZ:Is Tryz.prog 127 L5:=mkI Tryz.func127
def My:F2:=(F2.mk 36 [RV.t 2] (ab [cO 2 (mov (cN 0))] ((block 0 (ab [aa 6 0,a9 7 6,ap 8 .eql 7 0,aa 5 8] (au 5 (ab [cO 2 (mov (cN 16))] ret) (ab [aa 10 0,a9 11 10,ap 12 .gtr 11 8,aa 9 12] (au 9 (ab [cO 2 (mov (cN 5))] ret) skip))))).seq ((ab [aa 13 0,a9 14 13,cO 15 (mov (cN 0))] (block 1 (ab [aN 16 .lss 15 14] ((au 16 skip (exit 1)).seq ((block 2 (ab [aa 17 15,cO 18 (ixaS 2 (t 13) (t 15)),bj 19 2 18,cO 4 (alloc (AV.agg [a8,a8])),aa 3 17,bw 2 4 19] ((ab [bj 20 2 4,aH 21 153 [t 20],cO 22 (un UnOp.not (t 21))] (au 22 (ab [cO 2 (mov (cN 2))] ret) skip)).seq ((mixS 1 [aa 23 3,ap 24 .gtr 23 0,aa 25 24,an 26 25 (cM 0),an 27 25 (cM 3),an 28 25 (cB .sub (t 27) (cN 1)),an 29 25 (ixaS 2 (t 26) (t 28)),an 30 25 (ldn 2 (t 29)),an 31 25 (ldn 2 (t 4)),an 32 25 (call (cF 123) [t 30,t 31]),an 33 25 (cB .geq (t 32) (cN 0)),cO 34 (pick (t 25) (t 33) bd)] [(0,0),(1,0),(2,0),(3,0),(4,0),(5,0),(6,0),(7,0),(8,0),(9,2),(10,0),(11,0)]).seq (au 34 (ab [cO 2 (mov (cN 14))] ret) skip))))).seq (ops 0 [ap 35 .add 15 1,aa 15 35])))).loop)).seq (ab [cO 2 (mov (cN 0))] ret)))))
theorem KR:Is Tryz.prog 128 My:=mkI Tryz.func128
def LK:F2:=(F2.mk 4 [RV.t 2] (ab [cO 1 (box (t 0)),cO 2 (mov (c AV.nilf))] (ab [cO 3 (mkfn 154 [t 1]),aa 2 3] ret)))
theorem J2:Is Tryz.prog 129 LK:=mkI Tryz.func129
def I2:F2:=(F2.mk 14 [] (ab [aa 5 0,a9 6 5,aa 4 6] (ops 0 [aa 7 0,aa 8 4,aa 9 4,cO 10 (conv IntKind.u64 (t 9)),aH 11 156 [t 10],aa 12 1,aH 13 155 ([t 7,cN ((0)),t 8,t 11,t 12])])))
theorem Ig:Is Tryz.prog 130 I2:=mkI Tryz.func130
def LG:F2:=(F2.mk 10 [RV.t 6] (ab [cO 3 (box (t 0)),cO 5 (box (t 2)),cO 6 (mov bd)] (ab [aa 7 1,cO 8 (mkfn 157 [t 3,t 5]),aH 9 48 [t 7,t 8],aa 6 9] ret)))
theorem Mm:Is Tryz.prog 131 LG:=mkI Tryz.func131
def Mi:F2:=(F2.mk 49 [RV.t 6,RV.t 7] (ab [cO 6 (mov (cN 0)),cO 7 (mov bd)] (ab [aa 12 0,a9 13 12,aa 8 13] (ab [aa 14 8,cO 9 (mov (cN 0)),aa 10 14] ((block 0 ((ab [aa 15 9,aa 16 10,aN 17 .lss 15 16] (au 17 skip (exit 0))).seq (block 1 (ab [aa 18 9,aa 19 10,aN 20 .add 18 19,cO 21 (conv IntKind.u64 (t 20)),cO 22 (cB .shr (t 21) (c (AV.int IntKind.u64 (1)))),cO 23 (conv IntKind.i64 (t 22)),aa 11 23] (ab [aa 24 2,aa 25 0,aa 26 11,cO 27 (ixaS 1 (t 25) (t 26)),aE 28 27,aa 29 1,cO 30 (call (t 24) [t 28,t 29]),ap 31 .lss 30 0] (au 31 (ops 0 [aa 32 11,ap 33 .add 32 1,aa 9 33]) (ops 0 [aa 34 11,aa 10 34])))))).loop).seq (ab [aa 35 9,aa 36 9,aa 37 8,aN 38 .lss 36 37,aa 39 38,an 40 39 (cM 2),an 41 39 (cM 0),an 42 39 (cM 9),an 43 39 (ixaS 1 (t 41) (t 42)),an 44 39 (cD 43),an 45 39 (cM 1),an 46 39 (call (t 40) [t 44,t 45]),an 47 39 (cB .eql (t 46) (cN 0)),cO 48 (pick (t 39) (t 47) bd),aa 6 35,aa 7 48] ret))))))
theorem L7:Is Tryz.prog 132 Mi:=mkI Tryz.func132
def Me:F2:=(F2.mk 52 [RV.cn 2 2,RV.t 3] (ab [cO 1 (box (t 0)),cO 2 (alloc (AV.agg [a8,AV.esl])),cO 3 (mov (cN 0))] ((ab [bj 10 2 1,aH 11 113 [t 10],aa 4 11] (ab [aa 12 4,ap 13 .neq 12 0] (au 13 (ab [cO 14 (bld [a8,AV.esl] []),aa 15 4,bw 2 2 14,aa 3 15] ret) skip))).seq ((ops 1 [bL 16 1 1,aE 17 16,a9 18 17,bL 19 0 1,aE 20 19,cO 21 (mks 1 24 [AV.esl] (t 20) (t 20)),cO 22 (bld [a8,AV.esl] [(0,1,t 18),(1,1,t 21)]),cO 5 (alloc (AV.agg [a8,AV.esl])),bw 2 5 22]).seq ((ab [bL 23 1 1,aE 24 23,a9 25 24,cO 26 (mov (cN 0))] (block 0 (ab [aN 27 .lss 26 25] ((au 27 skip (exit 0)).seq ((block 1 (ab [aa 28 26,cO 29 (ixaS 1 (t 24) (t 26)),aE 30 29,aa 6 28,aa 7 30] (ab [aa 31 7,a9 32 31,cO 33 (mov (cN 0))] (block 2 (ab [aN 34 .lss 33 32] ((au 34 skip (exit 2)).seq ((block 3 (ab [cO 35 (ixaS 1 (t 31) (t 33)),aE 36 35,aa 9 36] (mixS 2 [bL 37 1 5,aE 38 37,aa 39 9,bL 40 1 5,aE 41 40,aa 42 9,cO 43 (ixaS 1 (t 41) (t 42)),aE 44 43,aa 45 6,cO 46 (bldS 1 1 [a8] [(0,1,t 45)]),cO 47 (app 1 8 (t 44) (t 46)),cO 48 (ixaS 1 (t 38) (t 39)),bw 1 48 47] [(0,0),(1,0),(2,0),(3,0),(4,0),(5,0),(6,0),(7,0),(8,0),(9,1),(10,1),(11,0),(12,2)]))).seq (ops 0 [ap 49 .add 33 1,aa 33 49])))).loop)))).seq (ops 0 [ap 50 .add 26 1,aa 26 50])))).loop)).seq (ab [bj 51 2 5,bw 2 2 51,cO 3 (mov (cN 0))] ret))))))
theorem Lw:Is Tryz.prog 133 Me:=mkI Tryz.func133
def Lf:F2:=(F2.mk 39 [RV.cn 2 2,RV.t 3] (ab [cO 1 (box (t 0)),cO 2 (alloc (AV.agg [a8,AV.esl])),cO 3 (mov (cN 0))] ((ab [bj 10 2 1,aH 11 113 [t 10],aa 4 11] (ab [aa 12 4,ap 13 .neq 12 0] (au 13 (ab [cO 14 (bld [a8,AV.esl] []),aa 15 4,bw 2 2 14,aa 3 15] ret) skip))).seq (ab [bL 16 0 1,aE 17 16,cO 18 (bld [a8,AV.esl] [(0,1,t 17)]),cO 5 (alloc (AV.agg [a8,AV.esl])),bw 2 5 18] (ab [bj 20 2 1,aH 21 115 [t 20],aa 19 21,aW 22 19 0,aW 23 19 1,aa 6 22,aa 7 23] ((ab [aa 24 6,a9 25 24,cO 26 (mov (cN 0))] (block 0 (ab [aN 27 .lss 26 25] ((au 27 skip (exit 0)).seq ((block 1 (ab [cO 28 (ixaS 2 (t 24) (t 26)),bj 29 2 28,cO 9 (alloc (AV.agg [AV.esl,AV.esl])),bw 2 9 29] (ops 0 [bL 30 1 5,aE 31 30,bL 32 0 9,aE 33 32,cO 34 (bldS 1 1 [AV.esl] [(0,1,t 33)]),cO 35 (app 1 24 (t 31) (t 34)),bL 36 1 5,bw 1 36 35]))).seq (ops 0 [ap 37 .add 26 1,aa 26 37])))).loop)).seq (ab [bj 38 2 5,bw 2 2 38,cO 3 (mov (cN 0))] ret)))))))
theorem Mp:Is Tryz.prog 134 Lf:=mkI Tryz.func134
def KS:F2:=(F2.mk 8 [RV.t 2] (ab [cO 2 (mov (c AV.esl))] ((ab [aa 3 0,cO 4 (snil false (t 3))] (au 4 (ab [cO 2 (mov (c AV.esl))] ret) skip)).seq (ab [cO 5 (bldS 1 0 [AV.esl] []),aa 6 0,cO 7 (app 1 24 (t 5) (t 6)),aa 2 7] ret))))
theorem Mu:Is Tryz.prog 135 KS:=mkI Tryz.func135
def Jq:F2:=(F2.mk 8 [RV.t 2] (ab [cO 2 (mov (c AV.esl))] ((ab [aa 3 0,cO 4 (snil false (t 3))] (au 4 (ab [cO 2 (mov (c AV.esl))] ret) skip)).seq (ab [cO 5 (bldS 2 0 [a8,a8] []),aa 6 0,cO 7 (app 2 16 (t 5) (t 6)),aa 2 7] ret))))
theorem Ie:Is Tryz.prog 136 Jq:=mkI Tryz.func136
def Kn:F2:=(F2.mk 24 [RV.t 4,RV.t 5] (ab [cO 4 (mov (c AV.esl)),cO 5 (mov (cN 0))] ((ab [aa 7 0,aH 8 128 [t 7],aa 6 8] (ab [aa 9 6,ap 10 .neq 9 0] (au 10 (ab [aa 11 6,cO 4 (mov (c AV.esl)),aa 5 11] ret) skip))).seq ((ab [aa 12 1,ap 13 .lss 12 1,aa 14 13,bi 15 14 (cM 1),bi 16 14 (cM 0),bi 17 14 (lenS (t 16)),bi 18 14 (cB .gtr (t 15) (t 17)),cO 19 (pick (t 14) cP (t 18))] (au 19 (ab [cO 4 (mov (c AV.esl)),cO 5 (mov (cN 2))] ret) skip)).seq (ab [aa 20 0,aa 21 1,aH 22 160 [t 20,t 21],aH 23 159 [t 22],aa 4 23,cO 5 (mov (cN 0))] ret)))))
theorem Lg:Is Tryz.prog 137 Kn:=mkI Tryz.func137
def LB:F2:=(F2.mk 16 [RV.cn 2 16] (ab [cO 2 (alloc (AV.agg [a8,a8,a8,a8,a8,a8,a8,a8,a8,a8,a8,a8,a8,a8,a8,a8]))] (ab [cO 3 (alloc (AV.agg [a8,a8,a8,a8,a8,a8,a8,a8,a8,a8,a8,a8,a8,a8,a8,a8]))] ((ab [cO 5 (mov (cN 0))] (block 0 (ab [ap 6 .lss 5 8] ((au 6 skip (exit 0)).seq ((block 1 (ab [aa 7 5,aa 4 7] (ops 0 [aa 8 4,cO 9 (ixaA 8 2 (t 3) (t 8)),bL 10 0 9,Op2.mk none none (Ins.st 1 (t 10) (cN ((-1))))]))).seq (ops 0 [ap 11 .add 5 1,aa 5 11])))).loop)).seq (ab [cO 12 (slp 8 2 (t 3)),aa 13 0,cO 14 (cpy 2 (t 12) (t 13))] (ab [bj 15 16 3,bw 16 2 15] ret))))))
theorem K5:Is Tryz.prog 138 LB:=mkI Tryz.func138
def MH:F2:=(F2.mk 36 [RV.t 2] (ab [cO 2 (mov (c AV.esl))] (ab [cO 3 (mov (cN 0))] ((ab [aa 9 0,a9 10 9,cO 11 (mov (cN 0))] (block 0 (ab [aN 12 .lss 11 10] ((au 12 skip (exit 0)).seq ((block 1 (ab [cO 13 (ixaS 1 (t 9) (t 11)),aE 14 13,aa 5 14] (ab [aa 15 3,aa 16 5,a9 17 16,aN 18 .add 15 17,aa 3 18] (ab [aa 19 3,ap 20 .lss 19 0] (au 20 (ops 0 [cO 21 dead,Op2.mk none none dead]) skip))))).seq (ops 0 [ap 22 .add 11 1,aa 11 22])))).loop)).seq (ab [aa 23 3,aH 24 161 [c AV.esl,t 23],aa 6 24] ((ab [aa 25 0,a9 26 25,cO 27 (mov (cN 0))] (block 2 (ab [aN 28 .lss 27 26] ((au 28 skip (exit 2)).seq ((block 3 (ab [cO 29 (ixaS 1 (t 25) (t 27)),aE 30 29,aa 8 30] (ops 0 [aa 31 6,aa 32 8,cO 33 (app 2 16 (t 31) (t 32)),aa 6 33]))).seq (ops 0 [ap 34 .add 27 1,aa 27 34])))).loop)).seq (ab [aa 35 6,aa 2 35] ret)))))))
theorem Lp:Is Tryz.prog 141 MH:=mkI Tryz.func141
def MO:F2:=(F2.mk 6 [RV.t 2] (ab [cO 2 (mov bd)] (ab [aa 3 0,a9 4 3,ap 5 .leq 4 10,aa 2 5] ret)))
theorem Kp:Is Tryz.prog 145 MO:=mkI Tryz.func145
def Mh:F2:=(F2.mk 14 [RV.t 4] (ab [cO 4 (mov bd)] (ab [aa 8 0,aa 9 1,aH 10 163 [t 8,t 9],aa 7 10,aW 11 7 0,aW 12 7 1,aa 5 11,aa 6 12] (ab [aa 13 6,aa 4 13] ret))))
theorem Mw:Is Tryz.prog 146 Mh:=mkI Tryz.func146
def Lo:F2:=(F2.mk 11 [] (ab [aa 3 0,a9 4 3,aa 2 4] (ops 0 [aa 5 0,aa 6 2,aa 7 2,cO 8 (conv IntKind.u64 (t 7)),aH 9 156 [t 8],aH 10 164 ([t 5,cN ((0)),t 6,t 9])])))
theorem Kg:Is Tryz.prog 147 Lo:=mkI Tryz.func147
def LC:F2:=(F2.mk 22 [RV.t 6] (ab [cO 6 (mov (cN 0))] ((ab [aa 8 1,aa 7 8] (block 0 ((ab [aa 9 7,aa 10 0,a9 11 10,aN 12 .lss 9 11] (au 12 skip (exit 0))).seq ((block 1 (ab [aa 15 0,aa 16 7,cO 17 (ixaS 1 (t 15) (t 16)),aE 18 17,aa 19 2,aH 20 108 [t 18,t 19]] (au 20 (ab [aa 21 7,aa 6 21] ret) skip))).seq (ops 0 [aa 13 7,ap 14 .add 13 1,aa 7 14]))).loop)).seq (ab [cO 6 (mov (cN ((-1))))] ret))))
theorem KV:Is Tryz.prog 148 LC:=mkI Tryz.func148
def KW:F2:=(F2.mk 38 [RV.cn 3 2] (ab [cO 2 (box (t 0)),cO 3 (alloc (AV.agg [AV.esl,AV.esl]))] ((ab [cO 4 (mov (cN 0))] (block 0 ((ab [aa 7 4,bL 8 0 2,aE 9 8,a9 10 9,aN 11 .lss 7 10] (au 11 skip (exit 0))).seq (block 1 ((mixS 9 [aE 13 1,bL 14 0 2,aE 15 14,aa 16 4,cO 17 (ixaS 1 (t 15) (t 16)),aE 18 17,cO 19 (Ins.mget (one int) (AV.agg [AV.esl,AV.esl]) true (t 13) (t 18)),aa 12 19,aW 20 12 0,aW 21 12 1,cO 5 (alloc (AV.agg [AV.esl,AV.esl])),bw 2 5 20,aa 6 21] [(0,0),(1,0),(2,0),(3,0),(4,0),(5,0),(6,4),(7,0),(8,0),(9,0),(10,1),(11,2),(12,0)]).seq ((ab [aa 22 6,cO 23 (un UnOp.not (t 22))] (au 23 (ab [aa 24 4,ap 25 .add 24 1,aa 4 25] (exit 1)) skip)).seq (mixS 1 [bL 26 0 2,aE 27 26,bL 28 0 5,aE 29 28,aH 30 124 [t 27,t 29],bL 31 1 2,aE 32 31,bL 33 1 5,aE 34 33,aH 35 124 [t 32,t 34],cO 36 (bld [AV.esl,AV.esl] [(0,1,t 30),(1,1,t 35)]),bw 2 2 36] [(0,0),(1,0),(2,0),(3,0),(5,0),(6,0),(7,0),(8,0),(4,1),(9,2),(10,0),(11,2)]))))).loop)).seq (ab [bj 37 2 2,bw 2 3 37] ret))))
theorem Kb:Is Tryz.prog 149 KW:=mkI Tryz.func149
def L4:F2:=(F2.mk 8 [RV.t 2] (ab [cO 2 (mov (c AV.esl))] ((ab [aa 3 0,cO 4 (snil false (t 3))] (au 4 (ab [cO 2 (mov (c AV.esl))] ret) skip)).seq (ab [cO 5 (bldS 1 0 [a8] []),aa 6 0,cO 7 (app 1 8 (t 5) (t 6)),aa 2 7] ret))))
theorem LJ:Is Tryz.prog 150 L4:=mkI Tryz.func150
def LA:F2:=(F2.mk 18 [RV.t 2] (ab [cO 2 (mov (cN 0))] (ab [cO 3 (mov (cN 0))] ((ab [aa 6 0,a9 7 6,cO 8 (mov (cN 0))] (block 0 (ab [aN 9 .lss 8 7] ((au 9 skip (exit 0)).seq ((block 1 (ab [cO 10 (ixaS 1 (t 6) (t 8)),aE 11 10,aa 5 11] (ab [aa 12 5,aa 13 3,aN 14 .neq 12 13] (au 14 (ab [aa 15 5,aa 2 15] ret) skip)))).seq (ops 0 [ap 16 .add 8 1,aa 8 16])))).loop)).seq (ab [aa 17 3,aa 2 17] ret)))))
theorem Kc:Is Tryz.prog 151 LA:=mkI Tryz.func151
def Kk:F2:=(F2.mk 20 [RV.t 4] (ab [cO 4 (mov (cN 0))] (ab [aa 7 0,aH 8 165 [t 7],aa 5 8] (ab [aa 9 1,aH 10 165 [t 9],aa 6 10] ((ab [aa 11 5] (au 11 ((ab [aa 12 6] (au 12 (ab [cO 4 (mov (cN 0))] ret) skip)).seq (ab [cO 4 (mov (cN ((-1))))] ret)) skip)).seq ((ab [aa 13 6] (au 13 (ab [cO 4 (mov (cN 1))] ret) skip)).seq ((ab [aa 14 0,aa 15 1,aN 16 .lss 14 15] (au 16 (ab [cO 4 (mov (cN ((-1))))] ret) skip)).seq ((ab [aa 17 0,aa 18 1,aN 19 .gtr 17 18] (au 19 (ab [cO 4 (mov (cN 1))] ret) skip)).seq (ab [cO 4 (mov (cN 0))] ret)))))))))
theorem KL:Is Tryz.prog 152 Kk:=mkI Tryz.func152
def Mb:F2:=(F2.mk 21 [RV.t 2] (ab [cO 1 (box (t 0)),cO 2 (mov bd)] (ab [bL 3 0 1,aE 4 3,ap 5 .geq 4 0,aa 6 5,an 7 6 (fa 0 (t 1)),an 8 6 (cD 7),an 9 6 (cB .lss (t 8) (cN 8)),cO 10 (pick (t 6) (t 9) bd),aa 11 10,an 12 11 (fa 1 (t 1)),an 13 11 (cD 12),an 14 11 (cB .geq (t 13) (cN 0)),cO 15 (pick (t 11) (t 14) bd),aa 16 15,an 17 16 (fa 1 (t 1)),an 18 16 (cD 17),an 19 16 (cB .leq (t 18) (cN 1048576)),cO 20 (pick (t 16) (t 19) bd),aa 2 20] ret)))
theorem Mv:Is Tryz.prog 153 Mb:=mkI Tryz.func153
def Km:F2:=(F2.mk 27 [] (ab [aE 4 1,a9 5 4,cO 6 (mov (cN 0))] (block 0 (ab [aN 7 .lss 6 5] ((au 7 skip (exit 0)).seq ((block 1 (ab [aa 8 6,aa 3 8] ((mixS 1 [aE 9 1,a9 10 9,ap 11 .gtr 10 1,aa 12 11,an 13 12 (cM 0),an 14 12 (cD 1),an 15 12 (cM 3),an 16 12 (sls 2 (t 14) none (some (t 15)) none),an 17 12 (cD 1),an 18 12 (cM 3),an 19 12 (cB .add (t 18) (cN 1)),an 20 12 (sls 2 (t 17) (some (t 19)) none none),an 21 12 (bldS 1 2 [AV.esl] [(0,1,t 16),(1,1,t 20)]),an 22 12 (call (cF 141) [t 21]),an 23 12 (call (t 13) [t 22]),an 24 12 (un UnOp.not (t 23)),cO 25 (pick (t 12) (t 24) bd)] [(0,0),(1,0),(2,0),(3,0),(4,0),(5,0),(6,0),(7,0),(8,0),(9,0),(10,0),(11,0),(12,2),(13,2),(14,2),(15,0),(16,0)]).seq (au 25 ret skip)))).seq (ops 0 [ap 26 .add 6 1,aa 6 26])))).loop)))
theorem Kd:Is Tryz.prog 154 Km:=mkI Tryz.func154
def Ja:F2:=(F2.mk 148 [] (ab [cO 10 (mov cP)] (ab [cO 11 (mov cP)] (block 0 (block 1 (ab [aa 21 2,aa 22 1,aN 23 .sub 21 22,aa 12 23] ((ab [aa 24 12,ap 25 .leq 24 12] (au 25 (ab [aa 26 0,aa 27 1,aa 28 2,aa 29 4,aH 30 166 [t 26,t 27,t 28,t 29]] ret) skip)).seq ((ab [aa 31 3,ap 32 .eql 31 0] (au 32 (ab [aa 33 0,aa 34 1,aa 35 2,aa 36 4,aH 37 167 [t 33,t 34,t 35,t 36]] ret) skip)).seq ((ab [aa 38 10,cO 39 (un UnOp.not (t 38))] (au 39 (ab [aa 40 0,aa 41 1,aa 42 2,aa 43 4,aH 44 168 [t 40,t 41,t 42,t 43]] (ops 0 [aa 45 3,ap 46 .sub 45 1,aa 3 46])) skip)).seq (ab [aa 48 0,aa 49 1,aa 50 2,aa 51 4,aH 52 169 [t 48,t 49,t 50,t 51],aa 47 52,aW 53 47 0,aW 54 47 1,aa 13 53,aa 14 54] ((ab [aa 55 14,ap 56 .eql 55 2] (au 56 (ab [aa 57 0,aa 58 1,aa 59 2,aa 60 4,aH 61 170 [t 57,t 58,t 59,t 60]] (ab [aa 62 2,ap 63 .sub 62 1,aa 64 13,aa 65 1,aN 66 .sub 64 65,aN 67 .sub 63 66,aa 13 67] (ops 0 [cO 14 (mov (cN 1))]))) skip)).seq ((ab [aa 68 10,aa 69 68,an 70 69 (cM 11),cO 71 (pick (t 69) (t 70) bd),aa 72 71,an 73 72 (cM 14),an 74 72 (cB .eql (t 73) (cN 1)),cO 75 (pick (t 72) (t 74) bd)] (au 75 (ab [aa 76 0,aa 77 1,aa 78 2,aa 79 4,aH 80 171 [t 76,t 77,t 78,t 79]] (au 80 ret skip)) skip)).seq (((mixS 1 [aa 81 1,ap 82 .gtr 81 0,aa 83 82,an 84 83 (cM 4),an 85 83 (cM 0),an 86 83 (cM 1),an 87 83 (cB .sub (t 86) (cN 1)),an 88 83 (ixaS 1 (t 85) (t 87)),an 89 83 (cD 88),an 90 83 (cM 0),an 91 83 (cM 13),an 92 83 (ixaS 1 (t 90) (t 91)),an 93 83 (cD 92),an 94 83 (call (t 84) [t 89,t 93]),an 95 83 (cB .lss (t 94) (cN 0)),an 96 83 (un UnOp.not (t 95)),cO 97 (pick (t 83) (t 96) bd)] [(0,0),(1,0),(2,0),(3,0),(4,0),(5,0),(6,0),(7,0),(8,0),(9,0),(10,0),(11,0),(12,0),(13,2),(14,0),(15,0),(16,0)]).seq (au 97 (ab [aa 98 0,aa 99 1,aa 100 2,aa 101 13,aa 102 4,aH 103 172 [t 98,t 99,t 100,t 101,t 102],aa 15 103] (ab [aa 104 15,aa 1 104] (exit 1))) skip)).seq (ab [aa 106 0,aa 107 1,aa 108 2,aa 109 13,aa 110 4,aH 111 173 [t 106,t 107,t 108,t 109,t 110],aa 105 111,aW 112 105 0,aW 113 105 1,aa 16 112,aa 17 113] (ab [aa 114 17,aa 11 114] (ab [aa 115 16,aa 116 1,aN 117 .sub 115 116,aa 118 2,aa 119 16,aN 120 .sub 118 119,aa 18 117,aa 19 120] (ab [aa 121 12,ap 122 .quo 121 8,aa 20 122] (ab [aa 123 18,aa 124 19,aN 125 .lss 123 124] (au 125 (ab [aa 126 18,aa 127 20,aN 128 .geq 126 127,aa 10 128] (ab [aa 129 0,aa 130 1,aa 131 16,aa 132 3,aa 133 4,aH 134 155 [t 129,t 130,t 131,t 132,t 133]] (ops 0 [aa 135 16,ap 136 .add 135 1,aa 1 136]))) (ab [aa 137 19,aa 138 20,aN 139 .geq 137 138,aa 10 139] (ab [aa 140 0,aa 141 16,ap 142 .add 141 1,aa 143 2,aa 144 3,aa 145 4,aH 146 155 [t 140,t 142,t 143,t 144,t 145]] (ops 0 [aa 147 16,aa 2 147])))))))))))))))))).loop))))
theorem Io:Is Tryz.prog 155 Ja:=mkI Tryz.func155
def IJ:F2:=(F2.mk 8 [RV.t 2] (ab [cO 2 (mov (cN 0))] ((C2.cond bd (ab [aa 3 0,cO 4 (conv IntKind.u32 (t 3)),aH 5 174 [t 4],aa 2 5] ret) skip).seq (ab [aa 6 0,aH 7 175 [t 6],aa 2 7] ret))))
theorem H6:Is Tryz.prog 156 IJ:=mkI Tryz.func156
def Ms:F2:=(F2.mk 21 [RV.t 4] (ab [cO 4 (mov bd)] ((mixS 1 [aE 5 1,aa 6 0,cO 7 (ixaS 1 (t 5) (t 6)),aE 8 7,a9 9 8,aE 10 2,a9 11 10,aN 12 .gtr 9 11,aa 13 12,an 14 13 (cD 2),an 15 13 (cD 1),an 16 13 (cM 0),an 17 13 (ixaS 1 (t 15) (t 16)),an 18 13 (cD 17),an 19 13 (call (cF 158) [t 14,t 18]),cO 20 (pick (t 13) (t 19) bd),aa 4 20] [(0,0),(1,0),(2,0),(3,0),(4,0),(5,0),(6,0),(7,0),(8,0),(9,0),(10,0),(11,0),(12,0),(13,0),(14,2),(15,0),(16,0)]).seq ret)))
theorem Mf:Is Tryz.prog 157 Ms:=mkI Tryz.func157
def Mr:F2:=(F2.mk 29 [RV.t 4] (ab [cO 4 (mov bd)] ((ab [aa 7 0,a9 8 7,cO 9 (mov (cN 0))] (block 0 (ab [aN 10 .lss 9 8] ((au 10 skip (exit 0)).seq ((block 1 (ab [cO 11 (ixaS 2 (t 7) (t 9)),bj 12 2 11,cO 6 (alloc (AV.agg [a8,a8])),bw 2 6 12] ((block 2 (((ops 1 [aa 13 1,a9 14 13,ap 15 .gtr 14 0,aa 16 15,an 17 16 (cM 1),an 18 16 (ixaS 2 (t 17) (cN 0)),an 19 16 (ldn 2 (t 18)),an 20 16 (ldn 2 (t 6)),an 21 16 (binS BinOp.neq [int,int] (t 19) (t 20)),cO 22 (pick (t 16) (t 21) bd)]).seq (au 22 skip (exit 2))).seq (block 3 (ops 0 [aa 23 1,cO 24 (sls 2 (t 23) (some (cN 1)) none none),aa 1 24]))).loop).seq (ab [aa 25 1,a9 26 25,ap 27 .eql 26 0] (au 27 (ab [cO 4 (mov bd)] ret) skip))))).seq (ops 0 [ap 28 .add 9 1,aa 9 28])))).loop)).seq (ab [cO 4 (mov cP)] ret))))
theorem Ly:Is Tryz.prog 158 Mr:=mkI Tryz.func158
def Lb:F2:=(F2.mk 5 [RV.t 2] (ab [cO 2 (mov (c AV.esl))] (ab [aa 3 0,aH 4 176 [c AV.esl,t 3],aa 2 4] ret)))
theorem Ml:Is Tryz.prog 159 Lb:=mkI Tryz.func159
def MI:F2:=(F2.mk 6 [RV.t 4] (ab [cO 2 (box (t 0)),cO 3 (box (t 1)),cO 4 (mov (c AV.nilf))] (ab [cO 5 (mkfn 177 [t 3,t 2]),aa 4 5] ret)))
theorem LR:Is Tryz.prog 160 MI:=mkI Tryz.func160
def L6:F2:=(F2.mk 27 [RV.t 4] (ab [cO 4 (mov (c AV.esl))] ((ab [aa 5 1,ap 6 .lss 5 0] (au 6 (ops 0 [cO 7 dead,Op2.mk none none dead]) skip)).seq ((ab [aa 8 1,aa 9 0,cO 10 (capE (t 9)),aa 11 0,a9 12 11,aN 13 .sub 10 12,aN 14 .sub 8 13,aa 1 14] (ab [aa 15 1,ap 16 .gtr 15 0] (au 16 (ops 0 [aa 17 0,aa 18 0,cO 19 (capE (t 18)),cO 20 (sls 2 (t 17) none (some (t 19)) none),aa 21 1,cO 22 (apz 2 16 [a8,a8] (t 20) (t 21)),aa 23 0,a9 24 23,cO 25 (sls 2 (t 22) none (some (t 24)) none),aa 0 25]) skip))).seq (ab [aa 26 0,aa 4 26] ret)))))
theorem LQ:Is Tryz.prog 161 L6:=mkI Tryz.func161
def Lz:F2:=(F2.mk 54 [RV.t 4,RV.t 5] (ab [cO 4 (mov (cN 0)),cO 5 (mov bd)] (ab [aa 10 0,a9 11 10,aa 6 11] (ab [aa 12 6,cO 7 (mov (cN 0)),aa 8 12] ((block 0 ((ab [aa 13 7,aa 14 8,aN 15 .lss 13 14] (au 15 skip (exit 0))).seq (block 1 (ab [aa 16 7,aa 17 8,aN 18 .add 16 17,cO 19 (conv IntKind.u64 (t 18)),cO 20 (cB .shr (t 19) (c (AV.int IntKind.u64 (1)))),cO 21 (conv IntKind.i64 (t 20)),aa 9 21] (ab [aa 22 0,aa 23 9,cO 24 (ixaS 1 (t 22) (t 23)),aE 25 24,aa 26 1,aH 27 187 [t 25,t 26]] (au 27 (ops 0 [aa 28 9,ap 29 .add 28 1,aa 7 29]) (ops 0 [aa 30 9,aa 8 30])))))).loop).seq (ab [aa 31 7,aa 32 7,aa 33 6,aN 34 .lss 32 33,aa 35 34,an 36 35 (cM 0),an 37 35 (cM 7),an 38 35 (ixaS 1 (t 36) (t 37)),an 39 35 (cD 38),an 40 35 (cM 1),an 41 35 (cB .eql (t 39) (t 40)),an 42 35 (cM 41),bi 43 42 (cM 0),bi 44 42 (cM 7),bi 45 42 (ixaS 1 (t 43) (t 44)),bi 46 42 (cD 45),bi 47 42 (call (cF 188) [t 46]),bi 48 42 (cM 47),an 49 48 (cM 1),an 50 48 (call (cF 188) [t 49]),bi 51 42 (pick (t 48) (t 50) bd),an 52 35 (pick (t 42) cP (t 51)),cO 53 (pick (t 35) (t 52) bd),aa 4 31,aa 5 53] ret))))))
theorem KM:Is Tryz.prog 163 Lz:=mkI Tryz.func163
def L9:F2:=(F2.mk 134 [] (ab [cO 8 (mov cP)] (ab [cO 9 (mov cP)] (block 0 (block 1 (ab [aa 19 2,aa 20 1,aN 21 .sub 19 20,aa 10 21] ((ab [aa 22 10,ap 23 .leq 22 12] (au 23 (ab [aa 24 0,aa 25 1,aa 26 2,aH 27 189 [t 24,t 25,t 26]] ret) skip)).seq ((ab [aa 28 3,ap 29 .eql 28 0] (au 29 (ab [aa 30 0,aa 31 1,aa 32 2,aH 33 190 [t 30,t 31,t 32]] ret) skip)).seq ((ab [aa 34 8,cO 35 (un UnOp.not (t 34))] (au 35 (ab [aa 36 0,aa 37 1,aa 38 2,aH 39 191 [t 36,t 37,t 38]] (ops 0 [aa 40 3,ap 41 .sub 40 1,aa 3 41])) skip)).seq (ab [aa 43 0,aa 44 1,aa 45 2,aH 46 192 [t 43,t 44,t 45],aa 42 46,aW 47 42 0,aW 48 42 1,aa 11 47,aa 12 48] ((ab [aa 49 12,ap 50 .eql 49 2] (au 50 (ab [aa 51 0,aa 52 1,aa 53 2,aH 54 193 [t 51,t 52,t 53]] (ab [aa 55 2,ap 56 .sub 55 1,aa 57 11,aa 58 1,aN 59 .sub 57 58,aN 60 .sub 56 59,aa 11 60] (ops 0 [cO 12 (mov (cN 1))]))) skip)).seq ((ab [aa 61 8,aa 62 61,an 63 62 (cM 9),cO 64 (pick (t 62) (t 63) bd),aa 65 64,an 66 65 (cM 12),an 67 65 (cB .eql (t 66) (cN 1)),cO 68 (pick (t 65) (t 67) bd)] (au 68 (ab [aa 69 0,aa 70 1,aa 71 2,aH 72 194 [t 69,t 70,t 71]] (au 72 ret skip)) skip)).seq (((mixS 1 [aa 73 1,ap 74 .gtr 73 0,aa 75 74,an 76 75 (cM 0),an 77 75 (cM 1),an 78 75 (cB .sub (t 77) (cN 1)),an 79 75 (ixaS 1 (t 76) (t 78)),an 80 75 (cD 79),an 81 75 (cM 0),an 82 75 (cM 11),an 83 75 (ixaS 1 (t 81) (t 82)),an 84 75 (cD 83),an 85 75 (call (cF 187) [t 80,t 84]),an 86 75 (un UnOp.not (t 85)),cO 87 (pick (t 75) (t 86) bd)] [(0,0),(1,0),(2,0),(3,0),(4,0),(5,0),(6,0),(7,0),(8,0),(9,0),(10,0),(11,0),(12,2),(13,0),(14,0)]).seq (au 87 (ab [aa 88 0,aa 89 1,aa 90 2,aa 91 11,aH 92 195 [t 88,t 89,t 90,t 91],aa 13 92] (ab [aa 93 13,aa 1 93] (exit 1))) skip)).seq (ab [aa 95 0,aa 96 1,aa 97 2,aa 98 11,aH 99 196 [t 95,t 96,t 97,t 98],aa 94 99,aW 100 94 0,aW 101 94 1,aa 14 100,aa 15 101] (ab [aa 102 15,aa 9 102] (ab [aa 103 14,aa 104 1,aN 105 .sub 103 104,aa 106 2,aa 107 14,aN 108 .sub 106 107,aa 16 105,aa 17 108] (ab [aa 109 10,ap 110 .quo 109 8,aa 18 110] (ab [aa 111 16,aa 112 17,aN 113 .lss 111 112] (au 113 (ab [aa 114 16,aa 115 18,aN 116 .geq 114 115,aa 8 116] (ab [aa 117 0,aa 118 1,aa 119 14,aa 120 3,aH 121 164 [t 117,t 118,t 119,t 120]] (ops 0 [aa 122 14,ap 123 .add 122 1,aa 1 123]))) (ab [aa 124 17,aa 125 18,aN 126 .geq 124 125,aa 8 126] (ab [aa 127 0,aa 128 14,ap 129 .add 128 1,aa 130 2,aa 131 3,aH 132 164 [t 127,t 129,t 130,t 131]] (ops 0 [aa 133 14,aa 2 133])))))))))))))))))).loop))))
theorem LX:Is Tryz.prog 164 L9:=mkI Tryz.func164
def ME:F2:=(F2.mk 6 [RV.t 2] (ab [cO 2 (mov bd)] (ab [aa 3 0,aa 4 0,aN 5 .neq 3 4,aa 2 5] ret)))
theorem Ks:Is Tryz.prog 165 ME:=mkI Tryz.func165
def Iv:F2:=(F2.mk 53 [] (ab [aa 10 1,ap 11 .add 10 1,aa 8 11] (block 0 ((ab [aa 12 8,aa 13 2,aN 14 .lss 12 13] (au 14 skip (exit 0))).seq ((block 1 (ab [aa 17 8,aa 9 17] (block 2 (((mixS 1 [aa 18 9,aa 19 1,aN 20 .gtr 18 19,aa 21 20,an 22 21 (cM 3),an 23 21 (cM 0),an 24 21 (cM 9),an 25 21 (ixaS 1 (t 23) (t 24)),an 26 21 (cD 25),an 27 21 (cM 0),an 28 21 (cM 9),an 29 21 (cB .sub (t 28) (cN 1)),an 30 21 (ixaS 1 (t 27) (t 29)),an 31 21 (cD 30),an 32 21 (call (t 22) [t 26,t 31]),an 33 21 (cB .lss (t 32) (cN 0)),cO 34 (pick (t 21) (t 33) bd)] [(0,0),(1,0),(2,0),(3,0),(4,0),(5,0),(6,0),(7,0),(8,0),(9,0),(10,0),(11,0),(12,0),(13,0),(14,2),(15,0),(16,0)]).seq (au 34 skip (exit 2))).seq ((block 3 (ops 1 [aa 37 0,aa 38 9,aa 39 0,aa 40 9,ap 41 .sub 40 1,aa 42 0,aa 43 9,ap 44 .sub 43 1,cO 45 (ixaS 1 (t 42) (t 44)),aE 46 45,aa 47 0,aa 48 9,cO 49 (ixaS 1 (t 47) (t 48)),aE 50 49,cO 51 (ixaS 1 (t 37) (t 38)),bw 1 51 46,cO 52 (ixaS 1 (t 39) (t 41)),bw 1 52 50])).seq (ops 0 [aa 35 9,ap 36 .sub 35 1,aa 9 36]))).loop))).seq (ops 0 [aa 15 8,ap 16 .add 15 1,aa 8 16]))).loop)))
theorem HW:Is Tryz.prog 166 Iv:=mkI Tryz.func166
def J4:F2:=(F2.mk 60 [] (ab [aa 13 1,aa 8 13] (ab [cO 9 (mov (cN 0))] (ab [aa 14 2,aa 15 1,aN 16 .sub 14 15,aa 10 16] ((ab [aa 17 10,ap 18 .sub 17 1,ap 19 .quo 18 2,aa 11 19] (block 0 ((ab [aa 20 11,ap 21 .geq 20 0] (au 21 skip (exit 0))).seq ((block 1 (ops 0 [aa 24 0,aa 25 11,aa 26 10,aa 27 8,aa 28 3,aH 29 197 [t 24,t 25,t 26,t 27,t 28]])).seq (ops 0 [aa 22 11,ap 23 .sub 22 1,aa 11 23]))).loop)).seq (ab [aa 30 10,ap 31 .sub 30 1,aa 12 31] (block 2 ((ab [aa 32 12,ap 33 .geq 32 0] (au 33 skip (exit 2))).seq ((block 3 ((ops 1 [aa 36 0,aa 37 8,aa 38 0,aa 39 8,aa 40 12,aN 41 .add 39 40,aa 42 0,aa 43 8,aa 44 12,aN 45 .add 43 44,cO 46 (ixaS 1 (t 42) (t 45)),aE 47 46,aa 48 0,aa 49 8,cO 50 (ixaS 1 (t 48) (t 49)),aE 51 50,cO 52 (ixaS 1 (t 36) (t 37)),bw 1 52 47,cO 53 (ixaS 1 (t 38) (t 41)),bw 1 53 51]).seq (ops 0 [aa 54 0,aa 55 9,aa 56 12,aa 57 8,aa 58 3,aH 59 197 [t 54,t 55,t 56,t 57,t 58]]))).seq (ops 0 [aa 34 12,ap 35 .sub 34 1,aa 12 35]))).loop)))))))
theorem K7:Is Tryz.prog 167 J4:=mkI Tryz.func167
def Mz:F2:=(F2.mk 67 [] (ab [aa 13 2,aa 14 1,aN 15 .sub 13 14,aa 8 15] (ab [aa 16 8,ap 17 .geq 16 8] (au 17 (ab [aa 18 8,cO 19 (conv IntKind.u64 (t 18)),cO 9 (alloc (AV.int IntKind.u64 (0))),bw 1 9 19] (ab [aa 20 8,aH 21 198 [t 20],aa 10 21] (ab [aa 22 1,aa 23 8,ap 24 .quo 23 4,ap 25 .mul 24 2,aN 26 .add 22 25,ap 27 .sub 26 1,aa 11 27] (block 0 ((ab [aa 28 11,aa 29 1,aa 30 8,ap 31 .quo 30 4,ap 32 .mul 31 2,aN 33 .add 29 32,ap 34 .add 33 1,aN 35 .leq 28 34] (au 35 skip (exit 0))).seq ((block 1 (ab [aH 38 199 [t 9],aa 39 10,cO 40 (cB .sub (t 39) (c (AV.int IntKind.u64 (1)))),aN 41 .and 38 40,cO 42 (conv IntKind.i64 (t 41)),aa 12 42] ((ab [aa 43 12,aa 44 8,aN 45 .geq 43 44] (au 45 (ops 0 [aa 46 12,aa 47 8,aN 48 .sub 46 47,aa 12 48]) skip)).seq (ops 1 [aa 49 0,aa 50 11,aa 51 0,aa 52 1,aa 53 12,aN 54 .add 52 53,aa 55 0,aa 56 1,aa 57 12,aN 58 .add 56 57,cO 59 (ixaS 1 (t 55) (t 58)),aE 60 59,aa 61 0,aa 62 11,cO 63 (ixaS 1 (t 61) (t 62)),aE 64 63,cO 65 (ixaS 1 (t 49) (t 50)),bw 1 65 60,cO 66 (ixaS 1 (t 51) (t 54)),bw 1 66 64])))).seq (ops 0 [aa 36 11,ap 37 .add 36 1,aa 11 37]))).loop)))) skip))))
theorem Kr:Is Tryz.prog 168 Mz:=mkI Tryz.func168
def KF:F2:=(F2.mk 63 [RV.t 8,RV.t 9] (ab [cO 8 (mov (cN 0)),cO 9 (mov (cN 0))] (ab [aa 15 2,aa 16 1,aN 17 .sub 15 16,aa 10 17] (ab [cO 11 (alloc (a8))] (ab [aa 18 1,aa 19 10,ap 20 .quo 19 4,ap 21 .mul 20 1,aN 22 .add 18 21,aa 12 22] (ab [aa 23 1,aa 24 10,ap 25 .quo 24 4,ap 26 .mul 25 2,aN 27 .add 23 26,aa 13 27] (ab [aa 28 1,aa 29 10,ap 30 .quo 29 4,ap 31 .mul 30 3,aN 32 .add 28 31,aa 14 32] ((ab [aa 33 10,ap 34 .geq 33 8] (au 34 ((ab [aa 35 10,ap 36 .geq 35 50] (au 36 (ab [aa 37 0,aa 38 12,aa 39 3,aH 40 200 [t 37,t 38,t 11,t 39],aa 12 40] (ab [aa 41 0,aa 42 13,aa 43 3,aH 44 200 [t 41,t 42,t 11,t 43],aa 13 44] (ops 0 [aa 45 0,aa 46 14,aa 47 3,aH 48 200 [t 45,t 46,t 11,t 47],aa 14 48]))) skip)).seq (ops 0 [aa 49 0,aa 50 12,aa 51 13,aa 52 14,aa 53 3,aH 54 201 [t 49,t 50,t 51,t 52,t 11,t 53],aa 13 54])) skip)).seq (ab [aE 55 11] (block 0 (ab [ap 58 .eql 55 0,aa 57 58] (au 57 (ab [aa 59 13,aa 8 59,cO 9 (mov (cN 1))] ret) (ab [ap 61 .eql 55 12,aa 60 61] (au 60 (ab [aa 62 13,aa 8 62,cO 9 (mov (cN 2))] ret) (ab [aa 56 13,aa 8 56,cO 9 (mov (cN 0))] ret)))))))))))))))
theorem K2:Is Tryz.prog 169 KF:=mkI Tryz.func169
def LH:F2:=(F2.mk 34 [] (ab [aa 10 1,aa 8 10] (ab [aa 11 2,ap 12 .sub 11 1,aa 9 12] (block 0 ((ab [aa 13 8,aa 14 9,aN 15 .lss 13 14] (au 15 skip (exit 0))).seq (block 1 ((ops 1 [aa 16 0,aa 17 8,aa 18 0,aa 19 9,aa 20 0,aa 21 9,cO 22 (ixaS 1 (t 20) (t 21)),aE 23 22,aa 24 0,aa 25 8,cO 26 (ixaS 1 (t 24) (t 25)),aE 27 26,cO 28 (ixaS 1 (t 16) (t 17)),bw 1 28 23,cO 29 (ixaS 1 (t 18) (t 19)),bw 1 29 27]).seq (ab [aa 30 8,ap 31 .add 30 1,aa 8 31] (ops 0 [aa 32 9,ap 33 .sub 32 1,aa 9 33]))))).loop))))
theorem LU:Is Tryz.prog 170 LH:=mkI Tryz.func170
def LP:F2:=(F2.mk 141 [RV.t 8] (ab [cO 8 (mov bd)] (ab [aa 13 1,ap 14 .add 13 1,aa 9 14] ((ab [cO 10 (mov (cN 0))] (block 0 ((ab [aa 15 10,ap 16 .lss 15 5] (au 16 skip (exit 0))).seq ((block 1 ((block 2 (((mixS 1 [aa 19 9,aa 20 2,aN 21 .lss 19 20,aa 22 21,an 23 22 (cM 3),an 24 22 (cM 0),an 25 22 (cM 9),an 26 22 (ixaS 1 (t 24) (t 25)),an 27 22 (cD 26),an 28 22 (cM 0),an 29 22 (cM 9),an 30 22 (cB .sub (t 29) (cN 1)),an 31 22 (ixaS 1 (t 28) (t 30)),an 32 22 (cD 31),an 33 22 (call (t 23) [t 27,t 32]),an 34 22 (cB .lss (t 33) (cN 0)),an 35 22 (un UnOp.not (t 34)),cO 36 (pick (t 22) (t 35) bd)] [(0,0),(1,0),(2,0),(3,0),(4,0),(5,0),(6,0),(7,0),(8,0),(9,0),(10,0),(11,0),(12,0),(13,0),(14,2),(15,0),(16,0),(17,0)]).seq (au 36 skip (exit 2))).seq (block 3 (ops 0 [aa 37 9,ap 38 .add 37 1,aa 9 38]))).loop).seq ((ab [aa 39 9,aa 40 2,aN 41 .eql 39 40] (au 41 (ab [cO 8 (mov cP)] ret) skip)).seq ((ab [aa 42 2,aa 43 1,aN 44 .sub 42 43,ap 45 .lss 44 50] (au 45 (ab [cO 8 (mov bd)] ret) skip)).seq ((ops 1 [aa 46 0,aa 47 9,aa 48 0,aa 49 9,ap 50 .sub 49 1,aa 51 0,aa 52 9,ap 53 .sub 52 1,cO 54 (ixaS 1 (t 51) (t 53)),aE 55 54,aa 56 0,aa 57 9,cO 58 (ixaS 1 (t 56) (t 57)),aE 59 58,cO 60 (ixaS 1 (t 46) (t 47)),bw 1 60 55,cO 61 (ixaS 1 (t 48) (t 50)),bw 1 61 59]).seq ((ab [aa 62 9,aa 63 1,aN 64 .sub 62 63,ap 65 .geq 64 2] (au 65 (ab [aa 66 9,ap 67 .sub 66 1,aa 11 67] (block 4 ((ab [aa 68 11,ap 69 .geq 68 1] (au 69 skip (exit 4))).seq ((block 5 (((mixS 1 [aa 72 3,aa 73 0,aa 74 11,cO 75 (ixaS 1 (t 73) (t 74)),aE 76 75,aa 77 0,aa 78 11,ap 79 .sub 78 1,cO 80 (ixaS 1 (t 77) (t 79)),aE 81 80,cO 82 (call (t 72) [t 76,t 81]),ap 83 .lss 82 0,cO 84 (un UnOp.not (t 83))] [(0,0),(1,0),(2,0),(3,0),(4,0),(5,0),(6,0),(7,0),(8,0),(9,0),(10,2),(11,0),(12,0)]).seq (au 84 (exit 4) skip)).seq (ops 1 [aa 85 0,aa 86 11,aa 87 0,aa 88 11,ap 89 .sub 88 1,aa 90 0,aa 91 11,ap 92 .sub 91 1,cO 93 (ixaS 1 (t 90) (t 92)),aE 94 93,aa 95 0,aa 96 11,cO 97 (ixaS 1 (t 95) (t 96)),aE 98 97,cO 99 (ixaS 1 (t 85) (t 86)),bw 1 99 94,cO 100 (ixaS 1 (t 87) (t 89)),bw 1 100 98]))).seq (ops 0 [aa 70 11,ap 71 .sub 70 1,aa 11 71]))).loop)) skip)).seq (ab [aa 101 2,aa 102 9,aN 103 .sub 101 102,ap 104 .geq 103 2] (au 104 (ab [aa 105 9,ap 106 .add 105 1,aa 12 106] (block 6 ((ab [aa 107 12,aa 108 2,aN 109 .lss 107 108] (au 109 skip (exit 6))).seq ((block 7 (((mixS 1 [aa 112 3,aa 113 0,aa 114 12,cO 115 (ixaS 1 (t 113) (t 114)),aE 116 115,aa 117 0,aa 118 12,ap 119 .sub 118 1,cO 120 (ixaS 1 (t 117) (t 119)),aE 121 120,cO 122 (call (t 112) [t 116,t 121]),ap 123 .lss 122 0,cO 124 (un UnOp.not (t 123))] [(0,0),(1,0),(2,0),(3,0),(4,0),(5,0),(6,0),(7,0),(8,0),(9,0),(10,2),(11,0),(12,0)]).seq (au 124 (exit 6) skip)).seq (ops 1 [aa 125 0,aa 126 12,aa 127 0,aa 128 12,ap 129 .sub 128 1,aa 130 0,aa 131 12,ap 132 .sub 131 1,cO 133 (ixaS 1 (t 130) (t 132)),aE 134 133,aa 135 0,aa 136 12,cO 137 (ixaS 1 (t 135) (t 136)),aE 138 137,cO 139 (ixaS 1 (t 125) (t 126)),bw 1 139 134,cO 140 (ixaS 1 (t 127) (t 129)),bw 1 140 138]))).seq (ops 0 [aa 110 12,ap 111 .add 110 1,aa 12 111]))).loop)) skip)))))))).seq (ops 0 [aa 17 10,ap 18 .add 17 1,aa 10 18]))).loop)).seq (ab [cO 8 (mov bd)] ret)))))
theorem MG:Is Tryz.prog 171 LP:=mkI Tryz.func171
def J0:F2:=(F2.mk 90 [RV.t 10] (ab [cO 10 (mov (cN 0))] ((ops 1 [aa 13 0,aa 14 1,aa 15 0,aa 16 3,aa 17 0,aa 18 3,cO 19 (ixaS 1 (t 17) (t 18)),aE 20 19,aa 21 0,aa 22 1,cO 23 (ixaS 1 (t 21) (t 22)),aE 24 23,cO 25 (ixaS 1 (t 13) (t 14)),bw 1 25 20,cO 26 (ixaS 1 (t 15) (t 16)),bw 1 26 24]).seq (ab [aa 27 1,ap 28 .add 27 1,aa 29 2,ap 30 .sub 29 1,aa 11 28,aa 12 30] ((block 0 (block 1 ((block 2 (((mixS 1 [aa 31 11,aa 32 12,aN 33 .leq 31 32,aa 34 33,an 35 34 (cM 4),an 36 34 (cM 0),an 37 34 (cM 1),an 38 34 (ixaS 1 (t 36) (t 37)),an 39 34 (cD 38),an 40 34 (cM 0),an 41 34 (cM 11),an 42 34 (ixaS 1 (t 40) (t 41)),an 43 34 (cD 42),an 44 34 (call (t 35) [t 39,t 43]),an 45 34 (cB .lss (t 44) (cN 0)),an 46 34 (un UnOp.not (t 45)),cO 47 (pick (t 34) (t 46) bd)] [(0,0),(1,0),(2,0),(3,0),(4,0),(5,0),(6,0),(7,0),(8,0),(9,0),(10,0),(11,0),(12,0),(13,2),(14,0),(15,0),(16,0)]).seq (au 47 skip (exit 2))).seq (block 3 (ops 0 [aa 48 11,ap 49 .add 48 1,aa 11 49]))).loop).seq ((block 4 (((mixS 1 [aa 50 11,aa 51 12,aN 52 .leq 50 51,aa 53 52,an 54 53 (cM 4),an 55 53 (cM 0),an 56 53 (cM 1),an 57 53 (ixaS 1 (t 55) (t 56)),an 58 53 (cD 57),an 59 53 (cM 0),an 60 53 (cM 12),an 61 53 (ixaS 1 (t 59) (t 60)),an 62 53 (cD 61),an 63 53 (call (t 54) [t 58,t 62]),an 64 53 (cB .lss (t 63) (cN 0)),cO 65 (pick (t 53) (t 64) bd)] [(0,0),(1,0),(2,0),(3,0),(4,0),(5,0),(6,0),(7,0),(8,0),(9,0),(10,0),(11,0),(12,0),(13,2),(14,0),(15,0)]).seq (au 65 skip (exit 4))).seq (block 5 (ops 0 [aa 66 12,ap 67 .sub 66 1,aa 12 67]))).loop).seq ((ab [aa 68 11,aa 69 12,aN 70 .gtr 68 69] (au 70 (exit 0) skip)).seq ((ops 1 [aa 71 0,aa 72 11,aa 73 0,aa 74 12,aa 75 0,aa 76 12,cO 77 (ixaS 1 (t 75) (t 76)),aE 78 77,aa 79 0,aa 80 11,cO 81 (ixaS 1 (t 79) (t 80)),aE 82 81,cO 83 (ixaS 1 (t 71) (t 72)),bw 1 83 78,cO 84 (ixaS 1 (t 73) (t 74)),bw 1 84 82]).seq (ab [aa 85 11,ap 86 .add 85 1,aa 11 86] (ops 0 [aa 87 12,ap 88 .sub 87 1,aa 12 88]))))))).loop).seq (ab [aa 89 11,aa 10 89] ret))))))
theorem Ky:Is Tryz.prog 172 J0:=mkI Tryz.func172
def JV:F2:=(F2.mk 178 [RV.t 10,RV.t 11] (ab [cO 10 (mov (cN 0)),cO 11 (mov bd)] ((ops 1 [aa 14 0,aa 15 1,aa 16 0,aa 17 3,aa 18 0,aa 19 3,cO 20 (ixaS 1 (t 18) (t 19)),aE 21 20,aa 22 0,aa 23 1,cO 24 (ixaS 1 (t 22) (t 23)),aE 25 24,cO 26 (ixaS 1 (t 14) (t 15)),bw 1 26 21,cO 27 (ixaS 1 (t 16) (t 17)),bw 1 27 25]).seq (ab [aa 28 1,ap 29 .add 28 1,aa 30 2,ap 31 .sub 30 1,aa 12 29,aa 13 31] ((block 0 (((mixS 1 [aa 32 12,aa 33 13,aN 34 .leq 32 33,aa 35 34,an 36 35 (cM 4),an 37 35 (cM 0),an 38 35 (cM 12),an 39 35 (ixaS 1 (t 37) (t 38)),an 40 35 (cD 39),an 41 35 (cM 0),an 42 35 (cM 1),an 43 35 (ixaS 1 (t 41) (t 42)),an 44 35 (cD 43),an 45 35 (call (t 36) [t 40,t 44]),an 46 35 (cB .lss (t 45) (cN 0)),cO 47 (pick (t 35) (t 46) bd)] [(0,0),(1,0),(2,0),(3,0),(4,0),(5,0),(6,0),(7,0),(8,0),(9,0),(10,0),(11,0),(12,0),(13,2),(14,0),(15,0)]).seq (au 47 skip (exit 0))).seq (block 1 (ops 0 [aa 48 12,ap 49 .add 48 1,aa 12 49]))).loop).seq ((block 2 (((mixS 1 [aa 50 12,aa 51 13,aN 52 .leq 50 51,aa 53 52,an 54 53 (cM 4),an 55 53 (cM 0),an 56 53 (cM 13),an 57 53 (ixaS 1 (t 55) (t 56)),an 58 53 (cD 57),an 59 53 (cM 0),an 60 53 (cM 1),an 61 53 (ixaS 1 (t 59) (t 60)),an 62 53 (cD 61),an 63 53 (call (t 54) [t 58,t 62]),an 64 53 (cB .lss (t 63) (cN 0)),an 65 53 (un UnOp.not (t 64)),cO 66 (pick (t 53) (t 65) bd)] [(0,0),(1,0),(2,0),(3,0),(4,0),(5,0),(6,0),(7,0),(8,0),(9,0),(10,0),(11,0),(12,0),(13,2),(14,0),(15,0),(16,0)]).seq (au 66 skip (exit 2))).seq (block 3 (ops 0 [aa 67 13,ap 68 .sub 67 1,aa 13 68]))).loop).seq ((ab [aa 69 12,aa 70 13,aN 71 .gtr 69 70] (au 71 ((ops 1 [aa 72 0,aa 73 13,aa 74 0,aa 75 1,aa 76 0,aa 77 1,cO 78 (ixaS 1 (t 76) (t 77)),aE 79 78,aa 80 0,aa 81 13,cO 82 (ixaS 1 (t 80) (t 81)),aE 83 82,cO 84 (ixaS 1 (t 72) (t 73)),bw 1 84 79,cO 85 (ixaS 1 (t 74) (t 75)),bw 1 85 83]).seq (ab [aa 86 13,aa 10 86,cO 11 (mov cP)] ret)) skip)).seq ((ops 1 [aa 87 0,aa 88 12,aa 89 0,aa 90 13,aa 91 0,aa 92 13,cO 93 (ixaS 1 (t 91) (t 92)),aE 94 93,aa 95 0,aa 96 12,cO 97 (ixaS 1 (t 95) (t 96)),aE 98 97,cO 99 (ixaS 1 (t 87) (t 88)),bw 1 99 94,cO 100 (ixaS 1 (t 89) (t 90)),bw 1 100 98]).seq (ab [aa 101 12,ap 102 .add 101 1,aa 12 102] (ab [aa 103 13,ap 104 .sub 103 1,aa 13 104] ((block 4 (block 5 ((block 6 (((mixS 1 [aa 105 12,aa 106 13,aN 107 .leq 105 106,aa 108 107,an 109 108 (cM 4),an 110 108 (cM 0),an 111 108 (cM 12),an 112 108 (ixaS 1 (t 110) (t 111)),an 113 108 (cD 112),an 114 108 (cM 0),an 115 108 (cM 1),an 116 108 (ixaS 1 (t 114) (t 115)),an 117 108 (cD 116),an 118 108 (call (t 109) [t 113,t 117]),an 119 108 (cB .lss (t 118) (cN 0)),cO 120 (pick (t 108) (t 119) bd)] [(0,0),(1,0),(2,0),(3,0),(4,0),(5,0),(6,0),(7,0),(8,0),(9,0),(10,0),(11,0),(12,0),(13,2),(14,0),(15,0)]).seq (au 120 skip (exit 6))).seq (block 7 (ops 0 [aa 121 12,ap 122 .add 121 1,aa 12 122]))).loop).seq ((block 8 (((mixS 1 [aa 123 12,aa 124 13,aN 125 .leq 123 124,aa 126 125,an 127 126 (cM 4),an 128 126 (cM 0),an 129 126 (cM 13),an 130 126 (ixaS 1 (t 128) (t 129)),an 131 126 (cD 130),an 132 126 (cM 0),an 133 126 (cM 1),an 134 126 (ixaS 1 (t 132) (t 133)),an 135 126 (cD 134),an 136 126 (call (t 127) [t 131,t 135]),an 137 126 (cB .lss (t 136) (cN 0)),an 138 126 (un UnOp.not (t 137)),cO 139 (pick (t 126) (t 138) bd)] [(0,0),(1,0),(2,0),(3,0),(4,0),(5,0),(6,0),(7,0),(8,0),(9,0),(10,0),(11,0),(12,0),(13,2),(14,0),(15,0),(16,0)]).seq (au 139 skip (exit 8))).seq (block 9 (ops 0 [aa 140 13,ap 141 .sub 140 1,aa 13 141]))).loop).seq ((ab [aa 142 12,aa 143 13,aN 144 .gtr 142 143] (au 144 (exit 4) skip)).seq ((ops 1 [aa 145 0,aa 146 12,aa 147 0,aa 148 13,aa 149 0,aa 150 13,cO 151 (ixaS 1 (t 149) (t 150)),aE 152 151,aa 153 0,aa 154 12,cO 155 (ixaS 1 (t 153) (t 154)),aE 156 155,cO 157 (ixaS 1 (t 145) (t 146)),bw 1 157 152,cO 158 (ixaS 1 (t 147) (t 148)),bw 1 158 156]).seq (ab [aa 159 12,ap 160 .add 159 1,aa 12 160] (ops 0 [aa 161 13,ap 162 .sub 161 1,aa 13 162]))))))).loop).seq ((ops 1 [aa 163 0,aa 164 13,aa 165 0,aa 166 1,aa 167 0,aa 168 1,cO 169 (ixaS 1 (t 167) (t 168)),aE 170 169,aa 171 0,aa 172 13,cO 173 (ixaS 1 (t 171) (t 172)),aE 174 173,cO 175 (ixaS 1 (t 163) (t 164)),bw 1 175 170,cO 176 (ixaS 1 (t 165) (t 166)),bw 1 176 174]).seq (ab [aa 177 13,aa 10 177,cO 11 (mov bd)] ret)))))))))))))
theorem MF:Is Tryz.prog 173 JV:=mkI Tryz.func173
def Ir:F2:=(F2.mk 25 [RV.t 2] (ab [cO 2 (mov (cN 0))] ((ab [aa 3 0,cO 4 (cB .geq (t 3) (c (AV.int IntKind.u64 (4294967296))))] (au 4 (ab [aa 5 0,cO 6 (cB .shr (t 5) (c (AV.int IntKind.u64 (32)))),aa 0 6] (ops 0 [cO 2 (mov (cN 32))])) skip)).seq ((ab [aa 7 0,cO 8 (cB .geq (t 7) (c (AV.int IntKind.u64 (65536))))] (au 8 (ab [aa 9 0,cO 10 (cB .shr (t 9) (c (AV.int IntKind.u64 (16)))),aa 0 10] (ops 0 [aa 11 2,ap 12 .add 11 16,aa 2 12])) skip)).seq ((ab [aa 13 0,cO 14 (cB .geq (t 13) (c (AV.int IntKind.u64 (256))))] (au 14 (ab [aa 15 0,cO 16 (cB .shr (t 15) (c (AV.int IntKind.u64 (8)))),aa 0 16] (ops 0 [aa 17 2,ap 18 .add 17 8,aa 2 18])) skip)).seq (ab [aa 19 2,aa 20 0,cO 21 (conv IntKind.u8 (t 20)),cO 22 (ixStr (c (AV.str (ByteArray.mk (Array.mk [0,1,2,2,3,3,3,3,4,4,4,4,4,4,4,4,5,5,5,5,5,5,5,5,5,5,5,5,5,5,5,5,6,6,6,6,6,6,6,6,6,6,6,6,6,6,6,6,6,6,6,6,6,6,6,6,6,6,6,6,6,6,6,6,7,7,7,7,7,7,7,7,7,7,7,7,7,7,7,7,7,7,7,7,7,7,7,7,7,7,7,7,7,7,7,7,7,7,7,7,7,7,7,7,7,7,7,7,7,7,7,7,7,7,7,7,7,7,7,7,7,7,7,7,7,7,7,7,8,8,8,8,8,8,8,8,8,8,8,8,8,8,8,8,8,8,8,8,8,8,8,8,8,8,8,8,8,8,8,8,8,8,8,8,8,8,8,8,8,8,8,8,8,8,8,8,8,8,8,8,8,8,8,8,8,8,8,8,8,8,8,8,8,8,8,8,8,8,8,8,8,8,8,8,8,8,8,8,8,8,8,8,8,8,8,8,8,8,8,8,8,8,8,8,8,8,8,8,8,8,8,8,8,8,8,8,8,8,8,8,8,8,8,8,8,8,8,8,8,8,8,8,8,8,8,8])))) (t 21)),cO 23 (conv IntKind.i64 (t 22)),aN 24 .add 19 23,aa 2 24] ret))))))
theorem H9:Is Tryz.prog 175 Ir:=mkI Tryz.func175
def Mg:F2:=(F2.mk 13 [RV.t 4] (ab [cO 2 (box (t 0)),cO 4 (mov (c AV.esl))] ((ab [aa 6 1] (block 0 (rangeF (t 6) [7] (ops 0 [aa 5 7]) (block 1 (ops 0 [aE 8 2,aa 9 5,cO 10 (bldS 1 1 [AV.esl] [(0,1,t 9)]),cO 11 (app 1 24 (t 8) (t 10)),bw 1 2 11]))))).seq (ab [aE 12 2,aa 4 12] ret))))
theorem Mx:Is Tryz.prog 176 Mg:=mkI Tryz.func176
def KT:F2:=(F2.mk 10 [] (ab [cO 3 (box (t 0))] (ab [cO 4 (alloc AV.nilf)] (ab [cO 5 (mkfn 178 [t 1,t 3,t 2,t 4]),bw 1 4 5] (mixS 1 [aE 6 4,aE 7 1,cO 8 (mks 2 16 [a8,a8] (cN 0) (t 7)),cO 9 (call (t 6) [cN ((0)),t 8])] [(0,0),(1,0),(2,1),(3,2)])))))
theorem LO:Is Tryz.prog 177 KT:=mkI Tryz.func177
def JM:F2:=(F2.mk 37 [RV.t 8] (ab [cO 8 (mov bd)] ((ab [aa 10 1,a9 11 10,aE 12 2,aN 13 .eql 11 12] (au 13 ((mixS 1 [aE 14 3,aa 15 1,aH 16 136 [t 15],cO 17 (call (t 14) [t 16]),aa 8 17] [(0,0),(1,0),(2,1),(3,2),(4,0)]).seq ret) skip)).seq ((ab [aa 18 0,aa 9 18] (block 0 ((ab [aa 19 9,aE 20 4,a9 21 20,aN 22 .lss 19 21] (au 22 skip (exit 0))).seq ((block 1 ((mixS 2 [aE 25 5,aa 26 9,ap 27 .add 26 1,aa 28 1,aE 29 4,aa 30 9,cO 31 (ixaS 2 (t 29) (t 30)),bj 32 2 31,cO 33 (bldS 2 1 [a8,a8] [(0,2,t 32)]),cO 34 (app 2 16 (t 28) (t 33)),cO 35 (call (t 25) [t 27,t 34]),cO 36 (un UnOp.not (t 35))] [(0,0),(1,0),(2,0),(3,0),(4,0),(5,0),(6,0),(7,0),(8,1),(9,1),(10,2),(11,0)]).seq (au 36 (ab [cO 8 (mov bd)] ret) skip))).seq (ops 0 [aa 23 9,ap 24 .add 23 1,aa 9 24]))).loop)).seq (ab [cO 8 (mov cP)] ret)))))
theorem HQ:Is Tryz.prog 178 JM:=mkI Tryz.func178
def Jo:F2:=(F2.mk 17 [RV.t 4] (ab [cO 4 (mov bd)] (ab [aa 5 0,aH 6 165 [t 5],aa 7 6,an 8 7 (cM 1),an 9 7 (call (cF 165) [t 8]),an 10 7 (un UnOp.not (t 9)),cO 11 (pick (t 7) (t 10) bd),aa 12 11,bi 13 12 (cM 0),bi 14 12 (cM 1),bi 15 12 (cB .lss (t 13) (t 14)),cO 16 (pick (t 12) cP (t 15)),aa 4 16] ret)))
theorem HX:Is Tryz.prog 187 Jo:=mkI Tryz.func187
def Lu:F2:=(F2.mk 6 [RV.t 2] (ab [cO 2 (mov bd)] (ab [aa 3 0,aa 4 0,aN 5 .neq 3 4,aa 2 5] ret)))
theorem Kq:Is Tryz.prog 188 Lu:=mkI Tryz.func188
def Ld:F2:=(F2.mk 49 [] (ab [aa 8 1,ap 9 .add 8 1,aa 6 9] (block 0 ((ab [aa 10 6,aa 11 2,aN 12 .lss 10 11] (au 12 skip (exit 0))).seq ((block 1 (ab [aa 15 6,aa 7 15] (block 2 (((mixS 1 [aa 16 7,aa 17 1,aN 18 .gtr 16 17,aa 19 18,an 20 19 (cM 0),an 21 19 (cM 7),an 22 19 (ixaS 1 (t 20) (t 21)),an 23 19 (cD 22),an 24 19 (cM 0),an 25 19 (cM 7),an 26 19 (cB .sub (t 25) (cN 1)),an 27 19 (ixaS 1 (t 24) (t 26)),an 28 19 (cD 27),an 29 19 (call (cF 187) [t 23,t 28]),cO 30 (pick (t 19) (t 29) bd)] [(0,0),(1,0),(2,0),(3,0),(4,0),(5,0),(6,0),(7,0),(8,0),(9,0),(10,0),(11,0),(12,0),(13,2),(14,0)]).seq (au 30 skip (exit 2))).seq ((block 3 (ops 1 [aa 33 0,aa 34 7,aa 35 0,aa 36 7,ap 37 .sub 36 1,aa 38 0,aa 39 7,ap 40 .sub 39 1,cO 41 (ixaS 1 (t 38) (t 40)),aE 42 41,aa 43 0,aa 44 7,cO 45 (ixaS 1 (t 43) (t 44)),aE 46 45,cO 47 (ixaS 1 (t 33) (t 34)),bw 1 47 42,cO 48 (ixaS 1 (t 35) (t 37)),bw 1 48 46])).seq (ops 0 [aa 31 7,ap 32 .sub 31 1,aa 7 32]))).loop))).seq (ops 0 [aa 13 6,ap 14 .add 13 1,aa 6 14]))).loop)))
theorem MQ:Is Tryz.prog 189 Ld:=mkI Tryz.func189
def J7:F2:=(F2.mk 82 [] (ab [aa 12 1,aa 10 12] (block 0 (block 1 (ab [aa 13 10,cO 14 (cB .mul (cN 2) (t 13)),ap 15 .add 14 1,aa 11 15] ((ab [aa 16 11,aa 17 2,aN 18 .geq 16 17] (au 18 (exit 0) skip)).seq (((mixS 1 [aa 19 11,ap 20 .add 19 1,aa 21 2,aN 22 .lss 20 21,aa 23 22,an 24 23 (cM 4),an 25 23 (cM 0),an 26 23 (cM 3),an 27 23 (cM 11),an 28 23 (cB .add (t 26) (t 27)),an 29 23 (ixaS 1 (t 25) (t 28)),an 30 23 (cD 29),an 31 23 (cM 0),an 32 23 (cM 3),an 33 23 (cM 11),an 34 23 (cB .add (t 32) (t 33)),an 35 23 (cB .add (t 34) (cN 1)),an 36 23 (ixaS 1 (t 31) (t 35)),an 37 23 (cD 36),an 38 23 (call (t 24) [t 30,t 37]),an 39 23 (cB .lss (t 38) (cN 0)),cO 40 (pick (t 23) (t 39) bd)] [(0,0),(1,0),(2,0),(3,0),(4,0),(5,0),(6,0),(7,0),(8,0),(9,0),(10,0),(11,0),(12,0),(13,0),(14,0),(15,0),(16,0),(17,0),(18,0),(19,2),(20,0),(21,0)]).seq (au 40 (ops 0 [aa 41 11,ap 42 .add 41 1,aa 11 42]) skip)).seq (((mixS 1 [aa 43 4,aa 44 0,aa 45 3,aa 46 10,aN 47 .add 45 46,cO 48 (ixaS 1 (t 44) (t 47)),aE 49 48,aa 50 0,aa 51 3,aa 52 11,aN 53 .add 51 52,cO 54 (ixaS 1 (t 50) (t 53)),aE 55 54,cO 56 (call (t 43) [t 49,t 55]),ap 57 .lss 56 0,cO 58 (un UnOp.not (t 57))] [(0,0),(1,0),(2,0),(3,0),(4,0),(5,0),(6,0),(7,0),(8,0),(9,0),(10,0),(11,0),(12,0),(13,2),(14,0),(15,0)]).seq (au 58 ret skip)).seq ((ops 1 [aa 59 0,aa 60 3,aa 61 10,aN 62 .add 60 61,aa 63 0,aa 64 3,aa 65 11,aN 66 .add 64 65,aa 67 0,aa 68 3,aa 69 11,aN 70 .add 68 69,cO 71 (ixaS 1 (t 67) (t 70)),aE 72 71,aa 73 0,aa 74 3,aa 75 10,aN 76 .add 74 75,cO 77 (ixaS 1 (t 73) (t 76)),aE 78 77,cO 79 (ixaS 1 (t 59) (t 62)),bw 1 79 72,cO 80 (ixaS 1 (t 63) (t 66)),bw 1 80 78]).seq (ops 0 [aa 81 11,aa 10 81]))))))).loop)))
theorem Kv:Is Tryz.prog 197 J7:=mkI Tryz.func197
def Li:F2:=(F2.mk 7 [RV.t 2] (ab [cO 2 (mov (c (AV.int IntKind.u64 (0))))] (ab [aa 3 0,cO 4 (conv IntKind.u64 (t 3)),aH 5 156 [t 4],cO 6 (cB .shl (c (AV.int IntKind.u64 (1))) (t 5)),aa 2 6] ret)))
theorem MA:Is Tryz.prog 198 Li:=mkI Tryz.func198
def K8:F2:=(F2.mk 33 [RV.t 2] (ab [cO 2 (mov (c (AV.int IntKind.u64 (0))))] ((ops 1 [aa 3 0,cO 4 (nilck (t 3)),aE 5 4,aa 6 0,cO 7 (nilck (t 6)),aE 8 7,cO 9 (cB .shl (t 8) (c (AV.int IntKind.u64 (13)))),aN 10 .xor 5 9,cO 11 (nilck (t 3)),bw 1 11 10]).seq ((ops 1 [aa 12 0,cO 13 (nilck (t 12)),aE 14 13,aa 15 0,cO 16 (nilck (t 15)),aE 17 16,cO 18 (cB .shr (t 17) (c (AV.int IntKind.u64 (7)))),aN 19 .xor 14 18,cO 20 (nilck (t 12)),bw 1 20 19]).seq ((ops 1 [aa 21 0,cO 22 (nilck (t 21)),aE 23 22,aa 24 0,cO 25 (nilck (t 24)),aE 26 25,cO 27 (cB .shl (t 26) (c (AV.int IntKind.u64 (17)))),aN 28 .xor 23 27,cO 29 (nilck (t 21)),bw 1 29 28]).seq (ab [aa 30 0,cO 31 (nilck (t 30)),aE 32 31,aa 2 32] ret))))))
theorem KP:Is Tryz.prog 199 K8:=mkI Tryz.func199
def Kh:F2:=(F2.mk 18 [RV.t 8] (ab [cO 8 (mov (cN 0))] (ab [aa 9 0,aa 10 1,ap 11 .sub 10 1,aa 12 1,aa 13 1,ap 14 .add 13 1,aa 15 2,aa 16 3,aH 17 201 [t 9,t 11,t 12,t 14,t 15,t 16],aa 8 17] ret)))
theorem J5:Is Tryz.prog 200 Kh:=mkI Tryz.func200
def KI:F2:=(F2.mk 41 [RV.t 12] (ab [cO 12 (mov (cN 0))] (ab [aa 14 0,aa 15 1,aa 16 2,aa 17 4,aa 18 5,aH 19 208 [t 14,t 15,t 16,t 17,t 18],aa 13 19,aW 20 13 0,aW 21 13 1,aa 1 20,aa 2 21] (ab [aa 23 0,aa 24 2,aa 25 3,aa 26 4,aa 27 5,aH 28 208 [t 23,t 24,t 25,t 26,t 27],aa 22 28,aW 29 22 0,aW 30 22 1,aa 2 29,aa 3 30] (ab [aa 32 0,aa 33 1,aa 34 2,aa 35 4,aa 36 5,aH 37 208 [t 32,t 33,t 34,t 35,t 36],aa 31 37,aW 38 31 0,aW 39 31 1,aa 1 38,aa 2 39] (ab [aa 40 2,aa 12 40] ret))))))
theorem LS:Is Tryz.prog 201 KI:=mkI Tryz.func201
def KO:F2:=(F2.mk 32 [RV.t 10,RV.t 11] (ab [cO 10 (mov (cN 0)),cO 11 (mov (cN 0))] (((mixS 1 [aa 12 4,aa 13 0,aa 14 2,cO 15 (ixaS 1 (t 13) (t 14)),aE 16 15,aa 17 0,aa 18 1,cO 19 (ixaS 1 (t 17) (t 18)),aE 20 19,cO 21 (call (t 12) [t 16,t 20]),ap 22 .lss 21 0] [(0,0),(1,0),(2,0),(3,0),(4,0),(5,0),(6,0),(7,0),(8,0),(9,2),(10,0)]).seq (au 22 (ab [aa 23 3,cO 24 (nilck (t 23)),aE 25 24,ap 26 .add 25 1,cO 27 (nilck (t 23)),bw 1 27 26] (ab [aa 28 2,aa 29 1,aa 10 28,aa 11 29] ret)) skip)).seq (ab [aa 30 1,aa 31 2,aa 10 30,aa 11 31] ret))))
theorem Kl:Is Tryz.prog 208 KO:=mkI Tryz.func208
end Go.Proofs.YtekdaafnjdlenaaGreat
namespace Go.Proofs.YtekdaafnjdlenaaGreat
open Go Go.Abs
def swp{α:Type}[Inhabited α](L:List α)(i j:Nat):List α:=(L.set i (L.getD j default)).set j (L.getD i default)
structure PermR{α:Type}[Inhabited α](a b:Nat)(L L':List α):Prop where
 len:L'.length=L.length
 out:∀i,i<a∨b≤i→L'.getD i default=L.getD i default
 perm:L'.Perm L
section
variable{α:Type}[Inhabited α]{a b a' b':Nat}{L L' L'':List α}
theorem dL{l:List α}{i j:Nat}{x:α}(h:i<l.length):(l.set i x).getD j default=if i=j then x else l.getD j default:=by
 simp only[List.getD,List.getElem?_set];split
 ·rename_i e;subst e;simp[h]
 ·rfl
theorem BX(i j:Nat):(swp L i j).length=L.length:=by simp[swp]
theorem eV{i j:Nat}(hi:i<L.length)(hj:j<L.length)(k:Nat):(swp L i j).getD k default=if k=j then L.getD i default else if k=i then L.getD j default else L.getD k default:=by
 unfold swp;rw[dL (by simpa using hj),dL hi];by_cases e:k=j
 ·subst e;simp
 ·rw[if_neg (fun h=>e h.symm),if_neg e];by_cases e2:k=i
  ·subst e2;simp
  ·rw[if_neg (fun h=>e2 h.symm),if_neg e2]
theorem Fe{i j:Nat}(hi:i<L.length)(hj:j<L.length):(swp L i j).Perm L:=by
 unfold swp;have e1:L.getD i default=L[i]:=by simp[List.getD,hi]
 have e2:L.getD j default=L[j]:=by simp[List.getD,hj]
 rw[e1,e2];exact List.set_set_perm hi hj
theorem PermR.refl:PermR a b L L:=⟨rfl,fun _ _=>rfl,List.Perm.refl _⟩
theorem PermR.trans(h:PermR a b L L')(k:PermR a b L' L''):PermR a b L L'':=⟨k.len.trans h.len,fun i hi=>(k.out i hi).trans (h.out i hi),k.perm.trans h.perm⟩
theorem PermR.mono(h:PermR a' b' L L')(h1:a≤a')(h2:b'≤b):PermR a b L L':=⟨h.len,fun i hi=>h.out i (by omega),h.perm⟩
theorem PermR.swap{i j:Nat}(h1:a≤i∧i<b)(h2:a≤j∧j<b)(hb:b≤L.length):PermR a b L (swp L i j):=
 ⟨BX i j,fun k hk=>by rw[eV (by omega) (by omega),if_neg (by omega),if_neg (by omega)],Fe (by omega) (by omega)⟩
theorem yp{l m:List α}(hl:l.length=m.length)(h:∀i,i<l.length→l.getD i default=m.getD i default):l=m:=
 List.ext_getElem hl (fun i h1 h2=>by
  have:=h i h1;simpa[List.getD,h1,h2] using this)
theorem PermR.mid(h:PermR a b L L')(hab:a≤b)(hb:b≤L.length):((L'.drop a).take (b-a)).Perm ((L.drop a).take (b-a)):=by
 have e1:∀M:List α,b≤M.length→M=M.take a++((M.drop a).take (b-a)++M.drop b):=fun M hM=>by
  have:M.drop b=(M.drop a).drop (b-a):=by rw[List.drop_drop];congr 1;omega
  rw[this,F3,F3]
 have t:L'.take a=L.take a:=yp (by simp [h.len]) (fun i hi=>by
  have hi':i<a:=by simp at hi;omega
  rw[p9 hi',p9 hi'];exact h.out i (.inl hi'))
 have d:L'.drop b=L.drop b:=yp (by simp [h.len]) (fun i hi=>by
  have e:∀M:List α,(M.drop b).getD i default=M.getD (b+i) default:=fun M=>by simp[List.getD,mg]
  rw[e,e];exact h.out (b+i) (.inr (by omega)))
 have p:=h.perm;rw[e1 L' (by rw[h.len];exact hb),e1 L hb,t,d] at p;exact(List.perm_append_right_iff _).1 ((List.perm_append_left_iff _).1 p)
theorem Bj{M:List α}{x:α}(hab:a≤b)(hb:b≤M.length):x∈(M.drop a).take (b-a)↔ ∃i,a≤i∧i<b∧M.getD i default=x:=by
 constructor
 ·intro h;obtain⟨j,hj,e⟩:=jp h;have hj':j<b-a:=by simp at hj;omega
  refine⟨a+j,by omega,by omega,?_⟩;rw[←e];simp[List.getD,List.getElem_take,List.getElem_drop,show a+j<M.length by omega]
 ·rintro⟨i,h1,h2,rfl⟩;rw[List.mem_iff_getElem?];refine⟨i-a,?_⟩;rw[iq,if_pos (by omega),mg,show a+(i-a)=i by omega];simp[List.getD,show i<M.length by omega]
theorem PermR.all{p:α→Prop}(h:PermR a b L L')(hab:a≤b)(hb:b≤L.length)(hp:∀i,a≤i→i<b→p (L.getD i default)):∀i,a≤i→i<b→p (L'.getD i default):=by
 intro i h1 h2;have hm:L'.getD i default∈(L'.drop a).take (b-a):=(Bj hab (by rw[h.len];exact hb)).2 ⟨i,h1,h2,rfl⟩;obtain⟨j,k1,k2,e⟩:=(Bj hab hb).1 ((h.mid hab hb).mem_iff.1 hm);rw[←e];exact hp j k1 k2
end
structure Ord{α:Type}(K:α→α→Int):Prop where
 irr:∀x,¬K x x<0
 asym:∀x y,K x y<0→¬K y x<0
 negtr:∀x y z,¬K y x<0→¬K z y<0→¬K z x<0
def bo{α:Type}[Inhabited α](K:α→α→Int)(a b:Nat)(L:List α):Prop:=∀i j,a≤i→i<j→j<b→¬K (L.getD j default) (L.getD i default)<0
theorem bo.one{α:Type}[Inhabited α]{K:α→α→Int}{a b:Nat}{L:List α}(h:b≤a+1):bo K a b L:=fun i j h1 h2 h3=>by omega
structure LinK{α:Type}(K:α→α→Int):Prop where
 ord:Ord K
 eq:∀x y,¬K x y<0→¬K y x<0→x=y
def b8{α:Type}(K:α→α→Int)(l:List α):Prop:=l.Pairwise fun x y=>K x y<0
def kP{α:Type}(K:α→α→Int):List α→α→List α
 |[],v=>[v]
 |a::l,v=>if K v a<0 then v::a::l else a::kP K l v
section
variable{α:Type}[DecidableEq α]{K:α→α→Int}
def lX(K:α→α→Int)(acc:List α)(v:α):List α:=if v∈acc then acc else kP K acc v
def pZ(K:α→α→Int)(acc l:List α):List α:=l.foldl (lX K) acc
def l8(K:α→α→Int)(l:List α):List α:=pZ K [] l
omit [DecidableEq α] in
theorem b8.nil:b8 K ([]:List α):=qq
omit [DecidableEq α] in
theorem b8.nodup{l:List α}(hK:LinK K)(h:b8 K l):l.Nodup:=xK (fun{a b} h e=>by subst e;exact hK.ord.irr a h) h
omit [DecidableEq α] in
theorem LinK.tri(hK:LinK K)(x y:α):K x y<0∨x=y∨K y x<0:=by
 by_cases h1:K x y<0
 ·exact .inl h1
 ·by_cases h2:K y x<0
  ·exact .inr (.inr h2)
  ·exact .inr (.inl (hK.eq x y h1 h2))
omit [DecidableEq α] in
theorem LinK.trans(hK:LinK K){x y z:α}(h1:K x y<0)(h2:K y z<0):K x z<0:=by
 refine Decidable.byContradiction fun hn=>?_;exact hK.ord.negtr z x y hn (hK.ord.asym _ _ h1) h2
omit [DecidableEq α] in
theorem nc{a b:List α}(hK:LinK K)(ha:b8 K a)(hb:b8 K b)(h:∀x,x∈a↔x∈b):a=b:=by
 classical
 have hp:a.Perm b:=(List.perm_ext_iff_of_nodup (ha.nodup hK) (hb.nodup hK)).2 h;exact List.Perm.eq_of_pairwise (fun x y _ _ h1 h2=>absurd h2 (hK.ord.asym _ _ h1)) ha hb hp
omit [DecidableEq α] in
theorem zI{l:List α}{v x:α}:x∈kP K l v↔x∈l∨x=v:=by
 induction l with
 |nil=>simp[kP]
 |cons a l ih=>
  unfold kP;split
  ·simp only[cW];exact⟨fun h=>h.elim .inr .inl,fun h=>h.elim .inr .inl⟩
  ·rw[cW,ih,cW,or_assoc]
omit [DecidableEq α] in
theorem D7{l:List α}{v:α}(hK:LinK K)(h:b8 K l)(hv:v∉l):b8 K (kP K l v):=by
 induction l with
 |nil=>exact List.pairwise_singleton _ _
 |cons a l ih=>
  unfold b8 at h;rw[gU] at h;unfold kP;split
  ·rename_i hlt
   exact gU.2 ⟨fun y hy=>by
    rcases cW.1 hy with rfl|hy
    ·exact hlt
    ·exact hK.trans hlt (h.1 y hy),gU.2 h⟩
  ·rename_i hlt;refine gU.2 ⟨fun y hy=>?_,ih h.2 fun hm=>hv (ew _ hm)⟩;rcases zI.1 hy with hy|rfl
   ·exact h.1 y hy
   ·rcases hK.tri y a with k|k|k
    ·exact absurd k hlt
    ·exact absurd (k▸dq) hv
    ·exact k
omit [DecidableEq α] in
theorem yI{l:List α}{v:α}:(kP K l v).length=l.length+1:=by
 induction l with
 |nil=>rfl
 |cons a l ih=>unfold kP;split<;>simp[ih]
theorem FI{acc:List α}{v x:α}:x∈lX K acc v↔x∈acc∨x=v:=by
 unfold lX;split
 ·rename_i h;exact⟨.inl,fun h2=>h2.elim id (fun e=>e▸h)⟩
 ·exact zI
theorem F4{acc:List α}{v:α}(hK:LinK K)(h:b8 K acc):b8 K (lX K acc v):=by
 unfold lX;split
 ·exact h
 ·rename_i hn;exact D7 hK h hn
theorem DY{acc:List α}{v:α}:(lX K acc v).length≤acc.length+1:=by
 unfold lX;split
 ·omega
 ·rw[yI];exact aO _
theorem yY:∀{l acc:List α}{x:α},x∈pZ K acc l↔x∈acc∨x∈l
 |[],acc,x=>by simp[pZ]
 |v::l,acc,x=>by
  rw[show pZ K acc (v::l)=pZ K (lX K acc v) l from rfl,yY,FI,cW,or_assoc]
theorem zh(hK:LinK K):∀{l acc:List α},b8 K acc→b8 K (pZ K acc l)
 |[],_,h=>h
 |v::l,acc,h=>zh hK (l:=l) (F4 hK (v:=v) h)
theorem yL:∀{l acc:List α},(pZ K acc l).length≤acc.length+l.length
 |[],acc=>by simp[pZ]
 |v::l,acc=>by
  rw[show pZ K acc (v::l)=pZ K (lX K acc v) l from rfl];have:=yL (l:=l) (acc:=lX K acc v);have:=DY (K:=K) (acc:=acc) (v:=v);rw[bO];omega
theorem DQ{acc l:List α}{v:α}:pZ K acc (l++[v])=lX K (pZ K acc l) v:=by
 unfold pZ;rw[List.foldl_append];rfl
theorem sj(hK:LinK K)(l:List α):b8 K (l8 K l):=zh hK qq
theorem mq{l:List α}{x:α}:x∈l8 K l↔x∈l:=by
 unfold l8;rw[yY];simp
theorem sT{l:List α}:(l8 K l).length≤l.length:=by
 have:=yL (K:=K) (l:=l) (acc:=[]);unfold l8;rw[fA] at this;omega
theorem GG(hK:LinK K){l:List α}(h:b8 K l):l8 K l=l:=nc hK (sj hK l) h fun _=>mq
theorem CL{l:List α}{v:α}:l8 K (l++[v])=lX K (l8 K l) v:=DQ
theorem yy{l:List α}:l8 K l=[]↔l=[]:=by
 constructor
 ·intro h;cases l with
  |nil=>rfl
  |cons a l=>
   have:a∈l8 K (a::l):=mq.2 (dq ..);rw[h] at this;exact absurd this (by simp)
 ·rintro rfl;rfl
end
section
variable{α:Type}[Inhabited α][DecidableEq α]
end
abbrev Shn{α:Type}(l:List α):Prop:=l.length≤17592186044416
structure Vtx where
 color:Int
 label:Int
 deriving Inhabited,DecidableEq
abbrev Spx:=List Vtx
def DV(v:Vtx):List AV:=[.int .i64 v.color,.int .i64 v.label]
abbrev dA(v:Vtx):AV:=.agg [.int .i64 v.color,.int .i64 v.label]
def aA(l:Spx):AV:=iK 2 dA l
def am(l:List Spx):AV:=iK 1 aA l
def cX(l:Spx):List AV:=l.flatMap DV
theorem FC(v:Vtx):Dat (dA v):=Dat.agg (DatL.cons .int (DatL.cons .int DatL.nil))
theorem dt (l:Spx):Dat (aA l):=rZ (fun x _ c hc=>by
 simp only[dA,AV.cells,cW,List.not_mem_nil,or_false] at hc;rcases hc with rfl|rfl<;>exact .int)
theorem bI (l:List Spx):Dat (am l):=rZ (fun x _ c hc=>by
 simp only[aA,iK,AV.cells,de] at hc;subst hc;exact dt x)
instance datI_encX{v:Vtx}:DatI (dA v):=⟨FC v⟩
instance datI_encXs{l:Spx}:DatI (aA l):=⟨dt l⟩
instance datI_encXss{l:List Spx}:DatI (am l):=⟨bI l⟩
theorem aL{l:Spx}:(aA l).cells=[aA l]:=rfl
theorem a7{l:Spx}:(aA l).one=true:=rfl
theorem af{l:List Spx}:(am l).cells=[am l]:=rfl
theorem ai{l:List Spx}:(am l).one=true:=rfl
theorem A0{l:Spx}{k:IntKind}{n:Int}:ey 2 (aA l) (.int k n)=if 0≤n∧n<l.length then some (.iptr [.int .i64 (l.getD n.toNat default).color,.int .i64 (l.getD n.toNat default).label] 0) else none:=mH
theorem ao{l:Spx}:dw (aA l)=some (.int .i64 l.length):=kT
theorem ra{l:List Spx}{k:IntKind}{n:Int}:ey 1 (am l) (.int k n)=if 0≤n∧n<l.length then some (.iptr [aA (l.getD n.toNat default)] 0) else none:=mH
theorem ae{l:List Spx}:dw (am l)=some (.int .i64 l.length):=kT
theorem ix2{l:Spx}{k:Nat}(h:k<l.length):ey 2 (aA l) (.int .i64 (k:Int))=some (.iptr [.int .i64 (l.getD k default).color,.int .i64 (l.getD k default).label] 0):=by
 rw[A0,if_pos ⟨by omega,by omega⟩,cr]
theorem ec{l:List Spx}{k:Nat}(h:k<l.length):ey 1 (am l) (.int .i64 (k:Int))=some (.iptr [aA (l.getD k default)] 0):=by
 rw[ra,if_pos ⟨by omega,by omega⟩,cr]
theorem gA(l:Spx):(cX l).length=l.length*2:=by
 induction l with
 |nil=>rfl
 |cons a l ih=>rw[cX,wh,cS,bO,show(l.flatMap DV).length=l.length*2 from ih];show 2+_=_;omega
theorem mI(l m:Spx):cX (l++m)=cX l++cX m:=List.flatMap_append
theorem II(v:Vtx):cX [v]=[.int .i64 v.color,.int .i64 v.label]:=rfl
theorem A5(l:Spx):(l.map dA).flatMap AV.cells=cX l:=by
 induction l with
 |nil=>rfl
 |cons a l ih=>rw[fB,wh,ih];rfl
theorem Gf{H:Hp}{s:AV}{l:Spx}(h:Row H 2 s (cX l)):Snap H s (aA l):=by
 refine Row.snap (elems:=l.map dA) (by rw[A5];exact h) (fun y hy=>?_) (by omega) (fun y hy c hx=>?_)
 ·obtain⟨n,_,rfl⟩:=bK.1 hy;rfl
 ·obtain⟨n,_,rfl⟩:=bK.1 hy;simp only[dA,AV.cells,cW,List.not_mem_nil,or_false] at hx;rcases hx with rfl|rfl<;>exact .int
theorem gL{H:Hp}{s:AV}{l:List Spx}(h:Row H 1 s (l.map aA)):Snap H s (am l):=h.snapL' (fun _=>rfl) (fun x _=>dt x)
theorem uY{H:Hp}{l:Spx}:er 2 H (aA l)=some (l.length,cX l):=by
 unfold aA iK;rw[ju,A5];simp
theorem kB(l:Spx):AV.ones (cX l)=true:=by
 unfold AV.ones;rw[ea];intro x hx;obtain⟨v,_,hv⟩:=List.mem_flatMap.1 hx;simp only[DV,cW,List.not_mem_nil,or_false] at hv;rcases hv with rfl|rfl<;>rfl
def cC(v w:Vtx):Int:=if v.color<w.color then-1 else if v.color>w.color then 1 else if v.label<w.label then-1 else if v.label>w.label then 1 else 0
def bl:Spx→Spx→Int
 |[],[]=>0
 |[],_::_=>-1
 |_::_,[]=>1
 |a::l,b::m=>if cC a b≠0 then cC a b else bl l m
theorem ou{v w:Vtx}:cC v w<0↔v.color<w.color∨(v.color=w.color∧v.label<w.label):=by
 unfold cC;(repeat' split)<;>constructor<;>intro h<;>omega
theorem od{v w:Vtx}:v=w↔v.color=w.color∧v.label=w.label:=by
 obtain⟨a,b⟩:=v;obtain⟨c,d⟩:=w;simp
theorem iT{v w:Vtx}:cC v w=0↔v=w:=by
 rw[od];unfold cC;(repeat' split)<;>constructor<;>intro h<;>omega
theorem uS(v w:Vtx):cC w v=- cC v w:=by
 unfold cC;(repeat' split)<;>omega
theorem zS:LinK cC where
 ord:={irr:=fun x=>by rw[ou];omega,asym:=fun x y h=>by rw[ou] at *;omega,negtr:=fun x y z h1 h2=>by rw[ou] at *;omega}
 eq:=fun x y h1 h2=>by rw[ou] at *;rw[od];omega
theorem fU:∀l:Spx,bl l l=0
 |[]=>rfl
 |a::l=>by rw[bl,iT.2 rfl,if_neg (by simp)];exact fU l
theorem pf:∀{l m:Spx},bl l m=0→l=m
 |[],[],_=>rfl
 |[],_::_,h=>by simp[bl] at h
 |_::_,[],h=>by simp[bl] at h
 |a::l,b::m,h=>by
  rw[bl] at h;by_cases e:cC a b=0
  ·rw[if_neg (fun h=>h e)] at h;rw[iT.1 e,pf h]
  ·rw[if_pos e] at h;exact absurd h e
theorem vA{l m:Spx}:bl l m=0↔l=m:=⟨pf,fun h=>by rw[h];exact fU _⟩
theorem pY:∀l m:Spx,bl m l=- bl l m
 |[],[]=>rfl
 |[],_::_=>rfl
 |_::_,[]=>rfl
 |a::l,b::m=>by
  rw[bl,bl,uS a b];by_cases e:cC a b=0
  ·rw[e,if_neg (by simp),if_neg (by simp)];exact pY l m
  ·rw[if_pos (by omega),if_pos e]
theorem r7:∀(x y z:Spx),¬bl y x<0→¬bl z y<0→¬bl z x<0
 |[],_,[],_,_=>by simp[bl]
 |[],_,_::_,_,_=>by simp[bl]
 |_::_,[],_,h,_=>by simp[bl] at h
 |_::_,_::_,[],_,h=>by simp[bl] at h
 |a::x,b::y,c::z,h1,h2=>by
  rw[bl] at h1 h2 ⊢;have n:=zS.ord.negtr a b c;by_cases e1:cC b a=0
  ·have e1':=iT.1 e1;subst e1';rw[if_neg (fun h=>h e1)] at h1;by_cases e2:cC c b=0
   ·rw[if_neg (fun h=>h e2)] at h2 ⊢;exact r7 x y z h1 h2
   ·rw[if_pos e2] at h2 ⊢;exact h2
  ·rw[if_pos e1] at h1;by_cases e2:cC c b=0
   ·have e2':=iT.1 e2;subst e2';rw[if_pos e1];exact h1
   ·rw[if_pos e2] at h2;have h3:=n h1 h2;by_cases e3:cC c a=0
    ·exfalso;have e3':=iT.1 e3;subst e3';have:=uS b c;omega
    ·rw[if_pos e3];exact h3
theorem my:LinK bl where
 ord:={irr:=fun x=>by rw[fU];omega,asym:=fun x y h=>by rw[pY];omega,negtr:=r7}
 eq:=fun x y h1 h2=>by
  have:=pY x y;exact pf (by omega)
theorem vH{l m:Spx}{k:Nat}(h1:k<l.length)(h2:k<m.length):bl (l.drop k) (m.drop k)=if cC (l.getD k default) (m.getD k default)≠0 then cC (l.getD k default) (m.getD k default) else bl (l.drop (k+1)) (m.drop (k+1)):=by
 rw[mQ h1,mQ h2,bl]
theorem tA{l m:Spx}{k:Nat}(h:l.length≤k∨m.length≤k)(hk:k≤l.length∧k≤m.length):bl (l.drop k) (m.drop k)=if l.length<m.length then-1 else if m.length<l.length then 1 else 0:=by
 by_cases e1:l.length=k
 ·rw[EZ (show l.length≤k by omega)];by_cases e2:m.length=k
  ·rw[EZ (by omega),if_neg (by omega),if_neg (by omega)];rfl
  ·rw[mQ (l:=m) (k:=k) (by omega),if_pos (by omega)];rfl
 ·have e2:m.length=k:=by omega
  rw[mQ (l:=l) (k:=k) (by omega),EZ (show m.length≤k by omega),if_neg (by omega),if_pos (by omega)];rfl
def dK(f:Nat→Int):Nat→Int
 |0=>0
 |n+1=>if dK f n≠0 then dK f n else f n
theorem dG{f:Nat→Int}:∀{n:Nat},(∀i,i<n→f i=0)→dK f n=0
 |0,_=>rfl
 |n+1,h=>by
  have:=dG (f:=f) (n:=n) (fun i hi=>h i (by omega));rw[dK,this,if_neg (by simp)];exact h n (by omega)
theorem di{f:Nat→Int}:∀{n k:Nat},k<n→(∀i,i<k→f i=0)→f k≠0→dK f n=f k
 |0,k,h,_,_=>absurd h (by omega)
 |n+1,k,h,h0,hk=>by
  rw[dK];by_cases e:k=n
  ·subst e;rw[dG h0,if_neg (by simp)]
  ·rw[di (n:=n) (by omega) h0 hk,if_pos hk]
theorem iX{f:Nat→Int}:∀{n:Nat},dK f n=0→∀i,i<n→f i=0
 |0,_,i,h=>absurd h (by omega)
 |n+1,h,i,hi=>by
  rw[dK] at h;by_cases e:dK f n=0
  ·rw[e,if_neg (by simp)] at h;by_cases ei:i=n
   ·subst ei;exact h
   ·exact iX e i (by omega)
  ·rw[if_pos e] at h;exact absurd h e
def fF(v:Vtx):Bool:=decide (0≤v.color)&&decide (v.color<8)&&(decide (0≤v.label)&&decide (v.label≤1048576))
def qR(l:Spx)(k:Nat):Int:=if fF (l.getD k default)=false then 2 else if 0<k∧0≤cC (l.getD (k-1) default) (l.getD k default) then 14 else 0
def bV(l:Spx):Int:=if l.length=0 then 16 else if 8<l.length then 5 else dK (qR l) l.length
theorem co{l:Spx}(h:bV l=0):1≤l.length∧l.length≤8∧b8 cC l∧∀v∈l,fF v=true:=by
 unfold bV at h;split at h
 ·exact absurd h (by decide)
 split at h
 ·exact absurd h (by decide)
 rename_i h1 h2;have hz:=iX h
 have h3:∀k,k<l.length→fF (l.getD k default)=true∧(0<k→cC (l.getD (k-1) default) (l.getD k default)<0):=fun k hk=>by
  have:=hz k hk;unfold qR at this;split at this
  ·exact absurd this (by decide)
  rename_i g1;split at this
  ·exact absurd this (by decide)
  rename_i g2;exact⟨by simpa using g1,fun h0=>by omega⟩
 refine⟨by omega,by omega,?_,fun v hv=>?_⟩
 ·have step:∀j i,i<j→j<l.length→cC (l.getD i default) (l.getD j default)<0:=by
    intro j
    induction j with
    |zero=>intro i h;omega
    |succ j ih=>
     intro i hi hj;have hs:=(h3 (j+1) hj).2 (by omega);rw[ro] at hs;by_cases e:i=j
     ·subst e;exact hs
     ·exact zS.trans (ih i (by omega) (by omega)) hs
  unfold b8;rw[kJ];intro i j hi hj hij;have:=step j i hij hj;simpa[List.getD,hi,hj] using this
 ·obtain⟨i,hi,rfl⟩:=jp hv;have:=(h3 i hi).1;simpa[List.getD,hi] using this
theorem eG{α:Type}[Inhabited α]{K:α→α→Int}{l:List α}(h:b8 K l){i j:Nat}(hij:i<j)(hj:j<l.length):K (l.getD i default) (l.getD j default)<0:=by
 have:=kJ.1 h i j (by omega) hj hij;simpa[List.getD,hj,show i<l.length by omega] using this
theorem yx{l:Spx}(h1:1≤l.length∧l.length≤8)(h2:b8 cC l)(h3:∀v∈l,fF v=true):bV l=0:=by
 unfold bV;rw[if_neg (by omega),if_neg (by omega)];refine dG fun k hk=>?_;unfold qR;rw[h3 _ (bg hk),if_neg (by simp),if_neg];rintro⟨h0,h4⟩;have:=eG h2 (i:=k-1) (j:=k) (by omega) hk;omega
end Go.Proofs.YtekdaafnjdlenaaGreat
namespace Go.Proofs.YtekdaafnjdlenaaGreat
open Go Go.Abs
open Nat (reduceEqDiff reduceAdd reduceLeDiff)
def c3i(a b:Int):Int:=if a<b then-1 else if a>b then 1 else 0
theorem GN(v w:Vtx):(if c3i v.color w.color≠0 then c3i v.color w.color else c3i v.label w.label)=cC v w:=by
 unfold c3i cC;by_cases h1:v.color<w.color
 ·rw[if_pos h1,if_pos h1,if_pos (by simp)]
 ·rw[if_neg h1,if_neg h1];by_cases h2:v.color>w.color
  ·rw[if_pos h2,if_pos h2,if_pos (by simp)]
  ·rw[if_neg h2,if_neg h2,if_neg (by simp)]
attribute [local irreducible] aJ aj bf aX aP aQ aD aS a6 bk Go.Abs.Fn aV Go.Abs.Pure ar aK Yl
theorem jb(n:Int):pU 165 [.int .i64 n] (.bool false):=by
 refine pO Ks ?_;simp only[ME,aG];refine wnZ and_self ?_;exact b9 (aU (fun h=>h rfl))
theorem Ex(a b:Int):pU 152 [.int .i64 a,.int .i64 b] (.int .i64 (c3i a b)):=by
 refine pO KL ?_;simp only[Kk,aG];have h1:=jb a;have h2:=jb b;unfold c3i
 repeat' (first|refine zW ?_|apply a_n|apply a_r|refine zO ?_|refine vZ ?_|refine cZ ?_ (hp:=by first|exact h1|exact h2)|refine cFZ ?_|(refine zGZ ?_ ?_<;>(intro _hg;try (exfalso;omega)))|refine bR rfl ?_|refine r1Z ?_|fail)
 all_goals (refine eh ?_)
 ·rw[if_pos (by omega)]
 ·rw[if_neg (by omega),if_pos (by omega)]
 ·rw[if_neg (by omega),if_neg (by omega)]
theorem LL(a b:Int):pU 151 [aC [a,b]] (.int .i64 (if a≠0 then a else b)):=by
 refine pO Kc ?_;simp only[LA,aG];refine wnZ and_self ?_;refine Cc (fun k=>[(3,.int .i64 0),(6,aC [a,b]),(7,.int .i64 2),(8,.int .i64 k)]) 2 (fun k=>[a,b].getD k default=0) (by(iterate 4 refine And.intro rfl ?_);trivial) ?_;intro k hk hz;rcases(by omega:k=0∨k=1∨k=2) with rfl|rfl|rfl
 ·have e:[a,b].getD 0 default=a:=rfl;have ix:ey 1 (aC [a,b]) (.int .i64 ((0:Nat):Int))=some (.iptr [.int .i64 a] 0):=rfl;by_cases h0:a=0
  ·have z:decide (a≠0)=false:=aU (fun h=>h h0);refine wnZ (aI @ix @z) ?_;exact⟨by omega,h0,by(iterate 4 refine And.intro rfl ?_);trivial,rfl,rfl⟩
  ·have z:decide (a≠0)=true:=aR h0;refine wnZ (aI @ix @z) ?_;rw[if_pos h0];exact .int _ _
 ·have h0:a=0:=hz 0 (by omega);have ix:ey 1 (aC [a,b]) (.int .i64 ((1:Nat):Int))=some (.iptr [.int .i64 b] 0):=rfl;rw[if_neg (fun h=>h h0)];by_cases h1:b=0
  ·have z:decide (b≠0)=false:=aU (fun h=>h h1);refine wnZ (aI @ix @z) ?_;exact⟨by omega,h1,by(iterate 4 refine And.intro rfl ?_);trivial,rfl,rfl⟩
  ·have z:decide (b≠0)=true:=aR h1;refine wnZ (aI @ix @z) ?_;exact .int _ _
 ·have h0:a=0:=hz 0 (by omega);have h1:b=0:=hz 1 (by omega);rw[if_neg (fun h=>h h0),h1];refine wnZ and_self ?_;exact .int _ _
theorem Bi(v w:Vtx):pU 123 [dA v,dA w] (.int .i64 (cC v w)):=by
 refine pO K4 ?_;simp only[MP,aG];have h1:=Ex v.color w.color;have h2:=Ex v.label w.label;have h3:=LL (c3i v.color w.color) (c3i v.label w.label);rw[GN] at h3;refine wkZ and_self ?_;refine ed ev0 (by((try simp only[bW,ZA,reduceEqDiff,↓reduceIte,reduceAdd,reduceLeDiff]);(try with_reducible rfl));rfl) h3 (aF (ah (d8 ag rfl rfl) ak) rfl) ?_;refine wnZ and_self ?_;exact .int _ _
theorem tU(v w:Vtx):pU 126 [dA v,dA w] (.int .i64 (cC v w)):=by
 refine pO JR ?_;simp only[Kt,aG];unfold cC
 repeat' (first|refine zW ?_|apply a_n|apply a_r|refine zO ?_|refine vZ ?_|refine bxZ ?_|(refine zGZ ?_ ?_<;>(intro _hg;try (exfalso;omega)))|refine bR rfl ?_|refine r1Z ?_|fail)
 all_goals (refine eh ?_;(repeat' split)<;>omega)
theorem AI(v:Vtx):pU 153 [dA v] (.bool (fF v)):=by
 refine pO Mv ?_;simp only[Mb,aG];unfold fF
 repeat' (first|refine zW ?_|apply a_n|refine zO ?_|refine vZ ?_|refine bxZ ?_|refine gTZ ?_|refine gFZ ?_|(refine zGZ ?_ ?_<;>(intro _hg;try (exfalso;omega)))|refine bR rfl ?_|refine r1Z ?_|fail)
 all_goals (refine b9 ?_;rw[Bool.eq_iff_iff];simp only[dz,wW,js,false_iff];omega)
theorem DB(v:Vtx):pU 125 [dA v] (.bool (fF v)):=by
 refine pO Ko ?_;simp only[Lq,aG];unfold fF
 repeat' (first|refine zW ?_|apply a_n|refine zO ?_|refine vZ ?_|refine bxZ ?_|refine gTZ ?_|refine gFZ ?_|(refine zGZ ?_ ?_<;>(intro _hg;try (exfalso;omega)))|refine bR rfl ?_|refine r1Z ?_|fail)
 all_goals (refine b9 ?_;rw[Bool.eq_iff_iff];simp only[dz,wW,js,false_iff];omega)
end Go.Proofs.YtekdaafnjdlenaaGreat
namespace Go.Proofs.YtekdaafnjdlenaaGreat
open Go Go.Abs
attribute [local irreducible] aJ aj bf aX aP aQ aD aS a6 bk Go.Abs.Fn aV Go.Abs.Pure ar aK Yl
theorem zu(l m:Spx)(hl:Shn l)(hm:Shn m):pU 122 [aA l,aA m,.func 123 []] (.int .i64 (bl l m)):=by
 refine pO LY ?_;simp only[KH,aG];have hl':l.length≤17592186044416:=hl;have hm':m.length≤17592186044416:=hm;refine wnZ @ao ?_;refine bT (X:=Nat) (fun k=>[(0,aA l),(1,aA m),(2,.func 123 []),(11,aA l),(12,.int .i64 l.length),(13,.int .i64 k)]) (fun k H nx=>k≤l.length∧k≤m.length∧bl l m=bl (l.drop k) (m.drop k)) (fun k=>l.length-k) 0 ⟨bB _,bB _,rfl⟩ ag0 ?_;rintro k H nx ⟨h1,h2,h3⟩;by_cases hk:k<l.length
 rotate_left
 ·rw[h3,tA (by omega) ⟨h1,h2⟩];have zz:=@ao;repeat' (first|refine zW ?_|apply a_n|apply a_x|apply a_r|refine zO ?_|refine vY ?_|(refine zGY ?_ ?_<;>(intro _hg;try (exfalso;omega)))|refine bR rfl ?_|refine r1Y ?_|fail)
  all_goals (refine eh ?_)
  ·rw[if_pos (by omega)]
  ·rw[if_neg (by omega),if_neg (by omega)]
 have ix:=ix2 hk;by_cases hk2:k<m.length
 rotate_left
 ·rw[h3,tA (by omega) ⟨h1,h2⟩,if_neg (by omega),if_pos (by omega)];refine wnY (aI @ao @ix) ?_
  all_goals exact eh rfl
 have iy:=ix2 hk2;have hc:=Bi (l.getD k default) (m.getD k default);have hd:=vH hk hk2;by_cases he:cC (l.getD k default) (m.getD k default)=0
 ·rw[if_neg (fun h=>h he)] at hd;rw[he] at hc;have z:decide ((0:Int)≠0)=false:=rfl;refine wnY (zI4 @ao @ix @iy @z) ?_;exact⟨k+1,by omega,⟨by omega,by omega,h3.trans hd⟩,ag0⟩
 ·rw[if_pos he] at hd;have z:decide (cC (l.getD k default) (m.getD k default)≠0)=true:=aR he;rw[h3,hd];refine wnY (zI4 @ao @ix @iy @z) ?_;exact .int _ _
theorem gy(l m:Spx)(hl:Shn l)(hm:Shn m):pU 70 [aA l,aA m] (.int .i64 (bl l m)):=by
 refine pO N4 ?_;simp only[b70,aG];have h:=zu l m hl hm;refine wnZ and_self ?_;exact .int _ _
theorem lh(l m:Spx)(hl:Shn l)(hm:Shn m):pU 73 [aA l,aA m] (.int .i64 (bl l m)):=by
 refine pO Nn ?_;simp only[b73,aG];have hl':l.length≤17592186044416:=hl;have hm':m.length≤17592186044416:=hm;refine wnZ and_self ?_;refine bT (X:=Nat) (fun k=>[(0,aA l),(1,aA m),(5,.int .i64 k)]) (fun k H nx=>k≤l.length∧k≤m.length∧bl l m=bl (l.drop k) (m.drop k)) (fun k=>l.length-k) 0 ⟨bB _,bB _,rfl⟩ ag0 ?_;rintro k H nx ⟨h1,h2,h3⟩;by_cases hk:k<l.length∧k<m.length
 rotate_left
 ·rw[h3,tA (by omega) ⟨h1,h2⟩];have zz:=@ao;repeat' (first|refine zW ?_|apply a_n|apply a_x|apply a_r|refine zO ?_|refine vY ?_|refine gTY ?_|refine gFY ?_|refine cFY ?_|(refine zGY ?_ ?_<;>(intro _hg;try (exfalso;omega)))|refine bR rfl ?_|refine r1Y ?_|fail)
  all_goals (refine eh ?_;(repeat' split)<;>omega)
 have ix:=ix2 hk.1;have iy:=ix2 hk.2;have hc:=tU (l.getD k default) (m.getD k default);have hd:=vH hk.1 hk.2;by_cases he:cC (l.getD k default) (m.getD k default)=0
 ·rw[if_neg (fun h=>h he)] at hd;rw[he] at hc;have z:decide ((0:Int)≠0)=false:=rfl;refine wkY (zI4 @ao @ix @iy @z) ?_;exact⟨k+1,by omega,⟨by omega,by omega,h3.trans hd⟩,ag0⟩
 ·rw[if_pos he] at hd;have z:decide (cC (l.getD k default) (m.getD k default)≠0)=true:=aR he;rw[h3,hd];refine wkY (zI4 @ao @ix @iy @z) ?_;exact .int _ _
theorem GK(l m:Spx)(hl:Shn l)(hm:Shn m):pU 63 [aA l,aA m] (.bool (decide (l=m))):=by
 refine pO Nl ?_;simp only[b63,aG];have h:=lh l m hl hm;refine wnZ and_self ?_;exact b9 (decide_eq_decide.2 vA)
theorem qZ{l:Spx}{k:Nat}:qR l k=if fF (l.getD k default)=false then 2 else if 0<k∧0≤cC (l.getD (k-1) default) (l.getD k default) then 14 else 0:=rfl
theorem pk(l:Spx)(hl:Shn l):pU 128 [aA l] (.int .i64 (bV l)):=by
 refine pO KR ?_;simp only[My,aG];have hl':l.length≤17592186044416:=hl;by_cases h0:l.length=0
 ·rw[show bV l=16 by unfold bV;rw[if_pos h0]];refine wnZ @ao ?_
  all_goals exact eh rfl
 by_cases h8:8<l.length
 ·rw[show bV l=5 by unfold bV;rw[if_neg h0,if_pos h8]];refine wnZ @ao ?_
  all_goals exact eh rfl
 rw[show bV l=dK (qR l) l.length by unfold bV;rw[if_neg h0,if_neg h8]];refine wnZ @ao ?_;refine bT (X:=Nat) (fun k=>[(0,aA l),(13,aA l),(14,.int .i64 l.length),(15,.int .i64 k)]) (fun k H nx=>k≤l.length∧∀i,i<k→qR l i=0) (fun k=>l.length-k) 0 ⟨bB _,fun i h=>absurd h (by omega)⟩ ag0 ?_;rintro k H nx ⟨h1,h2⟩;by_cases hk:k<l.length
 rotate_left
 ·rw[dG fun i hi=>h2 i (by omega)];refine wnY @ao ?_;exact .int _ _
 have ix:=ix2 hk;have hp:=AI (l.getD k default);have hs:=qZ (l:=l) (k:=k);cases hr:fF (l.getD k default)
 ·rw[hr] at hp;rw[hr,if_pos rfl] at hs;rw[di hk h2 (by rw[hs];decide),hs];refine wnY (aI @ao @ix) ?_;exact .int _ _
 rw[hr] at hp;rw[hr,if_neg (by decide)] at hs;by_cases hk0:0<k
 rotate_left
 ·rw[if_neg (fun h=>hk0 h.1)] at hs;have zk:decide (0<(k:Int))=false:=aU (by omega);refine wkY (zI3 @ao @ix @zk) ?_
  exact ⟨k + 1,by omega,⟨by omega,fun i hi=>by
   rcases i9.1 hi with h|rfl
   ·exact h2 i h
   ·exact hs⟩,ag0⟩
 have zk:decide (0<(k:Int))=true:=aR (by omega)
 have iy:ey 2 (aA l) (.int .i64 ((k:Int)-1))=some (.iptr [.int .i64 (l.getD (k-1) default).color,.int .i64 (l.getD (k-1) default).label] 0):=by
  have:=ix2 (l:=l) (k:=k-1) (by omega)
  rwa [show((k-1:Nat):Int)=(k:Int)-1 by omega] at this
 have hc:=Bi (l.getD (k-1) default) (l.getD k default);by_cases hv:0≤cC (l.getD (k-1) default) (l.getD k default)
 ·have z:decide (0≤cC (l.getD (k-1) default) (l.getD k default))=true:=aR hv;rw[if_pos ⟨hk0,hv⟩] at hs;rw[di hk h2 (by rw[hs];decide),hs];refine wkY (zI5 @ao @ix @iy @zk @z) ?_;exact .int _ _
 ·have z:decide (0≤cC (l.getD (k-1) default) (l.getD k default))=false:=aU hv;rw[if_neg (fun h=>hv h.2)] at hs;refine wkY (zI5 @ao @ix @iy @zk @z) ?_
  exact ⟨k + 1,by omega,⟨by omega,fun i hi=>by
   rcases i9.1 hi with h|rfl
   ·exact h2 i h
   ·exact hs⟩,ag0⟩
theorem Be(l:Spx)(hl:Shn l):pU 72 [aA l] (.int .i64 (bV l)):=by
 refine pO Nz ?_;simp only[b72,aG];have hl':l.length≤17592186044416:=hl;by_cases h0:l.length=0
 ·rw[show bV l=16 by unfold bV;rw[if_pos h0]];refine wnZ @ao ?_
  all_goals exact eh rfl
 by_cases h8:8<l.length
 ·rw[show bV l=5 by unfold bV;rw[if_neg h0,if_pos h8]];refine wnZ @ao ?_
  all_goals exact eh rfl
 rw[show bV l=dK (qR l) l.length by unfold bV;rw[if_neg h0,if_neg h8]];refine wnZ @ao ?_;refine bT (X:=Nat) (fun k=>[(0,aA l),(3,.int .i64 k)]) (fun k H nx=>k≤l.length∧∀i,i<k→qR l i=0) (fun k=>l.length-k) 0 ⟨bB _,fun i h=>absurd h (by omega)⟩ ag0 ?_;rintro k H nx ⟨h1,h2⟩;by_cases hk:k<l.length
 rotate_left
 ·rw[dG fun i hi=>h2 i (by omega)];refine wnY @ao ?_;exact .int _ _
 have ix:=ix2 hk;have hp:=DB (l.getD k default);have hs:=qZ (l:=l) (k:=k);cases hr:fF (l.getD k default)
 ·rw[hr] at hp;rw[hr,if_pos rfl] at hs;rw[di hk h2 (by rw[hs];decide),hs];refine wnY (aI @ao @ix) ?_;exact .int _ _
 rw[hr] at hp;rw[hr,if_neg (by decide)] at hs;by_cases hk0:0<k
 rotate_left
 ·rw[if_neg (fun h=>hk0 h.1)] at hs;have zk:decide (0<(k:Int))=false:=aU (by omega);refine wkY (zI3 @ao @ix @zk) ?_
  exact ⟨k + 1,by omega,⟨by omega,fun i hi=>by
   rcases i9.1 hi with h|rfl
   ·exact h2 i h
   ·exact hs⟩,ag0⟩
 have zk:decide (0<(k:Int))=true:=aR (by omega)
 have iy:ey 2 (aA l) (.int .i64 ((k:Int)-1))=some (.iptr [.int .i64 (l.getD (k-1) default).color,.int .i64 (l.getD (k-1) default).label] 0):=by
  have:=ix2 (l:=l) (k:=k-1) (by omega)
  rwa [show((k-1:Nat):Int)=(k:Int)-1 by omega] at this
 have hc:=tU (l.getD (k-1) default) (l.getD k default);by_cases hv:0≤cC (l.getD (k-1) default) (l.getD k default)
 ·have z:decide (0≤cC (l.getD (k-1) default) (l.getD k default))=true:=aR hv;rw[if_pos ⟨hk0,hv⟩] at hs;rw[di hk h2 (by rw[hs];decide),hs];refine wkY (zI5 @ao @ix @iy @zk @z) ?_;exact .int _ _
 ·have z:decide (0≤cC (l.getD (k-1) default) (l.getD k default))=false:=aU hv;rw[if_neg (fun h=>hv h.2)] at hs;refine wkY (zI5 @ao @ix @iy @zk @z) ?_
  exact ⟨k + 1,by omega,⟨by omega,fun i hi=>by
   rcases i9.1 hi with h|rfl
   ·exact h2 i h
   ·exact hs⟩,ag0⟩
end Go.Proofs.YtekdaafnjdlenaaGreat
namespace Go.Proofs.YtekdaafnjdlenaaGreat
open Go Go.Abs
open Nat (reduceEqDiff reduceAdd reduceLeDiff)
theorem A8(a b c d:Int):dy [.int,.int] [.int .i64 a,.int .i64 b] [.int .i64 c,.int .i64 d]=some (decide (a=c∧b=d)):=by
 have e:∀x y:Int,(x==y)=decide (x=y):=fun x y=>rfl;by_cases h1:a=c
 ·by_cases h2:b=d
  ·subst h1 h2;simp[dy,jc]
  ·subst h1;simp only[dy,jc,if_true,e,aU h2,decide_true,h2,and_false,decide_false]
 ·simp only[dy,jc,if_true,e,aU h1,h1,false_and,decide_false]
theorem acq(a b c d:Int):oh .eql [.int,.int] [.int .i64 a,.int .i64 b] [.int .i64 c,.int .i64 d]=some (.bool (decide (a=c∧b=d))):=by
 unfold oh;rw[A8]
theorem acn(a b c d:Int):oh .neq [.int,.int] [.int .i64 a,.int .i64 b] [.int .i64 c,.int .i64 d]=some (.bool (!decide (a=c∧b=d))):=by
 unfold oh;rw[A8]
theorem xF(v w:Vtx):decide (v.color=w.color∧v.label=w.label)=decide (v=w):=decide_eq_decide.2 od.symm
theorem ql{H:Hp}{d:Nat}{x y:AV}:er 2 (aq H d [x,y]) (.msl d 2 2 0 1)=some (1,[x,y]):=fi (n:=2) (len:=1) (off:=0) (cs:=[x,y]) ag rfl (by simp)
theorem b5{α:Type}[Inhabited α]{l:List α}{k:Nat}(h:k<l.length):l.take (k+1)=l.take k++[l.getD k default]:=by
 rw[List.take_add_one];simp[List.getD,h]
section
variable{α:Type}{K:α→α→Int}{v x:α}{l:List α}
theorem yC(h:l.any (fun y=>decide (K v y<0))=true):kP K (l++[x]) v=kP K l v++[x]:=by
 induction l with
 |nil=>cases h
 |cons a l ih=>
  rw[List.cons_append,kP,kP];split
  ·rfl
  ·rename_i ha;rw[List.any_cons,aU ha,Bool.false_or] at h;rw[ih h];rfl
theorem CS(h:l.any (fun y=>decide (K v y<0))=false):kP K l v=l++[v]:=by
 induction l with
 |nil=>rfl
 |cons a l ih=>
  rw[List.any_cons,Bool.or_eq_false_iff] at h;rw[kP,if_neg (of_decide_eq_false h.1),ih h.2];rfl
theorem Dk(h:l.any (fun y=>decide (K v y<0))=false)(hx:K v x<0):kP K (l++[x]) v=l++[v]++[x]:=by
 induction l with
 |nil=>rw[List.nil_append,kP,if_pos hx];rfl
 |cons a l ih=>
  rw[List.any_cons,Bool.or_eq_false_iff] at h;rw[List.cons_append,kP,if_neg (of_decide_eq_false h.1),ih h.2];rfl
theorem FE{p:α→Bool}:(l++[x]).any p=(l.any p || p x):=by rw[List.any_append];simp
end
def ee(a b:Spx):Bool:=a.all fun v=>decide (v∈b)
attribute [local irreducible] aJ aj bf aX aP aQ aD aS a6 bk Go.Abs.Fn aV Go.Abs.Pure ar aK Yl
theorem MC(l:Spx)(v:Vtx)(hl:Shn l):pU 127 [aA l,dA v] (.bool (decide (v∈l))):=by
 refine pO JZ ?_;simp only[L5,aG];have hl':l.length≤17592186044416:=hl;refine wnZ @ao ?_;refine Cc (fun k=>[(0,aA l),(3,.ptr 0 2 0),(5,.int .i64 k)]) l.length (fun k=>l.getD k default≠v) (by simp (disch:=omega) only[agr,ZG,reduceEqDiff,↓reduceIte,bO,fA,ce,reduceAdd]) ?_;intro k hk hz;by_cases hk2:k<l.length
 rotate_left
 ·refine wnZ @ao ?_;exact b9 (Da fun i hi=>hz i (by omega)).symm
 have ix:=ix2 hk2;have hd:=xF (l.getD k default) v;by_cases he:l.getD k default=v
 ·rw[aR he] at hd;rw[ER hk2 he];refine wnZ (zI4 @ao @ix @acq @hd) ?_;exact .bool _
 ·rw[aU he] at hd;refine wnZ (zI4 @ao @ix @acq @hd) ?_;exact⟨hk2,he,ag0,rfl,rfl⟩
theorem xI(a b:Spx)(ha:Shn a)(hb:Shn b):pU 74 [aA a,aA b] (.bool (ee a b)):=by
 refine pO M5 ?_;simp only[b74,aG];have ha':a.length≤17592186044416:=ha;refine wnZ @ao ?_;refine Cc (fun k=>[(0,aA a),(1,aA b),(5,.int .i64 k)]) a.length (fun k=>decide (a.getD k default∈b)=true) ag0 ?_;intro k hk hz;by_cases hk2:k<a.length
 rotate_left
 ·refine wnZ @ao ?_;exact b9 (jW fun i hi=>hz i (by omega)).symm
 have ix:=ix2 hk2;have hh:=MC b (a.getD k default) hb;cases hm:decide (a.getD k default∈b)
 ·rw[hm] at hh;rw[show ee a b=false from iS hk2 hm];refine wnZ (aI @ao @ix) ?_;exact .bool _
 ·rw[hm] at hh;refine wnZ (aI @ao @ix) ?_;exact⟨hk2,rfl,ag0,rfl,rfl⟩
theorem CC(x y:List Spx)(hx:Shn x)(hy:Shn y)(hxs:∀v∈x,Shn v)(hys:∀v∈y,Shn v):pU 23 [am x,am y] (.bool (decide (x=y))):=by
 refine pO NI ?_;simp only[b23,aG];have hx':x.length≤17592186044416:=hx;have hy':y.length≤17592186044416:=hy;by_cases hlen:x.length=y.length
 rotate_left
 ·have z:decide ((x.length:Int)≠y.length)=true:=aR (by omega);rw[aU (fun e=>hlen (by rw[e]))];refine wnZ (aI @ae @z) ?_;exact .bool _
 have z:decide ((x.length:Int)≠y.length)=false:=aU (by omega);refine wnZ (aI @ae @z) ?_;refine bT (X:=Nat) (fun k=>[(0,am x),(1,am y),(5,.int .i64 k)]) (fun k H nx=>k≤x.length∧∀i,i<k→x.getD i default=y.getD i default) (fun k=>x.length-k) 0 ⟨bB _,fun i h=>absurd h (by omega)⟩ ag0 ?_;rintro k H nx ⟨hk,hz⟩;by_cases hk2:k<x.length
 rotate_left
 ·refine wnY @ae ?_;refine b9 ?_
  symm;rw[wW]
  refine List.ext_getElem hlen fun i h3 h4=>?_;have:=hz i (by omega);simpa[List.getD,h3,h4] using this
 have ix:=ec hk2;have iy:=ec (l:=y) (k:=k) (by omega);have hc:=GK (x.getD k default) (y.getD k default) (hxs _ (bg hk2)) (hys _ (bg (by omega)));by_cases he:x.getD k default=y.getD k default
 ·rw[aR he] at hc;refine wkY (zI3 @ae @ix @iy) ?_
  exact ⟨k + 1,by omega,⟨by omega,fun i hi=>by
   rcases i9.1 hi with h|rfl
   ·exact hz i h
   ·exact he⟩,ag0⟩
 ·rw[aU he] at hc;rw[aU (p:=x=y) (fun e=>he (by rw[e]))];refine wkY (zI3 @ae @ix @iy) ?_;exact .bool _
def kI(c:List Spx):Bool:=decide (c.length≤30)&&c.all fun s=>decide (s.length≤10)
theorem Hr(l:Spx)(hl:Shn l):pU 145 [aA l] (.bool (decide (l.length≤10))):=by
 refine pO Kp ?_;simp only[MO,aG];refine wnZ @ao ?_;exact b9 (decide_eq_decide.2 (by omega))
theorem Fj(c:List Spx)(hc:Shn c)(hs:∀s∈c,Shn s):pU 95 [am c] (.bool (kI c)):=by
 refine pO NW ?_;simp only[b95,aG];have hc':c.length≤17592186044416:=hc;unfold kI;by_cases h:c.length≤30
 rotate_left
 ·have z:decide (30<(c.length:Int))=true:=aR (by omega);rw[aU h,Bool.false_and];refine wnZ (aI @ae @z) ?_;exact .bool _
 have z:decide (30<(c.length:Int))=false:=aU (by omega);rw[aR h,Bool.true_and];refine wnZ (aI @ae @z) ?_;refine Cc (fun k=>[(0,am c),(3,.int .i64 k)]) c.length (fun k=>decide ((c.getD k default).length≤10)=true) ag0 ?_;intro k hk hz;by_cases hk2:k<c.length
 rotate_left
 ·refine wnZ @ae ?_;exact b9 (jW fun i hi=>hz i (by omega)).symm
 have ix:=ec hk2;have hf:=Hr (c.getD k default) (hs _ (bg hk2));cases hm:decide ((c.getD k default).length≤10)
 ·rw[hm] at hf;rw[iS hk2 hm];refine wnZ (aI @ae @ix) ?_;exact .bool _
 ·rw[hm] at hf;refine wnZ (aI @ae @ix) ?_;exact⟨hk2,rfl,ag0,rfl,rfl⟩
abbrev bE(c:List Spx):AV:=.agg [am c]
theorem cw(c:List Spx):Dat (bE c):=Dat.agg (DatL.cons (bI c) DatL.nil)
instance datI_encCx{c:List Spx}:DatI (bE c):=⟨cw c⟩
theorem Gu(c:List Spx)(hc:Shn c)(hs:∀s∈c,Shn s):pU 41 [bE c] (.bool (kI c)):=by
 refine pO NJ ?_;simp only[b41,aG];have h:=Fj c hc hs;refine wnZ (aI @ai @af) ?_;exact .bool _
end Go.Proofs.YtekdaafnjdlenaaGreat
namespace Go.Proofs.YtekdaafnjdlenaaGreat
open Go Go.Abs
theorem xX{α:Type}[Inhabited α]{l:List α}{p:α→Bool}{k:Nat}(hk:k<l.length)(h:∀i,i<k→p (l.getD i default)=false)(hv:p (l.getD k default)=true):l.any p=true∧l.findIdx p=k:=by
 have e:l.getD k default=l[k]:=by simp[List.getD,hk]
 refine⟨qn.2 ⟨l[k],nk hk,by rw[←e];exact hv⟩,(List.findIdx_eq hk).2 ⟨by rw[←e];exact hv,fun j hj=>by have:=h j hj;rwa [show l.getD j default=l[j] by simp[List.getD,show j<l.length by omega]] at this⟩⟩
section
attribute [local irreducible] aJ aj bf aX aP aQ aD aS a6 bk Go.Abs.Fn aV Go.Abs.Pure ar aK Yl
end
end Go.Proofs.YtekdaafnjdlenaaGreat
namespace Go.Proofs.YtekdaafnjdlenaaGreat
open Go Go.Abs
open Nat (reduceEqDiff reduceAdd reduceLeDiff)
theorem Cx{l:Spx}{j:Nat}(h:j<l.length):(l.drop j).getD 0 default=l.getD j default:=by simp[List.getD,mg]
theorem Av{l:Spx}{v:Vtx}(h:∀i,i<l.length→l.getD i default≠v):v∉l:=fun hm=>by
 obtain⟨i,hi,e⟩:=jp hm;exact h i hi (by simp[List.getD,hi,e])
theorem az{α:Type}[Inhabited α]{l:List α}{i:Nat}(h:i<l.length):l.getD i default∈l:=bg h
attribute [local irreducible] aJ aj bf aX aP aQ aD aS a6 bk Go.Abs.Fn aV Go.Abs.Pure ar aK Yl
set_option maxHeartbeats 1000000 in
theorem Jz(a b:Spx)(ha:b8 cC a)(hb:b8 cC b)(la:a.length≤1000000)(lb:b.length≤1000000):pU 158 [aA a,aA b] (.bool (ee a b)):=by
 refine pO Ly ?_;simp only[Mr,aG];refine wnZ @ao ?_;refine bT (X:=Nat×Nat) (fun x=>[(1,aA (b.drop x.2)),(7,aA a),(8,.int .i64 a.length),(9,.int .i64 x.1)]) (fun x H nx=>x.1≤a.length∧x.2≤b.length∧(∀i,i<x.1→decide (a.getD i default∈b)=true)∧∀i m,i<x.2→x.1≤m→m<a.length→b.getD i default≠a.getD m default) (fun x=>a.length-x.1) (0,0) ⟨bB _,bB _,fun i h=>absurd h (by omega),fun i m h=>absurd h (by omega)⟩ (by simp (disch:=omega) only[agr,ZG,reduceEqDiff,↓reduceIte,List.drop_zero]) ?_;rintro⟨k,j⟩ H nx ⟨h1,h2,h3,h4⟩;dsimp only at h1 h2 h3 h4 ⊢;by_cases hk:k<a.length
 rotate_left
 ·refine wnY and_self ?_;exact b9 (jW fun i hi=>h3 i (by omega)).symm
 have ix:=ix2 hk;have hlt:∀m,k<m→m<a.length→cC (a.getD k default) (a.getD m default)<0:=fun m h5 h6=>eG ha h5 h6;have hkm:∀j',(∀i,i<j'→b.getD i default≠a.getD k default)→b.length≤j'→decide (a.getD k default∈b)=false:=fun j' h5 h6=>aU (Av fun i hi=>h5 i (by omega));have hall:decide (a.getD k default∈b)=false→ee a b=false:=fun h=>iS hk h;have hdec:=fun i=>xF (b.getD i default) (a.getD k default);have h40:=fun i hi=>h4 i k hi (aO _) hk;generalize hv:a.getD k default=v at *;refine wnY @ix ?_;refine bT (X:=Nat) (fun j'=>[(1,aA (b.drop j')),(6,.ptr nx 2 0),(7,aA a),(8,.int .i64 a.length),(9,.int .i64 k)]) (fun j' H' nx'=>j'≤b.length∧H' nx=some [.int .i64 v.color,.int .i64 v.label]∧nx<nx'∧∀i,i<j'→b.getD i default≠v) (fun j'=>b.length-j') j ⟨h2,by rw[ag];rfl,by omega,h40⟩ (by simp (disch:=omega) only[agr,ZG,reduceEqDiff,↓reduceIte,bO,fA,ce,reduceAdd]) ?_;rintro j' H' nx' ⟨k1,g0,hnx,k2⟩;have hlen:(b.drop j').length=b.length-j':=wA ..;by_cases hj:j'<b.length
 rotate_left
 ·have z1:decide (0<((b.drop j').length:Int))=false:=aU (by omega);have z2:decide (((b.drop j').length:Int)=0)=true:=aR (by omega);rw[hall (hkm j' k2 (by omega))];refine wnY (zI3 @ao @z1 @z2) ?_;exact .bool _
 have z1:decide (0<((b.drop j').length:Int))=true:=aR (by omega);have z2:decide (((b.drop j').length:Int)=0)=false:=aU (by omega);have iy:=ix2 (l:=b.drop j') (k:=0) (by omega);rw[Cx hj,show((0:Nat):Int)=0 from rfl] at iy;have hd:=hdec j';by_cases he:b.getD j' default=v
 ·rw[aR he] at hd;refine wnY (zI7 @ao @z1 @z2 @iy @g0 @acn @hd) ?_;refine⟨(k+1,j'),by dsimp only;omega,⟨by dsimp only;omega,by dsimp only;omega,fun i hi=>?_,fun i m h5 h6 h7 e=>?_⟩,ag0⟩
  ·rcases i9.1 hi with h'|rfl
   ·exact h3 i h'
   ·rw[hv,←he];exact aR (az hj)
  ·have q1:=eG hb h5 hj;have q2:=hlt m (by dsimp only at h6;omega) h7;rw[e,he] at q1;exact zS.ord.asym _ _ q1 q2
 ·rw[aU he] at hd
  have hs:jH 2 (aA (b.drop j')) (some (.int .i64 1)) none none=some (aA (b.drop (j'+1))):=by
   have:=kC (sz:=2) (f:=dA) (l:=b.drop j') (k:=1) (by omega);rw[List.drop_drop] at this;exact this
  refine wnY (zI8 @ao @z1 @z2 @iy @g0 @acn @hd @hs) ?_
  exact ⟨j' + 1,by omega,⟨by omega,g0,hnx,fun i hi=>by
   rcases i9.1 hi with h'|rfl
   ·exact k2 i h'
   ·exact he⟩,ag0⟩
end Go.Proofs.YtekdaafnjdlenaaGreat
namespace Go.Proofs.YtekdaafnjdlenaaGreat
open Go Go.Abs
structure Cmp{α:Type}(P:Program)(f:α→AV)(K:α→α→Int)(G:α→Prop)(g:Nat)(caps:List AV):Prop where
 cells:∀x,(f x).cells=[f x]
 one:∀x,(f x).one=true
 dat:∀x,Dat (f x)
 dcaps:∀x∈caps,Dat x
 run:∀x y,G x→G y→Go.Abs.Pure P g (f x::f y::caps) (.int .i64 (K x y))
 ord:Ord K
theorem iQ{α:Type}{f:α→AV}{l:List α}{k:Nat}{x:α}(h:k<l.length):bG (l.map f) k [f x]=(l.set k x).map f:=by
 simp only[bG,List.map_set,bO,fA,ce];rw[HJ,if_pos (by simpa using h)];simp
theorem ba(H:Hp)(b:Nat)(x y:List AV):aq (aq H b x) b y=aq H b y:=by
 funext i;unfold aq;split<;>rfl
theorem lj{H:Hp}{b:Nat}{cs:List AV}(h:H b=some cs):H=aq H b cs:=by
 funext i
 by_cases e:i=b
 ·subst e;rw[ag,h]
 ·rw[ac e]
def f9{α:Type}[Inhabited α](K:α→α→Int)(a i j:Nat)(M:List α):Prop:=∀p q,a≤p→p<q→q≤i→q≠j→¬K (M.getD q default) (M.getD p default)<0
section
variable{α:Type}[Inhabited α]{f:α→AV}{K:α→α→Int}{G:α→Prop}{g:Nat}{caps:List AV}
theorem f9.start{a i:Nat}{M:List α}(h:bo K a i M):f9 K a i i M:=fun p q h1 h2 h3 h4=>h p q h1 h2 (by omega)
theorem f9.done{a i j:Nat}{M:List α}(hK:Ord K)(h:f9 K a i j M)(hj:j=a∨(a<j∧¬K (M.getD j default) (M.getD (j-1) default)<0)):bo K a (i+1) M:=by
 intro p q h1 h2 h3;by_cases e:q=j
 ·subst e;rcases hj with hj|⟨hj,hk⟩
  ·omega
  ·by_cases e2:p=q-1
   ·rw[e2];exact hk
   ·exact hK.negtr _ _ _ (h p (q-1) h1 (by omega) (by omega) (by omega)) hk
 ·exact h p q h1 h2 (by omega) e
theorem f9.step{a i j:Nat}{M:List α}(hK:Ord K)(h:f9 K a i (j+1) M)(haj:a≤j)(hji:j+1≤i)(hi:i<M.length)(hk:K (M.getD (j+1) default) (M.getD j default)<0):f9 K a i j (swp M (j+1) j):=by
 intro p q h1 h2 h3 h4;rw[eV (by omega) (by omega),eV (by omega) (by omega)];rw[if_neg h4];by_cases e1:q=j+1
 ·rw[if_pos e1];by_cases e2:p=j
  ·rw[if_pos e2];exact hK.asym _ _ hk
  ·rw[if_neg e2,if_neg (by omega)];exact h p j h1 (by omega) (by omega) (by omega)
 ·rw[if_neg e1];by_cases e2:p=j
  ·rw[if_pos e2];exact h (j+1) q (by omega) (by omega) h3 e1
  ·rw[if_neg e2];by_cases e3:p=j+1
   ·rw[if_pos e3];exact h j q (by omega) (by omega) h3 e1
   ·rw[if_neg e3];exact h p q h1 h2 h3 e1
theorem bo.mono{a b a' b':Nat}{M:List α}(h:bo K a b M)(h1:a≤a')(h2:b'≤b):bo K a' b' M:=fun p q k1 k2 k3=>h p q (by omega) k2 (by omega)
theorem PermR.mem{a b:Nat}{L M:List α}(h:PermR a b L M)(hG:∀x∈L,G x):∀x∈M,G x:=fun x hx=>hG x (h.perm.mem_iff.1 hx)
attribute [local irreducible] aJ aj bf aX aP aQ aD aS a6 bk Go.Abs.Fn aV Go.Abs.Pure ar aK Yl
theorem Lx(hc:Cmp Tryz.prog f K G g caps){L:List α}{H:Hp}{b nx n a e:Nat}(hH:H b=some (L.map f))(hn:L.length=n)(hG:∀x∈L,G x)(hae:a≤e)(hen:e≤n)(hn2:n≤1000000000):
    Abs.Fn Tryz.prog 166 [.msl b n 1 0 n,.int .i64 a,.int .i64 e,.func g caps] H nx fun r H' nx'=>nx'=nx∧∃L',H'=aq H b (L'.map f)∧PermR a e L L'∧bo K a e L':=by
 refine fO HW ?_;simp only[Iv,aG];refine wnZ and_self ?_;refine bT (X:=Nat×List α) (fun x=>[(0,.msl b n 1 0 n),(1,.int .i64 a),(2,.int .i64 e),(3,.func g caps),(8,.int .i64 (x.1:Nat))]) (fun x H' nx'=>a+1≤x.1∧(x.1≤e∨x.1=a+1)∧H'=aq H b (x.2.map f)∧nx'=nx∧PermR a e L x.2∧bo K a x.1 x.2) (fun x=>e+1-x.1) (a+1,L) ⟨aO _,.inr rfl,lj hH,rfl,.refl,bo.one (aO _)⟩ ag0 ?_;rintro⟨i,M0⟩ H' nx' ⟨h1,h2,rfl,rfl,hp0,hs0⟩;dsimp only at *;have hl0:M0.length=n:=by rw[hp0.len,hn]
 by_cases hi:i<e
 rotate_left
 ·refine wnZ and_self ?_;exact⟨rfl,M0,rfl,hp0,hs0.mono (aO _) (by omega)⟩
 refine wnZ and_self ?_;refine bT (X:=Nat×List α) (fun x=>[(0,.msl b n 1 0 n),(1,.int .i64 a),(2,.int .i64 e),(3,.func g caps),(8,.int .i64 (i:Nat)),(9,.int .i64 (x.1:Nat))]) (fun x H' nxx=>a≤x.1∧x.1≤i∧H'=aq H b (x.2.map f)∧nxx=nx'∧PermR a e L x.2∧f9 K a i x.1 x.2) (fun x=>x.1) (i,M0) ⟨by omega,aO _,rfl,rfl,hp0,.start hs0⟩ ag0 ?_;clear hp0 hs0 hl0;rintro⟨j,M⟩ H' nxx ⟨a1,a2,rfl,rfl,hp,hal⟩;dsimp only at *;have hl:M.length=n:=by rw[hp.len,hn]
 have hGM:=hp.mem hG;by_cases hja:j=a
 ·subst hja;refine wkZ and_self ?_;exact⟨(i+1,M),by dsimp only;omega,⟨by dsimp only;omega,.inl (by dsimp only;omega),rfl,rfl,hp,hal.done hc.ord (.inl rfl)⟩,ag0⟩
 ·obtain⟨k,rfl⟩:∃k,j=k+1:=⟨j-1,by omega⟩
  have tj:((k+1:Nat):Int)-1=(k:Int):=by omega
  have lc:=hc.run (M.getD (k+1) default) (M.getD k default) (hGM _ (bg (by omega))) (hGM _ (bg (by omega)));have d1:=hc.dat (M.getD (k+1) default);have d2:=hc.dat (M.getD k default);have dcap:=hc.dcaps;generalize hKK:K (M.getD (k+1) default) (M.getD k default)=kk at lc;by_cases hlt:kk<0
  ·obtain⟨M1,hl1,lm1,lm2⟩:∃M1:List α,M1.length=n∧bG (M.map f) (k+1) [f (M.getD k default)]=M1.map f∧bG (M1.map f) k [f (M.getD (k+1) default)]=(swp M (k+1) k).map f:=
     ⟨M.set (k+1) (M.getD k default),by simp[hl],iQ (by omega),by rw[iQ (by simp;omega)];rfl⟩
   have lm3:=lm2;simp only[bG,bO,fA,ce] at lm1 lm2;have zz:=aI @tj (aI @cr (aI @lm1 (aI @lm2 (aI hc.cells hc.one))));repeat' (first|refine zW ?_|refine zM ?_|apply a_n|refine zO ?_|refine vZ ?_|refine cZ ?_ (hp:=lc) (hs:=by(first|refine aF ?_ rfl|apply aY);(repeat' (first|exact ak|apply bv|apply a5|exact d1|exact d2|exact bh dcap));first|done|fail)|refine stZ ?_|refine gTZ ?_|(refine zGZ ?_ ?_<;>(intro _hg;try (exfalso;omega)))|fail)
   refine⟨(k,swp M (k+1) k),by dsimp only;omega,⟨by dsimp only;omega,by dsimp only;omega,?_,rfl,hp.trans (PermR.swap (by omega) (by omega) (by omega)),hal.step hc.ord (by omega) (by omega) (by omega) (by rw[hKK];exact hlt)⟩,(have zz:=@tj;agZ)⟩;dsimp only;rw[ba,ba,lm3]
  ·have zz:=aI @tj (aI @cr (aI hc.cells hc.one));repeat' (first|refine zW ?_|refine zM ?_|apply a_n|apply a_x|refine zO ?_|refine vZ ?_|refine cZ ?_ (hp:=lc) (hs:=by(first|refine aF ?_ rfl|apply aY);(repeat' (first|exact ak|apply bv|apply a5|exact d1|exact d2|exact bh dcap));first|done|fail)|refine gTZ ?_|(refine zGZ ?_ ?_<;>(intro _hg;try (exfalso;omega)))|fail)
   exact⟨(i+1,M),by dsimp only;omega,⟨by dsimp only;omega,.inl (by dsimp only;omega),rfl,rfl,hp,hal.done hc.ord (.inr ⟨by omega,by rw[ro,hKK];exact hlt⟩)⟩,ag0⟩
end
end Go.Proofs.YtekdaafnjdlenaaGreat
namespace Go.Proofs.YtekdaafnjdlenaaGreat
open Go Go.Abs
def Kid(p c:Nat):Prop:=c=2*p+1∨c=2*p+2
def iz{α:Type}[Inhabited α](K:α→α→Int)(a hi r:Nat)(M:List α):Prop:=∀p c,r≤p→Kid p c→c<hi→¬K (M.getD (a+p) default) (M.getD (a+c) default)<0
structure SiftR{α:Type}[Inhabited α](K:α→α→Int)(a hi lo root:Nat)(M:List α):Prop where
 le:lo≤root
 heap:∀p c,lo≤p→p≠root→Kid p c→c<hi→¬K (M.getD (a+p) default) (M.getD (a+c) default)<0
 up:∀q c,lo≤q→Kid q root→Kid root c→c<hi→¬K (M.getD (a+q) default) (M.getD (a+c) default)<0
section
variable{α:Type}[Inhabited α]{f:α→AV}{K:α→α→Int}{G:α→Prop}{g:Nat}{caps:List AV}
theorem SiftR.start{a hi lo:Nat}{M:List α}(h:iz K a hi (lo+1) M):SiftR K a hi lo lo M:=
 ⟨aO _,fun p c h1 h2=>h p c (by omega),fun q c h1 h2=>by unfold Kid at h2;omega⟩
theorem SiftR.leaf{a hi lo root:Nat}{M:List α}(h:SiftR K a hi lo root M)(hr:hi≤2*root+1):iz K a hi lo M:=fun p c h1 h2 h3=>by
 by_cases e:p=root
 ·subst e;unfold Kid at h2;omega
 ·exact h.heap p c h1 e h2 h3
theorem SiftR.stop{a hi lo root c:Nat}{M:List α}(hK:Ord K)(h:SiftR K a hi lo root M)(hb:∀d,Kid root d→d<hi→¬K (M.getD (a+c) default) (M.getD (a+d) default)<0)(hn:¬K (M.getD (a+root) default) (M.getD (a+c) default)<0):iz K a hi lo M:=fun p d h1 h2 h3=>by
 by_cases e:p=root
 ·subst e;exact hK.negtr _ _ _ (hb d h2 h3) hn
 ·exact h.heap p d h1 e h2 h3
theorem SiftR.step{a hi lo root c:Nat}{M:List α}(hK:Ord K)(h:SiftR K a hi lo root M)(hkid:Kid root c)(hc:c<hi)(hM:a+hi≤M.length)(hb:∀d,Kid root d→d<hi→¬K (M.getD (a+c) default) (M.getD (a+d) default)<0)(hn:K (M.getD (a+root) default) (M.getD (a+c) default)<0):SiftR K a hi lo c (swp M (a+root) (a+c)):=by
 have hrc:root<c:=by unfold Kid at hkid;omega
 have hg:∀k,(swp M (a+root) (a+c)).getD (a+k) default=if k=c then M.getD (a+root) default else if k=root then M.getD (a+c) default else M.getD (a+k) default:=fun k=>by
  rw[eV (by omega) (by omega)];by_cases e:k=c
  ·rw[if_pos (by omega),if_pos e]
  ·rw[if_neg (by omega),if_neg e];by_cases e2:k=root
   ·rw[if_pos (by omega),if_pos e2]
   ·rw[if_neg (by omega),if_neg e2]
 refine⟨by have:=h.le;omega,fun p d h1 h2 h3 h4=>?_,fun q d h1 h2 h3 h4=>?_⟩
 ·rw[hg,hg,if_neg h2];by_cases e1:p=root
  ·rw[if_pos e1];subst e1;by_cases e2:d=c
   ·rw[if_pos e2];exact hK.asym _ _ hn
   ·rw[if_neg e2,if_neg (by unfold Kid at h3;omega)];exact hb d h3 h4
  ·rw[if_neg e1];have hdc:d≠c:=fun e=>by subst e;unfold Kid at h3 hkid;omega
   rw[if_neg hdc];by_cases e2:d=root
   ·rw[if_pos e2];subst e2;exact h.up p c h1 h3 hkid hc
   ·rw[if_neg e2];exact h.heap p d h1 e1 h3 h4
 ·have eq:q=root:=by unfold Kid at h2 hkid;omega
  subst eq;rw[hg,hg,if_neg (by omega),if_pos rfl,if_neg (by unfold Kid at h3;omega),if_neg (by unfold Kid at h3;omega)];exact h.heap c d (by omega) (by omega) h3 h4
theorem d5{M:List α}{i j:Nat}(hi:i<M.length)(hj:j<M.length):∃M1:List α,M1.length=M.length∧bG (M.map f) i [f (M.getD j default)]=M1.map f∧bG (M1.map f) j [f (M.getD i default)]=(swp M i j).map f:=
 ⟨M.set i (M.getD j default),by simp,iQ hi,by rw[iQ (by simpa using hj)];rfl⟩
theorem gB{a c:Nat}:((a:Int)+(c:Int)).toNat=a+c:=by omega
theorem qx{a c:Nat}:((a:Int)+(c:Int)+1).toNat=a+(c+1):=by omega
attribute [local irreducible] aJ aj bf aX aP aQ aD aS a6 bk Go.Abs.Fn aV Go.Abs.Pure ar aK Yl
theorem F5(hc:Cmp Tryz.prog f K G g caps){L:List α}{H:Hp}{b nx n a lo hi:Nat}(hH:H b=some (L.map f))(hn:L.length=n)(hG:∀x∈L,G x)(hhi:a+hi≤n)(hn2:n≤1000000000)(hlo:lo≤n)(hheap:iz K a hi (lo+1) L):
    Abs.Fn Tryz.prog 197 [.msl b n 1 0 n,.int .i64 lo,.int .i64 hi,.int .i64 a,.func g caps] H nx fun r H' nx'=>nx'=nx∧∃L',H'=aq H b (L'.map f)∧PermR a (a+hi) L L'∧iz K a hi lo L':=by
 refine fO Kv ?_;simp only[J7,aG];refine wnZ and_self ?_;refine bT (X:=Nat×List α) (fun x=>[(0,.msl b n 1 0 n),(2,.int .i64 hi),(3,.int .i64 a),(4,.func g caps),(10,.int .i64 (x.1:Nat))]) (fun x H' nx'=>x.1≤n∧H'=aq H b (x.2.map f)∧nx'=nx∧PermR a (a+hi) L x.2∧SiftR K a hi lo x.1 x.2) (fun x=>n+1-x.1) (lo,L) ⟨hlo,lj hH,rfl,.refl,.start hheap⟩ ag0 ?_;rintro⟨root,M⟩ H' nx' ⟨h0,rfl,rfl,hp,hs⟩;dsimp only at *;have hl:M.length=n:=by rw[hp.len,hn]
 have hGM:=hp.mem hG;by_cases hch:2*root+1<hi
 rotate_left
 ·refine wnZ and_self ?_;exact⟨rfl,M,rfl,hp,hs.leaf (by omega)⟩
 have dcap:=hc.dcaps;have tch:(2:Int)*(root:Int)+1=((2*root+1:Nat):Int):=by omega
 have tch2:((2*root+1:Nat):Int)+1=((2*root+1+1:Nat):Int):=by omega
 have w1:IntKind.wrap .i64 (2*(root:Int))=2*(root:Int):=wZ (by omega) (by omega)
 obtain⟨c,hkid,hchi,hbest,hsel⟩:∃c,Kid root c∧c<hi∧(∀d,Kid root d→d<hi→¬K (M.getD (a+c) default) (M.getD (a+d) default)<0)∧((c=2*root+1+1∧K (M.getD (a+(2*root+1)) default) (M.getD (a+(2*root+1+1)) default)<0)∨(c=2*root+1∧(2*root+1+1<hi→¬K (M.getD (a+(2*root+1)) default) (M.getD (a+(2*root+1+1)) default)<0))):=by
  by_cases h2:2*root+1+1<hi∧K (M.getD (a+(2*root+1)) default) (M.getD (a+(2*root+1+1)) default)<0
  ·refine⟨2*root+1+1,.inr rfl,h2.1,fun d hd hd2=>?_,.inl ⟨rfl,h2.2⟩⟩;rcases hd with rfl|rfl
   ·exact hc.ord.asym _ _ h2.2
   ·exact hc.ord.irr _
  ·refine⟨2*root+1,.inl rfl,hch,fun d hd hd2=>?_,.inr ⟨rfl,fun h h3=>h2 ⟨h,h3⟩⟩⟩;rcases hd with rfl|rfl
   ·exact hc.ord.irr _
   ·exact fun h3=>h2 ⟨hd2,h3⟩
 have lc2:=hc.run (M.getD (a+root) default) (M.getD (a+c) default) (hGM _ (bg (by omega))) (hGM _ (bg (by omega)));have e1:=hc.dat (M.getD (a+root) default);have e2:=hc.dat (M.getD (a+c) default);generalize hK2:K (M.getD (a+root) default) (M.getD (a+c) default)=k2 at lc2;refine kW ?_;refine cl (fun T H'' nx''=>T 0=.msl b n 1 0 n∧T 2=.int .i64 hi∧T 3=.int .i64 a∧T 4=.func g caps∧T 10=.int .i64 (root:Nat)∧T 11=.int .i64 ((2*root+1:Nat):Int)∧H''=aq H b (M.map f)∧nx'=nx'') ?_ ?_
 ·refine wnZ (aI @w1 @tch) ?_;exact⟨rfl,rfl,rfl,rfl,rfl,rfl,rfl,rfl⟩
 rintro T _ _ ⟨t0,t2,t3,t4,t10,t11,rfl,rfl⟩;refine cl (fun T H'' nx''=>T 0=.msl b n 1 0 n∧T 2=.int .i64 hi∧T 3=.int .i64 a∧T 4=.func g caps∧T 10=.int .i64 (root:Nat)∧T 11=.int .i64 ((2*root+1:Nat):Int)∧H''=aq H b (M.map f)∧nx'=nx'') ?_ ?_
 ·refine wnZ (zI6 @t0 @t2 @t3 @t4 @t10 @t11) ?_
  all_goals exact⟨(have zz:=@t0;evZ),(have zz:=@t2;evZ),(have zz:=@t3;evZ),(have zz:=@t4;evZ),(have zz:=@t10;evZ),(have zz:=@t11;evZ),rfl,rfl⟩
 clear t0 t2 t3 t4 t10 t11;rintro T _ _ ⟨t0,t2,t3,t4,t10,t11,rfl,rfl⟩;refine cl (fun T H'' nx''=>T 0=.msl b n 1 0 n∧T 2=.int .i64 hi∧T 3=.int .i64 a∧T 4=.func g caps∧T 10=.int .i64 (root:Nat)∧T 11=.int .i64 (c:Nat)∧H''=aq H b (M.map f)∧nx'=nx'') ?_ ?_
 ·by_cases h2:2*root+1+1<hi
  ·have lc1:=hc.run (M.getD (a+(2*root+1)) default) (M.getD (a+(2*root+1+1)) default) (hGM _ (bg (by omega))) (hGM _ (bg (by omega)));have e3:=hc.dat (M.getD (a+(2*root+1)) default);have e4:=hc.dat (M.getD (a+(2*root+1+1)) default);generalize hK1:K (M.getD (a+(2*root+1)) default) (M.getD (a+(2*root+1+1)) default)=k1 at lc1 hsel;have hlt:decide (((2*root+1+1:Nat):Int)<(hi:Int))=true:=aR (by omega);generalize 2*root+1=ch at *;rcases hsel with⟨rfl,hk1⟩|⟨rfl,hk1⟩
   ·have zz:=aI @t0 (aI @t2 (aI @t3 (aI @t4 (aI @t10 (aI @t11 (aI @tch2 (aI @hlt (aI @gB (aI @qx (aI hc.cells hc.one))))))))));repeat' (first|refine zW ?_|refine zM ?_|apply a_n|refine zO ?_|refine vZ ?_|refine cZ ?_ (hp:=lc1) (hs:=by(first|refine aF ?_ rfl|apply aY);(repeat' (first|exact ak|apply bv|apply a5|exact e3|exact e4|exact bh dcap));first|done|fail)|refine gTZ ?_|(refine zGZ ?_ ?_<;>(intro _hg;try (exfalso;omega)))|fail)
    all_goals exact⟨(have zz:=@t0;evZ),(have zz:=@t2;evZ),(have zz:=@t3;evZ),(have zz:=@t4;evZ),(have zz:=@t10;evZ),(have zz:=@t11;evZ),rfl,rfl⟩
   ·have hk1:=hk1 h2;have zz:=aI @t0 (aI @t2 (aI @t3 (aI @t4 (aI @t10 (aI @t11 (aI @tch2 (aI @hlt (aI @gB (aI @qx (aI hc.cells hc.one))))))))));repeat' (first|refine zW ?_|refine zM ?_|apply a_n|refine zO ?_|refine vZ ?_|refine cZ ?_ (hp:=lc1) (hs:=by(first|refine aF ?_ rfl|apply aY);(repeat' (first|exact ak|apply bv|apply a5|exact e3|exact e4|exact bh dcap));first|done|fail)|refine gTZ ?_|(refine zGZ ?_ ?_<;>(intro _hg;try (exfalso;omega)))|fail)
    all_goals exact⟨(have zz:=@t0;evZ),(have zz:=@t2;evZ),(have zz:=@t3;evZ),(have zz:=@t4;evZ),(have zz:=@t10;evZ),(have zz:=@t11;evZ),rfl,rfl⟩
  ·have hlt:decide (((2*root+1+1:Nat):Int)<(hi:Int))=false:=aU (by omega)
   have hcc:c=2*root+1:=by
    rcases hsel with⟨rfl,_⟩|⟨rfl,_⟩
    ·omega
    ·rfl
   subst hcc;refine wkZ (zI8 @t0 @t2 @t3 @t4 @t10 @t11 @tch2 @hlt) ?_
   all_goals exact⟨(have zz:=@t0;evZ),(have zz:=@t2;evZ),(have zz:=@t3;evZ),(have zz:=@t4;evZ),(have zz:=@t10;evZ),(have zz:=@t11;evZ),rfl,rfl⟩
 clear t0 t2 t3 t4 t10 t11 hsel;rintro T _ _ ⟨t0,t2,t3,t4,t10,t11,rfl,rfl⟩;by_cases hk2:k2<0
 ·obtain⟨M1,hl1,lm1,lm2⟩:=d5 (f:=f) (M:=M) (i:=a+root) (j:=a+c) (by omega) (by omega);have lm3:=lm2;simp only[bG,bO,fA,ce] at lm1 lm2;have zz:=aI @t0 (aI @t2 (aI @t3 (aI @t4 (aI @t10 (aI @t11 (aI @gB (aI @lm1 (aI @lm2 (aI hc.cells hc.one)))))))));repeat' (first|refine zW ?_|refine zM ?_|apply a_n|refine zO ?_|refine vZ ?_|refine cZ ?_ (hp:=lc2) (hs:=by(first|refine aF ?_ rfl|apply aY);(repeat' (first|exact ak|apply bv|apply a5|exact e1|exact e2|exact bh dcap));first|done|fail)|refine stZ ?_|(refine zGZ ?_ ?_<;>(intro _hg;try (exfalso;omega)))|fail)
  have hrc:root<c:=by unfold Kid at hkid;omega
  have hcn:c<n:=by omega
  refine⟨(c,swp M (a+root) (a+c)),by dsimp only;omega,⟨by dsimp only;omega,?_,rfl,hp.trans (PermR.swap (by omega) (by omega) (by omega)),hs.step hc.ord hkid hchi (by omega) hbest (by rw[hK2];exact hk2)⟩,(have zz:=aI @t0 (aI @t2 (aI @t3 @t4));agZ)⟩;dsimp only;rw[ba,ba,lm3]
 ·have zz:=aI @t0 (aI @t2 (aI @t3 (aI @t4 (aI @t10 (aI @t11 (aI @gB (aI hc.cells hc.one)))))));repeat' (first|refine zW ?_|refine zM ?_|apply a_n|apply a_r|refine zO ?_|refine vZ ?_|refine cZ ?_ (hp:=lc2) (hs:=by(first|refine aF ?_ rfl|apply aY);(repeat' (first|exact ak|apply bv|apply a5|exact e1|exact e2|exact bh dcap));first|done|fail)|(refine zGZ ?_ ?_<;>(intro _hg;try (exfalso;omega)))|refine bR rfl ?_|fail)
  exact⟨rfl,M,rfl,hp,hs.stop hc.ord hbest (by rw[hK2];exact hk2)⟩
end
end Go.Proofs.YtekdaafnjdlenaaGreat
namespace Go.Proofs.YtekdaafnjdlenaaGreat
open Go Go.Abs
open Nat (reduceEqDiff reduceAdd reduceLeDiff)
section
variable{α:Type}[Inhabited α]{f:α→AV}{K:α→α→Int}{G:α→Prop}{g:Nat}{caps:List AV}
theorem iz.top{a hi:Nat}{M:List α}(hK:Ord K)(h:iz K a hi 0 M):∀p,p<hi→¬K (M.getD a default) (M.getD (a+p) default)<0:=by
 intro p
 induction p using Nat.strongRecOn with
 |ind p ih=>
  intro hp;by_cases e:p=0
  ·subst e;exact hK.irr _
  ·have k:Kid ((p-1)/2) p:=by unfold Kid;omega
   exact hK.negtr _ _ _ (h _ p (bB _) k hp) (ih ((p-1)/2) (by omega) (by omega))
structure TailR{α:Type}[Inhabited α](K:α→α→Int)(a e k:Nat)(M:List α):Prop where
 sort:bo K k e M
 ge:∀p q,a≤p→p<k→k≤q→q<e→¬K (M.getD q default) (M.getD p default)<0
theorem TailR.step{a e k:Nat}{M N:List α}(hK:Ord K)(ht:TailR K a e (a+(k+1)) M)(hh:iz K a (k+1) 0 M)(he:a+(k+1)≤e)(hM:e≤M.length)(hp:PermR a (a+k) (swp M a (a+k)) N):TailR K a e (a+k) N:=by
 have hg:∀j,(swp M a (a+k)).getD j default=if j=a+k then M.getD a default else if j=a then M.getD (a+k) default else M.getD j default:=fun j=>eV (by omega) (by omega) j
 have hmax:=hh.top hK
 have lo:∀q,a+k≤q→q<e→∀p,a≤p→p<a+k→¬K (N.getD q default) (N.getD p default)<0:=by
  intro q h1 h2;rw[hp.out q (.inr h1),hg];have hl:(swp M a (a+k)).length=M.length:=BX _ _;refine hp.all (p:=fun x=>¬K (if q=a+k then M.getD a default else if q=a then M.getD (a+k) default else M.getD q default) x<0) (by omega) (by omega) ?_;intro p k1 k2;rw[hg,if_neg (by omega:¬p=a+k)];by_cases e1:q=a+k
  ·rw[if_pos e1];by_cases e2:p=a
   ·rw[if_pos e2];exact hmax k (by omega)
   ·rw[if_neg e2];have:=hmax (p-a) (by omega);rw[show a+(p-a)=p by omega] at this;exact this
  ·rw[if_neg e1,if_neg (by omega:¬q=a)];by_cases e2:p=a
   ·rw[if_pos e2];exact ht.ge (a+k) q (by omega) (by omega) (by omega) h2
   ·rw[if_neg e2];exact ht.ge p q k1 (by omega) (by omega) h2
 refine⟨fun p q h1 h2 h3=>?_,fun p q h1 h2 h3 h4=>lo q h3 h4 p h1 h2⟩;rw[hp.out p (.inr h1),hp.out q (.inr (by omega)),hg,hg,if_neg (by omega:¬q=a+k),if_neg (by omega:¬q=a)];by_cases e1:p=a+k
 ·rw[if_pos e1];exact ht.ge a q (aO _) (by omega) (by omega) h3
 ·rw[if_neg e1,if_neg (by omega:¬p=a)];exact ht.sort p q (by omega) h2 h3
theorem iz.swapTop{a k:Nat}{M:List α}(h:iz K a (k+1) 0 M)(hM:a+(k+1)≤M.length):iz K a k 1 (swp M a (a+k)):=by
 intro p c h1 h2 h3;have hg:∀j,(swp M a (a+k)).getD j default=if j=a+k then M.getD a default else if j=a then M.getD (a+k) default else M.getD j default:=fun j=>eV (by omega) (by omega) j
 have:p<c:=by unfold Kid at h2;omega
 rw[hg,hg,if_neg (by omega),if_neg (by omega),if_neg (by omega),if_neg (by omega)];exact h p c (bB _) h2 (by omega)
theorem TailR.start{a e:Nat}{M:List α}:TailR K a e e M:=⟨fun p q h1 h2 h3=>by omega,fun p q h1 h2 h3 h4=>by omega⟩
theorem TailR.done{a e:Nat}{M:List α}(h:TailR K a e a M):bo K a e M:=h.sort
theorem iz.start{a hi r:Nat}{M:List α}(hr:hi≤2*r+1):iz K a hi r M:=fun p c h1 h2 h3=>by unfold Kid at h2;omega
attribute [local irreducible] aJ aj bf aX aP aQ aD aS a6 bk Go.Abs.Fn aV Go.Abs.Pure ar aK Yl
theorem IR(hc:Cmp Tryz.prog f K G g caps){L:List α}{H:Hp}{b nx n a e:Nat}(hH:H b=some (L.map f))(hn:L.length=n)(hG:∀x∈L,G x)(hae:a≤e)(hen:e≤n)(hn2:n≤1000000000):
    Abs.Fn Tryz.prog 167 [.msl b n 1 0 n,.int .i64 a,.int .i64 e,.func g caps] H nx fun r H' nx'=>nx'=nx∧∃L',H'=aq H b (L'.map f)∧PermR a e L L'∧bo K a e L':=by
 obtain⟨h,rfl⟩:∃h,e=a+h:=⟨e-a,by omega⟩
 refine fO K7 ?_;simp only[J4,aG];have dcap:=hc.dcaps;have te:((a+h:Nat):Int)-(a:Int)=(h:Int):=by omega
 obtain⟨r,tr,hr,hrn⟩:∃r:Nat,bq .quo false false (.int .i64 ((h:Int)-1)) (.int .i64 2)=some (.int .i64 (r:Int))∧h≤2*(r+1)+1∧r≤h:=by
  rcases Bc h with e|e
  ·subst e;exact⟨0,rfl,by omega,by omega⟩
  ·refine⟨(h-1)/2,?_,by omega,by omega⟩;rw[oO (by omega) (by omega) (by omega)]
   congr 2
   omega
 refine wnZ (aI @te @tr) ?_;refine bT (X:=Nat×List α) (fun x=>[(0,.msl b n 1 0 n),(1,.int .i64 a),(3,.func g caps),(8,.int .i64 a),(9,.int .i64 0),(10,.int .i64 h),(11,.int .i64 ((x.1:Nat)-1))]) (fun x H' nxx=>x.1≤n+1∧H'=aq H b (x.2.map f)∧nx=nxx∧PermR a (a+h) L x.2∧iz K a h x.1 x.2) (fun x=>x.1) (r+1,L) ⟨by dsimp only;omega,lj hH,rfl,.refl,iz.start (by dsimp only;omega)⟩ (by simp (disch:=omega) only[agr,ZG,reduceEqDiff,↓reduceIte,Int.add_sub_cancel]) ?_;rintro⟨i,M⟩ H' nxx ⟨h1,rfl,rfl,hp,hh⟩;dsimp only at *;have hl:M.length=n:=by rw[hp.len,hn]
 have hGM:=hp.mem hG;rcases Bc i with e|e
 ·subst e;refine wnZ and_self ?_;clear hGM;refine bT (X:=Nat×List α) (fun x=>[(0,.msl b n 1 0 n),(3,.func g caps),(8,.int .i64 a),(9,.int .i64 0),(12,.int .i64 ((x.1:Nat)-1))]) (fun x H' nxx'=>x.1≤h∧H'=aq H b (x.2.map f)∧nx=nxx'∧PermR a (a+h) L x.2∧iz K a x.1 0 x.2∧TailR K a (a+h) (a+x.1) x.2) (fun x=>x.1) (h,M) ⟨aO _,rfl,rfl,hp,hh,.start⟩ (by simp (disch:=omega) only[agr,ZG,reduceEqDiff,↓reduceIte,Int.add_sub_cancel]) ?_;clear hp hh hl;rintro⟨i,M⟩ H' nxx ⟨h1,rfl,rfl,hp,hh,ht⟩;dsimp only at *;have hl:M.length=n:=by rw[hp.len,hn]
  have hGM:=hp.mem hG;rcases Bc i with e|e
  ·subst e;refine wnZ and_self ?_;exact⟨rfl,M,rfl,hp,ht.done⟩
  ·obtain⟨k,rfl⟩:∃k,i=k+1:=⟨i-1,by omega⟩
   have tj:((k+1:Nat):Int)-1=(k:Int):=by omega
   obtain⟨M1,hl1,lm1,lm2⟩:=d5 (f:=f) (M:=M) (i:=a) (j:=a+k) (by omega) (by omega);have lm3:=lm2;simp only[bG,bO,fA,ce] at lm1 lm2;have hp1:PermR a (a+h) L (swp M a (a+k)):=hp.trans (PermR.swap (by omega) (by omega) (by omega));have hsl:(swp M a (a+k)).length=n:=by rw[hp1.len,hn]
   refine wnZ (zI6 @tj @gB @lm1 @lm2 hc.cells hc.one) ?_;refine be ev0 (have zz:=aI @tj @Int.natCast_zero;evZ) (F5 hc (b:=b) (L:=swp M a (a+k)) (a:=a) (lo:=0) (hi:=k) (by rw[ba,ba,ag,←lm3]) hsl (hp1.mem hG) (by omega) (by omega) (by omega) (hh.swapTop (by omega))) ?_;rintro _ _ _ ⟨rfl,N,rfl,hpN,hhN⟩;refine wnZ @tj ?_;exact⟨(k,N),by dsimp only;omega,⟨by dsimp only;omega,by dsimp only;rw[ba,ba,ba],rfl,hp1.trans (hpN.mono (aO _) (by omega)),hhN,ht.step hc.ord hh (by omega) (by omega) hpN⟩,ag0⟩
 ·obtain⟨k,rfl⟩:∃k,i=k+1:=⟨i-1,by omega⟩
  have tj:((k+1:Nat):Int)-1=(k:Int):=by omega
  refine wnZ @tj ?_;refine be ev0 ev0 (F5 hc (L:=M) (a:=a) (lo:=k) (hi:=h) ag hl hGM (by omega) (by omega) (by omega) hh) ?_;rintro _ _ _ ⟨rfl,N,rfl,hpN,hhN⟩;refine wnZ @tj ?_;exact⟨(k,N),by dsimp only;omega,⟨by dsimp only;omega,by dsimp only;rw[ba],rfl,hp.trans hpN,hhN⟩,ag0⟩
end
end Go.Proofs.YtekdaafnjdlenaaGreat
namespace Go.Proofs.YtekdaafnjdlenaaGreat
open Go Go.Abs
section
variable{α:Type}[Inhabited α]{f:α→AV}{K:α→α→Int}{G:α→Prop}{g:Nat}{caps:List AV}
def J6:AV→Option AV
 |.ptr b n o=>some (.ptr b n o)
 |.iptr c o=>some (.iptr c o)
 |.func f c=>some (.func f c)
 |_=>none
theorem SV3:(∀ (T:Tm) (H:Hp) (x:Opd),bC T H (.nilck x)=J6 (ov T x))∧(∀ b n o:Nat,J6 (.ptr b n o)=some (.ptr b n o)):=⟨fun T H x=>by
 simp only[bC];cases ov T x<;>rfl,fun _ _ _=>rfl⟩
attribute [local irreducible] aJ aj bf aX aP aQ aD aS a6 bk Go.Abs.Fn aV Go.Abs.Pure ar aK Yl
theorem KJ(hc:Cmp Tryz.prog f K G g caps){L:List α}{H:Hp}{b nx n a e:Nat}(hH:H b=some (L.map f))(hn:L.length=n)(hae:a<e)(hen:e≤n)(hn2:n≤1000000000):
    Abs.Fn Tryz.prog 170 [.msl b n 1 0 n,.int .i64 a,.int .i64 e,.func g caps] H nx fun r H' nx'=>nx'=nx∧∃L',H'=aq H b (L'.map f)∧PermR a e L L':=by
 obtain⟨m,rfl⟩:∃m,e=m+1:=⟨e-1,by omega⟩
 have te:((m+1:Nat):Int)-1=(m:Int):=by omega
 refine fO LU ?_;simp only[LH,aG];refine wnZ @te ?_;refine bT (X:=Nat×Nat×List α) (fun x=>[(0,.msl b n 1 0 n),(8,.int .i64 (x.1:Nat)),(9,.int .i64 (x.2.1:Nat))]) (fun x H' nxx=>a≤x.1∧x.2.1≤m∧H'=aq H b (x.2.2.map f)∧nx=nxx∧PermR a (m+1) L x.2.2) (fun x=>x.2.1) (a,m,L) ⟨aO _,aO _,lj hH,rfl,.refl⟩ ag0 ?_;rintro⟨i,j,M⟩ H' nxx ⟨h1,h2,rfl,rfl,hp⟩;dsimp only at *;have hl:M.length=n:=by rw[hp.len,hn]
 by_cases hij:i<j
 ·obtain⟨k,rfl⟩:∃k,j=k+1:=⟨j-1,by omega⟩
  have tj:((k+1:Nat):Int)-1=(k:Int):=by omega
  have ti:((i:Nat):Int)+1=((i+1:Nat):Int):=by omega
  obtain⟨M1,hl1,lm1,lm2⟩:=d5 (f:=f) (M:=M) (i:=i) (j:=k+1) (by omega) (by omega);have lm3:=lm2;simp only[bG,bO,fA,ce] at lm1 lm2;refine wnZ (zI6 @tj @ti @lm1 @lm2 hc.cells hc.one) ?_;exact⟨(i+1,k,swp M i (k+1)),by dsimp only;omega,⟨by dsimp only;omega,by dsimp only;omega,by dsimp only;rw[ba,ba,lm3],rfl,hp.trans (PermR.swap (by omega) (by omega) (by omega))⟩,ag0⟩
 ·refine wnZ and_self ?_;exact⟨rfl,M,rfl,hp⟩
theorem tg(hc:Cmp Tryz.prog f K G g caps){L:List α}{H:Hp}{b c nx n i j s:Nat}(hH:H b=some (L.map f))(hcc:H c=some [.int .i64 (s:Nat)])(hn:L.length=n)(hG:∀x∈L,G x)(hi:i<n)(hj:j<n)(hn2:n≤1000000000)(hs:s≤100):
    Abs.Fn Tryz.prog 208 [.msl b n 1 0 n,.int .i64 i,.int .i64 j,.ptr c 1 0,.func g caps] H nx fun r H' nx'=>nx'=nx∧∃i' j' s':Nat,r=.tup [.int .i64 i',.int .i64 j']∧((i'=i∧j'=j)∨(i'=j∧j'=i))∧s'≤s+1∧H'=aq H c [.int .i64 s']:=by
 refine fO Kl ?_;simp only[KO,aG];have dcap:=hc.dcaps;have lc:=hc.run (L.getD j default) (L.getD i default) (hG _ (bg (by omega))) (hG _ (bg (by omega)));have e1:=hc.dat (L.getD j default);have e2:=hc.dat (L.getD i default);have ts:((s:Nat):Int)+1=((s+1:Nat):Int):=by omega
 have ls:∀x y:AV,bG [x] 0 [y]=[y]:=fun _ _=>rfl;simp only[bG,bO,fA,ce] at ls;generalize hKK:K (L.getD j default) (L.getD i default)=kk at lc;by_cases hlt:kk<0
 ·have zz:=aI @hH (aI @hcc (aI @cr (aI hc.cells (aI hc.one (aI @ts (aI @ls @SV3))))));repeat' (first|refine zW ?_|refine zM ?_|apply a_n|apply a_r|refine zO ?_|refine vZ ?_|refine cZ ?_ (hp:=lc) (hs:=by(first|refine aF ?_ rfl|apply aY);(repeat' (first|exact ak|apply bv|apply a5|exact e1|exact e2|exact bh dcap));first|done|fail)|refine stZ ?_|(refine zGZ ?_ ?_<;>(intro _hg;try (exfalso;omega)))|refine bR rfl ?_|refine r2Z ?_|fail)
  exact⟨rfl,j,i,s+1,rfl,.inr ⟨rfl,rfl⟩,aO _,rfl⟩
 ·have zz:=aI @hH (aI @hcc (aI @cr (aI hc.cells hc.one)));repeat' (first|refine zW ?_|refine zM ?_|apply a_n|refine zO ?_|refine vZ ?_|refine cZ ?_ (hp:=lc) (hs:=by(first|refine aF ?_ rfl|apply aY);(repeat' (first|exact ak|apply bv|apply a5|exact e1|exact e2|exact bh dcap));first|done|fail)|(refine zGZ ?_ ?_<;>(intro _hg;try (exfalso;omega)))|refine bR rfl ?_|refine r2Z ?_|fail)
  exact⟨rfl,i,j,s,rfl,.inl ⟨rfl,rfl⟩,Nat.le_succ _,lj hcc⟩
end
end Go.Proofs.YtekdaafnjdlenaaGreat
namespace Go.Proofs.YtekdaafnjdlenaaGreat
open Go Go.Abs
section
variable{α:Type}[Inhabited α]{f:α→AV}{K:α→α→Int}{G:α→Prop}{g:Nat}{caps:List AV}
attribute [local irreducible] aJ aj bf aX aP aQ aD aS a6 bk Go.Abs.Fn aV Go.Abs.Pure ar aK Yl
theorem sS(hc:Cmp Tryz.prog f K G g caps){L:List α}{H:Hp}{b c nx n i j k s lo hi:Nat}(hH:H b=some (L.map f))(hbc:b≠c)(hcc:H c=some [.int .i64 (s:Nat)])(hn:L.length=n)(hG:∀x∈L,G x)(hi1:lo≤i∧i<hi)(hj1:lo≤j∧j<hi)(hk1:lo≤k∧k<hi)(hhi:hi≤n)(hn2:n≤1000000000)(hs:s≤50):
    Abs.Fn Tryz.prog 201 [.msl b n 1 0 n,.int .i64 i,.int .i64 j,.int .i64 k,.ptr c 1 0,.func g caps] H nx fun r H' nx'=>nx'=nx∧∃p s':Nat,r=.int .i64 p∧lo≤p∧p<hi∧s'≤s+3∧H'=aq H c [.int .i64 s']:=by
 refine fO LS ?_;simp only[KI,aG];refine wnZ and_self ?_;refine be ev0 ev0 (tg hc (b:=b) hH hcc hn hG (i:=i) (j:=j) (by omega) (by omega) hn2 (by omega)) ?_;rintro _ _ _ ⟨rfl,i1,j1,s1,rfl,h1,hs1,rfl⟩;refine wnZ and_self ?_;refine be ev0 ev0 (tg hc (b:=b) (by rw[ac hbc];exact hH) ag hn hG (i:=j1) (j:=k) (by omega) (by omega) hn2 (by omega)) ?_;rintro _ _ _ ⟨rfl,j2,k2,s2,rfl,h2,hs2,rfl⟩;refine wnZ and_self ?_;refine be ev0 ev0 (tg hc (b:=b) (by rw[ba,ac hbc];exact hH) ag hn hG (i:=i1) (j:=j2) (by omega) (by omega) hn2 (by omega)) ?_;rintro _ _ _ ⟨rfl,i3,j3,s3,rfl,h3,hs3,rfl⟩;refine wnZ and_self ?_;exact⟨rfl,j3,s3,rfl,by omega,by omega,by omega,by rw[ba,ba]⟩
theorem sF(hc:Cmp Tryz.prog f K G g caps){L:List α}{H:Hp}{b c nx n i s lo hi:Nat}(hH:H b=some (L.map f))(hbc:b≠c)(hcc:H c=some [.int .i64 (s:Nat)])(hn:L.length=n)(hG:∀x∈L,G x)(hi1:lo+1≤i∧i+1<hi)(hhi:hi≤n)(hn2:n≤1000000000)(hs:s≤50):
    Abs.Fn Tryz.prog 200 [.msl b n 1 0 n,.int .i64 i,.ptr c 1 0,.func g caps] H nx fun r H' nx'=>nx'=nx∧∃p s':Nat,r=.int .i64 p∧lo≤p∧p<hi∧s'≤s+3∧H'=aq H c [.int .i64 s']:=by
 obtain⟨m,rfl⟩:∃m,i=m+1:=⟨i-1,by omega⟩
 have t1:((m+1:Nat):Int)-1=(m:Int):=by omega
 have t2:((m+1:Nat):Int)+1=((m+1+1:Nat):Int):=by omega
 refine fO J5 ?_;simp only[Kh,aG];refine wnZ (aI @t1 @t2) ?_;refine be ev0 ev0 (sS hc (b:=b) hH hbc hcc hn hG (i:=m) (j:=m+1) (k:=m+1+1) (lo:=lo) (hi:=hi) (by omega) (by omega) (by omega) hhi hn2 hs) ?_;rintro _ _ _ ⟨rfl,p,s1,rfl,h1,h2,hs1,rfl⟩;refine wnZ and_self ?_;exact⟨rfl,p,s1,rfl,h1,h2,hs1,rfl⟩
theorem EL(hc:Cmp Tryz.prog f K G g caps){L:List α}{H:Hp}{b nx n a e:Nat}(hH:H b=some (L.map f))(hbx:b<nx)(hn:L.length=n)(hG:∀x∈L,G x)(hae:a+8≤e)(hen:e≤n)(hn2:n≤1000000000):
    Abs.Fn Tryz.prog 169 [.msl b n 1 0 n,.int .i64 a,.int .i64 e,.func g caps] H nx fun r H' nx'=>nx'=nx+1∧∃(p:Nat)(hint:Int)(v:List AV),r=.tup [.int .i64 p,.int .i64 hint]∧a≤p∧p<e∧H'=aq H nx v:=by
 obtain⟨l,rfl⟩:∃l,e=a+l:=⟨e-a,by omega⟩
 have te:((a+l:Nat):Int)-(a:Int)=(l:Int):=by omega
 obtain⟨q,hq⟩:∃q,l/4=q:=⟨_,rfl⟩
 have tq:bq .quo false false (.int .i64 (l:Int)) (.int .i64 4)=some (.int .i64 (q:Int)):=by
  rw[oO (by omega) (by omega) (by omega)]
  congr 2
  omega
 have w1:(a:Int)+(q:Int)*1=((a+q:Nat):Int):=by omega
 have w2:(a:Int)+(q:Int)*2=((a+q*2:Nat):Int):=by omega
 have w3:(a:Int)+(q:Int)*3=((a+q*3:Nat):Int):=by omega
 have hbn:b≠nx:=by omega
 refine fO K2 ?_;simp only[KF,aG];have last:∀(s:Nat)(H1:Hp),H1=aq (aq H nx [.int .i64 0]) nx [.int .i64 s]→H1 nx=some [.int .i64 (s:Nat)]:=fun s H1 h=>by rw[h];exact ag
 have hHn:∀v,aq H nx v b=some (L.map f):=fun v=>by rw[ac hbn];exact hH
 by_cases h50:50≤l
 ·refine wnZ (zI5 @te @tq @w1 @w2 @w3) ?_;refine be ev0 ev0 (sF hc (b:=b) (c:=nx) (s:=0) (i:=a+q) (lo:=a) (hi:=a+l) (hHn _) hbn ag hn hG (by omega) (by omega) hn2 (by omega)) ?_;rintro _ _ _ ⟨rfl,p1,s1,rfl,k1,k2,hs1,rfl⟩;rw[ba];refine wnZ and_self ?_;refine be ev0 ev0 (sF hc (b:=b) (c:=nx) (s:=s1) (i:=a+q*2) (lo:=a) (hi:=a+l) (hHn _) hbn ag hn hG (by omega) (by omega) hn2 (by omega)) ?_;rintro _ _ _ ⟨rfl,p2,s2,rfl,k3,k4,hs2,rfl⟩;rw[ba];refine wnZ and_self ?_;refine be ev0 ev0 (sF hc (b:=b) (c:=nx) (s:=s2) (i:=a+q*3) (lo:=a) (hi:=a+l) (hHn _) hbn ag hn hG (by omega) (by omega) hn2 (by omega)) ?_;rintro _ _ _ ⟨rfl,p3,s3,rfl,k5,k6,hs3,rfl⟩;rw[ba];refine wnZ and_self ?_;refine be ev0 ev0 (sS hc (b:=b) (c:=nx) (s:=s3) (i:=p1) (j:=p2) (k:=p3) (lo:=a) (hi:=a+l) (hHn _) hbn ag hn hG (by omega) (by omega) (by omega) (by omega) hn2 (by omega)) ?_;rintro _ _ _ ⟨rfl,p4,s4,rfl,k7,k8,hs4,rfl⟩;rw[ba]
  repeat' (first|refine zW ?_|apply a_n|refine zO ?_|refine vZ ?_|(refine zGZ ?_ ?_<;>(intro _hg;try (exfalso;omega)))|refine bR rfl ?_|refine r2Z ?_|fail)
  all_goals exact⟨rfl,p4,_,_,rfl,by omega,by omega,rfl⟩
 ·refine wnZ (zI5 @te @tq @w1 @w2 @w3) ?_;refine be ev0 ev0 (sS hc (b:=b) (c:=nx) (s:=0) (i:=a+q) (j:=a+q*2) (k:=a+q*3) (lo:=a) (hi:=a+l) (hHn _) hbn ag hn hG (by omega) (by omega) (by omega) (by omega) hn2 (by omega)) ?_;rintro _ _ _ ⟨rfl,p4,s4,rfl,k7,k8,hs4,rfl⟩;rw[ba]
  repeat' (first|refine zW ?_|apply a_n|refine zO ?_|refine vZ ?_|(refine zGZ ?_ ?_<;>(intro _hg;try (exfalso;omega)))|refine bR rfl ?_|refine r2Z ?_|fail)
  all_goals exact⟨rfl,p4,_,_,rfl,by omega,by omega,rfl⟩
end
end Go.Proofs.YtekdaafnjdlenaaGreat
namespace Go.Proofs.YtekdaafnjdlenaaGreat
open Go Go.Abs
def uA{α:Type}[Inhabited α](K:α→α→Int)(a e:Nat)(M:List α):Prop:=∀q,0<a→a≤q→q<e→¬K (M.getD q default) (M.getD (a-1) default)<0
section
variable{α:Type}[Inhabited α]{f:α→AV}{K:α→α→Int}{G:α→Prop}{g:Nat}{caps:List AV}
theorem uA.perm{a e:Nat}{L M:List α}(h:uA K a e L)(hp:PermR a e L M)(hae:a≤e)(he:e≤L.length):uA K a e M:=fun q h0 h1 h2=>by
 rw[hp.out (a-1) (.inl (by omega))];exact hp.all (p:=fun x=>¬K x (L.getD (a-1) default)<0) hae he (fun i k1 k2=>h i h0 k1 k2) q h1 h2
theorem bo.out{a i e:Nat}{L M:List α}(h:bo K a i L)(hp:PermR i e L M):bo K a i M:=fun p q h1 h2 h3=>by
 rw[hp.out p (.inl (by omega)),hp.out q (.inl h3)];exact h p q h1 h2 h3
theorem bo.snoc{a i:Nat}{M:List α}(hK:Ord K)(h:bo K a i M)(ha:a<i)(hn:¬K (M.getD i default) (M.getD (i-1) default)<0):bo K a (i+1) M:=fun p q h1 h2 h3=>by
 by_cases e:q=i
 ·subst e;by_cases e2:p=q-1
  ·rw[e2];exact hn
  ·exact hK.negtr _ _ _ (h p (q-1) h1 (by omega) (by omega)) hn
 ·exact h p q h1 h2 (by omega)
attribute [local irreducible] aJ aj bf aX aP aQ aD aS a6 bk Go.Abs.Fn aV Go.Abs.Pure ar aK Yl
theorem DF(hc:Cmp Tryz.prog f K G g caps){L:List α}{H:Hp}{b nx n a e:Nat}(hH:H b=some (L.map f))(hn:L.length=n)(hG:∀x∈L,G x)(hae:a<e)(hen:e≤n)(hn2:n≤1000000000)(hlow:uA K a e L):
    Abs.Fn Tryz.prog 171 [.msl b n 1 0 n,.int .i64 a,.int .i64 e,.func g caps] H nx fun r H' nx'=>nx'=nx∧∃L' t,r=.bool t∧H'=aq H b (L'.map f)∧PermR a e L L'∧(t=true→bo K a e L'):=by
 have dcap:=hc.dcaps;refine fO MG ?_;simp only[LP,aG];refine wnZ and_self ?_;refine bT (X:=Nat×Nat×List α) (fun x=>[(0,.msl b n 1 0 n),(1,.int .i64 a),(2,.int .i64 e),(3,.func g caps),(9,.int .i64 (x.2.1:Nat)),(10,.int .i64 (x.1:Nat))]) (fun x H' nxx=>x.1≤5∧a+1≤x.2.1∧x.2.1≤e∧H'=aq H b (x.2.2.map f)∧nx=nxx∧PermR a e L x.2.2∧bo K a x.2.1 x.2.2) (fun x=>5-x.1) (0,a+1,L) ⟨by dsimp only;omega,aO _,hae,lj hH,rfl,.refl,bo.one (aO _)⟩ ag0 ?_;rintro⟨jj,i0,M0⟩ H' nxx ⟨h1,h2,h3,rfl,rfl,hp0,hs0⟩;dsimp only at *;by_cases h5:jj=5
 ·subst h5;refine wnZ and_self ?_;exact⟨rfl,M0,false,rfl,rfl,hp0,fun h=>absurd h (by decide)⟩
 have hl:M0.length=n:=by rw[hp0.len,hn]
 have hGM:=hp0.mem hG;refine cl (fun T H'' nx''=>T 0=.msl b n 1 0 n∧T 1=.int .i64 a∧T 2=.int .i64 e∧T 3=.func g caps∧T 9=.int .i64 (i0:Nat)∧T 10=.int .i64 (jj:Nat)∧H''=aq H b ((M0).map f)∧nx=nx'') ?_ ?_
 ·refine wnZ and_self ?_;exact⟨rfl,rfl,rfl,rfl,rfl,rfl,rfl,rfl⟩
 rintro T _ _ ⟨t0,t1,t2,t3,t9,t10,rfl,rfl⟩;refine cl (fun T H'' nx''=>∃(i:Nat)(M:List α),a+1≤i∧i≤e∧PermR a e L M∧bo K a i M∧T 0=.msl b n 1 0 n∧T 1=.int .i64 a∧T 2=.int .i64 e∧T 3=.func g caps∧T 9=.int .i64 (i:Nat)∧T 10=.int .i64 (jj:Nat)∧H''=aq H b ((M).map f)∧nx=nx'') ?_ ?_
 rotate_left
 ·clear t0 t1 t2 t3 t9 t10;rintro T _ _ ⟨i,M,k1,k2,hp,hs,t0,t1,t2,t3,t9,t10,rfl,rfl⟩;refine wnZ (zI6 @t0 @t1 @t2 @t3 @t9 @t10) ?_;exact⟨(jj+1,i,M),by dsimp only;omega,⟨by dsimp only;omega,k1,k2,rfl,rfl,hp,hs⟩,(have zz:=aI @t0 (aI @t1 (aI @t2 (aI @t3 (aI @t9 @t10))));agZ)⟩
 refine kW ?_;refine cl (fun T H'' nx''=>∃(i:Nat),a+1≤i∧i≤e∧bo K a i M0∧(i<e→K (M0.getD i default) (M0.getD (i-1) default)<0)∧T 0=.msl b n 1 0 n∧T 1=.int .i64 a∧T 2=.int .i64 e∧T 3=.func g caps∧T 9=.int .i64 (i:Nat)∧T 10=.int .i64 (jj:Nat)∧H''=aq H b ((M0).map f)∧nx=nx'') ?_ ?_
 ·refine wnZ (zI6 @t0 @t1 @t2 @t3 @t9 @t10) ?_;refine bT (X:=Nat) (fun i=>[(0,.msl b n 1 0 n),(1,.int .i64 a),(2,.int .i64 e),(3,.func g caps),(9,.int .i64 (i:Nat)),(10,.int .i64 (jj:Nat))]) (fun i H' nxx=>a+1≤i∧i≤e∧H'=aq H b (M0.map f)∧nx=nxx∧bo K a i M0) (fun i=>e-i) i0 ⟨h2,h3,rfl,rfl,hs0⟩ (have zz:=aI @t0 (aI @t1 (aI @t2 (aI @t3 (aI @t9 @t10))));agZ) ?_;clear hs0 h2 h3;rintro i H' nxx ⟨h2,h3,rfl,rfl,hs⟩;by_cases hie:i=e
  ·subst hie;refine wkZ and_self ?_;exact⟨i,h2,h3,hs,fun h=>absurd h (Nat.lt_irrefl _),rfl,rfl,rfl,rfl,rfl,rfl,rfl,rfl⟩
  obtain⟨m,rfl⟩:∃m,i=m+1:=⟨i-1,by omega⟩
  have tj:((m+1:Nat):Int)-1=(m:Int):=by omega
  have lc:=hc.run (M0.getD (m+1) default) (M0.getD m default) (hGM _ (bg (by omega))) (hGM _ (bg (by omega)));have e1:=hc.dat (M0.getD (m+1) default);have e2:=hc.dat (M0.getD m default);generalize hKK:K (M0.getD (m+1) default) (M0.getD m default)=kk at lc;by_cases hlt:kk<0
  ·have zz:=aI @tj (aI @cr (aI hc.cells hc.one));repeat' (first|refine zW ?_|refine zM ?_|apply a_n|apply a_x|refine zO ?_|refine vZ ?_|refine cZ ?_ (hp:=lc) (hs:=by(first|refine aF ?_ rfl|apply aY);(repeat' (first|exact ak|apply bv|apply a5|exact e1|exact e2|exact bh dcap));first|done|fail)|refine gTZ ?_|(refine zGZ ?_ ?_<;>(intro _hg;try (exfalso;omega)))|fail)
   exact⟨m+1,h2,h3,hs,fun _=>by rw[ro,hKK];exact hlt,rfl,rfl,rfl,rfl,rfl,rfl,rfl,rfl⟩
  ·have zz:=aI @tj (aI @cr (aI hc.cells hc.one));repeat' (first|refine zW ?_|refine zM ?_|apply a_n|refine zO ?_|refine vZ ?_|refine cZ ?_ (hp:=lc) (hs:=by(first|refine aF ?_ rfl|apply aY);(repeat' (first|exact ak|apply bv|apply a5|exact e1|exact e2|exact bh dcap));first|done|fail)|refine gTZ ?_|(refine zGZ ?_ ?_<;>(intro _hg;try (exfalso;omega)))|fail)
   exact⟨m+1+1,by omega,⟨by omega,by omega,rfl,rfl,hs.snoc hc.ord (by omega) (by rw[ro,hKK];exact hlt)⟩,ag0⟩
 clear t0 t1 t2 t3 t9 t10 hs0 h2 h3;rintro T _ _ ⟨i,h2,h3,hs,hless,t0,t1,t2,t3,t9,t10,rfl,rfl⟩;by_cases hie:i=e
 ·subst hie;have ten:decide ((i:Int)=(i:Int))=true:=aR rfl;refine wnZ (zI7 @t0 @t1 @t2 @t3 @t9 @t10 @ten) ?_;exact⟨rfl,M0,true,rfl,rfl,hp0,fun _=>hs⟩
 replace hless:=hless (by omega);have ten:decide ((i:Int)=(e:Int))=false:=aU (by omega);refine cl (fun T H'' nx''=>T 0=.msl b n 1 0 n∧T 1=.int .i64 a∧T 2=.int .i64 e∧T 3=.func g caps∧T 9=.int .i64 (i:Nat)∧T 10=.int .i64 (jj:Nat)∧H''=aq H b ((M0).map f)∧nx=nx'') ?_ ?_
 ·refine wnZ (zI7 @t0 @t1 @t2 @t3 @t9 @t10 @ten) ?_;exact⟨(have zz:=@t0;evZ),(have zz:=@t1;evZ),(have zz:=@t2;evZ),(have zz:=@t3;evZ),(have zz:=@t9;evZ),(have zz:=@t10;evZ),rfl,rfl⟩
 clear t0 t1 t2 t3 t9 t10 ten;rintro T _ _ ⟨t0,t1,t2,t3,t9,t10,rfl,rfl⟩;refine cl (fun T H'' nx''=>T 0=.msl b n 1 0 n∧T 1=.int .i64 a∧T 2=.int .i64 e∧T 3=.func g caps∧T 9=.int .i64 (i:Nat)∧T 10=.int .i64 (jj:Nat)∧H''=aq H b ((M0).map f)∧nx=nx'') ?_ ?_
 ·have zz:=aI @t0 (aI @t1 (aI @t2 (aI @t3 (aI @t9 @t10))));repeat' (first|refine zW ?_|apply a_n|apply a_r|refine zO ?_|refine vZ ?_|(refine zGZ ?_ ?_<;>(intro _hg;try (exfalso;omega)))|refine bR rfl ?_|refine r1Z ?_|fail)
  ·exact⟨rfl,M0,false,rfl,rfl,hp0,fun h=>absurd h (by decide)⟩
  ·exact⟨(have zz:=@t0;evZ),(have zz:=@t1;evZ),(have zz:=@t2;evZ),(have zz:=@t3;evZ),(have zz:=@t9;evZ),(have zz:=@t10;evZ),rfl,rfl⟩
 clear t0 t1 t2 t3 t9 t10;rintro T _ _ ⟨t0,t1,t2,t3,t9,t10,rfl,rfl⟩;obtain⟨m,rfl⟩:∃m,i=m+1:=⟨i-1,by omega⟩
 have tj:((m+1:Nat):Int)-1=(m:Int):=by omega
 rw[ro] at hless;obtain⟨M1,hl1,lm1,lm2⟩:=d5 (f:=f) (M:=M0) (i:=m+1) (j:=m) (by omega) (by omega);have lm3:=lm2;simp only[bG,bO,fA,ce] at lm1 lm2;refine cl (fun T H'' nx''=>T 0=.msl b n 1 0 n∧T 1=.int .i64 a∧T 2=.int .i64 e∧T 3=.func g caps∧T 9=.int .i64 (m+1:Nat)∧T 10=.int .i64 (jj:Nat)∧H''=aq H b ((swp M0 (m+1) m).map f)∧nx=nx'') ?_ ?_
 ·refine wnZ (aI @t0 (aI @t1 (jY @t2 @t3 @t9 @t10 @cr hc.cells hc.one @tj @lm1 @lm2))) ?_;exact⟨(have zz:=@t0;evZ),(have zz:=@t1;evZ),(have zz:=@t2;evZ),(have zz:=@t3;evZ),(have zz:=@t9;evZ),(have zz:=@t10;evZ),by rw[ba,ba,lm3],rfl⟩
 clear t0 t1 t2 t3 t9 t10;have hp1:PermR a e L (swp M0 (m+1) m):=hp0.trans (PermR.swap (by omega) (by omega) (by omega));have hal:=(f9.start hs).step hc.ord (by omega) (aO _) (by omega) hless;clear hs hless lm1 lm2 lm3 hl1 M1;generalize swp M0 (m+1) m=M2 at hp1 hal;clear hp0 hGM hl;rintro T _ _ ⟨t0,t1,t2,t3,t9,t10,rfl,rfl⟩;refine cl (fun T H'' nx''=>∃M:List α,PermR a e L M∧bo K a (m+1) M∧T 0=.msl b n 1 0 n∧T 1=.int .i64 a∧T 2=.int .i64 e∧T 3=.func g caps∧T 9=.int .i64 (m+1:Nat)∧T 10=.int .i64 (jj:Nat)∧H''=aq H b ((M).map f)∧nx=nx'') ?_ ?_
 ·by_cases h2a:m=a
  ·subst h2a;have td:decide ((2:Int)≤((m+1:Nat):Int)-(m:Int))=false:=aU (by omega);refine wnZ (zI7 @t0 @t1 @t2 @t3 @t9 @t10 @td) ?_;exact⟨M2,hp1,(hal.done hc.ord (.inl rfl)).mono (aO _) (by omega),(have zz:=@t0;evZ),(have zz:=@t1;evZ),(have zz:=@t2;evZ),(have zz:=@t3;evZ),(have zz:=@t9;evZ),(have zz:=@t10;evZ),rfl,rfl⟩
  have td:decide ((2:Int)≤((m+1:Nat):Int)-(a:Int))=true:=aR (by omega);refine wnZ (zI8 @t0 @t1 @t2 @t3 @t9 @t10 @td @tj) ?_;refine bT (X:=Nat×List α) (fun x=>[(0,.msl b n 1 0 n),(1,.int .i64 a),(2,.int .i64 e),(3,.func g caps),(9,.int .i64 (m+1:Nat)),(10,.int .i64 (jj:Nat)),(11,.int .i64 (x.1:Nat))]) (fun x H' nxx=>a≤x.1∧x.1≤m∧H'=aq H b (x.2.map f)∧nx=nxx∧PermR a e L x.2∧f9 K a (m+1) x.1 x.2) (fun x=>x.1) (m,M2) ⟨by dsimp only;omega,aO _,rfl,rfl,hp1,hal⟩ (have zz:=aI @t0 (aI @t1 (aI @t2 (aI @t3 (aI @t9 @t10))));agZ) ?_;clear t0 t1 t2 t3 t9 t10 hp1 hal M2;rintro⟨j,M⟩ H' nxx ⟨a1,a2,rfl,rfl,hp,hal⟩;dsimp only at *;have hl:M.length=n:=by rw[hp.len,hn]
  have hGM:=hp.mem hG;rcases Bc j with ej|ej
  ·subst ej;refine wnZ and_self ?_;exact⟨M,hp,(hal.done hc.ord (.inl (by omega))).mono (aO _) (by omega),rfl,rfl,rfl,rfl,rfl,rfl,rfl,rfl⟩
  obtain⟨k,rfl⟩:∃k,j=k+1:=⟨j-1,by omega⟩
  have tk:((k+1:Nat):Int)-1=(k:Int):=by omega
  have lc:=hc.run (M.getD (k+1) default) (M.getD k default) (hGM _ (bg (by omega))) (hGM _ (bg (by omega)));have e1:=hc.dat (M.getD (k+1) default);have e2:=hc.dat (M.getD k default);have hlw:=hlow.perm hp (by omega) (by omega);generalize hKK:K (M.getD (k+1) default) (M.getD k default)=kk at lc;by_cases hlt:kk<0
  ·have hak:k+1≠a:=fun h=>by
     subst h;have:=hlw (k+1) (by omega) (aO _) (by omega);rw[ro,hKK] at this;exact this hlt
   obtain⟨M1,hl1,lm1,lm2⟩:=d5 (f:=f) (M:=M) (i:=k+1) (j:=k) (by omega) (by omega);have lm3:=lm2;simp only[bG,bO,fA,ce] at lm1 lm2;have zz:=aI @tk (aI @cr (aI hc.cells (aI hc.one (aI @lm1 @lm2))));repeat' (first|refine zW ?_|refine zM ?_|apply a_n|refine zO ?_|refine vZ ?_|refine cZ ?_ (hp:=lc) (hs:=by(first|refine aF ?_ rfl|apply aY);(repeat' (first|exact ak|apply bv|apply a5|exact e1|exact e2|exact bh dcap));first|done|fail)|refine stZ ?_|(refine zGZ ?_ ?_<;>(intro _hg;try (exfalso;omega)))|fail)
   exact⟨(k,swp M (k+1) k),by dsimp only;omega,⟨by dsimp only;omega,by dsimp only;omega,by dsimp only;rw[ba,ba,lm3],rfl,hp.trans (PermR.swap (by omega) (by omega) (by omega)),hal.step hc.ord (by omega) (by omega) (by omega) (by rw[hKK];exact hlt)⟩,(have zz:=@tk;agZ)⟩
  ·have hd:k+1=a∨(a<k+1∧¬K (M.getD (k+1) default) (M.getD (k+1-1) default)<0):=by
     by_cases h:k+1=a
     ·exact .inl h
     ·exact .inr ⟨by omega,by rw[ro,hKK];exact hlt⟩
   have zz:=aI @tk (aI @cr (aI hc.cells hc.one));repeat' (first|refine zW ?_|refine zM ?_|apply a_n|apply a_x|refine zO ?_|refine vZ ?_|refine cZ ?_ (hp:=lc) (hs:=by(first|refine aF ?_ rfl|apply aY);(repeat' (first|exact ak|apply bv|apply a5|exact e1|exact e2|exact bh dcap));first|done|fail)|(refine zGZ ?_ ?_<;>(intro _hg;try (exfalso;omega)))|fail)
   exact⟨M,hp,(hal.done hc.ord hd).mono (aO _) (by omega),rfl,rfl,rfl,rfl,rfl,rfl,rfl,rfl⟩
 clear t0 t1 t2 t3 t9 t10 hp1 hal M2;rintro T _ _ ⟨M2,hp1,hs,t0,t1,t2,t3,t9,t10,rfl,rfl⟩;by_cases h2a:m+1+2≤e
 rotate_left
 ·have td:decide ((2:Int)≤(e:Int)-((m+1:Nat):Int))=false:=aU (by omega);refine wnZ (zI7 @t0 @t1 @t2 @t3 @t9 @t10 @td) ?_;exact⟨m+1,M2,h2,h3,hp1,hs,(have zz:=@t0;evZ),(have zz:=@t1;evZ),(have zz:=@t2;evZ),(have zz:=@t3;evZ),(have zz:=@t9;evZ),(have zz:=@t10;evZ),rfl,rfl⟩
 have td:decide ((2:Int)≤(e:Int)-((m+1:Nat):Int))=true:=aR (by omega);have tj2:((m+1:Nat):Int)+1=((m+1+1:Nat):Int):=by omega
 refine wnZ (zI8 @t0 @t1 @t2 @t3 @t9 @t10 @td @tj2) ?_;refine bT (X:=Nat×List α) (fun x=>[(0,.msl b n 1 0 n),(1,.int .i64 a),(2,.int .i64 e),(3,.func g caps),(9,.int .i64 (m+1:Nat)),(10,.int .i64 (jj:Nat)),(12,.int .i64 (x.1:Nat))]) (fun x H' nxx=>m+1+1≤x.1∧x.1≤e∧H'=aq H b (x.2.map f)∧nx=nxx∧PermR a e L x.2∧bo K a (m+1) x.2) (fun x=>e-x.1) (m+1+1,M2) ⟨aO _,by dsimp only;omega,rfl,rfl,hp1,hs⟩ (have zz:=aI @t0 (aI @t1 (aI @t2 (aI @t3 (aI @t9 @t10))));agZ) ?_;clear t0 t1 t2 t3 t9 t10 hp1 hs M2;rintro⟨j,M⟩ H' nxx ⟨a1,a2,rfl,rfl,hp,hs⟩;dsimp only at *;have hl:M.length=n:=by rw[hp.len,hn]
 have hGM:=hp.mem hG;by_cases hje:j=e
 ·subst hje;refine wnZ and_self ?_;exact⟨m+1,M,h2,h3,hp,hs,rfl,rfl,rfl,rfl,rfl,rfl,rfl,rfl⟩
 obtain⟨k,rfl⟩:∃k,j=k+1:=⟨j-1,by omega⟩
 have tk:((k+1:Nat):Int)-1=(k:Int):=by omega
 have lc:=hc.run (M.getD (k+1) default) (M.getD k default) (hGM _ (bg (by omega))) (hGM _ (bg (by omega)));have e1:=hc.dat (M.getD (k+1) default);have e2:=hc.dat (M.getD k default);generalize hKK:K (M.getD (k+1) default) (M.getD k default)=kk at lc;by_cases hlt:kk<0
 ·obtain⟨M1,hl1,lm1,lm2⟩:=d5 (f:=f) (M:=M) (i:=k+1) (j:=k) (by omega) (by omega);have lm3:=lm2;simp only[bG,bO,fA,ce] at lm1 lm2;have zz:=aI @tk (aI @cr (aI hc.cells (aI hc.one (aI @lm1 @lm2))));repeat' (first|refine zW ?_|refine zM ?_|apply a_n|refine zO ?_|refine vZ ?_|refine cZ ?_ (hp:=lc) (hs:=by(first|refine aF ?_ rfl|apply aY);(repeat' (first|exact ak|apply bv|apply a5|exact e1|exact e2|exact bh dcap));first|done|fail)|refine stZ ?_|(refine zGZ ?_ ?_<;>(intro _hg;try (exfalso;omega)))|fail)
  exact⟨(k+1+1,swp M (k+1) k),by dsimp only;omega,⟨by dsimp only;omega,by dsimp only;omega,by dsimp only;rw[ba,ba,lm3],rfl,hp.trans (PermR.swap (by omega) (by omega) (by omega)),hs.out (e:=e) (PermR.swap (by omega) (by omega) (by omega))⟩,ag0⟩
 ·have zz:=aI @tk (aI @cr (aI hc.cells hc.one));repeat' (first|refine zW ?_|refine zM ?_|apply a_n|apply a_x|refine zO ?_|refine vZ ?_|refine cZ ?_ (hp:=lc) (hs:=by(first|refine aF ?_ rfl|apply aY);(repeat' (first|exact ak|apply bv|apply a5|exact e1|exact e2|exact bh dcap));first|done|fail)|(refine zGZ ?_ ?_<;>(intro _hg;try (exfalso;omega)))|fail)
  exact⟨m+1,M,h2,h3,hp,hs,rfl,rfl,rfl,rfl,rfl,rfl,rfl,rfl⟩
end
end Go.Proofs.YtekdaafnjdlenaaGreat