/- Texts of this claim, one after the other: AbsO, Code, U1, T100, T101, T102, T103, T104, T105, T108, U2s, U3s, U4s, U5s, U6s, U7s. -/
import Derived.Test.YtekdaafnjdlenaaGreatXG3
import Derived.ChangeArms
import Derived.Carry
import Derived.Deep.Slices
import Derived.Lib.SmallJoins
import Derived.Test.YtekdaafnjdlenaaGreatProg
import Derived.KernelRfl

set_option linter.unusedSimpArgs false
set_option linter.unusedVariables false
set_option maxHeartbeats 1000000
namespace Go.Abs
open Go Go.RowKit
def uJ(W:World):Nat→Prop:=fun b=>b<W.heap.size
theorem Dc{W:World}{a:Addr}{v:Value}(h:W.cell? a=some v):uJ W a.block∧a.spot=none:=by
 unfold World.cell? at h;unfold uJ;cases hb:W.heap[a.block]? with
 |none=>simp[hb] at h
 |some o=>
  refine⟨(iE.1 hb).1,?_⟩;cases hs:a.spot with
  |none=>rfl
  |some s=>cases o<;>simp[hb,hs] at h
section
variable{H:Type}{enc:TypeId×Value→H}{P:Program}{W:World}
def fe(enc:TypeId×Value→H)(P:Program)(W:World)(t:TypeId){α:Type}(f:α→AV)(good:α→Prop):Prop:=
 ∀(n:Nat)(cs:List Value)(x:DataW H×List MemPlace),DataW.trod enc P W 0 (fun _=>true) true n t cs=some x→(∀k∈x.1.weights P t,k≤reachBytes)→∃a:α,good a∧dG (E0 (uJ W)) W (f a).cells cs
theorem fe.mono{t:TypeId}{α:Type}{f:α→AV}{good good':α→Prop}(h:fe enc P W t f good)(hg:∀a,good a→good' a):fe enc P W t f good':=
 fun n cs x hx hw=>let ⟨a,h1,h2⟩:=h n cs x hx hw;⟨a,hg a h1,h2⟩
theorem sa {E:Env} {w:World} {x:AV} {y:Value} (h:Rel E w x y):dG E w [x] [y]:=⟨rfl,fun i a b ha hb=>by
 cases i with
 |zero=>simp at ha hb;subst ha hb;exact h
 |succ i=>simp at ha⟩
theorem dG.app{E:Env}{w:World}{xs xs':List AV}{ys ys':List Value}(h:dG E w xs ys)(h':dG E w xs' ys'):dG E w (xs++xs') (ys++ys'):=by
 have hl:xs.length=ys.length:=h.1.symm;refine⟨by simp[h.1,h'.1],fun i a b ha hb=>?_⟩;by_cases hi:i<xs.length
 ·rw[gA hi] at ha;rw[gA (by omega)] at hb;exact h.2 i a b ha hb
 ·rw[iA (by omega)] at ha;rw[iA (by omega)] at hb;rw[hl] at ha;exact h'.2 _ a b ha hb
theorem DN{t:TypeId}{k:IntKind}(ht:P.underlying t=some (.int k)):fe enc P W t (AV.int k) (fun n=>(Lit.int k n).wf=true):=fun n cs x hx _=>by
 obtain⟨a,rfl,rfl,hw⟩:=DataW.trod_int ht hx;exact⟨a,hw,sa (.int _ _)⟩
theorem tR{e:TypeId}{l:List (DataW H)}{d:DataW H}(h:d∈l){k:Nat}(hk:k∈d.weights P e):k∈DataW.weightsAll P e l:=by
 induction l with
 |nil=>cases h
 |cons a l ih=>
  unfold DataW.weightsAll;rcases cR.1 h with rfl|h
  ·exact nZ _ hk
  ·exact oz _ (ih h)
theorem yH{α:Type}{len:Nat}{Q:Nat→α→Prop}(h:∀i,i<len→∃a,Q i a):∃l:List α,l.length=len∧∀i a,l[i]?=some a→Q i a:=by
 induction len with
 |zero=>exact⟨[],rfl,fun i a h=>by simp at h⟩
 |succ n ih=>
  obtain⟨l,h1,h2⟩:=ih (fun i hi=>h i (by omega));obtain⟨a,ha⟩:=h n (by omega);refine⟨l++[a],by simp[h1],fun i b hb=>?_⟩;by_cases hi:i<l.length
  ·rw[gA hi] at hb;exact h2 i b hb
  ·rw[iA (by omega)] at hb
   have:i-l.length=0:=by
    by_cases h0:i-l.length=0
    ·exact h0
    ·rw[List.getElem?_eq_none (by simp;omega)] at hb;cases hb
   rw[this] at hb;simp at hb;subst hb;have:i=n:=by omega
   subst this;exact ha
theorem qZ{t e:TypeId}{sz by_:Nat}{α:Type}{f:α→AV}{good:α→Prop}(ht:P.underlying t=some (.slice e))(hsz:P.cellsOf e=sz)(hby:P.bytesOf e=by_)(hpos:0<sz)(hc:∀a,(f a).cells.length=sz)
    (he:fe enc P W e f good):fe enc P W t (iT sz f) (fun l=>(∀a∈l,good a)∧l.length≤9223372036854775807∧l.length*by_≤140737488351232):=fun n cs x hx hw=>by
 rcases Go.Deep.open_slice ht hx with⟨rfl,rfl⟩|⟨a,len,cap,m,n',D,Pl,rfl,hb,hlc,hcm,hm,hxe,hel⟩
 ·exact⟨[],⟨fun _ h=>(by cases h),by simp,by simp⟩,sa (.slnil _)⟩
 simp only[if_true] at hm;subst hxe;subst hm;have hw':∀k∈((DataW.slice (H:=H) ((List.range len).map D) ((List.range (m-len)).map fun j=>D (len+j))).weights P t),k≤reachBytes:=hw;simp only[DataW.weights,ht] at hw';have hlen:(((List.range len).map D).length+((List.range (m-len)).map fun j=>D (len+j)).length)*P.bytesOf e≤reachBytes:=hw' _ (cJ ..)
 have hbd:len*by_≤140737488351232:=by
  rw[hby] at hlen;simp only[bz,List.length_range] at hlen;have h1:len*by_≤(len+(m-len))*by_:=lH _ (by omega);have h2:reachBytes=140737488351232:=rfl;omega
 have hlm:len≤9223372036854775807:=fB hlc hcm
 have key:∀i,i<len→∃a':α,good a'∧∃cs',W.cells? 0 (a.add (i*sz)) sz=some cs'∧dG (E0 (uJ W)) W (f a').cells cs':=fun i hi=>by
  obtain⟨cs',h1,h2⟩:=hel i (by omega);rw[hsz] at h1;obtain⟨a',g1,g2⟩:=he n' cs' _ h2 (fun k hk=>hw' k (dL _ (nZ _ (tR (bE.2 ⟨i,eo.2 hi,rfl⟩) hk))));exact⟨a',g1,cs',h1,g2⟩
 obtain⟨l,hl,hq⟩:=yH key;refine⟨l,⟨fun x hx=>?_,by omega,by rw[hl];exact hbd⟩,sa ?_⟩
 ·obtain⟨i,hi⟩:=xK hx;exact(hq i x hi).1
 by_cases h0:len=0
 ·subst h0;have:l=[]:=fk.1 hl;subst this;exact .slempty _ _ _
 have hcell:∀i j,i<len→j<sz→∃v,W.cell? ((a.add (i*sz)).add j)=some v:=fun i j hi hj=>by
  obtain⟨a',_,cs',h1,h2⟩:=key i hi;unfold World.cells? at h1;rw[if_pos (bR _)] at h1;have h3:=mapM_some_get h1 j j (by simp[hj])
  have h4:j<cs'.length:=by
   have:=mapM_some_length h1;simp at this;omega
  exact⟨cs'[j],by rw[h3];simp[h4]⟩
 obtain⟨v0,hv0⟩:=hcell 0 0 (by omega) hpos;have ho:=Dc hv0;simp only[wE,Addr.add,if_true] at ho;obtain⟨blk,off,sp⟩:=a;obtain⟨ho,hsp⟩:=ho;simp only at hsp ho;subst hsp
 have hadd:∀i j,((⟨blk,off,none⟩:Addr).add (i*sz)).add j=⟨blk,off+(i*sz+j),none⟩:=fun i j=>by
  rw[cm,cm,pF]
 have hcell':∀k,k<len*sz→∃v,W.cell? ⟨blk,off+k,none⟩=some v:=fun k hk=>by
  have h1:k/sz<len:=Nat.div_lt_of_lt_mul (by rw[Nat.mul_comm];exact hk);have h2:k%sz<sz:=Nat.mod_lt _ hpos;obtain⟨v,hv⟩:=hcell (k/sz) (k%sz) h1 h2;rw[hadd,Nat.div_add_mod'] at hv;exact⟨v,hv⟩
 have hlen2:(l.map f).length=len:=by simp[hl]
 have:=Rel.sl (E:=E0 (uJ W)) (w:=W) sz (l.map f) blk off m (fun k=>(W.cell? ⟨blk,off+k,none⟩).getD Go.undef) ho (by rw[hlen2];exact hlc)
  (fun x hx=>by obtain⟨b,_,rfl⟩:=bE.1 hx;exact hc b)
  (fun k hk=>by
   rw[hlen2] at hk;obtain⟨v,hv⟩:=hcell' k hk;simp only[hv,uM])
  (fun i j x y hx hy=>by
   rw[lz,Option.map_eq_some_iff] at hx;obtain⟨a',ha',rfl⟩:=hx;obtain⟨_,cs',h1,h2⟩:=hq i a' ha'
   have hj:j<sz:=by
    have:=(bS.1 hy).1
    rwa [hc] at this
   have hi:i<len:=by
    have:=(bS.1 ha').1;omega
   unfold World.cells? at h1;rw[if_pos (bR _)] at h1;have h3:=mapM_some_get h1 j j (by simp[hj])
   have h4:j<cs'.length:=by
    have:=mapM_some_length h1;simp at this;omega
   rw[hadd] at h3;have h5:cs'[j]?=some cs'[j]:=by simp[h4]
   rw[h5] at h3;simp only[h3,uM];exact h2.2 j y _ hy h5)
 rw[hlen2] at this;exact this
def wQ(enc:TypeId×Value→H)(P:Program)(W:World)(fs:List Field)(off:Nat){α:Type}(g:α→List AV)(good:α→Prop):Prop:=
 ∀(n tot:Nat)(cs:List Value)(ys:List (DataW H×List MemPlace)),ys.length=fs.length→(∀(i:Nat)(f:Field),fs[i]?=some f→DataW.trod enc P W 0 (fun _=>true) true n f.type ((cs.drop f.offset).take (P.cellsOf f.type))=ys[i]?)→
  (∀k∈DataW.weightsEach P (fs.map fun f:Field=>f.type) (ys.map (·.1)),k≤reachBytes)→cs.length=tot→tot=off+(fs.map fun f:Field=>P.cellsOf f.type).sum→∃a:α,good a∧dG (E0 (uJ W)) W (g a) (cs.drop off)
theorem uj{off:Nat}:wQ enc P W [] off (fun _:Unit=>[]) (fun _=>True):=fun n tot cs ys _ _ _ h1 h2=>by
 refine⟨(),trivial,?_⟩;rw[EV (by simp at h2;omega)];exact⟨rfl,fun i a b h=>by simp at h⟩
theorem mz{fd:Field}{fs:List Field}{off off':Nat}{α β:Type}{f:α→AV}{g:β→List AV}{good:α→Prop}{good':β→Prop}(ho:fd.offset=off)(ho':off+P.cellsOf fd.type=off')
    (h:fe enc P W fd.type f good) (h':wQ enc P W fs off' g good'):wQ enc P W (fd::fs) off (fun a:α×β=>(f a.1).cells++g a.2) (fun a=>good a.1∧good' a.2):=fun n tot cs ys hl hy hw h1 h2=>by
 obtain⟨y,ys,rfl⟩:∃y ys',ys=y::ys':=by
  cases ys with
  |nil=>simp at hl
  |cons y ys=>exact⟨y,ys,rfl⟩
 have hy0:=hy 0 fd rfl;simp only[t7] at hy0;rw[ho] at hy0;simp only[dT,DataW.weightsEach] at hw;obtain⟨a,g1,g2⟩:=h n _ y hy0 (fun k hk=>hw k (nZ _ hk));simp only[dT,List.sum_cons] at h2
 obtain ⟨b,g3,g4⟩:=h' n tot cs ys (by simpa using hl) (fun i f hf=>by
  have:=hy (i+1) f (by simpa using hf);simpa using this) (fun k hk=>hw k (oz _ hk)) h1 (by omega)
 refine⟨(a,b),⟨g1,g3⟩,?_⟩
 have e:cs.drop off=(cs.drop off).take (P.cellsOf fd.type)++cs.drop off':=by
  rw[←ho',←List.drop_drop,Er]
 rw[e];exact dG.app g2 g4
theorem ot{t:TypeId}{fs:Array Field}{α:Type}{g:α→List AV}{good:α→Prop}(ht:P.underlying t=some (.struct fs))(hsum:P.cellsOf t=(fs.toList.map fun f:Field=>P.cellsOf f.type).sum)
    (h:wQ enc P W fs.toList 0 g good):fe enc P W t (fun a=>.agg (g a)) good:=fun n cs x hx hw=>by
 obtain⟨ys,n',rfl,rfl,hl,hs,hy⟩:=DataW.trod_struct ht hx
 obtain ⟨a,g1,g2⟩:=h n' _ cs ys (by rw [hs]; simp) (fun i f hf=>hy i f (by simpa using hf)) (fun k hk=>hw k (by
  simp only[DataW.weights,ht];exact hk)) hl (by rw[cf,hsum])
 exact⟨a,g1,by rw[List.drop_zero] at g2;exact g2⟩
theorem fe.map{t:TypeId}{α β:Type}{f:α→AV}{good:α→Prop}{f':β→AV}{good':β→Prop}(h:fe enc P W t f good)(φ:α→β)(hg:∀a,good a→good' (φ a))(hf:∀a,good a→(f' (φ a)).cells=(f a).cells):fe enc P W t f' good':=fun n cs x hx hw=>by
 obtain⟨a,h1,h2⟩:=h n cs x hx hw;exact⟨φ a,hg a h1,by rw[hf a h1];exact h2⟩
theorem fe.at{t u:TypeId}{α:Type}{f:α→AV}{good:α→Prop}(e:t=u)(h:fe enc P W u f good):fe enc P W t f good:=e▸h
theorem fe.argA{t:TypeId}{α:Type}{f:α→AV}{good:α→Prop}(h:fe enc P W t f good){r:Reach}{base:Nat}{v:Value}{d:DataW H}{ps:List MemPlace}(ht:po P t=true)(hf:∀a,∃cs,f a=.agg cs)
    (hval:Value.okWide P W r base t v) (hd:DataW.Trod enc P W 0 (fun _=>true) true t v d ps) (hw:∀k∈d.weights P t,k≤reachBytes):∃a,good a∧Rel (E0 (uJ W)) W (f a) v:=by
 obtain⟨n,hn⟩:=hd;obtain⟨a,h1,h2⟩:=h n _ _ hn hw;refine⟨a,h1,?_⟩
 obtain⟨cs,hcs,_⟩:∃cs,v=.agg cs∧True:=by
  unfold Value.okWide at hval;unfold po at ht;split at hval
  ·obtain⟨cs,h,_⟩:=hval;exact⟨cs,h,trivial⟩
  ·obtain⟨cs,h,_⟩:=hval;exact⟨cs,h,trivial⟩
  ·rename_i k1 k2;revert ht;cases hu:P.underlying t with
   |none=>simp
   |some u=>
    cases u with
    |struct fs=>exact absurd hu (k1 fs)
    |array m e=>exact absurd hu (k2 m e)
    |_=>simp
 subst hcs;obtain⟨xs,hx⟩:=hf a;rw[hx] at h2 ⊢;exact .agg xs cs.toList h2.1 h2.2
theorem fe.arg1{t:TypeId}{α:Type}{f:α→AV}{good:α→Prop}(h:fe enc P W t f good){v:Value}{d:DataW H}{ps:List MemPlace}(hf:∀a,(f a).cells=[f a])(hv:v.cells=#[v])
    (hd:DataW.Trod enc P W 0 (fun _=>true) true t v d ps) (hw:∀k∈d.weights P t,k≤reachBytes):∃a,good a∧Rel (E0 (uJ W)) W (f a) v:=by
 obtain⟨n,hn⟩:=hd;obtain⟨a,h1,h2⟩:=h n _ _ hn hw;rw[hf,hv] at h2;exact⟨a,h1,h2.2 0 _ _ rfl rfl⟩
theorem vJ{t:TypeId}{r:Reach}{base:Nat}{v:Value}(ht:po P t=false)(hval:Value.okWide P W r base t v):v.cells=#[v]:=by
 cases v<;>try rfl
 rename_i cs;exfalso;unfold Value.okWide at hval;unfold po at ht;cases hu:P.underlying t with
 |none=>simp only[hu,Cell.okWide,Cell.ok] at hval
 |some u=>
  rw[hu] at ht;cases u<;>simp only[hu,Cell.okWide,Cell.ok] at hval<;>simp at ht
theorem nH(hl:laidOutB P=true){W':World}(hb:Below W.heap.size W W'){sp:Nat→Bool}:∀{ts:List TypeId}{vs:List Value}{ds:List (DataW H)}{ps:List MemPlace},(∀t∈ts,P.readableRec t=true∧t<P.types.size)→
    DataW.TrodAll enc P W 0 (fun _=>true) true ts vs ds ps→(∀p∈ps,p.block<W.heap.size)→(∀p∈ps,sp p.block=true)→DataW.TrodAll enc P W' 0 sp true ts vs ds ps
 |[],[],[],ps,_,h,_,_=>h
 |t::ts,v::vs,d::ds,ps,hr,⟨p,q,h1,h2,e⟩,hlt,hsp=>by
  subst e
  exact ⟨p,q,WideElems.Trod_stays hl (hr t (cJ ..)).1 (hr t (cJ ..)).2 h1 (fun x hx=>hb.same (hlt x (nZ _ hx))) (fun x hx=>hsp x (nZ _ hx)),
   nH hl hb (fun t ht=>hr t (dL _ ht)) h2 (fun x hx=>hlt x (oz _ hx)) (fun x hx=>hsp x (oz _ hx)),rfl⟩
 |[],_::_,_,_,_,h,_,_=>h.elim
 |[],[],_::_,_,_,h,_,_=>h.elim
 |_::_,[],_,_,_,h,_,_=>h.elim
 |_::_,_::_,[],_,_,h,_,_=>h.elim
theorem mC:∀{ts:List TypeId}{ds:List (DataW H)}{i:Nat}{t:TypeId}{d:DataW H},ts[i]?=some t→ds[i]?=some d→∀k∈d.weights P t,k∈DataW.weightsEach P ts ds
 |t::ts,d::ds,0,_,_,h1,h2,k,hk=>by
  simp at h1 h2;subst h1 h2;unfold DataW.weightsEach;exact nZ _ hk
 |t::ts,d::ds,i+1,_,_,h1,h2,k,hk=>by
  unfold DataW.weightsEach;exact oz _ (mC (ts:=ts) (ds:=ds) (by simpa using h1) (by simpa using h2) k hk)
 |[],_,i,_,_,h1,_,_,_=>by simp at h1
 |_::_,[],i,_,_,_,h2,_,_=>by simp at h2
end
end Go.Abs
namespace Go.Proofs.YtekdaafnjdlenaaGreat
open Go Go.Abs Go.Abs.C2 Go.Abs.Ins Go.Abs.Opd Go.Abs.TK Go.Abs.MK
def cO(d:Nat)(i:Ins):Op2:=Op2.mk (some d) none i
def cG(d g:Nat)(b:Bool)(i:Ins):Op2:=Op2.mk (some d) (some (g,b)) i
def cN(k:Int):Opd:=Opd.c (AV.int IntKind.i64 k)
def cM(n:Nat):Ins:=Ins.mov (Opd.t n)
def cD(n:Nat):Ins:=Ins.ld1 (Opd.t n)
def cF(n:Nat):Opd:=Opd.c (AV.func n [])
def cB(o:BinOp)(x y:Opd):Ins:=Ins.bin o false false x y
def a9:Opd:=Opd.c (AV.bool false)
def c9:Opd:=Opd.c (AV.bool true)
def aa(d s:Nat):Op2:=Op2.mk (some d) none (Ins.mov (Opd.t s))
def aF(d s:Nat):Op2:=Op2.mk (some d) none (Ins.ld1 (Opd.t s))
def bt(d n s:Nat):Op2:=Op2.mk (some d) none (Ins.ldn n (Opd.t s))
def bj(d s:Nat):Op2:=Op2.mk (some d) none (Ins.lenS (Opd.t s))
def bW(d n s:Nat):Op2:=Op2.mk (some d) none (Ins.fa n (Opd.t s))
def aS(d s n:Nat):Op2:=Op2.mk (some d) none (Ins.ext (Opd.t s) n)
def aG(d f:Nat)(l:List Opd):Op2:=Op2.mk (some d) none (Ins.call (Opd.c (AV.func f [])) l)
def aV(d:Nat)(o:BinOp)(x y:Nat):Op2:=Op2.mk (some d) none (Ins.bin o false false (Opd.t x) (Opd.t y))
def ar(d:Nat)(o:BinOp)(x:Nat)(y:Int):Op2:=Op2.mk (some d) none (Ins.bin o false false (Opd.t x) (Opd.c (AV.int IntKind.i64 y)))
def bC(n p v:Nat):Op2:=Op2.mk none none (Ins.st n (Opd.t p) (Opd.t v))
def bm(d g:Nat)(i:Ins):Op2:=Op2.mk (some d) (some (g,false)) i
def am(d g:Nat)(i:Ins):Op2:=Op2.mk (some d) (some (g,true)) i
def az(n:Nat)(x y:C2):C2:=C2.cond (Opd.t n) x y
def ab(l:List Op2)(x:C2):C2:=C2.seq (C2.ops 0 l) x
def bb:AV:=AV.int IntKind.i64 0
theorem aJ:(∀(d:Nat)(i:Ins),cO d i=Op2.mk (some d) none i)∧(∀(d g:Nat)(b:Bool)(i:Ins),cG d g b i=Op2.mk (some d) (some (g,b)) i)∧(∀(k:Int),cN k=Opd.c (AV.int IntKind.i64 k))∧(∀(n:Nat),cM n=Ins.mov (Opd.t n))∧(∀(n:Nat),cD n=Ins.ld1 (Opd.t n))∧(∀(n:Nat),cF n=Opd.c (AV.func n []))∧(∀(o:BinOp)(x y:Opd),cB o x y=Ins.bin o false false x y)∧(a9=Opd.c (AV.bool false))∧(c9=Opd.c (AV.bool true))∧(∀(d s:Nat),aa d s=Op2.mk (some d) none (Ins.mov (Opd.t s)))∧(∀(d s:Nat),aF d s=Op2.mk (some d) none (Ins.ld1 (Opd.t s)))∧(∀(d n s:Nat),bt d n s=Op2.mk (some d) none (Ins.ldn n (Opd.t s)))∧(∀(d s:Nat),bj d s=Op2.mk (some d) none (Ins.lenS (Opd.t s)))∧(∀(d n s:Nat),bW d n s=Op2.mk (some d) none (Ins.fa n (Opd.t s)))∧(∀(d s n:Nat),aS d s n=Op2.mk (some d) none (Ins.ext (Opd.t s) n))∧(∀(d f:Nat)(l:List Opd),aG d f l=Op2.mk (some d) none (Ins.call (Opd.c (AV.func f [])) l))∧(∀(d:Nat)(o:BinOp)(x y:Nat),aV d o x y=Op2.mk (some d) none (Ins.bin o false false (Opd.t x) (Opd.t y)))∧(∀(d:Nat)(o:BinOp)(x:Nat)(y:Int),ar d o x y=Op2.mk (some d) none (Ins.bin o false false (Opd.t x) (Opd.c (AV.int IntKind.i64 y))))∧(∀(n p v:Nat),bC n p v=Op2.mk none none (Ins.st n (Opd.t p) (Opd.t v)))∧(∀(d g:Nat)(i:Ins),bm d g i=Op2.mk (some d) (some (g,false)) i)∧(∀(d g:Nat)(i:Ins),am d g i=Op2.mk (some d) (some (g,true)) i)∧(∀(n:Nat)(x y:C2),az n x y=C2.cond (Opd.t n) x y)∧(∀(l:List Op2)(x:C2),ab l x=C2.seq (C2.ops 0 l) x)∧(bb=AV.int IntKind.i64 0):=⟨fun _ _=>rfl,fun _ _ _ _=>rfl,fun _=>rfl,fun _=>rfl,fun _=>rfl,fun _=>rfl,fun _ _ _=>rfl,rfl,rfl,fun _ _=>rfl,fun _ _=>rfl,fun _ _ _=>rfl,fun _ _=>rfl,fun _ _ _=>rfl,fun _ _ _=>rfl,fun _ _ _=>rfl,fun _ _ _ _=>rfl,fun _ _ _ _=>rfl,fun _ _ _=>rfl,fun _ _ _=>rfl,fun _ _ _=>rfl,fun _ _ _=>rfl,fun _ _=>rfl,rfl⟩
theorem mkI{P:Program}{f:FuncId}{F:F2}{fn:Func}(h1:P.funcs[f]?=some fn)(h2:xR P fn=some F:=by kernel_rfl):Is P f F:=Is.mk' h1 h2
theorem follows:Tryz.prog.follows .mixedOrders=true:=by rfl
abbrev pU:=@Go.Abs.Pure Tryz.prog
theorem pO{f:FuncId}{F:F2}{args:List AV}{r:AV}(hf:Is Tryz.prog f F)(hb:aH Tryz.prog F.body (T0 args) cz 0 fun e T H nx=>aQ e.ends (bl T H (fun x=>Snap H x r) F.res))(hl:args.length≤F.n:=by exact Nat.le_of_ble_eq_true rfl):Go.Abs.Pure Tryz.prog f args r:=Go.Abs.Pure.of_c2 follows hf hl hb
theorem fO{f:FuncId}{F:F2}{args:List AV}{H:Hp}{nx:Nat}{K:AV→Hp→Nat→Prop}(hf:Is Tryz.prog f F)(hb:aH Tryz.prog F.body (T0 args) H nx fun e T H nx=>aQ e.ends (bl T H (fun x=>K x H nx) F.res))(hl:args.length≤F.n:=by exact Nat.le_of_ble_eq_true rfl):Go.Abs.Fn Tryz.prog f args H nx K:=Go.Abs.Fn.of_c2 follows hf hl hb
theorem qO{f:FuncId}{F:F2}{args:List AV}{r:AV}(hf:Is Tryz.prog f F)(hb:aH Tryz.prog F.body (T0 args) cz 0 fun e T H nx=>aQ e.ends (bl T H (fun x=>SnapF H x r) F.res))(hl:args.length≤F.n:=by exact Nat.le_of_ble_eq_true rfl):Go.Abs.PureF Tryz.prog f args r:=Go.Abs.PureF.of_c2 follows hf hl hb
def b3:F2:=(F2.mk 60 [RV.t 4] (ab [cO 2 (box (t 0)),cO 4 (mov a9)] ((ab [bt 13 1 2,aG 14 11 [t 13,c AV.esl],cO 15 (un UnOp.not (t 14))] (az 15 (ab [aG 16 12 [],aa 4 16] ret) skip)).seq (ab [bt 18 1 2,aG 19 13 [t 18],aa 17 19,aS 20 17 0,aS 21 17 1,aa 5 20,aa 6 21] (ab [bt 23 1 2,aG 24 14 [t 23],aa 22 24,aS 25 22 0,aS 26 22 1,aa 7 25,aa 8 26] (ab [bt 28 1 2,aa 29 1,aG 30 15 [t 28,t 29],aa 27 30,aS 31 27 0,aS 32 27 1,aa 9 31,aa 10 32] (ab [bt 34 1 2,aa 35 1,aG 36 16 [t 34,t 35],aa 33 36,aS 37 33 0,aS 38 33 1,aa 11 37,aa 12 38] (ab [aG 39 12 [],aa 40 39,am 41 40 (cM 5),am 42 40 (cM 7),am 43 40 (call (cF 17) [t 41,t 42]),cO 44 (pick (t 40) (t 43) a9),aa 45 44,am 46 45 (cM 6),am 47 45 (cM 8),am 48 45 (cB .eql (t 46) (t 47)),cO 49 (pick (t 45) (t 48) a9),aa 50 49,am 51 50 (cM 9),am 52 50 (cM 11),am 53 50 (bin BinOp.eql true false (t 51) (t 52)),cO 54 (pick (t 50) (t 53) a9),aa 55 54,am 56 55 (cM 10),am 57 55 (cM 12),am 58 55 (cB .eql (t 56) (t 57)),cO 59 (pick (t 55) (t 58) a9),aa 4 59] ret))))))))
def b7:F2:=(F2.mk 151 [RV.t 6] (ab [cO 3 (box (t 0)),cO 6 (mov a9)] ((ab [bt 19 1 3,aa 20 1,aa 21 2,cO 22 (bldS 1 2 [AV.esl] [(0,1,t 20),(1,1,t 21)]),aG 23 11 [t 19,t 22],cO 24 (un UnOp.not (t 23)),aa 25 24,bm 26 25 (ldn 1 (t 3)),bm 27 25 (call (cF 28) [t 26]),bm 28 25 (cB .neq (t 27) (cN 0)),cO 29 (pick (t 25) c9 (t 28))] (az 29 (ab [aG 30 12 [],aa 6 30] ret) skip)).seq (ab [bt 32 1 3,aa 33 1,aG 34 21 [t 32,t 33],aa 31 34,aS 35 31 0,aS 36 31 1,aS 37 31 2,aS 38 31 3,aa 7 35,aa 8 36,aa 9 37,aa 10 38] ((ab [aa 39 10,ar 40 .neq 39 0] (az 40 (ab [bt 41 1 3,aa 42 1,aG 43 25 [t 41,t 42,c AV.esl],ar 44 .neq 43 0,aa 45 44,bm 46 45 (cM 10),bm 47 45 (cB .eql (t 46) (cN 3)),cO 48 (pick (t 45) c9 (t 47)),aa 49 48,am 50 49 (call (cF 12) []),cO 51 (pick (t 49) (t 50) a9),aa 6 51] ret) skip)).seq ((ab [aa 52 9] (az 52 (ab [bt 53 1 3,aa 54 1,aa 55 7,aG 56 25 [t 53,t 54,t 55],ar 57 .neq 56 0,aa 58 57,bm 59 58 (cM 8),bm 60 58 (lenS (t 59)),bm 61 58 (cB .gtr (t 60) (cN 0)),cO 62 (pick (t 58) c9 (t 61)),aa 63 62,bm 64 63 (ldn 1 (t 3)),bm 65 63 (cM 1),bm 66 63 (cM 2),bm 67 63 (call (cF 27) [t 64,t 65,t 66]),bm 68 63 (cB .eql (t 67) (cN 0)),cO 69 (pick (t 63) c9 (t 68))] (az 69 (ab [cO 6 (mov a9)] ret) skip)) (ab [bt 70 1 3,aa 71 1,aa 72 8,aG 73 27 [t 70,t 71,t 72],ar 74 .neq 73 0,aa 75 74,bm 76 75 (cM 7),bm 77 75 (lenS (t 76)),bm 78 75 (cB .gtr (t 77) (cN 0)),cO 79 (pick (t 75) c9 (t 78)),aa 80 79,bm 81 80 (ldn 1 (t 3)),bm 82 80 (cM 1),bm 83 80 (cM 2),bm 84 80 (call (cF 25) [t 81,t 82,t 83]),bm 85 80 (cB .eql (t 84) (cN 0)),cO 86 (pick (t 80) c9 (t 85))] (az 86 (ab [cO 6 (mov a9)] ret) skip)))).seq (ab [aa 88 2,aG 89 29 [t 88],aa 87 89,aS 90 87 0,aS 91 87 1,aa 11 90,aa 12 91] ((ab [aa 92 12,ar 93 .neq 92 0] (az 93 (ab [aG 94 12 [],aa 6 94] ret) skip)).seq ((ab [bt 96 1 3,aa 97 2,aG 98 30 [t 96,t 97],aa 95 98,aS 99 95 0,aS 100 95 1,aa 13 99,aa 14 100] (ab [aa 101 14,ar 102 .neq 101 0] (az 102 (ab [aG 103 12 [],aa 6 103] ret) skip))).seq (ab [bt 105 1 3,aa 106 11,aG 107 21 [t 105,t 106],aa 104 107,aS 108 104 0,aS 109 104 1,aS 110 104 2,aS 111 104 3,aa 15 108,aa 16 109,aa 17 110,aa 18 111] (ab [aa 112 18,ar 113 .eql 112 0,aa 114 113,am 115 114 (cM 17),cO 116 (pick (t 114) (t 115) a9),aa 117 116,am 118 117 (cM 16),am 119 117 (lenS (t 118)),am 120 117 (cB .eql (t 119) (cN 0)),cO 121 (pick (t 117) (t 120) a9),aa 122 121,am 123 122 (ldn 1 (t 3)),am 124 122 (cM 11),am 125 122 (cM 15),am 126 122 (call (cF 25) [t 123,t 124,t 125]),am 127 122 (cB .eql (t 126) (cN 0)),cO 128 (pick (t 122) (t 127) a9),aa 129 128,am 130 129 (ldn 1 (t 3)),am 131 129 (cM 11),am 132 129 (cM 2),am 133 129 (call (cF 25) [t 130,t 131,t 132]),am 134 129 (cB .eql (t 133) (cN 0)),cO 135 (pick (t 129) (t 134) a9),aa 136 135,am 137 136 (cM 8),am 138 136 (lenS (t 137)),am 139 136 (cB .eql (t 138) (cN 0)),am 140 136 (cM 139),bm 141 140 (ldn 1 (t 3)),bm 142 140 (cM 11),bm 143 140 (cM 8),bm 144 140 (call (cF 27) [t 141,t 142,t 143]),bm 145 140 (cB .neq (t 144) (cN 0)),am 146 136 (pick (t 140) c9 (t 145)),cO 147 (pick (t 136) (t 146) a9),aa 148 147,am 149 148 (call (cF 12) []),cO 150 (pick (t 148) (t 149) a9),aa 6 150] ret)))))))))))
theorem is7:Is Tryz.prog 7 b7:=mkI Tryz.func7
def b11:F2:=(F2.mk 40 [RV.t 4] (ab [cO 2 (box (t 0)),cO 4 (mov a9)] ((ab [aa 10 1,bj 11 10,cO 12 (mov (cN 0))] (block 0 (ab [aV 13 .lss 12 11] ((az 13 skip (exit 0)).seq ((block 1 (ab [cO 14 (ixaS 1 (t 10) (t 12)),aF 15 14,aa 6 15] (ab [aa 16 6,aG 17 40 [t 16],cO 18 (un UnOp.not (t 17))] (az 18 (ab [cO 4 (mov a9)] ret) skip)))).seq (ops 0 [ar 19 .add 12 1,aa 12 19])))).loop)).seq (ab [cO 7 (mov (cN 0))] ((ab [bW 20 0 2,aF 21 20,bj 22 21,cO 23 (mov (cN 0))] (block 2 (ab [aV 24 .lss 23 22] ((az 24 skip (exit 2)).seq ((block 3 (ab [cO 25 (ixaS 1 (t 21) (t 23)),aF 26 25,aa 9 26] (ops 0 [aa 27 7,aa 28 9,bj 29 28,cO 30 (mn (t 29) [cN ((10))]),cO 31 (cB .shl (cN 1) (t 30)),aV 32 .add 27 31,aa 7 32]))).seq (ops 0 [ar 33 .add 23 1,aa 23 33])))).loop)).seq (ab [bt 34 1 2,aG 35 41 [t 34],aa 36 35,am 37 36 (cM 7),am 38 36 (cB .leq (t 37) (cN 400)),cO 39 (pick (t 36) (t 38) a9),aa 4 39] ret))))))
theorem MP:Is Tryz.prog 11 b11:=mkI Tryz.func11
def b12:F2:=(F2.mk 193 [RV.t 0] (ab [cO 0 (mov a9)] (ab [cO 21 (bldS 1 2 [bb] [(0,1,cN ((0))),(1,1,cN ((1)))]),aG 22 42 [t 21],cO 23 (bldS 1 2 [bb] [(0,1,cN ((0))),(1,1,cN ((2)))]),aG 24 42 [t 23],cO 25 (bldS 1 2 [bb] [(0,1,cN ((1))),(1,1,cN ((2)))]),aG 26 42 [t 25],cO 27 (bldS 1 3 [AV.esl] [(0,1,t 22),(1,1,t 24),(2,1,t 26)]),aa 1 27] (ab [aa 28 1,cO 29 (bld [AV.esl] [(0,1,t 28)]),cO 30 (bldS 1 3 [bb] [(0,1,cN ((0))),(1,1,cN ((1))),(2,1,cN ((2)))]),aG 31 42 [t 30],cO 32 (bldS 1 1 [AV.esl] [(0,1,t 31)]),cO 33 (bld [AV.esl] [(0,1,t 32)]),cO 2 (alloc (AV.agg [AV.esl])),cO 3 (alloc (AV.agg [AV.esl])),bC 1 2 29,bC 1 3 33] (ab [cO 34 (bldS 1 3 [bb] [(0,1,cN ((0))),(1,1,cN ((1))),(2,1,cN ((2)))]),aG 35 42 [t 34],cO 36 (bldS 1 3 [bb] [(0,1,cN ((0))),(1,1,cN ((1))),(2,1,cN ((3)))]),aG 37 42 [t 36],cO 38 (bldS 1 3 [bb] [(0,1,cN ((0))),(1,1,cN ((2))),(2,1,cN ((3)))]),aG 39 42 [t 38],cO 40 (bldS 1 3 [bb] [(0,1,cN ((1))),(1,1,cN ((2))),(2,1,cN ((3)))]),aG 41 42 [t 40],cO 42 (bldS 1 4 [AV.esl] [(0,1,t 35),(1,1,t 37),(2,1,t 39),(3,1,t 41)]),cO 43 (bld [AV.esl] [(0,1,t 42)]),cO 4 (alloc (AV.agg [AV.esl])),bC 1 4 43] (ab [bt 45 1 2,aG 46 13 [t 45],aa 44 46,aS 47 44 0,aS 48 44 1,aa 5 47,aa 6 48] (ab [bt 50 1 3,aG 51 13 [t 50],aa 49 51,aS 52 49 0,aS 53 49 1,aa 7 52,aa 8 53] (ab [bt 55 1 4,aG 56 13 [t 55],aa 54 56,aS 57 54 0,aS 58 54 1,aa 9 57,aa 10 58] (ab [bt 60 1 2,aG 61 18 ([t 60,cN ((1))]),aa 59 61,aS 62 59 0,aS 63 59 1,aa 11 62,aa 12 63] ((ab [aa 64 6,aa 65 8,aV 66 .add 64 65,aa 67 10,aV 68 .add 66 67,aa 69 12,aV 70 .add 68 69,ar 71 .neq 70 0,aa 72 71,bm 73 72 (cM 5),bm 74 72 (bldS 1 2 [bb] [(0,1,cN ((1))),(1,1,cN ((1)))]),bm 75 72 (call (cF 17) [t 73,t 74]),bm 76 72 (un UnOp.not (t 75)),cO 77 (pick (t 72) c9 (t 76)),aa 78 77,bm 79 78 (cM 7),bm 80 78 (bldS 1 3 [bb] [(0,1,cN ((1))),(1,1,cN ((0))),(2,1,cN ((0)))]),bm 81 78 (call (cF 17) [t 79,t 80]),bm 82 78 (un UnOp.not (t 81)),cO 83 (pick (t 78) c9 (t 82)),aa 84 83,bm 85 84 (cM 9),bm 86 84 (bldS 1 3 [bb] [(0,1,cN ((1))),(1,1,cN ((0))),(2,1,cN ((1)))]),bm 87 84 (call (cF 17) [t 85,t 86]),bm 88 84 (un UnOp.not (t 87)),cO 89 (pick (t 84) c9 (t 88)),aa 90 89,bm 91 90 (cM 11),bm 92 90 (lenS (t 91)),bm 93 90 (cB .neq (t 92) (cN 1)),cO 94 (pick (t 90) c9 (t 93)),aa 95 94,bm 96 95 (cM 11),bm 97 95 (ixaS 1 (t 96) (cN 0)),bm 98 95 (cD 97),bm 99 95 (cM 1),bm 100 95 (call (cF 23) [t 98,t 99]),bm 101 95 (un UnOp.not (t 100)),cO 102 (pick (t 95) c9 (t 101))] (az 102 (ab [cO 0 (mov a9)] ret) skip)).seq (ab [bt 104 1 2,aa 105 1,aG 106 21 [t 104,t 105],aa 103 106,aS 107 103 0,aS 108 103 1,aS 109 103 2,aS 110 103 3,aa 13 107,aa 14 108,aa 15 109,aa 6 110] (ab [bt 112 1 3,aa 113 1,aG 114 21 [t 112,t 113],aa 111 114,aS 115 111 0,aS 116 111 1,aS 117 111 2,aS 118 111 3,aa 16 115,aa 17 116,aa 18 117,aa 8 118] (ab [bt 120 1 4,aG 121 15 ([t 120,cN ((1))]),aa 119 121,aS 122 119 0,aS 123 119 1,aa 19 122,aa 10 123] (ab [bt 125 1 4,aG 126 15 ([t 125,cN ((2))]),aa 124 126,aS 127 124 0,aS 128 124 1,aa 20 127,aa 12 128] ((ab [aa 129 6,aa 130 8,aV 131 .add 129 130,aa 132 10,aV 133 .add 131 132,aa 134 12,aV 135 .add 133 134,ar 136 .neq 135 0,aa 137 136,bm 138 137 (cM 15),cO 139 (pick (t 137) c9 (t 138)),aa 140 139,bm 141 140 (cM 18),bm 142 140 (un UnOp.not (t 141)),cO 143 (pick (t 140) c9 (t 142)),aa 144 143,bm 145 144 (cM 19),bm 146 144 (un UnOp.not (t 145)),cO 147 (pick (t 144) c9 (t 146)),aa 148 147,bm 149 148 (cM 20),cO 150 (pick (t 148) c9 (t 149)),aa 151 150,bm 152 151 (cM 16),bm 153 151 (bldS 1 3 [bb] [(0,1,cN ((0))),(1,1,cN ((1))),(2,1,cN ((2)))]),bm 154 151 (call (cF 42) [t 153]),bm 155 151 (bldS 1 1 [AV.esl] [(0,1,t 154)]),bm 156 151 (call (cF 23) [t 152,t 155]),bm 157 151 (un UnOp.not (t 156)),cO 158 (pick (t 151) c9 (t 157))] (az 158 (ab [cO 0 (mov a9)] ret) skip)).seq ((mix 1 [bt 159 1 2,aa 160 1,aa 161 14,aG 162 27 [t 159,t 160,t 161],ar 163 .eql 162 0,aa 164 163,am 165 164 (ldn 1 (t 2)),am 166 164 (cM 1),am 167 164 (cM 1),am 168 164 (sls 1 (t 167) (some (cN 2)) none none),am 169 164 (call (cF 27) [t 165,t 166,t 168]),am 170 164 (cB .eql (t 169) (cN 0)),cO 171 (pick (t 164) (t 170) a9),aa 172 171,am 173 172 (ldn 1 (t 3)),am 174 172 (cM 1),am 175 172 (cM 1),am 176 172 (sls 1 (t 175) (some (cN 2)) none none),am 177 172 (call (cF 27) [t 173,t 174,t 176]),am 178 172 (cB .eql (t 177) (cN 18)),cO 179 (pick (t 172) (t 178) a9),aa 180 179,am 181 180 (ldn 1 (t 3)),am 182 180 (cM 1),am 183 180 (cM 16),am 184 180 (call (cF 25) [t 181,t 182,t 183]),am 185 180 (cB .eql (t 184) (cN 0)),cO 186 (pick (t 180) (t 185) a9),aa 187 186,am 188 187 (ldn 1 (t 2)),am 189 187 (cM 1),am 190 187 (call (cF 25) [t 188,t 189,c AV.esl]),am 191 187 (cB .eql (t 190) (cN 18)),cO 192 (pick (t 187) (t 191) a9),aa 0 192] [1,2,0,3,4,5,7,8,9,6,10,11,12,13,15,16,17,14,18,19,20,21,23,24,22,25,26,27,28,30,29,31,32,33,34]).seq ret))))))))))))))))
theorem Nf:Is Tryz.prog 12 b12:=mkI Tryz.func12
def b13:F2:=(F2.mk 14 [RV.t 2,RV.t 3] (ab [cO 1 (box (t 0)),cO 2 (mov (c AV.esl)),cO 3 (mov (cN 0))] ((ab [bt 5 1 1,aG 6 43 [t 5],aa 4 6] (ab [aa 7 4,ar 8 .neq 7 0] (az 8 (ab [aa 9 4,cO 2 (mov (c AV.esl)),aa 3 9] ret) skip))).seq (ab [bt 10 1 1,aG 11 44 [t 10],aS 12 11 0,aS 13 11 1,aa 2 12,aa 3 13] ret))))
theorem MM:Is Tryz.prog 13 b13:=mkI Tryz.func13
def b15:F2:=(F2.mk 47 [RV.t 4,RV.t 5] (ab [cO 2 (box (t 0)),cO 4 (mov a9),cO 5 (mov (cN 0))] ((ab [bt 9 1 2,aG 10 43 [t 9],aa 6 10] (ab [aa 11 6,ar 12 .neq 11 0] (az 12 (ab [aa 13 6,cO 4 (mov a9),aa 5 13] ret) skip))).seq ((ab [aa 14 1,cO 15 (cB .lss (t 14) (cN ((-1)))),aa 16 15,bm 17 16 (cM 1),bm 18 16 (cB .geq (t 17) (cN 8)),cO 19 (pick (t 16) c9 (t 18))] (az 19 (ab [cO 4 (mov a9),cO 5 (mov (cN 2))] ret) skip)).seq (ab [bt 21 1 2,aG 22 44 [t 21],aa 20 22,aS 23 20 0,aS 24 20 1,aa 7 23,aa 8 24] ((ab [aa 25 8,ar 26 .neq 25 0,aa 27 26,bm 28 27 (cM 7),bm 29 27 (lenS (t 28)),bm 30 27 (cB .eql (t 29) (cN 0)),cO 31 (pick (t 27) c9 (t 30))] (az 31 (ab [aa 32 8,cO 4 (mov a9),aa 5 32] ret) skip)).seq (ab [aa 33 7,cO 34 (ixaS 1 (t 33) (cN 0)),aF 35 34,ar 36 .sub 35 1,cO 37 (ixaS 1 (t 33) (cN 0)),bC 1 37 36] (ab [aa 38 7,aa 39 1,ar 40 .add 39 1,aa 41 7,bj 42 41,cO 43 (mn (t 40) [t 42]),cO 44 (sls 1 (t 38) none (some (t 43)) none),aG 45 48 ([t 44,c (AV.func 49 [])]),cO 46 (un UnOp.not (t 45)),aa 4 46,cO 5 (mov (cN 0))] ret))))))))
theorem ML:Is Tryz.prog 15 b15:=mkI Tryz.func15
def b17:F2:=(F2.mk 26 [RV.t 4] (ab [cO 4 (mov a9)] ((ab [aa 6 0,bj 7 6,aa 8 1,bj 9 8,aV 10 .neq 7 9] (az 10 (ab [cO 4 (mov a9)] ret) skip)).seq ((ab [aa 11 0,bj 12 11,cO 13 (mov (cN 0))] (block 0 (ab [aV 14 .lss 13 12] ((az 14 skip (exit 0)).seq ((block 1 (ab [aa 15 13,aa 5 15] ((ops 1 [aa 16 0,aa 17 5,cO 18 (ixaS 1 (t 16) (t 17)),aF 19 18,aa 20 1,aa 21 5,cO 22 (ixaS 1 (t 20) (t 21)),aF 23 22,aV 24 .neq 19 23]).seq (az 24 (ab [cO 4 (mov a9)] ret) skip)))).seq (ops 0 [ar 25 .add 13 1,aa 13 25])))).loop)).seq (ab [cO 4 (mov c9)] ret)))))
theorem MS:Is Tryz.prog 17 b17:=mkI Tryz.func17
def b18:F2:=(F2.mk 46 [RV.c1 4,RV.c1 5] (ab [cO 2 (box (t 0)),cO 3 (box (t 1)),cO 4 (alloc AV.esl),cO 5 (alloc (bb))] ((ab [bt 12 1 2,aG 13 43 [t 12],aa 6 13] (ab [aa 14 6,ar 15 .neq 14 0] (az 15 (ab [aa 16 6,Op2.mk none none (Ins.st 1 (t 4) (c AV.esl)),bC 1 5 16] ret) skip))).seq ((ab [aF 17 3,ar 18 .lss 17 0,aa 19 18,bm 20 19 (cD 3),bm 21 19 (cB .geq (t 20) (cN 8)),cO 22 (pick (t 19) c9 (t 21))] (az 22 (ab [Op2.mk none none (Ins.st 1 (t 4) (c AV.esl)),Op2.mk none none (Ins.st 1 (t 5) (cN 2))] ret) skip)).seq (ab [cO 7 (alloc AV.esl)] ((ab [bt 23 1 2,aF 24 3,aG 25 50 [t 23,t 24]] (block 0 (rangeF (t 25) [26,27] (ab [aa 8 26] (ops 0 [aa 9 27])) (block 1 ((ab [aa 28 9,ar 29 .neq 28 0] (az 29 (ab [aa 30 9,Op2.mk none none (Ins.st 1 (t 4) (c AV.esl)),bC 1 5 30] ret) skip)).seq (ab [bt 32 1 2,aF 33 3,aa 34 8,aG 35 34 [t 32,t 33,t 34],aa 31 35,aS 36 31 0,aS 37 31 1,aa 10 36,aa 11 37] ((ab [aa 38 11,ar 39 .neq 38 0] (az 39 (ab [aa 40 11,Op2.mk none none (Ins.st 1 (t 4) (c AV.esl)),bC 1 5 40] ret) skip)).seq (ops 0 [aF 41 7,aa 42 10,cO 43 (bldS 1 1 [AV.esl] [(0,1,t 42)]),cO 44 (app 1 24 (t 41) (t 43)),bC 1 7 44])))))))).seq (ab [aF 45 7,bC 1 4 45,Op2.mk none none (Ins.st 1 (t 5) (cN 0))] ret)))))))
theorem Nm:Is Tryz.prog 18 b18:=mkI Tryz.func18
def b21:F2:=(F2.mk 84 [RV.t 4,RV.t 5,RV.t 6,RV.t 7] (ab [cO 2 (box (t 0)),cO 4 (mov (c AV.esl)),cO 5 (mov (c AV.esl)),cO 6 (mov a9),cO 7 (mov (cN 0))] ((ab [bt 19 1 2,aG 20 43 [t 19],aa 8 20] (ab [aa 21 8,ar 22 .neq 21 0] (az 22 (ab [aa 23 8,cO 4 (mov (c AV.esl)),cO 5 (mov (c AV.esl)),cO 6 (mov a9),aa 7 23] ret) skip))).seq (ab [bt 25 1 2,aa 26 1,aG 27 57 [t 25,t 26],aa 24 27,aS 28 24 0,aS 29 24 1,aa 9 28,aa 10 29] ((ab [aa 30 10,ar 31 .neq 30 0] (az 31 (ab [aa 32 10,cO 4 (mov (c AV.esl)),cO 5 (mov (c AV.esl)),cO 6 (mov a9),aa 7 32] ret) skip)).seq ((ab [aa 33 1,bj 34 33,ar 35 .eql 34 0] (az 35 (ab [cO 4 (mov (c AV.esl)),cO 5 (mov (c AV.esl)),cO 6 (mov c9),cO 7 (mov (cN 0))] ret) skip)).seq (ab [aa 36 1,cO 37 (ixaS 1 (t 36) (cN 0)),aF 38 37,bj 39 38,ar 40 .sub 39 1,aa 11 40] (ab [bt 42 1 2,aa 43 11,ar 44 .add 43 1,aG 45 58 [t 42,t 44],aa 41 45,aS 46 41 0,aS 47 41 1,cO 12 (alloc (AV.agg [bb,AV.esl])),bC 2 12 46,aa 10 47] ((ab [aa 48 10,ar 49 .neq 48 0] (az 49 (ab [aa 50 10,cO 4 (mov (c AV.esl)),cO 5 (mov (c AV.esl)),cO 6 (mov a9),aa 7 50] ret) skip)).seq (ab [bt 52 2 12,aa 53 9,aG 54 59 [t 52,t 53],aa 51 54,aS 55 51 0,aS 56 51 1,aS 57 51 2,aS 58 51 3,aa 13 55,aa 14 56,aa 15 57,aa 10 58] ((ab [aa 59 10,ar 60 .neq 59 0] (az 60 (ab [aa 61 10,cO 4 (mov (c AV.esl)),cO 5 (mov (c AV.esl)),cO 6 (mov a9),aa 7 61] ret) skip)).seq ((ab [aa 62 15] (az 62 (ab [bt 64 1 2,aa 65 11,ar 66 .add 65 1,aa 67 13,aG 68 34 [t 64,t 66,t 67],aa 63 68,aS 69 63 0,aS 70 63 1,aa 16 69,aa 17 70] (ab [aa 71 16,aa 72 17,ar 73 .eql 72 0,aa 74 17,aa 4 71,cO 5 (mov (c AV.esl)),aa 6 73,aa 7 74] ret)) skip)).seq (ab [bt 76 1 2,aa 77 11,aa 78 14,aG 79 34 [t 76,t 77,t 78],aa 75 79,aS 80 75 0,aS 81 75 1,aa 18 80,aa 10 81] (ab [aa 82 18,aa 83 10,cO 4 (mov (c AV.esl)),aa 5 82,cO 6 (mov a9),aa 7 83] ret))))))))))))))
theorem Mr:Is Tryz.prog 21 b21:=mkI Tryz.func21
def b23:F2:=(F2.mk 27 [RV.t 4] (ab [cO 4 (mov a9)] ((ab [aa 6 0,bj 7 6,aa 8 1,bj 9 8,aV 10 .neq 7 9] (az 10 (ab [cO 4 (mov a9)] ret) skip)).seq ((ab [cO 5 (mov (cN 0))] (block 0 ((ab [aa 11 5,aa 12 0,bj 13 12,aV 14 .lss 11 13] (az 14 skip (exit 0))).seq ((block 1 ((mixS 1 [aa 17 0,aa 18 5,cO 19 (ixaS 1 (t 17) (t 18)),aF 20 19,aa 21 1,aa 22 5,cO 23 (ixaS 1 (t 21) (t 22)),aF 24 23,aG 25 63 [t 20,t 24],cO 26 (un UnOp.not (t 25))] [(0,0),(1,0),(2,0),(3,0),(4,0),(5,0),(6,0),(7,0),(8,2),(9,0)]).seq (az 26 (ab [cO 4 (mov a9)] ret) skip))).seq (ops 0 [aa 15 5,ar 16 .add 15 1,aa 5 16]))).loop)).seq (ab [cO 4 (mov c9)] ret)))))
theorem M9:Is Tryz.prog 23 b23:=mkI Tryz.func23
def b25:F2:=(F2.mk 55 [RV.t 6] (ab [cO 3 (box (t 0)),cO 6 (mov (cN 0))] ((ab [bt 13 1 3,aa 14 1,aa 15 2,aG 16 67 [t 13,t 14,t 15],aa 12 16,aS 17 12 0,aS 18 12 1,aS 19 12 2,aa 7 17,aa 8 18,aa 9 19] (ab [aa 20 9,ar 21 .neq 20 0] (az 21 (ab [aa 22 9,aa 6 22] ret) skip))).seq (((ops 1 [aa 23 1,bj 24 23,ar 25 .gtr 24 0,aa 26 25,am 27 26 (cM 2),am 28 26 (lenS (t 27)),am 29 26 (cB .gtr (t 28) (cN 0)),cO 30 (pick (t 26) (t 29) a9),aa 31 30,am 32 31 (cM 2),am 33 31 (ixaS 1 (t 32) (cN 0)),am 34 31 (cD 33),am 35 31 (lenS (t 34)),am 36 31 (cM 1),am 37 31 (ixaS 1 (t 36) (cN 0)),am 38 31 (cD 37),am 39 31 (lenS (t 38)),am 40 31 (cB .add (t 39) (cN 1)),am 41 31 (cB .neq (t 35) (t 40)),cO 42 (pick (t 31) (t 41) a9)]).seq (az 42 (ab [cO 6 (mov (cN 15))] ret) skip)).seq (ab [aa 44 2,aG 45 29 [t 44],aa 43 45,aS 46 43 0,aS 47 43 1,aa 10 46,aa 11 47] ((ab [aa 48 11,ar 49 .neq 48 0] (az 49 (ab [aa 50 11,aa 6 50] ret) skip)).seq ((ab [aa 51 10,aa 52 1,aG 53 68 ([t 51,t 52,c (AV.func 69 [])]),cO 54 (un UnOp.not (t 53))] (az 54 (ab [cO 6 (mov (cN 18))] ret) skip)).seq (ab [cO 6 (mov (cN 0))] ret))))))))
theorem MW:Is Tryz.prog 25 b25:=mkI Tryz.func25
def b27:F2:=(F2.mk 55 [RV.t 6] (ab [cO 3 (box (t 0)),cO 6 (mov (cN 0))] (ab [bt 12 1 3,aa 13 1,aa 14 2,aG 15 67 [t 12,t 13,t 14],aa 11 15,aS 16 11 0,aS 17 11 1,aS 18 11 2,aa 7 16,aa 8 17,aa 9 18] ((ab [aa 19 9,ar 20 .neq 19 0] (az 20 (ab [aa 21 9,aa 6 21] ret) skip)).seq ((ab [aa 22 1,bj 23 22,ar 24 .eql 23 0,aa 25 24,bm 26 25 (cM 2),bm 27 25 (lenS (t 26)),bm 28 25 (cB .eql (t 27) (cN 0)),cO 29 (pick (t 25) c9 (t 28))] (az 29 (ab [cO 6 (mov (cN 18))] ret) skip)).seq (((ops 1 [aa 30 1,cO 31 (ixaS 1 (t 30) (cN 0)),aF 32 31,bj 33 32,aa 34 2,cO 35 (ixaS 1 (t 34) (cN 0)),aF 36 35,bj 37 36,aV 38 .neq 33 37]).seq (az 38 (ab [cO 6 (mov (cN 15))] ret) skip)).seq ((ops 1 [bt 40 1 3,aa 41 1,cO 42 (ixaS 1 (t 41) (cN 0)),aF 43 42,bj 44 43,aG 45 58 [t 40,t 44],aa 39 45,aS 46 39 0,aS 47 39 1,cO 10 (alloc (AV.agg [bb,AV.esl])),bC 2 10 46,aa 9 47]).seq ((ab [aa 48 9,ar 49 .neq 48 0] (az 49 (ab [aa 50 9,aa 6 50] ret) skip)).seq (ab [bt 51 2 10,aa 52 7,aa 53 8,aG 54 71 [t 51,t 52,t 53],aa 6 54] ret)))))))))
theorem Ms:Is Tryz.prog 27 b27:=mkI Tryz.func27
def b28:F2:=(F2.mk 68 [RV.t 2] (ab [cO 1 (box (t 0)),cO 2 (mov (cN 0))] (ab [bW 8 0 1,aF 9 8,aa 3 9] ((ab [aa 10 3,bj 11 10,ar 12 .gtr 11 4096] (az 12 (ab [cO 2 (mov (cN 5))] ret) skip)).seq ((ab [cO 4 (mov (cN 0))] (block 0 ((ab [aa 13 4,aa 14 3,bj 15 14,aV 16 .lss 13 15] (az 16 skip (exit 0))).seq ((block 1 ((ab [aa 19 3,aa 20 4,cO 21 (ixaS 1 (t 19) (t 20)),aF 22 21,aG 23 72 [t 22],aa 5 23] (ab [aa 24 5,ar 25 .neq 24 0] (az 25 (ab [aa 26 5,aa 2 26] ret) skip))).seq ((mixS 1 [aa 27 4,ar 28 .gtr 27 0,aa 29 28,am 30 29 (cM 3),am 31 29 (cM 4),am 32 29 (cB .sub (t 31) (cN 1)),am 33 29 (ixaS 1 (t 30) (t 32)),am 34 29 (cD 33),am 35 29 (cM 3),am 36 29 (cM 4),am 37 29 (ixaS 1 (t 35) (t 36)),am 38 29 (cD 37),am 39 29 (call (cF 73) [t 34,t 38]),am 40 29 (cB .geq (t 39) (cN 0)),cO 41 (pick (t 29) (t 40) a9)] [(0,0),(1,0),(2,0),(3,0),(4,0),(5,0),(6,0),(7,0),(8,0),(9,0),(10,0),(11,0),(12,2),(13,0),(14,0)]).seq (az 41 (ab [cO 2 (mov (cN 14))] ret) skip)))).seq (ops 0 [aa 17 4,ar 18 .add 17 1,aa 4 18]))).loop)).seq ((ab [cO 6 (mov (cN 0))] (block 2 ((ab [aa 42 6,aa 43 3,bj 44 43,aV 45 .lss 42 44] (az 45 skip (exit 2))).seq ((block 3 (ab [cO 7 (mov (cN 0))] (block 4 ((ab [aa 48 7,aa 49 3,bj 50 49,aV 51 .lss 48 50] (az 51 skip (exit 4))).seq ((block 5 ((mixS 1 [aa 54 6,aa 55 7,aV 56 .neq 54 55,aa 57 56,am 58 57 (cM 3),am 59 57 (cM 6),am 60 57 (ixaS 1 (t 58) (t 59)),am 61 57 (cD 60),am 62 57 (cM 3),am 63 57 (cM 7),am 64 57 (ixaS 1 (t 62) (t 63)),am 65 57 (cD 64),am 66 57 (call (cF 74) [t 61,t 65]),cO 67 (pick (t 57) (t 66) a9)] [(0,0),(1,0),(2,0),(3,0),(4,0),(5,0),(6,0),(7,0),(8,0),(9,0),(10,0),(11,0),(12,2),(13,0)]).seq (az 67 (ab [cO 2 (mov (cN 7))] ret) skip))).seq (ops 0 [aa 52 7,ar 53 .add 52 1,aa 7 53]))).loop))).seq (ops 0 [aa 46 6,ar 47 .add 46 1,aa 6 47]))).loop)).seq (ab [cO 2 (mov (cN 0))] ret)))))))
theorem Mp:Is Tryz.prog 28 b28:=mkI Tryz.func28
def b29:F2:=(F2.mk 15 [RV.t 2,RV.t 3] (ab [cO 2 (mov (c AV.esl)),cO 3 (mov (cN 0))] ((ab [aa 5 0,aG 6 75 [t 5],aa 4 6] (ab [aa 7 4,ar 8 .neq 7 0] (az 8 (ab [aa 9 4,cO 2 (mov (c AV.esl)),aa 3 9] ret) skip))).seq (ab [aa 10 0,aG 11 77 [t 10],aG 12 76 [t 11],aS 13 12 0,aS 14 12 1,aa 2 13,aa 3 14] ret))))
theorem Mz:Is Tryz.prog 29 b29:=mkI Tryz.func29
def b30:F2:=(F2.mk 60 [RV.t 4,RV.t 5] (ab [cO 2 (box (t 0)),cO 4 (mov (c AV.esl)),cO 5 (mov (cN 0))] ((ab [bt 15 1 2,aG 16 78 [t 15],aa 6 16] (ab [aa 17 6,ar 18 .neq 17 0] (az 18 (ab [aa 19 6,cO 4 (mov (c AV.esl)),aa 5 19] ret) skip))).seq ((ab [aa 20 1,aG 21 75 [t 20],aa 7 21] (ab [aa 22 7,ar 23 .neq 22 0] (az 23 (ab [aa 24 7,cO 4 (mov (c AV.esl)),aa 5 24] ret) skip))).seq ((ab [aa 25 1,bj 26 25,ar 27 .eql 26 0] (az 27 (ab [cO 4 (mov (c AV.esl)),cO 5 (mov (cN 0))] ret) skip)).seq ((mixS 1 [bt 29 1 2,aa 30 1,cO 31 (ixaS 1 (t 30) (cN 0)),aF 32 31,bj 33 32,aG 34 79 [t 29,t 33],aa 28 34,aS 35 28 0,aS 36 28 1,aa 8 35,aa 9 36] [(0,0),(1,0),(2,0),(3,0),(4,0),(5,2),(6,0),(7,0),(8,0),(9,0),(10,0)]).seq ((ab [aa 37 9,ar 38 .neq 37 0] (az 38 (ab [aa 39 9,cO 4 (mov (c AV.esl)),aa 5 39] ret) skip)).seq (ab [cO 10 (mov (c AV.esl))] ((ab [aa 40 1,bj 41 40,cO 42 (mov (cN 0))] (block 0 (ab [aV 43 .lss 42 41] ((az 43 skip (exit 0)).seq ((block 1 (ab [cO 44 (ixaS 1 (t 40) (t 42)),aF 45 44,aa 12 45] (ab [aa 47 8,aa 48 12,aG 49 80 [t 47,t 48],aa 46 49,aS 50 46 0,aS 51 46 1,aa 13 50,aa 14 51] ((ab [aa 52 14,cO 53 (un UnOp.not (t 52))] (az 53 (ab [cO 4 (mov (c AV.esl)),cO 5 (mov (cN 6))] ret) skip)).seq (ops 0 [aa 54 10,aa 55 13,cO 56 (bldS 1 1 [bb] [(0,1,t 55)]),cO 57 (app 1 8 (t 54) (t 56)),aa 10 57]))))).seq (ops 0 [ar 58 .add 42 1,aa 42 58])))).loop)).seq (ab [aa 59 10,aa 4 59,cO 5 (mov (cN 0))] ret))))))))))
theorem M3:Is Tryz.prog 30 b30:=mkI Tryz.func30
def b33:F2:=(F2.mk 14 [RV.t 2,RV.t 3] (ab [cO 2 (mov a9),cO 3 (mov (cN 0))] ((ab [aa 5 0,aG 6 75 [t 5],aa 4 6] (ab [aa 7 4,ar 8 .neq 7 0] (az 8 (ab [aa 9 4,cO 2 (mov a9),aa 3 9] ret) skip))).seq (ab [aa 10 0,aG 11 77 [t 10],bj 12 11,ar 13 .eql 12 0,aa 2 13,cO 3 (mov (cN 0))] ret))))
theorem Np:Is Tryz.prog 33 b33:=mkI Tryz.func33
def b34:F2:=(F2.mk 72 [RV.t 6,RV.t 7] (ab [cO 3 (box (t 0)),cO 6 (mov (c AV.esl)),cO 7 (mov (cN 0))] ((ab [bt 14 1 3,aG 15 78 [t 14],aa 8 15] (ab [aa 16 8,ar 17 .neq 16 0] (az 17 (ab [aa 18 8,cO 6 (mov (c AV.esl)),aa 7 18] ret) skip))).seq ((ab [aa 19 1,ar 20 .lss 19 0,aa 21 20,bm 22 21 (cM 1),bm 23 21 (cB .geq (t 22) (cN 8)),cO 24 (pick (t 21) c9 (t 23))] (az 24 (ab [cO 6 (mov (c AV.esl)),cO 7 (mov (cN 2))] ret) skip)).seq (ab [bt 26 1 3,aa 27 1,aG 28 83 [t 26,t 27],aa 25 28,aS 29 25 0,aS 30 25 1,aa 9 29,aa 10 30] ((ab [aa 31 10,ar 32 .neq 31 0] (az 32 (ab [aa 33 10,cO 6 (mov (c AV.esl)),aa 7 33] ret) skip)).seq (ab [cO 11 (mov (c AV.esl))] ((ab [aa 34 2,bj 35 34,cO 36 (mov (cN 0))] (block 0 (ab [aV 37 .lss 36 35] ((az 37 skip (exit 0)).seq ((block 1 (ab [aa 38 36,cO 39 (ixaS 1 (t 34) (t 36)),aF 40 39,aa 12 38,aa 13 40] ((block 2 (ab [aa 42 13,ar 43 .lss 42 0,aa 44 43,bm 45 44 (cM 13),bm 46 44 (cM 9),bm 47 44 (lenS (t 46)),bm 48 44 (cB .geq (t 45) (t 47)),cO 49 (pick (t 44) c9 (t 48)),aa 41 49] (az 41 (ab [cO 6 (mov (c AV.esl)),cO 7 (mov (cN 2))] ret) (ab [aa 51 12,ar 52 .gtr 51 0,aa 53 52,am 54 53 (cM 13),am 55 53 (cM 2),am 56 53 (cM 12),am 57 53 (cB .sub (t 56) (cN 1)),am 58 53 (ixaS 1 (t 55) (t 57)),am 59 53 (cD 58),am 60 53 (cB .leq (t 54) (t 59)),cO 61 (pick (t 53) (t 60) a9),aa 50 61] (az 50 (ab [cO 6 (mov (c AV.esl)),cO 7 (mov (cN 14))] ret) skip))))).seq (ops 0 [aa 62 11,aa 63 9,aa 64 13,cO 65 (ixaS 1 (t 63) (t 64)),aF 66 65,cO 67 (bldS 1 1 [AV.esl] [(0,1,t 66)]),cO 68 (app 1 24 (t 62) (t 67)),aa 11 68])))).seq (ops 0 [ar 69 .add 36 1,aa 36 69])))).loop)).seq (ab [aa 70 11,aG 71 84 [t 70],aa 6 71,cO 7 (mov (cN 0))] ret)))))))))
theorem My:Is Tryz.prog 34 b34:=mkI Tryz.func34
def b37:F2:=(F2.mk 40 [RV.t 2,RV.t 3] (ab [cO 1 (box (t 0)),cO 2 (mov (cN 0)),cO 3 (mov (cN 0))] ((ab [bt 9 1 1,aG 10 78 [t 9],aa 4 10] (ab [aa 11 4,ar 12 .neq 11 0] (az 12 (ab [aa 13 4,cO 2 (mov (cN 0)),aa 3 13] ret) skip))).seq (ab [cO 5 (mov (cN 0))] ((ab [cO 6 (mov (cN 1))] (block 0 ((ab [aa 14 6,ar 15 .leq 14 8] (az 15 skip (exit 0))).seq ((block 1 (ab [bW 19 0 1,aF 20 19,aa 21 6,aG 22 87 [t 20,t 21],aa 18 22,aS 23 18 0,aS 24 18 1,aa 7 23,aa 8 24] ((ab [aa 25 8,ar 26 .neq 25 0] (az 26 (ab [aa 27 8,cO 2 (mov (cN 0)),aa 3 27] ret) skip)).seq (ab [aa 28 6,ar 29 .rem 28 2,ar 30 .eql 29 1] (az 30 (ops 0 [aa 31 5,aa 32 7,bj 33 32,aV 34 .add 31 33,aa 5 34]) (ops 0 [aa 35 5,aa 36 7,bj 37 36,aV 38 .sub 35 37,aa 5 38])))))).seq (ops 0 [aa 16 6,ar 17 .add 16 1,aa 6 17]))).loop)).seq (ab [aa 39 5,aa 2 39,cO 3 (mov (cN 0))] ret))))))
theorem Kw:Is Tryz.prog 37 b37:=mkI Tryz.func37
def b40:F2:=(F2.mk 28 [RV.t 2] (ab [cO 2 (mov a9)] ((ab [cO 3 (mov (cN 0))] (block 0 ((ab [aa 4 3,aa 5 0,bj 6 5,aV 7 .lss 4 6,aa 8 7,am 9 8 (cM 3),am 10 8 (cB .lss (t 9) (cN 50)),cO 11 (pick (t 8) (t 10) a9)] (az 11 skip (exit 0))).seq ((block 1 (ab [aa 14 0,aa 15 3,cO 16 (ixaS 1 (t 14) (t 15)),aF 17 16,bj 18 17,ar 19 .gtr 18 10] (az 19 (ab [cO 2 (mov a9)] ret) skip))).seq (ops 0 [aa 12 3,ar 13 .add 12 1,aa 3 13]))).loop)).seq (ab [aa 20 0,bj 21 20,ar 22 .leq 21 40,aa 23 22,bm 24 23 (cM 0),bm 25 23 (lenS (t 24)),bm 26 23 (cB .gtr (t 25) (cN 4096)),cO 27 (pick (t 23) c9 (t 26)),aa 2 27] ret))))
theorem MO:Is Tryz.prog 40 b40:=mkI Tryz.func40
def b41:F2:=(F2.mk 6 [RV.t 2] (ab [cO 1 (box (t 0)),cO 2 (mov a9)] (ab [bW 3 0 1,aF 4 3,aG 5 95 [t 4],aa 2 5] ret)))
theorem Na:Is Tryz.prog 41 b41:=mkI Tryz.func41
def b42:F2:=(F2.mk 19 [RV.t 2] (ab [cO 2 (mov (c AV.esl))] (ab [cO 3 (mov (c AV.esl))] ((ab [aa 6 0,bj 7 6,cO 8 (mov (cN 0))] (block 0 (ab [aV 9 .lss 8 7] ((az 9 skip (exit 0)).seq ((block 1 (ab [cO 10 (ixaS 1 (t 6) (t 8)),aF 11 10,aa 5 11] (ops 0 [aa 12 3,aa 13 5,cO 14 (bld [bb,bb] [(0,1,t 13)]),cO 15 (bldS 2 1 [bb,bb] [(0,2,t 14)]),cO 16 (app 2 16 (t 12) (t 15)),aa 3 16]))).seq (ops 0 [ar 17 .add 8 1,aa 8 17])))).loop)).seq (ab [aa 18 3,aa 2 18] ret)))))
theorem Ni:Is Tryz.prog 42 b42:=mkI Tryz.func42
def b43:F2:=(F2.mk 11 [RV.t 2] (ab [cO 1 (box (t 0)),cO 2 (mov (cN 0))] (ab [bt 6 1 1,aG 7 37 [t 6],aa 5 7,aS 8 5 0,aS 9 5 1,aa 3 8,aa 4 9] (ab [aa 10 4,aa 2 10] ret))))
theorem Ix:Is Tryz.prog 43 b43:=mkI Tryz.func43
def b44:F2:=(F2.mk 79 [RV.t 2,RV.t 3] (ab [cO 1 (box (t 0)),cO 2 (mov (c AV.esl)),cO 3 (mov (cN 0))] (ab [bt 16 1 1,aG 17 96 [t 16],aa 15 17,aS 18 15 0,aS 19 15 1,aS 20 15 2,aa 4 18,aa 5 19,aa 6 20] ((ab [aa 21 6,ar 22 .neq 21 0] (az 22 (ab [aa 23 6,cO 2 (mov (c AV.esl)),aa 3 23] ret) skip)).seq (ab [cO 24 (mkm none),aa 7 24] ((ab [aa 25 4,ar 26 .add 25 2,cO 27 (mov (cN 0))] (block 0 (ab [aV 28 .lss 27 26] ((az 28 skip (exit 0)).seq ((block 1 (ab [aa 29 27,aa 8 29] (ab [bt 31 1 1,aa 32 8,aG 33 58 [t 31,t 32],aa 30 33,aS 34 30 0,aS 35 30 1,cO 9 (alloc (AV.agg [bb,AV.esl])),bC 2 9 34,aa 10 35] ((ab [aa 36 10,ar 37 .neq 36 0] (az 37 (ab [aa 38 10,cO 2 (mov (c AV.esl)),aa 3 38] ret) skip)).seq (ab [aa 40 7,aa 41 8,bt 42 2 9,aG 43 97 [t 42],aa 39 43,aS 44 39 0,aS 45 39 1,Op2.mk none none (mput (one int) (t 40) (t 41) (t 44)),aa 10 45] (ab [aa 46 10,ar 47 .neq 46 0] (az 47 (ab [aa 48 10,cO 2 (mov (c AV.esl)),aa 3 48] ret) skip))))))).seq (ops 0 [ar 49 .add 27 1,aa 27 49])))).loop)).seq (ab [cO 11 (mov (c AV.esl))] ((ab [aa 50 4,ar 51 .add 50 1,cO 52 (mov (cN 0))] (block 2 (ab [aV 53 .lss 52 51] ((az 53 skip (exit 2)).seq ((block 3 (ab [aa 54 52,aa 12 54] (ab [bt 56 1 1,aa 57 12,aG 58 98 [t 56,t 57],aa 55 58,aS 59 55 0,aS 60 55 1,aa 13 59,aa 14 60] ((ab [aa 61 14,ar 62 .neq 61 0] (az 62 (ab [aa 63 14,cO 2 (mov (c AV.esl)),aa 3 63] ret) skip)).seq (ops 0 [aa 64 11,aa 65 13,aa 66 7,aa 67 12,cO 68 (Ins.mget (one int) (bb) false (t 66) (t 67)),aV 69 .sub 65 68,aa 70 7,aa 71 12,ar 72 .add 71 1,cO 73 (Ins.mget (one int) (bb) false (t 70) (t 72)),aV 74 .sub 69 73,cO 75 (bldS 1 1 [bb] [(0,1,t 74)]),cO 76 (app 1 8 (t 64) (t 75)),aa 11 76]))))).seq (ops 0 [ar 77 .add 52 1,aa 52 77])))).loop)).seq (ab [aa 78 11,aa 2 78,cO 3 (mov (cN 0))] ret)))))))))
theorem Kf:Is Tryz.prog 44 b44:=mkI Tryz.func44
def b48:F2:=(F2.mk 9 [RV.t 4] (ab [cO 4 (mov a9)] (ab [aa 5 0,aa 6 1,aG 7 101 [t 5,t 6],ar 8 .geq 7 0,aa 4 8] ret)))
theorem Ns:Is Tryz.prog 48 b48:=mkI Tryz.func48
def b49:F2:=(F2.mk 5 [RV.t 2] (ab [cO 2 (mov a9)] (ab [aa 3 0,ar 4 .neq 3 0,aa 2 4] ret)))
theorem Nc:Is Tryz.prog 49 b49:=mkI Tryz.func49
def b50:F2:=(F2.mk 6 [RV.t 4] (ab [cO 2 (box (t 0)),cO 3 (box (t 1)),cO 4 (mov (c AV.nilf))] (ab [cO 5 (mkfn 102 [t 2,t 3]),aa 4 5] ret)))
theorem MR:Is Tryz.prog 50 b50:=mkI Tryz.func50
def b57:F2:=(F2.mk 31 [RV.t 4,RV.t 5] (ab [cO 2 (box (t 0)),cO 4 (mov (c AV.esl)),cO 5 (mov (cN 0))] (ab [bt 10 1 2,aa 11 1,aG 12 30 [t 10,t 11],aa 9 12,aS 13 9 0,aS 14 9 1,aa 6 13,aa 7 14] ((ab [aa 15 7,ar 16 .neq 15 0] (az 16 (ab [aa 17 7,cO 4 (mov (c AV.esl)),aa 5 17] ret) skip)).seq (ab [aa 19 1,aG 20 33 [t 19],aa 18 20,aS 21 18 0,aS 22 18 1,aa 8 21,aa 7 22] ((ab [aa 23 7,ar 24 .eql 23 0,aa 25 24,am 26 25 (cM 8),am 27 25 (un UnOp.not (t 26)),cO 28 (pick (t 25) (t 27) a9)] (az 28 (ab [cO 4 (mov (c AV.esl)),cO 5 (mov (cN 3))] ret) skip)).seq (ab [aa 29 6,aa 30 7,aa 4 29,aa 5 30] ret)))))))
theorem Nb:Is Tryz.prog 57 b57:=mkI Tryz.func57
def b58:F2:=(F2.mk 26 [RV.cn 4 2,RV.t 5] (ab [cO 2 (box (t 0)),cO 4 (alloc (AV.agg [bb,AV.esl])),cO 5 (mov (cN 0))] ((ab [aa 8 1,ar 9 .lss 8 8] (az 9 (ab [bt 10 1 2,aa 11 1,aG 12 112 [t 10,t 11],aS 13 12 0,aS 14 12 1,bC 2 4 13,aa 5 14] ret) skip)).seq (ab [bt 16 1 2,aa 17 1,ar 18 .sub 17 1,aG 19 98 [t 16,t 18],aa 15 19,aS 20 15 0,aS 21 15 1,aa 6 20,aa 7 21] (ab [aa 22 6,cO 23 (mks 1 24 [AV.esl] (t 22) (t 22)),cO 24 (bld [bb,AV.esl] [(1,1,t 23)]),aa 25 7,bC 2 4 24,aa 5 25] ret)))))
theorem MF:Is Tryz.prog 58 b58:=mkI Tryz.func58
def b59:F2:=(F2.mk 65 [RV.t 4,RV.t 5,RV.t 6,RV.t 7] (ab [cO 2 (box (t 0)),cO 4 (mov (c AV.esl)),cO 5 (mov (c AV.esl)),cO 6 (mov a9),cO 7 (mov (cN 0))] ((ab [bt 17 2 2,aG 18 113 [t 17],aa 8 18] (ab [aa 19 8,ar 20 .neq 19 0] (az 20 (ab [aa 21 8,cO 4 (mov (c AV.esl)),cO 5 (mov (c AV.esl)),cO 6 (mov a9),aa 7 21] ret) skip))).seq ((ab [aa 22 1,bW 23 1 2,aF 24 23,bj 25 24,aG 26 114 [t 22,t 25],aa 9 26] (ab [aa 27 9,ar 28 .neq 27 0] (az 28 (ab [aa 29 9,cO 4 (mov (c AV.esl)),cO 5 (mov (c AV.esl)),cO 6 (mov a9),aa 7 29] ret) skip))).seq (ab [bt 31 2 2,aG 32 115 [t 31],aa 30 32,aS 33 30 0,aS 34 30 1,aa 10 33,aa 11 34] ((ab [aa 35 11,bj 36 35,cO 37 (mov (cN 0))] (block 0 (ab [aV 38 .lss 37 36] ((az 38 skip (exit 0)).seq ((block 1 (ab [cO 39 (ixaS 1 (t 35) (t 37)),aF 40 39,aa 13 40] (ab [aa 41 13,aa 42 1,aG 43 116 [t 41,t 42]] (az 43 (ab [aa 44 13,cO 4 (mov (c AV.esl)),aa 5 44,cO 6 (mov a9),cO 7 (mov (cN 0))] ret) skip)))).seq (ops 0 [ar 45 .add 37 1,aa 37 45])))).loop)).seq (ab [cO 14 (mov (c AV.esl))] ((ab [aa 46 10,bj 47 46,cO 48 (mov (cN 0))] (block 2 (ab [aV 49 .lss 48 47] ((az 49 skip (exit 2)).seq ((block 3 (ab [cO 50 (ixaS 2 (t 46) (t 48)),bt 51 2 50,cO 16 (alloc (AV.agg [AV.esl,AV.esl])),bC 2 16 51] (ab [bW 52 1 16,aF 53 52,aa 54 1,aG 55 116 [t 53,t 54]] (az 55 (ops 0 [aa 56 14,bW 57 0 16,aF 58 57,cO 59 (ixaS 1 (t 58) (cN 0)),aF 60 59,cO 61 (bldS 1 1 [bb] [(0,1,t 60)]),cO 62 (app 1 8 (t 56) (t 61)),aa 14 62]) skip)))).seq (ops 0 [ar 63 .add 48 1,aa 48 63])))).loop)).seq (ab [aa 64 14,aa 4 64,cO 5 (mov (c AV.esl)),cO 6 (mov c9),cO 7 (mov (cN 0))] ret)))))))))
theorem Nn:Is Tryz.prog 59 b59:=mkI Tryz.func59
def b63:F2:=(F2.mk 9 [RV.t 4] (ab [cO 4 (mov a9)] (ab [aa 5 0,aa 6 1,aG 7 73 [t 5,t 6],ar 8 .eql 7 0,aa 4 8] ret)))
theorem MI:Is Tryz.prog 63 b63:=mkI Tryz.func63
def b67:F2:=(F2.mk 36 [RV.t 6,RV.t 7,RV.t 8] (ab [cO 3 (box (t 0)),cO 6 (mov (c AV.esl)),cO 7 (mov (c AV.esl)),cO 8 (mov (cN 0))] ((ab [bt 13 1 3,aG 14 43 [t 13],aa 9 14] (ab [aa 15 9,ar 16 .neq 15 0] (az 16 (ab [aa 17 9,cO 6 (mov (c AV.esl)),cO 7 (mov (c AV.esl)),aa 8 17] ret) skip))).seq (ab [bt 19 1 3,aa 20 1,aG 21 30 [t 19,t 20],aa 18 21,aS 22 18 0,aS 23 18 1,aa 10 22,aa 11 23] ((ab [aa 24 11,ar 25 .neq 24 0] (az 25 (ab [aa 26 11,cO 6 (mov (c AV.esl)),cO 7 (mov (c AV.esl)),aa 8 26] ret) skip)).seq (ab [bt 28 1 3,aa 29 2,aG 30 30 [t 28,t 29],aa 27 30,aS 31 27 0,aS 32 27 1,aa 12 31,aa 11 32] (ab [aa 33 10,aa 34 12,aa 35 11,aa 6 33,aa 7 34,aa 8 35] ret)))))))
theorem Nj:Is Tryz.prog 67 b67:=mkI Tryz.func67
def b68:F2:=(F2.mk 32 [RV.t 6] (ab [cO 6 (mov a9)] ((ab [aa 10 0,bj 11 10,aa 12 1,bj 13 12,aV 14 .neq 11 13] (az 14 (ab [cO 6 (mov a9)] ret) skip)).seq ((ab [aa 15 0,bj 16 15,cO 17 (mov (cN 0))] (block 0 (ab [aV 18 .lss 17 16] ((az 18 skip (exit 0)).seq ((block 1 (ab [aa 19 17,cO 20 (ixaS 1 (t 15) (t 17)),aF 21 20,aa 7 19,aa 8 21] (ab [aa 22 1,aa 23 7,cO 24 (ixaS 1 (t 22) (t 23)),aF 25 24,aa 9 25] (ab [aa 26 2,aa 27 8,aa 28 9,cO 29 (call (t 26) [t 27,t 28]),cO 30 (un UnOp.not (t 29))] (az 30 (ab [cO 6 (mov a9)] ret) skip))))).seq (ops 0 [ar 31 .add 17 1,aa 17 31])))).loop)).seq (ab [cO 6 (mov c9)] ret)))))
theorem M6:Is Tryz.prog 68 b68:=mkI Tryz.func68
def b69:F2:=(F2.mk 9 [RV.t 4] (ab [cO 4 (mov a9)] (ab [aa 5 0,aa 6 1,aG 7 70 [t 5,t 6],ar 8 .eql 7 0,aa 4 8] ret)))
theorem Nh:Is Tryz.prog 69 b69:=mkI Tryz.func69
def b70:F2:=(F2.mk 8 [RV.t 4] (ab [cO 4 (mov (cN 0))] (ab [aa 5 0,aa 6 1,aG 7 122 ([t 5,t 6,c (AV.func 123 [])]),aa 4 7] ret)))
theorem Nr:Is Tryz.prog 70 b70:=mkI Tryz.func70
def b71:F2:=(F2.mk 57 [RV.t 6] (ab [cO 3 (box (t 0)),cO 6 (mov (cN 0))] ((ab [bt 13 2 3,aG 14 113 [t 13],aa 7 14] (ab [aa 15 7,ar 16 .neq 15 0] (az 16 (ab [aa 17 7,aa 6 17] ret) skip))).seq ((ab [aa 18 1,bW 19 1 3,aF 20 19,bj 21 20,aG 22 114 [t 18,t 21],aa 8 22] (ab [aa 23 8,ar 24 .neq 23 0] (az 24 (ab [aa 25 8,aa 6 25] ret) skip))).seq ((ab [aa 26 2,bW 27 1 3,aF 28 27,bj 29 28,aG 30 114 [t 26,t 29],aa 9 30] (ab [aa 31 9,ar 32 .neq 31 0] (az 32 (ab [aa 33 9,aa 6 33] ret) skip))).seq (ab [cO 10 (mov (c AV.esl))] ((ab [aa 34 2,bj 35 34,cO 36 (mov (cN 0))] (block 0 (ab [aV 37 .lss 36 35] ((az 37 skip (exit 0)).seq ((block 1 (ab [cO 38 (ixaS 1 (t 34) (t 36)),aF 39 38,aa 12 39] (ops 0 [aa 40 10,bW 41 1 3,aF 42 41,aa 43 12,cO 44 (ixaS 1 (t 42) (t 43)),aF 45 44,aG 46 124 [t 40,t 45],aa 10 46]))).seq (ops 0 [ar 47 .add 36 1,aa 36 47])))).loop)).seq ((ab [aa 48 10,bj 49 48,ar 50 .gtr 49 0,aa 51 50,bm 52 51 (cM 2),bm 53 51 (cM 1),bm 54 51 (call (cF 116) [t 52,t 53]),bm 55 51 (un UnOp.not (t 54)),cO 56 (pick (t 51) c9 (t 55))] (az 56 (ab [cO 6 (mov (cN 18))] ret) skip)).seq (ab [cO 6 (mov (cN 0))] ret)))))))))
theorem MA:Is Tryz.prog 71 b71:=mkI Tryz.func71
def b72:F2:=(F2.mk 39 [RV.t 2] (ab [cO 2 (mov (cN 0))] ((block 0 (ab [aa 5 0,bj 6 5,ar 7 .eql 6 0,aa 4 7] (az 4 (ab [cO 2 (mov (cN 16))] ret) (ab [aa 9 0,bj 10 9,ar 11 .gtr 10 8,aa 8 11] (az 8 (ab [cO 2 (mov (cN 5))] ret) skip))))).seq ((ab [cO 3 (mov (cN 0))] (block 1 ((ab [aa 12 3,aa 13 0,bj 14 13,aV 15 .lss 12 14] (az 15 skip (exit 1))).seq ((block 2 ((ab [aa 18 0,aa 19 3,cO 20 (ixaS 2 (t 18) (t 19)),bt 21 2 20,aG 22 125 [t 21],cO 23 (un UnOp.not (t 22))] (az 23 (ab [cO 2 (mov (cN 2))] ret) skip)).seq ((mixS 1 [aa 24 3,ar 25 .gtr 24 0,aa 26 25,am 27 26 (cM 0),am 28 26 (cM 3),am 29 26 (cB .sub (t 28) (cN 1)),am 30 26 (ixaS 2 (t 27) (t 29)),am 31 26 (ldn 2 (t 30)),am 32 26 (cM 0),am 33 26 (cM 3),am 34 26 (ixaS 2 (t 32) (t 33)),am 35 26 (ldn 2 (t 34)),am 36 26 (call (cF 126) [t 31,t 35]),am 37 26 (cB .geq (t 36) (cN 0)),cO 38 (pick (t 26) (t 37) a9)] [(0,0),(1,0),(2,0),(3,0),(4,0),(5,0),(6,0),(7,0),(8,0),(9,0),(10,0),(11,0),(12,2),(13,0),(14,0)]).seq (az 38 (ab [cO 2 (mov (cN 14))] ret) skip)))).seq (ops 0 [aa 16 3,ar 17 .add 16 1,aa 3 17]))).loop)).seq (ab [cO 2 (mov (cN 0))] ret)))))
theorem MY:Is Tryz.prog 72 b72:=mkI Tryz.func72
def b73:F2:=(F2.mk 43 [RV.t 4] (ab [cO 4 (mov (cN 0))] ((ab [cO 5 (mov (cN 0))] (block 0 ((ab [aa 7 5,aa 8 0,bj 9 8,aV 10 .lss 7 9,aa 11 10,am 12 11 (cM 5),am 13 11 (cM 1),am 14 11 (lenS (t 13)),am 15 11 (cB .lss (t 12) (t 14)),cO 16 (pick (t 11) (t 15) a9)] (az 16 skip (exit 0))).seq ((block 1 ((mixS 1 [aa 19 0,aa 20 5,cO 21 (ixaS 2 (t 19) (t 20)),bt 22 2 21,aa 23 1,aa 24 5,cO 25 (ixaS 2 (t 23) (t 24)),bt 26 2 25,aG 27 126 [t 22,t 26],aa 6 27] [(0,0),(1,0),(2,0),(3,0),(4,0),(5,0),(6,0),(7,0),(8,2),(9,0)]).seq (ab [aa 28 6,ar 29 .neq 28 0] (az 29 (ab [aa 30 6,aa 4 30] ret) skip)))).seq (ops 0 [aa 17 5,ar 18 .add 17 1,aa 5 18]))).loop)).seq ((block 2 (ab [aa 32 0,bj 33 32,aa 34 1,bj 35 34,aV 36 .lss 33 35,aa 31 36] (az 31 (ab [cO 4 (mov (cN ((-1))))] ret) (ab [aa 38 0,bj 39 38,aa 40 1,bj 41 40,aV 42 .gtr 39 41,aa 37 42] (az 37 (ab [cO 4 (mov (cN 1))] ret) skip))))).seq (ab [cO 4 (mov (cN 0))] ret)))))
theorem MN:Is Tryz.prog 73 b73:=mkI Tryz.func73
def b74:F2:=(F2.mk 19 [RV.t 4] (ab [cO 4 (mov a9)] ((ab [cO 5 (mov (cN 0))] (block 0 ((ab [aa 6 5,aa 7 0,bj 8 7,aV 9 .lss 6 8] (az 9 skip (exit 0))).seq ((block 1 (ab [aa 12 1,aa 13 0,aa 14 5,cO 15 (ixaS 2 (t 13) (t 14)),bt 16 2 15,aG 17 127 [t 12,t 16],cO 18 (un UnOp.not (t 17))] (az 18 (ab [cO 4 (mov a9)] ret) skip))).seq (ops 0 [aa 10 5,ar 11 .add 10 1,aa 5 11]))).loop)).seq (ab [cO 4 (mov c9)] ret))))
theorem Mu:Is Tryz.prog 74 b74:=mkI Tryz.func74
def b75:F2:=(F2.mk 43 [RV.t 2] (ab [cO 2 (mov (cN 0))] ((ab [aa 6 0,bj 7 6,ar 8 .gtr 7 4096] (az 8 (ab [cO 2 (mov (cN 5))] ret) skip)).seq ((ab [aa 9 0,bj 10 9,cO 11 (mov (cN 0))] (block 0 (ab [aV 12 .lss 11 10] ((az 12 skip (exit 0)).seq ((block 1 (ab [aa 13 11,cO 14 (ixaS 1 (t 9) (t 11)),aF 15 14,aa 3 13,aa 4 15] ((ab [aa 16 4,aG 17 128 [t 16],aa 5 17] (ab [aa 18 5,ar 19 .neq 18 0] (az 19 (ab [aa 20 5,aa 2 20] ret) skip))).seq (block 2 (ab [aa 22 4,bj 23 22,aa 24 0,cO 25 (ixaS 1 (t 24) (cN 0)),aF 26 25,bj 27 26,aV 28 .neq 23 27,aa 21 28] (az 21 (ab [cO 2 (mov (cN 15))] ret) (ab [aa 30 3,ar 31 .gtr 30 0,aa 32 31,am 33 32 (cM 0),am 34 32 (cM 3),am 35 32 (cB .sub (t 34) (cN 1)),am 36 32 (ixaS 1 (t 33) (t 35)),am 37 32 (cD 36),am 38 32 (cM 4),am 39 32 (call (cF 70) [t 37,t 38]),am 40 32 (cB .geq (t 39) (cN 0)),cO 41 (pick (t 32) (t 40) a9),aa 29 41] (az 29 (ab [cO 2 (mov (cN 14))] ret) skip)))))))).seq (ops 0 [ar 42 .add 11 1,aa 11 42])))).loop)).seq (ab [cO 2 (mov (cN 0))] ret)))))
theorem Mx:Is Tryz.prog 75 b75:=mkI Tryz.func75
def b76:F2:=(F2.mk 9 [RV.t 2,RV.t 3] (ab [cO 2 (mov (c AV.esl)),cO 3 (mov (cN 0))] ((ab [aa 4 0,bj 5 4,ar 6 .gtr 5 4096] (az 6 (ab [cO 2 (mov (c AV.esl)),cO 3 (mov (cN 5))] ret) skip)).seq (ab [aa 7 0,aG 8 84 [t 7],aa 2 8,cO 3 (mov (cN 0))] ret))))
theorem MU:Is Tryz.prog 76 b76:=mkI Tryz.func76
def b77:F2:=(F2.mk 52 [RV.t 2] (ab [cO 2 (mov (c AV.esl))] (ab [cO 13 (mkm none),cO 3 (alloc AV.nilm),bC 1 3 13] ((ab [aa 14 0,bj 15 14,cO 16 (mov (cN 0))] (block 0 (ab [aV 17 .lss 16 15] ((az 17 skip (exit 0)).seq ((block 1 (ab [cO 18 (ixaS 1 (t 14) (t 16)),aF 19 18,aa 5 19] (ab [aa 20 5,aG 21 129 [t 20]] (block 2 (rangeF (t 21) [22] (ops 0 [aa 6 22]) (block 3 (ab [cO 7 (alloc (AV.agg [bb,bb,bb,bb,bb,bb,bb,bb,bb,bb,bb,bb,bb,bb,bb,bb]))] (ab [cO 23 (slp 8 2 (t 7)),aa 24 6,cO 25 (cpy 2 (t 23) (t 24))] (ab [aF 27 3,bt 28 16 7,cO 29 (Ins.mget (MK.st [int,int,int,int,int,int,int,int,int,int,int,int,int,int,int,int]) AV.esl true (t 27) (t 28)),aa 26 29,aS 30 26 0,aS 31 26 1,aa 8 30,aa 9 31] (ab [aa 32 9] (az 32 (ops 0 [aF 33 3,bt 34 16 7,Op2.mk none none (mdel (MK.st [int,int,int,int,int,int,int,int,int,int,int,int,int,int,int,int]) (t 33) (t 34))]) (ops 0 [aF 35 3,bt 36 16 7,aa 37 6,Op2.mk none none (mput (MK.st [int,int,int,int,int,int,int,int,int,int,int,int,int,int,int,int]) (t 35) (t 36) (t 37))])))))))))))).seq (ops 0 [ar 38 .add 16 1,aa 16 38])))).loop)).seq (ab [cO 10 (mov (c AV.esl))] ((ab [aF 39 3,cO 40 (mrng (t 39))] (block 4 (ab [cO 41 (mnxt (t 40)),aS 42 41 0] ((az 42 skip (exit 4)).seq (block 5 (ab [cO 43 (ment (t 40)),aS 44 43 1,aa 12 44] (ops 0 [aa 45 10,aa 46 12,cO 47 (bldS 1 1 [AV.esl] [(0,1,t 46)]),cO 48 (app 1 24 (t 45) (t 47)),aa 10 48]))))).loop)).seq (ab [aa 49 10,aG 50 130 ([t 49,c (AV.func 70 [])])] (ab [aa 51 10,aa 2 51] ret))))))))
theorem MZ:Is Tryz.prog 77 b77:=mkI Tryz.func77
def b78:F2:=(F2.mk 60 [RV.t 2] (ab [cO 1 (box (t 0)),cO 2 (mov (cN 0))] ((ab [bW 9 0 1,aF 10 9,bj 11 10,ar 12 .gtr 11 4096] (az 12 (ab [cO 2 (mov (cN 5))] ret) skip)).seq ((ab [bW 13 0 1,aF 14 13,bj 15 14,cO 16 (mov (cN 0))] (block 0 (ab [aV 17 .lss 16 15] ((az 17 skip (exit 0)).seq ((block 1 (ab [aa 18 16,cO 19 (ixaS 1 (t 14) (t 16)),aF 20 19,aa 3 18,aa 4 20] ((ab [aa 21 4,aG 22 128 [t 21],aa 5 22] (ab [aa 23 5,ar 24 .neq 23 0] (az 24 (ab [aa 25 5,aa 2 25] ret) skip))).seq (ab [aa 26 3,ar 27 .gtr 26 0,aa 28 27,am 29 28 (fa 0 (t 1)),am 30 28 (cD 29),am 31 28 (cM 3),am 32 28 (cB .sub (t 31) (cN 1)),am 33 28 (ixaS 1 (t 30) (t 32)),am 34 28 (cD 33),am 35 28 (cM 4),am 36 28 (call (cF 70) [t 34,t 35]),am 37 28 (cB .geq (t 36) (cN 0)),cO 38 (pick (t 28) (t 37) a9)] (az 38 (ab [cO 2 (mov (cN 14))] ret) skip))))).seq (ops 0 [ar 39 .add 16 1,aa 16 39])))).loop)).seq (ab [bW 40 0 1,aF 41 40,aG 42 92 [t 41],aa 6 42] ((ab [bW 43 0 1,aF 44 43,bj 45 44,cO 46 (mov (cN 0))] (block 2 (ab [aV 47 .lss 46 45] ((az 47 skip (exit 2)).seq ((block 3 (ab [cO 48 (ixaS 1 (t 44) (t 46)),aF 49 48,aa 8 49] ((mixS 9 [bW 50 0 1,aF 51 50,aa 52 6,aa 53 8,cO 54 (ixaS 2 (t 53) (cN 0)),bt 55 2 54,cO 56 (Ins.mget (MK.st [int,int]) AV.esl false (t 52) (t 55)),aa 57 8,aG 58 131 [t 51,t 56,t 57]] [(0,0),(1,0),(2,0),(3,0),(4,0),(5,0),(7,0),(6,1),(8,2)]).seq (az 58 (ab [cO 2 (mov (cN 7))] ret) skip)))).seq (ops 0 [ar 59 .add 46 1,aa 46 59])))).loop)).seq (ab [cO 2 (mov (cN 0))] ret)))))))
theorem Ng:Is Tryz.prog 78 b78:=mkI Tryz.func78
def b79:F2:=(F2.mk 24 [RV.t 4,RV.t 5] (ab [cO 2 (box (t 0)),cO 4 (mov (c AV.esl)),cO 5 (mov (cN 0))] ((ab [bt 7 1 2,aG 8 78 [t 7],aa 6 8] (ab [aa 9 6,ar 10 .neq 9 0] (az 10 (ab [aa 11 6,cO 4 (mov (c AV.esl)),aa 5 11] ret) skip))).seq ((ab [aa 12 1,ar 13 .lss 12 1,aa 14 13,bm 15 14 (cM 1),bm 16 14 (cB .gtr (t 15) (cN 8)),cO 17 (pick (t 14) c9 (t 16))] (az 17 (ab [cO 4 (mov (c AV.esl)),cO 5 (mov (cN 2))] ret) skip)).seq (ab [bW 18 0 2,aF 19 18,aa 20 1,aG 21 87 [t 19,t 20],aS 22 21 0,aS 23 21 1,aa 4 22,aa 5 23] ret)))))
theorem MB:Is Tryz.prog 79 b79:=mkI Tryz.func79
def b80:F2:=(F2.mk 11 [RV.t 4,RV.t 5] (ab [cO 4 (mov (cN 0)),cO 5 (mov a9)] (ab [aa 6 0,aa 7 1,aG 8 132 ([t 6,t 7,c (AV.func 70 [])]),aS 9 8 0,aS 10 8 1,aa 4 9,aa 5 10] ret)))
theorem MX:Is Tryz.prog 80 b80:=mkI Tryz.func80
def b81:F2:=(F2.mk 51 [RV.t 4,RV.t 5] (ab [cO 2 (box (t 0)),cO 4 (mov (c AV.nilp)),cO 5 (mov (cN 0))] (ab [bt 11 1 2,aa 12 1,ar 13 .add 12 1,aG 14 58 [t 11,t 13],aa 10 14,aS 15 10 0,aS 16 10 1,cO 6 (alloc (AV.agg [bb,AV.esl])),bC 2 6 15,aa 7 16] ((ab [aa 17 7,ar 18 .neq 17 0] (az 18 (ab [aa 19 7,cO 4 (mov (c AV.nilp)),aa 5 19] ret) skip)).seq (ab [bt 21 1 2,aa 22 1,aG 23 98 [t 21,t 22],aa 20 23,aS 24 20 0,aS 25 20 1,aa 8 24,aa 7 25] ((ab [aa 26 7,ar 27 .neq 26 0] (az 27 (ab [aa 28 7,cO 4 (mov (c AV.nilp)),aa 5 28] ret) skip)).seq (ab [bt 30 2 6,aG 31 133 [t 30],aa 29 31,aS 32 29 0,aS 33 29 1,cO 9 (alloc (AV.agg [bb,AV.esl])),bC 2 9 32,aa 7 33] ((ab [aa 34 7,ar 35 .neq 34 0] (az 35 (ab [aa 36 7,cO 4 (mov (c AV.nilp)),aa 5 36] ret) skip)).seq (ab [aa 37 8,bW 38 0 9,bC 1 38 37] (ab [bt 40 2 9,aG 41 134 [t 40],aa 39 41,aS 42 39 0,aS 43 39 1,bC 2 9 42,aa 7 43] (ab [bt 44 2 9,bW 45 1 9,aF 46 45,bj 47 46,cO 48 (bld [bb,AV.esl,bb] [(0,2,t 44),(2,1,t 47)]),cO 49 (box (t 48)),aa 50 7,aa 4 49,aa 5 50] ret)))))))))))
theorem Mw:Is Tryz.prog 81 b81:=mkI Tryz.func81
def b82:F2:=(F2.mk 48 [RV.t 4,RV.t 5] (ab [cO 4 (mov a9),cO 5 (mov (cN 0))] ((mixF [aa 9 0,cO 10 (nilck (t 9)),bW 11 0 10,bW 12 0 11,aF 13 12,aa 14 0,cO 15 (nilck (t 14)),bW 16 0 15,bW 17 1 16,aF 18 17,aG 19 135 [t 18],aa 20 1,cO 21 (bldS 1 1 [AV.esl] [(0,1,t 20)]),cO 22 (app 1 24 (t 19) (t 21)),cO 23 (bld [bb,AV.esl] [(0,1,t 13),(1,1,t 22)]),cO 6 (alloc (AV.agg [bb,AV.esl])),bC 2 6 23] (15,1) [(0,0),(1,0),(2,0),(3,0),(4,0),(5,0),(6,0),(7,0),(8,0),(9,0),(11,0),(12,3),(10,1),(13,1),(14,0)] [(16,2)]).seq (ab [bt 25 2 6,aG 26 97 [t 25],aa 24 26,aS 27 24 0,aS 28 24 1,aa 7 27,aa 8 28] ((ab [aa 29 8,ar 30 .neq 29 0,aa 31 30,bm 32 31 (cM 7),bm 33 31 (cM 0),bm 34 31 (nilck (t 33)),bm 35 31 (fa 2 (t 34)),bm 36 31 (cD 35),bm 37 31 (cB .eql (t 32) (t 36)),cO 38 (pick (t 31) c9 (t 37))] (az 38 (ab [aa 39 8,cO 4 (mov a9),aa 5 39] ret) skip)).seq (ab [aa 40 0,aa 41 0,bt 42 2 6,aa 43 7,cO 44 (nilck (t 40)),bW 45 0 44,bC 2 45 42,cO 46 (nilck (t 41)),bW 47 2 46,bC 1 47 43] (ab [cO 4 (mov c9),cO 5 (mov (cN 0))] ret)))))))
theorem M7:Is Tryz.prog 82 b82:=mkI Tryz.func82
def b83:F2:=(F2.mk 14 [RV.t 4,RV.t 5] (ab [cO 2 (box (t 0)),cO 4 (mov (c AV.esl)),cO 5 (mov (cN 0))] ((ab [aa 6 1,ar 7 .lss 6 0] (az 7 (ab [cO 4 (mov (c AV.esl)),cO 5 (mov (cN 0))] ret) skip)).seq (ab [bt 8 1 2,aa 9 1,ar 10 .add 9 1,aG 11 79 [t 8,t 10],aS 12 11 0,aS 13 11 1,aa 4 12,aa 5 13] ret))))
theorem M5:Is Tryz.prog 83 b83:=mkI Tryz.func83
def b84:F2:=(F2.mk 19 [RV.t 2] (ab [cO 2 (mov (c AV.esl))] (ab [cO 3 (mov (c AV.esl))] ((ab [aa 6 0,bj 7 6,cO 8 (mov (cN 0))] (block 0 (ab [aV 9 .lss 8 7] ((az 9 skip (exit 0)).seq ((block 1 (ab [cO 10 (ixaS 1 (t 6) (t 8)),aF 11 10,aa 5 11] (ops 0 [aa 12 3,aa 13 5,aG 14 136 [t 13],cO 15 (bldS 1 1 [AV.esl] [(0,1,t 14)]),cO 16 (app 1 24 (t 12) (t 15)),aa 3 16]))).seq (ops 0 [ar 17 .add 8 1,aa 8 17])))).loop)).seq (ab [aa 18 3,aa 2 18] ret)))))
theorem MH:Is Tryz.prog 84 b84:=mkI Tryz.func84
def b87:F2:=(F2.mk 60 [RV.t 4,RV.t 5] (ab [cO 4 (mov (c AV.esl)),cO 5 (mov (cN 0))] (ab [cO 14 (mkm none),aa 6 14] (ab [cO 7 (mov (c AV.esl))] ((ab [aa 15 0,bj 16 15,cO 17 (mov (cN 0))] (block 0 (ab [aV 18 .lss 17 16] ((az 18 skip (exit 0)).seq ((block 1 (ab [cO 19 (ixaS 1 (t 15) (t 17)),aF 20 19,aa 9 20] ((ab [aa 21 9,bj 22 21,aa 23 1,aV 24 .lss 22 23] (az 24 (exit 1) skip)).seq (ab [aa 26 9,aa 27 1,aG 28 137 [t 26,t 27],aa 25 28,aS 29 25 0,aS 30 25 1,aa 10 29,aa 11 30] ((ab [aa 31 11,ar 32 .neq 31 0] (az 32 (ab [aa 33 11,cO 4 (mov (c AV.esl)),aa 5 33] ret) skip)).seq ((ab [aa 34 10,bj 35 34,cO 36 (mov (cN 0))] (block 2 (ab [aV 37 .lss 36 35] ((az 37 skip (exit 2)).seq ((block 3 (ab [cO 38 (ixaS 1 (t 34) (t 36)),aF 39 38,aa 13 39] (ab [aa 40 6,aa 41 13,aG 42 138 [t 41],cO 43 (Ins.mget (MK.st [int,int,int,int,int,int,int,int,int,int,int,int,int,int,int,int]) (AV.bool false) false (t 40) (t 42)),cO 44 (un UnOp.not (t 43))] (az 44 (ab [aa 45 6,aa 46 13,aG 47 138 [t 46],Op2.mk none none (mput (MK.st [int,int,int,int,int,int,int,int,int,int,int,int,int,int,int,int]) (t 45) (t 47) c9)] (ops 0 [aa 48 7,aa 49 13,cO 50 (bldS 1 1 [AV.esl] [(0,1,t 49)]),cO 51 (app 1 24 (t 48) (t 50)),aa 7 51])) skip)))).seq (ops 0 [ar 52 .add 36 1,aa 36 52])))).loop)).seq (ab [aa 53 7,bj 54 53,ar 55 .gtr 54 4096] (az 55 (ab [cO 4 (mov (c AV.esl)),cO 5 (mov (cN 17))] ret) skip)))))))).seq (ops 0 [ar 56 .add 17 1,aa 17 56])))).loop)).seq (ab [aa 57 7,aG 58 130 ([t 57,c (AV.func 70 [])])] (ab [aa 59 7,aa 4 59,cO 5 (mov (cN 0))] ret)))))))
theorem MV:Is Tryz.prog 87 b87:=mkI Tryz.func87
def b92:F2:=(F2.mk 33 [RV.t 2] (ab [cO 2 (mov (c AV.nilm))] (ab [cO 8 (mkm none),aa 3 8] ((ab [aa 9 0,bj 10 9,cO 11 (mov (cN 0))] (block 0 (ab [aV 12 .lss 11 10] ((az 12 skip (exit 0)).seq ((block 1 (ab [aa 13 11,cO 14 (ixaS 1 (t 9) (t 11)),aF 15 14,aa 4 13,aa 5 15] (ab [aa 16 5,bj 17 16,cO 18 (mov (cN 0))] (block 2 (ab [aV 19 .lss 18 17] ((az 19 skip (exit 2)).seq ((block 3 (ab [cO 20 (ixaS 2 (t 16) (t 18)),bt 21 2 20,cO 7 (alloc (AV.agg [bb,bb])),bC 2 7 21] (ops 0 [aa 22 3,bt 23 2 7,aa 25 4,cO 26 (bldS 1 1 [bb] [(0,1,t 25)]),cO 27 (mplc (MK.st [int,int]) AV.esl (t 22) (t 23)),aS 24 27 0,cO 28 (app 1 8 (t 24) (t 26)),aS 29 27 1,Op2.mk none none (mpst (t 22) (t 29) (t 28))]))).seq (ops 0 [ar 30 .add 18 1,aa 18 30])))).loop)))).seq (ops 0 [ar 31 .add 11 1,aa 11 31])))).loop)).seq (ab [aa 32 3,aa 2 32] ret)))))
theorem Nd:Is Tryz.prog 92 b92:=mkI Tryz.func92
def b94:F2:=(F2.mk 33 [RV.t 2,RV.t 3] (ab [cO 1 (box (t 0)),cO 2 (mov (cN 0)),cO 3 (mov a9)] (ab [cO 4 (mov (cN 8)),cO 5 (mov (cN 0))] ((ab [bW 8 0 1,aF 9 8,bj 10 9,cO 11 (mov (cN 0))] (block 0 (ab [aV 12 .lss 11 10] ((az 12 skip (exit 0)).seq ((block 1 (ab [cO 13 (ixaS 1 (t 9) (t 11)),aF 14 13,aa 7 14] (ops 0 [aa 15 4,aa 16 7,bj 17 16,cO 18 (mn (t 15) [t 17]),aa 19 5,aa 20 7,bj 21 20,cO 22 (mx (t 19) [t 21]),aa 4 18,aa 5 22]))).seq (ops 0 [ar 23 .add 11 1,aa 11 23])))).loop)).seq (ab [aa 24 5,ar 25 .sub 24 1,aa 26 5,ar 27 .eql 26 0,aa 28 27,bm 29 28 (cM 4),bm 30 28 (cM 5),bm 31 28 (cB .eql (t 29) (t 30)),cO 32 (pick (t 28) c9 (t 31)),aa 2 25,aa 3 32] ret)))))
theorem ME:Is Tryz.prog 94 b94:=mkI Tryz.func94
def b95:F2:=(F2.mk 19 [RV.t 2] (ab [cO 2 (mov a9)] ((ab [aa 4 0,bj 5 4,ar 6 .gtr 5 30] (az 6 (ab [cO 2 (mov a9)] ret) skip)).seq ((ab [cO 3 (mov (cN 0))] (block 0 ((ab [aa 7 3,aa 8 0,bj 9 8,aV 10 .lss 7 9] (az 10 skip (exit 0))).seq ((block 1 (ab [aa 13 0,aa 14 3,cO 15 (ixaS 1 (t 13) (t 14)),aF 16 15,aG 17 145 [t 16],cO 18 (un UnOp.not (t 17))] (az 18 (ab [cO 2 (mov a9)] ret) skip))).seq (ops 0 [aa 11 3,ar 12 .add 11 1,aa 3 12]))).loop)).seq (ab [cO 2 (mov c9)] ret)))))
theorem Nl:Is Tryz.prog 95 b95:=mkI Tryz.func95
def b96:F2:=(F2.mk 20 [RV.t 2,RV.t 3,RV.t 4] (ab [cO 1 (box (t 0)),cO 2 (mov (cN 0)),cO 3 (mov a9),cO 4 (mov (cN 0))] ((ab [bt 8 1 1,aG 9 78 [t 8],aa 5 9] (ab [aa 10 5,ar 11 .neq 10 0] (az 11 (ab [aa 12 5,cO 2 (mov (cN 0)),cO 3 (mov a9),aa 4 12] ret) skip))).seq (ab [bt 14 1 1,aG 15 94 [t 14],aa 13 15,aS 16 13 0,aS 17 13 1,aa 6 16,aa 7 17] (ab [aa 18 6,aa 19 7,aa 2 18,aa 3 19,cO 4 (mov (cN 0))] ret)))))
theorem M4:Is Tryz.prog 96 b96:=mkI Tryz.func96
def b97:F2:=(F2.mk 15 [RV.t 2,RV.t 3] (ab [cO 1 (box (t 0)),cO 2 (mov (cN 0)),cO 3 (mov (cN 0))] (ab [bt 7 2 1,aG 8 134 [t 7],aa 6 8,aS 9 6 0,aS 10 6 1,cO 4 (alloc (AV.agg [bb,AV.esl])),bC 2 4 9,aa 5 10] (ab [bW 11 1 4,aF 12 11,bj 13 12,aa 14 5,aa 2 13,aa 3 14] ret))))
theorem MQ:Is Tryz.prog 97 b97:=mkI Tryz.func97
def b98:F2:=(F2.mk 24 [RV.t 4,RV.t 5] (ab [cO 2 (box (t 0)),cO 4 (mov (cN 0)),cO 5 (mov (cN 0))] ((ab [aa 8 1,ar 9 .lss 8 0,aa 10 9,bm 11 10 (cM 1),bm 12 10 (cB .geq (t 11) (cN 8)),cO 13 (pick (t 10) c9 (t 12))] (az 13 (ab [cO 4 (mov (cN 0)),cO 5 (mov (cN 0))] ret) skip)).seq (ab [bt 15 1 2,aa 16 1,ar 17 .add 16 1,aG 18 79 [t 15,t 17],aa 14 18,aS 19 14 0,aS 20 14 1,aa 6 19,aa 7 20] (ab [aa 21 6,bj 22 21,aa 23 7,aa 4 22,aa 5 23] ret)))))
theorem Nk:Is Tryz.prog 98 b98:=mkI Tryz.func98
def Lb:F2:=(F2.mk 19 [RV.t 4] (ab [cO 4 (mov (cN 0))] ((ab [aa 6 0,bj 7 6,cO 8 (mov (cN 0))] (block 0 (ab [aV 9 .lss 8 7] ((az 9 skip (exit 0)).seq ((block 1 (ab [aa 10 8,aa 5 10] (ab [aa 11 1,aa 12 0,aa 13 5,cO 14 (ixaS 1 (t 12) (t 13)),aF 15 14,cO 16 (call (t 11) [t 15])] (az 16 (ab [aa 17 5,aa 4 17] ret) skip)))).seq (ops 0 [ar 18 .add 8 1,aa 8 18])))).loop)).seq (ab [cO 4 (mov (cN ((-1))))] ret))))
theorem KY:Is Tryz.prog 101 Lb:=mkI Tryz.func101
def Lv:F2:=(F2.mk 64 [] (ab [bt 13 1 1,aF 14 2,aG 15 81 [t 13,t 14],aa 12 15,aS 16 12 0,aS 17 12 1,aa 4 16,aa 5 17] (ab [cO 6 (alloc (AV.agg [bb,AV.esl]))] ((ab [aa 18 5,ar 19 .eql 18 0] (az 19 (ab [cO 7 (alloc (AV.agg [bb,AV.esl]))] (ab [bt 21 1 1,aF 22 2,aG 23 58 [t 21,t 22],aa 20 23,aS 24 20 0,aS 25 20 1,bC 2 7 24,aa 5 25] (ab [aa 26 5,ar 27 .eql 26 0] (az 27 (ops 0 [bt 29 2 7,aG 30 103 [t 29],aa 28 30,aS 31 28 0,aS 32 28 1,bC 2 6 31,aa 5 32]) skip)))) skip)).seq ((ab [aa 33 5,ar 34 .neq 33 0] (az 34 (ab [aa 35 0,aa 36 5,cO 37 (call (t 35) [c AV.esl,t 36])] ret) skip)).seq (ab [bW 38 1 6,aF 39 38,bj 40 39,cO 41 (mov (cN 0))] (block 0 (ab [aV 42 .lss 41 40] ((az 42 skip (exit 0)).seq ((block 1 (ab [cO 43 (ixaS 1 (t 39) (t 41)),aF 44 43,aa 9 44] (ab [aa 46 4,aa 47 9,aG 48 82 [t 46,t 47],aa 45 48,aS 49 45 0,aS 50 45 1,aa 10 49,aa 11 50] (ab [aa 51 10,aa 52 51,bm 53 52 (cM 11),bm 54 52 (cB .neq (t 53) (cN 0)),cO 55 (pick (t 52) c9 (t 54)),aa 56 55,am 57 56 (cM 0),am 58 56 (cM 9),am 59 56 (cM 11),am 60 56 (call (t 57) [t 58,t 59]),am 61 56 (un UnOp.not (t 60)),cO 62 (pick (t 56) (t 61) a9)] (az 62 ret skip))))).seq (ops 0 [ar 63 .add 41 1,aa 41 63])))).loop)))))))
theorem LH:Is Tryz.prog 102 Lv:=mkI Tryz.func102
def KF:F2:=(F2.mk 76 [RV.cn 2 2,RV.t 3] (ab [cO 1 (box (t 0)),cO 2 (alloc (AV.agg [bb,AV.esl])),cO 3 (mov (cN 0))] (ab [bt 15 2 1,aG 16 134 [t 15],aa 14 16,aS 17 14 0,aS 18 14 1,cO 4 (alloc (AV.agg [bb,AV.esl])),bC 2 4 17,aa 5 18] ((ab [aa 19 5,ar 20 .neq 19 0] (az 20 (ab [cO 21 (bld [bb,AV.esl] []),aa 22 5,bC 2 2 21,aa 3 22] ret) skip)).seq (ab [bW 23 0 1,aF 24 23,cO 25 (bld [bb,AV.esl] [(0,1,t 24)]),cO 6 (alloc (AV.agg [bb,AV.esl])),bC 2 6 25] (ab [cO 26 (mkm none),aa 7 26] ((ab [bW 27 1 4,aF 28 27,bj 29 28,cO 30 (mov (cN 0))] (block 0 (ab [aV 31 .lss 30 29] ((az 31 skip (exit 0)).seq ((block 1 (ab [cO 32 (ixaS 1 (t 28) (t 30)),aF 33 32,aa 9 33] (ops 0 [aa 34 7,aa 35 9,cO 36 (ixaS 1 (t 35) (cN 0)),aF 37 36,Op2.mk none none (mput (one int) (t 34) (t 37) c9)]))).seq (ops 0 [ar 38 .add 30 1,aa 30 38])))).loop)).seq ((ab [bW 39 0 1,aF 40 39,cO 41 (mov (cN 0))] (block 2 (ab [aV 42 .lss 41 40] ((az 42 skip (exit 2)).seq ((block 3 (ab [aa 43 41,aa 10 43] ((ab [aa 44 7,aa 45 10,cO 46 (Ins.mget (one int) (AV.bool false) false (t 44) (t 45))] (az 46 (exit 3) skip)).seq (ab [aa 47 10,cO 48 (bldS 1 1 [bb] [(0,1,t 47)]),aa 11 48] ((ab [bW 49 1 4,aF 50 49,bj 51 50,cO 52 (mov (cN 0))] (block 4 (ab [aV 53 .lss 52 51] ((az 53 skip (exit 4)).seq ((block 5 (ab [cO 54 (ixaS 1 (t 50) (t 52)),aF 55 54,aa 13 55] (ab [aa 56 13,aa 57 10,aG 58 146 [t 56,t 57]] (az 58 (ops 0 [aa 59 11,aa 60 13,cO 61 (ixaS 1 (t 60) (cN 0)),aF 62 61,cO 63 (bldS 1 1 [bb] [(0,1,t 62)]),cO 64 (app 1 8 (t 59) (t 63)),aa 11 64]) skip)))).seq (ops 0 [ar 65 .add 52 1,aa 52 65])))).loop)).seq (ab [aa 66 11,aG 67 147 [t 66]] (ops 0 [bW 68 1 6,aF 69 68,aa 70 11,cO 71 (bldS 1 1 [AV.esl] [(0,1,t 70)]),cO 72 (app 1 24 (t 69) (t 71)),bW 73 1 6,bC 1 73 72]))))))).seq (ops 0 [ar 74 .add 41 1,aa 41 74])))).loop)).seq (ab [bt 75 2 6,bC 2 2 75,cO 3 (mov (cN 0))] ret)))))))))
theorem Ki:Is Tryz.prog 103 KF:=mkI Tryz.func103
def KM:F2:=(F2.mk 87 [RV.cn 4 2,RV.t 5] (ab [cO 2 (box (t 0)),cO 4 (alloc (AV.agg [bb,AV.esl])),cO 5 (mov (cN 0))] ((ab [bt 16 1 2,aG 17 78 [t 16],aa 6 17] (ab [aa 18 6,ar 19 .neq 18 0] (az 19 (ab [cO 20 (bld [bb,AV.esl] []),aa 21 6,bC 2 4 20,aa 5 21] ret) skip))).seq ((ab [aa 22 1,ar 23 .lss 22 0,aa 24 23,bm 25 24 (cM 1),bm 26 24 (cB .geq (t 25) (cN 8)),cO 27 (pick (t 24) c9 (t 26))] (az 27 (ab [cO 28 (bld [bb,AV.esl] []),bC 2 4 28,cO 5 (mov (cN 2))] ret) skip)).seq (ab [bt 30 1 2,aa 31 1,aG 32 83 [t 30,t 31],aa 29 32,aS 33 29 0,aS 34 29 1,aa 7 33,aa 8 34] ((ab [aa 35 8,ar 36 .neq 35 0] (az 36 (ab [cO 37 (bld [bb,AV.esl] []),aa 38 8,bC 2 4 37,aa 5 38] ret) skip)).seq (ab [bt 40 1 2,aa 41 1,ar 42 .sub 41 1,aG 43 83 [t 40,t 42],aa 39 43,aS 44 39 0,aS 45 39 1,cO 9 (alloc AV.esl),bC 1 9 44,aa 8 45] ((ab [aa 46 8,ar 47 .neq 46 0] (az 47 (ab [cO 48 (bld [bb,AV.esl] []),aa 49 8,bC 2 4 48,aa 5 49] ret) skip)).seq (ab [aa 50 7,bj 51 50,aF 52 9,bj 53 52,cO 54 (mks 1 24 [AV.esl] (t 53) (t 53)),cO 55 (bld [bb,AV.esl] [(0,1,t 51),(1,1,t 54)]),cO 10 (alloc (AV.agg [bb,AV.esl])),bC 2 10 55] ((ab [aa 56 7,bj 57 56,cO 58 (mov (cN 0))] (block 0 (ab [aV 59 .lss 58 57] ((az 59 skip (exit 0)).seq ((block 1 (ab [aa 60 58,cO 61 (ixaS 1 (t 56) (t 58)),aF 62 61,cO 11 (alloc (bb)),bC 1 11 60,aa 12 62] (ab [aa 63 12,aG 64 129 [t 63]] (block 2 (rangeF (t 64) [65] (ops 0 [aa 13 65]) (block 3 (ab [aF 67 9,aa 68 13,aG 69 80 [t 67,t 68],aa 66 69,aS 70 66 0,aS 71 66 1,aa 14 70,aa 15 71] (ab [aa 72 15] (az 72 (mixS 2 [bW 73 1 10,aF 74 73,aa 75 14,bW 76 1 10,aF 77 76,aa 78 14,cO 79 (ixaS 1 (t 77) (t 78)),aF 80 79,aF 81 11,cO 82 (bldS 1 1 [bb] [(0,1,t 81)]),cO 83 (app 1 8 (t 80) (t 82)),cO 84 (ixaS 1 (t 74) (t 75)),bC 1 84 83] [(0,0),(1,0),(2,0),(3,0),(4,0),(5,0),(6,0),(7,0),(8,0),(9,1),(10,1),(11,0),(12,2)]) skip))))))))).seq (ops 0 [ar 85 .add 58 1,aa 58 85])))).loop)).seq (ab [bt 86 2 10,bC 2 4 86,cO 5 (mov (cN 0))] ret)))))))))))
theorem KX:Is Tryz.prog 112 KM:=mkI Tryz.func112
def Kn:F2:=(F2.mk 35 [RV.t 2] (ab [cO 1 (box (t 0)),cO 2 (mov (cN 0))] ((block 0 (ab [bW 7 0 1,aF 8 7,ar 9 .lss 8 0,aa 10 9,bm 11 10 (fa 0 (t 1)),bm 12 10 (cD 11),bm 13 10 (cB .gtr (t 12) (cN 4096)),cO 14 (pick (t 10) c9 (t 13)),aa 6 14] (az 6 (ab [cO 2 (mov (cN 2))] ret) (ab [bW 16 1 1,aF 17 16,bj 18 17,ar 19 .gtr 18 4096,aa 15 19] (az 15 (ab [cO 2 (mov (cN 5))] ret) skip))))).seq ((ab [bW 20 1 1,aF 21 20,bj 22 21,cO 23 (mov (cN 0))] (block 1 (ab [aV 24 .lss 23 22] ((az 24 skip (exit 1)).seq ((block 2 (ab [cO 25 (ixaS 1 (t 21) (t 23)),aF 26 25,aa 4 26] (ab [aa 27 4,bW 28 0 1,aF 29 28,aG 30 114 [t 27,t 29],aa 5 30] (ab [aa 31 5,ar 32 .neq 31 0] (az 32 (ab [aa 33 5,aa 2 33] ret) skip))))).seq (ops 0 [ar 34 .add 23 1,aa 23 34])))).loop)).seq (ab [cO 2 (mov (cN 0))] ret)))))
theorem Mf:Is Tryz.prog 113 Kn:=mkI Tryz.func113
def Ly:F2:=(F2.mk 35 [RV.t 4] (ab [cO 4 (mov (cN 0))] ((ab [aa 7 0,bj 8 7,cO 9 (mov (cN 0))] (block 0 (ab [aV 10 .lss 9 8] ((az 10 skip (exit 0)).seq ((block 1 (ab [aa 11 9,cO 12 (ixaS 1 (t 7) (t 9)),aF 13 12,aa 5 11,aa 6 13] (block 2 (ab [aa 15 6,ar 16 .lss 15 0,aa 17 16,bm 18 17 (cM 6),bm 19 17 (cM 1),bm 20 17 (cB .geq (t 18) (t 19)),cO 21 (pick (t 17) c9 (t 20)),aa 14 21] (az 14 (ab [cO 4 (mov (cN 2))] ret) (ab [aa 23 5,ar 24 .gtr 23 0,aa 25 24,am 26 25 (cM 0),am 27 25 (cM 5),am 28 25 (cB .sub (t 27) (cN 1)),am 29 25 (ixaS 1 (t 26) (t 28)),am 30 25 (cD 29),am 31 25 (cM 6),am 32 25 (cB .geq (t 30) (t 31)),cO 33 (pick (t 25) (t 32) a9),aa 22 33] (az 22 (ab [cO 4 (mov (cN 14))] ret) skip))))))).seq (ops 0 [ar 34 .add 9 1,aa 9 34])))).loop)).seq (ab [cO 4 (mov (cN 0))] ret))))
theorem LW:Is Tryz.prog 114 Ly:=mkI Tryz.func114
def Lc:F2:=(F2.mk 95 [RV.t 2,RV.t 3] (ab [cO 1 (box (t 0)),cO 2 (mov (c AV.esl)),cO 3 (mov (c AV.esl))] (ab [cO 16 (mkm none),cO 4 (alloc AV.nilm),bC 1 4 16] (ab [cO 17 (mkfn 149 [t 4]),aa 5 17] (ab [cO 6 (mov (c AV.esl))] ((ab [bW 18 1 1,aF 19 18,bj 20 19,cO 21 (mov (cN 0))] (block 0 (ab [aV 22 .lss 21 20] ((az 22 skip (exit 0)).seq ((block 1 (ab [aa 23 21,cO 24 (ixaS 1 (t 19) (t 21)),aF 25 24,aa 7 23,aa 8 25] (ab [aa 26 5,aa 27 8,aG 28 150 [t 27],aa 29 7,cO 30 (bldS 1 1 [bb] [(0,1,t 29)]),cO 31 (bld [AV.esl,AV.esl] [(0,1,t 28),(1,1,t 30)]),cO 32 (call (t 26) [t 31]),cO 9 (alloc (AV.agg [AV.esl,AV.esl])),bC 2 9 32] ((ab [bW 33 0 9,aF 34 33,bj 35 34,ar 36 .eql 35 0] (az 36 (ab [aa 37 6,bW 38 1 9,aF 39 38,cO 40 (bldS 1 1 [AV.esl] [(0,1,t 39)]),cO 41 (app 1 24 (t 37) (t 40)),aa 6 41] (exit 1)) skip)).seq ((ab [aF 42 4,cO 43 (mrng (t 42))] (block 2 (ab [cO 44 (mnxt (t 43)),aS 45 44 0] ((az 45 skip (exit 2)).seq (block 3 (ab [cO 46 (ment (t 43)),aS 47 46 0,aS 48 46 1,cO 11 (alloc (AV.agg [AV.esl,AV.esl])),aa 10 47,bC 2 11 48] ((mixS 1 [bW 49 0 11,aF 50 49,bW 51 0 9,aF 52 51,cO 53 (ixaS 1 (t 52) (cN 0)),aF 54 53,aG 55 146 [t 50,t 54]] [(0,0),(1,0),(2,0),(3,0),(4,0),(5,0),(6,2)]).seq (az 55 (mixS 9 [aF 56 4,aa 57 10,bW 58 0 11,aF 59 58,bW 60 0 9,aF 61 60,aG 62 124 [t 59,t 61],bW 63 1 11,aF 64 63,bW 65 1 9,aF 66 65,aG 67 124 [t 64,t 66],cO 68 (bld [AV.esl,AV.esl] [(0,1,t 62),(1,1,t 67)]),Op2.mk none none (mput (one int) (t 56) (t 57) (t 68))] [(0,0),(1,0),(2,0),(3,0),(4,0),(5,0),(7,0),(8,0),(9,0),(10,0),(6,1),(11,1),(12,0),(13,2)]) skip)))))).loop)).seq (mixS 9 [aF 69 4,bW 70 0 9,aF 71 70,cO 72 (ixaS 1 (t 71) (cN 0)),aF 73 72,bt 74 2 9,Op2.mk none none (mput (one int) (t 69) (t 73) (t 74))] [(0,0),(1,0),(2,0),(3,0),(4,0),(5,0),(6,2)])))))).seq (ops 0 [ar 75 .add 21 1,aa 21 75])))).loop)).seq (ab [cO 12 (mov (c AV.esl))] ((ab [bW 76 0 1,aF 77 76,cO 78 (mov (cN 0))] (block 4 (ab [aV 79 .lss 78 77] ((az 79 skip (exit 4)).seq ((block 5 (ab [aa 80 78,aa 13 80] (ab [aF 82 4,aa 83 13,cO 84 (Ins.mget (one int) (AV.agg [AV.esl,AV.esl]) true (t 82) (t 83)),aa 81 84,aS 85 81 0,aS 86 81 1,cO 14 (alloc (AV.agg [AV.esl,AV.esl])),bC 2 14 85,aa 15 86] (ab [aa 87 15] (az 87 (ops 0 [aa 88 12,bt 89 2 14,cO 90 (bldS 2 1 [AV.esl,AV.esl] [(0,2,t 89)]),cO 91 (app 2 48 (t 88) (t 90)),aa 12 91]) skip))))).seq (ops 0 [ar 92 .add 78 1,aa 78 92])))).loop)).seq (ab [aa 93 12,aa 94 6,aa 2 93,aa 3 94] ret)))))))))
theorem KW:Is Tryz.prog 115 Lc:=mkI Tryz.func115
def KI:F2:=(F2.mk 18 [RV.t 4] (ab [cO 4 (mov a9)] (ab [aa 5 0,bj 6 5,aa 7 1,bj 8 7,aV 9 .add 6 8,aa 10 0,aa 11 1,aG 12 124 [t 10,t 11],bj 13 12,aV 14 .sub 9 13,ar 15 .quo 14 2,ar 16 .rem 15 2,ar 17 .eql 16 1,aa 4 17] ret)))
theorem LB:Is Tryz.prog 116 KI:=mkI Tryz.func116
def Kr:F2:=(F2.mk 39 [RV.t 6] (ab [cO 6 (mov (cN 0))] ((ab [aa 11 0,bj 12 11,cO 13 (mov (cN 0))] (block 0 (ab [aV 14 .lss 13 12] ((az 14 skip (exit 0)).seq ((block 1 (ab [aa 15 13,cO 16 (ixaS 2 (t 11) (t 13)),bt 17 2 16,cO 8 (alloc (AV.agg [bb,bb])),aa 7 15,bC 2 8 17] ((ab [aa 18 7,aa 19 1,bj 20 19,aV 21 .geq 18 20] (az 21 (ab [cO 6 (mov (cN 1))] ret) skip)).seq (ab [aa 22 1,aa 23 7,cO 24 (ixaS 2 (t 22) (t 23)),bt 25 2 24,cO 9 (alloc (AV.agg [bb,bb])),bC 2 9 25] (ab [aa 26 2,bt 27 2 8,bt 28 2 9,cO 29 (call (t 26) [t 27,t 28]),aa 10 29] (ab [aa 30 10,ar 31 .neq 30 0] (az 31 (ab [aa 32 10,aa 6 32] ret) skip))))))).seq (ops 0 [ar 33 .add 13 1,aa 13 33])))).loop)).seq ((ab [aa 34 0,bj 35 34,aa 36 1,bj 37 36,aV 38 .lss 35 37] (az 38 (ab [cO 6 (mov (cN ((-1))))] ret) skip)).seq (ab [cO 6 (mov (cN 0))] ret)))))
theorem Lx:Is Tryz.prog 122 Kr:=mkI Tryz.func122
def Ml:F2:=(F2.mk 17 [RV.t 4] (ab [cO 2 (box (t 0)),cO 3 (box (t 1)),cO 4 (mov (cN 0))] ((mixS 1 [bW 5 0 2,aF 6 5,bW 7 0 3,aF 8 7,aG 9 152 [t 6,t 8],bW 10 1 2,aF 11 10,bW 12 1 3,aF 13 12,aG 14 152 [t 11,t 13],cO 15 (bldS 1 2 [bb] [(0,1,t 9),(1,1,t 14)]),aG 16 151 [t 15],aa 4 16] [(0,0),(1,0),(2,0),(3,0),(5,0),(6,0),(7,0),(8,0),(4,1),(9,2),(10,2),(11,2),(12,0)]).seq ret)))
theorem KJ:Is Tryz.prog 123 Ml:=mkI Tryz.func123
def K4:F2:=(F2.mk 61 [RV.t 4] (ab [cO 4 (mov (c AV.esl))] (ab [aa 6 0,bj 7 6,aa 8 1,bj 9 8,aV 10 .add 7 9,cO 11 (mks 1 8 [bb] (cN 0) (t 10)),aa 5 11] ((block 0 ((ab [aa 12 0,bj 13 12,ar 14 .gtr 13 0,aa 15 14,am 16 15 (cM 1),am 17 15 (lenS (t 16)),am 18 15 (cB .gtr (t 17) (cN 0)),cO 19 (pick (t 15) (t 18) a9)] (az 19 skip (exit 0))).seq (block 1 (block 2 ((ops 1 [aa 25 0,cO 26 (ixaS 1 (t 25) (cN 0)),aF 27 26,aa 28 1,cO 29 (ixaS 1 (t 28) (cN 0)),aF 30 29,aV 31 .lss 27 30,aa 24 31]).seq (az 24 (ops 1 [aa 32 5,aa 33 0,cO 34 (ixaS 1 (t 33) (cN 0)),aF 35 34,cO 36 (bldS 1 1 [bb] [(0,1,t 35)]),cO 37 (app 1 8 (t 32) (t 36)),aa 38 0,cO 39 (sls 1 (t 38) (some (cN 1)) none none),aa 5 37,aa 0 39]) ((ops 1 [aa 41 0,cO 42 (ixaS 1 (t 41) (cN 0)),aF 43 42,aa 44 1,cO 45 (ixaS 1 (t 44) (cN 0)),aF 46 45,aV 47 .gtr 43 46,aa 40 47]).seq (az 40 (ops 1 [aa 48 5,aa 49 1,cO 50 (ixaS 1 (t 49) (cN 0)),aF 51 50,cO 52 (bldS 1 1 [bb] [(0,1,t 51)]),cO 53 (app 1 8 (t 48) (t 52)),aa 54 1,cO 55 (sls 1 (t 54) (some (cN 1)) none none),aa 5 53,aa 1 55]) (ops 1 [aa 20 0,cO 21 (sls 1 (t 20) (some (cN 1)) none none),aa 22 1,cO 23 (sls 1 (t 22) (some (cN 1)) none none),aa 0 21,aa 1 23])))))))).loop).seq (ab [aa 56 5,aa 57 0,cO 58 (app 1 8 (t 56) (t 57)),aa 59 1,cO 60 (app 1 8 (t 58) (t 59)),aa 4 60] ret)))))
theorem JZ:Is Tryz.prog 124 K4:=mkI Tryz.func124
def K1:F2:=(F2.mk 21 [RV.t 2] (ab [cO 1 (box (t 0)),cO 2 (mov a9)] (ab [bW 3 0 1,aF 4 3,ar 5 .geq 4 0,aa 6 5,am 7 6 (fa 0 (t 1)),am 8 6 (cD 7),am 9 6 (cB .lss (t 8) (cN 8)),cO 10 (pick (t 6) (t 9) a9),aa 11 10,am 12 11 (fa 1 (t 1)),am 13 11 (cD 12),am 14 11 (cB .geq (t 13) (cN 0)),cO 15 (pick (t 11) (t 14) a9),aa 16 15,am 17 16 (fa 1 (t 1)),am 18 16 (cD 17),am 19 16 (cB .leq (t 18) (cN 1048576)),cO 20 (pick (t 16) (t 19) a9),aa 2 20] ret)))
theorem J9:Is Tryz.prog 125 K1:=mkI Tryz.func125
def Ke:F2:=(F2.mk 29 [RV.t 4] (ab [cO 2 (box (t 0)),cO 3 (box (t 1)),cO 4 (mov (cN 0))] ((block 0 (ab [bW 6 0 2,aF 7 6,bW 8 0 3,aF 9 8,aV 10 .lss 7 9,aa 5 10] (az 5 (ab [cO 4 (mov (cN ((-1))))] ret) (ab [bW 12 0 2,aF 13 12,bW 14 0 3,aF 15 14,aV 16 .gtr 13 15,aa 11 16] (az 11 (ab [cO 4 (mov (cN 1))] ret) (ab [bW 18 1 2,aF 19 18,bW 20 1 3,aF 21 20,aV 22 .lss 19 21,aa 17 22] (az 17 (ab [cO 4 (mov (cN ((-1))))] ret) (ab [bW 24 1 2,aF 25 24,bW 26 1 3,aF 27 26,aV 28 .gtr 25 27,aa 23 28] (az 23 (ab [cO 4 (mov (cN 1))] ret) skip))))))))).seq (ab [cO 4 (mov (cN 0))] ret))))
theorem JC:Is Tryz.prog 126 Ke:=mkI Tryz.func126
def LD:F2:=(F2.mk 18 [RV.t 4] (ab [cO 3 (box (t 1)),cO 4 (mov a9)] ((ab [cO 5 (mov (cN 0))] (block 0 ((ab [aa 6 5,aa 7 0,bj 8 7,aV 9 .lss 6 8] (az 9 skip (exit 0))).seq ((block 1 ((ops 1 [aa 12 0,aa 13 5,cO 14 (ixaS 2 (t 12) (t 13)),bt 15 2 14,bt 16 2 3,cO 17 (binS BinOp.eql [int,int] (t 15) (t 16))]).seq (az 17 (ab [cO 4 (mov c9)] ret) skip))).seq (ops 0 [aa 10 5,ar 11 .add 10 1,aa 5 11]))).loop)).seq (ab [cO 4 (mov a9)] ret))))
theorem JK:Is Tryz.prog 127 LD:=mkI Tryz.func127
def L4:F2:=(F2.mk 36 [RV.t 2] (ab [cO 2 (mov (cN 0))] ((block 0 (ab [aa 6 0,bj 7 6,ar 8 .eql 7 0,aa 5 8] (az 5 (ab [cO 2 (mov (cN 16))] ret) (ab [aa 10 0,bj 11 10,ar 12 .gtr 11 8,aa 9 12] (az 9 (ab [cO 2 (mov (cN 5))] ret) skip))))).seq ((ab [aa 13 0,bj 14 13,cO 15 (mov (cN 0))] (block 1 (ab [aV 16 .lss 15 14] ((az 16 skip (exit 1)).seq ((block 2 (ab [aa 17 15,cO 18 (ixaS 2 (t 13) (t 15)),bt 19 2 18,cO 4 (alloc (AV.agg [bb,bb])),aa 3 17,bC 2 4 19] ((ab [bt 20 2 4,aG 21 153 [t 20],cO 22 (un UnOp.not (t 21))] (az 22 (ab [cO 2 (mov (cN 2))] ret) skip)).seq ((mixS 1 [aa 23 3,ar 24 .gtr 23 0,aa 25 24,am 26 25 (cM 0),am 27 25 (cM 3),am 28 25 (cB .sub (t 27) (cN 1)),am 29 25 (ixaS 2 (t 26) (t 28)),am 30 25 (ldn 2 (t 29)),am 31 25 (ldn 2 (t 4)),am 32 25 (call (cF 123) [t 30,t 31]),am 33 25 (cB .geq (t 32) (cN 0)),cO 34 (pick (t 25) (t 33) a9)] [(0,0),(1,0),(2,0),(3,0),(4,0),(5,0),(6,0),(7,0),(8,0),(9,2),(10,0),(11,0)]).seq (az 34 (ab [cO 2 (mov (cN 14))] ret) skip))))).seq (ops 0 [ar 35 .add 15 1,aa 15 35])))).loop)).seq (ab [cO 2 (mov (cN 0))] ret)))))
theorem KA:Is Tryz.prog 128 L4:=mkI Tryz.func128
def Li:F2:=(F2.mk 4 [RV.t 2] (ab [cO 1 (box (t 0)),cO 2 (mov (c AV.nilf))] (ab [cO 3 (mkfn 154 [t 1]),aa 2 3] ret)))
theorem JN:Is Tryz.prog 129 Li:=mkI Tryz.func129
def IR:F2:=(F2.mk 14 [] (ab [aa 5 0,bj 6 5,aa 4 6] (ops 0 [aa 7 0,aa 8 4,aa 9 4,cO 10 (conv IntKind.u64 (t 9)),aG 11 156 [t 10],aa 12 1,aG 13 155 ([t 7,cN ((0)),t 8,t 11,t 12])])))
theorem HS:Is Tryz.prog 130 IR:=mkI Tryz.func130
def Ld:F2:=(F2.mk 10 [RV.t 6] (ab [cO 3 (box (t 0)),cO 5 (box (t 2)),cO 6 (mov a9)] (ab [aa 7 1,cO 8 (mkfn 157 [t 3,t 5]),aG 9 48 [t 7,t 8],aa 6 9] ret)))
theorem LU:Is Tryz.prog 131 Ld:=mkI Tryz.func131
def LQ:F2:=(F2.mk 49 [RV.t 6,RV.t 7] (ab [cO 6 (mov (cN 0)),cO 7 (mov a9)] (ab [aa 12 0,bj 13 12,aa 8 13] (ab [aa 14 8,cO 9 (mov (cN 0)),aa 10 14] ((block 0 ((ab [aa 15 9,aa 16 10,aV 17 .lss 15 16] (az 17 skip (exit 0))).seq (block 1 (ab [aa 18 9,aa 19 10,aV 20 .add 18 19,cO 21 (conv IntKind.u64 (t 20)),cO 22 (cB .shr (t 21) (c (AV.int IntKind.u64 (1)))),cO 23 (conv IntKind.i64 (t 22)),aa 11 23] (ab [aa 24 2,aa 25 0,aa 26 11,cO 27 (ixaS 1 (t 25) (t 26)),aF 28 27,aa 29 1,cO 30 (call (t 24) [t 28,t 29]),ar 31 .lss 30 0] (az 31 (ops 0 [aa 32 11,ar 33 .add 32 1,aa 9 33]) (ops 0 [aa 34 11,aa 10 34])))))).loop).seq (ab [aa 35 9,aa 36 9,aa 37 8,aV 38 .lss 36 37,aa 39 38,am 40 39 (cM 2),am 41 39 (cM 0),am 42 39 (cM 9),am 43 39 (ixaS 1 (t 41) (t 42)),am 44 39 (cD 43),am 45 39 (cM 1),am 46 39 (call (t 40) [t 44,t 45]),am 47 39 (cB .eql (t 46) (cN 0)),cO 48 (pick (t 39) (t 47) a9),aa 6 35,aa 7 48] ret))))))
theorem LG:Is Tryz.prog 132 LQ:=mkI Tryz.func132
def LL:F2:=(F2.mk 52 [RV.cn 2 2,RV.t 3] (ab [cO 1 (box (t 0)),cO 2 (alloc (AV.agg [bb,AV.esl])),cO 3 (mov (cN 0))] ((ab [bt 10 2 1,aG 11 113 [t 10],aa 4 11] (ab [aa 12 4,ar 13 .neq 12 0] (az 13 (ab [cO 14 (bld [bb,AV.esl] []),aa 15 4,bC 2 2 14,aa 3 15] ret) skip))).seq ((ops 1 [bW 16 1 1,aF 17 16,bj 18 17,bW 19 0 1,aF 20 19,cO 21 (mks 1 24 [AV.esl] (t 20) (t 20)),cO 22 (bld [bb,AV.esl] [(0,1,t 18),(1,1,t 21)]),cO 5 (alloc (AV.agg [bb,AV.esl])),bC 2 5 22]).seq ((ab [bW 23 1 1,aF 24 23,bj 25 24,cO 26 (mov (cN 0))] (block 0 (ab [aV 27 .lss 26 25] ((az 27 skip (exit 0)).seq ((block 1 (ab [aa 28 26,cO 29 (ixaS 1 (t 24) (t 26)),aF 30 29,aa 6 28,aa 7 30] (ab [aa 31 7,bj 32 31,cO 33 (mov (cN 0))] (block 2 (ab [aV 34 .lss 33 32] ((az 34 skip (exit 2)).seq ((block 3 (ab [cO 35 (ixaS 1 (t 31) (t 33)),aF 36 35,aa 9 36] (mixS 2 [bW 37 1 5,aF 38 37,aa 39 9,bW 40 1 5,aF 41 40,aa 42 9,cO 43 (ixaS 1 (t 41) (t 42)),aF 44 43,aa 45 6,cO 46 (bldS 1 1 [bb] [(0,1,t 45)]),cO 47 (app 1 8 (t 44) (t 46)),cO 48 (ixaS 1 (t 38) (t 39)),bC 1 48 47] [(0,0),(1,0),(2,0),(3,0),(4,0),(5,0),(6,0),(7,0),(8,0),(9,1),(10,1),(11,0),(12,2)]))).seq (ops 0 [ar 49 .add 33 1,aa 33 49])))).loop)))).seq (ops 0 [ar 50 .add 26 1,aa 26 50])))).loop)).seq (ab [bt 51 2 5,bC 2 2 51,cO 3 (mov (cN 0))] ret))))))
theorem K5:Is Tryz.prog 133 LL:=mkI Tryz.func133
def KT:F2:=(F2.mk 39 [RV.cn 2 2,RV.t 3] (ab [cO 1 (box (t 0)),cO 2 (alloc (AV.agg [bb,AV.esl])),cO 3 (mov (cN 0))] ((ab [bt 10 2 1,aG 11 113 [t 10],aa 4 11] (ab [aa 12 4,ar 13 .neq 12 0] (az 13 (ab [cO 14 (bld [bb,AV.esl] []),aa 15 4,bC 2 2 14,aa 3 15] ret) skip))).seq (ab [bW 16 0 1,aF 17 16,cO 18 (bld [bb,AV.esl] [(0,1,t 17)]),cO 5 (alloc (AV.agg [bb,AV.esl])),bC 2 5 18] (ab [bt 20 2 1,aG 21 115 [t 20],aa 19 21,aS 22 19 0,aS 23 19 1,aa 6 22,aa 7 23] ((ab [aa 24 6,bj 25 24,cO 26 (mov (cN 0))] (block 0 (ab [aV 27 .lss 26 25] ((az 27 skip (exit 0)).seq ((block 1 (ab [cO 28 (ixaS 2 (t 24) (t 26)),bt 29 2 28,cO 9 (alloc (AV.agg [AV.esl,AV.esl])),bC 2 9 29] (ops 0 [bW 30 1 5,aF 31 30,bW 32 0 9,aF 33 32,cO 34 (bldS 1 1 [AV.esl] [(0,1,t 33)]),cO 35 (app 1 24 (t 31) (t 34)),bW 36 1 5,bC 1 36 35]))).seq (ops 0 [ar 37 .add 26 1,aa 26 37])))).loop)).seq (ab [bt 38 2 5,bC 2 2 38,cO 3 (mov (cN 0))] ret)))))))
theorem LX:Is Tryz.prog 134 KT:=mkI Tryz.func134
def KB:F2:=(F2.mk 8 [RV.t 2] (ab [cO 2 (mov (c AV.esl))] ((ab [aa 3 0,cO 4 (snil false (t 3))] (az 4 (ab [cO 2 (mov (c AV.esl))] ret) skip)).seq (ab [cO 5 (bldS 1 0 [AV.esl] []),aa 6 0,cO 7 (app 1 24 (t 5) (t 6)),aa 2 7] ret))))
theorem L0:Is Tryz.prog 135 KB:=mkI Tryz.func135
def Jd:F2:=(F2.mk 8 [RV.t 2] (ab [cO 2 (mov (c AV.esl))] ((ab [aa 3 0,cO 4 (snil false (t 3))] (az 4 (ab [cO 2 (mov (c AV.esl))] ret) skip)).seq (ab [cO 5 (bldS 2 0 [bb,bb] []),aa 6 0,cO 7 (app 2 16 (t 5) (t 6)),aa 2 7] ret))))
theorem HR:Is Tryz.prog 136 Jd:=mkI Tryz.func136
def J8:F2:=(F2.mk 24 [RV.t 4,RV.t 5] (ab [cO 4 (mov (c AV.esl)),cO 5 (mov (cN 0))] ((ab [aa 7 0,aG 8 128 [t 7],aa 6 8] (ab [aa 9 6,ar 10 .neq 9 0] (az 10 (ab [aa 11 6,cO 4 (mov (c AV.esl)),aa 5 11] ret) skip))).seq ((ab [aa 12 1,ar 13 .lss 12 1,aa 14 13,bm 15 14 (cM 1),bm 16 14 (cM 0),bm 17 14 (lenS (t 16)),bm 18 14 (cB .gtr (t 15) (t 17)),cO 19 (pick (t 14) c9 (t 18))] (az 19 (ab [cO 4 (mov (c AV.esl)),cO 5 (mov (cN 2))] ret) skip)).seq (ab [aa 20 0,aa 21 1,aG 22 160 [t 20,t 21],aG 23 159 [t 22],aa 4 23,cO 5 (mov (cN 0))] ret)))))
theorem KU:Is Tryz.prog 137 J8:=mkI Tryz.func137
def La:F2:=(F2.mk 16 [RV.cn 2 16] (ab [cO 2 (alloc (AV.agg [bb,bb,bb,bb,bb,bb,bb,bb,bb,bb,bb,bb,bb,bb,bb,bb]))] (ab [cO 3 (alloc (AV.agg [bb,bb,bb,bb,bb,bb,bb,bb,bb,bb,bb,bb,bb,bb,bb,bb]))] ((ab [cO 5 (mov (cN 0))] (block 0 (ab [ar 6 .lss 5 8] ((az 6 skip (exit 0)).seq ((block 1 (ab [aa 7 5,aa 4 7] (ops 0 [aa 8 4,cO 9 (ixaA 8 2 (t 3) (t 8)),bW 10 0 9,Op2.mk none none (Ins.st 1 (t 10) (cN ((-1))))]))).seq (ops 0 [ar 11 .add 5 1,aa 5 11])))).loop)).seq (ab [cO 12 (slp 8 2 (t 3)),aa 13 0,cO 14 (cpy 2 (t 12) (t 13))] (ab [bt 15 16 3,bC 16 2 15] ret))))))
theorem KL:Is Tryz.prog 138 La:=mkI Tryz.func138
def Md:F2:=(F2.mk 36 [RV.t 2] (ab [cO 2 (mov (c AV.esl))] (ab [cO 3 (mov (cN 0))] ((ab [aa 9 0,bj 10 9,cO 11 (mov (cN 0))] (block 0 (ab [aV 12 .lss 11 10] ((az 12 skip (exit 0)).seq ((block 1 (ab [cO 13 (ixaS 1 (t 9) (t 11)),aF 14 13,aa 5 14] (ab [aa 15 3,aa 16 5,bj 17 16,aV 18 .add 15 17,aa 3 18] (ab [aa 19 3,ar 20 .lss 19 0] (az 20 (ops 0 [cO 21 dead,Op2.mk none none dead]) skip))))).seq (ops 0 [ar 22 .add 11 1,aa 11 22])))).loop)).seq (ab [aa 23 3,aG 24 161 [c AV.esl,t 23],aa 6 24] ((ab [aa 25 0,bj 26 25,cO 27 (mov (cN 0))] (block 2 (ab [aV 28 .lss 27 26] ((az 28 skip (exit 2)).seq ((block 3 (ab [cO 29 (ixaS 1 (t 25) (t 27)),aF 30 29,aa 8 30] (ops 0 [aa 31 6,aa 32 8,cO 33 (app 2 16 (t 31) (t 32)),aa 6 33]))).seq (ops 0 [ar 34 .add 27 1,aa 27 34])))).loop)).seq (ab [aa 35 6,aa 2 35] ret)))))))
theorem K0:Is Tryz.prog 141 Md:=mkI Tryz.func141
def Mj:F2:=(F2.mk 6 [RV.t 2] (ab [cO 2 (mov a9)] (ab [aa 3 0,bj 4 3,ar 5 .leq 4 10,aa 2 5] ret)))
theorem Ka:Is Tryz.prog 145 Mj:=mkI Tryz.func145
def LP:F2:=(F2.mk 14 [RV.t 4] (ab [cO 4 (mov a9)] (ab [aa 8 0,aa 9 1,aG 10 163 [t 8,t 9],aa 7 10,aS 11 7 0,aS 12 7 1,aa 5 11,aa 6 12] (ab [aa 13 6,aa 4 13] ret))))
theorem L2:Is Tryz.prog 146 LP:=mkI Tryz.func146
def KZ:F2:=(F2.mk 11 [] (ab [aa 3 0,bj 4 3,aa 2 4] (ops 0 [aa 5 0,aa 6 2,aa 7 2,cO 8 (conv IntKind.u64 (t 7)),aG 9 156 [t 8],aG 10 164 ([t 5,cN ((0)),t 6,t 9])])))
theorem J1:Is Tryz.prog 147 KZ:=mkI Tryz.func147
def KE:F2:=(F2.mk 38 [RV.cn 3 2] (ab [cO 2 (box (t 0)),cO 3 (alloc (AV.agg [AV.esl,AV.esl]))] ((ab [cO 4 (mov (cN 0))] (block 0 ((ab [aa 7 4,bW 8 0 2,aF 9 8,bj 10 9,aV 11 .lss 7 10] (az 11 skip (exit 0))).seq (block 1 ((mixS 9 [aF 13 1,bW 14 0 2,aF 15 14,aa 16 4,cO 17 (ixaS 1 (t 15) (t 16)),aF 18 17,cO 19 (Ins.mget (one int) (AV.agg [AV.esl,AV.esl]) true (t 13) (t 18)),aa 12 19,aS 20 12 0,aS 21 12 1,cO 5 (alloc (AV.agg [AV.esl,AV.esl])),bC 2 5 20,aa 6 21] [(0,0),(1,0),(2,0),(3,0),(4,0),(5,0),(6,4),(7,0),(8,0),(9,0),(10,1),(11,2),(12,0)]).seq ((ab [aa 22 6,cO 23 (un UnOp.not (t 22))] (az 23 (ab [aa 24 4,ar 25 .add 24 1,aa 4 25] (exit 1)) skip)).seq (mixS 1 [bW 26 0 2,aF 27 26,bW 28 0 5,aF 29 28,aG 30 124 [t 27,t 29],bW 31 1 2,aF 32 31,bW 33 1 5,aF 34 33,aG 35 124 [t 32,t 34],cO 36 (bld [AV.esl,AV.esl] [(0,1,t 30),(1,1,t 35)]),bC 2 2 36] [(0,0),(1,0),(2,0),(3,0),(5,0),(6,0),(7,0),(8,0),(4,1),(9,2),(10,0),(11,2)]))))).loop)).seq (ab [bt 37 2 2,bC 2 3 37] ret))))
theorem JV:Is Tryz.prog 149 KE:=mkI Tryz.func149
def LC:F2:=(F2.mk 8 [RV.t 2] (ab [cO 2 (mov (c AV.esl))] ((ab [aa 3 0,cO 4 (snil false (t 3))] (az 4 (ab [cO 2 (mov (c AV.esl))] ret) skip)).seq (ab [cO 5 (bldS 1 0 [bb] []),aa 6 0,cO 7 (app 1 8 (t 5) (t 6)),aa 2 7] ret))))
theorem Lh:Is Tryz.prog 150 LC:=mkI Tryz.func150
def K9:F2:=(F2.mk 18 [RV.t 2] (ab [cO 2 (mov (cN 0))] (ab [cO 3 (mov (cN 0))] ((ab [aa 6 0,bj 7 6,cO 8 (mov (cN 0))] (block 0 (ab [aV 9 .lss 8 7] ((az 9 skip (exit 0)).seq ((block 1 (ab [cO 10 (ixaS 1 (t 6) (t 8)),aF 11 10,aa 5 11] (ab [aa 12 5,aa 13 3,aV 14 .neq 12 13] (az 14 (ab [aa 15 5,aa 2 15] ret) skip)))).seq (ops 0 [ar 16 .add 8 1,aa 8 16])))).loop)).seq (ab [aa 17 3,aa 2 17] ret)))))
theorem JW:Is Tryz.prog 151 K9:=mkI Tryz.func151
def J4:F2:=(F2.mk 20 [RV.t 4] (ab [cO 4 (mov (cN 0))] (ab [aa 7 0,aG 8 165 [t 7],aa 5 8] (ab [aa 9 1,aG 10 165 [t 9],aa 6 10] ((ab [aa 11 5] (az 11 ((ab [aa 12 6] (az 12 (ab [cO 4 (mov (cN 0))] ret) skip)).seq (ab [cO 4 (mov (cN ((-1))))] ret)) skip)).seq ((ab [aa 13 6] (az 13 (ab [cO 4 (mov (cN 1))] ret) skip)).seq ((ab [aa 14 0,aa 15 1,aV 16 .lss 14 15] (az 16 (ab [cO 4 (mov (cN ((-1))))] ret) skip)).seq ((ab [aa 17 0,aa 18 1,aV 19 .gtr 17 18] (az 19 (ab [cO 4 (mov (cN 1))] ret) skip)).seq (ab [cO 4 (mov (cN 0))] ret)))))))))
theorem Ku:Is Tryz.prog 152 J4:=mkI Tryz.func152
def LJ:F2:=(F2.mk 21 [RV.t 2] (ab [cO 1 (box (t 0)),cO 2 (mov a9)] (ab [bW 3 0 1,aF 4 3,ar 5 .geq 4 0,aa 6 5,am 7 6 (fa 0 (t 1)),am 8 6 (cD 7),am 9 6 (cB .lss (t 8) (cN 8)),cO 10 (pick (t 6) (t 9) a9),aa 11 10,am 12 11 (fa 1 (t 1)),am 13 11 (cD 12),am 14 11 (cB .geq (t 13) (cN 0)),cO 15 (pick (t 11) (t 14) a9),aa 16 15,am 17 16 (fa 1 (t 1)),am 18 16 (cD 17),am 19 16 (cB .leq (t 18) (cN 1048576)),cO 20 (pick (t 16) (t 19) a9),aa 2 20] ret)))
theorem L1:Is Tryz.prog 153 LJ:=mkI Tryz.func153
def J7:F2:=(F2.mk 27 [] (ab [aF 4 1,bj 5 4,cO 6 (mov (cN 0))] (block 0 (ab [aV 7 .lss 6 5] ((az 7 skip (exit 0)).seq ((block 1 (ab [aa 8 6,aa 3 8] ((mixS 1 [aF 9 1,bj 10 9,ar 11 .gtr 10 1,aa 12 11,am 13 12 (cM 0),am 14 12 (cD 1),am 15 12 (cM 3),am 16 12 (sls 2 (t 14) none (some (t 15)) none),am 17 12 (cD 1),am 18 12 (cM 3),am 19 12 (cB .add (t 18) (cN 1)),am 20 12 (sls 2 (t 17) (some (t 19)) none none),am 21 12 (bldS 1 2 [AV.esl] [(0,1,t 16),(1,1,t 20)]),am 22 12 (call (cF 141) [t 21]),am 23 12 (call (t 13) [t 22]),am 24 12 (un UnOp.not (t 23)),cO 25 (pick (t 12) (t 24) a9)] [(0,0),(1,0),(2,0),(3,0),(4,0),(5,0),(6,0),(7,0),(8,0),(9,0),(10,0),(11,0),(12,2),(13,2),(14,2),(15,0),(16,0)]).seq (az 25 ret skip)))).seq (ops 0 [ar 26 .add 6 1,aa 6 26])))).loop)))
theorem JX:Is Tryz.prog 154 J7:=mkI Tryz.func154
def IX:F2:=(F2.mk 148 [] (ab [cO 10 (mov c9)] (ab [cO 11 (mov c9)] (block 0 (block 1 (ab [aa 21 2,aa 22 1,aV 23 .sub 21 22,aa 12 23] ((ab [aa 24 12,ar 25 .leq 24 12] (az 25 (ab [aa 26 0,aa 27 1,aa 28 2,aa 29 4,aG 30 166 [t 26,t 27,t 28,t 29]] ret) skip)).seq ((ab [aa 31 3,ar 32 .eql 31 0] (az 32 (ab [aa 33 0,aa 34 1,aa 35 2,aa 36 4,aG 37 167 [t 33,t 34,t 35,t 36]] ret) skip)).seq ((ab [aa 38 10,cO 39 (un UnOp.not (t 38))] (az 39 (ab [aa 40 0,aa 41 1,aa 42 2,aa 43 4,aG 44 168 [t 40,t 41,t 42,t 43]] (ops 0 [aa 45 3,ar 46 .sub 45 1,aa 3 46])) skip)).seq (ab [aa 48 0,aa 49 1,aa 50 2,aa 51 4,aG 52 169 [t 48,t 49,t 50,t 51],aa 47 52,aS 53 47 0,aS 54 47 1,aa 13 53,aa 14 54] ((ab [aa 55 14,ar 56 .eql 55 2] (az 56 (ab [aa 57 0,aa 58 1,aa 59 2,aa 60 4,aG 61 170 [t 57,t 58,t 59,t 60]] (ab [aa 62 2,ar 63 .sub 62 1,aa 64 13,aa 65 1,aV 66 .sub 64 65,aV 67 .sub 63 66,aa 13 67] (ops 0 [cO 14 (mov (cN 1))]))) skip)).seq ((ab [aa 68 10,aa 69 68,am 70 69 (cM 11),cO 71 (pick (t 69) (t 70) a9),aa 72 71,am 73 72 (cM 14),am 74 72 (cB .eql (t 73) (cN 1)),cO 75 (pick (t 72) (t 74) a9)] (az 75 (ab [aa 76 0,aa 77 1,aa 78 2,aa 79 4,aG 80 171 [t 76,t 77,t 78,t 79]] (az 80 ret skip)) skip)).seq (((mixS 1 [aa 81 1,ar 82 .gtr 81 0,aa 83 82,am 84 83 (cM 4),am 85 83 (cM 0),am 86 83 (cM 1),am 87 83 (cB .sub (t 86) (cN 1)),am 88 83 (ixaS 1 (t 85) (t 87)),am 89 83 (cD 88),am 90 83 (cM 0),am 91 83 (cM 13),am 92 83 (ixaS 1 (t 90) (t 91)),am 93 83 (cD 92),am 94 83 (call (t 84) [t 89,t 93]),am 95 83 (cB .lss (t 94) (cN 0)),am 96 83 (un UnOp.not (t 95)),cO 97 (pick (t 83) (t 96) a9)] [(0,0),(1,0),(2,0),(3,0),(4,0),(5,0),(6,0),(7,0),(8,0),(9,0),(10,0),(11,0),(12,0),(13,2),(14,0),(15,0),(16,0)]).seq (az 97 (ab [aa 98 0,aa 99 1,aa 100 2,aa 101 13,aa 102 4,aG 103 172 [t 98,t 99,t 100,t 101,t 102],aa 15 103] (ab [aa 104 15,aa 1 104] (exit 1))) skip)).seq (ab [aa 106 0,aa 107 1,aa 108 2,aa 109 13,aa 110 4,aG 111 173 [t 106,t 107,t 108,t 109,t 110],aa 105 111,aS 112 105 0,aS 113 105 1,aa 16 112,aa 17 113] (ab [aa 114 17,aa 11 114] (ab [aa 115 16,aa 116 1,aV 117 .sub 115 116,aa 118 2,aa 119 16,aV 120 .sub 118 119,aa 18 117,aa 19 120] (ab [aa 121 12,ar 122 .quo 121 8,aa 20 122] (ab [aa 123 18,aa 124 19,aV 125 .lss 123 124] (az 125 (ab [aa 126 18,aa 127 20,aV 128 .geq 126 127,aa 10 128] (ab [aa 129 0,aa 130 1,aa 131 16,aa 132 3,aa 133 4,aG 134 155 [t 129,t 130,t 131,t 132,t 133]] (ops 0 [aa 135 16,ar 136 .add 135 1,aa 1 136]))) (ab [aa 137 19,aa 138 20,aV 139 .geq 137 138,aa 10 139] (ab [aa 140 0,aa 141 16,ar 142 .add 141 1,aa 143 2,aa 144 3,aa 145 4,aG 146 155 [t 140,t 142,t 143,t 144,t 145]] (ops 0 [aa 147 16,aa 2 147])))))))))))))))))).loop))))
theorem HZ:Is Tryz.prog 155 IX:=mkI Tryz.func155
def It:F2:=(F2.mk 8 [RV.t 2] (ab [cO 2 (mov (cN 0))] ((C2.cond a9 (ab [aa 3 0,cO 4 (conv IntKind.u32 (t 3)),aG 5 174 [t 4],aa 2 5] ret) skip).seq (ab [aa 6 0,aG 7 175 [t 6],aa 2 7] ret))))
theorem HL:Is Tryz.prog 156 It:=mkI Tryz.func156
def LZ:F2:=(F2.mk 21 [RV.t 4] (ab [cO 4 (mov a9)] ((mixS 1 [aF 5 1,aa 6 0,cO 7 (ixaS 1 (t 5) (t 6)),aF 8 7,bj 9 8,aF 10 2,bj 11 10,aV 12 .gtr 9 11,aa 13 12,am 14 13 (cD 2),am 15 13 (cD 1),am 16 13 (cM 0),am 17 13 (ixaS 1 (t 15) (t 16)),am 18 13 (cD 17),am 19 13 (call (cF 158) [t 14,t 18]),cO 20 (pick (t 13) (t 19) a9),aa 4 20] [(0,0),(1,0),(2,0),(3,0),(4,0),(5,0),(6,0),(7,0),(8,0),(9,0),(10,0),(11,0),(12,0),(13,0),(14,2),(15,0),(16,0)]).seq ret)))
theorem LN:Is Tryz.prog 157 LZ:=mkI Tryz.func157
def LY:F2:=(F2.mk 29 [RV.t 4] (ab [cO 4 (mov a9)] ((ab [aa 7 0,bj 8 7,cO 9 (mov (cN 0))] (block 0 (ab [aV 10 .lss 9 8] ((az 10 skip (exit 0)).seq ((block 1 (ab [cO 11 (ixaS 2 (t 7) (t 9)),bt 12 2 11,cO 6 (alloc (AV.agg [bb,bb])),bC 2 6 12] ((block 2 (((ops 1 [aa 13 1,bj 14 13,ar 15 .gtr 14 0,aa 16 15,am 17 16 (cM 1),am 18 16 (ixaS 2 (t 17) (cN 0)),am 19 16 (ldn 2 (t 18)),am 20 16 (ldn 2 (t 6)),am 21 16 (binS BinOp.neq [int,int] (t 19) (t 20)),cO 22 (pick (t 16) (t 21) a9)]).seq (az 22 skip (exit 2))).seq (block 3 (ops 0 [aa 23 1,cO 24 (sls 2 (t 23) (some (cN 1)) none none),aa 1 24]))).loop).seq (ab [aa 25 1,bj 26 25,ar 27 .eql 26 0] (az 27 (ab [cO 4 (mov a9)] ret) skip))))).seq (ops 0 [ar 28 .add 9 1,aa 9 28])))).loop)).seq (ab [cO 4 (mov c9)] ret))))
theorem K7:Is Tryz.prog 158 LY:=mkI Tryz.func158
def KQ:F2:=(F2.mk 5 [RV.t 2] (ab [cO 2 (mov (c AV.esl))] (ab [aa 3 0,aG 4 176 [c AV.esl,t 3],aa 2 4] ret)))
theorem LS:Is Tryz.prog 159 KQ:=mkI Tryz.func159
def Me:F2:=(F2.mk 6 [RV.t 4] (ab [cO 2 (box (t 0)),cO 3 (box (t 1)),cO 4 (mov (c AV.nilf))] (ab [cO 5 (mkfn 177 [t 3,t 2]),aa 4 5] ret)))
theorem Lp:Is Tryz.prog 160 Me:=mkI Tryz.func160
def LF:F2:=(F2.mk 27 [RV.t 4] (ab [cO 4 (mov (c AV.esl))] ((ab [aa 5 1,ar 6 .lss 5 0] (az 6 (ops 0 [cO 7 dead,Op2.mk none none dead]) skip)).seq ((ab [aa 8 1,aa 9 0,cO 10 (capE (t 9)),aa 11 0,bj 12 11,aV 13 .sub 10 12,aV 14 .sub 8 13,aa 1 14] (ab [aa 15 1,ar 16 .gtr 15 0] (az 16 (ops 0 [aa 17 0,aa 18 0,cO 19 (capE (t 18)),cO 20 (sls 2 (t 17) none (some (t 19)) none),aa 21 1,cO 22 (apz 2 16 [bb,bb] (t 20) (t 21)),aa 23 0,bj 24 23,cO 25 (sls 2 (t 22) none (some (t 24)) none),aa 0 25]) skip))).seq (ab [aa 26 0,aa 4 26] ret)))))
theorem Lo:Is Tryz.prog 161 LF:=mkI Tryz.func161
def K8:F2:=(F2.mk 54 [RV.t 4,RV.t 5] (ab [cO 4 (mov (cN 0)),cO 5 (mov a9)] (ab [aa 10 0,bj 11 10,aa 6 11] (ab [aa 12 6,cO 7 (mov (cN 0)),aa 8 12] ((block 0 ((ab [aa 13 7,aa 14 8,aV 15 .lss 13 14] (az 15 skip (exit 0))).seq (block 1 (ab [aa 16 7,aa 17 8,aV 18 .add 16 17,cO 19 (conv IntKind.u64 (t 18)),cO 20 (cB .shr (t 19) (c (AV.int IntKind.u64 (1)))),cO 21 (conv IntKind.i64 (t 20)),aa 9 21] (ab [aa 22 0,aa 23 9,cO 24 (ixaS 1 (t 22) (t 23)),aF 25 24,aa 26 1,aG 27 187 [t 25,t 26]] (az 27 (ops 0 [aa 28 9,ar 29 .add 28 1,aa 7 29]) (ops 0 [aa 30 9,aa 8 30])))))).loop).seq (ab [aa 31 7,aa 32 7,aa 33 6,aV 34 .lss 32 33,aa 35 34,am 36 35 (cM 0),am 37 35 (cM 7),am 38 35 (ixaS 1 (t 36) (t 37)),am 39 35 (cD 38),am 40 35 (cM 1),am 41 35 (cB .eql (t 39) (t 40)),am 42 35 (cM 41),bm 43 42 (cM 0),bm 44 42 (cM 7),bm 45 42 (ixaS 1 (t 43) (t 44)),bm 46 42 (cD 45),bm 47 42 (call (cF 188) [t 46]),bm 48 42 (cM 47),am 49 48 (cM 1),am 50 48 (call (cF 188) [t 49]),bm 51 42 (pick (t 48) (t 50) a9),am 52 35 (pick (t 42) c9 (t 51)),cO 53 (pick (t 35) (t 52) a9),aa 4 31,aa 5 53] ret))))))
theorem Kv:Is Tryz.prog 163 K8:=mkI Tryz.func163
def LI:F2:=(F2.mk 134 [] (ab [cO 8 (mov c9)] (ab [cO 9 (mov c9)] (block 0 (block 1 (ab [aa 19 2,aa 20 1,aV 21 .sub 19 20,aa 10 21] ((ab [aa 22 10,ar 23 .leq 22 12] (az 23 (ab [aa 24 0,aa 25 1,aa 26 2,aG 27 189 [t 24,t 25,t 26]] ret) skip)).seq ((ab [aa 28 3,ar 29 .eql 28 0] (az 29 (ab [aa 30 0,aa 31 1,aa 32 2,aG 33 190 [t 30,t 31,t 32]] ret) skip)).seq ((ab [aa 34 8,cO 35 (un UnOp.not (t 34))] (az 35 (ab [aa 36 0,aa 37 1,aa 38 2,aG 39 191 [t 36,t 37,t 38]] (ops 0 [aa 40 3,ar 41 .sub 40 1,aa 3 41])) skip)).seq (ab [aa 43 0,aa 44 1,aa 45 2,aG 46 192 [t 43,t 44,t 45],aa 42 46,aS 47 42 0,aS 48 42 1,aa 11 47,aa 12 48] ((ab [aa 49 12,ar 50 .eql 49 2] (az 50 (ab [aa 51 0,aa 52 1,aa 53 2,aG 54 193 [t 51,t 52,t 53]] (ab [aa 55 2,ar 56 .sub 55 1,aa 57 11,aa 58 1,aV 59 .sub 57 58,aV 60 .sub 56 59,aa 11 60] (ops 0 [cO 12 (mov (cN 1))]))) skip)).seq ((ab [aa 61 8,aa 62 61,am 63 62 (cM 9),cO 64 (pick (t 62) (t 63) a9),aa 65 64,am 66 65 (cM 12),am 67 65 (cB .eql (t 66) (cN 1)),cO 68 (pick (t 65) (t 67) a9)] (az 68 (ab [aa 69 0,aa 70 1,aa 71 2,aG 72 194 [t 69,t 70,t 71]] (az 72 ret skip)) skip)).seq (((mixS 1 [aa 73 1,ar 74 .gtr 73 0,aa 75 74,am 76 75 (cM 0),am 77 75 (cM 1),am 78 75 (cB .sub (t 77) (cN 1)),am 79 75 (ixaS 1 (t 76) (t 78)),am 80 75 (cD 79),am 81 75 (cM 0),am 82 75 (cM 11),am 83 75 (ixaS 1 (t 81) (t 82)),am 84 75 (cD 83),am 85 75 (call (cF 187) [t 80,t 84]),am 86 75 (un UnOp.not (t 85)),cO 87 (pick (t 75) (t 86) a9)] [(0,0),(1,0),(2,0),(3,0),(4,0),(5,0),(6,0),(7,0),(8,0),(9,0),(10,0),(11,0),(12,2),(13,0),(14,0)]).seq (az 87 (ab [aa 88 0,aa 89 1,aa 90 2,aa 91 11,aG 92 195 [t 88,t 89,t 90,t 91],aa 13 92] (ab [aa 93 13,aa 1 93] (exit 1))) skip)).seq (ab [aa 95 0,aa 96 1,aa 97 2,aa 98 11,aG 99 196 [t 95,t 96,t 97,t 98],aa 94 99,aS 100 94 0,aS 101 94 1,aa 14 100,aa 15 101] (ab [aa 102 15,aa 9 102] (ab [aa 103 14,aa 104 1,aV 105 .sub 103 104,aa 106 2,aa 107 14,aV 108 .sub 106 107,aa 16 105,aa 17 108] (ab [aa 109 10,ar 110 .quo 109 8,aa 18 110] (ab [aa 111 16,aa 112 17,aV 113 .lss 111 112] (az 113 (ab [aa 114 16,aa 115 18,aV 116 .geq 114 115,aa 8 116] (ab [aa 117 0,aa 118 1,aa 119 14,aa 120 3,aG 121 164 [t 117,t 118,t 119,t 120]] (ops 0 [aa 122 14,ar 123 .add 122 1,aa 1 123]))) (ab [aa 124 17,aa 125 18,aV 126 .geq 124 125,aa 8 126] (ab [aa 127 0,aa 128 14,ar 129 .add 128 1,aa 130 2,aa 131 3,aG 132 164 [t 127,t 129,t 130,t 131]] (ops 0 [aa 133 14,aa 2 133])))))))))))))))))).loop))))
theorem Lw:Is Tryz.prog 164 LI:=mkI Tryz.func164
def L9:F2:=(F2.mk 6 [RV.t 2] (ab [cO 2 (mov a9)] (ab [aa 3 0,aa 4 0,aV 5 .neq 3 4,aa 2 5] ret)))
theorem Kd:Is Tryz.prog 165 L9:=mkI Tryz.func165
def Ib:F2:=(F2.mk 53 [] (ab [aa 10 1,ar 11 .add 10 1,aa 8 11] (block 0 ((ab [aa 12 8,aa 13 2,aV 14 .lss 12 13] (az 14 skip (exit 0))).seq ((block 1 (ab [aa 17 8,aa 9 17] (block 2 (((mixS 1 [aa 18 9,aa 19 1,aV 20 .gtr 18 19,aa 21 20,am 22 21 (cM 3),am 23 21 (cM 0),am 24 21 (cM 9),am 25 21 (ixaS 1 (t 23) (t 24)),am 26 21 (cD 25),am 27 21 (cM 0),am 28 21 (cM 9),am 29 21 (cB .sub (t 28) (cN 1)),am 30 21 (ixaS 1 (t 27) (t 29)),am 31 21 (cD 30),am 32 21 (call (t 22) [t 26,t 31]),am 33 21 (cB .lss (t 32) (cN 0)),cO 34 (pick (t 21) (t 33) a9)] [(0,0),(1,0),(2,0),(3,0),(4,0),(5,0),(6,0),(7,0),(8,0),(9,0),(10,0),(11,0),(12,0),(13,0),(14,2),(15,0),(16,0)]).seq (az 34 skip (exit 2))).seq ((block 3 (ops 1 [aa 37 0,aa 38 9,aa 39 0,aa 40 9,ar 41 .sub 40 1,aa 42 0,aa 43 9,ar 44 .sub 43 1,cO 45 (ixaS 1 (t 42) (t 44)),aF 46 45,aa 47 0,aa 48 9,cO 49 (ixaS 1 (t 47) (t 48)),aF 50 49,cO 51 (ixaS 1 (t 37) (t 38)),bC 1 51 46,cO 52 (ixaS 1 (t 39) (t 41)),bC 1 52 50])).seq (ops 0 [aa 35 9,ar 36 .sub 35 1,aa 9 36]))).loop))).seq (ops 0 [aa 15 8,ar 16 .add 15 1,aa 8 16]))).loop)))
theorem HG:Is Tryz.prog 166 Ib:=mkI Tryz.func166
def JP:F2:=(F2.mk 60 [] (ab [aa 13 1,aa 8 13] (ab [cO 9 (mov (cN 0))] (ab [aa 14 2,aa 15 1,aV 16 .sub 14 15,aa 10 16] ((ab [aa 17 10,ar 18 .sub 17 1,ar 19 .quo 18 2,aa 11 19] (block 0 ((ab [aa 20 11,ar 21 .geq 20 0] (az 21 skip (exit 0))).seq ((block 1 (ops 0 [aa 24 0,aa 25 11,aa 26 10,aa 27 8,aa 28 3,aG 29 197 [t 24,t 25,t 26,t 27,t 28]])).seq (ops 0 [aa 22 11,ar 23 .sub 22 1,aa 11 23]))).loop)).seq (ab [aa 30 10,ar 31 .sub 30 1,aa 12 31] (block 2 ((ab [aa 32 12,ar 33 .geq 32 0] (az 33 skip (exit 2))).seq ((block 3 ((ops 1 [aa 36 0,aa 37 8,aa 38 0,aa 39 8,aa 40 12,aV 41 .add 39 40,aa 42 0,aa 43 8,aa 44 12,aV 45 .add 43 44,cO 46 (ixaS 1 (t 42) (t 45)),aF 47 46,aa 48 0,aa 49 8,cO 50 (ixaS 1 (t 48) (t 49)),aF 51 50,cO 52 (ixaS 1 (t 36) (t 37)),bC 1 52 47,cO 53 (ixaS 1 (t 38) (t 41)),bC 1 53 51]).seq (ops 0 [aa 54 0,aa 55 9,aa 56 12,aa 57 8,aa 58 3,aG 59 197 [t 54,t 55,t 56,t 57,t 58]]))).seq (ops 0 [aa 34 12,ar 35 .sub 34 1,aa 12 35]))).loop)))))))
theorem KN:Is Tryz.prog 167 JP:=mkI Tryz.func167
def L5:F2:=(F2.mk 67 [] (ab [aa 13 2,aa 14 1,aV 15 .sub 13 14,aa 8 15] (ab [aa 16 8,ar 17 .geq 16 8] (az 17 (ab [aa 18 8,cO 19 (conv IntKind.u64 (t 18)),cO 9 (alloc (AV.int IntKind.u64 (0))),bC 1 9 19] (ab [aa 20 8,aG 21 198 [t 20],aa 10 21] (ab [aa 22 1,aa 23 8,ar 24 .quo 23 4,ar 25 .mul 24 2,aV 26 .add 22 25,ar 27 .sub 26 1,aa 11 27] (block 0 ((ab [aa 28 11,aa 29 1,aa 30 8,ar 31 .quo 30 4,ar 32 .mul 31 2,aV 33 .add 29 32,ar 34 .add 33 1,aV 35 .leq 28 34] (az 35 skip (exit 0))).seq ((block 1 (ab [aG 38 199 [t 9],aa 39 10,cO 40 (cB .sub (t 39) (c (AV.int IntKind.u64 (1)))),aV 41 .and 38 40,cO 42 (conv IntKind.i64 (t 41)),aa 12 42] ((ab [aa 43 12,aa 44 8,aV 45 .geq 43 44] (az 45 (ops 0 [aa 46 12,aa 47 8,aV 48 .sub 46 47,aa 12 48]) skip)).seq (ops 1 [aa 49 0,aa 50 11,aa 51 0,aa 52 1,aa 53 12,aV 54 .add 52 53,aa 55 0,aa 56 1,aa 57 12,aV 58 .add 56 57,cO 59 (ixaS 1 (t 55) (t 58)),aF 60 59,aa 61 0,aa 62 11,cO 63 (ixaS 1 (t 61) (t 62)),aF 64 63,cO 65 (ixaS 1 (t 49) (t 50)),bC 1 65 60,cO 66 (ixaS 1 (t 51) (t 54)),bC 1 66 64])))).seq (ops 0 [aa 36 11,ar 37 .add 36 1,aa 11 37]))).loop)))) skip))))
theorem Kc:Is Tryz.prog 168 L5:=mkI Tryz.func168
def Kp:F2:=(F2.mk 63 [RV.t 8,RV.t 9] (ab [cO 8 (mov (cN 0)),cO 9 (mov (cN 0))] (ab [aa 15 2,aa 16 1,aV 17 .sub 15 16,aa 10 17] (ab [cO 11 (alloc (bb))] (ab [aa 18 1,aa 19 10,ar 20 .quo 19 4,ar 21 .mul 20 1,aV 22 .add 18 21,aa 12 22] (ab [aa 23 1,aa 24 10,ar 25 .quo 24 4,ar 26 .mul 25 2,aV 27 .add 23 26,aa 13 27] (ab [aa 28 1,aa 29 10,ar 30 .quo 29 4,ar 31 .mul 30 3,aV 32 .add 28 31,aa 14 32] ((ab [aa 33 10,ar 34 .geq 33 8] (az 34 ((ab [aa 35 10,ar 36 .geq 35 50] (az 36 (ab [aa 37 0,aa 38 12,aa 39 3,aG 40 200 [t 37,t 38,t 11,t 39],aa 12 40] (ab [aa 41 0,aa 42 13,aa 43 3,aG 44 200 [t 41,t 42,t 11,t 43],aa 13 44] (ops 0 [aa 45 0,aa 46 14,aa 47 3,aG 48 200 [t 45,t 46,t 11,t 47],aa 14 48]))) skip)).seq (ops 0 [aa 49 0,aa 50 12,aa 51 13,aa 52 14,aa 53 3,aG 54 201 [t 49,t 50,t 51,t 52,t 11,t 53],aa 13 54])) skip)).seq (ab [aF 55 11] (block 0 (ab [ar 58 .eql 55 0,aa 57 58] (az 57 (ab [aa 59 13,aa 8 59,cO 9 (mov (cN 1))] ret) (ab [ar 61 .eql 55 12,aa 60 61] (az 60 (ab [aa 62 13,aa 8 62,cO 9 (mov (cN 2))] ret) (ab [aa 56 13,aa 8 56,cO 9 (mov (cN 0))] ret)))))))))))))))
theorem KH:Is Tryz.prog 169 Kp:=mkI Tryz.func169
def Lf:F2:=(F2.mk 34 [] (ab [aa 10 1,aa 8 10] (ab [aa 11 2,ar 12 .sub 11 1,aa 9 12] (block 0 ((ab [aa 13 8,aa 14 9,aV 15 .lss 13 14] (az 15 skip (exit 0))).seq (block 1 ((ops 1 [aa 16 0,aa 17 8,aa 18 0,aa 19 9,aa 20 0,aa 21 9,cO 22 (ixaS 1 (t 20) (t 21)),aF 23 22,aa 24 0,aa 25 8,cO 26 (ixaS 1 (t 24) (t 25)),aF 27 26,cO 28 (ixaS 1 (t 16) (t 17)),bC 1 28 23,cO 29 (ixaS 1 (t 18) (t 19)),bC 1 29 27]).seq (ab [aa 30 8,ar 31 .add 30 1,aa 8 31] (ops 0 [aa 32 9,ar 33 .sub 32 1,aa 9 33]))))).loop))))
theorem Lr:Is Tryz.prog 170 Lf:=mkI Tryz.func170
def Lm:F2:=(F2.mk 141 [RV.t 8] (ab [cO 8 (mov a9)] (ab [aa 13 1,ar 14 .add 13 1,aa 9 14] ((ab [cO 10 (mov (cN 0))] (block 0 ((ab [aa 15 10,ar 16 .lss 15 5] (az 16 skip (exit 0))).seq ((block 1 ((block 2 (((mixS 1 [aa 19 9,aa 20 2,aV 21 .lss 19 20,aa 22 21,am 23 22 (cM 3),am 24 22 (cM 0),am 25 22 (cM 9),am 26 22 (ixaS 1 (t 24) (t 25)),am 27 22 (cD 26),am 28 22 (cM 0),am 29 22 (cM 9),am 30 22 (cB .sub (t 29) (cN 1)),am 31 22 (ixaS 1 (t 28) (t 30)),am 32 22 (cD 31),am 33 22 (call (t 23) [t 27,t 32]),am 34 22 (cB .lss (t 33) (cN 0)),am 35 22 (un UnOp.not (t 34)),cO 36 (pick (t 22) (t 35) a9)] [(0,0),(1,0),(2,0),(3,0),(4,0),(5,0),(6,0),(7,0),(8,0),(9,0),(10,0),(11,0),(12,0),(13,0),(14,2),(15,0),(16,0),(17,0)]).seq (az 36 skip (exit 2))).seq (block 3 (ops 0 [aa 37 9,ar 38 .add 37 1,aa 9 38]))).loop).seq ((ab [aa 39 9,aa 40 2,aV 41 .eql 39 40] (az 41 (ab [cO 8 (mov c9)] ret) skip)).seq ((ab [aa 42 2,aa 43 1,aV 44 .sub 42 43,ar 45 .lss 44 50] (az 45 (ab [cO 8 (mov a9)] ret) skip)).seq ((ops 1 [aa 46 0,aa 47 9,aa 48 0,aa 49 9,ar 50 .sub 49 1,aa 51 0,aa 52 9,ar 53 .sub 52 1,cO 54 (ixaS 1 (t 51) (t 53)),aF 55 54,aa 56 0,aa 57 9,cO 58 (ixaS 1 (t 56) (t 57)),aF 59 58,cO 60 (ixaS 1 (t 46) (t 47)),bC 1 60 55,cO 61 (ixaS 1 (t 48) (t 50)),bC 1 61 59]).seq ((ab [aa 62 9,aa 63 1,aV 64 .sub 62 63,ar 65 .geq 64 2] (az 65 (ab [aa 66 9,ar 67 .sub 66 1,aa 11 67] (block 4 ((ab [aa 68 11,ar 69 .geq 68 1] (az 69 skip (exit 4))).seq ((block 5 (((mixS 1 [aa 72 3,aa 73 0,aa 74 11,cO 75 (ixaS 1 (t 73) (t 74)),aF 76 75,aa 77 0,aa 78 11,ar 79 .sub 78 1,cO 80 (ixaS 1 (t 77) (t 79)),aF 81 80,cO 82 (call (t 72) [t 76,t 81]),ar 83 .lss 82 0,cO 84 (un UnOp.not (t 83))] [(0,0),(1,0),(2,0),(3,0),(4,0),(5,0),(6,0),(7,0),(8,0),(9,0),(10,2),(11,0),(12,0)]).seq (az 84 (exit 4) skip)).seq (ops 1 [aa 85 0,aa 86 11,aa 87 0,aa 88 11,ar 89 .sub 88 1,aa 90 0,aa 91 11,ar 92 .sub 91 1,cO 93 (ixaS 1 (t 90) (t 92)),aF 94 93,aa 95 0,aa 96 11,cO 97 (ixaS 1 (t 95) (t 96)),aF 98 97,cO 99 (ixaS 1 (t 85) (t 86)),bC 1 99 94,cO 100 (ixaS 1 (t 87) (t 89)),bC 1 100 98]))).seq (ops 0 [aa 70 11,ar 71 .sub 70 1,aa 11 71]))).loop)) skip)).seq (ab [aa 101 2,aa 102 9,aV 103 .sub 101 102,ar 104 .geq 103 2] (az 104 (ab [aa 105 9,ar 106 .add 105 1,aa 12 106] (block 6 ((ab [aa 107 12,aa 108 2,aV 109 .lss 107 108] (az 109 skip (exit 6))).seq ((block 7 (((mixS 1 [aa 112 3,aa 113 0,aa 114 12,cO 115 (ixaS 1 (t 113) (t 114)),aF 116 115,aa 117 0,aa 118 12,ar 119 .sub 118 1,cO 120 (ixaS 1 (t 117) (t 119)),aF 121 120,cO 122 (call (t 112) [t 116,t 121]),ar 123 .lss 122 0,cO 124 (un UnOp.not (t 123))] [(0,0),(1,0),(2,0),(3,0),(4,0),(5,0),(6,0),(7,0),(8,0),(9,0),(10,2),(11,0),(12,0)]).seq (az 124 (exit 6) skip)).seq (ops 1 [aa 125 0,aa 126 12,aa 127 0,aa 128 12,ar 129 .sub 128 1,aa 130 0,aa 131 12,ar 132 .sub 131 1,cO 133 (ixaS 1 (t 130) (t 132)),aF 134 133,aa 135 0,aa 136 12,cO 137 (ixaS 1 (t 135) (t 136)),aF 138 137,cO 139 (ixaS 1 (t 125) (t 126)),bC 1 139 134,cO 140 (ixaS 1 (t 127) (t 129)),bC 1 140 138]))).seq (ops 0 [aa 110 12,ar 111 .add 110 1,aa 12 111]))).loop)) skip)))))))).seq (ops 0 [aa 17 10,ar 18 .add 17 1,aa 10 18]))).loop)).seq (ab [cO 8 (mov a9)] ret)))))
theorem Mc:Is Tryz.prog 171 Lm:=mkI Tryz.func171
def JL:F2:=(F2.mk 90 [RV.t 10] (ab [cO 10 (mov (cN 0))] ((ops 1 [aa 13 0,aa 14 1,aa 15 0,aa 16 3,aa 17 0,aa 18 3,cO 19 (ixaS 1 (t 17) (t 18)),aF 20 19,aa 21 0,aa 22 1,cO 23 (ixaS 1 (t 21) (t 22)),aF 24 23,cO 25 (ixaS 1 (t 13) (t 14)),bC 1 25 20,cO 26 (ixaS 1 (t 15) (t 16)),bC 1 26 24]).seq (ab [aa 27 1,ar 28 .add 27 1,aa 29 2,ar 30 .sub 29 1,aa 11 28,aa 12 30] ((block 0 (block 1 ((block 2 (((mixS 1 [aa 31 11,aa 32 12,aV 33 .leq 31 32,aa 34 33,am 35 34 (cM 4),am 36 34 (cM 0),am 37 34 (cM 1),am 38 34 (ixaS 1 (t 36) (t 37)),am 39 34 (cD 38),am 40 34 (cM 0),am 41 34 (cM 11),am 42 34 (ixaS 1 (t 40) (t 41)),am 43 34 (cD 42),am 44 34 (call (t 35) [t 39,t 43]),am 45 34 (cB .lss (t 44) (cN 0)),am 46 34 (un UnOp.not (t 45)),cO 47 (pick (t 34) (t 46) a9)] [(0,0),(1,0),(2,0),(3,0),(4,0),(5,0),(6,0),(7,0),(8,0),(9,0),(10,0),(11,0),(12,0),(13,2),(14,0),(15,0),(16,0)]).seq (az 47 skip (exit 2))).seq (block 3 (ops 0 [aa 48 11,ar 49 .add 48 1,aa 11 49]))).loop).seq ((block 4 (((mixS 1 [aa 50 11,aa 51 12,aV 52 .leq 50 51,aa 53 52,am 54 53 (cM 4),am 55 53 (cM 0),am 56 53 (cM 1),am 57 53 (ixaS 1 (t 55) (t 56)),am 58 53 (cD 57),am 59 53 (cM 0),am 60 53 (cM 12),am 61 53 (ixaS 1 (t 59) (t 60)),am 62 53 (cD 61),am 63 53 (call (t 54) [t 58,t 62]),am 64 53 (cB .lss (t 63) (cN 0)),cO 65 (pick (t 53) (t 64) a9)] [(0,0),(1,0),(2,0),(3,0),(4,0),(5,0),(6,0),(7,0),(8,0),(9,0),(10,0),(11,0),(12,0),(13,2),(14,0),(15,0)]).seq (az 65 skip (exit 4))).seq (block 5 (ops 0 [aa 66 12,ar 67 .sub 66 1,aa 12 67]))).loop).seq ((ab [aa 68 11,aa 69 12,aV 70 .gtr 68 69] (az 70 (exit 0) skip)).seq ((ops 1 [aa 71 0,aa 72 11,aa 73 0,aa 74 12,aa 75 0,aa 76 12,cO 77 (ixaS 1 (t 75) (t 76)),aF 78 77,aa 79 0,aa 80 11,cO 81 (ixaS 1 (t 79) (t 80)),aF 82 81,cO 83 (ixaS 1 (t 71) (t 72)),bC 1 83 78,cO 84 (ixaS 1 (t 73) (t 74)),bC 1 84 82]).seq (ab [aa 85 11,ar 86 .add 85 1,aa 11 86] (ops 0 [aa 87 12,ar 88 .sub 87 1,aa 12 88]))))))).loop).seq (ab [aa 89 11,aa 10 89] ret))))))
theorem Kj:Is Tryz.prog 172 JL:=mkI Tryz.func172
def JG:F2:=(F2.mk 178 [RV.t 10,RV.t 11] (ab [cO 10 (mov (cN 0)),cO 11 (mov a9)] ((ops 1 [aa 14 0,aa 15 1,aa 16 0,aa 17 3,aa 18 0,aa 19 3,cO 20 (ixaS 1 (t 18) (t 19)),aF 21 20,aa 22 0,aa 23 1,cO 24 (ixaS 1 (t 22) (t 23)),aF 25 24,cO 26 (ixaS 1 (t 14) (t 15)),bC 1 26 21,cO 27 (ixaS 1 (t 16) (t 17)),bC 1 27 25]).seq (ab [aa 28 1,ar 29 .add 28 1,aa 30 2,ar 31 .sub 30 1,aa 12 29,aa 13 31] ((block 0 (((mixS 1 [aa 32 12,aa 33 13,aV 34 .leq 32 33,aa 35 34,am 36 35 (cM 4),am 37 35 (cM 0),am 38 35 (cM 12),am 39 35 (ixaS 1 (t 37) (t 38)),am 40 35 (cD 39),am 41 35 (cM 0),am 42 35 (cM 1),am 43 35 (ixaS 1 (t 41) (t 42)),am 44 35 (cD 43),am 45 35 (call (t 36) [t 40,t 44]),am 46 35 (cB .lss (t 45) (cN 0)),cO 47 (pick (t 35) (t 46) a9)] [(0,0),(1,0),(2,0),(3,0),(4,0),(5,0),(6,0),(7,0),(8,0),(9,0),(10,0),(11,0),(12,0),(13,2),(14,0),(15,0)]).seq (az 47 skip (exit 0))).seq (block 1 (ops 0 [aa 48 12,ar 49 .add 48 1,aa 12 49]))).loop).seq ((block 2 (((mixS 1 [aa 50 12,aa 51 13,aV 52 .leq 50 51,aa 53 52,am 54 53 (cM 4),am 55 53 (cM 0),am 56 53 (cM 13),am 57 53 (ixaS 1 (t 55) (t 56)),am 58 53 (cD 57),am 59 53 (cM 0),am 60 53 (cM 1),am 61 53 (ixaS 1 (t 59) (t 60)),am 62 53 (cD 61),am 63 53 (call (t 54) [t 58,t 62]),am 64 53 (cB .lss (t 63) (cN 0)),am 65 53 (un UnOp.not (t 64)),cO 66 (pick (t 53) (t 65) a9)] [(0,0),(1,0),(2,0),(3,0),(4,0),(5,0),(6,0),(7,0),(8,0),(9,0),(10,0),(11,0),(12,0),(13,2),(14,0),(15,0),(16,0)]).seq (az 66 skip (exit 2))).seq (block 3 (ops 0 [aa 67 13,ar 68 .sub 67 1,aa 13 68]))).loop).seq ((ab [aa 69 12,aa 70 13,aV 71 .gtr 69 70] (az 71 ((ops 1 [aa 72 0,aa 73 13,aa 74 0,aa 75 1,aa 76 0,aa 77 1,cO 78 (ixaS 1 (t 76) (t 77)),aF 79 78,aa 80 0,aa 81 13,cO 82 (ixaS 1 (t 80) (t 81)),aF 83 82,cO 84 (ixaS 1 (t 72) (t 73)),bC 1 84 79,cO 85 (ixaS 1 (t 74) (t 75)),bC 1 85 83]).seq (ab [aa 86 13,aa 10 86,cO 11 (mov c9)] ret)) skip)).seq ((ops 1 [aa 87 0,aa 88 12,aa 89 0,aa 90 13,aa 91 0,aa 92 13,cO 93 (ixaS 1 (t 91) (t 92)),aF 94 93,aa 95 0,aa 96 12,cO 97 (ixaS 1 (t 95) (t 96)),aF 98 97,cO 99 (ixaS 1 (t 87) (t 88)),bC 1 99 94,cO 100 (ixaS 1 (t 89) (t 90)),bC 1 100 98]).seq (ab [aa 101 12,ar 102 .add 101 1,aa 12 102] (ab [aa 103 13,ar 104 .sub 103 1,aa 13 104] ((block 4 (block 5 ((block 6 (((mixS 1 [aa 105 12,aa 106 13,aV 107 .leq 105 106,aa 108 107,am 109 108 (cM 4),am 110 108 (cM 0),am 111 108 (cM 12),am 112 108 (ixaS 1 (t 110) (t 111)),am 113 108 (cD 112),am 114 108 (cM 0),am 115 108 (cM 1),am 116 108 (ixaS 1 (t 114) (t 115)),am 117 108 (cD 116),am 118 108 (call (t 109) [t 113,t 117]),am 119 108 (cB .lss (t 118) (cN 0)),cO 120 (pick (t 108) (t 119) a9)] [(0,0),(1,0),(2,0),(3,0),(4,0),(5,0),(6,0),(7,0),(8,0),(9,0),(10,0),(11,0),(12,0),(13,2),(14,0),(15,0)]).seq (az 120 skip (exit 6))).seq (block 7 (ops 0 [aa 121 12,ar 122 .add 121 1,aa 12 122]))).loop).seq ((block 8 (((mixS 1 [aa 123 12,aa 124 13,aV 125 .leq 123 124,aa 126 125,am 127 126 (cM 4),am 128 126 (cM 0),am 129 126 (cM 13),am 130 126 (ixaS 1 (t 128) (t 129)),am 131 126 (cD 130),am 132 126 (cM 0),am 133 126 (cM 1),am 134 126 (ixaS 1 (t 132) (t 133)),am 135 126 (cD 134),am 136 126 (call (t 127) [t 131,t 135]),am 137 126 (cB .lss (t 136) (cN 0)),am 138 126 (un UnOp.not (t 137)),cO 139 (pick (t 126) (t 138) a9)] [(0,0),(1,0),(2,0),(3,0),(4,0),(5,0),(6,0),(7,0),(8,0),(9,0),(10,0),(11,0),(12,0),(13,2),(14,0),(15,0),(16,0)]).seq (az 139 skip (exit 8))).seq (block 9 (ops 0 [aa 140 13,ar 141 .sub 140 1,aa 13 141]))).loop).seq ((ab [aa 142 12,aa 143 13,aV 144 .gtr 142 143] (az 144 (exit 4) skip)).seq ((ops 1 [aa 145 0,aa 146 12,aa 147 0,aa 148 13,aa 149 0,aa 150 13,cO 151 (ixaS 1 (t 149) (t 150)),aF 152 151,aa 153 0,aa 154 12,cO 155 (ixaS 1 (t 153) (t 154)),aF 156 155,cO 157 (ixaS 1 (t 145) (t 146)),bC 1 157 152,cO 158 (ixaS 1 (t 147) (t 148)),bC 1 158 156]).seq (ab [aa 159 12,ar 160 .add 159 1,aa 12 160] (ops 0 [aa 161 13,ar 162 .sub 161 1,aa 13 162]))))))).loop).seq ((ops 1 [aa 163 0,aa 164 13,aa 165 0,aa 166 1,aa 167 0,aa 168 1,cO 169 (ixaS 1 (t 167) (t 168)),aF 170 169,aa 171 0,aa 172 13,cO 173 (ixaS 1 (t 171) (t 172)),aF 174 173,cO 175 (ixaS 1 (t 163) (t 164)),bC 1 175 170,cO 176 (ixaS 1 (t 165) (t 166)),bC 1 176 174]).seq (ab [aa 177 13,aa 10 177,cO 11 (mov a9)] ret)))))))))))))
theorem Mb:Is Tryz.prog 173 JG:=mkI Tryz.func173
def H8:F2:=(F2.mk 25 [RV.t 2] (ab [cO 2 (mov (cN 0))] ((ab [aa 3 0,cO 4 (cB .geq (t 3) (c (AV.int IntKind.u64 (4294967296))))] (az 4 (ab [aa 5 0,cO 6 (cB .shr (t 5) (c (AV.int IntKind.u64 (32)))),aa 0 6] (ops 0 [cO 2 (mov (cN 32))])) skip)).seq ((ab [aa 7 0,cO 8 (cB .geq (t 7) (c (AV.int IntKind.u64 (65536))))] (az 8 (ab [aa 9 0,cO 10 (cB .shr (t 9) (c (AV.int IntKind.u64 (16)))),aa 0 10] (ops 0 [aa 11 2,ar 12 .add 11 16,aa 2 12])) skip)).seq ((ab [aa 13 0,cO 14 (cB .geq (t 13) (c (AV.int IntKind.u64 (256))))] (az 14 (ab [aa 15 0,cO 16 (cB .shr (t 15) (c (AV.int IntKind.u64 (8)))),aa 0 16] (ops 0 [aa 17 2,ar 18 .add 17 8,aa 2 18])) skip)).seq (ab [aa 19 2,aa 20 0,cO 21 (conv IntKind.u8 (t 20)),cO 22 (ixStr (c (AV.str (ByteArray.mk (Array.mk [0,1,2,2,3,3,3,3,4,4,4,4,4,4,4,4,5,5,5,5,5,5,5,5,5,5,5,5,5,5,5,5,6,6,6,6,6,6,6,6,6,6,6,6,6,6,6,6,6,6,6,6,6,6,6,6,6,6,6,6,6,6,6,6,7,7,7,7,7,7,7,7,7,7,7,7,7,7,7,7,7,7,7,7,7,7,7,7,7,7,7,7,7,7,7,7,7,7,7,7,7,7,7,7,7,7,7,7,7,7,7,7,7,7,7,7,7,7,7,7,7,7,7,7,7,7,7,7,8,8,8,8,8,8,8,8,8,8,8,8,8,8,8,8,8,8,8,8,8,8,8,8,8,8,8,8,8,8,8,8,8,8,8,8,8,8,8,8,8,8,8,8,8,8,8,8,8,8,8,8,8,8,8,8,8,8,8,8,8,8,8,8,8,8,8,8,8,8,8,8,8,8,8,8,8,8,8,8,8,8,8,8,8,8,8,8,8,8,8,8,8,8,8,8,8,8,8,8,8,8,8,8,8,8,8,8,8,8,8,8,8,8,8,8,8,8,8,8,8,8,8,8,8,8,8,8])))) (t 21)),cO 23 (conv IntKind.i64 (t 22)),aV 24 .add 19 23,aa 2 24] ret))))))
theorem HO:Is Tryz.prog 175 H8:=mkI Tryz.func175
def LO:F2:=(F2.mk 13 [RV.t 4] (ab [cO 2 (box (t 0)),cO 4 (mov (c AV.esl))] ((ab [aa 6 1] (block 0 (rangeF (t 6) [7] (ops 0 [aa 5 7]) (block 1 (ops 0 [aF 8 2,aa 9 5,cO 10 (bldS 1 1 [AV.esl] [(0,1,t 9)]),cO 11 (app 1 24 (t 8) (t 10)),bC 1 2 11]))))).seq (ab [aF 12 2,aa 4 12] ret))))
theorem L3:Is Tryz.prog 176 LO:=mkI Tryz.func176
def KC:F2:=(F2.mk 10 [] (ab [cO 3 (box (t 0))] (ab [cO 4 (alloc AV.nilf)] (ab [cO 5 (mkfn 178 [t 1,t 3,t 2,t 4]),bC 1 4 5] (mixS 1 [aF 6 4,aF 7 1,cO 8 (mks 2 16 [bb,bb] (cN 0) (t 7)),cO 9 (call (t 6) [cN ((0)),t 8])] [(0,0),(1,0),(2,1),(3,2)])))))
theorem Ll:Is Tryz.prog 177 KC:=mkI Tryz.func177
def Jw:F2:=(F2.mk 37 [RV.t 8] (ab [cO 8 (mov a9)] ((ab [aa 10 1,bj 11 10,aF 12 2,aV 13 .eql 11 12] (az 13 ((mixS 1 [aF 14 3,aa 15 1,aG 16 136 [t 15],cO 17 (call (t 14) [t 16]),aa 8 17] [(0,0),(1,0),(2,1),(3,2),(4,0)]).seq ret) skip)).seq ((ab [aa 18 0,aa 9 18] (block 0 ((ab [aa 19 9,aF 20 4,bj 21 20,aV 22 .lss 19 21] (az 22 skip (exit 0))).seq ((block 1 ((mixS 2 [aF 25 5,aa 26 9,ar 27 .add 26 1,aa 28 1,aF 29 4,aa 30 9,cO 31 (ixaS 2 (t 29) (t 30)),bt 32 2 31,cO 33 (bldS 2 1 [bb,bb] [(0,2,t 32)]),cO 34 (app 2 16 (t 28) (t 33)),cO 35 (call (t 25) [t 27,t 34]),cO 36 (un UnOp.not (t 35))] [(0,0),(1,0),(2,0),(3,0),(4,0),(5,0),(6,0),(7,0),(8,1),(9,1),(10,2),(11,0)]).seq (az 36 (ab [cO 8 (mov a9)] ret) skip))).seq (ops 0 [aa 23 9,ar 24 .add 23 1,aa 9 24]))).loop)).seq (ab [cO 8 (mov c9)] ret)))))
theorem HC:Is Tryz.prog 178 Jw:=mkI Tryz.func178
def Jb:F2:=(F2.mk 17 [RV.t 4] (ab [cO 4 (mov a9)] (ab [aa 5 0,aG 6 165 [t 5],aa 7 6,am 8 7 (cM 1),am 9 7 (call (cF 165) [t 8]),am 10 7 (un UnOp.not (t 9)),cO 11 (pick (t 7) (t 10) a9),aa 12 11,bm 13 12 (cM 0),bm 14 12 (cM 1),bm 15 12 (cB .lss (t 13) (t 14)),cO 16 (pick (t 12) c9 (t 15)),aa 4 16] ret)))
theorem HI:Is Tryz.prog 187 Jb:=mkI Tryz.func187
def K3:F2:=(F2.mk 6 [RV.t 2] (ab [cO 2 (mov a9)] (ab [aa 3 0,aa 4 0,aV 5 .neq 3 4,aa 2 5] ret)))
theorem Kb:Is Tryz.prog 188 K3:=mkI Tryz.func188
def KS:F2:=(F2.mk 49 [] (ab [aa 8 1,ar 9 .add 8 1,aa 6 9] (block 0 ((ab [aa 10 6,aa 11 2,aV 12 .lss 10 11] (az 12 skip (exit 0))).seq ((block 1 (ab [aa 15 6,aa 7 15] (block 2 (((mixS 1 [aa 16 7,aa 17 1,aV 18 .gtr 16 17,aa 19 18,am 20 19 (cM 0),am 21 19 (cM 7),am 22 19 (ixaS 1 (t 20) (t 21)),am 23 19 (cD 22),am 24 19 (cM 0),am 25 19 (cM 7),am 26 19 (cB .sub (t 25) (cN 1)),am 27 19 (ixaS 1 (t 24) (t 26)),am 28 19 (cD 27),am 29 19 (call (cF 187) [t 23,t 28]),cO 30 (pick (t 19) (t 29) a9)] [(0,0),(1,0),(2,0),(3,0),(4,0),(5,0),(6,0),(7,0),(8,0),(9,0),(10,0),(11,0),(12,0),(13,2),(14,0)]).seq (az 30 skip (exit 2))).seq ((block 3 (ops 1 [aa 33 0,aa 34 7,aa 35 0,aa 36 7,ar 37 .sub 36 1,aa 38 0,aa 39 7,ar 40 .sub 39 1,cO 41 (ixaS 1 (t 38) (t 40)),aF 42 41,aa 43 0,aa 44 7,cO 45 (ixaS 1 (t 43) (t 44)),aF 46 45,cO 47 (ixaS 1 (t 33) (t 34)),bC 1 47 42,cO 48 (ixaS 1 (t 35) (t 37)),bC 1 48 46])).seq (ops 0 [aa 31 7,ar 32 .sub 31 1,aa 7 32]))).loop))).seq (ops 0 [aa 13 6,ar 14 .add 13 1,aa 6 14]))).loop)))
theorem Mm:Is Tryz.prog 189 KS:=mkI Tryz.func189
def JS:F2:=(F2.mk 82 [] (ab [aa 12 1,aa 10 12] (block 0 (block 1 (ab [aa 13 10,cO 14 (cB .mul (cN 2) (t 13)),ar 15 .add 14 1,aa 11 15] ((ab [aa 16 11,aa 17 2,aV 18 .geq 16 17] (az 18 (exit 0) skip)).seq (((mixS 1 [aa 19 11,ar 20 .add 19 1,aa 21 2,aV 22 .lss 20 21,aa 23 22,am 24 23 (cM 4),am 25 23 (cM 0),am 26 23 (cM 3),am 27 23 (cM 11),am 28 23 (cB .add (t 26) (t 27)),am 29 23 (ixaS 1 (t 25) (t 28)),am 30 23 (cD 29),am 31 23 (cM 0),am 32 23 (cM 3),am 33 23 (cM 11),am 34 23 (cB .add (t 32) (t 33)),am 35 23 (cB .add (t 34) (cN 1)),am 36 23 (ixaS 1 (t 31) (t 35)),am 37 23 (cD 36),am 38 23 (call (t 24) [t 30,t 37]),am 39 23 (cB .lss (t 38) (cN 0)),cO 40 (pick (t 23) (t 39) a9)] [(0,0),(1,0),(2,0),(3,0),(4,0),(5,0),(6,0),(7,0),(8,0),(9,0),(10,0),(11,0),(12,0),(13,0),(14,0),(15,0),(16,0),(17,0),(18,0),(19,2),(20,0),(21,0)]).seq (az 40 (ops 0 [aa 41 11,ar 42 .add 41 1,aa 11 42]) skip)).seq (((mixS 1 [aa 43 4,aa 44 0,aa 45 3,aa 46 10,aV 47 .add 45 46,cO 48 (ixaS 1 (t 44) (t 47)),aF 49 48,aa 50 0,aa 51 3,aa 52 11,aV 53 .add 51 52,cO 54 (ixaS 1 (t 50) (t 53)),aF 55 54,cO 56 (call (t 43) [t 49,t 55]),ar 57 .lss 56 0,cO 58 (un UnOp.not (t 57))] [(0,0),(1,0),(2,0),(3,0),(4,0),(5,0),(6,0),(7,0),(8,0),(9,0),(10,0),(11,0),(12,0),(13,2),(14,0),(15,0)]).seq (az 58 ret skip)).seq ((ops 1 [aa 59 0,aa 60 3,aa 61 10,aV 62 .add 60 61,aa 63 0,aa 64 3,aa 65 11,aV 66 .add 64 65,aa 67 0,aa 68 3,aa 69 11,aV 70 .add 68 69,cO 71 (ixaS 1 (t 67) (t 70)),aF 72 71,aa 73 0,aa 74 3,aa 75 10,aV 76 .add 74 75,cO 77 (ixaS 1 (t 73) (t 76)),aF 78 77,cO 79 (ixaS 1 (t 59) (t 62)),bC 1 79 72,cO 80 (ixaS 1 (t 63) (t 66)),bC 1 80 78]).seq (ops 0 [aa 81 11,aa 10 81]))))))).loop)))
theorem Kg:Is Tryz.prog 197 JS:=mkI Tryz.func197
def KV:F2:=(F2.mk 7 [RV.t 2] (ab [cO 2 (mov (c (AV.int IntKind.u64 (0))))] (ab [aa 3 0,cO 4 (conv IntKind.u64 (t 3)),aG 5 156 [t 4],cO 6 (cB .shl (c (AV.int IntKind.u64 (1))) (t 5)),aa 2 6] ret)))
theorem L6:Is Tryz.prog 198 KV:=mkI Tryz.func198
def KO:F2:=(F2.mk 33 [RV.t 2] (ab [cO 2 (mov (c (AV.int IntKind.u64 (0))))] ((ops 1 [aa 3 0,cO 4 (nilck (t 3)),aF 5 4,aa 6 0,cO 7 (nilck (t 6)),aF 8 7,cO 9 (cB .shl (t 8) (c (AV.int IntKind.u64 (13)))),aV 10 .xor 5 9,cO 11 (nilck (t 3)),bC 1 11 10]).seq ((ops 1 [aa 12 0,cO 13 (nilck (t 12)),aF 14 13,aa 15 0,cO 16 (nilck (t 15)),aF 17 16,cO 18 (cB .shr (t 17) (c (AV.int IntKind.u64 (7)))),aV 19 .xor 14 18,cO 20 (nilck (t 12)),bC 1 20 19]).seq ((ops 1 [aa 21 0,cO 22 (nilck (t 21)),aF 23 22,aa 24 0,cO 25 (nilck (t 24)),aF 26 25,cO 27 (cB .shl (t 26) (c (AV.int IntKind.u64 (17)))),aV 28 .xor 23 27,cO 29 (nilck (t 21)),bC 1 29 28]).seq (ab [aa 30 0,cO 31 (nilck (t 30)),aF 32 31,aa 2 32] ret))))))
theorem Ky:Is Tryz.prog 199 KO:=mkI Tryz.func199
def J2:F2:=(F2.mk 18 [RV.t 8] (ab [cO 8 (mov (cN 0))] (ab [aa 9 0,aa 10 1,ar 11 .sub 10 1,aa 12 1,aa 13 1,ar 14 .add 13 1,aa 15 2,aa 16 3,aG 17 201 [t 9,t 11,t 12,t 14,t 15,t 16],aa 8 17] ret)))
theorem JQ:Is Tryz.prog 200 J2:=mkI Tryz.func200
def Ks:F2:=(F2.mk 41 [RV.t 12] (ab [cO 12 (mov (cN 0))] (ab [aa 14 0,aa 15 1,aa 16 2,aa 17 4,aa 18 5,aG 19 208 [t 14,t 15,t 16,t 17,t 18],aa 13 19,aS 20 13 0,aS 21 13 1,aa 1 20,aa 2 21] (ab [aa 23 0,aa 24 2,aa 25 3,aa 26 4,aa 27 5,aG 28 208 [t 23,t 24,t 25,t 26,t 27],aa 22 28,aS 29 22 0,aS 30 22 1,aa 2 29,aa 3 30] (ab [aa 32 0,aa 33 1,aa 34 2,aa 35 4,aa 36 5,aG 37 208 [t 32,t 33,t 34,t 35,t 36],aa 31 37,aS 38 31 0,aS 39 31 1,aa 1 38,aa 2 39] (ab [aa 40 2,aa 12 40] ret))))))
theorem Lq:Is Tryz.prog 201 Ks:=mkI Tryz.func201
def Kx:F2:=(F2.mk 32 [RV.t 10,RV.t 11] (ab [cO 10 (mov (cN 0)),cO 11 (mov (cN 0))] (((mixS 1 [aa 12 4,aa 13 0,aa 14 2,cO 15 (ixaS 1 (t 13) (t 14)),aF 16 15,aa 17 0,aa 18 1,cO 19 (ixaS 1 (t 17) (t 18)),aF 20 19,cO 21 (call (t 12) [t 16,t 20]),ar 22 .lss 21 0] [(0,0),(1,0),(2,0),(3,0),(4,0),(5,0),(6,0),(7,0),(8,0),(9,2),(10,0)]).seq (az 22 (ab [aa 23 3,cO 24 (nilck (t 23)),aF 25 24,ar 26 .add 25 1,cO 27 (nilck (t 23)),bC 1 27 26] (ab [aa 28 2,aa 29 1,aa 10 28,aa 11 29] ret)) skip)).seq (ab [aa 30 1,aa 31 2,aa 10 30,aa 11 31] ret))))
theorem J6:Is Tryz.prog 208 Kx:=mkI Tryz.func208
end Go.Proofs.YtekdaafnjdlenaaGreat
namespace Go.Proofs.YtekdaafnjdlenaaGreat
open Go Go.Abs
def swp{α:Type}[Inhabited α](L:List α)(i j:Nat):List α:=(L.set i (L.getD j default)).set j (L.getD i default)
structure PermR{α:Type}[Inhabited α](a b:Nat)(L L':List α):Prop where
 len:L'.length=L.length
 out:∀i,i<a∨b≤i→L'.getD i default=L.getD i default
 perm:L'.Perm L
section
variable{α:Type}[Inhabited α]{a b a' b':Nat}{L L' L'':List α}
theorem dP{l:List α}{i j:Nat}{x:α}(h:i<l.length):(l.set i x).getD j default=if i=j then x else l.getD j default:=by
 simp only[List.getD,List.getElem?_set];split
 ·rename_i e;subst e;simp[h]
 ·rfl
theorem BV(i j:Nat):(swp L i j).length=L.length:=by simp[swp]
theorem eY{i j:Nat}(hi:i<L.length)(hj:j<L.length)(k:Nat):(swp L i j).getD k default=if k=j then L.getD i default else if k=i then L.getD j default else L.getD k default:=by
 unfold swp;rw[dP (by simpa using hj),dP hi];by_cases e:k=j
 ·subst e;simp
 ·rw[if_neg (fun h=>e h.symm),if_neg e];by_cases e2:k=i
  ·subst e2;simp
  ·rw[if_neg (fun h=>e2 h.symm),if_neg e2]
theorem Fa{i j:Nat}(hi:i<L.length)(hj:j<L.length):(swp L i j).Perm L:=by
 unfold swp;have e1:L.getD i default=L[i]:=by simp[List.getD,hi]
 have e2:L.getD j default=L[j]:=by simp[List.getD,hj]
 rw[e1,e2];exact List.set_set_perm hi hj
theorem PermR.refl:PermR a b L L:=⟨rfl,fun _ _=>rfl,List.Perm.refl _⟩
theorem PermR.trans(h:PermR a b L L')(k:PermR a b L' L''):PermR a b L L'':=⟨k.len.trans h.len,fun i hi=>(k.out i hi).trans (h.out i hi),k.perm.trans h.perm⟩
theorem PermR.mono(h:PermR a' b' L L')(h1:a≤a')(h2:b'≤b):PermR a b L L':=⟨h.len,fun i hi=>h.out i (by omega),h.perm⟩
theorem PermR.swap{i j:Nat}(h1:a≤i∧i<b)(h2:a≤j∧j<b)(hb:b≤L.length):PermR a b L (swp L i j):=
 ⟨BV i j,fun k hk=>by rw[eY (by omega) (by omega),if_neg (by omega),if_neg (by omega)],Fa (by omega) (by omega)⟩
theorem yu{l m:List α}(hl:l.length=m.length)(h:∀i,i<l.length→l.getD i default=m.getD i default):l=m:=
 List.ext_getElem hl (fun i h1 h2=>by
  have:=h i h1;simpa[List.getD,h1,h2] using this)
theorem PermR.mid(h:PermR a b L L')(hab:a≤b)(hb:b≤L.length):((L'.drop a).take (b-a)).Perm ((L.drop a).take (b-a)):=by
 have e1:∀M:List α,b≤M.length→M=M.take a++((M.drop a).take (b-a)++M.drop b):=fun M hM=>by
  have:M.drop b=(M.drop a).drop (b-a):=by rw[List.drop_drop];congr 1;omega
  rw[this,Er,Er]
 have t:L'.take a=L.take a:=yu (by simp [h.len]) (fun i hi=>by
  have hi':i<a:=by simp at hi;omega
  rw[qj hi',qj hi'];exact h.out i (.inl hi'))
 have d:L'.drop b=L.drop b:=yu (by simp [h.len]) (fun i hi=>by
  have e:∀M:List α,(M.drop b).getD i default=M.getD (b+i) default:=fun M=>by simp[List.getD,md]
  rw[e,e];exact h.out (b+i) (.inr (by omega)))
 have p:=h.perm;rw[e1 L' (by rw[h.len];exact hb),e1 L hb,t,d] at p;exact(List.perm_append_right_iff _).1 ((List.perm_append_left_iff _).1 p)
theorem Bm{M:List α}{x:α}(hab:a≤b)(hb:b≤M.length):x∈(M.drop a).take (b-a)↔ ∃i,a≤i∧i<b∧M.getD i default=x:=by
 constructor
 ·intro h;obtain⟨j,hj,e⟩:=jV h;have hj':j<b-a:=by simp at hj;omega
  refine⟨a+j,by omega,by omega,?_⟩;rw[←e];simp[List.getD,List.getElem_take,List.getElem_drop,show a+j<M.length by omega]
 ·rintro⟨i,h1,h2,rfl⟩;rw[List.mem_iff_getElem?];refine⟨i-a,?_⟩;rw[iC,if_pos (by omega),md,show a+(i-a)=i by omega];simp[List.getD,show i<M.length by omega]
theorem PermR.all{p:α→Prop}(h:PermR a b L L')(hab:a≤b)(hb:b≤L.length)(hp:∀i,a≤i→i<b→p (L.getD i default)):∀i,a≤i→i<b→p (L'.getD i default):=by
 intro i h1 h2;have hm:L'.getD i default∈(L'.drop a).take (b-a):=(Bm hab (by rw[h.len];exact hb)).2 ⟨i,h1,h2,rfl⟩;obtain⟨j,k1,k2,e⟩:=(Bm hab hb).1 ((h.mid hab hb).mem_iff.1 hm);rw[←e];exact hp j k1 k2
end
structure Ord{α:Type}(K:α→α→Int):Prop where
 irr:∀x,¬K x x<0
 asym:∀x y,K x y<0→¬K y x<0
 negtr:∀x y z,¬K y x<0→¬K z y<0→¬K z x<0
def bq{α:Type}[Inhabited α](K:α→α→Int)(a b:Nat)(L:List α):Prop:=∀i j,a≤i→i<j→j<b→¬K (L.getD j default) (L.getD i default)<0
theorem bq.one{α:Type}[Inhabited α]{K:α→α→Int}{a b:Nat}{L:List α}(h:b≤a+1):bq K a b L:=fun i j h1 h2 h3=>by omega
structure LinK{α:Type}(K:α→α→Int):Prop where
 ord:Ord K
 eq:∀x y,¬K x y<0→¬K y x<0→x=y
def bQ{α:Type}(K:α→α→Int)(l:List α):Prop:=l.Pairwise fun x y=>K x y<0
def wT{α:Type}(K:α→α→Int):List α→α→List α
 |[],v=>[v]
 |a::l,v=>if K v a<0 then v::a::l else a::wT K l v
section
variable{α:Type}[DecidableEq α]{K:α→α→Int}
def ux(K:α→α→Int)(acc:List α)(v:α):List α:=if v∈acc then acc else wT K acc v
def uF(K:α→α→Int)(acc l:List α):List α:=l.foldl (ux K) acc
def uD(K:α→α→Int)(l:List α):List α:=uF K [] l
omit [DecidableEq α] in
theorem bQ.nil:bQ K ([]:List α):=pr
omit [DecidableEq α] in
theorem bQ.nodup{l:List α}(hK:LinK K)(h:bQ K l):l.Nodup:=uH (fun{a b} h e=>by subst e;exact hK.ord.irr a h) h
omit [DecidableEq α] in
theorem LinK.tri(hK:LinK K)(x y:α):K x y<0∨x=y∨K y x<0:=by
 by_cases h1:K x y<0
 ·exact .inl h1
 ·by_cases h2:K y x<0
  ·exact .inr (.inr h2)
  ·exact .inr (.inl (hK.eq x y h1 h2))
omit [DecidableEq α] in
theorem LinK.trans(hK:LinK K){x y z:α}(h1:K x y<0)(h2:K y z<0):K x z<0:=by
 refine Decidable.byContradiction fun hn=>?_;exact hK.ord.negtr z x y hn (hK.ord.asym _ _ h1) h2
omit [DecidableEq α] in
theorem ni{a b:List α}(hK:LinK K)(ha:bQ K a)(hb:bQ K b)(h:∀x,x∈a↔x∈b):a=b:=by
 classical
 have hp:a.Perm b:=(List.perm_ext_iff_of_nodup (ha.nodup hK) (hb.nodup hK)).2 h;exact List.Perm.eq_of_pairwise (fun x y _ _ h1 h2=>absurd h2 (hK.ord.asym _ _ h1)) ha hb hp
omit [DecidableEq α] in
theorem zL{l:List α}{v x:α}:x∈wT K l v↔x∈l∨x=v:=by
 induction l with
 |nil=>simp[wT]
 |cons a l ih=>
  unfold wT;split
  ·simp only[cR];exact⟨fun h=>h.elim .inr .inl,fun h=>h.elim .inr .inl⟩
  ·rw[cR,ih,cR,or_assoc]
omit [DecidableEq α] in
theorem D6{l:List α}{v:α}(hK:LinK K)(h:bQ K l)(hv:v∉l):bQ K (wT K l v):=by
 induction l with
 |nil=>exact List.pairwise_singleton _ _
 |cons a l ih=>
  unfold bQ at h;rw[hU] at h;unfold wT;split
  ·rename_i hlt
   exact hU.2 ⟨fun y hy=>by
    rcases cR.1 hy with rfl|hy
    ·exact hlt
    ·exact hK.trans hlt (h.1 y hy),hU.2 h⟩
  ·rename_i hlt;refine hU.2 ⟨fun y hy=>?_,ih h.2 fun hm=>hv (dL _ hm)⟩;rcases zL.1 hy with hy|rfl
   ·exact h.1 y hy
   ·rcases hK.tri y a with k|k|k
    ·exact absurd k hlt
    ·exact absurd (k▸cJ) hv
    ·exact k
omit [DecidableEq α] in
theorem EW{l:List α}{v:α}:(wT K l v).length=l.length+1:=by
 induction l with
 |nil=>rfl
 |cons a l ih=>unfold wT;split<;>simp[ih]
theorem FF{acc:List α}{v x:α}:x∈ux K acc v↔x∈acc∨x=v:=by
 unfold ux;split
 ·rename_i h;exact⟨.inl,fun h2=>h2.elim id (fun e=>e▸h)⟩
 ·exact zL
theorem FZ{acc:List α}{v:α}(hK:LinK K)(h:bQ K acc):bQ K (ux K acc v):=by
 unfold ux;split
 ·exact h
 ·rename_i hn;exact D6 hK h hn
theorem DY{acc:List α}{v:α}:(ux K acc v).length≤acc.length+1:=by
 unfold ux;split
 ·omega
 ·rw[EW];exact aO _
theorem yZ:∀{l acc:List α}{x:α},x∈uF K acc l↔x∈acc∨x∈l
 |[],acc,x=>by simp[uF]
 |v::l,acc,x=>by
  rw[show uF K acc (v::l)=uF K (ux K acc v) l from rfl,yZ,FF,cR,or_assoc]
theorem zo(hK:LinK K):∀{l acc:List α},bQ K acc→bQ K (uF K acc l)
 |[],_,h=>h
 |v::l,acc,h=>zo hK (l:=l) (FZ hK (v:=v) h)
theorem yP:∀{l acc:List α},(uF K acc l).length≤acc.length+l.length
 |[],acc=>by simp[uF]
 |v::l,acc=>by
  rw[show uF K acc (v::l)=uF K (ux K acc v) l from rfl];have:=yP (l:=l) (acc:=ux K acc v);have:=DY (K:=K) (acc:=acc) (v:=v);rw[bO];omega
theorem ss(hK:LinK K)(l:List α):bQ K (uD K l):=zo hK pr
theorem pi{l:List α}{x:α}:x∈uD K l↔x∈l:=by
 unfold uD;rw[yZ];simp
theorem yI{l:List α}:(uD K l).length≤l.length:=by
 have:=yP (K:=K) (l:=l) (acc:=[]);unfold uD;rw[fC] at this;omega
theorem Gw(hK:LinK K){l:List α}(h:bQ K l):uD K l=l:=ni hK (ss hK l) h fun _=>pi
theorem yB{l:List α}:uD K l=[]↔l=[]:=by
 constructor
 ·intro h;cases l with
  |nil=>rfl
  |cons a l=>
   have:a∈uD K (a::l):=pi.2 (cJ ..);rw[h] at this;exact absurd this (by simp)
 ·rintro rfl;rfl
end
section
variable{α:Type}[Inhabited α][DecidableEq α]
end
abbrev Shn{α:Type}(l:List α):Prop:=l.length≤17592186044416
structure Vtx where
 color:Int
 label:Int
 deriving Inhabited,DecidableEq
abbrev Spx:=List Vtx
def DV(v:Vtx):List AV:=[.int .i64 v.color,.int .i64 v.label]
abbrev dD(v:Vtx):AV:=.agg [.int .i64 v.color,.int .i64 v.label]
def aC(l:Spx):AV:=iT 2 dD l
def an(l:List Spx):AV:=iT 1 aC l
def cX(l:Spx):List AV:=l.flatMap DV
theorem Fx(v:Vtx):Dat (dD v):=Dat.agg (DatL.cons .int (DatL.cons .int DatL.nil))
theorem dA (l:Spx):Dat (aC l):=sd (fun x _ c hc=>by
 simp only[dD,AV.cells,cR,List.not_mem_nil,or_false] at hc;rcases hc with rfl|rfl<;>exact .int)
theorem bh (l:List Spx):Dat (an l):=sd (fun x _ c hc=>by
 simp only[aC,iT,AV.cells,cV] at hc;subst hc;exact dA x)
instance datI_encX{v:Vtx}:DatI (dD v):=⟨Fx v⟩
instance datI_encXs{l:Spx}:DatI (aC l):=⟨dA l⟩
instance datI_encXss{l:List Spx}:DatI (an l):=⟨bh l⟩
theorem aU{l:Spx}:(aC l).cells=[aC l]:=rfl
theorem bf{l:Spx}:(aC l).one=true:=rfl
theorem ae{l:List Spx}:(an l).cells=[an l]:=rfl
theorem aj{l:List Spx}:(an l).one=true:=rfl
theorem A3{l:Spx}{k:IntKind}{n:Int}:ey 2 (aC l) (.int k n)=if 0≤n∧n<l.length then some (.iptr [.int .i64 (l.getD n.toNat default).color,.int .i64 (l.getD n.toNat default).label] 0) else none:=mG
theorem au{l:Spx}:dz (aC l)=some (.int .i64 l.length):=kO
theorem rl{l:List Spx}{k:IntKind}{n:Int}:ey 1 (an l) (.int k n)=if 0≤n∧n<l.length then some (.iptr [aC (l.getD n.toNat default)] 0) else none:=mG
theorem ah{l:List Spx}:dz (an l)=some (.int .i64 l.length):=kO
theorem ix2{l:Spx}{k:Nat}(h:k<l.length):ey 2 (aC l) (.int .i64 (k:Int))=some (.iptr [.int .i64 (l.getD k default).color,.int .i64 (l.getD k default).label] 0):=by
 rw[A3,if_pos ⟨by omega,by omega⟩,cw]
theorem fj{l:List Spx}{k:Nat}(h:k<l.length):ey 1 (an l) (.int .i64 (k:Int))=some (.iptr [aC (l.getD k default)] 0):=by
 rw[rl,if_pos ⟨by omega,by omega⟩,cw]
theorem jK(l:Spx):(cX l).length=l.length*2:=by
 induction l with
 |nil=>rfl
 |cons a l ih=>rw[cX,uu,du,bO,show(l.flatMap DV).length=l.length*2 from ih];show 2+_=_;omega
theorem mI(l m:Spx):cX (l++m)=cX l++cX m:=List.flatMap_append
theorem Ir(v:Vtx):cX [v]=[.int .i64 v.color,.int .i64 v.label]:=rfl
theorem A5(l:Spx):(l.map dD).flatMap AV.cells=cX l:=by
 induction l with
 |nil=>rfl
 |cons a l ih=>rw[dT,uu,ih];rfl
theorem JA{H:Hp}{s:AV}{l:Spx}(h:Row H 2 s (cX l)):Snap H s (aC l):=by
 refine Row.snap (elems:=l.map dD) (by rw[A5];exact h) (fun y hy=>?_) (by omega) (fun y hy c hx=>?_)
 ·obtain⟨n,_,rfl⟩:=bE.1 hy;rfl
 ·obtain⟨n,_,rfl⟩:=bE.1 hy;simp only[dD,AV.cells,cR,List.not_mem_nil,or_false] at hx;rcases hx with rfl|rfl<;>exact .int
theorem kw{H:Hp}{s:AV}{l:List Spx}(h:Row H 1 s (l.map aC)):Snap H s (an l):=h.snapL' (fun _=>rfl) (fun x _=>dA x)
theorem yw{H:Hp}{l:Spx}:er 2 H (aC l)=some (l.length,cX l):=by
 unfold aC iT;rw[ku,A5];simp
theorem mL(l:Spx):AV.ones (cX l)=true:=by
 unfold AV.ones;rw[eh];intro x hx;obtain⟨v,_,hv⟩:=List.mem_flatMap.1 hx;simp only[DV,cR,List.not_mem_nil,or_false] at hv;rcases hv with rfl|rfl<;>rfl
def cl(v w:Vtx):Int:=if v.color<w.color then-1 else if v.color>w.color then 1 else if v.label<w.label then-1 else if v.label>w.label then 1 else 0
def bH:Spx→Spx→Int
 |[],[]=>0
 |[],_::_=>-1
 |_::_,[]=>1
 |a::l,b::m=>if cl a b≠0 then cl a b else bH l m
theorem oH{v w:Vtx}:cl v w<0↔v.color<w.color∨(v.color=w.color∧v.label<w.label):=by
 unfold cl;(repeat' split)<;>constructor<;>intro h<;>omega
theorem oo{v w:Vtx}:v=w↔v.color=w.color∧v.label=w.label:=by
 obtain⟨a,b⟩:=v;obtain⟨c,d⟩:=w;simp
theorem iZ{v w:Vtx}:cl v w=0↔v=w:=by
 rw[oo];unfold cl;(repeat' split)<;>constructor<;>intro h<;>omega
theorem vo(v w:Vtx):cl w v=- cl v w:=by
 unfold cl;(repeat' split)<;>omega
theorem A9:LinK cl where
 ord:={irr:=fun x=>by rw[oH];omega,asym:=fun x y h=>by rw[oH] at *;omega,negtr:=fun x y z h1 h2=>by rw[oH] at *;omega}
 eq:=fun x y h1 h2=>by rw[oH] at *;rw[oo];omega
theorem fZ:∀l:Spx,bH l l=0
 |[]=>rfl
 |a::l=>by rw[bH,iZ.2 rfl,if_neg (by simp)];exact fZ l
theorem pu:∀{l m:Spx},bH l m=0→l=m
 |[],[],_=>rfl
 |[],_::_,h=>by simp[bH] at h
 |_::_,[],h=>by simp[bH] at h
 |a::l,b::m,h=>by
  rw[bH] at h;by_cases e:cl a b=0
  ·rw[if_neg (fun h=>h e)] at h;rw[iZ.1 e,pu h]
  ·rw[if_pos e] at h;exact absurd h e
theorem Di{l m:Spx}:bH l m=0↔l=m:=⟨pu,fun h=>by rw[h];exact fZ _⟩
theorem qb:∀l m:Spx,bH m l=- bH l m
 |[],[]=>rfl
 |[],_::_=>rfl
 |_::_,[]=>rfl
 |a::l,b::m=>by
  rw[bH,bH,vo a b];by_cases e:cl a b=0
  ·rw[e,if_neg (by simp),if_neg (by simp)];exact qb l m
  ·rw[if_pos (by omega),if_pos e]
theorem sf:∀(x y z:Spx),¬bH y x<0→¬bH z y<0→¬bH z x<0
 |[],_,[],_,_=>by simp[bH]
 |[],_,_::_,_,_=>by simp[bH]
 |_::_,[],_,h,_=>by simp[bH] at h
 |_::_,_::_,[],_,h=>by simp[bH] at h
 |a::x,b::y,c::z,h1,h2=>by
  rw[bH] at h1 h2 ⊢;have n:=A9.ord.negtr a b c;by_cases e1:cl b a=0
  ·have e1':=iZ.1 e1;subst e1';rw[if_neg (fun h=>h e1)] at h1;by_cases e2:cl c b=0
   ·rw[if_neg (fun h=>h e2)] at h2 ⊢;exact sf x y z h1 h2
   ·rw[if_pos e2] at h2 ⊢;exact h2
  ·rw[if_pos e1] at h1;by_cases e2:cl c b=0
   ·have e2':=iZ.1 e2;subst e2';rw[if_pos e1];exact h1
   ·rw[if_pos e2] at h2;have h3:=n h1 h2;by_cases e3:cl c a=0
    ·exfalso;have e3':=iZ.1 e3;subst e3';have:=vo b c;omega
    ·rw[if_pos e3];exact h3
theorem ji:LinK bH where
 ord:={irr:=fun x=>by rw[fZ];omega,asym:=fun x y h=>by rw[qb];omega,negtr:=sf}
 eq:=fun x y h1 h2=>by
  have:=qb x y;exact pu (by omega)
theorem vS{l m:Spx}{k:Nat}(h1:k<l.length)(h2:k<m.length):bH (l.drop k) (m.drop k)=if cl (l.getD k default) (m.getD k default)≠0 then cl (l.getD k default) (m.getD k default) else bH (l.drop (k+1)) (m.drop (k+1)):=by
 rw[mU h1,mU h2,bH]
theorem tN{l m:Spx}{k:Nat}(h:l.length≤k∨m.length≤k)(hk:k≤l.length∧k≤m.length):bH (l.drop k) (m.drop k)=if l.length<m.length then-1 else if m.length<l.length then 1 else 0:=by
 by_cases e1:l.length=k
 ·rw[EV (show l.length≤k by omega)];by_cases e2:m.length=k
  ·rw[EV (by omega),if_neg (by omega),if_neg (by omega)];rfl
  ·rw[mU (l:=m) (k:=k) (by omega),if_pos (by omega)];rfl
 ·have e2:m.length=k:=by omega
  rw[mU (l:=l) (k:=k) (by omega),EV (show m.length≤k by omega),if_neg (by omega),if_pos (by omega)];rfl
def dN(f:Nat→Int):Nat→Int
 |0=>0
 |n+1=>if dN f n≠0 then dN f n else f n
theorem dt{f:Nat→Int}:∀{n:Nat},(∀i,i<n→f i=0)→dN f n=0
 |0,_=>rfl
 |n+1,h=>by
  have:=dt (f:=f) (n:=n) (fun i hi=>h i (by omega));rw[dN,this,if_neg (by simp)];exact h n (by omega)
theorem di{f:Nat→Int}:∀{n k:Nat},k<n→(∀i,i<k→f i=0)→f k≠0→dN f n=f k
 |0,k,h,_,_=>absurd h (by omega)
 |n+1,k,h,h0,hk=>by
  rw[dN];by_cases e:k=n
  ·subst e;rw[dt h0,if_neg (by simp)]
  ·rw[di (n:=n) (by omega) h0 hk,if_pos hk]
theorem gB{f:Nat→Int}:∀{n:Nat},dN f n=0→∀i,i<n→f i=0
 |0,_,i,h=>absurd h (by omega)
 |n+1,h,i,hi=>by
  rw[dN] at h;by_cases e:dN f n=0
  ·rw[e,if_neg (by simp)] at h;by_cases ei:i=n
   ·subst ei;exact h
   ·exact gB e i (by omega)
  ·rw[if_pos e] at h;exact absurd h e
def fL(v:Vtx):Bool:=decide (0≤v.color)&&decide (v.color<8)&&(decide (0≤v.label)&&decide (v.label≤1048576))
def qY(l:Spx)(k:Nat):Int:=if fL (l.getD k default)=false then 2 else if 0<k∧0≤cl (l.getD (k-1) default) (l.getD k default) then 14 else 0
def bT(l:Spx):Int:=if l.length=0 then 16 else if 8<l.length then 5 else dN (qY l) l.length
theorem cu{l:Spx}(h:bT l=0):1≤l.length∧l.length≤8∧bQ cl l∧∀v∈l,fL v=true:=by
 unfold bT at h;split at h
 ·exact absurd h (by decide)
 split at h
 ·exact absurd h (by decide)
 rename_i h1 h2;have hz:=gB h
 have h3:∀k,k<l.length→fL (l.getD k default)=true∧(0<k→cl (l.getD (k-1) default) (l.getD k default)<0):=fun k hk=>by
  have:=hz k hk;unfold qY at this;split at this
  ·exact absurd this (by decide)
  rename_i g1;split at this
  ·exact absurd this (by decide)
  rename_i g2;exact⟨by simpa using g1,fun h0=>by omega⟩
 refine⟨by omega,by omega,?_,fun v hv=>?_⟩
 ·have step:∀j i,i<j→j<l.length→cl (l.getD i default) (l.getD j default)<0:=by
    intro j
    induction j with
    |zero=>intro i h;omega
    |succ j ih=>
     intro i hi hj;have hs:=(h3 (j+1) hj).2 (by omega);rw[qg] at hs;by_cases e:i=j
     ·subst e;exact hs
     ·exact A9.trans (ih i (by omega) (by omega)) hs
  unfold bQ;rw[jT];intro i j hi hj hij;have:=step j i hij hj;simpa[List.getD,hi,hj] using this
 ·obtain⟨i,hi,rfl⟩:=jV hv;have:=(h3 i hi).1;simpa[List.getD,hi] using this
theorem dQ{α:Type}[Inhabited α]{K:α→α→Int}{l:List α}(h:bQ K l){i j:Nat}(hij:i<j)(hj:j<l.length):K (l.getD i default) (l.getD j default)<0:=by
 have:=jT.1 h i j (by omega) hj hij;simpa[List.getD,hj,show i<l.length by omega] using this
theorem yA{l:Spx}(h1:1≤l.length∧l.length≤8)(h2:bQ cl l)(h3:∀v∈l,fL v=true):bT l=0:=by
 unfold bT;rw[if_neg (by omega),if_neg (by omega)];refine dt fun k hk=>?_;unfold qY;rw[h3 _ (a5 hk),if_neg (by simp),if_neg];rintro⟨h0,h4⟩;have:=dQ h2 (i:=k-1) (j:=k) (by omega) hk;omega
end Go.Proofs.YtekdaafnjdlenaaGreat
namespace Go.Proofs.YtekdaafnjdlenaaGreat
open Go Go.Abs
open Nat (reduceEqDiff reduceAdd reduceLeDiff)
def c3i(a b:Int):Int:=if a<b then-1 else if a>b then 1 else 0
theorem GD(v w:Vtx):(if c3i v.color w.color≠0 then c3i v.color w.color else c3i v.label w.label)=cl v w:=by
 unfold c3i cl;by_cases h1:v.color<w.color
 ·rw[if_pos h1,if_pos h1,if_pos (by simp)]
 ·rw[if_neg h1,if_neg h1];by_cases h2:v.color>w.color
  ·rw[if_pos h2,if_pos h2,if_pos (by simp)]
  ·rw[if_neg h2,if_neg h2,if_neg (by simp)]
attribute [local irreducible] aH ai be aY aP aQ aD aR aZ bl Go.Abs.Fn aX Go.Abs.Pure aq aK Yl
theorem jb(n:Int):pU 165 [.int .i64 n] (.bool false):=by
 refine pO Kd ?_;simp only[L9,aJ];refine wnZ and_self ?_;exact ci (bc (fun h=>h rfl))
theorem Eu(a b:Int):pU 152 [.int .i64 a,.int .i64 b] (.int .i64 (c3i a b)):=by
 refine pO Ku ?_;simp only[J4,aJ];have h1:=jb a;have h2:=jb b;unfold c3i
 repeat' (first|refine zW ?_|apply a_n|apply a_r|refine zO ?_|refine vZ ?_|refine cZ ?_ (hp:=by first|exact h1|exact h2)|refine cFZ ?_|(refine zGZ ?_ ?_<;>(intro _hg;try (exfalso;omega)))|refine bI rfl ?_|refine r1Z ?_|fail)
 all_goals (refine ee ?_)
 ·rw[if_pos (by omega)]
 ·rw[if_neg (by omega),if_pos (by omega)]
 ·rw[if_neg (by omega),if_neg (by omega)]
theorem Lj(a b:Int):pU 151 [aE [a,b]] (.int .i64 (if a≠0 then a else b)):=by
 refine pO JW ?_;simp only[K9,aJ];refine wnZ and_self ?_;refine Cc (fun k=>[(3,.int .i64 0),(6,aE [a,b]),(7,.int .i64 2),(8,.int .i64 k)]) 2 (fun k=>[a,b].getD k default=0) (by(iterate 4 refine And.intro rfl ?_);trivial) ?_;intro k hk hz;rcases(by omega:k=0∨k=1∨k=2) with rfl|rfl|rfl
 ·have e:[a,b].getD 0 default=a:=rfl;have ix:ey 1 (aE [a,b]) (.int .i64 ((0:Nat):Int))=some (.iptr [.int .i64 a] 0):=rfl;by_cases h0:a=0
  ·have z:decide (a≠0)=false:=bc (fun h=>h h0);refine wnZ (aI @ix @z) ?_;exact⟨by omega,h0,by(iterate 4 refine And.intro rfl ?_);trivial,rfl,rfl⟩
  ·have z:decide (a≠0)=true:=a8 h0;refine wnZ (aI @ix @z) ?_;rw[if_pos h0];exact .int _ _
 ·have h0:a=0:=hz 0 (by omega);have ix:ey 1 (aE [a,b]) (.int .i64 ((1:Nat):Int))=some (.iptr [.int .i64 b] 0):=rfl;rw[if_neg (fun h=>h h0)];by_cases h1:b=0
  ·have z:decide (b≠0)=false:=bc (fun h=>h h1);refine wnZ (aI @ix @z) ?_;exact⟨by omega,h1,by(iterate 4 refine And.intro rfl ?_);trivial,rfl,rfl⟩
  ·have z:decide (b≠0)=true:=a8 h1;refine wnZ (aI @ix @z) ?_;exact .int _ _
 ·have h0:a=0:=hz 0 (by omega);have h1:b=0:=hz 1 (by omega);rw[if_neg (fun h=>h h0),h1];refine wnZ and_self ?_;exact .int _ _
theorem Bl(v w:Vtx):pU 123 [dD v,dD w] (.int .i64 (cl v w)):=by
 refine pO KJ ?_;simp only[Ml,aJ];have h1:=Eu v.color w.color;have h2:=Eu v.label w.label;have h3:=Lj (c3i v.color w.color) (c3i v.label w.label);rw[GD] at h3;refine wkZ and_self ?_;refine ec ev0 (by((try simp only[b5,ZA,reduceEqDiff,↓reduceIte,reduceAdd,reduceLeDiff]);(try with_reducible rfl));rfl) h3 (aA (ag (d8 af rfl rfl) ak) rfl) ?_;refine wnZ and_self ?_;exact .int _ _
theorem uc(v w:Vtx):pU 126 [dD v,dD w] (.int .i64 (cl v w)):=by
 refine pO JC ?_;simp only[Ke,aJ];unfold cl
 repeat' (first|refine zW ?_|apply a_n|apply a_r|refine zO ?_|refine vZ ?_|refine bxZ ?_|(refine zGZ ?_ ?_<;>(intro _hg;try (exfalso;omega)))|refine bI rfl ?_|refine r1Z ?_|fail)
 all_goals (refine ee ?_;(repeat' split)<;>omega)
theorem AO(v:Vtx):pU 153 [dD v] (.bool (fL v)):=by
 refine pO L1 ?_;simp only[LJ,aJ];unfold fL
 repeat' (first|refine zW ?_|apply a_n|refine zO ?_|refine vZ ?_|refine bxZ ?_|refine gTZ ?_|refine gFZ ?_|(refine zGZ ?_ ?_<;>(intro _hg;try (exfalso;omega)))|refine bI rfl ?_|refine r1Z ?_|fail)
 all_goals (refine ci ?_;rw[Bool.eq_iff_iff];simp only[dR,xm,jv,false_iff];omega)
theorem DB(v:Vtx):pU 125 [dD v] (.bool (fL v)):=by
 refine pO J9 ?_;simp only[K1,aJ];unfold fL
 repeat' (first|refine zW ?_|apply a_n|refine zO ?_|refine vZ ?_|refine bxZ ?_|refine gTZ ?_|refine gFZ ?_|(refine zGZ ?_ ?_<;>(intro _hg;try (exfalso;omega)))|refine bI rfl ?_|refine r1Z ?_|fail)
 all_goals (refine ci ?_;rw[Bool.eq_iff_iff];simp only[dR,xm,jv,false_iff];omega)
end Go.Proofs.YtekdaafnjdlenaaGreat
namespace Go.Proofs.YtekdaafnjdlenaaGreat
open Go Go.Abs
attribute [local irreducible] aH ai be aY aP aQ aD aR aZ bl Go.Abs.Fn aX Go.Abs.Pure aq aK Yl
theorem zv(l m:Spx)(hl:Shn l)(hm:Shn m):pU 122 [aC l,aC m,.func 123 []] (.int .i64 (bH l m)):=by
 refine pO Lx ?_;simp only[Kr,aJ];have hl':l.length≤17592186044416:=hl;have hm':m.length≤17592186044416:=hm;refine wnZ @au ?_;refine b0 (X:=Nat) (fun k=>[(0,aC l),(1,aC m),(2,.func 123 []),(11,aC l),(12,.int .i64 l.length),(13,.int .i64 k)]) (fun k H nx=>k≤l.length∧k≤m.length∧bH l m=bH (l.drop k) (m.drop k)) (fun k=>l.length-k) 0 ⟨bR _,bR _,rfl⟩ ag0 ?_;rintro k H nx ⟨h1,h2,h3⟩;by_cases hk:k<l.length
 rotate_left
 ·rw[h3,tN (by omega) ⟨h1,h2⟩];have zz:=@au;repeat' (first|refine zW ?_|apply a_n|apply a_x|apply a_r|refine zO ?_|refine vY ?_|(refine zGY ?_ ?_<;>(intro _hg;try (exfalso;omega)))|refine bI rfl ?_|refine r1Y ?_|fail)
  all_goals (refine ee ?_)
  ·rw[if_pos (by omega)]
  ·rw[if_neg (by omega),if_neg (by omega)]
 have ix:=ix2 hk;by_cases hk2:k<m.length
 rotate_left
 ·rw[h3,tN (by omega) ⟨h1,h2⟩,if_neg (by omega),if_pos (by omega)];refine wnY (aI @au @ix) ?_
  all_goals exact ee rfl
 have iy:=ix2 hk2;have hc:=Bl (l.getD k default) (m.getD k default);have hd:=vS hk hk2;by_cases he:cl (l.getD k default) (m.getD k default)=0
 ·rw[if_neg (fun h=>h he)] at hd;rw[he] at hc;have z:decide ((0:Int)≠0)=false:=rfl;refine wnY (zI4 @au @ix @iy @z) ?_;exact⟨k+1,by omega,⟨by omega,by omega,h3.trans hd⟩,ag0⟩
 ·rw[if_pos he] at hd;have z:decide (cl (l.getD k default) (m.getD k default)≠0)=true:=a8 he;rw[h3,hd];refine wnY (zI4 @au @ix @iy @z) ?_;exact .int _ _
theorem gI(l m:Spx)(hl:Shn l)(hm:Shn m):pU 70 [aC l,aC m] (.int .i64 (bH l m)):=by
 refine pO Nr ?_;simp only[b70,aJ];have h:=zv l m hl hm;refine wnZ and_self ?_;exact .int _ _
theorem n9(l m:Spx)(hl:Shn l)(hm:Shn m):pU 73 [aC l,aC m] (.int .i64 (bH l m)):=by
 refine pO MN ?_;simp only[b73,aJ];have hl':l.length≤17592186044416:=hl;have hm':m.length≤17592186044416:=hm;refine wnZ and_self ?_;refine b0 (X:=Nat) (fun k=>[(0,aC l),(1,aC m),(5,.int .i64 k)]) (fun k H nx=>k≤l.length∧k≤m.length∧bH l m=bH (l.drop k) (m.drop k)) (fun k=>l.length-k) 0 ⟨bR _,bR _,rfl⟩ ag0 ?_;rintro k H nx ⟨h1,h2,h3⟩;by_cases hk:k<l.length∧k<m.length
 rotate_left
 ·rw[h3,tN (by omega) ⟨h1,h2⟩];have zz:=@au;repeat' (first|refine zW ?_|apply a_n|apply a_x|apply a_r|refine zO ?_|refine vY ?_|refine gTY ?_|refine gFY ?_|refine cFY ?_|(refine zGY ?_ ?_<;>(intro _hg;try (exfalso;omega)))|refine bI rfl ?_|refine r1Y ?_|fail)
  all_goals (refine ee ?_;(repeat' split)<;>omega)
 have ix:=ix2 hk.1;have iy:=ix2 hk.2;have hc:=uc (l.getD k default) (m.getD k default);have hd:=vS hk.1 hk.2;by_cases he:cl (l.getD k default) (m.getD k default)=0
 ·rw[if_neg (fun h=>h he)] at hd;rw[he] at hc;have z:decide ((0:Int)≠0)=false:=rfl;refine wkY (zI4 @au @ix @iy @z) ?_;exact⟨k+1,by omega,⟨by omega,by omega,h3.trans hd⟩,ag0⟩
 ·rw[if_pos he] at hd;have z:decide (cl (l.getD k default) (m.getD k default)≠0)=true:=a8 he;rw[h3,hd];refine wkY (zI4 @au @ix @iy @z) ?_;exact .int _ _
theorem GA(l m:Spx)(hl:Shn l)(hm:Shn m):pU 63 [aC l,aC m] (.bool (decide (l=m))):=by
 refine pO MI ?_;simp only[b63,aJ];have h:=n9 l m hl hm;refine wnZ and_self ?_;exact ci (decide_eq_decide.2 Di)
theorem ri{l:Spx}{k:Nat}:qY l k=if fL (l.getD k default)=false then 2 else if 0<k∧0≤cl (l.getD (k-1) default) (l.getD k default) then 14 else 0:=rfl
theorem pA(l:Spx)(hl:Shn l):pU 128 [aC l] (.int .i64 (bT l)):=by
 refine pO KA ?_;simp only[L4,aJ];have hl':l.length≤17592186044416:=hl;by_cases h0:l.length=0
 ·rw[show bT l=16 by unfold bT;rw[if_pos h0]];refine wnZ @au ?_
  all_goals exact ee rfl
 by_cases h8:8<l.length
 ·rw[show bT l=5 by unfold bT;rw[if_neg h0,if_pos h8]];refine wnZ @au ?_
  all_goals exact ee rfl
 rw[show bT l=dN (qY l) l.length by unfold bT;rw[if_neg h0,if_neg h8]];refine wnZ @au ?_;refine b0 (X:=Nat) (fun k=>[(0,aC l),(13,aC l),(14,.int .i64 l.length),(15,.int .i64 k)]) (fun k H nx=>k≤l.length∧∀i,i<k→qY l i=0) (fun k=>l.length-k) 0 ⟨bR _,fun i h=>absurd h (by omega)⟩ ag0 ?_;rintro k H nx ⟨h1,h2⟩;by_cases hk:k<l.length
 rotate_left
 ·rw[dt fun i hi=>h2 i (by omega)];refine wnY @au ?_;exact .int _ _
 have ix:=ix2 hk;have hp:=AO (l.getD k default);have hs:=ri (l:=l) (k:=k);cases hr:fL (l.getD k default)
 ·rw[hr] at hp;rw[hr,if_pos rfl] at hs;rw[di hk h2 (by rw[hs];decide),hs];refine wnY (aI @au @ix) ?_;exact .int _ _
 rw[hr] at hp;rw[hr,if_neg (by decide)] at hs;by_cases hk0:0<k
 rotate_left
 ·rw[if_neg (fun h=>hk0 h.1)] at hs;have zk:decide (0<(k:Int))=false:=bc (by omega);refine wkY (zI3 @au @ix @zk) ?_
  exact ⟨k + 1,by omega,⟨by omega,fun i hi=>by
   rcases jq.1 hi with h|rfl
   ·exact h2 i h
   ·exact hs⟩,ag0⟩
 have zk:decide (0<(k:Int))=true:=a8 (by omega)
 have iy:ey 2 (aC l) (.int .i64 ((k:Int)-1))=some (.iptr [.int .i64 (l.getD (k-1) default).color,.int .i64 (l.getD (k-1) default).label] 0):=by
  have:=ix2 (l:=l) (k:=k-1) (by omega)
  rwa [show((k-1:Nat):Int)=(k:Int)-1 by omega] at this
 have hc:=Bl (l.getD (k-1) default) (l.getD k default);by_cases hv:0≤cl (l.getD (k-1) default) (l.getD k default)
 ·have z:decide (0≤cl (l.getD (k-1) default) (l.getD k default))=true:=a8 hv;rw[if_pos ⟨hk0,hv⟩] at hs;rw[di hk h2 (by rw[hs];decide),hs];refine wkY (zI5 @au @ix @iy @zk @z) ?_;exact .int _ _
 ·have z:decide (0≤cl (l.getD (k-1) default) (l.getD k default))=false:=bc hv;rw[if_neg (fun h=>hv h.2)] at hs;refine wkY (zI5 @au @ix @iy @zk @z) ?_
  exact ⟨k + 1,by omega,⟨by omega,fun i hi=>by
   rcases jq.1 hi with h|rfl
   ·exact h2 i h
   ·exact hs⟩,ag0⟩
theorem Bg(l:Spx)(hl:Shn l):pU 72 [aC l] (.int .i64 (bT l)):=by
 refine pO MY ?_;simp only[b72,aJ];have hl':l.length≤17592186044416:=hl;by_cases h0:l.length=0
 ·rw[show bT l=16 by unfold bT;rw[if_pos h0]];refine wnZ @au ?_
  all_goals exact ee rfl
 by_cases h8:8<l.length
 ·rw[show bT l=5 by unfold bT;rw[if_neg h0,if_pos h8]];refine wnZ @au ?_
  all_goals exact ee rfl
 rw[show bT l=dN (qY l) l.length by unfold bT;rw[if_neg h0,if_neg h8]];refine wnZ @au ?_;refine b0 (X:=Nat) (fun k=>[(0,aC l),(3,.int .i64 k)]) (fun k H nx=>k≤l.length∧∀i,i<k→qY l i=0) (fun k=>l.length-k) 0 ⟨bR _,fun i h=>absurd h (by omega)⟩ ag0 ?_;rintro k H nx ⟨h1,h2⟩;by_cases hk:k<l.length
 rotate_left
 ·rw[dt fun i hi=>h2 i (by omega)];refine wnY @au ?_;exact .int _ _
 have ix:=ix2 hk;have hp:=DB (l.getD k default);have hs:=ri (l:=l) (k:=k);cases hr:fL (l.getD k default)
 ·rw[hr] at hp;rw[hr,if_pos rfl] at hs;rw[di hk h2 (by rw[hs];decide),hs];refine wnY (aI @au @ix) ?_;exact .int _ _
 rw[hr] at hp;rw[hr,if_neg (by decide)] at hs;by_cases hk0:0<k
 rotate_left
 ·rw[if_neg (fun h=>hk0 h.1)] at hs;have zk:decide (0<(k:Int))=false:=bc (by omega);refine wkY (zI3 @au @ix @zk) ?_
  exact ⟨k + 1,by omega,⟨by omega,fun i hi=>by
   rcases jq.1 hi with h|rfl
   ·exact h2 i h
   ·exact hs⟩,ag0⟩
 have zk:decide (0<(k:Int))=true:=a8 (by omega)
 have iy:ey 2 (aC l) (.int .i64 ((k:Int)-1))=some (.iptr [.int .i64 (l.getD (k-1) default).color,.int .i64 (l.getD (k-1) default).label] 0):=by
  have:=ix2 (l:=l) (k:=k-1) (by omega)
  rwa [show((k-1:Nat):Int)=(k:Int)-1 by omega] at this
 have hc:=uc (l.getD (k-1) default) (l.getD k default);by_cases hv:0≤cl (l.getD (k-1) default) (l.getD k default)
 ·have z:decide (0≤cl (l.getD (k-1) default) (l.getD k default))=true:=a8 hv;rw[if_pos ⟨hk0,hv⟩] at hs;rw[di hk h2 (by rw[hs];decide),hs];refine wkY (zI5 @au @ix @iy @zk @z) ?_;exact .int _ _
 ·have z:decide (0≤cl (l.getD (k-1) default) (l.getD k default))=false:=bc hv;rw[if_neg (fun h=>hv h.2)] at hs;refine wkY (zI5 @au @ix @iy @zk @z) ?_
  exact ⟨k + 1,by omega,⟨by omega,fun i hi=>by
   rcases jq.1 hi with h|rfl
   ·exact h2 i h
   ·exact hs⟩,ag0⟩
end Go.Proofs.YtekdaafnjdlenaaGreat
namespace Go.Proofs.YtekdaafnjdlenaaGreat
open Go Go.Abs
open Nat (reduceEqDiff reduceAdd reduceLeDiff)
theorem A8(a b c d:Int):dC [.int,.int] [.int .i64 a,.int .i64 b] [.int .i64 c,.int .i64 d]=some (decide (a=c∧b=d)):=by
 have e:∀x y:Int,(x==y)=decide (x=y):=fun x y=>rfl;by_cases h1:a=c
 ·by_cases h2:b=d
  ·subst h1 h2;simp[dC,jc]
  ·subst h1;simp only[dC,jc,if_true,e,bc h2,decide_true,h2,and_false,decide_false]
 ·simp only[dC,jc,if_true,e,bc h1,h1,false_and,decide_false]
theorem acq(a b c d:Int):ou .eql [.int,.int] [.int .i64 a,.int .i64 b] [.int .i64 c,.int .i64 d]=some (.bool (decide (a=c∧b=d))):=by
 unfold ou;rw[A8]
theorem acn(a b c d:Int):ou .neq [.int,.int] [.int .i64 a,.int .i64 b] [.int .i64 c,.int .i64 d]=some (.bool (!decide (a=c∧b=d))):=by
 unfold ou;rw[A8]
theorem xH(v w:Vtx):decide (v.color=w.color∧v.label=w.label)=decide (v=w):=decide_eq_decide.2 oo.symm
theorem qt{H:Hp}{d:Nat}{x y:AV}:er 2 (ap H d [x,y]) (.msl d 2 2 0 1)=some (1,[x,y]):=fH (n:=2) (len:=1) (off:=0) (cs:=[x,y]) af rfl (by simp)
theorem cr{α:Type}[Inhabited α]{l:List α}{k:Nat}(h:k<l.length):l.take (k+1)=l.take k++[l.getD k default]:=by
 rw[List.take_add_one];simp[List.getD,h]
section
variable{α:Type}{K:α→α→Int}{v x:α}{l:List α}
end
def eX(a b:Spx):Bool:=a.all fun v=>decide (v∈b)
attribute [local irreducible] aH ai be aY aP aQ aD aR aZ bl Go.Abs.Fn aX Go.Abs.Pure aq aK Yl
theorem L8(l:Spx)(v:Vtx)(hl:Shn l):pU 127 [aC l,dD v] (.bool (decide (v∈l))):=by
 refine pO JK ?_;simp only[LD,aJ];have hl':l.length≤17592186044416:=hl;refine wnZ @au ?_;refine Cc (fun k=>[(0,aC l),(3,.ptr 0 2 0),(5,.int .i64 k)]) l.length (fun k=>l.getD k default≠v) (by simp (disch:=omega) only[agr,ZG,reduceEqDiff,↓reduceIte,bO,fC,cf,reduceAdd]) ?_;intro k hk hz;by_cases hk2:k<l.length
 rotate_left
 ·refine wnZ @au ?_;exact ci (C9 fun i hi=>hz i (by omega)).symm
 have ix:=ix2 hk2;have hd:=xH (l.getD k default) v;by_cases he:l.getD k default=v
 ·rw[a8 he] at hd;rw[EM hk2 he];refine wnZ (zI4 @au @ix @acq @hd) ?_;exact .bool _
 ·rw[bc he] at hd;refine wnZ (zI4 @au @ix @acq @hd) ?_;exact⟨hk2,he,ag0,rfl,rfl⟩
theorem DU(a b:Spx)(ha:Shn a)(hb:Shn b):pU 74 [aC a,aC b] (.bool (eX a b)):=by
 refine pO Mu ?_;simp only[b74,aJ];have ha':a.length≤17592186044416:=ha;refine wnZ @au ?_;refine Cc (fun k=>[(0,aC a),(1,aC b),(5,.int .i64 k)]) a.length (fun k=>decide (a.getD k default∈b)=true) ag0 ?_;intro k hk hz;by_cases hk2:k<a.length
 rotate_left
 ·refine wnZ @au ?_;exact ci (jU fun i hi=>hz i (by omega)).symm
 have ix:=ix2 hk2;have hh:=L8 b (a.getD k default) hb;cases hm:decide (a.getD k default∈b)
 ·rw[hm] at hh;rw[show eX a b=false from iY hk2 hm];refine wnZ (aI @au @ix) ?_;exact .bool _
 ·rw[hm] at hh;refine wnZ (aI @au @ix) ?_;exact⟨hk2,rfl,ag0,rfl,rfl⟩
theorem CB(x y:List Spx)(hx:Shn x)(hy:Shn y)(hxs:∀v∈x,Shn v)(hys:∀v∈y,Shn v):pU 23 [an x,an y] (.bool (decide (x=y))):=by
 refine pO M9 ?_;simp only[b23,aJ];have hx':x.length≤17592186044416:=hx;have hy':y.length≤17592186044416:=hy;by_cases hlen:x.length=y.length
 rotate_left
 ·have z:decide ((x.length:Int)≠y.length)=true:=a8 (by omega);rw[bc (fun e=>hlen (by rw[e]))];refine wnZ (aI @ah @z) ?_;exact .bool _
 have z:decide ((x.length:Int)≠y.length)=false:=bc (by omega);refine wnZ (aI @ah @z) ?_;refine b0 (X:=Nat) (fun k=>[(0,an x),(1,an y),(5,.int .i64 k)]) (fun k H nx=>k≤x.length∧∀i,i<k→x.getD i default=y.getD i default) (fun k=>x.length-k) 0 ⟨bR _,fun i h=>absurd h (by omega)⟩ ag0 ?_;rintro k H nx ⟨hk,hz⟩;by_cases hk2:k<x.length
 rotate_left
 ·refine wnY @ah ?_;refine ci ?_
  symm;rw[xm]
  refine List.ext_getElem hlen fun i h3 h4=>?_;have:=hz i (by omega);simpa[List.getD,h3,h4] using this
 have ix:=fj hk2;have iy:=fj (l:=y) (k:=k) (by omega);have hc:=GA (x.getD k default) (y.getD k default) (hxs _ (a5 hk2)) (hys _ (a5 (by omega)));by_cases he:x.getD k default=y.getD k default
 ·rw[a8 he] at hc;refine wkY (zI3 @ah @ix @iy) ?_
  exact ⟨k + 1,by omega,⟨by omega,fun i hi=>by
   rcases jq.1 hi with h|rfl
   ·exact hz i h
   ·exact he⟩,ag0⟩
 ·rw[bc he] at hc;rw[bc (p:=x=y) (fun e=>he (by rw[e]))];refine wkY (zI3 @ah @ix @iy) ?_;exact .bool _
def kG(c:List Spx):Bool:=decide (c.length≤30)&&c.all fun s=>decide (s.length≤10)
theorem He(l:Spx)(hl:Shn l):pU 145 [aC l] (.bool (decide (l.length≤10))):=by
 refine pO Ka ?_;simp only[Mj,aJ];refine wnZ @au ?_;exact ci (decide_eq_decide.2 (by omega))
theorem Fg(c:List Spx)(hc:Shn c)(hs:∀s∈c,Shn s):pU 95 [an c] (.bool (kG c)):=by
 refine pO Nl ?_;simp only[b95,aJ];have hc':c.length≤17592186044416:=hc;unfold kG;by_cases h:c.length≤30
 rotate_left
 ·have z:decide (30<(c.length:Int))=true:=a8 (by omega);rw[bc h,Bool.false_and];refine wnZ (aI @ah @z) ?_;exact .bool _
 have z:decide (30<(c.length:Int))=false:=bc (by omega);rw[a8 h,Bool.true_and];refine wnZ (aI @ah @z) ?_;refine Cc (fun k=>[(0,an c),(3,.int .i64 k)]) c.length (fun k=>decide ((c.getD k default).length≤10)=true) ag0 ?_;intro k hk hz;by_cases hk2:k<c.length
 rotate_left
 ·refine wnZ @ah ?_;exact ci (jU fun i hi=>hz i (by omega)).symm
 have ix:=fj hk2;have hf:=He (c.getD k default) (hs _ (a5 hk2));cases hm:decide ((c.getD k default).length≤10)
 ·rw[hm] at hf;rw[iY hk2 hm];refine wnZ (aI @ah @ix) ?_;exact .bool _
 ·rw[hm] at hf;refine wnZ (aI @ah @ix) ?_;exact⟨hk2,rfl,ag0,rfl,rfl⟩
abbrev b9(c:List Spx):AV:=.agg [an c]
theorem bN(c:List Spx):Dat (b9 c):=Dat.agg (DatL.cons (bh c) DatL.nil)
instance datI_encCx{c:List Spx}:DatI (b9 c):=⟨bN c⟩
theorem Gk(c:List Spx)(hc:Shn c)(hs:∀s∈c,Shn s):pU 41 [b9 c] (.bool (kG c)):=by
 refine pO Na ?_;simp only[b41,aJ];have h:=Fg c hc hs;refine wnZ (aI @aj @ae) ?_;exact .bool _
end Go.Proofs.YtekdaafnjdlenaaGreat
namespace Go.Proofs.YtekdaafnjdlenaaGreat
open Go Go.Abs
theorem ya{α:Type}[Inhabited α]{l:List α}{p:α→Bool}{k:Nat}(hk:k<l.length)(h:∀i,i<k→p (l.getD i default)=false)(hv:p (l.getD k default)=true):l.any p=true∧l.findIdx p=k:=by
 have e:l.getD k default=l[k]:=by simp[List.getD,hk]
 refine⟨qv.2 ⟨l[k],nq hk,by rw[←e];exact hv⟩,(List.findIdx_eq hk).2 ⟨by rw[←e];exact hv,fun j hj=>by have:=h j hj;rwa [show l.getD j default=l[j] by simp[List.getD,show j<l.length by omega]] at this⟩⟩
section
attribute [local irreducible] aH ai be aY aP aQ aD aR aZ bl Go.Abs.Fn aX Go.Abs.Pure aq aK Yl
end
end Go.Proofs.YtekdaafnjdlenaaGreat
namespace Go.Proofs.YtekdaafnjdlenaaGreat
open Go Go.Abs
open Nat (reduceEqDiff reduceAdd reduceLeDiff)
theorem Cw{l:Spx}{j:Nat}(h:j<l.length):(l.drop j).getD 0 default=l.getD j default:=by simp[List.getD,md]
theorem Ax{l:Spx}{v:Vtx}(h:∀i,i<l.length→l.getD i default≠v):v∉l:=fun hm=>by
 obtain⟨i,hi,e⟩:=jV hm;exact h i hi (by simp[List.getD,hi,e])
theorem ay{α:Type}[Inhabited α]{l:List α}{i:Nat}(h:i<l.length):l.getD i default∈l:=a5 h
attribute [local irreducible] aH ai be aY aP aQ aD aR aZ bl Go.Abs.Fn aX Go.Abs.Pure aq aK Yl
set_option maxHeartbeats 1000000 in
theorem Jj(a b:Spx)(ha:bQ cl a)(hb:bQ cl b)(la:a.length≤1000000)(lb:b.length≤1000000):pU 158 [aC a,aC b] (.bool (eX a b)):=by
 refine pO K7 ?_;simp only[LY,aJ];refine wnZ @au ?_;refine b0 (X:=Nat×Nat) (fun x=>[(1,aC (b.drop x.2)),(7,aC a),(8,.int .i64 a.length),(9,.int .i64 x.1)]) (fun x H nx=>x.1≤a.length∧x.2≤b.length∧(∀i,i<x.1→decide (a.getD i default∈b)=true)∧∀i m,i<x.2→x.1≤m→m<a.length→b.getD i default≠a.getD m default) (fun x=>a.length-x.1) (0,0) ⟨bR _,bR _,fun i h=>absurd h (by omega),fun i m h=>absurd h (by omega)⟩ (by simp (disch:=omega) only[agr,ZG,reduceEqDiff,↓reduceIte,List.drop_zero]) ?_;rintro⟨k,j⟩ H nx ⟨h1,h2,h3,h4⟩;dsimp only at h1 h2 h3 h4 ⊢;by_cases hk:k<a.length
 rotate_left
 ·refine wnY and_self ?_;exact ci (jU fun i hi=>h3 i (by omega)).symm
 have ix:=ix2 hk;have hlt:∀m,k<m→m<a.length→cl (a.getD k default) (a.getD m default)<0:=fun m h5 h6=>dQ ha h5 h6;have hkm:∀j',(∀i,i<j'→b.getD i default≠a.getD k default)→b.length≤j'→decide (a.getD k default∈b)=false:=fun j' h5 h6=>bc (Ax fun i hi=>h5 i (by omega));have hall:decide (a.getD k default∈b)=false→eX a b=false:=fun h=>iY hk h;have hdec:=fun i=>xH (b.getD i default) (a.getD k default);have h40:=fun i hi=>h4 i k hi (aO _) hk;generalize hv:a.getD k default=v at *;refine wnY @ix ?_;refine b0 (X:=Nat) (fun j'=>[(1,aC (b.drop j')),(6,.ptr nx 2 0),(7,aC a),(8,.int .i64 a.length),(9,.int .i64 k)]) (fun j' H' nx'=>j'≤b.length∧H' nx=some [.int .i64 v.color,.int .i64 v.label]∧nx<nx'∧∀i,i<j'→b.getD i default≠v) (fun j'=>b.length-j') j ⟨h2,by rw[af];rfl,by omega,h40⟩ (by simp (disch:=omega) only[agr,ZG,reduceEqDiff,↓reduceIte,bO,fC,cf,reduceAdd]) ?_;rintro j' H' nx' ⟨k1,g0,hnx,k2⟩;have hlen:(b.drop j').length=b.length-j':=EE ..;by_cases hj:j'<b.length
 rotate_left
 ·have z1:decide (0<((b.drop j').length:Int))=false:=bc (by omega);have z2:decide (((b.drop j').length:Int)=0)=true:=a8 (by omega);rw[hall (hkm j' k2 (by omega))];refine wnY (zI3 @au @z1 @z2) ?_;exact .bool _
 have z1:decide (0<((b.drop j').length:Int))=true:=a8 (by omega);have z2:decide (((b.drop j').length:Int)=0)=false:=bc (by omega);have iy:=ix2 (l:=b.drop j') (k:=0) (by omega);rw[Cw hj,show((0:Nat):Int)=0 from rfl] at iy;have hd:=hdec j';by_cases he:b.getD j' default=v
 ·rw[a8 he] at hd;refine wnY (zI7 @au @z1 @z2 @iy @g0 @acn @hd) ?_;refine⟨(k+1,j'),by dsimp only;omega,⟨by dsimp only;omega,by dsimp only;omega,fun i hi=>?_,fun i m h5 h6 h7 e=>?_⟩,ag0⟩
  ·rcases jq.1 hi with h'|rfl
   ·exact h3 i h'
   ·rw[hv,←he];exact a8 (ay hj)
  ·have q1:=dQ hb h5 hj;have q2:=hlt m (by dsimp only at h6;omega) h7;rw[e,he] at q1;exact A9.ord.asym _ _ q1 q2
 ·rw[bc he] at hd
  have hs:lw 2 (aC (b.drop j')) (some (.int .i64 1)) none none=some (aC (b.drop (j'+1))):=by
   have:=kB (sz:=2) (f:=dD) (l:=b.drop j') (k:=1) (by omega);rw[List.drop_drop] at this;exact this
  refine wnY (zI8 @au @z1 @z2 @iy @g0 @acn @hd @hs) ?_
  exact ⟨j' + 1,by omega,⟨by omega,g0,hnx,fun i hi=>by
   rcases jq.1 hi with h'|rfl
   ·exact k2 i h'
   ·exact he⟩,ag0⟩
end Go.Proofs.YtekdaafnjdlenaaGreat
namespace Go.Proofs.YtekdaafnjdlenaaGreat
open Go Go.Abs
structure Cmp{α:Type}(P:Program)(f:α→AV)(K:α→α→Int)(G:α→Prop)(g:Nat)(caps:List AV):Prop where
 cells:∀x,(f x).cells=[f x]
 one:∀x,(f x).one=true
 dat:∀x,Dat (f x)
 dcaps:∀x∈caps,Dat x
 run:∀x y,G x→G y→Go.Abs.Pure P g (f x::f y::caps) (.int .i64 (K x y))
 ord:Ord K
theorem iW{α:Type}{f:α→AV}{l:List α}{k:Nat}{x:α}(h:k<l.length):bK (l.map f) k [f x]=(l.set k x).map f:=by
 simp only[bK,List.map_set,bO,fC,cf];rw[Ju,if_pos (by simpa using h)];simp
theorem a6(H:Hp)(b:Nat)(x y:List AV):ap (ap H b x) b y=ap H b y:=by
 funext i;unfold ap;split<;>rfl
theorem k9{H:Hp}{b:Nat}{cs:List AV}(h:H b=some cs):H=ap H b cs:=by
 funext i
 by_cases e:i=b
 ·subst e;rw[af,h]
 ·rw[ac e]
def gc{α:Type}[Inhabited α](K:α→α→Int)(a i j:Nat)(M:List α):Prop:=∀p q,a≤p→p<q→q≤i→q≠j→¬K (M.getD q default) (M.getD p default)<0
section
variable{α:Type}[Inhabited α]{f:α→AV}{K:α→α→Int}{G:α→Prop}{g:Nat}{caps:List AV}
theorem gc.start{a i:Nat}{M:List α}(h:bq K a i M):gc K a i i M:=fun p q h1 h2 h3 h4=>h p q h1 h2 (by omega)
theorem gc.done{a i j:Nat}{M:List α}(hK:Ord K)(h:gc K a i j M)(hj:j=a∨(a<j∧¬K (M.getD j default) (M.getD (j-1) default)<0)):bq K a (i+1) M:=by
 intro p q h1 h2 h3;by_cases e:q=j
 ·subst e;rcases hj with hj|⟨hj,hk⟩
  ·omega
  ·by_cases e2:p=q-1
   ·rw[e2];exact hk
   ·exact hK.negtr _ _ _ (h p (q-1) h1 (by omega) (by omega) (by omega)) hk
 ·exact h p q h1 h2 (by omega) e
theorem gc.step{a i j:Nat}{M:List α}(hK:Ord K)(h:gc K a i (j+1) M)(haj:a≤j)(hji:j+1≤i)(hi:i<M.length)(hk:K (M.getD (j+1) default) (M.getD j default)<0):gc K a i j (swp M (j+1) j):=by
 intro p q h1 h2 h3 h4;rw[eY (by omega) (by omega),eY (by omega) (by omega)];rw[if_neg h4];by_cases e1:q=j+1
 ·rw[if_pos e1];by_cases e2:p=j
  ·rw[if_pos e2];exact hK.asym _ _ hk
  ·rw[if_neg e2,if_neg (by omega)];exact h p j h1 (by omega) (by omega) (by omega)
 ·rw[if_neg e1];by_cases e2:p=j
  ·rw[if_pos e2];exact h (j+1) q (by omega) (by omega) h3 e1
  ·rw[if_neg e2];by_cases e3:p=j+1
   ·rw[if_pos e3];exact h j q (by omega) (by omega) h3 e1
   ·rw[if_neg e3];exact h p q h1 h2 h3 e1
theorem bq.mono{a b a' b':Nat}{M:List α}(h:bq K a b M)(h1:a≤a')(h2:b'≤b):bq K a' b' M:=fun p q k1 k2 k3=>h p q (by omega) k2 (by omega)
theorem PermR.mem{a b:Nat}{L M:List α}(h:PermR a b L M)(hG:∀x∈L,G x):∀x∈M,G x:=fun x hx=>hG x (h.perm.mem_iff.1 hx)
attribute [local irreducible] aH ai be aY aP aQ aD aR aZ bl Go.Abs.Fn aX Go.Abs.Pure aq aK Yl
theorem K6(hc:Cmp Tryz.prog f K G g caps){L:List α}{H:Hp}{b nx n a e:Nat}(hH:H b=some (L.map f))(hn:L.length=n)(hG:∀x∈L,G x)(hae:a≤e)(hen:e≤n)(hn2:n≤1000000000):
    Abs.Fn Tryz.prog 166 [.msl b n 1 0 n,.int .i64 a,.int .i64 e,.func g caps] H nx fun r H' nx'=>nx'=nx∧∃L',H'=ap H b (L'.map f)∧PermR a e L L'∧bq K a e L':=by
 refine fO HG ?_;simp only[Ib,aJ];refine wnZ and_self ?_;refine b0 (X:=Nat×List α) (fun x=>[(0,.msl b n 1 0 n),(1,.int .i64 a),(2,.int .i64 e),(3,.func g caps),(8,.int .i64 (x.1:Nat))]) (fun x H' nx'=>a+1≤x.1∧(x.1≤e∨x.1=a+1)∧H'=ap H b (x.2.map f)∧nx'=nx∧PermR a e L x.2∧bq K a x.1 x.2) (fun x=>e+1-x.1) (a+1,L) ⟨aO _,.inr rfl,k9 hH,rfl,.refl,bq.one (aO _)⟩ ag0 ?_;rintro⟨i,M0⟩ H' nx' ⟨h1,h2,rfl,rfl,hp0,hs0⟩;dsimp only at *;have hl0:M0.length=n:=by rw[hp0.len,hn]
 by_cases hi:i<e
 rotate_left
 ·refine wnZ and_self ?_;exact⟨rfl,M0,rfl,hp0,hs0.mono (aO _) (by omega)⟩
 refine wnZ and_self ?_;refine b0 (X:=Nat×List α) (fun x=>[(0,.msl b n 1 0 n),(1,.int .i64 a),(2,.int .i64 e),(3,.func g caps),(8,.int .i64 (i:Nat)),(9,.int .i64 (x.1:Nat))]) (fun x H' nxx=>a≤x.1∧x.1≤i∧H'=ap H b (x.2.map f)∧nxx=nx'∧PermR a e L x.2∧gc K a i x.1 x.2) (fun x=>x.1) (i,M0) ⟨by omega,aO _,rfl,rfl,hp0,.start hs0⟩ ag0 ?_;clear hp0 hs0 hl0;rintro⟨j,M⟩ H' nxx ⟨a1,a2,rfl,rfl,hp,hal⟩;dsimp only at *;have hl:M.length=n:=by rw[hp.len,hn]
 have hGM:=hp.mem hG;by_cases hja:j=a
 ·subst hja;refine wkZ and_self ?_;exact⟨(i+1,M),by dsimp only;omega,⟨by dsimp only;omega,.inl (by dsimp only;omega),rfl,rfl,hp,hal.done hc.ord (.inl rfl)⟩,ag0⟩
 ·obtain⟨k,rfl⟩:∃k,j=k+1:=⟨j-1,by omega⟩
  have tj:((k+1:Nat):Int)-1=(k:Int):=by omega
  have lc:=hc.run (M.getD (k+1) default) (M.getD k default) (hGM _ (a5 (by omega))) (hGM _ (a5 (by omega)));have d1:=hc.dat (M.getD (k+1) default);have d2:=hc.dat (M.getD k default);have dcap:=hc.dcaps;generalize hKK:K (M.getD (k+1) default) (M.getD k default)=kk at lc;by_cases hlt:kk<0
  ·obtain⟨M1,hl1,lm1,lm2⟩:∃M1:List α,M1.length=n∧bK (M.map f) (k+1) [f (M.getD k default)]=M1.map f∧bK (M1.map f) k [f (M.getD (k+1) default)]=(swp M (k+1) k).map f:=
     ⟨M.set (k+1) (M.getD k default),by simp[hl],iW (by omega),by rw[iW (by simp;omega)];rfl⟩
   have lm3:=lm2;simp only[bK,bO,fC,cf] at lm1 lm2;have zz:=aI @tj (aI @cw (aI @lm1 (aI @lm2 (aI hc.cells hc.one))));repeat' (first|refine zW ?_|refine zM ?_|apply a_n|refine zO ?_|refine vZ ?_|refine cZ ?_ (hp:=lc) (hs:=by(first|refine aA ?_ rfl|apply aM);(repeat' (first|exact ak|apply bg|apply aN|exact d1|exact d2|exact bi dcap));first|done|fail)|refine stZ ?_|refine gTZ ?_|(refine zGZ ?_ ?_<;>(intro _hg;try (exfalso;omega)))|fail)
   refine⟨(k,swp M (k+1) k),by dsimp only;omega,⟨by dsimp only;omega,by dsimp only;omega,?_,rfl,hp.trans (PermR.swap (by omega) (by omega) (by omega)),hal.step hc.ord (by omega) (by omega) (by omega) (by rw[hKK];exact hlt)⟩,(have zz:=@tj;agZ)⟩;dsimp only;rw[a6,a6,lm3]
  ·have zz:=aI @tj (aI @cw (aI hc.cells hc.one));repeat' (first|refine zW ?_|refine zM ?_|apply a_n|apply a_x|refine zO ?_|refine vZ ?_|refine cZ ?_ (hp:=lc) (hs:=by(first|refine aA ?_ rfl|apply aM);(repeat' (first|exact ak|apply bg|apply aN|exact d1|exact d2|exact bi dcap));first|done|fail)|refine gTZ ?_|(refine zGZ ?_ ?_<;>(intro _hg;try (exfalso;omega)))|fail)
   exact⟨(i+1,M),by dsimp only;omega,⟨by dsimp only;omega,.inl (by dsimp only;omega),rfl,rfl,hp,hal.done hc.ord (.inr ⟨by omega,by rw[qg,hKK];exact hlt⟩)⟩,ag0⟩
end
end Go.Proofs.YtekdaafnjdlenaaGreat
namespace Go.Proofs.YtekdaafnjdlenaaGreat
open Go Go.Abs
def Kid(p c:Nat):Prop:=c=2*p+1∨c=2*p+2
def iI{α:Type}[Inhabited α](K:α→α→Int)(a hi r:Nat)(M:List α):Prop:=∀p c,r≤p→Kid p c→c<hi→¬K (M.getD (a+p) default) (M.getD (a+c) default)<0
structure SiftR{α:Type}[Inhabited α](K:α→α→Int)(a hi lo root:Nat)(M:List α):Prop where
 le:lo≤root
 heap:∀p c,lo≤p→p≠root→Kid p c→c<hi→¬K (M.getD (a+p) default) (M.getD (a+c) default)<0
 up:∀q c,lo≤q→Kid q root→Kid root c→c<hi→¬K (M.getD (a+q) default) (M.getD (a+c) default)<0
section
variable{α:Type}[Inhabited α]{f:α→AV}{K:α→α→Int}{G:α→Prop}{g:Nat}{caps:List AV}
theorem SiftR.start{a hi lo:Nat}{M:List α}(h:iI K a hi (lo+1) M):SiftR K a hi lo lo M:=
 ⟨aO _,fun p c h1 h2=>h p c (by omega),fun q c h1 h2=>by unfold Kid at h2;omega⟩
theorem SiftR.leaf{a hi lo root:Nat}{M:List α}(h:SiftR K a hi lo root M)(hr:hi≤2*root+1):iI K a hi lo M:=fun p c h1 h2 h3=>by
 by_cases e:p=root
 ·subst e;unfold Kid at h2;omega
 ·exact h.heap p c h1 e h2 h3
theorem SiftR.stop{a hi lo root c:Nat}{M:List α}(hK:Ord K)(h:SiftR K a hi lo root M)(hb:∀d,Kid root d→d<hi→¬K (M.getD (a+c) default) (M.getD (a+d) default)<0)(hn:¬K (M.getD (a+root) default) (M.getD (a+c) default)<0):iI K a hi lo M:=fun p d h1 h2 h3=>by
 by_cases e:p=root
 ·subst e;exact hK.negtr _ _ _ (hb d h2 h3) hn
 ·exact h.heap p d h1 e h2 h3
theorem SiftR.step{a hi lo root c:Nat}{M:List α}(hK:Ord K)(h:SiftR K a hi lo root M)(hkid:Kid root c)(hc:c<hi)(hM:a+hi≤M.length)(hb:∀d,Kid root d→d<hi→¬K (M.getD (a+c) default) (M.getD (a+d) default)<0)(hn:K (M.getD (a+root) default) (M.getD (a+c) default)<0):SiftR K a hi lo c (swp M (a+root) (a+c)):=by
 have hrc:root<c:=by unfold Kid at hkid;omega
 have hg:∀k,(swp M (a+root) (a+c)).getD (a+k) default=if k=c then M.getD (a+root) default else if k=root then M.getD (a+c) default else M.getD (a+k) default:=fun k=>by
  rw[eY (by omega) (by omega)];by_cases e:k=c
  ·rw[if_pos (by omega),if_pos e]
  ·rw[if_neg (by omega),if_neg e];by_cases e2:k=root
   ·rw[if_pos (by omega),if_pos e2]
   ·rw[if_neg (by omega),if_neg e2]
 refine⟨by have:=h.le;omega,fun p d h1 h2 h3 h4=>?_,fun q d h1 h2 h3 h4=>?_⟩
 ·rw[hg,hg,if_neg h2];by_cases e1:p=root
  ·rw[if_pos e1];subst e1;by_cases e2:d=c
   ·rw[if_pos e2];exact hK.asym _ _ hn
   ·rw[if_neg e2,if_neg (by unfold Kid at h3;omega)];exact hb d h3 h4
  ·rw[if_neg e1];have hdc:d≠c:=fun e=>by subst e;unfold Kid at h3 hkid;omega
   rw[if_neg hdc];by_cases e2:d=root
   ·rw[if_pos e2];subst e2;exact h.up p c h1 h3 hkid hc
   ·rw[if_neg e2];exact h.heap p d h1 e1 h3 h4
 ·have eq:q=root:=by unfold Kid at h2 hkid;omega
  subst eq;rw[hg,hg,if_neg (by omega),if_pos rfl,if_neg (by unfold Kid at h3;omega),if_neg (by unfold Kid at h3;omega)];exact h.heap c d (by omega) (by omega) h3 h4
theorem d7{M:List α}{i j:Nat}(hi:i<M.length)(hj:j<M.length):∃M1:List α,M1.length=M.length∧bK (M.map f) i [f (M.getD j default)]=M1.map f∧bK (M1.map f) j [f (M.getD i default)]=(swp M i j).map f:=
 ⟨M.set i (M.getD j default),by simp,iW hi,by rw[iW (by simpa using hj)];rfl⟩
theorem gM{a c:Nat}:((a:Int)+(c:Int)).toNat=a+c:=by omega
theorem qH{a c:Nat}:((a:Int)+(c:Int)+1).toNat=a+(c+1):=by omega
attribute [local irreducible] aH ai be aY aP aQ aD aR aZ bl Go.Abs.Fn aX Go.Abs.Pure aq aK Yl
theorem F0(hc:Cmp Tryz.prog f K G g caps){L:List α}{H:Hp}{b nx n a lo hi:Nat}(hH:H b=some (L.map f))(hn:L.length=n)(hG:∀x∈L,G x)(hhi:a+hi≤n)(hn2:n≤1000000000)(hlo:lo≤n)(hheap:iI K a hi (lo+1) L):
    Abs.Fn Tryz.prog 197 [.msl b n 1 0 n,.int .i64 lo,.int .i64 hi,.int .i64 a,.func g caps] H nx fun r H' nx'=>nx'=nx∧∃L',H'=ap H b (L'.map f)∧PermR a (a+hi) L L'∧iI K a hi lo L':=by
 refine fO Kg ?_;simp only[JS,aJ];refine wnZ and_self ?_;refine b0 (X:=Nat×List α) (fun x=>[(0,.msl b n 1 0 n),(2,.int .i64 hi),(3,.int .i64 a),(4,.func g caps),(10,.int .i64 (x.1:Nat))]) (fun x H' nx'=>x.1≤n∧H'=ap H b (x.2.map f)∧nx'=nx∧PermR a (a+hi) L x.2∧SiftR K a hi lo x.1 x.2) (fun x=>n+1-x.1) (lo,L) ⟨hlo,k9 hH,rfl,.refl,.start hheap⟩ ag0 ?_;rintro⟨root,M⟩ H' nx' ⟨h0,rfl,rfl,hp,hs⟩;dsimp only at *;have hl:M.length=n:=by rw[hp.len,hn]
 have hGM:=hp.mem hG;by_cases hch:2*root+1<hi
 rotate_left
 ·refine wnZ and_self ?_;exact⟨rfl,M,rfl,hp,hs.leaf (by omega)⟩
 have dcap:=hc.dcaps;have tch:(2:Int)*(root:Int)+1=((2*root+1:Nat):Int):=by omega
 have tch2:((2*root+1:Nat):Int)+1=((2*root+1+1:Nat):Int):=by omega
 have w1:IntKind.wrap .i64 (2*(root:Int))=2*(root:Int):=xp (by omega) (by omega)
 obtain⟨c,hkid,hchi,hbest,hsel⟩:∃c,Kid root c∧c<hi∧(∀d,Kid root d→d<hi→¬K (M.getD (a+c) default) (M.getD (a+d) default)<0)∧((c=2*root+1+1∧K (M.getD (a+(2*root+1)) default) (M.getD (a+(2*root+1+1)) default)<0)∨(c=2*root+1∧(2*root+1+1<hi→¬K (M.getD (a+(2*root+1)) default) (M.getD (a+(2*root+1+1)) default)<0))):=by
  by_cases h2:2*root+1+1<hi∧K (M.getD (a+(2*root+1)) default) (M.getD (a+(2*root+1+1)) default)<0
  ·refine⟨2*root+1+1,.inr rfl,h2.1,fun d hd hd2=>?_,.inl ⟨rfl,h2.2⟩⟩;rcases hd with rfl|rfl
   ·exact hc.ord.asym _ _ h2.2
   ·exact hc.ord.irr _
  ·refine⟨2*root+1,.inl rfl,hch,fun d hd hd2=>?_,.inr ⟨rfl,fun h h3=>h2 ⟨h,h3⟩⟩⟩;rcases hd with rfl|rfl
   ·exact hc.ord.irr _
   ·exact fun h3=>h2 ⟨hd2,h3⟩
 have lc2:=hc.run (M.getD (a+root) default) (M.getD (a+c) default) (hGM _ (a5 (by omega))) (hGM _ (a5 (by omega)));have e1:=hc.dat (M.getD (a+root) default);have e2:=hc.dat (M.getD (a+c) default);generalize hK2:K (M.getD (a+root) default) (M.getD (a+c) default)=k2 at lc2;refine kQ ?_;refine co (fun T H'' nx''=>T 0=.msl b n 1 0 n∧T 2=.int .i64 hi∧T 3=.int .i64 a∧T 4=.func g caps∧T 10=.int .i64 (root:Nat)∧T 11=.int .i64 ((2*root+1:Nat):Int)∧H''=ap H b (M.map f)∧nx'=nx'') ?_ ?_
 ·refine wnZ (aI @w1 @tch) ?_;exact⟨rfl,rfl,rfl,rfl,rfl,rfl,rfl,rfl⟩
 rintro T _ _ ⟨t0,t2,t3,t4,t10,t11,rfl,rfl⟩;refine co (fun T H'' nx''=>T 0=.msl b n 1 0 n∧T 2=.int .i64 hi∧T 3=.int .i64 a∧T 4=.func g caps∧T 10=.int .i64 (root:Nat)∧T 11=.int .i64 ((2*root+1:Nat):Int)∧H''=ap H b (M.map f)∧nx'=nx'') ?_ ?_
 ·refine wnZ (zI6 @t0 @t2 @t3 @t4 @t10 @t11) ?_
  all_goals exact⟨(have zz:=@t0;evZ),(have zz:=@t2;evZ),(have zz:=@t3;evZ),(have zz:=@t4;evZ),(have zz:=@t10;evZ),(have zz:=@t11;evZ),rfl,rfl⟩
 clear t0 t2 t3 t4 t10 t11;rintro T _ _ ⟨t0,t2,t3,t4,t10,t11,rfl,rfl⟩;refine co (fun T H'' nx''=>T 0=.msl b n 1 0 n∧T 2=.int .i64 hi∧T 3=.int .i64 a∧T 4=.func g caps∧T 10=.int .i64 (root:Nat)∧T 11=.int .i64 (c:Nat)∧H''=ap H b (M.map f)∧nx'=nx'') ?_ ?_
 ·by_cases h2:2*root+1+1<hi
  ·have lc1:=hc.run (M.getD (a+(2*root+1)) default) (M.getD (a+(2*root+1+1)) default) (hGM _ (a5 (by omega))) (hGM _ (a5 (by omega)));have e3:=hc.dat (M.getD (a+(2*root+1)) default);have e4:=hc.dat (M.getD (a+(2*root+1+1)) default);generalize hK1:K (M.getD (a+(2*root+1)) default) (M.getD (a+(2*root+1+1)) default)=k1 at lc1 hsel;have hlt:decide (((2*root+1+1:Nat):Int)<(hi:Int))=true:=a8 (by omega);generalize 2*root+1=ch at *;rcases hsel with⟨rfl,hk1⟩|⟨rfl,hk1⟩
   ·have zz:=aI @t0 (aI @t2 (aI @t3 (aI @t4 (aI @t10 (aI @t11 (aI @tch2 (aI @hlt (aI @gM (aI @qH (aI hc.cells hc.one))))))))));repeat' (first|refine zW ?_|refine zM ?_|apply a_n|refine zO ?_|refine vZ ?_|refine cZ ?_ (hp:=lc1) (hs:=by(first|refine aA ?_ rfl|apply aM);(repeat' (first|exact ak|apply bg|apply aN|exact e3|exact e4|exact bi dcap));first|done|fail)|refine gTZ ?_|(refine zGZ ?_ ?_<;>(intro _hg;try (exfalso;omega)))|fail)
    all_goals exact⟨(have zz:=@t0;evZ),(have zz:=@t2;evZ),(have zz:=@t3;evZ),(have zz:=@t4;evZ),(have zz:=@t10;evZ),(have zz:=@t11;evZ),rfl,rfl⟩
   ·have hk1:=hk1 h2;have zz:=aI @t0 (aI @t2 (aI @t3 (aI @t4 (aI @t10 (aI @t11 (aI @tch2 (aI @hlt (aI @gM (aI @qH (aI hc.cells hc.one))))))))));repeat' (first|refine zW ?_|refine zM ?_|apply a_n|refine zO ?_|refine vZ ?_|refine cZ ?_ (hp:=lc1) (hs:=by(first|refine aA ?_ rfl|apply aM);(repeat' (first|exact ak|apply bg|apply aN|exact e3|exact e4|exact bi dcap));first|done|fail)|refine gTZ ?_|(refine zGZ ?_ ?_<;>(intro _hg;try (exfalso;omega)))|fail)
    all_goals exact⟨(have zz:=@t0;evZ),(have zz:=@t2;evZ),(have zz:=@t3;evZ),(have zz:=@t4;evZ),(have zz:=@t10;evZ),(have zz:=@t11;evZ),rfl,rfl⟩
  ·have hlt:decide (((2*root+1+1:Nat):Int)<(hi:Int))=false:=bc (by omega)
   have hcc:c=2*root+1:=by
    rcases hsel with⟨rfl,_⟩|⟨rfl,_⟩
    ·omega
    ·rfl
   subst hcc;refine wkZ (zI8 @t0 @t2 @t3 @t4 @t10 @t11 @tch2 @hlt) ?_
   all_goals exact⟨(have zz:=@t0;evZ),(have zz:=@t2;evZ),(have zz:=@t3;evZ),(have zz:=@t4;evZ),(have zz:=@t10;evZ),(have zz:=@t11;evZ),rfl,rfl⟩
 clear t0 t2 t3 t4 t10 t11 hsel;rintro T _ _ ⟨t0,t2,t3,t4,t10,t11,rfl,rfl⟩;by_cases hk2:k2<0
 ·obtain⟨M1,hl1,lm1,lm2⟩:=d7 (f:=f) (M:=M) (i:=a+root) (j:=a+c) (by omega) (by omega);have lm3:=lm2;simp only[bK,bO,fC,cf] at lm1 lm2;have zz:=aI @t0 (aI @t2 (aI @t3 (aI @t4 (aI @t10 (aI @t11 (aI @gM (aI @lm1 (aI @lm2 (aI hc.cells hc.one)))))))));repeat' (first|refine zW ?_|refine zM ?_|apply a_n|refine zO ?_|refine vZ ?_|refine cZ ?_ (hp:=lc2) (hs:=by(first|refine aA ?_ rfl|apply aM);(repeat' (first|exact ak|apply bg|apply aN|exact e1|exact e2|exact bi dcap));first|done|fail)|refine stZ ?_|(refine zGZ ?_ ?_<;>(intro _hg;try (exfalso;omega)))|fail)
  have hrc:root<c:=by unfold Kid at hkid;omega
  have hcn:c<n:=by omega
  refine⟨(c,swp M (a+root) (a+c)),by dsimp only;omega,⟨by dsimp only;omega,?_,rfl,hp.trans (PermR.swap (by omega) (by omega) (by omega)),hs.step hc.ord hkid hchi (by omega) hbest (by rw[hK2];exact hk2)⟩,(have zz:=aI @t0 (aI @t2 (aI @t3 @t4));agZ)⟩;dsimp only;rw[a6,a6,lm3]
 ·have zz:=aI @t0 (aI @t2 (aI @t3 (aI @t4 (aI @t10 (aI @t11 (aI @gM (aI hc.cells hc.one)))))));repeat' (first|refine zW ?_|refine zM ?_|apply a_n|apply a_r|refine zO ?_|refine vZ ?_|refine cZ ?_ (hp:=lc2) (hs:=by(first|refine aA ?_ rfl|apply aM);(repeat' (first|exact ak|apply bg|apply aN|exact e1|exact e2|exact bi dcap));first|done|fail)|(refine zGZ ?_ ?_<;>(intro _hg;try (exfalso;omega)))|refine bI rfl ?_|fail)
  exact⟨rfl,M,rfl,hp,hs.stop hc.ord hbest (by rw[hK2];exact hk2)⟩
end
end Go.Proofs.YtekdaafnjdlenaaGreat
namespace Go.Proofs.YtekdaafnjdlenaaGreat
open Go Go.Abs
open Nat (reduceEqDiff reduceAdd reduceLeDiff)
section
variable{α:Type}[Inhabited α]{f:α→AV}{K:α→α→Int}{G:α→Prop}{g:Nat}{caps:List AV}
theorem iI.top{a hi:Nat}{M:List α}(hK:Ord K)(h:iI K a hi 0 M):∀p,p<hi→¬K (M.getD a default) (M.getD (a+p) default)<0:=by
 intro p
 induction p using Nat.strongRecOn with
 |ind p ih=>
  intro hp;by_cases e:p=0
  ·subst e;exact hK.irr _
  ·have k:Kid ((p-1)/2) p:=by unfold Kid;omega
   exact hK.negtr _ _ _ (h _ p (bR _) k hp) (ih ((p-1)/2) (by omega) (by omega))
structure TailR{α:Type}[Inhabited α](K:α→α→Int)(a e k:Nat)(M:List α):Prop where
 sort:bq K k e M
 ge:∀p q,a≤p→p<k→k≤q→q<e→¬K (M.getD q default) (M.getD p default)<0
theorem TailR.step{a e k:Nat}{M N:List α}(hK:Ord K)(ht:TailR K a e (a+(k+1)) M)(hh:iI K a (k+1) 0 M)(he:a+(k+1)≤e)(hM:e≤M.length)(hp:PermR a (a+k) (swp M a (a+k)) N):TailR K a e (a+k) N:=by
 have hg:∀j,(swp M a (a+k)).getD j default=if j=a+k then M.getD a default else if j=a then M.getD (a+k) default else M.getD j default:=fun j=>eY (by omega) (by omega) j
 have hmax:=hh.top hK
 have lo:∀q,a+k≤q→q<e→∀p,a≤p→p<a+k→¬K (N.getD q default) (N.getD p default)<0:=by
  intro q h1 h2;rw[hp.out q (.inr h1),hg];have hl:(swp M a (a+k)).length=M.length:=BV _ _;refine hp.all (p:=fun x=>¬K (if q=a+k then M.getD a default else if q=a then M.getD (a+k) default else M.getD q default) x<0) (by omega) (by omega) ?_;intro p k1 k2;rw[hg,if_neg (by omega:¬p=a+k)];by_cases e1:q=a+k
  ·rw[if_pos e1];by_cases e2:p=a
   ·rw[if_pos e2];exact hmax k (by omega)
   ·rw[if_neg e2];have:=hmax (p-a) (by omega);rw[show a+(p-a)=p by omega] at this;exact this
  ·rw[if_neg e1,if_neg (by omega:¬q=a)];by_cases e2:p=a
   ·rw[if_pos e2];exact ht.ge (a+k) q (by omega) (by omega) (by omega) h2
   ·rw[if_neg e2];exact ht.ge p q k1 (by omega) (by omega) h2
 refine⟨fun p q h1 h2 h3=>?_,fun p q h1 h2 h3 h4=>lo q h3 h4 p h1 h2⟩;rw[hp.out p (.inr h1),hp.out q (.inr (by omega)),hg,hg,if_neg (by omega:¬q=a+k),if_neg (by omega:¬q=a)];by_cases e1:p=a+k
 ·rw[if_pos e1];exact ht.ge a q (aO _) (by omega) (by omega) h3
 ·rw[if_neg e1,if_neg (by omega:¬p=a)];exact ht.sort p q (by omega) h2 h3
theorem iI.swapTop{a k:Nat}{M:List α}(h:iI K a (k+1) 0 M)(hM:a+(k+1)≤M.length):iI K a k 1 (swp M a (a+k)):=by
 intro p c h1 h2 h3;have hg:∀j,(swp M a (a+k)).getD j default=if j=a+k then M.getD a default else if j=a then M.getD (a+k) default else M.getD j default:=fun j=>eY (by omega) (by omega) j
 have:p<c:=by unfold Kid at h2;omega
 rw[hg,hg,if_neg (by omega),if_neg (by omega),if_neg (by omega),if_neg (by omega)];exact h p c (bR _) h2 (by omega)
theorem TailR.start{a e:Nat}{M:List α}:TailR K a e e M:=⟨fun p q h1 h2 h3=>by omega,fun p q h1 h2 h3 h4=>by omega⟩
theorem TailR.done{a e:Nat}{M:List α}(h:TailR K a e a M):bq K a e M:=h.sort
theorem iI.start{a hi r:Nat}{M:List α}(hr:hi≤2*r+1):iI K a hi r M:=fun p c h1 h2 h3=>by unfold Kid at h2;omega
attribute [local irreducible] aH ai be aY aP aQ aD aR aZ bl Go.Abs.Fn aX Go.Abs.Pure aq aK Yl
theorem IB(hc:Cmp Tryz.prog f K G g caps){L:List α}{H:Hp}{b nx n a e:Nat}(hH:H b=some (L.map f))(hn:L.length=n)(hG:∀x∈L,G x)(hae:a≤e)(hen:e≤n)(hn2:n≤1000000000):
    Abs.Fn Tryz.prog 167 [.msl b n 1 0 n,.int .i64 a,.int .i64 e,.func g caps] H nx fun r H' nx'=>nx'=nx∧∃L',H'=ap H b (L'.map f)∧PermR a e L L'∧bq K a e L':=by
 obtain⟨h,rfl⟩:∃h,e=a+h:=⟨e-a,by omega⟩
 refine fO KN ?_;simp only[JP,aJ];have dcap:=hc.dcaps;have te:((a+h:Nat):Int)-(a:Int)=(h:Int):=by omega
 obtain⟨r,tr,hr,hrn⟩:∃r:Nat,br .quo false false (.int .i64 ((h:Int)-1)) (.int .i64 2)=some (.int .i64 (r:Int))∧h≤2*(r+1)+1∧r≤h:=by
  rcases Bd h with e|e
  ·subst e;exact⟨0,rfl,by omega,by omega⟩
  ·refine⟨(h-1)/2,?_,by omega,by omega⟩;rw[o0 (by omega) (by omega) (by omega)]
   congr 2
   omega
 refine wnZ (aI @te @tr) ?_;refine b0 (X:=Nat×List α) (fun x=>[(0,.msl b n 1 0 n),(1,.int .i64 a),(3,.func g caps),(8,.int .i64 a),(9,.int .i64 0),(10,.int .i64 h),(11,.int .i64 ((x.1:Nat)-1))]) (fun x H' nxx=>x.1≤n+1∧H'=ap H b (x.2.map f)∧nx=nxx∧PermR a (a+h) L x.2∧iI K a h x.1 x.2) (fun x=>x.1) (r+1,L) ⟨by dsimp only;omega,k9 hH,rfl,.refl,iI.start (by dsimp only;omega)⟩ (by simp (disch:=omega) only[agr,ZG,reduceEqDiff,↓reduceIte,Int.add_sub_cancel]) ?_;rintro⟨i,M⟩ H' nxx ⟨h1,rfl,rfl,hp,hh⟩;dsimp only at *;have hl:M.length=n:=by rw[hp.len,hn]
 have hGM:=hp.mem hG;rcases Bd i with e|e
 ·subst e;refine wnZ and_self ?_;clear hGM;refine b0 (X:=Nat×List α) (fun x=>[(0,.msl b n 1 0 n),(3,.func g caps),(8,.int .i64 a),(9,.int .i64 0),(12,.int .i64 ((x.1:Nat)-1))]) (fun x H' nxx'=>x.1≤h∧H'=ap H b (x.2.map f)∧nx=nxx'∧PermR a (a+h) L x.2∧iI K a x.1 0 x.2∧TailR K a (a+h) (a+x.1) x.2) (fun x=>x.1) (h,M) ⟨aO _,rfl,rfl,hp,hh,.start⟩ (by simp (disch:=omega) only[agr,ZG,reduceEqDiff,↓reduceIte,Int.add_sub_cancel]) ?_;clear hp hh hl;rintro⟨i,M⟩ H' nxx ⟨h1,rfl,rfl,hp,hh,ht⟩;dsimp only at *;have hl:M.length=n:=by rw[hp.len,hn]
  have hGM:=hp.mem hG;rcases Bd i with e|e
  ·subst e;refine wnZ and_self ?_;exact⟨rfl,M,rfl,hp,ht.done⟩
  ·obtain⟨k,rfl⟩:∃k,i=k+1:=⟨i-1,by omega⟩
   have tj:((k+1:Nat):Int)-1=(k:Int):=by omega
   obtain⟨M1,hl1,lm1,lm2⟩:=d7 (f:=f) (M:=M) (i:=a) (j:=a+k) (by omega) (by omega);have lm3:=lm2;simp only[bK,bO,fC,cf] at lm1 lm2;have hp1:PermR a (a+h) L (swp M a (a+k)):=hp.trans (PermR.swap (by omega) (by omega) (by omega));have hsl:(swp M a (a+k)).length=n:=by rw[hp1.len,hn]
   refine wnZ (zI6 @tj @gM @lm1 @lm2 hc.cells hc.one) ?_;refine ba ev0 (have zz:=aI @tj @Int.natCast_zero;evZ) (F0 hc (b:=b) (L:=swp M a (a+k)) (a:=a) (lo:=0) (hi:=k) (by rw[a6,a6,af,←lm3]) hsl (hp1.mem hG) (by omega) (by omega) (by omega) (hh.swapTop (by omega))) ?_;rintro _ _ _ ⟨rfl,N,rfl,hpN,hhN⟩;refine wnZ @tj ?_;exact⟨(k,N),by dsimp only;omega,⟨by dsimp only;omega,by dsimp only;rw[a6,a6,a6],rfl,hp1.trans (hpN.mono (aO _) (by omega)),hhN,ht.step hc.ord hh (by omega) (by omega) hpN⟩,ag0⟩
 ·obtain⟨k,rfl⟩:∃k,i=k+1:=⟨i-1,by omega⟩
  have tj:((k+1:Nat):Int)-1=(k:Int):=by omega
  refine wnZ @tj ?_;refine ba ev0 ev0 (F0 hc (L:=M) (a:=a) (lo:=k) (hi:=h) af hl hGM (by omega) (by omega) (by omega) hh) ?_;rintro _ _ _ ⟨rfl,N,rfl,hpN,hhN⟩;refine wnZ @tj ?_;exact⟨(k,N),by dsimp only;omega,⟨by dsimp only;omega,by dsimp only;rw[a6],rfl,hp.trans hpN,hhN⟩,ag0⟩
end
end Go.Proofs.YtekdaafnjdlenaaGreat
namespace Go.Proofs.YtekdaafnjdlenaaGreat
open Go Go.Abs
section
variable{α:Type}[Inhabited α]{f:α→AV}{K:α→α→Int}{G:α→Prop}{g:Nat}{caps:List AV}
def JR:AV→Option AV
 |.ptr b n o=>some (.ptr b n o)
 |.iptr c o=>some (.iptr c o)
 |.func f c=>some (.func f c)
 |_=>none
theorem SV3:(∀ (T:Tm) (H:Hp) (x:Opd),bB T H (.nilck x)=JR (ov T x))∧(∀ b n o:Nat,JR (.ptr b n o)=some (.ptr b n o)):=⟨fun T H x=>by
 simp only[bB];cases ov T x<;>rfl,fun _ _ _=>rfl⟩
attribute [local irreducible] aH ai be aY aP aQ aD aR aZ bl Go.Abs.Fn aX Go.Abs.Pure aq aK Yl
theorem Kt(hc:Cmp Tryz.prog f K G g caps){L:List α}{H:Hp}{b nx n a e:Nat}(hH:H b=some (L.map f))(hn:L.length=n)(hae:a<e)(hen:e≤n)(hn2:n≤1000000000):
    Abs.Fn Tryz.prog 170 [.msl b n 1 0 n,.int .i64 a,.int .i64 e,.func g caps] H nx fun r H' nx'=>nx'=nx∧∃L',H'=ap H b (L'.map f)∧PermR a e L L':=by
 obtain⟨m,rfl⟩:∃m,e=m+1:=⟨e-1,by omega⟩
 have te:((m+1:Nat):Int)-1=(m:Int):=by omega
 refine fO Lr ?_;simp only[Lf,aJ];refine wnZ @te ?_;refine b0 (X:=Nat×Nat×List α) (fun x=>[(0,.msl b n 1 0 n),(8,.int .i64 (x.1:Nat)),(9,.int .i64 (x.2.1:Nat))]) (fun x H' nxx=>a≤x.1∧x.2.1≤m∧H'=ap H b (x.2.2.map f)∧nx=nxx∧PermR a (m+1) L x.2.2) (fun x=>x.2.1) (a,m,L) ⟨aO _,aO _,k9 hH,rfl,.refl⟩ ag0 ?_;rintro⟨i,j,M⟩ H' nxx ⟨h1,h2,rfl,rfl,hp⟩;dsimp only at *;have hl:M.length=n:=by rw[hp.len,hn]
 by_cases hij:i<j
 ·obtain⟨k,rfl⟩:∃k,j=k+1:=⟨j-1,by omega⟩
  have tj:((k+1:Nat):Int)-1=(k:Int):=by omega
  have ti:((i:Nat):Int)+1=((i+1:Nat):Int):=by omega
  obtain⟨M1,hl1,lm1,lm2⟩:=d7 (f:=f) (M:=M) (i:=i) (j:=k+1) (by omega) (by omega);have lm3:=lm2;simp only[bK,bO,fC,cf] at lm1 lm2;refine wnZ (zI6 @tj @ti @lm1 @lm2 hc.cells hc.one) ?_;exact⟨(i+1,k,swp M i (k+1)),by dsimp only;omega,⟨by dsimp only;omega,by dsimp only;omega,by dsimp only;rw[a6,a6,lm3],rfl,hp.trans (PermR.swap (by omega) (by omega) (by omega))⟩,ag0⟩
 ·refine wnZ and_self ?_;exact⟨rfl,M,rfl,hp⟩
theorem tF(hc:Cmp Tryz.prog f K G g caps){L:List α}{H:Hp}{b c nx n i j s:Nat}(hH:H b=some (L.map f))(hcc:H c=some [.int .i64 (s:Nat)])(hn:L.length=n)(hG:∀x∈L,G x)(hi:i<n)(hj:j<n)(hn2:n≤1000000000)(hs:s≤100):
    Abs.Fn Tryz.prog 208 [.msl b n 1 0 n,.int .i64 i,.int .i64 j,.ptr c 1 0,.func g caps] H nx fun r H' nx'=>nx'=nx∧∃i' j' s':Nat,r=.tup [.int .i64 i',.int .i64 j']∧((i'=i∧j'=j)∨(i'=j∧j'=i))∧s'≤s+1∧H'=ap H c [.int .i64 s']:=by
 refine fO J6 ?_;simp only[Kx,aJ];have dcap:=hc.dcaps;have lc:=hc.run (L.getD j default) (L.getD i default) (hG _ (a5 (by omega))) (hG _ (a5 (by omega)));have e1:=hc.dat (L.getD j default);have e2:=hc.dat (L.getD i default);have ts:((s:Nat):Int)+1=((s+1:Nat):Int):=by omega
 have ls:∀x y:AV,bK [x] 0 [y]=[y]:=fun _ _=>rfl;simp only[bK,bO,fC,cf] at ls;generalize hKK:K (L.getD j default) (L.getD i default)=kk at lc;by_cases hlt:kk<0
 ·have zz:=aI @hH (aI @hcc (aI @cw (aI hc.cells (aI hc.one (aI @ts (aI @ls @SV3))))));repeat' (first|refine zW ?_|refine zM ?_|apply a_n|apply a_r|refine zO ?_|refine vZ ?_|refine cZ ?_ (hp:=lc) (hs:=by(first|refine aA ?_ rfl|apply aM);(repeat' (first|exact ak|apply bg|apply aN|exact e1|exact e2|exact bi dcap));first|done|fail)|refine stZ ?_|(refine zGZ ?_ ?_<;>(intro _hg;try (exfalso;omega)))|refine bI rfl ?_|refine r2Z ?_|fail)
  exact⟨rfl,j,i,s+1,rfl,.inr ⟨rfl,rfl⟩,aO _,rfl⟩
 ·have zz:=aI @hH (aI @hcc (aI @cw (aI hc.cells hc.one)));repeat' (first|refine zW ?_|refine zM ?_|apply a_n|refine zO ?_|refine vZ ?_|refine cZ ?_ (hp:=lc) (hs:=by(first|refine aA ?_ rfl|apply aM);(repeat' (first|exact ak|apply bg|apply aN|exact e1|exact e2|exact bi dcap));first|done|fail)|(refine zGZ ?_ ?_<;>(intro _hg;try (exfalso;omega)))|refine bI rfl ?_|refine r2Z ?_|fail)
  exact⟨rfl,i,j,s,rfl,.inl ⟨rfl,rfl⟩,Nat.le_succ _,k9 hcc⟩
end
end Go.Proofs.YtekdaafnjdlenaaGreat
namespace Go.Proofs.YtekdaafnjdlenaaGreat
open Go Go.Abs
section
variable{α:Type}[Inhabited α]{f:α→AV}{K:α→α→Int}{G:α→Prop}{g:Nat}{caps:List AV}
attribute [local irreducible] aH ai be aY aP aQ aD aR aZ bl Go.Abs.Fn aX Go.Abs.Pure aq aK Yl
theorem sZ(hc:Cmp Tryz.prog f K G g caps){L:List α}{H:Hp}{b c nx n i j k s lo hi:Nat}(hH:H b=some (L.map f))(hbc:b≠c)(hcc:H c=some [.int .i64 (s:Nat)])(hn:L.length=n)(hG:∀x∈L,G x)(hi1:lo≤i∧i<hi)(hj1:lo≤j∧j<hi)(hk1:lo≤k∧k<hi)(hhi:hi≤n)(hn2:n≤1000000000)(hs:s≤50):
    Abs.Fn Tryz.prog 201 [.msl b n 1 0 n,.int .i64 i,.int .i64 j,.int .i64 k,.ptr c 1 0,.func g caps] H nx fun r H' nx'=>nx'=nx∧∃p s':Nat,r=.int .i64 p∧lo≤p∧p<hi∧s'≤s+3∧H'=ap H c [.int .i64 s']:=by
 refine fO Lq ?_;simp only[Ks,aJ];refine wnZ and_self ?_;refine ba ev0 ev0 (tF hc (b:=b) hH hcc hn hG (i:=i) (j:=j) (by omega) (by omega) hn2 (by omega)) ?_;rintro _ _ _ ⟨rfl,i1,j1,s1,rfl,h1,hs1,rfl⟩;refine wnZ and_self ?_;refine ba ev0 ev0 (tF hc (b:=b) (by rw[ac hbc];exact hH) af hn hG (i:=j1) (j:=k) (by omega) (by omega) hn2 (by omega)) ?_;rintro _ _ _ ⟨rfl,j2,k2,s2,rfl,h2,hs2,rfl⟩;refine wnZ and_self ?_;refine ba ev0 ev0 (tF hc (b:=b) (by rw[a6,ac hbc];exact hH) af hn hG (i:=i1) (j:=j2) (by omega) (by omega) hn2 (by omega)) ?_;rintro _ _ _ ⟨rfl,i3,j3,s3,rfl,h3,hs3,rfl⟩;refine wnZ and_self ?_;exact⟨rfl,j3,s3,rfl,by omega,by omega,by omega,by rw[a6,a6]⟩
theorem sM(hc:Cmp Tryz.prog f K G g caps){L:List α}{H:Hp}{b c nx n i s lo hi:Nat}(hH:H b=some (L.map f))(hbc:b≠c)(hcc:H c=some [.int .i64 (s:Nat)])(hn:L.length=n)(hG:∀x∈L,G x)(hi1:lo+1≤i∧i+1<hi)(hhi:hi≤n)(hn2:n≤1000000000)(hs:s≤50):
    Abs.Fn Tryz.prog 200 [.msl b n 1 0 n,.int .i64 i,.ptr c 1 0,.func g caps] H nx fun r H' nx'=>nx'=nx∧∃p s':Nat,r=.int .i64 p∧lo≤p∧p<hi∧s'≤s+3∧H'=ap H c [.int .i64 s']:=by
 obtain⟨m,rfl⟩:∃m,i=m+1:=⟨i-1,by omega⟩
 have t1:((m+1:Nat):Int)-1=(m:Int):=by omega
 have t2:((m+1:Nat):Int)+1=((m+1+1:Nat):Int):=by omega
 refine fO JQ ?_;simp only[J2,aJ];refine wnZ (aI @t1 @t2) ?_;refine ba ev0 ev0 (sZ hc (b:=b) hH hbc hcc hn hG (i:=m) (j:=m+1) (k:=m+1+1) (lo:=lo) (hi:=hi) (by omega) (by omega) (by omega) hhi hn2 hs) ?_;rintro _ _ _ ⟨rfl,p,s1,rfl,h1,h2,hs1,rfl⟩;refine wnZ and_self ?_;exact⟨rfl,p,s1,rfl,h1,h2,hs1,rfl⟩
theorem EG(hc:Cmp Tryz.prog f K G g caps){L:List α}{H:Hp}{b nx n a e:Nat}(hH:H b=some (L.map f))(hbx:b<nx)(hn:L.length=n)(hG:∀x∈L,G x)(hae:a+8≤e)(hen:e≤n)(hn2:n≤1000000000):
    Abs.Fn Tryz.prog 169 [.msl b n 1 0 n,.int .i64 a,.int .i64 e,.func g caps] H nx fun r H' nx'=>nx'=nx+1∧∃(p:Nat)(hint:Int)(v:List AV),r=.tup [.int .i64 p,.int .i64 hint]∧a≤p∧p<e∧H'=ap H nx v:=by
 obtain⟨l,rfl⟩:∃l,e=a+l:=⟨e-a,by omega⟩
 have te:((a+l:Nat):Int)-(a:Int)=(l:Int):=by omega
 obtain⟨q,hq⟩:∃q,l/4=q:=⟨_,rfl⟩
 have tq:br .quo false false (.int .i64 (l:Int)) (.int .i64 4)=some (.int .i64 (q:Int)):=by
  rw[o0 (by omega) (by omega) (by omega)]
  congr 2
  omega
 have w1:(a:Int)+(q:Int)*1=((a+q:Nat):Int):=by omega
 have w2:(a:Int)+(q:Int)*2=((a+q*2:Nat):Int):=by omega
 have w3:(a:Int)+(q:Int)*3=((a+q*3:Nat):Int):=by omega
 have hbn:b≠nx:=by omega
 refine fO KH ?_;simp only[Kp,aJ];have last:∀(s:Nat)(H1:Hp),H1=ap (ap H nx [.int .i64 0]) nx [.int .i64 s]→H1 nx=some [.int .i64 (s:Nat)]:=fun s H1 h=>by rw[h];exact af
 have hHn:∀v,ap H nx v b=some (L.map f):=fun v=>by rw[ac hbn];exact hH
 by_cases h50:50≤l
 ·refine wnZ (zI5 @te @tq @w1 @w2 @w3) ?_;refine ba ev0 ev0 (sM hc (b:=b) (c:=nx) (s:=0) (i:=a+q) (lo:=a) (hi:=a+l) (hHn _) hbn af hn hG (by omega) (by omega) hn2 (by omega)) ?_;rintro _ _ _ ⟨rfl,p1,s1,rfl,k1,k2,hs1,rfl⟩;rw[a6];refine wnZ and_self ?_;refine ba ev0 ev0 (sM hc (b:=b) (c:=nx) (s:=s1) (i:=a+q*2) (lo:=a) (hi:=a+l) (hHn _) hbn af hn hG (by omega) (by omega) hn2 (by omega)) ?_;rintro _ _ _ ⟨rfl,p2,s2,rfl,k3,k4,hs2,rfl⟩;rw[a6];refine wnZ and_self ?_;refine ba ev0 ev0 (sM hc (b:=b) (c:=nx) (s:=s2) (i:=a+q*3) (lo:=a) (hi:=a+l) (hHn _) hbn af hn hG (by omega) (by omega) hn2 (by omega)) ?_;rintro _ _ _ ⟨rfl,p3,s3,rfl,k5,k6,hs3,rfl⟩;rw[a6];refine wnZ and_self ?_;refine ba ev0 ev0 (sZ hc (b:=b) (c:=nx) (s:=s3) (i:=p1) (j:=p2) (k:=p3) (lo:=a) (hi:=a+l) (hHn _) hbn af hn hG (by omega) (by omega) (by omega) (by omega) hn2 (by omega)) ?_;rintro _ _ _ ⟨rfl,p4,s4,rfl,k7,k8,hs4,rfl⟩;rw[a6]
  repeat' (first|refine zW ?_|apply a_n|refine zO ?_|refine vZ ?_|(refine zGZ ?_ ?_<;>(intro _hg;try (exfalso;omega)))|refine bI rfl ?_|refine r2Z ?_|fail)
  all_goals exact⟨rfl,p4,_,_,rfl,by omega,by omega,rfl⟩
 ·refine wnZ (zI5 @te @tq @w1 @w2 @w3) ?_;refine ba ev0 ev0 (sZ hc (b:=b) (c:=nx) (s:=0) (i:=a+q) (j:=a+q*2) (k:=a+q*3) (lo:=a) (hi:=a+l) (hHn _) hbn af hn hG (by omega) (by omega) (by omega) (by omega) hn2 (by omega)) ?_;rintro _ _ _ ⟨rfl,p4,s4,rfl,k7,k8,hs4,rfl⟩;rw[a6]
  repeat' (first|refine zW ?_|apply a_n|refine zO ?_|refine vZ ?_|(refine zGZ ?_ ?_<;>(intro _hg;try (exfalso;omega)))|refine bI rfl ?_|refine r2Z ?_|fail)
  all_goals exact⟨rfl,p4,_,_,rfl,by omega,by omega,rfl⟩
end
end Go.Proofs.YtekdaafnjdlenaaGreat
namespace Go.Proofs.YtekdaafnjdlenaaGreat
open Go Go.Abs
def uQ{α:Type}[Inhabited α](K:α→α→Int)(a e:Nat)(M:List α):Prop:=∀q,0<a→a≤q→q<e→¬K (M.getD q default) (M.getD (a-1) default)<0
section
variable{α:Type}[Inhabited α]{f:α→AV}{K:α→α→Int}{G:α→Prop}{g:Nat}{caps:List AV}
theorem uQ.perm{a e:Nat}{L M:List α}(h:uQ K a e L)(hp:PermR a e L M)(hae:a≤e)(he:e≤L.length):uQ K a e M:=fun q h0 h1 h2=>by
 rw[hp.out (a-1) (.inl (by omega))];exact hp.all (p:=fun x=>¬K x (L.getD (a-1) default)<0) hae he (fun i k1 k2=>h i h0 k1 k2) q h1 h2
theorem bq.out{a i e:Nat}{L M:List α}(h:bq K a i L)(hp:PermR i e L M):bq K a i M:=fun p q h1 h2 h3=>by
 rw[hp.out p (.inl (by omega)),hp.out q (.inl h3)];exact h p q h1 h2 h3
theorem bq.snoc{a i:Nat}{M:List α}(hK:Ord K)(h:bq K a i M)(ha:a<i)(hn:¬K (M.getD i default) (M.getD (i-1) default)<0):bq K a (i+1) M:=fun p q h1 h2 h3=>by
 by_cases e:q=i
 ·subst e;by_cases e2:p=q-1
  ·rw[e2];exact hn
  ·exact hK.negtr _ _ _ (h p (q-1) h1 (by omega) (by omega)) hn
 ·exact h p q h1 h2 (by omega)
attribute [local irreducible] aH ai be aY aP aQ aD aR aZ bl Go.Abs.Fn aX Go.Abs.Pure aq aK Yl
theorem DH(hc:Cmp Tryz.prog f K G g caps){L:List α}{H:Hp}{b nx n a e:Nat}(hH:H b=some (L.map f))(hn:L.length=n)(hG:∀x∈L,G x)(hae:a<e)(hen:e≤n)(hn2:n≤1000000000)(hlow:uQ K a e L):
    Abs.Fn Tryz.prog 171 [.msl b n 1 0 n,.int .i64 a,.int .i64 e,.func g caps] H nx fun r H' nx'=>nx'=nx∧∃L' t,r=.bool t∧H'=ap H b (L'.map f)∧PermR a e L L'∧(t=true→bq K a e L'):=by
 have dcap:=hc.dcaps;refine fO Mc ?_;simp only[Lm,aJ];refine wnZ and_self ?_;refine b0 (X:=Nat×Nat×List α) (fun x=>[(0,.msl b n 1 0 n),(1,.int .i64 a),(2,.int .i64 e),(3,.func g caps),(9,.int .i64 (x.2.1:Nat)),(10,.int .i64 (x.1:Nat))]) (fun x H' nxx=>x.1≤5∧a+1≤x.2.1∧x.2.1≤e∧H'=ap H b (x.2.2.map f)∧nx=nxx∧PermR a e L x.2.2∧bq K a x.2.1 x.2.2) (fun x=>5-x.1) (0,a+1,L) ⟨by dsimp only;omega,aO _,hae,k9 hH,rfl,.refl,bq.one (aO _)⟩ ag0 ?_;rintro⟨jj,i0,M0⟩ H' nxx ⟨h1,h2,h3,rfl,rfl,hp0,hs0⟩;dsimp only at *;by_cases h5:jj=5
 ·subst h5;refine wnZ and_self ?_;exact⟨rfl,M0,false,rfl,rfl,hp0,fun h=>absurd h (by decide)⟩
 have hl:M0.length=n:=by rw[hp0.len,hn]
 have hGM:=hp0.mem hG;refine co (fun T H'' nx''=>T 0=.msl b n 1 0 n∧T 1=.int .i64 a∧T 2=.int .i64 e∧T 3=.func g caps∧T 9=.int .i64 (i0:Nat)∧T 10=.int .i64 (jj:Nat)∧H''=ap H b ((M0).map f)∧nx=nx'') ?_ ?_
 ·refine wnZ and_self ?_;exact⟨rfl,rfl,rfl,rfl,rfl,rfl,rfl,rfl⟩
 rintro T _ _ ⟨t0,t1,t2,t3,t9,t10,rfl,rfl⟩;refine co (fun T H'' nx''=>∃(i:Nat)(M:List α),a+1≤i∧i≤e∧PermR a e L M∧bq K a i M∧T 0=.msl b n 1 0 n∧T 1=.int .i64 a∧T 2=.int .i64 e∧T 3=.func g caps∧T 9=.int .i64 (i:Nat)∧T 10=.int .i64 (jj:Nat)∧H''=ap H b ((M).map f)∧nx=nx'') ?_ ?_
 rotate_left
 ·clear t0 t1 t2 t3 t9 t10;rintro T _ _ ⟨i,M,k1,k2,hp,hs,t0,t1,t2,t3,t9,t10,rfl,rfl⟩;refine wnZ (zI6 @t0 @t1 @t2 @t3 @t9 @t10) ?_;exact⟨(jj+1,i,M),by dsimp only;omega,⟨by dsimp only;omega,k1,k2,rfl,rfl,hp,hs⟩,(have zz:=aI @t0 (aI @t1 (aI @t2 (aI @t3 (aI @t9 @t10))));agZ)⟩
 refine kQ ?_;refine co (fun T H'' nx''=>∃(i:Nat),a+1≤i∧i≤e∧bq K a i M0∧(i<e→K (M0.getD i default) (M0.getD (i-1) default)<0)∧T 0=.msl b n 1 0 n∧T 1=.int .i64 a∧T 2=.int .i64 e∧T 3=.func g caps∧T 9=.int .i64 (i:Nat)∧T 10=.int .i64 (jj:Nat)∧H''=ap H b ((M0).map f)∧nx=nx'') ?_ ?_
 ·refine wnZ (zI6 @t0 @t1 @t2 @t3 @t9 @t10) ?_;refine b0 (X:=Nat) (fun i=>[(0,.msl b n 1 0 n),(1,.int .i64 a),(2,.int .i64 e),(3,.func g caps),(9,.int .i64 (i:Nat)),(10,.int .i64 (jj:Nat))]) (fun i H' nxx=>a+1≤i∧i≤e∧H'=ap H b (M0.map f)∧nx=nxx∧bq K a i M0) (fun i=>e-i) i0 ⟨h2,h3,rfl,rfl,hs0⟩ (have zz:=aI @t0 (aI @t1 (aI @t2 (aI @t3 (aI @t9 @t10))));agZ) ?_;clear hs0 h2 h3;rintro i H' nxx ⟨h2,h3,rfl,rfl,hs⟩;by_cases hie:i=e
  ·subst hie;refine wkZ and_self ?_;exact⟨i,h2,h3,hs,fun h=>absurd h (Nat.lt_irrefl _),rfl,rfl,rfl,rfl,rfl,rfl,rfl,rfl⟩
  obtain⟨m,rfl⟩:∃m,i=m+1:=⟨i-1,by omega⟩
  have tj:((m+1:Nat):Int)-1=(m:Int):=by omega
  have lc:=hc.run (M0.getD (m+1) default) (M0.getD m default) (hGM _ (a5 (by omega))) (hGM _ (a5 (by omega)));have e1:=hc.dat (M0.getD (m+1) default);have e2:=hc.dat (M0.getD m default);generalize hKK:K (M0.getD (m+1) default) (M0.getD m default)=kk at lc;by_cases hlt:kk<0
  ·have zz:=aI @tj (aI @cw (aI hc.cells hc.one));repeat' (first|refine zW ?_|refine zM ?_|apply a_n|apply a_x|refine zO ?_|refine vZ ?_|refine cZ ?_ (hp:=lc) (hs:=by(first|refine aA ?_ rfl|apply aM);(repeat' (first|exact ak|apply bg|apply aN|exact e1|exact e2|exact bi dcap));first|done|fail)|refine gTZ ?_|(refine zGZ ?_ ?_<;>(intro _hg;try (exfalso;omega)))|fail)
   exact⟨m+1,h2,h3,hs,fun _=>by rw[qg,hKK];exact hlt,rfl,rfl,rfl,rfl,rfl,rfl,rfl,rfl⟩
  ·have zz:=aI @tj (aI @cw (aI hc.cells hc.one));repeat' (first|refine zW ?_|refine zM ?_|apply a_n|refine zO ?_|refine vZ ?_|refine cZ ?_ (hp:=lc) (hs:=by(first|refine aA ?_ rfl|apply aM);(repeat' (first|exact ak|apply bg|apply aN|exact e1|exact e2|exact bi dcap));first|done|fail)|refine gTZ ?_|(refine zGZ ?_ ?_<;>(intro _hg;try (exfalso;omega)))|fail)
   exact⟨m+1+1,by omega,⟨by omega,by omega,rfl,rfl,hs.snoc hc.ord (by omega) (by rw[qg,hKK];exact hlt)⟩,ag0⟩
 clear t0 t1 t2 t3 t9 t10 hs0 h2 h3;rintro T _ _ ⟨i,h2,h3,hs,hless,t0,t1,t2,t3,t9,t10,rfl,rfl⟩;by_cases hie:i=e
 ·subst hie;have ten:decide ((i:Int)=(i:Int))=true:=a8 rfl;refine wnZ (zI7 @t0 @t1 @t2 @t3 @t9 @t10 @ten) ?_;exact⟨rfl,M0,true,rfl,rfl,hp0,fun _=>hs⟩
 replace hless:=hless (by omega);have ten:decide ((i:Int)=(e:Int))=false:=bc (by omega);refine co (fun T H'' nx''=>T 0=.msl b n 1 0 n∧T 1=.int .i64 a∧T 2=.int .i64 e∧T 3=.func g caps∧T 9=.int .i64 (i:Nat)∧T 10=.int .i64 (jj:Nat)∧H''=ap H b ((M0).map f)∧nx=nx'') ?_ ?_
 ·refine wnZ (zI7 @t0 @t1 @t2 @t3 @t9 @t10 @ten) ?_;exact⟨(have zz:=@t0;evZ),(have zz:=@t1;evZ),(have zz:=@t2;evZ),(have zz:=@t3;evZ),(have zz:=@t9;evZ),(have zz:=@t10;evZ),rfl,rfl⟩
 clear t0 t1 t2 t3 t9 t10 ten;rintro T _ _ ⟨t0,t1,t2,t3,t9,t10,rfl,rfl⟩;refine co (fun T H'' nx''=>T 0=.msl b n 1 0 n∧T 1=.int .i64 a∧T 2=.int .i64 e∧T 3=.func g caps∧T 9=.int .i64 (i:Nat)∧T 10=.int .i64 (jj:Nat)∧H''=ap H b ((M0).map f)∧nx=nx'') ?_ ?_
 ·have zz:=aI @t0 (aI @t1 (aI @t2 (aI @t3 (aI @t9 @t10))));repeat' (first|refine zW ?_|apply a_n|apply a_r|refine zO ?_|refine vZ ?_|(refine zGZ ?_ ?_<;>(intro _hg;try (exfalso;omega)))|refine bI rfl ?_|refine r1Z ?_|fail)
  ·exact⟨rfl,M0,false,rfl,rfl,hp0,fun h=>absurd h (by decide)⟩
  ·exact⟨(have zz:=@t0;evZ),(have zz:=@t1;evZ),(have zz:=@t2;evZ),(have zz:=@t3;evZ),(have zz:=@t9;evZ),(have zz:=@t10;evZ),rfl,rfl⟩
 clear t0 t1 t2 t3 t9 t10;rintro T _ _ ⟨t0,t1,t2,t3,t9,t10,rfl,rfl⟩;obtain⟨m,rfl⟩:∃m,i=m+1:=⟨i-1,by omega⟩
 have tj:((m+1:Nat):Int)-1=(m:Int):=by omega
 rw[qg] at hless;obtain⟨M1,hl1,lm1,lm2⟩:=d7 (f:=f) (M:=M0) (i:=m+1) (j:=m) (by omega) (by omega);have lm3:=lm2;simp only[bK,bO,fC,cf] at lm1 lm2;refine co (fun T H'' nx''=>T 0=.msl b n 1 0 n∧T 1=.int .i64 a∧T 2=.int .i64 e∧T 3=.func g caps∧T 9=.int .i64 (m+1:Nat)∧T 10=.int .i64 (jj:Nat)∧H''=ap H b ((swp M0 (m+1) m).map f)∧nx=nx'') ?_ ?_
 ·refine wnZ (aI @t0 (aI @t1 (j0 @t2 @t3 @t9 @t10 @cw hc.cells hc.one @tj @lm1 @lm2))) ?_;exact⟨(have zz:=@t0;evZ),(have zz:=@t1;evZ),(have zz:=@t2;evZ),(have zz:=@t3;evZ),(have zz:=@t9;evZ),(have zz:=@t10;evZ),by rw[a6,a6,lm3],rfl⟩
 clear t0 t1 t2 t3 t9 t10;have hp1:PermR a e L (swp M0 (m+1) m):=hp0.trans (PermR.swap (by omega) (by omega) (by omega));have hal:=(gc.start hs).step hc.ord (by omega) (aO _) (by omega) hless;clear hs hless lm1 lm2 lm3 hl1 M1;generalize swp M0 (m+1) m=M2 at hp1 hal;clear hp0 hGM hl;rintro T _ _ ⟨t0,t1,t2,t3,t9,t10,rfl,rfl⟩;refine co (fun T H'' nx''=>∃M:List α,PermR a e L M∧bq K a (m+1) M∧T 0=.msl b n 1 0 n∧T 1=.int .i64 a∧T 2=.int .i64 e∧T 3=.func g caps∧T 9=.int .i64 (m+1:Nat)∧T 10=.int .i64 (jj:Nat)∧H''=ap H b ((M).map f)∧nx=nx'') ?_ ?_
 ·by_cases h2a:m=a
  ·subst h2a;have td:decide ((2:Int)≤((m+1:Nat):Int)-(m:Int))=false:=bc (by omega);refine wnZ (zI7 @t0 @t1 @t2 @t3 @t9 @t10 @td) ?_;exact⟨M2,hp1,(hal.done hc.ord (.inl rfl)).mono (aO _) (by omega),(have zz:=@t0;evZ),(have zz:=@t1;evZ),(have zz:=@t2;evZ),(have zz:=@t3;evZ),(have zz:=@t9;evZ),(have zz:=@t10;evZ),rfl,rfl⟩
  have td:decide ((2:Int)≤((m+1:Nat):Int)-(a:Int))=true:=a8 (by omega);refine wnZ (zI8 @t0 @t1 @t2 @t3 @t9 @t10 @td @tj) ?_;refine b0 (X:=Nat×List α) (fun x=>[(0,.msl b n 1 0 n),(1,.int .i64 a),(2,.int .i64 e),(3,.func g caps),(9,.int .i64 (m+1:Nat)),(10,.int .i64 (jj:Nat)),(11,.int .i64 (x.1:Nat))]) (fun x H' nxx=>a≤x.1∧x.1≤m∧H'=ap H b (x.2.map f)∧nx=nxx∧PermR a e L x.2∧gc K a (m+1) x.1 x.2) (fun x=>x.1) (m,M2) ⟨by dsimp only;omega,aO _,rfl,rfl,hp1,hal⟩ (have zz:=aI @t0 (aI @t1 (aI @t2 (aI @t3 (aI @t9 @t10))));agZ) ?_;clear t0 t1 t2 t3 t9 t10 hp1 hal M2;rintro⟨j,M⟩ H' nxx ⟨a1,a2,rfl,rfl,hp,hal⟩;dsimp only at *;have hl:M.length=n:=by rw[hp.len,hn]
  have hGM:=hp.mem hG;rcases Bd j with ej|ej
  ·subst ej;refine wnZ and_self ?_;exact⟨M,hp,(hal.done hc.ord (.inl (by omega))).mono (aO _) (by omega),rfl,rfl,rfl,rfl,rfl,rfl,rfl,rfl⟩
  obtain⟨k,rfl⟩:∃k,j=k+1:=⟨j-1,by omega⟩
  have tk:((k+1:Nat):Int)-1=(k:Int):=by omega
  have lc:=hc.run (M.getD (k+1) default) (M.getD k default) (hGM _ (a5 (by omega))) (hGM _ (a5 (by omega)));have e1:=hc.dat (M.getD (k+1) default);have e2:=hc.dat (M.getD k default);have hlw:=hlow.perm hp (by omega) (by omega);generalize hKK:K (M.getD (k+1) default) (M.getD k default)=kk at lc;by_cases hlt:kk<0
  ·have hak:k+1≠a:=fun h=>by
     subst h;have:=hlw (k+1) (by omega) (aO _) (by omega);rw[qg,hKK] at this;exact this hlt
   obtain⟨M1,hl1,lm1,lm2⟩:=d7 (f:=f) (M:=M) (i:=k+1) (j:=k) (by omega) (by omega);have lm3:=lm2;simp only[bK,bO,fC,cf] at lm1 lm2;have zz:=aI @tk (aI @cw (aI hc.cells (aI hc.one (aI @lm1 @lm2))));repeat' (first|refine zW ?_|refine zM ?_|apply a_n|refine zO ?_|refine vZ ?_|refine cZ ?_ (hp:=lc) (hs:=by(first|refine aA ?_ rfl|apply aM);(repeat' (first|exact ak|apply bg|apply aN|exact e1|exact e2|exact bi dcap));first|done|fail)|refine stZ ?_|(refine zGZ ?_ ?_<;>(intro _hg;try (exfalso;omega)))|fail)
   exact⟨(k,swp M (k+1) k),by dsimp only;omega,⟨by dsimp only;omega,by dsimp only;omega,by dsimp only;rw[a6,a6,lm3],rfl,hp.trans (PermR.swap (by omega) (by omega) (by omega)),hal.step hc.ord (by omega) (by omega) (by omega) (by rw[hKK];exact hlt)⟩,(have zz:=@tk;agZ)⟩
  ·have hd:k+1=a∨(a<k+1∧¬K (M.getD (k+1) default) (M.getD (k+1-1) default)<0):=by
     by_cases h:k+1=a
     ·exact .inl h
     ·exact .inr ⟨by omega,by rw[qg,hKK];exact hlt⟩
   have zz:=aI @tk (aI @cw (aI hc.cells hc.one));repeat' (first|refine zW ?_|refine zM ?_|apply a_n|apply a_x|refine zO ?_|refine vZ ?_|refine cZ ?_ (hp:=lc) (hs:=by(first|refine aA ?_ rfl|apply aM);(repeat' (first|exact ak|apply bg|apply aN|exact e1|exact e2|exact bi dcap));first|done|fail)|(refine zGZ ?_ ?_<;>(intro _hg;try (exfalso;omega)))|fail)
   exact⟨M,hp,(hal.done hc.ord hd).mono (aO _) (by omega),rfl,rfl,rfl,rfl,rfl,rfl,rfl,rfl⟩
 clear t0 t1 t2 t3 t9 t10 hp1 hal M2;rintro T _ _ ⟨M2,hp1,hs,t0,t1,t2,t3,t9,t10,rfl,rfl⟩;by_cases h2a:m+1+2≤e
 rotate_left
 ·have td:decide ((2:Int)≤(e:Int)-((m+1:Nat):Int))=false:=bc (by omega);refine wnZ (zI7 @t0 @t1 @t2 @t3 @t9 @t10 @td) ?_;exact⟨m+1,M2,h2,h3,hp1,hs,(have zz:=@t0;evZ),(have zz:=@t1;evZ),(have zz:=@t2;evZ),(have zz:=@t3;evZ),(have zz:=@t9;evZ),(have zz:=@t10;evZ),rfl,rfl⟩
 have td:decide ((2:Int)≤(e:Int)-((m+1:Nat):Int))=true:=a8 (by omega);have tj2:((m+1:Nat):Int)+1=((m+1+1:Nat):Int):=by omega
 refine wnZ (zI8 @t0 @t1 @t2 @t3 @t9 @t10 @td @tj2) ?_;refine b0 (X:=Nat×List α) (fun x=>[(0,.msl b n 1 0 n),(1,.int .i64 a),(2,.int .i64 e),(3,.func g caps),(9,.int .i64 (m+1:Nat)),(10,.int .i64 (jj:Nat)),(12,.int .i64 (x.1:Nat))]) (fun x H' nxx=>m+1+1≤x.1∧x.1≤e∧H'=ap H b (x.2.map f)∧nx=nxx∧PermR a e L x.2∧bq K a (m+1) x.2) (fun x=>e-x.1) (m+1+1,M2) ⟨aO _,by dsimp only;omega,rfl,rfl,hp1,hs⟩ (have zz:=aI @t0 (aI @t1 (aI @t2 (aI @t3 (aI @t9 @t10))));agZ) ?_;clear t0 t1 t2 t3 t9 t10 hp1 hs M2;rintro⟨j,M⟩ H' nxx ⟨a1,a2,rfl,rfl,hp,hs⟩;dsimp only at *;have hl:M.length=n:=by rw[hp.len,hn]
 have hGM:=hp.mem hG;by_cases hje:j=e
 ·subst hje;refine wnZ and_self ?_;exact⟨m+1,M,h2,h3,hp,hs,rfl,rfl,rfl,rfl,rfl,rfl,rfl,rfl⟩
 obtain⟨k,rfl⟩:∃k,j=k+1:=⟨j-1,by omega⟩
 have tk:((k+1:Nat):Int)-1=(k:Int):=by omega
 have lc:=hc.run (M.getD (k+1) default) (M.getD k default) (hGM _ (a5 (by omega))) (hGM _ (a5 (by omega)));have e1:=hc.dat (M.getD (k+1) default);have e2:=hc.dat (M.getD k default);generalize hKK:K (M.getD (k+1) default) (M.getD k default)=kk at lc;by_cases hlt:kk<0
 ·obtain⟨M1,hl1,lm1,lm2⟩:=d7 (f:=f) (M:=M) (i:=k+1) (j:=k) (by omega) (by omega);have lm3:=lm2;simp only[bK,bO,fC,cf] at lm1 lm2;have zz:=aI @tk (aI @cw (aI hc.cells (aI hc.one (aI @lm1 @lm2))));repeat' (first|refine zW ?_|refine zM ?_|apply a_n|refine zO ?_|refine vZ ?_|refine cZ ?_ (hp:=lc) (hs:=by(first|refine aA ?_ rfl|apply aM);(repeat' (first|exact ak|apply bg|apply aN|exact e1|exact e2|exact bi dcap));first|done|fail)|refine stZ ?_|(refine zGZ ?_ ?_<;>(intro _hg;try (exfalso;omega)))|fail)
  exact⟨(k+1+1,swp M (k+1) k),by dsimp only;omega,⟨by dsimp only;omega,by dsimp only;omega,by dsimp only;rw[a6,a6,lm3],rfl,hp.trans (PermR.swap (by omega) (by omega) (by omega)),hs.out (e:=e) (PermR.swap (by omega) (by omega) (by omega))⟩,ag0⟩
 ·have zz:=aI @tk (aI @cw (aI hc.cells hc.one));repeat' (first|refine zW ?_|refine zM ?_|apply a_n|apply a_x|refine zO ?_|refine vZ ?_|refine cZ ?_ (hp:=lc) (hs:=by(first|refine aA ?_ rfl|apply aM);(repeat' (first|exact ak|apply bg|apply aN|exact e1|exact e2|exact bi dcap));first|done|fail)|(refine zGZ ?_ ?_<;>(intro _hg;try (exfalso;omega)))|fail)
  exact⟨m+1,M,h2,h3,hp,hs,rfl,rfl,rfl,rfl,rfl,rfl,rfl,rfl⟩
end
end Go.Proofs.YtekdaafnjdlenaaGreat