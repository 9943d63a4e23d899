/- Contracts of functions and plain laws, for all inputs that the theorems name. -/
import Derived.Test.YtbmjaojeplmhnaaGreatXG3
import Derived.Shelf.SlSortCmp.WholeK
import Derived.Shelf.SlSortCmp.Whole1
import Derived.Shelf.Sort.Plain
import Derived.Shelf.Lays
import Derived.Shelf.SlSortCmp.NoneTotal

set_option linter.unusedSimpArgs false
set_option linter.unusedVariables false
set_option maxHeartbeats 4000000
namespace Go.Proofs.YtbmjaojeplmhnaaGreat
open Go Go.Abs
open Nat (reduceEqDiff reduceAdd reduceLeDiff)
theorem Gu(t:TaskV)(k:Nat)(hk:k<t.cases.length):iH t k=if bz (t.cases.getD k default).inp t.n t.ins≠0 then bz (t.cases.getD k default).inp t.n t.ins else if (decide (0<k)&&decide (0<=aD (t.cases.getD (k-1) default).inp (t.cases.getD k default).inp)) then 14 else cu t.n t.outs (t.cases.getD k default):=by
 unfold iH cR;rw[i4 hk,i4 (by omega)]
theorem I9{t:TaskV}(h:wk t=true):Sh t.cases/\∀c∈t.cases,ShC c:=by
 unfold wk at h;rw[eL,vt,dQ] at h;obtain⟨h1,h2⟩:=h;refine⟨show _<=_ by omega,λc hc=>?_⟩;have hf:=h2 c hc;unfold uP nC at hf;simp only[eL,vt,dQ] at hf;obtain⟨⟨f1,f2,f3⟩,f4,f5⟩:=hf;refine⟨show _<=_ by omega,show _<=_ by omega,λx hx=>?_,show _<=_ by omega,λx hx=>?_⟩
 ·have:=f3 x hx;exact show _<=_ by omega
 ·have:=f5 x hx;exact show _<=_ by omega
structure PermR{α:Type}[Inhabited α](a b:Nat)(L L':List α):Prop where
 len:L'.length=L.length
 out:∀i,i<a\/b<=i->L'.getD i default=L.getD i default
 perm:L'.Perm L
section
variable{α:Type}[Inhabited α]{a b a' b':Nat}{L L' L'':List α}
theorem ed{l:List α}{i j:Nat}{x:α}(h:i<l.length):(l.set i x).getD j default=if i=j then x else l.getD j default:=by
 simp only[List.getD,List.getElem?_set];split
 ·rename_i e;subst e;simp[h]
 ·rfl
theorem PermR.refl:PermR a b L L:=⟨rfl,λ_ _=>rfl,List.Perm.refl _⟩
theorem PermR.trans(h:PermR a b L L')(k:PermR a b L' L''):PermR a b L L'':=⟨k.len.trans h.len,λi hi=>(k.out i hi).trans (h.out i hi),k.perm.trans h.perm⟩
theorem PermR.mono(h:PermR a' b' L L')(h1:a<=a')(h2:b'<=b):PermR a b L L':=⟨h.len,λi hi=>h.out i (by omega),h.perm⟩
theorem uH{l m:List α}(hl:l.length=m.length)(h:∀i,i<l.length->l.getD i default=m.getD i default):l=m:=
 List.ext_getElem hl (fun i h1 h2=>by
  have:=h i h1;simpa[List.getD,h1,h2] using this)
theorem PermR.mid(h:PermR a b L L')(hab:a<=b)(hb:b<=L.length):((L'.drop a).take (b-a)).Perm ((L.drop a).take (b-a)):=by
 have e1:∀M:List α,b<=M.length->M=M.take a++((M.drop a).take (b-a)++M.drop b):=λM hM=>by
  have:M.drop b=(M.drop a).drop (b-a):=by rw[List.drop_drop];congr 1;omega
  rw[this,qI,qI]
 have t:L'.take a=L.take a:=uH (by simp [h.len]) (fun i hi=>by
  have hi':i<a:=by simp at hi;omega
  rw[xG hi',xG hi'];exact h.out i (.inl hi'))
 have d:L'.drop b=L.drop b:=uH (by simp [h.len]) (fun i hi=>by
  have e:∀M:List α,(M.drop b).getD i default=M.getD (b+i) default:=λM=>by simp[List.getD,kJ]
  rw[e,e];exact h.out (b+i) (.inr (by omega)))
 have p:=h.perm;rw[e1 L' (by rw[h.len];exact hb),e1 L hb,t,d] at p;exact(List.perm_append_right_iff _).1 ((List.perm_append_left_iff _).1 p)
theorem CZ{M:List α}{x:α}(hab:a<=b)(hb:b<=M.length):x∈(M.drop a).take (b-a)↔ ∃i,a<=i/\i<b/\M.getD i default=x:=by
 constructor
 ·intro h;obtain⟨j,hj,e⟩:=fW h;have hj':j<b-a:=by simp at hj;omega
  refine⟨a+j,by omega,by omega,?_⟩;rw[<-e];simp[List.getD,List.getElem_take,List.getElem_drop,show a+j<M.length by omega]
 ·rintro⟨i,h1,h2,rfl⟩;rw[List.mem_iff_getElem?];refine⟨i-a,?_⟩;rw[jl,if_pos (by omega),kJ,show a+(i-a)=i by omega];simp[List.getD,show i<M.length by omega]
theorem PermR.all{p:α->Prop}(h:PermR a b L L')(hab:a<=b)(hb:b<=L.length)(hp:∀i,a<=i->i<b->p (L.getD i default)):∀i,a<=i->i<b->p (L'.getD i default):=by
 intro i h1 h2;have hm:L'.getD i default∈(L'.drop a).take (b-a):=(CZ hab (by rw[h.len];exact hb)).2 ⟨i,h1,h2,rfl⟩;obtain⟨j,k1,k2,e⟩:=(CZ hab hb).1 ((h.mid hab hb).mem_iff.1 hm);rw[<-e];exact hp j k1 k2
end
structure Ord{α:Type}(K:α->α->Int):Prop where
 irr:∀x,¬K x x<0
 asym:∀x y,K x y<0->¬K y x<0
 negtr:∀x y z,¬K y x<0->¬K z y<0->¬K z x<0
def lG{α:Type}[Inhabited α](K:α->α->Int)(a b:Nat)(L:List α):Prop:=∀i j,a<=i->i<j->j<b->¬K (L.getD j default) (L.getD i default)<0
theorem lG.one{α:Type}[Inhabited α]{K:α->α->Int}{a b:Nat}{L:List α}(h:b<=a+1):lG K a b L:=λi j h1 h2 h3=>by omega
theorem JJ{w w':World}(hb:Go.RowKit.Below w.heap.size w w')(hd:w.drawn<=w'.drawn):∃q os,w'=Go.Sort.grow (w.drewN q) os:=by
 refine⟨w'.drawn-w.drawn,w'.heap.extract w.heap.size w'.heap.size,?_⟩;have h1:=hb.os;have h2:=hb.tape;have h3:=hb.output;have h4:=hb.size;have h5:=hb.block
 have hh:w'.heap=w.heap++w'.heap.extract w.heap.size w'.heap.size:=by
  refine Array.ext (by simp;omega) λi i1 i2=>?_;by_cases q:i<w.heap.size
  ·rw[Array.getElem_append_left q];have:=h5 i q;rw[Cf i1,Cf q] at this;exact Option.some.inj this
  ·rw[Array.getElem_append_right (by omega),Array.getElem_extract]
   congr 1;omega
 obtain⟨a,b,c,d,e⟩:=w;obtain⟨a',b',c',d',e'⟩:=w';simp only at h1 h2 h3 hd hh;subst h1 h2 h3;have:c'=c+(c'-c):=by omega
 unfold Go.Sort.grow World.drewN;simp only;rw[<-this,<-hh]
theorem vC{E:Env}{H:Hp}{nx:Nat}{w w':World}(hE:EnvOk E w)(hh:HeapOk E H nx w)(hb:Go.RowKit.Below w.heap.size w w')(hd:w.drawn<=w'.drawn):Ext E w E w'/\EnvOk E w'/\HeapOk E H nx w':=by
 have he:Ext E w E w':=⟨rfl,rfl,λ_ h=>h,λ_ h=>.inl h,λ_ _ _ h=>h,λ_ _ h=>h,λ_ _ h=>h,λb h=>⟨h,hb.block b (hE.dlt h)⟩,hb.size,λb hb'=>hb.block b (hE.lt b hb'),hd⟩
 exact⟨he,hE.step he (λb h=>.inl h) (λk hk=>.inl hk) (hb.mono hh.size) (Below.still hb) rfl rfl rfl (λ_ _ _ _=>rfl),hh.below he hb rfl (λ_ h=>.inl h) rfl⟩
theorem qc(w:World)(q:Nat)(os:Array Obj):Go.RowKit.Below w.heap.size w (Go.Sort.grow (Go.Sort.ahead w q) os):=
 ⟨rfl,rfl,rfl,by simp[Go.Sort.grow,Go.Sort.ahead],λk hk=>Go.Sort.heap_grow_old _ _ (by exact hk)⟩
theorem DG{P:Program}{g:Nat}{caps:List AV}{cb:Array Value}{a1 a2:AV}{n:Int}(hp:Go.Abs.Pure P g (a1::a2::caps) (.int .i64 n)){imm:Nat->Prop}{W:World}{v1 v2:Value}(hi:∀b,imm b->b<W.heap.size)(h1:Rel (E0 imm) W a1 v1)(h2:Rel (E0 imm) W a2 v2)(hc:dI (E0 imm) W caps cb.toList):
    Calls P g (#[v1,v2]++cb) W λe w'=>e=.returned (.int .i64 n)/\∃q os,w'=Go.Sort.grow (W.drewN q) os:=by
 have ha:(v1::v2::cb.toList).toArray=#[v1,v2]++cb:=by
  apply Array.ext';simp
 rw[<-ha];refine(hp.2 imm W (v1::v2::cb.toList) hi ⟨by have:=hc.1;simp[this],λi x y hx hy=>?_⟩).mono ?_
 ·match i,hx,hy with
  |0,hx,hy=>cases hx;cases hy;exact h1
  |1,hx,hy=>cases hx;cases hy;exact h2
  |i+2,hx,hy=>exact hc.2 i x y hx hy
 ·rintro e w' ⟨v,imm',rfl,hb,-,-,-,hr,hd⟩;cases hr;exact⟨rfl,JJ hb hd⟩
theorem qT{E:Env}{w W:World}(hs:E.base<=w.heap.size)(hk:∀b,E.imm b->W.heap[b]?=w.heap[b]?)(hz:w.heap.size<=W.heap.size)(hd:w.drawn<=W.drawn){x:AV}{v:Value}(hx:Dat x)(h:Rel E w x v):Rel (E0 E.imm) W x v:=by
 have h1:=(aK.sound0 (E:=E) (w:=w) hs (cU hx al) (vs:=[v]) ⟨rfl,fun i a b ha hb=>by
  match i,ha,hb with
  |0,ha,hb=>cases ha;cases hb;exact h
  |i+1,ha,hb=>simp at ha⟩).2 0 x v rfl rfl
 exact Rel.ext (E:=E0 E.imm) (E':=E0 E.imm) (w:=w) (w':=W) ⟨rfl,rfl,λ_ h=>h,λ_ h=>.inl h,λ_ _ _ h=>h,λ_ _ h=>h,λ_ _ h=>h,λb h=>h.elim,hz,hk,hd⟩ h1
theorem sq{E:Env}{H:Hp}{nx b:Nat}{w:World}(hh:HeapOk E H nx w){cs:List AV}(hH:H b=some cs){blk bsz:Nat}(hm:E.mu b cs.length=some (blk,bsz)):
    ∃(vals:Array Value)(ty:TypeId)(fz:Nat×Nat),w.heap[blk]?=some (.cells vals ty fz)/\(∀j,j<vals.size->¬(fz.1<=j/\j<fz.2))/\cs.length<=vals.size/\(∀(i:Nat)(x:AV),cs[i]?=some x->∃v:Value,vals[i]?=some v/\v.oneCell'=true/\Rel E w x v)/\BoxOk E w b cs blk vals.size:=by
 rcases hh.box b cs hH with h|⟨blk',sz',hx⟩
 ·rw[hm] at h;cases h
 ·have e:=hx.mu;rw[hm] at e;cases e;obtain⟨vals,ty,fz,h1,h2,h3,h4,h5⟩:=hx.cells;subst h3;exact⟨vals,ty,fz,h1,h2,h4,h5,hx⟩
theorem FK{l:List AV}(h:Dat (.agg l)):∀x∈l,Dat x:=λx hx H=>by
 have:=h H;obtain⟨i,hi⟩:=rY hx;cases this with
 |agg a c hl hr=>exact hr i x x hi hi
theorem kY{α:Type}{f:α->AV}{sz:Nat}(hc:∀x,(f x).cells.length=sz):∀L:List α,(L.flatMap λx=>(f x).cells).length=L.length*sz
 |[]=>by simp
 |x::L=>by rw[lj,cP,kY hc L,hc,ig,d8];omega
theorem qi{α:Type}[Inhabited α]{f:α->AV}{sz:Nat}(hc:∀x,(f x).cells.length=sz):∀{L:List α}{i j:Nat},i<L.length->j<sz->(L.flatMap λx=>(f x).cells)[i*sz+j]?=(f (L.getD i default)).cells[j]?
 |[],i,j,h,_=>by simp at h
 |x::L,0,j,_,hj=>by
  rw[lj,nA,dt,gG (by rw[hc];exact hj)];rfl
 |x::L,i+1,j,h,hj=>by
  rw[lj,iA (by rw[hc,d8];omega),hc,show(i+1)*sz+j-sz=i*sz+j by rw[d8];omega];exact qi hc (by simpa using h) hj
def vE(vals:Array Value)(sz n j:Nat):List Value:=(List.range sz).map λt=>vals[(if j<n then j else 0)*sz+t]!
theorem BE{vals:Array Value}{sz n j:Nat}:(vE vals sz n j).length=sz:=by simp[vE]
theorem Lm{vals:Array Value}{sz n j t:Nat}(h:t<sz):(vE vals sz n j)[t]?=some (vals[(if j<n then j else 0)*sz+t]!):=by simp[vE,h]
theorem Im{vals:Array Value}{sz n j t:Nat}(h:t<sz):(vE vals sz n j)[t]! =vals[(if j<n then j else 0)*sz+t]!:=by simp[vE,h]
theorem C8{vals:Array Value}{i:Nat}{v:Value}(h:vals[i]?=some v):vals[i]! =v:=by
 obtain⟨h1,h2⟩:=kT.1 h;rw[getElem!_pos vals i h1];exact h2
theorem IS{enc:Nat->List Value}{k:Nat}{w:World}{blk m:Nat}{dk:Array Nat}{os:Array Obj}:w.heap.size<=(Go.Proofs.sortWorldK enc k w blk 0 m dk os).heap.size:=by
 simp[Go.Proofs.sortWorldK,Go.Sort.grow,Go.Sort.putRowK,Go.Sort.putRow,Go.Sort.mapBlock,Go.Sort.ahead]
theorem Ja{enc:Nat->List Value}{k:Nat}{w:World}{blk m:Nat}{dk:Array Nat}{os:Array Obj}{b:Nat}(hb:b<w.heap.size)(hne:b≠blk):(Go.Proofs.sortWorldK enc k w blk 0 m dk os).heap[b]?=w.heap[b]?:=by
 unfold Go.Proofs.sortWorldK;rw[Go.Sort.heap_grow_old _ _ (by simpa[Go.Sort.putRowK,Go.Sort.putRow,Go.Sort.mapBlock,Go.Sort.ahead] using hb)];simp[Go.Sort.putRowK,Go.Sort.putRow,Go.Sort.mapBlock,Go.Sort.ahead,Array.getElem?_modify,Ne.symm hne]
theorem A7{enc:Nat->List Value}{k:Nat}{w:World}{blk m:Nat}{dk:Array Nat}{os:Array Obj}:(Go.Proofs.sortWorldK enc k w blk 0 m dk os).drawn=w.drawn+m:=rfl
theorem ND{enc:Nat->List Value}{k:Nat}{w:World}{blk m:Nat}{dk:Array Nat}{os:Array Obj}{vals:Array Value}{ty:TypeId}{fz:Nat×Nat}(h:w.heap[blk]?=some (.cells vals ty fz)):
    Go.Proofs.sortWorldK enc k w blk 0 m dk os=Go.Sort.grow (Go.Sort.ahead (w.setRow blk (Go.Sort.putCells id 0 (Go.Sort.flatK enc k dk) vals)) m) os:=by
 unfold Go.Proofs.sortWorldK
 congr 1
 unfold Go.Sort.putRowK Go.Sort.putRow Go.Sort.mapBlock Go.Sort.ahead World.setRow;simp only
 congr 1
 refine Array.ext (by simp) λi i1 i2=>?_;rw[Array.getElem_modify,Array.getElem_modify];split
 ·rename_i e;subst e;obtain⟨g1,g2⟩:=kT.1 h;rw[g2];rfl
 ·rfl
theorem Dy{α β:Type}{K:α->α->Int}(h:Ord K)(g:β->α):Go.Sort.SWO (Go.Proofs.ltOf λx y=>K (g x) (g y)) where
 irrefl x:=bJ (h.irr _)
 trans x y z h1 h2:=by
  have h1:=pB h1;have h2:=pB h2;refine bR (Decidable.byContradiction λh3=>?_);exact h.negtr _ _ _ (h.asym _ _ h2) h3 h1
 ntrans x y z h1 h2:=bJ (h.negtr _ _ _ (of_decide_eq_false h2) (of_decide_eq_false h1))
theorem wU{n i:Nat}(h:i<n):(Array.range n)[i]! =i:=by simp[h]
theorem C5{n:Nat}{d:Array Nat}(h:Go.Sort.PermIn 0 n (Array.range n) d):d.size=n/\d.toList.Perm (List.range n):=by
 obtain⟨h1,-,h2⟩:=h;rw[Array.size_range] at h1;have e1:d.extract 0 n=d:=by rw[<-h1];simp
 have e2:(Array.range n).extract 0 n=Array.range n:=by
  have:(Array.range n).extract 0 (Array.range n).size=Array.range n:=by simp
  rwa [Array.size_range] at this
 rw[e1,e2] at h2;exact⟨h1,by simpa using h2⟩
theorem Am{α:Type}[Inhabited α]{L:List α}{n:Nat}(hn:L.length=n){d:List Nat}(h:d.Perm (List.range n)):(d.map λj=>L.getD j default).Perm L:=by
 have h2:=h.map λj=>L.getD j default
 have e:(List.range n).map (λj=>L.getD j default)=L:=by
  refine List.ext_getElem (by simp[hn]) λi h1 h2=>?_;simp[List.getD,h2]
 rwa [e] at h2
theorem KY{P:Program}{ρ:Go.Shelf.Ren}(Ly:Go.Proofs.SlLaysF0.n6 P ρ){α:Type}[Inhabited α]{f:α->AV}{K:α->α->Int}{G:α->Prop}{g:Nat}{caps:List AV}{sz:Nat}
    (aE:∀w,(isAgg (ρ.t 24)).run P w=.ok true w) (zE:∀w,(Go.sizeOf (ρ.t 24)).run P w=.ok sz w) (hz:0<sz) (len:∀x,(f x).cells.length=sz) (agg:∀x,AV.agg (f x).cells=f x) (dat:∀x,Dat (f x)) (dcaps:∀x∈caps,Dat x)
    (run:∀x y,G x->G y->Go.Abs.Pure P g (f x::f y::caps) (.int .i64 (K x y))) (ord:Ord K) (hcok:cok P (ρ.f 6)=true) (eg:∀args w,(callFunc g args).run P w=.ok (.enter g args) w)
    {L:List α} {H:Hp} {b nx n:Nat} (hH:H b=some (L.flatMap λx=>(f x).cells)) (hbx:b<nx) (hn:L.length=n) (hn0:0<n) (hG:∀x∈L,G x) (hn2:n<=1000000000):
    Abs.Fn P (ρ.f 6) [.msl b (n*sz) sz 0 n,.func g caps] H nx λr H' nx'=>∃L',H'=av H b (L'.flatMap λx=>(f x).cells)/\nx'=nx/\L'.Perm L/\lG K 0 n L':=by
 refine⟨hcok,λE w vs hE hh hf hv=>?_⟩;obtain⟨hvl,hvr⟩:=hv
 match vs,hvl,hvr with
 |[v0,v1],_,hvr=>
 have h0:=hvr 0 _ _ rfl rfl;have h1:=hvr 1 _ _ rfl rfl
 obtain⟨blk,bsz,cap,rfl,hm⟩:∃blk bsz cap,v0=.slice (some ⟨blk,0,none⟩) n cap/\E.mu b (n*sz)=some (blk,bsz):=by
  generalize hx:AV.msl b (n*sz) sz 0 n=x at h0;cases h0 with
  |msl b' n' sz' off len blk bsz cap h hl hc hn'=>cases hx;exact⟨blk,bsz,cap,rfl,h⟩
  |msl0 b' sz' v h=>injection hx;omega
  |_=>cases hx
 obtain⟨cv,hcl,hcr,rfl⟩:∃cv:List Value,cv.length=caps.length/\(∀(i:Nat)(x:AV)(y:Value),caps[i]?=some x->cv[i]?=some y->Rel E w x y)/\v1=.func (.func g) #[] cv.toArray:=by
  generalize hx:AV.func g caps=x at h1;cases h1 with
  |func f' c' cv hl hr=>cases hx;exact⟨cv,hl,hr,rfl⟩
  |_=>cases hx
 clear h0 h1 hvr hvl;have hL:=kY (f:=f) len L;rw[hn] at hL;obtain⟨vals,ty,fz,c1,c2,c3,c4,hbox⟩:=sq hh hH (by rw[hL];exact hm);rw[hL] at c3;have hblk:blk<w.heap.size:=(kT.1 c1).1
 have idx:∀i j,i<n->j<sz->i*sz+j<n*sz:=λi j hi hj=>by
  have:(i+1)*sz<=n*sz:=jv _ hi;rw[d8] at this;omega
 have cell:∀i j,i<n->j<sz->∃x,(f (L.getD i default)).cells[j]?=some x/\vals[i*sz+j]?=some vals[i*sz+j]!/\vals[i*sz+j]!.oneCell'=true/\Rel E w x vals[i*sz+j]!:=λi j hi hj=>by
  have e:=qi (f:=f) len (L:=L) (i:=i) (j:=j) (by omega) hj;have hj2:j<(f (L.getD i default)).cells.length:=by rw[len];exact hj
  rw[mB hj2] at e;obtain⟨v,k1,k2,k3⟩:=c4 _ _ e;rw[C8 k1];exact⟨_,mB hj2,k1,k2,k3⟩
 have ixn:∀i:Nat,(if i<n then i else 0)<n:=λi=>by split<;>omega
 have erel:∀W:World,(∀b,E.imm b->W.heap[b]?=w.heap[b]?)->w.heap.size<=W.heap.size->w.drawn<=W.drawn->∀i,Rel (E0 E.imm) W (f (L.getD (if i<n then i else 0) default)) (.agg (vE vals sz n i).toArray):=λW k1 k2 k3 i=>by
  have hd:=dat (L.getD (if i<n then i else 0) default);rw[<-agg] at hd |-;refine Rel.agg _ _ (by rw[BE,len]) λj x y hx hy=>?_;have hj:j<sz:=by have:=(bH.1 hx).1;rw[len] at this;exact this
  obtain⟨x',e1,e2,e3,e4⟩:=cell _ j (ixn i) hj;rw[hx] at e1;cases e1;rw[Lm hj] at hy;cases hy;exact qT hh.size k1 k2 k3 (FK hd _ (ir hx)) e4
 have crel:∀W:World,(∀b,E.imm b->W.heap[b]?=w.heap[b]?)->w.heap.size<=W.heap.size->w.drawn<=W.drawn->dI (E0 E.imm) W caps cv.toArray.toList:=λW k1 k2 k3=>
  ⟨hcl,λi x y hx hy=>qT hh.size k1 k2 k3 (dcaps x (ir hx)) (hcr i x y hx hy)⟩
 have hcmp:Go.Proofs.CmpLays P g cv.toArray (vE vals sz n) sz (λi j=>K (L.getD (if i<n then i else 0) default) (L.getD (if j<n then j else 0) default)) blk 0 (Array.range n).size w:=λm os dk hs x y=>by
  have k1:∀b,E.imm b->(Go.Proofs.sortWorldK (vE vals sz n) sz w blk 0 m dk os).heap[b]?=w.heap[b]?:=λb hb=>Ja (hE.lt b hb) (λe=>hbox.imm (e▸hb));have k2:=IS (enc:=vE vals sz n) (k:=sz) (w:=w) (blk:=blk) (m:=m) (dk:=dk) (os:=os);have k3:w.drawn<=(Go.Proofs.sortWorldK (vE vals sz n) sz w blk 0 m dk os).drawn:=by rw[A7];omega
  exact DG (run _ _ (hG _ (ao (by rw[hn];exact ixn x))) (hG _ (ao (by rw[hn];exact ixn y)))) (imm:=E.imm) (λb hb=>Ak (hE.lt b hb) k2) (erel _ k1 k2 k3 x) (erel _ k1 k2 k3 y) (crel _ k1 k2 k3)
 have hflat:∀t,t<n*sz->(Go.Sort.flatK (vE vals sz n) sz (Array.range n))[t]! =vals[t]!:=λt ht=>by
  rw[Go.Sort.get_flatK _ _ _ _ (by simpa using ht)];have hd:t/sz<n:=Nat.div_lt_of_lt_mul (by rw[Nat.mul_comm];exact ht);rw[Im (Nat.mod_lt _ hz),wU hd,if_pos hd,Nat.mul_comm,Nat.div_add_mod]
 have hHo:Go.Sort.HoldsK (vE vals sz n) sz w blk 0 (Array.range n):=λj hj=>by
  have hj:j<n*sz:=by simpa using hj
  have hj2:j<vals.size:=by omega
  refine⟨?_,?_⟩
  ·rw[hflat j hj];simp[World.cell?,c1,hj2]
  ·have:=c2 j hj2;simp only[World.frozen?,c1,dt];obtain⟨lo,hi⟩:=fz;simp only at this |-;simpa using this
 have hcon:=Go.Proofs.AnyQ.slices_SortFunc Ly sz aE zE (vE vals sz n) (fun _=>BE) (fun x v hv=>by
  obtain⟨t,ht⟩:=rY hv;have htl:t<sz:=by have:=(bH.1 ht).1;rw[BE] at this;exact this
  rw[Lm htl] at ht;cases ht;obtain⟨_,_,_,e3,_⟩:=cell _ t (ixn x) htl;exact e3) _ (Dy ord λi=>L.getD (if i<n then i else 0) default) g cv.toArray blk 0 cap (Array.range n) w eg hcmp hHo hblk (by simp;omega)
 rw[Array.size_range] at hcon;refine hcon.mono ?_;rintro e w' ⟨rfl,d,q,os,hp,hs,rfl⟩;obtain⟨p1,p2⟩:=C5 hp
 have hdl:∀i,i<n->d[i]! <n:=λi hi=>by
  have:d[i]! ∈d.toList:=by rw[getElem!_pos d i (by omega)];simp
  exact eM.1 (p2.mem_iff.1 this)
 have hg:∀i,i<n->(d.toList.map λj=>L.getD j default).getD i default=L.getD d[i]! default:=λi hi=>by
  have hi2:i<d.size:=by omega
  rw[getElem!_pos d i hi2];simp[List.getD,hi2]
 have hlen':(d.toList.map λj=>L.getD j default).length=n:=by simp[p1]
 have hL':=kY (f:=f) len (d.toList.map λj=>L.getD j default);rw[hlen'] at hL'
 obtain ⟨E',he,hE',hh',-,-,hmu,hsp,hlp⟩:=hh.write hE hH hbox (cs':=(d.toList.map fun j=>L.getD j default).flatMap fun x=>(f x).cells) (Go.Sort.putCells id 0 (Go.Sort.flatK (vE vals sz n) sz d) vals) (by simp [Go.Sort.putCells]) (by rw [hL']; exact c3) (by rw [hL,hL']; exact bc _) (.inl (by rw [hL,hL'])) (fun i x hx=>by
  have hi:i<n*sz:=by have:=(bH.1 hx).1;rw[hL'] at this;exact this
  have hi2:i<vals.size:=by omega
  have hd:i/sz<n:=Nat.div_lt_of_lt_mul (by rw[Nat.mul_comm];exact hi);have hmd:=Nat.mod_lt i hz;have e:=qi (f:=f) len (L:=d.toList.map λj=>L.getD j default) (i:=i/sz) (j:=i%sz) (by rw[hlen'];exact hd) hmd;rw[Nat.mul_comm,Nat.div_add_mod,hx,hg _ hd] at e;obtain⟨x',k1,k2,k3,k4⟩:=cell _ _ (hdl _ hd) hmd;rw[k1] at e;cases e;refine⟨_,?_,k3,k4⟩;have hfl:=Go.Sort.get_flatK (vE vals sz n) sz d i (by rw[p1];exact hi);rw[Im hmd,if_pos (hdl _ hd)] at hfl;rw[getElem!_pos _ i (by rw[Go.Sort.size_flatK,p1];exact hi)] at hfl;simp[Go.Sort.putCells,hi2,p1,hi];exact hfl)
 have hb:=qc (w.setRow blk (Go.Sort.putCells id 0 (Go.Sort.flatK (vE vals sz n) sz d) vals)) q os;rw[<-ND c1] at hb;obtain⟨o1,o2,o3⟩:=vC hE' hh' hb (by rw[A7];exact Nat.le_add_right _ _);refine⟨.tuple #[],E',.tup [],_,nx,rfl,he.trans o1,o2,o3,hf.of (bc _) (λb' m hb'=>hmu b' m (by omega)) hsp hlp,.tup [] [] rfl (λi x y hx=>by simp at hx),_,rfl,rfl,Am hn p2,λi j _ hij hj=>?_⟩;rw[hg i (by omega),hg j hj];have:=of_decide_eq_false (hs i j (bo _) hij hj);dsimp only at this
 rwa [if_pos (hdl i (by omega)),if_pos (hdl j hj)] at this
def v1(vals:Array Value)(n j:Nat):Value:=vals[if j<n then j else 0]!
theorem I4{enc:Nat->Value}{w:World}{blk m:Nat}{dk:Array Nat}{os:Array Obj}:w.heap.size<=(Go.Proofs.sortWorld enc w blk 0 m dk os).heap.size:=by
 simp[Go.Proofs.sortWorld,Go.Sort.grow,Go.Sort.putRow,Go.Sort.mapBlock,Go.Sort.ahead]
theorem Kw{enc:Nat->Value}{w:World}{blk m:Nat}{dk:Array Nat}{os:Array Obj}{b:Nat}(hb:b<w.heap.size)(hne:b≠blk):(Go.Proofs.sortWorld enc w blk 0 m dk os).heap[b]?=w.heap[b]?:=by
 unfold Go.Proofs.sortWorld;rw[Go.Sort.heap_grow_old _ _ (by simpa[Go.Sort.putRow,Go.Sort.mapBlock,Go.Sort.ahead] using hb)];simp[Go.Sort.putRow,Go.Sort.mapBlock,Go.Sort.ahead,Array.getElem?_modify,Ne.symm hne]
theorem HM{α:Type}[Inhabited α]{enc:α->Value}{w:World}{blk m:Nat}{dk:Array α}{os:Array Obj}{vals:Array Value}{ty:TypeId}{fz:Nat×Nat}(h:w.heap[blk]?=some (.cells vals ty fz)):
    Go.Sort.grow (Go.Sort.putRow enc (Go.Sort.ahead w m) blk 0 dk) os=Go.Sort.grow (Go.Sort.ahead (w.setRow blk (Go.Sort.putCells enc 0 dk vals)) m) os:=by
 congr 1
 unfold Go.Sort.putRow Go.Sort.mapBlock Go.Sort.ahead World.setRow;simp only
 congr 1
 refine Array.ext (by simp) λi i1 i2=>?_;rw[Array.getElem_modify,Array.getElem_modify];split
 ·rename_i e;subst e;obtain⟨g1,g2⟩:=kT.1 h;rw[g2];rfl
 ·rfl
theorem xu{E:Env}{w:World}{b n sz:Nat}{v:Value}(hn0:0<n)(h:Rel E w (.msl b (n*sz) sz 0 n) v):∃blk bsz cap,v=.slice (some ⟨blk,0,none⟩) n cap/\E.mu b (n*sz)=some (blk,bsz):=by
 generalize hx:AV.msl b (n*sz) sz 0 n=x at h;cases h with
 |msl b' n' sz' off len blk bsz cap h hl hc hn'=>cases hx;exact⟨blk,bsz,cap,rfl,h⟩
 |msl0 b' sz' v h=>injection hx;omega
 |_=>cases hx
theorem Gy{E:Env}{w:World}{g:Nat}{caps:List AV}{v:Value}(h:Rel E w (.func g caps) v):∃cv:List Value,cv.length=caps.length/\(∀(i:Nat)(x:AV)(y:Value),caps[i]?=some x->cv[i]?=some y->Rel E w x y)/\v=.func (.func g) #[] cv.toArray:=by
 generalize hx:AV.func g caps=x at h;cases h with
 |func f' c' cv hl hr=>cases hx;exact⟨cv,hl,hr,rfl⟩
 |_=>cases hx
theorem OZ{P:Program}{ρ:Go.Shelf.Ren}(Ly:Go.Proofs.SlLaysF.n6 P ρ){α:Type}[Inhabited α]{f:α->AV}{K:α->α->Int}{G:α->Prop}{g:Nat}{caps:List AV}
    (dat:∀x,Dat (f x)) (dcaps:∀x∈caps,Dat x) (run:∀x y,G x->G y->Go.Abs.Pure P g (f x::f y::caps) (.int .i64 (K x y))) (ord:Ord K) (hcok:cok P (ρ.f 6)=true) (eg:∀args w,(callFunc g args).run P w=.ok (.enter g args) w)
    {L:List α} {H:Hp} {b nx n:Nat} (hH:H b=some (L.map f)) (hbx:b<nx) (hn:L.length=n) (hn0:0<n) (hG:∀x∈L,G x) (hn2:n<=1000000000):
    Abs.Fn P (ρ.f 6) [.msl b n 1 0 n,.func g caps] H nx λr H' nx'=>∃L',H'=av H b (L'.map f)/\nx'=nx/\L'.Perm L/\lG K 0 n L':=by
 refine⟨hcok,λE w vs hE hh hf hv=>?_⟩;obtain⟨hvl,hvr⟩:=hv
 match vs,hvl,hvr with
 |[u0,u1],_,hvr=>
 have h0:=hvr 0 _ _ rfl rfl;have h1:=hvr 1 _ _ rfl rfl;have h0:Rel E w (.msl b (n*1) 1 0 n) u0:=by rw[Nat.mul_one];exact h0
 obtain⟨blk,bsz,cap,rfl,hm⟩:=xu hn0 h0;obtain⟨cv,hcl,hcr,rfl⟩:=Gy h1;clear h0 h1 hvr hvl;rw[Nat.mul_one] at hm;have hL:(L.map f).length=n:=by rw[bi];exact hn
 obtain⟨vals,ty,fz,c1,c2,c3,c4,hbox⟩:=sq hh hH (by rw[hL];exact hm);rw[hL] at c3;have hblk:blk<w.heap.size:=(kT.1 c1).1
 have cell:∀i,i<n->vals[i]?=some vals[i]!/\vals[i]!.oneCell'=true/\Rel E w (f (L.getD i default)) vals[i]!:=λi hi=>by
  have hi2:i<L.length:=by omega
  obtain⟨v,k1,k2,k3⟩:=c4 i (f (L.getD i default)) (by simp[List.getD,hi2]);rw[C8 k1];exact⟨k1,k2,k3⟩
 have ixn:∀i:Nat,(if i<n then i else 0)<n:=λi=>by split<;>omega
 have hcmp:Go.Proofs.CmpLays1 P g cv.toArray (v1 vals n) (λi j=>K (L.getD (if i<n then i else 0) default) (L.getD (if j<n then j else 0) default)) blk 0 (Array.range n).size w:=λm os dk hs x y=>by
  have k1:∀b,E.imm b->(Go.Proofs.sortWorld (v1 vals n) w blk 0 m dk os).heap[b]?=w.heap[b]?:=λb hb=>Kw (hE.lt b hb) (λe=>hbox.imm (e▸hb));have k2:=I4 (enc:=v1 vals n) (w:=w) (blk:=blk) (m:=m) (dk:=dk) (os:=os);have k3:w.drawn<=(Go.Proofs.sortWorld (v1 vals n) w blk 0 m dk os).drawn:=Nat.le_add_right _ _
  exact DG (run _ _ (hG _ (ao (by rw[hn];exact ixn x))) (hG _ (ao (by rw[hn];exact ixn y)))) (imm:=E.imm) (λb hb=>Ak (hE.lt b hb) k2) (qT hh.size k1 k2 k3 (dat _) (cell _ (ixn x)).2.2) (qT hh.size k1 k2 k3 (dat _) (cell _ (ixn y)).2.2)
   ⟨hcl,λi x y hx hy=>qT hh.size k1 k2 k3 (dcaps x (ir hx)) (hcr i x y hx hy)⟩
 have hHo:Go.Sort.Holds (v1 vals n) w blk 0 (Array.range n):=λj hj=>by
  have hj:j<n:=by simpa using hj
  have hj2:j<vals.size:=by omega
  refine⟨?_,?_⟩
  ·rw[wU hj];simp[World.cell?,c1,hj2,v1,hj]
  ·have:=c2 j hj2;simp only[World.frozen?,c1,dt];obtain⟨lo,hi⟩:=fz;simp only at this |-;simpa using this
 have hcon:=Go.Proofs.Any.slices_SortFunc Ly (v1 vals n) (λx=>(cell _ (ixn x)).2.1) _ (Dy ord λi=>L.getD (if i<n then i else 0) default) g cv.toArray blk 0 cap (Array.range n) w eg hcmp hHo hblk (by simp;omega);rw[Array.size_range] at hcon;refine hcon.mono ?_;rintro e w' ⟨rfl,d,q,os,hp,hs,rfl⟩;obtain⟨p1,p2⟩:=C5 hp
 have hdl:∀i,i<n->d[i]! <n:=λi hi=>by
  have:d[i]! ∈d.toList:=by rw[getElem!_pos d i (by omega)];simp
  exact eM.1 (p2.mem_iff.1 this)
 have hg:∀i,i<n->(d.toList.map λj=>L.getD j default).getD i default=L.getD d[i]! default:=λi hi=>by
  have hi2:i<d.size:=by omega
  rw[getElem!_pos d i hi2];simp[List.getD,hi2]
 have hL':((d.toList.map λj=>L.getD j default).map f).length=n:=by simp[p1]
 obtain ⟨E',he,hE',hh',-,-,hmu,hsp,hlp⟩:=hh.write hE hH hbox (cs':=(d.toList.map fun j=>L.getD j default).map f) (Go.Sort.putCells (v1 vals n) 0 d vals) (by simp [Go.Sort.putCells]) (by rw [hL']; exact c3) (by rw [hL,hL']; exact bc _) (.inl (by rw [hL,hL'])) (fun i x hx=>by
  have hi:i<n:=by have:=(bH.1 hx).1;rw[hL'] at this;exact this
  have hi2:i<vals.size:=by omega
  have hi3:i<d.size:=by omega
  obtain⟨k2,k3,k4⟩:=cell _ (hdl _ hi)
  have e:x=f (L.getD d[i]! default):=by
   rw[<-hg i hi];have hi4:i<(d.toList.map λj=>L.getD j default).length:=by simpa using hi3
   rw[ko,mB hi4] at hx;cases hx;simp[List.getD,hi3]
  rw[e];refine⟨_,?_,k3,k4⟩;have hd:=hdl i hi;rw[getElem!_pos d i hi3] at hd |-;simp[Go.Sort.putCells,hi2,hi3,v1,hd])
 have hb:=qc (w.setRow blk (Go.Sort.putCells (v1 vals n) 0 d vals)) q os;rw[<-HM c1] at hb;obtain⟨o1,o2,o3⟩:=vC hE' hh' hb (Nat.le_add_right _ _);refine⟨.tuple #[],E',.tup [],_,nx,rfl,he.trans o1,o2,o3,hf.of (bc _) (λb' m hb'=>hmu b' m (by omega)) hsp hlp,.tup [] [] rfl (λi x y hx=>by simp at hx),_,rfl,rfl,Am hn p2,λi j _ hij hj=>?_⟩;rw[hg i (by omega),hg j hj];have:=of_decide_eq_false (hs i j (bo _) hij hj);dsimp only at this
 rwa [if_pos (hdl i (by omega)),if_pos (hdl j hj)] at this
theorem Jv{P:Program}{ρ:Go.Shelf.Ren}(Ly:Go.Proofs.Lays.n189 P ρ)(hcok:cok P (ρ.f 189)=true){L:List Int}{H:Hp}{b nx n:Nat}(hH:H b=some (L.map λx=>.int .i64 x))(hbx:b<nx)(hn:L.length=n)(hn0:0<n)(hn2:n<=1000000000):
    Abs.Fn P (ρ.f 189) [.msl b n 1 0 n] H nx λr H' nx'=>∃L':List Int,H'=av H b (L'.map λx=>.int .i64 x)/\nx'=nx/\L'.Perm L/\L'.Pairwise (· <= ·):=by
 refine⟨hcok,λE w vs hE hh hf hv=>?_⟩;obtain⟨hvl,hvr⟩:=hv
 match vs,hvl,hvr with
 |[u0],_,hvr=>
 have h0:=hvr 0 _ _ rfl rfl;have h0:Rel E w (.msl b (n*1) 1 0 n) u0:=by rw[Nat.mul_one];exact h0
 obtain⟨blk,bsz,cap,rfl,hm⟩:=xu hn0 h0;clear h0 hvr hvl;rw[Nat.mul_one] at hm;have hL:(L.map λx=>AV.int .i64 x).length=n:=by rw[bi];exact hn
 obtain⟨vals,ty,fz,c1,c2,c3,c4,hbox⟩:=sq hh hH (by rw[hL];exact hm);rw[hL] at c3;have hblk:blk<w.heap.size:=(kT.1 c1).1
 have hHo:Go.Sort.Holds (Value.int .i64) w blk 0 L.toArray:=λj hj=>by
  have hj:j<n:=by simpa[hn] using hj
  have hj2:j<vals.size:=by omega
  have hj3:j<L.length:=by omega
  refine⟨?_,?_⟩
  ·obtain⟨v,k1,k2,k3⟩:=c4 j (.int .i64 L[j]) (by simp[hj3]);cases k3;simp[World.cell?,c1,k1,hj3]
  ·have:=c2 j hj2;simp only[World.frozen?,c1,dt];obtain⟨lo,hi⟩:=fz;simp only at this |-;simpa using this
 have hcon:=Go.Proofs.Any.slices_Sort_int Ly blk 0 cap L w hHo hblk (by omega);rw[hn] at hcon;refine hcon.mono ?_;rintro e w' ⟨rfl,q,os,rfl⟩;have hp:(L.mergeSort λx y=>decide (x<=y)).Perm L:=List.mergeSort_perm _ _
 have hs:(L.mergeSort λx y=>decide (x<=y)).Pairwise (· <= ·):=by
  have:=List.pairwise_mergeSort (le:=fun x y:Int=>decide (x ≤ y)) (fun a b c h1 h2=>bR (Int.le_trans (pB h1) (pB h2))) (fun a b=>by
   rcases Int.le_total a b with h|h
   ·simp[h]
   ·simp[h]) L
  exact this.imp λh=>pB h
 generalize (L.mergeSort λx y=>decide (x<=y))=M at hp hs |-;have hMl:M.length=n:=by rw[hp.length_eq,hn]
 have hL':(M.map λx=>AV.int .i64 x).length=n:=by rw[bi];exact hMl
 obtain ⟨E',he,hE',hh',-,-,hmu,hsp,hlp⟩:=hh.write hE hH hbox (cs':=M.map fun x=>AV.int .i64 x) (Go.Sort.putCells (Value.int .i64) 0 M.toArray vals) (by simp [Go.Sort.putCells]) (by rw [hL']; exact c3) (by rw [hL,hL']; exact bc _) (.inl (by rw [hL,hL'])) (fun i x hx=>by
  have hi:i<n:=by have:=(bH.1 hx).1;rw[hL'] at this;exact this
  have hi2:i<vals.size:=by omega
  have hi3:i<M.length:=by omega
  rw[ko,mB hi3] at hx;cases hx;exact⟨.int .i64 M[i],by simp[Go.Sort.putCells,hi2,hi3],rfl,.int _ _⟩)
 have hb:=qc (w.setRow blk (Go.Sort.putCells (Value.int .i64) 0 M.toArray vals)) q os;rw[<-HM c1] at hb;obtain⟨o1,o2,o3⟩:=vC hE' hh' hb (Nat.le_add_right _ _);exact⟨.tuple #[],E',.tup [],_,nx,rfl,he.trans o1,o2,o3,hf.of (bc _) (λb' m hb'=>hmu b' m (by omega)) hsp hlp,.tup [] [] rfl (λi x y hx=>by simp at hx),M,rfl,rfl,hp,hs⟩
theorem dg{P:Program}{n:Nat}{F fn:Func}(h:P.funcs[n]?=some fn)(c:(fn.name== "runtime.NumGoroutine")=false)(e:some fn=some {F with name:=fn.name}):Go.Proofs.Bears P n F:=⟨fn.name,c,h.trans e⟩
def QK:Go.Shelf.Ren:=⟨λn=>match n with|6=>90|15=>70|14=>143|28=>125|29=>126|20=>174|21=>175|22=>176|23=>177|24=>178|25=>179|26=>180|27=>181|46=>204|47=>155|48=>156|49=>205|50=>206|57=>223|n=>n,λn=>match n with|22=>22|24=>79|25=>166|3=>3|39=>144|0=>0|53=>202|55=>204|4=>4|46=>196|45=>195|50=>154|5=>5|9=>9|66=>234|70=>238|76=>265|77=>266|n=>n,λn=>n⟩
theorem RP:Go.Proofs.SlLaysF0.n6 Tryz.prog QK where
 mixed:=by kernel_rfl
 f6:=dg Tryz.func90 (by kernel_rfl) (by kernel_rfl)
 f14:=dg Tryz.func143 (by kernel_rfl) (by kernel_rfl)
 f15:=Tryz.func70.trans (by kernel_rfl)
 f20:=dg Tryz.func174 (by kernel_rfl) (by kernel_rfl)
 f21:=dg Tryz.func175 (by kernel_rfl) (by kernel_rfl)
 f22:=dg Tryz.func176 (by kernel_rfl) (by kernel_rfl)
 f23:=dg Tryz.func177 (by kernel_rfl) (by kernel_rfl)
 f24:=dg Tryz.func178 (by kernel_rfl) (by kernel_rfl)
 f25:=dg Tryz.func179 (by kernel_rfl) (by kernel_rfl)
 f26:=dg Tryz.func180 (by kernel_rfl) (by kernel_rfl)
 f27:=dg Tryz.func181 (by kernel_rfl) (by kernel_rfl)
 f28:=Tryz.func125.trans (by kernel_rfl)
 f29:=Tryz.func126.trans (by kernel_rfl)
 f46:=dg Tryz.func204 (by kernel_rfl) (by kernel_rfl)
 f47:=Tryz.func155.trans (by kernel_rfl)
 f48:=Tryz.func156.trans (by kernel_rfl)
 f49:=dg Tryz.func205 (by kernel_rfl) (by kernel_rfl)
 f50:=dg Tryz.func206 (by kernel_rfl) (by kernel_rfl)
 f57:=dg Tryz.func223 (by kernel_rfl) (by kernel_rfl)
 t0:=Tryz.underlying0
 a0:=Tryz.isAgg0
 z0:=Tryz.sizeOf0
 v0:=Tryz.zeroValue0
 t3:=Tryz.underlying3
 a3:=Tryz.isAgg3
 z3:=Tryz.sizeOf3
 v3:=Tryz.zeroValue3
 t4:=Tryz.underlying4
 a4:=Tryz.isAgg4
 z4:=Tryz.sizeOf4
 v4:=Tryz.zeroValue4
 t5:=Tryz.underlying5
 a5:=Tryz.isAgg5
 z5:=Tryz.sizeOf5
 v5:=Tryz.zeroValue5
 t9:=Tryz.underlying9
 a9:=Tryz.isAgg9
 z9:=Tryz.sizeOf9
 v9:=Tryz.zeroValue9
 t22:=Tryz.underlying22
 a22:=Tryz.isAgg22
 z22:=Tryz.sizeOf22
 v22:=Tryz.zeroValue22
 t25:=Tryz.underlying166
 a25:=Tryz.isAgg166
 z25:=Tryz.sizeOf166
 v25:=Tryz.zeroValue166
 t39:=Tryz.underlying144
 a39:=Tryz.isAgg144
 z39:=Tryz.sizeOf144
 v39:=Tryz.zeroValue144
 t45:=Tryz.underlying195
 a45:=Tryz.isAgg195
 z45:=Tryz.sizeOf195
 v45:=Tryz.zeroValue195
 t46:=Tryz.underlying196
 a46:=Tryz.isAgg196
 z46:=Tryz.sizeOf196
 v46:=Tryz.zeroValue196
 t50:=Tryz.underlying154
 a50:=Tryz.isAgg154
 z50:=Tryz.sizeOf154
 v50:=Tryz.zeroValue154
 t53:=Tryz.underlying202
 a53:=Tryz.isAgg202
 z53:=Tryz.sizeOf202
 v53:=Tryz.zeroValue202
 t55:=Tryz.underlying204
 a55:=Tryz.isAgg204
 z55:=Tryz.sizeOf204
 v55:=Tryz.zeroValue204
 t66:=Tryz.underlying234
 a66:=Tryz.isAgg234
 z66:=Tryz.sizeOf234
 v66:=Tryz.zeroValue234
 t70:=Tryz.underlying238
 a70:=Tryz.isAgg238
 z70:=Tryz.sizeOf238
 v70:=Tryz.zeroValue238
 t76:=Tryz.underlying265
 a76:=Tryz.isAgg265
 z76:=Tryz.sizeOf265
 v76:=Tryz.zeroValue265
 t77:=Tryz.underlying266
 a77:=Tryz.isAgg266
 z77:=Tryz.sizeOf266
 v77:=Tryz.zeroValue266
def Ov:Go.Shelf.Ren:=⟨λn=>match n with|6=>145|15=>70|14=>182|28=>125|29=>126|20=>207|21=>208|22=>209|23=>210|24=>211|25=>212|26=>213|27=>214|46=>224|47=>155|48=>156|49=>225|50=>226|57=>228|n=>n,λn=>match n with|22=>94|24=>98|25=>223|3=>3|39=>144|0=>0|53=>202|55=>204|4=>4|46=>196|45=>195|50=>154|5=>5|9=>9|66=>234|70=>238|76=>265|77=>266|n=>n,λn=>n⟩
theorem RL:Go.Proofs.SlLaysF0.n6 Tryz.prog Ov where
 mixed:=by kernel_rfl
 f6:=dg Tryz.func145 (by kernel_rfl) (by kernel_rfl)
 f14:=dg Tryz.func182 (by kernel_rfl) (by kernel_rfl)
 f15:=Tryz.func70.trans (by kernel_rfl)
 f20:=dg Tryz.func207 (by kernel_rfl) (by kernel_rfl)
 f21:=dg Tryz.func208 (by kernel_rfl) (by kernel_rfl)
 f22:=dg Tryz.func209 (by kernel_rfl) (by kernel_rfl)
 f23:=dg Tryz.func210 (by kernel_rfl) (by kernel_rfl)
 f24:=dg Tryz.func211 (by kernel_rfl) (by kernel_rfl)
 f25:=dg Tryz.func212 (by kernel_rfl) (by kernel_rfl)
 f26:=dg Tryz.func213 (by kernel_rfl) (by kernel_rfl)
 f27:=dg Tryz.func214 (by kernel_rfl) (by kernel_rfl)
 f28:=Tryz.func125.trans (by kernel_rfl)
 f29:=Tryz.func126.trans (by kernel_rfl)
 f46:=dg Tryz.func224 (by kernel_rfl) (by kernel_rfl)
 f47:=Tryz.func155.trans (by kernel_rfl)
 f48:=Tryz.func156.trans (by kernel_rfl)
 f49:=dg Tryz.func225 (by kernel_rfl) (by kernel_rfl)
 f50:=dg Tryz.func226 (by kernel_rfl) (by kernel_rfl)
 f57:=dg Tryz.func228 (by kernel_rfl) (by kernel_rfl)
 t0:=Tryz.underlying0
 a0:=Tryz.isAgg0
 z0:=Tryz.sizeOf0
 v0:=Tryz.zeroValue0
 t3:=Tryz.underlying3
 a3:=Tryz.isAgg3
 z3:=Tryz.sizeOf3
 v3:=Tryz.zeroValue3
 t4:=Tryz.underlying4
 a4:=Tryz.isAgg4
 z4:=Tryz.sizeOf4
 v4:=Tryz.zeroValue4
 t5:=Tryz.underlying5
 a5:=Tryz.isAgg5
 z5:=Tryz.sizeOf5
 v5:=Tryz.zeroValue5
 t9:=Tryz.underlying9
 a9:=Tryz.isAgg9
 z9:=Tryz.sizeOf9
 v9:=Tryz.zeroValue9
 t22:=Tryz.underlying94
 a22:=Tryz.isAgg94
 z22:=Tryz.sizeOf94
 v22:=Tryz.zeroValue94
 t25:=Tryz.underlying223
 a25:=Tryz.isAgg223
 z25:=Tryz.sizeOf223
 v25:=Tryz.zeroValue223
 t39:=Tryz.underlying144
 a39:=Tryz.isAgg144
 z39:=Tryz.sizeOf144
 v39:=Tryz.zeroValue144
 t45:=Tryz.underlying195
 a45:=Tryz.isAgg195
 z45:=Tryz.sizeOf195
 v45:=Tryz.zeroValue195
 t46:=Tryz.underlying196
 a46:=Tryz.isAgg196
 z46:=Tryz.sizeOf196
 v46:=Tryz.zeroValue196
 t50:=Tryz.underlying154
 a50:=Tryz.isAgg154
 z50:=Tryz.sizeOf154
 v50:=Tryz.zeroValue154
 t53:=Tryz.underlying202
 a53:=Tryz.isAgg202
 z53:=Tryz.sizeOf202
 v53:=Tryz.zeroValue202
 t55:=Tryz.underlying204
 a55:=Tryz.isAgg204
 z55:=Tryz.sizeOf204
 v55:=Tryz.zeroValue204
 t66:=Tryz.underlying234
 a66:=Tryz.isAgg234
 z66:=Tryz.sizeOf234
 v66:=Tryz.zeroValue234
 t70:=Tryz.underlying238
 a70:=Tryz.isAgg238
 z70:=Tryz.sizeOf238
 v70:=Tryz.zeroValue238
 t76:=Tryz.underlying265
 a76:=Tryz.isAgg265
 z76:=Tryz.sizeOf265
 v76:=Tryz.zeroValue265
 t77:=Tryz.underlying266
 a77:=Tryz.isAgg266
 z77:=Tryz.sizeOf266
 v77:=Tryz.zeroValue266
def Ox:Go.Shelf.Ren:=⟨λn=>match n with|6=>115|15=>70|14=>153|28=>125|29=>126|20=>187|21=>188|22=>189|23=>190|24=>191|25=>192|26=>193|27=>194|46=>218|47=>155|48=>156|49=>219|50=>220|57=>227|n=>n,λn=>match n with|22=>41|24=>45|25=>156|3=>3|39=>144|0=>0|53=>202|55=>204|4=>4|46=>196|45=>195|50=>154|5=>5|9=>9|66=>234|70=>238|76=>265|77=>266|n=>n,λn=>n⟩
theorem Pa:Go.Proofs.SlLaysF.n6 Tryz.prog Ox where
 mixed:=by kernel_rfl
 f6:=dg Tryz.func115 (by kernel_rfl) (by kernel_rfl)
 f14:=dg Tryz.func153 (by kernel_rfl) (by kernel_rfl)
 f15:=Tryz.func70.trans (by kernel_rfl)
 f20:=dg Tryz.func187 (by kernel_rfl) (by kernel_rfl)
 f21:=dg Tryz.func188 (by kernel_rfl) (by kernel_rfl)
 f22:=dg Tryz.func189 (by kernel_rfl) (by kernel_rfl)
 f23:=dg Tryz.func190 (by kernel_rfl) (by kernel_rfl)
 f24:=dg Tryz.func191 (by kernel_rfl) (by kernel_rfl)
 f25:=dg Tryz.func192 (by kernel_rfl) (by kernel_rfl)
 f26:=dg Tryz.func193 (by kernel_rfl) (by kernel_rfl)
 f27:=dg Tryz.func194 (by kernel_rfl) (by kernel_rfl)
 f28:=Tryz.func125.trans (by kernel_rfl)
 f29:=Tryz.func126.trans (by kernel_rfl)
 f46:=dg Tryz.func218 (by kernel_rfl) (by kernel_rfl)
 f47:=Tryz.func155.trans (by kernel_rfl)
 f48:=Tryz.func156.trans (by kernel_rfl)
 f49:=dg Tryz.func219 (by kernel_rfl) (by kernel_rfl)
 f50:=dg Tryz.func220 (by kernel_rfl) (by kernel_rfl)
 f57:=dg Tryz.func227 (by kernel_rfl) (by kernel_rfl)
 t0:=Tryz.underlying0
 a0:=Tryz.isAgg0
 z0:=Tryz.sizeOf0
 v0:=Tryz.zeroValue0
 t3:=Tryz.underlying3
 a3:=Tryz.isAgg3
 z3:=Tryz.sizeOf3
 v3:=Tryz.zeroValue3
 t4:=Tryz.underlying4
 a4:=Tryz.isAgg4
 z4:=Tryz.sizeOf4
 v4:=Tryz.zeroValue4
 t5:=Tryz.underlying5
 a5:=Tryz.isAgg5
 z5:=Tryz.sizeOf5
 v5:=Tryz.zeroValue5
 t9:=Tryz.underlying9
 a9:=Tryz.isAgg9
 z9:=Tryz.sizeOf9
 v9:=Tryz.zeroValue9
 t22:=Tryz.underlying41
 a22:=Tryz.isAgg41
 z22:=Tryz.sizeOf41
 v22:=Tryz.zeroValue41
 a24:=Tryz.isAgg45
 z24:=Tryz.sizeOf45
 t25:=Tryz.underlying156
 a25:=Tryz.isAgg156
 z25:=Tryz.sizeOf156
 v25:=Tryz.zeroValue156
 t39:=Tryz.underlying144
 a39:=Tryz.isAgg144
 z39:=Tryz.sizeOf144
 v39:=Tryz.zeroValue144
 t45:=Tryz.underlying195
 a45:=Tryz.isAgg195
 z45:=Tryz.sizeOf195
 v45:=Tryz.zeroValue195
 t46:=Tryz.underlying196
 a46:=Tryz.isAgg196
 z46:=Tryz.sizeOf196
 v46:=Tryz.zeroValue196
 t50:=Tryz.underlying154
 a50:=Tryz.isAgg154
 z50:=Tryz.sizeOf154
 v50:=Tryz.zeroValue154
 t53:=Tryz.underlying202
 a53:=Tryz.isAgg202
 z53:=Tryz.sizeOf202
 v53:=Tryz.zeroValue202
 t55:=Tryz.underlying204
 a55:=Tryz.isAgg204
 z55:=Tryz.sizeOf204
 v55:=Tryz.zeroValue204
 t66:=Tryz.underlying234
 a66:=Tryz.isAgg234
 z66:=Tryz.sizeOf234
 v66:=Tryz.zeroValue234
 t70:=Tryz.underlying238
 a70:=Tryz.isAgg238
 z70:=Tryz.sizeOf238
 v70:=Tryz.zeroValue238
 t76:=Tryz.underlying265
 a76:=Tryz.isAgg265
 z76:=Tryz.sizeOf265
 v76:=Tryz.zeroValue265
 t77:=Tryz.underlying266
 a77:=Tryz.isAgg266
 z77:=Tryz.sizeOf266
 v77:=Tryz.zeroValue266
def Ra:Go.Shelf.Ren:=⟨λn=>match n with|189=>32|125=>70|257=>69|128=>125|129=>126|294=>116|295=>117|296=>118|297=>119|298=>120|299=>121|216=>122|300=>123|301=>124|328=>154|329=>155|330=>156|331=>157|332=>158|215=>159|343=>195|n=>n,λn=>match n with|28=>45|3=>3|46=>144|0=>0|51=>202|53=>204|4=>4|183=>196|182=>195|131=>154|5=>5|9=>9|218=>234|222=>238|228=>265|229=>266|n=>n,λn=>n⟩
theorem RC:Go.Proofs.Lays.n189 Tryz.prog Ra where
 mixed:=by kernel_rfl
 f125:=Tryz.func70.trans (by kernel_rfl)
 f128:=Tryz.func125.trans (by kernel_rfl)
 f129:=Tryz.func126.trans (by kernel_rfl)
 f189:=Tryz.func32.trans (by kernel_rfl)
 f215:=Tryz.func159.trans (by kernel_rfl)
 f216:=Tryz.func122.trans (by kernel_rfl)
 f257:=Tryz.func69.trans (by kernel_rfl)
 f294:=Tryz.func116.trans (by kernel_rfl)
 f295:=Tryz.func117.trans (by kernel_rfl)
 f296:=Tryz.func118.trans (by kernel_rfl)
 f297:=Tryz.func119.trans (by kernel_rfl)
 f298:=Tryz.func120.trans (by kernel_rfl)
 f299:=Tryz.func121.trans (by kernel_rfl)
 f300:=Tryz.func123.trans (by kernel_rfl)
 f301:=Tryz.func124.trans (by kernel_rfl)
 f328:=Tryz.func154.trans (by kernel_rfl)
 f329:=Tryz.func155.trans (by kernel_rfl)
 f330:=Tryz.func156.trans (by kernel_rfl)
 f331:=Tryz.func157.trans (by kernel_rfl)
 f332:=Tryz.func158.trans (by kernel_rfl)
 f343:=Tryz.func195.trans (by kernel_rfl)
 t0:=Tryz.underlying0
 a0:=Tryz.isAgg0
 z0:=Tryz.sizeOf0
 v0:=Tryz.zeroValue0
 t3:=Tryz.underlying3
 a3:=Tryz.isAgg3
 z3:=Tryz.sizeOf3
 v3:=Tryz.zeroValue3
 t4:=Tryz.underlying4
 a4:=Tryz.isAgg4
 z4:=Tryz.sizeOf4
 v4:=Tryz.zeroValue4
 t5:=Tryz.underlying5
 a5:=Tryz.isAgg5
 z5:=Tryz.sizeOf5
 v5:=Tryz.zeroValue5
 t9:=Tryz.underlying9
 a9:=Tryz.isAgg9
 z9:=Tryz.sizeOf9
 v9:=Tryz.zeroValue9
 t28:=Tryz.underlying45
 a28:=Tryz.isAgg45
 z28:=Tryz.sizeOf45
 v28:=Tryz.zeroValue45
 t46:=Tryz.underlying144
 a46:=Tryz.isAgg144
 z46:=Tryz.sizeOf144
 v46:=Tryz.zeroValue144
 t51:=Tryz.underlying202
 a51:=Tryz.isAgg202
 z51:=Tryz.sizeOf202
 v51:=Tryz.zeroValue202
 t53:=Tryz.underlying204
 a53:=Tryz.isAgg204
 z53:=Tryz.sizeOf204
 v53:=Tryz.zeroValue204
 t131:=Tryz.underlying154
 a131:=Tryz.isAgg154
 z131:=Tryz.sizeOf154
 v131:=Tryz.zeroValue154
 t182:=Tryz.underlying195
 a182:=Tryz.isAgg195
 z182:=Tryz.sizeOf195
 v182:=Tryz.zeroValue195
 t183:=Tryz.underlying196
 a183:=Tryz.isAgg196
 z183:=Tryz.sizeOf196
 v183:=Tryz.zeroValue196
 t218:=Tryz.underlying234
 a218:=Tryz.isAgg234
 z218:=Tryz.sizeOf234
 v218:=Tryz.zeroValue234
 t222:=Tryz.underlying238
 a222:=Tryz.isAgg238
 z222:=Tryz.sizeOf238
 v222:=Tryz.zeroValue238
 t228:=Tryz.underlying265
 a228:=Tryz.isAgg265
 z228:=Tryz.sizeOf265
 v228:=Tryz.zeroValue265
 t229:=Tryz.underlying266
 a229:=Tryz.isAgg266
 z229:=Tryz.sizeOf266
 v229:=Tryz.zeroValue266
structure Cmp{α:Type}(P:Program)(f:α->AV)(K:α->α->Int)(G:α->Prop)(g:Nat)(caps:List AV):Prop where
 cells:∀x,(f x).cells=[f x]
 one:∀x,(f x).one=true
 dat:∀x,Dat (f x)
 dcaps:∀x∈caps,Dat x
 run:∀x y,G x->G y->Go.Abs.Pure P g (f x::f y::caps) (.int .i64 (K x y))
 ord:Ord K
theorem gk{α:Type}{f:α->AV}{l:List α}{k:Nat}{x:α}(h:k<l.length):cI (l.map f) k [f x]=(l.set k x).map f:=by
 simp only[cI,List.map_set,ig,ss,dt];rw[LX,if_pos (by simpa using h)];simp
theorem jg(H:Hp)(b:Nat)(x y:List AV):av (av H b x) b y=av H b y:=by
 funext i;unfold av;split<;>rfl
structure PS(H H1:Hp)(nx n1 b:Nat)(cs:List AV):Prop where
 at_:H1 b=some cs
 fr:∀i,i<nx->i≠b->H1 i=H i
 le:nx<=n1
def _root_.List.c3{α:Type}(l:List α)(f:α->AV):List AV:=l.flatMap λx=>(f x).cells
structure Cmp3{α:Type}(P:Program)(f:α->AV)(K:α->α->Int)(G:α->Prop)(g:Nat)(caps:List AV):Prop where
 len:∀x,(f x).cells.length=3
 agg:∀x,AV.agg (f x).cells=f x
 ones:∀x,AV.ones (f x).cells=true
 dat:∀x,Dat (f x)
 dcaps:∀x∈caps,Dat x
 run:∀x y,G x->G y->Go.Abs.Pure P g (f x::f y::caps) (.int .i64 (K x y))
 ord:Ord K
theorem Cz{α:Type}{f:α->AV}(h:∀x,(f x).cells.length=3)(M:List α):(M.c3 f).length=M.length*3:=kY h M
def _root_.List.c8{α:Type}(l:List α)(f:α->AV):List AV:=l.flatMap λx=>(f x).cells
structure Cmp8{α:Type}(P:Program)(f:α->AV)(K:α->α->Int)(G:α->Prop)(g:Nat)(caps:List AV):Prop where
 len:∀x,(f x).cells.length=8
 agg:∀x,AV.agg (f x).cells=f x
 ones:∀x,AV.ones (f x).cells=true
 dat:∀x,Dat (f x)
 dcaps:∀x∈caps,Dat x
 run:∀x y,G x->G y->Go.Abs.Pure P g (f x::f y::caps) (.int .i64 (K x y))
 ord:Ord K
theorem LJ{α:Type}{f:α->AV}(h:∀x,(f x).cells.length=8)(M:List α):(M.c8 f).length=M.length*8:=kY h M
def Ny:AV->Option AV
 |.ptr b n o=>some (.ptr b n o)
 |.iptr c o=>some (.iptr c o)
 |.func f c=>some (.func f c)
 |_=>none
theorem SV3:(∀ (T:Tm) (H:Hp) (x:Opd),bv T H (.nilck x)=Ny (ov T x))∧(∀ b n o:Nat,Ny (.ptr b n o)=some (.ptr b n o)):=⟨fun T H x=>by
 simp only[bv];cases ov T x<;>rfl,λ_ _ _=>rfl⟩
theorem yM{H:Hp}{nx b:Nat}{cs:List AV}:PS H (av H b cs) nx nx b cs:=⟨ae,λ_ _ h=>ab h,bc _⟩
section
variable{α:Type}[Inhabited α]{f:α->AV}{K:α->α->Int}{G:α->Prop}{g:Nat}{caps:List AV}
theorem IZ(hc:Cmp3 Tryz.prog f K G g caps){L:List α}{H:Hp}{b nx n:Nat}(hH:H b=some (L.c3 f))(hbx:b<nx)(hn:L.length=n)(hn0:0<n)(hG:∀x∈L,G x)(hn2:n<=1000000000):
    Abs.Fn Tryz.prog 90 [.msl b (n*3) 3 0 n,.func g caps] H nx λr H' nx'=>∃L',PS H H' nx nx' b (L'.c3 f)/\L'.Perm L/\lG K 0 n L':=
 Abs.Fn.mono (KY (sz:=3) RP Tryz.isAgg79 Tryz.sizeOf79 (by omega) hc.len hc.agg hc.dat hc.dcaps hc.run hc.ord (by kernel_rfl) (hJ (hc.run _ _ (hG _ (ao (by omega:0<L.length))) (hG _ (ao (by omega:0<L.length)))).1) hH hbx hn hn0 hG hn2) λ_ _ _ ⟨L',h1,h2,h3,h4⟩=>⟨L',by rw[h1,h2];exact yM,h3,h4⟩
theorem Js(hc:Cmp8 Tryz.prog f K G g caps){L:List α}{H:Hp}{b nx n:Nat}(hH:H b=some (L.c8 f))(hbx:b<nx)(hn:L.length=n)(hn0:0<n)(hG:∀x∈L,G x)(hn2:n<=1000000000):
    Abs.Fn Tryz.prog 145 [.msl b (n*8) 8 0 n,.func g caps] H nx λr H' nx'=>∃L',PS H H' nx nx' b (L'.c8 f)/\L'.Perm L/\lG K 0 n L':=
 Abs.Fn.mono (KY (sz:=8) RL Tryz.isAgg98 Tryz.sizeOf98 (by omega) hc.len hc.agg hc.dat hc.dcaps hc.run hc.ord (by kernel_rfl) (hJ (hc.run _ _ (hG _ (ao (by omega:0<L.length))) (hG _ (ao (by omega:0<L.length)))).1) hH hbx hn hn0 hG hn2) λ_ _ _ ⟨L',h1,h2,h3,h4⟩=>⟨L',by rw[h1,h2];exact yM,h3,h4⟩
theorem Dh(hc:Cmp Tryz.prog f K G g caps){L:List α}{H:Hp}{b nx n:Nat}(hH:H b=some (L.map f))(hbx:b<nx)(hn:L.length=n)(hn0:0<n)(hG:∀x∈L,G x)(hn2:n<=1000000000):
    Abs.Fn Tryz.prog 115 [.msl b n 1 0 n,.func g caps] H nx λr H' nx'=>∃L',PS H H' nx nx' b (L'.map f)/\L'.Perm L/\lG K 0 n L':=
 Abs.Fn.mono (OZ Pa hc.dat hc.dcaps hc.run hc.ord (by kernel_rfl) (hJ (hc.run _ _ (hG _ (ao (by omega:0<L.length))) (hG _ (ao (by omega:0<L.length)))).1) hH hbx hn hn0 hG hn2) λ_ _ _ ⟨L',h1,h2,h3,h4⟩=>⟨L',by rw[h1,h2];exact yM,h3,h4⟩
theorem JI{H:Hp}{nx:Nat}:Abs.Fn Tryz.prog 115 [.esl,.func g caps] H nx λr H' nx'=>nx'=nx/\H'=H:=by
 refine⟨by kernel_rfl,λE w vs hE hh hf hv=>?_⟩;obtain⟨hvl,hvr⟩:=hv
 match vs,hvl,hvr with
 |[u0,u1],_,hvr=>
 obtain⟨p,cap,rfl⟩:∃p cap,u0=.slice p 0 cap:=by
  cases hvr 0 _ _ rfl rfl with
  |eslnil=>exact⟨none,0,rfl⟩
  |esl a=>exact⟨some a,0,rfl⟩
 refine(Go.Proofs.AnyF.slices_SortFunc_none (P:=Tryz.prog) (ρ:=Ox) {Pa with} p cap u1 w).mono ?_;rintro e w' ⟨rfl,rfl⟩;exact⟨.tuple #[],E,.tup [],H,nx,rfl,Ext.refl _ _,hE,hh,hf,.tup [] [] rfl (λi x y hx=>by simp at hx),rfl,rfl⟩
end
theorem J4{L:List Int}{H:Hp}{b nx n:Nat}(hH:H b=some (L.map λx=>.int .i64 x))(hbx:b<nx)(hn:L.length=n)(hn0:0<n)(hn2:n<=1000000000):
    Abs.Fn Tryz.prog 32 [.msl b n 1 0 n] H nx λr H' nx'=>∃L':List Int,PS H H' nx nx' b (L'.map λx=>.int .i64 x)/\L'.Perm L/\L'.Pairwise (· <= ·):=
 Abs.Fn.mono (Jv RC (by kernel_rfl) hH hbx hn hn0 hn2) λ_ _ _ ⟨L',h1,h2,h3,h4⟩=>⟨L',by rw[h1,h2];exact yM,h3,h4⟩
theorem bZ{α:Type}[Inhabited α]{l:List α}{k:Nat}(h:k<l.length):l.take (k+1)=l.take k++[l.getD k default]:=by
 rw[List.take_add_one];simp[List.getD,h]
theorem pr{H:Hp}{d:Nat}{x:AV}:ee 1 (av H d [x]) (.msl d 1 1 0 1)=some (1,[x]):=fZ (n:=1) (len:=1) (off:=0) (cs:=[x]) ae rfl (by simp)
theorem D6{H:Hp}{sz:Nat}{s:AV}{elems:List AV}(h:Row H sz s (elems.flatMap AV.cells))(hc:∀y∈elems,y.cells.length=sz)(hz:0<sz)(hd:∀y∈elems,∀c∈y.cells,SnapF H c c):SnapF H s (.sl sz elems):=by
 obtain⟨f1,f2⟩:=eV elems hc;generalize he:elems.flatMap AV.cells=cs at h;cases h with
 |nil=>
  have:elems.length*sz=0:=by rw[<-f1,he];rfl
  have:elems=[]:=fP.1 (by
   rcases Nat.mul_eq_zero.1 this with h|h
   ·exact h
   ·omega)
  subst this;exact .eslsl sz
 |box b len cs hb hl=>
  have hlen:elems.length=len:=Nat.eq_of_mul_eq_mul_right hz (by rw[<-f1,he,hl]);refine .msl b (len*sz) sz 0 len cs elems hb hl (by omega) hlen hc (λi j y a c hy hc' ha=>?_);have hj:j<sz:=by rw[<-hc y (ir hy)];exact(bH.1 hc').1
  have key:∀(l:List AV)(i j:Nat)(y c:AV),(∀z∈l,z.cells.length=sz)->l[i]?=some y->y.cells[j]?=some c->j<sz->(l.flatMap AV.cells)[i*sz+j]?=some c:=by
   intro l
   induction l with
   |nil=>intro i j y c _ h;simp at h
   |cons x l ih=>
    intro i j y c hl hy hc hj;rw[lj];cases i with
    |zero=>
     simp at hy;subst hy;rw[nA,dt,gG (by rw[hl x (by simp)];exact hj)];exact hc
    |succ i=>
     rw[iA (by rw[hl x (by simp),d8];omega),hl x (by simp)];have:=ih i j y c (λz hz=>hl z (by simp[hz])) (by simpa using hy) hc hj;rw[<-this];congr 1;rw[d8];omega
  have:=key elems i j y c hc hy hc' hj;rw[he,<-dt (i*sz)] at this;rw[this] at ha;cases ha;exact hd y (ir hy) a (ir hc')
theorem n8{H:Hp}{t x x':AV}{cs c:List AV}{nb:Nat}(hrow:Row H 1 t (cs++[x]))(hx:H nb=some c)(hs:Snap (only nb c) x x')(hne:bk t≠some nb):∃H',Fz (only nb c) H H'/\Row H' 1 t (cs++[x'])/\∀y,y≠nb->bk t≠some y->H' y=H y:=by
 generalize hcs:cs++[x]=ds at hrow;cases hrow with
 |nil=>exact absurd (congrArg List.length hcs) (by simp)
 |box b len ds g1 g2=>
  have hb:b≠nb:=λe=>hne (by rw[e];rfl);refine⟨av (dv H nb) b (cs++[x']),⟨λy d h=>?_,λy d h=>?_⟩,Row.box b len _ ae (by rw[<-g2,<-hcs];simp),λy h1 h2=>?_⟩
  ·unfold only at h;split at h
   ·rename_i e;rw[e,hx];exact h
   ·cases h
  ·by_cases e:y=b
   ·subst e;rw[ae] at h;cases h;exact⟨ds,g1,if_neg hb,by rw[<-hcs];exact d6.snoc hs⟩
   ·rw[ab e] at h;by_cases e2:y=nb
    ·rw[e2] at h;exact absurd h (by simp[dv])
    ·rw[bQ e2] at h;exact⟨d,h,if_neg e2,d6.refl _ _⟩
  ·rw[ab (λe=>h2 (by rw[e];rfl)),bQ h1]
structure RndV where
 n:Int
 h0:Int
 h1:Int
 h2:Int
 h3:Int
 h4:Int
 f:Int
 deriving DecidableEq,Inhabited
def RndV.hs(r:RndV):List Int:=[r.h0,r.h1,r.h2,r.h3,r.h4]
def RndV.ints(r:RndV):List Int:=[r.n,r.h0,r.h1,r.h2,r.h3,r.h4,r.f]
def RndV.gc(r:RndV):List AV:=[.int .i64 r.n,.int .i64 r.h0,.int .i64 r.h1,.int .i64 r.h2,.int .i64 r.h3,.int .i64 r.h4]
def RndV.cs(r:RndV):List AV:=[.int .i64 r.n,.int .i64 r.h0,.int .i64 r.h1,.int .i64 r.h2,.int .i64 r.h3,.int .i64 r.h4,.int .i64 r.f]
structure MvV where
 r:RndV
 to:Int
 deriving DecidableEq,Inhabited
def MvV.cs(m:MvV):List AV:=[.int .i64 m.r.n,.int .i64 m.r.h0,.int .i64 m.r.h1,.int .i64 m.r.h2,.int .i64 m.r.h3,.int .i64 m.r.h4,.int .i64 m.r.f,.int .i64 m.to]
structure AdvV where
 n:Int
 states:List (List MvV)
 deriving DecidableEq,Inhabited
structure PrbV where
 task:TaskV
 adv:AdvV
 rounds:Int
 deriving DecidableEq,Inhabited
structure VwV where
 proc:Int
 round:Int
 input:Int
 h0:Int
 h1:Int
 h2:Int
 h3:Int
 h4:Int
 deriving DecidableEq,Inhabited
def VwV.cs(v:VwV):List AV:=[.int .i64 v.proc,.int .i64 v.round,.int .i64 v.input,.int .i64 v.h0,.int .i64 v.h1,.int .i64 v.h2,.int .i64 v.h3,.int .i64 v.h4]
structure ExV where
 case:Int
 word:List RndV
 views:List (List Int)
 deriving DecidableEq,Inhabited
structure SysV where
 prob:PrbV
 tn:Int
 views:List VwV
 execs:List ExV
 deriving DecidableEq,Inhabited
def jQ(r:RndV):AV:=.agg r.gc
def cK(r:RndV):AV:=.agg r.cs
def dB(m:MvV):AV:=.agg m.cs
def bB(l:List RndV):AV:=lf 7 cK l
def d9(l:List (List RndV)):AV:=lf 1 bB l
def bD(l:List MvV):AV:=lf 8 dB l
def aQ(l:List (List MvV)):AV:=lf 1 bD l
def AdvV.cs(a:AdvV):List AV:=[.int .i64 a.n,aQ a.states]
def ca(a:AdvV):AV:=.agg a.cs
def PrbV.cs(p:PrbV):List AV:=[.int .i64 p.task.n,.int .i64 p.task.ins,.int .i64 p.task.outs,bw p.task.cases,.int .i64 p.adv.n,aQ p.adv.states,.int .i64 p.rounds]
def cf(p:PrbV):AV:=.agg p.cs
def dN(v:VwV):AV:=.agg v.cs
def cW(l:List VwV):AV:=lf 8 dN l
def ExV.cs(x:ExV):List AV:=[.int .i64 x.case,bB x.word,ay x.views]
def iO(x:ExV):AV:=.agg x.cs
def fT(l:List ExV):AV:=lf 3 iO l
def SysV.cs(s:SysV):List AV:=[.int .i64 s.prob.task.n,.int .i64 s.prob.task.ins,.int .i64 s.prob.task.outs,bw s.prob.task.cases,.int .i64 s.prob.adv.n,aQ s.prob.adv.states,.int .i64 s.prob.rounds,.int .i64 s.tn,cW s.views,fT s.execs]
def fE(s:SysV):AV:=.agg s.cs
theorem yE(r:RndV):∀x∈r.cs,Dat x:=DatL.cons .int (DatL.cons .int (DatL.cons .int (DatL.cons .int (DatL.cons .int (DatL.cons .int (DatL.cons .int DatL.nil))))))
theorem uO(r:RndV):∀x∈r.gc,Dat x:=DatL.cons .int (DatL.cons .int (DatL.cons .int (DatL.cons .int (DatL.cons .int (DatL.cons .int DatL.nil)))))
theorem yY(r:MvV):∀x∈r.cs,Dat x:=DatL.cons .int (DatL.cons .int (DatL.cons .int (DatL.cons .int (DatL.cons .int (DatL.cons .int (DatL.cons .int (DatL.cons .int DatL.nil)))))))
theorem Cp(r:VwV):∀x∈r.cs,Dat x:=DatL.cons .int (DatL.cons .int (DatL.cons .int (DatL.cons .int (DatL.cons .int (DatL.cons .int (DatL.cons .int (DatL.cons .int DatL.nil)))))))
theorem iw(r:RndV):Dat (jQ r):=Dat.agg (uO r)
theorem fY(r:RndV):Dat (cK r):=Dat.agg (yE r)
theorem rl(m:MvV):Dat (dB m):=Dat.agg (yY m)
theorem kD(l:List RndV):Dat (bB l):=nH (λx _ c hc=>yE x c hc)
theorem vL(l:List (List RndV)):Dat (d9 l):=xV (λ_=>rfl) kD
theorem kI(l:List MvV):Dat (bD l):=nH (λx _ c hc=>yY x c hc)
theorem fL(l:List (List MvV)):Dat (aQ l):=xV (λ_=>rfl) kI
theorem KD(a:AdvV):∀x∈a.cs,Dat x:=DatL.cons .int (DatL.cons (fL _) DatL.nil)
theorem bI(a:AdvV):Dat (ca a):=Dat.agg (KD a)
theorem Dw(p:PrbV):∀x∈p.cs,Dat x:=DatL.cons .int (DatL.cons .int (DatL.cons .int (DatL.cons (ib _) (DatL.cons .int (DatL.cons (fL _) (DatL.cons .int DatL.nil))))))
theorem e9(p:PrbV):Dat (cf p):=Dat.agg (Dw p)
theorem nF(v:VwV):Dat (dN v):=Dat.agg (Cp v)
theorem kG(l:List VwV):Dat (cW l):=nH (λx _ c hc=>Cp x c hc)
theorem B6(x:ExV):∀c∈x.cs,Dat c:=DatL.cons .int (DatL.cons (kD _) (DatL.cons (bS _) DatL.nil))
theorem ul(x:ExV):Dat (iO x):=Dat.agg (B6 x)
theorem xq(l:List ExV):Dat (fT l):=nH (λx _ c hc=>B6 x c hc)
theorem Kf(s:SysV):∀x∈s.cs,Dat x:=DatL.cons .int (DatL.cons .int (DatL.cons .int (DatL.cons (ib _) (DatL.cons .int (DatL.cons (fL _) (DatL.cons .int (DatL.cons .int (DatL.cons (kG _) (DatL.cons (xq _) DatL.nil)))))))))
theorem gU(s:SysV):Dat (fE s):=Dat.agg (Kf s)
instance datI_encG{r:RndV}:DatI (jQ r):=⟨iw r⟩
instance datI_encR{r:RndV}:DatI (cK r):=⟨fY r⟩
instance datI_encMv{r:MvV}:DatI (dB r):=⟨rl r⟩
instance datI_encRs{l:List RndV}:DatI (bB l):=⟨kD l⟩
instance datI_encRss{l:List (List RndV)}:DatI (d9 l):=⟨vL l⟩
instance datI_encMs{l:List MvV}:DatI (bD l):=⟨kI l⟩
instance datI_encMss{l:List (List MvV)}:DatI (aQ l):=⟨fL l⟩
instance datI_encA{a:AdvV}:DatI (ca a):=⟨bI a⟩
instance datI_encP{p:PrbV}:DatI (cf p):=⟨e9 p⟩
instance datI_encW{v:VwV}:DatI (dN v):=⟨nF v⟩
instance datI_encWs{l:List VwV}:DatI (cW l):=⟨kG l⟩
instance datI_encE{x:ExV}:DatI (iO x):=⟨ul x⟩
instance datI_encEs{l:List ExV}:DatI (fT l):=⟨xq l⟩
instance datI_encS{s:SysV}:DatI (fE s):=⟨gU s⟩
theorem PE:(∀l:List RndV,(bB l).cells=[bB l])/\(∀l,(d9 l).cells=[d9 l])/\(∀l:List MvV,(bD l).cells=[bD l])/\(∀l,(aQ l).cells=[aQ l])/\(∀l:List VwV,(cW l).cells=[cW l])/\(∀l:List ExV,(fT l).cells=[fT l])/\(∀l:List CaseV,(bw l).cells=[bw l])/\
    (∀l:List RndV,(bB l).one=true)/\(∀l,(d9 l).one=true)/\(∀l:List MvV,(bD l).one=true)/\(∀l,(aQ l).one=true)/\(∀l:List VwV,(cW l).one=true)/\(∀l:List ExV,(fT l).one=true)/\(∀l:List CaseV,(bw l).one=true)/\
    (∀l:List RndV,eW (bB l)=some (.int .i64 l.length))/\(∀l,eW (d9 l)=some (.int .i64 l.length))/\(∀l:List MvV,eW (bD l)=some (.int .i64 l.length))/\(∀l,eW (aQ l)=some (.int .i64 l.length))/\(∀l:List VwV,eW (cW l)=some (.int .i64 l.length))/\(∀l:List ExV,eW (fT l)=some (.int .i64 l.length))/\(∀l:List CaseV,eW (bw l)=some (.int .i64 l.length))/\
    (∀r:RndV,(cK r).cells=r.cs)/\(∀r:RndV,(jQ r).cells=r.gc)/\(∀m:MvV,(dB m).cells=m.cs)/\(∀a:AdvV,(ca a).cells=a.cs)/\(∀p:PrbV,(cf p).cells=p.cs)/\(∀v:VwV,(dN v).cells=v.cs)/\(∀x:ExV,(iO x).cells=x.cs)/\(∀s:SysV,(fE s).cells=s.cs):=
 ⟨λ_=>rfl,λ_=>rfl,λ_=>rfl,λ_=>rfl,λ_=>rfl,λ_=>rfl,λ_=>rfl,λ_=>rfl,λ_=>rfl,λ_=>rfl,λ_=>rfl,λ_=>rfl,λ_=>rfl,λ_=>rfl,λ_=>jw,λ_=>jw,λ_=>jw,λ_=>jw,λ_=>jw,λ_=>jw,λl=>aJ l,λ_=>rfl,λ_=>rfl,λ_=>rfl,λ_=>rfl,λ_=>rfl,λ_=>rfl,λ_=>rfl,λ_=>rfl⟩
theorem PC:(∀r:RndV,r.cs=[.int .i64 r.n,.int .i64 r.h0,.int .i64 r.h1,.int .i64 r.h2,.int .i64 r.h3,.int .i64 r.h4,.int .i64 r.f])/\(∀r:RndV,r.gc=[.int .i64 r.n,.int .i64 r.h0,.int .i64 r.h1,.int .i64 r.h2,.int .i64 r.h3,.int .i64 r.h4])/\
    (∀m:MvV,m.cs=[.int .i64 m.r.n,.int .i64 m.r.h0,.int .i64 m.r.h1,.int .i64 m.r.h2,.int .i64 m.r.h3,.int .i64 m.r.h4,.int .i64 m.r.f,.int .i64 m.to])/\
    (∀a:AdvV,a.cs=[.int .i64 a.n,aQ a.states])/\(∀p:PrbV,p.cs=[.int .i64 p.task.n,.int .i64 p.task.ins,.int .i64 p.task.outs,bw p.task.cases,.int .i64 p.adv.n,aQ p.adv.states,.int .i64 p.rounds])/\
    (∀v:VwV,v.cs=[.int .i64 v.proc,.int .i64 v.round,.int .i64 v.input,.int .i64 v.h0,.int .i64 v.h1,.int .i64 v.h2,.int .i64 v.h3,.int .i64 v.h4])/\(∀x:ExV,x.cs=[.int .i64 x.case,bB x.word,ay x.views])/\
    (∀s:SysV,s.cs=[.int .i64 s.prob.task.n,.int .i64 s.prob.task.ins,.int .i64 s.prob.task.outs,bw s.prob.task.cases,.int .i64 s.prob.adv.n,aQ s.prob.adv.states,.int .i64 s.prob.rounds,.int .i64 s.tn,cW s.views,fT s.execs]):=
 ⟨λ_=>rfl,λ_=>rfl,λ_=>rfl,λ_=>rfl,λ_=>rfl,λ_=>rfl,λ_=>rfl,λ_=>rfl⟩
theorem ixR{l:List RndV}{k:Nat}(h:k<l.length):eo 7 (bB l) (.int .i64 (k:Int))=some (.iptr (l.getD k default).cs 0):=by
 unfold bB;rw[jn,if_pos ⟨by omega,by omega⟩,c9];rfl
theorem Mq{l:List (List RndV)}{k:Nat}(h:k<l.length):eo 1 (d9 l) (.int .i64 (k:Int))=some (.iptr [bB (l.getD k default)] 0):=by
 unfold d9;rw[jn,if_pos ⟨by omega,by omega⟩,c9];rfl
theorem ixM{l:List MvV}{k:Nat}(h:k<l.length):eo 8 (bD l) (.int .i64 (k:Int))=some (.iptr (l.getD k default).cs 0):=by
 unfold bD;rw[jn,if_pos ⟨by omega,by omega⟩,c9];rfl
theorem tz{l:List (List MvV)}{k:Nat}(h:k<l.length):eo 1 (aQ l) (.int .i64 (k:Int))=some (.iptr [bD (l.getD k default)] 0):=by
 unfold aQ;rw[jn,if_pos ⟨by omega,by omega⟩,c9];rfl
theorem K3{l:List (List MvV)}{n:Int}(h:0<=n/\n<l.length):eo 1 (aQ l) (.int .i64 n)=some (.iptr [bD (l.getD n.toNat default)] 0):=by
 unfold aQ;rw[jn,if_pos h];rfl
theorem ixW{l:List VwV}{k:Nat}(h:k<l.length):eo 8 (cW l) (.int .i64 (k:Int))=some (.iptr (l.getD k default).cs 0):=by
 unfold cW;rw[jn,if_pos ⟨by omega,by omega⟩,c9];rfl
theorem ixE{l:List ExV}{k:Nat}(h:k<l.length):eo 3 (fT l) (.int .i64 (k:Int))=some (.iptr (l.getD k default).cs 0):=by
 unfold fT;rw[jn,if_pos ⟨by omega,by omega⟩,c9];rfl
def AdvV.st(a:AdvV)(s:Nat):List MvV:=a.states.getD s []
def bf(a:AdvV):Nat->Nat->List (List RndV)
 |0,_=>[[]]
 |k+1,s=>(a.st s).flatMap λm=>(bf a k m.to.toNat).map λw=>m.r::w
def te(lim:Int)(c:List Int)(l:List MvV):Int:=l.foldl (λn m=>min (n+c.getD m.to.toNat 0) (lim+1)) 0
def gI(a:AdvV)(lim:Int):Nat->List Int
 |0=>a.states.map λ_=>1
 |k+1=>a.states.map λl=>te lim (gI a lim k) l
def lP(a:AdvV)(k:Nat)(lim:Int):Int:=(gI a lim k).getD 0 0
def kX(vs:List VwV)(v:VwV):List VwV:=if v∈vs then vs else vs++[v]
def gr(f:Nat->VwV):Nat->List VwV->List VwV
 |0,vs=>vs
 |q+1,vs=>kX (gr f q vs) (f q)
def fh(f:Nat->VwV):Nat->List VwV->List Int
 |0,_=>[]
 |q+1,vs=>fh f q vs++[(((gr f (q+1) vs).idxOf (f q):Nat):Int)]
def hasFl(f:Int)(p:Nat):Bool:=decide (f/((2^p:Nat):Int)%2=1)
def hrd(set:Int)(now:List Int)(q:Nat):Int:=if q<now.length/\hasFl set q=true then now.getD q 0 else-1
def pW(inp:List Int)(q:Nat):VwV:=⟨q,0,inp.getD q 0,-1,-1,-1,-1,-1⟩
def nk(r:RndV)(k:Nat)(now:List Int)(q:Nat):VwV:=⟨q,k,0,hrd (r.hs.getD q 0) now 0,hrd (r.hs.getD q 0) now 1,hrd (r.hs.getD q 0) now 2,hrd (r.hs.getD q 0) now 3,hrd (r.hs.getD q 0) now 4⟩
def GK(n:Nat)(inp:List Int)(w:List RndV)(vs:List VwV):Nat->List VwV×List (List Int)
 |0=>(gr (pW inp) n vs,[fh (pW inp) n vs])
 |k+1=>
  let s:=GK n inp w vs k
  let f:=nk (w.getD k default) (k+1) (s.2.getD k [])
  (gr f n s.1,s.2++[fh f n s.1])
structure BldS where
 views:List VwV
 execs:List ExV
def qB(p:PrbV)(c:Nat)(s:BldS)(w:List RndV):BldS:=
 let q:=GK p.task.n.toNat (p.task.cases.getD c default).inp w s.views p.rounds.toNat
 ⟨q.1,s.execs++[⟨c,w,q.2⟩]⟩
def C0(p:PrbV)(s:BldS)(c:Nat):BldS:=(bf p.adv p.rounds.toNat 0).foldl (qB p c) s
def bldS(p:PrbV)(c:Nat):BldS:=(List.range c).foldl (C0 p) ⟨[],[]⟩
def aZ(p:PrbV):SysV:=⟨p,p.task.n,(bldS p p.task.cases.length).views,(bldS p p.task.cases.length).execs⟩
def CJ(a:AdvV):Prop:=∀l∈a.states,∀m∈l,0<=m.to/\m.to<a.states.length
theorem iU{α:Type}[Inhabited α]{l:List (List α)}{s:Nat}(h:s<l.length):l.getD s []∈l:=by
 simp[List.getD,h]
theorem Bi{L:Int}{c:List Int}{w:MvV->Nat}(hL:1<=L):∀(l:List MvV)(n0:Nat),(∀m∈l,c.getD m.to.toNat 0=min (w m:Int) L)->
    l.foldl (λn m=>min (n+c.getD m.to.toNat 0) L) (min (n0:Int) L)=min ((n0+(l.map w).sum:Nat):Int) L
 |[],n0,_=>by simp
 |m::l,n0,h=>by
  have h1:=h m (gP ..);have e:min (min (n0:Int) L+min (w m:Int) L) L=min ((n0+w m:Nat):Int) L:=by omega
  rw[List.foldl_cons,h1,e,Bi hL l (n0+w m) λm hm=>h m (oQ _ hm),f9,List.sum_cons]
  congr 2;omega
theorem xJ{a:AdvV}{k s:Nat}:(bf a (k+1) s).length=((a.st s).map λm=>(bf a k m.to.toNat).length).sum:=by
 rw[bf,List.length_flatMap]
 congr 1
 refine pz λm _=>?_;rw[bi]
theorem ug{a:AdvV}{lim:Int}:∀k,(gI a lim k).length=a.states.length
 |0=>by simp[gI]
 |k+1=>by simp[gI]
theorem Dv{a:AdvV}(h:CJ a){lim:Int}(hL:0<=lim):∀(k s:Nat),s<a.states.length->(gI a lim k).getD s 0=min ((bf a k s).length:Int) (lim+1)
 |0,s,hs=>by
  simp only[gI,bf,ng,ko,mB hs,ny,tC,List.length_singleton];omega
 |k+1,s,hs=>by
  have e:(gI a lim (k+1)).getD s 0=te lim (gI a lim k) (a.st s):=by
   unfold AdvV.st;simp only[gI,ng,ko,mB hs,ny,tC]
  rw[e,xJ]
  have:=Bi (L:=lim+1) (c:=gI a lim k) (w:=λm=>(bf a k m.to.toNat).length) (by omega) (a.st s) 0 λm hm=>by
   have:=h _ (iU hs) m hm;exact Dv h hL k _ (by omega)
  unfold te;rw[show min ((0:Nat):Int) (lim+1)=0 by omega] at this;rw[this,dt]
theorem tO{a:AdvV}(h:CJ a)(h0:0<a.states.length){lim:Int}(hL:0<=lim)(k:Nat):lP a k lim=min ((bf a k 0).length:Int) (lim+1):=Dv h hL k 0 h0
theorem ms{a:AdvV}:∀{k s:Nat}{w:List RndV},w∈bf a k s->w.length=k
 |0,s,w,h=>by rw[bf,gH] at h;rw[h];rfl
 |k+1,s,w,h=>by
  rw[bf,List.mem_flatMap] at h;obtain⟨m,_,h⟩:=h;obtain⟨v,hv,rfl⟩:=cE.1 h;rw[ig,ms hv]
theorem qN{a:AdvV}:∀{k s:Nat}{w:List RndV},w∈bf a k s->∀r∈w,∃l∈a.states,∃m∈l,m.r=r
 |0,s,w,h,r,hr=>by rw[bf,gH] at h;subst h;cases hr
 |k+1,s,w,h,r,hr=>by
  rw[bf,List.mem_flatMap] at h;obtain⟨m,hm,h⟩:=h;obtain⟨v,hv,rfl⟩:=cE.1 h;rcases gR.1 hr with rfl|hr
  ·unfold AdvV.st at hm;by_cases hs:s<a.states.length
   ·exact⟨_,iU hs,m,hm,rfl⟩
   ·rw[show a.states.getD s []=[] by simp[List.getD,show a.states.length<=s by omega]] at hm;cases hm
  ·exact qN hv r hr
theorem sB{a:AdvV}(h:CJ a)(hn:∀l∈a.states,l≠[]):∀(k s:Nat),s<a.states.length->bf a k s≠[]
 |0,s,_=>by simp[bf]
 |k+1,s,hs=>by
  rw[bf];have h1:a.st s∈a.states:=iU hs;cases e:a.st s with
  |nil=>exact absurd e (hn _ h1)
  |cons m l=>
   have:=h _ h1 m (by rw[e];exact gP ..);have:=sB h hn k m.to.toNat (by omega);rw[lj];intro q;rw[List.append_eq_nil_iff,List.map_eq_nil_iff] at q;exact this q.1
theorem Hx(vs:List VwV)(v:VwV):(kX vs v).length<=vs.length+1:=by
 unfold kX;split
 ·omega
 ·rw[cP];exact bc _
theorem mg(f:Nat->VwV):∀(q:Nat)(vs:List VwV),(gr f q vs).length<=vs.length+q
 |0,_=>bc _
 |q+1,vs=>by
  have:=Hx (gr f q vs) (f q);have:=mg f q vs;rw[gr];omega
theorem i6(f:Nat->VwV):∀(q:Nat)(vs:List VwV),(fh f q vs).length=q
 |0,_=>rfl
 |q+1,vs=>by rw[fh,cP,i6 f q vs];rfl
theorem IX:(∀(T:Tm)(H:Hp)(len sz:Nat)(x i:Opd),bv T H (.ixaA len sz x i)=nz (ov T i) λn=>if 0<=n/\n<len then jm (n.toNat*sz) (ov T x) else none)/\(∀(T:Tm)(H:Hp)(len sz:Nat)(x i:Opd),bv T H (.ixA1 len sz x i)=eD (ov T x) λcs=>nz (ov T i) λn=>if 0<=n/\n<len then cs[n.toNat*sz]? else none)/\
    (∀(k:IntKind)(n:Int)(f:Int->Option AV),nz (.int k n) f=f n)/\(∀(cs:List AV)(f:List AV->Option AV),eD (.agg cs) f=f cs):=⟨λ_ _ _ _ _ _=>rfl,λ_ _ _ _ _ _=>rfl,λ_ _ _=>rfl,λ_ _=>rfl⟩
theorem xk{a:Nat}:tx (a:Int)=((a%2:Nat):Int):=by
 have h:(BitVec.ofInt 64 (a:Int) &&& BitVec.ofInt 64 1).toNat=a%2:=by
  rw[BitVec.toNat_and];have e:(BitVec.ofInt 64 1).toNat=2^1-1:=rfl;rw[e,Nat.and_two_pow_sub_one_eq_mod];simp[BitVec.toNat_ofInt]
 unfold tx;rw[h,jy (by omega) (by omega)]
def pw(n:Int):Int:=((2^n.toNat:Nat):Int)
def mC(r:RndV)(p:Nat):Int:=if r.n<=p then(if r.hs.getD p 0=0 then 0 else 3) else if r.hs.getD p 0<0\/pw r.n-1<r.hs.getD p 0 then 2 else if hasFl (r.hs.getD p 0) p=true then 0 else 3
def j0(r:RndV):Int:=if r.n<1\/5<r.n then 2 else bU (mC r) 5
def GZ(n f:Int):Int:=if n<1\/5<n then 1 else if f<0\/pw n<=f then 2 else 0
def gu(r:RndV):Int:=if j0 r≠0 then j0 r else GZ r.n r.f
theorem rn{n:Int}{k:Nat}(h:n=k):pw n=((2^k:Nat):Int):=by subst h;rfl
theorem yS{n:Int}(h:n<=5):1<=pw n/\pw n<=32:=by
 unfold pw;have h1:2^n.toNat<=2^5:=Nat.pow_le_pow_right (by omega) (by omega);have h2:0<2^n.toNat:=Nat.pow_pos (by omega);omega
theorem mP(r:RndV){q:Nat}(h:q<5):([.int .i64 r.n,.int .i64 r.h0,.int .i64 r.h1,.int .i64 r.h2,.int .i64 r.h3,.int .i64 r.h4]:List AV)[1+q]?=some (.int .i64 (r.hs.getD q 0)):=by
 rcases(by omega:q=0\/q=1\/q=2\/q=3\/q=4) with rfl|rfl|rfl|rfl|rfl<;>rfl
theorem Hj(r:RndV){q:Nat}(h:q<5):([.int .i64 r.h0,.int .i64 r.h1,.int .i64 r.h2,.int .i64 r.h3,.int .i64 r.h4]:List AV)[q]?=some (.int .i64 (r.hs.getD q 0)):=by
 rcases(by omega:q=0\/q=1\/q=2\/q=3\/q=4) with rfl|rfl|rfl|rfl|rfl<;>rfl
def RndV.gi(r:RndV):List Int:=[r.n,r.h0,r.h1,r.h2,r.h3,r.h4]
theorem mj {r s:RndV}:r.ints=s.ints ↔ r=s:=⟨fun h=>by
 obtain⟨a,b,c,d,e,f,g⟩:=r;obtain⟨a',b',c',d',e',f',g'⟩:=s;simp only[RndV.ints,List.cons.injEq,and_true] at h;obtain⟨rfl,rfl,rfl,rfl,rfl,rfl,rfl⟩:=h;rfl,λh=>h▸rfl⟩
theorem tI(r:RndV):r.ints=r.gi++[r.f]:=rfl
theorem rJ:∀{l m:List Int}(a b:List Int),l.length=m.length->aD (l++a) (m++b)=if aD l m≠0 then aD l m else aD a b
 |[],[],a,b,_=>by simp[aD]
 |[],_::_,_,_,h=>by cases h
 |_::_,[],_,_,h=>by cases h
 |x::l,y::m,a,b,h=>by
  rw[List.cons_append,List.cons_append,aD,aD];split
  ·rfl
  ·split
   ·rfl
   ·exact rJ a b (by simpa using h)
theorem od:∀{l m:List Int}{q:Nat},q<l.length->q<m.length->(∀i,i<q->l.getD i 0=m.getD i 0)->l.getD q 0≠m.getD q 0->aD l m=if l.getD q 0<m.getD q 0 then-1 else 1
 |x::l,y::m,0,_,_,_,h=>by
  have h:x≠y:=h;show aD (x::l) (y::m)=if x<y then-1 else 1
  rw[aD];split
  ·rfl
  ·rw[if_pos (by omega)]
 |x::l,y::m,q+1,h1,h2,h3,h=>by
  have e:x=y:=h3 0 (by omega);subst e;rw[aD,if_neg (by omega),if_neg (by omega)];exact od (l:=l) (m:=m) (q:=q) (by simpa using h1) (by simpa using h2) (λi hi=>h3 (i+1) (by omega)) h
theorem zp:∀{l m:List Int},l.length=m.length->(∀i,i<l.length->l.getD i 0=m.getD i 0)->aD l m=0
 |[],[],_,_=>rfl
 |[],_::_,h,_=>by cases h
 |_::_,[],h,_=>by cases h
 |x::l,y::m,h,h2=>by
  have e:x=y:=h2 0 (by simp);subst e;rw[aD,if_neg (by omega),if_neg (by omega)];exact zp (by simpa using h) λi hi=>h2 (i+1) (by simpa using hi)
theorem mr:∀(l m:List Int),l.length=m.length->dU (List.replicate l.length .int) (l.map (AV.int .i64)) (m.map (AV.int .i64))=some (decide (l=m))
 |[],[],_=>by simp[dU]
 |[],_::_,h=>by cases h
 |_::_,[],h=>by cases h
 |x::l,y::m,h=>by
  have ih:=mr l m (by simpa using h);simp only[ig,List.replicate_succ,f9,dU,lw,if_true];by_cases e:x=y
  ·subst e;simp[ih]
  ·have:(x==y)=false:=by simpa using e
   rw[this];simp[e]
theorem EQ:(∀a b c d e f a' b' c' d' e' f':Int,j8 .eql [.int,.int,.int,.int,.int,.int] [.int .i64 a,.int .i64 b,.int .i64 c,.int .i64 d,.int .i64 e,.int .i64 f] [.int .i64 a',.int .i64 b',.int .i64 c',.int .i64 d',.int .i64 e',.int .i64 f']=some (.bool (decide ([a,b,c,d,e,f]=[a',b',c',d',e',f']))))/\
    (∀a b c d e f a' b' c' d' e' f':Int,j8 .neq [.int,.int,.int,.int,.int,.int] [.int .i64 a,.int .i64 b,.int .i64 c,.int .i64 d,.int .i64 e,.int .i64 f] [.int .i64 a',.int .i64 b',.int .i64 c',.int .i64 d',.int .i64 e',.int .i64 f']=some (.bool (!decide ([a,b,c,d,e,f]=[a',b',c',d',e',f']))))/\
    (∀a b c d e f g a' b' c' d' e' f' g':Int,j8 .eql [.int,.int,.int,.int,.int,.int,.int] [.int .i64 a,.int .i64 b,.int .i64 c,.int .i64 d,.int .i64 e,.int .i64 f,.int .i64 g] [.int .i64 a',.int .i64 b',.int .i64 c',.int .i64 d',.int .i64 e',.int .i64 f',.int .i64 g']=some (.bool (decide ([a,b,c,d,e,f,g]=[a',b',c',d',e',f',g']))))/\
    (∀a b c d e f g a' b' c' d' e' f' g':Int,j8 .neq [.int,.int,.int,.int,.int,.int,.int] [.int .i64 a,.int .i64 b,.int .i64 c,.int .i64 d,.int .i64 e,.int .i64 f,.int .i64 g] [.int .i64 a',.int .i64 b',.int .i64 c',.int .i64 d',.int .i64 e',.int .i64 f',.int .i64 g']=some (.bool (!decide ([a,b,c,d,e,f,g]=[a',b',c',d',e',f',g']))))/\
    (∀a b c d e f g h a' b' c' d' e' f' g' h':Int,j8 .eql [.int,.int,.int,.int,.int,.int,.int,.int] [.int .i64 a,.int .i64 b,.int .i64 c,.int .i64 d,.int .i64 e,.int .i64 f,.int .i64 g,.int .i64 h] [.int .i64 a',.int .i64 b',.int .i64 c',.int .i64 d',.int .i64 e',.int .i64 f',.int .i64 g',.int .i64 h']=some (.bool (decide ([a,b,c,d,e,f,g,h]=[a',b',c',d',e',f',g',h']))))/\
    (∀a b c d e f g h a' b' c' d' e' f' g' h':Int,j8 .neq [.int,.int,.int,.int,.int,.int,.int,.int] [.int .i64 a,.int .i64 b,.int .i64 c,.int .i64 d,.int .i64 e,.int .i64 f,.int .i64 g,.int .i64 h] [.int .i64 a',.int .i64 b',.int .i64 c',.int .i64 d',.int .i64 e',.int .i64 f',.int .i64 g',.int .i64 h']=some (.bool (!decide ([a,b,c,d,e,f,g,h]=[a',b',c',d',e',f',g',h'])))):=by
 have key:∀l m:List Int,l.length=m.length->j8 .eql (List.replicate l.length .int) (l.map (AV.int .i64)) (m.map (AV.int .i64))=some (.bool (decide (l=m)))/\j8 .neq (List.replicate l.length .int) (l.map (AV.int .i64)) (m.map (AV.int .i64))=some (.bool (!decide (l=m))):=λl m h=>by
  unfold j8;rw[mr l m h];exact⟨rfl,rfl⟩
 exact⟨λa b c d e f a' b' c' d' e' f'=>(key [a,b,c,d,e,f] [a',b',c',d',e',f'] rfl).1,λa b c d e f a' b' c' d' e' f'=>(key [a,b,c,d,e,f] [a',b',c',d',e',f'] rfl).2,λa b c d e f g a' b' c' d' e' f' g'=>(key [a,b,c,d,e,f,g] [a',b',c',d',e',f',g'] rfl).1,λa b c d e f g a' b' c' d' e' f' g'=>(key [a,b,c,d,e,f,g] [a',b',c',d',e',f',g'] rfl).2,λa b c d e f g h a' b' c' d' e' f' g' h'=>(key [a,b,c,d,e,f,g,h] [a',b',c',d',e',f',g',h'] rfl).1,λa b c d e f g h a' b' c' d' e' f' g' h'=>(key [a,b,c,d,e,f,g,h] [a',b',c',d',e',f',g',h'] rfl).2⟩
def dl(l:List (List MvV)):Nat:=(l.map List.length).sum
def nt(a:AdvV)(l:List MvV)(i:Nat):Int:=
 if gu (l.getD i default).r≠0 then gu (l.getD i default).r else if (l.getD i default).r.n≠a.n then 22
 else if 0<i/\0<=aD (l.getD (i-1) default).r.ints (l.getD i default).r.ints then 14 else if (l.getD i default).to<0\/(a.states.length:Int)<=(l.getD i default).to then 2 else 0
def fw(a:AdvV)(s:Nat):Int:=if (a.st s).length=0 then 19 else bU (nt a (a.st s)) (a.st s).length
def iZ(a b:Int):Bool:=(List.range 5).all λp=>!hasFl a p || hasFl b p
def oJ(a:AdvV)(m:MvV):Bool:=(a.st m.to.toNat).all λk=>iZ m.r.f k.r.f
def j7(a:AdvV):Bool:=a.states.all λl=>l.all (oJ a)
def tw(a:AdvV):Int:=if a.n<1\/5<a.n then 2 else if a.states.length<1\/256<a.states.length\/4096<dl a.states then 5 else if bU (fw a) a.states.length≠0 then bU (fw a) a.states.length else if j7 a=true then 0 else 21
def yn(a:AdvV):Bool:=decide (a.states.length<=8)&&decide (dl a.states<=40)
theorem sL{l:List (List MvV)}{k:Nat}(h:k<l.length):dl (l.take (k+1))=dl (l.take k)+(l.getD k default).length:=by
 unfold dl;rw[bZ h,dp,List.sum_append];simp
theorem xo:∀{l:List (List MvV)}{B:Nat},(∀x∈l,x.length<=B)->dl l<=l.length*B
 |[],_,_=>by simp[dl]
 |x::l,B,h=>by
  have h1:=xo (l:=l) λy hy=>h y (oQ _ hy);have h2:=h x (gP ..);unfold dl at h1 |-;rw[f9,List.sum_cons,ig,d8,Nat.one_mul];omega
theorem jB:∀{l:List (List MvV)}{x:List MvV},x∈l->x.length<=dl l
 |y::l,x,h=>by
  unfold dl;rw[f9,List.sum_cons];rcases gR.1 h with rfl|h
  ·omega
  ·have:=jB (l:=l) h;unfold dl at this;omega
structure ShA(a:AdvV):Prop where
 len:a.states.length<=8
 each:∀l∈a.states,l.length<=17592186044416
theorem Bm{f:Nat->Int}{n k:Nat}(h1:k<n)(h2:∀i,i<k->f i=0){c:Int}(h3:f k=c)(h4:c≠0):bU f n=c:=by
 rw[dD h1 h2 (by rw[h3];exact h4),h3]
theorem Ih{f:Nat->Int}{k:Nat}(h2:∀i,i<k->f i=0)(h3:f k=0):∀i,i<k+1->f i=0:=λi hi=>by
 rcases lL.1 hi with h|rfl
 ·exact h2 i h
 ·exact h3
theorem i7{r:RndV}(h:j0 r=0):1<=r.n/\r.n<=5/\∀p:Nat,p<5->(r.n<=p->r.hs.getD p 0=0)/\((p:Int)<r.n->0<=r.hs.getD p 0/\r.hs.getD p 0<pw r.n/\hasFl (r.hs.getD p 0) p=true):=by
 unfold j0 at h;by_cases hn:r.n<1\/5<r.n
 ·rw[if_pos hn] at h;exact absurd h (by decide)
 rw[if_neg hn] at h;refine⟨by omega,by omega,λp hp=>?_⟩;have hz:=dK h p hp;unfold mC at hz;constructor
 ·intro hle;rw[if_pos hle] at hz;by_cases h0:r.hs.getD p 0=0
  ·exact h0
  ·rw[if_neg h0] at hz;exact absurd hz (by decide)
 ·intro hlt;rw[if_neg (by omega)] at hz;by_cases hx:r.hs.getD p 0<0\/pw r.n-1<r.hs.getD p 0
  ·rw[if_pos hx] at hz;exact absurd hz (by decide)
  rw[if_neg hx] at hz;by_cases hb:hasFl (r.hs.getD p 0) p=true
  ·exact⟨by omega,by omega,hb⟩
  ·rw[if_neg hb] at hz;exact absurd hz (by decide)
theorem eX{r:RndV}(h:gu r=0):j0 r=0/\0<=r.f/\r.f<pw r.n:=by
 unfold gu at h;by_cases hg:j0 r=0
 ·rw[if_neg (by omega)] at h;obtain⟨h1,h2,-⟩:=i7 hg;unfold GZ at h;rw[if_neg (by omega)] at h;by_cases hx:r.f<0\/pw r.n<=r.f
  ·rw[if_pos hx] at h;exact absurd h (by decide)
  ·exact⟨hg,by omega,by omega⟩
 ·rw[if_pos hg] at h;exact absurd h hg
structure MvOk(a:AdvV)(m:MvV):Prop where
 r:gu m.r=0
 n:m.r.n=a.n
 to0:0<=m.to
 to1:m.to<a.states.length
theorem D2{a:AdvV}{l:List MvV}{i:Nat}(h:nt a l i=0):MvOk a (l.getD i default)/\(0<i->aD (l.getD (i-1) default).r.ints (l.getD i default).r.ints<0):=by
 unfold nt at h;split at h
 ·rename_i q;exact absurd h q
 split at h
 ·exact absurd h (by decide)
 split at h
 ·exact absurd h (by decide)
 split at h
 ·exact absurd h (by decide)
 exact⟨⟨by omega,by omega,by omega,by omega⟩,λq=>by omega⟩
structure AdvOk(a:AdvV):Prop where
 n1:1<=a.n
 n5:a.n<=5
 s1:1<=a.states.length
 s256:a.states.length<=256
 m4096:dl a.states<=4096
 ne:∀l∈a.states,l≠[]
 mv:∀l∈a.states,∀m∈l,MvOk a m
 asc:∀l∈a.states,∀i,0<i->i<l.length->aD (l.getD (i-1) default).r.ints (l.getD i default).r.ints<0
 grow:j7 a=true
theorem AP{a:AdvV}{s:Nat}(h:fw a s=0):a.st s≠[]/\(∀m∈a.st s,MvOk a m)/\∀i,0<i->i<(a.st s).length->aD ((a.st s).getD (i-1) default).r.ints ((a.st s).getD i default).r.ints<0:=by
 unfold fw at h;split at h
 ·exact absurd h (by decide)
 rename_i hl;refine⟨λq=>hl (by rw[q];rfl),λm hm=>?_,λi h0 hi=>(D2 (dK h i hi)).2 h0⟩;obtain⟨i,hi,rfl⟩:=fW hm;have:=(D2 (dK h i hi)).1
 rwa [show(a.st s).getD i default=(a.st s)[i] by simp[List.getD,hi]] at this
theorem Mg{a:AdvV}(h:tw a=0):AdvOk a:=by
 unfold tw at h;split at h
 ·exact absurd h (by decide)
 split at h
 ·exact absurd h (by decide)
 split at h
 ·rename_i q;exact absurd h q
 split at h
 rotate_left
 ·exact absurd h (by decide)
 rename_i h1 h2 h3 h4
 have hs:∀l∈a.states,∃s,s<a.states.length/\a.st s=l:=λl hl=>by
  obtain⟨s,hs,rfl⟩:=fW hl;exact⟨s,hs,by simp[AdvV.st,List.getD,hs]⟩
 have hz:∀s,s<a.states.length->fw a s=0:=λs hs=>dK (by omega) s hs;refine⟨by omega,by omega,by omega,by omega,by omega,λl hl=>?_,λl hl=>?_,λl hl=>?_,h4⟩
 all_goals
  obtain⟨s,s1,rfl⟩:=hs l hl;have:=AP (hz s s1)
 ·exact this.1
 ·exact this.2.1
 ·exact this.2.2
theorem fJ{a:AdvV}{s:Nat}(h:s<a.states.length):a.st s∈a.states:=iU h
theorem nK{a:AdvV}{s:Nat}:a.states.getD s default=a.st s:=rfl
theorem DY{H:Hp}{sz:Nat}{s d:AV}{cs:List AV}(h:Row H sz s cs)(hs:∀H',Row H' sz s cs->Snap H' s d):∃Hf H',Fz Hf H H'/\Snap Hf s d/\∀x,bk s≠some x->H' x=H x:=by
 cases h with
 |nil=>exact⟨aP,H,Fz.none,hs _ .nil,λ_ _=>rfl⟩
 |box b len cs hb hl=>exact⟨only b cs,dv H b,Fz.one hb,hs _ (.box b len cs ez hl),λx hx=>bQ (λe=>hx (by rw[e];rfl))⟩
theorem jr{l:List Int}{i:Nat}(h:i<l.length):l.getD i 0∈l:=by
 rw[show l.getD i 0=l[i] by simp[List.getD,h]];exact mq h
theorem zJ{l:List Int}{n:Int}(h0:0<=n)(h:n<l.length):eo 1 (aq l) (.int .i64 n)=some (.iptr [.int .i64 (l.getD n.toNat 0)] 0):=by
 rw[rp,if_pos ⟨h0,h⟩];simp[List.getD,show n.toNat<l.length by omega]
def wJ(lim:Int)(c:List Int)(l:List MvV)(i:Nat):Int:=te lim c (l.take i)
theorem xt{lim:Int}{c:List Int}{l:List MvV}{i:Nat}(h:i<l.length):wJ lim c l (i+1)=min (wJ lim c l i+c.getD (l.getD i default).to.toNat 0) (lim+1):=by
 unfold wJ te;rw[bZ h,List.foldl_append];rfl
theorem AS{lim:Int}{c:List Int}{l:List MvV}:wJ lim c l l.length=te lim c l:=by unfold wJ;rw[List.take_length]
theorem zo{lim:Int}(hl:0<=lim){c:List Int}(hc:∀x∈c,0<=x/\x<=lim+1)(l:List MvV):∀i,i<=l.length->0<=wJ lim c l i/\wJ lim c l i<=lim+1
 |0,_=>by show 0<=(0:Int)/\(0:Int)<=lim+1;omega
 |i+1,hi=>by
  have h1:=zo hl hc l i (by omega);rw[xt (by omega)]
  have h2:0<=c.getD (l.getD i default).to.toNat 0:=by
   by_cases hb:(l.getD i default).to.toNat<c.length
   ·exact(hc _ (jr hb)).1
   ·rw[ng,List.getElem?_eq_none (by omega)];exact Int.le_refl _
  omega
theorem tM{a:AdvV}{lim:Int}(hl:0<=lim):∀(k:Nat),∀x∈gI a lim k,0<=x/\x<=lim+1
 |0,x,hx=>by
  obtain⟨_,_,rfl⟩:=cE.1 hx;omega
 |k+1,x,hx=>by
  obtain⟨l,_,rfl⟩:=cE.1 hx;have:=zo hl (tM (a:=a) hl k) l l.length (bc _)
  rwa [AS] at this
theorem G9{a:AdvV}{lim:Int}{k s:Nat}(h:s<a.states.length):(gI a lim (k+1)).getD s default=te lim (gI a lim k) (a.st s):=by
 simp only[gI,AdvV.st,ng,ko,mB h,ny,tC]
def cL{α:Type}(f:α->AV)(l:List α):List AV:=l.flatMap λx=>(f x).cells
theorem eR{α:Type}{f:α->AV}(l m:List α):cL f (l++m)=cL f l++cL f m:=List.flatMap_append
theorem mH{α:Type}{f:α->AV}(x:α):cL f [x]=(f x).cells:=by unfold cL;simp
theorem CC{α:Type}{f:α->AV}(l:List α):(l.map f).flatMap AV.cells=cL f l:=by
 induction l with
 |nil=>rfl
 |cons a l ih=>rw[f9,lj,ih];rfl
theorem eu{α:Type}{f:α->AV}{sz:Nat}(h:∀x,(f x).cells.length=sz)(l:List α):(cL f l).length=l.length*sz:=by
 induction l with
 |nil=>simp[cL]
 |cons a l ih=>rw[show cL f (a::l)=(f a).cells++cL f l from rfl,cP,ih,h,ig,d8];omega
theorem tJ{α:Type}{f:α->AV}(h:∀x,AV.ones (f x).cells=true)(l:List α):AV.ones (cL f l)=true:=by
 unfold AV.ones;rw[dQ];intro x hx;obtain⟨v,_,hv⟩:=List.mem_flatMap.1 hx;exact dQ.1 (h v) x hv
theorem rE{α:Type}{f:α->AV}{sz:Nat}(hz:0<sz)(hc:∀x,(f x).cells.length=sz)(hd:∀x,∀c∈(f x).cells,Dat c){H:Hp}{s:AV}{l:List α}(h:Row H sz s (cL f l)):Snap H s (lf sz f l):=by
 refine Row.snap (elems:=l.map f) (by rw[CC];exact h) (λy hy=>?_) hz (λy hy c hx=>?_)
 ·obtain⟨n,_,rfl⟩:=cE.1 hy;exact hc n
 ·obtain⟨n,_,rfl⟩:=cE.1 hy;exact hd n c hx
theorem uQ{α:Type}{f:α->AV}{sz:Nat}{H:Hp}{l:List α}:ee sz H (lf sz f l)=some (l.length,cL f l):=by
 unfold lf;rw[ki,CC];simp
theorem jR{H:Hp}{sz:Nat}{s:AV}{cs:List AV}(h:Row H sz s cs)(hn:cs≠[]):∃b len,s=.msl b (len*sz) sz 0 len/\H b=some cs/\cs.length=len*sz:=by
 cases h with
 |nil=>exact absurd rfl hn
 |box b len cs h1 h2=>exact⟨b,len,rfl,h1,h2⟩
theorem BQ{H:Hp}{s:AV}{l:List RndV}(h:Row H 7 s (cL cK l)):Snap H s (bB l):=rE (f:=cK) (by omega) (λ_=>rfl) (λx=>yE x) h
theorem Dg{H:Hp}{s:AV}{l:List (List RndV)}(h:Row H 1 s (l.map bB)):Snap H s (d9 l):=h.snapL' (λ_=>rfl) (λx _=>kD x)
theorem yv(l:List RndV):(cL cK l).length=l.length*7:=eu (f:=cK) (λ_=>rfl) l
theorem ye(l:List RndV):AV.ones (cL cK l)=true:=tJ (f:=cK) (λ_=>rfl) l
theorem DF:∀{l:List Nat}{x:Nat},x∈l->x<=l.sum
 |y::l,x,h=>by
  rw[List.sum_cons];rcases gR.1 h with rfl|h
  ·omega
  ·have:=DF h;omega
def lV(p:PrbV):Int:=if ba p.task≠0 then ba p.task else if tw p.adv≠0 then tw p.adv else if p.task.n≠p.adv.n then 22 else if p.rounds<0\/6<p.rounds then 2 else 0
def py(p:PrbV)(lim:Int):Int:=(p.task.cases.length:Int)*lP p.adv p.rounds.toNat lim
def CH(p:PrbV):Bool:=
 if wk p.task=true/\yn p.adv=true/\¬(3<p.task.n/\p.task.n<=5) then(if lV p≠0 then true else decide (py p 4096<=60) || decide (4096<py p 4096)) else false
structure ShP(p:PrbV):Prop where
 c:∀c∈p.task.cases,ShC c
 t:Sh p.task.cases
 a:p.adv.states.length<=17592186044416
 m:∀l∈p.adv.states,l.length<=17592186044416
theorem cH{p:PrbV}(h:lV p=0):ba p.task=0/\AdvOk p.adv/\p.task.n=p.adv.n/\0<=p.rounds/\p.rounds<=6:=by
 unfold lV at h;split at h
 ·rename_i q;exact absurd h q
 split at h
 ·rename_i q;exact absurd h q
 split at h
 ·exact absurd h (by decide)
 split at h
 ·exact absurd h (by decide)
 exact⟨by omega,Mg (by omega),by omega,by omega,by omega⟩
theorem re{p:PrbV}(h:ShP p)(hf:p.adv.states.length<=8):ShA p.adv:=⟨hf,h.m⟩
def hk(g:Nat->Int)(k:Nat):List Int:=(List.range 5).map λi=>if i<k then g i else 0
def vwc(a b c:Int)(l:List Int):List AV:=.int .i64 a::.int .i64 b::.int .i64 c::l.map (AV.int .i64)
theorem pQ(g:Nat->Int)(k:Nat):(hk g k).length=5:=by simp[hk]
theorem qo(a b c:Int){l:List Int}(h:l.length=5):(vwc a b c l).length=8:=by simp[vwc,h]
theorem tP{l:List Int}{k:Nat}(x:Int):(l.map (AV.int .i64)).set k (.int .i64 x)=(l.set k x).map (AV.int .i64):=by rw[List.map_set]
theorem oo{cs:List AV}{k:Nat}(h:k<cs.length)(x:AV):cI cs k [x]=cs.set k x:=by
 unfold cI;rw[LX,if_pos h];simp
theorem tU{a b c:Int}{l:List Int}{k:Nat}(hl:l.length=5)(h:k<5)(x:Int):cI (vwc a b c l) (3+k) [.int .i64 x]=vwc a b c (l.set k x):=by
 rw[oo (by rw[qo a b c hl];omega),show 3+k=k+1+1+1 by omega];unfold vwc;rw[List.set_cons_succ,List.set_cons_succ,List.set_cons_succ,tP]
theorem zi{g:Nat->Int}{k:Nat}(h:k<5):(hk g k).set k (g k)=hk g (k+1):=by
 rcases(by omega:k=0\/k=1\/k=2\/k=3\/k=4) with rfl|rfl|rfl|rfl|rfl<;>rfl
theorem G4(a b c:Int)(g:Nat->Int):vwc a b c (hk g 5)=[.int .i64 a,.int .i64 b,.int .i64 c,.int .i64 (g 0),.int .i64 (g 1),.int .i64 (g 2),.int .i64 (g 3),.int .i64 (g 4)]:=rfl
def Bb(vs:List VwV)(v:VwV):Int:=if v∈vs then(vs.idxOf v:Nat) else-1
theorem Gi {v w:VwV}:[v.proc,v.round,v.input,v.h0,v.h1,v.h2,v.h3,v.h4]=[w.proc,w.round,w.input,w.h0,w.h1,w.h2,w.h3,w.h4] ↔ v=w:=⟨fun h=>by
 obtain⟨a,b,c,d,e,f,g,i⟩:=v;obtain⟨a',b',c',d',e',f',g',i'⟩:=w;simp only[List.cons.injEq,and_true] at h;obtain⟨rfl,rfl,rfl,rfl,rfl,rfl,rfl,rfl⟩:=h;rfl,λh=>h▸rfl⟩
theorem GF{vs:List VwV}{v:VwV}{k:Nat}(hk:k<vs.length)(h:∀i,i<k->vs.getD i default≠v)(e:vs.getD k default=v):vs.idxOf v=k:=by
 have e1:vs.getD k default=vs[k]:=by simp[List.getD,hk]
 unfold List.idxOf;refine(List.findIdx_eq hk).2 ⟨by rw[<-e1,e];exact beq_self_eq_true v,λj hj=>?_⟩;have:=h j hj;rw[show vs.getD j default=vs[j] by simp[List.getD,show j<vs.length by omega]] at this;exact beq_eq_false_iff_ne.2 this
theorem uF(l:List VwV):(cL dN l).length=l.length*8:=eu (f:=dN) (λ_=>rfl) l
theorem Kk(l:List VwV):AV.ones (cL dN l)=true:=tJ (f:=dN) (λ_=>rfl) l
theorem HO{H:Hp}{s:AV}{l:List VwV}(h:Row H 8 s (cL dN l)):Snap H s (cW l):=rE (f:=dN) (by omega) (λ_=>rfl) (λx=>Cp x) h
theorem Iv(vs:List VwV)(v:VwV):(((kX vs v).idxOf v:Nat):Int)=if 0<=Bb vs v then Bb vs v else(vs.length:Int):=by
 unfold kX Bb;by_cases h:v∈vs
 ·rw[if_pos h,if_pos h,if_pos (by omega)]
 ·rw[if_neg h,if_neg h,if_neg (by decide),List.idxOf_append,if_neg h];simp
theorem JW(vs:List VwV)(v:VwV):kX vs v=if 0<=Bb vs v then vs else vs++[v]:=by
 unfold kX Bb;by_cases h:v∈vs
 ·rw[if_pos h,if_pos h,if_pos (by omega)]
 ·rw[if_neg h,if_neg h,if_neg (by decide)]
def vf(inp:List Int)(w:List RndV):Nat->List (List Int)->Nat->VwV
 |0,_=>pW inp
 |k+1,rows=>nk (w.getD k default) ((k+1:Nat):Int).toNat (rows.getD k [])
def plV(n:Nat)(inp:List Int)(w:List RndV)(vs:List VwV):Nat->List VwV×List (List Int)
 |0=>(vs,[])
 |k+1=>(gr (vf inp w k (plV n inp w vs k).2) n (plV n inp w vs k).1,(plV n inp w vs k).2++[fh (vf inp w k (plV n inp w vs k).2) n (plV n inp w vs k).1])
theorem Ah(n:Nat)(inp:List Int)(w:List RndV)(vs:List VwV):∀k,GK n inp w vs k=plV n inp w vs (k+1)
 |0=>rfl
 |k+1=>by
  rw[plV,<-Ah n inp w vs k];rfl
theorem mL(n:Nat)(inp:List Int)(w:List RndV)(vs:List VwV):∀k,(plV n inp w vs k).2.length=k/\(∀l∈(plV n inp w vs k).2,l.length=n)/\(plV n inp w vs k).1.length<=vs.length+k*n
 |0=>⟨rfl,λ_ h=>(by cases h),by show vs.length<=_;omega⟩
 |k+1=>by
  obtain⟨h1,h2,h3⟩:=mL n inp w vs k;refine⟨?_,λl hl=>?_,?_⟩
  ·show((plV n inp w vs k).2++[_]).length=_;rw[cP,h1];rfl
  ·rcases oh.1 hl with hl|hl
   ·exact h2 l hl
   ·rw[gH.1 hl,i6]
  ·have:=mg (vf inp w k (plV n inp w vs k).2) n (plV n inp w vs k).1;rw[d8];show(gr _ n _).length<=_;omega
def dW(p:PrbV):List (List RndV):=bf p.adv p.rounds.toNat 0
def stW(p:PrbV)(c:Nat)(s:BldS)(i:Nat):BldS:=((dW p).take i).foldl (qB p c) s
theorem Nk(p:PrbV)(c:Nat)(s:BldS):stW p c s 0=s:=rfl
theorem DB(p:PrbV)(c:Nat)(s:BldS):stW p c s (dW p).length=C0 p s c:=by unfold stW;rw[List.take_length];rfl
theorem AB{p:PrbV}{c:Nat}{s:BldS}{i:Nat}(h:i<(dW p).length):stW p c s (i+1)=qB p c (stW p c s i) ((dW p).getD i default):=by
 unfold stW;rw[bZ h,List.foldl_append];rfl
theorem sd(p:PrbV)(c:Nat):bldS p (c+1)=C0 p (bldS p c) c:=by unfold bldS;rw[List.range_succ,List.foldl_append];rfl
theorem yD(p:PrbV)(c:Nat)(s:BldS)(w:List RndV):qB p c s w=⟨(plV p.task.n.toNat (p.task.cases.getD c default).inp w s.views (p.rounds.toNat+1)).1,s.execs++[⟨c,w,(plV p.task.n.toNat (p.task.cases.getD c default).inp w s.views (p.rounds.toNat+1)).2⟩]⟩:=by
 unfold qB;rw[Ah]
theorem Dp{p:PrbV}(hn:p.task.n<=5)(hr:p.rounds<=6)(c:Nat)(s:BldS)(w:List RndV):(qB p c s w).execs.length=s.execs.length+1/\(qB p c s w).views.length<=s.views.length+35:=by
 rw[yD];refine⟨by rw[cP];rfl,?_⟩;have h1:=(mL p.task.n.toNat (p.task.cases.getD c default).inp w s.views (p.rounds.toNat+1)).2.2;have h2:(p.rounds.toNat+1)*p.task.n.toNat<=7*5:=Nat.mul_le_mul (by omega) (by omega);show(plV _ _ _ _ _).1.length<=_;omega
theorem zc{p:PrbV}(hn:p.task.n<=5)(hr:p.rounds<=6)(c:Nat)(s:BldS):∀i,i<=(dW p).length->(stW p c s i).execs.length=s.execs.length+i/\(stW p c s i).views.length<=s.views.length+35*i
 |0,_=>⟨rfl,bc _⟩
 |i+1,h=>by
  obtain⟨h1,h2⟩:=zc hn hr c s i (by omega);obtain⟨h3,h4⟩:=Dp hn hr c (stW p c s i) ((dW p).getD i default);rw[AB (by omega)];omega
theorem uq{p:PrbV}(hn:p.task.n<=5)(hr:p.rounds<=6):∀c,(bldS p c).execs.length=c*(dW p).length/\(bldS p c).views.length<=35*(c*(dW p).length)
 |0=>by rw[nA];exact⟨rfl,bc _⟩
 |c+1=>by
  obtain⟨h1,h2⟩:=uq hn hr c;obtain⟨h3,h4⟩:=zc hn hr c (bldS p c) (dW p).length (bc _);rw[sd,<-DB,d8,Nat.one_mul];omega
theorem uS{t:TaskV}(h:ba t=0){c:Nat}(hc:c<t.cases.length):((t.cases.getD c default).inp.length:Int)=t.n:=by
 unfold ba at h;split at h
 ·exact absurd h (by decide)
 split at h
 ·exact absurd h (by decide)
 have h1:=dK h c hc;unfold iH at h1;split at h1
 ·rename_i q;exact absurd h1 q
 rename_i q;have q:bz (t.cases.getD c default).inp t.n t.ins=0:=by omega
 unfold bz at q;split at q
 ·exact absurd q (by decide)
 ·omega
theorem dq{t:TaskV}(h:ba t=0):1<=t.n/\t.n<=5/\1<=t.cases.length/\t.cases.length<=1024:=by
 unfold ba at h;split at h
 ·exact absurd h (by decide)
 split at h
 ·exact absurd h (by decide)
 omega
theorem iY{H:Hp}{sz:Nat}{t x x':AV}{cs c:List AV}{nb:Nat}(hrow:Row H sz t (cs++[x]))(hx:H nb=some c)(hs:Snap (only nb c) x x')(hne:bk t≠some nb):∃H',Fz (only nb c) H H'/\Row H' sz t (cs++[x'])/\∀y,y≠nb->bk t≠some y->H' y=H y:=by
 generalize hcs:cs++[x]=ds at hrow;cases hrow with
 |nil=>exact absurd (congrArg List.length hcs) (by simp)
 |box b len ds g1 g2=>
  have hb:b≠nb:=λe=>hne (by rw[e];rfl);refine⟨av (dv H nb) b (cs++[x']),⟨λy d h=>?_,λy d h=>?_⟩,Row.box b len _ ae (by rw[<-g2,<-hcs];simp),λy h1 h2=>?_⟩
  ·unfold only at h;split at h
   ·rename_i e;rw[e,hx];exact h
   ·cases h
  ·by_cases e:y=b
   ·subst e;rw[ae] at h;cases h;exact⟨ds,g1,if_neg hb,by rw[<-hcs];exact d6.snoc hs⟩
   ·rw[ab e] at h;by_cases e2:y=nb
    ·rw[e2] at h;exact absurd h (by simp[dv])
    ·rw[bQ e2] at h;exact⟨d,h,if_neg e2,d6.refl _ _⟩
  ·rw[ab (λe=>h2 (by rw[e];rfl)),bQ h1]
theorem Row.get{H:Hp}{s:AV}{cs:List AV}(h:Row H 1 s cs){j:Nat}{x:AV}(hj:cs[j]?=some x):∃b n off,eo 1 s (.int .i64 (j:Int))=some (.ptr b n off)/\bk s=some b/\∀H':Hp,H' b=H b->rd1 H' (.ptr b n off)=some x:=by
 cases h with
 |nil=>simp at hj
 |box b len cs hb hl=>
  have hlt:=(bH.1 hj).1;refine⟨b,len,j,?_,rfl,λH' h'=>?_⟩
  ·rw[lh,if_pos ⟨by omega,by omega⟩];simp only[c9,Nat.mul_one,dt]
  ·rw[CW (h'.trans hb) (by omega)];exact hj
theorem d6.mid{Hf:Hp}{x x':AV}(a b:List AV)(h:Snap Hf x x'):d6 Hf (a++x::b) (a++x'::b):=by
 refine⟨by simp,λi y y' h1 h2=>?_⟩;by_cases hi:i<a.length
 ·rw[gG hi] at h1 h2;rw[h1] at h2;cases h2;exact .inl rfl
 ·rw[iA (by omega)] at h1 h2;cases hj:i-a.length with
  |zero=>rw[hj] at h1 h2;simp at h1 h2;subst h1 h2;exact .inr h
  |succ j=>rw[hj] at h1 h2;simp at h1 h2;rw[h1] at h2;cases h2;exact .inl rfl
theorem Fz.cell{H:Hp}{b:Nat}{cs cs':List AV}(h:H b=some cs)(hc:d6 aP cs cs'):Fz aP H (av H b cs'):=
 ⟨fun _ _ h=>(by cases h),fun y d hd=>by
  by_cases e:y=b
  ·subst e;rw[ae] at hd;cases hd;exact⟨cs,h,rfl,hc⟩
  ·rw[ab e] at hd;exact⟨d,hd,rfl,d6.refl _ _⟩⟩
theorem GA{H:Hp}{s:AV}{l:List ExV}(h:Row H 3 s (cL iO l)):Snap H s (fT l):=rE (f:=iO) (by omega) (λ_=>rfl) (λx=>B6 x) h
theorem F6(l:List ExV):(cL iO l).length=l.length*3:=eu (f:=iO) (λ_=>rfl) l
theorem dw{H:Hp}{b sz:Nat}{cs:List AV}(h:cs.length=sz):ee sz (av H b cs) (.msl b sz sz 0 1)=some (1,cs):=by
 rw[fZ ae h (by omega),List.drop_zero,ju (by omega)]
theorem vR{H:Hp}{s:AV}{cs:List AV}(h:Row H 1 s cs)(hn:cs≠[]):∃b len,s=.msl b len 1 0 len/\H b=some cs/\cs.length=len:=by
 obtain⟨b,len,h1,h2,h3⟩:=jR h hn;rw[Nat.mul_one] at h1 h3;exact⟨b,len,h1,h2,h3⟩
theorem Row.box1{H:Hp}{b len:Nat}{cs:List AV}(h:H b=some cs)(hl:cs.length=len):Row H 1 (.msl b len 1 0 len) cs:=by
 have:=Row.box (sz:=1) b len cs h (by omega)
 rwa [Nat.mul_one] at this
def Z10:List AV:=[.int .i64 0,.int .i64 0,.int .i64 0,.esl,.int .i64 0,.esl,.int .i64 0,.int .i64 0,.esl,.esl]
theorem CR:∀x∈Z10,Dat x:=DatL.cons .int (DatL.cons .int (DatL.cons .int (DatL.cons .esl (DatL.cons .int (DatL.cons .esl (DatL.cons .int (DatL.cons .int (DatL.cons .esl (DatL.cons .esl DatL.nil)))))))))
def j5(p:PrbV):Bool:=CH p&&decide (lV p=0)&&decide (py p 4096<=60)
structure OkP(p:PrbV):Prop where
 sh:ShP p
 sa:ShA p.adv
 mv:dl p.adv.states<=40
 e0:lV p=0
 num:py p 4096<=60
 n3:p.task.n<=3
 few:wk p.task=true
theorem z6{p:PrbV}(h:CH p=true):wk p.task=true/\yn p.adv=true/\¬(3<p.task.n/\p.task.n<=5):=by
 unfold CH at h;split at h
 ·rename_i q;exact q
 ·cases h
theorem oO{a:AdvV}(h:yn a=true):a.states.length<=8/\dl a.states<=40:=by
 unfold yn at h;rw[eL,gq,gq] at h;exact h
theorem wn{p:PrbV}(hs:ShP p)(h:j5 p=true):OkP p:=by
 unfold j5 at h;rw[eL,eL,gq,gq] at h;obtain⟨⟨h1,h2⟩,h3⟩:=h;obtain⟨q1,q2,q3⟩:=z6 h1;obtain⟨q4,q5⟩:=oO q2;have:=(dq (cH h2).1).2.1;exact⟨hs,re hs q4,q5,h2,h3,by omega,q1⟩
theorem pe{p:PrbV}(h0:lV p=0)(h:py p 4096<=60):p.task.cases.length*(dW p).length<=60/\(dW p).length<=60/\1<=p.task.cases.length/\1<=(dW p).length:=by
 obtain⟨hck,ho,hn,r0,r6⟩:=cH h0;obtain⟨n1,n5,c1,c2⟩:=dq hck;have hto:CJ p.adv:=λl hl m hm=>⟨(ho.mv l hl m hm).to0,(ho.mv l hl m hm).to1⟩
 have hw:=sB hto ho.ne p.rounds.toNat 0 (by have:=ho.s1;omega)
 have hw1:1<=(dW p).length:=by
  unfold dW;cases e:bf p.adv p.rounds.toNat 0 with
  |nil=>exact absurd e hw
  |cons a l=>rw[ig];omega
 unfold py at h;rw[tO hto (by have:=ho.s1;omega) (by omega)] at h;change (p.task.cases.length:Int)*min ((dW p).length:Int) (4096+1)<=60 at h;generalize (dW p).length=L at *;generalize p.task.cases.length=C at *
 have h1:min (L:Int) (4096+1)<=60:=by
  have:min (L:Int) (4096+1)<=(C:Int)*min (L:Int) (4096+1):=by
   have h2:(1:Int)*min (L:Int) (4096+1)<=(C:Int)*min (L:Int) (4096+1):=Int.mul_le_mul_of_nonneg_right (by omega) (by omega);omega
  omega
 have h2:min (L:Int) (4096+1)=L:=by omega
 rw[h2] at h h1;have h3:((C*L:Nat):Int)<=60:=by rw[Int.natCast_mul];exact h
 omega
section
attribute [local irreducible] aF ai bj aY aN aM ax aS a8 bm Go.Abs.Fn aX Go.Abs.Pure ap aK Yl
theorem wc(a b:List Int)(ha:Sh a)(hb:Sh b):pU 149 [aq a,aq b] (.int .i64 (aD a b)):=by
 refine pO NG ?_;simp only[OA,aw];have ha':a.length<=17592186044416:=ha;have hb':b.length<=17592186044416:=hb
 repeat' (first|refine zW ?_|apply a_n|refine zO ?_|refine vZ ?_|fail)
 refine iq (X:=Nat) (λk=>[(0,aq a),(1,aq b),(5,.int .i64 k)]) (λk=>k<=a.length/\k<=b.length/\aD a b=aD (a.drop k) (b.drop k)) (λk=>a.length-k) 0 ⟨bo _,bo _,rfl⟩ ag0 ?_;rintro k ⟨h1,h2,h3⟩;by_cases hka:k<a.length
 ·by_cases hkb:k<b.length
  ·rw[fv (l:=a) hka,fv (l:=b) hkb,aD] at h3;by_cases c1:a.getD k default<b.getD k default
   ·rw[if_pos c1] at h3;rw[h3]
    repeat' (first|refine zW ?_|apply a_n|apply a_r|refine zO ?_|refine vZ ?_|refine gTZ ?_|(refine zGZ ?_ ?_<;>(intro _hg;try (exfalso;omega)))|refine au rfl ?_|refine r1Z ?_|fail)
    exact .int _ _
   ·rw[if_neg c1] at h3;by_cases c2:a.getD k default>b.getD k default
    ·rw[if_pos c2] at h3;rw[h3]
     repeat' (first|refine zW ?_|apply a_n|apply a_r|refine zO ?_|refine vZ ?_|refine gTZ ?_|(refine zGZ ?_ ?_<;>(intro _hg;try (exfalso;omega)))|refine au rfl ?_|refine r1Z ?_|fail)
     exact .int _ _
    ·rw[if_neg c2] at h3
     repeat' (first|refine zW ?_|apply a_n|refine zO ?_|refine vZ ?_|refine gTZ ?_|(refine zGZ ?_ ?_<;>(intro _hg;try (exfalso;omega)))|fail)
     exact⟨k+1,⟨by omega,by omega,h3⟩,by omega,ag0,rfl,rfl⟩
  ·rw[sk (show b.length<=k by omega),fv (l:=a) hka] at h3;have h3:aD a b=1:=h3;rw[h3]
   repeat' (first|refine zW ?_|apply a_n|apply a_x|apply a_r|refine zO ?_|refine vZ ?_|refine gTZ ?_|(refine zGZ ?_ ?_<;>(intro _hg;try (exfalso;omega)))|refine au rfl ?_|refine r1Z ?_|fail)
   exact .int _ _
 ·by_cases hkb:k<b.length
  ·rw[sk (show a.length<=k by omega),fv (l:=b) hkb] at h3;have h3:aD a b=-1:=h3;rw[h3]
   repeat' (first|refine zW ?_|apply a_n|apply a_x|apply a_r|refine zO ?_|refine vZ ?_|refine gFZ ?_|refine cFZ ?_|(refine zGZ ?_ ?_<;>(intro _hg;try (exfalso;omega)))|refine au rfl ?_|refine r1Z ?_|fail)
   exact .int _ _
  ·rw[sk (show a.length<=k by omega),sk (show b.length<=k by omega)] at h3;have h3:aD a b=0:=h3;rw[h3]
   repeat' (first|refine zW ?_|apply a_n|apply a_x|refine zO ?_|refine vZ ?_|refine gFZ ?_|refine cFZ ?_|(refine zGZ ?_ ?_<;>(intro _hg;try (exfalso;omega)))|refine au rfl ?_|refine r1Z ?_|fail)
   exact .int _ _
theorem Sr(l:List (List Int))(v:List Int)(hl:Sh l)(hs:∀x∈l,Sh x)(hv:Sh v):pU 161 [ay l,aq v] (.bool (decide (v∈l))):=by
 refine pO Pt ?_;simp only[PR,aw];have hl':l.length<=17592186044416:=hl
 repeat' (first|refine zW ?_|apply a_n|refine zO ?_|refine vZ ?_|fail)
 refine ta (λk=>[(0,ay l),(1,aq v),(5,.int .i64 k)]) l.length (λk=>l.getD k default≠v) ag0 ?_;intro k hk hp;by_cases hk2:k<l.length
 rotate_left
 ·repeat' (first|refine zW ?_|apply a_n|apply a_x|refine zO ?_|refine vZ ?_|(refine zGZ ?_ ?_<;>(intro _hg;try (exfalso;omega)))|refine au rfl ?_|refine r1Z ?_|fail)
  exact dE (bJ (fun hm=>by
   obtain⟨i,hi,e⟩:=vj.1 hm;exact hp i (by omega) e)).symm
 have hc:=wc (l.getD k default) v (hs _ (ao hk2)) hv;by_cases he:aD (l.getD k default) v=0
 ·repeat' (first|refine zW ?_|apply a_n|apply a_r|refine zO ?_|refine vZ ?_|refine cZ ?_ (hp:=hc)|(refine zGZ ?_ ?_<;>(intro _hg;try (exfalso;omega)))|refine au rfl ?_|refine r1Z ?_|fail)
  exact dE (bR (vj.2 ⟨k,hk2,kM he⟩)).symm
 ·repeat' (first|refine zW ?_|apply a_n|refine zO ?_|refine vZ ?_|refine cZ ?_ (hp:=hc)|(refine zGZ ?_ ?_<;>(intro _hg;try (exfalso;omega)))|fail)
  exact⟨hk2,λh=>he (by rw[h];exact eH v),ag0,rfl,rfl⟩
theorem DL(v:List Int)(n most:Int)(hv:Sh v):pU 160 [aq v,.int .i64 n,.int .i64 most] (.int .i64 (bz v n most)):=by
 refine pO Pu ?_;simp only[QD,aw];have hv':v.length<=17592186044416:=hv;by_cases hn:(v.length:Int)=n
 rotate_left
 ·have e:bz v n most=15:=by unfold bz;rw[if_pos hn]
  rw[e]
  repeat' (first|refine zW ?_|apply a_n|apply a_r|refine zO ?_|refine vZ ?_|(refine zGZ ?_ ?_<;>(intro _hg;try (exfalso;omega)))|refine au rfl ?_|refine r1Z ?_|fail)
  all_goals exact .int _ _
 have e:bz v n most=if v.any (λx=>decide (x<0\/most<=x)) then 2 else 0:=by unfold bz;rw[if_neg (λh=>h hn)]
 rw[e];subst hn
 repeat' (first|refine zW ?_|apply a_n|refine zO ?_|refine vZ ?_|(refine zGZ ?_ ?_<;>(intro _hg;try (exfalso;omega)))|fail)
 refine ta (λk=>[(0,aq v),(1,.int .i64 v.length),(2,.int .i64 most),(7,.int .i64 k)]) v.length (λk=>decide (v.getD k default<0\/most<=v.getD k default)=false) ag0 ?_;intro k hk hp;by_cases hk2:k<v.length
 rotate_left
 ·repeat' (first|refine zW ?_|apply a_n|apply a_x|refine zO ?_|refine vZ ?_|(refine zGZ ?_ ?_<;>(intro _hg;try (exfalso;omega)))|refine au rfl ?_|refine r1Z ?_|fail)
  rw[FH λi hi=>hp i (by omega)];exact .int _ _
 by_cases hb:v.getD k default<0\/most<=v.getD k default
 ·repeat' (first|refine zW ?_|apply a_n|apply a_r|refine zO ?_|refine vZ ?_|refine gTZ ?_|refine gFZ ?_|refine cTZ ?_|(refine zGZ ?_ ?_<;>(intro _hg;try (exfalso;omega)))|refine au rfl ?_|refine r1Z ?_|fail)
  all_goals first
   |(rw[G6 (p:=λx=>decide (x<0\/most<=x)) hk2 (bR hb)];exact .int _ _)
 ·repeat' (first|refine zW ?_|apply a_n|refine zO ?_|refine vZ ?_|refine gTZ ?_|(refine zGZ ?_ ?_<;>(intro _hg;try (exfalso;omega)))|fail)
  exact⟨hk2,bJ hb,ag0,rfl,rfl⟩
theorem Si(t:TaskV)(j:Nat)(hs:∀c∈t.cases,ShC c)(hsc:Sh t.cases)(hj:j<t.cases.length):pU 127 [gF t,.int .i64 j] (.int .i64 (iH t j)):=by
 refine pO Nn ?_;simp only[PQ,aw];rw[Gu t j hj];have hsc':t.cases.length<=17592186044416:=hsc;have hm:=ao hj;obtain⟨s1,s2,s3,s4,s5⟩:=hs _ hm;have ix:=bL hj;have hv:=DL _ t.n t.ins s1;unfold gF;by_cases hV:bz (t.cases.getD j default).inp t.n t.ins=0
 rotate_left
 ·rw[if_pos hV];generalize bz (t.cases.getD j default).inp t.n t.ins=V at *;have zz:=aI @aG (aI @aA (aI @aJ @ix));repeat' (first|refine zW ?_|apply a_n|apply a_r|refine zO ?_|refine vZ ?_|refine cZ ?_ (hp:=hv)|refine alZ ?_|refine bxZ ?_|refine stZ ?_|(refine zGZ ?_ ?_<;>(intro _hg;try (exfalso;omega)))|refine au rfl ?_|refine r1Z ?_|fail)
  exact .int _ _
 rw[if_neg (λh=>h hV)];rw[hV] at hv;have hO:=wc (t.cases.getD (j-1) default).inp (t.cases.getD j default).inp (hs _ (ao (by omega))).1 s1;have hi1:=bL (l:=t.cases) (k:=j-1) (by omega);generalize hC:t.cases.getD j default=c at *;obtain⟨inp,out,calm⟩:=c;dsimp only at *;have s2':out.length<=17592186044416:=s2;have s4':calm.length<=17592186044416:=s4;refine nM ?_;have zz:=aI @aG (aI @aA (aI @aJ @ix));repeat' (first|apply a_n|refine zO ?_|refine vZ ?_|refine bxZ ?_|fail)
 refine nM ?_;clear zz;have zz:=aI @aG (aI @aA (aI @aJ @ix));repeat' (first|apply a_n|refine zO ?_|refine vZ ?_|refine alZ ?_|refine stZ ?_|fail)
 refine eN (λT H nx=>T 1=.int .i64 j/\T 2=.ptr 0 4 0/\T 5=.ptr 1 3 0/\H 0=some [.int .i64 t.n,.int .i64 t.ins,.int .i64 t.outs,bw t.cases]/\H 1=some [aq inp,ay out,ay calm]) ?_ ?_
 ·clear zz;have zz:=aI @aG (aI @aA (aI @aJ @ix));repeat' (first|refine zW ?_|apply a_n|refine zO ?_|refine vZ ?_|refine cZ ?_ (hp:=hv)|(refine zGZ ?_ ?_<;>(intro _hg;try (exfalso;omega)))|fail)
  exact⟨rfl,rfl,rfl,rfl,rfl⟩
 rintro T H nx ⟨t1,t2,t5,g0,g1⟩;refine eN (λT H nx=>T 1=.int .i64 j/\T 2=.ptr 0 4 0/\T 5=.ptr 1 3 0/\H 0=some [.int .i64 t.n,.int .i64 t.ins,.int .i64 t.outs,bw t.cases]/\H 1=some [aq inp,ay out,ay calm]/\(decide (0<j)&&decide (0<=aD (t.cases.getD (j-1) default).inp inp))=false) ?_ ?_
 ·by_cases hj0:j=0
  ·subst hj0;clear zz;have zz:=aI @t1 (aI @t2 (aI @t5 (aI @g0 (aI @g1 (aI @aG (aI @aA (aI @aJ (aI @ix @dX))))))));repeat' (first|refine zW ?_|refine zM ?_|apply a_n|refine zO ?_|refine vZ ?_|refine gFZ ?_|(refine zGZ ?_ ?_<;>(intro _hg;try (exfalso;omega)))|refine cFZ ?_|fail)
   all_goals first|exact⟨(by((try simp only[bg,ZA,reduceEqDiff,↓reduceIte,reduceAdd,reduceLeDiff,t1,t2,t5,g0,g1]);(try with_reducible rfl))),(by((try simp only[bg,ZA,reduceEqDiff,↓reduceIte,reduceAdd,reduceLeDiff,t1,t2,t5,g0,g1]);(try with_reducible rfl))),(by((try simp only[bg,ZA,reduceEqDiff,↓reduceIte,reduceAdd,reduceLeDiff,t1,t2,t5,g0,g1]);(try with_reducible rfl))),(by((try simp only[bg,ZA,reduceEqDiff,↓reduceIte,reduceAdd,reduceLeDiff,t1,t2,t5,g0,g1]);(try with_reducible rfl))),(by((try simp only[bg,ZA,reduceEqDiff,↓reduceIte,reduceAdd,reduceLeDiff,t1,t2,t5,g0,g1]);(try with_reducible rfl))),by first|rfl|simp⟩|trace_state
  ·have e1:(j:Int)-1=((j-1:Nat):Int):=by omega
   rw[<-e1] at hi1;rw[bR (show 0<j by omega),Bool.true_and];have hj1:decide ((0:Int)<(j:Int))=true:=bR (by omega);by_cases ho:0<=aD (t.cases.getD (j-1) default).inp inp
   ·rw[bR ho,if_pos rfl];clear zz;have zz:=aI @t1 (aI @t2 (aI @t5 (aI @g0 (aI @g1 (aI @aG (aI @aA (aI @aJ (aI @ix (aI @hi1 (aI @hj1 @dX))))))))));repeat' (first|refine zW ?_|refine zM ?_|apply a_n|apply a_r|refine zO ?_|refine vZ ?_|refine cZ ?_ (hp:=hO)|refine gTZ ?_|(refine zGZ ?_ ?_<;>(intro _hg;try (exfalso;omega)))|refine au rfl ?_|refine r1Z ?_|fail)
    all_goals first|exact .int _ _|trace_state
   ·rw[bJ ho];clear zz;have zz:=aI @t1 (aI @t2 (aI @t5 (aI @g0 (aI @g1 (aI @aG (aI @aA (aI @aJ (aI @ix (aI @hi1 (aI @hj1 @dX))))))))));repeat' (first|refine zW ?_|refine zM ?_|apply a_n|refine zO ?_|refine vZ ?_|refine cZ ?_ (hp:=hO)|refine gTZ ?_|(refine zGZ ?_ ?_<;>(intro _hg;try (exfalso;omega)))|fail)
    all_goals first|exact⟨(by((try simp only[bg,ZA,reduceEqDiff,↓reduceIte,reduceAdd,reduceLeDiff,t1,t2,t5,g0,g1]);(try with_reducible rfl))),(by((try simp only[bg,ZA,reduceEqDiff,↓reduceIte,reduceAdd,reduceLeDiff,t1,t2,t5,g0,g1]);(try with_reducible rfl))),(by((try simp only[bg,ZA,reduceEqDiff,↓reduceIte,reduceAdd,reduceLeDiff,t1,t2,t5,g0,g1]);(try with_reducible rfl))),(by((try simp only[bg,ZA,reduceEqDiff,↓reduceIte,reduceAdd,reduceLeDiff,t1,t2,t5,g0,g1]);(try with_reducible rfl))),(by((try simp only[bg,ZA,reduceEqDiff,↓reduceIte,reduceAdd,reduceLeDiff,t1,t2,t5,g0,g1]);(try with_reducible rfl))),by first|rfl|simp⟩|trace_state
 clear zz;clear t1 t2 t5 g0 g1 hO hi1;rintro T H nx ⟨t1,t2,t5,g0,g1,hu⟩;rw[hu,if_neg (by simp)];by_cases h0:out.length<1\/1024<out.length
 ·have e:cu t.n t.outs ⟨inp,out,calm⟩=5:=by unfold cu;rw[if_pos h0]
  rw[e];have zz:=aI @t1 (aI @t2 (aI @t5 (aI @g0 @g1)));repeat' (first|refine zW ?_|apply a_n|apply a_r|refine zO ?_|refine vZ ?_|refine gTZ ?_|refine gFZ ?_|refine cTZ ?_|(refine zGZ ?_ ?_<;>(intro _hg;try (exfalso;omega)))|refine au rfl ?_|refine r1Z ?_|fail)
  all_goals exact .int _ _
 have e:cu t.n t.outs ⟨inp,out,calm⟩=if bU (ml t.n t.outs out) out.length≠0 then bU (ml t.n t.outs out) out.length else bU (lA out calm) calm.length:=by unfold cu;rw[if_neg h0]
 rw[e];refine eN (λT H nx=>T 2=.ptr 0 4 0/\T 5=.ptr 1 3 0/\H 0=some [.int .i64 t.n,.int .i64 t.ins,.int .i64 t.outs,bw t.cases]/\H 1=some [aq inp,ay out,ay calm]) ?_ ?_
 ·have zz:=aI @t1 (aI @t2 (aI @t5 (aI @g0 @g1)));repeat' (first|refine zW ?_|apply a_n|refine zO ?_|refine vZ ?_|refine gTZ ?_|(refine zGZ ?_ ?_<;>(intro _hg;try (exfalso;omega)))|fail)
  all_goals first|exact⟨(by((try simp only[bg,ZA,reduceEqDiff,↓reduceIte,reduceAdd,reduceLeDiff,t1,t2,t5,g0,g1]);(try with_reducible rfl))),(by((try simp only[bg,ZA,reduceEqDiff,↓reduceIte,reduceAdd,reduceLeDiff,t1,t2,t5,g0,g1]);(try with_reducible rfl))),(by((try simp only[bg,ZA,reduceEqDiff,↓reduceIte,reduceAdd,reduceLeDiff,t1,t2,t5,g0,g1]);(try with_reducible rfl))),(by((try simp only[bg,ZA,reduceEqDiff,↓reduceIte,reduceAdd,reduceLeDiff,t1,t2,t5,g0,g1]);(try with_reducible rfl)))⟩|trace_state
 clear t1 t2 t5 g0 g1;rintro T H nx ⟨t2,t5,g0,g1⟩;refine eN (λT H nx=>T 2=.ptr 0 4 0/\T 5=.ptr 1 3 0/\H 0=some [.int .i64 t.n,.int .i64 t.ins,.int .i64 t.outs,bw t.cases]/\H 1=some [aq inp,ay out,ay calm]/\∀i,i<out.length->ml t.n t.outs out i=0) ?_ ?_
 ·have zz:=aI @t2 (aI @t5 (aI @g0 @g1));repeat' (first|refine zW ?_|apply a_n|refine zO ?_|refine vZ ?_|fail)
  refine ta (λk=>[(2,.ptr 0 4 0),(5,.ptr 1 3 0),(7,.int .i64 k)]) out.length (λk=>ml t.n t.outs out k=0) (have zz:=aI @t2 @t5;agZ) ?_;intro k hk hz;by_cases hk2:k<out.length
  rotate_left
  ·clear zz;have zz:=aI @g0 @g1;repeat' (first|refine zW ?_|apply a_n|apply a_x|refine zO ?_|refine vZ ?_|(refine zGZ ?_ ?_<;>(intro _hg;try (exfalso;omega)))|fail)
   exact⟨rfl,rfl,g0,g1,λi hi=>hz i (by omega)⟩
  have hvk:=DL (out.getD k default) t.n t.outs (s3 _ (ao hk2));have hok:=wc (out.getD (k-1) default) (out.getD k default) (s3 _ (ao (by omega))) (s3 _ (ao hk2));have ho:ml t.n t.outs out k=if bz (out.getD k default) t.n t.outs≠0 then bz (out.getD k default) t.n t.outs else if (decide (0<k)&&decide (0<=aD (out.getD (k-1) default) (out.getD k default))) then 14 else 0:=rfl
  have fin:∀r,ml t.n t.outs out k=r->r≠0->(if bU (ml t.n t.outs out) out.length≠0 then bU (ml t.n t.outs out) out.length else bU (lA out calm) calm.length)=r:=λr hr h0=>by
   rw[dD hk2 hz (by rw[hr];exact h0),hr,if_pos h0]
  generalize bz (out.getD k default) t.n t.outs=V at *;by_cases hV0:V=0
  rotate_left
  ·rw[if_pos hV0] at ho;rw[fin V ho hV0];clear zz;have zz:=aI @g0 @g1;repeat' (first|refine zW ?_|refine zM ?_|apply a_n|apply a_r|refine zO ?_|refine vZ ?_|refine cZ ?_ (hp:=hvk)|(refine zGZ ?_ ?_<;>(intro _hg;try (exfalso;omega)))|refine au rfl ?_|refine r1Z ?_|fail)
   exact .int _ _
  subst hV0;rw[if_neg (λh=>h rfl)] at ho;by_cases hk0:k=0
  ·subst hk0;clear zz;have zz:=aI @g0 (aI @g1 @dX);repeat' (first|refine zW ?_|refine zM ?_|apply a_n|refine zO ?_|refine vZ ?_|refine cZ ?_ (hp:=hvk)|refine gFZ ?_|refine cFZ ?_|(refine zGZ ?_ ?_<;>(intro _hg;try (exfalso;omega)))|fail)
   all_goals first|exact⟨hk2,ho,ag0,rfl,rfl⟩|trace_state
  ·have e1:(k:Int)-1=((k-1:Nat):Int):=by omega
   have e2:((k:Int)-1).toNat=k-1:=by omega
   have hj1:decide ((0:Int)<(k:Int))=true:=bR (by omega);rw[bR (show 0<k by omega),Bool.true_and] at ho;generalize aD (out.getD (k-1) default) (out.getD k default)=O at *;by_cases hO0:0<=O
   ·rw[bR hO0,if_pos rfl] at ho;rw[fin 14 ho (by decide)];clear zz;have zz:=aI @g0 (aI @g1 (aI @hj1 (aI @e2 @dX)));repeat' (first|refine zW ?_|refine zM ?_|apply a_n|apply a_r|refine zO ?_|refine vZ ?_|refine cZ ?_ (hp:=by first|exact hvk|exact hok)|refine gTZ ?_|(refine zGZ ?_ ?_<;>(intro _hg;try (exfalso;omega)))|refine au rfl ?_|refine r1Z ?_|fail)
    all_goals first|exact .int _ _|trace_state
   ·rw[bJ hO0,if_neg (by simp)] at ho;clear zz;have zz:=aI @g0 (aI @g1 (aI @hj1 (aI @e2 @dX)));repeat' (first|refine zW ?_|refine zM ?_|apply a_n|refine zO ?_|refine vZ ?_|refine cZ ?_ (hp:=by first|exact hvk|exact hok)|refine gTZ ?_|(refine zGZ ?_ ?_<;>(intro _hg;try (exfalso;omega)))|fail)
    all_goals first|exact⟨hk2,ho,ag0,rfl,rfl⟩|trace_state
 clear t2 t5 g0 g1;rintro T H nx ⟨t2,t5,g0,g1,hz0⟩;rw[bV hz0,if_neg (λh=>h rfl)];have zz:=aI @t2 (aI @t5 (aI @g0 @g1));repeat' (first|refine zW ?_|apply a_n|refine zO ?_|refine vZ ?_|fail)
 refine ta (λk=>[(2,.ptr 0 4 0),(5,.ptr 1 3 0),(9,.int .i64 k)]) calm.length (λk=>lA out calm k=0) (have zz:=aI @t2 @t5;agZ) ?_;intro k hk hz;by_cases hk2:k<calm.length
 rotate_left
 ·clear zz;have zz:=aI @g0 @g1;repeat' (first|refine zW ?_|apply a_n|apply a_x|refine zO ?_|refine vZ ?_|(refine zGZ ?_ ?_<;>(intro _hg;try (exfalso;omega)))|refine au rfl ?_|refine r1Z ?_|fail)
  rw[bV λi hi=>hz i (by omega)];exact .int _ _
 have hh:=Sr out (calm.getD k default) s2 s3 (s5 _ (ao hk2));have hok:=wc (calm.getD (k-1) default) (calm.getD k default) (s5 _ (ao (by omega))) (s5 _ (ao hk2));have ho:lA out calm k=if calm.getD k default∈out then(if (decide (0<k)&&decide (0<=aD (calm.getD (k-1) default) (calm.getD k default))) then 14 else 0) else 6:=rfl
 have fin:∀r,lA out calm k=r->r≠0->bU (lA out calm) calm.length=r:=λr hr h0=>by
  rw[dD hk2 hz (by rw[hr];exact h0),hr]
 by_cases hm2:calm.getD k default∈out
 rotate_left
 ·rw[if_neg hm2] at ho;rw[bJ hm2] at hh;rw[fin 6 ho (by decide)];clear zz;have zz:=aI @g0 (aI @g1 @dX);repeat' (first|refine zW ?_|refine zM ?_|apply a_n|apply a_r|refine zO ?_|refine vZ ?_|refine cZ ?_ (hp:=hh)|refine cTZ ?_|(refine zGZ ?_ ?_<;>(intro _hg;try (exfalso;omega)))|refine au rfl ?_|refine r1Z ?_|fail)
  exact .int _ _
 rw[if_pos hm2] at ho;rw[bR hm2] at hh;by_cases hk0:k=0
 ·subst hk0;clear zz;have zz:=aI @g0 (aI @g1 @dX);repeat' (first|refine zW ?_|refine zM ?_|apply a_n|refine zO ?_|refine vZ ?_|refine cZ ?_ (hp:=hh)|refine gFZ ?_|refine cFZ ?_|(refine zGZ ?_ ?_<;>(intro _hg;try (exfalso;omega)))|fail)
  all_goals first|exact⟨hk2,ho,ag0,rfl,rfl⟩|trace_state
 ·have e2:((k:Int)-1).toNat=k-1:=by omega
  have hj1:decide ((0:Int)<(k:Int))=true:=bR (by omega);rw[bR (show 0<k by omega),Bool.true_and] at ho;generalize aD (calm.getD (k-1) default) (calm.getD k default)=O at *;by_cases hO0:0<=O
  ·rw[bR hO0,if_pos rfl] at ho;rw[fin 14 ho (by decide)];clear zz;have zz:=aI @g0 (aI @g1 (aI @hj1 (aI @e2 @dX)));repeat' (first|refine zW ?_|refine zM ?_|apply a_n|apply a_r|refine zO ?_|refine vZ ?_|refine cZ ?_ (hp:=by first|exact hh|exact hok)|refine gTZ ?_|refine cFZ ?_|(refine zGZ ?_ ?_<;>(intro _hg;try (exfalso;omega)))|refine au rfl ?_|refine r1Z ?_|fail)
   all_goals first|exact .int _ _|trace_state
  ·rw[bJ hO0,if_neg (by simp)] at ho;clear zz;have zz:=aI @g0 (aI @g1 (aI @hj1 (aI @e2 @dX)));repeat' (first|refine zW ?_|refine zM ?_|apply a_n|refine zO ?_|refine vZ ?_|refine cZ ?_ (hp:=by first|exact hh|exact hok)|refine gTZ ?_|refine cFZ ?_|(refine zGZ ?_ ?_<;>(intro _hg;try (exfalso;omega)))|fail)
   all_goals first|exact⟨hk2,ho,ag0,rfl,rfl⟩|trace_state
theorem Mx(t:TaskV)(hs:∀c∈t.cases,ShC c)(hsc:Sh t.cases):pU 73 [gF t] (.int .i64 (ba t)):=by
 refine pO Rz ?_;simp only[b73,aw];have hsc':t.cases.length<=17592186044416:=hsc;have d2:=fV t;have hone:=λj hj=>Si t j hs hsc hj;unfold gF at d2 hone |-;by_cases h0:t.n<1\/5<t.n\/t.ins<1\/8<t.ins\/t.outs<1\/8<t.outs
 ·have e:ba t=2:=by unfold ba;rw[if_pos h0]
  rw[e];have zz:=aI @aG (aI @aA @aJ);repeat' (first|refine zW ?_|apply a_n|apply a_r|refine zO ?_|refine vZ ?_|refine bxZ ?_|refine gTZ ?_|refine gFZ ?_|refine cTZ ?_|(refine zGZ ?_ ?_<;>(intro _hg;try (exfalso;omega)))|refine au rfl ?_|refine r1Z ?_|fail)
  all_goals exact .int _ _
 by_cases h1:t.cases.length<1\/1024<t.cases.length
 ·have e:ba t=5:=by unfold ba;rw[if_neg h0,if_pos h1]
  rw[e];have zz:=aI @aG (aI @aA @aJ);repeat' (first|refine zW ?_|apply a_n|apply a_r|refine zO ?_|refine vZ ?_|refine bxZ ?_|refine gTZ ?_|refine gFZ ?_|refine cTZ ?_|(refine zGZ ?_ ?_<;>(intro _hg;try (exfalso;omega)))|refine au rfl ?_|refine r1Z ?_|fail)
  all_goals exact .int _ _
 have e:ba t=bU (iH t) t.cases.length:=by unfold ba;rw[if_neg h0,if_neg h1]
 rw[e];have zz:=aI @aG (aI @aA @aJ);repeat' (first|refine zW ?_|apply a_n|refine zO ?_|refine vZ ?_|refine bxZ ?_|refine gTZ ?_|(refine zGZ ?_ ?_<;>(intro _hg;try (exfalso;omega)))|fail)
 refine ta (λk=>[(1,.ptr 0 4 0),(3,.int .i64 k)]) t.cases.length (λk=>iH t k=0) (by simp (disch:=omega) only[agr,ZG,reduceEqDiff,↓reduceIte,ig,ss]) ?_;intro k hk hz;by_cases hk2:k<t.cases.length
 rotate_left
 ·clear zz;have zz:=aI @aG (aI @aA @aJ);repeat' (first|refine zW ?_|apply a_n|apply a_x|refine zO ?_|refine vZ ?_|(refine zGZ ?_ ?_<;>(intro _hg;try (exfalso;omega)))|refine au rfl ?_|refine r1Z ?_|fail)
  rw[bV λi hi=>hz i (by omega)];exact .int _ _
 have hc:=hone k hk2;by_cases hE:iH t k=0
 ·rw[hE] at hc;clear zz;have zz:=aI @aG (aI @aA @aJ);repeat' (first|refine zW ?_|apply a_n|refine zO ?_|refine vZ ?_|refine cZ ?_ (hp:=hc)|(refine zGZ ?_ ?_<;>(intro _hg;try (exfalso;omega)))|fail)
  exact⟨hk2,hE,ag0,rfl,rfl⟩
 ·rw[dD hk2 hz hE];generalize iH t k=V at *;clear zz;have zz:=aI @aG (aI @aA @aJ);repeat' (first|refine zW ?_|apply a_n|apply a_r|refine zO ?_|refine vZ ?_|refine cZ ?_ (hp:=hc)|(refine zGZ ?_ ?_<;>(intro _hg;try (exfalso;omega)))|refine au rfl ?_|refine r1Z ?_|fail)
  exact .int _ _
theorem HA(l:List (List Int))(hl:Sh l)(hs:∀x∈l,Sh x):pU 71 [ay l,.int .i64 30] (.bool (nC l)):=by
 refine pO Q8 ?_;simp only[b71,aw];have hl':l.length<=17592186044416:=hl;unfold nC;by_cases h0:l.length<=30
 rotate_left
 ·rw[bJ h0]
  repeat' (first|refine zW ?_|apply a_n|apply a_r|refine zO ?_|refine vZ ?_|(refine zGZ ?_ ?_<;>(intro _hg;try (exfalso;omega)))|refine au rfl ?_|refine r1Z ?_|fail)
  exact .bool _
 rw[bR h0,Bool.true_and]
 repeat' (first|refine zW ?_|apply a_n|refine zO ?_|refine vZ ?_|(refine zGZ ?_ ?_<;>(intro _hg;try (exfalso;omega)))|fail)
 refine ta (λk=>[(0,ay l),(5,.int .i64 k)]) l.length (λk=>decide ((l.getD k default).length<=10)=true) ag0 ?_;intro k hk hz;by_cases hk2:k<l.length
 rotate_left
 ·repeat' (first|refine zW ?_|apply a_n|apply a_x|refine zO ?_|refine vZ ?_|(refine zGZ ?_ ?_<;>(intro _hg;try (exfalso;omega)))|refine au rfl ?_|refine r1Z ?_|fail)
  rw[ol λi hi=>hz i (by omega)];exact .bool _
 have hsk:(l.getD k default).length<=17592186044416:=hs _ (ao hk2);by_cases hE:(l.getD k default).length<=10
 ·repeat' (first|refine zW ?_|apply a_n|refine zO ?_|refine vZ ?_|(refine zGZ ?_ ?_<;>(intro _hg;try (exfalso;omega)))|fail)
  exact⟨hk2,bR hE,ag0,rfl,rfl⟩
 ·repeat' (first|refine zW ?_|apply a_n|apply a_r|refine zO ?_|refine vZ ?_|(refine zGZ ?_ ?_<;>(intro _hg;try (exfalso;omega)))|refine au rfl ?_|refine r1Z ?_|fail)
  rw[kC (p:=λv=>decide (v.length<=10)) hk2 (bJ hE)];exact .bool _
theorem Q9(t:TaskV)(hs:∀c∈t.cases,ShC c)(hsc:Sh t.cases):pU 34 [gF t] (.bool (wk t)):=by
 refine pO Q5 ?_;simp only[b34,aw];have hsc':t.cases.length<=17592186044416:=hsc;unfold wk gF;by_cases h0:t.cases.length<=30
 rotate_left
 ·rw[bJ h0];have zz:=aI @aG (aI @aA @aJ);repeat' (first|refine zW ?_|apply a_n|apply a_r|refine zO ?_|refine vZ ?_|refine bxZ ?_|(refine zGZ ?_ ?_<;>(intro _hg;try (exfalso;omega)))|refine au rfl ?_|refine r1Z ?_|fail)
  exact .bool _
 rw[bR h0,Bool.true_and];have zz:=aI @aG (aI @aA @aJ);repeat' (first|refine zW ?_|apply a_n|refine zO ?_|refine vZ ?_|refine bxZ ?_|(refine zGZ ?_ ?_<;>(intro _hg;try (exfalso;omega)))|fail)
 refine bq (X:=Nat) (λk=>[(1,.ptr 0 4 0),(3,.int .i64 k)]) (λk H nx=>k<=t.cases.length/\(∀i,i<k->uP (t.cases.getD i default)=true)/\1<=nx/\H 0=some [.int .i64 t.n,.int .i64 t.ins,.int .i64 t.outs,bw t.cases]) (λk=>t.cases.length-k) 0 ⟨bo _,λi h=>absurd h (by omega),bc _,rfl⟩ (by simp (disch:=omega) only[agr,ZG,reduceEqDiff,↓reduceIte,ig,ss]) ?_;rintro k H nx ⟨hk,hz,hn,g0⟩;by_cases hk2:k<t.cases.length
 rotate_left
 ·clear zz;have zz:=aI @g0 (aI @aG (aI @aA @aJ));repeat' (first|refine zW ?_|apply a_n|apply a_x|refine zO ?_|refine vY ?_|(refine zGY ?_ ?_<;>(intro _hg;try (exfalso;omega)))|refine au rfl ?_|refine r1Y ?_|fail)
  rw[ol λi hi=>hz i (by omega)];exact .bool _
 have ix:=bL hk2;obtain⟨s1,s2,s3,s4,s5⟩:=hs _ (ao hk2);have hf1:=HA _ s2 s3;have hf2:=HA _ s4 s5;have hF:uP (t.cases.getD k default)=(decide ((t.cases.getD k default).inp.length<=10)&&nC (t.cases.getD k default).out&&nC (t.cases.getD k default).calm):=rfl
 have hno:uP (t.cases.getD k default)=false->Snap H (.bool false) (.bool (t.cases.all uP)):=λh=>by
  rw[kC hk2 h];exact .bool _
 have hno':∀{H'},uP (t.cases.getD k default)=false->Snap H' (.bool false) (.bool (t.cases.all uP)):=λh=>by
  rw[kC hk2 h];exact .bool _
 have s1':(t.cases.getD k default).inp.length<=17592186044416:=s1;generalize nC (t.cases.getD k default).out=F1 at *;generalize nC (t.cases.getD k default).calm=F2 at *;by_cases hl:(t.cases.getD k default).inp.length<=10
 rotate_left
 ·rw[bJ hl] at hF;clear zz;have zz:=aI @g0 (aI @aG (aI @aA (aI @aJ @ix)));repeat' (first|refine zW ?_|apply a_n|apply a_r|refine zO ?_|refine vY ?_|refine alY ?_|refine stY ?_|refine gFY ?_|refine cTY ?_|(refine zGY ?_ ?_<;>(intro _hg;try (exfalso;omega)))|refine au rfl ?_|refine r1Y ?_|fail)
  all_goals exact hno' hF
 rw[bR hl,Bool.true_and] at hF;cases F1 with
 |false=>
  clear zz;have zz:=aI @g0 (aI @aG (aI @aA (aI @aJ (aI @ix @dX))));repeat' (first|refine zW ?_|apply a_n|apply a_r|refine zO ?_|refine vY ?_|refine cY ?_ (hp:=by first|exact hf1|exact hf2)|refine alY ?_|refine stY ?_|refine gTY ?_|refine gFY ?_|refine cTY ?_|(refine zGY ?_ ?_<;>(intro _hg;try (exfalso;omega)))|refine au rfl ?_|refine r1Y ?_|fail)
  all_goals exact hno' hF
 |true=>
  cases F2 with
  |false=>
   clear zz;have zz:=aI @g0 (aI @aG (aI @aA (aI @aJ (aI @ix @dX))));repeat' (first|refine zW ?_|apply a_n|apply a_r|refine zO ?_|refine vY ?_|refine cY ?_ (hp:=by first|exact hf1|exact hf2)|refine alY ?_|refine stY ?_|refine gTY ?_|refine cTY ?_|(refine zGY ?_ ?_<;>(intro _hg;try (exfalso;omega)))|refine au rfl ?_|refine r1Y ?_|fail)
   all_goals exact hno' hF
  |true=>
   clear zz;have zz:=aI @g0 (aI @aG (aI @aA (aI @aJ (aI @ix @dX))));repeat' (first|refine zW ?_|apply a_n|refine zO ?_|refine vY ?_|refine cY ?_ (hp:=by first|exact hf1|exact hf2)|refine alY ?_|refine stY ?_|refine gTY ?_|refine cFY ?_|(refine zGY ?_ ?_<;>(intro _hg;try (exfalso;omega)))|fail)
   refine⟨k+1,by omega,⟨by omega,λi hi=>?_,by omega,?_⟩,ag0⟩
   ·rcases lL.1 hi with h|rfl
    ·exact hz i h
    ·exact hF
   ·rw[ab (by omega),ab (by omega),g0]
theorem uA(n:Nat)(hn:n<=60):pU 165 [.int .i64 n] (.int .i64 ((2^n:Nat):Int)):=by
 refine pO NY ?_;simp only[Qx,aw];refine wnZ and_self ?_;refine bq (X:=Nat) (λk=>[(0,.int .i64 n),(3,.int .i64 ((2^k:Nat):Int)),(4,.int .i64 (k:Nat))]) (λk H' nx'=>k<=n) (λk=>n-k) 0 (bo _) (by simp (disch:=omega) only[agr,ZG,reduceEqDiff,↓reduceIte,Nat.pow_zero]) ?_;intro k H nx hk;by_cases e:k=n
 ·subst e;refine wnZ and_self ?_;exact aC rfl
 ·have h2:2^k<=2^60:=Nat.pow_le_pow_right (by omega) (by omega);have hs:2^(k+1)=2^k*2:=Nat.pow_succ ..;rw[show(2:Nat)^60=1152921504606846976 from rfl] at h2;obtain⟨w,hw⟩:∃w,2^k=w:=⟨_,rfl⟩
  obtain⟨w2,hw2⟩:∃w,2^(k+1)=w:=⟨_,rfl⟩
  rw[hw] at h2 hs |-;rw[hw2] at hs;have h3:((w:Nat):Int)*2=(w2:Int):=by omega
  have h5:IntKind.wrap .i64 ((w2:Nat):Int)=(w2:Int):=jy (by omega) (by omega);refine wnZ (aI @h3 @h5) ?_;exact⟨k+1,by omega,by omega,by rw[hw2];simp (disch:=omega) only[agr,ZG,reduceEqDiff,↓reduceIte]⟩
theorem Ki(n:Nat)(hn:n<=60):pU 221 [.int .i64 n] (.int .i64 (((2^n:Nat):Int)-1)):=by
 have hp:=uA n hn;have h2:2^n<=2^60:=Nat.pow_le_pow_right (by omega) (by omega);have h3:0<2^n:=Nat.pow_pos (by omega);generalize 2^n=w at *;refine pO Px ?_;simp only[Qz,aw];refine wnZ and_self ?_;exact aC rfl
theorem qW(f:Int)(p:Nat)(h0:0<=f)(h1:f<=9223372036854775807)(hp:p<=60):pU 130 [.int .i64 f,.int .i64 p] (.bool (hasFl f p)):=by
 have hw:=uA p hp;have h3:0<2^p:=Nat.pow_pos (by omega);unfold hasFl;generalize 2^p=w at *;refine pO P0 ?_;simp only[Oo,aw];have hq:=Dk (tb:=false) (tf:=false) h0 h1 (b:=(w:Int)) (by omega);have hr:=Da (k:=.i64) (tb:=false) (tf:=false) (a:=f/(w:Int)) (b:=2) (Int.ediv_nonneg h0 (by omega)) (by omega);refine wnZ (aI @hq @hr) ?_;exact dE rfl
theorem Jn(n:Int):pU 222 [.int .i64 n] (.int .i64 (if n<1\/5<n then 1 else 0)):=by
 refine pO Oh ?_;simp only[Qo,aw]
 repeat' (first|refine zW ?_|apply a_n|apply a_r|refine zO ?_|refine vZ ?_|refine gTZ ?_|refine gFZ ?_|refine cTZ ?_|(refine zGZ ?_ ?_<;>(intro _hg;try (exfalso;omega)))|refine au rfl ?_|refine r1Z ?_|fail)
 all_goals (refine aC ?_;split<;>first|rfl|omega)
theorem IQ(n:Int):pU 203 [.int .i64 n] (.int .i64 (if n<1\/5<n then 1 else 0)):=by
 refine pO O7 ?_;simp only[QI,aw]
 repeat' (first|refine zW ?_|apply a_n|apply a_r|refine zO ?_|refine vZ ?_|refine gTZ ?_|refine gFZ ?_|refine cTZ ?_|(refine zGZ ?_ ?_<;>(intro _hg;try (exfalso;omega)))|refine au rfl ?_|refine r1Z ?_|fail)
 all_goals (refine aC ?_;split<;>first|rfl|omega)
theorem Fp(n f:Int):pU 197 [.int .i64 n,.int .i64 f] (.int .i64 (GZ n f)):=by
 refine pO N1 ?_;simp only[NA,aw];have hp:=Jn n;unfold GZ;by_cases h:n<1\/5<n
 ·rw[if_pos h] at hp |-;refine wnZ and_self ?_;exact aC rfl
 rw[if_neg h] at hp |-;obtain⟨k,rfl⟩:∃k:Nat,n=k:=⟨n.toNat,by omega⟩
 have hw:=uA k (by omega);rw[show pw (k:Int)=((2^k:Nat):Int) from rfl];generalize ((2^k:Nat):Int)=w at *
 repeat' (first|refine zW ?_|apply a_n|apply a_r|refine zO ?_|refine vZ ?_|refine cZ ?_ (hp:=by first|exact hp|exact hw)|refine gTZ ?_|refine gFZ ?_|refine cTZ ?_|(refine zGZ ?_ ?_<;>(intro _hg;try (exfalso;omega)))|refine au rfl ?_|refine r1Z ?_|fail)
 all_goals (refine aC ?_;split<;>first|rfl|omega)
theorem EN(r:RndV):pU 196 [jQ r] (.int .i64 (j0 r)):=by
 refine pO QG ?_;simp only[Nq,aw];unfold j0 jQ;rw[PC.2.1];by_cases h:r.n<1\/5<r.n
 ·rw[if_pos h]
  repeat' (first|refine zW ?_|apply a_n|apply a_r|refine zO ?_|refine vZ ?_|refine bxZ ?_|refine gTZ ?_|refine gFZ ?_|refine cTZ ?_|(refine zGZ ?_ ?_<;>(intro _hg;try (exfalso;omega)))|refine au rfl ?_|refine r1Z ?_|fail)
  all_goals first|exact aC rfl|omega
 rw[if_neg h];obtain⟨k,hk⟩:∃k:Nat,r.n=k:=⟨r.n.toNat,by omega⟩
 have hfu:=Ki k (by omega);have hg:∀p,mC r p=if r.n<=p then(if r.hs.getD p 0=0 then 0 else 3) else if r.hs.getD p 0<0\/pw r.n-1<r.hs.getD p 0 then 2 else if hasFl (r.hs.getD p 0) p=true then 0 else 3:=λ_=>rfl
 have hcell:=λq hq=>mP r (q:=q) hq;have hpw:=yS (n:=r.n) (by omega);rw[hk] at hcell hpw;rw[<-rn hk,hk] at hfu;rw[hk] at hg h |-;refine wnZ and_self ?_;generalize pw (k:Int)=w at *;refine iq (X:=Nat) (λq=>[(1,.ptr 0 6 0),(3,.int .i64 q)]) (λq=>q<=5/\∀i,i<q->mC r i=0) (λq=>5-q) 0 ⟨bo _,λi hi=>absurd hi (Nat.not_lt_zero _)⟩ (by simp (disch:=omega) only[agr,ZG,reduceEqDiff,↓reduceIte,SL]) ?_;rintro q ⟨h1,h2⟩;by_cases hq:q<5
 rotate_left
 ·refine wnZ and_self ?_;refine aC ?_;exact(bV λi hi=>h2 i (by omega)).symm
 have hc:=hcell q hq;have hgq:=hg q;have hstop:∀(c:Int)(H:Hp),mC r q=c->c≠0->Snap H (.int .i64 c) (.int .i64 (bU (mC r) 5)):=λc H hc h0=>aC (by rw[dD (by omega) h2 (by rw[hc];exact h0),hc])
 have hgo:mC r q=0→(q + 1 ≤ 5∧∀ i,i < q + 1→mC r i=0)∧5 - (q + 1) < 5 - q:=fun hc=>⟨⟨by omega,fun i hi=>by
  rcases lL.1 hi with h|rfl
  ·exact h2 i h
  ·exact hc⟩,by omega⟩
 generalize r.hs.getD q 0=x at *;by_cases hn:(k:Int)<=q
 ·rw[if_pos hn] at hgq;by_cases hx:x=0
  ·rw[if_pos hx] at hgq;refine wnZ (aI @IX @hc) ?_;exact⟨q+1,(hgo hgq).1,(hgo hgq).2,ag0,rfl,rfl⟩
  ·rw[if_neg hx] at hgq;refine wnZ (aI @IX @hc) ?_;exact hstop _ _ hgq (by decide)
 rw[if_neg hn] at hgq;by_cases hx:x<0\/w-1<x
 ·rw[if_pos hx] at hgq;have zz:=aI @IX @hc;repeat' (first|refine zW ?_|apply a_n|apply a_r|refine zO ?_|refine vZ ?_|refine cZ ?_ (hp:=hfu)|refine gTZ ?_|refine gFZ ?_|refine cTZ ?_|(refine zGZ ?_ ?_<;>(intro _hg;try (exfalso;omega)))|refine au rfl ?_|refine r1Z ?_|fail)
  all_goals first|exact hstop _ _ hgq (by decide)|omega
 ·rw[if_neg hx] at hgq;have hhas:=qW x q (by omega) (by omega) (by omega);cases hb:hasFl x q with
  |true=>
   rw[hb,if_pos rfl] at hgq;rw[hb] at hhas;refine wnZ (aI @IX @hc) ?_;exact⟨q+1,(hgo hgq).1,(hgo hgq).2,ag0,rfl,rfl⟩
  |false=>
   rw[hb,if_neg (by decide)] at hgq;rw[hb] at hhas;refine wnZ (aI @IX @hc) ?_;exact hstop _ _ hgq (by decide)
theorem Ek(r:RndV):pU 162 [cK r] (.int .i64 (gu r)):=by
 refine pO P5 ?_;simp only[Od,aw];have hg:=EN r;have hs:=Fp r.n r.f;have hd:=iw r;unfold gu cK;unfold jQ at hg hd;rw[PC.2.1] at hg hd;rw[PC.1];generalize j0 r=e at *
 repeat' (first|refine zW ?_|apply a_n|apply a_r|refine zO ?_|refine vZ ?_|refine cZ ?_ (hp:=by first|exact hg|exact hs)|refine bxZ ?_|(refine zGZ ?_ ?_<;>(intro _hg;try (exfalso;omega)))|refine au rfl ?_|refine r1Z ?_|fail)
 ·rw[if_pos _hg];exact .int _ _
 ·rw[if_neg (by omega)];exact .int _ _
theorem Be(r s:RndV):pU 198 [jQ r,jQ s] (.int .i64 (aD r.gi s.gi)):=by
 refine pO Qv ?_;simp only[OU,aw];have h0:r.n≠s.n->aD r.gi s.gi=if r.n<s.n then-1 else 1:=λh=>od (q:=0) (l:=r.gi) (m:=s.gi) (Nat.zero_lt_succ _) (Nat.zero_lt_succ _) (λi hi=>absurd hi (Nat.not_lt_zero _)) h
 have hq1:∀ q,q < 5→r.n=s.n→(∀ i,i < q→r.hs.getD i 0=s.hs.getD i 0)→r.hs.getD q 0 ≠ s.hs.getD q 0→aD r.gi s.gi=if r.hs.getD q 0 < s.hs.getD q 0 then -1 else 1:=fun q hq h1 h2 h3=>od (q:=q + 1) (l:=r.gi) (m:=s.gi) (show q + 1 < 6 by omega) (show q + 1 < 6 by omega) (fun i hi=>by
  cases i with
  |zero=>exact h1
  |succ i=>exact h2 i (by omega)) h3
 have he:r.n=s.n->(∀i,i<5->r.hs.getD i 0=s.hs.getD i 0)->aD r.gi s.gi=0:=λh1 h2=>zp (l:=r.gi) (m:=s.gi) rfl λi hi=>by
  cases i with
  |zero=>exact h1
  |succ i=>exact h2 i (by have:i+1<6:=hi;omega)
 have hc1:=λq hq=>mP r (q:=q) hq;have hc2:=λq hq=>mP s (q:=q) hq;unfold jQ;rw[PC.2.1,PC.2.1];generalize aD r.gi s.gi=O at *
 repeat' (first|refine zW ?_|apply a_n|apply a_r|refine zO ?_|refine vZ ?_|refine bxZ ?_|(refine zGZ ?_ ?_<;>(intro _hg;try (exfalso;omega)))|refine au rfl ?_|refine r1Z ?_|fail)
 ·exact aC (by rw[h0 (by omega),if_pos _hg])
 ·exact aC (by rw[h0 (by omega),if_neg (by omega)])
 have hrs:r.n=s.n:=by omega
 refine iq (X:=Nat) (λq=>[(2,.ptr 0 6 0),(3,.ptr 1 6 0),(5,.int .i64 q)]) (λq=>q<=5/\∀i,i<q->r.hs.getD i 0=s.hs.getD i 0) (λq=>5-q) 0 ⟨bo _,λi hi=>absurd hi (Nat.not_lt_zero _)⟩ (by simp (disch:=omega) only[agr,ZG,reduceEqDiff,↓reduceIte,SL]) ?_;rintro q ⟨h1,h2⟩;by_cases hq:q<5
 rotate_left
 ·refine wnZ and_self ?_;exact aC (he hrs λi hi=>h2 i (by omega)).symm
 have hx:=hc1 q hq;have hy:=hc2 q hq;have hz:=hq1 q hq hrs h2
 have hgo:r.hs.getD q 0=s.hs.getD q 0->∀i,i<q+1->r.hs.getD i 0=s.hs.getD i 0:=λh i hi=>by
  rcases lL.1 hi with h|rfl
  ·exact h2 i h
  ·exact h
 generalize r.hs.getD q 0=x at *;generalize s.hs.getD q 0=y at *;have zz:=aI @IX (aI @hx @hy);repeat' (first|refine zW ?_|apply a_n|apply a_r|refine zO ?_|refine vZ ?_|(refine zGZ ?_ ?_<;>(intro _hg;try (exfalso;omega)))|refine au rfl ?_|refine r1Z ?_|fail)
 ·exact aC (by rw[hz (by omega),if_pos _hg])
 ·exact aC (by rw[hz (by omega),if_neg (by omega)])
 ·exact⟨q+1,⟨by omega,hgo (by omega)⟩,by omega,ag0,rfl,rfl⟩
theorem AC(r s:RndV):pU 163 [cK r,cK s] (.int .i64 (aD r.ints s.ints)):=by
 refine pO Om ?_;simp only[O4,aw];have hg:=Be r s
 have e:aD r.ints s.ints=if aD r.gi s.gi≠0 then aD r.gi s.gi else if r.f<s.f then-1 else if r.f>s.f then 1 else 0:=by
  rw[tI,tI,rJ (l:=r.gi) (m:=s.gi) _ _ rfl];rfl
 have d1:=iw r;have d2:=iw s;unfold cK;unfold jQ at hg d1 d2;rw[PC.2.1] at d1 d2;rw[PC.2.1,PC.2.1] at hg;rw[PC.1,PC.1,e];generalize aD r.gi s.gi=O at *
 repeat' (first|refine zW ?_|apply a_n|apply a_r|refine zO ?_|refine vZ ?_|refine cZ ?_ (hp:=hg)|refine bxZ ?_|(refine zGZ ?_ ?_<;>(intro _hg;try (exfalso;omega)))|refine au rfl ?_|refine r1Z ?_|fail)
 all_goals refine aC ?_
 ·rw[if_pos _hg]
 ·rw[if_neg (by omega),if_pos (by omega)]
 ·rw[if_neg (by omega),if_neg (by omega),if_pos (by omega)]
 ·rw[if_neg (by omega),if_neg (by omega),if_neg (by omega)]
theorem EC(r s:RndV):pU 172 [jQ r,jQ s] (.int .i64 (aD r.gi s.gi)):=by
 refine pO N5 ?_;simp only[Ns,aw];have h0:r.n≠s.n->aD r.gi s.gi=if r.n<s.n then-1 else 1:=λh=>od (q:=0) (l:=r.gi) (m:=s.gi) (Nat.zero_lt_succ _) (Nat.zero_lt_succ _) (λi hi=>absurd hi (Nat.not_lt_zero _)) h
 have hq1:∀ q,q < 5→r.n=s.n→(∀ i,i < q→r.hs.getD i 0=s.hs.getD i 0)→r.hs.getD q 0 ≠ s.hs.getD q 0→aD r.gi s.gi=if r.hs.getD q 0 < s.hs.getD q 0 then -1 else 1:=fun q hq h1 h2 h3=>od (q:=q + 1) (l:=r.gi) (m:=s.gi) (show q + 1 < 6 by omega) (show q + 1 < 6 by omega) (fun i hi=>by
  cases i with
  |zero=>exact h1
  |succ i=>exact h2 i (by omega)) h3
 have he:r.n=s.n->(∀i,i<5->r.hs.getD i 0=s.hs.getD i 0)->aD r.gi s.gi=0:=λh1 h2=>zp (l:=r.gi) (m:=s.gi) rfl λi hi=>by
  cases i with
  |zero=>exact h1
  |succ i=>exact h2 i (by have:i+1<6:=hi;omega)
 have hs0:[r.n,r.h0,r.h1,r.h2,r.h3,r.h4]=[s.n,s.h0,s.h1,s.h2,s.h3,s.h4]->aD r.gi s.gi=0:=λh=>si.2 h;have hc1:=λq hq=>mP r (q:=q) hq;have hc2:=λq hq=>mP s (q:=q) hq;have hcn:=CT r.n s.n;unfold jQ;rw[PC.2.1,PC.2.1];generalize aD r.gi s.gi=O at *;have zz:=@EQ;repeat' (first|refine zW ?_|apply a_n|apply a_r|refine zO ?_|refine vZ ?_|refine cZ ?_ (hp:=hcn)|refine bxZ ?_|(refine zGZ ?_ ?_<;>(intro _hg;try (exfalso;omega)))|refine au rfl ?_|refine r1Z ?_|fail)
 ·exact aC (hs0 _hg).symm
 ·refine aC ?_;rw[h0 (by omega)];split
  ·rfl
  ·rw[if_pos (by omega)]
 have hrs:r.n=s.n:=by omega
 refine iq (X:=Nat) (λq=>[(2,.ptr 0 6 0),(3,.ptr 1 6 0),(20,.int .i64 q)]) (λq=>q<=5/\∀i,i<q->r.hs.getD i 0=s.hs.getD i 0) (λq=>5-q) 0 ⟨bo _,λi hi=>absurd hi (Nat.not_lt_zero _)⟩ (by simp (disch:=omega) only[agr,ZG,reduceEqDiff,↓reduceIte,SL]) ?_;rintro q ⟨h1,h2⟩;by_cases hq:q<5
 rotate_left
 ·refine wnZ and_self ?_;exact aC (he hrs λi hi=>h2 i (by omega)).symm
 have hx:=hc1 q hq;have hy:=hc2 q hq;have hz:=hq1 q hq hrs h2
 have hgo:r.hs.getD q 0=s.hs.getD q 0->∀i,i<q+1->r.hs.getD i 0=s.hs.getD i 0:=λh i hi=>by
  rcases lL.1 hi with h|rfl
  ·exact h2 i h
  ·exact h
 generalize r.hs.getD q 0=x at *;generalize s.hs.getD q 0=y at *;have hcq:=CT x y;by_cases hxy:x=y
 ·rw[if_neg (by omega),if_neg (by omega)] at hcq;refine wkZ (zI3 @IX @hx @hy) ?_;exact⟨q+1,⟨by omega,hgo hxy⟩,by omega,ag0,rfl,rfl⟩
 ·rw[hz hxy]
  have e:(if x<y then(-1:Int) else if x>y then 1 else 0)=if x<y then-1 else 1:=by
   split
   ·rfl
   ·rw[if_pos (by omega)]
  rw[e] at hcq;have ne:(if x<y then(-1:Int) else 1)≠0:=by split<;>decide
  generalize (if x<y then(-1:Int) else 1)=z at *;refine wkZ (zI3 @IX @hx @hy) ?_;exact aC rfl
theorem rQ(r s:RndV):pU 139 [cK r,cK s] (.int .i64 (aD r.ints s.ints)):=by
 refine pO NR ?_;simp only[Pp,aw];have hg:=EC r s
 have e:aD r.ints s.ints=if aD r.gi s.gi≠0 then aD r.gi s.gi else if r.f<s.f then-1 else if r.f>s.f then 1 else 0:=by
  rw[tI,tI,rJ (l:=r.gi) (m:=s.gi) _ _ rfl];rfl
 have e0:[r.n,r.h0,r.h1,r.h2,r.h3,r.h4,r.f]=[s.n,s.h0,s.h1,s.h2,s.h3,s.h4,s.f]->aD r.ints s.ints=0:=λh=>si.2 h;have e1:[r.n,r.h0,r.h1,r.h2,r.h3,r.h4]=[s.n,s.h0,s.h1,s.h2,s.h3,s.h4]↔aD r.gi s.gi=0:=si.symm;have hc:=CT r.f s.f;have d1:=iw r;have d2:=iw s;unfold cK;unfold jQ at hg d1 d2;rw[PC.2.1] at d1 d2;rw[PC.2.1,PC.2.1] at hg;rw[PC.1,PC.1];generalize aD r.ints s.ints=OO at *;generalize aD r.gi s.gi=O at *;generalize (if r.f<s.f then(-1:Int) else if r.f>s.f then 1 else 0)=z at *;have zz:=@EQ;repeat' (first|refine zW ?_|apply a_n|apply a_r|refine zO ?_|refine vZ ?_|refine cZ ?_ (hp:=by first|exact hg|exact hc)|refine bxZ ?_|(refine zGZ ?_ ?_<;>(intro _hg;try (exfalso;omega)))|refine au rfl ?_|refine r1Z ?_|fail)
 all_goals refine aC ?_
 ·exact(e0 _hg).symm
 ·rw[e,if_pos λh=>_hg (e1.2 h)]
 ·rw[e,if_neg λh=>h (e1.1 _hg)]
theorem CO(a:AdvV)(h:ShA a):pU 72 [ca a] (.int .i64 (dl a.states:Nat)):=by
 refine pO RW ?_;simp only[b72,aw];obtain⟨h1,h2⟩:=h
 have ht:∀k,dl (a.states.take k)<=140737488355328:=λk=>by
  have:=xo (l:=a.states.take k) (B:=17592186044416) λx hx=>h2 x (BW hx);have h3:=List.length_take_le k a.states;have h4:(a.states.take k).length<=8:=by rw[iX];omega
  omega
 unfold ca;rw[PC.2.2.2.1];refine wnZ @PE ?_;refine iq (X:=Nat) (λk=>[(1,.ptr 0 2 0),(3,.int .i64 (dl (a.states.take k):Nat)),(4,.int .i64 k)]) (λk=>k<=a.states.length) (λk=>a.states.length-k) 0 (bo _) (by have e0:dl (a.states.take 0)=0:=rfl;simp (disch:=omega) only[agr,ZG,reduceEqDiff,↓reduceIte,SL,e0]) ?_;intro k hk;by_cases hlt:k<a.states.length
 ·have ix:=tz hlt;have e:=sL hlt;have b1:=ht k;have b2:=ht (k+1);rw[e] at b2;have e3:((dl (a.states.take k):Nat):Int)+((a.states.getD k default).length:Nat)=((dl (a.states.take (k+1)):Nat):Int):=by rw[e];omega
  refine wnZ (aI @PE @ix) ?_;exact⟨k+1,by omega,by omega,(have zz:=@e3;agZ),rfl,rfl⟩
 ·obtain rfl:k=a.states.length:=by omega
  rw[List.take_length];refine wnZ @PE ?_;exact aC rfl
theorem Jt(a:AdvV)(h:a.states.length<=8->ShA a)(hl:a.states.length<=17592186044416):pU 35 [ca a] (.bool (yn a)):=by
 refine pO Rm ?_;simp only[b35,aw];have hd:=bI a;unfold yn;by_cases h1:a.states.length<=8
 ·have hm:=CO a (h h1);unfold ca at hm hd |-;rw[PC.2.2.2.1] at hm hd |-;rw[bR h1,Bool.true_and];generalize dl a.states=M at *;refine wnZ @PE ?_;exact dE (decide_eq_decide.2 (by omega))
 ·rw[bJ h1];unfold ca;rw[PC.2.2.2.1];refine wnZ @PE ?_;exact .bool _
theorem Ha(a b:Int)(ha:0<=a/\a<=9223372036854775807)(hb:0<=b/\b<=9223372036854775807):pU 164 [.int .i64 a,.int .i64 b] (.bool (iZ a b)):=by
 refine pO PF ?_;simp only[PW,aw];unfold iZ;refine wnZ and_self ?_;refine ta (λk=>[(0,.int .i64 a),(1,.int .i64 b),(5,.int .i64 k)]) 5 (λp=>(!hasFl a p || hasFl b p)=true) ag0 ?_;intro k hk hp;by_cases hlt:k<5
 rotate_left
 ·refine wnZ and_self ?_;rw[vQ λi hi=>hp i (by omega)];exact .bool _
 have h1:=qW a k ha.1 ha.2 (by omega);have h2:=qW b k hb.1 hb.2 (by omega);have hf:(!hasFl a k || hasFl b k)=false->(List.range 5).all (λp=>!hasFl a p || hasFl b p)=false:=λh=>tH hlt h;cases e1:hasFl a k<;>cases e2:hasFl b k
 all_goals rw[e1] at h1 hf;rw[e2] at h2 hf
 ·refine wnZ and_self ?_;exact⟨hlt,rfl,ag0,rfl,rfl⟩
 ·refine wnZ and_self ?_;exact⟨hlt,rfl,ag0,rfl,rfl⟩
 ·refine wnZ and_self ?_;rw[hf rfl];exact .bool _
 ·refine wnZ and_self ?_;exact⟨hlt,rfl,ag0,rfl,rfl⟩
theorem LS(a:AdvV)(l:List MvV)(i:Nat)(hi:i<l.length)(hl:l.length<=17592186044416):pU 128 [ca a,bD l,.int .i64 i] (.int .i64 (nt a l i)):=by
 refine pO Ou ?_;simp only[Qp,aw];have ix:=ixM hi;have hc:=Ek (l.getD i default).r;have hd:=fY (l.getD i default).r;have hcm:=λp=>AC p (l.getD i default).r;rw[PC.2.2.1] at ix;unfold ca nt;unfold cK at hc hd hcm;rw[PC.1] at hc hd
 have hcm1:∀p:RndV,pU 163 [.agg [.int .i64 p.n,.int .i64 p.h0,.int .i64 p.h1,.int .i64 p.h2,.int .i64 p.h3,.int .i64 p.h4,.int .i64 p.f],.agg [.int .i64 (l.getD i default).r.n,.int .i64 (l.getD i default).r.h0,.int .i64 (l.getD i default).r.h1,.int .i64 (l.getD i default).r.h2,.int .i64 (l.getD i default).r.h3,.int .i64 (l.getD i default).r.h4,.int .i64 (l.getD i default).r.f]] (.int .i64 (aD p.ints (l.getD i default).r.ints)):=λp=>by
  have:=hcm p;rw[PC.1,PC.1] at this;exact this
 clear hcm;rw[PC.2.2.2.1];cases i with
 |zero=>
  rw[show(0:Nat)-1=0 from rfl];generalize l.getD 0 default=m at *;generalize gu m.r=e at *;have zz:=aI @PE @ix;repeat' (first|refine zW ?_|refine zM ?_|apply a_n|apply a_r|refine zO ?_|refine vZ ?_|refine cZ ?_ (hp:=hc)|refine alZ ?_|refine bxZ ?_|refine stZ ?_|refine gTZ ?_|refine gFZ ?_|refine cTZ ?_|refine cFZ ?_|(refine zGZ ?_ ?_<;>(intro _hg;try (exfalso;omega)))|refine au rfl ?_|refine r1Z ?_|fail)
  all_goals (refine aC ?_;(repeat' split)<;>omega)
 |succ j=>
  have ix2:eo 8 (bD l) (.int .i64 (((j+1:Nat):Int)-1))=some (.iptr (l.getD j default).cs 0):=by
   rw[show((j+1:Nat):Int)-1=(j:Int) by omega];exact ixM (by omega)
  rw[PC.2.2.1] at ix2;rw[show j+1-1=j from rfl];have hcp:=hcm1 (l.getD j default).r;have hdp:=fY (l.getD j default).r;unfold cK at hdp;rw[PC.1] at hdp;clear hcm1;generalize l.getD (j+1) default=m at *;generalize l.getD j default=p at *;generalize gu m.r=e at *;generalize aD p.r.ints m.r.ints=O at *;have zz:=aI @PE (aI @ix @ix2);repeat' (first|refine zW ?_|refine zM ?_|apply a_n|apply a_r|refine zO ?_|refine vZ ?_|refine cZ ?_ (hp:=by first|exact hc|exact hcp)|refine alZ ?_|refine bxZ ?_|refine stZ ?_|refine gTZ ?_|refine gFZ ?_|refine cTZ ?_|(refine zGZ ?_ ?_<;>(intro _hg;try (exfalso;omega)))|refine au rfl ?_|refine r1Z ?_|fail)
  all_goals (refine aC ?_;(repeat' split)<;>omega)
theorem I7(a:AdvV)(hs:ShA a)(h:∀l∈a.states,∀m∈l,MvOk a m)(h5:a.n<=5):pU 129 [ca a] (.bool (j7 a)):=by
 refine pO Nt ?_;simp only[Pn,aw];obtain⟨h1,h2⟩:=hs;have hp:=yS h5
 have hf:∀l∈a.states,∀m∈l,0<=m.r.f/\m.r.f<=9223372036854775807:=λl hl m hm=>by
  obtain⟨q1,q2,_,_⟩:=h l hl m hm;obtain⟨_,q3,q4⟩:=eX q1;rw[q2] at q4;omega
 have hto:∀l∈a.states,∀m∈l,0<=m.to/\m.to<a.states.length:=λl hl m hm=>⟨(h l hl m hm).to0,(h l hl m hm).to1⟩
 unfold ca;rw[PC.2.2.2.1];refine wnZ @PE ?_;refine bq (X:=Nat) (λs=>[(1,.ptr 0 2 0),(3,.int .i64 s)]) (λs H nx=>s<=a.states.length/\(∀i,i<s->(a.states.getD i default).all (oJ a)=true)/\H 0=some [.int .i64 a.n,aQ a.states]/\0<nx) (λs=>a.states.length-s) 0 ⟨bo _,λi hi=>absurd hi (Nat.not_lt_zero _),rfl,jf⟩ (by simp (disch:=omega) only[agr,ZG,reduceEqDiff,↓reduceIte,SL]) ?_;rintro s H1 n1 ⟨s1,s2,g1,b1⟩;by_cases hs:s<a.states.length
 rotate_left
 ·refine wnY (aI @PE @g1) ?_;rw[show j7 a=true from ol λi hi=>s2 i (by omega)];exact .bool _
 have ix:=tz hs;have hl:=ao (l:=a.states) hs;have hgl:(a.states.getD s default).all (oJ a)=false->j7 a=false:=λq=>kC hs q
 have hgt:(a.states.getD s default).all (oJ a)=true->∀i,i<s+1->(a.states.getD i default).all (oJ a)=true:=λq i hi=>by
  rcases lL.1 hi with e|rfl
  ·exact s2 i e
  ·exact q
 have hl2:=h2 _ hl;have hfl:=hf _ hl;have htl:=hto _ hl;generalize a.states.getD s default=l at *;refine wnY (aI @PE @g1) ?_;refine bq (X:=Nat) (λk=>[(1,.ptr 0 2 0),(3,.int .i64 s),(4,.int .i64 k)]) (λk H nx=>k<=l.length/\(∀i,i<k->oJ a (l.getD i default)=true)/\H 0=some [.int .i64 a.n,aQ a.states]/\0<nx) (λk=>l.length-k) 0 ⟨bo _,λi hi=>absurd hi (Nat.not_lt_zero _),g1,b1⟩ ag0 ?_;clear g1 b1;rintro k H2 n2 ⟨k1,k2,g1,b1⟩;by_cases hk:k<l.length
 rotate_left
 ·refine wnY (zI3 @PE @ix @g1) ?_;exact⟨s+1,by omega,⟨by omega,hgt (ol λi hi=>k2 i (by omega)),g1,b1⟩,ag0⟩
 have ixm:=ixM hk;rw[PC.2.2.1] at ixm;have hm:=ao hk;have hml:oJ a (l.getD k default)=false->j7 a=false:=λq=>hgl (kC hk q)
 have hmt:oJ a (l.getD k default)=true->∀i,i<k+1->oJ a (l.getD i default)=true:=λq i hi=>by
  rcases lL.1 hi with e|rfl
  ·exact k2 i e
  ·exact q
 have hfm:=hfl _ hm;have htm:=htl _ hm;unfold oJ at hml hmt;rw[<-nK] at hml hmt;generalize l.getD k default=m at *;have ixs:=K3 (l:=a.states) htm;have hl':=ao (l:=a.states) (k:=m.to.toNat) (by omega);have hl2':=h2 _ hl';have hfl':=hf _ hl';generalize a.states.getD m.to.toNat default=l' at *;refine wnY (zI4 @PE @ix @ixm @g1) ?_;have gm:∀cs,av (av H2 n2 cs) n2 (cI cs 0 [.int .i64 m.r.n,.int .i64 m.r.h0,.int .i64 m.r.h1,.int .i64 m.r.h2,.int .i64 m.r.h3,.int .i64 m.r.h4,.int .i64 m.r.f,.int .i64 m.to]) 0=H2 0:=λcs=>by rw[ab (by omega),ab (by omega)]
 refine bq (X:=Nat) (λj=>[(1,.ptr 0 2 0),(3,.int .i64 s),(4,.int .i64 k),(5,.ptr n2 8 0),(6,.int .i64 j)]) (λj H nx=>j<=l'.length/\(∀i,i<j->iZ m.r.f (l'.getD i default).r.f=true)/\H 0=some [.int .i64 a.n,aQ a.states]/\0<nx/\H n2=some [.int .i64 m.r.n,.int .i64 m.r.h0,.int .i64 m.r.h1,.int .i64 m.r.h2,.int .i64 m.r.h3,.int .i64 m.r.h4,.int .i64 m.r.f,.int .i64 m.to]) (λj=>l'.length-j) 0 ⟨bo _,λi hi=>absurd hi (Nat.not_lt_zero _),(gm _).trans g1,by omega,ae⟩ (by simp (disch:=omega) only[agr,ZG,reduceEqDiff,↓reduceIte,SL]) ?_;clear g1 b1 gm;rintro j H3 n3 ⟨j1,j2,g1,b1,gm⟩;by_cases hj:j<l'.length
 rotate_left
 ·refine wnY (zI4 @PE @ixs @g1 @gm) ?_;exact⟨k+1,by omega,⟨by omega,hmt (ol λi hi=>j2 i (by omega)),g1,b1⟩,ag0⟩
 have ixj:=ixM hj;rw[PC.2.2.1] at ixj;have hin:=Ha m.r.f (l'.getD j default).r.f hfm (hfl' _ (ao hj));have hjl:iZ m.r.f (l'.getD j default).r.f=false->j7 a=false:=λq=>hml (kC hj q);generalize hvj:iZ m.r.f (l'.getD j default).r.f=v at *;cases v with
 |true=>
  refine wkY (zI5 @PE @ixs @ixj @g1 @gm) ?_
  exact ⟨j + 1,by omega,⟨by omega,fun i hi=>by
   rcases lL.1 hi with e|rfl
   ·exact j2 i e
   ·exact hvj,g1,b1,gm⟩,ag0⟩
 |false=>
  refine wkY (zI5 @PE @ixs @ixj @g1 @gm) ?_;rw[hjl rfl];exact .bool _
theorem EH(a:AdvV)(hs:ShA a)(h40:dl a.states<=4096):pU 74 [ca a] (.int .i64 (tw a)):=by
 refine pO Q0 ?_;simp only[b74,aw];have hmo:=CO a hs;have hd:=bI a;have hgr:(∀l∈a.states,∀m∈l,MvOk a m)->a.n<=5->pU 129 [ca a] (.bool (j7 a)):=λh1 h2=>I7 a hs h1 h2;have hmv:=LS a;obtain⟨h1,h2⟩:=hs;unfold ca at hmo hd hgr hmv |-;rw[PC.2.2.2.1] at hmo hd hgr hmv |-;generalize hM:dl a.states=M at *;have e0:(a.n<1\/5<a.n)->tw a=2:=λh=>by unfold tw;rw[if_pos h]
 have e1:¬(a.n<1\/5<a.n)->a.states.length<1->tw a=5:=λh h'=>by unfold tw;rw[if_neg h,if_pos (.inl h')]
 have e2:¬(a.n<1\/5<a.n)->¬a.states.length<1->tw a=if bU (fw a) a.states.length≠0 then bU (fw a) a.states.length else if j7 a=true then 0 else 21:=λh h'=>by
  unfold tw;rw[if_neg h,if_neg (by omega)]
 by_cases c0:a.n<1\/5<a.n
 ·rw[e0 c0];have zz:=@PE;repeat' (first|refine zW ?_|apply a_n|apply a_r|refine zO ?_|refine vZ ?_|refine bxZ ?_|refine gTZ ?_|refine gFZ ?_|refine cTZ ?_|(refine zGZ ?_ ?_<;>(intro _hg;try (exfalso;omega)))|refine au rfl ?_|refine r1Z ?_|fail)
  all_goals exact aC rfl
 by_cases c1:a.states.length<1
 ·rw[e1 c0 c1];refine wnZ @PE ?_;exact aC rfl
 rw[e2 c0 c1];have hok:∀i,fw a i=0->(∀m∈a.st i,MvOk a m):=λi h=>(AP h).2.1;have hst:∀s,s<a.states.length->(a.st s).length≠0->fw a s=bU (nt a (a.st s)) (a.st s).length:=λs _ h=>by unfold fw;rw[if_neg h]
 have hst0:∀s,s<a.states.length->(a.st s).length=0->fw a s=19:=λs _ h=>by unfold fw;rw[if_pos h]
 refine wnZ @PE ?_;refine iq (X:=Nat) (λs=>[(1,.ptr 0 2 0),(3,.int .i64 s)]) (λs=>s<=a.states.length/\∀i,i<s->fw a i=0) (λs=>a.states.length-s) 0 ⟨bo _,λi hi=>absurd hi (Nat.not_lt_zero _)⟩ (by simp (disch:=omega) only[agr,ZG,reduceEqDiff,↓reduceIte,SL]) ?_;rintro s ⟨s1,s2⟩;by_cases hs:s<a.states.length
 rotate_left
 ·have hz:∀i,i<a.states.length->fw a i=0:=λi hi=>s2 i (by omega);rw[if_neg λq=>q (bV hz)]
  have hg:=hgr (fun l hl=>by
   obtain⟨i,hi,rfl⟩:=fW hl;have:=hok i (hz i hi)
   rwa [show a.st i=a.states[i] by simp[AdvV.st,List.getD,hi]] at this) (by omega)
  cases hgv:j7 a with
  |true=>
   rw[hgv] at hg;refine wnZ @PE ?_;exact aC (by rw[if_pos rfl])
  |false=>
   rw[hgv] at hg;refine wnZ @PE ?_;exact aC (by rw[if_neg (by decide)])
 have hstop:∀{c:Int}{H:Hp},fw a s=c->c≠0->Snap H (.int .i64 c) (.int .i64 (if bU (fw a) a.states.length≠0 then bU (fw a) a.states.length else if j7 a=true then 0 else 21)):=λ{c H} q1 q2=>by
  have:=Bm hs s2 q1 q2;exact aC (by rw[this,if_pos q2])
 have hgo:fw a s=0->∀i,i<s+1->fw a i=0:=Ih s2;have ix:=tz hs;have hmvl:=λi hi hl=>hmv (a.states.getD s default) i hi hl;have hl2:=h2 _ (ao (l:=a.states) hs);have q1:=hst s hs;have q2:=hst0 s hs;rw[<-nK] at q1 q2;have hd2:=kI (a.states.getD s default);generalize a.states.getD s default=l at *;by_cases h0:l.length=0
 ·refine wnZ (aI @PE @ix) ?_;exact hstop (q2 h0) (by decide)
 have q3:=q1 h0;refine wnZ (aI @PE @ix) ?_;refine iq (X:=Nat) (λk=>[(1,.ptr 0 2 0),(3,.int .i64 s),(4,.int .i64 k)]) (λk=>k<=l.length/\∀i,i<k->nt a l i=0) (λk=>l.length-k) 0 ⟨bo _,λi hi=>absurd hi (Nat.not_lt_zero _)⟩ ag0 ?_;rintro k ⟨k1,k2⟩;by_cases hk:k<l.length
 rotate_left
 ·refine wnZ (aI @PE @ix) ?_;exact⟨s+1,⟨by omega,hgo (by rw[q3];exact bV λi hi=>k2 i (by omega))⟩,by omega,ag0,rfl,rfl⟩
 have hm:=hmvl k hk (by omega);have hms:nt a l k≠0->fw a s=nt a l k:=λh=>by rw[q3];exact dD hk k2 h
 have hmg:nt a l k=0->∀i,i<k+1->nt a l i=0:=Ih k2;generalize nt a l k=e at *;have zz:=aI @PE @ix;repeat' (first|refine zW ?_|refine zM ?_|apply a_n|apply a_r|refine zO ?_|refine vZ ?_|refine cZ ?_ (hp:=hm)|(refine zGZ ?_ ?_<;>(intro _hg;try (exfalso;omega)))|refine au rfl ?_|refine r1Z ?_|fail)
 ·exact hstop (hms _hg) _hg
 ·exact⟨k+1,⟨by omega,hmg (by omega)⟩,by omega,ag0,rfl,rfl⟩
theorem Ct(a:AdvV)(ha:ShA a)(ho:AdvOk a)(k:Nat)(hk:k<=6)(lim:Int)(hl:0<=lim)(hl2:lim<=1048576):pU 75 [ca a,.int .i64 k,.int .i64 lim] (.int .i64 (lP a k lim)):=by
 refine pO Q2 ?_;simp only[b75,aw];obtain⟨h1,h2⟩:=ha;have hto:∀l∈a.states,∀m∈l,0<=m.to/\m.to<a.states.length:=λl hl m hm=>⟨(ho.mv l hl m hm).to0,(ho.mv l hl m hm).to1⟩
 have h0:=ho.s1;have hcl:=ug (a:=a) (lim:=lim);have hcb:=tM (a:=a) (lim:=lim) hl;unfold ca lP;rw[PC.2.2.2.1];refine wnY @PE ?_;refine bq (X:=Nat×AV) (λx=>[(1,.int .i64 k),(2,.int .i64 lim),(3,.ptr 0 2 0),(7,x.2),(8,.int .i64 x.1)]) (λx H nx=>x.1<=a.states.length/\H 0=some [.int .i64 a.n,aQ a.states]/\0<nx/\Row H 1 x.2 ((List.replicate x.1 (1:Int)).map (AV.int .i64))/\∀b,bk x.2=some b->0<b/\b<nx) (λx=>a.states.length-x.1) (0,.esl) ⟨bo _,ae,jf,.nil,λb h=>(by cases h)⟩ (by simp (disch:=omega) only[agr,ZG,reduceEqDiff,↓reduceIte,SL]) ?_;rintro⟨i,sv⟩ H1 n1 ⟨i1,g0,hn,hrow,hb⟩;dsimp only at i1 hrow hb |-;by_cases hi:i<a.states.length
 ·refine wnY (aI @PE @g0) ?_;refine dY (k:=1) (new:=[.int .i64 1]) rfl ev0 (hrow.same λb h=>by have:=hb b h;rw[ab (by omega)]) ev0 pr rfl rfl jf (by simp;omega) (by simp;omega) ?_;rintro s' H' nx' r1 r2 r3 r4 r5;refine wnY @PE ?_;refine⟨(i+1,s'),by dsimp only;omega,⟨by dsimp only;omega,?_,by omega,?_,λb h=>?_⟩,ag0⟩
  ·rw[r4 0 (by omega) (λh=>by have:=hb 0 h;omega),ab (by omega)];exact g0
  ·dsimp only;rw[List.replicate_succ',dp];exact r1
  ·rcases r5 b h with h|h
   ·have:=hb b h;omega
   ·omega
 obtain rfl:i=a.states.length:=by omega
 have e0:gI a lim 0=List.replicate a.states.length (1:Int):=by unfold gI;exact List.map_const' ..
 rw[<-e0] at hrow;refine wnY (aI @PE @g0) ?_;obtain⟨Hf,H2,z1,z2,z3⟩:=DY hrow λ_ h=>h.snapI;refine pM (X:=Nat) (λj=>[(1,.int .i64 k),(2,.int .i64 lim),(3,.ptr 0 2 0),(7,aq (gI a lim j)),(9,.int .i64 j)]) (λj H nx=>j<=k/\H 0=some [.int .i64 a.n,aQ a.states]/\0<nx) (λj=>k-j) 0 ⟨Hf,H2,z1,⟨bo _,(z3 0 λh=>by have:=hb 0 h;omega).trans g0,hn⟩,.inl rfl,.inl rfl,.inl rfl,.inr z2,.inl rfl,trivial⟩ ?_;clear z1 z2 z3 hrow hb g0 H2 Hf hn;rintro j H2 n2 ⟨j1,g0,hn⟩;by_cases hj:j<k
 rotate_left
 ·obtain rfl:j=k:=by omega
  have ix:eo 1 (aq (gI a lim j)) (.int .i64 0)=some (.iptr [.int .i64 ((gI a lim j).getD 0 0)] 0):=zJ (Int.le_refl _) (by rw[hcl];omega);refine wnY @ix ?_;exact aC rfl
 have hcj:=hcb j;have hcn:∀s,s<a.states.length->(gI a lim (j+1)).getD s default=te lim (gI a lim j) (a.st s):=λs hs=>G9 hs;have hlj:=hcl j;have hlj1:=hcl (j+1);generalize gI a lim j=C at *;refine wnY and_self ?_;refine bq (X:=Nat×AV) (λx=>[(1,.int .i64 k),(2,.int .i64 lim),(3,.ptr 0 2 0),(7,aq C),(9,.int .i64 j),(10,x.2),(11,.int .i64 x.1)]) (λx H nx=>x.1<=a.states.length/\H 0=some [.int .i64 a.n,aQ a.states]/\0<nx/\Row H 1 x.2 (((gI a lim (j+1)).take x.1).map (AV.int .i64))/\∀b,bk x.2=some b->0<b/\b<nx) (λx=>a.states.length-x.1) (0,.esl) ⟨bo _,g0,hn,.nil,λb h=>(by cases h)⟩ ag0 ?_;clear g0 hn;rintro⟨s,sv⟩ H3 n3 ⟨s1,g0,hn,hrow,hb⟩;dsimp only at s1 hrow hb |-;by_cases hs:s<a.states.length
 rotate_left
 ·rw[ju (by omega)] at hrow;refine wnY (aI @PE @g0) ?_;obtain⟨Hf,H2,z1,z2,z3⟩:=DY hrow λ_ h=>h.snapI;have ej:((j:Nat):Int)+1=((j+1:Nat):Int):=by omega
  refine⟨j+1,by omega,Hf,H2,z1,⟨by omega,(z3 0 λh=>by have:=hb 0 h;omega).trans g0,hn⟩,?_⟩;refine⟨.inl ev0,.inl ev0,.inl ev0,.inr ?_,.inl (have zz:=@ej;evZ),trivial⟩;have e:∀v,v=sv->Snap Hf v (aq (gI a lim (j+1))):=λv h=>h▸z2;exact e _ ev0
 have ix:=tz hs;have hv:=hcn s hs;rw[<-nK] at hv;have htk:=bZ (l:=gI a lim (j+1)) (k:=s) (by omega);rw[hv] at htk;have htl:=hto _ (ao (l:=a.states) hs);have hll:=h2 _ (ao (l:=a.states) hs);generalize a.states.getD s default=l at *;refine wnY (aI @PE @g0) ?_;have hct:=zo hl hcj l;refine iq (X:=Nat) (λi=>[(1,.int .i64 k),(2,.int .i64 lim),(3,.ptr 0 2 0),(7,aq C),(9,.int .i64 j),(10,sv),(11,.int .i64 s),(12,.int .i64 (wJ lim C l i)),(13,.int .i64 i)]) (λi=>i<=l.length) (λi=>l.length-i) 0 (bo _) (by have e:wJ lim C l 0=0:=rfl;simp (disch:=omega) only[agr,ZG,reduceEqDiff,↓reduceIte,e]) ?_;intro i hi;by_cases hil:i<l.length
 rotate_left
 ·obtain rfl:i=l.length:=by omega
  rw[AS];generalize te lim C l=z at *;refine wnY (zI3 @PE @g0 @ix) ?_;refine dY (k:=1) (new:=[.int .i64 z]) rfl ev0 (hrow.same λb h=>by have:=hb b h;rw[ab (by omega)]) ev0 pr rfl rfl jf (by simp;omega) (by simp;omega) ?_;rintro s' H' nx' r1 r2 r3 r4 r5;refine wnY and_self ?_;refine⟨(s+1,s'),by dsimp only;omega,⟨by dsimp only;omega,?_,by omega,?_,λb h=>?_⟩,ag0⟩
  ·rw[r4 0 (by omega) (λh=>by have:=hb 0 h;omega),ab (by omega)];exact g0
  ·dsimp only;rw[htk,dp];exact r1
  ·rcases r5 b h with h|h
   ·have:=hb b h;omega
   ·omega
 have ixm:=ixM hil;rw[PC.2.2.1] at ixm;have hm:=htl _ (ao hil);have hcv:=xt (lim:=lim) (c:=C) hil;have hci:=hct i hi;generalize l.getD i default=m at *;have ixc:eo 1 (aq C) (.int .i64 m.to)=some (.iptr [.int .i64 (C.getD m.to.toNat 0)] 0):=zJ hm.1 (by omega);have hcm:=hcj (C.getD m.to.toNat 0) (jr (by omega));generalize C.getD m.to.toNat 0=y at *;generalize wJ lim C l i=z at *;refine wnY (zI5 @PE @g0 @ix @ixm @ixc) ?_;exact⟨i+1,by omega,by omega,(have zz:=@hcv;agZ),rfl,rfl⟩
theorem L5(a:AdvV)(ha:ShA a)(ho:AdvOk a):∀(k s:Nat),s<a.states.length->k<=6->(bf a k s).length<=4096->pU 76 [ca a,.int .i64 s,.int .i64 k] (d9 (bf a k s)):=by
 intro k
 induction k with
 |zero=>
  intro s hs hk hw;refine pO O3 ?_;simp only[b76,aw];unfold ca;rw[PC.2.2.2.1];have z:decide (((0:Nat):Int)=0)=true:=rfl;refine wnY (aI @PE @z) ?_;refine oq (l:=[bB []]) ae rfl (by simp) rfl (λy hy=>?_) (λi a c ha hc=>?_)
  ·simp at hy;subst hy;rfl
  ·match i with
   |0=>simp at ha hc;subst ha hc;exact .eslsl 7
 |succ k ih=>
  intro s hs hk hw;have hwl:=xJ (a:=a) (k:=k) (s:=s)
  have hcall:∀m∈a.st s,(bf a k m.to.toNat).length<=4096/\pU 76 [ca a,.int .i64 m.to,.int .i64 k] (d9 (bf a k m.to.toNat)):=λm hm=>by
   obtain⟨_,_,q1,q2⟩:=ho.mv _ (fJ hs) m hm
   have hle:(bf a k m.to.toNat).length<=(bf a (k+1) s).length:=by
    rw[hwl];exact DF (cE.2 ⟨m,hm,rfl⟩)
   have:=ih m.to.toNat (by omega) (by omega) (by omega);rw[show((m.to.toNat:Nat):Int)=m.to by omega] at this;exact⟨by omega,this⟩
  refine pO O3 ?_;simp only[b76,aw];have hd:=bI a;unfold ca at hcall hd |-;rw[PC.2.2.2.1] at hcall hd |-;have z:decide (((k+1:Nat):Int)=0)=false:=bJ (by omega);have ix:=tz hs;rw[nK] at ix;have hll:=ha.each _ (fJ hs);have hW:bf a (k+1) s=(a.st s).flatMap λm=>(bf a k m.to.toNat).map λw=>m.r::w:=rfl;rw[hW] at hw |-;have hlen6:∀m∈a.st s,∀w∈bf a k m.to.toNat,w.length<=6:=λm _ w hw=>by rw[ms hw];omega
  clear ih hwl hW;generalize a.st s=l at *;have tk:((k+1:Nat):Int)-1=(k:Nat):=by omega
  refine wnY (aI @PE @z) ?_;refine bq (X:=Nat×AV) (λx=>[(1,.int .i64 s),(2,.int .i64 ((k+1:Nat):Int)),(3,.ptr 0 2 0),(7,x.2),(8,.int .i64 x.1)]) (λx H nx=>x.1<=l.length/\H 0=some [.int .i64 a.n,aQ a.states]/\0<nx/\Row H 1 x.2 (((l.take x.1).flatMap λm=>(bf a k m.to.toNat).map λw=>m.r::w).map bB)/\∀b,bk x.2=some b->0<b/\b<nx) (λx=>l.length-x.1) (0,.esl) ⟨bo _,ae,jf,.nil,λb h=>(by cases h)⟩ (by simp (disch:=omega) only[agr,ZG,reduceEqDiff,↓reduceIte,SL]) ?_;rintro⟨i,sv⟩ H nx ⟨i1,g0,hn,hrow,hb⟩;dsimp only at i1 hrow hb |-;by_cases hi:i<l.length
  rotate_left
  ·rw[ju (by omega)] at hrow;refine wnY (zI3 @PE @g0 @ix) ?_;exact Dg hrow
  have ixm:=ixM hi;rw[PC.2.2.1] at ixm;have hm:=ao hi;obtain⟨c1,c2⟩:=hcall _ hm;have c3:=hlen6 _ hm
  have hdl:(((l.take i).flatMap λm=>(bf a k m.to.toNat).map λw=>m.r::w)++(bf a k (l.getD i default).to.toNat).map λw=>(l.getD i default).r::w).length<=4096:=by
   have e:l.flatMap (λm=>(bf a k m.to.toNat).map λw=>m.r::w)=(l.take (i+1)).flatMap (λm=>(bf a k m.to.toNat).map λw=>m.r::w)++(l.drop (i+1)).flatMap λm=>(bf a k m.to.toNat).map λw=>m.r::w:=by
    rw[<-List.flatMap_append,qI]
   rw[e,cP,bZ hi,List.flatMap_append,lj,List.flatMap_nil,jd] at hw;omega
  have hnx:((l.take (i+1)).flatMap λm=>(bf a k m.to.toNat).map λw=>m.r::w)=((l.take i).flatMap λm=>(bf a k m.to.toNat).map λw=>m.r::w)++(bf a k (l.getD i default).to.toNat).map λw=>(l.getD i default).r::w:=by
   rw[bZ hi,List.flatMap_append,lj,List.flatMap_nil,jd]
  generalize bf a k (l.getD i default).to.toNat=R at *;generalize l.getD i default=m at *;generalize hD:((l.take i).flatMap λm=>(bf a k m.to.toNat).map λw=>m.r::w)=D at *;refine wnY (zI5 @PE @g0 @ix @ixm @tk) ?_;have f0:∀cs x,x<nx->av (av H nx cs) nx (cI cs 0 [.int .i64 m.r.n,.int .i64 m.r.h0,.int .i64 m.r.h1,.int .i64 m.r.h2,.int .i64 m.r.h3,.int .i64 m.r.h4,.int .i64 m.r.f,.int .i64 m.to]) x=H x:=λcs x hx=>by rw[ab (by omega),ab (by omega)]
  refine pM (X:=Nat×AV) (λx=>[(1,.int .i64 s),(2,.int .i64 ((k+1:Nat):Int)),(3,.ptr 0 2 0),(7,x.2),(8,.int .i64 i),(9,.ptr nx 8 0),(10,d9 R),(11,.int .i64 x.1)]) (λx H n=>x.1<=R.length/\H 0=some [.int .i64 a.n,aQ a.states]/\nx<n/\H nx=some [.int .i64 m.r.n,.int .i64 m.r.h0,.int .i64 m.r.h1,.int .i64 m.r.h2,.int .i64 m.r.h3,.int .i64 m.r.h4,.int .i64 m.r.f,.int .i64 m.to]/\Row H 1 x.2 ((D++(R.take x.1).map (m.r:: ·)).map bB)/\∀b,bk x.2=some b->0<b/\b≠nx/\b<n) (λx=>R.length-x.1) (0,sv) ⟨aP,_,Fz.none,⟨bo _,(f0 _ 0 hn).trans g0,by omega,ae,by rw[List.take_zero,List.map_nil,jd];exact hrow.same λb h=>f0 _ b (hb b h).2,λb h=>by have:=hb b h;omega⟩,eT (by simp (disch:=omega) only[agr,ZG,reduceEqDiff,↓reduceIte,SL])⟩ ?_;clear hrow hb g0 f0;rintro⟨j,sv⟩ H1 nx1 ⟨j1,g0,hn1,gm,hrow,hb⟩;dsimp only at j1 hrow hb |-;obtain⟨o1,o2⟩:=hrow.one;by_cases hj:j<R.length
  rotate_left
  ·rw[ju (by omega)] at hrow;refine wnY (zI3 @PE @o1 @o2) ?_;exact⟨(i+1,sv),by dsimp only;omega,⟨by dsimp only;omega,g0,by omega,by dsimp only;rw[hnx];exact hrow,λb h=>by have:=hb b h;omega⟩,ag0⟩
  have iy:=Mq hj;have hwl:=c3 _ (ao hj)
  have e1:(D++(R.take (j+1)).map (m.r:: ·)).map bB=(D++(R.take j).map (m.r:: ·)).map bB++[bB (m.r::R.getD j default)]:=by
   simp only[bZ hj,dp,io,f9,List.map_nil]
  have hln:((D++(R.take j).map (m.r:: ·)).map bB).length<=4096:=by
   rw[cP,bi] at hdl;rw[bi,cP,bi,iX];omega
  generalize R.getD j default=w at *;refine wnY (zI5 @PE @iy @gm @o1 @o2) ?_;refine dY (xv:=bB w) (sv:=.msl nx1 7 7 0 1) (cs:=[.int .i64 m.r.n,.int .i64 m.r.h0,.int .i64 m.r.h1,.int .i64 m.r.h2,.int .i64 m.r.h3,.int .i64 m.r.h4,.int .i64 m.r.f]) rfl ev0 (Row.box nx1 1 _ ae rfl) ev0 uQ (ye w) (yv w) (by omega) (by simp;omega) (by simp;omega) ?_;rintro s2 H2 nx2 r1 r2 r3 r4 r5;obtain⟨b2,ln,rfl,hb2,hl2⟩:=jR r1 (by simp)
  have hb3:nx1<=b2/\b2<nx2:=by
   rcases r5 b2 rfl with e|⟨e,_⟩
   ·cases e;omega
   ·omega
  have hcw:[AV.int .i64 m.r.n,.int .i64 m.r.h0,.int .i64 m.r.h1,.int .i64 m.r.h2,.int .i64 m.r.h3,.int .i64 m.r.h4,.int .i64 m.r.f]++cL cK w=cL cK (m.r::w):=rfl;rw[hcw] at hb2 hl2;refine wnY and_self ?_;have hold:∀b,b<nx1->H2 b=H1 b:=λb hb=>by rw[r4 b (by omega) (λe=>by cases e;omega),ab (by omega)]
  refine dY rfl ev0 (hrow.same λb h=>by rw[ab (by have:=hb b h;omega)];exact hold b (hb b h).2.2) ev0 (k:=1) (new:=[.msl b2 (ln*7) 7 0 ln]) pr rfl rfl jf (by omega) (by omega) ?_;rintro s3 H3 nx3 u1 u2 u3 u4 u5;have hx:∀x,x<nx1->bk sv≠some x->H3 x=H1 x:=λx h1 h2=>by rw[u4 x (by omega) h2,ab (by omega)];exact hold x h1
  have hb4:H3 b2=some (cL cK (m.r::w)):=by
   rw[u4 b2 (by omega) (λe=>by have:=hb b2 e;omega),ab (by omega)];exact hb2
  obtain ⟨H4,hfz,hr4,hs4⟩:=n8 (x':=bB (m.r :: w)) u1 hb4 (BQ (Row.box b2 ln _ ez hl2)) (fun e=>by
   rcases u5 b2 e with h|h
   ·have:=hb b2 h;omega
   ·omega)
  have hz:∀x,x<nx1->bk sv≠some x->H4 x=H1 x:=λx h1 h2=>by
   rw [hs4 x (by omega) (fun e=>by
    rcases u5 x e with h|h
    ·exact h2 h
    ·omega)]
   exact hx x h1 h2
  refine wnY and_self ?_;refine⟨(j+1,s3),by dsimp only;omega,_,H4,hfz,⟨by dsimp only;omega,(hz 0 (by omega) λe=>by have:=hb 0 e;omega).trans g0,by omega,(hz nx hn1 λe=>by have:=hb nx e;omega).trans gm,?_,λb h=>?_⟩,eT ag0⟩
  ·dsimp only;rw[e1];exact hr4
  ·rcases u5 b h with h|h
   ·have:=hb b h;omega
   ·omega
theorem pi(p:PrbV)(hs:ShP p)(ha:ShA p.adv)(hm:dl p.adv.states<=4096):pU 36 [cf p] (.int .i64 (lV p)):=by
 refine pO QP ?_;simp only[b36,aw];have h1:=Mx p.task hs.c hs.t;have h2:=EH p.adv ha hm;have d1:=fV p.task;have d2:=bI p.adv;unfold cf lV;unfold gF at h1 d1;unfold ca at h2 d2;rw[PC.2.2.2.1] at h2 d2;rw[PC.2.2.2.2.1];generalize ba p.task=e1 at *;generalize tw p.adv=e2 at *;have zz:=@PE;repeat' (first|refine zW ?_|apply a_n|apply a_r|refine zO ?_|refine vZ ?_|refine cZ ?_ (hp:=by first|exact h1|exact h2)|refine bxZ ?_|refine gTZ ?_|refine gFZ ?_|refine cTZ ?_|(refine zGZ ?_ ?_<;>(intro _hg;try (exfalso;omega)))|refine au rfl ?_|refine r1Z ?_|fail)
 all_goals (refine aC ?_;(repeat' split)<;>omega)
theorem pY(p:PrbV)(ha:ShA p.adv)(h0:lV p=0)(lim:Int)(hl:0<=lim)(hl2:lim<=1048576)(hc:p.task.cases.length<=1024):pU 37 [cf p,.int .i64 lim] (.int .i64 (py p lim)):=by
 refine pO Rp ?_;simp only[b37,aw];obtain⟨_,ho,_,r0,r6⟩:=cH h0;have h2:=Ct p.adv ha ho p.rounds.toNat (by omega) lim hl hl2;have d2:=bI p.adv
 have hb:0<=lP p.adv p.rounds.toNat lim/\lP p.adv p.rounds.toNat lim<=lim+1:=by
  unfold lP;have:=ug (a:=p.adv) (lim:=lim) p.rounds.toNat;have:=ho.s1;exact tM hl _ _ (jr (by omega))
 rw[show((p.rounds.toNat:Nat):Int)=p.rounds by omega] at h2;unfold cf py;unfold ca at h2 d2;rw[PC.2.2.2.1] at h2 d2;rw[PC.2.2.2.2.1];generalize lP p.adv p.rounds.toNat lim=M at *;have hw:0<=(p.task.cases.length:Int)*M/\(p.task.cases.length:Int)*M<=1024*1048577:=⟨Int.mul_nonneg (by omega) (by omega),Int.mul_le_mul (by omega) (by omega) (by omega) (by omega)⟩
 have hww:IntKind.wrap .i64 ((p.task.cases.length:Int)*M)=(p.task.cases.length:Int)*M:=jy (by omega) (by omega);refine wkZ (aI @PE @hww) ?_;exact aC rfl
theorem Ky(q:Nat)(x:Int):pU 77 [.int .i64 q,.int .i64 x] (dN ⟨q,0,x,-1,-1,-1,-1,-1⟩):=by
 refine pO RY ?_;simp only[b77,aw];refine wnZ and_self ?_;refine bq (X:=Nat) (λk=>[(4,.ptr 0 8 0),(5,.ptr 1 8 0),(6,.int .i64 k)]) (λk H nx=>k<=5/\H 0=some [.int .i64 0,.int .i64 0,.int .i64 0,.int .i64 0,.int .i64 0,.int .i64 0,.int .i64 0,.int .i64 0]/\H 1=some (vwc q 0 x (hk (λ_=>-1) k))) (λk=>5-k) 0 ⟨bo _,rfl,rfl⟩ (by simp (disch:=omega) only[agr,ZG,reduceEqDiff,↓reduceIte,SL]) ?_;rintro k H nx ⟨k1,g0,g1⟩;by_cases hk5:k<5
 rotate_left
 ·obtain rfl:k=5:=by omega
  rw[G4] at g1;refine wnZ (aI @g0 @g1) ?_;exact nF ⟨q,0,x,-1,-1,-1,-1,-1⟩ _
 have hp:=tU (a:=q) (b:=0) (c:=x) (pQ (λ_=>-1) k) hk5 (-1);rw[zi hk5] at hp;have hl:=qo q 0 x (pQ (λ_=>-1) k);generalize vwc q 0 x (hk (λ_=>-1) k)=L at *;refine wnZ (zI3 @IX @g0 @g1) ?_;exact⟨k+1,by omega,⟨by omega,g0,by rw[ae,hp]⟩,ag0⟩
theorem MQ(r:RndV)(k q:Nat)(now:List Int)(hn:r.n=now.length)(h5:now.length<=5)(hq:q<5)(hb:0<=r.hs.getD q 0/\r.hs.getD q 0<=9223372036854775807):pU 78 [jQ r,.int .i64 k,.int .i64 q,aq now] (dN (nk r k now q)):=by
 refine pO Sd ?_;simp only[b78,aw];unfold jQ;rw[PC.2.1];have hc:=mP r hq;have he:(nk r k now q).cs=vwc q k 0 (hk (hrd (r.hs.getD q 0) now) 5):=rfl;rw[show dN (nk r k now q)=.agg (nk r k now q).cs from rfl,he];generalize r.hs.getD q 0=x at *;generalize hG:hrd x now=G at *;have hG1:∀i,G i=if i<now.length/\hasFl x i=true then now.getD i 0 else-1:=λi=>by rw[<-hG];rfl
 clear he hG;refine wnZ and_self ?_;refine bq (X:=Nat) (λi=>[(1,.int .i64 k),(2,.int .i64 q),(3,aq now),(4,.ptr 0 6 0),(8,.ptr 1 8 0),(9,.ptr 2 8 0),(10,.int .i64 i)]) (λi H nx=>i<=5/\H 0=some [.int .i64 r.n,.int .i64 r.h0,.int .i64 r.h1,.int .i64 r.h2,.int .i64 r.h3,.int .i64 r.h4]/\H 1=some [.int .i64 0,.int .i64 0,.int .i64 0,.int .i64 0,.int .i64 0,.int .i64 0,.int .i64 0,.int .i64 0]/\H 2=some (vwc q k 0 (hk G i))) (λi=>5-i) 0 ⟨bo _,rfl,rfl,rfl⟩ (by simp (disch:=omega) only[agr,ZG,reduceEqDiff,↓reduceIte,SL]) ?_;rintro i H nx ⟨i1,g0,g1,g2⟩;by_cases hi5:i<5
 rotate_left
 ·obtain rfl:i=5:=by omega
  rw[G4] at g2 |-;refine wnZ (zI3 @g0 @g1 @g2) ?_;exact nF ⟨q,k,0,G 0,G 1,G 2,G 3,G 4⟩ _
 have hp:=tU (a:=q) (b:=k) (c:=0) (pQ G i) hi5 (-1);have hp2:=tU (a:=q) (b:=k) (c:=0) (l:=(hk G i).set i (-1)) (by rw[List.length_set];exact pQ G i) hi5 (G i);rw[List.set_set,zi hi5] at hp2;have hm1:G i=-1->vwc q k 0 ((hk G i).set i (-1))=vwc q k 0 (hk G (i+1)):=λh=>by rw[<-h,zi hi5]
 have hl:=qo q k 0 (pQ G i);have hl2:=qo q k 0 (l:=(hk G i).set i (-1)) (by rw[List.length_set];exact pQ G i);have hGi:=hG1 i;have hh:=qW x i hb.1 hb.2 (by omega);generalize vwc q k 0 (hk G i)=L at *;generalize vwc q k 0 ((hk G i).set i (-1))=L2 at *;cases hv:hasFl x i with
 |false=>
  rw[hv] at hh hGi;rw[if_neg λh=>by cases h.2] at hGi;have zz:=aI @IX (aI @g0 (aI @g1 (aI @g2 @hc)));repeat' (first|refine zW ?_|apply a_n|refine zO ?_|refine vZ ?_|refine cZ ?_ (hp:=hh)|refine stZ ?_|refine gTZ ?_|refine gFZ ?_|refine cFZ ?_|(refine zGZ ?_ ?_<;>(intro _hg;try (exfalso;omega)))|fail)
  all_goals exact⟨i+1,by omega,⟨by omega,g0,g1,by rw[ae,hp,hm1 hGi]⟩,ag0⟩
 |true=>
  rw[hv] at hh hGi;by_cases hin:i<now.length
  ·rw[if_pos ⟨hin,rfl⟩] at hGi
   have ix:eo 1 (aq now) (.int .i64 (i:Int))=some (.iptr [.int .i64 (now.getD i 0)] 0):=by
    have:=zJ (l:=now) (n:=(i:Int)) (by omega) (by omega)
    rwa [c9] at this
   rw[<-hGi] at ix;generalize G i=y at *;refine wnZ (zI6 @IX @g0 @g1 @g2 @hc @ix) ?_;refine vD (b:=2) (n:=8) (off:=3+i) (cs:=L2) (vs:=[.int .i64 y]) rfl ev0 ev0 (by rw[ae,hp]) rfl rfl hl2 rfl (by omega) ?_;refine wnZ and_self ?_;exact⟨i+1,by omega,⟨by omega,g0,g1,by rw[ae,hp2]⟩,ag0⟩
  ·rw[if_neg λh=>hin h.1] at hGi;refine wnZ (zI5 @IX @g0 @g1 @g2 @hc) ?_;exact⟨i+1,by omega,⟨by omega,g0,g1,by rw[ae,hp,hm1 hGi]⟩,ag0⟩
theorem I5(n:Int)(vs:List VwV)(v:VwV)(hl:vs.length<=17592186044416):pU 131 [.agg [.int .i64 n,cW vs],dN v] (.int .i64 (Bb vs v)):=by
 refine pO Qa ?_;simp only[Pi,aw];unfold dN Bb;rw[PC.2.2.2.2.2.1];refine wnZ @PE ?_;refine iq (X:=Nat) (λk=>[(2,.ptr 0 2 0),(3,.ptr 1 8 0),(5,.int .i64 k)]) (λk=>k<=vs.length/\∀i,i<k->vs.getD i default≠v) (λk=>vs.length-k) 0 ⟨bo _,λi h=>absurd h (Nat.not_lt_zero _)⟩ (by simp (disch:=omega) only[agr,ZG,reduceEqDiff,↓reduceIte,SL]) ?_;rintro k ⟨k1,k2⟩;by_cases hk5:k<vs.length
 rotate_left
 ·refine wnZ @PE ?_;refine aC ?_;rw[if_neg λhm=>?_];obtain⟨i,hi,rfl⟩:=fW hm;exact k2 i (by omega) (by simp[List.getD,hi])
 have ix:=ixW hk5;rw[PC.2.2.2.2.2.1] at ix;have he:=Gi (v:=vs.getD k default) (w:=v);have hat:=GF hk5 k2;have hme:=ao hk5;generalize hw:vs.getD k default=w at *;have zz:=aI @PE (aI @ix @EQ);repeat' (first|refine zW ?_|apply a_n|apply a_r|refine zO ?_|refine vZ ?_|(refine zGZ ?_ ?_<;>(intro _hg;try (exfalso;omega)))|refine au rfl ?_|refine r1Z ?_|fail)
 ·refine aC ?_;have e:=he.1 _hg;rw[if_pos (e▸hme),hat e]
 ·have hne:w≠v:=λh=>_hg (he.2 h);refine⟨k+1,⟨by omega,λi hi=>?_⟩,by omega,ag0,rfl,rfl⟩;rcases lL.1 hi with h|rfl
  ·exact k2 i h
  ·rw[hw];exact hne
theorem Nx(n:Int)(vs:List VwV)(v:VwV)(hl:vs.length<=1000000):pU 79 [.agg [.int .i64 n,cW vs],dN v] (.tup [.agg [.int .i64 n,cW (kX vs v)],.int .i64 ((kX vs v).idxOf v:Nat)]):=by
 refine pO Rb ?_;simp only[b79,aw];have hi:=I5 n vs v (by omega);rw[Iv,JW];have d1:Dat (.agg [.int .i64 n,cW vs]):=Dat.agg (DatL.cons .int (DatL.cons (kG _) DatL.nil));have d2:=nF v;have hcl:(cL dN vs).length<=8000000:=by rw[uF];omega
 unfold dN at hi d2 |-;rw[PC.2.2.2.2.2.1] at hi d2 |-;generalize Bb vs v=i at *;by_cases hi0:0<=i
 ·rw[if_pos hi0,if_pos hi0];refine wnZ @PE ?_;exact bE (ac (d1 _) (ac (.int _ _) al))
 rw[if_neg hi0,if_neg hi0];refine wnZ @PE ?_
 have hS:∀(H:Hp),H 0=some [.int .i64 n,cW vs]->H 1=some [.int .i64 v.proc,.int .i64 v.round,.int .i64 v.input,.int .i64 v.h0,.int .i64 v.h1,.int .i64 v.h2,.int .i64 v.h3,.int .i64 v.h4]->H 2=some [.int .i64 0,.esl]->H 3=some [.int .i64 n,.esl]->Sub (av (av (av (av aP 0 [.int .i64 n,cW vs]) 1 [.int .i64 v.proc,.int .i64 v.round,.int .i64 v.input,.int .i64 v.h0,.int .i64 v.h1,.int .i64 v.h2,.int .i64 v.h3,.int .i64 v.h4]) 2 [.int .i64 0,.esl]) 3 [.int .i64 n,.esl]) H:=by
  intro H g0 g1 g2 g3 b cs h;rcases b with _|_|_|_|b
  ·rw[g0];exact h
  ·rw[g1];exact h
  ·rw[g2];exact h
  ·rw[g3];exact h
  ·simp[av,aP] at h
 refine fg _ rfl (hS _ rfl rfl rfl rfl) ?_;refine wnZ @PE ?_;refine MR (pv:=[(0,8,.agg [.int .i64 v.proc,.int .i64 v.round,.int .i64 v.input,.int .i64 v.h0,.int .i64 v.h1,.int .i64 v.h2,.int .i64 v.h3,.int .i64 v.h4])]) (cs:=[.int .i64 v.proc,.int .i64 v.round,.int .i64 v.input,.int .i64 v.h0,.int .i64 v.h1,.int .i64 v.h2,.int .i64 v.h3,.int .i64 v.h4]) ev0 rfl (by decide) rfl rfl ?_;refine dz ?_;refine dY (sz:=8) (xv:=cW vs) rfl ev0 Row.nil ev0 uQ (Kk vs) (uF vs) (by omega) (by simp;omega) (by simp;omega) ?_;rintro s2 H2 nx2 r1 r2 r3 r4 r5;have n4:∀{x:Nat},x<4->bk AV.esl≠some x:=λ_ h=>by cases h
 have q0:=r4 0 (by omega) (n4 (by omega));have q1:=r4 1 (by omega) (n4 (by omega));have q2:=r4 2 (by omega) (n4 (by omega));have q3:=r4 3 (by omega) (n4 (by omega));refine iE ⟨hS _ q0 q1 q2 q3,?_⟩;refine fm ?_;rw[List.nil_append] at r1
 have rB:∀b,bk s2=some b->b=4:=λb h=>by
  rcases r5 b h with h|h
  ·cases h
  ·exact h.1
 refine dY (k:=1) (xv:=.sl 8 [.agg [.int .i64 v.proc,.int .i64 v.round,.int .i64 v.input,.int .i64 v.h0,.int .i64 v.h1,.int .i64 v.h2,.int .i64 v.h3,.int .i64 v.h4]]) (new:=[.int .i64 v.proc,.int .i64 v.round,.int .i64 v.input,.int .i64 v.h0,.int .i64 v.h1,.int .i64 v.h2,.int .i64 v.h3,.int .i64 v.h4]) rfl ev0 r1 ev0 ki rfl rfl (by omega) (by omega) (by omega) ?_;rintro s3 H3 nx3 u1 u2 u3 u4 u5;have m4:∀{x:Nat},x<4->bk s2≠some x:=λhx h=>by have:=rB _ h;omega
 have p2:=(u4 2 (by omega) (m4 (by omega))).trans q2;have p3:=(u4 3 (by omega) (m4 (by omega))).trans q3;have p0:=(u4 0 (by omega) (m4 (by omega))).trans q0;refine iE ?_;have hrow:Row H3 8 s3 (cL dN (vs++[v])):=by rw[eR,mH];exact u1
 obtain⟨o1,o2⟩:=hrow.one
 have nb:∀x,x<4->bk s3≠some x:=λx hx h=>by
  rcases u5 x h with h|h
  ·exact m4 hx h
  ·omega
 have zz:=aI @PE (aI @p2 (aI @p3 (aI @p0 (aI @o1 @o2))));repeat' (first|refine zW ?_|apply a_n|refine zO ?_|refine nvY ?_|apply fm|refine stY ?_|fail)
 have k3:av H3 3 (cI [.int .i64 n,.esl] 1 [s3]) 3=some [.int .i64 n,s3]:=by rw[ae];rfl
 have k2:av H3 3 (cI [.int .i64 n,.esl] 1 [s3]) 2=some [.int .i64 0,.esl]:=by rw[ab (by omega)];exact p2
 have k0:av H3 3 (cI [.int .i64 n,.esl] 1 [s3]) 0=some [.int .i64 n,cW vs]:=by rw[ab (by omega)];exact p0
 have hrow4:Row (av H3 3 (cI [.int .i64 n,.esl] 1 [s3])) 8 s3 (cL dN (vs++[v])):=hrow.same λb h=>ab λe=>nb b (by omega) h;generalize av H3 3 (cI [.int .i64 n,.esl] 1 [s3])=H4 at *;refine fg (dv H4 2) rfl (λb cs h=>(jx h).2) ?_;refine wnY (zI3 @PE @k3 @k0) ?_;refine dz ?_;refine wnY (zI4 @PE @k2 @o1 @o2) ?_;refine⟨λb cs h=>by rw[ab (jx h).1];exact(jx h).2,?_⟩;refine wnY @PE ?_;have hrow5:∀cs,Row (av H4 2 cs) 8 s3 (cL dN (vs++[v])):=λcs=>hrow4.same λb h=>ab λe=>nb b (by omega) h;exact bE (ac (eh (ac (.int _ _) (ac (HO (hrow5 _)) al))) (ac (.int _ _) al))
theorem Jy(p:PrbV)(hs:ShP p)(ha:ShA p.adv)(h0:lV p=0)(hw:p.task.cases.length*(dW p).length<=4096)(hw2:(dW p).length<=4096):pU 38 [cf p] (fE (aZ p)):=by
 refine pO QO ?_;simp only[b38,aw];obtain⟨hck,ho,hn,r0,r6⟩:=cH h0;obtain⟨n1,n5,c1,c2⟩:=dq hck;have hinp:=λc hc=>uS hck (c:=c) hc
 have hfrom:pU 76 [ca p.adv,.int .i64 0,.int .i64 p.rounds] (d9 (dW p)):=by
  have:=L5 p.adv ha ho p.rounds.toNat 0 (by have:=ho.s1;omega) (by omega) hw2
  rwa [show((p.rounds.toNat:Nat):Int)=p.rounds by omega] at this
 have da:=bI p.adv;unfold ca at hfrom da;rw[PC.2.2.2.1] at hfrom da
 have hwl:∀w∈dW p,w.length=p.rounds.toNat/\∀r∈w,r.n=p.task.n/\∀q,q<5->0<=r.hs.getD q 0/\r.hs.getD q 0<=9223372036854775807:=λw hw=>by
  refine⟨ms hw,λr hr=>?_⟩;obtain⟨l,hl,m,hm,rfl⟩:=qN hw r hr;have ok:=ho.mv l hl m hm;obtain⟨g1,_,_⟩:=eX ok.r;obtain⟨_,_,g2⟩:=i7 g1;refine⟨by rw[ok.n,hn],λq hq=>?_⟩;obtain⟨g3,g4⟩:=g2 q hq;by_cases hqn:m.r.n<=q
  ·rw[g3 hqn];omega
  ·have:=g4 (by omega);have:=yS (n:=m.r.n) (by rw[ok.n];exact ho.n5);omega
 have hN:((p.task.n.toNat:Nat):Int)=p.task.n:=by omega
 have hsl:=zc (p:=p) n5 r6;have hbl:=uq (p:=p) n5 r6;have hst1:=λc s i(h:i<(dW p).length)=>AB (p:=p) (c:=c) (s:=s) h;have hst2:=DB p;have hbs:=sd p;have hsys:(aZ p).cs=[.int .i64 p.task.n,.int .i64 p.task.ins,.int .i64 p.task.outs,bw p.task.cases,.int .i64 p.adv.n,aQ p.adv.states,.int .i64 p.rounds,.int .i64 p.task.n,cW (bldS p p.task.cases.length).views,fT (bldS p p.task.cases.length).execs]:=rfl;rw[show fE (aZ p)=.agg (aZ p).cs from rfl,hsys];clear hsys;unfold cf;rw[PC.2.2.2.2.1];have hex:=λc s w=>yD p c s w;generalize dW p=W at *;refine wnY @PE ?_
 refine pM (X:=Nat×AV) (λx=>[(1,.ptr 0 7 0),(2,.ptr 1 10 0),(3,.ptr 2 10 0),(4,d9 W),(5,.int .i64 x.1)]) (λx H nx=>x.1<=p.task.cases.length/\H 0=some [.int .i64 p.task.n,.int .i64 p.task.ins,.int .i64 p.task.outs,bw p.task.cases,.int .i64 p.adv.n,aQ p.adv.states,.int .i64 p.rounds]/\H 1=some [.int .i64 0,.int .i64 0,.int .i64 0,.esl,.int .i64 0,.esl,.int .i64 0,.int .i64 0,.esl,.esl]/\H 2=some [.int .i64 p.task.n,.int .i64 p.task.ins,.int .i64 p.task.outs,bw p.task.cases,.int .i64 p.adv.n,aQ p.adv.states,.int .i64 p.rounds,.int .i64 p.task.n,cW (bldS p x.1).views,x.2]/\2<nx/\Row H 3 x.2 (cL iO (bldS p x.1).execs)/\∀b,bk x.2=some b->2<b/\b<nx) (λx=>p.task.cases.length-x.1) (0,.esl)
  ⟨aP,_,Fz.cell (b:=2) (cs':=[.int .i64 p.task.n,.int .i64 p.task.ins,.int .i64 p.task.outs,bw p.task.cases,.int .i64 p.adv.n,aQ p.adv.states,.int .i64 p.rounds,.int .i64 p.task.n,cW [],.esl]) ae (d6.mid (x:=.esl) (x':=cW []) [.int .i64 p.task.n,.int .i64 p.task.ins,.int .i64 p.task.outs,bw p.task.cases,.int .i64 p.adv.n,aQ p.adv.states,.int .i64 p.rounds,.int .i64 p.task.n] [.esl] (.eslsl 8)),⟨bo _,by simp (disch:=omega) only[ab,ae],by simp (disch:=omega) only[ab,ae],ae,by omega,.nil,λb h=>(by cases h)⟩,eT (by simp (disch:=omega) only[agr,ZG,reduceEqDiff,↓reduceIte,SL])⟩ ?_
 rintro⟨c,ex⟩ H nx ⟨hc,g0,g1,g2,hnx,hrow,hb⟩;dsimp only at hc g2 hrow hb |-;obtain⟨o1,o2⟩:=hrow.one;by_cases hcl:c<p.task.cases.length
 rotate_left
 ·obtain rfl:c=p.task.cases.length:=by omega
  refine wnY (zI6 @PE @g0 @g1 @g2 @o1 @o2) ?_;refine eh (ac (.int _ _) (ac (.int _ _) (ac (.int _ _) (ac (Dat.snap (ib _)) (ac (.int _ _) (ac (Dat.snap (fL _)) (ac (.int _ _) (ac (.int _ _) (ac (Dat.snap (kG _)) (ac (GA (hrow.same λb h=>?_)) al))))))))));exact ab (by have:=hb b h;omega)
 have hbc:=hbl c;have hcs:=hbs c;rw[<-hst2] at hcs;have hslc:=hsl c (bldS p c);have hst1c:=hst1 c (bldS p c);have hexc:=hex c;have hst0:=Nk p c (bldS p c)
 have hcW:c*W.length+W.length<=4096:=by
  have:(c+1)*W.length<=p.task.cases.length*W.length:=jv _ hcl;rw[d8,Nat.one_mul] at this;omega
 generalize bldS p c=B0 at *;have ixc:=bL hcl;have hinc:=hinp c hcl;generalize hinpv:(p.task.cases.getD c default).inp=inp at *;refine wnY (zI4 @PE @g0 @g1 @g2) ?_
 refine pM (X:=Nat×AV) (λx=>[(1,.ptr 0 7 0),(2,.ptr 1 10 0),(3,.ptr 2 10 0),(4,d9 W),(5,.int .i64 c),(6,.int .i64 x.1)]) (λx H nx=>x.1<=W.length/\H 0=some [.int .i64 p.task.n,.int .i64 p.task.ins,.int .i64 p.task.outs,bw p.task.cases,.int .i64 p.adv.n,aQ p.adv.states,.int .i64 p.rounds]/\H 1=some [.int .i64 0,.int .i64 0,.int .i64 0,.esl,.int .i64 0,.esl,.int .i64 0,.int .i64 0,.esl,.esl]/\H 2=some [.int .i64 p.task.n,.int .i64 p.task.ins,.int .i64 p.task.outs,bw p.task.cases,.int .i64 p.adv.n,aQ p.adv.states,.int .i64 p.rounds,.int .i64 p.task.n,cW (stW p c B0 x.1).views,x.2]/\2<nx/\Row H 3 x.2 (cL iO (stW p c B0 x.1).execs)/\∀b,bk x.2=some b->2<b/\b<nx) (λx=>W.length-x.1) (0,ex)
  ⟨aP,_,Fz.none,⟨bo _,g0,g1,by rw[hst0];exact g2,hnx,by rw[hst0];exact hrow,hb⟩,eT ag0⟩ ?_
 clear g0 g1 g2 hnx hrow hb o1 o2;rintro⟨wi,ex⟩ H nx ⟨hwi,g0,g1,g2,hnx,hrow,hb⟩;dsimp only at hwi g2 hrow hb |-;obtain⟨o1,o2⟩:=hrow.one;by_cases hwl2:wi<W.length
 rotate_left
 ·obtain rfl:wi=W.length:=by omega
  rw[<-hcs] at g2 hrow;refine wnY (zI4 @PE @g0 @g1 @g2) ?_;exact⟨(c+1,ex),by dsimp only;omega,_,_,Fz.none,⟨by dsimp only;omega,g0,g1,g2,hnx,hrow,hb⟩,eT ag0⟩
 have hsw:=hst1c wi hwl2;have hslw:=hslc wi hwi;have ixw:=Mq hwl2;obtain⟨hwl3,hwr⟩:=hwl _ (ao hwl2);rw[hexc] at hsw;generalize W.getD wi default=w at *;generalize stW p c B0 wi=B at *;have hV:=mL p.task.n.toNat inp w B.views;have hV0:plV p.task.n.toNat inp w B.views 0=(B.views,[]):=rfl;have hV1:∀k,plV p.task.n.toNat inp w B.views (k+1)=(gr (vf inp w k (plV p.task.n.toNat inp w B.views k).2) p.task.n.toNat (plV p.task.n.toNat inp w B.views k).1,(plV p.task.n.toNat inp w B.views k).2++[fh (vf inp w k (plV p.task.n.toNat inp w B.views k).2) p.task.n.toNat (plV p.task.n.toNat inp w B.views k).1]):=λ_=>rfl;have hBl:B.views.length<=35*8192:=by omega
 have hBx:B.execs.length<=8192:=by omega
 generalize plV p.task.n.toNat inp w B.views=PL at *;refine wnY (zI5 @PE @g0 @g1 @g2 @ixw) ?_;have f0:∀cs cs' y,y<nx->av (av H nx cs) nx cs' y=H y:=λcs cs' y hy=>by rw[ab (by omega),ab (by omega)]
 refine pM (X:=Nat×AV) (λx=>[(1,.ptr 0 7 0),(2,.ptr 1 10 0),(3,.ptr 2 10 0),(4,d9 W),(5,.int .i64 c),(6,.int .i64 wi),(7,.ptr nx 3 0),(8,.int .i64 x.1)]) (λx H' n=>x.1<=p.rounds.toNat+1/\H' 0=some [.int .i64 p.task.n,.int .i64 p.task.ins,.int .i64 p.task.outs,bw p.task.cases,.int .i64 p.adv.n,aQ p.adv.states,.int .i64 p.rounds]/\H' 1=some [.int .i64 0,.int .i64 0,.int .i64 0,.esl,.int .i64 0,.esl,.int .i64 0,.int .i64 0,.esl,.esl]/\H' 2=some [.int .i64 p.task.n,.int .i64 p.task.ins,.int .i64 p.task.outs,bw p.task.cases,.int .i64 p.adv.n,aQ p.adv.states,.int .i64 p.rounds,.int .i64 p.task.n,cW (PL x.1).1,ex]/\nx<n/\H' nx=some [.int .i64 c,bB w,x.2]/\Row H' 1 x.2 ((PL x.1).2.map aq)/\(∀b,bk x.2=some b->nx<b/\b<n)/\∀y,y<nx->y≠2->H' y=H y) (λx=>p.rounds.toNat+1-x.1) (0,.esl)
  ⟨aP,_,Fz.none,⟨bo _,(f0 _ _ 0 (by omega)).trans g0,(f0 _ _ 1 (by omega)).trans g1,by rw[f0 _ _ 2 hnx,hV0];exact g2,by omega,ae,by rw[hV0];exact .nil,λb h=>(by cases h),λy hy _=>f0 _ _ y hy⟩,eT (by simp (disch:=omega) only[agr,ZG,reduceEqDiff,↓reduceIte,SL])⟩ ?_
 clear g0 g1 g2 f0;rintro⟨k,sv⟩ H1 m1 ⟨hk,g0,g1,g2,hm1,gx,hrs,hbs,fr⟩;dsimp only at hk g2 gx hrs hbs |-;obtain⟨o3,o4⟩:=hrs.one;obtain⟨hV2,hV3,hV4⟩:=hV k;have hRk:((p.rounds.toNat:Nat):Int)=p.rounds:=by omega
 by_cases hkr:k<=p.rounds.toNat
 rotate_left
 ·obtain rfl:k=p.rounds.toNat+1:=by omega
  have hrow1:Row H1 3 ex (cL iO B.execs):=hrow.same λb h=>fr b (hb b h).2 (by have:=hb b h;omega);have hexl:(cL iO B.execs).length<=24576:=by rw[F6];omega
  obtain ⟨b2,ln,rfl,hb2,hl2⟩:=vR hrs (fun e=>by
   have:=congrArg List.length e;rw[bi,hV2] at this;cases this)
  have hbb:=hbs b2 rfl;have hne2:∀y,y<m1->bk ex≠some y->y≠m1:=λy h1 _=>by omega
  refine wnY (zI6 @PE @g0 @g2 @gx @o1 @o2) ?_;refine dY (k:=1) (sv:=ex) (xv:=.msl m1 3 3 0 1) (cs:=cL iO B.execs) (new:=[.int .i64 c,bB w,.msl b2 ln 1 0 ln]) rfl ev0 (hrow1.same λb h=>ab (by have:=hb b h;omega)) ev0 (dw rfl) (by simp only[SO,PE,Bool.and_self]) rfl (by omega) (by omega) (by omega) ?_;rintro s3 H3 m3 r1 r2 r3 r4 r5;have fx:∀y,y<m1->bk ex≠some y->H3 y=H1 y:=λy h1 h2=>by rw[r4 y (by omega) h2,ab (by omega)]
  have nex:∀y,y<=2->bk ex≠some y:=λy hy h=>by have:=hb y h;omega
  have q2:=(fx 2 (by omega) (nex 2 (by omega))).trans g2;obtain⟨o5,o6⟩:=r1.one;refine wnY (zI4 @PE @q2 @o5 @o6) ?_
  have hs3:∀b,bk s3=some b->2<b/\b<m3/\b≠b2:=λb h=>by
   rcases r5 b h with h|h
   ·have:=hb b h;omega
   ·omega
  have hr3:∀cs,Row (av H3 2 cs) 3 s3 ((cL iO B.execs++[.int .i64 c,bB w])++[.msl b2 ln 1 0 ln]):=λcs=>by
   rw[io];exact r1.same λb h=>ab (by have:=hs3 b h;omega)
  have hb3:∀cs,av H3 2 cs b2=some ((PL (p.rounds.toNat+1)).2.map aq):=λcs=>by
   rw[ab (by omega),fx b2 (by omega) (λh=>by have:=hb b2 h;omega)];exact hb2
  obtain⟨H5,hfz,hr5,hs5⟩:=iY (x':=ay (PL (p.rounds.toNat+1)).2) (hr3 _) (hb3 _) (Row.snapV (Row.box1 ez hl2)) (λe=>(hs3 b2 e).2.2 rfl);have h5:∀y,y<=2->H5 y=_:=λy hy=>hs5 y (by omega) (λh=>by have:=hs3 y h;omega);refine⟨(wi+1,s3),by dsimp only;omega,_,H5,hfz,⟨by dsimp only;omega,?_,?_,?_,by omega,?_,λb h=>by have:=hs3 b h;omega⟩,eT ag0⟩
  ·rw[h5 0 (by omega),ab (by omega),fx 0 (by omega) (nex 0 (by omega))];exact g0
  ·rw[h5 1 (by omega),ab (by omega),fx 1 (by omega) (nex 1 (by omega))];exact g1
  ·rw[h5 2 (by omega),ae,hsw];rfl
  ·rw[hsw];show Row H5 3 s3 (cL iO (B.execs++[_]));rw[eR,mH];show Row H5 3 s3 (cL iO B.execs++[.int .i64 (c:Int),bB w,ay (PL (p.rounds.toNat+1)).2]);rw[io] at hr5;exact hr5
 have hf:=hV1 k;have hfq0:k=0->∀q,vf inp w k (PL k).2 q=⟨q,0,inp.getD q 0,-1,-1,-1,-1,-1⟩:=λe q=>by subst e;rfl
 have hfqS:∀j,k=j+1->∀q,vf inp w k (PL k).2 q=nk (w.getD j default) (j+1) ((PL k).2.getD j []) q:=λj e q=>by subst e;rfl
 have hV0l:(PL k).1.length<=500000:=by
  have h2:k*p.task.n.toNat<=7*5:=Nat.mul_le_mul (by omega) (by omega);omega
 generalize vf inp w k (PL k).2=f at *;generalize (PL k).1=V0 at *;generalize (PL k).2=rows at *;refine wnY (aI @PE @g0) ?_;refine bq (X:=Nat×AV) (λx=>[(1,.ptr 0 7 0),(2,.ptr 1 10 0),(3,.ptr 2 10 0),(4,d9 W),(5,.int .i64 c),(6,.int .i64 wi),(7,.ptr nx 3 0),(8,.int .i64 k),(9,x.2),(10,.int .i64 x.1)]) (λx H' n'=>x.1<=p.task.n.toNat/\H' 2=some [.int .i64 p.task.n,.int .i64 p.task.ins,.int .i64 p.task.outs,bw p.task.cases,.int .i64 p.adv.n,aQ p.adv.states,.int .i64 p.rounds,.int .i64 p.task.n,cW (gr f x.1 V0),ex]/\Row H' 1 x.2 ((fh f x.1 V0).map (AV.int .i64))/\(∀b,bk x.2=some b->m1<=b/\b<n')/\m1<=n'/\∀y,y<m1->y≠2->H' y=H1 y) (λx=>p.task.n.toNat-x.1) (0,.esl) ⟨bo _,g2,.nil,λb h=>(by cases h),bc _,λ_ _ _=>rfl⟩ ag0 ?_;rintro⟨q,lv⟩ H2 m2 ⟨hq,g2',hlrow,hlb,hm2,fr'⟩;dsimp only at hq g2' hlrow hlb |-;have g0':=(fr' 0 (by omega) (by omega)).trans g0;have gx':=(fr' nx (by omega) (by omega)).trans gx;obtain⟨o5,o6⟩:=hlrow.one;have hrs':Row H2 1 sv (rows.map aq):=hrs.same λb h=>fr' b (hbs b h).2 (by have:=hbs b h;omega);by_cases hqn:q<p.task.n.toNat
 rotate_left
 ·obtain rfl:q=p.task.n.toNat:=by omega
  obtain ⟨bl,ll,rfl,hbl2,hll⟩:=vR hlrow (fun e=>by
   have:=congrArg List.length e;rw[bi,i6] at this;have:p.task.n.toNat=0:=this;omega)
  have hblb:=hlb bl rfl;have hrl:(rows.map aq).length<=7:=by rw[bi];omega
  refine wnY (zI5 @PE @g0' @gx' @o3 @o4) ?_;refine dY (k:=1) (sv:=sv) (xv:=.msl m2 1 1 0 1) (cs:=rows.map aq) (new:=[.msl bl ll 1 0 ll]) rfl ev0 (hrs'.same λb h=>ab (by have:=hbs b h;omega)) ev0 (dw rfl) rfl rfl jf (by omega) (by omega) ?_;rintro s3 H3 m3 r1 r2 r3 r4 r5;have fx:∀y,y<m2->bk sv≠some y->H3 y=H2 y:=λy h1 h2=>by rw[r4 y (by omega) h2,ab (by omega)]
  have nsv:∀y,y<=nx->bk sv≠some y:=λy hy h=>by have:=hbs y h;omega
  have qx:=(fx nx (by omega) (nsv nx (by omega))).trans gx';obtain⟨o7,o8⟩:=r1.one;refine wnY (zI4 @PE @qx @o7 @o8) ?_
  have hs3:∀b,bk s3=some b->nx<b/\b<m3/\b≠bl:=λb h=>by
   rcases r5 b h with h|h
   ·have:=hbs b h;omega
   ·omega
  have hr3:∀cs,Row (av H3 nx cs) 1 s3 (rows.map aq++[.msl bl ll 1 0 ll]):=λcs=>r1.same λb h=>ab (by have:=hs3 b h;omega)
  have hb3:∀cs,av H3 nx cs bl=some ((fh f p.task.n.toNat V0).map (AV.int .i64)):=λcs=>by
   rw[ab (by omega),fx bl (by omega) (λh=>by have:=hbs bl h;omega)];exact hbl2
  obtain⟨H5,hfz,hr5,hs5⟩:=iY (x':=aq (fh f p.task.n.toNat V0)) (hr3 _) (hb3 _) (Row.snapI (Row.box1 ez hll)) (λe=>(hs3 bl e).2.2 rfl);have h5:∀y,y<=nx->H5 y=_:=λy hy=>hs5 y (by omega) (λh=>by have:=hs3 y h;omega);refine⟨(k+1,s3),by dsimp only;omega,_,H5,hfz,⟨by dsimp only;omega,?_,?_,?_,by omega,?_,?_,λb h=>by have:=hs3 b h;omega,λy hy hy2=>?_⟩,eT ag0⟩
  ·rw[h5 0 (by omega),ab (by omega),fx 0 (by omega) (nsv 0 (by omega))];exact g0'
  ·rw[h5 1 (by omega),ab (by omega),fx 1 (by omega) (nsv 1 (by omega)),fr' 1 (by omega) (by omega)];exact g1
  ·rw[h5 2 (by omega),ab (by omega),fx 2 (by omega) (nsv 2 (by omega)),g2'];dsimp only;rw[hf]
  ·rw[h5 nx (bc _),ae];rfl
  ·dsimp only;rw[hf,dp];exact hr5
  ·rw[h5 y (by omega),ab (by omega),fx y (by omega) (nsv y (by omega)),fr' y (by omega) hy2];exact fr y hy hy2
 have hVl:(gr f q V0).length<=1000000:=by have:=mg f q V0;omega
 have hIl:((fh f q V0).map (AV.int .i64)).length<=5:=by rw[bi,i6];omega
 have hnV:gr f (q+1) V0=kX (gr f q V0) (f q):=rfl;have hnI:fh f (q+1) V0=fh f q V0++[(((kX (gr f q V0) (f q)).idxOf (f q):Nat):Int)]:=rfl;have hP:=Nx p.task.n (gr f q V0) (f q) hVl;have hF:=Ky q (inp.getD q 0)
 have ixq:eo 1 (aq inp) (.int .i64 (q:Int))=some (.iptr [.int .i64 (inp.getD q 0)] 0):=by
  have:=zJ (l:=inp) (n:=(q:Int)) (by omega) (by omega)
  rwa [c9] at this
 have dT:Dat (.agg [.int .i64 p.task.n,cW (gr f q V0)]):=Dat.agg (DatL.cons .int (DatL.cons (kG _) DatL.nil));have dV:=nF (f q);rw[<-hnV] at hP hnI;unfold dN at hP hF dV;generalize hV1e:gr f (q+1) V0=V1 at *;generalize gr f q V0=V at *;generalize ((V1.idxOf (f q):Nat):Int)=idx at *;rw[PC.2.2.2.2.2.1] at hP hF dV;rcases Nat.eq_zero_or_pos k with hk0|hk0
 ·have hfq:=hfq0 hk0 q;have z:decide (Int.ofNat 0<(k:Int))=false:=bJ (by show ¬(0:Int)<_;omega);rw[hfq] at hP dV;generalize inp.getD q 0=x at *;refine wnY (zI6 @PE @g0' @g2' @ixc @ixq @z) ?_;refine dY (k:=1) (sv:=lv) (xv:=.msl (m2+2) 1 1 0 1) (cs:=(fh f q V0).map (AV.int .i64)) (new:=[.int .i64 idx]) rfl ev0 (hlrow.same λb h=>by have:=hlb b h;simp (disch:=omega) only[ab]) (have zz:=@kw;evZ) (dw rfl) rfl rfl jf (by omega) (by omega) ?_;rintro s' H' nx' r1 r2 r3 r4 r5;refine wnY and_self ?_;refine⟨(q+1,s'),by dsimp only;omega,⟨by dsimp only;omega,?_,?_,λb h=>?_,by omega,λy hy hy2=>?_⟩,ag0⟩
  ·rw[r4 2 (by omega) (λh=>by have:=hlb 2 h;omega)];dsimp only;rw[hV1e];simp (disch:=omega) only[ab,ae];rfl
  ·dsimp only;rw[hnI,dp];exact r1
  ·rcases r5 b h with h|h
   ·have:=hlb b h;omega
   ·omega
  ·rw[r4 y (by omega) (λh=>by have:=hlb y h;omega)];simp (disch:=omega) only[ab];exact fr' y hy hy2
 ·obtain⟨j,rfl⟩:∃j,k=j+1:=⟨k-1,by omega⟩
  have hfq:=hfqS j rfl q;have z:decide (Int.ofNat 0<((j+1:Nat):Int))=true:=bR (by show(0:Int)<_;omega);have tk:((j+1:Nat):Int)-Int.ofNat 1=(j:Int):=by show((j+1:Nat):Int)-1=_;omega
  have hjw:j<w.length:=by omega
  have ixr:=ixR hjw;obtain⟨hrn,hrh⟩:=hwr _ (ao hjw);have hjr:j<rows.length:=by omega
  have hnow:(rows.getD j []).length=p.task.n.toNat:=hV3 _ (iU hjr);have hS:=MQ (w.getD j default) (j+1) q (rows.getD j []) (by omega) (by omega) (by omega) (hrh q (by omega));rw[show nk (w.getD j default) (j+1) (rows.getD j []) q=f q from hfq.symm] at hS;have dR:=iw (w.getD j default)
  obtain ⟨bs,ns,os,hg1,hg2,hg3⟩:=Row.get hrs' (j:=j) (x:=aq (rows.getD j [])) (by
   rw[ko];simp[List.getD,hjr])
  have hbs2:=hbs bs hg2
  have hSS:∃S:Hp,(∀H':Hp,(∀x,x<m2->H' x=H2 x)->Sub S H')/\S 0=some [.int .i64 p.task.n,.int .i64 p.task.ins,.int .i64 p.task.outs,bw p.task.cases,.int .i64 p.adv.n,aQ p.adv.states,.int .i64 p.rounds]/\S nx=some [.int .i64 c,bB w,sv]/\rd1 S (.ptr bs ns os)=some (aq (rows.getD j [])):=by
   refine⟨λx=>if x<m2 then H2 x else none,λH' h b cs hc=>?_,?_,?_,hg3 _ ?_⟩
   ·dsimp only at hc;split at hc
    ·rename_i hlt;rw[h b hlt];exact hc
    ·cases hc
   ·dsimp only;rw[if_pos (by omega)];exact g0'
   ·dsimp only;rw[if_pos (by omega)];exact gx'
   ·show(if bs<m2 then H2 bs else none)=_;rw[if_pos (by omega)]
  obtain⟨S,hSub,s0,sx,srd⟩:=hSS;unfold jQ at dR;unfold jQ dN at hS;rw[PC.2.1] at hS dR;rw[PC.2.2.2.2.2.1] at hS;rw[PC.1] at ixr;generalize f q=v at *;generalize w.getD j default=r at *;generalize rows.getD j []=now at *;generalize inp.getD q 0=x at *;refine wnY (zI6 @PE @g0' @g2' @ixc @ixq @z) ?_;refine fg S rfl (hSub _ λx hx=>by simp (disch:=omega) only[ab]) ?_;have zz:=aI @PE (aI @s0 (aI @sx (aI @ixw (aI @ixr (aI @hg1 (aI @srd (aI @tk (aI @g0' @g2'))))))));repeat' (first|refine zW ?_|apply a_n|refine zO ?_|refine vY ?_|refine nvY ?_|apply fm|refine cY ?_ (hp:=by first|exact hS|exact hP)|refine alY ?_|refine stY ?_|refine blY ?_|fail)
  refine dY (k:=1) (sv:=lv) (xv:=.msl (m2+2) 1 1 0 1) (cs:=(fh f q V0).map (AV.int .i64)) (new:=[.int .i64 idx]) rfl ev0 (hlrow.same λb h=>by have:=hlb b h;simp (disch:=omega) only[ab]) (have zz:=@kw;evZ) (dw rfl) rfl rfl jf (by omega) (by omega) ?_;rintro s' H' nx' r1 r2 r3 r4 r5;refine wnY and_self ?_;refine⟨(q+1,s'),by dsimp only;omega,⟨by dsimp only;omega,?_,?_,λb h=>?_,by omega,λy hy hy2=>?_⟩,ag0⟩
  ·rw[r4 2 (by omega) (λh=>by have:=hlb 2 h;omega)];dsimp only;rw[hV1e];simp (disch:=omega) only[ab,ae];rfl
  ·dsimp only;rw[hnI,dp];exact r1
  ·rcases r5 b h with h|h
   ·have:=hlb b h;omega
   ·omega
  ·rw[r4 y (by omega) (λh=>by have:=hlb y h;omega)];simp (disch:=omega) only[ab];exact fr' y hy hy2
theorem Jx(p:PrbV)(hs:ShP p):pU 14 [cf p] (.bool (CH p)):=by
 refine pO RJ ?_;simp only[b14,aw];have h1:=Q9 p.task hs.c hs.t;have h2:=Jt p.adv (re hs) hs.a;have hck:∀h:yn p.adv=true,pU 36 [cf p] (.int .i64 (lV p)):=λh=>pi p hs (re hs (oO h).1) (by have:=(oO h).2;omega);have hnm:∀(_:yn p.adv=true)(h0:lV p=0),pU 37 [cf p,.int .i64 4096] (.int .i64 (py p 4096)):=λh h0=>pY p (re hs (oO h).1) h0 4096 (by omega) (by omega) (dq (cH h0).1).2.2.2;have d1:=fV p.task;have d2:=bI p.adv;have d3:=e9 p;unfold cf at hck hnm d3 |-;unfold gF at h1 d1;unfold ca at h2 d2;rw[PC.2.2.2.1] at h2 d2;rw[PC.2.2.2.2.1] at hck hnm d3 |-;unfold CH;cases hf1:wk p.task with
 |false=>
  rw[hf1] at h1;refine wnZ @PE ?_;rw[if_neg λh=>by cases h.1];exact .bool _
 |true=>
 rw[hf1] at h1;cases hf2:yn p.adv with
 |false=>
  rw[hf2] at h2;refine wnZ @PE ?_;rw[if_neg λh=>by cases h.2.1];exact .bool _
 |true=>
 rw[hf2] at h2;have hck:=hck hf2;have hnm:=hnm hf2;by_cases hn:3<p.task.n/\p.task.n<=5
 ·rw[if_neg λh=>h.2.2 hn];refine wnZ @PE ?_
  all_goals first|exact .bool _|omega
 rw[if_pos ⟨rfl,rfl,hn⟩];by_cases h0:lV p=0
 rotate_left
 ·rw[if_pos h0];generalize lV p=e at *;have zz:=@PE;repeat' (first|refine zW ?_|apply a_n|apply a_r|refine zO ?_|refine vZ ?_|refine cZ ?_ (hp:=by first|exact h1|exact h2|exact hck)|refine bxZ ?_|refine gTZ ?_|refine gFZ ?_|refine cFZ ?_|(refine zGZ ?_ ?_<;>(intro _hg;try (exfalso;omega)))|refine au rfl ?_|refine r1Z ?_|fail)
  all_goals first|exact .bool _|omega
 rw[if_neg λh=>h h0];have hnm:=hnm h0;rw[h0] at hck;generalize py p 4096=M at *;have zz:=@PE;repeat' (first|refine zW ?_|apply a_n|refine zO ?_|refine vZ ?_|refine cZ ?_ (hp:=by first|exact h1|exact h2|exact hck|exact hnm)|refine bxZ ?_|refine gTZ ?_|refine gFZ ?_|refine cFZ ?_|(refine zGZ ?_ ?_<;>(intro _hg;try (exfalso;omega)))|refine au rfl ?_|refine r1Z ?_|fail)
 all_goals (refine dE ?_;by_cases q1:M<=60<;>by_cases q2:4096<M<;>first|omega|simp only[q1,q2,decide_true,decide_false,Bool.or_true,Bool.true_or,Bool.or_self]|fail)
theorem HT(p:PrbV)(hs:ShP p)(ha:ShA p.adv)(hm:dl p.adv.states<=4096)(h0:lV p≠0):pU 15 [cf p] (.tup [.agg Z10,.int .i64 (lV p)]):=by
 refine pO L6 ?_;simp only[b15,aw];have hck:=pi p hs ha hm;have d3:=e9 p;unfold cf at hck d3 |-;rw[PC.2.2.2.2.1] at hck d3 |-;generalize lV p=e at *;refine wnZ @PE ?_;exact bE (ac (eh (di CR)) (ac (.int _ _) al))
theorem Hh(p:PrbV)(hs:ShP p)(ha:ShA p.adv)(hm:dl p.adv.states<=4096)(h0:lV p=0)(hb:4096<py p 4096):pU 15 [cf p] (.tup [.agg Z10,.int .i64 17]):=by
 refine pO L6 ?_;simp only[b15,aw];have hck:=pi p hs ha hm;have hnm:=pY p ha h0 4096 (by omega) (by omega) (dq (cH h0).1).2.2.2;have d3:=e9 p;rw[h0] at hck;unfold cf at hck hnm d3 |-;rw[PC.2.2.2.2.1] at hck hnm d3 |-;generalize py p 4096=M at *;refine wnZ @PE ?_;exact bE (ac (eh (di CR)) (ac (.int _ _) al))
theorem C3(p:PrbV)(h:OkP p):pU 15 [cf p] (.tup [fE (aZ p),.int .i64 0]):=by
 refine pO L6 ?_;simp only[b15,aw];have hm:=h.mv;have hck:=pi p h.sh h.sa (by omega);have hnm:=pY p h.sa h.e0 4096 (by omega) (by omega) (dq (cH h.e0).1).2.2.2;have hnf:=pe h.e0 h.num;have hbu:=Jy p h.sh h.sa h.e0 (by omega) (by omega);have hl:=(uq (p:=p) (dq (cH h.e0).1).2.1 (cH h.e0).2.2.2.2 p.task.cases.length).2
 have hvl:(aZ p).views.length<=8192:=by
  show(bldS p p.task.cases.length).views.length<=8192;omega
 have d3:=e9 p;have d4:=gU (aZ p);have hnum:=h.num;rw[h.e0] at hck;unfold cf at hck hnm hbu d3 |-;unfold fE at hbu d4 |-;rw[PC.2.2.2.2.1] at hck hnm hbu d3 |-;rw[PC.2.2.2.2.2.2.2] at hbu d4 |-;generalize py p 4096=M at *;generalize aZ p=s at *;refine wnZ @PE ?_;exact bE (ac (d4 _) (ac (.int _ _) al))
theorem JY(p:PrbV)(hs:ShP p):pU 6 [cf p] (.bool (j5 p)):=by
 refine pO is6 ?_;simp only[b6,aw];have hf:=Jx p hs;have d3:=e9 p;have d4:=gU (aZ p);cases hfv:CH p with
 |false=>
  rw[hfv] at hf;have e:j5 p=false:=by unfold j5;rw[hfv];rfl
  rw[e];unfold cf at hf d3 |-;rw[PC.2.2.2.2.1] at hf d3 |-;refine wnZ @PE ?_;exact .bool _
 |true=>
 rw[hfv] at hf;obtain⟨q1,q2,q3⟩:=z6 hfv;obtain⟨q4,q5⟩:=oO q2;have hsa:=re hs q4;by_cases h0:lV p=0
 rotate_left
 ·have hb:=HT p hs hsa (by omega) h0;have e:j5 p=false:=by unfold j5;rw[bJ h0,Bool.and_false,Bool.false_and]
  rw[e];have hne:decide (lV p=0)=false:=bJ h0;unfold cf at hf hb d3 |-;unfold Z10 at hb;rw[PC.2.2.2.2.1] at hf hb d3 |-;generalize lV p=e at *;refine wnZ (aI @PE @hne) ?_;exact .bool _
 by_cases hb4:4096<py p 4096
 ·have hb:=Hh p hs hsa (by omega) h0 hb4;have e:j5 p=false:=by unfold j5;rw[show decide (py p 4096<=60)=false from bJ (by omega),Bool.and_false]
  rw[e];unfold cf at hf hb d3 |-;unfold Z10 at hb;rw[PC.2.2.2.2.1] at hf hb d3 |-;refine wnZ @PE ?_;exact .bool _
 have h60:py p 4096<=60:=by
  unfold CH at hfv;rw[if_pos ⟨q1,q2,q3⟩,if_neg λh=>h h0,lU,gq,gq] at hfv;omega
 have e:j5 p=true:=by unfold j5;rw[hfv,bR h0,bR h60];rfl
 rw[e];have hb:=C3 p (wn hs e);unfold cf at hf hb d3 |-;unfold fE at hb d4;rw[PC.2.2.2.2.1] at hf hb d3 |-;rw[PC.2.2.2.2.2.2.2] at hb d4;generalize aZ p=s at *;refine wnZ @PE ?_;exact .bool _
end
end Go.Proofs.YtbmjaojeplmhnaaGreat
namespace Go.Proofs.YtbmjaojeplmhnaaGreat
open Go Go.Abs Go.RowKit
section
variable{H:Type}{enc:TypeId×Value->H}{W:World}
theorem oA5:eA enc Tryz.prog W 72 (λl:List Int=>.agg (l.flatMap λa=>(AV.int .i64 a).cells)) (λl=>l.length=5/\∀a∈l,(Lit.int .i64 a).wf=true):=
 FE Tryz.underlying72 (sz:=1) (by kernel_rfl) (by kernel_rfl) oi
set_option maxRecDepth 100000 in
theorem LC:eA enc Tryz.prog W 74 jQ (λ_=>True):=
 (fH Tryz.underlying74 (by kernel_rfl) (bW (off:=0) (off':=1) rfl (by kernel_rfl) oi (bW (off:=1) (off':=6) rfl (by kernel_rfl) oA5 iQ))).map
  (fun a=>(⟨a.1,a.2.1.getD 0 0,a.2.1.getD 1 0,a.2.1.getD 2 0,a.2.1.getD 3 0,a.2.1.getD 4 0,0⟩:RndV)) (fun _ _=>trivial) (by
   rintro⟨a,l,u⟩ ⟨_,⟨h,_⟩,_⟩
   match l,h with
   |[h0,h1,h2,h3,h4],_=>rfl)
set_option maxRecDepth 100000 in
theorem Rk:eA enc Tryz.prog W 76 cK (λ_=>True):=
 (fH Tryz.underlying76 (by kernel_rfl) (bW (off:=0) (off':=6) rfl (by kernel_rfl) LC (bW (off:=6) (off':=7) rfl (by kernel_rfl) oi iQ))).map
  (λa=>(⟨a.1.n,a.1.h0,a.1.h1,a.1.h2,a.1.h3,a.1.h4,a.2.1⟩:RndV)) (λ_ _=>trivial) (λ_ _=>rfl)
set_option maxRecDepth 100000 in
theorem Qs:eA enc Tryz.prog W 98 dB (λ_=>True):=
 (fH Tryz.underlying98 (by kernel_rfl) (bW (off:=0) (off':=7) rfl (by kernel_rfl) Rk (bW (off:=7) (off':=8) rfl (by kernel_rfl) oi iQ))).map
  (λa=>(⟨a.1,a.2.1⟩:MvV)) (λ_ _=>trivial) (λ_ _=>rfl)
theorem L3:eA enc Tryz.prog W 94 bD (λl=>l.length<=17592186044416):=
 (jU Tryz.underlying94 (sz:=8) (by_:=64) (by kernel_rfl) (by kernel_rfl) (by omega) (λ_=>rfl) Qs).mono λl h=>by have:=h.2.2;omega
theorem I1:eA enc Tryz.prog W 25 aQ (λl=>l.length<=17592186044416/\∀x∈l,x.length<=17592186044416):=
 (jU Tryz.underlying25 (sz:=1) (by_:=24) (by kernel_rfl) (by kernel_rfl) jf (λ_=>rfl) L3).mono λl h=>⟨by have:=h.2.2;omega,h.1⟩
set_option maxRecDepth 100000 in
theorem Rq:eA enc Tryz.prog W 27 ca (λa=>a.states.length<=17592186044416/\∀x∈a.states,x.length<=17592186044416):=
 (fH Tryz.underlying27 (by kernel_rfl) (bW (off:=0) (off':=1) rfl (by kernel_rfl) oi (bW (off:=1) (off':=2) rfl (by kernel_rfl) I1 iQ))).map
  (fun a=>(⟨a.1,a.2.1⟩:AdvV)) (by
   rintro⟨n,s,u⟩ ⟨_,h,_⟩;exact h) (λ_ _=>rfl)
set_option maxRecDepth 100000 in
theorem RU:eA enc Tryz.prog W 29 cf ShP:=
 (fH Tryz.underlying29 (by kernel_rfl) (bW (off:=0) (off':=4) rfl (by kernel_rfl) NL (bW (off:=4) (off':=6) rfl (by kernel_rfl) Rq (bW (off:=6) (off':=7) rfl (by kernel_rfl) oi iQ)))).map
  (fun a=>(⟨a.1,a.2.1,a.2.2.1⟩:PrbV)) (by
   rintro⟨t,a,r,u⟩ ⟨h1,h2,_⟩;exact⟨h1.2,h1.1,h2.1,h2.2⟩) (λ_ _=>rfl)
end
end Go.Proofs.YtbmjaojeplmhnaaGreat
namespace Go.Proofs.YtbmjaojeplmhnaaGreat
open Go Go.Abs
open Nat (reduceEqDiff reduceAdd reduceLeDiff)
theorem K0(n:Nat)(tb tf:Bool):bt .shl tb tf (.int .i64 1) (.int .i64 (n:Int))=some (.int .i64 (IntKind.wrap .i64 (1*2^(min n 64)))):=by
 simp[bt,ou,IntKind.bits]
theorem Gq{f:Int}{p:Nat}(h0:0<=f)(hp:p<=60):hasFl f p=!decide (tx (nS f p)=0):=by
 obtain⟨m,rfl⟩:∃m:Nat,f=m:=⟨f.toNat,by omega⟩
 have e:nS (m:Int) p=((m/2^p:Nat):Int):=by
  unfold nS;rw[Nat.min_eq_left (by omega),Int.fdiv_eq_ediv_of_nonneg _ (Int.le_of_lt (Int.pow_pos (by omega)))];simp
 rw[e,xk];unfold hasFl;rw[show(m:Int)/((2^p:Nat):Int)=((m/2^p:Nat):Int) from rfl];generalize m/2^p=x;by_cases h:x%2=0
 ·rw[bJ (by omega),bR (by omega)];rfl
 ·rw[bR (by omega),bJ (by omega)];rfl
theorem vW{m p:Nat}(hp:p<=60):nS (m:Int) p=((m/2^p:Nat):Int):=by
 unfold nS;rw[Nat.min_eq_left (by omega),Int.fdiv_eq_ediv_of_nonneg _ (Int.le_of_lt (Int.pow_pos (by omega)))];simp
theorem M0{f:Int}{n:Nat}(h0:0<=f)(h:f<pw n)(hn:n<=60):nS f n=0:=by
 obtain⟨m,rfl⟩:∃m:Nat,f=m:=⟨f.toNat,by omega⟩
 rw[vW hn,Nat.div_eq_of_lt]
 ·rfl
 ·rw[rn rfl] at h;omega
def mD(a:AdvV)(s:Nat):List (Nat×MvV):=(List.range s).flatMap λi=>(a.st i).map λm=>(i,m)
theorem pn(a:AdvV)(s:Nat):mD a (s+1)=mD a s++(a.st s).map λm=>(s,m):=by
 unfold mD;rw[List.range_succ,List.flatMap_append,lj,List.flatMap_nil,jd]
theorem Aj(a:AdvV)(s:Nat):∀d,∃R,mD a s++R=mD a (s+d)
 |0=>⟨[],jd _⟩
 |d+1=>by
  obtain⟨R,h⟩:=Aj a s d;exact⟨R++(a.st (s+d)).map λm=>(s+d,m),by rw[<-io,h,<-pn];rfl⟩
def wx(a:AdvV):List (Nat×MvV):=mD a a.states.length
theorem AN(a:AdvV):∀s,s<=a.states.length->(mD a s).length=dl (a.states.take s)
 |0,_=>rfl
 |s+1,h=>by
  rw[pn,cP,bi,AN a s (by omega),sL (by omega)];rfl
theorem FV(a:AdvV):(wx a).length=dl a.states:=by
 unfold wx;rw[AN a _ (bc _),List.take_length]
def Jd(a b:Int):Int:=IntKind.wrap .i64 (BitVec.ofInt 64 a &&& ~~~BitVec.ofInt 64 b).toNat
theorem JT(tb tf:Bool)(a b:Int):bt .andNot tb tf (.int .i64 a) (.int .i64 b)=some (.int .i64 (Jd a b)):=rfl
set_option maxRecDepth 100000 in
theorem FX:∀a,a<32->∀b,b<32->iZ ((a:Nat):Int) ((b:Nat):Int)=true->Jd ((a:Nat):Int) ((b:Nat):Int)=0:=by decide+kernel
theorem LM{a b:Int}(ha:0<=a/\a<32)(hb:0<=b/\b<32)(h:iZ a b=true):Jd a b=0:=by
 have:=FX a.toNat (by omega) b.toNat (by omega);rw[show((a.toNat:Nat):Int)=a by omega,show((b.toNat:Nat):Int)=b by omega] at this;exact this h
theorem mS(n:Nat):bd (.agg [.int .i64 0]) n=(List.replicate n (0:Int)).map (AV.int .i64):=by
 induction n with
 |zero=>rfl
 |succ n ih=>rw[List.replicate_succ,f9,<-ih];simp[bd,List.replicate_succ,AV.cells]
theorem zU:∀{l:List Int}{s:Nat}{x:Int},s<l.length->(l.set s x).getD s 0=x
 |_::_,0,_,_=>rfl
 |_::l,s+1,x,h=>zU (l:=l) (s:=s) (by simpa using h)
def CE(lim:Int)(C:List Int)(nx:List Int)(p:Nat×MvV):List Int:=nx.set p.1 (min (nx.getD p.1 0+C.getD p.2.to.toNat 0) (lim+1))
def pV(lim:Int)(C:List Int)(n:Nat)(D:List (Nat×MvV)):List Int:=D.foldl (CE lim C) (List.replicate n 0)
theorem Fa(lim:Int)(C:List Int)(n:Nat)(D:List (Nat×MvV))(s:Nat)(m:MvV):pV lim C n (D++[(s,m)])=(pV lim C n D).set s (min ((pV lim C n D).getD s 0+C.getD m.to.toNat 0) (lim+1)):=by
 unfold pV;rw[List.foldl_append];rfl
theorem DT(lim:Int)(C:List Int):∀(D:List (Nat×MvV))(nx:List Int),(D.foldl (CE lim C) nx).length=nx.length
 |[],_=>rfl
 |p::D,nx=>by rw[List.foldl_cons,DT lim C D];exact List.length_set
theorem HK(lim:Int)(C:List Int)(n:Nat)(D:List (Nat×MvV)):(pV lim C n D).length=n:=by unfold pV;rw[DT,List.length_replicate]
theorem D0(lim:Int)(C:List Int)(s:Nat):∀(l:List MvV)(nx:List Int),s<nx.length->(l.map λm=>(s,m)).foldl (CE lim C) nx=nx.set s (l.foldl (λn m=>min (n+C.getD m.to.toNat 0) (lim+1)) (nx.getD s 0))
 |[],nx,h=>by
  refine List.ext_getElem? λi=>?_;show nx[i]?=(nx.set s (nx.getD s 0))[i]?;rw[List.getElem?_set];split
  ·rename_i e;subst e;simp[h,List.getD]
  ·rfl
 |m::l,nx,h=>by
  rw[f9,List.foldl_cons,D0 lim C s l _ (by unfold CE;rw[List.length_set];exact h)];unfold CE;rw[zU h,List.set_set];rfl
theorem AG{a:AdvV}{lim:Int}{C:List Int}:∀s,s<=a.states.length->pV lim C a.states.length (mD a s)=((List.range s).map λi=>te lim C (a.st i))++List.replicate (a.states.length-s) 0
 |0,_=>by simp[pV,mD]
 |s+1,h=>by
  have ih:=AG (a:=a) (lim:=lim) (C:=C) s (by omega);have hl:((List.range s).map λi=>te lim C (a.st i)).length=s:=by simp
  unfold pV at ih |-;rw[pn,List.foldl_append,ih,D0 lim C s _ _ (by rw[cP,hl,List.length_replicate];omega)]
  have hg:(((List.range s).map λi=>te lim C (a.st i))++List.replicate (a.states.length-s) (0:Int)).getD s 0=0:=by
   rw[ng,iA (by omega),hl,Nat.sub_self,List.getElem?_replicate,if_pos (by omega)];rfl
  rw[hg,List.set_append_right _ _ (by omega),hl,Nat.sub_self,List.range_succ,dp,io,show a.states.length-s=(a.states.length-(s+1))+1 by omega,List.replicate_succ];rfl
theorem FZ{a:AdvV}{lim:Int}{k:Nat}:pV lim (gI a lim k) a.states.length (wx a)=gI a lim (k+1):=by
 unfold wx;rw[AG _ (bc _),Nat.sub_self,List.replicate_zero,jd,gI];refine List.ext_getElem? λi=>?_;rw[ko,ko];by_cases hi:i<a.states.length
 ·rw[List.getElem?_range hi,mB hi];simp[AdvV.st,List.getD,hi]
 ·rw[List.getElem?_eq_none (by simp;omega),List.getElem?_eq_none (by omega)];rfl
theorem Dl{lim:Int}(hl:0<=lim){C:List Int}(hC:∀x∈C,0<=x/\x<=lim+1)(n:Nat):∀(D:List (Nat×MvV))(nx:List Int),(∀x∈nx,0<=x/\x<=lim+1)->∀x∈D.foldl (CE lim C) nx,0<=x/\x<=lim+1
 |[],nx,h=>h
 |p::D,nx,h=>by
  rw[List.foldl_cons];refine Dl hl hC n D _ λx hx=>?_;unfold CE at hx;rcases List.mem_or_eq_of_mem_set hx with hx|rfl
  ·exact h x hx
  ·have h1:0<=nx.getD p.1 0:=by
     by_cases hb:p.1<nx.length
     ·exact(h _ (jr hb)).1
     ·rw[ng,List.getElem?_eq_none (by omega)];exact Int.le_refl _
   have h2:0<=C.getD p.2.to.toNat 0:=by
    by_cases hb:p.2.to.toNat<C.length
    ·exact(hC _ (jr hb)).1
    ·rw[ng,List.getElem?_eq_none (by omega)];exact Int.le_refl _
   omega
theorem Hq{B n len k:Nat}(h:k<len)(hn:n≠0):nu 1 (.msl B n 1 0 len) (some (.int .i64 k)) none none=some (.msl B n 1 k (len-k)):=by
 simp only[nu,bF,Int.natCast_nonneg,if_true,c9];rw[if_pos ⟨trivial,by omega,bc _,hn⟩,if_pos (.inr h),dt,Nat.mul_one]
theorem GW{B n len k:Nat}(h:k<=len)(hn:n≠0):nu 1 (.msl B n 1 0 len) none (some (.int .i64 k)) none=some (.msl B n 1 0 k):=by
 simp only[nu,bF,Int.natCast_nonneg,if_true,c9];rw[if_pos ⟨trivial,by omega,h,hn⟩,if_pos (.inl trivial),nA,Nat.sub_zero]
theorem J7{H:Hp}{b c:Nat}{cb cs cs':List AV}(hb:H b=some cb)(hc:H c=some cs)(hne:c≠b)(h:d6 (only b cb) cs cs'):Fz (only b cb) H (av (dv H b) c cs'):=
 ⟨fun y d hd=>(by
  unfold only at hd;split at hd
  ·rename_i e;rw[e,hb];exact hd
  ·cases hd),λy d hd=>(by
  by_cases e:y=c
  ·subst e;rw[ae] at hd;cases hd;exact⟨cs,hc,if_neg hne,h⟩
  ·rw[ab e] at hd;obtain⟨h1,h2⟩:=jx hd;exact⟨d,h2,if_neg h1,d6.refl _ _⟩)⟩
theorem fk{b:Nat}{c:List AV}{H:Hp}(h:H b=some c):Sub (only b c) H:=λx cs hx=>by
 unfold only at hx;split at hx
 ·rename_i e;rw[e,h];exact hx
 ·cases hx
theorem x9(b1 b2:Nat)(c1 c2:List AV)(hne:b2≠b1):∃S:Hp,S b1=some c1/\S b2=some c2/\∀H:Hp,H b1=some c1->H b2=some c2->Sub S H:=by
 refine⟨λx=>if x=b1 then some c1 else if x=b2 then some c2 else none,?_,?_,λH h1 h2 x cs hx=>?_⟩
 ·dsimp only;rw[if_pos rfl]
 ·dsimp only;rw[if_neg hne,if_pos rfl]
 ·dsimp only at hx;split at hx
  ·rename_i e;rw[e,h1];exact hx
  ·split at hx
   ·rename_i e;rw[e,h2];exact hx
   ·cases hx
theorem tY{α:Type}{f:α->AV}{sz:Nat}(l:List α):jL (lf sz f l)=some l.length:=Cg
theorem xE{cs new:List AV}{k:Nat}{pre:List AV}(h1:cs.take k=pre)(h2:k+new.length<=cs.length):(cI cs k new).length=cs.length/\(cI cs k new).take (k+new.length)=pre++new:=by
 subst h1;unfold cI;have hl:(cs.take k).length=k:=by rw[iX];omega
 refine⟨by rw[cP,cP,Cy,hl];omega,?_⟩;rw[Ch (by rw[cP,hl];omega),ju (by rw[cP,hl];omega)]
theorem BS(a:AdvV)(d s:Nat)(w:List RndV):(bf a (d+1) s).map (w++ ·)=(a.st s).flatMap λm=>(bf a d m.to.toNat).map ((w++[m.r])++ ·):=by
 rw[bf,List.map_flatMap]
 congr 1
 funext m
 rw[List.map_map];refine pz λv _=>?_;simp
theorem KU{H:Hp}(l:List RndV):ee 7 H (bB l)=some (l.length,cL cK l):=uQ
theorem IK{H:Hp}{s:AV}{l:List RndV}(h:Row H 7 s (cL cK l)):SnapF H s (bB l):=by
 refine D6 (elems:=l.map cK) (by rw[CC];exact h) (λy hy=>?_) (by omega) (λy hy c hx=>?_)
 ·obtain⟨n,_,rfl⟩:=cE.1 hy;rfl
 ·obtain⟨n,_,rfl⟩:=cE.1 hy;rw[PE.2.2.2.2.2.2.2.2.2.2.2.2.2.2.2.2.2.2.2.2.2.1,PC.1] at hx;simp only[gR,List.not_mem_nil,or_false] at hx;rcases hx with rfl|rfl|rfl|rfl|rfl|rfl|rfl<;>exact .int _ _
theorem nU{α:Type}[Inhabited α]{f:α->AV}{l:List α}{i:Nat}(h:i<l.length):cL f l=cL f (l.take i)++((f (l.getD i default)).cells++cL f (l.drop (i+1))):=by
 have e:l=l.take i++(l.getD i default::l.drop (i+1)):=by
  rw[<-fv h,qI]
 conv=>lhs;rw[e]
 rw[eR];rfl
theorem zf{α:Type}[Inhabited α]{f:α->AV}{sz:Nat}(hc:∀x,(f x).cells.length=sz){l:List α}{i:Nat}(h:i<l.length):((cL f l).drop (i*sz)).take sz=(f (l.getD i default)).cells:=by
 have hl:(cL f (l.take i)).length=i*sz:=by rw[eu hc,iX,Nat.min_eq_left (by omega)]
 rw[nU h,List.drop_append,hl,Nat.sub_self,List.drop_zero,sk (by omega),List.nil_append,Ch (by rw[hc];exact bc _),ju (by rw[hc];exact bc _)]
theorem M8{α:Type}[Inhabited α]{f:α->AV}{sz:Nat}(hc:∀x,(f x).cells.length=sz){l:List α}{i:Nat}(h:i<l.length):cI (cL f l) (i*sz) (f (l.getD i default)).cells=cL f l:=by
 have hl:(cL f (l.take i)).length=i*sz:=by rw[eu hc,iX,Nat.min_eq_left (by omega)]
 unfold cI
 have h1:(cL f l).take (i*sz)=cL f (l.take i):=by
  rw[nU h,Ch (by omega),ju (by omega)]
 have h2:(cL f l).drop (i*sz+(f (l.getD i default)).cells.length)=cL f (l.drop (i+1)):=by
  rw[nU h,<-io,List.drop_append,sk (by rw[cP,hl];omega),List.nil_append,cP,hl,Nat.sub_self,List.drop_zero]
 rw[h1,h2,io,<-nU h]
theorem qp(c:CaseV):(fF c).cells.length=3:=rfl
theorem IL(c:CaseV):∀x∈(fF c).cells,Dat x:=DatL.cons (bP _) (DatL.cons (bS _) (DatL.cons (bS _) DatL.nil))
theorem MV(l:List CaseV):(cL fF l).length=l.length*3:=eu qp l
theorem Iz(l:List CaseV):AV.ones (cL fF l)=true:=tJ (f:=fF) (λ_=>rfl) l
theorem NS{H:Hp}(l:List CaseV):ee 3 H (bw l)=some (l.length,cL fF l):=uQ
theorem IR{H:Hp}(l:List (List MvV)):ee 1 H (aQ l)=some (l.length,l.map bD):=Ei (λ_=>rfl)
theorem GL{H:Hp}(l:List MvV):ee 8 H (bD l)=some (l.length,cL dB l):=uQ
theorem M6(l:List MvV):(cL dB l).length=l.length*8:=eu (f:=dB) (λ_=>rfl) l
theorem C9(l:List MvV):AV.ones (cL dB l)=true:=tJ (f:=dB) (λ_=>rfl) l
theorem Ii{H:Hp}{s:AV}{l:List MvV}(h:Row H 8 s (cL dB l)):Snap H s (bD l):=rE (f:=dB) (by omega) (λ_=>rfl) (λx=>yY x) h
theorem Mz{H:Hp}{s:AV}{l:List CaseV}(h:Row H 3 s (cL fF l)):Snap H s (bw l):=rE (f:=fF) (by omega) qp IL h
theorem C7{H:Hp}{s:AV}{l:List (List MvV)}(h:Row H 1 s (l.map bD)):Snap H s (aQ l):=h.snapL' (λ_=>rfl) (λx _=>kI x)
def wA(n:Nat):List AV:=(List.range n).map λ(k:Nat)=>.int .i64 (k:Int)
structure Bd(H:Hp)(bb mb:Nat)(n:Int)(vs:List VwV)(VS:AV):Prop where
 b:H bb=some [.int .i64 n,VS,.mp mb]
 r:Row H 8 VS (cL dN vs)
 m:H mb=some [.omap (vs.map dN) (wA vs.length)]
theorem LN(v w:VwV):jV (.st [.int,.int,.int,.int,.int,.int,.int,.int]) (dN v) (dN w)=some (decide (v=w)):=by
 have h:=mr [v.proc,v.round,v.input,v.h0,v.h1,v.h2,v.h3,v.h4] [w.proc,w.round,w.input,w.h0,w.h1,w.h2,w.h3,w.h4] rfl;show dU _ v.cs w.cs=_;rw[PC.2.2.2.2.2.1];refine h.trans ?_
 congr 1
 exact decide_eq_decide.2 Gi
theorem MO(v:VwV)(ks:List VwV):ef (.st [.int,.int,.int,.int,.int,.int,.int,.int]) (dN v) (ks.map dN)=some (if v∈ks then some (ks.idxOf v) else none):=ie _ dN LN v ks
theorem Hy{n k:Nat}(h:k<n):(wA n).getD k .undef=.int .i64 (k:Int):=by
 unfold wA;simp[List.getD,h]
theorem EU(n:Nat):wA (n+1)=wA n++[.int .i64 (n:Int)]:=by
 unfold wA;rw[List.range_succ,dp];rfl
theorem HJ{f:Int}{p:Nat}(h0:0<=f)(hp:p<=60):decide (tx (nS f p)=1)=hasFl f p:=by
 obtain⟨m,rfl⟩:∃m:Nat,f=m:=⟨f.toNat,by omega⟩
 rw[vW hp,xk];unfold hasFl;rw[show(m:Int)/((2^p:Nat):Int)=((m/2^p:Nat):Int) from rfl];generalize m/2^p=x;exact decide_eq_decide.2 (by omega)
def jb(n:Nat)(W:List (List RndV)):List (Nat×List RndV):=(List.range n).flatMap λc=>W.map λw=>(c,w)
theorem mi(n:Nat)(W:List (List RndV)):jb (n+1) W=jb n W++W.map λw=>(n,w):=by
 unfold jb;rw[List.range_succ,List.flatMap_append,lj,List.flatMap_nil,jd]
theorem DD(W:List (List RndV))(s:Nat):∀d,∃R,jb s W++R=jb (s+d) W
 |0=>⟨[],jd _⟩
 |d+1=>by
  obtain⟨R,h⟩:=DD W s d;exact⟨R++W.map λw=>(s+d,w),by rw[<-io,h,<-mi];rfl⟩
section
attribute [local irreducible] aF ai bj aY aN aM ax aS a8 bm Go.Abs.Fn aX Go.Abs.Pure ap aK Yl
theorem L4(n:Nat)(h:n<=5):pU 202 [.int .i64 n] (.int .i64 (pw n-1)):=by
 refine pO PD ?_;simp only[Ng,aw]
 have hw:IntKind.wrap .i64 (1*2^(min n 64))=pw n:=by
  rw[rn rfl];rcases(by omega:n=0\/n=1\/n=2\/n=3\/n=4\/n=5) with rfl|rfl|rfl|rfl|rfl|rfl<;>rfl
 have hs:=λtb tf=>K0 n tb tf;rw[hw] at hs;have hp:=yS (n:=(n:Int)) (by omega);generalize pw (n:Int)=w at *;refine wnZ @hs ?_;exact aC rfl
theorem Dc(r:RndV)(h:j0 r=0):pU 170 [jQ r] (.int .i64 0):=by
 refine pO Py ?_;simp only[Pj,aw];obtain⟨h1,h5,hp⟩:=i7 h;obtain⟨k,hk⟩:∃k:Nat,r.n=k:=⟨r.n.toNat,by omega⟩
 have hfu:=L4 k (by omega);have hpw:=yS (n:=r.n) (by omega);have hcell:=λq hq=>Hj r (q:=q) hq;unfold jQ;rw[PC.2.1];rw[hk] at hp hpw h1 h5 |-;generalize pw (k:Int)=w at *;refine wnZ and_self ?_;refine iq (X:=Nat) (λq=>[(1,.ptr 0 6 0),(14,.agg [.int .i64 r.h0,.int .i64 r.h1,.int .i64 r.h2,.int .i64 r.h3,.int .i64 r.h4]),(15,.int .i64 q)]) (λq=>q<=5) (λq=>5-q) 0 (bo _) (by simp (disch:=omega) only[agr,ZG,reduceEqDiff,↓reduceIte,SL]) ?_;intro q hq;by_cases hq5:q<5
 rotate_left
 ·refine wnZ and_self ?_;exact aC rfl
 have hc:=hcell q hq5;obtain⟨p1,p2⟩:=hp q hq5;have hsh:=λtb tf=>yF tb tf (r.hs.getD q 0) q
 have hmax:0<=r.hs.getD q 0/\r.hs.getD q 0<=31:=by
  by_cases hle:(k:Int)<=q
  ·rw[p1 hle];omega
  ·have:=p2 (by omega);omega
 have hbit:=Gq (f:=r.hs.getD q 0) (p:=q) hmax.1 (by omega)
 have hz:(q:Int)<k->decide (tx (nS (r.hs.getD q 0) q)=0)=false:=λhlt=>by
  rw[(p2 hlt).2.2] at hbit;cases hd:decide (tx (nS (r.hs.getD q 0) q)=0) with
  |false=>rfl
  |true=>rw[hd] at hbit;cases hbit
 have ha1:=λtb tf=>yq tb tf (nS (r.hs.getD q 0) q);generalize nS (r.hs.getD q 0) q=sn at *;generalize tx sn=an at *;generalize r.hs.getD q 0=x at *;by_cases hle:(k:Int)<=q
 ·have hx0:=p1 hle;refine wnZ (aI @IX @hc) ?_;exact⟨q+1,by omega,by omega,ag0,rfl,rfl⟩
 ·obtain⟨x0,x1,_⟩:=p2 (by omega);have hz:=hz (by omega);refine wnZ (zI5 @IX @hc @hsh @ha1 @hz) ?_;exact⟨q+1,by omega,by omega,ag0,rfl,rfl⟩
theorem HW(n:Nat)(f:Int)(h1:1<=n)(h5:n<=5)(h0:0<=f)(hf:f<pw n):pU 171 [.int .i64 n,.int .i64 f] (.int .i64 0):=by
 refine pO QB ?_;simp only[Ps,aw];have hp:=IQ n;rw[if_neg (by omega)] at hp;have hs:=λtb tf=>yF tb tf f n;rw[M0 h0 hf (by omega)] at hs;have hpw:=yS (n:=(n:Int)) (by omega);refine wnZ @hs ?_;exact aC rfl
theorem CQ(r:RndV)(h:gu r=0):pU 138 [cK r] (.int .i64 0):=by
 refine pO OD ?_;simp only[Pc,aw];obtain⟨h1,h2,h3⟩:=eX h;obtain⟨n1,n5,-⟩:=i7 h1;obtain⟨k,hk⟩:∃k:Nat,r.n=k:=⟨r.n.toNat,by omega⟩
 have hg:=Dc r h1;have hps:=HW k r.f (by omega) (by omega) h2 (by rw[<-hk];exact h3);rw[<-hk] at hps;have hd:=iw r;unfold cK;unfold jQ at hg hd;rw[PC.2.1] at hg hd;rw[PC.1];refine wnZ and_self ?_;exact aC rfl
theorem zt(a:AdvV):pU 86 [ca a] (.func 140 [.iptr [.int .i64 a.n,aQ a.states] 0]):=by
 refine pO Rn ?_;simp only[b86,aw];unfold ca;rw[PC.2.2.2.1];refine wnZ @PE ?_;exact iT (ac (fU rfl rfl (ac (.int _ _) (ac (Dat.snap (fL _)) al))) al)
theorem uZ(a:AdvV)(ha:ShA a){y:Nat}{H:Hp}{nx:Nat}(I:List (Nat×MvV)->Hp->Nat->Prop)
    (stab:∀D H H' n n',I D H n->n<=n'->(∀i,i<n->H' i=H i)->I D H' n')
    (rnd:∀D s m H n,I D H n->s<a.states.length->m∈a.st s->(∃R,D++(s,m)::R=wx a)->Yl Tryz.prog y [.int .i64 s,.agg m.cs] H n λr H' n'=>r=.bool true/\I (D++[(s,m)]) H' n')
    (h0:I [] H nx):
    Abs.Fn Tryz.prog 140 [.yld y,.iptr [.int .i64 a.n,aQ a.states] 0] H nx λ_ H' nx'=>I (wx a) H' nx':=by
 refine fO Pw ?_;simp only[OJ,aw];obtain⟨h1,h2⟩:=ha;have hmA:wx a=mD a a.states.length:=rfl
 have hpre:∀s,s<a.states.length->∃R,mD a (s+1)++R=wx a:=λs hs=>by
  obtain⟨R,h⟩:=Aj a (s+1) (a.states.length-(s+1));exact⟨R,by rw[h,hmA];congr 1;omega⟩
 refine wnY @PE ?_;refine bq (X:=Nat) (λs=>[(0,.yld y),(1,.iptr [.int .i64 a.n,aQ a.states] 0),(8,aQ a.states),(9,.int .i64 a.states.length),(10,.int .i64 s)]) (λs H n=>s<=a.states.length/\I (mD a s) H n) (λs=>a.states.length-s) 0 ⟨bo _,h0⟩ ag0 ?_;clear h0;rintro s H1 n1 ⟨s1,s2⟩;by_cases hs:s<a.states.length
 rotate_left
 ·obtain rfl:s=a.states.length:=by omega
  rw[hmA];refine wnY @PE ?_;exact s2
 have ix:=tz hs;have hl2:=h2 _ (ao (l:=a.states) hs);have hms:=pn a s;have hr:=rnd (s:=s);have hps:=hpre s hs;rw[hms] at hps;rw[nK] at ix hl2;have hr:=λD m H n h1 h2 h3=>hr D m H n h1 hs h2 h3;generalize a.st s=l at *;refine wnY (aI @PE @ix) ?_;refine bq (X:=Nat) (λk=>[(0,.yld y),(1,.iptr [.int .i64 a.n,aQ a.states] 0),(3,.int .i64 s),(8,aQ a.states),(9,.int .i64 a.states.length),(10,.int .i64 s),(15,bD l),(16,.int .i64 l.length),(17,.int .i64 k)]) (λk H n=>k<=l.length/\I (mD a s++(l.take k).map λm=>(s,m)) H n) (λk=>l.length-k) 0 ⟨bo _,by rw[List.take_zero,List.map_nil,jd];exact s2⟩ ag0 ?_;clear s2;rintro k H2 n2 ⟨k1,k2⟩;by_cases hk:k<l.length
 rotate_left
 ·rw[ju (by omega),<-hms] at k2;refine wnY @PE ?_;exact⟨s+1,by omega,⟨by omega,k2⟩,ag0⟩
 have ixm:=ixM hk;have hrm:=hr (mD a s++(l.take k).map λm=>(s,m)) (l.getD k default)
 have hnx:mD a s++(l.take (k+1)).map (λm=>(s,m))=(mD a s++(l.take k).map λm=>(s,m))++[(s,l.getD k default)]:=by
  rw[bZ hk,dp,<-io];rfl
 have hex:∃R,(mD a s++(l.take k).map λm=>(s,m))++(s,l.getD k default)::R=wx a:=by
  obtain⟨R,hR⟩:=hps;refine⟨(l.drop (k+1)).map (λm=>(s,m))++R,?_⟩;rw[<-hR,show(s,l.getD k default)::((l.drop (k+1)).map (λm=>(s,m))++R)=[(s,l.getD k default)]++((l.drop (k+1)).map (λm=>(s,m))++R) from rfl,<-io,<-hnx,<-io,io (mD a s),<-dp,qI]
 have hmm:=ao hk;have hrm:=λH n h=>hrm H n h hmm hex;rw[PC.2.2.1] at ixm hrm;rw[<-hnx] at hrm;generalize (mD a s++(l.take k).map λm=>(s,m))=D at *;generalize l.getD k default=m at *;refine wnY (aI @PE @ixm) ?_;refine tT ev0 ev0 (Yl.mono (hrm _ _ (stab D H2 _ n2 _ k2 (by omega) λi hi=>by rw[ab (by omega),ab (by omega)])) ?_);rintro r H3 n3 ⟨rfl,q⟩;refine wnY @PE ?_;exact⟨k+1,by omega,⟨by omega,q⟩,ag0⟩
theorem Kq(a:AdvV)(ha:ShA a)(ho:AdvOk a):pU 84 [ca a] (.int .i64 0):=by
 refine pO Rs ?_;simp only[b84,aw];have hm:=zt a;have hd:=bI a;have hY:=@uZ a ha;have h1:=ho.s1;have h2:=ho.s256;have h3:=ho.m4096;have hlen:=FV a;unfold ca at hm hd |-;rw[PC.2.2.2.1] at hm hd |-;refine wnY @PE ?_;refine kF 2 3 rfl rfl ev0 (λc0 cj hy=>?_);refine Abs.Fn.mono (hY (y:=2) (nx:=3) (λD H n=>H 0=some [.int .i64 a.n,aQ a.states]/\H 1=some [.int .i64 (D.length:Nat)]/\H 2=some [c0]/\3<=n) ?_ ?_ ?_) ?_
 ·rintro D H H' n n' ⟨q0,q1,q2,q3⟩ hn hh;exact⟨(hh 0 (by omega)).trans q0,(hh 1 (by omega)).trans q1,(hh 2 (by omega)).trans q2,by omega⟩
 ·rintro D s m H n ⟨q0,q1,q2,q3⟩ hs hm' ⟨R,hR⟩
  have hDl:D.length<=4096:=by
   have:=congrArg List.length hR;rw[cP] at this;omega
  refine hy _ _ _ _ q2 rfl ?_;clear hy;refine wnZ and_self ?_;refine⟨q2,?_⟩;have e0:dv H 2 0=some [.int .i64 a.n,aQ a.states]:=by rw[bQ (by omega)];exact q0
  have e1:dv H 2 1=some [.int .i64 (D.length:Nat)]:=by rw[bQ (by omega)];exact q1
  generalize dv H 2=H1 at *;refine wnY @e1 ?_;refine⟨rfl,?_,?_,ae,q3⟩
  ·rw[ab (by omega),ab (by omega)];exact e0
  ·rw[ab (by omega),ae,cP,List.length_singleton];rfl
 ·refine⟨by simp (disch:=omega) only[ab,ae],?_,ae,by omega⟩;simp (disch:=omega) only[ab,ae];rfl
 rintro r H' n' ⟨q0,q1,q2,q3⟩;refine .inl ⟨q2,?_⟩;have e0:dv H' 2 0=some [.int .i64 a.n,aQ a.states]:=by rw[bQ (by omega)];exact q0
 have e1:dv H' 2 1=some [.int .i64 ((wx a).length:Nat)]:=by rw[bQ (by omega)];exact q1
 generalize dv H' 2=H1 at *;refine wnY (zI3 @PE @e0 @e1) ?_
 all_goals first|exact aC rfl|(exfalso;omega)
theorem JN(a:AdvV)(l:List MvV)(h1:l≠[])(h2:∀m∈l,MvOk a m)(h3:∀i,0<i->i<l.length->aD (l.getD (i-1) default).r.ints (l.getD i default).r.ints<0)(hl:l.length<=4096)(ha:a.states.length<=256):pU 85 [ca a,bD l] (.int .i64 0):=by
 refine pO Sv ?_;simp only[b85,aw];have hl0:0<l.length:=yV.2 h1;unfold ca;rw[PC.2.2.2.1];refine wnY @PE ?_;refine bq (X:=Nat) (λk=>[(1,bD l),(2,.ptr 0 2 0),(11,bD l),(12,.int .i64 l.length),(13,.int .i64 k)]) (λk H n=>k<=l.length/\H 0=some [.int .i64 a.n,aQ a.states]/\0<n) (λk=>l.length-k) 0 ⟨bo _,ae,jf⟩ (by simp (disch:=omega) only[agr,ZG,reduceEqDiff,↓reduceIte,SL]) ?_;rintro k H n ⟨k1,g0,hn⟩;by_cases hk:k<l.length
 rotate_left
 ·refine wnY @PE ?_;exact aC rfl
 have ix:=ixM hk;obtain⟨m1,m2,m3,m4⟩:=h2 _ (ao hk);have hck:=CQ (l.getD k default).r m1;have hdm:=fY (l.getD k default).r;rw[PC.2.2.1] at ix;have hcm:=λp=>rQ p (l.getD k default).r;have hord:=h3 k;unfold cK at hck hdm;rw[PC.1] at hck hdm;have hz:decide ((l.getD k default).r.n≠a.n)=false:=bJ (λh=>h m2);cases k with
 |zero=>
  generalize l.getD 0 default=m at *;have z0:decide ((0:Int)<((0:Nat):Int))=false:=rfl;refine wkY (zI5 @PE @ix @g0 @hz @z0) ?_
  all_goals first|(exfalso;omega)|skip
  exact⟨0+1,by omega,⟨by omega,by rw[ab (by omega),ab (by omega)];exact g0,by omega⟩,ag0⟩
 |succ j=>
  have z0:decide ((0:Int)<((j+1:Nat):Int))=true:=bR (by omega)
  have ix2:eo 8 (bD l) (.int .i64 (((j+1:Nat):Int)-1))=some (.iptr (l.getD j default).cs 0):=by
   rw[show((j+1:Nat):Int)-1=(j:Int) by omega];exact ixM (by omega)
  rw[PC.2.2.1] at ix2;have hcp:=hcm (l.getD j default).r;have hdp:=fY (l.getD j default).r;unfold cK at hdp hcp;rw[PC.1] at hdp;rw[PC.1,PC.1] at hcp;have hord:=hord (by omega) hk;rw[show j+1-1=j from rfl] at hord;clear hcm;generalize l.getD (j+1) default=m at *;generalize l.getD j default=p at *;generalize aD p.r.ints m.r.ints=O at *;have zz:=aI @PE (aI @ix (aI @ix2 (aI @g0 (aI @hz @z0))));repeat' (first|refine zW ?_|refine zM ?_|apply a_n|refine zO ?_|refine vY ?_|refine cY ?_ (hp:=by first|exact hck|exact hcp)|refine alY ?_|refine stY ?_|refine gTY ?_|refine cFY ?_|(refine zGY ?_ ?_<;>(intro _hg;try (exfalso;omega)))|fail)
  all_goals first|(exfalso;omega)|skip
  exact⟨j+1+1,by omega,⟨by omega,by rw[ab (by omega),ab (by omega)];exact g0,by omega⟩,ag0⟩
theorem oX(a:AdvV)(ha:ShA a)(ho:AdvOk a):pU 52 [ca a] (.int .i64 0):=by
 refine pO SB ?_;simp only[b52,aw];have hsz:=Kq a ha ho;have hst:=λl hl=>JN a l (ho.ne l hl) (ho.mv l hl) (ho.asc l hl) (eK (jB hl) ho.m4096) ho.s256;have hm:=zt a;have hd:=bI a;have hY:=@uZ a ha;have n1:=ho.n1;have n5:=ho.n5;have hl8:=ha.len
 have hgrow:∀l∈a.states,∀m∈l,∀k∈a.st m.to.toNat,Jd m.r.f k.r.f=0:=λl hl m hml k hk=>by
  have hg:=dQ.1 (dQ.1 ho.grow l hl) m hml;have hin:=dQ.1 hg k hk;have ok1:=ho.mv l hl m hml;have ok2:=ho.mv _ (fJ (a:=a) (s:=m.to.toNat) (by have:=ok1.to0;have:=ok1.to1;omega)) k hk;obtain⟨_,p0,p1⟩:=eX ok1.r;obtain⟨_,p2,p3⟩:=eX ok2.r;have hpw:=yS (n:=a.n) n5;rw[ok1.n] at p1;rw[ok2.n] at p3;exact LM ⟨p0,by omega⟩ ⟨p2,by omega⟩ hin
 unfold ca at hsz hst hm hd |-;rw[PC.2.2.2.1] at hsz hst hm hd |-;refine wnY @PE ?_;refine bq (X:=Nat) (λk=>[(1,.ptr 0 2 0),(2,.ptr 1 1 0),(25,aQ a.states),(26,.int .i64 a.states.length),(27,.int .i64 k)]) (λk H n=>k<=a.states.length/\H 0=some [.int .i64 a.n,aQ a.states]/\H 1=some [.int .i64 0]/\n=2) (λk=>a.states.length-k) 0 ⟨bo _,by simp (disch:=omega) only[ab,ae],by simp (disch:=omega) only[ae],rfl⟩ (by simp (disch:=omega) only[agr,ZG,reduceEqDiff,↓reduceIte,SL]) ?_;rintro k H n ⟨k1,g0,g1,rfl⟩;by_cases hk:k<a.states.length
 ·have ix:=tz hk;have hs:=hst _ (ao hk);have hdl:=kI (a.states.getD k default);generalize a.states.getD k default=l at *;refine wnY (zI3 @PE @ix @g0) ?_;exact⟨k+1,by omega,⟨by omega,g0,g1,rfl⟩,ag0⟩
 refine wnY (aI @PE @g0) ?_;refine kF 2 3 rfl rfl ev0 (λc0 cj hy=>?_);refine Abs.Fn.mono (hY (y:=2) (nx:=3) (λD H n=>H 0=some [.int .i64 a.n,aQ a.states]/\H 1=some [.int .i64 0]/\H 2=some [c0]/\3<=n) ?_ ?_ ?_) ?_
 ·rintro D H H' n n' ⟨q0,q1,q2,q3⟩ hn hh;exact⟨(hh 0 (by omega)).trans q0,(hh 1 (by omega)).trans q1,(hh 2 (by omega)).trans q2,by omega⟩
 ·rintro D s m H n ⟨q0,q1,q2,q3⟩ hs hm'-;have ok:=ho.mv _ (fJ hs) m hm';have t0:=ok.to0;have t1:=ok.to1;have hgm:=hgrow _ (fJ hs) m hm';have ixs:=K3 (l:=a.states) ⟨t0,t1⟩;rw[nK] at ixs;have hll:=ha.each _ (fJ (a:=a) (s:=m.to.toNat) (by omega));generalize a.st m.to.toNat=l at *;refine hy _ _ _ _ q2 rfl ?_;clear hy;rw[PC.2.2.1];refine wnY and_self ?_;refine⟨by simp (disch:=omega) only[ab];exact q2,?_⟩;generalize hX:dv (av _ _ _) 2=H1;have e0:H1 0=some [.int .i64 a.n,aQ a.states]:=by rw[<-hX];simp (disch:=omega) only[bQ,ab];exact q0
  have e1:H1 1=some [.int .i64 0]:=by rw[<-hX];simp (disch:=omega) only[bQ,ab];exact q1
  have em:H1 n=some [.int .i64 m.r.n,.int .i64 m.r.h0,.int .i64 m.r.h1,.int .i64 m.r.h2,.int .i64 m.r.h3,.int .i64 m.r.h4,.int .i64 m.r.f,.int .i64 m.to]:=by rw[<-hX];simp (disch:=omega) only[bQ,ae];rfl
  clear hX q0 q1 q2;refine wnY (zI4 @PE @e0 @em @ixs) ?_;refine bq (X:=Nat) (λj=>[(1,.ptr 0 2 0),(2,.ptr 1 1 0),(8,.ptr n 8 0),(47,bD l),(48,.int .i64 l.length),(49,.int .i64 j)]) (λj H' n'=>j<=l.length/\H' 0=some [.int .i64 a.n,aQ a.states]/\H' 1=some [.int .i64 0]/\H' n=some [.int .i64 m.r.n,.int .i64 m.r.h0,.int .i64 m.r.h1,.int .i64 m.r.h2,.int .i64 m.r.h3,.int .i64 m.r.h4,.int .i64 m.r.f,.int .i64 m.to]/\n<n') (λj=>l.length-j) 0 ⟨bo _,e0,e1,em,by omega⟩ (by simp (disch:=omega) only[agr,ZG,reduceEqDiff,↓reduceIte,SL]) ?_;clear e0 e1 em;rintro j H2 n2 ⟨j1,e0,e1,em,hn2⟩;by_cases hj:j<l.length
  rotate_left
  ·refine wnY @PE ?_;exact⟨rfl,by rw[ab (by omega)];exact e0,by rw[ab (by omega)];exact e1,ae,by omega⟩
  have ixj:=ixM hj;have hg:=hgm _ (ao hj);have hae:=λtb tf=>JT tb tf m.r.f (l.getD j default).r.f;rw[hg] at hae;rw[PC.2.2.1] at ixj;generalize l.getD j default=k at *;refine wnY (zI4 @PE @ixj @em @hae) ?_;exact⟨j+1,by omega,⟨by omega,by simp (disch:=omega) only[ab];exact e0,by simp (disch:=omega) only[ab];exact e1,by simp (disch:=omega) only[ab];exact em,by omega⟩,ag0⟩
 ·exact⟨by rw[ab (by omega)];exact g0,by rw[ab (by omega)];exact g1,ae,by omega⟩
 rintro r H' n' ⟨q0,q1,q2,q3⟩;refine .inl ⟨q2,?_⟩;have e1:dv H' 2 1=some [.int .i64 0]:=by rw[bQ (by omega)];exact q1
 generalize dv H' 2=H1 at *;refine wnY (aI @PE @e1) ?_;exact aC rfl
theorem J2(a b:Nat)(ha:a<65536)(hb:b<65536):pU 200 [.int .u64 a,.int .u64 b] (.tup [.int .u64 0,.int .u64 ((a*b:Nat):Int)]):=by
 refine pO Nw ?_;simp only[NK,aw];have hab:a*b<=65535*65535:=Nat.mul_le_mul (by omega) (by omega)
 have hA:∀(n:Nat)(tb tf:Bool),n<65536->bt .and tb tf (.int .u64 n) (.int .u64 4294967295)=some (.int .u64 n):=λn tb tf h=>by
  have:=J9 (k:=.u64) (a:=n) (b:=4294967295) (tb:=tb) (tf:=tf) (by simp[IntKind.bits];omega) (by simp[IntKind.bits]);rw[show((4294967295:Nat):Int)=4294967295 from rfl] at this;rw[this,show(4294967295:Nat)=2^32-1 from rfl,Ho,Nat.mod_eq_of_lt (by omega)]
 have hS:∀(n:Nat)(tb tf:Bool),n<4294967296->bt .shr tb tf (.int .u64 n) (.int .u64 32)=some (.int .u64 0):=λn tb tf h=>by
  have:=Jb (k:=.u64) (k':=.u64) (a:=n) (b:=32) (tb:=tb) (tf:=tf) (by simp[IntKind.bits]);rw[show((32:Nat):Int)=32 from rfl] at this;rw[this,Nat.div_eq_of_lt (by omega)];rfl
 have hS0:∀(tb tf:Bool),bt .shr tb tf (.int .u64 0) (.int .u64 32)=some (.int .u64 0):=λtb tf=>hS 0 tb tf (by omega);have hA0:∀(tb tf:Bool),bt .and tb tf (.int .u64 0) (.int .u64 4294967295)=some (.int .u64 0):=λtb tf=>hA 0 tb tf (by omega)
 have hM:IntKind.wrap .u64 ((a:Int)*b)=((a*b:Nat):Int):=by
  rw[<-Int.natCast_mul];exact yd (by omega) (by omega)
 have w0:IntKind.wrap .u64 0=0:=by decide
 have qa:=λtb tf=>hA a tb tf ha;have qb:=λtb tf=>hA b tb tf hb;have sa:=λtb tf=>hS a tb tf (by omega);have sb:=λtb tf=>hS b tb tf (by omega);have sab:=λtb tf=>hS (a*b) tb tf (by omega);refine wnZ (aI @qa (aI @qb (aI @sa (Pk @sb @hM @sab @Int.zero_mul @Int.mul_zero @Int.add_zero @Int.zero_add @w0 @hS0 @hA0)))) ?_;refine bE (ac (aC rfl) (ac (aC rfl) al))
theorem P4(a b:Nat)(ha:a<65536)(hb:b<65536):pU 166 [.int .u64 a,.int .u64 b] (.tup [.int .u64 0,.int .u64 ((a*b:Nat):Int)]):=by
 refine pO Oy ?_;simp only[Nm,aw];have bfe:(false=true)=False:=by simp
 have zz:=@bfe;repeat' (first|refine zW ?_|apply a_n|refine zO ?_|refine vZ ?_|refine cZ ?_ (hp:=by exact J2 a b ha hb) (hs:=by(first|refine bK ?_ rfl|apply bC);(repeat' (first|exact al|apply fj|apply cU|exact Dat.int));first|done|fail)|refine cFZ ?_|refine au rfl ?_|refine r2Z ?_|fail)
 refine bE (ac (aC rfl) (ac (aC rfl) al))
theorem Ir(v:Int)(n:Nat)(h1:1<=n)(h2:n<=1000):PureF Tryz.prog 132 [aq [v],.int .i64 n] (aq (List.replicate n v)):=by
 refine qO PT ?_;simp only[P7,aw];have e1:IntKind.wrap .u64 (([v].length:Nat):Int)=((1:Nat):Int):=yd (by simp) (by simp);have e2:IntKind.wrap .u64 (n:Int)=n:=yd (by omega) (by omega);have e3:IntKind.wrap .i64 ((1*n:Nat):Int)=n:=by rw[jy]<;>omega
 have zz:=aI @e1 @e2;repeat' (first|refine zW ?_|apply a_n|refine zO ?_|refine vZ ?_|refine cZ ?_ (hp:=by exact P4 1 n (by omega) (by omega)) (hs:=by(first|refine bK ?_ rfl|apply bC);(repeat' (first|exact al|apply fj|apply cU|exact Dat.int));first|done|fail)|refine gTZ ?_|(refine zGZ ?_ ?_<;>(intro _hg;try (exfalso;omega)))|fail)
 refine nj rfl ev0 ev0 (by omega) (by omega) (by omega) (by omega) ?_;have e4:((1*n:Nat):Int).toNat=n:=by omega
 rw[e4,mS,Nat.mul_one];refine wnZ and_self ?_;refine Hi (n:=1) (by((try simp only[bg,ZA,reduceEqDiff,↓reduceIte,reduceAdd,reduceLeDiff]);(try with_reducible rfl));exact sD (m:=1) (new:=[.int .i64 v]) (k:=1) mR (by simp;omega) (by omega) ae (by simp) rfl (by omega) rfl) ?_;have hrow:∀k:Nat,1<=k->k<=n->(List.replicate k v++List.replicate (n-k) (0:Int)).length=n:=λk h1 h2=>by simp;omega
 have hst:cI ((List.replicate n (0:Int)).map (AV.int .i64)) 0 [.int .i64 v]=(List.replicate 1 v++List.replicate (n-1) (0:Int)).map (AV.int .i64):=by
  obtain⟨m,rfl⟩:∃m,n=m+1:=⟨n-1,by omega⟩
  simp[cI,List.replicate_succ]
 rw[hst];refine wnZ and_self ?_;refine bq (X:=Nat) (λk=>[(7,.msl 0 n 1 0 n),(8,.int .i64 k)]) (λk H nx=>1<=k/\k<=n/\H 0=some ((List.replicate k v++List.replicate (n-k) (0:Int)).map (AV.int .i64))) (λk=>n-k) 1 ⟨bc _,h1,ae⟩ ag0 ?_;rintro k H nx ⟨k1,k2,hH⟩;by_cases hk:k<n
 ·have s1:nu 1 (.msl 0 n 1 0 n) (some (.int .i64 k)) none none=some (.msl 0 n 1 k (n-k)):=Hq hk (by omega);have s2:nu 1 (.msl 0 n 1 0 n) none (some (.int .i64 k)) none=some (.msl 0 n 1 0 k):=GW (by omega) (by omega)
  have hcp:uR 1 (.msl 0 n 1 k (n-k)) (.msl 0 n 1 0 k) H=some (min k (n-k),av H 0 (cI ((List.replicate k v++List.replicate (n-k) (0:Int)).map (AV.int .i64)) k ((List.replicate (min k (n-k)) v).map (AV.int .i64)))):=by
   refine sD (m:=min k (n-k)) (ls:=k) (k:=min k (n-k)) rfl rfl (by omega) hH (by simp;omega) ?_ (by omega) jS;have h:=fZ (H:=H) (sz:=1) (b:=0) (n:=n) (off:=0) (len:=min k (n-k)) hH (by simp;omega) (by omega);refine h.trans ?_
   congr 2
   simp only[List.drop_zero,Nat.mul_one,dp,List.map_replicate];rw[Ch (by simp;omega),List.take_replicate]
   congr 1;omega
  refine wnZ (aI @s1 @s2) ?_;refine Hi (by((try simp only[bg,ZA,reduceEqDiff,↓reduceIte,reduceAdd,reduceLeDiff]);(try with_reducible rfl));exact hcp) ?_
  have e5:cI ((List.replicate k v++List.replicate (n-k) (0:Int)).map (AV.int .i64)) k ((List.replicate (min k (n-k)) v).map (AV.int .i64))=(List.replicate (k+min k (n-k)) v++List.replicate (n-(k+min k (n-k))) (0:Int)).map (AV.int .i64):=by
   simp only[cI,dp,List.map_replicate,List.length_replicate];rw[Ch (by simp),List.take_replicate,Nat.min_self,List.drop_append];simp only[List.drop_replicate,List.length_replicate];rw[show k-(k+min k (n-k))=0 by omega,show n-k-(k+min k (n-k)-k)=n-(k+min k (n-k)) by omega,List.replicate_zero,List.nil_append,List.replicate_append_replicate.symm]
   try simp
  rw[e5];simp only[f9,List.map_nil,List.getD_cons_succ,List.getD_cons_zero];refine wnZ and_self ?_;refine⟨k+min k (n-k),by omega,⟨by omega,by omega,ae⟩,ag0⟩
 ·have hkn:k=n:=by omega
  subst hkn;refine wnZ and_self ?_;rw[Nat.sub_self,List.replicate_zero,jd] at hH;exact sA hH rfl (by simp)
theorem GN(a:AdvV)(ha:ShA a)(ho:AdvOk a)(k:Nat)(hk:k<=6)(lim:Int)(hl:0<=lim)(hl2:lim<=1048576):pU 80 [ca a,.int .i64 k,.int .i64 lim] (.int .i64 (lP a k lim)):=by
 refine pO RS ?_;simp only[b80,aw];have h0:=ho.s1;have h8:=ha.len;have hm:=zt a;have hd:=bI a;have hY:=@uZ a ha;have hrp:=Ir 1 a.states.length h0 (by omega);have hcl:=ug (a:=a) (lim:=lim);have hcb:=tM (a:=a) (lim:=lim) hl;have hupc:=λj=>FZ (a:=a) (lim:=lim) (k:=j);have hok:=ho.mv;have e0:gI a lim 0=List.replicate a.states.length (1:Int):=by unfold gI;exact List.map_const' ..
 unfold ca lP at *;rw[PC.2.2.2.1] at hm hd |-;refine wnY @PE ?_;refine pt (ys:=[aq [1],.int .i64 a.states.length]) ev0 ev0 hrp ?_ ?_
 ·exact ac (oq ae rfl (by decide) rfl (fun y hy=>by simp at hy; subst hy; rfl) (fun i x c hx hc=>by
    match i with
    |0=>simp at hx hc;subst hx hc;exact .int _ _)) (ac (.int _ _) al)
 rw[<-e0];refine wnY @PE ?_
 refine pM (X:=Nat) (λj=>[(1,.int .i64 k),(3,.ptr 0 2 0),(5,.ptr 1 1 0),(7,.ptr 3 1 0),(16,.int .i64 k),(17,.int .i64 j)]) (λj H n=>j<=k/\H 0=some [.int .i64 a.n,aQ a.states]/\H 1=some [.int .i64 lim]/\H 3=some [aq (gI a lim j)]/\3<n) (λj=>k-j) 0
  ⟨aP,_,Fz.none,⟨bo _,by simp (disch:=omega) only[ab,ae],by simp (disch:=omega) only[ab,ae],by rw[ae];rfl,by omega⟩,eT (by simp (disch:=omega) only[agr,ZG,reduceEqDiff,↓reduceIte,SL])⟩ ?_
 rintro j H nx ⟨j1,g0,g1,g3,hnx⟩;by_cases hj:j<k
 rotate_left
 ·obtain rfl:j=k:=by omega
  have ix:eo 1 (aq (gI a lim j)) (.int .i64 0)=some (.iptr [.int .i64 ((gI a lim j).getD 0 0)] 0):=zJ (Int.le_refl _) (by rw[hcl];omega);refine wnY (aI @g3 @ix) ?_;exact aC rfl
 have hcj:=hcb j;have hlj:=hcl j;have hup:=hupc j;have hcn:=hcl (j+1);generalize hC1e:gI a lim (j+1)=C1 at *;generalize gI a lim j=C at *;refine wnY @g3 ?_;rw[hlj];refine nj rfl ev0 ev0 (by omega) (by omega) (by omega) (by omega) ?_;rw[c9,mS,Nat.mul_one];refine wnY (aI @PE @g0) ?_;generalize hX:av (av (av H nx _) _ _) _ _=H1;have e0':H1 0=some [.int .i64 a.n,aQ a.states]:=by rw[<-hX];simp (disch:=omega) only[ab];exact g0
 have e1:H1 1=some [.int .i64 lim]:=by rw[<-hX];simp (disch:=omega) only[ab];exact g1
 have e3:H1 3=some [aq C]:=by rw[<-hX];simp (disch:=omega) only[ab];exact g3
 have er:H1 nx=some ((pV lim C a.states.length []).map (AV.int .i64)):=by rw[<-hX];simp (disch:=omega) only[ab,ae];rfl
 have et:H1 (nx+1)=some [.msl nx a.states.length 1 0 a.states.length]:=by rw[<-hX];simp (disch:=omega) only[ae];rfl
 clear hX g0 g1 g3;refine kF (nx+2) (nx+3) (by omega) rfl ev0 (λc0 cj hy=>?_);refine Abs.Fn.mono (hY (y:=nx+2) (nx:=nx+3) (λD H n=>H 0=some [.int .i64 a.n,aQ a.states]/\H 1=some [.int .i64 lim]/\H 3=some [aq C]/\H nx=some ((pV lim C a.states.length D).map (AV.int .i64))/\H (nx+1)=some [.msl nx a.states.length 1 0 a.states.length]/\H (nx+2)=some [c0]/\nx+3<=n) ?_ ?_ ?_) ?_
 ·rintro D H H' n n' ⟨q0,q1,q3,qr,qt,qy,q4⟩ hn hh;exact⟨(hh 0 (by omega)).trans q0,(hh 1 (by omega)).trans q1,(hh 3 (by omega)).trans q3,(hh nx (by omega)).trans qr,(hh (nx+1) (by omega)).trans qt,(hh (nx+2) (by omega)).trans qy,by omega⟩
 ·rintro D s m H n ⟨q0,q1,q3,qr,qt,qy,q4⟩ hs hm'-;have ok:=hok _ (fJ hs) m hm';have t0:=ok.to0;have t1:=ok.to1;have hul:=HK lim C a.states.length D;have hub:=Dl hl hcj a.states.length D (List.replicate a.states.length 0) λx hx=>by rw[(List.mem_replicate.1 hx).2];omega
  have hus:=Fa lim C a.states.length D s m;change ∀x∈pV lim C a.states.length D,_ at hub;generalize pV lim C a.states.length (D++[(s,m)])=U' at *;generalize pV lim C a.states.length D=U at *;have hbu:=hub _ (jr (l:=U) (i:=s) (by omega));have hbc:=hcj _ (jr (l:=C) (i:=m.to.toNat) (by omega));have ixc:eo 1 (aq C) (.int .i64 m.to)=some (.iptr [.int .i64 (C.getD m.to.toNat 0)] 0):=zJ t0 (by omega)
  have hgu:(U.map (AV.int .i64))[s]?=some (.int .i64 (U.getD s 0)):=by
   rw[ko];simp[List.getD,show s<U.length by omega]
  have hlp:∀x:Int,cI (U.map (AV.int .i64)) s [.int .i64 x]=(U.set s x).map (AV.int .i64):=λx=>by
   rw[oo (by rw[bi];omega),tP]
  have hml:(U.map (AV.int .i64)).length=a.states.length:=by rw[bi,hul]
  generalize C.getD m.to.toNat 0=x at *;generalize U.getD s 0=u at *;have hsN:s<a.states.length:=hs;generalize hL:U.map (AV.int .i64)=L at *;refine hy _ _ _ _ qy rfl ?_;clear hy;rw[PC.2.2.1];refine wnY and_self ?_;refine⟨by simp (disch:=omega) only[ab];exact qy,?_⟩;generalize hX:dv (av _ _ _) (nx+2)=H3;have w:∀y,y<n->y≠nx+2->H3 y=H y:=λy h1 h2=>by rw[<-hX];simp (disch:=omega) only[bQ,ab]
  have w0:=(w 0 (by omega) (by omega)).trans q0;have w1:=(w 1 (by omega) (by omega)).trans q1;have w3:=(w 3 (by omega) (by omega)).trans q3;have wr:=(w nx (by omega) (by omega)).trans qr;have wt:=(w (nx+1) (by omega) (by omega)).trans qt;have wm:H3 n=some [.int .i64 m.r.n,.int .i64 m.r.h0,.int .i64 m.r.h1,.int .i64 m.r.h2,.int .i64 m.r.h3,.int .i64 m.r.h4,.int .i64 m.r.f,.int .i64 m.to]:=by rw[<-hX];simp (disch:=omega) only[bQ,ae];rfl
  clear w hX q0 q1 q3 qr qt qy;refine wnY (zI9 @w0 @w1 @w3 @wr @wt @wm @hml @hgu @ixc) ?_;refine⟨rfl,?_,?_,?_,?_,?_,ae,by omega⟩
  ·simp (disch:=omega) only[ab];exact w0
  ·simp (disch:=omega) only[ab];exact w1
  ·simp (disch:=omega) only[ab];exact w3
  ·simp (disch:=omega) only[ab,ae];rw[hlp,hus]
  ·simp (disch:=omega) only[ab];exact wt
 ·exact⟨by rw[ab (by omega)];exact e0',by rw[ab (by omega)];exact e1,by rw[ab (by omega)];exact e3,by rw[ab (by omega)];exact er,by rw[ab (by omega)];exact et,ae,by omega⟩
 rintro r H' n' ⟨q0,q1,q3,qr,qt,qy,q4⟩;refine .inl ⟨qy,?_⟩;have hdl:∀y,y≠nx+2->dv H' (nx+2) y=H' y:=λy hy=>bQ hy;have f0:=(hdl 0 (by omega)).trans q0;have f1:=(hdl 1 (by omega)).trans q1;have f3:=(hdl 3 (by omega)).trans q3;have fr:=(hdl nx (by omega)).trans qr;have ft:=(hdl (nx+1) (by omega)).trans qt;generalize dv H' (nx+2)=H2 at *;rw[hup] at fr;refine wnY (aI @f3 @ft) ?_;refine⟨j+1,by omega,_,_,J7 (b:=nx) (c:=3) (cs':=[aq C1]) (by rw[ab (by omega)];exact fr) ae (by omega) ⟨rfl,λi x x' h1 h2=>?_⟩,⟨by omega,?_,?_,by rw[ae,hC1e],by omega⟩,eT ag0⟩
 ·match i with
  |0=>
   change some (AV.msl nx a.states.length 1 0 a.states.length)=some x at h1;change some (aq C1)=some x' at h2;cases h1;cases h2;exact .inr (Row.snapI (Row.box1 ez (by rw[bi,hcn])))
  |i+1=>simp at h2
 ·simp (disch:=omega) only[ab,bQ];exact f0
 ·simp (disch:=omega) only[ab,bQ];exact f1
theorem xH(a:AdvV)(ha:ShA a)(ho:AdvOk a)(k:Nat)(hk:k<=6)(lim:Int)(hl:0<=lim)(hl2:lim<=1048576)(hn:lP a k lim<=lim):pU 41 [ca a,.int .i64 k,.int .i64 lim] (.tup [.int .i64 (lP a k lim),.int .i64 0]):=by
 refine pO R7 ?_;simp only[b41,aw];have h1:=oX a ha ho;have h2:=GN a ha ho k hk lim hl hl2;have hd:=bI a;unfold ca at h1 h2 hd |-;rw[PC.2.2.2.1] at h1 h2 hd |-;generalize lP a k lim=M at *;refine wnZ @PE ?_;exact bE (ac (.int _ _) (ac (.int _ _) al))
theorem Jq(a:AdvV)(ha:ShA a)(ho:AdvOk a)(k:Nat)(hk:k<=6)(hn:lP a k 1048576<=1048576):pU 40 [ca a,.int .i64 k] (.tup [.int .i64 (lP a k 1048576),.int .i64 0]):=by
 refine pO RA ?_;simp only[b40,aw];have h2:=xH a ha ho k hk 1048576 (by omega) (by omega) hn;have hd:=bI a;unfold ca at h2 hd |-;rw[PC.2.2.2.1] at h2 hd |-;generalize lP a k 1048576=M at *;refine wnZ @PE ?_;exact bE (ac (.int _ _) (ac (.int _ _) al))
theorem vG(l:List RndV)(hl:l.length<=100000):PureF Tryz.prog 20 [bB l] (bB l):=by
 refine qO Se ?_;simp only[b20,aw];refine wnY and_self ?_;have hfin:∀H b,H b=some (cL cK l)->SnapF H (.msl b (l.length*7) 7 0 l.length) (bB l):=λH b hb=>IK (Row.box b l.length _ hb (yv l));refine pR (k:=l.length) (by((try simp only[bg,ZA,reduceEqDiff,↓reduceIte,reduceAdd,reduceLeDiff]);(try with_reducible rfl));exact tY l) (λh=>?_) (λh=>?_) (λh=>?_)
 ·refine wnY and_self ?_;refine mO rfl ev0 ev0 (KU l) (ye l) (by omega) (by omega) ?_;refine wnY and_self ?_;exact hfin _ _ ae
 ·refine wnY and_self ?_;obtain rfl:=fP.1 h;exact .eslsl 7
 ·refine wnY and_self ?_;refine mO rfl ev0 ev0 (KU l) (ye l) (by omega) (by omega) ?_;refine wnY and_self ?_;exact hfin _ _ ae
theorem GD(a:AdvV)(ha:ShA a)(ho:AdvOk a)(R n:Nat)(hn:n<=5000)(hR:R<=6):∀(d s len:Nat)(w:List RndV)(D:List (List RndV))(cs C:List AV)(H:Hp)(nx:Nat),len+d=R->w.length=len->s<a.states.length->D.length+(bf a d s).length<=n->
    H 0=some [.int .i64 a.n,aQ a.states]->H 1=some [.int .i64 R]->H 2=some cs->cs.length=n->cs.take D.length=D.map bB->H 3=some [.msl 2 n 1 0 D.length]->H 4=some [.func 42 [.ptr 1 1 0,.ptr 3 1 0,.ptr 0 2 0,.ptr 4 1 0]]->H 5=some C->C.length=R*7->C.take (len*7)=cL cK w->6<=nx->
    Abs.Fn Tryz.prog 42 [.int .i64 s,.msl 5 (R*7) 7 0 len,.ptr 1 1 0,.ptr 3 1 0,.ptr 0 2 0,.ptr 4 1 0] H nx λr H' nx'=>r=.tup []/\nx<=nx'/\H' 0=H 0/\H' 1=H 1/\H' 4=H 4/\H' 3=some [.msl 2 n 1 0 (D.length+(bf a d s).length)]/\
     (∃cs',H' 2=some cs'/\cs'.length=n/\cs'.take (D.length+(bf a d s).length)=(D++(bf a d s).map (w++ ·)).map bB)/\∃C',H' 5=some C'/\C'.length=R*7/\C'.take (len*7)=cL cK w:=by
 intro d
 induction d with
 |zero=>
  intro s len w D cs C H nx hd hw hs hDn h0 h1 h2 hcl hct h3 h4 h5 hCl hCt hnx;refine fO Qd ?_;simp only[b42,aw];obtain rfl:len=R:=by omega
  have hCw:C=cL cK w:=by rw[<-hCt,ju (by omega)]
  have hlw:(bf a 0 s)=[[]]:=rfl;rw[hlw] at hDn |-;have hDn:D.length+1<=n:=hDn;have hcl1:=vG w (by omega);have z:decide ((len:Int)=(len:Int))=true:=bR rfl;refine wnY (zI5 @h0 @h1 @h3 @h4 @z) ?_;refine fg (only 3 [.msl 2 n 1 0 D.length]) rfl (fk h3) ?_;have s3:only 3 [.msl 2 n 1 0 D.length] 3=some [.msl 2 n 1 0 D.length]:=ez;refine wnY @s3 ?_;refine dz ?_;refine pt (ys:=[bB w]) ev0 ev0 hcl1 (ac (BQ (by have:=Row.box (H:=H) (sz:=7) 5 len C h5 (by omega);rwa [hCw] at this)) al) ?_;refine iE ⟨fk h3,?_⟩;refine dz ?_;refine wnY @PE ?_;refine⟨fk (by rw[ab (by omega)];exact h3),?_⟩;refine fm ?_;refine Hm (b:=2) (m:=n) (off:=0) (len:=D.length) (n:=1) (new:=[bB w]) rfl ev0 (by rw[ab (by omega)];exact h2) ev0 (dw rfl) rfl hcl (λ_=>by omega) (by omega) (by omega) ?_;have hlp:=xE (cs:=cs) (new:=[bB w]) (k:=0+D.length*1) (pre:=D.map bB) (by rw[dt,Nat.mul_one];exact hct) (by simp;omega);have hlp1:(cI cs (0+D.length*1) [bB w]).length=n:=hlp.1.trans hcl
  have hlp2:(cI cs (0+D.length*1) [bB w]).take (D.length+1)=(D++[w]).map bB:=by
   have:=hlp.2;rw[List.length_singleton,dt,Nat.mul_one] at this;rw[dt,Nat.mul_one,this,dp];rfl
  generalize cI cs (0+D.length*1) [bB w]=cs' at *;have k3:av (av H nx [bB w]) 2 cs' 3=some [.msl 2 n 1 0 D.length]:=by simp (disch:=omega) only[ab];exact h3
  have zz:=@h3;repeat' (first|apply a_n|apply a_r|refine zO ?_|apply fm|refine stY ?_|refine au rfl ?_|fail)
  refine⟨rfl,by omega,by simp (disch:=omega) only[ab],by simp (disch:=omega) only[ab],by simp (disch:=omega) only[ab],ae,⟨cs',by simp (disch:=omega) only[ab,ae],hlp1,?_⟩,C,by simp (disch:=omega) only[ab];exact h5,hCl,hCt⟩;rw[f9,List.map_nil,jd];exact hlp2
 |succ d ih=>
  intro s len w D cs C H nx hd hw hs hDn h0 h1 h2 hcl hct h3 h4 h5 hCl hCt hnx;refine fO Qd ?_;simp only[b42,aw];have z:decide ((len:Int)=(R:Int))=false:=bJ (by omega);have ix:=tz hs;have hWs:=BS a d s w;have hWl:(bf a (d+1) s).length=((bf a (d+1) s).map (w++ ·)).length:=by rw[bi]
  rw[hWl,hWs] at hDn |-;have hok:=ho.mv _ (fJ hs);rw[nK] at ix;have hll:=ha.each _ (fJ hs);clear hWl hWs;generalize a.st s=l at *;refine wnY (zI7 @PE @h0 @h1 @h3 @h4 @z @ix) ?_
  refine bq (X:=Nat × List (List RndV)) (fun x=>[(1,.msl 5 (R * 7) 7 0 len),(5,.ptr 4 1 0),(23,bD l),(24,.int .i64 l.length),(25,.int .i64 x.1)]) (fun x H' n'=>x.1 ≤ l.length∧nx ≤ n'∧H' 0=H 0∧H' 1=H 1∧H' 4=H 4∧H' 3=some [.msl 2 n 1 0 x.2.length] ∧
   (∃cs',H' 2=some cs'/\cs'.length=n/\cs'.take x.2.length=x.2.map bB)/\(∃C',H' 5=some C'/\C'.length=R*7/\C'.take (len*7)=cL cK w)/\
   x.2++((l.drop x.1).flatMap λm=>(bf a d m.to.toNat).map ((w++[m.r])++ ·))=D++l.flatMap λm=>(bf a d m.to.toNat).map ((w++[m.r])++ ·)) (λx=>l.length-x.1) (0,D) ⟨bo _,bc _,rfl,rfl,rfl,h3,⟨cs,h2,hcl,hct⟩,⟨C,h5,hCl,hCt⟩,by rw[List.drop_zero]⟩ ag0 ?_
  generalize hTot:D++l.flatMap (λm=>(bf a d m.to.toNat).map ((w++[m.r])++ ·))=Tot at *;have hTl:Tot.length<=n:=by rw[<-hTot,cP];exact hDn
  have hTl2:D.length+(l.flatMap λm=>(bf a d m.to.toNat).map ((w++[m.r])++ ·)).length=Tot.length:=by rw[<-hTot,cP]
  rw[hTl2];clear hcl hct h2 h3 h5 hCl hCt hDn hTl2 hTot;rintro⟨i,D1⟩ H1 n1 ⟨i1,i2,e0,e1,e4,e3,⟨cs1,e2,c1,c2⟩,⟨C1,e5,d1,d2⟩,htot⟩;dsimp only at i1 e3 c2 htot |-;by_cases hi:i<l.length
  rotate_left
  ·rw[sk (by omega),List.flatMap_nil,jd] at htot;subst htot;refine wnY @PE ?_;exact⟨rfl,i2,e0,e1,e4,e3,⟨cs1,e2,c1,c2⟩,C1,e5,d1,d2⟩
  have ixm:=ixM hi;obtain⟨m1,m2,m3,m4⟩:=hok _ (ao hi);rw[List.drop_eq_getElem_cons hi,show l[i]=l.getD i default by simp[List.getD,hi],lj,<-io] at htot;rw[PC.2.2.1] at ixm;generalize l.getD i default=m at *;refine wnY (aI @PE @ixm) ?_;have f4:=e4.trans h4;obtain⟨S,s4,sm,hsub⟩:=x9 4 n1 [.func 42 [.ptr 1 1 0,.ptr 3 1 0,.ptr 0 2 0,.ptr 4 1 0]] [.int .i64 m.r.n,.int .i64 m.r.h0,.int .i64 m.r.h1,.int .i64 m.r.h2,.int .i64 m.r.h3,.int .i64 m.r.h4,.int .i64 m.r.f,.int .i64 m.to] (by omega);generalize hX:av (av H1 n1 _) n1 _=H2;have w2:∀y,y<n1->H2 y=H1 y:=λy hy=>by rw[<-hX];simp (disch:=omega) only[ab]
  have wm:H2 n1=some [.int .i64 m.r.n,.int .i64 m.r.h0,.int .i64 m.r.h1,.int .i64 m.r.h2,.int .i64 m.r.h3,.int .i64 m.r.h4,.int .i64 m.r.f,.int .i64 m.to]:=by rw[<-hX,ae];rfl
  clear hX;have w4:=(w2 4 (by omega)).trans f4;refine fg S rfl (hsub _ w4 wm) ?_;refine wnY (zI3 @PE @s4 @sm) ?_;refine dz ?_;refine wnY @PE ?_;refine⟨hsub _ (by rw[ab (by omega)];exact w4) (by rw[ab (by omega)];exact wm),?_⟩;refine dz ?_;refine Hm (b:=5) (m:=R*7) (off:=0) (len:=len) (n:=1) (new:=[.int .i64 m.r.n,.int .i64 m.r.h0,.int .i64 m.r.h1,.int .i64 m.r.h2,.int .i64 m.r.h3,.int .i64 m.r.h4,.int .i64 m.r.f]) rfl ev0 (by rw[ab (by omega),w2 5 (by omega)];exact e5) ev0 (dw rfl) rfl d1 (λ_=>by omega) (by omega) (by omega) ?_;refine iE ⟨hsub _ (by rw[ab (by omega),ab (by omega)];exact w4) (by rw[ab (by omega),ab (by omega)];exact wm),?_⟩;refine fm ?_;have hlp:=xE (cs:=C1) (new:=[AV.int .i64 m.r.n,.int .i64 m.r.h0,.int .i64 m.r.h1,.int .i64 m.r.h2,.int .i64 m.r.h3,.int .i64 m.r.h4,.int .i64 m.r.f]) (k:=0+len*7) (pre:=cL cK w) (by rw[dt];exact d2) (by rw[d1,dt];show len*7+7<=R*7;omega);have hlp1:(cI C1 (0+len*7) [AV.int .i64 m.r.n,.int .i64 m.r.h0,.int .i64 m.r.h1,.int .i64 m.r.h2,.int .i64 m.r.h3,.int .i64 m.r.h4,.int .i64 m.r.f]).length=R*7:=hlp.1.trans d1
  have hlp2:(cI C1 (0+len*7) [AV.int .i64 m.r.n,.int .i64 m.r.h0,.int .i64 m.r.h1,.int .i64 m.r.h2,.int .i64 m.r.h3,.int .i64 m.r.h4,.int .i64 m.r.f]).take ((len+1)*7)=cL cK (w++[m.r]):=by
   have:=hlp.2;rw[show 0+len*7+[AV.int .i64 m.r.n,.int .i64 m.r.h0,.int .i64 m.r.h1,.int .i64 m.r.h2,.int .i64 m.r.h3,.int .i64 m.r.h4,.int .i64 m.r.f].length=(len+1)*7 by show 0+len*7+7=_;omega] at this;rw[this,eR,mH];rfl
  generalize cI C1 (0+len*7) [AV.int .i64 m.r.n,.int .i64 m.r.h0,.int .i64 m.r.h1,.int .i64 m.r.h2,.int .i64 m.r.h3,.int .i64 m.r.h4,.int .i64 m.r.f]=C2 at *
  have hDl:D1.length+(bf a d m.to.toNat).length<=n:=by
   have:=congrArg List.length htot;rw[cP,cP,bi] at this;omega
  have hih:=ih m.to.toNat (len+1) (w++[m.r]) D1 cs1 C2 (av (av H2 n1.succ [.int .i64 m.r.n,.int .i64 m.r.h0,.int .i64 m.r.h1,.int .i64 m.r.h2,.int .i64 m.r.h3,.int .i64 m.r.h4,.int .i64 m.r.f]) 5 C2) (n1+1+1) (by omega) (by rw[cP,hw];rfl) (by omega) hDl
   (by simp (disch:=omega) only[ab];rw[w2 0 (by omega),e0];exact h0) (by simp (disch:=omega) only[ab];rw[w2 1 (by omega),e1];exact h1) (by simp (disch:=omega) only[ab];rw[w2 2 (by omega)];exact e2) c1 c2 (by simp (disch:=omega) only[ab];rw[w2 3 (by omega)];exact e3) (by simp (disch:=omega) only[ab];exact w4) ae hlp1 hlp2 (by omega)
  rw[show((m.to.toNat:Nat):Int)=m.to by omega] at hih;refine ce ev0 ev0 hih ?_;rintro r H4 n4 ⟨rfl,p1,p2,p3,p4,p5,⟨cs4,p6,p7,p8⟩,C4,p9,p10,p11⟩;refine wnY and_self ?_;refine⟨(i+1,D1++(bf a d m.to.toNat).map ((w++[m.r])++ ·)),by dsimp only;omega,⟨by dsimp only;omega,by omega,?_,?_,?_,?_,⟨cs4,p6,p7,?_⟩,⟨C4,p9,p10,?_⟩,htot⟩,ag0⟩
  ·rw[p2];simp (disch:=omega) only[ab];rw[w2 0 (by omega),e0]
  ·rw[p3];simp (disch:=omega) only[ab];rw[w2 1 (by omega),e1]
  ·rw[p4];simp (disch:=omega) only[ab];rw[w2 4 (by omega),e4]
  ·rw[p5];dsimp only;rw[cP,bi]
  ·dsimp only;rw[cP,bi];exact p8
  ·have:=congrArg (List.take (len*7)) p11;rw[List.take_take,Nat.min_eq_left (by omega),eR,Ch (by rw[yv];omega),ju (l:=cL cK w) (by rw[yv];omega)] at this;exact this
theorem JD(a:AdvV)(ha:ShA a)(ho:AdvOk a)(R:Nat)(hR:R<=6)(hn:lP a R 4096<=4096):pU 17 [ca a,.int .i64 R] (.tup [d9 (bf a R 0),.int .i64 0]):=by
 refine pO RM ?_;simp only[b17,aw];have hct:=xH a ha ho R hR 4096 (by omega) (by omega) hn;have hd:=bI a;have hto:CJ a:=λl hl m hm=>⟨(ho.mv l hl m hm).to0,(ho.mv l hl m hm).to1⟩
 have h1:=ho.s1;have hnum:=tO hto (by omega) (lim:=4096) (by omega) R;have hlen:(bf a R 0).length<=4096:=by omega
 have hnb:lP a R 4096=((bf a R 0).length:Nat):=by omega
 have hpos:=sB hto ho.ne R 0 (by omega);have hwp:0<(bf a R 0).length:=yV.2 hpos;rw[hnb] at hct;have hF:=GD a ha ho R (bf a R 0).length (by omega) hR R 0 0 [] [] (bd (.agg [.esl]) (bf a R 0).length) (bd (AV.agg [.int .i64 0,.int .i64 0,.int .i64 0,.int .i64 0,.int .i64 0,.int .i64 0,.int .i64 0]) R);unfold ca at hct hd |-;rw[PC.2.2.2.1] at hct hd |-;generalize bf a R 0=W at *;refine wnY @PE ?_;refine nj rfl ev0 ev0 (Int.le_refl _) (by omega) (by omega) (by omega) ?_;rw[c9,Int.toNat_zero];refine wnY @PE ?_;obtain⟨S,s4,s1,hsub⟩:=x9 4 1 [.func 42 [.ptr 1 1 0,.ptr 3 1 0,.ptr 0 2 0,.ptr 4 1 0]] [.int .i64 R] (by omega);generalize hX:av (av _ _ [AV.nilf]) _ _=H2;have k4:H2 4=some [.func 42 [.ptr 1 1 0,.ptr 3 1 0,.ptr 0 2 0,.ptr 4 1 0]]:=by rw[<-hX];simp (disch:=omega) only[ae];rfl
 have k0:H2 0=some [.int .i64 a.n,aQ a.states]:=by rw[<-hX];simp (disch:=omega) only[ab,ae]
 have k1:H2 1=some [.int .i64 R]:=by rw[<-hX];simp (disch:=omega) only[ab,ae]
 have k2:H2 2=some (bd (.agg [.esl]) W.length):=by rw[<-hX];simp (disch:=omega) only[ab,ae]
 have k3:H2 3=some [.msl 2 W.length 1 0 0]:=by
  rw[<-hX];simp (disch:=omega) only[ab,ae,Nat.mul_one];rfl
 clear hX;refine fg S rfl (hsub _ k4 k1) ?_;refine wnY (zI3 @PE @s4 @s1) ?_;refine dz ?_;refine nj (k1:=.i64) (k2:=.i64) (n:=0) (m:=R) rfl ev0 ev0 (Int.le_refl _) (by omega) (by omega) (by omega) ?_;rw[c9,Int.toNat_zero];refine iE ⟨hsub _ (by rw[ab (by omega)];exact k4) (by rw[ab (by omega)];exact k1),?_⟩;refine fm ?_;have z1:(bd (.agg [.esl]) W.length).length=W.length:=by simp[bd,AV.cells]
 have z2:(bd (AV.agg [.int .i64 0,.int .i64 0,.int .i64 0,.int .i64 0,.int .i64 0,.int .i64 0,.int .i64 0]) R).length=R*7:=by simp[bd,AV.cells]
 have hFF:=hF (av H2 5 (bd (AV.agg [.int .i64 0,.int .i64 0,.int .i64 0,.int .i64 0,.int .i64 0,.int .i64 0,.int .i64 0]) R)) 6 (by omega) rfl (by omega) (by simp) (by rw[ab (by omega)];exact k0) (by rw[ab (by omega)];exact k1) (by rw[ab (by omega)];exact k2) z1 (by simp) (by rw[ab (by omega)];exact k3) (by rw[ab (by omega)];exact k4) ae z2 (by simp[cL]) (bc _);rw[show((0:Nat):Int)=(0:Int) from rfl] at hFF;refine ce ev0 ev0 hFF ?_;rintro r H3 n3 ⟨rfl,p1,p2,p3,p4,p5,⟨cs4,p6,p7,p8⟩,-⟩;rw[ss,dt] at p5 p8;refine wnY @p5 ?_;rw[ju (by omega),List.nil_append,show(λx:List RndV=>([]:List RndV)++x)=id from rfl,List.map_id] at p8;subst p8;exact bE (ac (Dg (Row.box1 p6 (by rw[bi]))) (ac (.int _ _) al))
theorem Kr(p:PrbV)(h:OkP p):pU 39 [cf p] (.int .i64 0):=by
 refine pO SC ?_;simp only[b39,aw];obtain⟨hck,ho,hn,r0,r6⟩:=cH h.e0;have h1:=tL p.task h.sh.c h.sh.t;rw[hck] at h1;have h2:=oX p.adv h.sa ho;have d1:=fV p.task;have d2:=bI p.adv;unfold cf;unfold gF at h1 d1;unfold ca at h2 d2;rw[PC.2.2.2.1] at h2 d2;rw[PC.2.2.2.2.1];refine wnZ @PE ?_;exact aC rfl
theorem KQ(p:PrbV)(h:OkP p):pU 16 [cf p] (.tup [.int .i64 (((dW p).length:Nat)*(p.task.cases.length:Nat):Int),.int .i64 0]):=by
 refine pO Rv ?_;simp only[b16,aw];obtain⟨hck,ho,hn,r0,r6⟩:=cH h.e0;obtain⟨q1,q2,q3,q4⟩:=pe h.e0 h.num;have hto:CJ p.adv:=λl hl m hm=>⟨(ho.mv l hl m hm).to0,(ho.mv l hl m hm).to1⟩
 have hs1:=ho.s1;have hnum:=tO hto (by omega) (lim:=1048576) (by omega) p.rounds.toNat;change lP p.adv p.rounds.toNat 1048576=min ((dW p).length:Int) (1048576+1) at hnum;have h1:=Kr p h;have h2:=Jq p.adv h.sa ho p.rounds.toNat (by omega) (by omega);rw[show lP p.adv p.rounds.toNat 1048576=((dW p).length:Nat) by omega,show((p.rounds.toNat:Nat):Int)=p.rounds by omega] at h2;have d1:=e9 p;have d2:=bI p.adv;generalize (dW p).length=L at *;have hm1:(L:Int)*(p.task.cases.length:Nat)=((p.task.cases.length*L:Nat):Int):=by rw[Int.natCast_mul,Int.mul_comm]
 have hw:IntKind.wrap .i64 ((L:Int)*(p.task.cases.length:Nat))=(L:Int)*(p.task.cases.length:Nat):=jy (by omega) (by omega);have hz:decide (1048576<(L:Int)*(p.task.cases.length:Nat))=false:=bJ (by omega);unfold cf at h1 d1 |-;unfold ca at h2 d2;rw[PC.2.2.2.1] at h2 d2;rw[PC.2.2.2.2.1] at h1 d1 |-;refine wnZ (zI3 @PE @hw @hz) ?_;exact bE (ac (.int _ _) (ac (.int _ _) al))
theorem w8(l:List (List Int))(hl:l.length<=1000000)(hs:∀x∈l,Sh x):pU 45 [ay l] (ay l):=by
 refine pO QX ?_;simp only[b45,aw];refine wnY and_self ?_;refine bq (X:=Nat×AV) (λx=>[(3,x.2),(6,ay l),(7,.int .i64 l.length),(8,.int .i64 x.1)]) (λx H nx=>x.1<=l.length/\Row H 1 x.2 ((l.take x.1).map aq)/\∀b,bk x.2=some b->b<nx) (λx=>l.length-x.1) (0,.esl) ⟨bo _,.nil,λb h=>(by cases h)⟩ ag0 ?_;rintro⟨i,sv⟩ H nx ⟨i1,hrow,hb⟩;dsimp only at i1 hrow hb |-;by_cases hi:i<l.length
 rotate_left
 ·rw[ju (by omega)] at hrow;refine wnY and_self ?_;exact hrow.snapV
 have hcl:=uI (l.getD i default) (hs _ (ao hi));have htk:(l.take (i+1)).map aq=(l.take i).map aq++[aq (l.getD i default)]:=by rw[bZ hi,dp];rfl
 generalize hv:l.getD i default=v at *;refine wnY @hv ?_;refine pt (ys:=[aq v]) ev0 ev0 hcl (ac (Dat.snap (bP _)) al) ?_;refine wnY and_self ?_;refine dY (k:=1) (new:=[aq v]) rfl ev0 (hrow.same λb h=>ab (by have:=hb b h;omega)) ev0 (dw rfl) rfl rfl jf (by simp;omega) (by simp;omega) ?_;rintro s' H' nx' r1 r2 r3 r4 r5;refine wnY and_self ?_;refine⟨(i+1,s'),by dsimp only;omega,⟨by dsimp only;omega,by dsimp only;rw[htk];exact r1,λb h=>?_⟩,ag0⟩;rcases r5 b h with h|h
 ·have:=hb b h;omega
 ·omega
theorem HU(l:List MvV)(hl:l.length<=1000000):pU 47 [bD l] (bD l):=by
 refine pO Ss ?_;simp only[b47,aw];refine wnY and_self ?_;have hfin:∀H b,H b=some (cL dB l)->Snap H (.msl b (l.length*8) 8 0 l.length) (bD l):=λH b hb=>Ii (Row.box b l.length _ hb (M6 l));refine pR (k:=l.length) (by((try simp only[bg,ZA,reduceEqDiff,↓reduceIte,reduceAdd,reduceLeDiff]);(try with_reducible rfl));exact tY l) (λh=>?_) (λh=>?_) (λh=>?_)
 ·refine wnY and_self ?_;refine mO rfl ev0 ev0 (GL l) (C9 l) (by omega) (by omega) ?_;refine wnY and_self ?_;exact hfin _ _ ae
 ·refine wnY and_self ?_;obtain rfl:=fP.1 h;exact .eslsl 8
 ·refine wnY and_self ?_;refine mO rfl ev0 ev0 (GL l) (C9 l) (by omega) (by omega) ?_;refine wnY and_self ?_;exact hfin _ _ ae
theorem G1(l:List CaseV)(hl:l.length<=1000000)(h0:l≠[])(H:Hp)(nx:Nat):Abs.Fn Tryz.prog 43 [bw l] H nx λr H' nx'=>r=.msl nx (l.length*3) 3 0 l.length/\H'=av H nx (cL fF l)/\nx'=nx+1:=by
 refine fO Q6 ?_;simp only[b43,aw];have hl0:0<l.length:=yV.2 h0;refine wnY and_self ?_;refine pR (k:=l.length) (by((try simp only[bg,ZA,reduceEqDiff,↓reduceIte,reduceAdd,reduceLeDiff]);(try with_reducible rfl));exact tY l) (λh=>?_) (λh=>absurd h (by omega)) (λh=>absurd h (by omega));refine wnY and_self ?_;refine mO rfl ev0 ev0 (NS l) (Iz l) (by omega) (by omega) ?_;refine wnY and_self ?_;exact⟨rfl,rfl,rfl⟩
theorem FJ(l:List (List MvV))(hl:l.length<=1000000)(h0:l≠[])(H:Hp)(nx:Nat):Abs.Fn Tryz.prog 46 [aQ l] H nx λr H' nx'=>r=.msl nx l.length 1 0 l.length/\H'=av H nx (l.map bD)/\nx'=nx+1:=by
 refine fO QY ?_;simp only[b46,aw];have hl0:0<l.length:=yV.2 h0;have hones:AV.ones (l.map bD)=true:=Ig (λ_=>rfl);refine wnY and_self ?_;refine pR (k:=l.length) (by((try simp only[bg,ZA,reduceEqDiff,↓reduceIte,reduceAdd,reduceLeDiff]);(try with_reducible rfl));exact tY l) (λh=>?_) (λh=>absurd h (by omega)) (λh=>absurd h (by omega));refine wnY and_self ?_;refine mO rfl ev0 ev0 (IR l) hones (by omega) (by omega) ?_;refine wnY and_self ?_;exact⟨rfl,rfl,rfl⟩
theorem F0(p:PrbV)(h:ShP p)(hc0:p.task.cases≠[])(hs0:p.adv.states≠[])(hcl:p.task.cases.length<=1024)(hco:∀c∈p.task.cases,c.out.length<=1000000/\c.calm.length<=1000000)(hsl:p.adv.states.length<=256)(hml:∀l∈p.adv.states,l.length<=4096):pU 18 [cf p] (cf p):=by
 refine pO Sp ?_;simp only[b18,aw];have hC0:=yV.2 hc0;have hS0:=yV.2 hs0;have hclC:=G1 p.task.cases (by omega) hc0;have hclM:=FJ p.adv.states (by omega) hs0;have hsh:=h.c;unfold cf;rw[PC.2.2.2.2.1];generalize p.task.cases=L at *;generalize p.adv.states=M at *;refine wnY @PE ?_;refine ce ev0 ev0 (hclC _ _) ?_;rintro r H' nx' ⟨rfl,rfl,rfl⟩;refine wnY @PE ?_;refine bq (X:=Nat) (λi=>[(1,.ptr 0 7 0),(2,.ptr 1 7 0),(15,.msl 2 (L.length*3) 3 0 L.length),(16,.int .i64 L.length),(17,.int .i64 i)]) (λi H n=>i<=L.length/\3<=n/\H 0=some [.int .i64 p.task.n,.int .i64 p.task.ins,.int .i64 p.task.outs,.msl 2 (L.length*3) 3 0 L.length,.int .i64 p.adv.n,aQ M,.int .i64 p.rounds]/\H 1=some [.int .i64 0,.int .i64 0,.int .i64 0,.esl,.int .i64 0,.esl,.int .i64 0]/\H 2=some (cL fF L)) (λi=>L.length-i) 0 ⟨bo _,by omega,by simp (disch:=omega) only[ab,ae];rfl,by simp (disch:=omega) only[ab,ae],by simp (disch:=omega) only[ab,ae]⟩ (by simp (disch:=omega) only[agr,ZG,reduceEqDiff,↓reduceIte,SL]) ?_;rintro i H n ⟨i1,hn,g0,g1,g2⟩;have hcC:=MV L;by_cases hi:i<L.length
 ·have hget:((cL fF L).drop (i*3)).take 3=[aq (L.getD i default).inp,ay (L.getD i default).out,ay (L.getD i default).calm]:=zf qp hi;have hput:cI (cL fF L) (i*3) [aq (L.getD i default).inp,ay (L.getD i default).out,ay (L.getD i default).calm]=cL fF L:=M8 qp hi
  have hix:eo 3 (.msl 2 (L.length*3) 3 0 L.length) (.int .i64 (i:Int))=some (.ptr 2 (L.length*3) (i*3)):=by
   rw[lh,if_pos ⟨by omega,by omega⟩,c9,dt]
  obtain⟨s1,s2,s3,s4,s5⟩:=hsh _ (ao hi);obtain⟨o1,o2⟩:=hco _ (ao hi);have q1:=uI _ s1;have q2:=w8 _ o1 s3;have q3:=w8 _ o2 s5
  have hrd:∀H':Hp,H' 2=some (cL fF L)->rd H' 3 (.ptr 2 (L.length*3) (i*3))=some [aq (L.getD i default).inp,ay (L.getD i default).out,ay (L.getD i default).calm]:=λH' h'=>by
   rw[Ms h' hcC (by omega),hget]
  have hr0:=hrd H g2;generalize L.getD i default=c at *;refine wnY (zI4 @PE @g0 @hix @hr0) ?_;obtain⟨S,z0,zm,hsub⟩:=x9 0 n [.int .i64 p.task.n,.int .i64 p.task.ins,.int .i64 p.task.outs,.msl 2 (L.length*3) 3 0 L.length,.int .i64 p.adv.n,aQ M,.int .i64 p.rounds] [aq c.inp,ay c.out,ay c.calm] (by omega);generalize hX:av (av H n _) n _=H2;have w2:∀y,y<n->H2 y=H y:=λy hy=>by rw[<-hX];simp (disch:=omega) only[ab]
  have wm:H2 n=some [aq c.inp,ay c.out,ay c.calm]:=by rw[<-hX,ae];rfl
  clear hX;have w0:=(w2 0 (by omega)).trans g0;have w22:=(w2 2 (by omega)).trans g2;refine fg S rfl (hsub _ w0 wm) ?_;refine wnY (zI3 @PE @z0 @zm) ?_;refine dz ?_;refine pt (ys:=[aq c.inp]) ev0 ev0 q1 (ac (Dat.snap (bP _)) al) ?_;refine iE ⟨hsub _ w0 wm,?_⟩;refine dz ?_;refine eJ ev0 ev0 q2 (bC (ac (Dat.snap (bS _)) al)) ?_;refine iE ⟨hsub _ w0 wm,?_⟩;refine dz ?_;refine eJ ev0 ev0 q3 (bC (ac (Dat.snap (bS _)) al)) ?_;refine iE ⟨hsub _ w0 wm,?_⟩;have zz:=aI @PE @hix;repeat' (first|apply a_n|refine zO ?_|refine nvY ?_|apply fm|fail)
  refine vD (b:=2) (n:=L.length*3) (off:=i*3) (cs:=cL fF L) (vs:=[aq c.inp,ay c.out,ay c.calm]) rfl ev0 ev0 w22 rfl (by simp only[SO,fA,eB,Bool.and_self]) hcC rfl (by omega) ?_;rw[hput];refine wnY and_self ?_;exact⟨i+1,by omega,⟨by omega,by omega,by simp (disch:=omega) only[ab];exact w0,by simp (disch:=omega) only[ab];exact(w2 1 (by omega)).trans g1,ae⟩,ag0⟩
 refine wnY (aI @PE @g0) ?_;refine ce ev0 ev0 (hclM _ _) ?_;rintro r H' nx' ⟨rfl,rfl,rfl⟩;refine wnY (aI @PE @g0) ?_;refine bq (X:=Nat) (λi=>[(1,.ptr 0 7 0),(2,.ptr 1 7 0),(46,.msl n M.length 1 0 M.length),(47,.int .i64 M.length),(48,.int .i64 i)]) (λi H n'=>i<=M.length/\n<n'/\H 0=some [.int .i64 p.task.n,.int .i64 p.task.ins,.int .i64 p.task.outs,.msl 2 (L.length*3) 3 0 L.length,.int .i64 p.adv.n,.msl n M.length 1 0 M.length,.int .i64 p.rounds]/\H 1=some [.int .i64 0,.int .i64 0,.int .i64 0,.esl,.int .i64 0,.esl,.int .i64 0]/\H 2=some (cL fF L)/\H n=some (M.map bD)) (λi=>M.length-i) 0 ⟨bo _,by omega,by simp (disch:=omega) only[ab,ae];rfl,by simp (disch:=omega) only[ab];exact g1,by simp (disch:=omega) only[ab];exact g2,by simp (disch:=omega) only[ab,ae]⟩ (by simp (disch:=omega) only[agr,ZG,reduceEqDiff,↓reduceIte,SL]) ?_;clear g0 g1 g2;rintro j H1 n1 ⟨j1,hn1,g0,g1,g2,g3⟩;have hMl:(M.map bD).length=M.length:=bi _;by_cases hj:j<M.length
 ·have hgm:(M.map bD)[j]?=some (bD (M.getD j default)):=by
    rw[ko];simp[List.getD,hj]
  have hix:eo 1 (.msl n M.length 1 0 M.length) (.int .i64 (j:Int))=some (.ptr n M.length j):=by
   rw[lh,if_pos ⟨by omega,by omega⟩,c9,dt,Nat.mul_one]
  have hr0:rd1 H1 (.ptr n M.length j)=some (bD (M.getD j default)):=by rw[CW g3 hMl,hgm]
  have hput:cI (M.map bD) j [bD (M.getD j default)]=M.map bD:=by
   rw[oo (by omega)];refine List.ext_getElem? λk=>?_;rw[List.getElem?_set];split
   ·rename_i e;subst e;rw[if_pos (by omega),hgm]
   ·rfl
  have q1:=HU _ (eK (hml _ (ao hj)) (by omega));generalize M.getD j default=l at *;refine wnY (zI4 @PE @g0 @hix @hr0) ?_;refine fg (only 0 [.int .i64 p.task.n,.int .i64 p.task.ins,.int .i64 p.task.outs,.msl 2 (L.length*3) 3 0 L.length,.int .i64 p.adv.n,.msl n M.length 1 0 M.length,.int .i64 p.rounds]) rfl (fk g0) ?_;have z0:∀c,only 0 c 0=some c:=λc=>ez;refine wnY (aI @PE @z0) ?_;refine dz ?_;refine eJ ev0 ev0 q1 (bC (ac (Dat.snap (kI _)) al)) ?_;refine iE ⟨fk g0,?_⟩;have zz:=aI @PE @hix;repeat' (first|apply a_n|refine zO ?_|refine nvY ?_|apply fm|fail)
  refine vD (b:=n) (n:=M.length) (off:=j) (cs:=M.map bD) (vs:=[bD l]) rfl ev0 ev0 g3 rfl rfl hMl rfl (by omega) ?_;rw[hput];refine wnY and_self ?_;exact⟨j+1,by omega,⟨by omega,by omega,by simp (disch:=omega) only[ab];exact g0,by simp (disch:=omega) only[ab];exact g1,by simp (disch:=omega) only[ab];exact g2,ae⟩,ag0⟩
 refine wnY (zI3 @PE @g0 @g1) ?_;refine eh (ac (.int _ _) (ac (.int _ _) (ac (.int _ _) (ac (Mz ?_) (ac (.int _ _) (ac (C7 ?_) (ac (.int _ _) al)))))))
 ·exact Row.box 2 L.length _ (by rw[ab (by omega)];exact g2) hcC
 ·exact Row.box1 (by rw[ab (by omega)];exact g3) hMl
theorem HP(n:Int)(vs:List VwV)(v:VwV)(hl:vs.length<=100000)(H:Hp)(nx bb mb:Nat)(VS:AV)(hB:Bd H bb mb n vs VS)(hbb:bb<nx)(hmb:mb<nx)(hne:mb≠bb)(hr:∀b,bk VS=some b->b<nx/\b≠bb/\b≠mb):
    Abs.Fn Tryz.prog 49 [.ptr bb 3 0,dN v] H nx λr H' nx'=>r=.int .i64 ((kX vs v).idxOf v:Nat)/\nx<nx'/\∃VS',Bd H' bb mb n (kX vs v) VS'/\(∀b,bk VS'=some b->bk VS=some b\/(nx<=b/\b<nx'))/\∀y,y<nx->y≠bb->y≠mb->bk VS≠some y->H' y=H y:=by
 refine fO Sa ?_;simp only[b49,aw];obtain⟨hb,hrow,hm⟩:=hB;obtain⟨o1,o2⟩:=hrow.one;have hmf:=MO v vs;have hlen:=hrow.lenS (uF vs) (by omega);have hkf:sw (.st [.int,.int,.int,.int,.int,.int,.int,.int]) (dN v)=true:=rfl;have hcl:=uF vs;unfold dN at hmf hkf |-;rw[PC.2.2.2.2.2.1] at hmf hkf |-;refine wnY @PE ?_;have w:∀cs y,y<nx->av H nx cs y=H y:=λcs y hy=>ab (by omega);refine fg _ rfl (λ_ _ h=>h) ?_;have zz:=aI @PE (aI @SV3 @hb);repeat' (first|apply a_n|refine zO ?_|refine nvY ?_|apply fm|fail)
 by_cases hv:v∈vs
 ·rw[if_pos hv] at hmf;have hi:=List.idxOf_lt_length_of_mem hv;have hav:kX vs v=vs:=by unfold kX;rw[if_pos hv]
  rw[hav];refine mJ (b:=mb) ev0 ((w _ mb hmb).trans hm) ev0 hkf hmf ?_;rw[show mget (AV.int .i64 0) true (some (vs.idxOf v)) (wA vs.length)=.tup [(wA vs.length).getD (vs.idxOf v) .undef,.bool true] from rfl,Hy hi];refine wnY @PE ?_;exact⟨rfl,by omega,VS,⟨(w _ bb hbb).trans hb,hrow.same λb h=>w _ b (hr b h).1,(w _ mb hmb).trans hm⟩,λb h=>.inl h,λy hy _ _ _=>w _ y hy⟩
 ·rw[if_neg hv] at hmf;have hav:kX vs v=vs++[v]:=by unfold kX;rw[if_neg hv]
  have hio:(vs++[v]).idxOf v=vs.length:=by rw[List.idxOf_append,if_neg hv];simp
  rw[hav,hio];refine mJ (b:=mb) ev0 ((w _ mb hmb).trans hm) ev0 hkf hmf ?_;rw[show mget (AV.int .i64 0) true none (wA vs.length)=.tup [.int .i64 0,.bool false] from rfl];refine wnY (zI6 @PE @SV3 @hb @hlen @o1 @o2) ?_;refine fg _ rfl (λ_ _ h=>h) ?_;clear zz;have zz:=aI @PE (aI @SV3 @hb);repeat' (first|apply a_n|refine zO ?_|refine nvY ?_|apply fm|fail)
  refine nJ (b:=mb) ev0 ((w _ mb hmb).trans hm) ev0 ev0 hkf hmf ?_;refine wnY (zI5 @PE @SV3 @hb @o1 @o2) ?_;refine dY (k:=1) (xv:=.msl (nx+1) 8 8 0 1) (new:=[.int .i64 v.proc,.int .i64 v.round,.int .i64 v.input,.int .i64 v.h0,.int .i64 v.h1,.int .i64 v.h2,.int .i64 v.h3,.int .i64 v.h4]) rfl ev0 (hrow.same λb h=>by have:=hr b h;simp (disch:=omega) only[ab]) ev0 (dw rfl) rfl rfl (by omega) (by omega) (by omega) ?_;rintro VS' H' nx' r1 r2 r3 r4 r5;obtain⟨p1,p2⟩:=r1.one;have nbb:bk VS≠some bb:=λh=>(hr bb h).2.1 rfl;have nmb:bk VS≠some mb:=λh=>(hr mb h).2.2 rfl
  have hb':H' bb=some [.int .i64 n,VS,.mp mb]:=by
   rw[r4 bb (by omega) nbb];simp (disch:=omega) only[ab];exact hb
  have hm':H' mb=some [.omap ((vs++[v]).map dN) (wA (vs++[v]).length)]:=by
   rw[r4 mb (by omega) nmb];simp (disch:=omega) only[ab,ae];rw[dp,cP,List.length_singleton,EU];rfl
  refine wnY (zI5 @PE @SV3 @hb' @p1 @p2) ?_
  have hVS:∀b,bk VS'=some b->bk VS=some b\/(nx<=b/\b<nx'):=λb h=>by
   rcases r5 b h with h|h
   ·exact .inl h
   ·omega
  have hVb:∀b,bk VS'=some b->b≠bb:=λb h=>by
   rcases hVS b h with h|h
   ·exact(hr b h).2.1
   ·omega
  refine⟨rfl,by omega,VS',⟨ae,?_,by rw[ab hne];exact hm'⟩,hVS,λy hy h1 h2 h3=>?_⟩
  ·rw[eR,mH];exact r1.same λb h=>ab (hVb b h)
  ·rw[ab h1,r4 y (by omega) h3];simp (disch:=omega) only[ab]
theorem xy:pU 50 [] (.agg [.int .i64 (-1),.int .i64 (-1),.int .i64 (-1),.int .i64 (-1),.int .i64 (-1)]):=by
 refine pO RK ?_;simp only[b50,aw];refine wnZ and_self ?_;refine bq (X:=Nat) (λk=>[(0,.ptr 0 5 0),(1,.ptr 1 5 0),(3,.int .i64 k)]) (λk H nx=>k<=5/\H 0=some [.int .i64 0,.int .i64 0,.int .i64 0,.int .i64 0,.int .i64 0]/\H 1=some ((hk (λ_=>-1) k).map (AV.int .i64))) (λk=>5-k) 0 ⟨bo _,rfl,rfl⟩ (by simp (disch:=omega) only[agr,ZG,reduceEqDiff,↓reduceIte,SL]) ?_;rintro k H nx ⟨k1,g0,g1⟩;by_cases hk5:k<5
 rotate_left
 ·obtain rfl:k=5:=by omega
  rw[show(hk (λ_=>-1) 5).map (AV.int .i64)=[.int .i64 (-1),.int .i64 (-1),.int .i64 (-1),.int .i64 (-1),.int .i64 (-1)] from rfl] at g1;refine wnZ (aI @g0 @g1) ?_;exact(Dat.agg (DatL.cons .int (DatL.cons .int (DatL.cons .int (DatL.cons .int (DatL.cons .int DatL.nil)))))) _
 have hl:((hk (λ_=>-1) k).map (AV.int .i64)).length=5:=by rw[bi,pQ]
 have hp:cI ((hk (λ_=>-1) k).map (AV.int .i64)) k [.int .i64 (-1)]=(hk (λ_=>-1) (k+1)).map (AV.int .i64):=by
  rw[oo (by omega),tP,<-zi hk5]
 generalize (hk (λ_=>-1) k).map (AV.int .i64)=L at *;refine wnZ (zI3 @IX @g0 @g1) ?_;exact⟨k+1,by omega,⟨by omega,g0,by rw[ae,hp]⟩,ag0⟩
theorem ya(p:PrbV)(W:List (List RndV)):pU 19 [cf p,d9 W] (.func 48 [.iptr [.int .i64 p.task.n,.int .i64 p.task.ins,.int .i64 p.task.outs,bw p.task.cases,.int .i64 p.adv.n,aQ p.adv.states,.int .i64 p.rounds] 0,.iptr [d9 W] 0]):=by
 refine pO Ry ?_;simp only[b19,aw];unfold cf;rw[PC.2.2.2.2.1];refine wnZ @PE ?_;exact iT (ac (fU rfl rfl (ac (.int _ _) (ac (.int _ _) (ac (.int _ _) (ac (Dat.snap (ib _)) (ac (.int _ _) (ac (Dat.snap (fL _)) (ac (.int _ _) al)))))))) (ac (fU rfl rfl (ac (Dat.snap (vL _)) al)) al))
theorem ME(p:PrbV)(W:List (List RndV))(hW:W.length<=100000)(hC:p.task.cases.length<=100000){y:Nat}{H:Hp}{nx:Nat}(I:List (Nat×List RndV)->Hp->Nat->Prop)
    (rnd:∀D c w H n,I D H n->c<p.task.cases.length->w∈W->(∃R,D++(c,w)::R=jb p.task.cases.length W)->Yl Tryz.prog y [.int .i64 c,bB w] H n λr H' n'=>r=.bool true/\I (D++[(c,w)]) H' n')
    (h0:I [] H nx):
    Abs.Fn Tryz.prog 48 [.yld y,.iptr [.int .i64 p.task.n,.int .i64 p.task.ins,.int .i64 p.task.outs,bw p.task.cases,.int .i64 p.adv.n,aQ p.adv.states,.int .i64 p.rounds] 0,.iptr [d9 W] 0] H nx λ_ H' nx'=>I (jb p.task.cases.length W) H' nx':=by
 refine fO SD ?_;simp only[b48,aw];generalize p.task.cases=L at *;refine wnY @PE ?_;refine bq (X:=Nat) (λc=>[(0,.yld y),(2,.iptr [d9 W] 0),(10,.int .i64 L.length),(11,.int .i64 c)]) (λc H n=>c<=L.length/\I (jb c W) H n) (λc=>L.length-c) 0 ⟨bo _,h0⟩ ag0 ?_;clear h0;rintro c H1 n1 ⟨c1,c2⟩;by_cases hc:c<L.length
 rotate_left
 ·obtain rfl:c=L.length:=by omega
  refine wnY @PE ?_;exact c2
 have hs:=mi c W
 have hpre:∃R,jb (c+1) W++R=jb L.length W:=by
  obtain⟨R,h⟩:=DD W (c+1) (L.length-(c+1));exact⟨R,by rw[h];congr 1;omega⟩
 rw[hs] at hpre;refine wnY @PE ?_;refine bq (X:=Nat) (λk=>[(0,.yld y),(2,.iptr [d9 W] 0),(4,.int .i64 c),(10,.int .i64 L.length),(11,.int .i64 c),(14,d9 W),(15,.int .i64 W.length),(16,.int .i64 k)]) (λk H n=>k<=W.length/\I (jb c W++(W.take k).map λw=>(c,w)) H n) (λk=>W.length-k) 0 ⟨bo _,by rw[List.take_zero,List.map_nil,jd];exact c2⟩ ag0 ?_;clear c2;rintro k H2 n2 ⟨k1,k2⟩;by_cases hk:k<W.length
 rotate_left
 ·rw[ju (by omega),<-hs] at k2;refine wnY @PE ?_;exact⟨c+1,by omega,⟨by omega,k2⟩,ag0⟩
 have ix:=Mq hk
 have hnx:jb c W++(W.take (k+1)).map (λw=>(c,w))=(jb c W++(W.take k).map λw=>(c,w))++[(c,W.getD k default)]:=by
  rw[bZ hk,dp,<-io];rfl
 have hex:∃R,(jb c W++(W.take k).map λw=>(c,w))++(c,W.getD k default)::R=jb L.length W:=by
  obtain⟨R,hR⟩:=hpre;refine⟨(W.drop (k+1)).map (λw=>(c,w))++R,?_⟩;rw[<-hR,show(c,W.getD k default)::((W.drop (k+1)).map (λw=>(c,w))++R)=[(c,W.getD k default)]++((W.drop (k+1)).map (λw=>(c,w))++R) from rfl,<-io,<-hnx,<-io,io (jb c W),<-dp,qI]
 have hr:=rnd _ c (W.getD k default) H2 n2 k2 hc (ao hk) hex;rw[<-hnx] at hr;generalize W.getD k default=w at *;refine wnY (aI @PE @ix) ?_;refine tT ev0 ev0 (Yl.mono hr ?_);rintro r H3 n3 ⟨rfl,q⟩;refine wnY @PE ?_;exact⟨k+1,by omega,⟨by omega,q⟩,ag0⟩
end
end Go.Proofs.YtbmjaojeplmhnaaGreat
