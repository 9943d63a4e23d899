/- Contracts of functions and plain laws, for all inputs that the theorems name. -/
import Derived.Test.YtbmjaojeplmhnaaGreatXG3
import Derived.Shelf.SlSortCmp.WholeK
import Derived.Shelf.SlSortCmp.Whole1
import Derived.Shelf.Sort.Plain
import Derived.Shelf.Lays
import Derived.Shelf.SlSortCmp.NoneTotal

set_option linter.unusedSimpArgs false
set_option linter.unusedVariables false
set_option maxHeartbeats 4000000
namespace Go.Proofs.YtbmjaojeplmhnaaGreat
open Go Go.Abs
open Nat (reduceEqDiff reduceAdd reduceLeDiff)
theorem Gv(t:TaskV)(k:Nat)(hk:k<t.cases.length):iu t k=if bz (t.cases.getD k default).inp t.n t.ins≠0 then bz (t.cases.getD k default).inp t.n t.ins else if (decide (0<k)&&decide (0<=aD (t.cases.getD (k-1) default).inp (t.cases.getD k default).inp)) then 14 else cw t.n t.outs (t.cases.getD k default):=by
 unfold iu cR;rw[iX hk,iX (by omega)]
theorem I2{t:TaskV}(h:wh t=true):Sh t.cases/\∀c∈t.cases,ShC c:=by
 unfold wh at h;rw[eN,uS,dS] at h;obtain⟨h1,h2⟩:=h;refine⟨show _<=_ by omega,λc hc=>?_⟩;have hf:=h2 c hc;unfold uM nB at hf;simp only[eN,uS,dS] at hf;obtain⟨⟨f1,f2,f3⟩,f4,f5⟩:=hf;refine⟨show _<=_ by omega,show _<=_ by omega,λx hx=>?_,show _<=_ by omega,λx hx=>?_⟩
 ·have:=f3 x hx;exact show _<=_ by omega
 ·have:=f5 x hx;exact show _<=_ by omega
structure PermR{α:Type}[Inhabited α](a b:Nat)(L L':List α):Prop where
 len:L'.length=L.length
 out:∀i,i<a\/b<=i->L'.getD i default=L.getD i default
 perm:L'.Perm L
section
variable{α:Type}[Inhabited α]{a b a' b':Nat}{L L' L'':List α}
theorem ee{l:List α}{i j:Nat}{x:α}(h:i<l.length):(l.set i x).getD j default=if i=j then x else l.getD j default:=by
 simp only[List.getD,List.getElem?_set];split
 ·rename_i e;subst e;simp[h]
 ·rfl
theorem PermR.refl:PermR a b L L:=⟨rfl,λ_ _=>rfl,List.Perm.refl _⟩
theorem PermR.trans(h:PermR a b L L')(k:PermR a b L' L''):PermR a b L L'':=⟨k.len.trans h.len,λi hi=>(k.out i hi).trans (h.out i hi),k.perm.trans h.perm⟩
theorem PermR.mono(h:PermR a' b' L L')(h1:a<=a')(h2:b'<=b):PermR a b L L':=⟨h.len,λi hi=>h.out i (by omega),h.perm⟩
theorem uE{l m:List α}(hl:l.length=m.length)(h:∀i,i<l.length->l.getD i default=m.getD i default):l=m:=
 List.ext_getElem hl (fun i h1 h2=>by
  have:=h i h1;simpa[List.getD,h1,h2] using this)
theorem PermR.mid(h:PermR a b L L')(hab:a<=b)(hb:b<=L.length):((L'.drop a).take (b-a)).Perm ((L.drop a).take (b-a)):=by
 have e1:∀M:List α,b<=M.length->M=M.take a++((M.drop a).take (b-a)++M.drop b):=λM hM=>by
  have:M.drop b=(M.drop a).drop (b-a):=by rw[List.drop_drop];congr 1;omega
  rw[this,tH,tH]
 have t:L'.take a=L.take a:=uE (by simp [h.len]) (fun i hi=>by
  have hi':i<a:=by simp at hi;omega
  rw[xH hi',xH hi'];exact h.out i (.inl hi'))
 have d:L'.drop b=L.drop b:=uE (by simp [h.len]) (fun i hi=>by
  have e:∀M:List α,(M.drop b).getD i default=M.getD (b+i) default:=λM=>by simp[List.getD,kD]
  rw[e,e];exact h.out (b+i) (.inr (by omega)))
 have p:=h.perm;rw[e1 L' (by rw[h.len];exact hb),e1 L hb,t,d] at p;exact(List.perm_append_right_iff _).1 ((List.perm_append_left_iff _).1 p)
theorem C7{M:List α}{x:α}(hab:a<=b)(hb:b<=M.length):x∈(M.drop a).take (b-a)↔ ∃i,a<=i/\i<b/\M.getD i default=x:=by
 constructor
 ·intro h;obtain⟨j,hj,e⟩:=fS h;have hj':j<b-a:=by simp at hj;omega
  refine⟨a+j,by omega,by omega,?_⟩;rw[<-e];simp[List.getD,List.getElem_take,List.getElem_drop,show a+j<M.length by omega]
 ·rintro⟨i,h1,h2,rfl⟩;rw[List.mem_iff_getElem?];refine⟨i-a,?_⟩;rw[jj,if_pos (by omega),kD,show a+(i-a)=i by omega];simp[List.getD,show i<M.length by omega]
theorem PermR.all{p:α->Prop}(h:PermR a b L L')(hab:a<=b)(hb:b<=L.length)(hp:∀i,a<=i->i<b->p (L.getD i default)):∀i,a<=i->i<b->p (L'.getD i default):=by
 intro i h1 h2;have hm:L'.getD i default∈(L'.drop a).take (b-a):=(C7 hab (by rw[h.len];exact hb)).2 ⟨i,h1,h2,rfl⟩;obtain⟨j,k1,k2,e⟩:=(C7 hab hb).1 ((h.mid hab hb).mem_iff.1 hm);rw[<-e];exact hp j k1 k2
end
structure Ord{α:Type}(K:α->α->Int):Prop where
 irr:∀x,¬K x x<0
 asym:∀x y,K x y<0->¬K y x<0
 negtr:∀x y z,¬K y x<0->¬K z y<0->¬K z x<0
def lC{α:Type}[Inhabited α](K:α->α->Int)(a b:Nat)(L:List α):Prop:=∀i j,a<=i->i<j->j<b->¬K (L.getD j default) (L.getD i default)<0
theorem lC.one{α:Type}[Inhabited α]{K:α->α->Int}{a b:Nat}{L:List α}(h:b<=a+1):lC K a b L:=λi j h1 h2 h3=>by omega
theorem JC{w w':World}(hb:Go.RowKit.Below w.heap.size w w')(hd:w.drawn<=w'.drawn):∃q os,w'=Go.Sort.grow (w.drewN q) os:=by
 refine⟨w'.drawn-w.drawn,w'.heap.extract w.heap.size w'.heap.size,?_⟩;have h1:=hb.os;have h2:=hb.tape;have h3:=hb.output;have h4:=hb.size;have h5:=hb.block
 have hh:w'.heap=w.heap++w'.heap.extract w.heap.size w'.heap.size:=by
  refine Array.ext (by simp;omega) λi i1 i2=>?_;by_cases q:i<w.heap.size
  ·rw[Array.getElem_append_left q];have:=h5 i q;rw[CN i1,CN q] at this;exact Option.some.inj this
  ·rw[Array.getElem_append_right (by omega),Array.getElem_extract]
   congr 1;omega
 obtain⟨a,b,c,d,e⟩:=w;obtain⟨a',b',c',d',e'⟩:=w';simp only at h1 h2 h3 hd hh;subst h1 h2 h3;have:c'=c+(c'-c):=by omega
 unfold Go.Sort.grow World.drewN;simp only;rw[<-this,<-hh]
theorem vv{E:Env}{H:Hp}{nx:Nat}{w w':World}(hE:EnvOk E w)(hh:HeapOk E H nx w)(hb:Go.RowKit.Below w.heap.size w w')(hd:w.drawn<=w'.drawn):Ext E w E w'/\EnvOk E w'/\HeapOk E H nx w':=by
 have he:Ext E w E w':=⟨rfl,rfl,λ_ h=>h,λ_ h=>.inl h,λ_ _ _ h=>h,λ_ _ h=>h,λ_ _ h=>h,λb h=>⟨h,hb.block b (hE.dlt h)⟩,hb.size,λb hb'=>hb.block b (hE.lt b hb'),hd⟩
 exact⟨he,hE.step he (λb h=>.inl h) (λk hk=>.inl hk) (hb.mono hh.size) (Below.still hb) rfl rfl rfl (λ_ _ _ _=>rfl),hh.below he hb rfl (λ_ h=>.inl h) rfl⟩
theorem qc(w:World)(q:Nat)(os:Array Obj):Go.RowKit.Below w.heap.size w (Go.Sort.grow (Go.Sort.ahead w q) os):=
 ⟨rfl,rfl,rfl,by simp[Go.Sort.grow,Go.Sort.ahead],λk hk=>Go.Sort.heap_grow_old _ _ (by exact hk)⟩
theorem DL{P:Program}{g:Nat}{caps:List AV}{cb:Array Value}{a1 a2:AV}{n:Int}(hp:Go.Abs.Pure P g (a1::a2::caps) (.int .i64 n)){imm:Nat->Prop}{W:World}{v1 v2:Value}(hi:∀b,imm b->b<W.heap.size)(h1:Rel (E0 imm) W a1 v1)(h2:Rel (E0 imm) W a2 v2)(hc:dJ (E0 imm) W caps cb.toList):
    Calls P g (#[v1,v2]++cb) W λe w'=>e=.returned (.int .i64 n)/\∃q os,w'=Go.Sort.grow (W.drewN q) os:=by
 have ha:(v1::v2::cb.toList).toArray=#[v1,v2]++cb:=by
  apply Array.ext';simp
 rw[<-ha];refine(hp.2 imm W (v1::v2::cb.toList) hi ⟨by have:=hc.1;simp[this],λi x y hx hy=>?_⟩).mono ?_
 ·match i,hx,hy with
  |0,hx,hy=>cases hx;cases hy;exact h1
  |1,hx,hy=>cases hx;cases hy;exact h2
  |i+2,hx,hy=>exact hc.2 i x y hx hy
 ·rintro e w' ⟨v,imm',rfl,hb,-,-,-,hr,hd⟩;cases hr;exact⟨rfl,JC hb hd⟩
theorem qT{E:Env}{w W:World}(hs:E.base<=w.heap.size)(hk:∀b,E.imm b->W.heap[b]?=w.heap[b]?)(hz:w.heap.size<=W.heap.size)(hd:w.drawn<=W.drawn){x:AV}{v:Value}(hx:Dat x)(h:Rel E w x v):Rel (E0 E.imm) W x v:=by
 have h1:=(aJ.sound0 (E:=E) (w:=w) hs (cU hx al) (vs:=[v]) ⟨rfl,fun i a b ha hb=>by
  match i,ha,hb with
  |0,ha,hb=>cases ha;cases hb;exact h
  |i+1,ha,hb=>simp at ha⟩).2 0 x v rfl rfl
 exact Rel.ext (E:=E0 E.imm) (E':=E0 E.imm) (w:=w) (w':=W) ⟨rfl,rfl,λ_ h=>h,λ_ h=>.inl h,λ_ _ _ h=>h,λ_ _ h=>h,λ_ _ h=>h,λb h=>h.elim,hz,hk,hd⟩ h1
theorem sj{E:Env}{H:Hp}{nx b:Nat}{w:World}(hh:HeapOk E H nx w){cs:List AV}(hH:H b=some cs){blk bsz:Nat}(hm:E.mu b cs.length=some (blk,bsz)):
    ∃(vals:Array Value)(ty:TypeId)(fz:Nat×Nat),w.heap[blk]?=some (.cells vals ty fz)/\(∀j,j<vals.size->¬(fz.1<=j/\j<fz.2))/\cs.length<=vals.size/\(∀(i:Nat)(x:AV),cs[i]?=some x->∃v:Value,vals[i]?=some v/\v.oneCell'=true/\Rel E w x v)/\BoxOk E w b cs blk vals.size:=by
 rcases hh.box b cs hH with h|⟨blk',sz',hx⟩
 ·rw[hm] at h;cases h
 ·have e:=hx.mu;rw[hm] at e;cases e;obtain⟨vals,ty,fz,h1,h2,h3,h4,h5⟩:=hx.cells;subst h3;exact⟨vals,ty,fz,h1,h2,h4,h5,hx⟩
theorem FM{l:List AV}(h:Dat (.agg l)):∀x∈l,Dat x:=λx hx H=>by
 have:=h H;obtain⟨i,hi⟩:=sB hx;cases this with
 |agg a c hl hr=>exact hr i x x hi hi
theorem kR{α:Type}{f:α->AV}{sz:Nat}(hc:∀x,(f x).cells.length=sz):∀L:List α,(L.flatMap λx=>(f x).cells).length=L.length*sz
 |[]=>by simp
 |x::L=>by rw[lk,cQ,kR hc L,hc,il,eh];omega
theorem qj{α:Type}[Inhabited α]{f:α->AV}{sz:Nat}(hc:∀x,(f x).cells.length=sz):∀{L:List α}{i j:Nat},i<L.length->j<sz->(L.flatMap λx=>(f x).cells)[i*sz+j]?=(f (L.getD i default)).cells[j]?
 |[],i,j,h,_=>by simp at h
 |x::L,0,j,_,hj=>by
  rw[lk,nz,dt,fT (by rw[hc];exact hj)];rfl
 |x::L,i+1,j,h,hj=>by
  rw[lk,ia (by rw[hc,eh];omega),hc,show(i+1)*sz+j-sz=i*sz+j by rw[eh];omega];exact qj hc (by simpa using h) hj
def vE(vals:Array Value)(sz n j:Nat):List Value:=(List.range sz).map λt=>vals[(if j<n then j else 0)*sz+t]!
theorem BJ{vals:Array Value}{sz n j:Nat}:(vE vals sz n j).length=sz:=by simp[vE]
theorem Lc{vals:Array Value}{sz n j t:Nat}(h:t<sz):(vE vals sz n j)[t]?=some (vals[(if j<n then j else 0)*sz+t]!):=by simp[vE,h]
theorem Ih{vals:Array Value}{sz n j t:Nat}(h:t<sz):(vE vals sz n j)[t]! =vals[(if j<n then j else 0)*sz+t]!:=by simp[vE,h]
theorem Dd{vals:Array Value}{i:Nat}{v:Value}(h:vals[i]?=some v):vals[i]! =v:=by
 obtain⟨h1,h2⟩:=kN.1 h;rw[getElem!_pos vals i h1];exact h2
theorem IJ{enc:Nat->List Value}{k:Nat}{w:World}{blk m:Nat}{dk:Array Nat}{os:Array Obj}:w.heap.size<=(Go.Proofs.sortWorldK enc k w blk 0 m dk os).heap.size:=by
 simp[Go.Proofs.sortWorldK,Go.Sort.grow,Go.Sort.putRowK,Go.Sort.putRow,Go.Sort.mapBlock,Go.Sort.ahead]
theorem I3{enc:Nat->List Value}{k:Nat}{w:World}{blk m:Nat}{dk:Array Nat}{os:Array Obj}{b:Nat}(hb:b<w.heap.size)(hne:b≠blk):(Go.Proofs.sortWorldK enc k w blk 0 m dk os).heap[b]?=w.heap[b]?:=by
 unfold Go.Proofs.sortWorldK;rw[Go.Sort.heap_grow_old _ _ (by simpa[Go.Sort.putRowK,Go.Sort.putRow,Go.Sort.mapBlock,Go.Sort.ahead] using hb)];simp[Go.Sort.putRowK,Go.Sort.putRow,Go.Sort.mapBlock,Go.Sort.ahead,Array.getElem?_modify,Ne.symm hne]
theorem Ba{enc:Nat->List Value}{k:Nat}{w:World}{blk m:Nat}{dk:Array Nat}{os:Array Obj}:(Go.Proofs.sortWorldK enc k w blk 0 m dk os).drawn=w.drawn+m:=rfl
theorem Nt{enc:Nat->List Value}{k:Nat}{w:World}{blk m:Nat}{dk:Array Nat}{os:Array Obj}{vals:Array Value}{ty:TypeId}{fz:Nat×Nat}(h:w.heap[blk]?=some (.cells vals ty fz)):
    Go.Proofs.sortWorldK enc k w blk 0 m dk os=Go.Sort.grow (Go.Sort.ahead (w.setRow blk (Go.Sort.putCells id 0 (Go.Sort.flatK enc k dk) vals)) m) os:=by
 unfold Go.Proofs.sortWorldK
 congr 1
 unfold Go.Sort.putRowK Go.Sort.putRow Go.Sort.mapBlock Go.Sort.ahead World.setRow;simp only
 congr 1
 refine Array.ext (by simp) λi i1 i2=>?_;rw[Array.getElem_modify,Array.getElem_modify];split
 ·rename_i e;subst e;obtain⟨g1,g2⟩:=kN.1 h;rw[g2];rfl
 ·rfl
theorem DD{α β:Type}{K:α->α->Int}(h:Ord K)(g:β->α):Go.Sort.SWO (Go.Proofs.ltOf λx y=>K (g x) (g y)) where
 irrefl x:=bR (h.irr _)
 trans x y z h1 h2:=by
  have h1:=qh h1;have h2:=qh h2;refine bV (Decidable.byContradiction λh3=>?_);exact h.negtr _ _ _ (h.asym _ _ h2) h3 h1
 ntrans x y z h1 h2:=bR (h.negtr _ _ _ (of_decide_eq_false h2) (of_decide_eq_false h1))
theorem wT{n i:Nat}(h:i<n):(Array.range n)[i]! =i:=by simp[h]
theorem Da{n:Nat}{d:Array Nat}(h:Go.Sort.PermIn 0 n (Array.range n) d):d.size=n/\d.toList.Perm (List.range n):=by
 obtain⟨h1,-,h2⟩:=h;rw[Array.size_range] at h1;have e1:d.extract 0 n=d:=by rw[<-h1];simp
 have e2:(Array.range n).extract 0 n=Array.range n:=by
  have:(Array.range n).extract 0 (Array.range n).size=Array.range n:=by simp
  rwa [Array.size_range] at this
 rw[e1,e2] at h2;exact⟨h1,by simpa using h2⟩
theorem Ar{α:Type}[Inhabited α]{L:List α}{n:Nat}(hn:L.length=n){d:List Nat}(h:d.Perm (List.range n)):(d.map λj=>L.getD j default).Perm L:=by
 have h2:=h.map λj=>L.getD j default
 have e:(List.range n).map (λj=>L.getD j default)=L:=by
  refine List.ext_getElem (by simp[hn]) λi h1 h2=>?_;simp[List.getD,h2]
 rwa [e] at h2
theorem KO{P:Program}{ρ:Go.Shelf.Ren}(Ly:Go.Proofs.SlLaysF0.n6 P ρ){α:Type}[Inhabited α]{f:α->AV}{K:α->α->Int}{G:α->Prop}{g:Nat}{caps:List AV}{sz:Nat}
    (aE:∀w,(isAgg (ρ.t 24)).run P w=.ok true w) (zE:∀w,(Go.sizeOf (ρ.t 24)).run P w=.ok sz w) (hz:0<sz) (len:∀x,(f x).cells.length=sz) (agg:∀x,AV.agg (f x).cells=f x) (dat:∀x,Dat (f x)) (dcaps:∀x∈caps,Dat x)
    (run:∀x y,G x->G y->Go.Abs.Pure P g (f x::f y::caps) (.int .i64 (K x y))) (ord:Ord K) (hcok:cok P (ρ.f 6)=true) (eg:∀args w,(callFunc g args).run P w=.ok (.enter g args) w)
    {L:List α} {H:Hp} {b nx n:Nat} (hH:H b=some (L.flatMap λx=>(f x).cells)) (hbx:b<nx) (hn:L.length=n) (hn0:0<n) (hG:∀x∈L,G x) (hn2:n<=1000000000):
    Abs.Fn P (ρ.f 6) [.msl b (n*sz) sz 0 n,.func g caps] H nx λr H' nx'=>∃L',H'=av H b (L'.flatMap λx=>(f x).cells)/\nx'=nx/\L'.Perm L/\lC K 0 n L':=by
 refine⟨hcok,λE w vs hE hh hf hv=>?_⟩;obtain⟨hvl,hvr⟩:=hv
 match vs,hvl,hvr with
 |[v0,v1],_,hvr=>
 have h0:=hvr 0 _ _ rfl rfl;have h1:=hvr 1 _ _ rfl rfl
 obtain⟨blk,bsz,cap,rfl,hm⟩:∃blk bsz cap,v0=.slice (some ⟨blk,0,none⟩) n cap/\E.mu b (n*sz)=some (blk,bsz):=by
  generalize hx:AV.msl b (n*sz) sz 0 n=x at h0;cases h0 with
  |msl b' n' sz' off len blk bsz cap h hl hc hn'=>cases hx;exact⟨blk,bsz,cap,rfl,h⟩
  |msl0 b' sz' v h=>injection hx;omega
  |_=>cases hx
 obtain⟨cv,hcl,hcr,rfl⟩:∃cv:List Value,cv.length=caps.length/\(∀(i:Nat)(x:AV)(y:Value),caps[i]?=some x->cv[i]?=some y->Rel E w x y)/\v1=.func (.func g) #[] cv.toArray:=by
  generalize hx:AV.func g caps=x at h1;cases h1 with
  |func f' c' cv hl hr=>cases hx;exact⟨cv,hl,hr,rfl⟩
  |_=>cases hx
 clear h0 h1 hvr hvl;have hL:=kR (f:=f) len L;rw[hn] at hL;obtain⟨vals,ty,fz,c1,c2,c3,c4,hbox⟩:=sj hh hH (by rw[hL];exact hm);rw[hL] at c3;have hblk:blk<w.heap.size:=(kN.1 c1).1
 have idx:∀i j,i<n->j<sz->i*sz+j<n*sz:=λi j hi hj=>by
  have:(i+1)*sz<=n*sz:=jt _ hi;rw[eh] at this;omega
 have cell:∀i j,i<n->j<sz->∃x,(f (L.getD i default)).cells[j]?=some x/\vals[i*sz+j]?=some vals[i*sz+j]!/\vals[i*sz+j]!.oneCell'=true/\Rel E w x vals[i*sz+j]!:=λi j hi hj=>by
  have e:=qj (f:=f) len (L:=L) (i:=i) (j:=j) (by omega) hj;have hj2:j<(f (L.getD i default)).cells.length:=by rw[len];exact hj
  rw[mB hj2] at e;obtain⟨v,k1,k2,k3⟩:=c4 _ _ e;rw[Dd k1];exact⟨_,mB hj2,k1,k2,k3⟩
 have ixn:∀i:Nat,(if i<n then i else 0)<n:=λi=>by split<;>omega
 have erel:∀W:World,(∀b,E.imm b->W.heap[b]?=w.heap[b]?)->w.heap.size<=W.heap.size->w.drawn<=W.drawn->∀i,Rel (E0 E.imm) W (f (L.getD (if i<n then i else 0) default)) (.agg (vE vals sz n i).toArray):=λW k1 k2 k3 i=>by
  have hd:=dat (L.getD (if i<n then i else 0) default);rw[<-agg] at hd |-;refine Rel.agg _ _ (by rw[BJ,len]) λj x y hx hy=>?_;have hj:j<sz:=by have:=(bF.1 hx).1;rw[len] at this;exact this
  obtain⟨x',e1,e2,e3,e4⟩:=cell _ j (ixn i) hj;rw[hx] at e1;cases e1;rw[Lc hj] at hy;cases hy;exact qT hh.size k1 k2 k3 (FM hd _ (hJ hx)) e4
 have crel:∀W:World,(∀b,E.imm b->W.heap[b]?=w.heap[b]?)->w.heap.size<=W.heap.size->w.drawn<=W.drawn->dJ (E0 E.imm) W caps cv.toArray.toList:=λW k1 k2 k3=>
  ⟨hcl,λi x y hx hy=>qT hh.size k1 k2 k3 (dcaps x (hJ hx)) (hcr i x y hx hy)⟩
 have hcmp:Go.Proofs.CmpLays P g cv.toArray (vE vals sz n) sz (λi j=>K (L.getD (if i<n then i else 0) default) (L.getD (if j<n then j else 0) default)) blk 0 (Array.range n).size w:=λm os dk hs x y=>by
  have k1:∀b,E.imm b->(Go.Proofs.sortWorldK (vE vals sz n) sz w blk 0 m dk os).heap[b]?=w.heap[b]?:=λb hb=>I3 (hE.lt b hb) (λe=>hbox.imm (e▸hb));have k2:=IJ (enc:=vE vals sz n) (k:=sz) (w:=w) (blk:=blk) (m:=m) (dk:=dk) (os:=os);have k3:w.drawn<=(Go.Proofs.sortWorldK (vE vals sz n) sz w blk 0 m dk os).drawn:=by rw[Ba];omega
  exact DL (run _ _ (hG _ (ao (by rw[hn];exact ixn x))) (hG _ (ao (by rw[hn];exact ixn y)))) (imm:=E.imm) (λb hb=>Ah (hE.lt b hb) k2) (erel _ k1 k2 k3 x) (erel _ k1 k2 k3 y) (crel _ k1 k2 k3)
 have hflat:∀t,t<n*sz->(Go.Sort.flatK (vE vals sz n) sz (Array.range n))[t]! =vals[t]!:=λt ht=>by
  rw[Go.Sort.get_flatK _ _ _ _ (by simpa using ht)];have hd:t/sz<n:=Nat.div_lt_of_lt_mul (by rw[Nat.mul_comm];exact ht);rw[Ih (Nat.mod_lt _ hz),wT hd,if_pos hd,Nat.mul_comm,Nat.div_add_mod]
 have hHo:Go.Sort.HoldsK (vE vals sz n) sz w blk 0 (Array.range n):=λj hj=>by
  have hj:j<n*sz:=by simpa using hj
  have hj2:j<vals.size:=by omega
  refine⟨?_,?_⟩
  ·rw[hflat j hj];simp[World.cell?,c1,hj2]
  ·have:=c2 j hj2;simp only[World.frozen?,c1,dt];obtain⟨lo,hi⟩:=fz;simp only at this |-;simpa using this
 have hcon:=Go.Proofs.AnyQ.slices_SortFunc Ly sz aE zE (vE vals sz n) (fun _=>BJ) (fun x v hv=>by
  obtain⟨t,ht⟩:=sB hv;have htl:t<sz:=by have:=(bF.1 ht).1;rw[BJ] at this;exact this
  rw[Lc htl] at ht;cases ht;obtain⟨_,_,_,e3,_⟩:=cell _ t (ixn x) htl;exact e3) _ (DD ord λi=>L.getD (if i<n then i else 0) default) g cv.toArray blk 0 cap (Array.range n) w eg hcmp hHo hblk (by simp;omega)
 rw[Array.size_range] at hcon;refine hcon.mono ?_;rintro e w' ⟨rfl,d,q,os,hp,hs,rfl⟩;obtain⟨p1,p2⟩:=Da hp
 have hdl:∀i,i<n->d[i]! <n:=λi hi=>by
  have:d[i]! ∈d.toList:=by rw[getElem!_pos d i (by omega)];simp
  exact gI.1 (p2.mem_iff.1 this)
 have hg:∀i,i<n->(d.toList.map λj=>L.getD j default).getD i default=L.getD d[i]! default:=λi hi=>by
  have hi2:i<d.size:=by omega
  rw[getElem!_pos d i hi2];simp[List.getD,hi2]
 have hlen':(d.toList.map λj=>L.getD j default).length=n:=by simp[p1]
 have hL':=kR (f:=f) len (d.toList.map λj=>L.getD j default);rw[hlen'] at hL'
 obtain ⟨E',he,hE',hh',-,-,hmu,hsp,hlp⟩:=hh.write hE hH hbox (cs':=(d.toList.map fun j=>L.getD j default).flatMap fun x=>(f x).cells) (Go.Sort.putCells id 0 (Go.Sort.flatK (vE vals sz n) sz d) vals) (by simp [Go.Sort.putCells]) (by rw [hL']; exact c3) (by rw [hL,hL']; exact bd _) (.inl (by rw [hL,hL'])) (fun i x hx=>by
  have hi:i<n*sz:=by have:=(bF.1 hx).1;rw[hL'] at this;exact this
  have hi2:i<vals.size:=by omega
  have hd:i/sz<n:=Nat.div_lt_of_lt_mul (by rw[Nat.mul_comm];exact hi);have hmd:=Nat.mod_lt i hz;have e:=qj (f:=f) len (L:=d.toList.map λj=>L.getD j default) (i:=i/sz) (j:=i%sz) (by rw[hlen'];exact hd) hmd;rw[Nat.mul_comm,Nat.div_add_mod,hx,hg _ hd] at e;obtain⟨x',k1,k2,k3,k4⟩:=cell _ _ (hdl _ hd) hmd;rw[k1] at e;cases e;refine⟨_,?_,k3,k4⟩;have hfl:=Go.Sort.get_flatK (vE vals sz n) sz d i (by rw[p1];exact hi);rw[Ih hmd,if_pos (hdl _ hd)] at hfl;rw[getElem!_pos _ i (by rw[Go.Sort.size_flatK,p1];exact hi)] at hfl;simp[Go.Sort.putCells,hi2,p1,hi];exact hfl)
 have hb:=qc (w.setRow blk (Go.Sort.putCells id 0 (Go.Sort.flatK (vE vals sz n) sz d) vals)) q os;rw[<-Nt c1] at hb;obtain⟨o1,o2,o3⟩:=vv hE' hh' hb (by rw[Ba];exact Nat.le_add_right _ _);refine⟨.tuple #[],E',.tup [],_,nx,rfl,he.trans o1,o2,o3,hf.of (bd _) (λb' m hb'=>hmu b' m (by omega)) hsp hlp,.tup [] [] rfl (λi x y hx=>by simp at hx),_,rfl,rfl,Ar hn p2,λi j _ hij hj=>?_⟩;rw[hg i (by omega),hg j hj];have:=of_decide_eq_false (hs i j (bo _) hij hj);dsimp only at this
 rwa [if_pos (hdl i (by omega)),if_pos (hdl j hj)] at this
def v1(vals:Array Value)(n j:Nat):Value:=vals[if j<n then j else 0]!
theorem IY{enc:Nat->Value}{w:World}{blk m:Nat}{dk:Array Nat}{os:Array Obj}:w.heap.size<=(Go.Proofs.sortWorld enc w blk 0 m dk os).heap.size:=by
 simp[Go.Proofs.sortWorld,Go.Sort.grow,Go.Sort.putRow,Go.Sort.mapBlock,Go.Sort.ahead]
theorem Kn{enc:Nat->Value}{w:World}{blk m:Nat}{dk:Array Nat}{os:Array Obj}{b:Nat}(hb:b<w.heap.size)(hne:b≠blk):(Go.Proofs.sortWorld enc w blk 0 m dk os).heap[b]?=w.heap[b]?:=by
 unfold Go.Proofs.sortWorld;rw[Go.Sort.heap_grow_old _ _ (by simpa[Go.Sort.putRow,Go.Sort.mapBlock,Go.Sort.ahead] using hb)];simp[Go.Sort.putRow,Go.Sort.mapBlock,Go.Sort.ahead,Array.getElem?_modify,Ne.symm hne]
theorem HJ{α:Type}[Inhabited α]{enc:α->Value}{w:World}{blk m:Nat}{dk:Array α}{os:Array Obj}{vals:Array Value}{ty:TypeId}{fz:Nat×Nat}(h:w.heap[blk]?=some (.cells vals ty fz)):
    Go.Sort.grow (Go.Sort.putRow enc (Go.Sort.ahead w m) blk 0 dk) os=Go.Sort.grow (Go.Sort.ahead (w.setRow blk (Go.Sort.putCells enc 0 dk vals)) m) os:=by
 congr 1
 unfold Go.Sort.putRow Go.Sort.mapBlock Go.Sort.ahead World.setRow;simp only
 congr 1
 refine Array.ext (by simp) λi i1 i2=>?_;rw[Array.getElem_modify,Array.getElem_modify];split
 ·rename_i e;subst e;obtain⟨g1,g2⟩:=kN.1 h;rw[g2];rfl
 ·rfl
theorem xr{E:Env}{w:World}{b n sz:Nat}{v:Value}(hn0:0<n)(h:Rel E w (.msl b (n*sz) sz 0 n) v):∃blk bsz cap,v=.slice (some ⟨blk,0,none⟩) n cap/\E.mu b (n*sz)=some (blk,bsz):=by
 generalize hx:AV.msl b (n*sz) sz 0 n=x at h;cases h with
 |msl b' n' sz' off len blk bsz cap h hl hc hn'=>cases hx;exact⟨blk,bsz,cap,rfl,h⟩
 |msl0 b' sz' v h=>injection hx;omega
 |_=>cases hx
theorem Gz{E:Env}{w:World}{g:Nat}{caps:List AV}{v:Value}(h:Rel E w (.func g caps) v):∃cv:List Value,cv.length=caps.length/\(∀(i:Nat)(x:AV)(y:Value),caps[i]?=some x->cv[i]?=some y->Rel E w x y)/\v=.func (.func g) #[] cv.toArray:=by
 generalize hx:AV.func g caps=x at h;cases h with
 |func f' c' cv hl hr=>cases hx;exact⟨cv,hl,hr,rfl⟩
 |_=>cases hx
theorem OJ{P:Program}{ρ:Go.Shelf.Ren}(Ly:Go.Proofs.SlLaysF.n6 P ρ){α:Type}[Inhabited α]{f:α->AV}{K:α->α->Int}{G:α->Prop}{g:Nat}{caps:List AV}
    (dat:∀x,Dat (f x)) (dcaps:∀x∈caps,Dat x) (run:∀x y,G x->G y->Go.Abs.Pure P g (f x::f y::caps) (.int .i64 (K x y))) (ord:Ord K) (hcok:cok P (ρ.f 6)=true) (eg:∀args w,(callFunc g args).run P w=.ok (.enter g args) w)
    {L:List α} {H:Hp} {b nx n:Nat} (hH:H b=some (L.map f)) (hbx:b<nx) (hn:L.length=n) (hn0:0<n) (hG:∀x∈L,G x) (hn2:n<=1000000000):
    Abs.Fn P (ρ.f 6) [.msl b n 1 0 n,.func g caps] H nx λr H' nx'=>∃L',H'=av H b (L'.map f)/\nx'=nx/\L'.Perm L/\lC K 0 n L':=by
 refine⟨hcok,λE w vs hE hh hf hv=>?_⟩;obtain⟨hvl,hvr⟩:=hv
 match vs,hvl,hvr with
 |[u0,u1],_,hvr=>
 have h0:=hvr 0 _ _ rfl rfl;have h1:=hvr 1 _ _ rfl rfl;have h0:Rel E w (.msl b (n*1) 1 0 n) u0:=by rw[Nat.mul_one];exact h0
 obtain⟨blk,bsz,cap,rfl,hm⟩:=xr hn0 h0;obtain⟨cv,hcl,hcr,rfl⟩:=Gz h1;clear h0 h1 hvr hvl;rw[Nat.mul_one] at hm;have hL:(L.map f).length=n:=by rw[bj];exact hn
 obtain⟨vals,ty,fz,c1,c2,c3,c4,hbox⟩:=sj hh hH (by rw[hL];exact hm);rw[hL] at c3;have hblk:blk<w.heap.size:=(kN.1 c1).1
 have cell:∀i,i<n->vals[i]?=some vals[i]!/\vals[i]!.oneCell'=true/\Rel E w (f (L.getD i default)) vals[i]!:=λi hi=>by
  have hi2:i<L.length:=by omega
  obtain⟨v,k1,k2,k3⟩:=c4 i (f (L.getD i default)) (by simp[List.getD,hi2]);rw[Dd k1];exact⟨k1,k2,k3⟩
 have ixn:∀i:Nat,(if i<n then i else 0)<n:=λi=>by split<;>omega
 have hcmp:Go.Proofs.CmpLays1 P g cv.toArray (v1 vals n) (λi j=>K (L.getD (if i<n then i else 0) default) (L.getD (if j<n then j else 0) default)) blk 0 (Array.range n).size w:=λm os dk hs x y=>by
  have k1:∀b,E.imm b->(Go.Proofs.sortWorld (v1 vals n) w blk 0 m dk os).heap[b]?=w.heap[b]?:=λb hb=>Kn (hE.lt b hb) (λe=>hbox.imm (e▸hb));have k2:=IY (enc:=v1 vals n) (w:=w) (blk:=blk) (m:=m) (dk:=dk) (os:=os);have k3:w.drawn<=(Go.Proofs.sortWorld (v1 vals n) w blk 0 m dk os).drawn:=Nat.le_add_right _ _
  exact DL (run _ _ (hG _ (ao (by rw[hn];exact ixn x))) (hG _ (ao (by rw[hn];exact ixn y)))) (imm:=E.imm) (λb hb=>Ah (hE.lt b hb) k2) (qT hh.size k1 k2 k3 (dat _) (cell _ (ixn x)).2.2) (qT hh.size k1 k2 k3 (dat _) (cell _ (ixn y)).2.2)
   ⟨hcl,λi x y hx hy=>qT hh.size k1 k2 k3 (dcaps x (hJ hx)) (hcr i x y hx hy)⟩
 have hHo:Go.Sort.Holds (v1 vals n) w blk 0 (Array.range n):=λj hj=>by
  have hj:j<n:=by simpa using hj
  have hj2:j<vals.size:=by omega
  refine⟨?_,?_⟩
  ·rw[wT hj];simp[World.cell?,c1,hj2,v1,hj]
  ·have:=c2 j hj2;simp only[World.frozen?,c1,dt];obtain⟨lo,hi⟩:=fz;simp only at this |-;simpa using this
 have hcon:=Go.Proofs.Any.slices_SortFunc Ly (v1 vals n) (λx=>(cell _ (ixn x)).2.1) _ (DD ord λi=>L.getD (if i<n then i else 0) default) g cv.toArray blk 0 cap (Array.range n) w eg hcmp hHo hblk (by simp;omega);rw[Array.size_range] at hcon;refine hcon.mono ?_;rintro e w' ⟨rfl,d,q,os,hp,hs,rfl⟩;obtain⟨p1,p2⟩:=Da hp
 have hdl:∀i,i<n->d[i]! <n:=λi hi=>by
  have:d[i]! ∈d.toList:=by rw[getElem!_pos d i (by omega)];simp
  exact gI.1 (p2.mem_iff.1 this)
 have hg:∀i,i<n->(d.toList.map λj=>L.getD j default).getD i default=L.getD d[i]! default:=λi hi=>by
  have hi2:i<d.size:=by omega
  rw[getElem!_pos d i hi2];simp[List.getD,hi2]
 have hL':((d.toList.map λj=>L.getD j default).map f).length=n:=by simp[p1]
 obtain ⟨E',he,hE',hh',-,-,hmu,hsp,hlp⟩:=hh.write hE hH hbox (cs':=(d.toList.map fun j=>L.getD j default).map f) (Go.Sort.putCells (v1 vals n) 0 d vals) (by simp [Go.Sort.putCells]) (by rw [hL']; exact c3) (by rw [hL,hL']; exact bd _) (.inl (by rw [hL,hL'])) (fun i x hx=>by
  have hi:i<n:=by have:=(bF.1 hx).1;rw[hL'] at this;exact this
  have hi2:i<vals.size:=by omega
  have hi3:i<d.size:=by omega
  obtain⟨k2,k3,k4⟩:=cell _ (hdl _ hi)
  have e:x=f (L.getD d[i]! default):=by
   rw[<-hg i hi];have hi4:i<(d.toList.map λj=>L.getD j default).length:=by simpa using hi3
   rw[kf,mB hi4] at hx;cases hx;simp[List.getD,hi3]
  rw[e];refine⟨_,?_,k3,k4⟩;have hd:=hdl i hi;rw[getElem!_pos d i hi3] at hd |-;simp[Go.Sort.putCells,hi2,hi3,v1,hd])
 have hb:=qc (w.setRow blk (Go.Sort.putCells (v1 vals n) 0 d vals)) q os;rw[<-HJ c1] at hb;obtain⟨o1,o2,o3⟩:=vv hE' hh' hb (Nat.le_add_right _ _);refine⟨.tuple #[],E',.tup [],_,nx,rfl,he.trans o1,o2,o3,hf.of (bd _) (λb' m hb'=>hmu b' m (by omega)) hsp hlp,.tup [] [] rfl (λi x y hx=>by simp at hx),_,rfl,rfl,Ar hn p2,λi j _ hij hj=>?_⟩;rw[hg i (by omega),hg j hj];have:=of_decide_eq_false (hs i j (bo _) hij hj);dsimp only at this
 rwa [if_pos (hdl i (by omega)),if_pos (hdl j hj)] at this
theorem Jq{P:Program}{ρ:Go.Shelf.Ren}(Ly:Go.Proofs.Lays.n189 P ρ)(hcok:cok P (ρ.f 189)=true){L:List Int}{H:Hp}{b nx n:Nat}(hH:H b=some (L.map λx=>.int .i64 x))(hbx:b<nx)(hn:L.length=n)(hn0:0<n)(hn2:n<=1000000000):
    Abs.Fn P (ρ.f 189) [.msl b n 1 0 n] H nx λr H' nx'=>∃L':List Int,H'=av H b (L'.map λx=>.int .i64 x)/\nx'=nx/\L'.Perm L/\L'.Pairwise (· <= ·):=by
 refine⟨hcok,λE w vs hE hh hf hv=>?_⟩;obtain⟨hvl,hvr⟩:=hv
 match vs,hvl,hvr with
 |[u0],_,hvr=>
 have h0:=hvr 0 _ _ rfl rfl;have h0:Rel E w (.msl b (n*1) 1 0 n) u0:=by rw[Nat.mul_one];exact h0
 obtain⟨blk,bsz,cap,rfl,hm⟩:=xr hn0 h0;clear h0 hvr hvl;rw[Nat.mul_one] at hm;have hL:(L.map λx=>AV.int .i64 x).length=n:=by rw[bj];exact hn
 obtain⟨vals,ty,fz,c1,c2,c3,c4,hbox⟩:=sj hh hH (by rw[hL];exact hm);rw[hL] at c3;have hblk:blk<w.heap.size:=(kN.1 c1).1
 have hHo:Go.Sort.Holds (Value.int .i64) w blk 0 L.toArray:=λj hj=>by
  have hj:j<n:=by simpa[hn] using hj
  have hj2:j<vals.size:=by omega
  have hj3:j<L.length:=by omega
  refine⟨?_,?_⟩
  ·obtain⟨v,k1,k2,k3⟩:=c4 j (.int .i64 L[j]) (by simp[hj3]);cases k3;simp[World.cell?,c1,k1,hj3]
  ·have:=c2 j hj2;simp only[World.frozen?,c1,dt];obtain⟨lo,hi⟩:=fz;simp only at this |-;simpa using this
 have hcon:=Go.Proofs.Any.slices_Sort_int Ly blk 0 cap L w hHo hblk (by omega);rw[hn] at hcon;refine hcon.mono ?_;rintro e w' ⟨rfl,q,os,rfl⟩;have hp:(L.mergeSort λx y=>decide (x<=y)).Perm L:=List.mergeSort_perm _ _
 have hs:(L.mergeSort λx y=>decide (x<=y)).Pairwise (· <= ·):=by
  have:=List.pairwise_mergeSort (le:=fun x y:Int=>decide (x ≤ y)) (fun a b c h1 h2=>bV (Int.le_trans (qh h1) (qh h2))) (fun a b=>by
   rcases Int.le_total a b with h|h
   ·simp[h]
   ·simp[h]) L
  exact this.imp λh=>qh h
 generalize (L.mergeSort λx y=>decide (x<=y))=M at hp hs |-;have hMl:M.length=n:=by rw[hp.length_eq,hn]
 have hL':(M.map λx=>AV.int .i64 x).length=n:=by rw[bj];exact hMl
 obtain ⟨E',he,hE',hh',-,-,hmu,hsp,hlp⟩:=hh.write hE hH hbox (cs':=M.map fun x=>AV.int .i64 x) (Go.Sort.putCells (Value.int .i64) 0 M.toArray vals) (by simp [Go.Sort.putCells]) (by rw [hL']; exact c3) (by rw [hL,hL']; exact bd _) (.inl (by rw [hL,hL'])) (fun i x hx=>by
  have hi:i<n:=by have:=(bF.1 hx).1;rw[hL'] at this;exact this
  have hi2:i<vals.size:=by omega
  have hi3:i<M.length:=by omega
  rw[kf,mB hi3] at hx;cases hx;exact⟨.int .i64 M[i],by simp[Go.Sort.putCells,hi2,hi3],rfl,.int _ _⟩)
 have hb:=qc (w.setRow blk (Go.Sort.putCells (Value.int .i64) 0 M.toArray vals)) q os;rw[<-HJ c1] at hb;obtain⟨o1,o2,o3⟩:=vv hE' hh' hb (Nat.le_add_right _ _);exact⟨.tuple #[],E',.tup [],_,nx,rfl,he.trans o1,o2,o3,hf.of (bd _) (λb' m hb'=>hmu b' m (by omega)) hsp hlp,.tup [] [] rfl (λi x y hx=>by simp at hx),M,rfl,rfl,hp,hs⟩
theorem dg{P:Program}{n:Nat}{F fn:Func}(h:P.funcs[n]?=some fn)(c:(fn.name== "runtime.NumGoroutine")=false)(e:some fn=some {F with name:=fn.name}):Go.Proofs.Bears P n F:=⟨fn.name,c,h.trans e⟩
def Qz:Go.Shelf.Ren:=⟨λn=>match n with|6=>90|15=>70|14=>143|28=>125|29=>126|20=>174|21=>175|22=>176|23=>177|24=>178|25=>179|26=>180|27=>181|46=>204|47=>155|48=>156|49=>205|50=>206|57=>223|n=>n,λn=>match n with|22=>22|24=>79|25=>166|3=>3|39=>144|0=>0|53=>202|55=>204|4=>4|46=>196|45=>195|50=>154|5=>5|9=>9|66=>234|70=>238|76=>265|77=>266|n=>n,λn=>n⟩
theorem RC:Go.Proofs.SlLaysF0.n6 Tryz.prog Qz where
 mixed:=by kernel_rfl
 f6:=dg Tryz.func90 (by kernel_rfl) (by kernel_rfl)
 f14:=dg Tryz.func143 (by kernel_rfl) (by kernel_rfl)
 f15:=Tryz.func70.trans (by kernel_rfl)
 f20:=dg Tryz.func174 (by kernel_rfl) (by kernel_rfl)
 f21:=dg Tryz.func175 (by kernel_rfl) (by kernel_rfl)
 f22:=dg Tryz.func176 (by kernel_rfl) (by kernel_rfl)
 f23:=dg Tryz.func177 (by kernel_rfl) (by kernel_rfl)
 f24:=dg Tryz.func178 (by kernel_rfl) (by kernel_rfl)
 f25:=dg Tryz.func179 (by kernel_rfl) (by kernel_rfl)
 f26:=dg Tryz.func180 (by kernel_rfl) (by kernel_rfl)
 f27:=dg Tryz.func181 (by kernel_rfl) (by kernel_rfl)
 f28:=Tryz.func125.trans (by kernel_rfl)
 f29:=Tryz.func126.trans (by kernel_rfl)
 f46:=dg Tryz.func204 (by kernel_rfl) (by kernel_rfl)
 f47:=Tryz.func155.trans (by kernel_rfl)
 f48:=Tryz.func156.trans (by kernel_rfl)
 f49:=dg Tryz.func205 (by kernel_rfl) (by kernel_rfl)
 f50:=dg Tryz.func206 (by kernel_rfl) (by kernel_rfl)
 f57:=dg Tryz.func223 (by kernel_rfl) (by kernel_rfl)
 t0:=Tryz.underlying0
 a0:=Tryz.isAgg0
 z0:=Tryz.sizeOf0
 v0:=Tryz.zeroValue0
 t3:=Tryz.underlying3
 a3:=Tryz.isAgg3
 z3:=Tryz.sizeOf3
 v3:=Tryz.zeroValue3
 t4:=Tryz.underlying4
 a4:=Tryz.isAgg4
 z4:=Tryz.sizeOf4
 v4:=Tryz.zeroValue4
 t5:=Tryz.underlying5
 a5:=Tryz.isAgg5
 z5:=Tryz.sizeOf5
 v5:=Tryz.zeroValue5
 t9:=Tryz.underlying9
 a9:=Tryz.isAgg9
 z9:=Tryz.sizeOf9
 v9:=Tryz.zeroValue9
 t22:=Tryz.underlying22
 a22:=Tryz.isAgg22
 z22:=Tryz.sizeOf22
 v22:=Tryz.zeroValue22
 t25:=Tryz.underlying166
 a25:=Tryz.isAgg166
 z25:=Tryz.sizeOf166
 v25:=Tryz.zeroValue166
 t39:=Tryz.underlying144
 a39:=Tryz.isAgg144
 z39:=Tryz.sizeOf144
 v39:=Tryz.zeroValue144
 t45:=Tryz.underlying195
 a45:=Tryz.isAgg195
 z45:=Tryz.sizeOf195
 v45:=Tryz.zeroValue195
 t46:=Tryz.underlying196
 a46:=Tryz.isAgg196
 z46:=Tryz.sizeOf196
 v46:=Tryz.zeroValue196
 t50:=Tryz.underlying154
 a50:=Tryz.isAgg154
 z50:=Tryz.sizeOf154
 v50:=Tryz.zeroValue154
 t53:=Tryz.underlying202
 a53:=Tryz.isAgg202
 z53:=Tryz.sizeOf202
 v53:=Tryz.zeroValue202
 t55:=Tryz.underlying204
 a55:=Tryz.isAgg204
 z55:=Tryz.sizeOf204
 v55:=Tryz.zeroValue204
 t66:=Tryz.underlying234
 a66:=Tryz.isAgg234
 z66:=Tryz.sizeOf234
 v66:=Tryz.zeroValue234
 t70:=Tryz.underlying238
 a70:=Tryz.isAgg238
 z70:=Tryz.sizeOf238
 v70:=Tryz.zeroValue238
 t76:=Tryz.underlying265
 a76:=Tryz.isAgg265
 z76:=Tryz.sizeOf265
 v76:=Tryz.zeroValue265
 t77:=Tryz.underlying266
 a77:=Tryz.isAgg266
 z77:=Tryz.sizeOf266
 v77:=Tryz.zeroValue266
def Og:Go.Shelf.Ren:=⟨λn=>match n with|6=>145|15=>70|14=>182|28=>125|29=>126|20=>207|21=>208|22=>209|23=>210|24=>211|25=>212|26=>213|27=>214|46=>224|47=>155|48=>156|49=>225|50=>226|57=>228|n=>n,λn=>match n with|22=>94|24=>98|25=>223|3=>3|39=>144|0=>0|53=>202|55=>204|4=>4|46=>196|45=>195|50=>154|5=>5|9=>9|66=>234|70=>238|76=>265|77=>266|n=>n,λn=>n⟩
theorem Ry:Go.Proofs.SlLaysF0.n6 Tryz.prog Og where
 mixed:=by kernel_rfl
 f6:=dg Tryz.func145 (by kernel_rfl) (by kernel_rfl)
 f14:=dg Tryz.func182 (by kernel_rfl) (by kernel_rfl)
 f15:=Tryz.func70.trans (by kernel_rfl)
 f20:=dg Tryz.func207 (by kernel_rfl) (by kernel_rfl)
 f21:=dg Tryz.func208 (by kernel_rfl) (by kernel_rfl)
 f22:=dg Tryz.func209 (by kernel_rfl) (by kernel_rfl)
 f23:=dg Tryz.func210 (by kernel_rfl) (by kernel_rfl)
 f24:=dg Tryz.func211 (by kernel_rfl) (by kernel_rfl)
 f25:=dg Tryz.func212 (by kernel_rfl) (by kernel_rfl)
 f26:=dg Tryz.func213 (by kernel_rfl) (by kernel_rfl)
 f27:=dg Tryz.func214 (by kernel_rfl) (by kernel_rfl)
 f28:=Tryz.func125.trans (by kernel_rfl)
 f29:=Tryz.func126.trans (by kernel_rfl)
 f46:=dg Tryz.func224 (by kernel_rfl) (by kernel_rfl)
 f47:=Tryz.func155.trans (by kernel_rfl)
 f48:=Tryz.func156.trans (by kernel_rfl)
 f49:=dg Tryz.func225 (by kernel_rfl) (by kernel_rfl)
 f50:=dg Tryz.func226 (by kernel_rfl) (by kernel_rfl)
 f57:=dg Tryz.func228 (by kernel_rfl) (by kernel_rfl)
 t0:=Tryz.underlying0
 a0:=Tryz.isAgg0
 z0:=Tryz.sizeOf0
 v0:=Tryz.zeroValue0
 t3:=Tryz.underlying3
 a3:=Tryz.isAgg3
 z3:=Tryz.sizeOf3
 v3:=Tryz.zeroValue3
 t4:=Tryz.underlying4
 a4:=Tryz.isAgg4
 z4:=Tryz.sizeOf4
 v4:=Tryz.zeroValue4
 t5:=Tryz.underlying5
 a5:=Tryz.isAgg5
 z5:=Tryz.sizeOf5
 v5:=Tryz.zeroValue5
 t9:=Tryz.underlying9
 a9:=Tryz.isAgg9
 z9:=Tryz.sizeOf9
 v9:=Tryz.zeroValue9
 t22:=Tryz.underlying94
 a22:=Tryz.isAgg94
 z22:=Tryz.sizeOf94
 v22:=Tryz.zeroValue94
 t25:=Tryz.underlying223
 a25:=Tryz.isAgg223
 z25:=Tryz.sizeOf223
 v25:=Tryz.zeroValue223
 t39:=Tryz.underlying144
 a39:=Tryz.isAgg144
 z39:=Tryz.sizeOf144
 v39:=Tryz.zeroValue144
 t45:=Tryz.underlying195
 a45:=Tryz.isAgg195
 z45:=Tryz.sizeOf195
 v45:=Tryz.zeroValue195
 t46:=Tryz.underlying196
 a46:=Tryz.isAgg196
 z46:=Tryz.sizeOf196
 v46:=Tryz.zeroValue196
 t50:=Tryz.underlying154
 a50:=Tryz.isAgg154
 z50:=Tryz.sizeOf154
 v50:=Tryz.zeroValue154
 t53:=Tryz.underlying202
 a53:=Tryz.isAgg202
 z53:=Tryz.sizeOf202
 v53:=Tryz.zeroValue202
 t55:=Tryz.underlying204
 a55:=Tryz.isAgg204
 z55:=Tryz.sizeOf204
 v55:=Tryz.zeroValue204
 t66:=Tryz.underlying234
 a66:=Tryz.isAgg234
 z66:=Tryz.sizeOf234
 v66:=Tryz.zeroValue234
 t70:=Tryz.underlying238
 a70:=Tryz.isAgg238
 z70:=Tryz.sizeOf238
 v70:=Tryz.zeroValue238
 t76:=Tryz.underlying265
 a76:=Tryz.isAgg265
 z76:=Tryz.sizeOf265
 v76:=Tryz.zeroValue265
 t77:=Tryz.underlying266
 a77:=Tryz.isAgg266
 z77:=Tryz.sizeOf266
 v77:=Tryz.zeroValue266
def Oi:Go.Shelf.Ren:=⟨λn=>match n with|6=>115|15=>70|14=>153|28=>125|29=>126|20=>187|21=>188|22=>189|23=>190|24=>191|25=>192|26=>193|27=>194|46=>218|47=>155|48=>156|49=>219|50=>220|57=>227|n=>n,λn=>match n with|22=>41|24=>45|25=>156|3=>3|39=>144|0=>0|53=>202|55=>204|4=>4|46=>196|45=>195|50=>154|5=>5|9=>9|66=>234|70=>238|76=>265|77=>266|n=>n,λn=>n⟩
theorem O0:Go.Proofs.SlLaysF.n6 Tryz.prog Oi where
 mixed:=by kernel_rfl
 f6:=dg Tryz.func115 (by kernel_rfl) (by kernel_rfl)
 f14:=dg Tryz.func153 (by kernel_rfl) (by kernel_rfl)
 f15:=Tryz.func70.trans (by kernel_rfl)
 f20:=dg Tryz.func187 (by kernel_rfl) (by kernel_rfl)
 f21:=dg Tryz.func188 (by kernel_rfl) (by kernel_rfl)
 f22:=dg Tryz.func189 (by kernel_rfl) (by kernel_rfl)
 f23:=dg Tryz.func190 (by kernel_rfl) (by kernel_rfl)
 f24:=dg Tryz.func191 (by kernel_rfl) (by kernel_rfl)
 f25:=dg Tryz.func192 (by kernel_rfl) (by kernel_rfl)
 f26:=dg Tryz.func193 (by kernel_rfl) (by kernel_rfl)
 f27:=dg Tryz.func194 (by kernel_rfl) (by kernel_rfl)
 f28:=Tryz.func125.trans (by kernel_rfl)
 f29:=Tryz.func126.trans (by kernel_rfl)
 f46:=dg Tryz.func218 (by kernel_rfl) (by kernel_rfl)
 f47:=Tryz.func155.trans (by kernel_rfl)
 f48:=Tryz.func156.trans (by kernel_rfl)
 f49:=dg Tryz.func219 (by kernel_rfl) (by kernel_rfl)
 f50:=dg Tryz.func220 (by kernel_rfl) (by kernel_rfl)
 f57:=dg Tryz.func227 (by kernel_rfl) (by kernel_rfl)
 t0:=Tryz.underlying0
 a0:=Tryz.isAgg0
 z0:=Tryz.sizeOf0
 v0:=Tryz.zeroValue0
 t3:=Tryz.underlying3
 a3:=Tryz.isAgg3
 z3:=Tryz.sizeOf3
 v3:=Tryz.zeroValue3
 t4:=Tryz.underlying4
 a4:=Tryz.isAgg4
 z4:=Tryz.sizeOf4
 v4:=Tryz.zeroValue4
 t5:=Tryz.underlying5
 a5:=Tryz.isAgg5
 z5:=Tryz.sizeOf5
 v5:=Tryz.zeroValue5
 t9:=Tryz.underlying9
 a9:=Tryz.isAgg9
 z9:=Tryz.sizeOf9
 v9:=Tryz.zeroValue9
 t22:=Tryz.underlying41
 a22:=Tryz.isAgg41
 z22:=Tryz.sizeOf41
 v22:=Tryz.zeroValue41
 a24:=Tryz.isAgg45
 z24:=Tryz.sizeOf45
 t25:=Tryz.underlying156
 a25:=Tryz.isAgg156
 z25:=Tryz.sizeOf156
 v25:=Tryz.zeroValue156
 t39:=Tryz.underlying144
 a39:=Tryz.isAgg144
 z39:=Tryz.sizeOf144
 v39:=Tryz.zeroValue144
 t45:=Tryz.underlying195
 a45:=Tryz.isAgg195
 z45:=Tryz.sizeOf195
 v45:=Tryz.zeroValue195
 t46:=Tryz.underlying196
 a46:=Tryz.isAgg196
 z46:=Tryz.sizeOf196
 v46:=Tryz.zeroValue196
 t50:=Tryz.underlying154
 a50:=Tryz.isAgg154
 z50:=Tryz.sizeOf154
 v50:=Tryz.zeroValue154
 t53:=Tryz.underlying202
 a53:=Tryz.isAgg202
 z53:=Tryz.sizeOf202
 v53:=Tryz.zeroValue202
 t55:=Tryz.underlying204
 a55:=Tryz.isAgg204
 z55:=Tryz.sizeOf204
 v55:=Tryz.zeroValue204
 t66:=Tryz.underlying234
 a66:=Tryz.isAgg234
 z66:=Tryz.sizeOf234
 v66:=Tryz.zeroValue234
 t70:=Tryz.underlying238
 a70:=Tryz.isAgg238
 z70:=Tryz.sizeOf238
 v70:=Tryz.zeroValue238
 t76:=Tryz.underlying265
 a76:=Tryz.isAgg265
 z76:=Tryz.sizeOf265
 v76:=Tryz.zeroValue265
 t77:=Tryz.underlying266
 a77:=Tryz.isAgg266
 z77:=Tryz.sizeOf266
 v77:=Tryz.zeroValue266
def Q0:Go.Shelf.Ren:=⟨λn=>match n with|189=>32|125=>70|257=>69|128=>125|129=>126|294=>116|295=>117|296=>118|297=>119|298=>120|299=>121|216=>122|300=>123|301=>124|328=>154|329=>155|330=>156|331=>157|332=>158|215=>159|343=>195|n=>n,λn=>match n with|28=>45|3=>3|46=>144|0=>0|51=>202|53=>204|4=>4|183=>196|182=>195|131=>154|5=>5|9=>9|218=>234|222=>238|228=>265|229=>266|n=>n,λn=>n⟩
theorem Rq:Go.Proofs.Lays.n189 Tryz.prog Q0 where
 mixed:=by kernel_rfl
 f125:=Tryz.func70.trans (by kernel_rfl)
 f128:=Tryz.func125.trans (by kernel_rfl)
 f129:=Tryz.func126.trans (by kernel_rfl)
 f189:=Tryz.func32.trans (by kernel_rfl)
 f215:=Tryz.func159.trans (by kernel_rfl)
 f216:=Tryz.func122.trans (by kernel_rfl)
 f257:=Tryz.func69.trans (by kernel_rfl)
 f294:=Tryz.func116.trans (by kernel_rfl)
 f295:=Tryz.func117.trans (by kernel_rfl)
 f296:=Tryz.func118.trans (by kernel_rfl)
 f297:=Tryz.func119.trans (by kernel_rfl)
 f298:=Tryz.func120.trans (by kernel_rfl)
 f299:=Tryz.func121.trans (by kernel_rfl)
 f300:=Tryz.func123.trans (by kernel_rfl)
 f301:=Tryz.func124.trans (by kernel_rfl)
 f328:=Tryz.func154.trans (by kernel_rfl)
 f329:=Tryz.func155.trans (by kernel_rfl)
 f330:=Tryz.func156.trans (by kernel_rfl)
 f331:=Tryz.func157.trans (by kernel_rfl)
 f332:=Tryz.func158.trans (by kernel_rfl)
 f343:=Tryz.func195.trans (by kernel_rfl)
 t0:=Tryz.underlying0
 a0:=Tryz.isAgg0
 z0:=Tryz.sizeOf0
 v0:=Tryz.zeroValue0
 t3:=Tryz.underlying3
 a3:=Tryz.isAgg3
 z3:=Tryz.sizeOf3
 v3:=Tryz.zeroValue3
 t4:=Tryz.underlying4
 a4:=Tryz.isAgg4
 z4:=Tryz.sizeOf4
 v4:=Tryz.zeroValue4
 t5:=Tryz.underlying5
 a5:=Tryz.isAgg5
 z5:=Tryz.sizeOf5
 v5:=Tryz.zeroValue5
 t9:=Tryz.underlying9
 a9:=Tryz.isAgg9
 z9:=Tryz.sizeOf9
 v9:=Tryz.zeroValue9
 t28:=Tryz.underlying45
 a28:=Tryz.isAgg45
 z28:=Tryz.sizeOf45
 v28:=Tryz.zeroValue45
 t46:=Tryz.underlying144
 a46:=Tryz.isAgg144
 z46:=Tryz.sizeOf144
 v46:=Tryz.zeroValue144
 t51:=Tryz.underlying202
 a51:=Tryz.isAgg202
 z51:=Tryz.sizeOf202
 v51:=Tryz.zeroValue202
 t53:=Tryz.underlying204
 a53:=Tryz.isAgg204
 z53:=Tryz.sizeOf204
 v53:=Tryz.zeroValue204
 t131:=Tryz.underlying154
 a131:=Tryz.isAgg154
 z131:=Tryz.sizeOf154
 v131:=Tryz.zeroValue154
 t182:=Tryz.underlying195
 a182:=Tryz.isAgg195
 z182:=Tryz.sizeOf195
 v182:=Tryz.zeroValue195
 t183:=Tryz.underlying196
 a183:=Tryz.isAgg196
 z183:=Tryz.sizeOf196
 v183:=Tryz.zeroValue196
 t218:=Tryz.underlying234
 a218:=Tryz.isAgg234
 z218:=Tryz.sizeOf234
 v218:=Tryz.zeroValue234
 t222:=Tryz.underlying238
 a222:=Tryz.isAgg238
 z222:=Tryz.sizeOf238
 v222:=Tryz.zeroValue238
 t228:=Tryz.underlying265
 a228:=Tryz.isAgg265
 z228:=Tryz.sizeOf265
 v228:=Tryz.zeroValue265
 t229:=Tryz.underlying266
 a229:=Tryz.isAgg266
 z229:=Tryz.sizeOf266
 v229:=Tryz.zeroValue266
structure Cmp{α:Type}(P:Program)(f:α->AV)(K:α->α->Int)(G:α->Prop)(g:Nat)(caps:List AV):Prop where
 cells:∀x,(f x).cells=[f x]
 one:∀x,(f x).one=true
 dat:∀x,Dat (f x)
 dcaps:∀x∈caps,Dat x
 run:∀x y,G x->G y->Go.Abs.Pure P g (f x::f y::caps) (.int .i64 (K x y))
 ord:Ord K
theorem gd{α:Type}{f:α->AV}{l:List α}{k:Nat}{x:α}(h:k<l.length):cE (l.map f) k [f x]=(l.set k x).map f:=by
 simp only[cE,List.map_set,il,so,dt];rw[Lo,if_pos (by simpa using h)];simp
theorem je(H:Hp)(b:Nat)(x y:List AV):av (av H b x) b y=av H b y:=by
 funext i;unfold av;split<;>rfl
structure PS(H H1:Hp)(nx n1 b:Nat)(cs:List AV):Prop where
 at_:H1 b=some cs
 fr:∀i,i<nx->i≠b->H1 i=H i
 le:nx<=n1
def _root_.List.c3{α:Type}(l:List α)(f:α->AV):List AV:=l.flatMap λx=>(f x).cells
structure Cmp3{α:Type}(P:Program)(f:α->AV)(K:α->α->Int)(G:α->Prop)(g:Nat)(caps:List AV):Prop where
 len:∀x,(f x).cells.length=3
 agg:∀x,AV.agg (f x).cells=f x
 ones:∀x,AV.ones (f x).cells=true
 dat:∀x,Dat (f x)
 dcaps:∀x∈caps,Dat x
 run:∀x y,G x->G y->Go.Abs.Pure P g (f x::f y::caps) (.int .i64 (K x y))
 ord:Ord K
theorem CD{α:Type}{f:α->AV}(h:∀x,(f x).cells.length=3)(M:List α):(M.c3 f).length=M.length*3:=kR h M
def _root_.List.c8{α:Type}(l:List α)(f:α->AV):List AV:=l.flatMap λx=>(f x).cells
structure Cmp8{α:Type}(P:Program)(f:α->AV)(K:α->α->Int)(G:α->Prop)(g:Nat)(caps:List AV):Prop where
 len:∀x,(f x).cells.length=8
 agg:∀x,AV.agg (f x).cells=f x
 ones:∀x,AV.ones (f x).cells=true
 dat:∀x,Dat (f x)
 dcaps:∀x∈caps,Dat x
 run:∀x y,G x->G y->Go.Abs.Pure P g (f x::f y::caps) (.int .i64 (K x y))
 ord:Ord K
theorem LB{α:Type}{f:α->AV}(h:∀x,(f x).cells.length=8)(M:List α):(M.c8 f).length=M.length*8:=kR h M
def Nn:AV->Option AV
 |.ptr b n o=>some (.ptr b n o)
 |.iptr c o=>some (.iptr c o)
 |.func f c=>some (.func f c)
 |_=>none
theorem SV3:(∀ (T:Tm) (H:Hp) (x:Opd),bw T H (.nilck x)=Nn (ov T x))∧(∀ b n o:Nat,Nn (.ptr b n o)=some (.ptr b n o)):=⟨fun T H x=>by
 simp only[bw];cases ov T x<;>rfl,λ_ _ _=>rfl⟩
theorem yP{H:Hp}{nx b:Nat}{cs:List AV}:PS H (av H b cs) nx nx b cs:=⟨ae,λ_ _ h=>ab h,bd _⟩
section
variable{α:Type}[Inhabited α]{f:α->AV}{K:α->α->Int}{G:α->Prop}{g:Nat}{caps:List AV}
theorem IS(hc:Cmp3 Tryz.prog f K G g caps){L:List α}{H:Hp}{b nx n:Nat}(hH:H b=some (L.c3 f))(hbx:b<nx)(hn:L.length=n)(hn0:0<n)(hG:∀x∈L,G x)(hn2:n<=1000000000):
    Abs.Fn Tryz.prog 90 [.msl b (n*3) 3 0 n,.func g caps] H nx λr H' nx'=>∃L',PS H H' nx nx' b (L'.c3 f)/\L'.Perm L/\lC K 0 n L':=
 Abs.Fn.mono (KO (sz:=3) RC Tryz.isAgg79 Tryz.sizeOf79 (by omega) hc.len hc.agg hc.dat hc.dcaps hc.run hc.ord (by kernel_rfl) (gQ (hc.run _ _ (hG _ (ao (by omega:0<L.length))) (hG _ (ao (by omega:0<L.length)))).1) hH hbx hn hn0 hG hn2) λ_ _ _ ⟨L',h1,h2,h3,h4⟩=>⟨L',by rw[h1,h2];exact yP,h3,h4⟩
theorem Jn(hc:Cmp8 Tryz.prog f K G g caps){L:List α}{H:Hp}{b nx n:Nat}(hH:H b=some (L.c8 f))(hbx:b<nx)(hn:L.length=n)(hn0:0<n)(hG:∀x∈L,G x)(hn2:n<=1000000000):
    Abs.Fn Tryz.prog 145 [.msl b (n*8) 8 0 n,.func g caps] H nx λr H' nx'=>∃L',PS H H' nx nx' b (L'.c8 f)/\L'.Perm L/\lC K 0 n L':=
 Abs.Fn.mono (KO (sz:=8) Ry Tryz.isAgg98 Tryz.sizeOf98 (by omega) hc.len hc.agg hc.dat hc.dcaps hc.run hc.ord (by kernel_rfl) (gQ (hc.run _ _ (hG _ (ao (by omega:0<L.length))) (hG _ (ao (by omega:0<L.length)))).1) hH hbx hn hn0 hG hn2) λ_ _ _ ⟨L',h1,h2,h3,h4⟩=>⟨L',by rw[h1,h2];exact yP,h3,h4⟩
theorem Dm(hc:Cmp Tryz.prog f K G g caps){L:List α}{H:Hp}{b nx n:Nat}(hH:H b=some (L.map f))(hbx:b<nx)(hn:L.length=n)(hn0:0<n)(hG:∀x∈L,G x)(hn2:n<=1000000000):
    Abs.Fn Tryz.prog 115 [.msl b n 1 0 n,.func g caps] H nx λr H' nx'=>∃L',PS H H' nx nx' b (L'.map f)/\L'.Perm L/\lC K 0 n L':=
 Abs.Fn.mono (OJ O0 hc.dat hc.dcaps hc.run hc.ord (by kernel_rfl) (gQ (hc.run _ _ (hG _ (ao (by omega:0<L.length))) (hG _ (ao (by omega:0<L.length)))).1) hH hbx hn hn0 hG hn2) λ_ _ _ ⟨L',h1,h2,h3,h4⟩=>⟨L',by rw[h1,h2];exact yP,h3,h4⟩
theorem JB{H:Hp}{nx:Nat}:Abs.Fn Tryz.prog 115 [.esl,.func g caps] H nx λr H' nx'=>nx'=nx/\H'=H:=by
 refine⟨by kernel_rfl,λE w vs hE hh hf hv=>?_⟩;obtain⟨hvl,hvr⟩:=hv
 match vs,hvl,hvr with
 |[u0,u1],_,hvr=>
 obtain⟨p,cap,rfl⟩:∃p cap,u0=.slice p 0 cap:=by
  cases hvr 0 _ _ rfl rfl with
  |eslnil=>exact⟨none,0,rfl⟩
  |esl a=>exact⟨some a,0,rfl⟩
 refine(Go.Proofs.AnyF.slices_SortFunc_none (P:=Tryz.prog) (ρ:=Oi) {O0 with} p cap u1 w).mono ?_;rintro e w' ⟨rfl,rfl⟩;exact⟨.tuple #[],E,.tup [],H,nx,rfl,Ext.refl _ _,hE,hh,hf,.tup [] [] rfl (λi x y hx=>by simp at hx),rfl,rfl⟩
end
theorem JW{L:List Int}{H:Hp}{b nx n:Nat}(hH:H b=some (L.map λx=>.int .i64 x))(hbx:b<nx)(hn:L.length=n)(hn0:0<n)(hn2:n<=1000000000):
    Abs.Fn Tryz.prog 32 [.msl b n 1 0 n] H nx λr H' nx'=>∃L':List Int,PS H H' nx nx' b (L'.map λx=>.int .i64 x)/\L'.Perm L/\L'.Pairwise (· <= ·):=
 Abs.Fn.mono (Jq Rq (by kernel_rfl) hH hbx hn hn0 hn2) λ_ _ _ ⟨L',h1,h2,h3,h4⟩=>⟨L',by rw[h1,h2];exact yP,h3,h4⟩
theorem cT{α:Type}[Inhabited α]{l:List α}{k:Nat}(h:k<l.length):l.take (k+1)=l.take k++[l.getD k default]:=by
 rw[List.take_add_one];simp[List.getD,h]
theorem pp{H:Hp}{d:Nat}{x:AV}:ef 1 (av H d [x]) (.msl d 1 1 0 1)=some (1,[x]):=fW (n:=1) (len:=1) (off:=0) (cs:=[x]) ae rfl (by simp)
theorem Ef{H:Hp}{sz:Nat}{s:AV}{elems:List AV}(h:Row H sz s (elems.flatMap AV.cells))(hc:∀y∈elems,y.cells.length=sz)(hz:0<sz)(hd:∀y∈elems,∀c∈y.cells,SnapF H c c):SnapF H s (.sl sz elems):=by
 obtain⟨f1,f2⟩:=eV elems hc;generalize he:elems.flatMap AV.cells=cs at h;cases h with
 |nil=>
  have:elems.length*sz=0:=by rw[<-f1,he];rfl
  have:elems=[]:=fI.1 (by
   rcases Nat.mul_eq_zero.1 this with h|h
   ·exact h
   ·omega)
  subst this;exact .eslsl sz
 |box b len cs hb hl=>
  have hlen:elems.length=len:=Nat.eq_of_mul_eq_mul_right hz (by rw[<-f1,he,hl]);refine .msl b (len*sz) sz 0 len cs elems hb hl (by omega) hlen hc (λi j y a c hy hc' ha=>?_);have hj:j<sz:=by rw[<-hc y (hJ hy)];exact(bF.1 hc').1
  have key:∀(l:List AV)(i j:Nat)(y c:AV),(∀z∈l,z.cells.length=sz)->l[i]?=some y->y.cells[j]?=some c->j<sz->(l.flatMap AV.cells)[i*sz+j]?=some c:=by
   intro l
   induction l with
   |nil=>intro i j y c _ h;simp at h
   |cons x l ih=>
    intro i j y c hl hy hc hj;rw[lk];cases i with
    |zero=>
     simp at hy;subst hy;rw[nz,dt,fT (by rw[hl x (by simp)];exact hj)];exact hc
    |succ i=>
     rw[ia (by rw[hl x (by simp),eh];omega),hl x (by simp)];have:=ih i j y c (λz hz=>hl z (by simp[hz])) (by simpa using hy) hc hj;rw[<-this];congr 1;rw[eh];omega
  have:=key elems i j y c hc hy hc' hj;rw[he,<-dt (i*sz)] at this;rw[this] at ha;cases ha;exact hd y (hJ hy) a (hJ hc')
theorem nY{H:Hp}{t x x':AV}{cs c:List AV}{nb:Nat}(hrow:Row H 1 t (cs++[x]))(hx:H nb=some c)(hs:Snap (only nb c) x x')(hne:bk t≠some nb):∃H',Fz (only nb c) H H'/\Row H' 1 t (cs++[x'])/\∀y,y≠nb->bk t≠some y->H' y=H y:=by
 generalize hcs:cs++[x]=ds at hrow;cases hrow with
 |nil=>exact absurd (congrArg List.length hcs) (by simp)
 |box b len ds g1 g2=>
  have hb:b≠nb:=λe=>hne (by rw[e];rfl);refine⟨av (dw H nb) b (cs++[x']),⟨λy d h=>?_,λy d h=>?_⟩,Row.box b len _ ae (by rw[<-g2,<-hcs];simp),λy h1 h2=>?_⟩
  ·unfold only at h;split at h
   ·rename_i e;rw[e,hx];exact h
   ·cases h
  ·by_cases e:y=b
   ·subst e;rw[ae] at h;cases h;exact⟨ds,g1,if_neg hb,by rw[<-hcs];exact d7.snoc hs⟩
   ·rw[ab e] at h;by_cases e2:y=nb
    ·rw[e2] at h;exact absurd h (by simp[dw])
    ·rw[bQ e2] at h;exact⟨d,h,if_neg e2,d7.refl _ _⟩
  ·rw[ab (λe=>h2 (by rw[e];rfl)),bQ h1]
structure RndV where
 n:Int
 h0:Int
 h1:Int
 h2:Int
 h3:Int
 h4:Int
 f:Int
 deriving DecidableEq,Inhabited
def RndV.hs(r:RndV):List Int:=[r.h0,r.h1,r.h2,r.h3,r.h4]
def RndV.ints(r:RndV):List Int:=[r.n,r.h0,r.h1,r.h2,r.h3,r.h4,r.f]
def RndV.gc(r:RndV):List AV:=[.int .i64 r.n,.int .i64 r.h0,.int .i64 r.h1,.int .i64 r.h2,.int .i64 r.h3,.int .i64 r.h4]
def RndV.cs(r:RndV):List AV:=[.int .i64 r.n,.int .i64 r.h0,.int .i64 r.h1,.int .i64 r.h2,.int .i64 r.h3,.int .i64 r.h4,.int .i64 r.f]
structure MvV where
 r:RndV
 to:Int
 deriving DecidableEq,Inhabited
def MvV.cs(m:MvV):List AV:=[.int .i64 m.r.n,.int .i64 m.r.h0,.int .i64 m.r.h1,.int .i64 m.r.h2,.int .i64 m.r.h3,.int .i64 m.r.h4,.int .i64 m.r.f,.int .i64 m.to]
structure AdvV where
 n:Int
 states:List (List MvV)
 deriving DecidableEq,Inhabited
structure PrbV where
 task:TaskV
 adv:AdvV
 rounds:Int
 deriving DecidableEq,Inhabited
structure VwV where
 proc:Int
 round:Int
 input:Int
 h0:Int
 h1:Int
 h2:Int
 h3:Int
 h4:Int
 deriving DecidableEq,Inhabited
def VwV.cs(v:VwV):List AV:=[.int .i64 v.proc,.int .i64 v.round,.int .i64 v.input,.int .i64 v.h0,.int .i64 v.h1,.int .i64 v.h2,.int .i64 v.h3,.int .i64 v.h4]
structure ExV where
 case:Int
 word:List RndV
 views:List (List Int)
 deriving DecidableEq,Inhabited
structure SysV where
 prob:PrbV
 tn:Int
 views:List VwV
 execs:List ExV
 deriving DecidableEq,Inhabited
def jN(r:RndV):AV:=.agg r.gc
def cJ(r:RndV):AV:=.agg r.cs
def dC(m:MvV):AV:=.agg m.cs
def bA(l:List RndV):AV:=kZ 7 cJ l
def ec(l:List (List RndV)):AV:=kZ 1 bA l
def bD(l:List MvV):AV:=kZ 8 dC l
def aN(l:List (List MvV)):AV:=kZ 1 bD l
def AdvV.cs(a:AdvV):List AV:=[.int .i64 a.n,aN a.states]
def ce(a:AdvV):AV:=.agg a.cs
def PrbV.cs(p:PrbV):List AV:=[.int .i64 p.task.n,.int .i64 p.task.ins,.int .i64 p.task.outs,bu p.task.cases,.int .i64 p.adv.n,aN p.adv.states,.int .i64 p.rounds]
def ca(p:PrbV):AV:=.agg p.cs
def dP(v:VwV):AV:=.agg v.cs
def de(l:List VwV):AV:=kZ 8 dP l
def ExV.cs(x:ExV):List AV:=[.int .i64 x.case,bA x.word,ay x.views]
def iH(x:ExV):AV:=.agg x.cs
def fM(l:List ExV):AV:=kZ 3 iH l
def SysV.cs(s:SysV):List AV:=[.int .i64 s.prob.task.n,.int .i64 s.prob.task.ins,.int .i64 s.prob.task.outs,bu s.prob.task.cases,.int .i64 s.prob.adv.n,aN s.prob.adv.states,.int .i64 s.prob.rounds,.int .i64 s.tn,de s.views,fM s.execs]
def gn(s:SysV):AV:=.agg s.cs
theorem yI(r:RndV):∀x∈r.cs,Dat x:=DatL.cons .int (DatL.cons .int (DatL.cons .int (DatL.cons .int (DatL.cons .int (DatL.cons .int (DatL.cons .int DatL.nil))))))
theorem uL(r:RndV):∀x∈r.gc,Dat x:=DatL.cons .int (DatL.cons .int (DatL.cons .int (DatL.cons .int (DatL.cons .int (DatL.cons .int DatL.nil)))))
theorem yZ(r:MvV):∀x∈r.cs,Dat x:=DatL.cons .int (DatL.cons .int (DatL.cons .int (DatL.cons .int (DatL.cons .int (DatL.cons .int (DatL.cons .int (DatL.cons .int DatL.nil)))))))
theorem Cv(r:VwV):∀x∈r.cs,Dat x:=DatL.cons .int (DatL.cons .int (DatL.cons .int (DatL.cons .int (DatL.cons .int (DatL.cons .int (DatL.cons .int (DatL.cons .int DatL.nil)))))))
theorem ie(r:RndV):Dat (jN r):=Dat.agg (uL r)
theorem fV(r:RndV):Dat (cJ r):=Dat.agg (yI r)
theorem rm(m:MvV):Dat (dC m):=Dat.agg (yZ m)
theorem kr(l:List RndV):Dat (bA l):=nG (λx _ c hc=>yI x c hc)
theorem vI(l:List (List RndV)):Dat (ec l):=xY (λ_=>rfl) kr
theorem kC(l:List MvV):Dat (bD l):=nG (λx _ c hc=>yZ x c hc)
theorem fG(l:List (List MvV)):Dat (aN l):=xY (λ_=>rfl) kC
theorem Ks(a:AdvV):∀x∈a.cs,Dat x:=DatL.cons .int (DatL.cons (fG _) DatL.nil)
theorem bI(a:AdvV):Dat (ce a):=Dat.agg (Ks a)
theorem DB(p:PrbV):∀x∈p.cs,Dat x:=DatL.cons .int (DatL.cons .int (DatL.cons .int (DatL.cons (gU _) (DatL.cons .int (DatL.cons (fG _) (DatL.cons .int DatL.nil))))))
theorem e9(p:PrbV):Dat (ca p):=Dat.agg (DB p)
theorem nD(v:VwV):Dat (dP v):=Dat.agg (Cv v)
theorem ky(l:List VwV):Dat (de l):=nG (λx _ c hc=>Cv x c hc)
theorem Cd(x:ExV):∀c∈x.cs,Dat c:=DatL.cons .int (DatL.cons (kr _) (DatL.cons (bS _) DatL.nil))
theorem uj(x:ExV):Dat (iH x):=Dat.agg (Cd x)
theorem xn(l:List ExV):Dat (fM l):=nG (λx _ c hc=>Cd x c hc)
theorem J7(s:SysV):∀x∈s.cs,Dat x:=DatL.cons .int (DatL.cons .int (DatL.cons .int (DatL.cons (gU _) (DatL.cons .int (DatL.cons (fG _) (DatL.cons .int (DatL.cons .int (DatL.cons (ky _) (DatL.cons (xn _) DatL.nil)))))))))
theorem gJ(s:SysV):Dat (gn s):=Dat.agg (J7 s)
instance datI_encG{r:RndV}:DatI (jN r):=⟨ie r⟩
instance datI_encR{r:RndV}:DatI (cJ r):=⟨fV r⟩
instance datI_encMv{r:MvV}:DatI (dC r):=⟨rm r⟩
instance datI_encRs{l:List RndV}:DatI (bA l):=⟨kr l⟩
instance datI_encRss{l:List (List RndV)}:DatI (ec l):=⟨vI l⟩
instance datI_encMs{l:List MvV}:DatI (bD l):=⟨kC l⟩
instance datI_encMss{l:List (List MvV)}:DatI (aN l):=⟨fG l⟩
instance datI_encA{a:AdvV}:DatI (ce a):=⟨bI a⟩
instance datI_encP{p:PrbV}:DatI (ca p):=⟨e9 p⟩
instance datI_encW{v:VwV}:DatI (dP v):=⟨nD v⟩
instance datI_encWs{l:List VwV}:DatI (de l):=⟨ky l⟩
instance datI_encE{x:ExV}:DatI (iH x):=⟨uj x⟩
instance datI_encEs{l:List ExV}:DatI (fM l):=⟨xn l⟩
instance datI_encS{s:SysV}:DatI (gn s):=⟨gJ s⟩
theorem PE:(∀l:List RndV,(bA l).cells=[bA l])/\(∀l,(ec l).cells=[ec l])/\(∀l:List MvV,(bD l).cells=[bD l])/\(∀l,(aN l).cells=[aN l])/\(∀l:List VwV,(de l).cells=[de l])/\(∀l:List ExV,(fM l).cells=[fM l])/\(∀l:List CaseV,(bu l).cells=[bu l])/\
    (∀l:List RndV,(bA l).one=true)/\(∀l,(ec l).one=true)/\(∀l:List MvV,(bD l).one=true)/\(∀l,(aN l).one=true)/\(∀l:List VwV,(de l).one=true)/\(∀l:List ExV,(fM l).one=true)/\(∀l:List CaseV,(bu l).one=true)/\
    (∀l:List RndV,eW (bA l)=some (.int .i64 l.length))/\(∀l,eW (ec l)=some (.int .i64 l.length))/\(∀l:List MvV,eW (bD l)=some (.int .i64 l.length))/\(∀l,eW (aN l)=some (.int .i64 l.length))/\(∀l:List VwV,eW (de l)=some (.int .i64 l.length))/\(∀l:List ExV,eW (fM l)=some (.int .i64 l.length))/\(∀l:List CaseV,eW (bu l)=some (.int .i64 l.length))/\
    (∀r:RndV,(cJ r).cells=r.cs)/\(∀r:RndV,(jN r).cells=r.gc)/\(∀m:MvV,(dC m).cells=m.cs)/\(∀a:AdvV,(ce a).cells=a.cs)/\(∀p:PrbV,(ca p).cells=p.cs)/\(∀v:VwV,(dP v).cells=v.cs)/\(∀x:ExV,(iH x).cells=x.cs)/\(∀s:SysV,(gn s).cells=s.cs):=
 ⟨λ_=>rfl,λ_=>rfl,λ_=>rfl,λ_=>rfl,λ_=>rfl,λ_=>rfl,λ_=>rfl,λ_=>rfl,λ_=>rfl,λ_=>rfl,λ_=>rfl,λ_=>rfl,λ_=>rfl,λ_=>rfl,λ_=>ju,λ_=>ju,λ_=>ju,λ_=>ju,λ_=>ju,λ_=>ju,λl=>aH l,λ_=>rfl,λ_=>rfl,λ_=>rfl,λ_=>rfl,λ_=>rfl,λ_=>rfl,λ_=>rfl,λ_=>rfl⟩
theorem PC:(∀r:RndV,r.cs=[.int .i64 r.n,.int .i64 r.h0,.int .i64 r.h1,.int .i64 r.h2,.int .i64 r.h3,.int .i64 r.h4,.int .i64 r.f])/\(∀r:RndV,r.gc=[.int .i64 r.n,.int .i64 r.h0,.int .i64 r.h1,.int .i64 r.h2,.int .i64 r.h3,.int .i64 r.h4])/\
    (∀m:MvV,m.cs=[.int .i64 m.r.n,.int .i64 m.r.h0,.int .i64 m.r.h1,.int .i64 m.r.h2,.int .i64 m.r.h3,.int .i64 m.r.h4,.int .i64 m.r.f,.int .i64 m.to])/\
    (∀a:AdvV,a.cs=[.int .i64 a.n,aN a.states])/\(∀p:PrbV,p.cs=[.int .i64 p.task.n,.int .i64 p.task.ins,.int .i64 p.task.outs,bu p.task.cases,.int .i64 p.adv.n,aN p.adv.states,.int .i64 p.rounds])/\
    (∀v:VwV,v.cs=[.int .i64 v.proc,.int .i64 v.round,.int .i64 v.input,.int .i64 v.h0,.int .i64 v.h1,.int .i64 v.h2,.int .i64 v.h3,.int .i64 v.h4])/\(∀x:ExV,x.cs=[.int .i64 x.case,bA x.word,ay x.views])/\
    (∀s:SysV,s.cs=[.int .i64 s.prob.task.n,.int .i64 s.prob.task.ins,.int .i64 s.prob.task.outs,bu s.prob.task.cases,.int .i64 s.prob.adv.n,aN s.prob.adv.states,.int .i64 s.prob.rounds,.int .i64 s.tn,de s.views,fM s.execs]):=
 ⟨λ_=>rfl,λ_=>rfl,λ_=>rfl,λ_=>rfl,λ_=>rfl,λ_=>rfl,λ_=>rfl,λ_=>rfl⟩
theorem ixR{l:List RndV}{k:Nat}(h:k<l.length):d9 7 (bA l) (.int .i64 (k:Int))=some (.iptr (l.getD k default).cs 0):=by
 unfold bA;rw[jl,if_pos ⟨by omega,by omega⟩,cK];rfl
theorem Me{l:List (List RndV)}{k:Nat}(h:k<l.length):d9 1 (ec l) (.int .i64 (k:Int))=some (.iptr [bA (l.getD k default)] 0):=by
 unfold ec;rw[jl,if_pos ⟨by omega,by omega⟩,cK];rfl
theorem ixM{l:List MvV}{k:Nat}(h:k<l.length):d9 8 (bD l) (.int .i64 (k:Int))=some (.iptr (l.getD k default).cs 0):=by
 unfold bD;rw[jl,if_pos ⟨by omega,by omega⟩,cK];rfl
theorem tA{l:List (List MvV)}{k:Nat}(h:k<l.length):d9 1 (aN l) (.int .i64 (k:Int))=some (.iptr [bD (l.getD k default)] 0):=by
 unfold aN;rw[jl,if_pos ⟨by omega,by omega⟩,cK];rfl
theorem KT{l:List (List MvV)}{n:Int}(h:0<=n/\n<l.length):d9 1 (aN l) (.int .i64 n)=some (.iptr [bD (l.getD n.toNat default)] 0):=by
 unfold aN;rw[jl,if_pos h];rfl
theorem ixW{l:List VwV}{k:Nat}(h:k<l.length):d9 8 (de l) (.int .i64 (k:Int))=some (.iptr (l.getD k default).cs 0):=by
 unfold de;rw[jl,if_pos ⟨by omega,by omega⟩,cK];rfl
theorem ixE{l:List ExV}{k:Nat}(h:k<l.length):d9 3 (fM l) (.int .i64 (k:Int))=some (.iptr (l.getD k default).cs 0):=by
 unfold fM;rw[jl,if_pos ⟨by omega,by omega⟩,cK];rfl
def AdvV.st(a:AdvV)(s:Nat):List MvV:=a.states.getD s []
def be(a:AdvV):Nat->Nat->List (List RndV)
 |0,_=>[[]]
 |k+1,s=>(a.st s).flatMap λm=>(be a k m.to.toNat).map λw=>m.r::w
def te(lim:Int)(c:List Int)(l:List MvV):Int:=l.foldl (λn m=>min (n+c.getD m.to.toNat 0) (lim+1)) 0
def gv(a:AdvV)(lim:Int):Nat->List Int
 |0=>a.states.map λ_=>1
 |k+1=>a.states.map λl=>te lim (gv a lim k) l
def lP(a:AdvV)(k:Nat)(lim:Int):Int:=(gv a lim k).getD 0 0
def jx(vs:List VwV)(v:VwV):List VwV:=if v∈vs then vs else vs++[v]
def eC(f:Nat->VwV):Nat->List VwV->List VwV
 |0,vs=>vs
 |q+1,vs=>jx (eC f q vs) (f q)
def eL(f:Nat->VwV):Nat->List VwV->List Int
 |0,_=>[]
 |q+1,vs=>eL f q vs++[(((eC f (q+1) vs).idxOf (f q):Nat):Int)]
def hasFl(f:Int)(p:Nat):Bool:=decide (f/((2^p:Nat):Int)%2=1)
def hrd(set:Int)(now:List Int)(q:Nat):Int:=if q<now.length/\hasFl set q=true then now.getD q 0 else-1
def iZ(inp:List Int)(q:Nat):VwV:=⟨q,0,inp.getD q 0,-1,-1,-1,-1,-1⟩
def ii(r:RndV)(k:Nat)(now:List Int)(q:Nat):VwV:=⟨q,k,0,hrd (r.hs.getD q 0) now 0,hrd (r.hs.getD q 0) now 1,hrd (r.hs.getD q 0) now 2,hrd (r.hs.getD q 0) now 3,hrd (r.hs.getD q 0) now 4⟩
def GL(n:Nat)(inp:List Int)(w:List RndV)(vs:List VwV):Nat->List VwV×List (List Int)
 |0=>(eC (iZ inp) n vs,[eL (iZ inp) n vs])
 |k+1=>
  let s:=GL n inp w vs k
  let f:=ii (w.getD k default) (k+1) (s.2.getD k [])
  (eC f n s.1,s.2++[eL f n s.1])
structure BldS where
 views:List VwV
 execs:List ExV
def qA(p:PrbV)(c:Nat)(s:BldS)(w:List RndV):BldS:=
 let q:=GL p.task.n.toNat (p.task.cases.getD c default).inp w s.views p.rounds.toNat
 ⟨q.1,s.execs++[⟨c,w,q.2⟩]⟩
def C8(p:PrbV)(s:BldS)(c:Nat):BldS:=(be p.adv p.rounds.toNat 0).foldl (qA p c) s
def bldS(p:PrbV)(c:Nat):BldS:=(List.range c).foldl (C8 p) ⟨[],[]⟩
def bg(p:PrbV):SysV:=⟨p,p.task.n,(bldS p p.task.cases.length).views,(bldS p p.task.cases.length).execs⟩
def CQ(a:AdvV):Prop:=∀l∈a.states,∀m∈l,0<=m.to/\m.to<a.states.length
theorem iQ{α:Type}[Inhabited α]{l:List (List α)}{s:Nat}(h:s<l.length):l.getD s []∈l:=by
 simp[List.getD,h]
theorem Bn{L:Int}{c:List Int}{w:MvV->Nat}(hL:1<=L):∀(l:List MvV)(n0:Nat),(∀m∈l,c.getD m.to.toNat 0=min (w m:Int) L)->
    l.foldl (λn m=>min (n+c.getD m.to.toNat 0) L) (min (n0:Int) L)=min ((n0+(l.map w).sum:Nat):Int) L
 |[],n0,_=>by simp
 |m::l,n0,h=>by
  have h1:=h m (iE ..);have e:min (min (n0:Int) L+min (w m:Int) L) L=min ((n0+w m:Nat):Int) L:=by omega
  rw[List.foldl_cons,h1,e,Bn hL l (n0+w m) λm hm=>h m (qk _ hm),fY,List.sum_cons]
  congr 2;omega
theorem xK{a:AdvV}{k s:Nat}:(be a (k+1) s).length=((a.st s).map λm=>(be a k m.to.toNat).length).sum:=by
 rw[be,List.length_flatMap]
 congr 1
 refine pz λm _=>?_;rw[bj]
theorem ue{a:AdvV}{lim:Int}:∀k,(gv a lim k).length=a.states.length
 |0=>by simp[gv]
 |k+1=>by simp[gv]
theorem DA{a:AdvV}(h:CQ a){lim:Int}(hL:0<=lim):∀(k s:Nat),s<a.states.length->(gv a lim k).getD s 0=min ((be a k s).length:Int) (lim+1)
 |0,s,hs=>by
  simp only[gv,be,mY,kf,mB hs,nw,tw,List.length_singleton];omega
 |k+1,s,hs=>by
  have e:(gv a lim (k+1)).getD s 0=te lim (gv a lim k) (a.st s):=by
   unfold AdvV.st;simp only[gv,mY,kf,mB hs,nw,tw]
  rw[e,xK]
  have:=Bn (L:=lim+1) (c:=gv a lim k) (w:=λm=>(be a k m.to.toNat).length) (by omega) (a.st s) 0 λm hm=>by
   have:=h _ (iQ hs) m hm;exact DA h hL k _ (by omega)
  unfold te;rw[show min ((0:Nat):Int) (lim+1)=0 by omega] at this;rw[this,dt]
theorem tP{a:AdvV}(h:CQ a)(h0:0<a.states.length){lim:Int}(hL:0<=lim)(k:Nat):lP a k lim=min ((be a k 0).length:Int) (lim+1):=DA h hL k 0 h0
theorem jU{a:AdvV}:∀{k s:Nat}{w:List RndV},w∈be a k s->w.length=k
 |0,s,w,h=>by rw[be,fX] at h;rw[h];rfl
 |k+1,s,w,h=>by
  rw[be,List.mem_flatMap] at h;obtain⟨m,_,h⟩:=h;obtain⟨v,hv,rfl⟩:=cC.1 h;rw[il,jU hv]
theorem qN{a:AdvV}:∀{k s:Nat}{w:List RndV},w∈be a k s->∀r∈w,∃l∈a.states,∃m∈l,m.r=r
 |0,s,w,h,r,hr=>by rw[be,fX] at h;subst h;cases hr
 |k+1,s,w,h,r,hr=>by
  rw[be,List.mem_flatMap] at h;obtain⟨m,hm,h⟩:=h;obtain⟨v,hv,rfl⟩:=cC.1 h;rcases gV.1 hr with rfl|hr
  ·unfold AdvV.st at hm;by_cases hs:s<a.states.length
   ·exact⟨_,iQ hs,m,hm,rfl⟩
   ·rw[show a.states.getD s []=[] by simp[List.getD,show a.states.length<=s by omega]] at hm;cases hm
  ·exact qN hv r hr
theorem sA{a:AdvV}(h:CQ a)(hn:∀l∈a.states,l≠[]):∀(k s:Nat),s<a.states.length->be a k s≠[]
 |0,s,_=>by simp[be]
 |k+1,s,hs=>by
  rw[be];have h1:a.st s∈a.states:=iQ hs;cases e:a.st s with
  |nil=>exact absurd e (hn _ h1)
  |cons m l=>
   have:=h _ h1 m (by rw[e];exact iE ..);have:=sA h hn k m.to.toNat (by omega);rw[lk];intro q;rw[List.append_eq_nil_iff,List.map_eq_nil_iff] at q;exact this q.1
theorem Gf{vs:List VwV}{v x:VwV}:x∈jx vs v↔x∈vs\/x=v:=by
 unfold jx;split
 ·rename_i h;exact⟨.inl,λq=>q.elim id λq=>q▸h⟩
 ·rw[mL,fX]
theorem Al(vs:List VwV)(v:VwV):∃r,jx vs v=vs++r:=by
 unfold jx;split
 ·exact⟨[],(jc _).symm⟩
 ·exact⟨[v],rfl⟩
theorem Hu(vs:List VwV)(v:VwV):(jx vs v).length<=vs.length+1:=by
 unfold jx;split
 ·omega
 ·rw[cQ];exact bd _
theorem vM(f:Nat->VwV):∀(q:Nat)(vs:List VwV),∃r,eC f q vs=vs++r
 |0,vs=>⟨[],(jc _).symm⟩
 |q+1,vs=>by
  obtain⟨r,hr⟩:=vM f q vs;obtain⟨r2,hr2⟩:=Al (eC f q vs) (f q);exact⟨r++r2,by rw[eC,hr2,hr,iw]⟩
theorem mi(f:Nat->VwV):∀(q:Nat)(vs:List VwV),(eC f q vs).length<=vs.length+q
 |0,_=>bd _
 |q+1,vs=>by
  have:=Hu (eC f q vs) (f q);have:=mi f q vs;rw[eC];omega
theorem uI(f:Nat->VwV):∀{q:Nat}{vs:List VwV}{i:Nat},i<q->f i∈eC f q vs
 |q+1,vs,i,h=>by
  rw[eC,Gf];by_cases e:i=q
  ·exact .inr (by rw[e])
  ·exact .inl (uI f (by omega))
theorem fQ(f:Nat->VwV):∀(q:Nat)(vs:List VwV),(eL f q vs).length=q
 |0,_=>rfl
 |q+1,vs=>by rw[eL,cQ,fQ f q vs];rfl
theorem xw{l r:List VwV}{v:VwV}(h:v∈l):(l++r).idxOf v=l.idxOf v:=by rw[List.idxOf_append,if_pos h]
theorem DV(f:Nat->VwV):∀{q:Nat}{vs:List VwV}{i:Nat},i<q->(eL f q vs).getD i 0=((eC f q vs).idxOf (f i):Nat)
 |q+1,vs,i,h=>by
  rw[eL];by_cases e:i=q
  ·subst e;have:=fQ f i vs;simp[List.getD,ia,this]
  ·have hl:=fQ f q vs;have hm:=uI f (vs:=vs) (show i<q by omega);obtain⟨r,hr⟩:=Al (eC f q vs) (f q);rw[show eC f (q+1) vs=eC f q vs++r from hr,xw hm,<-DV f (show i<q by omega)];simp[List.getD,fT (show i<(eL f q vs).length by omega)]
theorem IX:(∀(T:Tm)(H:Hp)(len sz:Nat)(x i:Opd),bw T H (.ixaA len sz x i)=ny (ov T i) λn=>if 0<=n/\n<len then jk (n.toNat*sz) (ov T x) else none)/\(∀(T:Tm)(H:Hp)(len sz:Nat)(x i:Opd),bw T H (.ixA1 len sz x i)=eF (ov T x) λcs=>ny (ov T i) λn=>if 0<=n/\n<len then cs[n.toNat*sz]? else none)/\
    (∀(k:IntKind)(n:Int)(f:Int->Option AV),ny (.int k n) f=f n)/\(∀(cs:List AV)(f:List AV->Option AV),eF (.agg cs) f=f cs):=⟨λ_ _ _ _ _ _=>rfl,λ_ _ _ _ _ _=>rfl,λ_ _ _=>rfl,λ_ _=>rfl⟩
theorem w9{a:Nat}:tz (a:Int)=((a%2:Nat):Int):=by
 have h:(BitVec.ofInt 64 (a:Int) &&& BitVec.ofInt 64 1).toNat=a%2:=by
  rw[BitVec.toNat_and];have e:(BitVec.ofInt 64 1).toNat=2^1-1:=rfl;rw[e,Nat.and_two_pow_sub_one_eq_mod];simp[BitVec.toNat_ofInt]
 unfold tz;rw[h,i9 (by omega) (by omega)]
def pw(n:Int):Int:=((2^n.toNat:Nat):Int)
def mC(r:RndV)(p:Nat):Int:=if r.n<=p then(if r.hs.getD p 0=0 then 0 else 3) else if r.hs.getD p 0<0\/pw r.n-1<r.hs.getD p 0 then 2 else if hasFl (r.hs.getD p 0) p=true then 0 else 3
def jX(r:RndV):Int:=if r.n<1\/5<r.n then 2 else bU (mC r) 5
def GX(n f:Int):Int:=if n<1\/5<n then 1 else if f<0\/pw n<=f then 2 else 0
def gp(r:RndV):Int:=if jX r≠0 then jX r else GX r.n r.f
theorem rn{n:Int}{k:Nat}(h:n=k):pw n=((2^k:Nat):Int):=by subst h;rfl
theorem yV{n:Int}(h:n<=5):1<=pw n/\pw n<=32:=by
 unfold pw;have h1:2^n.toNat<=2^5:=Nat.pow_le_pow_right (by omega) (by omega);have h2:0<2^n.toNat:=Nat.pow_pos (by omega);omega
theorem mO(r:RndV){q:Nat}(h:q<5):([.int .i64 r.n,.int .i64 r.h0,.int .i64 r.h1,.int .i64 r.h2,.int .i64 r.h3,.int .i64 r.h4]:List AV)[1+q]?=some (.int .i64 (r.hs.getD q 0)):=by
 rcases(by omega:q=0\/q=1\/q=2\/q=3\/q=4) with rfl|rfl|rfl|rfl|rfl<;>rfl
theorem Hh(r:RndV){q:Nat}(h:q<5):([.int .i64 r.h0,.int .i64 r.h1,.int .i64 r.h2,.int .i64 r.h3,.int .i64 r.h4]:List AV)[q]?=some (.int .i64 (r.hs.getD q 0)):=by
 rcases(by omega:q=0\/q=1\/q=2\/q=3\/q=4) with rfl|rfl|rfl|rfl|rfl<;>rfl
def RndV.gi(r:RndV):List Int:=[r.n,r.h0,r.h1,r.h2,r.h3,r.h4]
theorem mq {r s:RndV}:r.ints=s.ints ↔ r=s:=⟨fun h=>by
 obtain⟨a,b,c,d,e,f,g⟩:=r;obtain⟨a',b',c',d',e',f',g'⟩:=s;simp only[RndV.ints,List.cons.injEq,and_true] at h;obtain⟨rfl,rfl,rfl,rfl,rfl,rfl,rfl⟩:=h;rfl,λh=>h▸rfl⟩
theorem tJ(r:RndV):r.ints=r.gi++[r.f]:=rfl
theorem rJ:∀{l m:List Int}(a b:List Int),l.length=m.length->aD (l++a) (m++b)=if aD l m≠0 then aD l m else aD a b
 |[],[],a,b,_=>by simp[aD]
 |[],_::_,_,_,h=>by cases h
 |_::_,[],_,_,h=>by cases h
 |x::l,y::m,a,b,h=>by
  rw[List.cons_append,List.cons_append,aD,aD];split
  ·rfl
  ·split
   ·rfl
   ·exact rJ a b (by simpa using h)
theorem n8:∀{l m:List Int}{q:Nat},q<l.length->q<m.length->(∀i,i<q->l.getD i 0=m.getD i 0)->l.getD q 0≠m.getD q 0->aD l m=if l.getD q 0<m.getD q 0 then-1 else 1
 |x::l,y::m,0,_,_,_,h=>by
  have h:x≠y:=h;show aD (x::l) (y::m)=if x<y then-1 else 1
  rw[aD];split
  ·rfl
  ·rw[if_pos (by omega)]
 |x::l,y::m,q+1,h1,h2,h3,h=>by
  have e:x=y:=h3 0 (by omega);subst e;rw[aD,if_neg (by omega),if_neg (by omega)];exact n8 (l:=l) (m:=m) (q:=q) (by simpa using h1) (by simpa using h2) (λi hi=>h3 (i+1) (by omega)) h
theorem zu:∀{l m:List Int},l.length=m.length->(∀i,i<l.length->l.getD i 0=m.getD i 0)->aD l m=0
 |[],[],_,_=>rfl
 |[],_::_,h,_=>by cases h
 |_::_,[],h,_=>by cases h
 |x::l,y::m,h,h2=>by
  have e:x=y:=h2 0 (by simp);subst e;rw[aD,if_neg (by omega),if_neg (by omega)];exact zu (by simpa using h) λi hi=>h2 (i+1) (by simpa using hi)
theorem mw:∀(l m:List Int),l.length=m.length->dY (List.replicate l.length .int) (l.map (AV.int .i64)) (m.map (AV.int .i64))=some (decide (l=m))
 |[],[],_=>by simp[dY]
 |[],_::_,h=>by cases h
 |_::_,[],h=>by cases h
 |x::l,y::m,h=>by
  have ih:=mw l m (by simpa using h);simp only[il,List.replicate_succ,fY,dY,mh,if_true];by_cases e:x=y
  ·subst e;simp[ih]
  ·have:(x==y)=false:=by simpa using e
   rw[this];simp[e]
theorem EQ:(∀a b c d e f a' b' c' d' e' f':Int,j4 .eql [.int,.int,.int,.int,.int,.int] [.int .i64 a,.int .i64 b,.int .i64 c,.int .i64 d,.int .i64 e,.int .i64 f] [.int .i64 a',.int .i64 b',.int .i64 c',.int .i64 d',.int .i64 e',.int .i64 f']=some (.bool (decide ([a,b,c,d,e,f]=[a',b',c',d',e',f']))))/\
    (∀a b c d e f a' b' c' d' e' f':Int,j4 .neq [.int,.int,.int,.int,.int,.int] [.int .i64 a,.int .i64 b,.int .i64 c,.int .i64 d,.int .i64 e,.int .i64 f] [.int .i64 a',.int .i64 b',.int .i64 c',.int .i64 d',.int .i64 e',.int .i64 f']=some (.bool (!decide ([a,b,c,d,e,f]=[a',b',c',d',e',f']))))/\
    (∀a b c d e f g a' b' c' d' e' f' g':Int,j4 .eql [.int,.int,.int,.int,.int,.int,.int] [.int .i64 a,.int .i64 b,.int .i64 c,.int .i64 d,.int .i64 e,.int .i64 f,.int .i64 g] [.int .i64 a',.int .i64 b',.int .i64 c',.int .i64 d',.int .i64 e',.int .i64 f',.int .i64 g']=some (.bool (decide ([a,b,c,d,e,f,g]=[a',b',c',d',e',f',g']))))/\
    (∀a b c d e f g a' b' c' d' e' f' g':Int,j4 .neq [.int,.int,.int,.int,.int,.int,.int] [.int .i64 a,.int .i64 b,.int .i64 c,.int .i64 d,.int .i64 e,.int .i64 f,.int .i64 g] [.int .i64 a',.int .i64 b',.int .i64 c',.int .i64 d',.int .i64 e',.int .i64 f',.int .i64 g']=some (.bool (!decide ([a,b,c,d,e,f,g]=[a',b',c',d',e',f',g']))))/\
    (∀a b c d e f g h a' b' c' d' e' f' g' h':Int,j4 .eql [.int,.int,.int,.int,.int,.int,.int,.int] [.int .i64 a,.int .i64 b,.int .i64 c,.int .i64 d,.int .i64 e,.int .i64 f,.int .i64 g,.int .i64 h] [.int .i64 a',.int .i64 b',.int .i64 c',.int .i64 d',.int .i64 e',.int .i64 f',.int .i64 g',.int .i64 h']=some (.bool (decide ([a,b,c,d,e,f,g,h]=[a',b',c',d',e',f',g',h']))))/\
    (∀a b c d e f g h a' b' c' d' e' f' g' h':Int,j4 .neq [.int,.int,.int,.int,.int,.int,.int,.int] [.int .i64 a,.int .i64 b,.int .i64 c,.int .i64 d,.int .i64 e,.int .i64 f,.int .i64 g,.int .i64 h] [.int .i64 a',.int .i64 b',.int .i64 c',.int .i64 d',.int .i64 e',.int .i64 f',.int .i64 g',.int .i64 h']=some (.bool (!decide ([a,b,c,d,e,f,g,h]=[a',b',c',d',e',f',g',h'])))):=by
 have key:∀l m:List Int,l.length=m.length->j4 .eql (List.replicate l.length .int) (l.map (AV.int .i64)) (m.map (AV.int .i64))=some (.bool (decide (l=m)))/\j4 .neq (List.replicate l.length .int) (l.map (AV.int .i64)) (m.map (AV.int .i64))=some (.bool (!decide (l=m))):=λl m h=>by
  unfold j4;rw[mw l m h];exact⟨rfl,rfl⟩
 exact⟨λa b c d e f a' b' c' d' e' f'=>(key [a,b,c,d,e,f] [a',b',c',d',e',f'] rfl).1,λa b c d e f a' b' c' d' e' f'=>(key [a,b,c,d,e,f] [a',b',c',d',e',f'] rfl).2,λa b c d e f g a' b' c' d' e' f' g'=>(key [a,b,c,d,e,f,g] [a',b',c',d',e',f',g'] rfl).1,λa b c d e f g a' b' c' d' e' f' g'=>(key [a,b,c,d,e,f,g] [a',b',c',d',e',f',g'] rfl).2,λa b c d e f g h a' b' c' d' e' f' g' h'=>(key [a,b,c,d,e,f,g,h] [a',b',c',d',e',f',g',h'] rfl).1,λa b c d e f g h a' b' c' d' e' f' g' h'=>(key [a,b,c,d,e,f,g,h] [a',b',c',d',e',f',g',h'] rfl).2⟩
def dn(l:List (List MvV)):Nat:=(l.map List.length).sum
def nq(a:AdvV)(l:List MvV)(i:Nat):Int:=
 if gp (l.getD i default).r≠0 then gp (l.getD i default).r else if (l.getD i default).r.n≠a.n then 22
 else if 0<i/\0<=aD (l.getD (i-1) default).r.ints (l.getD i default).r.ints then 14 else if (l.getD i default).to<0\/(a.states.length:Int)<=(l.getD i default).to then 2 else 0
def fq(a:AdvV)(s:Nat):Int:=if (a.st s).length=0 then 19 else bU (nq a (a.st s)) (a.st s).length
def iW(a b:Int):Bool:=(List.range 5).all λp=>!hasFl a p || hasFl b p
def oH(a:AdvV)(m:MvV):Bool:=(a.st m.to.toNat).all λk=>iW m.r.f k.r.f
def j3(a:AdvV):Bool:=a.states.all λl=>l.all (oH a)
def tx(a:AdvV):Int:=if a.n<1\/5<a.n then 2 else if a.states.length<1\/256<a.states.length\/4096<dn a.states then 5 else if bU (fq a) a.states.length≠0 then bU (fq a) a.states.length else if j3 a=true then 0 else 21
def yr(a:AdvV):Bool:=decide (a.states.length<=8)&&decide (dn a.states<=40)
theorem sL{l:List (List MvV)}{k:Nat}(h:k<l.length):dn (l.take (k+1))=dn (l.take k)+(l.getD k default).length:=by
 unfold dn;rw[cT h,dv,List.sum_append];simp
theorem xl:∀{l:List (List MvV)}{B:Nat},(∀x∈l,x.length<=B)->dn l<=l.length*B
 |[],_,_=>by simp[dn]
 |x::l,B,h=>by
  have h1:=xl (l:=l) λy hy=>h y (qk _ hy);have h2:=h x (iE ..);unfold dn at h1 |-;rw[fY,List.sum_cons,il,eh,Nat.one_mul];omega
theorem jA:∀{l:List (List MvV)}{x:List MvV},x∈l->x.length<=dn l
 |y::l,x,h=>by
  unfold dn;rw[fY,List.sum_cons];rcases gV.1 h with rfl|h
  ·omega
  ·have:=jA (l:=l) h;unfold dn at this;omega
structure ShA(a:AdvV):Prop where
 len:a.states.length<=8
 each:∀l∈a.states,l.length<=17592186044416
theorem Br{f:Nat->Int}{n k:Nat}(h1:k<n)(h2:∀i,i<k->f i=0){c:Int}(h3:f k=c)(h4:c≠0):bU f n=c:=by
 rw[dE h1 h2 (by rw[h3];exact h4),h3]
theorem Ia{f:Nat->Int}{k:Nat}(h2:∀i,i<k->f i=0)(h3:f k=0):∀i,i<k+1->f i=0:=λi hi=>by
 rcases lJ.1 hi with h|rfl
 ·exact h2 i h
 ·exact h3
theorem i4{r:RndV}(h:jX r=0):1<=r.n/\r.n<=5/\∀p:Nat,p<5->(r.n<=p->r.hs.getD p 0=0)/\((p:Int)<r.n->0<=r.hs.getD p 0/\r.hs.getD p 0<pw r.n/\hasFl (r.hs.getD p 0) p=true):=by
 unfold jX at h;by_cases hn:r.n<1\/5<r.n
 ·rw[if_pos hn] at h;exact absurd h (by decide)
 rw[if_neg hn] at h;refine⟨by omega,by omega,λp hp=>?_⟩;have hz:=dL h p hp;unfold mC at hz;constructor
 ·intro hle;rw[if_pos hle] at hz;by_cases h0:r.hs.getD p 0=0
  ·exact h0
  ·rw[if_neg h0] at hz;exact absurd hz (by decide)
 ·intro hlt;rw[if_neg (by omega)] at hz;by_cases hx:r.hs.getD p 0<0\/pw r.n-1<r.hs.getD p 0
  ·rw[if_pos hx] at hz;exact absurd hz (by decide)
  rw[if_neg hx] at hz;by_cases hb:hasFl (r.hs.getD p 0) p=true
  ·exact⟨by omega,by omega,hb⟩
  ·rw[if_neg hb] at hz;exact absurd hz (by decide)
theorem eX{r:RndV}(h:gp r=0):jX r=0/\0<=r.f/\r.f<pw r.n:=by
 unfold gp at h;by_cases hg:jX r=0
 ·rw[if_neg (by omega)] at h;obtain⟨h1,h2,-⟩:=i4 hg;unfold GX at h;rw[if_neg (by omega)] at h;by_cases hx:r.f<0\/pw r.n<=r.f
  ·rw[if_pos hx] at h;exact absurd h (by decide)
  ·exact⟨hg,by omega,by omega⟩
 ·rw[if_pos hg] at h;exact absurd h hg
structure MvOk(a:AdvV)(m:MvV):Prop where
 r:gp m.r=0
 n:m.r.n=a.n
 to0:0<=m.to
 to1:m.to<a.states.length
theorem Eb{a:AdvV}{l:List MvV}{i:Nat}(h:nq a l i=0):MvOk a (l.getD i default)/\(0<i->aD (l.getD (i-1) default).r.ints (l.getD i default).r.ints<0):=by
 unfold nq at h;split at h
 ·rename_i q;exact absurd h q
 split at h
 ·exact absurd h (by decide)
 split at h
 ·exact absurd h (by decide)
 split at h
 ·exact absurd h (by decide)
 exact⟨⟨by omega,by omega,by omega,by omega⟩,λq=>by omega⟩
structure AdvOk(a:AdvV):Prop where
 n1:1<=a.n
 n5:a.n<=5
 s1:1<=a.states.length
 s256:a.states.length<=256
 m4096:dn a.states<=4096
 ne:∀l∈a.states,l≠[]
 mv:∀l∈a.states,∀m∈l,MvOk a m
 asc:∀l∈a.states,∀i,0<i->i<l.length->aD (l.getD (i-1) default).r.ints (l.getD i default).r.ints<0
 grow:j3 a=true
theorem AW{a:AdvV}{s:Nat}(h:fq a s=0):a.st s≠[]/\(∀m∈a.st s,MvOk a m)/\∀i,0<i->i<(a.st s).length->aD ((a.st s).getD (i-1) default).r.ints ((a.st s).getD i default).r.ints<0:=by
 unfold fq at h;split at h
 ·exact absurd h (by decide)
 rename_i hl;refine⟨λq=>hl (by rw[q];rfl),λm hm=>?_,λi h0 hi=>(Eb (dL h i hi)).2 h0⟩;obtain⟨i,hi,rfl⟩:=fS hm;have:=(Eb (dL h i hi)).1
 rwa [show(a.st s).getD i default=(a.st s)[i] by simp[List.getD,hi]] at this
theorem L7{a:AdvV}(h:tx a=0):AdvOk a:=by
 unfold tx at h;split at h
 ·exact absurd h (by decide)
 split at h
 ·exact absurd h (by decide)
 split at h
 ·rename_i q;exact absurd h q
 split at h
 rotate_left
 ·exact absurd h (by decide)
 rename_i h1 h2 h3 h4
 have hs:∀l∈a.states,∃s,s<a.states.length/\a.st s=l:=λl hl=>by
  obtain⟨s,hs,rfl⟩:=fS hl;exact⟨s,hs,by simp[AdvV.st,List.getD,hs]⟩
 have hz:∀s,s<a.states.length->fq a s=0:=λs hs=>dL (by omega) s hs;refine⟨by omega,by omega,by omega,by omega,by omega,λl hl=>?_,λl hl=>?_,λl hl=>?_,h4⟩
 all_goals
  obtain⟨s,s1,rfl⟩:=hs l hl;have:=AW (hz s s1)
 ·exact this.1
 ·exact this.2.1
 ·exact this.2.2
theorem fF{a:AdvV}{s:Nat}(h:s<a.states.length):a.st s∈a.states:=iQ h
theorem nI{a:AdvV}{s:Nat}:a.states.getD s default=a.st s:=rfl
theorem D9{H:Hp}{sz:Nat}{s d:AV}{cs:List AV}(h:Row H sz s cs)(hs:∀H',Row H' sz s cs->Snap H' s d):∃Hf H',Fz Hf H H'/\Snap Hf s d/\∀x,bk s≠some x->H' x=H x:=by
 cases h with
 |nil=>exact⟨aQ,H,Fz.none,hs _ .nil,λ_ _=>rfl⟩
 |box b len cs hb hl=>exact⟨only b cs,dw H b,Fz.one hb,hs _ (.box b len cs ez hl),λx hx=>bQ (λe=>hx (by rw[e];rfl))⟩
theorem jp{l:List Int}{i:Nat}(h:i<l.length):l.getD i 0∈l:=by
 rw[show l.getD i 0=l[i] by simp[List.getD,h]];exact mo h
theorem zR{l:List Int}{n:Int}(h0:0<=n)(h:n<l.length):d9 1 (aq l) (.int .i64 n)=some (.iptr [.int .i64 (l.getD n.toNat 0)] 0):=by
 rw[rp,if_pos ⟨h0,h⟩];simp[List.getD,show n.toNat<l.length by omega]
def wI(lim:Int)(c:List Int)(l:List MvV)(i:Nat):Int:=te lim c (l.take i)
theorem xp{lim:Int}{c:List Int}{l:List MvV}{i:Nat}(h:i<l.length):wI lim c l (i+1)=min (wI lim c l i+c.getD (l.getD i default).to.toNat 0) (lim+1):=by
 unfold wI te;rw[cT h,List.foldl_append];rfl
theorem AZ{lim:Int}{c:List Int}{l:List MvV}:wI lim c l l.length=te lim c l:=by unfold wI;rw[List.take_length]
theorem zt{lim:Int}(hl:0<=lim){c:List Int}(hc:∀x∈c,0<=x/\x<=lim+1)(l:List MvV):∀i,i<=l.length->0<=wI lim c l i/\wI lim c l i<=lim+1
 |0,_=>by show 0<=(0:Int)/\(0:Int)<=lim+1;omega
 |i+1,hi=>by
  have h1:=zt hl hc l i (by omega);rw[xp (by omega)]
  have h2:0<=c.getD (l.getD i default).to.toNat 0:=by
   by_cases hb:(l.getD i default).to.toNat<c.length
   ·exact(hc _ (jp hb)).1
   ·rw[mY,List.getElem?_eq_none (by omega)];exact Int.le_refl _
  omega
theorem tN{a:AdvV}{lim:Int}(hl:0<=lim):∀(k:Nat),∀x∈gv a lim k,0<=x/\x<=lim+1
 |0,x,hx=>by
  obtain⟨_,_,rfl⟩:=cC.1 hx;omega
 |k+1,x,hx=>by
  obtain⟨l,_,rfl⟩:=cC.1 hx;have:=zt hl (tN (a:=a) hl k) l l.length (bd _)
  rwa [AZ] at this
theorem G5{a:AdvV}{lim:Int}{k s:Nat}(h:s<a.states.length):(gv a lim (k+1)).getD s default=te lim (gv a lim k) (a.st s):=by
 simp only[gv,AdvV.st,mY,kf,mB h,nw,tw]
def cL{α:Type}(f:α->AV)(l:List α):List AV:=l.flatMap λx=>(f x).cells
theorem eR{α:Type}{f:α->AV}(l m:List α):cL f (l++m)=cL f l++cL f m:=List.flatMap_append
theorem mG{α:Type}{f:α->AV}(x:α):cL f [x]=(f x).cells:=by unfold cL;simp
theorem CG{α:Type}{f:α->AV}(l:List α):(l.map f).flatMap AV.cells=cL f l:=by
 induction l with
 |nil=>rfl
 |cons a l ih=>rw[fY,lk,ih];rfl
theorem eu{α:Type}{f:α->AV}{sz:Nat}(h:∀x,(f x).cells.length=sz)(l:List α):(cL f l).length=l.length*sz:=by
 induction l with
 |nil=>simp[cL]
 |cons a l ih=>rw[show cL f (a::l)=(f a).cells++cL f l from rfl,cQ,ih,h,il,eh];omega
theorem tK{α:Type}{f:α->AV}(h:∀x,AV.ones (f x).cells=true)(l:List α):AV.ones (cL f l)=true:=by
 unfold AV.ones;rw[dS];intro x hx;obtain⟨v,_,hv⟩:=List.mem_flatMap.1 hx;exact dS.1 (h v) x hv
theorem rE{α:Type}{f:α->AV}{sz:Nat}(hz:0<sz)(hc:∀x,(f x).cells.length=sz)(hd:∀x,∀c∈(f x).cells,Dat c){H:Hp}{s:AV}{l:List α}(h:Row H sz s (cL f l)):Snap H s (kZ sz f l):=by
 refine Row.snap (elems:=l.map f) (by rw[CG];exact h) (λy hy=>?_) hz (λy hy c hx=>?_)
 ·obtain⟨n,_,rfl⟩:=cC.1 hy;exact hc n
 ·obtain⟨n,_,rfl⟩:=cC.1 hy;exact hd n c hx
theorem uN{α:Type}{f:α->AV}{sz:Nat}{H:Hp}{l:List α}:ef sz H (kZ sz f l)=some (l.length,cL f l):=by
 unfold kZ;rw[kd,CG];simp
theorem jO{H:Hp}{sz:Nat}{s:AV}{cs:List AV}(h:Row H sz s cs)(hn:cs≠[]):∃b len,s=.msl b (len*sz) sz 0 len/\H b=some cs/\cs.length=len*sz:=by
 cases h with
 |nil=>exact absurd rfl hn
 |box b len cs h1 h2=>exact⟨b,len,rfl,h1,h2⟩
theorem BZ{H:Hp}{s:AV}{l:List RndV}(h:Row H 7 s (cL cJ l)):Snap H s (bA l):=rE (f:=cJ) (by omega) (λ_=>rfl) (λx=>yI x) h
theorem Dk{H:Hp}{s:AV}{l:List (List RndV)}(h:Row H 1 s (l.map bA)):Snap H s (ec l):=h.snapL' (λ_=>rfl) (λx _=>kr x)
theorem yz(l:List RndV):(cL cJ l).length=l.length*7:=eu (f:=cJ) (λ_=>rfl) l
theorem yi(l:List RndV):AV.ones (cL cJ l)=true:=tK (f:=cJ) (λ_=>rfl) l
theorem DK:∀{l:List Nat}{x:Nat},x∈l->x<=l.sum
 |y::l,x,h=>by
  rw[List.sum_cons];rcases gV.1 h with rfl|h
  ·omega
  ·have:=DK h;omega
def lU(p:PrbV):Int:=if a8 p.task≠0 then a8 p.task else if tx p.adv≠0 then tx p.adv else if p.task.n≠p.adv.n then 22 else if p.rounds<0\/6<p.rounds then 2 else 0
def px(p:PrbV)(lim:Int):Int:=(p.task.cases.length:Int)*lP p.adv p.rounds.toNat lim
def CK(p:PrbV):Bool:=
 if wh p.task=true/\yr p.adv=true/\¬(3<p.task.n/\p.task.n<=5) then(if lU p≠0 then true else decide (px p 4096<=60) || decide (4096<px p 4096)) else false
structure ShP(p:PrbV):Prop where
 c:∀c∈p.task.cases,ShC c
 t:Sh p.task.cases
 a:p.adv.states.length<=17592186044416
 m:∀l∈p.adv.states,l.length<=17592186044416
theorem cu{p:PrbV}(h:lU p=0):a8 p.task=0/\AdvOk p.adv/\p.task.n=p.adv.n/\0<=p.rounds/\p.rounds<=6:=by
 unfold lU at h;split at h
 ·rename_i q;exact absurd h q
 split at h
 ·rename_i q;exact absurd h q
 split at h
 ·exact absurd h (by decide)
 split at h
 ·exact absurd h (by decide)
 exact⟨by omega,L7 (by omega),by omega,by omega,by omega⟩
theorem rf{p:PrbV}(h:ShP p)(hf:p.adv.states.length<=8):ShA p.adv:=⟨hf,h.m⟩
def hk(g:Nat->Int)(k:Nat):List Int:=(List.range 5).map λi=>if i<k then g i else 0
def vwc(a b c:Int)(l:List Int):List AV:=.int .i64 a::.int .i64 b::.int .i64 c::l.map (AV.int .i64)
theorem pQ(g:Nat->Int)(k:Nat):(hk g k).length=5:=by simp[hk]
theorem qn(a b c:Int){l:List Int}(h:l.length=5):(vwc a b c l).length=8:=by simp[vwc,h]
theorem tR{l:List Int}{k:Nat}(x:Int):(l.map (AV.int .i64)).set k (.int .i64 x)=(l.set k x).map (AV.int .i64):=by rw[List.map_set]
theorem og{cs:List AV}{k:Nat}(h:k<cs.length)(x:AV):cE cs k [x]=cs.set k x:=by
 unfold cE;rw[Lo,if_pos h];simp
theorem tW{a b c:Int}{l:List Int}{k:Nat}(hl:l.length=5)(h:k<5)(x:Int):cE (vwc a b c l) (3+k) [.int .i64 x]=vwc a b c (l.set k x):=by
 rw[og (by rw[qn a b c hl];omega),show 3+k=k+1+1+1 by omega];unfold vwc;rw[List.set_cons_succ,List.set_cons_succ,List.set_cons_succ,tR]
theorem zo{g:Nat->Int}{k:Nat}(h:k<5):(hk g k).set k (g k)=hk g (k+1):=by
 rcases(by omega:k=0\/k=1\/k=2\/k=3\/k=4) with rfl|rfl|rfl|rfl|rfl<;>rfl
theorem G0(a b c:Int)(g:Nat->Int):vwc a b c (hk g 5)=[.int .i64 a,.int .i64 b,.int .i64 c,.int .i64 (g 0),.int .i64 (g 1),.int .i64 (g 2),.int .i64 (g 3),.int .i64 (g 4)]:=rfl
def Bf(vs:List VwV)(v:VwV):Int:=if v∈vs then(vs.idxOf v:Nat) else-1
theorem Gj {v w:VwV}:[v.proc,v.round,v.input,v.h0,v.h1,v.h2,v.h3,v.h4]=[w.proc,w.round,w.input,w.h0,w.h1,w.h2,w.h3,w.h4] ↔ v=w:=⟨fun h=>by
 obtain⟨a,b,c,d,e,f,g,i⟩:=v;obtain⟨a',b',c',d',e',f',g',i'⟩:=w;simp only[List.cons.injEq,and_true] at h;obtain⟨rfl,rfl,rfl,rfl,rfl,rfl,rfl,rfl⟩:=h;rfl,λh=>h▸rfl⟩
theorem GG{vs:List VwV}{v:VwV}{k:Nat}(hk:k<vs.length)(h:∀i,i<k->vs.getD i default≠v)(e:vs.getD k default=v):vs.idxOf v=k:=by
 have e1:vs.getD k default=vs[k]:=by simp[List.getD,hk]
 unfold List.idxOf;refine(List.findIdx_eq hk).2 ⟨by rw[<-e1,e];exact beq_self_eq_true v,λj hj=>?_⟩;have:=h j hj;rw[show vs.getD j default=vs[j] by simp[List.getD,show j<vs.length by omega]] at this;exact beq_eq_false_iff_ne.2 this
theorem uC(l:List VwV):(cL dP l).length=l.length*8:=eu (f:=dP) (λ_=>rfl) l
theorem Kc(l:List VwV):AV.ones (cL dP l)=true:=tK (f:=dP) (λ_=>rfl) l
theorem HL{H:Hp}{s:AV}{l:List VwV}(h:Row H 8 s (cL dP l)):Snap H s (de l):=rE (f:=dP) (by omega) (λ_=>rfl) (λx=>Cv x) h
theorem Io(vs:List VwV)(v:VwV):(((jx vs v).idxOf v:Nat):Int)=if 0<=Bf vs v then Bf vs v else(vs.length:Int):=by
 unfold jx Bf;by_cases h:v∈vs
 ·rw[if_pos h,if_pos h,if_pos (by omega)]
 ·rw[if_neg h,if_neg h,if_neg (by decide),List.idxOf_append,if_neg h];simp
theorem JO(vs:List VwV)(v:VwV):jx vs v=if 0<=Bf vs v then vs else vs++[v]:=by
 unfold jx Bf;by_cases h:v∈vs
 ·rw[if_pos h,if_pos h,if_pos (by omega)]
 ·rw[if_neg h,if_neg h,if_neg (by decide)]
def vf(inp:List Int)(w:List RndV):Nat->List (List Int)->Nat->VwV
 |0,_=>iZ inp
 |k+1,rows=>ii (w.getD k default) ((k+1:Nat):Int).toNat (rows.getD k [])
def plV(n:Nat)(inp:List Int)(w:List RndV)(vs:List VwV):Nat->List VwV×List (List Int)
 |0=>(vs,[])
 |k+1=>(eC (vf inp w k (plV n inp w vs k).2) n (plV n inp w vs k).1,(plV n inp w vs k).2++[eL (vf inp w k (plV n inp w vs k).2) n (plV n inp w vs k).1])
theorem An(n:Nat)(inp:List Int)(w:List RndV)(vs:List VwV):∀k,GL n inp w vs k=plV n inp w vs (k+1)
 |0=>rfl
 |k+1=>by
  rw[plV,<-An n inp w vs k];rfl
theorem mI(n:Nat)(inp:List Int)(w:List RndV)(vs:List VwV):∀k,(plV n inp w vs k).2.length=k/\(∀l∈(plV n inp w vs k).2,l.length=n)/\(plV n inp w vs k).1.length<=vs.length+k*n
 |0=>⟨rfl,λ_ h=>(by cases h),by show vs.length<=_;omega⟩
 |k+1=>by
  obtain⟨h1,h2,h3⟩:=mI n inp w vs k;refine⟨?_,λl hl=>?_,?_⟩
  ·show((plV n inp w vs k).2++[_]).length=_;rw[cQ,h1];rfl
  ·rcases mL.1 hl with hl|hl
   ·exact h2 l hl
   ·rw[fX.1 hl,fQ]
  ·have:=mi (vf inp w k (plV n inp w vs k).2) n (plV n inp w vs k).1;rw[eh];show(eC _ n _).length<=_;omega
def dX(p:PrbV):List (List RndV):=be p.adv p.rounds.toNat 0
def stW(p:PrbV)(c:Nat)(s:BldS)(i:Nat):BldS:=((dX p).take i).foldl (qA p c) s
theorem M9(p:PrbV)(c:Nat)(s:BldS):stW p c s 0=s:=rfl
theorem DG(p:PrbV)(c:Nat)(s:BldS):stW p c s (dX p).length=C8 p s c:=by unfold stW;rw[List.take_length];rfl
theorem AG{p:PrbV}{c:Nat}{s:BldS}{i:Nat}(h:i<(dX p).length):stW p c s (i+1)=qA p c (stW p c s i) ((dX p).getD i default):=by
 unfold stW;rw[cT h,List.foldl_append];rfl
theorem r9(p:PrbV)(c:Nat):bldS p (c+1)=C8 p (bldS p c) c:=by unfold bldS;rw[List.range_succ,List.foldl_append];rfl
theorem uW(p:PrbV)(c:Nat)(s:BldS)(w:List RndV):qA p c s w=⟨(plV p.task.n.toNat (p.task.cases.getD c default).inp w s.views (p.rounds.toNat+1)).1,s.execs++[⟨c,w,(plV p.task.n.toNat (p.task.cases.getD c default).inp w s.views (p.rounds.toNat+1)).2⟩]⟩:=by
 unfold qA;rw[An]
theorem Du{p:PrbV}(hn:p.task.n<=5)(hr:p.rounds<=6)(c:Nat)(s:BldS)(w:List RndV):(qA p c s w).execs.length=s.execs.length+1/\(qA p c s w).views.length<=s.views.length+35:=by
 rw[uW];refine⟨by rw[cQ];rfl,?_⟩;have h1:=(mI p.task.n.toNat (p.task.cases.getD c default).inp w s.views (p.rounds.toNat+1)).2.2;have h2:(p.rounds.toNat+1)*p.task.n.toNat<=7*5:=Nat.mul_le_mul (by omega) (by omega);show(plV _ _ _ _ _).1.length<=_;omega
theorem zg{p:PrbV}(hn:p.task.n<=5)(hr:p.rounds<=6)(c:Nat)(s:BldS):∀i,i<=(dX p).length->(stW p c s i).execs.length=s.execs.length+i/\(stW p c s i).views.length<=s.views.length+35*i
 |0,_=>⟨rfl,bd _⟩
 |i+1,h=>by
  obtain⟨h1,h2⟩:=zg hn hr c s i (by omega);obtain⟨h3,h4⟩:=Du hn hr c (stW p c s i) ((dX p).getD i default);rw[AG (by omega)];omega
theorem um{p:PrbV}(hn:p.task.n<=5)(hr:p.rounds<=6):∀c,(bldS p c).execs.length=c*(dX p).length/\(bldS p c).views.length<=35*(c*(dX p).length)
 |0=>by rw[nz];exact⟨rfl,bd _⟩
 |c+1=>by
  obtain⟨h1,h2⟩:=um hn hr c;obtain⟨h3,h4⟩:=zg hn hr c (bldS p c) (dX p).length (bd _);rw[r9,<-DG,eh,Nat.one_mul];omega
theorem uP{t:TaskV}(h:a8 t=0){c:Nat}(hc:c<t.cases.length):((t.cases.getD c default).inp.length:Int)=t.n:=by
 unfold a8 at h;split at h
 ·exact absurd h (by decide)
 split at h
 ·exact absurd h (by decide)
 have h1:=dL h c hc;unfold iu at h1;split at h1
 ·rename_i q;exact absurd h1 q
 rename_i q;have q:bz (t.cases.getD c default).inp t.n t.ins=0:=by omega
 unfold bz at q;split at q
 ·exact absurd q (by decide)
 ·omega
theorem cV{t:TaskV}(h:a8 t=0):1<=t.n/\t.n<=5/\1<=t.cases.length/\t.cases.length<=1024:=by
 unfold a8 at h;split at h
 ·exact absurd h (by decide)
 split at h
 ·exact absurd h (by decide)
 omega
theorem iV{H:Hp}{sz:Nat}{t x x':AV}{cs c:List AV}{nb:Nat}(hrow:Row H sz t (cs++[x]))(hx:H nb=some c)(hs:Snap (only nb c) x x')(hne:bk t≠some nb):∃H',Fz (only nb c) H H'/\Row H' sz t (cs++[x'])/\∀y,y≠nb->bk t≠some y->H' y=H y:=by
 generalize hcs:cs++[x]=ds at hrow;cases hrow with
 |nil=>exact absurd (congrArg List.length hcs) (by simp)
 |box b len ds g1 g2=>
  have hb:b≠nb:=λe=>hne (by rw[e];rfl);refine⟨av (dw H nb) b (cs++[x']),⟨λy d h=>?_,λy d h=>?_⟩,Row.box b len _ ae (by rw[<-g2,<-hcs];simp),λy h1 h2=>?_⟩
  ·unfold only at h;split at h
   ·rename_i e;rw[e,hx];exact h
   ·cases h
  ·by_cases e:y=b
   ·subst e;rw[ae] at h;cases h;exact⟨ds,g1,if_neg hb,by rw[<-hcs];exact d7.snoc hs⟩
   ·rw[ab e] at h;by_cases e2:y=nb
    ·rw[e2] at h;exact absurd h (by simp[dw])
    ·rw[bQ e2] at h;exact⟨d,h,if_neg e2,d7.refl _ _⟩
  ·rw[ab (λe=>h2 (by rw[e];rfl)),bQ h1]
theorem Row.get{H:Hp}{s:AV}{cs:List AV}(h:Row H 1 s cs){j:Nat}{x:AV}(hj:cs[j]?=some x):∃b n off,d9 1 s (.int .i64 (j:Int))=some (.ptr b n off)/\bk s=some b/\∀H':Hp,H' b=H b->rd1 H' (.ptr b n off)=some x:=by
 cases h with
 |nil=>simp at hj
 |box b len cs hb hl=>
  have hlt:=(bF.1 hj).1;refine⟨b,len,j,?_,rfl,λH' h'=>?_⟩
  ·rw[lb,if_pos ⟨by omega,by omega⟩];simp only[cK,Nat.mul_one,dt]
  ·rw[C3 (h'.trans hb) (by omega)];exact hj
theorem d7.mid{Hf:Hp}{x x':AV}(a b:List AV)(h:Snap Hf x x'):d7 Hf (a++x::b) (a++x'::b):=by
 refine⟨by simp,λi y y' h1 h2=>?_⟩;by_cases hi:i<a.length
 ·rw[fT hi] at h1 h2;rw[h1] at h2;cases h2;exact .inl rfl
 ·rw[ia (by omega)] at h1 h2;cases hj:i-a.length with
  |zero=>rw[hj] at h1 h2;simp at h1 h2;subst h1 h2;exact .inr h
  |succ j=>rw[hj] at h1 h2;simp at h1 h2;rw[h1] at h2;cases h2;exact .inl rfl
theorem Fz.cell{H:Hp}{b:Nat}{cs cs':List AV}(h:H b=some cs)(hc:d7 aQ cs cs'):Fz aQ H (av H b cs'):=
 ⟨fun _ _ h=>(by cases h),fun y d hd=>by
  by_cases e:y=b
  ·subst e;rw[ae] at hd;cases hd;exact⟨cs,h,rfl,hc⟩
  ·rw[ab e] at hd;exact⟨d,hd,rfl,d7.refl _ _⟩⟩
theorem GB{H:Hp}{s:AV}{l:List ExV}(h:Row H 3 s (cL iH l)):Snap H s (fM l):=rE (f:=iH) (by omega) (λ_=>rfl) (λx=>Cd x) h
theorem F7(l:List ExV):(cL iH l).length=l.length*3:=eu (f:=iH) (λ_=>rfl) l
theorem dz{H:Hp}{b sz:Nat}{cs:List AV}(h:cs.length=sz):ef sz (av H b cs) (.msl b sz sz 0 1)=some (1,cs):=by
 rw[fW ae h (by omega),List.drop_zero,js (by omega)]
theorem vQ{H:Hp}{s:AV}{cs:List AV}(h:Row H 1 s cs)(hn:cs≠[]):∃b len,s=.msl b len 1 0 len/\H b=some cs/\cs.length=len:=by
 obtain⟨b,len,h1,h2,h3⟩:=jO h hn;rw[Nat.mul_one] at h1 h3;exact⟨b,len,h1,h2,h3⟩
theorem Row.box1{H:Hp}{b len:Nat}{cs:List AV}(h:H b=some cs)(hl:cs.length=len):Row H 1 (.msl b len 1 0 len) cs:=by
 have:=Row.box (sz:=1) b len cs h (by omega)
 rwa [Nat.mul_one] at this
def Z10:List AV:=[.int .i64 0,.int .i64 0,.int .i64 0,.esl,.int .i64 0,.esl,.int .i64 0,.int .i64 0,.esl,.esl]
theorem CW:∀x∈Z10,Dat x:=DatL.cons .int (DatL.cons .int (DatL.cons .int (DatL.cons .esl (DatL.cons .int (DatL.cons .esl (DatL.cons .int (DatL.cons .int (DatL.cons .esl (DatL.cons .esl DatL.nil)))))))))
def jZ(p:PrbV):Bool:=CK p&&decide (lU p=0)&&decide (px p 4096<=60)
structure OkP(p:PrbV):Prop where
 sh:ShP p
 sa:ShA p.adv
 mv:dn p.adv.states<=40
 e0:lU p=0
 num:px p 4096<=60
 n3:p.task.n<=3
 few:wh p.task=true
theorem Ab{p:PrbV}(h:CK p=true):wh p.task=true/\yr p.adv=true/\¬(3<p.task.n/\p.task.n<=5):=by
 unfold CK at h;split at h
 ·rename_i q;exact q
 ·cases h
theorem oL{a:AdvV}(h:yr a=true):a.states.length<=8/\dn a.states<=40:=by
 unfold yr at h;rw[eN,iC,iC] at h;exact h
theorem wj{p:PrbV}(hs:ShP p)(h:jZ p=true):OkP p:=by
 unfold jZ at h;rw[eN,eN,iC,iC] at h;obtain⟨⟨h1,h2⟩,h3⟩:=h;obtain⟨q1,q2,q3⟩:=Ab h1;obtain⟨q4,q5⟩:=oL q2;have:=(cV (cu h2).1).2.1;exact⟨hs,rf hs q4,q5,h2,h3,by omega,q1⟩
theorem pd{p:PrbV}(h0:lU p=0)(h:px p 4096<=60):p.task.cases.length*(dX p).length<=60/\(dX p).length<=60/\1<=p.task.cases.length/\1<=(dX p).length:=by
 obtain⟨hck,ho,hn,r0,r6⟩:=cu h0;obtain⟨n1,n5,c1,c2⟩:=cV hck;have hto:CQ p.adv:=λl hl m hm=>⟨(ho.mv l hl m hm).to0,(ho.mv l hl m hm).to1⟩
 have hw:=sA hto ho.ne p.rounds.toNat 0 (by have:=ho.s1;omega)
 have hw1:1<=(dX p).length:=by
  unfold dX;cases e:be p.adv p.rounds.toNat 0 with
  |nil=>exact absurd e hw
  |cons a l=>rw[il];omega
 unfold px at h;rw[tP hto (by have:=ho.s1;omega) (by omega)] at h;change (p.task.cases.length:Int)*min ((dX p).length:Int) (4096+1)<=60 at h;generalize (dX p).length=L at *;generalize p.task.cases.length=C at *
 have h1:min (L:Int) (4096+1)<=60:=by
  have:min (L:Int) (4096+1)<=(C:Int)*min (L:Int) (4096+1):=by
   have h2:(1:Int)*min (L:Int) (4096+1)<=(C:Int)*min (L:Int) (4096+1):=Int.mul_le_mul_of_nonneg_right (by omega) (by omega);omega
  omega
 have h2:min (L:Int) (4096+1)=L:=by omega
 rw[h2] at h h1;have h3:((C*L:Nat):Int)<=60:=by rw[Int.natCast_mul];exact h
 omega
section
attribute [local irreducible] aF ai bh aY aO aM ax aS a7 bm Go.Abs.Fn aX Go.Abs.Pure ap aJ Yl
theorem wa(a b:List Int)(ha:Sh a)(hb:Sh b):pU 149 [aq a,aq b] (.int .i64 (aD a b)):=by
 refine pO Nv ?_;simp only[Om,aw];have ha':a.length<=17592186044416:=ha;have hb':b.length<=17592186044416:=hb
 repeat' (first|refine zW ?_|apply a_n|refine zO ?_|refine vZ ?_|fail)
 refine gZ (X:=Nat) (λk=>[(0,aq a),(1,aq b),(5,.int .i64 k)]) (λk=>k<=a.length/\k<=b.length/\aD a b=aD (a.drop k) (b.drop k)) (λk=>a.length-k) 0 ⟨bo _,bo _,rfl⟩ ag0 ?_;rintro k ⟨h1,h2,h3⟩;by_cases hka:k<a.length
 ·by_cases hkb:k<b.length
  ·rw[fp (l:=a) hka,fp (l:=b) hkb,aD] at h3;by_cases c1:a.getD k default<b.getD k default
   ·rw[if_pos c1] at h3;rw[h3]
    repeat' (first|refine zW ?_|apply a_n|apply a_r|refine zO ?_|refine vZ ?_|refine gTZ ?_|(refine zGZ ?_ ?_<;>(intro _hg;try (exfalso;omega)))|refine au rfl ?_|refine r1Z ?_|fail)
    exact .int _ _
   ·rw[if_neg c1] at h3;by_cases c2:a.getD k default>b.getD k default
    ·rw[if_pos c2] at h3;rw[h3]
     repeat' (first|refine zW ?_|apply a_n|apply a_r|refine zO ?_|refine vZ ?_|refine gTZ ?_|(refine zGZ ?_ ?_<;>(intro _hg;try (exfalso;omega)))|refine au rfl ?_|refine r1Z ?_|fail)
     exact .int _ _
    ·rw[if_neg c2] at h3
     repeat' (first|refine zW ?_|apply a_n|refine zO ?_|refine vZ ?_|refine gTZ ?_|(refine zGZ ?_ ?_<;>(intro _hg;try (exfalso;omega)))|fail)
     exact⟨k+1,⟨by omega,by omega,h3⟩,by omega,ag0,rfl,rfl⟩
  ·rw[rY (show b.length<=k by omega),fp (l:=a) hka] at h3;have h3:aD a b=1:=h3;rw[h3]
   repeat' (first|refine zW ?_|apply a_n|apply a_x|apply a_r|refine zO ?_|refine vZ ?_|refine gTZ ?_|(refine zGZ ?_ ?_<;>(intro _hg;try (exfalso;omega)))|refine au rfl ?_|refine r1Z ?_|fail)
   exact .int _ _
 ·by_cases hkb:k<b.length
  ·rw[rY (show a.length<=k by omega),fp (l:=b) hkb] at h3;have h3:aD a b=-1:=h3;rw[h3]
   repeat' (first|refine zW ?_|apply a_n|apply a_x|apply a_r|refine zO ?_|refine vZ ?_|refine gFZ ?_|refine cFZ ?_|(refine zGZ ?_ ?_<;>(intro _hg;try (exfalso;omega)))|refine au rfl ?_|refine r1Z ?_|fail)
   exact .int _ _
  ·rw[rY (show a.length<=k by omega),rY (show b.length<=k by omega)] at h3;have h3:aD a b=0:=h3;rw[h3]
   repeat' (first|refine zW ?_|apply a_n|apply a_x|refine zO ?_|refine vZ ?_|refine gFZ ?_|refine cFZ ?_|(refine zGZ ?_ ?_<;>(intro _hg;try (exfalso;omega)))|refine au rfl ?_|refine r1Z ?_|fail)
   exact .int _ _
theorem Sf(l:List (List Int))(v:List Int)(hl:Sh l)(hs:∀x∈l,Sh x)(hv:Sh v):pU 161 [ay l,aq v] (.bool (decide (v∈l))):=by
 refine pO Ph ?_;simp only[PD,aw];have hl':l.length<=17592186044416:=hl
 repeat' (first|refine zW ?_|apply a_n|refine zO ?_|refine vZ ?_|fail)
 refine ta (λk=>[(0,ay l),(1,aq v),(5,.int .i64 k)]) l.length (λk=>l.getD k default≠v) ag0 ?_;intro k hk hp;by_cases hk2:k<l.length
 rotate_left
 ·repeat' (first|refine zW ?_|apply a_n|apply a_x|refine zO ?_|refine vZ ?_|(refine zGZ ?_ ?_<;>(intro _hg;try (exfalso;omega)))|refine au rfl ?_|refine r1Z ?_|fail)
  exact dF (bR (fun hm=>by
   obtain⟨i,hi,e⟩:=vj.1 hm;exact hp i (by omega) e)).symm
 have hc:=wa (l.getD k default) v (hs _ (ao hk2)) hv;by_cases he:aD (l.getD k default) v=0
 ·repeat' (first|refine zW ?_|apply a_n|apply a_r|refine zO ?_|refine vZ ?_|refine cZ ?_ (hp:=hc)|(refine zGZ ?_ ?_<;>(intro _hg;try (exfalso;omega)))|refine au rfl ?_|refine r1Z ?_|fail)
  exact dF (bV (vj.2 ⟨k,hk2,kG he⟩)).symm
 ·repeat' (first|refine zW ?_|apply a_n|refine zO ?_|refine vZ ?_|refine cZ ?_ (hp:=hc)|(refine zGZ ?_ ?_<;>(intro _hg;try (exfalso;omega)))|fail)
  exact⟨hk2,λh=>he (by rw[h];exact eJ v),ag0,rfl,rfl⟩
theorem DT(v:List Int)(n most:Int)(hv:Sh v):pU 160 [aq v,.int .i64 n,.int .i64 most] (.int .i64 (bz v n most)):=by
 refine pO Pi ?_;simp only[Qs,aw];have hv':v.length<=17592186044416:=hv;by_cases hn:(v.length:Int)=n
 rotate_left
 ·have e:bz v n most=15:=by unfold bz;rw[if_pos hn]
  rw[e]
  repeat' (first|refine zW ?_|apply a_n|apply a_r|refine zO ?_|refine vZ ?_|(refine zGZ ?_ ?_<;>(intro _hg;try (exfalso;omega)))|refine au rfl ?_|refine r1Z ?_|fail)
  all_goals exact .int _ _
 have e:bz v n most=if v.any (λx=>decide (x<0\/most<=x)) then 2 else 0:=by unfold bz;rw[if_neg (λh=>h hn)]
 rw[e];subst hn
 repeat' (first|refine zW ?_|apply a_n|refine zO ?_|refine vZ ?_|(refine zGZ ?_ ?_<;>(intro _hg;try (exfalso;omega)))|fail)
 refine ta (λk=>[(0,aq v),(1,.int .i64 v.length),(2,.int .i64 most),(7,.int .i64 k)]) v.length (λk=>decide (v.getD k default<0\/most<=v.getD k default)=false) ag0 ?_;intro k hk hp;by_cases hk2:k<v.length
 rotate_left
 ·repeat' (first|refine zW ?_|apply a_n|apply a_x|refine zO ?_|refine vZ ?_|(refine zGZ ?_ ?_<;>(intro _hg;try (exfalso;omega)))|refine au rfl ?_|refine r1Z ?_|fail)
  rw[FJ λi hi=>hp i (by omega)];exact .int _ _
 by_cases hb:v.getD k default<0\/most<=v.getD k default
 ·repeat' (first|refine zW ?_|apply a_n|apply a_r|refine zO ?_|refine vZ ?_|refine gTZ ?_|refine gFZ ?_|refine cTZ ?_|(refine zGZ ?_ ?_<;>(intro _hg;try (exfalso;omega)))|refine au rfl ?_|refine r1Z ?_|fail)
  all_goals first
   |(rw[G2 (p:=λx=>decide (x<0\/most<=x)) hk2 (bV hb)];exact .int _ _)
 ·repeat' (first|refine zW ?_|apply a_n|refine zO ?_|refine vZ ?_|refine gTZ ?_|(refine zGZ ?_ ?_<;>(intro _hg;try (exfalso;omega)))|fail)
  exact⟨hk2,bR hb,ag0,rfl,rfl⟩
theorem R6(t:TaskV)(j:Nat)(hs:∀c∈t.cases,ShC c)(hsc:Sh t.cases)(hj:j<t.cases.length):pU 127 [gu t,.int .i64 j] (.int .i64 (iu t j)):=by
 refine pO Nc ?_;simp only[PB,aw];rw[Gv t j hj];have hsc':t.cases.length<=17592186044416:=hsc;have hm:=ao hj;obtain⟨s1,s2,s3,s4,s5⟩:=hs _ hm;have ix:=bK hj;have hv:=DT _ t.n t.ins s1;unfold gu;by_cases hV:bz (t.cases.getD j default).inp t.n t.ins=0
 rotate_left
 ·rw[if_pos hV];generalize bz (t.cases.getD j default).inp t.n t.ins=V at *;have zz:=aI @aG (aI @aA (aI @aH @ix));repeat' (first|refine zW ?_|apply a_n|apply a_r|refine zO ?_|refine vZ ?_|refine cZ ?_ (hp:=hv)|refine alZ ?_|refine bxZ ?_|refine stZ ?_|(refine zGZ ?_ ?_<;>(intro _hg;try (exfalso;omega)))|refine au rfl ?_|refine r1Z ?_|fail)
  exact .int _ _
 rw[if_neg (λh=>h hV)];rw[hV] at hv;have hO:=wa (t.cases.getD (j-1) default).inp (t.cases.getD j default).inp (hs _ (ao (by omega))).1 s1;have hi1:=bK (l:=t.cases) (k:=j-1) (by omega);generalize hC:t.cases.getD j default=c at *;obtain⟨inp,out,calm⟩:=c;dsimp only at *;have s2':out.length<=17592186044416:=s2;have s4':calm.length<=17592186044416:=s4;refine nK ?_;have zz:=aI @aG (aI @aA (aI @aH @ix));repeat' (first|apply a_n|refine zO ?_|refine vZ ?_|refine bxZ ?_|fail)
 refine nK ?_;clear zz;have zz:=aI @aG (aI @aA (aI @aH @ix));repeat' (first|apply a_n|refine zO ?_|refine vZ ?_|refine alZ ?_|refine stZ ?_|fail)
 refine eO (λT H nx=>T 1=.int .i64 j/\T 2=.ptr 0 4 0/\T 5=.ptr 1 3 0/\H 0=some [.int .i64 t.n,.int .i64 t.ins,.int .i64 t.outs,bu t.cases]/\H 1=some [aq inp,ay out,ay calm]) ?_ ?_
 ·clear zz;have zz:=aI @aG (aI @aA (aI @aH @ix));repeat' (first|refine zW ?_|apply a_n|refine zO ?_|refine vZ ?_|refine cZ ?_ (hp:=hv)|(refine zGZ ?_ ?_<;>(intro _hg;try (exfalso;omega)))|fail)
  exact⟨rfl,rfl,rfl,rfl,rfl⟩
 rintro T H nx ⟨t1,t2,t5,g0,g1⟩;refine eO (λT H nx=>T 1=.int .i64 j/\T 2=.ptr 0 4 0/\T 5=.ptr 1 3 0/\H 0=some [.int .i64 t.n,.int .i64 t.ins,.int .i64 t.outs,bu t.cases]/\H 1=some [aq inp,ay out,ay calm]/\(decide (0<j)&&decide (0<=aD (t.cases.getD (j-1) default).inp inp))=false) ?_ ?_
 ·by_cases hj0:j=0
  ·subst hj0;clear zz;have zz:=aI @t1 (aI @t2 (aI @t5 (aI @g0 (aI @g1 (aI @aG (aI @aA (aI @aH (aI @ix @dZ))))))));repeat' (first|refine zW ?_|refine zM ?_|apply a_n|refine zO ?_|refine vZ ?_|refine gFZ ?_|(refine zGZ ?_ ?_<;>(intro _hg;try (exfalso;omega)))|refine cFZ ?_|fail)
   all_goals first|exact⟨(by((try simp only[bf,ZA,reduceEqDiff,↓reduceIte,reduceAdd,reduceLeDiff,t1,t2,t5,g0,g1]);(try with_reducible rfl))),(by((try simp only[bf,ZA,reduceEqDiff,↓reduceIte,reduceAdd,reduceLeDiff,t1,t2,t5,g0,g1]);(try with_reducible rfl))),(by((try simp only[bf,ZA,reduceEqDiff,↓reduceIte,reduceAdd,reduceLeDiff,t1,t2,t5,g0,g1]);(try with_reducible rfl))),(by((try simp only[bf,ZA,reduceEqDiff,↓reduceIte,reduceAdd,reduceLeDiff,t1,t2,t5,g0,g1]);(try with_reducible rfl))),(by((try simp only[bf,ZA,reduceEqDiff,↓reduceIte,reduceAdd,reduceLeDiff,t1,t2,t5,g0,g1]);(try with_reducible rfl))),by first|rfl|simp⟩|trace_state
  ·have e1:(j:Int)-1=((j-1:Nat):Int):=by omega
   rw[<-e1] at hi1;rw[bV (show 0<j by omega),Bool.true_and];have hj1:decide ((0:Int)<(j:Int))=true:=bV (by omega);by_cases ho:0<=aD (t.cases.getD (j-1) default).inp inp
   ·rw[bV ho,if_pos rfl];clear zz;have zz:=aI @t1 (aI @t2 (aI @t5 (aI @g0 (aI @g1 (aI @aG (aI @aA (aI @aH (aI @ix (aI @hi1 (aI @hj1 @dZ))))))))));repeat' (first|refine zW ?_|refine zM ?_|apply a_n|apply a_r|refine zO ?_|refine vZ ?_|refine cZ ?_ (hp:=hO)|refine gTZ ?_|(refine zGZ ?_ ?_<;>(intro _hg;try (exfalso;omega)))|refine au rfl ?_|refine r1Z ?_|fail)
    all_goals first|exact .int _ _|trace_state
   ·rw[bR ho];clear zz;have zz:=aI @t1 (aI @t2 (aI @t5 (aI @g0 (aI @g1 (aI @aG (aI @aA (aI @aH (aI @ix (aI @hi1 (aI @hj1 @dZ))))))))));repeat' (first|refine zW ?_|refine zM ?_|apply a_n|refine zO ?_|refine vZ ?_|refine cZ ?_ (hp:=hO)|refine gTZ ?_|(refine zGZ ?_ ?_<;>(intro _hg;try (exfalso;omega)))|fail)
    all_goals first|exact⟨(by((try simp only[bf,ZA,reduceEqDiff,↓reduceIte,reduceAdd,reduceLeDiff,t1,t2,t5,g0,g1]);(try with_reducible rfl))),(by((try simp only[bf,ZA,reduceEqDiff,↓reduceIte,reduceAdd,reduceLeDiff,t1,t2,t5,g0,g1]);(try with_reducible rfl))),(by((try simp only[bf,ZA,reduceEqDiff,↓reduceIte,reduceAdd,reduceLeDiff,t1,t2,t5,g0,g1]);(try with_reducible rfl))),(by((try simp only[bf,ZA,reduceEqDiff,↓reduceIte,reduceAdd,reduceLeDiff,t1,t2,t5,g0,g1]);(try with_reducible rfl))),(by((try simp only[bf,ZA,reduceEqDiff,↓reduceIte,reduceAdd,reduceLeDiff,t1,t2,t5,g0,g1]);(try with_reducible rfl))),by first|rfl|simp⟩|trace_state
 clear zz;clear t1 t2 t5 g0 g1 hO hi1;rintro T H nx ⟨t1,t2,t5,g0,g1,hu⟩;rw[hu,if_neg (by simp)];by_cases h0:out.length<1\/1024<out.length
 ·have e:cw t.n t.outs ⟨inp,out,calm⟩=5:=by unfold cw;rw[if_pos h0]
  rw[e];have zz:=aI @t1 (aI @t2 (aI @t5 (aI @g0 @g1)));repeat' (first|refine zW ?_|apply a_n|apply a_r|refine zO ?_|refine vZ ?_|refine gTZ ?_|refine gFZ ?_|refine cTZ ?_|(refine zGZ ?_ ?_<;>(intro _hg;try (exfalso;omega)))|refine au rfl ?_|refine r1Z ?_|fail)
  all_goals exact .int _ _
 have e:cw t.n t.outs ⟨inp,out,calm⟩=if bU (mr t.n t.outs out) out.length≠0 then bU (mr t.n t.outs out) out.length else bU (lr out calm) calm.length:=by unfold cw;rw[if_neg h0]
 rw[e];refine eO (λT H nx=>T 2=.ptr 0 4 0/\T 5=.ptr 1 3 0/\H 0=some [.int .i64 t.n,.int .i64 t.ins,.int .i64 t.outs,bu t.cases]/\H 1=some [aq inp,ay out,ay calm]) ?_ ?_
 ·have zz:=aI @t1 (aI @t2 (aI @t5 (aI @g0 @g1)));repeat' (first|refine zW ?_|apply a_n|refine zO ?_|refine vZ ?_|refine gTZ ?_|(refine zGZ ?_ ?_<;>(intro _hg;try (exfalso;omega)))|fail)
  all_goals first|exact⟨(by((try simp only[bf,ZA,reduceEqDiff,↓reduceIte,reduceAdd,reduceLeDiff,t1,t2,t5,g0,g1]);(try with_reducible rfl))),(by((try simp only[bf,ZA,reduceEqDiff,↓reduceIte,reduceAdd,reduceLeDiff,t1,t2,t5,g0,g1]);(try with_reducible rfl))),(by((try simp only[bf,ZA,reduceEqDiff,↓reduceIte,reduceAdd,reduceLeDiff,t1,t2,t5,g0,g1]);(try with_reducible rfl))),(by((try simp only[bf,ZA,reduceEqDiff,↓reduceIte,reduceAdd,reduceLeDiff,t1,t2,t5,g0,g1]);(try with_reducible rfl)))⟩|trace_state
 clear t1 t2 t5 g0 g1;rintro T H nx ⟨t2,t5,g0,g1⟩;refine eO (λT H nx=>T 2=.ptr 0 4 0/\T 5=.ptr 1 3 0/\H 0=some [.int .i64 t.n,.int .i64 t.ins,.int .i64 t.outs,bu t.cases]/\H 1=some [aq inp,ay out,ay calm]/\∀i,i<out.length->mr t.n t.outs out i=0) ?_ ?_
 ·have zz:=aI @t2 (aI @t5 (aI @g0 @g1));repeat' (first|refine zW ?_|apply a_n|refine zO ?_|refine vZ ?_|fail)
  refine ta (λk=>[(2,.ptr 0 4 0),(5,.ptr 1 3 0),(7,.int .i64 k)]) out.length (λk=>mr t.n t.outs out k=0) (have zz:=aI @t2 @t5;agZ) ?_;intro k hk hz;by_cases hk2:k<out.length
  rotate_left
  ·clear zz;have zz:=aI @g0 @g1;repeat' (first|refine zW ?_|apply a_n|apply a_x|refine zO ?_|refine vZ ?_|(refine zGZ ?_ ?_<;>(intro _hg;try (exfalso;omega)))|fail)
   exact⟨rfl,rfl,g0,g1,λi hi=>hz i (by omega)⟩
  have hvk:=DT (out.getD k default) t.n t.outs (s3 _ (ao hk2));have hok:=wa (out.getD (k-1) default) (out.getD k default) (s3 _ (ao (by omega))) (s3 _ (ao hk2));have ho:mr t.n t.outs out k=if bz (out.getD k default) t.n t.outs≠0 then bz (out.getD k default) t.n t.outs else if (decide (0<k)&&decide (0<=aD (out.getD (k-1) default) (out.getD k default))) then 14 else 0:=rfl
  have fin:∀r,mr t.n t.outs out k=r->r≠0->(if bU (mr t.n t.outs out) out.length≠0 then bU (mr t.n t.outs out) out.length else bU (lr out calm) calm.length)=r:=λr hr h0=>by
   rw[dE hk2 hz (by rw[hr];exact h0),hr,if_pos h0]
  generalize bz (out.getD k default) t.n t.outs=V at *;by_cases hV0:V=0
  rotate_left
  ·rw[if_pos hV0] at ho;rw[fin V ho hV0];clear zz;have zz:=aI @g0 @g1;repeat' (first|refine zW ?_|refine zM ?_|apply a_n|apply a_r|refine zO ?_|refine vZ ?_|refine cZ ?_ (hp:=hvk)|(refine zGZ ?_ ?_<;>(intro _hg;try (exfalso;omega)))|refine au rfl ?_|refine r1Z ?_|fail)
   exact .int _ _
  subst hV0;rw[if_neg (λh=>h rfl)] at ho;by_cases hk0:k=0
  ·subst hk0;clear zz;have zz:=aI @g0 (aI @g1 @dZ);repeat' (first|refine zW ?_|refine zM ?_|apply a_n|refine zO ?_|refine vZ ?_|refine cZ ?_ (hp:=hvk)|refine gFZ ?_|refine cFZ ?_|(refine zGZ ?_ ?_<;>(intro _hg;try (exfalso;omega)))|fail)
   all_goals first|exact⟨hk2,ho,ag0,rfl,rfl⟩|trace_state
  ·have e1:(k:Int)-1=((k-1:Nat):Int):=by omega
   have e2:((k:Int)-1).toNat=k-1:=by omega
   have hj1:decide ((0:Int)<(k:Int))=true:=bV (by omega);rw[bV (show 0<k by omega),Bool.true_and] at ho;generalize aD (out.getD (k-1) default) (out.getD k default)=O at *;by_cases hO0:0<=O
   ·rw[bV hO0,if_pos rfl] at ho;rw[fin 14 ho (by decide)];clear zz;have zz:=aI @g0 (aI @g1 (aI @hj1 (aI @e2 @dZ)));repeat' (first|refine zW ?_|refine zM ?_|apply a_n|apply a_r|refine zO ?_|refine vZ ?_|refine cZ ?_ (hp:=by first|exact hvk|exact hok)|refine gTZ ?_|(refine zGZ ?_ ?_<;>(intro _hg;try (exfalso;omega)))|refine au rfl ?_|refine r1Z ?_|fail)
    all_goals first|exact .int _ _|trace_state
   ·rw[bR hO0,if_neg (by simp)] at ho;clear zz;have zz:=aI @g0 (aI @g1 (aI @hj1 (aI @e2 @dZ)));repeat' (first|refine zW ?_|refine zM ?_|apply a_n|refine zO ?_|refine vZ ?_|refine cZ ?_ (hp:=by first|exact hvk|exact hok)|refine gTZ ?_|(refine zGZ ?_ ?_<;>(intro _hg;try (exfalso;omega)))|fail)
    all_goals first|exact⟨hk2,ho,ag0,rfl,rfl⟩|trace_state
 clear t2 t5 g0 g1;rintro T H nx ⟨t2,t5,g0,g1,hz0⟩;rw[bW hz0,if_neg (λh=>h rfl)];have zz:=aI @t2 (aI @t5 (aI @g0 @g1));repeat' (first|refine zW ?_|apply a_n|refine zO ?_|refine vZ ?_|fail)
 refine ta (λk=>[(2,.ptr 0 4 0),(5,.ptr 1 3 0),(9,.int .i64 k)]) calm.length (λk=>lr out calm k=0) (have zz:=aI @t2 @t5;agZ) ?_;intro k hk hz;by_cases hk2:k<calm.length
 rotate_left
 ·clear zz;have zz:=aI @g0 @g1;repeat' (first|refine zW ?_|apply a_n|apply a_x|refine zO ?_|refine vZ ?_|(refine zGZ ?_ ?_<;>(intro _hg;try (exfalso;omega)))|refine au rfl ?_|refine r1Z ?_|fail)
  rw[bW λi hi=>hz i (by omega)];exact .int _ _
 have hh:=Sf out (calm.getD k default) s2 s3 (s5 _ (ao hk2));have hok:=wa (calm.getD (k-1) default) (calm.getD k default) (s5 _ (ao (by omega))) (s5 _ (ao hk2));have ho:lr out calm k=if calm.getD k default∈out then(if (decide (0<k)&&decide (0<=aD (calm.getD (k-1) default) (calm.getD k default))) then 14 else 0) else 6:=rfl
 have fin:∀r,lr out calm k=r->r≠0->bU (lr out calm) calm.length=r:=λr hr h0=>by
  rw[dE hk2 hz (by rw[hr];exact h0),hr]
 by_cases hm2:calm.getD k default∈out
 rotate_left
 ·rw[if_neg hm2] at ho;rw[bR hm2] at hh;rw[fin 6 ho (by decide)];clear zz;have zz:=aI @g0 (aI @g1 @dZ);repeat' (first|refine zW ?_|refine zM ?_|apply a_n|apply a_r|refine zO ?_|refine vZ ?_|refine cZ ?_ (hp:=hh)|refine cTZ ?_|(refine zGZ ?_ ?_<;>(intro _hg;try (exfalso;omega)))|refine au rfl ?_|refine r1Z ?_|fail)
  exact .int _ _
 rw[if_pos hm2] at ho;rw[bV hm2] at hh;by_cases hk0:k=0
 ·subst hk0;clear zz;have zz:=aI @g0 (aI @g1 @dZ);repeat' (first|refine zW ?_|refine zM ?_|apply a_n|refine zO ?_|refine vZ ?_|refine cZ ?_ (hp:=hh)|refine gFZ ?_|refine cFZ ?_|(refine zGZ ?_ ?_<;>(intro _hg;try (exfalso;omega)))|fail)
  all_goals first|exact⟨hk2,ho,ag0,rfl,rfl⟩|trace_state
 ·have e2:((k:Int)-1).toNat=k-1:=by omega
  have hj1:decide ((0:Int)<(k:Int))=true:=bV (by omega);rw[bV (show 0<k by omega),Bool.true_and] at ho;generalize aD (calm.getD (k-1) default) (calm.getD k default)=O at *;by_cases hO0:0<=O
  ·rw[bV hO0,if_pos rfl] at ho;rw[fin 14 ho (by decide)];clear zz;have zz:=aI @g0 (aI @g1 (aI @hj1 (aI @e2 @dZ)));repeat' (first|refine zW ?_|refine zM ?_|apply a_n|apply a_r|refine zO ?_|refine vZ ?_|refine cZ ?_ (hp:=by first|exact hh|exact hok)|refine gTZ ?_|refine cFZ ?_|(refine zGZ ?_ ?_<;>(intro _hg;try (exfalso;omega)))|refine au rfl ?_|refine r1Z ?_|fail)
   all_goals first|exact .int _ _|trace_state
  ·rw[bR hO0,if_neg (by simp)] at ho;clear zz;have zz:=aI @g0 (aI @g1 (aI @hj1 (aI @e2 @dZ)));repeat' (first|refine zW ?_|refine zM ?_|apply a_n|refine zO ?_|refine vZ ?_|refine cZ ?_ (hp:=by first|exact hh|exact hok)|refine gTZ ?_|refine cFZ ?_|(refine zGZ ?_ ?_<;>(intro _hg;try (exfalso;omega)))|fail)
   all_goals first|exact⟨hk2,ho,ag0,rfl,rfl⟩|trace_state
theorem Mj(t:TaskV)(hs:∀c∈t.cases,ShC c)(hsc:Sh t.cases):pU 73 [gu t] (.int .i64 (a8 t)):=by
 refine pO Rn ?_;simp only[b73,aw];have hsc':t.cases.length<=17592186044416:=hsc;have d2:=fR t;have hone:=λj hj=>R6 t j hs hsc hj;unfold gu at d2 hone |-;by_cases h0:t.n<1\/5<t.n\/t.ins<1\/8<t.ins\/t.outs<1\/8<t.outs
 ·have e:a8 t=2:=by unfold a8;rw[if_pos h0]
  rw[e];have zz:=aI @aG (aI @aA @aH);repeat' (first|refine zW ?_|apply a_n|apply a_r|refine zO ?_|refine vZ ?_|refine bxZ ?_|refine gTZ ?_|refine gFZ ?_|refine cTZ ?_|(refine zGZ ?_ ?_<;>(intro _hg;try (exfalso;omega)))|refine au rfl ?_|refine r1Z ?_|fail)
  all_goals exact .int _ _
 by_cases h1:t.cases.length<1\/1024<t.cases.length
 ·have e:a8 t=5:=by unfold a8;rw[if_neg h0,if_pos h1]
  rw[e];have zz:=aI @aG (aI @aA @aH);repeat' (first|refine zW ?_|apply a_n|apply a_r|refine zO ?_|refine vZ ?_|refine bxZ ?_|refine gTZ ?_|refine gFZ ?_|refine cTZ ?_|(refine zGZ ?_ ?_<;>(intro _hg;try (exfalso;omega)))|refine au rfl ?_|refine r1Z ?_|fail)
  all_goals exact .int _ _
 have e:a8 t=bU (iu t) t.cases.length:=by unfold a8;rw[if_neg h0,if_neg h1]
 rw[e];have zz:=aI @aG (aI @aA @aH);repeat' (first|refine zW ?_|apply a_n|refine zO ?_|refine vZ ?_|refine bxZ ?_|refine gTZ ?_|(refine zGZ ?_ ?_<;>(intro _hg;try (exfalso;omega)))|fail)
 refine ta (λk=>[(1,.ptr 0 4 0),(3,.int .i64 k)]) t.cases.length (λk=>iu t k=0) (by simp (disch:=omega) only[agr,ZG,reduceEqDiff,↓reduceIte,il,so]) ?_;intro k hk hz;by_cases hk2:k<t.cases.length
 rotate_left
 ·clear zz;have zz:=aI @aG (aI @aA @aH);repeat' (first|refine zW ?_|apply a_n|apply a_x|refine zO ?_|refine vZ ?_|(refine zGZ ?_ ?_<;>(intro _hg;try (exfalso;omega)))|refine au rfl ?_|refine r1Z ?_|fail)
  rw[bW λi hi=>hz i (by omega)];exact .int _ _
 have hc:=hone k hk2;by_cases hE:iu t k=0
 ·rw[hE] at hc;clear zz;have zz:=aI @aG (aI @aA @aH);repeat' (first|refine zW ?_|apply a_n|refine zO ?_|refine vZ ?_|refine cZ ?_ (hp:=hc)|(refine zGZ ?_ ?_<;>(intro _hg;try (exfalso;omega)))|fail)
  exact⟨hk2,hE,ag0,rfl,rfl⟩
 ·rw[dE hk2 hz hE];generalize iu t k=V at *;clear zz;have zz:=aI @aG (aI @aA @aH);repeat' (first|refine zW ?_|apply a_n|apply a_r|refine zO ?_|refine vZ ?_|refine cZ ?_ (hp:=hc)|(refine zGZ ?_ ?_<;>(intro _hg;try (exfalso;omega)))|refine au rfl ?_|refine r1Z ?_|fail)
  exact .int _ _
theorem Hx(l:List (List Int))(hl:Sh l)(hs:∀x∈l,Sh x):pU 71 [ay l,.int .i64 30] (.bool (nB l)):=by
 refine pO QY ?_;simp only[b71,aw];have hl':l.length<=17592186044416:=hl;unfold nB;by_cases h0:l.length<=30
 rotate_left
 ·rw[bR h0]
  repeat' (first|refine zW ?_|apply a_n|apply a_r|refine zO ?_|refine vZ ?_|(refine zGZ ?_ ?_<;>(intro _hg;try (exfalso;omega)))|refine au rfl ?_|refine r1Z ?_|fail)
  exact .bool _
 rw[bV h0,Bool.true_and]
 repeat' (first|refine zW ?_|apply a_n|refine zO ?_|refine vZ ?_|(refine zGZ ?_ ?_<;>(intro _hg;try (exfalso;omega)))|fail)
 refine ta (λk=>[(0,ay l),(5,.int .i64 k)]) l.length (λk=>decide ((l.getD k default).length<=10)=true) ag0 ?_;intro k hk hz;by_cases hk2:k<l.length
 rotate_left
 ·repeat' (first|refine zW ?_|apply a_n|apply a_x|refine zO ?_|refine vZ ?_|(refine zGZ ?_ ?_<;>(intro _hg;try (exfalso;omega)))|refine au rfl ?_|refine r1Z ?_|fail)
  rw[oe λi hi=>hz i (by omega)];exact .bool _
 have hsk:(l.getD k default).length<=17592186044416:=hs _ (ao hk2);by_cases hE:(l.getD k default).length<=10
 ·repeat' (first|refine zW ?_|apply a_n|refine zO ?_|refine vZ ?_|(refine zGZ ?_ ?_<;>(intro _hg;try (exfalso;omega)))|fail)
  exact⟨hk2,bV hE,ag0,rfl,rfl⟩
 ·repeat' (first|refine zW ?_|apply a_n|apply a_r|refine zO ?_|refine vZ ?_|(refine zGZ ?_ ?_<;>(intro _hg;try (exfalso;omega)))|refine au rfl ?_|refine r1Z ?_|fail)
  rw[kq (p:=λv=>decide (v.length<=10)) hk2 (bR hE)];exact .bool _
theorem QZ(t:TaskV)(hs:∀c∈t.cases,ShC c)(hsc:Sh t.cases):pU 34 [gu t] (.bool (wh t)):=by
 refine pO QU ?_;simp only[b34,aw];have hsc':t.cases.length<=17592186044416:=hsc;unfold wh gu;by_cases h0:t.cases.length<=30
 rotate_left
 ·rw[bR h0];have zz:=aI @aG (aI @aA @aH);repeat' (first|refine zW ?_|apply a_n|apply a_r|refine zO ?_|refine vZ ?_|refine bxZ ?_|(refine zGZ ?_ ?_<;>(intro _hg;try (exfalso;omega)))|refine au rfl ?_|refine r1Z ?_|fail)
  exact .bool _
 rw[bV h0,Bool.true_and];have zz:=aI @aG (aI @aA @aH);repeat' (first|refine zW ?_|apply a_n|refine zO ?_|refine vZ ?_|refine bxZ ?_|(refine zGZ ?_ ?_<;>(intro _hg;try (exfalso;omega)))|fail)
 refine bt (X:=Nat) (λk=>[(1,.ptr 0 4 0),(3,.int .i64 k)]) (λk H nx=>k<=t.cases.length/\(∀i,i<k->uM (t.cases.getD i default)=true)/\1<=nx/\H 0=some [.int .i64 t.n,.int .i64 t.ins,.int .i64 t.outs,bu t.cases]) (λk=>t.cases.length-k) 0 ⟨bo _,λi h=>absurd h (by omega),bd _,rfl⟩ (by simp (disch:=omega) only[agr,ZG,reduceEqDiff,↓reduceIte,il,so]) ?_;rintro k H nx ⟨hk,hz,hn,g0⟩;by_cases hk2:k<t.cases.length
 rotate_left
 ·clear zz;have zz:=aI @g0 (aI @aG (aI @aA @aH));repeat' (first|refine zW ?_|apply a_n|apply a_x|refine zO ?_|refine vY ?_|(refine zGY ?_ ?_<;>(intro _hg;try (exfalso;omega)))|refine au rfl ?_|refine r1Y ?_|fail)
  rw[oe λi hi=>hz i (by omega)];exact .bool _
 have ix:=bK hk2;obtain⟨s1,s2,s3,s4,s5⟩:=hs _ (ao hk2);have hf1:=Hx _ s2 s3;have hf2:=Hx _ s4 s5;have hF:uM (t.cases.getD k default)=(decide ((t.cases.getD k default).inp.length<=10)&&nB (t.cases.getD k default).out&&nB (t.cases.getD k default).calm):=rfl
 have hno:uM (t.cases.getD k default)=false->Snap H (.bool false) (.bool (t.cases.all uM)):=λh=>by
  rw[kq hk2 h];exact .bool _
 have hno':∀{H'},uM (t.cases.getD k default)=false->Snap H' (.bool false) (.bool (t.cases.all uM)):=λh=>by
  rw[kq hk2 h];exact .bool _
 have s1':(t.cases.getD k default).inp.length<=17592186044416:=s1;generalize nB (t.cases.getD k default).out=F1 at *;generalize nB (t.cases.getD k default).calm=F2 at *;by_cases hl:(t.cases.getD k default).inp.length<=10
 rotate_left
 ·rw[bR hl] at hF;clear zz;have zz:=aI @g0 (aI @aG (aI @aA (aI @aH @ix)));repeat' (first|refine zW ?_|apply a_n|apply a_r|refine zO ?_|refine vY ?_|refine alY ?_|refine stY ?_|refine gFY ?_|refine cTY ?_|(refine zGY ?_ ?_<;>(intro _hg;try (exfalso;omega)))|refine au rfl ?_|refine r1Y ?_|fail)
  all_goals exact hno' hF
 rw[bV hl,Bool.true_and] at hF;cases F1 with
 |false=>
  clear zz;have zz:=aI @g0 (aI @aG (aI @aA (aI @aH (aI @ix @dZ))));repeat' (first|refine zW ?_|apply a_n|apply a_r|refine zO ?_|refine vY ?_|refine cY ?_ (hp:=by first|exact hf1|exact hf2)|refine alY ?_|refine stY ?_|refine gTY ?_|refine gFY ?_|refine cTY ?_|(refine zGY ?_ ?_<;>(intro _hg;try (exfalso;omega)))|refine au rfl ?_|refine r1Y ?_|fail)
  all_goals exact hno' hF
 |true=>
  cases F2 with
  |false=>
   clear zz;have zz:=aI @g0 (aI @aG (aI @aA (aI @aH (aI @ix @dZ))));repeat' (first|refine zW ?_|apply a_n|apply a_r|refine zO ?_|refine vY ?_|refine cY ?_ (hp:=by first|exact hf1|exact hf2)|refine alY ?_|refine stY ?_|refine gTY ?_|refine cTY ?_|(refine zGY ?_ ?_<;>(intro _hg;try (exfalso;omega)))|refine au rfl ?_|refine r1Y ?_|fail)
   all_goals exact hno' hF
  |true=>
   clear zz;have zz:=aI @g0 (aI @aG (aI @aA (aI @aH (aI @ix @dZ))));repeat' (first|refine zW ?_|apply a_n|refine zO ?_|refine vY ?_|refine cY ?_ (hp:=by first|exact hf1|exact hf2)|refine alY ?_|refine stY ?_|refine gTY ?_|refine cFY ?_|(refine zGY ?_ ?_<;>(intro _hg;try (exfalso;omega)))|fail)
   refine⟨k+1,by omega,⟨by omega,λi hi=>?_,by omega,?_⟩,ag0⟩
   ·rcases lJ.1 hi with h|rfl
    ·exact hz i h
    ·exact hF
   ·rw[ab (by omega),ab (by omega),g0]
theorem uw(n:Nat)(hn:n<=60):pU 165 [.int .i64 n] (.int .i64 ((2^n:Nat):Int)):=by
 refine pO NM ?_;simp only[Ql,aw];refine wnZ and_self ?_;refine bt (X:=Nat) (λk=>[(0,.int .i64 n),(3,.int .i64 ((2^k:Nat):Int)),(4,.int .i64 (k:Nat))]) (λk H' nx'=>k<=n) (λk=>n-k) 0 (bo _) (by simp (disch:=omega) only[agr,ZG,reduceEqDiff,↓reduceIte,Nat.pow_zero]) ?_;intro k H nx hk;by_cases e:k=n
 ·subst e;refine wnZ and_self ?_;exact aB rfl
 ·have h2:2^k<=2^60:=Nat.pow_le_pow_right (by omega) (by omega);have hs:2^(k+1)=2^k*2:=Nat.pow_succ ..;rw[show(2:Nat)^60=1152921504606846976 from rfl] at h2;obtain⟨w,hw⟩:∃w,2^k=w:=⟨_,rfl⟩
  obtain⟨w2,hw2⟩:∃w,2^(k+1)=w:=⟨_,rfl⟩
  rw[hw] at h2 hs |-;rw[hw2] at hs;have h3:((w:Nat):Int)*2=(w2:Int):=by omega
  have h5:IntKind.wrap .i64 ((w2:Nat):Int)=(w2:Int):=i9 (by omega) (by omega);refine wnZ (aI @h3 @h5) ?_;exact⟨k+1,by omega,by omega,by rw[hw2];simp (disch:=omega) only[agr,ZG,reduceEqDiff,↓reduceIte]⟩
theorem Ka(n:Nat)(hn:n<=60):pU 221 [.int .i64 n] (.int .i64 (((2^n:Nat):Int)-1)):=by
 have hp:=uw n hn;have h2:2^n<=2^60:=Nat.pow_le_pow_right (by omega) (by omega);have h3:0<2^n:=Nat.pow_pos (by omega);generalize 2^n=w at *;refine pO Pm ?_;simp only[Qo,aw];refine wnZ and_self ?_;exact aB rfl
theorem qW(f:Int)(p:Nat)(h0:0<=f)(h1:f<=9223372036854775807)(hp:p<=60):pU 130 [.int .i64 f,.int .i64 p] (.bool (hasFl f p)):=by
 have hw:=uw p hp;have h3:0<2^p:=Nat.pow_pos (by omega);unfold hasFl;generalize 2^p=w at *;refine pO PN ?_;simp only[Ob,aw];have hq:=Dq (tb:=false) (tf:=false) h0 h1 (b:=(w:Int)) (by omega);have hr:=yE (k:=.i64) (tb:=false) (tf:=false) (a:=f/(w:Int)) (b:=2) (Int.ediv_nonneg h0 (by omega)) (by omega);refine wnZ (aI @hq @hr) ?_;exact dF rfl
theorem Jj(n:Int):pU 222 [.int .i64 n] (.int .i64 (if n<1\/5<n then 1 else 0)):=by
 refine pO N6 ?_;simp only[Qc,aw]
 repeat' (first|refine zW ?_|apply a_n|apply a_r|refine zO ?_|refine vZ ?_|refine gTZ ?_|refine gFZ ?_|refine cTZ ?_|(refine zGZ ?_ ?_<;>(intro _hg;try (exfalso;omega)))|refine au rfl ?_|refine r1Z ?_|fail)
 all_goals (refine aB ?_;split<;>first|rfl|omega)
theorem IG(n:Int):pU 203 [.int .i64 n] (.int .i64 (if n<1\/5<n then 1 else 0)):=by
 refine pO OX ?_;simp only[Qx,aw]
 repeat' (first|refine zW ?_|apply a_n|apply a_r|refine zO ?_|refine vZ ?_|refine gTZ ?_|refine gFZ ?_|refine cTZ ?_|(refine zGZ ?_ ?_<;>(intro _hg;try (exfalso;omega)))|refine au rfl ?_|refine r1Z ?_|fail)
 all_goals (refine aB ?_;split<;>first|rfl|omega)
theorem Fv(n f:Int):pU 197 [.int .i64 n,.int .i64 f] (.int .i64 (GX n f)):=by
 refine pO NP ?_;simp only[Nq,aw];have hp:=Jj n;unfold GX;by_cases h:n<1\/5<n
 ·rw[if_pos h] at hp |-;refine wnZ and_self ?_;exact aB rfl
 rw[if_neg h] at hp |-;obtain⟨k,rfl⟩:∃k:Nat,n=k:=⟨n.toNat,by omega⟩
 have hw:=uw k (by omega);rw[show pw (k:Int)=((2^k:Nat):Int) from rfl];generalize ((2^k:Nat):Int)=w at *
 repeat' (first|refine zW ?_|apply a_n|apply a_r|refine zO ?_|refine vZ ?_|refine cZ ?_ (hp:=by first|exact hp|exact hw)|refine gTZ ?_|refine gFZ ?_|refine cTZ ?_|(refine zGZ ?_ ?_<;>(intro _hg;try (exfalso;omega)))|refine au rfl ?_|refine r1Z ?_|fail)
 all_goals (refine aB ?_;split<;>first|rfl|omega)
theorem ET(r:RndV):pU 196 [jN r] (.int .i64 (jX r)):=by
 refine pO Qv ?_;simp only[Nf,aw];unfold jX jN;rw[PC.2.1];by_cases h:r.n<1\/5<r.n
 ·rw[if_pos h]
  repeat' (first|refine zW ?_|apply a_n|apply a_r|refine zO ?_|refine vZ ?_|refine bxZ ?_|refine gTZ ?_|refine gFZ ?_|refine cTZ ?_|(refine zGZ ?_ ?_<;>(intro _hg;try (exfalso;omega)))|refine au rfl ?_|refine r1Z ?_|fail)
  all_goals first|exact aB rfl|omega
 rw[if_neg h];obtain⟨k,hk⟩:∃k:Nat,r.n=k:=⟨r.n.toNat,by omega⟩
 have hfu:=Ka k (by omega);have hg:∀p,mC r p=if r.n<=p then(if r.hs.getD p 0=0 then 0 else 3) else if r.hs.getD p 0<0\/pw r.n-1<r.hs.getD p 0 then 2 else if hasFl (r.hs.getD p 0) p=true then 0 else 3:=λ_=>rfl
 have hcell:=λq hq=>mO r (q:=q) hq;have hpw:=yV (n:=r.n) (by omega);rw[hk] at hcell hpw;rw[<-rn hk,hk] at hfu;rw[hk] at hg h |-;refine wnZ and_self ?_;generalize pw (k:Int)=w at *;refine gZ (X:=Nat) (λq=>[(1,.ptr 0 6 0),(3,.int .i64 q)]) (λq=>q<=5/\∀i,i<q->mC r i=0) (λq=>5-q) 0 ⟨bo _,λi hi=>absurd hi (Nat.not_lt_zero _)⟩ (by simp (disch:=omega) only[agr,ZG,reduceEqDiff,↓reduceIte,SL]) ?_;rintro q ⟨h1,h2⟩;by_cases hq:q<5
 rotate_left
 ·refine wnZ and_self ?_;refine aB ?_;exact(bW λi hi=>h2 i (by omega)).symm
 have hc:=hcell q hq;have hgq:=hg q;have hstop:∀(c:Int)(H:Hp),mC r q=c->c≠0->Snap H (.int .i64 c) (.int .i64 (bU (mC r) 5)):=λc H hc h0=>aB (by rw[dE (by omega) h2 (by rw[hc];exact h0),hc])
 have hgo:mC r q=0→(q + 1 ≤ 5∧∀ i,i < q + 1→mC r i=0)∧5 - (q + 1) < 5 - q:=fun hc=>⟨⟨by omega,fun i hi=>by
  rcases lJ.1 hi with h|rfl
  ·exact h2 i h
  ·exact hc⟩,by omega⟩
 generalize r.hs.getD q 0=x at *;by_cases hn:(k:Int)<=q
 ·rw[if_pos hn] at hgq;by_cases hx:x=0
  ·rw[if_pos hx] at hgq;refine wnZ (aI @IX @hc) ?_;exact⟨q+1,(hgo hgq).1,(hgo hgq).2,ag0,rfl,rfl⟩
  ·rw[if_neg hx] at hgq;refine wnZ (aI @IX @hc) ?_;exact hstop _ _ hgq (by decide)
 rw[if_neg hn] at hgq;by_cases hx:x<0\/w-1<x
 ·rw[if_pos hx] at hgq;have zz:=aI @IX @hc;repeat' (first|refine zW ?_|apply a_n|apply a_r|refine zO ?_|refine vZ ?_|refine cZ ?_ (hp:=hfu)|refine gTZ ?_|refine gFZ ?_|refine cTZ ?_|(refine zGZ ?_ ?_<;>(intro _hg;try (exfalso;omega)))|refine au rfl ?_|refine r1Z ?_|fail)
  all_goals first|exact hstop _ _ hgq (by decide)|omega
 ·rw[if_neg hx] at hgq;have hhas:=qW x q (by omega) (by omega) (by omega);cases hb:hasFl x q with
  |true=>
   rw[hb,if_pos rfl] at hgq;rw[hb] at hhas;refine wnZ (aI @IX @hc) ?_;exact⟨q+1,(hgo hgq).1,(hgo hgq).2,ag0,rfl,rfl⟩
  |false=>
   rw[hb,if_neg (by decide)] at hgq;rw[hb] at hhas;refine wnZ (aI @IX @hc) ?_;exact hstop _ _ hgq (by decide)
theorem Eu(r:RndV):pU 162 [cJ r] (.int .i64 (gp r)):=by
 refine pO PT ?_;simp only[N3,aw];have hg:=ET r;have hs:=Fv r.n r.f;have hd:=ie r;unfold gp cJ;unfold jN at hg hd;rw[PC.2.1] at hg hd;rw[PC.1];generalize jX r=e at *
 repeat' (first|refine zW ?_|apply a_n|apply a_r|refine zO ?_|refine vZ ?_|refine cZ ?_ (hp:=by first|exact hg|exact hs)|refine bxZ ?_|(refine zGZ ?_ ?_<;>(intro _hg;try (exfalso;omega)))|refine au rfl ?_|refine r1Z ?_|fail)
 ·rw[if_pos _hg];exact .int _ _
 ·rw[if_neg (by omega)];exact .int _ _
theorem Bj(r s:RndV):pU 198 [jN r,jN s] (.int .i64 (aD r.gi s.gi)):=by
 refine pO Qj ?_;simp only[OD,aw];have h0:r.n≠s.n->aD r.gi s.gi=if r.n<s.n then-1 else 1:=λh=>n8 (q:=0) (l:=r.gi) (m:=s.gi) (Nat.zero_lt_succ _) (Nat.zero_lt_succ _) (λi hi=>absurd hi (Nat.not_lt_zero _)) h
 have hq1:∀ q,q < 5→r.n=s.n→(∀ i,i < q→r.hs.getD i 0=s.hs.getD i 0)→r.hs.getD q 0 ≠ s.hs.getD q 0→aD r.gi s.gi=if r.hs.getD q 0 < s.hs.getD q 0 then -1 else 1:=fun q hq h1 h2 h3=>n8 (q:=q + 1) (l:=r.gi) (m:=s.gi) (show q + 1 < 6 by omega) (show q + 1 < 6 by omega) (fun i hi=>by
  cases i with
  |zero=>exact h1
  |succ i=>exact h2 i (by omega)) h3
 have he:r.n=s.n->(∀i,i<5->r.hs.getD i 0=s.hs.getD i 0)->aD r.gi s.gi=0:=λh1 h2=>zu (l:=r.gi) (m:=s.gi) rfl λi hi=>by
  cases i with
  |zero=>exact h1
  |succ i=>exact h2 i (by have:i+1<6:=hi;omega)
 have hc1:=λq hq=>mO r (q:=q) hq;have hc2:=λq hq=>mO s (q:=q) hq;unfold jN;rw[PC.2.1,PC.2.1];generalize aD r.gi s.gi=O at *
 repeat' (first|refine zW ?_|apply a_n|apply a_r|refine zO ?_|refine vZ ?_|refine bxZ ?_|(refine zGZ ?_ ?_<;>(intro _hg;try (exfalso;omega)))|refine au rfl ?_|refine r1Z ?_|fail)
 ·exact aB (by rw[h0 (by omega),if_pos _hg])
 ·exact aB (by rw[h0 (by omega),if_neg (by omega)])
 have hrs:r.n=s.n:=by omega
 refine gZ (X:=Nat) (λq=>[(2,.ptr 0 6 0),(3,.ptr 1 6 0),(5,.int .i64 q)]) (λq=>q<=5/\∀i,i<q->r.hs.getD i 0=s.hs.getD i 0) (λq=>5-q) 0 ⟨bo _,λi hi=>absurd hi (Nat.not_lt_zero _)⟩ (by simp (disch:=omega) only[agr,ZG,reduceEqDiff,↓reduceIte,SL]) ?_;rintro q ⟨h1,h2⟩;by_cases hq:q<5
 rotate_left
 ·refine wnZ and_self ?_;exact aB (he hrs λi hi=>h2 i (by omega)).symm
 have hx:=hc1 q hq;have hy:=hc2 q hq;have hz:=hq1 q hq hrs h2
 have hgo:r.hs.getD q 0=s.hs.getD q 0->∀i,i<q+1->r.hs.getD i 0=s.hs.getD i 0:=λh i hi=>by
  rcases lJ.1 hi with h|rfl
  ·exact h2 i h
  ·exact h
 generalize r.hs.getD q 0=x at *;generalize s.hs.getD q 0=y at *;have zz:=aI @IX (aI @hx @hy);repeat' (first|refine zW ?_|apply a_n|apply a_r|refine zO ?_|refine vZ ?_|(refine zGZ ?_ ?_<;>(intro _hg;try (exfalso;omega)))|refine au rfl ?_|refine r1Z ?_|fail)
 ·exact aB (by rw[hz (by omega),if_pos _hg])
 ·exact aB (by rw[hz (by omega),if_neg (by omega)])
 ·exact⟨q+1,⟨by omega,hgo (by omega)⟩,by omega,ag0,rfl,rfl⟩
theorem AH(r s:RndV):pU 163 [cJ r,cJ s] (.int .i64 (aD r.ints s.ints)):=by
 refine pO Oa ?_;simp only[OU,aw];have hg:=Bj r s
 have e:aD r.ints s.ints=if aD r.gi s.gi≠0 then aD r.gi s.gi else if r.f<s.f then-1 else if r.f>s.f then 1 else 0:=by
  rw[tJ,tJ,rJ (l:=r.gi) (m:=s.gi) _ _ rfl];rfl
 have d1:=ie r;have d2:=ie s;unfold cJ;unfold jN at hg d1 d2;rw[PC.2.1] at d1 d2;rw[PC.2.1,PC.2.1] at hg;rw[PC.1,PC.1,e];generalize aD r.gi s.gi=O at *
 repeat' (first|refine zW ?_|apply a_n|apply a_r|refine zO ?_|refine vZ ?_|refine cZ ?_ (hp:=hg)|refine bxZ ?_|(refine zGZ ?_ ?_<;>(intro _hg;try (exfalso;omega)))|refine au rfl ?_|refine r1Z ?_|fail)
 all_goals refine aB ?_
 ·rw[if_pos _hg]
 ·rw[if_neg (by omega),if_pos (by omega)]
 ·rw[if_neg (by omega),if_neg (by omega),if_pos (by omega)]
 ·rw[if_neg (by omega),if_neg (by omega),if_neg (by omega)]
theorem EJ(r s:RndV):pU 172 [jN r,jN s] (.int .i64 (aD r.gi s.gi)):=by
 refine pO NT ?_;simp only[Nh,aw];have h0:r.n≠s.n->aD r.gi s.gi=if r.n<s.n then-1 else 1:=λh=>n8 (q:=0) (l:=r.gi) (m:=s.gi) (Nat.zero_lt_succ _) (Nat.zero_lt_succ _) (λi hi=>absurd hi (Nat.not_lt_zero _)) h
 have hq1:∀ q,q < 5→r.n=s.n→(∀ i,i < q→r.hs.getD i 0=s.hs.getD i 0)→r.hs.getD q 0 ≠ s.hs.getD q 0→aD r.gi s.gi=if r.hs.getD q 0 < s.hs.getD q 0 then -1 else 1:=fun q hq h1 h2 h3=>n8 (q:=q + 1) (l:=r.gi) (m:=s.gi) (show q + 1 < 6 by omega) (show q + 1 < 6 by omega) (fun i hi=>by
  cases i with
  |zero=>exact h1
  |succ i=>exact h2 i (by omega)) h3
 have he:r.n=s.n->(∀i,i<5->r.hs.getD i 0=s.hs.getD i 0)->aD r.gi s.gi=0:=λh1 h2=>zu (l:=r.gi) (m:=s.gi) rfl λi hi=>by
  cases i with
  |zero=>exact h1
  |succ i=>exact h2 i (by have:i+1<6:=hi;omega)
 have hs0:[r.n,r.h0,r.h1,r.h2,r.h3,r.h4]=[s.n,s.h0,s.h1,s.h2,s.h3,s.h4]->aD r.gi s.gi=0:=λh=>sf.2 h;have hc1:=λq hq=>mO r (q:=q) hq;have hc2:=λq hq=>mO s (q:=q) hq;have hcn:=CY r.n s.n;unfold jN;rw[PC.2.1,PC.2.1];generalize aD r.gi s.gi=O at *;have zz:=@EQ;repeat' (first|refine zW ?_|apply a_n|apply a_r|refine zO ?_|refine vZ ?_|refine cZ ?_ (hp:=hcn)|refine bxZ ?_|(refine zGZ ?_ ?_<;>(intro _hg;try (exfalso;omega)))|refine au rfl ?_|refine r1Z ?_|fail)
 ·exact aB (hs0 _hg).symm
 ·refine aB ?_;rw[h0 (by omega)];split
  ·rfl
  ·rw[if_pos (by omega)]
 have hrs:r.n=s.n:=by omega
 refine gZ (X:=Nat) (λq=>[(2,.ptr 0 6 0),(3,.ptr 1 6 0),(20,.int .i64 q)]) (λq=>q<=5/\∀i,i<q->r.hs.getD i 0=s.hs.getD i 0) (λq=>5-q) 0 ⟨bo _,λi hi=>absurd hi (Nat.not_lt_zero _)⟩ (by simp (disch:=omega) only[agr,ZG,reduceEqDiff,↓reduceIte,SL]) ?_;rintro q ⟨h1,h2⟩;by_cases hq:q<5
 rotate_left
 ·refine wnZ and_self ?_;exact aB (he hrs λi hi=>h2 i (by omega)).symm
 have hx:=hc1 q hq;have hy:=hc2 q hq;have hz:=hq1 q hq hrs h2
 have hgo:r.hs.getD q 0=s.hs.getD q 0->∀i,i<q+1->r.hs.getD i 0=s.hs.getD i 0:=λh i hi=>by
  rcases lJ.1 hi with h|rfl
  ·exact h2 i h
  ·exact h
 generalize r.hs.getD q 0=x at *;generalize s.hs.getD q 0=y at *;have hcq:=CY x y;by_cases hxy:x=y
 ·rw[if_neg (by omega),if_neg (by omega)] at hcq;refine wkZ (zI3 @IX @hx @hy) ?_;exact⟨q+1,⟨by omega,hgo hxy⟩,by omega,ag0,rfl,rfl⟩
 ·rw[hz hxy]
  have e:(if x<y then(-1:Int) else if x>y then 1 else 0)=if x<y then-1 else 1:=by
   split
   ·rfl
   ·rw[if_pos (by omega)]
  rw[e] at hcq;have ne:(if x<y then(-1:Int) else 1)≠0:=by split<;>decide
  generalize (if x<y then(-1:Int) else 1)=z at *;refine wkZ (zI3 @IX @hx @hy) ?_;exact aB rfl
theorem rP(r s:RndV):pU 139 [cJ r,cJ s] (.int .i64 (aD r.ints s.ints)):=by
 refine pO NG ?_;simp only[Pd,aw];have hg:=EJ r s
 have e:aD r.ints s.ints=if aD r.gi s.gi≠0 then aD r.gi s.gi else if r.f<s.f then-1 else if r.f>s.f then 1 else 0:=by
  rw[tJ,tJ,rJ (l:=r.gi) (m:=s.gi) _ _ rfl];rfl
 have e0:[r.n,r.h0,r.h1,r.h2,r.h3,r.h4,r.f]=[s.n,s.h0,s.h1,s.h2,s.h3,s.h4,s.f]->aD r.ints s.ints=0:=λh=>sf.2 h;have e1:[r.n,r.h0,r.h1,r.h2,r.h3,r.h4]=[s.n,s.h0,s.h1,s.h2,s.h3,s.h4]↔aD r.gi s.gi=0:=sf.symm;have hc:=CY r.f s.f;have d1:=ie r;have d2:=ie s;unfold cJ;unfold jN at hg d1 d2;rw[PC.2.1] at d1 d2;rw[PC.2.1,PC.2.1] at hg;rw[PC.1,PC.1];generalize aD r.ints s.ints=OO at *;generalize aD r.gi s.gi=O at *;generalize (if r.f<s.f then(-1:Int) else if r.f>s.f then 1 else 0)=z at *;have zz:=@EQ;repeat' (first|refine zW ?_|apply a_n|apply a_r|refine zO ?_|refine vZ ?_|refine cZ ?_ (hp:=by first|exact hg|exact hc)|refine bxZ ?_|(refine zGZ ?_ ?_<;>(intro _hg;try (exfalso;omega)))|refine au rfl ?_|refine r1Z ?_|fail)
 all_goals refine aB ?_
 ·exact(e0 _hg).symm
 ·rw[e,if_pos λh=>_hg (e1.2 h)]
 ·rw[e,if_neg λh=>h (e1.1 _hg)]
theorem CU(a:AdvV)(h:ShA a):pU 72 [ce a] (.int .i64 (dn a.states:Nat)):=by
 refine pO RK ?_;simp only[b72,aw];obtain⟨h1,h2⟩:=h
 have ht:∀k,dn (a.states.take k)<=140737488355328:=λk=>by
  have:=xl (l:=a.states.take k) (B:=17592186044416) λx hx=>h2 x (BK hx);have h3:=List.length_take_le k a.states;have h4:(a.states.take k).length<=8:=by rw[jg];omega
  omega
 unfold ce;rw[PC.2.2.2.1];refine wnZ @PE ?_;refine gZ (X:=Nat) (λk=>[(1,.ptr 0 2 0),(3,.int .i64 (dn (a.states.take k):Nat)),(4,.int .i64 k)]) (λk=>k<=a.states.length) (λk=>a.states.length-k) 0 (bo _) (by have e0:dn (a.states.take 0)=0:=rfl;simp (disch:=omega) only[agr,ZG,reduceEqDiff,↓reduceIte,SL,e0]) ?_;intro k hk;by_cases hlt:k<a.states.length
 ·have ix:=tA hlt;have e:=sL hlt;have b1:=ht k;have b2:=ht (k+1);rw[e] at b2;have e3:((dn (a.states.take k):Nat):Int)+((a.states.getD k default).length:Nat)=((dn (a.states.take (k+1)):Nat):Int):=by rw[e];omega
  refine wnZ (aI @PE @ix) ?_;exact⟨k+1,by omega,by omega,(have zz:=@e3;agZ),rfl,rfl⟩
 ·obtain rfl:k=a.states.length:=by omega
  rw[List.take_length];refine wnZ @PE ?_;exact aB rfl
theorem Jo(a:AdvV)(h:a.states.length<=8->ShA a)(hl:a.states.length<=17592186044416):pU 35 [ce a] (.bool (yr a)):=by
 refine pO Ra ?_;simp only[b35,aw];have hd:=bI a;unfold yr;by_cases h1:a.states.length<=8
 ·have hm:=CU a (h h1);unfold ce at hm hd |-;rw[PC.2.2.2.1] at hm hd |-;rw[bV h1,Bool.true_and];generalize dn a.states=M at *;refine wnZ @PE ?_;exact dF (decide_eq_decide.2 (by omega))
 ·rw[bR h1];unfold ce;rw[PC.2.2.2.1];refine wnZ @PE ?_;exact .bool _
theorem G6(a b:Int)(ha:0<=a/\a<=9223372036854775807)(hb:0<=b/\b<=9223372036854775807):pU 164 [.int .i64 a,.int .i64 b] (.bool (iW a b)):=by
 refine pO Ps ?_;simp only[PI,aw];unfold iW;refine wnZ and_self ?_;refine ta (λk=>[(0,.int .i64 a),(1,.int .i64 b),(5,.int .i64 k)]) 5 (λp=>(!hasFl a p || hasFl b p)=true) ag0 ?_;intro k hk hp;by_cases hlt:k<5
 rotate_left
 ·refine wnZ and_self ?_;rw[vP λi hi=>hp i (by omega)];exact .bool _
 have h1:=qW a k ha.1 ha.2 (by omega);have h2:=qW b k hb.1 hb.2 (by omega);have hf:(!hasFl a k || hasFl b k)=false->(List.range 5).all (λp=>!hasFl a p || hasFl b p)=false:=λh=>tI hlt h;cases e1:hasFl a k<;>cases e2:hasFl b k
 all_goals rw[e1] at h1 hf;rw[e2] at h2 hf
 ·refine wnZ and_self ?_;exact⟨hlt,rfl,ag0,rfl,rfl⟩
 ·refine wnZ and_self ?_;exact⟨hlt,rfl,ag0,rfl,rfl⟩
 ·refine wnZ and_self ?_;rw[hf rfl];exact .bool _
 ·refine wnZ and_self ?_;exact⟨hlt,rfl,ag0,rfl,rfl⟩
theorem LL(a:AdvV)(l:List MvV)(i:Nat)(hi:i<l.length)(hl:l.length<=17592186044416):pU 128 [ce a,bD l,.int .i64 i] (.int .i64 (nq a l i)):=by
 refine pO Oe ?_;simp only[Qd,aw];have ix:=ixM hi;have hc:=Eu (l.getD i default).r;have hd:=fV (l.getD i default).r;have hcm:=λp=>AH p (l.getD i default).r;rw[PC.2.2.1] at ix;unfold ce nq;unfold cJ at hc hd hcm;rw[PC.1] at hc hd
 have hcm1:∀p:RndV,pU 163 [.agg [.int .i64 p.n,.int .i64 p.h0,.int .i64 p.h1,.int .i64 p.h2,.int .i64 p.h3,.int .i64 p.h4,.int .i64 p.f],.agg [.int .i64 (l.getD i default).r.n,.int .i64 (l.getD i default).r.h0,.int .i64 (l.getD i default).r.h1,.int .i64 (l.getD i default).r.h2,.int .i64 (l.getD i default).r.h3,.int .i64 (l.getD i default).r.h4,.int .i64 (l.getD i default).r.f]] (.int .i64 (aD p.ints (l.getD i default).r.ints)):=λp=>by
  have:=hcm p;rw[PC.1,PC.1] at this;exact this
 clear hcm;rw[PC.2.2.2.1];cases i with
 |zero=>
  rw[show(0:Nat)-1=0 from rfl];generalize l.getD 0 default=m at *;generalize gp m.r=e at *;have zz:=aI @PE @ix;repeat' (first|refine zW ?_|refine zM ?_|apply a_n|apply a_r|refine zO ?_|refine vZ ?_|refine cZ ?_ (hp:=hc)|refine alZ ?_|refine bxZ ?_|refine stZ ?_|refine gTZ ?_|refine gFZ ?_|refine cTZ ?_|refine cFZ ?_|(refine zGZ ?_ ?_<;>(intro _hg;try (exfalso;omega)))|refine au rfl ?_|refine r1Z ?_|fail)
  all_goals (refine aB ?_;(repeat' split)<;>omega)
 |succ j=>
  have ix2:d9 8 (bD l) (.int .i64 (((j+1:Nat):Int)-1))=some (.iptr (l.getD j default).cs 0):=by
   rw[show((j+1:Nat):Int)-1=(j:Int) by omega];exact ixM (by omega)
  rw[PC.2.2.1] at ix2;rw[show j+1-1=j from rfl];have hcp:=hcm1 (l.getD j default).r;have hdp:=fV (l.getD j default).r;unfold cJ at hdp;rw[PC.1] at hdp;clear hcm1;generalize l.getD (j+1) default=m at *;generalize l.getD j default=p at *;generalize gp m.r=e at *;generalize aD p.r.ints m.r.ints=O at *;have zz:=aI @PE (aI @ix @ix2);repeat' (first|refine zW ?_|refine zM ?_|apply a_n|apply a_r|refine zO ?_|refine vZ ?_|refine cZ ?_ (hp:=by first|exact hc|exact hcp)|refine alZ ?_|refine bxZ ?_|refine stZ ?_|refine gTZ ?_|refine gFZ ?_|refine cTZ ?_|(refine zGZ ?_ ?_<;>(intro _hg;try (exfalso;omega)))|refine au rfl ?_|refine r1Z ?_|fail)
  all_goals (refine aB ?_;(repeat' split)<;>omega)
theorem I1(a:AdvV)(hs:ShA a)(h:∀l∈a.states,∀m∈l,MvOk a m)(h5:a.n<=5):pU 129 [ce a] (.bool (j3 a)):=by
 refine pO Ni ?_;simp only[Pb,aw];obtain⟨h1,h2⟩:=hs;have hp:=yV h5
 have hf:∀l∈a.states,∀m∈l,0<=m.r.f/\m.r.f<=9223372036854775807:=λl hl m hm=>by
  obtain⟨q1,q2,_,_⟩:=h l hl m hm;obtain⟨_,q3,q4⟩:=eX q1;rw[q2] at q4;omega
 have hto:∀l∈a.states,∀m∈l,0<=m.to/\m.to<a.states.length:=λl hl m hm=>⟨(h l hl m hm).to0,(h l hl m hm).to1⟩
 unfold ce;rw[PC.2.2.2.1];refine wnZ @PE ?_;refine bt (X:=Nat) (λs=>[(1,.ptr 0 2 0),(3,.int .i64 s)]) (λs H nx=>s<=a.states.length/\(∀i,i<s->(a.states.getD i default).all (oH a)=true)/\H 0=some [.int .i64 a.n,aN a.states]/\0<nx) (λs=>a.states.length-s) 0 ⟨bo _,λi hi=>absurd hi (Nat.not_lt_zero _),rfl,ji⟩ (by simp (disch:=omega) only[agr,ZG,reduceEqDiff,↓reduceIte,SL]) ?_;rintro s H1 n1 ⟨s1,s2,g1,b1⟩;by_cases hs:s<a.states.length
 rotate_left
 ·refine wnY (aI @PE @g1) ?_;rw[show j3 a=true from oe λi hi=>s2 i (by omega)];exact .bool _
 have ix:=tA hs;have hl:=ao (l:=a.states) hs;have hgl:(a.states.getD s default).all (oH a)=false->j3 a=false:=λq=>kq hs q
 have hgt:(a.states.getD s default).all (oH a)=true->∀i,i<s+1->(a.states.getD i default).all (oH a)=true:=λq i hi=>by
  rcases lJ.1 hi with e|rfl
  ·exact s2 i e
  ·exact q
 have hl2:=h2 _ hl;have hfl:=hf _ hl;have htl:=hto _ hl;generalize a.states.getD s default=l at *;refine wnY (aI @PE @g1) ?_;refine bt (X:=Nat) (λk=>[(1,.ptr 0 2 0),(3,.int .i64 s),(4,.int .i64 k)]) (λk H nx=>k<=l.length/\(∀i,i<k->oH a (l.getD i default)=true)/\H 0=some [.int .i64 a.n,aN a.states]/\0<nx) (λk=>l.length-k) 0 ⟨bo _,λi hi=>absurd hi (Nat.not_lt_zero _),g1,b1⟩ ag0 ?_;clear g1 b1;rintro k H2 n2 ⟨k1,k2,g1,b1⟩;by_cases hk:k<l.length
 rotate_left
 ·refine wnY (zI3 @PE @ix @g1) ?_;exact⟨s+1,by omega,⟨by omega,hgt (oe λi hi=>k2 i (by omega)),g1,b1⟩,ag0⟩
 have ixm:=ixM hk;rw[PC.2.2.1] at ixm;have hm:=ao hk;have hml:oH a (l.getD k default)=false->j3 a=false:=λq=>hgl (kq hk q)
 have hmt:oH a (l.getD k default)=true->∀i,i<k+1->oH a (l.getD i default)=true:=λq i hi=>by
  rcases lJ.1 hi with e|rfl
  ·exact k2 i e
  ·exact q
 have hfm:=hfl _ hm;have htm:=htl _ hm;unfold oH at hml hmt;rw[<-nI] at hml hmt;generalize l.getD k default=m at *;have ixs:=KT (l:=a.states) htm;have hl':=ao (l:=a.states) (k:=m.to.toNat) (by omega);have hl2':=h2 _ hl';have hfl':=hf _ hl';generalize a.states.getD m.to.toNat default=l' at *;refine wnY (zI4 @PE @ix @ixm @g1) ?_;have gm:∀cs,av (av H2 n2 cs) n2 (cE cs 0 [.int .i64 m.r.n,.int .i64 m.r.h0,.int .i64 m.r.h1,.int .i64 m.r.h2,.int .i64 m.r.h3,.int .i64 m.r.h4,.int .i64 m.r.f,.int .i64 m.to]) 0=H2 0:=λcs=>by rw[ab (by omega),ab (by omega)]
 refine bt (X:=Nat) (λj=>[(1,.ptr 0 2 0),(3,.int .i64 s),(4,.int .i64 k),(5,.ptr n2 8 0),(6,.int .i64 j)]) (λj H nx=>j<=l'.length/\(∀i,i<j->iW m.r.f (l'.getD i default).r.f=true)/\H 0=some [.int .i64 a.n,aN a.states]/\0<nx/\H n2=some [.int .i64 m.r.n,.int .i64 m.r.h0,.int .i64 m.r.h1,.int .i64 m.r.h2,.int .i64 m.r.h3,.int .i64 m.r.h4,.int .i64 m.r.f,.int .i64 m.to]) (λj=>l'.length-j) 0 ⟨bo _,λi hi=>absurd hi (Nat.not_lt_zero _),(gm _).trans g1,by omega,ae⟩ (by simp (disch:=omega) only[agr,ZG,reduceEqDiff,↓reduceIte,SL]) ?_;clear g1 b1 gm;rintro j H3 n3 ⟨j1,j2,g1,b1,gm⟩;by_cases hj:j<l'.length
 rotate_left
 ·refine wnY (zI4 @PE @ixs @g1 @gm) ?_;exact⟨k+1,by omega,⟨by omega,hmt (oe λi hi=>j2 i (by omega)),g1,b1⟩,ag0⟩
 have ixj:=ixM hj;rw[PC.2.2.1] at ixj;have hin:=G6 m.r.f (l'.getD j default).r.f hfm (hfl' _ (ao hj));have hjl:iW m.r.f (l'.getD j default).r.f=false->j3 a=false:=λq=>hml (kq hj q);generalize hvj:iW m.r.f (l'.getD j default).r.f=v at *;cases v with
 |true=>
  refine wkY (zI5 @PE @ixs @ixj @g1 @gm) ?_
  exact ⟨j + 1,by omega,⟨by omega,fun i hi=>by
   rcases lJ.1 hi with e|rfl
   ·exact j2 i e
   ·exact hvj,g1,b1,gm⟩,ag0⟩
 |false=>
  refine wkY (zI5 @PE @ixs @ixj @g1 @gm) ?_;rw[hjl rfl];exact .bool _
theorem EM(a:AdvV)(hs:ShA a)(h40:dn a.states<=4096):pU 74 [ce a] (.int .i64 (tx a)):=by
 refine pO QP ?_;simp only[b74,aw];have hmo:=CU a hs;have hd:=bI a;have hgr:(∀l∈a.states,∀m∈l,MvOk a m)->a.n<=5->pU 129 [ce a] (.bool (j3 a)):=λh1 h2=>I1 a hs h1 h2;have hmv:=LL a;obtain⟨h1,h2⟩:=hs;unfold ce at hmo hd hgr hmv |-;rw[PC.2.2.2.1] at hmo hd hgr hmv |-;generalize hM:dn a.states=M at *;have e0:(a.n<1\/5<a.n)->tx a=2:=λh=>by unfold tx;rw[if_pos h]
 have e1:¬(a.n<1\/5<a.n)->a.states.length<1->tx a=5:=λh h'=>by unfold tx;rw[if_neg h,if_pos (.inl h')]
 have e2:¬(a.n<1\/5<a.n)->¬a.states.length<1->tx a=if bU (fq a) a.states.length≠0 then bU (fq a) a.states.length else if j3 a=true then 0 else 21:=λh h'=>by
  unfold tx;rw[if_neg h,if_neg (by omega)]
 by_cases c0:a.n<1\/5<a.n
 ·rw[e0 c0];have zz:=@PE;repeat' (first|refine zW ?_|apply a_n|apply a_r|refine zO ?_|refine vZ ?_|refine bxZ ?_|refine gTZ ?_|refine gFZ ?_|refine cTZ ?_|(refine zGZ ?_ ?_<;>(intro _hg;try (exfalso;omega)))|refine au rfl ?_|refine r1Z ?_|fail)
  all_goals exact aB rfl
 by_cases c1:a.states.length<1
 ·rw[e1 c0 c1];refine wnZ @PE ?_;exact aB rfl
 rw[e2 c0 c1];have hok:∀i,fq a i=0->(∀m∈a.st i,MvOk a m):=λi h=>(AW h).2.1;have hst:∀s,s<a.states.length->(a.st s).length≠0->fq a s=bU (nq a (a.st s)) (a.st s).length:=λs _ h=>by unfold fq;rw[if_neg h]
 have hst0:∀s,s<a.states.length->(a.st s).length=0->fq a s=19:=λs _ h=>by unfold fq;rw[if_pos h]
 refine wnZ @PE ?_;refine gZ (X:=Nat) (λs=>[(1,.ptr 0 2 0),(3,.int .i64 s)]) (λs=>s<=a.states.length/\∀i,i<s->fq a i=0) (λs=>a.states.length-s) 0 ⟨bo _,λi hi=>absurd hi (Nat.not_lt_zero _)⟩ (by simp (disch:=omega) only[agr,ZG,reduceEqDiff,↓reduceIte,SL]) ?_;rintro s ⟨s1,s2⟩;by_cases hs:s<a.states.length
 rotate_left
 ·have hz:∀i,i<a.states.length->fq a i=0:=λi hi=>s2 i (by omega);rw[if_neg λq=>q (bW hz)]
  have hg:=hgr (fun l hl=>by
   obtain⟨i,hi,rfl⟩:=fS hl;have:=hok i (hz i hi)
   rwa [show a.st i=a.states[i] by simp[AdvV.st,List.getD,hi]] at this) (by omega)
  cases hgv:j3 a with
  |true=>
   rw[hgv] at hg;refine wnZ @PE ?_;exact aB (by rw[if_pos rfl])
  |false=>
   rw[hgv] at hg;refine wnZ @PE ?_;exact aB (by rw[if_neg (by decide)])
 have hstop:∀{c:Int}{H:Hp},fq a s=c->c≠0->Snap H (.int .i64 c) (.int .i64 (if bU (fq a) a.states.length≠0 then bU (fq a) a.states.length else if j3 a=true then 0 else 21)):=λ{c H} q1 q2=>by
  have:=Br hs s2 q1 q2;exact aB (by rw[this,if_pos q2])
 have hgo:fq a s=0->∀i,i<s+1->fq a i=0:=Ia s2;have ix:=tA hs;have hmvl:=λi hi hl=>hmv (a.states.getD s default) i hi hl;have hl2:=h2 _ (ao (l:=a.states) hs);have q1:=hst s hs;have q2:=hst0 s hs;rw[<-nI] at q1 q2;have hd2:=kC (a.states.getD s default);generalize a.states.getD s default=l at *;by_cases h0:l.length=0
 ·refine wnZ (aI @PE @ix) ?_;exact hstop (q2 h0) (by decide)
 have q3:=q1 h0;refine wnZ (aI @PE @ix) ?_;refine gZ (X:=Nat) (λk=>[(1,.ptr 0 2 0),(3,.int .i64 s),(4,.int .i64 k)]) (λk=>k<=l.length/\∀i,i<k->nq a l i=0) (λk=>l.length-k) 0 ⟨bo _,λi hi=>absurd hi (Nat.not_lt_zero _)⟩ ag0 ?_;rintro k ⟨k1,k2⟩;by_cases hk:k<l.length
 rotate_left
 ·refine wnZ (aI @PE @ix) ?_;exact⟨s+1,⟨by omega,hgo (by rw[q3];exact bW λi hi=>k2 i (by omega))⟩,by omega,ag0,rfl,rfl⟩
 have hm:=hmvl k hk (by omega);have hms:nq a l k≠0->fq a s=nq a l k:=λh=>by rw[q3];exact dE hk k2 h
 have hmg:nq a l k=0->∀i,i<k+1->nq a l i=0:=Ia k2;generalize nq a l k=e at *;have zz:=aI @PE @ix;repeat' (first|refine zW ?_|refine zM ?_|apply a_n|apply a_r|refine zO ?_|refine vZ ?_|refine cZ ?_ (hp:=hm)|(refine zGZ ?_ ?_<;>(intro _hg;try (exfalso;omega)))|refine au rfl ?_|refine r1Z ?_|fail)
 ·exact hstop (hms _hg) _hg
 ·exact⟨k+1,⟨by omega,hmg (by omega)⟩,by omega,ag0,rfl,rfl⟩
theorem Cz(a:AdvV)(ha:ShA a)(ho:AdvOk a)(k:Nat)(hk:k<=6)(lim:Int)(hl:0<=lim)(hl2:lim<=1048576):pU 75 [ce a,.int .i64 k,.int .i64 lim] (.int .i64 (lP a k lim)):=by
 refine pO QR ?_;simp only[b75,aw];obtain⟨h1,h2⟩:=ha;have hto:∀l∈a.states,∀m∈l,0<=m.to/\m.to<a.states.length:=λl hl m hm=>⟨(ho.mv l hl m hm).to0,(ho.mv l hl m hm).to1⟩
 have h0:=ho.s1;have hcl:=ue (a:=a) (lim:=lim);have hcb:=tN (a:=a) (lim:=lim) hl;unfold ce lP;rw[PC.2.2.2.1];refine wnY @PE ?_;refine bt (X:=Nat×AV) (λx=>[(1,.int .i64 k),(2,.int .i64 lim),(3,.ptr 0 2 0),(7,x.2),(8,.int .i64 x.1)]) (λx H nx=>x.1<=a.states.length/\H 0=some [.int .i64 a.n,aN a.states]/\0<nx/\Row H 1 x.2 ((List.replicate x.1 (1:Int)).map (AV.int .i64))/\∀b,bk x.2=some b->0<b/\b<nx) (λx=>a.states.length-x.1) (0,.esl) ⟨bo _,ae,ji,.nil,λb h=>(by cases h)⟩ (by simp (disch:=omega) only[agr,ZG,reduceEqDiff,↓reduceIte,SL]) ?_;rintro⟨i,sv⟩ H1 n1 ⟨i1,g0,hn,hrow,hb⟩;dsimp only at i1 hrow hb |-;by_cases hi:i<a.states.length
 ·refine wnY (aI @PE @g0) ?_;refine ed (k:=1) (new:=[.int .i64 1]) rfl ev0 (hrow.same λb h=>by have:=hb b h;rw[ab (by omega)]) ev0 pp rfl rfl ji (by simp;omega) (by simp;omega) ?_;rintro s' H' nx' r1 r2 r3 r4 r5;refine wnY @PE ?_;refine⟨(i+1,s'),by dsimp only;omega,⟨by dsimp only;omega,?_,by omega,?_,λb h=>?_⟩,ag0⟩
  ·rw[r4 0 (by omega) (λh=>by have:=hb 0 h;omega),ab (by omega)];exact g0
  ·dsimp only;rw[List.replicate_succ',dv];exact r1
  ·rcases r5 b h with h|h
   ·have:=hb b h;omega
   ·omega
 obtain rfl:i=a.states.length:=by omega
 have e0:gv a lim 0=List.replicate a.states.length (1:Int):=by unfold gv;exact List.map_const' ..
 rw[<-e0] at hrow;refine wnY (aI @PE @g0) ?_;obtain⟨Hf,H2,z1,z2,z3⟩:=D9 hrow λ_ h=>h.snapI;refine pJ (X:=Nat) (λj=>[(1,.int .i64 k),(2,.int .i64 lim),(3,.ptr 0 2 0),(7,aq (gv a lim j)),(9,.int .i64 j)]) (λj H nx=>j<=k/\H 0=some [.int .i64 a.n,aN a.states]/\0<nx) (λj=>k-j) 0 ⟨Hf,H2,z1,⟨bo _,(z3 0 λh=>by have:=hb 0 h;omega).trans g0,hn⟩,.inl rfl,.inl rfl,.inl rfl,.inr z2,.inl rfl,trivial⟩ ?_;clear z1 z2 z3 hrow hb g0 H2 Hf hn;rintro j H2 n2 ⟨j1,g0,hn⟩;by_cases hj:j<k
 rotate_left
 ·obtain rfl:j=k:=by omega
  have ix:d9 1 (aq (gv a lim j)) (.int .i64 0)=some (.iptr [.int .i64 ((gv a lim j).getD 0 0)] 0):=zR (Int.le_refl _) (by rw[hcl];omega);refine wnY @ix ?_;exact aB rfl
 have hcj:=hcb j;have hcn:∀s,s<a.states.length->(gv a lim (j+1)).getD s default=te lim (gv a lim j) (a.st s):=λs hs=>G5 hs;have hlj:=hcl j;have hlj1:=hcl (j+1);generalize gv a lim j=C at *;refine wnY and_self ?_;refine bt (X:=Nat×AV) (λx=>[(1,.int .i64 k),(2,.int .i64 lim),(3,.ptr 0 2 0),(7,aq C),(9,.int .i64 j),(10,x.2),(11,.int .i64 x.1)]) (λx H nx=>x.1<=a.states.length/\H 0=some [.int .i64 a.n,aN a.states]/\0<nx/\Row H 1 x.2 (((gv a lim (j+1)).take x.1).map (AV.int .i64))/\∀b,bk x.2=some b->0<b/\b<nx) (λx=>a.states.length-x.1) (0,.esl) ⟨bo _,g0,hn,.nil,λb h=>(by cases h)⟩ ag0 ?_;clear g0 hn;rintro⟨s,sv⟩ H3 n3 ⟨s1,g0,hn,hrow,hb⟩;dsimp only at s1 hrow hb |-;by_cases hs:s<a.states.length
 rotate_left
 ·rw[js (by omega)] at hrow;refine wnY (aI @PE @g0) ?_;obtain⟨Hf,H2,z1,z2,z3⟩:=D9 hrow λ_ h=>h.snapI;have ej:((j:Nat):Int)+1=((j+1:Nat):Int):=by omega
  refine⟨j+1,by omega,Hf,H2,z1,⟨by omega,(z3 0 λh=>by have:=hb 0 h;omega).trans g0,hn⟩,?_⟩;refine⟨.inl ev0,.inl ev0,.inl ev0,.inr ?_,.inl (have zz:=@ej;evZ),trivial⟩;have e:∀v,v=sv->Snap Hf v (aq (gv a lim (j+1))):=λv h=>h▸z2;exact e _ ev0
 have ix:=tA hs;have hv:=hcn s hs;rw[<-nI] at hv;have htk:=cT (l:=gv a lim (j+1)) (k:=s) (by omega);rw[hv] at htk;have htl:=hto _ (ao (l:=a.states) hs);have hll:=h2 _ (ao (l:=a.states) hs);generalize a.states.getD s default=l at *;refine wnY (aI @PE @g0) ?_;have hct:=zt hl hcj l;refine gZ (X:=Nat) (λi=>[(1,.int .i64 k),(2,.int .i64 lim),(3,.ptr 0 2 0),(7,aq C),(9,.int .i64 j),(10,sv),(11,.int .i64 s),(12,.int .i64 (wI lim C l i)),(13,.int .i64 i)]) (λi=>i<=l.length) (λi=>l.length-i) 0 (bo _) (by have e:wI lim C l 0=0:=rfl;simp (disch:=omega) only[agr,ZG,reduceEqDiff,↓reduceIte,e]) ?_;intro i hi;by_cases hil:i<l.length
 rotate_left
 ·obtain rfl:i=l.length:=by omega
  rw[AZ];generalize te lim C l=z at *;refine wnY (zI3 @PE @g0 @ix) ?_;refine ed (k:=1) (new:=[.int .i64 z]) rfl ev0 (hrow.same λb h=>by have:=hb b h;rw[ab (by omega)]) ev0 pp rfl rfl ji (by simp;omega) (by simp;omega) ?_;rintro s' H' nx' r1 r2 r3 r4 r5;refine wnY and_self ?_;refine⟨(s+1,s'),by dsimp only;omega,⟨by dsimp only;omega,?_,by omega,?_,λb h=>?_⟩,ag0⟩
  ·rw[r4 0 (by omega) (λh=>by have:=hb 0 h;omega),ab (by omega)];exact g0
  ·dsimp only;rw[htk,dv];exact r1
  ·rcases r5 b h with h|h
   ·have:=hb b h;omega
   ·omega
 have ixm:=ixM hil;rw[PC.2.2.1] at ixm;have hm:=htl _ (ao hil);have hcv:=xp (lim:=lim) (c:=C) hil;have hci:=hct i hi;generalize l.getD i default=m at *;have ixc:d9 1 (aq C) (.int .i64 m.to)=some (.iptr [.int .i64 (C.getD m.to.toNat 0)] 0):=zR hm.1 (by omega);have hcm:=hcj (C.getD m.to.toNat 0) (jp (by omega));generalize C.getD m.to.toNat 0=y at *;generalize wI lim C l i=z at *;refine wnY (zI5 @PE @g0 @ix @ixm @ixc) ?_;exact⟨i+1,by omega,by omega,(have zz:=@hcv;agZ),rfl,rfl⟩
theorem LV(a:AdvV)(ha:ShA a)(ho:AdvOk a):∀(k s:Nat),s<a.states.length->k<=6->(be a k s).length<=4096->pU 76 [ce a,.int .i64 s,.int .i64 k] (ec (be a k s)):=by
 intro k
 induction k with
 |zero=>
  intro s hs hk hw;refine pO OT ?_;simp only[b76,aw];unfold ce;rw[PC.2.2.2.1];have z:decide (((0:Nat):Int)=0)=true:=rfl;refine wnY (aI @PE @z) ?_;refine oh (l:=[bA []]) ae rfl (by simp) rfl (λy hy=>?_) (λi a c ha hc=>?_)
  ·simp at hy;subst hy;rfl
  ·match i with
   |0=>simp at ha hc;subst ha hc;exact .eslsl 7
 |succ k ih=>
  intro s hs hk hw;have hwl:=xK (a:=a) (k:=k) (s:=s)
  have hcall:∀m∈a.st s,(be a k m.to.toNat).length<=4096/\pU 76 [ce a,.int .i64 m.to,.int .i64 k] (ec (be a k m.to.toNat)):=λm hm=>by
   obtain⟨_,_,q1,q2⟩:=ho.mv _ (fF hs) m hm
   have hle:(be a k m.to.toNat).length<=(be a (k+1) s).length:=by
    rw[hwl];exact DK (cC.2 ⟨m,hm,rfl⟩)
   have:=ih m.to.toNat (by omega) (by omega) (by omega);rw[show((m.to.toNat:Nat):Int)=m.to by omega] at this;exact⟨by omega,this⟩
  refine pO OT ?_;simp only[b76,aw];have hd:=bI a;unfold ce at hcall hd |-;rw[PC.2.2.2.1] at hcall hd |-;have z:decide (((k+1:Nat):Int)=0)=false:=bR (by omega);have ix:=tA hs;rw[nI] at ix;have hll:=ha.each _ (fF hs);have hW:be a (k+1) s=(a.st s).flatMap λm=>(be a k m.to.toNat).map λw=>m.r::w:=rfl;rw[hW] at hw |-;have hlen6:∀m∈a.st s,∀w∈be a k m.to.toNat,w.length<=6:=λm _ w hw=>by rw[jU hw];omega
  clear ih hwl hW;generalize a.st s=l at *;have tk:((k+1:Nat):Int)-1=(k:Nat):=by omega
  refine wnY (aI @PE @z) ?_;refine bt (X:=Nat×AV) (λx=>[(1,.int .i64 s),(2,.int .i64 ((k+1:Nat):Int)),(3,.ptr 0 2 0),(7,x.2),(8,.int .i64 x.1)]) (λx H nx=>x.1<=l.length/\H 0=some [.int .i64 a.n,aN a.states]/\0<nx/\Row H 1 x.2 (((l.take x.1).flatMap λm=>(be a k m.to.toNat).map λw=>m.r::w).map bA)/\∀b,bk x.2=some b->0<b/\b<nx) (λx=>l.length-x.1) (0,.esl) ⟨bo _,ae,ji,.nil,λb h=>(by cases h)⟩ (by simp (disch:=omega) only[agr,ZG,reduceEqDiff,↓reduceIte,SL]) ?_;rintro⟨i,sv⟩ H nx ⟨i1,g0,hn,hrow,hb⟩;dsimp only at i1 hrow hb |-;by_cases hi:i<l.length
  rotate_left
  ·rw[js (by omega)] at hrow;refine wnY (zI3 @PE @g0 @ix) ?_;exact Dk hrow
  have ixm:=ixM hi;rw[PC.2.2.1] at ixm;have hm:=ao hi;obtain⟨c1,c2⟩:=hcall _ hm;have c3:=hlen6 _ hm
  have hdl:(((l.take i).flatMap λm=>(be a k m.to.toNat).map λw=>m.r::w)++(be a k (l.getD i default).to.toNat).map λw=>(l.getD i default).r::w).length<=4096:=by
   have e:l.flatMap (λm=>(be a k m.to.toNat).map λw=>m.r::w)=(l.take (i+1)).flatMap (λm=>(be a k m.to.toNat).map λw=>m.r::w)++(l.drop (i+1)).flatMap λm=>(be a k m.to.toNat).map λw=>m.r::w:=by
    rw[<-List.flatMap_append,tH]
   rw[e,cQ,cT hi,List.flatMap_append,lk,List.flatMap_nil,jc] at hw;omega
  have hnx:((l.take (i+1)).flatMap λm=>(be a k m.to.toNat).map λw=>m.r::w)=((l.take i).flatMap λm=>(be a k m.to.toNat).map λw=>m.r::w)++(be a k (l.getD i default).to.toNat).map λw=>(l.getD i default).r::w:=by
   rw[cT hi,List.flatMap_append,lk,List.flatMap_nil,jc]
  generalize be a k (l.getD i default).to.toNat=R at *;generalize l.getD i default=m at *;generalize hD:((l.take i).flatMap λm=>(be a k m.to.toNat).map λw=>m.r::w)=D at *;refine wnY (zI5 @PE @g0 @ix @ixm @tk) ?_;have f0:∀cs x,x<nx->av (av H nx cs) nx (cE cs 0 [.int .i64 m.r.n,.int .i64 m.r.h0,.int .i64 m.r.h1,.int .i64 m.r.h2,.int .i64 m.r.h3,.int .i64 m.r.h4,.int .i64 m.r.f,.int .i64 m.to]) x=H x:=λcs x hx=>by rw[ab (by omega),ab (by omega)]
  refine pJ (X:=Nat×AV) (λx=>[(1,.int .i64 s),(2,.int .i64 ((k+1:Nat):Int)),(3,.ptr 0 2 0),(7,x.2),(8,.int .i64 i),(9,.ptr nx 8 0),(10,ec R),(11,.int .i64 x.1)]) (λx H n=>x.1<=R.length/\H 0=some [.int .i64 a.n,aN a.states]/\nx<n/\H nx=some [.int .i64 m.r.n,.int .i64 m.r.h0,.int .i64 m.r.h1,.int .i64 m.r.h2,.int .i64 m.r.h3,.int .i64 m.r.h4,.int .i64 m.r.f,.int .i64 m.to]/\Row H 1 x.2 ((D++(R.take x.1).map (m.r:: ·)).map bA)/\∀b,bk x.2=some b->0<b/\b≠nx/\b<n) (λx=>R.length-x.1) (0,sv) ⟨aQ,_,Fz.none,⟨bo _,(f0 _ 0 hn).trans g0,by omega,ae,by rw[List.take_zero,List.map_nil,jc];exact hrow.same λb h=>f0 _ b (hb b h).2,λb h=>by have:=hb b h;omega⟩,eT (by simp (disch:=omega) only[agr,ZG,reduceEqDiff,↓reduceIte,SL])⟩ ?_;clear hrow hb g0 f0;rintro⟨j,sv⟩ H1 nx1 ⟨j1,g0,hn1,gm,hrow,hb⟩;dsimp only at j1 hrow hb |-;obtain⟨o1,o2⟩:=hrow.one;by_cases hj:j<R.length
  rotate_left
  ·rw[js (by omega)] at hrow;refine wnY (zI3 @PE @o1 @o2) ?_;exact⟨(i+1,sv),by dsimp only;omega,⟨by dsimp only;omega,g0,by omega,by dsimp only;rw[hnx];exact hrow,λb h=>by have:=hb b h;omega⟩,ag0⟩
  have iy:=Me hj;have hwl:=c3 _ (ao hj)
  have e1:(D++(R.take (j+1)).map (m.r:: ·)).map bA=(D++(R.take j).map (m.r:: ·)).map bA++[bA (m.r::R.getD j default)]:=by
   simp only[cT hj,dv,iw,fY,List.map_nil]
  have hln:((D++(R.take j).map (m.r:: ·)).map bA).length<=4096:=by
   rw[cQ,bj] at hdl;rw[bj,cQ,bj,jg];omega
  generalize R.getD j default=w at *;refine wnY (zI5 @PE @iy @gm @o1 @o2) ?_;refine ed (xv:=bA w) (sv:=.msl nx1 7 7 0 1) (cs:=[.int .i64 m.r.n,.int .i64 m.r.h0,.int .i64 m.r.h1,.int .i64 m.r.h2,.int .i64 m.r.h3,.int .i64 m.r.h4,.int .i64 m.r.f]) rfl ev0 (Row.box nx1 1 _ ae rfl) ev0 uN (yi w) (yz w) (by omega) (by simp;omega) (by simp;omega) ?_;rintro s2 H2 nx2 r1 r2 r3 r4 r5;obtain⟨b2,ln,rfl,hb2,hl2⟩:=jO r1 (by simp)
  have hb3:nx1<=b2/\b2<nx2:=by
   rcases r5 b2 rfl with e|⟨e,_⟩
   ·cases e;omega
   ·omega
  have hcw:[AV.int .i64 m.r.n,.int .i64 m.r.h0,.int .i64 m.r.h1,.int .i64 m.r.h2,.int .i64 m.r.h3,.int .i64 m.r.h4,.int .i64 m.r.f]++cL cJ w=cL cJ (m.r::w):=rfl;rw[hcw] at hb2 hl2;refine wnY and_self ?_;have hold:∀b,b<nx1->H2 b=H1 b:=λb hb=>by rw[r4 b (by omega) (λe=>by cases e;omega),ab (by omega)]
  refine ed rfl ev0 (hrow.same λb h=>by rw[ab (by have:=hb b h;omega)];exact hold b (hb b h).2.2) ev0 (k:=1) (new:=[.msl b2 (ln*7) 7 0 ln]) pp rfl rfl ji (by omega) (by omega) ?_;rintro s3 H3 nx3 u1 u2 u3 u4 u5;have hx:∀x,x<nx1->bk sv≠some x->H3 x=H1 x:=λx h1 h2=>by rw[u4 x (by omega) h2,ab (by omega)];exact hold x h1
  have hb4:H3 b2=some (cL cJ (m.r::w)):=by
   rw[u4 b2 (by omega) (λe=>by have:=hb b2 e;omega),ab (by omega)];exact hb2
  obtain ⟨H4,hfz,hr4,hs4⟩:=nY (x':=bA (m.r :: w)) u1 hb4 (BZ (Row.box b2 ln _ ez hl2)) (fun e=>by
   rcases u5 b2 e with h|h
   ·have:=hb b2 h;omega
   ·omega)
  have hz:∀x,x<nx1->bk sv≠some x->H4 x=H1 x:=λx h1 h2=>by
   rw [hs4 x (by omega) (fun e=>by
    rcases u5 x e with h|h
    ·exact h2 h
    ·omega)]
   exact hx x h1 h2
  refine wnY and_self ?_;refine⟨(j+1,s3),by dsimp only;omega,_,H4,hfz,⟨by dsimp only;omega,(hz 0 (by omega) λe=>by have:=hb 0 e;omega).trans g0,by omega,(hz nx hn1 λe=>by have:=hb nx e;omega).trans gm,?_,λb h=>?_⟩,eT ag0⟩
  ·dsimp only;rw[e1];exact hr4
  ·rcases u5 b h with h|h
   ·have:=hb b h;omega
   ·omega
theorem ph(p:PrbV)(hs:ShP p)(ha:ShA p.adv)(hm:dn p.adv.states<=4096):pU 36 [ca p] (.int .i64 (lU p)):=by
 refine pO QE ?_;simp only[b36,aw];have h1:=Mj p.task hs.c hs.t;have h2:=EM p.adv ha hm;have d1:=fR p.task;have d2:=bI p.adv;unfold ca lU;unfold gu at h1 d1;unfold ce at h2 d2;rw[PC.2.2.2.1] at h2 d2;rw[PC.2.2.2.2.1];generalize a8 p.task=e1 at *;generalize tx p.adv=e2 at *;have zz:=@PE;repeat' (first|refine zW ?_|apply a_n|apply a_r|refine zO ?_|refine vZ ?_|refine cZ ?_ (hp:=by first|exact h1|exact h2)|refine bxZ ?_|refine gTZ ?_|refine gFZ ?_|refine cTZ ?_|(refine zGZ ?_ ?_<;>(intro _hg;try (exfalso;omega)))|refine au rfl ?_|refine r1Z ?_|fail)
 all_goals (refine aB ?_;(repeat' split)<;>omega)
theorem pY(p:PrbV)(ha:ShA p.adv)(h0:lU p=0)(lim:Int)(hl:0<=lim)(hl2:lim<=1048576)(hc:p.task.cases.length<=1024):pU 37 [ca p,.int .i64 lim] (.int .i64 (px p lim)):=by
 refine pO Re ?_;simp only[b37,aw];obtain⟨_,ho,_,r0,r6⟩:=cu h0;have h2:=Cz p.adv ha ho p.rounds.toNat (by omega) lim hl hl2;have d2:=bI p.adv
 have hb:0<=lP p.adv p.rounds.toNat lim/\lP p.adv p.rounds.toNat lim<=lim+1:=by
  unfold lP;have:=ue (a:=p.adv) (lim:=lim) p.rounds.toNat;have:=ho.s1;exact tN hl _ _ (jp (by omega))
 rw[show((p.rounds.toNat:Nat):Int)=p.rounds by omega] at h2;unfold ca px;unfold ce at h2 d2;rw[PC.2.2.2.1] at h2 d2;rw[PC.2.2.2.2.1];generalize lP p.adv p.rounds.toNat lim=M at *;have hw:0<=(p.task.cases.length:Int)*M/\(p.task.cases.length:Int)*M<=1024*1048577:=⟨Int.mul_nonneg (by omega) (by omega),Int.mul_le_mul (by omega) (by omega) (by omega) (by omega)⟩
 have hww:IntKind.wrap .i64 ((p.task.cases.length:Int)*M)=(p.task.cases.length:Int)*M:=i9 (by omega) (by omega);refine wkZ (aI @PE @hww) ?_;exact aB rfl
theorem Kp(q:Nat)(x:Int):pU 77 [.int .i64 q,.int .i64 x] (dP ⟨q,0,x,-1,-1,-1,-1,-1⟩):=by
 refine pO RL ?_;simp only[b77,aw];refine wnZ and_self ?_;refine bt (X:=Nat) (λk=>[(4,.ptr 0 8 0),(5,.ptr 1 8 0),(6,.int .i64 k)]) (λk H nx=>k<=5/\H 0=some [.int .i64 0,.int .i64 0,.int .i64 0,.int .i64 0,.int .i64 0,.int .i64 0,.int .i64 0,.int .i64 0]/\H 1=some (vwc q 0 x (hk (λ_=>-1) k))) (λk=>5-k) 0 ⟨bo _,rfl,rfl⟩ (by simp (disch:=omega) only[agr,ZG,reduceEqDiff,↓reduceIte,SL]) ?_;rintro k H nx ⟨k1,g0,g1⟩;by_cases hk5:k<5
 rotate_left
 ·obtain rfl:k=5:=by omega
  rw[G0] at g1;refine wnZ (aI @g0 @g1) ?_;exact nD ⟨q,0,x,-1,-1,-1,-1,-1⟩ _
 have hp:=tW (a:=q) (b:=0) (c:=x) (pQ (λ_=>-1) k) hk5 (-1);rw[zo hk5] at hp;have hl:=qn q 0 x (pQ (λ_=>-1) k);generalize vwc q 0 x (hk (λ_=>-1) k)=L at *;refine wnZ (zI3 @IX @g0 @g1) ?_;exact⟨k+1,by omega,⟨by omega,g0,by rw[ae,hp]⟩,ag0⟩
theorem MD(r:RndV)(k q:Nat)(now:List Int)(hn:r.n=now.length)(h5:now.length<=5)(hq:q<5)(hb:0<=r.hs.getD q 0/\r.hs.getD q 0<=9223372036854775807):pU 78 [jN r,.int .i64 k,.int .i64 q,aq now] (dP (ii r k now q)):=by
 refine pO R2 ?_;simp only[b78,aw];unfold jN;rw[PC.2.1];have hc:=mO r hq;have he:(ii r k now q).cs=vwc q k 0 (hk (hrd (r.hs.getD q 0) now) 5):=rfl;rw[show dP (ii r k now q)=.agg (ii r k now q).cs from rfl,he];generalize r.hs.getD q 0=x at *;generalize hG:hrd x now=G at *;have hG1:∀i,G i=if i<now.length/\hasFl x i=true then now.getD i 0 else-1:=λi=>by rw[<-hG];rfl
 clear he hG;refine wnZ and_self ?_;refine bt (X:=Nat) (λi=>[(1,.int .i64 k),(2,.int .i64 q),(3,aq now),(4,.ptr 0 6 0),(8,.ptr 1 8 0),(9,.ptr 2 8 0),(10,.int .i64 i)]) (λi H nx=>i<=5/\H 0=some [.int .i64 r.n,.int .i64 r.h0,.int .i64 r.h1,.int .i64 r.h2,.int .i64 r.h3,.int .i64 r.h4]/\H 1=some [.int .i64 0,.int .i64 0,.int .i64 0,.int .i64 0,.int .i64 0,.int .i64 0,.int .i64 0,.int .i64 0]/\H 2=some (vwc q k 0 (hk G i))) (λi=>5-i) 0 ⟨bo _,rfl,rfl,rfl⟩ (by simp (disch:=omega) only[agr,ZG,reduceEqDiff,↓reduceIte,SL]) ?_;rintro i H nx ⟨i1,g0,g1,g2⟩;by_cases hi5:i<5
 rotate_left
 ·obtain rfl:i=5:=by omega
  rw[G0] at g2 |-;refine wnZ (zI3 @g0 @g1 @g2) ?_;exact nD ⟨q,k,0,G 0,G 1,G 2,G 3,G 4⟩ _
 have hp:=tW (a:=q) (b:=k) (c:=0) (pQ G i) hi5 (-1);have hp2:=tW (a:=q) (b:=k) (c:=0) (l:=(hk G i).set i (-1)) (by rw[List.length_set];exact pQ G i) hi5 (G i);rw[List.set_set,zo hi5] at hp2;have hm1:G i=-1->vwc q k 0 ((hk G i).set i (-1))=vwc q k 0 (hk G (i+1)):=λh=>by rw[<-h,zo hi5]
 have hl:=qn q k 0 (pQ G i);have hl2:=qn q k 0 (l:=(hk G i).set i (-1)) (by rw[List.length_set];exact pQ G i);have hGi:=hG1 i;have hh:=qW x i hb.1 hb.2 (by omega);generalize vwc q k 0 (hk G i)=L at *;generalize vwc q k 0 ((hk G i).set i (-1))=L2 at *;cases hv:hasFl x i with
 |false=>
  rw[hv] at hh hGi;rw[if_neg λh=>by cases h.2] at hGi;have zz:=aI @IX (aI @g0 (aI @g1 (aI @g2 @hc)));repeat' (first|refine zW ?_|apply a_n|refine zO ?_|refine vZ ?_|refine cZ ?_ (hp:=hh)|refine stZ ?_|refine gTZ ?_|refine gFZ ?_|refine cFZ ?_|(refine zGZ ?_ ?_<;>(intro _hg;try (exfalso;omega)))|fail)
  all_goals exact⟨i+1,by omega,⟨by omega,g0,g1,by rw[ae,hp,hm1 hGi]⟩,ag0⟩
 |true=>
  rw[hv] at hh hGi;by_cases hin:i<now.length
  ·rw[if_pos ⟨hin,rfl⟩] at hGi
   have ix:d9 1 (aq now) (.int .i64 (i:Int))=some (.iptr [.int .i64 (now.getD i 0)] 0):=by
    have:=zR (l:=now) (n:=(i:Int)) (by omega) (by omega)
    rwa [cK] at this
   rw[<-hGi] at ix;generalize G i=y at *;refine wnZ (zI6 @IX @g0 @g1 @g2 @hc @ix) ?_;refine vw (b:=2) (n:=8) (off:=3+i) (cs:=L2) (vs:=[.int .i64 y]) rfl ev0 ev0 (by rw[ae,hp]) rfl rfl hl2 rfl (by omega) ?_;refine wnZ and_self ?_;exact⟨i+1,by omega,⟨by omega,g0,g1,by rw[ae,hp2]⟩,ag0⟩
  ·rw[if_neg λh=>hin h.1] at hGi;refine wnZ (zI5 @IX @g0 @g1 @g2 @hc) ?_;exact⟨i+1,by omega,⟨by omega,g0,g1,by rw[ae,hp,hm1 hGi]⟩,ag0⟩
theorem IZ(n:Int)(vs:List VwV)(v:VwV)(hl:vs.length<=17592186044416):pU 131 [.agg [.int .i64 n,de vs],dP v] (.int .i64 (Bf vs v)):=by
 refine pO PY ?_;simp only[O8,aw];unfold dP Bf;rw[PC.2.2.2.2.2.1];refine wnZ @PE ?_;refine gZ (X:=Nat) (λk=>[(2,.ptr 0 2 0),(3,.ptr 1 8 0),(5,.int .i64 k)]) (λk=>k<=vs.length/\∀i,i<k->vs.getD i default≠v) (λk=>vs.length-k) 0 ⟨bo _,λi h=>absurd h (Nat.not_lt_zero _)⟩ (by simp (disch:=omega) only[agr,ZG,reduceEqDiff,↓reduceIte,SL]) ?_;rintro k ⟨k1,k2⟩;by_cases hk5:k<vs.length
 rotate_left
 ·refine wnZ @PE ?_;refine aB ?_;rw[if_neg λhm=>?_];obtain⟨i,hi,rfl⟩:=fS hm;exact k2 i (by omega) (by simp[List.getD,hi])
 have ix:=ixW hk5;rw[PC.2.2.2.2.2.1] at ix;have he:=Gj (v:=vs.getD k default) (w:=v);have hat:=GG hk5 k2;have hme:=ao hk5;generalize hw:vs.getD k default=w at *;have zz:=aI @PE (aI @ix @EQ);repeat' (first|refine zW ?_|apply a_n|apply a_r|refine zO ?_|refine vZ ?_|(refine zGZ ?_ ?_<;>(intro _hg;try (exfalso;omega)))|refine au rfl ?_|refine r1Z ?_|fail)
 ·refine aB ?_;have e:=he.1 _hg;rw[if_pos (e▸hme),hat e]
 ·have hne:w≠v:=λh=>_hg (he.2 h);refine⟨k+1,⟨by omega,λi hi=>?_⟩,by omega,ag0,rfl,rfl⟩;rcases lJ.1 hi with h|rfl
  ·exact k2 i h
  ·rw[hw];exact hne
theorem Nm(n:Int)(vs:List VwV)(v:VwV)(hl:vs.length<=1000000):pU 79 [.agg [.int .i64 n,de vs],dP v] (.tup [.agg [.int .i64 n,de (jx vs v)],.int .i64 ((jx vs v).idxOf v:Nat)]):=by
 refine pO Q1 ?_;simp only[b79,aw];have hi:=IZ n vs v (by omega);rw[Io,JO];have d1:Dat (.agg [.int .i64 n,de vs]):=Dat.agg (DatL.cons .int (DatL.cons (ky _) DatL.nil));have d2:=nD v;have hcl:(cL dP vs).length<=8000000:=by rw[uC];omega
 unfold dP at hi d2 |-;rw[PC.2.2.2.2.2.1] at hi d2 |-;generalize Bf vs v=i at *;by_cases hi0:0<=i
 ·rw[if_pos hi0,if_pos hi0];refine wnZ @PE ?_;exact bG (ac (d1 _) (ac (.int _ _) al))
 rw[if_neg hi0,if_neg hi0];refine wnZ @PE ?_
 have hS:∀(H:Hp),H 0=some [.int .i64 n,de vs]->H 1=some [.int .i64 v.proc,.int .i64 v.round,.int .i64 v.input,.int .i64 v.h0,.int .i64 v.h1,.int .i64 v.h2,.int .i64 v.h3,.int .i64 v.h4]->H 2=some [.int .i64 0,.esl]->H 3=some [.int .i64 n,.esl]->Sub (av (av (av (av aQ 0 [.int .i64 n,de vs]) 1 [.int .i64 v.proc,.int .i64 v.round,.int .i64 v.input,.int .i64 v.h0,.int .i64 v.h1,.int .i64 v.h2,.int .i64 v.h3,.int .i64 v.h4]) 2 [.int .i64 0,.esl]) 3 [.int .i64 n,.esl]) H:=by
  intro H g0 g1 g2 g3 b cs h;rcases b with _|_|_|_|b
  ·rw[g0];exact h
  ·rw[g1];exact h
  ·rw[g2];exact h
  ·rw[g3];exact h
  ·simp[av,aQ] at h
 refine ff _ rfl (hS _ rfl rfl rfl rfl) ?_;refine wnZ @PE ?_;refine ME (pv:=[(0,8,.agg [.int .i64 v.proc,.int .i64 v.round,.int .i64 v.input,.int .i64 v.h0,.int .i64 v.h1,.int .i64 v.h2,.int .i64 v.h3,.int .i64 v.h4])]) (cs:=[.int .i64 v.proc,.int .i64 v.round,.int .i64 v.input,.int .i64 v.h0,.int .i64 v.h1,.int .i64 v.h2,.int .i64 v.h3,.int .i64 v.h4]) ev0 rfl (by decide) rfl rfl ?_;refine dB ?_;refine ed (sz:=8) (xv:=de vs) rfl ev0 Row.nil ev0 uN (Kc vs) (uC vs) (by omega) (by simp;omega) (by simp;omega) ?_;rintro s2 H2 nx2 r1 r2 r3 r4 r5;have n4:∀{x:Nat},x<4->bk AV.esl≠some x:=λ_ h=>by cases h
 have q0:=r4 0 (by omega) (n4 (by omega));have q1:=r4 1 (by omega) (n4 (by omega));have q2:=r4 2 (by omega) (n4 (by omega));have q3:=r4 3 (by omega) (n4 (by omega));refine iq ⟨hS _ q0 q1 q2 q3,?_⟩;refine fj ?_;rw[List.nil_append] at r1
 have rB:∀b,bk s2=some b->b=4:=λb h=>by
  rcases r5 b h with h|h
  ·cases h
  ·exact h.1
 refine ed (k:=1) (xv:=.sl 8 [.agg [.int .i64 v.proc,.int .i64 v.round,.int .i64 v.input,.int .i64 v.h0,.int .i64 v.h1,.int .i64 v.h2,.int .i64 v.h3,.int .i64 v.h4]]) (new:=[.int .i64 v.proc,.int .i64 v.round,.int .i64 v.input,.int .i64 v.h0,.int .i64 v.h1,.int .i64 v.h2,.int .i64 v.h3,.int .i64 v.h4]) rfl ev0 r1 ev0 kd rfl rfl (by omega) (by omega) (by omega) ?_;rintro s3 H3 nx3 u1 u2 u3 u4 u5;have m4:∀{x:Nat},x<4->bk s2≠some x:=λhx h=>by have:=rB _ h;omega
 have p2:=(u4 2 (by omega) (m4 (by omega))).trans q2;have p3:=(u4 3 (by omega) (m4 (by omega))).trans q3;have p0:=(u4 0 (by omega) (m4 (by omega))).trans q0;refine iq ?_;have hrow:Row H3 8 s3 (cL dP (vs++[v])):=by rw[eR,mG];exact u1
 obtain⟨o1,o2⟩:=hrow.one
 have nb:∀x,x<4->bk s3≠some x:=λx hx h=>by
  rcases u5 x h with h|h
  ·exact m4 hx h
  ·omega
 have zz:=aI @PE (aI @p2 (aI @p3 (aI @p0 (aI @o1 @o2))));repeat' (first|refine zW ?_|apply a_n|refine zO ?_|refine nvY ?_|apply fj|refine stY ?_|fail)
 have k3:av H3 3 (cE [.int .i64 n,.esl] 1 [s3]) 3=some [.int .i64 n,s3]:=by rw[ae];rfl
 have k2:av H3 3 (cE [.int .i64 n,.esl] 1 [s3]) 2=some [.int .i64 0,.esl]:=by rw[ab (by omega)];exact p2
 have k0:av H3 3 (cE [.int .i64 n,.esl] 1 [s3]) 0=some [.int .i64 n,de vs]:=by rw[ab (by omega)];exact p0
 have hrow4:Row (av H3 3 (cE [.int .i64 n,.esl] 1 [s3])) 8 s3 (cL dP (vs++[v])):=hrow.same λb h=>ab λe=>nb b (by omega) h;generalize av H3 3 (cE [.int .i64 n,.esl] 1 [s3])=H4 at *;refine ff (dw H4 2) rfl (λb cs h=>(jv h).2) ?_;refine wnY (zI3 @PE @k3 @k0) ?_;refine dB ?_;refine wnY (zI4 @PE @k2 @o1 @o2) ?_;refine⟨λb cs h=>by rw[ab (jv h).1];exact(jv h).2,?_⟩;refine wnY @PE ?_;have hrow5:∀cs,Row (av H4 2 cs) 8 s3 (cL dP (vs++[v])):=λcs=>hrow4.same λb h=>ab λe=>nb b (by omega) h;exact bG (ac (eo (ac (.int _ _) (ac (HL (hrow5 _)) al))) (ac (.int _ _) al))
theorem Jt(p:PrbV)(hs:ShP p)(ha:ShA p.adv)(h0:lU p=0)(hw:p.task.cases.length*(dX p).length<=4096)(hw2:(dX p).length<=4096):pU 38 [ca p] (gn (bg p)):=by
 refine pO QD ?_;simp only[b38,aw];obtain⟨hck,ho,hn,r0,r6⟩:=cu h0;obtain⟨n1,n5,c1,c2⟩:=cV hck;have hinp:=λc hc=>uP hck (c:=c) hc
 have hfrom:pU 76 [ce p.adv,.int .i64 0,.int .i64 p.rounds] (ec (dX p)):=by
  have:=LV p.adv ha ho p.rounds.toNat 0 (by have:=ho.s1;omega) (by omega) hw2
  rwa [show((p.rounds.toNat:Nat):Int)=p.rounds by omega] at this
 have da:=bI p.adv;unfold ce at hfrom da;rw[PC.2.2.2.1] at hfrom da
 have hwl:∀w∈dX p,w.length=p.rounds.toNat/\∀r∈w,r.n=p.task.n/\∀q,q<5->0<=r.hs.getD q 0/\r.hs.getD q 0<=9223372036854775807:=λw hw=>by
  refine⟨jU hw,λr hr=>?_⟩;obtain⟨l,hl,m,hm,rfl⟩:=qN hw r hr;have ok:=ho.mv l hl m hm;obtain⟨g1,_,_⟩:=eX ok.r;obtain⟨_,_,g2⟩:=i4 g1;refine⟨by rw[ok.n,hn],λq hq=>?_⟩;obtain⟨g3,g4⟩:=g2 q hq;by_cases hqn:m.r.n<=q
  ·rw[g3 hqn];omega
  ·have:=g4 (by omega);have:=yV (n:=m.r.n) (by rw[ok.n];exact ho.n5);omega
 have hN:((p.task.n.toNat:Nat):Int)=p.task.n:=by omega
 have hsl:=zg (p:=p) n5 r6;have hbl:=um (p:=p) n5 r6;have hst1:=λc s i(h:i<(dX p).length)=>AG (p:=p) (c:=c) (s:=s) h;have hst2:=DG p;have hbs:=r9 p;have hsys:(bg p).cs=[.int .i64 p.task.n,.int .i64 p.task.ins,.int .i64 p.task.outs,bu p.task.cases,.int .i64 p.adv.n,aN p.adv.states,.int .i64 p.rounds,.int .i64 p.task.n,de (bldS p p.task.cases.length).views,fM (bldS p p.task.cases.length).execs]:=rfl;rw[show gn (bg p)=.agg (bg p).cs from rfl,hsys];clear hsys;unfold ca;rw[PC.2.2.2.2.1];have hex:=λc s w=>uW p c s w;generalize dX p=W at *;refine wnY @PE ?_
 refine pJ (X:=Nat×AV) (λx=>[(1,.ptr 0 7 0),(2,.ptr 1 10 0),(3,.ptr 2 10 0),(4,ec W),(5,.int .i64 x.1)]) (λx H nx=>x.1<=p.task.cases.length/\H 0=some [.int .i64 p.task.n,.int .i64 p.task.ins,.int .i64 p.task.outs,bu p.task.cases,.int .i64 p.adv.n,aN p.adv.states,.int .i64 p.rounds]/\H 1=some [.int .i64 0,.int .i64 0,.int .i64 0,.esl,.int .i64 0,.esl,.int .i64 0,.int .i64 0,.esl,.esl]/\H 2=some [.int .i64 p.task.n,.int .i64 p.task.ins,.int .i64 p.task.outs,bu p.task.cases,.int .i64 p.adv.n,aN p.adv.states,.int .i64 p.rounds,.int .i64 p.task.n,de (bldS p x.1).views,x.2]/\2<nx/\Row H 3 x.2 (cL iH (bldS p x.1).execs)/\∀b,bk x.2=some b->2<b/\b<nx) (λx=>p.task.cases.length-x.1) (0,.esl)
  ⟨aQ,_,Fz.cell (b:=2) (cs':=[.int .i64 p.task.n,.int .i64 p.task.ins,.int .i64 p.task.outs,bu p.task.cases,.int .i64 p.adv.n,aN p.adv.states,.int .i64 p.rounds,.int .i64 p.task.n,de [],.esl]) ae (d7.mid (x:=.esl) (x':=de []) [.int .i64 p.task.n,.int .i64 p.task.ins,.int .i64 p.task.outs,bu p.task.cases,.int .i64 p.adv.n,aN p.adv.states,.int .i64 p.rounds,.int .i64 p.task.n] [.esl] (.eslsl 8)),⟨bo _,by simp (disch:=omega) only[ab,ae],by simp (disch:=omega) only[ab,ae],ae,by omega,.nil,λb h=>(by cases h)⟩,eT (by simp (disch:=omega) only[agr,ZG,reduceEqDiff,↓reduceIte,SL])⟩ ?_
 rintro⟨c,ex⟩ H nx ⟨hc,g0,g1,g2,hnx,hrow,hb⟩;dsimp only at hc g2 hrow hb |-;obtain⟨o1,o2⟩:=hrow.one;by_cases hcl:c<p.task.cases.length
 rotate_left
 ·obtain rfl:c=p.task.cases.length:=by omega
  refine wnY (zI6 @PE @g0 @g1 @g2 @o1 @o2) ?_;refine eo (ac (.int _ _) (ac (.int _ _) (ac (.int _ _) (ac (Dat.snap (gU _)) (ac (.int _ _) (ac (Dat.snap (fG _)) (ac (.int _ _) (ac (.int _ _) (ac (Dat.snap (ky _)) (ac (GB (hrow.same λb h=>?_)) al))))))))));exact ab (by have:=hb b h;omega)
 have hbc:=hbl c;have hcs:=hbs c;rw[<-hst2] at hcs;have hslc:=hsl c (bldS p c);have hst1c:=hst1 c (bldS p c);have hexc:=hex c;have hst0:=M9 p c (bldS p c)
 have hcW:c*W.length+W.length<=4096:=by
  have:(c+1)*W.length<=p.task.cases.length*W.length:=jt _ hcl;rw[eh,Nat.one_mul] at this;omega
 generalize bldS p c=B0 at *;have ixc:=bK hcl;have hinc:=hinp c hcl;generalize hinpv:(p.task.cases.getD c default).inp=inp at *;refine wnY (zI4 @PE @g0 @g1 @g2) ?_
 refine pJ (X:=Nat×AV) (λx=>[(1,.ptr 0 7 0),(2,.ptr 1 10 0),(3,.ptr 2 10 0),(4,ec W),(5,.int .i64 c),(6,.int .i64 x.1)]) (λx H nx=>x.1<=W.length/\H 0=some [.int .i64 p.task.n,.int .i64 p.task.ins,.int .i64 p.task.outs,bu p.task.cases,.int .i64 p.adv.n,aN p.adv.states,.int .i64 p.rounds]/\H 1=some [.int .i64 0,.int .i64 0,.int .i64 0,.esl,.int .i64 0,.esl,.int .i64 0,.int .i64 0,.esl,.esl]/\H 2=some [.int .i64 p.task.n,.int .i64 p.task.ins,.int .i64 p.task.outs,bu p.task.cases,.int .i64 p.adv.n,aN p.adv.states,.int .i64 p.rounds,.int .i64 p.task.n,de (stW p c B0 x.1).views,x.2]/\2<nx/\Row H 3 x.2 (cL iH (stW p c B0 x.1).execs)/\∀b,bk x.2=some b->2<b/\b<nx) (λx=>W.length-x.1) (0,ex)
  ⟨aQ,_,Fz.none,⟨bo _,g0,g1,by rw[hst0];exact g2,hnx,by rw[hst0];exact hrow,hb⟩,eT ag0⟩ ?_
 clear g0 g1 g2 hnx hrow hb o1 o2;rintro⟨wi,ex⟩ H nx ⟨hwi,g0,g1,g2,hnx,hrow,hb⟩;dsimp only at hwi g2 hrow hb |-;obtain⟨o1,o2⟩:=hrow.one;by_cases hwl2:wi<W.length
 rotate_left
 ·obtain rfl:wi=W.length:=by omega
  rw[<-hcs] at g2 hrow;refine wnY (zI4 @PE @g0 @g1 @g2) ?_;exact⟨(c+1,ex),by dsimp only;omega,_,_,Fz.none,⟨by dsimp only;omega,g0,g1,g2,hnx,hrow,hb⟩,eT ag0⟩
 have hsw:=hst1c wi hwl2;have hslw:=hslc wi hwi;have ixw:=Me hwl2;obtain⟨hwl3,hwr⟩:=hwl _ (ao hwl2);rw[hexc] at hsw;generalize W.getD wi default=w at *;generalize stW p c B0 wi=B at *;have hV:=mI p.task.n.toNat inp w B.views;have hV0:plV p.task.n.toNat inp w B.views 0=(B.views,[]):=rfl;have hV1:∀k,plV p.task.n.toNat inp w B.views (k+1)=(eC (vf inp w k (plV p.task.n.toNat inp w B.views k).2) p.task.n.toNat (plV p.task.n.toNat inp w B.views k).1,(plV p.task.n.toNat inp w B.views k).2++[eL (vf inp w k (plV p.task.n.toNat inp w B.views k).2) p.task.n.toNat (plV p.task.n.toNat inp w B.views k).1]):=λ_=>rfl;have hBl:B.views.length<=35*8192:=by omega
 have hBx:B.execs.length<=8192:=by omega
 generalize plV p.task.n.toNat inp w B.views=PL at *;refine wnY (zI5 @PE @g0 @g1 @g2 @ixw) ?_;have f0:∀cs cs' y,y<nx->av (av H nx cs) nx cs' y=H y:=λcs cs' y hy=>by rw[ab (by omega),ab (by omega)]
 refine pJ (X:=Nat×AV) (λx=>[(1,.ptr 0 7 0),(2,.ptr 1 10 0),(3,.ptr 2 10 0),(4,ec W),(5,.int .i64 c),(6,.int .i64 wi),(7,.ptr nx 3 0),(8,.int .i64 x.1)]) (λx H' n=>x.1<=p.rounds.toNat+1/\H' 0=some [.int .i64 p.task.n,.int .i64 p.task.ins,.int .i64 p.task.outs,bu p.task.cases,.int .i64 p.adv.n,aN p.adv.states,.int .i64 p.rounds]/\H' 1=some [.int .i64 0,.int .i64 0,.int .i64 0,.esl,.int .i64 0,.esl,.int .i64 0,.int .i64 0,.esl,.esl]/\H' 2=some [.int .i64 p.task.n,.int .i64 p.task.ins,.int .i64 p.task.outs,bu p.task.cases,.int .i64 p.adv.n,aN p.adv.states,.int .i64 p.rounds,.int .i64 p.task.n,de (PL x.1).1,ex]/\nx<n/\H' nx=some [.int .i64 c,bA w,x.2]/\Row H' 1 x.2 ((PL x.1).2.map aq)/\(∀b,bk x.2=some b->nx<b/\b<n)/\∀y,y<nx->y≠2->H' y=H y) (λx=>p.rounds.toNat+1-x.1) (0,.esl)
  ⟨aQ,_,Fz.none,⟨bo _,(f0 _ _ 0 (by omega)).trans g0,(f0 _ _ 1 (by omega)).trans g1,by rw[f0 _ _ 2 hnx,hV0];exact g2,by omega,ae,by rw[hV0];exact .nil,λb h=>(by cases h),λy hy _=>f0 _ _ y hy⟩,eT (by simp (disch:=omega) only[agr,ZG,reduceEqDiff,↓reduceIte,SL])⟩ ?_
 clear g0 g1 g2 f0;rintro⟨k,sv⟩ H1 m1 ⟨hk,g0,g1,g2,hm1,gx,hrs,hbs,fr⟩;dsimp only at hk g2 gx hrs hbs |-;obtain⟨o3,o4⟩:=hrs.one;obtain⟨hV2,hV3,hV4⟩:=hV k;have hRk:((p.rounds.toNat:Nat):Int)=p.rounds:=by omega
 by_cases hkr:k<=p.rounds.toNat
 rotate_left
 ·obtain rfl:k=p.rounds.toNat+1:=by omega
  have hrow1:Row H1 3 ex (cL iH B.execs):=hrow.same λb h=>fr b (hb b h).2 (by have:=hb b h;omega);have hexl:(cL iH B.execs).length<=24576:=by rw[F7];omega
  obtain ⟨b2,ln,rfl,hb2,hl2⟩:=vQ hrs (fun e=>by
   have:=congrArg List.length e;rw[bj,hV2] at this;cases this)
  have hbb:=hbs b2 rfl;have hne2:∀y,y<m1->bk ex≠some y->y≠m1:=λy h1 _=>by omega
  refine wnY (zI6 @PE @g0 @g2 @gx @o1 @o2) ?_;refine ed (k:=1) (sv:=ex) (xv:=.msl m1 3 3 0 1) (cs:=cL iH B.execs) (new:=[.int .i64 c,bA w,.msl b2 ln 1 0 ln]) rfl ev0 (hrow1.same λb h=>ab (by have:=hb b h;omega)) ev0 (dz rfl) (by simp only[SO,PE,Bool.and_self]) rfl (by omega) (by omega) (by omega) ?_;rintro s3 H3 m3 r1 r2 r3 r4 r5;have fx:∀y,y<m1->bk ex≠some y->H3 y=H1 y:=λy h1 h2=>by rw[r4 y (by omega) h2,ab (by omega)]
  have nex:∀y,y<=2->bk ex≠some y:=λy hy h=>by have:=hb y h;omega
  have q2:=(fx 2 (by omega) (nex 2 (by omega))).trans g2;obtain⟨o5,o6⟩:=r1.one;refine wnY (zI4 @PE @q2 @o5 @o6) ?_
  have hs3:∀b,bk s3=some b->2<b/\b<m3/\b≠b2:=λb h=>by
   rcases r5 b h with h|h
   ·have:=hb b h;omega
   ·omega
  have hr3:∀cs,Row (av H3 2 cs) 3 s3 ((cL iH B.execs++[.int .i64 c,bA w])++[.msl b2 ln 1 0 ln]):=λcs=>by
   rw[iw];exact r1.same λb h=>ab (by have:=hs3 b h;omega)
  have hb3:∀cs,av H3 2 cs b2=some ((PL (p.rounds.toNat+1)).2.map aq):=λcs=>by
   rw[ab (by omega),fx b2 (by omega) (λh=>by have:=hb b2 h;omega)];exact hb2
  obtain⟨H5,hfz,hr5,hs5⟩:=iV (x':=ay (PL (p.rounds.toNat+1)).2) (hr3 _) (hb3 _) (Row.snapV (Row.box1 ez hl2)) (λe=>(hs3 b2 e).2.2 rfl);have h5:∀y,y<=2->H5 y=_:=λy hy=>hs5 y (by omega) (λh=>by have:=hs3 y h;omega);refine⟨(wi+1,s3),by dsimp only;omega,_,H5,hfz,⟨by dsimp only;omega,?_,?_,?_,by omega,?_,λb h=>by have:=hs3 b h;omega⟩,eT ag0⟩
  ·rw[h5 0 (by omega),ab (by omega),fx 0 (by omega) (nex 0 (by omega))];exact g0
  ·rw[h5 1 (by omega),ab (by omega),fx 1 (by omega) (nex 1 (by omega))];exact g1
  ·rw[h5 2 (by omega),ae,hsw];rfl
  ·rw[hsw];show Row H5 3 s3 (cL iH (B.execs++[_]));rw[eR,mG];show Row H5 3 s3 (cL iH B.execs++[.int .i64 (c:Int),bA w,ay (PL (p.rounds.toNat+1)).2]);rw[iw] at hr5;exact hr5
 have hf:=hV1 k;have hfq0:k=0->∀q,vf inp w k (PL k).2 q=⟨q,0,inp.getD q 0,-1,-1,-1,-1,-1⟩:=λe q=>by subst e;rfl
 have hfqS:∀j,k=j+1->∀q,vf inp w k (PL k).2 q=ii (w.getD j default) (j+1) ((PL k).2.getD j []) q:=λj e q=>by subst e;rfl
 have hV0l:(PL k).1.length<=500000:=by
  have h2:k*p.task.n.toNat<=7*5:=Nat.mul_le_mul (by omega) (by omega);omega
 generalize vf inp w k (PL k).2=f at *;generalize (PL k).1=V0 at *;generalize (PL k).2=rows at *;refine wnY (aI @PE @g0) ?_;refine bt (X:=Nat×AV) (λx=>[(1,.ptr 0 7 0),(2,.ptr 1 10 0),(3,.ptr 2 10 0),(4,ec W),(5,.int .i64 c),(6,.int .i64 wi),(7,.ptr nx 3 0),(8,.int .i64 k),(9,x.2),(10,.int .i64 x.1)]) (λx H' n'=>x.1<=p.task.n.toNat/\H' 2=some [.int .i64 p.task.n,.int .i64 p.task.ins,.int .i64 p.task.outs,bu p.task.cases,.int .i64 p.adv.n,aN p.adv.states,.int .i64 p.rounds,.int .i64 p.task.n,de (eC f x.1 V0),ex]/\Row H' 1 x.2 ((eL f x.1 V0).map (AV.int .i64))/\(∀b,bk x.2=some b->m1<=b/\b<n')/\m1<=n'/\∀y,y<m1->y≠2->H' y=H1 y) (λx=>p.task.n.toNat-x.1) (0,.esl) ⟨bo _,g2,.nil,λb h=>(by cases h),bd _,λ_ _ _=>rfl⟩ ag0 ?_;rintro⟨q,lv⟩ H2 m2 ⟨hq,g2',hlrow,hlb,hm2,fr'⟩;dsimp only at hq g2' hlrow hlb |-;have g0':=(fr' 0 (by omega) (by omega)).trans g0;have gx':=(fr' nx (by omega) (by omega)).trans gx;obtain⟨o5,o6⟩:=hlrow.one;have hrs':Row H2 1 sv (rows.map aq):=hrs.same λb h=>fr' b (hbs b h).2 (by have:=hbs b h;omega);by_cases hqn:q<p.task.n.toNat
 rotate_left
 ·obtain rfl:q=p.task.n.toNat:=by omega
  obtain ⟨bl,ll,rfl,hbl2,hll⟩:=vQ hlrow (fun e=>by
   have:=congrArg List.length e;rw[bj,fQ] at this;have:p.task.n.toNat=0:=this;omega)
  have hblb:=hlb bl rfl;have hrl:(rows.map aq).length<=7:=by rw[bj];omega
  refine wnY (zI5 @PE @g0' @gx' @o3 @o4) ?_;refine ed (k:=1) (sv:=sv) (xv:=.msl m2 1 1 0 1) (cs:=rows.map aq) (new:=[.msl bl ll 1 0 ll]) rfl ev0 (hrs'.same λb h=>ab (by have:=hbs b h;omega)) ev0 (dz rfl) rfl rfl ji (by omega) (by omega) ?_;rintro s3 H3 m3 r1 r2 r3 r4 r5;have fx:∀y,y<m2->bk sv≠some y->H3 y=H2 y:=λy h1 h2=>by rw[r4 y (by omega) h2,ab (by omega)]
  have nsv:∀y,y<=nx->bk sv≠some y:=λy hy h=>by have:=hbs y h;omega
  have qx:=(fx nx (by omega) (nsv nx (by omega))).trans gx';obtain⟨o7,o8⟩:=r1.one;refine wnY (zI4 @PE @qx @o7 @o8) ?_
  have hs3:∀b,bk s3=some b->nx<b/\b<m3/\b≠bl:=λb h=>by
   rcases r5 b h with h|h
   ·have:=hbs b h;omega
   ·omega
  have hr3:∀cs,Row (av H3 nx cs) 1 s3 (rows.map aq++[.msl bl ll 1 0 ll]):=λcs=>r1.same λb h=>ab (by have:=hs3 b h;omega)
  have hb3:∀cs,av H3 nx cs bl=some ((eL f p.task.n.toNat V0).map (AV.int .i64)):=λcs=>by
   rw[ab (by omega),fx bl (by omega) (λh=>by have:=hbs bl h;omega)];exact hbl2
  obtain⟨H5,hfz,hr5,hs5⟩:=iV (x':=aq (eL f p.task.n.toNat V0)) (hr3 _) (hb3 _) (Row.snapI (Row.box1 ez hll)) (λe=>(hs3 bl e).2.2 rfl);have h5:∀y,y<=nx->H5 y=_:=λy hy=>hs5 y (by omega) (λh=>by have:=hs3 y h;omega);refine⟨(k+1,s3),by dsimp only;omega,_,H5,hfz,⟨by dsimp only;omega,?_,?_,?_,by omega,?_,?_,λb h=>by have:=hs3 b h;omega,λy hy hy2=>?_⟩,eT ag0⟩
  ·rw[h5 0 (by omega),ab (by omega),fx 0 (by omega) (nsv 0 (by omega))];exact g0'
  ·rw[h5 1 (by omega),ab (by omega),fx 1 (by omega) (nsv 1 (by omega)),fr' 1 (by omega) (by omega)];exact g1
  ·rw[h5 2 (by omega),ab (by omega),fx 2 (by omega) (nsv 2 (by omega)),g2'];dsimp only;rw[hf]
  ·rw[h5 nx (bd _),ae];rfl
  ·dsimp only;rw[hf,dv];exact hr5
  ·rw[h5 y (by omega),ab (by omega),fx y (by omega) (nsv y (by omega)),fr' y (by omega) hy2];exact fr y hy hy2
 have hVl:(eC f q V0).length<=1000000:=by have:=mi f q V0;omega
 have hIl:((eL f q V0).map (AV.int .i64)).length<=5:=by rw[bj,fQ];omega
 have hnV:eC f (q+1) V0=jx (eC f q V0) (f q):=rfl;have hnI:eL f (q+1) V0=eL f q V0++[(((jx (eC f q V0) (f q)).idxOf (f q):Nat):Int)]:=rfl;have hP:=Nm p.task.n (eC f q V0) (f q) hVl;have hF:=Kp q (inp.getD q 0)
 have ixq:d9 1 (aq inp) (.int .i64 (q:Int))=some (.iptr [.int .i64 (inp.getD q 0)] 0):=by
  have:=zR (l:=inp) (n:=(q:Int)) (by omega) (by omega)
  rwa [cK] at this
 have dT:Dat (.agg [.int .i64 p.task.n,de (eC f q V0)]):=Dat.agg (DatL.cons .int (DatL.cons (ky _) DatL.nil));have dV:=nD (f q);rw[<-hnV] at hP hnI;unfold dP at hP hF dV;generalize hV1e:eC f (q+1) V0=V1 at *;generalize eC f q V0=V at *;generalize ((V1.idxOf (f q):Nat):Int)=idx at *;rw[PC.2.2.2.2.2.1] at hP hF dV;rcases Nat.eq_zero_or_pos k with hk0|hk0
 ·have hfq:=hfq0 hk0 q;have z:decide (Int.ofNat 0<(k:Int))=false:=bR (by show ¬(0:Int)<_;omega);rw[hfq] at hP dV;generalize inp.getD q 0=x at *;refine wnY (zI6 @PE @g0' @g2' @ixc @ixq @z) ?_;refine ed (k:=1) (sv:=lv) (xv:=.msl (m2+2) 1 1 0 1) (cs:=(eL f q V0).map (AV.int .i64)) (new:=[.int .i64 idx]) rfl ev0 (hlrow.same λb h=>by have:=hlb b h;simp (disch:=omega) only[ab]) (have zz:=@kV;evZ) (dz rfl) rfl rfl ji (by omega) (by omega) ?_;rintro s' H' nx' r1 r2 r3 r4 r5;refine wnY and_self ?_;refine⟨(q+1,s'),by dsimp only;omega,⟨by dsimp only;omega,?_,?_,λb h=>?_,by omega,λy hy hy2=>?_⟩,ag0⟩
  ·rw[r4 2 (by omega) (λh=>by have:=hlb 2 h;omega)];dsimp only;rw[hV1e];simp (disch:=omega) only[ab,ae];rfl
  ·dsimp only;rw[hnI,dv];exact r1
  ·rcases r5 b h with h|h
   ·have:=hlb b h;omega
   ·omega
  ·rw[r4 y (by omega) (λh=>by have:=hlb y h;omega)];simp (disch:=omega) only[ab];exact fr' y hy hy2
 ·obtain⟨j,rfl⟩:∃j,k=j+1:=⟨k-1,by omega⟩
  have hfq:=hfqS j rfl q;have z:decide (Int.ofNat 0<((j+1:Nat):Int))=true:=bV (by show(0:Int)<_;omega);have tk:((j+1:Nat):Int)-Int.ofNat 1=(j:Int):=by show((j+1:Nat):Int)-1=_;omega
  have hjw:j<w.length:=by omega
  have ixr:=ixR hjw;obtain⟨hrn,hrh⟩:=hwr _ (ao hjw);have hjr:j<rows.length:=by omega
  have hnow:(rows.getD j []).length=p.task.n.toNat:=hV3 _ (iQ hjr);have hS:=MD (w.getD j default) (j+1) q (rows.getD j []) (by omega) (by omega) (by omega) (hrh q (by omega));rw[show ii (w.getD j default) (j+1) (rows.getD j []) q=f q from hfq.symm] at hS;have dR:=ie (w.getD j default)
  obtain ⟨bs,ns,os,hg1,hg2,hg3⟩:=Row.get hrs' (j:=j) (x:=aq (rows.getD j [])) (by
   rw[kf];simp[List.getD,hjr])
  have hbs2:=hbs bs hg2
  have hSS:∃S:Hp,(∀H':Hp,(∀x,x<m2->H' x=H2 x)->Sub S H')/\S 0=some [.int .i64 p.task.n,.int .i64 p.task.ins,.int .i64 p.task.outs,bu p.task.cases,.int .i64 p.adv.n,aN p.adv.states,.int .i64 p.rounds]/\S nx=some [.int .i64 c,bA w,sv]/\rd1 S (.ptr bs ns os)=some (aq (rows.getD j [])):=by
   refine⟨λx=>if x<m2 then H2 x else none,λH' h b cs hc=>?_,?_,?_,hg3 _ ?_⟩
   ·dsimp only at hc;split at hc
    ·rename_i hlt;rw[h b hlt];exact hc
    ·cases hc
   ·dsimp only;rw[if_pos (by omega)];exact g0'
   ·dsimp only;rw[if_pos (by omega)];exact gx'
   ·show(if bs<m2 then H2 bs else none)=_;rw[if_pos (by omega)]
  obtain⟨S,hSub,s0,sx,srd⟩:=hSS;unfold jN at dR;unfold jN dP at hS;rw[PC.2.1] at hS dR;rw[PC.2.2.2.2.2.1] at hS;rw[PC.1] at ixr;generalize f q=v at *;generalize w.getD j default=r at *;generalize rows.getD j []=now at *;generalize inp.getD q 0=x at *;refine wnY (zI6 @PE @g0' @g2' @ixc @ixq @z) ?_;refine ff S rfl (hSub _ λx hx=>by simp (disch:=omega) only[ab]) ?_;have zz:=aI @PE (aI @s0 (aI @sx (aI @ixw (aI @ixr (aI @hg1 (aI @srd (aI @tk (aI @g0' @g2'))))))));repeat' (first|refine zW ?_|apply a_n|refine zO ?_|refine vY ?_|refine nvY ?_|apply fj|refine cY ?_ (hp:=by first|exact hS|exact hP)|refine alY ?_|refine stY ?_|refine blY ?_|fail)
  refine ed (k:=1) (sv:=lv) (xv:=.msl (m2+2) 1 1 0 1) (cs:=(eL f q V0).map (AV.int .i64)) (new:=[.int .i64 idx]) rfl ev0 (hlrow.same λb h=>by have:=hlb b h;simp (disch:=omega) only[ab]) (have zz:=@kV;evZ) (dz rfl) rfl rfl ji (by omega) (by omega) ?_;rintro s' H' nx' r1 r2 r3 r4 r5;refine wnY and_self ?_;refine⟨(q+1,s'),by dsimp only;omega,⟨by dsimp only;omega,?_,?_,λb h=>?_,by omega,λy hy hy2=>?_⟩,ag0⟩
  ·rw[r4 2 (by omega) (λh=>by have:=hlb 2 h;omega)];dsimp only;rw[hV1e];simp (disch:=omega) only[ab,ae];rfl
  ·dsimp only;rw[hnI,dv];exact r1
  ·rcases r5 b h with h|h
   ·have:=hlb b h;omega
   ·omega
  ·rw[r4 y (by omega) (λh=>by have:=hlb y h;omega)];simp (disch:=omega) only[ab];exact fr' y hy hy2
theorem Js(p:PrbV)(hs:ShP p):pU 14 [ca p] (.bool (CK p)):=by
 refine pO Rv ?_;simp only[b14,aw];have h1:=QZ p.task hs.c hs.t;have h2:=Jo p.adv (rf hs) hs.a;have hck:∀h:yr p.adv=true,pU 36 [ca p] (.int .i64 (lU p)):=λh=>ph p hs (rf hs (oL h).1) (by have:=(oL h).2;omega);have hnm:∀(_:yr p.adv=true)(h0:lU p=0),pU 37 [ca p,.int .i64 4096] (.int .i64 (px p 4096)):=λh h0=>pY p (rf hs (oL h).1) h0 4096 (by omega) (by omega) (cV (cu h0).1).2.2.2;have d1:=fR p.task;have d2:=bI p.adv;have d3:=e9 p;unfold ca at hck hnm d3 |-;unfold gu at h1 d1;unfold ce at h2 d2;rw[PC.2.2.2.1] at h2 d2;rw[PC.2.2.2.2.1] at hck hnm d3 |-;unfold CK;cases hf1:wh p.task with
 |false=>
  rw[hf1] at h1;refine wnZ @PE ?_;rw[if_neg λh=>by cases h.1];exact .bool _
 |true=>
 rw[hf1] at h1;cases hf2:yr p.adv with
 |false=>
  rw[hf2] at h2;refine wnZ @PE ?_;rw[if_neg λh=>by cases h.2.1];exact .bool _
 |true=>
 rw[hf2] at h2;have hck:=hck hf2;have hnm:=hnm hf2;by_cases hn:3<p.task.n/\p.task.n<=5
 ·rw[if_neg λh=>h.2.2 hn];refine wnZ @PE ?_
  all_goals first|exact .bool _|omega
 rw[if_pos ⟨rfl,rfl,hn⟩];by_cases h0:lU p=0
 rotate_left
 ·rw[if_pos h0];generalize lU p=e at *;have zz:=@PE;repeat' (first|refine zW ?_|apply a_n|apply a_r|refine zO ?_|refine vZ ?_|refine cZ ?_ (hp:=by first|exact h1|exact h2|exact hck)|refine bxZ ?_|refine gTZ ?_|refine gFZ ?_|refine cFZ ?_|(refine zGZ ?_ ?_<;>(intro _hg;try (exfalso;omega)))|refine au rfl ?_|refine r1Z ?_|fail)
  all_goals first|exact .bool _|omega
 rw[if_neg λh=>h h0];have hnm:=hnm h0;rw[h0] at hck;generalize px p 4096=M at *;have zz:=@PE;repeat' (first|refine zW ?_|apply a_n|refine zO ?_|refine vZ ?_|refine cZ ?_ (hp:=by first|exact h1|exact h2|exact hck|exact hnm)|refine bxZ ?_|refine gTZ ?_|refine gFZ ?_|refine cFZ ?_|(refine zGZ ?_ ?_<;>(intro _hg;try (exfalso;omega)))|refine au rfl ?_|refine r1Z ?_|fail)
 all_goals (refine dF ?_;by_cases q1:M<=60<;>by_cases q2:4096<M<;>first|omega|simp only[q1,q2,decide_true,decide_false,Bool.or_true,Bool.true_or,Bool.or_self]|fail)
theorem HQ(p:PrbV)(hs:ShP p)(ha:ShA p.adv)(hm:dn p.adv.states<=4096)(h0:lU p≠0):pU 15 [ca p] (.tup [.agg Z10,.int .i64 (lU p)]):=by
 refine pO LW ?_;simp only[b15,aw];have hck:=ph p hs ha hm;have d3:=e9 p;unfold ca at hck d3 |-;rw[PC.2.2.2.2.1] at hck d3 |-;generalize lU p=e at *;refine wnZ @PE ?_;exact bG (ac (eo (dj CW)) (ac (.int _ _) al))
theorem He(p:PrbV)(hs:ShP p)(ha:ShA p.adv)(hm:dn p.adv.states<=4096)(h0:lU p=0)(hb:4096<px p 4096):pU 15 [ca p] (.tup [.agg Z10,.int .i64 17]):=by
 refine pO LW ?_;simp only[b15,aw];have hck:=ph p hs ha hm;have hnm:=pY p ha h0 4096 (by omega) (by omega) (cV (cu h0).1).2.2.2;have d3:=e9 p;rw[h0] at hck;unfold ca at hck hnm d3 |-;rw[PC.2.2.2.2.1] at hck hnm d3 |-;generalize px p 4096=M at *;refine wnZ @PE ?_;exact bG (ac (eo (dj CW)) (ac (.int _ _) al))
theorem C9(p:PrbV)(h:OkP p):pU 15 [ca p] (.tup [gn (bg p),.int .i64 0]):=by
 refine pO LW ?_;simp only[b15,aw];have hm:=h.mv;have hck:=ph p h.sh h.sa (by omega);have hnm:=pY p h.sa h.e0 4096 (by omega) (by omega) (cV (cu h.e0).1).2.2.2;have hnf:=pd h.e0 h.num;have hbu:=Jt p h.sh h.sa h.e0 (by omega) (by omega);have hl:=(um (p:=p) (cV (cu h.e0).1).2.1 (cu h.e0).2.2.2.2 p.task.cases.length).2
 have hvl:(bg p).views.length<=8192:=by
  show(bldS p p.task.cases.length).views.length<=8192;omega
 have d3:=e9 p;have d4:=gJ (bg p);have hnum:=h.num;rw[h.e0] at hck;unfold ca at hck hnm hbu d3 |-;unfold gn at hbu d4 |-;rw[PC.2.2.2.2.1] at hck hnm hbu d3 |-;rw[PC.2.2.2.2.2.2.2] at hbu d4 |-;generalize px p 4096=M at *;generalize bg p=s at *;refine wnZ @PE ?_;exact bG (ac (d4 _) (ac (.int _ _) al))
theorem JQ(p:PrbV)(hs:ShP p):pU 6 [ca p] (.bool (jZ p)):=by
 refine pO is6 ?_;simp only[b6,aw];have hf:=Js p hs;have d3:=e9 p;have d4:=gJ (bg p);cases hfv:CK p with
 |false=>
  rw[hfv] at hf;have e:jZ p=false:=by unfold jZ;rw[hfv];rfl
  rw[e];unfold ca at hf d3 |-;rw[PC.2.2.2.2.1] at hf d3 |-;refine wnZ @PE ?_;exact .bool _
 |true=>
 rw[hfv] at hf;obtain⟨q1,q2,q3⟩:=Ab hfv;obtain⟨q4,q5⟩:=oL q2;have hsa:=rf hs q4;by_cases h0:lU p=0
 rotate_left
 ·have hb:=HQ p hs hsa (by omega) h0;have e:jZ p=false:=by unfold jZ;rw[bR h0,Bool.and_false,Bool.false_and]
  rw[e];have hne:decide (lU p=0)=false:=bR h0;unfold ca at hf hb d3 |-;unfold Z10 at hb;rw[PC.2.2.2.2.1] at hf hb d3 |-;generalize lU p=e at *;refine wnZ (aI @PE @hne) ?_;exact .bool _
 by_cases hb4:4096<px p 4096
 ·have hb:=He p hs hsa (by omega) h0 hb4;have e:jZ p=false:=by unfold jZ;rw[show decide (px p 4096<=60)=false from bR (by omega),Bool.and_false]
  rw[e];unfold ca at hf hb d3 |-;unfold Z10 at hb;rw[PC.2.2.2.2.1] at hf hb d3 |-;refine wnZ @PE ?_;exact .bool _
 have h60:px p 4096<=60:=by
  unfold CK at hfv;rw[if_pos ⟨q1,q2,q3⟩,if_neg λh=>h h0,lM,iC,iC] at hfv;omega
 have e:jZ p=true:=by unfold jZ;rw[hfv,bV h0,bV h60];rfl
 rw[e];have hb:=C9 p (wj hs e);unfold ca at hf hb d3 |-;unfold gn at hb d4;rw[PC.2.2.2.2.1] at hf hb d3 |-;rw[PC.2.2.2.2.2.2.2] at hb d4;generalize bg p=s at *;refine wnZ @PE ?_;exact .bool _
end
end Go.Proofs.YtbmjaojeplmhnaaGreat
namespace Go.Proofs.YtbmjaojeplmhnaaGreat
open Go Go.Abs Go.RowKit
section
variable{H:Type}{enc:TypeId×Value->H}{W:World}
theorem oU8:dW enc Tryz.prog W 5 (AV.int .u8) (λn=>(Lit.int .u8 n).wf=true):=xW Tryz.underlying5
theorem oA5:dW enc Tryz.prog W 72 (λl:List Int=>.agg (l.flatMap λa=>(AV.int .i64 a).cells)) (λl=>l.length=5/\∀a∈l,(Lit.int .i64 a).wf=true):=
 FH Tryz.underlying72 (sz:=1) (by kernel_rfl) (by kernel_rfl) oi
set_option maxRecDepth 100000 in
theorem Lu:dW enc Tryz.prog W 74 jN (λ_=>True):=
 (fC Tryz.underlying74 (by kernel_rfl) (bX (off:=0) (off':=1) rfl (by kernel_rfl) oi (bX (off:=1) (off':=6) rfl (by kernel_rfl) oA5 iI))).map
  (fun a=>(⟨a.1,a.2.1.getD 0 0,a.2.1.getD 1 0,a.2.1.getD 2 0,a.2.1.getD 3 0,a.2.1.getD 4 0,0⟩:RndV)) (fun _ _=>trivial) (by
   rintro⟨a,l,u⟩ ⟨_,⟨h,_⟩,_⟩
   match l,h with
   |[h0,h1,h2,h3,h4],_=>rfl)
set_option maxRecDepth 100000 in
theorem Q8:dW enc Tryz.prog W 76 cJ (λ_=>True):=
 (fC Tryz.underlying76 (by kernel_rfl) (bX (off:=0) (off':=6) rfl (by kernel_rfl) Lu (bX (off:=6) (off':=7) rfl (by kernel_rfl) oi iI))).map
  (λa=>(⟨a.1.n,a.1.h0,a.1.h1,a.1.h2,a.1.h3,a.1.h4,a.2.1⟩:RndV)) (λ_ _=>trivial) (λ_ _=>rfl)
set_option maxRecDepth 100000 in
theorem Qg:dW enc Tryz.prog W 98 dC (λ_=>True):=
 (fC Tryz.underlying98 (by kernel_rfl) (bX (off:=0) (off':=7) rfl (by kernel_rfl) Q8 (bX (off:=7) (off':=8) rfl (by kernel_rfl) oi iI))).map
  (λa=>(⟨a.1,a.2.1⟩:MvV)) (λ_ _=>trivial) (λ_ _=>rfl)
theorem LS:dW enc Tryz.prog W 94 bD (λl=>l.length<=17592186044416):=
 (jR Tryz.underlying94 (sz:=8) (by_:=64) (by kernel_rfl) (by kernel_rfl) (by omega) (λ_=>rfl) Qg).mono λl h=>by have:=h.2.2;omega
theorem IU:dW enc Tryz.prog W 25 aN (λl=>l.length<=17592186044416/\∀x∈l,x.length<=17592186044416):=
 (jR Tryz.underlying25 (sz:=1) (by_:=24) (by kernel_rfl) (by kernel_rfl) ji (λ_=>rfl) LS).mono λl h=>⟨by have:=h.2.2;omega,h.1⟩
set_option maxRecDepth 100000 in
theorem Rf:dW enc Tryz.prog W 27 ce (λa=>a.states.length<=17592186044416/\∀x∈a.states,x.length<=17592186044416):=
 (fC Tryz.underlying27 (by kernel_rfl) (bX (off:=0) (off':=1) rfl (by kernel_rfl) oi (bX (off:=1) (off':=2) rfl (by kernel_rfl) IU iI))).map
  (fun a=>(⟨a.1,a.2.1⟩:AdvV)) (by
   rintro⟨n,s,u⟩ ⟨_,h,_⟩;exact h) (λ_ _=>rfl)
set_option maxRecDepth 100000 in
theorem RJ:dW enc Tryz.prog W 29 ca ShP:=
 (fC Tryz.underlying29 (by kernel_rfl) (bX (off:=0) (off':=4) rfl (by kernel_rfl) NA (bX (off:=4) (off':=6) rfl (by kernel_rfl) Rf (bX (off:=6) (off':=7) rfl (by kernel_rfl) oi iI)))).map
  (fun a=>(⟨a.1,a.2.1,a.2.2.1⟩:PrbV)) (by
   rintro⟨t,a,r,u⟩ ⟨h1,h2,_⟩;exact⟨h1.2,h1.1,h2.1,h2.2⟩) (λ_ _=>rfl)
end
theorem Qn{a:Int}(h:(Lit.int .u8 a).wf=true):∃n:Nat,a=n/\n<256:=by
 simp only[Lit.wf,eN,iC] at h;have h1:IntKind.min .u8=0:=by decide
 have h2:IntKind.max .u8=255:=by decide
 exact⟨a.toNat,by omega,by omega⟩
end Go.Proofs.YtbmjaojeplmhnaaGreat
namespace Go.Proofs.YtbmjaojeplmhnaaGreat
open Go Go.Abs
open Nat (reduceEqDiff reduceAdd reduceLeDiff)
theorem KQ(n:Nat)(tb tf:Bool):br .shl tb tf (.int .i64 1) (.int .i64 (n:Int))=some (.int .i64 (IntKind.wrap .i64 (1*2^(min n 64)))):=by
 simp[br,oo,IntKind.bits]
theorem Gq{f:Int}{p:Nat}(h0:0<=f)(hp:p<=60):hasFl f p=!decide (tz (nQ f p)=0):=by
 obtain⟨m,rfl⟩:∃m:Nat,f=m:=⟨f.toNat,by omega⟩
 have e:nQ (m:Int) p=((m/2^p:Nat):Int):=by
  unfold nQ;rw[Nat.min_eq_left (by omega),Int.fdiv_eq_ediv_of_nonneg _ (Int.le_of_lt (Int.pow_pos (by omega)))];simp
 rw[e,w9];unfold hasFl;rw[show(m:Int)/((2^p:Nat):Int)=((m/2^p:Nat):Int) from rfl];generalize m/2^p=x;by_cases h:x%2=0
 ·rw[bR (by omega),bV (by omega)];rfl
 ·rw[bV (by omega),bR (by omega)];rfl
theorem vV{m p:Nat}(hp:p<=60):nQ (m:Int) p=((m/2^p:Nat):Int):=by
 unfold nQ;rw[Nat.min_eq_left (by omega),Int.fdiv_eq_ediv_of_nonneg _ (Int.le_of_lt (Int.pow_pos (by omega)))];simp
theorem MO{f:Int}{n:Nat}(h0:0<=f)(h:f<pw n)(hn:n<=60):nQ f n=0:=by
 obtain⟨m,rfl⟩:∃m:Nat,f=m:=⟨f.toNat,by omega⟩
 rw[vV hn,Nat.div_eq_of_lt]
 ·rfl
 ·rw[rn rfl] at h;omega
def mD(a:AdvV)(s:Nat):List (Nat×MvV):=(List.range s).flatMap λi=>(a.st i).map λm=>(i,m)
theorem pj(a:AdvV)(s:Nat):mD a (s+1)=mD a s++(a.st s).map λm=>(s,m):=by
 unfold mD;rw[List.range_succ,List.flatMap_append,lk,List.flatMap_nil,jc]
theorem Ap(a:AdvV)(s:Nat):∀d,∃R,mD a s++R=mD a (s+d)
 |0=>⟨[],jc _⟩
 |d+1=>by
  obtain⟨R,h⟩:=Ap a s d;exact⟨R++(a.st (s+d)).map λm=>(s+d,m),by rw[<-iw,h,<-pj];rfl⟩
def wu(a:AdvV):List (Nat×MvV):=mD a a.states.length
theorem AU(a:AdvV):∀s,s<=a.states.length->(mD a s).length=dn (a.states.take s)
 |0,_=>rfl
 |s+1,h=>by
  rw[pj,cQ,bj,AU a s (by omega),sL (by omega)];rfl
theorem FX(a:AdvV):(wu a).length=dn a.states:=by
 unfold wu;rw[AU a _ (bd _),List.take_length]
def I6(a b:Int):Int:=IntKind.wrap .i64 (BitVec.ofInt 64 a &&& ~~~BitVec.ofInt 64 b).toNat
theorem JM(tb tf:Bool)(a b:Int):br .andNot tb tf (.int .i64 a) (.int .i64 b)=some (.int .i64 (I6 a b)):=rfl
set_option maxRecDepth 100000 in
theorem FY:∀a,a<32->∀b,b<32->iW ((a:Nat):Int) ((b:Nat):Int)=true->I6 ((a:Nat):Int) ((b:Nat):Int)=0:=by decide+kernel
theorem LF{a b:Int}(ha:0<=a/\a<32)(hb:0<=b/\b<32)(h:iW a b=true):I6 a b=0:=by
 have:=FY a.toNat (by omega) b.toNat (by omega);rw[show((a.toNat:Nat):Int)=a by omega,show((b.toNat:Nat):Int)=b by omega] at this;exact this h
theorem mS(n:Nat):bc (.agg [.int .i64 0]) n=(List.replicate n (0:Int)).map (AV.int .i64):=by
 induction n with
 |zero=>rfl
 |succ n ih=>rw[List.replicate_succ,fY,<-ih];simp[bc,List.replicate_succ,AV.cells]
theorem z6:∀{l:List Int}{s:Nat}{x:Int},s<l.length->(l.set s x).getD s 0=x
 |_::_,0,_,_=>rfl
 |_::l,s+1,x,h=>z6 (l:=l) (s:=s) (by simpa using h)
def CI(lim:Int)(C:List Int)(nx:List Int)(p:Nat×MvV):List Int:=nx.set p.1 (min (nx.getD p.1 0+C.getD p.2.to.toNat 0) (lim+1))
def pV(lim:Int)(C:List Int)(n:Nat)(D:List (Nat×MvV)):List Int:=D.foldl (CI lim C) (List.replicate n 0)
theorem Fh(lim:Int)(C:List Int)(n:Nat)(D:List (Nat×MvV))(s:Nat)(m:MvV):pV lim C n (D++[(s,m)])=(pV lim C n D).set s (min ((pV lim C n D).getD s 0+C.getD m.to.toNat 0) (lim+1)):=by
 unfold pV;rw[List.foldl_append];rfl
theorem D2(lim:Int)(C:List Int):∀(D:List (Nat×MvV))(nx:List Int),(D.foldl (CI lim C) nx).length=nx.length
 |[],_=>rfl
 |p::D,nx=>by rw[List.foldl_cons,D2 lim C D];exact List.length_set
theorem HG(lim:Int)(C:List Int)(n:Nat)(D:List (Nat×MvV)):(pV lim C n D).length=n:=by unfold pV;rw[D2,List.length_replicate]
theorem Ea(lim:Int)(C:List Int)(s:Nat):∀(l:List MvV)(nx:List Int),s<nx.length->(l.map λm=>(s,m)).foldl (CI lim C) nx=nx.set s (l.foldl (λn m=>min (n+C.getD m.to.toNat 0) (lim+1)) (nx.getD s 0))
 |[],nx,h=>by
  refine List.ext_getElem? λi=>?_;show nx[i]?=(nx.set s (nx.getD s 0))[i]?;rw[List.getElem?_set];split
  ·rename_i e;subst e;simp[h,List.getD]
  ·rfl
 |m::l,nx,h=>by
  rw[fY,List.foldl_cons,Ea lim C s l _ (by unfold CI;rw[List.length_set];exact h)];unfold CI;rw[z6 h,List.set_set];rfl
theorem AL{a:AdvV}{lim:Int}{C:List Int}:∀s,s<=a.states.length->pV lim C a.states.length (mD a s)=((List.range s).map λi=>te lim C (a.st i))++List.replicate (a.states.length-s) 0
 |0,_=>by simp[pV,mD]
 |s+1,h=>by
  have ih:=AL (a:=a) (lim:=lim) (C:=C) s (by omega);have hl:((List.range s).map λi=>te lim C (a.st i)).length=s:=by simp
  unfold pV at ih |-;rw[pj,List.foldl_append,ih,Ea lim C s _ _ (by rw[cQ,hl,List.length_replicate];omega)]
  have hg:(((List.range s).map λi=>te lim C (a.st i))++List.replicate (a.states.length-s) (0:Int)).getD s 0=0:=by
   rw[mY,ia (by omega),hl,Nat.sub_self,List.getElem?_replicate,if_pos (by omega)];rfl
  rw[hg,List.set_append_right _ _ (by omega),hl,Nat.sub_self,List.range_succ,dv,iw,show a.states.length-s=(a.states.length-(s+1))+1 by omega,List.replicate_succ];rfl
theorem F0{a:AdvV}{lim:Int}{k:Nat}:pV lim (gv a lim k) a.states.length (wu a)=gv a lim (k+1):=by
 unfold wu;rw[AL _ (bd _),Nat.sub_self,List.replicate_zero,jc,gv];refine List.ext_getElem? λi=>?_;rw[kf,kf];by_cases hi:i<a.states.length
 ·rw[List.getElem?_range hi,mB hi];simp[AdvV.st,List.getD,hi]
 ·rw[List.getElem?_eq_none (by simp;omega),List.getElem?_eq_none (by omega)];rfl
theorem Dr{lim:Int}(hl:0<=lim){C:List Int}(hC:∀x∈C,0<=x/\x<=lim+1)(n:Nat):∀(D:List (Nat×MvV))(nx:List Int),(∀x∈nx,0<=x/\x<=lim+1)->∀x∈D.foldl (CI lim C) nx,0<=x/\x<=lim+1
 |[],nx,h=>h
 |p::D,nx,h=>by
  rw[List.foldl_cons];refine Dr hl hC n D _ λx hx=>?_;unfold CI at hx;rcases List.mem_or_eq_of_mem_set hx with hx|rfl
  ·exact h x hx
  ·have h1:0<=nx.getD p.1 0:=by
     by_cases hb:p.1<nx.length
     ·exact(h _ (jp hb)).1
     ·rw[mY,List.getElem?_eq_none (by omega)];exact Int.le_refl _
   have h2:0<=C.getD p.2.to.toNat 0:=by
    by_cases hb:p.2.to.toNat<C.length
    ·exact(hC _ (jp hb)).1
    ·rw[mY,List.getElem?_eq_none (by omega)];exact Int.le_refl _
   omega
theorem Hn{B n len k:Nat}(h:k<len)(hn:n≠0):nt 1 (.msl B n 1 0 len) (some (.int .i64 k)) none none=some (.msl B n 1 k (len-k)):=by
 simp only[nt,bE,Int.natCast_nonneg,if_true,cK];rw[if_pos ⟨trivial,by omega,bd _,hn⟩,if_pos (.inr h),dt,Nat.mul_one]
theorem GU{B n len k:Nat}(h:k<=len)(hn:n≠0):nt 1 (.msl B n 1 0 len) none (some (.int .i64 k)) none=some (.msl B n 1 0 k):=by
 simp only[nt,bE,Int.natCast_nonneg,if_true,cK];rw[if_pos ⟨trivial,by omega,h,hn⟩,if_pos (.inl trivial),nz,Nat.sub_zero]
theorem JZ{H:Hp}{b c:Nat}{cb cs cs':List AV}(hb:H b=some cb)(hc:H c=some cs)(hne:c≠b)(h:d7 (only b cb) cs cs'):Fz (only b cb) H (av (dw H b) c cs'):=
 ⟨fun y d hd=>(by
  unfold only at hd;split at hd
  ·rename_i e;rw[e,hb];exact hd
  ·cases hd),λy d hd=>(by
  by_cases e:y=c
  ·subst e;rw[ae] at hd;cases hd;exact⟨cs,hc,if_neg hne,h⟩
  ·rw[ab e] at hd;obtain⟨h1,h2⟩:=jv hd;exact⟨d,h2,if_neg h1,d7.refl _ _⟩)⟩
theorem fi{b:Nat}{c:List AV}{H:Hp}(h:H b=some c):Sub (only b c) H:=λx cs hx=>by
 unfold only at hx;split at hx
 ·rename_i e;rw[e,h];exact hx
 ·cases hx
theorem yc(b1 b2:Nat)(c1 c2:List AV)(hne:b2≠b1):∃S:Hp,S b1=some c1/\S b2=some c2/\∀H:Hp,H b1=some c1->H b2=some c2->Sub S H:=by
 refine⟨λx=>if x=b1 then some c1 else if x=b2 then some c2 else none,?_,?_,λH h1 h2 x cs hx=>?_⟩
 ·dsimp only;rw[if_pos rfl]
 ·dsimp only;rw[if_neg hne,if_pos rfl]
 ·dsimp only at hx;split at hx
  ·rename_i e;rw[e,h1];exact hx
  ·split at hx
   ·rename_i e;rw[e,h2];exact hx
   ·cases hx
theorem tZ{α:Type}{f:α->AV}{sz:Nat}(l:List α):jJ (kZ sz f l)=some l.length:=Cm
theorem xF{cs new:List AV}{k:Nat}{pre:List AV}(h1:cs.take k=pre)(h2:k+new.length<=cs.length):(cE cs k new).length=cs.length/\(cE cs k new).take (k+new.length)=pre++new:=by
 subst h1;unfold cE;have hl:(cs.take k).length=k:=by rw[jg];omega
 refine⟨by rw[cQ,cQ,Ce,hl];omega,?_⟩;rw[Cn (by rw[cQ,hl];omega),js (by rw[cQ,hl];omega)]
theorem B2(a:AdvV)(d s:Nat)(w:List RndV):(be a (d+1) s).map (w++ ·)=(a.st s).flatMap λm=>(be a d m.to.toNat).map ((w++[m.r])++ ·):=by
 rw[be,List.map_flatMap]
 congr 1
 funext m
 rw[List.map_map];refine pz λv _=>?_;simp
theorem KJ{H:Hp}(l:List RndV):ef 7 H (bA l)=some (l.length,cL cJ l):=uN
theorem IA{H:Hp}{s:AV}{l:List RndV}(h:Row H 7 s (cL cJ l)):SnapF H s (bA l):=by
 refine Ef (elems:=l.map cJ) (by rw[CG];exact h) (λy hy=>?_) (by omega) (λy hy c hx=>?_)
 ·obtain⟨n,_,rfl⟩:=cC.1 hy;rfl
 ·obtain⟨n,_,rfl⟩:=cC.1 hy;rw[PE.2.2.2.2.2.2.2.2.2.2.2.2.2.2.2.2.2.2.2.2.2.1,PC.1] at hx;simp only[gV,List.not_mem_nil,or_false] at hx;rcases hx with rfl|rfl|rfl|rfl|rfl|rfl|rfl<;>exact .int _ _
theorem nS{α:Type}[Inhabited α]{f:α->AV}{l:List α}{i:Nat}(h:i<l.length):cL f l=cL f (l.take i)++((f (l.getD i default)).cells++cL f (l.drop (i+1))):=by
 have e:l=l.take i++(l.getD i default::l.drop (i+1)):=by
  rw[<-fp h,tH]
 conv=>lhs;rw[e]
 rw[eR];rfl
theorem zi{α:Type}[Inhabited α]{f:α->AV}{sz:Nat}(hc:∀x,(f x).cells.length=sz){l:List α}{i:Nat}(h:i<l.length):((cL f l).drop (i*sz)).take sz=(f (l.getD i default)).cells:=by
 have hl:(cL f (l.take i)).length=i*sz:=by rw[eu hc,jg,Nat.min_eq_left (by omega)]
 rw[nS h,List.drop_append,hl,Nat.sub_self,List.drop_zero,rY (by omega),List.nil_append,Cn (by rw[hc];exact bd _),js (by rw[hc];exact bd _)]
theorem MV{α:Type}[Inhabited α]{f:α->AV}{sz:Nat}(hc:∀x,(f x).cells.length=sz){l:List α}{i:Nat}(h:i<l.length):cE (cL f l) (i*sz) (f (l.getD i default)).cells=cL f l:=by
 have hl:(cL f (l.take i)).length=i*sz:=by rw[eu hc,jg,Nat.min_eq_left (by omega)]
 unfold cE
 have h1:(cL f l).take (i*sz)=cL f (l.take i):=by
  rw[nS h,Cn (by omega),js (by omega)]
 have h2:(cL f l).drop (i*sz+(f (l.getD i default)).cells.length)=cL f (l.drop (i+1)):=by
  rw[nS h,<-iw,List.drop_append,rY (by rw[cQ,hl];omega),List.nil_append,cQ,hl,Nat.sub_self,List.drop_zero]
 rw[h1,h2,iw,<-nS h]
theorem qo(c:CaseV):(fw c).cells.length=3:=rfl
theorem IB(c:CaseV):∀x∈(fw c).cells,Dat x:=DatL.cons (bP _) (DatL.cons (bS _) (DatL.cons (bS _) DatL.nil))
theorem MI(l:List CaseV):(cL fw l).length=l.length*3:=eu qo l
theorem It(l:List CaseV):AV.ones (cL fw l)=true:=tK (f:=fw) (λ_=>rfl) l
theorem NH{H:Hp}(l:List CaseV):ef 3 H (bu l)=some (l.length,cL fw l):=uN
theorem II{H:Hp}(l:List (List MvV)):ef 1 H (aN l)=some (l.length,l.map bD):=Er (λ_=>rfl)
theorem GM{H:Hp}(l:List MvV):ef 8 H (bD l)=some (l.length,cL dC l):=uN
theorem MR(l:List MvV):(cL dC l).length=l.length*8:=eu (f:=dC) (λ_=>rfl) l
theorem De(l:List MvV):AV.ones (cL dC l)=true:=tK (f:=dC) (λ_=>rfl) l
theorem Ib{H:Hp}{s:AV}{l:List MvV}(h:Row H 8 s (cL dC l)):Snap H s (bD l):=rE (f:=dC) (by omega) (λ_=>rfl) (λx=>yZ x) h
theorem Mm{H:Hp}{s:AV}{l:List CaseV}(h:Row H 3 s (cL fw l)):Snap H s (bu l):=rE (f:=fw) (by omega) qo IB h
theorem Dc{H:Hp}{s:AV}{l:List (List MvV)}(h:Row H 1 s (l.map bD)):Snap H s (aN l):=h.snapL' (λ_=>rfl) (λx _=>kC x)
def wy(n:Nat):List AV:=(List.range n).map λ(k:Nat)=>.int .i64 (k:Int)
structure Bd(H:Hp)(bb mb:Nat)(n:Int)(vs:List VwV)(VS:AV):Prop where
 b:H bb=some [.int .i64 n,VS,.mp mb]
 r:Row H 8 VS (cL dP vs)
 m:H mb=some [.omap (vs.map dP) (wy vs.length)]
theorem LG(v w:VwV):kT (.st [.int,.int,.int,.int,.int,.int,.int,.int]) (dP v) (dP w)=some (decide (v=w)):=by
 have h:=mw [v.proc,v.round,v.input,v.h0,v.h1,v.h2,v.h3,v.h4] [w.proc,w.round,w.input,w.h0,w.h1,w.h2,w.h3,w.h4] rfl;show dY _ v.cs w.cs=_;rw[PC.2.2.2.2.2.1];refine h.trans ?_
 congr 1
 exact decide_eq_decide.2 Gj
theorem MB(v:VwV)(ks:List VwV):eI (.st [.int,.int,.int,.int,.int,.int,.int,.int]) (dP v) (ks.map dP)=some (if v∈ks then some (ks.idxOf v) else none):=iL _ dP LG v ks
theorem Hv{n k:Nat}(h:k<n):(wy n).getD k .undef=.int .i64 (k:Int):=by
 unfold wy;simp[List.getD,h]
theorem EZ(n:Nat):wy (n+1)=wy n++[.int .i64 (n:Int)]:=by
 unfold wy;rw[List.range_succ,dv];rfl
theorem HF{f:Int}{p:Nat}(h0:0<=f)(hp:p<=60):decide (tz (nQ f p)=1)=hasFl f p:=by
 obtain⟨m,rfl⟩:∃m:Nat,f=m:=⟨f.toNat,by omega⟩
 rw[vV hp,w9];unfold hasFl;rw[show(m:Int)/((2^p:Nat):Int)=((m/2^p:Nat):Int) from rfl];generalize m/2^p=x;exact decide_eq_decide.2 (by omega)
def iU(n:Nat)(W:List (List RndV)):List (Nat×List RndV):=(List.range n).flatMap λc=>W.map λw=>(c,w)
theorem ml(n:Nat)(W:List (List RndV)):iU (n+1) W=iU n W++W.map λw=>(n,w):=by
 unfold iU;rw[List.range_succ,List.flatMap_append,lk,List.flatMap_nil,jc]
theorem DI(W:List (List RndV))(s:Nat):∀d,∃R,iU s W++R=iU (s+d) W
 |0=>⟨[],jc _⟩
 |d+1=>by
  obtain⟨R,h⟩:=DI W s d;exact⟨R++W.map λw=>(s+d,w),by rw[<-iw,h,<-ml];rfl⟩
section
attribute [local irreducible] aF ai bh aY aO aM ax aS a7 bm Go.Abs.Fn aX Go.Abs.Pure ap aJ Yl
theorem LU(n:Nat)(h:n<=5):pU 202 [.int .i64 n] (.int .i64 (pw n-1)):=by
 refine pO Pr ?_;simp only[M5,aw]
 have hw:IntKind.wrap .i64 (1*2^(min n 64))=pw n:=by
  rw[rn rfl];rcases(by omega:n=0\/n=1\/n=2\/n=3\/n=4\/n=5) with rfl|rfl|rfl|rfl|rfl|rfl<;>rfl
 have hs:=λtb tf=>KQ n tb tf;rw[hw] at hs;have hp:=yV (n:=(n:Int)) (by omega);generalize pw (n:Int)=w at *;refine wnZ @hs ?_;exact aB rfl
theorem Dg(r:RndV)(h:jX r=0):pU 170 [jN r] (.int .i64 0):=by
 refine pO Pn ?_;simp only[O9,aw];obtain⟨h1,h5,hp⟩:=i4 h;obtain⟨k,hk⟩:∃k:Nat,r.n=k:=⟨r.n.toNat,by omega⟩
 have hfu:=LU k (by omega);have hpw:=yV (n:=r.n) (by omega);have hcell:=λq hq=>Hh r (q:=q) hq;unfold jN;rw[PC.2.1];rw[hk] at hp hpw h1 h5 |-;generalize pw (k:Int)=w at *;refine wnZ and_self ?_;refine gZ (X:=Nat) (λq=>[(1,.ptr 0 6 0),(14,.agg [.int .i64 r.h0,.int .i64 r.h1,.int .i64 r.h2,.int .i64 r.h3,.int .i64 r.h4]),(15,.int .i64 q)]) (λq=>q<=5) (λq=>5-q) 0 (bo _) (by simp (disch:=omega) only[agr,ZG,reduceEqDiff,↓reduceIte,SL]) ?_;intro q hq;by_cases hq5:q<5
 rotate_left
 ·refine wnZ and_self ?_;exact aB rfl
 have hc:=hcell q hq5;obtain⟨p1,p2⟩:=hp q hq5;have hsh:=λtb tf=>yJ tb tf (r.hs.getD q 0) q
 have hmax:0<=r.hs.getD q 0/\r.hs.getD q 0<=31:=by
  by_cases hle:(k:Int)<=q
  ·rw[p1 hle];omega
  ·have:=p2 (by omega);omega
 have hbit:=Gq (f:=r.hs.getD q 0) (p:=q) hmax.1 (by omega)
 have hz:(q:Int)<k->decide (tz (nQ (r.hs.getD q 0) q)=0)=false:=λhlt=>by
  rw[(p2 hlt).2.2] at hbit;cases hd:decide (tz (nQ (r.hs.getD q 0) q)=0) with
  |false=>rfl
  |true=>rw[hd] at hbit;cases hbit
 have ha1:=λtb tf=>yv tb tf (nQ (r.hs.getD q 0) q);generalize nQ (r.hs.getD q 0) q=sn at *;generalize tz sn=an at *;generalize r.hs.getD q 0=x at *;by_cases hle:(k:Int)<=q
 ·have hx0:=p1 hle;refine wnZ (aI @IX @hc) ?_;exact⟨q+1,by omega,by omega,ag0,rfl,rfl⟩
 ·obtain⟨x0,x1,_⟩:=p2 (by omega);have hz:=hz (by omega);refine wnZ (zI5 @IX @hc @hsh @ha1 @hz) ?_;exact⟨q+1,by omega,by omega,ag0,rfl,rfl⟩
theorem HT(n:Nat)(f:Int)(h1:1<=n)(h5:n<=5)(h0:0<=f)(hf:f<pw n):pU 171 [.int .i64 n,.int .i64 f] (.int .i64 0):=by
 refine pO Qq ?_;simp only[Pg,aw];have hp:=IG n;rw[if_neg (by omega)] at hp;have hs:=λtb tf=>yJ tb tf f n;rw[MO h0 hf (by omega)] at hs;have hpw:=yV (n:=(n:Int)) (by omega);refine wnZ @hs ?_;exact aB rfl
theorem CV(r:RndV)(h:gp r=0):pU 138 [cJ r] (.int .i64 0):=by
 refine pO Ot ?_;simp only[O2,aw];obtain⟨h1,h2,h3⟩:=eX h;obtain⟨n1,n5,-⟩:=i4 h1;obtain⟨k,hk⟩:∃k:Nat,r.n=k:=⟨r.n.toNat,by omega⟩
 have hg:=Dg r h1;have hps:=HT k r.f (by omega) (by omega) h2 (by rw[<-hk];exact h3);rw[<-hk] at hps;have hd:=ie r;unfold cJ;unfold jN at hg hd;rw[PC.2.1] at hg hd;rw[PC.1];refine wnZ and_self ?_;exact aB rfl
theorem zx(a:AdvV):pU 86 [ce a] (.func 140 [.iptr [.int .i64 a.n,aN a.states] 0]):=by
 refine pO Rb ?_;simp only[b86,aw];unfold ce;rw[PC.2.2.2.1];refine wnZ @PE ?_;exact iO (ac (fP rfl rfl (ac (.int _ _) (ac (Dat.snap (fG _)) al))) al)
theorem uY(a:AdvV)(ha:ShA a){y:Nat}{H:Hp}{nx:Nat}(I:List (Nat×MvV)->Hp->Nat->Prop)
    (stab:∀D H H' n n',I D H n->n<=n'->(∀i,i<n->H' i=H i)->I D H' n')
    (rnd:∀D s m H n,I D H n->s<a.states.length->m∈a.st s->(∃R,D++(s,m)::R=wu a)->Yl Tryz.prog y [.int .i64 s,.agg m.cs] H n λr H' n'=>r=.bool true/\I (D++[(s,m)]) H' n')
    (h0:I [] H nx):
    Abs.Fn Tryz.prog 140 [.yld y,.iptr [.int .i64 a.n,aN a.states] 0] H nx λ_ H' nx'=>I (wu a) H' nx':=by
 refine fO Pk ?_;simp only[Oy,aw];obtain⟨h1,h2⟩:=ha;have hmA:wu a=mD a a.states.length:=rfl
 have hpre:∀s,s<a.states.length->∃R,mD a (s+1)++R=wu a:=λs hs=>by
  obtain⟨R,h⟩:=Ap a (s+1) (a.states.length-(s+1));exact⟨R,by rw[h,hmA];congr 1;omega⟩
 refine wnY @PE ?_;refine bt (X:=Nat) (λs=>[(0,.yld y),(1,.iptr [.int .i64 a.n,aN a.states] 0),(8,aN a.states),(9,.int .i64 a.states.length),(10,.int .i64 s)]) (λs H n=>s<=a.states.length/\I (mD a s) H n) (λs=>a.states.length-s) 0 ⟨bo _,h0⟩ ag0 ?_;clear h0;rintro s H1 n1 ⟨s1,s2⟩;by_cases hs:s<a.states.length
 rotate_left
 ·obtain rfl:s=a.states.length:=by omega
  rw[hmA];refine wnY @PE ?_;exact s2
 have ix:=tA hs;have hl2:=h2 _ (ao (l:=a.states) hs);have hms:=pj a s;have hr:=rnd (s:=s);have hps:=hpre s hs;rw[hms] at hps;rw[nI] at ix hl2;have hr:=λD m H n h1 h2 h3=>hr D m H n h1 hs h2 h3;generalize a.st s=l at *;refine wnY (aI @PE @ix) ?_;refine bt (X:=Nat) (λk=>[(0,.yld y),(1,.iptr [.int .i64 a.n,aN a.states] 0),(3,.int .i64 s),(8,aN a.states),(9,.int .i64 a.states.length),(10,.int .i64 s),(15,bD l),(16,.int .i64 l.length),(17,.int .i64 k)]) (λk H n=>k<=l.length/\I (mD a s++(l.take k).map λm=>(s,m)) H n) (λk=>l.length-k) 0 ⟨bo _,by rw[List.take_zero,List.map_nil,jc];exact s2⟩ ag0 ?_;clear s2;rintro k H2 n2 ⟨k1,k2⟩;by_cases hk:k<l.length
 rotate_left
 ·rw[js (by omega),<-hms] at k2;refine wnY @PE ?_;exact⟨s+1,by omega,⟨by omega,k2⟩,ag0⟩
 have ixm:=ixM hk;have hrm:=hr (mD a s++(l.take k).map λm=>(s,m)) (l.getD k default)
 have hnx:mD a s++(l.take (k+1)).map (λm=>(s,m))=(mD a s++(l.take k).map λm=>(s,m))++[(s,l.getD k default)]:=by
  rw[cT hk,dv,<-iw];rfl
 have hex:∃R,(mD a s++(l.take k).map λm=>(s,m))++(s,l.getD k default)::R=wu a:=by
  obtain⟨R,hR⟩:=hps;refine⟨(l.drop (k+1)).map (λm=>(s,m))++R,?_⟩;rw[<-hR,show(s,l.getD k default)::((l.drop (k+1)).map (λm=>(s,m))++R)=[(s,l.getD k default)]++((l.drop (k+1)).map (λm=>(s,m))++R) from rfl,<-iw,<-hnx,<-iw,iw (mD a s),<-dv,tH]
 have hmm:=ao hk;have hrm:=λH n h=>hrm H n h hmm hex;rw[PC.2.2.1] at ixm hrm;rw[<-hnx] at hrm;generalize (mD a s++(l.take k).map λm=>(s,m))=D at *;generalize l.getD k default=m at *;refine wnY (aI @PE @ixm) ?_;refine tV ev0 ev0 (Yl.mono (hrm _ _ (stab D H2 _ n2 _ k2 (by omega) λi hi=>by rw[ab (by omega),ab (by omega)])) ?_);rintro r H3 n3 ⟨rfl,q⟩;refine wnY @PE ?_;exact⟨k+1,by omega,⟨by omega,q⟩,ag0⟩
theorem Ki(a:AdvV)(ha:ShA a)(ho:AdvOk a):pU 84 [ce a] (.int .i64 0):=by
 refine pO Ri ?_;simp only[b84,aw];have hm:=zx a;have hd:=bI a;have hY:=@uY a ha;have h1:=ho.s1;have h2:=ho.s256;have h3:=ho.m4096;have hlen:=FX a;unfold ce at hm hd |-;rw[PC.2.2.2.1] at hm hd |-;refine wnY @PE ?_;refine kw 2 3 rfl rfl ev0 (λc0 cj hy=>?_);refine Abs.Fn.mono (hY (y:=2) (nx:=3) (λD H n=>H 0=some [.int .i64 a.n,aN a.states]/\H 1=some [.int .i64 (D.length:Nat)]/\H 2=some [c0]/\3<=n) ?_ ?_ ?_) ?_
 ·rintro D H H' n n' ⟨q0,q1,q2,q3⟩ hn hh;exact⟨(hh 0 (by omega)).trans q0,(hh 1 (by omega)).trans q1,(hh 2 (by omega)).trans q2,by omega⟩
 ·rintro D s m H n ⟨q0,q1,q2,q3⟩ hs hm' ⟨R,hR⟩
  have hDl:D.length<=4096:=by
   have:=congrArg List.length hR;rw[cQ] at this;omega
  refine hy _ _ _ _ q2 rfl ?_;clear hy;refine wnZ and_self ?_;refine⟨q2,?_⟩;have e0:dw H 2 0=some [.int .i64 a.n,aN a.states]:=by rw[bQ (by omega)];exact q0
  have e1:dw H 2 1=some [.int .i64 (D.length:Nat)]:=by rw[bQ (by omega)];exact q1
  generalize dw H 2=H1 at *;refine wnY @e1 ?_;refine⟨rfl,?_,?_,ae,q3⟩
  ·rw[ab (by omega),ab (by omega)];exact e0
  ·rw[ab (by omega),ae,cQ,List.length_singleton];rfl
 ·refine⟨by simp (disch:=omega) only[ab,ae],?_,ae,by omega⟩;simp (disch:=omega) only[ab,ae];rfl
 rintro r H' n' ⟨q0,q1,q2,q3⟩;refine .inl ⟨q2,?_⟩;have e0:dw H' 2 0=some [.int .i64 a.n,aN a.states]:=by rw[bQ (by omega)];exact q0
 have e1:dw H' 2 1=some [.int .i64 ((wu a).length:Nat)]:=by rw[bQ (by omega)];exact q1
 generalize dw H' 2=H1 at *;refine wnY (zI3 @PE @e0 @e1) ?_
 all_goals first|exact aB rfl|(exfalso;omega)
theorem JH(a:AdvV)(l:List MvV)(h1:l≠[])(h2:∀m∈l,MvOk a m)(h3:∀i,0<i->i<l.length->aD (l.getD (i-1) default).r.ints (l.getD i default).r.ints<0)(hl:l.length<=4096)(ha:a.states.length<=256):pU 85 [ce a,bD l] (.int .i64 0):=by
 refine pO Sj ?_;simp only[b85,aw];have hl0:0<l.length:=AN.2 h1;unfold ce;rw[PC.2.2.2.1];refine wnY @PE ?_;refine bt (X:=Nat) (λk=>[(1,bD l),(2,.ptr 0 2 0),(11,bD l),(12,.int .i64 l.length),(13,.int .i64 k)]) (λk H n=>k<=l.length/\H 0=some [.int .i64 a.n,aN a.states]/\0<n) (λk=>l.length-k) 0 ⟨bo _,ae,ji⟩ (by simp (disch:=omega) only[agr,ZG,reduceEqDiff,↓reduceIte,SL]) ?_;rintro k H n ⟨k1,g0,hn⟩;by_cases hk:k<l.length
 rotate_left
 ·refine wnY @PE ?_;exact aB rfl
 have ix:=ixM hk;obtain⟨m1,m2,m3,m4⟩:=h2 _ (ao hk);have hck:=CV (l.getD k default).r m1;have hdm:=fV (l.getD k default).r;rw[PC.2.2.1] at ix;have hcm:=λp=>rP p (l.getD k default).r;have hord:=h3 k;unfold cJ at hck hdm;rw[PC.1] at hck hdm;have hz:decide ((l.getD k default).r.n≠a.n)=false:=bR (λh=>h m2);cases k with
 |zero=>
  generalize l.getD 0 default=m at *;have z0:decide ((0:Int)<((0:Nat):Int))=false:=rfl;refine wkY (zI5 @PE @ix @g0 @hz @z0) ?_
  all_goals first|(exfalso;omega)|skip
  exact⟨0+1,by omega,⟨by omega,by rw[ab (by omega),ab (by omega)];exact g0,by omega⟩,ag0⟩
 |succ j=>
  have z0:decide ((0:Int)<((j+1:Nat):Int))=true:=bV (by omega)
  have ix2:d9 8 (bD l) (.int .i64 (((j+1:Nat):Int)-1))=some (.iptr (l.getD j default).cs 0):=by
   rw[show((j+1:Nat):Int)-1=(j:Int) by omega];exact ixM (by omega)
  rw[PC.2.2.1] at ix2;have hcp:=hcm (l.getD j default).r;have hdp:=fV (l.getD j default).r;unfold cJ at hdp hcp;rw[PC.1] at hdp;rw[PC.1,PC.1] at hcp;have hord:=hord (by omega) hk;rw[show j+1-1=j from rfl] at hord;clear hcm;generalize l.getD (j+1) default=m at *;generalize l.getD j default=p at *;generalize aD p.r.ints m.r.ints=O at *;have zz:=aI @PE (aI @ix (aI @ix2 (aI @g0 (aI @hz @z0))));repeat' (first|refine zW ?_|refine zM ?_|apply a_n|refine zO ?_|refine vY ?_|refine cY ?_ (hp:=by first|exact hck|exact hcp)|refine alY ?_|refine stY ?_|refine gTY ?_|refine cFY ?_|(refine zGY ?_ ?_<;>(intro _hg;try (exfalso;omega)))|fail)
  all_goals first|(exfalso;omega)|skip
  exact⟨j+1+1,by omega,⟨by omega,by rw[ab (by omega),ab (by omega)];exact g0,by omega⟩,ag0⟩
theorem oW(a:AdvV)(ha:ShA a)(ho:AdvOk a):pU 52 [ce a] (.int .i64 0):=by
 refine pO So ?_;simp only[b52,aw];have hsz:=Ki a ha ho;have hst:=λl hl=>JH a l (ho.ne l hl) (ho.mv l hl) (ho.asc l hl) (fu (jA hl) ho.m4096) ho.s256;have hm:=zx a;have hd:=bI a;have hY:=@uY a ha;have n1:=ho.n1;have n5:=ho.n5;have hl8:=ha.len
 have hgrow:∀l∈a.states,∀m∈l,∀k∈a.st m.to.toNat,I6 m.r.f k.r.f=0:=λl hl m hml k hk=>by
  have hg:=dS.1 (dS.1 ho.grow l hl) m hml;have hin:=dS.1 hg k hk;have ok1:=ho.mv l hl m hml;have ok2:=ho.mv _ (fF (a:=a) (s:=m.to.toNat) (by have:=ok1.to0;have:=ok1.to1;omega)) k hk;obtain⟨_,p0,p1⟩:=eX ok1.r;obtain⟨_,p2,p3⟩:=eX ok2.r;have hpw:=yV (n:=a.n) n5;rw[ok1.n] at p1;rw[ok2.n] at p3;exact LF ⟨p0,by omega⟩ ⟨p2,by omega⟩ hin
 unfold ce at hsz hst hm hd |-;rw[PC.2.2.2.1] at hsz hst hm hd |-;refine wnY @PE ?_;refine bt (X:=Nat) (λk=>[(1,.ptr 0 2 0),(2,.ptr 1 1 0),(25,aN a.states),(26,.int .i64 a.states.length),(27,.int .i64 k)]) (λk H n=>k<=a.states.length/\H 0=some [.int .i64 a.n,aN a.states]/\H 1=some [.int .i64 0]/\n=2) (λk=>a.states.length-k) 0 ⟨bo _,by simp (disch:=omega) only[ab,ae],by simp (disch:=omega) only[ae],rfl⟩ (by simp (disch:=omega) only[agr,ZG,reduceEqDiff,↓reduceIte,SL]) ?_;rintro k H n ⟨k1,g0,g1,rfl⟩;by_cases hk:k<a.states.length
 ·have ix:=tA hk;have hs:=hst _ (ao hk);have hdl:=kC (a.states.getD k default);generalize a.states.getD k default=l at *;refine wnY (zI3 @PE @ix @g0) ?_;exact⟨k+1,by omega,⟨by omega,g0,g1,rfl⟩,ag0⟩
 refine wnY (aI @PE @g0) ?_;refine kw 2 3 rfl rfl ev0 (λc0 cj hy=>?_);refine Abs.Fn.mono (hY (y:=2) (nx:=3) (λD H n=>H 0=some [.int .i64 a.n,aN a.states]/\H 1=some [.int .i64 0]/\H 2=some [c0]/\3<=n) ?_ ?_ ?_) ?_
 ·rintro D H H' n n' ⟨q0,q1,q2,q3⟩ hn hh;exact⟨(hh 0 (by omega)).trans q0,(hh 1 (by omega)).trans q1,(hh 2 (by omega)).trans q2,by omega⟩
 ·rintro D s m H n ⟨q0,q1,q2,q3⟩ hs hm'-;have ok:=ho.mv _ (fF hs) m hm';have t0:=ok.to0;have t1:=ok.to1;have hgm:=hgrow _ (fF hs) m hm';have ixs:=KT (l:=a.states) ⟨t0,t1⟩;rw[nI] at ixs;have hll:=ha.each _ (fF (a:=a) (s:=m.to.toNat) (by omega));generalize a.st m.to.toNat=l at *;refine hy _ _ _ _ q2 rfl ?_;clear hy;rw[PC.2.2.1];refine wnY and_self ?_;refine⟨by simp (disch:=omega) only[ab];exact q2,?_⟩;generalize hX:dw (av _ _ _) 2=H1;have e0:H1 0=some [.int .i64 a.n,aN a.states]:=by rw[<-hX];simp (disch:=omega) only[bQ,ab];exact q0
  have e1:H1 1=some [.int .i64 0]:=by rw[<-hX];simp (disch:=omega) only[bQ,ab];exact q1
  have em:H1 n=some [.int .i64 m.r.n,.int .i64 m.r.h0,.int .i64 m.r.h1,.int .i64 m.r.h2,.int .i64 m.r.h3,.int .i64 m.r.h4,.int .i64 m.r.f,.int .i64 m.to]:=by rw[<-hX];simp (disch:=omega) only[bQ,ae];rfl
  clear hX q0 q1 q2;refine wnY (zI4 @PE @e0 @em @ixs) ?_;refine bt (X:=Nat) (λj=>[(1,.ptr 0 2 0),(2,.ptr 1 1 0),(8,.ptr n 8 0),(47,bD l),(48,.int .i64 l.length),(49,.int .i64 j)]) (λj H' n'=>j<=l.length/\H' 0=some [.int .i64 a.n,aN a.states]/\H' 1=some [.int .i64 0]/\H' n=some [.int .i64 m.r.n,.int .i64 m.r.h0,.int .i64 m.r.h1,.int .i64 m.r.h2,.int .i64 m.r.h3,.int .i64 m.r.h4,.int .i64 m.r.f,.int .i64 m.to]/\n<n') (λj=>l.length-j) 0 ⟨bo _,e0,e1,em,by omega⟩ (by simp (disch:=omega) only[agr,ZG,reduceEqDiff,↓reduceIte,SL]) ?_;clear e0 e1 em;rintro j H2 n2 ⟨j1,e0,e1,em,hn2⟩;by_cases hj:j<l.length
  rotate_left
  ·refine wnY @PE ?_;exact⟨rfl,by rw[ab (by omega)];exact e0,by rw[ab (by omega)];exact e1,ae,by omega⟩
  have ixj:=ixM hj;have hg:=hgm _ (ao hj);have hae:=λtb tf=>JM tb tf m.r.f (l.getD j default).r.f;rw[hg] at hae;rw[PC.2.2.1] at ixj;generalize l.getD j default=k at *;refine wnY (zI4 @PE @ixj @em @hae) ?_;exact⟨j+1,by omega,⟨by omega,by simp (disch:=omega) only[ab];exact e0,by simp (disch:=omega) only[ab];exact e1,by simp (disch:=omega) only[ab];exact em,by omega⟩,ag0⟩
 ·exact⟨by rw[ab (by omega)];exact g0,by rw[ab (by omega)];exact g1,ae,by omega⟩
 rintro r H' n' ⟨q0,q1,q2,q3⟩;refine .inl ⟨q2,?_⟩;have e1:dw H' 2 1=some [.int .i64 0]:=by rw[bQ (by omega)];exact q1
 generalize dw H' 2=H1 at *;refine wnY (aI @PE @e1) ?_;exact aB rfl
theorem JU(a b:Nat)(ha:a<65536)(hb:b<65536):pU 200 [.int .u64 a,.int .u64 b] (.tup [.int .u64 0,.int .u64 ((a*b:Nat):Int)]):=by
 refine pO Nl ?_;simp only[Nz,aw];have hab:a*b<=65535*65535:=Nat.mul_le_mul (by omega) (by omega)
 have hA:∀(n:Nat)(tb tf:Bool),n<65536->br .and tb tf (.int .u64 n) (.int .u64 4294967295)=some (.int .u64 n):=λn tb tf h=>by
  have:=J1 (k:=.u64) (a:=n) (b:=4294967295) (tb:=tb) (tf:=tf) (by simp[IntKind.bits];omega) (by simp[IntKind.bits]);rw[show((4294967295:Nat):Int)=4294967295 from rfl] at this;rw[this,show(4294967295:Nat)=2^32-1 from rfl,Hm,Nat.mod_eq_of_lt (by omega)]
 have hS:∀(n:Nat)(tb tf:Bool),n<4294967296->br .shr tb tf (.int .u64 n) (.int .u64 32)=some (.int .u64 0):=λn tb tf h=>by
  have:=I4 (k:=.u64) (k':=.u64) (a:=n) (b:=32) (tb:=tb) (tf:=tf) (by simp[IntKind.bits]);rw[show((32:Nat):Int)=32 from rfl] at this;rw[this,Nat.div_eq_of_lt (by omega)];rfl
 have hS0:∀(tb tf:Bool),br .shr tb tf (.int .u64 0) (.int .u64 32)=some (.int .u64 0):=λtb tf=>hS 0 tb tf (by omega);have hA0:∀(tb tf:Bool),br .and tb tf (.int .u64 0) (.int .u64 4294967295)=some (.int .u64 0):=λtb tf=>hA 0 tb tf (by omega)
 have hM:IntKind.wrap .u64 ((a:Int)*b)=((a*b:Nat):Int):=by
  rw[<-Int.natCast_mul];exact yh (by omega) (by omega)
 have w0:IntKind.wrap .u64 0=0:=by decide
 have qa:=λtb tf=>hA a tb tf ha;have qb:=λtb tf=>hA b tb tf hb;have sa:=λtb tf=>hS a tb tf (by omega);have sb:=λtb tf=>hS b tb tf (by omega);have sab:=λtb tf=>hS (a*b) tb tf (by omega);refine wnZ (aI @qa (aI @qb (aI @sa (JG @sb @hM @sab @Int.zero_mul @Int.mul_zero @Int.add_zero @Int.zero_add @w0 @hS0 @hA0)))) ?_;refine bG (ac (aB rfl) (ac (aB rfl) al))
theorem PR(a b:Nat)(ha:a<65536)(hb:b<65536):pU 166 [.int .u64 a,.int .u64 b] (.tup [.int .u64 0,.int .u64 ((a*b:Nat):Int)]):=by
 refine pO Oj ?_;simp only[Nb,aw];have bfe:(false=true)=False:=by simp
 have zz:=@bfe;repeat' (first|refine zW ?_|apply a_n|refine zO ?_|refine vZ ?_|refine cZ ?_ (hp:=by exact JU a b ha hb) (hs:=by(first|refine bJ ?_ rfl|apply bC);(repeat' (first|exact al|apply fh|apply cU|exact Dat.int));first|done|fail)|refine cFZ ?_|refine au rfl ?_|refine r2Z ?_|fail)
 refine bG (ac (aB rfl) (ac (aB rfl) al))
theorem Ik(v:Int)(n:Nat)(h1:1<=n)(h2:n<=1000):PureF Tryz.prog 132 [aq [v],.int .i64 n] (aq (List.replicate n v)):=by
 refine qO PF ?_;simp only[PV,aw];have e1:IntKind.wrap .u64 (([v].length:Nat):Int)=((1:Nat):Int):=yh (by simp) (by simp);have e2:IntKind.wrap .u64 (n:Int)=n:=yh (by omega) (by omega);have e3:IntKind.wrap .i64 ((1*n:Nat):Int)=n:=by rw[i9]<;>omega
 have zz:=aI @e1 @e2;repeat' (first|refine zW ?_|apply a_n|refine zO ?_|refine vZ ?_|refine cZ ?_ (hp:=by exact PR 1 n (by omega) (by omega)) (hs:=by(first|refine bJ ?_ rfl|apply bC);(repeat' (first|exact al|apply fh|apply cU|exact Dat.int));first|done|fail)|refine gTZ ?_|(refine zGZ ?_ ?_<;>(intro _hg;try (exfalso;omega)))|fail)
 refine nj rfl ev0 ev0 (by omega) (by omega) (by omega) (by omega) ?_;have e4:((1*n:Nat):Int).toNat=n:=by omega
 rw[e4,mS,Nat.mul_one];refine wnZ and_self ?_;refine Hg (n:=1) (by((try simp only[bf,ZA,reduceEqDiff,↓reduceIte,reduceAdd,reduceLeDiff]);(try with_reducible rfl));exact sD (m:=1) (new:=[.int .i64 v]) (k:=1) mQ (by simp;omega) (by omega) ae (by simp) rfl (by omega) rfl) ?_;have hrow:∀k:Nat,1<=k->k<=n->(List.replicate k v++List.replicate (n-k) (0:Int)).length=n:=λk h1 h2=>by simp;omega
 have hst:cE ((List.replicate n (0:Int)).map (AV.int .i64)) 0 [.int .i64 v]=(List.replicate 1 v++List.replicate (n-1) (0:Int)).map (AV.int .i64):=by
  obtain⟨m,rfl⟩:∃m,n=m+1:=⟨n-1,by omega⟩
  simp[cE,List.replicate_succ]
 rw[hst];refine wnZ and_self ?_;refine bt (X:=Nat) (λk=>[(7,.msl 0 n 1 0 n),(8,.int .i64 k)]) (λk H nx=>1<=k/\k<=n/\H 0=some ((List.replicate k v++List.replicate (n-k) (0:Int)).map (AV.int .i64))) (λk=>n-k) 1 ⟨bd _,h1,ae⟩ ag0 ?_;rintro k H nx ⟨k1,k2,hH⟩;by_cases hk:k<n
 ·have s1:nt 1 (.msl 0 n 1 0 n) (some (.int .i64 k)) none none=some (.msl 0 n 1 k (n-k)):=Hn hk (by omega);have s2:nt 1 (.msl 0 n 1 0 n) none (some (.int .i64 k)) none=some (.msl 0 n 1 0 k):=GU (by omega) (by omega)
  have hcp:uO 1 (.msl 0 n 1 k (n-k)) (.msl 0 n 1 0 k) H=some (min k (n-k),av H 0 (cE ((List.replicate k v++List.replicate (n-k) (0:Int)).map (AV.int .i64)) k ((List.replicate (min k (n-k)) v).map (AV.int .i64)))):=by
   refine sD (m:=min k (n-k)) (ls:=k) (k:=min k (n-k)) rfl rfl (by omega) hH (by simp;omega) ?_ (by omega) jP;have h:=fW (H:=H) (sz:=1) (b:=0) (n:=n) (off:=0) (len:=min k (n-k)) hH (by simp;omega) (by omega);refine h.trans ?_
   congr 2
   simp only[List.drop_zero,Nat.mul_one,dv,List.map_replicate];rw[Cn (by simp;omega),List.take_replicate]
   congr 1;omega
  refine wnZ (aI @s1 @s2) ?_;refine Hg (by((try simp only[bf,ZA,reduceEqDiff,↓reduceIte,reduceAdd,reduceLeDiff]);(try with_reducible rfl));exact hcp) ?_
  have e5:cE ((List.replicate k v++List.replicate (n-k) (0:Int)).map (AV.int .i64)) k ((List.replicate (min k (n-k)) v).map (AV.int .i64))=(List.replicate (k+min k (n-k)) v++List.replicate (n-(k+min k (n-k))) (0:Int)).map (AV.int .i64):=by
   simp only[cE,dv,List.map_replicate,List.length_replicate];rw[Cn (by simp),List.take_replicate,Nat.min_self,List.drop_append];simp only[List.drop_replicate,List.length_replicate];rw[show k-(k+min k (n-k))=0 by omega,show n-k-(k+min k (n-k)-k)=n-(k+min k (n-k)) by omega,List.replicate_zero,List.nil_append,List.replicate_append_replicate.symm]
   try simp
  rw[e5];simp only[fY,List.map_nil,List.getD_cons_succ,List.getD_cons_zero];refine wnZ and_self ?_;refine⟨k+min k (n-k),by omega,⟨by omega,by omega,ae⟩,ag0⟩
 ·have hkn:k=n:=by omega
  subst hkn;refine wnZ and_self ?_;rw[Nat.sub_self,List.replicate_zero,jc] at hH;exact sw hH rfl (by simp)
theorem GP(a:AdvV)(ha:ShA a)(ho:AdvOk a)(k:Nat)(hk:k<=6)(lim:Int)(hl:0<=lim)(hl2:lim<=1048576):pU 80 [ce a,.int .i64 k,.int .i64 lim] (.int .i64 (lP a k lim)):=by
 refine pO RI ?_;simp only[b80,aw];have h0:=ho.s1;have h8:=ha.len;have hm:=zx a;have hd:=bI a;have hY:=@uY a ha;have hrp:=Ik 1 a.states.length h0 (by omega);have hcl:=ue (a:=a) (lim:=lim);have hcb:=tN (a:=a) (lim:=lim) hl;have hupc:=λj=>F0 (a:=a) (lim:=lim) (k:=j);have hok:=ho.mv;have e0:gv a lim 0=List.replicate a.states.length (1:Int):=by unfold gv;exact List.map_const' ..
 unfold ce lP at *;rw[PC.2.2.2.1] at hm hd |-;refine wnY @PE ?_;refine pr (ys:=[aq [1],.int .i64 a.states.length]) ev0 ev0 hrp ?_ ?_
 ·exact ac (oh ae rfl (by decide) rfl (fun y hy=>by simp at hy; subst hy; rfl) (fun i x c hx hc=>by
    match i with
    |0=>simp at hx hc;subst hx hc;exact .int _ _)) (ac (.int _ _) al)
 rw[<-e0];refine wnY @PE ?_
 refine pJ (X:=Nat) (λj=>[(1,.int .i64 k),(3,.ptr 0 2 0),(5,.ptr 1 1 0),(7,.ptr 3 1 0),(16,.int .i64 k),(17,.int .i64 j)]) (λj H n=>j<=k/\H 0=some [.int .i64 a.n,aN a.states]/\H 1=some [.int .i64 lim]/\H 3=some [aq (gv a lim j)]/\3<n) (λj=>k-j) 0
  ⟨aQ,_,Fz.none,⟨bo _,by simp (disch:=omega) only[ab,ae],by simp (disch:=omega) only[ab,ae],by rw[ae];rfl,by omega⟩,eT (by simp (disch:=omega) only[agr,ZG,reduceEqDiff,↓reduceIte,SL])⟩ ?_
 rintro j H nx ⟨j1,g0,g1,g3,hnx⟩;by_cases hj:j<k
 rotate_left
 ·obtain rfl:j=k:=by omega
  have ix:d9 1 (aq (gv a lim j)) (.int .i64 0)=some (.iptr [.int .i64 ((gv a lim j).getD 0 0)] 0):=zR (Int.le_refl _) (by rw[hcl];omega);refine wnY (aI @g3 @ix) ?_;exact aB rfl
 have hcj:=hcb j;have hlj:=hcl j;have hup:=hupc j;have hcn:=hcl (j+1);generalize hC1e:gv a lim (j+1)=C1 at *;generalize gv a lim j=C at *;refine wnY @g3 ?_;rw[hlj];refine nj rfl ev0 ev0 (by omega) (by omega) (by omega) (by omega) ?_;rw[cK,mS,Nat.mul_one];refine wnY (aI @PE @g0) ?_;generalize hX:av (av (av H nx _) _ _) _ _=H1;have e0':H1 0=some [.int .i64 a.n,aN a.states]:=by rw[<-hX];simp (disch:=omega) only[ab];exact g0
 have e1:H1 1=some [.int .i64 lim]:=by rw[<-hX];simp (disch:=omega) only[ab];exact g1
 have e3:H1 3=some [aq C]:=by rw[<-hX];simp (disch:=omega) only[ab];exact g3
 have er:H1 nx=some ((pV lim C a.states.length []).map (AV.int .i64)):=by rw[<-hX];simp (disch:=omega) only[ab,ae];rfl
 have et:H1 (nx+1)=some [.msl nx a.states.length 1 0 a.states.length]:=by rw[<-hX];simp (disch:=omega) only[ae];rfl
 clear hX g0 g1 g3;refine kw (nx+2) (nx+3) (by omega) rfl ev0 (λc0 cj hy=>?_);refine Abs.Fn.mono (hY (y:=nx+2) (nx:=nx+3) (λD H n=>H 0=some [.int .i64 a.n,aN a.states]/\H 1=some [.int .i64 lim]/\H 3=some [aq C]/\H nx=some ((pV lim C a.states.length D).map (AV.int .i64))/\H (nx+1)=some [.msl nx a.states.length 1 0 a.states.length]/\H (nx+2)=some [c0]/\nx+3<=n) ?_ ?_ ?_) ?_
 ·rintro D H H' n n' ⟨q0,q1,q3,qr,qt,qy,q4⟩ hn hh;exact⟨(hh 0 (by omega)).trans q0,(hh 1 (by omega)).trans q1,(hh 3 (by omega)).trans q3,(hh nx (by omega)).trans qr,(hh (nx+1) (by omega)).trans qt,(hh (nx+2) (by omega)).trans qy,by omega⟩
 ·rintro D s m H n ⟨q0,q1,q3,qr,qt,qy,q4⟩ hs hm'-;have ok:=hok _ (fF hs) m hm';have t0:=ok.to0;have t1:=ok.to1;have hul:=HG lim C a.states.length D;have hub:=Dr hl hcj a.states.length D (List.replicate a.states.length 0) λx hx=>by rw[(List.mem_replicate.1 hx).2];omega
  have hus:=Fh lim C a.states.length D s m;change ∀x∈pV lim C a.states.length D,_ at hub;generalize pV lim C a.states.length (D++[(s,m)])=U' at *;generalize pV lim C a.states.length D=U at *;have hbu:=hub _ (jp (l:=U) (i:=s) (by omega));have hbc:=hcj _ (jp (l:=C) (i:=m.to.toNat) (by omega));have ixc:d9 1 (aq C) (.int .i64 m.to)=some (.iptr [.int .i64 (C.getD m.to.toNat 0)] 0):=zR t0 (by omega)
  have hgu:(U.map (AV.int .i64))[s]?=some (.int .i64 (U.getD s 0)):=by
   rw[kf];simp[List.getD,show s<U.length by omega]
  have hlp:∀x:Int,cE (U.map (AV.int .i64)) s [.int .i64 x]=(U.set s x).map (AV.int .i64):=λx=>by
   rw[og (by rw[bj];omega),tR]
  have hml:(U.map (AV.int .i64)).length=a.states.length:=by rw[bj,hul]
  generalize C.getD m.to.toNat 0=x at *;generalize U.getD s 0=u at *;have hsN:s<a.states.length:=hs;generalize hL:U.map (AV.int .i64)=L at *;refine hy _ _ _ _ qy rfl ?_;clear hy;rw[PC.2.2.1];refine wnY and_self ?_;refine⟨by simp (disch:=omega) only[ab];exact qy,?_⟩;generalize hX:dw (av _ _ _) (nx+2)=H3;have w:∀y,y<n->y≠nx+2->H3 y=H y:=λy h1 h2=>by rw[<-hX];simp (disch:=omega) only[bQ,ab]
  have w0:=(w 0 (by omega) (by omega)).trans q0;have w1:=(w 1 (by omega) (by omega)).trans q1;have w3:=(w 3 (by omega) (by omega)).trans q3;have wr:=(w nx (by omega) (by omega)).trans qr;have wt:=(w (nx+1) (by omega) (by omega)).trans qt;have wm:H3 n=some [.int .i64 m.r.n,.int .i64 m.r.h0,.int .i64 m.r.h1,.int .i64 m.r.h2,.int .i64 m.r.h3,.int .i64 m.r.h4,.int .i64 m.r.f,.int .i64 m.to]:=by rw[<-hX];simp (disch:=omega) only[bQ,ae];rfl
  clear w hX q0 q1 q3 qr qt qy;refine wnY (zI9 @w0 @w1 @w3 @wr @wt @wm @hml @hgu @ixc) ?_;refine⟨rfl,?_,?_,?_,?_,?_,ae,by omega⟩
  ·simp (disch:=omega) only[ab];exact w0
  ·simp (disch:=omega) only[ab];exact w1
  ·simp (disch:=omega) only[ab];exact w3
  ·simp (disch:=omega) only[ab,ae];rw[hlp,hus]
  ·simp (disch:=omega) only[ab];exact wt
 ·exact⟨by rw[ab (by omega)];exact e0',by rw[ab (by omega)];exact e1,by rw[ab (by omega)];exact e3,by rw[ab (by omega)];exact er,by rw[ab (by omega)];exact et,ae,by omega⟩
 rintro r H' n' ⟨q0,q1,q3,qr,qt,qy,q4⟩;refine .inl ⟨qy,?_⟩;have hdl:∀y,y≠nx+2->dw H' (nx+2) y=H' y:=λy hy=>bQ hy;have f0:=(hdl 0 (by omega)).trans q0;have f1:=(hdl 1 (by omega)).trans q1;have f3:=(hdl 3 (by omega)).trans q3;have fr:=(hdl nx (by omega)).trans qr;have ft:=(hdl (nx+1) (by omega)).trans qt;generalize dw H' (nx+2)=H2 at *;rw[hup] at fr;refine wnY (aI @f3 @ft) ?_;refine⟨j+1,by omega,_,_,JZ (b:=nx) (c:=3) (cs':=[aq C1]) (by rw[ab (by omega)];exact fr) ae (by omega) ⟨rfl,λi x x' h1 h2=>?_⟩,⟨by omega,?_,?_,by rw[ae,hC1e],by omega⟩,eT ag0⟩
 ·match i with
  |0=>
   change some (AV.msl nx a.states.length 1 0 a.states.length)=some x at h1;change some (aq C1)=some x' at h2;cases h1;cases h2;exact .inr (Row.snapI (Row.box1 ez (by rw[bj,hcn])))
  |i+1=>simp at h2
 ·simp (disch:=omega) only[ab,bQ];exact f0
 ·simp (disch:=omega) only[ab,bQ];exact f1
theorem xI(a:AdvV)(ha:ShA a)(ho:AdvOk a)(k:Nat)(hk:k<=6)(lim:Int)(hl:0<=lim)(hl2:lim<=1048576)(hn:lP a k lim<=lim):pU 41 [ce a,.int .i64 k,.int .i64 lim] (.tup [.int .i64 (lP a k lim),.int .i64 0]):=by
 refine pO RW ?_;simp only[b41,aw];have h1:=oW a ha ho;have h2:=GP a ha ho k hk lim hl hl2;have hd:=bI a;unfold ce at h1 h2 hd |-;rw[PC.2.2.2.1] at h1 h2 hd |-;generalize lP a k lim=M at *;refine wnZ @PE ?_;exact bG (ac (.int _ _) (ac (.int _ _) al))
theorem Jm(a:AdvV)(ha:ShA a)(ho:AdvOk a)(k:Nat)(hk:k<=6)(hn:lP a k 1048576<=1048576):pU 40 [ce a,.int .i64 k] (.tup [.int .i64 (lP a k 1048576),.int .i64 0]):=by
 refine pO Ro ?_;simp only[b40,aw];have h2:=xI a ha ho k hk 1048576 (by omega) (by omega) hn;have hd:=bI a;unfold ce at h2 hd |-;rw[PC.2.2.2.1] at h2 hd |-;generalize lP a k 1048576=M at *;refine wnZ @PE ?_;exact bG (ac (.int _ _) (ac (.int _ _) al))
theorem vC(l:List RndV)(hl:l.length<=100000):PureF Tryz.prog 20 [bA l] (bA l):=by
 refine qO R3 ?_;simp only[b20,aw];refine wnY and_self ?_;have hfin:∀H b,H b=some (cL cJ l)->SnapF H (.msl b (l.length*7) 7 0 l.length) (bA l):=λH b hb=>IA (Row.box b l.length _ hb (yz l));refine pR (k:=l.length) (by((try simp only[bf,ZA,reduceEqDiff,↓reduceIte,reduceAdd,reduceLeDiff]);(try with_reducible rfl));exact tZ l) (λh=>?_) (λh=>?_) (λh=>?_)
 ·refine wnY and_self ?_;refine mN rfl ev0 ev0 (KJ l) (yi l) (by omega) (by omega) ?_;refine wnY and_self ?_;exact hfin _ _ ae
 ·refine wnY and_self ?_;obtain rfl:=fI.1 h;exact .eslsl 7
 ·refine wnY and_self ?_;refine mN rfl ev0 ev0 (KJ l) (yi l) (by omega) (by omega) ?_;refine wnY and_self ?_;exact hfin _ _ ae
theorem GF(a:AdvV)(ha:ShA a)(ho:AdvOk a)(R n:Nat)(hn:n<=5000)(hR:R<=6):∀(d s len:Nat)(w:List RndV)(D:List (List RndV))(cs C:List AV)(H:Hp)(nx:Nat),len+d=R->w.length=len->s<a.states.length->D.length+(be a d s).length<=n->
    H 0=some [.int .i64 a.n,aN a.states]->H 1=some [.int .i64 R]->H 2=some cs->cs.length=n->cs.take D.length=D.map bA->H 3=some [.msl 2 n 1 0 D.length]->H 4=some [.func 42 [.ptr 1 1 0,.ptr 3 1 0,.ptr 0 2 0,.ptr 4 1 0]]->H 5=some C->C.length=R*7->C.take (len*7)=cL cJ w->6<=nx->
    Abs.Fn Tryz.prog 42 [.int .i64 s,.msl 5 (R*7) 7 0 len,.ptr 1 1 0,.ptr 3 1 0,.ptr 0 2 0,.ptr 4 1 0] H nx λr H' nx'=>r=.tup []/\nx<=nx'/\H' 0=H 0/\H' 1=H 1/\H' 4=H 4/\H' 3=some [.msl 2 n 1 0 (D.length+(be a d s).length)]/\
     (∃cs',H' 2=some cs'/\cs'.length=n/\cs'.take (D.length+(be a d s).length)=(D++(be a d s).map (w++ ·)).map bA)/\∃C',H' 5=some C'/\C'.length=R*7/\C'.take (len*7)=cL cJ w:=by
 intro d
 induction d with
 |zero=>
  intro s len w D cs C H nx hd hw hs hDn h0 h1 h2 hcl hct h3 h4 h5 hCl hCt hnx;refine fO P1 ?_;simp only[b42,aw];obtain rfl:len=R:=by omega
  have hCw:C=cL cJ w:=by rw[<-hCt,js (by omega)]
  have hlw:(be a 0 s)=[[]]:=rfl;rw[hlw] at hDn |-;have hDn:D.length+1<=n:=hDn;have hcl1:=vC w (by omega);have z:decide ((len:Int)=(len:Int))=true:=bV rfl;refine wnY (zI5 @h0 @h1 @h3 @h4 @z) ?_;refine ff (only 3 [.msl 2 n 1 0 D.length]) rfl (fi h3) ?_;have s3:only 3 [.msl 2 n 1 0 D.length] 3=some [.msl 2 n 1 0 D.length]:=ez;refine wnY @s3 ?_;refine dB ?_;refine pr (ys:=[bA w]) ev0 ev0 hcl1 (ac (BZ (by have:=Row.box (H:=H) (sz:=7) 5 len C h5 (by omega);rwa [hCw] at this)) al) ?_;refine iq ⟨fi h3,?_⟩;refine dB ?_;refine wnY @PE ?_;refine⟨fi (by rw[ab (by omega)];exact h3),?_⟩;refine fj ?_;refine Hk (b:=2) (m:=n) (off:=0) (len:=D.length) (n:=1) (new:=[bA w]) rfl ev0 (by rw[ab (by omega)];exact h2) ev0 (dz rfl) rfl hcl (λ_=>by omega) (by omega) (by omega) ?_;have hlp:=xF (cs:=cs) (new:=[bA w]) (k:=0+D.length*1) (pre:=D.map bA) (by rw[dt,Nat.mul_one];exact hct) (by simp;omega);have hlp1:(cE cs (0+D.length*1) [bA w]).length=n:=hlp.1.trans hcl
  have hlp2:(cE cs (0+D.length*1) [bA w]).take (D.length+1)=(D++[w]).map bA:=by
   have:=hlp.2;rw[List.length_singleton,dt,Nat.mul_one] at this;rw[dt,Nat.mul_one,this,dv];rfl
  generalize cE cs (0+D.length*1) [bA w]=cs' at *;have k3:av (av H nx [bA w]) 2 cs' 3=some [.msl 2 n 1 0 D.length]:=by simp (disch:=omega) only[ab];exact h3
  have zz:=@h3;repeat' (first|apply a_n|apply a_r|refine zO ?_|apply fj|refine stY ?_|refine au rfl ?_|fail)
  refine⟨rfl,by omega,by simp (disch:=omega) only[ab],by simp (disch:=omega) only[ab],by simp (disch:=omega) only[ab],ae,⟨cs',by simp (disch:=omega) only[ab,ae],hlp1,?_⟩,C,by simp (disch:=omega) only[ab];exact h5,hCl,hCt⟩;rw[fY,List.map_nil,jc];exact hlp2
 |succ d ih=>
  intro s len w D cs C H nx hd hw hs hDn h0 h1 h2 hcl hct h3 h4 h5 hCl hCt hnx;refine fO P1 ?_;simp only[b42,aw];have z:decide ((len:Int)=(R:Int))=false:=bR (by omega);have ix:=tA hs;have hWs:=B2 a d s w;have hWl:(be a (d+1) s).length=((be a (d+1) s).map (w++ ·)).length:=by rw[bj]
  rw[hWl,hWs] at hDn |-;have hok:=ho.mv _ (fF hs);rw[nI] at ix;have hll:=ha.each _ (fF hs);clear hWl hWs;generalize a.st s=l at *;refine wnY (zI7 @PE @h0 @h1 @h3 @h4 @z @ix) ?_
  refine bt (X:=Nat × List (List RndV)) (fun x=>[(1,.msl 5 (R * 7) 7 0 len),(5,.ptr 4 1 0),(23,bD l),(24,.int .i64 l.length),(25,.int .i64 x.1)]) (fun x H' n'=>x.1 ≤ l.length∧nx ≤ n'∧H' 0=H 0∧H' 1=H 1∧H' 4=H 4∧H' 3=some [.msl 2 n 1 0 x.2.length] ∧
   (∃cs',H' 2=some cs'/\cs'.length=n/\cs'.take x.2.length=x.2.map bA)/\(∃C',H' 5=some C'/\C'.length=R*7/\C'.take (len*7)=cL cJ w)/\
   x.2++((l.drop x.1).flatMap λm=>(be a d m.to.toNat).map ((w++[m.r])++ ·))=D++l.flatMap λm=>(be a d m.to.toNat).map ((w++[m.r])++ ·)) (λx=>l.length-x.1) (0,D) ⟨bo _,bd _,rfl,rfl,rfl,h3,⟨cs,h2,hcl,hct⟩,⟨C,h5,hCl,hCt⟩,by rw[List.drop_zero]⟩ ag0 ?_
  generalize hTot:D++l.flatMap (λm=>(be a d m.to.toNat).map ((w++[m.r])++ ·))=Tot at *;have hTl:Tot.length<=n:=by rw[<-hTot,cQ];exact hDn
  have hTl2:D.length+(l.flatMap λm=>(be a d m.to.toNat).map ((w++[m.r])++ ·)).length=Tot.length:=by rw[<-hTot,cQ]
  rw[hTl2];clear hcl hct h2 h3 h5 hCl hCt hDn hTl2 hTot;rintro⟨i,D1⟩ H1 n1 ⟨i1,i2,e0,e1,e4,e3,⟨cs1,e2,c1,c2⟩,⟨C1,e5,d1,d2⟩,htot⟩;dsimp only at i1 e3 c2 htot |-;by_cases hi:i<l.length
  rotate_left
  ·rw[rY (by omega),List.flatMap_nil,jc] at htot;subst htot;refine wnY @PE ?_;exact⟨rfl,i2,e0,e1,e4,e3,⟨cs1,e2,c1,c2⟩,C1,e5,d1,d2⟩
  have ixm:=ixM hi;obtain⟨m1,m2,m3,m4⟩:=hok _ (ao hi);rw[List.drop_eq_getElem_cons hi,show l[i]=l.getD i default by simp[List.getD,hi],lk,<-iw] at htot;rw[PC.2.2.1] at ixm;generalize l.getD i default=m at *;refine wnY (aI @PE @ixm) ?_;have f4:=e4.trans h4;obtain⟨S,s4,sm,hsub⟩:=yc 4 n1 [.func 42 [.ptr 1 1 0,.ptr 3 1 0,.ptr 0 2 0,.ptr 4 1 0]] [.int .i64 m.r.n,.int .i64 m.r.h0,.int .i64 m.r.h1,.int .i64 m.r.h2,.int .i64 m.r.h3,.int .i64 m.r.h4,.int .i64 m.r.f,.int .i64 m.to] (by omega);generalize hX:av (av H1 n1 _) n1 _=H2;have w2:∀y,y<n1->H2 y=H1 y:=λy hy=>by rw[<-hX];simp (disch:=omega) only[ab]
  have wm:H2 n1=some [.int .i64 m.r.n,.int .i64 m.r.h0,.int .i64 m.r.h1,.int .i64 m.r.h2,.int .i64 m.r.h3,.int .i64 m.r.h4,.int .i64 m.r.f,.int .i64 m.to]:=by rw[<-hX,ae];rfl
  clear hX;have w4:=(w2 4 (by omega)).trans f4;refine ff S rfl (hsub _ w4 wm) ?_;refine wnY (zI3 @PE @s4 @sm) ?_;refine dB ?_;refine wnY @PE ?_;refine⟨hsub _ (by rw[ab (by omega)];exact w4) (by rw[ab (by omega)];exact wm),?_⟩;refine dB ?_;refine Hk (b:=5) (m:=R*7) (off:=0) (len:=len) (n:=1) (new:=[.int .i64 m.r.n,.int .i64 m.r.h0,.int .i64 m.r.h1,.int .i64 m.r.h2,.int .i64 m.r.h3,.int .i64 m.r.h4,.int .i64 m.r.f]) rfl ev0 (by rw[ab (by omega),w2 5 (by omega)];exact e5) ev0 (dz rfl) rfl d1 (λ_=>by omega) (by omega) (by omega) ?_;refine iq ⟨hsub _ (by rw[ab (by omega),ab (by omega)];exact w4) (by rw[ab (by omega),ab (by omega)];exact wm),?_⟩;refine fj ?_;have hlp:=xF (cs:=C1) (new:=[AV.int .i64 m.r.n,.int .i64 m.r.h0,.int .i64 m.r.h1,.int .i64 m.r.h2,.int .i64 m.r.h3,.int .i64 m.r.h4,.int .i64 m.r.f]) (k:=0+len*7) (pre:=cL cJ w) (by rw[dt];exact d2) (by rw[d1,dt];show len*7+7<=R*7;omega);have hlp1:(cE C1 (0+len*7) [AV.int .i64 m.r.n,.int .i64 m.r.h0,.int .i64 m.r.h1,.int .i64 m.r.h2,.int .i64 m.r.h3,.int .i64 m.r.h4,.int .i64 m.r.f]).length=R*7:=hlp.1.trans d1
  have hlp2:(cE C1 (0+len*7) [AV.int .i64 m.r.n,.int .i64 m.r.h0,.int .i64 m.r.h1,.int .i64 m.r.h2,.int .i64 m.r.h3,.int .i64 m.r.h4,.int .i64 m.r.f]).take ((len+1)*7)=cL cJ (w++[m.r]):=by
   have:=hlp.2;rw[show 0+len*7+[AV.int .i64 m.r.n,.int .i64 m.r.h0,.int .i64 m.r.h1,.int .i64 m.r.h2,.int .i64 m.r.h3,.int .i64 m.r.h4,.int .i64 m.r.f].length=(len+1)*7 by show 0+len*7+7=_;omega] at this;rw[this,eR,mG];rfl
  generalize cE C1 (0+len*7) [AV.int .i64 m.r.n,.int .i64 m.r.h0,.int .i64 m.r.h1,.int .i64 m.r.h2,.int .i64 m.r.h3,.int .i64 m.r.h4,.int .i64 m.r.f]=C2 at *
  have hDl:D1.length+(be a d m.to.toNat).length<=n:=by
   have:=congrArg List.length htot;rw[cQ,cQ,bj] at this;omega
  have hih:=ih m.to.toNat (len+1) (w++[m.r]) D1 cs1 C2 (av (av H2 n1.succ [.int .i64 m.r.n,.int .i64 m.r.h0,.int .i64 m.r.h1,.int .i64 m.r.h2,.int .i64 m.r.h3,.int .i64 m.r.h4,.int .i64 m.r.f]) 5 C2) (n1+1+1) (by omega) (by rw[cQ,hw];rfl) (by omega) hDl
   (by simp (disch:=omega) only[ab];rw[w2 0 (by omega),e0];exact h0) (by simp (disch:=omega) only[ab];rw[w2 1 (by omega),e1];exact h1) (by simp (disch:=omega) only[ab];rw[w2 2 (by omega)];exact e2) c1 c2 (by simp (disch:=omega) only[ab];rw[w2 3 (by omega)];exact e3) (by simp (disch:=omega) only[ab];exact w4) ae hlp1 hlp2 (by omega)
  rw[show((m.to.toNat:Nat):Int)=m.to by omega] at hih;refine ci ev0 ev0 hih ?_;rintro r H4 n4 ⟨rfl,p1,p2,p3,p4,p5,⟨cs4,p6,p7,p8⟩,C4,p9,p10,p11⟩;refine wnY and_self ?_;refine⟨(i+1,D1++(be a d m.to.toNat).map ((w++[m.r])++ ·)),by dsimp only;omega,⟨by dsimp only;omega,by omega,?_,?_,?_,?_,⟨cs4,p6,p7,?_⟩,⟨C4,p9,p10,?_⟩,htot⟩,ag0⟩
  ·rw[p2];simp (disch:=omega) only[ab];rw[w2 0 (by omega),e0]
  ·rw[p3];simp (disch:=omega) only[ab];rw[w2 1 (by omega),e1]
  ·rw[p4];simp (disch:=omega) only[ab];rw[w2 4 (by omega),e4]
  ·rw[p5];dsimp only;rw[cQ,bj]
  ·dsimp only;rw[cQ,bj];exact p8
  ·have:=congrArg (List.take (len*7)) p11;rw[List.take_take,Nat.min_eq_left (by omega),eR,Cn (by rw[yz];omega),js (l:=cL cJ w) (by rw[yz];omega)] at this;exact this
theorem Jx(a:AdvV)(ha:ShA a)(ho:AdvOk a)(R:Nat)(hR:R<=6)(hn:lP a R 4096<=4096):pU 17 [ce a,.int .i64 R] (.tup [ec (be a R 0),.int .i64 0]):=by
 refine pO Rz ?_;simp only[b17,aw];have hct:=xI a ha ho R hR 4096 (by omega) (by omega) hn;have hd:=bI a;have hto:CQ a:=λl hl m hm=>⟨(ho.mv l hl m hm).to0,(ho.mv l hl m hm).to1⟩
 have h1:=ho.s1;have hnum:=tP hto (by omega) (lim:=4096) (by omega) R;have hlen:(be a R 0).length<=4096:=by omega
 have hnb:lP a R 4096=((be a R 0).length:Nat):=by omega
 have hpos:=sA hto ho.ne R 0 (by omega);have hwp:0<(be a R 0).length:=AN.2 hpos;rw[hnb] at hct;have hF:=GF a ha ho R (be a R 0).length (by omega) hR R 0 0 [] [] (bc (.agg [.esl]) (be a R 0).length) (bc (AV.agg [.int .i64 0,.int .i64 0,.int .i64 0,.int .i64 0,.int .i64 0,.int .i64 0,.int .i64 0]) R);unfold ce at hct hd |-;rw[PC.2.2.2.1] at hct hd |-;generalize be a R 0=W at *;refine wnY @PE ?_;refine nj rfl ev0 ev0 (Int.le_refl _) (by omega) (by omega) (by omega) ?_;rw[cK,Int.toNat_zero];refine wnY @PE ?_;obtain⟨S,s4,s1,hsub⟩:=yc 4 1 [.func 42 [.ptr 1 1 0,.ptr 3 1 0,.ptr 0 2 0,.ptr 4 1 0]] [.int .i64 R] (by omega);generalize hX:av (av _ _ [AV.nilf]) _ _=H2;have k4:H2 4=some [.func 42 [.ptr 1 1 0,.ptr 3 1 0,.ptr 0 2 0,.ptr 4 1 0]]:=by rw[<-hX];simp (disch:=omega) only[ae];rfl
 have k0:H2 0=some [.int .i64 a.n,aN a.states]:=by rw[<-hX];simp (disch:=omega) only[ab,ae]
 have k1:H2 1=some [.int .i64 R]:=by rw[<-hX];simp (disch:=omega) only[ab,ae]
 have k2:H2 2=some (bc (.agg [.esl]) W.length):=by rw[<-hX];simp (disch:=omega) only[ab,ae]
 have k3:H2 3=some [.msl 2 W.length 1 0 0]:=by
  rw[<-hX];simp (disch:=omega) only[ab,ae,Nat.mul_one];rfl
 clear hX;refine ff S rfl (hsub _ k4 k1) ?_;refine wnY (zI3 @PE @s4 @s1) ?_;refine dB ?_;refine nj (k1:=.i64) (k2:=.i64) (n:=0) (m:=R) rfl ev0 ev0 (Int.le_refl _) (by omega) (by omega) (by omega) ?_;rw[cK,Int.toNat_zero];refine iq ⟨hsub _ (by rw[ab (by omega)];exact k4) (by rw[ab (by omega)];exact k1),?_⟩;refine fj ?_;have z1:(bc (.agg [.esl]) W.length).length=W.length:=by simp[bc,AV.cells]
 have z2:(bc (AV.agg [.int .i64 0,.int .i64 0,.int .i64 0,.int .i64 0,.int .i64 0,.int .i64 0,.int .i64 0]) R).length=R*7:=by simp[bc,AV.cells]
 have hFF:=hF (av H2 5 (bc (AV.agg [.int .i64 0,.int .i64 0,.int .i64 0,.int .i64 0,.int .i64 0,.int .i64 0,.int .i64 0]) R)) 6 (by omega) rfl (by omega) (by simp) (by rw[ab (by omega)];exact k0) (by rw[ab (by omega)];exact k1) (by rw[ab (by omega)];exact k2) z1 (by simp) (by rw[ab (by omega)];exact k3) (by rw[ab (by omega)];exact k4) ae z2 (by simp[cL]) (bd _);rw[show((0:Nat):Int)=(0:Int) from rfl] at hFF;refine ci ev0 ev0 hFF ?_;rintro r H3 n3 ⟨rfl,p1,p2,p3,p4,p5,⟨cs4,p6,p7,p8⟩,-⟩;rw[so,dt] at p5 p8;refine wnY @p5 ?_;rw[js (by omega),List.nil_append,show(λx:List RndV=>([]:List RndV)++x)=id from rfl,List.map_id] at p8;subst p8;exact bG (ac (Dk (Row.box1 p6 (by rw[bj]))) (ac (.int _ _) al))
theorem Kj(p:PrbV)(h:OkP p):pU 39 [ca p] (.int .i64 0):=by
 refine pO Sp ?_;simp only[b39,aw];obtain⟨hck,ho,hn,r0,r6⟩:=cu h.e0;have h1:=tM p.task h.sh.c h.sh.t;rw[hck] at h1;have h2:=oW p.adv h.sa ho;have d1:=fR p.task;have d2:=bI p.adv;unfold ca;unfold gu at h1 d1;unfold ce at h2 d2;rw[PC.2.2.2.1] at h2 d2;rw[PC.2.2.2.2.1];refine wnZ @PE ?_;exact aB rfl
theorem KF(p:PrbV)(h:OkP p):pU 16 [ca p] (.tup [.int .i64 (((dX p).length:Nat)*(p.task.cases.length:Nat):Int),.int .i64 0]):=by
 refine pO Rk ?_;simp only[b16,aw];obtain⟨hck,ho,hn,r0,r6⟩:=cu h.e0;obtain⟨q1,q2,q3,q4⟩:=pd h.e0 h.num;have hto:CQ p.adv:=λl hl m hm=>⟨(ho.mv l hl m hm).to0,(ho.mv l hl m hm).to1⟩
 have hs1:=ho.s1;have hnum:=tP hto (by omega) (lim:=1048576) (by omega) p.rounds.toNat;change lP p.adv p.rounds.toNat 1048576=min ((dX p).length:Int) (1048576+1) at hnum;have h1:=Kj p h;have h2:=Jm p.adv h.sa ho p.rounds.toNat (by omega) (by omega);rw[show lP p.adv p.rounds.toNat 1048576=((dX p).length:Nat) by omega,show((p.rounds.toNat:Nat):Int)=p.rounds by omega] at h2;have d1:=e9 p;have d2:=bI p.adv;generalize (dX p).length=L at *;have hm1:(L:Int)*(p.task.cases.length:Nat)=((p.task.cases.length*L:Nat):Int):=by rw[Int.natCast_mul,Int.mul_comm]
 have hw:IntKind.wrap .i64 ((L:Int)*(p.task.cases.length:Nat))=(L:Int)*(p.task.cases.length:Nat):=i9 (by omega) (by omega);have hz:decide (1048576<(L:Int)*(p.task.cases.length:Nat))=false:=bR (by omega);unfold ca at h1 d1 |-;unfold ce at h2 d2;rw[PC.2.2.2.1] at h2 d2;rw[PC.2.2.2.2.1] at h1 d1 |-;refine wnZ (zI3 @PE @hw @hz) ?_;exact bG (ac (.int _ _) (ac (.int _ _) al))
theorem wZ(l:List (List Int))(hl:l.length<=1000000)(hs:∀x∈l,Sh x):pU 45 [ay l] (ay l):=by
 refine pO QM ?_;simp only[b45,aw];refine wnY and_self ?_;refine bt (X:=Nat×AV) (λx=>[(3,x.2),(6,ay l),(7,.int .i64 l.length),(8,.int .i64 x.1)]) (λx H nx=>x.1<=l.length/\Row H 1 x.2 ((l.take x.1).map aq)/\∀b,bk x.2=some b->b<nx) (λx=>l.length-x.1) (0,.esl) ⟨bo _,.nil,λb h=>(by cases h)⟩ ag0 ?_;rintro⟨i,sv⟩ H nx ⟨i1,hrow,hb⟩;dsimp only at i1 hrow hb |-;by_cases hi:i<l.length
 rotate_left
 ·rw[js (by omega)] at hrow;refine wnY and_self ?_;exact hrow.snapV
 have hcl:=uF (l.getD i default) (hs _ (ao hi));have htk:(l.take (i+1)).map aq=(l.take i).map aq++[aq (l.getD i default)]:=by rw[cT hi,dv];rfl
 generalize hv:l.getD i default=v at *;refine wnY @hv ?_;refine pr (ys:=[aq v]) ev0 ev0 hcl (ac (Dat.snap (bP _)) al) ?_;refine wnY and_self ?_;refine ed (k:=1) (new:=[aq v]) rfl ev0 (hrow.same λb h=>ab (by have:=hb b h;omega)) ev0 (dz rfl) rfl rfl ji (by simp;omega) (by simp;omega) ?_;rintro s' H' nx' r1 r2 r3 r4 r5;refine wnY and_self ?_;refine⟨(i+1,s'),by dsimp only;omega,⟨by dsimp only;omega,by dsimp only;rw[htk];exact r1,λb h=>?_⟩,ag0⟩;rcases r5 b h with h|h
 ·have:=hb b h;omega
 ·omega
theorem HR(l:List MvV)(hl:l.length<=1000000):pU 47 [bD l] (bD l):=by
 refine pO Sg ?_;simp only[b47,aw];refine wnY and_self ?_;have hfin:∀H b,H b=some (cL dC l)->Snap H (.msl b (l.length*8) 8 0 l.length) (bD l):=λH b hb=>Ib (Row.box b l.length _ hb (MR l));refine pR (k:=l.length) (by((try simp only[bf,ZA,reduceEqDiff,↓reduceIte,reduceAdd,reduceLeDiff]);(try with_reducible rfl));exact tZ l) (λh=>?_) (λh=>?_) (λh=>?_)
 ·refine wnY and_self ?_;refine mN rfl ev0 ev0 (GM l) (De l) (by omega) (by omega) ?_;refine wnY and_self ?_;exact hfin _ _ ae
 ·refine wnY and_self ?_;obtain rfl:=fI.1 h;exact .eslsl 8
 ·refine wnY and_self ?_;refine mN rfl ev0 ev0 (GM l) (De l) (by omega) (by omega) ?_;refine wnY and_self ?_;exact hfin _ _ ae
theorem GZ(l:List CaseV)(hl:l.length<=1000000)(h0:l≠[])(H:Hp)(nx:Nat):Abs.Fn Tryz.prog 43 [bu l] H nx λr H' nx'=>r=.msl nx (l.length*3) 3 0 l.length/\H'=av H nx (cL fw l)/\nx'=nx+1:=by
 refine fO QV ?_;simp only[b43,aw];have hl0:0<l.length:=AN.2 h0;refine wnY and_self ?_;refine pR (k:=l.length) (by((try simp only[bf,ZA,reduceEqDiff,↓reduceIte,reduceAdd,reduceLeDiff]);(try with_reducible rfl));exact tZ l) (λh=>?_) (λh=>absurd h (by omega)) (λh=>absurd h (by omega));refine wnY and_self ?_;refine mN rfl ev0 ev0 (NH l) (It l) (by omega) (by omega) ?_;refine wnY and_self ?_;exact⟨rfl,rfl,rfl⟩
theorem FL(l:List (List MvV))(hl:l.length<=1000000)(h0:l≠[])(H:Hp)(nx:Nat):Abs.Fn Tryz.prog 46 [aN l] H nx λr H' nx'=>r=.msl nx l.length 1 0 l.length/\H'=av H nx (l.map bD)/\nx'=nx+1:=by
 refine fO QN ?_;simp only[b46,aw];have hl0:0<l.length:=AN.2 h0;have hones:AV.ones (l.map bD)=true:=H9 (λ_=>rfl);refine wnY and_self ?_;refine pR (k:=l.length) (by((try simp only[bf,ZA,reduceEqDiff,↓reduceIte,reduceAdd,reduceLeDiff]);(try with_reducible rfl));exact tZ l) (λh=>?_) (λh=>absurd h (by omega)) (λh=>absurd h (by omega));refine wnY and_self ?_;refine mN rfl ev0 ev0 (II l) hones (by omega) (by omega) ?_;refine wnY and_self ?_;exact⟨rfl,rfl,rfl⟩
theorem F3(p:PrbV)(h:ShP p)(hc0:p.task.cases≠[])(hs0:p.adv.states≠[])(hcl:p.task.cases.length<=1024)(hco:∀c∈p.task.cases,c.out.length<=1000000/\c.calm.length<=1000000)(hsl:p.adv.states.length<=256)(hml:∀l∈p.adv.states,l.length<=4096):pU 18 [ca p] (ca p):=by
 refine pO Sd ?_;simp only[b18,aw];have hC0:=AN.2 hc0;have hS0:=AN.2 hs0;have hclC:=GZ p.task.cases (by omega) hc0;have hclM:=FL p.adv.states (by omega) hs0;have hsh:=h.c;unfold ca;rw[PC.2.2.2.2.1];generalize p.task.cases=L at *;generalize p.adv.states=M at *;refine wnY @PE ?_;refine ci ev0 ev0 (hclC _ _) ?_;rintro r H' nx' ⟨rfl,rfl,rfl⟩;refine wnY @PE ?_;refine bt (X:=Nat) (λi=>[(1,.ptr 0 7 0),(2,.ptr 1 7 0),(15,.msl 2 (L.length*3) 3 0 L.length),(16,.int .i64 L.length),(17,.int .i64 i)]) (λi H n=>i<=L.length/\3<=n/\H 0=some [.int .i64 p.task.n,.int .i64 p.task.ins,.int .i64 p.task.outs,.msl 2 (L.length*3) 3 0 L.length,.int .i64 p.adv.n,aN M,.int .i64 p.rounds]/\H 1=some [.int .i64 0,.int .i64 0,.int .i64 0,.esl,.int .i64 0,.esl,.int .i64 0]/\H 2=some (cL fw L)) (λi=>L.length-i) 0 ⟨bo _,by omega,by simp (disch:=omega) only[ab,ae];rfl,by simp (disch:=omega) only[ab,ae],by simp (disch:=omega) only[ab,ae]⟩ (by simp (disch:=omega) only[agr,ZG,reduceEqDiff,↓reduceIte,SL]) ?_;rintro i H n ⟨i1,hn,g0,g1,g2⟩;have hcC:=MI L;by_cases hi:i<L.length
 ·have hget:((cL fw L).drop (i*3)).take 3=[aq (L.getD i default).inp,ay (L.getD i default).out,ay (L.getD i default).calm]:=zi qo hi;have hput:cE (cL fw L) (i*3) [aq (L.getD i default).inp,ay (L.getD i default).out,ay (L.getD i default).calm]=cL fw L:=MV qo hi
  have hix:d9 3 (.msl 2 (L.length*3) 3 0 L.length) (.int .i64 (i:Int))=some (.ptr 2 (L.length*3) (i*3)):=by
   rw[lb,if_pos ⟨by omega,by omega⟩,cK,dt]
  obtain⟨s1,s2,s3,s4,s5⟩:=hsh _ (ao hi);obtain⟨o1,o2⟩:=hco _ (ao hi);have q1:=uF _ s1;have q2:=wZ _ o1 s3;have q3:=wZ _ o2 s5
  have hrd:∀H':Hp,H' 2=some (cL fw L)->rd H' 3 (.ptr 2 (L.length*3) (i*3))=some [aq (L.getD i default).inp,ay (L.getD i default).out,ay (L.getD i default).calm]:=λH' h'=>by
   rw[Mf h' hcC (by omega),hget]
  have hr0:=hrd H g2;generalize L.getD i default=c at *;refine wnY (zI4 @PE @g0 @hix @hr0) ?_;obtain⟨S,z0,zm,hsub⟩:=yc 0 n [.int .i64 p.task.n,.int .i64 p.task.ins,.int .i64 p.task.outs,.msl 2 (L.length*3) 3 0 L.length,.int .i64 p.adv.n,aN M,.int .i64 p.rounds] [aq c.inp,ay c.out,ay c.calm] (by omega);generalize hX:av (av H n _) n _=H2;have w2:∀y,y<n->H2 y=H y:=λy hy=>by rw[<-hX];simp (disch:=omega) only[ab]
  have wm:H2 n=some [aq c.inp,ay c.out,ay c.calm]:=by rw[<-hX,ae];rfl
  clear hX;have w0:=(w2 0 (by omega)).trans g0;have w22:=(w2 2 (by omega)).trans g2;refine ff S rfl (hsub _ w0 wm) ?_;refine wnY (zI3 @PE @z0 @zm) ?_;refine dB ?_;refine pr (ys:=[aq c.inp]) ev0 ev0 q1 (ac (Dat.snap (bP _)) al) ?_;refine iq ⟨hsub _ w0 wm,?_⟩;refine dB ?_;refine eM ev0 ev0 q2 (bC (ac (Dat.snap (bS _)) al)) ?_;refine iq ⟨hsub _ w0 wm,?_⟩;refine dB ?_;refine eM ev0 ev0 q3 (bC (ac (Dat.snap (bS _)) al)) ?_;refine iq ⟨hsub _ w0 wm,?_⟩;have zz:=aI @PE @hix;repeat' (first|apply a_n|refine zO ?_|refine nvY ?_|apply fj|fail)
  refine vw (b:=2) (n:=L.length*3) (off:=i*3) (cs:=cL fw L) (vs:=[aq c.inp,ay c.out,ay c.calm]) rfl ev0 ev0 w22 rfl (by simp only[SO,fv,eB,Bool.and_self]) hcC rfl (by omega) ?_;rw[hput];refine wnY and_self ?_;exact⟨i+1,by omega,⟨by omega,by omega,by simp (disch:=omega) only[ab];exact w0,by simp (disch:=omega) only[ab];exact(w2 1 (by omega)).trans g1,ae⟩,ag0⟩
 refine wnY (aI @PE @g0) ?_;refine ci ev0 ev0 (hclM _ _) ?_;rintro r H' nx' ⟨rfl,rfl,rfl⟩;refine wnY (aI @PE @g0) ?_;refine bt (X:=Nat) (λi=>[(1,.ptr 0 7 0),(2,.ptr 1 7 0),(46,.msl n M.length 1 0 M.length),(47,.int .i64 M.length),(48,.int .i64 i)]) (λi H n'=>i<=M.length/\n<n'/\H 0=some [.int .i64 p.task.n,.int .i64 p.task.ins,.int .i64 p.task.outs,.msl 2 (L.length*3) 3 0 L.length,.int .i64 p.adv.n,.msl n M.length 1 0 M.length,.int .i64 p.rounds]/\H 1=some [.int .i64 0,.int .i64 0,.int .i64 0,.esl,.int .i64 0,.esl,.int .i64 0]/\H 2=some (cL fw L)/\H n=some (M.map bD)) (λi=>M.length-i) 0 ⟨bo _,by omega,by simp (disch:=omega) only[ab,ae];rfl,by simp (disch:=omega) only[ab];exact g1,by simp (disch:=omega) only[ab];exact g2,by simp (disch:=omega) only[ab,ae]⟩ (by simp (disch:=omega) only[agr,ZG,reduceEqDiff,↓reduceIte,SL]) ?_;clear g0 g1 g2;rintro j H1 n1 ⟨j1,hn1,g0,g1,g2,g3⟩;have hMl:(M.map bD).length=M.length:=bj _;by_cases hj:j<M.length
 ·have hgm:(M.map bD)[j]?=some (bD (M.getD j default)):=by
    rw[kf];simp[List.getD,hj]
  have hix:d9 1 (.msl n M.length 1 0 M.length) (.int .i64 (j:Int))=some (.ptr n M.length j):=by
   rw[lb,if_pos ⟨by omega,by omega⟩,cK,dt,Nat.mul_one]
  have hr0:rd1 H1 (.ptr n M.length j)=some (bD (M.getD j default)):=by rw[C3 g3 hMl,hgm]
  have hput:cE (M.map bD) j [bD (M.getD j default)]=M.map bD:=by
   rw[og (by omega)];refine List.ext_getElem? λk=>?_;rw[List.getElem?_set];split
   ·rename_i e;subst e;rw[if_pos (by omega),hgm]
   ·rfl
  have q1:=HR _ (fu (hml _ (ao hj)) (by omega));generalize M.getD j default=l at *;refine wnY (zI4 @PE @g0 @hix @hr0) ?_;refine ff (only 0 [.int .i64 p.task.n,.int .i64 p.task.ins,.int .i64 p.task.outs,.msl 2 (L.length*3) 3 0 L.length,.int .i64 p.adv.n,.msl n M.length 1 0 M.length,.int .i64 p.rounds]) rfl (fi g0) ?_;have z0:∀c,only 0 c 0=some c:=λc=>ez;refine wnY (aI @PE @z0) ?_;refine dB ?_;refine eM ev0 ev0 q1 (bC (ac (Dat.snap (kC _)) al)) ?_;refine iq ⟨fi g0,?_⟩;have zz:=aI @PE @hix;repeat' (first|apply a_n|refine zO ?_|refine nvY ?_|apply fj|fail)
  refine vw (b:=n) (n:=M.length) (off:=j) (cs:=M.map bD) (vs:=[bD l]) rfl ev0 ev0 g3 rfl rfl hMl rfl (by omega) ?_;rw[hput];refine wnY and_self ?_;exact⟨j+1,by omega,⟨by omega,by omega,by simp (disch:=omega) only[ab];exact g0,by simp (disch:=omega) only[ab];exact g1,by simp (disch:=omega) only[ab];exact g2,ae⟩,ag0⟩
 refine wnY (zI3 @PE @g0 @g1) ?_;refine eo (ac (.int _ _) (ac (.int _ _) (ac (.int _ _) (ac (Mm ?_) (ac (.int _ _) (ac (Dc ?_) (ac (.int _ _) al)))))))
 ·exact Row.box 2 L.length _ (by rw[ab (by omega)];exact g2) hcC
 ·exact Row.box1 (by rw[ab (by omega)];exact g3) hMl
theorem HM(n:Int)(vs:List VwV)(v:VwV)(hl:vs.length<=100000)(H:Hp)(nx bb mb:Nat)(VS:AV)(hB:Bd H bb mb n vs VS)(hbb:bb<nx)(hmb:mb<nx)(hne:mb≠bb)(hr:∀b,bk VS=some b->b<nx/\b≠bb/\b≠mb):
    Abs.Fn Tryz.prog 49 [.ptr bb 3 0,dP v] H nx λr H' nx'=>r=.int .i64 ((jx vs v).idxOf v:Nat)/\nx<nx'/\∃VS',Bd H' bb mb n (jx vs v) VS'/\(∀b,bk VS'=some b->bk VS=some b\/(nx<=b/\b<nx'))/\∀y,y<nx->y≠bb->y≠mb->bk VS≠some y->H' y=H y:=by
 refine fO R0 ?_;simp only[b49,aw];obtain⟨hb,hrow,hm⟩:=hB;obtain⟨o1,o2⟩:=hrow.one;have hmf:=MB v vs;have hlen:=hrow.lenS (uC vs) (by omega);have hkf:ss (.st [.int,.int,.int,.int,.int,.int,.int,.int]) (dP v)=true:=rfl;have hcl:=uC vs;unfold dP at hmf hkf |-;rw[PC.2.2.2.2.2.1] at hmf hkf |-;refine wnY @PE ?_;have w:∀cs y,y<nx->av H nx cs y=H y:=λcs y hy=>ab (by omega);refine ff _ rfl (λ_ _ h=>h) ?_;have zz:=aI @PE (aI @SV3 @hb);repeat' (first|apply a_n|refine zO ?_|refine nvY ?_|apply fj|fail)
 by_cases hv:v∈vs
 ·rw[if_pos hv] at hmf;have hi:=List.idxOf_lt_length_of_mem hv;have hav:jx vs v=vs:=by unfold jx;rw[if_pos hv]
  rw[hav];refine n9 (b:=mb) ev0 ((w _ mb hmb).trans hm) ev0 hkf hmf ?_;rw[show mget (AV.int .i64 0) true (some (vs.idxOf v)) (wy vs.length)=.tup [(wy vs.length).getD (vs.idxOf v) .undef,.bool true] from rfl,Hv hi];refine wnY @PE ?_;exact⟨rfl,by omega,VS,⟨(w _ bb hbb).trans hb,hrow.same λb h=>w _ b (hr b h).1,(w _ mb hmb).trans hm⟩,λb h=>.inl h,λy hy _ _ _=>w _ y hy⟩
 ·rw[if_neg hv] at hmf;have hav:jx vs v=vs++[v]:=by unfold jx;rw[if_neg hv]
  have hio:(vs++[v]).idxOf v=vs.length:=by rw[List.idxOf_append,if_neg hv];simp
  rw[hav,hio];refine n9 (b:=mb) ev0 ((w _ mb hmb).trans hm) ev0 hkf hmf ?_;rw[show mget (AV.int .i64 0) true none (wy vs.length)=.tup [.int .i64 0,.bool false] from rfl];refine wnY (zI6 @PE @SV3 @hb @hlen @o1 @o2) ?_;refine ff _ rfl (λ_ _ h=>h) ?_;clear zz;have zz:=aI @PE (aI @SV3 @hb);repeat' (first|apply a_n|refine zO ?_|refine nvY ?_|apply fj|fail)
  refine pN (b:=mb) ev0 ((w _ mb hmb).trans hm) ev0 ev0 hkf hmf ?_;refine wnY (zI5 @PE @SV3 @hb @o1 @o2) ?_;refine ed (k:=1) (xv:=.msl (nx+1) 8 8 0 1) (new:=[.int .i64 v.proc,.int .i64 v.round,.int .i64 v.input,.int .i64 v.h0,.int .i64 v.h1,.int .i64 v.h2,.int .i64 v.h3,.int .i64 v.h4]) rfl ev0 (hrow.same λb h=>by have:=hr b h;simp (disch:=omega) only[ab]) ev0 (dz rfl) rfl rfl (by omega) (by omega) (by omega) ?_;rintro VS' H' nx' r1 r2 r3 r4 r5;obtain⟨p1,p2⟩:=r1.one;have nbb:bk VS≠some bb:=λh=>(hr bb h).2.1 rfl;have nmb:bk VS≠some mb:=λh=>(hr mb h).2.2 rfl
  have hb':H' bb=some [.int .i64 n,VS,.mp mb]:=by
   rw[r4 bb (by omega) nbb];simp (disch:=omega) only[ab];exact hb
  have hm':H' mb=some [.omap ((vs++[v]).map dP) (wy (vs++[v]).length)]:=by
   rw[r4 mb (by omega) nmb];simp (disch:=omega) only[ab,ae];rw[dv,cQ,List.length_singleton,EZ];rfl
  refine wnY (zI5 @PE @SV3 @hb' @p1 @p2) ?_
  have hVS:∀b,bk VS'=some b->bk VS=some b\/(nx<=b/\b<nx'):=λb h=>by
   rcases r5 b h with h|h
   ·exact .inl h
   ·omega
  have hVb:∀b,bk VS'=some b->b≠bb:=λb h=>by
   rcases hVS b h with h|h
   ·exact(hr b h).2.1
   ·omega
  refine⟨rfl,by omega,VS',⟨ae,?_,by rw[ab hne];exact hm'⟩,hVS,λy hy h1 h2 h3=>?_⟩
  ·rw[eR,mG];exact r1.same λb h=>ab (hVb b h)
  ·rw[ab h1,r4 y (by omega) h3];simp (disch:=omega) only[ab]
theorem xz:pU 50 [] (.agg [.int .i64 (-1),.int .i64 (-1),.int .i64 (-1),.int .i64 (-1),.int .i64 (-1)]):=by
 refine pO Rw ?_;simp only[b50,aw];refine wnZ and_self ?_;refine bt (X:=Nat) (λk=>[(0,.ptr 0 5 0),(1,.ptr 1 5 0),(3,.int .i64 k)]) (λk H nx=>k<=5/\H 0=some [.int .i64 0,.int .i64 0,.int .i64 0,.int .i64 0,.int .i64 0]/\H 1=some ((hk (λ_=>-1) k).map (AV.int .i64))) (λk=>5-k) 0 ⟨bo _,rfl,rfl⟩ (by simp (disch:=omega) only[agr,ZG,reduceEqDiff,↓reduceIte,SL]) ?_;rintro k H nx ⟨k1,g0,g1⟩;by_cases hk5:k<5
 rotate_left
 ·obtain rfl:k=5:=by omega
  rw[show(hk (λ_=>-1) 5).map (AV.int .i64)=[.int .i64 (-1),.int .i64 (-1),.int .i64 (-1),.int .i64 (-1),.int .i64 (-1)] from rfl] at g1;refine wnZ (aI @g0 @g1) ?_;exact(Dat.agg (DatL.cons .int (DatL.cons .int (DatL.cons .int (DatL.cons .int (DatL.cons .int DatL.nil)))))) _
 have hl:((hk (λ_=>-1) k).map (AV.int .i64)).length=5:=by rw[bj,pQ]
 have hp:cE ((hk (λ_=>-1) k).map (AV.int .i64)) k [.int .i64 (-1)]=(hk (λ_=>-1) (k+1)).map (AV.int .i64):=by
  rw[og (by omega),tR,<-zo hk5]
 generalize (hk (λ_=>-1) k).map (AV.int .i64)=L at *;refine wnZ (zI3 @IX @g0 @g1) ?_;exact⟨k+1,by omega,⟨by omega,g0,by rw[ae,hp]⟩,ag0⟩
theorem yd(p:PrbV)(W:List (List RndV)):pU 19 [ca p,ec W] (.func 48 [.iptr [.int .i64 p.task.n,.int .i64 p.task.ins,.int .i64 p.task.outs,bu p.task.cases,.int .i64 p.adv.n,aN p.adv.states,.int .i64 p.rounds] 0,.iptr [ec W] 0]):=by
 refine pO Rm ?_;simp only[b19,aw];unfold ca;rw[PC.2.2.2.2.1];refine wnZ @PE ?_;exact iO (ac (fP rfl rfl (ac (.int _ _) (ac (.int _ _) (ac (.int _ _) (ac (Dat.snap (gU _)) (ac (.int _ _) (ac (Dat.snap (fG _)) (ac (.int _ _) al)))))))) (ac (fP rfl rfl (ac (Dat.snap (vI _)) al)) al))
theorem Mr(p:PrbV)(W:List (List RndV))(hW:W.length<=100000)(hC:p.task.cases.length<=100000){y:Nat}{H:Hp}{nx:Nat}(I:List (Nat×List RndV)->Hp->Nat->Prop)
    (rnd:∀D c w H n,I D H n->c<p.task.cases.length->w∈W->(∃R,D++(c,w)::R=iU p.task.cases.length W)->Yl Tryz.prog y [.int .i64 c,bA w] H n λr H' n'=>r=.bool true/\I (D++[(c,w)]) H' n')
    (h0:I [] H nx):
    Abs.Fn Tryz.prog 48 [.yld y,.iptr [.int .i64 p.task.n,.int .i64 p.task.ins,.int .i64 p.task.outs,bu p.task.cases,.int .i64 p.adv.n,aN p.adv.states,.int .i64 p.rounds] 0,.iptr [ec W] 0] H nx λ_ H' nx'=>I (iU p.task.cases.length W) H' nx':=by
 refine fO Sq ?_;simp only[b48,aw];generalize p.task.cases=L at *;refine wnY @PE ?_;refine bt (X:=Nat) (λc=>[(0,.yld y),(2,.iptr [ec W] 0),(10,.int .i64 L.length),(11,.int .i64 c)]) (λc H n=>c<=L.length/\I (iU c W) H n) (λc=>L.length-c) 0 ⟨bo _,h0⟩ ag0 ?_;clear h0;rintro c H1 n1 ⟨c1,c2⟩;by_cases hc:c<L.length
 rotate_left
 ·obtain rfl:c=L.length:=by omega
  refine wnY @PE ?_;exact c2
 have hs:=ml c W
 have hpre:∃R,iU (c+1) W++R=iU L.length W:=by
  obtain⟨R,h⟩:=DI W (c+1) (L.length-(c+1));exact⟨R,by rw[h];congr 1;omega⟩
 rw[hs] at hpre;refine wnY @PE ?_;refine bt (X:=Nat) (λk=>[(0,.yld y),(2,.iptr [ec W] 0),(4,.int .i64 c),(10,.int .i64 L.length),(11,.int .i64 c),(14,ec W),(15,.int .i64 W.length),(16,.int .i64 k)]) (λk H n=>k<=W.length/\I (iU c W++(W.take k).map λw=>(c,w)) H n) (λk=>W.length-k) 0 ⟨bo _,by rw[List.take_zero,List.map_nil,jc];exact c2⟩ ag0 ?_;clear c2;rintro k H2 n2 ⟨k1,k2⟩;by_cases hk:k<W.length
 rotate_left
 ·rw[js (by omega),<-hs] at k2;refine wnY @PE ?_;exact⟨c+1,by omega,⟨by omega,k2⟩,ag0⟩
 have ix:=Me hk
 have hnx:iU c W++(W.take (k+1)).map (λw=>(c,w))=(iU c W++(W.take k).map λw=>(c,w))++[(c,W.getD k default)]:=by
  rw[cT hk,dv,<-iw];rfl
 have hex:∃R,(iU c W++(W.take k).map λw=>(c,w))++(c,W.getD k default)::R=iU L.length W:=by
  obtain⟨R,hR⟩:=hpre;refine⟨(W.drop (k+1)).map (λw=>(c,w))++R,?_⟩;rw[<-hR,show(c,W.getD k default)::((W.drop (k+1)).map (λw=>(c,w))++R)=[(c,W.getD k default)]++((W.drop (k+1)).map (λw=>(c,w))++R) from rfl,<-iw,<-hnx,<-iw,iw (iU c W),<-dv,tH]
 have hr:=rnd _ c (W.getD k default) H2 n2 k2 hc (ao hk) hex;rw[<-hnx] at hr;generalize W.getD k default=w at *;refine wnY (aI @PE @ix) ?_;refine tV ev0 ev0 (Yl.mono hr ?_);rintro r H3 n3 ⟨rfl,q⟩;refine wnY @PE ?_;exact⟨k+1,by omega,⟨by omega,q⟩,ag0⟩
end
end Go.Proofs.YtbmjaojeplmhnaaGreat
