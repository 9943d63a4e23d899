/- Contracts of functions and plain laws, for all inputs that the theorems name. -/
import Derived.Test.YtbmjaojeplmhnaaGreatXG4
import Derived.Test.YtbmjaojeplmhnaaGreatXG3

set_option linter.unusedSimpArgs false
set_option linter.unusedVariables false
set_option maxHeartbeats 4000000
namespace Go.Proofs.YtbmjaojeplmhnaaGreat
open Go Go.Abs
open Nat (reduceEqDiff reduceAdd reduceLeDiff)
def hm(G:Nat->Int)(q:Nat):List Int:=(List.range 5).map λi=>if i<q then G i else-1
theorem Ik(G:Nat->Int)(q:Nat):(hm G q).length=5:=by simp[hm]
theorem M9{G:Nat->Int}{k:Nat}(h:k<5):(hm G k).set k (G k)=hm G (k+1):=by
 rcases(by omega:k=0\/k=1\/k=2\/k=3\/k=4) with rfl|rfl|rfl|rfl|rfl<;>rfl
theorem IE{G:Nat->Int}{k:Nat}(h:G k=-1):hm G (k+1)=hm G k:=by
 unfold hm;refine pz λi _=>?_;by_cases e:i<k
 ·rw[if_pos e,if_pos (by omega)]
 ·rw[if_neg e];split
  ·rw[show i=k by omega,h]
  ·rfl
theorem Mv{G:Nat->Int}{n:Nat}(h:∀i,n<=i->G i=-1):hm G n=hk G 5:=by
 unfold hm hk;refine pz λi hi=>?_;rw[if_pos (eM.1 hi)];split
 ·rfl
 ·rw[h i (by omega)]
theorem A5(f:Nat->VwV)(vs:List VwV)(q N:Nat)(h:q<N)(x:Int):cI ((fh f q vs++List.replicate (N-q) (0:Int)).map (AV.int .i64)) q [.int .i64 x]=(fh f q vs++[x]++List.replicate (N-(q+1)) (0:Int)).map (AV.int .i64):=by
 have hl:=i6 f q vs;rw[oo (by rw[bi,cP,hl,List.length_replicate];omega),tP,List.set_append_right _ _ (by omega),hl,Nat.sub_self,show N-q=(N-(q+1))+1 by omega,List.replicate_succ,io];rfl
theorem Hl(r:RndV){q:Nat}(h:q<5):([.int .i64 r.n,.int .i64 r.h0,.int .i64 r.h1,.int .i64 r.h2,.int .i64 r.h3,.int .i64 r.h4,.int .i64 r.f]:List AV)[1+q]?=some (.int .i64 (r.hs.getD q 0)):=by
 rcases(by omega:q=0\/q=1\/q=2\/q=3\/q=4) with rfl|rfl|rfl|rfl|rfl<;>rfl
def Fr(H0 H:Hp)(nx bb mb:Nat)(VS0:AV):Prop:=∀y,y<nx->y≠bb->y≠mb->bk VS0≠some y->H y=H0 y
def VB(nx n' bb mb:Nat)(VS0 VS:AV):Prop:=∀b,bk VS=some b->b<n'/\b≠bb/\b≠mb/\(bk VS0=some b\/nx<=b)
def stD(p:PrbV)(D:List (Nat×List RndV)):BldS:=D.foldl (λs x=>qB p x.1 s x.2) ⟨[],[]⟩
theorem Bk(p:PrbV)(D:List (Nat×List RndV))(c:Nat)(w:List RndV):stD p (D++[(c,w)])=qB p c (stD p D) w:=by unfold stD;rw[List.foldl_append];rfl
theorem tW(p:PrbV):∀n,stD p (jb n (dW p))=bldS p n
 |0=>rfl
 |n+1=>by
  rw[mi,sd,<-tW p n];unfold stD C0 dW;rw[List.foldl_append,List.foldl_map]
theorem zu{p:PrbV}(hn:p.task.n<=5)(hr:p.rounds<=6):∀D:List (Nat×List RndV),(stD p D).execs.length=D.length/\(stD p D).views.length<=35*D.length:=λD=>by
 suffices h:∀(D:List (Nat×List RndV))(s:BldS),(D.foldl (λs x=>qB p x.1 s x.2) s).execs.length=s.execs.length+D.length/\(D.foldl (λs x=>qB p x.1 s x.2) s).views.length<=s.views.length+35*D.length by
  have:=h D ⟨[],[]⟩;unfold stD;simpa using this
 intro D
 induction D with
 |nil=>intro s;exact⟨rfl,bc _⟩
 |cons x D ih=>
  intro s;rw[List.foldl_cons,ig];have h1:=ih (qB p x.1 s x.2);have h2:=Dp hn hr x.1 s x.2;omega
theorem DA(n:Nat)(W:List (List RndV)):(jb n W).length=n*W.length:=by
 induction n with
 |zero=>rw[nA];rfl
 |succ n ih=>rw[mi,cP,ih,bi,d8,Nat.one_mul]
theorem Jz{t:TaskV}(h:wk t=true):∀c∈t.cases,c.out.length<=1000000/\c.calm.length<=1000000:=λc hc=>by
 have hf:=dQ.1 (Bool.and_eq_true_iff.1 (show(decide (t.cases.length<=30)&&t.cases.all uP)=true from h)).2 c hc;unfold uP nC at hf;simp only[eL,gq] at hf;omega
theorem Ro(v:VwV):j8 .neq [.int,.int,.int,.int,.int,.int,.int,.int] [.int .i64 v.proc,.int .i64 v.round,.int .i64 v.input,.int .i64 v.h0,.int .i64 v.h1,.int .i64 v.h2,.int .i64 v.h3,.int .i64 v.h4] [.int .i64 v.proc,.int .i64 v.round,.int .i64 v.input,.int .i64 v.h0,.int .i64 v.h1,.int .i64 v.h2,.int .i64 v.h3,.int .i64 v.h4]=some (.bool false):=by
 rw[EQ.2.2.2.2.2,bR rfl];rfl
theorem RN(r:RndV):j8 .neq [.int,.int,.int,.int,.int,.int,.int] [.int .i64 r.n,.int .i64 r.h0,.int .i64 r.h1,.int .i64 r.h2,.int .i64 r.h3,.int .i64 r.h4,.int .i64 r.f] [.int .i64 r.n,.int .i64 r.h0,.int .i64 r.h1,.int .i64 r.h2,.int .i64 r.h3,.int .i64 r.h4,.int .i64 r.f]=some (.bool false):=by
 rw[EQ.2.2.2.1,bR rfl];rfl
def ShE(x:ExV):Prop:=x.word.length<=1000000/\x.views.length<=1000000/\∀v∈x.views,v.length<=1000000
theorem PG{α:Type}{P:List α->Prop}(nil:P [])(snoc:∀l x,P l->P (l++[x]))(l:List α):P l:=by
 suffices h:∀n,∀l:List α,l.length=n->P l from h _ l rfl
 intro n
 induction n with
 |zero=>intro l hl;rw[fP.1 hl];exact nil
 |succ n ih=>
  intro l hl;have hne:l≠[]:=λe=>by subst e;cases hl
  rw[<-List.dropLast_concat_getLast hne];exact snoc _ _ (ih _ (by rw[List.length_dropLast];omega))
structure XOk(n R:Nat)(x:ExV):Prop where
 wl:x.word.length=R
 wf:∀r∈x.word,0<=r.f/\r.f<32
 vl:x.views.length=R+1
 vr:∀l∈x.views,l.length=n/\∀z∈l,0<=z/\z<=5000
theorem Du(f:Nat->VwV):∀(q:Nat)(vs:List VwV),∀z∈fh f q vs,0<=z/\z<=(vs.length+q:Nat)
 |0,_,z,h=>(by cases h)
 |q+1,vs,z,h=>by
  rw[fh] at h;rcases oh.1 h with h|h
  ·have:=Du f q vs z h;omega
  ·rw[gH] at h;have h1:=List.idxOf_le_length (a:=f q) (l:=gr f (q+1) vs);have h2:=mg f (q+1) vs;omega
theorem Io(n:Nat)(inp:List Int)(w:List RndV)(vs:List VwV):∀k,∀l∈(plV n inp w vs k).2,∀z∈l,0<=z/\z<=(vs.length+k*n:Nat)
 |0,l,h=>(by cases h)
 |k+1,l,h=>by
  rw[plV] at h;have e:(k+1)*n=k*n+n:=by rw[d8,Nat.one_mul]
  rw[e];rcases oh.1 h with h|h
  ·intro z hz;have:=Io n inp w vs k l h z hz;omega
  ·rw[gH] at h;subst h;intro z hz;have h1:=Du _ n (plV n inp w vs k).1 z hz;have h2:=(mL n inp w vs k).2.2;omega
theorem Jk{p:PrbV}(hn:p.task.n<=5)(hr:p.rounds<=6):∀{D:List (Nat×List RndV)}{x:ExV},D.length<=100->x∈(stD p D).execs->∃c w,(c,w)∈D/\x.case=(c:Nat)/\x.word=w/\x.views.length=p.rounds.toNat+1/\∀l∈x.views,l.length=p.task.n.toNat/\∀z∈l,0<=z/\z<=5000:=by
 intro D
 induction D using PG with
 |nil=>intro x _ h;cases h
 |snoc D d ih=>
  intro x hl h;obtain⟨c,w⟩:=d;rw[cP,List.length_singleton] at hl;rw[Bk,yD] at h;rcases oh.1 h with h|h
  ·obtain⟨c',w',h1,h2⟩:=ih (by omega) h;exact⟨c',w',rm _ h1,h2⟩
  ·rw[gH] at h;subst h;have hv:=(zu hn hr D).2;obtain⟨p1,p2,-⟩:=mL p.task.n.toNat (p.task.cases.getD c default).inp w (stD p D).views (p.rounds.toNat+1);refine⟨c,w,wz _ (gH.2 rfl),rfl,rfl,p1,λl hl'=>⟨p2 l hl',λz hz=>?_⟩⟩;have:=Io _ _ _ _ _ l hl' z hz;have h3:(p.rounds.toNat+1)*p.task.n.toNat<=7*5:=Nat.mul_le_mul (by omega) (by omega);omega
theorem IW{n:Nat}{W:List (List RndV)}{c:Nat}{w:List RndV}(h:(c,w)∈jb n W):c<n/\w∈W:=by
 induction n with
 |zero=>cases h
 |succ n ih=>
  rw[mi] at h;rcases oh.1 h with h|h
  ·have:=ih h;exact⟨by omega,this.2⟩
  ·obtain⟨w',h1,h2⟩:=cE.1 h;cases h2;exact⟨by omega,h1⟩
theorem wh(p:PrbV)(h:OkP p):1<=(aZ p).execs.length/\(aZ p).execs.length<=60/\(aZ p).views.length<=2100/\∀x∈(aZ p).execs,XOk p.task.n.toNat p.rounds.toNat x:=by
 obtain⟨hck,ho,hn,r0,r6⟩:=cH h.e0;obtain⟨n1,n5,c1,c2⟩:=dq hck;obtain⟨f1,f2,f3,f4⟩:=pe h.e0 h.num;have e:bldS p p.task.cases.length=stD p (jb p.task.cases.length (dW p)):=(tW p _).symm;have hl:=DA p.task.cases.length (dW p);obtain⟨s1,s2⟩:=zu (p:=p) n5 r6 (jb p.task.cases.length (dW p));have hpos:1*1<=p.task.cases.length*(dW p).length:=Nat.mul_le_mul f3 f4;refine⟨?_,?_,?_,λx hx=>?_⟩
 ·show 1<=(bldS p p.task.cases.length).execs.length;rw[e];omega
 ·show(bldS p p.task.cases.length).execs.length<=60;rw[e];omega
 ·show(bldS p p.task.cases.length).views.length<=2100;rw[e];omega
 ·have hx':x∈(bldS p p.task.cases.length).execs:=hx;rw[e] at hx';obtain⟨c,w,g1,g2,g3,g4,g5⟩:=Jk n5 r6 (by omega) hx';have hw:=(IW g1).2;refine⟨by rw[g3];exact ms hw,λr hr=>?_,g4,g5⟩;rw[g3] at hr;obtain⟨l,hl,m,hm,rfl⟩:=qN hw r hr;have ok:=ho.mv l hl m hm;obtain⟨q1,q2,q3⟩:=eX ok.r;have:=yS (n:=m.r.n) (by rw[ok.n];exact ho.n5);omega
theorem Lw(p:PrbV)(h:OkP p):(bldS p p.task.cases.length).views.length<=1000000/\(bldS p p.task.cases.length).execs.length<=1000000/\∀x∈(bldS p p.task.cases.length).execs,ShE x:=by
 obtain⟨h1,h2,h3,h4⟩:=wh p h;obtain⟨hck,ho,hn,r0,r6⟩:=cH h.e0;obtain⟨n1,n5,c1,c2⟩:=dq hck;exact⟨eK h3 (by omega),eK h2 (by omega),λx hx=>⟨by have:=(h4 x hx).wl;omega,by have:=(h4 x hx).vl;omega,λv hv=>by have:=((h4 x hx).vr v hv).1;omega⟩⟩
theorem CA{H:Hp}{d:Nat}{x y z:AV}:ee 3 (av H d [x,y,z]) (.msl d 3 3 0 1)=some (1,[x,y,z]):=fZ (n:=3) (len:=1) (off:=0) (cs:=[x,y,z]) ae rfl (by simp)
theorem um(c:CaseV):Dat (fF c):=Dat.agg (DatL.cons (bP _) (DatL.cons (bS _) (DatL.cons (bS _) DatL.nil)))
def idx(l:List Int)(v:Int):Int:=if v∈l then(l.idxOf v:Nat) else-1
theorem Md{l:List Int}{v:Int}{k:Nat}(hk:k<l.length)(h:∀i,i<k->l.getD i default≠v)(hv:v=l.getD k default):idx l v=k:=by
 have e:l.getD k default=l[k]:=by simp[List.getD,hk]
 have hm:v∈l:=by rw[hv,e];exact mq hk
 unfold idx;rw[if_pos hm]
 have h1:l.idxOf v<=k:=by
  by_cases hlt:l.idxOf v<=k
  ·exact hlt
  ·exfalso;have:=List.not_of_lt_findIdx (xs:=l) (p:=(· ==v)) (i:=k) (by simp only[List.idxOf] at hlt;omega);rw[e] at hv;subst hv;simp at this
 have h2:k<=l.idxOf v:=by
  by_cases hlt:k<=l.idxOf v
  ·exact hlt
  ·exfalso;have hi:=List.idxOf_lt_length_iff.2 hm;have:=h (l.idxOf v) (by omega);apply this;simp[List.getD,hi]
 omega
theorem Ga{l:List Int}{v:Int}(h:∀i,i<l.length->l.getD i default≠v):idx l v=-1:=by
 unfold idx;rw[if_neg];intro hm;obtain⟨i,hi,e⟩:=fW hm;exact h i hi (by simp[List.getD,hi,e])
section
variable{t:TaskV}{S:List Nat}(hc:ba t=0)(hp:S.Pairwise (· < ·))(hS:∀i∈S,i<t.cases.length)
theorem jP(h:ba t=0):(¬(t.n<1\/5<t.n\/t.ins<1\/8<t.ins\/t.outs<1\/8<t.outs))/\(1<=t.cases.length/\t.cases.length<=1024)/\∀k,k<t.cases.length->bz (t.cases.getD k default).inp t.n t.ins=0/\cu t.n t.outs (t.cases.getD k default)=0:=by
 unfold ba at h;split at h
 ·omega
 ·rename_i h1;split at h
  ·omega
  ·rename_i h2;refine⟨h1,by omega,λk hk=>?_⟩;have h3:=dK h k hk;unfold iH at h3;split at h3
   ·exact absurd h3 ‹_›
   ·rename_i h4;split at h3
    ·omega
    ·exact⟨Decidable.byContradiction λx=>h4 x,h3⟩
include hc in
theorem rk{i j:Nat}(hi:i<t.cases.length)(hj:j<t.cases.length)(h:(t.cases.getD i default).inp=(t.cases.getD j default).inp):i=j:=by
 rcases vv i j with hl|rfl|hl
 ·have:=k9 hc j i hl hj;rw[h,eH] at this;omega
 ·rfl
 ·have:=k9 hc i j hl hi;rw[h,eH] at this;omega
end
def RI(w:Int)(i:Nat):Bool:=decide (IntKind.wrap .u16 ((BitVec.ofInt 16 (w.fdiv (2^(min (i%16) 16))) &&& BitVec.ofInt 16 1).toNat:Int)=1)
def sm(w:Int)(k:Nat):List Nat:=(List.range k).filter (RI w)
theorem lk:(∀l:List Int,decide (l=l)=true)/\(∀a:Int,decide (a=a)=true)/\(∀a:Int,decide (a≠a)=false):=⟨λ_=>bR rfl,λ_=>bR rfl,λ_=>bJ λh=>h rfl⟩
def K4(x:ExV):List Int:=x.views.getD (x.views.length-1) []
def LH(x:ExV):Int:=if x.word.length=0 then 0 else(x.word.getD (x.word.length-1) default).f
theorem XOk.last{n R:Nat}{x:ExV}(h:XOk n R x):(K4 x).length=n/\∀z∈K4 x,0<=z/\z<=5000:=h.vr _ (ao (by have:=h.vl;omega))
theorem XOk.flt{n R:Nat}{x:ExV}(h:XOk n R x):0<=LH x/\LH x<32:=by
 unfold LH;split
 ·omega
 ·exact h.wf _ (ao (by omega))
theorem Pq{p:Nat}(hp:p<=20)(tb tf:Bool):bt .shl tb tf (.int .i64 1) (.int .i64 (p:Int))=some (.int .i64 ((2^p:Nat):Int)):=by
 rw[K0,Nat.min_eq_left (by omega),Int.one_mul];have h:(2:Nat)^p<=2^20:=Nat.pow_le_pow_right (by omega) hp
 have:IntKind.wrap .i64 ((2:Int)^p)=((2^p:Nat):Int):=by
  have e:((2:Int)^p)=((2^p:Nat):Int):=by simp
  rw[e];generalize (2^p:Nat)=m at *;exact jy (by omega) (by omega)
 rw[this]
theorem n9{t:TaskV}(h:ba t=0):1<=t.n/\t.n<=5:=by
 unfold ba at h;by_cases c:t.n<1\/5<t.n\/t.ins<1\/8<t.ins\/t.outs<1\/8<t.outs
 ·rw[if_pos c] at h;exact absurd h (by decide)
 ·omega
theorem Jh{H:Hp}(e:Int):Snap H (.tup [.esl,.int .i64 e]) (.tup [ay [],.int .i64 e]):=bE (ac (.eslsl 1) (ac (.int _ _) al))
theorem oZ{v:List Int}{n most:Int}(h:bz v n most=0):(v.length:Int)=n/\∀x∈v,0<=x/\x<most:=by
 unfold bz at h;by_cases c:(v.length:Int)≠n
 ·rw[if_pos c] at h;exact absurd h (by decide)
 ·rw[if_neg c] at h;refine⟨by omega,λx hx=>?_⟩;by_cases c2:v.any (λx=>decide (x<0\/most<=x))=true
  ·rw[if_pos c2] at h;exact absurd h (by decide)
  ·rw[Bool.not_eq_true,List.any_eq_false] at c2;have:=c2 x hx;simp only[gq] at this;omega
theorem xB{t:TaskV}{k:Nat}(h:ba t=0)(hk:k<t.cases.length):
    (1<=(t.cases.getD k default).out.length)/\(∀v∈(t.cases.getD k default).out,(v.length:Int)=t.n/\∀x∈v,0<=x/\x<t.outs)/\(∀v∈(t.cases.getD k default).calm,v∈(t.cases.getD k default).out):=by
 have h0:=((jP h).2.2 k hk).2;generalize t.cases.getD k default=c at *;unfold cu at h0;split at h0
 ·exact absurd h0 (by decide)
 split at h0
 ·exact absurd h0 ‹_›
 rename_i g1 g2;have o0:=dK (EK g2);have c0:=dK h0;refine⟨by omega,λv hv=>?_,λv hv=>?_⟩
 ·obtain⟨j,hj,rfl⟩:=fW hv;have:=o0 j hj;unfold ml at this;split at this
  ·exact absurd this ‹_›
  ·rename_i g3;have e:=oZ (EK g3);simpa[List.getD,hj] using e
 ·obtain⟨j,hj,rfl⟩:=fW hv;have:=c0 j hj;unfold lA at this;split at this
  ·rename_i g3;simpa[List.getD,hj] using g3
  ·exact absurd this (by decide)
def vV(l:List Int)(i:Nat):Int:=if l.getD i default<0\/(l.length:Int)<=l.getD i default then 2 else if (l.take i).any (λx=>decide (x=l.getD i default)) then 7 else 0
def be(l:List Int):Int:=if l.length<1\/5<l.length then 2 else bU (vV l) l.length
theorem cC{l:List Int}(h:be l=0):1<=l.length/\l.length<=5/\(∀i,i<l.length->0<=l.getD i default/\l.getD i default<l.length)/\∀i j,i<j->j<l.length->l.getD i default≠l.getD j default:=by
 unfold be at h;split at h
 ·exact absurd h (by decide)
 rename_i h1;have hz:=dK h
 have hp:∀i,i<l.length->(0<=l.getD i default/\l.getD i default<l.length)/\(l.take i).any (λx=>decide (x=l.getD i default))=false:=λi hi=>by
  have:=hz i hi;unfold vV at this;split at this
  ·exact absurd this (by decide)
  rename_i h2;split at this
  ·exact absurd this (by decide)
  rename_i h3
  exact ⟨by omega,by cases hq:(l.take i).any (fun x=>decide (x=l.getD i default)) with
   |false=>rfl
   |true=>exact absurd hq h3⟩
 refine⟨by omega,by omega,λi hi=>(hp i hi).1,λi j hij hj e=>?_⟩;have:=(hp j hj).2;rw[List.any_eq_false] at this;refine this (l.getD i default) ?_ (bR e);rw[List.mem_iff_getElem?];refine⟨i,?_⟩;rw[jl,if_pos hij];simp[List.getD,show i<l.length by omega]
def oH(l:List Int)(k:Nat):List Bool:=(List.range 5).map λ(p:Nat)=>(l.take k).any λx=>decide (x=(p:Int))
theorem xI(l:List Int)(k:Nat):(oH l k).length=5:=by simp[oH]
theorem Ej{l:List Int}{k p:Nat}(hp:p<5):(oH l k).getD p default=(l.take k).any λx=>decide (x=(p:Int)):=by simp[oH,List.getD,hp]
theorem Fm{l:List Int}{k p:Nat}(hk:k<l.length)(e:l.getD k default=(p:Int)):(oH l k).set p true=oH l (k+1):=by
 refine List.ext_getElem (by simp[oH]) λi h1 h2=>?_;rw[List.getElem_set];simp only[oH,List.getElem_map,List.getElem_range,gZ hk,List.any_append,List.any_cons,List.any_nil,Bool.or_false,e];by_cases hi:p=i
 ·subst hi;rw[if_pos rfl];simp
 ·rw[if_neg hi,bJ (by omega),Bool.or_false]
def mvK(v p:List Int):Nat->List Int
 |0=>List.replicate v.length 0
 |k+1=>(mvK v p k).set (p.getD k default).toNat (v.getD k default)
def bX(v p:List Int):List Int:=mvK v p v.length
theorem pc(v p:List Int)(k:Nat):(mvK v p k).length=v.length:=by
 induction k with
 |zero=>simp[mvK]
 |succ k ih=>rw[mvK,List.length_set,ih]
theorem bN(v p:List Int):(bX v p).length=v.length:=pc v p _
theorem DU{v p:List Int}(hp:be p=0)(hl:v.length=p.length):∀{k i:Nat},i<k->k<=p.length->(mvK v p k).getD (p.getD i default).toNat default=v.getD i default
 |0,i,h,_=>absurd h (by omega)
 |k+1,i,h,hk=>by
  obtain⟨_,_,p3,p4⟩:=cC hp;have a1:=p3 i (by omega);have a2:=p3 k (by omega);have hlen:=pc v p k;rw[mvK];by_cases e:i=k
  ·subst e;rw[ed (by omega),if_pos rfl]
  ·have hne:p.getD i default≠p.getD k default:=p4 i k (by omega) (by omega);rw[ed (by omega),if_neg (by omega)];exact DU hp hl (by omega) (by omega)
theorem fp{v p:List Int}(hp:be p=0)(hl:v.length=p.length){i:Nat}(hi:i<p.length):(bX v p).getD (p.getD i default).toNat default=v.getD i default:=DU hp hl (by omega) (by omega)
theorem rL{v w p:List Int}(hp:be p=0)(hv:v.length=p.length)(hw:w.length=p.length)(h:bX v p=bX w p):v=w:=by
 refine List.ext_getElem (by omega) λi h1 h2=>?_;have a:=fp hp hv (i:=i) (by omega);have b:=fp hp hw (i:=i) (by omega);rw[h,b] at a;simpa[List.getD,h1,h2] using a.symm
section
variable{α:Type}[Inhabited α]{K:α->α->Int}
def qu(K:α->α->Int)(l:List α)(v:α):Nat->Nat
 |0=>0
 |k+1=>if K v (l.getD k default)<0 then qu K l v k else k+1
def wM(K:α->α->Int)(l:List α)(v:α):List α:=l.take (qu K l v l.length)++v::l.drop (qu K l v l.length)
def kL(K:α->α->Int)(l:List α):List α:=l.foldl (wM K) []
theorem DC(l:List α)(v:α):∀k,qu K l v k<=k
 |0=>bc _
 |k+1=>by
  rw[qu];split
  ·exact Nat.le_succ_of_le (DC l v k)
  ·exact bc _
theorem vO{l:List α}{v:α}:∀{k i:Nat},qu K l v k<=i->i<k->K v (l.getD i default)<0
 |0,i,_,h=>absurd h (by omega)
 |k+1,i,h1,h2=>by
  rw[qu] at h1;split at h1
  ·by_cases e:i=k
   ·subst e;assumption
   ·exact vO h1 (by omega)
  ·omega
theorem vH{l:List α}{v:α}:∀{k:Nat},0<qu K l v k->¬K v (l.getD (qu K l v k-1) default)<0
 |0,h=>absurd h (Nat.lt_irrefl _)
 |k+1,h=>by
  rw[qu] at h |-;split
  ·rename_i c;rw[if_pos c] at h;exact vH h
  ·rename_i c;rw[Nat.add_sub_cancel];exact c
theorem Eu(l:List α)(v:α):(wM K l v).Perm (v::l):=by
 unfold wM;refine List.perm_middle.trans ?_;rw[qI]
def dC(K:α->α->Int)(l:List α):Prop:=l.Pairwise λx y=>¬K y x<0
theorem dC.of{l:List α}(h:lG K 0 l.length l):dC K l:=by
 unfold dC;rw[nw];intro i j hi hj hij;have:=h i j (bo _) hij hj;simpa[List.getD,hi,hj] using this
theorem Bo(hK:Ord K){l:List α}{v:α}(h:dC K l):dC K (wM K l v):=by
 unfold wM;have hle:=DC (K:=K) l v l.length;have hab:∀i,qu K l v l.length<=i->i<l.length->K v (l.getD i default)<0:=λi h1 h2=>vO h1 h2;have hbe:0<qu K l v l.length->¬K v (l.getD (qu K l v l.length-1) default)<0:=λh=>vH h;generalize qu K l v l.length=k at *;have hs:∀i j(hi:i<l.length)(hj:j<l.length),i<j->¬K l[j] l[i]<0:=nw.1 h
 have hlow:∀x∈l.take k,¬K v x<0:=λx hx=>by
  obtain⟨i,hi,rfl⟩:=fW hx;rw[iX] at hi;rw[List.getElem_take];have hk:=hbe (by omega);have e:l.getD (k-1) default=l[k-1]'(by omega):=by simp[List.getD,show k-1<l.length by omega]
  rw[e] at hk;by_cases hik:i=k-1
  ·subst hik;exact hk
  ·exact hK.negtr _ _ _ (hs i (k-1) (by omega) (by omega) (by omega)) hk
 have hup:∀x∈l.drop k,K v x<0:=λx hx=>by
  obtain⟨i,hi,rfl⟩:=fW hx;rw[Cy] at hi;rw[List.getElem_drop];have:=hab (k+i) (by omega) (by omega);simpa[List.getD,show k+i<l.length by omega] using this
 unfold dC;rw[List.pairwise_append,BM];refine⟨List.Pairwise.sublist (List.take_sublist _ _) h,⟨λx hx=>hK.asym _ _ (hup x hx),List.Pairwise.sublist (List.drop_sublist _ _) h⟩,λx hx y hy=>?_⟩;rcases gR.1 hy with rfl|hy
 ·exact hlow x hx
 ·exact hK.negtr _ _ _ (hlow x hx) (hK.asym _ _ (hup y hy))
theorem oG:∀(l acc:List α),(l.foldl (wM K) acc).Perm (acc++l)
 |[],acc=>by simp
 |v::l,acc=>by
  refine(oG l (wM K acc v)).trans ?_;refine(List.Perm.append_right l (Eu acc v)).trans ?_;rw[List.cons_append];exact List.perm_middle.symm
theorem mh(hK:Ord K):∀(l acc:List α),dC K acc->dC K (l.foldl (wM K) acc)
 |[],acc,h=>h
 |v::l,acc,h=>mh hK l (wM K acc v) (Bo hK h)
theorem dn(l:List α):(kL K l).Perm l:=by
 have:=oG (K:=K) l []
 rwa [List.nil_append] at this
theorem kr(hK:Ord K)(l:List α):dC K (kL K l):=mh hK l [] .nil
theorem jo(l:List α):(kL K l).length=l.length:=(dn l).length_eq
theorem i5(hK:Ord K){L L':List α}(hA:∀x∈L,∀y∈L,¬K x y<0->¬K y x<0->x=y)(hs:dC K L')(hp:L'.Perm L):L'=kL K L:=
 List.Perm.eq_of_pairwise (λx y hx hy hxy hyx=>hA x (hp.mem_iff.1 hx) y ((dn L).mem_iff.1 hy) hyx hxy) hs (kr hK L) (hp.trans (dn L).symm)
end
theorem pA:Ord aD where
 irr x:=by rw[eH];omega
 asym x y h:=by rw[dL];omega
 negtr x y z h1 h2 h3:=by
  rcases nf y x with h|h|h
  ·omega
  ·have e:=kM h;subst e;exact h2 h3
  ·have hxy:aD x y<0:=by rw[dL];omega
   have:=fG h3 hxy;omega
theorem kK{x y:List Int}(h1:¬aD x y<0)(h2:¬aD y x<0):x=y:=by
 rw[dL] at h2;exact kM (by omega)
abbrev Lb(l:List (List Int)):List (List Int):=kL aD l
theorem PB:Cmp Tryz.prog aq aD (λl=>Sh l) 82 [] where
 cells _:=rfl
 one _:=rfl
 dat v:=bP v
 dcaps:=by simp
 run x y hx hy:=pb x y hx hy
 ord:=pA
section
attribute [local irreducible] aF ai bj aY aN aM ax aS a8 bm Go.Abs.Fn aX Go.Abs.Pure ap aK Yl
theorem I2(N:Nat)(hN:N<=5)(inp:List Int)(w:List RndV)(vs:List VwV)(hinp:inp.length=N)(hw:w.length<=6)(hwr:∀r∈w,r.n=N/\∀q,q<5->0<=r.hs.getD q 0/\r.hs.getD q 0<=9223372036854775807)(hl:vs.length<=90000)(H0:Hp)(nx bb mb:Nat)(VS0:AV)(hB:Bd H0 bb mb N vs VS0)(hbb:bb<nx)(hmb:mb<nx)(hne:mb≠bb)(hr:∀b,bk VS0=some b->b<nx/\b≠bb/\b≠mb):
    Abs.Fn Tryz.prog 21 [.ptr bb 3 0,aq inp,bB w] H0 nx λr H' nx'=>Row H' 1 r ((plV N inp w vs (w.length+1)).2.map aq)/\nx<nx'/\∃VS',Bd H' bb mb N (plV N inp w vs (w.length+1)).1 VS'/\VB nx nx' bb mb VS0 VS'/\(∀b,bk r=some b->nx<=b/\b<nx'/\bk VS'≠some b)/\Fr H0 H' nx bb mb VS0:=by
 refine fO QN ?_;simp only[b21,aw];have g0:=hB.b;have hpl:=mL N inp w vs;have hp1:plV N inp w vs 1=(gr (pW inp) N vs,[fh (pW inp) N vs]):=rfl;have hpk:∀k,plV N inp w vs (k+2)=(gr (nk (w.getD k default) (k+1) ((plV N inp w vs (k+1)).2.getD k [])) N (plV N inp w vs (k+1)).1,(plV N inp w vs (k+1)).2++[fh (nk (w.getD k default) (k+1) ((plV N inp w vs (k+1)).2.getD k [])) N (plV N inp w vs (k+1)).1]):=λ_=>rfl;have hf1:∀q:Nat,pW inp q=⟨q,0,inp.getD q 0,-1,-1,-1,-1,-1⟩:=λ_=>rfl;generalize plV N inp w vs=PL at *;generalize pW inp=f at *;refine wnY (aI @SV3 @g0) ?_;refine nj rfl ev0 ev0 (by omega) (by omega) (by omega) (by omega) ?_;rw[c9,mS,Nat.mul_one];refine wnY and_self ?_
 refine bq (X:=Nat×AV) (λx=>[(0,.ptr bb 3 0),(1,aq inp),(2,bB w),(7,.msl nx N 1 0 N),(23,.int .i64 N),(24,.int .i64 x.1)]) (λx H n'=>x.1<=N/\nx<n'/\Bd H bb mb N (gr f x.1 vs) x.2/\VB nx n' bb mb VS0 x.2/\bk x.2≠some nx/\H nx=some ((fh f x.1 vs++List.replicate (N-x.1) (0:Int)).map (AV.int .i64))/\Fr H0 H nx bb mb VS0) (λx=>N-x.1) (0,VS0)
  ⟨bo _,by omega,⟨by rw[ab (by omega)];exact hB.b,hB.r.same λb h=>ab (by have:=hr b h;omega),by rw[ab (by omega)];exact hB.m⟩,λb h=>by have:=hr b h;exact⟨by omega,this.2.1,this.2.2,.inl h⟩,λh=>by have:=hr _ h;omega,ae,λy hy _ _ _=>ab (by omega)⟩ ag0 ?_
 rintro⟨q,VS⟩ H n1 ⟨q1,hn1,hBd,hVB,hVn,hA,hFr⟩;dsimp only at q1 hBd hVB hVn hA |-;by_cases hq:q<N
 ·have ixq:eo 1 (aq inp) (.int .i64 (q:Int))=some (.iptr [.int .i64 (inp.getD q 0)] 0):=by
    have:=zJ (l:=inp) (n:=(q:Int)) (by omega) (by omega)
    rwa [c9] at this
  have hVl:(gr f q vs).length<=100000:=by have:=mg f q vs;omega
  have hnI:fh f (q+1) vs=fh f q vs++[(((kX (gr f q vs) (f q)).idxOf (f q):Nat):Int)]:=rfl;have hnV:gr f (q+1) vs=kX (gr f q vs) (f q):=rfl;have hadd:=HP N (gr f q vs) (f q) hVl H n1 bb mb VS hBd (by omega) (by omega) hne λb h=>⟨(hVB b h).1,(hVB b h).2.1,(hVB b h).2.2.1⟩
  have hpt:=A5 f vs q N hq (((kX (gr f q vs) (f q)).idxOf (f q):Nat):Int);rw[<-hnI] at hpt;rw[<-hnV] at hadd hpt
  have hix:eo 1 (.msl nx N 1 0 N) (.int .i64 (q:Int))=some (.ptr nx N q):=by
   rw[lh,if_pos ⟨by omega,by omega⟩,c9,dt,Nat.mul_one]
  have hAl:((fh f q vs++List.replicate (N-q) (0:Int)).map (AV.int .i64)).length=N:=by rw[bi,cP,i6,List.length_replicate];omega
  rw[hf1 q] at hadd hpt;unfold dN at hadd;rw[PC.2.2.2.2.2.1] at hadd;generalize inp.getD q 0=x at *;refine wnY and_self ?_;refine fg aP rfl (λy cs h=>by cases h) ?_;refine wnY @ixq ?_;refine dz ?_
  repeat' (first|apply a_n|refine zO ?_|refine cY ?_ (hp:=xy)|fail)
  refine⟨λy cs h=>(by cases h),?_⟩
  repeat' (first|apply a_n|refine zO ?_|refine nvY ?_|apply fm|fail)
  refine ce ev0 ev0 hadd ?_;rintro r H2 n2 ⟨rfl,k1,VS2,hBd2,hV2,hF2⟩;have zz:=@hix;repeat' (first|apply a_n|refine zO ?_|refine nvY ?_|apply fm|fail)
  have hA2:=(hF2 nx (by omega) (by omega) (by omega) hVn).trans hA;refine vD (b:=nx) (n:=N) (off:=q) (vs:=[.int .i64 _]) rfl ev0 ev0 hA2 rfl rfl hAl rfl (by omega) ?_;rw[hpt];refine wnY and_self ?_
  have hVB2:VB nx n2 bb mb VS0 VS2:=λb h=>by
   rcases hV2 b h with h|h
   ·have:=hVB b h;exact⟨by omega,this.2.1,this.2.2.1,this.2.2.2⟩
   ·exact⟨by omega,by omega,by omega,.inr (by omega)⟩
  have hVn2:bk VS2≠some nx:=λh=>by
   rcases hV2 nx h with h|h
   ·exact hVn h
   ·omega
  refine⟨(q+1,VS2),by dsimp only;omega,⟨by dsimp only;omega,by omega,⟨by rw[ab (by omega)];exact hBd2.b,hBd2.r.same λb h=>ab λe=>hVn2 (e▸h),by rw[ab (by omega)];exact hBd2.m⟩,hVB2,hVn2,ae,λy hy h1 h2 h3=>?_⟩,ag0⟩
  rw [ab (by omega),hF2 y (by omega) h1 h2 (fun h=>by
   have:=hVB y h;rcases this.2.2.2 with h|h
   ·exact h3 h
   ·omega)]
  exact hFr y hy h1 h2 h3
 obtain rfl:q=N:=by omega
 rw[Nat.sub_self,List.replicate_zero,jd] at hA;refine wnY @PE ?_;have hrA:(fh f q vs).length=q:=i6 f q vs;have hAs:Snap (only nx ((fh f q vs).map (AV.int .i64))) (.msl nx q 1 0 q) (aq (fh f q vs)):=Row.snapI (Row.box1 ez (by rw[bi,hrA]));obtain⟨H5,hfz,hr5,hs5⟩:=iY (H:=av H n1 [.msl nx q 1 0 q]) (sz:=1) (t:=.msl n1 1 1 0 1) (cs:=[]) (x:=.msl nx q 1 0 q) (x':=aq (fh f q vs)) (nb:=nx) (Row.box1 ae rfl) (by rw[ab (by omega)];exact hA) hAs (λe=>by cases e;omega)
 have h5:∀y,y≠nx->y<n1->H5 y=H y:=λy h1 h2=>by
  rw[hs5 y h1 (λe=>by cases e;omega),ab (by omega)]
 refine pM (nx:=n1+1) (X:=Nat×AV×AV) (λx=>[(0,.ptr bb 3 0),(7,aq ((PL (x.1+1)).2.getD x.1 [])),(9,x.2.2),(42,bB w),(43,.int .i64 w.length),(44,.int .i64 x.1)]) (λx H n'=>x.1<=w.length/\nx<n'/\Bd H bb mb q (PL (x.1+1)).1 x.2.1/\VB nx n' bb mb VS0 x.2.1/\Row H 1 x.2.2 ((PL (x.1+1)).2.map aq)/\(∀b,bk x.2.2=some b->nx<=b/\b<n'/\bk x.2.1≠some b)/\Fr H0 H nx bb mb VS0) (λx=>w.length-x.1) (0,VS,.msl n1 1 1 0 1)
  ⟨_,H5,hfz,⟨bo _,by omega,?_,fun b h=>by have:=hVB b h; exact ⟨by omega,this.2.1,this.2.2.1,this.2.2.2⟩,by rw [hp1]; exact hr5,fun b h=>by
   have e:b=n1:=by cases h;rfl
   refine⟨by omega,by omega,λh'=>?_⟩;have:=(hVB b h').1;omega,λy hy h1 h2 h3=>by rw[h5 y (by omega) (by omega)];exact hFr y hy h1 h2 h3⟩,?_⟩ ?_
 ·dsimp only;rw[hp1];exact⟨by rw[h5 bb (by omega) (by omega)];exact hBd.b,hBd.r.same λb h=>h5 b (λe=>hVn (e▸h)) (hVB b h).1,by rw[h5 mb (by omega) (by omega)];exact hBd.m⟩
 ·dsimp only;rw[hp1]
  exact ⟨.inl ev0,.inr (by
   have e:∀v,v=.msl nx q 1 0 q->Snap (only nx ((fh f q vs).map (AV.int .i64))) v (aq (fh f q vs)):=λv h=>h▸hAs;exact e _ ev0),.inl ev0,.inl ev0,.inl ev0,.inl (have zz:=@Int.natCast_zero;evZ),trivial⟩
 clear hA hFr hVn hVB hBd hfz hr5 hs5 h5 hAs;rintro⟨k,VS,out⟩ H n1 ⟨k1,hn1,hBd,hVB,hrow,hrb,hFr⟩;dsimp only at k1 hBd hVB hrow hrb |-;by_cases hk:k<w.length
 rotate_left
 ·obtain rfl:k=w.length:=by omega
  refine wnY @PE ?_;exact⟨hrow,hn1,VS,hBd,hVB,hrb,hFr⟩
 have ixw:=ixR hk;obtain⟨hrn,hrh⟩:=hwr _ (ao hk);obtain⟨pl1,pl2,pl3⟩:=hpl (k+1);have hPk:=hpk k;have hnl:((PL (k+1)).2.getD k []).length=q:=pl2 _ (iU (by omega));have hsn:∀p,nk (w.getD k default) (k+1) ((PL (k+1)).2.getD k []) p=⟨p,(k+1:Nat),0,hrd ((w.getD k default).hs.getD p 0) ((PL (k+1)).2.getD k []) 0,hrd ((w.getD k default).hs.getD p 0) ((PL (k+1)).2.getD k []) 1,hrd ((w.getD k default).hs.getD p 0) ((PL (k+1)).2.getD k []) 2,hrd ((w.getD k default).hs.getD p 0) ((PL (k+1)).2.getD k []) 3,hrd ((w.getD k default).hs.getD p 0) ((PL (k+1)).2.getD k []) 4⟩:=λ_=>rfl;have hcell:=λp hp=>Hl (w.getD k default) (q:=p) hp
 have hVl0:(PL (k+1)).1.length<=99000:=by
  have:(k+1)*q<=7*5:=Nat.mul_le_mul (by omega) hN;omega
 generalize hg:nk (w.getD k default) (k+1) ((PL (k+1)).2.getD k [])=g at *;generalize hnow:(PL (k+1)).2.getD k []=now at *;generalize (PL (k+1)).2=rows at *;generalize (PL (k+1)).1=V at *;rw[PC.1] at ixw;generalize w.getD k default=r at *;obtain⟨o1,o2⟩:=hrow.one;have gB:=hBd.b;refine wnY (zI4 @PE @ixw @SV3 @gB) ?_;refine nj rfl ev0 ev0 (by omega) (by omega) (by omega) (by omega) ?_;rw[c9,mS,Nat.mul_one];refine wnY and_self ?_;generalize hX:av (av (av H n1 _) n1 _) (n1+1) _=H1;have w1:∀y,y<n1->H1 y=H y:=λy hy=>by rw[<-hX];simp (disch:=omega) only[ab]
 have wC:H1 n1=some [.int .i64 r.n,.int .i64 r.h0,.int .i64 r.h1,.int .i64 r.h2,.int .i64 r.h3,.int .i64 r.h4,.int .i64 r.f]:=by rw[<-hX];simp (disch:=omega) only[ab,ae];rfl
 have wD:H1 (n1+1)=some ((List.replicate q (0:Int)).map (AV.int .i64)):=by rw[<-hX,ae]
 clear hX;have nO:∀b,bk out=some b->b<n1:=λb h=>(hrb b h).2.1
 refine bq (X:=Nat×AV) (λx=>[(0,.ptr bb 3 0),(7,aq now),(9,out),(10,.int .i64 k),(11,.ptr n1 7 0),(12,.msl (n1+1) q 1 0 q),(42,bB w),(43,.int .i64 w.length),(44,.int .i64 k),(55,.int .i64 q),(56,.int .i64 x.1)]) (λx H' n'=>x.1<=q/\n1+1<n'/\Bd H' bb mb q (gr g x.1 V) x.2/\VB nx n' bb mb VS0 x.2/\(∀b,bk x.2=some b->b≠n1/\b≠n1+1/\bk out≠some b)/\H' n1=some [.int .i64 r.n,.int .i64 r.h0,.int .i64 r.h1,.int .i64 r.h2,.int .i64 r.h3,.int .i64 r.h4,.int .i64 r.f]/\H' (n1+1)=some ((fh g x.1 V++List.replicate (q-x.1) (0:Int)).map (AV.int .i64))/\(∀b,bk out=some b->H' b=H b)/\Fr H0 H' nx bb mb VS0) (λx=>q-x.1) (0,VS)
  ⟨bo _,by omega,⟨(w1 bb (by omega)).trans hBd.b,hBd.r.same λb h=>w1 b (hVB b h).1,(w1 mb (by omega)).trans hBd.m⟩,λb h=>by have:=hVB b h;exact⟨by omega,this.2.1,this.2.2.1,this.2.2.2⟩,λb h=>by have:=hVB b h;exact⟨by omega,by omega,λh'=>(hrb b h').2.2 h⟩,wC,wD,λb h=>w1 b (nO b h),λy hy h1 h2 h3=>by rw[w1 y (by omega)];exact hFr y hy h1 h2 h3⟩ (by simp (disch:=omega) only[agr,ZG,reduceEqDiff,↓reduceIte,SL]) ?_
 clear wC wD w1 hFr hVB hBd gB;rintro⟨p,VS⟩ H1 n2 ⟨p1,hn2,hBd,hVB,hVx,wC,wD,hO,hFr⟩;dsimp only at p1 hBd hVB hVx wD |-;by_cases hp:p<q
 rotate_left
 ·obtain rfl:p=q:=by omega
  rw[Nat.sub_self,List.replicate_zero,jd] at wD;have hrl:(rows.map aq).length<=7:=by rw[bi];omega
  have hrowH:Row H1 1 out (rows.map aq):=hrow.same λb h=>hO b h;refine wnY (zI3 @PE @o1 @o2) ?_;refine dY (k:=1) (sv:=out) (cs:=rows.map aq) (new:=[.msl (n1+1) p 1 0 p]) rfl ev0 (hrowH.same λb h=>ab (by have:=nO b h;omega)) ev0 (dw rfl) rfl rfl jf (by omega) (by omega) ?_;rintro out2 H3 n3 r1 r2 r3 r4 r5;have fx:∀y,y<n2->bk out≠some y->H3 y=H1 y:=λy h1 h2=>by rw[r4 y (by omega) h2,ab (by omega)]
  have hrI:(fh g p V).length=p:=i6 g p V;have hDs:Snap (only (n1+1) ((fh g p V).map (AV.int .i64))) (.msl (n1+1) p 1 0 p) (aq (fh g p V)):=Row.snapI (Row.box1 ez (by rw[bi,hrI]));have nOD:bk out≠some (n1+1):=λh=>by have:=nO _ h;omega
  have ho2:∀b,bk out2=some b->bk out=some b\/(n2<=b/\b<n3):=λb h=>by
   rcases r5 b h with h|h
   ·exact .inl h
   ·omega
  have nO2:bk out2≠some (n1+1):=λh=>by
   rcases ho2 _ h with h|h
   ·exact nOD h
   ·omega
  obtain⟨H5,hfz,hr5,hs5⟩:=iY (x':=aq (fh g p V)) r1 ((fx (n1+1) (by omega) nOD).trans wD) hDs nO2;have hkp:H5=H5:=rfl
  have h5:∀y,y<n2->y≠n1+1->bk out≠some y->H5 y=H1 y:=λy h1 h2 h3=>by
   rw [hs5 y h2 (fun h=>by
    rcases ho2 _ h with h|h
    ·exact h3 h
    ·omega)]
   exact fx y h1 h3
  refine wnY and_self ?_
  have hgl:((rows++[fh g p V]).getD (k+1) [])=fh g p V:=by
   rw[ng,iA (by omega),pl1,Nat.sub_self];rfl
  have nbo:bk out≠some bb:=λh=>by have:=(hrb _ h).1;omega
  have nmo:bk out≠some mb:=λh=>by have:=(hrb _ h).1;omega
  refine⟨(k+1,VS,out2),by dsimp only;omega,_,H5,hfz,⟨by dsimp only;omega,by omega,?_,λb h=>by have:=hVB b h;exact⟨by omega,this.2.1,this.2.2.1,this.2.2.2⟩,?_,λb h=>?_,λy hy h1 h2 h3=>?_⟩,?_⟩
  ·dsimp only;rw[hPk];exact⟨by rw[h5 bb (by omega) (by omega) nbo];exact hBd.b,hBd.r.same λb h=>h5 b (hVB b h).1 (hVx b h).2.1 (hVx b h).2.2,by rw[h5 mb (by omega) (by omega) nmo];exact hBd.m⟩
  ·dsimp only;rw[hPk,dp];exact hr5
  ·rcases ho2 b h with h|h
   ·have:=hrb b h;exact⟨this.1,by omega,λh'=>(hVx b h').2.2 h⟩
   ·exact⟨by omega,by omega,λh'=>by have:=(hVB b h').1;omega⟩
  ·rw[h5 y (by omega) (by omega) (λh=>by have:=(hrb _ h).1;omega)];exact hFr y hy h1 h2 h3
  ·dsimp only;rw[hPk];dsimp only;rw[hgl]
   exact ⟨.inl ev0,.inr (by
    have e:∀v,v=.msl (n1+1) p 1 0 p->Snap (only (n1+1) ((fh g p V).map (AV.int .i64))) v (aq (fh g p V)):=λv h=>h▸hDs;exact e _ ev0),.inl ev0,.inl ev0,.inl ev0,.inl (have zz:=aI @Int.natCast_add @Int.natCast_one;evZ),trivial⟩
 have hVl:(gr g p V).length<=100000:=by have:=mg g p V;omega
 have hnI:fh g (p+1) V=fh g p V++[(((kX (gr g p V) (g p)).idxOf (g p):Nat):Int)]:=rfl;have hnV:gr g (p+1) V=kX (gr g p V) (g p):=rfl;have hpt:=A5 g V p q hp (((kX (gr g p V) (g p)).idxOf (g p):Nat):Int);rw[<-hnI] at hpt;have hDl:((fh g p V++List.replicate (q-p) (0:Int)).map (AV.int .i64)).length=q:=by rw[bi,cP,i6,List.length_replicate];omega
 have hix:eo 1 (.msl (n1+1) q 1 0 q) (.int .i64 (p:Int))=some (.ptr (n1+1) q p):=by
  rw[lh,if_pos ⟨by omega,by omega⟩,c9,dt,Nat.mul_one]
 have hcp:=hcell p (by omega);obtain⟨x0,x1⟩:=hrh p (by omega);have hsp:=hsn p;generalize r.hs.getD p 0=x at *;generalize hG:hrd x now=G at *;have hG1:∀i,G i=if i<now.length/\hasFl x i=true then now.getD i 0 else-1:=λi=>by rw[<-hG];rfl
 have hGz:∀i,q<=i->G i=-1:=λi hi=>by rw[hG1,if_neg λh=>by omega]
 have hma:=Mv hGz;have hgc:(g p).cs=vwc p (k+1:Nat) 0 (hm G q):=by rw[hma,G4,hsp];rfl
 have zz:=@PE;repeat' (first|refine zW ?_|apply a_n|refine zO ?_|refine vY ?_|refine cY ?_ (hp:=xy)|refine alY ?_|refine stY ?_|(refine zGY ?_ ?_<;>(intro _hg;try (exfalso;omega)))|fail)
 generalize hX:av (av H1 n2 _) n2 _=H2;have w2:∀y,y≠n2->H2 y=H1 y:=λy hy=>by rw[<-hX];simp (disch:=omega) only[ab]
 have wE:H2 n2=some (vwc p (k+1:Nat) 0 (hm G 0)):=by rw[<-hX,ae];rfl
 clear zz;clear hX;refine bq (X:=Nat) (λi=>[(0,.ptr bb 3 0),(7,aq now),(9,out),(10,.int .i64 k),(11,.ptr n1 7 0),(12,.msl (n1+1) q 1 0 q),(13,.int .i64 p),(14,.ptr n2 8 0),(42,bB w),(43,.int .i64 w.length),(44,.int .i64 k),(55,.int .i64 q),(56,.int .i64 p),(64,aq now),(65,.int .i64 now.length),(66,.int .i64 i)]) (λi H' n'=>i<=now.length/\n'=n2+1/\H' n2=some (vwc p (k+1:Nat) 0 (hm G i))/\∀y,y≠n2->H' y=H1 y) (λi=>now.length-i) 0 ⟨bo _,rfl,wE,w2⟩ (by simp (disch:=omega) only[agr,ZG,reduceEqDiff,↓reduceIte,SL]) ?_;clear wE w2;rintro i H2 n3 ⟨i1,rfl,wE,w2⟩;by_cases hi:i<now.length
 ·have ixn:eo 1 (aq now) (.int .i64 (i:Int))=some (.iptr [.int .i64 (now.getD i 0)] 0):=by
    have:=zJ (l:=now) (n:=(i:Int)) (by omega) (by omega)
    rwa [c9] at this
  have gC:=(w2 n1 (by omega)).trans wC;have hsh:=λtb tf=>yF tb tf x i;have ha1:=λtb tf=>yq tb tf (nS x i);have hbit:=HJ (f:=x) (p:=i) x0 (by omega);have hGi:=hG1 i;have hlv:=qo p (k+1:Nat) 0 (Ik G i);have hpv:=tU (a:=p) (b:=(k+1:Nat)) (c:=0) (Ik G i) (show i<5 by omega) (G i);rw[M9 (by omega)] at hpv;generalize nS x i=sn at *;generalize tx sn=an at *;cases hb:hasFl x i with
  |false=>
   rw[hb] at hGi hbit;rw[if_neg λh=>by cases h.2] at hGi;rw[<-IE hGi] at wE;refine wnY (zI7 @IX @ixn @gC @hcp @hsh @ha1 @hbit) ?_;exact⟨i+1,by omega,⟨by omega,rfl,wE,w2⟩,ag0⟩
  |true=>
   rw[hb] at hGi hbit;rw[if_pos ⟨hi,rfl⟩] at hGi;rw[<-hGi] at ixn;generalize vwc p (k+1:Nat) 0 (hm G i)=L at *;refine wnY (zI7 @IX @ixn @gC @hcp @hsh @ha1 @hbit) ?_;refine vD (b:=n2) (n:=8) (off:=3+i) (cs:=L) (vs:=[.int .i64 (G i)]) rfl ev0 ev0 wE rfl rfl hlv rfl (by omega) ?_;rw[hpv];refine wnY and_self ?_;exact⟨i+1,by omega,⟨by omega,rfl,ae,λy hy=>by rw[ab hy];exact w2 y hy⟩,ag0⟩
 obtain rfl:i=now.length:=by omega
 rw[hnl,<-hgc] at wE;have hBd2:Bd H2 bb mb q (gr g p V) VS:=⟨by rw[w2 bb (by omega)];exact hBd.b,hBd.r.same λb h=>w2 b (by have:=(hVB b h).1;omega),by rw[w2 mb (by omega)];exact hBd.m⟩
 have hadd:=HP q (gr g p V) (g p) hVl H2 (n2+1) bb mb VS hBd2 (by omega) (by omega) hne λb h=>by have:=hVB b h;exact⟨by omega,this.2.1,this.2.2.1⟩
 rw[<-hnV] at hadd hpt;unfold dN at hadd;rw[PC.2.2.2.2.2.1] at hadd wE;generalize g p=v at *;refine wnY @wE ?_;refine ce ev0 ev0 hadd ?_;rintro _ H3 n3 ⟨rfl,k1,VS2,hBd3,hV2,hF2⟩;refine wnY @hix ?_;have nVD:bk VS≠some (n1+1):=λh=>(hVx _ h).2.1 rfl;have nVC:bk VS≠some n1:=λh=>(hVx _ h).1 rfl;have wD3:=(hF2 (n1+1) (by omega) (by omega) (by omega) nVD).trans ((w2 (n1+1) (by omega)).trans wD);refine vD (b:=n1+1) (n:=q) (off:=p) (vs:=[.int .i64 _]) rfl ev0 ev0 wD3 rfl rfl hDl rfl (by omega) ?_;rw[hpt];refine wnY and_self ?_
 have hVx2:∀b,bk VS2=some b->b≠n1/\b≠n1+1/\bk out≠some b:=λb h=>by
  rcases hV2 b h with h|h
  ·exact hVx b h
  ·exact⟨by omega,by omega,λh'=>by have:=nO b h';omega⟩
 refine⟨(p+1,VS2),by dsimp only;omega,⟨by dsimp only;omega,by omega,⟨by rw[ab (by omega)];exact hBd3.b,hBd3.r.same λb h=>ab (hVx2 b h).2.1,by rw[ab (by omega)];exact hBd3.m⟩,λb h=>?_,hVx2,?_,ae,λb h=>?_,λy hy h1 h2 h3=>?_⟩,ag0⟩
 ·rcases hV2 b h with h|h
  ·have:=hVB b h;exact⟨by omega,this.2.1,this.2.2.1,this.2.2.2⟩
  ·exact⟨by omega,by omega,by omega,.inr (by omega)⟩
 ·rw[ab (by omega),hF2 n1 (by omega) (by omega) (by omega) nVC,w2 n1 (by omega)];exact wC
 ·have hb1:=hrb b h;rw[ab (by omega),hF2 b (by omega) (by omega) (by omega) (λh'=>(hVx b h').2.2 h),w2 b (by omega)];exact hO b h
 ·rw [ab (by omega),hF2 y (by omega) h1 h2 (fun h=>by
    rcases(hVB y h).2.2.2 with h|h
    ·exact h3 h
    ·omega),w2 y (by omega)]
  exact hFr y hy h1 h2 h3
theorem zw(p:PrbV)(h:OkP p):pU 7 [cf p] (.tup [fE (aZ p),.int .i64 0]):=by
 refine pO is7 ?_;simp only[b7,aw];obtain⟨hck,ho,hn,r0,r6⟩:=cH h.e0;obtain⟨n1,n5,c1,c2⟩:=dq hck;obtain⟨f1,f2,f3,f4⟩:=pe h.e0 h.num;have hcnt:=KQ p h;have hto:CJ p.adv:=λl hl m hm=>⟨(ho.mv l hl m hm).to0,(ho.mv l hl m hm).to1⟩
 have hnum:=tO hto (by have:=ho.s1;omega) (lim:=4096) (by omega) p.rounds.toNat
 have hnb:lP p.adv p.rounds.toNat 4096<=4096:=by
  have:(bf p.adv p.rounds.toNat 0).length<=60:=f2;omega
 have hwo:=JD p.adv h.sa ho p.rounds.toNat (by omega) hnb;have hcp:=F0 p h.sh (λe=>by rw[e] at c1;simp at c1) (λe=>by have:=ho.s1;rw[e] at this;simp at this) c2 (Jz h.few) ho.s256 (λl hl=>eK (jB hl) ho.m4096);have hex:=ya p (dW p);have hY:=@ME p (dW p) (by omega) (by omega)
 have hwl:∀w∈dW p,w.length=p.rounds.toNat/\∀r∈w,r.n=p.task.n/\∀q,q<5->0<=r.hs.getD q 0/\r.hs.getD q 0<=9223372036854775807:=λw hw=>by
  refine⟨ms hw,λr hr=>?_⟩;obtain⟨l,hl,m,hm,rfl⟩:=qN hw r hr;have ok:=ho.mv l hl m hm;obtain⟨g1,_,_⟩:=eX ok.r;obtain⟨_,_,g2⟩:=i7 g1;refine⟨by rw[ok.n,hn],λq hq=>?_⟩;obtain⟨g3,g4⟩:=g2 q hq;by_cases hqn:m.r.n<=q
  ·rw[g3 hqn];omega
  ·have:=g4 (by omega);have:=yS (n:=m.r.n) (by rw[ok.n];exact ho.n5);omega
 have hN:((p.task.n.toNat:Nat):Int)=p.task.n:=by omega
 have hRn:((p.rounds.toNat:Nat):Int)=p.rounds:=by omega
 rw[hRn] at hwo;change pU 17 [ca p.adv,.int .i64 p.rounds] (.tup [d9 (dW p),.int .i64 0]) at hwo;have hal:=DA p.task.cases.length (dW p);have hsl:=zu (p:=p) n5 r6;have hss:=Bk p;have hxe:=λc s w=>yD p c s w;have hall:=tW p p.task.cases.length;have hinp:=λc hc=>uS hck (c:=c) hc;have hs00:stD p []=⟨[],[]⟩:=rfl;have hsys:(aZ p).cs=[.int .i64 p.task.n,.int .i64 p.task.ins,.int .i64 p.task.outs,bw p.task.cases,.int .i64 p.adv.n,aQ p.adv.states,.int .i64 p.rounds,.int .i64 p.task.n,cW (bldS p p.task.cases.length).views,fT (bldS p p.task.cases.length).execs]:=rfl;have d1:=e9 p;have d2:=bI p.adv
 have hz:decide (4096 < ((dW p).length:Int) * (p.task.cases.length:Nat))=false:=bJ (by
  have e:((dW p).length:Int)*(p.task.cases.length:Nat)=((p.task.cases.length*(dW p).length:Nat):Int):=by rw[Int.natCast_mul,Int.mul_comm]
  omega)
 rw[show fE (aZ p)=.agg (aZ p).cs from rfl,hsys];unfold cf at hcnt hcp hex d1 |-;unfold ca at hwo d2;rw[PC.2.2.2.1] at hwo d2;rw[PC.2.2.2.2.1] at hcnt hcp hex d1 |-;generalize dW p=W at *;refine wnY (aI @PE @hz) ?_;refine xn ?_;refine wnY @PE ?_;refine kF 7 8 rfl rfl ev0 (λc0 cj hy=>?_);refine Abs.Fn.mono (hY (I:=λD H n=>∃VS EX,8<=n/\H 0=some [.int .i64 p.task.n,.int .i64 p.task.ins,.int .i64 p.task.outs,bw p.task.cases,.int .i64 p.adv.n,aQ p.adv.states,.int .i64 p.rounds]/\H 1=some [.int .i64 0,.int .i64 0,.int .i64 0,.esl,.int .i64 0,.esl,.int .i64 0,.int .i64 0,.esl,.esl]/\H 2=some [.int .i64 0]/\H 3=some [.int .i64 p.task.n,.int .i64 p.task.ins,.int .i64 p.task.outs,bw p.task.cases,.int .i64 p.adv.n,aQ p.adv.states,.int .i64 p.rounds,.int .i64 0,.esl,EX]/\H 6=some [.ptr 5 3 0]/\H 7=some [c0]/\Bd H 5 4 p.task.n (stD p D).views VS/\Row H 3 EX (cL iO (stD p D).execs)/\(∀b,bk EX=some b->8<=b/\b<n)/\∀b,bk VS=some b->8<=b/\b<n/\bk EX≠some b) ?_ ?_) ?_
 rotate_left
 ·rw[hs00];exact⟨.esl,.esl,by omega,by simp (disch:=omega) only[ab,ae],by simp (disch:=omega) only[ab,ae],by simp (disch:=omega) only[ab,ae],by simp (disch:=omega) only[ab,ae];rfl,by simp (disch:=omega) only[ab,ae];rfl,by simp (disch:=omega) only[ab,ae],⟨by simp (disch:=omega) only[ab,ae],.nil,by simp (disch:=omega) only[ab,ae];rfl⟩,.nil,λb h=>(by cases h),λb h=>(by cases h)⟩
 ·rintro _ H1 n1 ⟨VS,EX,i1,g0,g1,g2,g3,g6,g7,hBd,hrow,hE,hV⟩;refine .inl ⟨g7,?_⟩;clear hy;rw[hall] at hBd hrow;have w:∀x,x≠7->dv H1 7 x=H1 x:=λx b=>bQ b;have gB:=hBd.b;generalize hH2:dv H1 7=H2 at *;have k0:=(w 0 (by omega)).trans g0;have k1:=(w 1 (by omega)).trans g1;have k2:=(w 2 (by omega)).trans g2;have k3:=(w 3 (by omega)).trans g3;have k5:=(w 5 (by omega)).trans gB;have k6:=(w 6 (by omega)).trans g6;obtain⟨o1,o2⟩:=hBd.r.one;obtain⟨o3,o4⟩:=hrow.one;refine wnY (aI @PE (aI @SV3 (Pk @k0 @k1 @k2 @k3 @k5 @k6 @o1 @o2 @o3 @o4))) ?_;refine bE (ac (eh (ac (.int _ _) (ac (.int _ _) (ac (.int _ _) (ac (Dat.snap (ib _)) (ac (.int _ _) (ac (Dat.snap (fL _)) (ac (.int _ _) (ac (.int _ _) (ac (HO (hBd.r.same λb h=>?_)) (ac (GA (hrow.same λb h=>?_)) al))))))))))) (ac (.int _ _) al))
  ·have:=hV b h;simp (disch:=omega) only[ab];exact w b (by omega)
  ·have:=hE b h;simp (disch:=omega) only[ab];exact w b (by omega)
 ·rintro D c w H1 n1 ⟨VS,EX,i1,g0,g1,g2,g3,g6,g7,hBd,hrow,hE,hV⟩ hcl hwW ⟨R,hR⟩;refine hy _ _ _ _ g7 rfl ?_;clear hy;have w0:∀x,x≠7->dv H1 7 x=H1 x:=λx b=>bQ b;obtain⟨hwl1,hwr⟩:=hwl w hwW;have hcl2:=vG w (by omega)
  have hDl:D.length<p.task.cases.length*W.length:=by
   have:=congrArg List.length hR;rw[cP,ig,hal] at this;omega
  obtain⟨hs1,hs2⟩:=hsl D;have hsD:=hss D c w;rw[hxe] at hsD;have ixc:=bL hcl;have hin:=hinp c hcl;generalize (p.task.cases.getD c default).inp=inp at *;generalize stD p D=B at *;have hpc:=λH0 nx=>I2 p.task.n.toNat (by omega) inp w B.views (by omega) (by omega) (λr hr=>by rw[hN];exact hwr r hr) (by omega) H0 nx 5 4 VS;rw[hwl1] at hpc;have hPl:=mL p.task.n.toNat inp w B.views (p.rounds.toNat+1);generalize plV p.task.n.toNat inp w B.views (p.rounds.toNat+1)=PL at *;obtain⟨V2,rows⟩:=PL;rw[hN] at hpc;dsimp only at hpc hsD hPl;have hBd2:Bd (dv H1 7) 5 4 p.task.n B.views VS:=⟨(w0 5 (by omega)).trans hBd.b,hBd.r.same λb h=>w0 b (by have:=hV b h;omega),(w0 4 (by omega)).trans hBd.m⟩
  have hrow2:Row (dv H1 7) 3 EX (cL iO B.execs):=hrow.same λb h=>w0 b (by have:=hE b h;omega);refine wnY @PE ?_;generalize hH2:dv H1 7=H2 at *;have k0:=(w0 0 (by omega)).trans g0;have k1:=(w0 1 (by omega)).trans g1;have k2:=(w0 2 (by omega)).trans g2;have k3:=(w0 3 (by omega)).trans g3;have k6:=(w0 6 (by omega)).trans g6;refine⟨g7,?_⟩;refine wnY @PE ?_;refine fg (λy=>if y=0\/y=3\/y=6 then H2 y else none) rfl (λy cs h=>by dsimp only at h;split at h;exact h;cases h) ?_;have S0:(λy=>if y=0\/y=3\/y=6 then H2 y else none) 0=_:=k0;have S3:(λy=>if y=0\/y=3\/y=6 then H2 y else none) 3=_:=k3;have S6:(λy=>if y=0\/y=3\/y=6 then H2 y else none) 6=_:=k6
  have hSub:∀H',H' 0=H2 0->H' 3=H2 3->H' 6=H2 6->Sub (λy=>if y=0\/y=3\/y=6 then H2 y else none) H':=λH' e0 e3 e6 y cs h=>by
   dsimp only at h;split at h
   ·rename_i e;rcases e with rfl|rfl|rfl
    ·rwa [e0]
    ·rwa [e3]
    ·rwa [e6]
   ·cases h
  generalize (λy=>if y=0\/y=3\/y=6 then H2 y else none)=S at *;refine wnY (zI6 @PE @SV3 @S0 @S3 @S6 @ixc) ?_;refine dz ?_;refine pt ev0 ev0 hcl2 (ac (Dat.snap (kD _)) al) ?_;refine iE ?_;refine⟨hSub _ rfl rfl rfl,?_⟩
  skip
  refine dz ?_;refine ce ev0 ev0 (hpc _ _ hBd2 (by omega) (by omega) (by omega) (λb h=>by have:=hV b h;omega)) ?_;rintro r H3 n3 ⟨hrP,hn3,VS2,hBd3,hVB,hrb,hFr⟩;refine iE ?_;have nV:∀y,y<8->bk VS≠some y:=λy hy h=>by have:=hV y h;omega
  have f3:∀y,y<n1->y≠5->y≠4->bk VS≠some y->H3 y=H2 y:=λy a b c d=>hFr y a b c d;refine⟨hSub _ (f3 0 (by omega) (by omega) (by omega) (nV 0 (by omega))) (f3 3 (by omega) (by omega) (by omega) (nV 3 (by omega))) (f3 6 (by omega) (by omega) (by omega) (nV 6 (by omega))),?_⟩;obtain⟨o1,o2⟩:=hrP.one;refine wnY (zI8 @PE @SV3 @S0 @S3 @S6 @ixc @o1 @o2) ?_;refine dz ?_;refine wnY (zI8 @PE @SV3 @S0 @S3 @S6 @ixc @o1 @o2) ?_
  have hrow3:Row H3 3 EX (cL iO B.execs):=hrow2.same λb h=>by
   have:=hE b h;exact f3 b (by omega) (by omega) (by omega) (λh'=>(hV b h').2.2 h)
  refine⟨hSub _ (by rw[ab (by omega)];exact f3 0 (by omega) (by omega) (by omega) (nV 0 (by omega))) (by rw[ab (by omega)];exact f3 3 (by omega) (by omega) (by omega) (nV 3 (by omega))) (by rw[ab (by omega)];exact f3 6 (by omega) (by omega) (by omega) (nV 6 (by omega))),?_⟩;have zz:=aI @PE (aI @SV3 (aI @S0 (aI @S3 (aI @S6 (aI @ixc (aI @o1 @o2))))));repeat' (first|apply a_n|refine zO ?_|apply fm|fail)
  have hcl3:=F6 B.execs;refine dY (k:=1) (sv:=EX) (xv:=.msl n3 3 3 0 1) (cs:=cL iO B.execs) (new:=[.int .i64 c,bB w,r]) rfl ev0 (hrow3.same λb h=>ab (by have:=hE b h;omega)) ev0 (dw rfl) (by simp only[SO,PE,o1,Bool.and_self]) rfl (by omega) (by omega) (by omega) ?_;rintro s4 H4 n4 r1 r2 r3 r4 r5;have nE:∀y,y<8->bk EX≠some y:=λy hy h=>by have:=hE y h;omega
  have fx:∀y,y<n3->bk EX≠some y->H4 y=H3 y:=λy h1 h2=>by rw[r4 y (by omega) h2,ab (by omega)]
  have fy:∀y,y<8->y≠5->y≠4->H4 y=H2 y:=λy a b c=>(fx y (by omega) (nE y a)).trans (f3 y (by omega) b c (nV y a));have q3:=(fy 3 (by omega) (by omega) (by omega)).trans k3;obtain⟨o5,o6⟩:=r1.one;clear zz;have zz:=aI @PE (aI @SV3 (aI @S0 (aI @S3 (aI @S6 (aI @q3 (aI @o5 @o6))))));repeat' (first|apply a_n|refine zO ?_|refine nvY ?_|apply fm|refine stY ?_|fail)
  have hPl2:rows.length=p.rounds.toNat+1/\V2.length<=8000:=by
   have h1:=hPl.1;have h2:=hPl.2.2;have h3:(p.rounds.toNat+1)*p.task.n.toNat<=7*5:=Nat.mul_le_mul (by omega) (by omega);exact⟨h1,by omega⟩
  have hvl:=hBd3.r.lenS (uF V2) (by omega)
  obtain ⟨b2,ln,rfl,hb2,hl2⟩:=vR hrP (fun e=>by
   have:=congrArg List.length e;rw[bi,hPl2.1] at this;cases this)
  have hbb:=hrb b2 rfl
  have hs4:∀b,bk s4=some b->8<=b/\b<n4/\b≠b2/\(bk EX=some b\/n3<=b):=λb h=>by
   rcases r5 b h with h|h
   ·have:=hE b h;exact⟨this.1,by omega,by omega,.inl h⟩
   ·omega
  have hr4:∀cs,Row (av H4 3 cs) 3 s4 ((cL iO B.execs++[.int .i64 c,bB w])++[.msl b2 ln 1 0 ln]):=λcs=>by
   rw[io];exact r1.same λb h=>ab (by have:=hs4 b h;omega)
  have hb4:∀cs,av H4 3 cs b2=some (rows.map aq):=λcs=>by
   rw[ab (by omega),fx b2 (by omega) (λh=>by have:=hE b2 h;omega)];exact hb2
  obtain⟨H5,hfz,hr5,hs5⟩:=iY (x':=ay rows) (hr4 _) (hb4 _) (Row.snapV (Row.box1 ez hl2)) (λe=>(hs4 b2 e).2.2.1 rfl);refine nM ?_;refine rh _ H5 [(8,.ptr 6 1 0)] hfz (eT (by simp (disch:=omega) only[agr,ZG,reduceEqDiff,↓reduceIte,ig,ss])) ?_;have h5:∀y,y≠b2->bk s4≠some y->H5 y=_:=λy h1 h2=>hs5 y h1 h2;have n4':∀y,y<8->bk s4≠some y:=λy hy h=>by have:=hs4 y h;omega
  have fB:∀y,y<n3->bk EX≠some y->y≠3->y≠b2->H5 y=H3 y:=λy h1 h2 h3 h4=>by
   rw [h5 y h4 (fun h=>by
    rcases(hs4 y h).2.2.2 with h|h
    ·exact h2 h
    ·omega),ab h3,fx y h1 h2]
  have m:∀y,y<8->y≠3->y≠5->y≠4->H5 y=H2 y:=λy a b c d=>(fB y (by omega) (nE y a) b (by omega)).trans (f3 y (by omega) c d (nV y a));have m6:=(m 6 (by omega) (by omega) (by omega) (by omega)).trans k6;have m5:=(fB 5 (by omega) (nE 5 (by omega)) (by omega) (by omega)).trans hBd3.b;have m4:=(fB 4 (by omega) (nE 4 (by omega)) (by omega) (by omega)).trans hBd3.m;have m3:H5 3=_:=(h5 3 (by omega) (n4' 3 (by omega))).trans ae
  have hVE:∀b,bk VS2=some b->bk EX≠some b:=λb h h'=>by
   have h1:=hE b h';rcases(hVB b h).2.2.2 with h2|h2
   ·exact(hV b h2).2.2 h'
   ·omega
  obtain⟨o7,o8⟩:=hBd3.r.one;refine wnY (zI7 @PE @SV3 @m6 @m5 @hvl @o7 @o8) ?_;refine⟨rfl,VS2,s4,by omega,?_,?_,?_,?_,?_,ae,?_,?_,λb h=>?_,λb h=>?_⟩
  ·rw[ab (by omega),m 0 (by omega) (by omega) (by omega) (by omega)];exact k0
  ·rw[ab (by omega),m 1 (by omega) (by omega) (by omega) (by omega)];exact k1
  ·rw[ab (by omega),m 2 (by omega) (by omega) (by omega) (by omega)];exact k2
  ·rw[ab (by omega),m3];rfl
  ·rw[ab (by omega)];exact m6
  ·rw[hsD];refine⟨(ab (by omega)).trans m5,hBd3.r.same λb h=>?_,(ab (by omega)).trans m4⟩;have h1:=hVB b h
   have h2:8<=b:=by
    rcases h1.2.2.2 with h2|h2
    ·exact(hV b h2).1
    ·omega
   rw[ab (by omega)];exact fB b h1.1 (hVE b h) (by omega) (λe=>hbb.2.2 (e▸h))
  ·rw[hsD];show Row _ 3 s4 (cL iO (B.execs++[_]));rw[eR,mH];show Row _ 3 s4 (cL iO B.execs++[.int .i64 (c:Int),bB w,ay rows]);rw[io] at hr5;exact hr5.same λb h=>ab (by have:=hs4 b h;omega)
  ·have:=hs4 b h;omega
  ·have h1:=hVB b h
   have h2:8<=b:=by
    rcases h1.2.2.2 with h2|h2
    ·exact(hV b h2).1
    ·omega
   refine⟨h2,by omega,λh'=>?_⟩;rcases(hs4 b h').2.2.2 with h3|h3
   ·exact hVE b h h3
   ·omega
theorem FM(l:List VwV)(hl:l.length<=1000000):pU 106 [cW l,cW l] (.bool true):=by
 refine pO PK ?_;simp only[PY,aw];have z:decide ((l.length:Int)≠l.length)=false:=bJ (λh=>h rfl);refine wnY (aI @PE @z) ?_;refine iq (X:=Nat) (λk=>[(0,cW l),(1,cW l),(12,.int .i64 l.length),(13,.int .i64 k)]) (λk=>k<=l.length) (λk=>l.length-k) 0 (bo _) ag0 ?_;rintro k h1;by_cases hk:k<l.length
 rotate_left
 ·obtain rfl:k=l.length:=by omega
  refine wnY and_self ?_;exact .bool _
 have ix:=ixW hk;rw[PC.2.2.2.2.2.1] at ix;have hd:=Ro (l.getD k default);refine wnY (zI3 @PE @ix @hd) ?_;exact⟨k+1,by omega,by omega,ag0,rfl,rfl⟩
theorem Ev(l:List RndV)(hl:l.length<=1000000):pU 151 [bB l,bB l] (.bool true):=by
 refine pO NH ?_;simp only[Pb,aw];have z:decide ((l.length:Int)≠l.length)=false:=bJ (λh=>h rfl);refine wnY (aI @PE @z) ?_;refine iq (X:=Nat) (λk=>[(0,bB l),(1,bB l),(12,.int .i64 l.length),(13,.int .i64 k)]) (λk=>k<=l.length) (λk=>l.length-k) 0 (bo _) ag0 ?_;rintro k h1;by_cases hk:k<l.length
 rotate_left
 ·obtain rfl:k=l.length:=by omega
  refine wnY and_self ?_;exact .bool _
 have ix:=ixR hk;rw[PC.1] at ix;have hd:=RN (l.getD k default);refine wnY (zI3 @PE @ix @hd) ?_;exact⟨k+1,by omega,by omega,ag0,rfl,rfl⟩
theorem Eh(x:List (List Int))(hx:x.length<=1000000)(hxs:∀v∈x,v.length<=1000000):pU 93 [ay x,ay x,.func 94 []] (.bool true):=by
 refine pO P1 ?_;simp only[b93,aw];have z:decide ((x.length:Int)≠x.length)=false:=bJ (λh=>h rfl);refine wnY @z ?_;refine iq (X:=Nat) (λk=>[(0,ay x),(1,ay x),(2,.func 94 []),(15,ay x),(16,.int .i64 x.length),(17,.int .i64 k)]) (λk=>k<=x.length) (λk=>x.length-k) 0 (bo _) ag0 ?_;rintro k h1;by_cases hk:k<x.length
 rotate_left
 ·obtain rfl:k=x.length:=by omega
  refine wnY and_self ?_;exact .bool _
 have hc:=qU (x.getD k default) (x.getD k default) (by have:=hxs _ (ao hk);show _<=_;omega) (by have:=hxs _ (ao hk);show _<=_;omega);rw[bR rfl] at hc;refine wnY and_self ?_;exact⟨k+1,by omega,by omega,ag0,rfl,rfl⟩
theorem M4(x:ExV)(h:ShE x):pU 108 [iO x,iO x] (.bool true):=by
 refine pO QJ ?_;simp only[NP,aw];have h1:=Ev x.word h.1;have h2:=Eh x.views h.2.1 h.2.2;unfold iO;rw[PC.2.2.2.2.2.2.1];have z:decide (x.case=x.case)=true:=bR rfl;refine wnY (aI @PE @z) ?_;exact .bool _
theorem Ea(l:List ExV)(hl:l.length<=1000000)(h:∀x∈l,ShE x):pU 107 [fT l,fT l,.func 108 []] (.bool true):=by
 refine pO O0 ?_;simp only[O9,aw];have z:decide ((l.length:Int)≠l.length)=false:=bJ (λh=>h rfl);refine wnY (aI @PE @z) ?_;refine bq (X:=Nat) (λk=>[(0,fT l),(1,fT l),(2,.func 108 []),(15,fT l),(16,.int .i64 l.length),(17,.int .i64 k)]) (λk _ _=>k<=l.length) (λk=>l.length-k) 0 (bo _) ag0 ?_;rintro k H nx h1;by_cases hk:k<l.length
 rotate_left
 ·obtain rfl:k=l.length:=by omega
  refine wnY and_self ?_;exact .bool _
 have ix:=ixE hk;have hc:=M4 (l.getD k default) (h _ (ao hk));have hd:=ul (l.getD k default);unfold iO at hc hd;rw[PC.2.2.2.2.2.2.1] at ix hc hd;refine wnY (aI @PE @ix) ?_;exact⟨k+1,by omega,by omega,ag0⟩
theorem Au(p:PrbV)(h:OkP p):pU 63 [fE (aZ p)] (.int .i64 0):=by
 refine pO Ru ?_;simp only[b63,aw];have hb:=zw p h;obtain⟨hvl,hel,hE⟩:=Lw p h;have h1:=FM (bldS p p.task.cases.length).views hvl;have h2:=Ea (bldS p p.task.cases.length).execs hel hE;have hd:=e9 p;have z:decide (p.task.n≠p.task.n)=false:=bJ (λh=>h rfl);rw[show fE (aZ p)=.agg (aZ p).cs from rfl,PC.2.2.2.2.2.2.2] at hb |-;unfold cf at hb hd;rw[PC.2.2.2.2.1] at hb hd;dsimp only[aZ] at hb |-;refine wnY (aI @PE @z) ?_;exact .int _ _
theorem Kb(l:List Int)(v:Int)(hl:Sh l):pU 173 [aq l,.int .i64 v] (.int .i64 (idx l v)):=by
 refine pO QA ?_;simp only[Nj,aw]
 repeat' (first|refine zW ?_|apply a_n|refine zO ?_|refine vZ ?_|fail)
 refine iq (X:=Nat) (λk=>[(0,aq l),(1,.int .i64 v),(7,.int .i64 l.length),(8,.int .i64 k)]) (λk=>k<=l.length/\∀i,i<k->l.getD i default≠v) (λk=>l.length-k) 0 ⟨bo _,by simp⟩ ag0 ?_;rintro k ⟨h1,h2⟩
 repeat' (first|refine zW ?_|apply a_n|apply a_x|apply a_r|refine zO ?_|refine vZ ?_|(refine zGZ ?_ ?_<;>(intro _hg;try (exfalso;omega)))|refine au rfl ?_|refine r1Z ?_|fail)
 ·exact aC (Md (by omega) h2 _hg).symm
 ·refine⟨k+1,⟨by omega,λi hi=>?_⟩,by omega,ag0,rfl,rfl⟩;rcases lL.1 hi with h|rfl
  ·exact h2 i h
  ·exact λe=>_hg e.symm
 ·exact aC (Ga λi hi=>h2 i (by omega)).symm
theorem BA(l:List Int)(v:Int)(hl:Sh l):pU 141 [aq l,.int .i64 v] (.bool (decide (v∈l))):=by
 refine pO OY ?_;simp only[QC,aw]
 repeat' (first|refine zW ?_|apply a_n|refine zO ?_|refine vZ ?_|refine cZ ?_ (hp:=by exact Kb _ _ hl)|refine au rfl ?_|refine r1Z ?_|fail)
 refine dE ?_;unfold idx;split<;>simp_all
theorem Db(a:List Int)(ha:Sh a):pU 149 [aq a,aq a] (.int .i64 0):=by
 have:=wc a a ha ha
 rwa [eH] at this
theorem zP(a:List (List Int))(ha:Sh a)(hs:∀x∈a,Sh x):pU 150 [ay a,ay a] (.bool true):=by
 refine pO Pm ?_;simp only[PP,aw]
 repeat' (first|refine zW ?_|apply a_n|refine zO ?_|refine vZ ?_|(refine zGZ ?_ ?_<;>(intro _hg;try (exfalso;omega)))|fail)
 refine iq (X:=Nat) (λk=>[(0,ay a),(1,ay a),(5,.int .i64 k)]) (λk=>k<=a.length) (λk=>a.length-k) 0 (bo _) ag0 ?_;rintro k h1
 repeat' (first|refine zW ?_|refine zM ?_|apply a_n|apply a_x|refine zO ?_|refine vZ ?_|refine cZ ?_ (hp:=by exact Db _ (hs _ (ao (by omega))))|(refine zGZ ?_ ?_<;>(intro _hg;try (exfalso;omega)))|refine au rfl ?_|refine r1Z ?_|fail)
 ·refine⟨k+1,by omega,by omega,ag0,rfl,rfl⟩
 ·exact .bool _
theorem LG(t:TaskV)(h1:Sh t.cases)(h2:∀c∈t.cases,ShC c):pU 102 [gF t,gF t] (.bool true):=by
 refine pO PU ?_;simp only[PA,aw];have zz:=aI @BH (aI @aG (aI @aA @aJ));repeat' (first|refine zW ?_|apply a_n|refine zO ?_|refine vZ ?_|refine bxZ ?_|refine gTZ ?_|(refine zGZ ?_ ?_<;>(intro _hg;try (exfalso;omega)))|fail)
 refine bq (X:=Nat) (λk=>[(2,.ptr 0 4 0),(3,.ptr 1 4 0),(5,.int .i64 k)]) (λk H nx=>k<=t.cases.length/\2<=nx/\H 0=some [.int .i64 t.n,.int .i64 t.ins,.int .i64 t.outs,bw t.cases]/\H 1=some [.int .i64 t.n,.int .i64 t.ins,.int .i64 t.outs,bw t.cases]) (λk=>t.cases.length-k) 0 ⟨bo _,bc _,rfl,rfl⟩ (by simp (disch:=omega) only[agr,ZG,reduceEqDiff,↓reduceIte,ig,ss,reduceAdd,dt]) ?_;rintro k H nx ⟨hk,hn,g0,g1⟩;by_cases hj:k<t.cases.length
 ·obtain⟨s1,s2,s3,s4,s5⟩:=h2 _ (ao hj);clear zz;have zz:=aI @g0 (aI @g1 (aI @aG (aI @aA (aI @aJ @bL))));repeat' (first|refine zW ?_|apply a_n|refine zO ?_|refine vY ?_|refine cY ?_ (hp:=by first|exact Db _ s1|exact zP _ s2 s3|exact zP _ s4 s5)|refine alY ?_|refine stY ?_|refine gTY ?_|refine cFY ?_|(refine zGY ?_ ?_<;>(intro _hg;try (exfalso;omega)))|fail)
  refine⟨k+1,by omega,⟨by omega,by omega,?_,?_⟩,ag0⟩
  ·rw[ab (by omega),ab (by omega),ab (by omega),ab (by omega),g0]
  ·rw[ab (by omega),ab (by omega),ab (by omega),ab (by omega),g1]
 ·clear zz;have zz:=aI @g0 (aI @g1 (aI @aG (aI @aA (aI @aJ @bL))));repeat' (first|refine zW ?_|apply a_n|apply a_x|refine zO ?_|refine vY ?_|(refine zGY ?_ ?_<;>(intro _hg;try (exfalso;omega)))|refine au rfl ?_|refine r1Y ?_|fail)
  exact .bool _
theorem L8(l:List Int)(hl:l.length<=1000000):pU 105 [aq l,aq l] (.bool true):=by
 refine pO Qh ?_;simp only[PX,aw];refine wnZ @lk ?_;refine bq (X:=Nat) (λk=>[(0,aq l),(1,aq l),(5,.int .i64 k)]) (λk H nx=>k<=l.length) (λk=>l.length-k) 0 (bo _) ag0 ?_;intro k H nx hk;by_cases hk2:k<l.length
 ·refine wnZ @lk ?_;exact⟨k+1,by omega,by omega,ag0⟩
 ·refine wnZ @lk ?_;exact .bool _
theorem MJ(l:List RndV)(hl:l.length<=1000000):pU 104 [bB l,bB l] (.bool true):=by
 refine pO Oi ?_;simp only[Qr,aw];refine wnZ (aI @PE @lk) ?_;refine bq (X:=Nat) (λk=>[(0,bB l),(1,bB l),(5,.int .i64 k)]) (λk H nx=>k<=l.length) (λk=>l.length-k) 0 (bo _) ag0 ?_;intro k H nx hk;by_cases hk2:k<l.length
 ·have ix:=ixR hk2;rw[PC.1] at ix;refine wnZ (zI4 @PE @lk @EQ @ix) ?_;exact⟨k+1,by omega,by omega,ag0⟩
 ·refine wnZ (aI @PE @lk) ?_;exact .bool _
theorem Ol(a:AdvV)(ha:ShA a):pU 103 [ca a,ca a] (.bool true):=by
 refine pO N4 ?_;simp only[OB,aw];have h8:=ha.len;unfold ca;rw[PC.2.2.2.1];refine wnY (aI @PE @lk) ?_;refine bq (X:=Nat) (λk=>[(2,.ptr 0 2 0),(3,.ptr 1 2 0),(5,.int .i64 k)]) (λk H nx=>k<=a.states.length/\nx=2/\H 0=some [.int .i64 a.n,aQ a.states]/\H 1=some [.int .i64 a.n,aQ a.states]) (λk=>a.states.length-k) 0 ⟨bo _,rfl,by simp (disch:=omega) only[ab,ae],by simp (disch:=omega) only[ae]⟩ (by simp (disch:=omega) only[agr,ZG,reduceEqDiff,↓reduceIte,SL]) ?_;rintro k H nx ⟨hk,rfl,g0,g1⟩;by_cases hk2:k<a.states.length
 rotate_left
 ·refine wnY (zI4 @PE @lk @g0 @g1) ?_;exact .bool _
 have ix:=tz hk2;have hL:=ha.each _ (ao hk2);generalize a.states.getD k default=l at *;refine wnY (zI5 @PE @lk @g0 @g1 @ix) ?_;refine bq (X:=Nat) (λj=>[(2,.ptr 0 2 0),(3,.ptr 1 2 0),(5,.int .i64 k),(6,.int .i64 j)]) (λj H nx=>j<=l.length/\nx=2/\H 0=some [.int .i64 a.n,aQ a.states]/\H 1=some [.int .i64 a.n,aQ a.states]) (λj=>l.length-j) 0 ⟨bo _,rfl,g0,g1⟩ (by simp (disch:=omega) only[agr,ZG,reduceEqDiff,↓reduceIte,SL]) ?_;clear g0 g1;rintro j H nx ⟨hj,rfl,g0,g1⟩;by_cases hj2:j<l.length
 ·have ixm:=ixM hj2;rw[PC.2.2.1] at ixm;refine wnY (zI7 @PE @lk @EQ @g0 @g1 @ix @ixm) ?_;exact⟨j+1,by omega,⟨by omega,rfl,g0,g1⟩,by simp (disch:=omega) only[agr,ZG,reduceEqDiff,↓reduceIte,SL]⟩
 ·refine wnY (zI5 @PE @lk @g0 @g1 @ix) ?_;exact⟨k+1,by omega,⟨by omega,rfl,g0,g1⟩,by simp (disch:=omega) only[agr,ZG,reduceEqDiff,↓reduceIte,SL]⟩
theorem J0(n:Int)(vs:List VwV)(hl:vs.length<=1000000):pU 61 [.agg [.int .i64 n,cW vs],.agg [.int .i64 n,cW vs]] (.bool true):=by
 refine pO Rf ?_;simp only[b61,aw];refine wnY (aI @PE @lk) ?_;refine bq (X:=Nat) (λk=>[(2,.ptr 0 2 0),(3,.ptr 1 2 0),(5,.int .i64 k)]) (λk H nx=>k<=vs.length/\nx=2/\H 0=some [.int .i64 n,cW vs]/\H 1=some [.int .i64 n,cW vs]) (λk=>vs.length-k) 0 ⟨bo _,rfl,by simp (disch:=omega) only[ab,ae],by simp (disch:=omega) only[ae]⟩ (by simp (disch:=omega) only[agr,ZG,reduceEqDiff,↓reduceIte,SL]) ?_;rintro k H nx ⟨hk,rfl,g0,g1⟩;by_cases hk2:k<vs.length
 ·have ix:=ixW hk2;rw[PC.2.2.2.2.2.1] at ix;refine wnY (zI6 @PE @lk @EQ @g0 @g1 @ix) ?_;exact⟨k+1,by omega,⟨by omega,rfl,g0,g1⟩,by simp (disch:=omega) only[agr,ZG,reduceEqDiff,↓reduceIte,SL]⟩
 ·refine wnY (zI4 @PE @lk @g0 @g1) ?_;exact .bool _
theorem MZ{n R:Nat}(x:ExV)(hx:XOk n R x)(hn:n<=5)(hR:R<=6):pU 62 [iO x,iO x] (.bool true):=by
 refine pO Q3 ?_;simp only[b62,aw];have hw:=MJ x.word (by have:=hx.wl;omega);have hvl:=hx.vl;have hvr:=hx.vr;unfold iO;rw[PC.2.2.2.2.2.2.1];generalize x.word=w at *;generalize x.views=V at *;refine wnY (aI @PE @lk) ?_;refine bq (X:=Nat) (λk=>[(2,.ptr 0 3 0),(3,.ptr 1 3 0),(5,.int .i64 k)]) (λk H nx=>k<=V.length/\nx=2/\H 0=some [.int .i64 x.case,bB w,ay V]/\H 1=some [.int .i64 x.case,bB w,ay V]) (λk=>V.length-k) 0 ⟨bo _,rfl,by simp (disch:=omega) only[ab,ae],by simp (disch:=omega) only[ae]⟩ (by simp (disch:=omega) only[agr,ZG,reduceEqDiff,↓reduceIte,SL]) ?_;rintro k H nx ⟨hk,rfl,g0,g1⟩;by_cases hk2:k<V.length
 ·have hi:=L8 (V.getD k default) (by have:=(hvr _ (ao hk2)).1;omega);refine wkY (zI4 @PE @lk @g0 @g1) ?_;exact⟨k+1,by omega,⟨by omega,rfl,g0,g1⟩,by simp (disch:=omega) only[agr,ZG,reduceEqDiff,↓reduceIte,SL]⟩
 ·refine wnY (zI4 @PE @lk @g0 @g1) ?_;exact .bool _
theorem MM(p:PrbV)(h:OkP p):pU 60 [cf p,cf p] (.bool true):=by
 refine pO RH ?_;simp only[b60,aw];have ht:=LG p.task h.sh.t h.sh.c;have ha:=Ol p.adv h.sa;have d1:=fV p.task;have d2:=bI p.adv;unfold ca at ha d2;unfold gF at ht d1;unfold cf;rw[PC.2.2.2.1] at ha d2;rw[PC.2.2.2.2.1];refine wnY (aI @PE @lk) ?_;exact .bool _
theorem Qf(p:PrbV)(h:OkP p):pU 27 [fE (aZ p),fE (aZ p)] (.bool true):=by
 refine pO QS ?_;simp only[b27,aw];obtain⟨s1,s2,s3,s4⟩:=wh p h;obtain⟨hck,-,-,-,r6⟩:=cH h.e0;obtain⟨-,n5,-,-⟩:=dq hck;have hp:=MM p h;have d1:=e9 p;have hv:=J0 (aZ p).tn (aZ p).views (by omega);have hx:=λk hk=>MZ ((aZ p).execs.getD k default) (s4 _ (ao hk)) (by omega) (by omega);have hdx:=λk=>ul ((aZ p).execs.getD k default);have hpt:(aZ p).prob=p:=rfl;unfold fE;rw[PC.2.2.2.2.2.2.2,hpt];unfold cf at hp d1;rw[PC.2.2.2.2.1] at hp d1;unfold iO at hx hdx;generalize (aZ p).execs=xs at *;generalize (aZ p).views=vs at *;generalize (aZ p).tn=tn at *;have d2:Dat (.agg [.int .i64 tn,cW vs]):=Dat.agg (DatL.cons .int (DatL.cons (kG _) DatL.nil));refine wnY (aI @PE @lk) ?_;generalize hS:[AV.int .i64 p.task.n,AV.int .i64 p.task.ins,AV.int .i64 p.task.outs,bw p.task.cases,AV.int .i64 p.adv.n,aQ p.adv.states,AV.int .i64 p.rounds,AV.int .i64 tn,cW vs,fT xs]=S;have hSl:S.length=10:=by rw[<-hS];rfl
 refine bq (X:=Nat) (λk=>[(2,.ptr 0 10 0),(3,.ptr 1 10 0),(5,.int .i64 k)]) (λk H nx=>k<=xs.length/\nx=2/\H 0=some S/\H 1=some S) (λk=>xs.length-k) 0 ⟨bo _,rfl,by simp (disch:=omega) only[ab,ae],by simp (disch:=omega) only[ae]⟩ (by simp (disch:=omega) only[agr,ZG,reduceEqDiff,↓reduceIte,SL,hSl,dt]) ?_;rintro k H nx ⟨hk,rfl,g0,g1⟩;rw[<-hS] at g0 g1;by_cases hk2:k<xs.length
 ·have ix:=ixE hk2;have hxk:=hx k hk2;have hdk:=hdx k;rw[PC.2.2.2.2.2.2.1] at ix hxk hdk;refine wkY (zI5 @PE @lk @g0 @g1 @ix) ?_;rw[hS] at g0 g1;exact⟨k+1,by omega,⟨by omega,rfl,g0,g1⟩,by simp (disch:=omega) only[agr,ZG,reduceEqDiff,↓reduceIte,SL]⟩
 ·refine wnY (zI4 @PE @lk @g0 @g1) ?_;exact .bool _
theorem HG(p:PrbV)(h:OkP p):pU 9 [fE (aZ p)] (.int .i64 0):=by
 refine pO is9 ?_;simp only[b9,aw];have hb:=C3 p h;have hs:=Qf p h;have d1:=e9 p;have d2:=gU (aZ p);have hpt:(aZ p).prob=p:=rfl;unfold fE at hb hs d2 |-;rw[PC.2.2.2.2.2.2.2,hpt] at hb hs d2 |-;unfold cf at hb d1;rw[PC.2.2.2.2.1] at hb d1;refine wnY (aI @PE @lk) ?_;exact .int _ _
theorem HY{a:Nat}:tx (a:Int)=((a%2:Nat):Int):=by
 have h:(BitVec.ofInt 64 (a:Int) &&& BitVec.ofInt 64 1).toNat=a%2:=by
  rw[BitVec.toNat_and];have e:(BitVec.ofInt 64 1).toNat=2^1-1:=rfl;rw[e,Nat.and_two_pow_sub_one_eq_mod];simp[BitVec.toNat_ofInt]
 unfold tx;rw[h,jy (by omega) (by omega)]
theorem vn{T:Tm}{H:Hp}{b n off len sz q:Nat}{x i:Opd}(hx:ov T x=.ptr b n off)(hi:ov T i=.int .i64 (q:Int))(h:q<len):bv T H (.ixaA len sz x i)=some (.ptr b n (off+q*sz)):=by
 simp only[bv,hx,hi,nz];rw[if_pos ⟨by omega,by omega⟩];simp[jm]
theorem AU(n:Int):pU 87 [.int .i64 n] (.int .i64 (if n<1\/5<n then 2 else 0)):=by
 refine pO O5 ?_;simp only[b87,aw];by_cases h:n<1\/5<n
 ·rw[if_pos h]
  repeat' (first|refine zW ?_|apply a_n|apply a_r|refine zO ?_|refine vZ ?_|refine gTZ ?_|refine gFZ ?_|refine cTZ ?_|(refine zGZ ?_ ?_<;>(intro _hg;try (exfalso;omega)))|refine au rfl ?_|refine r1Z ?_|fail)
  all_goals exact aC rfl
 ·rw[if_neg h]
  repeat' (first|refine zW ?_|apply a_n|refine zO ?_|refine vZ ?_|refine gTZ ?_|(refine zGZ ?_ ?_<;>(intro _hg;try (exfalso;omega)))|refine au rfl ?_|refine r1Z ?_|fail)
  all_goals exact aC rfl
theorem gW(l:List Int)(hl:Sh l):pU 64 [aq l] (.int .i64 (be l)):=by
 have hl':l.length<=17592186044416:=hl;refine pO QU ?_;simp only[b64,aw];have hn:=AU l.length;by_cases h:l.length<1\/5<l.length
 ·have e:be l=2:=by unfold be;rw[if_pos h]
  rw[if_pos (by omega)] at hn;rw[e]
  repeat' (first|refine zW ?_|apply a_n|apply a_r|refine zO ?_|refine vZ ?_|refine cZ ?_ (hp:=hn)|(refine zGZ ?_ ?_<;>(intro _hg;try (exfalso;omega)))|refine au rfl ?_|refine r1Z ?_|fail)
  exact aC rfl
 rw[if_neg (by omega)] at hn;have e:be l=bU (vV l) l.length:=by unfold be;rw[if_neg h]
 rw[e]
 repeat' (first|refine zW ?_|apply a_n|refine zO ?_|refine vZ ?_|refine cZ ?_ (hp:=hn)|refine alZ ?_|(refine zGZ ?_ ?_<;>(intro _hg;try (exfalso;omega)))|fail)
 refine bq (X:=Nat) (λk=>[(0,aq l),(4,.ptr 0 5 0),(13,aq l),(14,.int .i64 l.length),(15,.int .i64 k)]) (λk H nx=>k<=l.length/\H=av aP 0 ((oH l k).map AV.bool)/\nx=1/\∀i,i<k->vV l i=0) (λk=>l.length-k) 0 ⟨bo _,rfl,rfl,λi hi=>absurd hi (by omega)⟩ (by simp (disch:=omega) only[agr,ZG,reduceEqDiff,↓reduceIte,ig,ss,dt,reduceAdd]) ?_;rintro k H nx ⟨hk,rfl,rfl,hz⟩;by_cases hk2:k<l.length
 rotate_left
 ·repeat' (first|refine zW ?_|apply a_n|apply a_x|refine zO ?_|refine vZ ?_|(refine zGZ ?_ ?_<;>(intro _hg;try (exfalso;omega)))|refine au rfl ?_|refine r1Z ?_|fail)
  refine aC ?_;rw[bV λi hi=>hz i (by omega)]
 have ho:vV l k=if l.getD k default<0\/(l.length:Int)<=l.getD k default then 2 else if (l.take k).any (λx=>decide (x=l.getD k default)) then 7 else 0:=rfl
 by_cases hr:l.getD k default<0\/(l.length:Int)<=l.getD k default
 ·rw[if_pos hr] at ho
  repeat' (first|refine zW ?_|apply a_n|apply a_r|refine zO ?_|refine vZ ?_|refine gTZ ?_|refine gFZ ?_|refine cTZ ?_|(refine zGZ ?_ ?_<;>(intro _hg;try (exfalso;omega)))|refine au rfl ?_|refine r1Z ?_|fail)
  all_goals (refine aC ?_;rw[dD hk2 hz (by rw[ho];decide),ho])
 rw[if_neg hr] at ho;obtain⟨q,hq⟩:∃q:Nat,l.getD k default=q:=⟨(l.getD k default).toNat,by omega⟩
 have hq5:q<5:=by omega
 have hsb:=Ej (l:=l) (k:=k) hq5;have hsl:=xI l k;have hss:=Fm hk2 hq;rw[hq] at ho hr
 have hge:((oH l k).map AV.bool)[q]?=some (.bool ((l.take k).any λx=>decide (x=(q:Int)))):=by
  rw[<-hsb,getElem?_map_lt (by omega)]
 have hla:=xI l k;cases hb:(l.take k).any (λx=>decide (x=(q:Int)))
 ·rw[hb] at hge ho;rw[if_neg (by decide)] at ho;have hlm:=gk (f:=AV.bool) (l:=oH l k) (k:=q) (x:=true) (by omega);have hlm2:=hlm;simp only[cI,ig,ss,dt] at hlm2;have zz:=@hq;repeat' (first|refine zW ?_|apply a_n|refine zO ?_|refine vZ ?_|refine gTZ ?_|(refine zGZ ?_ ?_<;>(intro _hg;try (exfalso;omega)))|fail)
  refine Az rfl rfl (vn ev0 (have zz:=@hq;evZ) hq5) ?_;clear zz;have zz:=aI @hq @hge;repeat' (first|apply a_n|refine zO ?_|refine vZ ?_|refine cFZ ?_|fail)
  refine Az rfl rfl (vn ev0 (have zz:=@hq;evZ) hq5) ?_;clear zz;have zz:=@hq;repeat' (first|apply a_n|refine zO ?_|refine vZ ?_|refine stZ ?_|fail)
  exact ⟨k + 1,by omega,⟨by omega,by rw [jg,Nat.mul_one,hlm,hss],rfl,fun i hi=>by
   rcases lL.1 hi with h|rfl
   ·exact hz i h
   ·exact ho⟩,ag0⟩
 ·rw[hb] at hge ho;rw[if_pos rfl] at ho;have zz:=@hq;repeat' (first|refine zW ?_|apply a_n|refine zO ?_|refine vZ ?_|refine gTZ ?_|(refine zGZ ?_ ?_<;>(intro _hg;try (exfalso;omega)))|fail)
  refine Az rfl rfl (vn ev0 (have zz:=@hq;evZ) hq5) ?_;clear zz;have zz:=aI @hq @hge;repeat' (first|refine zW ?_|apply a_n|apply a_r|refine zO ?_|refine vZ ?_|refine cTZ ?_|refine au rfl ?_|refine r1Z ?_|fail)
  refine aC ?_;rw[dD hk2 hz (by rw[ho];decide),ho]
theorem xC(v p:List Int)(hp:be p=0)(hl:v.length=p.length):pU 142 [aq p,aq v] (.tup [aq (bX v p),.int .i64 0]):=by
 obtain⟨p1,p2,p3,p4⟩:=cC hp;have hc:=gW p (show p.length<=_ by omega);rw[hp] at hc;have hlv:decide ((v.length:Int)=(p.length:Int))=true:=bR (by omega)
 have hz:bd (.agg [.int .i64 0]) v.length=(mvK v p 0).map (AV.int .i64):=by
  simp[bd,mvK,AV.cells]
 refine pO Nu ?_;simp only[Oe,aw];have zz:=@hlv;repeat' (first|refine zW ?_|apply a_n|refine zO ?_|refine vZ ?_|refine cZ ?_ (hp:=hc)|(refine zGZ ?_ ?_<;>(intro _hg;try (exfalso;omega)))|fail)
 refine nj rfl ev0 ev0 (by omega) (by omega) (by omega) (by omega) ?_;rw[c9,hz]
 repeat' (first|refine zW ?_|apply a_n|refine zO ?_|refine vZ ?_|fail)
 refine bq (X:=Nat) (λk=>[(0,aq p),(1,aq v),(7,.msl 0 v.length 1 0 v.length),(23,aq p),(24,.int .i64 p.length),(25,.int .i64 k)]) (λk H nx=>k<=p.length/\H=av aP 0 ((mvK v p k).map (AV.int .i64))/\nx=1) (λk=>p.length-k) 0 ⟨bo _,rfl,rfl⟩ (by simp (disch:=omega) only[agr,ZG,reduceEqDiff,↓reduceIte,Nat.mul_one]) ?_;rintro k H nx ⟨hk,rfl,rfl⟩;have hml:=pc v p k;by_cases hk2:k<p.length
 ·have hr:=p3 k hk2;have hlm:=gk (f:=AV.int .i64) (l:=mvK v p k) (k:=(p.getD k default).toNat) (x:=v.getD k default) (by omega)
  repeat' (first|refine zW ?_|apply a_n|refine zO ?_|refine vZ ?_|refine stZ ?_|(refine zGZ ?_ ?_<;>(intro _hg;try (exfalso;omega)))|fail)
  exact⟨k+1,by omega,⟨by omega,by rw[jg,hlm];rfl,rfl⟩,ag0⟩
 ·obtain rfl:k=p.length:=by omega
  repeat' (first|refine zW ?_|apply a_n|apply a_x|refine zO ?_|refine vZ ?_|(refine zGZ ?_ ?_<;>(intro _hg;try (exfalso;omega)))|refine au rfl ?_|refine r2Z ?_|fail)
  rw[show bX v p=mvK v p p.length by unfold bX;rw[hl]];exact bE (ac (oU ae rfl (by rw[pc])) (ac (.int _ _) al))
def dj(l:List (List Int))(p:List Int):List (List Int):=Lb (l.map λv=>bX v p)
theorem yx(l:List (List Int))(p:List Int)(hp:be p=0)(hl:l.length<=100000)(hv:∀v∈l,v.length=p.length):pU 89 [ay l,aq p] (ay (dj l p)):=by
 refine pO RQ ?_;simp only[b89,aw];have hp5:=(cC hp).2.1
 repeat' (first|refine zW ?_|apply a_n|refine zO ?_|refine vZ ?_|fail)
 refine bq (X:=AV×Nat) (λx=>[(1,aq p),(5,x.1),(10,ay l),(11,.int .i64 l.length),(12,.int .i64 x.2)]) (λx H nx=>x.2<=l.length/\Row H 1 x.1 (((l.take x.2).map λv=>bX v p).map aq)/\(∀b,bk x.1=some b->b<nx)/\(x.2=0->x.1=.esl)) (λx=>l.length-x.2) (.esl,0) ⟨bo _,Row.nil,λb hb=>(by cases hb),λ_=>rfl⟩ ag0 ?_;rintro⟨s,j⟩ H nx ⟨h1,h2,h3,h4⟩;dsimp only at h1 h2 h3 h4 |-;by_cases hj:j<l.length
 ·have hw:=ao hj;have hvc:=xC (l.getD j default) p hp (hv _ hw)
  repeat' (first|refine zW ?_|apply a_n|refine zO ?_|refine vZ ?_|refine cZ ?_ (hp:=hvc)|refine blZ ?_|(refine zGZ ?_ ?_<;>(intro _hg;try (exfalso;omega)))|fail)
  refine dY rfl ev0 (h2.same λb hb=>?_) ev0 vq rfl rfl jf (by simp;omega) (by simp;omega) ?_
  ·have:=h3 b hb;rw[ab (by omega)]
  rintro s2 E e hrow hle1 hle2 hsame hb2
  repeat' (first|apply a_n|refine zO ?_|refine vZ ?_|fail)
  refine⟨(s2,j+1),by dsimp only;omega,⟨by dsimp only;omega,?_,λb hb=>?_,λh=>absurd h (Nat.succ_ne_zero _)⟩,ag0⟩
  ·dsimp only;rw[gZ hj,dp,dp];exact hrow
  ·rcases hb2 b hb with h|h
   ·have:=h3 b h;omega
   ·omega
 ·rw[ju (by omega)] at h2;unfold dj;generalize hL:(l.map λv=>bX v p)=L at h2 |-;have hLl:L.length=l.length:=by rw[<-hL,bi]
  have hLs:∀x∈L,Sh x:=λx hx=>by
   rw[<-hL] at hx;obtain⟨v,hv2,rfl⟩:=cE.1 hx;show(bX v p).length<=_;rw[bN,hv v hv2];omega
  rcases Nat.eq_zero_or_pos L.length with h0|h0
  ·have e:=fP.1 h0;subst e;obtain rfl:s=.esl:=h4 (by simp at hLl;omega)
   repeat' (first|refine zW ?_|apply a_n|apply a_x|refine zO ?_|refine vZ ?_|(refine zGZ ?_ ?_<;>(intro _hg;try (exfalso;omega)))|fail)
   refine ce ev0 ev0 JI ?_;rintro _ _ _ ⟨rfl,rfl⟩
   repeat' (first|refine zW ?_|apply a_n|refine zO ?_|refine vZ ?_|refine au rfl ?_|refine r1Z ?_|fail)
   exact .eslsl 1
  have hrow:∃B,s=.msl B L.length 1 0 L.length/\H B=some (L.map aq)/\B<nx:=by
   generalize hcs:L.map aq=cs at h2;cases h2 with
   |nil=>
    rw[List.map_eq_nil_iff] at hcs;rw[hcs] at h0;exact absurd h0 (Nat.lt_irrefl _)
   |box B len cs hb hl2=>
    have e:len=L.length:=by rw[<-hcs,bi] at hl2;omega
    subst e;exact⟨B,by rw[Nat.mul_one],hb,h3 B rfl⟩
  obtain⟨B,rfl,hB,hBn⟩:=hrow
  repeat' (first|refine zW ?_|apply a_n|apply a_x|refine zO ?_|refine vZ ?_|(refine zGZ ?_ ?_<;>(intro _hg;try (exfalso;omega)))|fail)
  refine ce ev0 ev0 (Dh PB hB hBn rfl h0 hLs (by omega)) ?_;rintro _ H1 n1 ⟨M,hps,hpM,hsM⟩;have hMl:M.length=L.length:=hpM.length_eq;have hM:M=Lb L:=i5 pA (λx _ y _=>kK) (dC.of (by rw[hMl];exact hsM)) hpM
  repeat' (first|refine zW ?_|apply a_n|refine zO ?_|refine vZ ?_|refine au rfl ?_|refine r1Z ?_|fail)
  rw[<-hM];exact Eo hps.at_ rfl hMl
end
def KC(c d:CaseV):Int:=aD c.inp d.inp
def iv(p:List Int)(c:CaseV):CaseV:=⟨bX c.inp p,dj c.out p,dj c.calm p⟩
def d7(t:TaskV)(p:List Int):TaskV:=⟨t.n,t.ins,t.outs,kL KC (t.cases.map (iv p))⟩
def fR(t:TaskV)(p:List Int):TaskV×Int:=if ba t≠0 then(T00,ba t) else if be p≠0 then(T00,be p) else if (p.length:Int)≠t.n then(T00,22) else(d7 t p,0)
theorem KE:Ord KC where
 irr x:=pA.irr x.inp
 asym x y:=pA.asym x.inp y.inp
 negtr x y z:=pA.negtr x.inp y.inp z.inp
theorem Fw(v p:List Int):dj [v] p=[bX v p]:=rfl
theorem yl{t:TaskV}{k:Nat}(h:ba t=0)(hk:k<t.cases.length):((t.cases.getD k default).inp.length:Int)=t.n:=by
 have:=(oZ ((jP h).2.2 k hk).1).1;exact this
def ui(b1:Nat)(c1:List AV)(b2:Nat)(c2:List AV):Hp:=λb=>if b=b1 then some c1 else if b=b2 then some c2 else none
theorem wW{H:Hp}{b1 b2:Nat}{c1 c2:List AV}(h1:H b1=some c1)(h2:H b2=some c2):Sub (ui b1 c1 b2 c2) H:=λx c hx=>by
 unfold ui at hx;split at hx
 ·cases hx;subst_vars;exact h1
 ·split at hx<;>cases hx
  subst_vars;exact h2
def inV(l:List (List Int))(p v:Nat):Bool:=l.any λw=>decide (w.getD p default=(v:Int))
def vals(l:List (List Int))(p o:Nat):List Int:=((List.range o).filter (inV l p)).map Int.ofNat
section
attribute [local irreducible] aF ai bj aY aN aM ax aS a8 bm Go.Abs.Fn aX Go.Abs.Pure ap aK Yl
theorem B5(x y:CaseV)(hx:ShC x)(hy:ShC y):pU 91 [fF x,fF y] (.int .i64 (KC x y)):=by
 refine pO R8 ?_;simp only[b91,aw];have hc:=pb x.inp y.inp hx.1 hy.1;unfold fF KC
 repeat' (first|refine zW ?_|apply a_n|refine zO ?_|refine vZ ?_|refine cZ ?_ (hp:=hc)|refine bxZ ?_|refine au rfl ?_|refine r1Z ?_|fail)
 exact aC rfl
theorem Rr:Cmp3 Tryz.prog fF KC ShC 91 [] where
 len _:=rfl
 agg _:=rfl
 ones _:=rfl
 dat v:=um v
 dcaps:=by simp
 run x y hx hy:=B5 x y hx hy
 ord:=KE
theorem CF{H:Hp}{B n:Nat}{M:List CaseV}(hB:H B=some (M.c3 fF))(hM:M.length=n):Snap H (.msl B (n*3) 3 0 n) (bw M):=by
 subst hM;refine Row.snap (elems:=M.map fF) ?_ (λy hy=>?_) (by omega) (λy hy c hc=>?_)
 ·rw[List.flatMap_map];exact .box B M.length _ hB (Cz (λ_=>rfl) M)
 ·obtain⟨x,_,rfl⟩:=cE.1 hy;rfl
 ·obtain⟨x,_,rfl⟩:=cE.1 hy;simp only[fF,AV.cells,gR,List.not_mem_nil,or_false] at hc;rcases hc with rfl|rfl|rfl
  ·exact bP _
  ·exact bS _
  ·exact bS _
theorem FR(t:TaskV)(p:List Int)(hs:∀c∈t.cases,ShC c)(hsc:Sh t.cases)(hq:∀c∈t.cases,c.out.length<=100000/\c.calm.length<=100000)(hl:Sh p):pU 56 [gF t,aq p] (.tup [gF (fR t p).1,.int .i64 (fR t p).2]):=by
 refine pO Sf ?_;simp only[b56,aw];have hl':p.length<=17592186044416:=hl;have hsc':t.cases.length<=17592186044416:=hsc;have hc:=tL t hs hsc;have hpc:=gW p hl;have d2:=fV t;by_cases he:ba t=0
 rotate_left
 ·have e:fR t p=(T00,ba t):=by unfold fR;rw[if_pos he]
  rw[e];generalize ba t=C at *;unfold gF at hc d2;rw[show gF t=.agg [.int .i64 t.n,.int .i64 t.ins,.int .i64 t.outs,bw t.cases] from rfl];have zz:=aI @aG (aI @aA @aJ);repeat' (first|refine zW ?_|apply a_n|apply a_r|refine zO ?_|refine vZ ?_|refine cZ ?_ (hp:=hc)|refine alZ ?_|refine bxZ ?_|refine stZ ?_|(refine zGZ ?_ ?_<;>(intro _hg;try (exfalso;omega)))|refine au rfl ?_|refine r2Z ?_|fail)
  exact yc _
 rw[he] at hc;by_cases hp:be p=0
 rotate_left
 ·have e:fR t p=(T00,be p):=by unfold fR;rw[if_neg (λh=>h he),if_pos hp]
  rw[e];generalize be p=C at *;unfold gF at hc d2;rw[show gF t=.agg [.int .i64 t.n,.int .i64 t.ins,.int .i64 t.outs,bw t.cases] from rfl];have zz:=aI @aG (aI @aA @aJ);repeat' (first|refine zW ?_|apply a_n|apply a_r|refine zO ?_|refine vZ ?_|refine cZ ?_ (hp:=by first|exact hc|exact hpc)|refine alZ ?_|refine bxZ ?_|refine stZ ?_|(refine zGZ ?_ ?_<;>(intro _hg;try (exfalso;omega)))|refine au rfl ?_|refine r2Z ?_|fail)
  exact yc _
 rw[hp] at hpc;by_cases hn:(p.length:Int)≠t.n
 ·have e:fR t p=(T00,22):=by unfold fR;rw[if_neg (λh=>h he),if_neg (λh=>h hp),if_pos hn]
  rw[e];have z:decide ((p.length:Int)=t.n)=false:=bJ hn;unfold gF at hc d2;rw[show gF t=.agg [.int .i64 t.n,.int .i64 t.ins,.int .i64 t.outs,bw t.cases] from rfl];have zz:=aI @aG (aI @aA (aI @aJ @z));repeat' (first|refine zW ?_|apply a_n|apply a_r|refine zO ?_|refine vZ ?_|refine cZ ?_ (hp:=by first|exact hc|exact hpc)|refine alZ ?_|refine bxZ ?_|refine stZ ?_|(refine zGZ ?_ ?_<;>(intro _hg;try (exfalso;omega)))|refine au rfl ?_|refine r2Z ?_|fail)
  exact yc _
 have e:fR t p=(d7 t p,0):=by unfold fR;rw[if_neg (λh=>h he),if_neg (λh=>h hp),if_neg hn]
 rw[e];have hn:(p.length:Int)=t.n:=EK hn;obtain⟨p1,p5,-,-⟩:=cC hp;have z:decide ((p.length:Int)=t.n)=true:=bR hn;have hcl:=(jP he).2.1
 have hren:∀k,k<t.cases.length->(t.cases.getD k default).inp.length=p.length/\(∀v∈(t.cases.getD k default).out,v.length=p.length)/\(∀v∈(t.cases.getD k default).calm,v.length=p.length):=λk hk=>by
  have h1:=yl he hk;obtain⟨_,h2,h3⟩:=xB he hk;exact⟨by omega,λv hv=>by have:=(h2 v hv).1;omega,λv hv=>by have:=(h2 v (h3 v hv)).1;omega⟩
 generalize hA:[.int .i64 t.n,.int .i64 t.ins,.int .i64 t.outs,bw t.cases]=A;have hTA:gF t=.agg A:=by rw[<-hA];rfl
 rw[hTA] at hc d2 |-;refine eN (λT H nx=>T 1=aq p/\T 2=.ptr 0 4 0/\T 4=.ptr 1 4 0/\T 5=.int .i64 0/\H=av (av aP 0 A) 1 [.int .i64 0,.int .i64 0,.int .i64 0,.esl]/\nx=2) ?_ ?_
 ·subst hA;have zz:=aI @aG @aA;repeat' (first|apply a_n|refine zO ?_|refine vZ ?_|refine alZ ?_|refine bxZ ?_|fail)
  exact⟨rfl,rfl,rfl,rfl,rfl,rfl⟩
 rintro T H nx ⟨t1,t2,t4,t5,rfl,rfl⟩;refine eN (λT H nx=>T 1=aq p/\T 2=.ptr 0 4 0/\T 4=.ptr 1 4 0/\T 5=.int .i64 0/\H=av (av aP 0 A) 1 [.int .i64 0,.int .i64 0,.int .i64 0,.esl]/\nx=2) ?_ ?_
 ·subst hA;have zz:=aI @t1 (aI @t2 (aI @t4 @t5));repeat' (first|refine zW ?_|apply a_n|refine zO ?_|refine vZ ?_|refine cZ ?_ (hp:=hc)|(refine zGZ ?_ ?_<;>(intro _hg;try (exfalso;omega)))|fail)
  exact⟨(by((try simp only[bg,ZA,reduceEqDiff,↓reduceIte,reduceAdd,reduceLeDiff,t1,t2,t4,t5]);(try with_reducible rfl))),(by((try simp only[bg,ZA,reduceEqDiff,↓reduceIte,reduceAdd,reduceLeDiff,t1,t2,t4,t5]);(try with_reducible rfl))),(by((try simp only[bg,ZA,reduceEqDiff,↓reduceIte,reduceAdd,reduceLeDiff,t1,t2,t4,t5]);(try with_reducible rfl))),(by((try simp only[bg,ZA,reduceEqDiff,↓reduceIte,reduceAdd,reduceLeDiff,t1,t2,t4,t5]);(try with_reducible rfl))),rfl,rfl⟩
 clear t1 t2 t4 t5;rintro T H nx ⟨t1,t2,t4,t5,rfl,rfl⟩;refine eN (λT H nx=>T 1=aq p/\T 2=.ptr 0 4 0/\T 4=.ptr 1 4 0/\T 5=.int .i64 0/\H=av (av aP 0 A) 1 [.int .i64 0,.int .i64 0,.int .i64 0,.esl]/\nx=2) ?_ ?_
 ·have zz:=aI @t1 (aI @t2 (aI @t4 @t5));repeat' (first|refine zW ?_|apply a_n|refine zO ?_|refine vZ ?_|refine cZ ?_ (hp:=hpc)|(refine zGZ ?_ ?_<;>(intro _hg;try (exfalso;omega)))|fail)
  exact⟨(by((try simp only[bg,ZA,reduceEqDiff,↓reduceIte,reduceAdd,reduceLeDiff,t1,t2,t4,t5]);(try with_reducible rfl))),(by((try simp only[bg,ZA,reduceEqDiff,↓reduceIte,reduceAdd,reduceLeDiff,t1,t2,t4,t5]);(try with_reducible rfl))),(by((try simp only[bg,ZA,reduceEqDiff,↓reduceIte,reduceAdd,reduceLeDiff,t1,t2,t4,t5]);(try with_reducible rfl))),(by((try simp only[bg,ZA,reduceEqDiff,↓reduceIte,reduceAdd,reduceLeDiff,t1,t2,t4,t5]);(try with_reducible rfl))),rfl,rfl⟩
 clear t1 t2 t4 t5;rintro T H nx ⟨t1,t2,t4,t5,rfl,rfl⟩;refine eN (λT H nx=>T 1=aq p/\T 2=.ptr 0 4 0/\T 4=.ptr 1 4 0/\T 5=.int .i64 0/\H=av (av aP 0 A) 1 [.int .i64 0,.int .i64 0,.int .i64 0,.esl]/\nx=2) ?_ ?_
 ·subst hA;have zz:=aI @t1 (aI @t2 (aI @t4 (aI @t5 @z)));repeat' (first|refine zW ?_|apply a_n|refine zO ?_|refine vZ ?_|(refine zGZ ?_ ?_<;>(intro _hg;try (exfalso;omega)))|fail)
  exact⟨(by((try simp only[bg,ZA,reduceEqDiff,↓reduceIte,reduceAdd,reduceLeDiff,t1,t2,t4,t5]);(try with_reducible rfl))),(by((try simp only[bg,ZA,reduceEqDiff,↓reduceIte,reduceAdd,reduceLeDiff,t1,t2,t4,t5]);(try with_reducible rfl))),(by((try simp only[bg,ZA,reduceEqDiff,↓reduceIte,reduceAdd,reduceLeDiff,t1,t2,t4,t5]);(try with_reducible rfl))),(by((try simp only[bg,ZA,reduceEqDiff,↓reduceIte,reduceAdd,reduceLeDiff,t1,t2,t4,t5]);(try with_reducible rfl))),rfl,rfl⟩
 clear t1 t2 t4 t5;rintro T H nx ⟨t1,t2,t4,t5,rfl,rfl⟩;refine eN (λT H nx=>T 1=aq p/\T 2=.ptr 0 4 0/\T 4=.ptr 1 4 0/\T 8=.ptr 2 4 0/\H 0=some A/\H 1=some [.int .i64 0,.int .i64 0,.int .i64 0,.esl]/\H 2=some [.int .i64 t.n,.int .i64 t.ins,.int .i64 t.outs,.esl]/\nx=3) ?_ ?_
 ·subst hA;have zz:=aI @t1 (aI @t2 (aI @t4 @t5));repeat' (first|apply a_n|refine zO ?_|refine vZ ?_|refine alZ ?_|refine stZ ?_|fail)
  exact⟨(by((try simp only[bg,ZA,reduceEqDiff,↓reduceIte,reduceAdd,reduceLeDiff,t1,t2,t4,t5]);(try with_reducible rfl))),(by((try simp only[bg,ZA,reduceEqDiff,↓reduceIte,reduceAdd,reduceLeDiff,t1,t2,t4,t5]);(try with_reducible rfl))),(by((try simp only[bg,ZA,reduceEqDiff,↓reduceIte,reduceAdd,reduceLeDiff,t1,t2,t4,t5]);(try with_reducible rfl))),(by((try simp only[bg,ZA,reduceEqDiff,↓reduceIte,reduceAdd,reduceLeDiff,t1,t2,t4,t5]);(try with_reducible rfl))),rfl,rfl,rfl,rfl⟩
 clear t1 t2 t4 t5;rintro T H nx ⟨t1,t2,t4,t8,g0,g1,g2,rfl⟩;generalize hL:t.cases.map (iv p)=L;have hLl:L.length=t.cases.length:=by rw[<-hL,bi]
 refine eN (λT H nx=>T 4=.ptr 1 4 0/\T 8=.ptr 2 4 0/\3<=nx/\H 1=some [.int .i64 0,.int .i64 0,.int .i64 0,.esl]/\∃sv,H 2=some [.int .i64 t.n,.int .i64 t.ins,.int .i64 t.outs,sv]/\Row H 3 sv (L.c3 fF)/\∀b,bk sv=some b->3<=b/\b<nx) ?_ ?_
 ·subst hA;have zz:=aI @t2 (aI @g0 @aJ);repeat' (first|refine zW ?_|apply a_n|refine zO ?_|refine vY ?_|fail)
  refine bq (X:=AV×Nat) (λx=>[(1,aq p),(2,.ptr 0 4 0),(4,.ptr 1 4 0),(8,.ptr 2 4 0),(37,bw t.cases),(38,.int .i64 t.cases.length),(39,.int .i64 x.2)]) (λx H nx=>x.2<=t.cases.length/\3<=nx/\H 1=some [.int .i64 0,.int .i64 0,.int .i64 0,.esl]/\H 2=some [.int .i64 t.n,.int .i64 t.ins,.int .i64 t.outs,x.1]/\Row H 3 x.1 (((t.cases.take x.2).map (iv p)).c3 fF)/\∀b,bk x.1=some b->3<=b/\b<nx) (λx=>t.cases.length-x.2) (.esl,0) ⟨bo _,bc _,g1,g2,Row.nil,λb hb=>(by cases hb)⟩ (have zz:=aI @t1 (aI @t2 (aI @t4 @t8));agZ) ?_;rintro⟨sv,k⟩ H nx ⟨hk,hnx,k1,k2,hrow,hb⟩;dsimp only at hk k2 hrow hb |-;by_cases hk2:k<t.cases.length
  rotate_left
  ·rw[ju (by omega),hL] at hrow
   repeat' (first|refine zW ?_|apply a_n|apply a_x|refine zO ?_|refine vZ ?_|(refine zGZ ?_ ?_<;>(intro _hg;try (exfalso;omega)))|fail)
   exact⟨rfl,rfl,hnx,k1,sv,k2,hrow,hb⟩
  have ix:=bL hk2;obtain⟨r1,r2,r3⟩:=hren k hk2;obtain⟨q1,q2⟩:=hq _ (ao hk2)
  have hst:((t.cases.take (k+1)).map (iv p)).c3 fF=((t.cases.take k).map (iv p)).c3 fF++(fF (iv p (t.cases.getD k default))).cells:=by
   rw[gZ hk2,dp];simp[List.c3]
  have hlen:(((t.cases.take k).map (iv p)).c3 fF).length=k*3:=by
   rw[Cz (λ_=>rfl),bi,iX];omega
  generalize t.cases.getD k default=c at *;obtain⟨inp,out,calm⟩:=c;dsimp only at *;have m1:=yx [inp] p hp (by simp) (λv hv=>by simp at hv;subst hv;exact r1);rw[Fw] at m1;have m2:=yx out p hp q1 r2;have m3:=yx calm p hp q2 r3;clear zz;have zz:=@ix;repeat' (first|refine zW ?_|apply a_n|refine zO ?_|refine vY ?_|refine alY ?_|refine stY ?_|(refine zGY ?_ ?_<;>(intro _hg;try (exfalso;omega)))|fail)
  refine fg (ui 2 [.int .i64 t.n,.int .i64 t.ins,.int .i64 t.outs,sv] nx [aq inp,ay out,ay calm]) rfl (wW (by rw[ab (by omega),ab (by omega)];exact k2) (by rw[ae];rfl)) ?_;have hS2:ui 2 [.int .i64 t.n,.int .i64 t.ins,.int .i64 t.outs,sv] nx [aq inp,ay out,ay calm] 2=some [.int .i64 t.n,.int .i64 t.ins,.int .i64 t.outs,sv]:=if_pos rfl;have hSn:ui 2 [.int .i64 t.n,.int .i64 t.ins,.int .i64 t.outs,sv] nx [aq inp,ay out,ay calm] nx=some [aq inp,ay out,ay calm]:=by unfold ui;rw[if_neg (by omega),if_pos rfl]
  generalize hSS:ui 2 [.int .i64 t.n,.int .i64 t.ins,.int .i64 t.outs,sv] nx [aq inp,ay out,ay calm]=S at hS2 hSn |-;have hSub:∀H',H' 2=some [.int .i64 t.n,.int .i64 t.ins,.int .i64 t.outs,sv]->H' nx=some [aq inp,ay out,ay calm]->Sub S H':=λH' a1 a2=>by rw[<-hSS];exact wW a1 a2
  have hB2:av (av H nx [.esl,.esl,.esl]) nx (cI [.esl,.esl,.esl] 0 [aq inp,ay out,ay calm]) 2=some [.int .i64 t.n,.int .i64 t.ins,.int .i64 t.outs,sv]:=by rw[ab (by omega),ab (by omega)];exact k2
  have hBn:av (av H nx [.esl,.esl,.esl]) nx (cI [.esl,.esl,.esl] 0 [aq inp,ay out,ay calm]) nx=some [aq inp,ay out,ay calm]:=by rw[ae];rfl
  clear zz;have zz:=aI @hS2 @hSn;repeat' (first|apply a_n|refine zO ?_|refine nvY ?_|fail)
  refine KZ (pv:=[(0,1,aq inp)]) (cs:=[aq inp]) ev0 rfl (by decide) rfl rfl ?_;clear zz;have zz:=aI @hS2 @hSn;repeat' (first|apply a_n|refine zO ?_|refine nvY ?_|fail)
  refine dz ?_;refine eJ ev0 (by((try simp only[bg,ZA,reduceEqDiff,↓reduceIte,reduceAdd,reduceLeDiff]);(try with_reducible rfl));rfl) m1 (bC (ac (bS [inp] _) (ac (bP _ _) al))) ?_;refine iE ⟨hSub _ hB2 hBn,?_⟩;have ix1:eo 1 (ay [bX inp p]) (.int .i64 0)=some (.iptr [aq (bX inp p)] 0):=rfl;clear zz;have zz:=aI @hS2 (aI @hSn @ix1);repeat' (first|apply a_n|refine zO ?_|refine nvY ?_|fail)
  refine dz ?_;refine eJ ev0 ev0 m2 (bC (ac (bS _ _) (ac (bP _ _) al))) ?_;refine iE ⟨hSub _ hB2 hBn,?_⟩;refine dz ?_;refine eJ ev0 ev0 m3 (bC (ac (bS _ _) (ac (bP _ _) al))) ?_;refine iE ⟨hSub _ hB2 hBn,?_⟩;clear zz;have zz:=aI @hS2 @hSn;repeat' (first|apply a_n|refine zO ?_|refine nvY ?_|fail)
  refine dz ?_
  repeat' (first|apply a_n|refine zO ?_|refine blY ?_|fail)
  refine⟨hSub _ (by rw[ab (by omega)];exact hB2) (by rw[ab (by omega)];exact hBn),?_⟩;clear zz;have zz:=aI @hS2 @hSn;repeat' (first|apply a_n|refine zO ?_|apply fm|fail)
  refine dY rfl ev0 (hrow.same λb' hb'=>?_) ev0 CA rfl rfl (by omega) (by rw[hlen];omega) (by rw[hlen];omega) ?_
  ·have:=hb b' hb';rw[ab (by omega),ab (by omega),ab (by omega)]
  rintro sv' H2 nx2 u1 u2 u3 u4 u5;have v1:∀x,x<nx->bk sv≠some x->H2 x=H x:=λx a1 a2=>(u4 x (by omega) a2).trans (by rw[ab (by omega),ab (by omega),ab (by omega)]);have g2':H2 2=some [.int .i64 t.n,.int .i64 t.ins,.int .i64 t.outs,sv]:=(v1 2 (by omega) (λh=>by have:=hb 2 h;omega)).trans k2;obtain⟨q1',q2'⟩:=u1.one
  have ub:∀b',bk sv'=some b'->3<=b'/\b'<nx2:=λb' hb'=>by
   rcases u5 b' hb' with e|⟨e1,e2⟩
   ·have:=hb b' e;omega
   ·omega
  clear zz;have zz:=aI @hS2 (aI @hSn (aI @g2' (aI @q1' @q2')));repeat' (first|apply a_n|refine zO ?_|refine vY ?_|refine nvY ?_|apply fm|refine stY ?_|fail)
  refine⟨(sv',k+1),by dsimp only;omega,⟨by dsimp only;omega,by omega,?_,?_,?_,λb' hb'=>ub b' hb'⟩,ag0⟩
  ·rw[ab (by omega)];exact(v1 1 (by omega) (λh=>by have:=hb 1 h;omega)).trans k1
  ·rw[ae];rfl
  ·dsimp only;rw[hst];exact u1.same λb' hb'=>ab (by have:=ub b' hb';omega)
 clear t1 t2 t4 t8 g0 g1 g2;rintro T H nx ⟨t4,t8,hnx,g1,sv,g2,hrow,hb⟩
 have hLs:∀x∈L,ShC x:=λx hx=>by
  rw[<-hL] at hx;obtain⟨c,hc2,rfl⟩:=cE.1 hx;obtain⟨i,hi,rfl⟩:=fW hc2;have hr:=hren i hi;have hqq:=hq _ hc2;rw[show t.cases.getD i default=t.cases[i] by simp[List.getD,hi]] at hr;generalize t.cases[i]=c at *;refine⟨?_,?_,λv hv=>?_,?_,λv hv=>?_⟩
  ·show(bX c.inp p).length<=_;rw[bN,hr.1];omega
  ·show(dj c.out p).length<=_;unfold dj;rw[jo,bi];omega
  ·obtain⟨w,hw,rfl⟩:=cE.1 ((dn _).mem_iff.1 hv);show(bX w p).length<=_;rw[bN,hr.2.1 w hw];omega
  ·show(dj c.calm p).length<=_;unfold dj;rw[jo,bi];omega
  ·obtain⟨w,hw,rfl⟩:=cE.1 ((dn _).mem_iff.1 hv);show(bX w p).length<=_;rw[bN,hr.2.2 w hw];omega
 have hrow':∃B,sv=.msl B (L.length*3) 3 0 L.length/\H B=some (L.c3 fF)/\3<=B/\B<nx:=by
  generalize hcs:L.c3 fF=cs at hrow;have hcl3:(L.c3 fF).length=L.length*3:=Cz (λ_=>rfl) L;cases hrow with
  |nil=>rw[hcs] at hcl3;simp at hcl3;omega
  |box B len cs h1 h2=>
   have e:len=L.length:=by rw[<-hcs,hcl3] at h2;omega
   subst e;have:=hb B rfl;exact⟨B,rfl,h1,this⟩
 obtain⟨B,rfl,hB,hB3,hBn⟩:=hrow';have zz:=aI @t8 @g2;repeat' (first|refine zW ?_|apply a_n|refine zO ?_|refine vY ?_|fail)
 refine ce ev0 (have zz:=aI @t8 @g2;evY) (IZ Rr hB hBn rfl (by omega) hLs (by omega)) ?_;rintro _ H1 n1 ⟨M,hps,hpM,hsM⟩;have hMl:M.length=L.length:=hpM.length_eq
 have hM:M=kL KC L:=i5 KE (fun x hx y hy h1 h2=>by
  rw[<-hL] at hx hy;obtain⟨c,hc2,rfl⟩:=cE.1 hx;obtain⟨d,hd2,rfl⟩:=cE.1 hy;obtain⟨i,hi,rfl⟩:=fW hc2;obtain⟨j,hj,rfl⟩:=fW hd2;have e:=kK h1 h2;have ei:t.cases.getD i default=t.cases[i]:=by simp[List.getD,hi]
  have ej:t.cases.getD j default=t.cases[j]:=by simp[List.getD,hj]
  have e2:=rL hp (by rw[<-ei];exact(hren i hi).1) (by rw[<-ej];exact(hren j hj).1) e;have:=rk he hi hj (by rw[ei,ej];exact e2);subst this;rfl) (dC.of (by rw[hMl];exact hsM)) hpM
 have j2:H1 2=some [.int .i64 t.n,.int .i64 t.ins,.int .i64 t.outs,.msl B (L.length*3) 3 0 L.length]:=(hps.fr 2 (by omega) (by omega)).trans g2;have j1:H1 1=some [.int .i64 0,.int .i64 0,.int .i64 0,.esl]:=(hps.fr 1 (by omega) (by omega)).trans g1;clear zz;have zz:=aI @t4 (aI @t8 (aI @j1 @j2));repeat' (first|refine zW ?_|apply a_n|refine zO ?_|refine vY ?_|refine stY ?_|refine au rfl ?_|refine r2Y ?_|fail)
 have hren2:d7 t p=⟨t.n,t.ins,t.outs,M⟩:=by unfold d7;rw[hL,hM]
 rw[hren2];refine bE (ac (eh (ac (.int _ _) (ac (.int _ _) (ac (.int _ _) (ac ?_ al))))) (ac (.int _ _) al));exact CF (by rw[ab (by omega)];exact hps.at_) hMl
theorem CX{t:TaskV}{p:List Int}(he:ba t=0)(hn:(p.length:Int)=t.n):∀k,k<t.cases.length->(t.cases.getD k default).inp.length=p.length/\(∀v∈(t.cases.getD k default).out,v.length=p.length)/\(∀v∈(t.cases.getD k default).calm,v.length=p.length):=λk hk=>by
 have h1:=yl he hk;obtain⟨_,h2,h3⟩:=xB he hk;exact⟨by omega,λv hv=>by have:=(h2 v hv).1;omega,λv hv=>by have:=(h2 v (h3 v hv)).1;omega⟩
def eF(l:List Int):Nat->Nat
 |0=>0
 |k+1=>eF l k+if k=0\/l.getD k default≠l.getD (k-1) default then 1 else 0
theorem Iq(l:List Int)(k:Nat):eF l k<=k:=by
 induction k with
 |zero=>exact bc _
 |succ k ih=>unfold eF;split<;>omega
theorem mZ{l:List Int}{k:Nat}(hk:k≠0)(h:l.getD k default=l.getD (k-1) default):eF l (k+1)=eF l k:=by
 rw[eF,if_neg (by rintro(h'|h');exact hk h';exact h' h)];rfl
theorem wo{l:List Int}{k:Nat}(h:l.getD k default≠l.getD (k-1) default):eF l (k+1)=eF l k+1:=by
 rw[eF,if_pos (.inr h)]
def dd(l:List Int):Nat->List Int
 |0=>[]
 |k+1=>dd l k++if k=0\/l.getD k default≠l.getD (k-1) default then [l.getD k default] else []
theorem MS(l:List Int)(k:Nat):(dd l k).length=eF l k:=by
 induction k with
 |zero=>rfl
 |succ k ih=>rw[dd,eF,cP,ih];split<;>rfl
theorem Df{l:List Int}{k:Nat}(hk:k≠0)(h:l.getD k default=l.getD (k-1) default):dd l (k+1)=dd l k:=by
 rw[dd,if_neg (by rintro(h'|h');exact hk h';exact h' h),jd]
theorem CM{l:List Int}{k:Nat}(h:l.getD k default≠l.getD (k-1) default):dd l (k+1)=dd l k++[l.getD k default]:=by
 rw[dd,if_pos (.inr h)]
theorem GB{L:List Int}{h:Nat}{x:Int}(hh:h<L.length):(L.set h x).take (h+1)=L.take h++[x]:=by
 rw[gZ (by simpa using hh),List.take_set_of_le (bc h)];simp[List.getD,hh]
theorem xT{B n len k:Nat}(h:k<len)(hn:n≠0):nu 1 (.msl B n 1 0 len) (some (.int .i64 k)) none none=some (.msl B n 1 k (len-k)):=by
 simp only[nu,bF,Int.natCast_nonneg,if_true,c9];rw[if_pos ⟨trivial,by omega,bc _,hn⟩,if_pos (.inr h),dt,Nat.mul_one]
theorem Ey{B n len k:Nat}(h:k<=len)(hn:n≠0):nu 1 (.msl B n 1 0 len) none (some (.int .i64 k)) none=some (.msl B n 1 0 k):=by
 simp only[nu,bF,Int.natCast_nonneg,if_true,c9];rw[if_pos ⟨trivial,by omega,h,hn⟩,if_pos (.inl trivial),nA,Nat.sub_zero]
theorem Eg(l:List Int)(hl:Sh l)(h0:l≠[])(H:Hp)(B nx:Nat)(hH:H B=some (l.map (AV.int .i64)))(hB:B<nx):
    Abs.Fn Tryz.prog 33 [.msl B l.length 1 0 l.length] H nx λr H' nx'=>r=.msl B l.length 1 0 (eF l l.length)/\(∃C,H'=av H B C/\C.length=l.length/\C.take (eF l l.length)=(dd l l.length).map (AV.int .i64))/\nx'=nx:=by
 refine fO Sq ?_;simp only[b33,aw];have hpos:=yV.2 h0
 have hid:H=av H B (l.map (AV.int .i64)):=by
  funext b
  by_cases e:b=B
  ·subst e;rw[ae];exact hH
  ·rw[ab e]
 repeat' (first|refine zW ?_|apply a_n|apply a_r|refine zO ?_|refine vZ ?_|(refine zGZ ?_ ?_<;>(intro _hg;try (exfalso;omega)))|refine au rfl ?_|refine r1Z ?_|fail)
 ·have e1:l.length=1:=by omega
  have e2:dd l l.length=l:=by
   match l,e1 with
   |[a],_=>rfl
  refine⟨?_,⟨_,hid,by simp,?_⟩,rfl⟩
  ·rw[show eF l l.length=l.length by rw[e1];rfl]
  ·rw[e2,show eF l l.length=l.length by rw[e1];rfl,ju (by simp)]
 refine bq (X:=Nat) (λk=>[(0,.msl B l.length 1 0 l.length),(3,.int .i64 k)]) (λk H' nx'=>H'=H/\nx'=nx/\1<=k/\k<=l.length/\eF l k=k/\dd l k=l.take k) (λk=>l.length-k) 1 ⟨rfl,rfl,bc _,hpos,rfl,by match l,h0 with|a::r,_=>rfl⟩ ag0 ?_;rintro k H' nx' ⟨rfl,rfl,k1,k2,k3,k4⟩;by_cases hk:k<l.length
 ·have tk:(k:Int)-1=(k-1:Nat):=by omega
  by_cases he:l.getD k default=l.getD (k-1) default
  ·have hs:=xT (B:=B) hk (Nat.ne_of_gt hpos);have zz:=aI @tk (aI @hH (aI @c9 (aI @he (aI @hs @decide_true))));repeat' (first|refine zW ?_|apply a_n|refine zO ?_|refine vZ ?_|refine cTZ ?_|(refine zGZ ?_ ?_<;>(intro _hg;try (exfalso;omega)))|fail)
   refine bq (X:=Nat×List Int) (λx=>[(0,.msl B l.length 1 0 l.length),(3,.int .i64 (eF l (k+x.1):Nat)),(4,.msl B l.length 1 k (l.length-k)),(5,.int .i64 x.1)]) (λx H2 nx2=>x.2.length=l.length/\1<=x.1/\k+x.1<=l.length/\eF l (k+x.1)+1<=k+x.1/\H2=av H' B (x.2.map (AV.int .i64))/\nx2=nx'/\(∀p,k+x.1<=p+1->x.2.getD p default=l.getD p default)/\x.2.take (eF l (k+x.1))=dd l (k+x.1)) (λx=>l.length-x.1) (1,l)
    ⟨rfl,bc _,hk,by dsimp only;rw[mZ (by omega) he];omega,hid,rfl,λ_ _=>rfl,by dsimp only;rw[mZ (by omega) he,Df (by omega) he,k3,k4]⟩ (by simp (disch:=omega) only[agr,ZG,reduceEqDiff,↓reduceIte,mZ (show k≠0 by omega) he,k3]) ?_
   rintro⟨j,L⟩ H2 nx2 ⟨a1,a2,a3,a4,rfl,rfl,a5,a6⟩;dsimp only at a1 a2 a3 a4 a5 a6 |-;by_cases hj:k+j<l.length
   ·have tj:(j:Int)-1=(j-1:Nat):=by omega
    have r1:=a5 (k+j) (by omega);have r2:=a5 (k+(j-1)) (by omega);by_cases hd:l.getD (k+j) default=l.getD (k+(j-1)) default
    ·have hq:eF l (k+(j+1))=eF l (k+j):=mZ (l:=l) (k:=k+j) (by omega) (by rw[hd,show k+j-1=k+(j-1) by omega]);clear zz;have zz:=aI @tj (aI @c9 (aI @r1 (aI @r2 (aI @hd (aI @decide_true (aI @not_true_eq_false @decide_false))))));repeat' (first|refine zW ?_|apply a_n|refine zO ?_|refine vZ ?_|(refine zGZ ?_ ?_<;>(intro _hg;try (exfalso;omega)))|fail)
     refine⟨(j+1,L),by dsimp only;omega,⟨a1,by dsimp only;omega,by dsimp only;omega,?_,rfl,rfl,λp hp=>a5 p (by dsimp only at hp;omega),by dsimp only;rw[hq,show k+(j+1)=k+j+1 from rfl,Df (by omega) (by rw[hd,show k+j-1=k+(j-1) by omega])];exact a6⟩,(have zz:=@hq;agZ)⟩;dsimp only;rw[hq];omega
    ·have hq:eF l (k+(j+1))=eF l (k+j)+1:=wo (l:=l) (k:=k+j) (by rw[show k+j-1=k+(j-1) by omega];exact hd);have hlm:=gk (f:=AV.int .i64) (l:=L) (k:=eF l (k+j)) (x:=l.getD (k+j) default) (by omega);clear zz;have zz:=aI @tj (aI @c9 (aI @r1 @r2));repeat' (first|refine zW ?_|apply a_n|refine zO ?_|refine vZ ?_|refine stZ ?_|(refine zGZ ?_ ?_<;>(intro _hg;try (exfalso;omega)))|fail)
     refine⟨(j+1,L.set (eF l (k+j)) (l.getD (k+j) default)),by dsimp only;omega,⟨by simp[a1],by dsimp only;omega,by dsimp only;omega,?_,?_,rfl,λp hp=>?_,by dsimp only;rw[hq,GB (by omega),a6,show k+(j+1)=k+j+1 from rfl,CM (by rw[show k+j-1=k+(j-1) by omega];exact hd)]⟩,(have zz:=@hq;agZ)⟩
     ·dsimp only;rw[hq];omega
     ·dsimp only;rw[jg,hlm]
     ·dsimp only at hp |-;rw[ng,List.getElem?_set_ne (by omega),<-ng];exact a5 p (by omega)
   ·have hn:k+j=l.length:=by omega
    have hl1:=xT (B:=B) (n:=l.length) (show eF l (k+j)<l.length by omega) (Nat.ne_of_gt hpos);have hl2:=Ey (B:=B) (n:=l.length) (show eF l (k+j)<=l.length by omega) (Nat.ne_of_gt hpos);clear zz;have zz:=aI @hl1 @hl2;repeat' (first|refine zW ?_|apply a_n|apply a_x|refine zO ?_|refine vZ ?_|(refine zGZ ?_ ?_<;>(intro _hg;try (exfalso;omega)))|fail)
    refine O8 (H':=av (av H' B (L.map (AV.int .i64))) B (cI (L.map (AV.int .i64)) (eF l (k+j)) (bd (.int .i64 0) (l.length-eF l (k+j))))) ?_ ?_
    ·((try simp only[bg,ZA,reduceEqDiff,↓reduceIte,reduceAdd,reduceLeDiff]);(try with_reducible rfl))
     simp only[wq];rw[if_neg (by omega),ae];dsimp only;rw[if_pos ⟨by simp[a1],trivial,rfl,rfl,by omega⟩];rfl
    ·clear zz;have zz:=@hl2;repeat' (first|refine zW ?_|apply a_n|apply a_r|refine zO ?_|refine vZ ?_|refine au rfl ?_|refine r1Z ?_|fail)
     refine⟨by rw[hn],⟨_,jg _ _ _ _,?_,?_⟩,rfl⟩
     ·have hz:(bd (AV.int .i64 0) (l.length-eF l (k+j))).length=l.length-eF l (k+j):=by simp[bd,show(AV.int IntKind.i64 0).cells.length=1 from rfl]
      simp[cI,hz];omega
     ·rw[<-hn,<-a6,List.map_take];simp only[cI];rw[io,Ch (by simp;omega),ju (by simp;omega)]
  ·have zz:=aI @tk (aI @hH @c9);repeat' (first|refine zW ?_|apply a_n|refine zO ?_|refine vZ ?_|(refine zGZ ?_ ?_<;>(intro _hg;try (exfalso;omega)))|fail)
   exact⟨k+1,by omega,⟨rfl,rfl,by omega,by omega,by rw[wo he,k3],by rw[CM he,k4,gZ hk]⟩,ag0⟩
 ·repeat' (first|refine zW ?_|apply a_n|apply a_x|refine zO ?_|refine vZ ?_|(refine zGZ ?_ ?_<;>(intro _hg;try (exfalso;omega)))|refine au rfl ?_|refine r1Z ?_|fail)
  have e:l.length=k:=by omega
  refine⟨by rw[e,k3],⟨_,hid,by simp,?_⟩,rfl⟩;rw[e,k3,k4,<-List.map_take]
end
theorem B4{l:List Int}:∀{k:Nat},k<=l.length->∀x,x∈dd l k↔ ∃j,j<k/\l.getD j default=x
 |0,_,x=>by simp[dd]
 |k+1,hk,x=>by
  have ih:=B4 (l:=l) (k:=k) (by omega) x;rw[dd,oh,ih];constructor
  ·rintro(⟨j,h1,h2⟩|h)
   ·exact⟨j,by omega,h2⟩
   ·split at h
    ·rw[gH] at h;exact⟨k,by omega,h.symm⟩
    ·simp at h
  ·rintro⟨j,h1,h2⟩;by_cases e:j=k
   ·subst e;by_cases c:j=0\/l.getD j default≠l.getD (j-1) default
    ·right;rw[if_pos c,gH];exact h2.symm
    ·left;have c1:j≠0:=λh=>c (.inl h);have c2:l.getD j default=l.getD (j-1) default:=EK λh=>c (.inr h);exact⟨j-1,by omega,by rw[<-c2];exact h2⟩
   ·left;exact⟨j,by omega,h2⟩
theorem Ic{l:List Int}(hs:∀i j,i<j->j<l.length->l.getD i default<=l.getD j default):∀{k:Nat},k<=l.length->(dd l k).Pairwise (· < ·)
 |0,_=>It
 |k+1,hk=>by
  have ih:=Ic hs (k:=k) (by omega);rw[dd,List.pairwise_append];refine⟨ih,by split<;>simp,λx hx y hy=>?_⟩;split at hy
  ·rename_i c;rw[gH] at hy;subst hy;obtain⟨j,h1,rfl⟩:=(B4 (by omega) x).1 hx;rcases c with c|c
   ·omega
   ·have a1:l.getD j default<=l.getD (k-1) default:=by
      by_cases e:j=k-1
      ·rw[e];exact Int.le_refl _
      ·exact hs j (k-1) (by omega) (by omega)
    have a2:=hs (k-1) k (by omega) (by omega);omega
  ·simp at hy
theorem BO{a b:List Int}(ha:a.Pairwise (· < ·))(hb:b.Pairwise (· < ·))(h:∀x,x∈a↔x∈b):a=b:=by
 have na:a.Nodup:=ha.imp (λh=>by omega);have nb:b.Nodup:=hb.imp (λh=>by omega);have hp:a.Perm b:=(List.perm_ext_iff_of_nodup na nb).2 h;exact List.Perm.eq_of_pairwise (λx y _ _ h1 h2=>by omega) ha hb hp
structure PlaceV where
 index:Int
 faulty:Int
 proc:Int
 outs:List Int
theorem or_nat{tb tf:Bool}{a b:Nat}(ha:a<2^62)(hb:b<2^62):bt .or tb tf (.int .i64 (a:Int)) (.int .i64 (b:Int))=some (.int .i64 ((a ||| b:Nat):Int)):=by
 have h:(BitVec.ofInt 64 (a:Int) ||| BitVec.ofInt 64 (b:Int)).toNat=a ||| b:=by
  rw[BitVec.toNat_or,BitVec.toNat_ofInt,BitVec.toNat_ofInt]
  congr 1<;>omega
 have hlt:a ||| b<2^62:=Nat.or_lt_two_pow ha hb;show some (AV.int .i64 (IntKind.wrap .i64 ((BitVec.ofInt 64 (a:Int) ||| BitVec.ofInt 64 (b:Int)).toNat:Int)))=_;rw[h,jy (by omega) (by omega)]
section
variable{p:List Int}
theorem jD(hp:be p=0){q:Nat}(hq:q<p.length):∃i,i<p.length/\p.getD i default=(q:Int):=by
 obtain⟨_,_,h3,h4⟩:=cC hp;refine Decidable.byContradiction λhn=>?_;have hne:∀i,i<p.length->p.getD i default≠(q:Int):=λi hi e=>hn ⟨i,hi,e⟩
 have hnd:(p.map Int.toNat).Nodup:=by
  rw[List.nodup_iff_pairwise_ne,nw];intro i j hi hj hij;rw[bi] at hi hj;have a:=h3 i hi;have b:=h3 j hj;have c:=h4 i j hij hj;have ei:p.getD i default=p[i]:=by simp[List.getD,hi]
  have ej:p.getD j default=p[j]:=by simp[List.getD,hj]
  rw[ei] at a c;rw[ej] at b c;simp only[List.getElem_map];omega
 have hsub:∀x∈p.map Int.toNat,x∈(List.range p.length).filter (λx=>decide (x≠q)):=λx hx=>by
  obtain⟨y,hy,rfl⟩:=cE.1 hx;obtain⟨i,hi,rfl⟩:=fW hy;have ei:p.getD i default=p[i]:=by simp[List.getD,hi]
  have a:=h3 i hi;have b:=hne i hi;rw[ei] at a b;exact ik.2 ⟨eM.2 (by omega),bR (by omega)⟩
 have hle:=Mr hnd hsub
 have hlt:((List.range p.length).filter (λx=>decide (x≠q))).length<p.length:=by
  have h1:(List.range p.length).length=p.length:=List.length_range;have h2:((List.range p.length).filter (λx=>decide (x≠q))).length<(List.range p.length).length:=List.length_filter_lt_length_iff_exists.2 ⟨q,eM.2 hq,by simp⟩;omega
 rw[bi] at hle;omega
def idL(n:Nat):List Int:=(List.range n).map λ(i:Nat)=>(i:Int)
theorem je{n i:Nat}(h:i<n):(idL n).getD i default=(i:Int):=by simp[idL,List.getD,h]
theorem cm(n:Nat):(idL n).length=n:=by simp[idL]
def fi(p:List Int):List Int:=bX (idL p.length) p
theorem fS:(fi p).length=p.length:=by unfold fi;rw[bN,cm]
theorem oM(hp:be p=0){i:Nat}(hi:i<p.length):(fi p).getD (p.getD i default).toNat default=(i:Int):=by
 unfold fi;rw[fp hp (cm _) hi,je hi]
theorem pd(hp:be p=0):be (fi p)=0:=by
 obtain⟨h1,h2,h3,h4⟩:=cC hp
 have hval:∀q,q<p.length->∃i:Nat,i<p.length/\(fi p).getD q default=(i:Int)/\p.getD i default=(q:Int):=λq hq=>by
  obtain⟨i,hi,e⟩:=jD hp hq;have:=oM hp hi;rw[e,c9] at this;exact⟨i,hi,this,e⟩
 unfold be;rw[fS,if_neg (by omega)];refine bV λq hq=>?_;obtain⟨i,hi,e,ei⟩:=hval q hq;unfold vV;rw[fS,e,if_neg (by omega),if_neg];intro hany;rw[qS] at hany;obtain⟨x,hx,hxe⟩:=hany;have hxe:=pB hxe;obtain⟨j,hj,rfl⟩:=fW hx;rw[iX,fS] at hj;obtain⟨i2,hi2,e2,ei2⟩:=hval j (by omega)
 have ej:(fi p).getD j default=((fi p).take q)[j]'(by rw[iX,fS];exact hj):=by
  rw[List.getElem_take];simp[List.getD,show j<(fi p).length by rw[fS];omega]
 rw[<-ej,e2] at hxe;have:i2=i:=by omega
 subst this;rw[ei] at ei2;omega
theorem qk(hp:be p=0){v:List Int}(hv:v.length=p.length):bX (bX v p) (fi p)=v:=by
 have hw:(bX v p).length=(fi p).length:=by rw[bN,fS,hv]
 refine uH (by rw[bN,bN]) λi hi=>?_;rw[bN,bN] at hi;obtain⟨h1,h2,h3,h4⟩:=cC hp;have a:=h3 i (by omega);have h:=fp (pd hp) hw (i:=(p.getD i default).toNat) (by rw[fS];omega);rw[oM hp (by omega),c9,fp hp hv (by omega)] at h;exact h
theorem Em(hp:be p=0){v:List Int}(hv:v.length=p.length){x:Int}(hx:x∈bX v p):x∈v:=by
 obtain⟨q,hq,rfl⟩:=fW hx;rw[bN] at hq;obtain⟨i,hi,e⟩:=jD hp (q:=q) (by omega);have h:=fp hp hv hi;rw[e,c9] at h;rw[show(bX v p).getD q default=(bX v p)[q]'(by rw[bN];exact hq) by simp[List.getD,show q<(bX v p).length by rw[bN];exact hq]] at h;rw[h];exact ao (by omega)
theorem fM{l:List (List Int)}{w:List Int}:w∈dj l p↔ ∃v∈l,bX v p=w:=by
 unfold dj;rw[(dn _).mem_iff,cE]
theorem sP(hp:be p=0){l:List (List Int)}(hl:∀v∈l,v.length=p.length)(hs:dC aD l):dj (dj l p) (fi p)=l:=by
 symm
 refine i5 pA (λx _ y _=>kK) hs ?_;have h1:((dj l p).map λv=>bX v (fi p)).Perm ((l.map λv=>bX v p).map λv=>bX v (fi p)):=(dn _).map _
 have h2:((l.map λv=>bX v p).map λv=>bX v (fi p))=l:=by
  rw[List.map_map]
  conv=>rhs;rw[<-List.map_id l]
  exact pz λv hv=>qk hp (hl v hv)
 rw[h2] at h1;exact h1.symm
end
theorem pX{l:List (List Int)}(h:∀i,i<l.length->cR l i=false):dC aD l:=by
 unfold dC;rw[nw];intro i j hi hj hij;have:=zr h j i hij hj;rw[show l.getD i default=l[i] by simp[List.getD,hi],show l.getD j default=l[j] by simp[List.getD,hj]] at this;exact pA.asym _ _ this
theorem wT{l:List (List Int)}(h:∀i,i<l.length->cR l i=false):l.Nodup:=by
 rw[List.nodup_iff_pairwise_ne,nw];intro i j hi hj hij e;have:=zr h j i hij hj;rw[show l.getD i default=l[i] by simp[List.getD,hi],show l.getD j default=l[j] by simp[List.getD,hj],e,eH] at this;omega
theorem qC{l:List (List Int)}(hs:dC aD l)(hn:l.Nodup):∀i,i<l.length->cR l i=false:=λi hi=>by
 unfold cR;by_cases h0:0<i
 ·rw[bR h0,Bool.true_and,decide_eq_false_iff_not];have h1:=nw.1 hs (i-1) i (by omega) hi (by omega);have h2:=nw.1 (List.nodup_iff_pairwise_ne.1 hn) (i-1) i (by omega) hi (by omega);rw[show l.getD i default=l[i] by simp[List.getD,hi],show l.getD (i-1) default=l[i-1] by simp[List.getD,show i-1<l.length by omega]];intro h3;have h4:=dL l[i-1] l[i];rcases nf l[i-1] l[i] with h|h|h
  ·omega
  ·exact h2 (kM h)
  ·exact h1 (by omega)
 ·rw[bJ h0,Bool.false_and]
theorem BC{v:List Int}{n most:Int}(h1:(v.length:Int)=n)(h2:∀x∈v,0<=x/\x<most):bz v n most=0:=by
 unfold bz;rw[if_neg (λh=>h h1),if_neg];intro h;rw[qS] at h;obtain⟨x,hx,e⟩:=h;have:=pB e;have:=h2 x hx;omega
theorem gV{n outs:Int}{c:CaseV}(h:cu n outs c=0):(1<=c.out.length/\c.out.length<=1024)/\(∀v∈c.out,bz v n outs=0)/\(∀i,i<c.out.length->cR c.out i=false)/\(∀v∈c.calm,v∈c.out)/\(∀i,i<c.calm.length->cR c.calm i=false):=by
 unfold cu at h;split at h
 ·exact absurd h (by decide)
 rename_i g1;split at h
 ·exact absurd h ‹_›
 rename_i g2;have o0:=dK (EK g2);have c0:=dK h
 have o1:∀j,j<c.out.length->bz (c.out.getD j default) n outs=0/\cR c.out j=false:=λj hj=>by
  have:=o0 j hj;unfold ml at this;split at this
  ·exact absurd this ‹_›
  ·rename_i g3;split at this
   ·exact absurd this (by decide)
   ·rename_i g4;exact⟨EK g3,by simpa using g4⟩
 have c1:∀j,j<c.calm.length->c.calm.getD j default∈c.out/\cR c.calm j=false:=λj hj=>by
  have:=c0 j hj;unfold lA at this;split at this
  ·rename_i g3;split at this
   ·exact absurd this (by decide)
   ·rename_i g4;exact⟨g3,by simpa using g4⟩
  ·exact absurd this (by decide)
 refine⟨by omega,λv hv=>?_,λi hi=>(o1 i hi).2,λv hv=>?_,λi hi=>(c1 i hi).2⟩
 ·obtain⟨j,hj,rfl⟩:=fW hv;have:=(o1 j hj).1
  rwa [show c.out.getD j default=c.out[j] by simp[List.getD,hj]] at this
 ·obtain⟨j,hj,rfl⟩:=fW hv;have:=(c1 j hj).1
  rwa [show c.calm.getD j default=c.calm[j] by simp[List.getD,hj]] at this
theorem AR{n outs:Int}{c:CaseV}(h1:1<=c.out.length/\c.out.length<=1024)(h2:∀v∈c.out,bz v n outs=0)(h3:∀i,i<c.out.length->cR c.out i=false)(h4:∀v∈c.calm,v∈c.out)(h5:∀i,i<c.calm.length->cR c.calm i=false):cu n outs c=0:=by
 unfold cu
 have e1:bU (ml n outs c.out) c.out.length=0:=bV λk hk=>by
  unfold ml;rw[h2 _ (ao hk),if_neg (by simp),h3 k hk,if_neg (by simp)]
 have e2:bU (lA c.out c.calm) c.calm.length=0:=bV λk hk=>by
  unfold lA;rw[if_pos (h4 _ (ao hk)),h5 k hk,if_neg (by simp)]
 rw[if_neg (by omega),e1,if_neg (by simp),e2]
section
variable{p:List Int}(hp:be p=0)
include hp
theorem kA{l:List (List Int)}(hl:∀v∈l,v.length=p.length)(hu:∀i,i<l.length->cR l i=false):(dj l p).length=l.length/\∀i,i<(dj l p).length->cR (dj l p) i=false:=by
 have hlen:(dj l p).length=l.length:=by unfold dj;rw[jo,bi]
 refine⟨hlen,qC (kr pA _) ?_⟩;refine(dn _).nodup_iff.2 ?_;rw[List.nodup_iff_pairwise_ne,List.pairwise_map];refine List.Pairwise.imp_of_mem (λ{a b} ha hb hab e=>hab (rL hp (hl a ha) (hl b hb) e)) (List.nodup_iff_pairwise_ne.1 (wT hu))
theorem pJ{v:List Int}{n most:Int}(hv:v.length=p.length)(h:bz v n most=0):bz (bX v p) n most=0:=by
 obtain⟨h1,h2⟩:=oZ h;exact BC (by rw[bN];exact h1) λx hx=>h2 x (Em hp hv hx)
theorem yN{n outs:Int}{c:CaseV}(h1:∀v∈c.out,v.length=p.length)(h2:∀v∈c.calm,v.length=p.length)(h:cu n outs c=0):cu n outs (iv p c)=0:=by
 obtain⟨g1,g2,g3,g4,g5⟩:=gV h;have m1:=kA hp h1 g3;have m2:=kA hp h2 g5;refine AR (by show 1<=(dj c.out p).length/\_;have:=m1.1;exact⟨by omega,by show(dj c.out p).length<=_;omega⟩) (λv hv=>?_) m1.2 (λv hv=>?_) m2.2
 ·obtain⟨w,hw,rfl⟩:=fM.1 hv;exact pJ hp (h1 w hw) (g2 w hw)
 ·obtain⟨w,hw,rfl⟩:=fM.1 hv;exact fM.2 ⟨w,g4 w hw,rfl⟩
end
theorem mX{t:TaskV}(h:ba t=0):dC KC t.cases:=by
 unfold dC;rw[nw];intro i j hi hj hij;have:=k9 h j i hij hj;rw[show t.cases.getD i default=t.cases[i] by simp[List.getD,hi],show t.cases.getD j default=t.cases[j] by simp[List.getD,hj]] at this;exact pA.asym _ _ this
theorem A3{t:TaskV}(h:ba t=0){c d:CaseV}(hc:c∈t.cases)(hd:d∈t.cases)(e:c.inp=d.inp):c=d:=by
 obtain⟨i,hi,rfl⟩:=fW hc;obtain⟨j,hj,rfl⟩:=fW hd;have ei:t.cases.getD i default=t.cases[i]:=by simp[List.getD,hi]
 have ej:t.cases.getD j default=t.cases[j]:=by simp[List.getD,hj]
 have:=rk h hi hj (by rw[ei,ej];exact e);subst this;rfl
theorem md{t:TaskV}{p:List Int}(h:ba t=0)(hn:(p.length:Int)=t.n){c:CaseV}(hc:c∈t.cases):c.inp.length=p.length/\(∀v∈c.out,v.length=p.length)/\(∀v∈c.calm,v.length=p.length):=by
 obtain⟨i,hi,rfl⟩:=fW hc;have:=CX h hn i hi
 rwa [show t.cases.getD i default=t.cases[i] by simp[List.getD,hi]] at this
theorem js{t:TaskV}(h:ba t=0){c:CaseV}(hc:c∈t.cases):bz c.inp t.n t.ins=0/\cu t.n t.outs c=0:=by
 obtain⟨i,hi,rfl⟩:=fW hc;have:=(jP h).2.2 i hi
 rwa [show t.cases.getD i default=t.cases[i] by simp[List.getD,hi]] at this
section
variable{t:TaskV}{p:List Int}(h:ba t=0)(hp:be p=0)(hn:(p.length:Int)=t.n)
theorem mY{d:CaseV}:d∈(d7 t p).cases↔ ∃c∈t.cases,iv p c=d:=by
 show d∈kL KC (t.cases.map (iv p))↔_;rw[(dn _).mem_iff,cE]
theorem yK:(d7 t p).cases.length=t.cases.length:=by
 show(kL KC (t.cases.map (iv p))).length=_;rw[jo,bi]
include h hp hn
theorem lg:ba (d7 t p)=0:=by
 obtain⟨c1,c2,c3⟩:=jP h;unfold ba;rw[if_neg (show ¬((d7 t p).n<1\/5<(d7 t p).n\/(d7 t p).ins<1\/8<(d7 t p).ins\/(d7 t p).outs<1\/8<(d7 t p).outs) from c1),yK,if_neg (by omega)]
 have hinps:∀k,k<((d7 t p).cases.map CaseV.inp).length->cR ((d7 t p).cases.map CaseV.inp) k=false:=by
  refine qC ?_ ?_
  ·show dC aD ((kL KC (t.cases.map (iv p))).map CaseV.inp);unfold dC;rw[List.pairwise_map];exact kr KE _
  ·refine((dn (K:=KC) (t.cases.map (iv p))).map CaseV.inp).nodup_iff.2 ?_;rw[List.map_map,List.nodup_iff_pairwise_ne,List.pairwise_map]
   have hnd:t.cases.Pairwise λc d=>c.inp≠d.inp:=by
    rw[nw];intro i j hi hj hij e;have:=k9 h j i hij hj;rw[show t.cases.getD i default=t.cases[i] by simp[List.getD,hi],show t.cases.getD j default=t.cases[j] by simp[List.getD,hj],e,eH] at this;omega
   exact List.Pairwise.imp_of_mem (λ{a b} ha hb hab e=>hab (rL hp (md h hn ha).1 (md h hn hb).1 e)) hnd
 refine bV λk hk=>?_;have hm:(d7 t p).cases.getD k default∈(d7 t p).cases:=ao (by rw[yK];exact hk);have hu:=hinps k (by rw[bi,yK];exact hk);unfold iH;rw[hu];obtain⟨c,hc,e⟩:=mY.1 hm;rw[<-e];obtain⟨g1,g2⟩:=js h hc;obtain⟨l1,l2,l3⟩:=md h hn hc;have v1:bz (iv p c).inp (d7 t p).n (d7 t p).ins=0:=pJ hp l1 g1;have v2:cu (d7 t p).n (d7 t p).outs (iv p c)=0:=yN hp l2 l3 g2;rw[v1,if_neg (by simp),if_neg (by simp),v2]
theorem Ec{c:CaseV}(hc:c∈t.cases):iv (fi p) (iv p c)=c:=by
 obtain⟨l1,l2,l3⟩:=md h hn hc;obtain⟨g1,g2,g3,g4,g5⟩:=gV (js h hc).2;obtain⟨inp,out,calm⟩:=c;show CaseV.mk (bX (bX inp p) (fi p)) (dj (dj out p) (fi p)) (dj (dj calm p) (fi p))=_;rw[qk hp l1,sP hp l2 (pX g3),sP hp l3 (pX g5)]
theorem Ed:d7 (d7 t p) (fi p)=t:=by
 have e:kL KC ((d7 t p).cases.map (iv (fi p)))=t.cases:=by
  symm
  have hpm:((d7 t p).cases.map (iv (fi p))).Perm ((t.cases.map (iv p)).map (iv (fi p))):=(dn _).map _
  have h2:(t.cases.map (iv p)).map (iv (fi p))=t.cases:=by
   rw[List.map_map]
   conv=>rhs;rw[<-List.map_id t.cases]
   exact pz λc hc=>Ec h hp hn hc
  rw[h2] at hpm;refine i5 KE (λx hx y hy h1 h2=>?_) (mX h) hpm.symm;exact A3 h (hpm.mem_iff.1 hx) (hpm.mem_iff.1 hy) (kK h1 h2)
 obtain⟨n,i,o,cs⟩:=t;show TaskV.mk n i o (kL KC _)=_;rw[e]
theorem BK:fR t p=(d7 t p,0):=by
 unfold fR;rw[if_neg (λk=>k h),if_neg (λk=>k hp),if_neg (λk=>k hn)]
theorem Gr{k:Nat}(hk:k<t.cases.length):∃j:Nat,j<(d7 t p).cases.length/\(d7 t p).cases.getD j default=iv p (t.cases.getD k default)/\KW (d7 t p) (bX (t.cases.getD k default).inp p)=((j:Int),0):=by
 have hm:=ao hk;have hc:=lg h hp hn;have hin:iv p (t.cases.getD k default)∈(d7 t p).cases:=mY.2 ⟨_,hm,rfl⟩;obtain⟨j,hj,e⟩:=fW hin;have ej:(d7 t p).cases.getD j default=iv p (t.cases.getD k default):=by rw[<-e];simp[List.getD,hj]
 refine⟨j,hj,ej,?_⟩;unfold KW;have hgj:((d7 t p).cases.map CaseV.inp).getD j default=bX (t.cases.getD k default).inp p:=by rw[i4 hj,ej];rfl
 rw[if_neg (λk=>k hc),if_pos (vj.2 ⟨j,by rw[bi];exact hj,hgj⟩)]
 have:Nf (d7 t p) (bX (t.cases.getD k default).inp p)=j:=Cl (by rw [bi]; exact hj) (fun i hi e2=>by
  rw[i4 (by omega)] at e2;have e3:((d7 t p).cases.getD i default).inp=((d7 t p).cases.getD j default).inp:=by rw[e2,ej];rfl
  have:=rk hc (by omega) hj e3;omega) hgj
 rw[this]
end
theorem va{α:Type}{p:α->Bool}{v:α}:[v].filter p=if p v then [v] else []:=by cases h:p v<;>simp[h]
def Av(l:List (List Int)):Prop:=l.Pairwise λx y=>aD x y<0
theorem Av.nodup{l:List (List Int)}(h:Av l):l.Nodup:=List.Pairwise.imp (λ{a b} h e=>by subst e;rw[eH] at h;omega) h
theorem Av.of{l:List (List Int)}(hs:dC aD l)(hn:l.Nodup):Av l:=by
 have h2:=List.nodup_iff_pairwise_ne.1 hn;refine List.Pairwise.imp₂ (λa b h1 h2=>?_) hs h2;rcases nf a b with h|h|h
 ·omega
 ·exact absurd (kM h) h2
 ·have:=dL a b;exact absurd (show aD b a<0 by omega) h1
theorem Bv{a b:List (List Int)}(ha:Av a)(hb:Av b)(h:∀x,x∈a↔x∈b):a=b:=by
 have hp:a.Perm b:=(List.perm_ext_iff_of_nodup ha.nodup hb.nodup).2 h;exact List.Perm.eq_of_pairwise (λx y _ _ h1 h2=>by have:=dL x y;omega) ha hb hp
theorem pg{l:List (List Int)}(h:∀i,i<l.length->cR l i=false):Av l:=Av.of (pX h) (wT h)
def Sk(acc:List (List Int))(v:List Int):List (List Int):=if v∈acc then acc else wM aD acc v
def QW(acc l:List (List Int)):List (List Int):=l.foldl Sk acc
def L7(l:List (List Int)):List (List Int):=QW [] l
theorem Fk{c:CaseV}{f:Int}(h:ShC c):∀v∈j3 c f,Sh v:=by
 obtain⟨s1,s2,s3,s4,s5⟩:=h;unfold j3;split
 ·exact s5
 ·exact s3
theorem KP{c:CaseV}{f:Int}{n:Nat}(h:c.out.length<=n/\c.calm.length<=n):(j3 c f).length<=n:=by
 unfold j3;split
 ·exact h.2
 ·exact h.1
structure Fit(t:TaskV):Prop where
 sh:∀c∈t.cases,ShC c
 len:t.cases.length<=100000
 q:∀c∈t.cases,c.out.length<=100000/\c.calm.length<=100000
theorem Fit.sh2{t:TaskV}(h:Fit t):Sh t.cases:=by have:=h.len;show _<=_;omega
theorem Fit.qa{t:TaskV}(h:Fit t){c:CaseV}(hc:c∈t.cases){f:Int}:(j3 c f).length<=100000/\∀v∈j3 c f,Sh v:=⟨KP (h.q c hc),Fk (h.sh c hc)⟩
structure Fit4(t:TaskV):Prop where
 fit:Fit t
 q4:∀c∈t.cases,c.out.length<=40000/\c.calm.length<=40000
def KN(m:Int)(v w:List Int):List Int:=(List.range v.length).map λp=>v.getD p default*m+w.getD p default
def Mp(m:Int)(x y:List (List Int)):List (List Int):=x.flatMap λv=>y.map λw=>KN m v w
def Lk(m:Int)(x y:List (List Int)):List (List Int):=L7 (Mp m x y)
structure Fit30(t:TaskV):Prop where
 sh:∀c∈t.cases,ShC c
 len:t.cases.length<=30
 q:∀c∈t.cases,c.out.length<=30/\c.calm.length<=30
theorem Fit30.of{t:TaskV}(h:wk t=true):Fit30 t:=by
 have hsh:=I9 h;unfold wk at h;rw[eL,vt,dQ] at h;refine⟨hsh.2,h.1,λc hc=>?_⟩;have hf:=h.2 c hc;unfold uP nC at hf;simp only[eL,vt,dQ] at hf;exact⟨hf.1.2.1,hf.2.1⟩
theorem Fit30.four{t:TaskV}(h:Fit30 t):Fit4 t:=⟨⟨h.sh,by have:=h.len;omega,λc hc=>by have:=h.q c hc;omega⟩,λc hc=>by have:=h.q c hc;omega⟩
theorem Fit30.fit{t:TaskV}(h:Fit30 t):Fit t:=h.four.fit
theorem Km{H:Hp}{sv:AV}{l:List (List Int)}{nx:Nat}(h:Row H 1 sv (l.map aq))(hb:∀b,bk sv=some b->b<nx):jL sv=some l.length/\∀H',(∀x,x<nx->H' x=H x)->ee 1 H' sv=some (l.length,l.map aq):=by
 generalize hcs:l.map aq=cs at h;have hl:cs.length=l.length:=by rw[<-hcs,bi]
 cases h with
 |nil=>
  have:l.length=0:=by rw[<-hl];rfl
  rw[this];exact⟨rfl,λ_ _=>rfl⟩
 |box B len cs h1 h2=>
  have e:len=l.length:=by omega
  subst e;refine⟨by simp[jL],λH' hH=>?_⟩;rw[fZ ((hH B (hb B rfl)).trans h1) (by omega) (by omega),List.drop_zero,ju (by omega)]
theorem rN{H:Hp}{d:Nat}{x:Int}:ee 1 (av H d [.int .i64 x]) (.msl d 1 1 0 1)=some (1,[.int .i64 x]):=fZ (n:=1) (len:=1) (off:=0) (cs:=[.int .i64 x]) ae rfl (by simp)
def jh(n:Nat):Nat->List Int->List (List Int)
 |0,b=>[b]
 |k+1,b=>(List.range n).flatMap λ(p:Nat)=>if (p:Int)∈b then [] else jh n k (b++[(p:Int)])
def kg(n:Nat):List (List Int):=jh n n []
theorem qh(n:Nat)(hn:n<=5):∀(k:Nat)(b:List Int),(jh n k b).length<=5^k
 |0,b=>bc _
 |k+1,b=>by
  have key:∀l:List Nat,l.length<=5->(l.flatMap λ(p:Nat)=>if (p:Int)∈b then [] else jh n k (b++[(p:Int)])).length<=l.length*5^k:=by
   intro l
   induction l with
   |nil=>intro _;simp
   |cons a l ih=>
    intro h;rw[ig] at h;have i2:=ih (by omega);have h2:=qh n hn k (b++[(a:Int)]);rw[lj,cP,ig,d8]
    have h3:(if (a:Int)∈b then [] else jh n k (b++[(a:Int)])).length<=5^k:=by
     split
     ·exact bo _
     ·exact h2
    omega
  have h1:=key (List.range n) (by rw[List.length_range];exact hn);rw[List.length_range] at h1;refine eK h1 ?_;rw[Nat.pow_succ,Nat.mul_comm];exact Nat.mul_le_mul_left _ hn
theorem EM{α:Type}{f:Nat->List α}{k:Nat}:(List.range (k+1)).flatMap f=(List.range k).flatMap f++f k:=by
 rw[List.range_succ,List.flatMap_append];simp
theorem wu(n:Nat)(h1:1<=n)(h5:n<=5):(kg n).length<=120/\∀p∈kg n,be p=0/\p.length=n:=by
 have key:∀n∈[1,2,3,4,5],(kg n).length<=120/\∀p∈kg n,be p=0/\p.length=n:=by decide+kernel
 exact key n (by have : n = 1 ∨ n = 2 ∨ n = 3 ∨ n = 4 ∨ n = 5 := by omega
                 rcases this with rfl|rfl|rfl|rfl|rfl<;>decide)
theorem Hv{H:Hp}{s:AV}{b:List Int}(h:Row H 1 s (b.map (AV.int .i64))):∃Hf H',Fz Hf H H'/\Snap Hf s (aq b)/\∀x,bk s≠some x->H' x=H x:=by
 generalize hcs:b.map (AV.int .i64)=cs at h;have hl:cs.length=b.length:=by rw[<-hcs,bi]
 cases h with
 |nil=>
  have:b=[]:=fP.1 (by rw[<-hl];rfl);subst this;exact⟨aP,H,Fz.none,.eslsl 1,λ_ _=>rfl⟩
 |box B len cs h1 h2=>
  refine⟨only B cs,dv H B,Fz.one h1,?_,λx hx=>bQ (λe=>hx (by rw[e];rfl))⟩;subst hcs;have e:len=b.length:=by rw[bi] at h2;omega
  subst e;rw[Nat.mul_one];exact oU ez rfl rfl
def Qi(to:List Int)(v:List Int):List Int:=v.map λz=>to.getD z.toNat default
structure BoxesM(H:Hp)(bs:List Nat)(l:List (List Int)):Prop where
 len:bs.length=l.length
 at_:∀i,i<l.length->H (bs.getD i 0)=some ((l.getD i default).map (AV.int .i64))
 nodup:bs.Nodup
theorem BoxesM.same{H H':Hp}{bs:List Nat}{l:List (List Int)}(h:BoxesM H bs l)(hs:∀b∈bs,H' b=H b):BoxesM H' bs l:=
 ⟨h.len,λi hi=>(hs _ (by have:=h.len;rw[ng,mB (by omega)];exact mq _)).trans (h.at_ i hi),h.nodup⟩
theorem LY{bs:List Nat}(h:bs.Nodup){i j:Nat}(hi:i<bs.length)(hj:j<bs.length)(e:bs.getD i 0=bs.getD j 0):i=j:=by
 rw[ng,ng,mB hi,mB hj] at e;have hp:=nw.1 (List.nodup_iff_pairwise_ne.1 h);rcases vv i j with c|c|c
 ·exact absurd e (hp i j hi hj c)
 ·exact c
 ·exact absurd e.symm (hp j i hj hi c)
theorem BoxesM.snoc{H:Hp}{bs:List Nat}{l:List (List Int)}{b:Nat}{v:List Int}(h:BoxesM H bs l)(hb:H b=some (v.map (AV.int .i64)))(hn:b∉bs):BoxesM H (bs++[b]) (l++[v]):=by
 refine⟨by simp[h.len],λi hi=>?_,?_⟩
 ·rw[cP,List.length_singleton] at hi;have hl:=h.len;by_cases e:i=l.length
  ·subst e;rw[<-hl];simp only[ng,iA (bc _),Nat.sub_self];rw[hl,iA (bc _),Nat.sub_self];exact hb
  ·have:=h.at_ i (by omega);simp only[ng] at this |-;rw[gG (by omega),gG (by omega)];exact this
 ·rw[yf];exact⟨h.nodup,by simp,λx hx y hy e=>hn (by simp at hy;subst hy;subst e;exact hx)⟩
theorem BoxesM.set{H:Hp}{bs:List Nat}{l:List (List Int)}{i:Nat}{v:List Int}(h:BoxesM H bs l)(hi:i<l.length):BoxesM (av H (bs.getD i 0) (v.map (AV.int .i64))) bs (l.set i v):=by
 refine⟨by rw[List.length_set];exact h.len,λj hj=>?_,h.nodup⟩;rw[List.length_set] at hj;by_cases e:j=i
 ·subst e;rw[ae];simp[List.getD,hj]
 ·rw[ab (λk=>e (LY h.nodup (by have:=h.len;omega) (by have:=h.len;omega) k)),h.at_ j hj];simp only[ng];rw[List.getElem?_set_ne (by omega)]
theorem qz{c d:CaseV}:c=d↔c.inp=d.inp/\c.out=d.out/\c.calm=d.calm:=by
 constructor
 ·rintro rfl;exact⟨rfl,rfl,rfl⟩
 ·rintro⟨h1,h2,h3⟩;obtain⟨a,b,e⟩:=c;obtain⟨a',b',e'⟩:=d;cases h1;cases h2;cases h3;rfl
theorem lY{a b:TaskV}:a=b↔a.n=b.n/\a.ins=b.ins/\a.outs=b.outs/\a.cases=b.cases:=by
 constructor
 ·rintro rfl;exact⟨rfl,rfl,rfl,rfl⟩
 ·rintro⟨h1,h2,h3,h4⟩;obtain⟨n,i,o,c⟩:=a;obtain⟨n',i',o',c'⟩:=b;cases h1;cases h2;cases h3;cases h4;rfl
def eqF(p:CaseV->CaseV->Bool)(x y:List CaseV):Bool:=decide (x.length=y.length)&&(List.range x.length).all λi=>p (x.getD i default) (y.getD i default)
theorem M5{x y:List CaseV}:eqF (λc d=>decide (c=d)) x y=decide (x=y):=by
 rw[Bool.eq_iff_iff,vt];unfold eqF;rw[eL,vt,dQ];constructor
 ·rintro⟨h1,h2⟩;refine List.ext_getElem h1 λi h3 h4=>?_;have:=pB (h2 i (eM.2 h3));simpa[List.getD,h3,h4] using this
 ·rintro rfl;exact⟨rfl,λi _=>bR rfl⟩
def zb(t:TaskV):List (List Int):=(kg t.n.toNat).filter λp=>decide (t=d7 t p)
def Gn(t:TaskV):List (List Int)×Int:=if ba t≠0 then([],ba t) else(zb t,0)
theorem v7{t:TaskV}(h:ba t=0){p:List Int}(hp:p∈kg t.n.toNat):be p=0/\(p.length:Int)=t.n:=by
 have hn:=n9 h;have:=(wu t.n.toNat (by omega) (by omega)).2 p hp;exact⟨this.1,by omega⟩
section
attribute [local irreducible] aF ai bj aY aN aM ax aS a8 bm Go.Abs.Fn aX Go.Abs.Pure ap aK Yl
theorem xK{l:List (List Int)}{p:List Int}(hl:Sh l)(hp:p.length<=5)(hv:∀v∈l,v.length=p.length):Sh (dj l p)/\∀v∈dj l p,Sh v:=by
 refine⟨by show(kL _ _).length<=_;rw[jo,bi];exact hl,λv hv2=>?_⟩;obtain⟨w,hw,rfl⟩:=cE.1 ((dn _).mem_iff.1 hv2);show(bX w p).length<=_;rw[bN,hv w hw];omega
theorem JP{t:TaskV}{p:List Int}(hs:∀c∈t.cases,ShC c)(hsc:Sh t.cases)(hp:p.length<=5)(hlen:∀k,k<t.cases.length->(t.cases.getD k default).inp.length=p.length/\(∀v∈(t.cases.getD k default).out,v.length=p.length)/\(∀v∈(t.cases.getD k default).calm,v.length=p.length)):Sh (d7 t p).cases/\∀c∈(d7 t p).cases,ShC c:=by
 refine⟨by show(kL _ _).length<=_;rw[jo,bi];exact hsc,λc hc=>?_⟩;obtain⟨d,hd,rfl⟩:=cE.1 ((dn _).mem_iff.1 hc);obtain⟨i,hi,rfl⟩:=fW hd;have h:=hlen i hi;have hsi:=hs _ hd;rw[show t.cases.getD i default=t.cases[i] by simp[List.getD,hi]] at h;generalize t.cases[i]=d at *;obtain⟨h1,h2,h3⟩:=h;obtain⟨s1,s2,s3,s4,s5⟩:=hsi;have m1:=xK s2 hp h2;have m2:=xK s4 hp h3;exact⟨by show(bX d.inp p).length<=_;rw[bN];exact s1,m1.1,m1.2,m2.1,m2.2⟩
theorem IG(l:List (List Int))(p:List Int->Bool)(g:Nat)(caps:List AV)(hd:∀x∈caps,Dat x)(hg:∀x∈l,pU g (aq x::caps) (.bool (p x)))(hl:l.length<=100000):pU 54 [ay l,.func g caps] (ay (l.filter p)):=by
 refine pO RZ ?_;simp only[b54,aw]
 repeat' (first|refine zW ?_|apply a_n|refine zO ?_|refine vZ ?_|fail)
 refine bq (X:=AV×Nat) (λx=>[(0,ay l),(1,.func g caps),(5,x.1),(8,ay l),(9,.int .i64 l.length),(10,.int .i64 x.2)]) (λx H nx=>x.2<=l.length/\Row H 1 x.1 (((l.take x.2).filter p).map aq)/\∀b,bk x.1=some b->b<nx) (λx=>l.length-x.2) (.esl,0) ⟨bo _,Row.nil,λb hb=>(by cases hb)⟩ ag0 ?_;rintro⟨s,j⟩ H nx ⟨h1,h2,h3⟩;dsimp only at h1 h2 h3 |-;by_cases hj:j<l.length
 rotate_left
 ·have zz:=@h1;repeat' (first|refine zW ?_|apply a_n|apply a_x|refine zO ?_|refine vY ?_|(refine zGY ?_ ?_<;>(intro _hg;try (exfalso;omega)))|refine au rfl ?_|refine r1Y ?_|fail)
  rw[ju (by omega)] at h2;exact h2.snapV
 have hw:=ao hj;have hc:=hg _ hw
 have hst:(l.take (j+1)).filter p=(l.take j).filter p++(if p (l.getD j default) then [l.getD j default] else []):=by
  rw[gZ hj,EG,va]
 have hlen:((l.take j).filter p).length<=l.length:=eK (List.length_filter_le _ _) (by rw[iX];omega);cases hp:p (l.getD j default)
 ·rw[hp] at hc hst;have zz:=@h1;repeat' (first|refine zW ?_|apply a_n|refine zO ?_|refine vY ?_|refine cY ?_ (hp:=hc) (hs:=by(first|refine bK ?_ rfl|apply bC);(repeat' (first|exact al|apply fj|apply cU|exact di hd));first|done|fail)|refine cFY ?_|(refine zGY ?_ ?_<;>(intro _hg;try (exfalso;omega)))|fail)
  exact⟨(s,j+1),by dsimp only;omega,⟨by dsimp only;omega,by dsimp only;rw[hst,if_neg (by decide),jd];exact h2,h3⟩,ag0⟩
 ·rw[hp] at hc hst;have zz:=@h1;repeat' (first|refine zW ?_|apply a_n|refine zO ?_|refine vY ?_|refine cY ?_ (hp:=hc) (hs:=by(first|refine bK ?_ rfl|apply bC);(repeat' (first|exact al|apply fj|apply cU|exact di hd));first|done|fail)|refine blY ?_|refine cTY ?_|(refine zGY ?_ ?_<;>(intro _hg;try (exfalso;omega)))|fail)
  refine dY rfl ev0 (h2.same λb hb=>?_) ev0 vq rfl rfl jf (by simp;omega) (by simp;omega) ?_
  ·have:=h3 b hb;rw[ab (by omega)]
  rintro s2 E e hrow hle1 hle2 hsame hb2
  repeat' (first|apply a_n|refine zO ?_|refine vZ ?_|fail)
  refine⟨(s2,j+1),by dsimp only;omega,⟨by dsimp only;omega,?_,λb hb=>?_⟩,ag0⟩
  ·dsimp only;rw[hst,if_pos rfl,dp];exact hrow
  ·rcases hb2 b hb with h|h
   ·have:=h3 b h;omega
   ·omega
theorem D8(x y:List (List Int))(hx:Sh x)(hy:Sh y)(hxs:∀v∈x,Sh v)(hys:∀v∈y,Sh v):pU 93 [ay x,ay y,.func 94 []] (.bool (decide (x=y))):=by
 refine pO P1 ?_;simp only[b93,aw];have hx':x.length<=17592186044416:=hx;have hy':y.length<=17592186044416:=hy;by_cases hlen:x.length=y.length
 rotate_left
 ·have z:decide ((x.length:Int)≠y.length)=true:=bR (by omega);rw[bJ (λe=>hlen (by rw[e]))];have zz:=@z;repeat' (first|refine zW ?_|apply a_n|apply a_r|refine zO ?_|refine vZ ?_|refine cTZ ?_|refine au rfl ?_|refine r1Z ?_|fail)
  exact .bool _
 have z:decide ((x.length:Int)≠y.length)=false:=bJ (by omega);have zz:=@z;repeat' (first|refine zW ?_|apply a_n|refine zO ?_|refine vZ ?_|refine cFZ ?_|fail)
 refine ta (λk=>[(0,ay x),(1,ay y),(2,.func 94 []),(15,ay x),(16,.int .i64 x.length),(17,.int .i64 k)]) x.length (λk=>x.getD k default=y.getD k default) ag0 ?_;intro k hk hz;by_cases hk2:k<x.length
 rotate_left
 ·repeat' (first|refine zW ?_|apply a_n|apply a_x|refine zO ?_|refine vZ ?_|(refine zGZ ?_ ?_<;>(intro _hg;try (exfalso;omega)))|refine au rfl ?_|refine r1Z ?_|fail)
  refine dE ?_
  symm;rw[vt]
  refine List.ext_getElem hlen λi h3 h4=>?_;have:=hz i (by omega);simpa[List.getD,h3,h4] using this
 have hc:=qU (x.getD k default) (y.getD k default) (hxs _ (ao hk2)) (hys _ (ao (by omega)));by_cases he:x.getD k default=y.getD k default
 ·rw[bR he] at hc
  repeat' (first|refine zW ?_|apply a_n|refine zO ?_|refine vZ ?_|refine cZ ?_ (hp:=hc)|refine cFZ ?_|(refine zGZ ?_ ?_<;>(intro _hg;try (exfalso;omega)))|fail)
  exact⟨hk2,he,ag0,rfl,rfl⟩
 ·rw[bJ he] at hc;rw[bJ (p:=x=y) (λe=>he (by rw[e]))]
  repeat' (first|refine zW ?_|apply a_n|apply a_r|refine zO ?_|refine vZ ?_|refine cZ ?_ (hp:=hc)|refine cTZ ?_|(refine zGZ ?_ ?_<;>(intro _hg;try (exfalso;omega)))|refine au rfl ?_|refine r1Z ?_|fail)
  exact .bool _
theorem Gg(b:List Int)(hb:b.length<=1000)(H:Hp)(nx:Nat):Abs.Fn Tryz.prog 44 [aq b] H nx λr H' nx'=>Row H' 1 r (b.map (AV.int .i64))/\(∀x,bk r=some x->nx<=x/\x<nx')/\(∀x,x<nx->H' x=H x)/\nx<=nx':=by
 refine fO N0 ?_;simp only[b44,aw]
 repeat' (first|refine zW ?_|apply a_n|refine zO ?_|refine vY ?_|fail)
 have fin:Row (av H nx (b.map (AV.int .i64))) 1 (.msl nx b.length 1 0 b.length) (b.map (AV.int .i64)):=by
  have:=Row.box (H:=av H nx (b.map (AV.int .i64))) (sz:=1) nx b.length (b.map (AV.int .i64)) ae (by simp)
  rwa [Nat.mul_one] at this
 refine pR (k:=b.length) (by((try simp only[bg,ZA,reduceEqDiff,↓reduceIte,reduceAdd,reduceLeDiff]);(try with_reducible rfl));exact mR) (λh=>?_) (λh=>?_) (λh=>?_)
 ·repeat' (first|refine zW ?_|apply a_n|refine zO ?_|refine vY ?_|refine b0Y ?_|refine a0Y ?_|refine cFY ?_|refine au rfl ?_|refine r1Y ?_|fail)
  exact⟨fin,λx hx=>by cases hx;omega,λx hx=>ab (by omega),by omega⟩
 ·repeat' (first|refine zW ?_|apply a_n|apply a_r|refine zO ?_|refine vY ?_|refine cTY ?_|refine au rfl ?_|refine r1Y ?_|fail)
  obtain rfl:=fP.1 h;exact⟨Row.nil,λx hx=>(by cases hx),λx hx=>rfl,bc _⟩
 ·repeat' (first|refine zW ?_|apply a_n|refine zO ?_|refine vY ?_|refine b0Y ?_|refine a0Y ?_|refine cFY ?_|refine au rfl ?_|refine r1Y ?_|fail)
  exact⟨fin,λx hx=>by cases hx;omega,λx hx=>ab (by omega),by omega⟩
theorem NW(n:Nat)(hn:n<=5):∀(k:Nat)(b:List Int)(s:AV)(H:Hp)(nx:Nat),b.length+k=n->Row H 1 s (b.map (AV.int .i64))->(∀x,bk s=some x->x<nx)->
    Abs.Fn Tryz.prog 88 [.int .i64 n,s] H nx λr H' nx'=>Row H' 1 r ((jh n k b).map aq)/\(∀x,bk r=some x->nx<=x/\x<nx')/\(∀x,x<nx->bk s≠some x->H' x=H x)/\nx<=nx':=by
 intro k
 induction k with
 |zero=>
  intro b s H nx hk hrow hbd;refine fO NU ?_;simp only[b88,aw];obtain⟨Hf,H0,hfz,hsn,hfr⟩:=Hv hrow;refine nM ?_;refine rh Hf H0 [(0,.int .i64 n),(1,aq b)] hfz ⟨.inl (evY),.inr hsn,trivial⟩ ?_;have hcl:=uI b (show _<=_ by omega);have z:decide ((b.length:Int)=(n:Int))=true:=bR (by omega);have zz:=@z;repeat' (first|refine zW ?_|apply a_n|refine zO ?_|refine vY ?_|refine cTY ?_|fail)
  refine pt (evY) (evY) hcl (ac (bP _ _) al) ?_
  repeat' (first|apply a_n|apply a_r|refine zO ?_|refine vY ?_|refine blY ?_|refine au rfl ?_|refine r1Y ?_|fail)
  refine⟨?_,λx hx=>by cases hx;omega,λx hx hr=>by rw[ab (by omega),hfr x hr],by omega⟩;exact Row.box (sz:=1) nx 1 [aq b] ae rfl
 |succ k ih=>
  intro b s H nx hk hrow hbd;refine fO NU ?_;simp only[b88,aw];obtain⟨Hf,H0,hfz,hsn,hfr⟩:=Hv hrow;refine nM ?_;refine rh Hf H0 [(0,.int .i64 n),(1,aq b)] hfz ⟨.inl (evY),.inr hsn,trivial⟩ ?_;have z:decide ((b.length:Int)=(n:Int))=false:=bJ (by omega);have zz:=@z;repeat' (first|refine zW ?_|apply a_n|refine zO ?_|refine vY ?_|refine cFY ?_|fail)
  refine bq (X:=AV×Nat) (λx=>[(0,.int .i64 n),(1,aq b),(5,x.1),(14,.int .i64 n),(15,.int .i64 x.2)]) (λx H' nx'=>x.2<=n/\nx<=nx'/\Row H' 1 x.1 (((List.range x.2).flatMap λ(p:Nat)=>if (p:Int)∈b then [] else jh n k (b++[(p:Int)])).map aq)/\(∀y,bk x.1=some y->nx<=y/\y<nx')/\∀y,y<nx->H' y=H0 y) (λx=>n-x.2) (.esl,0) ⟨bo _,bc _,Row.nil,λy hy=>(by cases hy),λ_ _=>rfl⟩ ag0 ?_;rintro⟨out,p⟩ H1 nx1 ⟨hp,hnx,hro,hbo,hsm⟩;dsimp only at hp hro hbo |-;by_cases hp2:p<n
  rotate_left
  ·repeat' (first|refine zW ?_|apply a_n|apply a_x|refine zO ?_|refine vY ?_|(refine zGY ?_ ?_<;>(intro _hg;try (exfalso;omega)))|refine au rfl ?_|refine r1Y ?_|fail)
   obtain rfl:p=n:=by omega
   exact⟨hro,hbo,λx hx hr=>by rw[hsm x hx,hfr x hr],hnx⟩
  have hst:=EM (f:=λ(p:Nat)=>if (p:Int)∈b then [] else jh n k (b++[(p:Int)])) (k:=p);have hct:=BA b (p:Int) (show _<=_ by omega)
  have hlenA:((List.range p).flatMap λ(p:Nat)=>if (p:Int)∈b then [] else jh n k (b++[(p:Int)])).length<=3125*5:=by
   have key:∀l:List Nat,(l.flatMap λ(p:Nat)=>if (p:Int)∈b then [] else jh n k (b++[(p:Int)])).length<=l.length*3125:=by
    intro l
    induction l with
    |nil=>simp
    |cons a l ih2=>
     rw[lj,cP,ig,d8];have h2:=qh n hn k (b++[(a:Int)]);have h4:5^k<=5^5:=Nat.pow_le_pow_right (by omega) (by omega)
     have h3:(if (a:Int)∈b then [] else jh n k (b++[(a:Int)])).length<=5^k:=by
      split
      ·exact bo _
      ·exact h2
     omega
   have:=key (List.range p);rw[List.length_range] at this;omega
  generalize hA:((List.range p).flatMap λ(p:Nat)=>if (p:Int)∈b then [] else jh n k (b++[(p:Int)]))=A at *;by_cases hm:(p:Int)∈b
  ·rw[bR hm] at hct;rw[if_pos hm,jd] at hst
   repeat' (first|refine zW ?_|apply a_n|refine zO ?_|refine vY ?_|refine cY ?_ (hp:=hct)|refine cFY ?_|(refine zGY ?_ ?_<;>(intro _hg;try (exfalso;omega)))|fail)
   exact⟨(out,p+1),by dsimp only;omega,⟨by dsimp only;omega,hnx,by dsimp only;rw[hst];exact hro,hbo,hsm⟩,ag0⟩
  rw[bJ hm] at hct;rw[if_neg hm] at hst;have hpl:=qh n hn k (b++[(p:Int)]);have h4:5^k<=5^5:=Nat.pow_le_pow_right (by omega) (by omega)
  repeat' (first|refine zW ?_|apply a_n|refine zO ?_|refine vY ?_|refine cY ?_ (hp:=hct)|refine cTY ?_|(refine zGY ?_ ?_<;>(intro _hg;try (exfalso;omega)))|fail)
  refine ce (evY) (evY) (Gg b (by omega) H1 nx1) ?_;rintro r1 H2 n2 ⟨c1,c2,c3,c4⟩
  repeat' (first|apply a_n|refine zO ?_|refine vY ?_|refine blY ?_|fail)
  refine dY rfl ev0 (c1.same λy hy=>?_) ev0 rN rfl rfl jf (by rw[bi];omega) (by rw[bi];omega) ?_
  ·have:=c2 y hy;rw[ab (by omega)]
  rintro r2 H3 n3 d1 d2 d3 d4 d5;have d1':Row H3 1 r2 ((b++[(p:Int)]).map (AV.int .i64)):=by rw[dp];exact d1
  have db:∀x,bk r2=some x->nx1<=x/\x<n3:=λx hx=>by
   rcases d5 x hx with h|h
   ·have:=c2 x h;omega
   ·omega
  refine ce (evY) (evY) (ih (b++[(p:Int)]) r2 H3 n3 (by simp;omega) d1' (λx hx=>(db x hx).2)) ?_;rintro r3 H4 n4 ⟨e1,e2,e3,e4⟩
  have f3:∀x,x<nx1->H3 x=H1 x:=λx hx=>by
   rw[d4 x (by omega) (λh=>by have:=c2 x h;omega),ab (by omega),c3 x hx]
  have f4:∀x,x<nx1->H4 x=H1 x:=λx hx=>by
   rw[e3 x (by omega) (λh=>by have:=db x h;omega),f3 x hx]
  have hro4:Row H4 1 out (A.map aq):=hro.same λy hy=>f4 y (hbo y hy).2;have hsrc:=(Km e1 (λx hx=>(e2 x hx).2)).2 H4 (λ_ _=>rfl);generalize jh n k (b++[(p:Int)])=Q at *
  skip
  refine dY (k:=Q.length) (new:=Q.map aq) rfl ev0 hro4 ev0 hsrc lW (by simp) jf (by rw[bi];omega) (by rw[bi];omega) ?_;rintro o2 H5 n5 g1 g2 g3 g4 g5
  repeat' (first|apply a_n|refine zO ?_|refine vY ?_|fail)
  refine⟨(o2,p+1),by dsimp only;omega,⟨by dsimp only;omega,by omega,?_,λy hy=>?_,λy hy=>?_⟩,ag0⟩
  ·dsimp only;rw[hst,dp];exact g1
  ·rcases g5 y hy with h|h
   ·have:=hbo y h;omega
   ·omega
  ·rw[g4 y (by omega) (λh=>by have:=hbo y h;omega),f4 y (by omega),hsm y hy]
theorem Qm(n:Nat)(h1:1<=n)(h5:n<=5):pU 53 [.int .i64 n] (.tup [ay (kg n),.int .i64 0]):=by
 refine pO Sg ?_;simp only[b53,aw];have hn:=AU n;rw[if_neg (by omega)] at hn
 repeat' (first|refine zW ?_|apply a_n|refine zO ?_|refine vY ?_|refine cY ?_ (hp:=hn)|(refine zGY ?_ ?_<;>(intro _hg;try (exfalso;omega)))|fail)
 refine ce (evY) (evY) (NW n h5 n [] .esl _ _ (by simp) Row.nil (λx hx=>(by cases hx))) ?_;rintro r H1 n1 ⟨e1,e2,e3,e4⟩
 repeat' (first|apply a_n|refine zO ?_|refine vY ?_|refine au rfl ?_|refine r2Y ?_|fail)
 exact bE (ac e1.snapV (ac (.int _ _) al))
theorem EA(x y:List CaseV)(p:CaseV->CaseV->Bool)(g:Nat)(caps:List AV)(hd:∀z∈caps,Dat z)(hx:Sh x)(hy:Sh y)(hg:∀c∈x,∀d∈y,pU g (.agg [aq c.inp,ay c.out,ay c.calm]::.agg [aq d.inp,ay d.out,ay d.calm]::caps) (.bool (p c d))):pU 95 [bw x,bw y,.func g caps] (.bool (eqF p x y)):=by
 refine pO Sn ?_;simp only[b95,aw];have hx':x.length<=17592186044416:=hx;have hy':y.length<=17592186044416:=hy;unfold eqF;by_cases hlen:x.length=y.length
 rotate_left
 ·have z:decide ((x.length:Int)≠y.length)=true:=bR (by omega);rw[bJ hlen,Bool.false_and];have zz:=aI @z (aI @aG (aI @aA @aJ));repeat' (first|refine zW ?_|apply a_n|apply a_r|refine zO ?_|refine vZ ?_|refine cTZ ?_|refine au rfl ?_|refine r1Z ?_|fail)
  exact .bool _
 rw[bR hlen,Bool.true_and];have z:decide ((x.length:Int)≠y.length)=false:=bJ (by omega);have zz:=aI @z (aI @aG (aI @aA @aJ));repeat' (first|refine zW ?_|apply a_n|refine zO ?_|refine vZ ?_|refine cFZ ?_|fail)
 refine bq (X:=Nat) (λk=>[(0,bw x),(1,bw y),(2,.func g caps),(15,bw x),(16,.int .i64 x.length),(17,.int .i64 k)]) (λk H nx=>k<=x.length/\∀i,i<k->p (x.getD i default) (y.getD i default)=true) (λk=>x.length-k) 0 ⟨bo _,λi h=>absurd h (by omega)⟩ ag0 ?_;rintro k H nx ⟨hk,hz⟩;by_cases hk2:k<x.length
 rotate_left
 ·rw[dQ.2 (λi hi=>hz i (by have:=eM.1 hi;omega))]
  repeat' (first|refine zW ?_|apply a_n|apply a_x|refine zO ?_|refine vY ?_|(refine zGY ?_ ?_<;>(intro _hg;try (exfalso;omega)))|refine au rfl ?_|refine r1Y ?_|fail)
  exact .bool _
 have ix:=bL hk2;have iy:=bL (l:=y) (k:=k) (by omega);have hc:=hg _ (ao hk2) _ (ao (l:=y) (k:=k) (by omega));have dx:=um (x.getD k default);have dy:=um (y.getD k default);unfold fF at dx dy
 have hbad:p (x.getD k default) (y.getD k default)=false->(List.range x.length).all (λi=>p (x.getD i default) (y.getD i default))=false:=λh=>by
  rw[Bool.eq_false_iff,ne_eq,dQ];intro h2;have:=h2 k (eM.2 hk2);rw[h] at this;cases this
 have hnext:p (x.getD k default) (y.getD k default)=true->∀i,i<k+1->p (x.getD i default) (y.getD i default)=true:=λh i hi=>by
  rcases lL.1 hi with h'|rfl
  ·exact hz i h'
  ·exact h
 cases hb:p (x.getD k default) (y.getD k default)
 ·rw[hb] at hc;rw[hbad hb];clear zz;have zz:=aI @aG (aI @aA (aI @aJ (aI @ix @iy)));repeat' (first|refine zW ?_|apply a_n|apply a_r|refine zO ?_|refine vY ?_|refine cY ?_ (hp:=hc) (hs:=by(first|refine bK ?_ rfl|apply bC);(repeat' (first|exact al|apply fj|apply cU|exact dx|exact dy|exact di hd));first|done|fail)|refine alY ?_|refine stY ?_|refine cTY ?_|(refine zGY ?_ ?_<;>(intro _hg;try (exfalso;omega)))|refine au rfl ?_|refine r1Y ?_|fail)
  exact .bool _
 ·rw[hb] at hc;clear zz;have zz:=aI @aG (aI @aA (aI @aJ (aI @ix @iy)));repeat' (first|refine zW ?_|apply a_n|refine zO ?_|refine vY ?_|refine cY ?_ (hp:=hc) (hs:=by(first|refine bK ?_ rfl|apply bC);(repeat' (first|exact al|apply fj|apply cU|exact dx|exact dy|exact di hd));first|done|fail)|refine alY ?_|refine stY ?_|refine cFY ?_|(refine zGY ?_ ?_<;>(intro _hg;try (exfalso;omega)))|fail)
  exact⟨k+1,by omega,⟨by omega,hnext hb⟩,ag0⟩
theorem DW(x y:List (List Int))(hx:Sh x)(hy:Sh y)(hxs:∀v∈x,Sh v)(hys:∀v∈y,Sh v):pU 92 [ay x,ay y] (.bool (decide (x=y))):=by
 refine pO Sb ?_;simp only[b92,aw];have hE:=D8 x y hx hy hxs hys
 repeat' (first|refine zW ?_|apply a_n|refine zO ?_|refine vZ ?_|refine cZ ?_ (hp:=hE) (hs:=by(first|refine bK ?_ rfl|apply bC);(repeat' (first|exact al|apply fj|apply cU|exact Dat.func DatL.nil));first|done|fail)|refine au rfl ?_|refine r1Z ?_|fail)
 exact .bool _
theorem IU(c d:CaseV)(hc:ShC c)(hd:ShC d):pU 96 [.agg [aq c.inp,ay c.out,ay c.calm],.agg [aq d.inp,ay d.out,ay d.calm],.iptr [.func 92 []] 0] (.bool (decide (c=d))):=by
 refine pO R1 ?_;simp only[b96,aw];have h1:=qU c.inp d.inp hc.1 hd.1;have h2:=DW c.out d.out hc.2.1 hd.2.1 hc.2.2.1 hd.2.2.1;have h3:=DW c.calm d.calm hc.2.2.2.1 hd.2.2.2.1 hc.2.2.2.2 hd.2.2.2.2;by_cases e1:c.inp=d.inp
 rotate_left
 ·rw[bJ e1] at h1;rw[bJ (p:=c=d) (λh=>e1 (qz.1 h).1)];have zz:=@dX;repeat' (first|refine zW ?_|apply a_n|refine zO ?_|refine vZ ?_|refine cZ ?_ (hp:=h1)|refine bxZ ?_|refine gFZ ?_|refine au rfl ?_|refine r1Z ?_|fail)
  exact .bool _
 rw[bR e1] at h1;by_cases e2:c.out=d.out
 rotate_left
 ·rw[bJ e2] at h2;rw[bJ (p:=c=d) (λh=>e2 (qz.1 h).2.1)];have zz:=@dX;repeat' (first|refine zW ?_|apply a_n|refine zO ?_|refine vZ ?_|refine cZ ?_ (hp:=by first|exact h1|exact h2)|refine bxZ ?_|refine gTZ ?_|refine gFZ ?_|refine au rfl ?_|refine r1Z ?_|fail)
  exact .bool _
 rw[bR e2] at h2;by_cases e3:c.calm=d.calm
 ·rw[bR e3] at h3;rw[bR (p:=c=d) (qz.2 ⟨e1,e2,e3⟩)];have zz:=@dX;repeat' (first|refine zW ?_|apply a_n|refine zO ?_|refine vZ ?_|refine cZ ?_ (hp:=by first|exact h1|exact h2|exact h3)|refine bxZ ?_|refine gTZ ?_|refine au rfl ?_|refine r1Z ?_|fail)
  exact .bool _
 ·rw[bJ e3] at h3;rw[bJ (p:=c=d) (λh=>e3 (qz.1 h).2.2)];have zz:=@dX;repeat' (first|refine zW ?_|apply a_n|refine zO ?_|refine vZ ?_|refine cZ ?_ (hp:=by first|exact h1|exact h2|exact h3)|refine bxZ ?_|refine gTZ ?_|refine au rfl ?_|refine r1Z ?_|fail)
  exact .bool _
theorem IB(a b:TaskV)(ha:∀c∈a.cases,ShC c)(ha2:Sh a.cases)(hb:∀c∈b.cases,ShC c)(hb2:Sh b.cases):pU 57 [gF a,gF b] (.bool (decide (a=b))):=by
 refine pO R9 ?_;simp only[b57,aw];have hE:=EA a.cases b.cases (λc d=>decide (c=d)) 96 [.iptr [.func 92 []] 0] (DatL.cons (Dat.iptr (DatL.cons (Dat.func DatL.nil) DatL.nil)) DatL.nil) ha2 hb2 (λc hc d hd=>IU c d (ha c hc) (hb d hd));rw[M5] at hE;unfold gF;by_cases e1:a.n=b.n
 rotate_left
 ·have z:decide (a.n=b.n)=false:=bJ e1;rw[bJ (p:=a=b) (λh=>e1 (lY.1 h).1)];have zz:=aI @z (aI @aG @aA);repeat' (first|refine zW ?_|apply a_n|refine zO ?_|refine vZ ?_|refine alZ ?_|refine bxZ ?_|refine stZ ?_|refine gFZ ?_|refine au rfl ?_|refine r1Z ?_|fail)
  exact .bool _
 have z1:decide (a.n=b.n)=true:=bR e1;by_cases e2:a.ins=b.ins
 rotate_left
 ·have z:decide (a.ins=b.ins)=false:=bJ e2;rw[bJ (p:=a=b) (λh=>e2 (lY.1 h).2.1)];have zz:=aI @z1 (aI @z (aI @aG @aA));repeat' (first|refine zW ?_|apply a_n|refine zO ?_|refine vZ ?_|refine alZ ?_|refine bxZ ?_|refine stZ ?_|refine gTZ ?_|refine gFZ ?_|refine au rfl ?_|refine r1Z ?_|fail)
  exact .bool _
 have z2:decide (a.ins=b.ins)=true:=bR e2;by_cases e3:a.outs=b.outs
 rotate_left
 ·have z:decide (a.outs=b.outs)=false:=bJ e3;rw[bJ (p:=a=b) (λh=>e3 (lY.1 h).2.2.1)];have zz:=aI @z1 (aI @z2 (aI @z (aI @aG @aA)));repeat' (first|refine zW ?_|apply a_n|refine zO ?_|refine vZ ?_|refine alZ ?_|refine bxZ ?_|refine stZ ?_|refine gTZ ?_|refine gFZ ?_|refine au rfl ?_|refine r1Z ?_|fail)
  exact .bool _
 have z3:decide (a.outs=b.outs)=true:=bR e3;rw[show decide (a=b)=decide (a.cases=b.cases) from decide_eq_decide.2 ⟨λh=>(lY.1 h).2.2.2,λh=>lY.2 ⟨e1,e2,e3,h⟩⟩];have zz:=aI @z1 (aI @z2 (aI @z3 (aI @aG @aA)));repeat' (first|refine zW ?_|apply a_n|refine zO ?_|refine vZ ?_|refine alZ ?_|refine bxZ ?_|refine stZ ?_|refine gTZ ?_|fail)
 refine eJ ev0 ev0 hE (bK (by(repeat' (first|exact al|exact Dat.snap Dat.int|exact Dat.snap Dat.bool|exact Dat.snap Dat.str|exact Dat.snap Dat.esl|exact Dat.snap Dat.nilf|exact Dat.snap (bP _)|exact Dat.snap (bS _)|exact ib _ _|apply ac|apply iT|apply ru|(apply fU;(focus ((try simp only[bg,ZA,reduceEqDiff,↓reduceIte,reduceAdd,reduceLeDiff]);with_reducible rfl));(focus rfl))))) rfl) ?_
 repeat' (first|apply a_n|refine zO ?_|refine vZ ?_|refine au rfl ?_|refine r1Z ?_|fail)
 exact .bool _
end
theorem Jj{t:TaskV}{p:List Int}(h:ba t=0)(fit:Fit t)(hp:be p=0)(hn:(p.length:Int)=t.n):(∀c∈(d7 t p).cases,ShC c)/\Sh (d7 t p).cases:=by
 have:=JP fit.sh fit.sh2 (cC hp).2.1 (CX h hn);exact⟨this.2,this.1⟩
def Ok(t:TaskV):Prop:=Sh t.cases/\∀c∈t.cases,ShC c
theorem El{c:CaseV}{f:Int}(h:1<=c.out.length):1<=(j3 c f).length:=by
 unfold j3;split
 ·rename_i k;exact k.2
 ·exact h
theorem AK{t:TaskV}(h:ba t=0):t.cases.Pairwise λc d=>c.inp≠d.inp:=by
 rw[nw];intro i j hi hj hij e;have:=k9 h j i hij hj;rw[show t.cases.getD i default=t.cases[i] by simp[List.getD,hi],show t.cases.getD j default=t.cases[j] by simp[List.getD,hj],e,eH] at this;omega
theorem Ax{l:List CaseV}(h:l.Pairwise λc d=>c.inp≠d.inp):l.Nodup:=List.nodup_iff_pairwise_ne.2 (List.Pairwise.imp (λ{a b} h e=>h (by rw[e])) h)
theorem CN{a b:TaskV}(ha:ba a=0)(hb:ba b=0)(h1:a.n=b.n)(h2:a.ins=b.ins)(h3:a.outs=b.outs)(h:∀c,c∈a.cases↔c∈b.cases):a=b:=
 lY.2 ⟨h1,h2,h3,List.Perm.eq_of_pairwise (λx y hx hy k1 k2=>A3 ha hx ((h y).2 hy) (kK k2 k1)) (mX ha) (mX hb) ((List.perm_ext_iff_of_nodup (Ax (AK ha)) (Ax (AK hb))).2 h)⟩
section
variable{a b:TaskV}(ha:ba a=0)(hb:ba b=0)(hn:b.n=a.n)(fa:Fit30 a)(fb:Fit30 b)
include ha hb
include hn fa fb
end
section
variable{a b:TaskV}(ha:ba a=0)(hb:ba b=0)(hn:b.n=a.n)
include ha hb
include hn
end
section
variable{v w:List Int}{m o:Int}(hv:∀z∈v,0<=z/\z<o)(hw:∀z∈w,0<=z/\z<m)(hl:v.length=w.length)
include hv hw hl
end
section
variable{a b:TaskV}(ha:ba a=0)(hb:ba b=0)(hn:b.n=a.n)(fa:Fit30 a)(fb:Fit30 b)(ho:a.outs*b.outs<=8)
include ha
theorem a1{c:CaseV}(hc:c∈a.cases)(f:Int):1<=(j3 c f).length:=El (gV (js ha hc).2).1.1
include hb hn fa fb ho
end
structure Part(a b t:TaskV)(to:List Int)(S:CaseV->CaseV->CaseV):Prop where
 n:t.n=a.n
 len:(to.length:Int)=a.outs*b.outs
 rng:∀v∈to,0<=v/\v<t.outs
 mem:∀c∈a.cases,∀d∈b.cases,c.inp=d.inp->S c d∈t.cases/\(S c d).inp=c.inp
 all:∀e∈t.cases,∃c∈a.cases,∃d∈b.cases,c.inp=d.inp/\S c d=e
 out:∀c∈a.cases,∀d∈b.cases,c.inp=d.inp->L7 ((Lk b.outs c.out d.out).map (Qi to))=(S c d).out
 calm:∀c∈a.cases,∀d∈b.cases,c.inp=d.inp->L7 ((Lk b.outs (j3 c 0) (j3 d 0)).map (Qi to))=j3 (S c d) 0
section
variable{a b t:TaskV}{to:List Int}{S:CaseV->CaseV->CaseV}(ha:ba a=0)(hb:ba b=0)(ht:ba t=0)(hn:b.n=a.n)(fa:Fit30 a)(fb:Fit30 b)(ft:Fit30 t)(ho:a.outs*b.outs<=8)(hs:∀c∈a.cases,∃d∈b.cases,c.inp=d.inp)(P:Part a b t to S)
include P
include ht
include ha hb hs
include hn fa fb ho ft
end
section
variable{a b:TaskV}(ha:ba a=0)(hb:ba b=0)(hn:b.n=a.n)(hs:∀c∈a.cases,∃d∈b.cases,c.inp=d.inp)(hs2:∀d∈b.cases,∃c∈a.cases,c.inp=d.inp)
include ha hb hn hs
include hs2
end
theorem Fit.ok{t:TaskV}(h:Fit t):Ok t:=⟨h.sh2,h.sh⟩
def MW(a:TaskV)(to:List Int):Prop:=(to.length:Int)=a.outs/\∀v∈to,0<=v/\v<8
instance{a:TaskV}{to:List Int}:Decidable (MW a to):=by unfold MW;infer_instance
section
variable{a:TaskV}{to:List Int}(h:ba a=0)(hg:MW a to)
include h hg
end
theorem Bf{l:List Int}(h1:1<=l.length/\l.length<=5)(h2:∀i,i<l.length->0<=l.getD i default/\l.getD i default<l.length)(h3:∀i j,i<j->j<l.length->l.getD i default≠l.getD j default):be l=0:=by
 unfold be;rw[if_neg (by omega)];refine bV λi hi=>?_;unfold vV;rw[if_neg (by have:=h2 i hi;omega),if_neg];rw[qS];rintro⟨x,hx,e⟩;obtain⟨j,hj,rfl⟩:=fW hx;rw[iX] at hj;have e:=pB e;rw[List.getElem_take] at e;refine h3 j i (by omega) hi ?_;rw[<-e];simp[List.getD,show j<l.length by omega]
theorem vA{n:Nat}{p:List Int}(hl:p.length=n)(hr:∀i,i<p.length->0<=p.getD i default/\p.getD i default<p.length)(hd:∀i j,i<j->j<p.length->p.getD i default≠p.getD j default):∀k b,b.length+k=n->b=p.take b.length->p∈jh n k b
 |0,b,h1,h2=>by
  rw[ju (by omega)] at h2;rw[h2];exact gH.2 rfl
 |k+1,b,h1,h2=>by
  have hlt:b.length<p.length:=by omega
  have hq:=hr _ hlt;have hcast:((p.getD b.length default).toNat:Int)=p.getD b.length default:=Int.toNat_of_nonneg hq.1;refine List.mem_flatMap.2 ⟨(p.getD b.length default).toNat,eM.2 (by omega),?_⟩;rw[hcast,if_neg]
  ·refine vA hl hr hd k _ (by rw[cP,List.length_singleton];omega) ?_;rw[cP,List.length_singleton,gZ hlt,<-h2]
  ·intro hm;obtain⟨i,hi,e⟩:=fW hm;refine hd i b.length hi hlt ?_;rw[<-e];have:b[i]=(p.take b.length)[i]'(by rw[iX];omega):=by congr 1
   rw[this,List.getElem_take];simp[List.getD,show i<p.length by omega]
theorem sy{p:List Int}(hp:be p=0):p∈kg p.length:=by
 obtain⟨p1,p2,p3,p4⟩:=cC hp;exact vA rfl p3 p4 _ _ (by simp) rfl
theorem kP{n:Nat}(h1:1<=n)(h5:n<=5):be (idL n)=0:=
 Bf (by rw[cm];omega) (λi hi=>by rw[cm] at hi |-;rw[je hi];omega) λi j hij hj=>by rw[cm] at hj;rw[je hj,je (by omega)];omega
def dZ(p q:List Int):List Int:=q.map λx=>p.getD x.toNat default
theorem ct{p q:List Int}:(dZ p q).length=q.length:=by simp[dZ]
theorem ia{p q:List Int}{i:Nat}(h:i<q.length):(dZ p q).getD i default=p.getD (q.getD i default).toNat default:=by simp[dZ,List.getD,h]
section
variable{p q:List Int}(hp:be p=0)(hq:be q=0)(hl:q.length=p.length)
include hp hq hl
theorem gY:be (dZ p q)=0:=by
 obtain⟨p1,p2,p3,p4⟩:=cC hp;obtain⟨q1,q2,q3,q4⟩:=cC hq;refine Bf (by rw[ct];omega) (λi hi=>?_) λi j hij hj=>?_
 ·rw[ct] at hi |-;rw[ia hi,hl];have:=q3 i hi;exact p3 _ (by omega)
 ·rw[ct] at hj;rw[ia hj,ia (by omega)];have a1:=q3 i (by omega);have a2:=q3 j hj;have a3:=q4 i j hij hj;rcases vv (q.getD i default).toNat (q.getD j default).toNat with h|h|h
  ·exact p4 _ _ h (by omega)
  ·omega
  ·exact λe=>p4 _ _ h (by omega) e.symm
theorem mV{v:List Int}(hv:v.length=p.length):bX v (dZ p q)=bX (bX v q) p:=by
 have hc:=gY hp hq hl;obtain⟨q1,q2,q3,q4⟩:=cC hq;obtain⟨c1,c2,c3,c4⟩:=cC hc;rw[ct] at c3;refine List.ext_getElem (by rw[bN,bN,bN]) λi h1 h2=>?_;rw[bN] at h1;obtain⟨j,hj,e⟩:=jD hc (q:=i) (by rw[ct];omega);rw[ct] at hj;have e1:=fp hc (v:=v) (by rw[ct];omega) (i:=j) (by rw[ct];exact hj);have hqj:=q3 j hj;have e2:=fp hp (v:=bX v q) (by rw[bN];exact hv) (i:=(q.getD j default).toNat) (by omega);have e3:=fp hq (v:=v) (by omega) (i:=j) hj;rw[e3,<-ia hj,<-e1,e,c9] at e2;simpa[List.getD,h2,show i<(bX v (dZ p q)).length by rw[bN];exact h1] using e2.symm
theorem td{l:List (List Int)}(h:∀v∈l,v.length=p.length)(hu:∀i,i<l.length->cR l i=false):dj l (dZ p q)=dj (dj l q) p:=by
 have m1:=kA hq (l:=l) (λv hv=>by rw[h v hv,hl]) hu;refine Bv (pg (kA (gY hp hq hl) (λv hv=>by rw[ct,hl];exact h v hv) hu).2) (pg (kA hp (λv hv=>?_) m1.2).2) λx=>?_
 ·obtain⟨w,hw,rfl⟩:=fM.1 hv;rw[bN];exact h w hw
 ·rw[fM,fM];constructor
  ·rintro⟨v,hv,rfl⟩;exact⟨bX v q,fM.2 ⟨v,hv,rfl⟩,(mV hp hq hl (h v hv)).symm⟩
  ·rintro⟨w,hw,rfl⟩;obtain⟨v,hv,rfl⟩:=fM.1 hw;exact⟨v,hv,mV hp hq hl (h v hv)⟩
theorem xX{t:TaskV}(h:ba t=0)(hn:(p.length:Int)=t.n){c:CaseV}(hc:c∈t.cases):iv (dZ p q) c=iv p (iv q c):=by
 obtain⟨l1,l2,l3⟩:=md h hn hc;obtain⟨g1,g2,g3,g4,g5⟩:=gV (js h hc).2;unfold iv;dsimp only;rw[mV hp hq hl l1,td hp hq hl l2 g3,td hp hq hl l3 g5]
theorem FL{t:TaskV}(h:ba t=0)(hn:(p.length:Int)=t.n):d7 t (dZ p q)=d7 (d7 t q) p:=by
 have hnq:(q.length:Int)=t.n:=by omega
 refine CN (lg h (gY hp hq hl) (by rw[ct];exact hnq)) (lg (lg h hq hnq) hp hn) rfl rfl rfl λc=>?_;rw[mY,mY];constructor
 ·rintro⟨d,hd,rfl⟩;exact⟨iv q d,mY.2 ⟨d,hd,rfl⟩,(xX hp hq hl h hn hd).symm⟩
 ·rintro⟨e,he,rfl⟩;obtain⟨d,hd,rfl⟩:=mY.1 he;exact⟨d,hd,xX hp hq hl h hn hd⟩
end
section
variable{t:TaskV}(h:ba t=0)
include h
theorem qP{n:Nat}(h1:1<=n)(h5:n<=5){v:List Int}(hv:v.length=n):bX v (idL n)=v:=by
 have _:=h;have hp:=kP h1 h5;refine List.ext_getElem (bN _ _) λi k1 k2=>?_;have e:=fp hp (v:=v) (by rw[cm];exact hv) (i:=i) (by rw[cm];omega);rw[je (by omega),c9] at e;simpa[List.getD,k1,k2] using e
theorem KJ:d7 t (idL t.n.toNat)=t:=by
 have nn:=n9 h;have hp:=kP (n:=t.n.toNat) (by omega) (by omega);have hl:((idL t.n.toNat).length:Int)=t.n:=by rw[cm];omega
 have hc:∀c∈t.cases,iv (idL t.n.toNat) c=c:=λc hc=>by
  obtain⟨l1,l2,l3⟩:=md h hl hc;rw[cm] at l1 l2 l3;obtain⟨g1,g2,g3,g4,g5⟩:=gV (js h hc).2
  have key:∀{l:List (List Int)},(∀v∈l,v.length=t.n.toNat)->(∀i,i<l.length->cR l i=false)->dj l (idL t.n.toNat)=l:=λ{l} k1 k2=>by
   refine Bv (pg (kA hp (λv hv=>by rw[cm];exact k1 v hv) k2).2) (pg k2) λx=>?_;rw[fM];constructor
   ·rintro⟨v,hv,rfl⟩;rw[qP h (by omega) (by omega) (k1 v hv)];exact hv
   ·intro hx;exact⟨x,hx,qP h (by omega) (by omega) (k1 x hx)⟩
  unfold iv;rw[qP h (by omega) (by omega) l1,key l2 g3,key l3 g5]
 refine CN (lg h hp hl) h rfl rfl rfl λc=>?_;rw[mY];constructor
 ·rintro⟨d,hd,rfl⟩;rw[hc d hd];exact hd
 ·intro hm;exact⟨c,hm,hc c hm⟩
theorem J1:idL t.n.toNat∈zb t:=by
 have nn:=n9 h;have hp:=kP (n:=t.n.toNat) (by omega) (by omega);have hm:=sy hp;rw[cm] at hm;exact ik.2 ⟨hm,bR (KJ h).symm⟩
theorem ql{p:List Int}(hp:p∈zb t):be p=0/\(p.length:Int)=t.n/\d7 t p=t:=by
 obtain⟨h1,h2⟩:=ik.1 hp;obtain⟨h3,h4⟩:=v7 h h1;exact⟨h3,h4,(pB h2).symm⟩
end
theorem kE(m p:Nat):hasFl (m:Int) p=m.testBit p:=by
 rw[Nat.testBit_eq_decide_div_mod_eq];unfold hasFl;rw[show(m:Int)/((2^p:Nat):Int)=((m/2^p:Nat):Int) from rfl];generalize m/2^p=x;exact decide_eq_decide.2 (by omega)
def rV(p:List Int)(s:Nat):Nat->Nat
 |0=>0
 |k+1=>rV p s k ||| s/2^k%2*2^(p.getD k default).toNat
theorem N8(s k:Nat):s/2^k%2=if s.testBit k=true then 1 else 0:=by
 rw[Nat.testBit_eq_decide_div_mod_eq];by_cases h:s/2^k%2=1
 ·rw[bR h,if_pos rfl];exact h
 ·rw[bJ h,if_neg (by decide)];omega
theorem wg(p:List Int)(s:Nat):∀k j,(rV p s k).testBit j=true↔ ∃i,i<k/\s.testBit i=true/\(p.getD i default).toNat=j
 |0,j=>by
  rw[rV,Nat.zero_testBit];exact⟨λh=>(by cases h),λ⟨i,h,_⟩=>absurd h (Nat.not_lt_zero _)⟩
 |k+1,j=>by
  rw[rV,Nat.testBit_or,lU,wg p s k j,N8];constructor
  ·rintro(⟨i,h1,h2,h3⟩|h)
   ·exact⟨i,by omega,h2,h3⟩
   ·by_cases hb:s.testBit k=true
    ·rw[if_pos hb,Nat.one_mul,Nat.testBit_two_pow,gq] at h;exact⟨k,by omega,hb,h⟩
    ·rw[if_neg hb,nA,Nat.zero_testBit] at h;cases h
  ·rintro⟨i,h1,h2,h3⟩;by_cases e:i=k
   ·subst e;right;rw[if_pos h2,Nat.one_mul,Nat.testBit_two_pow,gq];exact h3
   ·exact .inl ⟨i,by omega,h2,h3⟩
theorem yu{p:List Int}(hp:be p=0)(s:Nat):∀k,k<=p.length->rV p s k<2^p.length
 |0,_=>by rw[rV];exact Nat.two_pow_pos _
 |k+1,h=>by
  obtain⟨p1,p2,p3,p4⟩:=cC hp;have h3:=p3 k (by omega);rw[rV];refine Nat.or_lt_two_pow (yu hp s k (by omega)) ?_;have:(2:Nat)^(p.getD k default).toNat<2^p.length:=Nat.pow_lt_pow_right (by omega) (by omega);have hm:s/2^k%2<2:=Nat.mod_lt _ (by omega);have hpos:=Nat.two_pow_pos p.length;rcases(by omega:s/2^k%2=0\/s/2^k%2=1) with e|e<;>rw[e]<;>omega
def ji(p:List Int)(f:Int):Int:=(rV p f.toNat p.length:Nat)
theorem mz{p:List Int}(hp:be p=0){f:Int}(h0:0<=f){i:Nat}(hi:i<p.length):hasFl (ji p f) (p.getD i default).toNat=hasFl f i:=by
 obtain⟨p1,p2,p3,p4⟩:=cC hp;obtain⟨m,rfl⟩:∃m:Nat,f=m:=⟨f.toNat,by omega⟩
 unfold ji;rw[kE,kE,c9];rw[Bool.eq_iff_iff,wg];constructor
 ·rintro⟨j,h1,h2,h3⟩;have a:=p3 j h1;have b:=p3 i hi;rcases vv i j with h|h|h
  ·exact absurd (by omega) (p4 i j h h1)
  ·rw[h];exact h2
  ·exact absurd (by omega) (p4 j i h hi)
 ·intro h;exact⟨i,hi,h,rfl⟩
theorem pk{p:List Int}(hp:be p=0)(f:Int):0<=ji p f/\ji p f<((2^p.length:Nat):Int):=by
 have:=yu hp f.toNat p.length (bc _);unfold ji;omega
theorem zQ{a b:Int}{n:Nat}(ha:0<=a/\a<((2^n:Nat):Int))(hb:0<=b/\b<((2^n:Nat):Int))(h:∀i,i<n->hasFl a i=hasFl b i):a=b:=by
 obtain⟨x,rfl⟩:∃x:Nat,a=x:=⟨a.toNat,by omega⟩
 obtain⟨y,rfl⟩:∃y:Nat,b=y:=⟨b.toNat,by omega⟩
 have:x=y:=Nat.eq_of_testBit_eq λi=>by
  by_cases hi:i<n
  ·have:=h i hi;rwa [kE,kE] at this
  ·have e:(2:Nat)^n<=2^i:=Nat.pow_le_pow_right (by omega) (by omega);rw[Nat.testBit_lt_two_pow (by omega),Nat.testBit_lt_two_pow (by omega)]
 rw[this]
theorem xA{p q:List Int}(hp:be p=0)(hq:be q=0)(hl:q.length=p.length){f:Int}(h0:0<=f):ji (dZ p q) f=ji p (ji q f):=by
 have hc:be (dZ p q)=0:=gY hp hq hl;have hcl:(dZ p q).length=p.length:=by rw[ct];exact hl
 refine zQ (n:=p.length) (by have:=pk hc f;rwa [hcl] at this) (pk hp _) λj hj=>?_;obtain⟨i,hi,e⟩:=jD hc (q:=j) (by omega);have h1:=mz hc h0 hi;rw[e,c9] at h1;rw[h1];have hi':i<q.length:=by rw[ct] at hi;exact hi
 obtain⟨-,-,q3,-⟩:=cC hq;have hqi:=q3 i hi';rw[ia hi'] at e;have h2:=mz hp (pk hq f).1 (i:=(q.getD i default).toNat) (by omega);rw[e,c9] at h2;rw[h2,mz hq h0 hi']
theorem Dj{n:Nat}(h1:1<=n)(h5:n<=5){f:Int}(hf:0<=f/\f<((2^n:Nat):Int)):ji (idL n) f=f:=by
 have hp:=kP h1 h5;refine zQ (n:=n) (by have:=pk hp f;rwa [cm] at this) hf λi hi=>?_;have:=mz hp hf.1 (i:=i) (by rw[cm];exact hi)
 rwa [je hi,c9] at this
theorem GQ{p:List Int}(hp:be p=0){a b:Int}(ha:0<=a/\a<((2^p.length:Nat):Int))(hb:0<=b)(h:∀i,i<p.length->hasFl a i=true->hasFl b i=true):∀j,hasFl (ji p a) j=true->hasFl (ji p b) j=true:=λj hj=>by
 obtain⟨m,rfl⟩:∃m:Nat,a=m:=⟨a.toNat,by omega⟩
 have hj2:=hj;unfold ji at hj2;rw[kE,c9,wg] at hj2;obtain⟨i,h1,h2,rfl⟩:=hj2;rw[mz hp hb h1];exact h i h1 (by rw[kE];exact h2)
section
variable{p:List Int}(hp:be p=0){f:Nat}
include hp
end
def l4(p:List Int)(r:RndV)(q:Nat):Int:=if q<p.length then ji p (r.hs.getD ((fi p).getD q default).toNat 0) else 0
def dG(p:List Int)(r:RndV):RndV:=⟨r.n,l4 p r 0,l4 p r 1,l4 p r 2,l4 p r 3,l4 p r 4,ji p r.f⟩
theorem u9{p:List Int}{r:RndV}:∀{q:Nat},q<5->(dG p r).hs.getD q 0=l4 p r q
 |0,_=>rfl
 |1,_=>rfl
 |2,_=>rfl
 |3,_=>rfl
 |4,_=>rfl
 |q+5,h=>absurd h (by omega)
theorem ua{p:List Int}(hp:be p=0){r:RndV}{i:Nat}(hi:i<p.length):(dG p r).hs.getD (p.getD i default).toNat 0=ji p (r.hs.getD i 0):=by
 obtain⟨p1,p2,p3,p4⟩:=cC hp;have h3:=p3 i hi;rw[u9 (by omega)];unfold l4;rw[if_pos (by omega),oM hp hi,c9]
theorem Iw{p:List Int}(hp:be p=0){q:Nat}(hq:q<p.length):∃i:Nat,i<p.length/\(fi p).getD q default=(i:Int)/\p.getD i default=(q:Int):=by
 obtain⟨i,hi,e⟩:=jD hp hq;refine⟨i,hi,?_,e⟩;have:=oM hp hi
 rwa [e,c9] at this
theorem yZ{p:List Int}{n:Int}(h:(p.length:Int)=n):pw n=((2^p.length:Nat):Int):=rn h.symm
theorem JL{p:List Int}(hp:be p=0){r:RndV}(hr:gu r=0)(hn:(p.length:Int)=r.n):gu (dG p r)=0:=by
 obtain⟨h1,h2,h3⟩:=eX hr;obtain⟨g1,g2,g3⟩:=i7 h1
 have hg:j0 (dG p r)=0:=by
  unfold j0;rw[if_neg (by show ¬(r.n<1\/5<r.n);omega)];refine bV λq hq=>?_;unfold mC;rw[u9 hq];by_cases hq2:q<p.length
  ·rw[if_neg (by show ¬(r.n<=(q:Int));omega)];obtain⟨i,i1,i2,i3⟩:=Iw hp hq2;obtain⟨-,g5⟩:=g3 i (by omega);have g5:=g5 (by omega);have hl:=pk hp (r.hs.getD i 0);have e:l4 p r q=ji p (r.hs.getD i 0):=by unfold l4;rw[if_pos hq2,i2,c9]
   have hpw:=yZ hn;have hh:=mz hp g5.1 i1;rw[i3,c9,g5.2.2] at hh;rw[e,if_neg (by show ¬(ji p (r.hs.getD i 0)<0\/pw r.n-1<ji p (r.hs.getD i 0));omega),if_pos hh]
  ·rw[if_pos (by show r.n<=(q:Int);omega)];unfold l4;rw[if_neg hq2,if_pos rfl]
 unfold gu;rw[if_neg (by rw[hg];decide)];unfold GZ;have hl:=pk hp r.f;have hpw:=yZ hn;rw[if_neg (by show ¬(r.n<1\/5<r.n);omega),if_neg (by show ¬(ji p r.f<0\/pw r.n<=ji p r.f);omega)]
def mdC(n:Int)(f:Nat->Int)(k:Nat):List AV:=[.int .i64 n,.int .i64 (if 0<k then f 0 else 0),.int .i64 (if 1<k then f 1 else 0),.int .i64 (if 2<k then f 2 else 0),.int .i64 (if 3<k then f 3 else 0),.int .i64 (if 4<k then f 4 else 0)]
theorem KA{n:Int}{f:Nat->Int}:∀{k:Nat},k<5->cI (mdC n f k) (1+k) [.int .i64 (f k)]=mdC n f (k+1)
 |0,_=>rfl
 |1,_=>rfl
 |2,_=>rfl
 |3,_=>rfl
 |4,_=>rfl
 |k+5,h=>absurd h (by omega)
theorem Ds{r s:RndV}(h1:r.n=s.n)(h2:∀q,q<5->r.hs.getD q 0=s.hs.getD q 0)(h3:r.f=s.f):r=s:=by
 obtain⟨n,a,b,c,d,e,f⟩:=r;obtain⟨n',a',b',c',d',e',f'⟩:=s;have k0:a=a':=h2 0 (by omega);have k1:b=b':=h2 1 (by omega);have k2:c=c':=h2 2 (by omega);have k3:d=d':=h2 3 (by omega);have k4:e=e':=h2 4 (by omega);have h1:n=n':=h1;have h3:f=f':=h3;subst k0 k1 k2 k3 k4 h1 h3;rfl
structure RdOk(n:Nat)(r:RndV):Prop where
 e:gu r=0
 n:r.n=(n:Nat)
theorem RdOk.row{n:Nat}{r:RndV}(h:RdOk n r){i:Nat}(hi:i<n):0<=r.hs.getD i 0/\r.hs.getD i 0<((2^n:Nat):Int):=by
 obtain⟨h1,h2,h3⟩:=eX h.e;obtain⟨g1,g2,g3⟩:=i7 h1;have hn:=h.n;have:=(g3 i (by omega)).2 (by omega);rw[rn hn] at this;exact⟨this.1,this.2.1⟩
theorem RdOk.out{n:Nat}{r:RndV}(h:RdOk n r){i:Nat}(hi:n<=i)(h5:i<5):r.hs.getD i 0=0:=by
 obtain⟨h1,h2,h3⟩:=eX h.e;obtain⟨g1,g2,g3⟩:=i7 h1;have hn:=h.n;exact(g3 i h5).1 (by omega)
theorem RdOk.flt{n:Nat}{r:RndV}(h:RdOk n r):0<=r.f/\r.f<((2^n:Nat):Int):=by
 obtain⟨h1,h2,h3⟩:=eX h.e;rw[rn h.n] at h3;exact⟨h2,h3⟩
theorem ww{p:List Int}{r:RndV}{q:Nat}(hq:p.length<=q)(h5:q<5):(dG p r).hs.getD q 0=0:=by
 rw[u9 h5];unfold l4;rw[if_neg (by omega)]
theorem wV{p q:List Int}(hp:be p=0)(hq:be q=0)(hl:q.length=p.length){r:RndV}(h:RdOk p.length r):dG (dZ p q) r=dG p (dG q r):=by
 have hc:be (dZ p q)=0:=gY hp hq hl;have hcl:(dZ p q).length=p.length:=by rw[ct];exact hl
 refine Ds rfl (λj hj=>?_) (xA hp hq hl h.flt.1);by_cases hj2:j<p.length
 ·obtain⟨i,hi,e⟩:=jD hc (q:=j) (by omega);have hi':i<q.length:=by rw[ct] at hi;exact hi
  have h1:=ua hc (r:=r) hi;rw[e,c9] at h1;obtain⟨-,-,q3,-⟩:=cC hq;have hqi:=q3 i hi';rw[ia hi'] at e;have h2:=ua hp (r:=dG q r) (i:=(q.getD i default).toNat) (by omega);rw[e,c9,ua hq hi'] at h2;rw[h1,h2,xA hp hq hl (h.row (by omega)).1]
 ·rw[ww (by omega) hj,ww (by omega) hj]
theorem zg{n:Nat}(h1:1<=n)(h5:n<=5){r:RndV}(h:RdOk n r):dG (idL n) r=r:=by
 have hp:=kP h1 h5;have hl:=cm n;refine Ds rfl (λj hj=>?_) (Dj h1 h5 h.flt);by_cases hj2:j<n
 ·have:=ua hp (r:=r) (i:=j) (by omega);rw[je hj2,c9] at this;rw[this,Dj h1 h5 (h.row hj2)]
 ·rw[ww (by omega) hj,h.out (by omega) hj]
theorem Fv{p:List Int}(hp:be p=0):dZ (fi p) p=idL p.length:=by
 refine List.ext_getElem (by rw[ct,cm]) λi h1 h2=>?_;have hi:i<p.length:=by rw[ct] at h1;exact h1
 have e:=ia (p:=fi p) hi;rw[oM hp hi,<-je hi] at e;simpa[List.getD,h1,h2] using e
theorem qw{p:List Int}(hp:be p=0){r:RndV}(h:RdOk p.length r):dG (fi p) (dG p r)=r:=by
 obtain⟨p1,p2,-,-⟩:=cC hp;have hi:=pd hp;have hil:=fS (p:=p);rw[<-wV hi hp hil.symm (by rw[hil];exact h),Fv hp,zg p1 p2 h]
theorem qH{p:List Int}(hp:be p=0){r s:RndV}(hr:RdOk p.length r)(hs:RdOk p.length s)(h:dG p r=dG p s):r=s:=by
 rw[<-qw hp hr,<-qw hp hs,h]
def KM(x y:MvV):Int:=aD x.r.ints y.r.ints
def nc(p:List Int)(m:MvV):MvV:=⟨dG p m.r,m.to⟩
def lr(p:List Int)(l:List MvV):List MvV:=kL KM (l.map (nc p))
def e7(p:List Int)(a:AdvV):AdvV:=⟨a.n,a.states.map (lr p)⟩
theorem MF:Ord KM where
 irr x:=pA.irr x.r.ints
 asym x y:=pA.asym x.r.ints y.r.ints
 negtr x y z:=pA.negtr x.r.ints y.r.ints z.r.ints
theorem MvOk.rd{a:AdvV}{m:MvV}{n:Nat}(h:MvOk a m)(hn:(n:Int)=a.n):RdOk n m.r:=⟨h.r,by rw[h.n];exact hn.symm⟩
theorem uG{a:AdvV}(ho:AdvOk a){l:List MvV}(hl:l∈a.states){i:Nat}:∀j,i<j->j<l.length->aD (l.getD i default).r.ints (l.getD j default).r.ints<0
 |0,h,_=>absurd h (Nat.not_lt_zero _)
 |j+1,hij,hj=>by
  have h:=ho.asc l hl (j+1) (by omega) hj;rw[Nat.add_sub_cancel] at h;rcases lL.1 hij with q|q
  ·exact fG (uG ho hl j q (by omega)) h
  ·rw[q];exact h
theorem tN{a:AdvV}(ho:AdvOk a){l:List MvV}(hl:l∈a.states){m k:MvV}(hm:m∈l)(hk:k∈l)(e:m.r=k.r):m=k:=by
 obtain⟨i,hi,ei⟩:=fW hm;obtain⟨j,hj,ej⟩:=fW hk;have gi:l.getD i default=m:=by rw[<-ei];simp[List.getD,hi]
 have gj:l.getD j default=k:=by rw[<-ej];simp[List.getD,hj]
 have nr:∀x:List Int,¬aD x x<0:=λx=>pA.irr x;rcases vv i j with q|q|q
 ·have:=uG ho hl j q hj;rw[gi,gj,e] at this;exact absurd this (nr _)
 ·subst q;rw[gi] at gj;exact gj
 ·have:=uG ho hl i q hi;rw[gi,gj,e] at this;exact absurd this (nr _)
theorem Af{a:AdvV}(ho:AdvOk a){l:List MvV}(hl:l∈a.states):l.Nodup:=by
 rw[List.nodup_iff_pairwise_ne,nw];intro i j hi hj hij e;have:=uG ho hl j hij hj;have gi:l.getD i default=l[i]:=by simp[List.getD,hi]
 have gj:l.getD j default=l[j]:=by simp[List.getD,hj]
 rw[gi,gj,e] at this;exact pA.irr _ this
theorem jY{p:List Int}{l:List MvV}{x:MvV}:x∈lr p l↔ ∃m∈l,nc p m=x:=by
 unfold lr;rw[(dn _).mem_iff,cE]
theorem vJ{p:List Int}{l:List MvV}:(lr p l).length=l.length:=by
 unfold lr;rw[jo,bi]
theorem Cb{p:List Int}{a:AdvV}{s:Nat}(h:s<a.states.length):(e7 p a).st s=lr p (a.st s):=by
 simp[AdvV.st,e7,List.getD,h]
theorem kS{p:List Int}{a:AdvV}{l:List MvV}:l∈(e7 p a).states↔ ∃k∈a.states,lr p k=l:=cE
theorem uW{p:List Int}:∀S:List (List MvV),dl (S.map (lr p))=dl S
 |[]=>rfl
 |l::S=>by
  have:=uW (p:=p) S;unfold dl at this |-;rw[f9,f9,f9,List.sum_cons,List.sum_cons,vJ,this]
theorem zA{p:List Int}(hp:be p=0){x y:Int}(hx:0<=x/\x<((2^p.length:Nat):Int))(hy:0<=y/\y<((2^p.length:Nat):Int))(h:iZ x y=true):iZ (ji p x) (ji p y)=true:=by
 obtain⟨p1,p2,-,-⟩:=cC hp;unfold iZ at h |-;rw[dQ] at h |-
 have hs:=GQ hp hx hy.1 λi hi hxi=>by
  have:=h i (eM.2 (by omega));rw[hxi] at this;simpa using this
 intro j _;cases hb:hasFl (ji p x) j with
 |false=>rfl
 |true=>rw[hs j hb];rfl
theorem ym{p:List Int}{a:AdvV}(hp:be p=0)(ho:AdvOk a)(hn:(p.length:Int)=a.n):AdvOk (e7 p a):=by
 have hsl:(e7 p a).states.length=a.states.length:=by unfold e7;exact bi _
 have hmv:∀l∈a.states,∀m∈l,MvOk (e7 p a) (nc p m):=λl hl m hm=>by
  have o:=ho.mv l hl m hm;exact⟨JL hp o.r (by rw[o.n];exact hn),o.n,o.to0,by rw[hsl];exact o.to1⟩
 refine⟨ho.n1,ho.n5,by rw[hsl];exact ho.s1,by rw[hsl];exact ho.s256,by unfold e7;rw[uW];exact ho.m4096,λl hl=>?_,λl hl m hm=>?_,λl hl i h0 hi=>?_,?_⟩
 ·obtain⟨k,hk,rfl⟩:=kS.1 hl;intro e;have:=congrArg List.length e;rw[vJ] at this;exact ho.ne k hk (fP.1 this)
 ·obtain⟨k,hk,rfl⟩:=kS.1 hl;obtain⟨x,hx,rfl⟩:=jY.1 hm;exact hmv k hk x hx
 ·obtain⟨k,hk,rfl⟩:=kS.1 hl;have hs:dC KM (lr p k):=kr MF _
  have hnd:(lr p k).Nodup:=by
   refine(dn _).nodup_iff.2 ?_;rw[List.nodup_iff_pairwise_ne,List.pairwise_map];refine List.Pairwise.imp_of_mem ?_ (List.nodup_iff_pairwise_ne.1 (Af ho hk));intro x y hx hy hxy e;have e1:dG p x.r=dG p y.r:=congrArg MvV.r e;exact hxy (tN ho hk hx hy (qH hp ((ho.mv k hk x hx).rd hn) ((ho.mv k hk y hy).rd hn) e1))
  generalize hL:lr p k=L at *;have gi:∀j,j<L.length->∃h:j<L.length,L.getD j default=L[j]:=λj h=>⟨h,by simp[List.getD,h]⟩
  obtain⟨q1,e1⟩:=gi (i-1) (by omega);obtain⟨q2,e2⟩:=gi i hi;have hle:=nw.1 hs (i-1) i q1 q2 (by omega);have hne:=nw.1 (List.nodup_iff_pairwise_ne.1 hnd) (i-1) i q1 q2 (by omega);rw[e1,e2];refine Decidable.byContradiction λhc=>hne ?_;have er:L[i-1].r=L[i].r:=mj.1 (kK hc hle);have m1:L[i-1]∈lr p k:=hL▸mq q1;have m2:L[i]∈lr p k:=hL▸mq q2;obtain⟨x,hx,ex⟩:=jY.1 m1;obtain⟨y,hy,ey⟩:=jY.1 m2;rw[<-ex,<-ey] at er |-;rw[tN ho hk hx hy (qH hp ((ho.mv k hk x hx).rd hn) ((ho.mv k hk y hy).rd hn) er)]
 ·have hg:=ho.grow;unfold j7 at hg |-;rw[dQ] at hg |-;intro l hl;obtain⟨k,hk,rfl⟩:=kS.1 hl;have hgk:=hg k hk;rw[dQ] at hgk |-;intro m hm;obtain⟨x,hx,rfl⟩:=jY.1 hm;have hgx:=hgk x hx;have ox:=ho.mv k hk x hx;have ht:x.to.toNat<a.states.length:=by have:=ox.to0;have:=ox.to1;omega
  unfold oJ at hgx |-;rw[show(nc p x).to=x.to from rfl,Cb ht];rw[dQ] at hgx |-;intro z hz;obtain⟨y,hy,rfl⟩:=jY.1 hz;have oy:=ho.mv _ (fJ ht) y hy;exact zA hp (ox.rd hn).flt (oy.rd hn).flt (hgx y hy)
theorem IT {p:List Int} {a:AdvV} (h:ShA a):ShA (e7 p a):=⟨by unfold e7; rw [bi]; exact h.len,fun l hl=>by
 obtain⟨k,hk,rfl⟩:=kS.1 hl;rw[vJ];exact h.each k hk⟩
def stp(a:AdvV)(s:Nat)(r:RndV):Option Nat:=((a.st s).find? λm=>decide (m.r=r)).map λm=>m.to.toNat
def iM(a:AdvV):Nat->List RndV->Option Nat
 |s,[]=>some s
 |s,r::w=>(stp a s r).bind λt=>iM a t w
theorem eE{a:AdvV}(ho:AdvOk a){s t:Nat}{r:RndV}(hs:s<a.states.length):stp a s r=some t↔ ∃m∈a.st s,m.r=r/\m.to.toNat=t:=by
 unfold stp;rw[Option.map_eq_some_iff];constructor
 ·rintro⟨m,h1,h2⟩;exact⟨m,List.mem_of_find?_eq_some h1,by have q:=List.find?_some h1;simpa using q,h2⟩
 ·rintro⟨m,h1,h2,h3⟩;cases hf:(a.st s).find? λm=>decide (m.r=r) with
  |none=>exact absurd (bR h2) (by simpa using List.find?_eq_none.1 hf m h1)
  |some k=>
   have e:=tN ho (fJ hs) (List.mem_of_find?_eq_some hf) h1 ((by have q:=List.find?_some hf;simpa using q:k.r=r).trans h2.symm);exact⟨k,rfl,by rw[e];exact h3⟩
theorem nI{a:AdvV}(ho:AdvOk a){s t:Nat}{r:RndV}(hs:s<a.states.length)(h:stp a s r=some t):t<a.states.length:=by
 obtain⟨m,h1,_,rfl⟩:=(eE ho hs).1 h;have o:=ho.mv _ (fJ hs) m h1;have:=o.to0;have:=o.to1;omega
theorem J8{p:List Int}{a:AdvV}(hp:be p=0)(ho:AdvOk a)(hn:(p.length:Int)=a.n){s:Nat}(hs:s<a.states.length){r:RndV}(hr:RdOk p.length r):stp (e7 p a) s (dG p r)=stp a s r:=by
 have ho':=ym hp ho hn;have hs':s<(e7 p a).states.length:=by unfold e7;rw[bi];exact hs
 refine Option.ext λt=>?_;rw[eE ho' hs',eE ho hs,Cb hs];constructor
 ·rintro⟨m,h1,h2,h3⟩;obtain⟨x,hx,rfl⟩:=jY.1 h1;exact⟨x,hx,qH hp ((ho.mv _ (fJ hs) x hx).rd hn) hr h2,h3⟩
 ·rintro⟨m,h1,rfl,h3⟩;exact⟨nc p m,jY.2 ⟨m,h1,rfl⟩,rfl,h3⟩
theorem DX{p:List Int}{a:AdvV}(hp:be p=0)(ho:AdvOk a)(hn:(p.length:Int)=a.n):∀(w:List RndV){s:Nat},s<a.states.length->(∀r∈w,RdOk p.length r)->iM (e7 p a) s (w.map (dG p))=iM a s w
 |[],_,_,_=>rfl
 |r::w,s,hs,hw=>by
  rw[f9,iM,iM,J8 hp ho hn hs (hw r (gP ..))];cases h:stp a s r with
  |none=>rfl
  |some t=>exact DX hp ho hn w (nI ho hs h) λx hx=>hw x (oQ _ hx)
theorem BU{a:AdvV}(ho:AdvOk a){n:Nat}(hn:(n:Int)=a.n):∀(w:List RndV){s:Nat},s<a.states.length->(iM a s w).isSome=true->∀r∈w,RdOk n r
 |[],_,_,_,_,h=>(by cases h)
 |r::w,s,hs,h,x,hx=>by
  rw[iM] at h;cases e:stp a s r with
  |none=>rw[e] at h;cases h
  |some t=>
   rw[e] at h;rcases gR.1 hx with rfl|hx
   ·obtain⟨m,h1,rfl,_⟩:=(eE ho hs).1 e;exact(ho.mv _ (fJ hs) m h1).rd hn
   ·exact BU ho hn w (nI ho hs e) h x hx
theorem zX{p:List Int}{a:AdvV}(hp:be p=0)(ho:AdvOk a)(hn:(p.length:Int)=a.n):∀(w:List RndV){s:Nat},s<a.states.length->(iM (e7 p a) s w).isSome=true->∃v,(iM a s v).isSome=true/\w=v.map (dG p)
 |[],s,_,_=>⟨[],rfl,rfl⟩
 |r::w,s,hs,h=>by
  have ho':=ym hp ho hn;have hs':s<(e7 p a).states.length:=by unfold e7;rw[bi];exact hs
  rw[iM] at h;cases e:stp (e7 p a) s r with
  |none=>rw[e] at h;cases h
  |some t=>
   rw[e] at h;obtain⟨m,h1,h2,h3⟩:=(eE ho' hs').1 e;rw[Cb hs] at h1;obtain⟨x,hx,rfl⟩:=jY.1 h1;have ex:stp a s x.r=some t:=(eE ho hs).2 ⟨x,hx,rfl,h3⟩;obtain⟨v,v1,v2⟩:=zX hp ho hn w (nI ho hs ex) h;refine⟨x.r::v,?_,by rw[v2,<-h2];rfl⟩;rw[iM,ex];exact v1
def Lng(a:AdvV)(w:List RndV):Prop:=(iM a 0 w).isSome=true
def EqA(a b:AdvV):Prop:=∀w,Lng a w↔Lng b w
theorem jK{p:List Int}{a:AdvV}(hp:be p=0)(ho:AdvOk a)(hn:(p.length:Int)=a.n){w:List RndV}:Lng (e7 p a) w↔ ∃v,Lng a v/\w=v.map (dG p):=by
 have h0:0<a.states.length:=ho.s1;constructor
 ·exact λh=>zX hp ho hn w h0 h
 ·rintro⟨v,h,rfl⟩;unfold Lng at h |-;rw[DX hp ho hn v h0 (BU ho hn v h0 h)];exact h
theorem mw{a:AdvV}(ho:AdvOk a):∀(k s:Nat)(w:List RndV),s<a.states.length->(w∈bf a k s↔w.length=k/\(iM a s w).isSome=true)
 |0,s,w,_=>by
  rw[bf,gH];constructor
  ·rintro rfl;exact⟨rfl,rfl⟩
  ·exact λh=>fP.1 h.1
 |k+1,s,w,hs=>by
  rw[bf,List.mem_flatMap];constructor
  ·rintro⟨m,h1,h2⟩;obtain⟨v,hv,rfl⟩:=cE.1 h2;have e:stp a s m.r=some m.to.toNat:=(eE ho hs).2 ⟨m,h1,rfl,rfl⟩;obtain⟨q1,q2⟩:=(mw ho k _ v (nI ho hs e)).1 hv;exact⟨by rw[ig,q1],by rw[iM,e];exact q2⟩
  ·rintro⟨h1,h2⟩;cases w with
   |nil=>cases h1
   |cons r v=>
    rw[iM] at h2;cases e:stp a s r with
    |none=>rw[e] at h2;cases h2
    |some t=>
     rw[e] at h2;obtain⟨m,m1,rfl,rfl⟩:=(eE ho hs).1 e;exact⟨m,m1,cE.2 ⟨v,(mw ho k _ v (nI ho hs e)).2 ⟨by simpa using h1,h2⟩,rfl⟩⟩
theorem uX{p q:List Int}(hp:be p=0)(hq:be q=0)(hl:q.length=p.length){w:List RndV}(h:∀r∈w,RdOk p.length r):w.map (dG (dZ p q))=(w.map (dG q)).map (dG p):=by
 rw[List.map_map];exact pz λr hr=>wV hp hq hl (h r hr)
theorem rz{a:AdvV}(ho:AdvOk a){n:Nat}(hn:(n:Int)=a.n){w:List RndV}(h:Lng a w):∀r∈w,RdOk n r:=BU ho hn w ho.s1 h
theorem HV{p q:List Int}{a:AdvV}(hp:be p=0)(hq:be q=0)(ho:AdvOk a)(hn:(p.length:Int)=a.n)(hl:q.length=p.length)(h1:EqA a (e7 p a))(h2:EqA a (e7 q a)):EqA a (e7 (dZ p q) a):=λw=>by
 have hc:be (dZ p q)=0:=gY hp hq hl;have hcl:(dZ p q).length=p.length:=by rw[ct];exact hl
 rw[jK hc ho (by rw[hcl];exact hn)];constructor
 ·intro h;obtain⟨v,hv,rfl⟩:=(jK hp ho hn).1 ((h1 w).1 h);obtain⟨u,hu,rfl⟩:=(jK hq ho (by rw[hl];exact hn)).1 ((h2 v).1 hv);exact⟨u,hu,(uX hp hq hl (rz ho hn hu)).symm⟩
 ·rintro⟨u,hu,rfl⟩;rw[uX hp hq hl (rz ho hn hu)];exact(h1 _).2 ((jK hp ho hn).2 ⟨_,(h2 _).2 ((jK hq ho (by rw[hl];exact hn)).2 ⟨u,hu,rfl⟩),rfl⟩)
theorem JM{p:List Int}{a:AdvV}(hp:be p=0)(ho:AdvOk a)(hn:(p.length:Int)=a.n)(h:EqA a (e7 p a)):EqA a (e7 (fi p) a):=λw=>by
 have hi:=pd hp;have hil:=fS (p:=p)
 have back:∀{v:List RndV},(∀r∈v,RdOk p.length r)->(v.map (dG p)).map (dG (fi p))=v:=λ{v} hv=>by
  rw[List.map_map];refine(pz λr hr=>?_).trans (List.map_id v);exact qw hp (hv r hr)
 rw[jK hi ho (by rw[hil];exact hn)];constructor
 ·intro hw;have hr:=rz ho hn hw;exact⟨w.map (dG p),(h _).2 ((jK hp ho hn).2 ⟨w,hw,rfl⟩),(back hr).symm⟩
 ·rintro⟨v,hv,rfl⟩;obtain⟨u,hu,rfl⟩:=(jK hp ho hn).1 ((h v).1 hv);rw[back (rz ho hn hu)];exact hu
theorem FP{p:List Int}{a:AdvV}(hp:be p=0)(ho:AdvOk a)(hn:(p.length:Int)=a.n)(h:EqA a (e7 p a)){k:Nat}{w:List RndV}(hw:w∈bf a k 0):w.map (dG p)∈bf a k 0:=by
 obtain⟨h1,h2⟩:=(mw ho k 0 w ho.s1).1 hw;exact(mw ho k 0 _ ho.s1).2 ⟨by rw[bi,h1],(h _).2 ((jK hp ho hn).2 ⟨w,h2,rfl⟩)⟩
structure StpV where
 r:RndV
 t0:Int
 t1:Int
 deriving Inhabited
def StpV.cs(s:StpV):List AV:=[.int .i64 s.r.n,.int .i64 s.r.h0,.int .i64 s.r.h1,.int .i64 s.r.h2,.int .i64 s.r.h3,.int .i64 s.r.h4,.int .i64 s.r.f,.int .i64 s.t0,.int .i64 s.t1]
def hdM(x y:List MvV):StpV:=match x,y with
 |[],[]=>default
 |m::_,[]=>⟨m.r,m.to,-1⟩
 |[],k::_=>⟨k.r,-1,k.to⟩
 |m::_,k::_=>if aD m.r.ints k.r.ints<0 then⟨m.r,m.to,-1⟩ else if 0<aD m.r.ints k.r.ints then⟨k.r,-1,k.to⟩ else⟨k.r,m.to,k.to⟩
def tlX(x y:List MvV):List MvV:=match x,y with
 |[],_=>[]
 |_::x,[]=>x
 |m::x,k::_=>if 0<aD m.r.ints k.r.ints then m::x else x
def tlY(x y:List MvV):List MvV:=match x,y with
 |_,[]=>[]
 |[],_::y=>y
 |m::_,k::y=>if aD m.r.ints k.r.ints<0 then k::y else y
theorem vb(x y:List MvV)(h:x≠[]\/y≠[]):(tlX x y).length+(tlY x y).length<x.length+y.length:=by
 cases x with
 |nil=>
  cases y with
  |nil=>simp at h
  |cons k y=>simp[tlX,tlY]
 |cons m x=>
  cases y with
  |nil=>simp[tlX,tlY]
  |cons k y=>
   simp only[tlX,tlY];split
   ·rename_i q;rw[if_neg (by omega)];simp
   ·split<;>simp <;>omega
def BD:Nat->List MvV->List MvV->List StpV
 |0,_,_=>[]
 |n+1,x,y=>if x=[]/\y=[] then [] else hdM x y::BD n (tlX x y) (tlY x y)
def mrg(x y:List MvV):List StpV:=BD (x.length+y.length) x y
theorem r7:∀(n:Nat)(x y:List MvV),x.length+y.length<=n->BD n x y=mrg x y
 |0,x,y,h=>by
  have hx:x=[]:=fP.1 (by omega);have hy:y=[]:=fP.1 (by omega);subst hx hy;rfl
 |n+1,x,y,h=>by
  by_cases e:x=[]/\y=[]
  ·obtain⟨rfl,rfl⟩:=e;rw[BD,if_pos ⟨rfl,rfl⟩];rfl
  ·have hlt:=vb x y (by
     by_cases hx:x=[]
     ·exact .inr λhy=>e ⟨hx,hy⟩
     ·exact .inl hx)
   unfold mrg;obtain⟨m,hm⟩:∃m,x.length+y.length=m+1:=⟨x.length+y.length-1,by omega⟩
   rw[hm,BD,BD,if_neg e,if_neg e,r7 n _ _ (by omega),r7 m _ _ (by omega)]
theorem nZ{x y:List MvV}(h:¬(x=[]/\y=[])):mrg x y=hdM x y::mrg (tlX x y) (tlY x y):=by
 have hlt:=vb x y (by
  by_cases hx:x=[]
  ·exact .inr λhy=>h ⟨hx,hy⟩
  ·exact .inl hx)
 obtain⟨m,hm⟩:∃m,x.length+y.length=m+1:=⟨x.length+y.length-1,by omega⟩
 conv=>lhs;unfold mrg
 rw[hm,BD,if_neg h,r7 m _ _ (by omega)]
theorem DE{m:MvV}{l:List MvV}:nu 8 (bD (m::l)) (some (.int .i64 1)) none none=some (bD l):=by
 have:=yg (sz:=8) (f:=dB) (l:=m::l) (k:=1) (by simp);exact this
def oXY(x y:List MvV):Int:=match x,y with
 |_,[]=>-1
 |[],_::_=>1
 |m::_,k::_=>aD m.r.ints k.r.ints
theorem Et:(∀(T:Tm)(H:Hp)(x:Opd),bv T H (.ixaA 2 1 x (.c (.int .i64 0)))=jm 0 (ov T x))/\(∀(T:Tm)(H:Hp)(x:Opd),bv T H (.ixaA 2 1 x (.c (.int .i64 1)))=jm 1 (ov T x)):=by
 refine⟨λT H x=>?_,λT H x=>?_⟩
 ·show(if (0:Int)<=0/\(0:Int)<(2:Nat) then jm ((0:Int).toNat*1) (ov T x) else none)=_;rw[if_pos ⟨Int.le_refl _,by decide⟩];rfl
 ·show(if (0:Int)<=1/\(1:Int)<(2:Nat) then jm ((1:Int).toNat*1) (ov T x) else none)=_;rw[if_pos ⟨by decide,by decide⟩];rfl
theorem MI{m:MvV}{l:List MvV}:eo 8 (bD (m::l)) (.int .i64 0)=some (.iptr [.int .i64 m.r.n,.int .i64 m.r.h0,.int .i64 m.r.h1,.int .i64 m.r.h2,.int .i64 m.r.h3,.int .i64 m.r.h4,.int .i64 m.r.f,.int .i64 m.to] 0):=ixM (l:=m::l) (k:=0) (Nat.zero_lt_succ _)
def cA(x y:List MvV):List AV:=match x with
 |[]=>[.int .i64 0,.int .i64 0,.int .i64 0,.int .i64 0,.int .i64 0,.int .i64 0,.int .i64 0,.int .i64 (-1),.int .i64 (-1)]
 |m::_=>if oXY x y<=0 then [.int .i64 m.r.n,.int .i64 m.r.h0,.int .i64 m.r.h1,.int .i64 m.r.h2,.int .i64 m.r.h3,.int .i64 m.r.h4,.int .i64 m.r.f,.int .i64 m.to,.int .i64 (-1)] else [.int .i64 0,.int .i64 0,.int .i64 0,.int .i64 0,.int .i64 0,.int .i64 0,.int .i64 0,.int .i64 (-1),.int .i64 (-1)]
theorem KV{x y:List MvV}(h:¬oXY x y<=0):cA x y=[.int .i64 0,.int .i64 0,.int .i64 0,.int .i64 0,.int .i64 0,.int .i64 0,.int .i64 0,.int .i64 (-1),.int .i64 (-1)]:=by
 cases x with
 |nil=>rfl
 |cons m x=>exact if_neg h
theorem Ij(x:List MvV):oXY x []=-1:=by cases x<;>rfl
theorem Gw(k:MvV)(y:List MvV):oXY [] (k::y)=1:=rfl
theorem pP(m k:MvV)(x y:List MvV):oXY (m::x) (k::y)=aD m.r.ints k.r.ints:=rfl
theorem CV{x y:List MvV}(h:¬(x=[]/\y=[]))(ho:oXY x y<=0):∃m x',x=m::x':=by
 cases x with
 |nil=>
  cases y with
  |nil=>exact absurd ⟨rfl,rfl⟩ h
  |cons k y=>rw[Gw] at ho;omega
 |cons m x=>exact⟨m,x,rfl⟩
theorem G5{x y:List MvV}(ho:0<=oXY x y):∃k y',y=k::y':=by
 cases y with
 |nil=>rw[Ij] at ho;omega
 |cons k y=>exact⟨k,y,rfl⟩
theorem pS{x y:List MvV}:tlX x y=if oXY x y<=0 then x.tail else x:=by
 cases x with
 |nil=>cases y<;>simp[tlX]
 |cons m x=>
  cases y with
  |nil=>rw[Ij,if_pos (by omega)];rfl
  |cons k y=>
   rw[pP];simp only[tlX];by_cases q:0<aD m.r.ints k.r.ints
   ·rw[if_pos q,if_neg (by omega)]
   ·rw[if_neg q,if_pos (by omega)];rfl
theorem qg{x y:List MvV}:tlY x y=if 0<=oXY x y then y.tail else y:=by
 cases y with
 |nil=>cases x<;>simp[tlY]
 |cons k y=>
  cases x with
  |nil=>rw[Gw,if_pos (by omega)];rfl
  |cons m x=>
   rw[pP];simp only[tlY];by_cases q:aD m.r.ints k.r.ints<0
   ·rw[if_pos q,if_neg (by omega)]
   ·rw[if_neg q,if_pos (by omega)];rfl
theorem N9{x y:List MvV}(h:¬(x=[]/\y=[]))(ho:oXY x y<0):(hdM x y).cs=cA x y:=by
 cases y with
 |nil=>
  cases x with
  |nil=>exact absurd ⟨rfl,rfl⟩ h
  |cons m x=>unfold cA;dsimp only;rw[Ij,if_pos (by omega)];rfl
 |cons k y=>
  cases x with
  |nil=>rw[Gw] at ho;omega
  |cons m x=>
   rw[pP] at ho;unfold hdM cA;dsimp only;rw[pP,if_pos ho,if_pos (by omega)];rfl
theorem N2{x:List MvV}{k:MvV}{y:List MvV}(ho:0<oXY x (k::y)):hdM x (k::y)=⟨k.r,-1,k.to⟩:=by
 cases x with
 |nil=>rfl
 |cons m x=>
  rw[pP] at ho;unfold hdM;dsimp only;rw[if_neg (by omega),if_pos ho]
theorem Po{m:MvV}{x:List MvV}{k:MvV}{y:List MvV}(ho:oXY (m::x) (k::y)=0):hdM (m::x) (k::y)=⟨k.r,m.to,k.to⟩:=by
 rw[pP] at ho;unfold hdM;dsimp only;rw[if_neg (by omega),if_neg (by omega)]
def lm(l:List MvV):Prop:=l.Pairwise λm k=>aD m.r.ints k.r.ints<0
def lb(x:List MvV)(r:RndV)(t:Int):Prop:=(∃m∈x,m.r=r/\m.to=t)\/(t=-1/\∀m∈x,m.r≠r)
theorem De{a b:RndV}(h:aD a.ints b.ints<0):a≠b:=λe=>by rw[e] at h;exact pA.irr _ h
theorem lm.tail{m:MvV}{l:List MvV}(h:lm (m::l)):lm l:=(BM.1 h).2
theorem lm.hd{m:MvV}{l:List MvV}(h:lm (m::l)):∀k∈l,aD m.r.ints k.r.ints<0:=(BM.1 h).1
theorem CY{m:MvV}{k:MvV}{y:List MvV}(hy:lm (k::y))(h:aD m.r.ints k.r.ints<0):∀z∈k::y,z.r≠m.r:=λz hz=>by
 rcases gR.1 hz with rfl|hz
 ·exact λe=>De h e.symm
 ·exact λe=>De (fG h (hy.hd z hz)) e.symm
theorem Gd{x y:List MvV}(hx:lm x)(hy:lm y)(h:¬(x=[]/\y=[])):lb x (hdM x y).r (hdM x y).t0/\lb y (hdM x y).r (hdM x y).t1:=by
 cases x with
 |nil=>
  cases y with
  |nil=>exact absurd ⟨rfl,rfl⟩ h
  |cons k y=>exact⟨.inr ⟨rfl,λm hm=>(by cases hm)⟩,.inl ⟨k,gP ..,rfl,rfl⟩⟩
 |cons m x=>
  cases y with
  |nil=>exact⟨.inl ⟨m,gP ..,rfl,rfl⟩,.inr ⟨rfl,λm hm=>(by cases hm)⟩⟩
  |cons k y=>
   unfold hdM;dsimp only;split
   ·rename_i q;exact⟨.inl ⟨m,gP ..,rfl,rfl⟩,.inr ⟨rfl,CY hy q⟩⟩
   ·split
    ·rename_i q1 q;rw[dL] at q;exact⟨.inr ⟨rfl,CY hx (by omega)⟩,.inl ⟨k,gP ..,rfl,rfl⟩⟩
    ·rename_i q1 q2
     have q3:¬aD k.r.ints m.r.ints<0:=by
      have:=dL (l:=m.r.ints) (m:=k.r.ints);omega
     have e:m.r=k.r:=mj.1 (kK (x:=m.r.ints) (y:=k.r.ints) q1 q3);exact⟨.inl ⟨m,gP ..,e,rfl⟩,.inl ⟨k,gP ..,rfl,rfl⟩⟩
theorem HX{x y:List MvV}(hx:lm x)(hy:lm y):lm (tlX x y)/\lm (tlY x y):=by
 rw[pS,qg];constructor
 ·split
  ·cases x with
   |nil=>exact hx
   |cons m x=>exact hx.tail
  ·exact hx
 ·split
  ·cases y with
   |nil=>exact hy
   |cons k y=>exact hy.tail
  ·exact hy
theorem DN{x y:List MvV}(hx:lm x)(hy:lm y)(h:¬(x=[]/\y=[])){r:RndV}{t:Int}:
    (lb (tlX x y) r t->(∀z∈tlX x y,aD (hdM x y).r.ints z.r.ints<0)->r≠(hdM x y).r->lb x r t)/\(lb (tlY x y) r t->(∀z∈tlY x y,aD (hdM x y).r.ints z.r.ints<0)->r≠(hdM x y).r->lb y r t):=by
 have key:∀{m:MvV}{l:List MvV},m.r=(hdM x y).r->lb l r t->r≠(hdM x y).r->lb (m::l) r t:=λ{m l} e hs hne=>by
  rcases hs with⟨z,h1,h2,h3⟩|⟨h1,h2⟩
  ·exact .inl ⟨z,oQ _ h1,h2,h3⟩
  ·refine .inr ⟨h1,λz hz=>?_⟩;rcases gR.1 hz with rfl|hz
   ·rw[e];exact λh=>hne h.symm
   ·exact h2 z hz
 rw[pS,qg];constructor
 ·intro hs _ hne;split at hs
  ·rename_i q;obtain⟨m,x',rfl⟩:=CV h q;refine key ?_ hs hne;cases y with
   |nil=>rfl
   |cons k y=>
    rw[pP] at q;unfold hdM;dsimp only;by_cases q2:aD m.r.ints k.r.ints<0
    ·rw[if_pos q2]
    ·rw[if_neg q2,if_neg (by omega)];show m.r=k.r;exact mj.1 (kK q2 (by have:=dL (l:=m.r.ints) (m:=k.r.ints);omega))
  ·exact hs
 ·intro hs _ hne;split at hs
  ·rename_i q;obtain⟨k,y',rfl⟩:=G5 q;refine key ?_ hs hne;cases x with
   |nil=>rfl
   |cons m x=>
    rw[pP] at q;unfold hdM;dsimp only;rw[if_neg (by omega)];split<;>rfl
  ·exact hs
theorem Hu{x y:List MvV}(hx:lm x)(hy:lm y)(h:¬(x=[]/\y=[])):(∀z∈tlX x y,aD (hdM x y).r.ints z.r.ints<0)/\(∀z∈tlY x y,aD (hdM x y).r.ints z.r.ints<0):=by
 cases x with
 |nil=>
  cases y with
  |nil=>exact absurd ⟨rfl,rfl⟩ h
  |cons k y=>exact⟨λz hz=>(by cases hz),hy.hd⟩
 |cons m x=>
  cases y with
  |nil=>exact⟨hx.hd,λz hz=>(by cases hz)⟩
  |cons k y=>
   unfold hdM tlX tlY;dsimp only;by_cases q:aD m.r.ints k.r.ints<0
   ·rw[if_pos q,if_neg (by omega),if_pos q];refine⟨hx.hd,λz hz=>?_⟩;rcases gR.1 hz with rfl|hz
    ·exact q
    ·exact fG q (hy.hd z hz)
   ·rw[if_neg q,if_neg q];by_cases q2:0<aD m.r.ints k.r.ints
    ·rw[if_pos q2,if_pos q2];have q3:aD k.r.ints m.r.ints<0:=by rw[dL];omega
     refine⟨λz hz=>?_,hy.hd⟩;rcases gR.1 hz with rfl|hz
     ·exact q3
     ·exact fG q3 (hx.hd z hz)
    ·rw[if_neg q2,if_neg q2];have e:m.r=k.r:=mj.1 (kK q (by have:=dL (l:=m.r.ints) (m:=k.r.ints);omega));exact⟨λz hz=>by rw[<-e];exact hx.hd z hz,hy.hd⟩
theorem xZ{r:RndV}:∀(n:Nat)(x y:List MvV),lm x->lm y->x.length+y.length<=n->(∀z∈x,aD r.ints z.r.ints<0)->(∀z∈y,aD r.ints z.r.ints<0)->∀s∈mrg x y,s.r≠r
 |n,x,y,hx,hy,hn,h1,h2=>by
  by_cases e:x=[]/\y=[]
  ·obtain⟨rfl,rfl⟩:=e;intro s hs;cases hs
  have hlt:=vb x y (by
   by_cases hx:x=[]
   ·exact .inr λhy=>e ⟨hx,hy⟩
   ·exact .inl hx)
  match n with
  |0=>omega
  |n+1=>
   rw[nZ e];intro s hs;rcases gR.1 hs with rfl|hs
   ·obtain⟨s1,s2⟩:=Gd hx hy e;rcases s1 with⟨m,m1,m2,_⟩|⟨a1,a2⟩
    ·rw[<-m2];exact λq=>De (h1 m m1) q.symm
    ·rcases s2 with⟨m,m1,m2,_⟩|⟨b1,b2⟩
     ·rw[<-m2];exact λq=>De (h2 m m1) q.symm
     ·exfalso;cases x with
      |nil=>
       cases y with
       |nil=>exact e ⟨rfl,rfl⟩
       |cons k y=>exact b2 k (gP ..) rfl
      |cons m x=>
       cases y with
       |nil=>exact a2 m (gP ..) rfl
       |cons k y=>
        unfold hdM at a2 b2;dsimp only at a2 b2;split at a2
        ·exact a2 m (gP ..) rfl
        ·rename_i q1;rw[if_neg q1] at b2;split at b2
         ·exact b2 k (gP ..) rfl
         ·exact b2 k (gP ..) rfl
   ·obtain⟨t1,t2⟩:=HX hx hy;refine xZ n _ _ t1 t2 (by omega) (λz hz=>?_) (λz hz=>?_) s hs
    ·rw[pS] at hz;split at hz
     ·exact h1 z (List.mem_of_mem_tail hz)
     ·exact h1 z hz
    ·rw[qg] at hz;split at hz
     ·exact h2 z (List.mem_of_mem_tail hz)
     ·exact h2 z hz
theorem yL:∀(n:Nat)(x y:List MvV),lm x->lm y->x.length+y.length<=n->∀s∈mrg x y,lb x s.r s.t0/\lb y s.r s.t1
 |n,x,y,hx,hy,hn=>by
  by_cases e:x=[]/\y=[]
  ·obtain⟨rfl,rfl⟩:=e;intro s hs;cases hs
  have hlt:=vb x y (by
   by_cases hx:x=[]
   ·exact .inr λhy=>e ⟨hx,hy⟩
   ·exact .inl hx)
  match n with
  |0=>omega
  |n+1=>
   rw[nZ e];intro s hs;rcases gR.1 hs with rfl|hs
   ·exact Gd hx hy e
   ·obtain⟨t1,t2⟩:=HX hx hy;obtain⟨a1,a2⟩:=Hu hx hy e;obtain⟨q1,q2⟩:=yL n _ _ t1 t2 (by omega) s hs;have hne:=xZ _ _ _ t1 t2 (bc _) a1 a2 s hs;exact⟨(DN hx hy e).1 q1 a1 hne,(DN hx hy e).2 q2 a2 hne⟩
theorem DK:∀(n:Nat)(x y:List MvV),x.length+y.length<=n->(∀m∈x,∃s∈mrg x y,s.r=m.r)/\(∀m∈y,∃s∈mrg x y,s.r=m.r)
 |n,x,y,hn=>by
  by_cases e:x=[]/\y=[]
  ·obtain⟨rfl,rfl⟩:=e;exact⟨λm hm=>(by cases hm),λm hm=>(by cases hm)⟩
  have hlt:=vb x y (by
   by_cases hx:x=[]
   ·exact .inr λhy=>e ⟨hx,hy⟩
   ·exact .inl hx)
  match n with
  |0=>omega
  |n+1=>
   obtain⟨i1,i2⟩:=DK n (tlX x y) (tlY x y) (by omega);rw[nZ e];have lift:∀{m:MvV}{l:List StpV},(∃s∈l,s.r=m.r)->∃s∈hdM x y::l,s.r=m.r:=λ⟨s,h1,h2⟩=>⟨s,oQ _ h1,h2⟩
   constructor
   ·intro m hm;by_cases q:m∈tlX x y
    ·exact lift (i1 m q)
    ·rw[pS] at q;split at q
     ·rename_i ho;obtain⟨k,x',rfl⟩:=CV e ho;rcases gR.1 hm with rfl|hm
      ·refine⟨_,gP ..,?_⟩;cases y with
       |nil=>rfl
       |cons k y=>
        rw[pP] at ho;unfold hdM;dsimp only;by_cases q2:aD m.r.ints k.r.ints<0
        ·rw[if_pos q2]
        ·rw[if_neg q2,if_neg (by omega)];exact(mj.1 (kK q2 (by have:=dL (l:=m.r.ints) (m:=k.r.ints);omega))).symm
      ·exact absurd hm q
     ·exact absurd hm q
   ·intro m hm;by_cases q:m∈tlY x y
    ·exact lift (i2 m q)
    ·rw[qg] at q;split at q
     ·rename_i ho;obtain⟨k,y',rfl⟩:=G5 ho;rcases gR.1 hm with rfl|hm
      ·refine⟨_,gP ..,?_⟩;cases x with
       |nil=>rfl
       |cons z x=>
        rw[pP] at ho;unfold hdM;dsimp only;rw[if_neg (by omega)];split<;>rfl
      ·exact absurd hm q
     ·exact absurd hm q
theorem qV{a:AdvV}:∀(v w:List RndV)(s:Nat),iM a s (v++w)=(iM a s v).bind λt=>iM a t w
 |[],w,s=>rfl
 |r::v,w,s=>by
  rw[List.cons_append,iM,iM];cases stp a s r with
  |none=>rfl
  |some t=>exact qV v w t
theorem oW{a:AdvV}(ho:AdvOk a){s:Nat}(hs:s<a.states.length):lm (a.st s):=by
 unfold lm;rw[nw];intro i j hi hj hij;have:=uG ho (fJ hs) (i:=i) j hij hj;have gi:(a.st s).getD i default=(a.st s)[i]:=by simp[List.getD,hi]
 have gj:(a.st s).getD j default=(a.st s)[j]:=by simp[List.getD,hj]
 rwa [gi,gj] at this
theorem mo{a:AdvV}(ho:AdvOk a){s:Nat}(hs:s<a.states.length){r:RndV}{t:Int}(h:lb (a.st s) r t):(t<0↔stp a s r=none)/\(0<=t->stp a s r=some t.toNat/\t<a.states.length):=by
 rcases h with⟨m,h1,h2,h3⟩|⟨h1,h2⟩
 ·have o:=ho.mv _ (fJ hs) m h1;have e:stp a s r=some t.toNat:=(eE ho hs).2 ⟨m,h1,h2,by rw[h3]⟩;have h0:=o.to0;have h4:=o.to1;refine⟨⟨λh=>by omega,λh=>by rw[e] at h;cases h⟩,λ_=>⟨e,by omega⟩⟩
 ·have e:stp a s r=none:=by
    cases q:stp a s r with
    |none=>rfl
    |some u=>
     obtain⟨m,m1,m2,_⟩:=(eE ho hs).1 q;exact absurd m2 (h2 m m1)
  exact⟨⟨λ_=>e,λ_=>by omega⟩,λh=>by omega⟩
def Fu(a b:AdvV)(q:Nat×Nat):Prop:=∃w,iM a 0 w=some q.1/\iM b 0 w=some q.2
def Clo(a b:AdvV)(P:List (Nat×Nat))(q:Nat×Nat):Prop:=∀r,(stp a q.1 r=none↔stp b q.2 r=none)/\∀s t,stp a q.1 r=some s->stp b q.2 r=some t->(s,t)∈P
theorem EL{a b:AdvV}{P:List (Nat×Nat)}(h0:(0,0)∈P)(h:∀q∈P,Clo a b P q):EqA a b:=by
 have key:∀(w:List RndV)(q:Nat×Nat),q∈P->((iM a q.1 w).isSome=true↔(iM b q.2 w).isSome=true):=λw=>by
  induction w with
  |nil=>intro q _;exact⟨λ_=>rfl,λ_=>rfl⟩
  |cons r w ih=>
   intro q hq;obtain⟨h1,h2⟩:=h q hq r;rw[iM,iM];cases ea:stp a q.1 r with
   |none=>rw[h1.1 ea];exact⟨λh=>h,λh=>h⟩
   |some s=>
    cases eb:stp b q.2 r with
    |none=>rw[h1.2 eb] at ea;cases ea
    |some t=>exact ih (s,t) (h2 s t ea eb)
 exact λw=>key w (0,0) h0
theorem Co{a b:AdvV}{q:Nat×Nat}(hb:Fu a b q){r:RndV}(h:¬(stp a q.1 r=none↔stp b q.2 r=none)):¬EqA a b:=λhe=>by
 obtain⟨w,w1,w2⟩:=hb;have e:=he (w++[r]);unfold Lng at e;rw[qV,qV,w1,w2] at e;apply h
 have ea:∀(c:AdvV)(s:Nat),((some s).bind λt=>iM c t [r])=stp c s r:=λc s=>by
  show(stp c s r).bind (λt=>some t)=_;cases stp c s r<;>rfl
 rw[ea,ea] at e;cases h1:stp a q.1 r<;>cases h2:stp b q.2 r<;>rw[h1,h2] at e<;>simp at e |-
noncomputable def eqB(a b:AdvV):Bool:=@decide (EqA a b) (Classical.propDecidable _)
theorem xN{a b:AdvV}:eqB a b=true↔EqA a b:=by unfold eqB;exact @vt _ (Classical.propDecidable _)
structure VisV where
 p0:Nat
 p1:Nat
 fr:Nat
 rd:RndV
 deriving Inhabited
def VisV.cs(v:VisV):List AV:=[.int .i64 v.p0,.int .i64 v.p1,.int .i64 v.fr,.int .i64 v.rd.n,.int .i64 v.rd.h0,.int .i64 v.rd.h1,.int .i64 v.rd.h2,.int .i64 v.rd.h3,.int .i64 v.rd.h4,.int .i64 v.rd.f]
def iu(v:VisV):AV:=.agg v.cs
theorem K9{α:Type}[Inhabited α]{f:α->AV}{sz:Nat}(hc:∀x,(f x).cells.length=sz){l:List α}{k:Nat}{x:α}(hk:k<l.length):cI (cL f l) (k*sz) (f x).cells=cL f (l.set k x):=by
 have e1:cL f l=cL f (l.take k)++((f (l.getD k default)).cells++cL f (l.drop (k+1))):=nU hk
 have e2:cL f (l.set k x)=cL f (l.take k)++((f x).cells++cL f (l.drop (k+1))):=by
  rw[LX,if_pos hk,eR];rfl
 have hl:(cL f (l.take k)).length=k*sz:=by rw[eu hc,iX,Nat.min_eq_left (by omega)]
 unfold cI;rw[e2,e1,List.take_left' hl,io]
 congr 2
 rw[hc,<-List.drop_drop,List.drop_left' hl,List.drop_left' (hc _)]
theorem rdN{α:Type}[Inhabited α]{f:α->AV}{sz:Nat}(hc:∀x,(f x).cells.length=sz){l:List α}{n k b:Nat}{H:Hp}(hb:H b=some (cL f l))(hl:l.length=n)(hk:k<n):rd H sz (.ptr b (n*sz) (k*sz))=some (f (l.getD k default)).cells:=by
 have hC:=eu hc l;rw[hl] at hC;have h1:k*sz+sz<=n*sz:=by rw[<-Nat.succ_mul];exact jv _ hk
 rw[SR.2.1,hb];show(if _ then _ else _)=_;rw[if_pos ⟨hC,h1⟩,zf hc (by omega)]
theorem rdP{α:Type}[Inhabited α]{f:α->AV}{sz:Nat}(hc:∀x,(f x).cells.length=sz){l:List α}{n k b o q:Nat}{H:Hp}(hb:H b=some (cL f l))(hl:l.length=n)(hk:k<n)(ho:o+q<=sz):rd H q (.ptr b (n*sz) (k*sz+o))=some (((f (l.getD k default)).cells.drop o).take q):=by
 have hC:=eu hc l;rw[hl] at hC;have h1:k*sz+sz<=n*sz:=by rw[<-Nat.succ_mul];exact jv _ hk
 rw[SR.2.1,hb];show(if _ then _ else _)=_;rw[if_pos ⟨hC,by omega⟩,<-zf hc (l:=l) (i:=k) (by omega),List.drop_take,List.take_take,List.drop_drop,Nat.min_eq_left (by omega)]
theorem Sx{α:Type}[Inhabited α]{f:α->AV}{sz:Nat}(hc:∀x,(f x).cells.length=sz){l:List α}{n k b o:Nat}{H:Hp}(hb:H b=some (cL f l))(hl:l.length=n)(hk:k<n)(ho:o<sz):rd1 H (.ptr b (n*sz) (k*sz+o))=(f (l.getD k default)).cells[o]?:=by
 have hC:=eu hc l;rw[hl] at hC;have h1:k*sz+sz<=n*sz:=by rw[<-Nat.succ_mul];exact jv _ hk
 rw[SR.1,hb];show(if _ then _ else _)=_;rw[if_pos hC,<-zf hc (l:=l) (i:=k) (by omega),List.getElem?_take_of_lt ho,kJ]
theorem ixN{b n sz k len:Nat}(h:k<len):eo sz (.msl b n sz 0 len) (.int .i64 (k:Int))=some (.ptr b n (k*sz)):=by
 rw[lh,if_pos ⟨by omega,by omega⟩,c9,dt]
def prV(v:VisV):Nat×Nat:=(v.p0,v.p1)
structure VOk(a b:AdvV)(V:List VisV):Prop where
 ne:0<V.length
 hd:(0,0)∈V.map prV
 nd:(V.map prV).Nodup
 rng:∀v∈V,v.p0<a.states.length/\v.p1<b.states.length
 both:∀v∈V,Fu a b (prV v)
 fr:∀j,0<j->j<V.length->(V.getD j default).fr<j
theorem D7{A B:Nat}:∀{P:List (Nat×Nat)},P.Nodup->(∀q∈P,q.1<A/\q.2<B)->P.length<=A*B:=λ{P} hn h=>by
 have hs:∀A,((List.range A).flatMap λs=>(List.range B).map λt=>(s,t)).length=A*B:=λA=>by
  induction A with
  |zero=>simp
  |succ A ih=>rw[List.range_succ,List.flatMap_append,cP,ih];simp[Nat.succ_mul]
 rw[<-hs A];refine Mr hn λq hq=>?_;obtain⟨h1,h2⟩:=h q hq;exact List.mem_flatMap.2 ⟨q.1,eM.2 h1,cE.2 ⟨q.2,eM.2 h2,rfl⟩⟩
theorem VOk.len{a b:AdvV}{V:List VisV}(h:VOk a b V)(ha:a.states.length<=8)(hb:b.states.length<=8):V.length<=64:=by
 have:=D7 (A:=a.states.length) (B:=b.states.length) h.nd λq hq=>by
  obtain⟨v,hv,rfl⟩:=cE.1 hq;exact h.rng v hv
 rw[bi] at this;have h1:a.states.length*b.states.length<=8*8:=Nat.mul_le_mul ha hb;omega
theorem VOk.start{a b:AdvV}(ha:AdvOk a)(hb:AdvOk b)(r:RndV):VOk a b [⟨0,0,0,r⟩]:=
 ⟨Nat.zero_lt_one,gH.2 rfl,by simp,fun v hv=>by
  rw[gH.1 hv];exact⟨ha.s1,hb.s1⟩,λv hv=>by
  rw[gH.1 hv];exact⟨[],rfl,rfl⟩,λj h0 hj=>by simp at hj;omega⟩
theorem Fu.step{a b:AdvV}{q:Nat×Nat}(h:Fu a b q){r:RndV}{s t:Nat}(h1:stp a q.1 r=some s)(h2:stp b q.2 r=some t):Fu a b (s,t):=by
 obtain⟨w,w1,w2⟩:=h;refine⟨w++[r],?_,?_⟩
 ·rw[qV,w1];show iM a q.1 [r]=some s;rw[iM,h1];rfl
 ·rw[qV,w2];show iM b q.2 [r]=some t;rw[iM,h2];rfl
theorem VOk.snoc{a b:AdvV}(ha:AdvOk a)(hb:AdvOk b){V:List VisV}(h:VOk a b V){i:Nat}(hi:i<V.length){r:RndV}{s t:Nat}(h1:stp a (V.getD i default).p0 r=some s)(h2:stp b (V.getD i default).p1 r=some t)(hn:(s,t)∉V.map prV):VOk a b (V++[⟨s,t,i,r⟩]):=by
 have hm:=ao hi;obtain⟨r1,r2⟩:=h.rng _ hm;refine⟨by simp,by rw[dp];exact rm _ h.hd,?_,λv hv=>?_,λv hv=>?_,λj h0 hj=>?_⟩
 ·rw[dp,yf];refine⟨h.nd,by simp,λx hx y hy e=>?_⟩;rw[List.map_singleton,gH] at hy;subst hy;subst e;exact hn hx
 ·rcases oh.1 hv with hv|hv
  ·exact h.rng v hv
  ·rw[gH.1 hv];exact⟨nI ha r1 h1,nI hb r2 h2⟩
 ·rcases oh.1 hv with hv|hv
  ·exact h.both v hv
  ·rw[gH.1 hv];exact(h.both _ hm).step h1 h2
 ·rw[cP,List.length_singleton] at hj;by_cases e:j<V.length
  ·have:(V++[(⟨s,t,i,r⟩:VisV)]).getD j default=V.getD j default:=by
     simp only[ng];rw[gG e]
   rw[this];exact h.fr j h0 e
  ·have hj:j=V.length:=by omega
   subst hj
   have:(V++[(⟨s,t,i,r⟩:VisV)]).getD V.length default=⟨s,t,i,r⟩:=by
    simp only[ng];rw[iA (bc _),Nat.sub_self];rfl
   rw[this];exact hi
theorem Clo.mono{a b:AdvV}{P P':List (Nat×Nat)}{q:Nat×Nat}(h:Clo a b P q)(hs:∀x∈P,x∈P'):Clo a b P' q:=λr=>⟨(h r).1,λs t h1 h2=>hs _ ((h r).2 s t h1 h2)⟩
theorem Mu{a b:AdvV}(ha:AdvOk a)(hb:AdvOk b){P:List (Nat×Nat)}{q:Nat×Nat}(h1:q.1<a.states.length)(h2:q.2<b.states.length)(h:∀s∈mrg (a.st q.1) (b.st q.2),0<=s.t0/\0<=s.t1/\(s.t0.toNat,s.t1.toNat)∈P):Clo a b P q:=λr=>by
 obtain⟨c1,c2⟩:=DK _ (a.st q.1) (b.st q.2) (bc _);have hok:=yL _ _ _ (oW ha h1) (oW hb h2) (bc _)
 have key:∀s∈mrg (a.st q.1) (b.st q.2),s.r=r->stp a q.1 r=some s.t0.toNat/\stp b q.2 r=some s.t1.toNat/\(s.t0.toNat,s.t1.toNat)∈P:=λs hs e=>by
  obtain⟨k1,k2⟩:=hok s hs;obtain⟨q1,q2,q3⟩:=h s hs;rw[e] at k1 k2;exact⟨((mo ha h1 k1).2 q1).1,((mo hb h2 k2).2 q2).1,q3⟩
 constructor
 ·constructor
  ·intro hn;cases e:stp b q.2 r with
   |none=>rfl
   |some t=>
    obtain⟨m,m1,m2,_⟩:=(eE hb h2).1 e;obtain⟨s,s1,s2⟩:=c2 m m1;have:=(key s s1 (s2.trans m2)).1;rw[hn] at this;cases this
  ·intro hn;cases e:stp a q.1 r with
   |none=>rfl
   |some t=>
    obtain⟨m,m1,m2,_⟩:=(eE ha h1).1 e;obtain⟨s,s1,s2⟩:=c1 m m1;have:=(key s s1 (s2.trans m2)).2.1;rw[hn] at this;cases this
 ·intro s t e1 e2;obtain⟨m,m1,m2,_⟩:=(eE ha h1).1 e1;obtain⟨x,s1,s2⟩:=c1 m m1;obtain⟨k1,k2,k3⟩:=key x s1 (s2.trans m2);rw[e1] at k1;rw[e2] at k2;cases k1;cases k2;exact k3
theorem Kn{x y:List MvV}(h:¬(x=[]/\y=[])):(∃m∈x,m.r=(hdM x y).r)\/(∃m∈y,m.r=(hdM x y).r):=by
 cases x with
 |nil=>
  cases y with
  |nil=>exact absurd ⟨rfl,rfl⟩ h
  |cons k y=>exact .inr ⟨k,gP ..,rfl⟩
 |cons m x=>
  cases y with
  |nil=>exact .inl ⟨m,gP ..,rfl⟩
  |cons k y=>
   unfold hdM;dsimp only;split
   ·exact .inl ⟨m,gP ..,rfl⟩
   ·split<;>exact .inr ⟨k,gP ..,rfl⟩
theorem Dx:∀(n:Nat)(x y:List MvV),x.length+y.length<=n->∀s∈mrg x y,(∃m∈x,m.r=s.r)\/(∃m∈y,m.r=s.r)
 |n,x,y,hn=>by
  by_cases e:x=[]/\y=[]
  ·obtain⟨rfl,rfl⟩:=e;intro s hs;cases hs
  have hlt:=vb x y (by
   by_cases hx:x=[]
   ·exact .inr λhy=>e ⟨hx,hy⟩
   ·exact .inl hx)
  match n with
  |0=>omega
  |n+1=>
   rw[nZ e];intro s hs;rcases gR.1 hs with rfl|hs
   ·exact Kn e
   ·rcases Dx n _ _ (by omega) s hs with⟨m,h1,h2⟩|⟨m,h1,h2⟩
    ·left;refine⟨m,?_,h2⟩;rw[pS] at h1;split at h1
     ·exact List.mem_of_mem_tail h1
     ·exact h1
    ·right;refine⟨m,?_,h2⟩;rw[qg] at h1;split at h1
     ·exact List.mem_of_mem_tail h1
     ·exact h1
theorem Ci{a b:AdvV}(ha:AdvOk a)(hb:AdvOk b){q:Nat×Nat}(h1:q.1<a.states.length)(h2:q.2<b.states.length)(hq:Fu a b q){s:StpV}(hs:s∈mrg (a.st q.1) (b.st q.2))(hd:s.t0<0\/s.t1<0):¬EqA a b:=by
 obtain⟨k1,k2⟩:=yL _ _ _ (oW ha h1) (oW hb h2) (bc _) s hs;have a1:=mo ha h1 k1;have b1:=mo hb h2 k2;have hone:=Dx _ _ _ (bc _) s hs;refine Co hq (r:=s.r) λhiff=>?_
 have hsome:∀(c:AdvV)(hc:AdvOk c)(i:Nat)(hi:i<c.states.length),(∃m∈c.st i,m.r=s.r)->stp c i s.r≠none:=λc hc i hi ⟨m,m1,m2⟩ e=>by
  have:=(eE hc hi).2 ⟨m,m1,m2,rfl⟩;rw[e] at this;cases this
 rcases hd with hd|hd
 ·have e:=a1.1.1 hd;rcases hone with h|h
  ·exact hsome a ha _ h1 h e
  ·exact hsome b hb _ h2 h (hiff.1 e)
 ·have e:=b1.1.1 hd;rcases hone with h|h
  ·exact hsome a ha _ h1 h (hiff.2 e)
  ·exact hsome b hb _ h2 h e
def pkV(q:Nat×Nat):AV:=.agg [.int .i64 q.1,.int .i64 q.2]
theorem Gz(v w:Nat×Nat):jV (.st [.int,.int]) (pkV v) (pkV w)=some (decide (v=w)):=by
 have h:=mr [(v.1:Int),(v.2:Int)] [(w.1:Int),(w.2:Int)] rfl;refine(show jV (.st [.int,.int]) (pkV v) (pkV w)=_ from h).trans ?_
 congr 1
 refine decide_eq_decide.2 ⟨λe=>?_,λe=>by rw[e]⟩;simp at e;exact Prod.ext (by omega) (by omega)
theorem GY{v:Nat×Nat}{ks:List (Nat×Nat)}(h:v∈ks):∃i,i<ks.length/\ef (.st [.int,.int]) (pkV v) (ks.map pkV)=some (some i):=by
 have q:=ie (.st [.int,.int]) pkV Gz v ks;rw[if_pos h] at q;refine⟨_,?_,q⟩;exact @List.idxOf_lt_length_of_mem _ _ instBEqOfDecidableEq _ _ h
theorem Hn{v:Nat×Nat}{ks:List (Nat×Nat)}(h:v∉ks):ef (.st [.int,.int]) (pkV v) (ks.map pkV)=some none:=by
 have q:=ie (.st [.int,.int]) pkV Gz v ks
 rwa [if_neg h] at q
def j4(n:Nat):List AV:=List.replicate n (.bool true)
theorem Bs{n k:Nat}(h:k<n):(j4 n).getD k .undef=.bool true:=by
 unfold j4;simp[List.getD,h]
theorem wR(n:Nat):j4 n++[.bool true]=j4 (n+1):=by
 unfold j4;rw[List.replicate_succ']
section
attribute [local irreducible] aF ai bj aY aN aM ax aS a8 bm Go.Abs.Fn aX Go.Abs.Pure ap aK Yl
theorem Mm(t:TaskV)(p:List Int)(fit:Fit t)(h:ba t=0)(hp:be p=0)(hn:(p.length:Int)=t.n):pU 55 [aq p,.iptr [.int .i64 t.n,.int .i64 t.ins,.int .i64 t.outs,bw t.cases] 0] (.bool (decide (t=d7 t p))):=by
 refine pO Ri ?_;simp only[b55,aw];have hpl:p.length<=5:=(cC hp).2.1;have hc:=FR t p fit.sh fit.sh2 fit.q (show p.length<=_ by omega);rw[BK h hp hn] at hc;obtain⟨r1,r2⟩:=Jj h fit hp hn;have hs:=IB t (d7 t p) fit.sh fit.sh2 r1 r2;have d1:=fV t;have d2:=fV (d7 t p);generalize d7 t p=R at *;unfold gF at *;dsimp only at hc;have zz:=aI @aG @aA;repeat' (first|refine zW ?_|apply a_n|refine zO ?_|refine vZ ?_|refine cZ ?_ (hp:=by first|exact hc|exact hs)|refine alZ ?_|refine stZ ?_|refine gTZ ?_|(refine zGZ ?_ ?_<;>(intro _hg;try (exfalso;omega)))|refine au rfl ?_|refine r1Z ?_|fail)
 exact .bool _
theorem zj(t:TaskV)(fit:Fit t):pU 23 [gF t] (.tup [ay (Gn t).1,.int .i64 (Gn t).2]):=by
 refine pO R6 ?_;simp only[b23,aw];have hc:=tL t fit.sh fit.sh2;have d1:=fV t;unfold Gn;generalize hAA:[.int .i64 t.n,.int .i64 t.ins,.int .i64 t.outs,bw t.cases]=A;have hTA:gF t=.agg A:=by rw[<-hAA];rfl
 rw[hTA] at hc d1 |-;by_cases he:ba t=0
 rotate_left
 ·rw[if_pos he];generalize ba t=C at *;subst hAA;have zz:=aI @aG @aA;repeat' (first|refine zW ?_|apply a_n|apply a_r|refine zO ?_|refine vZ ?_|refine cZ ?_ (hp:=hc)|refine bxZ ?_|(refine zGZ ?_ ?_<;>(intro _hg;try (exfalso;omega)))|refine au rfl ?_|refine r2Z ?_|fail)
  exact Jh _
 rw[if_neg (λh=>h he)];rw[he] at hc;have nn:=n9 he;have hall:=Qm t.n.toNat (by omega) (by omega);rw[show((t.n.toNat:Nat):Int)=t.n by omega] at hall;have hpo:=wu t.n.toNat (by omega) (by omega);refine eN (λT H nx=>T 1=.ptr 0 4 0/\H=av aP 0 A/\nx=1) ?_ ?_
 ·subst hAA;have zz:=aI @aG @aA;repeat' (first|apply a_n|refine zO ?_|refine vZ ?_|refine bxZ ?_|fail)
  exact⟨rfl,rfl,rfl⟩
 rintro T H _ ⟨t1,rfl,rfl⟩;refine eN (λT H nx=>T 1=.ptr 0 4 0/\H=av aP 0 A/\nx=1) ?_ ?_
 ·subst hAA;have zz:=aI @t1 (aI @aG @aA);repeat' (first|refine zW ?_|apply a_n|refine zO ?_|refine vZ ?_|refine cZ ?_ (hp:=hc)|(refine zGZ ?_ ?_<;>(intro _hg;try (exfalso;omega)))|fail)
  exact⟨(have zz:=@t1;evZ),rfl,rfl⟩
 clear t1;rintro T H _ ⟨t1,rfl,rfl⟩;refine eN (λT H nx=>T 1=.ptr 0 4 0/\T 5=ay (kg t.n.toNat)/\T 6=.int .i64 0/\H=av aP 0 A/\nx=1) ?_ ?_
 ·subst hAA;have zz:=aI @t1 (aI @aG @aA);repeat' (first|apply a_n|refine zO ?_|refine vZ ?_|refine cZ ?_ (hp:=hall)|fail)
  exact⟨(have zz:=@t1;evZ),ev0,ev0,rfl,rfl⟩
 clear t1;rintro T H _ ⟨t1,t5,t6,rfl,rfl⟩;refine eN (λT H nx=>T 1=.ptr 0 4 0/\T 5=ay (kg t.n.toNat)/\H=av aP 0 A/\nx=1) ?_ ?_
 ·have zz:=aI @t1 (aI @t5 @t6);repeat' (first|refine zW ?_|apply a_n|refine zO ?_|refine vZ ?_|(refine zGZ ?_ ?_<;>(intro _hg;try (exfalso;omega)))|fail)
  exact⟨(have zz:=@t1;evZ),(by((try simp only[bg,ZA,reduceEqDiff,↓reduceIte,reduceAdd,reduceLeDiff,t5]);(try with_reducible rfl))),rfl,rfl⟩
 clear t1 t5 t6;rintro T H _ ⟨t1,t5,rfl,rfl⟩
 have dA:∀x∈A,Dat x:=by
  rw[<-hAA];exact DatL.cons .int (DatL.cons .int (DatL.cons .int (DatL.cons (ib _) DatL.nil)))
 have hk:=IG (kg t.n.toNat) (fun p=>decide (t=d7 t p)) 55 [.iptr A 0] (DatL.cons (Dat.iptr dA) DatL.nil) (fun p hp=>by
  subst hAA;obtain⟨p1,p2⟩:=v7 he hp;exact Mm t p fit he p1 p2) (by omega)
 have hAl:A.length=4:=by subst hAA;rfl
 refine nM ?_;refine rh (only 0 A) (dv (av aP 0 A) 0) [(1,.iptr A 0),(5,ay (kg t.n.toNat))] (Fz.one ae) ⟨.inr (by rw[t1];exact fU ez hAl (di dA)),.inl t5,trivial⟩ ?_
 repeat' (first|apply a_n|refine zO ?_|refine vY ?_|fail)
 refine eJ (evY) (evY) hk (bC (ac (bS _ _) (ac (iT (ac (Dat.iptr dA _) al)) al))) ?_
 repeat' (first|apply a_n|refine zO ?_|refine vY ?_|refine au rfl ?_|refine r2Y ?_|fail)
 exact bE (ac (bS _ _) (ac (.int _ _) al))
theorem Cu(p q:List Int)(hp:be p=0)(hq:be q=0)(hl:q.length=p.length):pU 114 [aq p,aq q] (aq (dZ p q)):=by
 obtain⟨q1,q2,q3,q4⟩:=cC hq;refine pO Qe ?_;simp only[PI,aw]
 have hz:bd (.agg [.int .i64 0]) q.length=((List.range q.length).map λi=>if i<0 then p.getD (q.getD i default).toNat default else(idL q.length).map (λ_=>(0:Int)) |>.getD i default).map (AV.int .i64):=by
  refine List.ext_getElem (by simp[bd,AV.cells]) λi h1 h2=>?_;simp[bd,AV.cells] at h1;simp[bd,AV.cells,List.getD,cm,h1]
 repeat' (first|refine zW ?_|apply a_n|refine zO ?_|refine vZ ?_|fail)
 refine nj rfl ev0 ev0 (by omega) (by omega) (by omega) (by omega) ?_;rw[c9,hz];generalize hZ:(idL q.length).map (λ_=>(0:Int))=Z;have hZl:Z.length=q.length:=by rw[<-hZ,bi,cm]
 repeat' (first|refine zW ?_|apply a_n|refine zO ?_|refine vZ ?_|fail)
 refine bq (X:=Nat) (λk=>[(0,aq p),(5,.msl 0 q.length 1 0 q.length),(11,aq q),(12,.int .i64 q.length),(13,.int .i64 k)]) (λk H nx=>k<=q.length/\H=av aP 0 (((List.range q.length).map λi=>if i<k then p.getD (q.getD i default).toNat default else Z.getD i default).map (AV.int .i64))/\nx=1) (λk=>q.length-k) 0 ⟨bo _,rfl,rfl⟩ (by simp (disch:=omega) only[agr,ZG,reduceEqDiff,↓reduceIte,Nat.mul_one]) ?_;rintro k H nx ⟨hk,rfl,rfl⟩;by_cases hk2:k<q.length
 ·have hr:=q3 k hk2
  have hst:(((List.range q.length).map λi=>if i<k then p.getD (q.getD i default).toNat default else Z.getD i default).set k (p.getD (q.getD k default).toNat default))=(List.range q.length).map λi=>if i<k+1 then p.getD (q.getD i default).toNat default else Z.getD i default:=by
   refine List.ext_getElem (by simp) λi h1 h2=>?_;simp only[List.getElem_set,List.getElem_map,List.getElem_range];by_cases hik:k=i
   ·subst hik;rw[if_pos rfl,if_pos (by omega)]
   ·rw[if_neg hik];by_cases h3:i<k
    ·rw[if_pos h3,if_pos (by omega)]
    ·rw[if_neg h3,if_neg (by omega)]
  have hll:((List.range q.length).map λi=>if i<k then p.getD (q.getD i default).toNat default else Z.getD i default).length=q.length:=by simp
  have hlm:=gk (f:=AV.int .i64) (l:=(List.range q.length).map λi=>if i<k then p.getD (q.getD i default).toNat default else Z.getD i default) (k:=k) (x:=p.getD (q.getD k default).toNat default) (by omega);have hpl:((q.getD k default).toNat:Int)<p.length:=by omega
  generalize hL:((List.range q.length).map λi=>if i<k then p.getD (q.getD i default).toNat default else Z.getD i default)=L at hst hll hlm |-
  repeat' (first|refine zW ?_|apply a_n|refine zO ?_|refine vZ ?_|refine stZ ?_|(refine zGZ ?_ ?_<;>(intro _hg;try (exfalso;omega)))|fail)
  refine⟨k+1,by omega,⟨by omega,?_,rfl⟩,ag0⟩;rw[jg,hlm,hst]
 ·obtain rfl:k=q.length:=by omega
  have e:dZ p q=(List.range q.length).map λi=>if i<q.length then p.getD (q.getD i default).toNat default else Z.getD i default:=by
   refine List.ext_getElem (by simp[dZ]) λi h1 h2=>?_;rw[ct] at h1;simp[dZ,List.getD,h1]
  repeat' (first|refine zW ?_|apply a_n|apply a_x|refine zO ?_|refine vZ ?_|(refine zGZ ?_ ?_<;>(intro _hg;try (exfalso;omega)))|refine au rfl ?_|refine r1Z ?_|fail)
  rw[e];exact oU ae rfl (by simp)
theorem Q4(b q:Nat)(hb:b<=1)(hq:q<=20)(tb tf:Bool):bt .shl tb tf (.int .i64 (b:Int)) (.int .i64 (q:Int))=some (.int .i64 ((b*2^q:Nat):Int)):=by
 rcases(by omega:b=0\/b=1) with rfl|rfl
 ·simp[bt,ou,IntKind.bits];rfl
 ·rw[Nat.one_mul];exact Pq hq tb tf
theorem Lo(p:List Int)(f:Int)(hp:be p=0)(hf:0<=f/\f<((2^p.length:Nat):Int)):pU 186 [aq p,.int .i64 f] (.tup [.int .i64 (ji p f),.int .i64 0]):=by
 obtain⟨p1,p2,p3,p4⟩:=cC hp;have hc:=gW p (show p.length<=_ by omega);rw[hp] at hc;refine pO Qu ?_;simp only[Pd,aw];have hsl:=Pq (p:=p.length) (by omega);have z1:decide (f<0)=false:=bJ (by omega);have z2:decide (f≥((2^p.length:Nat):Int))=false:=bJ (by omega);have hlt:=yu hp f.toNat;have hpw:2^p.length<=2^5:=Nat.pow_le_pow_right (by omega) p2;have hst:∀k,rV p f.toNat (k+1)=rV p f.toNat k ||| f.toNat/2^k%2*2^(p.getD k default).toNat:=λk=>rfl;have hfin:ji p f=(rV p f.toNat p.length:Nat):=rfl;have h00:rV p f.toNat 0=0:=rfl
 have hsh:∀(k:Nat),k<=60->nS f k=((f.toNat/2^k:Nat):Int):=λk hk=>by
  have:=vW (m:=f.toNat) hk
  rwa [Int.toNat_of_nonneg hf.1] at this
 rw[hfin];generalize rV p f.toNat=N at *;refine wnZ (zI3 @hsl @z1 @z2) ?_;refine bq (X:=Nat) (λk=>[(0,aq p),(1,.int .i64 f),(7,.int .i64 (N k:Nat)),(24,aq p),(25,.int .i64 p.length),(26,.int .i64 k)]) (λk H nx=>k<=p.length) (λk=>p.length-k) 0 (bo _) (by rw[h00];simp (disch:=omega) only[agr,ZG,reduceEqDiff,↓reduceIte]) ?_;intro k H nx hk;by_cases hk2:k<p.length
 ·have h3:=p3 k hk2;have hs:=hst k;have e1:=λtb tf=>yF tb tf f k;have e2:=λtb tf=>yq tb tf (nS f k);have e3:tx (nS f k)=((f.toNat/2^k%2:Nat):Int):=by rw[hsh k (by omega),HY]
  have e4:=λtb tf=>Q4 (f.toNat/2^k%2) (p.getD k default).toNat (by omega) (by omega) tb tf;rw[Int.toNat_of_nonneg h3.1] at e4;have hb1:=hlt k hk
  have hb2:f.toNat/2^k%2*2^(p.getD k default).toNat<2^5:=by
   have:(2:Nat)^(p.getD k default).toNat<=2^4:=Nat.pow_le_pow_right (by omega) (by omega);have hm:f.toNat/2^k%2<2:=Nat.mod_lt _ (by omega);rcases(by omega:f.toNat/2^k%2=0\/f.toNat/2^k%2=1) with e|e<;>rw[e]<;>omega
  have e5:=λtb tf=>Go.Abs.or_nat (k:=.i64) (tb:=tb) (tf:=tf) (a:=N k) (b:=f.toNat/2^k%2*2^(p.getD k default).toNat) (by simp only[IntKind.bits];omega) (by simp only[IntKind.bits];omega);rw[e3] at e2;generalize f.toNat/2^k%2*2^(p.getD k default).toNat=X at *;generalize f.toNat/2^k%2=Y at *;refine wnZ (zI4 @e1 @e2 @e4 @e5) ?_;exact⟨k+1,by omega,by omega,by rw[hs];simp (disch:=omega) only[agr,ZG,reduceEqDiff,↓reduceIte]⟩
 ·obtain rfl:k=p.length:=by omega
  refine wnZ and_self ?_;exact bE (ac (.int _ _) (ac (.int _ _) al))
theorem EP(p:List Int)(hp:be p=0):pU 215 [aq p] (.tup [aq (fi p),.int .i64 0]):=by
 obtain⟨p1,p2,p3,p4⟩:=cC hp;have hc:=gW p (show p.length<=_ by omega);rw[hp] at hc
 have hz:bd (.agg [.int .i64 0]) p.length=(mvK (idL p.length) p 0).map (AV.int .i64):=by
  simp[bd,mvK,AV.cells,cm]
 refine pO QH ?_;simp only[P2,aw]
 repeat' (first|refine zW ?_|apply a_n|refine zO ?_|refine vZ ?_|refine cZ ?_ (hp:=hc)|(refine zGZ ?_ ?_<;>(intro _hg;try (exfalso;omega)))|fail)
 refine nj rfl ev0 ev0 (by omega) (by omega) (by omega) (by omega) ?_;rw[c9,hz]
 repeat' (first|refine zW ?_|apply a_n|refine zO ?_|refine vZ ?_|fail)
 refine bq (X:=Nat) (λk=>[(0,aq p),(5,.msl 0 p.length 1 0 p.length),(16,aq p),(17,.int .i64 p.length),(18,.int .i64 k)]) (λk H nx=>k<=p.length/\H=av aP 0 ((mvK (idL p.length) p k).map (AV.int .i64))/\nx=1) (λk=>p.length-k) 0 ⟨bo _,rfl,rfl⟩ (by simp (disch:=omega) only[agr,ZG,reduceEqDiff,↓reduceIte,Nat.mul_one]) ?_;rintro k H nx ⟨hk,rfl,rfl⟩;have hml:=pc (idL p.length) p k;rw[cm] at hml;by_cases hk2:k<p.length
 ·have hr:=p3 k hk2;have hlm:=gk (f:=AV.int .i64) (l:=mvK (idL p.length) p k) (k:=(p.getD k default).toNat) (x:=(k:Int)) (by omega)
  repeat' (first|refine zW ?_|apply a_n|refine zO ?_|refine vZ ?_|refine stZ ?_|(refine zGZ ?_ ?_<;>(intro _hg;try (exfalso;omega)))|fail)
  refine⟨k+1,by omega,⟨by omega,?_,rfl⟩,ag0⟩;rw[jg,hlm,mvK,je hk2]
 ·obtain rfl:k=p.length:=by omega
  repeat' (first|refine zW ?_|apply a_n|apply a_x|refine zO ?_|refine vZ ?_|(refine zGZ ?_ ?_<;>(intro _hg;try (exfalso;omega)))|refine au rfl ?_|refine r2Z ?_|fail)
  rw[show fi p=mvK (idL p.length) p p.length by unfold fi bX;rw[cm]];exact bE (ac (oU ae rfl hml) (ac (.int _ _) al))
theorem Lr(n:Nat)(hn:n<=5)(g:Nat)(caps:List AV)(f:Nat->Int)(hd:∀x∈caps,Dat x)(hg:∀q,q<n->pU g (.int .i64 (q:Nat)::caps) (.int .i64 (f q))):pU 216 [.int .i64 n,.func g caps] (.agg (mdC n f n)):=by
 refine pO Np ?_;simp only[NC,aw];refine wnY and_self ?_;refine bq (X:=Nat) (λk=>[(0,.int .i64 n),(1,.func g caps),(4,.ptr 0 6 0),(5,.ptr 1 6 0),(9,.int .i64 n),(10,.int .i64 k)]) (λk H nx=>k<=n/\nx=2/\H 0=some [.int .i64 0,.int .i64 0,.int .i64 0,.int .i64 0,.int .i64 0,.int .i64 0]/\H 1=some (mdC n f k)) (λk=>n-k) 0 ⟨bo _,rfl,by simp (disch:=omega) only[ab,ae],by simp (disch:=omega) only[ae];rfl⟩ (by simp (disch:=omega) only[agr,ZG,reduceEqDiff,↓reduceIte,SL]) ?_;rintro k H nx ⟨hk,rfl,g0,g1⟩;by_cases hk2:k<n
 ·have hc:=hg k hk2;have hp:=KA (n:=n) (f:=f) (k:=k) (by omega);have hC:(mdC n f k).length=6:=rfl;generalize mdC n f k=C at *;have zz:=aI @g0 (aI @g1 @IX);repeat' (first|refine zW ?_|apply a_n|refine zO ?_|refine vY ?_|refine cY ?_ (hp:=hc) (hs:=by(first|refine bK ?_ rfl|apply bC);(repeat' (first|exact al|apply fj|apply cU|exact di hd));first|done|fail)|refine stY ?_|(refine zGY ?_ ?_<;>(intro _hg;try (exfalso;omega)))|fail)
  rw[hp];exact⟨k+1,by omega,⟨by omega,rfl,by simp (disch:=omega) only[ab];exact g0,by simp (disch:=omega) only[ae]⟩,by simp (disch:=omega) only[agr,ZG,reduceEqDiff,↓reduceIte,SL]⟩
 ·obtain rfl:k=n:=by omega
  unfold mdC at g1 |-;refine wnY (aI @g0 @g1) ?_;exact eh (ac (.int _ _) (ac (.int _ _) (ac (.int _ _) (ac (.int _ _) (ac (.int _ _) (ac (.int _ _) al))))))
theorem KK(p:List Int)(r:RndV)(q:Nat)(hp:be p=0)(hr:gu r=0)(hn:(p.length:Int)=r.n)(hq:q<p.length):pU 217 [.int .i64 (q:Nat),.iptr [aq p] 0,.iptr r.gc 0,.iptr [aq (fi p)] 0] (.int .i64 (l4 p r q)):=by
 obtain⟨p1,p2,p3,p4⟩:=cC hp;obtain⟨h1,h2,h3⟩:=eX hr;obtain⟨g1,g2,g3⟩:=i7 h1;obtain⟨i,i1,i2,i3⟩:=Iw hp hq;have g5:=(g3 i (by omega)).2 (by omega);have hs:=Lo p (r.hs.getD i 0) hp ⟨g5.1,by rw[<-yZ hn];exact g5.2.1⟩;have e:l4 p r q=ji p (r.hs.getD i 0):=by unfold l4;rw[if_pos hq,i2,c9]
 have hcell:=mP r (q:=i) (by omega);have hil:(fi p).length=p.length:=fS
 have ix:eo 1 (aq (fi p)) (.int .i64 (q:Int))=some (.iptr [.int .i64 (i:Int)] 0):=by
  rw[rp,if_pos ⟨by omega,by omega⟩,c9,i2]
 refine pO Qy ?_;simp only[Oq,aw];rw[e,PC.2.1];generalize r.hs.getD i 0=x at *;refine wkY (zI3 @IX @ix @hcell) ?_;exact .int _ _
theorem IY(p:List Int)(r:RndV)(hp:be p=0)(hr:gu r=0)(hn:(p.length:Int)=r.n):pU 185 [jQ r,aq p] (.tup [jQ (dG p r),.int .i64 0]):=by
 obtain⟨p1,p2,p3,p4⟩:=cC hp;obtain⟨h1,h2,h3⟩:=eX hr;have hck:=Dc r h1;have hdg:=iw r;have hi:=EP p hp;have hm:=Lr p.length p2 217 [.iptr [aq p] 0,.iptr r.gc 0,.iptr [aq (fi p)] 0] (l4 p r) (DatL.cons (Dat.iptr (DatL.cons (bP _) DatL.nil)) (DatL.cons (Dat.iptr (uO r)) (DatL.cons (Dat.iptr (DatL.cons (bP _) DatL.nil)) DatL.nil))) λq hq=>KK p r q hp hr hn hq
 have e:mdC p.length (l4 p r) p.length=(dG p r).gc:=by
  have ho:∀q,¬q<p.length->l4 p r q=0:=λq hq=>by unfold l4;rw[if_neg hq]
  have hx:∀q,(if q<p.length then l4 p r q else 0)=l4 p r q:=λq=>by
   by_cases h:q<p.length
   ·rw[if_pos h]
   ·rw[if_neg h,ho q h]
  unfold mdC;rw[hx,hx,hx,hx,hx,hn];rfl
 rw[e,PC.2.1] at hm;have z:decide ((p.length:Int)≠r.n)=false:=bJ (by omega);refine pO Nr ?_;simp only[Pr,aw];unfold jQ at hck hdg |-;rw[PC.2.1] at hck hdg hm;rw[PC.2.1];rw[PC.2.1 (dG p r)];rw[hn] at hm;have hrn:(dG p r).n=r.n:=rfl;refine wnY @z ?_;refine eJ ev0 ev0 hm (bK (ac (.int _ _) (ac (iT (ac (fU (by simp (disch:=omega) only[ab,ae]) rfl (ac (bP _ _) al)) (ac (fU (by simp (disch:=omega) only[ab,ae]) rfl (di (uO r))) (ac (fU (by simp (disch:=omega) only[ae];rfl) rfl (ac (bP _ _) al)) al)))) al)) rfl) ?_;refine wnY and_self ?_;exact bE (ac (eh (ac (.int _ _) (ac (.int _ _) (ac (.int _ _) (ac (.int _ _) (ac (.int _ _) (ac (.int _ _) al))))))) (ac (.int _ _) al))
theorem As(p:List Int)(r:RndV)(hp:be p=0)(hr:gu r=0)(hn:(p.length:Int)=r.n):pU 152 [cK r,aq p] (.tup [cK (dG p r),.int .i64 0]):=by
 obtain⟨h1,h2,h3⟩:=eX hr;have hck:=CQ r hr;have hg:=IY p r hp hr hn;have hs:=Lo p r.f hp ⟨h2,by rw[<-yZ hn];exact h3⟩;have hdr:=fY r;have hdg:=iw r;have e1:(dG p r).f=ji p r.f:=rfl;refine pO Oj ?_;simp only[NQ,aw];unfold cK at hck hdr |-;unfold jQ at hg hdg;rw[PC.1] at hck hdr |-;rw[PC.1 (dG p r),e1];rw[PC.2.1,PC.2.1] at hg;rw[PC.2.1] at hdg;generalize dG p r=r' at *;generalize ji p r.f=f' at *;refine wnY and_self ?_;exact bE (ac (eh (ac (.int _ _) (ac (.int _ _) (ac (.int _ _) (ac (.int _ _) (ac (.int _ _) (ac (.int _ _) (ac (.int _ _) al)))))))) (ac (.int _ _) al))
theorem JC(p:List Int)(m:MvV)(hp:be p=0)(hr:gu m.r=0)(hn:(p.length:Int)=m.r.n):pU 144 [aq p,dB m] (.tup [dB ⟨dG p m.r,m.to⟩,.int .i64 0]):=by
 have h:=As p m.r hp hr hn;have hdr:=fY m.r;refine pO Nl ?_;simp only[Pz,aw];unfold cK at h hdr;unfold dB;rw[PC.1,PC.1] at h;rw[PC.1] at hdr;rw[PC.2.2.1,PC.2.2.1];dsimp only;generalize dG p m.r=r' at *;refine wnY and_self ?_;exact bE (ac (eh (ac (.int _ _) (ac (.int _ _) (ac (.int _ _) (ac (.int _ _) (ac (.int _ _) (ac (.int _ _) (ac (.int _ _) (ac (.int _ _) al))))))))) (ac (.int _ _) al))
theorem KI(x y:MvV):pU 146 [dB x,dB y] (.int .i64 (aD x.r.ints y.r.ints)):=by
 have h:=rQ x.r y.r;have hx:=fY x.r;have hy:=fY y.r;refine pO Qn ?_;simp only[P6,aw];unfold cK at h hx hy;unfold dB;rw[PC.1,PC.1] at h;rw[PC.1] at hx hy;rw[PC.2.2.1,PC.2.2.1];refine wnY and_self ?_;exact .int _ _
theorem QV:Cmp8 Tryz.prog dB KM (λ_=>True) 146 [] where
 len _:=rfl
 agg _:=rfl
 ones _:=rfl
 dat v:=rl v
 dcaps:=by simp
 run x y _ _:=KI x y
 ord:=MF
theorem FC(p:List Int)(a:AdvV)(hp:be p=0)(ha:ShA a)(ho:AdvOk a)(hn:(p.length:Int)=a.n):pU 98 [ca a,aq p] (.tup [ca (e7 p a),.int .i64 0]):=by
 have hmv:=λl hl m hm=>JC p m hp (ho.mv l hl m hm).r (by rw[(ho.mv l hl m hm).n];exact hn);have h8:=ha.len;have hne:=ho.ne;have hml:=λl hl=>eK (jB (l:=a.states) (x:=l) hl) ho.m4096
 have hinj:∀l∈a.states,∀x∈l.map (nc p),∀y∈l.map (nc p),¬KM x y<0->¬KM y x<0->x=y:=λl hl x hx y hy h1 h2=>by
  obtain⟨m,hm,rfl⟩:=cE.1 hx;obtain⟨k,hk,rfl⟩:=cE.1 hy;have e:dG p m.r=dG p k.r:=mj.1 (kK h1 h2);have om:=ho.mv l hl m hm;have ok:=ho.mv l hl k hk;have e2:=qH hp ⟨om.r,by rw[om.n];exact hn.symm⟩ ⟨ok.r,by rw[ok.n];exact hn.symm⟩ e;obtain⟨i,hi,ei⟩:=fW hm;obtain⟨j,hj,ej⟩:=fW hk
  have asc:∀i j,i<j->j<l.length->aD (l.getD i default).r.ints (l.getD j default).r.ints<0:=λi j hij=>by
   induction j with
   |zero=>omega
   |succ j ih=>
    intro hj;have h:=ho.asc l hl (j+1) (by omega) hj;rw[Nat.add_sub_cancel] at h;rcases lL.1 hij with q|q
    ·exact fG (ih q (by omega)) h
    ·rw[q];exact h
  have gi:l.getD i default=m:=by rw[<-ei];simp[List.getD,hi]
  have gj:l.getD j default=k:=by rw[<-ej];simp[List.getD,hj]
  have nr:∀x:List Int,¬aD x x<0:=λx=>pA.irr x;rcases vv i j with q|q|q
  ·have:=asc i j q hj;rw[gi,gj,e2] at this;exact absurd this (nr _)
  ·subst q;rw[gi] at gj;rw[gj]
  ·have:=asc j i q hi;rw[gi,gj,e2] at this;exact absurd this (nr _)
 refine pO Sl ?_;simp only[b98,aw];unfold ca;rw[PC.2.2.2.1,PC.2.2.2.1];have hS:(e7 p a).states=a.states.map (lr p):=rfl;have hnn:(e7 p a).n=a.n:=rfl;rw[hS,hnn];generalize a.states=S at *;generalize a.n=N at *;refine wnY @PE ?_
 refine pM (X:=Nat×AV) (λx=>[(4,.ptr 1 2 0),(6,.bfn 144 [aq p]),(7,.ptr 2 2 0),(21,aQ S),(22,.int .i64 S.length),(23,.int .i64 x.1)]) (λx H nx=>x.1<=S.length/\3<=nx/\H 1=some [.int .i64 0,.esl]/\H 2=some [.int .i64 N,x.2]/\Row H 1 x.2 (((S.take x.1).map (lr p)).map bD)/\∀b,bk x.2=some b->3<=b/\b<nx) (λx=>S.length-x.1) (0,.esl)
  ⟨aP,_,Fz.none,⟨bo _,by omega,by simp (disch:=omega) only[ab,ae],by simp (disch:=omega) only[ae];rfl,.nil,λb h=>(by cases h)⟩,eT (by simp (disch:=omega) only[agr,ZG,reduceEqDiff,↓reduceIte,SL])⟩ ?_
 rintro⟨k,sv⟩ H nx ⟨hk,hnx,g1,g2,hrow,hb⟩;dsimp only at hk g2 hrow hb |-;obtain⟨o1,o2⟩:=hrow.one;by_cases hk2:k<S.length
 rotate_left
 ·obtain rfl:k=S.length:=by omega
  rw[List.take_length] at hrow;refine wnY (zI5 @PE @g1 @g2 @o1 @o2) ?_;exact bE (ac (eh (ac (.int _ _) (ac (C7 (hrow.same λb h=>ab (by have:=hb b h;omega))) al))) (ac (.int _ _) al))
 have ix:=tz hk2;have hl:=ao hk2;have hmv2:=hmv _ hl;have hne2:=hne _ hl;have hml2:=hml _ hl;have hinj2:=hinj _ hl
 have htk:((S.take (k+1)).map (lr p)).map bD=((S.take k).map (lr p)).map bD++[bD (lr p (S.getD k default))]:=by
  rw[bZ hk2,dp,dp];rfl
 generalize S.getD k default=l at *;clear hmv hne hml hinj;refine wnY (zI6 @PE @g1 @g2 @o1 @o2 @ix) ?_;refine bq (X:=Nat×AV) (λx=>[(4,.ptr 1 2 0),(6,.bfn 144 [aq p]),(7,.ptr 2 2 0),(21,aQ S),(22,.int .i64 S.length),(23,.int .i64 k),(10,x.2),(27,bD l),(28,.int .i64 l.length),(29,.int .i64 x.1)]) (λx H' nx'=>x.1<=l.length/\nx<=nx'/\(∀y,y<nx->H' y=H y)/\Row H' 8 x.2 (cL dB ((l.take x.1).map (nc p)))/\∀b,bk x.2=some b->nx<=b/\b<nx') (λx=>l.length-x.1) (0,.esl) ⟨bo _,bc _,λ_ _=>rfl,.nil,λb h=>(by cases h)⟩ (by simp (disch:=omega) only[agr,ZG,reduceEqDiff,↓reduceIte,SL]) ?_;rintro⟨j,ro⟩ H1 n1 ⟨hj,hn1,fr,hr1,hb1⟩;dsimp only at hj hr1 hb1 |-;obtain⟨q1,q2⟩:=hr1.one;by_cases hj2:j<l.length
 ·have ixm:=ixM hj2;have hm:=hmv2 _ (ao hj2);have htj:(l.take (j+1)).map (nc p)=(l.take j).map (nc p)++[nc p (l.getD j default)]:=by rw[bZ hj2,dp];rfl
  have hd:=rl (l.getD j default);have hrm:dB ⟨dG p (l.getD j default).r,(l.getD j default).to⟩=dB (nc p (l.getD j default)):=rfl;rw[hrm] at hm;have hcl:=eu (f:=dB) (sz:=8) (λ_=>rfl) ((l.take j).map (nc p));rw[bi,iX,Nat.min_eq_left hj] at hcl;have hc1:cL dB [nc p (l.getD j default)]=(nc p (l.getD j default)).cs:=mH _;generalize nc p (l.getD j default)=m' at *;generalize l.getD j default=m at *;unfold dB at hm hd;rw[PC.2.2.1] at ixm hd hc1;rw[PC.2.2.1,PC.2.2.1] at hm;refine wnY (zI4 @PE @q1 @q2 @ixm) ?_;refine Ka ev0 ev0 (Abs.Fn.of_pure hm (bC (ac (bP _ _) (ac (hd _) al))) ?_);refine wnY (zI3 @PE @q1 @q2) ?_;refine dY (k:=1) (sv:=ro) (xv:=.msl (n1+2) 8 8 0 1) (cs:=cL dB ((l.take j).map (nc p))) (new:=[.int .i64 m'.r.n,.int .i64 m'.r.h0,.int .i64 m'.r.h1,.int .i64 m'.r.h2,.int .i64 m'.r.h3,.int .i64 m'.r.h4,.int .i64 m'.r.f,.int .i64 m'.to]) rfl ev0 (hr1.same λb h=>by have:=hb1 b h;simp (disch:=omega) only[ab]) ev0 (dw rfl) rfl rfl (by omega) (by omega) (by omega) ?_;rintro ro' H3 n3 r1 r2 r3 r4 r5;refine wnY @PE ?_;refine⟨(j+1,ro'),by dsimp only;omega,⟨by dsimp only;omega,by omega,λy hy=>?_,by dsimp only;rw[htj,eR,hc1];exact r1,λb h=>?_⟩,by simp (disch:=omega) only[agr,ZG,reduceEqDiff,↓reduceIte,SL]⟩
  ·rw[r4 y (by omega) (λh=>by have:=hb1 y h;omega)];simp (disch:=omega) only[ab];exact fr y hy
  ·rcases r5 b h with h|h
   ·have:=hb1 b h;omega
   ·omega
 obtain rfl:j=l.length:=by omega
 rw[List.take_length] at hr1;have hsz:0<l.length:=yV.2 hne2
 obtain ⟨B,len,rfl,hB,hlen⟩:=jR hr1 (fun e=>by
  have:=eu (f:=dB) (sz:=8) (λ_=>rfl) (l.map (nc p));rw[e,bi] at this;simp at this;omega)
 rw[eu (f:=dB) (sz:=8) (λ_=>rfl),bi] at hlen;obtain rfl:len=l.length:=by omega
 obtain⟨hB1,hB2⟩:=hb1 B rfl;refine wnY @PE ?_;refine ce ev0 ev0 (Js QV (L:=l.map (nc p)) hB hB2 (bi _) hsz (λ_ _=>trivial) (by omega)) ?_;rintro r H4 n4 ⟨L',hPS,hperm,hsort⟩
 have hLe:L'=lr p l:=i5 MF hinj2 (dC.of (by
  have:L'.length=l.length:=by rw[hperm.length_eq,bi]
  rw[this];exact hsort)) hperm
 have h4:∀y,y<nx->H4 y=H y:=λy hy=>(hPS.fr y (by omega) (by omega)).trans (fr y hy);have hle4:=hPS.le;have k1:=(h4 1 (by omega)).trans g1;have k2:=(h4 2 (by omega)).trans g2;have kB:=hPS.at_;have hrow4:Row H4 1 sv (((S.take k).map (lr p)).map bD):=hrow.same λb h=>h4 b (by have:=hb b h;omega);clear fr hr1 hb1 hB hPS g1 g2 hrow;refine wnY (zI4 @PE @k2 @o1 @o2) ?_;have hrl:(((S.take k).map (lr p)).map bD).length=k:=by rw[bi,bi,iX];omega
 refine dY (k:=1) (sv:=sv) (xv:=.msl n4 1 1 0 1) (cs:=((S.take k).map (lr p)).map bD) (new:=[.msl B (l.length*8) 8 0 l.length]) rfl ev0 (hrow4.same λb h=>by have:=hb b h;simp (disch:=omega) only[ab]) ev0 (dw rfl) rfl rfl (by omega) (by omega) (by omega) ?_;rintro sv' H5 n5 r1 r2 r3 r4 r5;have nsv:∀y,y<3\/y=B->bk sv≠some y:=λy hy h=>by have:=hb y h;omega
 have v1:H5 1=some [.int .i64 0,.esl]:=by rw[r4 1 (by omega) (nsv 1 (by omega)),ab (by omega)];exact k1
 have v2:H5 2=some [.int .i64 N,sv]:=by rw[r4 2 (by omega) (nsv 2 (by omega)),ab (by omega)];exact k2
 have vB:H5 B=some (L'.c8 dB):=by rw[r4 B (by omega) (nsv B (by omega)),ab (by omega)];exact kB
 obtain⟨o5,o6⟩:=r1.one;refine wnY (zI4 @PE @v2 @o5 @o6) ?_
 have hb5:∀b,bk sv'=some b->3<=b/\b<n5/\b≠B:=λb h=>by
  rcases r5 b h with h|h
  ·have:=hb b h;omega
  ·omega
 have hc8:(L'.c8 dB).length=l.length*8:=by rw[LJ (λ_=>rfl),hperm.length_eq,bi]
 have n2:bk sv'≠some 2:=λh=>by
  rcases r5 2 h with h|h
  ·have:=hb 2 h;omega
  ·omega
 obtain⟨H6,hfz,hrow6,hoth⟩:=n8 (H:=av H5 2 (cI [AV.int IntKind.i64 N,sv] 1 [sv'])) (t:=sv') (x':=bD L') (nb:=B) (c:=L'.c8 dB) (r1.same λb h=>ab (λe=>n2 (by rw[<-e];exact h))) (by rw[ab (by omega)];exact vB) (Ii (Row.box B l.length _ ez hc8)) (λh=>(hb5 B h).2.2 rfl);rw[hLe] at hrow6;refine⟨(k+1,sv'),by dsimp only;omega,_,H6,hfz,⟨by dsimp only;omega,by omega,?_,?_,by dsimp only;rw[htk];exact hrow6,λb h=>?_⟩,eT (by simp (disch:=omega) only[agr,ZG,reduceEqDiff,↓reduceIte,SL])⟩
 ·rw[hoth 1 (by omega) (λh=>by have:=hb5 1 h;omega),ab (by omega)];exact v1
 ·rw[hoth 2 (by omega) n2,ae];rfl
 ·have:=hb5 b h;omega
theorem KH(x y:List MvV)(H:Hp)(nx:Nat):Abs.Fn Tryz.prog 147 [bD x,bD y] H nx λr H' nx'=>r=.func 183 [.ptr nx 1 0,.ptr (nx+1) 1 0]/\H'=av (av H nx [bD x]) (nx+1) [bD y]/\nx'=nx+1+1:=by
 refine fO NJ ?_;simp only[OX,aw];refine wnY @PE ?_;exact⟨rfl,rfl,rfl⟩
theorem HB(x0 y0:List MvV)(hx0:x0.length<=1000000)(hy0:y0.length<=1000000)(bx bY:Nat){y:Nat}{H:Hp}{nx:Nat}(hbx:bx<bY)(hby:bY<nx)(gx:H bx=some [bD x0])(gy:H bY=some [bD y0])(I:List StpV->Hp->Nat->Prop)(Q:Hp->Nat->Prop)
    (stab:∀D H n H' n',I D H n->n<=n'->(∀z,z<n->z≠bx->z≠bY->H' z=H z)->I D H' n')
    (rnd:∀D s H n,I D H n->nx<=n->(∃R,mrg x0 y0=D++s::R)->Yl Tryz.prog y [.agg s.cs] H n λr H' n'=>(r=.bool true/\I (D++[s]) H' n'/\n<=n'/\H' bx=H bx/\H' bY=H bY)\/(r=.bool false/\Q H' n'))
    (h0:I [] H nx):
    Abs.Fn Tryz.prog 183 [.yld y,.ptr bx 1 0,.ptr bY 1 0] H nx λ_ H' nx'=>I (mrg x0 y0) H' nx'\/Q H' nx':=by
 refine fO O6 ?_;simp only[Ob,aw];refine wnY @PE ?_;refine bq (X:=List MvV×List MvV×List StpV) (λv=>[(0,.yld y),(1,.ptr bx 1 0),(2,.ptr bY 1 0)]) (λv H n=>nx<=n/\v.1.length<=1000000/\v.2.1.length<=1000000/\H bx=some [bD v.1]/\H bY=some [bD v.2.1]/\mrg x0 y0=v.2.2++mrg v.1 v.2.1/\I v.2.2 H n) (λv=>v.1.length+v.2.1.length) (x0,y0,[]) ⟨bc _,hx0,hy0,gx,gy,rfl,h0⟩ ag0 ?_;clear gx gy h0 hx0 hy0;rintro⟨x,z,D⟩ H1 n1 ⟨i1,hx,hz,gx,gz,hm,hI⟩;dsimp only at hx hz gx gz hm hI |-;by_cases e:x=[]/\z=[]
 ·obtain⟨rfl,rfl⟩:=e;rw[show mrg [] []=[] from rfl,jd] at hm;rw[<-hm] at hI;have z0:decide ((([]:List MvV).length:Int)>0)=false:=rfl;refine wnY (zI4 @PE @gx @gz @z0) ?_;exact .inl hI
 rw[nZ e] at hm
 have hlt:=vb x z (by
  by_cases hx:x=[]
  ·exact .inr λhy=>e ⟨hx,hy⟩
  ·exact .inl hx)
 refine eN (λT H n=>T 0=.yld y/\T 1=.ptr bx 1 0/\T 2=.ptr bY 1 0/\H1=H/\n1=n) ?_ ?_
 ·have hc:decide ((x.length:Int)>0)=true\/(decide ((x.length:Int)>0)=false/\decide ((z.length:Int)>0)=true):=by
    cases x with
    |nil=>
     cases z with
     |nil=>exact absurd ⟨rfl,rfl⟩ e
     |cons k z=>exact .inr ⟨rfl,bR (by rw[ig];omega)⟩
    |cons m x=>exact .inl (bR (by rw[ig];omega))
  rcases hc with z1|⟨z1,z2⟩
  ·refine wnY (zI4 @PE @gx @gz @z1) ?_;exact⟨rfl,rfl,rfl,rfl,rfl⟩
  ·refine wnY (zI5 @PE @gx @gz @z1 @z2) ?_;exact⟨rfl,rfl,rfl,rfl,rfl⟩
 rintro T _ _ ⟨t0,t1,t2,rfl,rfl⟩;refine DI ?_;refine nM ?_;have zz:=aI @t0 (aI @t1 @t2);repeat' (first|apply a_n|refine zO ?_|refine vY ?_|fail)
 refine eN (λT' H n=>T' 0=.yld y/\T' 1=.ptr bx 1 0/\T' 2=.ptr bY 1 0/\T' 4=.int .i64 (oXY x z)/\H1=H/\n1=n) ?_ ?_
 ·cases x with
  |nil=>
   cases z with
   |nil=>exact absurd ⟨rfl,rfl⟩ e
   |cons k z=>
    have z1:decide (((k::z).length:Int)=0)=false:=bJ (by rw[ig];omega);have z2:decide ((([]:List MvV).length:Int)=0)=true:=rfl;refine wnY (zI8 @PE @gx @gz @t0 @t1 @t2 @z1 @z2) ?_;exact⟨(have zz:=@t0;evZ),(have zz:=@t1;evZ),(have zz:=@t2;evZ),rfl,rfl,rfl⟩
  |cons m x=>
   cases z with
   |nil=>
    have z2:decide ((([]:List MvV).length:Int)=0)=true:=rfl;refine wnY (zI7 @PE @gx @gz @t0 @t1 @t2 @z2) ?_;exact⟨(have zz:=@t0;evZ),(have zz:=@t1;evZ),(have zz:=@t2;evZ),rfl,rfl,rfl⟩
   |cons k z=>
    have z1:decide (((k::z).length:Int)=0)=false:=bJ (by rw[ig];omega);have z2:decide (((m::x).length:Int)=0)=false:=bJ (by rw[ig];omega);have hc:=rQ m.r k.r;have d1:=fY m.r;have d2:=fY k.r;unfold cK at hc d1 d2;rw[PC.1,PC.1] at hc;rw[PC.1] at d1 d2;refine wkY (zI9 @PE @gx @gz @t0 @t1 @t2 @z1 @z2 @MI) ?_;exact⟨(have zz:=@t0;evZ),(have zz:=@t1;evZ),(have zz:=@t2;evZ),rfl,rfl,rfl⟩
 clear zz;clear t0 t1 t2;rintro T _ _ ⟨t0,t1,t2,t4,rfl,rfl⟩;refine nM ?_;have zz:=aI @t0 (aI @t1 (aI @t2 @t4));repeat' (first|apply a_n|refine zO ?_|refine vY ?_|refine alY ?_|refine stY ?_|fail)
 refine eN (λT' H n=>T' 0=.yld y/\T' 1=.ptr bx 1 0/\T' 2=.ptr bY 1 0/\T' 4=.int .i64 (oXY x z)/\T' 5=.ptr n1 9 0/\H n1=some (cA x z)/\H bx=some [bD (if oXY x z<=0 then x.tail else x)]/\H bY=some [bD z]/\(∀w,w<n1->w≠bx->w≠bY->H w=H1 w)/\n=n1+1) ?_ ?_
 ·by_cases ho:oXY x z<=0
  ·obtain⟨m,x',rfl⟩:=CV e ho;have z1:decide (oXY (m::x') z<=0)=true:=bR ho;have hcA:cA (m::x') z=[.int .i64 m.r.n,.int .i64 m.r.h0,.int .i64 m.r.h1,.int .i64 m.r.h2,.int .i64 m.r.h3,.int .i64 m.r.h4,.int .i64 m.r.f,.int .i64 m.to,.int .i64 (-1)]:=if_pos ho;rw[hcA,if_pos ho];generalize oXY (m::x') z=o at *;refine wnY (zI6 @PE @t0 @t1 @t2 @t4 @z1) ?_;refine fg (only bx [bD (m::x')]) rfl (fk (by simp (disch:=omega) only[ab];exact gx)) ?_;have z0:∀c,only bx c bx=some c:=λc=>ez;refine wnY (zI8 @PE @t0 @t1 @t2 @t4 @z0 @MI @DE) ?_;refine dz ?_;refine wnY (zI5 @PE @t0 @t1 @t2 @t4) ?_;refine⟨fk (by simp (disch:=omega) only[ab];exact gx),?_⟩;refine wnY (zI6 @PE @Et @t0 @t1 @t2 @t4) ?_;refine dz ?_;refine wnY (zI5 @PE @t0 @t1 @t2 @t4) ?_;refine⟨fk (by simp (disch:=omega) only[ab];exact gx),?_⟩;clear zz;have zz:=aI @PE (aI @t0 (aI @t1 (aI @t2 (aI @t4 @gx))));repeat' (first|apply a_n|refine zO ?_|apply fm|refine stY ?_|fail)
   exact⟨(have zz:=@t0;evZ),(have zz:=@t1;evZ),(have zz:=@t2;evZ),(have zz:=@t4;evZ),ev0,by simp (disch:=omega) only[ab,ae];rfl,by simp (disch:=omega) only[ae];rfl,by simp (disch:=omega) only[ab];exact gz,λw h1 h2 h3=>by simp (disch:=omega) only[ab],rfl⟩
  ·have z1:decide (oXY x z<=0)=false:=bJ ho;rw[KV ho,if_neg ho];generalize oXY x z=o at *;refine wnY (zI6 @PE @t0 @t1 @t2 @t4 @z1) ?_;exact⟨(have zz:=@t0;evZ),(have zz:=@t1;evZ),(have zz:=@t2;evZ),(have zz:=@t4;evZ),ev0,by simp (disch:=omega) only[ae];rfl,by simp (disch:=omega) only[ab];exact gx,by simp (disch:=omega) only[ab];exact gz,λw h1 h2 h3=>by simp (disch:=omega) only[ab],rfl⟩
 clear zz;clear t0 t1 t2 t4;rintro T H2 n2 ⟨t0,t1,t2,t4,t5,k5,kx,kz,fr,rfl⟩;refine eN (λT' H n=>T' 0=.yld y/\T' 1=.ptr bx 1 0/\T' 2=.ptr bY 1 0/\T' 5=.ptr n1 9 0/\H n1=some (hdM x z).cs/\H bx=some [bD (tlX x z)]/\H bY=some [bD (tlY x z)]/\(∀w,w<n1->w≠bx->w≠bY->H w=H1 w)/\n=n1+1) ?_ ?_
 ·rw[pS,qg];by_cases ho:0<=oXY x z
  ·obtain⟨k,z',rfl⟩:=G5 ho;have z1:decide (oXY x (k::z')≥0)=true:=bR ho;rw[if_pos ho]
   obtain⟨c0,c1,c2,c3,c4,c5,c6,c7,c8,hcA,hfin⟩:∃c0 c1 c2 c3 c4 c5 c6 c7 c8,cA x (k::z')=[c0,c1,c2,c3,c4,c5,c6,c7,c8]/\(hdM x (k::z')).cs=[.int .i64 k.r.n,.int .i64 k.r.h0,.int .i64 k.r.h1,.int .i64 k.r.h2,.int .i64 k.r.h3,.int .i64 k.r.h4,.int .i64 k.r.f,c7,.int .i64 k.to]:=by
    by_cases h0:oXY x (k::z')=0
    ·obtain⟨m,x',rfl⟩:=CV e (by omega);refine⟨_,_,_,_,_,_,_,_,_,if_pos (by omega),?_⟩;rw[Po h0];rfl
    ·refine⟨_,_,_,_,_,_,_,_,_,KV (by omega),?_⟩;rw[N2 (by omega)];rfl
   rw[hcA] at k5;rw[hfin];generalize oXY x (k::z')=o at *;refine wnY (zI7 @PE @t0 @t1 @t2 @t4 @t5 @z1) ?_;refine fg (only bY [bD (k::z')]) rfl (fk kz) ?_;have z0:∀c,only bY c bY=some c:=λc=>ez;refine wnY (zI9 @PE @t0 @t1 @t2 @t4 @t5 @z0 @MI @DE) ?_;refine dz ?_;refine wnY (zI7 @PE @t0 @t1 @t2 @t4 @t5 @k5) ?_;refine⟨fk (by simp (disch:=omega) only[ab];exact kz),?_⟩;refine wnY (zI7 @PE @Et @t0 @t1 @t2 @t4 @t5) ?_;refine dz ?_;refine wnY (zI6 @PE @t0 @t1 @t2 @t4 @t5) ?_;refine⟨fk (by simp (disch:=omega) only[ab];exact kz),?_⟩;have zz:=aI @PE (aI @t0 (aI @t1 (aI @t2 (aI @t4 (aI @t5 @kz)))));repeat' (first|apply a_n|refine zO ?_|apply fm|refine stY ?_|fail)
   exact⟨(have zz:=@t0;evZ),(have zz:=@t1;evZ),(have zz:=@t2;evZ),(by((try simp only[bg,ZA,reduceEqDiff,↓reduceIte,reduceAdd,reduceLeDiff,t5]);(try with_reducible rfl))),by simp (disch:=omega) only[ab,ae];rfl,by simp (disch:=omega) only[ab];exact kx,by simp (disch:=omega) only[ae];rfl,λw h1 h2 h3=>by simp (disch:=omega) only[ab];exact fr w h1 h2 h3,rfl⟩
  ·have z1:decide (oXY x z≥0)=false:=bJ (by omega);rw[if_neg ho,N9 e (by omega)];generalize oXY x z=o at *;refine wnY (zI7 @PE @t0 @t1 @t2 @t4 @t5 @z1) ?_;exact⟨(have zz:=@t0;evZ),(have zz:=@t1;evZ),(have zz:=@t2;evZ),(by((try simp only[bg,ZA,reduceEqDiff,↓reduceIte,reduceAdd,reduceLeDiff,t5]);(try with_reducible rfl))),k5,kx,kz,fr,rfl⟩
 clear t0 t1 t2 t4 t5 k5 kx kz fr;rintro T H3 n3 ⟨t0,t1,t2,t5,k5,kx,kz,fr,rfl⟩;have hr:=rnd D (hdM x z) H3 (n1+1) (stab _ _ _ _ _ hI (by omega) fr) (by omega) ⟨_,hm⟩;have hsc:(hdM x z).cs=[.int .i64 (hdM x z).r.n,.int .i64 (hdM x z).r.h0,.int .i64 (hdM x z).r.h1,.int .i64 (hdM x z).r.h2,.int .i64 (hdM x z).r.h3,.int .i64 (hdM x z).r.h4,.int .i64 (hdM x z).r.f,.int .i64 (hdM x z).t0,.int .i64 (hdM x z).t1]:=rfl
 have hxl:(tlX x z).length<=1000000:=by
  rw[pS];split
  ·rw[List.length_tail];omega
  ·omega
 have hyl:(tlY x z).length<=1000000:=by
  rw[qg];split
  ·rw[List.length_tail];omega
  ·omega
 rw[hsc] at hr k5;generalize hdM x z=s at *;generalize tlX x z=x2 at *;generalize tlY x z=z2 at *;refine wnY (zI6 @PE @t0 @t1 @t2 @t5 @k5) ?_;refine tT (have zz:=@t0;evZ) ev0 (Yl.mono hr ?_);rintro r H4 n4 (⟨rfl,q1,q2,q3,q4⟩|⟨rfl,q1⟩)
 ·refine wnY @PE ?_;exact⟨(x2,z2,D++[s]),hlt,⟨by omega,hxl,hyl,by rw[q3];exact kx,by rw[q4];exact kz,by dsimp only;rw[io];exact hm,q1⟩,(have zz:=aI @t0 (aI @t1 @t2);agZ)⟩
 ·refine wnY @PE ?_;exact .inr q1
theorem EY(M:List RndV)(b n:Nat)(H0:Hp)(nx:Nat)(hb:H0 b=some (cL cK M))(hn:M.length=n)(h0:0<n)(h1:n<=1000):
    Abs.Fn Tryz.prog 184 [.msl b (n*7) 7 0 n] H0 nx λ_ H' nx'=>nx'=nx/\(∃M':List RndV,M'.length=n/\H' b=some (cL cK M'))/\∀y,y≠b->H' y=H0 y:=by
 refine fO Qj ?_;simp only[Ph,aw];refine wnY and_self ?_;refine bq (X:=Nat×List RndV) (λx=>[(0,.msl b (n*7) 7 0 n),(2,.int .i64 x.1),(3,.int .i64 ((n:Int)-1-x.1))]) (λx H nx'=>x.1<=n/\x.2.length=n/\nx'=nx/\H b=some (cL cK x.2)/\∀y,y≠b->H y=H0 y) (λx=>n-x.1) (0,M) ⟨bo _,hn,rfl,hb,λ_ _=>rfl⟩ (by simp (disch:=omega) only[agr,ZG,reduceEqDiff,↓reduceIte,SL,Int.sub_zero]) ?_;rintro⟨i,M1⟩ H1 n1 ⟨hi,hl,rfl,g,fr⟩;dsimp only at hi hl g |-;by_cases hij:(i:Int)<(n:Int)-1-i
 rotate_left
 ·have z:decide ((i:Int)<(n:Int)-1-i)=false:=bJ hij;refine wnY @z ?_;exact⟨rfl,⟨M1,hl,g⟩,fr⟩
 have z:decide ((i:Int)<(n:Int)-1-i)=true:=bR hij;obtain⟨j,hj⟩:∃j:Nat,(n:Int)-1-i=j:=⟨n-1-i,by omega⟩
 rw[hj] at z |-;have e1:=ixN (b:=b) (n:=n*7) (sz:=7) (k:=i) (len:=n) (by omega);have e2:=ixN (b:=b) (n:=n*7) (sz:=7) (k:=j) (len:=n) (by omega);have hC:=eu (f:=cK) (sz:=7) (λ_=>rfl) M1;rw[hl] at hC;have r1:=rdN (f:=cK) (sz:=7) (λ_=>rfl) g hl (k:=i) (by omega);have r2:=rdN (f:=cK) (sz:=7) (λ_=>rfl) g hl (k:=j) (by omega);have p1:=K9 (f:=cK) (sz:=7) (λ_=>rfl) (l:=M1) (k:=i) (x:=M1.getD j default) (by omega);have p2:=K9 (f:=cK) (sz:=7) (λ_=>rfl) (l:=M1.set i (M1.getD j default)) (k:=j) (x:=M1.getD i default) (by rw[List.length_set];omega);have hC2:=eu (f:=cK) (sz:=7) (λ_=>rfl) (M1.set i (M1.getD j default));rw[List.length_set,hl] at hC2;have q1:(cK (M1.getD i default)).cells=[.int .i64 (M1.getD i default).n,.int .i64 (M1.getD i default).h0,.int .i64 (M1.getD i default).h1,.int .i64 (M1.getD i default).h2,.int .i64 (M1.getD i default).h3,.int .i64 (M1.getD i default).h4,.int .i64 (M1.getD i default).f]:=rfl;have q2:(cK (M1.getD j default)).cells=[.int .i64 (M1.getD j default).n,.int .i64 (M1.getD j default).h0,.int .i64 (M1.getD j default).h1,.int .i64 (M1.getD j default).h2,.int .i64 (M1.getD j default).h3,.int .i64 (M1.getD j default).h4,.int .i64 (M1.getD j default).f]:=rfl;rw[q1] at r1 p2;rw[q2] at r2 p1;have hw:IntKind.wrap .i64 ((j:Int)-1)=(j:Int)-1:=jy (by omega) (by omega);have hfl:((M1.set i (M1.getD j default)).set j (M1.getD i default)).length=n:=by rw[List.length_set,List.length_set];exact hl
 generalize M1.getD i default=x at *;generalize M1.getD j default=w at *;generalize (M1.set i w).set j x=M3 at *;generalize M1.set i w=M2 at *;refine wnY (zI5 @z @e1 @e2 @r1 @r2) ?_;refine vD (b:=b) (n:=n*7) (off:=i*7) (cs:=cL cK M1) (vs:=[.int .i64 w.n,.int .i64 w.h0,.int .i64 w.h1,.int .i64 w.h2,.int .i64 w.h3,.int .i64 w.h4,.int .i64 w.f]) rfl ev0 ev0 g rfl rfl hC rfl (by omega) ?_;rw[p1];refine wnY (aI @e2 @hw) ?_;rw[p2];refine⟨(i+1,M3),by dsimp only;omega,⟨by dsimp only;omega,hfl,rfl,ae,λy hy=>by rw[ab hy,ab hy];exact fr y hy⟩,?_⟩;have e:(j:Int)-1=(n:Int)-1-((i+1:Nat):Int):=by omega
 dsimp only;rw[<-e];simp (disch:=omega) only[agr,ZG,reduceEqDiff,↓reduceIte,hw]
theorem MY(V:List VisV)(i b:Nat)(r:RndV)(H0:Hp)(nx:Nat)(hb:H0 b=some (cL iu V))(hbn:b<nx)(hV:V.length<=100)(hi:i<V.length)(hf:∀j,0<j->j<V.length->(V.getD j default).fr<j):
    Abs.Fn Tryz.prog 148 [.msl b (V.length*10) 10 0 V.length,.int .i64 i,.agg r.cs] H0 nx λrr H' nx'=>(∃b' k,0<k/\rr=.msl b' (k*7) 7 0 k)/\nx<=nx'/\∀y,y<nx->H' y=H0 y:=by
 refine fO Oz ?_;simp only[Pf,aw];rw[PC.1];refine wnY @PE ?_;refine bq (X:=Nat×List RndV×AV) (λx=>[(0,.msl b (V.length*10) 10 0 V.length),(1,.int .i64 x.1),(7,x.2.2)]) (λx H n'=>x.1<V.length/\x.1+x.2.1.length<=V.length+1/\0<x.2.1.length/\nx<=n'/\Row H 7 x.2.2 (cL cK x.2.1)/\(∀c,bk x.2.2=some c->nx<=c/\c<n')/\∀y,y<nx->H y=H0 y) (λx=>x.1) (i,[r],.msl (nx+1) 7 7 0 1) ⟨hi,by simp;omega,Nat.zero_lt_one,by omega,Row.box (sz:=7) (nx+1) 1 _ (by simp (disch:=omega) only[ae];rfl) rfl,λc h=>by cases h;omega,λy hy=>by simp (disch:=omega) only[ab]⟩ (by simp (disch:=omega) only[agr,ZG,reduceEqDiff,↓reduceIte,SL]) ?_;rintro⟨k,M,sv⟩ H1 n1 ⟨k1,k2,k3,k4,hrow,hc,fr⟩;dsimp only at k1 k2 k3 hrow hc |-;obtain⟨o1,o2⟩:=hrow.one;by_cases hk:0<k
 ·have z:decide ((k:Int)>0)=true:=bR (by omega);have e1:=ixN (b:=b) (n:=V.length*10) (sz:=10) (k:=k) (len:=V.length) k1;have gb:=(fr b hbn).trans hb;have hC:=eu (f:=iu) (sz:=10) (λ_=>rfl) V;have hlt:=hf k hk k1;have hr:=rdP (f:=iu) (sz:=10) (λ_=>rfl) gb rfl (k:=k) (o:=3) (q:=7) k1 (by omega);have hr2:∀H:Hp,H b=some (cL iu V)->rd1 H (.ptr b (V.length*10) (k*10+2))=some (.int .i64 (V.getD k default).fr):=λH h=>Sx (f:=iu) (sz:=10) (λ_=>rfl) h rfl (k:=k) (o:=2) k1 (by omega);have e3:(((iu (V.getD k default)).cells.drop 3).take 7)=[.int .i64 (V.getD k default).rd.n,.int .i64 (V.getD k default).rd.h0,.int .i64 (V.getD k default).rd.h1,.int .i64 (V.getD k default).rd.h2,.int .i64 (V.getD k default).rd.h3,.int .i64 (V.getD k default).rd.h4,.int .i64 (V.getD k default).rd.f]:=rfl;rw[e3] at hr;have hcl:=eu (f:=cK) (sz:=7) (λ_=>rfl) M;generalize (V.getD k default).fr=fr0 at *;have hcx:∀x:RndV,cL cK (M++[x])=cL cK M++x.cs:=λx=>by rw[eR,mH];rfl
  have hcr:=hcx (V.getD k default).rd;rw[PC.1] at hcr;generalize (V.getD k default).rd=x at *;refine wnY (zI6 @PE @z @e1 @hr @o1 @o2) ?_;refine dY (k:=1) (sv:=sv) (xv:=.msl n1 7 7 0 1) (cs:=cL cK M) (new:=[.int .i64 x.n,.int .i64 x.h0,.int .i64 x.h1,.int .i64 x.h2,.int .i64 x.h3,.int .i64 x.h4,.int .i64 x.f]) rfl ev0 (hrow.same λc h=>ab (by have:=hc c h;omega)) ev0 (dw rfl) rfl rfl (by omega) (by omega) (by omega) ?_;rintro sv' H3 n3 r1 r2 r3 r4 r5;have nb:bk sv≠some b:=λh=>by have:=hc b h;omega
  have gb3:H3 b=some (cL iu V):=by rw[r4 b (by omega) nb,ab (by omega)];exact gb
  have hr3:=hr2 H3 gb3;refine wnY (zI3 @PE @e1 @hr3) ?_;refine⟨(fr0,M++[x],sv'),hlt,⟨by dsimp only;omega,by dsimp only;rw[cP,List.length_singleton];omega,by dsimp only;rw[cP,List.length_singleton];omega,by omega,by dsimp only;rw[hcr];exact r1,λc h=>?_,λy hy=>?_⟩,by simp (disch:=omega) only[agr,ZG,reduceEqDiff,↓reduceIte,SL]⟩
  ·rcases r5 c h with h|h
   ·have:=hc c h;omega
   ·omega
  ·rw[r4 y (by omega) (λh=>by have:=hc y h;omega),ab (by omega)];exact fr y hy
 ·obtain rfl:k=0:=by omega
  have z:decide (((0:Nat):Int)>0)=false:=rfl
  obtain ⟨c,len,rfl,hB,hlen⟩:=jR hrow (fun e=>by
   have:=eu (f:=cK) (sz:=7) (λ_=>rfl) M;rw[e] at this;simp at this;omega)
  rw[eu (f:=cK) (sz:=7) (λ_=>rfl)] at hlen;obtain rfl:len=M.length:=by omega
  have hc1:=hc c rfl;refine wnY (aI @PE @z) ?_;refine ce ev0 ev0 (EY M c M.length H1 n1 hB rfl k3 (by omega)) ?_;rintro _ H3 n3 ⟨rfl,_,fr3⟩;refine wnY @PE ?_;exact⟨⟨c,M.length,k3,rfl⟩,k4,λy hy=>(fr3 y (by omega)).trans (fr y hy)⟩
theorem MD(s:StpV):pU 101 [.agg s.cs] (.bool (decide (s.t0<0) || decide (s.t1<0))):=by
 refine pO OW ?_;simp only[Pg,aw];have hsc:s.cs=[.int .i64 s.r.n,.int .i64 s.r.h0,.int .i64 s.r.h1,.int .i64 s.r.h2,.int .i64 s.r.h3,.int .i64 s.r.h4,.int .i64 s.r.f,.int .i64 s.t0,.int .i64 s.t1]:=rfl;rw[hsc];by_cases h:s.t0<0
 ·have z:decide (s.t0<0)=true:=bR h;rw[z];refine wnY (aI @Et @z) ?_;exact .bool _
 ·have z:decide (s.t0<0)=false:=bJ h;rw[z];refine wnY (aI @Et @z) ?_;exact .bool _
theorem xp(a b:AdvV)(ha:ShA a)(hb:ShA b)(oa:AdvOk a)(ob:AdvOk b)(hn:a.n=b.n):pU 99 [ca a,ca b] (.int .i64 0):=by
 refine pO Rh ?_;simp only[b99,aw];have h1:=oX a ha oa;have h2:=oX b hb ob;have d1:=bI a;have d2:=bI b;have z:decide (a.n≠b.n)=false:=bJ (λh=>h hn);unfold ca at *;rw[PC.2.2.2.1] at h1 d1;rw[PC.2.2.2.1] at h2 d2;rw[PC.2.2.2.1,PC.2.2.2.1];refine wnY (aI @PE @z) ?_;exact .int _ _
end
end Go.Proofs.YtbmjaojeplmhnaaGreat
