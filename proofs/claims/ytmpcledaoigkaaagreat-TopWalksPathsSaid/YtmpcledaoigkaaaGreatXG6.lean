/- Contracts of functions and plain laws, for all inputs that the theorems name. -/
import Derived.Test.YtmpcledaoigkaaaGreatXG5
import Derived.Test.YtmpcledaoigkaaaGreatXG4
import Derived.Test.YtmpcledaoigkaaaGreatXG3
import Derived.Test.YtmpcledaoigkaaaGreatRows
import Derived.WalkKit
import Derived.ProofKit
import Derived.OpenShut

set_option linter.unusedSimpArgs false
set_option linter.unusedVariables false
set_option maxHeartbeats 4000000
namespace Go.Proofs.YtmpcledaoigkaaaGreat
open Go Go.Abs Tk
open Nat (reduceEqDiff reduceAdd reduceLeDiff)
def ik(L:List (List Int))(e f p:Nat):Bool:=decide (0<=(L.getD e []).getD p 0/\(L.getD e []).getD p 0=(L.getD f []).getD p 0)
def l5(g:Nat->Bool):Nat->Nat
 |0=>0
 |p+1=>l5 g p+if g p=true then 2^p else 0
theorem qe(g:Nat->Bool):∀p,l5 g p<2^p
 |0=>Nat.zero_lt_one
 |p+1=>by
  have:=qe g p;rw[l5,Nat.pow_succ];split<;>omega
theorem Ar(g:Nat->Bool):∀n p,l5 g n/2^p%2=if p<n/\g p=true then 1 else 0
 |0,p=>by simp[l5]
 |n+1,p=>by
  have h0:=qe g n;have ih:=Ar g n p;rw[l5];by_cases hp:p<n
  ·have e:(2:Nat)^n=2^p*(2*2^(n-p-1)):=by rw[<-Nat.mul_assoc,<-Nat.pow_succ,<-Nat.pow_add];congr 1;omega
   have:(l5 g n+if g n=true then 2^n else 0)/2^p%2=l5 g n/2^p%2:=by
    split
    ·rw[e,Nat.add_mul_div_left _ _ (Nat.pos_of_ne_zero (by simp))];omega
    ·rfl
   rw[this,ih];have q:(p<n+1/\g p=true)↔(p<n/\g p=true):=⟨λh=>⟨hp,h.2⟩,λh=>⟨by omega,h.2⟩⟩
   simp only[q]
  ·by_cases e:p=n
   ·subst e;by_cases hg:g p=true
    ·rw[if_pos hg,if_pos ⟨by omega,hg⟩,Nat.add_div_right _ (Nat.pos_of_ne_zero (by simp)),Nat.div_eq_of_lt h0]
    ·rw[if_neg hg,if_neg (λh=>hg h.2),sj,Nat.div_eq_of_lt h0]
   ·rw[if_neg (λh:p<n+1/\_=>by omega)];have h1:=qe g (n+1);rw[l5] at h1;have h2:2^(n+1)<=2^p:=Nat.pow_le_pow_right (by omega) (by omega);rw[Nat.div_eq_of_lt (zF h1 h2)]
theorem t6{g:Nat->Bool}:∀{n},l5 g n=0↔ ∀p,p<n->g p=false
 |0=>⟨λ_ p h=>absurd h (Nat.not_lt_zero _),λ_=>rfl⟩
 |n+1=>by
  have ih:=t6 (g:=g) (n:=n);have h2:0<2^n:=Nat.pos_of_ne_zero (by simp);rw[l5];constructor
  ·intro h p hp;by_cases e:p=n
   ·subst e;cases hg:g p with
    |false=>rfl
    |true=>rw[hg,if_pos rfl] at h;omega
   ·exact ih.1 (by omega) p (by omega)
  ·intro h;rw[ih.2 λp hp=>h p (by omega),h n (by omega),if_neg (by decide)]
def HK(g:Nat->Bool)(n:Nat):Nat:=((List.range n).find? g).getD 0
theorem H9{g:Nat->Bool}{n p:Nat}(hp:p<n)(hg:g p=true)(hz:∀i,i<p->g i=false):HK g n=p:=by
 unfold HK
 have:(List.range n).find? g=some p:=by
  rw[List.find?_range_eq_some];exact⟨hg,gG.2 hp,λi hi=>by rw[hz i hi];rfl⟩
 rw[this];rfl
theorem Pe{p:Nat}(hp:p<=20)(tb tf:Bool):bm .shl tb tf (.int .i64 1) (.int .i64 (p:Int))=some (.int .i64 ((2^p:Nat):Int)):=by
 rw[EI,Nat.min_eq_left (by omega),Int.one_mul];have h:(2:Nat)^p<=2^20:=Nat.pow_le_pow_right (by omega) hp
 have:IntKind.wrap .i64 ((2:Int)^p)=((2^p:Nat):Int):=by
  have e:((2:Int)^p)=((2^p:Nat):Int):=by simp
  rw[e];generalize (2^p:Nat)=m at *;exact iU (by omega) (by omega)
 rw[this]
theorem orB{g:Nat->Bool}{p:Nat}(hp:p<=20)(tb tf:Bool):bm .or tb tf (.int .i64 (l5 g p:Nat)) (.int .i64 ((2^p:Nat):Int))=some (.int .i64 ((l5 g p+2^p:Nat):Int)):=by
 have h:(2:Nat)^p<=2^20:=Nat.pow_le_pow_right (by omega) hp;have h0:=qe g p;rw[Kl (by simp only[IntKind.bits];omega) (by simp only[IntKind.bits];omega)];have:=Nat.two_pow_add_eq_or_of_lt h0 1;rw[Nat.mul_one] at this;rw[Nat.or_comm,<-this,Nat.add_comm]
def ua(n:Nat)(L:List (List Int))(e f:Nat):Nat:=l5 (ik L e f) n
theorem Eo{L:List (List Int)}{e:Nat}(h:e<L.length):cA 1 (bi L) (.int .i64 (e:Int))=some (.iptr [aH (L.getD e [])] 0):=by
 rw[pd,if_pos ⟨by omega,by omega⟩,bQ];rfl
theorem NKI:∀(c:List AV)(o:Nat),Jm (.iptr c o)=some (.iptr c o):=λ_ _=>rfl
def col(L:List (List Int))(p:Nat):List Int:=L.map λl=>l.getD p 0
theorem Kg(a b:Int):nf (.one .int) (.int .i64 a) (.int .i64 b)=some (decide (a=b)):=by
 show some (a==b)=_;rfl
theorem yq(v:Int)(ks:List Int):eF (.one .int) (.int .i64 v) (ks.map (AV.int .i64))=some (if v∈ks then some (ks.idxOf v) else none):=k9 _ _ Kg v ks
theorem nH{l:List Int}{i:Nat}(h:i<l.length):(l.map (AV.int .i64)).getD i .undef=.int .i64 (l.getD i 0):=by simp[List.getD,h]
theorem yl(o:List Int)(m:Nat)(h:o.length<m)(x:Int):bE ((o++List.replicate (m-o.length) (0:Int)).map (AV.int .i64)) o.length [.int .i64 x]=((o++[x])++List.replicate (m-(o++[x]).length) (0:Int)).map (AV.int .i64):=by
 rw[fK (by rw[bD,cq,List.length_replicate];omega),ja,List.set_append_right _ _ (aZ _),Nat.sub_self,show m-o.length=(m-(o++[x]).length)+1 by rw[cq,List.length_singleton];omega,List.replicate_succ,gM];rfl
theorem Ia{b m k:Nat}(h:k<m):cA 1 (.msl b m 1 0 m) (.int .i64 (k:Int))=some (.ptr b m k):=by
 rw[fT,if_pos ⟨by omega,by omega⟩,bQ,cp,Nat.mul_one]
inductive Cn(R:Nat->Nat->Prop):Nat->Nat->Prop
 |refl (i:Nat):Cn R i i
 |step {i j k:Nat} (h:R i j) (t:Cn R j k):Cn R i k
theorem Cn.trans{R:Nat->Nat->Prop}{i j k:Nat}(h:Cn R i j)(t:Cn R j k):Cn R i k:=by
 induction h with
 |refl=>exact t
 |step h _ ih=>exact .step h (ih t)
theorem Cn.one{R:Nat->Nat->Prop}{i j:Nat}(h:R i j):Cn R i j:=.step h (.refl _)
theorem Cn.symm{R:Nat->Nat->Prop}(hs:∀i j,R i j->R j i){i j:Nat}(h:Cn R i j):Cn R j i:=by
 induction h with
 |refl=>exact .refl _
 |step h _ ih=>exact ih.trans (.one (hs _ _ h))
theorem Cn.mono{R S:Nat->Nat->Prop}(hs:∀i j,R i j->Cn S i j){i j:Nat}(h:Cn R i j):Cn S i j:=by
 induction h with
 |refl=>exact .refl _
 |step h _ ih=>exact(hs _ _ h).trans ih
def up(P:List Nat)(i:Nat):Nat:=P.getD i i
def rtF(P:List Nat):Nat->Nat->Nat
 |0,i=>i
 |k+1,i=>rtF P k (up P i)
def rt(P:List Nat)(i:Nat):Nat:=rtF P i i
def Fst(P:List Nat):Prop:=∀i,up P i<=i
theorem sO{P:List Nat}{i:Nat}(h:up P i=i):∀k,rtF P k i=i
 |0=>rfl
 |k+1=>by rw[rtF,h];exact sO h k
theorem tg{P:List Nat}(hP:Fst P):∀(k i:Nat),i<=k->rtF P k i=rtF P i i
 |0,0,_=>rfl
 |0,i+1,h=>absurd h (by omega)
 |k+1,i,h=>by
  by_cases e:up P i=i
  ·rw[sO e,sO e]
  ·have:=hP i;cases i with
   |zero=>omega
   |succ i=>
    rw[rtF,rtF];rw[tg hP k _ (by omega),tg hP i _ (by omega)]
theorem rJ{P:List Nat}(hP:Fst P)(i:Nat):rt P (up P i)=rt P i:=by
 unfold rt;have:=hP i;cases i with
 |zero=>rw[show up P 0=0 by omega]
 |succ i=>
  by_cases e:up P (i+1)=i+1
  ·rw[e]
  ·rw[show rtF P (i+1) (i+1)=rtF P i (up P (i+1)) from rfl,tg hP i _ (by omega)]
theorem kB{P:List Nat}{i:Nat}(h:up P i=i):rt P i=i:=sO h i
theorem rm{P:List Nat}(hP:Fst P)(i:Nat):rt P i<=i:=by
 have:∀k i,rtF P k i<=i:=λk=>by
  induction k with
  |zero=>intro i;exact aZ _
  |succ k ih=>intro i;exact gf (ih _) (hP i)
 exact this i i
theorem sX{P:List Nat}(hP:Fst P):∀i,up P (rt P i)=rt P i:=λi=>by
 induction i using Nat.strongRecOn with
 |ind i ih=>
  by_cases e:up P i=i
  ·rw[kB e];exact e
  ·have:=hP i;rw[<-rJ hP i];exact ih _ (by omega)
theorem Eu{P Q:List Nat}(hP:Fst P)(hQ:Fst Q)(f:Nat->Nat)(h1:∀i,up Q i=i->f (rt P i)=i)(h2:∀i,up Q i≠i->f (rt P (up Q i))=f (rt P i)):∀i,rt Q i=f (rt P i):=λi=>by
 induction i using Nat.strongRecOn with
 |ind i ih=>
  by_cases e:up Q i=i
  ·rw[kB e,h1 i e]
  ·have:=hQ i;rw[<-rJ hQ i,ih _ (by omega),h2 i e]
theorem oY{P:List Nat}{i x:Nat}(hi:i<P.length)(j:Nat):up (P.set i x) j=if j=i then x else up P j:=by
 unfold up;by_cases e:j=i
 ·subst e;rw[if_pos rfl];simp[List.getD,List.getElem?_set,hi]
 ·rw[if_neg e];simp only[ml];rw[List.getElem?_set_ne (Ne.symm e)]
theorem Fst.halve{P:List Nat}(hP:Fst P){i:Nat}(hi:i<P.length):Fst (P.set i (up P (up P i)))/\∀j,rt (P.set i (up P (up P i))) j=rt P j:=by
 have hQ:Fst (P.set i (up P (up P i))):=λj=>by
  rw[oY hi];split
  ·rename_i e;subst e;exact gf (hP _) (hP _)
  ·exact hP j
 refine⟨hQ,Eu hP hQ id (λj hj=>?_) (λj hj=>?_)⟩
 ·rw[oY hi] at hj;split at hj
  ·rename_i e;subst e;have h1:=hP j;have h2:=hP (up P j);exact kB (by omega)
  ·exact kB hj
 ·show rt P (up _ j)=rt P j;rw[oY hi];split
  ·rename_i e;subst e;rw[rJ hP,rJ hP]
  ·exact rJ hP j
theorem Fst.join{P:List Nat}(hP:Fst P){p q:Nat}(hp:up P p=p)(hq:up P q=q)(hm:max p q<P.length):Fst (P.set (max p q) (min p q))/\∀j,rt (P.set (max p q) (min p q)) j=if rt P j=max p q then min p q else rt P j:=by
 have hQ:Fst (P.set (max p q) (min p q)):=λj=>by
  rw[oY hm];split
  ·rename_i e;omega
  ·exact hP j
 have hmx:up P (max p q)=max p q:=by rcases Nat.le_total p q with h|h<;>simp[Nat.max_eq_right,Nat.max_eq_left,h,hp,hq]
 have hmn:up P (min p q)=min p q:=by rcases Nat.le_total p q with h|h<;>simp[Nat.min_eq_right,Nat.min_eq_left,h,hp,hq]
 refine⟨hQ,Eu hP hQ (λx=>if x=max p q then min p q else x) (λj hj=>?_) (λj hj=>?_)⟩
 ·rw[oY hm] at hj;split at hj
  ·rename_i e;show(if rt P j=max p q then min p q else rt P j)=j;rw[e,kB hmx,if_pos rfl];omega
  ·rename_i e;show(if rt P j=max p q then min p q else rt P j)=j;rw[kB hj,if_neg e]
 ·rw[oY hm] at hj |-;split
  ·rename_i e;subst e;show(if rt P (min p q)=max p q then min p q else rt P (min p q))=if rt P (max p q)=max p q then min p q else rt P (max p q)
   rw[kB hmn,kB hmx,if_pos rfl];split<;>rfl
  ·show(if rt P (up P j)=max p q then min p q else rt P (up P j))=if rt P j=max p q then min p q else rt P j
   rw[rJ hP]
def Snd(m:Nat)(R:Nat->Nat->Prop)(P:List Nat):Prop:=∀i j,i<m->j<m->rt P i=rt P j->Cn R i j
theorem Snd.join{m:Nat}{R:Nat->Nat->Prop}(hs:∀i j,R i j->R j i){P:List Nat}(hP:Fst P)(h:Snd m R P)(hl:P.length=m){i k:Nat}(hi:i<m)(hk:k<m)(hR:Cn R i k):Snd m R (P.set (max (rt P i) (rt P k)) (min (rt P i) (rt P k))):=λx y hx hy e=>by
 have l1:=rm hP i;have l2:=rm hP k;have e':=(hP.join (sX hP i) (sX hP k) (by omega)).2;rw[e',e'] at e
 have hrt:∀z,z<m->rt P z=max (rt P i) (rt P k)\/rt P z=min (rt P i) (rt P k)->Cn R z i:=λz hz h'=>by
  have:rt P z=rt P i\/rt P z=rt P k:=by omega
  rcases this with h1|h1
  ·exact h z i hz hi h1
  ·exact(h z k hz hk h1).trans (hR.symm hs)
 by_cases ex:rt P x=max (rt P i) (rt P k)
 ·by_cases ey:rt P y=max (rt P i) (rt P k)
  ·exact h x y hx hy (by rw[ex,ey])
  ·rw[if_pos ex,if_neg ey] at e;exact(hrt x hx (.inl ex)).trans ((hrt y hy (.inr e.symm)).symm hs)
 ·by_cases ey:rt P y=max (rt P i) (rt P k)
  ·rw[if_neg ex,if_pos ey] at e;exact(hrt x hx (.inr e)).trans ((hrt y hy (.inl ey)).symm hs)
  ·rw[if_neg ex,if_neg ey] at e;exact h x y hx hy e
inductive Qu(H:Hp):AV->List Int->Prop
 |nil:Qu H (.sl 1 []) []
 |mk (b off len:Nat) (cs:List AV) (q:List Int) (hb:H b=some cs) (hl:cs.length=off+len) (h0:0<off+len) (hd:cs.drop off=q.map (AV.int .i64)):Qu H (.msl b (off+len) 1 off len) q
theorem Qu.same{H H':Hp}{v:AV}{q:List Int}(h:Qu H v q)(hs:∀b,bd v=some b->H' b=H b):Qu H' v q:=by
 cases h with
 |nil=>exact .nil
 |mk b off len cs q hb hl h0 hd=>exact .mk b off len cs q ((hs b rfl).trans hb) hl h0 hd
theorem Qu.len{H:Hp}{v:AV}{q:List Int}(h:Qu H v q):dl v=some (.int .i64 q.length):=by
 cases h with
 |nil=>rfl
 |mk b off len cs q hb hl h0 hd=>
  have:=congrArg List.length hd;rw[sH,bD] at this;rw[show q.length=len by omega];rfl
theorem Qu.one{H:Hp}{v:AV}{q:List Int}(h:Qu H v q):v.one=true/\v.cells=[v]:=by
 cases h<;>exact⟨rfl,rfl⟩
theorem Qu.hd{H:Hp}{v:AV}{x:Int}{q:List Int}(h:Qu H v (x::q)):∃p,cA 1 v (.int .i64 0)=some p/\∀H':Hp,(∀b,bd v=some b->H' b=H b)->rd1 H' p=some (.int .i64 x):=by
 cases h with
 |mk b off len cs q hb hl h0 hd=>
  have hlen:=congrArg List.length hd;rw[sH,bD,dJ] at hlen;refine⟨.ptr b (off+len) off,?_,λH' hs=>?_⟩
  ·rw[fT,if_pos ⟨by omega,by omega⟩];rfl
  ·rw[xw ((hs b rfl).trans hb) hl];have:=congrArg (λl=>l[0]?) hd;simpa using this
theorem Qu.tl{H:Hp}{v:AV}{x:Int}{q:List Int}(h:Qu H v (x::q)):∃v',kC 1 v (some (.int .i64 1)) none none=some v'/\Qu H v' q/\∀b,bd v'=some b->bd v=some b:=by
 cases h with
 |mk b off len cs q hb hl h0 hd=>
  have hlen:=congrArg List.length hd;rw[sH,bD,dJ] at hlen;have e:off+len=(off+1)+(len-1):=by omega
  by_cases h1:1<len
  ·refine⟨.msl b (off+len) 1 (off+1) (len-1),?_,?_,λ_ h=>h⟩
   ·show(if 1=1/\1<=len/\len<=len/\off+len≠0 then(if 1=0\/1<len then some (AV.msl b (off+len) 1 (off+1*1) (len-1)) else some (.sl 1 [])) else _)=_;rw[if_pos ⟨rfl,by omega,aZ _,by omega⟩,if_pos (.inr h1)]
   ·have:=Qu.mk (H:=H) b (off + 1) (len - 1) cs q hb (by omega) (by omega) (by
      rw[<-List.drop_drop,hd];rfl)
    rwa [<-e] at this
  ·have hq:q=[]:=eI.1 (by omega);subst hq;refine⟨.sl 1 [],?_,.nil,λ_ h=>(by cases h)⟩;show(if 1=1/\1<=len/\len<=len/\off+len≠0 then(if 1=0\/1<len then some (AV.msl b (off+len) 1 (off+1*1) (len-1)) else some (.sl 1 [])) else _)=_;rw[if_pos ⟨rfl,by omega,aZ _,by omega⟩,if_neg (by omega)]
theorem Cv{P:Program}{T:Tm}{H:Hp}{nx:Nat}{K:SP}{l:List Op2}{d:Option Nat}{s x:Opd}{sv xv:AV}{q:List Int}{z:Int}(hs:ov T s=sv)(hq:Qu H sv q)(hq0:q≠[])(hx:ov T x=xv)(hsrc:eU 1 H xv=some (1,[.int .i64 z]))(hl:q.length<=1000000)(hb:∀b,bd sv=some b->b<nx)
    (next:∀(sv':AV)(H':Hp)(nx':Nat),Qu H' sv' (q++[z])->nx<=nx'->(∀y,y<nx->bd sv≠some y->H' y=H y)->(∀b,bd sv'=some b->b<nx'/\(bd sv=some b\/nx<=b))->ai P .text l (aN T d sv') H' nx' K):
    ai P .text (⟨d,none,.app 1 8 s x⟩::l) T H nx K:=by
 cases hq with
 |nil=>exact absurd rfl hq0
 |mk b off len cs q hbb hl' h0 hd=>
  have hlen:=congrArg List.length hd;rw[sH,bD] at hlen;have hb':=hb b rfl;refine JA (k:=1) hs hbb hx hsrc rfl hl' h0 (by omega) (by omega) (by omega) ?_ ?_
  ·rw[Nat.one_mul]
   refine next _ _ _ (Qu.mk b off (len + 1) (cs ++ [.int .i64 z]) _ ac (by rw [cq]; simp; omega) (by omega) (by
    rw[List.drop_append_of_le_length (by omega),hd,dq];rfl)) (aZ _) (λy hy h=>ab λe=>h (by rw[e];rfl)) (λb2 h2=>?_)
   cases h2;exact⟨hb',.inl rfl⟩
  ·rw[Nat.mul_one]
   have:=Qu.mk (H:=ar H nx (cs.drop off ++ [.int .i64 z])) nx 0 (len + 1) (cs.drop off ++ [.int .i64 z]) (q ++ [z]) ac (by rw [cq,sH]; simp; omega) (by omega) (by
    rw[List.drop_zero,hd,dq];rfl)
   rw[cp] at this;refine next _ _ _ this (by omega) (λy hy h=>ab (by omega)) (λb2 h2=>?_);cases h2;exact⟨by omega,.inr (aZ _)⟩
def sg(s:List Int)(i:Nat):Int:=s.getD i (-1)
theorem tH{s:List Int}{j:Nat}{x:Int}(h:j<s.length)(i:Nat):sg (s.set j x) i=if i=j then x else sg s i:=by
 unfold sg;by_cases e:i=j
 ·subst e;rw[if_pos rfl];simp[List.getD,List.getElem?_set,h]
 ·rw[if_neg e];simp[List.getD,List.getElem?_set,Ne.symm e]
inductive Pth(n:Nat)(adj:Nat->Nat->Bool)(a:Nat):Nat->Nat->Prop
 |zero:Pth n adj a a 0
 |succ {i j k:Nat} (h:Pth n adj a i k) (hi:i<n) (hj:j<n) (ha:adj i j=true):Pth n adj a j (k+1)
theorem Pth.pre{n:Nat}{adj:Nat->Nat->Bool}{a b i k:Nat}(h:Pth n adj a i k)(hb:b<n)(han:a<n)(e:adj b a=true):Pth n adj b i (k+1):=by
 induction h with
 |zero=>exact .succ .zero hb han e
 |succ _ hi hj ha ih=>exact .succ ih hi hj ha
theorem Pth.rev{n:Nat}{adj:Nat->Nat->Bool}(sy:∀i j,adj i j=adj j i){a i k:Nat}(h:Pth n adj a i k):Pth n adj i a k:=by
 induction h with
 |zero=>exact .zero
 |succ _ hi hj ha ih=>exact ih.pre hj hi (by rw[sy];exact ha)
structure Lab(n:Nat)(adj:Nat->Nat->Bool)(a:Nat)(s:List Int):Prop where
 len:s.length=n
 zero:sg s a=0
 pred:∀i,i<n->0<sg s i->∃j,j<n/\adj j i=true/\sg s j=sg s i-1
 next:∀i j,i<n->j<n->0<=sg s i->adj i j=true->0<=sg s j/\sg s j<=sg s i+1
 root:∀i,i<n->sg s i=0->i=a
theorem Lab.reach{n:Nat}{adj:Nat->Nat->Bool}{a:Nat}{s:List Int}(h:Lab n adj a s):∀(k i:Nat),i<n->sg s i=k->Pth n adj a i k
 |0,i,hi,e=>by rw[h.root i hi e];exact .zero
 |k+1,i,hi,e=>by
  obtain⟨j,h1,h2,h3⟩:=h.pred i hi (by omega);exact .succ (h.reach k j h1 (by omega)) h1 hi h2
theorem Lab.le{n:Nat}{adj:Nat->Nat->Bool}{a:Nat}{s:List Int}(h:Lab n adj a s){i k:Nat}(p:Pth n adj a i k):0<=sg s i/\sg s i<=k:=by
 induction p with
 |zero=>rw[h.zero];omega
 |succ _ hi hj ha ih=>have:=h.next _ _ hi hj ih.1 ha;omega
theorem F4{n:Nat}{adj:Nat->Nat->Bool}(sy:∀i j,adj i j=adj j i){a b:Nat}(ha:a<n)(hb:b<n){s t:List Int}(hs:Lab n adj a s)(ht:Lab n adj b t):(0<=sg s b->sg t a=sg s b)/\(0<=sg t a->sg t a=sg s b):=by
 have key:∀{a b:Nat}{s t:List Int},a<n->b<n->Lab n adj a s->Lab n adj b t->0<=sg s b->0<=sg t a/\sg t a<=sg s b:=by
  intro a b s t ha hb hs ht h0;have p:=hs.reach (sg s b).toNat b hb (by omega);have:=ht.le (p.rev sy);omega
 exact⟨λh=>by have h1:=key ha hb hs ht h;have h2:=key hb ha ht hs h1.1;omega,λh=>by have h1:=key hb ha ht hs h;have h2:=key ha hb hs ht h1.1;omega⟩
structure Bfs(n:Nat)(adj:Nat->Nat->Bool)(a:Nat)(s:List Int)(q:List Nat):Prop where
 len:s.length=n
 zero:sg s a=0
 ge:∀i,-1<=sg s i
 pred:∀i,i<n->0<sg s i->∃j,j<n/\adj j i=true/\sg s j=sg s i-1
 root:∀i,i<n->sg s i=0->i=a
 inq:∀x∈q,x<n/\0<=sg s x
 mono:q.Pairwise λx y=>sg s x<=sg s y
 top:∀h r,q=h::r->∀i,i<n->sg s i<=sg s h+1
 old:∀i j,i<n->j<n->0<=sg s i->i∉q->adj i j=true->0<=sg s j/\sg s j<=sg s i+1
structure BfsI(n:Nat)(adj:Nat->Nat->Bool)(a h k:Nat)(s:List Int)(q:List Nat):Prop where
 b:Bfs n adj a s q
 hd:q.head?=some h
 part:∀j,j<k->j<n->adj h j=true->0<=sg s j
theorem Bfs.start{n:Nat}{adj:Nat->Nat->Bool}{a:Nat}(h:a<n):Bfs n adj a ((List.replicate n (-1)).set a 0) [a]:=by
 have hl:a<(List.replicate n (-1:Int)).length:=by simpa using h
 have e:∀i,sg ((List.replicate n (-1:Int)).set a 0) i=if i=a then 0 else-1:=λi=>by
  rw[tH hl]
  have:sg (List.replicate n (-1:Int)) i=-1:=by
   unfold sg;simp only[List.getD,List.getElem?_replicate];split<;>rfl
  rw[this]
 refine⟨by simp,by rw[e,if_pos rfl],λi=>by rw[e];split<;>omega,λi _ hp=>?_,λi _ hp=>?_,λx hx=>?_,List.pairwise_singleton _ _,λh' r hq i _=>?_,λi j hi hj hp hni _=>?_⟩
 ·rw[e] at hp;split at hp<;>omega
 ·rw[e] at hp;split at hp
  ·assumption
  ·omega
 ·rw[eM.1 hx];exact⟨h,by rw[e,if_pos rfl];omega⟩
 ·cases hq;rw[e,e,if_pos rfl];split<;>omega
 ·rw[e] at hp;split at hp
  ·rename_i q;exact absurd (eM.2 q) hni
  ·omega
theorem Bfs.begin{n:Nat}{adj:Nat->Nat->Bool}{a h:Nat}{s:List Int}{q:List Nat}(b:Bfs n adj a s q)(hq:q.head?=some h):BfsI n adj a h 0 s q:=⟨b,hq,λj hj=>absurd hj (Nat.not_lt_zero _)⟩
theorem BfsI.visit{n:Nat}{adj:Nat->Nat->Bool}{a h k:Nat}{s:List Int}{q:List Nat}(b:BfsI n adj a h k s q)(hk:k<n)(ha:adj h k=true)(hn:sg s k<0):BfsI n adj a h (k+1) (s.set k (sg s h+1)) (q++[k]):=by
 obtain⟨⟨len,zero,ge,pred,root,inq,mono,top,old⟩,hd,part⟩:=b
 obtain⟨r,rfl⟩:∃r,q=h::r:=by
  cases q with
  |nil=>cases hd
  |cons x r=>cases hd;exact⟨r,rfl⟩
 have hl:k<s.length:=by omega
 have e:=λi=>tH (s:=s) (j:=k) (x:=sg s h+1) hl i;have hh:=inq h (ju ..);have hkh:h≠k:=λq=>by rw[q] at hh;omega
 have hka:a≠k:=λq=>by rw[<-q,zero] at hn;omega
 have hkq:k∉h::r:=λq=>by have:=(inq k q).2;omega
 have hne:∀x∈h::r,x≠k:=λx hx q=>hkq (q▸hx)
 refine ⟨⟨by rw [List.length_set]; exact len,by rw [e,if_neg hka]; exact zero,fun i=>by
  rw[e];split
  ·omega
  ·exact ge i,λi hi hp=>?_,λi hi hp=>?_,λx hx=>?_,?_,λh' r' hq i hi=>?_,λi j hi hj hp hni hij=>?_⟩,rfl,λj hj hjn haj=>?_⟩
 ·rw[e] at hp;by_cases hik:i=k
  ·subst hik;exact⟨h,hh.1,ha,by rw[e,e,if_neg hkh,if_pos rfl];omega⟩
  ·rw[if_neg hik] at hp;obtain⟨j,h1,h2,h3⟩:=pred i hi hp;have hjk:j≠k:=λq=>by rw[q] at h3;omega
   exact⟨j,h1,h2,by rw[e,e,if_neg hjk,if_neg hik];exact h3⟩
 ·rw[e] at hp;split at hp
  ·omega
  ·exact root i hi hp
 ·rw[e];rcases iG.1 hx with hx|hx
  ·have:=inq x hx;split
   ·omega
   ·exact this
  ·rw[eM.1 hx,if_pos rfl];exact⟨hk,by omega⟩
 ·rw[List.pairwise_append];refine⟨mono.imp_of_mem λhx hy q=>?_,List.pairwise_singleton _ _,λx hx y hy=>?_⟩
  ·rw[e,e,if_neg (hne _ hx),if_neg (hne _ hy)];exact q
  ·rw[eM.1 hy,e,e,if_pos rfl,if_neg (hne _ hx)];exact top h r rfl x (inq x hx).1
 ·cases hq;rw[e,e,if_neg hkh];split
  ·omega
  ·exact top h r rfl i hi
 ·rw[e] at hp;have hni':i∉h::r:=λq=>hni (pS _ q);have hik:i≠k:=λq=>hni (sd _ (by rw[q];exact eM.2 rfl));rw[if_neg hik] at hp;have:=old i j hi hj hp hni' hij;rw[e,e,if_neg hik];split
  ·rename_i q;subst q;omega
  ·exact this
 ·rw[e];split
  ·omega
  ·exact part j (by omega) hjn haj
theorem BfsI.skip{n:Nat}{adj:Nat->Nat->Bool}{a h k:Nat}{s:List Int}{q:List Nat}(b:BfsI n adj a h k s q)(ha:adj h k=true->0<=sg s k):BfsI n adj a h (k+1) s q:=
 ⟨b.b,b.hd,fun j hj hjn haj=>by
  by_cases e:j=k
  ·subst e;exact ha haj
  ·exact b.part j (by omega) hjn haj⟩
theorem BfsI.finish{n:Nat}{adj:Nat->Nat->Bool}{a h k:Nat}{s:List Int}{q:List Nat}(b:BfsI n adj a h k s q)(hk:n<=k):Bfs n adj a s (q.drop 1):=by
 obtain⟨⟨len,zero,ge,pred,root,inq,mono,top,old⟩,hd,part⟩:=b
 obtain⟨r,rfl⟩:∃r,q=h::r:=by
  cases q with
  |nil=>cases hd
  |cons x r=>cases hd;exact⟨r,rfl⟩
 rw[qG] at mono;have hh:=inq h (ju ..);refine⟨len,zero,ge,pred,root,λx hx=>inq x (qq _ hx),mono.2,λh' r' hq i hi=>?_,λi j hi hj hp hni hij=>?_⟩
 ·have hq:r=h'::r':=hq;have h1:=mono.1 h' (by rw[hq];exact ju ..);have h2:=top h r rfl i hi;omega
 ·by_cases e:i=h
  ·subst e;exact⟨part j (by omega) hj hij,top i r rfl j hj⟩
  ·exact old i j hi hj hp (λq=>(gg.1 q).elim e λq=>hni q) hij
theorem Bfs.lab{n:Nat}{adj:Nat->Nat->Bool}{a:Nat}{s:List Int}(b:Bfs n adj a s []):Lab n adj a s:=
 ⟨b.len,b.zero,b.pred,λi j hi hj hp hij=>b.old i j hi hj hp (λh=>by cases h) hij,b.root⟩
def iW(s:List Int)(q:List Nat):Nat:=s.countP (λx=>decide (x<0))+q.length
theorem jZ:∀{s:List Int}{k:Nat}{x:Int},k<s.length->sg s k<0->0<=x->(s.set k x).countP (λx=>decide (x<0))+1=s.countP (λx=>decide (x<0))
 |[],k,x,h,_,_=>absurd h (Nat.not_lt_zero _)
 |y::s,0,x,h,h1,h2=>by
  have h1:y<0:=h1;rw[List.set_cons_zero,List.countP_cons,List.countP_cons,if_neg (by simpa using h2),if_pos (by simpa using h1)]
 |y::s,k+1,x,h,h1,h2=>by
  rw[List.set_cons_succ,List.countP_cons,List.countP_cons];have:=jZ (s:=s) (k:=k) (x:=x) (by simpa using h) h1 h2;omega
theorem l4{s:List Int}{q:List Nat}{k:Nat}{x:Int}(h:k<s.length)(h1:sg s k<0)(h2:0<=x):iW (s.set k x) (q++[k])=iW s q:=by
 have:=jZ h h1 h2;unfold iW;rw[cq,List.length_singleton];omega
theorem Lab.mono{n:Nat}{adj adj':Nat->Nat->Bool}{a:Nat}{s:List Int}(h:Lab n adj a s)(h1:∀i j,adj i j=true->adj' i j=true)(h2:∀i j,adj' i j=true->i≠j->adj i j=true):Lab n adj' a s:=
 ⟨h.len,h.zero,fun i hi hp=>by obtain ⟨j,q1,q2,q3⟩:=h.pred i hi hp; exact ⟨j,q1,h1 _ _ q2,q3⟩,fun i j hi hj hp hij=>by
  by_cases e:i=j
  ·subst e;omega
  ·exact h.next i j hi hj hp (h2 i j hij e),h.root⟩
theorem kA{s:List Int}{k:Nat}(h:k<s.length):(s.map (AV.int .i64))[k]?=some (.int .i64 (sg s k)):=by
 simp[sg,List.getD,h]
theorem yx{s:List Int}{k:Nat}(h:k<s.length)(x:Int):bE (s.map (AV.int .i64)) k [.int .i64 x]=(s.set k x).map (AV.int .i64):=by
 rw[fK (by rw[bD];exact h),ja]
theorem oZ{b m k:Nat}(h:k<m):cA 1 (.msl b m 1 0 m) (.int .i64 (k:Int))=some (.ptr b m k):=by
 rw[fT,if_pos ⟨by omega,by omega⟩,bQ,cp,Nat.mul_one]
def qi(q:List Nat):List Int:=q.map λ(k:Nat)=>(k:Int)
def Upp(m:Nat)(s:List Int):Prop:=∀i,sg s i+((s.countP λx=>decide (x<0):Nat):Int)<=(m:Int)
theorem Upp.le{m:Nat}{s:List Int}(h:Upp m s)(i:Nat):sg s i<=(m:Int):=by have:=h i;omega
theorem Upp.visit{m h k:Nat}{s:List Int}(u:Upp m s)(hk:k<s.length)(h1:sg s k<0)(h2:0<=sg s h):Upp m (s.set k (sg s h+1)):=λi=>by
 have hc:=jZ hk h1 (show 0<=sg s h+1 by omega);have e:=tH (x:=sg s h+1) hk i;have q1:=u i;have q2:=u h;rw[e];split<;>omega
theorem xN(q:List Nat)(k:Nat):qi (q++[k])=qi q++[(k:Int)]:=dq
theorem o9(q:List Nat):(qi q).length=q.length:=bD _
def lw(P:List Nat):List AV:=(qi P).map (AV.int .i64)
theorem mq(P:List Nat):(lw P).length=P.length:=by unfold lw;rw[bD,o9]
theorem qQ{P:List Nat}{k:Nat}(h:k<P.length):(lw P)[k]?=some (.int .i64 (up P k:Nat)):=by
 simp[lw,qi,up,List.getD,h]
theorem ut{P:List Nat}{k:Nat}(h:k<P.length)(x:Nat):bE (lw P) k [.int .i64 (x:Nat)]=lw (P.set k x):=by
 rw[fK (by rw[mq];exact h)];unfold lw qi;rw[List.map_set,List.map_set]
def RJ(a b:List Int)(i j:Nat):Prop:=i<a.length/\j<a.length/\(a.getD i 0=a.getD j 0\/b.getD i 0=b.getD j 0)
theorem RJ.symm(a b:List Int):∀i j,RJ a b i j->RJ a b j i:=λi j ⟨h1,h2,h3⟩=>⟨h2,h1,h3.imp Eq.symm Eq.symm⟩
theorem Ao(m i:Nat):up (List.range m) i=i:=by
 unfold up;by_cases h:i<m
 ·simp[List.getD,h]
 ·simp[List.getD,h]
theorem Aj(m i:Nat):rt (List.range m) i=i:=kB (Ao m i)
theorem EO(k:Nat):qi (List.range (k+1))=qi (List.range k)++[(k:Int)]:=by rw[List.range_succ,xN]
def xK(l:List Int)(P:List Nat):Prop:=∀i j,i<l.length->j<l.length->l.getD i 0=l.getD j 0->rt P i=rt P j
structure MI(l:List Int)(i:Nat)(ks vs:List Int)(P:List Nat):Prop where
 kv:vs.length=ks.length
 fst:∀v,v∈ks->∃k:Nat,k<i/\vs.getD (ks.idxOf v) 0=(k:Int)/\l.getD k 0=v
 seen:∀j,j<i->l.getD j 0∈ks/\∀k:Nat,vs.getD (ks.idxOf (l.getD j 0)) 0=(k:Int)->rt P j=rt P k
theorem MI.nil(l:List Int)(P:List Nat):MI l 0 [] [] P:=⟨rfl,λv h=>(by cases h),λj h=>absurd h (Nat.not_lt_zero _)⟩
theorem MI.new{l:List Int}{i:Nat}{ks vs:List Int}{P:List Nat}(h:MI l i ks vs P)(hv:l.getD i 0∉ks):MI l (i+1) (ks++[l.getD i 0]) (vs++[(i:Int)]) P:=by
 obtain⟨kv,fst,seen⟩:=h;have hn:(ks++[l.getD i 0]).idxOf (l.getD i 0)=vs.length:=by rw[List.idxOf_append,if_neg hv,kv];simp
 refine⟨by rw[cq,cq,kv];rfl,λv hm=>?_,λj hj=>?_⟩
 ·rcases iG.1 hm with hm|hm
  ·obtain⟨k,h1,h2,h3⟩:=fst v hm;have hlt:=List.idxOf_lt_length_of_mem hm;exact⟨k,by omega,by rw[x9 hm,dM (by omega)];exact h2,h3⟩
  ·rw[eM.1 hm];exact⟨i,by omega,by rw[hn,fR],rfl⟩
 ·by_cases e:j<i
  ·obtain⟨h1,h2⟩:=seen j e;have hlt:=List.idxOf_lt_length_of_mem h1;exact⟨pS _ h1,λk hk=>h2 k (by rw[x9 h1,dM (by omega)] at hk;exact hk)⟩
  ·obtain rfl:j=i:=by omega
   refine⟨sd _ (eM.2 rfl),λk hk=>?_⟩;rw[hn,fR] at hk;rw[show k=j by omega]
theorem MI.old{l:List Int}{i:Nat}{ks vs:List Int}{P Q:List Nat}(h:MI l i ks vs P)(hv:l.getD i 0∈ks)(hQ:∀x y,rt P x=rt P y->rt Q x=rt Q y)(hk:∀k:Nat,vs.getD (ks.idxOf (l.getD i 0)) 0=(k:Int)->rt Q i=rt Q k):MI l (i+1) ks vs Q:=by
 obtain⟨kv,fst,seen⟩:=h;refine⟨kv,λv hm=>?_,λj hj=>?_⟩
 ·obtain⟨k,h1,h2,h3⟩:=fst v hm;exact⟨k,by omega,h2,h3⟩
 ·by_cases e:j<i
  ·obtain⟨h1,h2⟩:=seen j e;exact⟨h1,λk hk=>hQ _ _ (h2 k hk)⟩
  ·obtain rfl:j=i:=by omega
   exact⟨hv,hk⟩
theorem MI.all{l:List Int}{ks vs:List Int}{P:List Nat}(h:MI l l.length ks vs P):xK l P:=λi j hi hj e=>by
 obtain⟨h1,h2⟩:=h.seen i hi;obtain⟨h3,h4⟩:=h.seen j hj;obtain⟨k,_,hk,_⟩:=h.fst _ h1;rw[h2 k hk,h4 k (by rw[<-e];exact hk)]
theorem xK.mono{l:List Int}{P Q:List Nat}(h:xK l P)(hQ:∀x y,rt P x=rt P y->rt Q x=rt Q y):xK l Q:=λi j hi hj e=>hQ _ _ (h i j hi hj e)
theorem qz{P:List Nat}(hP:Fst P){i k:Nat}(hi:i<P.length)(hk:k<P.length):Fst (P.set (max (rt P i) (rt P k)) (min (rt P i) (rt P k)))/\(∀x y,rt P x=rt P y->rt (P.set (max (rt P i) (rt P k)) (min (rt P i) (rt P k))) x=rt (P.set (max (rt P i) (rt P k)) (min (rt P i) (rt P k))) y)/\rt (P.set (max (rt P i) (rt P k)) (min (rt P i) (rt P k))) i=rt (P.set (max (rt P i) (rt P k)) (min (rt P i) (rt P k))) k:=by
 have l1:=rm hP i;have l2:=rm hP k;obtain⟨h1,h2⟩:=hP.join (sX hP i) (sX hP k) (by omega);refine⟨h1,λx y e=>by rw[h2,h2,e],?_⟩;rw[h2,h2];split<;>split<;>omega
structure PJ(a b:List Int)(P:List Nat):Prop where
 len:P.length=a.length
 fst:Fst P
 snd:Snd a.length (RJ a b) P
theorem PJ.start(a b:List Int):PJ a b (List.range a.length):=
 ⟨List.length_range,λi=>Nat.le_of_eq (Ao _ i),λi j _ _ e=>by rw[Aj,Aj] at e;rw[e];exact .refl _⟩
theorem PJ.same{a b:List Int}{P Q:List Nat}(h:PJ a b P)(hQ:Fst Q)(hl:Q.length=P.length)(hr:∀j,rt Q j=rt P j):PJ a b Q:=
 ⟨hl.trans h.len,hQ,λi j hi hj e=>h.snd i j hi hj (by rw[<-hr,<-hr];exact e)⟩
theorem PJ.join{a b:List Int}{P:List Nat}(h:PJ a b P){i k:Nat}(hi:i<a.length)(hk:k<a.length)(hR:RJ a b i k):PJ a b (P.set (max (rt P i) (rt P k)) (min (rt P i) (rt P k))):=
 ⟨by rw[List.length_set];exact h.len,(qz h.fst (by rw[h.len];exact hi) (by rw[h.len];exact hk)).1,h.snd.join (RJ.symm a b) h.fst h.len hi hk (.one hR)⟩
theorem PJ.iff{a b:List Int}{P:List Nat}(h:PJ a b P)(hab:a.length=b.length)(ha:xK a P)(hb:xK b P){i j:Nat}(hi:i<a.length)(hj:j<a.length):rt P i=rt P j↔Cn (RJ a b) i j:=by
 refine⟨h.snd i j hi hj,λhc=>?_⟩;clear hi hj
 induction hc with
 |refl=>rfl
 |step hr _ ih=>
  rw[<-ih];obtain⟨h1,h2,h3⟩:=hr;rcases h3 with h3|h3
  ·exact ha _ _ h1 h2 h3
  ·exact hb _ _ (by omega) (by omega) h3
theorem FK(p q:Nat):ma (.int .i64 (p:Int)) (.int .i64 (q:Int))=some (.int .i64 ((max p q:Nat):Int)):=by
 show some (AV.int .i64 (if (q:Int)>p then(q:Int) else p))=_;split<;>congr 2<;>omega
theorem EM(p q:Nat):oG (.int .i64 (p:Int)) (.int .i64 (q:Int))=some (.int .i64 ((min p q:Nat):Int)):=by
 show some (AV.int .i64 (if (q:Int)<p then(q:Int) else p))=_;split<;>congr 2<;>omega
section
attribute [local irreducible] aE ai be aP aJ aK ay aL aR bn Go.Abs.Fn aO Go.Abs.Pure ak aD Yl
theorem E5(n:Nat)(hn:n<=5)(L:List (List Int))(hL:∀l∈L,l.length=n)(e f:Nat)(he:e<L.length)(hf:f<L.length):pU 55 [.iptr [.int .i64 n,bi L] 0,.int .i64 e,.int .i64 f] (.int .i64 (ua n L e f:Nat)):=by
 refine pO OM ?_;simp only[b55,aw];have ixe:=Eo he;have ixf:=Eo hf;have le:=hL (L.getD e []) (au he);have lf:=hL (L.getD f []) (au hf);unfold ua;have hsb:∀p,l5 (ik L e f) (p+1)=l5 (ik L e f) p+if ik L e f p=true then 2^p else 0:=λ_=>rfl
 have hor:=λp hp tb tf=>orB (g:=ik L e f) (p:=p) hp tb tf;have hB:∀p,ik L e f p=decide (0<=(L.getD e []).getD p 0/\(L.getD e []).getD p 0=(L.getD f []).getD p 0):=λ_=>rfl;have h0:l5 (ik L e f) 0=0:=rfl;generalize L.getD e []=a at *;generalize L.getD f []=b at *;generalize l5 (ik L e f)=S at *;refine wnY (zI3 @PE @SV3 @NKI) ?_;refine fS (X:=Nat) (λp=>[(0,.iptr [.int .i64 n,bi L] 0),(1,.int .i64 e),(2,.int .i64 f),(7,.int .i64 (S p:Nat)),(13,.int .i64 n),(14,.int .i64 p)]) (λp=>p<=n) (λp=>n-p) 0 (bz _) ?_ ?_
 ·rw[h0];simp (disch:=omega) only[agr,ZG,reduceEqDiff,↓reduceIte]
 rintro p hp;by_cases hpn:p<n
 rotate_left
 ·obtain rfl:p=n:=by omega
  refine wnY and_self ?_;exact .int _ _
 have ia:cA 1 (aH a) (.int .i64 (p:Int))=some (.iptr [.int .i64 (a.getD p 0)] 0):=by
  have:=mg (l:=a) (n:=(p:Int)) (by omega) (by omega)
  rwa [bQ] at this
 have ib:cA 1 (aH b) (.int .i64 (p:Int))=some (.iptr [.int .i64 (b.getD p 0)] 0):=by
  have:=mg (l:=b) (n:=(p:Int)) (by omega) (by omega)
  rwa [bQ] at this
 have hsp:=hsb p;have hbp:=hB p;have hsl:=λtb tf=>Pe (p:=p) (by omega) tb tf;have ho:=hor p (by omega);generalize a.getD p 0=u at *;generalize b.getD p 0=v at *;by_cases c1:0<=u
 ·by_cases c2:u=v
  ·rw[hbp,if_pos (bG ⟨c1,c2⟩)] at hsp;have z1:decide (u≥0)=true:=bG c1;have z2:decide (u=v)=true:=bG c2;refine wnY (aI @PE (fk @SV3 @NKI @ixe @ixf @ia @ib @hsl @ho @z1 @z2)) ?_;exact⟨p+1,by omega,by omega,by rw[hsp];simp (disch:=omega) only[agr,ZG,reduceEqDiff,↓reduceIte],rfl,rfl⟩
  ·have hsp:S (p+1)=S p:=by rw[hsp,if_neg (by rw[hbp];simp[c2])];rfl
   refine wnY (zI9 @PE @SV3 @NKI @ixe @ixf @ia @ib @hsl @ho) ?_;exact⟨p+1,by omega,by omega,by rw[hsp];simp (disch:=omega) only[agr,ZG,reduceEqDiff,↓reduceIte],rfl,rfl⟩
 ·have hsp:S (p+1)=S p:=by rw[hsp,if_neg (by rw[hbp];simp[c1])];rfl
  refine wnY (zI9 @PE @SV3 @NKI @ixe @ixf @ia @ib @hsl @ho) ?_;exact⟨p+1,by omega,by omega,by rw[hsp];simp (disch:=omega) only[agr,ZG,reduceEqDiff,↓reduceIte],rfl,rfl⟩
theorem rU(n:Nat)(L:List (List Int))(e:Nat):pU 29 [.iptr [.int .i64 n,bi L] 0,.int .i64 e] (.func 54 [.iptr [.iptr [.int .i64 n,bi L] 0] 0,.iptr [.int .i64 e] 0]):=by
 refine pO OB ?_;simp only[b29,aw];refine wnY (zI3 @PE @SV3 @NKI) ?_;exact fY (af (dF rfl rfl (af (Dat.snap (Dat.iptr (DatL.cons .int (DatL.cons (dZ _) DatL.nil)))) aj)) (af (dF rfl rfl (af (.int _ _) aj)) aj))
def js(n:Nat)(L:List (List Int))(e f:Nat):Bool:=decide (ua n L e f≠0)&&decide (e≠f)
def oe(n:Nat)(L:List (List Int))(e f:Nat):Nat:=HK (ik L e f) n
theorem I2(n:Nat)(hn:n<=5)(L:List (List Int))(hL:∀l∈L,l.length=n)(e:Nat)(he:e<L.length)(hLl:L.length<=100000){y:Nat}{H:Hp}{nx:Nat}(I:Nat->Hp->Nat->Prop)(Q:Hp->Nat->Prop)
    (rnd:∀f H n',I f H n'->f<L.length->js n L e f=true->Yl Tryz.prog y [.int .i64 f,.int .i64 (oe n L e f:Nat)] H n' λr H' n'=>(r=.bool true/\I (f+1) H' n')\/(r=.bool false/\Q H' n'))
    (skip:∀f H n',I f H n'->f<L.length->js n L e f=false->I (f+1) H n')
    (h0:I 0 H nx):
    Abs.Fn Tryz.prog 54 [.yld y,.iptr [.iptr [.int .i64 n,bi L] 0] 0,.iptr [.int .i64 e] 0] H nx λ_ H' nx'=>I L.length H' nx'\/Q H' nx':=by
 refine fO Pf ?_;simp only[b54,aw];refine wnY (zI3 @PE @SV3 @NKI) ?_;refine bj (X:=Nat) (λf=>[(0,.yld y),(1,.iptr [.iptr [.int .i64 n,bi L] 0] 0),(2,.iptr [.int .i64 e] 0),(11,.int .i64 L.length),(12,.int .i64 f)]) (λf H n=>f<=L.length/\I f H n) (λf=>L.length-f) 0 ⟨bz _,h0⟩ ag0 ?_;clear h0;rintro f H1 n1 ⟨f1,f2⟩;by_cases hf:f<L.length
 rotate_left
 ·obtain rfl:f=L.length:=by omega
  refine wnY @PE ?_;exact .inl f2
 have hl:=E5 n hn L hL e f he hf;have hr:=rnd f H1 n1 f2 hf;have hk:=skip f H1 n1 f2 hf;have hbit:=Ar (ik L e f) n;have hz:=t6 (g:=ik L e f) (n:=n);have hmin:=λp hp hg hz=>H9 (g:=ik L e f) (n:=n) (p:=p) hp hg hz;unfold js at hr hk;unfold oe at hr;unfold ua at hl hr hk;have hsl:=qe (ik L e f) n;generalize l5 (ik L e f) n=S at *;generalize ik L e f=g at *;by_cases hS:S=0
 ·have hk':=hk (by simp[hS]);subst hS;refine wnY @PE ?_;exact⟨f+1,by omega,⟨by omega,hk'⟩,ag0⟩
 have z:decide ((S:Int)=0)=false:=bK (by omega);by_cases hef:e=f
 ·have hk':=hk (by simp[hef]);have z2:decide ((e:Int)=f)=true:=bG (by omega);refine wnY (zI3 @PE @z @z2) ?_;exact⟨f+1,by omega,⟨by omega,hk'⟩,ag0⟩
 have hr':=hr (by simp[hS,hef]);have z2:decide ((e:Int)=f)=false:=bK (by omega);refine wnY (zI3 @PE @z @z2) ?_;refine bj (X:=Nat) (λp=>[(0,.yld y),(1,.iptr [.iptr [.int .i64 n,bi L] 0] 0),(2,.iptr [.int .i64 e] 0),(11,.int .i64 L.length),(12,.int .i64 f),(4,.int .i64 f),(5,.int .i64 S),(6,.int .i64 p)]) (λp H n'=>p<=n/\(∀i,i<p->g i=false)/\H=H1/\n'=n1) (λp=>n-p) 0 ⟨bz _,λi h=>absurd h (Nat.not_lt_zero _),rfl,rfl⟩ (by simp (disch:=omega) only[agr,ZG,reduceEqDiff,↓reduceIte,Int.natCast_zero]) ?_;rintro p _ _ ⟨p1,p2,rfl,rfl⟩;by_cases hpn:p<n
 rotate_left
 ·obtain rfl:p=n:=by omega
  exact absurd (hz.2 p2) hS
 have hsh:=λtb tf=>qM tb tf (S:Int) p;have ha1:=λtb tf=>pB tb tf (j8 (S:Int) p);rw[qg (by omega)] at hsh ha1;rw[nJ,hbit p] at ha1;cases hg:g p with
 |false=>
  rw[hg,if_neg (λh=>by cases h.2)] at ha1;refine wnY (zI3 @PE @hsh @ha1) ?_
  exact ⟨p + 1,by omega,⟨by omega,fun i hi=>by
   rcases ij.1 hi with h|rfl
   ·exact p2 i h
   ·exact hg,rfl,rfl⟩,ag0⟩
 |true=>
  rw[hg,if_pos ⟨hpn,rfl⟩] at ha1;rw[hmin p hpn hg p2] at hr';refine wnY (zI3 @PE @hsh @ha1) ?_;refine qd ev0 ev0 (Yl.mono hr' ?_);rintro r H3 n3 (⟨rfl,q⟩|⟨rfl,q⟩)
  ·refine wnY @PE ?_;exact⟨f+1,by omega,⟨by omega,q⟩,ag0⟩
  ·refine wnY @PE ?_;exact .inr q
theorem B1(l:List Int)(hl:l.length<=65536)(hp:Pt l):pU 105 [aH l] (.int .i64 0):=by
 refine pO NN ?_;simp only[Nm,aw];have z:decide ((l.length:Int)>65536)=false:=bK (by omega);refine wnY (aI @PE @z) ?_;refine fS (X:=Nat) (λk=>[(3,.int .i64 (lU (l.take k))),(9,aH l),(10,.int .i64 l.length),(11,.int .i64 k)]) (λk=>k<=l.length) (λk=>l.length-k) 0 (bz _) (by simp (disch:=omega) only[agr,ZG,reduceEqDiff,↓reduceIte];exact rfl) ?_;rintro k hk;by_cases hk2:k<l.length
 rotate_left
 ·obtain rfl:k=l.length:=by omega
  refine wnY and_self ?_;exact .int _ _
 have ix:cA 1 (aH l) (.int .i64 (k:Int))=some (.iptr [.int .i64 (l.getD k 0)] 0):=by
  have:=mg (l:=l) (n:=(k:Int)) (by omega) (by omega)
  rwa [bQ] at this
 obtain⟨p1,p2⟩:=hp k hk2;have ht:=DE hk2;have hle:=yu (l.take k);have hll:(l.take k).length=k:=by rw[jt];omega
 have z1:decide (l.getD k 0<0)=false:=bK (by omega);have z2:decide (l.getD k 0>lU (l.take k))=false:=bK (by omega);generalize lU (l.take k)=nx at *;generalize l.getD k 0=x at *;by_cases e:x=nx
 ·have z3:decide (x=nx)=true:=bG e;rw[if_pos e] at ht;refine wnY (zI5 @PE @ix @z1 @z2 @z3) ?_;exact⟨k+1,by omega,by omega,by rw[ht];simp (disch:=omega) only[agr,ZG,reduceEqDiff,↓reduceIte],rfl,rfl⟩
 ·have z3:decide (x=nx)=false:=bK e;rw[if_neg e] at ht;refine wnY (zI5 @PE @ix @z1 @z2 @z3) ?_;exact⟨k+1,by omega,by omega,by rw[ht];simp (disch:=omega) only[agr,ZG,reduceEqDiff,↓reduceIte],rfl,rfl⟩
theorem Jq(a b:List Int)(ha:a.length<=65536)(hab:a.length=b.length)(hpa:Pt a)(hpb:Pt b):pU 68 [aH a,aH b] (.int .i64 0):=by
 refine pO Pj ?_;simp only[b68,aw];have hca:=B1 a ha hpa;have hcb:=B1 b (by omega) hpb;have z:decide ((a.length:Int)≠b.length)=false:=bK (by omega);refine wnY @PE ?_;refine bj (X:=Nat) (λk=>[(0,aH a),(1,aH b),(10,.msl 0 2 1 0 2),(11,.int .i64 (2:Nat)),(12,.int .i64 k)]) (λk H n'=>k<=2/\H 0=some [aH a,aH b]) (λk=>2-k) 0 ⟨bz _,rfl⟩ (by simp (disch:=omega) only[agr,ZG,reduceEqDiff,↓reduceIte,SL]) ?_;rintro k H n' ⟨k1,k2⟩;rcases(by omega:k=0\/k=1\/k=2) with rfl|rfl|rfl
 ·refine wnY (aI @PE @k2) ?_;exact⟨1,by omega,⟨by omega,k2⟩,by simp (disch:=omega) only[agr,ZG,reduceEqDiff,↓reduceIte];exact⟨trivial,trivial,trivial,trivial,rfl⟩⟩
 ·refine wnY (aI @PE @k2) ?_;exact⟨2,by omega,⟨by omega,k2⟩,by simp (disch:=omega) only[agr,ZG,reduceEqDiff,↓reduceIte];exact⟨trivial,trivial,trivial,trivial,rfl⟩⟩
 ·refine wnY (zI3 @PE @k2 @z) ?_;exact .int _ _
theorem wa(n:Int)(L:List (List Int))(p:Nat)(hLl:L.length<=60000)(hL:∀l∈L,p<l.length):pU 38 [.iptr [.int .i64 n,bi L] 0,.int .i64 p] (aH (yb (col L p))):=by
 refine pO Ol ?_;simp only[b38,aw];refine wnY (zI3 @PE @SV3 @NKI) ?_;refine tY ?_;refine wnY (zI3 @PE @SV3 @NKI) ?_;refine bj (X:=Nat×AV) (λx=>[(0,.iptr [.int .i64 n,bi L] 0),(1,.int .i64 p),(5,.mp 0),(6,x.2),(7,.int .i64 (iS ((col L p).take x.1)).nx),(17,bi L),(18,.int .i64 L.length),(19,.int .i64 x.1)]) (λx H n'=>x.1<=L.length/\1<=n'/\H 0=some [.omap ((iS ((col L p).take x.1)).ks.map (AV.int .i64)) ((iS ((col L p).take x.1)).vs.map (AV.int .i64))]/\Row H 1 x.2 ((iS ((col L p).take x.1)).out.map (AV.int .i64))/\∀b,bd x.2=some b->1<=b/\b<n') (λx=>L.length-x.1) (0,.esl) ⟨bz _,by omega,rfl,.nil,λb h=>(by cases h)⟩ (by simp (disch:=omega) only[agr,ZG,reduceEqDiff,↓reduceIte];exact⟨trivial,trivial,trivial,trivial,rfl⟩) ?_;rintro⟨k,ro⟩ H m ⟨hk,hm,g0,hrow,hb⟩;dsimp only at hk g0 hrow hb |-;obtain⟨o1,o2⟩:=hrow.one;have hcl:(col L p).length=L.length:=bD _;by_cases hk2:k<L.length
 rotate_left
 ·obtain rfl:k=L.length:=by omega
  rw[<-hcl,List.take_length] at hrow;refine wnY (zI3 @PE @o1 @o2) ?_;exact Row.snapI hrow
 have ix:=Eo hk2
 have ixp:cA 1 (aH (L.getD k [])) (.int .i64 (p:Int))=some (.iptr [.int .i64 ((L.getD k []).getD p 0)] 0):=by
  have:=hL (L.getD k []) (au hk2);have:=mg (l:=L.getD k []) (n:=(p:Int)) (by omega) (by omega)
  rwa [bQ] at this
 have htk:(col L p).take (k+1)=(col L p).take k++[(L.getD k []).getD p 0]:=by
  rw[cu (by omega)]
  congr 2
  simp[col,List.getD,hk2]
 have hss:=nQ ((col L p).take k) ((L.getD k []).getD p 0);rw[<-htk] at hss;have hci:=jF ((col L p).take k);have hnl:=yu (iS ((col L p).take k)).out;have hol:=hci.len;rw[jt] at hol;have hnx:=hci.nx;have hkv:=hci.kv;generalize iS ((col L p).take k)=s at *;generalize L.getD k []=row at *;generalize row.getD p 0=v at *;have hmf:=yq v s.ks;have holm:(s.out.map (AV.int .i64)).length=k:=by rw[bD];omega
 unfold wA at hss;by_cases hv:v∈s.ks
 ·rw[if_pos hv] at hmf;have hlt:=List.idxOf_lt_length_of_mem hv;have hgv:=nH (l:=s.vs) (i:=s.ks.idxOf v) (by omega);refine wnY (zI5 @PE @SV3 @NKI @ix @ixp) ?_;refine il (b:=0) ev0 g0 ev0 rfl hmf ?_;rw[show mget (AV.int .i64 0) true (some (s.ks.idxOf v)) (s.vs.map (AV.int .i64))=.tup [(s.vs.map (AV.int .i64)).getD (s.ks.idxOf v) .undef,.bool true] from rfl,hgv];by_cases hv0:v<0
  ·have hn:zZ s v=true:=bG (.inr hv0);rw[if_pos hn,if_pos hv,if_pos hv] at hss;have z:decide (v<0)=true:=bG hv0;refine wnY (aI @PE @z) ?_;refine oL (b:=0) ev0 g0 ev0 ev0 rfl hmf ?_;refine wnY @PE ?_;refine d7 (k:=1) (sv:=ro) (cs:=s.out.map (AV.int .i64)) (new:=[.int .i64 (s.nx:Nat)]) rfl ev0 (hrow.same λb h=>by have:=hb b h;simp (disch:=omega) only[ab]) ev0 (co rfl) rfl rfl g8 (by omega) (by omega) ?_;rintro r2 H3 n3 r1 r2' r3 r4 r5;have h0:H3 0=_:=r4 0 (by omega) (λh=>by have:=hb 0 h;omega);refine wnY @PE ?_;refine⟨(k+1,r2),by dsimp only;omega,⟨by dsimp only;omega,by omega,?_,?_,λb h=>?_⟩,by dsimp only;rw[hss];simp (disch:=omega) only[agr,ZG,reduceEqDiff,↓reduceIte,Int.natCast_add,Int.natCast_one]⟩
   ·dsimp only;rw[hss,h0];simp (disch:=omega) only[ab,ac];rw[show nu (AV.int .i64 (s.nx:Nat)) (some (s.ks.idxOf v)) (s.vs.map (AV.int .i64))=(s.vs.set (s.ks.idxOf v) (s.nx:Nat)).map (AV.int .i64) from(ja ..)];rfl
   ·dsimp only;rw[hss];show Row H3 1 r2 ((s.out++[((s.nx:Nat):Int)]).map (AV.int .i64));rw[dq];exact r1
   ·rcases r5 b h with h|h
    ·have:=hb b h;omega
    ·omega
  ·have hn:zZ s v=false:=bK (λh=>h.elim (λh=>h hv) hv0);rw[hn,if_neg (by decide)] at hss;have z:decide (v<0)=false:=bK hv0;refine wnY (aI @PE @z) ?_;refine d7 (k:=1) (sv:=ro) (cs:=s.out.map (AV.int .i64)) (new:=[.int .i64 (s.vs.getD (s.ks.idxOf v) 0)]) rfl ev0 (hrow.same λb h=>by have:=hb b h;simp (disch:=omega) only[ab]) ev0 (co rfl) rfl rfl g8 (by omega) (by omega) ?_;rintro r2 H3 n3 r1 r2' r3 r4 r5;have h0:H3 0=_:=r4 0 (by omega) (λh=>by have:=hb 0 h;omega);refine wnY @PE ?_;refine⟨(k+1,r2),by dsimp only;omega,⟨by dsimp only;omega,by omega,?_,?_,λb h=>?_⟩,by dsimp only;rw[hss];simp (disch:=omega) only[agr,ZG,reduceEqDiff,↓reduceIte,Int.natCast_add,Int.natCast_one]⟩
   ·dsimp only;rw[hss,h0];simp (disch:=omega) only[ab,ac];rw[g0]
   ·dsimp only;rw[hss];show Row H3 1 r2 ((s.out++[((s.vs.getD (s.ks.idxOf v) 0):Int)]).map (AV.int .i64));rw[dq];exact r1
   ·rcases r5 b h with h|h
    ·have:=hb b h;omega
    ·omega
 ·rw[if_neg hv] at hmf;have hn:zZ s v=true:=bG (.inl hv);rw[if_pos hn,if_neg hv,if_neg hv] at hss;refine wnY (zI5 @PE @SV3 @NKI @ix @ixp) ?_;refine il (b:=0) ev0 g0 ev0 rfl hmf ?_;rw[show mget (AV.int .i64 0) true none (s.vs.map (AV.int .i64))=.tup [.int .i64 0,.bool false] from rfl];refine wnY @PE ?_;refine oL (b:=0) ev0 g0 ev0 ev0 rfl hmf ?_;refine wnY @PE ?_;refine d7 (k:=1) (sv:=ro) (cs:=s.out.map (AV.int .i64)) (new:=[.int .i64 (s.nx:Nat)]) rfl ev0 (hrow.same λb h=>by have:=hb b h;simp (disch:=omega) only[ab]) ev0 (co rfl) rfl rfl g8 (by omega) (by omega) ?_;rintro r2 H3 n3 r1 r2' r3 r4 r5;have h0:H3 0=_:=r4 0 (by omega) (λh=>by have:=hb 0 h;omega);refine wnY @PE ?_;refine⟨(k+1,r2),by dsimp only;omega,⟨by dsimp only;omega,by omega,?_,?_,λb h=>?_⟩,by dsimp only;rw[hss];simp (disch:=omega) only[agr,ZG,reduceEqDiff,↓reduceIte,Int.natCast_add,Int.natCast_one]⟩
  ·dsimp only;rw[hss,h0];simp (disch:=omega) only[ab,ac];show some [AV.omap (s.ks.map (AV.int .i64)++[.int .i64 v]) (s.vs.map (AV.int .i64)++[.int .i64 (s.nx:Nat)])]=some [AV.omap ((s.ks++[v]).map (AV.int .i64)) ((s.vs++[((s.nx:Nat):Int)]).map (AV.int .i64))];rw[dq,dq];rfl
  ·dsimp only;rw[hss];show Row H3 1 r2 ((s.out++[((s.nx:Nat):Int)]).map (AV.int .i64));rw[dq];exact r1
  ·rcases r5 b h with h|h
   ·have:=hb b h;omega
   ·omega
theorem Fq(l:List Int)(hl:l.length<=60000)(h0:∀v∈l,0<=v):pU 70 [aH l] (aH (yb l)):=by
 refine pO PQ ?_;simp only[b70,aw];refine wnY @PE ?_;refine tY ?_;refine wnY @PE ?_;refine l8 rfl ev0 ev0 (by omega) (by omega) (by omega) (by omega) ?_;rw[bQ,fh,Nat.mul_one];refine wnY @PE ?_;refine bj (X:=Nat) (λk=>[(3,.mp 0),(4,.msl 1 l.length 1 0 l.length),(13,aH l),(14,.int .i64 l.length),(15,.int .i64 k)]) (λk H n'=>k<=l.length/\H 0=some [.omap ((iS (l.take k)).ks.map (AV.int .i64)) ((iS (l.take k)).vs.map (AV.int .i64))]/\H 1=some (((iS (l.take k)).out++List.replicate (l.length-(iS (l.take k)).out.length) (0:Int)).map (AV.int .i64))) (λk=>l.length-k) 0 ⟨bz _,by simp (disch:=omega) only[ab,ac];rfl,by simp (disch:=omega) only[ac];rfl⟩ (by simp (disch:=omega) only[agr,ZG,reduceEqDiff,↓reduceIte,SL]) ?_;rintro k H n' ⟨hk,g0,g1⟩;have hol:=(jF (l.take k)).len;rw[jt] at hol;by_cases hk2:k<l.length
 rotate_left
 ·obtain rfl:k=l.length:=by omega
  rw[List.take_length] at g1 hol;rw[show l.length-(iS l).out.length=0 by omega,List.replicate_zero,gI] at g1;refine wnY @PE ?_;exact Row.snapI (Row.box1 g1 (by rw[bD];show(iS l).out.length=l.length;omega))
 have ix:cA 1 (aH l) (.int .i64 (k:Int))=some (.iptr [.int .i64 (l.getD k 0)] 0):=by
  have:=mg (l:=l) (n:=(k:Int)) (by omega) (by omega)
  rwa [bQ] at this
 have htk:l.take (k+1)=l.take k++[l.getD k 0]:=cu hk2;have hss:=nQ (l.take k) (l.getD k 0);rw[<-htk] at hss;have hci:=jF (l.take k);have hnn:=G0 (l:=l.take k) λv hv=>h0 v (vj hv);have hv0:=h0 _ (au hk2:l.getD k 0∈l);have hkv:=hci.kv;have hnl:=yu (iS (l.take k)).out;have hnx:=hci.nx;generalize iS (l.take k)=s at *;generalize l.getD k 0=v at *;have hmf:=yq v s.ks;have hok:s.out.length=k:=by omega
 have hpt:=λx=>yl s.out l.length (by omega) x;rw[hok] at hpt;have hCl:((s.out++List.replicate (l.length-s.out.length) (0:Int)).map (AV.int .i64)).length=l.length:=by rw[bD,cq,List.length_replicate];omega
 rw[hok] at g1 hCl;have hix:=Ia (b:=1) (m:=l.length) hk2;generalize (s.out++List.replicate (l.length-k) (0:Int)).map (AV.int .i64)=C at *;unfold wA at hss;by_cases hv:v∈s.ks
 ·rw[if_pos hv] at hmf;have hlt:=List.idxOf_lt_length_of_mem hv;have hgv:=nH (l:=s.vs) (i:=s.ks.idxOf v) (by omega);have hn:zZ s v=false:=bK (λh=>h.elim (λh=>h hv) (by omega));rw[hn,if_neg (by decide)] at hss;refine wnY (aI @PE @ix) ?_;refine il (b:=0) ev0 g0 ev0 rfl hmf ?_;rw[show mget (AV.int .i64 0) true (some (s.ks.idxOf v)) (s.vs.map (AV.int .i64))=.tup [(s.vs.map (AV.int .i64)).getD (s.ks.idxOf v) .undef,.bool true] from rfl,hgv];refine wnY (aI @PE @hix) ?_;refine lm (b:=1) (n:=l.length) (off:=k) (cs:=C) (vs:=[.int .i64 (s.vs.getD (s.ks.idxOf v) 0)]) rfl ev0 ev0 g1 rfl rfl hCl rfl (by omega) ?_;rw[hpt];refine wnY @PE ?_;exact⟨k+1,by omega,⟨by omega,by rw[hss,ab (by omega)];exact g0,by rw[hss,ac]⟩,ag0⟩
 ·rw[if_neg hv] at hmf;have hn:zZ s v=true:=bG (.inl hv);rw[if_pos hn,if_neg hv,if_neg hv] at hss;refine wnY (aI @PE @ix) ?_;refine il (b:=0) ev0 g0 ev0 rfl hmf ?_;rw[show mget (AV.int .i64 0) true none (s.vs.map (AV.int .i64))=.tup [.int .i64 0,.bool false] from rfl];refine wnY @PE ?_;refine JT (b:=0) ev0 g0 ?_;rw[bD,<-hnn];refine wnY @PE ?_;refine oL (b:=0) ev0 g0 ev0 ev0 rfl hmf ?_;refine wnY (aI @PE @hix) ?_;refine lm (b:=1) (n:=l.length) (off:=k) (cs:=C) (vs:=[.int .i64 (s.nx:Nat)]) rfl ev0 ev0 (by rw[ab (by omega)];exact g1) rfl rfl hCl rfl (by omega) ?_;rw[hpt];refine wnY @PE ?_;refine⟨k+1,by omega,⟨by omega,?_,by rw[hss,ac]⟩,ag0⟩;rw[hss,ab (by omega),ac];show some [AV.omap (s.ks.map (AV.int .i64)++[.int .i64 v]) (s.vs.map (AV.int .i64)++[.int .i64 (s.nx:Nat)])]=some [AV.omap ((s.ks++[v]).map (AV.int .i64)) ((s.vs++[((s.nx:Nat):Int)]).map (AV.int .i64))];rw[dq,dq];rfl
theorem rn(n:Nat)(hn:n<=5)(L:List (List Int))(hL:∀l∈L,l.length=n)(f:Nat)(hf:f<L.length)(hLl:L.length<=1000)(H0:Hp)(nx:Nat):
    Abs.Fn Tryz.prog 28 [.iptr [.int .i64 n,bi L] 0,.int .i64 f] H0 nx λr H' nx'=>∃s b,Lab L.length (js n L) f s/\(∀i,-1<=sg s i/\sg s i<=(L.length:Int))/\r=.msl b L.length 1 0 L.length/\H' b=some (s.map (AV.int .i64))/\nx<=b/\b<nx'/\∀y,y<nx->H' y=H0 y:=by
 refine fO Oh ?_;simp only[b28,aw];refine wnY (zI3 @PE @SV3 @NKI) ?_;refine l8 rfl ev0 ev0 (by omega) (by omega) (by omega) (by omega) ?_;rw[bQ,fh,Nat.mul_one];refine wnY (zI3 @PE @SV3 @NKI) ?_;have hix:=λk h=>oZ (b:=nx) (m:=L.length) (k:=k) h
 refine bj (X:=Nat) (λk=>[(0,.iptr [.int .i64 n,bi L] 0),(1,.int .i64 f),(5,.ptr (nx+1) 1 0),(16,.int .i64 L.length),(17,.int .i64 k)]) (λk H' n'=>k<=L.length/\n'=nx+2/\H' (nx+1)=some [.msl nx L.length 1 0 L.length]/\H' nx=some ((List.replicate k (-1)++List.replicate (L.length-k) 0).map (AV.int .i64))/\∀y,y<nx->H' y=H0 y) (λk=>L.length-k) 0
  ⟨bz _,rfl,by simp (disch:=omega) only[ab,ac];rfl,by simp (disch:=omega) only[ab,ac];rfl,λy hy=>by simp (disch:=omega) only[ab]⟩ (by simp (disch:=omega) only[agr,ZG,reduceEqDiff,↓reduceIte,SL]) ?_
 rintro k H1 n1 ⟨hk,rfl,g1,g0,fr⟩
 have hml:((List.replicate k (-1:Int)++List.replicate (L.length-k) 0).map (AV.int .i64)).length=L.length:=by
  rw[bD,cq,List.length_replicate,List.length_replicate];omega
 by_cases hk2:k<L.length
 ·have hi:=hix k hk2
  have hpt:bE ((List.replicate k (-1:Int)++List.replicate (L.length-k) 0).map (AV.int .i64)) k [.int .i64 (-1)]=(List.replicate (k+1) (-1:Int)++List.replicate (L.length-(k+1)) 0).map (AV.int .i64):=by
   rw[fK (by omega),ja,List.set_append_right _ _ (by rw[List.length_replicate];omega),List.length_replicate,Nat.sub_self,show L.length-k=(L.length-(k+1))+1 by omega,List.replicate_succ,List.replicate_succ',gM];rfl
  generalize (List.replicate k (-1:Int)++List.replicate (L.length-k) 0).map (AV.int .i64)=C at *;refine wnY (zI5 @PE @SV3 @NKI @g1 @hi) ?_;refine lm (b:=nx) (n:=L.length) (off:=k) (cs:=C) (vs:=[.int .i64 (-1)]) rfl ev0 ev0 g0 rfl rfl hml rfl (by omega) ?_;rw[hpt];refine wnY and_self ?_;exact⟨k+1,by omega,⟨by omega,rfl,by rw[ab (by omega)];exact g1,ac,λy hy=>by rw[ab (by omega)];exact fr y hy⟩,ag0⟩
 obtain rfl:k=L.length:=by omega
 rw[Nat.sub_self,List.replicate_zero,gI] at g0;have hi:=hix f hf;have hrl:(List.replicate L.length (-1:Int)).length=L.length:=List.length_replicate;have hpt:=yx (s:=List.replicate L.length (-1:Int)) (k:=f) (by omega) 0;have hst:=Bfs.start (adj:=js n L) hf
 have hu0:Upp L.length ((List.replicate L.length (-1:Int)).set f 0):=by
  have hg:∀i,sg (List.replicate L.length (-1:Int)) i=-1:=λi=>by
   unfold sg;simp only[List.getD,List.getElem?_replicate];split<;>rfl
  intro i;have e:=tH (s:=List.replicate L.length (-1:Int)) (j:=f) (x:=0) (by omega) i;have hc:=jZ (s:=List.replicate L.length (-1:Int)) (k:=f) (x:=0) (by omega) (by rw[hg];decide) (Int.le_refl _);have hl:=List.countP_le_length (p:=λx:Int=>decide (x<0)) (l:=List.replicate L.length (-1:Int));rw[hrl] at hl;rw[hg] at e;rw[e];split<;>omega
 have hm0:iW ((List.replicate L.length (-1:Int)).set f 0) [f]<=L.length:=by
  have:=l4 (s:=List.replicate L.length (-1:Int)) (q:=[]) (k:=f) (x:=0) (by omega) (by simp[sg,List.getD,hf]) (by omega);rw[List.nil_append] at this;rw[this];unfold iW;have:=List.countP_le_length (p:=λx:Int=>decide (x<0)) (l:=List.replicate L.length (-1:Int));simp at this |-;exact this
 clear hml;generalize List.replicate L.length (-1:Int)=C at *;refine wnY (zI5 @PE @SV3 @NKI @g1 @hi) ?_;refine lm (b:=nx) (n:=L.length) (off:=f) (cs:=C.map (AV.int .i64)) (vs:=[.int .i64 0]) rfl ev0 ev0 g0 rfl rfl (by rw[bD];exact hrl) rfl (by omega) ?_;rw[hpt];refine wnY (zI3 @PE @SV3 @NKI) ?_
 refine bj (X:=List Int×List Nat×AV×Nat) (λx=>[(0,.iptr [.int .i64 n,bi L] 0),(5,.ptr (nx+1) 1 0),(7,.ptr x.2.2.2 1 0)]) (λx H' n'=>x.2.2.2<n'/\nx+3<=x.2.2.2/\H' (nx+1)=some [.msl nx L.length 1 0 L.length]/\H' nx=some (x.1.map (AV.int .i64))/\H' x.2.2.2=some [x.2.2.1]/\Qu H' x.2.2.1 (qi x.2.1)/\(∀b,bd x.2.2.1=some b->nx+2<=b/\b<n'/\b≠x.2.2.2)/\Bfs L.length (js n L) f x.1 x.2.1/\iW x.1 x.2.1<=L.length/\Upp L.length x.1/\∀y,y<nx->H' y=H0 y) (λx=>iW x.1 x.2.1) (C.set f 0,[f],.msl (nx+2) 1 1 0 1,nx+3)
  ⟨by dsimp only;omega,aZ _,by simp (disch:=omega) only[ab];exact g1,by simp (disch:=omega) only[ab,ac],by simp (disch:=omega) only[ac];rfl,Qu.mk (nx+2) 0 1 [.int .i64 f] _ (by simp (disch:=omega) only[ab,ac]) rfl (by omega) rfl,λb h=>by cases h;dsimp only;omega,hst,hm0,hu0,λy hy=>by simp (disch:=omega) only[ab];exact fr y hy⟩ (by simp (disch:=omega) only[agr,ZG,reduceEqDiff,↓reduceIte,SL]) ?_
 clear g1 g0 fr hst hm0 hpt hrl hi hk hk2;rintro⟨s0,q,qv,c⟩ H1 n1 ⟨i1,i2,g1,g0,gc,hq,hqb,hB,hM,hU,fr⟩;dsimp only at i1 i2 g1 g0 gc hq hqb hB hM hU |-;have hql:=hq.len;rw[o9] at hql;obtain⟨o1,o2⟩:=hq.one;cases q with
 |nil=>
  have z0:decide ((0:Int)<(([]:List Nat).length:Nat))=false:=rfl;refine wnY (zI7 @PE @SV3 @NKI @g1 @gc @hql @z0) ?_;exact⟨s0,nx,hB.lab,λi=>⟨hB.ge i,hU.le i⟩,rfl,g0,aZ _,by omega,fr⟩
 |cons h r=>
  obtain⟨p0,hp1,hp2⟩:=hq.hd;obtain⟨hh,hh2⟩:=hB.inq h (ju ..);have hp3:=hp2 H1 λ_ _=>rfl;have hnb:=rU n L h;have z1:decide (((h::r).length:Int)>0)=true:=bG (by rw[dJ];omega);refine wnY (zI9 @PE @SV3 @NKI @g1 @gc @hql @z1 @hp1 @hp3) ?_;refine gV n1 (n1+1) rfl rfl ev0 (λc0 cj hy=>?_);refine Abs.Fn.mono (I2 n hn L hL h hh (by omega) (I:=λk H n'=>n1<n'/\H n1=some [c0]/\∃s q qv,H (nx+1)=some [.msl nx L.length 1 0 L.length]/\H nx=some (s.map (AV.int .i64))/\H c=some [qv]/\Qu H qv (qi q)/\(∀b,bd qv=some b->nx+2<=b/\b<n'/\b≠c/\b≠n1)/\BfsI L.length (js n L) f h k s q/\iW s q<=iW s0 (h::r)/\Upp L.length s/\∀y,y<nx->H y=H0 y) (λ_ _=>False) ?_ ?_ ?_) ?_
  ·rintro k H n' ⟨q1,q2,s,q,qv,q3,q4,q5,q6,q7,q8,q9,q10,q11⟩ hk ha;refine hy _ _ _ _ q2 rfl ?_;clear hy;have w:∀x,x≠n1->cl H n1 x=H x:=λx b=>ca b;refine wnY @PE ?_;refine⟨q2,?_⟩;have k3:=(w (nx+1) (by omega)).trans q3;have k4:=(w nx (by omega)).trans q4;have k5:=(w c (by omega)).trans q5;have k6:Qu (cl H n1) qv (qi q):=q6.same λb hb=>w b (by have:=q7 b hb;omega);have kfr:∀y,y<nx->cl H n1 y=H0 y:=λy hy=>(w y (by omega)).trans (q11 y hy);generalize cl H n1=H2 at *;have hsl:s.length=L.length:=q8.b.len;have hck:=kA (s:=s) (k:=k) (by omega);have hik:=hix k hk;have hml:(s.map (AV.int .i64)).length=L.length:=by rw[bD];exact hsl
   by_cases hs:sg s k<0
   ·obtain⟨r2,rfl⟩:∃r2,q=h::r2:=by
      have:=q8.hd;cases q with
      |nil=>cases this
      |cons x l=>cases this;exact⟨l,rfl⟩
    obtain⟨p1,hp1,hp2⟩:=k6.hd;have hp3:=hp2 H2 λ_ _=>rfl;have hih:=hix h hh;have hch:=kA (s:=s) (k:=h) (by omega);have hh0:=(q8.b.inq h (ju ..)).2;have hh1:=q10.le h;have hpt:=yx (s:=s) (k:=k) (by omega) (sg s h+1);have hvs:=q8.visit hk ha hs;have hvm:=l4 (s:=s) (q:=h::r2) (k:=k) (x:=sg s h+1) (by omega) hs (by omega);have hvu:=q10.visit (h:=h) (k:=k) (by omega) hs hh0
    have hql2:(qi (h::r2)).length<=1000000:=by
     rw[o9];have:iW s (h::r2)<=1000000:=by omega
     unfold iW at this;omega
    generalize sg s k=vk at *;generalize sg s h=vh at *;generalize s.map (AV.int .i64)=C at *;refine wnY (aI @PE (aI @SV3 (fk @NKI @k3 @k4 @k5 @hik @hih @hck @hch @hp1 @hp3))) ?_;refine Cv (sv:=qv) (xv:=.msl n' 1 1 0 1) (z:=(k:Int)) ev0 (k6.same λb hb=>by have:=q7 b hb;simp (disch:=omega) only[ab]) (by simp[qi]) ev0 (co rfl) hql2 (λb hb=>by have:=q7 b hb;omega) ?_;rintro sv' H4 n4 r1 r2' r3 r4;have nq:∀y,y<nx+2\/y=c\/y=n1->bd qv≠some y:=λy hy h=>by have:=q7 y h;omega
    have v5:H4 c=some [qv]:=by rw[r3 c (by omega) (nq c (by omega))];simp (disch:=omega) only[ab];exact k5
    have v3:H4 (nx+1)=some [.msl nx L.length 1 0 L.length]:=by rw[r3 _ (by omega) (nq _ (by omega))];simp (disch:=omega) only[ab];exact k3
    have v4:H4 nx=some ((s.set k (vh+1)).map (AV.int .i64)):=by rw[r3 _ (by omega) (nq _ (by omega))];simp (disch:=omega) only[ab,ac];rw[hpt]
    have vfr:∀y,y<nx->H4 y=H0 y:=λy hy=>by rw[r3 y (by omega) (nq y (by omega))];simp (disch:=omega) only[ab];exact kfr y hy
    obtain⟨o5,o6⟩:=r1.one;rw[<-xN] at r1;refine wnY (zI6 @PE @SV3 @NKI @v5 @o5 @o6) ?_
    have hb4:∀b,bd sv'=some b->nx+2<=b/\b<n4/\b≠c/\b≠n1:=λb hb=>by
     obtain⟨x1,x2⟩:=r4 b hb;rcases x2 with x2|x2
     ·have:=q7 b x2;omega
     ·omega
    refine .inl ⟨rfl,by omega,ac,s.set k (vh+1),h::r2++[k],sv',by simp (disch:=omega) only[ab];exact v3,by simp (disch:=omega) only[ab];exact v4,by simp (disch:=omega) only[ab,ac];rfl,r1.same λb hb=>by have:=hb4 b hb;simp (disch:=omega) only[ab],hb4,hvs,by omega,hvu,λy hy=>by simp (disch:=omega) only[ab];exact vfr y hy⟩
   ·generalize hvk:sg s k=vk at *;generalize hC:s.map (AV.int .i64)=C at *;refine wnY (zI8 @PE @SV3 @NKI @k3 @k4 @k5 @hik @hck) ?_;refine .inl ⟨rfl,q1,ac,s,q,qv,by rw[ab (by omega)];exact k3,by rw[ab (by omega)];exact hC▸k4,by rw[ab (by omega)];exact k5,k6.same λb hb=>ab (by have:=q7 b hb;omega),q7,q8.skip λ_=>by omega,q9,q10,λy hy=>by rw[ab (by omega)];exact kfr y hy⟩
  ·rintro k H n' ⟨q1,q2,s,q,qv,q3,q4,q5,q6,q7,q8,q9,q10,q11⟩ hk ha;exact⟨q1,q2,s,q,qv,q3,q4,q5,q6,q7,q8.skip (λh=>by rw[ha] at h;cases h),q9,q10,q11⟩
  ·refine⟨by omega,ac,s0,h::r,qv,by rw[ab (by omega)];exact g1,by rw[ab (by omega)];exact g0,by rw[ab (by omega)];exact gc,hq.same λb hb=>ab (by have:=hqb b hb;omega),λb hb=>by have:=hqb b hb;omega,hB.begin rfl,aZ _,hU,λy hy=>by rw[ab (by omega)];exact fr y hy⟩
  ·rintro _ H2 n2 (⟨q1,q2,s2,q2',qv2,q3,q4,q5,q6,q7,q8,q9,q10,q11⟩|hF)
   rotate_left
   ·exact hF.elim
   refine .inl ⟨q2,?_⟩;clear hy;have w:∀x,x≠n1->cl H2 n1 x=H2 x:=λx b=>ca b;have k3:=(w (nx+1) (by omega)).trans q3;have k4:=(w nx (by omega)).trans q4;have k5:=(w c (by omega)).trans q5;have k6:Qu (cl H2 n1) qv2 (qi q2'):=q6.same λb hb=>w b (by have:=q7 b hb;omega);have kfr:∀y,y<nx->cl H2 n1 y=H0 y:=λy hy=>(w y (by omega)).trans (q11 y hy);generalize cl H2 n1=H3 at *
   obtain⟨r2,rfl⟩:∃r2,q2'=h::r2:=by
    have:=q8.hd;cases q2' with
    |nil=>cases this
    |cons x l=>cases this;exact⟨l,rfl⟩
   obtain⟨v',hv1,hv2,hv3⟩:=k6.tl;have hfin:=q8.finish (aZ _);obtain⟨o5,o6⟩:=k6.one;obtain⟨o7,o8⟩:=hv2.one;have hbm:iW s2 (h::r2)=iW s2 r2+1:=by unfold iW;rw[dJ];omega
   refine wnY (zI9 @PE @SV3 @NKI @k5 @o5 @o6 @o7 @o8 @hv1) ?_;refine⟨(s2,r2,v',n2),by dsimp only;omega,⟨by dsimp only;omega,by dsimp only;omega,by simp (disch:=omega) only[ab];exact k3,by simp (disch:=omega) only[ab];exact k4,by simp (disch:=omega) only[ac];rfl,hv2.same λb hb=>by have:=q7 b (hv3 b hb);simp (disch:=omega) only[ab],λb hb=>by have:=q7 b (hv3 b hb);dsimp only;omega,hfin,by dsimp only;omega,q10,λy hy=>by simp (disch:=omega) only[ab];exact kfr y hy⟩,by simp (disch:=omega) only[agr,ZG,reduceEqDiff,↓reduceIte,SL]⟩
theorem uZ(P:List Nat)(hP:Fst P)(i:Nat)(hi:i<P.length)(H0:Hp)(nx pv pb:Nat)(hv:H0 pv=some [.msl pb P.length 1 0 P.length])(hb:H0 pb=some (lw P))(hne:pv≠pb):
    Abs.Fn Tryz.prog 69 [.int .i64 i,.ptr pv 1 0] H0 nx λr H' nx'=>r=.int .i64 (rt P i:Nat)/\nx'=nx/\∃P',Fst P'/\P'.length=P.length/\(∀j,rt P' j=rt P j)/\H' pb=some (lw P')/\∀y,y≠pb->H' y=H0 y:=by
 refine fO PA ?_;simp only[b69,aw];refine wnY and_self ?_;refine bj (X:=Nat×List Nat) (λx=>[(0,.int .i64 (x.1:Nat)),(1,.ptr pv 1 0)]) (λx H n'=>x.1<P.length/\rt P x.1=rt P i/\n'=nx/\Fst x.2/\x.2.length=P.length/\(∀j,rt x.2 j=rt P j)/\H pb=some (lw x.2)/\∀y,y≠pb->H y=H0 y) (λx=>x.1) (i,P) ⟨hi,rfl,rfl,hP,rfl,λ_=>rfl,hb,λ_ _=>rfl⟩ ag0 ?_;rintro⟨k,Q⟩ H n' ⟨hk,hr,rfl,hQ,hl,hrt,gb,fr⟩;dsimp only at hk hr hQ hl hrt gb |-;have gv:=(fr pv hne).trans hv;have hck:=qQ (P:=Q) (k:=k) (by omega);have hix:=λk h=>oZ (b:=pb) (m:=P.length) (k:=k) h;have hik:=hix k hk;have hle:=hQ k;have hiu:=hix (up Q k) (by omega);have hcu:=qQ (P:=Q) (k:=up Q k) (by omega);have hel:=mq Q;rw[hl] at hel;by_cases hu:up Q k=k
 ·have z:decide (((up Q k:Nat):Int)≠k)=false:=bK (by omega);refine wnY (zI5 @gv @gb @hik @hck @z) ?_;refine⟨?_,rfl,Q,hQ,hl,hrt,gb,fr⟩;rw[<-hr,<-hrt k,kB hu]
 ·have z:decide (((up Q k:Nat):Int)≠k)=true:=bG (by omega);have hle2:=hQ (up Q k);obtain⟨hh1,hh2⟩:=hQ.halve (i:=k) (by omega);have hpt:=ut (P:=Q) (k:=k) (by omega) (up Q (up Q k));have hc2:=qQ (P:=Q.set k (up Q (up Q k))) (k:=k) (by rw[List.length_set];omega);rw[oY (by omega),if_pos rfl] at hc2;have hel2:=mq (Q.set k (up Q (up Q k)));rw[List.length_set,hl] at hel2;have hrk:rt P (up Q (up Q k))=rt P i:=by rw[<-hrt,rJ hQ,rJ hQ,hrt];exact hr
  have hlt:up Q (up Q k)<k:=by omega
  generalize up Q (up Q k)=w at *;generalize up Q k=u at *;generalize hC:lw Q=C at *;generalize hD:lw (Q.set k w)=D at *;refine wnY (aI @gv (fk @gb @hik @hiu @hck @hcu @hpt @hc2 @hel @hel2 @z)) ?_;rw[hpt];refine wnY (aI @hc2 @hel2) ?_;exact⟨(w,Q.set k w),hlt,⟨by dsimp only;omega,hrk,rfl,hh1,by dsimp only;rw[List.length_set];exact hl,λj=>(hh2 j).trans (hrt j),by dsimp only;rw[ac,hD],λy hy=>by rw[ab hy];exact fr y hy⟩,ag0⟩
set_option maxHeartbeats 8000000 in
theorem J9(a b:List Int)(ha:a.length<=1000)(hab:a.length=b.length)(hpa:Pt a)(hpb:Pt b)(H0:Hp)(nx:Nat):
    Abs.Fn Tryz.prog 39 [aH a,aH b] H0 nx λr H' nx'=>nx<=nx'/\(∀y,y<nx->H' y=H0 y)/\∃l,r=.tup [aH l,.int .i64 0]/\l.length=a.length/\Pt l/\∀i j,i<a.length->j<a.length->(l.getD i 0=l.getD j 0↔Cn (RJ a b) i j):=by
 refine fO PV ?_;simp only[b39,aw];have hbo:=Jq a b (by omega) hab hpa hpb;refine wnY @PE ?_;refine l8 rfl ev0 ev0 (by omega) (by omega) (by omega) (by omega) ?_;rw[bQ,fh,Nat.mul_one];refine wnY @PE ?_;have hix:=λb k h=>oZ (b:=b) (m:=a.length) (k:=k) h
 refine bj (X:=Nat) (λk=>[(0,aH a),(1,aH b),(7,.ptr (nx+1) 1 0),(31,.int .i64 a.length),(32,.int .i64 k)]) (λk H n'=>k<=a.length/\n'=nx+2/\H (nx+1)=some [.msl nx a.length 1 0 a.length]/\H nx=some ((qi (List.range k)++List.replicate (a.length-(qi (List.range k)).length) (0:Int)).map (AV.int .i64))/\∀y,y<nx->H y=H0 y) (λk=>a.length-k) 0
  ⟨bz _,rfl,by simp (disch:=omega) only[ab,ac];rfl,by simp (disch:=omega) only[ab,ac];rfl,λy hy=>by simp (disch:=omega) only[ab]⟩ (by simp (disch:=omega) only[agr,ZG,reduceEqDiff,↓reduceIte,SL]) ?_
 rintro k H1 n1 ⟨hk,rfl,g1,g0,fr⟩;have hrl:(qi (List.range k)).length=k:=by rw[o9,List.length_range]
 by_cases hk2:k<a.length
 ·have hi:=hix nx k hk2;have hpt:=yl (qi (List.range k)) a.length (by omega) (k:Int);rw[<-EO,hrl] at hpt;rw[hrl] at g0
  have hml:((qi (List.range k)++List.replicate (a.length-k) (0:Int)).map (AV.int .i64)).length=a.length:=by
   rw[bD,cq,hrl,List.length_replicate];omega
  generalize (qi (List.range k)++List.replicate (a.length-k) (0:Int)).map (AV.int .i64)=C at *;refine wnY (zI3 @PE @g1 @hi) ?_;refine lm (b:=nx) (n:=a.length) (off:=k) (cs:=C) (vs:=[.int .i64 (k:Nat)]) rfl ev0 ev0 g0 rfl rfl hml rfl (by omega) ?_;rw[hpt];refine wnY and_self ?_;exact⟨k+1,by omega,⟨by omega,rfl,by rw[ab (by omega)];exact g1,ac,λy hy=>by rw[ab (by omega)];exact fr y hy⟩,ag0⟩
 obtain rfl:k=a.length:=by omega
 rw[hrl,Nat.sub_self,List.replicate_zero,gI] at g0;refine wnY (aI @PE @g1) ?_
 refine bj (X:=Nat×List Nat) (λx=>[(0,aH a),(7,.ptr (nx+1) 1 0),(9,.func 69 [.ptr (nx+1) 1 0]),(43,.msl (nx+2) 2 1 0 2),(44,.int .i64 (2:Nat)),(45,.int .i64 x.1)]) (λx H n'=>x.1<=2/\nx+3<=n'/\H nx=some (lw x.2)/\H (nx+1)=some [.msl nx a.length 1 0 a.length]/\H (nx+2)=some [aH a,aH b]/\PJ a b x.2/\(1<=x.1->xK a x.2)/\(2<=x.1->xK b x.2)/\∀y,y<nx->H y=H0 y) (λx=>2-x.1) (0,List.range a.length)
  ⟨by omega,by omega,by simp (disch:=omega) only[ab];exact g0,by simp (disch:=omega) only[ab];exact g1,by simp (disch:=omega) only[ac],PJ.start a b,λh=>absurd h (by dsimp only;omega),λh=>absurd h (by dsimp only;omega),λy hy=>by simp (disch:=omega) only[ab];exact fr y hy⟩ (by simp (disch:=omega) only[agr,ZG,reduceEqDiff,↓reduceIte,SL]) ?_
 clear g0 g1 fr hrl hk hk2;rintro⟨c,P⟩ H1 n1 ⟨c1,hn1,g0,g1,g2,hJ,hCa,hCb,fr⟩;dsimp only at c1 hn1 g0 hJ hCa hCb |-;rcases(by omega:c=0\/c=1\/c=2) with rfl|rfl|rfl
 ·refine wnY (zI3 @PE @g1 @g2) ?_;refine tY ?_;refine wnY @PE ?_;have hll:a.length=a.length:=rfl
  refine bj (X:=Nat×List Nat×List Int×List Int) (λx=>[(0,aH a),(7,.ptr (nx+1) 1 0),(9,.func 69 [.ptr (nx+1) 1 0]),(43,.msl (nx+2) 2 1 0 2),(44,.int .i64 (2:Nat)),(45,.int .i64 ((0:Nat):Int)),(12,.mp n1),(50,aH a),(51,.int .i64 a.length),(52,.int .i64 x.1)]) (λx H n'=>x.1<=a.length/\n'=n1+1/\H nx=some (lw x.2.1)/\H (nx+1)=some [.msl nx a.length 1 0 a.length]/\H (nx+2)=some [aH a,aH b]/\H n1=some [.omap (x.2.2.1.map (AV.int .i64)) (x.2.2.2.map (AV.int .i64))]/\PJ a b x.2.1/\MI a x.1 x.2.2.1 x.2.2.2 x.2.1/\(True)/\∀y,y<nx->H y=H0 y) (λx=>a.length-x.1) (0,P,[],[])
   ⟨bz _,rfl,by simp (disch:=omega) only[ab];exact g0,by simp (disch:=omega) only[ab];exact g1,by simp (disch:=omega) only[ab];exact g2,by simp (disch:=omega) only[ac];rfl,hJ,MI.nil a P,trivial,λy hy=>by simp (disch:=omega) only[ab];exact fr y hy⟩ ag0 ?_
  clear g0 g1 g2 fr;rintro⟨i,Q,ks,vs⟩ H2 n2 ⟨i1,rfl,g0,g1,g2,gm,hQ,hM,hC,fr⟩;dsimp only at i1 g0 gm hQ hM hC |-;by_cases hi:i<a.length
  rotate_left
  ·obtain rfl:i=a.length:=by omega
   refine wnY @PE ?_;refine⟨(1,Q),by dsimp only;omega,⟨by dsimp only;omega,by omega,g0,g1,g2,hQ,λ_=>hM.all,λh=>absurd h (by dsimp only;omega),fr⟩,by simp (disch:=omega) only[agr,ZG,reduceEqDiff,↓reduceIte];exact⟨trivial,trivial,trivial,trivial,trivial,rfl⟩⟩
  have ix:cA 1 (aH a) (.int .i64 (i:Int))=some (.iptr [.int .i64 (a.getD i 0)] 0):=by
   have:=mg (l:=a) (n:=(i:Int)) (by omega) (by omega)
   rwa [bQ] at this
  have hmf:=yq (a.getD i 0) ks;have hQl:=hQ.len;by_cases hv:a.getD i 0∈ks
  ·rw[if_pos hv] at hmf;obtain⟨k,hk1,hk2,hk3⟩:=hM.fst _ hv;have hgv:=nH (l:=vs) (i:=ks.idxOf (a.getD i 0)) (by rw[hM.kv];exact List.idxOf_lt_length_of_mem hv);have hMo:=λQ' h1 h2=>hM.old (Q:=Q') hv h1 h2;rw[hk2] at hgv;simp only[hk2] at hMo;have hRJ:RJ a b i k:=⟨by omega,by omega,.inl hk3.symm⟩
   generalize a.getD i 0=v at *;refine wnY (aI @PE @ix) ?_;refine il (b:=n1) ev0 gm ev0 rfl hmf ?_;rw[show mget (AV.int .i64 0) true (some (ks.idxOf v)) (vs.map (AV.int .i64))=.tup [(vs.map (AV.int .i64)).getD (ks.idxOf v) .undef,.bool true] from rfl,hgv];refine wnY @PE ?_;refine a7 ev0 ev0 (uZ Q hQ.fst i (by omega) _ _ (nx+1) nx (by rw[hQl];exact g1) g0 (by omega)) ?_;rintro _ H3 n3 ⟨rfl,rfl,Q3,hQ3,hl3,hr3,g03,fr3⟩;refine wnY @PE ?_;refine a7 ev0 ev0 (uZ Q3 hQ3 k (by omega) _ _ (nx+1) nx (by rw[hl3,hQl,fr3 _ (by omega)];exact g1) g03 (by omega)) ?_;rintro _ H4 n4 ⟨rfl,rfl,Q4,hQ4,hl4,hr4,g04,fr4⟩;have hr:∀j,rt Q4 j=rt Q j:=λj=>(hr4 j).trans (hr3 j);have f4:∀y,y≠nx->H4 y=H2 y:=λy hy=>(fr4 y hy).trans (fr3 y hy);have k1:=(f4 (nx+1) (by omega)).trans g1;have hJ4:=hQ.same hQ4 (by omega) hr;have hJ5:=hJ4.join hRJ.1 hRJ.2.1 hRJ;obtain⟨j1,j2,j3⟩:=qz hQ4 (i:=i) (k:=k) (by omega) (by omega);have hmx:=FK (rt Q4 i) (rt Q4 k);have hmn:=EM (rt Q4 i) (rt Q4 k);have l1:=rm hQ4 i;have l2:=rm hQ4 k;have hixm:=hix nx (max (rt Q4 i) (rt Q4 k)) (by omega);have hpt:=ut (P:=Q4) (k:=max (rt Q4 i) (rt Q4 k)) (by omega) (min (rt Q4 i) (rt Q4 k));have hMo2:=hMo (Q4.set (max (rt Q4 i) (rt Q4 k)) (min (rt Q4 i) (rt Q4 k))) (λx y e=>j2 x y (by rw[hr,hr];exact e)) (λk' hk'=>by rw[show k'=k by omega];exact j3);have hel:(lw Q4).length=a.length:=by rw[mq];omega
   rw[<-hr i,<-hr4 k];generalize hmxv:max (rt Q4 i) (rt Q4 k)=mxv at *;generalize hmnv:min (rt Q4 i) (rt Q4 k)=mnv at *;generalize rt Q4 i=rp at *;generalize rt Q4 k=rq at *;generalize lw Q4=C at *;refine wnY (zI5 @PE @k1 @hmx @hmn @hixm) ?_;refine lm (b:=nx) (n:=a.length) (off:=mxv) (cs:=C) (vs:=[.int .i64 (mnv:Nat)]) rfl ev0 ev0 g04 rfl rfl hel rfl (by omega) ?_;rw[hpt];refine wnY @PE ?_;exact⟨(i+1,Q4.set mxv mnv,ks,vs),by dsimp only;omega,⟨by dsimp only;omega,rfl,ac,by rw[ab (by omega)];exact k1,by rw[ab (by omega),f4 _ (by omega)];exact g2,by rw[ab (by omega),f4 _ (by omega)];exact gm,hJ5,hMo2,trivial,λy hy=>by rw[ab (by omega),f4 y (by omega)];exact fr y hy⟩,ag0⟩
  ·rw[if_neg hv] at hmf;have hMn:=hM.new hv;generalize a.getD i 0=v at *;refine wnY (aI @PE @ix) ?_;refine il (b:=n1) ev0 gm ev0 rfl hmf ?_;rw[show mget (AV.int .i64 0) true none (vs.map (AV.int .i64))=.tup [.int .i64 0,.bool false] from rfl];refine wnY @PE ?_;refine oL (b:=n1) ev0 gm ev0 ev0 rfl hmf ?_;refine wnY @PE ?_;refine⟨(i+1,Q,ks++[v],vs++[(i:Int)]),by dsimp only;omega,⟨by dsimp only;omega,rfl,by rw[ab (by omega)];exact g0,by rw[ab (by omega)];exact g1,by rw[ab (by omega)];exact g2,?_,hQ,hMn,hC,λy hy=>by rw[ab (by omega)];exact fr y hy⟩,ag0⟩;rw[ac];show some [AV.omap (ks.map (AV.int .i64)++[.int .i64 v]) (vs.map (AV.int .i64)++[.int .i64 (i:Nat)])]=some [AV.omap ((ks++[v]).map (AV.int .i64)) ((vs++[((i:Nat):Int)]).map (AV.int .i64))];rw[dq,dq];rfl
 ·refine wnY (zI3 @PE @g1 @g2) ?_;refine tY ?_;refine wnY @PE ?_;have hll:b.length=a.length:=hab.symm
  refine bj (X:=Nat×List Nat×List Int×List Int) (λx=>[(0,aH a),(7,.ptr (nx+1) 1 0),(9,.func 69 [.ptr (nx+1) 1 0]),(43,.msl (nx+2) 2 1 0 2),(44,.int .i64 (2:Nat)),(45,.int .i64 ((1:Nat):Int)),(12,.mp n1),(50,aH b),(51,.int .i64 b.length),(52,.int .i64 x.1)]) (λx H n'=>x.1<=b.length/\n'=n1+1/\H nx=some (lw x.2.1)/\H (nx+1)=some [.msl nx a.length 1 0 a.length]/\H (nx+2)=some [aH a,aH b]/\H n1=some [.omap (x.2.2.1.map (AV.int .i64)) (x.2.2.2.map (AV.int .i64))]/\PJ a b x.2.1/\MI b x.1 x.2.2.1 x.2.2.2 x.2.1/\(xK a x.2.1)/\∀y,y<nx->H y=H0 y) (λx=>b.length-x.1) (0,P,[],[])
   ⟨bz _,rfl,by simp (disch:=omega) only[ab];exact g0,by simp (disch:=omega) only[ab];exact g1,by simp (disch:=omega) only[ab];exact g2,by simp (disch:=omega) only[ac];rfl,hJ,MI.nil b P,hCa (by omega),λy hy=>by simp (disch:=omega) only[ab];exact fr y hy⟩ ag0 ?_
  clear g0 g1 g2 fr;rintro⟨i,Q,ks,vs⟩ H2 n2 ⟨i1,rfl,g0,g1,g2,gm,hQ,hM,hC,fr⟩;dsimp only at i1 g0 gm hQ hM hC |-;by_cases hi:i<b.length
  rotate_left
  ·obtain rfl:i=b.length:=by omega
   refine wnY @PE ?_;refine⟨(2,Q),by dsimp only;omega,⟨by dsimp only;omega,by omega,g0,g1,g2,hQ,λ_=>hC,λh=>hM.all,fr⟩,by simp (disch:=omega) only[agr,ZG,reduceEqDiff,↓reduceIte];exact⟨trivial,trivial,trivial,trivial,trivial,rfl⟩⟩
  have ix:cA 1 (aH b) (.int .i64 (i:Int))=some (.iptr [.int .i64 (b.getD i 0)] 0):=by
   have:=mg (l:=b) (n:=(i:Int)) (by omega) (by omega)
   rwa [bQ] at this
  have hmf:=yq (b.getD i 0) ks;have hQl:=hQ.len;by_cases hv:b.getD i 0∈ks
  ·rw[if_pos hv] at hmf;obtain⟨k,hk1,hk2,hk3⟩:=hM.fst _ hv;have hgv:=nH (l:=vs) (i:=ks.idxOf (b.getD i 0)) (by rw[hM.kv];exact List.idxOf_lt_length_of_mem hv);have hMo:=λQ' h1 h2=>hM.old (Q:=Q') hv h1 h2;rw[hk2] at hgv;simp only[hk2] at hMo;have hRJ:RJ a b i k:=⟨by omega,by omega,.inr hk3.symm⟩
   generalize b.getD i 0=v at *;refine wnY (aI @PE @ix) ?_;refine il (b:=n1) ev0 gm ev0 rfl hmf ?_;rw[show mget (AV.int .i64 0) true (some (ks.idxOf v)) (vs.map (AV.int .i64))=.tup [(vs.map (AV.int .i64)).getD (ks.idxOf v) .undef,.bool true] from rfl,hgv];refine wnY @PE ?_;refine a7 ev0 ev0 (uZ Q hQ.fst i (by omega) _ _ (nx+1) nx (by rw[hQl];exact g1) g0 (by omega)) ?_;rintro _ H3 n3 ⟨rfl,rfl,Q3,hQ3,hl3,hr3,g03,fr3⟩;refine wnY @PE ?_;refine a7 ev0 ev0 (uZ Q3 hQ3 k (by omega) _ _ (nx+1) nx (by rw[hl3,hQl,fr3 _ (by omega)];exact g1) g03 (by omega)) ?_;rintro _ H4 n4 ⟨rfl,rfl,Q4,hQ4,hl4,hr4,g04,fr4⟩;have hr:∀j,rt Q4 j=rt Q j:=λj=>(hr4 j).trans (hr3 j);have f4:∀y,y≠nx->H4 y=H2 y:=λy hy=>(fr4 y hy).trans (fr3 y hy);have k1:=(f4 (nx+1) (by omega)).trans g1;have hJ4:=hQ.same hQ4 (by omega) hr;have hJ5:=hJ4.join hRJ.1 hRJ.2.1 hRJ;obtain⟨j1,j2,j3⟩:=qz hQ4 (i:=i) (k:=k) (by omega) (by omega);have hmx:=FK (rt Q4 i) (rt Q4 k);have hmn:=EM (rt Q4 i) (rt Q4 k);have l1:=rm hQ4 i;have l2:=rm hQ4 k;have hixm:=hix nx (max (rt Q4 i) (rt Q4 k)) (by omega);have hpt:=ut (P:=Q4) (k:=max (rt Q4 i) (rt Q4 k)) (by omega) (min (rt Q4 i) (rt Q4 k));have hMo2:=hMo (Q4.set (max (rt Q4 i) (rt Q4 k)) (min (rt Q4 i) (rt Q4 k))) (λx y e=>j2 x y (by rw[hr,hr];exact e)) (λk' hk'=>by rw[show k'=k by omega];exact j3);have hC2:=hC.mono (Q:=Q4.set (max (rt Q4 i) (rt Q4 k)) (min (rt Q4 i) (rt Q4 k))) (λx y e=>j2 x y (by rw[hr,hr];exact e));have hel:(lw Q4).length=a.length:=by rw[mq];omega
   rw[<-hr i,<-hr4 k];generalize hmxv:max (rt Q4 i) (rt Q4 k)=mxv at *;generalize hmnv:min (rt Q4 i) (rt Q4 k)=mnv at *;generalize rt Q4 i=rp at *;generalize rt Q4 k=rq at *;generalize lw Q4=C at *;refine wnY (zI5 @PE @k1 @hmx @hmn @hixm) ?_;refine lm (b:=nx) (n:=a.length) (off:=mxv) (cs:=C) (vs:=[.int .i64 (mnv:Nat)]) rfl ev0 ev0 g04 rfl rfl hel rfl (by omega) ?_;rw[hpt];refine wnY @PE ?_;exact⟨(i+1,Q4.set mxv mnv,ks,vs),by dsimp only;omega,⟨by dsimp only;omega,rfl,ac,by rw[ab (by omega)];exact k1,by rw[ab (by omega),f4 _ (by omega)];exact g2,by rw[ab (by omega),f4 _ (by omega)];exact gm,hJ5,hMo2,hC2,λy hy=>by rw[ab (by omega),f4 y (by omega)];exact fr y hy⟩,ag0⟩
  ·rw[if_neg hv] at hmf;have hMn:=hM.new hv;generalize b.getD i 0=v at *;refine wnY (aI @PE @ix) ?_;refine il (b:=n1) ev0 gm ev0 rfl hmf ?_;rw[show mget (AV.int .i64 0) true none (vs.map (AV.int .i64))=.tup [.int .i64 0,.bool false] from rfl];refine wnY @PE ?_;refine oL (b:=n1) ev0 gm ev0 ev0 rfl hmf ?_;refine wnY @PE ?_;refine⟨(i+1,Q,ks++[v],vs++[(i:Int)]),by dsimp only;omega,⟨by dsimp only;omega,rfl,by rw[ab (by omega)];exact g0,by rw[ab (by omega)];exact g1,by rw[ab (by omega)];exact g2,?_,hQ,hMn,hC,λy hy=>by rw[ab (by omega)];exact fr y hy⟩,ag0⟩;rw[ac];show some [AV.omap (ks.map (AV.int .i64)++[.int .i64 v]) (vs.map (AV.int .i64)++[.int .i64 (i:Nat)])]=some [AV.omap ((ks++[v]).map (AV.int .i64)) ((vs++[((i:Nat):Int)]).map (AV.int .i64))];rw[dq,dq];rfl
 ·have hiff:=λi j hi hj=>hJ.iff hab (hCa (by omega)) (hCb (by omega)) (i:=i) (j:=j) hi hj;have hPl:=hJ.len;refine wnY @PE ?_;refine l8 rfl ev0 ev0 (by omega) (by omega) (by omega) (by omega) ?_;rw[bQ,fh,Nat.mul_one];refine wnY @PE ?_;have hrl:∀i,(qi ((List.range i).map (rt P))).length=i:=λi=>by rw[o9,bD,List.length_range]
  have hrs:∀i,qi ((List.range (i+1)).map (rt P))=qi ((List.range i).map (rt P))++[((rt P i:Nat):Int)]:=λi=>by rw[List.range_succ,dq,List.map_singleton,xN]
  refine bj (X:=Nat×List Nat) (λx=>[(9,.func 69 [.ptr (nx+1) 1 0]),(19,.msl n1 a.length 1 0 a.length),(87,.int .i64 a.length),(88,.int .i64 x.1)]) (λx H n'=>x.1<=a.length/\n'=n1+1/\H nx=some (lw x.2)/\H (nx+1)=some [.msl nx a.length 1 0 a.length]/\H n1=some ((qi ((List.range x.1).map (rt P))++List.replicate (a.length-(qi ((List.range x.1).map (rt P))).length) (0:Int)).map (AV.int .i64))/\Fst x.2/\x.2.length=a.length/\(∀j,rt x.2 j=rt P j)/\∀y,y<nx->H y=H0 y) (λx=>a.length-x.1) (0,P)
   ⟨bz _,rfl,by simp (disch:=omega) only[ab];exact g0,by simp (disch:=omega) only[ab];exact g1,by simp (disch:=omega) only[ac];rfl,hJ.fst,hPl,λ_=>rfl,λy hy=>by simp (disch:=omega) only[ab];exact fr y hy⟩ (by simp (disch:=omega) only[agr,ZG,reduceEqDiff,↓reduceIte,SL]) ?_
  clear g0 g1 g2 fr;rintro⟨i,Q⟩ H2 n2 ⟨i1,rfl,g0,g1,gR,hQ,hQl,hr,fr⟩;dsimp only at i1 g0 gR hQ hQl hr |-;have hrli:=hrl i;by_cases hi:i<a.length
  ·have hpt:=yl (qi ((List.range i).map (rt P))) a.length (by omega) ((rt P i:Nat):Int);rw[<-hrs,hrli] at hpt;rw[hrli] at gR
   have hml:((qi ((List.range i).map (rt P))++List.replicate (a.length-i) (0:Int)).map (AV.int .i64)).length=a.length:=by
    rw[bD,cq,hrli,List.length_replicate];omega
   have hii:=hix n1 i hi;generalize (qi ((List.range i).map (rt P))++List.replicate (a.length-i) (0:Int)).map (AV.int .i64)=C at *;refine wnY @PE ?_;refine a7 ev0 ev0 (uZ Q hQ i (by omega) _ _ (nx+1) nx (by rw[hQl];exact g1) g0 (by omega)) ?_;rintro _ H3 n3 ⟨rfl,rfl,Q3,hQ3,hl3,hr3,g03,fr3⟩;rw[hr i];refine wnY (aI @PE @hii) ?_;refine lm (b:=n1) (n:=a.length) (off:=i) (cs:=C) (vs:=[.int .i64 (rt P i:Nat)]) rfl ev0 ev0 (by rw[fr3 _ (by omega)];exact gR) rfl rfl hml rfl (by omega) ?_;rw[hpt];refine wnY @PE ?_;exact⟨(i+1,Q3),by dsimp only;omega,⟨by dsimp only;omega,rfl,by rw[ab (by omega)];exact g03,by rw[ab (by omega),fr3 _ (by omega)];exact g1,ac,hQ3,by dsimp only;omega,λj=>(hr3 j).trans (hr j),λy hy=>by rw[ab (by omega),fr3 y (by omega)];exact fr y hy⟩,ag0⟩
  obtain rfl:i=a.length:=by omega
  rw[hrli,Nat.sub_self,List.replicate_zero,gI] at gR;have hget:∀j,j<a.length->(qi ((List.range a.length).map (rt P))).getD j 0=((rt P j:Nat):Int):=λj hj=>by simp[qi,List.getD,hj]
  have hnn:∀v∈qi ((List.range a.length).map (rt P)),0<=v:=λv hv=>by
   obtain⟨x,_,rfl⟩:=dK.1 hv;omega
  have hlb:=Fq (qi ((List.range a.length).map (rt P))) (by omega) hnn;have hci:=jF (qi ((List.range a.length).map (rt P)));generalize qi ((List.range a.length).map (rt P))=RL at *;refine jw ?_;have zz:=@PE;repeat' (first|apply a_n|refine zO ?_|refine vY ?_|fail)
  refine jw ?_;clear zz;have zz:=@PE;repeat' (first|apply a_n|apply a_x|refine zO ?_|(refine zGY ?_ ?_<;>(intro _hg;try (exfalso;omega)))|fail)
  refine jw ?_;obtain⟨Hf,H5,hfz,hsn,hs5⟩:=yo (d:=aH RL) (Row.box1 (len:=a.length) gR (by rw[bD];exact hrli)) (λH' h=>Row.snapI h);have h5:∀y,y<nx->H5 y=H2 y:=λy hy=>hs5 y (by intro h;cases h;omega)
  refine qu Hf H5 [(19,aH RL)] hfz ⟨.inr (by
   have e:∀v,v=AV.msl n1 a.length 1 0 a.length->Snap Hf v (aH RL):=λv h=>h▸hsn;exact e _ ev0),trivial⟩ ?_
  refine wnY @PE ?_;refine⟨by omega,λy hy=>(h5 y hy).trans (fr y hy),yb RL,rfl,hci.len.trans hrli,hci.pt,λi j hi hj=>?_⟩;rw[<-hiff i j hi hj];refine(hci.cls i j (by omega) (by omega)).trans ?_;rw[hget i hi,hget j hj]
  exact ⟨fun h=>by
   rcases h with rfl|h
   ·rfl
   ·omega,λh=>.inr ⟨by omega,by omega⟩⟩
end
theorem uf(n:Nat)(L:List (List Int))(e f:Nat):js n L e f=js n L f e:=by
 have h:∀e f p,ik L e f p=true->ik L f e p=true:=λe f p h=>by
  unfold ik at h |-;have:=pG h;exact bG ⟨by omega,this.2.symm⟩
 have h0:∀e f,ua n L e f=0->ua n L f e=0:=λe f he=>by
  unfold ua at he |-;rw[t6] at he |-;intro p hp;cases hb:ik L f e p with
  |false=>rfl
  |true=>have:=h _ _ _ hb;rw[he p hp] at this;cases this
 unfold js;have e1:decide (ua n L e f≠0)=decide (ua n L f e≠0):=decide_eq_decide.2 ⟨λh1 h2=>h1 (h0 _ _ h2),λh1 h2=>h1 (h0 _ _ h2)⟩;have e2:decide (e≠f)=decide (f≠e):=decide_eq_decide.2 ⟨λh=>h.symm,λh=>h.symm⟩;rw[e1,e2]
theorem BA{n:Nat}{L:List (List Int)}{e f:Nat}:js n L e f=true↔e≠f/\∃p,p<n/\ik L e f p=true:=by
 unfold js;rw[ed,gr,gr];refine⟨λ⟨h1,h2⟩=>⟨h2,?_⟩,λ⟨h1,p,h2,h3⟩=>⟨λh0=>?_,h1⟩⟩
 ·refine Classical.byContradiction λhc=>h1 ?_;unfold ua;rw[t6];intro p hp;cases hb:ik L e f p with
  |false=>rfl
  |true=>exact absurd ⟨p,hp,hb⟩ hc
 ·unfold ua at h0;rw[t6] at h0;rw[h0 p h2] at h3;cases h3
theorem JI{n:Nat}{L:List (List Int)}{e f:Nat}(h:js n L e f=true):oe n L e f<n/\ik L e f (oe n L e f)=true:=by
 obtain⟨_,p,hp,hb⟩:=BA.1 h;unfold oe HK;cases hf:(List.range n).find? (ik L e f) with
 |none=>
  have:=List.find?_eq_none.1 hf p (gG.2 hp);exact absurd hb this
 |some q=>exact⟨gG.1 (List.mem_of_find?_eq_some hf),List.find?_some hf⟩
structure WkOk(n:Nat)(L:List (List Int))(s:List Int)(a e:Nat)(w:List Vtx):Prop where
 pos:0<w.length
 hd:(w.getD 0 default).color=(a:Nat)
 lst:(w.getD (w.length-1) default).color=(e:Nat)
 cnt:(w.length:Int)=sg s a-sg s e+1
 stp:∀i,i+1<w.length->∃x y:Nat,x<L.length/\y<L.length/\(w.getD i default).color=(x:Nat)/\w.getD (i+1) default=⟨(y:Nat),(oe n L x y:Nat)⟩/\js n L x y=true
theorem WkOk.start(n:Nat)(L:List (List Int))(s:List Int)(a:Nat):WkOk n L s a a [⟨(a:Nat),-1⟩]:=
 ⟨Nat.zero_lt_one,rfl,rfl,by show(1:Int)=_;omega,λi h=>absurd h (by simp)⟩
theorem WkOk.snoc{n:Nat}{L:List (List Int)}{s:List Int}{a e e':Nat}{w:List Vtx}(h:WkOk n L s a e w)(he:e<L.length)(he':e'<L.length)(ha:js n L e e'=true)(hs:sg s e'=sg s e-1):WkOk n L s a e' (w++[⟨(e':Nat),(oe n L e e':Nat)⟩]):=by
 obtain⟨h1,h2,h3,h4,h5⟩:=h;have hl:(w++[(⟨(e':Nat),(oe n L e e':Nat)⟩:Vtx)]).length=w.length+1:=by simp
 have hlo:∀i,i<w.length->(w++[(⟨(e':Nat),(oe n L e e':Nat)⟩:Vtx)]).getD i default=w.getD i default:=λi hi=>by
  simp only[ml];rw[gy hi]
 have hla:(w++[(⟨(e':Nat),(oe n L e e':Nat)⟩:Vtx)]).getD w.length default=⟨(e':Nat),(oe n L e e':Nat)⟩:=by
  simp only[ml];rw[ie (aZ _),Nat.sub_self];rfl
 refine⟨by omega,by rw[hlo 0 h1];exact h2,by rw[hl,uC,hla],by rw[hl];omega,λi hi=>?_⟩;rw[hl] at hi;by_cases e1:i+1<w.length
 ·obtain⟨x,y,q1,q2,q3,q4,q5⟩:=h5 i e1;exact⟨x,y,q1,q2,by rw[hlo i (by omega)];exact q3,by rw[hlo (i+1) e1];exact q4,q5⟩
 ·have e2:i+1=w.length:=by omega
  refine⟨e,e',he,he',?_,?_,ha⟩
  ·rw[hlo i (by omega),show i=w.length-1 by omega];exact h3
  ·rw[e2];exact hla
def dw(p:PrbV):List (List Int):=(bw p).execs.map gH
theorem kV(p:PrbV):(dw p).length=(bw p).execs.length:=bD _
theorem uz{p:PrbV}(h:OkP p):∀l∈dw p,l.length=p.task.n.toNat:=λl hl=>by
 obtain⟨x,hx,rfl⟩:=dK.1 hl;have:=((jv p h).2.2.2 x hx).last.1;unfold gH;rw[ng];exact this
def LkP(L:List (List Int))(q i j:Nat):Prop:=i<L.length/\j<L.length/\∃p,p<q/\ik L i j p=true
theorem LkP.symm (L:List (List Int)) (q:Nat):∀ i j,LkP L q i j→LkP L q j i:=fun i j ⟨h1,h2,p,h3,h4⟩=>⟨h2,h1,p,h3,by
 unfold ik at h4 |-;have:=pG h4;exact bG ⟨by omega,this.2.symm⟩⟩
theorem CA{L:List (List Int)}{p i:Nat}(h:i<L.length):(col L p).getD i 0=(L.getD i []).getD p 0:=by simp[col,List.getD,h]
theorem sT(L:List (List Int))(p:Nat):(col L p).length=L.length:=bD _
theorem sR{L:List (List Int)}{p i j:Nat}(hi:i<L.length)(hj:j<L.length):(yb (col L p)).getD i 0=(yb (col L p)).getD j 0↔i=j\/ik L i j p=true:=by
 refine((jF (col L p)).cls i j (by rw[sT];exact hi) (by rw[sT];exact hj)).trans ?_;rw[CA hi,CA hj];unfold ik;rw[gr]
def PL(L:List (List Int))(q:Nat)(l:List Int):Prop:=l.length=L.length/\Pt l/\∀i j,i<L.length->j<L.length->(l.getD i 0=l.getD j 0↔Cn (LkP L q) i j)
theorem PL.one(L:List (List Int)):PL L 1 (yb (col L 0)):=by
 refine⟨(jF _).len.trans (sT L 0),(jF _).pt,λi j hi hj=>⟨λh=>?_,λh=>?_⟩⟩
 ·rcases(sR hi hj).1 h with rfl|h
  ·exact .refl _
  ·exact .one ⟨hi,hj,0,by omega,h⟩
 ·clear hi hj
  induction h with
  |refl=>rfl
  |step h _ ih=>
   obtain⟨h1,h2,p,h3,h4⟩:=h;obtain rfl:p=0:=by omega
   rw[<-ih];exact(sR h1 h2).2 (.inr h4)
theorem PL.succ{L:List (List Int)}{q:Nat}{o l:List Int}(h:PL L q o)(hl:l.length=o.length)(hp:Pt l)(hi:∀i j,i<o.length->j<o.length->(l.getD i 0=l.getD j 0↔Cn (RJ o (yb (col L q))) i j)):PL L (q+1) l:=by
 obtain⟨h1,h2,h3⟩:=h;refine⟨hl.trans h1,hp,λi j i1 j1=>(hi i j (by omega) (by omega)).trans ⟨λh=>h.mono λi j ⟨r1,r2,r3⟩=>?_,λh=>h.mono λi j ⟨r1,r2,p,r3,r4⟩=>?_⟩⟩
 ·rcases r3 with r3|r3
  ·exact((h3 i j (by omega) (by omega)).1 r3).mono λi j ⟨a1,a2,p,a3,a4⟩=>.one ⟨a1,a2,p,by omega,a4⟩
  ·rcases(sR (by omega) (by omega)).1 r3 with rfl|r3
   ·exact .refl _
   ·exact .one ⟨by omega,by omega,q,by omega,r3⟩
 ·by_cases e:p<q
  ·exact .one ⟨by omega,by omega,.inl ((h3 i j r1 r2).2 (.one ⟨r1,r2,p,e,r4⟩))⟩
  ·obtain rfl:p=q:=by omega
   exact .one ⟨by omega,by omega,.inr ((sR r1 r2).2 (.inr r4))⟩
section
attribute [local irreducible] aE ai be aP aJ aK ay aL aR bn Go.Abs.Fn aO Go.Abs.Pure ak aD Yl
theorem Cr(n:Int)(L:List (List Int))(e:Nat)(he:e<L.length):pU 53 [.iptr [.int .i64 n,bi L] 0,.int .i64 e] (.bool true):=by
 refine pO Py ?_;simp only[b53,aw];have z1:decide ((e:Int)≥0)=true:=bG (by omega);have z2:decide ((e:Int)<(L.length:Nat))=true:=bG (by omega);refine wnY (zI5 @PE @SV3 @NKI @z1 @z2) ?_;exact .bool _
theorem BQ(p:PrbV)(h:OkP p)(e f:Nat)(he:e<(dw p).length)(hf:f<(dw p).length)(H0:Hp)(nx b:Nat)(hb:H0 b=some [.int .i64 e,.int .i64 f])(hbn:b<nx):
    Abs.Fn Tryz.prog 27 [fq (bw p),.msl b 2 1 0 2] H0 nx λr H' nx'=>r=.tup [.iptr [.int .i64 p.task.n,bi (dw p)] 0,.int .i64 0]/\nx<=nx'/\∀y,y<nx->H' y=H0 y:=by
 refine fO Om ?_;simp only[b27,aw];have ho:=IZ p h;have hd:=ea (bw p);have hte:=Cr p.task.n (dw p) e he;have htf:=Cr p.task.n (dw p) f hf;rw[show(bw p).execs.map gH=dw p from rfl] at ho;rw[show fq (bw p)=.agg (bw p).cs from rfl,PC.2.2.2.2.2.2.2] at ho hd |-;generalize dw p=L at *;refine wnY @PE ?_;refine bj (X:=Nat) (λk=>[(6,.iptr [.int .i64 p.task.n,bi L] 0),(18,.msl b 2 1 0 2),(19,.int .i64 (2:Nat)),(20,.int .i64 k)]) (λk H n'=>k<=2/\nx<=n'/\H b=some [.int .i64 e,.int .i64 f]/\∀y,y<nx->H y=H0 y) (λk=>2-k) 0 ⟨bz _,by omega,by simp (disch:=omega) only[ab];exact hb,λy hy=>by simp (disch:=omega) only[ab]⟩ ag0 ?_;rintro k H1 n1 ⟨k1,k2,k3,k4⟩;rcases(by omega:k=0\/k=1\/k=2) with rfl|rfl|rfl
 ·refine wnY (aI @PE @k3) ?_;exact⟨1,by omega,⟨by omega,k2,k3,k4⟩,by simp (disch:=omega) only[agr,ZG,reduceEqDiff,↓reduceIte];exact⟨trivial,trivial,trivial,rfl⟩⟩
 ·refine wnY (aI @PE @k3) ?_;exact⟨2,by omega,⟨by omega,k2,k3,k4⟩,by simp (disch:=omega) only[agr,ZG,reduceEqDiff,↓reduceIte];exact⟨trivial,trivial,trivial,rfl⟩⟩
 ·refine wnY (aI @PE @k3) ?_;exact⟨rfl,k2,k4⟩
theorem xL(p:PrbV)(h:OkP p)(H0:Hp)(nx:Nat):
    Abs.Fn Tryz.prog 15 [fq (bw p)] H0 nx λr H' nx'=>nx<=nx'/\(∀y,y<nx->H' y=H0 y)/\∃l,r=.tup [aH l,.int .i64 0]/\PL (dw p) p.task.n.toNat l:=by
 refine fO O1 ?_;simp only[b15,aw];have ho:=IZ p h;have hN:=uz h;obtain⟨hck,-,-,-,r6⟩:=eJ h.e0;obtain⟨n1,n5,-,-⟩:=dg hck;have hL60:(dw p).length<=60:=by rw[kV];exact(jv p h).2.1
 have hd:=ea (bw p);rw[show(bw p).execs.map gH=dw p from rfl] at ho;rw[show fq (bw p)=.agg (bw p).cs from rfl,PC.2.2.2.2.2.2.2] at ho hd |-;generalize dw p=L at *;have hc0:=wa p.task.n L 0 (by omega) (λl hl=>by have:=hN l hl;omega);refine wnY @PE ?_;refine bj (X:=Nat×List Int) (λx=>[(4,.iptr [.int .i64 p.task.n,bi L] 0),(6,aH x.2),(7,.int .i64 x.1)]) (λx H n'=>1<=x.1/\(x.1:Int)<=p.task.n/\nx<=n'/\PL L x.1 x.2/\∀y,y<nx->H y=H0 y) (λx=>p.task.n.toNat-x.1) (1,yb (col L 0)) ⟨aZ _,n1,by omega,PL.one L,λy hy=>by simp (disch:=omega) only[ab]⟩ ag0 ?_;rintro⟨q,o⟩ H1 m1 ⟨q1,q2,hm,hP,fr⟩;dsimp only at q1 q2 hP |-;by_cases hq:(q:Int)<p.task.n
 rotate_left
 ·have z:decide ((q:Int)<p.task.n)=false:=bK hq;refine wnY (zI4 @PE @SV3 @NKI @z) ?_;refine⟨hm,fr,o,rfl,?_⟩;rw[show p.task.n.toNat=q by omega];exact hP
 have z:decide ((q:Int)<p.task.n)=true:=bG hq;have hcq:=wa p.task.n L q (by omega) (λl hl=>by have:=hN l hl;omega);have hcl:=(jF (col L q)).len;rw[sT] at hcl;have hj:=J9 o (yb (col L q)) (by have:=hP.1;omega) (hP.1.trans hcl.symm) hP.2.1 (jF (col L q)).pt;refine wnY (zI4 @PE @SV3 @NKI @z) ?_;refine a7 ev0 ev0 (hj _ _) ?_;rintro _ H2 m2 ⟨hm2,fr2,l,rfl,hl1,hl2,hl3⟩;refine wnY (zI3 @PE @SV3 @NKI) ?_;exact⟨(q+1,l),by dsimp only;omega,⟨by dsimp only;omega,by dsimp only;omega,by omega,hP.succ hl1 hl2 hl3,λy hy=>(fr2 y (by omega)).trans (fr y hy)⟩,ag0⟩
theorem Bq(p:PrbV)(h:OkP p)(a f:Nat)(ha:a<(dw p).length)(hf:f<(dw p).length)(H0:Hp)(nx:Nat):
    Abs.Fn Tryz.prog 23 [fq (bw p),.int .i64 a,.int .i64 f] H0 nx λr H' nx'=>nx<=nx'/\(∀y,y<nx->H' y=H0 y)/\∃s,Lab (dw p).length (js p.task.n.toNat (dw p)) f s/\∃d,r=.tup [.int .i64 d,.bool (decide (sg s a≥0)),.int .i64 0]/\(0<=sg s a->d=sg s a):=by
 refine fO Pn ?_;simp only[b23,aw];have hsc:=BQ p h a f ha hf;have hN:=uz h;obtain⟨hck,-,-,-,r6⟩:=eJ h.e0;obtain⟨n1,n5,-,-⟩:=dg hck;have hNn:((p.task.n.toNat:Nat):Int)=p.task.n:=by omega
 have hL60:(dw p).length<=60:=by rw[kV];exact(jv p h).2.1
 have hd:=ea (bw p);rw[show fq (bw p)=.agg (bw p).cs from rfl,PC.2.2.2.2.2.2.2] at hsc hd |-;rw[<-hNn] at hsc;generalize dw p=L at *;generalize p.task.n.toNat=N at *;have hds:=rn N (by omega) L hN f hf (by omega);refine wnY @PE ?_;refine a7 ev0 ev0 (hsc _ _ (nx+1) (by simp (disch:=omega) only[ac]) (by omega)) ?_;rintro _ H1 m1 ⟨rfl,hm1,fr1⟩;refine wnY @PE ?_;refine a7 ev0 ev0 (hds _ _) ?_;rintro _ H2 m2 ⟨s,bF,hlab,hge,rfl,hrow,hb1,hb2,fr2⟩;have fr:∀y,y<nx->H2 y=H0 y:=λy hy=>by rw[fr2 _ (by omega),fr1 _ (by omega)];simp (disch:=omega) only[ab]
 have hia:=oZ (b:=bF) (m:=L.length) ha;have hsl:=hlab.len;have hca:=kA (s:=s) (k:=a) (by omega);have hml:(s.map (AV.int .i64)).length=L.length:=by rw[bD];exact hsl
 clear fr1 fr2 hds hsc;have hmx:ma (.int .i64 (sg s a)) (.int .i64 0)=some (.int .i64 (if sg s a<0 then 0 else sg s a)):=rfl;generalize hC:s.map (AV.int .i64)=C at *;refine wnY (zI5 @PE @hia @hrow @hca @hmx) ?_;exact⟨by omega,fr,s,hlab,_,rfl,λh=>if_neg (by omega)⟩
end
end Go.Proofs.YtmpcledaoigkaaaGreat
namespace Go.Proofs.YtmpcledaoigkaaaGreat
open Go Go.Abs
open Nat (reduceEqDiff reduceAdd reduceLeDiff)
def px(c:List Spx)(k:Nat):List Spx:=kG dy (c.flatMap λs=>dS s k)
theorem DA{c:List Spx}{k i:Nat}(hi:i<c.length):(c.take (i+1)).flatMap (λs=>dS s k)=(c.take i).flatMap (λs=>dS s k)++dS (c.getD i default) k:=by
 rw[cu hi,List.flatMap_append];simp
theorem pp{k:Nat}:∀{c:List Spx},(∀s∈c,s.length<=8)->(c.flatMap λs=>dS s k).length<=70*c.length
 |[],_=>by simp
 |s::c,h=>by
  rw[lJ,cq,dJ];have:=B7 (l:=s) (k:=k) (h s ju);have:=pp (k:=k) (c:=c) (λt ht=>h t (qq _ ht));omega
theorem uo{c:List Spx}{k:Nat}{s:Spx}:s∈c.flatMap (λs=>dS s k)↔ ∃t∈c,s∈dS t k:=by rw[List.mem_flatMap]
def jf:Nat->Spx->List Int
 |0,_=>[]
 |n+1,[]=>(-1)::0::jf n []
 |n+1,v::l=>v.color::v.label::jf n l
theorem qh:∀{n:Nat}{s:Spx},(jf n s).length=2*n
 |0,_=>rfl
 |n+1,[]=>by show(jf n []).length+1+1=_;rw[qh];omega
 |n+1,v::l=>by show(jf n l).length+1+1=_;rw[qh];omega
theorem yK:∀{n:Nat}{s t:Spx},s.length<=n->t.length<=n->(∀v∈s,0<=v.color)->(∀v∈t,0<=v.color)->jf n s=jf n t->s=t
 |0,[],[],_,_,_,_,_=>rfl
 |0,_::_,_,h,_,_,_,_=>absurd h (by simp)
 |0,[],_::_,_,h,_,_,_=>absurd h (by simp)
 |n+1,[],[],_,_,_,_,_=>rfl
 |n+1,[],w::m,_,_,_,h2,e=>by
  have:(-1:Int)=w.color:=(List.cons.inj e).1;have:=h2 w ju;omega
 |n+1,v::l,[],_,_,h1,_,e=>by
  have:v.color=(-1:Int):=(List.cons.inj e).1;have:=h1 v ju;omega
 |n+1,v::l,w::m,hl,hm,h1,h2,e=>by
  obtain⟨e1,e2⟩:=List.cons.inj e;obtain⟨e2,e3⟩:=List.cons.inj e2;have:=yK (n:=n) (by simp at hl;omega) (by simp at hm;omega) (λx hx=>h1 x (qq _ hx)) (λx hx=>h2 x (qq _ hx)) e3;rw[this,sK.2 ⟨e1,e2⟩]
def GG(x:List Int):AV:=.agg (x.map (AV.int .i64))
theorem Ez (x:List Int):Dat (GG x):=Dat.agg (by
 induction x with
 |nil=>exact DatL.nil
 |cons a l ih=>exact DatL.cons .int ih)
theorem BZ:∀{n:Nat}{s:Spx},s.length<=n->cX s++((jf n []).map (AV.int .i64)).drop (s.length*2)=(jf n s).map (AV.int .i64)
 |n,[],_=>by simp[cX]
 |0,_::_,h=>absurd h (by simp)
 |n+1,v::l,h=>by
  have:=BZ (n:=n) (s:=l) (by simp at h;omega);show [AV.int .i64 v.color,AV.int .i64 v.label]++cX l++_=AV.int .i64 v.color::AV.int .i64 v.label::(jf n l).map (AV.int .i64);rw[<-this,dJ,show(l.length+1)*2=l.length*2+1+1 by omega];rfl
def kc(k:Nat):List AV:=(jf k []++List.replicate (2*(8-k)) 0).map (AV.int .i64)
def K16:Type:={x:List Int // x.length=16}
instance:DecidableEq K16:=inferInstanceAs (DecidableEq {x:List Int // x.length=16})
def kK(s:Spx):K16:=⟨jf 8 s,by rw[qh]⟩
def eK(x:K16):AV:=GG x.1
theorem tA:∀{n:Nat}{xs ys:List Int},xs.length=n->ys.length=n->cT (List.replicate n .int) (xs.map (AV.int .i64)) (ys.map (AV.int .i64))=some (decide (xs=ys))
 |0,[],[],_,_=>rfl
 |0,_::_,_,h,_=>absurd h (by simp)
 |0,[],_::_,_,h=>absurd h (by simp)
 |n+1,[],_,h,_=>absurd h (by simp)
 |n+1,_::_,[],_,h=>absurd h (by simp)
 |n+1,x::xs,y::ys,h1,h2=>by
  have ih:=tA (n:=n) (xs:=xs) (ys:=ys) (by simpa using h1) (by simpa using h2);have e:(x==y)=decide (x=y):=rfl;rw[List.replicate_succ,gu,gu];by_cases hxy:x=y
  ·subst hxy;simp only[cT,jB,if_true,e,decide_true,ih];simp
  ·simp only[cT,jB,if_true,e,bK hxy];simp[hxy]
theorem Jp(a b:K16):nf (.st [.int,.int,.int,.int,.int,.int,.int,.int,.int,.int,.int,.int,.int,.int,.int,.int]) (eK a) (eK b)=some (decide (a=b)):=by
 show cT (List.replicate 16 .int) (a.1.map (AV.int .i64)) (b.1.map (AV.int .i64))=_;rw[tA a.2 b.2]
 congr 1
 exact decide_eq_decide.2 ⟨Subtype.ext,λh=>congrArg Subtype.val h⟩
theorem KS(v:K16)(ks:List K16):eF (.st [.int,.int,.int,.int,.int,.int,.int,.int,.int,.int,.int,.int,.int,.int,.int,.int]) (eK v) (ks.map eK)=some (if v∈ks then some (ks.idxOf v) else none):=k9 _ eK Jp v ks
theorem F5(v:K16):oq (.st [.int,.int,.int,.int,.int,.int,.int,.int,.int,.int,.int,.int,.int,.int,.int,.int]) (eK v)=true:=by
 show(16==(v.1.map (AV.int .i64)).length)=true;rw[bD,v.2];rfl
def mV(s:Spx):Prop:=1<=s.length/\s.length<=8/\∀v∈s,0<=v.color
theorem JQ{s t:Spx}(hs:mV s)(ht:mV t)(h:kK s=kK t):s=t:=yK hs.2.1 ht.2.1 hs.2.2 ht.2.2 (congrArg Subtype.val h)
theorem JE{O:List Spx}{f:Spx}(hO:∀s∈O,mV s)(hf:mV f):kK f∈O.map kK↔f∈O:=by
 rw[dK];exact⟨λ⟨s,h1,h2⟩=>by rw[<-JQ (hO s h1) hf h2];exact h1,λh=>⟨f,h,rfl⟩⟩
theorem Hx{s:Spx}(h:eu s=0):mV s:=by
 obtain⟨p1,p2,p3,p4⟩:=i5 h;refine⟨p1,p2,λv hv=>?_⟩;have:=p4 v hv;unfold i7 at this;simp only[ed,gr] at this;exact this.1.1
theorem FQ{s t:Spx}{k:Nat}(hs:mV s)(hk:1<=k)(h:t∈dS s k):mV t:=by
 obtain⟨h1,h2⟩:=nA.1 h;exact⟨by omega,gf h1.length_le hs.2.1,λv hv=>hs.2.2 v (h1.subset hv)⟩
theorem Am{O L P:List Spx}(hp:L.Perm O)(hs:bA dy 0 L.length L)(hn:O.Nodup)(hm:∀s,s∈O↔s∈P):L=kG dy P:=by
 refine wW BD ?_ (tO BD P) λs=>by rw[hp.mem_iff,hm,pW]
 unfold fM;rw[Dn];intro i j hi hj hij;have h1:=hs i j (bz _) hij hj;rw[show L.getD i default=L[i] by simp[List.getD,hi],show L.getD j default=L[j] by simp[List.getD,hj]] at h1;rcases BD.tri L[i] L[j] with h|h|h
 ·exact h
 ·have:=(List.nodup_iff_pairwise_ne.1 (hp.nodup_iff.2 hn))
  exact absurd h ((Dn.1 this) i j hi hj hij)
 ·exact absurd h h1
def y2(l:List Nat):List Int:=l.map λ(n:Nat)=>(n:Int)
structure MatOk(H:Hp)(b lo hi n:Nat)(F:Nat->List Nat)(vs:List AV):Prop where
 box:H b=some vs
 len:vs.length=n
 row:∀j,j<n->Row H 1 (vs.getD j .undef) ((F j).map Dm)
 bnd:∀j B,j<n->bd (vs.getD j .undef)=some B->lo<=B/\B<hi/\B≠b
 apart:∀i j B,i<n->j<n->i≠j->bd (vs.getD i .undef)=some B->bd (vs.getD j .undef)≠some B
theorem MatOk.same{H H':Hp}{b lo hi hi' n:Nat}{F G:Nat->List Nat}{vs:List AV}(h:MatOk H b lo hi n F vs)(hb:H' b=H b)(hs:∀x,lo<=x->x<hi->x≠b->H' x=H x)(hh:hi<=hi')(hG:∀j,j<n->G j=F j):MatOk H' b lo hi' n G vs:=
 ⟨hb.trans h.box,h.len,λj hj=>by rw[hG j hj];exact(h.row j hj).same λB hB=>by have:=h.bnd j B hj hB;exact hs B this.1 this.2.1 this.2.2,λj B hj hB=>by have:=h.bnd j B hj hB;exact⟨this.1,by omega,this.2.2⟩,h.apart⟩
theorem MatOk.put{H H':Hp}{b lo hi hi' n i x:Nat}{F G:Nat->List Nat}{vs:List AV}{sv:AV}(h:MatOk H b lo hi n F vs)(hin:i<n)(hG:∀j,j<n->G j=if j=i then F j++[x] else F j)(hrow:Row H' 1 sv ((F i++[x]).map Dm))(hB:∀B,bd sv=some B->bd (vs.getD i .undef)=some B\/hi<=B/\B<hi'/\B≠b)(hb:H' b=some (vs.set i sv))
    (hs:∀x,lo<=x->x<hi->x≠b->bd (vs.getD i .undef)≠some x->H' x=H x) (hh:hi<=hi') (hlo:lo<=hi):MatOk H' b lo hi' n G (vs.set i sv):=by
 have hl:=h.len;have hg:∀j,(vs.set i sv).getD j .undef=if i=j then sv else vs.getD j .undef:=λj=>wT (by omega)
 refine⟨hb,by simp[hl],λj hj=>?_,λj B hj=>?_,λp q B hp hq hpq=>?_⟩
 ·rw[hg,hG j hj];by_cases e:i=j
  ·rw[if_pos e,if_pos e.symm,<-e];exact hrow
  ·rw[if_neg e,if_neg (λh=>e h.symm)]
   exact(h.row j hj).same λB hB'=>by
    have:=h.bnd j B hj hB';exact hs B this.1 this.2.1 this.2.2 λh'=>h.apart i j B hin hj e h' hB'
 ·rw[hg];by_cases e:i=j
  ·rw[if_pos e];intro hB';rcases hB B hB' with h'|h'
   ·have:=h.bnd _ B hin h';exact⟨this.1,by omega,this.2.2⟩
   ·exact⟨by omega,h'.2⟩
  ·rw[if_neg e];intro hB';have:=h.bnd j B hj hB';exact⟨this.1,by omega,this.2.2⟩
 ·rw[hg,hg];by_cases e1:i=p
  ·rw[if_pos e1,if_neg (by omega)];intro h1 h2;rcases hB B h1 with h'|h'
   ·exact h.apart i q B hin hq (by omega) h' h2
   ·have:=h.bnd q B hq h2;omega
  ·rw[if_neg e1];by_cases e2:i=q
   ·rw[if_pos e2];intro h1 h2;rcases hB B h2 with h'|h'
    ·exact h.apart p i B hp hin (by omega) h1 h'
    ·have:=h.bnd p B hp h1;omega
   ·rw[if_neg e2];exact h.apart p q B hp hq hpq
theorem MatOk.snap{H:Hp}{b lo hi n:Nat}{F:Nat->List Nat}{vs:List AV}(h:MatOk H b lo hi n F vs):Snap H (.msl b n 1 0 n) (bi ((List.range n).map λi=>y2 (F i))):=by
 refine mN (l:=((List.range n).map λi=>y2 (F i)).map aH) h.box h.len (by omega) (by simp) (λy hy=>?_) (λi a c ha hc=>?_)
 ·obtain⟨z,_,rfl⟩:=dK.1 hy;rfl
 ·have hin:i<n:=by
    have:=(bU.1 hc).1;simpa using this
  have hr:=h.row i hin;rw[cp] at ha;have e1:vs.getD i .undef=a:=by rw[ml,ha];rfl
  rw[e1] at hr
  have e2:c=aH (y2 (F i)):=by
   rw[jQ,jQ,List.getElem?_range hin] at hc;simpa using hc.symm
  rw[e2];exact zB hr
theorem MatOk.new{H:Hp}{b lo hi n:Nat}{F:Nat->List Nat}(hb:H b=some (List.replicate n .esl))(hF:∀j,j<n->F j=[]):MatOk H b lo hi n F (List.replicate n .esl):=by
 have hg:∀j,j<n->(List.replicate n AV.esl).getD j .undef=.esl:=λj hj=>by simp[List.getD,List.getElem?_replicate,hj]
 refine⟨hb,by simp,λj hj=>?_,λj B hj h=>?_,λi j B hi hj _ h=>?_⟩
 ·rw[hg j hj,hF j hj];exact Row.nil
 ·rw[hg j hj] at h;cases h
 ·rw[hg i hi] at h;cases h
theorem yG{c:List Spx}{k:Nat}(h:c.length<=50)(h8:∀s∈c,s.length<=8):(px c k).length<=3500:=gf zt (gf (pp h8) (by omega))
def mj:List Int->List Int->List Int
 |[],b=>b
 |x::a,[]=>x::a
 |x::a,y::b=>if x<y then x::mj a (y::b) else if y<x then y::mj (x::a) b else mj a b
termination_by a b=>a.length+b.length
theorem Kp{b:List Int}:mj [] b=b:=by rw[mj]
theorem Jz{a:List Int}:mj a []=a:=by cases a<;>rw[mj]
theorem KE{x y:Int}{a b:List Int}:mj (x::a) (y::b)=if x<y then x::mj a (y::b) else if y<x then y::mj (x::a) b else mj a b:=by rw[mj]
def pM(l:List Int):Prop:=l.Pairwise (· < ·)
theorem qk:∀(n:Nat)(a b:List Int),a.length+b.length<=n->pM a->pM b->pM (mj a b)/\∀z,z∈mj a b↔(z∈a/\z∉b)\/(z∈b/\z∉a)
 |_,[],b,_,_,hb=>by rw[Kp];exact⟨hb,λz=>by simp⟩
 |_,x::a,[],_,ha,_=>by rw[Jz];exact⟨ha,λz=>by simp⟩
 |0,x::a,y::b,h,_,_=>by simp only[dJ] at h;omega
 |n+1,x::a,y::b,h,ha,hb=>by
  simp only[dJ] at h;obtain⟨a1,a2⟩:=qG.1 ha;obtain⟨b1,b2⟩:=qG.1 hb;rw[KE];by_cases g1:x<y
  ·rw[if_pos g1];obtain⟨h1,h2⟩:=qk n a (y::b) (by simp only[dJ];omega) a2 hb
   have hxb:∀z∈y::b,x<z:=λz hz=>by
    rcases gg.1 hz with rfl|hz
    ·exact g1
    ·have:=b1 z hz;omega
   refine⟨qG.2 ⟨λz hz=>?_,h1⟩,λz=>?_⟩
   ·rcases(h2 z).1 hz with⟨q,_⟩|⟨q,_⟩
    ·exact a1 z q
    ·exact hxb z q
   ·rw[gg,h2,gg (a:=z) (b:=x)];by_cases hz:z=x
    ·subst hz;have:z∉y::b:=λq=>by have:=hxb z q;omega
     simp[this]
    ·simp[hz]
  rw[if_neg g1];by_cases g2:y<x
  ·rw[if_pos g2];obtain⟨h1,h2⟩:=qk n (x::a) b (by simp only[dJ];omega) ha b2
   have hya:∀z∈x::a,y<z:=λz hz=>by
    rcases gg.1 hz with rfl|hz
    ·exact g2
    ·have:=a1 z hz;omega
   refine⟨qG.2 ⟨λz hz=>?_,h1⟩,λz=>?_⟩
   ·rcases(h2 z).1 hz with⟨q,_⟩|⟨q,_⟩
    ·exact hya z q
    ·exact b1 z q
   ·rw[gg,h2,gg (a:=z) (b:=y)];by_cases hz:z=y
    ·subst hz;have:z∉x::a:=λq=>by have:=hya z q;omega
     simp[this]
    ·simp[hz]
  rw[if_neg g2];obtain rfl:x=y:=by omega
  obtain⟨h1,h2⟩:=qk n a b (by omega) a2 b2;refine⟨h1,λz=>?_⟩;rw[h2];by_cases hz:z=x
  ·subst hz;have q1:z∉a:=λq=>by have:=a1 z q;omega
   have q2:z∉b:=λq=>by have:=b1 z q;omega
   simp[q1,q2]
  ·simp[hz]
def bit(z:Int)(a:List Int):Nat:=if z∈a then 1 else 0
theorem Ko{z:Int}{a:List Int}:bit z a<2:=by unfold bit;split<;>omega
theorem Cp{z:Int}{a:List Int}:bit z a=1↔z∈a:=by unfold bit;split<;>simp[*]
def ld(r:List Int):Int:=r.getD 0 0
theorem JP{v:List Int}(h:v≠[]):ld v∈v:=by
 cases v with
 |nil=>exact absurd rfl h
 |cons x l=>exact ju ..
inductive Sp(R:List (List Int)):List Int->Prop
 |nil:Sp R []
 |add {v r:List Int}:Sp R v->r∈R->Sp R (mj v r)
def y6(z:Int)(p:List Int->Bool):List (List Int)->Nat
 |[]=>0
 |r::E=>(if p r=true then bit z r else 0)+y6 z p E
theorem zg{z:Int}{p:List Int->Bool}:∀{E:List (List Int)},y6 z p E≠0->∃q∈E,p q=true/\z∈q
 |[],h=>absurd rfl h
 |r::E,h=>by
  unfold y6 at h;by_cases h1:p r=true/\z∈r
  ·exact⟨r,ju ..,h1⟩
  ·have:y6 z p E≠0:=λe=>by
     rw[e] at h;by_cases h2:p r=true
     ·rw[if_pos h2] at h;have:bit z r=1:=by have:=Ko (z:=z) (a:=r);omega
      exact h1 ⟨h2,Cp.1 this⟩
     ·rw[if_neg h2] at h;exact h rfl
   obtain⟨q,q1,q2⟩:=zg this;exact⟨q,qq _ q1,q2⟩
theorem DN{z:Int}{p:List Int->Bool}{E:List (List Int)}(h:∀q∈E,p q=true->z∉q):y6 z p E=0:=
 Decidable.byContradiction λe=>by
  obtain⟨q,q1,q2,q3⟩:=zg e;exact h q q1 q2 q3
theorem zp{z:Int}{p:List Int->Bool}{r:List Int}:∀{E:List (List Int)},E.Nodup->r∈E->z∈r->(∀q∈E,z∈q->q=r)->y6 z p E=if p r=true then 1 else 0
 |[],_,h,_,_=>by cases h
 |q::E,hn,h,hz,ho=>by
  obtain⟨n1,n2⟩:=List.nodup_cons.1 hn;unfold y6;by_cases e:q=r
  ·subst e;rw[DN (λx hx _ hzx=>n1 (ho x (qq _ hx) hzx▸hx)),Cp.2 hz,sj]
  ·have h2:r∈E:=(gg.1 h).resolve_left λx=>e x.symm;have hq:z∉q:=λx=>e (ho q (ju ..) x);rw[zp n2 h2 hz λx hx=>ho x (qq _ hx),show bit z q=0 by unfold bit;rw[if_neg hq]];simp
structure Red(E:List (List Int)):Prop where
 asc:∀r∈E,pM r
 ne:∀r∈E,r≠[]
 own:∀r∈E,∀q∈E,ld r∈q->q=r
 ord:E.Pairwise λr q=>ld r<ld q
theorem Red.nodup{E:List (List Int)}(h:Red E):E.Nodup:=List.Pairwise.imp (λ{x y}(q:ld x<ld y) e=>by rw[e] at q;omega) h.ord
theorem Red.cnt{E:List (List Int)}(h:Red E){p:List Int->Bool}{r:List Int}(hr:r∈E):y6 (ld r) p E=if p r=true then 1 else 0:=
 zp h.nodup hr (JP (h.ne r hr)) λq hq hz=>h.own r hr q hq hz
abbrev Ln:=List Int×List Int
structure RedU(M:List Ln):Prop where
 asc:∀l∈M,pM l.1/\pM l.2
 ne:∀l∈M,l.1≠[]
 own:∀l∈M,∀m∈M,ld l.1∈m.1->m=l
 nodup:M.Nodup
def KT(x l:Ln):Ln:=(mj x.1 l.1,mj x.2 l.2)
def CN(x:Ln):Prop:=pM x.1/\pM x.2
theorem yF{a b:List Int}{z:Int}(ha:pM a)(hb:pM b):z∈mj a b↔(z∈a/\z∉b)\/(z∈b/\z∉a):=(qk _ a b (aZ _) ha hb).2 z
def NU(g:Int->Nat):List Int->Nat
 |[]=>0
 |x::l=>g x+NU g l
def Gu(R:List (List Int))(n:Nat)(l:Ln):Prop:=(∀z,bit z l.1=NU (λj=>bit z (R.getD j.toNat default)) l.2%2)/\∀j∈l.2,0<=j/\j<(n:Int)
theorem Gu.mono{R:List (List Int)}{n m:Nat}{l:Ln}(h:Gu R n l)(hn:n<=m):Gu R m l:=⟨h.1,λj hj=>by have:=h.2 j hj;omega⟩
structure StOk(R:List (List Int))(i:Nat)(M:List Ln)(D:List (List Int)):Prop where
 red:RedU M
 ok:∀l∈M,Gu R i l
 dep:∀y∈D,CN ([],y)/\Gu R i ([],y)
 len:M.length+D.length=i
 inS:∀l∈M,Sp (R.take i) l.1
 all:∀r∈R.take i,Sp (M.map Prod.fst) r
structure RdOk(R rows:List (List Int))(n c:Nat):Prop where
 asc:∀i,i<R.length->pM (rows.getD i default)
 len:rows.length=R.length
 nle:n<=R.length
 sp:∀v,Sp rows v↔Sp R v
 top:∀i,i<n->rows.getD i default≠[]/\ld (rows.getD i default)<c
 own:∀i,i<n->∀j,j<R.length->ld (rows.getD i default)∈rows.getD j default->j=i
 ord:∀i j,i<j->j<n->ld (rows.getD i default)<ld (rows.getD j default)
 low:∀i,n<=i->i<R.length->∀z∈rows.getD i default,(c:Int)<=z
def CJ(l:List (List Spx)):AV:=gq 1 bo l
theorem yR(l:List (List Spx)):Dat (CJ l):=ri (λ_=>rfl) cR
instance datI_encXsss{l:List (List Spx)}:DatI (CJ l):=⟨yR l⟩
abbrev ShC(a:List Spx):Prop:=Shn a/\∀s∈a,Shn s
def El:Nat->Spx->List Int
 |0,_=>[]
 |n+1,[]=>0::0::El n []
 |n+1,v::l=>v.color::v.label::El n l
theorem vn:∀{n:Nat}{s:Spx},(El n s).length=2*n
 |0,_=>rfl
 |n+1,[]=>by show(El n []).length+1+1=_;rw[vn];omega
 |n+1,v::l=>by show(El n l).length+1+1=_;rw[vn];omega
def kZ(s:Spx):K16:=⟨El 8 s,by rw[vn]⟩
structure BOk(H:Hp)(n:Nat)(c:Spx->Nat)(O:List Spx)(bs:List Nat)(ck:Nat):Prop where
 box:H 0=some [.bmap ((O.map kZ).map eK) (O.map aG) bs ck]
 len:bs.length=O.length
 asc:bs.Pairwise (· < ·)
 below:∀s∈bs,s<ck
 nd:O.Nodup
 all:∀f∈O,f.length=n
 odd:∀f,f∈O↔c f%2=1
theorem BOk.same{H H':Hp}{n:Nat}{c c':Spx->Nat}{O:List Spx}{bs:List Nat}{ck:Nat}(h:BOk H n c O bs ck)(hs:H' 0=H 0)(hc:∀f,c' f%2=c f%2):BOk H' n c' O bs ck:=
 ⟨hs.trans h.box,h.len,h.asc,h.below,h.nd,h.all,λf=>by rw[hc];exact h.odd f⟩
theorem BOk.put{H H':Hp}{n:Nat}{c c':Spx->Nat}{O:List Spx}{bs:List Nat}{ck:Nat}{f:Spx}(h:BOk H n c O bs ck)(hf:f∉O)(hl:f.length=n)(hH:H' 0=some [.bmap ((O.map kZ).map eK++[eK (kZ f)]) (O.map aG++[aG f]) (bs++[ck]) (ck+1)])(hc:∀g,c' g=c g+if g=f then 1 else 0):BOk H' n c' (O++[f]) (bs++[ck]) (ck+1):=by
 refine⟨by rw[hH];simp,by rw[cq,cq,h.len];rfl,?_,λs hs=>?_,?_,λg hg=>?_,λg=>?_⟩
 ·exact List.pairwise_append.2 ⟨h.asc,List.pairwise_singleton _ _,λa ha b hb=>by rw[eM.1 hb];exact h.below a ha⟩
 ·rcases iG.1 hs with q|q
  ·have:=h.below s q;omega
  ·rw[eM.1 q];omega
 ·exact List.nodup_append.2 ⟨h.nd,by simp,λa ha b hb e=>by rw[e,eM.1 hb] at ha;exact hf ha⟩
 ·rcases iG.1 hg with q|q
  ·exact h.all g q
  ·rw[eM.1 q];exact hl
 ·rw[iG,eM,h.odd,hc];by_cases e:g=f
  ·subst e;have:¬c g%2=1:=λq=>hf ((h.odd g).2 q);rw[if_pos rfl];exact⟨λ_=>by omega,λ_=>.inr rfl⟩
  ·rw[if_neg e];simp[e]
theorem jc{α β:Type}{f:α->β}:∀{l:List α}{i:Nat},(l.map f).eraseIdx i=(l.eraseIdx i).map f
 |[],_=>rfl
 |a::l,0=>rfl
 |a::l,i+1=>by show f a::(l.map f).eraseIdx i=f a::(l.eraseIdx i).map f;rw[jc]
theorem BOk.del{H H':Hp}{n:Nat}{c c':Spx->Nat}{O:List Spx}{bs:List Nat}{ck i:Nat}{f:Spx}(h:BOk H n c O bs ck)(hf:f∈O)(hi:O.idxOf f=i)(hH:H' 0=some [.bmap (((O.map kZ).map eK).eraseIdx i) ((O.map aG).eraseIdx i) (bs.eraseIdx i) ck])(hc:∀g,c' g=c g+if g=f then 1 else 0):BOk H' n c' (O.erase f) (bs.eraseIdx i) ck:=by
 have hil:i<O.length:=by rw[<-hi];exact List.idxOf_lt_length_iff.2 hf
 have he:O.erase f=O.eraseIdx i:=List.erase_eq_eraseIdx_of_idxOf hi;refine⟨?_,?_,h.asc.sublist (List.eraseIdx_sublist _ _),λs hs=>h.below s ((List.eraseIdx_sublist _ _).subset hs),h.nd.erase _,λg hg=>h.all g (List.mem_of_mem_erase hg),λg=>?_⟩
 ·rw[hH,he];rw[jc,jc,jc]
 ·rw[he,List.length_eraseIdx_of_lt hil,List.length_eraseIdx_of_lt (by rw[h.len];exact hil),h.len]
 ·rw[h.nd.mem_erase_iff,h.odd,hc];by_cases e:g=f
  ·subst e;have:=(h.odd g).1 hf;rw[if_pos rfl];constructor
   ·exact λq=>absurd rfl q.1
   ·intro q;omega
  ·rw[if_neg e];simp[e]
structure PairV where
 a:List Spx
 b:List Spx
 d:Int
theorem pM.nodup{l:List Int}(h:pM l):l.Nodup:=List.Pairwise.imp (λ{x y}(h:x<y) e=>by omega) h
def BL(c n:Nat)(x:Ln):Prop:=(∀z∈x.1,0<=z/\z<(c:Int))/\∀j∈x.2,0<=j/\j<(n:Int)
theorem CV{a:List Int}{c:Nat}(ha:pM a)(h:∀z∈a,0<=z/\z<(c:Int)):a.length<=c:=by
 have hn:a.Nodup:=List.Pairwise.imp (λ{x y}(q:x<y) e=>by omega) ha
 have:=J0 hn (l₂:=(List.range c).map λ(k:Nat)=>(k:Int)) λz hz=>by
  have:=h z hz;exact dK.2 ⟨z.toNat,gG.2 (by omega),by show((z.toNat:Nat):Int)=z;omega⟩
 simpa using this
theorem BL.len{c n:Nat}{x:Ln}(h:BL c n x)(ha:CN x):x.1.length<=c/\x.2.length<=n:=⟨CV ha.1 h.1,CV ha.2 h.2⟩
theorem BL.add{c n:Nat}{x l:Ln}(hx:BL c n x)(hl:BL c n l)(ax:CN x)(al:CN l):BL c n (KT x l):=by
 refine⟨λz hz=>?_,λz hz=>?_⟩
 ·rcases(yF ax.1 al.1).1 hz with q|q
  ·exact hx.1 z q.1
  ·exact hl.1 z q.1
 ·rcases(yF ax.2 al.2).1 hz with q|q
  ·exact hx.2 z q.1
  ·exact hl.2 z q.1
theorem KI{c:List Spx}(h:gl c=0):∀s∈c,Shn s:=λs hs=>show _<=_ by
 have:=(i5 ((lK h).2.1 s hs)).2.1;omega
def sA(c:List Spx):Nat->Int
 |0=>0
 |k+1=>if (k+1)%2=1 then sA c k+((px c (k+1)).length:Int) else sA c k-((px c (k+1)).length:Int)
theorem Ch{c:List Spx}(h:∀k,(px c k).length<=3500):∀k:Nat,-(3500*(k:Int))<=sA c k/\sA c k<=3500*(k:Int)
 |0=>⟨by show -(3500*((0:Nat):Int))<=(0:Int);omega,by show(0:Int)<=3500*((0:Nat):Int);omega⟩
 |k+1=>by
  have:=Ch h k;have h2:=h (k+1);unfold sA;split<;>omega
section
attribute [local irreducible] aE ai be aP aJ aK ay aL aR bn Go.Abs.Fn aO Go.Abs.Pure ak aD Yl
theorem HT(s:Spx)(h1:1<=s.length)(hs:s.length<=8):pU 86 [aG s] (GG (jf 8 s)):=by
 refine pO OV ?_;simp only[b86,aw];have hn:fv (aG s)=some s.length:=by unfold aG gq;simp[fv]
 have hput:=BZ (n:=8) (s:=s) hs;refine wnY and_self ?_;refine lpI (X:=Nat) (λk=>[(0,aG s),(2,.ptr 0 16 0),(3,.ptr 1 16 0),(5,.int .i64 k)]) (λk H nx=>k<=8/\H 0=some (kc 0)/\H 1=some (kc k)) (λk=>8-k) 0 ⟨bz _,by rw[ab (by omega),ac];rfl,ac⟩ ?_;rintro k H nx ⟨hk,g0,g1⟩;rcases(by omega:k=8\/k=0\/k=1\/k=2\/k=3\/k=4\/k=5\/k=6\/k=7) with rfl|rfl|rfl|rfl|rfl|rfl|rfl|rfl|rfl
 ·refine wnY (aI @g0 @g1) ?_;refine NK rfl g1 rfl rfl ?_;refine wnY and_self ?_;refine zN (n:=s.length) (H':=ar H 1 ((jf 8 s).map (AV.int .i64))) ?_ ?_
  ·((try simp only[bN,ZA,reduceEqDiff,↓reduceIte,reduceAdd,reduceLeDiff]);(try with_reducible rfl))
   have htr:zb s.length (aG s)=aG s:=by unfold aG gq;simp[zb];exact ji (by simp)
   have hmin:min s.length 8=s.length:=Nat.min_eq_left hs;have hal:fv (.msl 1 16 2 0 8)=some 8:=rfl;simp only[pF,hal,hn,hmin,if_neg (show ¬s.length=0 by omega),g1,htr,Fb];rw[if_pos (by refine⟨?_,?_,?_,?_⟩<;>first|rfl|trivial|omega|exact sN s)]
   have:bE (kc 8) 0 (cX s)=(jf 8 s).map (AV.int .i64):=by
    rw[<-hput];simp only[bE,List.take_zero,List.nil_append,cp,lV];rfl
   rw[this]
  ·have hl:((jf 8 s).map (AV.int .i64)).length=16:=by rw[bD,qh]
   have g1':ar H 1 ((jf 8 s).map (AV.int .i64)) 1=some ((jf 8 s).map (AV.int .i64)):=ac;have g0':ar H 1 ((jf 8 s).map (AV.int .i64)) 0=some (kc 0):=by rw[ab (by omega)];exact g0
   have hl0:(kc 0).length=16:=rfl;unfold GG;have ht:((jf 8 s).map (AV.int .i64)).take 16=(jf 8 s).map (AV.int .i64):=ji (by omega);have hd:=Ez (jf 8 s);unfold GG at hd
   have hfl:AV.ones ((jf 8 s).map (AV.int .i64))=true:=by
    unfold AV.ones;rw[ee];intro x hx;obtain⟨y,_,rfl⟩:=dK.1 hx;rfl
   have hlp:bE (kc 0) 0 ((jf 8 s).map (AV.int .i64))=(jf 8 s).map (AV.int .i64):=by
    simp only[bE,List.take_zero,List.nil_append,cp,hl];rw[List.drop_of_length_le (by decide),gI]
   generalize (jf 8 s).map (AV.int .i64)=K at *;refine wnY (zI5 @g0' @g1' @hl @hl0 @ht) ?_;refine lm (v:=.agg K) (cs:=kc 0) (vs:=K) (b:=0) (n:=16) (off:=0) rfl ev0 ev0 g0' rfl hfl hl0 hl (by omega) ?_;rw[hlp];refine wnY (aI @hl @ht) ?_;exact hd _
 ·refine wnY (aI @g0 @g1) ?_;refine oE (r:=.ptr 1 16 0) rfl rfl rfl ?_;have hl:(kc 0).length=16:=rfl;refine wnY (aI @g1 @hl) ?_;exact⟨1,by omega,⟨by omega,by rw[ab (by omega)];exact g0,by rw[ac];rfl⟩,by(iterate 4 refine And.intro rfl ?_);trivial⟩
 ·refine wnY (aI @g0 @g1) ?_;refine oE (r:=.ptr 1 16 2) rfl rfl rfl ?_;have hl:(kc 1).length=16:=rfl;refine wnY (aI @g1 @hl) ?_;exact⟨2,by omega,⟨by omega,by rw[ab (by omega)];exact g0,by rw[ac];rfl⟩,by(iterate 4 refine And.intro rfl ?_);trivial⟩
 ·refine wnY (aI @g0 @g1) ?_;refine oE (r:=.ptr 1 16 4) rfl rfl rfl ?_;have hl:(kc 2).length=16:=rfl;refine wnY (aI @g1 @hl) ?_;exact⟨3,by omega,⟨by omega,by rw[ab (by omega)];exact g0,by rw[ac];rfl⟩,by(iterate 4 refine And.intro rfl ?_);trivial⟩
 ·refine wnY (aI @g0 @g1) ?_;refine oE (r:=.ptr 1 16 6) rfl rfl rfl ?_;have hl:(kc 3).length=16:=rfl;refine wnY (aI @g1 @hl) ?_;exact⟨4,by omega,⟨by omega,by rw[ab (by omega)];exact g0,by rw[ac];rfl⟩,by(iterate 4 refine And.intro rfl ?_);trivial⟩
 ·refine wnY (aI @g0 @g1) ?_;refine oE (r:=.ptr 1 16 8) rfl rfl rfl ?_;have hl:(kc 4).length=16:=rfl;refine wnY (aI @g1 @hl) ?_;exact⟨5,by omega,⟨by omega,by rw[ab (by omega)];exact g0,by rw[ac];rfl⟩,by(iterate 4 refine And.intro rfl ?_);trivial⟩
 ·refine wnY (aI @g0 @g1) ?_;refine oE (r:=.ptr 1 16 10) rfl rfl rfl ?_;have hl:(kc 5).length=16:=rfl;refine wnY (aI @g1 @hl) ?_;exact⟨6,by omega,⟨by omega,by rw[ab (by omega)];exact g0,by rw[ac];rfl⟩,by(iterate 4 refine And.intro rfl ?_);trivial⟩
 ·refine wnY (aI @g0 @g1) ?_;refine oE (r:=.ptr 1 16 12) rfl rfl rfl ?_;have hl:(kc 6).length=16:=rfl;refine wnY (aI @g1 @hl) ?_;exact⟨7,by omega,⟨by omega,by rw[ab (by omega)];exact g0,by rw[ac];rfl⟩,by(iterate 4 refine And.intro rfl ?_);trivial⟩
 ·refine wnY (aI @g0 @g1) ?_;refine oE (r:=.ptr 1 16 14) rfl rfl rfl ?_;have hl:(kc 7).length=16:=rfl;refine wnY (aI @g1 @hl) ?_;exact⟨8,by omega,⟨by omega,by rw[ab (by omega)];exact g0,by rw[ac];rfl⟩,by(iterate 4 refine And.intro rfl ?_);trivial⟩
theorem GI(l:List Spx)(k:Nat)(hl:l.length<=50)(hs:∀s∈l,eu s=0)(hk:1<=k/\k<=8):pU 49 [bo l,.int .i64 k] (.tup [bo (px l k),.int .i64 0]):=by
 refine pO Pr ?_;simp only[b49,aw];have h8:∀s∈l,s.length<=8:=λs h=>(i5 (hs s h)).2.1
 have hgood:∀s∈l.flatMap (λs=>dS s k),mV s:=λs h=>by
  obtain⟨t,t1,t2⟩:=uo.1 h;exact FQ (Hx (hs t t1)) hk.1 t2
 have hfl:=pp (k:=k) h8;have z0:decide ((0:Int)≠0)=false:=rfl;refine wnY @aW ?_;refine tY ?_;refine wnY @aW ?_;refine lpI (X:=Nat×AV×List Spx) (λx=>[(1,.int .i64 k),(6,.mp 0),(7,x.2.1),(15,bo l),(16,.int .i64 l.length),(17,.int .i64 x.1)]) (λx H nx=>x.1<=l.length/\1<=nx/\H 0=some [.omap ((x.2.2.map kK).map eK) (x.2.2.map λ_=>.bool true)]/\Row H 1 x.2.1 (x.2.2.map aG)/\(∀b,bd x.2.1=some b->1<=b/\b<nx)/\x.2.2.Nodup/\∀s,s∈x.2.2↔s∈(l.take x.1).flatMap λs=>dS s k) (λx=>l.length-x.1) (0,.esl,[]) ⟨bz _,by omega,ac,Row.nil,λb h=>(by cases h),List.nodup_nil,λs=>by simp⟩ ?_;rintro⟨i,sv,O⟩ H nx ⟨h1,hnx,g0,hrow,hbd,hnd,hmem⟩;dsimp only at h1 g0 hrow hbd hnd hmem |-;obtain⟨o1,o2⟩:=hrow.one;by_cases hi:i<l.length
 rotate_left
 ·rw[ji (by omega)] at hmem
  have hOl:O.length<=3500:=by
   have:=J0 hnd (l₂:=l.flatMap λs=>dS s k) (λs h=>(hmem s).1 h);omega
  have hsort:Abs.Fn Tryz.prog 87 [sv,.func 65 []] H nx λ_ H' nx'=>Row H' 1 sv ((px l k).map aG):=by
   generalize hcs:O.map aG=cs at hrow;cases hrow with
   |nil=>
    have hO0:O=[]:=List.map_eq_nil_iff.1 hcs;refine Abs.Fn.mono (uM rfl) ?_;rintro _ _ _ ⟨rfl,rfl⟩
    have:px l k=[]:=by
     unfold px;rw[zf,Bg];intro s h;have:=(hmem s).2 h;rw[hO0] at this;cases this
    rw[this];exact Row.nil
   |box b len cs k1 k2=>
    obtain rfl:len=O.length:=by rw[<-hcs,bD] at k2;omega
    have hb:=hbd b rfl;subst hcs;by_cases h0:O.length=0
    ·have hO0:O=[]:=eI.1 h0;subst hO0;refine Abs.Fn.mono (uM rfl) ?_;rintro _ _ _ ⟨rfl,rfl⟩
     have:px l k=[]:=by
      unfold px;rw[zf,Bg];intro s h;have:=(hmem s).2 h;cases this
     rw[this];exact Row.box b 0 _ k1 rfl
    ·have hg:∀s∈O,Shn s:=λs h=>show s.length<=_ by have:=(hgood s ((hmem s).1 h)).2.1;omega
     have hsf:=Ce K1 (L:=O) (b:=b) (nx:=nx) (n:=O.length) k1 hb.2 rfl (by omega) hg (by omega);rw[Nat.mul_one];refine Abs.Fn.mono hsf ?_;rintro _ H' nx' ⟨L',ps,p1,p2⟩;have hlen:=p1.length_eq;have:=Am p1 (by rw[hlen];exact p2) hnd hmem;unfold px;rw[<-this,<-hlen];have:=Row.box (H:=H') (sz:=1) b L'.length (L'.map aG) ps.at_ (by simp)
     rwa [Nat.mul_one] at this
  refine wnY and_self ?_;refine a7 ev0 ev0 hsort ?_;rintro r H' nx' hr;refine wnY (aI @o1 @o2) ?_;exact xy (pj hr) rfl
 have ix:=o0 hi;have hft:=DA (k:=k) hi
 have hpm:∀s∈(l.take (i+1)).flatMap (λs=>dS s k),s∈l.flatMap λs=>dS s k:=λs h=>by
  obtain⟨t,t1,t2⟩:=uo.1 h;exact uo.2 ⟨t,vj t1,t2⟩
 have hsi:=hs _ (cP hi);have h8i:=h8 _ (cP hi);have hfx:=ER (l.getD i default) k (show _<=_ by omega)
 have hfe:(l.getD i default).length<k\/tG (l.getD i default) k=(dS (l.getD i default) k,0):=by
  by_cases h:(l.getD i default).length<k
  ·exact .inl h
  ·refine .inr ?_;unfold tG;rw[if_neg (λh=>h hsi),if_neg (by omega),bQ]
 have hcar:∀s∈dS (l.getD i default) k,mV s:=λs h=>hgood s (hpm s (by rw[hft];exact sd _ h));by_cases hlt:(l.getD i default).length<k
 ·have z:decide (((l.getD i default).length:Int)<k)=true:=bG (by omega);rw[Bs hlt,gI] at hft;generalize l.getD i default=s at *;refine wnY (zI5 @aS @ix @z @o1 @o2) ?_;exact⟨(i+1,sv,O),by dsimp only;omega,⟨by dsimp only;omega,hnx,g0,hrow,hbd,hnd,by dsimp only;rw[hft];exact hmem⟩,ag0⟩
 have z:decide (((l.getD i default).length:Int)<k)=false:=bK (by omega);rw[hfe.resolve_left hlt] at hfx;clear hfe;have hgP:∀s∈(l.take i).flatMap (λs=>dS s k),mV s:=λs h=>hgood s (hpm s (by rw[hft];exact pS _ h))
 have hPl:((l.take i).flatMap (λs=>dS s k)++dS (l.getD i default) k).length<=3500:=by
  rw[<-hft];have:=pp (k:=k) (c:=l.take (i+1)) (λs h=>h8 s (vj h));rw[jt] at this;omega
 generalize l.getD i default=s at *;generalize dS s k=R at *;generalize (l.take i).flatMap (λs=>dS s k)=P at *;have hRl:R.length<=3500:=by rw[cq] at hPl;omega
 refine wnY (zI7 @aS @aW @ix @z @z0 @o1 @o2) ?_;refine bj (X:=Nat×AV×List Spx) (λx=>[(1,.int .i64 k),(6,.mp 0),(7,x.2.1),(15,bo l),(16,.int .i64 l.length),(17,.int .i64 i),(34,bo R),(35,.int .i64 R.length),(36,.int .i64 x.1)]) (λx H nx=>x.1<=R.length/\1<=nx/\H 0=some [.omap ((x.2.2.map kK).map eK) (x.2.2.map λ_=>.bool true)]/\Row H 1 x.2.1 (x.2.2.map aG)/\(∀b,bd x.2.1=some b->1<=b/\b<nx)/\x.2.2.Nodup/\∀s,s∈x.2.2↔s∈P++R.take x.1) (λx=>R.length-x.1) (0,sv,O) ⟨bz _,hnx,g0,hrow,hbd,hnd,by dsimp only;rw[List.take_zero,gI];exact hmem⟩ ag0 ?_;clear g0 hrow hbd hnd hmem hnx o1 o2;rintro⟨j,sv,O⟩ H nx ⟨j1,hnx,g0,hrow,hbd,hnd,hmem⟩;dsimp only at j1 g0 hrow hbd hnd hmem |-;obtain⟨o1,o2⟩:=hrow.one
 have hOl:O.length<=3500:=by
  have:=J0 hnd (l₂:=P++R.take j) (λs h=>(hmem s).1 h);rw[cq,jt] at this;rw[cq] at hPl;omega
 by_cases hj:j<R.length
 rotate_left
 ·rw[ji (by omega)] at hmem;have hls:dl sv=some (.int .i64 O.length):=hrow.lenS (by rw[bD,Nat.mul_one]) g8;have z1:decide ((4096:Int)<O.length)=false:=bK (by omega);refine wnY (zI4 @hls @z1 @o1 @o2) ?_;exact⟨(i+1,sv,O),by dsimp only;omega,⟨by dsimp only;omega,hnx,g0,hrow,hbd,hnd,by dsimp only;rw[hft];exact hmem⟩,ag0⟩
 have iy:=o0 hj;have hgf:=hcar _ (cP hj)
 have hgO:∀s∈O,mV s:=λs h=>by
  rcases iG.1 ((hmem s).1 h) with h|h
  ·exact hgP s h
  ·exact hcar s (vj h)
 have hkey:=HT (R.getD j default) hgf.1 hgf.2.1;have hts:R.take (j+1)=R.take j++[R.getD j default]:=cu hj;have hmf:=KS (kK (R.getD j default)) (O.map kK);have hmk:=JE hgO hgf;generalize R.getD j default=f at *;by_cases hf:f∈O
 ·rw[if_pos (hmk.2 hf)] at hmf;have hlt2:(O.map kK).idxOf (kK f)<(O.map kK).length:=List.idxOf_lt_length_iff.2 (hmk.2 hf)
  have hgv:mget (.bool false) false (some ((O.map kK).idxOf (kK f))) (O.map λ_=>AV.bool true)=.bool true:=by
   rw[bD] at hlt2;simp[mget,List.getD,hlt2]
  refine wnY (zI3 @iy @o1 @o2) ?_;refine il ev0 g0 (by((try simp only[bN,ZA,reduceEqDiff,↓reduceIte,reduceAdd,reduceLeDiff]);(try with_reducible rfl));rfl) (F5 (kK f)) hmf ?_;rw[hgv];refine wnY (aI @o1 @o2) ?_;refine⟨(j+1,sv,O),by dsimp only;omega,⟨by dsimp only;omega,hnx,g0,hrow,hbd,hnd,λs=>?_⟩,ag0⟩;dsimp only;rw[hts,<-gM,iG,<-hmem,eM];exact⟨.inl,λh=>h.elim id λe=>by rw[e];exact hf⟩
 ·rw[if_neg (λh=>hf (hmk.1 h))] at hmf;have hgv:mget (.bool false) false none (O.map λ_=>AV.bool true)=.bool false:=rfl;refine wnY (zI3 @iy @o1 @o2) ?_;refine il ev0 g0 (by((try simp only[bN,ZA,reduceEqDiff,↓reduceIte,reduceAdd,reduceLeDiff]);(try with_reducible rfl));rfl) (F5 (kK f)) hmf ?_;rw[hgv];refine wnY (aI @o1 @o2) ?_;refine oL ev0 g0 (by((try simp only[bN,ZA,reduceEqDiff,↓reduceIte,reduceAdd,reduceLeDiff]);(try with_reducible rfl));rfl) ev0 (F5 (kK f)) hmf ?_;refine wnY (zI4 @o1 @o2 @bO @bH) ?_;refine eR (hrow.same λb hb=>?_) ?_
  ·have:=hbd b hb;rw[ab (by omega),ab (by omega)]
  rintro s2 H2 nx2 hr2 i1 i2 i3 i4;obtain⟨o3,o4⟩:=hr2.one;refine wnY (aI @o3 @o4) ?_;refine⟨(j+1,s2,O++[f]),by dsimp only;omega,⟨by dsimp only;omega,by omega,?_,?_,λb hb=>?_,?_,λs=>?_⟩,ag0⟩
  ·rw[i3 0 (by omega) (λh=>by have:=hbd 0 h;omega),ab (by omega),ac];simp[eD,nu]
  ·dsimp only;rw[dq];exact hr2
  ·rcases i4 b hb with h|h
   ·have:=hbd b h;omega
   ·omega
  ·exact List.nodup_append.2 ⟨hnd,by simp,λa ha c hc=>by simp at hc;subst hc;intro e;subst e;exact hf ha⟩
  ·dsimp only;rw[hts,<-gM,iG,iG,<-hmem]
def vG(a:List Spx):Bool:=((a.take 50).all λs=>decide (s.length<=10))&&(decide (a.length<=40) || decide (4096<a.length))
theorem Ik(c:List Spx)(hc:gl c=0)(hl:c.length<=50):pU 22 [me c] (.tup [.int .i64 (sA c 8),.int .i64 0]):=by
 refine pO Pa ?_;simp only[b22,aw];have hcc:=Gl c (show _<=_ by omega) (KI hc);rw[hc] at hcc;have z0:decide ((0:Int)≠0)=false:=rfl;have hbd:=λk:Nat=>Ch (c:=c) (λk=>yG (k:=k) hl λs hs=>(i5 ((lK hc).2.1 s hs)).2.1) k;have hll:=λk=>yG (k:=k) hl λs hs=>(i5 ((lK hc).2.1 s hs)).2.1;have hf:=λk(hk:1<=k/\k<=8)=>GI c k hl (lK hc).2.1 hk;refine wnY (zI3 @z0 @bJ @br) ?_;refine lpI (X:=Nat) (λk=>[(1,.ptr 0 1 0),(5,.int .i64 (sA c k)),(6,.int .i64 (k+1:Nat))]) (λk H nx=>k<=8/\H 0=some [bo c]) (λk=>8-k) 0 ⟨bz _,rfl⟩ ?_;rintro k H nx ⟨g1,g2⟩;by_cases hk:k<8
 rotate_left
 ·obtain rfl:k=8:=by omega
  refine wnY and_self ?_;exact cQ (af (.int _ _) (af (.int _ _) aj))
 have hf1:=hf (k+1) ⟨by omega,by omega⟩;have hl1:=hll (k+1);have hb1:=hbd k;have hb2:=hbd (k+1);have hes:sA c (k+1)=if (k+1)%2=1 then sA c k+((px c (k+1)).length:Int) else sA c k-((px c (k+1)).length:Int):=rfl
 have hr:∀tb tf,bm .rem tb tf (.int .i64 ((k+1:Nat):Int)) (.int .i64 2)=some (.int .i64 (((k+1)%2:Nat):Int)):=λtb tf=>by
  rw[xJ (by omega) (by omega)]
  congr 2
 generalize px c (k+1)=L at *;generalize sA c k=E0 at *;by_cases hodd:(k+1)%2=1
 ·rw[if_pos hodd] at hes;rw[hes] at hb2;have zr:decide ((((k+1)%2:Nat):Int)=1)=true:=bG (by omega);refine wnY (zI5 @g2 @z0 @hr @zr @aW) ?_;exact⟨k+1,by omega,⟨by omega,g2⟩,by rw[hes,show((k+1+1:Nat):Int)=((k+1:Nat):Int)+1 by omega];simp (disch:=omega) only[agr,ZG,reduceEqDiff,↓reduceIte]⟩
 ·rw[if_neg hodd] at hes;rw[hes] at hb2;have zr:decide ((((k+1)%2:Nat):Int)=1)=false:=bK (by omega);refine wnY (zI5 @g2 @z0 @hr @zr @aW) ?_;exact⟨k+1,by omega,⟨by omega,g2⟩,by rw[hes,show((k+1+1:Nat):Int)=((k+1:Nat):Int)+1 by omega];simp (disch:=omega) only[agr,ZG,reduceEqDiff,↓reduceIte]⟩
end
end Go.Proofs.YtmpcledaoigkaaaGreat
namespace Go.Proofs.YtmpcledaoigkaaaGreat
open Go Go.Abs Tk
open Nat (reduceEqDiff reduceAdd reduceLeDiff)
theorem gN:(dw P14).length=12:=by decide+kernel
theorem MU:(AJ P14).length=12/\gl (AJ P14)=0/\sA (AJ P14) 8=0:=by decide+kernel
def lZ:List Nat:=[0,2,1,7,8,6,9,11,10,4,5,3]
theorem uq:∀k,k<11->js 2 (dw P14) (lZ.getD k 0) (lZ.getD (k+1) 0)=true:=by decide+kernel
def tQ(l:List Spx)(i j:Nat):Bool:=(l.getD i []).any λv=>decide (v∈l.getD j [])
theorem GM{n R:Nat}{x:ExV}(hx:XOk n R x){q:Nat}(hq:q<n):(gH x).getD q 0=if hasFl (iE x) q=true then-1 else(dY x).getD q 0:=by
 have hl:=hx.last.1;unfold gH;rw[FM (by omega)];have e:(q<(dY x).length/\hasFl (iE x) q=true)↔hasFl (iE x) q=true:=⟨λh=>h.2,λh=>⟨by omega,h⟩⟩
 simp only[e]
theorem sZ{n R:Nat}{x:ExV}(hx:XOk n R x){q:Nat}(hq:q<n)(z:Int):(0<=(gH x).getD q 0/\(gH x).getD q 0=z)↔(⟨(q:Nat),z⟩:Vtx)∈fG x:=by
 rw[GM hx hq,uL];obtain⟨l1,l2⟩:=hx.last;have l3:0<=(dY x).getD q 0/\(dY x).getD q 0<=5000:=l2 _ (au (by omega));constructor
 ·rintro⟨h1,h2⟩;cases hb:hasFl (iE x) q with
  |true=>rw[hb,if_pos rfl] at h1;omega
  |false=>
   rw[hb,if_neg (by decide)] at h2;exact⟨q,by omega,hb,by rw[h2]⟩
 ·rintro⟨i,h1,h2,h3⟩;have e1:(q:Int)=(i:Int):=congrArg Vtx.color h3;have e2:z=(dY x).getD i 0:=congrArg Vtx.label h3;obtain rfl:q=i:=by omega
  rw[h2,if_neg (by decide)];exact⟨l3.1,e2.symm⟩
theorem D2{n R:Nat}{x:ExV}(hx:XOk n R x){v:Vtx}(h:v∈fG x):∃q,q<n/\v.color=(q:Nat):=by
 obtain⟨i,h1,_,rfl⟩:=uL.1 h;exact⟨i,by rw[<-hx.last.1];exact h1,rfl⟩
theorem Nx{n R:Nat}{x y:ExV}(hx:XOk n R x)(hy:XOk n R y){q:Nat}(hq:q<n):(0<=(gH x).getD q 0/\(gH x).getD q 0=(gH y).getD q 0)↔ ∃v∈fG x,v.color=(q:Nat)/\v∈fG y:=by
 constructor
 ·rintro⟨h1,h2⟩;exact⟨⟨(q:Nat),(gH x).getD q 0⟩,(sZ hx hq _).1 ⟨h1,rfl⟩,rfl,(sZ hy hq _).1 ⟨by omega,h2.symm⟩⟩
 ·rintro⟨⟨c,z⟩,h1,h2,h3⟩;dsimp only at h2;subst h2;have a:=(sZ hx hq z).2 h1;have b:=(sZ hy hq z).2 h3;exact⟨a.1,a.2.trans b.2.symm⟩
theorem Jd{p:PrbV}(h:OkP p){i j q:Nat}(hi:i<(dw p).length)(hj:j<(dw p).length)(hq:q<p.task.n.toNat):ik (dw p) i j q=true↔ ∃v∈(jU p).getD i [],v.color=(q:Nat)/\v∈(jU p).getD j []:=by
 obtain⟨s1,s2,s3,s4⟩:=jv p h;rw[kV] at hi hj;have e1:∀i,i<(bw p).execs.length->(dw p).getD i []=gH ((bw p).execs.getD i default):=λi hi=>by simp[dw,List.getD,hi]
 have e2:∀i,i<(bw p).execs.length->(jU p).getD i []=fG ((bw p).execs.getD i default):=λi hi=>by simp[jU,List.getD,hi]
 unfold ik;rw[gr,e1 i hi,e1 j hj,e2 i hi,e2 j hj];exact Nx (s4 _ (au hi)) (s4 _ (au hj)) hq
theorem AW{p:PrbV}(h:OkP p){i:Nat}(hi:i<(dw p).length){v:Vtx}(hv:v∈(jU p).getD i []):∃q,q<p.task.n.toNat/\v.color=(q:Nat):=by
 obtain⟨s1,s2,s3,s4⟩:=jv p h;rw[kV] at hi;have e2:(jU p).getD i []=fG ((bw p).execs.getD i default):=by simp[jU,List.getD,hi]
 rw[e2] at hv;exact D2 (s4 _ (au hi)) hv
theorem JX{l:List Spx}{i j:Nat}:tQ l i j=true↔ ∃v∈l.getD i [],v∈l.getD j []:=by
 unfold tQ;rw[lu];exact⟨λ⟨v,h1,h2⟩=>⟨v,h1,pG h2⟩,λ⟨v,h1,h2⟩=>⟨v,h1,bG h2⟩⟩
theorem BR{p:PrbV}(h:OkP p){i j:Nat}(hi:i<(dw p).length)(hj:j<(dw p).length):js p.task.n.toNat (dw p) i j=true↔i≠j/\tQ (jU p) i j=true:=by
 rw[BA,JX];refine and_congr_right λ_=>⟨λ⟨q,h1,h2⟩=>?_,λ⟨v,h1,h2⟩=>?_⟩
 ·obtain⟨v,a,_,b⟩:=(Jd h hi hj h1).1 h2;exact⟨v,a,b⟩
 ·obtain⟨q,a,b⟩:=AW h hi h1;exact⟨q,a,(Jd h hi hj a).2 ⟨v,h1,b,h2⟩⟩
theorem HA{p:PrbV}(h:OkP p){a:Nat}{s:List Int}(hl:Lab (dw p).length (tQ (jU p)) a s):Lab (dw p).length (js p.task.n.toNat (dw p)) a s:=
 ⟨hl.len,hl.zero,fun i hi hp=>by
  obtain⟨j,q1,q2,q3⟩:=hl.pred i hi hp;exact⟨j,q1,(BR h q1 hi).2 ⟨λe=>by rw[e] at q3;omega,q2⟩,q3⟩,λi j hi hj hp hij=>hl.next i j hi hj hp ((BR h hi hj).1 hij).2,hl.root⟩
theorem FA{p:PrbV}(h:OkP p){i j:Nat}(hi:i<(dw p).length)(hj:j<(dw p).length)(ha:js p.task.n.toNat (dw p) i j=true):((jU p).getD i []).any (λv=>decide (v.color=(oe p.task.n.toNat (dw p) i j:Nat))&&decide (v∈(jU p).getD j []))=true:=by
 obtain⟨q1,q2⟩:=JI ha;obtain⟨v,a,b,c⟩:=(Jd h hi hj q1).1 q2;rw[lu];exact⟨v,a,by rw[b,bG c,Bool.and_true];exact bG rfl⟩
section
attribute [local irreducible] aE ai be aP aJ aK ay aL aR bn Go.Abs.Fn aO Go.Abs.Pure ak aD Yl
theorem JY(l:List Int)(hl:l.length=12)(h0:∀i,i<12->l.getD i 0=0):pU 24 [aH l] (.int .i64 0):=by
 refine pO PR ?_;simp only[b24,aw]
 have hix:∀k:Nat,k<12->cA 1 (aH l) (.int .i64 (k:Int))=some (.iptr [.int .i64 0] 0):=λk hk=>by
  have:=mg (l:=l) (n:=(k:Int)) (by omega) (by omega);rw[bQ,h0 k hk] at this;exact this
 have z0:decide ((l.length:Int)<1)=false:=bK (by omega);have i0:cA 1 (aH l) (.int .i64 0)=some (.iptr [.int .i64 0] 0):=hix 0 (by omega);have hm:ma (.int .i64 0) (.int .i64 0)=some (.int .i64 0):=rfl;refine wnY (aI @z0 @i0) ?_;refine fS (X:=Nat) (λk=>[(0,aH l),(3,.int .i64 0),(4,.int .i64 k)]) (λk=>1<=k/\k<=12) (λk=>12-k) 1 ⟨aZ _,by omega⟩ ag0 ?_;rintro k ⟨k1,k2⟩;by_cases hk:k<12
 ·have ix:=hix k hk;refine wnY (aI @ix @hm) ?_;exact⟨k+1,⟨by omega,by omega⟩,by omega,ag0,rfl,rfl⟩
 ·refine wnY and_self ?_;exact .int _ _
theorem Ho:∀k,k<12->Cn (LkP (dw P14) 2) 0 (lZ.getD k 0):=λk hk=>by
 induction k with
 |zero=>exact .refl _
 |succ k ih=>
  refine(ih (by omega)).trans (.one ?_);have h:=uq k (by omega);have hb:∀k,k<12->lZ.getD k 0<12:=by decide
  obtain⟨_,p,hp,hl⟩:=BA.1 h;exact⟨by rw[gN];exact hb k (by omega),by rw[gN];exact hb (k+1) hk,p,hp,hl⟩
theorem FZ:∀i,i<12->Cn (LkP (dw P14) 2) 0 i:=λi hi=>by
 have h:∃k,k<12/\lZ.getD k 0=i:=by
  have:∀i,i<12->∃k,k<12/\lZ.getD k 0=i:=by decide
  exact this i hi
 obtain⟨k,hk,rfl⟩:=h;exact Ho k hk
theorem M7{l:List Int}(h:PL (dw P14) 2 l):l.length=12/\∀i,i<12->l.getD i 0=0:=by
 obtain⟨h1,h2,h3⟩:=h;rw[gN] at h1 h3;refine⟨h1,λi hi=>?_⟩;have h0:=h2 0 (by omega)
 have e0:l.getD 0 0=0:=by
  have:lU (l.take 0)=0:=rfl;rw[this] at h0;omega
 exact((h3 0 i (by omega) hi).2 (FZ i hi)).symm.trans e0
theorem NT{s:List Int}(h:Lab (dw P14).length (js 2 (dw P14)) 11 s):0<sg s 0:=by
 have hb:∀k,k<12->lZ.getD k 0<12:=by decide
 have hp:∀k,k<=7->Pth (dw P14).length (js 2 (dw P14)) 11 (lZ.getD (7-k) 0) k:=λk hk=>by
  induction k with
  |zero=>exact .zero
  |succ k ih=>
   have ha:=uq (7-(k+1)) (by omega);rw[show 7-(k+1)+1=7-k by omega,uf] at ha;exact .succ (ih (by omega)) (by rw[gN];exact hb _ (by omega)) (by rw[gN];exact hb _ (by omega)) ha
 have h0:=(h.le (hp 7 (aZ _))).1;have e:lZ.getD (7-7) 0=0:=rfl;rw[e] at h0;rcases Int.lt_or_eq_of_le h0 with q|q
 ·exact q
 ·exact absurd (h.root 0 (by rw[gN];omega) q.symm) (by decide)
theorem Dd:pU 5 [] (.bool true):=by
 refine pO is5 ?_;simp only[b5,aw];have h1:=HE;have h2:=yC P14 HG;have h3:=Du P14 HG;obtain⟨f1,f2,f3⟩:=MU;have h4:=Ik (AJ P14) f2 (by omega);rw[f3] at h4;have h5:=λH nx=>xL P14 HG H nx;have h6:=λH nx=>Bq P14 HG 0 11 (by rw[gN];omega) (by rw[gN];omega) H nx;have hd1:=eZ P14;have hd2:=ea (bw P14);rw[show fq (bw P14)=.agg (bw P14).cs from rfl,PC.2.2.2.2.2.2.2] at h2 h3 h5 h6 hd2;unfold cI at h1 h2 hd1;rw[PC.2.2.2.2.1] at h1 h2 hd1;unfold me at h3 h4;generalize AJ P14=F at *;refine wnY (zI4 @PE @bJ @br @aW) ?_;refine a7 ev0 ev0 (h5 _ _) ?_;rintro _ H1 n1 ⟨m1,fr1,l,rfl,hl⟩;obtain⟨l1,l2⟩:=M7 hl;have h7:=JY l l1 l2;generalize hS:ar _ _ _=HS at fr1;have k0:H1 0=some [.int .i64 (bw P14).prob.task.n,.int .i64 (bw P14).prob.task.ins,.int .i64 (bw P14).prob.task.outs,cC (bw P14).prob.task.cases,.int .i64 (bw P14).prob.adv.n,bh (bw P14).prob.adv.states,.int .i64 (bw P14).prob.rounds,.int .i64 (bw P14).tn,dE (bw P14).views,ef (bw P14).execs]:=(fr1 0 (by omega)).trans (by rw[<-hS];simp (disch:=omega) only[ab,ac];rfl);have k1:H1 1=some [bo F]:=(fr1 1 (by omega)).trans (by rw[<-hS];simp (disch:=omega) only[ab,ac];rfl);refine wnY (zI3 @PE @k0 @SR) ?_;refine a7 ev0 (by((try simp only[bN,ZA,reduceEqDiff,↓reduceIte,reduceAdd,reduceLeDiff]);(try with_reducible rfl));rfl) (h6 _ _) ?_;rintro _ H2 n2 ⟨m2,fr2,s,hlab,d,rfl,hds⟩
 have hfar:=NT hlab;have hd:=hds (by omega);have q1:=(fr2 1 (by omega)).trans k1;have z1:decide (sg s ((0:Nat))≥0)=true:=bG (by omega);have z2:decide (d>0)=true:=bG (by omega);have z3:decide ((F.length:Int)=12)=true:=bG (by omega);have z4:decide ((l.length:Int)=12)=true:=bG (by omega);refine wnY (zI7 @PE @q1 @z1 @z2 @z3 @z4 @aW) ?_;exact .bool _
end
end Go.Proofs.YtmpcledaoigkaaaGreat
namespace Go.Proofs.YtmpcledaoigkaaaGreat
open Go Go.Abs
structure UF where
 ks:List Vtx
 vs:List Vtx
 rt:Vtx->Vtx
def Kw(u:UF)(p:Vtx×Vtx):UF:=if u.rt p.1=u.rt p.2 then u else⟨u.ks++[u.rt p.1],u.vs++[u.rt p.2],λz=>if u.rt z=u.rt p.1 then u.rt p.2 else u.rt z⟩
def uf0:UF:=⟨[],[],λv=>v⟩
def ufL(P:List (Vtx×Vtx)):UF:=P.foldl Kw uf0
structure Forest(u:UF):Prop where
 nd:u.ks.Nodup
 len:u.vs.length=u.ks.length
 up:∀i,i<u.ks.length->u.vs.getD i default∈u.ks->i<u.ks.idxOf (u.vs.getD i default)
 out:∀v,v∉u.ks->u.rt v=v
 stp:∀i,i<u.ks.length->u.rt (u.ks.getD i default)=u.rt (u.vs.getD i default)
 top:∀v,u.rt v∉u.ks
def JH(s:Spx):List (Vtx×Vtx):=(s.drop 1).map λv=>(s.getD 0 default,v)
def Kt(c:List Spx):List (Vtx×Vtx):=c.flatMap JH
def nsF(l:List Vtx):List Vtx:=l.foldl (λks v=>if v∈ks then ks else ks++[v]) []
def nsI(l:List Vtx):List Nat:=l.map λv=>(nsF l).idxOf v
def rtL(c:List Spx):List Vtx:=c.map λs=>(ufL (Kt c)).rt (s.getD 0 default)
def j7(c:List Spx):List Nat:=nsI (rtL c)
end Go.Proofs.YtmpcledaoigkaaaGreat
namespace Go.Proofs.YtmpcledaoigkaaaGreat
open Go Go.Abs Tk
open Nat (reduceEqDiff reduceAdd reduceLeDiff)
theorem rj(c:List Spx):(y2 (j7 c)).length=c.length:=by simp[y2,j7,nsI,rtL]
theorem IX2:(∀(T:Tm)(H:Hp)(x:Opd),bW T H (.ixaA 2 1 x (.c (.int .i64 0)))=jp 0 (ov T x))/\(∀(T:Tm)(H:Hp)(x:Opd),bW T H (.ixaA 2 1 x (.c (.int .i64 1)))=jp 1 (ov T x)):=by
 refine⟨λT H x=>?_,λT H x=>?_⟩
 ·show(if (0:Int)<=0/\(0:Int)<(2:Nat) then jp ((0:Int).toNat*1) (ov T x) else none)=_;rw[if_pos ⟨Int.le_refl _,by decide⟩];rfl
 ·show(if (0:Int)<=1/\(1:Int)<(2:Nat) then jp ((1:Int).toNat*1) (ov T x) else none)=_;rw[if_pos ⟨by decide,by decide⟩];rfl
theorem Bj{H:Hp}{c:Nat}{wv:AV}{w:Spx}(hrow:Row H 2 wv (cX w))(hc:H c=some [wv])(hne:bd wv≠some c):∃Hf H',Fz Hf H H'/\H' c=some [aG w]/\∀y,y≠c->bd wv≠some y->H' y=H y:=by
 generalize hcs:cX w=cs at hrow;cases hrow with
 |nil=>
  have h0:w=[]:=by
   have:=congrArg List.length hcs;rw[lV] at this;exact eI.1 (by rw[hZ] at this;omega)
  subst h0;refine⟨bM,ar H c [aG []],⟨λ_ _ h=>(by cases h),λy d h=>?_⟩,ac,λy h1 _=>ab h1⟩;by_cases e:y=c
  ·subst e;rw[ac] at h;cases h;exact⟨_,hc,rfl,dB.snoc (cs:=[]) (.eslsl 2)⟩
  ·rw[ab e] at h;exact⟨d,h,rfl,dB.refl _ _⟩
 |box b len cs hb hl=>
  have hbc:c≠b:=λe=>hne (by rw[e];rfl);subst hcs;exact⟨only b (cX w),ar (cl H b) c [aG w],CD hb hc hbc (dB.snoc (cs:=[]) (yB (Row.box b len _ eO hl))),ac,λy h1 h2=>by rw[ab h1,ca (λe=>h2 (by rw[e];rfl))]⟩
theorem Di{n f:Nat}(hf:f<n):Upp n ((List.replicate n (-1:Int)).set f 0):=by
 have hrl:(List.replicate n (-1:Int)).length=n:=List.length_replicate
 have hg:∀i,sg (List.replicate n (-1:Int)) i=-1:=λi=>by
  unfold sg;simp only[List.getD,List.getElem?_replicate];split<;>rfl
 intro i;have e:=tH (s:=List.replicate n (-1:Int)) (j:=f) (x:=0) (by omega) i;have hc:=jZ (s:=List.replicate n (-1:Int)) (k:=f) (x:=0) (by omega) (by rw[hg];decide) (Int.le_refl _);have hl:=List.countP_le_length (p:=λx:Int=>decide (x<0)) (l:=List.replicate n (-1:Int));rw[hrl] at hl;rw[hg] at e;rw[e];split<;>omega
theorem AP{n f:Nat}(hf:f<n):iW ((List.replicate n (-1:Int)).set f 0) [f]<=n:=by
 have hrl:(List.replicate n (-1:Int)).length=n:=List.length_replicate;have:=l4 (s:=List.replicate n (-1:Int)) (q:=[]) (k:=f) (x:=0) (by omega) (by simp[sg,List.getD,hf]) (by omega);rw[List.nil_append] at this;rw[this];unfold iW;have:=List.countP_le_length (p:=λx:Int=>decide (x<0)) (l:=List.replicate n (-1:Int));simp at this |-;exact this
section
attribute [local irreducible] aE ai be aP aJ aK ay aL aR bn Go.Abs.Fn aO Go.Abs.Pure ak aD Yl
theorem JU(x:Spx)(v:Vtx)(hx:Shn x):pU 10 [dL v,.iptr [aG x] 0] (.bool (decide (v∈x))):=by
 refine pO Pk ?_;simp only[b10,aw]
 repeat' (first|refine zW ?_|apply a_n|refine zO ?_|refine vY ?_|refine cY ?_ (hp:=by exact rZ x v hx) (hs:=by(first|refine aC ?_ rfl|apply aQ);(repeat' (first|exact aj|apply bB|apply a8|exact bT _|exact nj _));first|done|fail)|refine bxY ?_|refine bk rfl ?_|refine r1Y ?_|fail)
 exact .bool _
theorem KH(w:Spx)(i:Nat)(l:List Spx)(y:Nat)(v:Vtx)(hi:i<w.length)(hy:y<l.length)(hl:∀s∈l,Shn s):pU 12 [dL v,.iptr [aG w] 0,.iptr [.int .i64 i] 0,.iptr [bo l] 0,.iptr [.int .i64 y] 0] (.bool (decide (v.color=(w.getD i default).label)&&decide (v∈l.getD y default))):=by
 refine pO Pv ?_;simp only[b12,aw];have hc:=rZ (l.getD y default) v (hl _ (au hy));have ix1:=ix2 hi;have ix2:=o0 hy;have hX:dL v=.agg [.int .i64 v.color,.int .i64 v.label]:=rfl;rw[hX] at hc |-;generalize w.getD i default=u at *;generalize l.getD y default=s at *;by_cases h:v.color=u.label
 ·have z:decide (v.color=u.label)=true:=bG h;refine wkY (zI3 @ix1 @ix2 @z) ?_;rw[z];exact .bool _
 ·have z:decide (v.color=u.label)=false:=bK h;refine wkY (zI3 @ix1 @ix2 @z) ?_;rw[z];exact .bool _
theorem D3(b:Nat)(v:Int)(n:Nat)(h1:1<=n)(h2:n<=1000)(H0:Hp)(nx:Nat)(hb:H0 b=some [.int .i64 v])(hbn:b<nx):
    Abs.Fn Tryz.prog 8 [.msl b 1 1 0 1,.int .i64 n] H0 nx λr H' nx'=>r=.msl nx n 1 0 n/\H' nx=some ((List.replicate n v).map (AV.int .i64))/\nx'=nx+1/\∀y,y<nx->H' y=H0 y:=by
 refine fO is8 ?_;simp only[b8,aw];have e1:IntKind.wrap .u64 ((1:Nat):Int)=((1:Nat):Int):=ig (by simp) (by simp);have e2:IntKind.wrap .u64 (n:Int)=n:=ig (by omega) (by omega);have e3:IntKind.wrap .i64 ((1*n:Nat):Int)=n:=by rw[iU]<;>omega
 have zz:=aI @e1 @e2;repeat' (first|refine zW ?_|apply a_n|refine zO ?_|refine vY ?_|refine cY ?_ (hp:=by exact IY 1 n (by omega) (by omega)) (hs:=by(first|refine aC ?_ rfl|apply aQ);(repeat' (first|exact aj|apply bB|apply a8|exact Dat.int));first|done|fail)|refine gTY ?_|(refine zGY ?_ ?_<;>(intro _hg;try (exfalso;omega)))|fail)
 refine l8 rfl ev0 ev0 (by omega) (by omega) (by omega) (by omega) ?_;have e4:((1*n:Nat):Int).toNat=n:=by omega
 rw[e4,fh,Nat.mul_one];refine wnY and_self ?_;have hbn2:∀cs,ar H0 nx cs b=some [.int .i64 v]:=λcs=>(ab (by omega)).trans hb;refine zN (n:=1) (by((try simp only[bN,ZA,reduceEqDiff,↓reduceIte,reduceAdd,reduceLeDiff]);(try with_reducible rfl));exact nZ (m:=1) (new:=[.int .i64 v]) (k:=1) (ls:=1) rfl (by omega) (by omega) ac (by simp) (eY (n:=1) (len:=1) (off:=0) (cs:=[.int .i64 v]) (hbn2 _) rfl (by simp)) (by omega) rfl) ?_
 have hst:bE ((List.replicate n (0:Int)).map (AV.int .i64)) 0 [.int .i64 v]=(List.replicate 1 v++List.replicate (n-1) (0:Int)).map (AV.int .i64):=by
  obtain⟨m,rfl⟩:∃m,n=m+1:=⟨n-1,by omega⟩
  simp[bE,List.replicate_succ]
 rw[hst];refine wnY and_self ?_;refine bj (X:=Nat) (λk=>[(7,.msl nx n 1 0 n),(8,.int .i64 k)]) (λk H n'=>1<=k/\k<=n/\n'=nx+1/\H nx=some ((List.replicate k v++List.replicate (n-k) (0:Int)).map (AV.int .i64))/\∀y,y<nx->H y=H0 y) (λk=>n-k) 1 ⟨aZ _,h1,rfl,ac,λy hy=>by simp (disch:=omega) only[ab]⟩ ag0 ?_;rintro k H n' ⟨k1,k2,rfl,hH,fr⟩;by_cases hk:k<n
 ·have s1:kC 1 (.msl nx n 1 0 n) (some (.int .i64 k)) none none=some (.msl nx n 1 k (n-k)):=zU hk (by omega);have s2:kC 1 (.msl nx n 1 0 n) none (some (.int .i64 k)) none=some (.msl nx n 1 0 k):=zi (by omega) (by omega)
  have hcp:pF 1 (.msl nx n 1 k (n-k)) (.msl nx n 1 0 k) H=some (min k (n-k),ar H nx (bE ((List.replicate k v++List.replicate (n-k) (0:Int)).map (AV.int .i64)) k ((List.replicate (min k (n-k)) v).map (AV.int .i64)))):=by
   refine nZ (m:=min k (n-k)) (ls:=k) (k:=min k (n-k)) rfl rfl (by omega) hH (by simp;omega) ?_ (by omega) lj;have h:=eY (H:=H) (sz:=1) (b:=nx) (n:=n) (off:=0) (len:=min k (n-k)) hH (by simp;omega) (by omega);refine h.trans ?_
   congr 2
   simp only[List.drop_zero,Nat.mul_one,dq,List.map_replicate];rw[qU (by simp;omega),List.take_replicate]
   congr 1;omega
  refine wnY (aI @s1 @s2) ?_;refine zN (by((try simp only[bN,ZA,reduceEqDiff,↓reduceIte,reduceAdd,reduceLeDiff]);(try with_reducible rfl));exact hcp) ?_
  have e5:bE ((List.replicate k v++List.replicate (n-k) (0:Int)).map (AV.int .i64)) k ((List.replicate (min k (n-k)) v).map (AV.int .i64))=(List.replicate (k+min k (n-k)) v++List.replicate (n-(k+min k (n-k))) (0:Int)).map (AV.int .i64):=by
   simp only[bE,dq,List.map_replicate,List.length_replicate];rw[qU (by simp),List.take_replicate,Nat.min_self,List.drop_append];simp only[List.drop_replicate,List.length_replicate];rw[show k-(k+min k (n-k))=0 by omega,show n-k-(k+min k (n-k)-k)=n-(k+min k (n-k)) by omega,List.replicate_zero,List.nil_append,List.replicate_append_replicate.symm]
   try simp
  rw[e5];simp only[gu,List.map_nil,List.getD_cons_succ,List.getD_cons_zero];refine wnY and_self ?_;refine⟨k+min k (n-k),by omega,⟨by omega,by omega,rfl,ac,λy hy=>by simp (disch:=omega) only[ab];exact fr y hy⟩,ag0⟩
 ·have hkn:k=n:=by omega
  subst hkn;refine wnY and_self ?_;rw[Nat.sub_self,List.replicate_zero,gI] at hH;exact⟨rfl,hH,rfl,fr⟩
theorem Kh(p:PrbV)(h:OkP p)(a f:Nat)(ha:a<(dw p).length)(hf:f<(dw p).length)(H0:Hp)(nx:Nat):
    Abs.Fn Tryz.prog 7 [fq (bw p),.int .i64 a,.int .i64 f] H0 nx λr H' nx'=>nx<=nx'/\(∀y,y<nx->H' y=H0 y)/\∃s,Lab (dw p).length (js p.task.n.toNat (dw p)) f s/\(∀i,-1<=sg s i/\sg s i<=((dw p).length:Int))/\((sg s a<0/\r=.tup [.esl,.bool false,.int .i64 0])\/(0<=sg s a/\∃w wv,WkOk p.task.n.toNat (dw p) s a f w/\r=.tup [wv,.bool true,.int .i64 0]/\Row H' 2 wv (cX w)/\∀b,bd wv=some b->nx<=b/\b<nx')):=by
 refine fO is7 ?_;simp only[b7,aw];have hsc:=BQ p h a f ha hf;have hN:=uz h;obtain⟨hck,-,-,-,r6⟩:=eJ h.e0;obtain⟨n1,n5,-,-⟩:=dg hck;have hNn:((p.task.n.toNat:Nat):Int)=p.task.n:=by omega
 have hL60:(dw p).length<=60:=by rw[kV];exact(jv p h).2.1
 have hd:=ea (bw p);rw[show fq (bw p)=.agg (bw p).cs from rfl,PC.2.2.2.2.2.2.2] at hsc hd |-;rw[<-hNn] at hsc;generalize dw p=L at *;generalize p.task.n.toNat=N at *;have hds:=rn N (by omega) L hN f hf (by omega);refine wnY @PE ?_;refine a7 ev0 ev0 (hsc _ _ (nx+2) (by simp (disch:=omega) only[ac]) (by omega)) ?_;rintro _ H1 m1 ⟨rfl,hm1,fr1⟩;refine wnY @PE ?_;refine a7 ev0 ev0 (hds _ _) ?_;rintro _ H2 m2 ⟨s,bF,hlab,hge,rfl,hrow,hb1,hb2,fr2⟩;have g4:H2 (nx+1)=some [.int .i64 a]:=by rw[fr2 _ (by omega),fr1 _ (by omega)];simp (disch:=omega) only[ab,ac]
 have fr:∀y,y<nx->H2 y=H0 y:=λy hy=>by rw[fr2 _ (by omega),fr1 _ (by omega)];simp (disch:=omega) only[ab]
 have hia:=oZ (b:=bF) (m:=L.length) ha;have hsl:=hlab.len;have hca:=kA (s:=s) (k:=a) (by omega);have hml:(s.map (AV.int .i64)).length=L.length:=by rw[bD];exact hsl
 clear fr1 fr2 hds hsc;by_cases hsa:sg s a<0
 ·have z:decide (sg s a<0)=true:=bG hsa;generalize hC:s.map (AV.int .i64)=C at *;refine wnY (zI6 @PE @g4 @hia @hrow @hca @z) ?_;exact⟨by omega,λy hy=>by simp (disch:=omega) only[ab];exact fr y hy,s,hlab,hge,.inl ⟨hsa,rfl⟩⟩
 have z:decide (sg s a<0)=false:=bK hsa;generalize hC:s.map (AV.int .i64)=C at *;refine wnY (zI6 @PE @g4 @hia @hrow @hca @z) ?_;have hcs:∀k,k<L.length->C[k]?=some (.int .i64 (sg s k)):=λk hk=>by rw[<-hC];exact kA (by omega)
 have hix:=λk hk=>oZ (b:=bF) (m:=L.length) (k:=k) hk
 refine bj (X:=Nat×List Vtx×AV) (λ_=>[(2,.int .i64 f),(4,.ptr (nx+1) 1 0),(9,.iptr [.int .i64 N,bi L] 0),(11,.ptr m2 1 0),(12,.ptr (m2+2) 1 0)]) (λx H n'=>m2+3<=n'/\x.1<L.length/\0<=sg s x.1/\H (nx+1)=some [.int .i64 x.1]/\H m2=some [.msl bF L.length 1 0 L.length]/\H bF=some C/\H (m2+2)=some [x.2.2]/\Row H 2 x.2.2 (cX x.2.1)/\(∀b,bd x.2.2=some b->m2+1<=b/\b<n'/\b≠m2+2)/\WkOk N L s a x.1 x.2.1/\∀y,y<nx->H y=H0 y) (λx=>(sg s x.1).toNat) (a,[⟨(a:Nat),-1⟩],.msl (m2+1) 2 2 0 1)
  ⟨by omega,ha,by dsimp only;omega,by simp (disch:=omega) only[ab];exact g4,by simp (disch:=omega) only[ab,ac];rfl,by simp (disch:=omega) only[ab];exact hrow,by simp (disch:=omega) only[ac];rfl,Row.box (sz:=2) (m2+1) 1 _ (by simp (disch:=omega) only[ab,ac];rfl) rfl,λb h=>by cases h;omega,WkOk.start N L s a,λy hy=>by simp (disch:=omega) only[ab];exact fr y hy⟩ (by simp (disch:=omega) only[agr,ZG,reduceEqDiff,↓reduceIte,SL]) ?_
 clear g4 hrow fr hca z hia;rintro⟨e,w,wv⟩ H3 m3 ⟨i1,he,h0,g4,g11,gF,g12,hrow,hwb,hW,fr⟩;dsimp only at i1 he h0 g4 g12 hrow hwb hW |-;obtain⟨o1,o2⟩:=hrow.one;by_cases hef:e=f
 ·subst hef;have z:decide ((e:Int)≠e)=false:=bK (λh=>h rfl);refine wnY (zI6 @PE @g4 @g12 @z @o1 @o2) ?_;exact⟨by omega,fr,s,hlab,hge,.inr ⟨by omega,w,wv,hW,rfl,hrow,λb hb=>by have:=hwb b hb;omega⟩⟩
 have z:decide ((e:Int)≠f)=true:=bG (by omega)
 have hpos:0<sg s e:=by
  rcases Int.lt_or_eq_of_le h0 with h|h
  ·exact h
  ·exact absurd (hlab.root e he h.symm) hef
 have hnb:=rU N L e;refine wnY (zI4 @PE @g4 @g12 @z) ?_;refine gV m3 (m3+1) rfl rfl ev0 (λc0 cj hy=>?_);refine Abs.Fn.mono (I2 N (by omega) L hN e he (by omega) (I:=λk H n'=>n'=m3+1/\H m3=some [c0]/\(∀y,y≠m3->H y=H3 y)/\∀j,j<k->js N L e j=true->sg s j≠sg s e-1) (λH n'=>H m3=some [cj (.exit 2)]/\m3<n'/\∃e' w' wv',e'<L.length/\sg s e'=sg s e-1/\H (nx+1)=some [.int .i64 (e':Nat)]/\H m2=some [.msl bF L.length 1 0 L.length]/\H bF=some C/\H (m2+2)=some [wv']/\Row H 2 wv' (cX w')/\(∀b,bd wv'=some b->m2+1<=b/\b<n'/\b≠m2+2/\b≠m3)/\WkOk N L s a e' w'/\∀y,y<nx->H y=H0 y) ?_ ?_ ?_) ?_
 ·rintro k H n' ⟨rfl,q2,q3,q4⟩ hk hadj;refine hy _ _ _ _ q2 rfl ?_;clear hy;have wd:∀x,x≠m3->cl H m3 x=H3 x:=λx b=>(ca b).trans (q3 x b);refine wnY @PE ?_;refine⟨q2,?_⟩;generalize cl H m3=H4 at *;have k4:=(wd (nx+1) (by omega)).trans g4;have k11:=(wd m2 (by omega)).trans g11;have kF:=(wd bF (by omega)).trans gF;have k12:=(wd (m2+2) (by omega)).trans g12;have hck:=hcs k hk;have hce:=hcs e he;have hik:=hix k hk;have hie:=hix e he;have hgk:=hge k;have hge':=hge e;by_cases hs:sg s k=sg s e-1
  ·have z2:decide (sg s k=sg s e-1)=true:=bG hs;have hwl:=hW.cnt;have hwa:=hge a;have hcl:=lV w;refine wnY (fk @PE @k4 @k11 @kF @k12 @hck @hce @hik @hie @z2) ?_;refine d7 (k:=1) (sv:=wv) (xv:=.msl (m3+1) 2 2 0 1) (cs:=cX w) (new:=[.int .i64 k,.int .i64 (oe N L e k:Nat)]) rfl ev0 (hrow.same λb hb=>by have:=hwb b hb;rw[ab (by omega)];exact wd b (by omega)) ev0 (co rfl) rfl rfl (by omega) (by omega) (by omega) ?_;rintro wv' H5 n5' r1 r2 r3 r4 r5;have nw:∀y,y<m2+1\/y=m2+2\/y=m3->bd wv≠some y:=λy hy hh=>by have:=hwb y hh;omega
   have fx:∀y,y<m3->y<m2+1\/y=m2+2->H5 y=H3 y:=λy h1 h2=>by
    rw[r4 y (by omega) (nw y (by omega)),ab (by omega)];exact wd y (by omega)
   have v4:=(fx (nx+1) (by omega) (by omega)).trans g4;have v11:=(fx m2 (by omega) (by omega)).trans g11;have vF:=(fx bF (by omega) (by omega)).trans gF;have v12:=(fx (m2+2) (by omega) (by omega)).trans g12;have hWs:=hW.snoc he hk hadj hs;obtain⟨o5,o6⟩:=r1.one;refine wnY (zI5 @PE @v4 @v12 @o5 @o6) ?_
   have hb5:∀b,bd wv'=some b->m2+1<=b/\b<n5'/\b≠m2+2/\b≠m3:=λb hb=>by
    rcases r5 b hb with h1|h1
    ·have:=hwb b h1;omega
    ·omega
   refine .inr ⟨rfl,ac,by omega,k,_,wv',hk,hs,by simp (disch:=omega) only[ab,ac];rfl,by simp (disch:=omega) only[ab];exact v11,by simp (disch:=omega) only[ab];exact vF,by simp (disch:=omega) only[ab,ac];rfl,?_,hb5,hWs,λy hy=>by simp (disch:=omega) only[ab];exact(fx y (by omega) (by omega)).trans (fr y hy)⟩;rw[kP,EG];exact r1.same λb hb=>by have:=hb5 b hb;simp (disch:=omega) only[ab]
  ·have z2:decide (sg s k=sg s e-1)=false:=bK hs;refine wnY (fk @PE @k4 @k11 @kF @k12 @hck @hce @hik @hie @z2) ?_
   exact .inl ⟨rfl,rfl,ac,fun y hy=>by rw [ab hy]; exact wd y hy,fun j hj ha'=>by
    rcases ij.1 hj with h|rfl
    ·exact q4 j h ha'
    ·exact hs⟩
 ·rintro k H n' ⟨rfl,q2,q3,q4⟩ hk hadj
  exact ⟨rfl,q2,q3,fun j hj ha'=>by
   rcases ij.1 hj with h|rfl
   ·exact q4 j h ha'
   ·rw[hadj] at ha';cases ha'⟩
 ·exact⟨rfl,ac,λy hy=>ab hy,λj hj=>absurd hj (Nat.not_lt_zero _)⟩
 ·rintro _ H4 m4 (⟨rfl,q2,q3,q4⟩|⟨q2,q1,e',w',wv',q3,q4,q5,q6,q7,q8,q9,q10,q11,q12⟩)
  ·exfalso;obtain⟨j,j1,j2,j3⟩:=hlab.pred e he hpos;rw[uf] at j2;exact q4 j j1 j2 j3
  ·refine .inr ⟨.exit 2,(λh=>by cases h),q2,?_⟩;clear hy;have wd:∀x,x≠m3->cl H4 m3 x=H4 x:=λx b=>ca b;rw[show mX 1 (mX 2 (AEx.exit 2))=AEx.normal from rfl];refine a_n ?_;exact⟨(e',w',wv'),by dsimp only;omega,⟨by omega,q3,by dsimp only;omega,(wd _ (by omega)).trans q5,(wd _ (by omega)).trans q6,(wd _ (by omega)).trans q7,(wd _ (by omega)).trans q8,q9.same λb hb=>wd b (by have:=q10 b hb;omega),λb hb=>by have:=q10 b hb;omega,q11,λy hy=>(wd y (by omega)).trans (q12 y hy)⟩,ag0⟩
set_option maxHeartbeats 8000000 in
theorem Ec(p:PrbV)(hs:ShP p)(w0 w1:Nat)(hw0:w0<256)(hw1:w1<256):pU 3 [cI p,.agg [.int .u8 w0,.int .u8 w1]] (.bool true):=by
 refine pO is3 ?_;simp only[b3,aw];have ha:=Dd;have hd:=eZ p;cases hr:im p with
 |false=>
  have hz:=yZ p hs hr;unfold CW at hz;unfold cI at hd hz |-;rw[PC.2.2.2.2.1] at hd hz |-;refine wnY (zI3 @PE @bJ @br) ?_;exact .bool _
 |true=>
 have hok:=vq hs hr;have hz:=AC p hs hr hok;have hwk:=λa b h1 h2 H nx=>Kh p hok a b h1 h2 H nx;obtain⟨s1,s2,s3,s4⟩:=jv p hok;have hfl:=kV p;have hsl:=uB p;have hds:=ea (bw p);have hlab:=λa s(h:Lab (dw p).length (tQ (jU p)) a s)=>HA hok h;have hstp:=λi j hi hj h=>FA hok (i:=i) (j:=j) hi hj h
 have hshn:∀s∈jU p,Shn s:=λs h=>by
  obtain⟨x,hx,rfl⟩:=dK.1 h;have h1:=qs x (dY x).length;have h2:=(s4 x hx).last.1;obtain⟨hck,-,-,-,r6⟩:=eJ hok.e0;obtain⟨-,n5,-,-⟩:=dg hck;show(fG x).length<=_;unfold fG;omega
 have hsy:=uf p.task.n.toNat (dw p);rw[show fq (bw p)=.agg (bw p).cs from rfl,PC.2.2.2.2.2.2.2] at hz hwk hds;unfold cI at hd hz |-;rw[PC.2.2.2.2.1] at hd hz |-;generalize jU p=l at *;generalize dw p=L at *;generalize hA:js p.task.n.toNat L=adj at *;have hLl:L.length=l.length:=by omega
 rw[hLl] at hlab hstp;have hL0:0<l.length:=by omega
 have hrm:∀(w:Nat)(tb tf:Bool),bm .rem tb tf (.int .i64 (w:Int)) (.int .i64 (l.length:Int))=some (.int .i64 ((w%l.length:Nat):Int)):=λw tb tf=>(xJ (by omega) (by omega)).trans (by rw[Int.natCast_emod]);have hr0:=hrm w0;have hr1:=hrm w1;have hal:=Nat.mod_lt w0 hL0;have hbl:=Nat.mod_lt w1 hL0;generalize w0%l.length=a at *;generalize w1%l.length=b at *;clear hrm;have cv0:IntKind.wrap .i64 (w0:Int)=w0:=iU (by omega) (by omega);have cv1:IntKind.wrap .i64 (w1:Int)=w1:=iU (by omega) (by omega);refine wnY (zI9 @PE @IX2 @bJ @br @aW @hr0 @hr1 @cv0 @cv1) ?_;refine a7 ev0 ev0 (hwk a b (by omega) (by omega) _ _) ?_;rintro rr H1 n1 ⟨m1,fr1,s,hlb,hge,hres⟩;have k3:H1 3=some [bo l]:=(fr1 3 (by omega)).trans (by simp (disch:=omega) only[ab,ac];rfl)
 obtain⟨w,wv,fd,rfl,hfd,hrow,hwb,hW⟩:∃w wv fd,rr=.tup [wv,.bool fd,.int .i64 0]/\fd=decide (0<=sg s a)/\Row H1 2 wv (cX w)/\(∀b,bd wv=some b->4<=b/\b<n1)/\(0<=sg s a->WkOk p.task.n.toNat L s a b w):=by
  rcases hres with⟨q1,q2⟩|⟨q1,w,wv,q2,q3,q4,q5⟩
  ·exact⟨[],.esl,false,q2,(bK (by omega)).symm,.nil,λb h=>(by cases h),λh=>by omega⟩
  ·exact⟨w,wv,true,q3,(bG q1).symm,q4,λb h=>q5 b h,λ_=>q2⟩
 obtain⟨o1,o2⟩:=hrow.one;clear hres fr1 hwk;have zz:=aI @o1 @o2;repeat' (first|apply a_n|refine zO ?_|refine vY ?_|refine alY ?_|refine stY ?_|fail)
 have hn1:bd wv≠some n1:=λe=>by have:=hwb n1 e;omega
 obtain⟨Hf,H2,hfz,g11,hoth⟩:=Bj (H:=ar (ar H1 n1 [AV.esl]) n1 (bE [AV.esl] 0 [wv])) (c:=n1) (hrow.same λb hb=>by have:=hwb b hb;simp (disch:=omega) only[ab]) ac hn1;have g3:H2 3=some [bo l]:=(hoth 3 (by omega) (λe=>by have:=hwb 3 e;omega)).trans (by simp (disch:=omega) only[ab];exact k3);refine jw ?_;refine jw ?_;refine qu Hf H2 [(6,.ptr 3 1 0),(9,.int .i64 a),(10,.int .i64 b),(11,.ptr n1 1 0),(12,.bool fd),(13,.int .i64 0)] hfz (eN (by simp (disch:=omega) only[agr,ZG,reduceEqDiff,↓reduceIte,SL])) ?_;refine wnY (zI5 @PE @bJ @br @aW @g3) ?_;refine a7 ev0 ev0 (D3 (n1+1) (-1) l.length (by omega) (by omega) _ (n1+1+1) ac (by omega)) ?_;rintro _ H3 n3 ⟨rfl,g14,rfl,fr3⟩;have u3:H3 3=some [bo l]:=(fr3 3 (by omega)).trans (by simp (disch:=omega) only[ab];exact g3);have u11:H3 n1=some [aG w]:=(fr3 n1 (by omega)).trans (by simp (disch:=omega) only[ab];exact g11);clear zz;clear fr3 g3 g11 hoth hfz k3 hrow hwb hn1 o1 o2;obtain⟨B,hBB⟩:∃B,n1+1+1=B:=⟨_,rfl⟩
 rw[hBB] at g14 |-;have hix:=λk h=>oZ (b:=B) (m:=l.length) (k:=k) h;have hi:=hix a hal;have hrl:(List.replicate l.length (-1:Int)).length=l.length:=List.length_replicate;have hpt:=yx (s:=List.replicate l.length (-1:Int)) (k:=a) (by omega) 0;have hst:=Bfs.start (adj:=tQ l) hal;have hu0:=Di hal;have hm0:=AP hal;generalize List.replicate l.length (-1:Int)=C at *;refine wnY (zI5 @PE @SV3 @NKI @u3 @hi) ?_;refine lm (b:=B) (n:=l.length) (off:=a) (cs:=C.map (AV.int .i64)) (vs:=[.int .i64 0]) rfl ev0 ev0 g14 rfl rfl (by rw[bD];exact hrl) rfl (by omega) ?_;rw[hpt];refine wnY (zI3 @PE @SV3 @NKI) ?_
 refine bj (X:=List Int×List Nat×AV) (λx=>[(6,.ptr 3 1 0),(9,.int .i64 a),(10,.int .i64 b),(11,.ptr n1 1 0),(12,.bool fd),(14,.msl B l.length 1 0 l.length),(15,x.2.2)]) (λx H n'=>n1+4<=n'/\H 3=some [bo l]/\H n1=some [aG w]/\H B=some (x.1.map (AV.int .i64))/\Qu H x.2.2 (qi x.2.1)/\(∀b,bd x.2.2=some b->n1+3<=b/\b<n')/\Bfs l.length (tQ l) a x.1 x.2.1/\iW x.1 x.2.1<=l.length/\Upp l.length x.1) (λx=>iW x.1 x.2.1) (C.set a 0,[a],.msl (B+1) 1 1 0 1)
  ⟨by omega,by simp (disch:=omega) only[ab];exact u3,by simp (disch:=omega) only[ab];exact u11,by simp (disch:=omega) only[ab,ac],Qu.mk (B+1) 0 1 [.int .i64 a] _ (by simp (disch:=omega) only[ac]) rfl (by omega) rfl,λb h=>by cases h;omega,hst,hm0,hu0⟩ (by simp (disch:=omega) only[agr,ZG,reduceEqDiff,↓reduceIte,SL]) ?_
 clear u3 u11 g14 hst hm0 hpt hrl hi hu0;rintro⟨s0,q,qv⟩ H4 n4 ⟨i1,g3,g11,g14,hq,hqb,hB,hM,hU⟩;dsimp only at g14 hq hqb hB hM hU |-;have hql:=hq.len;rw[o9] at hql;obtain⟨o1,o2⟩:=hq.one;cases q with
 |cons h r=>
  obtain⟨hh,hh2⟩:=hB.inq h (ju ..);have z1:decide (((h::r).length:Int)>0)=true:=bG (by rw[dJ];omega);refine wnY (zI9 @PE @SV3 @NKI @bJ @br @aW @g3 @hql @z1) ?_
  refine bj (X:=Nat×List Int×List Nat×AV) (λx=>[(6,.ptr 3 1 0),(9,.int .i64 a),(10,.int .i64 b),(11,.ptr n1 1 0),(12,.bool fd),(14,.msl B l.length 1 0 l.length),(15,x.2.2.2),(70,bo l),(71,.int .i64 l.length),(72,.int .i64 x.1)]) (λx H n'=>x.1<=l.length/\n1+4<=n'/\H 3=some [bo l]/\H n1=some [aG w]/\H B=some (x.2.1.map (AV.int .i64))/\Qu H x.2.2.2 (qi x.2.2.1)/\(∀b,bd x.2.2.2=some b->n1+3<=b/\b<n')/\BfsI l.length (tQ l) a h x.1 x.2.1 x.2.2.1/\iW x.2.1 x.2.2.1<=iW s0 (h::r)/\Upp l.length x.2.1) (λx=>l.length-x.1) (0,s0,h::r,qv)
   ⟨bz _,i1,g3,g11,g14,hq,hqb,hB.begin rfl,aZ _,hU⟩ (by simp (disch:=omega) only[agr,ZG,reduceEqDiff,↓reduceIte,SL]) ?_
  clear g3 g11 g14 hq hqb hql o1 o2 i1 hU z1;rintro⟨k,s1,q,qv1⟩ H5 n5 ⟨hk,i2,g3,g11,g14,hq1,hqb1,hI,hm1,hU1⟩;dsimp only at hk g14 hq1 hqb1 hI hm1 hU1 |-
  obtain⟨r2,rfl⟩:∃r2,q=h::r2:=by
   have:=hI.hd;cases q with
   |nil=>cases this
   |cons x l=>cases this;exact⟨l,rfl⟩
  obtain⟨o1,o2⟩:=hq1.one;by_cases hk2:k<l.length
  rotate_left
  ·obtain rfl:k=l.length:=by omega
   obtain⟨v',hv1,hv2,hv3⟩:=hq1.tl;have hfin:=hI.finish (aZ _);obtain⟨o7,o8⟩:=hv2.one;have hbm:iW s1 (h::r2)=iW s1 r2+1:=by unfold iW;rw[dJ];omega
   refine wnY (zI8 @PE @SV3 @NKI @o1 @o2 @o7 @o8 @hv1) ?_;exact⟨(s1,r2,v'),by dsimp only;omega,⟨i2,g3,g11,g14,hv2,λb hb=>hqb1 b (hv3 b hb),hfin,by dsimp only;omega,hU1⟩,by simp (disch:=omega) only[agr,ZG,reduceEqDiff,↓reduceIte,SL]⟩
  have ixk:=o0 hk2;have ixh:=o0 hh;have hcf:=pZ (l.getD h default) (λv=>decide (v∈l.getD k default)) 10 [.iptr [aG (l.getD k default)] 0] (DatL.cons (Dat.iptr (DatL.cons (bT _) DatL.nil)) DatL.nil) (λv hv=>JU _ v (hshn _ (au hk2))) (hshn _ (au hh));rw[show(l.getD h default).any (λv=>decide (v∈l.getD k default))=tQ l h k from rfl] at hcf;obtain⟨p1,hp1,hp2⟩:=hq1.hd;have hp4:∀X Y,rd1 (ar (ar H5 n5 X) n5 Y) p1=some (.int .i64 h):=λX Y=>hp2 _ λb hb=>by have:=hqb1 b hb;simp (disch:=omega) only[ab]
  generalize hcm:tQ l h k=cm at *;generalize hsk:l.getD k default=sk at *;refine wkY (aI @PE (aI @SV3 (aI @NKI (aI @bO (aI @bH (fk @bJ @br @aW @g3 @o1 @o2 @hp1 @hp4 @ixk @ixh)))))) ?_;refine ec ev0 ev0 hcf (aC (af (bT _ _) (af (fY (af (dF (by simp (disch:=omega) only[ac];rfl) rfl (af (bT _ _) aj)) aj)) aj)) rfl) ?_;have hsl:s1.length=l.length:=hI.b.len;have hck:=kA (s:=s1) (k:=k) (by omega);have hik:=hix k hk2;have hml:(s1.map (AV.int .i64)).length=l.length:=by rw[bD];exact hsl
  have skip:∀(H':Hp)(n':Nat),(∀y,y<n5->H' y=H5 y)->n5<=n'->(cm=true->0<=sg s1 k)->(k+1<=l.length/\n1+4<=n'/\H' 3=some [bo l]/\H' n1=some [aG w]/\H' B=some (s1.map (AV.int .i64))/\Qu H' qv1 (qi (h::r2))/\(∀b,bd qv1=some b->n1+3<=b/\b<n')/\BfsI l.length (tQ l) a h (k+1) s1 (h::r2)/\iW s1 (h::r2)<=iW s0 (h::r)/\Upp l.length s1):=λH' n' e1 e2 e3=>⟨by omega,by omega,(e1 3 (by omega)).trans g3,(e1 n1 (by omega)).trans g11,(e1 B (by omega)).trans g14,hq1.same λb hb=>e1 b (by have:=hqb1 b hb;omega),λb hb=>by have:=hqb1 b hb;omega,hI.skip (λh=>e3 (by rw[<-hcm];exact h)),hm1,hU1⟩
  cases cm with
  |false=>
   clear hck hik hml;refine wnY (aI @PE (fk @SV3 @NKI @bO @bH @bJ @br @aW @g3 @o1 @o2)) ?_;exact⟨(k+1,s1,h::r2,qv1),by dsimp only;omega,skip _ _ (λy hy=>by simp (disch:=omega) only[ab]) (by omega) (λh=>by cases h),by simp (disch:=omega) only[agr,ZG,reduceEqDiff,↓reduceIte,SL]⟩
  |true=>
  by_cases hs:sg s1 k<0
  rotate_left
  ·have z2:decide (sg s1 k<0)=false:=bK hs;generalize hC1:s1.map (AV.int .i64)=C1 at *;refine wnY (aI @PE (aI @SV3 (aI @NKI (aI @bO (aI @bH (aI @bJ (fk @br @aW @g3 @g14 @o1 @o2 @hik @hck @hml @z2))))))) ?_;exact⟨(k+1,s1,h::r2,qv1),by dsimp only;omega,by dsimp only;rw[hC1];exact skip _ _ (λy hy=>by simp (disch:=omega) only[ab]) (by omega) (λ_=>by omega),by simp (disch:=omega) only[agr,ZG,reduceEqDiff,↓reduceIte,SL]⟩
  have z2:decide (sg s1 k<0)=true:=bG hs;have hih:=hix h hh;have hch:=kA (s:=s1) (k:=h) (by omega);have hh0:=(hI.b.inq h (ju ..)).2;have hh1:=hU1.le h;have hpt:=yx (s:=s1) (k:=k) (by omega) (sg s1 h+1);have hvs:=hI.visit hk2 hcm hs;have hvm:=l4 (s:=s1) (q:=h::r2) (k:=k) (x:=sg s1 h+1) (by omega) hs (by omega);have hvu:=hU1.visit (h:=h) (k:=k) (by omega) hs hh0
  have hql2:(qi (h::r2)).length<=1000000:=by
   rw[o9];have:iW s1 (h::r2)<=1000000:=by omega
   unfold iW at this;omega
  clear skip;generalize sg s1 k=vk at *;generalize sg s1 h=vh at *;generalize s1.map (AV.int .i64)=C1 at *;refine wnY (aI @PE (aI @SV3 (aI @NKI (aI @bO (aI @bH (aI @bJ (aI @br (aI @aW (aI @g3 (aI @g14 (fk @o1 @o2 @hik @hck @hml @z2 @hih @hch @hp1 @hp4))))))))))) ?_;refine Cv (sv:=qv1) (xv:=.msl (n5+1) 1 1 0 1) (z:=(k:Int)) ev0 (hq1.same λb hb=>by have:=hqb1 b hb;simp (disch:=omega) only[ab]) (by simp[qi]) ev0 (co rfl) hql2 (λb hb=>by have:=hqb1 b hb;omega) ?_;rintro sv' H6 n6 r1 r2' r3 r4;have nq:∀y,y<n1+3->bd qv1≠some y:=λy hy h=>by have:=hqb1 y h;omega
  have v3:H6 3=some [bo l]:=by rw[r3 3 (by omega) (nq 3 (by omega))];simp (disch:=omega) only[ab];exact g3
  have v11:H6 n1=some [aG w]:=by rw[r3 n1 (by omega) (nq n1 (by omega))];simp (disch:=omega) only[ab];exact g11
  have v14:H6 B=some ((s1.set k (vh+1)).map (AV.int .i64)):=by rw[r3 B (by omega) (nq B (by omega))];simp (disch:=omega) only[ab,ac];rw[hpt]
  obtain⟨o5,o6⟩:=r1.one;rw[<-xN] at r1;refine wnY (zI5 @PE @SV3 @NKI @o5 @o6) ?_;refine⟨(k+1,s1.set k (vh+1),h::r2++[k],sv'),by dsimp only;omega,⟨by dsimp only;omega,by omega,v3,v11,v14,r1,λb hb=>?_,hvs,by dsimp only;omega,hvu⟩,by simp (disch:=omega) only[agr,ZG,reduceEqDiff,↓reduceIte,SL]⟩;rcases r4 b hb with⟨x1,x2|x2⟩
  ·have:=hqb1 b x2;omega
  ·omega
 |nil=>
  have z0:decide ((0:Int)<(([]:List Nat).length:Nat))=false:=rfl;have hlt:=hlab a s0 hB.lab;rw[hLl] at hlb;have hsw:=F4 hsy hal hbl hlt hlb;have hsl0:s0.length=l.length:=hB.len;have hcb:=kA (s:=s0) (k:=b) (by omega);have hib:=hix b hbl;have hml:(s0.map (AV.int .i64)).length=l.length:=by rw[bD];exact hsl0
  generalize s0.map (AV.int .i64)=C at *;cases fd with
  |false=>
   have hneg:¬0<=sg s a:=of_decide_eq_false hfd.symm;have z2:decide (sg s0 b<0)=true:=bG (by omega);refine wnY (aI @PE (aI @SV3 (aI @NKI (aI @bJ (aI @br (aI @aW (fk @aS @g3 @g11 @hql @z0 @g14 @hcb @hib @hml @z2))))))) ?_;exact .bool _
  |true=>
  have hpos:0<=sg s a:=pG hfd.symm;obtain⟨w1,w2,w3,w4,w5⟩:=hW hpos;have hsb:=hlb.zero;have hwl:w.length<=61:=by have:=(hge a).2;omega
  have e0:cA 2 (aG w) (.int .i64 0)=some (.iptr [.int .i64 (w.getD 0 default).color,.int .i64 (w.getD 0 default).label] 0):=ix2 (k:=0) w1
  have e1:cA 2 (aG w) (.int .i64 ((w.length:Int)-1))=some (.iptr [.int .i64 (w.getD (w.length-1) default).color,.int .i64 (w.getD (w.length-1) default).label] 0):=by
   rw[show(w.length:Int)-1=((w.length-1:Nat):Int) by omega];exact ix2 (by omega)
  have z2:decide ((w.length:Int)=0)=false:=bK (by omega);have z3:decide (sg s0 b≠(w.length:Int)-1)=false:=bK (by omega);have z4:decide ((w.getD 0 default).color≠(a:Int))=false:=bK (by omega);have z5:decide ((w.getD (w.length-1) default).color≠(b:Int))=false:=bK (by omega);refine wnY (aI @PE (aI @SV3 (aI @NKI (aI @bJ (aI @br (aI @aW (aI @aS (aI @g3 (aI @g11 (aI @hql (aI @z0 (fk @g14 @hcb @hib @hml @e0 @e1 @z2 @z3 @z4 @z5)))))))))))) ?_
  refine bj (X:=Nat×Nat) (λx=>[(6,.ptr 3 1 0),(11,.ptr n1 1 0),(19,.ptr x.2 1 0)]) (λx H n'=>1<=x.1/\x.1<=w.length/\n1<x.2/\x.2<n'/\H 3=some [bo l]/\H n1=some [aG w]/\H x.2=some [.int .i64 x.1]) (λx=>w.length-x.1) (1,n4)
   ⟨aZ _,w1,by dsimp only;omega,by dsimp only;omega,by simp (disch:=omega) only[ab];exact g3,by simp (disch:=omega) only[ab];exact g11,ac⟩ (by simp (disch:=omega) only[agr,ZG,reduceEqDiff,↓reduceIte,SL]) ?_
  clear g3 g11 g14 hcb hib hml;rintro⟨i,c⟩ H5 n5 ⟨j1,j2,j3,j4,g3,g11,gc⟩;dsimp only at j1 j2 j3 j4 gc |-;by_cases hi:i<w.length
  rotate_left
  ·have z6:decide ((i:Int)<w.length)=false:=bK (by omega);refine wnY (zI7 @PE @SV3 @NKI @aS @g11 @gc @z6) ?_;exact .bool _
  obtain⟨x,y,q1,q2,q3,q4,q5⟩:=w5 (i-1) (by omega)
  have e2:w.getD i default=⟨(y:Nat),(oe p.task.n.toNat L x y:Nat)⟩:=by
   rwa [show i-1+1=i by omega] at q4
  have eii:cA 2 (aG w) (.int .i64 (i:Int))=some (.iptr [.int .i64 (y:Nat),.int .i64 (oe p.task.n.toNat L x y:Nat)] 0):=by
   have:=ix2 hi
   rwa [e2] at this
  have eim:cA 2 (aG w) (.int .i64 ((i:Int)-1))=some (.iptr [.int .i64 (x:Nat),.int .i64 (w.getD (i-1) default).label] 0):=by
   rw[show(i:Int)-1=((i-1:Nat):Int) by omega];have:=ix2 (l:=w) (k:=i-1) (by omega)
   rwa [q3] at this
  rw[hLl] at q1 q2;rw[hA] at q5;have hs5:=hstp x y q1 q2 q5;have ixx:=o0 q1;have hcf:=pZ (l.getD x default) (λv=>decide (v.color=(w.getD i default).label)&&decide (v∈l.getD y default)) 12 [.iptr [aG w] 0,.iptr [.int .i64 i] 0,.iptr [bo l] 0,.iptr [.int .i64 (y:Nat)] 0] (DatL.cons (Dat.iptr (DatL.cons (bT _) DatL.nil)) (DatL.cons (Dat.iptr (DatL.cons .int DatL.nil)) (DatL.cons (Dat.iptr (DatL.cons (cR _) DatL.nil)) (DatL.cons (Dat.iptr (DatL.cons .int DatL.nil)) DatL.nil)))) (λv hv=>KH w i l y v hi q2 hshn) (hshn _ (au q1));rw[e2,show(l.getD x default).any (λv=>decide (v.color=(⟨(y:Nat),(oe p.task.n.toNat L x y:Nat)⟩:Vtx).label)&&decide (v∈l.getD y default))=true from hs5] at hcf;have z6:decide ((i:Int)<w.length)=true:=bG (by omega);have z7:decide ((x:Int)<0)=false:=bK (by omega);have z8:decide ((y:Int)<0)=false:=bK (by omega);have z9:decide ((x:Int)≥l.length)=false:=bK (by omega);have z10:decide ((y:Int)≥l.length)=false:=bK (by omega);refine wnY (aI @PE (aI @SV3 (aI @NKI (aI @bO (aI @bH (aI @bJ (aI @br (aI @aS (aI @aW (aI @g3 (fk @g11 @gc @z6 @z7 @z8 @z9 @z10 @eii @eim @ixx))))))))))) ?_;refine ec ev0 ev0 hcf (aC (af (bT _ _) (af (fY (af (dF (by simp (disch:=omega) only[ab];exact g11) rfl (af (bT _ _) aj)) (af (dF (by simp (disch:=omega) only[ab];exact gc) rfl (af (.int _ _) aj)) (af (dF (by simp (disch:=omega) only[ab];exact g3) rfl (af (cR _ _) aj)) (af (dF (by simp (disch:=omega) only[ac];rfl) rfl (af (.int _ _) aj)) aj))))) aj)) rfl) ?_
  refine wnY (zI6 @PE @SV3 @NKI @g3 @g11 @gc) ?_;exact⟨(i+1,n5+1),by dsimp only;omega,⟨by dsimp only;omega,by dsimp only;omega,by dsimp only;omega,by dsimp only;omega,by simp (disch:=omega) only[ab];exact g3,by simp (disch:=omega) only[ab];exact g11,by simp (disch:=omega) only[ac];rfl⟩,by simp (disch:=omega) only[agr,ZG,reduceEqDiff,↓reduceIte,SL]⟩
end
theorem AQ(p:PrbV)(hs:ShP p)(l:List Int)(h:l.length=2/\∀a∈l,(Lit.int .u8 a).wf=true):pU 3 [cI p,.agg (l.flatMap λa=>(AV.int .u8 a).cells)] (.bool true):=by
 obtain⟨h1,h2⟩:=h
 match l,h1,h2 with
 |[a,b],_,h2=>
  obtain⟨x,rfl,hx⟩:=N5 (h2 a (ju ..));obtain⟨y,rfl,hy⟩:=N5 (h2 b (qq _ (ju ..)));exact Ec p hs x y hx hy
end Go.Proofs.YtmpcledaoigkaaaGreat
namespace Go.Proofs.YtmpcledaoigkaaaGreat
open Go Go.Abs Go.RowKit Go.ChangeShapes Go.WideShapes Go.ChangeAt
theorem vE{H:Type}{enc:TypeId×Value->H}{P:Program}{f:Func}{s:ChangeSpec}{apart fresh handsOn again:Bool}{W W':World}{args:Array Value}{v:Value}{ds gs:List (DataW H)}{before pa pv:List MemPlace}
    (hW:DataW.Whole enc P f.params.toList s.vars apart W args.toList ds gs before)
    (hres:∀(b:Nat)(sp:Nat->Bool)(hd:Bool),DataW.TrodAll enc P W' b sp hd f.resultTypes.toList (v.resultList f.resultTypes.size) (s.fn H (ds++gs)).results [])
    (hargs:∀sp:Nat->Bool,(∀p∈before,sp p.block=true)->DataW.TrodAll enc P W' 0 sp true f.params.toList args.toList (s.fn H (ds++gs)).args pa)
    (hvars:∀sp:Nat->Bool,(∀p∈before,sp p.block=true)->DataW.TrodVars enc P W' sp s.vars (s.fn H (ds++gs)).vars pv)
    (hps:before=pa++pv) (hb:Below W.heap.size W W')
    (hok:∀(j:Nat)(t:TypeId)(r:Value),f.resultTypes[j]?=some t->(v.resultList f.resultTypes.size)[j]?=some r->Value.okWide P W' .any 0 t r):
    s.post enc P f apart fresh handsOn again W args v W':=by
 have hold:∀p∈before,(λb=>decide (b<W.heap.size)) p.block=true:=λp hp=>by simpa using hW.lt p hp
 have hlt:=λp hp=>hW.lt p hp;refine⟨ds,gs,before,[],pa,pv,hW,hres _ _ _,hargs _ hold,hvars _ hold,World.keptBut_mono (λp hp=>⟨hp,?_⟩) (hb.frame _),λ_=>?_⟩
 ·rw[hps,iG] at hp;exact Or.inr hp
 ·obtain⟨_,_,_,_,_,hz,hn⟩:=hW;refine⟨hok,_,_,([]++pa)++pv,⟨[]++pa,pv,trodAll_append (hargs _ (λ_ _=>rfl)) (hres _ _ _),hvars _ (λ_ _=>rfl),rfl,?_,?_⟩,?_⟩
  ·intro b off hp;have hp':MemPlace.cell b off∈before:=by rw[hps];simpa using hp
   rw[hb.frozen (hlt _ hp')];exact hz b off hp'
  ·intro ha;have:=hn ha;rw[hps] at this;simpa using this
  ·intro p hp _;rw[hps];simpa using hp
theorem EH{E:Env}{w:World}:dH E w [] []:=⟨rfl,λi x y h=>(by cases h)⟩
theorem wS{E:Env}{w:World}{x:AV}{y:Value}{xs:List AV}{ys:List Value}(h:Rel E w x y)(hs:dH E w xs ys):dH E w (x::xs) (y::ys):=by
 refine⟨by simp[hs.1],λi a b ha hb=>?_⟩;cases i with
 |zero=>simp at ha hb;subst ha hb;exact h
 |succ i=>simp at ha hb;exact hs.2 i a b ha hb
theorem own:ownKnob Tryz.prog.godebug=none:=by kernel_rfl
end Go.Proofs.YtmpcledaoigkaaaGreat
