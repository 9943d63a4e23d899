/- Contracts of functions and plain laws, for all inputs that the theorems name. -/
import Derived.Test.YtmpcledaoigkaaaGreatXG5
import Derived.Test.YtmpcledaoigkaaaGreatXG4
import Derived.Test.YtmpcledaoigkaaaGreatXG3
import Derived.Test.YtmpcledaoigkaaaGreatRows
import Derived.WalkKit
import Derived.ProofKit
import Derived.OpenShut

set_option linter.unusedSimpArgs false
set_option linter.unusedVariables false
set_option maxHeartbeats 4000000
namespace Go.Proofs.YtmpcledaoigkaaaGreat
open Go Go.Abs Tk
open Nat (reduceEqDiff reduceAdd reduceLeDiff)
def mj(l:List Int):Int:=l.foldl (λn x=>if x=n then n+1 else n) 0
theorem qR(l:List Int)(x:Int):mj (l++[x])=if x=mj l then mj l+1 else mj l:=by
 unfold mj;rw[List.foldl_append];rfl
theorem y8:∀l:List Int,0<=mj l/\mj l<=(l.length:Int):=λl=>by
 induction l using Df with
 |nil=>exact⟨Int.le_refl _,Int.le_refl _⟩
 |snoc l x ih=>
  rw[qR,cm,List.length_singleton];split<;>omega
def Pt(l:List Int):Prop:=∀k,k<l.length->0<=l.getD k 0/\l.getD k 0<=mj (l.take k)
theorem dP{l:List Int}{x:Int}{k:Nat}(h:k<l.length):(l++[x]).getD k 0=l.getD k 0:=by
 simp only[li];rw[gZ h]
theorem gl{l:List Int}{x:Int}:(l++[x]).getD l.length 0=x:=by
 simp only[li];rw[iG (ba _),Nat.sub_self];rfl
theorem HR{l:List Int}{i j:Nat}{x:Int}(h:i≠j):(l.set i x).getD j 0=l.getD j 0:=by
 simp only[li];rw[List.getElem?_set_ne h]
theorem Pt.snoc{l:List Int}{x:Int}(h:Pt l)(h0:0<=x)(h1:x<=mj l):Pt (l++[x]):=λk hk=>by
 rw[cm,List.length_singleton] at hk;by_cases e:k<l.length
 ·rw[dP e,vA (by omega)];exact h k e
 ·obtain rfl:k=l.length:=by omega
  rw[gl,vA (ba _),List.take_length];exact⟨h0,h1⟩
theorem Pt.nil:Pt []:=λk h=>absurd h (Nat.not_lt_zero _)
theorem Ej{l:List Int}{k:Nat}(h:k<l.length):mj (l.take (k+1))=if l.getD k 0=mj (l.take k) then mj (l.take k)+1 else mj (l.take k):=by
 have e:l.take (k+1)=l.take k++[l.getD k 0]:=by
  rw[List.take_add_one];simp[List.getD,h]
 rw[e,qR]
structure CS where
 ks:List Int
 vs:List Int
 nx:Nat
 out:List Int
def AJ(s:CS)(v:Int):Bool:=decide (v∉s.ks\/v<0)
def xt(s:CS)(v:Int):CS:=if AJ s v=true then⟨if v∈s.ks then s.ks else s.ks++[v],if v∈s.ks then s.vs.set (s.ks.idxOf v) s.nx else s.vs++[(s.nx:Int)],s.nx+1,s.out++[(s.nx:Int)]⟩ else⟨s.ks,s.vs,s.nx,s.out++[s.vs.getD (s.ks.idxOf v) 0]⟩
def jl(l:List Int):CS:=l.foldl xt ⟨[],[],0,[]⟩
def yL(l:List Int):List Int:=(jl l).out
theorem oq(l:List Int)(v:Int):jl (l++[v])=xt (jl l) v:=by unfold jl;rw[List.foldl_append];rfl
structure CI(l:List Int)(s:CS):Prop where
 len:s.out.length=l.length
 kv:s.vs.length=s.ks.length
 nx:mj s.out=(s.nx:Int)
 pt:Pt s.out
 lt:∀i,i<l.length->s.out.getD i 0<(s.nx:Int)
 mem:∀v,v∈s.ks↔v∈l
 val:∀i,i<l.length->0<=l.getD i 0->s.vs.getD (s.ks.idxOf (l.getD i 0)) 0=s.out.getD i 0
 cls:∀i j,i<l.length->j<l.length->(s.out.getD i 0=s.out.getD j 0↔i=j\/(0<=l.getD i 0/\l.getD i 0=l.getD j 0))
theorem yJ{l:List Int}{v:Int}(h:v∈l)(x:Int):(l++[x]).idxOf v=l.idxOf v:=by rw[List.idxOf_append,if_pos h]
theorem jV:∀l:List Int,CI l (jl l):=λl=>by
 induction l using Df with
 |nil=>exact⟨rfl,rfl,rfl,Pt.nil,λi h=>absurd h (Nat.not_lt_zero _),λv=>Iff.rfl,λi h=>absurd h (Nat.not_lt_zero _),λi j h=>absurd h (Nat.not_lt_zero _)⟩
 |snoc l v ih=>
  obtain⟨len,kv,nx,pt,lt,mem,val,cls⟩:=ih;rw[oq];generalize jl l=s at *;have hL:(l++[v]).length=l.length+1:=by simp
  have key:∀(x:Int)(nx':Nat),(x=s.nx/\nx'=s.nx+1\/0<=x/\x<s.nx/\nx'=s.nx)->(s.out++[x]).length=(l++[v]).length/\mj (s.out++[x])=(nx':Int)/\Pt (s.out++[x])/\∀i,i<(l++[v]).length->(s.out++[x]).getD i 0<(nx':Int):=λx nx' hx=>by
   refine⟨by simp[len],?_,pt.snoc (by omega) (by rw[nx];omega),λi hi=>?_⟩
   ·rw[qR,nx];split<;>omega
   ·rw[hL] at hi;by_cases e:i<l.length
    ·rw[dP (by omega)];have:=lt i e;omega
    ·rw[show i=s.out.length by omega,gl];omega
  unfold xt;by_cases hn:AJ s v=true
  ·rw[if_pos hn];obtain⟨k1,k2,k3,k4⟩:=key s.nx (s.nx+1) (.inl ⟨rfl,rfl⟩);have hn':=sV hn;refine⟨k1,?_,k2,k3,k4,λw=>?_,λi hi h0=>?_,λi j hi hj=>?_⟩
   ·show(if v∈s.ks then s.vs.set (s.ks.idxOf v) s.nx else s.vs++[(s.nx:Int)]).length=(if v∈s.ks then s.ks else s.ks++[v]).length;split
    ·rw[List.length_set];exact kv
    ·rw[cm,cm,kv];rfl
   ·show w∈(if v∈s.ks then s.ks else s.ks++[v])↔w∈l++[v];rw[gV,ed,<-mem w];split
    ·rename_i hv;exact⟨λh=>.inl h,λh=>h.elim id λe=>e▸hv⟩
    ·rw[gV,ed]
   ·show(if v∈s.ks then s.vs.set (s.ks.idxOf v) s.nx else s.vs++[(s.nx:Int)]).getD ((if v∈s.ks then s.ks else s.ks++[v]).idxOf ((l++[v]).getD i 0)) 0=(s.out++[(s.nx:Int)]).getD i 0;rw[hL] at hi;by_cases e:i<l.length
    ·rw[dP e] at h0 |-;rw[dP (by omega),<-val i e h0];have hm:l.getD i 0∈s.ks:=(mem _).2 (au e);have hlt:=List.idxOf_lt_length_of_mem hm;by_cases hv:v∈s.ks
     ·rw[if_pos hv,if_pos hv]
      have hne:s.ks.idxOf v≠s.ks.idxOf (l.getD i 0):=λq=>by
       have h1:=List.idxOf_lt_length_of_mem hv;have e1:s.ks[s.ks.idxOf v]'h1=v:=List.getElem_idxOf h1;have e2:s.ks[s.ks.idxOf (l.getD i 0)]'hlt=l.getD i 0:=List.getElem_idxOf hlt;have e3:v=l.getD i 0:=by rw[<-e1,<-e2];simp only[q]
       rcases hn' with h|h
       ·exact h hv
       ·omega
      exact HR hne
     ·rw[if_neg hv,if_neg hv,yJ hm,dP (by omega)]
    ·have hi':i=l.length:=by omega
     subst hi';rw[gl] at h0 |-
     have hv:v∉s.ks:=by
      rcases hn' with h|h
      ·exact h
      ·omega
     rw[if_neg hv,if_neg hv,<-len,gl];have:(s.ks++[v]).idxOf v=s.vs.length:=by rw[List.idxOf_append,if_neg hv,kv];simp
     rw[this,gl]
   ·show(s.out++[(s.nx:Int)]).getD i 0=(s.out++[(s.nx:Int)]).getD j 0↔_;rw[hL] at hi hj
    have hfresh:∀i,i<l.length->¬(0<=l.getD i 0/\l.getD i 0=v):=λi hi ⟨h1,h2⟩=>by
     rcases hn' with h|h
     ·exact h ((mem v).2 (h2▸au hi))
     ·omega
    by_cases ei:i<l.length
    ·by_cases ej:j<l.length
     ·rw[dP (by omega),dP (by omega),dP ei,dP ej];exact cls i j ei ej
     ·obtain rfl:j=l.length:=by omega
      rw[dP (by omega),dP ei,<-len,gl,len,gl];have:=lt i ei
      exact ⟨fun h=>by omega,fun h=>by
       rcases h with h|h
       ·omega
       ·exact absurd h (hfresh i ei)⟩
    ·obtain rfl:i=l.length:=by omega
     by_cases ej:j<l.length
     ·rw[dP (l:=s.out) (k:=j) (by omega),dP ej,<-len,gl,len,gl];have:=lt j ej
      exact ⟨fun h=>by omega,fun h=>by
       rcases h with h|⟨h1,h2⟩
       ·omega
       ·exact absurd ⟨by omega,h2.symm⟩ (hfresh j ej)⟩
     ·obtain rfl:j=l.length:=by omega
      exact⟨λ_=>.inl rfl,λ_=>rfl⟩
  ·rw[if_neg hn]
   have hn':v∈s.ks/\0<=v:=by
    have:¬(v∉s.ks\/v<0):=λh=>hn (bH h);exact⟨Classical.byContradiction λh=>this (.inl h),by omega⟩
   obtain⟨hv,hv0⟩:=hn';obtain⟨j0,hj0,hj1⟩:=nr ((mem v).1 hv);have ej0:l.getD j0 0=v:=by simp[List.getD,hj0,hj1]
   have hval:=val j0 hj0 (by omega);rw[ej0] at hval;have hp:=pt j0 (by omega);obtain⟨k1,k2,k3,k4⟩:=key (s.vs.getD (s.ks.idxOf v) 0) s.nx (.inr ⟨by rw[hval];exact hp.1,by rw[hval];exact lt j0 hj0,rfl⟩)
   have hE:∀i,i<l.length->((s.out.getD i 0=s.vs.getD (s.ks.idxOf v) 0)↔l.getD i 0=v):=λi hi=>by
    rw[hval,cls i j0 hi hj0,ej0]
    exact ⟨fun h=>by
     rcases h with rfl|h
     ·exact ej0
     ·exact h.2,λh=>.inr ⟨by omega,h⟩⟩
   refine⟨k1,kv,k2,k3,k4,λw=>?_,λi hi h0=>?_,λi j hi hj=>?_⟩
   ·rw[gV,ed,<-mem w];exact⟨λh=>.inl h,λh=>h.elim id λe=>e▸hv⟩
   ·show s.vs.getD (s.ks.idxOf ((l++[v]).getD i 0)) 0=(s.out++[s.vs.getD (s.ks.idxOf v) 0]).getD i 0;rw[hL] at hi;by_cases e:i<l.length
    ·rw[dP e] at h0 |-;rw[dP (by omega)];exact val i e h0
    ·obtain rfl:i=l.length:=by omega
     rw[gl,<-len,gl]
   ·show(s.out++[s.vs.getD (s.ks.idxOf v) 0]).getD i 0=(s.out++[s.vs.getD (s.ks.idxOf v) 0]).getD j 0↔_;rw[hL] at hi hj;by_cases ei:i<l.length
    ·by_cases ej:j<l.length
     ·rw[dP (by omega),dP (by omega),dP ei,dP ej];exact cls i j ei ej
     ·obtain rfl:j=l.length:=by omega
      rw[dP (by omega),dP ei,<-len,gl,len,gl,hE i ei]
      exact ⟨fun h=>.inr ⟨by omega,h⟩,fun h=>by
       rcases h with h|h
       ·omega
       ·exact h.2⟩
    ·obtain rfl:i=l.length:=by omega
     by_cases ej:j<l.length
     ·rw[dP (l:=s.out) (k:=j) (by omega),dP ej,<-len,gl,len,gl];refine⟨λh=>.inr ⟨hv0,((hE j ej).1 h.symm).symm⟩,λh=>?_⟩;rcases h with h|h
      ·omega
      ·exact((hE j ej).2 h.2.symm).symm
     ·obtain rfl:j=l.length:=by omega
      exact⟨λ_=>.inl rfl,λ_=>rfl⟩
theorem HO:∀{l:List Int},(∀v∈l,0<=v)->(jl l).nx=(jl l).ks.length:=λ{l}=>by
 induction l using Df with
 |nil=>intro _;rfl
 |snoc l v ih=>
  intro h;have ih:=ih λw hw=>h w (qs _ hw);have hv:=h v (sK _ (ed.2 rfl));rw[oq];unfold xt;by_cases hn:AJ (jl l) v=true
  ·rw[if_pos hn];have hn':=sV hn;show(jl l).nx+1=(if v∈(jl l).ks then(jl l).ks else(jl l).ks++[v]).length;rw[if_neg (by rcases hn' with h|h;exact h;omega),cm,ih];rfl
  ·rw[if_neg hn];exact ih
def jb(L:List (List Int))(e f p:Nat):Bool:=decide (0<=(L.getD e []).getD p 0/\(L.getD e []).getD p 0=(L.getD f []).getD p 0)
def mz(g:Nat->Bool):Nat->Nat
 |0=>0
 |p+1=>mz g p+if g p=true then 2^p else 0
theorem qG(g:Nat->Bool):∀p,mz g p<2^p
 |0=>Nat.zero_lt_one
 |p+1=>by
  have:=qG g p;rw[mz,Nat.pow_succ];split<;>omega
theorem A5(g:Nat->Bool):∀n p,mz g n/2^p%2=if p<n/\g p=true then 1 else 0
 |0,p=>by simp[mz]
 |n+1,p=>by
  have h0:=qG g n;have ih:=A5 g n p;rw[mz];by_cases hp:p<n
  ·have e:(2:Nat)^n=2^p*(2*2^(n-p-1)):=by rw[<-Nat.mul_assoc,<-Nat.pow_succ,<-Nat.pow_add];congr 1;omega
   have:(mz g n+if g n=true then 2^n else 0)/2^p%2=mz g n/2^p%2:=by
    split
    ·rw[e,Nat.add_mul_div_left _ _ (Nat.pos_of_ne_zero (by simp))];omega
    ·rfl
   rw[this,ih];have q:(p<n+1/\g p=true)↔(p<n/\g p=true):=⟨λh=>⟨hp,h.2⟩,λh=>⟨by omega,h.2⟩⟩
   simp only[q]
  ·by_cases e:p=n
   ·subst e;by_cases hg:g p=true
    ·rw[if_pos hg,if_pos ⟨by omega,hg⟩,Nat.add_div_right _ (Nat.pos_of_ne_zero (by simp)),Nat.div_eq_of_lt h0]
    ·rw[if_neg hg,if_neg (λh=>hg h.2),sL,Nat.div_eq_of_lt h0]
   ·rw[if_neg (λh:p<n+1/\_=>by omega)];have h1:=qG g (n+1);rw[mz] at h1;have h2:2^(n+1)<=2^p:=Nat.pow_le_pow_right (by omega) (by omega);rw[Nat.div_eq_of_lt (Av h1 h2)]
theorem uC{g:Nat->Bool}:∀{n},mz g n=0↔ ∀p,p<n->g p=false
 |0=>⟨λ_ p h=>absurd h (Nat.not_lt_zero _),λ_=>rfl⟩
 |n+1=>by
  have ih:=uC (g:=g) (n:=n);have h2:0<2^n:=Nat.pos_of_ne_zero (by simp);rw[mz];constructor
  ·intro h p hp;by_cases e:p=n
   ·subst e;cases hg:g p with
    |false=>rfl
    |true=>rw[hg,if_pos rfl] at h;omega
   ·exact ih.1 (by omega) p (by omega)
  ·intro h;rw[ih.2 λp hp=>h p (by omega),h n (by omega),if_neg (by decide)]
def K3(g:Nat->Bool)(n:Nat):Nat:=((List.range n).find? g).getD 0
theorem Jc{g:Nat->Bool}{n p:Nat}(hp:p<n)(hg:g p=true)(hz:∀i,i<p->g i=false):K3 g n=p:=by
 unfold K3
 have:(List.range n).find? g=some p:=by
  rw[List.find?_range_eq_some];exact⟨hg,iR.2 hp,λi hi=>by rw[hz i hi];rfl⟩
 rw[this];rfl
theorem Qn{p:Nat}(hp:p<=20)(tb tf:Bool):bo .shl tb tf (.int .i64 1) (.int .i64 (p:Int))=some (.int .i64 ((2^p:Nat):Int)):=by
 rw[Fs,Nat.min_eq_left (by omega),Int.one_mul];have h:(2:Nat)^p<=2^20:=Nat.pow_le_pow_right (by omega) hp
 have:IntKind.wrap .i64 ((2:Int)^p)=((2^p:Nat):Int):=by
  have e:((2:Int)^p)=((2^p:Nat):Int):=by simp
  rw[e];generalize (2^p:Nat)=m at *;exact jK (by omega) (by omega)
 rw[this]
theorem orB{g:Nat->Bool}{p:Nat}(hp:p<=20)(tb tf:Bool):bo .or tb tf (.int .i64 (mz g p:Nat)) (.int .i64 ((2^p:Nat):Int))=some (.int .i64 ((mz g p+2^p:Nat):Int)):=by
 have h:(2:Nat)^p<=2^20:=Nat.pow_le_pow_right (by omega) hp;have h0:=qG g p;rw[K8 (by simp only[IntKind.bits];omega) (by simp only[IntKind.bits];omega)];have:=Nat.two_pow_add_eq_or_of_lt h0 1;rw[Nat.mul_one] at this;rw[Nat.or_comm,<-this,Nat.add_comm]
def uF(n:Nat)(L:List (List Int))(e f:Nat):Nat:=mz (jb L e f) n
theorem E8{L:List (List Int)}{e:Nat}(h:e<L.length):cu 1 (bm L) (.int .i64 (e:Int))=some (.iptr [aD (L.getD e [])] 0):=by
 rw[pz,if_pos ⟨by omega,by omega⟩,bR];rfl
theorem NKI:∀(c:List AV)(o:Nat),Kb (.iptr c o)=some (.iptr c o):=λ_ _=>rfl
def col(L:List (List Int))(p:Nat):List Int:=L.map λl=>l.getD p 0
theorem K4(a b:Int):nL (.one .int) (.int .i64 a) (.int .i64 b)=some (decide (a=b)):=by
 show some (a==b)=_;rfl
theorem y5(v:Int)(ks:List Int):eT (.one .int) (.int .i64 v) (ks.map (AV.int .i64))=some (if v∈ks then some (ks.idxOf v) else none):=lH _ _ K4 v ks
theorem n9{l:List Int}{i:Nat}(h:i<l.length):(l.map (AV.int .i64)).getD i .undef=.int .i64 (l.getD i 0):=by simp[List.getD,h]
theorem yV(o:List Int)(m:Nat)(h:o.length<m)(x:Int):bw ((o++List.replicate (m-o.length) (0:Int)).map (AV.int .i64)) o.length [.int .i64 x]=((o++[x])++List.replicate (m-(o++[x]).length) (0:Int)).map (AV.int .i64):=by
 rw[ga (by rw[bC,cm,List.length_replicate];omega),jv,List.set_append_right _ _ (ba _),Nat.sub_self,show m-o.length=(m-(o++[x]).length)+1 by rw[cm,List.length_singleton];omega,List.replicate_succ,gK];rfl
theorem Je{b m k:Nat}(h:k<m):cu 1 (.msl b m 1 0 m) (.int .i64 (k:Int))=some (.ptr b m k):=by
 rw[gu,if_pos ⟨by omega,by omega⟩,bR,cp,Nat.mul_one]
inductive Cn(R:Nat->Nat->Prop):Nat->Nat->Prop
 |refl (i:Nat):Cn R i i
 |step {i j k:Nat} (h:R i j) (t:Cn R j k):Cn R i k
theorem Cn.trans{R:Nat->Nat->Prop}{i j k:Nat}(h:Cn R i j)(t:Cn R j k):Cn R i k:=by
 induction h with
 |refl=>exact t
 |step h _ ih=>exact .step h (ih t)
theorem Cn.one{R:Nat->Nat->Prop}{i j:Nat}(h:R i j):Cn R i j:=.step h (.refl _)
theorem Cn.symm{R:Nat->Nat->Prop}(hs:∀i j,R i j->R j i){i j:Nat}(h:Cn R i j):Cn R j i:=by
 induction h with
 |refl=>exact .refl _
 |step h _ ih=>exact ih.trans (.one (hs _ _ h))
theorem Cn.mono{R S:Nat->Nat->Prop}(hs:∀i j,R i j->Cn S i j){i j:Nat}(h:Cn R i j):Cn S i j:=by
 induction h with
 |refl=>exact .refl _
 |step h _ ih=>exact(hs _ _ h).trans ih
def up(P:List Nat)(i:Nat):Nat:=P.getD i i
def rtF(P:List Nat):Nat->Nat->Nat
 |0,i=>i
 |k+1,i=>rtF P k (up P i)
def rt(P:List Nat)(i:Nat):Nat:=rtF P i i
def Fst(P:List Nat):Prop:=∀i,up P i<=i
theorem tC{P:List Nat}{i:Nat}(h:up P i=i):∀k,rtF P k i=i
 |0=>rfl
 |k+1=>by rw[rtF,h];exact tC h k
theorem tT{P:List Nat}(hP:Fst P):∀(k i:Nat),i<=k->rtF P k i=rtF P i i
 |0,0,_=>rfl
 |0,i+1,h=>absurd h (by omega)
 |k+1,i,h=>by
  by_cases e:up P i=i
  ·rw[tC e,tC e]
  ·have:=hP i;cases i with
   |zero=>omega
   |succ i=>
    rw[rtF,rtF];rw[tT hP k _ (by omega),tT hP i _ (by omega)]
theorem so{P:List Nat}(hP:Fst P)(i:Nat):rt P (up P i)=rt P i:=by
 unfold rt;have:=hP i;cases i with
 |zero=>rw[show up P 0=0 by omega]
 |succ i=>
  by_cases e:up P (i+1)=i+1
  ·rw[e]
  ·rw[show rtF P (i+1) (i+1)=rtF P i (up P (i+1)) from rfl,tT hP i _ (by omega)]
theorem kR{P:List Nat}{i:Nat}(h:up P i=i):rt P i=i:=tC h i
theorem rU{P:List Nat}(hP:Fst P)(i:Nat):rt P i<=i:=by
 have:∀k i,rtF P k i<=i:=λk=>by
  induction k with
  |zero=>intro i;exact ba _
  |succ k ih=>intro i;exact fA (ih _) (hP i)
 exact this i i
theorem tM{P:List Nat}(hP:Fst P):∀i,up P (rt P i)=rt P i:=λi=>by
 induction i using Nat.strongRecOn with
 |ind i ih=>
  by_cases e:up P i=i
  ·rw[kR e];exact e
  ·have:=hP i;rw[<-so hP i];exact ih _ (by omega)
theorem Fc{P Q:List Nat}(hP:Fst P)(hQ:Fst Q)(f:Nat->Nat)(h1:∀i,up Q i=i->f (rt P i)=i)(h2:∀i,up Q i≠i->f (rt P (up Q i))=f (rt P i)):∀i,rt Q i=f (rt P i):=λi=>by
 induction i using Nat.strongRecOn with
 |ind i ih=>
  by_cases e:up Q i=i
  ·rw[kR e,h1 i e]
  ·have:=hQ i;rw[<-so hQ i,ih _ (by omega),h2 i e]
theorem px{P:List Nat}{i x:Nat}(hi:i<P.length)(j:Nat):up (P.set i x) j=if j=i then x else up P j:=by
 unfold up;by_cases e:j=i
 ·subst e;rw[if_pos rfl];simp[List.getD,List.getElem?_set,hi]
 ·rw[if_neg e];simp only[li];rw[List.getElem?_set_ne (Ne.symm e)]
theorem Fst.halve{P:List Nat}(hP:Fst P){i:Nat}(hi:i<P.length):Fst (P.set i (up P (up P i)))/\∀j,rt (P.set i (up P (up P i))) j=rt P j:=by
 have hQ:Fst (P.set i (up P (up P i))):=λj=>by
  rw[px hi];split
  ·rename_i e;subst e;exact fA (hP _) (hP _)
  ·exact hP j
 refine⟨hQ,Fc hP hQ id (λj hj=>?_) (λj hj=>?_)⟩
 ·rw[px hi] at hj;split at hj
  ·rename_i e;subst e;have h1:=hP j;have h2:=hP (up P j);exact kR (by omega)
  ·exact kR hj
 ·show rt P (up _ j)=rt P j;rw[px hi];split
  ·rename_i e;subst e;rw[so hP,so hP]
  ·exact so hP j
theorem Fst.join{P:List Nat}(hP:Fst P){p q:Nat}(hp:up P p=p)(hq:up P q=q)(hm:max p q<P.length):Fst (P.set (max p q) (min p q))/\∀j,rt (P.set (max p q) (min p q)) j=if rt P j=max p q then min p q else rt P j:=by
 have hQ:Fst (P.set (max p q) (min p q)):=λj=>by
  rw[px hm];split
  ·rename_i e;omega
  ·exact hP j
 have hmx:up P (max p q)=max p q:=by rcases Nat.le_total p q with h|h<;>simp[Nat.max_eq_right,Nat.max_eq_left,h,hp,hq]
 have hmn:up P (min p q)=min p q:=by rcases Nat.le_total p q with h|h<;>simp[Nat.min_eq_right,Nat.min_eq_left,h,hp,hq]
 refine⟨hQ,Fc hP hQ (λx=>if x=max p q then min p q else x) (λj hj=>?_) (λj hj=>?_)⟩
 ·rw[px hm] at hj;split at hj
  ·rename_i e;show(if rt P j=max p q then min p q else rt P j)=j;rw[e,kR hmx,if_pos rfl];omega
  ·rename_i e;show(if rt P j=max p q then min p q else rt P j)=j;rw[kR hj,if_neg e]
 ·rw[px hm] at hj |-;split
  ·rename_i e;subst e;show(if rt P (min p q)=max p q then min p q else rt P (min p q))=if rt P (max p q)=max p q then min p q else rt P (max p q)
   rw[kR hmn,kR hmx,if_pos rfl];split<;>rfl
  ·show(if rt P (up P j)=max p q then min p q else rt P (up P j))=if rt P j=max p q then min p q else rt P j
   rw[so hP]
def Snd(m:Nat)(R:Nat->Nat->Prop)(P:List Nat):Prop:=∀i j,i<m->j<m->rt P i=rt P j->Cn R i j
theorem Snd.join{m:Nat}{R:Nat->Nat->Prop}(hs:∀i j,R i j->R j i){P:List Nat}(hP:Fst P)(h:Snd m R P)(hl:P.length=m){i k:Nat}(hi:i<m)(hk:k<m)(hR:Cn R i k):Snd m R (P.set (max (rt P i) (rt P k)) (min (rt P i) (rt P k))):=λx y hx hy e=>by
 have l1:=rU hP i;have l2:=rU hP k;have e':=(hP.join (tM hP i) (tM hP k) (by omega)).2;rw[e',e'] at e
 have hrt:∀z,z<m->rt P z=max (rt P i) (rt P k)\/rt P z=min (rt P i) (rt P k)->Cn R z i:=λz hz h'=>by
  have:rt P z=rt P i\/rt P z=rt P k:=by omega
  rcases this with h1|h1
  ·exact h z i hz hi h1
  ·exact(h z k hz hk h1).trans (hR.symm hs)
 by_cases ex:rt P x=max (rt P i) (rt P k)
 ·by_cases ey:rt P y=max (rt P i) (rt P k)
  ·exact h x y hx hy (by rw[ex,ey])
  ·rw[if_pos ex,if_neg ey] at e;exact(hrt x hx (.inl ex)).trans ((hrt y hy (.inr e.symm)).symm hs)
 ·by_cases ey:rt P y=max (rt P i) (rt P k)
  ·rw[if_neg ex,if_pos ey] at e;exact(hrt x hx (.inr e)).trans ((hrt y hy (.inl ey)).symm hs)
  ·rw[if_neg ex,if_neg ey] at e;exact h x y hx hy e
inductive Qu(H:Hp):AV->List Int->Prop
 |nil:Qu H (.sl 1 []) []
 |mk (b off len:Nat) (cs:List AV) (q:List Int) (hb:H b=some cs) (hl:cs.length=off+len) (h0:0<off+len) (hd:cs.drop off=q.map (AV.int .i64)):Qu H (.msl b (off+len) 1 off len) q
theorem Qu.same{H H':Hp}{v:AV}{q:List Int}(h:Qu H v q)(hs:∀b,bk v=some b->H' b=H b):Qu H' v q:=by
 cases h with
 |nil=>exact .nil
 |mk b off len cs q hb hl h0 hd=>exact .mk b off len cs q ((hs b rfl).trans hb) hl h0 hd
theorem Qu.len{H:Hp}{v:AV}{q:List Int}(h:Qu H v q):dw v=some (.int .i64 q.length):=by
 cases h with
 |nil=>rfl
 |mk b off len cs q hb hl h0 hd=>
  have:=congrArg List.length hd;rw[rH,bC] at this;rw[show q.length=len by omega];rfl
theorem Qu.one{H:Hp}{v:AV}{q:List Int}(h:Qu H v q):v.one=true/\v.cells=[v]:=by
 cases h<;>exact⟨rfl,rfl⟩
theorem Qu.hd{H:Hp}{v:AV}{x:Int}{q:List Int}(h:Qu H v (x::q)):∃p,cu 1 v (.int .i64 0)=some p/\∀H':Hp,(∀b,bk v=some b->H' b=H b)->rd1 H' p=some (.int .i64 x):=by
 cases h with
 |mk b off len cs q hb hl h0 hd=>
  have hlen:=congrArg List.length hd;rw[rH,bC,d5] at hlen;refine⟨.ptr b (off+len) off,?_,λH' hs=>?_⟩
  ·rw[gu,if_pos ⟨by omega,by omega⟩];rfl
  ·rw[x7 ((hs b rfl).trans hb) hl];have:=congrArg (λl=>l[0]?) hd;simpa using this
theorem Qu.tl{H:Hp}{v:AV}{x:Int}{q:List Int}(h:Qu H v (x::q)):∃v',lq 1 v (some (.int .i64 1)) none none=some v'/\Qu H v' q/\∀b,bk v'=some b->bk v=some b:=by
 cases h with
 |mk b off len cs q hb hl h0 hd=>
  have hlen:=congrArg List.length hd;rw[rH,bC,d5] at hlen;have e:off+len=(off+1)+(len-1):=by omega
  by_cases h1:1<len
  ·refine⟨.msl b (off+len) 1 (off+1) (len-1),?_,?_,λ_ h=>h⟩
   ·show(if 1=1/\1<=len/\len<=len/\off+len≠0 then(if 1=0\/1<len then some (AV.msl b (off+len) 1 (off+1*1) (len-1)) else some (.sl 1 [])) else _)=_;rw[if_pos ⟨rfl,by omega,ba _,by omega⟩,if_pos (.inr h1)]
   ·have:=Qu.mk (H:=H) b (off + 1) (len - 1) cs q hb (by omega) (by omega) (by
      rw[<-List.drop_drop,hd];rfl)
    rwa [<-e] at this
  ·have hq:q=[]:=eG.1 (by omega);subst hq;refine⟨.sl 1 [],?_,.nil,λ_ h=>(by cases h)⟩;show(if 1=1/\1<=len/\len<=len/\off+len≠0 then(if 1=0\/1<len then some (AV.msl b (off+len) 1 (off+1*1) (len-1)) else some (.sl 1 [])) else _)=_;rw[if_pos ⟨rfl,by omega,ba _,by omega⟩,if_neg (by omega)]
theorem IS{P:Program}{T:Tm}{H:Hp}{nx:Nat}{K:SP}{l:List Op2}{d:Option Nat}{s x:Opd}{sv xv:AV}{q:List Int}{z:Int}(hs:ov T s=sv)(hq:Qu H sv q)(hq0:q≠[])(hx:ov T x=xv)(hsrc:e7 1 H xv=some (1,[.int .i64 z]))(hl:q.length<=1000000)(hb:∀b,bk sv=some b->b<nx)
    (next:∀(sv':AV)(H':Hp)(nx':Nat),Qu H' sv' (q++[z])->nx<=nx'->(∀y,y<nx->bk sv≠some y->H' y=H y)->(∀b,bk sv'=some b->b<nx'/\(bk sv=some b\/nx<=b))->ah P .text l (aO T d sv') H' nx' K):
    ah P .text (⟨d,none,.app 1 8 s x⟩::l) T H nx K:=by
 cases hq with
 |nil=>exact absurd rfl hq0
 |mk b off len cs q hbb hl' h0 hd=>
  have hlen:=congrArg List.length hd;rw[rH,bC] at hlen;have hb':=hb b rfl;refine Kr (k:=1) hs hbb hx hsrc rfl hl' h0 (by omega) (by omega) (by omega) ?_ ?_
  ·rw[Nat.one_mul]
   refine next _ _ _ (Qu.mk b off (len + 1) (cs ++ [.int .i64 z]) _ ac (by rw [cm]; simp; omega) (by omega) (by
    rw[List.drop_append_of_le_length (by omega),hd,du];rfl)) (ba _) (λy hy h=>ab λe=>h (by rw[e];rfl)) (λb2 h2=>?_)
   cases h2;exact⟨hb',.inl rfl⟩
  ·rw[Nat.mul_one]
   have:=Qu.mk (H:=ap H nx (cs.drop off ++ [.int .i64 z])) nx 0 (len + 1) (cs.drop off ++ [.int .i64 z]) (q ++ [z]) ac (by rw [cm,rH]; simp; omega) (by omega) (by
    rw[List.drop_zero,hd,du];rfl)
   rw[cp] at this;refine next _ _ _ this (by omega) (λy hy h=>ab (by omega)) (λb2 h2=>?_);cases h2;exact⟨by omega,.inr (ba _)⟩
def sg(s:List Int)(i:Nat):Int:=s.getD i (-1)
theorem xZ{s:List Int}{j:Nat}{x:Int}(h:j<s.length)(i:Nat):sg (s.set j x) i=if i=j then x else sg s i:=by
 unfold sg;by_cases e:i=j
 ·subst e;rw[if_pos rfl];simp[List.getD,List.getElem?_set,h]
 ·rw[if_neg e];simp[List.getD,List.getElem?_set,Ne.symm e]
inductive Pth(n:Nat)(adj:Nat->Nat->Bool)(a:Nat):Nat->Nat->Prop
 |zero:Pth n adj a a 0
 |succ {i j k:Nat} (h:Pth n adj a i k) (hi:i<n) (hj:j<n) (ha:adj i j=true):Pth n adj a j (k+1)
theorem Pth.pre{n:Nat}{adj:Nat->Nat->Bool}{a b i k:Nat}(h:Pth n adj a i k)(hb:b<n)(han:a<n)(e:adj b a=true):Pth n adj b i (k+1):=by
 induction h with
 |zero=>exact .succ .zero hb han e
 |succ _ hi hj ha ih=>exact .succ ih hi hj ha
structure Lab(n:Nat)(adj:Nat->Nat->Bool)(a:Nat)(s:List Int):Prop where
 len:s.length=n
 zero:sg s a=0
 pred:∀i,i<n->0<sg s i->∃j,j<n/\adj j i=true/\sg s j=sg s i-1
 next:∀i j,i<n->j<n->0<=sg s i->adj i j=true->0<=sg s j/\sg s j<=sg s i+1
 root:∀i,i<n->sg s i=0->i=a
theorem Lab.le{n:Nat}{adj:Nat->Nat->Bool}{a:Nat}{s:List Int}(h:Lab n adj a s){i k:Nat}(p:Pth n adj a i k):0<=sg s i/\sg s i<=k:=by
 induction p with
 |zero=>rw[h.zero];omega
 |succ _ hi hj ha ih=>have:=h.next _ _ hi hj ih.1 ha;omega
structure Bfs(n:Nat)(adj:Nat->Nat->Bool)(a:Nat)(s:List Int)(q:List Nat):Prop where
 len:s.length=n
 zero:sg s a=0
 ge:∀i,-1<=sg s i
 pred:∀i,i<n->0<sg s i->∃j,j<n/\adj j i=true/\sg s j=sg s i-1
 root:∀i,i<n->sg s i=0->i=a
 inq:∀x∈q,x<n/\0<=sg s x
 mono:q.Pairwise λx y=>sg s x<=sg s y
 top:∀h r,q=h::r->∀i,i<n->sg s i<=sg s h+1
 old:∀i j,i<n->j<n->0<=sg s i->i∉q->adj i j=true->0<=sg s j/\sg s j<=sg s i+1
structure BfsI(n:Nat)(adj:Nat->Nat->Bool)(a h k:Nat)(s:List Int)(q:List Nat):Prop where
 b:Bfs n adj a s q
 hd:q.head?=some h
 part:∀j,j<k->j<n->adj h j=true->0<=sg s j
theorem Bfs.start{n:Nat}{adj:Nat->Nat->Bool}{a:Nat}(h:a<n):Bfs n adj a ((List.replicate n (-1)).set a 0) [a]:=by
 have hl:a<(List.replicate n (-1:Int)).length:=by simpa using h
 have e:∀i,sg ((List.replicate n (-1:Int)).set a 0) i=if i=a then 0 else-1:=λi=>by
  rw[xZ hl]
  have:sg (List.replicate n (-1:Int)) i=-1:=by
   unfold sg;simp only[List.getD,List.getElem?_replicate];split<;>rfl
  rw[this]
 refine⟨by simp,by rw[e,if_pos rfl],λi=>by rw[e];split<;>omega,λi _ hp=>?_,λi _ hp=>?_,λx hx=>?_,List.pairwise_singleton _ _,λh' r hq i _=>?_,λi j hi hj hp hni _=>?_⟩
 ·rw[e] at hp;split at hp<;>omega
 ·rw[e] at hp;split at hp
  ·assumption
  ·omega
 ·rw[ed.1 hx];exact⟨h,by rw[e,if_pos rfl];omega⟩
 ·cases hq;rw[e,e,if_pos rfl];split<;>omega
 ·rw[e] at hp;split at hp
  ·rename_i q;exact absurd (ed.2 q) hni
  ·omega
theorem Bfs.begin{n:Nat}{adj:Nat->Nat->Bool}{a h:Nat}{s:List Int}{q:List Nat}(b:Bfs n adj a s q)(hq:q.head?=some h):BfsI n adj a h 0 s q:=⟨b,hq,λj hj=>absurd hj (Nat.not_lt_zero _)⟩
theorem BfsI.visit{n:Nat}{adj:Nat->Nat->Bool}{a h k:Nat}{s:List Int}{q:List Nat}(b:BfsI n adj a h k s q)(hk:k<n)(ha:adj h k=true)(hn:sg s k<0):BfsI n adj a h (k+1) (s.set k (sg s h+1)) (q++[k]):=by
 obtain⟨⟨len,zero,ge,pred,root,inq,mono,top,old⟩,hd,part⟩:=b
 obtain⟨r,rfl⟩:∃r,q=h::r:=by
  cases q with
  |nil=>cases hd
  |cons x r=>cases hd;exact⟨r,rfl⟩
 have hl:k<s.length:=by omega
 have e:=λi=>xZ (s:=s) (j:=k) (x:=sg s h+1) hl i;have hh:=inq h (jZ ..);have hkh:h≠k:=λq=>by rw[q] at hh;omega
 have hka:a≠k:=λq=>by rw[<-q,zero] at hn;omega
 have hkq:k∉h::r:=λq=>by have:=(inq k q).2;omega
 have hne:∀x∈h::r,x≠k:=λx hx q=>hkq (q▸hx)
 refine ⟨⟨by rw [List.length_set]; exact len,by rw [e,if_neg hka]; exact zero,fun i=>by
  rw[e];split
  ·omega
  ·exact ge i,λi hi hp=>?_,λi hi hp=>?_,λx hx=>?_,?_,λh' r' hq i hi=>?_,λi j hi hj hp hni hij=>?_⟩,rfl,λj hj hjn haj=>?_⟩
 ·rw[e] at hp;by_cases hik:i=k
  ·subst hik;exact⟨h,hh.1,ha,by rw[e,e,if_neg hkh,if_pos rfl];omega⟩
  ·rw[if_neg hik] at hp;obtain⟨j,h1,h2,h3⟩:=pred i hi hp;have hjk:j≠k:=λq=>by rw[q] at h3;omega
   exact⟨j,h1,h2,by rw[e,e,if_neg hjk,if_neg hik];exact h3⟩
 ·rw[e] at hp;split at hp
  ·omega
  ·exact root i hi hp
 ·rw[e];rcases gV.1 hx with hx|hx
  ·have:=inq x hx;split
   ·omega
   ·exact this
  ·rw[ed.1 hx,if_pos rfl];exact⟨hk,by omega⟩
 ·rw[List.pairwise_append];refine⟨mono.imp_of_mem λhx hy q=>?_,List.pairwise_singleton _ _,λx hx y hy=>?_⟩
  ·rw[e,e,if_neg (hne _ hx),if_neg (hne _ hy)];exact q
  ·rw[ed.1 hy,e,e,if_pos rfl,if_neg (hne _ hx)];exact top h r rfl x (inq x hx).1
 ·cases hq;rw[e,e,if_neg hkh];split
  ·omega
  ·exact top h r rfl i hi
 ·rw[e] at hp;have hni':i∉h::r:=λq=>hni (qs _ q);have hik:i≠k:=λq=>hni (sK _ (by rw[q];exact ed.2 rfl));rw[if_neg hik] at hp;have:=old i j hi hj hp hni' hij;rw[e,e,if_neg hik];split
  ·rename_i q;subst q;omega
  ·exact this
 ·rw[e];split
  ·omega
  ·exact part j (by omega) hjn haj
theorem BfsI.skip{n:Nat}{adj:Nat->Nat->Bool}{a h k:Nat}{s:List Int}{q:List Nat}(b:BfsI n adj a h k s q)(ha:adj h k=true->0<=sg s k):BfsI n adj a h (k+1) s q:=
 ⟨b.b,b.hd,fun j hj hjn haj=>by
  by_cases e:j=k
  ·subst e;exact ha haj
  ·exact b.part j (by omega) hjn haj⟩
theorem BfsI.finish{n:Nat}{adj:Nat->Nat->Bool}{a h k:Nat}{s:List Int}{q:List Nat}(b:BfsI n adj a h k s q)(hk:n<=k):Bfs n adj a s (q.drop 1):=by
 obtain⟨⟨len,zero,ge,pred,root,inq,mono,top,old⟩,hd,part⟩:=b
 obtain⟨r,rfl⟩:∃r,q=h::r:=by
  cases q with
  |nil=>cases hd
  |cons x r=>cases hd;exact⟨r,rfl⟩
 rw[qZ] at mono;have hh:=inq h (jZ ..);refine⟨len,zero,ge,pred,root,λx hx=>inq x (pF _ hx),mono.2,λh' r' hq i hi=>?_,λi j hi hj hp hni hij=>?_⟩
 ·have hq:r=h'::r':=hq;have h1:=mono.1 h' (by rw[hq];exact jZ ..);have h2:=top h r rfl i hi;omega
 ·by_cases e:i=h
  ·subst e;exact⟨part j (by omega) hj hij,top i r rfl j hj⟩
  ·exact old i j hi hj hp (λq=>(fR.1 q).elim e λq=>hni q) hij
theorem Bfs.lab{n:Nat}{adj:Nat->Nat->Bool}{a:Nat}{s:List Int}(b:Bfs n adj a s []):Lab n adj a s:=
 ⟨b.len,b.zero,b.pred,λi j hi hj hp hij=>b.old i j hi hj hp (λh=>by cases h) hij,b.root⟩
def qN(s:List Int)(q:List Nat):Nat:=s.countP (λx=>decide (x<0))+q.length
theorem mq:∀{s:List Int}{k:Nat}{x:Int},k<s.length->sg s k<0->0<=x->(s.set k x).countP (λx=>decide (x<0))+1=s.countP (λx=>decide (x<0))
 |[],k,x,h,_,_=>absurd h (Nat.not_lt_zero _)
 |y::s,0,x,h,h1,h2=>by
  have h1:y<0:=h1;rw[List.set_cons_zero,List.countP_cons,List.countP_cons,if_neg (by simpa using h2),if_pos (by simpa using h1)]
 |y::s,k+1,x,h,h1,h2=>by
  rw[List.set_cons_succ,List.countP_cons,List.countP_cons];have:=mq (s:=s) (k:=k) (x:=x) (by simpa using h) h1 h2;omega
theorem vR{s:List Int}{q:List Nat}{k:Nat}{x:Int}(h:k<s.length)(h1:sg s k<0)(h2:0<=x):qN (s.set k x) (q++[k])=qN s q:=by
 have:=mq h h1 h2;unfold qN;rw[cm,List.length_singleton];omega
theorem Lab.mono{n:Nat}{adj adj':Nat->Nat->Bool}{a:Nat}{s:List Int}(h:Lab n adj a s)(h1:∀i j,adj i j=true->adj' i j=true)(h2:∀i j,adj' i j=true->i≠j->adj i j=true):Lab n adj' a s:=
 ⟨h.len,h.zero,fun i hi hp=>by obtain ⟨j,q1,q2,q3⟩:=h.pred i hi hp; exact ⟨j,q1,h1 _ _ q2,q3⟩,fun i j hi hj hp hij=>by
  by_cases e:i=j
  ·subst e;omega
  ·exact h.next i j hi hj hp (h2 i j hij e),h.root⟩
theorem zf{s:List Int}{k:Nat}(h:k<s.length):(s.map (AV.int .i64))[k]?=some (.int .i64 (sg s k)):=by
 simp[sg,List.getD,h]
theorem Hz{s:List Int}{k:Nat}(h:k<s.length)(x:Int):bw (s.map (AV.int .i64)) k [.int .i64 x]=(s.set k x).map (AV.int .i64):=by
 rw[ga (by rw[bC];exact h),jv]
theorem yH{b m k:Nat}(h:k<m):cu 1 (.msl b m 1 0 m) (.int .i64 (k:Int))=some (.ptr b m k):=by
 rw[gu,if_pos ⟨by omega,by omega⟩,bR,cp,Nat.mul_one]
def qi(q:List Nat):List Int:=q.map λ(k:Nat)=>(k:Int)
def Upp(m:Nat)(s:List Int):Prop:=∀i,sg s i+((s.countP λx=>decide (x<0):Nat):Int)<=(m:Int)
theorem Upp.le{m:Nat}{s:List Int}(h:Upp m s)(i:Nat):sg s i<=(m:Int):=by have:=h i;omega
theorem Upp.visit{m h k:Nat}{s:List Int}(u:Upp m s)(hk:k<s.length)(h1:sg s k<0)(h2:0<=sg s h):Upp m (s.set k (sg s h+1)):=λi=>by
 have hc:=mq hk h1 (show 0<=sg s h+1 by omega);have e:=xZ (x:=sg s h+1) hk i;have q1:=u i;have q2:=u h;rw[e];split<;>omega
theorem BR(q:List Nat)(k:Nat):qi (q++[k])=qi q++[(k:Int)]:=du
theorem vE(q:List Nat):(qi q).length=q.length:=bC _
def lQ(P:List Nat):List AV:=(qi P).map (AV.int .i64)
theorem mP(P:List Nat):(lQ P).length=P.length:=by unfold lQ;rw[bC,vE]
theorem rl{P:List Nat}{k:Nat}(h:k<P.length):(lQ P)[k]?=some (.int .i64 (up P k:Nat)):=by
 simp[lQ,qi,up,List.getD,h]
theorem uV{P:List Nat}{k:Nat}(h:k<P.length)(x:Nat):bw (lQ P) k [.int .i64 (x:Nat)]=lQ (P.set k x):=by
 rw[ga (by rw[mP];exact h)];unfold lQ qi;rw[List.map_set,List.map_set]
def RJ(a b:List Int)(i j:Nat):Prop:=i<a.length/\j<a.length/\(a.getD i 0=a.getD j 0\/b.getD i 0=b.getD j 0)
theorem RJ.symm(a b:List Int):∀i j,RJ a b i j->RJ a b j i:=λi j ⟨h1,h2,h3⟩=>⟨h2,h1,h3.imp Eq.symm Eq.symm⟩
theorem A2(m i:Nat):up (List.range m) i=i:=by
 unfold up;by_cases h:i<m
 ·simp[List.getD,h]
 ·simp[List.getD,h]
theorem AX(m i:Nat):rt (List.range m) i=i:=kR (A2 m i)
theorem Fy(k:Nat):qi (List.range (k+1))=qi (List.range k)++[(k:Int)]:=by rw[List.range_succ,BR]
def ym(l:List Int)(P:List Nat):Prop:=∀i j,i<l.length->j<l.length->l.getD i 0=l.getD j 0->rt P i=rt P j
structure MI(l:List Int)(i:Nat)(ks vs:List Int)(P:List Nat):Prop where
 kv:vs.length=ks.length
 fst:∀v,v∈ks->∃k:Nat,k<i/\vs.getD (ks.idxOf v) 0=(k:Int)/\l.getD k 0=v
 seen:∀j,j<i->l.getD j 0∈ks/\∀k:Nat,vs.getD (ks.idxOf (l.getD j 0)) 0=(k:Int)->rt P j=rt P k
theorem MI.nil(l:List Int)(P:List Nat):MI l 0 [] [] P:=⟨rfl,λv h=>(by cases h),λj h=>absurd h (Nat.not_lt_zero _)⟩
theorem MI.new{l:List Int}{i:Nat}{ks vs:List Int}{P:List Nat}(h:MI l i ks vs P)(hv:l.getD i 0∉ks):MI l (i+1) (ks++[l.getD i 0]) (vs++[(i:Int)]) P:=by
 obtain⟨kv,fst,seen⟩:=h;have hn:(ks++[l.getD i 0]).idxOf (l.getD i 0)=vs.length:=by rw[List.idxOf_append,if_neg hv,kv];simp
 refine⟨by rw[cm,cm,kv];rfl,λv hm=>?_,λj hj=>?_⟩
 ·rcases gV.1 hm with hm|hm
  ·obtain⟨k,h1,h2,h3⟩:=fst v hm;have hlt:=List.idxOf_lt_length_of_mem hm;exact⟨k,by omega,by rw[yJ hm,dP (by omega)];exact h2,h3⟩
  ·rw[ed.1 hm];exact⟨i,by omega,by rw[hn,gl],rfl⟩
 ·by_cases e:j<i
  ·obtain⟨h1,h2⟩:=seen j e;have hlt:=List.idxOf_lt_length_of_mem h1;exact⟨qs _ h1,λk hk=>h2 k (by rw[yJ h1,dP (by omega)] at hk;exact hk)⟩
  ·obtain rfl:j=i:=by omega
   refine⟨sK _ (ed.2 rfl),λk hk=>?_⟩;rw[hn,gl] at hk;rw[show k=j by omega]
theorem MI.old{l:List Int}{i:Nat}{ks vs:List Int}{P Q:List Nat}(h:MI l i ks vs P)(hv:l.getD i 0∈ks)(hQ:∀x y,rt P x=rt P y->rt Q x=rt Q y)(hk:∀k:Nat,vs.getD (ks.idxOf (l.getD i 0)) 0=(k:Int)->rt Q i=rt Q k):MI l (i+1) ks vs Q:=by
 obtain⟨kv,fst,seen⟩:=h;refine⟨kv,λv hm=>?_,λj hj=>?_⟩
 ·obtain⟨k,h1,h2,h3⟩:=fst v hm;exact⟨k,by omega,h2,h3⟩
 ·by_cases e:j<i
  ·obtain⟨h1,h2⟩:=seen j e;exact⟨h1,λk hk=>hQ _ _ (h2 k hk)⟩
  ·obtain rfl:j=i:=by omega
   exact⟨hv,hk⟩
theorem MI.all{l:List Int}{ks vs:List Int}{P:List Nat}(h:MI l l.length ks vs P):ym l P:=λi j hi hj e=>by
 obtain⟨h1,h2⟩:=h.seen i hi;obtain⟨h3,h4⟩:=h.seen j hj;obtain⟨k,_,hk,_⟩:=h.fst _ h1;rw[h2 k hk,h4 k (by rw[<-e];exact hk)]
theorem ym.mono{l:List Int}{P Q:List Nat}(h:ym l P)(hQ:∀x y,rt P x=rt P y->rt Q x=rt Q y):ym l Q:=λi j hi hj e=>hQ _ _ (h i j hi hj e)
theorem qS{P:List Nat}(hP:Fst P){i k:Nat}(hi:i<P.length)(hk:k<P.length):Fst (P.set (max (rt P i) (rt P k)) (min (rt P i) (rt P k)))/\(∀x y,rt P x=rt P y->rt (P.set (max (rt P i) (rt P k)) (min (rt P i) (rt P k))) x=rt (P.set (max (rt P i) (rt P k)) (min (rt P i) (rt P k))) y)/\rt (P.set (max (rt P i) (rt P k)) (min (rt P i) (rt P k))) i=rt (P.set (max (rt P i) (rt P k)) (min (rt P i) (rt P k))) k:=by
 have l1:=rU hP i;have l2:=rU hP k;obtain⟨h1,h2⟩:=hP.join (tM hP i) (tM hP k) (by omega);refine⟨h1,λx y e=>by rw[h2,h2,e],?_⟩;rw[h2,h2];split<;>split<;>omega
structure PJ(a b:List Int)(P:List Nat):Prop where
 len:P.length=a.length
 fst:Fst P
 snd:Snd a.length (RJ a b) P
theorem PJ.start(a b:List Int):PJ a b (List.range a.length):=
 ⟨List.length_range,λi=>Nat.le_of_eq (A2 _ i),λi j _ _ e=>by rw[AX,AX] at e;rw[e];exact .refl _⟩
theorem PJ.same{a b:List Int}{P Q:List Nat}(h:PJ a b P)(hQ:Fst Q)(hl:Q.length=P.length)(hr:∀j,rt Q j=rt P j):PJ a b Q:=
 ⟨hl.trans h.len,hQ,λi j hi hj e=>h.snd i j hi hj (by rw[<-hr,<-hr];exact e)⟩
theorem PJ.join{a b:List Int}{P:List Nat}(h:PJ a b P){i k:Nat}(hi:i<a.length)(hk:k<a.length)(hR:RJ a b i k):PJ a b (P.set (max (rt P i) (rt P k)) (min (rt P i) (rt P k))):=
 ⟨by rw[List.length_set];exact h.len,(qS h.fst (by rw[h.len];exact hi) (by rw[h.len];exact hk)).1,h.snd.join (RJ.symm a b) h.fst h.len hi hk (.one hR)⟩
theorem PJ.iff{a b:List Int}{P:List Nat}(h:PJ a b P)(hab:a.length=b.length)(ha:ym a P)(hb:ym b P){i j:Nat}(hi:i<a.length)(hj:j<a.length):rt P i=rt P j↔Cn (RJ a b) i j:=by
 refine⟨h.snd i j hi hj,λhc=>?_⟩;clear hi hj
 induction hc with
 |refl=>rfl
 |step hr _ ih=>
  rw[<-ih];obtain⟨h1,h2,h3⟩:=hr;rcases h3 with h3|h3
  ·exact ha _ _ h1 h2 h3
  ·exact hb _ _ (by omega) (by omega) h3
theorem GD(p q:Nat):mE (.int .i64 (p:Int)) (.int .i64 (q:Int))=some (.int .i64 ((max p q:Nat):Int)):=by
 show some (AV.int .i64 (if (q:Int)>p then(q:Int) else p))=_;split<;>congr 2<;>omega
theorem Fw(p q:Nat):pd (.int .i64 (p:Int)) (.int .i64 (q:Int))=some (.int .i64 ((min p q:Nat):Int)):=by
 show some (AV.int .i64 (if (q:Int)<p then(q:Int) else p))=_;split<;>congr 2<;>omega
section
attribute [local irreducible] aG ah bg aQ aH aK ay aN aR bq Go.Abs.Fn aP Go.Abs.Pure ak aF Yl
theorem FM(n:Nat)(hn:n<=5)(L:List (List Int))(hL:∀l∈L,l.length=n)(e f:Nat)(he:e<L.length)(hf:f<L.length):pU 55 [.iptr [.int .i64 n,bm L] 0,.int .i64 e,.int .i64 f] (.int .i64 (uF n L e f:Nat)):=by
 refine pO PU ?_;simp only[b55,av];have ixe:=E8 he;have ixf:=E8 hf;have le:=hL (L.getD e []) (au he);have lf:=hL (L.getD f []) (au hf);unfold uF;have hsb:∀p,mz (jb L e f) (p+1)=mz (jb L e f) p+if jb L e f p=true then 2^p else 0:=λ_=>rfl
 have hor:=λp hp tb tf=>orB (g:=jb L e f) (p:=p) hp tb tf;have hB:∀p,jb L e f p=decide (0<=(L.getD e []).getD p 0/\(L.getD e []).getD p 0=(L.getD f []).getD p 0):=λ_=>rfl;have h0:mz (jb L e f) 0=0:=rfl;generalize L.getD e []=a at *;generalize L.getD f []=b at *;generalize mz (jb L e f)=S at *;refine wnY (zI3 @PE @SV3 @NKI) ?_;refine gn (X:=Nat) (λp=>[(0,.iptr [.int .i64 n,bm L] 0),(1,.int .i64 e),(2,.int .i64 f),(7,.int .i64 (S p:Nat)),(13,.int .i64 n),(14,.int .i64 p)]) (λp=>p<=n) (λp=>n-p) 0 (bA _) ?_ ?_
 ·rw[h0];simp (disch:=omega) only[agr,ZG,reduceEqDiff,↓reduceIte]
 rintro p hp;by_cases hpn:p<n
 rotate_left
 ·obtain rfl:p=n:=by omega
  refine wnY and_self ?_;exact .int _ _
 have ia:cu 1 (aD a) (.int .i64 (p:Int))=some (.iptr [.int .i64 (a.getD p 0)] 0):=by
  have:=l9 (l:=a) (n:=(p:Int)) (by omega) (by omega)
  rwa [bR] at this
 have ib:cu 1 (aD b) (.int .i64 (p:Int))=some (.iptr [.int .i64 (b.getD p 0)] 0):=by
  have:=l9 (l:=b) (n:=(p:Int)) (by omega) (by omega)
  rwa [bR] at this
 have hsp:=hsb p;have hbp:=hB p;have hsl:=λtb tf=>Qn (p:=p) (by omega) tb tf;have ho:=hor p (by omega);generalize a.getD p 0=u at *;generalize b.getD p 0=v at *;by_cases c1:0<=u
 ·by_cases c2:u=v
  ·rw[hbp,if_pos (bH ⟨c1,c2⟩)] at hsp;have z1:decide (u≥0)=true:=bH c1;have z2:decide (u=v)=true:=bH c2;refine wnY (aI @PE (fI @SV3 @NKI @ixe @ixf @ia @ib @hsl @ho @z1 @z2)) ?_;exact⟨p+1,by omega,by omega,by rw[hsp];simp (disch:=omega) only[agr,ZG,reduceEqDiff,↓reduceIte],rfl,rfl⟩
  ·have hsp:S (p+1)=S p:=by rw[hsp,if_neg (by rw[hbp];simp[c2])];rfl
   refine wnY (zI9 @PE @SV3 @NKI @ixe @ixf @ia @ib @hsl @ho) ?_;exact⟨p+1,by omega,by omega,by rw[hsp];simp (disch:=omega) only[agr,ZG,reduceEqDiff,↓reduceIte],rfl,rfl⟩
 ·have hsp:S (p+1)=S p:=by rw[hsp,if_neg (by rw[hbp];simp[c1])];rfl
  refine wnY (zI9 @PE @SV3 @NKI @ixe @ixf @ia @ib @hsl @ho) ?_;exact⟨p+1,by omega,by omega,by rw[hsp];simp (disch:=omega) only[agr,ZG,reduceEqDiff,↓reduceIte],rfl,rfl⟩
theorem AS(n:Nat)(L:List (List Int))(e:Nat):pU 29 [.iptr [.int .i64 n,bm L] 0,.int .i64 e] (.func 54 [.iptr [.iptr [.int .i64 n,bm L] 0] 0,.iptr [.int .i64 e] 0]):=by
 refine pO PG ?_;simp only[b29,av];refine wnY (zI3 @PE @SV3 @NKI) ?_;exact iz (af (dY rfl rfl (af (Dat.snap (Dat.iptr (DatL.cons .int (DatL.cons (d8 _) DatL.nil)))) ai)) (af (dY rfl rfl (af (.int _ _) ai)) ai))
def mJ(n:Nat)(L:List (List Int))(e f:Nat):Bool:=decide (uF n L e f≠0)&&decide (e≠f)
def Aa(n:Nat)(L:List (List Int))(e f:Nat):Nat:=K3 (jb L e f) n
theorem OG(n:Nat)(hn:n<=5)(L:List (List Int))(hL:∀l∈L,l.length=n)(e:Nat)(he:e<L.length)(hLl:L.length<=100000){y:Nat}{H:Hp}{nx:Nat}(I:Nat->Hp->Nat->Prop)(Q:Hp->Nat->Prop)
    (rnd:∀f H n',I f H n'->f<L.length->mJ n L e f=true->Yl Tryz.prog y [.int .i64 f,.int .i64 (Aa n L e f:Nat)] H n' λr H' n'=>(r=.bool true/\I (f+1) H' n')\/(r=.bool false/\Q H' n'))
    (skip:∀f H n',I f H n'->f<L.length->mJ n L e f=false->I (f+1) H n')
    (h0:I 0 H nx):
    Abs.Fn Tryz.prog 54 [.yld y,.iptr [.iptr [.int .i64 n,bm L] 0] 0,.iptr [.int .i64 e] 0] H nx λ_ H' nx'=>I L.length H' nx'\/Q H' nx':=by
 refine fO Qo ?_;simp only[b54,av];refine wnY (zI3 @PE @SV3 @NKI) ?_;refine br (X:=Nat) (λf=>[(0,.yld y),(1,.iptr [.iptr [.int .i64 n,bm L] 0] 0),(2,.iptr [.int .i64 e] 0),(11,.int .i64 L.length),(12,.int .i64 f)]) (λf H n=>f<=L.length/\I f H n) (λf=>L.length-f) 0 ⟨bA _,h0⟩ ag0 ?_;clear h0;rintro f H1 n1 ⟨f1,f2⟩;by_cases hf:f<L.length
 rotate_left
 ·obtain rfl:f=L.length:=by omega
  refine wnY @PE ?_;exact .inl f2
 have hl:=FM n hn L hL e f he hf;have hr:=rnd f H1 n1 f2 hf;have hk:=skip f H1 n1 f2 hf;have hbit:=A5 (jb L e f) n;have hz:=uC (g:=jb L e f) (n:=n);have hmin:=λp hp hg hz=>Jc (g:=jb L e f) (n:=n) (p:=p) hp hg hz;unfold mJ at hr hk;unfold Aa at hr;unfold uF at hl hr hk;have hsl:=qG (jb L e f) n;generalize mz (jb L e f) n=S at *;generalize jb L e f=g at *;by_cases hS:S=0
 ·have hk':=hk (by simp[hS]);subst hS;refine wnY @PE ?_;exact⟨f+1,by omega,⟨by omega,hk'⟩,ag0⟩
 have z:decide ((S:Int)=0)=false:=bL (by omega);by_cases hef:e=f
 ·have hk':=hk (by simp[hef]);have z2:decide ((e:Int)=f)=true:=bH (by omega);refine wnY (zI3 @PE @z @z2) ?_;exact⟨f+1,by omega,⟨by omega,hk'⟩,ag0⟩
 have hr':=hr (by simp[hS,hef]);have z2:decide ((e:Int)=f)=false:=bL (by omega);refine wnY (zI3 @PE @z @z2) ?_;refine br (X:=Nat) (λp=>[(0,.yld y),(1,.iptr [.iptr [.int .i64 n,bm L] 0] 0),(2,.iptr [.int .i64 e] 0),(11,.int .i64 L.length),(12,.int .i64 f),(4,.int .i64 f),(5,.int .i64 S),(6,.int .i64 p)]) (λp H n'=>p<=n/\(∀i,i<p->g i=false)/\H=H1/\n'=n1) (λp=>n-p) 0 ⟨bA _,λi h=>absurd h (Nat.not_lt_zero _),rfl,rfl⟩ (by simp (disch:=omega) only[agr,ZG,reduceEqDiff,↓reduceIte,Int.natCast_zero]) ?_;rintro p _ _ ⟨p1,p2,rfl,rfl⟩;by_cases hpn:p<n
 rotate_left
 ·obtain rfl:p=n:=by omega
  exact absurd (hz.2 p2) hS
 have hsh:=λtb tf=>rh tb tf (S:Int) p;have ha1:=λtb tf=>pZ tb tf (kw (S:Int) p);rw[qI (by omega)] at hsh ha1;rw[od,hbit p] at ha1;cases hg:g p with
 |false=>
  rw[hg,if_neg (λh=>by cases h.2)] at ha1;refine wnY (zI3 @PE @hsh @ha1) ?_
  exact ⟨p + 1,by omega,⟨by omega,fun i hi=>by
   rcases i7.1 hi with h|rfl
   ·exact p2 i h
   ·exact hg,rfl,rfl⟩,ag0⟩
 |true=>
  rw[hg,if_pos ⟨hpn,rfl⟩] at ha1;rw[hmin p hpn hg p2] at hr';refine wnY (zI3 @PE @hsh @ha1) ?_;refine qD ev0 ev0 (Yl.mono hr' ?_);rintro r H3 n3 (⟨rfl,q⟩|⟨rfl,q⟩)
  ·refine wnY @PE ?_;exact⟨f+1,by omega,⟨by omega,q⟩,ag0⟩
  ·refine wnY @PE ?_;exact .inr q
theorem CG(l:List Int)(hl:l.length<=65536)(hp:Pt l):pU 105 [aD l] (.int .i64 0):=by
 refine pO OT ?_;simp only[Od,av];have z:decide ((l.length:Int)>65536)=false:=bL (by omega);refine wnY (aI @PE @z) ?_;refine gn (X:=Nat) (λk=>[(3,.int .i64 (mj (l.take k))),(9,aD l),(10,.int .i64 l.length),(11,.int .i64 k)]) (λk=>k<=l.length) (λk=>l.length-k) 0 (bA _) (by simp (disch:=omega) only[agr,ZG,reduceEqDiff,↓reduceIte];exact rfl) ?_;rintro k hk;by_cases hk2:k<l.length
 rotate_left
 ·obtain rfl:k=l.length:=by omega
  refine wnY and_self ?_;exact .int _ _
 have ix:cu 1 (aD l) (.int .i64 (k:Int))=some (.iptr [.int .i64 (l.getD k 0)] 0):=by
  have:=l9 (l:=l) (n:=(k:Int)) (by omega) (by omega)
  rwa [bR] at this
 obtain⟨p1,p2⟩:=hp k hk2;have ht:=Ej hk2;have hle:=y8 (l.take k);have hll:(l.take k).length=k:=by rw[jg];omega
 have z1:decide (l.getD k 0<0)=false:=bL (by omega);have z2:decide (l.getD k 0>mj (l.take k))=false:=bL (by omega);generalize mj (l.take k)=nx at *;generalize l.getD k 0=x at *;by_cases e:x=nx
 ·have z3:decide (x=nx)=true:=bH e;rw[if_pos e] at ht;refine wnY (zI5 @PE @ix @z1 @z2 @z3) ?_;exact⟨k+1,by omega,by omega,by rw[ht];simp (disch:=omega) only[agr,ZG,reduceEqDiff,↓reduceIte],rfl,rfl⟩
 ·have z3:decide (x=nx)=false:=bL e;rw[if_neg e] at ht;refine wnY (zI5 @PE @ix @z1 @z2 @z3) ?_;exact⟨k+1,by omega,by omega,by rw[ht];simp (disch:=omega) only[agr,ZG,reduceEqDiff,↓reduceIte],rfl,rfl⟩
theorem Kh(a b:List Int)(ha:a.length<=65536)(hab:a.length=b.length)(hpa:Pt a)(hpb:Pt b):pU 68 [aD a,aD b] (.int .i64 0):=by
 refine pO Qs ?_;simp only[b68,av];have hca:=CG a ha hpa;have hcb:=CG b (by omega) hpb;have z:decide ((a.length:Int)≠b.length)=false:=bL (by omega);refine wnY @PE ?_;refine br (X:=Nat) (λk=>[(0,aD a),(1,aD b),(10,.msl 0 2 1 0 2),(11,.int .i64 (2:Nat)),(12,.int .i64 k)]) (λk H n'=>k<=2/\H 0=some [aD a,aD b]) (λk=>2-k) 0 ⟨bA _,rfl⟩ (by simp (disch:=omega) only[agr,ZG,reduceEqDiff,↓reduceIte,SL]) ?_;rintro k H n' ⟨k1,k2⟩;rcases(by omega:k=0\/k=1\/k=2) with rfl|rfl|rfl
 ·refine wnY (aI @PE @k2) ?_;exact⟨1,by omega,⟨by omega,k2⟩,by simp (disch:=omega) only[agr,ZG,reduceEqDiff,↓reduceIte];exact⟨trivial,trivial,trivial,trivial,rfl⟩⟩
 ·refine wnY (aI @PE @k2) ?_;exact⟨2,by omega,⟨by omega,k2⟩,by simp (disch:=omega) only[agr,ZG,reduceEqDiff,↓reduceIte];exact⟨trivial,trivial,trivial,trivial,rfl⟩⟩
 ·refine wnY (zI3 @PE @k2 @z) ?_;exact .int _ _
theorem wS(n:Int)(L:List (List Int))(p:Nat)(hLl:L.length<=60000)(hL:∀l∈L,p<l.length):pU 38 [.iptr [.int .i64 n,bm L] 0,.int .i64 p] (aD (yL (col L p))):=by
 refine pO Pq ?_;simp only[b38,av];refine wnY (zI3 @PE @SV3 @NKI) ?_;refine pY ?_;refine wnY (zI3 @PE @SV3 @NKI) ?_;refine br (X:=Nat×AV) (λx=>[(0,.iptr [.int .i64 n,bm L] 0),(1,.int .i64 p),(5,.mp 0),(6,x.2),(7,.int .i64 (jl ((col L p).take x.1)).nx),(17,bm L),(18,.int .i64 L.length),(19,.int .i64 x.1)]) (λx H n'=>x.1<=L.length/\1<=n'/\H 0=some [.omap ((jl ((col L p).take x.1)).ks.map (AV.int .i64)) ((jl ((col L p).take x.1)).vs.map (AV.int .i64))]/\Row H 1 x.2 ((jl ((col L p).take x.1)).out.map (AV.int .i64))/\∀b,bk x.2=some b->1<=b/\b<n') (λx=>L.length-x.1) (0,.esl) ⟨bA _,by omega,rfl,.nil,λb h=>(by cases h)⟩ (by simp (disch:=omega) only[agr,ZG,reduceEqDiff,↓reduceIte];exact⟨trivial,trivial,trivial,trivial,rfl⟩) ?_;rintro⟨k,ro⟩ H m ⟨hk,hm,g0,hrow,hb⟩;dsimp only at hk g0 hrow hb |-;obtain⟨o1,o2⟩:=hrow.one;have hcl:(col L p).length=L.length:=bC _;by_cases hk2:k<L.length
 rotate_left
 ·obtain rfl:k=L.length:=by omega
  rw[<-hcl,List.take_length] at hrow;refine wnY (zI3 @PE @o1 @o2) ?_;exact Row.snapI hrow
 have ix:=E8 hk2
 have ixp:cu 1 (aD (L.getD k [])) (.int .i64 (p:Int))=some (.iptr [.int .i64 ((L.getD k []).getD p 0)] 0):=by
  have:=hL (L.getD k []) (au hk2);have:=l9 (l:=L.getD k []) (n:=(p:Int)) (by omega) (by omega)
  rwa [bR] at this
 have htk:(col L p).take (k+1)=(col L p).take k++[(L.getD k []).getD p 0]:=by
  rw[bO (by omega)]
  congr 2
  simp[col,List.getD,hk2]
 have hss:=oq ((col L p).take k) ((L.getD k []).getD p 0);rw[<-htk] at hss;have hci:=jV ((col L p).take k);have hnl:=y8 (jl ((col L p).take k)).out;have hol:=hci.len;rw[jg] at hol;have hnx:=hci.nx;have hkv:=hci.kv;generalize jl ((col L p).take k)=s at *;generalize L.getD k []=row at *;generalize row.getD p 0=v at *;have hmf:=y5 v s.ks;have holm:(s.out.map (AV.int .i64)).length=k:=by rw[bC];omega
 unfold xt at hss;by_cases hv:v∈s.ks
 ·rw[if_pos hv] at hmf;have hlt:=List.idxOf_lt_length_of_mem hv;have hgv:=n9 (l:=s.vs) (i:=s.ks.idxOf v) (by omega);refine wnY (zI5 @PE @SV3 @NKI @ix @ixp) ?_;refine fC (b:=0) ev0 g0 ev0 rfl hmf ?_;rw[show mget (AV.int .i64 0) true (some (s.ks.idxOf v)) (s.vs.map (AV.int .i64))=.tup [(s.vs.map (AV.int .i64)).getD (s.ks.idxOf v) .undef,.bool true] from rfl,hgv];by_cases hv0:v<0
  ·have hn:AJ s v=true:=bH (.inr hv0);rw[if_pos hn,if_pos hv,if_pos hv] at hss;have z:decide (v<0)=true:=bH hv0;refine wnY (aI @PE @z) ?_;refine l7 (b:=0) ev0 g0 ev0 ev0 rfl hmf ?_;refine wnY @PE ?_;refine ef (k:=1) (sv:=ro) (cs:=s.out.map (AV.int .i64)) (new:=[.int .i64 (s.nx:Nat)]) rfl ev0 (hrow.same λb h=>by have:=hb b h;simp (disch:=omega) only[ab]) ev0 (cP rfl) rfl rfl ig (by omega) (by omega) ?_;rintro r2 H3 n3 r1 r2' r3 r4 r5;have h0:H3 0=_:=r4 0 (by omega) (λh=>by have:=hb 0 h;omega);refine wnY @PE ?_;refine⟨(k+1,r2),by dsimp only;omega,⟨by dsimp only;omega,by omega,?_,?_,λb h=>?_⟩,by dsimp only;rw[hss];simp (disch:=omega) only[agr,ZG,reduceEqDiff,↓reduceIte,Int.natCast_add,Int.natCast_one]⟩
   ·dsimp only;rw[hss,h0];simp (disch:=omega) only[ab,ac];rw[show mF (AV.int .i64 (s.nx:Nat)) (some (s.ks.idxOf v)) (s.vs.map (AV.int .i64))=(s.vs.set (s.ks.idxOf v) (s.nx:Nat)).map (AV.int .i64) from(jv ..)];rfl
   ·dsimp only;rw[hss];show Row H3 1 r2 ((s.out++[((s.nx:Nat):Int)]).map (AV.int .i64));rw[du];exact r1
   ·rcases r5 b h with h|h
    ·have:=hb b h;omega
    ·omega
  ·have hn:AJ s v=false:=bL (λh=>h.elim (λh=>h hv) hv0);rw[hn,if_neg (by decide)] at hss;have z:decide (v<0)=false:=bL hv0;refine wnY (aI @PE @z) ?_;refine ef (k:=1) (sv:=ro) (cs:=s.out.map (AV.int .i64)) (new:=[.int .i64 (s.vs.getD (s.ks.idxOf v) 0)]) rfl ev0 (hrow.same λb h=>by have:=hb b h;simp (disch:=omega) only[ab]) ev0 (cP rfl) rfl rfl ig (by omega) (by omega) ?_;rintro r2 H3 n3 r1 r2' r3 r4 r5;have h0:H3 0=_:=r4 0 (by omega) (λh=>by have:=hb 0 h;omega);refine wnY @PE ?_;refine⟨(k+1,r2),by dsimp only;omega,⟨by dsimp only;omega,by omega,?_,?_,λb h=>?_⟩,by dsimp only;rw[hss];simp (disch:=omega) only[agr,ZG,reduceEqDiff,↓reduceIte,Int.natCast_add,Int.natCast_one]⟩
   ·dsimp only;rw[hss,h0];simp (disch:=omega) only[ab,ac];rw[g0]
   ·dsimp only;rw[hss];show Row H3 1 r2 ((s.out++[((s.vs.getD (s.ks.idxOf v) 0):Int)]).map (AV.int .i64));rw[du];exact r1
   ·rcases r5 b h with h|h
    ·have:=hb b h;omega
    ·omega
 ·rw[if_neg hv] at hmf;have hn:AJ s v=true:=bH (.inl hv);rw[if_pos hn,if_neg hv,if_neg hv] at hss;refine wnY (zI5 @PE @SV3 @NKI @ix @ixp) ?_;refine fC (b:=0) ev0 g0 ev0 rfl hmf ?_;rw[show mget (AV.int .i64 0) true none (s.vs.map (AV.int .i64))=.tup [.int .i64 0,.bool false] from rfl];refine wnY @PE ?_;refine l7 (b:=0) ev0 g0 ev0 ev0 rfl hmf ?_;refine wnY @PE ?_;refine ef (k:=1) (sv:=ro) (cs:=s.out.map (AV.int .i64)) (new:=[.int .i64 (s.nx:Nat)]) rfl ev0 (hrow.same λb h=>by have:=hb b h;simp (disch:=omega) only[ab]) ev0 (cP rfl) rfl rfl ig (by omega) (by omega) ?_;rintro r2 H3 n3 r1 r2' r3 r4 r5;have h0:H3 0=_:=r4 0 (by omega) (λh=>by have:=hb 0 h;omega);refine wnY @PE ?_;refine⟨(k+1,r2),by dsimp only;omega,⟨by dsimp only;omega,by omega,?_,?_,λb h=>?_⟩,by dsimp only;rw[hss];simp (disch:=omega) only[agr,ZG,reduceEqDiff,↓reduceIte,Int.natCast_add,Int.natCast_one]⟩
  ·dsimp only;rw[hss,h0];simp (disch:=omega) only[ab,ac];show some [AV.omap (s.ks.map (AV.int .i64)++[.int .i64 v]) (s.vs.map (AV.int .i64)++[.int .i64 (s.nx:Nat)])]=some [AV.omap ((s.ks++[v]).map (AV.int .i64)) ((s.vs++[((s.nx:Nat):Int)]).map (AV.int .i64))];rw[du,du];rfl
  ·dsimp only;rw[hss];show Row H3 1 r2 ((s.out++[((s.nx:Nat):Int)]).map (AV.int .i64));rw[du];exact r1
  ·rcases r5 b h with h|h
   ·have:=hb b h;omega
   ·omega
theorem Gg(l:List Int)(hl:l.length<=60000)(h0:∀v∈l,0<=v):pU 70 [aD l] (aD (yL l)):=by
 refine pO QT ?_;simp only[b70,av];refine wnY @PE ?_;refine pY ?_;refine wnY @PE ?_;refine mN rfl ev0 ev0 (by omega) (by omega) (by omega) (by omega) ?_;rw[bR,gj,Nat.mul_one];refine wnY @PE ?_;refine br (X:=Nat) (λk=>[(3,.mp 0),(4,.msl 1 l.length 1 0 l.length),(13,aD l),(14,.int .i64 l.length),(15,.int .i64 k)]) (λk H n'=>k<=l.length/\H 0=some [.omap ((jl (l.take k)).ks.map (AV.int .i64)) ((jl (l.take k)).vs.map (AV.int .i64))]/\H 1=some (((jl (l.take k)).out++List.replicate (l.length-(jl (l.take k)).out.length) (0:Int)).map (AV.int .i64))) (λk=>l.length-k) 0 ⟨bA _,by simp (disch:=omega) only[ab,ac];rfl,by simp (disch:=omega) only[ac];rfl⟩ (by simp (disch:=omega) only[agr,ZG,reduceEqDiff,↓reduceIte,SL]) ?_;rintro k H n' ⟨hk,g0,g1⟩;have hol:=(jV (l.take k)).len;rw[jg] at hol;by_cases hk2:k<l.length
 rotate_left
 ·obtain rfl:k=l.length:=by omega
  rw[List.take_length] at g1 hol;rw[show l.length-(jl l).out.length=0 by omega,List.replicate_zero,gH] at g1;refine wnY @PE ?_;exact Row.snapI (Row.box1 g1 (by rw[bC];show(jl l).out.length=l.length;omega))
 have ix:cu 1 (aD l) (.int .i64 (k:Int))=some (.iptr [.int .i64 (l.getD k 0)] 0):=by
  have:=l9 (l:=l) (n:=(k:Int)) (by omega) (by omega)
  rwa [bR] at this
 have htk:l.take (k+1)=l.take k++[l.getD k 0]:=bO hk2;have hss:=oq (l.take k) (l.getD k 0);rw[<-htk] at hss;have hci:=jV (l.take k);have hnn:=HO (l:=l.take k) λv hv=>h0 v (vX hv);have hv0:=h0 _ (au hk2:l.getD k 0∈l);have hkv:=hci.kv;have hnl:=y8 (jl (l.take k)).out;have hnx:=hci.nx;generalize jl (l.take k)=s at *;generalize l.getD k 0=v at *;have hmf:=y5 v s.ks;have hok:s.out.length=k:=by omega
 have hpt:=λx=>yV s.out l.length (by omega) x;rw[hok] at hpt;have hCl:((s.out++List.replicate (l.length-s.out.length) (0:Int)).map (AV.int .i64)).length=l.length:=by rw[bC,cm,List.length_replicate];omega
 rw[hok] at g1 hCl;have hix:=Je (b:=1) (m:=l.length) hk2;generalize (s.out++List.replicate (l.length-k) (0:Int)).map (AV.int .i64)=C at *;unfold xt at hss;by_cases hv:v∈s.ks
 ·rw[if_pos hv] at hmf;have hlt:=List.idxOf_lt_length_of_mem hv;have hgv:=n9 (l:=s.vs) (i:=s.ks.idxOf v) (by omega);have hn:AJ s v=false:=bL (λh=>h.elim (λh=>h hv) (by omega));rw[hn,if_neg (by decide)] at hss;refine wnY (aI @PE @ix) ?_;refine fC (b:=0) ev0 g0 ev0 rfl hmf ?_;rw[show mget (AV.int .i64 0) true (some (s.ks.idxOf v)) (s.vs.map (AV.int .i64))=.tup [(s.vs.map (AV.int .i64)).getD (s.ks.idxOf v) .undef,.bool true] from rfl,hgv];refine wnY (aI @PE @hix) ?_;refine ml (b:=1) (n:=l.length) (off:=k) (cs:=C) (vs:=[.int .i64 (s.vs.getD (s.ks.idxOf v) 0)]) rfl ev0 ev0 g1 rfl rfl hCl rfl (by omega) ?_;rw[hpt];refine wnY @PE ?_;exact⟨k+1,by omega,⟨by omega,by rw[hss,ab (by omega)];exact g0,by rw[hss,ac]⟩,ag0⟩
 ·rw[if_neg hv] at hmf;have hn:AJ s v=true:=bH (.inl hv);rw[if_pos hn,if_neg hv,if_neg hv] at hss;refine wnY (aI @PE @ix) ?_;refine fC (b:=0) ev0 g0 ev0 rfl hmf ?_;rw[show mget (AV.int .i64 0) true none (s.vs.map (AV.int .i64))=.tup [.int .i64 0,.bool false] from rfl];refine wnY @PE ?_;refine Ga (b:=0) ev0 g0 ?_;rw[bC,<-hnn];refine wnY @PE ?_;refine l7 (b:=0) ev0 g0 ev0 ev0 rfl hmf ?_;refine wnY (aI @PE @hix) ?_;refine ml (b:=1) (n:=l.length) (off:=k) (cs:=C) (vs:=[.int .i64 (s.nx:Nat)]) rfl ev0 ev0 (by rw[ab (by omega)];exact g1) rfl rfl hCl rfl (by omega) ?_;rw[hpt];refine wnY @PE ?_;refine⟨k+1,by omega,⟨by omega,?_,by rw[hss,ac]⟩,ag0⟩;rw[hss,ab (by omega),ac];show some [AV.omap (s.ks.map (AV.int .i64)++[.int .i64 v]) (s.vs.map (AV.int .i64)++[.int .i64 (s.nx:Nat)])]=some [AV.omap ((s.ks++[v]).map (AV.int .i64)) ((s.vs++[((s.nx:Nat):Int)]).map (AV.int .i64))];rw[du,du];rfl
theorem zA(n:Nat)(hn:n<=5)(L:List (List Int))(hL:∀l∈L,l.length=n)(f:Nat)(hf:f<L.length)(hLl:L.length<=1000)(H0:Hp)(nx:Nat):
    Abs.Fn Tryz.prog 28 [.iptr [.int .i64 n,bm L] 0,.int .i64 f] H0 nx λr H' nx'=>∃s b,Lab L.length (mJ n L) f s/\(∀i,-1<=sg s i/\sg s i<=(L.length:Int))/\r=.msl b L.length 1 0 L.length/\H' b=some (s.map (AV.int .i64))/\nx<=b/\b<nx'/\∀y,y<nx->H' y=H0 y:=by
 refine fO Pn ?_;simp only[b28,av];refine wnY (zI3 @PE @SV3 @NKI) ?_;refine mN rfl ev0 ev0 (by omega) (by omega) (by omega) (by omega) ?_;rw[bR,gj,Nat.mul_one];refine wnY (zI3 @PE @SV3 @NKI) ?_;have hix:=λk h=>yH (b:=nx) (m:=L.length) (k:=k) h
 refine br (X:=Nat) (λk=>[(0,.iptr [.int .i64 n,bm L] 0),(1,.int .i64 f),(5,.ptr (nx+1) 1 0),(16,.int .i64 L.length),(17,.int .i64 k)]) (λk H' n'=>k<=L.length/\n'=nx+2/\H' (nx+1)=some [.msl nx L.length 1 0 L.length]/\H' nx=some ((List.replicate k (-1)++List.replicate (L.length-k) 0).map (AV.int .i64))/\∀y,y<nx->H' y=H0 y) (λk=>L.length-k) 0
  ⟨bA _,rfl,by simp (disch:=omega) only[ab,ac];rfl,by simp (disch:=omega) only[ab,ac];rfl,λy hy=>by simp (disch:=omega) only[ab]⟩ (by simp (disch:=omega) only[agr,ZG,reduceEqDiff,↓reduceIte,SL]) ?_
 rintro k H1 n1 ⟨hk,rfl,g1,g0,fr⟩
 have hml:((List.replicate k (-1:Int)++List.replicate (L.length-k) 0).map (AV.int .i64)).length=L.length:=by
  rw[bC,cm,List.length_replicate,List.length_replicate];omega
 by_cases hk2:k<L.length
 ·have hi:=hix k hk2
  have hpt:bw ((List.replicate k (-1:Int)++List.replicate (L.length-k) 0).map (AV.int .i64)) k [.int .i64 (-1)]=(List.replicate (k+1) (-1:Int)++List.replicate (L.length-(k+1)) 0).map (AV.int .i64):=by
   rw[ga (by omega),jv,List.set_append_right _ _ (by rw[List.length_replicate];omega),List.length_replicate,Nat.sub_self,show L.length-k=(L.length-(k+1))+1 by omega,List.replicate_succ,List.replicate_succ',gK];rfl
  generalize (List.replicate k (-1:Int)++List.replicate (L.length-k) 0).map (AV.int .i64)=C at *;refine wnY (zI5 @PE @SV3 @NKI @g1 @hi) ?_;refine ml (b:=nx) (n:=L.length) (off:=k) (cs:=C) (vs:=[.int .i64 (-1)]) rfl ev0 ev0 g0 rfl rfl hml rfl (by omega) ?_;rw[hpt];refine wnY and_self ?_;exact⟨k+1,by omega,⟨by omega,rfl,by rw[ab (by omega)];exact g1,ac,λy hy=>by rw[ab (by omega)];exact fr y hy⟩,ag0⟩
 obtain rfl:k=L.length:=by omega
 rw[Nat.sub_self,List.replicate_zero,gH] at g0;have hi:=hix f hf;have hrl:(List.replicate L.length (-1:Int)).length=L.length:=List.length_replicate;have hpt:=Hz (s:=List.replicate L.length (-1:Int)) (k:=f) (by omega) 0;have hst:=Bfs.start (adj:=mJ n L) hf
 have hu0:Upp L.length ((List.replicate L.length (-1:Int)).set f 0):=by
  have hg:∀i,sg (List.replicate L.length (-1:Int)) i=-1:=λi=>by
   unfold sg;simp only[List.getD,List.getElem?_replicate];split<;>rfl
  intro i;have e:=xZ (s:=List.replicate L.length (-1:Int)) (j:=f) (x:=0) (by omega) i;have hc:=mq (s:=List.replicate L.length (-1:Int)) (k:=f) (x:=0) (by omega) (by rw[hg];decide) (Int.le_refl _);have hl:=List.countP_le_length (p:=λx:Int=>decide (x<0)) (l:=List.replicate L.length (-1:Int));rw[hrl] at hl;rw[hg] at e;rw[e];split<;>omega
 have hm0:qN ((List.replicate L.length (-1:Int)).set f 0) [f]<=L.length:=by
  have:=vR (s:=List.replicate L.length (-1:Int)) (q:=[]) (k:=f) (x:=0) (by omega) (by simp[sg,List.getD,hf]) (by omega);rw[List.nil_append] at this;rw[this];unfold qN;have:=List.countP_le_length (p:=λx:Int=>decide (x<0)) (l:=List.replicate L.length (-1:Int));simp at this |-;exact this
 clear hml;generalize List.replicate L.length (-1:Int)=C at *;refine wnY (zI5 @PE @SV3 @NKI @g1 @hi) ?_;refine ml (b:=nx) (n:=L.length) (off:=f) (cs:=C.map (AV.int .i64)) (vs:=[.int .i64 0]) rfl ev0 ev0 g0 rfl rfl (by rw[bC];exact hrl) rfl (by omega) ?_;rw[hpt];refine wnY (zI3 @PE @SV3 @NKI) ?_
 refine br (X:=List Int×List Nat×AV×Nat) (λx=>[(0,.iptr [.int .i64 n,bm L] 0),(5,.ptr (nx+1) 1 0),(7,.ptr x.2.2.2 1 0)]) (λx H' n'=>x.2.2.2<n'/\nx+3<=x.2.2.2/\H' (nx+1)=some [.msl nx L.length 1 0 L.length]/\H' nx=some (x.1.map (AV.int .i64))/\H' x.2.2.2=some [x.2.2.1]/\Qu H' x.2.2.1 (qi x.2.1)/\(∀b,bk x.2.2.1=some b->nx+2<=b/\b<n'/\b≠x.2.2.2)/\Bfs L.length (mJ n L) f x.1 x.2.1/\qN x.1 x.2.1<=L.length/\Upp L.length x.1/\∀y,y<nx->H' y=H0 y) (λx=>qN x.1 x.2.1) (C.set f 0,[f],.msl (nx+2) 1 1 0 1,nx+3)
  ⟨by dsimp only;omega,ba _,by simp (disch:=omega) only[ab];exact g1,by simp (disch:=omega) only[ab,ac],by simp (disch:=omega) only[ac];rfl,Qu.mk (nx+2) 0 1 [.int .i64 f] _ (by simp (disch:=omega) only[ab,ac]) rfl (by omega) rfl,λb h=>by cases h;dsimp only;omega,hst,hm0,hu0,λy hy=>by simp (disch:=omega) only[ab];exact fr y hy⟩ (by simp (disch:=omega) only[agr,ZG,reduceEqDiff,↓reduceIte,SL]) ?_
 clear g1 g0 fr hst hm0 hpt hrl hi hk hk2;rintro⟨s0,q,qv,c⟩ H1 n1 ⟨i1,i2,g1,g0,gc,hq,hqb,hB,hM,hU,fr⟩;dsimp only at i1 i2 g1 g0 gc hq hqb hB hM hU |-;have hql:=hq.len;rw[vE] at hql;obtain⟨o1,o2⟩:=hq.one;cases q with
 |nil=>
  have z0:decide ((0:Int)<(([]:List Nat).length:Nat))=false:=rfl;refine wnY (zI7 @PE @SV3 @NKI @g1 @gc @hql @z0) ?_;exact⟨s0,nx,hB.lab,λi=>⟨hB.ge i,hU.le i⟩,rfl,g0,ba _,by omega,fr⟩
 |cons h r=>
  obtain⟨p0,hp1,hp2⟩:=hq.hd;obtain⟨hh,hh2⟩:=hB.inq h (jZ ..);have hp3:=hp2 H1 λ_ _=>rfl;have hnb:=AS n L h;have z1:decide (((h::r).length:Int)>0)=true:=bH (by rw[d5];omega);refine wnY (zI9 @PE @SV3 @NKI @g1 @gc @hql @z1 @hp1 @hp3) ?_;refine jh n1 (n1+1) rfl rfl ev0 (λc0 cj hy=>?_);refine Abs.Fn.mono (OG n hn L hL h hh (by omega) (I:=λk H n'=>n1<n'/\H n1=some [c0]/\∃s q qv,H (nx+1)=some [.msl nx L.length 1 0 L.length]/\H nx=some (s.map (AV.int .i64))/\H c=some [qv]/\Qu H qv (qi q)/\(∀b,bk qv=some b->nx+2<=b/\b<n'/\b≠c/\b≠n1)/\BfsI L.length (mJ n L) f h k s q/\qN s q<=qN s0 (h::r)/\Upp L.length s/\∀y,y<nx->H y=H0 y) (λ_ _=>False) ?_ ?_ ?_) ?_
  ·rintro k H n' ⟨q1,q2,s,q,qv,q3,q4,q5,q6,q7,q8,q9,q10,q11⟩ hk ha;refine hy _ _ _ _ q2 rfl ?_;clear hy;have w:∀x,x≠n1->cC H n1 x=H x:=λx b=>cA b;refine wnY @PE ?_;refine⟨q2,?_⟩;have k3:=(w (nx+1) (by omega)).trans q3;have k4:=(w nx (by omega)).trans q4;have k5:=(w c (by omega)).trans q5;have k6:Qu (cC H n1) qv (qi q):=q6.same λb hb=>w b (by have:=q7 b hb;omega);have kfr:∀y,y<nx->cC H n1 y=H0 y:=λy hy=>(w y (by omega)).trans (q11 y hy);generalize cC H n1=H2 at *;have hsl:s.length=L.length:=q8.b.len;have hck:=zf (s:=s) (k:=k) (by omega);have hik:=hix k hk;have hml:(s.map (AV.int .i64)).length=L.length:=by rw[bC];exact hsl
   by_cases hs:sg s k<0
   ·obtain⟨r2,rfl⟩:∃r2,q=h::r2:=by
      have:=q8.hd;cases q with
      |nil=>cases this
      |cons x l=>cases this;exact⟨l,rfl⟩
    obtain⟨p1,hp1,hp2⟩:=k6.hd;have hp3:=hp2 H2 λ_ _=>rfl;have hih:=hix h hh;have hch:=zf (s:=s) (k:=h) (by omega);have hh0:=(q8.b.inq h (jZ ..)).2;have hh1:=q10.le h;have hpt:=Hz (s:=s) (k:=k) (by omega) (sg s h+1);have hvs:=q8.visit hk ha hs;have hvm:=vR (s:=s) (q:=h::r2) (k:=k) (x:=sg s h+1) (by omega) hs (by omega);have hvu:=q10.visit (h:=h) (k:=k) (by omega) hs hh0
    have hql2:(qi (h::r2)).length<=1000000:=by
     rw[vE];have:qN s (h::r2)<=1000000:=by omega
     unfold qN at this;omega
    generalize sg s k=vk at *;generalize sg s h=vh at *;generalize s.map (AV.int .i64)=C at *;refine wnY (aI @PE (aI @SV3 (fI @NKI @k3 @k4 @k5 @hik @hih @hck @hch @hp1 @hp3))) ?_;refine IS (sv:=qv) (xv:=.msl n' 1 1 0 1) (z:=(k:Int)) ev0 (k6.same λb hb=>by have:=q7 b hb;simp (disch:=omega) only[ab]) (by simp[qi]) ev0 (cP rfl) hql2 (λb hb=>by have:=q7 b hb;omega) ?_;rintro sv' H4 n4 r1 r2' r3 r4;have nq:∀y,y<nx+2\/y=c\/y=n1->bk qv≠some y:=λy hy h=>by have:=q7 y h;omega
    have v5:H4 c=some [qv]:=by rw[r3 c (by omega) (nq c (by omega))];simp (disch:=omega) only[ab];exact k5
    have v3:H4 (nx+1)=some [.msl nx L.length 1 0 L.length]:=by rw[r3 _ (by omega) (nq _ (by omega))];simp (disch:=omega) only[ab];exact k3
    have v4:H4 nx=some ((s.set k (vh+1)).map (AV.int .i64)):=by rw[r3 _ (by omega) (nq _ (by omega))];simp (disch:=omega) only[ab,ac];rw[hpt]
    have vfr:∀y,y<nx->H4 y=H0 y:=λy hy=>by rw[r3 y (by omega) (nq y (by omega))];simp (disch:=omega) only[ab];exact kfr y hy
    obtain⟨o5,o6⟩:=r1.one;rw[<-BR] at r1;refine wnY (zI6 @PE @SV3 @NKI @v5 @o5 @o6) ?_
    have hb4:∀b,bk sv'=some b->nx+2<=b/\b<n4/\b≠c/\b≠n1:=λb hb=>by
     obtain⟨x1,x2⟩:=r4 b hb;rcases x2 with x2|x2
     ·have:=q7 b x2;omega
     ·omega
    refine .inl ⟨rfl,by omega,ac,s.set k (vh+1),h::r2++[k],sv',by simp (disch:=omega) only[ab];exact v3,by simp (disch:=omega) only[ab];exact v4,by simp (disch:=omega) only[ab,ac];rfl,r1.same λb hb=>by have:=hb4 b hb;simp (disch:=omega) only[ab],hb4,hvs,by omega,hvu,λy hy=>by simp (disch:=omega) only[ab];exact vfr y hy⟩
   ·generalize hvk:sg s k=vk at *;generalize hC:s.map (AV.int .i64)=C at *;refine wnY (zI8 @PE @SV3 @NKI @k3 @k4 @k5 @hik @hck) ?_;refine .inl ⟨rfl,q1,ac,s,q,qv,by rw[ab (by omega)];exact k3,by rw[ab (by omega)];exact hC▸k4,by rw[ab (by omega)];exact k5,k6.same λb hb=>ab (by have:=q7 b hb;omega),q7,q8.skip λ_=>by omega,q9,q10,λy hy=>by rw[ab (by omega)];exact kfr y hy⟩
  ·rintro k H n' ⟨q1,q2,s,q,qv,q3,q4,q5,q6,q7,q8,q9,q10,q11⟩ hk ha;exact⟨q1,q2,s,q,qv,q3,q4,q5,q6,q7,q8.skip (λh=>by rw[ha] at h;cases h),q9,q10,q11⟩
  ·refine⟨by omega,ac,s0,h::r,qv,by rw[ab (by omega)];exact g1,by rw[ab (by omega)];exact g0,by rw[ab (by omega)];exact gc,hq.same λb hb=>ab (by have:=hqb b hb;omega),λb hb=>by have:=hqb b hb;omega,hB.begin rfl,ba _,hU,λy hy=>by rw[ab (by omega)];exact fr y hy⟩
  ·rintro _ H2 n2 (⟨q1,q2,s2,q2',qv2,q3,q4,q5,q6,q7,q8,q9,q10,q11⟩|hF)
   rotate_left
   ·exact hF.elim
   refine .inl ⟨q2,?_⟩;clear hy;have w:∀x,x≠n1->cC H2 n1 x=H2 x:=λx b=>cA b;have k3:=(w (nx+1) (by omega)).trans q3;have k4:=(w nx (by omega)).trans q4;have k5:=(w c (by omega)).trans q5;have k6:Qu (cC H2 n1) qv2 (qi q2'):=q6.same λb hb=>w b (by have:=q7 b hb;omega);have kfr:∀y,y<nx->cC H2 n1 y=H0 y:=λy hy=>(w y (by omega)).trans (q11 y hy);generalize cC H2 n1=H3 at *
   obtain⟨r2,rfl⟩:∃r2,q2'=h::r2:=by
    have:=q8.hd;cases q2' with
    |nil=>cases this
    |cons x l=>cases this;exact⟨l,rfl⟩
   obtain⟨v',hv1,hv2,hv3⟩:=k6.tl;have hfin:=q8.finish (ba _);obtain⟨o5,o6⟩:=k6.one;obtain⟨o7,o8⟩:=hv2.one;have hbm:qN s2 (h::r2)=qN s2 r2+1:=by unfold qN;rw[d5];omega
   refine wnY (zI9 @PE @SV3 @NKI @k5 @o5 @o6 @o7 @o8 @hv1) ?_;refine⟨(s2,r2,v',n2),by dsimp only;omega,⟨by dsimp only;omega,by dsimp only;omega,by simp (disch:=omega) only[ab];exact k3,by simp (disch:=omega) only[ab];exact k4,by simp (disch:=omega) only[ac];rfl,hv2.same λb hb=>by have:=q7 b (hv3 b hb);simp (disch:=omega) only[ab],λb hb=>by have:=q7 b (hv3 b hb);dsimp only;omega,hfin,by dsimp only;omega,q10,λy hy=>by simp (disch:=omega) only[ab];exact kfr y hy⟩,by simp (disch:=omega) only[agr,ZG,reduceEqDiff,↓reduceIte,SL]⟩
theorem vO(P:List Nat)(hP:Fst P)(i:Nat)(hi:i<P.length)(H0:Hp)(nx pv pb:Nat)(hv:H0 pv=some [.msl pb P.length 1 0 P.length])(hb:H0 pb=some (lQ P))(hne:pv≠pb):
    Abs.Fn Tryz.prog 69 [.int .i64 i,.ptr pv 1 0] H0 nx λr H' nx'=>r=.int .i64 (rt P i:Nat)/\nx'=nx/\∃P',Fst P'/\P'.length=P.length/\(∀j,rt P' j=rt P j)/\H' pb=some (lQ P')/\∀y,y≠pb->H' y=H0 y:=by
 refine fO QH ?_;simp only[b69,av];refine wnY and_self ?_;refine br (X:=Nat×List Nat) (λx=>[(0,.int .i64 (x.1:Nat)),(1,.ptr pv 1 0)]) (λx H n'=>x.1<P.length/\rt P x.1=rt P i/\n'=nx/\Fst x.2/\x.2.length=P.length/\(∀j,rt x.2 j=rt P j)/\H pb=some (lQ x.2)/\∀y,y≠pb->H y=H0 y) (λx=>x.1) (i,P) ⟨hi,rfl,rfl,hP,rfl,λ_=>rfl,hb,λ_ _=>rfl⟩ ag0 ?_;rintro⟨k,Q⟩ H n' ⟨hk,hr,rfl,hQ,hl,hrt,gb,fr⟩;dsimp only at hk hr hQ hl hrt gb |-;have gv:=(fr pv hne).trans hv;have hck:=rl (P:=Q) (k:=k) (by omega);have hix:=λk h=>yH (b:=pb) (m:=P.length) (k:=k) h;have hik:=hix k hk;have hle:=hQ k;have hiu:=hix (up Q k) (by omega);have hcu:=rl (P:=Q) (k:=up Q k) (by omega);have hel:=mP Q;rw[hl] at hel;by_cases hu:up Q k=k
 ·have z:decide (((up Q k:Nat):Int)≠k)=false:=bL (by omega);refine wnY (zI5 @gv @gb @hik @hck @z) ?_;refine⟨?_,rfl,Q,hQ,hl,hrt,gb,fr⟩;rw[<-hr,<-hrt k,kR hu]
 ·have z:decide (((up Q k:Nat):Int)≠k)=true:=bH (by omega);have hle2:=hQ (up Q k);obtain⟨hh1,hh2⟩:=hQ.halve (i:=k) (by omega);have hpt:=uV (P:=Q) (k:=k) (by omega) (up Q (up Q k));have hc2:=rl (P:=Q.set k (up Q (up Q k))) (k:=k) (by rw[List.length_set];omega);rw[px (by omega),if_pos rfl] at hc2;have hel2:=mP (Q.set k (up Q (up Q k)));rw[List.length_set,hl] at hel2;have hrk:rt P (up Q (up Q k))=rt P i:=by rw[<-hrt,so hQ,so hQ,hrt];exact hr
  have hlt:up Q (up Q k)<k:=by omega
  generalize up Q (up Q k)=w at *;generalize up Q k=u at *;generalize hC:lQ Q=C at *;generalize hD:lQ (Q.set k w)=D at *;refine wnY (aI @gv (fI @gb @hik @hiu @hck @hcu @hpt @hc2 @hel @hel2 @z)) ?_;rw[hpt];refine wnY (aI @hc2 @hel2) ?_;exact⟨(w,Q.set k w),hlt,⟨by dsimp only;omega,hrk,rfl,hh1,by dsimp only;rw[List.length_set];exact hl,λj=>(hh2 j).trans (hrt j),by dsimp only;rw[ac,hD],λy hy=>by rw[ab hy];exact fr y hy⟩,ag0⟩
set_option maxHeartbeats 8000000 in
theorem KW(a b:List Int)(ha:a.length<=1000)(hab:a.length=b.length)(hpa:Pt a)(hpb:Pt b)(H0:Hp)(nx:Nat):
    Abs.Fn Tryz.prog 39 [aD a,aD b] H0 nx λr H' nx'=>nx<=nx'/\(∀y,y<nx->H' y=H0 y)/\∃l,r=.tup [aD l,.int .i64 0]/\l.length=a.length/\Pt l/\∀i j,i<a.length->j<a.length->(l.getD i 0=l.getD j 0↔Cn (RJ a b) i j):=by
 refine fO QX ?_;simp only[b39,av];have hbo:=Kh a b (by omega) hab hpa hpb;refine wnY @PE ?_;refine mN rfl ev0 ev0 (by omega) (by omega) (by omega) (by omega) ?_;rw[bR,gj,Nat.mul_one];refine wnY @PE ?_;have hix:=λb k h=>yH (b:=b) (m:=a.length) (k:=k) h
 refine br (X:=Nat) (λk=>[(0,aD a),(1,aD b),(7,.ptr (nx+1) 1 0),(31,.int .i64 a.length),(32,.int .i64 k)]) (λk H n'=>k<=a.length/\n'=nx+2/\H (nx+1)=some [.msl nx a.length 1 0 a.length]/\H nx=some ((qi (List.range k)++List.replicate (a.length-(qi (List.range k)).length) (0:Int)).map (AV.int .i64))/\∀y,y<nx->H y=H0 y) (λk=>a.length-k) 0
  ⟨bA _,rfl,by simp (disch:=omega) only[ab,ac];rfl,by simp (disch:=omega) only[ab,ac];rfl,λy hy=>by simp (disch:=omega) only[ab]⟩ (by simp (disch:=omega) only[agr,ZG,reduceEqDiff,↓reduceIte,SL]) ?_
 rintro k H1 n1 ⟨hk,rfl,g1,g0,fr⟩;have hrl:(qi (List.range k)).length=k:=by rw[vE,List.length_range]
 by_cases hk2:k<a.length
 ·have hi:=hix nx k hk2;have hpt:=yV (qi (List.range k)) a.length (by omega) (k:Int);rw[<-Fy,hrl] at hpt;rw[hrl] at g0
  have hml:((qi (List.range k)++List.replicate (a.length-k) (0:Int)).map (AV.int .i64)).length=a.length:=by
   rw[bC,cm,hrl,List.length_replicate];omega
  generalize (qi (List.range k)++List.replicate (a.length-k) (0:Int)).map (AV.int .i64)=C at *;refine wnY (zI3 @PE @g1 @hi) ?_;refine ml (b:=nx) (n:=a.length) (off:=k) (cs:=C) (vs:=[.int .i64 (k:Nat)]) rfl ev0 ev0 g0 rfl rfl hml rfl (by omega) ?_;rw[hpt];refine wnY and_self ?_;exact⟨k+1,by omega,⟨by omega,rfl,by rw[ab (by omega)];exact g1,ac,λy hy=>by rw[ab (by omega)];exact fr y hy⟩,ag0⟩
 obtain rfl:k=a.length:=by omega
 rw[hrl,Nat.sub_self,List.replicate_zero,gH] at g0;refine wnY (aI @PE @g1) ?_
 refine br (X:=Nat×List Nat) (λx=>[(0,aD a),(7,.ptr (nx+1) 1 0),(9,.func 69 [.ptr (nx+1) 1 0]),(43,.msl (nx+2) 2 1 0 2),(44,.int .i64 (2:Nat)),(45,.int .i64 x.1)]) (λx H n'=>x.1<=2/\nx+3<=n'/\H nx=some (lQ x.2)/\H (nx+1)=some [.msl nx a.length 1 0 a.length]/\H (nx+2)=some [aD a,aD b]/\PJ a b x.2/\(1<=x.1->ym a x.2)/\(2<=x.1->ym b x.2)/\∀y,y<nx->H y=H0 y) (λx=>2-x.1) (0,List.range a.length)
  ⟨by omega,by omega,by simp (disch:=omega) only[ab];exact g0,by simp (disch:=omega) only[ab];exact g1,by simp (disch:=omega) only[ac],PJ.start a b,λh=>absurd h (by dsimp only;omega),λh=>absurd h (by dsimp only;omega),λy hy=>by simp (disch:=omega) only[ab];exact fr y hy⟩ (by simp (disch:=omega) only[agr,ZG,reduceEqDiff,↓reduceIte,SL]) ?_
 clear g0 g1 fr hrl hk hk2;rintro⟨c,P⟩ H1 n1 ⟨c1,hn1,g0,g1,g2,hJ,hCa,hCb,fr⟩;dsimp only at c1 hn1 g0 hJ hCa hCb |-;rcases(by omega:c=0\/c=1\/c=2) with rfl|rfl|rfl
 ·refine wnY (zI3 @PE @g1 @g2) ?_;refine pY ?_;refine wnY @PE ?_;have hll:a.length=a.length:=rfl
  refine br (X:=Nat×List Nat×List Int×List Int) (λx=>[(0,aD a),(7,.ptr (nx+1) 1 0),(9,.func 69 [.ptr (nx+1) 1 0]),(43,.msl (nx+2) 2 1 0 2),(44,.int .i64 (2:Nat)),(45,.int .i64 ((0:Nat):Int)),(12,.mp n1),(50,aD a),(51,.int .i64 a.length),(52,.int .i64 x.1)]) (λx H n'=>x.1<=a.length/\n'=n1+1/\H nx=some (lQ x.2.1)/\H (nx+1)=some [.msl nx a.length 1 0 a.length]/\H (nx+2)=some [aD a,aD b]/\H n1=some [.omap (x.2.2.1.map (AV.int .i64)) (x.2.2.2.map (AV.int .i64))]/\PJ a b x.2.1/\MI a x.1 x.2.2.1 x.2.2.2 x.2.1/\(True)/\∀y,y<nx->H y=H0 y) (λx=>a.length-x.1) (0,P,[],[])
   ⟨bA _,rfl,by simp (disch:=omega) only[ab];exact g0,by simp (disch:=omega) only[ab];exact g1,by simp (disch:=omega) only[ab];exact g2,by simp (disch:=omega) only[ac];rfl,hJ,MI.nil a P,trivial,λy hy=>by simp (disch:=omega) only[ab];exact fr y hy⟩ ag0 ?_
  clear g0 g1 g2 fr;rintro⟨i,Q,ks,vs⟩ H2 n2 ⟨i1,rfl,g0,g1,g2,gm,hQ,hM,hC,fr⟩;dsimp only at i1 g0 gm hQ hM hC |-;by_cases hi:i<a.length
  rotate_left
  ·obtain rfl:i=a.length:=by omega
   refine wnY @PE ?_;refine⟨(1,Q),by dsimp only;omega,⟨by dsimp only;omega,by omega,g0,g1,g2,hQ,λ_=>hM.all,λh=>absurd h (by dsimp only;omega),fr⟩,by simp (disch:=omega) only[agr,ZG,reduceEqDiff,↓reduceIte];exact⟨trivial,trivial,trivial,trivial,trivial,rfl⟩⟩
  have ix:cu 1 (aD a) (.int .i64 (i:Int))=some (.iptr [.int .i64 (a.getD i 0)] 0):=by
   have:=l9 (l:=a) (n:=(i:Int)) (by omega) (by omega)
   rwa [bR] at this
  have hmf:=y5 (a.getD i 0) ks;have hQl:=hQ.len;by_cases hv:a.getD i 0∈ks
  ·rw[if_pos hv] at hmf;obtain⟨k,hk1,hk2,hk3⟩:=hM.fst _ hv;have hgv:=n9 (l:=vs) (i:=ks.idxOf (a.getD i 0)) (by rw[hM.kv];exact List.idxOf_lt_length_of_mem hv);have hMo:=λQ' h1 h2=>hM.old (Q:=Q') hv h1 h2;rw[hk2] at hgv;simp only[hk2] at hMo;have hRJ:RJ a b i k:=⟨by omega,by omega,.inl hk3.symm⟩
   generalize a.getD i 0=v at *;refine wnY (aI @PE @ix) ?_;refine fC (b:=n1) ev0 gm ev0 rfl hmf ?_;rw[show mget (AV.int .i64 0) true (some (ks.idxOf v)) (vs.map (AV.int .i64))=.tup [(vs.map (AV.int .i64)).getD (ks.idxOf v) .undef,.bool true] from rfl,hgv];refine wnY @PE ?_;refine aX ev0 ev0 (vO Q hQ.fst i (by omega) _ _ (nx+1) nx (by rw[hQl];exact g1) g0 (by omega)) ?_;rintro _ H3 n3 ⟨rfl,rfl,Q3,hQ3,hl3,hr3,g03,fr3⟩;refine wnY @PE ?_;refine aX ev0 ev0 (vO Q3 hQ3 k (by omega) _ _ (nx+1) nx (by rw[hl3,hQl,fr3 _ (by omega)];exact g1) g03 (by omega)) ?_;rintro _ H4 n4 ⟨rfl,rfl,Q4,hQ4,hl4,hr4,g04,fr4⟩;have hr:∀j,rt Q4 j=rt Q j:=λj=>(hr4 j).trans (hr3 j);have f4:∀y,y≠nx->H4 y=H2 y:=λy hy=>(fr4 y hy).trans (fr3 y hy);have k1:=(f4 (nx+1) (by omega)).trans g1;have hJ4:=hQ.same hQ4 (by omega) hr;have hJ5:=hJ4.join hRJ.1 hRJ.2.1 hRJ;obtain⟨j1,j2,j3⟩:=qS hQ4 (i:=i) (k:=k) (by omega) (by omega);have hmx:=GD (rt Q4 i) (rt Q4 k);have hmn:=Fw (rt Q4 i) (rt Q4 k);have l1:=rU hQ4 i;have l2:=rU hQ4 k;have hixm:=hix nx (max (rt Q4 i) (rt Q4 k)) (by omega);have hpt:=uV (P:=Q4) (k:=max (rt Q4 i) (rt Q4 k)) (by omega) (min (rt Q4 i) (rt Q4 k));have hMo2:=hMo (Q4.set (max (rt Q4 i) (rt Q4 k)) (min (rt Q4 i) (rt Q4 k))) (λx y e=>j2 x y (by rw[hr,hr];exact e)) (λk' hk'=>by rw[show k'=k by omega];exact j3);have hel:(lQ Q4).length=a.length:=by rw[mP];omega
   rw[<-hr i,<-hr4 k];generalize hmxv:max (rt Q4 i) (rt Q4 k)=mxv at *;generalize hmnv:min (rt Q4 i) (rt Q4 k)=mnv at *;generalize rt Q4 i=rp at *;generalize rt Q4 k=rq at *;generalize lQ Q4=C at *;refine wnY (zI5 @PE @k1 @hmx @hmn @hixm) ?_;refine ml (b:=nx) (n:=a.length) (off:=mxv) (cs:=C) (vs:=[.int .i64 (mnv:Nat)]) rfl ev0 ev0 g04 rfl rfl hel rfl (by omega) ?_;rw[hpt];refine wnY @PE ?_;exact⟨(i+1,Q4.set mxv mnv,ks,vs),by dsimp only;omega,⟨by dsimp only;omega,rfl,ac,by rw[ab (by omega)];exact k1,by rw[ab (by omega),f4 _ (by omega)];exact g2,by rw[ab (by omega),f4 _ (by omega)];exact gm,hJ5,hMo2,trivial,λy hy=>by rw[ab (by omega),f4 y (by omega)];exact fr y hy⟩,ag0⟩
  ·rw[if_neg hv] at hmf;have hMn:=hM.new hv;generalize a.getD i 0=v at *;refine wnY (aI @PE @ix) ?_;refine fC (b:=n1) ev0 gm ev0 rfl hmf ?_;rw[show mget (AV.int .i64 0) true none (vs.map (AV.int .i64))=.tup [.int .i64 0,.bool false] from rfl];refine wnY @PE ?_;refine l7 (b:=n1) ev0 gm ev0 ev0 rfl hmf ?_;refine wnY @PE ?_;refine⟨(i+1,Q,ks++[v],vs++[(i:Int)]),by dsimp only;omega,⟨by dsimp only;omega,rfl,by rw[ab (by omega)];exact g0,by rw[ab (by omega)];exact g1,by rw[ab (by omega)];exact g2,?_,hQ,hMn,hC,λy hy=>by rw[ab (by omega)];exact fr y hy⟩,ag0⟩;rw[ac];show some [AV.omap (ks.map (AV.int .i64)++[.int .i64 v]) (vs.map (AV.int .i64)++[.int .i64 (i:Nat)])]=some [AV.omap ((ks++[v]).map (AV.int .i64)) ((vs++[((i:Nat):Int)]).map (AV.int .i64))];rw[du,du];rfl
 ·refine wnY (zI3 @PE @g1 @g2) ?_;refine pY ?_;refine wnY @PE ?_;have hll:b.length=a.length:=hab.symm
  refine br (X:=Nat×List Nat×List Int×List Int) (λx=>[(0,aD a),(7,.ptr (nx+1) 1 0),(9,.func 69 [.ptr (nx+1) 1 0]),(43,.msl (nx+2) 2 1 0 2),(44,.int .i64 (2:Nat)),(45,.int .i64 ((1:Nat):Int)),(12,.mp n1),(50,aD b),(51,.int .i64 b.length),(52,.int .i64 x.1)]) (λx H n'=>x.1<=b.length/\n'=n1+1/\H nx=some (lQ x.2.1)/\H (nx+1)=some [.msl nx a.length 1 0 a.length]/\H (nx+2)=some [aD a,aD b]/\H n1=some [.omap (x.2.2.1.map (AV.int .i64)) (x.2.2.2.map (AV.int .i64))]/\PJ a b x.2.1/\MI b x.1 x.2.2.1 x.2.2.2 x.2.1/\(ym a x.2.1)/\∀y,y<nx->H y=H0 y) (λx=>b.length-x.1) (0,P,[],[])
   ⟨bA _,rfl,by simp (disch:=omega) only[ab];exact g0,by simp (disch:=omega) only[ab];exact g1,by simp (disch:=omega) only[ab];exact g2,by simp (disch:=omega) only[ac];rfl,hJ,MI.nil b P,hCa (by omega),λy hy=>by simp (disch:=omega) only[ab];exact fr y hy⟩ ag0 ?_
  clear g0 g1 g2 fr;rintro⟨i,Q,ks,vs⟩ H2 n2 ⟨i1,rfl,g0,g1,g2,gm,hQ,hM,hC,fr⟩;dsimp only at i1 g0 gm hQ hM hC |-;by_cases hi:i<b.length
  rotate_left
  ·obtain rfl:i=b.length:=by omega
   refine wnY @PE ?_;refine⟨(2,Q),by dsimp only;omega,⟨by dsimp only;omega,by omega,g0,g1,g2,hQ,λ_=>hC,λh=>hM.all,fr⟩,by simp (disch:=omega) only[agr,ZG,reduceEqDiff,↓reduceIte];exact⟨trivial,trivial,trivial,trivial,trivial,rfl⟩⟩
  have ix:cu 1 (aD b) (.int .i64 (i:Int))=some (.iptr [.int .i64 (b.getD i 0)] 0):=by
   have:=l9 (l:=b) (n:=(i:Int)) (by omega) (by omega)
   rwa [bR] at this
  have hmf:=y5 (b.getD i 0) ks;have hQl:=hQ.len;by_cases hv:b.getD i 0∈ks
  ·rw[if_pos hv] at hmf;obtain⟨k,hk1,hk2,hk3⟩:=hM.fst _ hv;have hgv:=n9 (l:=vs) (i:=ks.idxOf (b.getD i 0)) (by rw[hM.kv];exact List.idxOf_lt_length_of_mem hv);have hMo:=λQ' h1 h2=>hM.old (Q:=Q') hv h1 h2;rw[hk2] at hgv;simp only[hk2] at hMo;have hRJ:RJ a b i k:=⟨by omega,by omega,.inr hk3.symm⟩
   generalize b.getD i 0=v at *;refine wnY (aI @PE @ix) ?_;refine fC (b:=n1) ev0 gm ev0 rfl hmf ?_;rw[show mget (AV.int .i64 0) true (some (ks.idxOf v)) (vs.map (AV.int .i64))=.tup [(vs.map (AV.int .i64)).getD (ks.idxOf v) .undef,.bool true] from rfl,hgv];refine wnY @PE ?_;refine aX ev0 ev0 (vO Q hQ.fst i (by omega) _ _ (nx+1) nx (by rw[hQl];exact g1) g0 (by omega)) ?_;rintro _ H3 n3 ⟨rfl,rfl,Q3,hQ3,hl3,hr3,g03,fr3⟩;refine wnY @PE ?_;refine aX ev0 ev0 (vO Q3 hQ3 k (by omega) _ _ (nx+1) nx (by rw[hl3,hQl,fr3 _ (by omega)];exact g1) g03 (by omega)) ?_;rintro _ H4 n4 ⟨rfl,rfl,Q4,hQ4,hl4,hr4,g04,fr4⟩;have hr:∀j,rt Q4 j=rt Q j:=λj=>(hr4 j).trans (hr3 j);have f4:∀y,y≠nx->H4 y=H2 y:=λy hy=>(fr4 y hy).trans (fr3 y hy);have k1:=(f4 (nx+1) (by omega)).trans g1;have hJ4:=hQ.same hQ4 (by omega) hr;have hJ5:=hJ4.join hRJ.1 hRJ.2.1 hRJ;obtain⟨j1,j2,j3⟩:=qS hQ4 (i:=i) (k:=k) (by omega) (by omega);have hmx:=GD (rt Q4 i) (rt Q4 k);have hmn:=Fw (rt Q4 i) (rt Q4 k);have l1:=rU hQ4 i;have l2:=rU hQ4 k;have hixm:=hix nx (max (rt Q4 i) (rt Q4 k)) (by omega);have hpt:=uV (P:=Q4) (k:=max (rt Q4 i) (rt Q4 k)) (by omega) (min (rt Q4 i) (rt Q4 k));have hMo2:=hMo (Q4.set (max (rt Q4 i) (rt Q4 k)) (min (rt Q4 i) (rt Q4 k))) (λx y e=>j2 x y (by rw[hr,hr];exact e)) (λk' hk'=>by rw[show k'=k by omega];exact j3);have hC2:=hC.mono (Q:=Q4.set (max (rt Q4 i) (rt Q4 k)) (min (rt Q4 i) (rt Q4 k))) (λx y e=>j2 x y (by rw[hr,hr];exact e));have hel:(lQ Q4).length=a.length:=by rw[mP];omega
   rw[<-hr i,<-hr4 k];generalize hmxv:max (rt Q4 i) (rt Q4 k)=mxv at *;generalize hmnv:min (rt Q4 i) (rt Q4 k)=mnv at *;generalize rt Q4 i=rp at *;generalize rt Q4 k=rq at *;generalize lQ Q4=C at *;refine wnY (zI5 @PE @k1 @hmx @hmn @hixm) ?_;refine ml (b:=nx) (n:=a.length) (off:=mxv) (cs:=C) (vs:=[.int .i64 (mnv:Nat)]) rfl ev0 ev0 g04 rfl rfl hel rfl (by omega) ?_;rw[hpt];refine wnY @PE ?_;exact⟨(i+1,Q4.set mxv mnv,ks,vs),by dsimp only;omega,⟨by dsimp only;omega,rfl,ac,by rw[ab (by omega)];exact k1,by rw[ab (by omega),f4 _ (by omega)];exact g2,by rw[ab (by omega),f4 _ (by omega)];exact gm,hJ5,hMo2,hC2,λy hy=>by rw[ab (by omega),f4 y (by omega)];exact fr y hy⟩,ag0⟩
  ·rw[if_neg hv] at hmf;have hMn:=hM.new hv;generalize b.getD i 0=v at *;refine wnY (aI @PE @ix) ?_;refine fC (b:=n1) ev0 gm ev0 rfl hmf ?_;rw[show mget (AV.int .i64 0) true none (vs.map (AV.int .i64))=.tup [.int .i64 0,.bool false] from rfl];refine wnY @PE ?_;refine l7 (b:=n1) ev0 gm ev0 ev0 rfl hmf ?_;refine wnY @PE ?_;refine⟨(i+1,Q,ks++[v],vs++[(i:Int)]),by dsimp only;omega,⟨by dsimp only;omega,rfl,by rw[ab (by omega)];exact g0,by rw[ab (by omega)];exact g1,by rw[ab (by omega)];exact g2,?_,hQ,hMn,hC,λy hy=>by rw[ab (by omega)];exact fr y hy⟩,ag0⟩;rw[ac];show some [AV.omap (ks.map (AV.int .i64)++[.int .i64 v]) (vs.map (AV.int .i64)++[.int .i64 (i:Nat)])]=some [AV.omap ((ks++[v]).map (AV.int .i64)) ((vs++[((i:Nat):Int)]).map (AV.int .i64))];rw[du,du];rfl
 ·have hiff:=λi j hi hj=>hJ.iff hab (hCa (by omega)) (hCb (by omega)) (i:=i) (j:=j) hi hj;have hPl:=hJ.len;refine wnY @PE ?_;refine mN rfl ev0 ev0 (by omega) (by omega) (by omega) (by omega) ?_;rw[bR,gj,Nat.mul_one];refine wnY @PE ?_;have hrl:∀i,(qi ((List.range i).map (rt P))).length=i:=λi=>by rw[vE,bC,List.length_range]
  have hrs:∀i,qi ((List.range (i+1)).map (rt P))=qi ((List.range i).map (rt P))++[((rt P i:Nat):Int)]:=λi=>by rw[List.range_succ,du,List.map_singleton,BR]
  refine br (X:=Nat×List Nat) (λx=>[(9,.func 69 [.ptr (nx+1) 1 0]),(19,.msl n1 a.length 1 0 a.length),(87,.int .i64 a.length),(88,.int .i64 x.1)]) (λx H n'=>x.1<=a.length/\n'=n1+1/\H nx=some (lQ x.2)/\H (nx+1)=some [.msl nx a.length 1 0 a.length]/\H n1=some ((qi ((List.range x.1).map (rt P))++List.replicate (a.length-(qi ((List.range x.1).map (rt P))).length) (0:Int)).map (AV.int .i64))/\Fst x.2/\x.2.length=a.length/\(∀j,rt x.2 j=rt P j)/\∀y,y<nx->H y=H0 y) (λx=>a.length-x.1) (0,P)
   ⟨bA _,rfl,by simp (disch:=omega) only[ab];exact g0,by simp (disch:=omega) only[ab];exact g1,by simp (disch:=omega) only[ac];rfl,hJ.fst,hPl,λ_=>rfl,λy hy=>by simp (disch:=omega) only[ab];exact fr y hy⟩ (by simp (disch:=omega) only[agr,ZG,reduceEqDiff,↓reduceIte,SL]) ?_
  clear g0 g1 g2 fr;rintro⟨i,Q⟩ H2 n2 ⟨i1,rfl,g0,g1,gR,hQ,hQl,hr,fr⟩;dsimp only at i1 g0 gR hQ hQl hr |-;have hrli:=hrl i;by_cases hi:i<a.length
  ·have hpt:=yV (qi ((List.range i).map (rt P))) a.length (by omega) ((rt P i:Nat):Int);rw[<-hrs,hrli] at hpt;rw[hrli] at gR
   have hml:((qi ((List.range i).map (rt P))++List.replicate (a.length-i) (0:Int)).map (AV.int .i64)).length=a.length:=by
    rw[bC,cm,hrli,List.length_replicate];omega
   have hii:=hix n1 i hi;generalize (qi ((List.range i).map (rt P))++List.replicate (a.length-i) (0:Int)).map (AV.int .i64)=C at *;refine wnY @PE ?_;refine aX ev0 ev0 (vO Q hQ i (by omega) _ _ (nx+1) nx (by rw[hQl];exact g1) g0 (by omega)) ?_;rintro _ H3 n3 ⟨rfl,rfl,Q3,hQ3,hl3,hr3,g03,fr3⟩;rw[hr i];refine wnY (aI @PE @hii) ?_;refine ml (b:=n1) (n:=a.length) (off:=i) (cs:=C) (vs:=[.int .i64 (rt P i:Nat)]) rfl ev0 ev0 (by rw[fr3 _ (by omega)];exact gR) rfl rfl hml rfl (by omega) ?_;rw[hpt];refine wnY @PE ?_;exact⟨(i+1,Q3),by dsimp only;omega,⟨by dsimp only;omega,rfl,by rw[ab (by omega)];exact g03,by rw[ab (by omega),fr3 _ (by omega)];exact g1,ac,hQ3,by dsimp only;omega,λj=>(hr3 j).trans (hr j),λy hy=>by rw[ab (by omega),fr3 y (by omega)];exact fr y hy⟩,ag0⟩
  obtain rfl:i=a.length:=by omega
  rw[hrli,Nat.sub_self,List.replicate_zero,gH] at gR;have hget:∀j,j<a.length->(qi ((List.range a.length).map (rt P))).getD j 0=((rt P j:Nat):Int):=λj hj=>by simp[qi,List.getD,hj]
  have hnn:∀v∈qi ((List.range a.length).map (rt P)),0<=v:=λv hv=>by
   obtain⟨x,_,rfl⟩:=dF.1 hv;omega
  have hlb:=Gg (qi ((List.range a.length).map (rt P))) (by omega) hnn;have hci:=jV (qi ((List.range a.length).map (rt P)));generalize qi ((List.range a.length).map (rt P))=RL at *;refine kE ?_;have zz:=@PE;repeat' (first|apply a_n|refine zO ?_|refine vY ?_|fail)
  refine kE ?_;clear zz;have zz:=@PE;repeat' (first|apply a_n|apply a_x|refine zO ?_|(refine zGY ?_ ?_<;>(intro _hg;try (exfalso;omega)))|fail)
  refine kE ?_;obtain⟨Hf,H5,hfz,hsn,hs5⟩:=yY (d:=aD RL) (Row.box1 (len:=a.length) gR (by rw[bC];exact hrli)) (λH' h=>Row.snapI h);have h5:∀y,y<nx->H5 y=H2 y:=λy hy=>hs5 y (by intro h;cases h;omega)
  refine tQ Hf H5 [(19,aD RL)] hfz ⟨.inr (by
   have e:∀v,v=AV.msl n1 a.length 1 0 a.length->Snap Hf v (aD RL):=λv h=>h▸hsn;exact e _ ev0),trivial⟩ ?_
  refine wnY @PE ?_;refine⟨by omega,λy hy=>(h5 y hy).trans (fr y hy),yL RL,rfl,hci.len.trans hrli,hci.pt,λi j hi hj=>?_⟩;rw[<-hiff i j hi hj];refine(hci.cls i j (by omega) (by omega)).trans ?_;rw[hget i hi,hget j hj]
  exact ⟨fun h=>by
   rcases h with rfl|h
   ·rfl
   ·omega,λh=>.inr ⟨by omega,by omega⟩⟩
end
theorem FT(n:Nat)(L:List (List Int))(e f:Nat):mJ n L e f=mJ n L f e:=by
 have h:∀e f p,jb L e f p=true->jb L f e p=true:=λe f p h=>by
  unfold jb at h |-;have:=sV h;exact bH ⟨by omega,this.2.symm⟩
 have h0:∀e f,uF n L e f=0->uF n L f e=0:=λe f he=>by
  unfold uF at he |-;rw[uC] at he |-;intro p hp;cases hb:jb L f e p with
  |false=>rfl
  |true=>have:=h _ _ _ hb;rw[he p hp] at this;cases this
 unfold mJ;have e1:decide (uF n L e f≠0)=decide (uF n L f e≠0):=decide_eq_decide.2 ⟨λh1 h2=>h1 (h0 _ _ h2),λh1 h2=>h1 (h0 _ _ h2)⟩;have e2:decide (e≠f)=decide (f≠e):=decide_eq_decide.2 ⟨λh=>h.symm,λh=>h.symm⟩;rw[e1,e2]
theorem Lf{n:Nat}{L:List (List Int)}{e f:Nat}:mJ n L e f=true↔e≠f/\∃p,p<n/\jb L e f p=true:=by
 unfold mJ;rw[d9,gI,gI];refine⟨λ⟨h1,h2⟩=>⟨h2,?_⟩,λ⟨h1,p,h2,h3⟩=>⟨λh0=>?_,h1⟩⟩
 ·refine Classical.byContradiction λhc=>h1 ?_;unfold uF;rw[uC];intro p hp;cases hb:jb L e f p with
  |false=>rfl
  |true=>exact absurd ⟨p,hp,hb⟩ hc
 ·unfold uF at h0;rw[uC] at h0;rw[h0 p h2] at h3;cases h3
structure WkOk(n:Nat)(L:List (List Int))(s:List Int)(a e:Nat)(w:List Vtx):Prop where
 pos:0<w.length
 hd:(w.getD 0 default).color=(a:Nat)
 lst:(w.getD (w.length-1) default).color=(e:Nat)
 cnt:(w.length:Int)=sg s a-sg s e+1
 stp:∀i,i+1<w.length->∃x y:Nat,x<L.length/\y<L.length/\(w.getD i default).color=(x:Nat)/\w.getD (i+1) default=⟨(y:Nat),(Aa n L x y:Nat)⟩/\mJ n L x y=true
theorem WkOk.start(n:Nat)(L:List (List Int))(s:List Int)(a:Nat):WkOk n L s a a [⟨(a:Nat),-1⟩]:=
 ⟨Nat.zero_lt_one,rfl,rfl,by show(1:Int)=_;omega,λi h=>absurd h (by simp)⟩
theorem WkOk.snoc{n:Nat}{L:List (List Int)}{s:List Int}{a e e':Nat}{w:List Vtx}(h:WkOk n L s a e w)(he:e<L.length)(he':e'<L.length)(ha:mJ n L e e'=true)(hs:sg s e'=sg s e-1):WkOk n L s a e' (w++[⟨(e':Nat),(Aa n L e e':Nat)⟩]):=by
 obtain⟨h1,h2,h3,h4,h5⟩:=h;have hl:(w++[(⟨(e':Nat),(Aa n L e e':Nat)⟩:Vtx)]).length=w.length+1:=by simp
 have hlo:∀i,i<w.length->(w++[(⟨(e':Nat),(Aa n L e e':Nat)⟩:Vtx)]).getD i default=w.getD i default:=λi hi=>by
  simp only[li];rw[gZ hi]
 have hla:(w++[(⟨(e':Nat),(Aa n L e e':Nat)⟩:Vtx)]).getD w.length default=⟨(e':Nat),(Aa n L e e':Nat)⟩:=by
  simp only[li];rw[iG (ba _),Nat.sub_self];rfl
 refine⟨by omega,by rw[hlo 0 h1];exact h2,by rw[hl,u6,hla],by rw[hl];omega,λi hi=>?_⟩;rw[hl] at hi;by_cases e1:i+1<w.length
 ·obtain⟨x,y,q1,q2,q3,q4,q5⟩:=h5 i e1;exact⟨x,y,q1,q2,by rw[hlo i (by omega)];exact q3,by rw[hlo (i+1) e1];exact q4,q5⟩
 ·have e2:i+1=w.length:=by omega
  refine⟨e,e',he,he',?_,?_,ha⟩
  ·rw[hlo i (by omega),show i=w.length-1 by omega];exact h3
  ·rw[e2];exact hla
def dH(p:PrbV):List (List Int):=(bG p).execs.map ik
theorem ke(p:PrbV):(dH p).length=(bG p).execs.length:=bC _
theorem Ah{p:PrbV}(h:OkP p):∀l∈dH p,l.length=p.task.n.toNat:=λl hl=>by
 obtain⟨x,hx,rfl⟩:=dF.1 hl;have:=((jo p h).2.2.2 x hx).last.1;unfold ik;rw[nM];exact this
def LkP(L:List (List Int))(q i j:Nat):Prop:=i<L.length/\j<L.length/\∃p,p<q/\jb L i j p=true
theorem LkP.symm (L:List (List Int)) (q:Nat):∀ i j,LkP L q i j→LkP L q j i:=fun i j ⟨h1,h2,p,h3,h4⟩=>⟨h2,h1,p,h3,by
 unfold jb at h4 |-;have:=sV h4;exact bH ⟨by omega,this.2.symm⟩⟩
theorem Dj{L:List (List Int)}{p i:Nat}(h:i<L.length):(col L p).getD i 0=(L.getD i []).getD p 0:=by simp[col,List.getD,h]
theorem tJ(L:List (List Int))(p:Nat):(col L p).length=L.length:=bC _
theorem tH{L:List (List Int)}{p i j:Nat}(hi:i<L.length)(hj:j<L.length):(yL (col L p)).getD i 0=(yL (col L p)).getD j 0↔i=j\/jb L i j p=true:=by
 refine((jV (col L p)).cls i j (by rw[tJ];exact hi) (by rw[tJ];exact hj)).trans ?_;rw[Dj hi,Dj hj];unfold jb;rw[gI]
def PL(L:List (List Int))(q:Nat)(l:List Int):Prop:=l.length=L.length/\Pt l/\∀i j,i<L.length->j<L.length->(l.getD i 0=l.getD j 0↔Cn (LkP L q) i j)
theorem PL.one(L:List (List Int)):PL L 1 (yL (col L 0)):=by
 refine⟨(jV _).len.trans (tJ L 0),(jV _).pt,λi j hi hj=>⟨λh=>?_,λh=>?_⟩⟩
 ·rcases(tH hi hj).1 h with rfl|h
  ·exact .refl _
  ·exact .one ⟨hi,hj,0,by omega,h⟩
 ·clear hi hj
  induction h with
  |refl=>rfl
  |step h _ ih=>
   obtain⟨h1,h2,p,h3,h4⟩:=h;obtain rfl:p=0:=by omega
   rw[<-ih];exact(tH h1 h2).2 (.inr h4)
theorem PL.succ{L:List (List Int)}{q:Nat}{o l:List Int}(h:PL L q o)(hl:l.length=o.length)(hp:Pt l)(hi:∀i j,i<o.length->j<o.length->(l.getD i 0=l.getD j 0↔Cn (RJ o (yL (col L q))) i j)):PL L (q+1) l:=by
 obtain⟨h1,h2,h3⟩:=h;refine⟨hl.trans h1,hp,λi j i1 j1=>(hi i j (by omega) (by omega)).trans ⟨λh=>h.mono λi j ⟨r1,r2,r3⟩=>?_,λh=>h.mono λi j ⟨r1,r2,p,r3,r4⟩=>?_⟩⟩
 ·rcases r3 with r3|r3
  ·exact((h3 i j (by omega) (by omega)).1 r3).mono λi j ⟨a1,a2,p,a3,a4⟩=>.one ⟨a1,a2,p,by omega,a4⟩
  ·rcases(tH (by omega) (by omega)).1 r3 with rfl|r3
   ·exact .refl _
   ·exact .one ⟨by omega,by omega,q,by omega,r3⟩
 ·by_cases e:p<q
  ·exact .one ⟨by omega,by omega,.inl ((h3 i j r1 r2).2 (.one ⟨r1,r2,p,e,r4⟩))⟩
  ·obtain rfl:p=q:=by omega
   exact .one ⟨by omega,by omega,.inr ((tH r1 r2).2 (.inr r4))⟩
section
attribute [local irreducible] aG ah bg aQ aH aK ay aN aR bq Go.Abs.Fn aP Go.Abs.Pure ak aF Yl
theorem Da(n:Int)(L:List (List Int))(e:Nat)(he:e<L.length):pU 53 [.iptr [.int .i64 n,bm L] 0,.int .i64 e] (.bool true):=by
 refine pO QF ?_;simp only[b53,av];have z1:decide ((e:Int)≥0)=true:=bH (by omega);have z2:decide ((e:Int)<(L.length:Nat))=true:=bH (by omega);refine wnY (zI5 @PE @SV3 @NKI @z1 @z2) ?_;exact .bool _
theorem HF(p:PrbV)(h:OkP p)(e f:Nat)(he:e<(dH p).length)(hf:f<(dH p).length)(H0:Hp)(nx b:Nat)(hb:H0 b=some [.int .i64 e,.int .i64 f])(hbn:b<nx):
    Abs.Fn Tryz.prog 27 [fZ (bG p),.msl b 2 1 0 2] H0 nx λr H' nx'=>r=.tup [.iptr [.int .i64 p.task.n,bm (dH p)] 0,.int .i64 0]/\nx<=nx'/\∀y,y<nx->H' y=H0 y:=by
 refine fO Ps ?_;simp only[b27,av];have ho:=JO p h;have hd:=eO (bG p);have hte:=Da p.task.n (dH p) e he;have htf:=Da p.task.n (dH p) f hf;rw[show(bG p).execs.map ik=dH p from rfl] at ho;rw[show fZ (bG p)=.agg (bG p).cs from rfl,PC.2.2.2.2.2.2.2] at ho hd |-;generalize dH p=L at *;refine wnY @PE ?_;refine br (X:=Nat) (λk=>[(6,.iptr [.int .i64 p.task.n,bm L] 0),(18,.msl b 2 1 0 2),(19,.int .i64 (2:Nat)),(20,.int .i64 k)]) (λk H n'=>k<=2/\nx<=n'/\H b=some [.int .i64 e,.int .i64 f]/\∀y,y<nx->H y=H0 y) (λk=>2-k) 0 ⟨bA _,by omega,by simp (disch:=omega) only[ab];exact hb,λy hy=>by simp (disch:=omega) only[ab]⟩ ag0 ?_;rintro k H1 n1 ⟨k1,k2,k3,k4⟩;rcases(by omega:k=0\/k=1\/k=2) with rfl|rfl|rfl
 ·refine wnY (aI @PE @k3) ?_;exact⟨1,by omega,⟨by omega,k2,k3,k4⟩,by simp (disch:=omega) only[agr,ZG,reduceEqDiff,↓reduceIte];exact⟨trivial,trivial,trivial,rfl⟩⟩
 ·refine wnY (aI @PE @k3) ?_;exact⟨2,by omega,⟨by omega,k2,k3,k4⟩,by simp (disch:=omega) only[agr,ZG,reduceEqDiff,↓reduceIte];exact⟨trivial,trivial,trivial,rfl⟩⟩
 ·refine wnY (aI @PE @k3) ?_;exact⟨rfl,k2,k4⟩
theorem qf(p:PrbV)(h:OkP p)(H0:Hp)(nx:Nat):
    Abs.Fn Tryz.prog 15 [fZ (bG p)] H0 nx λr H' nx'=>nx<=nx'/\(∀y,y<nx->H' y=H0 y)/\∃l,r=.tup [aD l,.int .i64 0]/\PL (dH p) p.task.n.toNat l:=by
 refine fO P4 ?_;simp only[b15,av];have ho:=JO p h;have hN:=Ah h;obtain⟨hck,-,-,-,r6⟩:=fg h.e0;obtain⟨n1,n5,-,-⟩:=dv hck;have hL60:(dH p).length<=60:=by rw[ke];exact(jo p h).2.1
 have hd:=eO (bG p);rw[show(bG p).execs.map ik=dH p from rfl] at ho;rw[show fZ (bG p)=.agg (bG p).cs from rfl,PC.2.2.2.2.2.2.2] at ho hd |-;generalize dH p=L at *;have hc0:=wS p.task.n L 0 (by omega) (λl hl=>by have:=hN l hl;omega);refine wnY @PE ?_;refine br (X:=Nat×List Int) (λx=>[(4,.iptr [.int .i64 p.task.n,bm L] 0),(6,aD x.2),(7,.int .i64 x.1)]) (λx H n'=>1<=x.1/\(x.1:Int)<=p.task.n/\nx<=n'/\PL L x.1 x.2/\∀y,y<nx->H y=H0 y) (λx=>p.task.n.toNat-x.1) (1,yL (col L 0)) ⟨ba _,n1,by omega,PL.one L,λy hy=>by simp (disch:=omega) only[ab]⟩ ag0 ?_;rintro⟨q,o⟩ H1 m1 ⟨q1,q2,hm,hP,fr⟩;dsimp only at q1 q2 hP |-;by_cases hq:(q:Int)<p.task.n
 rotate_left
 ·have z:decide ((q:Int)<p.task.n)=false:=bL hq;refine wnY (zI4 @PE @SV3 @NKI @z) ?_;refine⟨hm,fr,o,rfl,?_⟩;rw[show p.task.n.toNat=q by omega];exact hP
 have z:decide ((q:Int)<p.task.n)=true:=bH hq;have hcq:=wS p.task.n L q (by omega) (λl hl=>by have:=hN l hl;omega);have hcl:=(jV (col L q)).len;rw[tJ] at hcl;have hj:=KW o (yL (col L q)) (by have:=hP.1;omega) (hP.1.trans hcl.symm) hP.2.1 (jV (col L q)).pt;refine wnY (zI4 @PE @SV3 @NKI @z) ?_;refine aX ev0 ev0 (hj _ _) ?_;rintro _ H2 m2 ⟨hm2,fr2,l,rfl,hl1,hl2,hl3⟩;refine wnY (zI3 @PE @SV3 @NKI) ?_;exact⟨(q+1,l),by dsimp only;omega,⟨by dsimp only;omega,by dsimp only;omega,by omega,hP.succ hl1 hl2 hl3,λy hy=>(fr2 y (by omega)).trans (fr y hy)⟩,ag0⟩
theorem Cc(p:PrbV)(h:OkP p)(a f:Nat)(ha:a<(dH p).length)(hf:f<(dH p).length)(H0:Hp)(nx:Nat):
    Abs.Fn Tryz.prog 23 [fZ (bG p),.int .i64 a,.int .i64 f] H0 nx λr H' nx'=>nx<=nx'/\(∀y,y<nx->H' y=H0 y)/\∃s,Lab (dH p).length (mJ p.task.n.toNat (dH p)) f s/\∃d,r=.tup [.int .i64 d,.bool (decide (sg s a≥0)),.int .i64 0]/\(0<=sg s a->d=sg s a):=by
 refine fO Qv ?_;simp only[b23,av];have hsc:=HF p h a f ha hf;have hN:=Ah h;obtain⟨hck,-,-,-,r6⟩:=fg h.e0;obtain⟨n1,n5,-,-⟩:=dv hck;have hNn:((p.task.n.toNat:Nat):Int)=p.task.n:=by omega
 have hL60:(dH p).length<=60:=by rw[ke];exact(jo p h).2.1
 have hd:=eO (bG p);rw[show fZ (bG p)=.agg (bG p).cs from rfl,PC.2.2.2.2.2.2.2] at hsc hd |-;rw[<-hNn] at hsc;generalize dH p=L at *;generalize p.task.n.toNat=N at *;have hds:=zA N (by omega) L hN f hf (by omega);refine wnY @PE ?_;refine aX ev0 ev0 (hsc _ _ (nx+1) (by simp (disch:=omega) only[ac]) (by omega)) ?_;rintro _ H1 m1 ⟨rfl,hm1,fr1⟩;refine wnY @PE ?_;refine aX ev0 ev0 (hds _ _) ?_;rintro _ H2 m2 ⟨s,bF,hlab,hge,rfl,hrow,hb1,hb2,fr2⟩;have fr:∀y,y<nx->H2 y=H0 y:=λy hy=>by rw[fr2 _ (by omega),fr1 _ (by omega)];simp (disch:=omega) only[ab]
 have hia:=yH (b:=bF) (m:=L.length) ha;have hsl:=hlab.len;have hca:=zf (s:=s) (k:=a) (by omega);have hml:(s.map (AV.int .i64)).length=L.length:=by rw[bC];exact hsl
 clear fr1 fr2 hds hsc;have hmx:mE (.int .i64 (sg s a)) (.int .i64 0)=some (.int .i64 (if sg s a<0 then 0 else sg s a)):=rfl;generalize hC:s.map (AV.int .i64)=C at *;refine wnY (zI5 @PE @hia @hrow @hca @hmx) ?_;exact⟨by omega,fr,s,hlab,_,rfl,λh=>if_neg (by omega)⟩
end
end Go.Proofs.YtmpcledaoigkaaaGreat
namespace Go.Proofs.YtmpcledaoigkaaaGreat
open Go Go.Abs
open Nat (reduceEqDiff reduceAdd reduceLeDiff)
def pT(c:List Spx)(k:Nat):List Spx:=ky dx (c.flatMap λs=>dX s k)
theorem Ef{c:List Spx}{k i:Nat}(hi:i<c.length):(c.take (i+1)).flatMap (λs=>dX s k)=(c.take i).flatMap (λs=>dX s k)++dX (c.getD i default) k:=by
 rw[bO hi,List.flatMap_append];simp
theorem pN{k:Nat}:∀{c:List Spx},(∀s∈c,s.length<=8)->(c.flatMap λs=>dX s k).length<=70*c.length
 |[],_=>by simp
 |s::c,h=>by
  rw[l8,cm,d5];have:=CO (l:=s) (k:=k) (h s jZ);have:=pN (k:=k) (c:=c) (λt ht=>h t (pF _ ht));omega
theorem uS{c:List Spx}{k:Nat}{s:Spx}:s∈c.flatMap (λs=>dX s k)↔ ∃t∈c,s∈dX t k:=by rw[List.mem_flatMap]
def jA:Nat->Spx->List Int
 |0,_=>[]
 |n+1,[]=>(-1)::0::jA n []
 |n+1,v::l=>v.color::v.label::jA n l
theorem qJ:∀{n:Nat}{s:Spx},(jA n s).length=2*n
 |0,_=>rfl
 |n+1,[]=>by show(jA n []).length+1+1=_;rw[qJ];omega
 |n+1,v::l=>by show(jA n l).length+1+1=_;rw[qJ];omega
theorem zu:∀{n:Nat}{s t:Spx},s.length<=n->t.length<=n->(∀v∈s,0<=v.color)->(∀v∈t,0<=v.color)->jA n s=jA n t->s=t
 |0,[],[],_,_,_,_,_=>rfl
 |0,_::_,_,h,_,_,_,_=>absurd h (by simp)
 |0,[],_::_,_,h,_,_,_=>absurd h (by simp)
 |n+1,[],[],_,_,_,_,_=>rfl
 |n+1,[],w::m,_,_,_,h2,e=>by
  have:(-1:Int)=w.color:=(List.cons.inj e).1;have:=h2 w jZ;omega
 |n+1,v::l,[],_,_,h1,_,e=>by
  have:v.color=(-1:Int):=(List.cons.inj e).1;have:=h1 v jZ;omega
 |n+1,v::l,w::m,hl,hm,h1,h2,e=>by
  obtain⟨e1,e2⟩:=List.cons.inj e;obtain⟨e2,e3⟩:=List.cons.inj e2;have:=zu (n:=n) (by simp at hl;omega) (by simp at hm;omega) (λx hx=>h1 x (pF _ hx)) (λx hx=>h2 x (pF _ hx)) e3;rw[this,tw.2 ⟨e1,e2⟩]
def Hv(x:List Int):AV:=.agg (x.map (AV.int .i64))
theorem Fi (x:List Int):Dat (Hv x):=Dat.agg (by
 induction x with
 |nil=>exact DatL.nil
 |cons a l ih=>exact DatL.cons .int ih)
theorem CF:∀{n:Nat}{s:Spx},s.length<=n->cX s++((jA n []).map (AV.int .i64)).drop (s.length*2)=(jA n s).map (AV.int .i64)
 |n,[],_=>by simp[cX]
 |0,_::_,h=>absurd h (by simp)
 |n+1,v::l,h=>by
  have:=CF (n:=n) (s:=l) (by simp at h;omega);show [AV.int .i64 v.color,AV.int .i64 v.label]++cX l++_=AV.int .i64 v.color::AV.int .i64 v.label::(jA n l).map (AV.int .i64);rw[<-this,d5,show(l.length+1)*2=l.length*2+1+1 by omega];rfl
def kc(k:Nat):List AV:=(jA k []++List.replicate (2*(8-k)) 0).map (AV.int .i64)
def K16:Type:={x:List Int // x.length=16}
instance:DecidableEq K16:=inferInstanceAs (DecidableEq {x:List Int // x.length=16})
def kK(s:Spx):K16:=⟨jA 8 s,by rw[qJ]⟩
def eK(x:K16):AV:=Hv x.1
theorem ub:∀{n:Nat}{xs ys:List Int},xs.length=n->ys.length=n->dg (List.replicate n .int) (xs.map (AV.int .i64)) (ys.map (AV.int .i64))=some (decide (xs=ys))
 |0,[],[],_,_=>rfl
 |0,_::_,_,h,_=>absurd h (by simp)
 |0,[],_::_,_,h=>absurd h (by simp)
 |n+1,[],_,h,_=>absurd h (by simp)
 |n+1,_::_,[],_,h=>absurd h (by simp)
 |n+1,x::xs,y::ys,h1,h2=>by
  have ih:=ub (n:=n) (xs:=xs) (ys:=ys) (by simpa using h1) (by simpa using h2);have e:(x==y)=decide (x=y):=rfl;rw[List.replicate_succ,im,im];by_cases hxy:x=y
  ·subst hxy;simp only[dg,jP,if_true,e,decide_true,ih];simp
  ·simp only[dg,jP,if_true,e,bL hxy];simp[hxy]
theorem Ke(a b:K16):nL (.st [.int,.int,.int,.int,.int,.int,.int,.int,.int,.int,.int,.int,.int,.int,.int,.int]) (eK a) (eK b)=some (decide (a=b)):=by
 show dg (List.replicate 16 .int) (a.1.map (AV.int .i64)) (b.1.map (AV.int .i64))=_;rw[ub a.2 b.2]
 congr 1
 exact decide_eq_decide.2 ⟨Subtype.ext,λh=>congrArg Subtype.val h⟩
theorem LH(v:K16)(ks:List K16):eT (.st [.int,.int,.int,.int,.int,.int,.int,.int,.int,.int,.int,.int,.int,.int,.int,.int]) (eK v) (ks.map eK)=some (if v∈ks then some (ks.idxOf v) else none):=lH _ eK Ke v ks
theorem GY(v:K16):oT (.st [.int,.int,.int,.int,.int,.int,.int,.int,.int,.int,.int,.int,.int,.int,.int,.int]) (eK v)=true:=by
 show(16==(v.1.map (AV.int .i64)).length)=true;rw[bC,v.2];rfl
def nB(s:Spx):Prop:=1<=s.length/\s.length<=8/\∀v∈s,0<=v.color
theorem KG{s t:Spx}(hs:nB s)(ht:nB t)(h:kK s=kK t):s=t:=zu hs.2.1 ht.2.1 hs.2.2 ht.2.2 (congrArg Subtype.val h)
theorem Kv{O:List Spx}{f:Spx}(hO:∀s∈O,nB s)(hf:nB f):kK f∈O.map kK↔f∈O:=by
 rw[dF];exact⟨λ⟨s,h1,h2⟩=>by rw[<-KG (hO s h1) hf h2];exact h1,λh=>⟨f,h,rfl⟩⟩
theorem Iy{s:Spx}(h:de s=0):nB s:=by
 obtain⟨p1,p2,p3,p4⟩:=eX h;refine⟨p1,p2,λv hv=>?_⟩;have:=p4 v hv;unfold jt at this;simp only[d9,gI] at this;exact this.1.1
theorem GJ{s t:Spx}{k:Nat}(hs:nB s)(hk:1<=k)(h:t∈dX s k):nB t:=by
 obtain⟨h1,h2⟩:=nW.1 h;exact⟨by omega,fA h1.length_le hs.2.1,λv hv=>hs.2.2 v (h1.subset hv)⟩
theorem A0{O L P:List Spx}(hp:L.Perm O)(hs:bD dx 0 L.length L)(hn:O.Nodup)(hm:∀s,s∈O↔s∈P):L=ky dx P:=by
 refine xL A7 ?_ (pR A7 P) λs=>by rw[hp.mem_iff,hm,kp]
 unfold fQ;rw[D5];intro i j hi hj hij;have h1:=hs i j (bA _) hij hj;rw[show L.getD i default=L[i] by simp[List.getD,hi],show L.getD j default=L[j] by simp[List.getD,hj]] at h1;rcases A7.tri L[i] L[j] with h|h|h
 ·exact h
 ·have:=(List.nodup_iff_pairwise_ne.1 (hp.nodup_iff.2 hn))
  exact absurd h ((D5.1 this) i j hi hj hij)
 ·exact absurd h h1
def lC(l:List Nat):List Int:=l.map λ(n:Nat)=>(n:Int)
structure MatOk(H:Hp)(b lo hi n:Nat)(F:Nat->List Nat)(vs:List AV):Prop where
 box:H b=some vs
 len:vs.length=n
 row:∀j,j<n->Row H 1 (vs.getD j .undef) ((F j).map BJ)
 bnd:∀j B,j<n->bk (vs.getD j .undef)=some B->lo<=B/\B<hi/\B≠b
 apart:∀i j B,i<n->j<n->i≠j->bk (vs.getD i .undef)=some B->bk (vs.getD j .undef)≠some B
theorem MatOk.same{H H':Hp}{b lo hi hi' n:Nat}{F G:Nat->List Nat}{vs:List AV}(h:MatOk H b lo hi n F vs)(hb:H' b=H b)(hs:∀x,lo<=x->x<hi->x≠b->H' x=H x)(hh:hi<=hi')(hG:∀j,j<n->G j=F j):MatOk H' b lo hi' n G vs:=
 ⟨hb.trans h.box,h.len,λj hj=>by rw[hG j hj];exact(h.row j hj).same λB hB=>by have:=h.bnd j B hj hB;exact hs B this.1 this.2.1 this.2.2,λj B hj hB=>by have:=h.bnd j B hj hB;exact⟨this.1,by omega,this.2.2⟩,h.apart⟩
theorem MatOk.put{H H':Hp}{b lo hi hi' n i x:Nat}{F G:Nat->List Nat}{vs:List AV}{sv:AV}(h:MatOk H b lo hi n F vs)(hin:i<n)(hG:∀j,j<n->G j=if j=i then F j++[x] else F j)(hrow:Row H' 1 sv ((F i++[x]).map BJ))(hB:∀B,bk sv=some B->bk (vs.getD i .undef)=some B\/hi<=B/\B<hi'/\B≠b)(hb:H' b=some (vs.set i sv))
    (hs:∀x,lo<=x->x<hi->x≠b->bk (vs.getD i .undef)≠some x->H' x=H x) (hh:hi<=hi') (hlo:lo<=hi):MatOk H' b lo hi' n G (vs.set i sv):=by
 have hl:=h.len;have hg:∀j,(vs.set i sv).getD j .undef=if i=j then sv else vs.getD j .undef:=λj=>xI (by omega)
 refine⟨hb,by simp[hl],λj hj=>?_,λj B hj=>?_,λp q B hp hq hpq=>?_⟩
 ·rw[hg,hG j hj];by_cases e:i=j
  ·rw[if_pos e,if_pos e.symm,<-e];exact hrow
  ·rw[if_neg e,if_neg (λh=>e h.symm)]
   exact(h.row j hj).same λB hB'=>by
    have:=h.bnd j B hj hB';exact hs B this.1 this.2.1 this.2.2 λh'=>h.apart i j B hin hj e h' hB'
 ·rw[hg];by_cases e:i=j
  ·rw[if_pos e];intro hB';rcases hB B hB' with h'|h'
   ·have:=h.bnd _ B hin h';exact⟨this.1,by omega,this.2.2⟩
   ·exact⟨by omega,h'.2⟩
  ·rw[if_neg e];intro hB';have:=h.bnd j B hj hB';exact⟨this.1,by omega,this.2.2⟩
 ·rw[hg,hg];by_cases e1:i=p
  ·rw[if_pos e1,if_neg (by omega)];intro h1 h2;rcases hB B h1 with h'|h'
   ·exact h.apart i q B hin hq (by omega) h' h2
   ·have:=h.bnd q B hq h2;omega
  ·rw[if_neg e1];by_cases e2:i=q
   ·rw[if_pos e2];intro h1 h2;rcases hB B h2 with h'|h'
    ·exact h.apart p i B hp hin (by omega) h1 h'
    ·have:=h.bnd p B hp h1;omega
   ·rw[if_neg e2];exact h.apart p q B hp hq hpq
theorem MatOk.snap{H:Hp}{b lo hi n:Nat}{F:Nat->List Nat}{vs:List AV}(h:MatOk H b lo hi n F vs):Snap H (.msl b n 1 0 n) (bm ((List.range n).map λi=>lC (F i))):=by
 refine nt (l:=((List.range n).map λi=>lC (F i)).map aD) h.box h.len (by omega) (by simp) (λy hy=>?_) (λi a c ha hc=>?_)
 ·obtain⟨z,_,rfl⟩:=dF.1 hy;rfl
 ·have hin:i<n:=by
    have:=(bZ.1 hc).1;simpa using this
  have hr:=h.row i hin;rw[cp] at ha;have e1:vs.getD i .undef=a:=by rw[li,ha];rfl
  rw[e1] at hr
  have e2:c=aD (lC (F i)):=by
   rw[jJ,jJ,List.getElem?_range hin] at hc;simpa using hc.symm
  rw[e2];exact xo hr
theorem MatOk.new{H:Hp}{b lo hi n:Nat}{F:Nat->List Nat}(hb:H b=some (List.replicate n .esl))(hF:∀j,j<n->F j=[]):MatOk H b lo hi n F (List.replicate n .esl):=by
 have hg:∀j,j<n->(List.replicate n AV.esl).getD j .undef=.esl:=λj hj=>by simp[List.getD,List.getElem?_replicate,hj]
 refine⟨hb,by simp,λj hj=>?_,λj B hj h=>?_,λi j B hi hj _ h=>?_⟩
 ·rw[hg j hj,hF j hj];exact Row.nil
 ·rw[hg j hj] at h;cases h
 ·rw[hg i hi] at h;cases h
theorem zo{c:List Spx}{k:Nat}(h:c.length<=50)(h8:∀s∈c,s.length<=8):(pT c k).length<=3500:=fA u0 (fA (pN h8) (by omega))
def mM:List Int->List Int->List Int
 |[],b=>b
 |x::a,[]=>x::a
 |x::a,y::b=>if x<y then x::mM a (y::b) else if y<x then y::mM (x::a) b else mM a b
termination_by a b=>a.length+b.length
theorem Lc{b:List Int}:mM [] b=b:=by rw[mM]
theorem Kq{a:List Int}:mM a []=a:=by cases a<;>rw[mM]
theorem Ls{x y:Int}{a b:List Int}:mM (x::a) (y::b)=if x<y then x::mM a (y::b) else if y<x then y::mM (x::a) b else mM a b:=by rw[mM]
def ql(l:List Int):Prop:=l.Pairwise (· < ·)
theorem qL:∀(n:Nat)(a b:List Int),a.length+b.length<=n->ql a->ql b->ql (mM a b)/\∀z,z∈mM a b↔(z∈a/\z∉b)\/(z∈b/\z∉a)
 |_,[],b,_,_,hb=>by rw[Lc];exact⟨hb,λz=>by simp⟩
 |_,x::a,[],_,ha,_=>by rw[Kq];exact⟨ha,λz=>by simp⟩
 |0,x::a,y::b,h,_,_=>by simp only[d5] at h;omega
 |n+1,x::a,y::b,h,ha,hb=>by
  simp only[d5] at h;obtain⟨a1,a2⟩:=qZ.1 ha;obtain⟨b1,b2⟩:=qZ.1 hb;rw[Ls];by_cases g1:x<y
  ·rw[if_pos g1];obtain⟨h1,h2⟩:=qL n a (y::b) (by simp only[d5];omega) a2 hb
   have hxb:∀z∈y::b,x<z:=λz hz=>by
    rcases fR.1 hz with rfl|hz
    ·exact g1
    ·have:=b1 z hz;omega
   refine⟨qZ.2 ⟨λz hz=>?_,h1⟩,λz=>?_⟩
   ·rcases(h2 z).1 hz with⟨q,_⟩|⟨q,_⟩
    ·exact a1 z q
    ·exact hxb z q
   ·rw[fR,h2,fR (a:=z) (b:=x)];by_cases hz:z=x
    ·subst hz;have:z∉y::b:=λq=>by have:=hxb z q;omega
     simp[this]
    ·simp[hz]
  rw[if_neg g1];by_cases g2:y<x
  ·rw[if_pos g2];obtain⟨h1,h2⟩:=qL n (x::a) b (by simp only[d5];omega) ha b2
   have hya:∀z∈x::a,y<z:=λz hz=>by
    rcases fR.1 hz with rfl|hz
    ·exact g2
    ·have:=a1 z hz;omega
   refine⟨qZ.2 ⟨λz hz=>?_,h1⟩,λz=>?_⟩
   ·rcases(h2 z).1 hz with⟨q,_⟩|⟨q,_⟩
    ·exact hya z q
    ·exact b1 z q
   ·rw[fR,h2,fR (a:=z) (b:=y)];by_cases hz:z=y
    ·subst hz;have:z∉x::a:=λq=>by have:=hya z q;omega
     simp[this]
    ·simp[hz]
  rw[if_neg g2];obtain rfl:x=y:=by omega
  obtain⟨h1,h2⟩:=qL n a b (by omega) a2 b2;refine⟨h1,λz=>?_⟩;rw[h2];by_cases hz:z=x
  ·subst hz;have q1:z∉a:=λq=>by have:=a1 z q;omega
   have q2:z∉b:=λq=>by have:=b1 z q;omega
   simp[q1,q2]
  ·simp[hz]
def bit(z:Int)(a:List Int):Nat:=if z∈a then 1 else 0
theorem Lb{z:Int}{a:List Int}:bit z a<2:=by unfold bit;split<;>omega
theorem C8{z:Int}{a:List Int}:bit z a=1↔z∈a:=by unfold bit;split<;>simp[*]
def ld(r:List Int):Int:=r.getD 0 0
theorem KF{v:List Int}(h:v≠[]):ld v∈v:=by
 cases v with
 |nil=>exact absurd rfl h
 |cons x l=>exact jZ ..
inductive Sp(R:List (List Int)):List Int->Prop
 |nil:Sp R []
 |add {v r:List Int}:Sp R v->r∈R->Sp R (mM v r)
def zQ(z:Int)(p:List Int->Bool):List (List Int)->Nat
 |[]=>0
 |r::E=>(if p r=true then bit z r else 0)+zQ z p E
theorem z9{z:Int}{p:List Int->Bool}:∀{E:List (List Int)},zQ z p E≠0->∃q∈E,p q=true/\z∈q
 |[],h=>absurd rfl h
 |r::E,h=>by
  unfold zQ at h;by_cases h1:p r=true/\z∈r
  ·exact⟨r,jZ ..,h1⟩
  ·have:zQ z p E≠0:=λe=>by
     rw[e] at h;by_cases h2:p r=true
     ·rw[if_pos h2] at h;have:bit z r=1:=by have:=Lb (z:=z) (a:=r);omega
      exact h1 ⟨h2,C8.1 this⟩
     ·rw[if_neg h2] at h;exact h rfl
   obtain⟨q,q1,q2⟩:=z9 this;exact⟨q,pF _ q1,q2⟩
theorem Et{z:Int}{p:List Int->Bool}{E:List (List Int)}(h:∀q∈E,p q=true->z∉q):zQ z p E=0:=
 Decidable.byContradiction λe=>by
  obtain⟨q,q1,q2,q3⟩:=z9 e;exact h q q1 q2 q3
theorem Ag{z:Int}{p:List Int->Bool}{r:List Int}:∀{E:List (List Int)},E.Nodup->r∈E->z∈r->(∀q∈E,z∈q->q=r)->zQ z p E=if p r=true then 1 else 0
 |[],_,h,_,_=>by cases h
 |q::E,hn,h,hz,ho=>by
  obtain⟨n1,n2⟩:=List.nodup_cons.1 hn;unfold zQ;by_cases e:q=r
  ·subst e;rw[Et (λx hx _ hzx=>n1 (ho x (pF _ hx) hzx▸hx)),C8.2 hz,sL]
  ·have h2:r∈E:=(fR.1 h).resolve_left λx=>e x.symm;have hq:z∉q:=λx=>e (ho q (jZ ..) x);rw[Ag n2 h2 hz λx hx=>ho x (pF _ hx),show bit z q=0 by unfold bit;rw[if_neg hq]];simp
structure Red(E:List (List Int)):Prop where
 asc:∀r∈E,ql r
 ne:∀r∈E,r≠[]
 own:∀r∈E,∀q∈E,ld r∈q->q=r
 ord:E.Pairwise λr q=>ld r<ld q
theorem Red.nodup{E:List (List Int)}(h:Red E):E.Nodup:=List.Pairwise.imp (λ{x y}(q:ld x<ld y) e=>by rw[e] at q;omega) h.ord
theorem Red.cnt{E:List (List Int)}(h:Red E){p:List Int->Bool}{r:List Int}(hr:r∈E):zQ (ld r) p E=if p r=true then 1 else 0:=
 Ag h.nodup hr (KF (h.ne r hr)) λq hq hz=>h.own r hr q hq hz
abbrev Ln:=List Int×List Int
structure RedU(M:List Ln):Prop where
 asc:∀l∈M,ql l.1/\ql l.2
 ne:∀l∈M,l.1≠[]
 own:∀l∈M,∀m∈M,ld l.1∈m.1->m=l
 nodup:M.Nodup
def LI(x l:Ln):Ln:=(mM x.1 l.1,mM x.2 l.2)
def Dx(x:Ln):Prop:=ql x.1/\ql x.2
theorem zn{a b:List Int}{z:Int}(ha:ql a)(hb:ql b):z∈mM a b↔(z∈a/\z∉b)\/(z∈b/\z∉a):=(qL _ a b (ba _) ha hb).2 z
def O0(g:Int->Nat):List Int->Nat
 |[]=>0
 |x::l=>g x+O0 g l
def Hj(R:List (List Int))(n:Nat)(l:Ln):Prop:=(∀z,bit z l.1=O0 (λj=>bit z (R.getD j.toNat default)) l.2%2)/\∀j∈l.2,0<=j/\j<(n:Int)
theorem Hj.mono{R:List (List Int)}{n m:Nat}{l:Ln}(h:Hj R n l)(hn:n<=m):Hj R m l:=⟨h.1,λj hj=>by have:=h.2 j hj;omega⟩
structure StOk(R:List (List Int))(i:Nat)(M:List Ln)(D:List (List Int)):Prop where
 red:RedU M
 ok:∀l∈M,Hj R i l
 dep:∀y∈D,Dx ([],y)/\Hj R i ([],y)
 len:M.length+D.length=i
 inS:∀l∈M,Sp (R.take i) l.1
 all:∀r∈R.take i,Sp (M.map Prod.fst) r
structure RdOk(R rows:List (List Int))(n c:Nat):Prop where
 asc:∀i,i<R.length->ql (rows.getD i default)
 len:rows.length=R.length
 nle:n<=R.length
 sp:∀v,Sp rows v↔Sp R v
 top:∀i,i<n->rows.getD i default≠[]/\ld (rows.getD i default)<c
 own:∀i,i<n->∀j,j<R.length->ld (rows.getD i default)∈rows.getD j default->j=i
 ord:∀i j,i<j->j<n->ld (rows.getD i default)<ld (rows.getD j default)
 low:∀i,n<=i->i<R.length->∀z∈rows.getD i default,(c:Int)<=z
def Ds(l:List (List Spx)):AV:=gX 1 be l
theorem zD(l:List (List Spx)):Dat (Ds l):=rP (λ_=>rfl) cU
instance datI_encXsss{l:List (List Spx)}:DatI (Ds l):=⟨zD l⟩
abbrev ShC(a:List Spx):Prop:=Shn a/\∀s∈a,Shn s
def E5:Nat->Spx->List Int
 |0,_=>[]
 |n+1,[]=>0::0::E5 n []
 |n+1,v::l=>v.color::v.label::E5 n l
theorem v6:∀{n:Nat}{s:Spx},(E5 n s).length=2*n
 |0,_=>rfl
 |n+1,[]=>by show(E5 n []).length+1+1=_;rw[v6];omega
 |n+1,v::l=>by show(E5 n l).length+1+1=_;rw[v6];omega
def kZ(s:Spx):K16:=⟨E5 8 s,by rw[v6]⟩
structure BOk(H:Hp)(n:Nat)(c:Spx->Nat)(O:List Spx)(bs:List Nat)(ck:Nat):Prop where
 box:H 0=some [.bmap ((O.map kZ).map eK) (O.map aC) bs ck]
 len:bs.length=O.length
 asc:bs.Pairwise (· < ·)
 below:∀s∈bs,s<ck
 nd:O.Nodup
 all:∀f∈O,f.length=n
 odd:∀f,f∈O↔c f%2=1
theorem BOk.same{H H':Hp}{n:Nat}{c c':Spx->Nat}{O:List Spx}{bs:List Nat}{ck:Nat}(h:BOk H n c O bs ck)(hs:H' 0=H 0)(hc:∀f,c' f%2=c f%2):BOk H' n c' O bs ck:=
 ⟨hs.trans h.box,h.len,h.asc,h.below,h.nd,h.all,λf=>by rw[hc];exact h.odd f⟩
theorem BOk.put{H H':Hp}{n:Nat}{c c':Spx->Nat}{O:List Spx}{bs:List Nat}{ck:Nat}{f:Spx}(h:BOk H n c O bs ck)(hf:f∉O)(hl:f.length=n)(hH:H' 0=some [.bmap ((O.map kZ).map eK++[eK (kZ f)]) (O.map aC++[aC f]) (bs++[ck]) (ck+1)])(hc:∀g,c' g=c g+if g=f then 1 else 0):BOk H' n c' (O++[f]) (bs++[ck]) (ck+1):=by
 refine⟨by rw[hH];simp,by rw[cm,cm,h.len];rfl,?_,λs hs=>?_,?_,λg hg=>?_,λg=>?_⟩
 ·exact List.pairwise_append.2 ⟨h.asc,List.pairwise_singleton _ _,λa ha b hb=>by rw[ed.1 hb];exact h.below a ha⟩
 ·rcases gV.1 hs with q|q
  ·have:=h.below s q;omega
  ·rw[ed.1 q];omega
 ·exact FF.2 ⟨h.nd,by simp,λa ha b hb e=>by rw[e,ed.1 hb] at ha;exact hf ha⟩
 ·rcases gV.1 hg with q|q
  ·exact h.all g q
  ·rw[ed.1 q];exact hl
 ·rw[gV,ed,h.odd,hc];by_cases e:g=f
  ·subst e;have:¬c g%2=1:=λq=>hf ((h.odd g).2 q);rw[if_pos rfl];exact⟨λ_=>by omega,λ_=>.inr rfl⟩
  ·rw[if_neg e];simp[e]
theorem jx{α β:Type}{f:α->β}:∀{l:List α}{i:Nat},(l.map f).eraseIdx i=(l.eraseIdx i).map f
 |[],_=>rfl
 |a::l,0=>rfl
 |a::l,i+1=>by show f a::(l.map f).eraseIdx i=f a::(l.eraseIdx i).map f;rw[jx]
theorem BOk.del{H H':Hp}{n:Nat}{c c':Spx->Nat}{O:List Spx}{bs:List Nat}{ck i:Nat}{f:Spx}(h:BOk H n c O bs ck)(hf:f∈O)(hi:O.idxOf f=i)(hH:H' 0=some [.bmap (((O.map kZ).map eK).eraseIdx i) ((O.map aC).eraseIdx i) (bs.eraseIdx i) ck])(hc:∀g,c' g=c g+if g=f then 1 else 0):BOk H' n c' (O.erase f) (bs.eraseIdx i) ck:=by
 have hil:i<O.length:=by rw[<-hi];exact List.idxOf_lt_length_iff.2 hf
 have he:O.erase f=O.eraseIdx i:=List.erase_eq_eraseIdx_of_idxOf hi;refine⟨?_,?_,h.asc.sublist (List.eraseIdx_sublist _ _),λs hs=>h.below s ((List.eraseIdx_sublist _ _).subset hs),h.nd.erase _,λg hg=>h.all g (List.mem_of_mem_erase hg),λg=>?_⟩
 ·rw[hH,he];rw[jx,jx,jx]
 ·rw[he,List.length_eraseIdx_of_lt hil,List.length_eraseIdx_of_lt (by rw[h.len];exact hil),h.len]
 ·rw[h.nd.mem_erase_iff,h.odd,hc];by_cases e:g=f
  ·subst e;have:=(h.odd g).1 hf;rw[if_pos rfl];constructor
   ·exact λq=>absurd rfl q.1
   ·intro q;omega
  ·rw[if_neg e];simp[e]
structure PairV where
 a:List Spx
 b:List Spx
 d:Int
theorem ql.nodup{l:List Int}(h:ql l):l.Nodup:=List.Pairwise.imp (λ{x y}(h:x<y) e=>by omega) h
def BL(c n:Nat)(x:Ln):Prop:=(∀z∈x.1,0<=z/\z<(c:Int))/\∀j∈x.2,0<=j/\j<(n:Int)
theorem DD{a:List Int}{c:Nat}(ha:ql a)(h:∀z∈a,0<=z/\z<(c:Int)):a.length<=c:=by
 have hn:a.Nodup:=List.Pairwise.imp (λ{x y}(q:x<y) e=>by omega) ha
 have:=IA hn (l₂:=(List.range c).map λ(k:Nat)=>(k:Int)) λz hz=>by
  have:=h z hz;exact dF.2 ⟨z.toNat,iR.2 (by omega),by show((z.toNat:Nat):Int)=z;omega⟩
 simpa using this
theorem BL.len{c n:Nat}{x:Ln}(h:BL c n x)(ha:Dx x):x.1.length<=c/\x.2.length<=n:=⟨DD ha.1 h.1,DD ha.2 h.2⟩
theorem BL.add{c n:Nat}{x l:Ln}(hx:BL c n x)(hl:BL c n l)(ax:Dx x)(al:Dx l):BL c n (LI x l):=by
 refine⟨λz hz=>?_,λz hz=>?_⟩
 ·rcases(zn ax.1 al.1).1 hz with q|q
  ·exact hx.1 z q.1
  ·exact hl.1 z q.1
 ·rcases(zn ax.2 al.2).1 hz with q|q
  ·exact hx.2 z q.1
  ·exact hl.2 z q.1
theorem Lw{c:List Spx}(h:eg c=0):∀s∈c,Shn s:=λs hs=>show _<=_ by
 have:=(eX ((i5 h).2.1 s hs)).2.1;omega
def sU(c:List Spx):Nat->Int
 |0=>0
 |k+1=>if (k+1)%2=1 then sU c k+((pT c (k+1)).length:Int) else sU c k-((pT c (k+1)).length:Int)
theorem CY{c:List Spx}(h:∀k,(pT c k).length<=3500):∀k:Nat,-(3500*(k:Int))<=sU c k/\sU c k<=3500*(k:Int)
 |0=>⟨by show -(3500*((0:Nat):Int))<=(0:Int);omega,by show(0:Int)<=3500*((0:Nat):Int);omega⟩
 |k+1=>by
  have:=CY h k;have h2:=h (k+1);unfold sU;split<;>omega
section
attribute [local irreducible] aG ah bg aQ aH aK ay aN aR bq Go.Abs.Fn aP Go.Abs.Pure ak aF Yl
theorem I1(s:Spx)(h1:1<=s.length)(hs:s.length<=8):pU 86 [aC s] (Hv (jA 8 s)):=by
 refine pO PY ?_;simp only[b86,av];have hn:fS (aC s)=some s.length:=by unfold aC gX;simp[fS]
 have hput:=CF (n:=8) (s:=s) hs;refine wnY and_self ?_;refine lpI (X:=Nat) (λk=>[(0,aC s),(2,.ptr 0 16 0),(3,.ptr 1 16 0),(5,.int .i64 k)]) (λk H nx=>k<=8/\H 0=some (kc 0)/\H 1=some (kc k)) (λk=>8-k) 0 ⟨bA _,by rw[ab (by omega),ac];rfl,ac⟩ ?_;rintro k H nx ⟨hk,g0,g1⟩;rcases(by omega:k=8\/k=0\/k=1\/k=2\/k=3\/k=4\/k=5\/k=6\/k=7) with rfl|rfl|rfl|rfl|rfl|rfl|rfl|rfl|rfl
 ·refine wnY (aI @g0 @g1) ?_;refine OL rfl g1 rfl rfl ?_;refine wnY and_self ?_;refine GB (n:=s.length) (H':=ap H 1 ((jA 8 s).map (AV.int .i64))) ?_ ?_
  ·((try simp only[bU,ZA,reduceEqDiff,↓reduceIte,reduceAdd,reduceLeDiff]);(try with_reducible rfl))
   have htr:zV s.length (aC s)=aC s:=by unfold aC gX;simp[zV];exact iW (by simp)
   have hmin:min s.length 8=s.length:=Nat.min_eq_left hs;have hal:fS (.msl 1 16 2 0 8)=some 8:=rfl;simp only[sf,hal,hn,hmin,if_neg (show ¬s.length=0 by omega),g1,htr,FU];rw[if_pos (by refine⟨?_,?_,?_,?_⟩<;>first|rfl|trivial|omega|exact tB s)]
   have:bw (kc 8) 0 (cX s)=(jA 8 s).map (AV.int .i64):=by
    rw[<-hput];simp only[bw,List.take_zero,List.nil_append,cp,mo];rfl
   rw[this]
  ·have hl:((jA 8 s).map (AV.int .i64)).length=16:=by rw[bC,qJ]
   have g1':ap H 1 ((jA 8 s).map (AV.int .i64)) 1=some ((jA 8 s).map (AV.int .i64)):=ac;have g0':ap H 1 ((jA 8 s).map (AV.int .i64)) 0=some (kc 0):=by rw[ab (by omega)];exact g0
   have hl0:(kc 0).length=16:=rfl;unfold Hv;have ht:((jA 8 s).map (AV.int .i64)).take 16=(jA 8 s).map (AV.int .i64):=iW (by omega);have hd:=Fi (jA 8 s);unfold Hv at hd
   have hfl:AV.ones ((jA 8 s).map (AV.int .i64))=true:=by
    unfold AV.ones;rw[eA];intro x hx;obtain⟨y,_,rfl⟩:=dF.1 hx;rfl
   have hlp:bw (kc 0) 0 ((jA 8 s).map (AV.int .i64))=(jA 8 s).map (AV.int .i64):=by
    simp only[bw,List.take_zero,List.nil_append,cp,hl];rw[List.drop_of_length_le (by decide),gH]
   generalize (jA 8 s).map (AV.int .i64)=K at *;refine wnY (zI5 @g0' @g1' @hl @hl0 @ht) ?_;refine ml (v:=.agg K) (cs:=kc 0) (vs:=K) (b:=0) (n:=16) (off:=0) rfl ev0 ev0 g0' rfl hfl hl0 hl (by omega) ?_;rw[hlp];refine wnY (aI @hl @ht) ?_;exact hd _
 ·refine wnY (aI @g0 @g1) ?_;refine pc (r:=.ptr 1 16 0) rfl rfl rfl ?_;have hl:(kc 0).length=16:=rfl;refine wnY (aI @g1 @hl) ?_;exact⟨1,by omega,⟨by omega,by rw[ab (by omega)];exact g0,by rw[ac];rfl⟩,by(iterate 4 refine And.intro rfl ?_);trivial⟩
 ·refine wnY (aI @g0 @g1) ?_;refine pc (r:=.ptr 1 16 2) rfl rfl rfl ?_;have hl:(kc 1).length=16:=rfl;refine wnY (aI @g1 @hl) ?_;exact⟨2,by omega,⟨by omega,by rw[ab (by omega)];exact g0,by rw[ac];rfl⟩,by(iterate 4 refine And.intro rfl ?_);trivial⟩
 ·refine wnY (aI @g0 @g1) ?_;refine pc (r:=.ptr 1 16 4) rfl rfl rfl ?_;have hl:(kc 2).length=16:=rfl;refine wnY (aI @g1 @hl) ?_;exact⟨3,by omega,⟨by omega,by rw[ab (by omega)];exact g0,by rw[ac];rfl⟩,by(iterate 4 refine And.intro rfl ?_);trivial⟩
 ·refine wnY (aI @g0 @g1) ?_;refine pc (r:=.ptr 1 16 6) rfl rfl rfl ?_;have hl:(kc 3).length=16:=rfl;refine wnY (aI @g1 @hl) ?_;exact⟨4,by omega,⟨by omega,by rw[ab (by omega)];exact g0,by rw[ac];rfl⟩,by(iterate 4 refine And.intro rfl ?_);trivial⟩
 ·refine wnY (aI @g0 @g1) ?_;refine pc (r:=.ptr 1 16 8) rfl rfl rfl ?_;have hl:(kc 4).length=16:=rfl;refine wnY (aI @g1 @hl) ?_;exact⟨5,by omega,⟨by omega,by rw[ab (by omega)];exact g0,by rw[ac];rfl⟩,by(iterate 4 refine And.intro rfl ?_);trivial⟩
 ·refine wnY (aI @g0 @g1) ?_;refine pc (r:=.ptr 1 16 10) rfl rfl rfl ?_;have hl:(kc 5).length=16:=rfl;refine wnY (aI @g1 @hl) ?_;exact⟨6,by omega,⟨by omega,by rw[ab (by omega)];exact g0,by rw[ac];rfl⟩,by(iterate 4 refine And.intro rfl ?_);trivial⟩
 ·refine wnY (aI @g0 @g1) ?_;refine pc (r:=.ptr 1 16 12) rfl rfl rfl ?_;have hl:(kc 6).length=16:=rfl;refine wnY (aI @g1 @hl) ?_;exact⟨7,by omega,⟨by omega,by rw[ab (by omega)];exact g0,by rw[ac];rfl⟩,by(iterate 4 refine And.intro rfl ?_);trivial⟩
 ·refine wnY (aI @g0 @g1) ?_;refine pc (r:=.ptr 1 16 14) rfl rfl rfl ?_;have hl:(kc 7).length=16:=rfl;refine wnY (aI @g1 @hl) ?_;exact⟨8,by omega,⟨by omega,by rw[ab (by omega)];exact g0,by rw[ac];rfl⟩,by(iterate 4 refine And.intro rfl ?_);trivial⟩
theorem Hx(l:List Spx)(k:Nat)(hl:l.length<=50)(hs:∀s∈l,de s=0)(hk:1<=k/\k<=8):pU 49 [be l,.int .i64 k] (.tup [be (pT l k),.int .i64 0]):=by
 refine pO QA ?_;simp only[b49,av];have h8:∀s∈l,s.length<=8:=λs h=>(eX (hs s h)).2.1
 have hgood:∀s∈l.flatMap (λs=>dX s k),nB s:=λs h=>by
  obtain⟨t,t1,t2⟩:=uS.1 h;exact GJ (Iy (hs t t1)) hk.1 t2
 have hfl:=pN (k:=k) h8;have z0:decide ((0:Int)≠0)=false:=rfl;refine wnY @aU ?_;refine pY ?_;refine wnY @aU ?_;refine lpI (X:=Nat×AV×List Spx) (λx=>[(1,.int .i64 k),(6,.mp 0),(7,x.2.1),(15,be l),(16,.int .i64 l.length),(17,.int .i64 x.1)]) (λx H nx=>x.1<=l.length/\1<=nx/\H 0=some [.omap ((x.2.2.map kK).map eK) (x.2.2.map λ_=>.bool true)]/\Row H 1 x.2.1 (x.2.2.map aC)/\(∀b,bk x.2.1=some b->1<=b/\b<nx)/\x.2.2.Nodup/\∀s,s∈x.2.2↔s∈(l.take x.1).flatMap λs=>dX s k) (λx=>l.length-x.1) (0,.esl,[]) ⟨bA _,by omega,ac,Row.nil,λb h=>(by cases h),List.nodup_nil,λs=>by simp⟩ ?_;rintro⟨i,sv,O⟩ H nx ⟨h1,hnx,g0,hrow,hbd,hnd,hmem⟩;dsimp only at h1 g0 hrow hbd hnd hmem |-;obtain⟨o1,o2⟩:=hrow.one;by_cases hi:i<l.length
 rotate_left
 ·rw[iW (by omega)] at hmem
  have hOl:O.length<=3500:=by
   have:=IA hnd (l₂:=l.flatMap λs=>dX s k) (λs h=>(hmem s).1 h);omega
  have hsort:Abs.Fn Tryz.prog 87 [sv,.func 65 []] H nx λ_ H' nx'=>Row H' 1 sv ((pT l k).map aC):=by
   generalize hcs:O.map aC=cs at hrow;cases hrow with
   |nil=>
    have hO0:O=[]:=List.map_eq_nil_iff.1 hcs;refine Abs.Fn.mono (vv rfl) ?_;rintro _ _ _ ⟨rfl,rfl⟩
    have:pT l k=[]:=by
     unfold pT;rw[z8,B3];intro s h;have:=(hmem s).2 h;rw[hO0] at this;cases this
    rw[this];exact Row.nil
   |box b len cs k1 k2=>
    obtain rfl:len=O.length:=by rw[<-hcs,bC] at k2;omega
    have hb:=hbd b rfl;subst hcs;by_cases h0:O.length=0
    ·have hO0:O=[]:=eG.1 h0;subst hO0;refine Abs.Fn.mono (vv rfl) ?_;rintro _ _ _ ⟨rfl,rfl⟩
     have:pT l k=[]:=by
      unfold pT;rw[z8,B3];intro s h;have:=(hmem s).2 h;cases this
     rw[this];exact Row.box b 0 _ k1 rfl
    ·have hg:∀s∈O,Shn s:=λs h=>show s.length<=_ by have:=(hgood s ((hmem s).1 h)).2.1;omega
     have hsf:=CV LQ (L:=O) (b:=b) (nx:=nx) (n:=O.length) k1 hb.2 rfl (by omega) hg (by omega);rw[Nat.mul_one];refine Abs.Fn.mono hsf ?_;rintro _ H' nx' ⟨L',ps,p1,p2⟩;have hlen:=p1.length_eq;have:=A0 p1 (by rw[hlen];exact p2) hnd hmem;unfold pT;rw[<-this,<-hlen];have:=Row.box (H:=H') (sz:=1) b L'.length (L'.map aC) ps.at_ (by simp)
     rwa [Nat.mul_one] at this
  refine wnY and_self ?_;refine aX ev0 ev0 hsort ?_;rintro r H' nx' hr;refine wnY (aI @o1 @o2) ?_;exact ya (pG hr) rfl
 have ix:=oL hi;have hft:=Ef (k:=k) hi
 have hpm:∀s∈(l.take (i+1)).flatMap (λs=>dX s k),s∈l.flatMap λs=>dX s k:=λs h=>by
  obtain⟨t,t1,t2⟩:=uS.1 h;exact uS.2 ⟨t,vX t1,t2⟩
 have hsi:=hs _ (cr hi);have h8i:=h8 _ (cr hi);have hfx:=FB (l.getD i default) k (show _<=_ by omega)
 have hfe:(l.getD i default).length<k\/uh (l.getD i default) k=(dX (l.getD i default) k,0):=by
  by_cases h:(l.getD i default).length<k
  ·exact .inl h
  ·refine .inr ?_;unfold uh;rw[if_neg (λh=>h hsi),if_neg (by omega),bR]
 have hcar:∀s∈dX (l.getD i default) k,nB s:=λs h=>hgood s (hpm s (by rw[hft];exact sK _ h));by_cases hlt:(l.getD i default).length<k
 ·have z:decide (((l.getD i default).length:Int)<k)=true:=bH (by omega);rw[Ce hlt,gH] at hft;generalize l.getD i default=s at *;refine wnY (zI5 @aL @ix @z @o1 @o2) ?_;exact⟨(i+1,sv,O),by dsimp only;omega,⟨by dsimp only;omega,hnx,g0,hrow,hbd,hnd,by dsimp only;rw[hft];exact hmem⟩,ag0⟩
 have z:decide (((l.getD i default).length:Int)<k)=false:=bL (by omega);rw[hfe.resolve_left hlt] at hfx;clear hfe;have hgP:∀s∈(l.take i).flatMap (λs=>dX s k),nB s:=λs h=>hgood s (hpm s (by rw[hft];exact qs _ h))
 have hPl:((l.take i).flatMap (λs=>dX s k)++dX (l.getD i default) k).length<=3500:=by
  rw[<-hft];have:=pN (k:=k) (c:=l.take (i+1)) (λs h=>h8 s (vX h));rw[jg] at this;omega
 generalize l.getD i default=s at *;generalize dX s k=R at *;generalize (l.take i).flatMap (λs=>dX s k)=P at *;have hRl:R.length<=3500:=by rw[cm] at hPl;omega
 refine wnY (zI7 @aL @aU @ix @z @z0 @o1 @o2) ?_;refine br (X:=Nat×AV×List Spx) (λx=>[(1,.int .i64 k),(6,.mp 0),(7,x.2.1),(15,be l),(16,.int .i64 l.length),(17,.int .i64 i),(34,be R),(35,.int .i64 R.length),(36,.int .i64 x.1)]) (λx H nx=>x.1<=R.length/\1<=nx/\H 0=some [.omap ((x.2.2.map kK).map eK) (x.2.2.map λ_=>.bool true)]/\Row H 1 x.2.1 (x.2.2.map aC)/\(∀b,bk x.2.1=some b->1<=b/\b<nx)/\x.2.2.Nodup/\∀s,s∈x.2.2↔s∈P++R.take x.1) (λx=>R.length-x.1) (0,sv,O) ⟨bA _,hnx,g0,hrow,hbd,hnd,by dsimp only;rw[List.take_zero,gH];exact hmem⟩ ag0 ?_;clear g0 hrow hbd hnd hmem hnx o1 o2;rintro⟨j,sv,O⟩ H nx ⟨j1,hnx,g0,hrow,hbd,hnd,hmem⟩;dsimp only at j1 g0 hrow hbd hnd hmem |-;obtain⟨o1,o2⟩:=hrow.one
 have hOl:O.length<=3500:=by
  have:=IA hnd (l₂:=P++R.take j) (λs h=>(hmem s).1 h);rw[cm,jg] at this;rw[cm] at hPl;omega
 by_cases hj:j<R.length
 rotate_left
 ·rw[iW (by omega)] at hmem;have hls:dw sv=some (.int .i64 O.length):=hrow.lenS (by rw[bC,Nat.mul_one]) ig;have z1:decide ((4096:Int)<O.length)=false:=bL (by omega);refine wnY (zI4 @hls @z1 @o1 @o2) ?_;exact⟨(i+1,sv,O),by dsimp only;omega,⟨by dsimp only;omega,hnx,g0,hrow,hbd,hnd,by dsimp only;rw[hft];exact hmem⟩,ag0⟩
 have iy:=oL hj;have hgf:=hcar _ (cr hj)
 have hgO:∀s∈O,nB s:=λs h=>by
  rcases gV.1 ((hmem s).1 h) with h|h
  ·exact hgP s h
  ·exact hcar s (vX h)
 have hkey:=I1 (R.getD j default) hgf.1 hgf.2.1;have hts:R.take (j+1)=R.take j++[R.getD j default]:=bO hj;have hmf:=LH (kK (R.getD j default)) (O.map kK);have hmk:=Kv hgO hgf;generalize R.getD j default=f at *;by_cases hf:f∈O
 ·rw[if_pos (hmk.2 hf)] at hmf;have hlt2:(O.map kK).idxOf (kK f)<(O.map kK).length:=List.idxOf_lt_length_iff.2 (hmk.2 hf)
  have hgv:mget (.bool false) false (some ((O.map kK).idxOf (kK f))) (O.map λ_=>AV.bool true)=.bool true:=by
   rw[bC] at hlt2;simp[mget,List.getD,hlt2]
  refine wnY (zI3 @iy @o1 @o2) ?_;refine fC ev0 g0 (by((try simp only[bU,ZA,reduceEqDiff,↓reduceIte,reduceAdd,reduceLeDiff]);(try with_reducible rfl));rfl) (GY (kK f)) hmf ?_;rw[hgv];refine wnY (aI @o1 @o2) ?_;refine⟨(j+1,sv,O),by dsimp only;omega,⟨by dsimp only;omega,hnx,g0,hrow,hbd,hnd,λs=>?_⟩,ag0⟩;dsimp only;rw[hts,<-gK,gV,<-hmem,ed];exact⟨.inl,λh=>h.elim id λe=>by rw[e];exact hf⟩
 ·rw[if_neg (λh=>hf (hmk.1 h))] at hmf;have hgv:mget (.bool false) false none (O.map λ_=>AV.bool true)=.bool false:=rfl;refine wnY (zI3 @iy @o1 @o2) ?_;refine fC ev0 g0 (by((try simp only[bU,ZA,reduceEqDiff,↓reduceIte,reduceAdd,reduceLeDiff]);(try with_reducible rfl));rfl) (GY (kK f)) hmf ?_;rw[hgv];refine wnY (aI @o1 @o2) ?_;refine l7 ev0 g0 (by((try simp only[bU,ZA,reduceEqDiff,↓reduceIte,reduceAdd,reduceLeDiff]);(try with_reducible rfl));rfl) ev0 (GY (kK f)) hmf ?_;refine wnY (zI4 @o1 @o2 @ce @bN) ?_;refine eR (hrow.same λb hb=>?_) ?_
  ·have:=hbd b hb;rw[ab (by omega),ab (by omega)]
  rintro s2 H2 nx2 hr2 i1 i2 i3 i4;obtain⟨o3,o4⟩:=hr2.one;refine wnY (aI @o3 @o4) ?_;refine⟨(j+1,s2,O++[f]),by dsimp only;omega,⟨by dsimp only;omega,by omega,?_,?_,λb hb=>?_,?_,λs=>?_⟩,ag0⟩
  ·rw[i3 0 (by omega) (λh=>by have:=hbd 0 h;omega),ab (by omega),ac];simp[eC,mF]
  ·dsimp only;rw[du];exact hr2
  ·rcases i4 b hb with h|h
   ·have:=hbd b h;omega
   ·omega
  ·exact FF.2 ⟨hnd,by simp,λa ha c hc=>by simp at hc;subst hc;intro e;subst e;exact hf ha⟩
  ·dsimp only;rw[hts,<-gK,gV,gV,<-hmem]
theorem OJ(a b:Int):pU 71 [aD [a,b]] (.int .i64 (if a≠0 then a else b)):=by
 refine pO PH ?_;simp only[b71,av];refine wnZ and_self ?_;refine ph (λk=>[(3,.int .i64 0),(6,aD [a,b]),(7,.int .i64 2),(8,.int .i64 k)]) 2 (λk=>[a,b].getD k default=0) (by(iterate 4 refine And.intro rfl ?_);trivial) ?_;intro k hk hz;rcases(by omega:k=0\/k=1\/k=2) with rfl|rfl|rfl
 ·have e:[a,b].getD 0 default=a:=rfl;have ix:cu 1 (aD [a,b]) (.int .i64 ((0:Nat):Int))=some (.iptr [.int .i64 a] 0):=rfl;by_cases h0:a=0
  ·have z:decide (a≠0)=false:=bL (λh=>h h0);refine wnZ (aI @ix @z) ?_;exact⟨by omega,h0,by(iterate 4 refine And.intro rfl ?_);trivial,rfl,rfl⟩
  ·have z:decide (a≠0)=true:=bH h0;refine wnZ (aI @ix @z) ?_;rw[if_pos h0];exact .int _ _
 ·have h0:a=0:=hz 0 (by omega);have ix:cu 1 (aD [a,b]) (.int .i64 ((1:Nat):Int))=some (.iptr [.int .i64 b] 0):=rfl;rw[if_neg (λh=>h h0)];by_cases h1:b=0
  ·have z:decide (b≠0)=false:=bL (λh=>h h1);refine wnZ (aI @ix @z) ?_;exact⟨by omega,h1,by(iterate 4 refine And.intro rfl ?_);trivial,rfl,rfl⟩
  ·have z:decide (b≠0)=true:=bH h1;refine wnZ (aI @ix @z) ?_;exact .int _ _
 ·have h0:a=0:=hz 0 (by omega);have h1:b=0:=hz 1 (by omega);rw[if_neg (λh=>h h0),h1];refine wnZ and_self ?_;exact .int _ _
theorem Iq(a b:Spx)(ha:Shn a)(hb:Shn b):pU 40 [aC a,aC b] (.int .i64 (if de a≠0 then de a else de b)):=by
 refine pO P9 ?_;simp only[b40,av];have h1:=lS a ha;have h2:=lS b hb;have h3:=OJ (de a) (de b);generalize de a=x at *;generalize de b=y at *;refine wnY and_self ?_;refine dE ev0 ev0 h3 (aB (af (Br (b:=0) (n:=2) (len:=2) (l:=[x,y]) (by rw[ac];rfl) rfl rfl) ai) rfl) ?_;refine wnY and_self ?_;exact .int _ _
theorem J5(l:Spx)(p:Vtx->Bool)(g:Nat)(caps caps':List AV)(hl:l.length<=1000000)(H:Hp)(nx:Nat)(hcap:∀H':Hp,(∀x,x<nx->H' x=H x)->aF H' caps caps')(hg:∀x∈l,pU g (bQ x::caps') (.bool (p x))):
    Abs.Fn Tryz.prog 41 [aC l,.func g caps] H nx λr H' nx'=>Row H' 2 r (cX (l.filter p))/\(∀x,x<nx->H' x=H x)/\nx<=nx':=by
 refine fO Qx ?_;simp only[b41,av];refine wnY @aL ?_;refine lpI (X:=Nat×AV) (λx=>[(1,.func g caps),(5,x.2),(8,aC l),(9,.int .i64 l.length),(10,.int .i64 x.1)]) (λx H' nx'=>x.1<=l.length/\nx<=nx'/\(∀y,y<nx->H' y=H y)/\Row H' 2 x.2 (cX ((l.take x.1).filter p))/\∀b,bk x.2=some b->nx<=b/\b<nx') (λx=>l.length-x.1) (0,.esl) ⟨bA _,ba _,λ_ _=>rfl,Row.nil,λb h=>(by cases h)⟩ ?_;rintro⟨k,sv⟩ H1 nx1 ⟨h1,h2,h3,hrow,hbd⟩;dsimp only at h1 hrow hbd |-;obtain⟨o1,o2⟩:=hrow.one;by_cases hk:k<l.length
 rotate_left
 ·rw[iW (by omega)] at hrow;refine wnY (aI @o1 @o2) ?_;exact⟨hrow,h3,h2⟩
 have ix:=ix2 hk;have hp:=hg _ (cr hk)
 have hft:(l.take (k+1)).filter p=(l.take k).filter p++if p (l.getD k default)=true then [l.getD k default] else []:=by
  rw[bO hk,BO];cases h:p (l.getD k default)
  ·rw[List.filter_cons_of_neg (by rw[h];decide),List.filter_nil,if_neg (by decide)]
  ·rw[List.filter_cons_of_pos h,List.filter_nil,if_pos rfl]
 have hcl:=mo ((l.take k).filter p);have hfl:((l.take k).filter p).length<=l.length:=fA (List.length_filter_le _ _) (by rw[jg];omega);generalize l.getD k default=v at *;refine wnY @ix ?_;refine dE ev0 ev0 hp (aB (af (qE _ _) (hcap _ λx hx=>by(repeat rw[ab (by omega)]);exact h3 x hx)) rfl) ?_;cases hpv:p v
 ·rw[hpv,if_neg (by decide),gH] at hft;refine wnY (aI @o1 @o2) ?_;refine⟨(k+1,sv),by dsimp only;omega,⟨by dsimp only;omega,by omega,λy hy=>by(repeat rw[ab (by omega)]);exact h3 y hy,by dsimp only;rw[hft];exact hrow.same λb hb=>by have:=hbd b hb;(repeat rw[ab (by omega)]),λb hb=>by have:=hbd b hb;omega⟩,ag0⟩
 ·rw[hpv,if_pos rfl] at hft;refine wnY (aI @o1 @o2) ?_;refine eR (hrow.same λb hb=>?_) ?_
  ·have:=hbd b hb;(repeat rw[ab (by omega)])
  rintro s2 H2 nx2 hr2 i1 i2 i3 i4;obtain⟨o3,o4⟩:=hr2.one;refine wnY (aI @o3 @o4) ?_;refine⟨(k+1,s2),by dsimp only;omega,⟨by dsimp only;omega,by omega,λy hy=>?_,?_,λb hb=>?_⟩,ag0⟩
  ·rw[i3 y (by omega) (λh=>by have:=hbd _ h;omega)];(repeat rw[ab (by omega)]);exact h3 y hy
  ·dsimp only;rw[hft,lr];exact hr2
  ·rcases i4 b hb with h|h
   ·have:=hbd b h;omega
   ·omega
theorem Pm(s:Spx)(v:Vtx)(hs:Shn s):pU 72 [bQ v,.iptr [aC s] 0] (.bool (decide (v∈s))):=by
 refine pO Ql ?_;simp only[b72,av]
 repeat' (first|refine zW ?_|apply a_n|refine zO ?_|refine vY ?_|refine cY ?_ (hp:=by exact Bg s v hs) (hs:=by(first|refine aB ?_ rfl|apply aS);(repeat' (first|exact ai|apply bI|apply bd|exact bX _|exact qE _));first|done|fail)|refine bxY ?_|refine bn rfl ?_|refine r1Y ?_|fail)
 exact .bool _
theorem Mo(s:Spx)(H:Hp)(nx:Nat):Abs.Fn Tryz.prog 42 [aC s] H nx λr H' nx'=>r=.func 72 [.ptr nx 1 0]/\H'=ap H nx [aC s]/\nx'=nx+1:=by
 refine fO QI ?_;simp only[b42,av];refine wnY (aI @ce @bN) ?_;exact⟨rfl,rfl,rfl⟩
theorem Bv{a b:Spx}:decide (((a.filter λv=>decide (v∈b)).length:Int)=a.length)=d7 a b:=by
 unfold d7
 induction a with
 |nil=>rfl
 |cons v l ih=>
  rw[List.all_cons];by_cases h:v∈b
  ·rw[List.filter_cons_of_pos (by simpa using h),bH h,Bool.true_and,<-ih];refine decide_eq_decide.2 ?_;simp
  ·rw[List.filter_cons_of_neg (by simpa using h),bL h,Bool.false_and];refine bL ?_;have:=List.length_filter_le (λv=>decide (v∈b)) l;simp;omega
theorem Iu(a b:Spx)(ha:de a=0)(hb:de b=0):pU 19 [aC a,aC b] (.tup [.bool (d7 a b),.int .i64 0]):=by
 refine pO P7 ?_;simp only[b19,av];obtain⟨a1,a2,a3,a4⟩:=eX ha;obtain⟨b1,b2,b3,b4⟩:=eX hb;have hbo:=Iq a b (show _<=_ by omega) (show _<=_ by omega);rw[ha,hb,if_neg (λh=>h rfl)] at hbo;have z0:decide ((0:Int)≠0)=false:=rfl;refine wnY @z0 ?_;refine aX ev0 ev0 (Mo b _ _) ?_;rintro _ _ _ ⟨rfl,rfl,rfl⟩;refine aX ev0 ev0 (J5 a (λv=>decide (v∈b)) 72 [.ptr 0 1 0] [.iptr [aC b] 0] (by omega) _ _ (λH' h=>af (dY ((h 0 (by omega)).trans ac) rfl (af (bX _ _) ai)) ai) (λv _=>Pm b v (show _<=_ by omega))) ?_;rintro r H1 nx1 ⟨r1,r2,r3⟩;have hls:=r1.lenS (mo _) (by omega);refine wnY (zI3 @hls @aL @Bv) ?_;exact KP rfl rfl
theorem uc{L:List Spx}(hL:∀s∈L,s.length<=8):∀(n:Nat)(s:Spx),s∈L->8<=s.length+n->∃t∈tt L,∀v∈s,v∈t
 |n,s,hs,hn=>by
  cases h:cQ L s
  ·exact⟨s,vV.2 ⟨hs,h⟩,λv hv=>hv⟩
  ·obtain⟨t,t1,t2,t3⟩:=fE.1 h
   match n with
   |0=>have:=hL t t1;omega
   |n+1=>
    obtain⟨u,u1,u2⟩:=uc hL n t t1 (by omega);exact⟨u,u1,λv hv=>u2 v (t3 v hv)⟩
def ws(a:List Spx):Bool:=((a.take 50).all λs=>decide (s.length<=10))&&(decide (a.length<=40) || decide (4096<a.length))
theorem Jm(c:List Spx)(hc:eg c=0)(hl:c.length<=50):pU 22 [kP c] (.tup [.int .i64 (sU c 8),.int .i64 0]):=by
 refine pO Qi ?_;simp only[b22,av];have hcc:=A8 c (show _<=_ by omega) (Lw hc);rw[hc] at hcc;have z0:decide ((0:Int)≠0)=false:=rfl;have hbd:=λk:Nat=>CY (c:=c) (λk=>zo (k:=k) hl λs hs=>(eX ((i5 hc).2.1 s hs)).2.1) k;have hll:=λk=>zo (k:=k) hl λs hs=>(eX ((i5 hc).2.1 s hs)).2.1;have hf:=λk(hk:1<=k/\k<=8)=>Hx c k hl (i5 hc).2.1 hk;refine wnY (zI3 @z0 @bM @bu) ?_;refine lpI (X:=Nat) (λk=>[(1,.ptr 0 1 0),(5,.int .i64 (sU c k)),(6,.int .i64 (k+1:Nat))]) (λk H nx=>k<=8/\H 0=some [be c]) (λk=>8-k) 0 ⟨bA _,rfl⟩ ?_;rintro k H nx ⟨g1,g2⟩;by_cases hk:k<8
 rotate_left
 ·obtain rfl:k=8:=by omega
  refine wnY and_self ?_;exact cR (af (.int _ _) (af (.int _ _) ai))
 have hf1:=hf (k+1) ⟨by omega,by omega⟩;have hl1:=hll (k+1);have hb1:=hbd k;have hb2:=hbd (k+1);have hes:sU c (k+1)=if (k+1)%2=1 then sU c k+((pT c (k+1)).length:Int) else sU c k-((pT c (k+1)).length:Int):=rfl
 have hr:∀tb tf,bo .rem tb tf (.int .i64 ((k+1:Nat):Int)) (.int .i64 2)=some (.int .i64 (((k+1)%2:Nat):Int)):=λtb tf=>by
  rw[yl (by omega) (by omega)]
  congr 2
 generalize pT c (k+1)=L at *;generalize sU c k=E0 at *;by_cases hodd:(k+1)%2=1
 ·rw[if_pos hodd] at hes;rw[hes] at hb2;have zr:decide ((((k+1)%2:Nat):Int)=1)=true:=bH (by omega);refine wnY (zI5 @g2 @z0 @hr @zr @aU) ?_;exact⟨k+1,by omega,⟨by omega,g2⟩,by rw[hes,show((k+1+1:Nat):Int)=((k+1:Nat):Int)+1 by omega];simp (disch:=omega) only[agr,ZG,reduceEqDiff,↓reduceIte]⟩
 ·rw[if_neg hodd] at hes;rw[hes] at hb2;have zr:decide ((((k+1)%2:Nat):Int)=1)=false:=bL (by omega);refine wnY (zI5 @g2 @z0 @hr @zr @aU) ?_;exact⟨k+1,by omega,⟨by omega,g2⟩,by rw[hes,show((k+1+1:Nat):Int)=((k+1:Nat):Int)+1 by omega];simp (disch:=omega) only[agr,ZG,reduceEqDiff,↓reduceIte]⟩
end
end Go.Proofs.YtmpcledaoigkaaaGreat
namespace Go.Proofs.YtmpcledaoigkaaaGreat
open Go Go.Abs Tk
open Nat (reduceEqDiff reduceAdd reduceLeDiff)
theorem ir:(dH P14).length=12:=by decide+kernel
theorem NM:(iZ P14).length=12/\eg (iZ P14)=0/\sU (iZ P14) 8=0:=by decide+kernel
def my:List Nat:=[0,2,1,7,8,6,9,11,10,4,5,3]
theorem uT:∀k,k<11->mJ 2 (dH P14) (my.getD k 0) (my.getD (k+1) 0)=true:=by decide+kernel
theorem HB{n R:Nat}{x:ExV}(hx:XOk n R x){q:Nat}(hq:q<n):(ik x).getD q 0=if hasFl (iY x) q=true then-1 else(eh x).getD q 0:=by
 have hl:=hx.last.1;unfold ik;rw[GG (by omega)];have e:(q<(eh x).length/\hasFl (iY x) q=true)↔hasFl (iY x) q=true:=⟨λh=>h.2,λh=>⟨by omega,h⟩⟩
 simp only[e]
theorem tO{n R:Nat}{x:ExV}(hx:XOk n R x){q:Nat}(hq:q<n)(z:Int):(0<=(ik x).getD q 0/\(ik x).getD q 0=z)↔(⟨(q:Nat),z⟩:Vtx)∈gN x:=by
 rw[HB hx hq,vu];obtain⟨l1,l2⟩:=hx.last;have l3:0<=(eh x).getD q 0/\(eh x).getD q 0<=5000:=l2 _ (au (by omega));constructor
 ·rintro⟨h1,h2⟩;cases hb:hasFl (iY x) q with
  |true=>rw[hb,if_pos rfl] at h1;omega
  |false=>
   rw[hb,if_neg (by decide)] at h2;exact⟨q,by omega,hb,by rw[h2]⟩
 ·rintro⟨i,h1,h2,h3⟩;have e1:(q:Int)=(i:Int):=congrArg Vtx.color h3;have e2:z=(eh x).getD i 0:=congrArg Vtx.label h3;obtain rfl:q=i:=by omega
  rw[h2,if_neg (by decide)];exact⟨l3.1,e2.symm⟩
theorem EG{n R:Nat}{x:ExV}(hx:XOk n R x){v:Vtx}(h:v∈gN x):∃q,q<n/\v.color=(q:Nat):=by
 obtain⟨i,h1,_,rfl⟩:=vu.1 h;exact⟨i,by rw[<-hx.last.1];exact h1,rfl⟩
theorem Ov{n R:Nat}{x y:ExV}(hx:XOk n R x)(hy:XOk n R y){q:Nat}(hq:q<n):(0<=(ik x).getD q 0/\(ik x).getD q 0=(ik y).getD q 0)↔ ∃v∈gN x,v.color=(q:Nat)/\v∈gN y:=by
 constructor
 ·rintro⟨h1,h2⟩;exact⟨⟨(q:Nat),(ik x).getD q 0⟩,(tO hx hq _).1 ⟨h1,rfl⟩,rfl,(tO hy hq _).1 ⟨by omega,h2.symm⟩⟩
 ·rintro⟨⟨c,z⟩,h1,h2,h3⟩;dsimp only at h2;subst h2;have a:=(tO hx hq z).2 h1;have b:=(tO hy hq z).2 h3;exact⟨a.1,a.2.trans b.2.symm⟩
theorem J1{p:PrbV}(h:OkP p){i j q:Nat}(hi:i<(dH p).length)(hj:j<(dH p).length)(hq:q<p.task.n.toNat):jb (dH p) i j q=true↔ ∃v∈(ez p).getD i [],v.color=(q:Nat)/\v∈(ez p).getD j []:=by
 obtain⟨s1,s2,s3,s4⟩:=jo p h;rw[ke] at hi hj;have e1:∀i,i<(bG p).execs.length->(dH p).getD i []=ik ((bG p).execs.getD i default):=λi hi=>by simp[dH,List.getD,hi]
 have e2:∀i,i<(bG p).execs.length->(ez p).getD i []=gN ((bG p).execs.getD i default):=λi hi=>by simp[ez,List.getD,hi]
 unfold jb;rw[gI,e1 i hi,e1 j hj,e2 i hi,e2 j hj];exact Ov (s4 _ (au hi)) (s4 _ (au hj)) hq
theorem BD{p:PrbV}(h:OkP p){i:Nat}(hi:i<(dH p).length){v:Vtx}(hv:v∈(ez p).getD i []):∃q,q<p.task.n.toNat/\v.color=(q:Nat):=by
 obtain⟨s1,s2,s3,s4⟩:=jo p h;rw[ke] at hi;have e2:(ez p).getD i []=gN ((bG p).execs.getD i default):=by simp[ez,List.getD,hi]
 rw[e2] at hv;exact EG (s4 _ (au hi)) hv
section
attribute [local irreducible] aG ah bg aQ aH aK ay aN aR bq Go.Abs.Fn aP Go.Abs.Pure ak aF Yl
theorem KL(l:List Int)(hl:l.length=12)(h0:∀i,i<12->l.getD i 0=0):pU 24 [aD l] (.int .i64 0):=by
 refine pO QU ?_;simp only[b24,av]
 have hix:∀k:Nat,k<12->cu 1 (aD l) (.int .i64 (k:Int))=some (.iptr [.int .i64 0] 0):=λk hk=>by
  have:=l9 (l:=l) (n:=(k:Int)) (by omega) (by omega);rw[bR,h0 k hk] at this;exact this
 have z0:decide ((l.length:Int)<1)=false:=bL (by omega);have i0:cu 1 (aD l) (.int .i64 0)=some (.iptr [.int .i64 0] 0):=hix 0 (by omega);have hm:mE (.int .i64 0) (.int .i64 0)=some (.int .i64 0):=rfl;refine wnY (aI @z0 @i0) ?_;refine gn (X:=Nat) (λk=>[(0,aD l),(3,.int .i64 0),(4,.int .i64 k)]) (λk=>1<=k/\k<=12) (λk=>12-k) 1 ⟨ba _,by omega⟩ ag0 ?_;rintro k ⟨k1,k2⟩;by_cases hk:k<12
 ·have ix:=hix k hk;refine wnY (aI @ix @hm) ?_;exact⟨k+1,⟨by omega,by omega⟩,by omega,ag0,rfl,rfl⟩
 ·refine wnY and_self ?_;exact .int _ _
theorem Il:∀k,k<12->Cn (LkP (dH P14) 2) 0 (my.getD k 0):=λk hk=>by
 induction k with
 |zero=>exact .refl _
 |succ k ih=>
  refine(ih (by omega)).trans (.one ?_);have h:=uT k (by omega);have hb:∀k,k<12->my.getD k 0<12:=by decide
  obtain⟨_,p,hp,hl⟩:=Lf.1 h;exact⟨by rw[ir];exact hb k (by omega),by rw[ir];exact hb (k+1) hk,p,hp,hl⟩
theorem GV:∀i,i<12->Cn (LkP (dH P14) 2) 0 i:=λi hi=>by
 have h:∃k,k<12/\my.getD k 0=i:=by
  have:∀i,i<12->∃k,k<12/\my.getD k 0=i:=by decide
  exact this i hi
 obtain⟨k,hk,rfl⟩:=h;exact Il k hk
theorem NY{l:List Int}(h:PL (dH P14) 2 l):l.length=12/\∀i,i<12->l.getD i 0=0:=by
 obtain⟨h1,h2,h3⟩:=h;rw[ir] at h1 h3;refine⟨h1,λi hi=>?_⟩;have h0:=h2 0 (by omega)
 have e0:l.getD 0 0=0:=by
  have:mj (l.take 0)=0:=rfl;rw[this] at h0;omega
 exact((h3 0 i (by omega) hi).2 (GV i hi)).symm.trans e0
theorem OZ{s:List Int}(h:Lab (dH P14).length (mJ 2 (dH P14)) 11 s):0<sg s 0:=by
 have hb:∀k,k<12->my.getD k 0<12:=by decide
 have hp:∀k,k<=7->Pth (dH P14).length (mJ 2 (dH P14)) 11 (my.getD (7-k) 0) k:=λk hk=>by
  induction k with
  |zero=>exact .zero
  |succ k ih=>
   have ha:=uT (7-(k+1)) (by omega);rw[show 7-(k+1)+1=7-k by omega,FT] at ha;exact .succ (ih (by omega)) (by rw[ir];exact hb _ (by omega)) (by rw[ir];exact hb _ (by omega)) ha
 have h0:=(h.le (hp 7 (ba _))).1;have e:my.getD (7-7) 0=0:=rfl;rw[e] at h0;rcases Int.lt_or_eq_of_le h0 with q|q
 ·exact q
 ·exact absurd (h.root 0 (by rw[ir];omega) q.symm) (by decide)
theorem DU:pU 5 [] (.bool true):=by
 refine pO is5 ?_;simp only[b5,av];have h1:=IJ;have h2:=zh P14 IL;have h3:=w7 P14 IL;obtain⟨f1,f2,f3⟩:=NM;have h4:=Jm (iZ P14) f2 (by omega);rw[f3] at h4;have h5:=λH nx=>qf P14 IL H nx;have h6:=λH nx=>Cc P14 IL 0 11 (by rw[ir];omega) (by rw[ir];omega) H nx;have hd1:=fh P14;have hd2:=eO (bG P14);rw[show fZ (bG P14)=.agg (bG P14).cs from rfl,PC.2.2.2.2.2.2.2] at h2 h3 h5 h6 hd2;unfold cT at h1 h2 hd1;rw[PC.2.2.2.2.1] at h1 h2 hd1;unfold kP at h3 h4;generalize iZ P14=F at *;refine wnY (zI4 @PE @bM @bu @aU) ?_;refine aX ev0 ev0 (h5 _ _) ?_;rintro _ H1 n1 ⟨m1,fr1,l,rfl,hl⟩;obtain⟨l1,l2⟩:=NY hl;have h7:=KL l l1 l2;generalize hS:ap _ _ _=HS at fr1;have k0:H1 0=some [.int .i64 (bG P14).prob.task.n,.int .i64 (bG P14).prob.task.ins,.int .i64 (bG P14).prob.task.outs,cI (bG P14).prob.task.cases,.int .i64 (bG P14).prob.adv.n,bj (bG P14).prob.adv.states,.int .i64 (bG P14).prob.rounds,.int .i64 (bG P14).tn,dK (bG P14).views,eB (bG P14).execs]:=(fr1 0 (by omega)).trans (by rw[<-hS];simp (disch:=omega) only[ab,ac];rfl);have k1:H1 1=some [be F]:=(fr1 1 (by omega)).trans (by rw[<-hS];simp (disch:=omega) only[ab,ac];rfl);refine wnY (zI3 @PE @k0 @SR) ?_;refine aX ev0 (by((try simp only[bU,ZA,reduceEqDiff,↓reduceIte,reduceAdd,reduceLeDiff]);(try with_reducible rfl));rfl) (h6 _ _) ?_;rintro _ H2 n2 ⟨m2,fr2,s,hlab,d,rfl,hds⟩
 have hfar:=OZ hlab;have hd:=hds (by omega);have q1:=(fr2 1 (by omega)).trans k1;have z1:decide (sg s ((0:Nat))≥0)=true:=bH (by omega);have z2:decide (d>0)=true:=bH (by omega);have z3:decide ((F.length:Int)=12)=true:=bH (by omega);have z4:decide ((l.length:Int)=12)=true:=bH (by omega);refine wnY (zI7 @PE @q1 @z1 @z2 @z3 @z4 @aU) ?_;exact .bool _
end
end Go.Proofs.YtmpcledaoigkaaaGreat
namespace Go.Proofs.YtmpcledaoigkaaaGreat
open Go Go.Abs
structure UF where
 ks:List Vtx
 vs:List Vtx
 rt:Vtx->Vtx
def gp(u:UF)(p:Vtx×Vtx):UF:=if u.rt p.1=u.rt p.2 then u else⟨u.ks++[u.rt p.1],u.vs++[u.rt p.2],λz=>if u.rt z=u.rt p.1 then u.rt p.2 else u.rt z⟩
def uf0:UF:=⟨[],[],λv=>v⟩
def ufL(P:List (Vtx×Vtx)):UF:=P.foldl gp uf0
structure Forest(u:UF):Prop where
 nd:u.ks.Nodup
 len:u.vs.length=u.ks.length
 up:∀i,i<u.ks.length->u.vs.getD i default∈u.ks->i<u.ks.idxOf (u.vs.getD i default)
 out:∀v,v∉u.ks->u.rt v=v
 stp:∀i,i<u.ks.length->u.rt (u.ks.getD i default)=u.rt (u.vs.getD i default)
 top:∀v,u.rt v∉u.ks
theorem Cf:Forest uf0:=⟨List.nodup_nil,rfl,λi h=>absurd h (Nat.not_lt_zero _),λ_ _=>rfl,λi h=>absurd h (Nat.not_lt_zero _),λ_ h=>by cases h⟩
theorem pm{l:List Vtx}{x:Vtx}{i:Nat}(h:i=l.length):(l++[x]).getD i default=x:=by subst h;exact ry
theorem wn{u:UF}(h:Forest u)(p:Vtx×Vtx):Forest (gp u p):=by
 unfold gp;by_cases e:u.rt p.1=u.rt p.2
 ·rw[if_pos e];exact h
 rw[if_neg e];have ha:=h.top p.1;have hb:=h.top p.2;generalize u.rt p.1=a at *;generalize u.rt p.2=b at *;have hra:=h.out a ha;have hrb:=h.out b hb;have hbn:b∉u.ks++[a]:=λq=>(gV.1 q).elim hb λq=>e (ed.1 q).symm;refine⟨?_,?_,λi hi hm=>?_,λv hv=>?_,λi hi=>?_,λv hv=>?_⟩
 ·show(u.ks++[a]).Nodup;rw[FF];exact⟨h.nd,List.pairwise_singleton _ _,λx hx y hy q=>ha (by rw[<-ed.1 hy,<-q];exact hx)⟩
 ·show(u.vs++[b]).length=(u.ks++[a]).length;rw[cm,cm,h.len];rfl
 ·have hi:i<(u.ks++[a]).length:=hi;rw[cm,List.length_singleton] at hi;have hm:(u.vs++[b]).getD i default∈u.ks++[a]:=hm;show i<(u.ks++[a]).idxOf ((u.vs++[b]).getD i default);by_cases hl:i<u.ks.length
  ·rw[mZ (by rw[h.len];exact hl)] at hm |-;rw[List.idxOf_append];split
   ·rename_i q;exact h.up i hl q
   ·omega
  ·rw[pm (by rw[h.len];omega)] at hm;exact absurd hm hbn
 ·have hv:v∉u.ks++[a]:=hv;rw[gV,ed] at hv;have hrv:=h.out v λq=>hv (.inl q);show(if u.rt v=a then b else u.rt v)=v;rw[hrv,if_neg λq=>hv (.inr q)]
 ·have hi:i<(u.ks++[a]).length:=hi;rw[cm,List.length_singleton] at hi;show(if u.rt ((u.ks++[a]).getD i default)=a then b else u.rt ((u.ks++[a]).getD i default))=if u.rt ((u.vs++[b]).getD i default)=a then b else u.rt ((u.vs++[b]).getD i default)
  by_cases hl:i<u.ks.length
  ·rw[mZ hl,mZ (by rw[h.len];exact hl),h.stp i hl]
  ·rw[pm (by omega),pm (by rw[h.len];omega),hra,if_pos rfl,hrb,if_neg λq=>e q.symm]
 ·have hv:(if u.rt v=a then b else u.rt v)∈u.ks++[a]:=hv;by_cases q:u.rt v=a
  ·rw[if_pos q] at hv;exact hbn hv
  ·rw[if_neg q] at hv;exact(gV.1 hv).elim (h.top v) λr=>q (ed.1 r)
theorem Dv:∀(P:List (Vtx×Vtx))(u:UF),Forest u->Forest (P.foldl gp u)
 |[],_,h=>h
 |p::P,u,h=>Dv P _ (wn h p)
theorem tV(P:List (Vtx×Vtx)):Forest (ufL P):=Dv P _ Cf
theorem F5{P:List (Vtx×Vtx)}{p:Vtx×Vtx}:ufL (P++[p])=gp (ufL P) p:=by unfold ufL;rw[List.foldl_append];rfl
def ij(s:Spx):List (Vtx×Vtx):=(s.drop 1).map λv=>(s.getD 0 default,v)
def cS(c:List Spx):List (Vtx×Vtx):=c.flatMap ij
theorem zG{c:List Spx}{i:Nat}(h:i<c.length):cS (c.take (i+1))=cS (c.take i)++ij (c.getD i default):=by
 unfold cS;rw[bO h,List.flatMap_append];simp
def nsF(l:List Vtx):List Vtx:=l.foldl (λks v=>if v∈ks then ks else ks++[v]) []
theorem zl(l:List Vtx)(v:Vtx):nsF (l++[v])=if v∈nsF l then nsF l else nsF l++[v]:=by unfold nsF;rw[List.foldl_append];rfl
theorem CH:∀(m l:List Vtx),∃r,nsF (l++m)=nsF l++r
 |[],l=>⟨[],by rw[gH,gH]⟩
 |v::m,l=>by
  obtain⟨r,hr⟩:=CH m (l++[v]);rw[gK] at hr;rw[show l++v::m=l++([v]++m) from rfl,hr,zl];split
  ·exact⟨r,rfl⟩
  ·exact⟨v::r,by rw[gK];rfl⟩
theorem x9:∀{l:List Vtx}{v:Vtx},v∈nsF l↔v∈l:=λ{l v}=>by
 suffices h:∀(l ks:List Vtx),v∈l.foldl (λks v=>if v∈ks then ks else ks++[v]) ks↔v∈ks\/v∈l by simpa[nsF] using h l []
 intro l
 induction l with
 |nil=>simp
 |cons a l ih=>
  intro ks;rw[List.foldl_cons,ih,fR];split
  ·rename_i h;constructor
   ·rintro(q|q)
    ·exact .inl q
    ·exact .inr (.inr q)
   ·rintro(q|rfl|q)
    ·exact .inl q
    ·exact .inl h
    ·exact .inr q
  ·rw[gV,ed,or_assoc]
theorem DZ(l:List Vtx):(nsF l).Nodup:=by
 suffices h:∀(l ks:List Vtx),ks.Nodup->(l.foldl (λks v=>if v∈ks then ks else ks++[v]) ks).Nodup from h l [] List.nodup_nil
 intro l
 induction l with
 |nil=>exact λks h=>h
 |cons a l ih=>
  intro ks h;rw[List.foldl_cons];refine ih _ ?_;split
  ·exact h
  ·rename_i q;rw[FF];exact⟨h,List.pairwise_singleton _ _,λx hx y hy e=>q (by rw[ed.1 hy] at e;rw[<-e];exact hx)⟩
theorem I6(l:List Vtx):(nsF l).length<=l.length:=IA (DZ l) λv hv=>x9.1 hv
def nsI(l:List Vtx):List Nat:=l.map λv=>(nsF l).idxOf v
theorem Kg{l:List Vtx}{i:Nat}(h:i<l.length):(nsF (l.take (i+1))).idxOf (l.getD i default)=(nsF l).idxOf (l.getD i default)/\l.getD i default∈nsF (l.take (i+1)):=by
 have hm:l.getD i default∈nsF (l.take (i+1)):=x9.2 (by rw[bO h];simp);obtain⟨r,hr⟩:=CH (l.drop (i+1)) (l.take (i+1));rw[wk] at hr;refine⟨?_,hm⟩;rw[hr,List.idxOf_append,if_pos hm]
theorem Gb{l:List Vtx}{i:Nat}(h:i<l.length):(nsI l).take (i+1)=(nsI l).take i++[(nsF l).idxOf (l.getD i default)]:=by
 have hl:i<(nsI l).length:=by unfold nsI;rw[bC];exact h
 rw[bO hl]
 congr 2
 unfold nsI;simp[List.getD,h]
def rtL(c:List Spx):List Vtx:=c.map λs=>(ufL (cS c)).rt (s.getD 0 default)
def fW(c:List Spx):List Nat:=nsI (rtL c)
end Go.Proofs.YtmpcledaoigkaaaGreat
namespace Go.Proofs.YtmpcledaoigkaaaGreat
open Go Go.Abs Tk
theorem Dp:∀(P:List (Vtx×Vtx))(u:UF){a b:Vtx},u.rt a=u.rt b->(P.foldl gp u).rt a=(P.foldl gp u).rt b
 |[],_,_,_,h=>h
 |p::P,u,a,b,h=>by
  rw[List.foldl_cons];refine Dp P _ ?_;unfold gp;split
  ·exact h
  ·dsimp only;rw[h]
theorem Dh:∀(P:List (Vtx×Vtx))(u:UF)(p:Vtx×Vtx),p∈P->(P.foldl gp u).rt p.1=(P.foldl gp u).rt p.2
 |[],_,_,h=>(by cases h)
 |q::P,u,p,h=>by
  rw[List.foldl_cons];rcases fR.1 h with rfl|h
  ·refine Dp P _ ?_;unfold gp;split
   ·assumption
   ·rename_i e;dsimp only;rw[if_pos rfl,if_neg (λh=>e h.symm)]
  ·exact Dh P _ p h
theorem FV{Q:Vtx->Prop}:∀(P:List (Vtx×Vtx))(u:UF),(∀v,Q (u.rt v)↔Q v)->(∀p∈P,Q p.1↔Q p.2)->∀v,Q ((P.foldl gp u).rt v)↔Q v
 |[],_,h,_=>h
 |p::P,u,h,hp=>by
  rw[List.foldl_cons];refine FV P _ (λv=>?_) (λq hq=>hp q (pF _ hq));unfold gp;split
  ·exact h v
  ·dsimp only;split
   ·rename_i e;rw[h,<-hp p (jZ ..),<-h p.1,<-e,h]
   ·exact h v
theorem Om{c:List Spx}{p:Vtx×Vtx}(h:p∈cS c):∃t∈c,p.1=t.getD 0 default/\p.2∈t.drop 1:=by
 unfold cS at h;obtain⟨t,h1,h2⟩:=List.mem_flatMap.1 h;unfold ij at h2;obtain⟨v,h3,rfl⟩:=dF.1 h2;exact⟨t,h1,rfl,h3⟩
theorem qF{c:List Spx}{t:Spx}{v:Vtx}(ht:t∈c)(hv:v∈t):(ufL (cS c)).rt v=(ufL (cS c)).rt (t.getD 0 default):=by
 cases t with
 |nil=>cases hv
 |cons w r=>
  rcases fR.1 hv with rfl|h
  ·rfl
  ·refine(Dh (cS c) uf0 (w,v) ?_).symm;unfold cS;exact List.mem_flatMap.2 ⟨w::r,ht,dF.2 ⟨v,h,rfl⟩⟩
theorem HZ{c:List Spx}{i k:Nat}(hi:i<c.length)(hk:k<c.length):(lC (fW c)).getD i 0=(lC (fW c)).getD k 0↔(ufL (cS c)).rt ((c.getD i default).getD 0 default)=(ufL (cS c)).rt ((c.getD k default).getD 0 default):=by
 have e:∀i,i<c.length->(lC (fW c)).getD i 0=(((nsF (rtL c)).idxOf ((ufL (cS c)).rt ((c.getD i default).getD 0 default)):Nat):Int):=λi hi=>by
  simp[lC,fW,nsI,rtL,List.getD,hi]
 have m:∀i,i<c.length->(ufL (cS c)).rt ((c.getD i default).getD 0 default)∈nsF (rtL c):=λi hi=>by
  rw[x9];unfold rtL;exact dF.2 ⟨c.getD i default,au hi,rfl⟩
 rw[e i hi,e k hk];constructor
 ·intro h;have h:(nsF (rtL c)).idxOf ((ufL (cS c)).rt ((c.getD i default).getD 0 default))=(nsF (rtL c)).idxOf ((ufL (cS c)).rt ((c.getD k default).getD 0 default)):=by omega
  have a:=List.getElem_idxOf (List.idxOf_lt_length_of_mem (m i hi));have b:=List.getElem_idxOf (List.idxOf_lt_length_of_mem (m k hk));rw[<-a,<-b];simp only[h]
 ·intro h;rw[h]
theorem oD(c:List Spx):(lC (fW c)).length=c.length:=by simp[lC,fW,nsI,rtL]
theorem tE{l:List Spx}{s:Spx}:s∈neS l↔s∈l/\s≠[]:=by
 unfold neS;rw[jY,gI]
theorem Gr{p:PrbV}{s:Spx}(hs:s∈ez p):∃x,x<(dH p).length/\(ez p).getD x []=s:=by
 obtain⟨x,hx,e⟩:=List.mem_iff_getElem.1 hs;exact⟨x,by rw[lM,<-ke] at hx;exact hx,by rw[<-e];simp[List.getD,hx]⟩
theorem AN{p:PrbV}{x:Nat}(hx:x<(dH p).length):(ez p).getD x []∈ez p:=by
 rw[ke,<-lM] at hx;exact au hx
theorem rz{p:PrbV}(h:OkP p){s:Spx}(hs:s∈neS (ez p)):de s=0:=by
 obtain⟨s1,s2,s3,s4⟩:=jo p h;obtain⟨hck,-,-,-,r6⟩:=fg h.e0;obtain⟨n1,n5,c1,c2⟩:=dv hck;obtain⟨h1,h2⟩:=tE.1 hs;unfold ez at h1;obtain⟨x,hx,rfl⟩:=dF.1 h1;exact wX (s4 x hx) (by omega) h2
theorem Jd{p:PrbV}(h:OkP p):eg (iZ p)=0/\(iZ p).length<=60:=by
 have hl:(neS (ez p)).length<=60:=by
  have h1:=List.length_filter_le (λs:Spx=>decide (s≠[])) (ez p);have h2:=(jo p h).2.1;have h3:=lM p;unfold neS;omega
 exact⟨yF (by omega) λs hs=>rz h hs,fA Bn hl⟩
theorem xC{p:PrbV}(h:OkP p){s:Spx}(hs:s∈ez p)(hn:s≠[]):∃t∈iZ p,∀v∈s,v∈t:=by
 have hm:=tE.2 ⟨hs,hn⟩;exact uc (λs hs=>(eX (rz h hs)).2.1) 8 s hm (by omega)
theorem JR{p:PrbV}(h:OkP p){x y:Nat}(hx:x<(dH p).length)(hy:y<(dH p).length){v:Vtx}(h1:v∈(ez p).getD x [])(h2:v∈(ez p).getD y []):LkP (dH p) p.task.n.toNat x y:=by
 obtain⟨q,a,b⟩:=BD h hx h1;exact⟨hx,hy,q,a,(J1 h hx hy a).2 ⟨v,h1,b,h2⟩⟩
theorem O9{p:PrbV}(h:OkP p){x y:Nat}(hc:Cn (LkP (dH p) p.task.n.toNat) x y):x<(dH p).length->∀v∈(ez p).getD x [],∀w∈(ez p).getD y [],(ufL (cS (iZ p))).rt v=(ufL (cS (iZ p))).rt w:=by
 have one:∀x,x<(dH p).length->∀v∈(ez p).getD x [],∀w∈(ez p).getD x [],(ufL (cS (iZ p))).rt v=(ufL (cS (iZ p))).rt w:=λx hx v hv w hw=>by
  obtain⟨t,t1,t2⟩:=xC h (AN hx) (List.ne_nil_of_mem hv);rw[qF t1 (t2 v hv),qF t1 (t2 w hw)]
 induction hc with
 |refl i=>intro hx v hv w hw;exact one i hx v hv w hw
 |step l _ ih=>
  intro hx v hv w hw;obtain⟨l1,l2,q,l3,l4⟩:=l;obtain⟨u,u1,_,u2⟩:=(J1 h l1 l2 l3).1 l4;rw[one _ l1 v hv u u1];exact ih l2 u u2 w hw
theorem BB{p:PrbV}(h:OkP p){a b i k:Nat}(ha:a<(dH p).length)(hb:b<(dH p).length)(hi:i<(iZ p).length)(hk:k<(iZ p).length)(na:(ez p).getD a []≠[])(nb:(ez p).getD b []≠[])(sa:∀v∈(ez p).getD a [],v∈(iZ p).getD i default)(sb:∀v∈(ez p).getD b [],v∈(iZ p).getD k default):
    (lC (fW (iZ p))).getD i 0=(lC (fW (iZ p))).getD k 0↔Cn (LkP (dH p) p.task.n.toNat) a b:=by
 rw[HZ hi hk];obtain⟨v0,hv0⟩:=List.exists_mem_of_ne_nil _ na;obtain⟨w0,hw0⟩:=List.exists_mem_of_ne_nil _ nb;rw[<-qF (au hi) (sa v0 hv0),<-qF (au hk) (sb w0 hw0)];constructor
 ·intro e
  have inv:=FV (Q:=fun v=>∃ x,x < (dH p).length∧v ∈ (ez p).getD x []∧Cn (LkP (dH p) p.task.n.toNat) a x) (cS (iZ p)) uf0 (fun v=>Iff.rfl) (fun q hq=>by
   obtain⟨t,t1,t2,t3⟩:=Om hq;have t4:q.2∈t:=Au t3
   have t5:q.1∈t:=by
    rw[t2];exact au (List.length_pos_of_mem t4)
   obtain⟨x,hx,ex⟩:=Gr (tE.1 (uO t1)).1;rw[<-ex] at t4 t5;have key:∀{u w:Vtx},u∈(ez p).getD x []->w∈(ez p).getD x []->(∃x,x<(dH p).length/\u∈(ez p).getD x []/\Cn (LkP (dH p) p.task.n.toNat) a x)->(∃x,x<(dH p).length/\w∈(ez p).getD x []/\Cn (LkP (dH p) p.task.n.toNat) a x):=λhu hw ⟨y,y1,y2,y3⟩=>⟨x,hx,hw,y3.trans (.one (JR h y1 hx y2 hu))⟩
   exact⟨key t5 t4,key t4 t5⟩)
  have q1:=(inv v0).2 ⟨a,ha,hv0,.refl _⟩;have e:(List.foldl gp uf0 (cS (iZ p))).rt v0=(List.foldl gp uf0 (cS (iZ p))).rt w0:=e;rw[e] at q1;obtain⟨x,x1,x2,x3⟩:=(inv w0).1 q1;exact x3.trans (.one (JR h x1 hb x2 hw0))
 ·intro hc;exact O9 h hc ha v0 hv0 w0 hw0
theorem FK{p:PrbV}(h:OkP p){a b:Nat}(hc:Cn (LkP (dH p) p.task.n.toNat) a b)(he:(ez p).getD a []=[]\/(ez p).getD b []=[]):a=b:=by
 have key:∀{a b},Cn (LkP (dH p) p.task.n.toNat) a b->(ez p).getD a []=[]->a=b:=λhc ha=>by
  cases hc with
  |refl=>rfl
  |step l _=>
   obtain⟨l1,l2,q,l3,l4⟩:=l;obtain⟨u,u1,_,u2⟩:=(J1 h l1 l2 l3).1 l4;rw[ha] at u1;cases u1
 rcases he with e|e
 ·exact key hc e
 ·exact(key (hc.symm (LkP.symm _ _)) e).symm
theorem IX2:(∀(T:Tm)(H:Hp)(x:Opd),cf T H (.ixaA 2 1 x (.c (.int .i64 0)))=jG 0 (ov T x))/\(∀(T:Tm)(H:Hp)(x:Opd),cf T H (.ixaA 2 1 x (.c (.int .i64 1)))=jG 1 (ov T x)):=by
 refine⟨λT H x=>?_,λT H x=>?_⟩
 ·show(if (0:Int)<=0/\(0:Int)<(2:Nat) then jG ((0:Int).toNat*1) (ov T x) else none)=_;rw[if_pos ⟨Int.le_refl _,by decide⟩];rfl
 ·show(if (0:Int)<=1/\(1:Int)<(2:Nat) then jG ((1:Int).toNat*1) (ov T x) else none)=_;rw[if_pos ⟨by decide,by decide⟩];rfl
section
attribute [local irreducible] aG ah bg aQ aH aK ay aN aR bq Go.Abs.Fn aP Go.Abs.Pure ak aF Yl
theorem OY(x f:Spx)(hx:de x=0)(hf:de f=0):pU 18 [aC f,.iptr [aC x] 0] (.bool (d7 x f)):=by
 refine pO QM ?_;simp only[b18,av];have h:=Iu x f hx hf;refine wnY and_self ?_;exact .bool _
theorem G6(x:Spx)(F:List Spx)(hx:de x=0)(hF:∀f∈F,de f=0)(hl:Shn F):pU 16 [aC x,.iptr [be F] 0] (.int .i64 (if F.any (d7 x) then(F.findIdx (d7 x):Nat) else-1)):=by
 refine pO P5 ?_;simp only[b16,av];have h:=D2 F (d7 x) 18 [.iptr [aC x] 0] (DatL.cons (Dat.iptr (DatL.cons (bX _) DatL.nil)) DatL.nil) (λf hf=>OY x f hx (hF f hf)) hl;refine wnY (aI @ce @bN) ?_;refine dE ev0 ev0 h (aB (af (cU _ _) (af (iz (af (dY rfl rfl (af (bX _ _) ai)) ai)) ai)) rfl) ?_;refine wnY (aI @ce @bN) ?_;exact .int _ _
end
end Go.Proofs.YtmpcledaoigkaaaGreat
namespace Go.Proofs.YtmpcledaoigkaaaGreat
open Go Go.Abs
section
attribute [local irreducible] aG ah bg aQ aH aK ay aN aR bq Go.Abs.Fn aP Go.Abs.Pure ak aF Yl
theorem BA(u:UF)(hu:Forest u)(v:Vtx)(p b:Nat)(H:Hp)(nx:Nat)(hp:H p=some [.mp b])(hb:H b=some [.omap (u.ks.map bQ) (u.vs.map bQ)])(hpn:p<nx)(hbn:b<nx):
    Abs.Fn Tryz.prog 36 [bQ v,.ptr p 1 0] H nx λr H' nx'=>r=bQ (u.rt v)/\nx<nx'/\∀x,x<nx->H' x=H x:=by
 refine fO Pr ?_;simp only[b36,av];unfold bQ;refine wnY and_self ?_;refine lpI (X:=Vtx) (λ_=>[(1,.ptr p 1 0),(2,.ptr nx 2 0),(3,.ptr (nx+1) 2 0)]) (λw H' nx'=>u.rt w=u.rt v/\H' nx=some [.int .i64 w.color,.int .i64 w.label]/\H' (nx+1)=some [.int .i64 0,.int .i64 0]/\nx+2<=nx'/\∀x,x<nx->H' x=H x) (λw=>if w∈u.ks then u.ks.length-u.ks.idxOf w else 0) v ⟨rfl,by rw[ab (by omega),ac],ac,by omega,λx hx=>by rw[ab (by omega),ab (by omega)]⟩ ?_;rintro w H1 nx1 ⟨k1,k2,k3,k4,k5⟩;have g1:=(k5 p hpn).trans hp;have g2:=(k5 b hbn).trans hb;have hmf:=pi w u.ks;unfold bQ at hmf;by_cases hw:w∈u.ks
 ·rw[if_pos hw] at hmf;obtain⟨m1,m2⟩:=qB hw;have e1:(u.vs.map bQ).getD (u.ks.idxOf w) .undef=bQ (u.vs.getD (u.ks.idxOf w) default):=sy default (by rw[hu.len];exact m1);have hst:=hu.stp _ m1;have hup:=hu.up _ m1;rw[m2,k1] at hst;generalize u.vs.getD (u.ks.idxOf w) default=y at *;unfold bQ at e1;refine wnY (aI @k2 @g1) ?_;refine fC ev0 g2 ev0 (nj w) hmf ?_;rw[show mget (AV.agg [AV.int IntKind.i64 0,AV.int IntKind.i64 0]) true (some (u.ks.idxOf w)) (u.vs.map bQ)=.tup [(u.vs.map bQ).getD (u.ks.idxOf w) .undef,.bool true] from rfl,e1];refine wnY (aI @k2 @g1) ?_;refine⟨y,?_,⟨hst.symm,?_,?_,?_,?_⟩,ag0⟩
  ·rw[if_pos hw];split
   ·rename_i q;have:=hup q;have:=List.idxOf_lt_length_of_mem q;omega
   ·omega
  ·rw[ac];rfl
  ·rw[ab (by omega),ab (by omega),ab (by omega)];exact k3
  ·omega
  ·exact λx hx=>by rw[ab (by omega),ab (by omega),ab (by omega)];exact k5 x hx
 ·rw[if_neg hw] at hmf;have hr:=hu.out w hw;refine wnY (aI @k2 @g1) ?_;refine fC ev0 g2 ev0 (nj w) hmf ?_;rw[show mget (AV.agg [AV.int IntKind.i64 0,AV.int IntKind.i64 0]) true none (u.vs.map bQ)=.tup [AV.agg [AV.int IntKind.i64 0,AV.int IntKind.i64 0],.bool false] from rfl];refine wnY (zI3 @k2 @k3 @g1) ?_;exact⟨by rw[<-k1,hr],by omega,λx hx=>by rw[ab (by omega),ab (by omega),ab (by omega)];exact k5 x hx⟩
section
open Go.Abs.C2 Go.Abs.Ins Go.Abs.Opd Go.Abs.TK Go.Abs.MK
def JD:List Op2:=[Op2.mk (some 41) none (mov (t 6)),Op2.mk (some 42) none (mov (t 8)),Op2.mk (some 43) none (ixaS 2 (t 42) (c (AV.int IntKind.i64 (0)))),Op2.mk (some 44) none (ldn 2 (t 43)),Op2.mk (some 45) none (call (t 41) [t 44]),Op2.mk (some 46) none (mov (t 6)),Op2.mk (some 47) none (ldn 2 (t 10)),Op2.mk (some 48) none (call (t 46) [t 47]),Op2.mk (some 11) none (alloc (AV.agg [AV.int IntKind.i64 (0),AV.int IntKind.i64 (0)])),Op2.mk (some 12) none (alloc (AV.agg [AV.int IntKind.i64 (0),AV.int IntKind.i64 (0)])),Op2.mk none none (Ins.st 2 (t 11) (t 45)),Op2.mk none none (Ins.st 2 (t 12) (t 48))]
end
def rtB:List (List Nat):=[[],[],[1],[1,2],[0,1,2,3],[],[],[0,1,2,3,4,5,6],[],[],[0,1,2,3,4,5,6,7,8,9],[0,1,2,3,4,5,6,7,8,9,10]]
def Gk:List Nat:=[1,5,6,8,10,28,29,30,35,36,37]
def rtV(fn:AV)(s:Spx)(v a b:Vtx):List (Nat×Nat×AV):=[(0,41,fn),(1,42,aC s),(2,43,.iptr [.int .i64 (s.getD 0 default).color,.int .i64 (s.getD 0 default).label] 0),(3,44,bQ (s.getD 0 default)),(4,45,bQ a),(5,46,fn),(6,47,bQ v),(7,48,bQ b)]
structure RtI(V:List (Nat×Nat×AV))(a b:Vtx)(T0:Tm)(H0:Hp)(n0:Nat)(L:Nat->Bool)(T:Tm)(H:Hp)(nx:Nat):Prop where
 le:n0<=nx
 same:∀x,x<n0->H x=H0 x
 base:∀t∈Gk,T t=T0 t
 vals:∀e∈V,L e.1=true->T e.2.1=e.2.2
 a8:L 8=true->∃x,T 11=.ptr x 2 0/\n0<=x/\x<nx/\H x=some (if L 10=true then [.int .i64 a.color,.int .i64 a.label] else [.int .i64 0,.int .i64 0])
 a9:L 9=true->∃x,T 12=.ptr x 2 0/\n0<=x/\x<nx/\H x=some (if L 11=true then [.int .i64 b.color,.int .i64 b.label] else [.int .i64 0,.int .i64 0])
 ne:L 8=true->L 9=true->T 11≠T 12
 d10:L 10=true->L 8=true
 d11:L 11=true->L 9=true
theorem mA{b:Bool}{k i:Nat}:(b || decide (k=i))=true↔b=true\/k=i:=by rw[lh,gI]
theorem jR{b:Bool}{k i:Nat}(h:k≠i):(b || decide (k=i))=b:=by rw[bL h,Bool.or_false]
section
variable{V:List (Nat×Nat×AV)}{a b:Vtx}{T0:Tm}{H0:Hp}{n0:Nat}{L:Nat->Bool}{T:Tm}{H:Hp}{nx:Nat}
theorem RtI.mono(h:RtI V a b T0 H0 n0 L T H nx){H':Hp}{nx':Nat}(hle:nx<=nx')(hs:∀x,x<nx->H' x=H x):RtI V a b T0 H0 n0 L T H' nx':=
 ⟨fA h.le hle,fun x hx=>(hs x (by have:=h.le; omega)).trans (h.same x hx),h.base,h.vals,fun q=>by
  obtain⟨x,x1,x2,x3,x4⟩:=h.a8 q;exact⟨x,x1,x2,by omega,(hs x x3).trans x4⟩,λq=>by
  obtain⟨x,x1,x2,x3,x4⟩:=h.a9 q;exact⟨x,x1,x2,by omega,(hs x x3).trans x4⟩,h.ne,h.d10,h.d11⟩
theorem RtI.setv(h:RtI V a b T0 H0 n0 L T H nx){i d:Nat}{x:AV}(hi:i<8)(hd:41<=d)(hv:∀e∈V,(e.2.1=d->e.2.2=x)/\(e.1=i->e.2.1=d)):RtI V a b T0 H0 n0 (λk=>L k || decide (k=i)) (aO T (some d) x) H nx:=by
 have hne:∀t,t≠d->aO T (some d) x t=T t:=λt ht=>if_neg ht;have e8:(L 8 || decide (8=i))=L 8:=jR (by omega);have e9:(L 9 || decide (9=i))=L 9:=jR (by omega);have e10:(L 10 || decide (10=i))=L 10:=jR (by omega);have e11:(L 11 || decide (11=i))=L 11:=jR (by omega);refine⟨h.le,h.same,λt ht=>?_,λe he hL=>?_,?_,?_,?_,?_,?_⟩
 ·have hb:=h.base t ht;rw[hne t λe=>?_,hb];subst e;simp only[Gk,fR,List.not_mem_nil,or_false] at ht;omega
 ·obtain⟨h1,h2⟩:=hv e he;by_cases hed:e.2.1=d
  ·rw[hed,h1 hed];exact if_pos rfl
  ·rw[hne _ hed];exact h.vals e he ((mA.1 hL).resolve_right λq=>hed (h2 q))
 ·rw[e8,e10,hne 11 (by omega)];exact h.a8
 ·rw[e9,e11,hne 12 (by omega)];exact h.a9
 ·rw[e8,e9,hne 11 (by omega),hne 12 (by omega)];exact h.ne
 ·rw[e8,e10];exact h.d10
 ·rw[e9,e11];exact h.d11
theorem vo{d:Nat}{x:AV}:aO T (some d) x d=x:=if_pos (rfl:d=d)
theorem nX{d t:Nat}{x:AV}(h:t≠d):aO T (some d) x t=T t:=if_neg h
theorem RtI.al8(hV:∀e∈V,e.1<8/\41<=e.2.1)(h:RtI V a b T0 H0 n0 L T H nx)(hL:L 8=false):RtI V a b T0 H0 n0 (λk=>L k || decide (k=8)) (aO T (some 11) (.ptr nx 2 0)) (ap H nx [.int .i64 0,.int .i64 0]) (nx+1):=by
 have h2:=h.mono (H':=ap H nx [.int .i64 0,.int .i64 0]) (nx':=nx+1) (by omega) (λx hx=>ab (by omega));have hle:=h.le;have e9:(L 9 || decide (9=8))=L 9:=jR (by omega);have e10:(L 10 || decide (10=8))=L 10:=jR (by omega);have e11:(L 11 || decide (11=8))=L 11:=jR (by omega);have f10:L 10=false:=Bool.eq_false_iff.2 λq=>by have:=h.d10 q;rw[hL] at this;cases this
 refine⟨h2.le,h2.same,λt ht=>?_,λe he hq=>?_,λ_=>⟨nx,vo,hle,by omega,by rw[e10,f10];exact ac⟩,?_,?_,λ_=>mA.2 (.inr rfl),?_⟩
 ·rw[nX λe=>?_]
  ·exact h.base t ht
  ·subst e;simp[Gk] at ht
 ·have hv:=hV e he;rw[nX (by omega)];exact h.vals e he ((mA.1 hq).resolve_right (by omega))
 ·rw[e9,e11,nX (by omega)];exact h2.a9
 ·rw[e9,nX (show 12≠11 by omega)];intro _ q e;obtain⟨y,y1,y2,y3,y4⟩:=h.a9 q;rw[y1,show aO T (some 11) (.ptr nx 2 0) 11=.ptr nx 2 0 from vo] at e;cases e;omega
 ·rw[e9,e11];exact h.d11
theorem RtI.al9(hV:∀e∈V,e.1<8/\41<=e.2.1)(h:RtI V a b T0 H0 n0 L T H nx)(hL:L 9=false):RtI V a b T0 H0 n0 (λk=>L k || decide (k=9)) (aO T (some 12) (.ptr nx 2 0)) (ap H nx [.int .i64 0,.int .i64 0]) (nx+1):=by
 have h2:=h.mono (H':=ap H nx [.int .i64 0,.int .i64 0]) (nx':=nx+1) (by omega) (λx hx=>ab (by omega));have hle:=h.le;have e8:(L 8 || decide (8=9))=L 8:=jR (by omega);have e10:(L 10 || decide (10=9))=L 10:=jR (by omega);have e11:(L 11 || decide (11=9))=L 11:=jR (by omega);have f11:L 11=false:=Bool.eq_false_iff.2 λq=>by have:=h.d11 q;rw[hL] at this;cases this
 refine⟨h2.le,h2.same,λt ht=>?_,λe he hq=>?_,?_,λ_=>⟨nx,vo,hle,by omega,by rw[e11,f11];exact ac⟩,?_,?_,λ_=>mA.2 (.inr rfl)⟩
 ·rw[nX λe=>?_]
  ·exact h.base t ht
  ·subst e;simp[Gk] at ht
 ·have hv:=hV e he;rw[nX (by omega)];exact h.vals e he ((mA.1 hq).resolve_right (by omega))
 ·rw[e8,e10,nX (by omega)];exact h2.a8
 ·rw[e8,nX (show 11≠12 by omega)];intro q _ e;obtain⟨y,y1,y2,y3,y4⟩:=h.a8 q;rw[y1,show aO T (some 12) (.ptr nx 2 0) 12=.ptr nx 2 0 from vo] at e;cases e;omega
 ·rw[e8,e10];exact h.d10
theorem RtI.st10(hV:∀e∈V,e.1<8/\41<=e.2.1)(h:RtI V a b T0 H0 n0 L T H nx)(h8:L 8=true)(h9:L 9=true){x:Nat}(hx:T 11=.ptr x 2 0):RtI V a b T0 H0 n0 (λk=>L k || decide (k=10)) T (ap H x [.int .i64 a.color,.int .i64 a.label]) nx:=by
 obtain⟨x',x1,x2,x3,x4⟩:=h.a8 h8;obtain⟨y,y1,y2,y3,y4⟩:=h.a9 h9;rw[hx] at x1;cases x1;have hxy:y≠x:=λe=>h.ne h8 h9 (by rw[hx,y1,e]);have e8:(L 8 || decide (8=10))=L 8:=jR (by omega);have e9:(L 9 || decide (9=10))=L 9:=jR (by omega);have e11:(L 11 || decide (11=10))=L 11:=jR (by omega);have e10:(L 10 || decide (10=10))=true:=mA.2 (.inr rfl);refine⟨h.le,λz hz=>by rw[ab (by omega)];exact h.same z hz,h.base,λe he hq=>h.vals e he ((mA.1 hq).resolve_right (by have:=hV e he;omega)),λ_=>⟨x,hx,x2,x3,by rw[e10];exact ac⟩,λ_=>⟨y,y1,y2,y3,by rw[e11,ab hxy];exact y4⟩,?_,λ_=>by rw[e8];exact h8,?_⟩
 ·rw[e8,e9];exact h.ne
 ·rw[e9,e11];exact h.d11
theorem RtI.st11(hV:∀e∈V,e.1<8/\41<=e.2.1)(h:RtI V a b T0 H0 n0 L T H nx)(h8:L 8=true)(h9:L 9=true){y:Nat}(hy:T 12=.ptr y 2 0):RtI V a b T0 H0 n0 (λk=>L k || decide (k=11)) T (ap H y [.int .i64 b.color,.int .i64 b.label]) nx:=by
 obtain⟨x,x1,x2,x3,x4⟩:=h.a8 h8;obtain⟨y',y1,y2,y3,y4⟩:=h.a9 h9;rw[hy] at y1;cases y1;have hxy:x≠y:=λe=>h.ne h8 h9 (by rw[x1,hy,e]);have e8:(L 8 || decide (8=11))=L 8:=jR (by omega);have e9:(L 9 || decide (9=11))=L 9:=jR (by omega);have e10:(L 10 || decide (10=11))=L 10:=jR (by omega);have e11:(L 11 || decide (11=11))=true:=mA.2 (.inr rfl);refine⟨h.le,λz hz=>by rw[ab (by omega)];exact h.same z hz,h.base,λe he hq=>h.vals e he ((mA.1 hq).resolve_right (by have:=hV e he;omega)),λ_=>⟨x,x1,x2,x3,by rw[e10,ab hxy];exact x4⟩,λ_=>⟨y,hy,y2,y3,by rw[e11];exact ac⟩,?_,?_,λ_=>by rw[e9];exact h9⟩
 ·rw[e8,e9];exact h.ne
 ·rw[e8,e10];exact h.d10
end
theorem Ee{u:UF}(hu:Forest u){s:Spx}{v:Vtx}{q:Nat}{T0:Tm}{H0:Hp}{n0:Nat}{K:CP}(hs0:0<s.length)(t6:T0 6=.func 36 [.ptr 2 1 0])(t8:T0 8=aC s)(t10:T0 10=.ptr q 2 0)(hq:q<n0)(gq:H0 q=some [.int .i64 v.color,.int .i64 v.label])(hn:3<=n0)
    (g1:H0 1=some [.omap (u.ks.map bQ) (u.vs.map bQ)]) (g2:H0 2=some [.mp 1])
    (k:∀T H nx x y,n0<=nx->(∀z,z<n0->H z=H0 z)->(∀t∈Gk,T t=T0 t)->T 11=.ptr x 2 0->T 12=.ptr y 2 0->n0<=x->x<nx->n0<=y->y<nx->H x=some [.int .i64 (u.rt (s.getD 0 default)).color,.int .i64 (u.rt (s.getD 0 default)).label]->H y=some [.int .i64 (u.rt v).color,.int .i64 (u.rt v).label]->K .normal T H nx):
    aG Tryz.prog (.anyI JD rtB) T0 H0 n0 K:=by
 have hV:∀e∈rtV (T0 6) s v (u.rt (s.getD 0 default)) (u.rt v),e.1<8/\41<=e.2.1:=by simp[rtV]
 refine KC (RtI (rtV (T0 6) s v (u.rt (s.getD 0 default)) (u.rt v)) (u.rt (s.getD 0 default)) (u.rt v) T0 H0 n0) ?_ ?_ ?_
 ·exact⟨ba _,λ_ _=>rfl,λ_ _=>rfl,λ_ _ h=>(by cases h),λh=>(by cases h),λh=>(by cases h),λh=>(by cases h),λh=>(by cases h),λh=>(by cases h)⟩
 ·intro i L T H nx hi hL hB hI;have hi:i<12:=hi;have b6:T 6=T0 6:=hI.base 6 (by decide);have b8:T 8=aC s:=(hI.base 8 (by decide)).trans t8;have b10:T 10=.ptr q 2 0:=(hI.base 10 (by decide)).trans t10;have hn0:=hI.le;have gq':=(hI.same q hq).trans gq;have g1':=(hI.same 1 (by omega)).trans g1;have g2':=(hI.same 2 (by omega)).trans g2;have ix0:cu 2 (aC s) (.int .i64 0)=some (.iptr [.int .i64 (s.getD 0 default).color,.int .i64 (s.getD 0 default).label] 0):=ix2 (k:=0) hs0;rcases(by omega:i=0\/i=1\/i=2\/i=3\/i=4\/i=5\/i=6\/i=7\/i=8\/i=9\/i=10\/i=11) with rfl|rfl|rfl|rfl|rfl|rfl|rfl|rfl|rfl|rfl|rfl|rfl
  all_goals simp only[JD,List.getD_cons_succ,List.getD_cons_zero]
  ·refine wnY @b6 ?_;exact hI.setv (by omega) (by omega) (by simp[rtV])
  ·refine wnY @b8 ?_;exact hI.setv (by omega) (by omega) (by simp[rtV])
  ·have h:=hI.vals (1,42,aC s) (by simp[rtV]) (hB 1 (by decide));refine wnY (aI @h @ix0) ?_;exact hI.setv (by omega) (by omega) (by simp[rtV])
  ·have h:=hI.vals (2,43,.iptr [.int .i64 (s.getD 0 default).color,.int .i64 (s.getD 0 default).label] 0) (by simp[rtV]) (hB 2 (by decide));refine wnY @h ?_;exact hI.setv (by omega) (by omega) (by simp[rtV,bQ])
  ·have h:=hI.vals (3,44,bQ (s.getD 0 default)) (by simp[rtV]) (hB 3 (by decide));have h2:=(hI.vals (0,41,T0 6) (by simp[rtV]) (hB 0 (by decide))).trans t6;refine aX (have zz:=@h2;evZ) (have zz:=@h;evZ) (BA u hu (s.getD 0 default) 2 1 H nx g2' g1' (by omega) (by omega)) ?_;rintro r H' nx' ⟨rfl,k1,k2⟩;refine iS ?_;exact(hI.mono (by omega) k2).setv (by omega) (by omega) (by simp[rtV])
  ·refine wnY @b6 ?_;exact hI.setv (by omega) (by omega) (by simp[rtV])
  ·refine wnY (aI @b10 @gq') ?_;exact hI.setv (by omega) (by omega) (by simp[rtV,bQ])
  ·have h:=hI.vals (6,47,bQ v) (by simp[rtV]) (hB 6 (by decide));have h2:=(hI.vals (5,46,T0 6) (by simp[rtV]) (hB 5 (by decide))).trans t6;refine aX (have zz:=@h2;evZ) (have zz:=@h;evZ) (BA u hu v 2 1 H nx g2' g1' (by omega) (by omega)) ?_;rintro r H' nx' ⟨rfl,k1,k2⟩;refine iS ?_;exact(hI.mono (by omega) k2).setv (by omega) (by omega) (by simp[rtV])
  ·refine wnY and_self ?_;exact hI.al8 hV hL
  ·refine wnY and_self ?_;exact hI.al9 hV hL
  ·have h8:=hB 8 (by decide);have h9:=hB 9 (by decide);obtain⟨x,x1,x2,x3,x4⟩:=hI.a8 h8;have h:=hI.vals (4,45,bQ (u.rt (s.getD 0 default))) (by simp[rtV]) (hB 4 (by decide));have x4:H x=some [.int .i64 0,.int .i64 0]:=by rw[x4,hL];rfl
   unfold bQ at h;refine wnY (zI3 @x1 @h @x4) ?_;exact hI.st10 hV h8 h9 x1
  ·have h8:=hB 8 (by decide);have h9:=hB 9 (by decide);obtain⟨x,x1,x2,x3,x4⟩:=hI.a9 h9;have h:=hI.vals (7,48,bQ (u.rt v)) (by simp[rtV]) (hB 7 (by decide));have x4:H x=some [.int .i64 0,.int .i64 0]:=by rw[x4,hL];rfl
   unfold bQ at h;refine wnY (zI3 @x1 @h @x4) ?_;exact hI.st11 hV h8 h9 x1
 ·intro L T H nx hall hI;obtain⟨x,x1,x2,x3,x4⟩:=hI.a8 (hall 8 (by decide));obtain⟨y,y1,y2,y3,y4⟩:=hI.a9 (hall 9 (by decide));rw[hall 10 (by decide)] at x4;rw[hall 11 (by decide)] at y4;exact k T H nx x y hI.le hI.same hI.base x1 y1 x2 x3 y2 y3 x4 y4
theorem yg(c:List Spx)(hc:eg c=0)(hl:c.length<=5000):pU 14 [kP c] (.tup [aD (lC (fW c)),.int .i64 0]):=by
 refine pO Qc ?_;simp only[b14,av];obtain⟨p1,p2,p3,p4⟩:=i5 hc;have hch:=A8 c (show _<=_ by omega) (λs hs=>show _<=_ by have:=(eX (p2 s hs)).2.1;omega);rw[hc] at hch;have z0:decide ((0:Int)≠0)=false:=rfl;refine wnY (zI3 @bM @bu @z0) ?_;refine pY ?_
 skip
 refine ye (cs:=[.nilm]) rfl rfl rfl ?_;refine wnY @aU ?_;have q0:ap (ap (ap (ap bK 0 [be c]) (0+1) [AV.omap [] []]) (0+1+1) [.nilm]) (0+1+1) (bw [.nilm] 0 [.mp (0+1)]) 0=some [be c]:=by rw[ab (by omega),ab (by omega),ab (by omega),ac]
 have q1:ap (ap (ap (ap bK 0 [be c]) (0+1) [AV.omap [] []]) (0+1+1) [.nilm]) (0+1+1) (bw [.nilm] 0 [.mp (0+1)]) 1=some [.omap [] []]:=by rw[ab (by omega),ab (by omega),ac]
 have q2:ap (ap (ap (ap bK 0 [be c]) (0+1) [AV.omap [] []]) (0+1+1) [.nilm]) (0+1+1) (bw [.nilm] 0 [.mp (0+1)]) 2=some [.mp 1]:=ac;generalize ap (ap (ap (ap bK 0 [be c]) (0+1) [AV.omap [] []]) (0+1+1) [.nilm]) (0+1+1) (bw [.nilm] 0 [.mp (0+1)])=HH at *;refine lpI (X:=Nat) (λi=>[(1,.ptr 0 1 0),(5,.ptr 2 1 0),(6,.func 36 [.ptr 2 1 0]),(28,be c),(29,.int .i64 c.length),(30,.int .i64 i)]) (λi H nx=>i<=c.length/\3<=nx/\H 0=some [be c]/\H 1=some [.omap ((ufL (cS (c.take i))).ks.map bQ) ((ufL (cS (c.take i))).vs.map bQ)]/\H 2=some [.mp 1]) (λi=>c.length-i) 0 ⟨bA _,by omega,q0,q1,q2⟩ ?_;clear q0 q1 q2;rintro i H nx ⟨h1,hn,g0,g1,g2⟩;by_cases hi:i<c.length
 ·have ix:=oL hi;obtain⟨s1,s2,s3,-⟩:=eX (p2 _ (cr hi));have hps:=zG hi;generalize c.getD i default=s at *;have sl:lq 2 (aC s) (some (.int .i64 1)) none none=some (aC (s.drop 1)):=pM (k:=1) (by omega);have g1':H 1=some [.omap ((ufL (cS (c.take i)++(ij s).take 0)).ks.map bQ) ((ufL (cS (c.take i)++(ij s).take 0)).vs.map bQ)]:=by rw[List.take_zero,gH];exact g1
  clear g1;refine wnY (zI3 @ix @sl @aL) ?_;refine lpI (X:=Nat) (λj=>[(1,.ptr 0 1 0),(5,.ptr 2 1 0),(6,.func 36 [.ptr 2 1 0]),(28,be c),(29,.int .i64 c.length),(30,.int .i64 i),(8,aC s),(35,aC (s.drop 1)),(36,.int .i64 (s.drop 1).length),(37,.int .i64 j)]) (λj H nx=>j<=(s.drop 1).length/\3<=nx/\H 0=some [be c]/\H 1=some [.omap ((ufL (cS (c.take i)++(ij s).take j)).ks.map bQ) ((ufL (cS (c.take i)++(ij s).take j)).vs.map bQ)]/\H 2=some [.mp 1]) (λj=>(s.drop 1).length-j) 0 ⟨bA _,hn,g0,g1',g2⟩ ?_;clear g0 g1' g2 hn;rintro j H nx ⟨h2,hn,g0,g1,g2⟩;have hpl:(ij s).length=(s.drop 1).length:=by unfold ij;rw[bC]
  by_cases hj:j<(s.drop 1).length
  rotate_left
  ·obtain rfl:j=(s.drop 1).length:=by omega
   rw[iW (l:=ij s) (by omega),<-hps] at g1;refine wnY and_self ?_;exact⟨i+1,by omega,⟨by omega,hn,g0,g1,g2⟩,ag0⟩
  have hjb:j<8:=by rw[rH] at hj;omega
  have iy:=ix2 hj
  have hsn:ufL (cS (c.take i)++(ij s).take (j+1))=gp (ufL (cS (c.take i)++(ij s).take j)) (s.getD 0 default,(s.drop 1).getD j default):=by
   rw[bO (by omega),<-gK,F5]
   congr 1
   unfold ij;simp only[li,jJ,rQ hj,lK,sW]
  have hu:=tV (cS (c.take i)++(ij s).take j);generalize ufL (cS (c.take i)++(ij s).take j)=u at *;generalize (s.drop 1).getD j default=v at *;refine wnY @iy ?_;have f0:ap (ap H nx [.int .i64 0,.int .i64 0]) nx (bw [.int .i64 0,.int .i64 0] 0 [.int .i64 v.color,.int .i64 v.label]) 0=some [be c]:=by rw[ab (by omega),ab (by omega)];exact g0
  have f1:ap (ap H nx [.int .i64 0,.int .i64 0]) nx (bw [.int .i64 0,.int .i64 0] 0 [.int .i64 v.color,.int .i64 v.label]) 1=some [.omap (u.ks.map bQ) (u.vs.map bQ)]:=by rw[ab (by omega),ab (by omega)];exact g1
  have f2:ap (ap H nx [.int .i64 0,.int .i64 0]) nx (bw [.int .i64 0,.int .i64 0] 0 [.int .i64 v.color,.int .i64 v.label]) 2=some [.mp 1]:=by rw[ab (by omega),ab (by omega)];exact g2
  have fq:ap (ap H nx [.int .i64 0,.int .i64 0]) nx (bw [.int .i64 0,.int .i64 0] 0 [.int .i64 v.color,.int .i64 v.label]) nx=some [.int .i64 v.color,.int .i64 v.label]:=by rw[ac];rfl
  generalize ap (ap H nx [.int .i64 0,.int .i64 0]) nx (bw [.int .i64 0,.int .i64 0] 0 [.int .i64 v.color,.int .i64 v.label])=HH at *;refine Ee (s:=s) (v:=v) (q:=nx) hu s1 ev0 ev0 ev0 (by omega) fq (by omega) f1 f2 ?_;intro T H2 nx2 x y k1 k2 k3 k4 k5 k6 k7 k8 k9 k10 k11;have t1:T 1=.ptr 0 1 0:=(k3 1 (by decide)).trans ev0;have t5:T 5=.ptr 2 1 0:=(k3 5 (by decide)).trans ev0;have t6:T 6=.func 36 [.ptr 2 1 0]:=(k3 6 (by decide)).trans ev0;have t8:T 8=aC s:=(k3 8 (by decide)).trans ev0;have t28:T 28=be c:=(k3 28 (by decide)).trans ev0;have t29:T 29=.int .i64 c.length:=(k3 29 (by decide)).trans ev0;have t30:T 30=.int .i64 i:=(k3 30 (by decide)).trans ev0;have t35:T 35=aC (s.drop 1):=(k3 35 (by decide)).trans ev0;have t36:T 36=.int .i64 (s.drop 1).length:=(k3 36 (by decide)).trans ev0;have t37:T 37=.int .i64 j:=(k3 37 (by decide)).trans ev0;have r0:=(k2 0 (by omega)).trans f0;have r1:=(k2 1 (by omega)).trans f1;have r2:=(k2 2 (by omega)).trans f2;clear k3 f0 f1 f2 fq g0 g1 g2;have hta:=hu.top (s.getD 0 default)
  have hcm:gP .neq [.int,.int] [.int .i64 (u.rt (s.getD 0 default)).color,.int .i64 (u.rt (s.getD 0 default)).label] [.int .i64 (u.rt v).color,.int .i64 (u.rt v).label]=some (.bool (!decide (u.rt (s.getD 0 default)=u.rt v))):=by
   rw[acn];generalize u.rt (s.getD 0 default)=a;generalize u.rt v=b;cases a;cases b;simp
  unfold gp at hsn;dsimp only at hsn;by_cases hab:u.rt (s.getD 0 default)=u.rt v
  ·rw[if_pos hab] at hsn;rw[bH hab] at hcm;refine wnY (aI @t5 (aI @t6 (aI @t8 (aI @t28 (fI @t29 @t30 @t35 @t36 @t37 @k4 @k5 @k10 @k11 @hcm))))) ?_;exact⟨j+1,by omega,⟨by omega,by omega,r0,by rw[hsn];exact r1,r2⟩,(have zz:=aI @t1 (aI @t5 (aI @t6 (aI @t8 (aI @t28 (aI @t29 (aI @t30 (aI @t35 (aI @t36 @t37))))))));agZ)⟩
  ·rw[if_neg hab] at hsn;rw[bL hab] at hcm;have hmf:=pi (u.rt (s.getD 0 default)) u.ks;rw[if_neg hta] at hmf;generalize u.rt (s.getD 0 default)=a at *;generalize u.rt v=b at *;unfold bQ at hmf;refine wnY (aI @t5 (aI @t6 (aI @t8 (aI @t28 (aI @t29 (fI @t30 @t35 @t36 @t37 @k4 @k5 @k10 @k11 @hcm @r2)))))) ?_;refine l7 ev0 r1 ev0 ev0 (nj a) hmf ?_
   have r1':ap H2 1 [.omap (eC (.agg [.int .i64 a.color,.int .i64 a.label]) none (u.ks.map bQ)) (mF (.agg [.int .i64 b.color,.int .i64 b.label]) none (u.vs.map bQ))] 1=some [.omap ((u.ks++[a]).map bQ) ((u.vs++[b]).map bQ)]:=by
    rw[ac,du,du];rfl
   refine wnY (fI @t1 @t5 @t6 @t8 @t28 @t29 @t30 @t35 @t36 @t37) ?_;exact⟨j+1,by omega,⟨by omega,by omega,by rw[ab (by omega)];exact r0,by rw[hsn];exact r1',by rw[ab (by omega)];exact r2⟩,(have zz:=aI @t1 (aI @t5 (aI @t6 (aI @t8 (aI @t28 (aI @t29 (aI @t30 (aI @t35 (aI @t36 @t37))))))));agZ)⟩
 obtain rfl:i=c.length:=by omega
 rw[List.take_length] at g1;have hu:=tV (cS c);have hrl:(rtL c).length=c.length:=by unfold rtL;rw[bC]
 have hrg:∀i,i<c.length->(rtL c).getD i default=(ufL (cS c)).rt ((c.getD i default).getD 0 default):=λi hi=>by
  unfold rtL;simp only[li,jJ,rQ hi,lK,sW]
 unfold fW;generalize rtL c=l at *;generalize ufL (cS c)=u at *;refine wnY and_self ?_;refine pY ?_;refine wnY (aI @aU @g0) ?_;have q0:ap H nx [AV.omap [] []] 0=some [be c]:=by rw[ab (by omega)];exact g0
 have q1:ap H nx [AV.omap [] []] 1=some [.omap (u.ks.map bQ) (u.vs.map bQ)]:=by rw[ab (by omega)];exact g1
 have q2:ap H nx [AV.omap [] []] 2=some [.mp 1]:=by rw[ab (by omega)];exact g2
 have qm:ap H nx [AV.omap [] []] nx=some [.omap [] []]:=ac;generalize ap H nx [AV.omap [] []]=HH at *;clear g0 g1 g2;refine lpI (X:=Nat×AV) (λx=>[(1,.ptr 0 1 0),(6,.func 36 [.ptr 2 1 0]),(13,.mp nx),(14,x.2),(59,be c),(60,.int .i64 c.length),(61,.int .i64 x.1)]) (λx H' nx'=>x.1<=c.length/\nx<nx'/\H' 0=some [be c]/\H' 1=some [.omap (u.ks.map bQ) (u.vs.map bQ)]/\H' 2=some [.mp 1]/\H' nx=some [.omap ((nsF (l.take x.1)).map bQ) ((List.range (nsF (l.take x.1)).length).map λ(k:Nat)=>.int .i64 (k:Int))]/\Row H' 1 x.2 (((nsI l).take x.1).map BJ)/\∀b,bk x.2=some b->nx<b/\b<nx') (λx=>c.length-x.1) (0,.esl) ⟨bA _,by omega,q0,q1,q2,qm,.nil,λb h=>(by cases h)⟩ ?_;clear q0 q1 q2 qm;rintro⟨i,sv⟩ H nx1 ⟨h1,hn1,g0,g1,g2,gm,hrow,hb⟩;dsimp only at h1 gm hrow hb |-;by_cases hi:i<c.length
 rotate_left
 ·obtain rfl:i=c.length:=by omega
  rw[iW (l:=nsI l) (by unfold nsI;rw[bC];omega)] at hrow;refine wnY and_self ?_;exact cR (af (xo hrow) (af (.int _ _) ai))
 have ix:=oL hi;have hw:=hrg i hi;obtain⟨s1,s2,s3,-⟩:=eX (p2 _ (cr hi));obtain⟨n1,n2⟩:=Kg (l:=l) (i:=i) (by omega);have n3:=Gb (l:=l) (i:=i) (by omega);have n4:nsF (l.take (i+1))=if l.getD i default∈nsF (l.take i) then nsF (l.take i) else nsF (l.take i)++[l.getD i default]:=by rw[bO (by omega),zl]
 have hNl:(nsF (l.take i)).length<=i:=fA (I6 _) (List.length_take_le _ _);rw[hw] at n1 n2 n3 n4;rw[<-n1] at n3;generalize (nsF l).idxOf _=dd at *;generalize hN':nsF (l.take (i+1))=N' at *;generalize nsF (l.take i)=N at *;generalize (nsI l).take i=P at *;generalize c.getD i default=s at *;have ix0:cu 2 (aC s) (.int .i64 0)=some (.iptr [.int .i64 (s.getD 0 default).color,.int .i64 (s.getD 0 default).label] 0):=ix2 (k:=0) s1;have hrc:=BA u hu (s.getD 0 default) 2 1 H nx1 g2 g1 (by omega) (by omega);unfold bQ at hrc;refine wnY (aI @ix @ix0) ?_;refine aX ev0 ev0 hrc ?_;rintro r H2 nx2 ⟨rfl,k1,k2⟩
 have hvg:∀(M:List Vtx)(x:Vtx),x∈M->((List.range M.length).map λ(k:Nat)=>AV.int .i64 (k:Int)).getD (M.idxOf x) .undef=.int .i64 (M.idxOf x:Nat):=λM x h=>by
  simp[List.getD,List.idxOf_lt_length_of_mem h]
 generalize u.rt (s.getD 0 default)=w at *
 repeat' (first|apply a_n|refine zO ?_|refine alY ?_|refine stY ?_|fail)
 have f:∀x,x<nx1->ap (ap H2 nx2 [.int .i64 0,.int .i64 0]) nx2 (bw [.int .i64 0,.int .i64 0] 0 [.int .i64 w.color,.int .i64 w.label]) x=H x:=λx hx=>by rw[ab (by omega),ab (by omega)];exact k2 x hx
 have fw:ap (ap H2 nx2 [.int .i64 0,.int .i64 0]) nx2 (bw [.int .i64 0,.int .i64 0] 0 [.int .i64 w.color,.int .i64 w.label]) nx2=some [.int .i64 w.color,.int .i64 w.label]:=by rw[ac];rfl
 generalize ap (ap H2 nx2 [.int .i64 0,.int .i64 0]) nx2 (bw [.int .i64 0,.int .i64 0] 0 [.int .i64 w.color,.int .i64 w.label])=H3 at *;have f0:=(f 0 (by omega)).trans g0;have f1:=(f 1 (by omega)).trans g1;have f2:=(f 2 (by omega)).trans g2;have fm:=(f nx (by omega)).trans gm;have hrow3:=hrow.same (H':=H3) λb h=>f b (by have:=hb b h;omega);have hmf:=pi w N;unfold bQ at hmf;refine db (λT H nx'=>T 1=.ptr 0 1 0/\T 6=.func 36 [.ptr 2 1 0]/\T 13=.mp nx/\T 14=sv/\T 17=.ptr nx2 2 0/\T 59=be c/\T 60=.int .i64 c.length/\T 61=.int .i64 i/\nx'=nx2+1/\H nx=some [.omap (N'.map bQ) ((List.range N'.length).map λ(k:Nat)=>.int .i64 (k:Int))]/\∀x,x≠nx->H x=H3 x) ?_ ?_
 ·by_cases hwN:w∈N
  ·rw[if_pos hwN] at hmf n4;refine wnY @fw ?_;refine fC ev0 fm ev0 (nj w) hmf ?_;rw[show ∀V,mget (AV.int IntKind.i64 0) true (some (N.idxOf w)) V=.tup [V.getD (N.idxOf w) .undef,.bool true] from λ_=>rfl,hvg N w hwN];refine wnY and_self ?_;exact⟨rfl,rfl,rfl,rfl,rfl,rfl,rfl,rfl,rfl,by rw[n4];exact fm,λ_ _=>rfl⟩
  ·rw[if_neg hwN] at hmf n4;refine wnY @fw ?_;refine fC ev0 fm ev0 (nj w) hmf ?_;rw[show ∀V,mget (AV.int IntKind.i64 0) true none V=.tup [AV.int IntKind.i64 0,.bool false] from λ_=>rfl];refine wnY @fw ?_;refine Ga ev0 fm ?_;rw[bC];refine l7 ev0 fm ev0 ev0 (nj w) hmf ?_;refine wnY and_self ?_;refine⟨rfl,rfl,rfl,rfl,rfl,rfl,rfl,rfl,rfl,?_,λx hx=>ab hx⟩;rw[ac,n4,du,cm,List.length_singleton,List.range_succ,du];rfl
 rintro T H4 nx4 ⟨t1,t6,t13,t14,t17,t59,t60,t61,rfl,m1,m2⟩;have hmf':=pi w N';rw[if_pos n2] at hmf';unfold bQ at hmf';have m3:=(m2 nx2 (by omega)).trans fw;refine wnY (zI9 @t1 @t6 @t13 @t14 @t17 @t59 @t60 @t61 @m3) ?_;refine fC ev0 m1 ev0 (nj w) hmf' ?_;rw[show ∀V,mget (AV.int IntKind.i64 0) false (some (N'.idxOf w)) V=V.getD (N'.idxOf w) .undef from λ_=>rfl,hvg N' w n2];refine wnY (zI8 @t1 @t6 @t13 @t14 @t17 @t59 @t60 @t61) ?_
 have hbl:∀b,bk sv=some b->ap H4 (nx2+1) [.int .i64 (N'.idxOf w:Nat)] b=H3 b:=λb h=>by
  have:=hb b h;rw[ab (by omega)];exact m2 b (by omega)
 have hPl:P.length<=5000:=by
  have:=congrArg List.length n3;rw[jg,cm,List.length_singleton] at this;omega
 refine ef (k:=1) (new:=[.int .i64 (N'.idxOf w:Nat)]) rfl ev0 (hrow3.same hbl) ev0 lY rfl rfl ig (by rw[bC];omega) (by rw[bC];omega) ?_;rintro sv' H5 nx5 e1 e2 e3 e4 e5;have q:∀x,x<nx1->x≠nx->bk sv≠some x->H5 x=H x:=λx hx hn h=>((e4 x (by omega) h).trans (ab (by omega))).trans ((m2 x hn).trans (f x hx));have nb:∀x,x<=nx->bk sv≠some x:=λx hx h=>by have:=(hb x h).1;omega
 refine wnY (zI6 @t1 @t6 @t13 @t59 @t60 @t61) ?_;refine⟨(i+1,sv'),by dsimp only;omega,⟨by dsimp only;omega,by omega,(q 0 (by omega) (by omega) (nb 0 (by omega))).trans g0,(q 1 (by omega) (by omega) (nb 1 (by omega))).trans g1,(q 2 (by omega) (by omega) (nb 2 (by omega))).trans g2,?_,?_,λb h=>?_⟩,(have zz:=aI @t1 (aI @t6 (aI @t13 (aI @t59 (aI @t60 @t61))));agZ)⟩
 ·dsimp only;rw[hN',e4 nx (by omega) (nb nx (ba _)),ab (by omega)];exact m1
 ·dsimp only;rw[n3,du];exact e1
 ·rcases e5 b h with h|h
  ·have:=hb b h;omega
  ·omega
end
end Go.Proofs.YtmpcledaoigkaaaGreat
namespace Go.Proofs.YtmpcledaoigkaaaGreat
open Go Go.Abs Tk
section
attribute [local irreducible] aG ah bg aQ aH aK ay aN aR bq Go.Abs.Fn aP Go.Abs.Pure ak aF Yl
theorem vt(p:PrbV)(hs:ShP p)(w0 w1:Nat)(hw0:w0<256)(hw1:w1<256):pU 4 [cT p,.agg [.int .u8 w0,.int .u8 w1]] (.bool true):=by
 refine pO is4 ?_;simp only[b4,av];have ha:=DU;have hd:=fh p;cases hr:iI p with
 |false=>
  have hz:=zK p hs hr;unfold DE at hz;unfold cT at hd hz |-;rw[PC.2.2.2.2.1] at hd hz |-;refine wnY (zI3 @PE @bM @bu) ?_;exact .bool _
 |true=>
 have hok:=v9 hs hr;have hz:=Bj p hs hr hok;have hco:=w7 p hok;obtain⟨c0,c60⟩:=Jd hok;have hcc:=yg (iZ p) c0 (by omega);have hci:=λH nx=>qf p hok H nx;obtain⟨s1,s2,s3,s4⟩:=jo p hok;have hfl:=ke p;have hsl:=lM p;have hds:=eO (bG p);have hsg:=λs(h:s∈neS (ez p))=>rz hok h;have hab:=λs(h:s∈ez p)(h2:s≠[])=>xC hok h h2;have hcl:=λa b i k ha hb hi hk na nb sa sb=>BB (p:=p) hok (a:=a) (b:=b) (i:=i) (k:=k) ha hb hi hk na nb sa sb;have hce:=λa b hc he=>FK (p:=p) hok (a:=a) (b:=b) hc he;have hgm:=λx hx=>AN (p:=p) (x:=x) hx;have hPlen:=oD (iZ p);have hFs:=(i5 c0).2.1;rw[show fZ (bG p)=.agg (bG p).cs from rfl,PC.2.2.2.2.2.2.2] at hz hco hci hds;unfold cT at hd hz |-;rw[PC.2.2.2.2.1] at hd hz |-;unfold kP at hco hcc;generalize lC (fW (iZ p))=P at *;generalize iZ p=F at *;generalize ez p=l at *;generalize dH p=L at *;have hL0:0<l.length:=by omega
 have hrm:∀(w:Nat)(tb tf:Bool),bo .rem tb tf (.int .i64 (w:Int)) (.int .i64 (l.length:Int))=some (.int .i64 ((w%l.length:Nat):Int)):=λw tb tf=>(yl (by omega) (by omega)).trans (by rw[Int.natCast_emod]);have hr0:=hrm w0;have hr1:=hrm w1;have hal:=Nat.mod_lt w0 hL0;have hbl:=Nat.mod_lt w1 hL0;generalize w0%l.length=a at *;generalize w1%l.length=b at *;clear hrm;have cv0:IntKind.wrap .i64 (w0:Int)=w0:=jK (by omega) (by omega);have cv1:IntKind.wrap .i64 (w1:Int)=w1:=jK (by omega) (by omega);refine wnY (zI9 @PE @IX2 @bM @bu @aU @hr0 @hr1 @cv0 @cv1) ?_;refine aX ev0 ev0 (hci _ _) ?_;rintro _ H1 n1 ⟨m1,fr1,lk,rfl,hP1,hP2,hP3⟩;have k3:H1 3=some [be F]:=(fr1 3 (by omega)).trans (by simp (disch:=omega) only[ab,ac];rfl);clear fr1 hci hco hcc hz hds hd;have z1:decide ((P.length:Int)≠F.length)=false:=bL (by omega);have z2:decide ((lk.length:Int)≠l.length)=false:=bL (by omega);have ixa:=oL hal;have ixb:=oL hbl
 have hix:∀(V:List Int)(k:Nat),k<V.length->cu 1 (aD V) (.int .i64 (k:Int))=some (.iptr [.int .i64 (V.getD k 0)] 0):=λV k h=>by
  have:=l9 (l:=V) (n:=(k:Int)) (by omega) (by omega)
  rwa [bR] at this
 have ila:=hix lk a (by omega);have ilb:=hix lk b (by omega);have hgd:∀k,l.getD k default=l.getD k []:=λ_=>rfl;by_cases he:(l.getD a [])=[]\/(l.getD b [])=[]
 ·have hx:a≠b->lk.getD a 0≠lk.getD b 0:=λhab e=>hab (hce a b ((hP3 a b (by omega) (by omega)).1 e) he);have fin:∀(ea eb:Bool),decide (((l.getD a default).length:Int)=0)=ea->decide (((l.getD b default).length:Int)=0)=eb->(ea || eb)=true->True:=λ_ _ _ _ _=>trivial
  have za:decide (((l.getD a default).length:Int)=0)=true\/(decide (((l.getD a default).length:Int)=0)=false/\decide (((l.getD b default).length:Int)=0)=true):=by
   by_cases q:(l.getD a [])=[]
   ·exact .inl (bH (by rw[hgd,q];rfl))
   ·exact .inr ⟨bL (λh=>q (eG.1 (by rw[hgd] at h;omega))),bH (by rw[hgd,he.resolve_left q];rfl)⟩
  generalize l.getD a default=sa at *;generalize l.getD b default=sb at *;generalize lk.getD a 0=la at *;generalize lk.getD b 0=lb at *;rcases za with za|⟨za,zb⟩
  ·by_cases hab2:a=b
   ·have z3:decide ((a:Int)=b)=true:=bH (by omega);refine wnY (aI @PE (aI @bM (aI @bu (aI @aU (fI @aL @k3 @z1 @z2 @z3 @za @ixa @ixb @ila @ilb))))) ?_;exact .bool _
   ·have z3:decide ((a:Int)=b)=false:=bL (by omega);have z4:decide (la≠lb)=true:=bH (hx hab2);refine wnY (aI @PE (aI @bM (aI @bu (aI @aU (aI @aL (fI @k3 @z1 @z2 @z3 @z4 @za @ixa @ixb @ila @ilb)))))) ?_;exact .bool _
  ·by_cases hab2:a=b
   ·have z3:decide ((a:Int)=b)=true:=bH (by omega);refine wnY (aI @PE (aI @bM (aI @bu (aI @aU (aI @aL (fI @k3 @z1 @z2 @z3 @za @zb @ixa @ixb @ila @ilb)))))) ?_;exact .bool _
   ·have z3:decide ((a:Int)=b)=false:=bL (by omega);have z4:decide (la≠lb)=true:=bH (hx hab2);refine wnY (aI @PE (aI @bM (aI @bu (aI @aU (aI @aL (aI @k3 (fI @z1 @z2 @z3 @z4 @za @zb @ixa @ixb @ila @ilb))))))) ?_;exact .bool _
 have na:l.getD a []≠[]:=λe=>he (.inl e);have nb:l.getD b []≠[]:=λe=>he (.inr e);have za:decide (((l.getD a default).length:Int)=0)=false:=bL (λh=>na (eG.1 (by rw[hgd] at h;omega)));have zb:decide (((l.getD b default).length:Int)=0)=false:=bL (λh=>nb (eG.1 (by rw[hgd] at h;omega)))
 have fac:∀x,x<l.length->l.getD x []≠[]->∃i,i<F.length/\(∀v∈l.getD x [],v∈F.getD i default)/\pU 16 [aC (l.getD x default),.iptr [be F] 0] (.int .i64 (i:Nat)):=λx hx hn=>by
  have hm:=hgm x (by omega);obtain⟨t,t1,t2⟩:=hab _ hm hn;have hA:F.any (d7 (l.getD x []))=true:=kW.2 ⟨t,t1,iu.2 t2⟩;have hi:F.findIdx (d7 (l.getD x []))<F.length:=List.findIdx_lt_length_of_exists ⟨t,t1,iu.2 t2⟩;have h:=G6 (l.getD x []) F (hsg _ (tE.2 ⟨hm,hn⟩)) hFs (show F.length<=_ by omega);rw[if_pos hA] at h;refine⟨_,hi,?_,h⟩;have q:=List.findIdx_getElem (w:=hi);have e:F.getD (F.findIdx (d7 (l.getD x []))) default=F[F.findIdx (d7 (l.getD x []))]:=by rw[li,rQ hi];rfl
  rw[e];exact iu.1 q
 obtain⟨i,hi,si,ci⟩:=fac a hal na;obtain⟨k,hk,sk,ck⟩:=fac b hbl nb;have hiff:=(hcl a b i k (by omega) (by omega) hi hk na nb si sk).trans (hP3 a b (by omega) (by omega)).symm;have ipi:=hix P i (by omega);have ipk:=hix P k (by omega);have z5:decide ((i:Int)≥0)=true:=bH (by omega);have z6:decide ((k:Int)≥0)=true:=bH (by omega);have z7:decide (P.getD i 0=P.getD k 0)=decide (lk.getD a 0=lk.getD b 0):=decide_eq_decide.2 hiff;refine wkY (aI @PE (aI @bM (aI @bu (aI @aU (fI @aL @k3 @z1 @z2 @za @zb @ixa @ixb @ila @ilb))))) ?_;refine dE ev0 ev0 ci (aB (af (bX _ _) (af (dY k3 rfl (af (cU _ _) ai)) ai)) rfl) ?_;refine wnY (zI8 @PE @bM @bu @aU @aL @k3 @ixa @ixb) ?_;refine dE ev0 ev0 ck (aB (af (bX _ _) (af (dY k3 rfl (af (cU _ _) ai)) ai)) rfl) ?_;refine wnY (aI @PE (aI @bM (fI @bu @aU @aL @k3 @z5 @z6 @ipi @ipk @ila @ilb))) ?_;exact cq (by rw[z7];exact beq_self_eq_true _)
end
theorem tu(p:PrbV)(hs:ShP p)(l:List Int)(h:l.length=2/\∀a∈l,(Lit.int .u8 a).wf=true):pU 4 [cT p,.agg (l.flatMap λa=>(AV.int .u8 a).cells)] (.bool true):=by
 obtain⟨h1,h2⟩:=h
 match l,h1,h2 with
 |[a,b],_,h2=>
  obtain⟨x,rfl,hx⟩:=Pa (h2 a (jZ ..));obtain⟨y,rfl,hy⟩:=Pa (h2 b (pF _ (jZ ..)));exact vt p hs x y hx hy
end Go.Proofs.YtmpcledaoigkaaaGreat
namespace Go.Proofs.YtmpcledaoigkaaaGreat
open Go Go.Abs Go.RowKit Go.ChangeShapes Go.WideShapes Go.ChangeAt
theorem wq{H:Type}{enc:TypeId×Value->H}{P:Program}{f:Func}{s:ChangeSpec}{apart fresh handsOn again:Bool}{W W':World}{args:Array Value}{v:Value}{ds gs:List (DataW H)}{before pa pv:List MemPlace}
    (hW:DataW.Whole enc P f.params.toList s.vars apart W args.toList ds gs before)
    (hres:∀(b:Nat)(sp:Nat->Bool)(hd:Bool),DataW.TrodAll enc P W' b sp hd f.resultTypes.toList (v.resultList f.resultTypes.size) (s.fn H (ds++gs)).results [])
    (hargs:∀sp:Nat->Bool,(∀p∈before,sp p.block=true)->DataW.TrodAll enc P W' 0 sp true f.params.toList args.toList (s.fn H (ds++gs)).args pa)
    (hvars:∀sp:Nat->Bool,(∀p∈before,sp p.block=true)->DataW.TrodVars enc P W' sp s.vars (s.fn H (ds++gs)).vars pv)
    (hps:before=pa++pv) (hb:Below W.heap.size W W')
    (hok:∀(j:Nat)(t:TypeId)(r:Value),f.resultTypes[j]?=some t->(v.resultList f.resultTypes.size)[j]?=some r->Value.okWide P W' .any 0 t r):
    s.post enc P f apart fresh handsOn again W args v W':=by
 have hold:∀p∈before,(λb=>decide (b<W.heap.size)) p.block=true:=λp hp=>by simpa using hW.lt p hp
 have hlt:=λp hp=>hW.lt p hp;refine⟨ds,gs,before,[],pa,pv,hW,hres _ _ _,hargs _ hold,hvars _ hold,World.keptBut_mono (λp hp=>⟨hp,?_⟩) (hb.frame _),λ_=>?_⟩
 ·rw[hps,gV] at hp;exact Or.inr hp
 ·obtain⟨_,_,_,_,_,hz,hn⟩:=hW;refine⟨hok,_,_,([]++pa)++pv,⟨[]++pa,pv,trodAll_append (hargs _ (λ_ _=>rfl)) (hres _ _ _),hvars _ (λ_ _=>rfl),rfl,?_,?_⟩,?_⟩
  ·intro b off hp;have hp':MemPlace.cell b off∈before:=by rw[hps];simpa using hp
   rw[hb.frozen (hlt _ hp')];exact hz b off hp'
  ·intro ha;have:=hn ha;rw[hps] at this;simpa using this
  ·intro p hp _;rw[hps];simpa using hp
theorem Fq{E:Env}{w:World}:dM E w [] []:=⟨rfl,λi x y h=>(by cases h)⟩
theorem xH{E:Env}{w:World}{x:AV}{y:Value}{xs:List AV}{ys:List Value}(h:Rel E w x y)(hs:dM E w xs ys):dM E w (x::xs) (y::ys):=by
 refine⟨by simp[hs.1],λi a b ha hb=>?_⟩;cases i with
 |zero=>simp at ha hb;subst ha hb;exact h
 |succ i=>simp at ha hb;exact hs.2 i a b ha hb
theorem own:ownKnob Tryz.prog.godebug=none:=by kernel_rfl
end Go.Proofs.YtmpcledaoigkaaaGreat
