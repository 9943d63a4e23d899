/- Contracts of functions and plain laws, for all inputs that the theorems name. -/
import Derived.Test.YtekdaafnjdlenaaGreatXG3

set_option linter.unusedSimpArgs false
set_option linter.unusedVariables false
set_option maxHeartbeats 4000000
namespace Go.Proofs.YtekdaafnjdlenaaGreat
open Go Go.Abs
open Nat (reduceEqDiff reduceAdd reduceLeDiff)
theorem zj{α:Type}[Inhabited α]{l:List α}{p:α->Bool}{k:Nat}(hk:k<l.length)(h:∀i,i<k->p (l.getD i default)=false)(hv:p (l.getD k default)=true):l.any p=true/\l.findIdx p=k:=by
 have e:l.getD k default=l[k]:=by simp[List.getD,hk]
 refine⟨rl.2 ⟨l[k],oe hk,by rw[<-e];exact hv⟩,(List.findIdx_eq hk).2 ⟨by rw[<-e];exact hv,λj hj=>by have:=h j hj;rwa [show l.getD j default=l[j] by simp[List.getD,show j<l.length by omega]] at this⟩⟩
theorem DI{l:Spx}{j:Nat}(h:j<l.length):(l.drop j).getD 0 default=l.getD j default:=by simp[List.getD,od]
theorem BC{l:Spx}{v:Vtx}(h:∀i,i<l.length->l.getD i default≠v):v∉l:=λhm=>by
 obtain⟨i,hi,e⟩:=kI hm;exact h i hi (by simp[List.getD,hi,e])
theorem aA{α:Type}[Inhabited α]{l:List α}{i:Nat}(h:i<l.length):l.getD i default∈l:=aK h
structure Cmp{α:Type}(P:Program)(f:α->AV)(K:α->α->Int)(G:α->Prop)(g:Nat)(caps:List AV):Prop where
 cells:∀x,(f x).cells=[f x]
 one:∀x,(f x).one=true
 dat:∀x,Dat (f x)
 dcaps:∀x∈caps,Dat x
 run:∀x y,G x->G y->Go.Abs.Pure P g (f x::f y::caps) (.int .i64 (K x y))
 ord:Ord K
theorem jx{α:Type}{f:α->AV}{l:List α}{k:Nat}{x:α}(h:k<l.length):bC (l.map f) k [f x]=(l.set k x).map f:=by
 simp only[bC,List.map_set,br,dw,bP];rw[Lh,if_pos (by simpa using h)];simp
theorem aC(H:Hp)(b:Nat)(x y:List AV):ar (ar H b x) b y=ar H b y:=by
 funext i;unfold ar;split<;>rfl
theorem gx{H:Hp}{b:Nat}{cs:List AV}(h:H b=some cs):H=ar H b cs:=by
 funext i
 by_cases e:i=b
 ·subst e;rw[af,h]
 ·rw[ae e]
def fU{α:Type}[Inhabited α](K:α->α->Int)(a i j:Nat)(M:List α):Prop:=∀p q,a<=p->p<q->q<=i->q≠j->¬K (M.getD q default) (M.getD p default)<0
section
variable{α:Type}[Inhabited α]{f:α->AV}{K:α->α->Int}{G:α->Prop}{g:Nat}{caps:List AV}
theorem fU.start{a i:Nat}{M:List α}(h:bh K a i M):fU K a i i M:=λp q h1 h2 h3 h4=>h p q h1 h2 (by omega)
theorem fU.done{a i j:Nat}{M:List α}(hK:Ord K)(h:fU K a i j M)(hj:j=a\/(a<j/\¬K (M.getD j default) (M.getD (j-1) default)<0)):bh K a (i+1) M:=by
 intro p q h1 h2 h3;by_cases e:q=j
 ·subst e;rcases hj with hj|⟨hj,hk⟩
  ·omega
  ·by_cases e2:p=q-1
   ·rw[e2];exact hk
   ·exact hK.negtr _ _ _ (h p (q-1) h1 (by omega) (by omega) (by omega)) hk
 ·exact h p q h1 h2 (by omega) e
theorem fU.step{a i j:Nat}{M:List α}(hK:Ord K)(h:fU K a i (j+1) M)(haj:a<=j)(hji:j+1<=i)(hi:i<M.length)(hk:K (M.getD (j+1) default) (M.getD j default)<0):fU K a i j (swp M (j+1) j):=by
 intro p q h1 h2 h3 h4;rw[eP (by omega) (by omega),eP (by omega) (by omega)];rw[if_neg h4];by_cases e1:q=j+1
 ·rw[if_pos e1];by_cases e2:p=j
  ·rw[if_pos e2];exact hK.asym _ _ hk
  ·rw[if_neg e2,if_neg (by omega)];exact h p j h1 (by omega) (by omega) (by omega)
 ·rw[if_neg e1];by_cases e2:p=j
  ·rw[if_pos e2];exact h (j+1) q (by omega) (by omega) h3 e1
  ·rw[if_neg e2];by_cases e3:p=j+1
   ·rw[if_pos e3];exact h j q (by omega) (by omega) h3 e1
   ·rw[if_neg e3];exact h p q h1 h2 h3 e1
theorem bh.mono{a b a' b':Nat}{M:List α}(h:bh K a b M)(h1:a<=a')(h2:b'<=b):bh K a' b' M:=λp q k1 k2 k3=>h p q (by omega) k2 (by omega)
theorem PermR.mem{a b:Nat}{L M:List α}(h:PermR a b L M)(hG:∀x∈L,G x):∀x∈M,G x:=λx hx=>hG x (h.perm.mem_iff.1 hx)
attribute [local irreducible] aO am bf aZ aR aS aE aU a5 bk Go.Abs.Fn aY Go.Abs.Pure au aN Yl
theorem Ni(hc:Cmp Tryz.prog f K G g caps){L:List α}{H:Hp}{b nx n a e:Nat}(hH:H b=some (L.map f))(hn:L.length=n)(hG:∀x∈L,G x)(hae:a<=e)(hen:e<=n)(hn2:n<=1000000000):
    Abs.Fn Tryz.prog 166 [.msl b n 1 0 n,.int .i64 a,.int .i64 e,.func g caps] H nx λr H' nx'=>nx'=nx/\∃L',H'=ar H b (L'.map f)/\PermR a e L L'/\bh K a e L':=by
 refine fO JG ?_;simp only[J8,aL];refine wnZ and_self ?_;refine bF (X:=Nat×List α) (λx=>[(0,.msl b n 1 0 n),(1,.int .i64 a),(2,.int .i64 e),(3,.func g caps),(8,.int .i64 (x.1:Nat))]) (λx H' nx'=>a+1<=x.1/\(x.1<=e\/x.1=a+1)/\H'=ar H b (x.2.map f)/\nx'=nx/\PermR a e L x.2/\bh K a x.1 x.2) (λx=>e+1-x.1) (a+1,L) ⟨aM _,.inr rfl,gx hH,rfl,.refl,bh.one (aM _)⟩ ag0 ?_;rintro⟨i,M0⟩ H' nx' ⟨h1,h2,rfl,rfl,hp0,hs0⟩;dsimp only at *;have hl0:M0.length=n:=by rw[hp0.len,hn]
 by_cases hi:i<e
 rotate_left
 ·refine wnZ and_self ?_;exact⟨rfl,M0,rfl,hp0,hs0.mono (aM _) (by omega)⟩
 refine wnZ and_self ?_;refine bF (X:=Nat×List α) (λx=>[(0,.msl b n 1 0 n),(1,.int .i64 a),(2,.int .i64 e),(3,.func g caps),(8,.int .i64 (i:Nat)),(9,.int .i64 (x.1:Nat))]) (λx H' nxx=>a<=x.1/\x.1<=i/\H'=ar H b (x.2.map f)/\nxx=nx'/\PermR a e L x.2/\fU K a i x.1 x.2) (λx=>x.1) (i,M0) ⟨by omega,aM _,rfl,rfl,hp0,.start hs0⟩ ag0 ?_;clear hp0 hs0 hl0;rintro⟨j,M⟩ H' nxx ⟨a1,a2,rfl,rfl,hp,hal⟩;dsimp only at *;have hl:M.length=n:=by rw[hp.len,hn]
 have hGM:=hp.mem hG;by_cases hja:j=a
 ·subst hja;refine wkZ and_self ?_;exact⟨(i+1,M),by dsimp only;omega,⟨by dsimp only;omega,.inl (by dsimp only;omega),rfl,rfl,hp,hal.done hc.ord (.inl rfl)⟩,ag0⟩
 ·obtain⟨k,rfl⟩:∃k,j=k+1:=⟨j-1,by omega⟩
  have tj:((k+1:Nat):Int)-1=(k:Int):=by omega
  have lc:=hc.run (M.getD (k+1) default) (M.getD k default) (hGM _ (aK (by omega))) (hGM _ (aK (by omega)));have d1:=hc.dat (M.getD (k+1) default);have d2:=hc.dat (M.getD k default);have dcap:=hc.dcaps;generalize hKK:K (M.getD (k+1) default) (M.getD k default)=kk at lc;by_cases hlt:kk<0
  ·obtain⟨M1,hl1,lm1,lm2⟩:∃M1:List α,M1.length=n/\bC (M.map f) (k+1) [f (M.getD k default)]=M1.map f/\bC (M1.map f) k [f (M.getD (k+1) default)]=(swp M (k+1) k).map f:=
     ⟨M.set (k+1) (M.getD k default),by simp[hl],jx (by omega),by rw[jx (by simp;omega)];rfl⟩
   have lm3:=lm2;simp only[bC,br,dw,bP] at lm1 lm2;have zz:=aI @tj (aI @bN (aI @lm1 (aI @lm2 (aI hc.cells hc.one))));repeat' (first|refine zW ?_|refine zM ?_|apply a_n|refine zO ?_|refine vZ ?_|refine cZ ?_ (hp:=lc) (hs:=by(first|refine aG ?_ rfl|apply a9);(repeat' (first|exact ap|apply bI|apply bc|exact d1|exact d2|exact bq dcap));first|done|fail)|refine stZ ?_|refine gTZ ?_|(refine zGZ ?_ ?_<;>(intro _hg;try (exfalso;omega)))|fail)
   refine⟨(k,swp M (k+1) k),by dsimp only;omega,⟨by dsimp only;omega,by dsimp only;omega,?_,rfl,hp.trans (PermR.swap (by omega) (by omega) (by omega)),hal.step hc.ord (by omega) (by omega) (by omega) (by rw[hKK];exact hlt)⟩,(have zz:=@tj;agZ)⟩;dsimp only;rw[aC,aC,lm3]
  ·have zz:=aI @tj (aI @bN (aI hc.cells hc.one));repeat' (first|refine zW ?_|refine zM ?_|apply a_n|apply a_x|refine zO ?_|refine vZ ?_|refine cZ ?_ (hp:=lc) (hs:=by(first|refine aG ?_ rfl|apply a9);(repeat' (first|exact ap|apply bI|apply bc|exact d1|exact d2|exact bq dcap));first|done|fail)|refine gTZ ?_|(refine zGZ ?_ ?_<;>(intro _hg;try (exfalso;omega)))|fail)
   exact⟨(i+1,M),by dsimp only;omega,⟨by dsimp only;omega,.inl (by dsimp only;omega),rfl,rfl,hp,hal.done hc.ord (.inr ⟨by omega,by rw[lX,hKK];exact hlt⟩)⟩,ag0⟩
end
def Kid(p c:Nat):Prop:=c=2*p+1\/c=2*p+2
def gf{α:Type}[Inhabited α](K:α->α->Int)(a hi r:Nat)(M:List α):Prop:=∀p c,r<=p->Kid p c->c<hi->¬K (M.getD (a+p) default) (M.getD (a+c) default)<0
structure SiftR{α:Type}[Inhabited α](K:α->α->Int)(a hi lo root:Nat)(M:List α):Prop where
 le:lo<=root
 heap:∀p c,lo<=p->p≠root->Kid p c->c<hi->¬K (M.getD (a+p) default) (M.getD (a+c) default)<0
 up:∀q c,lo<=q->Kid q root->Kid root c->c<hi->¬K (M.getD (a+q) default) (M.getD (a+c) default)<0
section
variable{α:Type}[Inhabited α]{f:α->AV}{K:α->α->Int}{G:α->Prop}{g:Nat}{caps:List AV}
theorem SiftR.start{a hi lo:Nat}{M:List α}(h:gf K a hi (lo+1) M):SiftR K a hi lo lo M:=
 ⟨aM _,λp c h1 h2=>h p c (by omega),λq c h1 h2=>by unfold Kid at h2;omega⟩
theorem SiftR.leaf{a hi lo root:Nat}{M:List α}(h:SiftR K a hi lo root M)(hr:hi<=2*root+1):gf K a hi lo M:=λp c h1 h2 h3=>by
 by_cases e:p=root
 ·subst e;unfold Kid at h2;omega
 ·exact h.heap p c h1 e h2 h3
theorem SiftR.stop{a hi lo root c:Nat}{M:List α}(hK:Ord K)(h:SiftR K a hi lo root M)(hb:∀d,Kid root d->d<hi->¬K (M.getD (a+c) default) (M.getD (a+d) default)<0)(hn:¬K (M.getD (a+root) default) (M.getD (a+c) default)<0):gf K a hi lo M:=λp d h1 h2 h3=>by
 by_cases e:p=root
 ·subst e;exact hK.negtr _ _ _ (hb d h2 h3) hn
 ·exact h.heap p d h1 e h2 h3
theorem SiftR.step{a hi lo root c:Nat}{M:List α}(hK:Ord K)(h:SiftR K a hi lo root M)(hkid:Kid root c)(hc:c<hi)(hM:a+hi<=M.length)(hb:∀d,Kid root d->d<hi->¬K (M.getD (a+c) default) (M.getD (a+d) default)<0)(hn:K (M.getD (a+root) default) (M.getD (a+c) default)<0):SiftR K a hi lo c (swp M (a+root) (a+c)):=by
 have hrc:root<c:=by unfold Kid at hkid;omega
 have hg:∀k,(swp M (a+root) (a+c)).getD (a+k) default=if k=c then M.getD (a+root) default else if k=root then M.getD (a+c) default else M.getD (a+k) default:=λk=>by
  rw[eP (by omega) (by omega)];by_cases e:k=c
  ·rw[if_pos (by omega),if_pos e]
  ·rw[if_neg (by omega),if_neg e];by_cases e2:k=root
   ·rw[if_pos (by omega),if_pos e2]
   ·rw[if_neg (by omega),if_neg e2]
 refine⟨by have:=h.le;omega,λp d h1 h2 h3 h4=>?_,λq d h1 h2 h3 h4=>?_⟩
 ·rw[hg,hg,if_neg h2];by_cases e1:p=root
  ·rw[if_pos e1];subst e1;by_cases e2:d=c
   ·rw[if_pos e2];exact hK.asym _ _ hn
   ·rw[if_neg e2,if_neg (by unfold Kid at h3;omega)];exact hb d h3 h4
  ·rw[if_neg e1];have hdc:d≠c:=λe=>by subst e;unfold Kid at h3 hkid;omega
   rw[if_neg hdc];by_cases e2:d=root
   ·rw[if_pos e2];subst e2;exact h.up p c h1 h3 hkid hc
   ·rw[if_neg e2];exact h.heap p d h1 e1 h3 h4
 ·have eq:q=root:=by unfold Kid at h2 hkid;omega
  subst eq;rw[hg,hg,if_neg (by omega),if_pos rfl,if_neg (by unfold Kid at h3;omega),if_neg (by unfold Kid at h3;omega)];exact h.heap c d (by omega) (by omega) h3 h4
theorem bW{M:List α}{i j:Nat}(hi:i<M.length)(hj:j<M.length):∃M1:List α,M1.length=M.length/\bC (M.map f) i [f (M.getD j default)]=M1.map f/\bC (M1.map f) j [f (M.getD i default)]=(swp M i j).map f:=
 ⟨M.set i (M.getD j default),by simp,jx hi,by rw[jx (by simpa using hj)];rfl⟩
theorem dQ{a c:Nat}:((a:Int)+(c:Int)).toNat=a+c:=by omega
theorem kd{a c:Nat}:((a:Int)+(c:Int)+1).toNat=a+(c+1):=by omega
attribute [local irreducible] aO am bf aZ aR aS aE aU a5 bk Go.Abs.Fn aY Go.Abs.Pure au aN Yl
theorem HK(hc:Cmp Tryz.prog f K G g caps){L:List α}{H:Hp}{b nx n a lo hi:Nat}(hH:H b=some (L.map f))(hn:L.length=n)(hG:∀x∈L,G x)(hhi:a+hi<=n)(hn2:n<=1000000000)(hlo:lo<=n)(hheap:gf K a hi (lo+1) L):
    Abs.Fn Tryz.prog 197 [.msl b n 1 0 n,.int .i64 lo,.int .i64 hi,.int .i64 a,.func g caps] H nx λr H' nx'=>nx'=nx/\∃L',H'=ar H b (L'.map f)/\PermR a (a+hi) L L'/\gf K a hi lo L':=by
 refine fO Me ?_;simp only[LQ,aL];refine wnZ and_self ?_;refine bF (X:=Nat×List α) (λx=>[(0,.msl b n 1 0 n),(2,.int .i64 hi),(3,.int .i64 a),(4,.func g caps),(10,.int .i64 (x.1:Nat))]) (λx H' nx'=>x.1<=n/\H'=ar H b (x.2.map f)/\nx'=nx/\PermR a (a+hi) L x.2/\SiftR K a hi lo x.1 x.2) (λx=>n+1-x.1) (lo,L) ⟨hlo,gx hH,rfl,.refl,.start hheap⟩ ag0 ?_;rintro⟨root,M⟩ H' nx' ⟨h0,rfl,rfl,hp,hs⟩;dsimp only at *;have hl:M.length=n:=by rw[hp.len,hn]
 have hGM:=hp.mem hG;by_cases hch:2*root+1<hi
 rotate_left
 ·refine wnZ and_self ?_;exact⟨rfl,M,rfl,hp,hs.leaf (by omega)⟩
 have dcap:=hc.dcaps;have tch:(2:Int)*(root:Int)+1=((2*root+1:Nat):Int):=by omega
 have tch2:((2*root+1:Nat):Int)+1=((2*root+1+1:Nat):Int):=by omega
 have w1:IntKind.wrap .i64 (2*(root:Int))=2*(root:Int):=uB (by omega) (by omega)
 obtain⟨c,hkid,hchi,hbest,hsel⟩:∃c,Kid root c/\c<hi/\(∀d,Kid root d->d<hi->¬K (M.getD (a+c) default) (M.getD (a+d) default)<0)/\((c=2*root+1+1/\K (M.getD (a+(2*root+1)) default) (M.getD (a+(2*root+1+1)) default)<0)\/(c=2*root+1/\(2*root+1+1<hi->¬K (M.getD (a+(2*root+1)) default) (M.getD (a+(2*root+1+1)) default)<0))):=by
  by_cases h2:2*root+1+1<hi/\K (M.getD (a+(2*root+1)) default) (M.getD (a+(2*root+1+1)) default)<0
  ·refine⟨2*root+1+1,.inr rfl,h2.1,λd hd hd2=>?_,.inl ⟨rfl,h2.2⟩⟩;rcases hd with rfl|rfl
   ·exact hc.ord.asym _ _ h2.2
   ·exact hc.ord.irr _
  ·refine⟨2*root+1,.inl rfl,hch,λd hd hd2=>?_,.inr ⟨rfl,λh h3=>h2 ⟨h,h3⟩⟩⟩;rcases hd with rfl|rfl
   ·exact hc.ord.irr _
   ·exact λh3=>h2 ⟨hd2,h3⟩
 have lc2:=hc.run (M.getD (a+root) default) (M.getD (a+c) default) (hGM _ (aK (by omega))) (hGM _ (aK (by omega)));have e1:=hc.dat (M.getD (a+root) default);have e2:=hc.dat (M.getD (a+c) default);generalize hK2:K (M.getD (a+root) default) (M.getD (a+c) default)=k2 at lc2;refine gv ?_;refine bn (λT H'' nx''=>T 0=.msl b n 1 0 n/\T 2=.int .i64 hi/\T 3=.int .i64 a/\T 4=.func g caps/\T 10=.int .i64 (root:Nat)/\T 11=.int .i64 ((2*root+1:Nat):Int)/\H''=ar H b (M.map f)/\nx'=nx'') ?_ ?_
 ·refine wnZ (aI @w1 @tch) ?_;exact⟨rfl,rfl,rfl,rfl,rfl,rfl,rfl,rfl⟩
 rintro T _ _ ⟨t0,t2,t3,t4,t10,t11,rfl,rfl⟩;refine bn (λT H'' nx''=>T 0=.msl b n 1 0 n/\T 2=.int .i64 hi/\T 3=.int .i64 a/\T 4=.func g caps/\T 10=.int .i64 (root:Nat)/\T 11=.int .i64 ((2*root+1:Nat):Int)/\H''=ar H b (M.map f)/\nx'=nx'') ?_ ?_
 ·refine wnZ (zI6 @t0 @t2 @t3 @t4 @t10 @t11) ?_
  all_goals exact⟨(have zz:=@t0;evZ),(have zz:=@t2;evZ),(have zz:=@t3;evZ),(have zz:=@t4;evZ),(have zz:=@t10;evZ),(have zz:=@t11;evZ),rfl,rfl⟩
 clear t0 t2 t3 t4 t10 t11;rintro T _ _ ⟨t0,t2,t3,t4,t10,t11,rfl,rfl⟩;refine bn (λT H'' nx''=>T 0=.msl b n 1 0 n/\T 2=.int .i64 hi/\T 3=.int .i64 a/\T 4=.func g caps/\T 10=.int .i64 (root:Nat)/\T 11=.int .i64 (c:Nat)/\H''=ar H b (M.map f)/\nx'=nx'') ?_ ?_
 ·by_cases h2:2*root+1+1<hi
  ·have lc1:=hc.run (M.getD (a+(2*root+1)) default) (M.getD (a+(2*root+1+1)) default) (hGM _ (aK (by omega))) (hGM _ (aK (by omega)));have e3:=hc.dat (M.getD (a+(2*root+1)) default);have e4:=hc.dat (M.getD (a+(2*root+1+1)) default);generalize hK1:K (M.getD (a+(2*root+1)) default) (M.getD (a+(2*root+1+1)) default)=k1 at lc1 hsel;have hlt:decide (((2*root+1+1:Nat):Int)<(hi:Int))=true:=a6 (by omega);generalize 2*root+1=ch at *;rcases hsel with⟨rfl,hk1⟩|⟨rfl,hk1⟩
   ·have zz:=aI @t0 (aI @t2 (aI @t3 (aI @t4 (aI @t10 (aI @t11 (aI @tch2 (aI @hlt (aI @dQ (aI @kd (aI hc.cells hc.one))))))))));repeat' (first|refine zW ?_|refine zM ?_|apply a_n|refine zO ?_|refine vZ ?_|refine cZ ?_ (hp:=lc1) (hs:=by(first|refine aG ?_ rfl|apply a9);(repeat' (first|exact ap|apply bI|apply bc|exact e3|exact e4|exact bq dcap));first|done|fail)|refine gTZ ?_|(refine zGZ ?_ ?_<;>(intro _hg;try (exfalso;omega)))|fail)
    all_goals exact⟨(have zz:=@t0;evZ),(have zz:=@t2;evZ),(have zz:=@t3;evZ),(have zz:=@t4;evZ),(have zz:=@t10;evZ),(have zz:=@t11;evZ),rfl,rfl⟩
   ·have hk1:=hk1 h2;have zz:=aI @t0 (aI @t2 (aI @t3 (aI @t4 (aI @t10 (aI @t11 (aI @tch2 (aI @hlt (aI @dQ (aI @kd (aI hc.cells hc.one))))))))));repeat' (first|refine zW ?_|refine zM ?_|apply a_n|refine zO ?_|refine vZ ?_|refine cZ ?_ (hp:=lc1) (hs:=by(first|refine aG ?_ rfl|apply a9);(repeat' (first|exact ap|apply bI|apply bc|exact e3|exact e4|exact bq dcap));first|done|fail)|refine gTZ ?_|(refine zGZ ?_ ?_<;>(intro _hg;try (exfalso;omega)))|fail)
    all_goals exact⟨(have zz:=@t0;evZ),(have zz:=@t2;evZ),(have zz:=@t3;evZ),(have zz:=@t4;evZ),(have zz:=@t10;evZ),(have zz:=@t11;evZ),rfl,rfl⟩
  ·have hlt:decide (((2*root+1+1:Nat):Int)<(hi:Int))=false:=ba (by omega)
   have hcc:c=2*root+1:=by
    rcases hsel with⟨rfl,_⟩|⟨rfl,_⟩
    ·omega
    ·rfl
   subst hcc;refine wkZ (zI8 @t0 @t2 @t3 @t4 @t10 @t11 @tch2 @hlt) ?_
   all_goals exact⟨(have zz:=@t0;evZ),(have zz:=@t2;evZ),(have zz:=@t3;evZ),(have zz:=@t4;evZ),(have zz:=@t10;evZ),(have zz:=@t11;evZ),rfl,rfl⟩
 clear t0 t2 t3 t4 t10 t11 hsel;rintro T _ _ ⟨t0,t2,t3,t4,t10,t11,rfl,rfl⟩;by_cases hk2:k2<0
 ·obtain⟨M1,hl1,lm1,lm2⟩:=bW (f:=f) (M:=M) (i:=a+root) (j:=a+c) (by omega) (by omega);have lm3:=lm2;simp only[bC,br,dw,bP] at lm1 lm2;have zz:=aI @t0 (aI @t2 (aI @t3 (aI @t4 (aI @t10 (aI @t11 (aI @dQ (aI @lm1 (aI @lm2 (aI hc.cells hc.one)))))))));repeat' (first|refine zW ?_|refine zM ?_|apply a_n|refine zO ?_|refine vZ ?_|refine cZ ?_ (hp:=lc2) (hs:=by(first|refine aG ?_ rfl|apply a9);(repeat' (first|exact ap|apply bI|apply bc|exact e1|exact e2|exact bq dcap));first|done|fail)|refine stZ ?_|(refine zGZ ?_ ?_<;>(intro _hg;try (exfalso;omega)))|fail)
  have hrc:root<c:=by unfold Kid at hkid;omega
  have hcn:c<n:=by omega
  refine⟨(c,swp M (a+root) (a+c)),by dsimp only;omega,⟨by dsimp only;omega,?_,rfl,hp.trans (PermR.swap (by omega) (by omega) (by omega)),hs.step hc.ord hkid hchi (by omega) hbest (by rw[hK2];exact hk2)⟩,(have zz:=aI @t0 (aI @t2 (aI @t3 @t4));agZ)⟩;dsimp only;rw[aC,aC,lm3]
 ·have zz:=aI @t0 (aI @t2 (aI @t3 (aI @t4 (aI @t10 (aI @t11 (aI @dQ (aI hc.cells hc.one)))))));repeat' (first|refine zW ?_|refine zM ?_|apply a_n|apply a_r|refine zO ?_|refine vZ ?_|refine cZ ?_ (hp:=lc2) (hs:=by(first|refine aG ?_ rfl|apply a9);(repeat' (first|exact ap|apply bI|apply bc|exact e1|exact e2|exact bq dcap));first|done|fail)|(refine zGZ ?_ ?_<;>(intro _hg;try (exfalso;omega)))|refine b0 rfl ?_|fail)
  exact⟨rfl,M,rfl,hp,hs.stop hc.ord hbest (by rw[hK2];exact hk2)⟩
end
section
variable{α:Type}[Inhabited α]{f:α->AV}{K:α->α->Int}{G:α->Prop}{g:Nat}{caps:List AV}
theorem gf.top{a hi:Nat}{M:List α}(hK:Ord K)(h:gf K a hi 0 M):∀p,p<hi->¬K (M.getD a default) (M.getD (a+p) default)<0:=by
 intro p
 induction p using Nat.strongRecOn with
 |ind p ih=>
  intro hp;by_cases e:p=0
  ·subst e;exact hK.irr _
  ·have k:Kid ((p-1)/2) p:=by unfold Kid;omega
   exact hK.negtr _ _ _ (h _ p (bQ _) k hp) (ih ((p-1)/2) (by omega) (by omega))
structure TailR{α:Type}[Inhabited α](K:α->α->Int)(a e k:Nat)(M:List α):Prop where
 sort:bh K k e M
 ge:∀p q,a<=p->p<k->k<=q->q<e->¬K (M.getD q default) (M.getD p default)<0
theorem TailR.step{a e k:Nat}{M N:List α}(hK:Ord K)(ht:TailR K a e (a+(k+1)) M)(hh:gf K a (k+1) 0 M)(he:a+(k+1)<=e)(hM:e<=M.length)(hp:PermR a (a+k) (swp M a (a+k)) N):TailR K a e (a+k) N:=by
 have hg:∀j,(swp M a (a+k)).getD j default=if j=a+k then M.getD a default else if j=a then M.getD (a+k) default else M.getD j default:=λj=>eP (by omega) (by omega) j
 have hmax:=hh.top hK
 have lo:∀q,a+k<=q->q<e->∀p,a<=p->p<a+k->¬K (N.getD q default) (N.getD p default)<0:=by
  intro q h1 h2;rw[hp.out q (.inr h1),hg];have hl:(swp M a (a+k)).length=M.length:=C9 _ _;refine hp.all (p:=λx=>¬K (if q=a+k then M.getD a default else if q=a then M.getD (a+k) default else M.getD q default) x<0) (by omega) (by omega) ?_;intro p k1 k2;rw[hg,if_neg (by omega:¬p=a+k)];by_cases e1:q=a+k
  ·rw[if_pos e1];by_cases e2:p=a
   ·rw[if_pos e2];exact hmax k (by omega)
   ·rw[if_neg e2];have:=hmax (p-a) (by omega);rw[show a+(p-a)=p by omega] at this;exact this
  ·rw[if_neg e1,if_neg (by omega:¬q=a)];by_cases e2:p=a
   ·rw[if_pos e2];exact ht.ge (a+k) q (by omega) (by omega) (by omega) h2
   ·rw[if_neg e2];exact ht.ge p q k1 (by omega) (by omega) h2
 refine⟨λp q h1 h2 h3=>?_,λp q h1 h2 h3 h4=>lo q h3 h4 p h1 h2⟩;rw[hp.out p (.inr h1),hp.out q (.inr (by omega)),hg,hg,if_neg (by omega:¬q=a+k),if_neg (by omega:¬q=a)];by_cases e1:p=a+k
 ·rw[if_pos e1];exact ht.ge a q (aM _) (by omega) (by omega) h3
 ·rw[if_neg e1,if_neg (by omega:¬p=a)];exact ht.sort p q (by omega) h2 h3
theorem gf.swapTop{a k:Nat}{M:List α}(h:gf K a (k+1) 0 M)(hM:a+(k+1)<=M.length):gf K a k 1 (swp M a (a+k)):=by
 intro p c h1 h2 h3;have hg:∀j,(swp M a (a+k)).getD j default=if j=a+k then M.getD a default else if j=a then M.getD (a+k) default else M.getD j default:=λj=>eP (by omega) (by omega) j
 have:p<c:=by unfold Kid at h2;omega
 rw[hg,hg,if_neg (by omega),if_neg (by omega),if_neg (by omega),if_neg (by omega)];exact h p c (bQ _) h2 (by omega)
theorem TailR.start{a e:Nat}{M:List α}:TailR K a e e M:=⟨λp q h1 h2 h3=>by omega,λp q h1 h2 h3 h4=>by omega⟩
theorem TailR.done{a e:Nat}{M:List α}(h:TailR K a e a M):bh K a e M:=h.sort
theorem gf.start{a hi r:Nat}{M:List α}(hr:hi<=2*r+1):gf K a hi r M:=λp c h1 h2 h3=>by unfold Kid at h2;omega
attribute [local irreducible] aO am bf aZ aR aS aE aU a5 bk Go.Abs.Fn aY Go.Abs.Pure au aN Yl
theorem Kq(hc:Cmp Tryz.prog f K G g caps){L:List α}{H:Hp}{b nx n a e:Nat}(hH:H b=some (L.map f))(hn:L.length=n)(hG:∀x∈L,G x)(hae:a<=e)(hen:e<=n)(hn2:n<=1000000000):
    Abs.Fn Tryz.prog 167 [.msl b n 1 0 n,.int .i64 a,.int .i64 e,.func g caps] H nx λr H' nx'=>nx'=nx/\∃L',H'=ar H b (L'.map f)/\PermR a e L L'/\bh K a e L':=by
 obtain⟨h,rfl⟩:∃h,e=a+h:=⟨e-a,by omega⟩
 refine fO MR ?_;simp only[LL,aL];have dcap:=hc.dcaps;have te:((a+h:Nat):Int)-(a:Int)=(h:Int):=by omega
 obtain⟨r,tr,hr,hrn⟩:∃r:Nat,bv .quo false false (.int .i64 ((h:Int)-1)) (.int .i64 2)=some (.int .i64 (r:Int))/\h<=2*(r+1)+1/\r<=h:=by
  rcases vA h with e|e
  ·subst e;exact⟨0,rfl,by omega,by omega⟩
  ·refine⟨(h-1)/2,?_,by omega,by omega⟩;rw[jr (by omega) (by omega) (by omega)]
   congr 2
   omega
 refine wnZ (aI @te @tr) ?_;refine bF (X:=Nat×List α) (λx=>[(0,.msl b n 1 0 n),(1,.int .i64 a),(3,.func g caps),(8,.int .i64 a),(9,.int .i64 0),(10,.int .i64 h),(11,.int .i64 ((x.1:Nat)-1))]) (λx H' nxx=>x.1<=n+1/\H'=ar H b (x.2.map f)/\nx=nxx/\PermR a (a+h) L x.2/\gf K a h x.1 x.2) (λx=>x.1) (r+1,L) ⟨by dsimp only;omega,gx hH,rfl,.refl,gf.start (by dsimp only;omega)⟩ (by simp (disch:=omega) only[agr,ZG,reduceEqDiff,↓reduceIte,Int.add_sub_cancel]) ?_;rintro⟨i,M⟩ H' nxx ⟨h1,rfl,rfl,hp,hh⟩;dsimp only at *;have hl:M.length=n:=by rw[hp.len,hn]
 have hGM:=hp.mem hG;rcases vA i with e|e
 ·subst e;refine wnZ and_self ?_;clear hGM;refine bF (X:=Nat×List α) (λx=>[(0,.msl b n 1 0 n),(3,.func g caps),(8,.int .i64 a),(9,.int .i64 0),(12,.int .i64 ((x.1:Nat)-1))]) (λx H' nxx'=>x.1<=h/\H'=ar H b (x.2.map f)/\nx=nxx'/\PermR a (a+h) L x.2/\gf K a x.1 0 x.2/\TailR K a (a+h) (a+x.1) x.2) (λx=>x.1) (h,M) ⟨aM _,rfl,rfl,hp,hh,.start⟩ (by simp (disch:=omega) only[agr,ZG,reduceEqDiff,↓reduceIte,Int.add_sub_cancel]) ?_;clear hp hh hl;rintro⟨i,M⟩ H' nxx ⟨h1,rfl,rfl,hp,hh,ht⟩;dsimp only at *;have hl:M.length=n:=by rw[hp.len,hn]
  have hGM:=hp.mem hG;rcases vA i with e|e
  ·subst e;refine wnZ and_self ?_;exact⟨rfl,M,rfl,hp,ht.done⟩
  ·obtain⟨k,rfl⟩:∃k,i=k+1:=⟨i-1,by omega⟩
   have tj:((k+1:Nat):Int)-1=(k:Int):=by omega
   obtain⟨M1,hl1,lm1,lm2⟩:=bW (f:=f) (M:=M) (i:=a) (j:=a+k) (by omega) (by omega);have lm3:=lm2;simp only[bC,br,dw,bP] at lm1 lm2;have hp1:PermR a (a+h) L (swp M a (a+k)):=hp.trans (PermR.swap (by omega) (by omega) (by omega));have hsl:(swp M a (a+k)).length=n:=by rw[hp1.len,hn]
   refine wnZ (zI6 @tj @dQ @lm1 @lm2 hc.cells hc.one) ?_;refine aQ ev0 (have zz:=aI @tj @Int.natCast_zero;evZ) (HK hc (b:=b) (L:=swp M a (a+k)) (a:=a) (lo:=0) (hi:=k) (by rw[aC,aC,af,<-lm3]) hsl (hp1.mem hG) (by omega) (by omega) (by omega) (hh.swapTop (by omega))) ?_;rintro _ _ _ ⟨rfl,N,rfl,hpN,hhN⟩;refine wnZ @tj ?_;exact⟨(k,N),by dsimp only;omega,⟨by dsimp only;omega,by dsimp only;rw[aC,aC,aC],rfl,hp1.trans (hpN.mono (aM _) (by omega)),hhN,ht.step hc.ord hh (by omega) (by omega) hpN⟩,ag0⟩
 ·obtain⟨k,rfl⟩:∃k,i=k+1:=⟨i-1,by omega⟩
  have tj:((k+1:Nat):Int)-1=(k:Int):=by omega
  refine wnZ @tj ?_;refine aQ ev0 ev0 (HK hc (L:=M) (a:=a) (lo:=k) (hi:=h) af hl hGM (by omega) (by omega) (by omega) hh) ?_;rintro _ _ _ ⟨rfl,N,rfl,hpN,hhN⟩;refine wnZ @tj ?_;exact⟨(k,N),by dsimp only;omega,⟨by dsimp only;omega,by dsimp only;rw[aC],rfl,hp.trans hpN,hhN⟩,ag0⟩
end
section
variable{α:Type}[Inhabited α]{f:α->AV}{K:α->α->Int}{G:α->Prop}{g:Nat}{caps:List AV}
def LP:AV->Option AV
 |.ptr b n o=>some (.ptr b n o)
 |.iptr c o=>some (.iptr c o)
 |.func f c=>some (.func f c)
 |_=>none
theorem SV3:(∀ (T:Tm) (H:Hp) (x:Opd),ca T H (.nilck x)=LP (ov T x))∧(∀ b n o:Nat,LP (.ptr b n o)=some (.ptr b n o)):=⟨fun T H x=>by
 simp only[ca];cases ov T x<;>rfl,λ_ _ _=>rfl⟩
attribute [local irreducible] aO am bf aZ aR aS aE aU a5 bk Go.Abs.Fn aY Go.Abs.Pure au aN Yl
theorem Ms(hc:Cmp Tryz.prog f K G g caps){L:List α}{H:Hp}{b nx n a e:Nat}(hH:H b=some (L.map f))(hn:L.length=n)(hae:a<e)(hen:e<=n)(hn2:n<=1000000000):
    Abs.Fn Tryz.prog 170 [.msl b n 1 0 n,.int .i64 a,.int .i64 e,.func g caps] H nx λr H' nx'=>nx'=nx/\∃L',H'=ar H b (L'.map f)/\PermR a e L L':=by
 obtain⟨m,rfl⟩:∃m,e=m+1:=⟨e-1,by omega⟩
 have te:((m+1:Nat):Int)-1=(m:Int):=by omega
 refine fO NG ?_;simp only[Nu,aL];refine wnZ @te ?_;refine bF (X:=Nat×Nat×List α) (λx=>[(0,.msl b n 1 0 n),(8,.int .i64 (x.1:Nat)),(9,.int .i64 (x.2.1:Nat))]) (λx H' nxx=>a<=x.1/\x.2.1<=m/\H'=ar H b (x.2.2.map f)/\nx=nxx/\PermR a (m+1) L x.2.2) (λx=>x.2.1) (a,m,L) ⟨aM _,aM _,gx hH,rfl,.refl⟩ ag0 ?_;rintro⟨i,j,M⟩ H' nxx ⟨h1,h2,rfl,rfl,hp⟩;dsimp only at *;have hl:M.length=n:=by rw[hp.len,hn]
 by_cases hij:i<j
 ·obtain⟨k,rfl⟩:∃k,j=k+1:=⟨j-1,by omega⟩
  have tj:((k+1:Nat):Int)-1=(k:Int):=by omega
  have ti:((i:Nat):Int)+1=((i+1:Nat):Int):=by omega
  obtain⟨M1,hl1,lm1,lm2⟩:=bW (f:=f) (M:=M) (i:=i) (j:=k+1) (by omega) (by omega);have lm3:=lm2;simp only[bC,br,dw,bP] at lm1 lm2;refine wnZ (zI6 @tj @ti @lm1 @lm2 hc.cells hc.one) ?_;exact⟨(i+1,k,swp M i (k+1)),by dsimp only;omega,⟨by dsimp only;omega,by dsimp only;omega,by dsimp only;rw[aC,aC,lm3],rfl,hp.trans (PermR.swap (by omega) (by omega) (by omega))⟩,ag0⟩
 ·refine wnZ and_self ?_;exact⟨rfl,M,rfl,hp⟩
theorem uy(hc:Cmp Tryz.prog f K G g caps){L:List α}{H:Hp}{b c nx n i j s:Nat}(hH:H b=some (L.map f))(hcc:H c=some [.int .i64 (s:Nat)])(hn:L.length=n)(hG:∀x∈L,G x)(hi:i<n)(hj:j<n)(hn2:n<=1000000000)(hs:s<=100):
    Abs.Fn Tryz.prog 208 [.msl b n 1 0 n,.int .i64 i,.int .i64 j,.ptr c 1 0,.func g caps] H nx λr H' nx'=>nx'=nx/\∃i' j' s':Nat,r=.tup [.int .i64 i',.int .i64 j']/\((i'=i/\j'=j)\/(i'=j/\j'=i))/\s'<=s+1/\H'=ar H c [.int .i64 s']:=by
 refine fO L2 ?_;simp only[Mx,aL];have dcap:=hc.dcaps;have lc:=hc.run (L.getD j default) (L.getD i default) (hG _ (aK (by omega))) (hG _ (aK (by omega)));have e1:=hc.dat (L.getD j default);have e2:=hc.dat (L.getD i default);have ts:((s:Nat):Int)+1=((s+1:Nat):Int):=by omega
 have ls:∀x y:AV,bC [x] 0 [y]=[y]:=λ_ _=>rfl;simp only[bC,br,dw,bP] at ls;generalize hKK:K (L.getD j default) (L.getD i default)=kk at lc;by_cases hlt:kk<0
 ·have zz:=aI @hH (aI @hcc (aI @bN (aI hc.cells (aI hc.one (aI @ts (aI @ls @SV3))))));repeat' (first|refine zW ?_|refine zM ?_|apply a_n|apply a_r|refine zO ?_|refine vZ ?_|refine cZ ?_ (hp:=lc) (hs:=by(first|refine aG ?_ rfl|apply a9);(repeat' (first|exact ap|apply bI|apply bc|exact e1|exact e2|exact bq dcap));first|done|fail)|refine stZ ?_|(refine zGZ ?_ ?_<;>(intro _hg;try (exfalso;omega)))|refine b0 rfl ?_|refine r2Z ?_|fail)
  exact⟨rfl,j,i,s+1,rfl,.inr ⟨rfl,rfl⟩,aM _,rfl⟩
 ·have zz:=aI @hH (aI @hcc (aI @bN (aI hc.cells hc.one)));repeat' (first|refine zW ?_|refine zM ?_|apply a_n|refine zO ?_|refine vZ ?_|refine cZ ?_ (hp:=lc) (hs:=by(first|refine aG ?_ rfl|apply a9);(repeat' (first|exact ap|apply bI|apply bc|exact e1|exact e2|exact bq dcap));first|done|fail)|(refine zGZ ?_ ?_<;>(intro _hg;try (exfalso;omega)))|refine b0 rfl ?_|refine r2Z ?_|fail)
  exact⟨rfl,i,j,s,rfl,.inl ⟨rfl,rfl⟩,Nat.le_succ _,gx hcc⟩
end
def sw{α:Type}[Inhabited α](K:α->α->Int)(a e:Nat)(M:List α):Prop:=∀q,0<a->a<=q->q<e->¬K (M.getD q default) (M.getD (a-1) default)<0
section
variable{α:Type}[Inhabited α]{f:α->AV}{K:α->α->Int}{G:α->Prop}{g:Nat}{caps:List AV}
theorem sw.perm{a e:Nat}{L M:List α}(h:sw K a e L)(hp:PermR a e L M)(hae:a<=e)(he:e<=L.length):sw K a e M:=λq h0 h1 h2=>by
 rw[hp.out (a-1) (.inl (by omega))];exact hp.all (p:=λx=>¬K x (L.getD (a-1) default)<0) hae he (λi k1 k2=>h i h0 k1 k2) q h1 h2
theorem bh.out{a i e:Nat}{L M:List α}(h:bh K a i L)(hp:PermR i e L M):bh K a i M:=λp q h1 h2 h3=>by
 rw[hp.out p (.inl (by omega)),hp.out q (.inl h3)];exact h p q h1 h2 h3
theorem bh.snoc{a i:Nat}{M:List α}(hK:Ord K)(h:bh K a i M)(ha:a<i)(hn:¬K (M.getD i default) (M.getD (i-1) default)<0):bh K a (i+1) M:=λp q h1 h2 h3=>by
 by_cases e:q=i
 ·subst e;by_cases e2:p=q-1
  ·rw[e2];exact hn
  ·exact hK.negtr _ _ _ (h p (q-1) h1 (by omega) (by omega)) hn
 ·exact h p q h1 h2 (by omega)
attribute [local irreducible] aO am bf aZ aR aS aE aU a5 bk Go.Abs.Fn aY Go.Abs.Pure au aN Yl
theorem EY(hc:Cmp Tryz.prog f K G g caps){L:List α}{H:Hp}{b nx n a e:Nat}(hH:H b=some (L.map f))(hn:L.length=n)(hG:∀x∈L,G x)(hae:a<e)(hen:e<=n)(hn2:n<=1000000000)(hlow:sw K a e L):
    Abs.Fn Tryz.prog 171 [.msl b n 1 0 n,.int .i64 a,.int .i64 e,.func g caps] H nx λr H' nx'=>nx'=nx/\∃L' t,r=.bool t/\H'=ar H b (L'.map f)/\PermR a e L L'/\(t=true->bh K a e L'):=by
 have dcap:=hc.dcaps;refine fO OC ?_;simp only[NB,aL];refine wnZ and_self ?_;refine bF (X:=Nat×Nat×List α) (λx=>[(0,.msl b n 1 0 n),(1,.int .i64 a),(2,.int .i64 e),(3,.func g caps),(9,.int .i64 (x.2.1:Nat)),(10,.int .i64 (x.1:Nat))]) (λx H' nxx=>x.1<=5/\a+1<=x.2.1/\x.2.1<=e/\H'=ar H b (x.2.2.map f)/\nx=nxx/\PermR a e L x.2.2/\bh K a x.2.1 x.2.2) (λx=>5-x.1) (0,a+1,L) ⟨by dsimp only;omega,aM _,hae,gx hH,rfl,.refl,bh.one (aM _)⟩ ag0 ?_;rintro⟨jj,i0,M0⟩ H' nxx ⟨h1,h2,h3,rfl,rfl,hp0,hs0⟩;dsimp only at *;by_cases h5:jj=5
 ·subst h5;refine wnZ and_self ?_;exact⟨rfl,M0,false,rfl,rfl,hp0,λh=>absurd h (by decide)⟩
 have hl:M0.length=n:=by rw[hp0.len,hn]
 have hGM:=hp0.mem hG;refine bn (λT H'' nx''=>T 0=.msl b n 1 0 n/\T 1=.int .i64 a/\T 2=.int .i64 e/\T 3=.func g caps/\T 9=.int .i64 (i0:Nat)/\T 10=.int .i64 (jj:Nat)/\H''=ar H b ((M0).map f)/\nx=nx'') ?_ ?_
 ·refine wnZ and_self ?_;exact⟨rfl,rfl,rfl,rfl,rfl,rfl,rfl,rfl⟩
 rintro T _ _ ⟨t0,t1,t2,t3,t9,t10,rfl,rfl⟩;refine bn (λT H'' nx''=>∃(i:Nat)(M:List α),a+1<=i/\i<=e/\PermR a e L M/\bh K a i M/\T 0=.msl b n 1 0 n/\T 1=.int .i64 a/\T 2=.int .i64 e/\T 3=.func g caps/\T 9=.int .i64 (i:Nat)/\T 10=.int .i64 (jj:Nat)/\H''=ar H b ((M).map f)/\nx=nx'') ?_ ?_
 rotate_left
 ·clear t0 t1 t2 t3 t9 t10;rintro T _ _ ⟨i,M,k1,k2,hp,hs,t0,t1,t2,t3,t9,t10,rfl,rfl⟩;refine wnZ (zI6 @t0 @t1 @t2 @t3 @t9 @t10) ?_;exact⟨(jj+1,i,M),by dsimp only;omega,⟨by dsimp only;omega,k1,k2,rfl,rfl,hp,hs⟩,(have zz:=aI @t0 (aI @t1 (aI @t2 (aI @t3 (aI @t9 @t10))));agZ)⟩
 refine gv ?_;refine bn (λT H'' nx''=>∃(i:Nat),a+1<=i/\i<=e/\bh K a i M0/\(i<e->K (M0.getD i default) (M0.getD (i-1) default)<0)/\T 0=.msl b n 1 0 n/\T 1=.int .i64 a/\T 2=.int .i64 e/\T 3=.func g caps/\T 9=.int .i64 (i:Nat)/\T 10=.int .i64 (jj:Nat)/\H''=ar H b ((M0).map f)/\nx=nx'') ?_ ?_
 ·refine wnZ (zI6 @t0 @t1 @t2 @t3 @t9 @t10) ?_;refine bF (X:=Nat) (λi=>[(0,.msl b n 1 0 n),(1,.int .i64 a),(2,.int .i64 e),(3,.func g caps),(9,.int .i64 (i:Nat)),(10,.int .i64 (jj:Nat))]) (λi H' nxx=>a+1<=i/\i<=e/\H'=ar H b (M0.map f)/\nx=nxx/\bh K a i M0) (λi=>e-i) i0 ⟨h2,h3,rfl,rfl,hs0⟩ (have zz:=aI @t0 (aI @t1 (aI @t2 (aI @t3 (aI @t9 @t10))));agZ) ?_;clear hs0 h2 h3;rintro i H' nxx ⟨h2,h3,rfl,rfl,hs⟩;by_cases hie:i=e
  ·subst hie;refine wkZ and_self ?_;exact⟨i,h2,h3,hs,λh=>absurd h (Nat.lt_irrefl _),rfl,rfl,rfl,rfl,rfl,rfl,rfl,rfl⟩
  obtain⟨m,rfl⟩:∃m,i=m+1:=⟨i-1,by omega⟩
  have tj:((m+1:Nat):Int)-1=(m:Int):=by omega
  have lc:=hc.run (M0.getD (m+1) default) (M0.getD m default) (hGM _ (aK (by omega))) (hGM _ (aK (by omega)));have e1:=hc.dat (M0.getD (m+1) default);have e2:=hc.dat (M0.getD m default);generalize hKK:K (M0.getD (m+1) default) (M0.getD m default)=kk at lc;by_cases hlt:kk<0
  ·have zz:=aI @tj (aI @bN (aI hc.cells hc.one));repeat' (first|refine zW ?_|refine zM ?_|apply a_n|apply a_x|refine zO ?_|refine vZ ?_|refine cZ ?_ (hp:=lc) (hs:=by(first|refine aG ?_ rfl|apply a9);(repeat' (first|exact ap|apply bI|apply bc|exact e1|exact e2|exact bq dcap));first|done|fail)|refine gTZ ?_|(refine zGZ ?_ ?_<;>(intro _hg;try (exfalso;omega)))|fail)
   exact⟨m+1,h2,h3,hs,λ_=>by rw[lX,hKK];exact hlt,rfl,rfl,rfl,rfl,rfl,rfl,rfl,rfl⟩
  ·have zz:=aI @tj (aI @bN (aI hc.cells hc.one));repeat' (first|refine zW ?_|refine zM ?_|apply a_n|refine zO ?_|refine vZ ?_|refine cZ ?_ (hp:=lc) (hs:=by(first|refine aG ?_ rfl|apply a9);(repeat' (first|exact ap|apply bI|apply bc|exact e1|exact e2|exact bq dcap));first|done|fail)|refine gTZ ?_|(refine zGZ ?_ ?_<;>(intro _hg;try (exfalso;omega)))|fail)
   exact⟨m+1+1,by omega,⟨by omega,by omega,rfl,rfl,hs.snoc hc.ord (by omega) (by rw[lX,hKK];exact hlt)⟩,ag0⟩
 clear t0 t1 t2 t3 t9 t10 hs0 h2 h3;rintro T _ _ ⟨i,h2,h3,hs,hless,t0,t1,t2,t3,t9,t10,rfl,rfl⟩;by_cases hie:i=e
 ·subst hie;have ten:decide ((i:Int)=(i:Int))=true:=a6 rfl;refine wnZ (zI7 @t0 @t1 @t2 @t3 @t9 @t10 @ten) ?_;exact⟨rfl,M0,true,rfl,rfl,hp0,λ_=>hs⟩
 replace hless:=hless (by omega);have ten:decide ((i:Int)=(e:Int))=false:=ba (by omega);refine bn (λT H'' nx''=>T 0=.msl b n 1 0 n/\T 1=.int .i64 a/\T 2=.int .i64 e/\T 3=.func g caps/\T 9=.int .i64 (i:Nat)/\T 10=.int .i64 (jj:Nat)/\H''=ar H b ((M0).map f)/\nx=nx'') ?_ ?_
 ·refine wnZ (zI7 @t0 @t1 @t2 @t3 @t9 @t10 @ten) ?_;exact⟨(have zz:=@t0;evZ),(have zz:=@t1;evZ),(have zz:=@t2;evZ),(have zz:=@t3;evZ),(have zz:=@t9;evZ),(have zz:=@t10;evZ),rfl,rfl⟩
 clear t0 t1 t2 t3 t9 t10 ten;rintro T _ _ ⟨t0,t1,t2,t3,t9,t10,rfl,rfl⟩;refine bn (λT H'' nx''=>T 0=.msl b n 1 0 n/\T 1=.int .i64 a/\T 2=.int .i64 e/\T 3=.func g caps/\T 9=.int .i64 (i:Nat)/\T 10=.int .i64 (jj:Nat)/\H''=ar H b ((M0).map f)/\nx=nx'') ?_ ?_
 ·have zz:=aI @t0 (aI @t1 (aI @t2 (aI @t3 (aI @t9 @t10))));repeat' (first|refine zW ?_|apply a_n|apply a_r|refine zO ?_|refine vZ ?_|(refine zGZ ?_ ?_<;>(intro _hg;try (exfalso;omega)))|refine b0 rfl ?_|refine r1Z ?_|fail)
  ·exact⟨rfl,M0,false,rfl,rfl,hp0,λh=>absurd h (by decide)⟩
  ·exact⟨(have zz:=@t0;evZ),(have zz:=@t1;evZ),(have zz:=@t2;evZ),(have zz:=@t3;evZ),(have zz:=@t9;evZ),(have zz:=@t10;evZ),rfl,rfl⟩
 clear t0 t1 t2 t3 t9 t10;rintro T _ _ ⟨t0,t1,t2,t3,t9,t10,rfl,rfl⟩;obtain⟨m,rfl⟩:∃m,i=m+1:=⟨i-1,by omega⟩
 have tj:((m+1:Nat):Int)-1=(m:Int):=by omega
 rw[lX] at hless;obtain⟨M1,hl1,lm1,lm2⟩:=bW (f:=f) (M:=M0) (i:=m+1) (j:=m) (by omega) (by omega);have lm3:=lm2;simp only[bC,br,dw,bP] at lm1 lm2;refine bn (λT H'' nx''=>T 0=.msl b n 1 0 n/\T 1=.int .i64 a/\T 2=.int .i64 e/\T 3=.func g caps/\T 9=.int .i64 (m+1:Nat)/\T 10=.int .i64 (jj:Nat)/\H''=ar H b ((swp M0 (m+1) m).map f)/\nx=nx'') ?_ ?_
 ·refine wnZ (aI @t0 (aI @t1 (dH @t2 @t3 @t9 @t10 @bN hc.cells hc.one @tj @lm1 @lm2))) ?_;exact⟨(have zz:=@t0;evZ),(have zz:=@t1;evZ),(have zz:=@t2;evZ),(have zz:=@t3;evZ),(have zz:=@t9;evZ),(have zz:=@t10;evZ),by rw[aC,aC,lm3],rfl⟩
 clear t0 t1 t2 t3 t9 t10;have hp1:PermR a e L (swp M0 (m+1) m):=hp0.trans (PermR.swap (by omega) (by omega) (by omega));have hal:=(fU.start hs).step hc.ord (by omega) (aM _) (by omega) hless;clear hs hless lm1 lm2 lm3 hl1 M1;generalize swp M0 (m+1) m=M2 at hp1 hal;clear hp0 hGM hl;rintro T _ _ ⟨t0,t1,t2,t3,t9,t10,rfl,rfl⟩;refine bn (λT H'' nx''=>∃M:List α,PermR a e L M/\bh K a (m+1) M/\T 0=.msl b n 1 0 n/\T 1=.int .i64 a/\T 2=.int .i64 e/\T 3=.func g caps/\T 9=.int .i64 (m+1:Nat)/\T 10=.int .i64 (jj:Nat)/\H''=ar H b ((M).map f)/\nx=nx'') ?_ ?_
 ·by_cases h2a:m=a
  ·subst h2a;have td:decide ((2:Int)<=((m+1:Nat):Int)-(m:Int))=false:=ba (by omega);refine wnZ (zI7 @t0 @t1 @t2 @t3 @t9 @t10 @td) ?_;exact⟨M2,hp1,(hal.done hc.ord (.inl rfl)).mono (aM _) (by omega),(have zz:=@t0;evZ),(have zz:=@t1;evZ),(have zz:=@t2;evZ),(have zz:=@t3;evZ),(have zz:=@t9;evZ),(have zz:=@t10;evZ),rfl,rfl⟩
  have td:decide ((2:Int)<=((m+1:Nat):Int)-(a:Int))=true:=a6 (by omega);refine wnZ (zI8 @t0 @t1 @t2 @t3 @t9 @t10 @td @tj) ?_;refine bF (X:=Nat×List α) (λx=>[(0,.msl b n 1 0 n),(1,.int .i64 a),(2,.int .i64 e),(3,.func g caps),(9,.int .i64 (m+1:Nat)),(10,.int .i64 (jj:Nat)),(11,.int .i64 (x.1:Nat))]) (λx H' nxx=>a<=x.1/\x.1<=m/\H'=ar H b (x.2.map f)/\nx=nxx/\PermR a e L x.2/\fU K a (m+1) x.1 x.2) (λx=>x.1) (m,M2) ⟨by dsimp only;omega,aM _,rfl,rfl,hp1,hal⟩ (have zz:=aI @t0 (aI @t1 (aI @t2 (aI @t3 (aI @t9 @t10))));agZ) ?_;clear t0 t1 t2 t3 t9 t10 hp1 hal M2;rintro⟨j,M⟩ H' nxx ⟨a1,a2,rfl,rfl,hp,hal⟩;dsimp only at *;have hl:M.length=n:=by rw[hp.len,hn]
  have hGM:=hp.mem hG;rcases vA j with ej|ej
  ·subst ej;refine wnZ and_self ?_;exact⟨M,hp,(hal.done hc.ord (.inl (by omega))).mono (aM _) (by omega),rfl,rfl,rfl,rfl,rfl,rfl,rfl,rfl⟩
  obtain⟨k,rfl⟩:∃k,j=k+1:=⟨j-1,by omega⟩
  have tk:((k+1:Nat):Int)-1=(k:Int):=by omega
  have lc:=hc.run (M.getD (k+1) default) (M.getD k default) (hGM _ (aK (by omega))) (hGM _ (aK (by omega)));have e1:=hc.dat (M.getD (k+1) default);have e2:=hc.dat (M.getD k default);have hlw:=hlow.perm hp (by omega) (by omega);generalize hKK:K (M.getD (k+1) default) (M.getD k default)=kk at lc;by_cases hlt:kk<0
  ·have hak:k+1≠a:=λh=>by
     subst h;have:=hlw (k+1) (by omega) (aM _) (by omega);rw[lX,hKK] at this;exact this hlt
   obtain⟨M1,hl1,lm1,lm2⟩:=bW (f:=f) (M:=M) (i:=k+1) (j:=k) (by omega) (by omega);have lm3:=lm2;simp only[bC,br,dw,bP] at lm1 lm2;have zz:=aI @tk (aI @bN (aI hc.cells (aI hc.one (aI @lm1 @lm2))));repeat' (first|refine zW ?_|refine zM ?_|apply a_n|refine zO ?_|refine vZ ?_|refine cZ ?_ (hp:=lc) (hs:=by(first|refine aG ?_ rfl|apply a9);(repeat' (first|exact ap|apply bI|apply bc|exact e1|exact e2|exact bq dcap));first|done|fail)|refine stZ ?_|(refine zGZ ?_ ?_<;>(intro _hg;try (exfalso;omega)))|fail)
   exact⟨(k,swp M (k+1) k),by dsimp only;omega,⟨by dsimp only;omega,by dsimp only;omega,by dsimp only;rw[aC,aC,lm3],rfl,hp.trans (PermR.swap (by omega) (by omega) (by omega)),hal.step hc.ord (by omega) (by omega) (by omega) (by rw[hKK];exact hlt)⟩,(have zz:=@tk;agZ)⟩
  ·have hd:k+1=a\/(a<k+1/\¬K (M.getD (k+1) default) (M.getD (k+1-1) default)<0):=by
     by_cases h:k+1=a
     ·exact .inl h
     ·exact .inr ⟨by omega,by rw[lX,hKK];exact hlt⟩
   have zz:=aI @tk (aI @bN (aI hc.cells hc.one));repeat' (first|refine zW ?_|refine zM ?_|apply a_n|apply a_x|refine zO ?_|refine vZ ?_|refine cZ ?_ (hp:=lc) (hs:=by(first|refine aG ?_ rfl|apply a9);(repeat' (first|exact ap|apply bI|apply bc|exact e1|exact e2|exact bq dcap));first|done|fail)|(refine zGZ ?_ ?_<;>(intro _hg;try (exfalso;omega)))|fail)
   exact⟨M,hp,(hal.done hc.ord hd).mono (aM _) (by omega),rfl,rfl,rfl,rfl,rfl,rfl,rfl,rfl⟩
 clear t0 t1 t2 t3 t9 t10 hp1 hal M2;rintro T _ _ ⟨M2,hp1,hs,t0,t1,t2,t3,t9,t10,rfl,rfl⟩;by_cases h2a:m+1+2<=e
 rotate_left
 ·have td:decide ((2:Int)<=(e:Int)-((m+1:Nat):Int))=false:=ba (by omega);refine wnZ (zI7 @t0 @t1 @t2 @t3 @t9 @t10 @td) ?_;exact⟨m+1,M2,h2,h3,hp1,hs,(have zz:=@t0;evZ),(have zz:=@t1;evZ),(have zz:=@t2;evZ),(have zz:=@t3;evZ),(have zz:=@t9;evZ),(have zz:=@t10;evZ),rfl,rfl⟩
 have td:decide ((2:Int)<=(e:Int)-((m+1:Nat):Int))=true:=a6 (by omega);have tj2:((m+1:Nat):Int)+1=((m+1+1:Nat):Int):=by omega
 refine wnZ (zI8 @t0 @t1 @t2 @t3 @t9 @t10 @td @tj2) ?_;refine bF (X:=Nat×List α) (λx=>[(0,.msl b n 1 0 n),(1,.int .i64 a),(2,.int .i64 e),(3,.func g caps),(9,.int .i64 (m+1:Nat)),(10,.int .i64 (jj:Nat)),(12,.int .i64 (x.1:Nat))]) (λx H' nxx=>m+1+1<=x.1/\x.1<=e/\H'=ar H b (x.2.map f)/\nx=nxx/\PermR a e L x.2/\bh K a (m+1) x.2) (λx=>e-x.1) (m+1+1,M2) ⟨aM _,by dsimp only;omega,rfl,rfl,hp1,hs⟩ (have zz:=aI @t0 (aI @t1 (aI @t2 (aI @t3 (aI @t9 @t10))));agZ) ?_;clear t0 t1 t2 t3 t9 t10 hp1 hs M2;rintro⟨j,M⟩ H' nxx ⟨a1,a2,rfl,rfl,hp,hs⟩;dsimp only at *;have hl:M.length=n:=by rw[hp.len,hn]
 have hGM:=hp.mem hG;by_cases hje:j=e
 ·subst hje;refine wnZ and_self ?_;exact⟨m+1,M,h2,h3,hp,hs,rfl,rfl,rfl,rfl,rfl,rfl,rfl,rfl⟩
 obtain⟨k,rfl⟩:∃k,j=k+1:=⟨j-1,by omega⟩
 have tk:((k+1:Nat):Int)-1=(k:Int):=by omega
 have lc:=hc.run (M.getD (k+1) default) (M.getD k default) (hGM _ (aK (by omega))) (hGM _ (aK (by omega)));have e1:=hc.dat (M.getD (k+1) default);have e2:=hc.dat (M.getD k default);generalize hKK:K (M.getD (k+1) default) (M.getD k default)=kk at lc;by_cases hlt:kk<0
 ·obtain⟨M1,hl1,lm1,lm2⟩:=bW (f:=f) (M:=M) (i:=k+1) (j:=k) (by omega) (by omega);have lm3:=lm2;simp only[bC,br,dw,bP] at lm1 lm2;have zz:=aI @tk (aI @bN (aI hc.cells (aI hc.one (aI @lm1 @lm2))));repeat' (first|refine zW ?_|refine zM ?_|apply a_n|refine zO ?_|refine vZ ?_|refine cZ ?_ (hp:=lc) (hs:=by(first|refine aG ?_ rfl|apply a9);(repeat' (first|exact ap|apply bI|apply bc|exact e1|exact e2|exact bq dcap));first|done|fail)|refine stZ ?_|(refine zGZ ?_ ?_<;>(intro _hg;try (exfalso;omega)))|fail)
  exact⟨(k+1+1,swp M (k+1) k),by dsimp only;omega,⟨by dsimp only;omega,by dsimp only;omega,by dsimp only;rw[aC,aC,lm3],rfl,hp.trans (PermR.swap (by omega) (by omega) (by omega)),hs.out (e:=e) (PermR.swap (by omega) (by omega) (by omega))⟩,ag0⟩
 ·have zz:=aI @tk (aI @bN (aI hc.cells hc.one));repeat' (first|refine zW ?_|refine zM ?_|apply a_n|apply a_x|refine zO ?_|refine vZ ?_|refine cZ ?_ (hp:=lc) (hs:=by(first|refine aG ?_ rfl|apply a9);(repeat' (first|exact ap|apply bI|apply bc|exact e1|exact e2|exact bq dcap));first|done|fail)|(refine zGZ ?_ ?_<;>(intro _hg;try (exfalso;omega)))|fail)
  exact⟨m+1,M,h2,h3,hp,hs,rfl,rfl,rfl,rfl,rfl,rfl,rfl,rfl⟩
end
structure PartR{α:Type}[Inhabited α](P:α->Prop)(a e mu i j:Nat)(M:List α):Prop where
 lo:a+1<=i
 mid:i<=j+1
 hi:j<e
 mu:j+1-i<=mu
 up:∀p,a+1<=p->p<i->P (M.getD p default)
 dn:∀q,j<q->q<e->¬P (M.getD q default)
section
variable{α:Type}[Inhabited α]{f:α->AV}{K:α->α->Int}{G:α->Prop}{g:Nat}{caps:List AV}
theorem PartR.start{P:α->Prop}{a m:Nat}{M:List α}(h:a<=m):PartR P a (m+1) (m+1-(a+1)) (a+1) m M:=⟨aM _,by omega,by omega,aM _,λp h1 h2=>by omega,λq h1 h2=>by omega⟩
theorem PartR.stepUp{P:α->Prop}{a e mu i j:Nat}{M:List α}(h:PartR P a e mu i j M)(hij:i<=j)(hp:P (M.getD i default)):PartR P a e mu (i+1) j M:=
 ⟨by have:=h.lo; omega,by omega,h.hi,by have:=h.mu; omega,fun p h1 h2=>by
  by_cases e:p=i
  ·rw[e];exact hp
  ·exact h.up p h1 (by omega),h.dn⟩
theorem PartR.stepDn{P:α->Prop}{a e mu i k:Nat}{M:List α}(h:PartR P a e mu i (k+1) M)(hij:i<=k+1)(hp:¬P (M.getD (k+1) default)):PartR P a e mu i k M:=
 ⟨h.lo,hij,by have:=h.hi; omega,by have:=h.mu; omega,h.up,fun q h1 h2=>by
  by_cases e:q=k+1
  ·rw[e];exact hp
  ·exact h.dn q (by omega) h2⟩
theorem PartR.swap{P:α->Prop}{a e mu i k:Nat}{M:List α}(h:PartR P a e mu i (k+1) M)(hM:e<=M.length)(hij:i<=k+1)(hi:¬P (M.getD i default))(hj:P (M.getD (k+1) default)):PartR P a e (k+1-(i+1)) (i+1) k (swp M i (k+1))/\k+1-(i+1)<mu:=by
 have hne:i≠k+1:=λe=>hi (by rw[e];exact hj);have hh:=h.hi;have hlo:=h.lo;have hmu:=h.mu;refine⟨⟨by omega,by omega,by omega,aM _,λp h1 h2=>?_,λq h1 h2=>?_⟩,by omega⟩
 ·rw[eP (by omega) (by omega),if_neg (by omega)];by_cases e:p=i
  ·rw[if_pos e];exact hj
  ·rw[if_neg e];exact h.up p h1 (by omega)
 ·rw[eP (by omega) (by omega)];by_cases e:q=k+1
  ·rw[if_pos e];exact hi
  ·rw[if_neg e,if_neg (by omega)];exact h.dn q (by omega) h2
theorem lj{M:List α}{i j k:Nat}(hi:i<M.length)(hj:j<M.length)(h1:k≠i)(h2:k≠j):(swp M i j).getD k default=M.getD k default:=by
 rw[eP hi hj,if_neg h2,if_neg h1]
attribute [local irreducible] aO am bf aZ aR aS aE aU a5 bk Go.Abs.Fn aY Go.Abs.Pure au aN Yl
theorem PartR.done{P:α->Prop}{a e mu i j:Nat}{M:List α}{v:α}(hK:Ord K)(h:PartR P a e mu i j M)(hM:e<=M.length)(hji:j<i)(hv:M.getD a default=v)(hP:∀x,P x↔K x v<0):a<=j/\j<e/\(∀p,a<=p->p<j->K ((swp M j a).getD p default) ((swp M j a).getD j default)<0)/\(∀q,j<q->q<e->¬K ((swp M j a).getD q default) ((swp M j a).getD j default)<0):=by
 have hlo:=h.lo;have hmid:=h.mid;have hhi:=h.hi
 have ej:(swp M j a).getD j default=v:=by
  rw[eP (by omega) (by omega)];split
  ·rename_i e;rw[e,hv]
  ·rw[if_pos rfl,hv]
 rw[ej];refine⟨by omega,by omega,λp h1 h2=>?_,λq h1 h2=>?_⟩
 ·rw[eP (by omega) (by omega)];by_cases e:p=a
  ·rw[if_pos e];exact(hP _).1 (h.up j (by omega) hji)
  ·rw[if_neg e,if_neg (by omega)];exact(hP _).1 (h.up p (by omega) (by omega))
 ·rw[eP (by omega) (by omega),if_neg (by omega),if_neg (by omega),<-hP];exact h.dn q h1 h2
theorem HI(hc:Cmp Tryz.prog f K G g caps){L:List α}{H:Hp}{b nx n a e pv:Nat}(hH:H b=some (L.map f))(hn:L.length=n)(hG:∀x∈L,G x)(hae:a<e)(hen:e<=n)(hn2:n<=1000000000)(hpv:a<=pv/\pv<e):
    Abs.Fn Tryz.prog 172 [.msl b n 1 0 n,.int .i64 a,.int .i64 e,.int .i64 pv,.func g caps] H nx λr H' nx'=>nx'=nx/\∃(L':List α)(m:Nat),r=.int .i64 m/\a<m/\m<=e/\H'=ar H b (L'.map f)/\PermR a e L L'/\(∀p,a<=p->p<m->¬K (L.getD pv default) (L'.getD p default)<0)/\(∀q,m<=q->q<e->K (L.getD pv default) (L'.getD q default)<0):=by
 have dcap:=hc.dcaps;obtain⟨v,hv0⟩:∃v,L.getD pv default=v:=⟨_,rfl⟩
 rw[hv0];obtain⟨P,hP⟩:∃P:α->Prop,∀x,P x↔ ¬K v x<0:=⟨_,λ_=>Iff.rfl⟩
 obtain⟨N,hN⟩:∃N,swp L a pv=N:=⟨_,rfl⟩
 have hp1:PermR a e L N:=hN▸PermR.swap (by omega) (by omega) (by omega)
 have hv1:N.getD a default=v:=by
  rw[<-hN,eP (by omega) (by omega),<-hv0];split
  ·rename_i h;rw[h]
  ·rw[if_pos rfl]
 obtain⟨M1,hl1,lm1,lm2⟩:=bW (f:=f) (M:=L) (i:=a) (j:=pv) (by omega) (by omega);rw[hN] at lm2;have lm3:=lm2;simp only[bC,br,dw,bP] at lm1 lm2;obtain⟨m,hm⟩:∃m,e=m+1:=⟨e-1,by omega⟩
 have te:(e:Int)-1=(m:Int):=by omega
 have ta:((a:Nat):Int)+1=((a+1:Nat):Int):=by omega
 refine fO Mh ?_;simp only[LH,aL];have zz:=aI @hH (aI @te (aI @ta (aI @bN (aI hc.cells (aI hc.one (aI @lm1 @lm2))))));repeat' (first|refine zW ?_|apply a_n|refine zO ?_|refine vZ ?_|refine stZ ?_|fail)
 refine bF (X:=Nat×Nat×List α) (λx=>[(0,.msl b n 1 0 n),(1,.int .i64 a),(4,.func g caps),(11,.int .i64 (x.1:Nat)),(12,.int .i64 (x.2.1:Nat))]) (λx H' nxx=>PartR P a e (x.2.1+1-x.1) x.1 x.2.1 x.2.2/\H'=ar H b (x.2.2.map f)/\nx=nxx/\PermR a e L x.2.2/\x.2.2.getD a default=v) (λx=>x.2.1+1-x.1) (a+1,m,N) ⟨by dsimp only;rw[hm];exact .start (by omega),by dsimp only;rw[aC,lm3],rfl,hp1,hv1⟩ ag0 ?_;clear zz;clear lm1 lm2 lm3 hl1 M1 hp1 hv1 hN N te ta hm m;rintro⟨i,j,M⟩ H' nxx ⟨hpt,rfl,rfl,hp,hv⟩;dsimp only at *;have hl:M.length=n:=by rw[hp.len,hn]
 have hGM:=hp.mem hG;generalize hmu:j+1-i=mu at hpt |-;clear hmu;obtain⟨T,hT,t0,t1,t4,t11,t12⟩:∃T,tl [(0,.msl b n 1 0 n),(1,.int .i64 a),(4,.func g caps),(11,.int .i64 (i:Nat)),(12,.int .i64 (j:Nat))]=T/\T 0=.msl b n 1 0 n/\T 1=.int .i64 a/\T 4=.func g caps/\T 11=.int .i64 (i:Nat)/\T 12=.int .i64 (j:Nat):=⟨_,rfl,rfl,rfl,rfl,rfl,rfl⟩
 rw[hT];clear hT;refine gv ?_;refine bn (λT H'' nx''=>∃i:Nat,PartR P a e mu i j M/\(i<=j->¬P (M.getD i default))/\T 0=.msl b n 1 0 n/\T 1=.int .i64 a/\T 4=.func g caps/\T 11=.int .i64 (i:Nat)/\T 12=.int .i64 (j:Nat)/\H''=ar H b ((M).map f)/\nx=nx'') ?_ ?_
 ·have zz:=aI @t0 (aI @t1 (aI @t4 (aI @t11 @t12)));repeat' (first|refine zW ?_|apply a_n|refine zO ?_|fail)
  refine bF (X:=Nat) (λi=>[(0,.msl b n 1 0 n),(1,.int .i64 a),(4,.func g caps),(11,.int .i64 (i:Nat)),(12,.int .i64 (j:Nat))]) (λi H' nxx=>PartR P a e mu i j M/\H'=ar H b (M.map f)/\nx=nxx) (λi=>j+1-i) i ⟨hpt,rfl,rfl⟩ (have zz:=aI @t0 (aI @t1 (aI @t4 (aI @t11 @t12)));agZ) ?_;clear zz;clear t0 t1 t4 t11 t12 hpt i;rintro i H' nxx ⟨hpt,rfl,rfl⟩;have hlo:=hpt.lo;have hmid:=hpt.mid;have hhi:=hpt.hi;have ii:((i:Nat):Int)+1=((i+1:Nat):Int):=by omega
  by_cases hij:j<i
  ·repeat' (first|refine zW ?_|refine zM ?_|apply a_n|apply a_x|refine zO ?_|refine vZ ?_|refine gFZ ?_|(refine zGZ ?_ ?_<;>(intro _hg;try (exfalso;omega)))|refine cFZ ?_|fail)
   exact⟨i,hpt,λh=>absurd h (by omega),rfl,rfl,rfl,rfl,rfl,rfl,rfl⟩
  have lc:=hc.run (M.getD (a) default) (M.getD (i) default) (hGM _ (aK (by omega))) (hGM _ (aK (by omega)));have e1:=hc.dat (M.getD (a) default);have e2:=hc.dat (M.getD (i) default);have hPk:P (M.getD (i) default)↔ ¬K (M.getD (a) default) (M.getD (i) default)<0:=by rw[hP,hv]
  generalize hKK:K (M.getD (a) default) (M.getD (i) default)=kk at lc hPk;by_cases hlt:kk<0
  ·have zz:=aI @ii (aI @bN (aI hc.cells hc.one));repeat' (first|refine zW ?_|refine zM ?_|apply a_n|apply a_x|refine zO ?_|refine vZ ?_|refine cZ ?_ (hp:=lc) (hs:=by(first|refine aG ?_ rfl|apply a9);(repeat' (first|exact ap|apply bI|apply bc|exact e1|exact e2|exact bq dcap));first|done|fail)|refine gTZ ?_|(refine zGZ ?_ ?_<;>(intro _hg;try (exfalso;omega)))|fail)
   exact⟨i,hpt,λ_=>(by rw[hPk];first|exact hlt|exact λh=>h hlt),rfl,rfl,rfl,rfl,rfl,rfl,rfl⟩
  ·have zz:=aI @ii (aI @bN (aI hc.cells hc.one));repeat' (first|refine zW ?_|refine zM ?_|apply a_n|refine zO ?_|refine vZ ?_|refine cZ ?_ (hp:=lc) (hs:=by(first|refine aG ?_ rfl|apply a9);(repeat' (first|exact ap|apply bI|apply bc|exact e1|exact e2|exact bq dcap));first|done|fail)|refine gTZ ?_|(refine zGZ ?_ ?_<;>(intro _hg;try (exfalso;omega)))|fail)
   exact⟨i+1,by omega,⟨hpt.stepUp (by omega) (by rw[hPk];exact hlt),rfl,rfl⟩,ag0⟩
 clear t0 t1 t4 t11 t12 hpt i;rintro T _ _ ⟨i,hpt,hni,t0,t1,t4,t11,t12,rfl,rfl⟩;refine bn (λT H'' nx''=>∃j:Nat,PartR P a e mu i j M/\(i<=j->¬P (M.getD i default))/\(i<=j->P (M.getD j default))/\T 0=.msl b n 1 0 n/\T 1=.int .i64 a/\T 4=.func g caps/\T 11=.int .i64 (i:Nat)/\T 12=.int .i64 (j:Nat)/\H''=ar H b ((M).map f)/\nx=nx'') ?_ ?_
 ·have zz:=aI @t0 (aI @t1 (aI @t4 (aI @t11 @t12)));repeat' (first|refine zW ?_|apply a_n|refine zO ?_|fail)
  refine bF (X:=Nat) (λj=>[(0,.msl b n 1 0 n),(1,.int .i64 a),(4,.func g caps),(11,.int .i64 (i:Nat)),(12,.int .i64 (j:Nat))]) (λj H' nxx=>PartR P a e mu i j M/\(i<=j->¬P (M.getD i default))/\H'=ar H b (M.map f)/\nx=nxx) (λj=>j) j ⟨hpt,hni,rfl,rfl⟩ (have zz:=aI @t0 (aI @t1 (aI @t4 (aI @t11 @t12)));agZ) ?_;clear zz;clear t0 t1 t4 t11 t12 hpt hni j;rintro j H' nxx ⟨hpt,hni,rfl,rfl⟩;have hlo:=hpt.lo;have hmid:=hpt.mid;have hhi:=hpt.hi;by_cases hij:j<i
  ·repeat' (first|refine zW ?_|refine zM ?_|apply a_n|apply a_x|refine zO ?_|refine vZ ?_|refine gFZ ?_|(refine zGZ ?_ ?_<;>(intro _hg;try (exfalso;omega)))|refine cFZ ?_|fail)
   exact⟨j,hpt,hni,λh=>absurd h (by omega),rfl,rfl,rfl,rfl,rfl,rfl,rfl⟩
  obtain⟨k,rfl⟩:∃k,j=k+1:=⟨j-1,by omega⟩
  have tk:((k+1:Nat):Int)-1=(k:Int):=by omega
  have lc:=hc.run (M.getD (a) default) (M.getD (k+1) default) (hGM _ (aK (by omega))) (hGM _ (aK (by omega)));have e1:=hc.dat (M.getD (a) default);have e2:=hc.dat (M.getD (k+1) default);have hPk:P (M.getD (k+1) default)↔ ¬K (M.getD (a) default) (M.getD (k+1) default)<0:=by rw[hP,hv]
  generalize hKK:K (M.getD (a) default) (M.getD (k+1) default)=kk at lc hPk;by_cases hlt:kk<0
  ·have zz:=aI @tk (aI @bN (aI hc.cells hc.one));repeat' (first|refine zW ?_|refine zM ?_|apply a_n|refine zO ?_|refine vZ ?_|refine cZ ?_ (hp:=lc) (hs:=by(first|refine aG ?_ rfl|apply a9);(repeat' (first|exact ap|apply bI|apply bc|exact e1|exact e2|exact bq dcap));first|done|fail)|refine gTZ ?_|(refine zGZ ?_ ?_<;>(intro _hg;try (exfalso;omega)))|fail)
   exact⟨k,by omega,⟨hpt.stepDn (by omega) (by rw[hPk];first|exact hlt|exact λh=>h hlt),λ_=>hni (by omega),rfl,rfl⟩,ag0⟩
  ·have zz:=aI @tk (aI @bN (aI hc.cells hc.one));repeat' (first|refine zW ?_|refine zM ?_|apply a_n|apply a_x|refine zO ?_|refine vZ ?_|refine cZ ?_ (hp:=lc) (hs:=by(first|refine aG ?_ rfl|apply a9);(repeat' (first|exact ap|apply bI|apply bc|exact e1|exact e2|exact bq dcap));first|done|fail)|refine gTZ ?_|(refine zGZ ?_ ?_<;>(intro _hg;try (exfalso;omega)))|fail)
   exact⟨k+1,hpt,hni,λ_=>(by rw[hPk];exact hlt),rfl,rfl,rfl,rfl,rfl,rfl,rfl⟩
 clear t0 t1 t4 t11 t12 hpt hni j;rintro T _ _ ⟨j,hpt,hni,hnj,t0,t1,t4,t11,t12,rfl,rfl⟩;have hlo:=hpt.lo;have hmid:=hpt.mid;have hhi:=hpt.hi;by_cases hji:j<i
 ·have zz:=aI @t0 (aI @t1 (aI @t4 (aI @t11 @t12)));repeat' (first|refine zW ?_|apply a_n|apply a_x|refine zO ?_|refine vZ ?_|(refine zGZ ?_ ?_<;>(intro _hg;try (exfalso;omega)))|refine b0 rfl ?_|refine r1Z ?_|fail)
  refine⟨rfl,M,i,rfl,by omega,by omega,rfl,hp,λp h1 h2=>?_,λq h1 h2=>by have:=hpt.dn q (by omega) h2;rw[hP] at this;exact ub this⟩;by_cases ep:p=a
  ·rw[ep,hv];exact hc.ord.irr _
  ·exact(hP _).1 (hpt.up p (by omega) h2)
 obtain⟨k,rfl⟩:∃k,j=k+1:=⟨j-1,by omega⟩
 have tk:((k+1:Nat):Int)-1=(k:Int):=by omega
 have ii:((i:Nat):Int)+1=((i+1:Nat):Int):=by omega
 obtain⟨M1,hl1,lm1,lm2⟩:=bW (f:=f) (M:=M) (i:=i) (j:=k+1) (by omega) (by omega);have lm3:=lm2;simp only[bC,br,dw,bP] at lm1 lm2;have zz:=aI @t0 (aI @t1 (aI @t4 (aI @t11 (aI @t12 (aI @tk (aI @ii (aI @bN (aI hc.cells (aI hc.one (aI @lm1 @lm2))))))))));repeat' (first|refine zW ?_|apply a_n|refine zO ?_|refine vZ ?_|refine stZ ?_|(refine zGZ ?_ ?_<;>(intro _hg;try (exfalso;omega)))|fail)
 obtain⟨hq1,hq2⟩:=hpt.swap (by omega) (by omega) (hni (by omega)) (hnj (by omega));exact⟨(i+1,k,swp M i (k+1)),hq2,⟨hq1,by dsimp only;rw[aC,aC,lm3],rfl,hp.trans (PermR.swap (by omega) (by omega) (by omega)),by dsimp only;rw[lj (by omega) (by omega) (by omega) (by omega)];exact hv⟩,(have zz:=aI @t0 (aI @t1 (aI @t4 (aI @t11 @t12)));agZ)⟩
theorem KY(hc:Cmp Tryz.prog f K G g caps){L:List α}{H:Hp}{b nx n a e pv:Nat}(hH:H b=some (L.map f))(hn:L.length=n)(hG:∀x∈L,G x)(hae:a<e)(hen:e<=n)(hn2:n<=1000000000)(hpv:a<=pv/\pv<e):
    Abs.Fn Tryz.prog 173 [.msl b n 1 0 n,.int .i64 a,.int .i64 e,.int .i64 pv,.func g caps] H nx λr H' nx'=>nx'=nx/\∃(L':List α)(m:Nat)(t:Bool),r=.tup [.int .i64 m,.bool t]/\a<=m/\m<e/\H'=ar H b (L'.map f)/\PermR a e L L'/\(∀p,a<=p->p<m->K (L'.getD p default) (L'.getD m default)<0)/\(∀q,m<q->q<e->¬K (L'.getD q default) (L'.getD m default)<0):=by
 have dcap:=hc.dcaps;obtain⟨v,hv0⟩:∃v,L.getD pv default=v:=⟨_,rfl⟩
 obtain⟨P,hP⟩:∃P:α->Prop,∀x,P x↔K x v<0:=⟨_,λ_=>Iff.rfl⟩
 obtain⟨M,hN⟩:∃N,swp L a pv=N:=⟨_,rfl⟩
 have hp:PermR a e L M:=hN▸PermR.swap (by omega) (by omega) (by omega)
 have hv:M.getD a default=v:=by
  rw[<-hN,eP (by omega) (by omega),<-hv0];split
  ·rename_i h;rw[h]
  ·rw[if_pos rfl]
 obtain⟨M1,hl1,lm1,lm2⟩:=bW (f:=f) (M:=L) (i:=a) (j:=pv) (by omega) (by omega);rw[hN] at lm2;have lm3:=lm2;simp only[bC,br,dw,bP] at lm1 lm2;obtain⟨m,hm⟩:∃m,e=m+1:=⟨e-1,by omega⟩
 have te:(e:Int)-1=(m:Int):=by omega
 have ta:((a:Nat):Int)+1=((a+1:Nat):Int):=by omega
 refine fO OB ?_;simp only[Lw,aL];refine bn (λT H'' nx''=>T 0=.msl b n 1 0 n/\T 1=.int .i64 a/\T 2=.int .i64 e/\T 3=.int .i64 pv/\T 4=.func g caps/\H=H''/\nx=nx'') ?_ ?_
 ·repeat' (first|apply a_n|refine zO ?_|refine vZ ?_|fail)
  exact⟨rfl,rfl,rfl,rfl,rfl,rfl,rfl⟩
 rintro T _ _ ⟨t0,t1,t2,t3,t4,rfl,rfl⟩;refine bn (λT H'' nx''=>T 0=.msl b n 1 0 n/\T 1=.int .i64 a/\T 2=.int .i64 e/\T 3=.int .i64 pv/\T 4=.func g caps/\H''=ar H b (M.map f)/\nx=nx'') ?_ ?_
 ·have zz:=aI @t0 (aI @t1 (aI @t2 (aI @t3 (aI @t4 (aI @hH (aI @bN (aI hc.cells (aI hc.one (aI @lm1 @lm2)))))))));repeat' (first|apply a_n|refine zO ?_|refine vZ ?_|refine stZ ?_|fail)
  exact⟨(have zz:=@t0;evZ),(have zz:=@t1;evZ),(have zz:=@t2;evZ),(have zz:=@t3;evZ),(have zz:=@t4;evZ),by rw[aC,lm3],rfl⟩
 clear t0 t1 t2 t3 t4 lm1 lm2 lm3 hl1 M1 hN;rintro T _ _ ⟨t0,t1,t2,t3,t4,rfl,rfl⟩;refine bn (λT H'' nx''=>∃mu i j:Nat,PartR P a e mu i j M/\T 0=.msl b n 1 0 n/\T 1=.int .i64 a/\T 4=.func g caps/\T 12=.int .i64 (i:Nat)/\T 13=.int .i64 (j:Nat)/\H''=ar H b ((M).map f)/\nx=nx'') ?_ ?_
 ·have zz:=aI @t0 (aI @t1 (aI @t2 (aI @t3 (aI @t4 (aI @ta @te)))));repeat' (first|apply a_n|refine zO ?_|refine vZ ?_|fail)
  exact⟨_,a+1,m,by rw[hm];exact .start (by omega),(have zz:=@t0;evZ),(have zz:=@t1;evZ),(have zz:=@t4;evZ),ev0,ev0,rfl,rfl⟩
 clear t0 t1 t2 t3 t4 ta te hm m;rintro T _ _ ⟨mu,i,j,hpt,t0,t1,t4,t12,t13,rfl,rfl⟩;have hl:M.length=n:=by rw[hp.len,hn]
 have hGM:=hp.mem hG;refine bn (λT H'' nx''=>∃i:Nat,PartR P a e mu i j M/\(i<=j->¬P (M.getD i default))/\T 0=.msl b n 1 0 n/\T 1=.int .i64 a/\T 4=.func g caps/\T 12=.int .i64 (i:Nat)/\T 13=.int .i64 (j:Nat)/\H''=ar H b ((M).map f)/\nx=nx'') ?_ ?_
 ·have zz:=aI @t0 (aI @t1 (aI @t4 (aI @t12 @t13)));repeat' (first|refine zW ?_|apply a_n|refine zO ?_|fail)
  refine bF (X:=Nat) (λi=>[(0,.msl b n 1 0 n),(1,.int .i64 a),(4,.func g caps),(12,.int .i64 (i:Nat)),(13,.int .i64 (j:Nat))]) (λi H' nxx=>PartR P a e mu i j M/\H'=ar H b (M.map f)/\nx=nxx) (λi=>j+1-i) i ⟨hpt,rfl,rfl⟩ (have zz:=aI @t0 (aI @t1 (aI @t4 (aI @t12 @t13)));agZ) ?_;clear zz;clear t0 t1 t4 t12 t13 hpt i;rintro i H' nxx ⟨hpt,rfl,rfl⟩;have hlo:=hpt.lo;have hmid:=hpt.mid;have hhi:=hpt.hi;have ii:((i:Nat):Int)+1=((i+1:Nat):Int):=by omega
  by_cases hij:j<i
  ·repeat' (first|refine zW ?_|refine zM ?_|apply a_n|apply a_x|refine zO ?_|refine vZ ?_|refine gFZ ?_|(refine zGZ ?_ ?_<;>(intro _hg;try (exfalso;omega)))|refine cFZ ?_|fail)
   exact⟨i,hpt,λh=>absurd h (by omega),rfl,rfl,rfl,rfl,rfl,rfl,rfl⟩
  have lc:=hc.run (M.getD (i) default) (M.getD (a) default) (hGM _ (aK (by omega))) (hGM _ (aK (by omega)));have e1:=hc.dat (M.getD (i) default);have e2:=hc.dat (M.getD (a) default);have hPk:P (M.getD (i) default)↔K (M.getD (i) default) (M.getD (a) default)<0:=by rw[hP,hv]
  generalize hKK:K (M.getD (i) default) (M.getD (a) default)=kk at lc hPk;by_cases hlt:kk<0
  ·have zz:=aI @ii (aI @bN (aI hc.cells hc.one));repeat' (first|refine zW ?_|refine zM ?_|apply a_n|refine zO ?_|refine vZ ?_|refine cZ ?_ (hp:=lc) (hs:=by(first|refine aG ?_ rfl|apply a9);(repeat' (first|exact ap|apply bI|apply bc|exact e1|exact e2|exact bq dcap));first|done|fail)|refine gTZ ?_|(refine zGZ ?_ ?_<;>(intro _hg;try (exfalso;omega)))|fail)
   exact⟨i+1,by omega,⟨hpt.stepUp (by omega) (by rw[hPk];exact hlt),rfl,rfl⟩,ag0⟩
  ·have zz:=aI @ii (aI @bN (aI hc.cells hc.one));repeat' (first|refine zW ?_|refine zM ?_|apply a_n|apply a_x|refine zO ?_|refine vZ ?_|refine cZ ?_ (hp:=lc) (hs:=by(first|refine aG ?_ rfl|apply a9);(repeat' (first|exact ap|apply bI|apply bc|exact e1|exact e2|exact bq dcap));first|done|fail)|refine gTZ ?_|(refine zGZ ?_ ?_<;>(intro _hg;try (exfalso;omega)))|fail)
   exact⟨i,hpt,λ_=>(by rw[hPk];first|exact hlt|exact λh=>h hlt),rfl,rfl,rfl,rfl,rfl,rfl,rfl⟩
 clear t0 t1 t4 t12 t13 hpt i;rintro T _ _ ⟨i,hpt,hni,t0,t1,t4,t12,t13,rfl,rfl⟩;refine bn (λT H'' nx''=>∃j:Nat,PartR P a e mu i j M/\(i<=j->¬P (M.getD i default))/\(i<=j->P (M.getD j default))/\T 0=.msl b n 1 0 n/\T 1=.int .i64 a/\T 4=.func g caps/\T 12=.int .i64 (i:Nat)/\T 13=.int .i64 (j:Nat)/\H''=ar H b ((M).map f)/\nx=nx'') ?_ ?_
 ·have zz:=aI @t0 (aI @t1 (aI @t4 (aI @t12 @t13)));repeat' (first|refine zW ?_|apply a_n|refine zO ?_|fail)
  refine bF (X:=Nat) (λj=>[(0,.msl b n 1 0 n),(1,.int .i64 a),(4,.func g caps),(12,.int .i64 (i:Nat)),(13,.int .i64 (j:Nat))]) (λj H' nxx=>PartR P a e mu i j M/\(i<=j->¬P (M.getD i default))/\H'=ar H b (M.map f)/\nx=nxx) (λj=>j) j ⟨hpt,hni,rfl,rfl⟩ (have zz:=aI @t0 (aI @t1 (aI @t4 (aI @t12 @t13)));agZ) ?_;clear zz;clear t0 t1 t4 t12 t13 hpt hni j;rintro j H' nxx ⟨hpt,hni,rfl,rfl⟩;have hlo:=hpt.lo;have hmid:=hpt.mid;have hhi:=hpt.hi;by_cases hij:j<i
  ·repeat' (first|refine zW ?_|refine zM ?_|apply a_n|apply a_x|refine zO ?_|refine vZ ?_|refine gFZ ?_|(refine zGZ ?_ ?_<;>(intro _hg;try (exfalso;omega)))|refine cFZ ?_|fail)
   exact⟨j,hpt,hni,λh=>absurd h (by omega),rfl,rfl,rfl,rfl,rfl,rfl,rfl⟩
  obtain⟨k,rfl⟩:∃k,j=k+1:=⟨j-1,by omega⟩
  have tk:((k+1:Nat):Int)-1=(k:Int):=by omega
  have lc:=hc.run (M.getD (k+1) default) (M.getD (a) default) (hGM _ (aK (by omega))) (hGM _ (aK (by omega)));have e1:=hc.dat (M.getD (k+1) default);have e2:=hc.dat (M.getD (a) default);have hPk:P (M.getD (k+1) default)↔K (M.getD (k+1) default) (M.getD (a) default)<0:=by rw[hP,hv]
  generalize hKK:K (M.getD (k+1) default) (M.getD (a) default)=kk at lc hPk;by_cases hlt:kk<0
  ·have zz:=aI @tk (aI @bN (aI hc.cells hc.one));repeat' (first|refine zW ?_|refine zM ?_|apply a_n|apply a_x|refine zO ?_|refine vZ ?_|refine cZ ?_ (hp:=lc) (hs:=by(first|refine aG ?_ rfl|apply a9);(repeat' (first|exact ap|apply bI|apply bc|exact e1|exact e2|exact bq dcap));first|done|fail)|refine gTZ ?_|(refine zGZ ?_ ?_<;>(intro _hg;try (exfalso;omega)))|fail)
   exact⟨k+1,hpt,hni,λ_=>(by rw[hPk];exact hlt),rfl,rfl,rfl,rfl,rfl,rfl,rfl⟩
  ·have zz:=aI @tk (aI @bN (aI hc.cells hc.one));repeat' (first|refine zW ?_|refine zM ?_|apply a_n|refine zO ?_|refine vZ ?_|refine cZ ?_ (hp:=lc) (hs:=by(first|refine aG ?_ rfl|apply a9);(repeat' (first|exact ap|apply bI|apply bc|exact e1|exact e2|exact bq dcap));first|done|fail)|refine gTZ ?_|(refine zGZ ?_ ?_<;>(intro _hg;try (exfalso;omega)))|fail)
   exact⟨k,by omega,⟨hpt.stepDn (by omega) (by rw[hPk];first|exact hlt|exact λh=>h hlt),λ_=>hni (by omega),rfl,rfl⟩,ag0⟩
 clear t0 t1 t4 t12 t13 hpt hni j;rintro T _ _ ⟨j,hpt,hni,hnj,t0,t1,t4,t12,t13,rfl,rfl⟩;have hlo:=hpt.lo;have hmid:=hpt.mid;have hhi:=hpt.hi;by_cases hji:j<i
 ·clear hni hnj;obtain⟨z1,z2,z3,z4⟩:=hpt.done hc.ord (by omega) hji hv hP;obtain⟨M1,hl1,lm1,lm2⟩:=bW (f:=f) (M:=M) (i:=j) (j:=a) (by omega) (by omega);have lm3:=lm2;simp only[bC,br,dw,bP] at lm1 lm2;have zz:=aI @t0 (aI @t1 (aI @t4 (aI @t12 (aI @t13 (aI @bN (aI hc.cells (aI hc.one (aI @lm1 @lm2))))))));repeat' (first|refine zW ?_|apply a_n|apply a_r|refine zO ?_|refine vZ ?_|refine stZ ?_|(refine zGZ ?_ ?_<;>(intro _hg;try (exfalso;omega)))|refine b0 rfl ?_|refine r2Z ?_|fail)
  exact⟨rfl,swp M j a,j,true,rfl,z1,z2,by rw[aC,aC,lm3],hp.trans (PermR.swap (by omega) (by omega) (by omega)),z3,z4⟩
 obtain⟨k,rfl⟩:∃k,j=k+1:=⟨j-1,by omega⟩
 have tk:((k+1:Nat):Int)-1=(k:Int):=by omega
 have ii:((i:Nat):Int)+1=((i+1:Nat):Int):=by omega
 obtain⟨M1,hl1,lm1,lm2⟩:=bW (f:=f) (M:=M) (i:=i) (j:=k+1) (by omega) (by omega);have lm3:=lm2;simp only[bC,br,dw,bP] at lm1 lm2;have zz:=aI @t0 (aI @t1 (aI @t4 (aI @t12 (aI @t13 (aI @tk (aI @ii (aI @bN (aI hc.cells (aI hc.one (aI @lm1 @lm2))))))))));repeat' (first|refine zW ?_|apply a_n|refine zO ?_|refine vZ ?_|refine stZ ?_|(refine zGZ ?_ ?_<;>(intro _hg;try (exfalso;omega)))|fail)
 obtain⟨hq1,hq2⟩:=hpt.swap (by omega) (by omega) (hni (by omega)) (hnj (by omega));have hp2:PermR a e L (swp M i (k+1)):=hp.trans (PermR.swap (by omega) (by omega) (by omega));have hv2:(swp M i (k+1)).getD a default=v:=by rw[lj (by omega) (by omega) (by omega) (by omega)];exact hv
 refine bF (X:=Nat×Nat×List α) (λx=>[(0,.msl b n 1 0 n),(1,.int .i64 a),(4,.func g caps),(12,.int .i64 (x.1:Nat)),(13,.int .i64 (x.2.1:Nat))]) (λx H' nxx=>PartR P a e (x.2.1+1-x.1) x.1 x.2.1 x.2.2/\H'=ar H b (x.2.2.map f)/\nx=nxx/\PermR a e L x.2.2/\x.2.2.getD a default=v) (λx=>x.2.1+1-x.1) (i+1,k,swp M i (k+1)) ⟨hq1,by dsimp only;rw[aC,aC,lm3],rfl,hp2,hv2⟩ (have zz:=aI @t0 (aI @t1 (aI @t4 (aI @t12 @t13)));agZ) ?_;clear zz;clear t0 t1 t4 t12 t13 lm1 lm2 lm3 hl1 M1 hp2 hv2 hq1 hq2 hpt hni hnj hp hv hGM;rintro⟨i,j,M⟩ H' nxx ⟨hpt,rfl,rfl,hp,hv⟩;dsimp only at *;have hl:M.length=n:=by rw[hp.len,hn]
 have hGM:=hp.mem hG;generalize hmu:j+1-i=mu at hpt |-;clear hmu;obtain⟨T,hT,t0,t1,t4,t12,t13⟩:∃T,tl [(0,.msl b n 1 0 n),(1,.int .i64 a),(4,.func g caps),(12,.int .i64 (i:Nat)),(13,.int .i64 (j:Nat))]=T/\T 0=.msl b n 1 0 n/\T 1=.int .i64 a/\T 4=.func g caps/\T 12=.int .i64 (i:Nat)/\T 13=.int .i64 (j:Nat):=⟨_,rfl,rfl,rfl,rfl,rfl,rfl⟩
 rw[hT];clear hT;refine gv ?_;refine bn (λT H'' nx''=>∃i:Nat,PartR P a e mu i j M/\(i<=j->¬P (M.getD i default))/\T 0=.msl b n 1 0 n/\T 1=.int .i64 a/\T 4=.func g caps/\T 12=.int .i64 (i:Nat)/\T 13=.int .i64 (j:Nat)/\H''=ar H b ((M).map f)/\nx=nx'') ?_ ?_
 ·have zz:=aI @t0 (aI @t1 (aI @t4 (aI @t12 @t13)));repeat' (first|refine zW ?_|apply a_n|refine zO ?_|fail)
  refine bF (X:=Nat) (λi=>[(0,.msl b n 1 0 n),(1,.int .i64 a),(4,.func g caps),(12,.int .i64 (i:Nat)),(13,.int .i64 (j:Nat))]) (λi H' nxx=>PartR P a e mu i j M/\H'=ar H b (M.map f)/\nx=nxx) (λi=>j+1-i) i ⟨hpt,rfl,rfl⟩ (have zz:=aI @t0 (aI @t1 (aI @t4 (aI @t12 @t13)));agZ) ?_;clear zz;clear t0 t1 t4 t12 t13 hpt i;rintro i H' nxx ⟨hpt,rfl,rfl⟩;have hlo:=hpt.lo;have hmid:=hpt.mid;have hhi:=hpt.hi;have ii:((i:Nat):Int)+1=((i+1:Nat):Int):=by omega
  by_cases hij:j<i
  ·repeat' (first|refine zW ?_|refine zM ?_|apply a_n|apply a_x|refine zO ?_|refine vZ ?_|refine gFZ ?_|(refine zGZ ?_ ?_<;>(intro _hg;try (exfalso;omega)))|refine cFZ ?_|fail)
   exact⟨i,hpt,λh=>absurd h (by omega),rfl,rfl,rfl,rfl,rfl,rfl,rfl⟩
  have lc:=hc.run (M.getD (i) default) (M.getD (a) default) (hGM _ (aK (by omega))) (hGM _ (aK (by omega)));have e1:=hc.dat (M.getD (i) default);have e2:=hc.dat (M.getD (a) default);have hPk:P (M.getD (i) default)↔K (M.getD (i) default) (M.getD (a) default)<0:=by rw[hP,hv]
  generalize hKK:K (M.getD (i) default) (M.getD (a) default)=kk at lc hPk;by_cases hlt:kk<0
  ·have zz:=aI @ii (aI @bN (aI hc.cells hc.one));repeat' (first|refine zW ?_|refine zM ?_|apply a_n|refine zO ?_|refine vZ ?_|refine cZ ?_ (hp:=lc) (hs:=by(first|refine aG ?_ rfl|apply a9);(repeat' (first|exact ap|apply bI|apply bc|exact e1|exact e2|exact bq dcap));first|done|fail)|refine gTZ ?_|(refine zGZ ?_ ?_<;>(intro _hg;try (exfalso;omega)))|fail)
   exact⟨i+1,by omega,⟨hpt.stepUp (by omega) (by rw[hPk];exact hlt),rfl,rfl⟩,ag0⟩
  ·have zz:=aI @ii (aI @bN (aI hc.cells hc.one));repeat' (first|refine zW ?_|refine zM ?_|apply a_n|apply a_x|refine zO ?_|refine vZ ?_|refine cZ ?_ (hp:=lc) (hs:=by(first|refine aG ?_ rfl|apply a9);(repeat' (first|exact ap|apply bI|apply bc|exact e1|exact e2|exact bq dcap));first|done|fail)|refine gTZ ?_|(refine zGZ ?_ ?_<;>(intro _hg;try (exfalso;omega)))|fail)
   exact⟨i,hpt,λ_=>(by rw[hPk];first|exact hlt|exact λh=>h hlt),rfl,rfl,rfl,rfl,rfl,rfl,rfl⟩
 clear t0 t1 t4 t12 t13 hpt i;rintro T _ _ ⟨i,hpt,hni,t0,t1,t4,t12,t13,rfl,rfl⟩;refine bn (λT H'' nx''=>∃j:Nat,PartR P a e mu i j M/\(i<=j->¬P (M.getD i default))/\(i<=j->P (M.getD j default))/\T 0=.msl b n 1 0 n/\T 1=.int .i64 a/\T 4=.func g caps/\T 12=.int .i64 (i:Nat)/\T 13=.int .i64 (j:Nat)/\H''=ar H b ((M).map f)/\nx=nx'') ?_ ?_
 ·have zz:=aI @t0 (aI @t1 (aI @t4 (aI @t12 @t13)));repeat' (first|refine zW ?_|apply a_n|refine zO ?_|fail)
  refine bF (X:=Nat) (λj=>[(0,.msl b n 1 0 n),(1,.int .i64 a),(4,.func g caps),(12,.int .i64 (i:Nat)),(13,.int .i64 (j:Nat))]) (λj H' nxx=>PartR P a e mu i j M/\(i<=j->¬P (M.getD i default))/\H'=ar H b (M.map f)/\nx=nxx) (λj=>j) j ⟨hpt,hni,rfl,rfl⟩ (have zz:=aI @t0 (aI @t1 (aI @t4 (aI @t12 @t13)));agZ) ?_;clear zz;clear t0 t1 t4 t12 t13 hpt hni j;rintro j H' nxx ⟨hpt,hni,rfl,rfl⟩;have hlo:=hpt.lo;have hmid:=hpt.mid;have hhi:=hpt.hi;by_cases hij:j<i
  ·repeat' (first|refine zW ?_|refine zM ?_|apply a_n|apply a_x|refine zO ?_|refine vZ ?_|refine gFZ ?_|(refine zGZ ?_ ?_<;>(intro _hg;try (exfalso;omega)))|refine cFZ ?_|fail)
   exact⟨j,hpt,hni,λh=>absurd h (by omega),rfl,rfl,rfl,rfl,rfl,rfl,rfl⟩
  obtain⟨k,rfl⟩:∃k,j=k+1:=⟨j-1,by omega⟩
  have tk:((k+1:Nat):Int)-1=(k:Int):=by omega
  have lc:=hc.run (M.getD (k+1) default) (M.getD (a) default) (hGM _ (aK (by omega))) (hGM _ (aK (by omega)));have e1:=hc.dat (M.getD (k+1) default);have e2:=hc.dat (M.getD (a) default);have hPk:P (M.getD (k+1) default)↔K (M.getD (k+1) default) (M.getD (a) default)<0:=by rw[hP,hv]
  generalize hKK:K (M.getD (k+1) default) (M.getD (a) default)=kk at lc hPk;by_cases hlt:kk<0
  ·have zz:=aI @tk (aI @bN (aI hc.cells hc.one));repeat' (first|refine zW ?_|refine zM ?_|apply a_n|apply a_x|refine zO ?_|refine vZ ?_|refine cZ ?_ (hp:=lc) (hs:=by(first|refine aG ?_ rfl|apply a9);(repeat' (first|exact ap|apply bI|apply bc|exact e1|exact e2|exact bq dcap));first|done|fail)|refine gTZ ?_|(refine zGZ ?_ ?_<;>(intro _hg;try (exfalso;omega)))|fail)
   exact⟨k+1,hpt,hni,λ_=>(by rw[hPk];exact hlt),rfl,rfl,rfl,rfl,rfl,rfl,rfl⟩
  ·have zz:=aI @tk (aI @bN (aI hc.cells hc.one));repeat' (first|refine zW ?_|refine zM ?_|apply a_n|refine zO ?_|refine vZ ?_|refine cZ ?_ (hp:=lc) (hs:=by(first|refine aG ?_ rfl|apply a9);(repeat' (first|exact ap|apply bI|apply bc|exact e1|exact e2|exact bq dcap));first|done|fail)|refine gTZ ?_|(refine zGZ ?_ ?_<;>(intro _hg;try (exfalso;omega)))|fail)
   exact⟨k,by omega,⟨hpt.stepDn (by omega) (by rw[hPk];first|exact hlt|exact λh=>h hlt),λ_=>hni (by omega),rfl,rfl⟩,ag0⟩
 clear t0 t1 t4 t12 t13 hpt hni j;rintro T _ _ ⟨j,hpt,hni,hnj,t0,t1,t4,t12,t13,rfl,rfl⟩;have hlo:=hpt.lo;have hmid:=hpt.mid;have hhi:=hpt.hi;by_cases hji:j<i
 ·clear hni hnj;obtain⟨z1,z2,z3,z4⟩:=hpt.done hc.ord (by omega) hji hv hP;obtain⟨M1,hl1,lm1,lm2⟩:=bW (f:=f) (M:=M) (i:=j) (j:=a) (by omega) (by omega);have lm3:=lm2;simp only[bC,br,dw,bP] at lm1 lm2;have zz:=aI @t0 (aI @t1 (aI @t4 (aI @t12 (aI @t13 (aI @bN (aI hc.cells (aI hc.one (aI @lm1 @lm2))))))));repeat' (first|refine zW ?_|apply a_n|apply a_x|refine zO ?_|refine vZ ?_|refine stZ ?_|(refine zGZ ?_ ?_<;>(intro _hg;try (exfalso;omega)))|refine b0 rfl ?_|refine r2Z ?_|fail)
  exact⟨rfl,swp M j a,j,false,rfl,z1,z2,by rw[aC,aC,lm3],hp.trans (PermR.swap (by omega) (by omega) (by omega)),z3,z4⟩
 obtain⟨k,rfl⟩:∃k,j=k+1:=⟨j-1,by omega⟩
 have tk:((k+1:Nat):Int)-1=(k:Int):=by omega
 have ii:((i:Nat):Int)+1=((i+1:Nat):Int):=by omega
 obtain⟨M1,hl1,lm1,lm2⟩:=bW (f:=f) (M:=M) (i:=i) (j:=k+1) (by omega) (by omega);have lm3:=lm2;simp only[bC,br,dw,bP] at lm1 lm2;have zz:=aI @t0 (aI @t1 (aI @t4 (aI @t12 (aI @t13 (aI @tk (aI @ii (aI @bN (aI hc.cells (aI hc.one (aI @lm1 @lm2))))))))));repeat' (first|refine zW ?_|apply a_n|refine zO ?_|refine vZ ?_|refine stZ ?_|(refine zGZ ?_ ?_<;>(intro _hg;try (exfalso;omega)))|fail)
 obtain⟨hq1,hq2⟩:=hpt.swap (by omega) (by omega) (hni (by omega)) (hnj (by omega));exact⟨(i+1,k,swp M i (k+1)),hq2,⟨hq1,by dsimp only;rw[aC,aC,lm3],rfl,hp.trans (PermR.swap (by omega) (by omega) (by omega)),by dsimp only;rw[lj (by omega) (by omega) (by omega) (by omega)];exact hv⟩,(have zz:=aI @t0 (aI @t1 (aI @t4 (aI @t12 @t13)));agZ)⟩
end
section
attribute [local irreducible] aO am bf aZ aR aS aE aU a5 bk Go.Abs.Fn aY Go.Abs.Pure au aN Yl
section
end
theorem K3(a b:Spx)(ha:bR cu a)(hb:bR cu b)(la:a.length<=1000000)(lb:b.length<=1000000):pU 158 [aF a,aF b] (.bool (fH a b)):=by
 refine pO Nj ?_;simp only[Oi,aL];refine wnZ @az ?_;refine bF (X:=Nat×Nat) (λx=>[(1,aF (b.drop x.2)),(7,aF a),(8,.int .i64 a.length),(9,.int .i64 x.1)]) (λx H nx=>x.1<=a.length/\x.2<=b.length/\(∀i,i<x.1->decide (a.getD i default∈b)=true)/\∀i m,i<x.2->x.1<=m->m<a.length->b.getD i default≠a.getD m default) (λx=>a.length-x.1) (0,0) ⟨bQ _,bQ _,λi h=>absurd h (by omega),λi m h=>absurd h (by omega)⟩ (by simp (disch:=omega) only[agr,ZG,reduceEqDiff,↓reduceIte,List.drop_zero]) ?_;rintro⟨k,j⟩ H nx ⟨h1,h2,h3,h4⟩;dsimp only at h1 h2 h3 h4 |-;by_cases hk:k<a.length
 rotate_left
 ·refine wnY and_self ?_;exact ct (lf λi hi=>h3 i (by omega)).symm
 have ix:=ix2 hk;have hlt:∀m,k<m->m<a.length->cu (a.getD k default) (a.getD m default)<0:=λm h5 h6=>ec ha h5 h6;have hkm:∀j',(∀i,i<j'->b.getD i default≠a.getD k default)->b.length<=j'->decide (a.getD k default∈b)=false:=λj' h5 h6=>ba (BC λi hi=>h5 i (by omega));have hall:decide (a.getD k default∈b)=false->fH a b=false:=λh=>jA hk h;have hdec:=λi=>yS (b.getD i default) (a.getD k default);have h40:=λi hi=>h4 i k hi (aM _) hk;generalize hv:a.getD k default=v at *;refine wnY @ix ?_;refine bF (X:=Nat) (λj'=>[(1,aF (b.drop j')),(6,.ptr nx 2 0),(7,aF a),(8,.int .i64 a.length),(9,.int .i64 k)]) (λj' H' nx'=>j'<=b.length/\H' nx=some [.int .i64 v.color,.int .i64 v.label]/\nx<nx'/\∀i,i<j'->b.getD i default≠v) (λj'=>b.length-j') j ⟨h2,by rw[af];rfl,by omega,h40⟩ (by simp (disch:=omega) only[agr,ZG,reduceEqDiff,↓reduceIte,br,dw,bP,reduceAdd]) ?_;rintro j' H' nx' ⟨k1,g0,hnx,k2⟩;have hlen:(b.drop j').length=b.length-j':=Gd ..;by_cases hj:j'<b.length
 rotate_left
 ·have z1:decide (0<((b.drop j').length:Int))=false:=ba (by omega);have z2:decide (((b.drop j').length:Int)=0)=true:=a6 (by omega);rw[hall (hkm j' k2 (by omega))];refine wnY (zI3 @az @z1 @z2) ?_;exact .bool _
 have z1:decide (0<((b.drop j').length:Int))=true:=a6 (by omega);have z2:decide (((b.drop j').length:Int)=0)=false:=ba (by omega);have iy:=ix2 (l:=b.drop j') (k:=0) (by omega);rw[DI hj,show((0:Nat):Int)=0 from rfl] at iy;have hd:=hdec j';by_cases he:b.getD j' default=v
 ·rw[a6 he] at hd;refine wnY (zI7 @az @z1 @z2 @iy @g0 @acn @hd) ?_;refine⟨(k+1,j'),by dsimp only;omega,⟨by dsimp only;omega,by dsimp only;omega,λi hi=>?_,λi m h5 h6 h7 e=>?_⟩,ag0⟩
  ·rcases jX.1 hi with h'|rfl
   ·exact h3 i h'
   ·rw[hv,<-he];exact a6 (aA hj)
  ·have q1:=ec hb h5 hj;have q2:=hlt m (by dsimp only at h6;omega) h7;rw[e,he] at q1;exact Ce.ord.asym _ _ q1 q2
 ·rw[ba he] at hd
  have hs:lF 2 (aF (b.drop j')) (some (.int .i64 1)) none none=some (aF (b.drop (j'+1))):=by
   have:=jo (sz:=2) (f:=dX) (l:=b.drop j') (k:=1) (by omega);rw[List.drop_drop] at this;exact this
  refine wnY (zI8 @az @z1 @z2 @iy @g0 @acn @hd @hs) ?_
  exact ⟨j' + 1,by omega,⟨by omega,g0,hnx,fun i hi=>by
   rcases jX.1 hi with h'|rfl
   ·exact k2 i h'
   ·exact he⟩,ag0⟩
section
variable{α:Type}[Inhabited α]{f:α->AV}{K:α->α->Int}{G:α->Prop}{g:Nat}{caps:List AV}
theorem uk(hc:Cmp Tryz.prog f K G g caps){L:List α}{H:Hp}{b c nx n i j k s lo hi:Nat}(hH:H b=some (L.map f))(hbc:b≠c)(hcc:H c=some [.int .i64 (s:Nat)])(hn:L.length=n)(hG:∀x∈L,G x)(hi1:lo<=i/\i<hi)(hj1:lo<=j/\j<hi)(hk1:lo<=k/\k<hi)(hhi:hi<=n)(hn2:n<=1000000000)(hs:s<=50):
    Abs.Fn Tryz.prog 201 [.msl b n 1 0 n,.int .i64 i,.int .i64 j,.int .i64 k,.ptr c 1 0,.func g caps] H nx λr H' nx'=>nx'=nx/\∃p s':Nat,r=.int .i64 p/\lo<=p/\p<hi/\s'<=s+3/\H'=ar H c [.int .i64 s']:=by
 refine fO NF ?_;simp only[Mr,aL];refine wnZ and_self ?_;refine aQ ev0 ev0 (uy hc (b:=b) hH hcc hn hG (i:=i) (j:=j) (by omega) (by omega) hn2 (by omega)) ?_;rintro _ _ _ ⟨rfl,i1,j1,s1,rfl,h1,hs1,rfl⟩;refine wnZ and_self ?_;refine aQ ev0 ev0 (uy hc (b:=b) (by rw[ae hbc];exact hH) af hn hG (i:=j1) (j:=k) (by omega) (by omega) hn2 (by omega)) ?_;rintro _ _ _ ⟨rfl,j2,k2,s2,rfl,h2,hs2,rfl⟩;refine wnZ and_self ?_;refine aQ ev0 ev0 (uy hc (b:=b) (by rw[aC,ae hbc];exact hH) af hn hG (i:=i1) (j:=j2) (by omega) (by omega) hn2 (by omega)) ?_;rintro _ _ _ ⟨rfl,i3,j3,s3,rfl,h3,hs3,rfl⟩;refine wnZ and_self ?_;exact⟨rfl,j3,s3,rfl,by omega,by omega,by omega,by rw[aC,aC]⟩
theorem tV(hc:Cmp Tryz.prog f K G g caps){L:List α}{H:Hp}{b c nx n i s lo hi:Nat}(hH:H b=some (L.map f))(hbc:b≠c)(hcc:H c=some [.int .i64 (s:Nat)])(hn:L.length=n)(hG:∀x∈L,G x)(hi1:lo+1<=i/\i+1<hi)(hhi:hi<=n)(hn2:n<=1000000000)(hs:s<=50):
    Abs.Fn Tryz.prog 200 [.msl b n 1 0 n,.int .i64 i,.ptr c 1 0,.func g caps] H nx λr H' nx'=>nx'=nx/\∃p s':Nat,r=.int .i64 p/\lo<=p/\p<hi/\s'<=s+3/\H'=ar H c [.int .i64 s']:=by
 obtain⟨m,rfl⟩:∃m,i=m+1:=⟨i-1,by omega⟩
 have t1:((m+1:Nat):Int)-1=(m:Int):=by omega
 have t2:((m+1:Nat):Int)+1=((m+1+1:Nat):Int):=by omega
 refine fO LN ?_;simp only[LZ,aL];refine wnZ (aI @t1 @t2) ?_;refine aQ ev0 ev0 (uk hc (b:=b) hH hbc hcc hn hG (i:=m) (j:=m+1) (k:=m+1+1) (lo:=lo) (hi:=hi) (by omega) (by omega) (by omega) hhi hn2 hs) ?_;rintro _ _ _ ⟨rfl,p,s1,rfl,h1,h2,hs1,rfl⟩;refine wnZ and_self ?_;exact⟨rfl,p,s1,rfl,h1,h2,hs1,rfl⟩
theorem Gj(hc:Cmp Tryz.prog f K G g caps){L:List α}{H:Hp}{b nx n a e:Nat}(hH:H b=some (L.map f))(hbx:b<nx)(hn:L.length=n)(hG:∀x∈L,G x)(hae:a+8<=e)(hen:e<=n)(hn2:n<=1000000000):
    Abs.Fn Tryz.prog 169 [.msl b n 1 0 n,.int .i64 a,.int .i64 e,.func g caps] H nx λr H' nx'=>nx'=nx+1/\∃(p:Nat)(hint:Int)(v:List AV),r=.tup [.int .i64 p,.int .i64 hint]/\a<=p/\p<e/\H'=ar H nx v:=by
 obtain⟨l,rfl⟩:∃l,e=a+l:=⟨e-a,by omega⟩
 have te:((a+l:Nat):Int)-(a:Int)=(l:Int):=by omega
 obtain⟨q,hq⟩:∃q,l/4=q:=⟨_,rfl⟩
 have tq:bv .quo false false (.int .i64 (l:Int)) (.int .i64 4)=some (.int .i64 (q:Int)):=by
  rw[jr (by omega) (by omega) (by omega)]
  congr 2
  omega
 have w1:(a:Int)+(q:Int)*1=((a+q:Nat):Int):=by omega
 have w2:(a:Int)+(q:Int)*2=((a+q*2:Nat):Int):=by omega
 have w3:(a:Int)+(q:Int)*3=((a+q*3:Nat):Int):=by omega
 have hbn:b≠nx:=by omega
 refine fO ML ?_;simp only[Mo,aL];have last:∀(s:Nat)(H1:Hp),H1=ar (ar H nx [.int .i64 0]) nx [.int .i64 s]->H1 nx=some [.int .i64 (s:Nat)]:=λs H1 h=>by rw[h];exact af
 have hHn:∀v,ar H nx v b=some (L.map f):=λv=>by rw[ae hbn];exact hH
 by_cases h50:50<=l
 ·refine wnZ (zI5 @te @tq @w1 @w2 @w3) ?_;refine aQ ev0 ev0 (tV hc (b:=b) (c:=nx) (s:=0) (i:=a+q) (lo:=a) (hi:=a+l) (hHn _) hbn af hn hG (by omega) (by omega) hn2 (by omega)) ?_;rintro _ _ _ ⟨rfl,p1,s1,rfl,k1,k2,hs1,rfl⟩;rw[aC];refine wnZ and_self ?_;refine aQ ev0 ev0 (tV hc (b:=b) (c:=nx) (s:=s1) (i:=a+q*2) (lo:=a) (hi:=a+l) (hHn _) hbn af hn hG (by omega) (by omega) hn2 (by omega)) ?_;rintro _ _ _ ⟨rfl,p2,s2,rfl,k3,k4,hs2,rfl⟩;rw[aC];refine wnZ and_self ?_;refine aQ ev0 ev0 (tV hc (b:=b) (c:=nx) (s:=s2) (i:=a+q*3) (lo:=a) (hi:=a+l) (hHn _) hbn af hn hG (by omega) (by omega) hn2 (by omega)) ?_;rintro _ _ _ ⟨rfl,p3,s3,rfl,k5,k6,hs3,rfl⟩;rw[aC];refine wnZ and_self ?_;refine aQ ev0 ev0 (uk hc (b:=b) (c:=nx) (s:=s3) (i:=p1) (j:=p2) (k:=p3) (lo:=a) (hi:=a+l) (hHn _) hbn af hn hG (by omega) (by omega) (by omega) (by omega) hn2 (by omega)) ?_;rintro _ _ _ ⟨rfl,p4,s4,rfl,k7,k8,hs4,rfl⟩;rw[aC]
  repeat' (first|refine zW ?_|apply a_n|refine zO ?_|refine vZ ?_|(refine zGZ ?_ ?_<;>(intro _hg;try (exfalso;omega)))|refine b0 rfl ?_|refine r2Z ?_|fail)
  all_goals exact⟨rfl,p4,_,_,rfl,by omega,by omega,rfl⟩
 ·refine wnZ (zI5 @te @tq @w1 @w2 @w3) ?_;refine aQ ev0 ev0 (uk hc (b:=b) (c:=nx) (s:=0) (i:=a+q) (j:=a+q*2) (k:=a+q*3) (lo:=a) (hi:=a+l) (hHn _) hbn af hn hG (by omega) (by omega) (by omega) (by omega) hn2 (by omega)) ?_;rintro _ _ _ ⟨rfl,p4,s4,rfl,k7,k8,hs4,rfl⟩;rw[aC]
  repeat' (first|refine zW ?_|apply a_n|refine zO ?_|refine vZ ?_|(refine zGZ ?_ ?_<;>(intro _hg;try (exfalso;omega)))|refine b0 rfl ?_|refine r2Z ?_|fail)
  all_goals exact⟨rfl,p4,_,_,rfl,by omega,by omega,rfl⟩
end
end
end Go.Proofs.YtekdaafnjdlenaaGreat
namespace Go.Proofs.YtekdaafnjdlenaaGreat
open Go Go.Abs
def ph(x:Nat):Nat:=if x=0 then 0 else Nat.log2 x+1
def sO:ByteArray:=ByteArray.mk (Array.mk [0,1,2,2,3,3,3,3,4,4,4,4,4,4,4,4,5,5,5,5,5,5,5,5,5,5,5,5,5,5,5,5,6,6,6,6,6,6,6,6,6,6,6,6,6,6,6,6,6,6,6,6,6,6,6,6,6,6,6,6,6,6,6,6,7,7,7,7,7,7,7,7,7,7,7,7,7,7,7,7,7,7,7,7,7,7,7,7,7,7,7,7,7,7,7,7,7,7,7,7,7,7,7,7,7,7,7,7,7,7,7,7,7,7,7,7,7,7,7,7,7,7,7,7,7,7,7,7,8,8,8,8,8,8,8,8,8,8,8,8,8,8,8,8,8,8,8,8,8,8,8,8,8,8,8,8,8,8,8,8,8,8,8,8,8,8,8,8,8,8,8,8,8,8,8,8,8,8,8,8,8,8,8,8,8,8,8,8,8,8,8,8,8,8,8,8,8,8,8,8,8,8,8,8,8,8,8,8,8,8,8,8,8,8,8,8,8,8,8,8,8,8,8,8,8,8,8,8,8,8,8,8,8,8,8,8,8,8,8,8,8,8,8,8,8,8,8,8,8,8,8,8,8,8,8,8])
theorem Jj(x:Nat):x<2^ph x:=by
 unfold ph;split
 ·omega
 ·exact Nat.lt_log2_self
theorem Dq{x:Nat}(h:0<x):2^ph x<=2*x:=by
 unfold ph;rw[if_neg (by omega),Nat.pow_succ];have:=Nat.log2_self_le (n:=x) (by omega);omega
theorem AG{x:Nat}(hx:x<256):oT (.str (ByteArray.mk (Array.mk [0,1,2,2,3,3,3,3,4,4,4,4,4,4,4,4,5,5,5,5,5,5,5,5,5,5,5,5,5,5,5,5,6,6,6,6,6,6,6,6,6,6,6,6,6,6,6,6,6,6,6,6,6,6,6,6,6,6,6,6,6,6,6,6,7,7,7,7,7,7,7,7,7,7,7,7,7,7,7,7,7,7,7,7,7,7,7,7,7,7,7,7,7,7,7,7,7,7,7,7,7,7,7,7,7,7,7,7,7,7,7,7,7,7,7,7,7,7,7,7,7,7,7,7,7,7,7,7,8,8,8,8,8,8,8,8,8,8,8,8,8,8,8,8,8,8,8,8,8,8,8,8,8,8,8,8,8,8,8,8,8,8,8,8,8,8,8,8,8,8,8,8,8,8,8,8,8,8,8,8,8,8,8,8,8,8,8,8,8,8,8,8,8,8,8,8,8,8,8,8,8,8,8,8,8,8,8,8,8,8,8,8,8,8,8,8,8,8,8,8,8,8,8,8,8,8,8,8,8,8,8,8,8,8,8,8,8,8,8,8,8,8,8,8,8,8,8,8,8,8,8,8,8,8,8,8]))) (.int .u8 (x:Nat))=some (.int .u8 (ph x:Nat)):=by
 have h1:sO.size=256:=by decide+kernel
 have h2:∀i:Fin 256,(sO[i.val]?.getD 0).toNat=ph i.val:=by decide+kernel
 rw[SV2.2];have h3:=h2 ⟨x,hx⟩;change (if 0<=(x:Int)/\(x:Int)<sO.size then some (AV.int .u8 (sO[(x:Int).toNat]?.getD 0).toNat) else none)=_;rw[if_pos ⟨by omega,by rw[h1];omega⟩,bN];simp only at h3;rw[h3]
theorem sA{x s k:Nat}(hk:k=ph (x/2^s))(h:0<x/2^s):x<2^(k+s)/\2^(k+s)<=2*x:=by
 subst hk;have h1:=Jj (x/2^s);have h2:=Dq h;have hp:0<2^s:=Nat.pow_pos (by omega);rw[Nat.pow_add];constructor
 ·have:=(Nat.div_lt_iff_lt_mul hp).1 h1;exact this
 ·calc 2^ph (x/2^s)*2^s<=2*(x/2^s)*2^s:=mz _ h2
    _=2*(x/2^s*2^s):=by rw[Nat.mul_assoc]
    _<=2*x:=Nat.mul_le_mul_left _ (Nat.div_mul_le_self x (2^s))
theorem lS{x:Nat}(hx:x<256):ph x<=8:=by
 rcases vA x with e|e
 ·subst e;decide
 ·have h:=Dq e;rcases tn 8 (ph x) with h1|h1
  ·have:=Nat.pow_le_pow_right (n:=2) (by omega) h1;omega
  ·exact h1
theorem fB{x:Int}(h:0<=x)(h2:x<18446744073709551616):IntKind.wrap .u64 x=x:=by
 simp only[IntKind.bits,IntKind.wrap,IntKind.signed];simp;omega
theorem uK{x:Int}(h:0<=x)(h2:x<256):IntKind.wrap .u8 x=x:=by
 simp only[IntKind.bits,IntKind.wrap,IntKind.signed];simp;omega
def xr(a b:Int):Int:=IntKind.wrap .u64 (BitVec.ofInt 64 a ^^^ BitVec.ofInt 64 b).toNat
def Ml(a:Int):Int:=IntKind.wrap .u64 (a*2^13)
def Nz(a:Int):Int:=IntKind.wrap .u64 (a*2^17)
def sr7(a:Int):Int:=a.fdiv (2^7)
theorem SX:(∀a b:Int,bv .xor false false (.int .u64 a) (.int .u64 b)=some (.int .u64 (xr a b)))/\(∀a:Int,bv .shl false false (.int .u64 a) (.int .u64 13)=some (.int .u64 (Ml a)))/\
    (∀a:Int,bv .shl false false (.int .u64 a) (.int .u64 17)=some (.int .u64 (Nz a)))/\(∀a:Int,bv .shr false false (.int .u64 a) (.int .u64 7)=some (.int .u64 (sr7 a))):=
 ⟨λ_ _=>rfl,λ_=>rfl,λ_=>rfl,λ_=>rfl⟩
attribute [irreducible] xr Ml Nz sr7
attribute [local irreducible] aO am bf aZ aR aS aE aU a5 bk Go.Abs.Fn aY Go.Abs.Pure au aN Yl
theorem GK{H:Hp}{c nx:Nat}{s:Int}(hcc:H c=some [.int .u64 s]):Abs.Fn Tryz.prog 199 [.ptr c 1 0] H nx λr H' nx'=>nx'=nx/\∃s':Int,r=.int .u64 s'/\H'=ar H c [.int .u64 s']:=by
 refine fO Mz ?_;simp only[MS,aL];have ls:∀x y:AV,bC [x] 0 [y]=[y]:=λ_ _=>rfl;simp only[bC,br,dw,bP] at ls;refine wnZ (zI4 @hcc @SV3 @SX @ls) ?_;exact⟨rfl,_,rfl,by rw[aC,aC];rfl⟩
set_option maxRecDepth 100000 in
theorem Jg{H:Hp}{nx x:Nat}(hx:0<x)(h2:x<4294967296):Abs.Fn Tryz.prog 175 [.int .u64 x] H nx λr H' nx'=>nx'=nx/\H'=H/\∃k:Nat,r=.int .i64 k/\x<2^k/\2^k<=2*x:=by
 refine fO JO ?_;simp only[J5,aL];generalize hT:AV.str (ByteArray.mk (Array.mk [0,1,2,2,3,3,3,3,4,4,4,4,4,4,4,4,5,5,5,5,5,5,5,5,5,5,5,5,5,5,5,5,6,6,6,6,6,6,6,6,6,6,6,6,6,6,6,6,6,6,6,6,6,6,6,6,6,6,6,6,6,6,6,6,7,7,7,7,7,7,7,7,7,7,7,7,7,7,7,7,7,7,7,7,7,7,7,7,7,7,7,7,7,7,7,7,7,7,7,7,7,7,7,7,7,7,7,7,7,7,7,7,7,7,7,7,7,7,7,7,7,7,7,7,7,7,7,7,8,8,8,8,8,8,8,8,8,8,8,8,8,8,8,8,8,8,8,8,8,8,8,8,8,8,8,8,8,8,8,8,8,8,8,8,8,8,8,8,8,8,8,8,8,8,8,8,8,8,8,8,8,8,8,8,8,8,8,8,8,8,8,8,8,8,8,8,8,8,8,8,8,8,8,8,8,8,8,8,8,8,8,8,8,8,8,8,8,8,8,8,8,8,8,8,8,8,8,8,8,8,8,8,8,8,8,8,8,8,8,8,8,8,8,8,8,8,8,8,8,8,8,8,8,8,8,8]))=tb;have htab:∀x:Nat,x<256->oT tb (.int .u8 (x:Nat))=some (.int .u8 (ph x:Nat)):=λx hx=>by rw[<-hT];exact AG hx
 clear hT;have s16:∀z:Nat,bv .shr false false (.int .u64 (z:Nat)) (.int .u64 16)=some (.int .u64 ((z/2^16:Nat):Int)):=λz=>xR (b:=16) (k:=.u64) (k':=.u64) (by decide);have s8:∀z:Nat,bv .shr false false (.int .u64 (z:Nat)) (.int .u64 8)=some (.int .u64 ((z/2^8:Nat):Int)):=λz=>xR (b:=8) (k:=.u64) (k':=.u64) (by decide);by_cases h16:65536<=x
 ·obtain⟨y,hy⟩:∃y,x/2^16=y:=⟨_,rfl⟩
  have hy1:0<y:=by omega
  have hy2:y<65536:=by omega
  by_cases h8:256<=y
  ·obtain⟨z,hz⟩:∃z,y/2^8=z:=⟨_,rfl⟩
   have hz1:0<z:=by omega
   have hz2:z<256:=by omega
   have hl:=lS hz2;have w8:IntKind.wrap .u8 (z:Int)=z:=uK (by omega) (by omega);have ht:=htab z hz2;refine wnZ (zI6 @s16 @s8 @hy @hz @w8 @ht) ?_;have e:x/2^24=z:=by rw[<-hz,<-hy,Nat.div_div_eq_div_mul]
   exact⟨rfl,rfl,ph z+24,by congr 1;omega,sA (by rw[e]) (by omega)⟩
  ·have hl:=lS (x:=y) (by omega);have w8:IntKind.wrap .u8 (y:Int)=y:=uK (by omega) (by omega);have ht:=htab y (by omega);refine wnZ (zI5 @s16 @s8 @hy @w8 @ht) ?_;exact⟨rfl,rfl,ph y+16,by congr 1;omega,sA (by rw[hy]) (by omega)⟩
 ·by_cases h8:256<=x
  ·obtain⟨z,hz⟩:∃z,x/2^8=z:=⟨_,rfl⟩
   have hz1:0<z:=by omega
   have hz2:z<256:=by omega
   have hl:=lS hz2;have w8:IntKind.wrap .u8 (z:Int)=z:=uK (by omega) (by omega);have ht:=htab z hz2;refine wnZ (zI5 @s16 @s8 @hz @w8 @ht) ?_;exact⟨rfl,rfl,ph z+8,by congr 1;omega,sA (by rw[hz]) (by omega)⟩
  ·have hl:=lS (x:=x) (by omega);have w8:IntKind.wrap .u8 (x:Int)=x:=uK (by omega) (by omega);have ht:=htab x (by omega);refine wnZ (aI @w8 @ht) ?_;exact⟨rfl,rfl,ph x+0,by congr 1;omega,sA (s:=0) (by simp) (by simpa using hx)⟩
theorem Di{H:Hp}{nx x:Nat}(hx:0<x)(h2:x<4294967296):Abs.Fn Tryz.prog 156 [.int .u64 x] H nx λr H' nx'=>nx'=nx/\H'=H/\∃k:Nat,r=.int .i64 k/\x<2^k/\2^k<=2*x:=by
 refine fO JL ?_;simp only[Kk,aL];refine wnZ and_self ?_;refine aQ ev0 ev0 (Jg hx h2) ?_;rintro _ _ _ ⟨rfl,rfl,k,rfl,h3,h4⟩;refine wnZ and_self ?_;exact⟨rfl,rfl,k,rfl,h3,h4⟩
theorem F7{H:Hp}{nx x:Nat}(hx:0<x)(h2:x<=1000000000):Abs.Fn Tryz.prog 198 [.int .i64 x] H nx λr H' nx'=>nx'=nx/\H'=H/\∃k:Nat,r=.int .u64 ((2^k:Nat):Int)/\x<2^k/\2^k<=2*x:=by
 have w:IntKind.wrap .u64 (x:Int)=x:=fB (by omega) (by omega);refine fO Ov ?_;simp only[M4,aL];refine wnZ @w ?_;refine aQ ev0 (have zz:=@w;evZ) (Di hx (by omega)) ?_;rintro _ _ _ ⟨rfl,rfl,k,rfl,h3,h4⟩
 have hk:k<=62:=by
  rcases tn 62 k with h|h
  ·have:=Nat.pow_le_pow_right (n:=2) (by omega) h;omega
  ·exact h
 have sh:bv .shl false false (.int .u64 1) (.int .i64 (k:Int))=some (.int .u64 ((2^k:Nat):Int)):=by
  have h:=CR (k:=.u64) (k':=.i64) (a:=1) (b:=k) (tb:=false) (tf:=false) (by show k<=64;omega) (by show 1*2^k<2^63;omega);rw[Nat.one_mul] at h;exact h
 refine wnZ @sh ?_;exact⟨rfl,rfl,k,rfl,h3,h4⟩
end Go.Proofs.YtekdaafnjdlenaaGreat
namespace Go.Proofs.YtekdaafnjdlenaaGreat
open Go Go.Abs
open Nat (reduceEqDiff reduceAdd reduceLeDiff)
theorem A9{a:Int}{m:Nat}(hm:m<18446744073709551616):∃r:Nat,bv .and false false (.int .u64 a) (.int .u64 (m:Nat))=some (.int .u64 (r:Nat))/\r<=m:=by
 refine⟨(BitVec.ofInt 64 a).toNat &&& m,?_,Nat.and_le_right⟩;show(if (IntKind.u64=IntKind.u64) then fy .and .u64 a m else none)=_;rw[if_pos rfl]
 have h:(BitVec.ofInt 64 a &&& BitVec.ofInt 64 (m:Int)).toNat=(BitVec.ofInt 64 a).toNat &&& m:=by
  rw[BitVec.toNat_and]
  congr 1
  simp[BitVec.toNat_ofInt];omega
 have h2:(BitVec.ofInt 64 a).toNat &&& m<=m:=Nat.and_le_right;show some (AV.int .u64 (IntKind.wrap .u64 ((BitVec.ofInt 64 a &&& BitVec.ofInt 64 (m:Int)).toNat:Int)))=_;rw[h,fB (by omega) (by omega)]
structure PS(H H1:Hp)(nx n1 b:Nat)(cs:List AV):Prop where
 at_:H1 b=some cs
 fr:∀i,i<nx->i≠b->H1 i=H i
 le:nx<=n1
section
variable{H H1 H2:Hp}{nx n1 n2 b:Nat}{cs cs':List AV}
theorem PS.upd(h:PS H H1 nx n1 b cs):PS H (ar H1 b cs') nx n1 b cs':=⟨af,λi k1 k2=>by rw[ae k2];exact h.fr i k1 k2,h.le⟩
theorem PS.new{v:List AV}(hb:b<nx)(h:PS H H1 nx n1 b cs):PS H (ar H1 n1 v) nx (n1+1) b cs:=
 have h1:=h.le
 ⟨by rw[ae (by omega)];exact h.at_,λi k1 k2=>by rw[ae (by omega)];exact h.fr i k1 k2,by omega⟩
theorem PS.rec_(h:PS H H1 nx n1 b cs)(h1:H2 b=some cs')(h2:∀i,i<n1->i≠b->H2 i=H1 i)(h3:n1<=n2):PS H H2 nx n2 b cs':=
 have h4:=h.le
 ⟨h1,λi k1 k2=>by rw[h2 i (by omega) k2];exact h.fr i k1 k2,by omega⟩
end
section
variable{α:Type}[Inhabited α]{f:α->AV}{K:α->α->Int}{G:α->Prop}{g:Nat}{caps:List AV}
structure PI{α:Type}[Inhabited α](K:α->α->Int)(a e:Nat)(L:List α)(a1 e1:Nat)(M:List α):Prop where
 lo:a<=a1
 mid:a1<=e1
 hi:e1<=e
 len:e<=L.length
 perm:PermR a e L M
 low:sw K a1 e1 M
 close:∀N,PermR a1 e1 M N->bh K a1 e1 N->bh K a e N
variable{a e a1 e1:Nat}{L M N:List α}
theorem PI.mlen(h:PI K a e L a1 e1 M):e1<=M.length:=by rw[h.perm.len];exact fK h.hi h.len
theorem PI.start(h1:a<=e)(h2:e<=L.length)(h3:sw K a e L):PI K a e L a e L:=⟨aM _,h1,aM _,h2,.refl,h3,λ_ _ h=>h⟩
theorem PI.swap(h:PI K a e L a1 e1 M)(hp:PermR a1 e1 M N):PI K a e L a1 e1 N:=
 ⟨h.lo,h.mid,h.hi,h.len,h.perm.trans (hp.mono h.lo h.hi),h.low.perm hp h.mid h.mlen,λN' k1 k2=>h.close N' (hp.trans k1) k2⟩
theorem PI.done(h:PI K a e L a1 e1 M)(hp:PermR a1 e1 M N)(hs:bh K a1 e1 N):PermR a e L N/\bh K a e N:=⟨h.perm.trans (hp.mono h.lo h.hi),h.close N hp hs⟩
theorem PI.equal{v:α}{m:Nat}(hK:Ord K)(h:PI K a e L a1 e1 M)(hp:PermR a1 e1 M N)(hv:¬K (M.getD (a1-1) default) v<0)(ha:0<a1)(hm:a1<m/\m<=e1)(h1:∀p,a1<=p->p<m->¬K v (N.getD p default)<0)(h2:∀q,m<=q->q<e1->K v (N.getD q default)<0):PI K a e L m e1 N:=by
 have hN:=h.swap hp;have hlow:=hN.low;have ho:N.getD (a1-1) default=M.getD (a1-1) default:=hp.out _ (.inl (by omega));refine⟨by have:=h.lo;omega,hm.2,h.hi,h.len,hN.perm,λq k0 k1 k2=>hK.negtr _ _ _ (h1 (m-1) (by omega) (by omega)) (hK.asym _ _ (h2 q k1 k2)),λN' k1 k2=>hN.close N' (k1.mono (by omega) (aM _)) (λp q c1 c2 c3=>?_)⟩;by_cases e1':m<=p
 ·exact k2 p q e1' c2 c3
 ·rw[k1.out p (.inl (by omega))];refine hK.negtr _ _ _ (h1 p c1 (by omega)) ?_;by_cases e2:m<=q
  ·exact hK.asym _ _ (k1.all (p:=λx=>K v x<0) hm.2 hN.mlen h2 q e2 c3)
  ·rw[k1.out q (.inl (by omega))];exact hK.negtr _ _ _ hv (by rw[<-ho];exact hlow q ha (by omega) c3)
theorem bh.glue{m:Nat}(hK:Ord K)(h1:bh K a1 m N)(h2:bh K (m+1) e1 N)(h3:∀p,a1<=p->p<m->¬K (N.getD m default) (N.getD p default)<0)(h4:∀q,m<q->q<e1->¬K (N.getD q default) (N.getD m default)<0):bh K a1 e1 N:=λp q k1 k2 k3=>by
 by_cases c1:q<m
 ·exact h1 p q k1 k2 c1
 ·by_cases c2:m<p
  ·exact h2 p q c2 k2 k3
  ·by_cases c3:p=m
   ·subst c3;exact h4 q (by omega) k3
   ·by_cases c4:q=m
    ·subst c4;exact h3 p k1 k2
    ·exact hK.negtr _ _ _ (h3 p k1 (by omega)) (h4 q (by omega) k3)
structure TwoS{α:Type}[Inhabited α](K:α->α->Int)(a1 e1 m:Nat)(N:List α):Prop where
 mid:a1<=m/\m<e1
 lt:∀p,a1<=p->p<m->¬K (N.getD m default) (N.getD p default)<0
 ge:∀q,m<q->q<e1->¬K (N.getD q default) (N.getD m default)<0
theorem TwoS.left{m:Nat}{N':List α}(h:TwoS K a1 e1 m N)(hp:PermR a1 m N N')(hl:e1<=N.length):TwoS K a1 e1 m N':=
 have hm:=h.mid
 ⟨hm,by
  rw[hp.out m (.inr (aM _))];exact hp.all (p:=λx=>¬K (N.getD m default) x<0) hm.1 (by omega) h.lt,λq k1 k2=>by rw[hp.out m (.inr (aM _)),hp.out q (.inr (by omega))];exact h.ge q k1 k2⟩
theorem TwoS.right{m:Nat}{N':List α}(h:TwoS K a1 e1 m N)(hp:PermR (m+1) e1 N N')(hl:e1<=N.length):TwoS K a1 e1 m N':=
 have hm:=h.mid
 ⟨hm,fun p k1 k2=>by rw [hp.out m (.inl (by omega)),hp.out p (.inl (by omega))]; exact h.lt p k1 k2,by
  rw[hp.out m (.inl (by omega))];exact λq k1 k2=>hp.all (p:=λx=>¬K x (N.getD m default)<0) (by omega) hl (λi c1 c2=>h.ge i (by omega) c2) q (by omega) k2⟩
theorem PI.left{m:Nat}(hK:Ord K)(h:PI K a e L a1 e1 M)(ht:TwoS K a1 e1 m M)(hp:PermR a1 m M N)(hs:bh K a1 m N):PI K a e L (m+1) e1 N:=by
 have hm:=ht.mid;have hN:=h.swap (hp.mono (aM _) (by omega));have htN:=ht.left hp h.mlen;refine⟨by have:=h.lo;omega,by omega,h.hi,h.len,hN.perm,λq k0 k1 k2=>by rw[lX];exact htN.ge q k1 k2,λN' k1 k2=>hN.close N' (k1.mono (by omega) (aM _)) ?_⟩;have ht':=htN.right k1 hN.mlen;exact bh.glue hK (λp q c1 c2 c3=>by rw[k1.out p (.inl (by omega)),k1.out q (.inl (by omega))];exact hs p q c1 c2 c3) k2 ht'.lt ht'.ge
theorem PI.right{m:Nat}(hK:Ord K)(h:PI K a e L a1 e1 M)(ht:TwoS K a1 e1 m M)(hp:PermR (m+1) e1 M N)(hs:bh K (m+1) e1 N):PI K a e L a1 m N:=by
 have hm:=ht.mid;have hN:=h.swap (hp.mono (by omega) (aM _));have htN:=ht.right hp h.mlen;refine⟨h.lo,hm.1,by have:=h.hi;omega,h.len,hN.perm,λq k0 k1 k2=>hN.low q k0 k1 (by omega),λN' k1 k2=>hN.close N' (k1.mono (aM _) (by omega)) ?_⟩;have ht':=htN.left k1 hN.mlen;exact bh.glue hK k2 (λp q c1 c2 c3=>by rw[k1.out p (.inr (by omega)),k1.out q (.inr (by omega))];exact hs p q c1 c2 c3) ht'.lt ht'.ge
theorem sw.sub{a e a' e':Nat}{M:List α}(h:sw K a e M)(ha:a'=a)(he:e'<=e):sw K a' e' M:=λq k0 k1 k2=>by subst ha;exact h q k0 k1 (by omega)
end
def _root_.List.c2{α:Type}(l:List α)(f:α->AV):List AV:=l.flatMap λx=>(f x).cells
structure Cmp2{α:Type}(P:Program)(f:α->AV)(K:α->α->Int)(G:α->Prop)(g:Nat)(caps:List AV):Prop where
 len:∀x,(f x).cells.length=2
 agg:∀x,AV.agg (f x).cells=f x
 ones:∀x,AV.ones (f x).cells=true
 dat:∀x,Dat (f x)
 dcaps:∀x∈caps,Dat x
 run:∀x y,G x->G y->Go.Abs.Pure P g (f x::f y::caps) (.int .i64 (K x y))
 ord:Ord K
section
variable{α:Type}{f:α->AV}(h:∀x,(f x).cells.length=2)
include h
end
theorem Bx{B n len k:Nat}(h:k<=len)(hn:n≠0):lF 2 (.msl B n 2 0 len) none (some (.int .i64 k)) none=some (.msl B n 2 0 k):=by
 simp only[lF,bS,Int.natCast_nonneg,if_true,bN];rw[if_pos ⟨trivial,by omega,h,hn⟩,if_pos (.inl trivial),xT,Nat.sub_zero]
theorem DD{H:Hp}{B:Nat}{cs:List AV}(hH:H B=some cs):H=ar H B cs:=by
 funext b
 by_cases e:b=B
 ·subst e;rw[af];exact hH
 ·rw[ae e]
theorem Kd(a b:Vtx):p9 (.st [.int,.int]) (dX a) (dX b)=some (decide (a=b)):=by
 show dU [.int,.int] [.int .i64 a.color,.int .i64 a.label] [.int .i64 b.color,.int .i64 b.label]=_;rw[Cd,yS]
theorem Fl(v:Vtx)(ks:List Vtx):dA (.st [.int,.int]) (dX v) (ks.map dX)=some (if v∈ks then some (ks.idxOf v) else none):=nU _ dX Kd v ks
theorem F9(v:Vtx):jU (.st [.int,.int]) (dX v)=true:=rfl
def n8(l:List Spx)(i:Nat)(v:Vtx):List Nat:=(List.range i).filter λk=>decide (v∈l.getD k default)
def pN(l:List Spx)(i j:Nat)(v:Vtx):List Nat:=n8 l i v++if v∈(l.getD i default).take j then [i] else []
theorem DB{l:List Spx}{i:Nat}{v:Vtx}:n8 l (i+1) v=pN l i (l.getD i default).length v:=by
 unfold n8 pN;rw[List.range_succ,yw,List.take_length]
 congr 1
 by_cases h:v∈l.getD i default
 ·rw[if_pos h];simp only[List.filter,h,decide_true]
 ·rw[if_neg h];simp only[List.filter,h,decide_false]
theorem Eb{l:List Spx}{i:Nat}{v:Vtx}:pN l i 0 v=n8 l i v:=by unfold pN;simp
theorem EZ{l:List Spx}{i j:Nat}{v:Vtx}(hj:j<(l.getD i default).length)(ha:bR cu (l.getD i default)):pN l i (j+1) v=if v=(l.getD i default).getD j default then pN l i j v++[i] else pN l i j v:=by
 unfold pN;generalize l.getD i default=s at *;rw[ci hj];by_cases h:v=s.getD j default
 ·have hn:v∉s.take j:=λhm=>by
    obtain⟨k,hk,e⟩:=kI hm;rw[gV] at hk;rw[List.getElem_take] at e;have:=ec ha (i:=k) (j:=j) (by omega) hj;rw[<-h,<-e] at this;have e2:s.getD k default=s[k]:=by simp[List.getD,show k<s.length by omega]
    rw[e2] at this;exact Ce.ord.irr _ this
  rw[if_pos h,if_neg hn,if_pos (by rw[eJ,h];simp)];simp
 ·rw[if_neg h]
  congr 1
  have e:v∈s.take j++[s.getD j default]↔v∈s.take j:=by rw[eJ,cC];exact⟨λh'=>h'.resolve_right h,.inl⟩
  by_cases h2:v∈s.take j
  ·rw[if_pos (e.2 h2),if_pos h2]
  ·rw[if_neg (λh=>h2 (e.1 h)),if_neg h2]
def Bs(i:Nat):AV:=.int .i64 (i:Int)
structure IncOk(H:Hp)(b lo hi:Nat)(F:Vtx->List Nat)(ks:List Vtx)(vs:List AV):Prop where
 box:H b=some [.omap (ks.map dX) vs]
 len:vs.length=ks.length
 nodup:ks.Nodup
 dom:∀v,v∈ks↔F v≠[]
 row:∀j,j<ks.length->Row H 1 (vs.getD j .undef) ((F (ks.getD j default)).map Bs)
 bnd:∀j B,j<ks.length->bX (vs.getD j .undef)=some B->lo<=B/\B<hi/\B≠b
 apart:∀i j B,i<ks.length->j<ks.length->i≠j->bX (vs.getD i .undef)=some B->bX (vs.getD j .undef)≠some B
 lt:b<hi
theorem ru{l:List AV}{i j:Nat}{x:AV}(h:i<l.length):(l.set i x).getD j .undef=if i=j then x else l.getD j .undef:=by
 simp only[List.getD,List.getElem?_set];split
 ·rename_i e;subst e;simp[h]
 ·rfl
theorem zv{α:Type}{l m:List α}{j:Nat}{d:α}(h:j<l.length):(l++m).getD j d=l.getD j d:=by
 simp[List.getD,hJ h]
theorem wS{α:Type}{l:List α}{x d:α}:(l++[x]).getD l.length d=x:=by simp[List.getD]
theorem yz{l:List Vtx}{v:Vtx}(h:v∈l):l.idxOf v<l.length/\l.getD (l.idxOf v) default=v:=by
 have h1:=oh.2 h;exact⟨h1,by simp[List.getD,h1]⟩
theorem Ep{l:List Vtx}(h:l.Nodup){i j:Nat}(hi:i<l.length)(hj:j<l.length)(e:l.getD i default=l.getD j default):i=j:=by
 have hp:=kE.1 (List.nodup_iff_pairwise_ne.1 h);rw[show l.getD i default=l[i] by simp[List.getD,hi],show l.getD j default=l[j] by simp[List.getD,hj]] at e;rcases so i j with c|c|c
 ·exact absurd e (hp i j hi hj c)
 ·exact c
 ·exact absurd e.symm (hp j i hj hi c)
theorem IncOk.same{H H':Hp}{b lo hi hi':Nat}{F:Vtx->List Nat}{ks:List Vtx}{vs:List AV}(h:IncOk H b lo hi F ks vs)(hb:H' b=H b)(hs:∀x,lo<=x->x<hi->x≠b->H' x=H x)(hh:hi<=hi'):IncOk H' b lo hi' F ks vs:=
 ⟨hb.trans h.box,h.len,h.nodup,h.dom,λj hj=>(h.row j hj).same λB hB=>by have:=h.bnd j B hj hB;exact hs B this.1 this.2.1 this.2.2,λj B hj hB=>by have:=h.bnd j B hj hB;exact⟨this.1,by omega,this.2.2⟩,h.apart,by have:=h.lt;omega⟩
theorem IncOk.put{H H':Hp}{b lo hi hi' i:Nat}{F G:Vtx->List Nat}{ks:List Vtx}{vs:List AV}{w:Vtx}{sv:AV}(h:IncOk H b lo hi F ks vs)(hw:w∈ks)(hG:∀v,G v=if v=w then F v++[i] else F v)(hrow:Row H' 1 sv ((F w++[i]).map Bs))(hB:∀B,bX sv=some B->bX (vs.getD (ks.idxOf w) .undef)=some B\/hi<=B/\B<hi'/\B≠b)(hb:H' b=some [.omap (ks.map dX) (vs.set (ks.idxOf w) sv)])
    (hs:∀x,lo<=x->x<hi->x≠b->bX (vs.getD (ks.idxOf w) .undef)≠some x->H' x=H x) (hh:hi<=hi') (hlo:lo<=hi):IncOk H' b lo hi' G ks (vs.set (ks.idxOf w) sv):=by
 obtain⟨k1,k2⟩:=yz hw;have hl:=h.len;have hg:∀j,(vs.set (ks.idxOf w) sv).getD j .undef=if ks.idxOf w=j then sv else vs.getD j .undef:=λj=>ru (by omega)
 have hne:∀j,j<ks.length->ks.idxOf w≠j->ks.getD j default≠w:=λj hj hn e=>hn (Ep h.nodup k1 hj (by rw[k2,e]));refine⟨hb,by simp[hl],h.nodup,λv=>?_,λj hj=>?_,λj B hj=>?_,λp q B hp hq hpq=>?_,by have:=h.lt;omega⟩
 ·rw[hG,h.dom];by_cases e:v=w
  ·subst e;rw[if_pos rfl];exact⟨λ_=>by simp,λ_=>(h.dom v).1 hw⟩
  ·rw[if_neg e]
 ·rw[hg,hG];by_cases e:ks.idxOf w=j
  ·rw[if_pos e,if_pos (by rw[<-e];exact k2),<-e,k2];exact hrow
  ·rw[if_neg e,if_neg (hne j hj e)]
   exact(h.row j hj).same λB hB'=>by
    have:=h.bnd j B hj hB';exact hs B this.1 this.2.1 this.2.2 λh'=>h.apart (ks.idxOf w) j B k1 hj e h' hB'
 ·rw[hg];by_cases e:ks.idxOf w=j
  ·rw[if_pos e];intro hB';rcases hB B hB' with h'|h'
   ·have:=h.bnd _ B k1 h';exact⟨this.1,by omega,this.2.2⟩
   ·exact⟨by omega,h'.2⟩
  ·rw[if_neg e];intro hB';have:=h.bnd j B hj hB';exact⟨this.1,by omega,this.2.2⟩
 ·rw[hg,hg];by_cases e1:ks.idxOf w=p
  ·rw[if_pos e1,if_neg (by omega)];intro h1 h2;rcases hB B h1 with h'|h'
   ·exact h.apart (ks.idxOf w) q B k1 hq (by omega) h' h2
   ·have:=h.bnd q B hq h2;omega
  ·rw[if_neg e1];by_cases e2:ks.idxOf w=q
   ·rw[if_pos e2];intro h1 h2;rcases hB B h2 with h'|h'
    ·exact h.apart p (ks.idxOf w) B hp k1 (by omega) h1 h'
    ·have:=h.bnd p B hp h1;omega
   ·rw[if_neg e2];exact h.apart p q B hp hq hpq
theorem IncOk.new{H H':Hp}{b lo hi hi' i:Nat}{F G:Vtx->List Nat}{ks:List Vtx}{vs:List AV}{w:Vtx}{sv:AV}(h:IncOk H b lo hi F ks vs)(hw:w∉ks)(hG:∀v,G v=if v=w then F v++[i] else F v)(hrow:Row H' 1 sv ([i].map Bs))(hB:∀B,bX sv=some B->hi<=B/\B<hi'/\B≠b)(hb:H' b=some [.omap ((ks++[w]).map dX) (vs++[sv])])
    (hs:∀x,lo<=x->x<hi->x≠b->H' x=H x) (hh:hi<=hi') (hlo:lo<=hi):IncOk H' b lo hi' G (ks++[w]) (vs++[sv]):=by
 have hl:=h.len
 have hF:F w=[]:=by
  cases hf:F w with
  |nil=>rfl
  |cons a r=>exact absurd ((h.dom w).2 (by rw[hf];simp)) hw
 have g1:∀j,j<ks.length->(ks++[w]).getD j default=ks.getD j default/\(vs++[sv]).getD j .undef=vs.getD j .undef:=λj hj=>⟨zv hj,zv (by omega)⟩
 have g2:(ks++[w]).getD ks.length default=w/\(vs++[sv]).getD ks.length .undef=sv:=⟨wS,by rw[<-hl];exact wS⟩
 refine⟨hb,by simp[hl],?_,λv=>?_,λj hj=>?_,λj B hj=>?_,λp q B hp hq hpq=>?_,by have:=h.lt;omega⟩
 ·rw[zA];exact⟨h.nodup,by simp,λa ha c hc e=>by rw[cC] at hc;exact hw (by rw[<-hc,<-e];exact ha)⟩
 ·rw[hG,eJ,cC];by_cases e:v=w
  ·subst e;rw[if_pos rfl];simp
  ·rw[if_neg e,<-h.dom];simp[e]
 ·rw[cP,List.length_singleton] at hj;by_cases e:j=ks.length
  ·subst e;rw[g2.1,g2.2,hG,if_pos rfl,hF];exact hrow
  ·obtain⟨e1,e2⟩:=g1 j (by omega);have hne:ks.getD j default≠w:=λe'=>hw (e'▸aA (by omega));rw[e1,e2,hG,if_neg hne];exact(h.row j (by omega)).same λB hB'=>by have:=h.bnd j B (by omega) hB';exact hs B this.1 this.2.1 this.2.2
 ·rw[cP,List.length_singleton] at hj;by_cases e:j=ks.length
  ·subst e;rw[g2.2];intro hB';have:=hB B hB';exact⟨by omega,this.2⟩
  ·rw[(g1 j (by omega)).2];intro hB';have:=h.bnd j B (by omega) hB';exact⟨this.1,by omega,this.2.2⟩
 ·rw[cP,List.length_singleton] at hp hq;by_cases e1:p=ks.length
  ·subst e1;rw[g2.2,(g1 q (by omega)).2];intro h1 h2;have:=hB B h1;have:=h.bnd q B (by omega) h2;omega
  ·rw[(g1 p (by omega)).2];by_cases e2:q=ks.length
   ·subst e2;rw[g2.2];intro h1 h2;have:=hB B h2;have:=h.bnd p B (by omega) h1;omega
   ·rw[(g1 q (by omega)).2];exact h.apart p q B (by omega) (by omega) hpq
theorem iJ{H:Hp}{d:Nat}{x:AV}:f8 1 (ar H d [x]) (.msl d 1 1 0 1)=some (1,[x]):=gm (n:=1) (len:=1) (off:=0) (cs:=[x]) af rfl (by simp)
theorem yV{l:List Spx}{i:Nat}{v:Vtx}:(n8 l i v).length<=i:=by
 unfold n8;have:=List.length_filter_le (λk=>decide (v∈l.getD k default)) (List.range i)
 rwa [List.length_range] at this
theorem Hq{l:List Spx}{i j:Nat}{v:Vtx}:(pN l i j v).length<=i+1:=by
 unfold pN;have:=yV (l:=l) (i:=i) (v:=v);rw[cP];split<;>simp <;>omega
def dT(l:List Spx)(s:Spx):Bool:=l.any λt=>decide (s.length<t.length)&&fH s t
def qL(c:List Spx)(k:Nat):Int:=if bT (c.getD k default)≠0 then bT (c.getD k default) else if 0<k/\0<=bo (c.getD (k-1) default) (c.getD k default) then 14 else 0
def aB(c:List Spx):Int:=if 4096<c.length then 5 else if dC (qL c) c.length≠0 then dC (qL c) c.length else if c.any (dT c)=true then 7 else 0
theorem gI{a b:Spx}:fH a b=true↔ ∀v∈a,v∈b:=by
 unfold fH;rw[eN];exact⟨λh v hv=>oa (h v hv),λh v hv=>a6 (h v hv)⟩
theorem pJ{l:List Spx}{s:Spx}:dT l s=true↔ ∃t∈l,s.length<t.length/\∀v∈s,v∈t:=by
 unfold dT;rw[rl];constructor
 ·rintro⟨t,ht,h⟩;rw[eu,yy,gI] at h;exact⟨t,ht,h⟩
 ·rintro⟨t,ht,h⟩;exact⟨t,ht,by rw[eu,yy,gI];exact h⟩
theorem Kb{a b:Spx}(ha:bR cu a)(hb:bR cu b)(h:∀v∈a,v∈b)(hne:a≠b):a.length<b.length:=by
 have h1:a.length<=b.length:=Ap (ha.nodup Ce) h;rcases tn a.length b.length with h2|h2
 ·exact h2
 ·exfalso;refine hne (lB Ce ha hb λx=>⟨h x,λhx=>Decidable.byContradiction λhn=>?_⟩)
  have h3:(x::a).length<=b.length:=Ap (List.nodup_cons.2 ⟨hn,ha.nodup Ce⟩) λy hy=>by
   rcases dg.1 hy with rfl|hy
   ·exact hx
   ·exact h y hy
  rw[br] at h3;omega
theorem Cb{c:List Spx}(h:dC (qL c) c.length=0):(∀s∈c,bT s=0)/\bR bo c:=by
 have hz:=gz h
 have h3:∀k,k<c.length->bT (c.getD k default)=0/\(0<k->bo (c.getD (k-1) default) (c.getD k default)<0):=λk hk=>by
  have:=hz k hk;unfold qL at this;split at this
  ·exact absurd this ‹_›
  rename_i g1;split at this
  ·exact absurd this (by decide)
  rename_i g2;exact⟨ub g1,λh0=>by omega⟩
 constructor
 ·intro s hs;obtain⟨i,hi,rfl⟩:=kI hs;have:=(h3 i hi).1
  rwa [show c.getD i default=c[i] by simp[List.getD,hi]] at this
 ·have step:∀j i,i<j->j<c.length->bo (c.getD i default) (c.getD j default)<0:=by
    intro j
    induction j with
    |zero=>intro i h;omega
    |succ j ih=>
     intro i hi hj;have hs:=(h3 (j+1) hj).2 (by omega);rw[lX] at hs;by_cases e:i=j
     ·subst e;exact hs
     ·exact ie.trans (ih i (by omega) (by omega)) hs
  unfold bR;rw[kE];intro i j hi hj hij;have:=step j i hij hj;simpa[List.getD,hi,hj] using this
theorem d6{c:List Spx}(h:aB c=0):c.length<=4096/\(∀s∈c,bT s=0)/\bR bo c/\∀s∈c,dT c s=false:=by
 unfold aB at h;split at h
 ·exact absurd h (by decide)
 split at h
 ·exact absurd h ‹_›
 split at h
 ·exact absurd h (by decide)
 rename_i h1 h2 h3;have:=Cb (ub h2);refine⟨by omega,this.1,this.2,λs hs=>?_⟩;cases hc:dT c s
 ·rfl
 ·exact absurd (rl.2 ⟨s,hs,hc⟩) h3
theorem I1{l:List Spx}{s:Spx}{p:Spx->Bool}(h0:0<s.length)(hp:∀t,p t=true->s.getD 0 default∈t):((n8 l l.length (s.getD 0 default)).map λ(n:Nat)=>(n:Int)).any (λi=>p (l.getD i.toNat default))=l.any p:=by
 rw[Bool.eq_iff_iff,rl,rl];constructor
 ·rintro⟨x,hx,h⟩;obtain⟨n,hn,rfl⟩:=bz.1 hx;unfold n8 at hn;obtain⟨h1,_⟩:=eG.1 hn;rw[bN] at h;exact⟨_,aA (dE.1 h1),h⟩
 ·rintro⟨t,ht,h⟩;obtain⟨i,hi,rfl⟩:=kI ht;have e:l.getD i default=l[i]:=by simp[List.getD,hi]
  refine⟨(i:Int),bz.2 ⟨i,eG.2 ⟨dE.2 hi,a6 ?_⟩,rfl⟩,?_⟩
  ·rw[e];exact hp _ h
  ·rw[bN,e];exact h
section
attribute [local irreducible] aO am bf aZ aR aS aE aU a5 bk Go.Abs.Fn aY Go.Abs.Pure au aN Yl
section
variable{α:Type}[Inhabited α]{f:α->AV}{K:α->α->Int}{G:α->Prop}{g:Nat}{caps:List AV}
theorem IU(hc:Cmp Tryz.prog f K G g caps){L:List α}{H:Hp}{b nx n a e:Nat}(hH:H b=some (L.map f))(hbx:b<nx)(hn:L.length=n)(hae:a+8<=e)(hen:e<=n)(hn2:n<=1000000000):
    Abs.Fn Tryz.prog 168 [.msl b n 1 0 n,.int .i64 a,.int .i64 e,.func g caps] H nx λr H' nx'=>nx'=nx+1/\∃L',H' b=some (L'.map f)/\(∀i,i<nx->i≠b->H' i=H i)/\PermR a e L L':=by
 obtain⟨l,rfl⟩:∃l,e=a+l:=⟨e-a,by omega⟩
 have te:((a+l:Nat):Int)-(a:Int)=(l:Int):=by omega
 obtain⟨w,hw⟩:∃w,a+l/4*2-1=w:=⟨_,rfl⟩
 have tq:bv .quo false false (.int .i64 (l:Int)) (.int .i64 4)=some (.int .i64 ((l/4:Nat):Int)):=by
  rw[jr (by omega) (by omega) (by omega)]
  congr 2
 have w1:(a:Int)+((l/4:Nat):Int)*2-1=(w:Int):=by omega
 have w2:(a:Int)+((l/4:Nat):Int)*2+1=((w+2:Nat):Int):=by omega
 have hbn:b≠nx:=by omega
 have wl:IntKind.wrap .u64 (l:Int)=l:=fB (by omega) (by omega);refine fO L9 ?_;simp only[Ou,aL];have ls:∀x y:AV,bC [x] 0 [y]=[y]:=λ_ _=>rfl;simp only[bC,br,dw,bP] at ls;refine wnZ (zI3 @te @wl @ls) ?_;refine aQ ev0 ev0 (F7 (x:=l) (by omega) (by omega)) ?_;rintro _ _ _ ⟨rfl,rfl,k,rfl,hk1,hk2⟩;obtain⟨p,hp⟩:∃p,2^k=p+1:=⟨2^k-1,by omega⟩
 rw[hp] at hk1 hk2 |-;refine wnZ (zI3 @te @tq @w1) ?_;have wm:IntKind.wrap .u64 (((p+1:Nat):Int)-1)=(p:Int):=by rw[fB (by omega) (by omega)];omega
 refine bF (X:=Nat×List α) (λx=>[(0,.msl b n 1 0 n),(1,.int .i64 a),(8,.int .i64 l),(9,.ptr nx 1 0),(10,.int .u64 ((p+1:Nat):Int)),(11,.int .i64 (x.1:Nat))]) (λx H' nxx=>w<=x.1/\x.1<=w+3/\H' b=some (x.2.map f)/\(∃s,H' nx=some [.int .u64 s])/\(∀i,i<nx->i≠b->H' i=H i)/\nxx=nx+1/\PermR a (a+l) L x.2) (λx=>w+3-x.1) (w,L) ⟨aM _,by dsimp only;omega,by dsimp only;rw[ae hbn];first|exact hH|(rw[ae hbn];exact hH),⟨_,af⟩,λi h1 h2=>by rw[ae (by omega)];first|rfl|exact ae (by omega),rfl,.refl⟩ (by simp (disch:=omega) only[agr,ZG,reduceEqDiff,↓reduceIte,br,dw,bP,true_and]) ?_;rintro⟨i,M⟩ H1 nxx ⟨h1,h2,hb1,⟨s,hs⟩,hfr,rfl,hp1⟩;dsimp only at *;have hl:M.length=n:=by rw[hp1.len,hn]
 by_cases hi:i=w+3
 ·subst hi;refine wnZ (aI @tq @w2) ?_;exact⟨rfl,M,hb1,hfr,hp1⟩
 have ti:((i:Nat):Int)+1=((i+1:Nat):Int):=by omega
 refine wnZ (aI @tq @w2) ?_;refine aQ ev0 ev0 (GK hs) ?_;rintro _ _ _ ⟨rfl,s1,rfl,rfl⟩;obtain⟨r,hr1,hr2⟩:=A9 (a:=s1) (m:=p) (by omega);obtain⟨H2,hH2⟩:∃H2,ar H1 nx [.int .u64 s1]=H2:=⟨_,rfl⟩
 have hb2:H2 b=some (M.map f):=by rw[<-hH2,ae hbn];exact hb1
 have hs2:H2 nx=some [.int .u64 s1]:=by rw[<-hH2];exact af
 have hfr2:∀i,i<nx->i≠b->H2 i=H i:=λi k1 k2=>by rw[<-hH2,ae (by omega)];exact hfr i k1 k2
 rw[hH2];clear hH2 hb1 hs hfr
 obtain⟨z,hz,hzl⟩:∃z:Nat,(if l<=r then(r:Int)-l else(r:Int))=(z:Int)/\z<l:=by
  split
  ·exact⟨r-l,by omega,by omega⟩
  ·exact⟨r,rfl,by omega⟩
 obtain⟨M1,hl1,lm1,lm2⟩:=bW (f:=f) (M:=M) (i:=i) (j:=a+z) (by omega) (by omega);have lm3:=lm2;simp only[bC,br,dw,bP] at lm1 lm2;by_cases hrl:l<=r
 ·rw[if_pos hrl] at hz;refine wnZ (dH @wm @hr1 @hz @hb2 @ti @dQ hc.cells hc.one @lm1 @lm2) ?_;exact⟨(i+1,swp M i (a+z)),by dsimp only;omega,⟨by dsimp only;omega,by dsimp only;omega,by dsimp only;rw[aC,lm3,af],⟨s1,by rw[aC,ae (Ne.symm hbn)];exact hs2⟩,λi k1 k2=>by rw[aC,ae k2];exact hfr2 i k1 k2,rfl,hp1.trans (PermR.swap (by omega) (by omega) (by omega))⟩,ag0⟩
 ·rw[if_neg hrl] at hz;have hz':r=z:=by omega
  subst hz';refine wnZ (zI9 @wm @hr1 @hb2 @ti @dQ hc.cells hc.one @lm1 @lm2) ?_;exact⟨(i+1,swp M i (a+r)),by dsimp only;omega,⟨by dsimp only;omega,by dsimp only;omega,by dsimp only;rw[aC,lm3,af],⟨s1,by rw[aC,ae (Ne.symm hbn)];exact hs2⟩,λi k1 k2=>by rw[aC,ae k2];exact hfr2 i k1 k2,rfl,hp1.trans (PermR.swap (by omega) (by omega) (by omega))⟩,ag0⟩
end
section
variable{α:Type}[Inhabited α]{f:α->AV}{K:α->α->Int}{G:α->Prop}{g:Nat}{caps:List AV}
theorem N6(hc:Cmp Tryz.prog f K G g caps){b n:Nat}(hn2:n<=1000000000):∀(sz a e lim:Nat)(L:List α)(H:Hp)(nx:Nat),e-a<sz->H b=some (L.map f)->b<nx->L.length=n->(∀x∈L,G x)->a<=e->e<=n->lim<=64->sw K a e L->
    Abs.Fn Tryz.prog 155 [.msl b n 1 0 n,.int .i64 a,.int .i64 e,.int .i64 lim,.func g caps] H nx λr H' nx'=>∃L',PS H H' nx nx' b (L'.map f)/\PermR a e L L'/\bh K a e L':=by
 intro sz
 induction sz with
 |zero=>intro a e lim L H nx h;omega
 |succ sz ih=>
 intro a e lim L H nx hsz hH hbx hn hG hae hen hlim hlow;have dcap:=hc.dcaps;refine fO J3 ?_;simp only[KG,aL];refine wnZ and_self ?_;refine bF (X:=Nat×Nat×Nat×Bool×Bool×List α) (λx=>[(0,.msl b n 1 0 n),(1,.int .i64 (x.1:Nat)),(2,.int .i64 (x.2.1:Nat)),(3,.int .i64 (x.2.2.1:Nat)),(4,.func g caps),(10,.bool x.2.2.2.1),(11,.bool x.2.2.2.2.1)]) (λx H' nxx=>PI K a e L x.1 x.2.1 x.2.2.2.2.2/\PS H H' nx nxx b (x.2.2.2.2.2.map f)/\x.2.2.1<=64) (λx=>x.2.1-x.1) (a,e,lim,true,true,L) ⟨.start hae (by rw[hn];exact hen) hlow,⟨hH,λ_ _ _=>rfl,aM _⟩,hlim⟩ ag0 ?_;clear hlim hlow lim;rintro⟨a1,e1,lim,wb,wp,M⟩ H1 n1 ⟨hpi,hps,hlim⟩;dsimp only at *;have hlo:=hpi.lo;have hmid:=hpi.mid;have hhi:=hpi.hi;obtain⟨l,hl0⟩:∃l,e1-a1=l:=⟨_,rfl⟩
 rw[hl0];have te:(e1:Int)-(a1:Int)=(l:Int):=by omega
 have hlen:∀M:List α,PI K a e L a1 e1 M->M.length=n:=λM h=>by rw[h.perm.len,hn]
 have hGA:∀M:List α,PI K a e L a1 e1 M->∀x∈M,G x:=λM h=>h.perm.mem hG;have hbn:∀(M:List α)(H1:Hp)(n1:Nat),PS H H1 nx n1 b (M.map f)->b<n1:=λM H1 n1 h=>by have:=h.le;omega
 obtain⟨T,hT,t0,t1,t2,t3,t4,t10,t11⟩:∃T,tl [(0,.msl b n 1 0 n),(1,.int .i64 (a1:Nat)),(2,.int .i64 (e1:Nat)),(3,.int .i64 (lim:Nat)),(4,.func g caps),(10,.bool wb),(11,.bool wp)]=T/\T 0=.msl b n 1 0 n/\T 1=.int .i64 (a1:Nat)/\T 2=.int .i64 (e1:Nat)/\T 3=.int .i64 (lim:Nat)/\T 4=.func g caps/\T 10=.bool wb/\T 11=.bool wp:=⟨_,rfl,rfl,rfl,rfl,rfl,rfl,rfl,rfl⟩
 rw[hT];clear hT;refine gv ?_;refine bn (λT H'' nx''=>T 0=.msl b n 1 0 n/\T 1=.int .i64 (a1:Nat)/\T 2=.int .i64 (e1:Nat)/\T 3=.int .i64 (lim:Nat)/\T 4=.func g caps/\T 10=.bool wb/\T 11=.bool wp/\T 12=.int .i64 (l:Nat)/\H1=H''/\n1=nx'') ?_ ?_
 ·refine wnZ (zI8 @t0 @t1 @t2 @t3 @t4 @t10 @t11 @te) ?_;exact⟨(have zz:=@t0;evZ),(have zz:=@t1;evZ),(have zz:=@t2;evZ),(have zz:=@t3;evZ),(have zz:=@t4;evZ),(have zz:=@t10;evZ),(have zz:=@t11;evZ),ev0,rfl,rfl⟩
 clear t0 t1 t2 t3 t4 t10 t11;rintro T _ _ ⟨t0,t1,t2,t3,t4,t10,t11,t12,rfl,rfl⟩;refine bn (λT H'' nx''=>T 0=.msl b n 1 0 n/\T 1=.int .i64 (a1:Nat)/\T 2=.int .i64 (e1:Nat)/\T 3=.int .i64 (lim:Nat)/\T 4=.func g caps/\T 10=.bool wb/\T 11=.bool wp/\T 12=.int .i64 (l:Nat)/\13<=l/\H1=H''/\n1=nx'') ?_ ?_
 ·by_cases h12:l<=12
  ·refine wnZ (zI8 @t0 @t1 @t2 @t3 @t4 @t10 @t11 @t12) ?_;refine aQ ev0 (have zz:=aI @t0 (aI @t1 (aI @t2 (aI @t3 (aI @t4 (aI @t10 (aI @t11 @t12))))));evZ) (Ni hc (b:=b) hps.at_ (hlen _ hpi) (hGA _ hpi) (a:=a1) (e:=e1) hmid (by omega) hn2) ?_;rintro _ _ _ ⟨rfl,N,rfl,hpN,hsN⟩;refine wnZ and_self ?_;exact⟨N,hps.upd,hpi.done hpN hsN⟩
  ·refine wnZ (zI8 @t0 @t1 @t2 @t3 @t4 @t10 @t11 @t12) ?_;exact⟨(have zz:=@t0;evZ),(have zz:=@t1;evZ),(have zz:=@t2;evZ),(have zz:=@t3;evZ),(have zz:=@t4;evZ),(have zz:=@t10;evZ),(have zz:=@t11;evZ),(have zz:=@t12;evZ),by omega,rfl,rfl⟩
 clear t0 t1 t2 t3 t4 t10 t11 t12;rintro T _ _ ⟨t0,t1,t2,t3,t4,t10,t11,t12,h13,rfl,rfl⟩;refine bn (λT H'' nx''=>T 0=.msl b n 1 0 n/\T 1=.int .i64 (a1:Nat)/\T 2=.int .i64 (e1:Nat)/\T 3=.int .i64 (lim:Nat)/\T 4=.func g caps/\T 10=.bool wb/\T 11=.bool wp/\T 12=.int .i64 (l:Nat)/\0<lim/\H1=H''/\n1=nx'') ?_ ?_
 ·by_cases h12:lim=0
  ·subst h12;have tz:decide (((0:Nat):Int)=0)=true:=rfl;refine wnZ (zI9 @t0 @t1 @t2 @t3 @t4 @t10 @t11 @t12 @tz) ?_;refine aQ ev0 (have zz:=aI @t0 (aI @t1 (aI @t2 (aI @t3 (aI @t4 (aI @t10 (aI @t11 @t12))))));evZ) (Kq hc (b:=b) hps.at_ (hlen _ hpi) (hGA _ hpi) (a:=a1) (e:=e1) hmid (by omega) hn2) ?_;rintro _ _ _ ⟨rfl,N,rfl,hpN,hsN⟩;refine wnZ and_self ?_;exact⟨N,hps.upd,hpi.done hpN hsN⟩
  ·have tz:decide ((lim:Int)=0)=false:=ba (by omega);refine wnZ (zI9 @t0 @t1 @t2 @t3 @t4 @t10 @t11 @t12 @tz) ?_;exact⟨(have zz:=@t0;evZ),(have zz:=@t1;evZ),(have zz:=@t2;evZ),(have zz:=@t3;evZ),(have zz:=@t4;evZ),(have zz:=@t10;evZ),(have zz:=@t11;evZ),(have zz:=@t12;evZ),by omega,rfl,rfl⟩
 clear t0 t1 t2 t3 t4 t10 t11 t12;rintro T _ _ ⟨t0,t1,t2,t3,t4,t10,t11,t12,hlim1,rfl,rfl⟩;refine bn (λT H'' nx''=>∃(lim:Nat)(M:List α),lim<=64/\PI K a e L a1 e1 M/\PS H H'' nx nx'' b (M.map f)/\T 0=.msl b n 1 0 n/\T 1=.int .i64 (a1:Nat)/\T 2=.int .i64 (e1:Nat)/\T 3=.int .i64 (lim:Nat)/\T 4=.func g caps/\T 10=.bool wb/\T 11=.bool wp/\T 12=.int .i64 (l:Nat)) ?_ ?_
 ·cases wb
  ·obtain⟨k,rfl⟩:∃k,lim=k+1:=⟨lim-1,by omega⟩
   have tk:((k+1:Nat):Int)-1=(k:Int):=by omega
   refine wnZ (zI8 @t0 @t1 @t2 @t3 @t4 @t10 @t11 @t12) ?_;refine aQ ev0 (have zz:=aI @t0 (aI @t1 (aI @t2 (aI @t3 (aI @t4 (aI @t10 (aI @t11 @t12))))));evZ) (IU hc (b:=b) hps.at_ (hbn _ _ _ hps) (hlen _ hpi) (a:=a1) (e:=e1) (by omega) (by omega) hn2) ?_;rintro _ _ _ ⟨rfl,N,hN1,hN2,hpN⟩;refine wnZ (zI9 @t0 @t1 @t2 @t3 @t4 @t10 @t11 @t12 @tk) ?_;exact⟨k,N,by omega,hpi.swap hpN,hps.rec_ hN1 hN2 (Nat.le_succ _),(have zz:=@t0;evZ),(have zz:=@t1;evZ),(have zz:=@t2;evZ),(have zz:=@t3;evZ),(have zz:=@t4;evZ),(have zz:=@t10;evZ),(have zz:=@t11;evZ),(have zz:=@t12;evZ)⟩
  ·refine wnZ (zI8 @t0 @t1 @t2 @t3 @t4 @t10 @t11 @t12) ?_;exact⟨lim,M,hlim,hpi,hps,(have zz:=@t0;evZ),(have zz:=@t1;evZ),(have zz:=@t2;evZ),(have zz:=@t3;evZ),(have zz:=@t4;evZ),(have zz:=@t10;evZ),(have zz:=@t11;evZ),(have zz:=@t12;evZ)⟩
 clear t0 t1 t2 t3 t4 t10 t11 t12 hpi hps hlim hlim1;rintro T H1 n1 ⟨lim,M,hlim,hpi,hps,t0,t1,t2,t3,t4,t10,t11,t12⟩;refine bn (λT H'' nx''=>∃(p:Nat)(hint:Int),a1<=p/\p<e1/\PS H H'' nx nx'' b (M.map f)/\T 0=.msl b n 1 0 n/\T 1=.int .i64 (a1:Nat)/\T 2=.int .i64 (e1:Nat)/\T 3=.int .i64 (lim:Nat)/\T 4=.func g caps/\T 10=.bool wb/\T 11=.bool wp/\T 12=.int .i64 (l:Nat)/\T 13=.int .i64 (p:Nat)/\T 14=.int .i64 hint) ?_ ?_
 ·refine wnZ (zI8 @t0 @t1 @t2 @t3 @t4 @t10 @t11 @t12) ?_;refine aQ ev0 (have zz:=aI @t0 (aI @t1 (aI @t2 (aI @t3 (aI @t4 (aI @t10 (aI @t11 @t12))))));evZ) (Gj hc (b:=b) hps.at_ (hbn _ _ _ hps) (hlen _ hpi) (hGA _ hpi) (a:=a1) (e:=e1) (by omega) (by omega) hn2) ?_;rintro _ _ _ ⟨rfl,p,hint,v,rfl,hp1,hp2,rfl⟩;refine wnZ (zI8 @t0 @t1 @t2 @t3 @t4 @t10 @t11 @t12) ?_;exact⟨p,hint,hp1,hp2,hps.new hbx,(have zz:=@t0;evZ),(have zz:=@t1;evZ),(have zz:=@t2;evZ),(have zz:=@t3;evZ),(have zz:=@t4;evZ),(have zz:=@t10;evZ),(have zz:=@t11;evZ),(have zz:=@t12;evZ),ev0,ev0⟩
 clear t0 t1 t2 t3 t4 t10 t11 t12 hps;rintro T H1 n1 ⟨p,hint,hp1,hp2,hps,t0,t1,t2,t3,t4,t10,t11,t12,t13,t14⟩;refine bn (λT H'' nx''=>∃(p:Nat)(hint:Int)(M:List α),a1<=p/\p<e1/\PI K a e L a1 e1 M/\PS H H'' nx nx'' b (M.map f)/\T 0=.msl b n 1 0 n/\T 1=.int .i64 (a1:Nat)/\T 2=.int .i64 (e1:Nat)/\T 3=.int .i64 (lim:Nat)/\T 4=.func g caps/\T 10=.bool wb/\T 11=.bool wp/\T 12=.int .i64 (l:Nat)/\T 13=.int .i64 (p:Nat)/\T 14=.int .i64 hint) ?_ ?_
 ·by_cases h2:hint=2
  ·subst h2;obtain⟨p2,hp3⟩:∃p2,e1-1-(p-a1)=p2:=⟨_,rfl⟩
   have tp:(e1:Int)-1-((p:Int)-(a1:Int))=(p2:Int):=by omega
   have tz:decide ((2:Int)=2)=true:=rfl;refine wnZ (aI @t0 (dH @t1 @t2 @t3 @t4 @t10 @t11 @t12 @t13 @t14 @tz)) ?_;refine aQ ev0 (have zz:=aI @t0 (aI @t1 (aI @t2 (aI @t3 (aI @t4 (aI @t10 (aI @t11 @t12))))));evZ) (Ms hc (b:=b) hps.at_ (hlen _ hpi) (a:=a1) (e:=e1) (by omega) (by omega) hn2) ?_;rintro _ _ _ ⟨rfl,N,rfl,hpN⟩;refine wnZ (aI @t0 (dH @t1 @t2 @t3 @t4 @t10 @t11 @t12 @t13 @t14 @tp)) ?_;exact⟨p2,1,N,by omega,by omega,hpi.swap hpN,hps.upd,(have zz:=@t0;evZ),(have zz:=@t1;evZ),(have zz:=@t2;evZ),(have zz:=@t3;evZ),(have zz:=@t4;evZ),(have zz:=@t10;evZ),(have zz:=@t11;evZ),(have zz:=@t12;evZ),ev0,ev0⟩
  ·have tz:decide (hint=2)=false:=ba h2;refine wnZ (aI @t0 (dH @t1 @t2 @t3 @t4 @t10 @t11 @t12 @t13 @t14 @tz)) ?_;exact⟨p,hint,M,hp1,hp2,hpi,hps,(have zz:=@t0;evZ),(have zz:=@t1;evZ),(have zz:=@t2;evZ),(have zz:=@t3;evZ),(have zz:=@t4;evZ),(have zz:=@t10;evZ),(have zz:=@t11;evZ),(have zz:=@t12;evZ),(have zz:=@t13;evZ),(have zz:=@t14;evZ)⟩
 clear t0 t1 t2 t3 t4 t10 t11 t12 t13 t14 hps hpi hp1 hp2;rintro T H1 n1 ⟨p,hint,M,hp1,hp2,hpi,hps,t0,t1,t2,t3,t4,t10,t11,t12,t13,t14⟩;refine bn (λT H'' nx''=>∃(M:List α),PI K a e L a1 e1 M/\PS H H'' nx nx'' b (M.map f)/\T 0=.msl b n 1 0 n/\T 1=.int .i64 (a1:Nat)/\T 2=.int .i64 (e1:Nat)/\T 3=.int .i64 (lim:Nat)/\T 4=.func g caps/\T 10=.bool wb/\T 11=.bool wp/\T 12=.int .i64 (l:Nat)/\T 13=.int .i64 (p:Nat)) ?_ ?_
 ·cases wb
  ·cases wp
   ·refine wnZ (dH @t0 @t1 @t2 @t3 @t4 @t10 @t11 @t12 @t13 @t14) ?_;exact⟨M,hpi,hps,(have zz:=@t0;evZ),(have zz:=@t1;evZ),(have zz:=@t2;evZ),(have zz:=@t3;evZ),(have zz:=@t4;evZ),(have zz:=@t10;evZ),(have zz:=@t11;evZ),(have zz:=@t12;evZ),(have zz:=@t13;evZ)⟩
   ·refine wnZ (dH @t0 @t1 @t2 @t3 @t4 @t10 @t11 @t12 @t13 @t14) ?_;exact⟨M,hpi,hps,(have zz:=@t0;evZ),(have zz:=@t1;evZ),(have zz:=@t2;evZ),(have zz:=@t3;evZ),(have zz:=@t4;evZ),(have zz:=@t10;evZ),(have zz:=@t11;evZ),(have zz:=@t12;evZ),(have zz:=@t13;evZ)⟩
  ·cases wp
   ·refine wnZ (dH @t0 @t1 @t2 @t3 @t4 @t10 @t11 @t12 @t13 @t14) ?_;exact⟨M,hpi,hps,(have zz:=@t0;evZ),(have zz:=@t1;evZ),(have zz:=@t2;evZ),(have zz:=@t3;evZ),(have zz:=@t4;evZ),(have zz:=@t10;evZ),(have zz:=@t11;evZ),(have zz:=@t12;evZ),(have zz:=@t13;evZ)⟩
   ·by_cases h1:hint=1
    ·subst h1;have tz:decide ((1:Int)=1)=true:=rfl;refine wnZ (aI @t0 (dH @t1 @t2 @t3 @t4 @t10 @t11 @t12 @t13 @t14 @tz)) ?_;refine aQ ev0 (have zz:=aI @t0 (aI @t1 (aI @t2 (aI @t3 (aI @t4 (aI @t10 (aI @t11 @t12))))));evZ) (EY hc (b:=b) hps.at_ (hlen _ hpi) (hGA _ hpi) (a:=a1) (e:=e1) (by omega) (by omega) hn2 hpi.low) ?_;rintro _ _ _ ⟨rfl,N,t,rfl,rfl,hpN,hsN⟩;cases t
     ·refine wnZ (dH @t0 @t1 @t2 @t3 @t4 @t10 @t11 @t12 @t13 @t14) ?_;exact⟨N,hpi.swap hpN,hps.upd,(have zz:=@t0;evZ),(have zz:=@t1;evZ),(have zz:=@t2;evZ),(have zz:=@t3;evZ),(have zz:=@t4;evZ),(have zz:=@t10;evZ),(have zz:=@t11;evZ),(have zz:=@t12;evZ),(have zz:=@t13;evZ)⟩
     ·refine wnZ (dH @t0 @t1 @t2 @t3 @t4 @t10 @t11 @t12 @t13 @t14) ?_;exact⟨N,hps.upd,hpi.done hpN (hsN rfl)⟩
    ·have tz:decide (hint=1)=false:=ba h1;refine wnZ (aI @t0 (dH @t1 @t2 @t3 @t4 @t10 @t11 @t12 @t13 @t14 @tz)) ?_;exact⟨M,hpi,hps,(have zz:=@t0;evZ),(have zz:=@t1;evZ),(have zz:=@t2;evZ),(have zz:=@t3;evZ),(have zz:=@t4;evZ),(have zz:=@t10;evZ),(have zz:=@t11;evZ),(have zz:=@t12;evZ),(have zz:=@t13;evZ)⟩
 clear t0 t1 t2 t3 t4 t10 t11 t12 t13 t14 hps hpi hint;rintro T H1 n1 ⟨M,hpi,hps,t0,t1,t2,t3,t4,t10,t11,t12,t13⟩;have hbb:=hps.at_;have hl:=hlen _ hpi;have hGM:=hGA _ hpi;refine bn (λT H'' nx''=>T 0=.msl b n 1 0 n/\T 1=.int .i64 (a1:Nat)/\T 2=.int .i64 (e1:Nat)/\T 3=.int .i64 (lim:Nat)/\T 4=.func g caps/\T 10=.bool wb/\T 11=.bool wp/\T 12=.int .i64 (l:Nat)/\T 13=.int .i64 (p:Nat)/\H1=H''/\n1=nx'') ?_ ?_
 ·by_cases ha0:a1=0
  ·have tz:decide ((0:Int)<(a1:Int))=false:=ba (by omega);refine wkZ (dH @t0 @t1 @t2 @t3 @t4 @t10 @t11 @t12 @t13 @tz) ?_;exact⟨(have zz:=@t0;evZ),(have zz:=@t1;evZ),(have zz:=@t2;evZ),(have zz:=@t3;evZ),(have zz:=@t4;evZ),(have zz:=@t10;evZ),(have zz:=@t11;evZ),(have zz:=@t12;evZ),(have zz:=@t13;evZ),rfl,rfl⟩
  have tz:decide ((0:Int)<(a1:Int))=true:=a6 (by omega);obtain⟨k,hk⟩:∃k,a1-1=k:=⟨_,rfl⟩
  have tk:(a1:Int)-1=(k:Int):=by omega
  have lc:=hc.run (M.getD k default) (M.getD p default) (hGM _ (aK (by omega))) (hGM _ (aK (by omega)));have d1:=hc.dat (M.getD k default);have d2:=hc.dat (M.getD p default);generalize hKK:K (M.getD k default) (M.getD p default)=kk at lc;by_cases hlt:kk<0
  ·have zz:=aI @t0 (aI @t1 (aI @t2 (aI @t3 (aI @t4 (aI @t10 (aI @t11 (aI @t12 (aI @t13 (aI @tz (aI @tk (aI @hbb (aI @bN (aI hc.cells hc.one)))))))))))));repeat' (first|refine zW ?_|refine zM ?_|apply a_n|refine zO ?_|refine vZ ?_|refine cZ ?_ (hp:=lc) (hs:=by(first|refine aG ?_ rfl|apply a9);(repeat' (first|exact ap|apply bI|apply bc|exact d1|exact d2|exact bq dcap));first|done|fail)|refine gTZ ?_|(refine zGZ ?_ ?_<;>(intro _hg;try (exfalso;omega)))|fail)
   exact⟨(have zz:=@t0;evZ),(have zz:=@t1;evZ),(have zz:=@t2;evZ),(have zz:=@t3;evZ),(have zz:=@t4;evZ),(have zz:=@t10;evZ),(have zz:=@t11;evZ),(have zz:=@t12;evZ),(have zz:=@t13;evZ),rfl,rfl⟩
  ·have zz:=aI @t0 (aI @t1 (aI @t2 (aI @t3 (aI @t4 (aI @t10 (aI @t11 (aI @t12 (aI @t13 (aI @tz (aI @tk (aI @hbb (aI @bN (aI hc.cells hc.one)))))))))))));repeat' (first|refine zW ?_|refine zM ?_|apply a_n|refine zO ?_|refine vZ ?_|refine cZ ?_ (hp:=lc) (hs:=by(first|refine aG ?_ rfl|apply a9);(repeat' (first|exact ap|apply bI|apply bc|exact d1|exact d2|exact bq dcap));first|done|fail)|refine gTZ ?_|(refine zGZ ?_ ?_<;>(intro _hg;try (exfalso;omega)))|fail)
   refine aQ ev0 (have zz:=aI @t0 (aI @t1 (aI @t2 (aI @t3 (aI @t4 (aI @t10 (aI @t11 (aI @t12 @t13)))))));evZ) (HI hc (b:=b) hps.at_ (hlen _ hpi) (hGA _ hpi) (a:=a1) (e:=e1) (pv:=p) (by omega) (by omega) hn2 ⟨hp1,hp2⟩) ?_;rintro _ _ _ ⟨rfl,N,m,rfl,hm1,hm2,rfl,hpN,q1,q2⟩;refine wnZ (zI9 @t0 @t1 @t2 @t3 @t4 @t10 @t11 @t12 @t13) ?_;exact⟨(m,e1,lim,wb,wp,N),by dsimp only;omega,⟨hpi.equal hc.ord hpN (by rw[hk,hKK];exact hlt) (by omega) ⟨hm1,hm2⟩ q1 q2,hps.upd,hlim⟩,(have zz:=aI @t0 (aI @t1 (aI @t2 (aI @t3 (aI @t4 (aI @t10 (aI @t11 @t12))))));agZ)⟩
 clear t0 t1 t2 t3 t4 t10 t11 t12 t13;rintro T _ _ ⟨t0,t1,t2,t3,t4,t10,t11,t12,t13,rfl,rfl⟩;refine bn (λT H'' nx''=>∃(M:List α)(m:Nat)(t:Bool),PI K a e L a1 e1 M/\TwoS K a1 e1 m M/\PS H H'' nx nx'' b (M.map f)/\T 0=.msl b n 1 0 n/\T 1=.int .i64 (a1:Nat)/\T 2=.int .i64 (e1:Nat)/\T 3=.int .i64 (lim:Nat)/\T 4=.func g caps/\T 10=.bool wb/\T 11=.bool wp/\T 12=.int .i64 (l:Nat)/\T 16=.int .i64 (m:Nat)/\T 17=.bool t) ?_ ?_
 ·refine wnZ (zI9 @t0 @t1 @t2 @t3 @t4 @t10 @t11 @t12 @t13) ?_;refine aQ ev0 (have zz:=aI @t0 (aI @t1 (aI @t2 (aI @t3 (aI @t4 (aI @t10 (aI @t11 (aI @t12 @t13)))))));evZ) (KY hc (b:=b) hps.at_ (hlen _ hpi) (hGA _ hpi) (a:=a1) (e:=e1) (pv:=p) (by omega) (by omega) hn2 ⟨hp1,hp2⟩) ?_;rintro _ _ _ ⟨rfl,N,m,t,rfl,hm1,hm2,rfl,hpN,q1,q2⟩;refine wnZ (zI9 @t0 @t1 @t2 @t3 @t4 @t10 @t11 @t12 @t13) ?_;exact⟨N,m,t,hpi.swap hpN,⟨⟨hm1,hm2⟩,λp k1 k2=>hc.ord.asym _ _ (q1 p k1 k2),q2⟩,hps.upd,(have zz:=@t0;evZ),(have zz:=@t1;evZ),(have zz:=@t2;evZ),(have zz:=@t3;evZ),(have zz:=@t4;evZ),(have zz:=@t10;evZ),(have zz:=@t11;evZ),(have zz:=@t12;evZ),ev0,ev0⟩
 clear t0 t1 t2 t3 t4 t10 t11 t12 t13 hbb hl hGM hpi hps hp1 hp2 p;rintro T H1 n1 ⟨M,m,t,hpi,hts,hps,t0,t1,t2,t3,t4,t10,t11,t12,t16,t17⟩;have hm:=hts.mid;have hl:=hlen _ hpi
 have tq:bv .quo false false (.int .i64 (l:Int)) (.int .i64 8)=some (.int .i64 ((l/8:Nat):Int)):=by
  rw[jr (by omega) (by omega) (by omega)]
  congr 2
 have tm:(m:Int)+1=((m+1:Nat):Int):=by omega
 by_cases hlr:(m:Int)-(a1:Int)<(e1:Int)-(m:Int)
 ·have tz:decide ((m:Int)-(a1:Int)<(e1:Int)-(m:Int))=true:=a6 hlr;refine wnZ (aI @t0 (aI @t1 (dH @t2 @t3 @t4 @t10 @t11 @t12 @t16 @t17 @tq @tz))) ?_;refine aQ ev0 (have zz:=aI @t0 (aI @t1 (aI @t2 (aI @t3 (aI @t4 (aI @t10 (aI @t11 (aI @t12 (aI @t16 @t17))))))));evZ) (ih a1 m lim M H1 n1 (by omega) hps.at_ (hbn _ _ _ hps) hl (hGA _ hpi) (by omega) (by omega) hlim (hpi.low.sub rfl (by omega))) ?_;rintro _ H2 n2 ⟨N,hps2,hpN,hsN⟩;refine wnZ (aI @t0 (dH @t1 @t2 @t3 @t4 @t10 @t11 @t12 @t16 @t17 @tm)) ?_;exact⟨(m+1,e1,lim,decide (((l/8:Nat):Int)<=(m:Int)-(a1:Int)),t,N),by dsimp only;omega,⟨hpi.left hc.ord hts hpN hsN,hps.rec_ hps2.at_ hps2.fr hps2.le,hlim⟩,(have zz:=aI @t0 (aI @t1 (aI @t2 (aI @t3 (aI @t4 (aI @t10 (aI @t11 (aI @t12 (aI @t16 @t17))))))));agZ)⟩
 ·have tz:decide ((m:Int)-(a1:Int)<(e1:Int)-(m:Int))=false:=ba hlr;refine wnZ (aI @t0 (aI @t1 (aI @t2 (dH @t3 @t4 @t10 @t11 @t12 @t16 @t17 @tq @tz @tm)))) ?_;refine aQ ev0 (have zz:=aI @t0 (aI @t1 (aI @t2 (aI @t3 (aI @t4 (aI @t10 (aI @t11 (aI @t12 (aI @t16 @t17))))))));evZ) (ih (m+1) e1 lim M H1 n1 (by omega) hps.at_ (hbn _ _ _ hps) hl (hGA _ hpi) (by omega) (by omega) hlim (λq k0 k1 k2=>by rw[lX];exact hts.ge q k1 k2)) ?_;rintro _ H2 n2 ⟨N,hps2,hpN,hsN⟩;refine wnZ (dH @t0 @t1 @t2 @t3 @t4 @t10 @t11 @t12 @t16 @t17) ?_;exact⟨(a1,m,lim,decide (((l/8:Nat):Int)<=(e1:Int)-(m:Int)),t,N),by dsimp only;omega,⟨hpi.right hc.ord hts hpN hsN,hps.rec_ hps2.at_ hps2.fr hps2.le,hlim⟩,(have zz:=aI @t0 (aI @t1 (aI @t2 (aI @t3 (aI @t4 (aI @t10 (aI @t11 (aI @t12 (aI @t16 @t17))))))));agZ)⟩
end
section
variable{α:Type}[Inhabited α]{f:α->AV}{K:α->α->Int}{G:α->Prop}{g:Nat}{caps:List AV}
set_option maxRecDepth 100000 in
theorem Im{H:Hp}{nx:Nat}:Abs.Fn Tryz.prog 175 [.int .u64 0] H nx λr H' nx'=>nx'=nx/\H'=H/\r=.int .i64 0:=by
 refine fO JO ?_;simp only[J5,aL];generalize hT:AV.str (ByteArray.mk (Array.mk [0,1,2,2,3,3,3,3,4,4,4,4,4,4,4,4,5,5,5,5,5,5,5,5,5,5,5,5,5,5,5,5,6,6,6,6,6,6,6,6,6,6,6,6,6,6,6,6,6,6,6,6,6,6,6,6,6,6,6,6,6,6,6,6,7,7,7,7,7,7,7,7,7,7,7,7,7,7,7,7,7,7,7,7,7,7,7,7,7,7,7,7,7,7,7,7,7,7,7,7,7,7,7,7,7,7,7,7,7,7,7,7,7,7,7,7,7,7,7,7,7,7,7,7,7,7,7,7,8,8,8,8,8,8,8,8,8,8,8,8,8,8,8,8,8,8,8,8,8,8,8,8,8,8,8,8,8,8,8,8,8,8,8,8,8,8,8,8,8,8,8,8,8,8,8,8,8,8,8,8,8,8,8,8,8,8,8,8,8,8,8,8,8,8,8,8,8,8,8,8,8,8,8,8,8,8,8,8,8,8,8,8,8,8,8,8,8,8,8,8,8,8,8,8,8,8,8,8,8,8,8,8,8,8,8,8,8,8,8,8,8,8,8,8,8,8,8,8,8,8,8,8,8,8,8,8]))=tb;have ht:oT tb (.int .u8 0)=some (.int .u8 0):=by rw[<-hT];exact AG (x:=0) (by decide)
 clear hT;have w8:IntKind.wrap .u8 0=0:=by decide
 refine wnZ (aI @w8 @ht) ?_;exact⟨rfl,rfl,by congr 1⟩
theorem LB{H:Hp}{nx:Nat}:Abs.Fn Tryz.prog 156 [.int .u64 0] H nx λr H' nx'=>nx'=nx/\H'=H/\r=.int .i64 0:=by
 refine fO JL ?_;simp only[Kk,aL];refine wnZ and_self ?_;refine aQ ev0 ev0 Im ?_;rintro _ _ _ ⟨rfl,rfl,rfl⟩;refine wnZ and_self ?_;exact⟨rfl,rfl,rfl⟩
theorem CE(hc:Cmp Tryz.prog f K G g caps){L:List α}{H:Hp}{b nx n:Nat}(hH:H b=some (L.map f))(hbx:b<nx)(hn:L.length=n)(hn0:0<n)(hG:∀x∈L,G x)(hn2:n<=1000000000):
    Abs.Fn Tryz.prog 130 [.msl b n 1 0 n,.func g caps] H nx λr H' nx'=>∃L',PS H H' nx nx' b (L'.map f)/\L'.Perm L/\bh K 0 n L':=by
 refine fO JW ?_;simp only[KA,aL];have w:IntKind.wrap .u64 (n:Int)=n:=fB (by omega) (by omega);refine wnZ @w ?_;refine aQ ev0 (have zz:=@w;evZ) (Di hn0 (by omega)) ?_;rintro _ _ _ ⟨rfl,rfl,k,rfl,h3,h4⟩
 have hk:k<=62:=by
  rcases tn 62 k with h|h
  ·have:=Nat.pow_le_pow_right (n:=2) (by omega) h;omega
  ·exact h
 refine wnZ and_self ?_;refine aQ ev0 (have zz:=@Int.natCast_zero;evZ) (N6 hc hn2 (n+1) 0 n k L _ _ (by omega) hH hbx hn hG (by omega) (aM _) (by omega) (λq h=>by omega)) ?_;rintro _ _ _ ⟨N,hps,hp,hs⟩;refine wnZ and_self ?_;exact⟨N,hps,hp.perm,hs⟩
end
section
variable{α:Type}[Inhabited α]{f:α->AV}{K:α->α->Int}{G:α->Prop}{g:Nat}{caps:List AV}
end
section
variable{α:Type}[Inhabited α]{f:α->AV}{K:α->α->Int}{G:α->Prop}{g:Nat}{caps:List AV}
end
section
variable{α:Type}[Inhabited α]{f:α->AV}{K:α->α->Int}{G:α->Prop}{g:Nat}{caps:List AV}
end
section
variable{α:Type}[Inhabited α]{f:α->AV}{K:α->α->Int}{G:α->Prop}{g:Nat}{caps:List AV}
end
section
variable{α:Type}[Inhabited α]{f:α->AV}{K:α->α->Int}{G:α->Prop}{g:Nat}{caps:List AV}
end
section
variable{α:Type}[Inhabited α]{f:α->AV}{K:α->α->Int}{G:α->Prop}{g:Nat}{caps:List AV}
end
section
variable{α:Type}[Inhabited α]{f:α->AV}{K:α->α->Int}{G:α->Prop}{g:Nat}{caps:List AV}
end
section
variable{α:Type}[Inhabited α]{f:α->AV}{K:α->α->Int}{G:α->Prop}{g:Nat}{caps:List AV}
end
section
variable{α:Type}[Inhabited α]{f:α->AV}{K:α->α->Int}{G:α->Prop}{g:Nat}{caps:List AV}
end
section
variable{α:Type}[Inhabited α]{f:α->AV}{K:α->α->Int}{G:α->Prop}{g:Nat}{caps:List AV}
end
theorem AS(l:List Spx)(hl:l.length<=100000)(hs:∀s∈l,bR cu s/\s.length<=1000000)(H:Hp)(nx:Nat):Abs.Fn Tryz.prog 92 [ao l] H nx λr H' nx'=>∃ks vs,r=.mp nx/\IncOk H' nx nx nx' (n8 l l.length) ks vs/\(∀x,x<nx->H' x=H x)/\nx<nx':=by
 refine fO PG ?_;simp only[b92,aL];refine dJ ?_
 repeat' (first|apply a_n|refine zO ?_|refine vZ ?_|fail)
 refine dJ ?_;refine wnZ and_self ?_;refine ws ?_;refine wnY @ai ?_;refine bF (X:=Nat×List Vtx×List AV) (λx=>[(3,.mp nx),(9,ao l),(10,.int .i64 l.length),(11,.int .i64 x.1)]) (λx H' nx'=>x.1<=l.length/\IncOk H' nx nx nx' (n8 l x.1) x.2.1 x.2.2/\(∀y,y<nx->H' y=H y)/\nx<nx') (λx=>l.length-x.1) (0,[],[]) ⟨bQ _,⟨af,rfl,List.nodup_nil,λv=>by simp[n8],λj h=>absurd h (by simp),λj B h=>absurd h (by simp),λi j B h=>absurd h (by simp),by omega⟩,λy hy=>ae (by omega),by omega⟩ ag0 ?_;rintro⟨i,ks,vs⟩ H1 nx1 ⟨h1,h2,h3,h4⟩;dsimp only at h1 h2 |-;by_cases hi:i<l.length
 rotate_left
 ·obtain rfl:i=l.length:=by omega
  refine wnY and_self ?_;exact⟨ks,vs,rfl,h2,h3,h4⟩
 have ix:=fQ hi;obtain⟨hsa,hsl⟩:=hs _ (aA hi);have hstep:=λj v hj=>EZ (l:=l) (i:=i) (j:=j) (v:=v) hj hsa;have hend:=λv=>DB (l:=l) (i:=i) (v:=v);have hlen:=λj v=>Hq (l:=l) (i:=i) (j:=j) (v:=v);have h20:IncOk H1 nx nx nx1 (pN l i 0) ks vs:=by rw[show pN l i 0=n8 l i from funext λv=>Eb];exact h2
 have hend':n8 l (i+1)=pN l i (l.getD i default).length:=funext hend;clear h2;generalize l.getD i default=s at *;refine wnY (aI @ix @az) ?_;refine bF (X:=Nat×List Vtx×List AV) (λx=>[(3,.mp nx),(9,ao l),(10,.int .i64 l.length),(11,.int .i64 i),(4,.int .i64 i),(5,aF s),(16,aF s),(17,.int .i64 s.length),(18,.int .i64 x.1)]) (λx H' nx'=>x.1<=s.length/\IncOk H' nx nx nx' (pN l i x.1) x.2.1 x.2.2/\(∀y,y<nx->H' y=H y)/\nx<nx') (λx=>s.length-x.1) (0,ks,vs) ⟨bQ _,h20,h3,h4⟩ ag0 ?_;clear h20 h3 h4;rintro⟨j,ks,vs⟩ H2 nx2 ⟨k1,k2,k3,k4⟩;dsimp only at k1 k2 |-;by_cases hj:j<s.length
 rotate_left
 ·obtain rfl:j=s.length:=by omega
  refine wnY and_self ?_;exact⟨(i+1,ks,vs),by dsimp only;omega,⟨by dsimp only;omega,by dsimp only;rw[hend'];exact k2,k3,k4⟩,ag0⟩
 have iy:=ix2 hj;have hG:=λv=>hstep j v hj;have hcl:=hlen j (s.getD j default);generalize s.getD j default=w at *;refine wnY @iy ?_;have g3:∀x,x<nx2->ar (ar (ar H2 nx2 [.int .i64 0,.int .i64 0]) nx2 (bC [.int .i64 0,.int .i64 0] 0 [.int .i64 w.color,.int .i64 w.label])) (nx2+1) [.int .i64 i] x=H2 x:=λx hx=>by rw[ae (by omega),ae (by omega),ae (by omega)]
 have g4:ar (ar (ar H2 nx2 [.int .i64 0,.int .i64 0]) nx2 (bC [.int .i64 0,.int .i64 0] 0 [.int .i64 w.color,.int .i64 w.label])) (nx2+1) [.int .i64 i] (nx2+1)=some [.int .i64 i]:=af;generalize ar (ar (ar H2 nx2 [.int .i64 0,.int .i64 0]) nx2 (bC [.int .i64 0,.int .i64 0] 0 [.int .i64 w.color,.int .i64 w.label])) (nx2+1) [.int .i64 i]=H3 at *;have hmf:=Fl w ks;have hkl:(ks.map dX).length=ks.length:=bm ..;by_cases hw:w∈ks
 ·rw[if_pos hw] at hmf;obtain⟨m1,m2⟩:=yz hw;have hr:=k2.row (ks.idxOf w) m1;rw[m2] at hr;refine Hh ev0 ((g3 nx (by omega)).trans k2.box) ev0 (F9 w) hmf ?_;have g5:∀x,x<nx2->x≠nx->ar H3 nx [.omap (da (dX w) (some (ks.idxOf w)) (ks.map dX)) (n9 .esl (some (ks.idxOf w)) vs)] x=H2 x:=λx hx hn=>by rw[ae hn,g3 x hx]
  have g6:ar H3 nx [.omap (da (dX w) (some (ks.idxOf w)) (ks.map dX)) (n9 .esl (some (ks.idxOf w)) vs)] nx=some [.omap (ks.map dX) vs]:=af;have g7:ar H3 nx [.omap (da (dX w) (some (ks.idxOf w)) (ks.map dX)) (n9 .esl (some (ks.idxOf w)) vs)] (nx2+1)=some [.int .i64 i]:=by rw[ae (by omega)];exact g4
  generalize ar H3 nx [.omap (da (dX w) (some (ks.idxOf w)) (ks.map dX)) (n9 .esl (some (ks.idxOf w)) vs)]=H4 at *;rw[show DJ .esl (some (ks.idxOf w)) vs=vs.getD (ks.idxOf w) .undef from rfl,show Br (some (ks.idxOf w)) (ks.map dX)=ks.idxOf w from rfl];refine wnY and_self ?_;refine mg (k:=1) (new:=[.int .i64 i]) rfl ev0 (hr.same λB hB=>?_) ev0 (gm (n:=1) (len:=1) (off:=0) g7 rfl (by omega)) rfl rfl lh (by rw[bm];omega) (by rw[bm];omega) ?_
  ·have:=k2.bnd _ B m1 hB;exact g5 B this.2.1 this.2.2
  rintro s2 H5 nx5 hr5 i1 i2 i3 i4;refine wnY and_self ?_;refine FM ev0 ((i3 nx (by omega) (λh=>(k2.bnd _ nx m1 h).2.2 rfl)).trans g6) ev0 (by rw[hkl];exact m1) ev0 ?_;refine wnY and_self ?_;refine⟨(j+1,ks,vs.set (ks.idxOf w) s2),by dsimp only;omega,⟨by dsimp only;omega,IncOk.put k2 hw hG ?_ (λB hB=>?_) af (λx hx hx2 hxn hxr=>?_) (by omega) (by omega),λy hy=>?_,by omega⟩,ag0⟩
  ·rw[dq]
   exact hr5.same λB hB=>ae λe=>by
    rcases i4 B hB with h|h
    ·exact(k2.bnd _ B m1 h).2.2 e
    ·omega
  ·rcases i4 B hB with h|h
   ·exact .inl h
   ·exact .inr (by omega)
  ·rw[ae hxn,i3 x (by omega) hxr,g5 x hx2 hxn]
  ·rw[ae (by omega),i3 y (by omega) (λh=>by have:=k2.bnd _ y m1 h;omega),g5 y (by omega) (by omega)];exact k3 y hy
 ·rw[if_neg hw] at hmf;refine Hh ev0 ((g3 nx (by omega)).trans k2.box) ev0 (F9 w) hmf ?_;have g5:∀x,x<nx2->x≠nx->ar H3 nx [.omap (da (dX w) none (ks.map dX)) (n9 .esl none vs)] x=H2 x:=λx hx hn=>by rw[ae hn,g3 x hx]
  have g6:ar H3 nx [.omap (da (dX w) none (ks.map dX)) (n9 .esl none vs)] nx=some [.omap (ks.map dX++[dX w]) (vs++[.esl])]:=af;have g7:ar H3 nx [.omap (da (dX w) none (ks.map dX)) (n9 .esl none vs)] (nx2+1)=some [.int .i64 i]:=by rw[ae (by omega)];exact g4
  generalize ar H3 nx [.omap (da (dX w) none (ks.map dX)) (n9 .esl none vs)]=H4 at *;rw[show DJ .esl none vs=.esl from rfl,show Br none (ks.map dX)=ks.length from hkl];refine wnY and_self ?_;refine mg (k:=1) (new:=[.int .i64 i]) (cs:=[]) rfl ev0 Row.nil ev0 (gm (n:=1) (len:=1) (off:=0) g7 rfl (by omega)) rfl rfl lh (by simp) (by simp) ?_;rintro s2 H5 nx5 hr5 i1 i2 i3 i4;have i4':∀B,bX s2=some B->B=nx2+1+1/\nx5=nx2+1+1+1:=λB hB=>(i4 B hB).elim (λh=>by cases h) id;refine wnY and_self ?_;refine FM (i:=ks.length) ev0 ((i3 nx (by omega) (λh=>by cases h)).trans g6) ev0 (by rw[cP,hkl];simp) ev0 ?_;have hset:(vs++[AV.esl]).set ks.length s2=vs++[s2]:=by rw[<-k2.len];simp
  rw[hset];refine wnY and_self ?_;refine⟨(j+1,ks++[w],vs++[s2]),by dsimp only;omega,⟨by dsimp only;omega,IncOk.new k2 hw hG ?_ (λB hB=>?_) (by rw[dq];exact af) (λx hx hx2 hxn=>?_) (by omega) (by omega),λy hy=>?_,by omega⟩,ag0⟩
  ·exact hr5.same λB hB=>ae (by have:=i4' B hB;omega)
  ·have:=i4' B hB;omega
  ·rw[ae hxn,i3 x (by omega) (λh=>by cases h),g5 x hx2 hxn]
  ·rw[ae (by omega),i3 y (by omega) (λh=>by cases h),g5 y (by omega) (by omega)];exact k3 y hy
theorem Eo(l:List Int)(p:Int->Bool)(g:Nat)(caps:List AV)(hd:∀x∈caps,Dat x)(hg:∀x∈l,pU g (.int .i64 x::caps) (.bool (p x)))(hl:Shn l):pU 101 [aH l,.func g caps] (.int .i64 (if l.any p then(l.findIdx p:Nat) else-1)):=by
 refine pO M8 ?_;simp only[Nr,aL];have hl':l.length<=17592186044416:=hl;refine wnZ and_self ?_;refine bF (X:=Nat) (λk=>[(0,aH l),(1,.func g caps),(6,aH l),(7,.int .i64 l.length),(8,.int .i64 k)]) (λk H nx=>k<=l.length/\∀i,i<k->p (l.getD i default)=false) (λk=>l.length-k) 0 ⟨bQ _,λi h=>absurd h (by omega)⟩ ag0 ?_;rintro k H nx ⟨hk,hz⟩;by_cases hk2:k<l.length
 rotate_left
 ·rw[ry λi hi=>hz i (by omega),if_neg (by decide)];refine wnY and_self ?_;exact eW rfl
 have hc:=hg _ (aK hk2);cases hp:p (l.getD k default)
 ·rw[hp] at hc;refine wnY and_self ?_;refine dh ev0 ev0 hc (a9 (ah (.int _ _) (bq hd))) ?_;refine wnY and_self ?_
  exact ⟨k + 1,by omega,⟨by omega,fun i hi=>by
   rcases jX.1 hi with h|rfl
   ·exact hz i h
   ·exact hp⟩,ag0⟩
 ·rw[hp] at hc;obtain⟨e1,e2⟩:=zj hk2 hz hp;rw[e1,e2,if_pos rfl];refine wnY and_self ?_;refine dh ev0 ev0 hc (a9 (ah (.int _ _) (bq hd))) ?_;refine wnY and_self ?_;exact .int _ _
theorem qp(l:List Int)(p:Int->Bool)(g:Nat)(caps:List AV)(hd:∀x∈caps,Dat x)(hg:∀x∈l,pU g (.int .i64 x::caps) (.bool (p x)))(hl:Shn l):pU 48 [aH l,.func g caps] (.bool (l.any p)):=by
 refine pO PY ?_;simp only[b48,aL];have h:=Eo l p g caps hd hg hl
 repeat' (first|refine zW ?_|apply a_n|refine zO ?_|refine vZ ?_|refine cZ ?_ (hp:=h) (hs:=by(first|refine aG ?_ rfl|apply a9);(repeat' (first|exact ap|apply bI|apply bc|exact dp _|exact Dat.func hd));first|done|fail)|refine b0 rfl ?_|refine r1Z ?_|fail)
 cases hA:l.any p
 ·exact ct (by simp)
 ·exact ct (by simp)
def OkS(l:List Spx):Prop:=l.length<=100000/\∀s∈l,bR cu s/\s.length<=1000
theorem B2(l:List Spx)(s:Spx)(i:Nat)(hl:OkS l)(hs:bR cu s/\s.length<=1000)(hi:i<l.length):pU 157 [.int .i64 i,.iptr [ao l] 0,.iptr [aF s] 0] (.bool (decide (s.length<(l.getD i default).length)&&fH s (l.getD i default))):=by
 refine pO N1 ?_;simp only[Oj,aL];have ix:=fQ hi;obtain⟨t1,t2⟩:=hl.2 _ (aA hi);have hf:=K3 s (l.getD i default) hs.1 t1 (by omega) (by omega);generalize l.getD i default=t at *;by_cases h:s.length<t.length
 ·have z:decide ((s.length:Int)<t.length)=true:=a6 (by omega);rw[a6 h,Bool.true_and];refine wkZ (zI3 @az @ix @z) ?_;exact .bool _
 ·have z:decide ((s.length:Int)<t.length)=false:=ba (by omega);rw[ba h,Bool.false_and];refine wkZ (zI3 @az @ix @z) ?_;exact .bool _
theorem El(l:List Spx)(s:Spx)(hl:OkS l)(hs:bR cu s/\s.length<=1000)(h0:0<s.length):pU 131 [ao l,aH ((n8 l l.length (s.getD 0 default)).map λ(n:Nat)=>(n:Int)),aF s] (.bool (dT l s)):=by
 refine pO N8 ?_;simp only[Nt,aL];have hll:=hl.1
 have h:=qp ((n8 l l.length (s.getD 0 default)).map fun (n:Nat)=>(n:Int)) (fun i=>decide (s.length < (l.getD i.toNat default).length) && fH s (l.getD i.toNat default)) 157 [.iptr [ao l] 0,.iptr [aF s] 0] (DatL.cons (Dat.iptr (DatL.cons (bD _) DatL.nil)) (DatL.cons (Dat.iptr (DatL.cons (dN _) DatL.nil)) DatL.nil)) (fun x hx=>by
  obtain⟨n,hn,rfl⟩:=bz.1 hx;have hn2:n<l.length:=dE.1 (eG.1 hn).1;rw[bN];exact B2 l s n hl hs hn2) (by rw[Shn,bm];have:=yV (l:=l) (i:=l.length) (v:=s.getD 0 default);omega)
 rw [I1 (p:=fun t=>decide (s.length < t.length) && fH s t) h0 (fun t ht=>by
  rw[eu,gI] at ht;exact ht.2 _ (aA h0))] at h
 refine wnZ (zI4 @ak @ag @be @aX) ?_;refine dh (have zz:=aI @ak (aI @ag (aI @be @aX));evZ) (have zz:=aI @ak (aI @ag (aI @be @aX));evZ) h (aG (ah (dp _ _) (ah (wN (ah (zP rfl rfl (ah (bD _ _) ap)) (ah (zP rfl rfl (ah (dN _ _) ap)) ap))) ap)) rfl) ?_;refine wnZ and_self ?_;exact .bool _
end
theorem GF{H:Hp}{sv:AV}{F:List Nat}(h:Row H 1 sv (F.map Bs)):Snap H sv (aH (F.map λ(n:Nat)=>(n:Int))):=by
 refine Row.snapI ?_;rw[List.map_map];exact h
theorem u0{c:List Spx}{k:Nat}:qL c k=if bT (c.getD k default)≠0 then bT (c.getD k default) else if 0<k/\0<=bo (c.getD (k-1) default) (c.getD k default) then 14 else 0:=rfl
theorem G0 {c:List Spx} (h1:c.length ≤ 4096) (h:∀ s ∈ c,bT s=0):OkS c:=⟨by omega,fun s hs=>by
 obtain⟨a1,a2,a3,a4⟩:=cE (h s hs);exact⟨a3,by omega⟩⟩
theorem kQ{H:Hp}{b:Nat}{cs:List AV}(h:H b=some cs):Sub (only b cs) H:=λx c hx=>by
 unfold only at hx;split at hx
 ·rename_i e;rw[e,h];exact hx
 ·cases hx
def on2(b1:Nat)(c1:List AV)(b2:Nat)(c2:List AV):Hp:=λx=>if x=b1 then some c1 else if x=b2 then some c2 else none
theorem Mp{b1 b2:Nat}{c1 c2:List AV}:on2 b1 c1 b2 c2 b1=some c1:=if_pos rfl
theorem MF{b1 b2:Nat}{c1 c2:List AV}(h:b2≠b1):on2 b1 c1 b2 c2 b2=some c2:=by unfold on2;rw[if_neg h,if_pos rfl]
theorem Cv{b1 b2:Nat}{c1 c2:List AV}{H:Hp}(h1:H b1=some c1)(h2:H b2=some c2):Sub (on2 b1 c1 b2 c2) H:=λx cs h=>by
 unfold on2 at h;split at h
 ·rename_i e;rw[e,h1];exact h
 ·split at h
  ·rename_i e;rw[e,h2];exact h
  ·cases h
theorem qE{P:Program}{T:Tm}{H:Hp}{nx:Nat}(b1 b2:Nat){c1 c2:List AV}{K:CP}{m:Nat}{l:List Op2}{C:List (Nat×Nat)}(h1:H b1=some c1)(h2:H b2=some c2)(hne:b2≠b1)(k:∀S:Hp,S b1=some c1->S b2=some c2->(∀H':Hp,H' b1=some c1->H' b2=some c2->Sub S H')->bg P S (C.map λk=>(l.getD k.1 ⟨none,none,.dead⟩,k.2)) T H nx λT H nx=>K .normal T H nx):aO P (.mixS m l C) T H nx K:=
 ym (on2 b1 c1 b2 c2) rfl (Cv h1 h2) (k _ Mp (MF hne) λ_ a b=>Cv a b)
theorem w_mix1{P:Program}{T:Tm}{H:Hp}{nx:Nat}(b:Nat){c:List AV}{K:CP}{m:Nat}{l:List Op2}{C:List (Nat×Nat)}(h:H b=some c)(k:∀S:Hp,S b=some c->(∀H':Hp,H' b=some c->Sub S H')->bg P S (C.map λk=>(l.getD k.1 ⟨none,none,.dead⟩,k.2)) T H nx λT H nx=>K .normal T H nx):aO P (.mixS m l C) T H nx K:=
 ym (only b c) rfl (kQ h) (k _ ma λ_ h=>kQ h)
theorem EX{c:List Spx}(h1:∀s∈c,bR cu s)(h2:bR bo c){i k:Nat}(hi:i<c.length)(hk:k<c.length)(hik:i≠k)(h:fH (c.getD i default) (c.getD k default)=true):dT c (c.getD i default)=true:=by
 refine pJ.2 ⟨_,aA hk,Kb (h1 _ (aA hi)) (h1 _ (aA hk)) (gI.1 h) λe=>?_,gI.1 h⟩;rcases so i k with q|q|q
 ·have:=ec h2 q hk;rw[e] at this;exact ie.ord.irr _ this
 ·exact hik q
 ·have:=ec h2 q hi;rw[e] at this;exact ie.ord.irr _ this
theorem G8{c:List Spx}{i:Nat}(h:dT c (c.getD i default)=true):∃k,k<c.length/\i≠k/\fH (c.getD i default) (c.getD k default)=true:=by
 obtain⟨t,ht,h1,h2⟩:=pJ.1 h;obtain⟨k,hk,rfl⟩:=kI ht;have e:c.getD k default=c[k]:=by simp[List.getD,hk]
 refine⟨k,hk,λhik=>?_,by rw[e];exact gI.2 h2⟩;subst hik;rw[e] at h1;omega
structure MapV where
 fr:Spx
 to:Spx
 deriving Inhabited,DecidableEq
abbrev NY(m:MapV):AV:=.agg [aF m.fr,aF m.to]
theorem GD(m:MapV):Dat (NY m):=Dat.agg (DatL.cons (dN _) (DatL.cons (dN _) DatL.nil))
instance datI_encM{m:MapV}:DatI (NY m):=⟨GD m⟩
theorem BB{c:List Spx}:lQ c=true↔c.length<=30/\∀s∈c,s.length<=10:=by
 unfold lQ;rw[eu,yy,eN];simp only[yy]
def cV:Spx->Nat->List Spx
 |_,0=>[[]]
 |[],_+1=>[]
 |x::l,k+1=>(cV l k).map (x:: ·)++cV l (k+1)
theorem oZ{l:Spx}:cV l 0=[[]]:=by cases l<;>rfl
theorem ut{k:Nat}:cV [] (k+1)=[]:=rfl
theorem iz{x:Vtx}{l:Spx}{k:Nat}:cV (x::l) (k+1)=(cV l k).map (x:: ·)++cV l (k+1):=rfl
theorem ff:∀{l:Spx}{k:Nat}{s:Spx},s∈cV l k↔s.Sublist l/\s.length=k
 |l,0,s=>by
  rw[oZ,cC];exact⟨λh=>by subst h;exact⟨List.nil_sublist _,rfl⟩,λh=>fI.1 h.2⟩
 |[],k+1,s=>by
  rw[ut];refine⟨λh=>(by cases h),λ⟨h1,h2⟩=>?_⟩;rw[List.sublist_nil] at h1;subst h1;simp at h2
 |x::l,k+1,s=>by
  rw[iz,eJ,bz,ff];constructor
  ·rintro(⟨t,ht,rfl⟩|⟨h1,h2⟩)
   ·have:=ff.1 ht;exact⟨this.1.cons_cons x,by simp[this.2]⟩
   ·exact⟨h1.cons x,h2⟩
  ·rintro⟨h1,h2⟩;cases h1 with
   |cons _ h=>exact .inr ⟨h,h2⟩
   |cons_cons _ h=>exact .inl ⟨_,ff.2 ⟨h,by simpa using h2⟩,rfl⟩
theorem uG{l:Spx}{k:Nat}(h:l.length<k):cV l k=[]:=by
 cases e:cV l k with
 |nil=>rfl
 |cons a r=>
  have:=ff.1 (show a∈cV l k by rw[e];exact cz);have:=this.1.length_le;omega
def chK:Nat->Nat->Nat
 |_,0=>1
 |0,_+1=>0
 |n+1,k+1=>chK n k+chK n (k+1)
theorem Mn{n:Nat}:chK n 0=1:=by cases n<;>rfl
theorem vu:∀{l:Spx}{k:Nat},(cV l k).length=chK l.length k
 |l,0=>by rw[oZ,Mn];rfl
 |[],k+1=>rfl
 |x::l,k+1=>by
  rw[iz,cP,bm,vu,vu];rfl
theorem Kr{n k:Nat}(hn:n<=8):chK n k<=70:=by
 by_cases hk:k<=8
 ·have:∀n,n<9->∀k,k<9->chK n k<=70:=by decide
  exact this n (by omega) k (by omega)
 ·have:∀n k,n<k->chK n k=0:=by
    intro n
    induction n with
    |zero=>intro k h;match k,h with|k+1,_=>rfl
    |succ n ih=>intro k h;match k,h with|k+1,h=>show chK n k+chK n (k+1)=0;rw[ih k (by omega),ih (k+1) (by omega)]
  rw[this n k (by omega)];omega
theorem xS{l:Spx}{k:Nat}(h:l.length<=8):(cV l k).length<=70:=by rw[vu];exact Kr h
theorem Dz{l:Spx}{i k:Nat}(hi:i<l.length):cV (l.drop i) (k+1)=(cV (l.drop (i+1)) k).map (l.getD i default:: ·)++cV (l.drop (i+1)) (k+1):=by
 rw[List.drop_eq_getElem_cons hi,iz];simp[List.getD,hi]
theorem wc{v w:Vtx}{l m:Spx}:bo (v::l) (w::m)=if cu v w≠0 then cu v w else bo l m:=rfl
theorem DH{v:Vtx}{l m:Spx}:bo (v::l) (v::m)=bo l m:=by
 rw[wc,if_neg (λh=>h (jC.2 rfl))]
theorem m8:∀{l:Spx}{k:Nat},bR cu l->bR bo (cV l k)
 |l,0,_=>by rw[oZ];exact List.pairwise_singleton _ _
 |[],k+1,_=>pb
 |x::l,k+1,h=>by
  have h':=im.1 h;rw[iz];unfold bR;rw[List.pairwise_append];refine⟨?_,m8 h'.2,?_⟩
  ·rw[List.pairwise_map];exact vL (λ{a b} hab=>by rw[DH];exact hab) (m8 (k:=k) h'.2)
  ·intro a ha b hb;obtain⟨t,_,rfl⟩:=bz.1 ha;have hb':=ff.1 hb;cases b with
   |nil=>simp at hb'
   |cons y r=>
    have hy:y∈l:=hb'.1.subset cz;have:=h'.1 y hy;rw[wc,if_pos (by omega)];exact this
def th(s:Spx)(k:Int):List Spx×Int:=if bT s≠0 then([],bT s) else if k<1\/(s.length:Int)<k then([],2) else(cV s k.toNat,0)
theorem dS{H:Hp}{s:AV}{l:List Spx}{e f:Int}(h:Snap H s (ao l))(he:e=f):Snap H (.tup [s,.int .i64 e]) (.tup [ao l,.int .i64 f]):=by
 subst he;exact bA (ah h (ah (.int _ _) ap))
theorem BG{l:Spx}{k:Nat}(h:k<=l.length):lF 2 (aF l) (some (.int .i64 k)) none none=some (aF (l.drop k)):=jo h
def jb(c:List Spx)(k:Nat):List Spx:=vI bo (c.flatMap λs=>cV s k)
theorem D8{c:List Spx}{k i:Nat}(hi:i<c.length):(c.take (i+1)).flatMap (λs=>cV s k)=(c.take i).flatMap (λs=>cV s k)++cV (c.getD i default) k:=by
 rw[ci hi,List.flatMap_append];simp
theorem pr{k:Nat}:∀{c:List Spx},(∀s∈c,s.length<=8)->(c.flatMap λs=>cV s k).length<=70*c.length
 |[],_=>by simp
 |s::c,h=>by
  rw[vC,cP,br];have:=xS (l:=s) (k:=k) (h s cz);have:=pr (k:=k) (c:=c) (λt ht=>h t (dy _ ht));omega
theorem pH{c:List Spx}{k:Nat}{s:Spx}:s∈c.flatMap (λs=>cV s k)↔ ∃t∈c,s∈cV t k:=by rw[List.mem_flatMap]
def fM(c:List Spx)(k:Int):List Spx×Int:=if aB c≠0 then([],aB c) else if k<1\/8<k then([],2) else(jb c k.toNat,0)
def iT:Nat->Spx->List Int
 |0,_=>[]
 |n+1,[]=>(-1)::0::iT n []
 |n+1,v::l=>v.color::v.label::iT n l
theorem qg:∀{n:Nat}{s:Spx},(iT n s).length=2*n
 |0,_=>rfl
 |n+1,[]=>by show(iT n []).length+1+1=_;rw[qg];omega
 |n+1,v::l=>by show(iT n l).length+1+1=_;rw[qg];omega
theorem y8:∀{n:Nat}{s t:Spx},s.length<=n->t.length<=n->(∀v∈s,0<=v.color)->(∀v∈t,0<=v.color)->iT n s=iT n t->s=t
 |0,[],[],_,_,_,_,_=>rfl
 |0,_::_,_,h,_,_,_,_=>absurd h (by simp)
 |0,[],_::_,_,h,_,_,_=>absurd h (by simp)
 |n+1,[],[],_,_,_,_,_=>rfl
 |n+1,[],w::m,_,_,_,h2,e=>by
  have:(-1:Int)=w.color:=(List.cons.inj e).1;have:=h2 w cz;omega
 |n+1,v::l,[],_,_,h1,_,e=>by
  have:v.color=(-1:Int):=(List.cons.inj e).1;have:=h1 v cz;omega
 |n+1,v::l,w::m,hl,hm,h1,h2,e=>by
  obtain⟨e1,e2⟩:=List.cons.inj e;obtain⟨e2,e3⟩:=List.cons.inj e2;have:=y8 (n:=n) (by simp at hl;omega) (by simp at hm;omega) (λx hx=>h1 x (dy _ hx)) (λx hx=>h2 x (dy _ hx)) e3;rw[this,pj.2 ⟨e1,e2⟩]
def HN(x:List Int):AV:=.agg (x.map (AV.int .i64))
theorem Fs (x:List Int):Dat (HN x):=Dat.agg (by
 induction x with
 |nil=>exact DatL.nil
 |cons a l ih=>exact DatL.cons .int ih)
theorem Cq:∀{n:Nat}{s:Spx},s.length<=n->cX s++((iT n []).map (AV.int .i64)).drop (s.length*2)=(iT n s).map (AV.int .i64)
 |n,[],_=>by simp[cX]
 |0,_::_,h=>absurd h (by simp)
 |n+1,v::l,h=>by
  have:=Cq (n:=n) (s:=l) (by simp at h;omega);show [AV.int .i64 v.color,AV.int .i64 v.label]++cX l++_=AV.int .i64 v.color::AV.int .i64 v.label::(iT n l).map (AV.int .i64);rw[<-this,br,show(l.length+1)*2=l.length*2+1+1 by omega];rfl
def kc(k:Nat):List AV:=(iT k []++List.replicate (2*(8-k)) 0).map (AV.int .i64)
theorem DA{H:Hp}{sz:Nat}{s:AV}{elems:List AV}(h:Row H sz s (elems.flatMap AV.cells))(hc:∀y∈elems,y.cells.length=sz)(hz:0<sz)(hd:∀y∈elems,∀c∈y.cells,SnapF H c c):SnapF H s (.sl sz elems):=by
 obtain⟨f1,f2⟩:=fC elems hc;generalize he:elems.flatMap AV.cells=cs at h;cases h with
 |nil=>
  have:elems.length*sz=0:=by rw[<-f1,he];rfl
  have:elems=[]:=fI.1 (by
   rcases Nat.mul_eq_zero.1 this with h|h
   ·exact h
   ·omega)
  subst this;exact .eslsl sz
 |box b len cs hb hl=>
  have hlen:elems.length=len:=Nat.eq_of_mul_eq_mul_right hz (by rw[<-f1,he,hl]);refine .msl b (len*sz) sz 0 len cs elems hb hl (by omega) hlen hc (λi j y a c hy hc' ha=>?_);have hj:j<sz:=by rw[<-hc y (gZ hy)];exact(b6.1 hc').1
  have key:∀(l:List AV)(i j:Nat)(y c:AV),(∀z∈l,z.cells.length=sz)->l[i]?=some y->y.cells[j]?=some c->j<sz->(l.flatMap AV.cells)[i*sz+j]?=some c:=by
   intro l
   induction l with
   |nil=>intro i j y c _ h;simp at h
   |cons x l ih=>
    intro i j y c hl hy hc hj;rw[vC];cases i with
    |zero=>
     simp at hy;subst hy;rw[xT,bP,hJ (by rw[hl x (by simp)];exact hj)];exact hc
    |succ i=>
     rw[je (by rw[hl x (by simp),gb];omega),hl x (by simp)];have:=ih i j y c (λz hz=>hl z (by simp[hz])) (by simpa using hy) hc hj;rw[<-this];congr 1;rw[gb];omega
  have:=key elems i j y c hc hy hc' hj;rw[he,<-bP (i*sz)] at this;rw[this] at ha;cases ha;exact hd y (gZ hy) a (gZ hc')
theorem sy{H:Hp}{s:AV}{l:Spx}(h:Row H 2 s (cX l)):SnapF H s (aF l):=by
 refine DA (elems:=l.map dX) (by rw[Ca];exact h) (λy hy=>?_) (by omega) (λy hy c hx=>?_)
 ·obtain⟨n,_,rfl⟩:=bz.1 hy;rfl
 ·obtain⟨n,_,rfl⟩:=bz.1 hy;simp only[dX,AV.cells,dg,List.not_mem_nil,or_false] at hx;rcases hx with rfl|rfl<;>exact .int _ _
def K16:Type:={x:List Int // x.length=16}
instance:DecidableEq K16:=inferInstanceAs (DecidableEq {x:List Int // x.length=16})
def kK(s:Spx):K16:=⟨iT 8 s,by rw[qg]⟩
def eK(x:K16):AV:=HN x.1
theorem sV:∀{n:Nat}{xs ys:List Int},xs.length=n->ys.length=n->dU (List.replicate n .int) (xs.map (AV.int .i64)) (ys.map (AV.int .i64))=some (decide (xs=ys))
 |0,[],[],_,_=>rfl
 |0,_::_,_,h,_=>absurd h (by simp)
 |0,[],_::_,_,h=>absurd h (by simp)
 |n+1,[],_,h,_=>absurd h (by simp)
 |n+1,_::_,[],_,h=>absurd h (by simp)
 |n+1,x::xs,y::ys,h1,h2=>by
  have ih:=sV (n:=n) (xs:=xs) (ys:=ys) (by simpa using h1) (by simpa using h2);have e:(x==y)=decide (x=y):=rfl;rw[List.replicate_succ,ew,ew];by_cases hxy:x=y
  ·subst hxy;simp only[dU,jH,if_true,e,decide_true,ih];simp
  ·simp only[dU,jH,if_true,e,ba hxy];simp[hxy]
theorem Ki(a b:K16):p9 (.st [.int,.int,.int,.int,.int,.int,.int,.int,.int,.int,.int,.int,.int,.int,.int,.int]) (eK a) (eK b)=some (decide (a=b)):=by
 show dU (List.replicate 16 .int) (a.1.map (AV.int .i64)) (b.1.map (AV.int .i64))=_;rw[sV a.2 b.2]
 congr 1
 exact decide_eq_decide.2 ⟨Subtype.ext,λh=>congrArg Subtype.val h⟩
theorem HV(v:K16)(ks:List K16):dA (.st [.int,.int,.int,.int,.int,.int,.int,.int,.int,.int,.int,.int,.int,.int,.int,.int]) (eK v) (ks.map eK)=some (if v∈ks then some (ks.idxOf v) else none):=nU _ eK Ki v ks
theorem Dd(v:K16):jU (.st [.int,.int,.int,.int,.int,.int,.int,.int,.int,.int,.int,.int,.int,.int,.int,.int]) (eK v)=true:=by
 show(16==(v.1.map (AV.int .i64)).length)=true;rw[bm,v.2];rfl
def mY(s:Spx):Prop:=1<=s.length/\s.length<=8/\∀v∈s,0<=v.color
theorem KD{s t:Spx}(hs:mY s)(ht:mY t)(h:kK s=kK t):s=t:=y8 hs.2.1 ht.2.1 hs.2.2 ht.2.2 (congrArg Subtype.val h)
theorem Kw{O:List Spx}{f:Spx}(hO:∀s∈O,mY s)(hf:mY f):kK f∈O.map kK↔f∈O:=by
 rw[bz];exact⟨λ⟨s,h1,h2⟩=>by rw[<-KD (hO s h1) hf h2];exact h1,λh=>⟨f,h,rfl⟩⟩
theorem IH{s:Spx}(h:bT s=0):mY s:=by
 obtain⟨p1,p2,p3,p4⟩:=cE h;refine⟨p1,p2,λv hv=>?_⟩;have:=p4 v hv;unfold gu at this;simp only[eu,iB] at this;exact this.1.1
theorem GZ{s t:Spx}{k:Nat}(hs:mY s)(hk:1<=k)(h:t∈cV s k):mY t:=by
 obtain⟨h1,h2⟩:=ff.1 h;exact⟨by omega,fK h1.length_le hs.2.1,λv hv=>hs.2.2 v (h1.subset hv)⟩
theorem rW{O L P:List Spx}(hp:L.Perm O)(hs:bh bo 0 L.length L)(hn:O.Nodup)(hm:∀s,s∈O↔s∈P):L=vI bo P:=by
 refine lB ie ?_ (tC ie P) λs=>by rw[hp.mem_iff,hm,pY]
 unfold bR;rw[kE];intro i j hi hj hij;have h1:=hs i j (bQ _) hij hj;rw[show L.getD i default=L[i] by simp[List.getD,hi],show L.getD j default=L[j] by simp[List.getD,hj]] at h1;rcases ie.tri L[i] L[j] with h|h|h
 ·exact h
 ·have:=(List.nodup_iff_pairwise_ne.1 (hp.nodup_iff.2 hn))
  exact absurd h ((kE.1 this) i j hi hj hij)
 ·exact absurd h h1
theorem uv(K:Nat->Int):∀n,(∀i j,i<j->j<n->K j<0->K i<0)->∃b,b<=n/\(∀i,i<b->K i<0)/\∀i,b<=i->i<n->0<=K i
 |0,_=>⟨0,aM _,λi h=>absurd h (by omega),λi _ h=>absurd h (by omega)⟩
 |n+1,hm=>by
  by_cases h:K n<0
  ·refine⟨n+1,aM _,λi hi=>?_,λi h1 h2=>absurd h1 (by omega)⟩;by_cases e:i=n
   ·subst e;exact h
   ·exact hm i n (by omega) (by omega) h
  ·obtain⟨b,h1,h2,h3⟩:=uv K n (λi j hi hj=>hm i j hi (by omega));refine⟨b,by omega,h2,λi hi hi2=>?_⟩;by_cases e:i=n
   ·subst e;omega
   ·exact h3 i hi (by omega)
theorem C6{tb tf:Bool}{i j:Nat}:bv .shr tb tf (.int .u64 ((i:Int)+(j:Int))) (.int .u64 1)=some (.int .u64 (((i+j)/2:Nat):Int)):=by
 have:=xR (k:=.u64) (a:=i+j) (b:=1) (tb:=tb) (tf:=tf) (k':=.u64) (by decide);simpa using this
def bu(l:List Nat):List Int:=l.map λ(n:Nat)=>(n:Int)
def ez(c:Int)(rows:List (List Int)):AV:=.agg [.int .i64 c,bK rows]
theorem dG(c:Int)(rows:List (List Int)):Dat (ez c rows):=Dat.agg (DatL.cons .int (DatL.cons (nF _) DatL.nil))
structure MatOk(H:Hp)(b lo hi n:Nat)(F:Nat->List Nat)(vs:List AV):Prop where
 box:H b=some vs
 len:vs.length=n
 row:∀j,j<n->Row H 1 (vs.getD j .undef) ((F j).map Bs)
 bnd:∀j B,j<n->bX (vs.getD j .undef)=some B->lo<=B/\B<hi/\B≠b
 apart:∀i j B,i<n->j<n->i≠j->bX (vs.getD i .undef)=some B->bX (vs.getD j .undef)≠some B
theorem MatOk.same{H H':Hp}{b lo hi hi' n:Nat}{F G:Nat->List Nat}{vs:List AV}(h:MatOk H b lo hi n F vs)(hb:H' b=H b)(hs:∀x,lo<=x->x<hi->x≠b->H' x=H x)(hh:hi<=hi')(hG:∀j,j<n->G j=F j):MatOk H' b lo hi' n G vs:=
 ⟨hb.trans h.box,h.len,λj hj=>by rw[hG j hj];exact(h.row j hj).same λB hB=>by have:=h.bnd j B hj hB;exact hs B this.1 this.2.1 this.2.2,λj B hj hB=>by have:=h.bnd j B hj hB;exact⟨this.1,by omega,this.2.2⟩,h.apart⟩
theorem MatOk.put{H H':Hp}{b lo hi hi' n i x:Nat}{F G:Nat->List Nat}{vs:List AV}{sv:AV}(h:MatOk H b lo hi n F vs)(hin:i<n)(hG:∀j,j<n->G j=if j=i then F j++[x] else F j)(hrow:Row H' 1 sv ((F i++[x]).map Bs))(hB:∀B,bX sv=some B->bX (vs.getD i .undef)=some B\/hi<=B/\B<hi'/\B≠b)(hb:H' b=some (vs.set i sv))
    (hs:∀x,lo<=x->x<hi->x≠b->bX (vs.getD i .undef)≠some x->H' x=H x) (hh:hi<=hi') (hlo:lo<=hi):MatOk H' b lo hi' n G (vs.set i sv):=by
 have hl:=h.len;have hg:∀j,(vs.set i sv).getD j .undef=if i=j then sv else vs.getD j .undef:=λj=>ru (by omega)
 refine⟨hb,by simp[hl],λj hj=>?_,λj B hj=>?_,λp q B hp hq hpq=>?_⟩
 ·rw[hg,hG j hj];by_cases e:i=j
  ·rw[if_pos e,if_pos e.symm,<-e];exact hrow
  ·rw[if_neg e,if_neg (λh=>e h.symm)]
   exact(h.row j hj).same λB hB'=>by
    have:=h.bnd j B hj hB';exact hs B this.1 this.2.1 this.2.2 λh'=>h.apart i j B hin hj e h' hB'
 ·rw[hg];by_cases e:i=j
  ·rw[if_pos e];intro hB';rcases hB B hB' with h'|h'
   ·have:=h.bnd _ B hin h';exact⟨this.1,by omega,this.2.2⟩
   ·exact⟨by omega,h'.2⟩
  ·rw[if_neg e];intro hB';have:=h.bnd j B hj hB';exact⟨this.1,by omega,this.2.2⟩
 ·rw[hg,hg];by_cases e1:i=p
  ·rw[if_pos e1,if_neg (by omega)];intro h1 h2;rcases hB B h1 with h'|h'
   ·exact h.apart i q B hin hq (by omega) h' h2
   ·have:=h.bnd q B hq h2;omega
  ·rw[if_neg e1];by_cases e2:i=q
   ·rw[if_pos e2];intro h1 h2;rcases hB B h2 with h'|h'
    ·exact h.apart p i B hp hin (by omega) h1 h'
    ·have:=h.bnd p B hp h1;omega
   ·rw[if_neg e2];exact h.apart p q B hp hq hpq
theorem MatOk.snap{H:Hp}{b lo hi n:Nat}{F:Nat->List Nat}{vs:List AV}(h:MatOk H b lo hi n F vs):Snap H (.msl b n 1 0 n) (bK ((List.range n).map λi=>bu (F i))):=by
 refine lg (l:=((List.range n).map λi=>bu (F i)).map aH) h.box h.len (by omega) (by simp) (λy hy=>?_) (λi a c ha hc=>?_)
 ·obtain⟨z,_,rfl⟩:=bz.1 hy;rfl
 ·have hin:i<n:=by
    have:=(b6.1 hc).1;simpa using this
  have hr:=h.row i hin;rw[bP] at ha;have e1:vs.getD i .undef=a:=by rw[Lf,ha];rfl
  rw[e1] at hr
  have e2:c=aH (bu (F i)):=by
   rw[mM,mM,List.getElem?_range hin] at hc;simpa using hc.symm
  rw[e2];exact GF hr
theorem MatOk.new{H:Hp}{b lo hi n:Nat}{F:Nat->List Nat}(hb:H b=some (List.replicate n .esl))(hF:∀j,j<n->F j=[]):MatOk H b lo hi n F (List.replicate n .esl):=by
 have hg:∀j,j<n->(List.replicate n AV.esl).getD j .undef=.esl:=λj hj=>by simp[List.getD,List.getElem?_replicate,hj]
 refine⟨hb,by simp,λj hj=>?_,λj B hj h=>?_,λi j B hi hj _ h=>?_⟩
 ·rw[hg j hj,hF j hj];exact Row.nil
 ·rw[hg j hj] at h;cases h
 ·rw[hg i hi] at h;cases h
theorem kB{H:Hp}{s:AV}{c:Int}{l:List (List Int)}{e f:Int}(h:Snap H s (bK l))(he:e=f):Snap H (.tup [.agg [.int .i64 c,s],.int .i64 e]) (.tup [ez c l,.int .i64 f]):=by
 subst he;exact bA (ah (vv (ah (.int _ _) (ah h ap))) (ah (.int _ _) ap))
theorem sW{c:List Spx}{k:Nat}{s:Spx}:s∈jb c k↔ ∃t∈c,s∈cV t k:=by
 unfold jb;rw[pY,pH]
theorem Gu{c:List Spx}{k:Nat}:bR bo (jb c k):=tC ie _
theorem pm{c:List Spx}{k:Nat}(h:c.length<=50)(h8:∀s∈c,s.length<=8):(jb c k).length<=3500:=fK Ag (fK (pr h8) (by omega))
theorem Co{x:Int}{l:List Int}:lF 1 (aH (x::l)) (some (.int .i64 1)) none none=some (aH l):=jo (l:=x::l) (k:=1) (by simp)
theorem JN{x:Int}{l:List Int}:eY 1 (aH (x::l)) (.int .i64 0)=some (.iptr [.int .i64 x] 0):=by
 rw[nH,if_pos ⟨Int.le_refl _,by simp only[br];omega⟩];rfl
theorem qN{P:Program}{T:Tm}{H:Hp}{nx:Nat}{dm:DM}{K:SP}{l:List Op2}{d:Option Nat}{bytes b N len n:Nat}{s x:Opd}{v:AV}{new C cs:List AV}(hd:dm2 dm T (.app 1 bytes s x)=true)(hs:ov T s=.msl b N 1 0 len)(hb:H b=some C)(hN:C.length=N)(htk:C.take len=cs)(hcl:cs.length=len)(hx:ov T x=v)(hsrc:f8 1 H v=some (n,new))(ho:AV.ones new=true)(hnl:new.length=n)(hle:len+n<=N)(h1:N*bytes<=140737488355328)(h2:N<=9223372036854775807)
    (next:∀C':List AV,C'.length=N->C'.take (len+n)=cs++new->am P dm l (aW T d (.msl b N 1 0 (len+n))) (ar H b C') nx K):
    am P dm (⟨d,none,.app 1 bytes s x⟩::l) T H nx K:=by
 by_cases e:len=N
 ·obtain rfl:n=0:=by omega
  obtain rfl:new=[]:=List.eq_nil_of_length_eq_zero hnl;subst e;refine AZ hd hs hb hx hsrc ho hN (Nat.mul_one _).symm h1 (by omega) ?_;rw[pk,Nat.mul_one];exact next _ (by rw[fY];exact hN) (by rw[fY,fY,pk];exact htk)
 ·refine BU hd hs hb hx hsrc ho hN (λ_=>by omega) (by omega) (by omega) ?_;refine next _ ?_ ?_
  ·rw[iR (by rw[hnl,hN];omega)];exact hN
  ·simp only[bC,bP,Nat.mul_one];rw[htk,IW (by rw[cP,hcl,hnl];omega),ib (by rw[cP,hcl,hnl];omega)]
theorem wY{H:Hp}{b N len:Nat}{C:List AV}{R:List Int}(hb:H b=some C)(hN:C.length=N)(hle:len<=N)(hR:R.length=len)(h:C.take len=R.map (AV.int .i64)):Snap H (.msl b N 1 0 len) (aH R):=by
 refine lg (l:=R.map (AV.int .i64)) hb hN (by omega) (by simp[hR]) (λy hy=>?_) (λi a c ha hc=>?_)
 ·obtain⟨z,_,rfl⟩:=bz.1 hy;rfl
 ·have hin:i<len:=by have:=(b6.1 hc).1;rw[bm] at this;omega
  rw[<-h,jt,if_pos hin] at hc;rw[bP,hc] at ha;cases ha
  have hm:a∈R.map (AV.int .i64):=by
   rw[<-h];exact gZ (i:=i) (by rw[jt,if_pos hin];exact hc)
  obtain⟨z,_,rfl⟩:=bz.1 hm;exact .int _ _
def bV:List Int->List Int->List Int
 |[],b=>b
 |x::a,[]=>x::a
 |x::a,y::b=>if x<y then x::bV a (y::b) else if y<x then y::bV (x::a) b else bV a b
termination_by a b=>a.length+b.length
theorem kN{b:List Int}:bV [] b=b:=by rw[bV]
theorem gB{a:List Int}:bV a []=a:=by cases a<;>rw[bV]
theorem pi{x y:Int}{a b:List Int}:bV (x::a) (y::b)=if x<y then x::bV a (y::b) else if y<x then y::bV (x::a) b else bV a b:=by rw[bV]
theorem pE:∀(n:Nat)(a b:List Int),a.length+b.length<=n->(bV a b).length<=a.length+b.length
 |_,[],b,_=>by rw[kN];simp
 |_,x::a,[],_=>by rw[gB];simp
 |0,x::a,y::b,h=>by simp only[br] at h;omega
 |n+1,x::a,y::b,h=>by
  simp only[br] at h |-;rw[pi];have h1:=pE n a (y::b) (by simp only[br];omega);have h2:=pE n (x::a) b (by simp only[br];omega);have h3:=pE n a b (by omega);simp only[br] at h1 h2;split
  ·simp only[br];omega
  split
  ·simp only[br];omega
  ·omega
theorem KW{H:Hp}{s:AV}{l:List Spx}(h:Row H 1 s (l.map aF)):∃Hf H',Fz Hf H H'/\Snap Hf s (ao l)/\∀x,bX s≠some x->H' x=H x:=by
 generalize hcs:l.map aF=cs at h;cases h with
 |nil=>exact⟨cH,H,Fz.none,kf (by rw[hcs];exact Row.nil),λ_ _=>rfl⟩
 |box b len cs g1 g2=>exact⟨only b cs,dK H b,Fz.one g1,kf (by rw[hcs];exact Row.box b len cs ma g2),λx hx=>dr (λe=>hx (by rw[e];rfl))⟩
def bd(l:List Int):Prop:=l.Pairwise (· < ·)
theorem jT:∀(n:Nat)(a b:List Int),a.length+b.length<=n->bd a->bd b->bd (bV a b)/\∀z,z∈bV a b↔(z∈a/\z∉b)\/(z∈b/\z∉a)
 |_,[],b,_,_,hb=>by rw[kN];exact⟨hb,λz=>by simp⟩
 |_,x::a,[],_,ha,_=>by rw[gB];exact⟨ha,λz=>by simp⟩
 |0,x::a,y::b,h,_,_=>by simp only[br] at h;omega
 |n+1,x::a,y::b,h,ha,hb=>by
  simp only[br] at h;obtain⟨a1,a2⟩:=im.1 ha;obtain⟨b1,b2⟩:=im.1 hb;rw[pi];by_cases g1:x<y
  ·rw[if_pos g1];obtain⟨h1,h2⟩:=jT n a (y::b) (by simp only[br];omega) a2 hb
   have hxb:∀z∈y::b,x<z:=λz hz=>by
    rcases dg.1 hz with rfl|hz
    ·exact g1
    ·have:=b1 z hz;omega
   refine⟨im.2 ⟨λz hz=>?_,h1⟩,λz=>?_⟩
   ·rcases(h2 z).1 hz with⟨q,_⟩|⟨q,_⟩
    ·exact a1 z q
    ·exact hxb z q
   ·rw[dg,h2,dg (a:=z) (b:=x)];by_cases hz:z=x
    ·subst hz;have:z∉y::b:=λq=>by have:=hxb z q;omega
     simp[this]
    ·simp[hz]
  rw[if_neg g1];by_cases g2:y<x
  ·rw[if_pos g2];obtain⟨h1,h2⟩:=jT n (x::a) b (by simp only[br];omega) ha b2
   have hya:∀z∈x::a,y<z:=λz hz=>by
    rcases dg.1 hz with rfl|hz
    ·exact g2
    ·have:=a1 z hz;omega
   refine⟨im.2 ⟨λz hz=>?_,h1⟩,λz=>?_⟩
   ·rcases(h2 z).1 hz with⟨q,_⟩|⟨q,_⟩
    ·exact hya z q
    ·exact b1 z q
   ·rw[dg,h2,dg (a:=z) (b:=y)];by_cases hz:z=y
    ·subst hz;have:z∉x::a:=λq=>by have:=hya z q;omega
     simp[this]
    ·simp[hz]
  rw[if_neg g2];obtain rfl:x=y:=by omega
  obtain⟨h1,h2⟩:=jT n a b (by omega) a2 b2;refine⟨h1,λz=>?_⟩;rw[h2];by_cases hz:z=x
  ·subst hz;have q1:z∉a:=λq=>by have:=a1 z q;omega
   have q2:z∉b:=λq=>by have:=b1 z q;omega
   simp[q1,q2]
  ·simp[hz]
theorem DZ{a b:List Int}(ha:bd a)(hb:bd b)(h:∀x,x∈a↔x∈b):a=b:=by
 have na:a.Nodup:=vL (λ{x y}(h:x<y) e=>by omega) ha;have nb:b.Nodup:=vL (λ{x y}(h:x<y) e=>by omega) hb;exact List.Perm.eq_of_pairwise (λx y _ _ h1 h2=>by omega) ha hb ((List.perm_ext_iff_of_nodup na nb).2 h)
theorem vn{l:List Int}(h:bd l)(i:Nat)(hi:i+1<l.length):l.getD i default<l.getD (i+1) default:=by
 have:=(kE.1 h) i (i+1) (by omega) hi (by omega);simpa[List.getD,hi,show i<l.length by omega] using this
theorem mR:∀{a b:List Int},bd a->bd b->(∀z,z∈a↔z∈b)->a=b
 |[],[],_,_,_=>rfl
 |[],y::b,_,_,h=>absurd ((h y).2 (cz ..)) (by simp)
 |x::a,[],_,_,h=>absurd ((h x).1 (cz ..)) (by simp)
 |x::a,y::b,ha,hb,h=>by
  obtain⟨a1,a2⟩:=im.1 ha;obtain⟨b1,b2⟩:=im.1 hb
  have e:x=y:=by
   rcases dg.1 ((h x).1 (cz ..)) with e|e
   ·exact e
   ·rcases dg.1 ((h y).2 (cz ..)) with e2|e2
    ·exact e2.symm
    ·have:=b1 _ e;have:=a1 _ e2;omega
  subst e
  congr 1
  refine mR a2 b2 λz=>⟨λhz=>?_,λhz=>?_⟩
  ·rcases dg.1 ((h z).1 (dy _ hz)) with e|e
   ·have:=a1 z hz;omega
   ·exact e
  ·rcases dg.1 ((h z).2 (dy _ hz)) with e|e
   ·have:=b1 z hz;omega
   ·exact e
theorem en{a b:List Int}(ha:bd a)(hb:bd b):bd (bV a b):=(jT _ a b (aM _) ha hb).1
def bit(z:Int)(a:List Int):Nat:=if z∈a then 1 else 0
theorem fG{z:Int}:bit z []=0:=by simp[bit]
theorem gD{z:Int}{a:List Int}:bit z a<2:=by unfold bit;split<;>omega
theorem cI{z:Int}{a:List Int}:bit z a=1↔z∈a:=by unfold bit;split<;>simp[*]
theorem dP{a b:List Int}{z:Int}(ha:bd a)(hb:bd b):bit z (bV a b)=(bit z a+bit z b)%2:=by
 unfold bit;have h:=(jT _ a b (aM _) ha hb).2 z;by_cases h1:z∈a<;>by_cases h2:z∈b<;>simp[h,h1,h2]
theorem iL{a b:List Int}(ha:bd a)(hb:bd b)(h:∀z,bit z a=bit z b):a=b:=
 mR ha hb λz=>by rw[<-cI,<-cI,h z]
theorem nI{a:List Int}(h:∀z,bit z a=0):a=[]:=by
 cases a with
 |nil=>rfl
 |cons x l=>exact absurd (h x) (by rw[cI.2 (cz ..)];decide)
def ld(r:List Int):Int:=r.getD 0 0
theorem dl{v:List Int}(h:v≠[]):ld v∈v:=by
 cases v with
 |nil=>exact absurd rfl h
 |cons x l=>exact cz ..
theorem oI{v:List Int}(h:bd v){z:Int}(hz:z∈v):ld v<=z:=by
 cases v with
 |nil=>cases hz
 |cons x l=>
  rcases dg.1 hz with rfl|hz
  ·exact Int.le_refl _
  ·exact Int.le_of_lt ((im.1 h).1 z hz)
inductive Sp(R:List (List Int)):List Int->Prop
 |nil:Sp R []
 |add {v r:List Int}:Sp R v->r∈R->Sp R (bV v r)
theorem cR{R:List (List Int)}{r:List Int}(h:r∈R):Sp R r:=by
 have:=Sp.add (Sp.nil (R:=R)) h
 rwa [kN] at this
def kY(z:Int)(p:List Int->Bool):List (List Int)->Nat
 |[]=>0
 |r::E=>(if p r=true then bit z r else 0)+kY z p E
theorem oV{z:Int}{p q:List Int->Bool}:∀{E:List (List Int)},(∀r∈E,p r=q r)->kY z p E=kY z q E
 |[],_=>rfl
 |r::E,h=>by
  unfold kY;rw[h r (cz ..),oV λx hx=>h x (dy _ hx)]
theorem ua{z:Int}{p:List Int->Bool}:∀{E:List (List Int)},kY z p E≠0->∃q∈E,p q=true/\z∈q
 |[],h=>absurd rfl h
 |r::E,h=>by
  unfold kY at h;by_cases h1:p r=true/\z∈r
  ·exact⟨r,cz ..,h1⟩
  ·have:kY z p E≠0:=λe=>by
     rw[e] at h;by_cases h2:p r=true
     ·rw[if_pos h2] at h;have:bit z r=1:=by have:=gD (z:=z) (a:=r);omega
      exact h1 ⟨h2,cI.1 this⟩
     ·rw[if_neg h2] at h;exact h rfl
   obtain⟨q,q1,q2⟩:=ua this;exact⟨q,dy _ q1,q2⟩
theorem nY{z:Int}{p:List Int->Bool}{E:List (List Int)}(h:∀q∈E,p q=true->z∉q):kY z p E=0:=
 Decidable.byContradiction λe=>by
  obtain⟨q,q1,q2,q3⟩:=ua e;exact h q q1 q2 q3
theorem A7{z:Int}{p:List Int->Bool}{r:List Int}:∀{E:List (List Int)},E.Nodup->r∈E->kY z (λq=>(p q).xor (decide (q=r))) E%2=(kY z p E+bit z r)%2
 |[],_,h=>by cases h
 |q::E,hn,h=>by
  obtain⟨n1,n2⟩:=List.nodup_cons.1 hn;unfold kY;by_cases e:q=r
  ·subst e
   rw [oV (q:=p) (fun x hx=>by
    have:x≠q:=λe=>n1 (e▸hx);simp[this])]
   cases hp:p q<;>simp <;>have:=gD (z:=z) (a:=q)<;>omega
  ·have h2:r∈E:=(dg.1 h).resolve_left λx=>e x.symm;have:=A7 (z:=z) (p:=p) n2 h2;simp only[e,decide_false,Bool.xor_false];omega
theorem uh{z:Int}{p:List Int->Bool}{r:List Int}:∀{E:List (List Int)},E.Nodup->r∈E->z∈r->(∀q∈E,z∈q->q=r)->kY z p E=if p r=true then 1 else 0
 |[],_,h,_,_=>by cases h
 |q::E,hn,h,hz,ho=>by
  obtain⟨n1,n2⟩:=List.nodup_cons.1 hn;unfold kY;by_cases e:q=r
  ·subst e;rw[nY (λx hx _ hzx=>n1 (ho x (dy _ hx) hzx▸hx)),cI.2 hz,pk]
  ·have h2:r∈E:=(dg.1 h).resolve_left λx=>e x.symm;have hq:z∉q:=λx=>e (ho q (cz ..) x);rw[uh n2 h2 hz λx hx=>ho x (dy _ hx),show bit z q=0 by unfold bit;rw[if_neg hq]];simp
theorem x6{E:List (List Int)}{v:List Int}(hE:∀r∈E,bd r)(hn:E.Nodup)(h:Sp E v):bd v/\∃p,∀z,bit z v=kY z p E%2:=by
 induction h with
 |nil=>exact⟨pb,λ_=>false,λz=>by rw[fG,nY (p:=λ_=>false) λq _ h=>by cases h]⟩
 | @add w r h1 h2 ih=>
  obtain⟨ha,p,hp⟩:=ih;refine⟨en ha (hE _ h2),λq=>(p q).xor (decide (q=r)),λz=>?_⟩;rw[dP ha (hE _ h2),hp z,A7 hn h2];omega
theorem jR{R:List (List Int)}{v:List Int}(hR:∀r∈R,bd r)(h:Sp R v):bd v:=by
 induction h with
 |nil=>exact pb
 |add h1 h2 ih=>exact en ih (hR _ h2)
structure Red(E:List (List Int)):Prop where
 asc:∀r∈E,bd r
 ne:∀r∈E,r≠[]
 own:∀r∈E,∀q∈E,ld r∈q->q=r
 ord:E.Pairwise λr q=>ld r<ld q
theorem Red.nodup{E:List (List Int)}(h:Red E):E.Nodup:=vL (λ{x y}(q:ld x<ld y) e=>by rw[e] at q;omega) h.ord
theorem Red.cnt{E:List (List Int)}(h:Red E){p:List Int->Bool}{r:List Int}(hr:r∈E):kY (ld r) p E=if p r=true then 1 else 0:=
 uh h.nodup hr (dl (h.ne r hr)) λq hq hz=>h.own r hr q hq hz
theorem IG{E:List (List Int)}{v w:List Int}(hE:Red E)(hv:Sp E v)(hw:Sp E w)(h:∀r∈E,ld r∈v↔ld r∈w):v=w:=by
 obtain⟨av,p,hp⟩:=x6 hE.asc hE.nodup hv;obtain⟨aw,q,hq⟩:=x6 hE.asc hE.nodup hw;refine iL av aw λz=>?_;rw[hp z,hq z]
 congr 1
 refine oV λr hr=>?_;have h1:=h r hr;rw[<-cI,<-cI,hp,hq,hE.cnt hr,hE.cnt hr] at h1;cases h2:p r<;>cases h3:q r<;>simp[h2,h3] at h1<;>rfl
theorem zL{p:List Int->Bool}:∀{E:List (List Int)},E.Pairwise (λr q=>ld r<ld q)->(∃r∈E,p r=true)->∃r∈E,p r=true/\∀q∈E,p q=true->ld r<=ld q
 |[],_,h=>by obtain⟨_,h,_⟩:=h;cases h
 |x::E,ho,h=>by
  obtain⟨o1,o2⟩:=im.1 ho;by_cases hx:p x=true
  ·refine⟨x,cz ..,hx,λq hq _=>?_⟩;rcases dg.1 hq with rfl|hq
   ·exact Int.le_refl _
   ·exact Int.le_of_lt (o1 q hq)
  ·obtain⟨r,hr,hp⟩:=h;have hrE:r∈E:=(dg.1 hr).resolve_left λe=>hx (e▸hp);obtain⟨s,s1,s2,s3⟩:=zL o2 ⟨r,hrE,hp⟩;refine⟨s,dy _ s1,s2,λq hq hpq=>?_⟩;rcases dg.1 hq with rfl|hq
   ·exact absurd hpq hx
   ·exact s3 q hq hpq
theorem AX{E:List (List Int)}{v:List Int}(hE:Red E)(hv:Sp E v)(h0:v≠[]):∃r∈E,ld r=ld v:=by
 obtain⟨av,p,hp⟩:=x6 hE.asc hE.nodup hv
 have hex:∃ r ∈ E,p r=true:=Decidable.byContradiction fun hn=>h0 (nI fun z=>by
  rw[hp z,nY λq hq hpq=>absurd ⟨q,hq,hpq⟩ hn])
 obtain⟨r,r1,r2,r3⟩:=zL hE.ord hex;refine⟨r,r1,Int.le_antisymm ?_ ?_⟩
 ·have h1:bit (ld v) v=1:=cI.2 (dl h0);rw[hp] at h1;obtain⟨q,q1,q2,q3⟩:=ua (z:=ld v) (p:=p) (E:=E) (λe=>by rw[e] at h1;cases h1);exact Int.le_trans (r3 q q1 q2) (oI (hE.asc q q1) q3)
 ·refine oI av (cI.1 ?_);rw[hp,hE.cnt r1,if_pos r2]
theorem xm:∀{E F:List (List Int)},E.map ld=F.map ld->(∀r∈E,∀q∈F,ld r=ld q->r=q)->E=F
 |[],[],_,_=>rfl
 |[],_::_,h,_=>by cases h
 |_::_,[],h,_=>by cases h
 |x::E,y::F,h,hi=>by
  obtain⟨h1,h2⟩:=List.cons.inj h;rw[hi x (cz ..) y (cz ..) h1,xm h2 λr hr q hq=>hi r (dy _ hr) q (dy _ hq)]
theorem pI{E F:List (List Int)}(hE:Red E)(hF:Red F)(h:∀v,Sp E v↔Sp F v):E=F:=by
 have leads:E.map ld=F.map ld:=by
  refine mR (List.pairwise_map.2 hE.ord) (List.pairwise_map.2 hF.ord) λz=>?_;rw[bz,bz];constructor
  ·rintro⟨r,hr,rfl⟩;exact AX hF ((h r).1 (cR hr)) (hE.ne r hr)
  ·rintro⟨r,hr,rfl⟩;exact AX hE ((h r).2 (cR hr)) (hF.ne r hr)
 refine xm leads λr hr q hq e=>?_;refine IG hF ((h r).1 (cR hr)) (cR hq) λf hf=>⟨λhfr=>?_,λhfq=>?_⟩
 ·have hm:ld f∈E.map ld:=by rw[leads];exact bz.2 ⟨f,hf,rfl⟩
  obtain⟨g,hg,eg⟩:=bz.1 hm;rw[<-eg] at hfr;have h1:=hE.own g hg r hr hfr;rw[<-eg,<-h1,e];exact dl (hF.ne q hq)
 ·have h1:=hF.own f hf q hq hfq;rw[<-h1,<-e];exact dl (hE.ne r hr)
abbrev Ln:=List Int×List Int
def lM(f:Ln->List Int)(z:Int)(p:Ln->Bool):List Ln->Nat
 |[]=>0
 |r::E=>(if p r=true then bit z (f r) else 0)+lM f z p E
theorem iE{f:Ln->List Int}{z:Int}{p q:Ln->Bool}:∀{E:List Ln},(∀r∈E,p r=q r)->lM f z p E=lM f z q E
 |[],_=>rfl
 |r::E,h=>by
  unfold lM;rw[h r (cz ..),iE λx hx=>h x (dy _ hx)]
theorem oM{f:Ln->List Int}{z:Int}:∀{E:List Ln},lM f z (λ_=>false) E=0
 |[]=>rfl
 |r::E=>by unfold lM;rw[oM];rfl
theorem sP{f:Ln->List Int}{z:Int}{p:Ln->Bool}{r:Ln}:∀{E:List Ln},E.Nodup->r∈E->lM f z (λq=>(p q).xor (decide (q=r))) E%2=(lM f z p E+bit z (f r))%2
 |[],_,h=>by cases h
 |q::E,hn,h=>by
  obtain⟨n1,n2⟩:=List.nodup_cons.1 hn;unfold lM;by_cases e:q=r
  ·subst e
   rw [iE (q:=p) (fun x hx=>by
    have:x≠q:=λe=>n1 (e▸hx);simp[this])]
   cases hp:p q<;>simp <;>have:=gD (z:=z) (a:=f q)<;>omega
  ·have h2:r∈E:=(dg.1 h).resolve_left λx=>e x.symm;have:=sP (f:=f) (z:=z) (p:=p) n2 h2;simp only[e,decide_false,Bool.xor_false];omega
structure RedU(M:List Ln):Prop where
 asc:∀l∈M,bd l.1/\bd l.2
 ne:∀l∈M,l.1≠[]
 own:∀l∈M,∀m∈M,ld l.1∈m.1->m=l
 nodup:M.Nodup
def eD(x l:Ln):Ln:=(bV x.1 l.1,bV x.2 l.2)
def rdL(M:List Ln)(p:Ln->Bool)(x:Ln):Ln:=M.foldl (λa l=>if p l=true then eD a l else a) x
def cr(x:Ln):Prop:=bd x.1/\bd x.2
theorem fq{x l:Ln}(hx:cr x)(hl:cr l):cr (eD x l):=⟨en hx.1 hl.1,en hx.2 hl.2⟩
theorem iK{p:Ln->Bool}:∀{M:List Ln}{x:Ln},(∀l∈M,cr l)->cr x->cr (rdL M p x)
 |[],_,_,hx=>hx
 |l::M,x,hM,hx=>by
  unfold rdL;rw[List.foldl_cons];refine iK (M:=M) (λm hm=>hM m (dy _ hm)) ?_;split
  ·exact fq hx (hM l (cz ..))
  ·exact hx
theorem lr{p:Ln->Bool}{z:Int}:∀{M:List Ln}{x:Ln},(∀l∈M,cr l)->cr x->bit z (rdL M p x).1=(bit z x.1+lM Prod.fst z p M)%2
 |[],x,_,_=>by
  have:=gD (z:=z) (a:=x.1);show bit z x.1=(bit z x.1+0)%2;omega
 |l::M,x,hM,hx=>by
  have hl:=hM l (cz ..)
  have hx':cr (if p l=true then eD x l else x):=by
   split
   ·exact fq hx hl
   ·exact hx
  have ih:=lr (p:=p) (z:=z) (M:=M) (λm hm=>hM m (dy _ hm)) hx';show bit z (rdL M p (if p l=true then eD x l else x)).1=(bit z x.1+((if p l=true then bit z l.1 else 0)+lM Prod.fst z p M))%2;rw[ih];clear ih;by_cases h:p l=true
  ·rw[if_pos h,if_pos h];unfold eD;rw[dP hx.1 hl.1];omega
  ·rw[if_neg h,if_neg h];omega
theorem kX{p:Ln->Bool}{z:Int}:∀{M:List Ln}{x:Ln},(∀l∈M,cr l)->cr x->bit z (rdL M p x).2=(bit z x.2+lM Prod.snd z p M)%2
 |[],x,_,_=>by
  have:=gD (z:=z) (a:=x.2);show bit z x.2=(bit z x.2+0)%2;omega
 |l::M,x,hM,hx=>by
  have hl:=hM l (cz ..)
  have hx':cr (if p l=true then eD x l else x):=by
   split
   ·exact fq hx hl
   ·exact hx
  have ih:=kX (p:=p) (z:=z) (M:=M) (λm hm=>hM m (dy _ hm)) hx';show bit z (rdL M p (if p l=true then eD x l else x)).2=(bit z x.2+((if p l=true then bit z l.2 else 0)+lM Prod.snd z p M))%2;rw[ih];clear ih;by_cases h:p l=true
  ·rw[if_pos h,if_pos h];unfold eD;rw[dP hx.2 hl.2];omega
  ·rw[if_neg h,if_neg h];omega
def fx(x:Ln)(l:Ln):Bool:=decide (ld l.1∈x.1)
def eh(M:List Ln)(x:Ln):Ln:=rdL M (fx x) x
theorem G5{x y:Ln}(hx:cr x)(hy:cr y)(h1:∀z,bit z x.1=bit z y.1)(h2:∀z,bit z x.2=bit z y.2):x=y:=
 Prod.ext (iL hx.1 hy.1 h1) (iL hx.2 hy.2 h2)
theorem Em{M:List Ln}{x l:Ln}(hM:RedU M)(hx:cr x)(hl:l∈M):eh M (eD x l)=eh M x:=by
 have hla:cr l:=hM.asc l hl;have hxl:=fq hx hla
 have hp:∀m∈M,fx (eD x l) m=(fx x m).xor (decide (m=l)):=λm hm=>by
  unfold fx;have h1:ld m.1∈l.1↔m=l:=⟨λh=>(hM.own m hm l hl h).symm,λe=>e▸dl (hM.ne m hm)⟩
  have h2:=(jT _ x.1 l.1 (aM _) hx.1 hla.1).2 (ld m.1);show decide (ld m.1∈bV x.1 l.1)=_;by_cases b:m=l
  ·subst b;have h3:=dl (hM.ne m hm);by_cases a:ld m.1∈x.1<;>simp[h2,h3,a]
  ·have h3:ld m.1∉l.1:=λh=>b (h1.1 h);by_cases a:ld m.1∈x.1<;>simp[h2,h3,a,b]
 refine G5 (iK hM.asc hxl) (iK hM.asc hx) (λz=>?_) (λz=>?_)
 ·unfold eh;rw[lr hM.asc hxl,lr hM.asc hx,iE hp];have:=sP (f:=Prod.fst) (z:=z) (p:=fx x) hM.nodup hl;unfold eD;rw[dP hx.1 hla.1];omega
 ·unfold eh;rw[kX hM.asc hxl,kX hM.asc hx,iE hp];have:=sP (f:=Prod.snd) (z:=z) (p:=fx x) hM.nodup hl;unfold eD;rw[dP hx.2 hla.2];omega
theorem Ez{M:List Ln}{x:Ln}(hM:RedU M)(hx:cr x)(h:∀l∈M,ld l.1∉x.1):eh M x=x:=by
 have hp:∀m∈M,fx x m=false:=λm hm=>ba (h m hm);refine G5 (iK hM.asc hx) hx (λz=>?_) (λz=>?_)
 ·unfold eh;rw[lr hM.asc hx,iE hp,oM];have:=gD (z:=z) (a:=x.1);omega
 ·unfold eh;rw[kX hM.asc hx,iE hp,oM];have:=gD (z:=z) (a:=x.2);omega
theorem cW{a b:List Int}{z:Int}(ha:bd a)(hb:bd b):z∈bV a b↔(z∈a/\z∉b)\/(z∈b/\z∉a):=(jT _ a b (aM _) ha hb).2 z
theorem eM{a b c:List Int}(ha:bd a)(hb:bd b)(hc:bd c):bV a (bV b c)=bV (bV a b) c:=
 iL (en ha (en hb hc)) (en (en ha hb) hc) λz=>by
  rw[dP ha (en hb hc),dP hb hc,dP (en ha hb) hc,dP ha hb];omega
theorem fu{a:List Int}(ha:bd a):bV a a=[]:=
 nI λz=>by rw[dP ha ha];omega
theorem jP{S:List (List Int)}{v w:List Int}(hS:∀r∈S,bd r)(hv:Sp S v)(hw:Sp S w):Sp S (bV v w):=by
 induction hw with
 |nil=>rw[gB];exact hv
 | @add w r h1 h2 ih=>
  rw[eM (jR hS hv) (jR hS h1) (hS _ h2)];exact Sp.add ih h2
theorem jm{R S:List (List Int)}{v:List Int}(hS:∀r∈S,bd r)(h:∀r∈R,Sp S r)(hv:Sp R v):Sp S v:=by
 induction hv with
 |nil=>exact Sp.nil
 |add h1 h2 ih=>exact jP hS ih (h _ h2)
theorem iG{R S:List (List Int)}{v:List Int}(h:∀r∈R,r∈S)(hv:Sp R v):Sp S v:=by
 induction hv with
 |nil=>exact Sp.nil
 |add h1 h2 ih=>exact Sp.add ih (h _ h2)
theorem vj{p:Ln->Bool}{S:List (List Int)}(hS:∀r∈S,bd r):∀{M:List Ln}{x:Ln},(∀l∈M,cr l/\l.1∈S)->cr x->Sp S (bV x.1 (rdL M p x).1)
 |[],x,_,hx=>by
  show Sp S (bV x.1 x.1);rw[fu hx.1];exact Sp.nil
 |l::M,x,hM,hx=>by
  obtain⟨hl,hlS⟩:=hM l (cz ..);have hM':=λm hm=>hM m (dy _ hm)
  have hx':cr (if p l=true then eD x l else x):=by
   split
   ·exact fq hx hl
   ·exact hx
  have ih:=vj (p:=p) hS (M:=M) hM' hx';have hr:=iK (p:=p) (M:=M) (λm hm=>(hM' m hm).1) hx';show Sp S (bV x.1 (rdL M p (if p l=true then eD x l else x)).1);by_cases h:p l=true
  ·rw[if_pos h] at ih hr hx' |-
   have e:bV x.1 (rdL M p (eD x l)).1=bV (bV (eD x l).1 (rdL M p (eD x l)).1) l.1:=
    iL (en hx.1 hr.1) (en (en hx'.1 hr.1) hl.1) λz=>by
     rw[dP hx.1 hr.1,dP (en hx'.1 hr.1) hl.1,dP hx'.1 hr.1];show _=((bit z (bV x.1 l.1)+_)%2+_)%2;rw[dP hx.1 hl.1];omega
   rw[e];exact Sp.add ih hlS
  ·rw[if_neg h] at ih |-;exact ih
theorem k9{M:List Ln}{x:Ln}(hM:RedU M)(hx:cr x){l:Ln}(hl:l∈M):ld l.1∉(eh M x).1:=by
 rw[<-cI];unfold eh;rw[lr hM.asc hx]
 have hc:∀{E:List Ln},E.Nodup->(∀m∈E,ld l.1∈m.1->m=l)->lM Prod.fst (ld l.1) (fx x) E=if l∈E/\fx x l=true then 1 else 0:=by
  intro E
  induction E with
  |nil=>intro _ _;simp[lM]
  |cons m E ih=>
   intro hn ho;obtain⟨n1,n2⟩:=List.nodup_cons.1 hn;have ih:=ih n2 λm hm=>ho m (dy _ hm);show(if fx x m=true then bit (ld l.1) m.1 else 0)+lM Prod.fst (ld l.1) (fx x) E=_;rw[ih];by_cases e:m=l
   ·subst e;have hb:bit (ld m.1) m.1=1:=cI.2 (dl (hM.ne m hl));simp[n1,hb]
   ·have hb:bit (ld l.1) m.1=0:=by
      unfold bit;rw[if_neg λh=>e (ho m (cz ..) h)]
    have e2:l≠m:=λh=>e h.symm;simp[hb,e2]
 rw[hc hM.nodup λm hm h=>hM.own l hl m hm h];unfold fx bit;by_cases h:ld l.1∈x.1<;>simp[h,hl]
def jW(y l:Ln):Ln:=if ld y.1∈l.1 then eD l y else l
def kA(M:List Ln)(y:Ln):List Ln:=M.map (jW y)++[y]
theorem uZ{M:List Ln}{y l:Ln}(hM:RedU M)(hy:cr y)(h0:y.1≠[])(hn:∀l∈M,ld l.1∉y.1)(hl:l∈M):
    cr (jW y l)/\(∀m∈M,ld m.1∈(jW y l).1↔l=m)/\ld y.1∉(jW y l).1/\ld (jW y l).1=ld l.1:=by
 have hla:=hM.asc l hl;have how:∀m∈M,ld m.1∈l.1↔l=m:=λm hm=>⟨λh=>hM.own m hm l hl h,λe=>e▸dl (hM.ne l hl)⟩
 unfold jW;by_cases h:ld y.1∈l.1
 ·rw[if_pos h];have hs:=λz=>cW (z:=z) hla.1 hy.1
  have ho:∀m∈M,ld m.1∈(eD l y).1↔l=m:=λm hm=>by
   show ld m.1∈bV l.1 y.1↔_;rw[hs];have:=hn m hm;rw[<-how m hm];simp[this]
  refine⟨fq hla hy,ho,?_,?_⟩
  ·show ld y.1∉bV l.1 y.1;rw[hs];have:=dl h0;simp[this,h]
  ·have hm:=(ho l hl).2 rfl;refine Int.le_antisymm (oI (fq hla hy).1 hm) ?_;have hne:(eD l y).1≠[]:=λe=>by rw[e] at hm;cases hm
   have hq:=dl hne;rcases(hs _).1 hq with q|q
   ·exact oI hla.1 q.1
   ·exact Int.le_trans (oI hla.1 h) (oI hy.1 q.1)
 ·rw[if_neg h];exact⟨hla,how,h,rfl⟩
theorem Ej{M:List Ln}{y:Ln}(hM:RedU M)(hy:cr y)(h0:y.1≠[])(hn:∀l∈M,ld l.1∉y.1):RedU (kA M y):=by
 have hf:=λl(hl:l∈M)=>uZ hM hy h0 hn hl
 have hmem:∀{m},m∈kA M y->(∃l∈M,jW y l=m)\/m=y:=λ{m} h=>by
  rcases eJ.1 h with h|h
  ·exact .inl (bz.1 h)
  ·exact .inr (cC.1 h)
 constructor
 ·intro m hm;rcases hmem hm with⟨l,hl,rfl⟩|rfl
  ·exact(hf l hl).1
  ·exact hy
 ·intro m hm;rcases hmem hm with⟨l,hl,rfl⟩|rfl
  ·intro e;have:=((hf l hl).2.1 l hl).2 rfl;rw[e] at this;cases this
  ·exact h0
 ·intro m hm k hk h;rcases hmem hm with⟨l,hl,rfl⟩|rfl
  ·rw[(hf l hl).2.2.2] at h;rcases hmem hk with⟨q,hq,rfl⟩|rfl
   ·rw[((hf q hq).2.1 l hl).1 h]
   ·exact absurd h (hn l hl)
  ·rcases hmem hk with⟨q,hq,rfl⟩|rfl
   ·exact absurd h (hf q hq).2.2.1
   ·rfl
 ·refine zA.2 ⟨?_,by simp,λa ha b hb e=>?_⟩
  ·refine List.pairwise_map.2 (List.Pairwise.imp_of_mem (λ{a b} ha hb hab e=>hab ?_) hM.nodup);have h1:=(hf a ha).2.2.2;rw[e,(hf b hb).2.2.2] at h1;refine(hM.own b hb a ha ?_);rw[h1];exact dl (hM.ne a ha)
  ·obtain⟨l,hl,rfl⟩:=bz.1 ha;rw[cC] at hb;subst hb;have:=(hf l hl).2.2.1;rw[e] at this;exact this (dl h0)
def bJ(g:Int->Nat):List Int->Nat
 |[]=>0
 |x::l=>g x+bJ g l
theorem gd{g:Int->Nat}:∀(n:Nat)(a b:List Int),a.length+b.length<=n->bJ g (bV a b)%2=(bJ g a+bJ g b)%2
 |_,[],b,_=>by rw[kN];show _=(0+bJ g b)%2;rw[bP]
 |_,x::a,[],_=>by rw[gB];show _=(bJ g (x::a)+0)%2;rw[pk]
 |0,x::a,y::b,h=>by simp only[br] at h;omega
 |n+1,x::a,y::b,h=>by
  simp only[br] at h;rw[pi];by_cases g1:x<y
  ·rw[if_pos g1];have ih:=gd (g:=g) n a (y::b) (by simp only[br];omega);show(g x+bJ g (bV a (y::b)))%2=(g x+bJ g a+bJ g (y::b))%2;omega
  rw[if_neg g1];by_cases g2:y<x
  ·rw[if_pos g2];have ih:=gd (g:=g) n (x::a) b (by simp only[br];omega);show(g y+bJ g (bV (x::a) b))%2=(bJ g (x::a)+(g y+bJ g b))%2;omega
  rw[if_neg g2];obtain rfl:x=y:=by omega
  have ih:=gd (g:=g) n a b (by omega);show bJ g (bV a b)%2=(g x+bJ g a+(g x+bJ g b))%2;omega
def mB(R:List (List Int))(n:Nat)(l:Ln):Prop:=(∀z,bit z l.1=bJ (λj=>bit z (R.getD j.toNat default)) l.2%2)/\∀j∈l.2,0<=j/\j<(n:Int)
theorem ze{R:List (List Int)}{n:Nat}{x l:Ln}(hx:cr x)(hl:cr l)(h1:mB R n x)(h2:mB R n l):mB R n (eD x l):=by
 refine⟨λz=>?_,λj hj=>?_⟩
 ·show bit z (bV x.1 l.1)=bJ _ (bV x.2 l.2)%2;rw[dP hx.1 hl.1,gd _ _ _ (aM _),h1.1,h2.1];omega
 ·rcases(cW hx.2 hl.2).1 hj with h|h
  ·exact h1.2 j h.1
  ·exact h2.2 j h.1
theorem sQ{R:List (List Int)}{n:Nat}{p:Ln->Bool}:∀{M:List Ln}{x:Ln},(∀l∈M,cr l/\mB R n l)->cr x->mB R n x->mB R n (rdL M p x)
 |[],_,_,_,h=>h
 |l::M,x,hM,hx,h=>by
  obtain⟨hl,hlo⟩:=hM l (cz ..);have hM':=λm hm=>hM m (dy _ hm);show mB R n (rdL M p (if p l=true then eD x l else x));by_cases hp:p l=true
  ·rw[if_pos hp];exact sQ hM' (fq hx hl) (ze hx hl h hlo)
  ·rw[if_neg hp];exact sQ hM' hx h
theorem mB.mono{R:List (List Int)}{n m:Nat}{l:Ln}(h:mB R n l)(hn:n<=m):mB R m l:=⟨h.1,λj hj=>by have:=h.2 j hj;omega⟩
def stE(R:List (List Int)):Nat->List Ln×List (List Int)
 |0=>([],[])
 |i+1=>if (eh (stE R i).1 (R.getD i default,[(i:Int)])).1=[] then((stE R i).1,(stE R i).2++[(eh (stE R i).1 (R.getD i default,[(i:Int)])).2]) else(kA (stE R i).1 (eh (stE R i).1 (R.getD i default,[(i:Int)])),(stE R i).2)
structure StOk(R:List (List Int))(i:Nat)(M:List Ln)(D:List (List Int)):Prop where
 red:RedU M
 ok:∀l∈M,mB R i l
 dep:∀y∈D,cr ([],y)/\mB R i ([],y)
 len:M.length+D.length=i
 inS:∀l∈M,Sp (R.take i) l.1
 all:∀r∈R.take i,Sp (M.map Prod.fst) r
theorem fc{M:List Ln}(h:RedU M):∀r∈M.map Prod.fst,bd r:=λr hr=>by
 obtain⟨l,hl,rfl⟩:=bz.1 hr;exact(h.asc l hl).1
theorem eI{R:List (List Int)}(hR:∀r∈R,bd r):∀{i:Nat},i<=R.length->StOk R i (stE R i).1 (stE R i).2
 |0,_=>⟨⟨λ_ h=>(by cases h),λ_ h=>(by cases h),λ_ h=>(by cases h),List.nodup_nil⟩,λ_ h=>(by cases h),λ_ h=>(by cases h),rfl,λ_ h=>(by cases h),λ_ h=>(by cases h)⟩
 |i+1,hi=>by
  have ih:=eI hR (i:=i) (by omega);have hx:cr (R.getD i default,[(i:Int)]):=⟨hR _ (aA (by omega)),List.pairwise_singleton ..⟩
  have hxo:mB R (i + 1) (R.getD i default,[(i:Int)]):=⟨fun z=>by
   have:=gD (z:=z) (a:=R.getD i default);show bit z (R.getD i default)=(bit z (R.getD ((i:Nat):Int).toNat default)+0)%2;rw[bN];omega,λj hj=>by rw[cC.1 hj];omega⟩
  have hMo:∀l∈(stE R i).1,cr l/\mB R (i+1) l:=λl hl=>⟨ih.red.asc l hl,(ih.ok l hl).mono (by omega)⟩
  have hya:cr (eh (stE R i).1 (R.getD i default,[(i:Int)])):=iK ih.red.asc hx;have hyo:mB R (i+1) (eh (stE R i).1 (R.getD i default,[(i:Int)])):=sQ hMo hx hxo;have hyn:=λl hl=>k9 ih.red hx (l:=l) hl;have hysp:Sp ((stE R i).1.map Prod.fst) (bV (R.getD i default) (eh (stE R i).1 (R.getD i default,[(i:Int)])).1):=vj (fc ih.red) (λl hl=>⟨ih.red.asc l hl,bz.2 ⟨l,hl,rfl⟩⟩) hx;have htk:R.take (i+1)=R.take i++[R.getD i default]:=ci (by omega);have hTa:∀r∈R.take (i+1),bd r:=λr hr=>hR r (lm hr);unfold stE;generalize eh (stE R i).1 (R.getD i default,[(i:Int)])=y at *;generalize (stE R i).1=M at *;generalize (stE R i).2=D at *;have hup:∀l∈M,Sp (R.take (i+1)) l.1:=λl hl=>iG (λr hr=>by rw[htk];exact l6 _ hr) (ih.inS l hl)
  have hMsp:∀ {v},Sp (M.map Prod.fst) v→Sp (R.take (i + 1)) v:=fun hv=>jm hTa (fun r hr=>by
   obtain⟨l,hl,rfl⟩:=bz.1 hr;exact hup l hl) hv
  by_cases h0:y.1=[]
  ·rw[if_pos h0];rw[h0,gB] at hysp;refine⟨ih.red,λl hl=>(hMo l hl).2,λz hz=>?_,?_,hup,λr hr=>?_⟩
   ·rcases eJ.1 hz with h|h
    ·exact⟨(ih.dep z h).1,(ih.dep z h).2.mono (by omega)⟩
    ·rw[cC.1 h];have e:(([],y.2):Ln)=y:=by rw[<-h0]
     rw[e];exact⟨hya,hyo⟩
   ·show M.length+(D++[y.2]).length=i+1;rw[cP,List.length_singleton];have:=ih.len;omega
   ·rw[htk] at hr;rcases eJ.1 hr with h|h
    ·exact ih.all r h
    ·rw[cC.1 h];exact hysp
  ·rw[if_neg h0];have hi2:=Ej ih.red hya h0 hyn
   have hyS:Sp (R.take (i+1)) y.1:=by
    have h1:=hMsp hysp;have h2:Sp (R.take (i+1)) (R.getD i default):=cR (by rw[htk];exact lJ _ (cC.2 rfl));have h3:=jP hTa h2 h1
    rwa [eM hx.1 hx.1 hya.1,fu hx.1,kN] at h3
   have hyI:y∈kA M y:=lJ _ (cC.2 rfl)
   have hcl:∀l∈M,Sp ((kA M y).map Prod.fst) l.1:=λl hl=>by
    have hm:jW y l∈kA M y:=l6 _ (bz.2 ⟨l,hl,rfl⟩);have h1:=cR (bz.2 ⟨_,hm,rfl⟩:(jW y l).1∈(kA M y).map Prod.fst);unfold jW at h1;by_cases h:ld y.1∈l.1
    ·rw[if_pos h] at h1;have h2:=jP (fc hi2) h1 (cR (bz.2 ⟨_,hyI,rfl⟩));have hla:=(ih.red.asc l hl).1
     rwa [show(eD l y).1=bV l.1 y.1 from rfl,<-eM hla hya.1 hya.1,fu hya.1,gB] at h2
    ·rwa [if_neg h] at h1
   refine⟨hi2,λm hm=>?_,λz hz=>⟨(ih.dep z hz).1,(ih.dep z hz).2.mono (by omega)⟩,?_,λm hm=>?_,λr hr=>?_⟩
   ·rcases eJ.1 hm with h|h
    ·obtain⟨l,hl,rfl⟩:=bz.1 h;unfold jW;split
     ·exact ze (hMo l hl).1 hya (hMo l hl).2 hyo
     ·exact(hMo l hl).2
    ·rw[cC.1 h];exact hyo
   ·show(kA M y).length+D.length=i+1;unfold kA;rw[cP,bm,List.length_singleton];have:=ih.len;omega
   ·rcases eJ.1 hm with h|h
    ·obtain⟨l,hl,rfl⟩:=bz.1 h;unfold jW;split
     ·exact jP hTa (hup l hl) hyS
     ·exact hup l hl
    ·rw[cC.1 h];exact hyS
   ·have hMI:∀ {v},Sp (M.map Prod.fst) v→Sp ((kA M y).map Prod.fst) v:=fun hv=>jm (fc hi2) (fun r hr=>by
      obtain⟨l,hl,rfl⟩:=bz.1 hr;exact hcl l hl) hv
    rw[htk] at hr;rcases eJ.1 hr with h|h
    ·exact hMI (ih.all r h)
    ·rw[cC.1 h];have h2:=jP (fc hi2) (hMI hysp) (cR (bz.2 ⟨_,hyI,rfl⟩))
     rwa [<-eM hx.1 hya.1 hya.1,fu hya.1,gB] at h2
def mC(M:List Ln)(c:Nat):List Ln:=(List.range c).filterMap λ(k:Nat)=>M.find? λl=>decide (ld l.1=(k:Int))
theorem qR{M:List Ln}{c:Nat}:mC M (c+1)=mC M c++(M.find? λl=>decide (ld l.1=(c:Int))).toList:=by
 unfold mC;rw[List.range_succ,List.filterMap_append]
 congr 1
theorem qq{M:List Ln}{c:Nat}{l:Ln}(hM:RedU M):l∈mC M c↔l∈M/\0<=ld l.1/\ld l.1<c:=by
 unfold mC;rw[List.mem_filterMap];constructor
 ·rintro⟨k,hk,h⟩;have h1:=List.mem_of_find?_eq_some h;have h2:ld l.1=(k:Int):=by simpa using List.find?_some h
  have:=dE.1 hk;exact⟨h1,by omega,by omega⟩
 ·rintro⟨h1,h2,h3⟩;refine⟨(ld l.1).toNat,dE.2 (by omega),?_⟩;cases h:M.find? λm=>decide (ld m.1=((ld l.1).toNat:Int)) with
  |none=>
   have:=List.find?_eq_none.1 h l h1;rw[iB] at this;omega
  |some m=>
   have e:ld m.1=((ld l.1).toNat:Int):=by simpa using List.find?_some h
   have hm:=List.mem_of_find?_eq_some h
   congr 1
   refine hM.own l h1 m hm ?_;rw[show ld l.1=ld m.1 by omega];exact dl (hM.ne m hm)
theorem mL{M:List Ln}(hM:RedU M):∀{c:Nat},(mC M c).Pairwise λa b=>ld a.1<ld b.1
 |0=>pb
 |c+1=>by
  rw[qR];refine List.pairwise_append.2 ⟨mL hM,?_,λa ha b hb=>?_⟩
  ·cases M.find? λl=>decide (ld l.1=(c:Int))
   ·exact pb
   ·exact List.pairwise_singleton ..
  ·have h1:=((qq hM).1 ha).2.2;have h2:ld b.1=(c:Int):=by simpa using List.find?_some (Option.mem_toList.1 hb)
   omega
theorem FS{M:List Ln}{c:Nat}(hM:RedU M):Red ((mC M c).map Prod.fst):=by
 have hm:∀r∈(mC M c).map Prod.fst,∃l∈M,l.1=r:=λr hr=>by
  obtain⟨l,hl,rfl⟩:=bz.1 hr;exact⟨l,((qq hM).1 hl).1,rfl⟩
 refine⟨λr hr=>?_,λr hr=>?_,λr hr q hq h=>?_,List.pairwise_map.2 (mL hM)⟩
 ·obtain⟨l,hl,rfl⟩:=hm r hr;exact(hM.asc l hl).1
 ·obtain⟨l,hl,rfl⟩:=hm r hr;exact hM.ne l hl
 ·obtain⟨l,hl,rfl⟩:=hm r hr;obtain⟨k,hk,rfl⟩:=hm q hq;rw[hM.own l hl k hk h]
def ka(R:List (List Int))(c:Nat):List Ln:=mC (stE R R.length).1 c
def de(R:List (List Int))(c:Nat):List (List Int):=(ka R c).map Prod.fst
theorem fE{S:List (List Int)}{v:List Int}{P:Int->Prop}(hS:∀r∈S,bd r)(hP:∀r∈S,∀z∈r,P z)(h:Sp S v):∀z∈v,P z:=by
 induction h with
 |nil=>exact λz hz=>by cases hz
 | @add w r h1 h2 ih=>
  intro z hz;rcases(cW (jR hS h1) (hS r h2)).1 hz with q|q
  ·exact ih z q.1
  ·exact hP r h2 z q.1
theorem fR{R:List (List Int)}{c:Nat}(hR:∀r∈R,bd r)(hv:∀r∈R,∀z∈r,0<=z/\z<(c:Int)):Red (de R c)/\(∀v,Sp (de R c) v↔Sp R v)/\∀l,l∈ka R c↔l∈(stE R R.length).1:=by
 have hs:=eI hR (aM R.length);have hin:=hs.inS;have hall:=hs.all;rw[show R.take R.length=R from List.take_length] at hin hall
 have hmem:∀l,l∈ka R c↔l∈(stE R R.length).1:=λl=>by
  unfold ka;rw[qq hs.red];refine⟨λh=>h.1,λh=>?_⟩;have:=fE hR hv (hin l h) _ (dl (hs.red.ne l h));exact⟨h,this.1,this.2⟩
 have hred:Red (de R c):=FS hs.red;refine⟨hred,λv=>⟨λh=>jm hR (λr hr=>?_) h,λh=>jm hred.asc (λr hr=>?_) h⟩,hmem⟩
 ·obtain⟨l,hl,rfl⟩:=bz.1 hr;exact hin l ((hmem l).1 hl)
 ·refine jm hred.asc (λq hq=>?_) (hall r hr);obtain⟨l,hl,rfl⟩:=bz.1 hq;exact cR (bz.2 ⟨l,(hmem l).2 hl,rfl⟩)
section
attribute [local irreducible] aO am bf aZ aR aS aE aU a5 bk Go.Abs.Fn aY Go.Abs.Pure au aN Yl
theorem jS(c:List Spx)(hc:Shn c)(hs:∀s∈c,Shn s):pU 78 [cl c] (.int .i64 (aB c)):=by
 refine pO PJ ?_;simp only[b78,aL];have hc':c.length<=17592186044416:=hc;by_cases h0:4096<c.length
 ·rw[show aB c=5 by unfold aB;rw[if_pos h0]];refine wnZ (zI3 @ai @ak @ag) ?_
  all_goals exact eW rfl
 rw[show aB c=if dC (qL c) c.length≠0 then dC (qL c) c.length else if c.any (dT c)=true then 7 else 0 by unfold aB;rw[if_neg h0]];refine dJ ?_;have zz:=aI @ai (aI @ak @ag);repeat' (first|apply a_n|refine zO ?_|refine vZ ?_|refine bxZ ?_|fail)
 refine dJ (dJ ?_);clear zz;have zz:=aI @ai (aI @ak @ag);repeat' (first|apply a_n|refine zO ?_|refine vZ ?_|(refine zGZ ?_ ?_<;>(intro _hg;try (exfalso;omega)))|fail)
 by_cases hz:dC (qL c) c.length≠0
 ·rw[if_pos hz];refine wnZ (zI3 @ai @ak @ag) ?_;refine lpI (X:=Nat) (λk=>[(1,.ptr 0 1 0),(14,ao c),(15,.int .i64 c.length),(16,.int .i64 k)]) (λk H nx=>k<=c.length/\H 0=some [ao c]/\∀i,i<k->qL c i=0) (λk=>c.length-k) 0 ⟨bQ _,rfl,λi h=>absurd h (by omega)⟩ ?_;rintro k H nx ⟨h1,g0,h2⟩;by_cases hk:k<c.length
  rotate_left
  ·exact absurd (c9 λi hi=>h2 i (by omega)) hz
  have ix:=fQ hk;have hs1:=hs _ (aA hk);have hp:=qn (c.getD k default) hs1;have hsp:=u0 (c:=c) (k:=k);by_cases he:bT (c.getD k default)≠0
  ·rw[if_pos he] at hsp;rw[di hk h2 (by rw[hsp];exact he),hsp];have z:decide (bT (c.getD k default)≠0)=true:=a6 he;refine wnY (zI3 @ai @ix @z) ?_;exact .int _ _
  rw[if_neg he] at hsp;have he:=ub he;rw[he] at hp;have z:decide ((0:Int)≠0)=false:=rfl;by_cases hk0:0<k
  rotate_left
  ·rw[if_neg (λh=>hk0 h.1)] at hsp;have zk:decide (0<(k:Int))=false:=ba (by omega);refine wnY (zI4 @ai @ix @z @zk) ?_
   exact ⟨k + 1,by omega,⟨by omega,g0,fun i hi=>by
    rcases jX.1 hi with h'|rfl
    ·exact h2 i h'
    ·exact hsp⟩,ag0⟩
  have zk:decide (0<(k:Int))=true:=a6 (by omega)
  have iy:eY 1 (ao c) (.int .i64 ((k:Int)-1))=some (.iptr [aF (c.getD (k-1) default)] 0):=by
   have:=fQ (l:=c) (k:=k-1) (by omega)
   rwa [show((k-1:Nat):Int)=(k:Int)-1 by omega] at this
  have hcm:=gL (c.getD (k-1) default) (c.getD k default) (hs _ (aA (by omega))) hs1;by_cases hv:0<=bo (c.getD (k-1) default) (c.getD k default)
  ·have z2:decide (0<=bo (c.getD (k-1) default) (c.getD k default))=true:=a6 hv;rw[if_pos ⟨hk0,hv⟩] at hsp;rw[di hk h2 (by rw[hsp];decide),hsp];refine wnY (zI7 @ai @ix @iy @z @zk @z2 @g0) ?_;exact .int _ _
  ·have z2:decide (0<=bo (c.getD (k-1) default) (c.getD k default))=false:=ba hv;rw[if_neg (λh=>hv h.2)] at hsp;refine wnY (zI7 @ai @ix @iy @z @zk @z2 @g0) ?_
   exact ⟨k + 1,by omega,⟨by omega,g0,fun i hi=>by
    rcases jX.1 hi with h'|rfl
    ·exact h2 i h'
    ·exact hsp⟩,ag0⟩
 have hz:=ub hz;rw[if_neg (λh=>h hz)];obtain⟨a1,a2⟩:=Cb hz;have hall:=gz hz;have hok:=G0 (by omega) a1;refine bn (λT H nx=>T 1=.ptr 0 1 0/\H 0=some [ao c]/\1<=nx) ?_ ?_
 ·refine wnZ (zI3 @ai @ak @ag) ?_;refine lpI (X:=Nat) (λk=>[(1,.ptr 0 1 0),(14,ao c),(15,.int .i64 c.length),(16,.int .i64 k)]) (λk H nx=>k<=c.length/\H 0=some [ao c]/\1<=nx) (λk=>c.length-k) 0 ⟨bQ _,rfl,by omega⟩ ?_;rintro k H nx ⟨h1,g0,hnx⟩;by_cases hk:k<c.length
  rotate_left
  ·refine wnY and_self ?_;exact⟨rfl,g0,hnx⟩
  have ix:=fQ hk;have hs1:=hs _ (aA hk);have hp:=qn (c.getD k default) hs1;rw[a1 _ (aA hk)] at hp;have z:decide ((0:Int)≠0)=false:=rfl;by_cases hk0:0<k
  rotate_left
  ·have zk:decide (0<(k:Int))=false:=ba (by omega);refine wnY (zI4 @ai @ix @z @zk) ?_;exact⟨k+1,by omega,⟨by omega,g0,hnx⟩,ag0⟩
  have zk:decide (0<(k:Int))=true:=a6 (by omega)
  have iy:eY 1 (ao c) (.int .i64 ((k:Int)-1))=some (.iptr [aF (c.getD (k-1) default)] 0):=by
   have:=fQ (l:=c) (k:=k-1) (by omega)
   rwa [show((k-1:Nat):Int)=(k:Int)-1 by omega] at this
  have hcm:=gL (c.getD (k-1) default) (c.getD k default) (hs _ (aA (by omega))) hs1;have z2:decide (0<=bo (c.getD (k-1) default) (c.getD k default))=false:=ba (by have:=ec a2 (i:=k-1) (j:=k) (by omega) hk;omega);refine wnY (zI7 @ai @ix @iy @z @zk @z2 @g0) ?_;exact⟨k+1,by omega,⟨by omega,g0,hnx⟩,ag0⟩
 rintro T H nx ⟨t1,g0,hnx⟩;refine wnY (aI @t1 @g0) ?_;refine aQ ev0 (have zz:=@t1;evZ) (AS c hok.1 (λs hs=>⟨(hok.2 s hs).1,by have:=(hok.2 s hs).2;omega⟩) _ _) ?_;rintro _ H1 nx1 ⟨ks,vs,rfl,hinc,hsame,hlt⟩;have g0':H1 0=some [ao c]:=(hsame 0 (by omega)).trans g0;refine wnY (zI3 @t1 @g0' @ai) ?_;refine bF (X:=Nat) (λk=>[(1,.ptr 0 1 0),(6,.mp nx),(44,ao c),(45,.int .i64 c.length),(46,.int .i64 k)]) (λk H' nx'=>k<=c.length/\H'=H1/\nx'=nx1/\∀i,i<k->dT c (c.getD i default)=false) (λk=>c.length-k) 0 ⟨bQ _,rfl,rfl,λi h=>absurd h (by omega)⟩ (have zz:=@t1;agZ) ?_;rintro k H' nx' ⟨h1,rfl,rfl,h2⟩;by_cases hk:k<c.length
 rotate_left
 ·rw[ry λi hi=>h2 i (by omega),if_neg (by decide)];refine wnY and_self ?_;exact .int _ _
 have ix:=fQ hk;obtain⟨p1,p2,p3,p4⟩:=cE (a1 _ (aA hk));have hcv:=El c (c.getD k default) hok (hok.2 _ (aA hk)) (by omega);have iy:=ix2 (l:=c.getD k default) (k:=0) (by omega);rw[show((0:Nat):Int)=0 from rfl] at iy
 have hks:(c.getD k default).getD 0 default∈ks:=(hinc.dom _).2 λe=>by
  have:k∈n8 c c.length ((c.getD k default).getD 0 default):=eG.2 ⟨dE.2 hk,a6 (aA (by omega))⟩;rw[e] at this;cases this
 have hmf:=Fl ((c.getD k default).getD 0 default) ks;rw[if_pos hks] at hmf;obtain⟨m1,m2⟩:=yz hks;have hr:=hinc.row _ m1;rw[m2] at hr;have hcb:dT c (c.getD k default)=true->c.any (dT c)=true:=λh=>rl.2 ⟨_,aA hk,h⟩;generalize hsk:c.getD k default=s at *;refine wnY @ix ?_;refine w_mix1 0 g0' λS hS0 hsub'=>?_;have hsub:=hsub' H' g0';refine wnY (aI @hS0 @iy) ?_;refine d8 ?_;refine jF ev0 hinc.box ev0 (F9 _) hmf ?_;refine jM ⟨hsub,?_⟩;rw[show mget .esl false (some (ks.idxOf (s.getD 0 default))) vs=vs.getD (ks.idxOf (s.getD 0 default)) .undef from rfl];refine kg ?_;cases hb:dT c s
 ·rw[hb] at hcv;refine dh ev0 ev0 hcv (aG (ah (bD _ _) (ah (GF hr) (ah (dN _ _) ap))) rfl) ?_;refine wnY and_self ?_
  exact ⟨k + 1,by omega,⟨by omega,rfl,rfl,fun i hi=>by
   rcases jX.1 hi with h'|rfl
   ·exact h2 i h'
   ·rw[hsk];exact hb⟩,ag0⟩
 ·rw[hb] at hcv;rw[hcb hb,if_pos rfl];refine dh ev0 ev0 hcv (aG (ah (bD _ _) (ah (GF hr) (ah (dN _ _) ap))) rfl) ?_;refine wnY and_self ?_;exact .int _ _
theorem Iy(c:List Spx)(hc:Shn c)(hs:∀s∈c,Shn s):pU 28 [cl c] (.int .i64 (aB c)):=by
 refine pO OV ?_;simp only[b28,aL];have hc':c.length<=17592186044416:=hc;by_cases h0:4096<c.length
 ·rw[show aB c=5 by unfold aB;rw[if_pos h0]];refine wnZ (zI3 @ai @ak @ag) ?_
  all_goals exact eW rfl
 rw[show aB c=if dC (qL c) c.length≠0 then dC (qL c) c.length else if c.any (dT c)=true then 7 else 0 by unfold aB;rw[if_neg h0]];refine dJ ?_;have zz:=aI @ai (aI @ak @ag);repeat' (first|apply a_n|refine zO ?_|refine vZ ?_|refine bxZ ?_|fail)
 refine dJ ?_;clear zz;have zz:=aI @ai (aI @ak @ag);repeat' (first|apply a_n|refine zO ?_|refine vZ ?_|fail)
 refine dJ (dJ ?_);clear zz;have zz:=aI @ai (aI @ak @ag);repeat' (first|apply a_n|refine zO ?_|refine vZ ?_|(refine zGZ ?_ ?_<;>(intro _hg;try (exfalso;omega)))|fail)
 by_cases hz:dC (qL c) c.length≠0
 ·rw[if_pos hz];refine wnZ (zI3 @ai @ak @ag) ?_;refine bF (X:=Nat) (λk=>[(3,ao c),(4,.int .i64 k)]) (λk H nx=>k<=c.length/\∀i,i<k->qL c i=0) (λk=>c.length-k) 0 ⟨bQ _,λi h=>absurd h (by omega)⟩ ag0 ?_;rintro k H nx ⟨h1,h2⟩;by_cases hk:k<c.length
  rotate_left
  ·exact absurd (c9 λi hi=>h2 i (by omega)) hz
  have ix:=fQ hk;have hs1:=hs _ (aA hk);have hp:=Cm (c.getD k default) hs1;have hsp:=u0 (c:=c) (k:=k);by_cases he:bT (c.getD k default)≠0
  ·rw[if_pos he] at hsp;rw[di hk h2 (by rw[hsp];exact he),hsp];have z:decide (bT (c.getD k default)≠0)=true:=a6 he;refine wnY (zI3 @ai @ix @z) ?_;exact .int _ _
  rw[if_neg he] at hsp;have he:=ub he;rw[he] at hp;have z:decide ((0:Int)≠0)=false:=rfl;by_cases hk0:0<k
  rotate_left
  ·rw[if_neg (λh=>hk0 h.1)] at hsp;have zk:decide (0<(k:Int))=false:=ba (by omega);refine wkY (zI4 @ai @ix @z @zk) ?_
   exact ⟨k + 1,by omega,⟨by omega,fun i hi=>by
    rcases jX.1 hi with h'|rfl
    ·exact h2 i h'
    ·exact hsp⟩,ag0⟩
  have zk:decide (0<(k:Int))=true:=a6 (by omega)
  have iy:eY 1 (ao c) (.int .i64 ((k:Int)-1))=some (.iptr [aF (c.getD (k-1) default)] 0):=by
   have:=fQ (l:=c) (k:=k-1) (by omega)
   rwa [show((k-1:Nat):Int)=(k:Int)-1 by omega] at this
  have hcm:=pf (c.getD (k-1) default) (c.getD k default) (hs _ (aA (by omega))) hs1;by_cases hv:0<=bo (c.getD (k-1) default) (c.getD k default)
  ·have z2:decide (0<=bo (c.getD (k-1) default) (c.getD k default))=true:=a6 hv;rw[if_pos ⟨hk0,hv⟩] at hsp;rw[di hk h2 (by rw[hsp];decide),hsp];refine wkY (zI6 @ai @ix @iy @z @zk @z2) ?_;exact .int _ _
  ·have z2:decide (0<=bo (c.getD (k-1) default) (c.getD k default))=false:=ba hv;rw[if_neg (λh=>hv h.2)] at hsp;refine wkY (zI6 @ai @ix @iy @z @zk @z2) ?_
   exact ⟨k + 1,by omega,⟨by omega,fun i hi=>by
    rcases jX.1 hi with h'|rfl
    ·exact h2 i h'
    ·exact hsp⟩,ag0⟩
 have hz:=ub hz;rw[if_neg (λh=>h hz)];obtain⟨a1,a2⟩:=Cb hz;have hok:=G0 (by omega) a1;refine bn (λT H nx=>T 3=ao c) ?_ ?_
 ·refine wnZ (zI3 @ai @ak @ag) ?_;refine bF (X:=Nat) (λk=>[(3,ao c),(4,.int .i64 k)]) (λk H nx=>k<=c.length) (λk=>c.length-k) 0 (bQ _) ag0 ?_;rintro k H nx h1;by_cases hk:k<c.length
  rotate_left
  ·refine wnY @ai ?_;exact rfl
  have ix:=fQ hk;have hs1:=hs _ (aA hk);have hp:=Cm (c.getD k default) hs1;rw[a1 _ (aA hk)] at hp;have z:decide ((0:Int)≠0)=false:=rfl;by_cases hk0:0<k
  rotate_left
  ·have zk:decide (0<(k:Int))=false:=ba (by omega);refine wkY (zI4 @ai @ix @z @zk) ?_;exact⟨k+1,by omega,by omega,ag0⟩
  have zk:decide (0<(k:Int))=true:=a6 (by omega)
  have iy:eY 1 (ao c) (.int .i64 ((k:Int)-1))=some (.iptr [aF (c.getD (k-1) default)] 0):=by
   have:=fQ (l:=c) (k:=k-1) (by omega)
   rwa [show((k-1:Nat):Int)=(k:Int)-1 by omega] at this
  have hcm:=pf (c.getD (k-1) default) (c.getD k default) (hs _ (aA (by omega))) hs1;have z2:decide (0<=bo (c.getD (k-1) default) (c.getD k default))=false:=ba (by have:=ec a2 (i:=k-1) (j:=k) (by omega) hk;omega);refine wkY (zI6 @ai @ix @iy @z @zk @z2) ?_;exact⟨k+1,by omega,by omega,ag0⟩
 rintro T H nx t3;refine wnY @t3 ?_;refine bF (X:=Nat) (λk=>[(3,ao c),(6,.int .i64 k)]) (λk H' nx'=>k<=c.length/\∀i,i<k->dT c (c.getD i default)=false) (λk=>c.length-k) 0 ⟨bQ _,λi h=>absurd h (by omega)⟩ (have zz:=@t3;agZ) ?_;clear zz;clear t3;rintro i H1 nx1 ⟨h1,h2⟩;by_cases hi:i<c.length
 rotate_left
 ·rw[ry λi hi=>h2 i (by omega),if_neg (by decide)];refine wnY @ai ?_;exact .int _ _
 refine wnY @ai ?_;refine bF (X:=Nat) (λk=>[(3,ao c),(6,.int .i64 i),(7,.int .i64 k)]) (λk H' nx'=>k<=c.length/\∀j,j<k->i≠j->fH (c.getD i default) (c.getD j default)=false) (λk=>c.length-k) 0 ⟨bQ _,λi h=>absurd h (by omega)⟩ ag0 ?_;rintro k H2 nx2 ⟨k1,k2⟩;by_cases hk:k<c.length
 rotate_left
 ·refine wnY @ai ?_;refine⟨i+1,by omega,⟨by omega,λj hj=>?_⟩,ag0⟩;rcases jX.1 hj with h'|rfl
  ·exact h2 j h'
  ·cases hb:dT c (c.getD j default)
   ·rfl
   ·obtain⟨q,q1,q2,q3⟩:=G8 hb;rw[k2 q (by omega) q2] at q3;cases q3
 have ix:=fQ hi;have iy:=fQ hk;by_cases hik:i=k
 ·have z:decide ((i:Int)≠(k:Int))=false:=ba (by omega);refine wkY (aI @ai @z) ?_;exact⟨k+1,by omega,⟨by omega,λj hj hij=>k2 j (by omega) hij⟩,ag0⟩
 have z:decide ((i:Int)≠(k:Int))=true:=a6 (by omega);have hin:=Fe (c.getD i default) (c.getD k default) (hs _ (aA hi)) (hs _ (aA hk));have ht:=EX (λs hs=>(hok.2 s hs).1) a2 hi hk hik;cases hb:fH (c.getD i default) (c.getD k default)
 ·rw[hb] at hin;refine wkY (zI4 @ai @ix @iy @z) ?_
  exact ⟨k + 1,by omega,⟨by omega,fun j hj hij=>by
   rcases jX.1 hj with h'|rfl
   ·exact k2 j h' hij
   ·exact hb⟩,ag0⟩
 ·rw[hb] at hin;rw[if_pos (rl.2 ⟨_,aA hi,ht hb⟩)];refine wkY (zI4 @ai @ix @iy @z) ?_;exact .int _ _
theorem GG{H:Hp}{a b:Bool}{e f:Int}(h1:a=b)(h2:e=f):Snap H (.tup [.bool a,.int .i64 e]) (.tup [.bool b,.int .i64 f]):=by
 subst h1 h2;exact bA (ah (.bool _) (ah (.int _ _) ap))
theorem FL(s:AV)(l:Spx)(hl:l.length<=1000000)(h0:l≠[])(H:Hp)(nx:Nat)(hn:fA s=some l.length)(hs:∀H',(∀x,x<nx->H' x=H x)->f8 2 H' s=some (l.length,cX l)):Abs.Fn Tryz.prog 136 [s] H nx λr H' nx'=>r=.msl nx (l.length*2) 2 0 l.length/\H'=ar H nx (cX l)/\nx'=nx+1:=by
 have hpos:=gY.2 h0;refine fO JU ?_;simp only[KX,aL];refine wnY and_self ?_;refine tw (k:=l.length) (by((try simp only[cf,ZA,reduceEqDiff,↓reduceIte,reduceAdd,reduceLeDiff]);(try with_reducible rfl));exact hn) (λh=>?_) (λh=>by omega) (λh=>by omega);refine wnY and_self ?_;refine kJ rfl ev0 ev0 (hs _ λx _=>rfl) (nJ _) (by omega) (by omega) ?_;refine wnY and_self ?_;exact⟨rfl,rfl,rfl⟩
theorem Ll{y lo kb sb k N:Nat}{s:Spx}(hs:s.length<=1000)(hk:k<=1000)(I:List Spx->Hp->Nat->Prop)
    (hp:∀S H nx,I S H nx->H kb=some [.int .i64 k]/\H sb=some [aF s]/\lo+3<=nx/\kb<lo/\sb<lo)
    (stab:∀S H H' nx nx',I S H nx->nx<=nx'->(∀i,i<nx->¬(lo<=i/\i<lo+3)->H' i=H i)->I S H' nx')
    (rnd:∀S f H nx,I S H nx->f.length=k->f≠[]->S.length<N->Yl Tryz.prog y [.msl nx (k*2) 2 0 k] (ar H nx (cX f)) (nx+1) λr H' nx'=>r=.bool true/\I (S++[f]) H' nx'/\nx<=nx'/\∀i,lo<=i->i<lo+3->H' i=H i):
    ∀(j:Nat)(ch:Spx)(at_:Nat)(S:List Spx)(H:Hp)(nx:Nat),0<k->ch.length+j=k->S.length+(cV (s.drop at_) j).length<=N->at_<=s.length->I S H nx->H lo=some [.yld y]->H (lo+1)=some [.func 178 [.ptr kb 1 0,.ptr lo 1 0,.ptr sb 1 0,.ptr (lo+1) 1 0]]->(∃C,H (lo+2)=some C/\C.length=k*2/\C.take (ch.length*2)=cX ch)->
     Abs.Fn Tryz.prog 178 [.int .i64 at_,.msl (lo+2) (k*2) 2 0 ch.length,.ptr kb 1 0,.ptr lo 1 0,.ptr sb 1 0,.ptr (lo+1) 1 0] H nx λr H' nx'=>r=.bool true/\I (S++(cV (s.drop at_) j).map (ch++ ·)) H' nx'/\nx<=nx'/\H' lo=H lo/\H' (lo+1)=H (lo+1)/\∃C,H' (lo+2)=some C/\C.length=k*2/\C.take (ch.length*2)=cX ch:=by
 intro j
 induction j with
 |zero=>
  intro ch at_ S H nx hk0 hj hN hat hI h1 h2 ⟨C,h3,hc1,hc2⟩;obtain⟨g1,g2,g3,g4,g5⟩:=hp _ _ _ hI;have hlen:ch.length=k:=by omega
  have hne:ch≠[]:=λe=>by rw[e] at hlen;simp at hlen;omega
  obtain rfl:C=cX ch:=by rw[<-hc2,ib (by omega)]
  refine fO Jz ?_;simp only[Lj,aL];have hcl:=FL (.msl (lo+2) (k*2) 2 0 k) ch (by omega) hne H nx (by rw[hlen];rfl) (λH' hH'=>by rw[hlen];exact(gm (n:=k*2) (off:=0) (len:=k) ((hH' (lo+2) (by omega)).trans h3) hc1 (by omega)).trans (by rw[List.drop_zero,ib (by omega)]));rw[hlen] at hcl;rw[hlen];have z:decide ((k:Int)=k)=true:=a6 rfl;refine wnY (zI5 @g1 @g2 @h1 @h2 @z) ?_;refine w_mix1 lo h1 λS0 hS hsub=>?_;refine wnY @hS ?_;refine d8 ?_;refine aQ ev0 ev0 hcl ?_;rintro _ H2 nx2 ⟨rfl,rfl,rfl⟩;refine jM ⟨hsub _ (by rw[ae (by omega)];exact h1),?_⟩;refine kg ?_;refine yC ev0 ev0 (Yl.mono (rnd S ch H nx hI hlen hne (by rw[oZ] at hN;exact hN)) ?_);rintro r H3 nx3 ⟨rfl,e1,e2,e3⟩;refine wnY and_self ?_;refine⟨rfl,?_,e2,e3 _ (by omega) (by omega),e3 _ (by omega) (by omega),cX ch,(e3 _ (by omega) (by omega)).trans h3,hc1,by rw[<-hlen];exact hc2⟩;rw[oZ,ew,List.map_nil,fY];exact e1
 |succ j ih=>
  intro ch at_ S H nx hk0 hj hN hat hI h1 h2 ⟨C,h3,hc1,hc2⟩;obtain⟨g1,g2,g3,g4,g5⟩:=hp _ _ _ hI;refine fO Jz ?_;simp only[Lj,aL];have z:decide ((ch.length:Int)=k)=false:=ba (by omega);refine wnY (zI5 @g1 @g2 @h1 @h2 @z) ?_;refine bF (X:=Nat×List Spx) (λx=>[(1,.msl (lo+2) (k*2) 2 0 ch.length),(4,.ptr sb 1 0),(5,.ptr (lo+1) 1 0),(9,.int .i64 x.1)]) (λx H' nx'=>x.1<=s.length/\I x.2 H' nx'/\nx<=nx'/\H' lo=H lo/\H' (lo+1)=H (lo+1)/\(∃C,H' (lo+2)=some C/\C.length=k*2/\C.take (ch.length*2)=cX ch)/\x.2++(cV (s.drop x.1) (j+1)).map (ch++ ·)=S++(cV (s.drop at_) (j+1)).map (ch++ ·)) (λx=>s.length-x.1) (at_,S) ⟨hat,hI,aM _,rfl,rfl,⟨C,h3,hc1,hc2⟩,rfl⟩ ag0 ?_;rintro⟨i,S1⟩ H1 nx1 ⟨i1,hI1,i2,i3,i4,⟨C1,k3,d1,d2⟩,htot⟩;dsimp only at i1 hI1 htot |-;obtain⟨q1,q2,q3,q4,q5⟩:=hp _ _ _ hI1;have w1:=i3.trans h1;have w2:=i4.trans h2;by_cases hi:i<s.length
  rotate_left
  ·refine wnY (zI3 @q1 @q2 @az) ?_;rw[show s.drop i=[] from Gy (by omega),ut,List.map_nil,fY] at htot;exact⟨rfl,by rw[<-htot];exact hI1,i2,i3,i4,C1,k3,d1,d2⟩
  have ix:=ix2 hi;rw[Dz hi,dq,List.map_map,<-i9] at htot;have hmm:(cV (s.drop (i+1)) j).map ((λx=>ch++x) ∘ λx=>s.getD i default::x)=(cV (s.drop (i+1)) j).map ((ch++[s.getD i default])++ ·):=o0 λx _=>by simp
  rw[hmm] at htot;generalize s.getD i default=v at *;refine wnY (zI3 @q1 @q2 @az) ?_;refine qE sb (lo+1) q2 w2 (by omega) λS0 hS1 hS2 hsub=>?_;refine wnY (zI3 @hS1 @hS2 @ix) ?_;refine d8 ?_;refine wnY and_self ?_;refine⟨hsub _ (by rw[ae (by omega)];exact q2) (by rw[ae (by omega)];exact w2),?_⟩;refine d8 ?_;refine BU (b:=lo+2) (m:=k*2) (off:=0) (len:=ch.length) (n:=1) rfl ev0 (by rw[ae (by omega)];exact k3) ev0 rh rfl d1 (λ_=>by omega) (by omega) (by omega) ?_;refine jM ⟨hsub _ (by rw[ae (by omega),ae (by omega)];exact q2) (by rw[ae (by omega),ae (by omega)];exact w2),?_⟩;refine kg ?_;have hl1:(ch++[v]).length=ch.length+1:=by simp
  have hcc:=kM ch
  have hput:(bC C1 (0+ch.length*2) [.int .i64 v.color,.int .i64 v.label]).length=k*2/\(bC C1 (0+ch.length*2) [.int .i64 v.color,.int .i64 v.label]).take ((ch.length+1)*2)=cX (ch++[v]):=by
   rw[bP];simp only[bC];refine⟨by simp[d1];omega,?_⟩;rw[d2,nG,Kj,IW (by simp[hcc];omega),ib (by simp[hcc];omega)]
  have hN1:S1.length+(cV (s.drop (i+1)) j).length<=N:=by
   have:=congrArg List.length htot;simp only[cP,bm] at this;omega
  have hih:=ih (ch++[v]) (i+1) S1 (ar (ar H1 nx1 [.int .i64 v.color,.int .i64 v.label]) (lo+2) (bC C1 (0+ch.length*2) [.int .i64 v.color,.int .i64 v.label])) (nx1+1) hk0 (by omega) hN1 (by omega) (stab _ _ _ _ _ hI1 (by omega) (λx hx hn=>by rw[ae (by omega),ae (by omega)])) (by rw[ae (by omega),ae (by omega)];exact w1) (by rw[ae (by omega),ae (by omega)];exact w2) ⟨_,af,hput.1,by rw[hl1];exact hput.2⟩;rw[hl1,show((i+1:Nat):Int)=(i:Int)+1 by omega] at hih;refine aQ ev0 ev0 hih ?_;rintro r H4 nx4 ⟨rfl,f1,f2,f3,f4,C4,f5,f6,f7⟩;refine wnY and_self ?_;refine⟨(i+1,S1++(cV (s.drop (i+1)) j).map ((ch++[v])++ ·)),by dsimp only;omega,⟨by dsimp only;omega,f1,by omega,f3.trans ?_,f4.trans ?_,⟨C4,f5,f6,?_⟩,htot⟩,ag0⟩
  ·rw[ae (by omega),ae (by omega)];exact i3
  ·rw[ae (by omega),ae (by omega)];exact i4
  ·have:=congrArg (List.take (ch.length*2)) f7;rw[List.take_take,Nat.min_eq_left (by omega),nG,IW (by omega)] at this;rw[this];exact ib (by omega)
theorem Gn{y kb sb k:Nat}{s:Spx}{H:Hp}{nx:Nat}(hs:s.length<=1000)(hk0:0<k)(hk:k<=1000)(I:List Spx->Hp->Nat->Prop)
    (hp:∀S H nx',I S H nx'->H kb=some [.int .i64 k]/\H sb=some [aF s]/\nx+3<=nx'/\kb<nx/\sb<nx)
    (stab:∀S H H' nx1 nx',I S H nx1->nx1<=nx'->(∀i,i<nx1->¬(nx<=i/\i<nx+3)->H' i=H i)->I S H' nx')
    (rnd:∀S f H nx1,I S H nx1->f.length=k->f≠[]->S.length<(cV s k).length->Yl Tryz.prog y [.msl nx1 (k*2) 2 0 k] (ar H nx1 (cX f)) (nx1+1) λr H' nx'=>r=.bool true/\I (S++[f]) H' nx'/\nx1<=nx'/\∀i,nx<=i->i<nx+3->H' i=H i)
    (gk:H kb=some [.int .i64 k]) (lk:kb<nx) (h0:∀H',(∀i,i<nx->H' i=H i)->I [] H' (nx+3)):
    Abs.Fn Tryz.prog 177 [.yld y,.ptr kb 1 0,.ptr sb 1 0] H nx λ_ H' nx'=>I (cV s k) H' nx':=by
 refine fO NA ?_;simp only[ME,aL];refine wnY @gk ?_;generalize hH:ar (ar (ar H nx [.yld y]) (nx+1) [.nilf]) (nx+1) (bC [.nilf] 0 [.func 178 [.ptr kb 1 0,.ptr nx 1 0,.ptr sb 1 0,.ptr (nx+1) 1 0]])=H1;have hfn:H1 (nx+1)=some [.func 178 [.ptr kb 1 0,.ptr nx 1 0,.ptr sb 1 0,.ptr (nx+1) 1 0]]:=by rw[<-hH,af];rfl
 have hfk:H1 kb=some [.int .i64 k]:=by rw[<-hH,ae (by omega),ae (by omega),ae (by omega)];exact gk
 have hfy:H1 nx=some [.yld y]:=by rw[<-hH,ae (by omega),ae (by omega),af]
 have hfo:∀i,i<nx->H1 i=H i:=λi hi=>by rw[<-hH,ae (by omega),ae (by omega),ae (by omega)]
 clear hH;refine qE kb (nx+1) hfk hfn (by omega) λS0 hS1 hS2 hsub=>?_;refine wnY (aI @hS1 @hS2) ?_;refine d8 ?_;refine yW (k1:=.i64) (k2:=.i64) (n:=0) (m:=k) rfl ev0 ev0 (Int.le_refl _) (by omega) (by omega) (by omega) ?_;refine jM ⟨hsub _ (by rw[ae (by omega)];exact hfk) (by rw[ae (by omega)];exact hfn),?_⟩;refine kg ?_;have hz:(bH (AV.agg [AV.int .i64 0,AV.int .i64 0]) k).length=k*2:=by simp[bH,AV.cells]
 have hih:=Ll (y:=y) (N:=(cV s k).length) (lo:=nx) (kb:=kb) (sb:=sb) (k:=k) (s:=s) hs hk I hp stab rnd k [] 0 [] (ar H1 (nx+2) (bH (AV.agg [AV.int .i64 0,AV.int .i64 0]) k)) (nx+3) hk0 (by simp) (by simp) (bQ _) (h0 _ (λi hi=>by rw[ae (by omega)];exact hfo i hi)) (by rw[ae (by omega)];exact hfy) (by rw[ae (by omega)];exact hfn) ⟨_,af,hz,rfl⟩;refine aQ ev0 (by((try simp only[cf,ZA,reduceEqDiff,↓reduceIte,reduceAdd,reduceLeDiff]);(try with_reducible rfl));rfl) hih ?_;rintro r H4 nx4 ⟨rfl,f1,-⟩;refine wnY and_self ?_;rw[List.drop_zero,List.nil_append,show(λx:Spx=>([]:Spx)++x)=id from rfl,List.map_id] at f1;exact f1
theorem AL{kb sb k:Nat}{s:Spx}{H:Hp}{nx:Nat}(hs:s.length<=8)(hk0:0<k)(hk:k<=1000)(gk:H kb=some [.int .i64 k])(gs:H sb=some [aF s])(lk:kb<nx)(ls:sb<nx):
    Abs.Fn Tryz.prog 176 [.esl,.func 177 [.ptr kb 1 0,.ptr sb 1 0]] H nx λr H' nx'=>Row H' 1 r ((cV s k).map aF)/\nx<=nx'/\∀b',bX r=some b'->nx<=b'/\b'<nx':=by
 refine fO Oq ?_;simp only[N2,aL];refine wnY and_self ?_;refine nX (nx+1) (nx+2) rfl rfl ev0 (λc0 cj hy=>?_);refine Abs.Fn.mono (Gn (nx:=nx+2) (kb:=kb) (sb:=sb) (k:=k) (s:=s) (by omega) hk0 hk (λS H' nx'=>nx+5<=nx'/\H' kb=some [.int .i64 k]/\H' sb=some [aF s]/\H' (nx+1)=some [c0]/\∃sv,H' nx=some [sv]/\Row H' 1 sv (S.map aF)/\∀b',bX sv=some b'->nx+5<=b'/\b'<nx') ?_ ?_ ?_ ?_ ?_ ?_) ?_
 ·rintro S H' nx' ⟨h1,h2,h3,h4,h5⟩;exact⟨h2,h3,by omega,by omega,by omega⟩
 ·rintro S H1 H2 a c ⟨h1,h2,h3,h4,sv,h5,h6,h7⟩ hac hs';refine⟨by omega,(hs' _ (by omega) (by omega)).trans h2,(hs' _ (by omega) (by omega)).trans h3,(hs' _ (by omega) (by omega)).trans h4,sv,(hs' _ (by omega) (by omega)).trans h5,h6.same (λb' hb'=>hs' _ (h7 b' hb').2 (by have:=h7 b' hb';omega)),λb' hb'=>⟨(h7 b' hb').1,by have:=h7 b' hb';omega⟩⟩
 ·rintro S f H' nx' ⟨h1,h2,h3,h4,sv,h5,h6,h7⟩ hfl hf0 hSN;have h4':ar H' nx' (cX f) (nx+1)=some [c0]:=by rw[ae (by omega)];exact h4
  refine hy _ _ _ _ h4' rfl ?_;clear hy;refine wnZ and_self ?_;refine⟨h4',?_⟩;have hS70:=Bj hSN (xS (k:=k) hs);have hd:dK (ar H' nx' (cX f)) (nx+1) nx'=some (cX f):=by rw[dr (by omega),af]
  have hdo:∀x,x<nx'->x≠nx+1->dK (ar H' nx' (cX f)) (nx+1) x=H' x:=λx a b=>by rw[dr b,ae (by omega)]
  generalize dK (ar H' nx' (cX f)) (nx+1)=H1 at *;refine gv ?_;refine qs (only nx' (cX f)) (dK H1 nx') [(2,.ptr nx 1 0),(5,aF f)] (Fz.one hd) ⟨.inl rfl,.inr (Lp (s:=.msl nx' (k*2) 2 0 k) (by rw[<-hfl];exact Row.box nx' f.length (cX f) ma (kM f))),trivial⟩ ?_;have he:∀x,x<nx'->x≠nx+1->dK H1 nx' x=H' x:=λx a b=>by rw[dr (by omega)];exact hdo x a b
  have g5:dK H1 nx' nx=some [sv]:=(he nx (by omega) (by omega)).trans h5;clear hd hdo;generalize dK H1 nx'=H2 at *;refine wnY (zI3 @g5 @be @aX) ?_;refine eR (h6.same λb' hb'=>?_) ?_
  ·have:=h7 b' hb';rw[ae (by omega)];exact he _ (by omega) (by omega)
  rintro sv' H3 nx3 r1 r2 r3 r4 r5;have zs:∀x,x<nx+5->bX sv≠some x:=λx hx e=>by have:=h7 x e;omega
  have z:∀x,x<nx'->x≠nx+1->bX sv≠some x->H3 x=H' x:=λx a1 a2 a3=>(r4 x (by omega) a3).trans (by rw[ae (by omega)];exact he x a1 a2);have g6:H3 nx=some [sv]:=(z nx (by omega) (by omega) (zs _ (by omega))).trans h5;obtain⟨q1,q2⟩:=r1.one;refine wnY (zI3 @g6 @q1 @q2) ?_;have w:∀x,x≠nx->x≠nx+1->ar (ar H3 nx (bC [sv] 0 [sv'])) (nx+1) [c0] x=H3 x:=λx a1 a2=>by rw[ae a2,ae a1]
  have u7:∀b',bX sv'=some b'->nx+5<=b'/\b'<nx3:=λb' hb'=>by
   rcases r5 b' hb' with e|⟨e1,e2⟩
   ·have:=h7 b' e;omega
   ·omega
  refine⟨rfl,⟨by omega,?_,?_,af,sv',?_,?_,u7⟩,by omega,λx x1 x2=>?_⟩
  ·rw[w _ (by omega) (by omega),z _ (by omega) (by omega) (zs _ (by omega)),h2]
  ·rw[w _ (by omega) (by omega),z _ (by omega) (by omega) (zs _ (by omega)),h3]
  ·rw[ae (by omega),af];rfl
  ·rw[dq];exact r1.same (λb' hb'=>w b' (by have:=u7 b' hb';omega) (by have:=u7 b' hb';omega))
  ·rw[w _ (by omega) (by omega),z _ (by omega) (by omega) (zs _ (by omega))]
 ·rw[ae (by omega),ae (by omega)];exact gk
 ·omega
 ·intro H' hH';refine⟨by omega,?_,?_,?_,.esl,?_,.nil,λb' hb'=>(by cases hb')⟩
  ·rw[hH' _ (by omega),ae (by omega),ae (by omega),gk]
  ·rw[hH' _ (by omega),ae (by omega),ae (by omega),gs]
  ·rw[hH' _ (by omega),af]
  ·rw[hH' _ (by omega),ae (by omega),af]
 ·rintro r H' nx' ⟨h1,h2,h3,h4,sv,h5,h6,h7⟩;refine .inl ⟨h4,?_⟩;refine wnY @h5 ?_;exact⟨h6.same (λb' hb'=>dr (by have:=h7 b' hb';omega)),by omega,λb' hb'=>by have:=h7 b' hb';omega⟩
theorem GC(s:Spx)(k:Nat)(H:Hp)(nx:Nat):Abs.Fn Tryz.prog 160 [aF s,.int .i64 k] H nx λr H' nx'=>r=.func 177 [.ptr (nx+1) 1 0,.ptr nx 1 0]/\H'=ar (ar H nx [aF s]) (nx+1) [.int .i64 k]/\nx'=nx+2:=by
 refine fO ND ?_;simp only[OG,aL];refine wnY (aI @be @aX) ?_;exact⟨rfl,rfl,rfl⟩
theorem EM{kb sb k:Nat}{s:Spx}{H:Hp}{nx:Nat}(hs:s.length<=8)(hk0:0<k)(hk:k<=1000)(gk:H kb=some [.int .i64 k])(gs:H sb=some [aF s])(lk:kb<nx)(ls:sb<nx):
    Abs.Fn Tryz.prog 159 [.func 177 [.ptr kb 1 0,.ptr sb 1 0]] H nx λr H' nx'=>Row H' 1 r ((cV s k).map aF)/\nx<=nx':=by
 refine fO N7 ?_;simp only[MW,aL];refine wnY and_self ?_;refine aQ ev0 ev0 (AL hs hk0 hk gk gs lk ls) ?_;rintro r H1 nx1 ⟨r1,r2,r3⟩;obtain⟨q1,q2⟩:=r1.one;refine wnY (aI @q1 @q2) ?_;exact⟨r1,r2⟩
theorem FQ(s:Spx)(k:Int)(hs:Shn s):pU 137 [aF s,.int .i64 k] (.tup [ao (th s k).1,.int .i64 (th s k).2]):=by
 refine pO M3 ?_;simp only[L5,aL];have hc:=qn s hs;unfold th;by_cases he:bT s=0
 rotate_left
 ·rw[if_pos he];have z:decide (bT s≠0)=true:=a6 he;refine wnY @z ?_;exact dS (.eslsl _) rfl
 rw[if_neg (λh=>h he)];rw[he] at hc;obtain⟨p1,p2,p3,p4⟩:=cE he;have z0:decide ((0:Int)≠0)=false:=rfl;by_cases hk:k<1\/(s.length:Int)<k
 ·rw[if_pos hk];have zz:=aI @z0 @az;repeat' (first|refine zW ?_|apply a_n|apply a_r|refine zO ?_|refine vY ?_|refine cY ?_ (hp:=hc) (hs:=by(first|refine aG ?_ rfl|apply a9);(repeat' (first|exact ap|apply bI|apply bc|exact dN _));first|done|fail)|refine gTY ?_|refine gFY ?_|refine cTY ?_|refine cFY ?_|(refine zGY ?_ ?_<;>(intro _hg;try (exfalso;omega)))|refine b0 rfl ?_|refine r2Y ?_|fail)
  all_goals first|exact dS (.eslsl _) rfl|(exfalso;omega)
 rw[if_neg hk];obtain⟨n,rfl⟩:∃n:Nat,k=n:=⟨k.toNat,by omega⟩
 rw[bN];refine wnY (aI @z0 @az) ?_;refine aQ ev0 ev0 (GC s n _ _) ?_;rintro _ H1 nx1 ⟨rfl,rfl,rfl⟩;refine aQ ev0 ev0 (EM (kb:=0+1) (sb:=0) (k:=n) (s:=s) p2 (by omega) (by omega) af (by rw[ae (by omega),af]) (by omega) (by omega)) ?_;rintro r H2 nx2 ⟨r1,r2⟩;obtain⟨q1,q2⟩:=r1.one;refine wnY (aI @q1 @q2) ?_;exact dS (kf r1) rfl
theorem I7(s:Spx)(h1:1<=s.length)(hs:s.length<=8):pU 138 [aF s] (HN (iT 8 s)):=by
 refine pO MP ?_;simp only[Nq,aL];have hn:fA (aF s)=some s.length:=by unfold aF iA;simp[fA]
 have hput:=Cq (n:=8) (s:=s) hs;refine wnY and_self ?_;refine lpI (X:=Nat) (λk=>[(0,aF s),(2,.ptr 0 16 0),(3,.ptr 1 16 0),(5,.int .i64 k)]) (λk H nx=>k<=8/\H 0=some (kc 0)/\H 1=some (kc k)) (λk=>8-k) 0 ⟨bQ _,by rw[ae (by omega),af];rfl,af⟩ ?_;rintro k H nx ⟨hk,g0,g1⟩;rcases(by omega:k=8\/k=0\/k=1\/k=2\/k=3\/k=4\/k=5\/k=6\/k=7) with rfl|rfl|rfl|rfl|rfl|rfl|rfl|rfl|rfl
 ·refine wnY (aI @g0 @g1) ?_;refine JZ rfl g1 rfl rfl ?_;refine wnY and_self ?_;refine JP (n:=s.length) (H':=ar H 1 ((iT 8 s).map (AV.int .i64))) ?_ ?_
  ·((try simp only[cf,ZA,reduceEqDiff,↓reduceIte,reduceAdd,reduceLeDiff]);(try with_reducible rfl))
   have htr:wx s.length (aF s)=aF s:=by unfold aF iA;simp[wx];exact ib (by simp)
   have hmin:min s.length 8=s.length:=Nat.min_eq_left hs;have hal:fA (.msl 1 16 2 0 8)=some 8:=rfl;simp only[tW,hal,hn,hmin,if_neg (show ¬s.length=0 by omega),g1,htr,zR];rw[if_pos (by refine⟨?_,?_,?_,?_⟩<;>first|rfl|trivial|omega|exact nJ s)]
   have:bC (kc 8) 0 (cX s)=(iT 8 s).map (AV.int .i64):=by
    rw[<-hput];simp only[bC,List.take_zero,List.nil_append,bP,kM];rfl
   rw[this]
  ·have hl:((iT 8 s).map (AV.int .i64)).length=16:=by rw[bm,qg]
   have g1':ar H 1 ((iT 8 s).map (AV.int .i64)) 1=some ((iT 8 s).map (AV.int .i64)):=af;have g0':ar H 1 ((iT 8 s).map (AV.int .i64)) 0=some (kc 0):=by rw[ae (by omega)];exact g0
   have hl0:(kc 0).length=16:=rfl;unfold HN;have ht:((iT 8 s).map (AV.int .i64)).take 16=(iT 8 s).map (AV.int .i64):=ib (by omega);have hd:=Fs (iT 8 s);unfold HN at hd
   have hfl:AV.ones ((iT 8 s).map (AV.int .i64))=true:=by
    unfold AV.ones;rw[eN];intro x hx;obtain⟨y,_,rfl⟩:=bz.1 hx;rfl
   have hlp:bC (kc 0) 0 ((iT 8 s).map (AV.int .i64))=(iT 8 s).map (AV.int .i64):=by
    simp only[bC,List.take_zero,List.nil_append,bP,hl];rw[List.drop_of_length_le (by decide),fY]
   generalize (iT 8 s).map (AV.int .i64)=K at *;refine wnY (zI5 @g0' @g1' @hl @hl0 @ht) ?_;refine KP (v:=.agg K) (cs:=kc 0) (vs:=K) (b:=0) (n:=16) (off:=0) rfl ev0 ev0 g0' rfl hfl hl0 hl (by omega) ?_;rw[hlp];refine wnY (aI @hl @ht) ?_;exact hd _
 ·refine wnY (aI @g0 @g1) ?_;refine oC (r:=.ptr 1 16 0) rfl rfl rfl ?_;have hl:(kc 0).length=16:=rfl;refine wnY (aI @g1 @hl) ?_;exact⟨1,by omega,⟨by omega,by rw[ae (by omega)];exact g0,by rw[af];rfl⟩,by(iterate 4 refine And.intro rfl ?_);trivial⟩
 ·refine wnY (aI @g0 @g1) ?_;refine oC (r:=.ptr 1 16 2) rfl rfl rfl ?_;have hl:(kc 1).length=16:=rfl;refine wnY (aI @g1 @hl) ?_;exact⟨2,by omega,⟨by omega,by rw[ae (by omega)];exact g0,by rw[af];rfl⟩,by(iterate 4 refine And.intro rfl ?_);trivial⟩
 ·refine wnY (aI @g0 @g1) ?_;refine oC (r:=.ptr 1 16 4) rfl rfl rfl ?_;have hl:(kc 2).length=16:=rfl;refine wnY (aI @g1 @hl) ?_;exact⟨3,by omega,⟨by omega,by rw[ae (by omega)];exact g0,by rw[af];rfl⟩,by(iterate 4 refine And.intro rfl ?_);trivial⟩
 ·refine wnY (aI @g0 @g1) ?_;refine oC (r:=.ptr 1 16 6) rfl rfl rfl ?_;have hl:(kc 3).length=16:=rfl;refine wnY (aI @g1 @hl) ?_;exact⟨4,by omega,⟨by omega,by rw[ae (by omega)];exact g0,by rw[af];rfl⟩,by(iterate 4 refine And.intro rfl ?_);trivial⟩
 ·refine wnY (aI @g0 @g1) ?_;refine oC (r:=.ptr 1 16 8) rfl rfl rfl ?_;have hl:(kc 4).length=16:=rfl;refine wnY (aI @g1 @hl) ?_;exact⟨5,by omega,⟨by omega,by rw[ae (by omega)];exact g0,by rw[af];rfl⟩,by(iterate 4 refine And.intro rfl ?_);trivial⟩
 ·refine wnY (aI @g0 @g1) ?_;refine oC (r:=.ptr 1 16 10) rfl rfl rfl ?_;have hl:(kc 5).length=16:=rfl;refine wnY (aI @g1 @hl) ?_;exact⟨6,by omega,⟨by omega,by rw[ae (by omega)];exact g0,by rw[af];rfl⟩,by(iterate 4 refine And.intro rfl ?_);trivial⟩
 ·refine wnY (aI @g0 @g1) ?_;refine oC (r:=.ptr 1 16 12) rfl rfl rfl ?_;have hl:(kc 6).length=16:=rfl;refine wnY (aI @g1 @hl) ?_;exact⟨7,by omega,⟨by omega,by rw[ae (by omega)];exact g0,by rw[af];rfl⟩,by(iterate 4 refine And.intro rfl ?_);trivial⟩
 ·refine wnY (aI @g0 @g1) ?_;refine oC (r:=.ptr 1 16 14) rfl rfl rfl ?_;have hl:(kc 7).length=16:=rfl;refine wnY (aI @g1 @hl) ?_;exact⟨8,by omega,⟨by omega,by rw[ae (by omega)];exact g0,by rw[af];rfl⟩,by(iterate 4 refine And.intro rfl ?_);trivial⟩
theorem EE(l:Spx)(hl:l.length<=1000000):PureF Tryz.prog 136 [aF l] (aF l):=by
 refine qO JU ?_;simp only[KX,aL];refine wnY and_self ?_;have hn:fA (aF l)=some l.length:=by unfold aF iA;simp[fA]
 refine tw (k:=l.length) (by((try simp only[cf,ZA,reduceEqDiff,↓reduceIte,reduceAdd,reduceLeDiff]);(try with_reducible rfl));exact hn) (λh=>?_) (λh=>?_) (λh=>?_)
 ·refine wnY and_self ?_;refine kJ rfl ev0 ev0 zR (nJ _) (by omega) (by omega) ?_;refine wnY and_self ?_;exact sy (Row.box _ l.length (cX l) af (kM l))
 ·refine wnY and_self ?_;obtain rfl:=fI.1 h;exact .eslsl 2
 ·refine wnY and_self ?_;refine kJ rfl ev0 ev0 zR (nJ _) (by omega) (by omega) ?_;refine wnY and_self ?_;exact sy (Row.box _ l.length (cX l) af (kM l))
section
variable{g:Nat}{caps:List AV}{s:AV}
theorem Lb(hs:cT s=some (.int .i64 0)){H:Hp}{nx:Nat}:Abs.Fn Tryz.prog 166 [s,.int .i64 0,.int .i64 0,.func g caps] H nx λr H' nx'=>nx'=nx/\H'=H:=by
 refine fO JG ?_;simp only[J8,aL];refine wnZ and_self ?_;refine bF (X:=Unit) (λx=>[(0,s),(1,.int .i64 0),(2,.int .i64 0),(3,.func g caps),(8,.int .i64 1)]) (λx H' nx'=>H'=H/\nx'=nx) (λx=>0) () ⟨rfl,rfl⟩ (by simp (disch:=omega) only[agr,ZG,reduceEqDiff,↓reduceIte,Int.zero_add,true_and]) ?_;rintro _ _ _ ⟨rfl,rfl⟩;refine wnZ and_self ?_;exact⟨rfl,rfl⟩
theorem KM(hs:cT s=some (.int .i64 0)){H:Hp}{nx:Nat}:Abs.Fn Tryz.prog 155 [s,.int .i64 0,.int .i64 0,.int .i64 0,.func g caps] H nx λr H' nx'=>nx'=nx/\H'=H:=by
 refine fO J3 ?_;simp only[KG,aL];refine wnZ and_self ?_;refine bF (X:=Unit) (λx=>[(0,s),(1,.int .i64 0),(2,.int .i64 0),(3,.int .i64 0),(4,.func g caps)]) (λx H' nx'=>H'=H/\nx'=nx) (λx=>0) () ⟨rfl,rfl⟩ ag0 ?_;rintro _ _ _ ⟨rfl,rfl⟩;refine wnZ and_self ?_;refine aQ ev0 ev0 (Lb hs) ?_;rintro _ _ _ ⟨rfl,rfl⟩;refine wnZ and_self ?_;exact⟨rfl,rfl⟩
theorem pW(hs:cT s=some (.int .i64 0)){H:Hp}{nx:Nat}:Abs.Fn Tryz.prog 130 [s,.func g caps] H nx λr H' nx'=>nx'=nx/\H'=H:=by
 refine fO JW ?_;simp only[KA,aL];have w8:IntKind.wrap .u64 0=0:=by decide
 refine wnZ (aI @w8 @hs) ?_;refine aQ ev0 (have zz:=@w8;evZ) LB ?_;rintro _ _ _ ⟨rfl,rfl,rfl⟩;refine wnZ and_self ?_;refine aQ ev0 ev0 (KM hs) ?_;rintro _ _ _ ⟨rfl,rfl⟩;refine wnZ and_self ?_;exact⟨rfl,rfl⟩
end
theorem Lx:Cmp Tryz.prog aF bo (λs=>Shn s) 70 [] where
 cells _:=rfl
 one _:=rfl
 dat x:=dN x
 dcaps x hx:=by cases hx
 run x y hx hy:=gL x y hx hy
 ord:=ie.ord
theorem A8(l:List Spx)(k:Nat)(hl:l.length<=50)(hs:∀s∈l,bT s=0)(hk:1<=k/\k<=8):pU 87 [ao l,.int .i64 k] (.tup [ao (jb l k),.int .i64 0]):=by
 refine pO Pr ?_;simp only[b87,aL];have h8:∀s∈l,s.length<=8:=λs h=>(cE (hs s h)).2.1
 have hgood:∀s∈l.flatMap (λs=>cV s k),mY s:=λs h=>by
  obtain⟨t,t1,t2⟩:=pH.1 h;exact GZ (IH (hs t t1)) hk.1 t2
 have hfl:=pr (k:=k) h8;have z0:decide ((0:Int)≠0)=false:=rfl;refine wnY @ai ?_;refine ws ?_;refine wnY @ai ?_;refine lpI (X:=Nat×AV×List Spx) (λx=>[(1,.int .i64 k),(6,.mp 0),(7,x.2.1),(15,ao l),(16,.int .i64 l.length),(17,.int .i64 x.1)]) (λx H nx=>x.1<=l.length/\1<=nx/\H 0=some [.omap ((x.2.2.map kK).map eK) (x.2.2.map λ_=>.bool true)]/\Row H 1 x.2.1 (x.2.2.map aF)/\(∀b,bX x.2.1=some b->1<=b/\b<nx)/\x.2.2.Nodup/\∀s,s∈x.2.2↔s∈(l.take x.1).flatMap λs=>cV s k) (λx=>l.length-x.1) (0,.esl,[]) ⟨bQ _,by omega,af,Row.nil,λb h=>(by cases h),List.nodup_nil,λs=>by simp⟩ ?_;rintro⟨i,sv,O⟩ H nx ⟨h1,hnx,g0,hrow,hbd,hnd,hmem⟩;dsimp only at h1 g0 hrow hbd hnd hmem |-;obtain⟨o1,o2⟩:=hrow.one;by_cases hi:i<l.length
 rotate_left
 ·rw[ib (by omega)] at hmem
  have hOl:O.length<=3500:=by
   have:=Ap hnd (l₂:=l.flatMap λs=>cV s k) (λs h=>(hmem s).1 h);omega
  have hsort:Abs.Fn Tryz.prog 130 [sv,.func 70 []] H nx λ_ H' nx'=>Row H' 1 sv ((jb l k).map aF):=by
   generalize hcs:O.map aF=cs at hrow;cases hrow with
   |nil=>
    have hO0:O=[]:=List.map_eq_nil_iff.1 hcs;refine Abs.Fn.mono (pW rfl) ?_;rintro _ _ _ ⟨rfl,rfl⟩
    have:jb l k=[]:=by
     unfold jb;rw[zX,uo];intro s h;have:=(hmem s).2 h;rw[hO0] at this;cases this
    rw[this];exact Row.nil
   |box b len cs k1 k2=>
    obtain rfl:len=O.length:=by rw[<-hcs,bm] at k2;omega
    have hb:=hbd b rfl;subst hcs;by_cases h0:O.length=0
    ·have hO0:O=[]:=fI.1 h0;subst hO0;refine Abs.Fn.mono (pW rfl) ?_;rintro _ _ _ ⟨rfl,rfl⟩
     have:jb l k=[]:=by
      unfold jb;rw[zX,uo];intro s h;have:=(hmem s).2 h;cases this
     rw[this];exact Row.box b 0 _ k1 rfl
    ·have hg:∀s∈O,Shn s:=λs h=>show s.length<=_ by have:=(hgood s ((hmem s).1 h)).2.1;omega
     have hsf:=CE Lx (L:=O) (b:=b) (nx:=nx) (n:=O.length) k1 hb.2 rfl (by omega) hg (by omega);rw[Nat.mul_one];refine Abs.Fn.mono hsf ?_;rintro _ H' nx' ⟨L',ps,p1,p2⟩;have hlen:=p1.length_eq;have:=rW p1 (by rw[hlen];exact p2) hnd hmem;unfold jb;rw[<-this,<-hlen];have:=Row.box (H:=H') (sz:=1) b L'.length (L'.map aF) ps.at_ (by simp)
     rwa [Nat.mul_one] at this
  refine wnY and_self ?_;refine aQ ev0 ev0 hsort ?_;rintro r H' nx' hr;refine wnY (aI @o1 @o2) ?_;exact dS (kf hr) rfl
 have ix:=fQ hi;have hft:=D8 (k:=k) hi
 have hpm:∀s∈(l.take (i+1)).flatMap (λs=>cV s k),s∈l.flatMap λs=>cV s k:=λs h=>by
  obtain⟨t,t1,t2⟩:=pH.1 h;exact pH.2 ⟨t,lm t1,t2⟩
 have hsi:=hs _ (aA hi);have h8i:=h8 _ (aA hi);have hfx:=FQ (l.getD i default) k (show _<=_ by omega)
 have hfe:(l.getD i default).length<k\/th (l.getD i default) k=(cV (l.getD i default) k,0):=by
  by_cases h:(l.getD i default).length<k
  ·exact .inl h
  ·refine .inr ?_;unfold th;rw[if_neg (λh=>h hsi),if_neg (by omega),bN]
 have hcar:∀s∈cV (l.getD i default) k,mY s:=λs h=>hgood s (hpm s (by rw[hft];exact lJ _ h));by_cases hlt:(l.getD i default).length<k
 ·have z:decide (((l.getD i default).length:Int)<k)=true:=a6 (by omega);rw[uG hlt,fY] at hft;generalize l.getD i default=s at *;refine wnY (zI5 @az @ix @z @o1 @o2) ?_;exact⟨(i+1,sv,O),by dsimp only;omega,⟨by dsimp only;omega,hnx,g0,hrow,hbd,hnd,by dsimp only;rw[hft];exact hmem⟩,ag0⟩
 have z:decide (((l.getD i default).length:Int)<k)=false:=ba (by omega);rw[hfe.resolve_left hlt] at hfx;clear hfe;have hgP:∀s∈(l.take i).flatMap (λs=>cV s k),mY s:=λs h=>hgood s (hpm s (by rw[hft];exact l6 _ h))
 have hPl:((l.take i).flatMap (λs=>cV s k)++cV (l.getD i default) k).length<=3500:=by
  rw[<-hft];have:=pr (k:=k) (c:=l.take (i+1)) (λs h=>h8 s (lm h));rw[gV] at this;omega
 generalize l.getD i default=s at *;generalize cV s k=R at *;generalize (l.take i).flatMap (λs=>cV s k)=P at *;have hRl:R.length<=3500:=by rw[cP] at hPl;omega
 refine wnY (zI7 @az @ai @ix @z @z0 @o1 @o2) ?_;refine bF (X:=Nat×AV×List Spx) (λx=>[(1,.int .i64 k),(6,.mp 0),(7,x.2.1),(15,ao l),(16,.int .i64 l.length),(17,.int .i64 i),(34,ao R),(35,.int .i64 R.length),(36,.int .i64 x.1)]) (λx H nx=>x.1<=R.length/\1<=nx/\H 0=some [.omap ((x.2.2.map kK).map eK) (x.2.2.map λ_=>.bool true)]/\Row H 1 x.2.1 (x.2.2.map aF)/\(∀b,bX x.2.1=some b->1<=b/\b<nx)/\x.2.2.Nodup/\∀s,s∈x.2.2↔s∈P++R.take x.1) (λx=>R.length-x.1) (0,sv,O) ⟨bQ _,hnx,g0,hrow,hbd,hnd,by dsimp only;rw[List.take_zero,fY];exact hmem⟩ ag0 ?_;clear g0 hrow hbd hnd hmem hnx o1 o2;rintro⟨j,sv,O⟩ H nx ⟨j1,hnx,g0,hrow,hbd,hnd,hmem⟩;dsimp only at j1 g0 hrow hbd hnd hmem |-;obtain⟨o1,o2⟩:=hrow.one
 have hOl:O.length<=3500:=by
  have:=Ap hnd (l₂:=P++R.take j) (λs h=>(hmem s).1 h);rw[cP,gV] at this;rw[cP] at hPl;omega
 by_cases hj:j<R.length
 rotate_left
 ·rw[ib (by omega)] at hmem;have hls:cT sv=some (.int .i64 O.length):=hrow.lenS (by rw[bm,Nat.mul_one]) lh;have z1:decide ((4096:Int)<O.length)=false:=ba (by omega);refine wnY (zI4 @hls @z1 @o1 @o2) ?_;exact⟨(i+1,sv,O),by dsimp only;omega,⟨by dsimp only;omega,hnx,g0,hrow,hbd,hnd,by dsimp only;rw[hft];exact hmem⟩,ag0⟩
 have iy:=fQ hj;have hgf:=hcar _ (aA hj)
 have hgO:∀s∈O,mY s:=λs h=>by
  rcases eJ.1 ((hmem s).1 h) with h|h
  ·exact hgP s h
  ·exact hcar s (lm h)
 have hkey:=I7 (R.getD j default) hgf.1 hgf.2.1;have hts:R.take (j+1)=R.take j++[R.getD j default]:=ci hj;have hmf:=HV (kK (R.getD j default)) (O.map kK);have hmk:=Kw hgO hgf;generalize R.getD j default=f at *;by_cases hf:f∈O
 ·rw[if_pos (hmk.2 hf)] at hmf;have hlt2:(O.map kK).idxOf (kK f)<(O.map kK).length:=oh.2 (hmk.2 hf)
  have hgv:mget (.bool false) false (some ((O.map kK).idxOf (kK f))) (O.map λ_=>AV.bool true)=.bool true:=by
   rw[bm] at hlt2;simp[mget,List.getD,hlt2]
  refine wnY (zI3 @iy @o1 @o2) ?_;refine jF ev0 g0 (by((try simp only[cf,ZA,reduceEqDiff,↓reduceIte,reduceAdd,reduceLeDiff]);(try with_reducible rfl));rfl) (Dd (kK f)) hmf ?_;rw[hgv];refine wnY (aI @o1 @o2) ?_;refine⟨(j+1,sv,O),by dsimp only;omega,⟨by dsimp only;omega,hnx,g0,hrow,hbd,hnd,λs=>?_⟩,ag0⟩;dsimp only;rw[hts,<-i9,eJ,<-hmem,cC];exact⟨.inl,λh=>h.elim id λe=>by rw[e];exact hf⟩
 ·rw[if_neg (λh=>hf (hmk.1 h))] at hmf;have hgv:mget (.bool false) false none (O.map λ_=>AV.bool true)=.bool false:=rfl;refine wnY (zI3 @iy @o1 @o2) ?_;refine jF ev0 g0 (by((try simp only[cf,ZA,reduceEqDiff,↓reduceIte,reduceAdd,reduceLeDiff]);(try with_reducible rfl));rfl) (Dd (kK f)) hmf ?_;rw[hgv];refine wnY (aI @o1 @o2) ?_;refine qz ev0 g0 (by((try simp only[cf,ZA,reduceEqDiff,↓reduceIte,reduceAdd,reduceLeDiff]);(try with_reducible rfl));rfl) ev0 (Dd (kK f)) hmf ?_;refine wnY (zI4 @o1 @o2 @be @aX) ?_;refine eR (hrow.same λb hb=>?_) ?_
  ·have:=hbd b hb;rw[ae (by omega),ae (by omega)]
  rintro s2 H2 nx2 hr2 i1 i2 i3 i4;obtain⟨o3,o4⟩:=hr2.one;refine wnY (aI @o3 @o4) ?_;refine⟨(j+1,s2,O++[f]),by dsimp only;omega,⟨by dsimp only;omega,by omega,?_,?_,λb hb=>?_,?_,λs=>?_⟩,ag0⟩
  ·rw[i3 0 (by omega) (λh=>by have:=hbd 0 h;omega),ae (by omega),af];simp[da,gQ]
  ·dsimp only;rw[dq];exact hr2
  ·rcases i4 b hb with h|h
   ·have:=hbd b h;omega
   ·omega
  ·exact zA.2 ⟨hnd,by simp,λa ha c hc=>by simp at hc;subst hc;intro e;subst e;exact hf ha⟩
  ·dsimp only;rw[hts,<-i9,eJ,eJ,<-hmem]
theorem lV(c:List Spx)(k:Int)(hc:c.length<=50)(hs:∀s∈c,Shn s):pU 79 [cl c,.int .i64 k] (.tup [ao (fM c k).1,.int .i64 (fM c k).2]):=by
 refine pO O8 ?_;simp only[b79,aL];have hcc:=jS c (show _<=_ by omega) hs;unfold fM;by_cases he:aB c=0
 rotate_left
 ·rw[if_pos he];have z:decide (aB c≠0)=true:=a6 he;refine wnY (zI3 @ak @ag @z) ?_;exact dS (.eslsl _) rfl
 rw[if_neg (λh=>h he)];rw[he] at hcc;have z0:decide ((0:Int)≠0)=false:=rfl;obtain⟨p1,p2,p3,p4⟩:=d6 he;by_cases hk:k<1\/8<k
 ·rw[if_pos hk];have zz:=aI @ak (aI @ag @z0);repeat' (first|refine zW ?_|apply a_n|apply a_r|refine zO ?_|refine vY ?_|refine cY ?_ (hp:=hcc) (hs:=by(first|refine aG ?_ rfl|apply a9);(repeat' (first|exact ap|apply bI|apply bc|exact dt _));first|done|fail)|refine bxY ?_|refine gTY ?_|refine gFY ?_|refine cTY ?_|refine cFY ?_|(refine zGY ?_ ?_<;>(intro _hg;try (exfalso;omega)))|refine b0 rfl ?_|refine r2Y ?_|fail)
  all_goals first|exact dS (.eslsl _) rfl|(exfalso;omega)
 rw[if_neg hk];obtain⟨n,rfl⟩:∃n:Nat,k=n:=⟨k.toNat,by omega⟩
 rw[bN];have ha:=A8 c n hc p2 ⟨by omega,by omega⟩;refine wnY (zI4 @ak @ag @ai @z0) ?_;exact dS (bD _).snap rfl
theorem Bv(l:List Spx)(v:Spx)(hl:Shn l)(hs:∀c∈l,Shn c)(hv:Shn v){b:Nat}(hb:b<=l.length)(h1:∀i,i<b->bo (l.getD i default) v<0)(h2:∀i,b<=i->i<l.length->0<=bo (l.getD i default) v):
    pU 132 [ao l,aF v,.func 70 []] (.tup [.int .i64 b,.bool (decide (b<l.length)&&decide (bo (l.getD b default) v=0))]):=by
 refine pO NU ?_;simp only[N5,aL];have hl':l.length<=17592186044416:=hl;refine wnZ (zI3 @be @aX @ai) ?_;refine np (X:=Nat×Nat) (λx=>[(0,ao l),(1,aF v),(2,.func 70 []),(8,.int .i64 l.length),(9,.int .i64 x.1),(10,.int .i64 x.2)]) (λx=>x.1<=b/\b<=x.2/\x.2<=l.length) (λx=>x.2-x.1) (0,l.length) ⟨bQ _,hb,aM _⟩ ag0 ?_;rintro⟨i,j⟩ ⟨g1,g2,g3⟩;dsimp only at g1 g2 g3 |-;by_cases hij:i<j
 ·have hh:(i+j)/2<l.length:=by omega
  have hc:=gL (l.getD ((i+j)/2) default) v (hs _ (aA hh)) hv;have ix:=fQ hh;by_cases hn:bo (l.getD ((i+j)/2) default) v<0
  ·have hbb:(i+j)/2<b:=Nat.lt_of_not_le λh=>by have:=h2 _ h hh;omega
   refine wnZ (zI6 @be @aX @ai @fB @C6 @ix) ?_;exact⟨((i+j)/2+1,j),⟨by omega,by omega,by omega⟩,by dsimp only;omega,ag0,rfl,rfl⟩
  ·have hbb:b<=(i+j)/2:=Nat.le_of_not_lt λh=>hn (h1 _ h);refine wnZ (zI6 @be @aX @ai @fB @C6 @ix) ?_;exact⟨(i,(i+j)/2),⟨by omega,by omega,by omega⟩,by dsimp only;omega,ag0,rfl,rfl⟩
 ·have ei:i=b:=by omega
  have ej:j=b:=by omega
  clear hij g1 g2 g3;subst ei;by_cases hlt:i<l.length
  ·have hc:=gL (l.getD i default) v (hs _ (aA hlt)) hv;have ix:=fQ hlt;have dlt:decide ((i:Int)<(l.length:Int))=true:=a6 (by omega);have dij:decide ((i:Int)<(j:Int))=false:=ba (by omega);refine wnZ (zI6 @be @aX @ai @ix @dlt @dij) ?_;refine bA (ah (.int _ _) (ah (ct ?_) ap));rw[a6 hlt,Bool.true_and]
  ·have dlt:decide ((i:Int)<(l.length:Int))=false:=ba (by omega);have dij:decide ((i:Int)<(j:Int))=false:=ba (by omega);refine wnZ (zI5 @be @aX @ai @dlt @dij) ?_;refine bA (ah (.int _ _) (ah (ct ?_) ap));rw[ba hlt,Bool.false_and]
theorem qx(x:List Int)(n:Int)(hx:x.length<=1000000)(hr:∀v∈x,0<=v/\v<n)(ha:∀i,i+1<x.length->x.getD i default<x.getD (i+1) default):pU 114 [aH x,.int .i64 n] (.int .i64 0):=by
 refine pO Od ?_;simp only[NM,aL];refine wnZ and_self ?_;refine np (X:=Nat) (λk=>[(0,aH x),(1,.int .i64 n),(7,aH x),(8,.int .i64 x.length),(9,.int .i64 k)]) (λk=>k<=x.length) (λk=>x.length-k) 0 (bQ _) ag0 ?_;intro k hk;by_cases hk2:k<x.length
 rotate_left
 ·refine wnZ and_self ?_;exact .int _ _
 have h1:=hr _ (aK hk2);have z1:decide (x.getD k default<0)=false:=ba (by omega);have z2:decide (n<=x.getD k default)=false:=ba (by omega);by_cases hk0:0<k
 rotate_left
 ·have zk:decide (0<(k:Int))=false:=ba (by omega);refine wnZ (zI3 @z1 @z2 @zk) ?_;exact⟨k+1,by omega,by omega,ag0,rfl,rfl⟩
 have zk:decide (0<(k:Int))=true:=a6 (by omega);have h2:=ha (k-1) (by omega);rw[show k-1+1=k by omega] at h2
 have iy:eY 1 (aH x) (.int .i64 ((k:Int)-1))=some (.iptr [.int .i64 (x.getD (k-1) default)] 0):=by
  rw[nH,if_pos ⟨by omega,by omega⟩,show((k:Int)-1).toNat=k-1 by omega]
 have z3:decide (x.getD k default<=x.getD (k-1) default)=false:=ba (by omega);refine wnZ (zI5 @z1 @z2 @zk @iy @z3) ?_;exact⟨k+1,by omega,by omega,ag0,rfl,rfl⟩
def hU(c:Int)(R:List (List Int)):Prop:=0<=c/\c<=4096/\R.length<=4096/\∀r∈R,(∀v∈r,0<=v/\v<c)/\r.length<=4096/\∀i,i+1<r.length->r.getD i default<r.getD (i+1) default
theorem me(c:Int)(R:List (List Int))(h:hU c R):pU 113 [.agg [.int .i64 c,bK R]] (.int .i64 0):=by
 refine pO OH ?_;simp only[Mm,aL];obtain⟨h1,h2,h3,h4⟩:=h;have z1:decide (c<0)=false:=ba (by omega);have z2:decide (4096<c)=false:=ba (by omega);have z3:decide ((4096:Int)<R.length)=false:=ba (by omega);refine wnZ (zI3 @z1 @z2 @z3) ?_;refine np (X:=Nat) (λk=>[(1,.ptr 0 2 0),(21,bK R),(22,.int .i64 R.length),(23,.int .i64 k)]) (λk=>k<=R.length) (λk=>R.length-k) 0 (bQ _) (by(iterate 4 refine And.intro rfl ?_);trivial) ?_;intro k hk;by_cases hk2:k<R.length
 rotate_left
 ·refine wnZ and_self ?_;exact .int _ _
 obtain⟨r1,r2,r3⟩:=h4 _ (aK hk2);have hv:=qx (R.getD k default) c (by omega) r1 r3;have z0:decide ((0:Int)≠0)=false:=rfl;refine wnZ @z0 ?_;exact⟨k+1,by omega,by omega,ag0,rfl,rfl⟩
theorem wZ(a b:List Int)(ha:a.length<=1000000000000)(hb:b.length<=1000000000000):pU 124 [aH a,aH b] (aH (bV a b)):=by
 refine pO LX ?_;simp only[Nf,aL];refine wnZ and_self ?_;refine yW (k1:=.i64) (k2:=.i64) (n:=0) (m:=(a.length:Int)+b.length) rfl ev0 ev0 (Int.le_refl _) (by omega) (by omega) (by omega) ?_;rw[show((a.length:Int)+b.length).toNat=a.length+b.length by omega];have hz:(bH (AV.agg [AV.int .i64 0]) (a.length+b.length)).length=a.length+b.length:=by simp[bH,AV.cells]
 generalize hN:a.length+b.length=N at *;refine wnZ and_self ?_;refine bF (X:=List Int×List Int×List Int×Nat) (λx=>[(0,aH x.1),(1,aH x.2.1),(5,.msl 0 N 1 0 x.2.2.2)]) (λx H nx=>1<=nx/\x.2.2.1.length=x.2.2.2/\x.2.2.2+x.1.length+x.2.1.length<=N/\x.2.2.1++bV x.1 x.2.1=bV a b/\∃C,H 0=some C/\C.length=N/\C.take x.2.2.2=x.2.2.1.map (AV.int .i64)) (λx=>x.1.length+x.2.1.length) (a,b,[],0) ⟨aM _,rfl,by dsimp only;omega,rfl,_,af,hz,rfl⟩ (by refine⟨rfl,rfl,?_,trivial⟩;((try simp only[cf,ZA,reduceEqDiff,↓reduceIte,reduceAdd,reduceLeDiff]);(try with_reducible rfl));rfl) ?_;rintro⟨a',b',D,k⟩ H nx ⟨h1,h2,h3,h4,C,h5,h6,h7⟩;dsimp only at h1 h2 h3 h4 h7 |-;have hDl:(D.map (AV.int .i64)).length=k:=by rw[bm];exact h2
 have hfin:(a'=[]\/b'=[])->D++(a'++b')=bV a b:=λh=>by
  rcases h with rfl|rfl
  ·rw[kN] at h4;exact h4
  ·rw[gB] at h4;rw[fY];exact h4
 by_cases hne:a'=[]\/b'=[]
 ·have h4:=hfin hne;clear hfin
  have y1:decide ((0:Int)<a'.length)=false\/decide ((0:Int)<a'.length)=true/\decide ((0:Int)<b'.length)=false:=by
   rcases hne with rfl|rfl
   ·exact .inl rfl
   ·by_cases h:a'=[]
    ·subst h;exact .inl rfl
    ·exact .inr ⟨a6 (by have:=gY.2 h;omega),rfl⟩
  rcases y1 with y1|⟨y1,y2⟩
  ·refine wnY @y1 ?_;refine qN (b:=0) (N:=N) (len:=k) (n:=a'.length) (new:=a'.map (AV.int .i64)) rfl ev0 h5 h6 h7 hDl ev0 gN iV (by rw[bm]) (by omega) (by omega) (by omega) λC2 c1 c2=>?_;refine wnY and_self ?_;refine qN (b:=0) (N:=N) (len:=k+a'.length) (n:=b'.length) (new:=b'.map (AV.int .i64)) rfl ev0 af c1 c2 (by rw[cP,hDl,bm]) ev0 gN iV (by rw[bm]) (by omega) (by omega) (by omega) λC3 c3 c4=>?_;refine wnY and_self ?_;rw[<-h4];exact wY af c3 (by omega) (by simp only[cP];omega) (by rw[<-qt,c4,dq,dq,i9])
  ·refine wnY (aI @y1 @y2) ?_;refine qN (b:=0) (N:=N) (len:=k) (n:=a'.length) (new:=a'.map (AV.int .i64)) rfl ev0 h5 h6 h7 hDl ev0 gN iV (by rw[bm]) (by omega) (by omega) (by omega) λC2 c1 c2=>?_;refine wnY and_self ?_;refine qN (b:=0) (N:=N) (len:=k+a'.length) (n:=b'.length) (new:=b'.map (AV.int .i64)) rfl ev0 af c1 c2 (by rw[cP,hDl,bm]) ev0 gN iV (by rw[bm]) (by omega) (by omega) (by omega) λC3 c3 c4=>?_;refine wnY and_self ?_;rw[<-h4];exact wY af c3 (by omega) (by simp only[cP];omega) (by rw[<-qt,c4,dq,dq,i9])
 have ha0:a'≠[]:=λh=>hne (.inl h);have hb0:b'≠[]:=λh=>hne (.inr h);clear hfin hne;obtain⟨x,a2,rfl⟩:=List.exists_cons_of_ne_nil ha0;obtain⟨y,b2,rfl⟩:=List.exists_cons_of_ne_nil hb0;rw[pi] at h4;have la:(x::a2).length=a2.length+1:=rfl;have lb:(y::b2).length=b2.length+1:=rfl;have i1:=JN (x:=x) (l:=a2);have i2:=JN (x:=y) (l:=b2);have s1:=Co (x:=x) (l:=a2);have s2:=Co (x:=y) (l:=b2);generalize hA:x::a2=A at *;generalize hB:y::b2=B at *;have y1:decide ((0:Int)<A.length)=true:=a6 (by omega);have y2:decide ((0:Int)<B.length)=true:=a6 (by omega);by_cases g1:x<y
 ·rw[if_pos g1] at h4;have z1:decide (x<y)=true:=a6 g1;refine wnY (zI5 @i1 @i2 @y1 @y2 @z1) ?_;refine qN (b:=0) (N:=N) (len:=k) (n:=1) (new:=[.int .i64 x]) rfl ev0 (by rw[ae (by omega)];exact h5) h6 h7 hDl ev0 iJ rfl rfl (by omega) (by omega) (by omega) λC2 c1 c2=>?_;refine wnY @s1 ?_;exact⟨(a2,B,D++[x],k+1),by dsimp only;omega,⟨by omega,by simp[h2],by dsimp only;omega,by simpa using h4,C2,af,c1,by rw[c2,dq];rfl⟩,ag0⟩
 rw[if_neg g1] at h4;have z1:decide (x<y)=false:=ba g1;by_cases g2:y<x
 ·rw[if_pos g2] at h4;have z2:decide (y<x)=true:=a6 g2;refine wnY (zI6 @i1 @i2 @y1 @y2 @z1 @z2) ?_;refine qN (b:=0) (N:=N) (len:=k) (n:=1) (new:=[.int .i64 y]) rfl ev0 (by rw[ae (by omega)];exact h5) h6 h7 hDl ev0 iJ rfl rfl (by omega) (by omega) (by omega) λC2 c1 c2=>?_;refine wnY @s2 ?_;exact⟨(A,b2,D++[y],k+1),by dsimp only;omega,⟨by omega,by simp[h2],by dsimp only;omega,by simpa using h4,C2,af,c1,by rw[c2,dq];rfl⟩,ag0⟩
 rw[if_neg g2] at h4;have z2:decide (y<x)=false:=ba g2;refine wnY (zI8 @i1 @i2 @s1 @s2 @y1 @y2 @z1 @z2) ?_;exact⟨(a2,b2,D,k),by dsimp only;omega,⟨by omega,h2,by dsimp only;omega,h4,C,h5,h6,h7⟩,ag0⟩
end
end Go.Proofs.YtekdaafnjdlenaaGreat
