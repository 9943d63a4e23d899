/- Contracts of functions and plain laws, for all inputs that the theorems name. -/
import Derived.Test.YtekdaafnjdlenaaGreatXG3

set_option linter.unusedSimpArgs false
set_option linter.unusedVariables false
set_option maxHeartbeats 4000000
namespace Go.Proofs.YtekdaafnjdlenaaGreat
open Go Go.Abs
open Nat (reduceEqDiff reduceAdd reduceLeDiff)
theorem yg{α:Type}[Inhabited α]{l:List α}{p:α->Bool}{k:Nat}(hk:k<l.length)(h:∀i,i<k->p (l.getD i default)=false)(hv:p (l.getD k default)=true):l.any p=true/\l.findIdx p=k:=by
 have e:l.getD k default=l[k]:=by simp[List.getD,hk]
 refine⟨qx.2 ⟨l[k],nC hk,by rw[<-e];exact hv⟩,(List.findIdx_eq hk).2 ⟨by rw[<-e];exact hv,λj hj=>by have:=h j hj;rwa [show l.getD j default=l[j] by simp[List.getD,show j<l.length by omega]] at this⟩⟩
theorem CB{l:Spx}{j:Nat}(h:j<l.length):(l.drop j).getD 0 default=l.getD j default:=by simp[List.getD,nB]
theorem AF{l:Spx}{v:Vtx}(h:∀i,i<l.length->l.getD i default≠v):v∉l:=λhm=>by
 obtain⟨i,hi,e⟩:=jK hm;exact h i hi (by simp[List.getD,hi,e])
theorem ay{α:Type}[Inhabited α]{l:List α}{i:Nat}(h:i<l.length):l.getD i default∈l:=bk h
structure Cmp{α:Type}(P:Program)(f:α->AV)(K:α->α->Int)(G:α->Prop)(g:Nat)(caps:List AV):Prop where
 cells:∀x,(f x).cells=[f x]
 one:∀x,(f x).one=true
 dat:∀x,Dat (f x)
 dcaps:∀x∈caps,Dat x
 run:∀x y,G x->G y->Go.Abs.Pure P g (f x::f y::caps) (.int .i64 (K x y))
 ord:Ord K
theorem jm{α:Type}{f:α->AV}{l:List α}{k:Nat}{x:α}(h:k<l.length):bD (l.map f) k [f x]=(l.set k x).map f:=by
 simp only[bD,List.map_set,bK,fo,cp];rw[HQ,if_pos (by simpa using h)];simp
theorem bd(H:Hp)(b:Nat)(x y:List AV):ar (ar H b x) b y=ar H b y:=by
 funext i;unfold ar;split<;>rfl
theorem lD{H:Hp}{b:Nat}{cs:List AV}(h:H b=some cs):H=ar H b cs:=by
 funext i
 by_cases e:i=b
 ·subst e;rw[ah,h]
 ·rw[ac e]
def gm{α:Type}[Inhabited α](K:α->α->Int)(a i j:Nat)(M:List α):Prop:=∀p q,a<=p->p<q->q<=i->q≠j->¬K (M.getD q default) (M.getD p default)<0
section
variable{α:Type}[Inhabited α]{f:α->AV}{K:α->α->Int}{G:α->Prop}{g:Nat}{caps:List AV}
theorem gm.start{a i:Nat}{M:List α}(h:bu K a i M):gm K a i i M:=λp q h1 h2 h3 h4=>h p q h1 h2 (by omega)
theorem gm.done{a i j:Nat}{M:List α}(hK:Ord K)(h:gm K a i j M)(hj:j=a\/(a<j/\¬K (M.getD j default) (M.getD (j-1) default)<0)):bu K a (i+1) M:=by
 intro p q h1 h2 h3;by_cases e:q=j
 ·subst e;rcases hj with hj|⟨hj,hk⟩
  ·omega
  ·by_cases e2:p=q-1
   ·rw[e2];exact hk
   ·exact hK.negtr _ _ _ (h p (q-1) h1 (by omega) (by omega) (by omega)) hk
 ·exact h p q h1 h2 (by omega) e
theorem gm.step{a i j:Nat}{M:List α}(hK:Ord K)(h:gm K a i (j+1) M)(haj:a<=j)(hji:j+1<=i)(hi:i<M.length)(hk:K (M.getD (j+1) default) (M.getD j default)<0):gm K a i j (swp M (j+1) j):=by
 intro p q h1 h2 h3 h4;rw[fj (by omega) (by omega),fj (by omega) (by omega)];rw[if_neg h4];by_cases e1:q=j+1
 ·rw[if_pos e1];by_cases e2:p=j
  ·rw[if_pos e2];exact hK.asym _ _ hk
  ·rw[if_neg e2,if_neg (by omega)];exact h p j h1 (by omega) (by omega) (by omega)
 ·rw[if_neg e1];by_cases e2:p=j
  ·rw[if_pos e2];exact h (j+1) q (by omega) (by omega) h3 e1
  ·rw[if_neg e2];by_cases e3:p=j+1
   ·rw[if_pos e3];exact h j q (by omega) (by omega) h3 e1
   ·rw[if_neg e3];exact h p q h1 h2 h3 e1
theorem bu.mono{a b a' b':Nat}{M:List α}(h:bu K a b M)(h1:a<=a')(h2:b'<=b):bu K a' b' M:=λp q k1 k2 k3=>h p q (by omega) k2 (by omega)
theorem PermR.mem{a b:Nat}{L M:List α}(h:PermR a b L M)(hG:∀x∈L,G x):∀x∈M,G x:=λx hx=>hG x (h.perm.mem_iff.1 hx)
attribute [local irreducible] aK ak bg a6 aQ aS aE aU a8 bn Go.Abs.Fn a5 Go.Abs.Pure au aM Yl
theorem LH(hc:Cmp Tryz.prog f K G g caps){L:List α}{H:Hp}{b nx n a e:Nat}(hH:H b=some (L.map f))(hn:L.length=n)(hG:∀x∈L,G x)(hae:a<=e)(hen:e<=n)(hn2:n<=1000000000):
    Abs.Fn Tryz.prog 166 [.msl b n 1 0 n,.int .i64 a,.int .i64 e,.func g caps] H nx λr H' nx'=>nx'=nx/\∃L',H'=ar H b (L'.map f)/\PermR a e L L'/\bu K a e L':=by
 refine fO H9 ?_;simp only[IH,aH];refine wnZ and_self ?_;refine bN (X:=Nat×List α) (λx=>[(0,.msl b n 1 0 n),(1,.int .i64 a),(2,.int .i64 e),(3,.func g caps),(8,.int .i64 (x.1:Nat))]) (λx H' nx'=>a+1<=x.1/\(x.1<=e\/x.1=a+1)/\H'=ar H b (x.2.map f)/\nx'=nx/\PermR a e L x.2/\bu K a x.1 x.2) (λx=>e+1-x.1) (a+1,L) ⟨aR _,.inr rfl,lD hH,rfl,.refl,bu.one (aR _)⟩ ag0 ?_;rintro⟨i,M0⟩ H' nx' ⟨h1,h2,rfl,rfl,hp0,hs0⟩;dsimp only at *;have hl0:M0.length=n:=by rw[hp0.len,hn]
 by_cases hi:i<e
 rotate_left
 ·refine wnZ and_self ?_;exact⟨rfl,M0,rfl,hp0,hs0.mono (aR _) (by omega)⟩
 refine wnZ and_self ?_;refine bN (X:=Nat×List α) (λx=>[(0,.msl b n 1 0 n),(1,.int .i64 a),(2,.int .i64 e),(3,.func g caps),(8,.int .i64 (i:Nat)),(9,.int .i64 (x.1:Nat))]) (λx H' nxx=>a<=x.1/\x.1<=i/\H'=ar H b (x.2.map f)/\nxx=nx'/\PermR a e L x.2/\gm K a i x.1 x.2) (λx=>x.1) (i,M0) ⟨by omega,aR _,rfl,rfl,hp0,.start hs0⟩ ag0 ?_;clear hp0 hs0 hl0;rintro⟨j,M⟩ H' nxx ⟨a1,a2,rfl,rfl,hp,hal⟩;dsimp only at *;have hl:M.length=n:=by rw[hp.len,hn]
 have hGM:=hp.mem hG;by_cases hja:j=a
 ·subst hja;refine wkZ and_self ?_;exact⟨(i+1,M),by dsimp only;omega,⟨by dsimp only;omega,.inl (by dsimp only;omega),rfl,rfl,hp,hal.done hc.ord (.inl rfl)⟩,ag0⟩
 ·obtain⟨k,rfl⟩:∃k,j=k+1:=⟨j-1,by omega⟩
  have tj:((k+1:Nat):Int)-1=(k:Int):=by omega
  have lc:=hc.run (M.getD (k+1) default) (M.getD k default) (hGM _ (bk (by omega))) (hGM _ (bk (by omega)));have d1:=hc.dat (M.getD (k+1) default);have d2:=hc.dat (M.getD k default);have dcap:=hc.dcaps;generalize hKK:K (M.getD (k+1) default) (M.getD k default)=kk at lc;by_cases hlt:kk<0
  ·obtain⟨M1,hl1,lm1,lm2⟩:∃M1:List α,M1.length=n/\bD (M.map f) (k+1) [f (M.getD k default)]=M1.map f/\bD (M1.map f) k [f (M.getD (k+1) default)]=(swp M (k+1) k).map f:=
     ⟨M.set (k+1) (M.getD k default),by simp[hl],jm (by omega),by rw[jm (by simp;omega)];rfl⟩
   have lm3:=lm2;simp only[bD,bK,fo,cp] at lm1 lm2;have zz:=aI @tj (aI @cz (aI @lm1 (aI @lm2 (aI hc.cells hc.one))));repeat' (first|refine zW ?_|refine zM ?_|apply a_n|refine zO ?_|refine vZ ?_|refine cZ ?_ (hp:=lc) (hs:=by(first|refine aF ?_ rfl|apply aW);(repeat' (first|exact aj|apply bo|apply aX|exact d1|exact d2|exact bl dcap));first|done|fail)|refine stZ ?_|refine gTZ ?_|(refine zGZ ?_ ?_<;>(intro _hg;try (exfalso;omega)))|fail)
   refine⟨(k,swp M (k+1) k),by dsimp only;omega,⟨by dsimp only;omega,by dsimp only;omega,?_,rfl,hp.trans (PermR.swap (by omega) (by omega) (by omega)),hal.step hc.ord (by omega) (by omega) (by omega) (by rw[hKK];exact hlt)⟩,(have zz:=@tj;agZ)⟩;dsimp only;rw[bd,bd,lm3]
  ·have zz:=aI @tj (aI @cz (aI hc.cells hc.one));repeat' (first|refine zW ?_|refine zM ?_|apply a_n|apply a_x|refine zO ?_|refine vZ ?_|refine cZ ?_ (hp:=lc) (hs:=by(first|refine aF ?_ rfl|apply aW);(repeat' (first|exact aj|apply bo|apply aX|exact d1|exact d2|exact bl dcap));first|done|fail)|refine gTZ ?_|(refine zGZ ?_ ?_<;>(intro _hg;try (exfalso;omega)))|fail)
   exact⟨(i+1,M),by dsimp only;omega,⟨by dsimp only;omega,.inl (by dsimp only;omega),rfl,rfl,hp,hal.done hc.ord (.inr ⟨by omega,by rw[rF,hKK];exact hlt⟩)⟩,ag0⟩
end
def Kid(p c:Nat):Prop:=c=2*p+1\/c=2*p+2
def iY{α:Type}[Inhabited α](K:α->α->Int)(a hi r:Nat)(M:List α):Prop:=∀p c,r<=p->Kid p c->c<hi->¬K (M.getD (a+p) default) (M.getD (a+c) default)<0
structure SiftR{α:Type}[Inhabited α](K:α->α->Int)(a hi lo root:Nat)(M:List α):Prop where
 le:lo<=root
 heap:∀p c,lo<=p->p≠root->Kid p c->c<hi->¬K (M.getD (a+p) default) (M.getD (a+c) default)<0
 up:∀q c,lo<=q->Kid q root->Kid root c->c<hi->¬K (M.getD (a+q) default) (M.getD (a+c) default)<0
section
variable{α:Type}[Inhabited α]{f:α->AV}{K:α->α->Int}{G:α->Prop}{g:Nat}{caps:List AV}
theorem SiftR.start{a hi lo:Nat}{M:List α}(h:iY K a hi (lo+1) M):SiftR K a hi lo lo M:=
 ⟨aR _,λp c h1 h2=>h p c (by omega),λq c h1 h2=>by unfold Kid at h2;omega⟩
theorem SiftR.leaf{a hi lo root:Nat}{M:List α}(h:SiftR K a hi lo root M)(hr:hi<=2*root+1):iY K a hi lo M:=λp c h1 h2 h3=>by
 by_cases e:p=root
 ·subst e;unfold Kid at h2;omega
 ·exact h.heap p c h1 e h2 h3
theorem SiftR.stop{a hi lo root c:Nat}{M:List α}(hK:Ord K)(h:SiftR K a hi lo root M)(hb:∀d,Kid root d->d<hi->¬K (M.getD (a+c) default) (M.getD (a+d) default)<0)(hn:¬K (M.getD (a+root) default) (M.getD (a+c) default)<0):iY K a hi lo M:=λp d h1 h2 h3=>by
 by_cases e:p=root
 ·subst e;exact hK.negtr _ _ _ (hb d h2 h3) hn
 ·exact h.heap p d h1 e h2 h3
theorem SiftR.step{a hi lo root c:Nat}{M:List α}(hK:Ord K)(h:SiftR K a hi lo root M)(hkid:Kid root c)(hc:c<hi)(hM:a+hi<=M.length)(hb:∀d,Kid root d->d<hi->¬K (M.getD (a+c) default) (M.getD (a+d) default)<0)(hn:K (M.getD (a+root) default) (M.getD (a+c) default)<0):SiftR K a hi lo c (swp M (a+root) (a+c)):=by
 have hrc:root<c:=by unfold Kid at hkid;omega
 have hg:∀k,(swp M (a+root) (a+c)).getD (a+k) default=if k=c then M.getD (a+root) default else if k=root then M.getD (a+c) default else M.getD (a+k) default:=λk=>by
  rw[fj (by omega) (by omega)];by_cases e:k=c
  ·rw[if_pos (by omega),if_pos e]
  ·rw[if_neg (by omega),if_neg e];by_cases e2:k=root
   ·rw[if_pos (by omega),if_pos e2]
   ·rw[if_neg (by omega),if_neg e2]
 refine⟨by have:=h.le;omega,λp d h1 h2 h3 h4=>?_,λq d h1 h2 h3 h4=>?_⟩
 ·rw[hg,hg,if_neg h2];by_cases e1:p=root
  ·rw[if_pos e1];subst e1;by_cases e2:d=c
   ·rw[if_pos e2];exact hK.asym _ _ hn
   ·rw[if_neg e2,if_neg (by unfold Kid at h3;omega)];exact hb d h3 h4
  ·rw[if_neg e1];have hdc:d≠c:=λe=>by subst e;unfold Kid at h3 hkid;omega
   rw[if_neg hdc];by_cases e2:d=root
   ·rw[if_pos e2];subst e2;exact h.up p c h1 h3 hkid hc
   ·rw[if_neg e2];exact h.heap p d h1 e1 h3 h4
 ·have eq:q=root:=by unfold Kid at h2 hkid;omega
  subst eq;rw[hg,hg,if_neg (by omega),if_pos rfl,if_neg (by unfold Kid at h3;omega),if_neg (by unfold Kid at h3;omega)];exact h.heap c d (by omega) (by omega) h3 h4
theorem d7{M:List α}{i j:Nat}(hi:i<M.length)(hj:j<M.length):∃M1:List α,M1.length=M.length/\bD (M.map f) i [f (M.getD j default)]=M1.map f/\bD (M1.map f) j [f (M.getD i default)]=(swp M i j).map f:=
 ⟨M.set i (M.getD j default),by simp,jm hi,by rw[jm (by simpa using hj)];rfl⟩
theorem gY{a c:Nat}:((a:Int)+(c:Int)).toNat=a+c:=by omega
theorem qI{a c:Nat}:((a:Int)+(c:Int)+1).toNat=a+(c+1):=by omega
attribute [local irreducible] aK ak bg a6 aQ aS aE aU a8 bn Go.Abs.Fn a5 Go.Abs.Pure au aM Yl
theorem F8(hc:Cmp Tryz.prog f K G g caps){L:List α}{H:Hp}{b nx n a lo hi:Nat}(hH:H b=some (L.map f))(hn:L.length=n)(hG:∀x∈L,G x)(hhi:a+hi<=n)(hn2:n<=1000000000)(hlo:lo<=n)(hheap:iY K a hi (lo+1) L):
    Abs.Fn Tryz.prog 197 [.msl b n 1 0 n,.int .i64 lo,.int .i64 hi,.int .i64 a,.func g caps] H nx λr H' nx'=>nx'=nx/\∃L',H'=ar H b (L'.map f)/\PermR a (a+hi) L L'/\iY K a hi lo L':=by
 refine fO KI ?_;simp only[Kj,aH];refine wnZ and_self ?_;refine bN (X:=Nat×List α) (λx=>[(0,.msl b n 1 0 n),(2,.int .i64 hi),(3,.int .i64 a),(4,.func g caps),(10,.int .i64 (x.1:Nat))]) (λx H' nx'=>x.1<=n/\H'=ar H b (x.2.map f)/\nx'=nx/\PermR a (a+hi) L x.2/\SiftR K a hi lo x.1 x.2) (λx=>n+1-x.1) (lo,L) ⟨hlo,lD hH,rfl,.refl,.start hheap⟩ ag0 ?_;rintro⟨root,M⟩ H' nx' ⟨h0,rfl,rfl,hp,hs⟩;dsimp only at *;have hl:M.length=n:=by rw[hp.len,hn]
 have hGM:=hp.mem hG;by_cases hch:2*root+1<hi
 rotate_left
 ·refine wnZ and_self ?_;exact⟨rfl,M,rfl,hp,hs.leaf (by omega)⟩
 have dcap:=hc.dcaps;have tch:(2:Int)*(root:Int)+1=((2*root+1:Nat):Int):=by omega
 have tch2:((2*root+1:Nat):Int)+1=((2*root+1+1:Nat):Int):=by omega
 have w1:IntKind.wrap .i64 (2*(root:Int))=2*(root:Int):=xw (by omega) (by omega)
 obtain⟨c,hkid,hchi,hbest,hsel⟩:∃c,Kid root c/\c<hi/\(∀d,Kid root d->d<hi->¬K (M.getD (a+c) default) (M.getD (a+d) default)<0)/\((c=2*root+1+1/\K (M.getD (a+(2*root+1)) default) (M.getD (a+(2*root+1+1)) default)<0)\/(c=2*root+1/\(2*root+1+1<hi->¬K (M.getD (a+(2*root+1)) default) (M.getD (a+(2*root+1+1)) default)<0))):=by
  by_cases h2:2*root+1+1<hi/\K (M.getD (a+(2*root+1)) default) (M.getD (a+(2*root+1+1)) default)<0
  ·refine⟨2*root+1+1,.inr rfl,h2.1,λd hd hd2=>?_,.inl ⟨rfl,h2.2⟩⟩;rcases hd with rfl|rfl
   ·exact hc.ord.asym _ _ h2.2
   ·exact hc.ord.irr _
  ·refine⟨2*root+1,.inl rfl,hch,λd hd hd2=>?_,.inr ⟨rfl,λh h3=>h2 ⟨h,h3⟩⟩⟩;rcases hd with rfl|rfl
   ·exact hc.ord.irr _
   ·exact λh3=>h2 ⟨hd2,h3⟩
 have lc2:=hc.run (M.getD (a+root) default) (M.getD (a+c) default) (hGM _ (bk (by omega))) (hGM _ (bk (by omega)));have e1:=hc.dat (M.getD (a+root) default);have e2:=hc.dat (M.getD (a+c) default);generalize hK2:K (M.getD (a+root) default) (M.getD (a+c) default)=k2 at lc2;refine lq ?_;refine cr (λT H'' nx''=>T 0=.msl b n 1 0 n/\T 2=.int .i64 hi/\T 3=.int .i64 a/\T 4=.func g caps/\T 10=.int .i64 (root:Nat)/\T 11=.int .i64 ((2*root+1:Nat):Int)/\H''=ar H b (M.map f)/\nx'=nx'') ?_ ?_
 ·refine wnZ (aI @w1 @tch) ?_;exact⟨rfl,rfl,rfl,rfl,rfl,rfl,rfl,rfl⟩
 rintro T _ _ ⟨t0,t2,t3,t4,t10,t11,rfl,rfl⟩;refine cr (λT H'' nx''=>T 0=.msl b n 1 0 n/\T 2=.int .i64 hi/\T 3=.int .i64 a/\T 4=.func g caps/\T 10=.int .i64 (root:Nat)/\T 11=.int .i64 ((2*root+1:Nat):Int)/\H''=ar H b (M.map f)/\nx'=nx'') ?_ ?_
 ·refine wnZ (zI6 @t0 @t2 @t3 @t4 @t10 @t11) ?_
  all_goals exact⟨(have zz:=@t0;evZ),(have zz:=@t2;evZ),(have zz:=@t3;evZ),(have zz:=@t4;evZ),(have zz:=@t10;evZ),(have zz:=@t11;evZ),rfl,rfl⟩
 clear t0 t2 t3 t4 t10 t11;rintro T _ _ ⟨t0,t2,t3,t4,t10,t11,rfl,rfl⟩;refine cr (λT H'' nx''=>T 0=.msl b n 1 0 n/\T 2=.int .i64 hi/\T 3=.int .i64 a/\T 4=.func g caps/\T 10=.int .i64 (root:Nat)/\T 11=.int .i64 (c:Nat)/\H''=ar H b (M.map f)/\nx'=nx'') ?_ ?_
 ·by_cases h2:2*root+1+1<hi
  ·have lc1:=hc.run (M.getD (a+(2*root+1)) default) (M.getD (a+(2*root+1+1)) default) (hGM _ (bk (by omega))) (hGM _ (bk (by omega)));have e3:=hc.dat (M.getD (a+(2*root+1)) default);have e4:=hc.dat (M.getD (a+(2*root+1+1)) default);generalize hK1:K (M.getD (a+(2*root+1)) default) (M.getD (a+(2*root+1+1)) default)=k1 at lc1 hsel;have hlt:decide (((2*root+1+1:Nat):Int)<(hi:Int))=true:=aL (by omega);generalize 2*root+1=ch at *;rcases hsel with⟨rfl,hk1⟩|⟨rfl,hk1⟩
   ·have zz:=aI @t0 (aI @t2 (aI @t3 (aI @t4 (aI @t10 (aI @t11 (aI @tch2 (aI @hlt (aI @gY (aI @qI (aI hc.cells hc.one))))))))));repeat' (first|refine zW ?_|refine zM ?_|apply a_n|refine zO ?_|refine vZ ?_|refine cZ ?_ (hp:=lc1) (hs:=by(first|refine aF ?_ rfl|apply aW);(repeat' (first|exact aj|apply bo|apply aX|exact e3|exact e4|exact bl dcap));first|done|fail)|refine gTZ ?_|(refine zGZ ?_ ?_<;>(intro _hg;try (exfalso;omega)))|fail)
    all_goals exact⟨(have zz:=@t0;evZ),(have zz:=@t2;evZ),(have zz:=@t3;evZ),(have zz:=@t4;evZ),(have zz:=@t10;evZ),(have zz:=@t11;evZ),rfl,rfl⟩
   ·have hk1:=hk1 h2;have zz:=aI @t0 (aI @t2 (aI @t3 (aI @t4 (aI @t10 (aI @t11 (aI @tch2 (aI @hlt (aI @gY (aI @qI (aI hc.cells hc.one))))))))));repeat' (first|refine zW ?_|refine zM ?_|apply a_n|refine zO ?_|refine vZ ?_|refine cZ ?_ (hp:=lc1) (hs:=by(first|refine aF ?_ rfl|apply aW);(repeat' (first|exact aj|apply bo|apply aX|exact e3|exact e4|exact bl dcap));first|done|fail)|refine gTZ ?_|(refine zGZ ?_ ?_<;>(intro _hg;try (exfalso;omega)))|fail)
    all_goals exact⟨(have zz:=@t0;evZ),(have zz:=@t2;evZ),(have zz:=@t3;evZ),(have zz:=@t4;evZ),(have zz:=@t10;evZ),(have zz:=@t11;evZ),rfl,rfl⟩
  ·have hlt:decide (((2*root+1+1:Nat):Int)<(hi:Int))=false:=aO (by omega)
   have hcc:c=2*root+1:=by
    rcases hsel with⟨rfl,_⟩|⟨rfl,_⟩
    ·omega
    ·rfl
   subst hcc;refine wkZ (zI8 @t0 @t2 @t3 @t4 @t10 @t11 @tch2 @hlt) ?_
   all_goals exact⟨(have zz:=@t0;evZ),(have zz:=@t2;evZ),(have zz:=@t3;evZ),(have zz:=@t4;evZ),(have zz:=@t10;evZ),(have zz:=@t11;evZ),rfl,rfl⟩
 clear t0 t2 t3 t4 t10 t11 hsel;rintro T _ _ ⟨t0,t2,t3,t4,t10,t11,rfl,rfl⟩;by_cases hk2:k2<0
 ·obtain⟨M1,hl1,lm1,lm2⟩:=d7 (f:=f) (M:=M) (i:=a+root) (j:=a+c) (by omega) (by omega);have lm3:=lm2;simp only[bD,bK,fo,cp] at lm1 lm2;have zz:=aI @t0 (aI @t2 (aI @t3 (aI @t4 (aI @t10 (aI @t11 (aI @gY (aI @lm1 (aI @lm2 (aI hc.cells hc.one)))))))));repeat' (first|refine zW ?_|refine zM ?_|apply a_n|refine zO ?_|refine vZ ?_|refine cZ ?_ (hp:=lc2) (hs:=by(first|refine aF ?_ rfl|apply aW);(repeat' (first|exact aj|apply bo|apply aX|exact e1|exact e2|exact bl dcap));first|done|fail)|refine stZ ?_|(refine zGZ ?_ ?_<;>(intro _hg;try (exfalso;omega)))|fail)
  have hrc:root<c:=by unfold Kid at hkid;omega
  have hcn:c<n:=by omega
  refine⟨(c,swp M (a+root) (a+c)),by dsimp only;omega,⟨by dsimp only;omega,?_,rfl,hp.trans (PermR.swap (by omega) (by omega) (by omega)),hs.step hc.ord hkid hchi (by omega) hbest (by rw[hK2];exact hk2)⟩,(have zz:=aI @t0 (aI @t2 (aI @t3 @t4));agZ)⟩;dsimp only;rw[bd,bd,lm3]
 ·have zz:=aI @t0 (aI @t2 (aI @t3 (aI @t4 (aI @t10 (aI @t11 (aI @gY (aI hc.cells hc.one)))))));repeat' (first|refine zW ?_|refine zM ?_|apply a_n|apply a_r|refine zO ?_|refine vZ ?_|refine cZ ?_ (hp:=lc2) (hs:=by(first|refine aF ?_ rfl|apply aW);(repeat' (first|exact aj|apply bo|apply aX|exact e1|exact e2|exact bl dcap));first|done|fail)|(refine zGZ ?_ ?_<;>(intro _hg;try (exfalso;omega)))|refine bS rfl ?_|fail)
  exact⟨rfl,M,rfl,hp,hs.stop hc.ord hbest (by rw[hK2];exact hk2)⟩
end
section
variable{α:Type}[Inhabited α]{f:α->AV}{K:α->α->Int}{G:α->Prop}{g:Nat}{caps:List AV}
theorem iY.top{a hi:Nat}{M:List α}(hK:Ord K)(h:iY K a hi 0 M):∀p,p<hi->¬K (M.getD a default) (M.getD (a+p) default)<0:=by
 intro p
 induction p using Nat.strongRecOn with
 |ind p ih=>
  intro hp;by_cases e:p=0
  ·subst e;exact hK.irr _
  ·have k:Kid ((p-1)/2) p:=by unfold Kid;omega
   exact hK.negtr _ _ _ (h _ p (bw _) k hp) (ih ((p-1)/2) (by omega) (by omega))
structure TailR{α:Type}[Inhabited α](K:α->α->Int)(a e k:Nat)(M:List α):Prop where
 sort:bu K k e M
 ge:∀p q,a<=p->p<k->k<=q->q<e->¬K (M.getD q default) (M.getD p default)<0
theorem TailR.step{a e k:Nat}{M N:List α}(hK:Ord K)(ht:TailR K a e (a+(k+1)) M)(hh:iY K a (k+1) 0 M)(he:a+(k+1)<=e)(hM:e<=M.length)(hp:PermR a (a+k) (swp M a (a+k)) N):TailR K a e (a+k) N:=by
 have hg:∀j,(swp M a (a+k)).getD j default=if j=a+k then M.getD a default else if j=a then M.getD (a+k) default else M.getD j default:=λj=>fj (by omega) (by omega) j
 have hmax:=hh.top hK
 have lo:∀q,a+k<=q->q<e->∀p,a<=p->p<a+k->¬K (N.getD q default) (N.getD p default)<0:=by
  intro q h1 h2;rw[hp.out q (.inr h1),hg];have hl:(swp M a (a+k)).length=M.length:=B5 _ _;refine hp.all (p:=λx=>¬K (if q=a+k then M.getD a default else if q=a then M.getD (a+k) default else M.getD q default) x<0) (by omega) (by omega) ?_;intro p k1 k2;rw[hg,if_neg (by omega:¬p=a+k)];by_cases e1:q=a+k
  ·rw[if_pos e1];by_cases e2:p=a
   ·rw[if_pos e2];exact hmax k (by omega)
   ·rw[if_neg e2];have:=hmax (p-a) (by omega);rw[show a+(p-a)=p by omega] at this;exact this
  ·rw[if_neg e1,if_neg (by omega:¬q=a)];by_cases e2:p=a
   ·rw[if_pos e2];exact ht.ge (a+k) q (by omega) (by omega) (by omega) h2
   ·rw[if_neg e2];exact ht.ge p q k1 (by omega) (by omega) h2
 refine⟨λp q h1 h2 h3=>?_,λp q h1 h2 h3 h4=>lo q h3 h4 p h1 h2⟩;rw[hp.out p (.inr h1),hp.out q (.inr (by omega)),hg,hg,if_neg (by omega:¬q=a+k),if_neg (by omega:¬q=a)];by_cases e1:p=a+k
 ·rw[if_pos e1];exact ht.ge a q (aR _) (by omega) (by omega) h3
 ·rw[if_neg e1,if_neg (by omega:¬p=a)];exact ht.sort p q (by omega) h2 h3
theorem iY.swapTop{a k:Nat}{M:List α}(h:iY K a (k+1) 0 M)(hM:a+(k+1)<=M.length):iY K a k 1 (swp M a (a+k)):=by
 intro p c h1 h2 h3;have hg:∀j,(swp M a (a+k)).getD j default=if j=a+k then M.getD a default else if j=a then M.getD (a+k) default else M.getD j default:=λj=>fj (by omega) (by omega) j
 have:p<c:=by unfold Kid at h2;omega
 rw[hg,hg,if_neg (by omega),if_neg (by omega),if_neg (by omega),if_neg (by omega)];exact h p c (bw _) h2 (by omega)
theorem TailR.start{a e:Nat}{M:List α}:TailR K a e e M:=⟨λp q h1 h2 h3=>by omega,λp q h1 h2 h3 h4=>by omega⟩
theorem TailR.done{a e:Nat}{M:List α}(h:TailR K a e a M):bu K a e M:=h.sort
theorem iY.start{a hi r:Nat}{M:List α}(hr:hi<=2*r+1):iY K a hi r M:=λp c h1 h2 h3=>by unfold Kid at h2;omega
attribute [local irreducible] aK ak bg a6 aQ aS aE aU a8 bn Go.Abs.Fn a5 Go.Abs.Pure au aM Yl
theorem I0(hc:Cmp Tryz.prog f K G g caps){L:List α}{H:Hp}{b nx n a e:Nat}(hH:H b=some (L.map f))(hn:L.length=n)(hG:∀x∈L,G x)(hae:a<=e)(hen:e<=n)(hn2:n<=1000000000):
    Abs.Fn Tryz.prog 167 [.msl b n 1 0 n,.int .i64 a,.int .i64 e,.func g caps] H nx λr H' nx'=>nx'=nx/\∃L',H'=ar H b (L'.map f)/\PermR a e L L'/\bu K a e L':=by
 obtain⟨h,rfl⟩:∃h,e=a+h:=⟨e-a,by omega⟩
 refine fO Lk ?_;simp only[Kf,aH];have dcap:=hc.dcaps;have te:((a+h:Nat):Int)-(a:Int)=(h:Int):=by omega
 obtain⟨r,tr,hr,hrn⟩:∃r:Nat,bt .quo false false (.int .i64 ((h:Int)-1)) (.int .i64 2)=some (.int .i64 (r:Int))/\h<=2*(r+1)+1/\r<=h:=by
  rcases Bj h with e|e
  ·subst e;exact⟨0,rfl,by omega,by omega⟩
  ·refine⟨(h-1)/2,?_,by omega,by omega⟩;rw[o7 (by omega) (by omega) (by omega)]
   congr 2
   omega
 refine wnZ (aI @te @tr) ?_;refine bN (X:=Nat×List α) (λx=>[(0,.msl b n 1 0 n),(1,.int .i64 a),(3,.func g caps),(8,.int .i64 a),(9,.int .i64 0),(10,.int .i64 h),(11,.int .i64 ((x.1:Nat)-1))]) (λx H' nxx=>x.1<=n+1/\H'=ar H b (x.2.map f)/\nx=nxx/\PermR a (a+h) L x.2/\iY K a h x.1 x.2) (λx=>x.1) (r+1,L) ⟨by dsimp only;omega,lD hH,rfl,.refl,iY.start (by dsimp only;omega)⟩ (by simp (disch:=omega) only[agr,ZG,reduceEqDiff,↓reduceIte,Int.add_sub_cancel]) ?_;rintro⟨i,M⟩ H' nxx ⟨h1,rfl,rfl,hp,hh⟩;dsimp only at *;have hl:M.length=n:=by rw[hp.len,hn]
 have hGM:=hp.mem hG;rcases Bj i with e|e
 ·subst e;refine wnZ and_self ?_;clear hGM;refine bN (X:=Nat×List α) (λx=>[(0,.msl b n 1 0 n),(3,.func g caps),(8,.int .i64 a),(9,.int .i64 0),(12,.int .i64 ((x.1:Nat)-1))]) (λx H' nxx'=>x.1<=h/\H'=ar H b (x.2.map f)/\nx=nxx'/\PermR a (a+h) L x.2/\iY K a x.1 0 x.2/\TailR K a (a+h) (a+x.1) x.2) (λx=>x.1) (h,M) ⟨aR _,rfl,rfl,hp,hh,.start⟩ (by simp (disch:=omega) only[agr,ZG,reduceEqDiff,↓reduceIte,Int.add_sub_cancel]) ?_;clear hp hh hl;rintro⟨i,M⟩ H' nxx ⟨h1,rfl,rfl,hp,hh,ht⟩;dsimp only at *;have hl:M.length=n:=by rw[hp.len,hn]
  have hGM:=hp.mem hG;rcases Bj i with e|e
  ·subst e;refine wnZ and_self ?_;exact⟨rfl,M,rfl,hp,ht.done⟩
  ·obtain⟨k,rfl⟩:∃k,i=k+1:=⟨i-1,by omega⟩
   have tj:((k+1:Nat):Int)-1=(k:Int):=by omega
   obtain⟨M1,hl1,lm1,lm2⟩:=d7 (f:=f) (M:=M) (i:=a) (j:=a+k) (by omega) (by omega);have lm3:=lm2;simp only[bD,bK,fo,cp] at lm1 lm2;have hp1:PermR a (a+h) L (swp M a (a+k)):=hp.trans (PermR.swap (by omega) (by omega) (by omega));have hsl:(swp M a (a+k)).length=n:=by rw[hp1.len,hn]
   refine wnZ (zI6 @tj @gY @lm1 @lm2 hc.cells hc.one) ?_;refine bc ev0 (have zz:=aI @tj @Int.natCast_zero;evZ) (F8 hc (b:=b) (L:=swp M a (a+k)) (a:=a) (lo:=0) (hi:=k) (by rw[bd,bd,ah,<-lm3]) hsl (hp1.mem hG) (by omega) (by omega) (by omega) (hh.swapTop (by omega))) ?_;rintro _ _ _ ⟨rfl,N,rfl,hpN,hhN⟩;refine wnZ @tj ?_;exact⟨(k,N),by dsimp only;omega,⟨by dsimp only;omega,by dsimp only;rw[bd,bd,bd],rfl,hp1.trans (hpN.mono (aR _) (by omega)),hhN,ht.step hc.ord hh (by omega) (by omega) hpN⟩,ag0⟩
 ·obtain⟨k,rfl⟩:∃k,i=k+1:=⟨i-1,by omega⟩
  have tj:((k+1:Nat):Int)-1=(k:Int):=by omega
  refine wnZ @tj ?_;refine bc ev0 ev0 (F8 hc (L:=M) (a:=a) (lo:=k) (hi:=h) ah hl hGM (by omega) (by omega) (by omega) hh) ?_;rintro _ _ _ ⟨rfl,N,rfl,hpN,hhN⟩;refine wnZ @tj ?_;exact⟨(k,N),by dsimp only;omega,⟨by dsimp only;omega,by dsimp only;rw[bd],rfl,hp.trans hpN,hhN⟩,ag0⟩
end
section
variable{α:Type}[Inhabited α]{f:α->AV}{K:α->α->Int}{G:α->Prop}{g:Nat}{caps:List AV}
def Ki:AV->Option AV
 |.ptr b n o=>some (.ptr b n o)
 |.iptr c o=>some (.iptr c o)
 |.func f c=>some (.func f c)
 |_=>none
theorem SV3:(∀ (T:Tm) (H:Hp) (x:Opd),bX T H (.nilck x)=Ki (ov T x))∧(∀ b n o:Nat,Ki (.ptr b n o)=some (.ptr b n o)):=⟨fun T H x=>by
 simp only[bX];cases ov T x<;>rfl,λ_ _ _=>rfl⟩
attribute [local irreducible] aK ak bg a6 aQ aS aE aU a8 bn Go.Abs.Fn a5 Go.Abs.Pure au aM Yl
theorem KY(hc:Cmp Tryz.prog f K G g caps){L:List α}{H:Hp}{b nx n a e:Nat}(hH:H b=some (L.map f))(hn:L.length=n)(hae:a<e)(hen:e<=n)(hn2:n<=1000000000):
    Abs.Fn Tryz.prog 170 [.msl b n 1 0 n,.int .i64 a,.int .i64 e,.func g caps] H nx λr H' nx'=>nx'=nx/\∃L',H'=ar H b (L'.map f)/\PermR a e L L':=by
 obtain⟨m,rfl⟩:∃m,e=m+1:=⟨e-1,by omega⟩
 have te:((m+1:Nat):Int)-1=(m:Int):=by omega
 refine fO L5 ?_;simp only[LR,aH];refine wnZ @te ?_;refine bN (X:=Nat×Nat×List α) (λx=>[(0,.msl b n 1 0 n),(8,.int .i64 (x.1:Nat)),(9,.int .i64 (x.2.1:Nat))]) (λx H' nxx=>a<=x.1/\x.2.1<=m/\H'=ar H b (x.2.2.map f)/\nx=nxx/\PermR a (m+1) L x.2.2) (λx=>x.2.1) (a,m,L) ⟨aR _,aR _,lD hH,rfl,.refl⟩ ag0 ?_;rintro⟨i,j,M⟩ H' nxx ⟨h1,h2,rfl,rfl,hp⟩;dsimp only at *;have hl:M.length=n:=by rw[hp.len,hn]
 by_cases hij:i<j
 ·obtain⟨k,rfl⟩:∃k,j=k+1:=⟨j-1,by omega⟩
  have tj:((k+1:Nat):Int)-1=(k:Int):=by omega
  have ti:((i:Nat):Int)+1=((i+1:Nat):Int):=by omega
  obtain⟨M1,hl1,lm1,lm2⟩:=d7 (f:=f) (M:=M) (i:=i) (j:=k+1) (by omega) (by omega);have lm3:=lm2;simp only[bD,bK,fo,cp] at lm1 lm2;refine wnZ (zI6 @tj @ti @lm1 @lm2 hc.cells hc.one) ?_;exact⟨(i+1,k,swp M i (k+1)),by dsimp only;omega,⟨by dsimp only;omega,by dsimp only;omega,by dsimp only;rw[bd,bd,lm3],rfl,hp.trans (PermR.swap (by omega) (by omega) (by omega))⟩,ag0⟩
 ·refine wnZ and_self ?_;exact⟨rfl,M,rfl,hp⟩
theorem tF(hc:Cmp Tryz.prog f K G g caps){L:List α}{H:Hp}{b c nx n i j s:Nat}(hH:H b=some (L.map f))(hcc:H c=some [.int .i64 (s:Nat)])(hn:L.length=n)(hG:∀x∈L,G x)(hi:i<n)(hj:j<n)(hn2:n<=1000000000)(hs:s<=100):
    Abs.Fn Tryz.prog 208 [.msl b n 1 0 n,.int .i64 i,.int .i64 j,.ptr c 1 0,.func g caps] H nx λr H' nx'=>nx'=nx/\∃i' j' s':Nat,r=.tup [.int .i64 i',.int .i64 j']/\((i'=i/\j'=j)\/(i'=j/\j'=i))/\s'<=s+1/\H'=ar H c [.int .i64 s']:=by
 refine fO Kx ?_;simp only[K3,aH];have dcap:=hc.dcaps;have lc:=hc.run (L.getD j default) (L.getD i default) (hG _ (bk (by omega))) (hG _ (bk (by omega)));have e1:=hc.dat (L.getD j default);have e2:=hc.dat (L.getD i default);have ts:((s:Nat):Int)+1=((s+1:Nat):Int):=by omega
 have ls:∀x y:AV,bD [x] 0 [y]=[y]:=λ_ _=>rfl;simp only[bD,bK,fo,cp] at ls;generalize hKK:K (L.getD j default) (L.getD i default)=kk at lc;by_cases hlt:kk<0
 ·have zz:=aI @hH (aI @hcc (aI @cz (aI hc.cells (aI hc.one (aI @ts (aI @ls @SV3))))));repeat' (first|refine zW ?_|refine zM ?_|apply a_n|apply a_r|refine zO ?_|refine vZ ?_|refine cZ ?_ (hp:=lc) (hs:=by(first|refine aF ?_ rfl|apply aW);(repeat' (first|exact aj|apply bo|apply aX|exact e1|exact e2|exact bl dcap));first|done|fail)|refine stZ ?_|(refine zGZ ?_ ?_<;>(intro _hg;try (exfalso;omega)))|refine bS rfl ?_|refine r2Z ?_|fail)
  exact⟨rfl,j,i,s+1,rfl,.inr ⟨rfl,rfl⟩,aR _,rfl⟩
 ·have zz:=aI @hH (aI @hcc (aI @cz (aI hc.cells hc.one)));repeat' (first|refine zW ?_|refine zM ?_|apply a_n|refine zO ?_|refine vZ ?_|refine cZ ?_ (hp:=lc) (hs:=by(first|refine aF ?_ rfl|apply aW);(repeat' (first|exact aj|apply bo|apply aX|exact e1|exact e2|exact bl dcap));first|done|fail)|(refine zGZ ?_ ?_<;>(intro _hg;try (exfalso;omega)))|refine bS rfl ?_|refine r2Z ?_|fail)
  exact⟨rfl,i,j,s,rfl,.inl ⟨rfl,rfl⟩,Nat.le_succ _,lD hcc⟩
end
def uK{α:Type}[Inhabited α](K:α->α->Int)(a e:Nat)(M:List α):Prop:=∀q,0<a->a<=q->q<e->¬K (M.getD q default) (M.getD (a-1) default)<0
section
variable{α:Type}[Inhabited α]{f:α->AV}{K:α->α->Int}{G:α->Prop}{g:Nat}{caps:List AV}
theorem uK.perm{a e:Nat}{L M:List α}(h:uK K a e L)(hp:PermR a e L M)(hae:a<=e)(he:e<=L.length):uK K a e M:=λq h0 h1 h2=>by
 rw[hp.out (a-1) (.inl (by omega))];exact hp.all (p:=λx=>¬K x (L.getD (a-1) default)<0) hae he (λi k1 k2=>h i h0 k1 k2) q h1 h2
theorem bu.out{a i e:Nat}{L M:List α}(h:bu K a i L)(hp:PermR i e L M):bu K a i M:=λp q h1 h2 h3=>by
 rw[hp.out p (.inl (by omega)),hp.out q (.inl h3)];exact h p q h1 h2 h3
theorem bu.snoc{a i:Nat}{M:List α}(hK:Ord K)(h:bu K a i M)(ha:a<i)(hn:¬K (M.getD i default) (M.getD (i-1) default)<0):bu K a (i+1) M:=λp q h1 h2 h3=>by
 by_cases e:q=i
 ·subst e;by_cases e2:p=q-1
  ·rw[e2];exact hn
  ·exact hK.negtr _ _ _ (h p (q-1) h1 (by omega) (by omega)) hn
 ·exact h p q h1 h2 (by omega)
attribute [local irreducible] aK ak bg a6 aQ aS aE aU a8 bn Go.Abs.Fn a5 Go.Abs.Pure au aM Yl
theorem DK(hc:Cmp Tryz.prog f K G g caps){L:List α}{H:Hp}{b nx n a e:Nat}(hH:H b=some (L.map f))(hn:L.length=n)(hG:∀x∈L,G x)(hae:a<e)(hen:e<=n)(hn2:n<=1000000000)(hlow:uK K a e L):
    Abs.Fn Tryz.prog 171 [.msl b n 1 0 n,.int .i64 a,.int .i64 e,.func g caps] H nx λr H' nx'=>nx'=nx/\∃L' t,r=.bool t/\H'=ar H b (L'.map f)/\PermR a e L L'/\(t=true->bu K a e L'):=by
 have dcap:=hc.dcaps;refine fO MZ ?_;simp only[L0,aH];refine wnZ and_self ?_;refine bN (X:=Nat×Nat×List α) (λx=>[(0,.msl b n 1 0 n),(1,.int .i64 a),(2,.int .i64 e),(3,.func g caps),(9,.int .i64 (x.2.1:Nat)),(10,.int .i64 (x.1:Nat))]) (λx H' nxx=>x.1<=5/\a+1<=x.2.1/\x.2.1<=e/\H'=ar H b (x.2.2.map f)/\nx=nxx/\PermR a e L x.2.2/\bu K a x.2.1 x.2.2) (λx=>5-x.1) (0,a+1,L) ⟨by dsimp only;omega,aR _,hae,lD hH,rfl,.refl,bu.one (aR _)⟩ ag0 ?_;rintro⟨jj,i0,M0⟩ H' nxx ⟨h1,h2,h3,rfl,rfl,hp0,hs0⟩;dsimp only at *;by_cases h5:jj=5
 ·subst h5;refine wnZ and_self ?_;exact⟨rfl,M0,false,rfl,rfl,hp0,λh=>absurd h (by decide)⟩
 have hl:M0.length=n:=by rw[hp0.len,hn]
 have hGM:=hp0.mem hG;refine cr (λT H'' nx''=>T 0=.msl b n 1 0 n/\T 1=.int .i64 a/\T 2=.int .i64 e/\T 3=.func g caps/\T 9=.int .i64 (i0:Nat)/\T 10=.int .i64 (jj:Nat)/\H''=ar H b ((M0).map f)/\nx=nx'') ?_ ?_
 ·refine wnZ and_self ?_;exact⟨rfl,rfl,rfl,rfl,rfl,rfl,rfl,rfl⟩
 rintro T _ _ ⟨t0,t1,t2,t3,t9,t10,rfl,rfl⟩;refine cr (λT H'' nx''=>∃(i:Nat)(M:List α),a+1<=i/\i<=e/\PermR a e L M/\bu K a i M/\T 0=.msl b n 1 0 n/\T 1=.int .i64 a/\T 2=.int .i64 e/\T 3=.func g caps/\T 9=.int .i64 (i:Nat)/\T 10=.int .i64 (jj:Nat)/\H''=ar H b ((M).map f)/\nx=nx'') ?_ ?_
 rotate_left
 ·clear t0 t1 t2 t3 t9 t10;rintro T _ _ ⟨i,M,k1,k2,hp,hs,t0,t1,t2,t3,t9,t10,rfl,rfl⟩;refine wnZ (zI6 @t0 @t1 @t2 @t3 @t9 @t10) ?_;exact⟨(jj+1,i,M),by dsimp only;omega,⟨by dsimp only;omega,k1,k2,rfl,rfl,hp,hs⟩,(have zz:=aI @t0 (aI @t1 (aI @t2 (aI @t3 (aI @t9 @t10))));agZ)⟩
 refine lq ?_;refine cr (λT H'' nx''=>∃(i:Nat),a+1<=i/\i<=e/\bu K a i M0/\(i<e->K (M0.getD i default) (M0.getD (i-1) default)<0)/\T 0=.msl b n 1 0 n/\T 1=.int .i64 a/\T 2=.int .i64 e/\T 3=.func g caps/\T 9=.int .i64 (i:Nat)/\T 10=.int .i64 (jj:Nat)/\H''=ar H b ((M0).map f)/\nx=nx'') ?_ ?_
 ·refine wnZ (zI6 @t0 @t1 @t2 @t3 @t9 @t10) ?_;refine bN (X:=Nat) (λi=>[(0,.msl b n 1 0 n),(1,.int .i64 a),(2,.int .i64 e),(3,.func g caps),(9,.int .i64 (i:Nat)),(10,.int .i64 (jj:Nat))]) (λi H' nxx=>a+1<=i/\i<=e/\H'=ar H b (M0.map f)/\nx=nxx/\bu K a i M0) (λi=>e-i) i0 ⟨h2,h3,rfl,rfl,hs0⟩ (have zz:=aI @t0 (aI @t1 (aI @t2 (aI @t3 (aI @t9 @t10))));agZ) ?_;clear hs0 h2 h3;rintro i H' nxx ⟨h2,h3,rfl,rfl,hs⟩;by_cases hie:i=e
  ·subst hie;refine wkZ and_self ?_;exact⟨i,h2,h3,hs,λh=>absurd h (Nat.lt_irrefl _),rfl,rfl,rfl,rfl,rfl,rfl,rfl,rfl⟩
  obtain⟨m,rfl⟩:∃m,i=m+1:=⟨i-1,by omega⟩
  have tj:((m+1:Nat):Int)-1=(m:Int):=by omega
  have lc:=hc.run (M0.getD (m+1) default) (M0.getD m default) (hGM _ (bk (by omega))) (hGM _ (bk (by omega)));have e1:=hc.dat (M0.getD (m+1) default);have e2:=hc.dat (M0.getD m default);generalize hKK:K (M0.getD (m+1) default) (M0.getD m default)=kk at lc;by_cases hlt:kk<0
  ·have zz:=aI @tj (aI @cz (aI hc.cells hc.one));repeat' (first|refine zW ?_|refine zM ?_|apply a_n|apply a_x|refine zO ?_|refine vZ ?_|refine cZ ?_ (hp:=lc) (hs:=by(first|refine aF ?_ rfl|apply aW);(repeat' (first|exact aj|apply bo|apply aX|exact e1|exact e2|exact bl dcap));first|done|fail)|refine gTZ ?_|(refine zGZ ?_ ?_<;>(intro _hg;try (exfalso;omega)))|fail)
   exact⟨m+1,h2,h3,hs,λ_=>by rw[rF,hKK];exact hlt,rfl,rfl,rfl,rfl,rfl,rfl,rfl,rfl⟩
  ·have zz:=aI @tj (aI @cz (aI hc.cells hc.one));repeat' (first|refine zW ?_|refine zM ?_|apply a_n|refine zO ?_|refine vZ ?_|refine cZ ?_ (hp:=lc) (hs:=by(first|refine aF ?_ rfl|apply aW);(repeat' (first|exact aj|apply bo|apply aX|exact e1|exact e2|exact bl dcap));first|done|fail)|refine gTZ ?_|(refine zGZ ?_ ?_<;>(intro _hg;try (exfalso;omega)))|fail)
   exact⟨m+1+1,by omega,⟨by omega,by omega,rfl,rfl,hs.snoc hc.ord (by omega) (by rw[rF,hKK];exact hlt)⟩,ag0⟩
 clear t0 t1 t2 t3 t9 t10 hs0 h2 h3;rintro T _ _ ⟨i,h2,h3,hs,hless,t0,t1,t2,t3,t9,t10,rfl,rfl⟩;by_cases hie:i=e
 ·subst hie;have ten:decide ((i:Int)=(i:Int))=true:=aL rfl;refine wnZ (zI7 @t0 @t1 @t2 @t3 @t9 @t10 @ten) ?_;exact⟨rfl,M0,true,rfl,rfl,hp0,λ_=>hs⟩
 replace hless:=hless (by omega);have ten:decide ((i:Int)=(e:Int))=false:=aO (by omega);refine cr (λT H'' nx''=>T 0=.msl b n 1 0 n/\T 1=.int .i64 a/\T 2=.int .i64 e/\T 3=.func g caps/\T 9=.int .i64 (i:Nat)/\T 10=.int .i64 (jj:Nat)/\H''=ar H b ((M0).map f)/\nx=nx'') ?_ ?_
 ·refine wnZ (zI7 @t0 @t1 @t2 @t3 @t9 @t10 @ten) ?_;exact⟨(have zz:=@t0;evZ),(have zz:=@t1;evZ),(have zz:=@t2;evZ),(have zz:=@t3;evZ),(have zz:=@t9;evZ),(have zz:=@t10;evZ),rfl,rfl⟩
 clear t0 t1 t2 t3 t9 t10 ten;rintro T _ _ ⟨t0,t1,t2,t3,t9,t10,rfl,rfl⟩;refine cr (λT H'' nx''=>T 0=.msl b n 1 0 n/\T 1=.int .i64 a/\T 2=.int .i64 e/\T 3=.func g caps/\T 9=.int .i64 (i:Nat)/\T 10=.int .i64 (jj:Nat)/\H''=ar H b ((M0).map f)/\nx=nx'') ?_ ?_
 ·have zz:=aI @t0 (aI @t1 (aI @t2 (aI @t3 (aI @t9 @t10))));repeat' (first|refine zW ?_|apply a_n|apply a_r|refine zO ?_|refine vZ ?_|(refine zGZ ?_ ?_<;>(intro _hg;try (exfalso;omega)))|refine bS rfl ?_|refine r1Z ?_|fail)
  ·exact⟨rfl,M0,false,rfl,rfl,hp0,λh=>absurd h (by decide)⟩
  ·exact⟨(have zz:=@t0;evZ),(have zz:=@t1;evZ),(have zz:=@t2;evZ),(have zz:=@t3;evZ),(have zz:=@t9;evZ),(have zz:=@t10;evZ),rfl,rfl⟩
 clear t0 t1 t2 t3 t9 t10;rintro T _ _ ⟨t0,t1,t2,t3,t9,t10,rfl,rfl⟩;obtain⟨m,rfl⟩:∃m,i=m+1:=⟨i-1,by omega⟩
 have tj:((m+1:Nat):Int)-1=(m:Int):=by omega
 rw[rF] at hless;obtain⟨M1,hl1,lm1,lm2⟩:=d7 (f:=f) (M:=M0) (i:=m+1) (j:=m) (by omega) (by omega);have lm3:=lm2;simp only[bD,bK,fo,cp] at lm1 lm2;refine cr (λT H'' nx''=>T 0=.msl b n 1 0 n/\T 1=.int .i64 a/\T 2=.int .i64 e/\T 3=.func g caps/\T 9=.int .i64 (m+1:Nat)/\T 10=.int .i64 (jj:Nat)/\H''=ar H b ((swp M0 (m+1) m).map f)/\nx=nx'') ?_ ?_
 ·refine wnZ (aI @t0 (aI @t1 (gH @t2 @t3 @t9 @t10 @cz hc.cells hc.one @tj @lm1 @lm2))) ?_;exact⟨(have zz:=@t0;evZ),(have zz:=@t1;evZ),(have zz:=@t2;evZ),(have zz:=@t3;evZ),(have zz:=@t9;evZ),(have zz:=@t10;evZ),by rw[bd,bd,lm3],rfl⟩
 clear t0 t1 t2 t3 t9 t10;have hp1:PermR a e L (swp M0 (m+1) m):=hp0.trans (PermR.swap (by omega) (by omega) (by omega));have hal:=(gm.start hs).step hc.ord (by omega) (aR _) (by omega) hless;clear hs hless lm1 lm2 lm3 hl1 M1;generalize swp M0 (m+1) m=M2 at hp1 hal;clear hp0 hGM hl;rintro T _ _ ⟨t0,t1,t2,t3,t9,t10,rfl,rfl⟩;refine cr (λT H'' nx''=>∃M:List α,PermR a e L M/\bu K a (m+1) M/\T 0=.msl b n 1 0 n/\T 1=.int .i64 a/\T 2=.int .i64 e/\T 3=.func g caps/\T 9=.int .i64 (m+1:Nat)/\T 10=.int .i64 (jj:Nat)/\H''=ar H b ((M).map f)/\nx=nx'') ?_ ?_
 ·by_cases h2a:m=a
  ·subst h2a;have td:decide ((2:Int)<=((m+1:Nat):Int)-(m:Int))=false:=aO (by omega);refine wnZ (zI7 @t0 @t1 @t2 @t3 @t9 @t10 @td) ?_;exact⟨M2,hp1,(hal.done hc.ord (.inl rfl)).mono (aR _) (by omega),(have zz:=@t0;evZ),(have zz:=@t1;evZ),(have zz:=@t2;evZ),(have zz:=@t3;evZ),(have zz:=@t9;evZ),(have zz:=@t10;evZ),rfl,rfl⟩
  have td:decide ((2:Int)<=((m+1:Nat):Int)-(a:Int))=true:=aL (by omega);refine wnZ (zI8 @t0 @t1 @t2 @t3 @t9 @t10 @td @tj) ?_;refine bN (X:=Nat×List α) (λx=>[(0,.msl b n 1 0 n),(1,.int .i64 a),(2,.int .i64 e),(3,.func g caps),(9,.int .i64 (m+1:Nat)),(10,.int .i64 (jj:Nat)),(11,.int .i64 (x.1:Nat))]) (λx H' nxx=>a<=x.1/\x.1<=m/\H'=ar H b (x.2.map f)/\nx=nxx/\PermR a e L x.2/\gm K a (m+1) x.1 x.2) (λx=>x.1) (m,M2) ⟨by dsimp only;omega,aR _,rfl,rfl,hp1,hal⟩ (have zz:=aI @t0 (aI @t1 (aI @t2 (aI @t3 (aI @t9 @t10))));agZ) ?_;clear t0 t1 t2 t3 t9 t10 hp1 hal M2;rintro⟨j,M⟩ H' nxx ⟨a1,a2,rfl,rfl,hp,hal⟩;dsimp only at *;have hl:M.length=n:=by rw[hp.len,hn]
  have hGM:=hp.mem hG;rcases Bj j with ej|ej
  ·subst ej;refine wnZ and_self ?_;exact⟨M,hp,(hal.done hc.ord (.inl (by omega))).mono (aR _) (by omega),rfl,rfl,rfl,rfl,rfl,rfl,rfl,rfl⟩
  obtain⟨k,rfl⟩:∃k,j=k+1:=⟨j-1,by omega⟩
  have tk:((k+1:Nat):Int)-1=(k:Int):=by omega
  have lc:=hc.run (M.getD (k+1) default) (M.getD k default) (hGM _ (bk (by omega))) (hGM _ (bk (by omega)));have e1:=hc.dat (M.getD (k+1) default);have e2:=hc.dat (M.getD k default);have hlw:=hlow.perm hp (by omega) (by omega);generalize hKK:K (M.getD (k+1) default) (M.getD k default)=kk at lc;by_cases hlt:kk<0
  ·have hak:k+1≠a:=λh=>by
     subst h;have:=hlw (k+1) (by omega) (aR _) (by omega);rw[rF,hKK] at this;exact this hlt
   obtain⟨M1,hl1,lm1,lm2⟩:=d7 (f:=f) (M:=M) (i:=k+1) (j:=k) (by omega) (by omega);have lm3:=lm2;simp only[bD,bK,fo,cp] at lm1 lm2;have zz:=aI @tk (aI @cz (aI hc.cells (aI hc.one (aI @lm1 @lm2))));repeat' (first|refine zW ?_|refine zM ?_|apply a_n|refine zO ?_|refine vZ ?_|refine cZ ?_ (hp:=lc) (hs:=by(first|refine aF ?_ rfl|apply aW);(repeat' (first|exact aj|apply bo|apply aX|exact e1|exact e2|exact bl dcap));first|done|fail)|refine stZ ?_|(refine zGZ ?_ ?_<;>(intro _hg;try (exfalso;omega)))|fail)
   exact⟨(k,swp M (k+1) k),by dsimp only;omega,⟨by dsimp only;omega,by dsimp only;omega,by dsimp only;rw[bd,bd,lm3],rfl,hp.trans (PermR.swap (by omega) (by omega) (by omega)),hal.step hc.ord (by omega) (by omega) (by omega) (by rw[hKK];exact hlt)⟩,(have zz:=@tk;agZ)⟩
  ·have hd:k+1=a\/(a<k+1/\¬K (M.getD (k+1) default) (M.getD (k+1-1) default)<0):=by
     by_cases h:k+1=a
     ·exact .inl h
     ·exact .inr ⟨by omega,by rw[rF,hKK];exact hlt⟩
   have zz:=aI @tk (aI @cz (aI hc.cells hc.one));repeat' (first|refine zW ?_|refine zM ?_|apply a_n|apply a_x|refine zO ?_|refine vZ ?_|refine cZ ?_ (hp:=lc) (hs:=by(first|refine aF ?_ rfl|apply aW);(repeat' (first|exact aj|apply bo|apply aX|exact e1|exact e2|exact bl dcap));first|done|fail)|(refine zGZ ?_ ?_<;>(intro _hg;try (exfalso;omega)))|fail)
   exact⟨M,hp,(hal.done hc.ord hd).mono (aR _) (by omega),rfl,rfl,rfl,rfl,rfl,rfl,rfl,rfl⟩
 clear t0 t1 t2 t3 t9 t10 hp1 hal M2;rintro T _ _ ⟨M2,hp1,hs,t0,t1,t2,t3,t9,t10,rfl,rfl⟩;by_cases h2a:m+1+2<=e
 rotate_left
 ·have td:decide ((2:Int)<=(e:Int)-((m+1:Nat):Int))=false:=aO (by omega);refine wnZ (zI7 @t0 @t1 @t2 @t3 @t9 @t10 @td) ?_;exact⟨m+1,M2,h2,h3,hp1,hs,(have zz:=@t0;evZ),(have zz:=@t1;evZ),(have zz:=@t2;evZ),(have zz:=@t3;evZ),(have zz:=@t9;evZ),(have zz:=@t10;evZ),rfl,rfl⟩
 have td:decide ((2:Int)<=(e:Int)-((m+1:Nat):Int))=true:=aL (by omega);have tj2:((m+1:Nat):Int)+1=((m+1+1:Nat):Int):=by omega
 refine wnZ (zI8 @t0 @t1 @t2 @t3 @t9 @t10 @td @tj2) ?_;refine bN (X:=Nat×List α) (λx=>[(0,.msl b n 1 0 n),(1,.int .i64 a),(2,.int .i64 e),(3,.func g caps),(9,.int .i64 (m+1:Nat)),(10,.int .i64 (jj:Nat)),(12,.int .i64 (x.1:Nat))]) (λx H' nxx=>m+1+1<=x.1/\x.1<=e/\H'=ar H b (x.2.map f)/\nx=nxx/\PermR a e L x.2/\bu K a (m+1) x.2) (λx=>e-x.1) (m+1+1,M2) ⟨aR _,by dsimp only;omega,rfl,rfl,hp1,hs⟩ (have zz:=aI @t0 (aI @t1 (aI @t2 (aI @t3 (aI @t9 @t10))));agZ) ?_;clear t0 t1 t2 t3 t9 t10 hp1 hs M2;rintro⟨j,M⟩ H' nxx ⟨a1,a2,rfl,rfl,hp,hs⟩;dsimp only at *;have hl:M.length=n:=by rw[hp.len,hn]
 have hGM:=hp.mem hG;by_cases hje:j=e
 ·subst hje;refine wnZ and_self ?_;exact⟨m+1,M,h2,h3,hp,hs,rfl,rfl,rfl,rfl,rfl,rfl,rfl,rfl⟩
 obtain⟨k,rfl⟩:∃k,j=k+1:=⟨j-1,by omega⟩
 have tk:((k+1:Nat):Int)-1=(k:Int):=by omega
 have lc:=hc.run (M.getD (k+1) default) (M.getD k default) (hGM _ (bk (by omega))) (hGM _ (bk (by omega)));have e1:=hc.dat (M.getD (k+1) default);have e2:=hc.dat (M.getD k default);generalize hKK:K (M.getD (k+1) default) (M.getD k default)=kk at lc;by_cases hlt:kk<0
 ·obtain⟨M1,hl1,lm1,lm2⟩:=d7 (f:=f) (M:=M) (i:=k+1) (j:=k) (by omega) (by omega);have lm3:=lm2;simp only[bD,bK,fo,cp] at lm1 lm2;have zz:=aI @tk (aI @cz (aI hc.cells (aI hc.one (aI @lm1 @lm2))));repeat' (first|refine zW ?_|refine zM ?_|apply a_n|refine zO ?_|refine vZ ?_|refine cZ ?_ (hp:=lc) (hs:=by(first|refine aF ?_ rfl|apply aW);(repeat' (first|exact aj|apply bo|apply aX|exact e1|exact e2|exact bl dcap));first|done|fail)|refine stZ ?_|(refine zGZ ?_ ?_<;>(intro _hg;try (exfalso;omega)))|fail)
  exact⟨(k+1+1,swp M (k+1) k),by dsimp only;omega,⟨by dsimp only;omega,by dsimp only;omega,by dsimp only;rw[bd,bd,lm3],rfl,hp.trans (PermR.swap (by omega) (by omega) (by omega)),hs.out (e:=e) (PermR.swap (by omega) (by omega) (by omega))⟩,ag0⟩
 ·have zz:=aI @tk (aI @cz (aI hc.cells hc.one));repeat' (first|refine zW ?_|refine zM ?_|apply a_n|apply a_x|refine zO ?_|refine vZ ?_|refine cZ ?_ (hp:=lc) (hs:=by(first|refine aF ?_ rfl|apply aW);(repeat' (first|exact aj|apply bo|apply aX|exact e1|exact e2|exact bl dcap));first|done|fail)|(refine zGZ ?_ ?_<;>(intro _hg;try (exfalso;omega)))|fail)
  exact⟨m+1,M,h2,h3,hp,hs,rfl,rfl,rfl,rfl,rfl,rfl,rfl,rfl⟩
end
structure PartR{α:Type}[Inhabited α](P:α->Prop)(a e mu i j:Nat)(M:List α):Prop where
 lo:a+1<=i
 mid:i<=j+1
 hi:j<e
 mu:j+1-i<=mu
 up:∀p,a+1<=p->p<i->P (M.getD p default)
 dn:∀q,j<q->q<e->¬P (M.getD q default)
section
variable{α:Type}[Inhabited α]{f:α->AV}{K:α->α->Int}{G:α->Prop}{g:Nat}{caps:List AV}
theorem PartR.start{P:α->Prop}{a m:Nat}{M:List α}(h:a<=m):PartR P a (m+1) (m+1-(a+1)) (a+1) m M:=⟨aR _,by omega,by omega,aR _,λp h1 h2=>by omega,λq h1 h2=>by omega⟩
theorem PartR.stepUp{P:α->Prop}{a e mu i j:Nat}{M:List α}(h:PartR P a e mu i j M)(hij:i<=j)(hp:P (M.getD i default)):PartR P a e mu (i+1) j M:=
 ⟨by have:=h.lo; omega,by omega,h.hi,by have:=h.mu; omega,fun p h1 h2=>by
  by_cases e:p=i
  ·rw[e];exact hp
  ·exact h.up p h1 (by omega),h.dn⟩
theorem PartR.stepDn{P:α->Prop}{a e mu i k:Nat}{M:List α}(h:PartR P a e mu i (k+1) M)(hij:i<=k+1)(hp:¬P (M.getD (k+1) default)):PartR P a e mu i k M:=
 ⟨h.lo,hij,by have:=h.hi; omega,by have:=h.mu; omega,h.up,fun q h1 h2=>by
  by_cases e:q=k+1
  ·rw[e];exact hp
  ·exact h.dn q (by omega) h2⟩
theorem PartR.swap{P:α->Prop}{a e mu i k:Nat}{M:List α}(h:PartR P a e mu i (k+1) M)(hM:e<=M.length)(hij:i<=k+1)(hi:¬P (M.getD i default))(hj:P (M.getD (k+1) default)):PartR P a e (k+1-(i+1)) (i+1) k (swp M i (k+1))/\k+1-(i+1)<mu:=by
 have hne:i≠k+1:=λe=>hi (by rw[e];exact hj);have hh:=h.hi;have hlo:=h.lo;have hmu:=h.mu;refine⟨⟨by omega,by omega,by omega,aR _,λp h1 h2=>?_,λq h1 h2=>?_⟩,by omega⟩
 ·rw[fj (by omega) (by omega),if_neg (by omega)];by_cases e:p=i
  ·rw[if_pos e];exact hj
  ·rw[if_neg e];exact h.up p h1 (by omega)
 ·rw[fj (by omega) (by omega)];by_cases e:q=k+1
  ·rw[if_pos e];exact hi
  ·rw[if_neg e,if_neg (by omega)];exact h.dn q (by omega) h2
theorem tg{M:List α}{i j k:Nat}(hi:i<M.length)(hj:j<M.length)(h1:k≠i)(h2:k≠j):(swp M i j).getD k default=M.getD k default:=by
 rw[fj hi hj,if_neg h2,if_neg h1]
attribute [local irreducible] aK ak bg a6 aQ aS aE aU a8 bn Go.Abs.Fn a5 Go.Abs.Pure au aM Yl
theorem PartR.done{P:α->Prop}{a e mu i j:Nat}{M:List α}{v:α}(hK:Ord K)(h:PartR P a e mu i j M)(hM:e<=M.length)(hji:j<i)(hv:M.getD a default=v)(hP:∀x,P x↔K x v<0):a<=j/\j<e/\(∀p,a<=p->p<j->K ((swp M j a).getD p default) ((swp M j a).getD j default)<0)/\(∀q,j<q->q<e->¬K ((swp M j a).getD q default) ((swp M j a).getD j default)<0):=by
 have hlo:=h.lo;have hmid:=h.mid;have hhi:=h.hi
 have ej:(swp M j a).getD j default=v:=by
  rw[fj (by omega) (by omega)];split
  ·rename_i e;rw[e,hv]
  ·rw[if_pos rfl,hv]
 rw[ej];refine⟨by omega,by omega,λp h1 h2=>?_,λq h1 h2=>?_⟩
 ·rw[fj (by omega) (by omega)];by_cases e:p=a
  ·rw[if_pos e];exact(hP _).1 (h.up j (by omega) hji)
  ·rw[if_neg e,if_neg (by omega)];exact(hP _).1 (h.up p (by omega) (by omega))
 ·rw[fj (by omega) (by omega),if_neg (by omega),if_neg (by omega),<-hP];exact h.dn q h1 h2
theorem F6(hc:Cmp Tryz.prog f K G g caps){L:List α}{H:Hp}{b nx n a e pv:Nat}(hH:H b=some (L.map f))(hn:L.length=n)(hG:∀x∈L,G x)(hae:a<e)(hen:e<=n)(hn2:n<=1000000000)(hpv:a<=pv/\pv<e):
    Abs.Fn Tryz.prog 172 [.msl b n 1 0 n,.int .i64 a,.int .i64 e,.int .i64 pv,.func g caps] H nx λr H' nx'=>nx'=nx/\∃(L':List α)(m:Nat),r=.int .i64 m/\a<m/\m<=e/\H'=ar H b (L'.map f)/\PermR a e L L'/\(∀p,a<=p->p<m->¬K (L.getD pv default) (L'.getD p default)<0)/\(∀q,m<=q->q<e->K (L.getD pv default) (L'.getD q default)<0):=by
 have dcap:=hc.dcaps;obtain⟨v,hv0⟩:∃v,L.getD pv default=v:=⟨_,rfl⟩
 rw[hv0];obtain⟨P,hP⟩:∃P:α->Prop,∀x,P x↔ ¬K v x<0:=⟨_,λ_=>Iff.rfl⟩
 obtain⟨N,hN⟩:∃N,swp L a pv=N:=⟨_,rfl⟩
 have hp1:PermR a e L N:=hN▸PermR.swap (by omega) (by omega) (by omega)
 have hv1:N.getD a default=v:=by
  rw[<-hN,fj (by omega) (by omega),<-hv0];split
  ·rename_i h;rw[h]
  ·rw[if_pos rfl]
 obtain⟨M1,hl1,lm1,lm2⟩:=d7 (f:=f) (M:=L) (i:=a) (j:=pv) (by omega) (by omega);rw[hN] at lm2;have lm3:=lm2;simp only[bD,bK,fo,cp] at lm1 lm2;obtain⟨m,hm⟩:∃m,e=m+1:=⟨e-1,by omega⟩
 have te:(e:Int)-1=(m:Int):=by omega
 have ta:((a:Nat):Int)+1=((a+1:Nat):Int):=by omega
 refine fO KM ?_;simp only[Ka,aH];have zz:=aI @hH (aI @te (aI @ta (aI @cz (aI hc.cells (aI hc.one (aI @lm1 @lm2))))));repeat' (first|refine zW ?_|apply a_n|refine zO ?_|refine vZ ?_|refine stZ ?_|fail)
 refine bN (X:=Nat×Nat×List α) (λx=>[(0,.msl b n 1 0 n),(1,.int .i64 a),(4,.func g caps),(11,.int .i64 (x.1:Nat)),(12,.int .i64 (x.2.1:Nat))]) (λx H' nxx=>PartR P a e (x.2.1+1-x.1) x.1 x.2.1 x.2.2/\H'=ar H b (x.2.2.map f)/\nx=nxx/\PermR a e L x.2.2/\x.2.2.getD a default=v) (λx=>x.2.1+1-x.1) (a+1,m,N) ⟨by dsimp only;rw[hm];exact .start (by omega),by dsimp only;rw[bd,lm3],rfl,hp1,hv1⟩ ag0 ?_;clear zz;clear lm1 lm2 lm3 hl1 M1 hp1 hv1 hN N te ta hm m;rintro⟨i,j,M⟩ H' nxx ⟨hpt,rfl,rfl,hp,hv⟩;dsimp only at *;have hl:M.length=n:=by rw[hp.len,hn]
 have hGM:=hp.mem hG;generalize hmu:j+1-i=mu at hpt |-;clear hmu;obtain⟨T,hT,t0,t1,t4,t11,t12⟩:∃T,tl [(0,.msl b n 1 0 n),(1,.int .i64 a),(4,.func g caps),(11,.int .i64 (i:Nat)),(12,.int .i64 (j:Nat))]=T/\T 0=.msl b n 1 0 n/\T 1=.int .i64 a/\T 4=.func g caps/\T 11=.int .i64 (i:Nat)/\T 12=.int .i64 (j:Nat):=⟨_,rfl,rfl,rfl,rfl,rfl,rfl⟩
 rw[hT];clear hT;refine lq ?_;refine cr (λT H'' nx''=>∃i:Nat,PartR P a e mu i j M/\(i<=j->¬P (M.getD i default))/\T 0=.msl b n 1 0 n/\T 1=.int .i64 a/\T 4=.func g caps/\T 11=.int .i64 (i:Nat)/\T 12=.int .i64 (j:Nat)/\H''=ar H b ((M).map f)/\nx=nx'') ?_ ?_
 ·have zz:=aI @t0 (aI @t1 (aI @t4 (aI @t11 @t12)));repeat' (first|refine zW ?_|apply a_n|refine zO ?_|fail)
  refine bN (X:=Nat) (λi=>[(0,.msl b n 1 0 n),(1,.int .i64 a),(4,.func g caps),(11,.int .i64 (i:Nat)),(12,.int .i64 (j:Nat))]) (λi H' nxx=>PartR P a e mu i j M/\H'=ar H b (M.map f)/\nx=nxx) (λi=>j+1-i) i ⟨hpt,rfl,rfl⟩ (have zz:=aI @t0 (aI @t1 (aI @t4 (aI @t11 @t12)));agZ) ?_;clear zz;clear t0 t1 t4 t11 t12 hpt i;rintro i H' nxx ⟨hpt,rfl,rfl⟩;have hlo:=hpt.lo;have hmid:=hpt.mid;have hhi:=hpt.hi;have ii:((i:Nat):Int)+1=((i+1:Nat):Int):=by omega
  by_cases hij:j<i
  ·repeat' (first|refine zW ?_|refine zM ?_|apply a_n|apply a_x|refine zO ?_|refine vZ ?_|refine gFZ ?_|(refine zGZ ?_ ?_<;>(intro _hg;try (exfalso;omega)))|refine cFZ ?_|fail)
   exact⟨i,hpt,λh=>absurd h (by omega),rfl,rfl,rfl,rfl,rfl,rfl,rfl⟩
  have lc:=hc.run (M.getD (a) default) (M.getD (i) default) (hGM _ (bk (by omega))) (hGM _ (bk (by omega)));have e1:=hc.dat (M.getD (a) default);have e2:=hc.dat (M.getD (i) default);have hPk:P (M.getD (i) default)↔ ¬K (M.getD (a) default) (M.getD (i) default)<0:=by rw[hP,hv]
  generalize hKK:K (M.getD (a) default) (M.getD (i) default)=kk at lc hPk;by_cases hlt:kk<0
  ·have zz:=aI @ii (aI @cz (aI hc.cells hc.one));repeat' (first|refine zW ?_|refine zM ?_|apply a_n|apply a_x|refine zO ?_|refine vZ ?_|refine cZ ?_ (hp:=lc) (hs:=by(first|refine aF ?_ rfl|apply aW);(repeat' (first|exact aj|apply bo|apply aX|exact e1|exact e2|exact bl dcap));first|done|fail)|refine gTZ ?_|(refine zGZ ?_ ?_<;>(intro _hg;try (exfalso;omega)))|fail)
   exact⟨i,hpt,λ_=>(by rw[hPk];first|exact hlt|exact λh=>h hlt),rfl,rfl,rfl,rfl,rfl,rfl,rfl⟩
  ·have zz:=aI @ii (aI @cz (aI hc.cells hc.one));repeat' (first|refine zW ?_|refine zM ?_|apply a_n|refine zO ?_|refine vZ ?_|refine cZ ?_ (hp:=lc) (hs:=by(first|refine aF ?_ rfl|apply aW);(repeat' (first|exact aj|apply bo|apply aX|exact e1|exact e2|exact bl dcap));first|done|fail)|refine gTZ ?_|(refine zGZ ?_ ?_<;>(intro _hg;try (exfalso;omega)))|fail)
   exact⟨i+1,by omega,⟨hpt.stepUp (by omega) (by rw[hPk];exact hlt),rfl,rfl⟩,ag0⟩
 clear t0 t1 t4 t11 t12 hpt i;rintro T _ _ ⟨i,hpt,hni,t0,t1,t4,t11,t12,rfl,rfl⟩;refine cr (λT H'' nx''=>∃j:Nat,PartR P a e mu i j M/\(i<=j->¬P (M.getD i default))/\(i<=j->P (M.getD j default))/\T 0=.msl b n 1 0 n/\T 1=.int .i64 a/\T 4=.func g caps/\T 11=.int .i64 (i:Nat)/\T 12=.int .i64 (j:Nat)/\H''=ar H b ((M).map f)/\nx=nx'') ?_ ?_
 ·have zz:=aI @t0 (aI @t1 (aI @t4 (aI @t11 @t12)));repeat' (first|refine zW ?_|apply a_n|refine zO ?_|fail)
  refine bN (X:=Nat) (λj=>[(0,.msl b n 1 0 n),(1,.int .i64 a),(4,.func g caps),(11,.int .i64 (i:Nat)),(12,.int .i64 (j:Nat))]) (λj H' nxx=>PartR P a e mu i j M/\(i<=j->¬P (M.getD i default))/\H'=ar H b (M.map f)/\nx=nxx) (λj=>j) j ⟨hpt,hni,rfl,rfl⟩ (have zz:=aI @t0 (aI @t1 (aI @t4 (aI @t11 @t12)));agZ) ?_;clear zz;clear t0 t1 t4 t11 t12 hpt hni j;rintro j H' nxx ⟨hpt,hni,rfl,rfl⟩;have hlo:=hpt.lo;have hmid:=hpt.mid;have hhi:=hpt.hi;by_cases hij:j<i
  ·repeat' (first|refine zW ?_|refine zM ?_|apply a_n|apply a_x|refine zO ?_|refine vZ ?_|refine gFZ ?_|(refine zGZ ?_ ?_<;>(intro _hg;try (exfalso;omega)))|refine cFZ ?_|fail)
   exact⟨j,hpt,hni,λh=>absurd h (by omega),rfl,rfl,rfl,rfl,rfl,rfl,rfl⟩
  obtain⟨k,rfl⟩:∃k,j=k+1:=⟨j-1,by omega⟩
  have tk:((k+1:Nat):Int)-1=(k:Int):=by omega
  have lc:=hc.run (M.getD (a) default) (M.getD (k+1) default) (hGM _ (bk (by omega))) (hGM _ (bk (by omega)));have e1:=hc.dat (M.getD (a) default);have e2:=hc.dat (M.getD (k+1) default);have hPk:P (M.getD (k+1) default)↔ ¬K (M.getD (a) default) (M.getD (k+1) default)<0:=by rw[hP,hv]
  generalize hKK:K (M.getD (a) default) (M.getD (k+1) default)=kk at lc hPk;by_cases hlt:kk<0
  ·have zz:=aI @tk (aI @cz (aI hc.cells hc.one));repeat' (first|refine zW ?_|refine zM ?_|apply a_n|refine zO ?_|refine vZ ?_|refine cZ ?_ (hp:=lc) (hs:=by(first|refine aF ?_ rfl|apply aW);(repeat' (first|exact aj|apply bo|apply aX|exact e1|exact e2|exact bl dcap));first|done|fail)|refine gTZ ?_|(refine zGZ ?_ ?_<;>(intro _hg;try (exfalso;omega)))|fail)
   exact⟨k,by omega,⟨hpt.stepDn (by omega) (by rw[hPk];first|exact hlt|exact λh=>h hlt),λ_=>hni (by omega),rfl,rfl⟩,ag0⟩
  ·have zz:=aI @tk (aI @cz (aI hc.cells hc.one));repeat' (first|refine zW ?_|refine zM ?_|apply a_n|apply a_x|refine zO ?_|refine vZ ?_|refine cZ ?_ (hp:=lc) (hs:=by(first|refine aF ?_ rfl|apply aW);(repeat' (first|exact aj|apply bo|apply aX|exact e1|exact e2|exact bl dcap));first|done|fail)|refine gTZ ?_|(refine zGZ ?_ ?_<;>(intro _hg;try (exfalso;omega)))|fail)
   exact⟨k+1,hpt,hni,λ_=>(by rw[hPk];exact hlt),rfl,rfl,rfl,rfl,rfl,rfl,rfl⟩
 clear t0 t1 t4 t11 t12 hpt hni j;rintro T _ _ ⟨j,hpt,hni,hnj,t0,t1,t4,t11,t12,rfl,rfl⟩;have hlo:=hpt.lo;have hmid:=hpt.mid;have hhi:=hpt.hi;by_cases hji:j<i
 ·have zz:=aI @t0 (aI @t1 (aI @t4 (aI @t11 @t12)));repeat' (first|refine zW ?_|apply a_n|apply a_x|refine zO ?_|refine vZ ?_|(refine zGZ ?_ ?_<;>(intro _hg;try (exfalso;omega)))|refine bS rfl ?_|refine r1Z ?_|fail)
  refine⟨rfl,M,i,rfl,by omega,by omega,rfl,hp,λp h1 h2=>?_,λq h1 h2=>by have:=hpt.dn q (by omega) h2;rw[hP] at this;exact sW this⟩;by_cases ep:p=a
  ·rw[ep,hv];exact hc.ord.irr _
  ·exact(hP _).1 (hpt.up p (by omega) h2)
 obtain⟨k,rfl⟩:∃k,j=k+1:=⟨j-1,by omega⟩
 have tk:((k+1:Nat):Int)-1=(k:Int):=by omega
 have ii:((i:Nat):Int)+1=((i+1:Nat):Int):=by omega
 obtain⟨M1,hl1,lm1,lm2⟩:=d7 (f:=f) (M:=M) (i:=i) (j:=k+1) (by omega) (by omega);have lm3:=lm2;simp only[bD,bK,fo,cp] at lm1 lm2;have zz:=aI @t0 (aI @t1 (aI @t4 (aI @t11 (aI @t12 (aI @tk (aI @ii (aI @cz (aI hc.cells (aI hc.one (aI @lm1 @lm2))))))))));repeat' (first|refine zW ?_|apply a_n|refine zO ?_|refine vZ ?_|refine stZ ?_|(refine zGZ ?_ ?_<;>(intro _hg;try (exfalso;omega)))|fail)
 obtain⟨hq1,hq2⟩:=hpt.swap (by omega) (by omega) (hni (by omega)) (hnj (by omega));exact⟨(i+1,k,swp M i (k+1)),hq2,⟨hq1,by dsimp only;rw[bd,bd,lm3],rfl,hp.trans (PermR.swap (by omega) (by omega) (by omega)),by dsimp only;rw[tg (by omega) (by omega) (by omega) (by omega)];exact hv⟩,(have zz:=aI @t0 (aI @t1 (aI @t4 (aI @t11 @t12)));agZ)⟩
theorem JB(hc:Cmp Tryz.prog f K G g caps){L:List α}{H:Hp}{b nx n a e pv:Nat}(hH:H b=some (L.map f))(hn:L.length=n)(hG:∀x∈L,G x)(hae:a<e)(hen:e<=n)(hn2:n<=1000000000)(hpv:a<=pv/\pv<e):
    Abs.Fn Tryz.prog 173 [.msl b n 1 0 n,.int .i64 a,.int .i64 e,.int .i64 pv,.func g caps] H nx λr H' nx'=>nx'=nx/\∃(L':List α)(m:Nat)(t:Bool),r=.tup [.int .i64 m,.bool t]/\a<=m/\m<e/\H'=ar H b (L'.map f)/\PermR a e L L'/\(∀p,a<=p->p<m->K (L'.getD p default) (L'.getD m default)<0)/\(∀q,m<q->q<e->¬K (L'.getD q default) (L'.getD m default)<0):=by
 have dcap:=hc.dcaps;obtain⟨v,hv0⟩:∃v,L.getD pv default=v:=⟨_,rfl⟩
 obtain⟨P,hP⟩:∃P:α->Prop,∀x,P x↔K x v<0:=⟨_,λ_=>Iff.rfl⟩
 obtain⟨M,hN⟩:∃N,swp L a pv=N:=⟨_,rfl⟩
 have hp:PermR a e L M:=hN▸PermR.swap (by omega) (by omega) (by omega)
 have hv:M.getD a default=v:=by
  rw[<-hN,fj (by omega) (by omega),<-hv0];split
  ·rename_i h;rw[h]
  ·rw[if_pos rfl]
 obtain⟨M1,hl1,lm1,lm2⟩:=d7 (f:=f) (M:=L) (i:=a) (j:=pv) (by omega) (by omega);rw[hN] at lm2;have lm3:=lm2;simp only[bD,bK,fo,cp] at lm1 lm2;obtain⟨m,hm⟩:∃m,e=m+1:=⟨e-1,by omega⟩
 have te:(e:Int)-1=(m:Int):=by omega
 have ta:((a:Nat):Int)+1=((a+1:Nat):Int):=by omega
 refine fO MY ?_;simp only[J5,aH];refine cr (λT H'' nx''=>T 0=.msl b n 1 0 n/\T 1=.int .i64 a/\T 2=.int .i64 e/\T 3=.int .i64 pv/\T 4=.func g caps/\H=H''/\nx=nx'') ?_ ?_
 ·repeat' (first|apply a_n|refine zO ?_|refine vZ ?_|fail)
  exact⟨rfl,rfl,rfl,rfl,rfl,rfl,rfl⟩
 rintro T _ _ ⟨t0,t1,t2,t3,t4,rfl,rfl⟩;refine cr (λT H'' nx''=>T 0=.msl b n 1 0 n/\T 1=.int .i64 a/\T 2=.int .i64 e/\T 3=.int .i64 pv/\T 4=.func g caps/\H''=ar H b (M.map f)/\nx=nx'') ?_ ?_
 ·have zz:=aI @t0 (aI @t1 (aI @t2 (aI @t3 (aI @t4 (aI @hH (aI @cz (aI hc.cells (aI hc.one (aI @lm1 @lm2)))))))));repeat' (first|apply a_n|refine zO ?_|refine vZ ?_|refine stZ ?_|fail)
  exact⟨(have zz:=@t0;evZ),(have zz:=@t1;evZ),(have zz:=@t2;evZ),(have zz:=@t3;evZ),(have zz:=@t4;evZ),by rw[bd,lm3],rfl⟩
 clear t0 t1 t2 t3 t4 lm1 lm2 lm3 hl1 M1 hN;rintro T _ _ ⟨t0,t1,t2,t3,t4,rfl,rfl⟩;refine cr (λT H'' nx''=>∃mu i j:Nat,PartR P a e mu i j M/\T 0=.msl b n 1 0 n/\T 1=.int .i64 a/\T 4=.func g caps/\T 12=.int .i64 (i:Nat)/\T 13=.int .i64 (j:Nat)/\H''=ar H b ((M).map f)/\nx=nx'') ?_ ?_
 ·have zz:=aI @t0 (aI @t1 (aI @t2 (aI @t3 (aI @t4 (aI @ta @te)))));repeat' (first|apply a_n|refine zO ?_|refine vZ ?_|fail)
  exact⟨_,a+1,m,by rw[hm];exact .start (by omega),(have zz:=@t0;evZ),(have zz:=@t1;evZ),(have zz:=@t4;evZ),ev0,ev0,rfl,rfl⟩
 clear t0 t1 t2 t3 t4 ta te hm m;rintro T _ _ ⟨mu,i,j,hpt,t0,t1,t4,t12,t13,rfl,rfl⟩;have hl:M.length=n:=by rw[hp.len,hn]
 have hGM:=hp.mem hG;refine cr (λT H'' nx''=>∃i:Nat,PartR P a e mu i j M/\(i<=j->¬P (M.getD i default))/\T 0=.msl b n 1 0 n/\T 1=.int .i64 a/\T 4=.func g caps/\T 12=.int .i64 (i:Nat)/\T 13=.int .i64 (j:Nat)/\H''=ar H b ((M).map f)/\nx=nx'') ?_ ?_
 ·have zz:=aI @t0 (aI @t1 (aI @t4 (aI @t12 @t13)));repeat' (first|refine zW ?_|apply a_n|refine zO ?_|fail)
  refine bN (X:=Nat) (λi=>[(0,.msl b n 1 0 n),(1,.int .i64 a),(4,.func g caps),(12,.int .i64 (i:Nat)),(13,.int .i64 (j:Nat))]) (λi H' nxx=>PartR P a e mu i j M/\H'=ar H b (M.map f)/\nx=nxx) (λi=>j+1-i) i ⟨hpt,rfl,rfl⟩ (have zz:=aI @t0 (aI @t1 (aI @t4 (aI @t12 @t13)));agZ) ?_;clear zz;clear t0 t1 t4 t12 t13 hpt i;rintro i H' nxx ⟨hpt,rfl,rfl⟩;have hlo:=hpt.lo;have hmid:=hpt.mid;have hhi:=hpt.hi;have ii:((i:Nat):Int)+1=((i+1:Nat):Int):=by omega
  by_cases hij:j<i
  ·repeat' (first|refine zW ?_|refine zM ?_|apply a_n|apply a_x|refine zO ?_|refine vZ ?_|refine gFZ ?_|(refine zGZ ?_ ?_<;>(intro _hg;try (exfalso;omega)))|refine cFZ ?_|fail)
   exact⟨i,hpt,λh=>absurd h (by omega),rfl,rfl,rfl,rfl,rfl,rfl,rfl⟩
  have lc:=hc.run (M.getD (i) default) (M.getD (a) default) (hGM _ (bk (by omega))) (hGM _ (bk (by omega)));have e1:=hc.dat (M.getD (i) default);have e2:=hc.dat (M.getD (a) default);have hPk:P (M.getD (i) default)↔K (M.getD (i) default) (M.getD (a) default)<0:=by rw[hP,hv]
  generalize hKK:K (M.getD (i) default) (M.getD (a) default)=kk at lc hPk;by_cases hlt:kk<0
  ·have zz:=aI @ii (aI @cz (aI hc.cells hc.one));repeat' (first|refine zW ?_|refine zM ?_|apply a_n|refine zO ?_|refine vZ ?_|refine cZ ?_ (hp:=lc) (hs:=by(first|refine aF ?_ rfl|apply aW);(repeat' (first|exact aj|apply bo|apply aX|exact e1|exact e2|exact bl dcap));first|done|fail)|refine gTZ ?_|(refine zGZ ?_ ?_<;>(intro _hg;try (exfalso;omega)))|fail)
   exact⟨i+1,by omega,⟨hpt.stepUp (by omega) (by rw[hPk];exact hlt),rfl,rfl⟩,ag0⟩
  ·have zz:=aI @ii (aI @cz (aI hc.cells hc.one));repeat' (first|refine zW ?_|refine zM ?_|apply a_n|apply a_x|refine zO ?_|refine vZ ?_|refine cZ ?_ (hp:=lc) (hs:=by(first|refine aF ?_ rfl|apply aW);(repeat' (first|exact aj|apply bo|apply aX|exact e1|exact e2|exact bl dcap));first|done|fail)|refine gTZ ?_|(refine zGZ ?_ ?_<;>(intro _hg;try (exfalso;omega)))|fail)
   exact⟨i,hpt,λ_=>(by rw[hPk];first|exact hlt|exact λh=>h hlt),rfl,rfl,rfl,rfl,rfl,rfl,rfl⟩
 clear t0 t1 t4 t12 t13 hpt i;rintro T _ _ ⟨i,hpt,hni,t0,t1,t4,t12,t13,rfl,rfl⟩;refine cr (λT H'' nx''=>∃j:Nat,PartR P a e mu i j M/\(i<=j->¬P (M.getD i default))/\(i<=j->P (M.getD j default))/\T 0=.msl b n 1 0 n/\T 1=.int .i64 a/\T 4=.func g caps/\T 12=.int .i64 (i:Nat)/\T 13=.int .i64 (j:Nat)/\H''=ar H b ((M).map f)/\nx=nx'') ?_ ?_
 ·have zz:=aI @t0 (aI @t1 (aI @t4 (aI @t12 @t13)));repeat' (first|refine zW ?_|apply a_n|refine zO ?_|fail)
  refine bN (X:=Nat) (λj=>[(0,.msl b n 1 0 n),(1,.int .i64 a),(4,.func g caps),(12,.int .i64 (i:Nat)),(13,.int .i64 (j:Nat))]) (λj H' nxx=>PartR P a e mu i j M/\(i<=j->¬P (M.getD i default))/\H'=ar H b (M.map f)/\nx=nxx) (λj=>j) j ⟨hpt,hni,rfl,rfl⟩ (have zz:=aI @t0 (aI @t1 (aI @t4 (aI @t12 @t13)));agZ) ?_;clear zz;clear t0 t1 t4 t12 t13 hpt hni j;rintro j H' nxx ⟨hpt,hni,rfl,rfl⟩;have hlo:=hpt.lo;have hmid:=hpt.mid;have hhi:=hpt.hi;by_cases hij:j<i
  ·repeat' (first|refine zW ?_|refine zM ?_|apply a_n|apply a_x|refine zO ?_|refine vZ ?_|refine gFZ ?_|(refine zGZ ?_ ?_<;>(intro _hg;try (exfalso;omega)))|refine cFZ ?_|fail)
   exact⟨j,hpt,hni,λh=>absurd h (by omega),rfl,rfl,rfl,rfl,rfl,rfl,rfl⟩
  obtain⟨k,rfl⟩:∃k,j=k+1:=⟨j-1,by omega⟩
  have tk:((k+1:Nat):Int)-1=(k:Int):=by omega
  have lc:=hc.run (M.getD (k+1) default) (M.getD (a) default) (hGM _ (bk (by omega))) (hGM _ (bk (by omega)));have e1:=hc.dat (M.getD (k+1) default);have e2:=hc.dat (M.getD (a) default);have hPk:P (M.getD (k+1) default)↔K (M.getD (k+1) default) (M.getD (a) default)<0:=by rw[hP,hv]
  generalize hKK:K (M.getD (k+1) default) (M.getD (a) default)=kk at lc hPk;by_cases hlt:kk<0
  ·have zz:=aI @tk (aI @cz (aI hc.cells hc.one));repeat' (first|refine zW ?_|refine zM ?_|apply a_n|apply a_x|refine zO ?_|refine vZ ?_|refine cZ ?_ (hp:=lc) (hs:=by(first|refine aF ?_ rfl|apply aW);(repeat' (first|exact aj|apply bo|apply aX|exact e1|exact e2|exact bl dcap));first|done|fail)|refine gTZ ?_|(refine zGZ ?_ ?_<;>(intro _hg;try (exfalso;omega)))|fail)
   exact⟨k+1,hpt,hni,λ_=>(by rw[hPk];exact hlt),rfl,rfl,rfl,rfl,rfl,rfl,rfl⟩
  ·have zz:=aI @tk (aI @cz (aI hc.cells hc.one));repeat' (first|refine zW ?_|refine zM ?_|apply a_n|refine zO ?_|refine vZ ?_|refine cZ ?_ (hp:=lc) (hs:=by(first|refine aF ?_ rfl|apply aW);(repeat' (first|exact aj|apply bo|apply aX|exact e1|exact e2|exact bl dcap));first|done|fail)|refine gTZ ?_|(refine zGZ ?_ ?_<;>(intro _hg;try (exfalso;omega)))|fail)
   exact⟨k,by omega,⟨hpt.stepDn (by omega) (by rw[hPk];first|exact hlt|exact λh=>h hlt),λ_=>hni (by omega),rfl,rfl⟩,ag0⟩
 clear t0 t1 t4 t12 t13 hpt hni j;rintro T _ _ ⟨j,hpt,hni,hnj,t0,t1,t4,t12,t13,rfl,rfl⟩;have hlo:=hpt.lo;have hmid:=hpt.mid;have hhi:=hpt.hi;by_cases hji:j<i
 ·clear hni hnj;obtain⟨z1,z2,z3,z4⟩:=hpt.done hc.ord (by omega) hji hv hP;obtain⟨M1,hl1,lm1,lm2⟩:=d7 (f:=f) (M:=M) (i:=j) (j:=a) (by omega) (by omega);have lm3:=lm2;simp only[bD,bK,fo,cp] at lm1 lm2;have zz:=aI @t0 (aI @t1 (aI @t4 (aI @t12 (aI @t13 (aI @cz (aI hc.cells (aI hc.one (aI @lm1 @lm2))))))));repeat' (first|refine zW ?_|apply a_n|apply a_r|refine zO ?_|refine vZ ?_|refine stZ ?_|(refine zGZ ?_ ?_<;>(intro _hg;try (exfalso;omega)))|refine bS rfl ?_|refine r2Z ?_|fail)
  exact⟨rfl,swp M j a,j,true,rfl,z1,z2,by rw[bd,bd,lm3],hp.trans (PermR.swap (by omega) (by omega) (by omega)),z3,z4⟩
 obtain⟨k,rfl⟩:∃k,j=k+1:=⟨j-1,by omega⟩
 have tk:((k+1:Nat):Int)-1=(k:Int):=by omega
 have ii:((i:Nat):Int)+1=((i+1:Nat):Int):=by omega
 obtain⟨M1,hl1,lm1,lm2⟩:=d7 (f:=f) (M:=M) (i:=i) (j:=k+1) (by omega) (by omega);have lm3:=lm2;simp only[bD,bK,fo,cp] at lm1 lm2;have zz:=aI @t0 (aI @t1 (aI @t4 (aI @t12 (aI @t13 (aI @tk (aI @ii (aI @cz (aI hc.cells (aI hc.one (aI @lm1 @lm2))))))))));repeat' (first|refine zW ?_|apply a_n|refine zO ?_|refine vZ ?_|refine stZ ?_|(refine zGZ ?_ ?_<;>(intro _hg;try (exfalso;omega)))|fail)
 obtain⟨hq1,hq2⟩:=hpt.swap (by omega) (by omega) (hni (by omega)) (hnj (by omega));have hp2:PermR a e L (swp M i (k+1)):=hp.trans (PermR.swap (by omega) (by omega) (by omega));have hv2:(swp M i (k+1)).getD a default=v:=by rw[tg (by omega) (by omega) (by omega) (by omega)];exact hv
 refine bN (X:=Nat×Nat×List α) (λx=>[(0,.msl b n 1 0 n),(1,.int .i64 a),(4,.func g caps),(12,.int .i64 (x.1:Nat)),(13,.int .i64 (x.2.1:Nat))]) (λx H' nxx=>PartR P a e (x.2.1+1-x.1) x.1 x.2.1 x.2.2/\H'=ar H b (x.2.2.map f)/\nx=nxx/\PermR a e L x.2.2/\x.2.2.getD a default=v) (λx=>x.2.1+1-x.1) (i+1,k,swp M i (k+1)) ⟨hq1,by dsimp only;rw[bd,bd,lm3],rfl,hp2,hv2⟩ (have zz:=aI @t0 (aI @t1 (aI @t4 (aI @t12 @t13)));agZ) ?_;clear zz;clear t0 t1 t4 t12 t13 lm1 lm2 lm3 hl1 M1 hp2 hv2 hq1 hq2 hpt hni hnj hp hv hGM;rintro⟨i,j,M⟩ H' nxx ⟨hpt,rfl,rfl,hp,hv⟩;dsimp only at *;have hl:M.length=n:=by rw[hp.len,hn]
 have hGM:=hp.mem hG;generalize hmu:j+1-i=mu at hpt |-;clear hmu;obtain⟨T,hT,t0,t1,t4,t12,t13⟩:∃T,tl [(0,.msl b n 1 0 n),(1,.int .i64 a),(4,.func g caps),(12,.int .i64 (i:Nat)),(13,.int .i64 (j:Nat))]=T/\T 0=.msl b n 1 0 n/\T 1=.int .i64 a/\T 4=.func g caps/\T 12=.int .i64 (i:Nat)/\T 13=.int .i64 (j:Nat):=⟨_,rfl,rfl,rfl,rfl,rfl,rfl⟩
 rw[hT];clear hT;refine lq ?_;refine cr (λT H'' nx''=>∃i:Nat,PartR P a e mu i j M/\(i<=j->¬P (M.getD i default))/\T 0=.msl b n 1 0 n/\T 1=.int .i64 a/\T 4=.func g caps/\T 12=.int .i64 (i:Nat)/\T 13=.int .i64 (j:Nat)/\H''=ar H b ((M).map f)/\nx=nx'') ?_ ?_
 ·have zz:=aI @t0 (aI @t1 (aI @t4 (aI @t12 @t13)));repeat' (first|refine zW ?_|apply a_n|refine zO ?_|fail)
  refine bN (X:=Nat) (λi=>[(0,.msl b n 1 0 n),(1,.int .i64 a),(4,.func g caps),(12,.int .i64 (i:Nat)),(13,.int .i64 (j:Nat))]) (λi H' nxx=>PartR P a e mu i j M/\H'=ar H b (M.map f)/\nx=nxx) (λi=>j+1-i) i ⟨hpt,rfl,rfl⟩ (have zz:=aI @t0 (aI @t1 (aI @t4 (aI @t12 @t13)));agZ) ?_;clear zz;clear t0 t1 t4 t12 t13 hpt i;rintro i H' nxx ⟨hpt,rfl,rfl⟩;have hlo:=hpt.lo;have hmid:=hpt.mid;have hhi:=hpt.hi;have ii:((i:Nat):Int)+1=((i+1:Nat):Int):=by omega
  by_cases hij:j<i
  ·repeat' (first|refine zW ?_|refine zM ?_|apply a_n|apply a_x|refine zO ?_|refine vZ ?_|refine gFZ ?_|(refine zGZ ?_ ?_<;>(intro _hg;try (exfalso;omega)))|refine cFZ ?_|fail)
   exact⟨i,hpt,λh=>absurd h (by omega),rfl,rfl,rfl,rfl,rfl,rfl,rfl⟩
  have lc:=hc.run (M.getD (i) default) (M.getD (a) default) (hGM _ (bk (by omega))) (hGM _ (bk (by omega)));have e1:=hc.dat (M.getD (i) default);have e2:=hc.dat (M.getD (a) default);have hPk:P (M.getD (i) default)↔K (M.getD (i) default) (M.getD (a) default)<0:=by rw[hP,hv]
  generalize hKK:K (M.getD (i) default) (M.getD (a) default)=kk at lc hPk;by_cases hlt:kk<0
  ·have zz:=aI @ii (aI @cz (aI hc.cells hc.one));repeat' (first|refine zW ?_|refine zM ?_|apply a_n|refine zO ?_|refine vZ ?_|refine cZ ?_ (hp:=lc) (hs:=by(first|refine aF ?_ rfl|apply aW);(repeat' (first|exact aj|apply bo|apply aX|exact e1|exact e2|exact bl dcap));first|done|fail)|refine gTZ ?_|(refine zGZ ?_ ?_<;>(intro _hg;try (exfalso;omega)))|fail)
   exact⟨i+1,by omega,⟨hpt.stepUp (by omega) (by rw[hPk];exact hlt),rfl,rfl⟩,ag0⟩
  ·have zz:=aI @ii (aI @cz (aI hc.cells hc.one));repeat' (first|refine zW ?_|refine zM ?_|apply a_n|apply a_x|refine zO ?_|refine vZ ?_|refine cZ ?_ (hp:=lc) (hs:=by(first|refine aF ?_ rfl|apply aW);(repeat' (first|exact aj|apply bo|apply aX|exact e1|exact e2|exact bl dcap));first|done|fail)|refine gTZ ?_|(refine zGZ ?_ ?_<;>(intro _hg;try (exfalso;omega)))|fail)
   exact⟨i,hpt,λ_=>(by rw[hPk];first|exact hlt|exact λh=>h hlt),rfl,rfl,rfl,rfl,rfl,rfl,rfl⟩
 clear t0 t1 t4 t12 t13 hpt i;rintro T _ _ ⟨i,hpt,hni,t0,t1,t4,t12,t13,rfl,rfl⟩;refine cr (λT H'' nx''=>∃j:Nat,PartR P a e mu i j M/\(i<=j->¬P (M.getD i default))/\(i<=j->P (M.getD j default))/\T 0=.msl b n 1 0 n/\T 1=.int .i64 a/\T 4=.func g caps/\T 12=.int .i64 (i:Nat)/\T 13=.int .i64 (j:Nat)/\H''=ar H b ((M).map f)/\nx=nx'') ?_ ?_
 ·have zz:=aI @t0 (aI @t1 (aI @t4 (aI @t12 @t13)));repeat' (first|refine zW ?_|apply a_n|refine zO ?_|fail)
  refine bN (X:=Nat) (λj=>[(0,.msl b n 1 0 n),(1,.int .i64 a),(4,.func g caps),(12,.int .i64 (i:Nat)),(13,.int .i64 (j:Nat))]) (λj H' nxx=>PartR P a e mu i j M/\(i<=j->¬P (M.getD i default))/\H'=ar H b (M.map f)/\nx=nxx) (λj=>j) j ⟨hpt,hni,rfl,rfl⟩ (have zz:=aI @t0 (aI @t1 (aI @t4 (aI @t12 @t13)));agZ) ?_;clear zz;clear t0 t1 t4 t12 t13 hpt hni j;rintro j H' nxx ⟨hpt,hni,rfl,rfl⟩;have hlo:=hpt.lo;have hmid:=hpt.mid;have hhi:=hpt.hi;by_cases hij:j<i
  ·repeat' (first|refine zW ?_|refine zM ?_|apply a_n|apply a_x|refine zO ?_|refine vZ ?_|refine gFZ ?_|(refine zGZ ?_ ?_<;>(intro _hg;try (exfalso;omega)))|refine cFZ ?_|fail)
   exact⟨j,hpt,hni,λh=>absurd h (by omega),rfl,rfl,rfl,rfl,rfl,rfl,rfl⟩
  obtain⟨k,rfl⟩:∃k,j=k+1:=⟨j-1,by omega⟩
  have tk:((k+1:Nat):Int)-1=(k:Int):=by omega
  have lc:=hc.run (M.getD (k+1) default) (M.getD (a) default) (hGM _ (bk (by omega))) (hGM _ (bk (by omega)));have e1:=hc.dat (M.getD (k+1) default);have e2:=hc.dat (M.getD (a) default);have hPk:P (M.getD (k+1) default)↔K (M.getD (k+1) default) (M.getD (a) default)<0:=by rw[hP,hv]
  generalize hKK:K (M.getD (k+1) default) (M.getD (a) default)=kk at lc hPk;by_cases hlt:kk<0
  ·have zz:=aI @tk (aI @cz (aI hc.cells hc.one));repeat' (first|refine zW ?_|refine zM ?_|apply a_n|apply a_x|refine zO ?_|refine vZ ?_|refine cZ ?_ (hp:=lc) (hs:=by(first|refine aF ?_ rfl|apply aW);(repeat' (first|exact aj|apply bo|apply aX|exact e1|exact e2|exact bl dcap));first|done|fail)|refine gTZ ?_|(refine zGZ ?_ ?_<;>(intro _hg;try (exfalso;omega)))|fail)
   exact⟨k+1,hpt,hni,λ_=>(by rw[hPk];exact hlt),rfl,rfl,rfl,rfl,rfl,rfl,rfl⟩
  ·have zz:=aI @tk (aI @cz (aI hc.cells hc.one));repeat' (first|refine zW ?_|refine zM ?_|apply a_n|refine zO ?_|refine vZ ?_|refine cZ ?_ (hp:=lc) (hs:=by(first|refine aF ?_ rfl|apply aW);(repeat' (first|exact aj|apply bo|apply aX|exact e1|exact e2|exact bl dcap));first|done|fail)|refine gTZ ?_|(refine zGZ ?_ ?_<;>(intro _hg;try (exfalso;omega)))|fail)
   exact⟨k,by omega,⟨hpt.stepDn (by omega) (by rw[hPk];first|exact hlt|exact λh=>h hlt),λ_=>hni (by omega),rfl,rfl⟩,ag0⟩
 clear t0 t1 t4 t12 t13 hpt hni j;rintro T _ _ ⟨j,hpt,hni,hnj,t0,t1,t4,t12,t13,rfl,rfl⟩;have hlo:=hpt.lo;have hmid:=hpt.mid;have hhi:=hpt.hi;by_cases hji:j<i
 ·clear hni hnj;obtain⟨z1,z2,z3,z4⟩:=hpt.done hc.ord (by omega) hji hv hP;obtain⟨M1,hl1,lm1,lm2⟩:=d7 (f:=f) (M:=M) (i:=j) (j:=a) (by omega) (by omega);have lm3:=lm2;simp only[bD,bK,fo,cp] at lm1 lm2;have zz:=aI @t0 (aI @t1 (aI @t4 (aI @t12 (aI @t13 (aI @cz (aI hc.cells (aI hc.one (aI @lm1 @lm2))))))));repeat' (first|refine zW ?_|apply a_n|apply a_x|refine zO ?_|refine vZ ?_|refine stZ ?_|(refine zGZ ?_ ?_<;>(intro _hg;try (exfalso;omega)))|refine bS rfl ?_|refine r2Z ?_|fail)
  exact⟨rfl,swp M j a,j,false,rfl,z1,z2,by rw[bd,bd,lm3],hp.trans (PermR.swap (by omega) (by omega) (by omega)),z3,z4⟩
 obtain⟨k,rfl⟩:∃k,j=k+1:=⟨j-1,by omega⟩
 have tk:((k+1:Nat):Int)-1=(k:Int):=by omega
 have ii:((i:Nat):Int)+1=((i+1:Nat):Int):=by omega
 obtain⟨M1,hl1,lm1,lm2⟩:=d7 (f:=f) (M:=M) (i:=i) (j:=k+1) (by omega) (by omega);have lm3:=lm2;simp only[bD,bK,fo,cp] at lm1 lm2;have zz:=aI @t0 (aI @t1 (aI @t4 (aI @t12 (aI @t13 (aI @tk (aI @ii (aI @cz (aI hc.cells (aI hc.one (aI @lm1 @lm2))))))))));repeat' (first|refine zW ?_|apply a_n|refine zO ?_|refine vZ ?_|refine stZ ?_|(refine zGZ ?_ ?_<;>(intro _hg;try (exfalso;omega)))|fail)
 obtain⟨hq1,hq2⟩:=hpt.swap (by omega) (by omega) (hni (by omega)) (hnj (by omega));exact⟨(i+1,k,swp M i (k+1)),hq2,⟨hq1,by dsimp only;rw[bd,bd,lm3],rfl,hp.trans (PermR.swap (by omega) (by omega) (by omega)),by dsimp only;rw[tg (by omega) (by omega) (by omega) (by omega)];exact hv⟩,(have zz:=aI @t0 (aI @t1 (aI @t4 (aI @t12 @t13)));agZ)⟩
end
section
attribute [local irreducible] aK ak bg a6 aQ aS aE aU a8 bn Go.Abs.Fn a5 Go.Abs.Pure au aM Yl
section
end
theorem JI(a b:Spx)(ha:ce cJ a)(hb:ce cJ b)(la:a.length<=1000000)(lb:b.length<=1000000):pU 158 [aA a,aA b] (.bool (eh a b)):=by
 refine pO LI ?_;simp only[MG,aH];refine wnZ @ao ?_;refine bN (X:=Nat×Nat) (λx=>[(1,aA (b.drop x.2)),(7,aA a),(8,.int .i64 a.length),(9,.int .i64 x.1)]) (λx H nx=>x.1<=a.length/\x.2<=b.length/\(∀i,i<x.1->decide (a.getD i default∈b)=true)/\∀i m,i<x.2->x.1<=m->m<a.length->b.getD i default≠a.getD m default) (λx=>a.length-x.1) (0,0) ⟨bw _,bw _,λi h=>absurd h (by omega),λi m h=>absurd h (by omega)⟩ (by simp (disch:=omega) only[agr,ZG,reduceEqDiff,↓reduceIte,List.drop_zero]) ?_;rintro⟨k,j⟩ H nx ⟨h1,h2,h3,h4⟩;dsimp only at h1 h2 h3 h4 |-;by_cases hk:k<a.length
 rotate_left
 ·refine wnY and_self ?_;exact cf (iC λi hi=>h3 i (by omega)).symm
 have ix:=ix2 hk;have hlt:∀m,k<m->m<a.length->cJ (a.getD k default) (a.getD m default)<0:=λm h5 h6=>eO ha h5 h6;have hkm:∀j',(∀i,i<j'->b.getD i default≠a.getD k default)->b.length<=j'->decide (a.getD k default∈b)=false:=λj' h5 h6=>aO (AF λi hi=>h5 i (by omega));have hall:decide (a.getD k default∈b)=false->eh a b=false:=λh=>gQ hk h;have hdec:=λi=>xR (b.getD i default) (a.getD k default);have h40:=λi hi=>h4 i k hi (aR _) hk;generalize hv:a.getD k default=v at *;refine wnY @ix ?_;refine bN (X:=Nat) (λj'=>[(1,aA (b.drop j')),(6,.ptr nx 2 0),(7,aA a),(8,.int .i64 a.length),(9,.int .i64 k)]) (λj' H' nx'=>j'<=b.length/\H' nx=some [.int .i64 v.color,.int .i64 v.label]/\nx<nx'/\∀i,i<j'->b.getD i default≠v) (λj'=>b.length-j') j ⟨h2,by rw[ah];rfl,by omega,h40⟩ (by simp (disch:=omega) only[agr,ZG,reduceEqDiff,↓reduceIte,bK,fo,cp,reduceAdd]) ?_;rintro j' H' nx' ⟨k1,g0,hnx,k2⟩;have hlen:(b.drop j').length=b.length-j':=wR ..;by_cases hj:j'<b.length
 rotate_left
 ·have z1:decide (0<((b.drop j').length:Int))=false:=aO (by omega);have z2:decide (((b.drop j').length:Int)=0)=true:=aL (by omega);rw[hall (hkm j' k2 (by omega))];refine wnY (zI3 @ao @z1 @z2) ?_;exact .bool _
 have z1:decide (0<((b.drop j').length:Int))=true:=aL (by omega);have z2:decide (((b.drop j').length:Int)=0)=false:=aO (by omega);have iy:=ix2 (l:=b.drop j') (k:=0) (by omega);rw[CB hj,show((0:Nat):Int)=0 from rfl] at iy;have hd:=hdec j';by_cases he:b.getD j' default=v
 ·rw[aL he] at hd;refine wnY (zI7 @ao @z1 @z2 @iy @g0 @acn @hd) ?_;refine⟨(k+1,j'),by dsimp only;omega,⟨by dsimp only;omega,by dsimp only;omega,λi hi=>?_,λi m h5 h6 h7 e=>?_⟩,ag0⟩
  ·rcases gN.1 hi with h'|rfl
   ·exact h3 i h'
   ·rw[hv,<-he];exact aL (ay hj)
  ·have q1:=eO hb h5 hj;have q2:=hlt m (by dsimp only at h6;omega) h7;rw[e,he] at q1;exact z9.ord.asym _ _ q1 q2
 ·rw[aO he] at hd
  have hs:jI 2 (aA (b.drop j')) (some (.int .i64 1)) none none=some (aA (b.drop (j'+1))):=by
   have:=kS (sz:=2) (f:=dF) (l:=b.drop j') (k:=1) (by omega);rw[List.drop_drop] at this;exact this
  refine wnY (zI8 @ao @z1 @z2 @iy @g0 @acn @hd @hs) ?_
  exact ⟨j' + 1,by omega,⟨by omega,g0,hnx,fun i hi=>by
   rcases gN.1 hi with h'|rfl
   ·exact k2 i h'
   ·exact he⟩,ag0⟩
section
variable{α:Type}[Inhabited α]{f:α->AV}{K:α->α->Int}{G:α->Prop}{g:Nat}{caps:List AV}
theorem s7(hc:Cmp Tryz.prog f K G g caps){L:List α}{H:Hp}{b c nx n i j k s lo hi:Nat}(hH:H b=some (L.map f))(hbc:b≠c)(hcc:H c=some [.int .i64 (s:Nat)])(hn:L.length=n)(hG:∀x∈L,G x)(hi1:lo<=i/\i<hi)(hj1:lo<=j/\j<hi)(hk1:lo<=k/\k<hi)(hhi:hi<=n)(hn2:n<=1000000000)(hs:s<=50):
    Abs.Fn Tryz.prog 201 [.msl b n 1 0 n,.int .i64 i,.int .i64 j,.int .i64 k,.ptr c 1 0,.func g caps] H nx λr H' nx'=>nx'=nx/\∃p s':Nat,r=.int .i64 p/\lo<=p/\p<hi/\s'<=s+3/\H'=ar H c [.int .i64 s']:=by
 refine fO L3 ?_;simp only[KX,aH];refine wnZ and_self ?_;refine bc ev0 ev0 (tF hc (b:=b) hH hcc hn hG (i:=i) (j:=j) (by omega) (by omega) hn2 (by omega)) ?_;rintro _ _ _ ⟨rfl,i1,j1,s1,rfl,h1,hs1,rfl⟩;refine wnZ and_self ?_;refine bc ev0 ev0 (tF hc (b:=b) (by rw[ac hbc];exact hH) ah hn hG (i:=j1) (j:=k) (by omega) (by omega) hn2 (by omega)) ?_;rintro _ _ _ ⟨rfl,j2,k2,s2,rfl,h2,hs2,rfl⟩;refine wnZ and_self ?_;refine bc ev0 ev0 (tF hc (b:=b) (by rw[bd,ac hbc];exact hH) ah hn hG (i:=i1) (j:=j2) (by omega) (by omega) hn2 (by omega)) ?_;rintro _ _ _ ⟨rfl,i3,j3,s3,rfl,h3,hs3,rfl⟩;refine wnZ and_self ?_;exact⟨rfl,j3,s3,rfl,by omega,by omega,by omega,by rw[bd,bd]⟩
theorem sP(hc:Cmp Tryz.prog f K G g caps){L:List α}{H:Hp}{b c nx n i s lo hi:Nat}(hH:H b=some (L.map f))(hbc:b≠c)(hcc:H c=some [.int .i64 (s:Nat)])(hn:L.length=n)(hG:∀x∈L,G x)(hi1:lo+1<=i/\i+1<hi)(hhi:hi<=n)(hn2:n<=1000000000)(hs:s<=50):
    Abs.Fn Tryz.prog 200 [.msl b n 1 0 n,.int .i64 i,.ptr c 1 0,.func g caps] H nx λr H' nx'=>nx'=nx/\∃p s':Nat,r=.int .i64 p/\lo<=p/\p<hi/\s'<=s+3/\H'=ar H c [.int .i64 s']:=by
 obtain⟨m,rfl⟩:∃m,i=m+1:=⟨i-1,by omega⟩
 have t1:((m+1:Nat):Int)-1=(m:Int):=by omega
 have t2:((m+1:Nat):Int)+1=((m+1+1:Nat):Int):=by omega
 refine fO Kg ?_;simp only[Kt,aH];refine wnZ (aI @t1 @t2) ?_;refine bc ev0 ev0 (s7 hc (b:=b) hH hbc hcc hn hG (i:=m) (j:=m+1) (k:=m+1+1) (lo:=lo) (hi:=hi) (by omega) (by omega) (by omega) hhi hn2 hs) ?_;rintro _ _ _ ⟨rfl,p,s1,rfl,h1,h2,hs1,rfl⟩;refine wnZ and_self ?_;exact⟨rfl,p,s1,rfl,h1,h2,hs1,rfl⟩
theorem EL(hc:Cmp Tryz.prog f K G g caps){L:List α}{H:Hp}{b nx n a e:Nat}(hH:H b=some (L.map f))(hbx:b<nx)(hn:L.length=n)(hG:∀x∈L,G x)(hae:a+8<=e)(hen:e<=n)(hn2:n<=1000000000):
    Abs.Fn Tryz.prog 169 [.msl b n 1 0 n,.int .i64 a,.int .i64 e,.func g caps] H nx λr H' nx'=>nx'=nx+1/\∃(p:Nat)(hint:Int)(v:List AV),r=.tup [.int .i64 p,.int .i64 hint]/\a<=p/\p<e/\H'=ar H nx v:=by
 obtain⟨l,rfl⟩:∃l,e=a+l:=⟨e-a,by omega⟩
 have te:((a+l:Nat):Int)-(a:Int)=(l:Int):=by omega
 obtain⟨q,hq⟩:∃q,l/4=q:=⟨_,rfl⟩
 have tq:bt .quo false false (.int .i64 (l:Int)) (.int .i64 4)=some (.int .i64 (q:Int)):=by
  rw[o7 (by omega) (by omega) (by omega)]
  congr 2
  omega
 have w1:(a:Int)+(q:Int)*1=((a+q:Nat):Int):=by omega
 have w2:(a:Int)+(q:Int)*2=((a+q*2:Nat):Int):=by omega
 have w3:(a:Int)+(q:Int)*3=((a+q*3:Nat):Int):=by omega
 have hbn:b≠nx:=by omega
 refine fO Lf ?_;simp only[KT,aH];have last:∀(s:Nat)(H1:Hp),H1=ar (ar H nx [.int .i64 0]) nx [.int .i64 s]->H1 nx=some [.int .i64 (s:Nat)]:=λs H1 h=>by rw[h];exact ah
 have hHn:∀v,ar H nx v b=some (L.map f):=λv=>by rw[ac hbn];exact hH
 by_cases h50:50<=l
 ·refine wnZ (zI5 @te @tq @w1 @w2 @w3) ?_;refine bc ev0 ev0 (sP hc (b:=b) (c:=nx) (s:=0) (i:=a+q) (lo:=a) (hi:=a+l) (hHn _) hbn ah hn hG (by omega) (by omega) hn2 (by omega)) ?_;rintro _ _ _ ⟨rfl,p1,s1,rfl,k1,k2,hs1,rfl⟩;rw[bd];refine wnZ and_self ?_;refine bc ev0 ev0 (sP hc (b:=b) (c:=nx) (s:=s1) (i:=a+q*2) (lo:=a) (hi:=a+l) (hHn _) hbn ah hn hG (by omega) (by omega) hn2 (by omega)) ?_;rintro _ _ _ ⟨rfl,p2,s2,rfl,k3,k4,hs2,rfl⟩;rw[bd];refine wnZ and_self ?_;refine bc ev0 ev0 (sP hc (b:=b) (c:=nx) (s:=s2) (i:=a+q*3) (lo:=a) (hi:=a+l) (hHn _) hbn ah hn hG (by omega) (by omega) hn2 (by omega)) ?_;rintro _ _ _ ⟨rfl,p3,s3,rfl,k5,k6,hs3,rfl⟩;rw[bd];refine wnZ and_self ?_;refine bc ev0 ev0 (s7 hc (b:=b) (c:=nx) (s:=s3) (i:=p1) (j:=p2) (k:=p3) (lo:=a) (hi:=a+l) (hHn _) hbn ah hn hG (by omega) (by omega) (by omega) (by omega) hn2 (by omega)) ?_;rintro _ _ _ ⟨rfl,p4,s4,rfl,k7,k8,hs4,rfl⟩;rw[bd]
  repeat' (first|refine zW ?_|apply a_n|refine zO ?_|refine vZ ?_|(refine zGZ ?_ ?_<;>(intro _hg;try (exfalso;omega)))|refine bS rfl ?_|refine r2Z ?_|fail)
  all_goals exact⟨rfl,p4,_,_,rfl,by omega,by omega,rfl⟩
 ·refine wnZ (zI5 @te @tq @w1 @w2 @w3) ?_;refine bc ev0 ev0 (s7 hc (b:=b) (c:=nx) (s:=0) (i:=a+q) (j:=a+q*2) (k:=a+q*3) (lo:=a) (hi:=a+l) (hHn _) hbn ah hn hG (by omega) (by omega) (by omega) (by omega) hn2 (by omega)) ?_;rintro _ _ _ ⟨rfl,p4,s4,rfl,k7,k8,hs4,rfl⟩;rw[bd]
  repeat' (first|refine zW ?_|apply a_n|refine zO ?_|refine vZ ?_|(refine zGZ ?_ ?_<;>(intro _hg;try (exfalso;omega)))|refine bS rfl ?_|refine r2Z ?_|fail)
  all_goals exact⟨rfl,p4,_,_,rfl,by omega,by omega,rfl⟩
end
end
end Go.Proofs.YtekdaafnjdlenaaGreat
namespace Go.Proofs.YtekdaafnjdlenaaGreat
open Go Go.Abs
def ow(x:Nat):Nat:=if x=0 then 0 else Nat.log2 x+1
def rZ:ByteArray:=ByteArray.mk (Array.mk [0,1,2,2,3,3,3,3,4,4,4,4,4,4,4,4,5,5,5,5,5,5,5,5,5,5,5,5,5,5,5,5,6,6,6,6,6,6,6,6,6,6,6,6,6,6,6,6,6,6,6,6,6,6,6,6,6,6,6,6,6,6,6,6,7,7,7,7,7,7,7,7,7,7,7,7,7,7,7,7,7,7,7,7,7,7,7,7,7,7,7,7,7,7,7,7,7,7,7,7,7,7,7,7,7,7,7,7,7,7,7,7,7,7,7,7,7,7,7,7,7,7,7,7,7,7,7,7,8,8,8,8,8,8,8,8,8,8,8,8,8,8,8,8,8,8,8,8,8,8,8,8,8,8,8,8,8,8,8,8,8,8,8,8,8,8,8,8,8,8,8,8,8,8,8,8,8,8,8,8,8,8,8,8,8,8,8,8,8,8,8,8,8,8,8,8,8,8,8,8,8,8,8,8,8,8,8,8,8,8,8,8,8,8,8,8,8,8,8,8,8,8,8,8,8,8,8,8,8,8,8,8,8,8,8,8,8,8,8,8,8,8,8,8,8,8,8,8,8,8,8,8,8,8,8,8])
theorem HJ(x:Nat):x<2^ow x:=by
 unfold ow;split
 ·omega
 ·exact Nat.lt_log2_self
theorem Ck{x:Nat}(h:0<x):2^ow x<=2*x:=by
 unfold ow;rw[if_neg (by omega),Nat.pow_succ];have:=Nat.log2_self_le (n:=x) (by omega);omega
theorem zm{x:Nat}(hx:x<256):nZ (.str (ByteArray.mk (Array.mk [0,1,2,2,3,3,3,3,4,4,4,4,4,4,4,4,5,5,5,5,5,5,5,5,5,5,5,5,5,5,5,5,6,6,6,6,6,6,6,6,6,6,6,6,6,6,6,6,6,6,6,6,6,6,6,6,6,6,6,6,6,6,6,6,7,7,7,7,7,7,7,7,7,7,7,7,7,7,7,7,7,7,7,7,7,7,7,7,7,7,7,7,7,7,7,7,7,7,7,7,7,7,7,7,7,7,7,7,7,7,7,7,7,7,7,7,7,7,7,7,7,7,7,7,7,7,7,7,8,8,8,8,8,8,8,8,8,8,8,8,8,8,8,8,8,8,8,8,8,8,8,8,8,8,8,8,8,8,8,8,8,8,8,8,8,8,8,8,8,8,8,8,8,8,8,8,8,8,8,8,8,8,8,8,8,8,8,8,8,8,8,8,8,8,8,8,8,8,8,8,8,8,8,8,8,8,8,8,8,8,8,8,8,8,8,8,8,8,8,8,8,8,8,8,8,8,8,8,8,8,8,8,8,8,8,8,8,8,8,8,8,8,8,8,8,8,8,8,8,8,8,8,8,8,8,8]))) (.int .u8 (x:Nat))=some (.int .u8 (ow x:Nat)):=by
 have h1:rZ.size=256:=by decide+kernel
 have h2:∀i:Fin 256,(rZ[i.val]?.getD 0).toNat=ow i.val:=by decide+kernel
 rw[SV2.2];have h3:=h2 ⟨x,hx⟩;change (if 0<=(x:Int)/\(x:Int)<rZ.size then some (AV.int .u8 (rZ[(x:Int).toNat]?.getD 0).toNat) else none)=_;rw[if_pos ⟨by omega,by rw[h1];omega⟩,cz];simp only at h3;rw[h3]
theorem rO{x s k:Nat}(hk:k=ow (x/2^s))(h:0<x/2^s):x<2^(k+s)/\2^(k+s)<=2*x:=by
 subst hk;have h1:=HJ (x/2^s);have h2:=Ck h;have hp:0<2^s:=Nat.pow_pos (by omega);rw[Nat.pow_add];constructor
 ·have:=(Nat.div_lt_iff_lt_mul hp).1 h1;exact this
 ·calc 2^ow (x/2^s)*2^s<=2*(x/2^s)*2^s:=lN _ h2
    _=2*(x/2^s*2^s):=by rw[Nat.mul_assoc]
    _<=2*x:=Nat.mul_le_mul_left _ (Nat.div_mul_le_self x (2^s))
theorem lg{x:Nat}(hx:x<256):ow x<=8:=by
 rcases Bj x with e|e
 ·subst e;decide
 ·have h:=Ck e;rcases pW 8 (ow x) with h1|h1
  ·have:=Nat.pow_le_pow_right (n:=2) (by omega) h1;omega
  ·exact h1
theorem gq{x:Int}(h:0<=x)(h2:x<18446744073709551616):IntKind.wrap .u64 x=x:=by
 simp only[IntKind.bits,IntKind.wrap,IntKind.signed];simp;omega
theorem tO{x:Int}(h:0<=x)(h2:x<256):IntKind.wrap .u8 x=x:=by
 simp only[IntKind.bits,IntKind.wrap,IntKind.signed];simp;omega
def xr(a b:Int):Int:=IntKind.wrap .u64 (BitVec.ofInt 64 a ^^^ BitVec.ofInt 64 b).toNat
def KP(a:Int):Int:=IntKind.wrap .u64 (a*2^13)
def LY(a:Int):Int:=IntKind.wrap .u64 (a*2^17)
def sr7(a:Int):Int:=a.fdiv (2^7)
theorem SX:(∀a b:Int,bt .xor false false (.int .u64 a) (.int .u64 b)=some (.int .u64 (xr a b)))/\(∀a:Int,bt .shl false false (.int .u64 a) (.int .u64 13)=some (.int .u64 (KP a)))/\
    (∀a:Int,bt .shl false false (.int .u64 a) (.int .u64 17)=some (.int .u64 (LY a)))/\(∀a:Int,bt .shr false false (.int .u64 a) (.int .u64 7)=some (.int .u64 (sr7 a))):=
 ⟨λ_ _=>rfl,λ_=>rfl,λ_=>rfl,λ_=>rfl⟩
attribute [irreducible] xr KP LY sr7
attribute [local irreducible] aK ak bg a6 aQ aS aE aU a8 bn Go.Abs.Fn a5 Go.Abs.Pure au aM Yl
theorem Jp{H:Hp}{c nx:Nat}{s:Int}(hcc:H c=some [.int .u64 s]):Abs.Fn Tryz.prog 199 [.ptr c 1 0] H nx λr H' nx'=>nx'=nx/\∃s':Int,r=.int .u64 s'/\H'=ar H c [.int .u64 s']:=by
 refine fO K4 ?_;simp only[Ll,aH];have ls:∀x y:AV,bD [x] 0 [y]=[y]:=λ_ _=>rfl;simp only[bD,bK,fo,cp] at ls;refine wnZ (zI4 @hcc @SV3 @SX @ls) ?_;exact⟨rfl,_,rfl,by rw[bd,bd];rfl⟩
set_option maxRecDepth 100000 in
theorem HF{H:Hp}{nx x:Nat}(hx:0<x)(h2:x<4294967296):Abs.Fn Tryz.prog 175 [.int .u64 x] H nx λr H' nx'=>nx'=nx/\H'=H/\∃k:Nat,r=.int .i64 k/\x<2^k/\2^k<=2*x:=by
 refine fO Ij ?_;simp only[IB,aH];generalize hT:AV.str (ByteArray.mk (Array.mk [0,1,2,2,3,3,3,3,4,4,4,4,4,4,4,4,5,5,5,5,5,5,5,5,5,5,5,5,5,5,5,5,6,6,6,6,6,6,6,6,6,6,6,6,6,6,6,6,6,6,6,6,6,6,6,6,6,6,6,6,6,6,6,6,7,7,7,7,7,7,7,7,7,7,7,7,7,7,7,7,7,7,7,7,7,7,7,7,7,7,7,7,7,7,7,7,7,7,7,7,7,7,7,7,7,7,7,7,7,7,7,7,7,7,7,7,7,7,7,7,7,7,7,7,7,7,7,7,8,8,8,8,8,8,8,8,8,8,8,8,8,8,8,8,8,8,8,8,8,8,8,8,8,8,8,8,8,8,8,8,8,8,8,8,8,8,8,8,8,8,8,8,8,8,8,8,8,8,8,8,8,8,8,8,8,8,8,8,8,8,8,8,8,8,8,8,8,8,8,8,8,8,8,8,8,8,8,8,8,8,8,8,8,8,8,8,8,8,8,8,8,8,8,8,8,8,8,8,8,8,8,8,8,8,8,8,8,8,8,8,8,8,8,8,8,8,8,8,8,8,8,8,8,8,8,8]))=tb;have htab:∀x:Nat,x<256->nZ tb (.int .u8 (x:Nat))=some (.int .u8 (ow x:Nat)):=λx hx=>by rw[<-hT];exact zm hx
 clear hT;have s16:∀z:Nat,bt .shr false false (.int .u64 (z:Nat)) (.int .u64 16)=some (.int .u64 ((z/2^16:Nat):Int)):=λz=>wE (b:=16) (k:=.u64) (k':=.u64) (by decide);have s8:∀z:Nat,bt .shr false false (.int .u64 (z:Nat)) (.int .u64 8)=some (.int .u64 ((z/2^8:Nat):Int)):=λz=>wE (b:=8) (k:=.u64) (k':=.u64) (by decide);by_cases h16:65536<=x
 ·obtain⟨y,hy⟩:∃y,x/2^16=y:=⟨_,rfl⟩
  have hy1:0<y:=by omega
  have hy2:y<65536:=by omega
  by_cases h8:256<=y
  ·obtain⟨z,hz⟩:∃z,y/2^8=z:=⟨_,rfl⟩
   have hz1:0<z:=by omega
   have hz2:z<256:=by omega
   have hl:=lg hz2;have w8:IntKind.wrap .u8 (z:Int)=z:=tO (by omega) (by omega);have ht:=htab z hz2;refine wnZ (zI6 @s16 @s8 @hy @hz @w8 @ht) ?_;have e:x/2^24=z:=by rw[<-hz,<-hy,Nat.div_div_eq_div_mul]
   exact⟨rfl,rfl,ow z+24,by congr 1;omega,rO (by rw[e]) (by omega)⟩
  ·have hl:=lg (x:=y) (by omega);have w8:IntKind.wrap .u8 (y:Int)=y:=tO (by omega) (by omega);have ht:=htab y (by omega);refine wnZ (zI5 @s16 @s8 @hy @w8 @ht) ?_;exact⟨rfl,rfl,ow y+16,by congr 1;omega,rO (by rw[hy]) (by omega)⟩
 ·by_cases h8:256<=x
  ·obtain⟨z,hz⟩:∃z,x/2^8=z:=⟨_,rfl⟩
   have hz1:0<z:=by omega
   have hz2:z<256:=by omega
   have hl:=lg hz2;have w8:IntKind.wrap .u8 (z:Int)=z:=tO (by omega) (by omega);have ht:=htab z hz2;refine wnZ (zI5 @s16 @s8 @hz @w8 @ht) ?_;exact⟨rfl,rfl,ow z+8,by congr 1;omega,rO (by rw[hz]) (by omega)⟩
  ·have hl:=lg (x:=x) (by omega);have w8:IntKind.wrap .u8 (x:Int)=x:=tO (by omega) (by omega);have ht:=htab x (by omega);refine wnZ (aI @w8 @ht) ?_;exact⟨rfl,rfl,ow x+0,by congr 1;omega,rO (s:=0) (by simp) (by simpa using hx)⟩
theorem FS{H:Hp}{nx x:Nat}(hx:0<x)(h2:x<4294967296):Abs.Fn Tryz.prog 156 [.int .u64 x] H nx λr H' nx'=>nx'=nx/\H'=H/\∃k:Nat,r=.int .i64 k/\x<2^k/\2^k<=2*x:=by
 refine fO Ig ?_;simp only[IU,aH];refine wnZ and_self ?_;refine bc ev0 ev0 (HF hx h2) ?_;rintro _ _ _ ⟨rfl,rfl,k,rfl,h3,h4⟩;refine wnZ and_self ?_;exact⟨rfl,rfl,k,rfl,h3,h4⟩
theorem I7{H:Hp}{nx x:Nat}(hx:0<x)(h2:x<=1000000000):Abs.Fn Tryz.prog 198 [.int .i64 x] H nx λr H' nx'=>nx'=nx/\H'=H/\∃k:Nat,r=.int .u64 ((2^k:Nat):Int)/\x<2^k/\2^k<=2*x:=by
 have w:IntKind.wrap .u64 (x:Int)=x:=gq (by omega) (by omega);refine fO MR ?_;simp only[Lu,aH];refine wnZ @w ?_;refine bc ev0 (have zz:=@w;evZ) (FS hx (by omega)) ?_;rintro _ _ _ ⟨rfl,rfl,k,rfl,h3,h4⟩
 have hk:k<=62:=by
  rcases pW 62 k with h|h
  ·have:=Nat.pow_le_pow_right (n:=2) (by omega) h;omega
  ·exact h
 have sh:bt .shl false false (.int .u64 1) (.int .i64 (k:Int))=some (.int .u64 ((2^k:Nat):Int)):=by
  have h:=BU (k:=.u64) (k':=.i64) (a:=1) (b:=k) (tb:=false) (tf:=false) (by show k<=64;omega) (by show 1*2^k<2^63;omega);rw[Nat.one_mul] at h;exact h
 refine wnZ @sh ?_;exact⟨rfl,rfl,k,rfl,h3,h4⟩
end Go.Proofs.YtekdaafnjdlenaaGreat
namespace Go.Proofs.YtekdaafnjdlenaaGreat
open Go Go.Abs
open Nat (reduceEqDiff reduceAdd reduceLeDiff)
theorem Gg{a:Int}{m:Nat}(hm:m<18446744073709551616):∃r:Nat,bt .and false false (.int .u64 a) (.int .u64 (m:Nat))=some (.int .u64 (r:Nat))/\r<=m:=by
 refine⟨(BitVec.ofInt 64 a).toNat &&& m,?_,Nat.and_le_right⟩;show(if (IntKind.u64=IntKind.u64) then ff .and .u64 a m else none)=_;rw[if_pos rfl]
 have h:(BitVec.ofInt 64 a &&& BitVec.ofInt 64 (m:Int)).toNat=(BitVec.ofInt 64 a).toNat &&& m:=by
  rw[BitVec.toNat_and]
  congr 1
  simp[BitVec.toNat_ofInt];omega
 have h2:(BitVec.ofInt 64 a).toNat &&& m<=m:=Nat.and_le_right;show some (AV.int .u64 (IntKind.wrap .u64 ((BitVec.ofInt 64 a &&& BitVec.ofInt 64 (m:Int)).toNat:Int)))=_;rw[h,gq (by omega) (by omega)]
structure PS(H H1:Hp)(nx n1 b:Nat)(cs:List AV):Prop where
 at_:H1 b=some cs
 fr:∀i,i<nx->i≠b->H1 i=H i
 le:nx<=n1
section
variable{H H1 H2:Hp}{nx n1 n2 b:Nat}{cs cs':List AV}
theorem PS.upd(h:PS H H1 nx n1 b cs):PS H (ar H1 b cs') nx n1 b cs':=⟨ah,λi k1 k2=>by rw[ac k2];exact h.fr i k1 k2,h.le⟩
theorem PS.new{v:List AV}(hb:b<nx)(h:PS H H1 nx n1 b cs):PS H (ar H1 n1 v) nx (n1+1) b cs:=
 have h1:=h.le
 ⟨by rw[ac (by omega)];exact h.at_,λi k1 k2=>by rw[ac (by omega)];exact h.fr i k1 k2,by omega⟩
theorem PS.rec_(h:PS H H1 nx n1 b cs)(h1:H2 b=some cs')(h2:∀i,i<n1->i≠b->H2 i=H1 i)(h3:n1<=n2):PS H H2 nx n2 b cs':=
 have h4:=h.le
 ⟨h1,λi k1 k2=>by rw[h2 i (by omega) k2];exact h.fr i k1 k2,by omega⟩
end
section
variable{α:Type}[Inhabited α]{f:α->AV}{K:α->α->Int}{G:α->Prop}{g:Nat}{caps:List AV}
structure PI{α:Type}[Inhabited α](K:α->α->Int)(a e:Nat)(L:List α)(a1 e1:Nat)(M:List α):Prop where
 lo:a<=a1
 mid:a1<=e1
 hi:e1<=e
 len:e<=L.length
 perm:PermR a e L M
 low:uK K a1 e1 M
 close:∀N,PermR a1 e1 M N->bu K a1 e1 N->bu K a e N
variable{a e a1 e1:Nat}{L M N:List α}
theorem PI.mlen(h:PI K a e L a1 e1 M):e1<=M.length:=by rw[h.perm.len];exact fe h.hi h.len
theorem PI.start(h1:a<=e)(h2:e<=L.length)(h3:uK K a e L):PI K a e L a e L:=⟨aR _,h1,aR _,h2,.refl,h3,λ_ _ h=>h⟩
theorem PI.swap(h:PI K a e L a1 e1 M)(hp:PermR a1 e1 M N):PI K a e L a1 e1 N:=
 ⟨h.lo,h.mid,h.hi,h.len,h.perm.trans (hp.mono h.lo h.hi),h.low.perm hp h.mid h.mlen,λN' k1 k2=>h.close N' (hp.trans k1) k2⟩
theorem PI.done(h:PI K a e L a1 e1 M)(hp:PermR a1 e1 M N)(hs:bu K a1 e1 N):PermR a e L N/\bu K a e N:=⟨h.perm.trans (hp.mono h.lo h.hi),h.close N hp hs⟩
theorem PI.equal{v:α}{m:Nat}(hK:Ord K)(h:PI K a e L a1 e1 M)(hp:PermR a1 e1 M N)(hv:¬K (M.getD (a1-1) default) v<0)(ha:0<a1)(hm:a1<m/\m<=e1)(h1:∀p,a1<=p->p<m->¬K v (N.getD p default)<0)(h2:∀q,m<=q->q<e1->K v (N.getD q default)<0):PI K a e L m e1 N:=by
 have hN:=h.swap hp;have hlow:=hN.low;have ho:N.getD (a1-1) default=M.getD (a1-1) default:=hp.out _ (.inl (by omega));refine⟨by have:=h.lo;omega,hm.2,h.hi,h.len,hN.perm,λq k0 k1 k2=>hK.negtr _ _ _ (h1 (m-1) (by omega) (by omega)) (hK.asym _ _ (h2 q k1 k2)),λN' k1 k2=>hN.close N' (k1.mono (by omega) (aR _)) (λp q c1 c2 c3=>?_)⟩;by_cases e1':m<=p
 ·exact k2 p q e1' c2 c3
 ·rw[k1.out p (.inl (by omega))];refine hK.negtr _ _ _ (h1 p c1 (by omega)) ?_;by_cases e2:m<=q
  ·exact hK.asym _ _ (k1.all (p:=λx=>K v x<0) hm.2 hN.mlen h2 q e2 c3)
  ·rw[k1.out q (.inl (by omega))];exact hK.negtr _ _ _ hv (by rw[<-ho];exact hlow q ha (by omega) c3)
theorem bu.glue{m:Nat}(hK:Ord K)(h1:bu K a1 m N)(h2:bu K (m+1) e1 N)(h3:∀p,a1<=p->p<m->¬K (N.getD m default) (N.getD p default)<0)(h4:∀q,m<q->q<e1->¬K (N.getD q default) (N.getD m default)<0):bu K a1 e1 N:=λp q k1 k2 k3=>by
 by_cases c1:q<m
 ·exact h1 p q k1 k2 c1
 ·by_cases c2:m<p
  ·exact h2 p q c2 k2 k3
  ·by_cases c3:p=m
   ·subst c3;exact h4 q (by omega) k3
   ·by_cases c4:q=m
    ·subst c4;exact h3 p k1 k2
    ·exact hK.negtr _ _ _ (h3 p k1 (by omega)) (h4 q (by omega) k3)
structure TwoS{α:Type}[Inhabited α](K:α->α->Int)(a1 e1 m:Nat)(N:List α):Prop where
 mid:a1<=m/\m<e1
 lt:∀p,a1<=p->p<m->¬K (N.getD m default) (N.getD p default)<0
 ge:∀q,m<q->q<e1->¬K (N.getD q default) (N.getD m default)<0
theorem TwoS.left{m:Nat}{N':List α}(h:TwoS K a1 e1 m N)(hp:PermR a1 m N N')(hl:e1<=N.length):TwoS K a1 e1 m N':=
 have hm:=h.mid
 ⟨hm,by
  rw[hp.out m (.inr (aR _))];exact hp.all (p:=λx=>¬K (N.getD m default) x<0) hm.1 (by omega) h.lt,λq k1 k2=>by rw[hp.out m (.inr (aR _)),hp.out q (.inr (by omega))];exact h.ge q k1 k2⟩
theorem TwoS.right{m:Nat}{N':List α}(h:TwoS K a1 e1 m N)(hp:PermR (m+1) e1 N N')(hl:e1<=N.length):TwoS K a1 e1 m N':=
 have hm:=h.mid
 ⟨hm,fun p k1 k2=>by rw [hp.out m (.inl (by omega)),hp.out p (.inl (by omega))]; exact h.lt p k1 k2,by
  rw[hp.out m (.inl (by omega))];exact λq k1 k2=>hp.all (p:=λx=>¬K x (N.getD m default)<0) (by omega) hl (λi c1 c2=>h.ge i (by omega) c2) q (by omega) k2⟩
theorem PI.left{m:Nat}(hK:Ord K)(h:PI K a e L a1 e1 M)(ht:TwoS K a1 e1 m M)(hp:PermR a1 m M N)(hs:bu K a1 m N):PI K a e L (m+1) e1 N:=by
 have hm:=ht.mid;have hN:=h.swap (hp.mono (aR _) (by omega));have htN:=ht.left hp h.mlen;refine⟨by have:=h.lo;omega,by omega,h.hi,h.len,hN.perm,λq k0 k1 k2=>by rw[rF];exact htN.ge q k1 k2,λN' k1 k2=>hN.close N' (k1.mono (by omega) (aR _)) ?_⟩;have ht':=htN.right k1 hN.mlen;exact bu.glue hK (λp q c1 c2 c3=>by rw[k1.out p (.inl (by omega)),k1.out q (.inl (by omega))];exact hs p q c1 c2 c3) k2 ht'.lt ht'.ge
theorem PI.right{m:Nat}(hK:Ord K)(h:PI K a e L a1 e1 M)(ht:TwoS K a1 e1 m M)(hp:PermR (m+1) e1 M N)(hs:bu K (m+1) e1 N):PI K a e L a1 m N:=by
 have hm:=ht.mid;have hN:=h.swap (hp.mono (by omega) (aR _));have htN:=ht.right hp h.mlen;refine⟨h.lo,hm.1,by have:=h.hi;omega,h.len,hN.perm,λq k0 k1 k2=>hN.low q k0 k1 (by omega),λN' k1 k2=>hN.close N' (k1.mono (aR _) (by omega)) ?_⟩;have ht':=htN.left k1 hN.mlen;exact bu.glue hK k2 (λp q c1 c2 c3=>by rw[k1.out p (.inr (by omega)),k1.out q (.inr (by omega))];exact hs p q c1 c2 c3) ht'.lt ht'.ge
theorem uK.sub{a e a' e':Nat}{M:List α}(h:uK K a e M)(ha:a'=a)(he:e'<=e):uK K a' e' M:=λq k0 k1 k2=>by subst ha;exact h q k0 k1 (by omega)
end
def _root_.List.c2{α:Type}(l:List α)(f:α->AV):List AV:=l.flatMap λx=>(f x).cells
structure Cmp2{α:Type}(P:Program)(f:α->AV)(K:α->α->Int)(G:α->Prop)(g:Nat)(caps:List AV):Prop where
 len:∀x,(f x).cells.length=2
 agg:∀x,AV.agg (f x).cells=f x
 ones:∀x,AV.ones (f x).cells=true
 dat:∀x,Dat (f x)
 dcaps:∀x∈caps,Dat x
 run:∀x y,G x->G y->Go.Abs.Pure P g (f x::f y::caps) (.int .i64 (K x y))
 ord:Ord K
section
variable{α:Type}{f:α->AV}(h:∀x,(f x).cells.length=2)
include h
end
theorem AB{B n len k:Nat}(h:k<=len)(hn:n≠0):jI 2 (.msl B n 2 0 len) none (some (.int .i64 k)) none=some (.msl B n 2 0 k):=by
 simp only[jI,bJ,Int.natCast_nonneg,if_true,cz];rw[if_pos ⟨trivial,by omega,h,hn⟩,if_pos (.inl trivial),xP,Nat.sub_zero]
theorem Cw{H:Hp}{B:Nat}{cs:List AV}(hH:H B=some cs):H=ar H B cs:=by
 funext b
 by_cases e:b=B
 ·subst e;rw[ah];exact hH
 ·rw[ac e]
theorem IL(a b:Vtx):pp (.st [.int,.int]) (dF a) (dF b)=some (decide (a=b)):=by
 show dC [.int,.int] [.int .i64 a.color,.int .i64 a.label] [.int .i64 b.color,.int .i64 b.label]=_;rw[Bf,xR]
theorem D2(v:Vtx)(ks:List Vtx):dh (.st [.int,.int]) (dF v) (ks.map dF)=some (if v∈ks then some (ks.idxOf v) else none):=nj _ dF IL v ks
theorem EH(v:Vtx):jG (.st [.int,.int]) (dF v)=true:=rfl
def nz(l:List Spx)(i:Nat)(v:Vtx):List Nat:=(List.range i).filter λk=>decide (v∈l.getD k default)
def pb(l:List Spx)(i j:Nat)(v:Vtx):List Nat:=nz l i v++if v∈(l.getD i default).take j then [i] else []
theorem Ct{l:List Spx}{i:Nat}{v:Vtx}:nz l (i+1) v=pb l i (l.getD i default).length v:=by
 unfold nz pb;rw[List.range_succ,wn,List.take_length]
 congr 1
 by_cases h:v∈l.getD i default
 ·rw[if_pos h];simp only[List.filter,h,decide_true]
 ·rw[if_neg h];simp only[List.filter,h,decide_false]
theorem C5{l:List Spx}{i:Nat}{v:Vtx}:pb l i 0 v=nz l i v:=by unfold pb;simp
theorem DN{l:List Spx}{i j:Nat}{v:Vtx}(hj:j<(l.getD i default).length)(ha:ce cJ (l.getD i default)):pb l i (j+1) v=if v=(l.getD i default).getD j default then pb l i j v++[i] else pb l i j v:=by
 unfold pb;generalize l.getD i default=s at *;rw[bI hj];by_cases h:v=s.getD j default
 ·have hn:v∉s.take j:=λhm=>by
    obtain⟨k,hk,e⟩:=jK hm;rw[eM] at hk;rw[List.getElem_take] at e;have:=eO ha (i:=k) (j:=j) (by omega) hj;rw[<-h,<-e] at this;have e2:s.getD k default=s[k]:=by simp[List.getD,show k<s.length by omega]
    rw[e2] at this;exact z9.ord.irr _ this
  rw[if_pos h,if_neg hn,if_pos (by rw[eC,h];simp)];simp
 ·rw[if_neg h]
  congr 1
  have e:v∈s.take j++[s.getD j default]↔v∈s.take j:=by rw[eC,cW];exact⟨λh'=>h'.resolve_right h,.inl⟩
  by_cases h2:v∈s.take j
  ·rw[if_pos (e.2 h2),if_pos h2]
  ·rw[if_neg (λh=>h2 (e.1 h)),if_neg h2]
def p9(i:Nat):AV:=.int .i64 (i:Int)
structure IncOk(H:Hp)(b lo hi:Nat)(F:Vtx->List Nat)(ks:List Vtx)(vs:List AV):Prop where
 box:H b=some [.omap (ks.map dF) vs]
 len:vs.length=ks.length
 nodup:ks.Nodup
 dom:∀v,v∈ks↔F v≠[]
 row:∀j,j<ks.length->Row H 1 (vs.getD j .undef) ((F (ks.getD j default)).map p9)
 bnd:∀j B,j<ks.length->bv (vs.getD j .undef)=some B->lo<=B/\B<hi/\B≠b
 apart:∀i j B,i<ks.length->j<ks.length->i≠j->bv (vs.getD i .undef)=some B->bv (vs.getD j .undef)≠some B
 lt:b<hi
theorem qF{l:List AV}{i j:Nat}{x:AV}(h:i<l.length):(l.set i x).getD j .undef=if i=j then x else l.getD j .undef:=by
 simp only[List.getD,List.getElem?_set];split
 ·rename_i e;subst e;simp[h]
 ·rfl
theorem yn{α:Type}{l m:List α}{j:Nat}{d:α}(h:j<l.length):(l++m).getD j d=l.getD j d:=by
 simp[List.getD,gF h]
theorem vJ{α:Type}{l:List α}{x d:α}:(l++[x]).getD l.length d=x:=by simp[List.getD]
theorem xu{l:List Vtx}{v:Vtx}(h:v∈l):l.idxOf v<l.length/\l.getD (l.idxOf v) default=v:=by
 have h1:=qa.2 h;exact⟨h1,by simp[List.getD,h1]⟩
theorem Di{l:List Vtx}(h:l.Nodup){i j:Nat}(hi:i<l.length)(hj:j<l.length)(e:l.getD i default=l.getD j default):i=j:=by
 have hp:=k9.1 (List.nodup_iff_pairwise_ne.1 h);rw[show l.getD i default=l[i] by simp[List.getD,hi],show l.getD j default=l[j] by simp[List.getD,hj]] at e;rcases sU i j with c|c|c
 ·exact absurd e (hp i j hi hj c)
 ·exact c
 ·exact absurd e.symm (hp j i hj hi c)
theorem IncOk.same{H H':Hp}{b lo hi hi':Nat}{F:Vtx->List Nat}{ks:List Vtx}{vs:List AV}(h:IncOk H b lo hi F ks vs)(hb:H' b=H b)(hs:∀x,lo<=x->x<hi->x≠b->H' x=H x)(hh:hi<=hi'):IncOk H' b lo hi' F ks vs:=
 ⟨hb.trans h.box,h.len,h.nodup,h.dom,λj hj=>(h.row j hj).same λB hB=>by have:=h.bnd j B hj hB;exact hs B this.1 this.2.1 this.2.2,λj B hj hB=>by have:=h.bnd j B hj hB;exact⟨this.1,by omega,this.2.2⟩,h.apart,by have:=h.lt;omega⟩
theorem IncOk.put{H H':Hp}{b lo hi hi' i:Nat}{F G:Vtx->List Nat}{ks:List Vtx}{vs:List AV}{w:Vtx}{sv:AV}(h:IncOk H b lo hi F ks vs)(hw:w∈ks)(hG:∀v,G v=if v=w then F v++[i] else F v)(hrow:Row H' 1 sv ((F w++[i]).map p9))(hB:∀B,bv sv=some B->bv (vs.getD (ks.idxOf w) .undef)=some B\/hi<=B/\B<hi'/\B≠b)(hb:H' b=some [.omap (ks.map dF) (vs.set (ks.idxOf w) sv)])
    (hs:∀x,lo<=x->x<hi->x≠b->bv (vs.getD (ks.idxOf w) .undef)≠some x->H' x=H x) (hh:hi<=hi') (hlo:lo<=hi):IncOk H' b lo hi' G ks (vs.set (ks.idxOf w) sv):=by
 obtain⟨k1,k2⟩:=xu hw;have hl:=h.len;have hg:∀j,(vs.set (ks.idxOf w) sv).getD j .undef=if ks.idxOf w=j then sv else vs.getD j .undef:=λj=>qF (by omega)
 have hne:∀j,j<ks.length->ks.idxOf w≠j->ks.getD j default≠w:=λj hj hn e=>hn (Di h.nodup k1 hj (by rw[k2,e]));refine⟨hb,by simp[hl],h.nodup,λv=>?_,λj hj=>?_,λj B hj=>?_,λp q B hp hq hpq=>?_,by have:=h.lt;omega⟩
 ·rw[hG,h.dom];by_cases e:v=w
  ·subst e;rw[if_pos rfl];exact⟨λ_=>by simp,λ_=>(h.dom v).1 hw⟩
  ·rw[if_neg e]
 ·rw[hg,hG];by_cases e:ks.idxOf w=j
  ·rw[if_pos e,if_pos (by rw[<-e];exact k2),<-e,k2];exact hrow
  ·rw[if_neg e,if_neg (hne j hj e)]
   exact(h.row j hj).same λB hB'=>by
    have:=h.bnd j B hj hB';exact hs B this.1 this.2.1 this.2.2 λh'=>h.apart (ks.idxOf w) j B k1 hj e h' hB'
 ·rw[hg];by_cases e:ks.idxOf w=j
  ·rw[if_pos e];intro hB';rcases hB B hB' with h'|h'
   ·have:=h.bnd _ B k1 h';exact⟨this.1,by omega,this.2.2⟩
   ·exact⟨by omega,h'.2⟩
  ·rw[if_neg e];intro hB';have:=h.bnd j B hj hB';exact⟨this.1,by omega,this.2.2⟩
 ·rw[hg,hg];by_cases e1:ks.idxOf w=p
  ·rw[if_pos e1,if_neg (by omega)];intro h1 h2;rcases hB B h1 with h'|h'
   ·exact h.apart (ks.idxOf w) q B k1 hq (by omega) h' h2
   ·have:=h.bnd q B hq h2;omega
  ·rw[if_neg e1];by_cases e2:ks.idxOf w=q
   ·rw[if_pos e2];intro h1 h2;rcases hB B h2 with h'|h'
    ·exact h.apart p (ks.idxOf w) B hp k1 (by omega) h1 h'
    ·have:=h.bnd p B hp h1;omega
   ·rw[if_neg e2];exact h.apart p q B hp hq hpq
theorem IncOk.new{H H':Hp}{b lo hi hi' i:Nat}{F G:Vtx->List Nat}{ks:List Vtx}{vs:List AV}{w:Vtx}{sv:AV}(h:IncOk H b lo hi F ks vs)(hw:w∉ks)(hG:∀v,G v=if v=w then F v++[i] else F v)(hrow:Row H' 1 sv ([i].map p9))(hB:∀B,bv sv=some B->hi<=B/\B<hi'/\B≠b)(hb:H' b=some [.omap ((ks++[w]).map dF) (vs++[sv])])
    (hs:∀x,lo<=x->x<hi->x≠b->H' x=H x) (hh:hi<=hi') (hlo:lo<=hi):IncOk H' b lo hi' G (ks++[w]) (vs++[sv]):=by
 have hl:=h.len
 have hF:F w=[]:=by
  cases hf:F w with
  |nil=>rfl
  |cons a r=>exact absurd ((h.dom w).2 (by rw[hf];simp)) hw
 have g1:∀j,j<ks.length->(ks++[w]).getD j default=ks.getD j default/\(vs++[sv]).getD j .undef=vs.getD j .undef:=λj hj=>⟨yn hj,yn (by omega)⟩
 have g2:(ks++[w]).getD ks.length default=w/\(vs++[sv]).getD ks.length .undef=sv:=⟨vJ,by rw[<-hl];exact vJ⟩
 refine⟨hb,by simp[hl],?_,λv=>?_,λj hj=>?_,λj B hj=>?_,λp q B hp hq hpq=>?_,by have:=h.lt;omega⟩
 ·rw[zE];exact⟨h.nodup,by simp,λa ha c hc e=>by rw[cW] at hc;exact hw (by rw[<-hc,<-e];exact ha)⟩
 ·rw[hG,eC,cW];by_cases e:v=w
  ·subst e;rw[if_pos rfl];simp
  ·rw[if_neg e,<-h.dom];simp[e]
 ·rw[cA,List.length_singleton] at hj;by_cases e:j=ks.length
  ·subst e;rw[g2.1,g2.2,hG,if_pos rfl,hF];exact hrow
  ·obtain⟨e1,e2⟩:=g1 j (by omega);have hne:ks.getD j default≠w:=λe'=>hw (e'▸ay (by omega));rw[e1,e2,hG,if_neg hne];exact(h.row j (by omega)).same λB hB'=>by have:=h.bnd j B (by omega) hB';exact hs B this.1 this.2.1 this.2.2
 ·rw[cA,List.length_singleton] at hj;by_cases e:j=ks.length
  ·subst e;rw[g2.2];intro hB';have:=hB B hB';exact⟨by omega,this.2⟩
  ·rw[(g1 j (by omega)).2];intro hB';have:=h.bnd j B (by omega) hB';exact⟨this.1,by omega,this.2.2⟩
 ·rw[cA,List.length_singleton] at hp hq;by_cases e1:p=ks.length
  ·subst e1;rw[g2.2,(g1 q (by omega)).2];intro h1 h2;have:=hB B h1;have:=h.bnd q B (by omega) h2;omega
  ·rw[(g1 p (by omega)).2];by_cases e2:q=ks.length
   ·subst e2;rw[g2.2];intro h1 h2;have:=hB B h2;have:=h.bnd p B (by omega) h1;omega
   ·rw[(g1 q (by omega)).2];exact h.apart p q B (by omega) (by omega) hpq
theorem eA{H:Hp}{d:Nat}{x:AV}:gg 1 (ar H d [x]) (.msl d 1 1 0 1)=some (1,[x]):=ft (n:=1) (len:=1) (off:=0) (cs:=[x]) ah rfl (by simp)
theorem xS{l:List Spx}{i:Nat}{v:Vtx}:(nz l i v).length<=i:=by
 unfold nz;have:=List.length_filter_le (λk=>decide (v∈l.getD k default)) (List.range i)
 rwa [List.length_range] at this
theorem FT{l:List Spx}{i j:Nat}{v:Vtx}:(pb l i j v).length<=i+1:=by
 unfold pb;have:=xS (l:=l) (i:=i) (v:=v);rw[cA];split<;>simp <;>omega
def dB(l:List Spx)(s:Spx):Bool:=l.any λt=>decide (s.length<t.length)&&eh s t
def p7(c:List Spx)(k:Nat):Int:=if bQ (c.getD k default)≠0 then bQ (c.getD k default) else if 0<k/\0<=bh (c.getD (k-1) default) (c.getD k default) then 14 else 0
def az(c:List Spx):Int:=if 4096<c.length then 5 else if dj (p7 c) c.length≠0 then dj (p7 c) c.length else if c.any (dB c)=true then 7 else 0
theorem fm{a b:Spx}:eh a b=true↔ ∀v∈a,v∈b:=by
 unfold eh;rw[eB];exact⟨λh v hv=>qe (h v hv),λh v hv=>aL (h v hv)⟩
theorem oY{l:List Spx}{s:Spx}:dB l s=true↔ ∃t∈l,s.length<t.length/\∀v∈s,v∈t:=by
 unfold dB;rw[qx];constructor
 ·rintro⟨t,ht,h⟩;rw[dN,xt,fm] at h;exact⟨t,ht,h⟩
 ·rintro⟨t,ht,h⟩;exact⟨t,ht,by rw[dN,xt,fm];exact h⟩
theorem IJ{a b:Spx}(ha:ce cJ a)(hb:ce cJ b)(h:∀v∈a,v∈b)(hne:a≠b):a.length<b.length:=by
 have h1:a.length<=b.length:=yY (ha.nodup z9) h;rcases pW a.length b.length with h2|h2
 ·exact h2
 ·exfalso;refine hne (nw z9 ha hb λx=>⟨h x,λhx=>Decidable.byContradiction λhn=>?_⟩)
  have h3:(x::a).length<=b.length:=yY (List.nodup_cons.2 ⟨hn,ha.nodup z9⟩) λy hy=>by
   rcases da.1 hy with rfl|hy
   ·exact hx
   ·exact h y hy
  rw[bK] at h3;omega
theorem Bd{c:List Spx}(h:dj (p7 c) c.length=0):(∀s∈c,bQ s=0)/\ce bh c:=by
 have hz:=gK h
 have h3:∀k,k<c.length->bQ (c.getD k default)=0/\(0<k->bh (c.getD (k-1) default) (c.getD k default)<0):=λk hk=>by
  have:=hz k hk;unfold p7 at this;split at this
  ·exact absurd this ‹_›
  rename_i g1;split at this
  ·exact absurd this (by decide)
  rename_i g2;exact⟨sW g1,λh0=>by omega⟩
 constructor
 ·intro s hs;obtain⟨i,hi,rfl⟩:=jK hs;have:=(h3 i hi).1
  rwa [show c.getD i default=c[i] by simp[List.getD,hi]] at this
 ·have step:∀j i,i<j->j<c.length->bh (c.getD i default) (c.getD j default)<0:=by
    intro j
    induction j with
    |zero=>intro i h;omega
    |succ j ih=>
     intro i hi hj;have hs:=(h3 (j+1) hj).2 (by omega);rw[rF] at hs;by_cases e:i=j
     ·subst e;exact hs
     ·exact lO.trans (ih i (by omega) (by omega)) hs
  unfold ce;rw[k9];intro i j hi hj hij;have:=step j i hij hj;simpa[List.getD,hi,hj] using this
theorem dz{c:List Spx}(h:az c=0):c.length<=4096/\(∀s∈c,bQ s=0)/\ce bh c/\∀s∈c,dB c s=false:=by
 unfold az at h;split at h
 ·exact absurd h (by decide)
 split at h
 ·exact absurd h ‹_›
 split at h
 ·exact absurd h (by decide)
 rename_i h1 h2 h3;have:=Bd (sW h2);refine⟨by omega,this.1,this.2,λs hs=>?_⟩;cases hc:dB c s
 ·rfl
 ·exact absurd (qx.2 ⟨s,hs,hc⟩) h3
theorem Hq{l:List Spx}{s:Spx}{p:Spx->Bool}(h0:0<s.length)(hp:∀t,p t=true->s.getD 0 default∈t):((nz l l.length (s.getD 0 default)).map λ(n:Nat)=>(n:Int)).any (λi=>p (l.getD i.toNat default))=l.any p:=by
 rw[Bool.eq_iff_iff,qx,qx];constructor
 ·rintro⟨x,hx,h⟩;obtain⟨n,hn,rfl⟩:=bG.1 hx;unfold nz at hn;obtain⟨h1,_⟩:=iG.1 hn;rw[cz] at h;exact⟨_,ay (ed.1 h1),h⟩
 ·rintro⟨t,ht,h⟩;obtain⟨i,hi,rfl⟩:=jK ht;have e:l.getD i default=l[i]:=by simp[List.getD,hi]
  refine⟨(i:Int),bG.2 ⟨i,iG.2 ⟨ed.2 hi,aL ?_⟩,rfl⟩,?_⟩
  ·rw[e];exact hp _ h
  ·rw[cz,e];exact h
section
attribute [local irreducible] aK ak bg a6 aQ aS aE aU a8 bn Go.Abs.Fn a5 Go.Abs.Pure au aM Yl
section
variable{α:Type}[Inhabited α]{f:α->AV}{K:α->α->Int}{G:α->Prop}{g:Nat}{caps:List AV}
theorem Hh(hc:Cmp Tryz.prog f K G g caps){L:List α}{H:Hp}{b nx n a e:Nat}(hH:H b=some (L.map f))(hbx:b<nx)(hn:L.length=n)(hae:a+8<=e)(hen:e<=n)(hn2:n<=1000000000):
    Abs.Fn Tryz.prog 168 [.msl b n 1 0 n,.int .i64 a,.int .i64 e,.func g caps] H nx λr H' nx'=>nx'=nx+1/\∃L',H' b=some (L'.map f)/\(∀i,i<nx->i≠b->H' i=H i)/\PermR a e L L':=by
 obtain⟨l,rfl⟩:∃l,e=a+l:=⟨e-a,by omega⟩
 have te:((a+l:Nat):Int)-(a:Int)=(l:Int):=by omega
 obtain⟨w,hw⟩:∃w,a+l/4*2-1=w:=⟨_,rfl⟩
 have tq:bt .quo false false (.int .i64 (l:Int)) (.int .i64 4)=some (.int .i64 ((l/4:Nat):Int)):=by
  rw[o7 (by omega) (by omega) (by omega)]
  congr 2
 have w1:(a:Int)+((l/4:Nat):Int)*2-1=(w:Int):=by omega
 have w2:(a:Int)+((l/4:Nat):Int)*2+1=((w+2:Nat):Int):=by omega
 have hbn:b≠nx:=by omega
 have wl:IntKind.wrap .u64 (l:Int)=l:=gq (by omega) (by omega);refine fO KD ?_;simp only[MP,aH];have ls:∀x y:AV,bD [x] 0 [y]=[y]:=λ_ _=>rfl;simp only[bD,bK,fo,cp] at ls;refine wnZ (zI3 @te @wl @ls) ?_;refine bc ev0 ev0 (I7 (x:=l) (by omega) (by omega)) ?_;rintro _ _ _ ⟨rfl,rfl,k,rfl,hk1,hk2⟩;obtain⟨p,hp⟩:∃p,2^k=p+1:=⟨2^k-1,by omega⟩
 rw[hp] at hk1 hk2 |-;refine wnZ (zI3 @te @tq @w1) ?_;have wm:IntKind.wrap .u64 (((p+1:Nat):Int)-1)=(p:Int):=by rw[gq (by omega) (by omega)];omega
 refine bN (X:=Nat×List α) (λx=>[(0,.msl b n 1 0 n),(1,.int .i64 a),(8,.int .i64 l),(9,.ptr nx 1 0),(10,.int .u64 ((p+1:Nat):Int)),(11,.int .i64 (x.1:Nat))]) (λx H' nxx=>w<=x.1/\x.1<=w+3/\H' b=some (x.2.map f)/\(∃s,H' nx=some [.int .u64 s])/\(∀i,i<nx->i≠b->H' i=H i)/\nxx=nx+1/\PermR a (a+l) L x.2) (λx=>w+3-x.1) (w,L) ⟨aR _,by dsimp only;omega,by dsimp only;rw[ac hbn];first|exact hH|(rw[ac hbn];exact hH),⟨_,ah⟩,λi h1 h2=>by rw[ac (by omega)];first|rfl|exact ac (by omega),rfl,.refl⟩ (by simp (disch:=omega) only[agr,ZG,reduceEqDiff,↓reduceIte,bK,fo,cp,true_and]) ?_;rintro⟨i,M⟩ H1 nxx ⟨h1,h2,hb1,⟨s,hs⟩,hfr,rfl,hp1⟩;dsimp only at *;have hl:M.length=n:=by rw[hp1.len,hn]
 by_cases hi:i=w+3
 ·subst hi;refine wnZ (aI @tq @w2) ?_;exact⟨rfl,M,hb1,hfr,hp1⟩
 have ti:((i:Nat):Int)+1=((i+1:Nat):Int):=by omega
 refine wnZ (aI @tq @w2) ?_;refine bc ev0 ev0 (Jp hs) ?_;rintro _ _ _ ⟨rfl,s1,rfl,rfl⟩;obtain⟨r,hr1,hr2⟩:=Gg (a:=s1) (m:=p) (by omega);obtain⟨H2,hH2⟩:∃H2,ar H1 nx [.int .u64 s1]=H2:=⟨_,rfl⟩
 have hb2:H2 b=some (M.map f):=by rw[<-hH2,ac hbn];exact hb1
 have hs2:H2 nx=some [.int .u64 s1]:=by rw[<-hH2];exact ah
 have hfr2:∀i,i<nx->i≠b->H2 i=H i:=λi k1 k2=>by rw[<-hH2,ac (by omega)];exact hfr i k1 k2
 rw[hH2];clear hH2 hb1 hs hfr
 obtain⟨z,hz,hzl⟩:∃z:Nat,(if l<=r then(r:Int)-l else(r:Int))=(z:Int)/\z<l:=by
  split
  ·exact⟨r-l,by omega,by omega⟩
  ·exact⟨r,rfl,by omega⟩
 obtain⟨M1,hl1,lm1,lm2⟩:=d7 (f:=f) (M:=M) (i:=i) (j:=a+z) (by omega) (by omega);have lm3:=lm2;simp only[bD,bK,fo,cp] at lm1 lm2;by_cases hrl:l<=r
 ·rw[if_pos hrl] at hz;refine wnZ (gH @wm @hr1 @hz @hb2 @ti @gY hc.cells hc.one @lm1 @lm2) ?_;exact⟨(i+1,swp M i (a+z)),by dsimp only;omega,⟨by dsimp only;omega,by dsimp only;omega,by dsimp only;rw[bd,lm3,ah],⟨s1,by rw[bd,ac (Ne.symm hbn)];exact hs2⟩,λi k1 k2=>by rw[bd,ac k2];exact hfr2 i k1 k2,rfl,hp1.trans (PermR.swap (by omega) (by omega) (by omega))⟩,ag0⟩
 ·rw[if_neg hrl] at hz;have hz':r=z:=by omega
  subst hz';refine wnZ (zI9 @wm @hr1 @hb2 @ti @gY hc.cells hc.one @lm1 @lm2) ?_;exact⟨(i+1,swp M i (a+r)),by dsimp only;omega,⟨by dsimp only;omega,by dsimp only;omega,by dsimp only;rw[bd,lm3,ah],⟨s1,by rw[bd,ac (Ne.symm hbn)];exact hs2⟩,λi k1 k2=>by rw[bd,ac k2];exact hfr2 i k1 k2,rfl,hp1.trans (PermR.swap (by omega) (by omega) (by omega))⟩,ag0⟩
end
section
variable{α:Type}[Inhabited α]{f:α->AV}{K:α->α->Int}{G:α->Prop}{g:Nat}{caps:List AV}
theorem Mx(hc:Cmp Tryz.prog f K G g caps){b n:Nat}(hn2:n<=1000000000):∀(sz a e lim:Nat)(L:List α)(H:Hp)(nx:Nat),e-a<sz->H b=some (L.map f)->b<nx->L.length=n->(∀x∈L,G x)->a<=e->e<=n->lim<=64->uK K a e L->
    Abs.Fn Tryz.prog 155 [.msl b n 1 0 n,.int .i64 a,.int .i64 e,.int .i64 lim,.func g caps] H nx λr H' nx'=>∃L',PS H H' nx nx' b (L'.map f)/\PermR a e L L'/\bu K a e L':=by
 intro sz
 induction sz with
 |zero=>intro a e lim L H nx h;omega
 |succ sz ih=>
 intro a e lim L H nx hsz hH hbx hn hG hae hen hlim hlow;have dcap:=hc.dcaps;refine fO Iz ?_;simp only[Jj,aH];refine wnZ and_self ?_;refine bN (X:=Nat×Nat×Nat×Bool×Bool×List α) (λx=>[(0,.msl b n 1 0 n),(1,.int .i64 (x.1:Nat)),(2,.int .i64 (x.2.1:Nat)),(3,.int .i64 (x.2.2.1:Nat)),(4,.func g caps),(10,.bool x.2.2.2.1),(11,.bool x.2.2.2.2.1)]) (λx H' nxx=>PI K a e L x.1 x.2.1 x.2.2.2.2.2/\PS H H' nx nxx b (x.2.2.2.2.2.map f)/\x.2.2.1<=64) (λx=>x.2.1-x.1) (a,e,lim,true,true,L) ⟨.start hae (by rw[hn];exact hen) hlow,⟨hH,λ_ _ _=>rfl,aR _⟩,hlim⟩ ag0 ?_;clear hlim hlow lim;rintro⟨a1,e1,lim,wb,wp,M⟩ H1 n1 ⟨hpi,hps,hlim⟩;dsimp only at *;have hlo:=hpi.lo;have hmid:=hpi.mid;have hhi:=hpi.hi;obtain⟨l,hl0⟩:∃l,e1-a1=l:=⟨_,rfl⟩
 rw[hl0];have te:(e1:Int)-(a1:Int)=(l:Int):=by omega
 have hlen:∀M:List α,PI K a e L a1 e1 M->M.length=n:=λM h=>by rw[h.perm.len,hn]
 have hGA:∀M:List α,PI K a e L a1 e1 M->∀x∈M,G x:=λM h=>h.perm.mem hG;have hbn:∀(M:List α)(H1:Hp)(n1:Nat),PS H H1 nx n1 b (M.map f)->b<n1:=λM H1 n1 h=>by have:=h.le;omega
 obtain⟨T,hT,t0,t1,t2,t3,t4,t10,t11⟩:∃T,tl [(0,.msl b n 1 0 n),(1,.int .i64 (a1:Nat)),(2,.int .i64 (e1:Nat)),(3,.int .i64 (lim:Nat)),(4,.func g caps),(10,.bool wb),(11,.bool wp)]=T/\T 0=.msl b n 1 0 n/\T 1=.int .i64 (a1:Nat)/\T 2=.int .i64 (e1:Nat)/\T 3=.int .i64 (lim:Nat)/\T 4=.func g caps/\T 10=.bool wb/\T 11=.bool wp:=⟨_,rfl,rfl,rfl,rfl,rfl,rfl,rfl,rfl⟩
 rw[hT];clear hT;refine lq ?_;refine cr (λT H'' nx''=>T 0=.msl b n 1 0 n/\T 1=.int .i64 (a1:Nat)/\T 2=.int .i64 (e1:Nat)/\T 3=.int .i64 (lim:Nat)/\T 4=.func g caps/\T 10=.bool wb/\T 11=.bool wp/\T 12=.int .i64 (l:Nat)/\H1=H''/\n1=nx'') ?_ ?_
 ·refine wnZ (zI8 @t0 @t1 @t2 @t3 @t4 @t10 @t11 @te) ?_;exact⟨(have zz:=@t0;evZ),(have zz:=@t1;evZ),(have zz:=@t2;evZ),(have zz:=@t3;evZ),(have zz:=@t4;evZ),(have zz:=@t10;evZ),(have zz:=@t11;evZ),ev0,rfl,rfl⟩
 clear t0 t1 t2 t3 t4 t10 t11;rintro T _ _ ⟨t0,t1,t2,t3,t4,t10,t11,t12,rfl,rfl⟩;refine cr (λT H'' nx''=>T 0=.msl b n 1 0 n/\T 1=.int .i64 (a1:Nat)/\T 2=.int .i64 (e1:Nat)/\T 3=.int .i64 (lim:Nat)/\T 4=.func g caps/\T 10=.bool wb/\T 11=.bool wp/\T 12=.int .i64 (l:Nat)/\13<=l/\H1=H''/\n1=nx'') ?_ ?_
 ·by_cases h12:l<=12
  ·refine wnZ (zI8 @t0 @t1 @t2 @t3 @t4 @t10 @t11 @t12) ?_;refine bc ev0 (have zz:=aI @t0 (aI @t1 (aI @t2 (aI @t3 (aI @t4 (aI @t10 (aI @t11 @t12))))));evZ) (LH hc (b:=b) hps.at_ (hlen _ hpi) (hGA _ hpi) (a:=a1) (e:=e1) hmid (by omega) hn2) ?_;rintro _ _ _ ⟨rfl,N,rfl,hpN,hsN⟩;refine wnZ and_self ?_;exact⟨N,hps.upd,hpi.done hpN hsN⟩
  ·refine wnZ (zI8 @t0 @t1 @t2 @t3 @t4 @t10 @t11 @t12) ?_;exact⟨(have zz:=@t0;evZ),(have zz:=@t1;evZ),(have zz:=@t2;evZ),(have zz:=@t3;evZ),(have zz:=@t4;evZ),(have zz:=@t10;evZ),(have zz:=@t11;evZ),(have zz:=@t12;evZ),by omega,rfl,rfl⟩
 clear t0 t1 t2 t3 t4 t10 t11 t12;rintro T _ _ ⟨t0,t1,t2,t3,t4,t10,t11,t12,h13,rfl,rfl⟩;refine cr (λT H'' nx''=>T 0=.msl b n 1 0 n/\T 1=.int .i64 (a1:Nat)/\T 2=.int .i64 (e1:Nat)/\T 3=.int .i64 (lim:Nat)/\T 4=.func g caps/\T 10=.bool wb/\T 11=.bool wp/\T 12=.int .i64 (l:Nat)/\0<lim/\H1=H''/\n1=nx'') ?_ ?_
 ·by_cases h12:lim=0
  ·subst h12;have tz:decide (((0:Nat):Int)=0)=true:=rfl;refine wnZ (zI9 @t0 @t1 @t2 @t3 @t4 @t10 @t11 @t12 @tz) ?_;refine bc ev0 (have zz:=aI @t0 (aI @t1 (aI @t2 (aI @t3 (aI @t4 (aI @t10 (aI @t11 @t12))))));evZ) (I0 hc (b:=b) hps.at_ (hlen _ hpi) (hGA _ hpi) (a:=a1) (e:=e1) hmid (by omega) hn2) ?_;rintro _ _ _ ⟨rfl,N,rfl,hpN,hsN⟩;refine wnZ and_self ?_;exact⟨N,hps.upd,hpi.done hpN hsN⟩
  ·have tz:decide ((lim:Int)=0)=false:=aO (by omega);refine wnZ (zI9 @t0 @t1 @t2 @t3 @t4 @t10 @t11 @t12 @tz) ?_;exact⟨(have zz:=@t0;evZ),(have zz:=@t1;evZ),(have zz:=@t2;evZ),(have zz:=@t3;evZ),(have zz:=@t4;evZ),(have zz:=@t10;evZ),(have zz:=@t11;evZ),(have zz:=@t12;evZ),by omega,rfl,rfl⟩
 clear t0 t1 t2 t3 t4 t10 t11 t12;rintro T _ _ ⟨t0,t1,t2,t3,t4,t10,t11,t12,hlim1,rfl,rfl⟩;refine cr (λT H'' nx''=>∃(lim:Nat)(M:List α),lim<=64/\PI K a e L a1 e1 M/\PS H H'' nx nx'' b (M.map f)/\T 0=.msl b n 1 0 n/\T 1=.int .i64 (a1:Nat)/\T 2=.int .i64 (e1:Nat)/\T 3=.int .i64 (lim:Nat)/\T 4=.func g caps/\T 10=.bool wb/\T 11=.bool wp/\T 12=.int .i64 (l:Nat)) ?_ ?_
 ·cases wb
  ·obtain⟨k,rfl⟩:∃k,lim=k+1:=⟨lim-1,by omega⟩
   have tk:((k+1:Nat):Int)-1=(k:Int):=by omega
   refine wnZ (zI8 @t0 @t1 @t2 @t3 @t4 @t10 @t11 @t12) ?_;refine bc ev0 (have zz:=aI @t0 (aI @t1 (aI @t2 (aI @t3 (aI @t4 (aI @t10 (aI @t11 @t12))))));evZ) (Hh hc (b:=b) hps.at_ (hbn _ _ _ hps) (hlen _ hpi) (a:=a1) (e:=e1) (by omega) (by omega) hn2) ?_;rintro _ _ _ ⟨rfl,N,hN1,hN2,hpN⟩;refine wnZ (zI9 @t0 @t1 @t2 @t3 @t4 @t10 @t11 @t12 @tk) ?_;exact⟨k,N,by omega,hpi.swap hpN,hps.rec_ hN1 hN2 (Nat.le_succ _),(have zz:=@t0;evZ),(have zz:=@t1;evZ),(have zz:=@t2;evZ),(have zz:=@t3;evZ),(have zz:=@t4;evZ),(have zz:=@t10;evZ),(have zz:=@t11;evZ),(have zz:=@t12;evZ)⟩
  ·refine wnZ (zI8 @t0 @t1 @t2 @t3 @t4 @t10 @t11 @t12) ?_;exact⟨lim,M,hlim,hpi,hps,(have zz:=@t0;evZ),(have zz:=@t1;evZ),(have zz:=@t2;evZ),(have zz:=@t3;evZ),(have zz:=@t4;evZ),(have zz:=@t10;evZ),(have zz:=@t11;evZ),(have zz:=@t12;evZ)⟩
 clear t0 t1 t2 t3 t4 t10 t11 t12 hpi hps hlim hlim1;rintro T H1 n1 ⟨lim,M,hlim,hpi,hps,t0,t1,t2,t3,t4,t10,t11,t12⟩;refine cr (λT H'' nx''=>∃(p:Nat)(hint:Int),a1<=p/\p<e1/\PS H H'' nx nx'' b (M.map f)/\T 0=.msl b n 1 0 n/\T 1=.int .i64 (a1:Nat)/\T 2=.int .i64 (e1:Nat)/\T 3=.int .i64 (lim:Nat)/\T 4=.func g caps/\T 10=.bool wb/\T 11=.bool wp/\T 12=.int .i64 (l:Nat)/\T 13=.int .i64 (p:Nat)/\T 14=.int .i64 hint) ?_ ?_
 ·refine wnZ (zI8 @t0 @t1 @t2 @t3 @t4 @t10 @t11 @t12) ?_;refine bc ev0 (have zz:=aI @t0 (aI @t1 (aI @t2 (aI @t3 (aI @t4 (aI @t10 (aI @t11 @t12))))));evZ) (EL hc (b:=b) hps.at_ (hbn _ _ _ hps) (hlen _ hpi) (hGA _ hpi) (a:=a1) (e:=e1) (by omega) (by omega) hn2) ?_;rintro _ _ _ ⟨rfl,p,hint,v,rfl,hp1,hp2,rfl⟩;refine wnZ (zI8 @t0 @t1 @t2 @t3 @t4 @t10 @t11 @t12) ?_;exact⟨p,hint,hp1,hp2,hps.new hbx,(have zz:=@t0;evZ),(have zz:=@t1;evZ),(have zz:=@t2;evZ),(have zz:=@t3;evZ),(have zz:=@t4;evZ),(have zz:=@t10;evZ),(have zz:=@t11;evZ),(have zz:=@t12;evZ),ev0,ev0⟩
 clear t0 t1 t2 t3 t4 t10 t11 t12 hps;rintro T H1 n1 ⟨p,hint,hp1,hp2,hps,t0,t1,t2,t3,t4,t10,t11,t12,t13,t14⟩;refine cr (λT H'' nx''=>∃(p:Nat)(hint:Int)(M:List α),a1<=p/\p<e1/\PI K a e L a1 e1 M/\PS H H'' nx nx'' b (M.map f)/\T 0=.msl b n 1 0 n/\T 1=.int .i64 (a1:Nat)/\T 2=.int .i64 (e1:Nat)/\T 3=.int .i64 (lim:Nat)/\T 4=.func g caps/\T 10=.bool wb/\T 11=.bool wp/\T 12=.int .i64 (l:Nat)/\T 13=.int .i64 (p:Nat)/\T 14=.int .i64 hint) ?_ ?_
 ·by_cases h2:hint=2
  ·subst h2;obtain⟨p2,hp3⟩:∃p2,e1-1-(p-a1)=p2:=⟨_,rfl⟩
   have tp:(e1:Int)-1-((p:Int)-(a1:Int))=(p2:Int):=by omega
   have tz:decide ((2:Int)=2)=true:=rfl;refine wnZ (aI @t0 (gH @t1 @t2 @t3 @t4 @t10 @t11 @t12 @t13 @t14 @tz)) ?_;refine bc ev0 (have zz:=aI @t0 (aI @t1 (aI @t2 (aI @t3 (aI @t4 (aI @t10 (aI @t11 @t12))))));evZ) (KY hc (b:=b) hps.at_ (hlen _ hpi) (a:=a1) (e:=e1) (by omega) (by omega) hn2) ?_;rintro _ _ _ ⟨rfl,N,rfl,hpN⟩;refine wnZ (aI @t0 (gH @t1 @t2 @t3 @t4 @t10 @t11 @t12 @t13 @t14 @tp)) ?_;exact⟨p2,1,N,by omega,by omega,hpi.swap hpN,hps.upd,(have zz:=@t0;evZ),(have zz:=@t1;evZ),(have zz:=@t2;evZ),(have zz:=@t3;evZ),(have zz:=@t4;evZ),(have zz:=@t10;evZ),(have zz:=@t11;evZ),(have zz:=@t12;evZ),ev0,ev0⟩
  ·have tz:decide (hint=2)=false:=aO h2;refine wnZ (aI @t0 (gH @t1 @t2 @t3 @t4 @t10 @t11 @t12 @t13 @t14 @tz)) ?_;exact⟨p,hint,M,hp1,hp2,hpi,hps,(have zz:=@t0;evZ),(have zz:=@t1;evZ),(have zz:=@t2;evZ),(have zz:=@t3;evZ),(have zz:=@t4;evZ),(have zz:=@t10;evZ),(have zz:=@t11;evZ),(have zz:=@t12;evZ),(have zz:=@t13;evZ),(have zz:=@t14;evZ)⟩
 clear t0 t1 t2 t3 t4 t10 t11 t12 t13 t14 hps hpi hp1 hp2;rintro T H1 n1 ⟨p,hint,M,hp1,hp2,hpi,hps,t0,t1,t2,t3,t4,t10,t11,t12,t13,t14⟩;refine cr (λT H'' nx''=>∃(M:List α),PI K a e L a1 e1 M/\PS H H'' nx nx'' b (M.map f)/\T 0=.msl b n 1 0 n/\T 1=.int .i64 (a1:Nat)/\T 2=.int .i64 (e1:Nat)/\T 3=.int .i64 (lim:Nat)/\T 4=.func g caps/\T 10=.bool wb/\T 11=.bool wp/\T 12=.int .i64 (l:Nat)/\T 13=.int .i64 (p:Nat)) ?_ ?_
 ·cases wb
  ·cases wp
   ·refine wnZ (gH @t0 @t1 @t2 @t3 @t4 @t10 @t11 @t12 @t13 @t14) ?_;exact⟨M,hpi,hps,(have zz:=@t0;evZ),(have zz:=@t1;evZ),(have zz:=@t2;evZ),(have zz:=@t3;evZ),(have zz:=@t4;evZ),(have zz:=@t10;evZ),(have zz:=@t11;evZ),(have zz:=@t12;evZ),(have zz:=@t13;evZ)⟩
   ·refine wnZ (gH @t0 @t1 @t2 @t3 @t4 @t10 @t11 @t12 @t13 @t14) ?_;exact⟨M,hpi,hps,(have zz:=@t0;evZ),(have zz:=@t1;evZ),(have zz:=@t2;evZ),(have zz:=@t3;evZ),(have zz:=@t4;evZ),(have zz:=@t10;evZ),(have zz:=@t11;evZ),(have zz:=@t12;evZ),(have zz:=@t13;evZ)⟩
  ·cases wp
   ·refine wnZ (gH @t0 @t1 @t2 @t3 @t4 @t10 @t11 @t12 @t13 @t14) ?_;exact⟨M,hpi,hps,(have zz:=@t0;evZ),(have zz:=@t1;evZ),(have zz:=@t2;evZ),(have zz:=@t3;evZ),(have zz:=@t4;evZ),(have zz:=@t10;evZ),(have zz:=@t11;evZ),(have zz:=@t12;evZ),(have zz:=@t13;evZ)⟩
   ·by_cases h1:hint=1
    ·subst h1;have tz:decide ((1:Int)=1)=true:=rfl;refine wnZ (aI @t0 (gH @t1 @t2 @t3 @t4 @t10 @t11 @t12 @t13 @t14 @tz)) ?_;refine bc ev0 (have zz:=aI @t0 (aI @t1 (aI @t2 (aI @t3 (aI @t4 (aI @t10 (aI @t11 @t12))))));evZ) (DK hc (b:=b) hps.at_ (hlen _ hpi) (hGA _ hpi) (a:=a1) (e:=e1) (by omega) (by omega) hn2 hpi.low) ?_;rintro _ _ _ ⟨rfl,N,t,rfl,rfl,hpN,hsN⟩;cases t
     ·refine wnZ (gH @t0 @t1 @t2 @t3 @t4 @t10 @t11 @t12 @t13 @t14) ?_;exact⟨N,hpi.swap hpN,hps.upd,(have zz:=@t0;evZ),(have zz:=@t1;evZ),(have zz:=@t2;evZ),(have zz:=@t3;evZ),(have zz:=@t4;evZ),(have zz:=@t10;evZ),(have zz:=@t11;evZ),(have zz:=@t12;evZ),(have zz:=@t13;evZ)⟩
     ·refine wnZ (gH @t0 @t1 @t2 @t3 @t4 @t10 @t11 @t12 @t13 @t14) ?_;exact⟨N,hps.upd,hpi.done hpN (hsN rfl)⟩
    ·have tz:decide (hint=1)=false:=aO h1;refine wnZ (aI @t0 (gH @t1 @t2 @t3 @t4 @t10 @t11 @t12 @t13 @t14 @tz)) ?_;exact⟨M,hpi,hps,(have zz:=@t0;evZ),(have zz:=@t1;evZ),(have zz:=@t2;evZ),(have zz:=@t3;evZ),(have zz:=@t4;evZ),(have zz:=@t10;evZ),(have zz:=@t11;evZ),(have zz:=@t12;evZ),(have zz:=@t13;evZ)⟩
 clear t0 t1 t2 t3 t4 t10 t11 t12 t13 t14 hps hpi hint;rintro T H1 n1 ⟨M,hpi,hps,t0,t1,t2,t3,t4,t10,t11,t12,t13⟩;have hbb:=hps.at_;have hl:=hlen _ hpi;have hGM:=hGA _ hpi;refine cr (λT H'' nx''=>T 0=.msl b n 1 0 n/\T 1=.int .i64 (a1:Nat)/\T 2=.int .i64 (e1:Nat)/\T 3=.int .i64 (lim:Nat)/\T 4=.func g caps/\T 10=.bool wb/\T 11=.bool wp/\T 12=.int .i64 (l:Nat)/\T 13=.int .i64 (p:Nat)/\H1=H''/\n1=nx'') ?_ ?_
 ·by_cases ha0:a1=0
  ·have tz:decide ((0:Int)<(a1:Int))=false:=aO (by omega);refine wkZ (gH @t0 @t1 @t2 @t3 @t4 @t10 @t11 @t12 @t13 @tz) ?_;exact⟨(have zz:=@t0;evZ),(have zz:=@t1;evZ),(have zz:=@t2;evZ),(have zz:=@t3;evZ),(have zz:=@t4;evZ),(have zz:=@t10;evZ),(have zz:=@t11;evZ),(have zz:=@t12;evZ),(have zz:=@t13;evZ),rfl,rfl⟩
  have tz:decide ((0:Int)<(a1:Int))=true:=aL (by omega);obtain⟨k,hk⟩:∃k,a1-1=k:=⟨_,rfl⟩
  have tk:(a1:Int)-1=(k:Int):=by omega
  have lc:=hc.run (M.getD k default) (M.getD p default) (hGM _ (bk (by omega))) (hGM _ (bk (by omega)));have d1:=hc.dat (M.getD k default);have d2:=hc.dat (M.getD p default);generalize hKK:K (M.getD k default) (M.getD p default)=kk at lc;by_cases hlt:kk<0
  ·have zz:=aI @t0 (aI @t1 (aI @t2 (aI @t3 (aI @t4 (aI @t10 (aI @t11 (aI @t12 (aI @t13 (aI @tz (aI @tk (aI @hbb (aI @cz (aI hc.cells hc.one)))))))))))));repeat' (first|refine zW ?_|refine zM ?_|apply a_n|refine zO ?_|refine vZ ?_|refine cZ ?_ (hp:=lc) (hs:=by(first|refine aF ?_ rfl|apply aW);(repeat' (first|exact aj|apply bo|apply aX|exact d1|exact d2|exact bl dcap));first|done|fail)|refine gTZ ?_|(refine zGZ ?_ ?_<;>(intro _hg;try (exfalso;omega)))|fail)
   exact⟨(have zz:=@t0;evZ),(have zz:=@t1;evZ),(have zz:=@t2;evZ),(have zz:=@t3;evZ),(have zz:=@t4;evZ),(have zz:=@t10;evZ),(have zz:=@t11;evZ),(have zz:=@t12;evZ),(have zz:=@t13;evZ),rfl,rfl⟩
  ·have zz:=aI @t0 (aI @t1 (aI @t2 (aI @t3 (aI @t4 (aI @t10 (aI @t11 (aI @t12 (aI @t13 (aI @tz (aI @tk (aI @hbb (aI @cz (aI hc.cells hc.one)))))))))))));repeat' (first|refine zW ?_|refine zM ?_|apply a_n|refine zO ?_|refine vZ ?_|refine cZ ?_ (hp:=lc) (hs:=by(first|refine aF ?_ rfl|apply aW);(repeat' (first|exact aj|apply bo|apply aX|exact d1|exact d2|exact bl dcap));first|done|fail)|refine gTZ ?_|(refine zGZ ?_ ?_<;>(intro _hg;try (exfalso;omega)))|fail)
   refine bc ev0 (have zz:=aI @t0 (aI @t1 (aI @t2 (aI @t3 (aI @t4 (aI @t10 (aI @t11 (aI @t12 @t13)))))));evZ) (F6 hc (b:=b) hps.at_ (hlen _ hpi) (hGA _ hpi) (a:=a1) (e:=e1) (pv:=p) (by omega) (by omega) hn2 ⟨hp1,hp2⟩) ?_;rintro _ _ _ ⟨rfl,N,m,rfl,hm1,hm2,rfl,hpN,q1,q2⟩;refine wnZ (zI9 @t0 @t1 @t2 @t3 @t4 @t10 @t11 @t12 @t13) ?_;exact⟨(m,e1,lim,wb,wp,N),by dsimp only;omega,⟨hpi.equal hc.ord hpN (by rw[hk,hKK];exact hlt) (by omega) ⟨hm1,hm2⟩ q1 q2,hps.upd,hlim⟩,(have zz:=aI @t0 (aI @t1 (aI @t2 (aI @t3 (aI @t4 (aI @t10 (aI @t11 @t12))))));agZ)⟩
 clear t0 t1 t2 t3 t4 t10 t11 t12 t13;rintro T _ _ ⟨t0,t1,t2,t3,t4,t10,t11,t12,t13,rfl,rfl⟩;refine cr (λT H'' nx''=>∃(M:List α)(m:Nat)(t:Bool),PI K a e L a1 e1 M/\TwoS K a1 e1 m M/\PS H H'' nx nx'' b (M.map f)/\T 0=.msl b n 1 0 n/\T 1=.int .i64 (a1:Nat)/\T 2=.int .i64 (e1:Nat)/\T 3=.int .i64 (lim:Nat)/\T 4=.func g caps/\T 10=.bool wb/\T 11=.bool wp/\T 12=.int .i64 (l:Nat)/\T 16=.int .i64 (m:Nat)/\T 17=.bool t) ?_ ?_
 ·refine wnZ (zI9 @t0 @t1 @t2 @t3 @t4 @t10 @t11 @t12 @t13) ?_;refine bc ev0 (have zz:=aI @t0 (aI @t1 (aI @t2 (aI @t3 (aI @t4 (aI @t10 (aI @t11 (aI @t12 @t13)))))));evZ) (JB hc (b:=b) hps.at_ (hlen _ hpi) (hGA _ hpi) (a:=a1) (e:=e1) (pv:=p) (by omega) (by omega) hn2 ⟨hp1,hp2⟩) ?_;rintro _ _ _ ⟨rfl,N,m,t,rfl,hm1,hm2,rfl,hpN,q1,q2⟩;refine wnZ (zI9 @t0 @t1 @t2 @t3 @t4 @t10 @t11 @t12 @t13) ?_;exact⟨N,m,t,hpi.swap hpN,⟨⟨hm1,hm2⟩,λp k1 k2=>hc.ord.asym _ _ (q1 p k1 k2),q2⟩,hps.upd,(have zz:=@t0;evZ),(have zz:=@t1;evZ),(have zz:=@t2;evZ),(have zz:=@t3;evZ),(have zz:=@t4;evZ),(have zz:=@t10;evZ),(have zz:=@t11;evZ),(have zz:=@t12;evZ),ev0,ev0⟩
 clear t0 t1 t2 t3 t4 t10 t11 t12 t13 hbb hl hGM hpi hps hp1 hp2 p;rintro T H1 n1 ⟨M,m,t,hpi,hts,hps,t0,t1,t2,t3,t4,t10,t11,t12,t16,t17⟩;have hm:=hts.mid;have hl:=hlen _ hpi
 have tq:bt .quo false false (.int .i64 (l:Int)) (.int .i64 8)=some (.int .i64 ((l/8:Nat):Int)):=by
  rw[o7 (by omega) (by omega) (by omega)]
  congr 2
 have tm:(m:Int)+1=((m+1:Nat):Int):=by omega
 by_cases hlr:(m:Int)-(a1:Int)<(e1:Int)-(m:Int)
 ·have tz:decide ((m:Int)-(a1:Int)<(e1:Int)-(m:Int))=true:=aL hlr;refine wnZ (aI @t0 (aI @t1 (gH @t2 @t3 @t4 @t10 @t11 @t12 @t16 @t17 @tq @tz))) ?_;refine bc ev0 (have zz:=aI @t0 (aI @t1 (aI @t2 (aI @t3 (aI @t4 (aI @t10 (aI @t11 (aI @t12 (aI @t16 @t17))))))));evZ) (ih a1 m lim M H1 n1 (by omega) hps.at_ (hbn _ _ _ hps) hl (hGA _ hpi) (by omega) (by omega) hlim (hpi.low.sub rfl (by omega))) ?_;rintro _ H2 n2 ⟨N,hps2,hpN,hsN⟩;refine wnZ (aI @t0 (gH @t1 @t2 @t3 @t4 @t10 @t11 @t12 @t16 @t17 @tm)) ?_;exact⟨(m+1,e1,lim,decide (((l/8:Nat):Int)<=(m:Int)-(a1:Int)),t,N),by dsimp only;omega,⟨hpi.left hc.ord hts hpN hsN,hps.rec_ hps2.at_ hps2.fr hps2.le,hlim⟩,(have zz:=aI @t0 (aI @t1 (aI @t2 (aI @t3 (aI @t4 (aI @t10 (aI @t11 (aI @t12 (aI @t16 @t17))))))));agZ)⟩
 ·have tz:decide ((m:Int)-(a1:Int)<(e1:Int)-(m:Int))=false:=aO hlr;refine wnZ (aI @t0 (aI @t1 (aI @t2 (gH @t3 @t4 @t10 @t11 @t12 @t16 @t17 @tq @tz @tm)))) ?_;refine bc ev0 (have zz:=aI @t0 (aI @t1 (aI @t2 (aI @t3 (aI @t4 (aI @t10 (aI @t11 (aI @t12 (aI @t16 @t17))))))));evZ) (ih (m+1) e1 lim M H1 n1 (by omega) hps.at_ (hbn _ _ _ hps) hl (hGA _ hpi) (by omega) (by omega) hlim (λq k0 k1 k2=>by rw[rF];exact hts.ge q k1 k2)) ?_;rintro _ H2 n2 ⟨N,hps2,hpN,hsN⟩;refine wnZ (gH @t0 @t1 @t2 @t3 @t4 @t10 @t11 @t12 @t16 @t17) ?_;exact⟨(a1,m,lim,decide (((l/8:Nat):Int)<=(e1:Int)-(m:Int)),t,N),by dsimp only;omega,⟨hpi.right hc.ord hts hpN hsN,hps.rec_ hps2.at_ hps2.fr hps2.le,hlim⟩,(have zz:=aI @t0 (aI @t1 (aI @t2 (aI @t3 (aI @t4 (aI @t10 (aI @t11 (aI @t12 (aI @t16 @t17))))))));agZ)⟩
end
section
variable{α:Type}[Inhabited α]{f:α->AV}{K:α->α->Int}{G:α->Prop}{g:Nat}{caps:List AV}
set_option maxRecDepth 100000 in
theorem GQ{H:Hp}{nx:Nat}:Abs.Fn Tryz.prog 175 [.int .u64 0] H nx λr H' nx'=>nx'=nx/\H'=H/\r=.int .i64 0:=by
 refine fO Ij ?_;simp only[IB,aH];generalize hT:AV.str (ByteArray.mk (Array.mk [0,1,2,2,3,3,3,3,4,4,4,4,4,4,4,4,5,5,5,5,5,5,5,5,5,5,5,5,5,5,5,5,6,6,6,6,6,6,6,6,6,6,6,6,6,6,6,6,6,6,6,6,6,6,6,6,6,6,6,6,6,6,6,6,7,7,7,7,7,7,7,7,7,7,7,7,7,7,7,7,7,7,7,7,7,7,7,7,7,7,7,7,7,7,7,7,7,7,7,7,7,7,7,7,7,7,7,7,7,7,7,7,7,7,7,7,7,7,7,7,7,7,7,7,7,7,7,7,8,8,8,8,8,8,8,8,8,8,8,8,8,8,8,8,8,8,8,8,8,8,8,8,8,8,8,8,8,8,8,8,8,8,8,8,8,8,8,8,8,8,8,8,8,8,8,8,8,8,8,8,8,8,8,8,8,8,8,8,8,8,8,8,8,8,8,8,8,8,8,8,8,8,8,8,8,8,8,8,8,8,8,8,8,8,8,8,8,8,8,8,8,8,8,8,8,8,8,8,8,8,8,8,8,8,8,8,8,8,8,8,8,8,8,8,8,8,8,8,8,8,8,8,8,8,8,8]))=tb;have ht:nZ tb (.int .u8 0)=some (.int .u8 0):=by rw[<-hT];exact zm (x:=0) (by decide)
 clear hT;have w8:IntKind.wrap .u8 0=0:=by decide
 refine wnZ (aI @w8 @ht) ?_;exact⟨rfl,rfl,by congr 1⟩
theorem J8{H:Hp}{nx:Nat}:Abs.Fn Tryz.prog 156 [.int .u64 0] H nx λr H' nx'=>nx'=nx/\H'=H/\r=.int .i64 0:=by
 refine fO Ig ?_;simp only[IU,aH];refine wnZ and_self ?_;refine bc ev0 ev0 GQ ?_;rintro _ _ _ ⟨rfl,rfl,rfl⟩;refine wnZ and_self ?_;exact⟨rfl,rfl,rfl⟩
theorem BD(hc:Cmp Tryz.prog f K G g caps){L:List α}{H:Hp}{b nx n:Nat}(hH:H b=some (L.map f))(hbx:b<nx)(hn:L.length=n)(hn0:0<n)(hG:∀x∈L,G x)(hn2:n<=1000000000):
    Abs.Fn Tryz.prog 130 [.msl b n 1 0 n,.func g caps] H nx λr H' nx'=>∃L',PS H H' nx nx' b (L'.map f)/\L'.Perm L/\bu K 0 n L':=by
 refine fO Ir ?_;simp only[Jc,aH];have w:IntKind.wrap .u64 (n:Int)=n:=gq (by omega) (by omega);refine wnZ @w ?_;refine bc ev0 (have zz:=@w;evZ) (FS hn0 (by omega)) ?_;rintro _ _ _ ⟨rfl,rfl,k,rfl,h3,h4⟩
 have hk:k<=62:=by
  rcases pW 62 k with h|h
  ·have:=Nat.pow_le_pow_right (n:=2) (by omega) h;omega
  ·exact h
 refine wnZ and_self ?_;refine bc ev0 (have zz:=@Int.natCast_zero;evZ) (Mx hc hn2 (n+1) 0 n k L _ _ (by omega) hH hbx hn hG (by omega) (aR _) (by omega) (λq h=>by omega)) ?_;rintro _ _ _ ⟨N,hps,hp,hs⟩;refine wnZ and_self ?_;exact⟨N,hps,hp.perm,hs⟩
end
section
variable{α:Type}[Inhabited α]{f:α->AV}{K:α->α->Int}{G:α->Prop}{g:Nat}{caps:List AV}
end
section
variable{α:Type}[Inhabited α]{f:α->AV}{K:α->α->Int}{G:α->Prop}{g:Nat}{caps:List AV}
end
section
variable{α:Type}[Inhabited α]{f:α->AV}{K:α->α->Int}{G:α->Prop}{g:Nat}{caps:List AV}
end
section
variable{α:Type}[Inhabited α]{f:α->AV}{K:α->α->Int}{G:α->Prop}{g:Nat}{caps:List AV}
end
section
variable{α:Type}[Inhabited α]{f:α->AV}{K:α->α->Int}{G:α->Prop}{g:Nat}{caps:List AV}
end
section
variable{α:Type}[Inhabited α]{f:α->AV}{K:α->α->Int}{G:α->Prop}{g:Nat}{caps:List AV}
end
section
variable{α:Type}[Inhabited α]{f:α->AV}{K:α->α->Int}{G:α->Prop}{g:Nat}{caps:List AV}
end
section
variable{α:Type}[Inhabited α]{f:α->AV}{K:α->α->Int}{G:α->Prop}{g:Nat}{caps:List AV}
end
section
variable{α:Type}[Inhabited α]{f:α->AV}{K:α->α->Int}{G:α->Prop}{g:Nat}{caps:List AV}
end
section
variable{α:Type}[Inhabited α]{f:α->AV}{K:α->α->Int}{G:α->Prop}{g:Nat}{caps:List AV}
end
theorem zD(l:List Spx)(hl:l.length<=100000)(hs:∀s∈l,ce cJ s/\s.length<=1000000)(H:Hp)(nx:Nat):Abs.Fn Tryz.prog 92 [am l] H nx λr H' nx'=>∃ks vs,r=.mp nx/\IncOk H' nx nx nx' (nz l l.length) ks vs/\(∀x,x<nx->H' x=H x)/\nx<nx':=by
 refine fO N8 ?_;simp only[b92,aH];refine dJ ?_
 repeat' (first|apply a_n|refine zO ?_|refine vZ ?_|fail)
 refine dJ ?_;refine wnZ and_self ?_;refine u0 ?_;refine wnY @ae ?_;refine bN (X:=Nat×List Vtx×List AV) (λx=>[(3,.mp nx),(9,am l),(10,.int .i64 l.length),(11,.int .i64 x.1)]) (λx H' nx'=>x.1<=l.length/\IncOk H' nx nx nx' (nz l x.1) x.2.1 x.2.2/\(∀y,y<nx->H' y=H y)/\nx<nx') (λx=>l.length-x.1) (0,[],[]) ⟨bw _,⟨ah,rfl,List.nodup_nil,λv=>by simp[nz],λj h=>absurd h (by simp),λj B h=>absurd h (by simp),λi j B h=>absurd h (by simp),by omega⟩,λy hy=>ac (by omega),by omega⟩ ag0 ?_;rintro⟨i,ks,vs⟩ H1 nx1 ⟨h1,h2,h3,h4⟩;dsimp only at h1 h2 |-;by_cases hi:i<l.length
 rotate_left
 ·obtain rfl:i=l.length:=by omega
  refine wnY and_self ?_;exact⟨ks,vs,rfl,h2,h3,h4⟩
 have ix:=dH hi;obtain⟨hsa,hsl⟩:=hs _ (ay hi);have hstep:=λj v hj=>DN (l:=l) (i:=i) (j:=j) (v:=v) hj hsa;have hend:=λv=>Ct (l:=l) (i:=i) (v:=v);have hlen:=λj v=>FT (l:=l) (i:=i) (j:=j) (v:=v);have h20:IncOk H1 nx nx nx1 (pb l i 0) ks vs:=by rw[show pb l i 0=nz l i from funext λv=>C5];exact h2
 have hend':nz l (i+1)=pb l i (l.getD i default).length:=funext hend;clear h2;generalize l.getD i default=s at *;refine wnY (aI @ix @ao) ?_;refine bN (X:=Nat×List Vtx×List AV) (λx=>[(3,.mp nx),(9,am l),(10,.int .i64 l.length),(11,.int .i64 i),(4,.int .i64 i),(5,aA s),(16,aA s),(17,.int .i64 s.length),(18,.int .i64 x.1)]) (λx H' nx'=>x.1<=s.length/\IncOk H' nx nx nx' (pb l i x.1) x.2.1 x.2.2/\(∀y,y<nx->H' y=H y)/\nx<nx') (λx=>s.length-x.1) (0,ks,vs) ⟨bw _,h20,h3,h4⟩ ag0 ?_;clear h20 h3 h4;rintro⟨j,ks,vs⟩ H2 nx2 ⟨k1,k2,k3,k4⟩;dsimp only at k1 k2 |-;by_cases hj:j<s.length
 rotate_left
 ·obtain rfl:j=s.length:=by omega
  refine wnY and_self ?_;exact⟨(i+1,ks,vs),by dsimp only;omega,⟨by dsimp only;omega,by dsimp only;rw[hend'];exact k2,k3,k4⟩,ag0⟩
 have iy:=ix2 hj;have hG:=λv=>hstep j v hj;have hcl:=hlen j (s.getD j default);generalize s.getD j default=w at *;refine wnY @iy ?_;have g3:∀x,x<nx2->ar (ar (ar H2 nx2 [.int .i64 0,.int .i64 0]) nx2 (bD [.int .i64 0,.int .i64 0] 0 [.int .i64 w.color,.int .i64 w.label])) (nx2+1) [.int .i64 i] x=H2 x:=λx hx=>by rw[ac (by omega),ac (by omega),ac (by omega)]
 have g4:ar (ar (ar H2 nx2 [.int .i64 0,.int .i64 0]) nx2 (bD [.int .i64 0,.int .i64 0] 0 [.int .i64 w.color,.int .i64 w.label])) (nx2+1) [.int .i64 i] (nx2+1)=some [.int .i64 i]:=ah;generalize ar (ar (ar H2 nx2 [.int .i64 0,.int .i64 0]) nx2 (bD [.int .i64 0,.int .i64 0] 0 [.int .i64 w.color,.int .i64 w.label])) (nx2+1) [.int .i64 i]=H3 at *;have hmf:=D2 w ks;have hkl:(ks.map dF).length=ks.length:=bi ..;by_cases hw:w∈ks
 ·rw[if_pos hw] at hmf;obtain⟨m1,m2⟩:=xu hw;have hr:=k2.row (ks.idxOf w) m1;rw[m2] at hr;refine FJ ev0 ((g3 nx (by omega)).trans k2.box) ev0 (EH w) hmf ?_;have g5:∀x,x<nx2->x≠nx->ar H3 nx [.omap (cU (dF w) (some (ks.idxOf w)) (ks.map dF)) (nA .esl (some (ks.idxOf w)) vs)] x=H2 x:=λx hx hn=>by rw[ac hn,g3 x hx]
  have g6:ar H3 nx [.omap (cU (dF w) (some (ks.idxOf w)) (ks.map dF)) (nA .esl (some (ks.idxOf w)) vs)] nx=some [.omap (ks.map dF) vs]:=ah;have g7:ar H3 nx [.omap (cU (dF w) (some (ks.idxOf w)) (ks.map dF)) (nA .esl (some (ks.idxOf w)) vs)] (nx2+1)=some [.int .i64 i]:=by rw[ac (by omega)];exact g4
  generalize ar H3 nx [.omap (cU (dF w) (some (ks.idxOf w)) (ks.map dF)) (nA .esl (some (ks.idxOf w)) vs)]=H4 at *;rw[show CC .esl (some (ks.idxOf w)) vs=vs.getD (ks.idxOf w) .undef from rfl,show Au (some (ks.idxOf w)) (ks.map dF)=ks.idxOf w from rfl];refine wnY and_self ?_;refine gI (k:=1) (new:=[.int .i64 i]) rfl ev0 (hr.same λB hB=>?_) ev0 (ft (n:=1) (len:=1) (off:=0) g7 rfl (by omega)) rfl rfl jq (by rw[bi];omega) (by rw[bi];omega) ?_
  ·have:=k2.bnd _ B m1 hB;exact g5 B this.2.1 this.2.2
  rintro s2 H5 nx5 hr5 i1 i2 i3 i4;refine wnY and_self ?_;refine Em ev0 ((i3 nx (by omega) (λh=>(k2.bnd _ nx m1 h).2.2 rfl)).trans g6) ev0 (by rw[hkl];exact m1) ev0 ?_;refine wnY and_self ?_;refine⟨(j+1,ks,vs.set (ks.idxOf w) s2),by dsimp only;omega,⟨by dsimp only;omega,IncOk.put k2 hw hG ?_ (λB hB=>?_) ah (λx hx hx2 hxn hxr=>?_) (by omega) (by omega),λy hy=>?_,by omega⟩,ag0⟩
  ·rw[cl]
   exact hr5.same λB hB=>ac λe=>by
    rcases i4 B hB with h|h
    ·exact(k2.bnd _ B m1 h).2.2 e
    ·omega
  ·rcases i4 B hB with h|h
   ·exact .inl h
   ·exact .inr (by omega)
  ·rw[ac hxn,i3 x (by omega) hxr,g5 x hx2 hxn]
  ·rw[ac (by omega),i3 y (by omega) (λh=>by have:=k2.bnd _ y m1 h;omega),g5 y (by omega) (by omega)];exact k3 y hy
 ·rw[if_neg hw] at hmf;refine FJ ev0 ((g3 nx (by omega)).trans k2.box) ev0 (EH w) hmf ?_;have g5:∀x,x<nx2->x≠nx->ar H3 nx [.omap (cU (dF w) none (ks.map dF)) (nA .esl none vs)] x=H2 x:=λx hx hn=>by rw[ac hn,g3 x hx]
  have g6:ar H3 nx [.omap (cU (dF w) none (ks.map dF)) (nA .esl none vs)] nx=some [.omap (ks.map dF++[dF w]) (vs++[.esl])]:=ah;have g7:ar H3 nx [.omap (cU (dF w) none (ks.map dF)) (nA .esl none vs)] (nx2+1)=some [.int .i64 i]:=by rw[ac (by omega)];exact g4
  generalize ar H3 nx [.omap (cU (dF w) none (ks.map dF)) (nA .esl none vs)]=H4 at *;rw[show CC .esl none vs=.esl from rfl,show Au none (ks.map dF)=ks.length from hkl];refine wnY and_self ?_;refine gI (k:=1) (new:=[.int .i64 i]) (cs:=[]) rfl ev0 Row.nil ev0 (ft (n:=1) (len:=1) (off:=0) g7 rfl (by omega)) rfl rfl jq (by simp) (by simp) ?_;rintro s2 H5 nx5 hr5 i1 i2 i3 i4;have i4':∀B,bv s2=some B->B=nx2+1+1/\nx5=nx2+1+1+1:=λB hB=>(i4 B hB).elim (λh=>by cases h) id;refine wnY and_self ?_;refine Em (i:=ks.length) ev0 ((i3 nx (by omega) (λh=>by cases h)).trans g6) ev0 (by rw[cA,hkl];simp) ev0 ?_;have hset:(vs++[AV.esl]).set ks.length s2=vs++[s2]:=by rw[<-k2.len];simp
  rw[hset];refine wnY and_self ?_;refine⟨(j+1,ks++[w],vs++[s2]),by dsimp only;omega,⟨by dsimp only;omega,IncOk.new k2 hw hG ?_ (λB hB=>?_) (by rw[cl];exact ah) (λx hx hx2 hxn=>?_) (by omega) (by omega),λy hy=>?_,by omega⟩,ag0⟩
  ·exact hr5.same λB hB=>ac (by have:=i4' B hB;omega)
  ·have:=i4' B hB;omega
  ·rw[ac hxn,i3 x (by omega) (λh=>by cases h),g5 x hx2 hxn]
  ·rw[ac (by omega),i3 y (by omega) (λh=>by cases h),g5 y (by omega) (by omega)];exact k3 y hy
theorem Dh(l:List Int)(p:Int->Bool)(g:Nat)(caps:List AV)(hd:∀x∈caps,Dat x)(hg:∀x∈l,pU g (.int .i64 x::caps) (.bool (p x)))(hl:Shn l):pU 101 [aC l,.func g caps] (.int .i64 (if l.any p then(l.findIdx p:Nat) else-1)):=by
 refine pO Lx ?_;simp only[LO,aH];have hl':l.length<=17592186044416:=hl;refine wnZ and_self ?_;refine bN (X:=Nat) (λk=>[(0,aC l),(1,.func g caps),(6,aC l),(7,.int .i64 l.length),(8,.int .i64 k)]) (λk H nx=>k<=l.length/\∀i,i<k->p (l.getD i default)=false) (λk=>l.length-k) 0 ⟨bw _,λi h=>absurd h (by omega)⟩ ag0 ?_;rintro k H nx ⟨hk,hz⟩;by_cases hk2:k<l.length
 rotate_left
 ·rw[qG λi hi=>hz i (by omega),if_neg (by decide)];refine wnY and_self ?_;exact d6 rfl
 have hc:=hg _ (bk hk2);cases hp:p (l.getD k default)
 ·rw[hp] at hc;refine wnY and_self ?_;refine ef ev0 ev0 hc (aW (ag (.int _ _) (bl hd))) ?_;refine wnY and_self ?_
  exact ⟨k + 1,by omega,⟨by omega,fun i hi=>by
   rcases gN.1 hi with h|rfl
   ·exact hz i h
   ·exact hp⟩,ag0⟩
 ·rw[hp] at hc;obtain⟨e1,e2⟩:=yg hk2 hz hp;rw[e1,e2,if_pos rfl];refine wnY and_self ?_;refine ef ev0 ev0 hc (aW (ag (.int _ _) (bl hd))) ?_;refine wnY and_self ?_;exact .int _ _
theorem pE(l:List Int)(p:Int->Bool)(g:Nat)(caps:List AV)(hd:∀x∈caps,Dat x)(hg:∀x∈l,pU g (.int .i64 x::caps) (.bool (p x)))(hl:Shn l):pU 48 [aC l,.func g caps] (.bool (l.any p)):=by
 refine pO Ot ?_;simp only[b48,aH];have h:=Dh l p g caps hd hg hl
 repeat' (first|refine zW ?_|apply a_n|refine zO ?_|refine vZ ?_|refine cZ ?_ (hp:=h) (hs:=by(first|refine aF ?_ rfl|apply aW);(repeat' (first|exact aj|apply bo|apply aX|exact ct _|exact Dat.func hd));first|done|fail)|refine bS rfl ?_|refine r1Z ?_|fail)
 cases hA:l.any p
 ·exact cf (by simp)
 ·exact cf (by simp)
def OkS(l:List Spx):Prop:=l.length<=100000/\∀s∈l,ce cJ s/\s.length<=1000
theorem A0(l:List Spx)(s:Spx)(i:Nat)(hl:OkS l)(hs:ce cJ s/\s.length<=1000)(hi:i<l.length):pU 157 [.int .i64 i,.iptr [am l] 0,.iptr [aA s] 0] (.bool (decide (s.length<(l.getD i default).length)&&eh s (l.getD i default))):=by
 refine pO Mr ?_;simp only[MH,aH];have ix:=dH hi;obtain⟨t1,t2⟩:=hl.2 _ (ay hi);have hf:=JI s (l.getD i default) hs.1 t1 (by omega) (by omega);generalize l.getD i default=t at *;by_cases h:s.length<t.length
 ·have z:decide ((s.length:Int)<t.length)=true:=aL (by omega);rw[aL h,Bool.true_and];refine wkZ (zI3 @ao @ix @z) ?_;exact .bool _
 ·have z:decide ((s.length:Int)<t.length)=false:=aO (by omega);rw[aO h,Bool.false_and];refine wkZ (zI3 @ao @ix @z) ?_;exact .bool _
theorem De(l:List Spx)(s:Spx)(hl:OkS l)(hs:ce cJ s/\s.length<=1000)(h0:0<s.length):pU 131 [am l,aC ((nz l l.length (s.getD 0 default)).map λ(n:Nat)=>(n:Int)),aA s] (.bool (dB l s)):=by
 refine pO Mz ?_;simp only[LQ,aH];have hll:=hl.1
 have h:=pE ((nz l l.length (s.getD 0 default)).map fun (n:Nat)=>(n:Int)) (fun i=>decide (s.length < (l.getD i.toNat default).length) && eh s (l.getD i.toNat default)) 157 [.iptr [am l] 0,.iptr [aA s] 0] (DatL.cons (Dat.iptr (DatL.cons (bA _) DatL.nil)) (DatL.cons (Dat.iptr (DatL.cons (cS _) DatL.nil)) DatL.nil)) (fun x hx=>by
  obtain⟨n,hn,rfl⟩:=bG.1 hx;have hn2:n<l.length:=ed.1 (iG.1 hn).1;rw[cz];exact A0 l s n hl hs hn2) (by rw[Shn,bi];have:=xS (l:=l) (i:=l.length) (v:=s.getD 0 default);omega)
 rw [Hq (p:=fun t=>decide (s.length < t.length) && eh s t) h0 (fun t ht=>by
  rw[dN,fm] at ht;exact ht.2 _ (ay h0))] at h
 refine wnZ (zI4 @ai @af @aZ @aJ) ?_;refine ef (have zz:=aI @ai (aI @af (aI @aZ @aJ));evZ) (have zz:=aI @ai (aI @af (aI @aZ @aJ));evZ) h (aF (ag (ct _ _) (ag (vG (ag (yF rfl rfl (ag (bA _ _) aj)) (ag (yF rfl rfl (ag (cS _ _) aj)) aj))) aj)) rfl) ?_;refine wnZ and_self ?_;exact .bool _
end
theorem BR{H:Hp}{sv:AV}{F:List Nat}(h:Row H 1 sv (F.map p9)):Snap H sv (aC (F.map λ(n:Nat)=>(n:Int))):=by
 refine Row.snapI ?_;rw[List.map_map];exact h
theorem t8{c:List Spx}{k:Nat}:p7 c k=if bQ (c.getD k default)≠0 then bQ (c.getD k default) else if 0<k/\0<=bh (c.getD (k-1) default) (c.getD k default) then 14 else 0:=rfl
theorem Fs {c:List Spx} (h1:c.length ≤ 4096) (h:∀ s ∈ c,bQ s=0):OkS c:=⟨by omega,fun s hs=>by
 obtain⟨a1,a2,a3,a4⟩:=cE (h s hs);exact⟨a3,by omega⟩⟩
theorem oA{H:Hp}{b:Nat}{cs:List AV}(h:H b=some cs):Sub (only b cs) H:=λx c hx=>by
 unfold only at hx;split at hx
 ·rename_i e;rw[e,h];exact hx
 ·cases hx
def on2(b1:Nat)(c1:List AV)(b2:Nat)(c2:List AV):Hp:=λx=>if x=b1 then some c1 else if x=b2 then some c2 else none
theorem KU{b1 b2:Nat}{c1 c2:List AV}:on2 b1 c1 b2 c2 b1=some c1:=if_pos rfl
theorem K9{b1 b2:Nat}{c1 c2:List AV}(h:b2≠b1):on2 b1 c1 b2 c2 b2=some c2:=by unfold on2;rw[if_neg h,if_pos rfl]
theorem Bt{b1 b2:Nat}{c1 c2:List AV}{H:Hp}(h1:H b1=some c1)(h2:H b2=some c2):Sub (on2 b1 c1 b2 c2) H:=λx cs h=>by
 unfold on2 at h;split at h
 ·rename_i e;rw[e,h1];exact h
 ·split at h
  ·rename_i e;rw[e,h2];exact h
  ·cases h
theorem pS{P:Program}{T:Tm}{H:Hp}{nx:Nat}(b1 b2:Nat){c1 c2:List AV}{K:CP}{m:Nat}{l:List Op2}{C:List (Nat×Nat)}(h1:H b1=some c1)(h2:H b2=some c2)(hne:b2≠b1)(k:∀S:Hp,S b1=some c1->S b2=some c2->(∀H':Hp,H' b1=some c1->H' b2=some c2->Sub S H')->bf P S (C.map λk=>(l.getD k.1 ⟨none,none,.dead⟩,k.2)) T H nx λT H nx=>K .normal T H nx):aK P (.mixS m l C) T H nx K:=
 wZ (on2 b1 c1 b2 c2) rfl (Bt h1 h2) (k _ KU (K9 hne) λ_ a b=>Bt a b)
theorem w_mix1{P:Program}{T:Tm}{H:Hp}{nx:Nat}(b:Nat){c:List AV}{K:CP}{m:Nat}{l:List Op2}{C:List (Nat×Nat)}(h:H b=some c)(k:∀S:Hp,S b=some c->(∀H':Hp,H' b=some c->Sub S H')->bf P S (C.map λk=>(l.getD k.1 ⟨none,none,.dead⟩,k.2)) T H nx λT H nx=>K .normal T H nx):aK P (.mixS m l C) T H nx K:=
 wZ (only b c) rfl (oA h) (k _ ji λ_ h=>oA h)
theorem DJ{c:List Spx}(h1:∀s∈c,ce cJ s)(h2:ce bh c){i k:Nat}(hi:i<c.length)(hk:k<c.length)(hik:i≠k)(h:eh (c.getD i default) (c.getD k default)=true):dB c (c.getD i default)=true:=by
 refine oY.2 ⟨_,ay hk,IJ (h1 _ (ay hi)) (h1 _ (ay hk)) (fm.1 h) λe=>?_,fm.1 h⟩;rcases sU i k with q|q|q
 ·have:=eO h2 q hk;rw[e] at this;exact lO.ord.irr _ this
 ·exact hik q
 ·have:=eO h2 q hi;rw[e] at this;exact lO.ord.irr _ this
theorem FC{c:List Spx}{i:Nat}(h:dB c (c.getD i default)=true):∃k,k<c.length/\i≠k/\eh (c.getD i default) (c.getD k default)=true:=by
 obtain⟨t,ht,h1,h2⟩:=oY.1 h;obtain⟨k,hk,rfl⟩:=jK ht;have e:c.getD k default=c[k]:=by simp[List.getD,hk]
 refine⟨k,hk,λhik=>?_,by rw[e];exact fm.2 h2⟩;subst hik;rw[e] at h1;omega
structure MapV where
 fr:Spx
 to:Spx
 deriving Inhabited,DecidableEq
abbrev Mp(m:MapV):AV:=.agg [aA m.fr,aA m.to]
theorem E9(m:MapV):Dat (Mp m):=Dat.agg (DatL.cons (cS _) (DatL.cons (cS _) DatL.nil))
instance datI_encM{m:MapV}:DatI (Mp m):=⟨E9 m⟩
theorem AE{c:List Spx}:kY c=true↔c.length<=30/\∀s∈c,s.length<=10:=by
 unfold kY;rw[dN,xt,eB];simp only[xt]
def cm:Spx->Nat->List Spx
 |_,0=>[[]]
 |[],_+1=>[]
 |x::l,k+1=>(cm l k).map (x:: ·)++cm l (k+1)
theorem mz{l:Spx}:cm l 0=[[]]:=by cases l<;>rfl
theorem tw{k:Nat}:cm [] (k+1)=[]:=rfl
theorem hU{x:Vtx}{l:Spx}{k:Nat}:cm (x::l) (k+1)=(cm l k).map (x:: ·)++cm l (k+1):=rfl
theorem ez:∀{l:Spx}{k:Nat}{s:Spx},s∈cm l k↔s.Sublist l/\s.length=k
 |l,0,s=>by
  rw[mz,cW];exact⟨λh=>by subst h;exact⟨List.nil_sublist _,rfl⟩,λh=>fA.1 h.2⟩
 |[],k+1,s=>by
  rw[tw];refine⟨λh=>(by cases h),λ⟨h1,h2⟩=>?_⟩;rw[List.sublist_nil] at h1;subst h1;simp at h2
 |x::l,k+1,s=>by
  rw[hU,eC,bG,ez];constructor
  ·rintro(⟨t,ht,rfl⟩|⟨h1,h2⟩)
   ·have:=ez.1 ht;exact⟨this.1.cons_cons x,by simp[this.2]⟩
   ·exact⟨h1.cons x,h2⟩
  ·rintro⟨h1,h2⟩;cases h1 with
   |cons _ h=>exact .inr ⟨h,h2⟩
   |cons_cons _ h=>exact .inl ⟨_,ez.2 ⟨h,by simpa using h2⟩,rfl⟩
theorem lr{l:Spx}{k:Nat}(h:l.length<k):cm l k=[]:=by
 cases e:cm l k with
 |nil=>rfl
 |cons a r=>
  have:=ez.1 (show a∈cm l k by rw[e];exact dg);have:=this.1.length_le;omega
def chK:Nat->Nat->Nat
 |_,0=>1
 |0,_+1=>0
 |n+1,k+1=>chK n k+chK n (k+1)
theorem KS{n:Nat}:chK n 0=1:=by cases n<;>rfl
theorem uo:∀{l:Spx}{k:Nat},(cm l k).length=chK l.length k
 |l,0=>by rw[mz,KS];rfl
 |[],k+1=>rfl
 |x::l,k+1=>by
  rw[hU,cA,bi,uo,uo];rfl
theorem I1{n k:Nat}(hn:n<=8):chK n k<=70:=by
 by_cases hk:k<=8
 ·have:∀n,n<9->∀k,k<9->chK n k<=70:=by decide
  exact this n (by omega) k (by omega)
 ·have:∀n k,n<k->chK n k=0:=by
    intro n
    induction n with
    |zero=>intro k h;match k,h with|k+1,_=>rfl
    |succ n ih=>intro k h;match k,h with|k+1,h=>show chK n k+chK n (k+1)=0;rw[ih k (by omega),ih (k+1) (by omega)]
  rw[this n k (by omega)];omega
theorem nc{l:Spx}{k:Nat}(h:l.length<=8):(cm l k).length<=70:=by rw[uo];exact I1 h
theorem uP{l:Spx}{i k:Nat}(hi:i<l.length):cm (l.drop i) (k+1)=(cm (l.drop (i+1)) k).map (l.getD i default:: ·)++cm (l.drop (i+1)) (k+1):=by
 rw[List.drop_eq_getElem_cons hi,hU];simp[List.getD,hi]
theorem uU{v w:Vtx}{l m:Spx}:bh (v::l) (w::m)=if cJ v w≠0 then cJ v w else bh l m:=rfl
theorem CA{v:Vtx}{l m:Spx}:bh (v::l) (v::m)=bh l m:=by
 rw[uU,if_neg (λh=>h (jp.2 rfl))]
theorem my:∀{l:Spx}{k:Nat},ce cJ l->ce bh (cm l k)
 |l,0,_=>by rw[mz];exact List.pairwise_singleton _ _
 |[],k+1,_=>qB
 |x::l,k+1,h=>by
  have h':=iz.1 h;rw[hU];unfold ce;rw[List.pairwise_append];refine⟨?_,my h'.2,?_⟩
  ·rw[List.pairwise_map];exact yR (λ{a b} hab=>by rw[CA];exact hab) (my (k:=k) h'.2)
  ·intro a ha b hb;obtain⟨t,_,rfl⟩:=bG.1 ha;have hb':=ez.1 hb;cases b with
   |nil=>simp at hb'
   |cons y r=>
    have hy:y∈l:=hb'.1.subset dg;have:=h'.1 y hy;rw[uU,if_pos (by omega)];exact this
def sr(s:Spx)(k:Int):List Spx×Int:=if bQ s≠0 then([],bQ s) else if k<1\/(s.length:Int)<k then([],2) else(cm s k.toNat,0)
theorem dV{H:Hp}{s:AV}{l:List Spx}{e f:Int}(h:Snap H s (am l))(he:e=f):Snap H (.tup [s,.int .i64 e]) (.tup [am l,.int .i64 f]):=by
 subst he;exact bb (ag h (ag (.int _ _) aj))
def wu(l:List Spx)(v:Spx)(k:Nat):List Spx:=if (l.take k).any (λy=>decide (bh v y<0))=true then li bh (l.take k) v else l.take k
theorem Dw{l:List Spx}{v:Spx}{k:Nat}(hk:k<l.length):wu l v (k+1)=(if (l.take k).any (λy=>decide (bh v y<0))=false/\bh v (l.getD k default)<0 then wu l v k++[v] else wu l v k)++[l.getD k default]/\(l.take (k+1)).any (λy=>decide (bh v y<0))=((l.take k).any (λy=>decide (bh v y<0)) || decide (bh v (l.getD k default)<0)):=by
 unfold wu;rw[bI hk,FG];refine⟨?_,rfl⟩;by_cases hv:bh v (l.getD k default)<0
 ·rw[aL hv,Bool.or_true,if_pos rfl];cases ha:(l.take k).any λy=>decide (bh v y<0)
  ·rw[if_pos ⟨rfl,hv⟩,if_neg (by decide),Dq ha hv]
  ·rw[if_neg (λh=>by cases h.1),if_pos rfl,yN ha]
 ·rw[aO hv,Bool.or_false];cases ha:(l.take k).any λy=>decide (bh v y<0)
  ·simp;simpa using hv
  ·simp[hv,yN ha]
theorem Ev{l:List Spx}{v:Spx}{k:Nat}:(wu l v k).length<=l.length+1:=by
 unfold wu;split
 ·rw[yU,eM];omega
 ·rw[eM];omega
theorem qQ{H:Hp}{t x x':AV}{cs c:List AV}{nb:Nat}(hrow:Row H 1 t (cs++[x]))(hx:H nb=some c)(hs:Snap (only nb c) x x')(hne:bv t≠some nb):∃H',Fz (only nb c) H H'/\Row H' 1 t (cs++[x'])/\∀y,y≠nb->bv t≠some y->H' y=H y:=by
 generalize hcs:cs++[x]=ds at hrow;cases hrow with
 |nil=>exact absurd (congrArg List.length hcs) (by simp)
 |box b len ds g1 g2=>
  have hb:b≠nb:=λe=>hne (by rw[e];rfl);refine⟨ar (dl H nb) b (cs++[x']),⟨λy d h=>?_,λy d h=>?_⟩,Row.box b len _ ah (by rw[<-g2,<-hcs];simp),λy h1 h2=>?_⟩
  ·unfold only at h;split at h
   ·rename_i e;rw[e,hx];exact h
   ·cases h
  ·by_cases e:y=b
   ·subst e;rw[ah] at h;cases h;exact⟨ds,g1,if_neg hb,by rw[<-hcs];exact gC.snoc hs⟩
   ·rw[ac e] at h;by_cases e2:y=nb
    ·rw[e2] at h;exact absurd h (by simp[dl])
    ·rw[cq e2] at h;exact⟨d,h,if_neg e2,gC.refl _ _⟩
  ·rw[ac (λe=>h2 (by rw[e];rfl)),cq h1]
theorem sZ{l:Spx}{k:Nat}(h:k<=l.length):jI 2 (aA l) (some (.int .i64 k)) none none=some (aA (l.drop k)):=kS h
def gx(c:List Spx)(k:Nat):List Spx:=mi bh (c.flatMap λs=>cm s k)
theorem vt{c:List Spx}{k i:Nat}(hi:i<c.length):(c.take (i+1)).flatMap (λs=>cm s k)=(c.take i).flatMap (λs=>cm s k)++cm (c.getD i default) k:=by
 rw[bI hi,List.flatMap_append];simp
theorem js{k:Nat}:∀{c:List Spx},(∀s∈c,s.length<=8)->(c.flatMap λs=>cm s k).length<=70*c.length
 |[],_=>by simp
 |s::c,h=>by
  rw[ut,cA,bK];have:=nc (l:=s) (k:=k) (h s dg);have:=js (k:=k) (c:=c) (λt ht=>h t (ec _ ht));omega
theorem mg{c:List Spx}{k:Nat}{s:Spx}:s∈c.flatMap (λs=>cm s k)↔ ∃t∈c,s∈cm t k:=by rw[List.mem_flatMap]
theorem B7{c:List Spx}{k:Nat}(h:∀s∈c,s.length<=8):∀s∈c.flatMap (λs=>cm s k),Shn s:=λs hs=>by
 obtain⟨t,t1,t2⟩:=mg.1 hs;have:=(ez.1 t2).1.length_le;have:=h t t1;show _<=_;omega
def dr(c:List Spx)(k:Int):List Spx×Int:=if az c≠0 then([],az c) else if k<1\/8<k then([],2) else(gx c k.toNat,0)
def iB:Nat->Spx->List Int
 |0,_=>[]
 |n+1,[]=>(-1)::0::iB n []
 |n+1,v::l=>v.color::v.label::iB n l
theorem px:∀{n:Nat}{s:Spx},(iB n s).length=2*n
 |0,_=>rfl
 |n+1,[]=>by show(iB n []).length+1+1=_;rw[px];omega
 |n+1,v::l=>by show(iB n l).length+1+1=_;rw[px];omega
theorem x6:∀{n:Nat}{s t:Spx},s.length<=n->t.length<=n->(∀v∈s,0<=v.color)->(∀v∈t,0<=v.color)->iB n s=iB n t->s=t
 |0,[],[],_,_,_,_,_=>rfl
 |0,_::_,_,h,_,_,_,_=>absurd h (by simp)
 |0,[],_::_,_,h,_,_,_=>absurd h (by simp)
 |n+1,[],[],_,_,_,_,_=>rfl
 |n+1,[],w::m,_,_,_,h2,e=>by
  have:(-1:Int)=w.color:=(List.cons.inj e).1;have:=h2 w dg;omega
 |n+1,v::l,[],_,_,h1,_,e=>by
  have:v.color=(-1:Int):=(List.cons.inj e).1;have:=h1 v dg;omega
 |n+1,v::l,w::m,hl,hm,h1,h2,e=>by
  obtain⟨e1,e2⟩:=List.cons.inj e;obtain⟨e2,e3⟩:=List.cons.inj e2;have:=x6 (n:=n) (by simp at hl;omega) (by simp at hm;omega) (λx hx=>h1 x (ec _ hx)) (λx hx=>h2 x (ec _ hx)) e3;rw[this,oB.2 ⟨e1,e2⟩]
def Gc(x:List Int):AV:=.agg (x.map (AV.int .i64))
theorem D6 (x:List Int):Dat (Gc x):=Dat.agg (by
 induction x with
 |nil=>exact DatL.nil
 |cons a l ih=>exact DatL.cons .int ih)
theorem Bn:∀{n:Nat}{s:Spx},s.length<=n->cX s++((iB n []).map (AV.int .i64)).drop (s.length*2)=(iB n s).map (AV.int .i64)
 |n,[],_=>by simp[cX]
 |0,_::_,h=>absurd h (by simp)
 |n+1,v::l,h=>by
  have:=Bn (n:=n) (s:=l) (by simp at h;omega);show [AV.int .i64 v.color,AV.int .i64 v.label]++cX l++_=AV.int .i64 v.color::AV.int .i64 v.label::(iB n l).map (AV.int .i64);rw[<-this,bK,show(l.length+1)*2=l.length*2+1+1 by omega];rfl
def kc(k:Nat):List AV:=(iB k []++List.replicate (2*(8-k)) 0).map (AV.int .i64)
theorem Cs{H:Hp}{sz:Nat}{s:AV}{elems:List AV}(h:Row H sz s (elems.flatMap AV.cells))(hc:∀y∈elems,y.cells.length=sz)(hz:0<sz)(hd:∀y∈elems,∀c∈y.cells,SnapF H c c):SnapF H s (.sl sz elems):=by
 obtain⟨f1,f2⟩:=fg elems hc;generalize he:elems.flatMap AV.cells=cs at h;cases h with
 |nil=>
  have:elems.length*sz=0:=by rw[<-f1,he];rfl
  have:elems=[]:=fA.1 (by
   rcases Nat.mul_eq_zero.1 this with h|h
   ·exact h
   ·omega)
  subst this;exact .eslsl sz
 |box b len cs hb hl=>
  have hlen:elems.length=len:=Nat.eq_of_mul_eq_mul_right hz (by rw[<-f1,he,hl]);refine .msl b (len*sz) sz 0 len cs elems hb hl (by omega) hlen hc (λi j y a c hy hc' ha=>?_);have hj:j<sz:=by rw[<-hc y (gD hy)];exact(bU.1 hc').1
  have key:∀(l:List AV)(i j:Nat)(y c:AV),(∀z∈l,z.cells.length=sz)->l[i]?=some y->y.cells[j]?=some c->j<sz->(l.flatMap AV.cells)[i*sz+j]?=some c:=by
   intro l
   induction l with
   |nil=>intro i j y c _ h;simp at h
   |cons x l ih=>
    intro i j y c hl hy hc hj;rw[ut];cases i with
    |zero=>
     simp at hy;subst hy;rw[xP,cp,gF (by rw[hl x (by simp)];exact hj)];exact hc
    |succ i=>
     rw[iS (by rw[hl x (by simp),fJ];omega),hl x (by simp)];have:=ih i j y c (λz hz=>hl z (by simp[hz])) (by simpa using hy) hc hj;rw[<-this];congr 1;rw[fJ];omega
  have:=key elems i j y c hc hy hc' hj;rw[he,<-cp (i*sz)] at this;rw[this] at ha;cases ha;exact hd y (gD hy) a (gD hc')
theorem rN{H:Hp}{s:AV}{l:Spx}(h:Row H 2 s (cX l)):SnapF H s (aA l):=by
 refine Cs (elems:=l.map dF) (by rw[Bc];exact h) (λy hy=>?_) (by omega) (λy hy c hx=>?_)
 ·obtain⟨n,_,rfl⟩:=bG.1 hy;rfl
 ·obtain⟨n,_,rfl⟩:=bG.1 hy;simp only[dF,AV.cells,da,List.not_mem_nil,or_false] at hx;rcases hx with rfl|rfl<;>exact .int _ _
def K16:Type:={x:List Int // x.length=16}
instance:DecidableEq K16:=inferInstanceAs (DecidableEq {x:List Int // x.length=16})
def kK(s:Spx):K16:=⟨iB 8 s,by rw[px]⟩
def eK(x:K16):AV:=Gc x.1
theorem sf:∀{n:Nat}{xs ys:List Int},xs.length=n->ys.length=n->dC (List.replicate n .int) (xs.map (AV.int .i64)) (ys.map (AV.int .i64))=some (decide (xs=ys))
 |0,[],[],_,_=>rfl
 |0,_::_,_,h,_=>absurd h (by simp)
 |0,[],_::_,_,h=>absurd h (by simp)
 |n+1,[],_,h,_=>absurd h (by simp)
 |n+1,_::_,[],_,h=>absurd h (by simp)
 |n+1,x::xs,y::ys,h1,h2=>by
  have ih:=sf (n:=n) (xs:=xs) (ys:=ys) (by simpa using h1) (by simpa using h2);have e:(x==y)=decide (x=y):=rfl;rw[List.replicate_succ,fX,fX];by_cases hxy:x=y
  ·subst hxy;simp only[dC,jx,if_true,e,decide_true,ih];simp
  ·simp only[dC,jx,if_true,e,aO hxy];simp[hxy]
theorem IS(a b:K16):pp (.st [.int,.int,.int,.int,.int,.int,.int,.int,.int,.int,.int,.int,.int,.int,.int,.int]) (eK a) (eK b)=some (decide (a=b)):=by
 show dC (List.replicate 16 .int) (a.1.map (AV.int .i64)) (b.1.map (AV.int .i64))=_;rw[sf a.2 b.2]
 congr 1
 exact decide_eq_decide.2 ⟨Subtype.ext,λh=>congrArg Subtype.val h⟩
theorem Gq(v:K16)(ks:List K16):dh (.st [.int,.int,.int,.int,.int,.int,.int,.int,.int,.int,.int,.int,.int,.int,.int,.int]) (eK v) (ks.map eK)=some (if v∈ks then some (ks.idxOf v) else none):=nj _ eK IS v ks
theorem Cb(v:K16):jG (.st [.int,.int,.int,.int,.int,.int,.int,.int,.int,.int,.int,.int,.int,.int,.int,.int]) (eK v)=true:=by
 show(16==(v.1.map (AV.int .i64)).length)=true;rw[bi,v.2];rfl
def ms(s:Spx):Prop:=1<=s.length/\s.length<=8/\∀v∈s,0<=v.color
theorem Jg{s t:Spx}(hs:ms s)(ht:ms t)(h:kK s=kK t):s=t:=x6 hs.2.1 ht.2.1 hs.2.2 ht.2.2 (congrArg Subtype.val h)
theorem I6{O:List Spx}{f:Spx}(hO:∀s∈O,ms s)(hf:ms f):kK f∈O.map kK↔f∈O:=by
 rw[bG];exact⟨λ⟨s,h1,h2⟩=>by rw[<-Jg (hO s h1) hf h2];exact h1,λh=>⟨f,h,rfl⟩⟩
theorem G6{s:Spx}(h:bQ s=0):ms s:=by
 obtain⟨p1,p2,p3,p4⟩:=cE h;refine⟨p1,p2,λv hv=>?_⟩;have:=p4 v hv;unfold fP at this;simp only[dN,gB] at this;exact this.1.1
theorem Fq{s t:Spx}{k:Nat}(hs:ms s)(hk:1<=k)(h:t∈cm s k):ms t:=by
 obtain⟨h1,h2⟩:=ez.1 h;exact⟨by omega,fe h1.length_le hs.2.1,λv hv=>hs.2.2 v (h1.subset hv)⟩
theorem ra{O L P:List Spx}(hp:L.Perm O)(hs:bu bh 0 L.length L)(hn:O.Nodup)(hm:∀s,s∈O↔s∈P):L=mi bh P:=by
 refine nw lO ?_ (sB lO P) λs=>by rw[hp.mem_iff,hm,mF]
 unfold ce;rw[k9];intro i j hi hj hij;have h1:=hs i j (bw _) hij hj;rw[show L.getD i default=L[i] by simp[List.getD,hi],show L.getD j default=L[j] by simp[List.getD,hj]] at h1;rcases lO.tri L[i] L[j] with h|h|h
 ·exact h
 ·have:=(List.nodup_iff_pairwise_ne.1 (hp.nodup_iff.2 hn))
  exact absurd h ((k9.1 this) i j hi hj hij)
 ·exact absurd h h1
theorem tA(K:Nat->Int):∀n,(∀i j,i<j->j<n->K j<0->K i<0)->∃b,b<=n/\(∀i,i<b->K i<0)/\∀i,b<=i->i<n->0<=K i
 |0,_=>⟨0,aR _,λi h=>absurd h (by omega),λi _ h=>absurd h (by omega)⟩
 |n+1,hm=>by
  by_cases h:K n<0
  ·refine⟨n+1,aR _,λi hi=>?_,λi h1 h2=>absurd h1 (by omega)⟩;by_cases e:i=n
   ·subst e;exact h
   ·exact hm i n (by omega) (by omega) h
  ·obtain⟨b,h1,h2,h3⟩:=tA K n (λi j hi hj=>hm i j hi (by omega));refine⟨b,by omega,h2,λi hi hi2=>?_⟩;by_cases e:i=n
   ·subst e;omega
   ·exact h3 i hi (by omega)
theorem B2{tb tf:Bool}{i j:Nat}:bt .shr tb tf (.int .u64 ((i:Int)+(j:Int))) (.int .u64 1)=some (.int .u64 (((i+j)/2:Nat):Int)):=by
 have:=wE (k:=.u64) (a:=i+j) (b:=1) (tb:=tb) (tf:=tf) (k':=.u64) (by decide);simpa using this
def dt(l:List Nat):List Int:=l.map λ(n:Nat)=>(n:Int)
def dA(c:Int)(rows:List (List Int)):AV:=.agg [.int .i64 c,bm rows]
theorem c8(c:Int)(rows:List (List Int)):Dat (dA c rows):=Dat.agg (DatL.cons .int (DatL.cons (ku _) DatL.nil))
structure MatOk(H:Hp)(b lo hi n:Nat)(F:Nat->List Nat)(vs:List AV):Prop where
 box:H b=some vs
 len:vs.length=n
 row:∀j,j<n->Row H 1 (vs.getD j .undef) ((F j).map p9)
 bnd:∀j B,j<n->bv (vs.getD j .undef)=some B->lo<=B/\B<hi/\B≠b
 apart:∀i j B,i<n->j<n->i≠j->bv (vs.getD i .undef)=some B->bv (vs.getD j .undef)≠some B
theorem MatOk.same{H H':Hp}{b lo hi hi' n:Nat}{F G:Nat->List Nat}{vs:List AV}(h:MatOk H b lo hi n F vs)(hb:H' b=H b)(hs:∀x,lo<=x->x<hi->x≠b->H' x=H x)(hh:hi<=hi')(hG:∀j,j<n->G j=F j):MatOk H' b lo hi' n G vs:=
 ⟨hb.trans h.box,h.len,λj hj=>by rw[hG j hj];exact(h.row j hj).same λB hB=>by have:=h.bnd j B hj hB;exact hs B this.1 this.2.1 this.2.2,λj B hj hB=>by have:=h.bnd j B hj hB;exact⟨this.1,by omega,this.2.2⟩,h.apart⟩
theorem MatOk.put{H H':Hp}{b lo hi hi' n i x:Nat}{F G:Nat->List Nat}{vs:List AV}{sv:AV}(h:MatOk H b lo hi n F vs)(hin:i<n)(hG:∀j,j<n->G j=if j=i then F j++[x] else F j)(hrow:Row H' 1 sv ((F i++[x]).map p9))(hB:∀B,bv sv=some B->bv (vs.getD i .undef)=some B\/hi<=B/\B<hi'/\B≠b)(hb:H' b=some (vs.set i sv))
    (hs:∀x,lo<=x->x<hi->x≠b->bv (vs.getD i .undef)≠some x->H' x=H x) (hh:hi<=hi') (hlo:lo<=hi):MatOk H' b lo hi' n G (vs.set i sv):=by
 have hl:=h.len;have hg:∀j,(vs.set i sv).getD j .undef=if i=j then sv else vs.getD j .undef:=λj=>qF (by omega)
 refine⟨hb,by simp[hl],λj hj=>?_,λj B hj=>?_,λp q B hp hq hpq=>?_⟩
 ·rw[hg,hG j hj];by_cases e:i=j
  ·rw[if_pos e,if_pos e.symm,<-e];exact hrow
  ·rw[if_neg e,if_neg (λh=>e h.symm)]
   exact(h.row j hj).same λB hB'=>by
    have:=h.bnd j B hj hB';exact hs B this.1 this.2.1 this.2.2 λh'=>h.apart i j B hin hj e h' hB'
 ·rw[hg];by_cases e:i=j
  ·rw[if_pos e];intro hB';rcases hB B hB' with h'|h'
   ·have:=h.bnd _ B hin h';exact⟨this.1,by omega,this.2.2⟩
   ·exact⟨by omega,h'.2⟩
  ·rw[if_neg e];intro hB';have:=h.bnd j B hj hB';exact⟨this.1,by omega,this.2.2⟩
 ·rw[hg,hg];by_cases e1:i=p
  ·rw[if_pos e1,if_neg (by omega)];intro h1 h2;rcases hB B h1 with h'|h'
   ·exact h.apart i q B hin hq (by omega) h' h2
   ·have:=h.bnd q B hq h2;omega
  ·rw[if_neg e1];by_cases e2:i=q
   ·rw[if_pos e2];intro h1 h2;rcases hB B h2 with h'|h'
    ·exact h.apart p i B hp hin (by omega) h1 h'
    ·have:=h.bnd p B hp h1;omega
   ·rw[if_neg e2];exact h.apart p q B hp hq hpq
theorem MatOk.snap{H:Hp}{b lo hi n:Nat}{F:Nat->List Nat}{vs:List AV}(h:MatOk H b lo hi n F vs):Snap H (.msl b n 1 0 n) (bm ((List.range n).map λi=>dt (F i))):=by
 refine jy (l:=((List.range n).map λi=>dt (F i)).map aC) h.box h.len (by omega) (by simp) (λy hy=>?_) (λi a c ha hc=>?_)
 ·obtain⟨z,_,rfl⟩:=bG.1 hy;rfl
 ·have hin:i<n:=by
    have:=(bU.1 hc).1;simpa using this
  have hr:=h.row i hin;rw[cp] at ha;have e1:vs.getD i .undef=a:=by rw[Jn,ha];rfl
  rw[e1] at hr
  have e2:c=aC (dt (F i)):=by
   rw[l6,l6,List.getElem?_range hin] at hc;simpa using hc.symm
  rw[e2];exact BR hr
theorem MatOk.new{H:Hp}{b lo hi n:Nat}{F:Nat->List Nat}(hb:H b=some (List.replicate n .esl))(hF:∀j,j<n->F j=[]):MatOk H b lo hi n F (List.replicate n .esl):=by
 have hg:∀j,j<n->(List.replicate n AV.esl).getD j .undef=.esl:=λj hj=>by simp[List.getD,List.getElem?_replicate,hj]
 refine⟨hb,by simp,λj hj=>?_,λj B hj h=>?_,λi j B hi hj _ h=>?_⟩
 ·rw[hg j hj,hF j hj];exact Row.nil
 ·rw[hg j hj] at h;cases h
 ·rw[hg i hi] at h;cases h
theorem ka{H:Hp}{s:AV}{c:Int}{l:List (List Int)}{e f:Int}(h:Snap H s (bm l))(he:e=f):Snap H (.tup [.agg [.int .i64 c,s],.int .i64 e]) (.tup [dA c l,.int .i64 f]):=by
 subst he;exact bb (ag (mV (ag (.int _ _) (ag h aj))) (ag (.int _ _) aj))
theorem yb{c:List Spx}{k:Nat}{s:Spx}:s∈gx c k↔ ∃t∈c,s∈cm t k:=by
 unfold gx;rw[mF,mg]
theorem EX{c:List Spx}{k:Nat}:ce bh (gx c k):=sB lO _
theorem oC{c:List Spx}{k:Nat}(h:c.length<=50)(h8:∀s∈c,s.length<=8):(gx c k).length<=3500:=fe pc (fe (js h8) (by omega))
theorem ph{H:Hp}{t x:AV}{cs:List AV}{l:List Nat}(hrow:Row H 1 t (cs++[x]))(hx:Row H 1 x (l.map p9))(hne:∀b,bv x=some b->bv t≠some b):∃Hf H',Fz Hf H H'/\Row H' 1 t (cs++[aC (dt l)])/\∀y,bv x≠some y->bv t≠some y->H' y=H y:=by
 generalize hds:l.map p9=ds at hx;cases hx with
 |nil=>
  have hl:l=[]:=List.map_eq_nil_iff.1 hds;generalize hcs:cs++[AV.esl]=es at hrow;cases hrow with
  |nil=>exact absurd (congrArg List.length hcs) (by simp)
  |box b len es g1 g2=>
   refine⟨bP,ar H b (cs++[aC (dt l)]),⟨λy d h=>(by cases h),λy d h=>?_⟩,Row.box b len _ ah (by rw[<-g2,<-hcs];simp),λy h1 h2=>?_⟩
   ·by_cases e:y=b
    ·subst e;rw[ah] at h;cases h;exact⟨es,g1,rfl,by rw[<-hcs];exact gC.snoc (by rw[hl];exact .eslsl 1)⟩
    ·rw[ac e] at h;exact⟨d,h,rfl,gC.refl _ _⟩
   ·rw[ac (λe=>h2 (by rw[e];rfl))]
 |box b len ds g1 g2=>
  obtain⟨H',h1,h2,h3⟩:=qQ (x':=aC (dt l)) hrow g1 (BR (by rw[hds];exact Row.box b len ds ji g2)) (hne b rfl);exact⟨_,H',h1,h2,λy y1 y2=>h3 y (λe=>y1 (by rw[e];rfl)) y2⟩
theorem Bm{x:Int}{l:List Int}:jI 1 (aC (x::l)) (some (.int .i64 1)) none none=some (aC l):=kS (l:=x::l) (k:=1) (by simp)
theorem Ii{x:Int}{l:List Int}:eu 1 (aC (x::l)) (.int .i64 0)=some (.iptr [.int .i64 x] 0):=by
 rw[mZ,if_pos ⟨Int.le_refl _,by simp only[bK];omega⟩];rfl
theorem p8{P:Program}{T:Tm}{H:Hp}{nx:Nat}{dm:DM}{K:SP}{l:List Op2}{d:Option Nat}{bytes b N len n:Nat}{s x:Opd}{v:AV}{new C cs:List AV}(hd:dm2 dm T (.app 1 bytes s x)=true)(hs:ov T s=.msl b N 1 0 len)(hb:H b=some C)(hN:C.length=N)(htk:C.take len=cs)(hcl:cs.length=len)(hx:ov T x=v)(hsrc:gg 1 H v=some (n,new))(ho:AV.ones new=true)(hnl:new.length=n)(hle:len+n<=N)(h1:N*bytes<=140737488355328)(h2:N<=9223372036854775807)
    (next:∀C':List AV,C'.length=N->C'.take (len+n)=cs++new->ak P dm l (aP T d (.msl b N 1 0 (len+n))) (ar H b C') nx K):
    ak P dm (⟨d,none,.app 1 bytes s x⟩::l) T H nx K:=by
 by_cases e:len=N
 ·obtain rfl:n=0:=by omega
  obtain rfl:new=[]:=List.eq_nil_of_length_eq_zero hnl;subst e;refine zJ hd hs hb hx hsrc ho hN (Nat.mul_one _).symm h1 (by omega) ?_;rw[oI,Nat.mul_one];exact next _ (by rw[eH];exact hN) (by rw[eH,eH,oI];exact htk)
 ·refine AS hd hs hb hx hsrc ho hN (λ_=>by omega) (by omega) (by omega) ?_;refine next _ ?_ ?_
  ·rw[iv (by rw[hnl,hN];omega)];exact hN
  ·simp only[bD,cp,Nat.mul_one];rw[htk,Hj (by rw[cA,hcl,hnl];omega),fI (by rw[cA,hcl,hnl];omega)]
theorem vN{H:Hp}{b N len:Nat}{C:List AV}{R:List Int}(hb:H b=some C)(hN:C.length=N)(hle:len<=N)(hR:R.length=len)(h:C.take len=R.map (AV.int .i64)):Snap H (.msl b N 1 0 len) (aC R):=by
 refine jy (l:=R.map (AV.int .i64)) hb hN (by omega) (by simp[hR]) (λy hy=>?_) (λi a c ha hc=>?_)
 ·obtain⟨z,_,rfl⟩:=bG.1 hy;rfl
 ·have hin:i<len:=by have:=(bU.1 hc).1;rw[bi] at this;omega
  rw[<-h,jg,if_pos hin] at hc;rw[cp,hc] at ha;cases ha
  have hm:a∈R.map (AV.int .i64):=by
   rw[<-h];exact gD (i:=i) (by rw[jg,if_pos hin];exact hc)
  obtain⟨z,_,rfl⟩:=bG.1 hm;exact .int _ _
def bL:List Int->List Int->List Int
 |[],b=>b
 |x::a,[]=>x::a
 |x::a,y::b=>if x<y then x::bL a (y::b) else if y<x then y::bL (x::a) b else bL a b
termination_by a b=>a.length+b.length
theorem ia{b:List Int}:bL [] b=b:=by rw[bL]
theorem fH{a:List Int}:bL a []=a:=by cases a<;>rw[bL]
theorem kr{x y:Int}{a b:List Int}:bL (x::a) (y::b)=if x<y then x::bL a (y::b) else if y<x then y::bL (x::a) b else bL a b:=by rw[bL]
theorem oU:∀(n:Nat)(a b:List Int),a.length+b.length<=n->(bL a b).length<=a.length+b.length
 |_,[],b,_=>by rw[ia];simp
 |_,x::a,[],_=>by rw[fH];simp
 |0,x::a,y::b,h=>by simp only[bK] at h;omega
 |n+1,x::a,y::b,h=>by
  simp only[bK] at h |-;rw[kr];have h1:=oU n a (y::b) (by simp only[bK];omega);have h2:=oU n (x::a) b (by simp only[bK];omega);have h3:=oU n a b (by omega);simp only[bK] at h1 h2;split
  ·simp only[bK];omega
  split
  ·simp only[bK];omega
  ·omega
theorem Jz{H:Hp}{s:AV}{l:List Spx}(h:Row H 1 s (l.map aA)):∃Hf H',Fz Hf H H'/\Snap Hf s (am l)/\∀x,bv s≠some x->H' x=H x:=by
 generalize hcs:l.map aA=cs at h;cases h with
 |nil=>exact⟨bP,H,Fz.none,gj (by rw[hcs];exact Row.nil),λ_ _=>rfl⟩
 |box b len cs g1 g2=>exact⟨only b cs,dl H b,Fz.one g1,gj (by rw[hcs];exact Row.box b len cs ji g2),λx hx=>cq (λe=>hx (by rw[e];rfl))⟩
def bq(l:List Int):Prop:=l.Pairwise (· < ·)
theorem jF:∀(n:Nat)(a b:List Int),a.length+b.length<=n->bq a->bq b->bq (bL a b)/\∀z,z∈bL a b↔(z∈a/\z∉b)\/(z∈b/\z∉a)
 |_,[],b,_,_,hb=>by rw[ia];exact⟨hb,λz=>by simp⟩
 |_,x::a,[],_,ha,_=>by rw[fH];exact⟨ha,λz=>by simp⟩
 |0,x::a,y::b,h,_,_=>by simp only[bK] at h;omega
 |n+1,x::a,y::b,h,ha,hb=>by
  simp only[bK] at h;obtain⟨a1,a2⟩:=iz.1 ha;obtain⟨b1,b2⟩:=iz.1 hb;rw[kr];by_cases g1:x<y
  ·rw[if_pos g1];obtain⟨h1,h2⟩:=jF n a (y::b) (by simp only[bK];omega) a2 hb
   have hxb:∀z∈y::b,x<z:=λz hz=>by
    rcases da.1 hz with rfl|hz
    ·exact g1
    ·have:=b1 z hz;omega
   refine⟨iz.2 ⟨λz hz=>?_,h1⟩,λz=>?_⟩
   ·rcases(h2 z).1 hz with⟨q,_⟩|⟨q,_⟩
    ·exact a1 z q
    ·exact hxb z q
   ·rw[da,h2,da (a:=z) (b:=x)];by_cases hz:z=x
    ·subst hz;have:z∉y::b:=λq=>by have:=hxb z q;omega
     simp[this]
    ·simp[hz]
  rw[if_neg g1];by_cases g2:y<x
  ·rw[if_pos g2];obtain⟨h1,h2⟩:=jF n (x::a) b (by simp only[bK];omega) ha b2
   have hya:∀z∈x::a,y<z:=λz hz=>by
    rcases da.1 hz with rfl|hz
    ·exact g2
    ·have:=a1 z hz;omega
   refine⟨iz.2 ⟨λz hz=>?_,h1⟩,λz=>?_⟩
   ·rcases(h2 z).1 hz with⟨q,_⟩|⟨q,_⟩
    ·exact hya z q
    ·exact b1 z q
   ·rw[da,h2,da (a:=z) (b:=y)];by_cases hz:z=y
    ·subst hz;have:z∉x::a:=λq=>by have:=hya z q;omega
     simp[this]
    ·simp[hz]
  rw[if_neg g2];obtain rfl:x=y:=by omega
  obtain⟨h1,h2⟩:=jF n a b (by omega) a2 b2;refine⟨h1,λz=>?_⟩;rw[h2];by_cases hz:z=x
  ·subst hz;have q1:z∉a:=λq=>by have:=a1 z q;omega
   have q2:z∉b:=λq=>by have:=b1 z q;omega
   simp[q1,q2]
  ·simp[hz]
theorem uj{l:List Int}(h:bq l)(i:Nat)(hi:i+1<l.length):l.getD i default<l.getD (i+1) default:=by
 have:=(k9.1 h) i (i+1) (by omega) hi (by omega);simpa[List.getD,hi,show i<l.length by omega] using this
theorem oZ:∀{a b:List Int},bq a->bq b->(∀z,z∈a↔z∈b)->a=b
 |[],[],_,_,_=>rfl
 |[],y::b,_,_,h=>absurd ((h y).2 (dg ..)) (by simp)
 |x::a,[],_,_,h=>absurd ((h x).1 (dg ..)) (by simp)
 |x::a,y::b,ha,hb,h=>by
  obtain⟨a1,a2⟩:=iz.1 ha;obtain⟨b1,b2⟩:=iz.1 hb
  have e:x=y:=by
   rcases da.1 ((h x).1 (dg ..)) with e|e
   ·exact e
   ·rcases da.1 ((h y).2 (dg ..)) with e2|e2
    ·exact e2.symm
    ·have:=b1 _ e;have:=a1 _ e2;omega
  subst e
  congr 1
  refine oZ a2 b2 λz=>⟨λhz=>?_,λhz=>?_⟩
  ·rcases da.1 ((h z).1 (ec _ hz)) with e|e
   ·have:=a1 z hz;omega
   ·exact e
  ·rcases da.1 ((h z).2 (ec _ hz)) with e|e
   ·have:=b1 z hz;omega
   ·exact e
theorem eb{a b:List Int}(ha:bq a)(hb:bq b):bq (bL a b):=(jF _ a b (aR _) ha hb).1
def bit(z:Int)(a:List Int):Nat:=if z∈a then 1 else 0
theorem nt{z:Int}:bit z []=0:=by simp[bit]
theorem hZ{z:Int}{a:List Int}:bit z a<2:=by unfold bit;split<;>omega
theorem dG{z:Int}{a:List Int}:bit z a=1↔z∈a:=by unfold bit;split<;>simp[*]
theorem dU{a b:List Int}{z:Int}(ha:bq a)(hb:bq b):bit z (bL a b)=(bit z a+bit z b)%2:=by
 unfold bit;have h:=(jF _ a b (aR _) ha hb).2 z;by_cases h1:z∈a<;>by_cases h2:z∈b<;>simp[h,h1,h2]
theorem jX{a b:List Int}(ha:bq a)(hb:bq b)(h:∀z,bit z a=bit z b):a=b:=
 oZ ha hb λz=>by rw[<-dG,<-dG,h z]
theorem ww{a:List Int}(h:∀z,bit z a=0):a=[]:=by
 cases a with
 |nil=>rfl
 |cons x l=>exact absurd (h x) (by rw[dG.2 (dg ..)];decide)
def ld(r:List Int):Int:=r.getD 0 0
theorem dq{v:List Int}(h:v≠[]):ld v∈v:=by
 cases v with
 |nil=>exact absurd rfl h
 |cons x l=>exact dg ..
theorem nT{v:List Int}(h:bq v){z:Int}(hz:z∈v):ld v<=z:=by
 cases v with
 |nil=>cases hz
 |cons x l=>
  rcases da.1 hz with rfl|hz
  ·exact Int.le_refl _
  ·exact Int.le_of_lt ((iz.1 h).1 z hz)
inductive Sp(R:List (List Int)):List Int->Prop
 |nil:Sp R []
 |add {v r:List Int}:Sp R v->r∈R->Sp R (bL v r)
theorem dS{R:List (List Int)}{r:List Int}(h:r∈R):Sp R r:=by
 have:=Sp.add (Sp.nil (R:=R)) h
 rwa [ia] at this
def n5(z:Int)(p:List Int->Bool):List (List Int)->Nat
 |[]=>0
 |r::E=>(if p r=true then bit z r else 0)+n5 z p E
theorem n6{z:Int}{p q:List Int->Bool}:∀{E:List (List Int)},(∀r∈E,p r=q r)->n5 z p E=n5 z q E
 |[],_=>rfl
 |r::E,h=>by
  unfold n5;rw[h r (dg ..),n6 λx hx=>h x (ec _ hx)]
theorem sV{z:Int}{p:List Int->Bool}:∀{E:List (List Int)},n5 z p E≠0->∃q∈E,p q=true/\z∈q
 |[],h=>absurd rfl h
 |r::E,h=>by
  unfold n5 at h;by_cases h1:p r=true/\z∈r
  ·exact⟨r,dg ..,h1⟩
  ·have:n5 z p E≠0:=λe=>by
     rw[e] at h;by_cases h2:p r=true
     ·rw[if_pos h2] at h;have:bit z r=1:=by have:=hZ (z:=z) (a:=r);omega
      exact h1 ⟨h2,dG.1 this⟩
     ·rw[if_neg h2] at h;exact h rfl
   obtain⟨q,q1,q2⟩:=sV this;exact⟨q,ec _ q1,q2⟩
theorem nq{z:Int}{p:List Int->Bool}{E:List (List Int)}(h:∀q∈E,p q=true->z∉q):n5 z p E=0:=
 Decidable.byContradiction λe=>by
  obtain⟨q,q1,q2,q3⟩:=sV e;exact h q q1 q2 q3
theorem zX{z:Int}{p:List Int->Bool}{r:List Int}:∀{E:List (List Int)},E.Nodup->r∈E->n5 z (λq=>(p q).xor (decide (q=r))) E%2=(n5 z p E+bit z r)%2
 |[],_,h=>by cases h
 |q::E,hn,h=>by
  obtain⟨n1,n2⟩:=List.nodup_cons.1 hn;unfold n5;by_cases e:q=r
  ·subst e
   rw [n6 (q:=p) (fun x hx=>by
    have:x≠q:=λe=>n1 (e▸hx);simp[this])]
   cases hp:p q<;>simp <;>have:=hZ (z:=z) (a:=q)<;>omega
  ·have h2:r∈E:=(da.1 h).resolve_left λx=>e x.symm;have:=zX (z:=z) (p:=p) n2 h2;simp only[e,decide_false,Bool.xor_false];omega
theorem s5{z:Int}{p:List Int->Bool}{r:List Int}:∀{E:List (List Int)},E.Nodup->r∈E->z∈r->(∀q∈E,z∈q->q=r)->n5 z p E=if p r=true then 1 else 0
 |[],_,h,_,_=>by cases h
 |q::E,hn,h,hz,ho=>by
  obtain⟨n1,n2⟩:=List.nodup_cons.1 hn;unfold n5;by_cases e:q=r
  ·subst e;rw[nq (λx hx _ hzx=>n1 (ho x (ec _ hx) hzx▸hx)),dG.2 hz,oI]
  ·have h2:r∈E:=(da.1 h).resolve_left λx=>e x.symm;have hq:z∉q:=λx=>e (ho q (dg ..) x);rw[s5 n2 h2 hz λx hx=>ho x (ec _ hx),show bit z q=0 by unfold bit;rw[if_neg hq]];simp
theorem wN{E:List (List Int)}{v:List Int}(hE:∀r∈E,bq r)(hn:E.Nodup)(h:Sp E v):bq v/\∃p,∀z,bit z v=n5 z p E%2:=by
 induction h with
 |nil=>exact⟨qB,λ_=>false,λz=>by rw[nt,nq (p:=λ_=>false) λq _ h=>by cases h]⟩
 | @add w r h1 h2 ih=>
  obtain⟨ha,p,hp⟩:=ih;refine⟨eb ha (hE _ h2),λq=>(p q).xor (decide (q=r)),λz=>?_⟩;rw[dU ha (hE _ h2),hp z,zX hn h2];omega
theorem mM{R:List (List Int)}{v:List Int}(hR:∀r∈R,bq r)(h:Sp R v):bq v:=by
 induction h with
 |nil=>exact qB
 |add h1 h2 ih=>exact eb ih (hR _ h2)
structure Red(E:List (List Int)):Prop where
 asc:∀r∈E,bq r
 ne:∀r∈E,r≠[]
 own:∀r∈E,∀q∈E,ld r∈q->q=r
 ord:E.Pairwise λr q=>ld r<ld q
theorem Red.nodup{E:List (List Int)}(h:Red E):E.Nodup:=yR (λ{x y}(q:ld x<ld y) e=>by rw[e] at q;omega) h.ord
theorem Red.cnt{E:List (List Int)}(h:Red E){p:List Int->Bool}{r:List Int}(hr:r∈E):n5 (ld r) p E=if p r=true then 1 else 0:=
 s5 h.nodup hr (dq (h.ne r hr)) λq hq hz=>h.own r hr q hq hz
theorem G5{E:List (List Int)}{v w:List Int}(hE:Red E)(hv:Sp E v)(hw:Sp E w)(h:∀r∈E,ld r∈v↔ld r∈w):v=w:=by
 obtain⟨av,p,hp⟩:=wN hE.asc hE.nodup hv;obtain⟨aw,q,hq⟩:=wN hE.asc hE.nodup hw;refine jX av aw λz=>?_;rw[hp z,hq z]
 congr 1
 refine n6 λr hr=>?_;have h1:=h r hr;rw[<-dG,<-dG,hp,hq,hE.cnt hr,hE.cnt hr] at h1;cases h2:p r<;>cases h3:q r<;>simp[h2,h3] at h1<;>rfl
theorem yB{p:List Int->Bool}:∀{E:List (List Int)},E.Pairwise (λr q=>ld r<ld q)->(∃r∈E,p r=true)->∃r∈E,p r=true/\∀q∈E,p q=true->ld r<=ld q
 |[],_,h=>by obtain⟨_,h,_⟩:=h;cases h
 |x::E,ho,h=>by
  obtain⟨o1,o2⟩:=iz.1 ho;by_cases hx:p x=true
  ·refine⟨x,dg ..,hx,λq hq _=>?_⟩;rcases da.1 hq with rfl|hq
   ·exact Int.le_refl _
   ·exact Int.le_of_lt (o1 q hq)
  ·obtain⟨r,hr,hp⟩:=h;have hrE:r∈E:=(da.1 hr).resolve_left λe=>hx (e▸hp);obtain⟨s,s1,s2,s3⟩:=yB o2 ⟨r,hrE,hp⟩;refine⟨s,ec _ s1,s2,λq hq hpq=>?_⟩;rcases da.1 hq with rfl|hq
   ·exact absurd hpq hx
   ·exact s3 q hq hpq
theorem zH{E:List (List Int)}{v:List Int}(hE:Red E)(hv:Sp E v)(h0:v≠[]):∃r∈E,ld r=ld v:=by
 obtain⟨av,p,hp⟩:=wN hE.asc hE.nodup hv
 have hex:∃ r ∈ E,p r=true:=Decidable.byContradiction fun hn=>h0 (ww fun z=>by
  rw[hp z,nq λq hq hpq=>absurd ⟨q,hq,hpq⟩ hn])
 obtain⟨r,r1,r2,r3⟩:=yB hE.ord hex;refine⟨r,r1,Int.le_antisymm ?_ ?_⟩
 ·have h1:bit (ld v) v=1:=dG.2 (dq h0);rw[hp] at h1;obtain⟨q,q1,q2,q3⟩:=sV (z:=ld v) (p:=p) (E:=E) (λe=>by rw[e] at h1;cases h1);exact Int.le_trans (r3 q q1 q2) (nT (hE.asc q q1) q3)
 ·refine nT av (dG.1 ?_);rw[hp,hE.cnt r1,if_pos r2]
theorem vV:∀{E F:List (List Int)},E.map ld=F.map ld->(∀r∈E,∀q∈F,ld r=ld q->r=q)->E=F
 |[],[],_,_=>rfl
 |[],_::_,h,_=>by cases h
 |_::_,[],h,_=>by cases h
 |x::E,y::F,h,hi=>by
  obtain⟨h1,h2⟩:=List.cons.inj h;rw[hi x (dg ..) y (dg ..) h1,vV h2 λr hr q hq=>hi r (ec _ hr) q (ec _ hq)]
theorem oX{E F:List (List Int)}(hE:Red E)(hF:Red F)(h:∀v,Sp E v↔Sp F v):E=F:=by
 have leads:E.map ld=F.map ld:=by
  refine oZ (List.pairwise_map.2 hE.ord) (List.pairwise_map.2 hF.ord) λz=>?_;rw[bG,bG];constructor
  ·rintro⟨r,hr,rfl⟩;exact zH hF ((h r).1 (dS hr)) (hE.ne r hr)
  ·rintro⟨r,hr,rfl⟩;exact zH hE ((h r).2 (dS hr)) (hF.ne r hr)
 refine vV leads λr hr q hq e=>?_;refine G5 hF ((h r).1 (dS hr)) (dS hq) λf hf=>⟨λhfr=>?_,λhfq=>?_⟩
 ·have hm:ld f∈E.map ld:=by rw[leads];exact bG.2 ⟨f,hf,rfl⟩
  obtain⟨g,hg,eg⟩:=bG.1 hm;rw[<-eg] at hfr;have h1:=hE.own g hg r hr hfr;rw[<-eg,<-h1,e];exact dq (hF.ne q hq)
 ·have h1:=hF.own f hf q hq hfq;rw[<-h1,<-e];exact dq (hE.ne r hr)
abbrev Ln:=List Int×List Int
def kV(f:Ln->List Int)(z:Int)(p:Ln->Bool):List Ln->Nat
 |[]=>0
 |r::E=>(if p r=true then bit z (f r) else 0)+kV f z p E
theorem ig{f:Ln->List Int}{z:Int}{p q:Ln->Bool}:∀{E:List Ln},(∀r∈E,p r=q r)->kV f z p E=kV f z q E
 |[],_=>rfl
 |r::E,h=>by
  unfold kV;rw[h r (dg ..),ig λx hx=>h x (ec _ hx)]
theorem nW{f:Ln->List Int}{z:Int}:∀{E:List Ln},kV f z (λ_=>false) E=0
 |[]=>rfl
 |r::E=>by unfold kV;rw[nW];rfl
theorem r7{f:Ln->List Int}{z:Int}{p:Ln->Bool}{r:Ln}:∀{E:List Ln},E.Nodup->r∈E->kV f z (λq=>(p q).xor (decide (q=r))) E%2=(kV f z p E+bit z (f r))%2
 |[],_,h=>by cases h
 |q::E,hn,h=>by
  obtain⟨n1,n2⟩:=List.nodup_cons.1 hn;unfold kV;by_cases e:q=r
  ·subst e
   rw [ig (q:=p) (fun x hx=>by
    have:x≠q:=λe=>n1 (e▸hx);simp[this])]
   cases hp:p q<;>simp <;>have:=hZ (z:=z) (a:=f q)<;>omega
  ·have h2:r∈E:=(da.1 h).resolve_left λx=>e x.symm;have:=r7 (f:=f) (z:=z) (p:=p) n2 h2;simp only[e,decide_false,Bool.xor_false];omega
structure RedU(M:List Ln):Prop where
 asc:∀l∈M,bq l.1/\bq l.2
 ne:∀l∈M,l.1≠[]
 own:∀l∈M,∀m∈M,ld l.1∈m.1->m=l
 nodup:M.Nodup
def d5(x l:Ln):Ln:=(bL x.1 l.1,bL x.2 l.2)
def rdL(M:List Ln)(p:Ln->Bool)(x:Ln):Ln:=M.foldl (λa l=>if p l=true then d5 a l else a) x
def co(x:Ln):Prop:=bq x.1/\bq x.2
theorem eV{x l:Ln}(hx:co x)(hl:co l):co (d5 x l):=⟨eb hx.1 hl.1,eb hx.2 hl.2⟩
theorem io{p:Ln->Bool}:∀{M:List Ln}{x:Ln},(∀l∈M,co l)->co x->co (rdL M p x)
 |[],_,_,hx=>hx
 |l::M,x,hM,hx=>by
  unfold rdL;rw[List.foldl_cons];refine io (M:=M) (λm hm=>hM m (ec _ hm)) ?_;split
  ·exact eV hx (hM l (dg ..))
  ·exact hx
theorem kH{p:Ln->Bool}{z:Int}:∀{M:List Ln}{x:Ln},(∀l∈M,co l)->co x->bit z (rdL M p x).1=(bit z x.1+kV Prod.fst z p M)%2
 |[],x,_,_=>by
  have:=hZ (z:=z) (a:=x.1);show bit z x.1=(bit z x.1+0)%2;omega
 |l::M,x,hM,hx=>by
  have hl:=hM l (dg ..)
  have hx':co (if p l=true then d5 x l else x):=by
   split
   ·exact eV hx hl
   ·exact hx
  have ih:=kH (p:=p) (z:=z) (M:=M) (λm hm=>hM m (ec _ hm)) hx';show bit z (rdL M p (if p l=true then d5 x l else x)).1=(bit z x.1+((if p l=true then bit z l.1 else 0)+kV Prod.fst z p M))%2;rw[ih];clear ih;by_cases h:p l=true
  ·rw[if_pos h,if_pos h];unfold d5;rw[dU hx.1 hl.1];omega
  ·rw[if_neg h,if_neg h];omega
theorem ma{p:Ln->Bool}{z:Int}:∀{M:List Ln}{x:Ln},(∀l∈M,co l)->co x->bit z (rdL M p x).2=(bit z x.2+kV Prod.snd z p M)%2
 |[],x,_,_=>by
  have:=hZ (z:=z) (a:=x.2);show bit z x.2=(bit z x.2+0)%2;omega
 |l::M,x,hM,hx=>by
  have hl:=hM l (dg ..)
  have hx':co (if p l=true then d5 x l else x):=by
   split
   ·exact eV hx hl
   ·exact hx
  have ih:=ma (p:=p) (z:=z) (M:=M) (λm hm=>hM m (ec _ hm)) hx';show bit z (rdL M p (if p l=true then d5 x l else x)).2=(bit z x.2+((if p l=true then bit z l.2 else 0)+kV Prod.snd z p M))%2;rw[ih];clear ih;by_cases h:p l=true
  ·rw[if_pos h,if_pos h];unfold d5;rw[dU hx.2 hl.2];omega
  ·rw[if_neg h,if_neg h];omega
def fc(x:Ln)(l:Ln):Bool:=decide (ld l.1∈x.1)
def ee(M:List Ln)(x:Ln):Ln:=rdL M (fc x) x
theorem Fy{x y:Ln}(hx:co x)(hy:co y)(h1:∀z,bit z x.1=bit z y.1)(h2:∀z,bit z x.2=bit z y.2):x=y:=
 Prod.ext (jX hx.1 hy.1 h1) (jX hx.2 hy.2 h2)
theorem Df{M:List Ln}{x l:Ln}(hM:RedU M)(hx:co x)(hl:l∈M):ee M (d5 x l)=ee M x:=by
 have hla:co l:=hM.asc l hl;have hxl:=eV hx hla
 have hp:∀m∈M,fc (d5 x l) m=(fc x m).xor (decide (m=l)):=λm hm=>by
  unfold fc;have h1:ld m.1∈l.1↔m=l:=⟨λh=>(hM.own m hm l hl h).symm,λe=>e▸dq (hM.ne m hm)⟩
  have h2:=(jF _ x.1 l.1 (aR _) hx.1 hla.1).2 (ld m.1);show decide (ld m.1∈bL x.1 l.1)=_;by_cases b:m=l
  ·subst b;have h3:=dq (hM.ne m hm);by_cases a:ld m.1∈x.1<;>simp[h2,h3,a]
  ·have h3:ld m.1∉l.1:=λh=>b (h1.1 h);by_cases a:ld m.1∈x.1<;>simp[h2,h3,a,b]
 refine Fy (io hM.asc hxl) (io hM.asc hx) (λz=>?_) (λz=>?_)
 ·unfold ee;rw[kH hM.asc hxl,kH hM.asc hx,ig hp];have:=r7 (f:=Prod.fst) (z:=z) (p:=fc x) hM.nodup hl;unfold d5;rw[dU hx.1 hla.1];omega
 ·unfold ee;rw[ma hM.asc hxl,ma hM.asc hx,ig hp];have:=r7 (f:=Prod.snd) (z:=z) (p:=fc x) hM.nodup hl;unfold d5;rw[dU hx.2 hla.2];omega
theorem Dm{M:List Ln}{x:Ln}(hM:RedU M)(hx:co x)(h:∀l∈M,ld l.1∉x.1):ee M x=x:=by
 have hp:∀m∈M,fc x m=false:=λm hm=>aO (h m hm);refine Fy (io hM.asc hx) hx (λz=>?_) (λz=>?_)
 ·unfold ee;rw[kH hM.asc hx,ig hp,nW];have:=hZ (z:=z) (a:=x.1);omega
 ·unfold ee;rw[ma hM.asc hx,ig hp,nW];have:=hZ (z:=z) (a:=x.2);omega
theorem du{a b:List Int}{z:Int}(ha:bq a)(hb:bq b):z∈bL a b↔(z∈a/\z∉b)\/(z∈b/\z∉a):=(jF _ a b (aR _) ha hb).2 z
theorem eG{a b c:List Int}(ha:bq a)(hb:bq b)(hc:bq c):bL a (bL b c)=bL (bL a b) c:=
 jX (eb ha (eb hb hc)) (eb (eb ha hb) hc) λz=>by
  rw[dU ha (eb hb hc),dU hb hc,dU (eb ha hb) hc,dU ha hb];omega
theorem fx{a:List Int}(ha:bq a):bL a a=[]:=
 ww λz=>by rw[dU ha ha];omega
theorem kp{S:List (List Int)}{v w:List Int}(hS:∀r∈S,bq r)(hv:Sp S v)(hw:Sp S w):Sp S (bL v w):=by
 induction hw with
 |nil=>rw[fH];exact hv
 | @add w r h1 h2 ih=>
  rw[eG (mM hS hv) (mM hS h1) (hS _ h2)];exact Sp.add ih h2
theorem kd{R S:List (List Int)}{v:List Int}(hS:∀r∈S,bq r)(h:∀r∈R,Sp S r)(hv:Sp R v):Sp S v:=by
 induction hv with
 |nil=>exact Sp.nil
 |add h1 h2 ih=>exact kp hS ih (h _ h2)
theorem kq{R S:List (List Int)}{v:List Int}(h:∀r∈R,r∈S)(hv:Sp R v):Sp S v:=by
 induction hv with
 |nil=>exact Sp.nil
 |add h1 h2 ih=>exact Sp.add ih (h _ h2)
theorem ui{p:Ln->Bool}{S:List (List Int)}(hS:∀r∈S,bq r):∀{M:List Ln}{x:Ln},(∀l∈M,co l/\l.1∈S)->co x->Sp S (bL x.1 (rdL M p x).1)
 |[],x,_,hx=>by
  show Sp S (bL x.1 x.1);rw[fx hx.1];exact Sp.nil
 |l::M,x,hM,hx=>by
  obtain⟨hl,hlS⟩:=hM l (dg ..);have hM':=λm hm=>hM m (ec _ hm)
  have hx':co (if p l=true then d5 x l else x):=by
   split
   ·exact eV hx hl
   ·exact hx
  have ih:=ui (p:=p) hS (M:=M) hM' hx';have hr:=io (p:=p) (M:=M) (λm hm=>(hM' m hm).1) hx';show Sp S (bL x.1 (rdL M p (if p l=true then d5 x l else x)).1);by_cases h:p l=true
  ·rw[if_pos h] at ih hr hx' |-
   have e:bL x.1 (rdL M p (d5 x l)).1=bL (bL (d5 x l).1 (rdL M p (d5 x l)).1) l.1:=
    jX (eb hx.1 hr.1) (eb (eb hx'.1 hr.1) hl.1) λz=>by
     rw[dU hx.1 hr.1,dU (eb hx'.1 hr.1) hl.1,dU hx'.1 hr.1];show _=((bit z (bL x.1 l.1)+_)%2+_)%2;rw[dU hx.1 hl.1];omega
   rw[e];exact Sp.add ih hlS
  ·rw[if_neg h] at ih |-;exact ih
theorem kD{M:List Ln}{x:Ln}(hM:RedU M)(hx:co x){l:Ln}(hl:l∈M):ld l.1∉(ee M x).1:=by
 rw[<-dG];unfold ee;rw[kH hM.asc hx]
 have hc:∀{E:List Ln},E.Nodup->(∀m∈E,ld l.1∈m.1->m=l)->kV Prod.fst (ld l.1) (fc x) E=if l∈E/\fc x l=true then 1 else 0:=by
  intro E
  induction E with
  |nil=>intro _ _;simp[kV]
  |cons m E ih=>
   intro hn ho;obtain⟨n1,n2⟩:=List.nodup_cons.1 hn;have ih:=ih n2 λm hm=>ho m (ec _ hm);show(if fc x m=true then bit (ld l.1) m.1 else 0)+kV Prod.fst (ld l.1) (fc x) E=_;rw[ih];by_cases e:m=l
   ·subst e;have hb:bit (ld m.1) m.1=1:=dG.2 (dq (hM.ne m hl));simp[n1,hb]
   ·have hb:bit (ld l.1) m.1=0:=by
      unfold bit;rw[if_neg λh=>e (ho m (dg ..) h)]
    have e2:l≠m:=λh=>e h.symm;simp[hb,e2]
 rw[hc hM.nodup λm hm h=>hM.own l hl m hm h];unfold fc bit;by_cases h:ld l.1∈x.1<;>simp[h,hl]
def jJ(y l:Ln):Ln:=if ld y.1∈l.1 then d5 l y else l
def jZ(M:List Ln)(y:Ln):List Ln:=M.map (jJ y)++[y]
theorem t7{M:List Ln}{y l:Ln}(hM:RedU M)(hy:co y)(h0:y.1≠[])(hn:∀l∈M,ld l.1∉y.1)(hl:l∈M):
    co (jJ y l)/\(∀m∈M,ld m.1∈(jJ y l).1↔l=m)/\ld y.1∉(jJ y l).1/\ld (jJ y l).1=ld l.1:=by
 have hla:=hM.asc l hl;have how:∀m∈M,ld m.1∈l.1↔l=m:=λm hm=>⟨λh=>hM.own m hm l hl h,λe=>e▸dq (hM.ne l hl)⟩
 unfold jJ;by_cases h:ld y.1∈l.1
 ·rw[if_pos h];have hs:=λz=>du (z:=z) hla.1 hy.1
  have ho:∀m∈M,ld m.1∈(d5 l y).1↔l=m:=λm hm=>by
   show ld m.1∈bL l.1 y.1↔_;rw[hs];have:=hn m hm;rw[<-how m hm];simp[this]
  refine⟨eV hla hy,ho,?_,?_⟩
  ·show ld y.1∉bL l.1 y.1;rw[hs];have:=dq h0;simp[this,h]
  ·have hm:=(ho l hl).2 rfl;refine Int.le_antisymm (nT (eV hla hy).1 hm) ?_;have hne:(d5 l y).1≠[]:=λe=>by rw[e] at hm;cases hm
   have hq:=dq hne;rcases(hs _).1 hq with q|q
   ·exact nT hla.1 q.1
   ·exact Int.le_trans (nT hla.1 h) (nT hy.1 q.1)
 ·rw[if_neg h];exact⟨hla,how,h,rfl⟩
theorem Db{M:List Ln}{y:Ln}(hM:RedU M)(hy:co y)(h0:y.1≠[])(hn:∀l∈M,ld l.1∉y.1):RedU (jZ M y):=by
 have hf:=λl(hl:l∈M)=>t7 hM hy h0 hn hl
 have hmem:∀{m},m∈jZ M y->(∃l∈M,jJ y l=m)\/m=y:=λ{m} h=>by
  rcases eC.1 h with h|h
  ·exact .inl (bG.1 h)
  ·exact .inr (cW.1 h)
 constructor
 ·intro m hm;rcases hmem hm with⟨l,hl,rfl⟩|rfl
  ·exact(hf l hl).1
  ·exact hy
 ·intro m hm;rcases hmem hm with⟨l,hl,rfl⟩|rfl
  ·intro e;have:=((hf l hl).2.1 l hl).2 rfl;rw[e] at this;cases this
  ·exact h0
 ·intro m hm k hk h;rcases hmem hm with⟨l,hl,rfl⟩|rfl
  ·rw[(hf l hl).2.2.2] at h;rcases hmem hk with⟨q,hq,rfl⟩|rfl
   ·rw[((hf q hq).2.1 l hl).1 h]
   ·exact absurd h (hn l hl)
  ·rcases hmem hk with⟨q,hq,rfl⟩|rfl
   ·exact absurd h (hf q hq).2.2.1
   ·rfl
 ·refine zE.2 ⟨?_,by simp,λa ha b hb e=>?_⟩
  ·refine List.pairwise_map.2 (List.Pairwise.imp_of_mem (λ{a b} ha hb hab e=>hab ?_) hM.nodup);have h1:=(hf a ha).2.2.2;rw[e,(hf b hb).2.2.2] at h1;refine(hM.own b hb a ha ?_);rw[h1];exact dq (hM.ne a ha)
  ·obtain⟨l,hl,rfl⟩:=bG.1 ha;rw[cW] at hb;subst hb;have:=(hf l hl).2.2.1;rw[e] at this;exact this (dq h0)
section
attribute [local irreducible] aK ak bg a6 aQ aS aE aU a8 bn Go.Abs.Fn a5 Go.Abs.Pure au aM Yl
theorem jE(c:List Spx)(hc:Shn c)(hs:∀s∈c,Shn s):pU 78 [bH c] (.int .i64 (az c)):=by
 refine pO Oa ?_;simp only[b78,aH];have hc':c.length<=17592186044416:=hc;by_cases h0:4096<c.length
 ·rw[show az c=5 by unfold az;rw[if_pos h0]];refine wnZ (zI3 @ae @ai @af) ?_
  all_goals exact d6 rfl
 rw[show az c=if dj (p7 c) c.length≠0 then dj (p7 c) c.length else if c.any (dB c)=true then 7 else 0 by unfold az;rw[if_neg h0]];refine dJ ?_;have zz:=aI @ae (aI @ai @af);repeat' (first|apply a_n|refine zO ?_|refine vZ ?_|refine bxZ ?_|fail)
 refine dJ (dJ ?_);clear zz;have zz:=aI @ae (aI @ai @af);repeat' (first|apply a_n|refine zO ?_|refine vZ ?_|(refine zGZ ?_ ?_<;>(intro _hg;try (exfalso;omega)))|fail)
 by_cases hz:dj (p7 c) c.length≠0
 ·rw[if_pos hz];refine wnZ (zI3 @ae @ai @af) ?_;refine lpI (X:=Nat) (λk=>[(1,.ptr 0 1 0),(14,am c),(15,.int .i64 c.length),(16,.int .i64 k)]) (λk H nx=>k<=c.length/\H 0=some [am c]/\∀i,i<k->p7 c i=0) (λk=>c.length-k) 0 ⟨bw _,rfl,λi h=>absurd h (by omega)⟩ ?_;rintro k H nx ⟨h1,g0,h2⟩;by_cases hk:k<c.length
  rotate_left
  ·exact absurd (cT λi hi=>h2 i (by omega)) hz
  have ix:=dH hk;have hs1:=hs _ (ay hk);have hp:=pD (c.getD k default) hs1;have hsp:=t8 (c:=c) (k:=k);by_cases he:bQ (c.getD k default)≠0
  ·rw[if_pos he] at hsp;rw[ci hk h2 (by rw[hsp];exact he),hsp];have z:decide (bQ (c.getD k default)≠0)=true:=aL he;refine wnY (zI3 @ae @ix @z) ?_;exact .int _ _
  rw[if_neg he] at hsp;have he:=sW he;rw[he] at hp;have z:decide ((0:Int)≠0)=false:=rfl;by_cases hk0:0<k
  rotate_left
  ·rw[if_neg (λh=>hk0 h.1)] at hsp;have zk:decide (0<(k:Int))=false:=aO (by omega);refine wnY (zI4 @ae @ix @z @zk) ?_
   exact ⟨k + 1,by omega,⟨by omega,g0,fun i hi=>by
    rcases gN.1 hi with h'|rfl
    ·exact h2 i h'
    ·exact hsp⟩,ag0⟩
  have zk:decide (0<(k:Int))=true:=aL (by omega)
  have iy:eu 1 (am c) (.int .i64 ((k:Int)-1))=some (.iptr [aA (c.getD (k-1) default)] 0):=by
   have:=dH (l:=c) (k:=k-1) (by omega)
   rwa [show((k-1:Nat):Int)=(k:Int)-1 by omega] at this
  have hcm:=gR (c.getD (k-1) default) (c.getD k default) (hs _ (ay (by omega))) hs1;by_cases hv:0<=bh (c.getD (k-1) default) (c.getD k default)
  ·have z2:decide (0<=bh (c.getD (k-1) default) (c.getD k default))=true:=aL hv;rw[if_pos ⟨hk0,hv⟩] at hsp;rw[ci hk h2 (by rw[hsp];decide),hsp];refine wnY (zI7 @ae @ix @iy @z @zk @z2 @g0) ?_;exact .int _ _
  ·have z2:decide (0<=bh (c.getD (k-1) default) (c.getD k default))=false:=aO hv;rw[if_neg (λh=>hv h.2)] at hsp;refine wnY (zI7 @ae @ix @iy @z @zk @z2 @g0) ?_
   exact ⟨k + 1,by omega,⟨by omega,g0,fun i hi=>by
    rcases gN.1 hi with h'|rfl
    ·exact h2 i h'
    ·exact hsp⟩,ag0⟩
 have hz:=sW hz;rw[if_neg (λh=>h hz)];obtain⟨a1,a2⟩:=Bd hz;have hall:=gK hz;have hok:=Fs (by omega) a1;refine cr (λT H nx=>T 1=.ptr 0 1 0/\H 0=some [am c]/\1<=nx) ?_ ?_
 ·refine wnZ (zI3 @ae @ai @af) ?_;refine lpI (X:=Nat) (λk=>[(1,.ptr 0 1 0),(14,am c),(15,.int .i64 c.length),(16,.int .i64 k)]) (λk H nx=>k<=c.length/\H 0=some [am c]/\1<=nx) (λk=>c.length-k) 0 ⟨bw _,rfl,by omega⟩ ?_;rintro k H nx ⟨h1,g0,hnx⟩;by_cases hk:k<c.length
  rotate_left
  ·refine wnY and_self ?_;exact⟨rfl,g0,hnx⟩
  have ix:=dH hk;have hs1:=hs _ (ay hk);have hp:=pD (c.getD k default) hs1;rw[a1 _ (ay hk)] at hp;have z:decide ((0:Int)≠0)=false:=rfl;by_cases hk0:0<k
  rotate_left
  ·have zk:decide (0<(k:Int))=false:=aO (by omega);refine wnY (zI4 @ae @ix @z @zk) ?_;exact⟨k+1,by omega,⟨by omega,g0,hnx⟩,ag0⟩
  have zk:decide (0<(k:Int))=true:=aL (by omega)
  have iy:eu 1 (am c) (.int .i64 ((k:Int)-1))=some (.iptr [aA (c.getD (k-1) default)] 0):=by
   have:=dH (l:=c) (k:=k-1) (by omega)
   rwa [show((k-1:Nat):Int)=(k:Int)-1 by omega] at this
  have hcm:=gR (c.getD (k-1) default) (c.getD k default) (hs _ (ay (by omega))) hs1;have z2:decide (0<=bh (c.getD (k-1) default) (c.getD k default))=false:=aO (by have:=eO a2 (i:=k-1) (j:=k) (by omega) hk;omega);refine wnY (zI7 @ae @ix @iy @z @zk @z2 @g0) ?_;exact⟨k+1,by omega,⟨by omega,g0,hnx⟩,ag0⟩
 rintro T H nx ⟨t1,g0,hnx⟩;refine wnY (aI @t1 @g0) ?_;refine bc ev0 (have zz:=@t1;evZ) (zD c hok.1 (λs hs=>⟨(hok.2 s hs).1,by have:=(hok.2 s hs).2;omega⟩) _ _) ?_;rintro _ H1 nx1 ⟨ks,vs,rfl,hinc,hsame,hlt⟩;have g0':H1 0=some [am c]:=(hsame 0 (by omega)).trans g0;refine wnY (zI3 @t1 @g0' @ae) ?_;refine bN (X:=Nat) (λk=>[(1,.ptr 0 1 0),(6,.mp nx),(44,am c),(45,.int .i64 c.length),(46,.int .i64 k)]) (λk H' nx'=>k<=c.length/\H'=H1/\nx'=nx1/\∀i,i<k->dB c (c.getD i default)=false) (λk=>c.length-k) 0 ⟨bw _,rfl,rfl,λi h=>absurd h (by omega)⟩ (have zz:=@t1;agZ) ?_;rintro k H' nx' ⟨h1,rfl,rfl,h2⟩;by_cases hk:k<c.length
 rotate_left
 ·rw[qG λi hi=>h2 i (by omega),if_neg (by decide)];refine wnY and_self ?_;exact .int _ _
 have ix:=dH hk;obtain⟨p1,p2,p3,p4⟩:=cE (a1 _ (ay hk));have hcv:=De c (c.getD k default) hok (hok.2 _ (ay hk)) (by omega);have iy:=ix2 (l:=c.getD k default) (k:=0) (by omega);rw[show((0:Nat):Int)=0 from rfl] at iy
 have hks:(c.getD k default).getD 0 default∈ks:=(hinc.dom _).2 λe=>by
  have:k∈nz c c.length ((c.getD k default).getD 0 default):=iG.2 ⟨ed.2 hk,aL (ay (by omega))⟩;rw[e] at this;cases this
 have hmf:=D2 ((c.getD k default).getD 0 default) ks;rw[if_pos hks] at hmf;obtain⟨m1,m2⟩:=xu hks;have hr:=hinc.row _ m1;rw[m2] at hr;have hcb:dB c (c.getD k default)=true->c.any (dB c)=true:=λh=>qx.2 ⟨_,ay hk,h⟩;generalize hsk:c.getD k default=s at *;refine wnY @ix ?_;refine w_mix1 0 g0' λS hS0 hsub'=>?_;have hsub:=hsub' H' g0';refine wnY (aI @hS0 @iy) ?_;refine dW ?_;refine ju ev0 hinc.box ev0 (EH _) hmf ?_;refine jT ⟨hsub,?_⟩;rw[show mget .esl false (some (ks.idxOf (s.getD 0 default))) vs=vs.getD (ks.idxOf (s.getD 0 default)) .undef from rfl];refine jr ?_;cases hb:dB c s
 ·rw[hb] at hcv;refine ef ev0 ev0 hcv (aF (ag (bA _ _) (ag (BR hr) (ag (cS _ _) aj))) rfl) ?_;refine wnY and_self ?_
  exact ⟨k + 1,by omega,⟨by omega,rfl,rfl,fun i hi=>by
   rcases gN.1 hi with h'|rfl
   ·exact h2 i h'
   ·rw[hsk];exact hb⟩,ag0⟩
 ·rw[hb] at hcv;rw[hcb hb,if_pos rfl];refine ef ev0 ev0 hcv (aF (ag (bA _ _) (ag (BR hr) (ag (cS _ _) aj))) rfl) ?_;refine wnY and_self ?_;exact .int _ _
theorem wX(c:List Spx)(hc:Shn c)(hs:∀s∈c,Shn s):pU 28 [bH c] (.int .i64 (az c)):=by
 refine pO Nf ?_;simp only[b28,aH];have hc':c.length<=17592186044416:=hc;by_cases h0:4096<c.length
 ·rw[show az c=5 by unfold az;rw[if_pos h0]];refine wnZ (zI3 @ae @ai @af) ?_
  all_goals exact d6 rfl
 rw[show az c=if dj (p7 c) c.length≠0 then dj (p7 c) c.length else if c.any (dB c)=true then 7 else 0 by unfold az;rw[if_neg h0]];refine dJ ?_;have zz:=aI @ae (aI @ai @af);repeat' (first|apply a_n|refine zO ?_|refine vZ ?_|refine bxZ ?_|fail)
 refine dJ ?_;clear zz;have zz:=aI @ae (aI @ai @af);repeat' (first|apply a_n|refine zO ?_|refine vZ ?_|fail)
 refine dJ (dJ ?_);clear zz;have zz:=aI @ae (aI @ai @af);repeat' (first|apply a_n|refine zO ?_|refine vZ ?_|(refine zGZ ?_ ?_<;>(intro _hg;try (exfalso;omega)))|fail)
 by_cases hz:dj (p7 c) c.length≠0
 ·rw[if_pos hz];refine wnZ (zI3 @ae @ai @af) ?_;refine bN (X:=Nat) (λk=>[(3,am c),(4,.int .i64 k)]) (λk H nx=>k<=c.length/\∀i,i<k->p7 c i=0) (λk=>c.length-k) 0 ⟨bw _,λi h=>absurd h (by omega)⟩ ag0 ?_;rintro k H nx ⟨h1,h2⟩;by_cases hk:k<c.length
  rotate_left
  ·exact absurd (cT λi hi=>h2 i (by omega)) hz
  have ix:=dH hk;have hs1:=hs _ (ay hk);have hp:=wx (c.getD k default) hs1;have hsp:=t8 (c:=c) (k:=k);by_cases he:bQ (c.getD k default)≠0
  ·rw[if_pos he] at hsp;rw[ci hk h2 (by rw[hsp];exact he),hsp];have z:decide (bQ (c.getD k default)≠0)=true:=aL he;refine wnY (zI3 @ae @ix @z) ?_;exact .int _ _
  rw[if_neg he] at hsp;have he:=sW he;rw[he] at hp;have z:decide ((0:Int)≠0)=false:=rfl;by_cases hk0:0<k
  rotate_left
  ·rw[if_neg (λh=>hk0 h.1)] at hsp;have zk:decide (0<(k:Int))=false:=aO (by omega);refine wkY (zI4 @ae @ix @z @zk) ?_
   exact ⟨k + 1,by omega,⟨by omega,fun i hi=>by
    rcases gN.1 hi with h'|rfl
    ·exact h2 i h'
    ·exact hsp⟩,ag0⟩
  have zk:decide (0<(k:Int))=true:=aL (by omega)
  have iy:eu 1 (am c) (.int .i64 ((k:Int)-1))=some (.iptr [aA (c.getD (k-1) default)] 0):=by
   have:=dH (l:=c) (k:=k-1) (by omega)
   rwa [show((k-1:Nat):Int)=(k:Int)-1 by omega] at this
  have hcm:=fW (c.getD (k-1) default) (c.getD k default) (hs _ (ay (by omega))) hs1;by_cases hv:0<=bh (c.getD (k-1) default) (c.getD k default)
  ·have z2:decide (0<=bh (c.getD (k-1) default) (c.getD k default))=true:=aL hv;rw[if_pos ⟨hk0,hv⟩] at hsp;rw[ci hk h2 (by rw[hsp];decide),hsp];refine wkY (zI6 @ae @ix @iy @z @zk @z2) ?_;exact .int _ _
  ·have z2:decide (0<=bh (c.getD (k-1) default) (c.getD k default))=false:=aO hv;rw[if_neg (λh=>hv h.2)] at hsp;refine wkY (zI6 @ae @ix @iy @z @zk @z2) ?_
   exact ⟨k + 1,by omega,⟨by omega,fun i hi=>by
    rcases gN.1 hi with h'|rfl
    ·exact h2 i h'
    ·exact hsp⟩,ag0⟩
 have hz:=sW hz;rw[if_neg (λh=>h hz)];obtain⟨a1,a2⟩:=Bd hz;have hok:=Fs (by omega) a1;refine cr (λT H nx=>T 3=am c) ?_ ?_
 ·refine wnZ (zI3 @ae @ai @af) ?_;refine bN (X:=Nat) (λk=>[(3,am c),(4,.int .i64 k)]) (λk H nx=>k<=c.length) (λk=>c.length-k) 0 (bw _) ag0 ?_;rintro k H nx h1;by_cases hk:k<c.length
  rotate_left
  ·refine wnY @ae ?_;exact rfl
  have ix:=dH hk;have hs1:=hs _ (ay hk);have hp:=wx (c.getD k default) hs1;rw[a1 _ (ay hk)] at hp;have z:decide ((0:Int)≠0)=false:=rfl;by_cases hk0:0<k
  rotate_left
  ·have zk:decide (0<(k:Int))=false:=aO (by omega);refine wkY (zI4 @ae @ix @z @zk) ?_;exact⟨k+1,by omega,by omega,ag0⟩
  have zk:decide (0<(k:Int))=true:=aL (by omega)
  have iy:eu 1 (am c) (.int .i64 ((k:Int)-1))=some (.iptr [aA (c.getD (k-1) default)] 0):=by
   have:=dH (l:=c) (k:=k-1) (by omega)
   rwa [show((k-1:Nat):Int)=(k:Int)-1 by omega] at this
  have hcm:=fW (c.getD (k-1) default) (c.getD k default) (hs _ (ay (by omega))) hs1;have z2:decide (0<=bh (c.getD (k-1) default) (c.getD k default))=false:=aO (by have:=eO a2 (i:=k-1) (j:=k) (by omega) hk;omega);refine wkY (zI6 @ae @ix @iy @z @zk @z2) ?_;exact⟨k+1,by omega,by omega,ag0⟩
 rintro T H nx t3;refine wnY @t3 ?_;refine bN (X:=Nat) (λk=>[(3,am c),(6,.int .i64 k)]) (λk H' nx'=>k<=c.length/\∀i,i<k->dB c (c.getD i default)=false) (λk=>c.length-k) 0 ⟨bw _,λi h=>absurd h (by omega)⟩ (have zz:=@t3;agZ) ?_;clear zz;clear t3;rintro i H1 nx1 ⟨h1,h2⟩;by_cases hi:i<c.length
 rotate_left
 ·rw[qG λi hi=>h2 i (by omega),if_neg (by decide)];refine wnY @ae ?_;exact .int _ _
 refine wnY @ae ?_;refine bN (X:=Nat) (λk=>[(3,am c),(6,.int .i64 i),(7,.int .i64 k)]) (λk H' nx'=>k<=c.length/\∀j,j<k->i≠j->eh (c.getD i default) (c.getD j default)=false) (λk=>c.length-k) 0 ⟨bw _,λi h=>absurd h (by omega)⟩ ag0 ?_;rintro k H2 nx2 ⟨k1,k2⟩;by_cases hk:k<c.length
 rotate_left
 ·refine wnY @ae ?_;refine⟨i+1,by omega,⟨by omega,λj hj=>?_⟩,ag0⟩;rcases gN.1 hj with h'|rfl
  ·exact h2 j h'
  ·cases hb:dB c (c.getD j default)
   ·rfl
   ·obtain⟨q,q1,q2,q3⟩:=FC hb;rw[k2 q (by omega) q2] at q3;cases q3
 have ix:=dH hi;have iy:=dH hk;by_cases hik:i=k
 ·have z:decide ((i:Int)≠(k:Int))=false:=aO (by omega);refine wkY (aI @ae @z) ?_;exact⟨k+1,by omega,⟨by omega,λj hj hij=>k2 j (by omega) hij⟩,ag0⟩
 have z:decide ((i:Int)≠(k:Int))=true:=aL (by omega);have hin:=xT (c.getD i default) (c.getD k default) (hs _ (ay hi)) (hs _ (ay hk));have ht:=DJ (λs hs=>(hok.2 s hs).1) a2 hi hk hik;cases hb:eh (c.getD i default) (c.getD k default)
 ·rw[hb] at hin;refine wkY (zI4 @ae @ix @iy @z) ?_
  exact ⟨k + 1,by omega,⟨by omega,fun j hj hij=>by
   rcases gN.1 hj with h'|rfl
   ·exact k2 j h' hij
   ·exact hb⟩,ag0⟩
 ·rw[hb] at hin;rw[if_pos (qx.2 ⟨_,ay hi,ht hb⟩)];refine wkY (zI4 @ae @ix @iy @z) ?_;exact .int _ _
theorem Fa{H:Hp}{a b:Bool}{e f:Int}(h1:a=b)(h2:e=f):Snap H (.tup [.bool a,.int .i64 e]) (.tup [.bool b,.int .i64 f]):=by
 subst h1 h2;exact bb (ag (.bool _) (ag (.int _ _) aj))
theorem El(s:AV)(l:Spx)(hl:l.length<=1000000)(h0:l≠[])(H:Hp)(nx:Nat)(hn:fF s=some l.length)(hs:∀H',(∀x,x<nx->H' x=H x)->gg 2 H' s=some (l.length,cX l)):Abs.Fn Tryz.prog 136 [s] H nx λr H' nx'=>r=.msl nx (l.length*2) 2 0 l.length/\H'=ar H nx (cX l)/\nx'=nx+1:=by
 have hpos:=iT.2 h0;refine fO Iq ?_;simp only[JA,aH];refine wnY and_self ?_;refine wz (k:=l.length) (by((try simp only[bZ,ZA,reduceEqDiff,↓reduceIte,reduceAdd,reduceLeDiff]);(try with_reducible rfl));exact hn) (λh=>?_) (λh=>by omega) (λh=>by omega);refine wnY and_self ?_;refine iR rfl ev0 ev0 (hs _ λx _=>rfl) (kR _) (by omega) (by omega) ?_;refine wnY and_self ?_;exact⟨rfl,rfl,rfl⟩
theorem JX{y lo kb sb k N:Nat}{s:Spx}(hs:s.length<=1000)(hk:k<=1000)(I:List Spx->Hp->Nat->Prop)
    (hp:∀S H nx,I S H nx->H kb=some [.int .i64 k]/\H sb=some [aA s]/\lo+3<=nx/\kb<lo/\sb<lo)
    (stab:∀S H H' nx nx',I S H nx->nx<=nx'->(∀i,i<nx->¬(lo<=i/\i<lo+3)->H' i=H i)->I S H' nx')
    (rnd:∀S f H nx,I S H nx->f.length=k->f≠[]->S.length<N->Yl Tryz.prog y [.msl nx (k*2) 2 0 k] (ar H nx (cX f)) (nx+1) λr H' nx'=>r=.bool true/\I (S++[f]) H' nx'/\nx<=nx'/\∀i,lo<=i->i<lo+3->H' i=H i):
    ∀(j:Nat)(ch:Spx)(at_:Nat)(S:List Spx)(H:Hp)(nx:Nat),0<k->ch.length+j=k->S.length+(cm (s.drop at_) j).length<=N->at_<=s.length->I S H nx->H lo=some [.yld y]->H (lo+1)=some [.func 178 [.ptr kb 1 0,.ptr lo 1 0,.ptr sb 1 0,.ptr (lo+1) 1 0]]->(∃C,H (lo+2)=some C/\C.length=k*2/\C.take (ch.length*2)=cX ch)->
     Abs.Fn Tryz.prog 178 [.int .i64 at_,.msl (lo+2) (k*2) 2 0 ch.length,.ptr kb 1 0,.ptr lo 1 0,.ptr sb 1 0,.ptr (lo+1) 1 0] H nx λr H' nx'=>r=.bool true/\I (S++(cm (s.drop at_) j).map (ch++ ·)) H' nx'/\nx<=nx'/\H' lo=H lo/\H' (lo+1)=H (lo+1)/\∃C,H' (lo+2)=some C/\C.length=k*2/\C.take (ch.length*2)=cX ch:=by
 intro j
 induction j with
 |zero=>
  intro ch at_ S H nx hk0 hj hN hat hI h1 h2 ⟨C,h3,hc1,hc2⟩;obtain⟨g1,g2,g3,g4,g5⟩:=hp _ _ _ hI;have hlen:ch.length=k:=by omega
  have hne:ch≠[]:=λe=>by rw[e] at hlen;simp at hlen;omega
  obtain rfl:C=cX ch:=by rw[<-hc2,fI (by omega)]
  refine fO HX ?_;simp only[JV,aH];have hcl:=El (.msl (lo+2) (k*2) 2 0 k) ch (by omega) hne H nx (by rw[hlen];rfl) (λH' hH'=>by rw[hlen];exact(ft (n:=k*2) (off:=0) (len:=k) ((hH' (lo+2) (by omega)).trans h3) hc1 (by omega)).trans (by rw[List.drop_zero,fI (by omega)]));rw[hlen] at hcl;rw[hlen];have z:decide ((k:Int)=k)=true:=aL rfl;refine wnY (zI5 @g1 @g2 @h1 @h2 @z) ?_;refine w_mix1 lo h1 λS0 hS hsub=>?_;refine wnY @hS ?_;refine dW ?_;refine bc ev0 ev0 hcl ?_;rintro _ H2 nx2 ⟨rfl,rfl,rfl⟩;refine jT ⟨hsub _ (by rw[ac (by omega)];exact h1),?_⟩;refine jr ?_;refine xz ev0 ev0 (Yl.mono (rnd S ch H nx hI hlen hne (by rw[mz] at hN;exact hN)) ?_);rintro r H3 nx3 ⟨rfl,e1,e2,e3⟩;refine wnY and_self ?_;refine⟨rfl,?_,e2,e3 _ (by omega) (by omega),e3 _ (by omega) (by omega),cX ch,(e3 _ (by omega) (by omega)).trans h3,hc1,by rw[<-hlen];exact hc2⟩;rw[mz,fX,List.map_nil,eH];exact e1
 |succ j ih=>
  intro ch at_ S H nx hk0 hj hN hat hI h1 h2 ⟨C,h3,hc1,hc2⟩;obtain⟨g1,g2,g3,g4,g5⟩:=hp _ _ _ hI;refine fO HX ?_;simp only[JV,aH];have z:decide ((ch.length:Int)=k)=false:=aO (by omega);refine wnY (zI5 @g1 @g2 @h1 @h2 @z) ?_;refine bN (X:=Nat×List Spx) (λx=>[(1,.msl (lo+2) (k*2) 2 0 ch.length),(4,.ptr sb 1 0),(5,.ptr (lo+1) 1 0),(9,.int .i64 x.1)]) (λx H' nx'=>x.1<=s.length/\I x.2 H' nx'/\nx<=nx'/\H' lo=H lo/\H' (lo+1)=H (lo+1)/\(∃C,H' (lo+2)=some C/\C.length=k*2/\C.take (ch.length*2)=cX ch)/\x.2++(cm (s.drop x.1) (j+1)).map (ch++ ·)=S++(cm (s.drop at_) (j+1)).map (ch++ ·)) (λx=>s.length-x.1) (at_,S) ⟨hat,hI,aR _,rfl,rfl,⟨C,h3,hc1,hc2⟩,rfl⟩ ag0 ?_;rintro⟨i,S1⟩ H1 nx1 ⟨i1,hI1,i2,i3,i4,⟨C1,k3,d1,d2⟩,htot⟩;dsimp only at i1 hI1 htot |-;obtain⟨q1,q2,q3,q4,q5⟩:=hp _ _ _ hI1;have w1:=i3.trans h1;have w2:=i4.trans h2;by_cases hi:i<s.length
  rotate_left
  ·refine wnY (zI3 @q1 @q2 @ao) ?_;rw[show s.drop i=[] from E5 (by omega),tw,List.map_nil,eH] at htot;exact⟨rfl,by rw[<-htot];exact hI1,i2,i3,i4,C1,k3,d1,d2⟩
  have ix:=ix2 hi;rw[uP hi,cl,List.map_map,<-il] at htot;have hmm:(cm (s.drop (i+1)) j).map ((λx=>ch++x) ∘ λx=>s.getD i default::x)=(cm (s.drop (i+1)) j).map ((ch++[s.getD i default])++ ·):=uD λx _=>by simp
  rw[hmm] at htot;generalize s.getD i default=v at *;refine wnY (zI3 @q1 @q2 @ao) ?_;refine pS sb (lo+1) q2 w2 (by omega) λS0 hS1 hS2 hsub=>?_;refine wnY (zI3 @hS1 @hS2 @ix) ?_;refine dW ?_;refine wnY and_self ?_;refine⟨hsub _ (by rw[ac (by omega)];exact q2) (by rw[ac (by omega)];exact w2),?_⟩;refine dW ?_;refine AS (b:=lo+2) (m:=k*2) (off:=0) (len:=ch.length) (n:=1) rfl ev0 (by rw[ac (by omega)];exact k3) ev0 qu rfl d1 (λ_=>by omega) (by omega) (by omega) ?_;refine jT ⟨hsub _ (by rw[ac (by omega),ac (by omega)];exact q2) (by rw[ac (by omega),ac (by omega)];exact w2),?_⟩;refine jr ?_;have hl1:(ch++[v]).length=ch.length+1:=by simp
  have hcc:=gX ch
  have hput:(bD C1 (0+ch.length*2) [.int .i64 v.color,.int .i64 v.label]).length=k*2/\(bD C1 (0+ch.length*2) [.int .i64 v.color,.int .i64 v.label]).take ((ch.length+1)*2)=cX (ch++[v]):=by
   rw[cp];simp only[bD];refine⟨by simp[d1];omega,?_⟩;rw[d2,mY,IT,Hj (by simp[hcc];omega),fI (by simp[hcc];omega)]
  have hN1:S1.length+(cm (s.drop (i+1)) j).length<=N:=by
   have:=congrArg List.length htot;simp only[cA,bi] at this;omega
  have hih:=ih (ch++[v]) (i+1) S1 (ar (ar H1 nx1 [.int .i64 v.color,.int .i64 v.label]) (lo+2) (bD C1 (0+ch.length*2) [.int .i64 v.color,.int .i64 v.label])) (nx1+1) hk0 (by omega) hN1 (by omega) (stab _ _ _ _ _ hI1 (by omega) (λx hx hn=>by rw[ac (by omega),ac (by omega)])) (by rw[ac (by omega),ac (by omega)];exact w1) (by rw[ac (by omega),ac (by omega)];exact w2) ⟨_,ah,hput.1,by rw[hl1];exact hput.2⟩;rw[hl1,show((i+1:Nat):Int)=(i:Int)+1 by omega] at hih;refine bc ev0 ev0 hih ?_;rintro r H4 nx4 ⟨rfl,f1,f2,f3,f4,C4,f5,f6,f7⟩;refine wnY and_self ?_;refine⟨(i+1,S1++(cm (s.drop (i+1)) j).map ((ch++[v])++ ·)),by dsimp only;omega,⟨by dsimp only;omega,f1,by omega,f3.trans ?_,f4.trans ?_,⟨C4,f5,f6,?_⟩,htot⟩,ag0⟩
  ·rw[ac (by omega),ac (by omega)];exact i3
  ·rw[ac (by omega),ac (by omega)];exact i4
  ·have:=congrArg (List.take (ch.length*2)) f7;rw[List.take_take,Nat.min_eq_left (by omega),mY,Hj (by omega)] at this;rw[this];exact fI (by omega)
theorem EP{y kb sb k:Nat}{s:Spx}{H:Hp}{nx:Nat}(hs:s.length<=1000)(hk0:0<k)(hk:k<=1000)(I:List Spx->Hp->Nat->Prop)
    (hp:∀S H nx',I S H nx'->H kb=some [.int .i64 k]/\H sb=some [aA s]/\nx+3<=nx'/\kb<nx/\sb<nx)
    (stab:∀S H H' nx1 nx',I S H nx1->nx1<=nx'->(∀i,i<nx1->¬(nx<=i/\i<nx+3)->H' i=H i)->I S H' nx')
    (rnd:∀S f H nx1,I S H nx1->f.length=k->f≠[]->S.length<(cm s k).length->Yl Tryz.prog y [.msl nx1 (k*2) 2 0 k] (ar H nx1 (cX f)) (nx1+1) λr H' nx'=>r=.bool true/\I (S++[f]) H' nx'/\nx1<=nx'/\∀i,nx<=i->i<nx+3->H' i=H i)
    (gk:H kb=some [.int .i64 k]) (lk:kb<nx) (h0:∀H',(∀i,i<nx->H' i=H i)->I [] H' (nx+3)):
    Abs.Fn Tryz.prog 177 [.yld y,.ptr kb 1 0,.ptr sb 1 0] H nx λ_ H' nx'=>I (cm s k) H' nx':=by
 refine fO LZ ?_;simp only[K8,aH];refine wnY @gk ?_;generalize hH:ar (ar (ar H nx [.yld y]) (nx+1) [.nilf]) (nx+1) (bD [.nilf] 0 [.func 178 [.ptr kb 1 0,.ptr nx 1 0,.ptr sb 1 0,.ptr (nx+1) 1 0]])=H1;have hfn:H1 (nx+1)=some [.func 178 [.ptr kb 1 0,.ptr nx 1 0,.ptr sb 1 0,.ptr (nx+1) 1 0]]:=by rw[<-hH,ah];rfl
 have hfk:H1 kb=some [.int .i64 k]:=by rw[<-hH,ac (by omega),ac (by omega),ac (by omega)];exact gk
 have hfy:H1 nx=some [.yld y]:=by rw[<-hH,ac (by omega),ac (by omega),ah]
 have hfo:∀i,i<nx->H1 i=H i:=λi hi=>by rw[<-hH,ac (by omega),ac (by omega),ac (by omega)]
 clear hH;refine pS kb (nx+1) hfk hfn (by omega) λS0 hS1 hS2 hsub=>?_;refine wnY (aI @hS1 @hS2) ?_;refine dW ?_;refine xV (k1:=.i64) (k2:=.i64) (n:=0) (m:=k) rfl ev0 ev0 (Int.le_refl _) (by omega) (by omega) (by omega) ?_;refine jT ⟨hsub _ (by rw[ac (by omega)];exact hfk) (by rw[ac (by omega)];exact hfn),?_⟩;refine jr ?_;have hz:(bz (AV.agg [AV.int .i64 0,AV.int .i64 0]) k).length=k*2:=by simp[bz,AV.cells]
 have hih:=JX (y:=y) (N:=(cm s k).length) (lo:=nx) (kb:=kb) (sb:=sb) (k:=k) (s:=s) hs hk I hp stab rnd k [] 0 [] (ar H1 (nx+2) (bz (AV.agg [AV.int .i64 0,AV.int .i64 0]) k)) (nx+3) hk0 (by simp) (by simp) (bw _) (h0 _ (λi hi=>by rw[ac (by omega)];exact hfo i hi)) (by rw[ac (by omega)];exact hfy) (by rw[ac (by omega)];exact hfn) ⟨_,ah,hz,rfl⟩;refine bc ev0 (by((try simp only[bZ,ZA,reduceEqDiff,↓reduceIte,reduceAdd,reduceLeDiff]);(try with_reducible rfl));rfl) hih ?_;rintro r H4 nx4 ⟨rfl,f1,-⟩;refine wnY and_self ?_;rw[List.drop_zero,List.nil_append,show(λx:Spx=>([]:Spx)++x)=id from rfl,List.map_id] at f1;exact f1
theorem zu{kb sb k:Nat}{s:Spx}{H:Hp}{nx:Nat}(hs:s.length<=8)(hk0:0<k)(hk:k<=1000)(gk:H kb=some [.int .i64 k])(gs:H sb=some [aA s])(lk:kb<nx)(ls:sb<nx):
    Abs.Fn Tryz.prog 176 [.esl,.func 177 [.ptr kb 1 0,.ptr sb 1 0]] H nx λr H' nx'=>Row H' 1 r ((cm s k).map aA)/\nx<=nx'/\∀b',bv r=some b'->nx<=b'/\b'<nx':=by
 refine fO MN ?_;simp only[Ms,aH];refine wnY and_self ?_;refine np (nx+1) (nx+2) rfl rfl ev0 (λc0 cj hy=>?_);refine Abs.Fn.mono (EP (nx:=nx+2) (kb:=kb) (sb:=sb) (k:=k) (s:=s) (by omega) hk0 hk (λS H' nx'=>nx+5<=nx'/\H' kb=some [.int .i64 k]/\H' sb=some [aA s]/\H' (nx+1)=some [c0]/\∃sv,H' nx=some [sv]/\Row H' 1 sv (S.map aA)/\∀b',bv sv=some b'->nx+5<=b'/\b'<nx') ?_ ?_ ?_ ?_ ?_ ?_) ?_
 ·rintro S H' nx' ⟨h1,h2,h3,h4,h5⟩;exact⟨h2,h3,by omega,by omega,by omega⟩
 ·rintro S H1 H2 a c ⟨h1,h2,h3,h4,sv,h5,h6,h7⟩ hac hs';refine⟨by omega,(hs' _ (by omega) (by omega)).trans h2,(hs' _ (by omega) (by omega)).trans h3,(hs' _ (by omega) (by omega)).trans h4,sv,(hs' _ (by omega) (by omega)).trans h5,h6.same (λb' hb'=>hs' _ (h7 b' hb').2 (by have:=h7 b' hb';omega)),λb' hb'=>⟨(h7 b' hb').1,by have:=h7 b' hb';omega⟩⟩
 ·rintro S f H' nx' ⟨h1,h2,h3,h4,sv,h5,h6,h7⟩ hfl hf0 hSN;have h4':ar H' nx' (cX f) (nx+1)=some [c0]:=by rw[ac (by omega)];exact h4
  refine hy _ _ _ _ h4' rfl ?_;clear hy;refine wnZ and_self ?_;refine⟨h4',?_⟩;have hS70:=Ak hSN (nc (k:=k) hs);have hd:dl (ar H' nx' (cX f)) (nx+1) nx'=some (cX f):=by rw[cq (by omega),ah]
  have hdo:∀x,x<nx'->x≠nx+1->dl (ar H' nx' (cX f)) (nx+1) x=H' x:=λx a b=>by rw[cq b,ac (by omega)]
  generalize dl (ar H' nx' (cX f)) (nx+1)=H1 at *;refine lq ?_;refine pI (only nx' (cX f)) (dl H1 nx') [(2,.ptr nx 1 0),(5,aA f)] (Fz.one hd) ⟨.inl rfl,.inr (Gk (s:=.msl nx' (k*2) 2 0 k) (by rw[<-hfl];exact Row.box nx' f.length (cX f) ji (gX f))),trivial⟩ ?_;have he:∀x,x<nx'->x≠nx+1->dl H1 nx' x=H' x:=λx a b=>by rw[cq (by omega)];exact hdo x a b
  have g5:dl H1 nx' nx=some [sv]:=(he nx (by omega) (by omega)).trans h5;clear hd hdo;generalize dl H1 nx'=H2 at *;refine wnY (zI3 @g5 @aZ @aJ) ?_;refine eR (h6.same λb' hb'=>?_) ?_
  ·have:=h7 b' hb';rw[ac (by omega)];exact he _ (by omega) (by omega)
  rintro sv' H3 nx3 r1 r2 r3 r4 r5;have zs:∀x,x<nx+5->bv sv≠some x:=λx hx e=>by have:=h7 x e;omega
  have z:∀x,x<nx'->x≠nx+1->bv sv≠some x->H3 x=H' x:=λx a1 a2 a3=>(r4 x (by omega) a3).trans (by rw[ac (by omega)];exact he x a1 a2);have g6:H3 nx=some [sv]:=(z nx (by omega) (by omega) (zs _ (by omega))).trans h5;obtain⟨q1,q2⟩:=r1.one;refine wnY (zI3 @g6 @q1 @q2) ?_;have w:∀x,x≠nx->x≠nx+1->ar (ar H3 nx (bD [sv] 0 [sv'])) (nx+1) [c0] x=H3 x:=λx a1 a2=>by rw[ac a2,ac a1]
  have u7:∀b',bv sv'=some b'->nx+5<=b'/\b'<nx3:=λb' hb'=>by
   rcases r5 b' hb' with e|⟨e1,e2⟩
   ·have:=h7 b' e;omega
   ·omega
  refine⟨rfl,⟨by omega,?_,?_,ah,sv',?_,?_,u7⟩,by omega,λx x1 x2=>?_⟩
  ·rw[w _ (by omega) (by omega),z _ (by omega) (by omega) (zs _ (by omega)),h2]
  ·rw[w _ (by omega) (by omega),z _ (by omega) (by omega) (zs _ (by omega)),h3]
  ·rw[ac (by omega),ah];rfl
  ·rw[cl];exact r1.same (λb' hb'=>w b' (by have:=u7 b' hb';omega) (by have:=u7 b' hb';omega))
  ·rw[w _ (by omega) (by omega),z _ (by omega) (by omega) (zs _ (by omega))]
 ·rw[ac (by omega),ac (by omega)];exact gk
 ·omega
 ·intro H' hH';refine⟨by omega,?_,?_,?_,.esl,?_,.nil,λb' hb'=>(by cases hb')⟩
  ·rw[hH' _ (by omega),ac (by omega),ac (by omega),gk]
  ·rw[hH' _ (by omega),ac (by omega),ac (by omega),gs]
  ·rw[hH' _ (by omega),ah]
  ·rw[hH' _ (by omega),ac (by omega),ah]
 ·rintro r H' nx' ⟨h1,h2,h3,h4,sv,h5,h6,h7⟩;refine .inl ⟨h4,?_⟩;refine wnY @h5 ?_;exact⟨h6.same (λb' hb'=>cq (by have:=h7 b' hb';omega)),by omega,λb' hb'=>by have:=h7 b' hb';omega⟩
theorem E8(s:Spx)(k:Nat)(H:Hp)(nx:Nat):Abs.Fn Tryz.prog 160 [aA s,.int .i64 k] H nx λr H' nx'=>r=.func 177 [.ptr (nx+1) 1 0,.ptr nx 1 0]/\H'=ar (ar H nx [aA s]) (nx+1) [.int .i64 k]/\nx'=nx+2:=by
 refine fO L2 ?_;simp only[M4,aH];refine wnY (aI @aZ @aJ) ?_;exact⟨rfl,rfl,rfl⟩
theorem DD{kb sb k:Nat}{s:Spx}{H:Hp}{nx:Nat}(hs:s.length<=8)(hk0:0<k)(hk:k<=1000)(gk:H kb=some [.int .i64 k])(gs:H sb=some [aA s])(lk:kb<nx)(ls:sb<nx):
    Abs.Fn Tryz.prog 159 [.func 177 [.ptr kb 1 0,.ptr sb 1 0]] H nx λr H' nx'=>Row H' 1 r ((cm s k).map aA)/\nx<=nx':=by
 refine fO My ?_;simp only[Lp,aH];refine wnY and_self ?_;refine bc ev0 ev0 (zu hs hk0 hk gk gs lk ls) ?_;rintro r H1 nx1 ⟨r1,r2,r3⟩;obtain⟨q1,q2⟩:=r1.one;refine wnY (aI @q1 @q2) ?_;exact⟨r1,r2⟩
theorem Ep(s:Spx)(k:Int)(hs:Shn s):pU 137 [aA s,.int .i64 k] (.tup [am (sr s k).1,.int .i64 (sr s k).2]):=by
 refine pO Ls ?_;simp only[Kz,aH];have hc:=pD s hs;unfold sr;by_cases he:bQ s=0
 rotate_left
 ·rw[if_pos he];have z:decide (bQ s≠0)=true:=aL he;refine wnY @z ?_;exact dV (.eslsl _) rfl
 rw[if_neg (λh=>h he)];rw[he] at hc;obtain⟨p1,p2,p3,p4⟩:=cE he;have z0:decide ((0:Int)≠0)=false:=rfl;by_cases hk:k<1\/(s.length:Int)<k
 ·rw[if_pos hk];have zz:=aI @z0 @ao;repeat' (first|refine zW ?_|apply a_n|apply a_r|refine zO ?_|refine vY ?_|refine cY ?_ (hp:=hc) (hs:=by(first|refine aF ?_ rfl|apply aW);(repeat' (first|exact aj|apply bo|apply aX|exact cS _));first|done|fail)|refine gTY ?_|refine gFY ?_|refine cTY ?_|refine cFY ?_|(refine zGY ?_ ?_<;>(intro _hg;try (exfalso;omega)))|refine bS rfl ?_|refine r2Y ?_|fail)
  all_goals first|exact dV (.eslsl _) rfl|(exfalso;omega)
 rw[if_neg hk];obtain⟨n,rfl⟩:∃n:Nat,k=n:=⟨k.toNat,by omega⟩
 rw[cz];refine wnY (aI @z0 @ao) ?_;refine bc ev0 ev0 (E8 s n _ _) ?_;rintro _ H1 nx1 ⟨rfl,rfl,rfl⟩;refine bc ev0 ev0 (DD (kb:=0+1) (sb:=0) (k:=n) (s:=s) p2 (by omega) (by omega) ah (by rw[ac (by omega),ah]) (by omega) (by omega)) ?_;rintro r H2 nx2 ⟨r1,r2⟩;obtain⟨q1,q2⟩:=r1.one;refine wnY (aI @q1 @q2) ?_;exact dV (gj r1) rfl
theorem GW(l:List Spx)(v:Spx)(hl:l.length<=1000000)(hs:∀s∈l,Shn s)(hv:Shn v):pU 105 [am l,aA v] (am (mb bh l v)):=by
 refine pO MF ?_;simp only[Mm,aH];refine wnY @ae ?_;refine lpI (X:=Nat×AV) (λx=>[(0,am l),(1,aA v),(5,x.2),(6,.bool ((l.take x.1).any λy=>decide (bh v y<0))),(7,.int .i64 x.1)]) (λx H nx=>x.1<=l.length/\Row H 1 x.2 ((wu l v x.1).map aA)/\(∀b,bv x.2=some b->b<nx)/\∀i,i<x.1->l.getD i default≠v) (λx=>l.length-x.1) (0,.esl) ⟨bw _,Row.nil,λb h=>(by cases h),λi h=>absurd h (by omega)⟩ ?_;rintro⟨k,sv⟩ H nx ⟨hk,hrow,hbd,hne⟩;dsimp only at hk hrow hbd hne |-;by_cases hk2:k<l.length
 rotate_left
 ·obtain rfl:k=l.length:=by omega
  unfold wu at hrow;rw[List.take_length] at hrow |-
  have hnm:v∉l:=λhm=>by
   obtain⟨i,hi,e⟩:=jK hm;exact hne i hi (by simp[List.getD,hi,e])
  unfold mb;rw[if_neg hnm];cases ha:l.any λy=>decide (bh v y<0)
  ·rw[ha,if_neg (by decide)] at hrow;refine wnY (zI3 @ae @aZ @aJ) ?_;refine gI rfl ev0 (hrow.same λb hb=>?_) ev0 eA rfl rfl (by omega) (by simp;omega) (by simp;omega) ?_
   ·have:=hbd b hb;rw[ac (by omega)]
   rintro s2 H2 nx2 hr2 _ _ _ _;obtain⟨o1,o2⟩:=hr2.one;refine wnY (aI @o1 @o2) ?_;rw[CZ ha];refine gj ?_;rw[cl];exact hr2
  ·rw[ha,if_pos rfl] at hrow;obtain⟨o1,o2⟩:=hrow.one;refine wnY (zI3 @ae @o1 @o2) ?_;exact gj hrow
 have ix:=dH hk2;have hc:=fW v (l.getD k default) hv (hs _ (ay hk2));have hz:=@vK v (l.getD k default);obtain⟨e1,e2⟩:=Dw (v:=v) hk2;have hl1:((wu l v k).map aA).length<=1000001:=by rw[bi];have:=Ev (l:=l) (v:=v) (k:=k);omega
 have hmem:l.getD k default∈l:=ay hk2;by_cases h0:bh v (l.getD k default)=0
 ·have e:=hz.1 h0;have hp:mb bh l v=l:=by unfold mb;rw[if_pos (by rw[e];exact hmem)]
  rw[hp];rw[h0] at hc;have z0:decide ((0:Int)=0)=true:=rfl;generalize l.getD k default=w at *;refine wnY (zI5 @ae @ix @z0 @aZ @aJ) ?_;exact bA _ _
 have hnew:∀i,i<k+1->l.getD i default≠v:=λi hi=>by
  rcases gN.1 hi with h'|rfl
  ·exact hne i h'
  ·exact λe=>h0 (hz.2 e.symm)
 have z0:decide (bh v (l.getD k default)=0)=false:=aO h0;by_cases hd:(l.take k).any (λy=>decide (bh v y<0))=false/\bh v (l.getD k default)<0
 ·rw[if_pos hd] at e1;rw[hd.1,aL hd.2,Bool.false_or] at e2;obtain⟨d1,d2⟩:=hd;rw[d1];have z:decide (bh v (l.getD k default)<0)=true:=aL d2;generalize bh v (l.getD k default)=cv at *;generalize l.getD k default=w at *;refine wnY (zI6 @ae @ix @z @z0 @aZ @aJ) ?_;refine eR (hrow.same λb hb=>?_) ?_
  ·have:=hbd b hb;rw[ac (by omega)]
  rintro s1 H1 nx1 hr1 j1 j2 j3 j4
  have hb1:∀b,bv s1=some b->b<nx1:=λb hb=>by
   rcases j4 b hb with h|h
   ·have:=hbd b h;omega
   ·omega
  obtain⟨o1,o2⟩:=hr1.one;refine wnY (zI5 @ix @o1 @o2 @aZ @aJ) ?_;refine gI rfl ev0 (hr1.same λb hb=>?_) ev0 eA rfl rfl (by omega) (by simp at hl1 |-;omega) (by simp at hl1 |-;omega) ?_
  ·have:=hb1 b hb;rw[ac (by omega)]
  rintro s2 H2 nx2 hr2 i1 i2 i3 i4;refine wnY @e2 ?_;refine⟨(k+1,s2),by dsimp only;omega,⟨by dsimp only;omega,?_,λb hb=>?_,hnew⟩,(have zz:=@e2;agZ)⟩
  ·dsimp only;rw[e1,cl,cl];exact hr2
  ·rcases i4 b hb with h|h
   ·have:=hb1 b h;omega
   ·omega
 rw[if_neg hd] at e1;cases ha:(l.take k).any λy=>decide (bh v y<0)
 ·have d2:¬bh v (l.getD k default)<0:=λh=>hd ⟨ha,h⟩;rw[ha,aO d2,Bool.false_or] at e2;have z:decide (bh v (l.getD k default)<0)=false:=aO d2;generalize bh v (l.getD k default)=cv at *;generalize l.getD k default=w at *;refine wnY (zI6 @ae @ix @z @z0 @aZ @aJ) ?_;refine eR (hrow.same λb hb=>?_) ?_
  ·have:=hbd b hb;rw[ac (by omega)]
  rintro s2 H2 nx2 hr2 i1 i2 i3 i4;refine wnY @e2 ?_;refine⟨(k+1,s2),by dsimp only;omega,⟨by dsimp only;omega,?_,λb hb=>?_,hnew⟩,(have zz:=@e2;agZ)⟩
  ·dsimp only;rw[e1,cl];exact hr2
  ·rcases i4 b hb with h|h
   ·have:=hbd b h;omega
   ·omega
 ·rw[ha,Bool.true_or] at e2;generalize bh v (l.getD k default)=cv at *;generalize l.getD k default=w at *;refine wnY (zI5 @ae @ix @z0 @aZ @aJ) ?_;refine eR (hrow.same λb hb=>?_) ?_
  ·have:=hbd b hb;rw[ac (by omega)]
  rintro s2 H2 nx2 hr2 i1 i2 i3 i4;refine wnY @e2 ?_;refine⟨(k+1,s2),by dsimp only;omega,⟨by dsimp only;omega,?_,λb hb=>?_,hnew⟩,(have zz:=@e2;agZ)⟩
  ·dsimp only;rw[e1,cl];exact hr2
  ·rcases i4 b hb with h|h
   ·have:=hbd b h;omega
   ·omega
theorem sw:∀(k:Nat)(s:Spx),k<=1000->s.length<=8->pU 104 [aA s,.int .i64 k] (am (cm s k)):=by
 intro k
 induction k with
 |zero=>
  intro s hkk hs;refine pO H8 ?_;simp only[JR,aH];rw[mz];have z:decide (((0:Nat):Int)=0)=true:=rfl;refine wnY @z ?_;refine jy (l:=[aA []]) ah rfl (by simp) rfl (λy hy=>?_) (λi a c ha hc=>?_)
  ·simp at hy;subst hy;rfl
  ·match i with
   |0=>simp at ha hc;subst ha hc;exact .eslsl 2
 |succ k ih=>
  intro s hkk hs;refine pO H8 ?_;simp only[JR,aH];have z:decide (((k+1:Nat):Int)=0)=false:=aO (by omega);have htot:=nc (l:=s) (k:=k+1) hs;refine wnY @z ?_;refine lpI (X:=Nat×AV×List Spx) (λx=>[(0,aA s),(1,.int .i64 ((k+1:Nat):Int)),(5,x.2.1),(6,.int .i64 x.1)]) (λx H nx=>x.1<=s.length/\Row H 1 x.2.1 (x.2.2.map aA)/\(∀b,bv x.2.1=some b->b<nx)/\x.2.2++cm (s.drop x.1) (k+1)=cm s (k+1)) (λx=>s.length-x.1) (0,.esl,[]) ⟨bw _,Row.nil,λb h=>(by cases h),rfl⟩ ?_;rintro⟨i,sv,D⟩ H nx ⟨h1,hrow,hbd,hD⟩;dsimp only at h1 hrow hbd hD |-;by_cases hi:i+(k+1)<=s.length
  rotate_left
  ·have z2:decide ((i:Int)+((k+1:Nat):Int)<=s.length)=false:=aO (by omega);obtain⟨o1,o2⟩:=hrow.one;refine wnY (zI4 @ao @z2 @o1 @o2) ?_;rw[lr (by rw[wR];omega),eH] at hD;rw[<-hD];exact gj hrow
  have z2:decide ((i:Int)+((k+1:Nat):Int)<=s.length)=true:=aL (by omega);have hi2:i<s.length:=by omega
  have tk:((k+1:Nat):Int)-1=(k:Nat):=by omega
  have ti:(i:Int)+1=(i+1:Nat):=by omega
  have hsl:=sZ (l:=s) (k:=i+1) (by omega);have hcall:=ih (s.drop (i+1)) (by omega) (by rw[wR];omega);have hR:=nc (l:=s.drop (i+1)) (k:=k) (by rw[wR];omega)
  have hRl:∀f∈cm (s.drop (i+1)) k,f.length<=8:=λf hf=>by
   have:=(ez.1 hf).1.length_le;rw[wR] at this;omega
  have ix:=ix2 hi2;have hDD:D++(cm (s.drop (i+1)) k).map (s.getD i default:: ·)++cm (s.drop (i+1)) (k+1)=cm s (k+1):=by rw[<-hD,uP hi2,il]
  have hDl:D.length+(cm (s.drop (i+1)) k).length<=70:=by
   have:=congrArg List.length hDD;rw[cA,cA,bi] at this;omega
  clear hD htot;generalize cm (s.drop (i+1)) k=R at *;generalize s.getD i default=v at *;obtain⟨o1,o2⟩:=hrow.one;refine wnY (zI8 @ao @ae @z2 @tk @ti @hsl @o1 @o2) ?_;refine tC (X:=Nat×AV) (λx=>[(0,aA s),(1,.int .i64 ((k+1:Nat):Int)),(5,x.2),(6,.int .i64 i),(7,am R),(8,.int .i64 x.1)]) (λx H nx=>x.1<=R.length/\Row H 1 x.2 ((D++(R.take x.1).map (v:: ·)).map aA)/\∀b,bv x.2=some b->b<nx) (λx=>R.length-x.1) (0,sv) ⟨bP,_,Fz.none,⟨bw _,by rw[List.take_zero,List.map_nil,eH];exact hrow,hbd⟩,im ag0⟩ ?_;clear hrow hbd o1 o2;rintro⟨j,sv⟩ H1 nx1 ⟨j1,hrow,hbd⟩;dsimp only at j1 hrow hbd |-;obtain⟨o1,o2⟩:=hrow.one;by_cases hj:j<R.length
  rotate_left
  ·rw[fI (by omega)] at hrow;refine wnY (zI3 @ae @o1 @o2) ?_;exact⟨(i+1,sv,D++R.map (v:: ·)),by dsimp only;omega,⟨by dsimp only;omega,hrow,hbd,hDD⟩,ag0⟩
  have iy:=dH hj;have hfl:=hRl _ (ay hj)
  have e1:(D++(R.take (j+1)).map (v:: ·)).map aA=(D++(R.take j).map (v:: ·)).map aA++[aA (v::R.getD j default)]:=by
   simp only[bI hj,cl,il,fX,List.map_nil]
  have hln:((D++(R.take j).map (v:: ·)).map aA).length<=70:=by simp;omega
  generalize R.getD j default=f at *;refine wnY (zI5 @ae @ix @iy @o1 @o2) ?_;refine wZ bP rfl (λy cs h=>by cases h) ?_;refine wnY (aI @ix @iy) ?_;refine dW ?_;refine wnY and_self ?_;refine⟨λy cs h=>(by cases h),?_⟩;refine jr ?_;refine gI (sv:=.msl nx1 2 2 0 1) (cs:=[.int .i64 v.color,.int .i64 v.label]) rfl ev0 (Row.box nx1 1 _ ah rfl) ev0 vq (kR f) (gX f) (by omega) (by simp;omega) (by simp;omega) ?_;rintro s2 H2 nx2 r1 r2 r3 r4 r5
  obtain⟨b2,rfl,hb2,hb3⟩:∃b2,s2=.msl b2 ((f.length+1)*2) 2 0 (f.length+1)/\H2 b2=some (cX (v::f))/\nx1<=b2/\b2<nx2:=by
   have hcl:=gX (v::f);have h5:=r5;have r1':Row H2 2 s2 (cX (v::f)):=r1;generalize cX (v::f)=cs at r1' hcl |-;cases r1' with
   |nil=>simp at hcl
   |box b len cs g1 g2=>
    obtain rfl:len=f.length+1:=by rw[hcl] at g2;simp at g2;omega
    refine⟨b,rfl,g1,?_,?_⟩
    ·rcases h5 b rfl with e|⟨e,_⟩
     ·cases e;omega
     ·omega
    ·rcases h5 b rfl with e|⟨e,e2⟩
     ·cases e;omega
     ·omega
  refine jT ?_;refine H7 (pv:=[(0,1,.msl b2 ((f.length+1)*2) 2 0 (f.length+1))]) (cs:=[.msl b2 ((f.length+1)*2) 2 0 (f.length+1)]) ev0 rfl (by decide) rfl rfl ?_;refine jr ?_;have hold:∀b,b<nx1->H2 b=H1 b:=λb hb=>by rw[r4 b (by omega) (λe=>by cases e;omega),ac (by omega)]
  refine gI rfl ev0 (hrow.same λb hb=>hold b (hbd b hb)) ev0 (k:=1) (new:=[.msl b2 ((f.length+1)*2) 2 0 (f.length+1)]) (by rw[jP];rfl) rfl rfl jq (by omega) (by omega) ?_;rintro s3 H3 nx3 u1 u2 u3 u4 u5;have hb4:H3 b2=some (cX (v::f)):=(u4 b2 (by omega) (λe=>by have:=hbd b2 e;omega)).trans hb2
  obtain ⟨H4,hfz,hr4,hs4⟩:=qQ (x':=aA (v :: f)) u1 hb4 (Gk (Row.box b2 (f.length + 1) _ ji (gX _))) (fun e=>by
   rcases u5 b2 e with h|h
   ·have:=hbd b2 h;omega
   ·omega)
  refine wnY and_self ?_;refine⟨(j+1,s3),by dsimp only;omega,_,H4,hfz,⟨by dsimp only;omega,?_,λb hb=>?_⟩,im ag0⟩
  ·dsimp only;rw[e1];exact hr4
  ·rcases u5 b hb with h|h
   ·have:=hbd b h;omega
   ·omega
theorem A6(c:List Spx)(k:Nat)(hc:c.length<=50)(hs:∀s∈c,s.length<=8)(hk:k<=1000):pU 51 [bH c,.int .i64 k] (am (gx c k)):=by
 refine pO Ni ?_;simp only[b51,aH];have hfl:=js (k:=k) hs;have hfe:=B7 (k:=k) hs;refine wnZ (aI @ai @af) ?_;refine tC (X:=Nat) (λi=>[(1,.int .i64 k),(2,.ptr 0 1 0),(5,am (mi bh ((c.take i).flatMap λs=>cm s k))),(6,.int .i64 i)]) (λi H nx=>i<=c.length/\H 0=some [am c]) (λi=>c.length-i) 0 ⟨bP,_,Fz.none,⟨bw _,ah⟩,.inl rfl,.inl rfl,.inr (.eslsl 1),.inl rfl,trivial⟩ ?_;rintro i H nx ⟨h1,g0⟩;by_cases hi:i<c.length
 rotate_left
 ·rw[fI (by omega)];refine wnY (aI @ae @g0) ?_;exact bA _ _
 have ix:=dH hi;have hft:=vt (k:=k) hi;have hpre:∀s∈(c.take (i+1)).flatMap (λs=>cm s k),Shn s:=B7 λs h=>hs s (gV h);have hprl:=js (k:=k) (c:=c.take (i+1)) (λs h=>hs s (gV h));rw[hft] at hpre hprl;rw[eM,cA] at hprl;have hcall:=sw k (c.getD i default) hk (hs _ (ay hi));by_cases hlt:(c.getD i default).length<k
 ·have z:decide (((c.getD i default).length:Int)<k)=true:=aL (by omega);rw[lr hlt,eH] at hft;generalize c.getD i default=s at *;refine wnY (zI5 @ae @ao @ix @g0 @z) ?_;exact⟨i+1,by omega,bP,_,Fz.none,⟨by omega,g0⟩,im (have zz:=@hft;agZ)⟩
 have z:decide (((c.getD i default).length:Int)<k)=false:=aO (by omega);generalize c.getD i default=s at *;generalize cm s k=R at *;generalize (c.take i).flatMap (λs=>cm s k)=P at *;refine wnY (zI5 @ae @ao @ix @g0 @z) ?_;refine bN (X:=Nat) (λj=>[(1,.int .i64 k),(2,.ptr 0 1 0),(5,am (mi bh (P++R.take j))),(6,.int .i64 i),(7,am R),(8,.int .i64 j)]) (λj H nx=>j<=R.length/\H 0=some [am c]) (λj=>R.length-j) 0 ⟨bw _,g0⟩ (by simp (disch:=omega) only[agr,ZG,reduceEqDiff,↓reduceIte,List.take_zero,eH]) ?_;clear g0;rintro j H nx ⟨j1,g0⟩;by_cases hj:j<R.length
 rotate_left
 ·rw[fI (by omega)];refine wnY @ae ?_;exact⟨i+1,by omega,bP,_,Fz.none,⟨by omega,g0⟩,im (have zz:=@hft;agZ)⟩
 have iy:=dH hj;have e1:mi bh (P++R.take (j+1))=mb bh (mi bh (P++R.take j)) (R.getD j default):=by rw[bI hj,<-il,CS]
 have hput:=GW (mi bh (P ++ R.take j)) (R.getD j default) (fe pc (by rw [cA,eM]; omega)) (fun t ht=>hpre t (by
  have:=mF.1 ht;rcases eC.1 this with h|h
  ·exact mH _ h
  ·exact lW _ (gV h))) (hpre _ (lW _ (ay hj)))
 rw[<-e1] at hput;generalize R.getD j default=f at *;refine wnY (aI @ae @iy) ?_;exact⟨j+1,by omega,⟨by omega,g0⟩,ag0⟩
theorem pB(c:List Spx)(k:Int)(hc:c.length<=50)(hs:∀s∈c,Shn s):pU 99 [bH c,.int .i64 k] (.tup [am (dr c k).1,.int .i64 (dr c k).2]):=by
 refine pO Nx ?_;simp only[b99,aH];have hcc:=wX c (show _<=_ by omega) hs;unfold dr;by_cases he:az c=0
 rotate_left
 ·rw[if_pos he];have z:decide (az c≠0)=true:=aL he;refine wnY (zI3 @ai @af @z) ?_;exact dV (.eslsl _) rfl
 rw[if_neg (λh=>h he)];rw[he] at hcc;have z0:decide ((0:Int)≠0)=false:=rfl;obtain⟨p1,p2,p3,p4⟩:=dz he;by_cases hk:k<1\/8<k
 ·rw[if_pos hk];have zz:=aI @ai (aI @af @z0);repeat' (first|refine zW ?_|apply a_n|apply a_r|refine zO ?_|refine vY ?_|refine cY ?_ (hp:=hcc) (hs:=by(first|refine aF ?_ rfl|apply aW);(repeat' (first|exact aj|apply bo|apply aX|exact cI _));first|done|fail)|refine bxY ?_|refine gTY ?_|refine gFY ?_|refine cTY ?_|refine cFY ?_|(refine zGY ?_ ?_<;>(intro _hg;try (exfalso;omega)))|refine bS rfl ?_|refine r2Y ?_|fail)
  all_goals first|exact dV (.eslsl _) rfl|(exfalso;omega)
 rw[if_neg hk];obtain⟨n,rfl⟩:∃n:Nat,k=n:=⟨k.toNat,by omega⟩
 rw[cz];have h8:∀s∈c,s.length<=8:=λs h=>(cE (p2 s h)).2.1;have ha:=A6 c n hc h8 (by omega);have hl:(gx c n).length<=3500:=fe pc (fe (js h8) (by omega));have z1:decide ((4096:Int)<(gx c n).length)=false:=aO (by omega);refine wnY (zI5 @ai @af @ae @z0 @z1) ?_;exact dV (bA _).snap rfl
theorem Hv(s:Spx)(h1:1<=s.length)(hs:s.length<=8):pU 138 [aA s] (Gc (iB 8 s)):=by
 refine pO Li ?_;simp only[LL,aH];have hn:fF (aA s)=some s.length:=by unfold aA jf;simp[fF]
 have hput:=Bn (n:=8) (s:=s) hs;refine wnY and_self ?_;refine lpI (X:=Nat) (λk=>[(0,aA s),(2,.ptr 0 16 0),(3,.ptr 1 16 0),(5,.int .i64 k)]) (λk H nx=>k<=8/\H 0=some (kc 0)/\H 1=some (kc k)) (λk=>8-k) 0 ⟨bw _,by rw[ac (by omega),ah];rfl,ah⟩ ?_;rintro k H nx ⟨hk,g0,g1⟩;rcases(by omega:k=8\/k=0\/k=1\/k=2\/k=3\/k=4\/k=5\/k=6\/k=7) with rfl|rfl|rfl|rfl|rfl|rfl|rfl|rfl|rfl
 ·refine wnY (aI @g0 @g1) ?_;refine Iv rfl g1 rfl rfl ?_;refine wnY and_self ?_;refine Ik (n:=s.length) (H':=ar H 1 ((iB 8 s).map (AV.int .i64))) ?_ ?_
  ·((try simp only[bZ,ZA,reduceEqDiff,↓reduceIte,reduceAdd,reduceLeDiff]);(try with_reducible rfl))
   have htr:vj s.length (aA s)=aA s:=by unfold aA jf;simp[vj];exact fI (by simp)
   have hmin:min s.length 8=s.length:=Nat.min_eq_left hs;have hal:fF (.msl 1 16 2 0 8)=some 8:=rfl;simp only[sQ,hal,hn,hmin,if_neg (show ¬s.length=0 by omega),g1,htr,vq];rw[if_pos (by refine⟨?_,?_,?_,?_⟩<;>first|rfl|trivial|omega|exact kR s)]
   have:bD (kc 8) 0 (cX s)=(iB 8 s).map (AV.int .i64):=by
    rw[<-hput];simp only[bD,List.take_zero,List.nil_append,cp,gX];rfl
   rw[this]
  ·have hl:((iB 8 s).map (AV.int .i64)).length=16:=by rw[bi,px]
   have g1':ar H 1 ((iB 8 s).map (AV.int .i64)) 1=some ((iB 8 s).map (AV.int .i64)):=ah;have g0':ar H 1 ((iB 8 s).map (AV.int .i64)) 0=some (kc 0):=by rw[ac (by omega)];exact g0
   have hl0:(kc 0).length=16:=rfl;unfold Gc;have ht:((iB 8 s).map (AV.int .i64)).take 16=(iB 8 s).map (AV.int .i64):=fI (by omega);have hd:=D6 (iB 8 s);unfold Gc at hd
   have hfl:AV.ones ((iB 8 s).map (AV.int .i64))=true:=by
    unfold AV.ones;rw[eB];intro x hx;obtain⟨y,_,rfl⟩:=bG.1 hx;rfl
   have hlp:bD (kc 0) 0 ((iB 8 s).map (AV.int .i64))=(iB 8 s).map (AV.int .i64):=by
    simp only[bD,List.take_zero,List.nil_append,cp,hl];rw[List.drop_of_length_le (by decide),eH]
   generalize (iB 8 s).map (AV.int .i64)=K at *;refine wnY (zI5 @g0' @g1' @hl @hl0 @ht) ?_;refine Jt (v:=.agg K) (cs:=kc 0) (vs:=K) (b:=0) (n:=16) (off:=0) rfl ev0 ev0 g0' rfl hfl hl0 hl (by omega) ?_;rw[hlp];refine wnY (aI @hl @ht) ?_;exact hd _
 ·refine wnY (aI @g0 @g1) ?_;refine nN (r:=.ptr 1 16 0) rfl rfl rfl ?_;have hl:(kc 0).length=16:=rfl;refine wnY (aI @g1 @hl) ?_;exact⟨1,by omega,⟨by omega,by rw[ac (by omega)];exact g0,by rw[ah];rfl⟩,by(iterate 4 refine And.intro rfl ?_);trivial⟩
 ·refine wnY (aI @g0 @g1) ?_;refine nN (r:=.ptr 1 16 2) rfl rfl rfl ?_;have hl:(kc 1).length=16:=rfl;refine wnY (aI @g1 @hl) ?_;exact⟨2,by omega,⟨by omega,by rw[ac (by omega)];exact g0,by rw[ah];rfl⟩,by(iterate 4 refine And.intro rfl ?_);trivial⟩
 ·refine wnY (aI @g0 @g1) ?_;refine nN (r:=.ptr 1 16 4) rfl rfl rfl ?_;have hl:(kc 2).length=16:=rfl;refine wnY (aI @g1 @hl) ?_;exact⟨3,by omega,⟨by omega,by rw[ac (by omega)];exact g0,by rw[ah];rfl⟩,by(iterate 4 refine And.intro rfl ?_);trivial⟩
 ·refine wnY (aI @g0 @g1) ?_;refine nN (r:=.ptr 1 16 6) rfl rfl rfl ?_;have hl:(kc 3).length=16:=rfl;refine wnY (aI @g1 @hl) ?_;exact⟨4,by omega,⟨by omega,by rw[ac (by omega)];exact g0,by rw[ah];rfl⟩,by(iterate 4 refine And.intro rfl ?_);trivial⟩
 ·refine wnY (aI @g0 @g1) ?_;refine nN (r:=.ptr 1 16 8) rfl rfl rfl ?_;have hl:(kc 4).length=16:=rfl;refine wnY (aI @g1 @hl) ?_;exact⟨5,by omega,⟨by omega,by rw[ac (by omega)];exact g0,by rw[ah];rfl⟩,by(iterate 4 refine And.intro rfl ?_);trivial⟩
 ·refine wnY (aI @g0 @g1) ?_;refine nN (r:=.ptr 1 16 10) rfl rfl rfl ?_;have hl:(kc 5).length=16:=rfl;refine wnY (aI @g1 @hl) ?_;exact⟨6,by omega,⟨by omega,by rw[ac (by omega)];exact g0,by rw[ah];rfl⟩,by(iterate 4 refine And.intro rfl ?_);trivial⟩
 ·refine wnY (aI @g0 @g1) ?_;refine nN (r:=.ptr 1 16 12) rfl rfl rfl ?_;have hl:(kc 6).length=16:=rfl;refine wnY (aI @g1 @hl) ?_;exact⟨7,by omega,⟨by omega,by rw[ac (by omega)];exact g0,by rw[ah];rfl⟩,by(iterate 4 refine And.intro rfl ?_);trivial⟩
 ·refine wnY (aI @g0 @g1) ?_;refine nN (r:=.ptr 1 16 14) rfl rfl rfl ?_;have hl:(kc 7).length=16:=rfl;refine wnY (aI @g1 @hl) ?_;exact⟨8,by omega,⟨by omega,by rw[ac (by omega)];exact g0,by rw[ah];rfl⟩,by(iterate 4 refine And.intro rfl ?_);trivial⟩
theorem Du(l:Spx)(hl:l.length<=1000000):PureF Tryz.prog 136 [aA l] (aA l):=by
 refine qO Iq ?_;simp only[JA,aH];refine wnY and_self ?_;have hn:fF (aA l)=some l.length:=by unfold aA jf;simp[fF]
 refine wz (k:=l.length) (by((try simp only[bZ,ZA,reduceEqDiff,↓reduceIte,reduceAdd,reduceLeDiff]);(try with_reducible rfl));exact hn) (λh=>?_) (λh=>?_) (λh=>?_)
 ·refine wnY and_self ?_;refine iR rfl ev0 ev0 vq (kR _) (by omega) (by omega) ?_;refine wnY and_self ?_;exact rN (Row.box _ l.length (cX l) ah (gX l))
 ·refine wnY and_self ?_;obtain rfl:=fA.1 h;exact .eslsl 2
 ·refine wnY and_self ?_;refine iR rfl ev0 ev0 vq (kR _) (by omega) (by omega) ?_;refine wnY and_self ?_;exact rN (Row.box _ l.length (cX l) ah (gX l))
section
variable{g:Nat}{caps:List AV}{s:AV}
theorem JP(hs:dx s=some (.int .i64 0)){H:Hp}{nx:Nat}:Abs.Fn Tryz.prog 166 [s,.int .i64 0,.int .i64 0,.func g caps] H nx λr H' nx'=>nx'=nx/\H'=H:=by
 refine fO H9 ?_;simp only[IH,aH];refine wnZ and_self ?_;refine bN (X:=Unit) (λx=>[(0,s),(1,.int .i64 0),(2,.int .i64 0),(3,.func g caps),(8,.int .i64 1)]) (λx H' nx'=>H'=H/\nx'=nx) (λx=>0) () ⟨rfl,rfl⟩ (by simp (disch:=omega) only[agr,ZG,reduceEqDiff,↓reduceIte,Int.zero_add,true_and]) ?_;rintro _ _ _ ⟨rfl,rfl⟩;refine wnZ and_self ?_;exact⟨rfl,rfl⟩
theorem Jq(hs:dx s=some (.int .i64 0)){H:Hp}{nx:Nat}:Abs.Fn Tryz.prog 155 [s,.int .i64 0,.int .i64 0,.int .i64 0,.func g caps] H nx λr H' nx'=>nx'=nx/\H'=H:=by
 refine fO Iz ?_;simp only[Jj,aH];refine wnZ and_self ?_;refine bN (X:=Unit) (λx=>[(0,s),(1,.int .i64 0),(2,.int .i64 0),(3,.int .i64 0),(4,.func g caps)]) (λx H' nx'=>H'=H/\nx'=nx) (λx=>0) () ⟨rfl,rfl⟩ ag0 ?_;rintro _ _ _ ⟨rfl,rfl⟩;refine wnZ and_self ?_;refine bc ev0 ev0 (JP hs) ?_;rintro _ _ _ ⟨rfl,rfl⟩;refine wnZ and_self ?_;exact⟨rfl,rfl⟩
theorem pk(hs:dx s=some (.int .i64 0)){H:Hp}{nx:Nat}:Abs.Fn Tryz.prog 130 [s,.func g caps] H nx λr H' nx'=>nx'=nx/\H'=H:=by
 refine fO Ir ?_;simp only[Jc,aH];have w8:IntKind.wrap .u64 0=0:=by decide
 refine wnZ (aI @w8 @hs) ?_;refine bc ev0 (have zz:=@w8;evZ) J8 ?_;rintro _ _ _ ⟨rfl,rfl,rfl⟩;refine wnZ and_self ?_;refine bc ev0 ev0 (Jq hs) ?_;rintro _ _ _ ⟨rfl,rfl⟩;refine wnZ and_self ?_;exact⟨rfl,rfl⟩
end
theorem J6:Cmp Tryz.prog aA bh (λs=>Shn s) 70 [] where
 cells _:=rfl
 one _:=rfl
 dat x:=cS x
 dcaps x hx:=by cases hx
 run x y hx hy:=gR x y hx hy
 ord:=lO.ord
theorem zY(l:List Spx)(k:Nat)(hl:l.length<=50)(hs:∀s∈l,bQ s=0)(hk:1<=k/\k<=8):pU 87 [am l,.int .i64 k] (.tup [am (gx l k),.int .i64 0]):=by
 refine pO NQ ?_;simp only[b87,aH];have h8:∀s∈l,s.length<=8:=λs h=>(cE (hs s h)).2.1
 have hgood:∀s∈l.flatMap (λs=>cm s k),ms s:=λs h=>by
  obtain⟨t,t1,t2⟩:=mg.1 h;exact Fq (G6 (hs t t1)) hk.1 t2
 have hfl:=js (k:=k) h8;have z0:decide ((0:Int)≠0)=false:=rfl;refine wnY @ae ?_;refine u0 ?_;refine wnY @ae ?_;refine lpI (X:=Nat×AV×List Spx) (λx=>[(1,.int .i64 k),(6,.mp 0),(7,x.2.1),(15,am l),(16,.int .i64 l.length),(17,.int .i64 x.1)]) (λx H nx=>x.1<=l.length/\1<=nx/\H 0=some [.omap ((x.2.2.map kK).map eK) (x.2.2.map λ_=>.bool true)]/\Row H 1 x.2.1 (x.2.2.map aA)/\(∀b,bv x.2.1=some b->1<=b/\b<nx)/\x.2.2.Nodup/\∀s,s∈x.2.2↔s∈(l.take x.1).flatMap λs=>cm s k) (λx=>l.length-x.1) (0,.esl,[]) ⟨bw _,by omega,ah,Row.nil,λb h=>(by cases h),List.nodup_nil,λs=>by simp⟩ ?_;rintro⟨i,sv,O⟩ H nx ⟨h1,hnx,g0,hrow,hbd,hnd,hmem⟩;dsimp only at h1 g0 hrow hbd hnd hmem |-;obtain⟨o1,o2⟩:=hrow.one;by_cases hi:i<l.length
 rotate_left
 ·rw[fI (by omega)] at hmem
  have hOl:O.length<=3500:=by
   have:=yY hnd (l₂:=l.flatMap λs=>cm s k) (λs h=>(hmem s).1 h);omega
  have hsort:Abs.Fn Tryz.prog 130 [sv,.func 70 []] H nx λ_ H' nx'=>Row H' 1 sv ((gx l k).map aA):=by
   generalize hcs:O.map aA=cs at hrow;cases hrow with
   |nil=>
    have hO0:O=[]:=List.map_eq_nil_iff.1 hcs;refine Abs.Fn.mono (pk rfl) ?_;rintro _ _ _ ⟨rfl,rfl⟩
    have:gx l k=[]:=by
     unfold gx;rw[yK,xk];intro s h;have:=(hmem s).2 h;rw[hO0] at this;cases this
    rw[this];exact Row.nil
   |box b len cs k1 k2=>
    obtain rfl:len=O.length:=by rw[<-hcs,bi] at k2;omega
    have hb:=hbd b rfl;subst hcs;by_cases h0:O.length=0
    ·have hO0:O=[]:=fA.1 h0;subst hO0;refine Abs.Fn.mono (pk rfl) ?_;rintro _ _ _ ⟨rfl,rfl⟩
     have:gx l k=[]:=by
      unfold gx;rw[yK,xk];intro s h;have:=(hmem s).2 h;cases this
     rw[this];exact Row.box b 0 _ k1 rfl
    ·have hg:∀s∈O,Shn s:=λs h=>show s.length<=_ by have:=(hgood s ((hmem s).1 h)).2.1;omega
     have hsf:=BD J6 (L:=O) (b:=b) (nx:=nx) (n:=O.length) k1 hb.2 rfl (by omega) hg (by omega);rw[Nat.mul_one];refine Abs.Fn.mono hsf ?_;rintro _ H' nx' ⟨L',ps,p1,p2⟩;have hlen:=p1.length_eq;have:=ra p1 (by rw[hlen];exact p2) hnd hmem;unfold gx;rw[<-this,<-hlen];have:=Row.box (H:=H') (sz:=1) b L'.length (L'.map aA) ps.at_ (by simp)
     rwa [Nat.mul_one] at this
  refine wnY and_self ?_;refine bc ev0 ev0 hsort ?_;rintro r H' nx' hr;refine wnY (aI @o1 @o2) ?_;exact dV (gj hr) rfl
 have ix:=dH hi;have hft:=vt (k:=k) hi
 have hpm:∀s∈(l.take (i+1)).flatMap (λs=>cm s k),s∈l.flatMap λs=>cm s k:=λs h=>by
  obtain⟨t,t1,t2⟩:=mg.1 h;exact mg.2 ⟨t,gV t1,t2⟩
 have hsi:=hs _ (ay hi);have h8i:=h8 _ (ay hi);have hfx:=Ep (l.getD i default) k (show _<=_ by omega)
 have hfe:(l.getD i default).length<k\/sr (l.getD i default) k=(cm (l.getD i default) k,0):=by
  by_cases h:(l.getD i default).length<k
  ·exact .inl h
  ·refine .inr ?_;unfold sr;rw[if_neg (λh=>h hsi),if_neg (by omega),cz]
 have hcar:∀s∈cm (l.getD i default) k,ms s:=λs h=>hgood s (hpm s (by rw[hft];exact lW _ h));by_cases hlt:(l.getD i default).length<k
 ·have z:decide (((l.getD i default).length:Int)<k)=true:=aL (by omega);rw[lr hlt,eH] at hft;generalize l.getD i default=s at *;refine wnY (zI5 @ao @ix @z @o1 @o2) ?_;exact⟨(i+1,sv,O),by dsimp only;omega,⟨by dsimp only;omega,hnx,g0,hrow,hbd,hnd,by dsimp only;rw[hft];exact hmem⟩,ag0⟩
 have z:decide (((l.getD i default).length:Int)<k)=false:=aO (by omega);rw[hfe.resolve_left hlt] at hfx;clear hfe;have hgP:∀s∈(l.take i).flatMap (λs=>cm s k),ms s:=λs h=>hgood s (hpm s (by rw[hft];exact mH _ h))
 have hPl:((l.take i).flatMap (λs=>cm s k)++cm (l.getD i default) k).length<=3500:=by
  rw[<-hft];have:=js (k:=k) (c:=l.take (i+1)) (λs h=>h8 s (gV h));rw[eM] at this;omega
 generalize l.getD i default=s at *;generalize cm s k=R at *;generalize (l.take i).flatMap (λs=>cm s k)=P at *;have hRl:R.length<=3500:=by rw[cA] at hPl;omega
 refine wnY (zI7 @ao @ae @ix @z @z0 @o1 @o2) ?_;refine bN (X:=Nat×AV×List Spx) (λx=>[(1,.int .i64 k),(6,.mp 0),(7,x.2.1),(15,am l),(16,.int .i64 l.length),(17,.int .i64 i),(34,am R),(35,.int .i64 R.length),(36,.int .i64 x.1)]) (λx H nx=>x.1<=R.length/\1<=nx/\H 0=some [.omap ((x.2.2.map kK).map eK) (x.2.2.map λ_=>.bool true)]/\Row H 1 x.2.1 (x.2.2.map aA)/\(∀b,bv x.2.1=some b->1<=b/\b<nx)/\x.2.2.Nodup/\∀s,s∈x.2.2↔s∈P++R.take x.1) (λx=>R.length-x.1) (0,sv,O) ⟨bw _,hnx,g0,hrow,hbd,hnd,by dsimp only;rw[List.take_zero,eH];exact hmem⟩ ag0 ?_;clear g0 hrow hbd hnd hmem hnx o1 o2;rintro⟨j,sv,O⟩ H nx ⟨j1,hnx,g0,hrow,hbd,hnd,hmem⟩;dsimp only at j1 g0 hrow hbd hnd hmem |-;obtain⟨o1,o2⟩:=hrow.one
 have hOl:O.length<=3500:=by
  have:=yY hnd (l₂:=P++R.take j) (λs h=>(hmem s).1 h);rw[cA,eM] at this;rw[cA] at hPl;omega
 by_cases hj:j<R.length
 rotate_left
 ·rw[fI (by omega)] at hmem;have hls:dx sv=some (.int .i64 O.length):=hrow.lenS (by rw[bi,Nat.mul_one]) jq;have z1:decide ((4096:Int)<O.length)=false:=aO (by omega);refine wnY (zI4 @hls @z1 @o1 @o2) ?_;exact⟨(i+1,sv,O),by dsimp only;omega,⟨by dsimp only;omega,hnx,g0,hrow,hbd,hnd,by dsimp only;rw[hft];exact hmem⟩,ag0⟩
 have iy:=dH hj;have hgf:=hcar _ (ay hj)
 have hgO:∀s∈O,ms s:=λs h=>by
  rcases eC.1 ((hmem s).1 h) with h|h
  ·exact hgP s h
  ·exact hcar s (gV h)
 have hkey:=Hv (R.getD j default) hgf.1 hgf.2.1;have hts:R.take (j+1)=R.take j++[R.getD j default]:=bI hj;have hmf:=Gq (kK (R.getD j default)) (O.map kK);have hmk:=I6 hgO hgf;generalize R.getD j default=f at *;by_cases hf:f∈O
 ·rw[if_pos (hmk.2 hf)] at hmf;have hlt2:(O.map kK).idxOf (kK f)<(O.map kK).length:=qa.2 (hmk.2 hf)
  have hgv:mget (.bool false) false (some ((O.map kK).idxOf (kK f))) (O.map λ_=>AV.bool true)=.bool true:=by
   rw[bi] at hlt2;simp[mget,List.getD,hlt2]
  refine wnY (zI3 @iy @o1 @o2) ?_;refine ju ev0 g0 (by((try simp only[bZ,ZA,reduceEqDiff,↓reduceIte,reduceAdd,reduceLeDiff]);(try with_reducible rfl));rfl) (Cb (kK f)) hmf ?_;rw[hgv];refine wnY (aI @o1 @o2) ?_;refine⟨(j+1,sv,O),by dsimp only;omega,⟨by dsimp only;omega,hnx,g0,hrow,hbd,hnd,λs=>?_⟩,ag0⟩;dsimp only;rw[hts,<-il,eC,<-hmem,cW];exact⟨.inl,λh=>h.elim id λe=>by rw[e];exact hf⟩
 ·rw[if_neg (λh=>hf (hmk.1 h))] at hmf;have hgv:mget (.bool false) false none (O.map λ_=>AV.bool true)=.bool false:=rfl;refine wnY (zI3 @iy @o1 @o2) ?_;refine ju ev0 g0 (by((try simp only[bZ,ZA,reduceEqDiff,↓reduceIte,reduceAdd,reduceLeDiff]);(try with_reducible rfl));rfl) (Cb (kK f)) hmf ?_;rw[hgv];refine wnY (aI @o1 @o2) ?_;refine pN ev0 g0 (by((try simp only[bZ,ZA,reduceEqDiff,↓reduceIte,reduceAdd,reduceLeDiff]);(try with_reducible rfl));rfl) ev0 (Cb (kK f)) hmf ?_;refine wnY (zI4 @o1 @o2 @aZ @aJ) ?_;refine eR (hrow.same λb hb=>?_) ?_
  ·have:=hbd b hb;rw[ac (by omega),ac (by omega)]
  rintro s2 H2 nx2 hr2 i1 i2 i3 i4;obtain⟨o3,o4⟩:=hr2.one;refine wnY (aI @o3 @o4) ?_;refine⟨(j+1,s2,O++[f]),by dsimp only;omega,⟨by dsimp only;omega,by omega,?_,?_,λb hb=>?_,?_,λs=>?_⟩,ag0⟩
  ·rw[i3 0 (by omega) (λh=>by have:=hbd 0 h;omega),ac (by omega),ah];simp[cU,gd]
  ·dsimp only;rw[cl];exact hr2
  ·rcases i4 b hb with h|h
   ·have:=hbd b h;omega
   ·omega
  ·exact zE.2 ⟨hnd,by simp,λa ha c hc=>by simp at hc;subst hc;intro e;subst e;exact hf ha⟩
  ·dsimp only;rw[hts,<-il,eC,eC,<-hmem]
theorem lj(c:List Spx)(k:Int)(hc:c.length<=50)(hs:∀s∈c,Shn s):pU 79 [bH c,.int .i64 k] (.tup [am (dr c k).1,.int .i64 (dr c k).2]):=by
 refine pO Nt ?_;simp only[b79,aH];have hcc:=jE c (show _<=_ by omega) hs;unfold dr;by_cases he:az c=0
 rotate_left
 ·rw[if_pos he];have z:decide (az c≠0)=true:=aL he;refine wnY (zI3 @ai @af @z) ?_;exact dV (.eslsl _) rfl
 rw[if_neg (λh=>h he)];rw[he] at hcc;have z0:decide ((0:Int)≠0)=false:=rfl;obtain⟨p1,p2,p3,p4⟩:=dz he;by_cases hk:k<1\/8<k
 ·rw[if_pos hk];have zz:=aI @ai (aI @af @z0);repeat' (first|refine zW ?_|apply a_n|apply a_r|refine zO ?_|refine vY ?_|refine cY ?_ (hp:=hcc) (hs:=by(first|refine aF ?_ rfl|apply aW);(repeat' (first|exact aj|apply bo|apply aX|exact cI _));first|done|fail)|refine bxY ?_|refine gTY ?_|refine gFY ?_|refine cTY ?_|refine cFY ?_|(refine zGY ?_ ?_<;>(intro _hg;try (exfalso;omega)))|refine bS rfl ?_|refine r2Y ?_|fail)
  all_goals first|exact dV (.eslsl _) rfl|(exfalso;omega)
 rw[if_neg hk];obtain⟨n,rfl⟩:∃n:Nat,k=n:=⟨k.toNat,by omega⟩
 rw[cz];have ha:=zY c n hc p2 ⟨by omega,by omega⟩;refine wnY (zI4 @ai @af @ae @z0) ?_;exact dV (bA _).snap rfl
theorem Ay(l:List Spx)(v:Spx)(hl:Shn l)(hs:∀c∈l,Shn c)(hv:Shn v){b:Nat}(hb:b<=l.length)(h1:∀i,i<b->bh (l.getD i default) v<0)(h2:∀i,b<=i->i<l.length->0<=bh (l.getD i default) v):
    pU 132 [am l,aA v,.func 70 []] (.tup [.int .i64 b,.bool (decide (b<l.length)&&decide (bh (l.getD b default) v=0))]):=by
 refine pO Mi ?_;simp only[Mw,aH];have hl':l.length<=17592186044416:=hl;refine wnZ (zI3 @aZ @aJ @ae) ?_;refine jY (X:=Nat×Nat) (λx=>[(0,am l),(1,aA v),(2,.func 70 []),(8,.int .i64 l.length),(9,.int .i64 x.1),(10,.int .i64 x.2)]) (λx=>x.1<=b/\b<=x.2/\x.2<=l.length) (λx=>x.2-x.1) (0,l.length) ⟨bw _,hb,aR _⟩ ag0 ?_;rintro⟨i,j⟩ ⟨g1,g2,g3⟩;dsimp only at g1 g2 g3 |-;by_cases hij:i<j
 ·have hh:(i+j)/2<l.length:=by omega
  have hc:=gR (l.getD ((i+j)/2) default) v (hs _ (ay hh)) hv;have ix:=dH hh;by_cases hn:bh (l.getD ((i+j)/2) default) v<0
  ·have hbb:(i+j)/2<b:=Nat.lt_of_not_le λh=>by have:=h2 _ h hh;omega
   refine wnZ (zI6 @aZ @aJ @ae @gq @B2 @ix) ?_;exact⟨((i+j)/2+1,j),⟨by omega,by omega,by omega⟩,by dsimp only;omega,ag0,rfl,rfl⟩
  ·have hbb:b<=(i+j)/2:=Nat.le_of_not_lt λh=>hn (h1 _ h);refine wnZ (zI6 @aZ @aJ @ae @gq @B2 @ix) ?_;exact⟨(i,(i+j)/2),⟨by omega,by omega,by omega⟩,by dsimp only;omega,ag0,rfl,rfl⟩
 ·have ei:i=b:=by omega
  have ej:j=b:=by omega
  clear hij g1 g2 g3;subst ei;by_cases hlt:i<l.length
  ·have hc:=gR (l.getD i default) v (hs _ (ay hlt)) hv;have ix:=dH hlt;have dlt:decide ((i:Int)<(l.length:Int))=true:=aL (by omega);have dij:decide ((i:Int)<(j:Int))=false:=aO (by omega);refine wnZ (zI6 @aZ @aJ @ae @ix @dlt @dij) ?_;refine bb (ag (.int _ _) (ag (cf ?_) aj));rw[aL hlt,Bool.true_and]
  ·have dlt:decide ((i:Int)<(l.length:Int))=false:=aO (by omega);have dij:decide ((i:Int)<(j:Int))=false:=aO (by omega);refine wnZ (zI5 @aZ @aJ @ae @dlt @dij) ?_;refine bb (ag (.int _ _) (ag (cf ?_) aj));rw[aO hlt,Bool.false_and]
theorem pK(x:List Int)(n:Int)(hx:x.length<=1000000)(hr:∀v∈x,0<=v/\v<n)(ha:∀i,i+1<x.length->x.getD i default<x.getD (i+1) default):pU 114 [aC x,.int .i64 n] (.int .i64 0):=by
 refine pO MB ?_;simp only[Mb,aH];refine wnZ and_self ?_;refine jY (X:=Nat) (λk=>[(0,aC x),(1,.int .i64 n),(7,aC x),(8,.int .i64 x.length),(9,.int .i64 k)]) (λk=>k<=x.length) (λk=>x.length-k) 0 (bw _) ag0 ?_;intro k hk;by_cases hk2:k<x.length
 rotate_left
 ·refine wnZ and_self ?_;exact .int _ _
 have h1:=hr _ (bk hk2);have z1:decide (x.getD k default<0)=false:=aO (by omega);have z2:decide (n<=x.getD k default)=false:=aO (by omega);by_cases hk0:0<k
 rotate_left
 ·have zk:decide (0<(k:Int))=false:=aO (by omega);refine wnZ (zI3 @z1 @z2 @zk) ?_;exact⟨k+1,by omega,by omega,ag0,rfl,rfl⟩
 have zk:decide (0<(k:Int))=true:=aL (by omega);have h2:=ha (k-1) (by omega);rw[show k-1+1=k by omega] at h2
 have iy:eu 1 (aC x) (.int .i64 ((k:Int)-1))=some (.iptr [.int .i64 (x.getD (k-1) default)] 0):=by
  rw[mZ,if_pos ⟨by omega,by omega⟩,show((k:Int)-1).toNat=k-1 by omega]
 have z3:decide (x.getD k default<=x.getD (k-1) default)=false:=aO (by omega);refine wnZ (zI5 @z1 @z2 @zk @iy @z3) ?_;exact⟨k+1,by omega,by omega,ag0,rfl,rfl⟩
def fK(c:Int)(R:List (List Int)):Prop:=0<=c/\c<=4096/\R.length<=4096/\∀r∈R,(∀v∈r,0<=v/\v<c)/\r.length<=4096/\∀i,i+1<r.length->r.getD i default<r.getD (i+1) default
theorem lF(c:Int)(R:List (List Int))(h:fK c R):pU 113 [.agg [.int .i64 c,bm R]] (.int .i64 0):=by
 refine pO M5 ?_;simp only[KQ,aH];obtain⟨h1,h2,h3,h4⟩:=h;have z1:decide (c<0)=false:=aO (by omega);have z2:decide (4096<c)=false:=aO (by omega);have z3:decide ((4096:Int)<R.length)=false:=aO (by omega);refine wnZ (zI3 @z1 @z2 @z3) ?_;refine jY (X:=Nat) (λk=>[(1,.ptr 0 2 0),(21,bm R),(22,.int .i64 R.length),(23,.int .i64 k)]) (λk=>k<=R.length) (λk=>R.length-k) 0 (bw _) (by(iterate 4 refine And.intro rfl ?_);trivial) ?_;intro k hk;by_cases hk2:k<R.length
 rotate_left
 ·refine wnZ and_self ?_;exact .int _ _
 obtain⟨r1,r2,r3⟩:=h4 _ (bk hk2);have hv:=pK (R.getD k default) c (by omega) r1 r3;have z0:decide ((0:Int)≠0)=false:=rfl;refine wnZ @z0 ?_;exact⟨k+1,by omega,by omega,ag0,rfl,rfl⟩
theorem vP(a b:List Int)(ha:a.length<=1000000000000)(hb:b.length<=1000000000000):pU 124 [aC a,aC b] (aC (bL a b)):=by
 refine pO Kr ?_;simp only[LF,aH];refine wnZ and_self ?_;refine xV (k1:=.i64) (k2:=.i64) (n:=0) (m:=(a.length:Int)+b.length) rfl ev0 ev0 (Int.le_refl _) (by omega) (by omega) (by omega) ?_;rw[show((a.length:Int)+b.length).toNat=a.length+b.length by omega];have hz:(bz (AV.agg [AV.int .i64 0]) (a.length+b.length)).length=a.length+b.length:=by simp[bz,AV.cells]
 generalize hN:a.length+b.length=N at *;refine wnZ and_self ?_;refine bN (X:=List Int×List Int×List Int×Nat) (λx=>[(0,aC x.1),(1,aC x.2.1),(5,.msl 0 N 1 0 x.2.2.2)]) (λx H nx=>1<=nx/\x.2.2.1.length=x.2.2.2/\x.2.2.2+x.1.length+x.2.1.length<=N/\x.2.2.1++bL x.1 x.2.1=bL a b/\∃C,H 0=some C/\C.length=N/\C.take x.2.2.2=x.2.2.1.map (AV.int .i64)) (λx=>x.1.length+x.2.1.length) (a,b,[],0) ⟨aR _,rfl,by dsimp only;omega,rfl,_,ah,hz,rfl⟩ (by refine⟨rfl,rfl,?_,trivial⟩;((try simp only[bZ,ZA,reduceEqDiff,↓reduceIte,reduceAdd,reduceLeDiff]);(try with_reducible rfl));rfl) ?_;rintro⟨a',b',D,k⟩ H nx ⟨h1,h2,h3,h4,C,h5,h6,h7⟩;dsimp only at h1 h2 h3 h4 h7 |-;have hDl:(D.map (AV.int .i64)).length=k:=by rw[bi];exact h2
 have hfin:(a'=[]\/b'=[])->D++(a'++b')=bL a b:=λh=>by
  rcases h with rfl|rfl
  ·rw[ia] at h4;exact h4
  ·rw[fH] at h4;rw[eH];exact h4
 by_cases hne:a'=[]\/b'=[]
 ·have h4:=hfin hne;clear hfin
  have y1:decide ((0:Int)<a'.length)=false\/decide ((0:Int)<a'.length)=true/\decide ((0:Int)<b'.length)=false:=by
   rcases hne with rfl|rfl
   ·exact .inl rfl
   ·by_cases h:a'=[]
    ·subst h;exact .inl rfl
    ·exact .inr ⟨aL (by have:=iT.2 h;omega),rfl⟩
  rcases y1 with y1|⟨y1,y2⟩
  ·refine wnY @y1 ?_;refine p8 (b:=0) (N:=N) (len:=k) (n:=a'.length) (new:=a'.map (AV.int .i64)) rfl ev0 h5 h6 h7 hDl ev0 gb iH (by rw[bi]) (by omega) (by omega) (by omega) λC2 c1 c2=>?_;refine wnY and_self ?_;refine p8 (b:=0) (N:=N) (len:=k+a'.length) (n:=b'.length) (new:=b'.map (AV.int .i64)) rfl ev0 ah c1 c2 (by rw[cA,hDl,bi]) ev0 gb iH (by rw[bi]) (by omega) (by omega) (by omega) λC3 c3 c4=>?_;refine wnY and_self ?_;rw[<-h4];exact vN ah c3 (by omega) (by simp only[cA];omega) (by rw[<-pz,c4,cl,cl,il])
  ·refine wnY (aI @y1 @y2) ?_;refine p8 (b:=0) (N:=N) (len:=k) (n:=a'.length) (new:=a'.map (AV.int .i64)) rfl ev0 h5 h6 h7 hDl ev0 gb iH (by rw[bi]) (by omega) (by omega) (by omega) λC2 c1 c2=>?_;refine wnY and_self ?_;refine p8 (b:=0) (N:=N) (len:=k+a'.length) (n:=b'.length) (new:=b'.map (AV.int .i64)) rfl ev0 ah c1 c2 (by rw[cA,hDl,bi]) ev0 gb iH (by rw[bi]) (by omega) (by omega) (by omega) λC3 c3 c4=>?_;refine wnY and_self ?_;rw[<-h4];exact vN ah c3 (by omega) (by simp only[cA];omega) (by rw[<-pz,c4,cl,cl,il])
 have ha0:a'≠[]:=λh=>hne (.inl h);have hb0:b'≠[]:=λh=>hne (.inr h);clear hfin hne;obtain⟨x,a2,rfl⟩:=List.exists_cons_of_ne_nil ha0;obtain⟨y,b2,rfl⟩:=List.exists_cons_of_ne_nil hb0;rw[kr] at h4;have la:(x::a2).length=a2.length+1:=rfl;have lb:(y::b2).length=b2.length+1:=rfl;have i1:=Ii (x:=x) (l:=a2);have i2:=Ii (x:=y) (l:=b2);have s1:=Bm (x:=x) (l:=a2);have s2:=Bm (x:=y) (l:=b2);generalize hA:x::a2=A at *;generalize hB:y::b2=B at *;have y1:decide ((0:Int)<A.length)=true:=aL (by omega);have y2:decide ((0:Int)<B.length)=true:=aL (by omega);by_cases g1:x<y
 ·rw[if_pos g1] at h4;have z1:decide (x<y)=true:=aL g1;refine wnY (zI5 @i1 @i2 @y1 @y2 @z1) ?_;refine p8 (b:=0) (N:=N) (len:=k) (n:=1) (new:=[.int .i64 x]) rfl ev0 (by rw[ac (by omega)];exact h5) h6 h7 hDl ev0 eA rfl rfl (by omega) (by omega) (by omega) λC2 c1 c2=>?_;refine wnY @s1 ?_;exact⟨(a2,B,D++[x],k+1),by dsimp only;omega,⟨by omega,by simp[h2],by dsimp only;omega,by simpa using h4,C2,ah,c1,by rw[c2,cl];rfl⟩,ag0⟩
 rw[if_neg g1] at h4;have z1:decide (x<y)=false:=aO g1;by_cases g2:y<x
 ·rw[if_pos g2] at h4;have z2:decide (y<x)=true:=aL g2;refine wnY (zI6 @i1 @i2 @y1 @y2 @z1 @z2) ?_;refine p8 (b:=0) (N:=N) (len:=k) (n:=1) (new:=[.int .i64 y]) rfl ev0 (by rw[ac (by omega)];exact h5) h6 h7 hDl ev0 eA rfl rfl (by omega) (by omega) (by omega) λC2 c1 c2=>?_;refine wnY @s2 ?_;exact⟨(A,b2,D++[y],k+1),by dsimp only;omega,⟨by omega,by simp[h2],by dsimp only;omega,by simpa using h4,C2,ah,c1,by rw[c2,cl];rfl⟩,ag0⟩
 rw[if_neg g2] at h4;have z2:decide (y<x)=false:=aO g2;refine wnY (zI8 @i1 @i2 @s1 @s2 @y1 @y2 @z1 @z2) ?_;exact⟨(a2,b2,D,k),by dsimp only;omega,⟨by omega,h2,by dsimp only;omega,h4,C,h5,h6,h7⟩,ag0⟩
end
end Go.Proofs.YtekdaafnjdlenaaGreat
