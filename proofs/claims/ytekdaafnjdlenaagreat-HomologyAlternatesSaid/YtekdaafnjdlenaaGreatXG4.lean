/- Contracts of functions and plain laws, for all inputs that the theorems name. -/
import Derived.Test.YtekdaafnjdlenaaGreatXG3

set_option linter.unusedSimpArgs false
set_option linter.unusedVariables false
set_option maxHeartbeats 4000000
namespace Go.Proofs.YtekdaafnjdlenaaGreat
open Go Go.Abs
open Nat (reduceEqDiff reduceAdd reduceLeDiff)
structure Cmp{α:Type}(P:Program)(f:α->AV)(K:α->α->Int)(G:α->Prop)(g:Nat)(caps:List AV):Prop where
 cells:∀x,(f x).cells=[f x]
 one:∀x,(f x).one=true
 dat:∀x,Dat (f x)
 dcaps:∀x∈caps,Dat x
 run:∀x y,G x->G y->Go.Abs.Pure P g (f x::f y::caps) (.int .i64 (K x y))
 ord:Ord K
theorem iT{α:Type}{f:α->AV}{l:List α}{k:Nat}{x:α}(h:k<l.length):bB (l.map f) k [f x]=(l.set k x).map f:=by
 simp only[bB,List.map_set,bL,eW,cE];rw[I1,if_pos (by simpa using h)];simp
theorem a7(H:Hp)(b:Nat)(x y:List AV):ao (ao H b x) b y=ao H b y:=by
 funext i;unfold ao;split<;>rfl
theorem ka{H:Hp}{b:Nat}{cs:List AV}(h:H b=some cs):H=ao H b cs:=by
 funext i
 by_cases e:i=b
 ·subst e;rw[ae,h]
 ·rw[ab e]
def gQ{α:Type}[Inhabited α](K:α->α->Int)(a i j:Nat)(M:List α):Prop:=∀p q,a<=p->p<q->q<=i->q≠j->¬K (M.getD q default) (M.getD p default)<0
section
variable{α:Type}[Inhabited α]{f:α->AV}{K:α->α->Int}{G:α->Prop}{g:Nat}{caps:List AV}
theorem gQ.start{a i:Nat}{M:List α}(h:br K a i M):gQ K a i i M:=λp q h1 h2 h3 h4=>h p q h1 h2 (by omega)
theorem gQ.done{a i j:Nat}{M:List α}(hK:Ord K)(h:gQ K a i j M)(hj:j=a\/(a<j/\¬K (M.getD j default) (M.getD (j-1) default)<0)):br K a (i+1) M:=by
 intro p q h1 h2 h3;by_cases e:q=j
 ·subst e;rcases hj with hj|⟨hj,hk⟩
  ·omega
  ·by_cases e2:p=q-1
   ·rw[e2];exact hk
   ·exact hK.negtr _ _ _ (h p (q-1) h1 (by omega) (by omega) (by omega)) hk
 ·exact h p q h1 h2 (by omega) e
theorem gQ.step{a i j:Nat}{M:List α}(hK:Ord K)(h:gQ K a i (j+1) M)(haj:a<=j)(hji:j+1<=i)(hi:i<M.length)(hk:K (M.getD (j+1) default) (M.getD j default)<0):gQ K a i j (swp M (j+1) j):=by
 intro p q h1 h2 h3 h4;rw[fR (by omega) (by omega),fR (by omega) (by omega)];rw[if_neg h4];by_cases e1:q=j+1
 ·rw[if_pos e1];by_cases e2:p=j
  ·rw[if_pos e2];exact hK.asym _ _ hk
  ·rw[if_neg e2,if_neg (by omega)];exact h p j h1 (by omega) (by omega) (by omega)
 ·rw[if_neg e1];by_cases e2:p=j
  ·rw[if_pos e2];exact h (j+1) q (by omega) (by omega) h3 e1
  ·rw[if_neg e2];by_cases e3:p=j+1
   ·rw[if_pos e3];exact h j q (by omega) (by omega) h3 e1
   ·rw[if_neg e3];exact h p q h1 h2 h3 e1
theorem br.mono{a b a' b':Nat}{M:List α}(h:br K a b M)(h1:a<=a')(h2:b'<=b):br K a' b' M:=λp q k1 k2 k3=>h p q (by omega) k2 (by omega)
theorem PermR.mem{a b:Nat}{L M:List α}(h:PermR a b L M)(hG:∀x∈L,G x):∀x∈M,G x:=λx hx=>hG x (h.perm.mem_iff.1 hx)
attribute [local irreducible] aM am bn aZ aS aV aD aX ba bw Go.Abs.Fn aY Go.Abs.Pure aq aO Yl
theorem Ox(hc:Cmp Tryz.prog f K G g caps){L:List α}{H:Hp}{b nx n a e:Nat}(hH:H b=some (L.map f))(hn:L.length=n)(hG:∀x∈L,G x)(hae:a<=e)(hen:e<=n)(hn2:n<=1000000000):
    Abs.Fn Tryz.prog 166 [.msl b n 1 0 n,.int .i64 a,.int .i64 e,.func g caps] H nx λr H' nx'=>nx'=nx/\∃L',H'=ao H b (L'.map f)/\PermR a e L L'/\br K a e L':=by
 refine fO KF ?_;simp only[Lb,aK];refine wnZ and_self ?_;refine ca (X:=Nat×List α) (λx=>[(0,.msl b n 1 0 n),(1,.int .i64 a),(2,.int .i64 e),(3,.func g caps),(8,.int .i64 (x.1:Nat))]) (λx H' nx'=>a+1<=x.1/\(x.1<=e\/x.1=a+1)/\H'=ao H b (x.2.map f)/\nx'=nx/\PermR a e L x.2/\br K a x.1 x.2) (λx=>e+1-x.1) (a+1,L) ⟨aJ _,.inr rfl,ka hH,rfl,.refl,br.one (aJ _)⟩ ag0 ?_;rintro⟨i,M0⟩ H' nx' ⟨h1,h2,rfl,rfl,hp0,hs0⟩;dsimp only at *;have hl0:M0.length=n:=by rw[hp0.len,hn]
 by_cases hi:i<e
 rotate_left
 ·refine wnZ and_self ?_;exact⟨rfl,M0,rfl,hp0,hs0.mono (aJ _) (by omega)⟩
 refine wnZ and_self ?_;refine ca (X:=Nat×List α) (λx=>[(0,.msl b n 1 0 n),(1,.int .i64 a),(2,.int .i64 e),(3,.func g caps),(8,.int .i64 (i:Nat)),(9,.int .i64 (x.1:Nat))]) (λx H' nxx=>a<=x.1/\x.1<=i/\H'=ao H b (x.2.map f)/\nxx=nx'/\PermR a e L x.2/\gQ K a i x.1 x.2) (λx=>x.1) (i,M0) ⟨by omega,aJ _,rfl,rfl,hp0,.start hs0⟩ ag0 ?_;clear hp0 hs0 hl0;rintro⟨j,M⟩ H' nxx ⟨a1,a2,rfl,rfl,hp,hal⟩;dsimp only at *;have hl:M.length=n:=by rw[hp.len,hn]
 have hGM:=hp.mem hG;by_cases hja:j=a
 ·subst hja;refine wkZ and_self ?_;exact⟨(i+1,M),by dsimp only;omega,⟨by dsimp only;omega,.inl (by dsimp only;omega),rfl,rfl,hp,hal.done hc.ord (.inl rfl)⟩,ag0⟩
 ·obtain⟨k,rfl⟩:∃k,j=k+1:=⟨j-1,by omega⟩
  have tj:((k+1:Nat):Int)-1=(k:Int):=by omega
  have lc:=hc.run (M.getD (k+1) default) (M.getD k default) (hGM _ (bg (by omega))) (hGM _ (bg (by omega)));have d1:=hc.dat (M.getD (k+1) default);have d2:=hc.dat (M.getD k default);have dcap:=hc.dcaps;generalize hKK:K (M.getD (k+1) default) (M.getD k default)=kk at lc;by_cases hlt:kk<0
  ·obtain⟨M1,hl1,lm1,lm2⟩:∃M1:List α,M1.length=n/\bB (M.map f) (k+1) [f (M.getD k default)]=M1.map f/\bB (M1.map f) k [f (M.getD (k+1) default)]=(swp M (k+1) k).map f:=
     ⟨M.set (k+1) (M.getD k default),by simp[hl],iT (by omega),by rw[iT (by simp;omega)];rfl⟩
   have lm3:=lm2;simp only[bB,bL,eW,cE] at lm1 lm2;have zz:=aI @tj (aI @cC (aI @lm1 (aI @lm2 (aI hc.cells hc.one))));repeat' (first|refine zW ?_|refine zM ?_|apply a_n|refine zO ?_|refine vZ ?_|refine cZ ?_ (hp:=lc) (hs:=by(first|refine aB ?_ rfl|apply aL);(repeat' (first|exact aj|apply bk|apply aN|exact d1|exact d2|exact bq dcap));first|done|fail)|refine stZ ?_|refine gTZ ?_|(refine zGZ ?_ ?_<;>(intro _hg;try (exfalso;omega)))|fail)
   refine⟨(k,swp M (k+1) k),by dsimp only;omega,⟨by dsimp only;omega,by dsimp only;omega,?_,rfl,hp.trans (PermR.swap (by omega) (by omega) (by omega)),hal.step hc.ord (by omega) (by omega) (by omega) (by rw[hKK];exact hlt)⟩,(have zz:=@tj;agZ)⟩;dsimp only;rw[a7,a7,lm3]
  ·have zz:=aI @tj (aI @cC (aI hc.cells hc.one));repeat' (first|refine zW ?_|refine zM ?_|apply a_n|apply a_x|refine zO ?_|refine vZ ?_|refine cZ ?_ (hp:=lc) (hs:=by(first|refine aB ?_ rfl|apply aL);(repeat' (first|exact aj|apply bk|apply aN|exact d1|exact d2|exact bq dcap));first|done|fail)|refine gTZ ?_|(refine zGZ ?_ ?_<;>(intro _hg;try (exfalso;omega)))|fail)
   exact⟨(i+1,M),by dsimp only;omega,⟨by dsimp only;omega,.inl (by dsimp only;omega),rfl,rfl,hp,hal.done hc.ord (.inr ⟨by omega,by rw[rM,hKK];exact hlt⟩)⟩,ag0⟩
end
def Kid(p c:Nat):Prop:=c=2*p+1\/c=2*p+2
def jO{α:Type}[Inhabited α](K:α->α->Int)(a hi r:Nat)(M:List α):Prop:=∀p c,r<=p->Kid p c->c<hi->¬K (M.getD (a+p) default) (M.getD (a+c) default)<0
structure SiftR{α:Type}[Inhabited α](K:α->α->Int)(a hi lo root:Nat)(M:List α):Prop where
 le:lo<=root
 heap:∀p c,lo<=p->p≠root->Kid p c->c<hi->¬K (M.getD (a+p) default) (M.getD (a+c) default)<0
 up:∀q c,lo<=q->Kid q root->Kid root c->c<hi->¬K (M.getD (a+q) default) (M.getD (a+c) default)<0
section
variable{α:Type}[Inhabited α]{f:α->AV}{K:α->α->Int}{G:α->Prop}{g:Nat}{caps:List AV}
theorem SiftR.start{a hi lo:Nat}{M:List α}(h:jO K a hi (lo+1) M):SiftR K a hi lo lo M:=
 ⟨aJ _,λp c h1 h2=>h p c (by omega),λq c h1 h2=>by unfold Kid at h2;omega⟩
theorem SiftR.leaf{a hi lo root:Nat}{M:List α}(h:SiftR K a hi lo root M)(hr:hi<=2*root+1):jO K a hi lo M:=λp c h1 h2 h3=>by
 by_cases e:p=root
 ·subst e;unfold Kid at h2;omega
 ·exact h.heap p c h1 e h2 h3
theorem SiftR.stop{a hi lo root c:Nat}{M:List α}(hK:Ord K)(h:SiftR K a hi lo root M)(hb:∀d,Kid root d->d<hi->¬K (M.getD (a+c) default) (M.getD (a+d) default)<0)(hn:¬K (M.getD (a+root) default) (M.getD (a+c) default)<0):jO K a hi lo M:=λp d h1 h2 h3=>by
 by_cases e:p=root
 ·subst e;exact hK.negtr _ _ _ (hb d h2 h3) hn
 ·exact h.heap p d h1 e h2 h3
theorem SiftR.step{a hi lo root c:Nat}{M:List α}(hK:Ord K)(h:SiftR K a hi lo root M)(hkid:Kid root c)(hc:c<hi)(hM:a+hi<=M.length)(hb:∀d,Kid root d->d<hi->¬K (M.getD (a+c) default) (M.getD (a+d) default)<0)(hn:K (M.getD (a+root) default) (M.getD (a+c) default)<0):SiftR K a hi lo c (swp M (a+root) (a+c)):=by
 have hrc:root<c:=by unfold Kid at hkid;omega
 have hg:∀k,(swp M (a+root) (a+c)).getD (a+k) default=if k=c then M.getD (a+root) default else if k=root then M.getD (a+c) default else M.getD (a+k) default:=λk=>by
  rw[fR (by omega) (by omega)];by_cases e:k=c
  ·rw[if_pos (by omega),if_pos e]
  ·rw[if_neg (by omega),if_neg e];by_cases e2:k=root
   ·rw[if_pos (by omega),if_pos e2]
   ·rw[if_neg (by omega),if_neg e2]
 refine⟨by have:=h.le;omega,λp d h1 h2 h3 h4=>?_,λq d h1 h2 h3 h4=>?_⟩
 ·rw[hg,hg,if_neg h2];by_cases e1:p=root
  ·rw[if_pos e1];subst e1;by_cases e2:d=c
   ·rw[if_pos e2];exact hK.asym _ _ hn
   ·rw[if_neg e2,if_neg (by unfold Kid at h3;omega)];exact hb d h3 h4
  ·rw[if_neg e1];have hdc:d≠c:=λe=>by subst e;unfold Kid at h3 hkid;omega
   rw[if_neg hdc];by_cases e2:d=root
   ·rw[if_pos e2];subst e2;exact h.up p c h1 h3 hkid hc
   ·rw[if_neg e2];exact h.heap p d h1 e1 h3 h4
 ·have eq:q=root:=by unfold Kid at h2 hkid;omega
  subst eq;rw[hg,hg,if_neg (by omega),if_pos rfl,if_neg (by unfold Kid at h3;omega),if_neg (by unfold Kid at h3;omega)];exact h.heap c d (by omega) (by omega) h3 h4
theorem eJ{M:List α}{i j:Nat}(hi:i<M.length)(hj:j<M.length):∃M1:List α,M1.length=M.length/\bB (M.map f) i [f (M.getD j default)]=M1.map f/\bB (M1.map f) j [f (M.getD i default)]=(swp M i j).map f:=
 ⟨M.set i (M.getD j default),by simp,iT hi,by rw[iT (by simpa using hj)];rfl⟩
theorem i9{a c:Nat}:((a:Int)+(c:Int)).toNat=a+c:=by omega
theorem sn{a c:Nat}:((a:Int)+(c:Int)+1).toNat=a+(c+1):=by omega
attribute [local irreducible] aM am bn aZ aS aV aD aX ba bw Go.Abs.Fn aY Go.Abs.Pure aq aO Yl
theorem IZ(hc:Cmp Tryz.prog f K G g caps){L:List α}{H:Hp}{b nx n a lo hi:Nat}(hH:H b=some (L.map f))(hn:L.length=n)(hG:∀x∈L,G x)(hhi:a+hi<=n)(hn2:n<=1000000000)(hlo:lo<=n)(hheap:jO K a hi (lo+1) L):
    Abs.Fn Tryz.prog 197 [.msl b n 1 0 n,.int .i64 lo,.int .i64 hi,.int .i64 a,.func g caps] H nx λr H' nx'=>nx'=nx/\∃L',H'=ao H b (L'.map f)/\PermR a (a+hi) L L'/\jO K a hi lo L':=by
 refine fO Nq ?_;simp only[MW,aK];refine wnZ and_self ?_;refine ca (X:=Nat×List α) (λx=>[(0,.msl b n 1 0 n),(2,.int .i64 hi),(3,.int .i64 a),(4,.func g caps),(10,.int .i64 (x.1:Nat))]) (λx H' nx'=>x.1<=n/\H'=ao H b (x.2.map f)/\nx'=nx/\PermR a (a+hi) L x.2/\SiftR K a hi lo x.1 x.2) (λx=>n+1-x.1) (lo,L) ⟨hlo,ka hH,rfl,.refl,.start hheap⟩ ag0 ?_;rintro⟨root,M⟩ H' nx' ⟨h0,rfl,rfl,hp,hs⟩;dsimp only at *;have hl:M.length=n:=by rw[hp.len,hn]
 have hGM:=hp.mem hG;by_cases hch:2*root+1<hi
 rotate_left
 ·refine wnZ and_self ?_;exact⟨rfl,M,rfl,hp,hs.leaf (by omega)⟩
 have dcap:=hc.dcaps;have tch:(2:Int)*(root:Int)+1=((2*root+1:Nat):Int):=by omega
 have tch2:((2*root+1:Nat):Int)+1=((2*root+1+1:Nat):Int):=by omega
 have w1:IntKind.wrap .i64 (2*(root:Int))=2*(root:Int):=y9 (by omega) (by omega)
 obtain⟨c,hkid,hchi,hbest,hsel⟩:∃c,Kid root c/\c<hi/\(∀d,Kid root d->d<hi->¬K (M.getD (a+c) default) (M.getD (a+d) default)<0)/\((c=2*root+1+1/\K (M.getD (a+(2*root+1)) default) (M.getD (a+(2*root+1+1)) default)<0)\/(c=2*root+1/\(2*root+1+1<hi->¬K (M.getD (a+(2*root+1)) default) (M.getD (a+(2*root+1+1)) default)<0))):=by
  by_cases h2:2*root+1+1<hi/\K (M.getD (a+(2*root+1)) default) (M.getD (a+(2*root+1+1)) default)<0
  ·refine⟨2*root+1+1,.inr rfl,h2.1,λd hd hd2=>?_,.inl ⟨rfl,h2.2⟩⟩;rcases hd with rfl|rfl
   ·exact hc.ord.asym _ _ h2.2
   ·exact hc.ord.irr _
  ·refine⟨2*root+1,.inl rfl,hch,λd hd hd2=>?_,.inr ⟨rfl,λh h3=>h2 ⟨h,h3⟩⟩⟩;rcases hd with rfl|rfl
   ·exact hc.ord.irr _
   ·exact λh3=>h2 ⟨hd2,h3⟩
 have lc2:=hc.run (M.getD (a+root) default) (M.getD (a+c) default) (hGM _ (bg (by omega))) (hGM _ (bg (by omega)));have e1:=hc.dat (M.getD (a+root) default);have e2:=hc.dat (M.getD (a+c) default);generalize hK2:K (M.getD (a+root) default) (M.getD (a+c) default)=k2 at lc2;refine mI ?_;refine cR (λT H'' nx''=>T 0=.msl b n 1 0 n/\T 2=.int .i64 hi/\T 3=.int .i64 a/\T 4=.func g caps/\T 10=.int .i64 (root:Nat)/\T 11=.int .i64 ((2*root+1:Nat):Int)/\H''=ao H b (M.map f)/\nx'=nx'') ?_ ?_
 ·refine wnZ (aI @w1 @tch) ?_;exact⟨rfl,rfl,rfl,rfl,rfl,rfl,rfl,rfl⟩
 rintro T _ _ ⟨t0,t2,t3,t4,t10,t11,rfl,rfl⟩;refine cR (λT H'' nx''=>T 0=.msl b n 1 0 n/\T 2=.int .i64 hi/\T 3=.int .i64 a/\T 4=.func g caps/\T 10=.int .i64 (root:Nat)/\T 11=.int .i64 ((2*root+1:Nat):Int)/\H''=ao H b (M.map f)/\nx'=nx'') ?_ ?_
 ·refine wnZ (zI6 @t0 @t2 @t3 @t4 @t10 @t11) ?_
  all_goals exact⟨(have zz:=@t0;evZ),(have zz:=@t2;evZ),(have zz:=@t3;evZ),(have zz:=@t4;evZ),(have zz:=@t10;evZ),(have zz:=@t11;evZ),rfl,rfl⟩
 clear t0 t2 t3 t4 t10 t11;rintro T _ _ ⟨t0,t2,t3,t4,t10,t11,rfl,rfl⟩;refine cR (λT H'' nx''=>T 0=.msl b n 1 0 n/\T 2=.int .i64 hi/\T 3=.int .i64 a/\T 4=.func g caps/\T 10=.int .i64 (root:Nat)/\T 11=.int .i64 (c:Nat)/\H''=ao H b (M.map f)/\nx'=nx'') ?_ ?_
 ·by_cases h2:2*root+1+1<hi
  ·have lc1:=hc.run (M.getD (a+(2*root+1)) default) (M.getD (a+(2*root+1+1)) default) (hGM _ (bg (by omega))) (hGM _ (bg (by omega)));have e3:=hc.dat (M.getD (a+(2*root+1)) default);have e4:=hc.dat (M.getD (a+(2*root+1+1)) default);generalize hK1:K (M.getD (a+(2*root+1)) default) (M.getD (a+(2*root+1+1)) default)=k1 at lc1 hsel;have hlt:decide (((2*root+1+1:Nat):Int)<(hi:Int))=true:=bd (by omega);generalize 2*root+1=ch at *;rcases hsel with⟨rfl,hk1⟩|⟨rfl,hk1⟩
   ·have zz:=aI @t0 (aI @t2 (aI @t3 (aI @t4 (aI @t10 (aI @t11 (aI @tch2 (aI @hlt (aI @i9 (aI @sn (aI hc.cells hc.one))))))))));repeat' (first|refine zW ?_|refine zM ?_|apply a_n|refine zO ?_|refine vZ ?_|refine cZ ?_ (hp:=lc1) (hs:=by(first|refine aB ?_ rfl|apply aL);(repeat' (first|exact aj|apply bk|apply aN|exact e3|exact e4|exact bq dcap));first|done|fail)|refine gTZ ?_|(refine zGZ ?_ ?_<;>(intro _hg;try (exfalso;omega)))|fail)
    all_goals exact⟨(have zz:=@t0;evZ),(have zz:=@t2;evZ),(have zz:=@t3;evZ),(have zz:=@t4;evZ),(have zz:=@t10;evZ),(have zz:=@t11;evZ),rfl,rfl⟩
   ·have hk1:=hk1 h2;have zz:=aI @t0 (aI @t2 (aI @t3 (aI @t4 (aI @t10 (aI @t11 (aI @tch2 (aI @hlt (aI @i9 (aI @sn (aI hc.cells hc.one))))))))));repeat' (first|refine zW ?_|refine zM ?_|apply a_n|refine zO ?_|refine vZ ?_|refine cZ ?_ (hp:=lc1) (hs:=by(first|refine aB ?_ rfl|apply aL);(repeat' (first|exact aj|apply bk|apply aN|exact e3|exact e4|exact bq dcap));first|done|fail)|refine gTZ ?_|(refine zGZ ?_ ?_<;>(intro _hg;try (exfalso;omega)))|fail)
    all_goals exact⟨(have zz:=@t0;evZ),(have zz:=@t2;evZ),(have zz:=@t3;evZ),(have zz:=@t4;evZ),(have zz:=@t10;evZ),(have zz:=@t11;evZ),rfl,rfl⟩
  ·have hlt:decide (((2*root+1+1:Nat):Int)<(hi:Int))=false:=bh (by omega)
   have hcc:c=2*root+1:=by
    rcases hsel with⟨rfl,_⟩|⟨rfl,_⟩
    ·omega
    ·rfl
   subst hcc;refine wkZ (zI8 @t0 @t2 @t3 @t4 @t10 @t11 @tch2 @hlt) ?_
   all_goals exact⟨(have zz:=@t0;evZ),(have zz:=@t2;evZ),(have zz:=@t3;evZ),(have zz:=@t4;evZ),(have zz:=@t10;evZ),(have zz:=@t11;evZ),rfl,rfl⟩
 clear t0 t2 t3 t4 t10 t11 hsel;rintro T _ _ ⟨t0,t2,t3,t4,t10,t11,rfl,rfl⟩;by_cases hk2:k2<0
 ·obtain⟨M1,hl1,lm1,lm2⟩:=eJ (f:=f) (M:=M) (i:=a+root) (j:=a+c) (by omega) (by omega);have lm3:=lm2;simp only[bB,bL,eW,cE] at lm1 lm2;have zz:=aI @t0 (aI @t2 (aI @t3 (aI @t4 (aI @t10 (aI @t11 (aI @i9 (aI @lm1 (aI @lm2 (aI hc.cells hc.one)))))))));repeat' (first|refine zW ?_|refine zM ?_|apply a_n|refine zO ?_|refine vZ ?_|refine cZ ?_ (hp:=lc2) (hs:=by(first|refine aB ?_ rfl|apply aL);(repeat' (first|exact aj|apply bk|apply aN|exact e1|exact e2|exact bq dcap));first|done|fail)|refine stZ ?_|(refine zGZ ?_ ?_<;>(intro _hg;try (exfalso;omega)))|fail)
  have hrc:root<c:=by unfold Kid at hkid;omega
  have hcn:c<n:=by omega
  refine⟨(c,swp M (a+root) (a+c)),by dsimp only;omega,⟨by dsimp only;omega,?_,rfl,hp.trans (PermR.swap (by omega) (by omega) (by omega)),hs.step hc.ord hkid hchi (by omega) hbest (by rw[hK2];exact hk2)⟩,(have zz:=aI @t0 (aI @t2 (aI @t3 @t4));agZ)⟩;dsimp only;rw[a7,a7,lm3]
 ·have zz:=aI @t0 (aI @t2 (aI @t3 (aI @t4 (aI @t10 (aI @t11 (aI @i9 (aI hc.cells hc.one)))))));repeat' (first|refine zW ?_|refine zM ?_|apply a_n|apply a_r|refine zO ?_|refine vZ ?_|refine cZ ?_ (hp:=lc2) (hs:=by(first|refine aB ?_ rfl|apply aL);(repeat' (first|exact aj|apply bk|apply aN|exact e1|exact e2|exact bq dcap));first|done|fail)|(refine zGZ ?_ ?_<;>(intro _hg;try (exfalso;omega)))|refine bC rfl ?_|fail)
  exact⟨rfl,M,rfl,hp,hs.stop hc.ord hbest (by rw[hK2];exact hk2)⟩
end
section
variable{α:Type}[Inhabited α]{f:α->AV}{K:α->α->Int}{G:α->Prop}{g:Nat}{caps:List AV}
theorem jO.top{a hi:Nat}{M:List α}(hK:Ord K)(h:jO K a hi 0 M):∀p,p<hi->¬K (M.getD a default) (M.getD (a+p) default)<0:=by
 intro p
 induction p using Nat.strongRecOn with
 |ind p ih=>
  intro hp;by_cases e:p=0
  ·subst e;exact hK.irr _
  ·have k:Kid ((p-1)/2) p:=by unfold Kid;omega
   exact hK.negtr _ _ _ (h _ p (bW _) k hp) (ih ((p-1)/2) (by omega) (by omega))
structure TailR{α:Type}[Inhabited α](K:α->α->Int)(a e k:Nat)(M:List α):Prop where
 sort:br K k e M
 ge:∀p q,a<=p->p<k->k<=q->q<e->¬K (M.getD q default) (M.getD p default)<0
theorem TailR.step{a e k:Nat}{M N:List α}(hK:Ord K)(ht:TailR K a e (a+(k+1)) M)(hh:jO K a (k+1) 0 M)(he:a+(k+1)<=e)(hM:e<=M.length)(hp:PermR a (a+k) (swp M a (a+k)) N):TailR K a e (a+k) N:=by
 have hg:∀j,(swp M a (a+k)).getD j default=if j=a+k then M.getD a default else if j=a then M.getD (a+k) default else M.getD j default:=λj=>fR (by omega) (by omega) j
 have hmax:=hh.top hK
 have lo:∀q,a+k<=q->q<e->∀p,a<=p->p<a+k->¬K (N.getD q default) (N.getD p default)<0:=by
  intro q h1 h2;rw[hp.out q (.inr h1),hg];have hl:(swp M a (a+k)).length=M.length:=D9 _ _;refine hp.all (p:=λx=>¬K (if q=a+k then M.getD a default else if q=a then M.getD (a+k) default else M.getD q default) x<0) (by omega) (by omega) ?_;intro p k1 k2;rw[hg,if_neg (by omega:¬p=a+k)];by_cases e1:q=a+k
  ·rw[if_pos e1];by_cases e2:p=a
   ·rw[if_pos e2];exact hmax k (by omega)
   ·rw[if_neg e2];have:=hmax (p-a) (by omega);rw[show a+(p-a)=p by omega] at this;exact this
  ·rw[if_neg e1,if_neg (by omega:¬q=a)];by_cases e2:p=a
   ·rw[if_pos e2];exact ht.ge (a+k) q (by omega) (by omega) (by omega) h2
   ·rw[if_neg e2];exact ht.ge p q k1 (by omega) (by omega) h2
 refine⟨λp q h1 h2 h3=>?_,λp q h1 h2 h3 h4=>lo q h3 h4 p h1 h2⟩;rw[hp.out p (.inr h1),hp.out q (.inr (by omega)),hg,hg,if_neg (by omega:¬q=a+k),if_neg (by omega:¬q=a)];by_cases e1:p=a+k
 ·rw[if_pos e1];exact ht.ge a q (aJ _) (by omega) (by omega) h3
 ·rw[if_neg e1,if_neg (by omega:¬p=a)];exact ht.sort p q (by omega) h2 h3
theorem jO.swapTop{a k:Nat}{M:List α}(h:jO K a (k+1) 0 M)(hM:a+(k+1)<=M.length):jO K a k 1 (swp M a (a+k)):=by
 intro p c h1 h2 h3;have hg:∀j,(swp M a (a+k)).getD j default=if j=a+k then M.getD a default else if j=a then M.getD (a+k) default else M.getD j default:=λj=>fR (by omega) (by omega) j
 have:p<c:=by unfold Kid at h2;omega
 rw[hg,hg,if_neg (by omega),if_neg (by omega),if_neg (by omega),if_neg (by omega)];exact h p c (bW _) h2 (by omega)
theorem TailR.start{a e:Nat}{M:List α}:TailR K a e e M:=⟨λp q h1 h2 h3=>by omega,λp q h1 h2 h3 h4=>by omega⟩
theorem TailR.done{a e:Nat}{M:List α}(h:TailR K a e a M):br K a e M:=h.sort
theorem jO.start{a hi r:Nat}{M:List α}(hr:hi<=2*r+1):jO K a hi r M:=λp c h1 h2 h3=>by unfold Kid at h2;omega
attribute [local irreducible] aM am bn aZ aS aV aD aX ba bw Go.Abs.Fn aY Go.Abs.Pure aq aO Yl
theorem Lx(hc:Cmp Tryz.prog f K G g caps){L:List α}{H:Hp}{b nx n a e:Nat}(hH:H b=some (L.map f))(hn:L.length=n)(hG:∀x∈L,G x)(hae:a<=e)(hen:e<=n)(hn2:n<=1000000000):
    Abs.Fn Tryz.prog 167 [.msl b n 1 0 n,.int .i64 a,.int .i64 e,.func g caps] H nx λr H' nx'=>nx'=nx/\∃L',H'=ao H b (L'.map f)/\PermR a e L L'/\br K a e L':=by
 obtain⟨h,rfl⟩:∃h,e=a+h:=⟨e-a,by omega⟩
 refine fO N5 ?_;simp only[MS,aK];have dcap:=hc.dcaps;have te:((a+h:Nat):Int)-(a:Int)=(h:Int):=by omega
 obtain⟨r,tr,hr,hrn⟩:∃r:Nat,bE .quo false false (.int .i64 ((h:Int)-1)) (.int .i64 2)=some (.int .i64 (r:Int))/\h<=2*(r+1)+1/\r<=h:=by
  rcases Dm h with e|e
  ·subst e;exact⟨0,rfl,by omega,by omega⟩
  ·refine⟨(h-1)/2,?_,by omega,by omega⟩;rw[qw (by omega) (by omega) (by omega)]
   congr 2
   omega
 refine wnZ (aI @te @tr) ?_;refine ca (X:=Nat×List α) (λx=>[(0,.msl b n 1 0 n),(1,.int .i64 a),(3,.func g caps),(8,.int .i64 a),(9,.int .i64 0),(10,.int .i64 h),(11,.int .i64 ((x.1:Nat)-1))]) (λx H' nxx=>x.1<=n+1/\H'=ao H b (x.2.map f)/\nx=nxx/\PermR a (a+h) L x.2/\jO K a h x.1 x.2) (λx=>x.1) (r+1,L) ⟨by dsimp only;omega,ka hH,rfl,.refl,jO.start (by dsimp only;omega)⟩ (by simp (disch:=omega) only[agr,ZG,reduceEqDiff,↓reduceIte,Int.add_sub_cancel]) ?_;rintro⟨i,M⟩ H' nxx ⟨h1,rfl,rfl,hp,hh⟩;dsimp only at *;have hl:M.length=n:=by rw[hp.len,hn]
 have hGM:=hp.mem hG;rcases Dm i with e|e
 ·subst e;refine wnZ and_self ?_;clear hGM;refine ca (X:=Nat×List α) (λx=>[(0,.msl b n 1 0 n),(3,.func g caps),(8,.int .i64 a),(9,.int .i64 0),(12,.int .i64 ((x.1:Nat)-1))]) (λx H' nxx'=>x.1<=h/\H'=ao H b (x.2.map f)/\nx=nxx'/\PermR a (a+h) L x.2/\jO K a x.1 0 x.2/\TailR K a (a+h) (a+x.1) x.2) (λx=>x.1) (h,M) ⟨aJ _,rfl,rfl,hp,hh,.start⟩ (by simp (disch:=omega) only[agr,ZG,reduceEqDiff,↓reduceIte,Int.add_sub_cancel]) ?_;clear hp hh hl;rintro⟨i,M⟩ H' nxx ⟨h1,rfl,rfl,hp,hh,ht⟩;dsimp only at *;have hl:M.length=n:=by rw[hp.len,hn]
  have hGM:=hp.mem hG;rcases Dm i with e|e
  ·subst e;refine wnZ and_self ?_;exact⟨rfl,M,rfl,hp,ht.done⟩
  ·obtain⟨k,rfl⟩:∃k,i=k+1:=⟨i-1,by omega⟩
   have tj:((k+1:Nat):Int)-1=(k:Int):=by omega
   obtain⟨M1,hl1,lm1,lm2⟩:=eJ (f:=f) (M:=M) (i:=a) (j:=a+k) (by omega) (by omega);have lm3:=lm2;simp only[bB,bL,eW,cE] at lm1 lm2;have hp1:PermR a (a+h) L (swp M a (a+k)):=hp.trans (PermR.swap (by omega) (by omega) (by omega));have hsl:(swp M a (a+k)).length=n:=by rw[hp1.len,hn]
   refine wnZ (zI6 @tj @i9 @lm1 @lm2 hc.cells hc.one) ?_;refine aU ev0 (have zz:=aI @tj @Int.natCast_zero;evZ) (IZ hc (b:=b) (L:=swp M a (a+k)) (a:=a) (lo:=0) (hi:=k) (by rw[a7,a7,ae,<-lm3]) hsl (hp1.mem hG) (by omega) (by omega) (by omega) (hh.swapTop (by omega))) ?_;rintro _ _ _ ⟨rfl,N,rfl,hpN,hhN⟩;refine wnZ @tj ?_;exact⟨(k,N),by dsimp only;omega,⟨by dsimp only;omega,by dsimp only;rw[a7,a7,a7],rfl,hp1.trans (hpN.mono (aJ _) (by omega)),hhN,ht.step hc.ord hh (by omega) (by omega) hpN⟩,ag0⟩
 ·obtain⟨k,rfl⟩:∃k,i=k+1:=⟨i-1,by omega⟩
  have tj:((k+1:Nat):Int)-1=(k:Int):=by omega
  refine wnZ @tj ?_;refine aU ev0 ev0 (IZ hc (L:=M) (a:=a) (lo:=k) (hi:=h) ae hl hGM (by omega) (by omega) (by omega) hh) ?_;rintro _ _ _ ⟨rfl,N,rfl,hpN,hhN⟩;refine wnZ @tj ?_;exact⟨(k,N),by dsimp only;omega,⟨by dsimp only;omega,by dsimp only;rw[a7],rfl,hp.trans hpN,hhN⟩,ag0⟩
end
section
variable{α:Type}[Inhabited α]{f:α->AV}{K:α->α->Int}{G:α->Prop}{g:Nat}{caps:List AV}
def MV:AV->Option AV
 |.ptr b n o=>some (.ptr b n o)
 |.iptr c o=>some (.iptr c o)
 |.func f c=>some (.func f c)
 |_=>none
theorem SV3:(∀ (T:Tm) (H:Hp) (x:Opd),cw T H (.nilck x)=MV (ov T x))∧(∀ b n o:Nat,MV (.ptr b n o)=some (.ptr b n o)):=⟨fun T H x=>by
 simp only[cw];cases ov T x<;>rfl,λ_ _ _=>rfl⟩
attribute [local irreducible] aM am bn aZ aS aV aD aX ba bw Go.Abs.Fn aY Go.Abs.Pure aq aO Yl
theorem NH(hc:Cmp Tryz.prog f K G g caps){L:List α}{H:Hp}{b nx n a e:Nat}(hH:H b=some (L.map f))(hn:L.length=n)(hae:a<e)(hen:e<=n)(hn2:n<=1000000000):
    Abs.Fn Tryz.prog 170 [.msl b n 1 0 n,.int .i64 a,.int .i64 e,.func g caps] H nx λr H' nx'=>nx'=nx/\∃L',H'=ao H b (L'.map f)/\PermR a e L L':=by
 obtain⟨m,rfl⟩:∃m,e=m+1:=⟨e-1,by omega⟩
 have te:((m+1:Nat):Int)-1=(m:Int):=by omega
 refine fO OX ?_;simp only[OG,aK];refine wnZ @te ?_;refine ca (X:=Nat×Nat×List α) (λx=>[(0,.msl b n 1 0 n),(8,.int .i64 (x.1:Nat)),(9,.int .i64 (x.2.1:Nat))]) (λx H' nxx=>a<=x.1/\x.2.1<=m/\H'=ao H b (x.2.2.map f)/\nx=nxx/\PermR a (m+1) L x.2.2) (λx=>x.2.1) (a,m,L) ⟨aJ _,aJ _,ka hH,rfl,.refl⟩ ag0 ?_;rintro⟨i,j,M⟩ H' nxx ⟨h1,h2,rfl,rfl,hp⟩;dsimp only at *;have hl:M.length=n:=by rw[hp.len,hn]
 by_cases hij:i<j
 ·obtain⟨k,rfl⟩:∃k,j=k+1:=⟨j-1,by omega⟩
  have tj:((k+1:Nat):Int)-1=(k:Int):=by omega
  have ti:((i:Nat):Int)+1=((i+1:Nat):Int):=by omega
  obtain⟨M1,hl1,lm1,lm2⟩:=eJ (f:=f) (M:=M) (i:=i) (j:=k+1) (by omega) (by omega);have lm3:=lm2;simp only[bB,bL,eW,cE] at lm1 lm2;refine wnZ (zI6 @tj @ti @lm1 @lm2 hc.cells hc.one) ?_;exact⟨(i+1,k,swp M i (k+1)),by dsimp only;omega,⟨by dsimp only;omega,by dsimp only;omega,by dsimp only;rw[a7,a7,lm3],rfl,hp.trans (PermR.swap (by omega) (by omega) (by omega))⟩,ag0⟩
 ·refine wnZ and_self ?_;exact⟨rfl,M,rfl,hp⟩
theorem vq(hc:Cmp Tryz.prog f K G g caps){L:List α}{H:Hp}{b c nx n i j s:Nat}(hH:H b=some (L.map f))(hcc:H c=some [.int .i64 (s:Nat)])(hn:L.length=n)(hG:∀x∈L,G x)(hi:i<n)(hj:j<n)(hn2:n<=1000000000)(hs:s<=100):
    Abs.Fn Tryz.prog 208 [.msl b n 1 0 n,.int .i64 i,.int .i64 j,.ptr c 1 0,.func g caps] H nx λr H' nx'=>nx'=nx/\∃i' j' s':Nat,r=.tup [.int .i64 i',.int .i64 j']/\((i'=i/\j'=j)\/(i'=j/\j'=i))/\s'<=s+1/\H'=ao H c [.int .i64 s']:=by
 refine fO Nd ?_;simp only[NM,aK];have dcap:=hc.dcaps;have lc:=hc.run (L.getD j default) (L.getD i default) (hG _ (bg (by omega))) (hG _ (bg (by omega)));have e1:=hc.dat (L.getD j default);have e2:=hc.dat (L.getD i default);have ts:((s:Nat):Int)+1=((s+1:Nat):Int):=by omega
 have ls:∀x y:AV,bB [x] 0 [y]=[y]:=λ_ _=>rfl;simp only[bB,bL,eW,cE] at ls;generalize hKK:K (L.getD j default) (L.getD i default)=kk at lc;by_cases hlt:kk<0
 ·have zz:=aI @hH (aI @hcc (aI @cC (aI hc.cells (aI hc.one (aI @ts (aI @ls @SV3))))));repeat' (first|refine zW ?_|refine zM ?_|apply a_n|apply a_r|refine zO ?_|refine vZ ?_|refine cZ ?_ (hp:=lc) (hs:=by(first|refine aB ?_ rfl|apply aL);(repeat' (first|exact aj|apply bk|apply aN|exact e1|exact e2|exact bq dcap));first|done|fail)|refine stZ ?_|(refine zGZ ?_ ?_<;>(intro _hg;try (exfalso;omega)))|refine bC rfl ?_|refine r2Z ?_|fail)
  exact⟨rfl,j,i,s+1,rfl,.inr ⟨rfl,rfl⟩,aJ _,rfl⟩
 ·have zz:=aI @hH (aI @hcc (aI @cC (aI hc.cells hc.one)));repeat' (first|refine zW ?_|refine zM ?_|apply a_n|refine zO ?_|refine vZ ?_|refine cZ ?_ (hp:=lc) (hs:=by(first|refine aB ?_ rfl|apply aL);(repeat' (first|exact aj|apply bk|apply aN|exact e1|exact e2|exact bq dcap));first|done|fail)|(refine zGZ ?_ ?_<;>(intro _hg;try (exfalso;omega)))|refine bC rfl ?_|refine r2Z ?_|fail)
  exact⟨rfl,i,j,s,rfl,.inl ⟨rfl,rfl⟩,Nat.le_succ _,ka hcc⟩
end
def wR{α:Type}[Inhabited α](K:α->α->Int)(a e:Nat)(M:List α):Prop:=∀q,0<a->a<=q->q<e->¬K (M.getD q default) (M.getD (a-1) default)<0
section
variable{α:Type}[Inhabited α]{f:α->AV}{K:α->α->Int}{G:α->Prop}{g:Nat}{caps:List AV}
theorem wR.perm{a e:Nat}{L M:List α}(h:wR K a e L)(hp:PermR a e L M)(hae:a<=e)(he:e<=L.length):wR K a e M:=λq h0 h1 h2=>by
 rw[hp.out (a-1) (.inl (by omega))];exact hp.all (p:=λx=>¬K x (L.getD (a-1) default)<0) hae he (λi k1 k2=>h i h0 k1 k2) q h1 h2
theorem br.out{a i e:Nat}{L M:List α}(h:br K a i L)(hp:PermR i e L M):br K a i M:=λp q h1 h2 h3=>by
 rw[hp.out p (.inl (by omega)),hp.out q (.inl h3)];exact h p q h1 h2 h3
theorem br.snoc{a i:Nat}{M:List α}(hK:Ord K)(h:br K a i M)(ha:a<i)(hn:¬K (M.getD i default) (M.getD (i-1) default)<0):br K a (i+1) M:=λp q h1 h2 h3=>by
 by_cases e:q=i
 ·subst e;by_cases e2:p=q-1
  ·rw[e2];exact hn
  ·exact hK.negtr _ _ _ (h p (q-1) h1 (by omega) (by omega)) hn
 ·exact h p q h1 h2 (by omega)
attribute [local irreducible] aM am bn aZ aS aV aD aX ba bw Go.Abs.Fn aY Go.Abs.Pure aq aO Yl
theorem Gc(hc:Cmp Tryz.prog f K G g caps){L:List α}{H:Hp}{b nx n a e:Nat}(hH:H b=some (L.map f))(hn:L.length=n)(hG:∀x∈L,G x)(hae:a<e)(hen:e<=n)(hn2:n<=1000000000)(hlow:wR K a e L):
    Abs.Fn Tryz.prog 171 [.msl b n 1 0 n,.int .i64 a,.int .i64 e,.func g caps] H nx λr H' nx'=>nx'=nx/\∃L' t,r=.bool t/\H'=ao H b (L'.map f)/\PermR a e L L'/\(t=true->br K a e L'):=by
 have dcap:=hc.dcaps;refine fO PM ?_;simp only[OQ,aK];refine wnZ and_self ?_;refine ca (X:=Nat×Nat×List α) (λx=>[(0,.msl b n 1 0 n),(1,.int .i64 a),(2,.int .i64 e),(3,.func g caps),(9,.int .i64 (x.2.1:Nat)),(10,.int .i64 (x.1:Nat))]) (λx H' nxx=>x.1<=5/\a+1<=x.2.1/\x.2.1<=e/\H'=ao H b (x.2.2.map f)/\nx=nxx/\PermR a e L x.2.2/\br K a x.2.1 x.2.2) (λx=>5-x.1) (0,a+1,L) ⟨by dsimp only;omega,aJ _,hae,ka hH,rfl,.refl,br.one (aJ _)⟩ ag0 ?_;rintro⟨jj,i0,M0⟩ H' nxx ⟨h1,h2,h3,rfl,rfl,hp0,hs0⟩;dsimp only at *;by_cases h5:jj=5
 ·subst h5;refine wnZ and_self ?_;exact⟨rfl,M0,false,rfl,rfl,hp0,λh=>absurd h (by decide)⟩
 have hl:M0.length=n:=by rw[hp0.len,hn]
 have hGM:=hp0.mem hG;refine cR (λT H'' nx''=>T 0=.msl b n 1 0 n/\T 1=.int .i64 a/\T 2=.int .i64 e/\T 3=.func g caps/\T 9=.int .i64 (i0:Nat)/\T 10=.int .i64 (jj:Nat)/\H''=ao H b ((M0).map f)/\nx=nx'') ?_ ?_
 ·refine wnZ and_self ?_;exact⟨rfl,rfl,rfl,rfl,rfl,rfl,rfl,rfl⟩
 rintro T _ _ ⟨t0,t1,t2,t3,t9,t10,rfl,rfl⟩;refine cR (λT H'' nx''=>∃(i:Nat)(M:List α),a+1<=i/\i<=e/\PermR a e L M/\br K a i M/\T 0=.msl b n 1 0 n/\T 1=.int .i64 a/\T 2=.int .i64 e/\T 3=.func g caps/\T 9=.int .i64 (i:Nat)/\T 10=.int .i64 (jj:Nat)/\H''=ao H b ((M).map f)/\nx=nx'') ?_ ?_
 rotate_left
 ·clear t0 t1 t2 t3 t9 t10;rintro T _ _ ⟨i,M,k1,k2,hp,hs,t0,t1,t2,t3,t9,t10,rfl,rfl⟩;refine wnZ (zI6 @t0 @t1 @t2 @t3 @t9 @t10) ?_;exact⟨(jj+1,i,M),by dsimp only;omega,⟨by dsimp only;omega,k1,k2,rfl,rfl,hp,hs⟩,(have zz:=aI @t0 (aI @t1 (aI @t2 (aI @t3 (aI @t9 @t10))));agZ)⟩
 refine mI ?_;refine cR (λT H'' nx''=>∃(i:Nat),a+1<=i/\i<=e/\br K a i M0/\(i<e->K (M0.getD i default) (M0.getD (i-1) default)<0)/\T 0=.msl b n 1 0 n/\T 1=.int .i64 a/\T 2=.int .i64 e/\T 3=.func g caps/\T 9=.int .i64 (i:Nat)/\T 10=.int .i64 (jj:Nat)/\H''=ao H b ((M0).map f)/\nx=nx'') ?_ ?_
 ·refine wnZ (zI6 @t0 @t1 @t2 @t3 @t9 @t10) ?_;refine ca (X:=Nat) (λi=>[(0,.msl b n 1 0 n),(1,.int .i64 a),(2,.int .i64 e),(3,.func g caps),(9,.int .i64 (i:Nat)),(10,.int .i64 (jj:Nat))]) (λi H' nxx=>a+1<=i/\i<=e/\H'=ao H b (M0.map f)/\nx=nxx/\br K a i M0) (λi=>e-i) i0 ⟨h2,h3,rfl,rfl,hs0⟩ (have zz:=aI @t0 (aI @t1 (aI @t2 (aI @t3 (aI @t9 @t10))));agZ) ?_;clear hs0 h2 h3;rintro i H' nxx ⟨h2,h3,rfl,rfl,hs⟩;by_cases hie:i=e
  ·subst hie;refine wkZ and_self ?_;exact⟨i,h2,h3,hs,λh=>absurd h (Nat.lt_irrefl _),rfl,rfl,rfl,rfl,rfl,rfl,rfl,rfl⟩
  obtain⟨m,rfl⟩:∃m,i=m+1:=⟨i-1,by omega⟩
  have tj:((m+1:Nat):Int)-1=(m:Int):=by omega
  have lc:=hc.run (M0.getD (m+1) default) (M0.getD m default) (hGM _ (bg (by omega))) (hGM _ (bg (by omega)));have e1:=hc.dat (M0.getD (m+1) default);have e2:=hc.dat (M0.getD m default);generalize hKK:K (M0.getD (m+1) default) (M0.getD m default)=kk at lc;by_cases hlt:kk<0
  ·have zz:=aI @tj (aI @cC (aI hc.cells hc.one));repeat' (first|refine zW ?_|refine zM ?_|apply a_n|apply a_x|refine zO ?_|refine vZ ?_|refine cZ ?_ (hp:=lc) (hs:=by(first|refine aB ?_ rfl|apply aL);(repeat' (first|exact aj|apply bk|apply aN|exact e1|exact e2|exact bq dcap));first|done|fail)|refine gTZ ?_|(refine zGZ ?_ ?_<;>(intro _hg;try (exfalso;omega)))|fail)
   exact⟨m+1,h2,h3,hs,λ_=>by rw[rM,hKK];exact hlt,rfl,rfl,rfl,rfl,rfl,rfl,rfl,rfl⟩
  ·have zz:=aI @tj (aI @cC (aI hc.cells hc.one));repeat' (first|refine zW ?_|refine zM ?_|apply a_n|refine zO ?_|refine vZ ?_|refine cZ ?_ (hp:=lc) (hs:=by(first|refine aB ?_ rfl|apply aL);(repeat' (first|exact aj|apply bk|apply aN|exact e1|exact e2|exact bq dcap));first|done|fail)|refine gTZ ?_|(refine zGZ ?_ ?_<;>(intro _hg;try (exfalso;omega)))|fail)
   exact⟨m+1+1,by omega,⟨by omega,by omega,rfl,rfl,hs.snoc hc.ord (by omega) (by rw[rM,hKK];exact hlt)⟩,ag0⟩
 clear t0 t1 t2 t3 t9 t10 hs0 h2 h3;rintro T _ _ ⟨i,h2,h3,hs,hless,t0,t1,t2,t3,t9,t10,rfl,rfl⟩;by_cases hie:i=e
 ·subst hie;have ten:decide ((i:Int)=(i:Int))=true:=bd rfl;refine wnZ (zI7 @t0 @t1 @t2 @t3 @t9 @t10 @ten) ?_;exact⟨rfl,M0,true,rfl,rfl,hp0,λ_=>hs⟩
 replace hless:=hless (by omega);have ten:decide ((i:Int)=(e:Int))=false:=bh (by omega);refine cR (λT H'' nx''=>T 0=.msl b n 1 0 n/\T 1=.int .i64 a/\T 2=.int .i64 e/\T 3=.func g caps/\T 9=.int .i64 (i:Nat)/\T 10=.int .i64 (jj:Nat)/\H''=ao H b ((M0).map f)/\nx=nx'') ?_ ?_
 ·refine wnZ (zI7 @t0 @t1 @t2 @t3 @t9 @t10 @ten) ?_;exact⟨(have zz:=@t0;evZ),(have zz:=@t1;evZ),(have zz:=@t2;evZ),(have zz:=@t3;evZ),(have zz:=@t9;evZ),(have zz:=@t10;evZ),rfl,rfl⟩
 clear t0 t1 t2 t3 t9 t10 ten;rintro T _ _ ⟨t0,t1,t2,t3,t9,t10,rfl,rfl⟩;refine cR (λT H'' nx''=>T 0=.msl b n 1 0 n/\T 1=.int .i64 a/\T 2=.int .i64 e/\T 3=.func g caps/\T 9=.int .i64 (i:Nat)/\T 10=.int .i64 (jj:Nat)/\H''=ao H b ((M0).map f)/\nx=nx'') ?_ ?_
 ·have zz:=aI @t0 (aI @t1 (aI @t2 (aI @t3 (aI @t9 @t10))));repeat' (first|refine zW ?_|apply a_n|apply a_r|refine zO ?_|refine vZ ?_|(refine zGZ ?_ ?_<;>(intro _hg;try (exfalso;omega)))|refine bC rfl ?_|refine r1Z ?_|fail)
  ·exact⟨rfl,M0,false,rfl,rfl,hp0,λh=>absurd h (by decide)⟩
  ·exact⟨(have zz:=@t0;evZ),(have zz:=@t1;evZ),(have zz:=@t2;evZ),(have zz:=@t3;evZ),(have zz:=@t9;evZ),(have zz:=@t10;evZ),rfl,rfl⟩
 clear t0 t1 t2 t3 t9 t10;rintro T _ _ ⟨t0,t1,t2,t3,t9,t10,rfl,rfl⟩;obtain⟨m,rfl⟩:∃m,i=m+1:=⟨i-1,by omega⟩
 have tj:((m+1:Nat):Int)-1=(m:Int):=by omega
 rw[rM] at hless;obtain⟨M1,hl1,lm1,lm2⟩:=eJ (f:=f) (M:=M0) (i:=m+1) (j:=m) (by omega) (by omega);have lm3:=lm2;simp only[bB,bL,eW,cE] at lm1 lm2;refine cR (λT H'' nx''=>T 0=.msl b n 1 0 n/\T 1=.int .i64 a/\T 2=.int .i64 e/\T 3=.func g caps/\T 9=.int .i64 (m+1:Nat)/\T 10=.int .i64 (jj:Nat)/\H''=ao H b ((swp M0 (m+1) m).map f)/\nx=nx'') ?_ ?_
 ·refine wnZ (aI @t0 (aI @t1 (lu @t2 @t3 @t9 @t10 @cC hc.cells hc.one @tj @lm1 @lm2))) ?_;exact⟨(have zz:=@t0;evZ),(have zz:=@t1;evZ),(have zz:=@t2;evZ),(have zz:=@t3;evZ),(have zz:=@t9;evZ),(have zz:=@t10;evZ),by rw[a7,a7,lm3],rfl⟩
 clear t0 t1 t2 t3 t9 t10;have hp1:PermR a e L (swp M0 (m+1) m):=hp0.trans (PermR.swap (by omega) (by omega) (by omega));have hal:=(gQ.start hs).step hc.ord (by omega) (aJ _) (by omega) hless;clear hs hless lm1 lm2 lm3 hl1 M1;generalize swp M0 (m+1) m=M2 at hp1 hal;clear hp0 hGM hl;rintro T _ _ ⟨t0,t1,t2,t3,t9,t10,rfl,rfl⟩;refine cR (λT H'' nx''=>∃M:List α,PermR a e L M/\br K a (m+1) M/\T 0=.msl b n 1 0 n/\T 1=.int .i64 a/\T 2=.int .i64 e/\T 3=.func g caps/\T 9=.int .i64 (m+1:Nat)/\T 10=.int .i64 (jj:Nat)/\H''=ao H b ((M).map f)/\nx=nx'') ?_ ?_
 ·by_cases h2a:m=a
  ·subst h2a;have td:decide ((2:Int)<=((m+1:Nat):Int)-(m:Int))=false:=bh (by omega);refine wnZ (zI7 @t0 @t1 @t2 @t3 @t9 @t10 @td) ?_;exact⟨M2,hp1,(hal.done hc.ord (.inl rfl)).mono (aJ _) (by omega),(have zz:=@t0;evZ),(have zz:=@t1;evZ),(have zz:=@t2;evZ),(have zz:=@t3;evZ),(have zz:=@t9;evZ),(have zz:=@t10;evZ),rfl,rfl⟩
  have td:decide ((2:Int)<=((m+1:Nat):Int)-(a:Int))=true:=bd (by omega);refine wnZ (zI8 @t0 @t1 @t2 @t3 @t9 @t10 @td @tj) ?_;refine ca (X:=Nat×List α) (λx=>[(0,.msl b n 1 0 n),(1,.int .i64 a),(2,.int .i64 e),(3,.func g caps),(9,.int .i64 (m+1:Nat)),(10,.int .i64 (jj:Nat)),(11,.int .i64 (x.1:Nat))]) (λx H' nxx=>a<=x.1/\x.1<=m/\H'=ao H b (x.2.map f)/\nx=nxx/\PermR a e L x.2/\gQ K a (m+1) x.1 x.2) (λx=>x.1) (m,M2) ⟨by dsimp only;omega,aJ _,rfl,rfl,hp1,hal⟩ (have zz:=aI @t0 (aI @t1 (aI @t2 (aI @t3 (aI @t9 @t10))));agZ) ?_;clear t0 t1 t2 t3 t9 t10 hp1 hal M2;rintro⟨j,M⟩ H' nxx ⟨a1,a2,rfl,rfl,hp,hal⟩;dsimp only at *;have hl:M.length=n:=by rw[hp.len,hn]
  have hGM:=hp.mem hG;rcases Dm j with ej|ej
  ·subst ej;refine wnZ and_self ?_;exact⟨M,hp,(hal.done hc.ord (.inl (by omega))).mono (aJ _) (by omega),rfl,rfl,rfl,rfl,rfl,rfl,rfl,rfl⟩
  obtain⟨k,rfl⟩:∃k,j=k+1:=⟨j-1,by omega⟩
  have tk:((k+1:Nat):Int)-1=(k:Int):=by omega
  have lc:=hc.run (M.getD (k+1) default) (M.getD k default) (hGM _ (bg (by omega))) (hGM _ (bg (by omega)));have e1:=hc.dat (M.getD (k+1) default);have e2:=hc.dat (M.getD k default);have hlw:=hlow.perm hp (by omega) (by omega);generalize hKK:K (M.getD (k+1) default) (M.getD k default)=kk at lc;by_cases hlt:kk<0
  ·have hak:k+1≠a:=λh=>by
     subst h;have:=hlw (k+1) (by omega) (aJ _) (by omega);rw[rM,hKK] at this;exact this hlt
   obtain⟨M1,hl1,lm1,lm2⟩:=eJ (f:=f) (M:=M) (i:=k+1) (j:=k) (by omega) (by omega);have lm3:=lm2;simp only[bB,bL,eW,cE] at lm1 lm2;have zz:=aI @tk (aI @cC (aI hc.cells (aI hc.one (aI @lm1 @lm2))));repeat' (first|refine zW ?_|refine zM ?_|apply a_n|refine zO ?_|refine vZ ?_|refine cZ ?_ (hp:=lc) (hs:=by(first|refine aB ?_ rfl|apply aL);(repeat' (first|exact aj|apply bk|apply aN|exact e1|exact e2|exact bq dcap));first|done|fail)|refine stZ ?_|(refine zGZ ?_ ?_<;>(intro _hg;try (exfalso;omega)))|fail)
   exact⟨(k,swp M (k+1) k),by dsimp only;omega,⟨by dsimp only;omega,by dsimp only;omega,by dsimp only;rw[a7,a7,lm3],rfl,hp.trans (PermR.swap (by omega) (by omega) (by omega)),hal.step hc.ord (by omega) (by omega) (by omega) (by rw[hKK];exact hlt)⟩,(have zz:=@tk;agZ)⟩
  ·have hd:k+1=a\/(a<k+1/\¬K (M.getD (k+1) default) (M.getD (k+1-1) default)<0):=by
     by_cases h:k+1=a
     ·exact .inl h
     ·exact .inr ⟨by omega,by rw[rM,hKK];exact hlt⟩
   have zz:=aI @tk (aI @cC (aI hc.cells hc.one));repeat' (first|refine zW ?_|refine zM ?_|apply a_n|apply a_x|refine zO ?_|refine vZ ?_|refine cZ ?_ (hp:=lc) (hs:=by(first|refine aB ?_ rfl|apply aL);(repeat' (first|exact aj|apply bk|apply aN|exact e1|exact e2|exact bq dcap));first|done|fail)|(refine zGZ ?_ ?_<;>(intro _hg;try (exfalso;omega)))|fail)
   exact⟨M,hp,(hal.done hc.ord hd).mono (aJ _) (by omega),rfl,rfl,rfl,rfl,rfl,rfl,rfl,rfl⟩
 clear t0 t1 t2 t3 t9 t10 hp1 hal M2;rintro T _ _ ⟨M2,hp1,hs,t0,t1,t2,t3,t9,t10,rfl,rfl⟩;by_cases h2a:m+1+2<=e
 rotate_left
 ·have td:decide ((2:Int)<=(e:Int)-((m+1:Nat):Int))=false:=bh (by omega);refine wnZ (zI7 @t0 @t1 @t2 @t3 @t9 @t10 @td) ?_;exact⟨m+1,M2,h2,h3,hp1,hs,(have zz:=@t0;evZ),(have zz:=@t1;evZ),(have zz:=@t2;evZ),(have zz:=@t3;evZ),(have zz:=@t9;evZ),(have zz:=@t10;evZ),rfl,rfl⟩
 have td:decide ((2:Int)<=(e:Int)-((m+1:Nat):Int))=true:=bd (by omega);have tj2:((m+1:Nat):Int)+1=((m+1+1:Nat):Int):=by omega
 refine wnZ (zI8 @t0 @t1 @t2 @t3 @t9 @t10 @td @tj2) ?_;refine ca (X:=Nat×List α) (λx=>[(0,.msl b n 1 0 n),(1,.int .i64 a),(2,.int .i64 e),(3,.func g caps),(9,.int .i64 (m+1:Nat)),(10,.int .i64 (jj:Nat)),(12,.int .i64 (x.1:Nat))]) (λx H' nxx=>m+1+1<=x.1/\x.1<=e/\H'=ao H b (x.2.map f)/\nx=nxx/\PermR a e L x.2/\br K a (m+1) x.2) (λx=>e-x.1) (m+1+1,M2) ⟨aJ _,by dsimp only;omega,rfl,rfl,hp1,hs⟩ (have zz:=aI @t0 (aI @t1 (aI @t2 (aI @t3 (aI @t9 @t10))));agZ) ?_;clear t0 t1 t2 t3 t9 t10 hp1 hs M2;rintro⟨j,M⟩ H' nxx ⟨a1,a2,rfl,rfl,hp,hs⟩;dsimp only at *;have hl:M.length=n:=by rw[hp.len,hn]
 have hGM:=hp.mem hG;by_cases hje:j=e
 ·subst hje;refine wnZ and_self ?_;exact⟨m+1,M,h2,h3,hp,hs,rfl,rfl,rfl,rfl,rfl,rfl,rfl,rfl⟩
 obtain⟨k,rfl⟩:∃k,j=k+1:=⟨j-1,by omega⟩
 have tk:((k+1:Nat):Int)-1=(k:Int):=by omega
 have lc:=hc.run (M.getD (k+1) default) (M.getD k default) (hGM _ (bg (by omega))) (hGM _ (bg (by omega)));have e1:=hc.dat (M.getD (k+1) default);have e2:=hc.dat (M.getD k default);generalize hKK:K (M.getD (k+1) default) (M.getD k default)=kk at lc;by_cases hlt:kk<0
 ·obtain⟨M1,hl1,lm1,lm2⟩:=eJ (f:=f) (M:=M) (i:=k+1) (j:=k) (by omega) (by omega);have lm3:=lm2;simp only[bB,bL,eW,cE] at lm1 lm2;have zz:=aI @tk (aI @cC (aI hc.cells (aI hc.one (aI @lm1 @lm2))));repeat' (first|refine zW ?_|refine zM ?_|apply a_n|refine zO ?_|refine vZ ?_|refine cZ ?_ (hp:=lc) (hs:=by(first|refine aB ?_ rfl|apply aL);(repeat' (first|exact aj|apply bk|apply aN|exact e1|exact e2|exact bq dcap));first|done|fail)|refine stZ ?_|(refine zGZ ?_ ?_<;>(intro _hg;try (exfalso;omega)))|fail)
  exact⟨(k+1+1,swp M (k+1) k),by dsimp only;omega,⟨by dsimp only;omega,by dsimp only;omega,by dsimp only;rw[a7,a7,lm3],rfl,hp.trans (PermR.swap (by omega) (by omega) (by omega)),hs.out (e:=e) (PermR.swap (by omega) (by omega) (by omega))⟩,ag0⟩
 ·have zz:=aI @tk (aI @cC (aI hc.cells hc.one));repeat' (first|refine zW ?_|refine zM ?_|apply a_n|apply a_x|refine zO ?_|refine vZ ?_|refine cZ ?_ (hp:=lc) (hs:=by(first|refine aB ?_ rfl|apply aL);(repeat' (first|exact aj|apply bk|apply aN|exact e1|exact e2|exact bq dcap));first|done|fail)|(refine zGZ ?_ ?_<;>(intro _hg;try (exfalso;omega)))|fail)
  exact⟨m+1,M,h2,h3,hp,hs,rfl,rfl,rfl,rfl,rfl,rfl,rfl,rfl⟩
end
structure PartR{α:Type}[Inhabited α](P:α->Prop)(a e mu i j:Nat)(M:List α):Prop where
 lo:a+1<=i
 mid:i<=j+1
 hi:j<e
 mu:j+1-i<=mu
 up:∀p,a+1<=p->p<i->P (M.getD p default)
 dn:∀q,j<q->q<e->¬P (M.getD q default)
section
variable{α:Type}[Inhabited α]{f:α->AV}{K:α->α->Int}{G:α->Prop}{g:Nat}{caps:List AV}
theorem PartR.start{P:α->Prop}{a m:Nat}{M:List α}(h:a<=m):PartR P a (m+1) (m+1-(a+1)) (a+1) m M:=⟨aJ _,by omega,by omega,aJ _,λp h1 h2=>by omega,λq h1 h2=>by omega⟩
theorem PartR.stepUp{P:α->Prop}{a e mu i j:Nat}{M:List α}(h:PartR P a e mu i j M)(hij:i<=j)(hp:P (M.getD i default)):PartR P a e mu (i+1) j M:=
 ⟨by have:=h.lo; omega,by omega,h.hi,by have:=h.mu; omega,fun p h1 h2=>by
  by_cases e:p=i
  ·rw[e];exact hp
  ·exact h.up p h1 (by omega),h.dn⟩
theorem PartR.stepDn{P:α->Prop}{a e mu i k:Nat}{M:List α}(h:PartR P a e mu i (k+1) M)(hij:i<=k+1)(hp:¬P (M.getD (k+1) default)):PartR P a e mu i k M:=
 ⟨h.lo,hij,by have:=h.hi; omega,by have:=h.mu; omega,h.up,fun q h1 h2=>by
  by_cases e:q=k+1
  ·rw[e];exact hp
  ·exact h.dn q (by omega) h2⟩
theorem PartR.swap{P:α->Prop}{a e mu i k:Nat}{M:List α}(h:PartR P a e mu i (k+1) M)(hM:e<=M.length)(hij:i<=k+1)(hi:¬P (M.getD i default))(hj:P (M.getD (k+1) default)):PartR P a e (k+1-(i+1)) (i+1) k (swp M i (k+1))/\k+1-(i+1)<mu:=by
 have hne:i≠k+1:=λe=>hi (by rw[e];exact hj);have hh:=h.hi;have hlo:=h.lo;have hmu:=h.mu;refine⟨⟨by omega,by omega,by omega,aJ _,λp h1 h2=>?_,λq h1 h2=>?_⟩,by omega⟩
 ·rw[fR (by omega) (by omega),if_neg (by omega)];by_cases e:p=i
  ·rw[if_pos e];exact hj
  ·rw[if_neg e];exact h.up p h1 (by omega)
 ·rw[fR (by omega) (by omega)];by_cases e:q=k+1
  ·rw[if_pos e];exact hi
  ·rw[if_neg e,if_neg (by omega)];exact h.dn q (by omega) h2
theorem u5{M:List α}{i j k:Nat}(hi:i<M.length)(hj:j<M.length)(h1:k≠i)(h2:k≠j):(swp M i j).getD k default=M.getD k default:=by
 rw[fR hi hj,if_neg h2,if_neg h1]
attribute [local irreducible] aM am bn aZ aS aV aD aX ba bw Go.Abs.Fn aY Go.Abs.Pure aq aO Yl
theorem PartR.done{P:α->Prop}{a e mu i j:Nat}{M:List α}{v:α}(hK:Ord K)(h:PartR P a e mu i j M)(hM:e<=M.length)(hji:j<i)(hv:M.getD a default=v)(hP:∀x,P x↔K x v<0):a<=j/\j<e/\(∀p,a<=p->p<j->K ((swp M j a).getD p default) ((swp M j a).getD j default)<0)/\(∀q,j<q->q<e->¬K ((swp M j a).getD q default) ((swp M j a).getD j default)<0):=by
 have hlo:=h.lo;have hmid:=h.mid;have hhi:=h.hi
 have ej:(swp M j a).getD j default=v:=by
  rw[fR (by omega) (by omega)];split
  ·rename_i e;rw[e,hv]
  ·rw[if_pos rfl,hv]
 rw[ej];refine⟨by omega,by omega,λp h1 h2=>?_,λq h1 h2=>?_⟩
 ·rw[fR (by omega) (by omega)];by_cases e:p=a
  ·rw[if_pos e];exact(hP _).1 (h.up j (by omega) hji)
  ·rw[if_neg e,if_neg (by omega)];exact(hP _).1 (h.up p (by omega) (by omega))
 ·rw[fR (by omega) (by omega),if_neg (by omega),if_neg (by omega),<-hP];exact h.dn q h1 h2
theorem IW(hc:Cmp Tryz.prog f K G g caps){L:List α}{H:Hp}{b nx n a e pv:Nat}(hH:H b=some (L.map f))(hn:L.length=n)(hG:∀x∈L,G x)(hae:a<e)(hen:e<=n)(hn2:n<=1000000000)(hpv:a<=pv/\pv<e):
    Abs.Fn Tryz.prog 172 [.msl b n 1 0 n,.int .i64 a,.int .i64 e,.int .i64 pv,.func g caps] H nx λr H' nx'=>nx'=nx/\∃(L':List α)(m:Nat),r=.int .i64 m/\a<m/\m<=e/\H'=ao H b (L'.map f)/\PermR a e L L'/\(∀p,a<=p->p<m->¬K (L.getD pv default) (L'.getD p default)<0)/\(∀q,m<=q->q<e->K (L.getD pv default) (L'.getD q default)<0):=by
 have dcap:=hc.dcaps;obtain⟨v,hv0⟩:∃v,L.getD pv default=v:=⟨_,rfl⟩
 rw[hv0];obtain⟨P,hP⟩:∃P:α->Prop,∀x,P x↔ ¬K v x<0:=⟨_,λ_=>Iff.rfl⟩
 obtain⟨N,hN⟩:∃N,swp L a pv=N:=⟨_,rfl⟩
 have hp1:PermR a e L N:=hN▸PermR.swap (by omega) (by omega) (by omega)
 have hv1:N.getD a default=v:=by
  rw[<-hN,fR (by omega) (by omega),<-hv0];split
  ·rename_i h;rw[h]
  ·rw[if_pos rfl]
 obtain⟨M1,hl1,lm1,lm2⟩:=eJ (f:=f) (M:=L) (i:=a) (j:=pv) (by omega) (by omega);rw[hN] at lm2;have lm3:=lm2;simp only[bB,bL,eW,cE] at lm1 lm2;obtain⟨m,hm⟩:∃m,e=m+1:=⟨e-1,by omega⟩
 have te:(e:Int)-1=(m:Int):=by omega
 have ta:((a:Nat):Int)+1=((a+1:Nat):Int):=by omega
 refine fO Nt ?_;simp only[MN,aK];have zz:=aI @hH (aI @te (aI @ta (aI @cC (aI hc.cells (aI hc.one (aI @lm1 @lm2))))));repeat' (first|refine zW ?_|apply a_n|refine zO ?_|refine vZ ?_|refine stZ ?_|fail)
 refine ca (X:=Nat×Nat×List α) (λx=>[(0,.msl b n 1 0 n),(1,.int .i64 a),(4,.func g caps),(11,.int .i64 (x.1:Nat)),(12,.int .i64 (x.2.1:Nat))]) (λx H' nxx=>PartR P a e (x.2.1+1-x.1) x.1 x.2.1 x.2.2/\H'=ao H b (x.2.2.map f)/\nx=nxx/\PermR a e L x.2.2/\x.2.2.getD a default=v) (λx=>x.2.1+1-x.1) (a+1,m,N) ⟨by dsimp only;rw[hm];exact .start (by omega),by dsimp only;rw[a7,lm3],rfl,hp1,hv1⟩ ag0 ?_;clear zz;clear lm1 lm2 lm3 hl1 M1 hp1 hv1 hN N te ta hm m;rintro⟨i,j,M⟩ H' nxx ⟨hpt,rfl,rfl,hp,hv⟩;dsimp only at *;have hl:M.length=n:=by rw[hp.len,hn]
 have hGM:=hp.mem hG;generalize hmu:j+1-i=mu at hpt |-;clear hmu;obtain⟨T,hT,t0,t1,t4,t11,t12⟩:∃T,tl [(0,.msl b n 1 0 n),(1,.int .i64 a),(4,.func g caps),(11,.int .i64 (i:Nat)),(12,.int .i64 (j:Nat))]=T/\T 0=.msl b n 1 0 n/\T 1=.int .i64 a/\T 4=.func g caps/\T 11=.int .i64 (i:Nat)/\T 12=.int .i64 (j:Nat):=⟨_,rfl,rfl,rfl,rfl,rfl,rfl⟩
 rw[hT];clear hT;refine mI ?_;refine cR (λT H'' nx''=>∃i:Nat,PartR P a e mu i j M/\(i<=j->¬P (M.getD i default))/\T 0=.msl b n 1 0 n/\T 1=.int .i64 a/\T 4=.func g caps/\T 11=.int .i64 (i:Nat)/\T 12=.int .i64 (j:Nat)/\H''=ao H b ((M).map f)/\nx=nx'') ?_ ?_
 ·have zz:=aI @t0 (aI @t1 (aI @t4 (aI @t11 @t12)));repeat' (first|refine zW ?_|apply a_n|refine zO ?_|fail)
  refine ca (X:=Nat) (λi=>[(0,.msl b n 1 0 n),(1,.int .i64 a),(4,.func g caps),(11,.int .i64 (i:Nat)),(12,.int .i64 (j:Nat))]) (λi H' nxx=>PartR P a e mu i j M/\H'=ao H b (M.map f)/\nx=nxx) (λi=>j+1-i) i ⟨hpt,rfl,rfl⟩ (have zz:=aI @t0 (aI @t1 (aI @t4 (aI @t11 @t12)));agZ) ?_;clear zz;clear t0 t1 t4 t11 t12 hpt i;rintro i H' nxx ⟨hpt,rfl,rfl⟩;have hlo:=hpt.lo;have hmid:=hpt.mid;have hhi:=hpt.hi;have ii:((i:Nat):Int)+1=((i+1:Nat):Int):=by omega
  by_cases hij:j<i
  ·repeat' (first|refine zW ?_|refine zM ?_|apply a_n|apply a_x|refine zO ?_|refine vZ ?_|refine gFZ ?_|(refine zGZ ?_ ?_<;>(intro _hg;try (exfalso;omega)))|refine cFZ ?_|fail)
   exact⟨i,hpt,λh=>absurd h (by omega),rfl,rfl,rfl,rfl,rfl,rfl,rfl⟩
  have lc:=hc.run (M.getD (a) default) (M.getD (i) default) (hGM _ (bg (by omega))) (hGM _ (bg (by omega)));have e1:=hc.dat (M.getD (a) default);have e2:=hc.dat (M.getD (i) default);have hPk:P (M.getD (i) default)↔ ¬K (M.getD (a) default) (M.getD (i) default)<0:=by rw[hP,hv]
  generalize hKK:K (M.getD (a) default) (M.getD (i) default)=kk at lc hPk;by_cases hlt:kk<0
  ·have zz:=aI @ii (aI @cC (aI hc.cells hc.one));repeat' (first|refine zW ?_|refine zM ?_|apply a_n|apply a_x|refine zO ?_|refine vZ ?_|refine cZ ?_ (hp:=lc) (hs:=by(first|refine aB ?_ rfl|apply aL);(repeat' (first|exact aj|apply bk|apply aN|exact e1|exact e2|exact bq dcap));first|done|fail)|refine gTZ ?_|(refine zGZ ?_ ?_<;>(intro _hg;try (exfalso;omega)))|fail)
   exact⟨i,hpt,λ_=>(by rw[hPk];first|exact hlt|exact λh=>h hlt),rfl,rfl,rfl,rfl,rfl,rfl,rfl⟩
  ·have zz:=aI @ii (aI @cC (aI hc.cells hc.one));repeat' (first|refine zW ?_|refine zM ?_|apply a_n|refine zO ?_|refine vZ ?_|refine cZ ?_ (hp:=lc) (hs:=by(first|refine aB ?_ rfl|apply aL);(repeat' (first|exact aj|apply bk|apply aN|exact e1|exact e2|exact bq dcap));first|done|fail)|refine gTZ ?_|(refine zGZ ?_ ?_<;>(intro _hg;try (exfalso;omega)))|fail)
   exact⟨i+1,by omega,⟨hpt.stepUp (by omega) (by rw[hPk];exact hlt),rfl,rfl⟩,ag0⟩
 clear t0 t1 t4 t11 t12 hpt i;rintro T _ _ ⟨i,hpt,hni,t0,t1,t4,t11,t12,rfl,rfl⟩;refine cR (λT H'' nx''=>∃j:Nat,PartR P a e mu i j M/\(i<=j->¬P (M.getD i default))/\(i<=j->P (M.getD j default))/\T 0=.msl b n 1 0 n/\T 1=.int .i64 a/\T 4=.func g caps/\T 11=.int .i64 (i:Nat)/\T 12=.int .i64 (j:Nat)/\H''=ao H b ((M).map f)/\nx=nx'') ?_ ?_
 ·have zz:=aI @t0 (aI @t1 (aI @t4 (aI @t11 @t12)));repeat' (first|refine zW ?_|apply a_n|refine zO ?_|fail)
  refine ca (X:=Nat) (λj=>[(0,.msl b n 1 0 n),(1,.int .i64 a),(4,.func g caps),(11,.int .i64 (i:Nat)),(12,.int .i64 (j:Nat))]) (λj H' nxx=>PartR P a e mu i j M/\(i<=j->¬P (M.getD i default))/\H'=ao H b (M.map f)/\nx=nxx) (λj=>j) j ⟨hpt,hni,rfl,rfl⟩ (have zz:=aI @t0 (aI @t1 (aI @t4 (aI @t11 @t12)));agZ) ?_;clear zz;clear t0 t1 t4 t11 t12 hpt hni j;rintro j H' nxx ⟨hpt,hni,rfl,rfl⟩;have hlo:=hpt.lo;have hmid:=hpt.mid;have hhi:=hpt.hi;by_cases hij:j<i
  ·repeat' (first|refine zW ?_|refine zM ?_|apply a_n|apply a_x|refine zO ?_|refine vZ ?_|refine gFZ ?_|(refine zGZ ?_ ?_<;>(intro _hg;try (exfalso;omega)))|refine cFZ ?_|fail)
   exact⟨j,hpt,hni,λh=>absurd h (by omega),rfl,rfl,rfl,rfl,rfl,rfl,rfl⟩
  obtain⟨k,rfl⟩:∃k,j=k+1:=⟨j-1,by omega⟩
  have tk:((k+1:Nat):Int)-1=(k:Int):=by omega
  have lc:=hc.run (M.getD (a) default) (M.getD (k+1) default) (hGM _ (bg (by omega))) (hGM _ (bg (by omega)));have e1:=hc.dat (M.getD (a) default);have e2:=hc.dat (M.getD (k+1) default);have hPk:P (M.getD (k+1) default)↔ ¬K (M.getD (a) default) (M.getD (k+1) default)<0:=by rw[hP,hv]
  generalize hKK:K (M.getD (a) default) (M.getD (k+1) default)=kk at lc hPk;by_cases hlt:kk<0
  ·have zz:=aI @tk (aI @cC (aI hc.cells hc.one));repeat' (first|refine zW ?_|refine zM ?_|apply a_n|refine zO ?_|refine vZ ?_|refine cZ ?_ (hp:=lc) (hs:=by(first|refine aB ?_ rfl|apply aL);(repeat' (first|exact aj|apply bk|apply aN|exact e1|exact e2|exact bq dcap));first|done|fail)|refine gTZ ?_|(refine zGZ ?_ ?_<;>(intro _hg;try (exfalso;omega)))|fail)
   exact⟨k,by omega,⟨hpt.stepDn (by omega) (by rw[hPk];first|exact hlt|exact λh=>h hlt),λ_=>hni (by omega),rfl,rfl⟩,ag0⟩
  ·have zz:=aI @tk (aI @cC (aI hc.cells hc.one));repeat' (first|refine zW ?_|refine zM ?_|apply a_n|apply a_x|refine zO ?_|refine vZ ?_|refine cZ ?_ (hp:=lc) (hs:=by(first|refine aB ?_ rfl|apply aL);(repeat' (first|exact aj|apply bk|apply aN|exact e1|exact e2|exact bq dcap));first|done|fail)|refine gTZ ?_|(refine zGZ ?_ ?_<;>(intro _hg;try (exfalso;omega)))|fail)
   exact⟨k+1,hpt,hni,λ_=>(by rw[hPk];exact hlt),rfl,rfl,rfl,rfl,rfl,rfl,rfl⟩
 clear t0 t1 t4 t11 t12 hpt hni j;rintro T _ _ ⟨j,hpt,hni,hnj,t0,t1,t4,t11,t12,rfl,rfl⟩;have hlo:=hpt.lo;have hmid:=hpt.mid;have hhi:=hpt.hi;by_cases hji:j<i
 ·have zz:=aI @t0 (aI @t1 (aI @t4 (aI @t11 @t12)));repeat' (first|refine zW ?_|apply a_n|apply a_x|refine zO ?_|refine vZ ?_|(refine zGZ ?_ ?_<;>(intro _hg;try (exfalso;omega)))|refine bC rfl ?_|refine r1Z ?_|fail)
  refine⟨rfl,M,i,rfl,by omega,by omega,rfl,hp,λp h1 h2=>?_,λq h1 h2=>by have:=hpt.dn q (by omega) h2;rw[hP] at this;exact tt this⟩;by_cases ep:p=a
  ·rw[ep,hv];exact hc.ord.irr _
  ·exact(hP _).1 (hpt.up p (by omega) h2)
 obtain⟨k,rfl⟩:∃k,j=k+1:=⟨j-1,by omega⟩
 have tk:((k+1:Nat):Int)-1=(k:Int):=by omega
 have ii:((i:Nat):Int)+1=((i+1:Nat):Int):=by omega
 obtain⟨M1,hl1,lm1,lm2⟩:=eJ (f:=f) (M:=M) (i:=i) (j:=k+1) (by omega) (by omega);have lm3:=lm2;simp only[bB,bL,eW,cE] at lm1 lm2;have zz:=aI @t0 (aI @t1 (aI @t4 (aI @t11 (aI @t12 (aI @tk (aI @ii (aI @cC (aI hc.cells (aI hc.one (aI @lm1 @lm2))))))))));repeat' (first|refine zW ?_|apply a_n|refine zO ?_|refine vZ ?_|refine stZ ?_|(refine zGZ ?_ ?_<;>(intro _hg;try (exfalso;omega)))|fail)
 obtain⟨hq1,hq2⟩:=hpt.swap (by omega) (by omega) (hni (by omega)) (hnj (by omega));exact⟨(i+1,k,swp M i (k+1)),hq2,⟨hq1,by dsimp only;rw[a7,a7,lm3],rfl,hp.trans (PermR.swap (by omega) (by omega) (by omega)),by dsimp only;rw[u5 (by omega) (by omega) (by omega) (by omega)];exact hv⟩,(have zz:=aI @t0 (aI @t1 (aI @t4 (aI @t11 @t12)));agZ)⟩
theorem Mb(hc:Cmp Tryz.prog f K G g caps){L:List α}{H:Hp}{b nx n a e pv:Nat}(hH:H b=some (L.map f))(hn:L.length=n)(hG:∀x∈L,G x)(hae:a<e)(hen:e<=n)(hn2:n<=1000000000)(hpv:a<=pv/\pv<e):
    Abs.Fn Tryz.prog 173 [.msl b n 1 0 n,.int .i64 a,.int .i64 e,.int .i64 pv,.func g caps] H nx λr H' nx'=>nx'=nx/\∃(L':List α)(m:Nat)(t:Bool),r=.tup [.int .i64 m,.bool t]/\a<=m/\m<e/\H'=ao H b (L'.map f)/\PermR a e L L'/\(∀p,a<=p->p<m->K (L'.getD p default) (L'.getD m default)<0)/\(∀q,m<q->q<e->¬K (L'.getD q default) (L'.getD m default)<0):=by
 have dcap:=hc.dcaps;obtain⟨v,hv0⟩:∃v,L.getD pv default=v:=⟨_,rfl⟩
 obtain⟨P,hP⟩:∃P:α->Prop,∀x,P x↔K x v<0:=⟨_,λ_=>Iff.rfl⟩
 obtain⟨M,hN⟩:∃N,swp L a pv=N:=⟨_,rfl⟩
 have hp:PermR a e L M:=hN▸PermR.swap (by omega) (by omega) (by omega)
 have hv:M.getD a default=v:=by
  rw[<-hN,fR (by omega) (by omega),<-hv0];split
  ·rename_i h;rw[h]
  ·rw[if_pos rfl]
 obtain⟨M1,hl1,lm1,lm2⟩:=eJ (f:=f) (M:=L) (i:=a) (j:=pv) (by omega) (by omega);rw[hN] at lm2;have lm3:=lm2;simp only[bB,bL,eW,cE] at lm1 lm2;obtain⟨m,hm⟩:∃m,e=m+1:=⟨e-1,by omega⟩
 have te:(e:Int)-1=(m:Int):=by omega
 have ta:((a:Nat):Int)+1=((a+1:Nat):Int):=by omega
 refine fO PK ?_;simp only[MH,aK];refine cR (λT H'' nx''=>T 0=.msl b n 1 0 n/\T 1=.int .i64 a/\T 2=.int .i64 e/\T 3=.int .i64 pv/\T 4=.func g caps/\H=H''/\nx=nx'') ?_ ?_
 ·repeat' (first|apply a_n|refine zO ?_|refine vZ ?_|fail)
  exact⟨rfl,rfl,rfl,rfl,rfl,rfl,rfl⟩
 rintro T _ _ ⟨t0,t1,t2,t3,t4,rfl,rfl⟩;refine cR (λT H'' nx''=>T 0=.msl b n 1 0 n/\T 1=.int .i64 a/\T 2=.int .i64 e/\T 3=.int .i64 pv/\T 4=.func g caps/\H''=ao H b (M.map f)/\nx=nx'') ?_ ?_
 ·have zz:=aI @t0 (aI @t1 (aI @t2 (aI @t3 (aI @t4 (aI @hH (aI @cC (aI hc.cells (aI hc.one (aI @lm1 @lm2)))))))));repeat' (first|apply a_n|refine zO ?_|refine vZ ?_|refine stZ ?_|fail)
  exact⟨(have zz:=@t0;evZ),(have zz:=@t1;evZ),(have zz:=@t2;evZ),(have zz:=@t3;evZ),(have zz:=@t4;evZ),by rw[a7,lm3],rfl⟩
 clear t0 t1 t2 t3 t4 lm1 lm2 lm3 hl1 M1 hN;rintro T _ _ ⟨t0,t1,t2,t3,t4,rfl,rfl⟩;refine cR (λT H'' nx''=>∃mu i j:Nat,PartR P a e mu i j M/\T 0=.msl b n 1 0 n/\T 1=.int .i64 a/\T 4=.func g caps/\T 12=.int .i64 (i:Nat)/\T 13=.int .i64 (j:Nat)/\H''=ao H b ((M).map f)/\nx=nx'') ?_ ?_
 ·have zz:=aI @t0 (aI @t1 (aI @t2 (aI @t3 (aI @t4 (aI @ta @te)))));repeat' (first|apply a_n|refine zO ?_|refine vZ ?_|fail)
  exact⟨_,a+1,m,by rw[hm];exact .start (by omega),(have zz:=@t0;evZ),(have zz:=@t1;evZ),(have zz:=@t4;evZ),ev0,ev0,rfl,rfl⟩
 clear t0 t1 t2 t3 t4 ta te hm m;rintro T _ _ ⟨mu,i,j,hpt,t0,t1,t4,t12,t13,rfl,rfl⟩;have hl:M.length=n:=by rw[hp.len,hn]
 have hGM:=hp.mem hG;refine cR (λT H'' nx''=>∃i:Nat,PartR P a e mu i j M/\(i<=j->¬P (M.getD i default))/\T 0=.msl b n 1 0 n/\T 1=.int .i64 a/\T 4=.func g caps/\T 12=.int .i64 (i:Nat)/\T 13=.int .i64 (j:Nat)/\H''=ao H b ((M).map f)/\nx=nx'') ?_ ?_
 ·have zz:=aI @t0 (aI @t1 (aI @t4 (aI @t12 @t13)));repeat' (first|refine zW ?_|apply a_n|refine zO ?_|fail)
  refine ca (X:=Nat) (λi=>[(0,.msl b n 1 0 n),(1,.int .i64 a),(4,.func g caps),(12,.int .i64 (i:Nat)),(13,.int .i64 (j:Nat))]) (λi H' nxx=>PartR P a e mu i j M/\H'=ao H b (M.map f)/\nx=nxx) (λi=>j+1-i) i ⟨hpt,rfl,rfl⟩ (have zz:=aI @t0 (aI @t1 (aI @t4 (aI @t12 @t13)));agZ) ?_;clear zz;clear t0 t1 t4 t12 t13 hpt i;rintro i H' nxx ⟨hpt,rfl,rfl⟩;have hlo:=hpt.lo;have hmid:=hpt.mid;have hhi:=hpt.hi;have ii:((i:Nat):Int)+1=((i+1:Nat):Int):=by omega
  by_cases hij:j<i
  ·repeat' (first|refine zW ?_|refine zM ?_|apply a_n|apply a_x|refine zO ?_|refine vZ ?_|refine gFZ ?_|(refine zGZ ?_ ?_<;>(intro _hg;try (exfalso;omega)))|refine cFZ ?_|fail)
   exact⟨i,hpt,λh=>absurd h (by omega),rfl,rfl,rfl,rfl,rfl,rfl,rfl⟩
  have lc:=hc.run (M.getD (i) default) (M.getD (a) default) (hGM _ (bg (by omega))) (hGM _ (bg (by omega)));have e1:=hc.dat (M.getD (i) default);have e2:=hc.dat (M.getD (a) default);have hPk:P (M.getD (i) default)↔K (M.getD (i) default) (M.getD (a) default)<0:=by rw[hP,hv]
  generalize hKK:K (M.getD (i) default) (M.getD (a) default)=kk at lc hPk;by_cases hlt:kk<0
  ·have zz:=aI @ii (aI @cC (aI hc.cells hc.one));repeat' (first|refine zW ?_|refine zM ?_|apply a_n|refine zO ?_|refine vZ ?_|refine cZ ?_ (hp:=lc) (hs:=by(first|refine aB ?_ rfl|apply aL);(repeat' (first|exact aj|apply bk|apply aN|exact e1|exact e2|exact bq dcap));first|done|fail)|refine gTZ ?_|(refine zGZ ?_ ?_<;>(intro _hg;try (exfalso;omega)))|fail)
   exact⟨i+1,by omega,⟨hpt.stepUp (by omega) (by rw[hPk];exact hlt),rfl,rfl⟩,ag0⟩
  ·have zz:=aI @ii (aI @cC (aI hc.cells hc.one));repeat' (first|refine zW ?_|refine zM ?_|apply a_n|apply a_x|refine zO ?_|refine vZ ?_|refine cZ ?_ (hp:=lc) (hs:=by(first|refine aB ?_ rfl|apply aL);(repeat' (first|exact aj|apply bk|apply aN|exact e1|exact e2|exact bq dcap));first|done|fail)|refine gTZ ?_|(refine zGZ ?_ ?_<;>(intro _hg;try (exfalso;omega)))|fail)
   exact⟨i,hpt,λ_=>(by rw[hPk];first|exact hlt|exact λh=>h hlt),rfl,rfl,rfl,rfl,rfl,rfl,rfl⟩
 clear t0 t1 t4 t12 t13 hpt i;rintro T _ _ ⟨i,hpt,hni,t0,t1,t4,t12,t13,rfl,rfl⟩;refine cR (λT H'' nx''=>∃j:Nat,PartR P a e mu i j M/\(i<=j->¬P (M.getD i default))/\(i<=j->P (M.getD j default))/\T 0=.msl b n 1 0 n/\T 1=.int .i64 a/\T 4=.func g caps/\T 12=.int .i64 (i:Nat)/\T 13=.int .i64 (j:Nat)/\H''=ao H b ((M).map f)/\nx=nx'') ?_ ?_
 ·have zz:=aI @t0 (aI @t1 (aI @t4 (aI @t12 @t13)));repeat' (first|refine zW ?_|apply a_n|refine zO ?_|fail)
  refine ca (X:=Nat) (λj=>[(0,.msl b n 1 0 n),(1,.int .i64 a),(4,.func g caps),(12,.int .i64 (i:Nat)),(13,.int .i64 (j:Nat))]) (λj H' nxx=>PartR P a e mu i j M/\(i<=j->¬P (M.getD i default))/\H'=ao H b (M.map f)/\nx=nxx) (λj=>j) j ⟨hpt,hni,rfl,rfl⟩ (have zz:=aI @t0 (aI @t1 (aI @t4 (aI @t12 @t13)));agZ) ?_;clear zz;clear t0 t1 t4 t12 t13 hpt hni j;rintro j H' nxx ⟨hpt,hni,rfl,rfl⟩;have hlo:=hpt.lo;have hmid:=hpt.mid;have hhi:=hpt.hi;by_cases hij:j<i
  ·repeat' (first|refine zW ?_|refine zM ?_|apply a_n|apply a_x|refine zO ?_|refine vZ ?_|refine gFZ ?_|(refine zGZ ?_ ?_<;>(intro _hg;try (exfalso;omega)))|refine cFZ ?_|fail)
   exact⟨j,hpt,hni,λh=>absurd h (by omega),rfl,rfl,rfl,rfl,rfl,rfl,rfl⟩
  obtain⟨k,rfl⟩:∃k,j=k+1:=⟨j-1,by omega⟩
  have tk:((k+1:Nat):Int)-1=(k:Int):=by omega
  have lc:=hc.run (M.getD (k+1) default) (M.getD (a) default) (hGM _ (bg (by omega))) (hGM _ (bg (by omega)));have e1:=hc.dat (M.getD (k+1) default);have e2:=hc.dat (M.getD (a) default);have hPk:P (M.getD (k+1) default)↔K (M.getD (k+1) default) (M.getD (a) default)<0:=by rw[hP,hv]
  generalize hKK:K (M.getD (k+1) default) (M.getD (a) default)=kk at lc hPk;by_cases hlt:kk<0
  ·have zz:=aI @tk (aI @cC (aI hc.cells hc.one));repeat' (first|refine zW ?_|refine zM ?_|apply a_n|apply a_x|refine zO ?_|refine vZ ?_|refine cZ ?_ (hp:=lc) (hs:=by(first|refine aB ?_ rfl|apply aL);(repeat' (first|exact aj|apply bk|apply aN|exact e1|exact e2|exact bq dcap));first|done|fail)|refine gTZ ?_|(refine zGZ ?_ ?_<;>(intro _hg;try (exfalso;omega)))|fail)
   exact⟨k+1,hpt,hni,λ_=>(by rw[hPk];exact hlt),rfl,rfl,rfl,rfl,rfl,rfl,rfl⟩
  ·have zz:=aI @tk (aI @cC (aI hc.cells hc.one));repeat' (first|refine zW ?_|refine zM ?_|apply a_n|refine zO ?_|refine vZ ?_|refine cZ ?_ (hp:=lc) (hs:=by(first|refine aB ?_ rfl|apply aL);(repeat' (first|exact aj|apply bk|apply aN|exact e1|exact e2|exact bq dcap));first|done|fail)|refine gTZ ?_|(refine zGZ ?_ ?_<;>(intro _hg;try (exfalso;omega)))|fail)
   exact⟨k,by omega,⟨hpt.stepDn (by omega) (by rw[hPk];first|exact hlt|exact λh=>h hlt),λ_=>hni (by omega),rfl,rfl⟩,ag0⟩
 clear t0 t1 t4 t12 t13 hpt hni j;rintro T _ _ ⟨j,hpt,hni,hnj,t0,t1,t4,t12,t13,rfl,rfl⟩;have hlo:=hpt.lo;have hmid:=hpt.mid;have hhi:=hpt.hi;by_cases hji:j<i
 ·clear hni hnj;obtain⟨z1,z2,z3,z4⟩:=hpt.done hc.ord (by omega) hji hv hP;obtain⟨M1,hl1,lm1,lm2⟩:=eJ (f:=f) (M:=M) (i:=j) (j:=a) (by omega) (by omega);have lm3:=lm2;simp only[bB,bL,eW,cE] at lm1 lm2;have zz:=aI @t0 (aI @t1 (aI @t4 (aI @t12 (aI @t13 (aI @cC (aI hc.cells (aI hc.one (aI @lm1 @lm2))))))));repeat' (first|refine zW ?_|apply a_n|apply a_r|refine zO ?_|refine vZ ?_|refine stZ ?_|(refine zGZ ?_ ?_<;>(intro _hg;try (exfalso;omega)))|refine bC rfl ?_|refine r2Z ?_|fail)
  exact⟨rfl,swp M j a,j,true,rfl,z1,z2,by rw[a7,a7,lm3],hp.trans (PermR.swap (by omega) (by omega) (by omega)),z3,z4⟩
 obtain⟨k,rfl⟩:∃k,j=k+1:=⟨j-1,by omega⟩
 have tk:((k+1:Nat):Int)-1=(k:Int):=by omega
 have ii:((i:Nat):Int)+1=((i+1:Nat):Int):=by omega
 obtain⟨M1,hl1,lm1,lm2⟩:=eJ (f:=f) (M:=M) (i:=i) (j:=k+1) (by omega) (by omega);have lm3:=lm2;simp only[bB,bL,eW,cE] at lm1 lm2;have zz:=aI @t0 (aI @t1 (aI @t4 (aI @t12 (aI @t13 (aI @tk (aI @ii (aI @cC (aI hc.cells (aI hc.one (aI @lm1 @lm2))))))))));repeat' (first|refine zW ?_|apply a_n|refine zO ?_|refine vZ ?_|refine stZ ?_|(refine zGZ ?_ ?_<;>(intro _hg;try (exfalso;omega)))|fail)
 obtain⟨hq1,hq2⟩:=hpt.swap (by omega) (by omega) (hni (by omega)) (hnj (by omega));have hp2:PermR a e L (swp M i (k+1)):=hp.trans (PermR.swap (by omega) (by omega) (by omega));have hv2:(swp M i (k+1)).getD a default=v:=by rw[u5 (by omega) (by omega) (by omega) (by omega)];exact hv
 refine ca (X:=Nat×Nat×List α) (λx=>[(0,.msl b n 1 0 n),(1,.int .i64 a),(4,.func g caps),(12,.int .i64 (x.1:Nat)),(13,.int .i64 (x.2.1:Nat))]) (λx H' nxx=>PartR P a e (x.2.1+1-x.1) x.1 x.2.1 x.2.2/\H'=ao H b (x.2.2.map f)/\nx=nxx/\PermR a e L x.2.2/\x.2.2.getD a default=v) (λx=>x.2.1+1-x.1) (i+1,k,swp M i (k+1)) ⟨hq1,by dsimp only;rw[a7,a7,lm3],rfl,hp2,hv2⟩ (have zz:=aI @t0 (aI @t1 (aI @t4 (aI @t12 @t13)));agZ) ?_;clear zz;clear t0 t1 t4 t12 t13 lm1 lm2 lm3 hl1 M1 hp2 hv2 hq1 hq2 hpt hni hnj hp hv hGM;rintro⟨i,j,M⟩ H' nxx ⟨hpt,rfl,rfl,hp,hv⟩;dsimp only at *;have hl:M.length=n:=by rw[hp.len,hn]
 have hGM:=hp.mem hG;generalize hmu:j+1-i=mu at hpt |-;clear hmu;obtain⟨T,hT,t0,t1,t4,t12,t13⟩:∃T,tl [(0,.msl b n 1 0 n),(1,.int .i64 a),(4,.func g caps),(12,.int .i64 (i:Nat)),(13,.int .i64 (j:Nat))]=T/\T 0=.msl b n 1 0 n/\T 1=.int .i64 a/\T 4=.func g caps/\T 12=.int .i64 (i:Nat)/\T 13=.int .i64 (j:Nat):=⟨_,rfl,rfl,rfl,rfl,rfl,rfl⟩
 rw[hT];clear hT;refine mI ?_;refine cR (λT H'' nx''=>∃i:Nat,PartR P a e mu i j M/\(i<=j->¬P (M.getD i default))/\T 0=.msl b n 1 0 n/\T 1=.int .i64 a/\T 4=.func g caps/\T 12=.int .i64 (i:Nat)/\T 13=.int .i64 (j:Nat)/\H''=ao H b ((M).map f)/\nx=nx'') ?_ ?_
 ·have zz:=aI @t0 (aI @t1 (aI @t4 (aI @t12 @t13)));repeat' (first|refine zW ?_|apply a_n|refine zO ?_|fail)
  refine ca (X:=Nat) (λi=>[(0,.msl b n 1 0 n),(1,.int .i64 a),(4,.func g caps),(12,.int .i64 (i:Nat)),(13,.int .i64 (j:Nat))]) (λi H' nxx=>PartR P a e mu i j M/\H'=ao H b (M.map f)/\nx=nxx) (λi=>j+1-i) i ⟨hpt,rfl,rfl⟩ (have zz:=aI @t0 (aI @t1 (aI @t4 (aI @t12 @t13)));agZ) ?_;clear zz;clear t0 t1 t4 t12 t13 hpt i;rintro i H' nxx ⟨hpt,rfl,rfl⟩;have hlo:=hpt.lo;have hmid:=hpt.mid;have hhi:=hpt.hi;have ii:((i:Nat):Int)+1=((i+1:Nat):Int):=by omega
  by_cases hij:j<i
  ·repeat' (first|refine zW ?_|refine zM ?_|apply a_n|apply a_x|refine zO ?_|refine vZ ?_|refine gFZ ?_|(refine zGZ ?_ ?_<;>(intro _hg;try (exfalso;omega)))|refine cFZ ?_|fail)
   exact⟨i,hpt,λh=>absurd h (by omega),rfl,rfl,rfl,rfl,rfl,rfl,rfl⟩
  have lc:=hc.run (M.getD (i) default) (M.getD (a) default) (hGM _ (bg (by omega))) (hGM _ (bg (by omega)));have e1:=hc.dat (M.getD (i) default);have e2:=hc.dat (M.getD (a) default);have hPk:P (M.getD (i) default)↔K (M.getD (i) default) (M.getD (a) default)<0:=by rw[hP,hv]
  generalize hKK:K (M.getD (i) default) (M.getD (a) default)=kk at lc hPk;by_cases hlt:kk<0
  ·have zz:=aI @ii (aI @cC (aI hc.cells hc.one));repeat' (first|refine zW ?_|refine zM ?_|apply a_n|refine zO ?_|refine vZ ?_|refine cZ ?_ (hp:=lc) (hs:=by(first|refine aB ?_ rfl|apply aL);(repeat' (first|exact aj|apply bk|apply aN|exact e1|exact e2|exact bq dcap));first|done|fail)|refine gTZ ?_|(refine zGZ ?_ ?_<;>(intro _hg;try (exfalso;omega)))|fail)
   exact⟨i+1,by omega,⟨hpt.stepUp (by omega) (by rw[hPk];exact hlt),rfl,rfl⟩,ag0⟩
  ·have zz:=aI @ii (aI @cC (aI hc.cells hc.one));repeat' (first|refine zW ?_|refine zM ?_|apply a_n|apply a_x|refine zO ?_|refine vZ ?_|refine cZ ?_ (hp:=lc) (hs:=by(first|refine aB ?_ rfl|apply aL);(repeat' (first|exact aj|apply bk|apply aN|exact e1|exact e2|exact bq dcap));first|done|fail)|refine gTZ ?_|(refine zGZ ?_ ?_<;>(intro _hg;try (exfalso;omega)))|fail)
   exact⟨i,hpt,λ_=>(by rw[hPk];first|exact hlt|exact λh=>h hlt),rfl,rfl,rfl,rfl,rfl,rfl,rfl⟩
 clear t0 t1 t4 t12 t13 hpt i;rintro T _ _ ⟨i,hpt,hni,t0,t1,t4,t12,t13,rfl,rfl⟩;refine cR (λT H'' nx''=>∃j:Nat,PartR P a e mu i j M/\(i<=j->¬P (M.getD i default))/\(i<=j->P (M.getD j default))/\T 0=.msl b n 1 0 n/\T 1=.int .i64 a/\T 4=.func g caps/\T 12=.int .i64 (i:Nat)/\T 13=.int .i64 (j:Nat)/\H''=ao H b ((M).map f)/\nx=nx'') ?_ ?_
 ·have zz:=aI @t0 (aI @t1 (aI @t4 (aI @t12 @t13)));repeat' (first|refine zW ?_|apply a_n|refine zO ?_|fail)
  refine ca (X:=Nat) (λj=>[(0,.msl b n 1 0 n),(1,.int .i64 a),(4,.func g caps),(12,.int .i64 (i:Nat)),(13,.int .i64 (j:Nat))]) (λj H' nxx=>PartR P a e mu i j M/\(i<=j->¬P (M.getD i default))/\H'=ao H b (M.map f)/\nx=nxx) (λj=>j) j ⟨hpt,hni,rfl,rfl⟩ (have zz:=aI @t0 (aI @t1 (aI @t4 (aI @t12 @t13)));agZ) ?_;clear zz;clear t0 t1 t4 t12 t13 hpt hni j;rintro j H' nxx ⟨hpt,hni,rfl,rfl⟩;have hlo:=hpt.lo;have hmid:=hpt.mid;have hhi:=hpt.hi;by_cases hij:j<i
  ·repeat' (first|refine zW ?_|refine zM ?_|apply a_n|apply a_x|refine zO ?_|refine vZ ?_|refine gFZ ?_|(refine zGZ ?_ ?_<;>(intro _hg;try (exfalso;omega)))|refine cFZ ?_|fail)
   exact⟨j,hpt,hni,λh=>absurd h (by omega),rfl,rfl,rfl,rfl,rfl,rfl,rfl⟩
  obtain⟨k,rfl⟩:∃k,j=k+1:=⟨j-1,by omega⟩
  have tk:((k+1:Nat):Int)-1=(k:Int):=by omega
  have lc:=hc.run (M.getD (k+1) default) (M.getD (a) default) (hGM _ (bg (by omega))) (hGM _ (bg (by omega)));have e1:=hc.dat (M.getD (k+1) default);have e2:=hc.dat (M.getD (a) default);have hPk:P (M.getD (k+1) default)↔K (M.getD (k+1) default) (M.getD (a) default)<0:=by rw[hP,hv]
  generalize hKK:K (M.getD (k+1) default) (M.getD (a) default)=kk at lc hPk;by_cases hlt:kk<0
  ·have zz:=aI @tk (aI @cC (aI hc.cells hc.one));repeat' (first|refine zW ?_|refine zM ?_|apply a_n|apply a_x|refine zO ?_|refine vZ ?_|refine cZ ?_ (hp:=lc) (hs:=by(first|refine aB ?_ rfl|apply aL);(repeat' (first|exact aj|apply bk|apply aN|exact e1|exact e2|exact bq dcap));first|done|fail)|refine gTZ ?_|(refine zGZ ?_ ?_<;>(intro _hg;try (exfalso;omega)))|fail)
   exact⟨k+1,hpt,hni,λ_=>(by rw[hPk];exact hlt),rfl,rfl,rfl,rfl,rfl,rfl,rfl⟩
  ·have zz:=aI @tk (aI @cC (aI hc.cells hc.one));repeat' (first|refine zW ?_|refine zM ?_|apply a_n|refine zO ?_|refine vZ ?_|refine cZ ?_ (hp:=lc) (hs:=by(first|refine aB ?_ rfl|apply aL);(repeat' (first|exact aj|apply bk|apply aN|exact e1|exact e2|exact bq dcap));first|done|fail)|refine gTZ ?_|(refine zGZ ?_ ?_<;>(intro _hg;try (exfalso;omega)))|fail)
   exact⟨k,by omega,⟨hpt.stepDn (by omega) (by rw[hPk];first|exact hlt|exact λh=>h hlt),λ_=>hni (by omega),rfl,rfl⟩,ag0⟩
 clear t0 t1 t4 t12 t13 hpt hni j;rintro T _ _ ⟨j,hpt,hni,hnj,t0,t1,t4,t12,t13,rfl,rfl⟩;have hlo:=hpt.lo;have hmid:=hpt.mid;have hhi:=hpt.hi;by_cases hji:j<i
 ·clear hni hnj;obtain⟨z1,z2,z3,z4⟩:=hpt.done hc.ord (by omega) hji hv hP;obtain⟨M1,hl1,lm1,lm2⟩:=eJ (f:=f) (M:=M) (i:=j) (j:=a) (by omega) (by omega);have lm3:=lm2;simp only[bB,bL,eW,cE] at lm1 lm2;have zz:=aI @t0 (aI @t1 (aI @t4 (aI @t12 (aI @t13 (aI @cC (aI hc.cells (aI hc.one (aI @lm1 @lm2))))))));repeat' (first|refine zW ?_|apply a_n|apply a_x|refine zO ?_|refine vZ ?_|refine stZ ?_|(refine zGZ ?_ ?_<;>(intro _hg;try (exfalso;omega)))|refine bC rfl ?_|refine r2Z ?_|fail)
  exact⟨rfl,swp M j a,j,false,rfl,z1,z2,by rw[a7,a7,lm3],hp.trans (PermR.swap (by omega) (by omega) (by omega)),z3,z4⟩
 obtain⟨k,rfl⟩:∃k,j=k+1:=⟨j-1,by omega⟩
 have tk:((k+1:Nat):Int)-1=(k:Int):=by omega
 have ii:((i:Nat):Int)+1=((i+1:Nat):Int):=by omega
 obtain⟨M1,hl1,lm1,lm2⟩:=eJ (f:=f) (M:=M) (i:=i) (j:=k+1) (by omega) (by omega);have lm3:=lm2;simp only[bB,bL,eW,cE] at lm1 lm2;have zz:=aI @t0 (aI @t1 (aI @t4 (aI @t12 (aI @t13 (aI @tk (aI @ii (aI @cC (aI hc.cells (aI hc.one (aI @lm1 @lm2))))))))));repeat' (first|refine zW ?_|apply a_n|refine zO ?_|refine vZ ?_|refine stZ ?_|(refine zGZ ?_ ?_<;>(intro _hg;try (exfalso;omega)))|fail)
 obtain⟨hq1,hq2⟩:=hpt.swap (by omega) (by omega) (hni (by omega)) (hnj (by omega));exact⟨(i+1,k,swp M i (k+1)),hq2,⟨hq1,by dsimp only;rw[a7,a7,lm3],rfl,hp.trans (PermR.swap (by omega) (by omega) (by omega)),by dsimp only;rw[u5 (by omega) (by omega) (by omega) (by omega)];exact hv⟩,(have zz:=aI @t0 (aI @t1 (aI @t4 (aI @t12 @t13)));agZ)⟩
end
section
attribute [local irreducible] aM am bn aZ aS aV aD aX ba bw Go.Abs.Fn aY Go.Abs.Pure aq aO Yl
section
variable{α:Type}[Inhabited α]{f:α->AV}{K:α->α->Int}{G:α->Prop}{g:Nat}{caps:List AV}
theorem uY(hc:Cmp Tryz.prog f K G g caps){L:List α}{H:Hp}{b c nx n i j k s lo hi:Nat}(hH:H b=some (L.map f))(hbc:b≠c)(hcc:H c=some [.int .i64 (s:Nat)])(hn:L.length=n)(hG:∀x∈L,G x)(hi1:lo<=i/\i<hi)(hj1:lo<=j/\j<hi)(hk1:lo<=k/\k<hi)(hhi:hi<=n)(hn2:n<=1000000000)(hs:s<=50):
    Abs.Fn Tryz.prog 201 [.msl b n 1 0 n,.int .i64 i,.int .i64 j,.int .i64 k,.ptr c 1 0,.func g caps] H nx λr H' nx'=>nx'=nx/\∃p s':Nat,r=.int .i64 p/\lo<=p/\p<hi/\s'<=s+3/\H'=ao H c [.int .i64 s']:=by
 refine fO OV ?_;simp only[NG,aK];refine wnZ and_self ?_;refine aU ev0 ev0 (vq hc (b:=b) hH hcc hn hG (i:=i) (j:=j) (by omega) (by omega) hn2 (by omega)) ?_;rintro _ _ _ ⟨rfl,i1,j1,s1,rfl,h1,hs1,rfl⟩;refine wnZ and_self ?_;refine aU ev0 ev0 (vq hc (b:=b) (by rw[ab hbc];exact hH) ae hn hG (i:=j1) (j:=k) (by omega) (by omega) hn2 (by omega)) ?_;rintro _ _ _ ⟨rfl,j2,k2,s2,rfl,h2,hs2,rfl⟩;refine wnZ and_self ?_;refine aU ev0 ev0 (vq hc (b:=b) (by rw[a7,ab hbc];exact hH) ae hn hG (i:=i1) (j:=j2) (by omega) (by omega) hn2 (by omega)) ?_;rintro _ _ _ ⟨rfl,i3,j3,s3,rfl,h3,hs3,rfl⟩;refine wnZ and_self ?_;exact⟨rfl,j3,s3,rfl,by omega,by omega,by omega,by rw[a7,a7]⟩
theorem uH(hc:Cmp Tryz.prog f K G g caps){L:List α}{H:Hp}{b c nx n i s lo hi:Nat}(hH:H b=some (L.map f))(hbc:b≠c)(hcc:H c=some [.int .i64 (s:Nat)])(hn:L.length=n)(hG:∀x∈L,G x)(hi1:lo+1<=i/\i+1<hi)(hhi:hi<=n)(hn2:n<=1000000000)(hs:s<=50):
    Abs.Fn Tryz.prog 200 [.msl b n 1 0 n,.int .i64 i,.ptr c 1 0,.func g caps] H nx λr H' nx'=>nx'=nx/\∃p s':Nat,r=.int .i64 p/\lo<=p/\p<hi/\s'<=s+3/\H'=ao H c [.int .i64 s']:=by
 obtain⟨m,rfl⟩:∃m,i=m+1:=⟨i-1,by omega⟩
 have t1:((m+1:Nat):Int)-1=(m:Int):=by omega
 have t2:((m+1:Nat):Int)+1=((m+1+1:Nat):Int):=by omega
 refine fO MU ?_;simp only[M8,aK];refine wnZ (aI @t1 @t2) ?_;refine aU ev0 ev0 (uY hc (b:=b) hH hbc hcc hn hG (i:=m) (j:=m+1) (k:=m+1+1) (lo:=lo) (hi:=hi) (by omega) (by omega) (by omega) hhi hn2 hs) ?_;rintro _ _ _ ⟨rfl,p,s1,rfl,h1,h2,hs1,rfl⟩;refine wnZ and_self ?_;exact⟨rfl,p,s1,rfl,h1,h2,hs1,rfl⟩
theorem Hr(hc:Cmp Tryz.prog f K G g caps){L:List α}{H:Hp}{b nx n a e:Nat}(hH:H b=some (L.map f))(hbx:b<nx)(hn:L.length=n)(hG:∀x∈L,G x)(hae:a+8<=e)(hen:e<=n)(hn2:n<=1000000000):
    Abs.Fn Tryz.prog 169 [.msl b n 1 0 n,.int .i64 a,.int .i64 e,.func g caps] H nx λr H' nx'=>nx'=nx+1/\∃(p:Nat)(hint:Int)(v:List AV),r=.tup [.int .i64 p,.int .i64 hint]/\a<=p/\p<e/\H'=ao H nx v:=by
 obtain⟨l,rfl⟩:∃l,e=a+l:=⟨e-a,by omega⟩
 have te:((a+l:Nat):Int)-(a:Int)=(l:Int):=by omega
 obtain⟨q,hq⟩:∃q,l/4=q:=⟨_,rfl⟩
 have tq:bE .quo false false (.int .i64 (l:Int)) (.int .i64 4)=some (.int .i64 (q:Int)):=by
  rw[qw (by omega) (by omega) (by omega)]
  congr 2
  omega
 have w1:(a:Int)+(q:Int)*1=((a+q:Nat):Int):=by omega
 have w2:(a:Int)+(q:Int)*2=((a+q*2:Nat):Int):=by omega
 have w3:(a:Int)+(q:Int)*3=((a+q*3:Nat):Int):=by omega
 have hbn:b≠nx:=by omega
 refine fO NY ?_;simp only[NA,aK];have last:∀(s:Nat)(H1:Hp),H1=ao (ao H nx [.int .i64 0]) nx [.int .i64 s]->H1 nx=some [.int .i64 (s:Nat)]:=λs H1 h=>by rw[h];exact ae
 have hHn:∀v,ao H nx v b=some (L.map f):=λv=>by rw[ab hbn];exact hH
 by_cases h50:50<=l
 ·refine wnZ (zI5 @te @tq @w1 @w2 @w3) ?_;refine aU ev0 ev0 (uH hc (b:=b) (c:=nx) (s:=0) (i:=a+q) (lo:=a) (hi:=a+l) (hHn _) hbn ae hn hG (by omega) (by omega) hn2 (by omega)) ?_;rintro _ _ _ ⟨rfl,p1,s1,rfl,k1,k2,hs1,rfl⟩;rw[a7];refine wnZ and_self ?_;refine aU ev0 ev0 (uH hc (b:=b) (c:=nx) (s:=s1) (i:=a+q*2) (lo:=a) (hi:=a+l) (hHn _) hbn ae hn hG (by omega) (by omega) hn2 (by omega)) ?_;rintro _ _ _ ⟨rfl,p2,s2,rfl,k3,k4,hs2,rfl⟩;rw[a7];refine wnZ and_self ?_;refine aU ev0 ev0 (uH hc (b:=b) (c:=nx) (s:=s2) (i:=a+q*3) (lo:=a) (hi:=a+l) (hHn _) hbn ae hn hG (by omega) (by omega) hn2 (by omega)) ?_;rintro _ _ _ ⟨rfl,p3,s3,rfl,k5,k6,hs3,rfl⟩;rw[a7];refine wnZ and_self ?_;refine aU ev0 ev0 (uY hc (b:=b) (c:=nx) (s:=s3) (i:=p1) (j:=p2) (k:=p3) (lo:=a) (hi:=a+l) (hHn _) hbn ae hn hG (by omega) (by omega) (by omega) (by omega) hn2 (by omega)) ?_;rintro _ _ _ ⟨rfl,p4,s4,rfl,k7,k8,hs4,rfl⟩;rw[a7]
  repeat' (first|refine zW ?_|apply a_n|refine zO ?_|refine vZ ?_|(refine zGZ ?_ ?_<;>(intro _hg;try (exfalso;omega)))|refine bC rfl ?_|refine r2Z ?_|fail)
  all_goals exact⟨rfl,p4,_,_,rfl,by omega,by omega,rfl⟩
 ·refine wnZ (zI5 @te @tq @w1 @w2 @w3) ?_;refine aU ev0 ev0 (uY hc (b:=b) (c:=nx) (s:=0) (i:=a+q) (j:=a+q*2) (k:=a+q*3) (lo:=a) (hi:=a+l) (hHn _) hbn ae hn hG (by omega) (by omega) (by omega) (by omega) hn2 (by omega)) ?_;rintro _ _ _ ⟨rfl,p4,s4,rfl,k7,k8,hs4,rfl⟩;rw[a7]
  repeat' (first|refine zW ?_|apply a_n|refine zO ?_|refine vZ ?_|(refine zGZ ?_ ?_<;>(intro _hg;try (exfalso;omega)))|refine bC rfl ?_|refine r2Z ?_|fail)
  all_goals exact⟨rfl,p4,_,_,rfl,by omega,by omega,rfl⟩
end
end
end Go.Proofs.YtekdaafnjdlenaaGreat
namespace Go.Proofs.YtekdaafnjdlenaaGreat
open Go Go.Abs
def pZ(x:Nat):Nat:=if x=0 then 0 else Nat.log2 x+1
def tU:ByteArray:=ByteArray.mk (Array.mk [0,1,2,2,3,3,3,3,4,4,4,4,4,4,4,4,5,5,5,5,5,5,5,5,5,5,5,5,5,5,5,5,6,6,6,6,6,6,6,6,6,6,6,6,6,6,6,6,6,6,6,6,6,6,6,6,6,6,6,6,6,6,6,6,7,7,7,7,7,7,7,7,7,7,7,7,7,7,7,7,7,7,7,7,7,7,7,7,7,7,7,7,7,7,7,7,7,7,7,7,7,7,7,7,7,7,7,7,7,7,7,7,7,7,7,7,7,7,7,7,7,7,7,7,7,7,7,7,8,8,8,8,8,8,8,8,8,8,8,8,8,8,8,8,8,8,8,8,8,8,8,8,8,8,8,8,8,8,8,8,8,8,8,8,8,8,8,8,8,8,8,8,8,8,8,8,8,8,8,8,8,8,8,8,8,8,8,8,8,8,8,8,8,8,8,8,8,8,8,8,8,8,8,8,8,8,8,8,8,8,8,8,8,8,8,8,8,8,8,8,8,8,8,8,8,8,8,8,8,8,8,8,8,8,8,8,8,8,8,8,8,8,8,8,8,8,8,8,8,8,8,8,8,8,8,8])
theorem Kg(x:Nat):x<2^pZ x:=by
 unfold pZ;split
 ·omega
 ·exact Nat.lt_log2_self
theorem Ev{x:Nat}(h:0<x):2^pZ x<=2*x:=by
 unfold pZ;rw[if_neg (by omega),Nat.pow_succ];have:=Nat.log2_self_le (n:=x) (by omega);omega
theorem Bp{x:Nat}(hx:x<256):pD (.str (ByteArray.mk (Array.mk [0,1,2,2,3,3,3,3,4,4,4,4,4,4,4,4,5,5,5,5,5,5,5,5,5,5,5,5,5,5,5,5,6,6,6,6,6,6,6,6,6,6,6,6,6,6,6,6,6,6,6,6,6,6,6,6,6,6,6,6,6,6,6,6,7,7,7,7,7,7,7,7,7,7,7,7,7,7,7,7,7,7,7,7,7,7,7,7,7,7,7,7,7,7,7,7,7,7,7,7,7,7,7,7,7,7,7,7,7,7,7,7,7,7,7,7,7,7,7,7,7,7,7,7,7,7,7,7,8,8,8,8,8,8,8,8,8,8,8,8,8,8,8,8,8,8,8,8,8,8,8,8,8,8,8,8,8,8,8,8,8,8,8,8,8,8,8,8,8,8,8,8,8,8,8,8,8,8,8,8,8,8,8,8,8,8,8,8,8,8,8,8,8,8,8,8,8,8,8,8,8,8,8,8,8,8,8,8,8,8,8,8,8,8,8,8,8,8,8,8,8,8,8,8,8,8,8,8,8,8,8,8,8,8,8,8,8,8,8,8,8,8,8,8,8,8,8,8,8,8,8,8,8,8,8,8]))) (.int .u8 (x:Nat))=some (.int .u8 (pZ x:Nat)):=by
 have h1:tU.size=256:=by decide+kernel
 have h2:∀i:Fin 256,(tU[i.val]?.getD 0).toNat=pZ i.val:=by decide+kernel
 rw[SV2.2];have h3:=h2 ⟨x,hx⟩;change (if 0<=(x:Int)/\(x:Int)<tU.size then some (AV.int .u8 (tU[(x:Int).toNat]?.getD 0).toNat) else none)=_;rw[if_pos ⟨by omega,by rw[h1];omega⟩,cC];simp only at h3;rw[h3]
theorem tI{x s k:Nat}(hk:k=pZ (x/2^s))(h:0<x/2^s):x<2^(k+s)/\2^(k+s)<=2*x:=by
 subst hk;have h1:=Kg (x/2^s);have h2:=Ev h;have hp:0<2^s:=Nat.pow_pos (by omega);rw[Nat.pow_add];constructor
 ·have:=(Nat.div_lt_iff_lt_mul hp).1 h1;exact this
 ·calc 2^pZ (x/2^s)*2^s<=2*(x/2^s)*2^s:=mO _ h2
    _=2*(x/2^s*2^s):=by rw[Nat.mul_assoc]
    _<=2*x:=Nat.mul_le_mul_left _ (Nat.div_mul_le_self x (2^s))
theorem mB{x:Nat}(hx:x<256):pZ x<=8:=by
 rcases Dm x with e|e
 ·subst e;decide
 ·have h:=Ev e;rcases wn 8 (pZ x) with h1|h1
  ·have:=Nat.pow_le_pow_right (n:=2) (by omega) h1;omega
  ·exact h1
theorem gR{x:Int}(h:0<=x)(h2:x<18446744073709551616):IntKind.wrap .u64 x=x:=by
 simp only[IntKind.bits,IntKind.wrap,IntKind.signed];simp;omega
theorem vI{x:Int}(h:0<=x)(h2:x<256):IntKind.wrap .u8 x=x:=by
 simp only[IntKind.bits,IntKind.wrap,IntKind.signed];simp;omega
def xr(a b:Int):Int:=IntKind.wrap .u64 (BitVec.ofInt 64 a ^^^ BitVec.ofInt 64 b).toNat
def Nw(a:Int):Int:=IntKind.wrap .u64 (a*2^13)
def OM(a:Int):Int:=IntKind.wrap .u64 (a*2^17)
def sr7(a:Int):Int:=a.fdiv (2^7)
theorem SX:(∀a b:Int,bE .xor false false (.int .u64 a) (.int .u64 b)=some (.int .u64 (xr a b)))/\(∀a:Int,bE .shl false false (.int .u64 a) (.int .u64 13)=some (.int .u64 (Nw a)))/\
    (∀a:Int,bE .shl false false (.int .u64 a) (.int .u64 17)=some (.int .u64 (OM a)))/\(∀a:Int,bE .shr false false (.int .u64 a) (.int .u64 7)=some (.int .u64 (sr7 a))):=
 ⟨λ_ _=>rfl,λ_=>rfl,λ_=>rfl,λ_=>rfl⟩
attribute [irreducible] xr Nw OM sr7
attribute [local irreducible] aM am bn aZ aS aV aD aX ba bw Go.Abs.Fn aY Go.Abs.Pure aq aO Yl
theorem LX{H:Hp}{c nx:Nat}{s:Int}(hcc:H c=some [.int .u64 s]):Abs.Fn Tryz.prog 199 [.ptr c 1 0] H nx λr H' nx'=>nx'=nx/\∃s':Int,r=.int .u64 s'/\H'=ao H c [.int .u64 s']:=by
 refine fO NN ?_;simp only[N6,aK];have ls:∀x y:AV,bB [x] 0 [y]=[y]:=λ_ _=>rfl;simp only[bB,bL,eW,cE] at ls;refine wnZ (zI4 @hcc @SV3 @SX @ls) ?_;exact⟨rfl,_,rfl,by rw[a7,a7];rfl⟩
set_option maxRecDepth 100000 in
theorem Ke{H:Hp}{nx x:Nat}(hx:0<x)(h2:x<4294967296):Abs.Fn Tryz.prog 175 [.int .u64 x] H nx λr H' nx'=>nx'=nx/\H'=H/\∃k:Nat,r=.int .i64 k/\x<2^k/\2^k<=2*x:=by
 refine fO KQ ?_;simp only[K6,aK];generalize hT:AV.str (ByteArray.mk (Array.mk [0,1,2,2,3,3,3,3,4,4,4,4,4,4,4,4,5,5,5,5,5,5,5,5,5,5,5,5,5,5,5,5,6,6,6,6,6,6,6,6,6,6,6,6,6,6,6,6,6,6,6,6,6,6,6,6,6,6,6,6,6,6,6,6,7,7,7,7,7,7,7,7,7,7,7,7,7,7,7,7,7,7,7,7,7,7,7,7,7,7,7,7,7,7,7,7,7,7,7,7,7,7,7,7,7,7,7,7,7,7,7,7,7,7,7,7,7,7,7,7,7,7,7,7,7,7,7,7,8,8,8,8,8,8,8,8,8,8,8,8,8,8,8,8,8,8,8,8,8,8,8,8,8,8,8,8,8,8,8,8,8,8,8,8,8,8,8,8,8,8,8,8,8,8,8,8,8,8,8,8,8,8,8,8,8,8,8,8,8,8,8,8,8,8,8,8,8,8,8,8,8,8,8,8,8,8,8,8,8,8,8,8,8,8,8,8,8,8,8,8,8,8,8,8,8,8,8,8,8,8,8,8,8,8,8,8,8,8,8,8,8,8,8,8,8,8,8,8,8,8,8,8,8,8,8,8]))=tb;have htab:∀x:Nat,x<256->pD tb (.int .u8 (x:Nat))=some (.int .u8 (pZ x:Nat)):=λx hx=>by rw[<-hT];exact Bp hx
 clear hT;have s16:∀z:Nat,bE .shr false false (.int .u64 (z:Nat)) (.int .u64 16)=some (.int .u64 ((z/2^16:Nat):Int)):=λz=>yu (b:=16) (k:=.u64) (k':=.u64) (by decide);have s8:∀z:Nat,bE .shr false false (.int .u64 (z:Nat)) (.int .u64 8)=some (.int .u64 ((z/2^8:Nat):Int)):=λz=>yu (b:=8) (k:=.u64) (k':=.u64) (by decide);by_cases h16:65536<=x
 ·obtain⟨y,hy⟩:∃y,x/2^16=y:=⟨_,rfl⟩
  have hy1:0<y:=by omega
  have hy2:y<65536:=by omega
  by_cases h8:256<=y
  ·obtain⟨z,hz⟩:∃z,y/2^8=z:=⟨_,rfl⟩
   have hz1:0<z:=by omega
   have hz2:z<256:=by omega
   have hl:=mB hz2;have w8:IntKind.wrap .u8 (z:Int)=z:=vI (by omega) (by omega);have ht:=htab z hz2;refine wnZ (zI6 @s16 @s8 @hy @hz @w8 @ht) ?_;have e:x/2^24=z:=by rw[<-hz,<-hy,Nat.div_div_eq_div_mul]
   exact⟨rfl,rfl,pZ z+24,by congr 1;omega,tI (by rw[e]) (by omega)⟩
  ·have hl:=mB (x:=y) (by omega);have w8:IntKind.wrap .u8 (y:Int)=y:=vI (by omega) (by omega);have ht:=htab y (by omega);refine wnZ (zI5 @s16 @s8 @hy @w8 @ht) ?_;exact⟨rfl,rfl,pZ y+16,by congr 1;omega,tI (by rw[hy]) (by omega)⟩
 ·by_cases h8:256<=x
  ·obtain⟨z,hz⟩:∃z,x/2^8=z:=⟨_,rfl⟩
   have hz1:0<z:=by omega
   have hz2:z<256:=by omega
   have hl:=mB hz2;have w8:IntKind.wrap .u8 (z:Int)=z:=vI (by omega) (by omega);have ht:=htab z hz2;refine wnZ (zI5 @s16 @s8 @hz @w8 @ht) ?_;exact⟨rfl,rfl,pZ z+8,by congr 1;omega,tI (by rw[hz]) (by omega)⟩
  ·have hl:=mB (x:=x) (by omega);have w8:IntKind.wrap .u8 (x:Int)=x:=vI (by omega) (by omega);have ht:=htab x (by omega);refine wnZ (aI @w8 @ht) ?_;exact⟨rfl,rfl,pZ x+0,by congr 1;omega,tI (s:=0) (by simp) (by simpa using hx)⟩
theorem Ek{H:Hp}{nx x:Nat}(hx:0<x)(h2:x<4294967296):Abs.Fn Tryz.prog 156 [.int .u64 x] H nx λr H' nx'=>nx'=nx/\H'=H/\∃k:Nat,r=.int .i64 k/\x<2^k/\2^k<=2*x:=by
 refine fO KL ?_;simp only[Lp,aK];refine wnZ and_self ?_;refine aU ev0 ev0 (Ke hx h2) ?_;rintro _ _ _ ⟨rfl,rfl,k,rfl,h3,h4⟩;refine wnZ and_self ?_;exact⟨rfl,rfl,k,rfl,h3,h4⟩
theorem LD{H:Hp}{nx x:Nat}(hx:0<x)(h2:x<=1000000000):Abs.Fn Tryz.prog 198 [.int .i64 x] H nx λr H' nx'=>nx'=nx/\H'=H/\∃k:Nat,r=.int .u64 ((2^k:Nat):Int)/\x<2^k/\2^k<=2*x:=by
 have w:IntKind.wrap .u64 (x:Int)=x:=gR (by omega) (by omega);refine fO PE ?_;simp only[Og,aK];refine wnZ @w ?_;refine aU ev0 (have zz:=@w;evZ) (Ek hx (by omega)) ?_;rintro _ _ _ ⟨rfl,rfl,k,rfl,h3,h4⟩
 have hk:k<=62:=by
  rcases wn 62 k with h|h
  ·have:=Nat.pow_le_pow_right (n:=2) (by omega) h;omega
  ·exact h
 have sh:bE .shl false false (.int .u64 1) (.int .i64 (k:Int))=some (.int .u64 ((2^k:Nat):Int)):=by
  have h:=DZ (k:=.u64) (k':=.i64) (a:=1) (b:=k) (tb:=false) (tf:=false) (by show k<=64;omega) (by show 1*2^k<2^63;omega);rw[Nat.one_mul] at h;exact h
 refine wnZ @sh ?_;exact⟨rfl,rfl,k,rfl,h3,h4⟩
end Go.Proofs.YtekdaafnjdlenaaGreat
namespace Go.Proofs.YtekdaafnjdlenaaGreat
open Go Go.Abs
open Nat (reduceEqDiff reduceAdd reduceLeDiff)
theorem I6{a:Int}{m:Nat}(hm:m<18446744073709551616):∃r:Nat,bE .and false false (.int .u64 a) (.int .u64 (m:Nat))=some (.int .u64 (r:Nat))/\r<=m:=by
 refine⟨(BitVec.ofInt 64 a).toNat &&& m,?_,Nat.and_le_right⟩;show(if (IntKind.u64=IntKind.u64) then fK .and .u64 a m else none)=_;rw[if_pos rfl]
 have h:(BitVec.ofInt 64 a &&& BitVec.ofInt 64 (m:Int)).toNat=(BitVec.ofInt 64 a).toNat &&& m:=by
  rw[BitVec.toNat_and]
  congr 1
  simp[BitVec.toNat_ofInt];omega
 have h2:(BitVec.ofInt 64 a).toNat &&& m<=m:=Nat.and_le_right;show some (AV.int .u64 (IntKind.wrap .u64 ((BitVec.ofInt 64 a &&& BitVec.ofInt 64 (m:Int)).toNat:Int)))=_;rw[h,gR (by omega) (by omega)]
structure PS(H H1:Hp)(nx n1 b:Nat)(cs:List AV):Prop where
 at_:H1 b=some cs
 fr:∀i,i<nx->i≠b->H1 i=H i
 le:nx<=n1
section
variable{H H1 H2:Hp}{nx n1 n2 b:Nat}{cs cs':List AV}
theorem PS.upd(h:PS H H1 nx n1 b cs):PS H (ao H1 b cs') nx n1 b cs':=⟨ae,λi k1 k2=>by rw[ab k2];exact h.fr i k1 k2,h.le⟩
theorem PS.new{v:List AV}(hb:b<nx)(h:PS H H1 nx n1 b cs):PS H (ao H1 n1 v) nx (n1+1) b cs:=
 have h1:=h.le
 ⟨by rw[ab (by omega)];exact h.at_,λi k1 k2=>by rw[ab (by omega)];exact h.fr i k1 k2,by omega⟩
theorem PS.rec_(h:PS H H1 nx n1 b cs)(h1:H2 b=some cs')(h2:∀i,i<n1->i≠b->H2 i=H1 i)(h3:n1<=n2):PS H H2 nx n2 b cs':=
 have h4:=h.le
 ⟨h1,λi k1 k2=>by rw[h2 i (by omega) k2];exact h.fr i k1 k2,by omega⟩
end
section
variable{α:Type}[Inhabited α]{f:α->AV}{K:α->α->Int}{G:α->Prop}{g:Nat}{caps:List AV}
structure PI{α:Type}[Inhabited α](K:α->α->Int)(a e:Nat)(L:List α)(a1 e1:Nat)(M:List α):Prop where
 lo:a<=a1
 mid:a1<=e1
 hi:e1<=e
 len:e<=L.length
 perm:PermR a e L M
 low:wR K a1 e1 M
 close:∀N,PermR a1 e1 M N->br K a1 e1 N->br K a e N
variable{a e a1 e1:Nat}{L M N:List α}
theorem PI.mlen(h:PI K a e L a1 e1 M):e1<=M.length:=by rw[h.perm.len];exact fp h.hi h.len
theorem PI.start(h1:a<=e)(h2:e<=L.length)(h3:wR K a e L):PI K a e L a e L:=⟨aJ _,h1,aJ _,h2,.refl,h3,λ_ _ h=>h⟩
theorem PI.swap(h:PI K a e L a1 e1 M)(hp:PermR a1 e1 M N):PI K a e L a1 e1 N:=
 ⟨h.lo,h.mid,h.hi,h.len,h.perm.trans (hp.mono h.lo h.hi),h.low.perm hp h.mid h.mlen,λN' k1 k2=>h.close N' (hp.trans k1) k2⟩
theorem PI.done(h:PI K a e L a1 e1 M)(hp:PermR a1 e1 M N)(hs:br K a1 e1 N):PermR a e L N/\br K a e N:=⟨h.perm.trans (hp.mono h.lo h.hi),h.close N hp hs⟩
theorem PI.equal{v:α}{m:Nat}(hK:Ord K)(h:PI K a e L a1 e1 M)(hp:PermR a1 e1 M N)(hv:¬K (M.getD (a1-1) default) v<0)(ha:0<a1)(hm:a1<m/\m<=e1)(h1:∀p,a1<=p->p<m->¬K v (N.getD p default)<0)(h2:∀q,m<=q->q<e1->K v (N.getD q default)<0):PI K a e L m e1 N:=by
 have hN:=h.swap hp;have hlow:=hN.low;have ho:N.getD (a1-1) default=M.getD (a1-1) default:=hp.out _ (.inl (by omega));refine⟨by have:=h.lo;omega,hm.2,h.hi,h.len,hN.perm,λq k0 k1 k2=>hK.negtr _ _ _ (h1 (m-1) (by omega) (by omega)) (hK.asym _ _ (h2 q k1 k2)),λN' k1 k2=>hN.close N' (k1.mono (by omega) (aJ _)) (λp q c1 c2 c3=>?_)⟩;by_cases e1':m<=p
 ·exact k2 p q e1' c2 c3
 ·rw[k1.out p (.inl (by omega))];refine hK.negtr _ _ _ (h1 p c1 (by omega)) ?_;by_cases e2:m<=q
  ·exact hK.asym _ _ (k1.all (p:=λx=>K v x<0) hm.2 hN.mlen h2 q e2 c3)
  ·rw[k1.out q (.inl (by omega))];exact hK.negtr _ _ _ hv (by rw[<-ho];exact hlow q ha (by omega) c3)
theorem br.glue{m:Nat}(hK:Ord K)(h1:br K a1 m N)(h2:br K (m+1) e1 N)(h3:∀p,a1<=p->p<m->¬K (N.getD m default) (N.getD p default)<0)(h4:∀q,m<q->q<e1->¬K (N.getD q default) (N.getD m default)<0):br K a1 e1 N:=λp q k1 k2 k3=>by
 by_cases c1:q<m
 ·exact h1 p q k1 k2 c1
 ·by_cases c2:m<p
  ·exact h2 p q c2 k2 k3
  ·by_cases c3:p=m
   ·subst c3;exact h4 q (by omega) k3
   ·by_cases c4:q=m
    ·subst c4;exact h3 p k1 k2
    ·exact hK.negtr _ _ _ (h3 p k1 (by omega)) (h4 q (by omega) k3)
structure TwoS{α:Type}[Inhabited α](K:α->α->Int)(a1 e1 m:Nat)(N:List α):Prop where
 mid:a1<=m/\m<e1
 lt:∀p,a1<=p->p<m->¬K (N.getD m default) (N.getD p default)<0
 ge:∀q,m<q->q<e1->¬K (N.getD q default) (N.getD m default)<0
theorem TwoS.left{m:Nat}{N':List α}(h:TwoS K a1 e1 m N)(hp:PermR a1 m N N')(hl:e1<=N.length):TwoS K a1 e1 m N':=
 have hm:=h.mid
 ⟨hm,by
  rw[hp.out m (.inr (aJ _))];exact hp.all (p:=λx=>¬K (N.getD m default) x<0) hm.1 (by omega) h.lt,λq k1 k2=>by rw[hp.out m (.inr (aJ _)),hp.out q (.inr (by omega))];exact h.ge q k1 k2⟩
theorem TwoS.right{m:Nat}{N':List α}(h:TwoS K a1 e1 m N)(hp:PermR (m+1) e1 N N')(hl:e1<=N.length):TwoS K a1 e1 m N':=
 have hm:=h.mid
 ⟨hm,fun p k1 k2=>by rw [hp.out m (.inl (by omega)),hp.out p (.inl (by omega))]; exact h.lt p k1 k2,by
  rw[hp.out m (.inl (by omega))];exact λq k1 k2=>hp.all (p:=λx=>¬K x (N.getD m default)<0) (by omega) hl (λi c1 c2=>h.ge i (by omega) c2) q (by omega) k2⟩
theorem PI.left{m:Nat}(hK:Ord K)(h:PI K a e L a1 e1 M)(ht:TwoS K a1 e1 m M)(hp:PermR a1 m M N)(hs:br K a1 m N):PI K a e L (m+1) e1 N:=by
 have hm:=ht.mid;have hN:=h.swap (hp.mono (aJ _) (by omega));have htN:=ht.left hp h.mlen;refine⟨by have:=h.lo;omega,by omega,h.hi,h.len,hN.perm,λq k0 k1 k2=>by rw[rM];exact htN.ge q k1 k2,λN' k1 k2=>hN.close N' (k1.mono (by omega) (aJ _)) ?_⟩;have ht':=htN.right k1 hN.mlen;exact br.glue hK (λp q c1 c2 c3=>by rw[k1.out p (.inl (by omega)),k1.out q (.inl (by omega))];exact hs p q c1 c2 c3) k2 ht'.lt ht'.ge
theorem PI.right{m:Nat}(hK:Ord K)(h:PI K a e L a1 e1 M)(ht:TwoS K a1 e1 m M)(hp:PermR (m+1) e1 M N)(hs:br K (m+1) e1 N):PI K a e L a1 m N:=by
 have hm:=ht.mid;have hN:=h.swap (hp.mono (by omega) (aJ _));have htN:=ht.right hp h.mlen;refine⟨h.lo,hm.1,by have:=h.hi;omega,h.len,hN.perm,λq k0 k1 k2=>hN.low q k0 k1 (by omega),λN' k1 k2=>hN.close N' (k1.mono (aJ _) (by omega)) ?_⟩;have ht':=htN.left k1 hN.mlen;exact br.glue hK k2 (λp q c1 c2 c3=>by rw[k1.out p (.inr (by omega)),k1.out q (.inr (by omega))];exact hs p q c1 c2 c3) ht'.lt ht'.ge
theorem wR.sub{a e a' e':Nat}{M:List α}(h:wR K a e M)(ha:a'=a)(he:e'<=e):wR K a' e' M:=λq k0 k1 k2=>by subst ha;exact h q k0 k1 (by omega)
end
def _root_.List.c2{α:Type}(l:List α)(f:α->AV):List AV:=l.flatMap λx=>(f x).cells
structure Cmp2{α:Type}(P:Program)(f:α->AV)(K:α->α->Int)(G:α->Prop)(g:Nat)(caps:List AV):Prop where
 len:∀x,(f x).cells.length=2
 agg:∀x,AV.agg (f x).cells=f x
 ones:∀x,AV.ones (f x).cells=true
 dat:∀x,Dat (f x)
 dcaps:∀x∈caps,Dat x
 run:∀x y,G x->G y->Go.Abs.Pure P g (f x::f y::caps) (.int .i64 (K x y))
 ord:Ord K
section
variable{α:Type}{f:α->AV}(h:∀x,(f x).cells.length=2)
include h
theorem yn(M:List α):(M.c2 f).length=M.length*2:=by
 unfold List.c2
 induction M with
 |nil=>rfl
 |cons a l ih=>rw[sZ,cA,ih,h,bL];omega
theorem yk:∀(M:List α)(k:Nat),(M.c2 f).drop (k*2)=(M.drop k).c2 f
 |[],k=>by simp[List.c2]
 |a::l,0=>by simp
 |a::l,k+1=>by
  have e:((a::l).c2 f).drop ((k+1)*2)=(l.c2 f).drop (k*2):=by
   show((f a).cells++l.c2 f).drop _=_;rw[List.drop_append,CF (by rw[h];omega),List.nil_append,h]
   congr 1;omega
  rw[e,yk l k];rfl
theorem Et:∀(M:List α)(k:Nat),(M.c2 f).take (k*2)=(M.take k).c2 f
 |[],k=>by simp[List.c2]
 |a::l,0=>by simp[List.c2]
 |a::l,k+1=>by
  show((f a).cells++l.c2 f).take _=(f a).cells++(l.take k).c2 f;rw[List.take_append,eM (by rw[h];omega),h,show(k+1)*2-2=k*2 by omega,Et l k]
theorem Pi[Inhabited α](M:List α)(k:Nat)(hk:k<M.length):((M.c2 f).drop (k*2)).take 2=(f (M.getD k default)).cells:=by
 rw[yk h,kf hk];show((f (M.getD k default)).cells++_).take 2=_;rw[Bk (by rw[h];omega),eM (by rw[h];omega)]
theorem K2{M:List α}{k:Nat}{x:α}(hk:k<M.length):bB (M.c2 f) (k*2) (f x).cells=(M.set k x).c2 f:=by
 simp only[bB];rw[h,show k*2+2=(k+1)*2 by omega,yk h,Et h,I1,if_pos hk];simp only[List.c2,List.flatMap_append,sZ,np]
theorem ET[Inhabited α]{M:List α}{i j:Nat}(hi:i<M.length)(hj:j<M.length):∃M1:List α,M1.length=M.length/\bB (M.c2 f) (i*2) (f (M.getD j default)).cells=M1.c2 f/\bB (M1.c2 f) (j*2) (f (M.getD i default)).cells=(swp M i j).c2 f/\(M.c2 f).length=M.length*2/\(M1.c2 f).length=M.length*2/\(f (M.getD i default)).cells.length=2/\(f (M.getD j default)).cells.length=2:=
 ⟨M.set i (M.getD j default),by simp,K2 h hi,by rw[K2 h (by simpa using hj)];rfl,yn h M,by rw[yn h];simp,h _,h _⟩
end
theorem Ee{c:Prop}[Decidable c]{g:List AV->AV}{x:List AV}:Option.map g (if c then some x else none)=if c then some (g x) else none:=by
 split<;>rfl
theorem zJ:∀(l:Spx)(k:Nat),(cX l).drop (k*2)=cX (l.drop k)
 |[],k=>by simp[cX]
 |a::l,0=>by simp
 |a::l,k+1=>by
  show(sq a++cX l).drop _=cX (l.drop k);rw[show(k+1)*2=(sq a).length+k*2 by show _=2+_;omega,List.drop_append,CF (Nat.le_add_right _ _),List.nil_append,Nat.add_sub_cancel_left,zJ l k]
theorem tN:∀(l:Spx)(k:Nat),(cX l).take (k*2)=cX (l.take k)
 |[],k=>by simp[cX]
 |a::l,0=>by simp[cX]
 |a::l,k+1=>by
  show(sq a++cX l).take _=sq a++cX (l.take k);rw[List.take_append,eM (by show 2<=_;omega),show(k+1)*2-(sq a).length=k*2 by show _-2=_;omega,tN l k]
theorem rdX{l:Spx}{k:Nat}(hk:k<l.length):((cX l).drop (k*2)).take 2=[.int .i64 (l.getD k default).color,.int .i64 (l.getD k default).label]:=by
 rw[zJ,kf hk];rfl
theorem PR{l:Spx}{k:Nat}{w:Vtx}(hk:k<l.length):bB (cX l) (k*2) [.int .i64 w.color,.int .i64 w.label]=cX (l.set k w):=by
 simp only[bB,bL,eW];rw[show k*2+(0+1+1)=(k+1)*2 by omega,zJ,tN,I1,if_pos hk];simp only[cX,List.flatMap_append,sZ,np];rfl
theorem tO{c:Prop}[Decidable c]{g:List AV->AV}{x:List AV}:Option.map g (if c then some x else none)=if c then some (g x) else none:=by
 split<;>rfl
theorem E9{L:Spx}{h:Nat}{x:Vtx}(hh:h<L.length):(L.set h x).take (h+1)=L.take h++[x]:=by
 rw[bD (by simpa using hh),List.take_set_of_le (aJ h)];simp[List.getD,hh]
theorem uP{B n len k:Nat}(h:k<len)(hn:n≠0):jC 2 (.msl B n 2 0 len) (some (.int .i64 k)) none none=some (.msl B n 2 (k*2) (len-k)):=by
 simp only[jC,bV,Int.natCast_nonneg,if_true,cC];rw[if_pos ⟨trivial,by omega,aJ _,hn⟩,if_pos (.inr h),cE]
theorem uG{B n len k:Nat}(h:k<=len)(hn:n≠0):jC 2 (.msl B n 2 0 len) none (some (.int .i64 k)) none=some (.msl B n 2 0 k):=by
 simp only[jC,bV,Int.natCast_nonneg,if_true,cC];rw[if_pos ⟨trivial,by omega,h,hn⟩,if_pos (.inl trivial),wt,Nat.sub_zero]
theorem wY{H:Hp}{B:Nat}{cs:List AV}(hH:H B=some cs):H=ao H B cs:=by
 funext b
 by_cases e:b=B
 ·subst e;rw[ae];exact hH
 ·rw[ab e]
theorem Li(a b:Vtx):qJ (.st [.int,.int]) (bP a) (bP b)=some (decide (a=b)):=by
 show d5 [.int,.int] [.int .i64 a.color,.int .i64 a.label] [.int .i64 b.color,.int .i64 b.label]=_;rw[Di,pb]
theorem nt(v:Vtx)(ks:List Vtx):dK (.st [.int,.int]) (bP v) (ks.map bP)=some (if v∈ks then some (ks.idxOf v) else none):=oV _ bP Li v ks
theorem lJ(v:Vtx):kD (.st [.int,.int]) (bP v)=true:=rfl
def iX(l:List Spx)(i:Nat)(v:Vtx):List Nat:=(List.range i).filter λk=>decide (v∈l.getD k default)
def qz(l:List Spx)(i j:Nat)(v:Vtx):List Nat:=iX l i v++if v∈(l.getD i default).take j then [i] else []
theorem EG{l:List Spx}{i:Nat}{v:Vtx}:iX l (i+1) v=qz l i (l.getD i default).length v:=by
 unfold iX qz;rw[List.range_succ,vj,List.take_length]
 congr 1
 by_cases h:v∈l.getD i default
 ·rw[if_pos h];simp only[List.filter,h,decide_true]
 ·rw[if_neg h];simp only[List.filter,h,decide_false]
theorem Fu{l:List Spx}{i:Nat}{v:Vtx}:qz l i 0 v=iX l i v:=by unfold qz;simp
theorem Gf{l:List Spx}{i j:Nat}{v:Vtx}(hj:j<(l.getD i default).length)(ha:bM cl (l.getD i default)):qz l i (j+1) v=if v=(l.getD i default).getD j default then qz l i j v++[i] else qz l i j v:=by
 unfold qz;generalize l.getD i default=s at *;rw[bD hj];by_cases h:v=s.getD j default
 ·have hn:v∉s.take j:=λhm=>by
    obtain⟨k,hk,e⟩:=lm hm;rw[fY] at hk;rw[List.getElem_take] at e;have:=eo ha (i:=k) (j:=j) (by omega) hj;rw[<-h,<-e] at this;have e2:s.getD k default=s[k]:=by simp[List.getD,show k<s.length by omega]
    rw[e2] at this;exact oz.ord.irr _ this
  rw[if_pos h,if_neg hn,if_pos (by rw[dZ,h];simp)];simp
 ·rw[if_neg h]
  congr 1
  have e:v∈s.take j++[s.getD j default]↔v∈s.take j:=by rw[dZ,bT];exact⟨λh'=>h'.resolve_right h,.inl⟩
  by_cases h2:v∈s.take j
  ·rw[if_pos (e.2 h2),if_pos h2]
  ·rw[if_neg (λh=>h2 (e.1 h)),if_neg h2]
def AE(i:Nat):AV:=.int .i64 (i:Int)
structure IncOk(H:Hp)(b lo hi:Nat)(F:Vtx->List Nat)(ks:List Vtx)(vs:List AV):Prop where
 box:H b=some [.omap (ks.map bP) vs]
 len:vs.length=ks.length
 nodup:ks.Nodup
 dom:∀v,v∈ks↔F v≠[]
 row:∀j,j<ks.length->Row H 1 (vs.getD j .undef) ((F (ks.getD j default)).map AE)
 bnd:∀j B,j<ks.length->cf (vs.getD j .undef)=some B->lo<=B/\B<hi/\B≠b
 apart:∀i j B,i<ks.length->j<ks.length->i≠j->cf (vs.getD i .undef)=some B->cf (vs.getD j .undef)≠some B
 lt:b<hi
theorem sg{l:List AV}{i j:Nat}{x:AV}(h:i<l.length):(l.set i x).getD j .undef=if i=j then x else l.getD j .undef:=by
 simp only[List.getD,List.getElem?_set];split
 ·rename_i e;subst e;simp[h]
 ·rfl
theorem nC{α:Type}{l m:List α}{j:Nat}{d:α}(h:j<l.length):(l++m).getD j d=l.getD j d:=by
 simp[List.getD,iI h]
theorem rZ{α:Type}{l:List α}{x d:α}:(l++[x]).getD l.length d=x:=by simp[List.getD]
theorem o7{l:List Vtx}{v:Vtx}(h:v∈l):l.idxOf v<l.length/\l.getD (l.idxOf v) default=v:=by
 have h1:=qU.2 h;exact⟨h1,by simp[List.getD,h1]⟩
theorem FI{l:List Vtx}(h:l.Nodup){i j:Nat}(hi:i<l.length)(hj:j<l.length)(e:l.getD i default=l.getD j default):i=j:=by
 have hp:=my.1 (List.nodup_iff_pairwise_ne.1 h);rw[show l.getD i default=l[i] by simp[List.getD,hi],show l.getD j default=l[j] by simp[List.getD,hj]] at e;rcases uQ i j with c|c|c
 ·exact absurd e (hp i j hi hj c)
 ·exact c
 ·exact absurd e.symm (hp j i hj hi c)
theorem IncOk.same{H H':Hp}{b lo hi hi':Nat}{F:Vtx->List Nat}{ks:List Vtx}{vs:List AV}(h:IncOk H b lo hi F ks vs)(hb:H' b=H b)(hs:∀x,lo<=x->x<hi->x≠b->H' x=H x)(hh:hi<=hi'):IncOk H' b lo hi' F ks vs:=
 ⟨hb.trans h.box,h.len,h.nodup,h.dom,λj hj=>(h.row j hj).same λB hB=>by have:=h.bnd j B hj hB;exact hs B this.1 this.2.1 this.2.2,λj B hj hB=>by have:=h.bnd j B hj hB;exact⟨this.1,by omega,this.2.2⟩,h.apart,by have:=h.lt;omega⟩
theorem IncOk.put{H H':Hp}{b lo hi hi' i:Nat}{F G:Vtx->List Nat}{ks:List Vtx}{vs:List AV}{w:Vtx}{sv:AV}(h:IncOk H b lo hi F ks vs)(hw:w∈ks)(hG:∀v,G v=if v=w then F v++[i] else F v)(hrow:Row H' 1 sv ((F w++[i]).map AE))(hB:∀B,cf sv=some B->cf (vs.getD (ks.idxOf w) .undef)=some B\/hi<=B/\B<hi'/\B≠b)(hb:H' b=some [.omap (ks.map bP) (vs.set (ks.idxOf w) sv)])
    (hs:∀x,lo<=x->x<hi->x≠b->cf (vs.getD (ks.idxOf w) .undef)≠some x->H' x=H x) (hh:hi<=hi') (hlo:lo<=hi):IncOk H' b lo hi' G ks (vs.set (ks.idxOf w) sv):=by
 obtain⟨k1,k2⟩:=o7 hw;have hl:=h.len;have hg:∀j,(vs.set (ks.idxOf w) sv).getD j .undef=if ks.idxOf w=j then sv else vs.getD j .undef:=λj=>sg (by omega)
 have hne:∀j,j<ks.length->ks.idxOf w≠j->ks.getD j default≠w:=λj hj hn e=>hn (FI h.nodup k1 hj (by rw[k2,e]));refine⟨hb,by simp[hl],h.nodup,λv=>?_,λj hj=>?_,λj B hj=>?_,λp q B hp hq hpq=>?_,by have:=h.lt;omega⟩
 ·rw[hG,h.dom];by_cases e:v=w
  ·subst e;rw[if_pos rfl];exact⟨λ_=>by simp,λ_=>(h.dom v).1 hw⟩
  ·rw[if_neg e]
 ·rw[hg,hG];by_cases e:ks.idxOf w=j
  ·rw[if_pos e,if_pos (by rw[<-e];exact k2),<-e,k2];exact hrow
  ·rw[if_neg e,if_neg (hne j hj e)]
   exact(h.row j hj).same λB hB'=>by
    have:=h.bnd j B hj hB';exact hs B this.1 this.2.1 this.2.2 λh'=>h.apart (ks.idxOf w) j B k1 hj e h' hB'
 ·rw[hg];by_cases e:ks.idxOf w=j
  ·rw[if_pos e];intro hB';rcases hB B hB' with h'|h'
   ·have:=h.bnd _ B k1 h';exact⟨this.1,by omega,this.2.2⟩
   ·exact⟨by omega,h'.2⟩
  ·rw[if_neg e];intro hB';have:=h.bnd j B hj hB';exact⟨this.1,by omega,this.2.2⟩
 ·rw[hg,hg];by_cases e1:ks.idxOf w=p
  ·rw[if_pos e1,if_neg (by omega)];intro h1 h2;rcases hB B h1 with h'|h'
   ·exact h.apart (ks.idxOf w) q B k1 hq (by omega) h' h2
   ·have:=h.bnd q B hq h2;omega
  ·rw[if_neg e1];by_cases e2:ks.idxOf w=q
   ·rw[if_pos e2];intro h1 h2;rcases hB B h2 with h'|h'
    ·exact h.apart p (ks.idxOf w) B hp k1 (by omega) h1 h'
    ·have:=h.bnd p B hp h1;omega
   ·rw[if_neg e2];exact h.apart p q B hp hq hpq
theorem IncOk.new{H H':Hp}{b lo hi hi' i:Nat}{F G:Vtx->List Nat}{ks:List Vtx}{vs:List AV}{w:Vtx}{sv:AV}(h:IncOk H b lo hi F ks vs)(hw:w∉ks)(hG:∀v,G v=if v=w then F v++[i] else F v)(hrow:Row H' 1 sv ([i].map AE))(hB:∀B,cf sv=some B->hi<=B/\B<hi'/\B≠b)(hb:H' b=some [.omap ((ks++[w]).map bP) (vs++[sv])])
    (hs:∀x,lo<=x->x<hi->x≠b->H' x=H x) (hh:hi<=hi') (hlo:lo<=hi):IncOk H' b lo hi' G (ks++[w]) (vs++[sv]):=by
 have hl:=h.len
 have hF:F w=[]:=by
  cases hf:F w with
  |nil=>rfl
  |cons a r=>exact absurd ((h.dom w).2 (by rw[hf];simp)) hw
 have g1:∀j,j<ks.length->(ks++[w]).getD j default=ks.getD j default/\(vs++[sv]).getD j .undef=vs.getD j .undef:=λj hj=>⟨nC hj,nC (by omega)⟩
 have g2:(ks++[w]).getD ks.length default=w/\(vs++[sv]).getD ks.length .undef=sv:=⟨rZ,by rw[<-hl];exact rZ⟩
 refine⟨hb,by simp[hl],?_,λv=>?_,λj hj=>?_,λj B hj=>?_,λp q B hp hq hpq=>?_,by have:=h.lt;omega⟩
 ·rw[s0];exact⟨h.nodup,by simp,λa ha c hc e=>by rw[bT] at hc;exact hw (by rw[<-hc,<-e];exact ha)⟩
 ·rw[hG,dZ,bT];by_cases e:v=w
  ·subst e;rw[if_pos rfl];simp
  ·rw[if_neg e,<-h.dom];simp[e]
 ·rw[cA,List.length_singleton] at hj;by_cases e:j=ks.length
  ·subst e;rw[g2.1,g2.2,hG,if_pos rfl,hF];exact hrow
  ·obtain⟨e1,e2⟩:=g1 j (by omega);have hne:ks.getD j default≠w:=λe'=>hw (e'▸az (by omega));rw[e1,e2,hG,if_neg hne];exact(h.row j (by omega)).same λB hB'=>by have:=h.bnd j B (by omega) hB';exact hs B this.1 this.2.1 this.2.2
 ·rw[cA,List.length_singleton] at hj;by_cases e:j=ks.length
  ·subst e;rw[g2.2];intro hB';have:=hB B hB';exact⟨by omega,this.2⟩
  ·rw[(g1 j (by omega)).2];intro hB';have:=h.bnd j B (by omega) hB';exact⟨this.1,by omega,this.2.2⟩
 ·rw[cA,List.length_singleton] at hp hq;by_cases e1:p=ks.length
  ·subst e1;rw[g2.2,(g1 q (by omega)).2];intro h1 h2;have:=hB B h1;have:=h.bnd q B (by omega) h2;omega
  ·rw[(g1 p (by omega)).2];by_cases e2:q=ks.length
   ·subst e2;rw[g2.2];intro h1 h2;have:=hB B h2;have:=h.bnd p B (by omega) h1;omega
   ·rw[(g1 q (by omega)).2];exact h.apart p q B (by omega) (by omega) hpq
theorem jh{H:Hp}{d:Nat}{x:AV}:gC 1 (ao H d [x]) (.msl d 1 1 0 1)=some (1,[x]):=gK (n:=1) (len:=1) (off:=0) (cs:=[x]) ae rfl (by simp)
theorem zP{l:List Spx}{i:Nat}{v:Vtx}:(iX l i v).length<=i:=by
 unfold iX;have:=List.length_filter_le (λk=>decide (v∈l.getD k default)) (List.range i)
 rwa [List.length_range] at this
theorem IG{l:List Spx}{i j:Nat}{v:Vtx}:(qz l i j v).length<=i+1:=by
 unfold qz;have:=zP (l:=l) (i:=i) (v:=v);rw[cA];split<;>simp <;>omega
def b5(l:List Spx)(s:Spx):Bool:=l.any λt=>decide (s.length<t.length)&&fQ s t
def pC(c:List Spx)(k:Nat):Int:=if ce (c.getD k default)≠0 then ce (c.getD k default) else if 0<k/\0<=bK (c.getD (k-1) default) (c.getD k default) then 14 else 0
def ay(c:List Spx):Int:=if 4096<c.length then 5 else if d9 (pC c) c.length≠0 then d9 (pC c) c.length else if c.any (b5 c)=true then 7 else 0
theorem ik{a b:Spx}:fQ a b=true↔ ∀v∈a,v∈b:=by
 unfold fQ;rw[eA];exact⟨λh v hv=>nf (h v hv),λh v hv=>bd (h v hv)⟩
theorem ec{l:List Spx}{s:Spx}:b5 l s=true↔ ∃t∈l,s.length<t.length/\∀v∈s,v∈t:=by
 unfold b5;rw[pQ];constructor
 ·rintro⟨t,ht,h⟩;rw[eh,wK,ik] at h;exact⟨t,ht,h⟩
 ·rintro⟨t,ht,h⟩;exact⟨t,ht,by rw[eh,wK,ik];exact h⟩
theorem Lg{a b:Spx}(ha:bM cl a)(hb:bM cl b)(h:∀v∈a,v∈b)(hne:a≠b):a.length<b.length:=by
 have h1:a.length<=b.length:=tw (ha.nodup oz) h;rcases wn a.length b.length with h2|h2
 ·exact h2
 ·exfalso;refine hne (l8 oz ha hb λx=>⟨h x,λhx=>Decidable.byContradiction λhn=>?_⟩)
  have h3:(x::a).length<=b.length:=tw (List.nodup_cons.2 ⟨hn,ha.nodup oz⟩) λy hy=>by
   rcases cU.1 hy with rfl|hy
   ·exact hx
   ·exact h y hy
  rw[bL] at h3;omega
theorem Dg{c:List Spx}(h:d9 (pC c) c.length=0):(∀s∈c,ce s=0)/\bM bK c:=by
 have hz:=kj h
 have h3:∀k,k<c.length->ce (c.getD k default)=0/\(0<k->bK (c.getD (k-1) default) (c.getD k default)<0):=λk hk=>by
  have:=hz k hk;unfold pC at this;split at this
  ·exact absurd this ‹_›
  rename_i g1;split at this
  ·exact absurd this (by decide)
  rename_i g2;exact⟨tt g1,λh0=>by omega⟩
 constructor
 ·intro s hs;obtain⟨i,hi,rfl⟩:=lm hs;have:=(h3 i hi).1
  rwa [show c.getD i default=c[i] by simp[List.getD,hi]] at this
 ·have step:∀j i,i<j->j<c.length->bK (c.getD i default) (c.getD j default)<0:=by
    intro j
    induction j with
    |zero=>intro i h;omega
    |succ j ih=>
     intro i hi hj;have hs:=(h3 (j+1) hj).2 (by omega);rw[rM] at hs;by_cases e:i=j
     ·subst e;exact hs
     ·exact jc.trans (ih i (by omega) (by omega)) hs
  unfold bM;rw[my];intro i j hi hj hij;have:=step j i hij hj;simpa[List.getD,hi,hj] using this
theorem cp{c:List Spx}(h:ay c=0):c.length<=4096/\(∀s∈c,ce s=0)/\bM bK c/\∀s∈c,b5 c s=false:=by
 unfold ay at h;split at h
 ·exact absurd h (by decide)
 split at h
 ·exact absurd h ‹_›
 split at h
 ·exact absurd h (by decide)
 rename_i h1 h2 h3;have:=Dg (tt h2);refine⟨by omega,this.1,this.2,λs hs=>?_⟩;cases hc:b5 c s
 ·rfl
 ·exact absurd (pQ.2 ⟨s,hs,hc⟩) h3
theorem sG{c:List Spx}(h1:c.length<=4096)(h2:∀s∈c,ce s=0)(h3:bM bK c)(h4:∀s∈c,b5 c s=false):ay c=0:=by
 have hz:d9 (pC c) c.length=0:=dU λk hk=>by
  unfold pC;rw[h2 _ (az hk),if_neg (by simp),if_neg];rintro⟨h0,h5⟩;have:=eo h3 (i:=k-1) (j:=k) (by omega) hk;omega
 unfold ay;rw[if_neg (by omega),hz,if_neg (by simp),if_neg];rw[pQ];rintro⟨s,hs,h⟩;rw[h4 s hs] at h;cases h
theorem J1{l:List Spx}{s:Spx}{p:Spx->Bool}(h0:0<s.length)(hp:∀t,p t=true->s.getD 0 default∈t):((iX l l.length (s.getD 0 default)).map λ(n:Nat)=>(n:Int)).any (λi=>p (l.getD i.toNat default))=l.any p:=by
 rw[Bool.eq_iff_iff,pQ,pQ];constructor
 ·rintro⟨x,hx,h⟩;obtain⟨n,hn,rfl⟩:=bu.1 hx;unfold iX at hn;obtain⟨h1,_⟩:=dJ.1 hn;rw[cC] at h;exact⟨_,az (du.1 h1),h⟩
 ·rintro⟨t,ht,h⟩;obtain⟨i,hi,rfl⟩:=lm ht;have e:l.getD i default=l[i]:=by simp[List.getD,hi]
  refine⟨(i:Int),bu.2 ⟨i,dJ.2 ⟨du.2 hi,bd ?_⟩,rfl⟩,?_⟩
  ·rw[e];exact hp _ h
  ·rw[cC,e];exact h
section
attribute [local irreducible] aM am bn aZ aS aV aD aX ba bw Go.Abs.Fn aY Go.Abs.Pure aq aO Yl
section
variable{α:Type}[Inhabited α]{f:α->AV}{K:α->α->Int}{G:α->Prop}{g:Nat}{caps:List AV}
theorem JV(hc:Cmp Tryz.prog f K G g caps){L:List α}{H:Hp}{b nx n a e:Nat}(hH:H b=some (L.map f))(hbx:b<nx)(hn:L.length=n)(hae:a+8<=e)(hen:e<=n)(hn2:n<=1000000000):
    Abs.Fn Tryz.prog 168 [.msl b n 1 0 n,.int .i64 a,.int .i64 e,.func g caps] H nx λr H' nx'=>nx'=nx+1/\∃L',H' b=some (L'.map f)/\(∀i,i<nx->i≠b->H' i=H i)/\PermR a e L L':=by
 obtain⟨l,rfl⟩:∃l,e=a+l:=⟨e-a,by omega⟩
 have te:((a+l:Nat):Int)-(a:Int)=(l:Int):=by omega
 obtain⟨w,hw⟩:∃w,a+l/4*2-1=w:=⟨_,rfl⟩
 have tq:bE .quo false false (.int .i64 (l:Int)) (.int .i64 4)=some (.int .i64 ((l/4:Nat):Int)):=by
  rw[qw (by omega) (by omega) (by omega)]
  congr 2
 have w1:(a:Int)+((l/4:Nat):Int)*2-1=(w:Int):=by omega
 have w2:(a:Int)+((l/4:Nat):Int)*2+1=((w+2:Nat):Int):=by omega
 have hbn:b≠nx:=by omega
 have wl:IntKind.wrap .u64 (l:Int)=l:=gR (by omega) (by omega);refine fO Nk ?_;simp only[PD,aK];have ls:∀x y:AV,bB [x] 0 [y]=[y]:=λ_ _=>rfl;simp only[bB,bL,eW,cE] at ls;refine wnZ (zI3 @te @wl @ls) ?_;refine aU ev0 ev0 (LD (x:=l) (by omega) (by omega)) ?_;rintro _ _ _ ⟨rfl,rfl,k,rfl,hk1,hk2⟩;obtain⟨p,hp⟩:∃p,2^k=p+1:=⟨2^k-1,by omega⟩
 rw[hp] at hk1 hk2 |-;refine wnZ (zI3 @te @tq @w1) ?_;have wm:IntKind.wrap .u64 (((p+1:Nat):Int)-1)=(p:Int):=by rw[gR (by omega) (by omega)];omega
 refine ca (X:=Nat×List α) (λx=>[(0,.msl b n 1 0 n),(1,.int .i64 a),(8,.int .i64 l),(9,.ptr nx 1 0),(10,.int .u64 ((p+1:Nat):Int)),(11,.int .i64 (x.1:Nat))]) (λx H' nxx=>w<=x.1/\x.1<=w+3/\H' b=some (x.2.map f)/\(∃s,H' nx=some [.int .u64 s])/\(∀i,i<nx->i≠b->H' i=H i)/\nxx=nx+1/\PermR a (a+l) L x.2) (λx=>w+3-x.1) (w,L) ⟨aJ _,by dsimp only;omega,by dsimp only;rw[ab hbn];first|exact hH|(rw[ab hbn];exact hH),⟨_,ae⟩,λi h1 h2=>by rw[ab (by omega)];first|rfl|exact ab (by omega),rfl,.refl⟩ (by simp (disch:=omega) only[agr,ZG,reduceEqDiff,↓reduceIte,bL,eW,cE,true_and]) ?_;rintro⟨i,M⟩ H1 nxx ⟨h1,h2,hb1,⟨s,hs⟩,hfr,rfl,hp1⟩;dsimp only at *;have hl:M.length=n:=by rw[hp1.len,hn]
 by_cases hi:i=w+3
 ·subst hi;refine wnZ (aI @tq @w2) ?_;exact⟨rfl,M,hb1,hfr,hp1⟩
 have ti:((i:Nat):Int)+1=((i+1:Nat):Int):=by omega
 refine wnZ (aI @tq @w2) ?_;refine aU ev0 ev0 (LX hs) ?_;rintro _ _ _ ⟨rfl,s1,rfl,rfl⟩;obtain⟨r,hr1,hr2⟩:=I6 (a:=s1) (m:=p) (by omega);obtain⟨H2,hH2⟩:∃H2,ao H1 nx [.int .u64 s1]=H2:=⟨_,rfl⟩
 have hb2:H2 b=some (M.map f):=by rw[<-hH2,ab hbn];exact hb1
 have hs2:H2 nx=some [.int .u64 s1]:=by rw[<-hH2];exact ae
 have hfr2:∀i,i<nx->i≠b->H2 i=H i:=λi k1 k2=>by rw[<-hH2,ab (by omega)];exact hfr i k1 k2
 rw[hH2];clear hH2 hb1 hs hfr
 obtain⟨z,hz,hzl⟩:∃z:Nat,(if l<=r then(r:Int)-l else(r:Int))=(z:Int)/\z<l:=by
  split
  ·exact⟨r-l,by omega,by omega⟩
  ·exact⟨r,rfl,by omega⟩
 obtain⟨M1,hl1,lm1,lm2⟩:=eJ (f:=f) (M:=M) (i:=i) (j:=a+z) (by omega) (by omega);have lm3:=lm2;simp only[bB,bL,eW,cE] at lm1 lm2;by_cases hrl:l<=r
 ·rw[if_pos hrl] at hz;refine wnZ (lu @wm @hr1 @hz @hb2 @ti @i9 hc.cells hc.one @lm1 @lm2) ?_;exact⟨(i+1,swp M i (a+z)),by dsimp only;omega,⟨by dsimp only;omega,by dsimp only;omega,by dsimp only;rw[a7,lm3,ae],⟨s1,by rw[a7,ab (Ne.symm hbn)];exact hs2⟩,λi k1 k2=>by rw[a7,ab k2];exact hfr2 i k1 k2,rfl,hp1.trans (PermR.swap (by omega) (by omega) (by omega))⟩,ag0⟩
 ·rw[if_neg hrl] at hz;have hz':r=z:=by omega
  subst hz';refine wnZ (zI9 @wm @hr1 @hb2 @ti @i9 hc.cells hc.one @lm1 @lm2) ?_;exact⟨(i+1,swp M i (a+r)),by dsimp only;omega,⟨by dsimp only;omega,by dsimp only;omega,by dsimp only;rw[a7,lm3,ae],⟨s1,by rw[a7,ab (Ne.symm hbn)];exact hs2⟩,λi k1 k2=>by rw[a7,ab k2];exact hfr2 i k1 k2,rfl,hp1.trans (PermR.swap (by omega) (by omega) (by omega))⟩,ag0⟩
end
section
variable{α:Type}[Inhabited α]{f:α->AV}{K:α->α->Int}{G:α->Prop}{g:Nat}{caps:List AV}
theorem Pq(hc:Cmp Tryz.prog f K G g caps){b n:Nat}(hn2:n<=1000000000):∀(sz a e lim:Nat)(L:List α)(H:Hp)(nx:Nat),e-a<sz->H b=some (L.map f)->b<nx->L.length=n->(∀x∈L,G x)->a<=e->e<=n->lim<=64->wR K a e L->
    Abs.Fn Tryz.prog 155 [.msl b n 1 0 n,.int .i64 a,.int .i64 e,.int .i64 lim,.func g caps] H nx λr H' nx'=>∃L',PS H H' nx nx' b (L'.map f)/\PermR a e L L'/\br K a e L':=by
 intro sz
 induction sz with
 |zero=>intro a e lim L H nx h;omega
 |succ sz ih=>
 intro a e lim L H nx hsz hH hbx hn hG hae hen hlim hlow;have dcap:=hc.dcaps;refine fO K3 ?_;simp only[LS,aK];refine wnZ and_self ?_;refine ca (X:=Nat×Nat×Nat×Bool×Bool×List α) (λx=>[(0,.msl b n 1 0 n),(1,.int .i64 (x.1:Nat)),(2,.int .i64 (x.2.1:Nat)),(3,.int .i64 (x.2.2.1:Nat)),(4,.func g caps),(10,.bool x.2.2.2.1),(11,.bool x.2.2.2.2.1)]) (λx H' nxx=>PI K a e L x.1 x.2.1 x.2.2.2.2.2/\PS H H' nx nxx b (x.2.2.2.2.2.map f)/\x.2.2.1<=64) (λx=>x.2.1-x.1) (a,e,lim,true,true,L) ⟨.start hae (by rw[hn];exact hen) hlow,⟨hH,λ_ _ _=>rfl,aJ _⟩,hlim⟩ ag0 ?_;clear hlim hlow lim;rintro⟨a1,e1,lim,wb,wp,M⟩ H1 n1 ⟨hpi,hps,hlim⟩;dsimp only at *;have hlo:=hpi.lo;have hmid:=hpi.mid;have hhi:=hpi.hi;obtain⟨l,hl0⟩:∃l,e1-a1=l:=⟨_,rfl⟩
 rw[hl0];have te:(e1:Int)-(a1:Int)=(l:Int):=by omega
 have hlen:∀M:List α,PI K a e L a1 e1 M->M.length=n:=λM h=>by rw[h.perm.len,hn]
 have hGA:∀M:List α,PI K a e L a1 e1 M->∀x∈M,G x:=λM h=>h.perm.mem hG;have hbn:∀(M:List α)(H1:Hp)(n1:Nat),PS H H1 nx n1 b (M.map f)->b<n1:=λM H1 n1 h=>by have:=h.le;omega
 obtain⟨T,hT,t0,t1,t2,t3,t4,t10,t11⟩:∃T,tl [(0,.msl b n 1 0 n),(1,.int .i64 (a1:Nat)),(2,.int .i64 (e1:Nat)),(3,.int .i64 (lim:Nat)),(4,.func g caps),(10,.bool wb),(11,.bool wp)]=T/\T 0=.msl b n 1 0 n/\T 1=.int .i64 (a1:Nat)/\T 2=.int .i64 (e1:Nat)/\T 3=.int .i64 (lim:Nat)/\T 4=.func g caps/\T 10=.bool wb/\T 11=.bool wp:=⟨_,rfl,rfl,rfl,rfl,rfl,rfl,rfl,rfl⟩
 rw[hT];clear hT;refine mI ?_;refine cR (λT H'' nx''=>T 0=.msl b n 1 0 n/\T 1=.int .i64 (a1:Nat)/\T 2=.int .i64 (e1:Nat)/\T 3=.int .i64 (lim:Nat)/\T 4=.func g caps/\T 10=.bool wb/\T 11=.bool wp/\T 12=.int .i64 (l:Nat)/\H1=H''/\n1=nx'') ?_ ?_
 ·refine wnZ (zI8 @t0 @t1 @t2 @t3 @t4 @t10 @t11 @te) ?_;exact⟨(have zz:=@t0;evZ),(have zz:=@t1;evZ),(have zz:=@t2;evZ),(have zz:=@t3;evZ),(have zz:=@t4;evZ),(have zz:=@t10;evZ),(have zz:=@t11;evZ),ev0,rfl,rfl⟩
 clear t0 t1 t2 t3 t4 t10 t11;rintro T _ _ ⟨t0,t1,t2,t3,t4,t10,t11,t12,rfl,rfl⟩;refine cR (λT H'' nx''=>T 0=.msl b n 1 0 n/\T 1=.int .i64 (a1:Nat)/\T 2=.int .i64 (e1:Nat)/\T 3=.int .i64 (lim:Nat)/\T 4=.func g caps/\T 10=.bool wb/\T 11=.bool wp/\T 12=.int .i64 (l:Nat)/\13<=l/\H1=H''/\n1=nx'') ?_ ?_
 ·by_cases h12:l<=12
  ·refine wnZ (zI8 @t0 @t1 @t2 @t3 @t4 @t10 @t11 @t12) ?_;refine aU ev0 (have zz:=aI @t0 (aI @t1 (aI @t2 (aI @t3 (aI @t4 (aI @t10 (aI @t11 @t12))))));evZ) (Ox hc (b:=b) hps.at_ (hlen _ hpi) (hGA _ hpi) (a:=a1) (e:=e1) hmid (by omega) hn2) ?_;rintro _ _ _ ⟨rfl,N,rfl,hpN,hsN⟩;refine wnZ and_self ?_;exact⟨N,hps.upd,hpi.done hpN hsN⟩
  ·refine wnZ (zI8 @t0 @t1 @t2 @t3 @t4 @t10 @t11 @t12) ?_;exact⟨(have zz:=@t0;evZ),(have zz:=@t1;evZ),(have zz:=@t2;evZ),(have zz:=@t3;evZ),(have zz:=@t4;evZ),(have zz:=@t10;evZ),(have zz:=@t11;evZ),(have zz:=@t12;evZ),by omega,rfl,rfl⟩
 clear t0 t1 t2 t3 t4 t10 t11 t12;rintro T _ _ ⟨t0,t1,t2,t3,t4,t10,t11,t12,h13,rfl,rfl⟩;refine cR (λT H'' nx''=>T 0=.msl b n 1 0 n/\T 1=.int .i64 (a1:Nat)/\T 2=.int .i64 (e1:Nat)/\T 3=.int .i64 (lim:Nat)/\T 4=.func g caps/\T 10=.bool wb/\T 11=.bool wp/\T 12=.int .i64 (l:Nat)/\0<lim/\H1=H''/\n1=nx'') ?_ ?_
 ·by_cases h12:lim=0
  ·subst h12;have tz:decide (((0:Nat):Int)=0)=true:=rfl;refine wnZ (zI9 @t0 @t1 @t2 @t3 @t4 @t10 @t11 @t12 @tz) ?_;refine aU ev0 (have zz:=aI @t0 (aI @t1 (aI @t2 (aI @t3 (aI @t4 (aI @t10 (aI @t11 @t12))))));evZ) (Lx hc (b:=b) hps.at_ (hlen _ hpi) (hGA _ hpi) (a:=a1) (e:=e1) hmid (by omega) hn2) ?_;rintro _ _ _ ⟨rfl,N,rfl,hpN,hsN⟩;refine wnZ and_self ?_;exact⟨N,hps.upd,hpi.done hpN hsN⟩
  ·have tz:decide ((lim:Int)=0)=false:=bh (by omega);refine wnZ (zI9 @t0 @t1 @t2 @t3 @t4 @t10 @t11 @t12 @tz) ?_;exact⟨(have zz:=@t0;evZ),(have zz:=@t1;evZ),(have zz:=@t2;evZ),(have zz:=@t3;evZ),(have zz:=@t4;evZ),(have zz:=@t10;evZ),(have zz:=@t11;evZ),(have zz:=@t12;evZ),by omega,rfl,rfl⟩
 clear t0 t1 t2 t3 t4 t10 t11 t12;rintro T _ _ ⟨t0,t1,t2,t3,t4,t10,t11,t12,hlim1,rfl,rfl⟩;refine cR (λT H'' nx''=>∃(lim:Nat)(M:List α),lim<=64/\PI K a e L a1 e1 M/\PS H H'' nx nx'' b (M.map f)/\T 0=.msl b n 1 0 n/\T 1=.int .i64 (a1:Nat)/\T 2=.int .i64 (e1:Nat)/\T 3=.int .i64 (lim:Nat)/\T 4=.func g caps/\T 10=.bool wb/\T 11=.bool wp/\T 12=.int .i64 (l:Nat)) ?_ ?_
 ·cases wb
  ·obtain⟨k,rfl⟩:∃k,lim=k+1:=⟨lim-1,by omega⟩
   have tk:((k+1:Nat):Int)-1=(k:Int):=by omega
   refine wnZ (zI8 @t0 @t1 @t2 @t3 @t4 @t10 @t11 @t12) ?_;refine aU ev0 (have zz:=aI @t0 (aI @t1 (aI @t2 (aI @t3 (aI @t4 (aI @t10 (aI @t11 @t12))))));evZ) (JV hc (b:=b) hps.at_ (hbn _ _ _ hps) (hlen _ hpi) (a:=a1) (e:=e1) (by omega) (by omega) hn2) ?_;rintro _ _ _ ⟨rfl,N,hN1,hN2,hpN⟩;refine wnZ (zI9 @t0 @t1 @t2 @t3 @t4 @t10 @t11 @t12 @tk) ?_;exact⟨k,N,by omega,hpi.swap hpN,hps.rec_ hN1 hN2 (Nat.le_succ _),(have zz:=@t0;evZ),(have zz:=@t1;evZ),(have zz:=@t2;evZ),(have zz:=@t3;evZ),(have zz:=@t4;evZ),(have zz:=@t10;evZ),(have zz:=@t11;evZ),(have zz:=@t12;evZ)⟩
  ·refine wnZ (zI8 @t0 @t1 @t2 @t3 @t4 @t10 @t11 @t12) ?_;exact⟨lim,M,hlim,hpi,hps,(have zz:=@t0;evZ),(have zz:=@t1;evZ),(have zz:=@t2;evZ),(have zz:=@t3;evZ),(have zz:=@t4;evZ),(have zz:=@t10;evZ),(have zz:=@t11;evZ),(have zz:=@t12;evZ)⟩
 clear t0 t1 t2 t3 t4 t10 t11 t12 hpi hps hlim hlim1;rintro T H1 n1 ⟨lim,M,hlim,hpi,hps,t0,t1,t2,t3,t4,t10,t11,t12⟩;refine cR (λT H'' nx''=>∃(p:Nat)(hint:Int),a1<=p/\p<e1/\PS H H'' nx nx'' b (M.map f)/\T 0=.msl b n 1 0 n/\T 1=.int .i64 (a1:Nat)/\T 2=.int .i64 (e1:Nat)/\T 3=.int .i64 (lim:Nat)/\T 4=.func g caps/\T 10=.bool wb/\T 11=.bool wp/\T 12=.int .i64 (l:Nat)/\T 13=.int .i64 (p:Nat)/\T 14=.int .i64 hint) ?_ ?_
 ·refine wnZ (zI8 @t0 @t1 @t2 @t3 @t4 @t10 @t11 @t12) ?_;refine aU ev0 (have zz:=aI @t0 (aI @t1 (aI @t2 (aI @t3 (aI @t4 (aI @t10 (aI @t11 @t12))))));evZ) (Hr hc (b:=b) hps.at_ (hbn _ _ _ hps) (hlen _ hpi) (hGA _ hpi) (a:=a1) (e:=e1) (by omega) (by omega) hn2) ?_;rintro _ _ _ ⟨rfl,p,hint,v,rfl,hp1,hp2,rfl⟩;refine wnZ (zI8 @t0 @t1 @t2 @t3 @t4 @t10 @t11 @t12) ?_;exact⟨p,hint,hp1,hp2,hps.new hbx,(have zz:=@t0;evZ),(have zz:=@t1;evZ),(have zz:=@t2;evZ),(have zz:=@t3;evZ),(have zz:=@t4;evZ),(have zz:=@t10;evZ),(have zz:=@t11;evZ),(have zz:=@t12;evZ),ev0,ev0⟩
 clear t0 t1 t2 t3 t4 t10 t11 t12 hps;rintro T H1 n1 ⟨p,hint,hp1,hp2,hps,t0,t1,t2,t3,t4,t10,t11,t12,t13,t14⟩;refine cR (λT H'' nx''=>∃(p:Nat)(hint:Int)(M:List α),a1<=p/\p<e1/\PI K a e L a1 e1 M/\PS H H'' nx nx'' b (M.map f)/\T 0=.msl b n 1 0 n/\T 1=.int .i64 (a1:Nat)/\T 2=.int .i64 (e1:Nat)/\T 3=.int .i64 (lim:Nat)/\T 4=.func g caps/\T 10=.bool wb/\T 11=.bool wp/\T 12=.int .i64 (l:Nat)/\T 13=.int .i64 (p:Nat)/\T 14=.int .i64 hint) ?_ ?_
 ·by_cases h2:hint=2
  ·subst h2;obtain⟨p2,hp3⟩:∃p2,e1-1-(p-a1)=p2:=⟨_,rfl⟩
   have tp:(e1:Int)-1-((p:Int)-(a1:Int))=(p2:Int):=by omega
   have tz:decide ((2:Int)=2)=true:=rfl;refine wnZ (aI @t0 (lu @t1 @t2 @t3 @t4 @t10 @t11 @t12 @t13 @t14 @tz)) ?_;refine aU ev0 (have zz:=aI @t0 (aI @t1 (aI @t2 (aI @t3 (aI @t4 (aI @t10 (aI @t11 @t12))))));evZ) (NH hc (b:=b) hps.at_ (hlen _ hpi) (a:=a1) (e:=e1) (by omega) (by omega) hn2) ?_;rintro _ _ _ ⟨rfl,N,rfl,hpN⟩;refine wnZ (aI @t0 (lu @t1 @t2 @t3 @t4 @t10 @t11 @t12 @t13 @t14 @tp)) ?_;exact⟨p2,1,N,by omega,by omega,hpi.swap hpN,hps.upd,(have zz:=@t0;evZ),(have zz:=@t1;evZ),(have zz:=@t2;evZ),(have zz:=@t3;evZ),(have zz:=@t4;evZ),(have zz:=@t10;evZ),(have zz:=@t11;evZ),(have zz:=@t12;evZ),ev0,ev0⟩
  ·have tz:decide (hint=2)=false:=bh h2;refine wnZ (aI @t0 (lu @t1 @t2 @t3 @t4 @t10 @t11 @t12 @t13 @t14 @tz)) ?_;exact⟨p,hint,M,hp1,hp2,hpi,hps,(have zz:=@t0;evZ),(have zz:=@t1;evZ),(have zz:=@t2;evZ),(have zz:=@t3;evZ),(have zz:=@t4;evZ),(have zz:=@t10;evZ),(have zz:=@t11;evZ),(have zz:=@t12;evZ),(have zz:=@t13;evZ),(have zz:=@t14;evZ)⟩
 clear t0 t1 t2 t3 t4 t10 t11 t12 t13 t14 hps hpi hp1 hp2;rintro T H1 n1 ⟨p,hint,M,hp1,hp2,hpi,hps,t0,t1,t2,t3,t4,t10,t11,t12,t13,t14⟩;refine cR (λT H'' nx''=>∃(M:List α),PI K a e L a1 e1 M/\PS H H'' nx nx'' b (M.map f)/\T 0=.msl b n 1 0 n/\T 1=.int .i64 (a1:Nat)/\T 2=.int .i64 (e1:Nat)/\T 3=.int .i64 (lim:Nat)/\T 4=.func g caps/\T 10=.bool wb/\T 11=.bool wp/\T 12=.int .i64 (l:Nat)/\T 13=.int .i64 (p:Nat)) ?_ ?_
 ·cases wb
  ·cases wp
   ·refine wnZ (lu @t0 @t1 @t2 @t3 @t4 @t10 @t11 @t12 @t13 @t14) ?_;exact⟨M,hpi,hps,(have zz:=@t0;evZ),(have zz:=@t1;evZ),(have zz:=@t2;evZ),(have zz:=@t3;evZ),(have zz:=@t4;evZ),(have zz:=@t10;evZ),(have zz:=@t11;evZ),(have zz:=@t12;evZ),(have zz:=@t13;evZ)⟩
   ·refine wnZ (lu @t0 @t1 @t2 @t3 @t4 @t10 @t11 @t12 @t13 @t14) ?_;exact⟨M,hpi,hps,(have zz:=@t0;evZ),(have zz:=@t1;evZ),(have zz:=@t2;evZ),(have zz:=@t3;evZ),(have zz:=@t4;evZ),(have zz:=@t10;evZ),(have zz:=@t11;evZ),(have zz:=@t12;evZ),(have zz:=@t13;evZ)⟩
  ·cases wp
   ·refine wnZ (lu @t0 @t1 @t2 @t3 @t4 @t10 @t11 @t12 @t13 @t14) ?_;exact⟨M,hpi,hps,(have zz:=@t0;evZ),(have zz:=@t1;evZ),(have zz:=@t2;evZ),(have zz:=@t3;evZ),(have zz:=@t4;evZ),(have zz:=@t10;evZ),(have zz:=@t11;evZ),(have zz:=@t12;evZ),(have zz:=@t13;evZ)⟩
   ·by_cases h1:hint=1
    ·subst h1;have tz:decide ((1:Int)=1)=true:=rfl;refine wnZ (aI @t0 (lu @t1 @t2 @t3 @t4 @t10 @t11 @t12 @t13 @t14 @tz)) ?_;refine aU ev0 (have zz:=aI @t0 (aI @t1 (aI @t2 (aI @t3 (aI @t4 (aI @t10 (aI @t11 @t12))))));evZ) (Gc hc (b:=b) hps.at_ (hlen _ hpi) (hGA _ hpi) (a:=a1) (e:=e1) (by omega) (by omega) hn2 hpi.low) ?_;rintro _ _ _ ⟨rfl,N,t,rfl,rfl,hpN,hsN⟩;cases t
     ·refine wnZ (lu @t0 @t1 @t2 @t3 @t4 @t10 @t11 @t12 @t13 @t14) ?_;exact⟨N,hpi.swap hpN,hps.upd,(have zz:=@t0;evZ),(have zz:=@t1;evZ),(have zz:=@t2;evZ),(have zz:=@t3;evZ),(have zz:=@t4;evZ),(have zz:=@t10;evZ),(have zz:=@t11;evZ),(have zz:=@t12;evZ),(have zz:=@t13;evZ)⟩
     ·refine wnZ (lu @t0 @t1 @t2 @t3 @t4 @t10 @t11 @t12 @t13 @t14) ?_;exact⟨N,hps.upd,hpi.done hpN (hsN rfl)⟩
    ·have tz:decide (hint=1)=false:=bh h1;refine wnZ (aI @t0 (lu @t1 @t2 @t3 @t4 @t10 @t11 @t12 @t13 @t14 @tz)) ?_;exact⟨M,hpi,hps,(have zz:=@t0;evZ),(have zz:=@t1;evZ),(have zz:=@t2;evZ),(have zz:=@t3;evZ),(have zz:=@t4;evZ),(have zz:=@t10;evZ),(have zz:=@t11;evZ),(have zz:=@t12;evZ),(have zz:=@t13;evZ)⟩
 clear t0 t1 t2 t3 t4 t10 t11 t12 t13 t14 hps hpi hint;rintro T H1 n1 ⟨M,hpi,hps,t0,t1,t2,t3,t4,t10,t11,t12,t13⟩;have hbb:=hps.at_;have hl:=hlen _ hpi;have hGM:=hGA _ hpi;refine cR (λT H'' nx''=>T 0=.msl b n 1 0 n/\T 1=.int .i64 (a1:Nat)/\T 2=.int .i64 (e1:Nat)/\T 3=.int .i64 (lim:Nat)/\T 4=.func g caps/\T 10=.bool wb/\T 11=.bool wp/\T 12=.int .i64 (l:Nat)/\T 13=.int .i64 (p:Nat)/\H1=H''/\n1=nx'') ?_ ?_
 ·by_cases ha0:a1=0
  ·have tz:decide ((0:Int)<(a1:Int))=false:=bh (by omega);refine wkZ (lu @t0 @t1 @t2 @t3 @t4 @t10 @t11 @t12 @t13 @tz) ?_;exact⟨(have zz:=@t0;evZ),(have zz:=@t1;evZ),(have zz:=@t2;evZ),(have zz:=@t3;evZ),(have zz:=@t4;evZ),(have zz:=@t10;evZ),(have zz:=@t11;evZ),(have zz:=@t12;evZ),(have zz:=@t13;evZ),rfl,rfl⟩
  have tz:decide ((0:Int)<(a1:Int))=true:=bd (by omega);obtain⟨k,hk⟩:∃k,a1-1=k:=⟨_,rfl⟩
  have tk:(a1:Int)-1=(k:Int):=by omega
  have lc:=hc.run (M.getD k default) (M.getD p default) (hGM _ (bg (by omega))) (hGM _ (bg (by omega)));have d1:=hc.dat (M.getD k default);have d2:=hc.dat (M.getD p default);generalize hKK:K (M.getD k default) (M.getD p default)=kk at lc;by_cases hlt:kk<0
  ·have zz:=aI @t0 (aI @t1 (aI @t2 (aI @t3 (aI @t4 (aI @t10 (aI @t11 (aI @t12 (aI @t13 (aI @tz (aI @tk (aI @hbb (aI @cC (aI hc.cells hc.one)))))))))))));repeat' (first|refine zW ?_|refine zM ?_|apply a_n|refine zO ?_|refine vZ ?_|refine cZ ?_ (hp:=lc) (hs:=by(first|refine aB ?_ rfl|apply aL);(repeat' (first|exact aj|apply bk|apply aN|exact d1|exact d2|exact bq dcap));first|done|fail)|refine gTZ ?_|(refine zGZ ?_ ?_<;>(intro _hg;try (exfalso;omega)))|fail)
   exact⟨(have zz:=@t0;evZ),(have zz:=@t1;evZ),(have zz:=@t2;evZ),(have zz:=@t3;evZ),(have zz:=@t4;evZ),(have zz:=@t10;evZ),(have zz:=@t11;evZ),(have zz:=@t12;evZ),(have zz:=@t13;evZ),rfl,rfl⟩
  ·have zz:=aI @t0 (aI @t1 (aI @t2 (aI @t3 (aI @t4 (aI @t10 (aI @t11 (aI @t12 (aI @t13 (aI @tz (aI @tk (aI @hbb (aI @cC (aI hc.cells hc.one)))))))))))));repeat' (first|refine zW ?_|refine zM ?_|apply a_n|refine zO ?_|refine vZ ?_|refine cZ ?_ (hp:=lc) (hs:=by(first|refine aB ?_ rfl|apply aL);(repeat' (first|exact aj|apply bk|apply aN|exact d1|exact d2|exact bq dcap));first|done|fail)|refine gTZ ?_|(refine zGZ ?_ ?_<;>(intro _hg;try (exfalso;omega)))|fail)
   refine aU ev0 (have zz:=aI @t0 (aI @t1 (aI @t2 (aI @t3 (aI @t4 (aI @t10 (aI @t11 (aI @t12 @t13)))))));evZ) (IW hc (b:=b) hps.at_ (hlen _ hpi) (hGA _ hpi) (a:=a1) (e:=e1) (pv:=p) (by omega) (by omega) hn2 ⟨hp1,hp2⟩) ?_;rintro _ _ _ ⟨rfl,N,m,rfl,hm1,hm2,rfl,hpN,q1,q2⟩;refine wnZ (zI9 @t0 @t1 @t2 @t3 @t4 @t10 @t11 @t12 @t13) ?_;exact⟨(m,e1,lim,wb,wp,N),by dsimp only;omega,⟨hpi.equal hc.ord hpN (by rw[hk,hKK];exact hlt) (by omega) ⟨hm1,hm2⟩ q1 q2,hps.upd,hlim⟩,(have zz:=aI @t0 (aI @t1 (aI @t2 (aI @t3 (aI @t4 (aI @t10 (aI @t11 @t12))))));agZ)⟩
 clear t0 t1 t2 t3 t4 t10 t11 t12 t13;rintro T _ _ ⟨t0,t1,t2,t3,t4,t10,t11,t12,t13,rfl,rfl⟩;refine cR (λT H'' nx''=>∃(M:List α)(m:Nat)(t:Bool),PI K a e L a1 e1 M/\TwoS K a1 e1 m M/\PS H H'' nx nx'' b (M.map f)/\T 0=.msl b n 1 0 n/\T 1=.int .i64 (a1:Nat)/\T 2=.int .i64 (e1:Nat)/\T 3=.int .i64 (lim:Nat)/\T 4=.func g caps/\T 10=.bool wb/\T 11=.bool wp/\T 12=.int .i64 (l:Nat)/\T 16=.int .i64 (m:Nat)/\T 17=.bool t) ?_ ?_
 ·refine wnZ (zI9 @t0 @t1 @t2 @t3 @t4 @t10 @t11 @t12 @t13) ?_;refine aU ev0 (have zz:=aI @t0 (aI @t1 (aI @t2 (aI @t3 (aI @t4 (aI @t10 (aI @t11 (aI @t12 @t13)))))));evZ) (Mb hc (b:=b) hps.at_ (hlen _ hpi) (hGA _ hpi) (a:=a1) (e:=e1) (pv:=p) (by omega) (by omega) hn2 ⟨hp1,hp2⟩) ?_;rintro _ _ _ ⟨rfl,N,m,t,rfl,hm1,hm2,rfl,hpN,q1,q2⟩;refine wnZ (zI9 @t0 @t1 @t2 @t3 @t4 @t10 @t11 @t12 @t13) ?_;exact⟨N,m,t,hpi.swap hpN,⟨⟨hm1,hm2⟩,λp k1 k2=>hc.ord.asym _ _ (q1 p k1 k2),q2⟩,hps.upd,(have zz:=@t0;evZ),(have zz:=@t1;evZ),(have zz:=@t2;evZ),(have zz:=@t3;evZ),(have zz:=@t4;evZ),(have zz:=@t10;evZ),(have zz:=@t11;evZ),(have zz:=@t12;evZ),ev0,ev0⟩
 clear t0 t1 t2 t3 t4 t10 t11 t12 t13 hbb hl hGM hpi hps hp1 hp2 p;rintro T H1 n1 ⟨M,m,t,hpi,hts,hps,t0,t1,t2,t3,t4,t10,t11,t12,t16,t17⟩;have hm:=hts.mid;have hl:=hlen _ hpi
 have tq:bE .quo false false (.int .i64 (l:Int)) (.int .i64 8)=some (.int .i64 ((l/8:Nat):Int)):=by
  rw[qw (by omega) (by omega) (by omega)]
  congr 2
 have tm:(m:Int)+1=((m+1:Nat):Int):=by omega
 by_cases hlr:(m:Int)-(a1:Int)<(e1:Int)-(m:Int)
 ·have tz:decide ((m:Int)-(a1:Int)<(e1:Int)-(m:Int))=true:=bd hlr;refine wnZ (aI @t0 (aI @t1 (lu @t2 @t3 @t4 @t10 @t11 @t12 @t16 @t17 @tq @tz))) ?_;refine aU ev0 (have zz:=aI @t0 (aI @t1 (aI @t2 (aI @t3 (aI @t4 (aI @t10 (aI @t11 (aI @t12 (aI @t16 @t17))))))));evZ) (ih a1 m lim M H1 n1 (by omega) hps.at_ (hbn _ _ _ hps) hl (hGA _ hpi) (by omega) (by omega) hlim (hpi.low.sub rfl (by omega))) ?_;rintro _ H2 n2 ⟨N,hps2,hpN,hsN⟩;refine wnZ (aI @t0 (lu @t1 @t2 @t3 @t4 @t10 @t11 @t12 @t16 @t17 @tm)) ?_;exact⟨(m+1,e1,lim,decide (((l/8:Nat):Int)<=(m:Int)-(a1:Int)),t,N),by dsimp only;omega,⟨hpi.left hc.ord hts hpN hsN,hps.rec_ hps2.at_ hps2.fr hps2.le,hlim⟩,(have zz:=aI @t0 (aI @t1 (aI @t2 (aI @t3 (aI @t4 (aI @t10 (aI @t11 (aI @t12 (aI @t16 @t17))))))));agZ)⟩
 ·have tz:decide ((m:Int)-(a1:Int)<(e1:Int)-(m:Int))=false:=bh hlr;refine wnZ (aI @t0 (aI @t1 (aI @t2 (lu @t3 @t4 @t10 @t11 @t12 @t16 @t17 @tq @tz @tm)))) ?_;refine aU ev0 (have zz:=aI @t0 (aI @t1 (aI @t2 (aI @t3 (aI @t4 (aI @t10 (aI @t11 (aI @t12 (aI @t16 @t17))))))));evZ) (ih (m+1) e1 lim M H1 n1 (by omega) hps.at_ (hbn _ _ _ hps) hl (hGA _ hpi) (by omega) (by omega) hlim (λq k0 k1 k2=>by rw[rM];exact hts.ge q k1 k2)) ?_;rintro _ H2 n2 ⟨N,hps2,hpN,hsN⟩;refine wnZ (lu @t0 @t1 @t2 @t3 @t4 @t10 @t11 @t12 @t16 @t17) ?_;exact⟨(a1,m,lim,decide (((l/8:Nat):Int)<=(e1:Int)-(m:Int)),t,N),by dsimp only;omega,⟨hpi.right hc.ord hts hpN hsN,hps.rec_ hps2.at_ hps2.fr hps2.le,hlim⟩,(have zz:=aI @t0 (aI @t1 (aI @t2 (aI @t3 (aI @t4 (aI @t10 (aI @t11 (aI @t12 (aI @t16 @t17))))))));agZ)⟩
end
section
variable{α:Type}[Inhabited α]{f:α->AV}{K:α->α->Int}{G:α->Prop}{g:Nat}{caps:List AV}
set_option maxRecDepth 100000 in
theorem Jv{H:Hp}{nx:Nat}:Abs.Fn Tryz.prog 175 [.int .u64 0] H nx λr H' nx'=>nx'=nx/\H'=H/\r=.int .i64 0:=by
 refine fO KQ ?_;simp only[K6,aK];generalize hT:AV.str (ByteArray.mk (Array.mk [0,1,2,2,3,3,3,3,4,4,4,4,4,4,4,4,5,5,5,5,5,5,5,5,5,5,5,5,5,5,5,5,6,6,6,6,6,6,6,6,6,6,6,6,6,6,6,6,6,6,6,6,6,6,6,6,6,6,6,6,6,6,6,6,7,7,7,7,7,7,7,7,7,7,7,7,7,7,7,7,7,7,7,7,7,7,7,7,7,7,7,7,7,7,7,7,7,7,7,7,7,7,7,7,7,7,7,7,7,7,7,7,7,7,7,7,7,7,7,7,7,7,7,7,7,7,7,7,8,8,8,8,8,8,8,8,8,8,8,8,8,8,8,8,8,8,8,8,8,8,8,8,8,8,8,8,8,8,8,8,8,8,8,8,8,8,8,8,8,8,8,8,8,8,8,8,8,8,8,8,8,8,8,8,8,8,8,8,8,8,8,8,8,8,8,8,8,8,8,8,8,8,8,8,8,8,8,8,8,8,8,8,8,8,8,8,8,8,8,8,8,8,8,8,8,8,8,8,8,8,8,8,8,8,8,8,8,8,8,8,8,8,8,8,8,8,8,8,8,8,8,8,8,8,8,8]))=tb;have ht:pD tb (.int .u8 0)=some (.int .u8 0):=by rw[<-hT];exact Bp (x:=0) (by decide)
 clear hT;have w8:IntKind.wrap .u8 0=0:=by decide
 refine wnZ (aI @w8 @ht) ?_;exact⟨rfl,rfl,by congr 1⟩
theorem ML{H:Hp}{nx:Nat}:Abs.Fn Tryz.prog 156 [.int .u64 0] H nx λr H' nx'=>nx'=nx/\H'=H/\r=.int .i64 0:=by
 refine fO KL ?_;simp only[Lp,aK];refine wnZ and_self ?_;refine aU ev0 ev0 Jv ?_;rintro _ _ _ ⟨rfl,rfl,rfl⟩;refine wnZ and_self ?_;exact⟨rfl,rfl,rfl⟩
theorem yM(hc:Cmp Tryz.prog f K G g caps){L:List α}{H:Hp}{b nx n:Nat}(hH:H b=some (L.map f))(hbx:b<nx)(hn:L.length=n)(hn0:0<n)(hG:∀x∈L,G x)(hn2:n<=1000000000):
    Abs.Fn Tryz.prog 130 [.msl b n 1 0 n,.func g caps] H nx λr H' nx'=>∃L',PS H H' nx nx' b (L'.map f)/\L'.Perm L/\br K 0 n L':=by
 refine fO KV ?_;simp only[LI,aK];have w:IntKind.wrap .u64 (n:Int)=n:=gR (by omega) (by omega);refine wnZ @w ?_;refine aU ev0 (have zz:=@w;evZ) (Ek hn0 (by omega)) ?_;rintro _ _ _ ⟨rfl,rfl,k,rfl,h3,h4⟩
 have hk:k<=62:=by
  rcases wn 62 k with h|h
  ·have:=Nat.pow_le_pow_right (n:=2) (by omega) h;omega
  ·exact h
 refine wnZ and_self ?_;refine aU ev0 (have zz:=@Int.natCast_zero;evZ) (Pq hc hn2 (n+1) 0 n k L _ _ (by omega) hH hbx hn hG (by omega) (aJ _) (by omega) (λq h=>by omega)) ?_;rintro _ _ _ ⟨N,hps,hp,hs⟩;refine wnZ and_self ?_;exact⟨N,hps,hp.perm,hs⟩
end
section
variable{α:Type}[Inhabited α]{f:α->AV}{K:α->α->Int}{G:α->Prop}{g:Nat}{caps:List AV}
theorem Ot(hc:Cmp2 Tryz.prog f K G g caps){L:List α}{H:Hp}{b nx n a e:Nat}(hH:H b=some (L.c2 f))(hn:L.length=n)(hG:∀x∈L,G x)(hae:a<=e)(hen:e<=n)(hn2:n<=1000000000):
    Abs.Fn Tryz.prog 179 [.msl b (n*2) 2 0 n,.int .i64 a,.int .i64 e,.func g caps] H nx λr H' nx'=>nx'=nx/\∃L',H'=ao H b (L'.c2 f)/\PermR a e L L'/\br K a e L':=by
 refine fO N3 ?_;simp only[Ny,aK];refine wnZ and_self ?_;refine ca (X:=Nat×List α) (λx=>[(0,.msl b (n*2) 2 0 n),(1,.int .i64 a),(2,.int .i64 e),(3,.func g caps),(8,.int .i64 (x.1:Nat))]) (λx H' nx'=>a+1<=x.1/\(x.1<=e\/x.1=a+1)/\H'=ao H b (x.2.c2 f)/\nx'=nx/\PermR a e L x.2/\br K a x.1 x.2) (λx=>e+1-x.1) (a+1,L) ⟨aJ _,.inr rfl,ka hH,rfl,.refl,br.one (aJ _)⟩ ag0 ?_;rintro⟨i,M0⟩ H' nx' ⟨h1,h2,rfl,rfl,hp0,hs0⟩;dsimp only at *;have hl0:M0.length=n:=by rw[hp0.len,hn]
 by_cases hi:i<e
 rotate_left
 ·refine wnZ and_self ?_;exact⟨rfl,M0,rfl,hp0,hs0.mono (aJ _) (by omega)⟩
 refine wnZ and_self ?_;refine ca (X:=Nat×List α) (λx=>[(0,.msl b (n*2) 2 0 n),(1,.int .i64 a),(2,.int .i64 e),(3,.func g caps),(8,.int .i64 (i:Nat)),(9,.int .i64 (x.1:Nat))]) (λx H' nxx=>a<=x.1/\x.1<=i/\H'=ao H b (x.2.c2 f)/\nxx=nx'/\PermR a e L x.2/\gQ K a i x.1 x.2) (λx=>x.1) (i,M0) ⟨by omega,aJ _,rfl,rfl,hp0,.start hs0⟩ ag0 ?_;clear hp0 hs0 hl0;rintro⟨j,M⟩ H' nxx ⟨a1,a2,rfl,rfl,hp,hal⟩;dsimp only at *;have hl:M.length=n:=by rw[hp.len,hn]
 have hGM:=hp.mem hG;by_cases hja:j=a
 ·subst hja;refine wkZ and_self ?_;exact⟨(i+1,M),by dsimp only;omega,⟨by dsimp only;omega,.inl (by dsimp only;omega),rfl,rfl,hp,hal.done hc.ord (.inl rfl)⟩,ag0⟩
 ·obtain⟨k,rfl⟩:∃k,j=k+1:=⟨j-1,by omega⟩
  have tj:((k+1:Nat):Int)-1=(k:Int):=by omega
  have lc:=hc.run (M.getD (k+1) default) (M.getD k default) (hGM _ (bg (by omega))) (hGM _ (bg (by omega)));have d1:=hc.dat (M.getD (k+1) default);have d2:=hc.dat (M.getD k default);have dcap:=hc.dcaps;generalize hKK:K (M.getD (k+1) default) (M.getD k default)=kk at lc;by_cases hlt:kk<0
  ·obtain⟨M1,hl1,lm1,lm2,c1,c2,c3,c4⟩:=ET (f:=f) hc.len (M:=M) (i:=k+1) (j:=k) (by omega) (by omega);have lm3:=lm2;simp only[bB] at lm1 lm2;have zz:=aI @tj (aI @cC (aI @lm1 (aI @lm2 (aI (Pi hc.len) (aI (yn hc.len) (aI @Ee (aI hc.agg hc.ones)))))));repeat' (first|refine zW ?_|refine zM ?_|apply a_n|refine zO ?_|refine vZ ?_|refine cZ ?_ (hp:=lc) (hs:=by(first|refine aB ?_ rfl|apply aL);(repeat' (first|exact aj|apply bk|apply aN|exact d1|exact d2|exact bq dcap));first|done|fail)|refine stZ ?_|refine gTZ ?_|(refine zGZ ?_ ?_<;>(intro _hg;try (exfalso;omega)))|fail)
   refine⟨(k,swp M (k+1) k),by dsimp only;omega,⟨by dsimp only;omega,by dsimp only;omega,?_,rfl,hp.trans (PermR.swap (by omega) (by omega) (by omega)),hal.step hc.ord (by omega) (by omega) (by omega) (by rw[hKK];exact hlt)⟩,(have zz:=@tj;agZ)⟩;dsimp only;rw[a7,a7,lm3]
  ·have zz:=aI @tj (aI @cC (aI (Pi hc.len) (aI (yn hc.len) (aI @Ee (aI hc.agg hc.ones)))));repeat' (first|refine zW ?_|refine zM ?_|apply a_n|apply a_x|refine zO ?_|refine vZ ?_|refine cZ ?_ (hp:=lc) (hs:=by(first|refine aB ?_ rfl|apply aL);(repeat' (first|exact aj|apply bk|apply aN|exact d1|exact d2|exact bq dcap));first|done|fail)|refine gTZ ?_|(refine zGZ ?_ ?_<;>(intro _hg;try (exfalso;omega)))|fail)
   exact⟨(i+1,M),by dsimp only;omega,⟨by dsimp only;omega,.inl (by dsimp only;omega),rfl,rfl,hp,hal.done hc.ord (.inr ⟨by omega,by rw[rM,hKK];exact hlt⟩)⟩,ag0⟩
end
theorem Ck(l:Spx)(hl:Shn l)(h0:l≠[])(H:Hp)(B nx:Nat)(hH:H B=some (cX l))(hB:B<nx):
    Abs.Fn Tryz.prog 144 [.msl B (l.length*2) 2 0 l.length] H nx λr H' nx'=>r=.msl B (l.length*2) 2 0 (cH l l.length)/\(∃C,H'=ao H B C/\C.length=l.length*2/\C.take (cH l l.length*2)=cX (fx l l.length))/\nx'=nx:=by
 refine fO MI ?_;simp only[O0,aK];have hl':l.length<=17592186044416:=hl;have hpos:=iM.2 h0;have hid:=wY hH
 repeat' (first|refine zW ?_|apply a_n|apply a_r|refine zO ?_|refine vZ ?_|(refine zGZ ?_ ?_<;>(intro _hg;try (exfalso;omega)))|refine bC rfl ?_|refine r1Z ?_|fail)
 ·have e1:l.length=1:=by omega
  have e2:fx l l.length=l:=by
   match l,e1 with
   |[a],_=>rfl
  refine⟨?_,⟨_,hid,gB l,?_⟩,rfl⟩
  ·rw[show cH l l.length=l.length by rw[e1];rfl]
  ·rw[e2,show cH l l.length=l.length by rw[e1];rfl,eM (by rw[gB];omega)]
 refine ca (X:=Nat) (λk=>[(0,.msl B (l.length*2) 2 0 l.length),(3,.int .i64 k)]) (λk H' nx'=>H'=H/\nx'=nx/\1<=k/\k<=l.length/\cH l k=k/\fx l k=l.take k) (λk=>l.length-k) 1 ⟨rfl,rfl,aJ _,hpos,rfl,by match l,h0 with|a::r,_=>rfl⟩ ag0 ?_;rintro k H' nx' ⟨rfl,rfl,k1,k2,k3,k4⟩;have hcl:=gB l;by_cases hk:k<l.length
 ·have tk:(k:Int)-1=(k-1:Nat):=by omega
  have q1:=rdX hk;have q2:=rdX (l:=l) (k:=k-1) (by omega);have hd:=pb (l.getD k default) (l.getD (k-1) default);by_cases he:l.getD k default=l.getD (k-1) default
  ·have hs:=uP (B:=B) (n:=l.length*2) hk (by omega);rw[bd he] at hd;refine wnZ (lu @tk @hH @cC @hcl @q1 @q2 @tO @acq @hd @hs) ?_
   refine ca (X:=Nat×Spx) (λx=>[(0,.msl B (l.length*2) 2 0 l.length),(3,.int .i64 (cH l (k+x.1):Nat)),(4,.msl B (l.length*2) 2 (k*2) (l.length-k)),(5,.int .i64 x.1)]) (λx H2 nx2=>x.2.length=l.length/\1<=x.1/\k+x.1<=l.length/\cH l (k+x.1)+1<=k+x.1/\H2=ao H' B (cX x.2)/\nx2=nx'/\(∀p,k+x.1<=p+1->x.2.getD p default=l.getD p default)/\x.2.take (cH l (k+x.1))=fx l (k+x.1)) (λx=>l.length-x.1) (1,l)
    ⟨rfl,aJ _,hk,by dsimp only;rw[fW (by omega) he];omega,hid,rfl,λ_ _=>rfl,by dsimp only;rw[fW (by omega) he,mF (by omega) he,k3,k4]⟩ (by simp (disch:=omega) only[agr,ZG,reduceEqDiff,↓reduceIte,fW (show k≠0 by omega) he,k3]) ?_
   rintro⟨j,L⟩ H2 nx2 ⟨a1,a2,a3,a4,rfl,rfl,a5,a6⟩;dsimp only at a1 a2 a3 a4 a5 a6 |-;have hcL:(cX L).length=l.length*2:=by rw[gB,a1]
   by_cases hj:k+j<l.length
   ·have tj:(j:Int)-1=(j-1:Nat):=by omega
    have r1:=a5 (k+j) (by omega);have r2:=a5 (k+(j-1)) (by omega);have s1:=rdX (l:=L) (k:=k+j) (by omega);have s2:=rdX (l:=L) (k:=k+(j-1)) (by omega);rw[r1] at s1;rw[r2] at s2;rw[gd] at s1 s2;have hd2:=pb (l.getD (k+j) default) (l.getD (k+(j-1)) default);by_cases hd:l.getD (k+j) default=l.getD (k+(j-1)) default
    ·have hq:cH l (k+(j+1))=cH l (k+j):=fW (l:=l) (k:=k+j) (by omega) (by rw[hd,show k+j-1=k+(j-1) by omega]);rw[bd hd] at hd2;refine wnZ (zI8 @tj @cC @hcL @s1 @s2 @tO @acn @hd2) ?_;refine⟨(j+1,L),by dsimp only;omega,⟨a1,by dsimp only;omega,by dsimp only;omega,?_,rfl,rfl,λp hp=>a5 p (by dsimp only at hp;omega),by dsimp only;rw[hq,show k+(j+1)=k+j+1 from rfl,mF (by omega) (by rw[hd,show k+j-1=k+(j-1) by omega])];exact a6⟩,(have zz:=@hq;agZ)⟩;dsimp only;rw[hq];omega
    ·have hq:cH l (k+(j+1))=cH l (k+j)+1:=mz (l:=l) (k:=k+j) (by rw[show k+j-1=k+(j-1) by omega];exact hd);have hlm:=PR (l:=L) (k:=cH l (k+j)) (w:=l.getD (k+j) default) (by omega);rw[bh hd] at hd2;have hle:cH l (k+j)*2+2<=l.length*2:=by omega
     refine wnZ (zI8 @tj @cC @hcL @s1 @s2 @tO @acn @hd2) ?_;refine⟨(j+1,L.set (cH l (k+j)) (l.getD (k+j) default)),by dsimp only;omega,⟨by simp[a1],by dsimp only;omega,by dsimp only;omega,?_,?_,rfl,λp hp=>?_,by dsimp only;rw[hq,E9 (by omega),a6,show k+(j+1)=k+j+1 from rfl,mX (by rw[show k+j-1=k+(j-1) by omega];exact hd)]⟩,(have zz:=@hq;agZ)⟩
     ·dsimp only;rw[hq];omega
     ·dsimp only;rw[a7,hlm]
     ·dsimp only at hp |-;rw[wO,List.getElem?_set_ne (by omega),<-wO];exact a5 p (by omega)
   ·have hn:k+j=l.length:=by omega
    have hl1:=uP (B:=B) (n:=l.length*2) (show cH l (k+j)<l.length by omega) (by omega);have hl2:=uG (B:=B) (n:=l.length*2) (show cH l (k+j)<=l.length by omega) (by omega);refine wnZ (aI @hl1 @hl2) ?_;refine KP (H':=ao (ao H' B (cX L)) B (bB (cX L) (cH l (k+j)*2) (bv (.agg [.int .i64 0,.int .i64 0]) (l.length-cH l (k+j))))) ?_ ?_
    ·((try simp only[ct,ZA,reduceEqDiff,↓reduceIte,reduceAdd,reduceLeDiff]);(try with_reducible rfl))
     simp only[sk];rw[if_neg (by omega),ae];dsimp only;rw[if_pos ⟨hcL,trivial,rfl,rfl,by omega⟩];rfl
    ·refine wnZ @hl2 ?_;refine⟨by rw[hn],⟨_,a7 _ _ _ _,?_,?_⟩,rfl⟩
     ·have hz:(bv (AV.agg [.int .i64 0,.int .i64 0]) (l.length-cH l (k+j))).length=(l.length-cH l (k+j))*2:=by simp[bv,AV.cells]
      simp only[bB,cA,fY,AL,hz,hcL];omega
     ·rw[<-hn,<-a6,<-tN];simp only[bB];rw[np,Bk (by rw[fY,hcL];omega),List.take_take,Nat.min_self]
  ·rw[bh he] at hd;refine wnZ (zI9 @tk @hH @cC @hcl @q1 @q2 @tO @acq @hd) ?_;exact⟨k+1,by omega,⟨rfl,rfl,by omega,by omega,by rw[mz he,k3],by rw[mX he,k4,bD hk]⟩,ag0⟩
 ·refine wnZ and_self ?_;have e:l.length=k:=by omega
  refine⟨by rw[e,k3],⟨_,hid,hcl,?_⟩,rfl⟩;rw[e,k3,k4,<-tN]
theorem oe(l:List Spx)(hl:l.length<=100000)(hs:∀s∈l,bM cl s/\s.length<=1000000)(H:Hp)(nx:Nat):Abs.Fn Tryz.prog 92 [ak l] H nx λr H' nx'=>∃ks vs,r=.mp nx/\IncOk H' nx nx nx' (iX l l.length) ks vs/\(∀x,x<nx->H' x=H x)/\nx<nx':=by
 refine fO QL ?_;simp only[b92,aK];refine dT ?_
 repeat' (first|apply a_n|refine zO ?_|refine vZ ?_|fail)
 refine dT ?_;refine wnZ and_self ?_;refine sy ?_;refine wnY @ah ?_;refine ca (X:=Nat×List Vtx×List AV) (λx=>[(3,.mp nx),(9,ak l),(10,.int .i64 l.length),(11,.int .i64 x.1)]) (λx H' nx'=>x.1<=l.length/\IncOk H' nx nx nx' (iX l x.1) x.2.1 x.2.2/\(∀y,y<nx->H' y=H y)/\nx<nx') (λx=>l.length-x.1) (0,[],[]) ⟨bW _,⟨ae,rfl,List.nodup_nil,λv=>by simp[iX],λj h=>absurd h (by simp),λj B h=>absurd h (by simp),λi j B h=>absurd h (by simp),by omega⟩,λy hy=>ab (by omega),by omega⟩ ag0 ?_;rintro⟨i,ks,vs⟩ H1 nx1 ⟨h1,h2,h3,h4⟩;dsimp only at h1 h2 |-;by_cases hi:i<l.length
 rotate_left
 ·obtain rfl:i=l.length:=by omega
  refine wnY and_self ?_;exact⟨ks,vs,rfl,h2,h3,h4⟩
 have ix:=eO hi;obtain⟨hsa,hsl⟩:=hs _ (az hi);have hstep:=λj v hj=>Gf (l:=l) (i:=i) (j:=j) (v:=v) hj hsa;have hend:=λv=>EG (l:=l) (i:=i) (v:=v);have hlen:=λj v=>IG (l:=l) (i:=i) (j:=j) (v:=v);have h20:IncOk H1 nx nx nx1 (qz l i 0) ks vs:=by rw[show qz l i 0=iX l i from funext λv=>Fu];exact h2
 have hend':iX l (i+1)=qz l i (l.getD i default).length:=funext hend;clear h2;generalize l.getD i default=s at *;refine wnY (aI @ix @au) ?_;refine ca (X:=Nat×List Vtx×List AV) (λx=>[(3,.mp nx),(9,ak l),(10,.int .i64 l.length),(11,.int .i64 i),(4,.int .i64 i),(5,ar s),(16,ar s),(17,.int .i64 s.length),(18,.int .i64 x.1)]) (λx H' nx'=>x.1<=s.length/\IncOk H' nx nx nx' (qz l i x.1) x.2.1 x.2.2/\(∀y,y<nx->H' y=H y)/\nx<nx') (λx=>s.length-x.1) (0,ks,vs) ⟨bW _,h20,h3,h4⟩ ag0 ?_;clear h20 h3 h4;rintro⟨j,ks,vs⟩ H2 nx2 ⟨k1,k2,k3,k4⟩;dsimp only at k1 k2 |-;by_cases hj:j<s.length
 rotate_left
 ·obtain rfl:j=s.length:=by omega
  refine wnY and_self ?_;exact⟨(i+1,ks,vs),by dsimp only;omega,⟨by dsimp only;omega,by dsimp only;rw[hend'];exact k2,k3,k4⟩,ag0⟩
 have iy:=ix2 hj;have hG:=λv=>hstep j v hj;have hcl:=hlen j (s.getD j default);generalize s.getD j default=w at *;refine wnY @iy ?_;have g3:∀x,x<nx2->ao (ao (ao H2 nx2 [.int .i64 0,.int .i64 0]) nx2 (bB [.int .i64 0,.int .i64 0] 0 [.int .i64 w.color,.int .i64 w.label])) (nx2+1) [.int .i64 i] x=H2 x:=λx hx=>by rw[ab (by omega),ab (by omega),ab (by omega)]
 have g4:ao (ao (ao H2 nx2 [.int .i64 0,.int .i64 0]) nx2 (bB [.int .i64 0,.int .i64 0] 0 [.int .i64 w.color,.int .i64 w.label])) (nx2+1) [.int .i64 i] (nx2+1)=some [.int .i64 i]:=ae;generalize ao (ao (ao H2 nx2 [.int .i64 0,.int .i64 0]) nx2 (bB [.int .i64 0,.int .i64 0] 0 [.int .i64 w.color,.int .i64 w.label])) (nx2+1) [.int .i64 i]=H3 at *;have hmf:=nt w ks;have hkl:(ks.map bP).length=ks.length:=bt ..;by_cases hw:w∈ks
 ·rw[if_pos hw] at hmf;obtain⟨m1,m2⟩:=o7 hw;have hr:=k2.row (ks.idxOf w) m1;rw[m2] at hr;refine Iu ev0 ((g3 nx (by omega)).trans k2.box) ev0 (lJ w) hmf ?_;have g5:∀x,x<nx2->x≠nx->ao H3 nx [.omap (dl (bP w) (some (ks.idxOf w)) (ks.map bP)) (pc .esl (some (ks.idxOf w)) vs)] x=H2 x:=λx hx hn=>by rw[ab hn,g3 x hx]
  have g6:ao H3 nx [.omap (dl (bP w) (some (ks.idxOf w)) (ks.map bP)) (pc .esl (some (ks.idxOf w)) vs)] nx=some [.omap (ks.map bP) vs]:=ae;have g7:ao H3 nx [.omap (dl (bP w) (some (ks.idxOf w)) (ks.map bP)) (pc .esl (some (ks.idxOf w)) vs)] (nx2+1)=some [.int .i64 i]:=by rw[ab (by omega)];exact g4
  generalize ao H3 nx [.omap (dl (bP w) (some (ks.idxOf w)) (ks.map bP)) (pc .esl (some (ks.idxOf w)) vs)]=H4 at *;rw[show EP .esl (some (ks.idxOf w)) vs=vs.getD (ks.idxOf w) .undef from rfl,show Cq (some (ks.idxOf w)) (ks.map bP)=ks.idxOf w from rfl];refine wnY and_self ?_;refine mY (k:=1) (new:=[.int .i64 i]) rfl ev0 (hr.same λB hB=>?_) ev0 (gK (n:=1) (len:=1) (off:=0) g7 rfl (by omega)) rfl rfl ng (by rw[bt];omega) (by rw[bt];omega) ?_
  ·have:=k2.bnd _ B m1 hB;exact g5 B this.2.1 this.2.2
  rintro s2 H5 nx5 hr5 i1 i2 i3 i4;refine wnY and_self ?_;refine G1 ev0 ((i3 nx (by omega) (λh=>(k2.bnd _ nx m1 h).2.2 rfl)).trans g6) ev0 (by rw[hkl];exact m1) ev0 ?_;refine wnY and_self ?_;refine⟨(j+1,ks,vs.set (ks.idxOf w) s2),by dsimp only;omega,⟨by dsimp only;omega,IncOk.put k2 hw hG ?_ (λB hB=>?_) ae (λx hx hx2 hxn hxr=>?_) (by omega) (by omega),λy hy=>?_,by omega⟩,ag0⟩
  ·rw[dr]
   exact hr5.same λB hB=>ab λe=>by
    rcases i4 B hB with h|h
    ·exact(k2.bnd _ B m1 h).2.2 e
    ·omega
  ·rcases i4 B hB with h|h
   ·exact .inl h
   ·exact .inr (by omega)
  ·rw[ab hxn,i3 x (by omega) hxr,g5 x hx2 hxn]
  ·rw[ab (by omega),i3 y (by omega) (λh=>by have:=k2.bnd _ y m1 h;omega),g5 y (by omega) (by omega)];exact k3 y hy
 ·rw[if_neg hw] at hmf;refine Iu ev0 ((g3 nx (by omega)).trans k2.box) ev0 (lJ w) hmf ?_;have g5:∀x,x<nx2->x≠nx->ao H3 nx [.omap (dl (bP w) none (ks.map bP)) (pc .esl none vs)] x=H2 x:=λx hx hn=>by rw[ab hn,g3 x hx]
  have g6:ao H3 nx [.omap (dl (bP w) none (ks.map bP)) (pc .esl none vs)] nx=some [.omap (ks.map bP++[bP w]) (vs++[.esl])]:=ae;have g7:ao H3 nx [.omap (dl (bP w) none (ks.map bP)) (pc .esl none vs)] (nx2+1)=some [.int .i64 i]:=by rw[ab (by omega)];exact g4
  generalize ao H3 nx [.omap (dl (bP w) none (ks.map bP)) (pc .esl none vs)]=H4 at *;rw[show EP .esl none vs=.esl from rfl,show Cq none (ks.map bP)=ks.length from hkl];refine wnY and_self ?_;refine mY (k:=1) (new:=[.int .i64 i]) (cs:=[]) rfl ev0 Row.nil ev0 (gK (n:=1) (len:=1) (off:=0) g7 rfl (by omega)) rfl rfl ng (by simp) (by simp) ?_;rintro s2 H5 nx5 hr5 i1 i2 i3 i4;have i4':∀B,cf s2=some B->B=nx2+1+1/\nx5=nx2+1+1+1:=λB hB=>(i4 B hB).elim (λh=>by cases h) id;refine wnY and_self ?_;refine G1 (i:=ks.length) ev0 ((i3 nx (by omega) (λh=>by cases h)).trans g6) ev0 (by rw[cA,hkl];simp) ev0 ?_;have hset:(vs++[AV.esl]).set ks.length s2=vs++[s2]:=by rw[<-k2.len];simp
  rw[hset];refine wnY and_self ?_;refine⟨(j+1,ks++[w],vs++[s2]),by dsimp only;omega,⟨by dsimp only;omega,IncOk.new k2 hw hG ?_ (λB hB=>?_) (by rw[dr];exact ae) (λx hx hx2 hxn=>?_) (by omega) (by omega),λy hy=>?_,by omega⟩,ag0⟩
  ·exact hr5.same λB hB=>ab (by have:=i4' B hB;omega)
  ·have:=i4' B hB;omega
  ·rw[ab hxn,i3 x (by omega) (λh=>by cases h),g5 x hx2 hxn]
  ·rw[ab (by omega),i3 y (by omega) (λh=>by cases h),g5 y (by omega) (by omega)];exact k3 y hy
theorem FH(l:List Int)(p:Int->Bool)(g:Nat)(caps:List AV)(hd:∀x∈caps,Dat x)(hg:∀x∈l,pU g (.int .i64 x::caps) (.bool (p x)))(hl:Shn l):pU 101 [aH l,.func g caps] (.int .i64 (if l.any p then(l.findIdx p:Nat) else-1)):=by
 refine pO Oj ?_;simp only[OC,aK];have hl':l.length<=17592186044416:=hl;refine wnZ and_self ?_;refine ca (X:=Nat) (λk=>[(0,aH l),(1,.func g caps),(6,aH l),(7,.int .i64 l.length),(8,.int .i64 k)]) (λk H nx=>k<=l.length/\∀i,i<k->p (l.getD i default)=false) (λk=>l.length-k) 0 ⟨bW _,λi h=>absurd h (by omega)⟩ ag0 ?_;rintro k H nx ⟨hk,hz⟩;by_cases hk2:k<l.length
 rotate_left
 ·rw[si λi hi=>hz i (by omega),if_neg (by decide)];refine wnY and_self ?_;exact eV rfl
 have hc:=hg _ (bg hk2);cases hp:p (l.getD k default)
 ·rw[hp] at hc;refine wnY and_self ?_;refine ey ev0 ev0 hc (aL (ag (.int _ _) (bq hd))) ?_;refine wnY and_self ?_
  exact ⟨k + 1,by omega,⟨by omega,fun i hi=>by
   rcases kH.1 hi with h|rfl
   ·exact hz i h
   ·exact hp⟩,ag0⟩
 ·rw[hp] at hc;obtain⟨e1,e2⟩:=Ae hk2 hz hp;rw[e1,e2,if_pos rfl];refine wnY and_self ?_;refine ey ev0 ev0 hc (aL (ag (.int _ _) (bq hd))) ?_;refine wnY and_self ?_;exact .int _ _
theorem qZ(l:List Int)(p:Int->Bool)(g:Nat)(caps:List AV)(hd:∀x∈caps,Dat x)(hg:∀x∈l,pU g (.int .i64 x::caps) (.bool (p x)))(hl:Shn l):pU 48 [aH l,.func g caps] (.bool (l.any p)):=by
 refine pO Q1 ?_;simp only[b48,aK];have h:=FH l p g caps hd hg hl
 repeat' (first|refine zW ?_|apply a_n|refine zO ?_|refine vZ ?_|refine cZ ?_ (hp:=h) (hs:=by(first|refine aB ?_ rfl|apply aL);(repeat' (first|exact aj|apply bk|apply aN|exact dz _|exact Dat.func hd));first|done|fail)|refine bC rfl ?_|refine r1Z ?_|fail)
 cases hA:l.any p
 ·exact cQ (by simp)
 ·exact cQ (by simp)
def OkS(l:List Spx):Prop:=l.length<=100000/\∀s∈l,bM cl s/\s.length<=1000
theorem C5(l:List Spx)(s:Spx)(i:Nat)(hl:OkS l)(hs:bM cl s/\s.length<=1000)(hi:i<l.length):pU 157 [.int .i64 i,.iptr [ak l] 0,.iptr [ar s] 0] (.bool (decide (s.length<(l.getD i default).length)&&fQ s (l.getD i default))):=by
 refine pO Pj ?_;simp only[Px,aK];have ix:=eO hi;obtain⟨t1,t2⟩:=hl.2 _ (az hi);have hf:=Mg s (l.getD i default) hs.1 t1 (by omega) (by omega);generalize l.getD i default=t at *;by_cases h:s.length<t.length
 ·have z:decide ((s.length:Int)<t.length)=true:=bd (by omega);rw[bd h,Bool.true_and];refine wkZ (zI3 @au @ix @z) ?_;exact .bool _
 ·have z:decide ((s.length:Int)<t.length)=false:=bh (by omega);rw[bh h,Bool.false_and];refine wkZ (zI3 @au @ix @z) ?_;exact .bool _
theorem xF(l:List Spx)(s:Spx)(hl:OkS l)(hs:bM cl s/\s.length<=1000)(h0:0<s.length):pU 131 [ak l,aH ((iX l l.length (s.getD 0 default)).map λ(n:Nat)=>(n:Int)),ar s] (.bool (b5 l s)):=by
 refine pO Ps ?_;simp only[OE,aK];have hll:=hl.1
 have h:=qZ ((iX l l.length (s.getD 0 default)).map fun (n:Nat)=>(n:Int)) (fun i=>decide (s.length < (l.getD i.toNat default).length) && fQ s (l.getD i.toNat default)) 157 [.iptr [ak l] 0,.iptr [ar s] 0] (DatL.cons (Dat.iptr (DatL.cons (bJ _) DatL.nil)) (DatL.cons (Dat.iptr (DatL.cons (c8 _) DatL.nil)) DatL.nil)) (fun x hx=>by
  obtain⟨n,hn,rfl⟩:=bu.1 hx;have hn2:n<l.length:=du.1 (dJ.1 hn).1;rw[cC];exact C5 l s n hl hs hn2) (by rw[Shn,bt];have:=zP (l:=l) (i:=l.length) (v:=s.getD 0 default);omega)
 rw [J1 (p:=fun t=>decide (s.length < t.length) && fQ s t) h0 (fun t ht=>by
  rw[eh,ik] at ht;exact ht.2 _ (az h0))] at h
 refine wnZ (zI4 @ai @af @bf @aR) ?_;refine ey (have zz:=aI @ai (aI @af (aI @bf @aR));evZ) (have zz:=aI @ai (aI @af (aI @bf @aR));evZ) h (aB (ag (dz _ _) (ag (xI (ag (AH rfl rfl (ag (bJ _ _) aj)) (ag (AH rfl rfl (ag (c8 _ _) aj)) aj))) aj)) rfl) ?_;refine wnZ and_self ?_;exact .bool _
end
theorem xE{H:Hp}{sv:AV}{F:List Nat}(h:Row H 1 sv (F.map AE)):Snap H sv (aH (F.map λ(n:Nat)=>(n:Int))):=by
 refine Row.snapI ?_;rw[List.map_map];exact h
theorem vW{c:List Spx}{k:Nat}:pC c k=if ce (c.getD k default)≠0 then ce (c.getD k default) else if 0<k/\0<=bK (c.getD (k-1) default) (c.getD k default) then 14 else 0:=rfl
theorem Ib {c:List Spx} (h1:c.length ≤ 4096) (h:∀ s ∈ c,ce s=0):OkS c:=⟨by omega,fun s hs=>by
 obtain⟨a1,a2,a3,a4⟩:=bQ (h s hs);exact⟨a3,by omega⟩⟩
theorem p7{H:Hp}{b:Nat}{cs:List AV}(h:H b=some cs):Sub (only b cs) H:=λx c hx=>by
 unfold only at hx;split at hx
 ·rename_i e;rw[e,h];exact hx
 ·cases hx
def on2(b1:Nat)(c1:List AV)(b2:Nat)(c2:List AV):Hp:=λx=>if x=b1 then some c1 else if x=b2 then some c2 else none
theorem NB{b1 b2:Nat}{c1 c2:List AV}:on2 b1 c1 b2 c2 b1=some c1:=if_pos rfl
theorem NT{b1 b2:Nat}{c1 c2:List AV}(h:b2≠b1):on2 b1 c1 b2 c2 b2=some c2:=by unfold on2;rw[if_neg h,if_pos rfl]
theorem DB{b1 b2:Nat}{c1 c2:List AV}{H:Hp}(h1:H b1=some c1)(h2:H b2=some c2):Sub (on2 b1 c1 b2 c2) H:=λx cs h=>by
 unfold on2 at h;split at h
 ·rename_i e;rw[e,h1];exact h
 ·split at h
  ·rename_i e;rw[e,h2];exact h
  ·cases h
theorem pz{P:Program}{T:Tm}{H:Hp}{nx:Nat}(b1 b2:Nat){c1 c2:List AV}{K:CP}{m:Nat}{l:List Op2}{C:List (Nat×Nat)}(h1:H b1=some c1)(h2:H b2=some c2)(hne:b2≠b1)(k:∀S:Hp,S b1=some c1->S b2=some c2->(∀H':Hp,H' b1=some c1->H' b2=some c2->Sub S H')->bm P S (C.map λk=>(l.getD k.1 ⟨none,none,.dead⟩,k.2)) T H nx λT H nx=>K .normal T H nx):aM P (.mixS m l C) T H nx K:=
 CD (on2 b1 c1 b2 c2) rfl (DB h1 h2) (k _ NB (NT hne) λ_ a b=>DB a b)
theorem w_mix1{P:Program}{T:Tm}{H:Hp}{nx:Nat}(b:Nat){c:List AV}{K:CP}{m:Nat}{l:List Op2}{C:List (Nat×Nat)}(h:H b=some c)(k:∀S:Hp,S b=some c->(∀H':Hp,H' b=some c->Sub S H')->bm P S (C.map λk=>(l.getD k.1 ⟨none,none,.dead⟩,k.2)) T H nx λT H nx=>K .normal T H nx):aM P (.mixS m l C) T H nx K:=
 CD (only b c) rfl (p7 h) (k _ jl λ_ h=>p7 h)
theorem Gb{c:List Spx}(h1:∀s∈c,bM cl s)(h2:bM bK c){i k:Nat}(hi:i<c.length)(hk:k<c.length)(hik:i≠k)(h:fQ (c.getD i default) (c.getD k default)=true):b5 c (c.getD i default)=true:=by
 refine ec.2 ⟨_,az hk,Lg (h1 _ (az hi)) (h1 _ (az hk)) (ik.1 h) λe=>?_,ik.1 h⟩;rcases uQ i k with q|q|q
 ·have:=eo h2 q hk;rw[e] at this;exact jc.ord.irr _ this
 ·exact hik q
 ·have:=eo h2 q hi;rw[e] at this;exact jc.ord.irr _ this
theorem Im{c:List Spx}{i:Nat}(h:b5 c (c.getD i default)=true):∃k,k<c.length/\i≠k/\fQ (c.getD i default) (c.getD k default)=true:=by
 obtain⟨t,ht,h1,h2⟩:=ec.1 h;obtain⟨k,hk,rfl⟩:=lm ht;have e:c.getD k default=c[k]:=by simp[List.getD,hk]
 refine⟨k,hk,λhik=>?_,by rw[e];exact ik.2 h2⟩;subst hik;rw[e] at h1;omega
structure MapV where
 fr:Spx
 to:Spx
 deriving Inhabited,DecidableEq
abbrev Pg(m:MapV):AV:=.agg [ar m.fr,ar m.to]
theorem HP(m:MapV):Dat (Pg m):=Dat.agg (DatL.cons (c8 _) (DatL.cons (c8 _) DatL.nil))
instance datI_encM{m:MapV}:DatI (Pg m):=⟨HP m⟩
theorem CE{H:Hp}{B n len:Nat}{C:List AV}{l:Spx}(hB:H B=some C)(hn:C.length=n)(hf:len*2<=n)(hl:l.length=len)(ht:C.take (len*2)=cX l):Snap H (.msl B n 2 0 len) (ar l):=by
 refine .msl B n 2 0 len C (l.map bP) hB hn (by omega) (by simp[hl]) (λy hy=>?_) (λi j y a c hy hc ha=>?_)
 ·obtain⟨v,_,rfl⟩:=bu.1 hy;rfl
 ·have hi:i<l.length:=by
    have:=(bN.1 hy).1;simpa using this
  have hy':y=bP (l.getD i default):=by
   rw[lf,p6 hi] at hy;simp at hy;rw[<-hy];simp[List.getD,hi]
  subst hy';have hj:j<2:=(bN.1 hc).1
  have h1:C[0+i*2+j]?=(cX l)[i*2+j]?:=by
   rw[<-ht,iQ,if_pos (by omega)];congr 1;omega
  have h2:(cX l)[i*2+j]?=(((cX l).drop (i*2)).take 2)[j]?:=by
   rw[iQ,if_pos hj,nW]
  rw[h1,h2,rdX hi] at ha;have:[AV.int .i64 (l.getD i default).color,AV.int .i64 (l.getD i default).label][j]?=some c:=hc;rw[this] at ha;cases ha
  match j,hj with
  |0,_=>cases this;exact .int _ _
  |1,_=>cases this;exact .int _ _
theorem Cx{c:List Spx}:mw c=true↔c.length<=30/\∀s∈c,s.length<=10:=by
 unfold mw;rw[eh,wK,eA];simp only[wK]
def dw:Spx->Nat->List Spx
 |_,0=>[[]]
 |[],_+1=>[]
 |x::l,k+1=>(dw l k).map (x:: ·)++dw l (k+1)
theorem rO{l:Spx}:dw l 0=[[]]:=by cases l<;>rfl
theorem Bd{k:Nat}:dw [] (k+1)=[]:=rfl
theorem ki{x:Vtx}{l:Spx}{k:Nat}:dw (x::l) (k+1)=(dw l k).map (x:: ·)++dw l (k+1):=rfl
theorem fe:∀{l:Spx}{k:Nat}{s:Spx},s∈dw l k↔s.Sublist l/\s.length=k
 |l,0,s=>by
  rw[rO,bT];exact⟨λh=>by subst h;exact⟨List.nil_sublist _,rfl⟩,λh=>fj.1 h.2⟩
 |[],k+1,s=>by
  rw[Bd];refine⟨λh=>(by cases h),λ⟨h1,h2⟩=>?_⟩;rw[List.sublist_nil] at h1;subst h1;simp at h2
 |x::l,k+1,s=>by
  rw[ki,dZ,bu,fe];constructor
  ·rintro(⟨t,ht,rfl⟩|⟨h1,h2⟩)
   ·have:=fe.1 ht;exact⟨this.1.cons_cons x,by simp[this.2]⟩
   ·exact⟨h1.cons x,h2⟩
  ·rintro⟨h1,h2⟩;cases h1 with
   |cons _ h=>exact .inr ⟨h,h2⟩
   |cons_cons _ h=>exact .inl ⟨_,fe.2 ⟨h,by simpa using h2⟩,rfl⟩
theorem vE{l:Spx}{k:Nat}(h:l.length<k):dw l k=[]:=by
 cases e:dw l k with
 |nil=>rfl
 |cons a r=>
  have:=fe.1 (show a∈dw l k by rw[e];exact cW);have:=this.1.length_le;omega
def chK:Nat->Nat->Nat
 |_,0=>1
 |0,_+1=>0
 |n+1,k+1=>chK n k+chK n (k+1)
theorem Nz{n:Nat}:chK n 0=1:=by cases n<;>rfl
theorem wh:∀{l:Spx}{k:Nat},(dw l k).length=chK l.length k
 |l,0=>by rw[rO,Nz];rfl
 |[],k+1=>rfl
 |x::l,k+1=>by
  rw[ki,cA,bt,wh,wh];rfl
theorem Ly{n k:Nat}(hn:n<=8):chK n k<=70:=by
 by_cases hk:k<=8
 ·have:∀n,n<9->∀k,k<9->chK n k<=70:=by decide
  exact this n (by omega) k (by omega)
 ·have:∀n k,n<k->chK n k=0:=by
    intro n
    induction n with
    |zero=>intro k h;match k,h with|k+1,_=>rfl
    |succ n ih=>intro k h;match k,h with|k+1,h=>show chK n k+chK n (k+1)=0;rw[ih k (by omega),ih (k+1) (by omega)]
  rw[this n k (by omega)];omega
theorem yv{l:Spx}{k:Nat}(h:l.length<=8):(dw l k).length<=70:=by rw[wh];exact Ly h
theorem EE{l:Spx}{i k:Nat}(hi:i<l.length):dw (l.drop i) (k+1)=(dw (l.drop (i+1)) k).map (l.getD i default:: ·)++dw (l.drop (i+1)) (k+1):=by
 rw[List.drop_eq_getElem_cons hi,ki];simp[List.getD,hi]
theorem rl{v w:Vtx}{l m:Spx}:bK (v::l) (w::m)=if cl v w≠0 then cl v w else bK l m:=rfl
theorem EN{v:Vtx}{l m:Spx}:bK (v::l) (v::m)=bK l m:=by
 rw[rl,if_neg (λh=>h (kg.2 rfl))]
theorem nV:∀{l:Spx}{k:Nat},bM cl l->bM bK (dw l k)
 |l,0,_=>by rw[rO];exact List.pairwise_singleton _ _
 |[],k+1,_=>lS
 |x::l,k+1,h=>by
  have h':=iz.1 h;rw[ki];unfold bM;rw[List.pairwise_append];refine⟨?_,nV h'.2,?_⟩
  ·rw[List.pairwise_map];exact yO (λ{a b} hab=>by rw[EN];exact hab) (nV (k:=k) h'.2)
  ·intro a ha b hb;obtain⟨t,_,rfl⟩:=bu.1 ha;have hb':=fe.1 hb;cases b with
   |nil=>simp at hb'
   |cons y r=>
    have hy:y∈l:=hb'.1.subset cW;have:=h'.1 y hy;rw[rl,if_pos (by omega)];exact this
def ma(l:List Spx):List Spx:=(iJ bK l).filter λs=>!b5 (iJ bK l) s
theorem qX{l:List Spx}{s:Spx}:s∈ma l↔s∈l/\b5 l s=false:=by
 unfold ma;rw[dJ,f9];refine and_congr_right λ_=>?_;cases h:b5 l s
 ·refine⟨λ_=>rfl,λ_=>?_⟩;cases h2:b5 (iJ bK l) s
  ·rfl
  ·obtain⟨t,t1,t2⟩:=ec.1 h2;rw[ec.2 ⟨t,f9.1 t1,t2⟩] at h;cases h
 ·refine⟨λh2=>?_,λh2=>by cases h2⟩;obtain⟨t,t1,t2⟩:=ec.1 h;rw[ec.2 ⟨t,f9.2 t1,t2⟩] at h2;cases h2
theorem Au{l:List Spx}:bM bK (ma l):=(jn jc l).sublist wx
theorem uM{l:List Spx}{s:Spx}(h:s∈ma l):s∈l:=(qX.1 h).1
theorem B3{l:List Spx}:(ma l).length<=l.length:=fp (List.length_filter_le _ _) qA
theorem y8{l:List Spx}(h1:l.length<=4096)(h2:∀s∈l,ce s=0):ay (ma l)=0:=by
 refine sG (fp B3 h1) (λs hs=>h2 s (uM hs)) Au λs hs=>?_;cases h:b5 (ma l) s
 ·rfl
 ·obtain⟨t,t1,t2⟩:=ec.1 h;have:=(qX.1 hs).2;rw[ec.2 ⟨t,uM t1,t2⟩] at this;cases this
theorem FY{c:List Spx}(h:ay c=0):ma c=c:=by
 obtain⟨h1,h2,h3,h4⟩:=cp h;refine l8 jc Au h3 λs=>?_;rw[qX];exact⟨λh=>h.1,λh=>⟨h,h4 s h⟩⟩
theorem zw{H:Hp}{s:AV}{l:List Spx}{e f:Int}(h:Snap H s (ak l))(he:e=f):Snap H (.tup [.agg [s],.int .i64 e]) (.tup [b7 l,.int .i64 f]):=by
 subst he;exact bS (ag (mb (ag h aj)) (ag (.int _ _) aj))
def uo(s:Spx)(k:Int):List Spx×Int:=if ce s≠0 then([],ce s) else if k<1\/(s.length:Int)<k then([],2) else(dw s k.toNat,0)
theorem fg{H:Hp}{s:AV}{l:List Spx}{e f:Int}(h:Snap H s (ak l))(he:e=f):Snap H (.tup [s,.int .i64 e]) (.tup [ak l,.int .i64 f]):=by
 subst he;exact bS (ag h (ag (.int _ _) aj))
theorem CC{l:Spx}{k:Nat}(h:k<=l.length):jC 2 (ar l) (some (.int .i64 k)) none none=some (ar (l.drop k)):=jT h
def iY(c:List Spx)(k:Nat):List Spx:=iJ bK (c.flatMap λs=>dw s k)
theorem Fq{c:List Spx}{k i:Nat}(hi:i<c.length):(c.take (i+1)).flatMap (λs=>dw s k)=(c.take i).flatMap (λs=>dw s k)++dw (c.getD i default) k:=by
 rw[bD hi,List.flatMap_append];simp
theorem qe{k:Nat}:∀{c:List Spx},(∀s∈c,s.length<=8)->(c.flatMap λs=>dw s k).length<=70*c.length
 |[],_=>by simp
 |s::c,h=>by
  rw[sZ,cA,bL];have:=yv (l:=s) (k:=k) (h s cW);have:=qe (k:=k) (c:=c) (λt ht=>h t (dS _ ht));omega
theorem qt{c:List Spx}{k:Nat}{s:Spx}:s∈c.flatMap (λs=>dw s k)↔ ∃t∈c,s∈dw t k:=by rw[List.mem_flatMap]
def f8(c:List Spx)(k:Int):List Spx×Int:=if ay c≠0 then([],ay c) else if k<1\/8<k then([],2) else(iY c k.toNat,0)
def jq:Nat->Spx->List Int
 |0,_=>[]
 |n+1,[]=>(-1)::0::jq n []
 |n+1,v::l=>v.color::v.label::jq n l
theorem qQ:∀{n:Nat}{s:Spx},(jq n s).length=2*n
 |0,_=>rfl
 |n+1,[]=>by show(jq n []).length+1+1=_;rw[qQ];omega
 |n+1,v::l=>by show(jq n l).length+1+1=_;rw[qQ];omega
theorem zX:∀{n:Nat}{s t:Spx},s.length<=n->t.length<=n->(∀v∈s,0<=v.color)->(∀v∈t,0<=v.color)->jq n s=jq n t->s=t
 |0,[],[],_,_,_,_,_=>rfl
 |0,_::_,_,h,_,_,_,_=>absurd h (by simp)
 |0,[],_::_,_,h,_,_,_=>absurd h (by simp)
 |n+1,[],[],_,_,_,_,_=>rfl
 |n+1,[],w::m,_,_,_,h2,e=>by
  have:(-1:Int)=w.color:=(List.cons.inj e).1;have:=h2 w cW;omega
 |n+1,v::l,[],_,_,h1,_,e=>by
  have:v.color=(-1:Int):=(List.cons.inj e).1;have:=h1 v cW;omega
 |n+1,v::l,w::m,hl,hm,h1,h2,e=>by
  obtain⟨e1,e2⟩:=List.cons.inj e;obtain⟨e2,e3⟩:=List.cons.inj e2;have:=zX (n:=n) (by simp at hl;omega) (by simp at hm;omega) (λx hx=>h1 x (dS _ hx)) (λx hx=>h2 x (dS _ hx)) e3;rw[this,p9.2 ⟨e1,e2⟩]
def I3(x:List Int):AV:=.agg (x.map (AV.int .i64))
theorem GF (x:List Int):Dat (I3 x):=Dat.agg (by
 induction x with
 |nil=>exact DatL.nil
 |cons a l ih=>exact DatL.cons .int ih)
theorem Dv:∀{n:Nat}{s:Spx},s.length<=n->cX s++((jq n []).map (AV.int .i64)).drop (s.length*2)=(jq n s).map (AV.int .i64)
 |n,[],_=>by simp[cX]
 |0,_::_,h=>absurd h (by simp)
 |n+1,v::l,h=>by
  have:=Dv (n:=n) (s:=l) (by simp at h;omega);show [AV.int .i64 v.color,AV.int .i64 v.label]++cX l++_=AV.int .i64 v.color::AV.int .i64 v.label::(jq n l).map (AV.int .i64);rw[<-this,bL,show(l.length+1)*2=l.length*2+1+1 by omega];rfl
def kc(k:Nat):List AV:=(jq k []++List.replicate (2*(8-k)) 0).map (AV.int .i64)
theorem Fs{L:List Spx}{h:Nat}{x:Spx}(hh:h<L.length):(L.set h x).take (h+1)=L.take h++[x]:=by
 rw[bD (by simpa using hh),List.take_set_of_le (aJ h)];simp[List.getD,hh]
theorem ua{B n len k:Nat}(h:k<len)(hn:n≠0):jC 1 (.msl B n 1 0 len) (some (.int .i64 k)) none none=some (.msl B n 1 k (len-k)):=by
 simp only[jC,bV,Int.natCast_nonneg,if_true,cC];rw[if_pos ⟨trivial,by omega,aJ _,hn⟩,if_pos (.inr h),cE,Nat.mul_one]
theorem CZ{B n len k:Nat}(h:k<=len)(hn:n≠0):jC 1 (.msl B n 1 0 len) none (some (.int .i64 k)) none=some (.msl B n 1 0 k):=by
 simp only[jC,bV,Int.natCast_nonneg,if_true,cC];rw[if_pos ⟨trivial,by omega,h,hn⟩,if_pos (.inl trivial),wt,Nat.sub_zero]
theorem EF{H:Hp}{sz:Nat}{s:AV}{elems:List AV}(h:Row H sz s (elems.flatMap AV.cells))(hc:∀y∈elems,y.cells.length=sz)(hz:0<sz)(hd:∀y∈elems,∀c∈y.cells,SnapF H c c):SnapF H s (.sl sz elems):=by
 obtain⟨f1,f2⟩:=fL elems hc;generalize he:elems.flatMap AV.cells=cs at h;cases h with
 |nil=>
  have:elems.length*sz=0:=by rw[<-f1,he];rfl
  have:elems=[]:=fj.1 (by
   rcases Nat.mul_eq_zero.1 this with h|h
   ·exact h
   ·omega)
  subst this;exact .eslsl sz
 |box b len cs hb hl=>
  have hlen:elems.length=len:=Nat.eq_of_mul_eq_mul_right hz (by rw[<-f1,he,hl]);refine .msl b (len*sz) sz 0 len cs elems hb hl (by omega) hlen hc (λi j y a c hy hc' ha=>?_);have hj:j<sz:=by rw[<-hc y (ib hy)];exact(bN.1 hc').1
  have key:∀(l:List AV)(i j:Nat)(y c:AV),(∀z∈l,z.cells.length=sz)->l[i]?=some y->y.cells[j]?=some c->j<sz->(l.flatMap AV.cells)[i*sz+j]?=some c:=by
   intro l
   induction l with
   |nil=>intro i j y c _ h;simp at h
   |cons x l ih=>
    intro i j y c hl hy hc hj;rw[sZ];cases i with
    |zero=>
     simp at hy;subst hy;rw[wt,cE,iI (by rw[hl x (by simp)];exact hj)];exact hc
    |succ i=>
     rw[jH (by rw[hl x (by simp),gd];omega),hl x (by simp)];have:=ih i j y c (λz hz=>hl z (by simp[hz])) (by simpa using hy) hc hj;rw[<-this];congr 1;rw[gd];omega
  have:=key elems i j y c hc hy hc' hj;rw[he,<-cE (i*sz)] at this;rw[this] at ha;cases ha;exact hd y (ib hy) a (ib hc')
theorem tH{H:Hp}{s:AV}{l:Spx}(h:Row H 2 s (cX l)):SnapF H s (ar l):=by
 refine EF (elems:=l.map bP) (by rw[Df];exact h) (λy hy=>?_) (by omega) (λy hy c hx=>?_)
 ·obtain⟨n,_,rfl⟩:=bu.1 hy;rfl
 ·obtain⟨n,_,rfl⟩:=bu.1 hy;simp only[bP,AV.cells,cU,List.not_mem_nil,or_false] at hx;rcases hx with rfl|rfl<;>exact .int _ _
theorem EW{D:List Spx}{k:Nat}{v:Vtx}(hk:k<D.length)(hv:v∈D.getD k default):iX D D.length v≠[]:=λe=>by
 have:k∈iX D D.length v:=dJ.2 ⟨du.2 hk,bd hv⟩;rw[e] at this;cases this
theorem yP{l:List Spx}{p:Spx->Bool}{k:Nat}(hk:k<l.length):(l.take (k+1)).filter p=(l.take k).filter p++if p (l.getD k default)=true then [l.getD k default] else []:=by
 rw[bD hk,vj];cases h:p (l.getD k default)
 ·rw[tB (by rw[h];decide),List.filter_nil,if_neg (by decide)]
 ·rw[tC h,List.filter_nil,if_pos rfl]
def K16:Type:={x:List Int // x.length=16}
instance:DecidableEq K16:=inferInstanceAs (DecidableEq {x:List Int // x.length=16})
def kK(s:Spx):K16:=⟨jq 8 s,by rw[qQ]⟩
def eK(x:K16):AV:=I3 x.1
theorem ud:∀{n:Nat}{xs ys:List Int},xs.length=n->ys.length=n->d5 (List.replicate n .int) (xs.map (AV.int .i64)) (ys.map (AV.int .i64))=some (decide (xs=ys))
 |0,[],[],_,_=>rfl
 |0,_::_,_,h,_=>absurd h (by simp)
 |0,[],_::_,_,h=>absurd h (by simp)
 |n+1,[],_,h,_=>absurd h (by simp)
 |n+1,_::_,[],_,h=>absurd h (by simp)
 |n+1,x::xs,y::ys,h1,h2=>by
  have ih:=ud (n:=n) (xs:=xs) (ys:=ys) (by simpa using h1) (by simpa using h2);have e:(x==y)=decide (x=y):=rfl;rw[List.replicate_succ,ff,ff];by_cases hxy:x=y
  ·subst hxy;simp only[d5,kq,if_true,e,decide_true,ih];simp
  ·simp only[d5,kq,if_true,e,bh hxy];simp[hxy]
theorem Lm(a b:K16):qJ (.st [.int,.int,.int,.int,.int,.int,.int,.int,.int,.int,.int,.int,.int,.int,.int,.int]) (eK a) (eK b)=some (decide (a=b)):=by
 show d5 (List.replicate 16 .int) (a.1.map (AV.int .i64)) (b.1.map (AV.int .i64))=_;rw[ud a.2 b.2]
 congr 1
 exact decide_eq_decide.2 ⟨Subtype.ext,λh=>congrArg Subtype.val h⟩
theorem Jd(v:K16)(ks:List K16):dK (.st [.int,.int,.int,.int,.int,.int,.int,.int,.int,.int,.int,.int,.int,.int,.int,.int]) (eK v) (ks.map eK)=some (if v∈ks then some (ks.idxOf v) else none):=oV _ eK Lm v ks
theorem Ec(v:K16):kD (.st [.int,.int,.int,.int,.int,.int,.int,.int,.int,.int,.int,.int,.int,.int,.int,.int]) (eK v)=true:=by
 show(16==(v.1.map (AV.int .i64)).length)=true;rw[bt,v.2];rfl
def nT(s:Spx):Prop:=1<=s.length/\s.length<=8/\∀v∈s,0<=v.color
theorem LN{s t:Spx}(hs:nT s)(ht:nT t)(h:kK s=kK t):s=t:=zX hs.2.1 ht.2.1 hs.2.2 ht.2.2 (congrArg Subtype.val h)
theorem LC{O:List Spx}{f:Spx}(hO:∀s∈O,nT s)(hf:nT f):kK f∈O.map kK↔f∈O:=by
 rw[bu];exact⟨λ⟨s,h1,h2⟩=>by rw[<-LN (hO s h1) hf h2];exact h1,λh=>⟨f,h,rfl⟩⟩
theorem JK{s:Spx}(h:ce s=0):nT s:=by
 obtain⟨p1,p2,p3,p4⟩:=bQ h;refine⟨p1,p2,λv hv=>?_⟩;have:=p4 v hv;unfold gU at this;simp only[eh,iG] at this;exact this.1.1
theorem H8{s t:Spx}{k:Nat}(hs:nT s)(hk:1<=k)(h:t∈dw s k):nT t:=by
 obtain⟨h1,h2⟩:=fe.1 h;exact⟨by omega,fp h1.length_le hs.2.1,λv hv=>hs.2.2 v (h1.subset hv)⟩
theorem sQ{O L P:List Spx}(hp:L.Perm O)(hs:br bK 0 L.length L)(hn:O.Nodup)(hm:∀s,s∈O↔s∈P):L=iJ bK P:=by
 refine l8 jc ?_ (jn jc P) λs=>by rw[hp.mem_iff,hm,f9]
 unfold bM;rw[my];intro i j hi hj hij;have h1:=hs i j (bW _) hij hj;rw[show L.getD i default=L[i] by simp[List.getD,hi],show L.getD j default=L[j] by simp[List.getD,hj]] at h1;rcases jc.tri L[i] L[j] with h|h|h
 ·exact h
 ·have:=(List.nodup_iff_pairwise_ne.1 (hp.nodup_iff.2 hn))
  exact absurd h ((my.1 this) i j hi hj hij)
 ·exact absurd h h1
theorem vn(K:Nat->Int):∀n,(∀i j,i<j->j<n->K j<0->K i<0)->∃b,b<=n/\(∀i,i<b->K i<0)/\∀i,b<=i->i<n->0<=K i
 |0,_=>⟨0,aJ _,λi h=>absurd h (by omega),λi _ h=>absurd h (by omega)⟩
 |n+1,hm=>by
  by_cases h:K n<0
  ·refine⟨n+1,aJ _,λi hi=>?_,λi h1 h2=>absurd h1 (by omega)⟩;by_cases e:i=n
   ·subst e;exact h
   ·exact hm i n (by omega) (by omega) h
  ·obtain⟨b,h1,h2,h3⟩:=vn K n (λi j hi hj=>hm i j hi (by omega));refine⟨b,by omega,h2,λi hi hi2=>?_⟩;by_cases e:i=n
   ·subst e;omega
   ·exact h3 i hi (by omega)
theorem D6{tb tf:Bool}{i j:Nat}:bE .shr tb tf (.int .u64 ((i:Int)+(j:Int))) (.int .u64 1)=some (.int .u64 (((i+j)/2:Nat):Int)):=by
 have:=yu (k:=.u64) (a:=i+j) (b:=1) (tb:=tb) (tf:=tf) (k':=.u64) (by decide);simpa using this
def cq(l:List Nat):List Int:=l.map λ(n:Nat)=>(n:Int)
def eB(c:Int)(rows:List (List Int)):AV:=.agg [.int .i64 c,bU rows]
theorem dP(c:Int)(rows:List (List Int)):Dat (eB c rows):=Dat.agg (DatL.cons .int (DatL.cons (oG _) DatL.nil))
structure MatOk(H:Hp)(b lo hi n:Nat)(F:Nat->List Nat)(vs:List AV):Prop where
 box:H b=some vs
 len:vs.length=n
 row:∀j,j<n->Row H 1 (vs.getD j .undef) ((F j).map AE)
 bnd:∀j B,j<n->cf (vs.getD j .undef)=some B->lo<=B/\B<hi/\B≠b
 apart:∀i j B,i<n->j<n->i≠j->cf (vs.getD i .undef)=some B->cf (vs.getD j .undef)≠some B
theorem MatOk.same{H H':Hp}{b lo hi hi' n:Nat}{F G:Nat->List Nat}{vs:List AV}(h:MatOk H b lo hi n F vs)(hb:H' b=H b)(hs:∀x,lo<=x->x<hi->x≠b->H' x=H x)(hh:hi<=hi')(hG:∀j,j<n->G j=F j):MatOk H' b lo hi' n G vs:=
 ⟨hb.trans h.box,h.len,λj hj=>by rw[hG j hj];exact(h.row j hj).same λB hB=>by have:=h.bnd j B hj hB;exact hs B this.1 this.2.1 this.2.2,λj B hj hB=>by have:=h.bnd j B hj hB;exact⟨this.1,by omega,this.2.2⟩,h.apart⟩
theorem MatOk.put{H H':Hp}{b lo hi hi' n i x:Nat}{F G:Nat->List Nat}{vs:List AV}{sv:AV}(h:MatOk H b lo hi n F vs)(hin:i<n)(hG:∀j,j<n->G j=if j=i then F j++[x] else F j)(hrow:Row H' 1 sv ((F i++[x]).map AE))(hB:∀B,cf sv=some B->cf (vs.getD i .undef)=some B\/hi<=B/\B<hi'/\B≠b)(hb:H' b=some (vs.set i sv))
    (hs:∀x,lo<=x->x<hi->x≠b->cf (vs.getD i .undef)≠some x->H' x=H x) (hh:hi<=hi') (hlo:lo<=hi):MatOk H' b lo hi' n G (vs.set i sv):=by
 have hl:=h.len;have hg:∀j,(vs.set i sv).getD j .undef=if i=j then sv else vs.getD j .undef:=λj=>sg (by omega)
 refine⟨hb,by simp[hl],λj hj=>?_,λj B hj=>?_,λp q B hp hq hpq=>?_⟩
 ·rw[hg,hG j hj];by_cases e:i=j
  ·rw[if_pos e,if_pos e.symm,<-e];exact hrow
  ·rw[if_neg e,if_neg (λh=>e h.symm)]
   exact(h.row j hj).same λB hB'=>by
    have:=h.bnd j B hj hB';exact hs B this.1 this.2.1 this.2.2 λh'=>h.apart i j B hin hj e h' hB'
 ·rw[hg];by_cases e:i=j
  ·rw[if_pos e];intro hB';rcases hB B hB' with h'|h'
   ·have:=h.bnd _ B hin h';exact⟨this.1,by omega,this.2.2⟩
   ·exact⟨by omega,h'.2⟩
  ·rw[if_neg e];intro hB';have:=h.bnd j B hj hB';exact⟨this.1,by omega,this.2.2⟩
 ·rw[hg,hg];by_cases e1:i=p
  ·rw[if_pos e1,if_neg (by omega)];intro h1 h2;rcases hB B h1 with h'|h'
   ·exact h.apart i q B hin hq (by omega) h' h2
   ·have:=h.bnd q B hq h2;omega
  ·rw[if_neg e1];by_cases e2:i=q
   ·rw[if_pos e2];intro h1 h2;rcases hB B h2 with h'|h'
    ·exact h.apart p i B hp hin (by omega) h1 h'
    ·have:=h.bnd p B hp h1;omega
   ·rw[if_neg e2];exact h.apart p q B hp hq hpq
theorem MatOk.snap{H:Hp}{b lo hi n:Nat}{F:Nat->List Nat}{vs:List AV}(h:MatOk H b lo hi n F vs):Snap H (.msl b n 1 0 n) (bU ((List.range n).map λi=>cq (F i))):=by
 refine jr (l:=((List.range n).map λi=>cq (F i)).map aH) h.box h.len (by omega) (by simp) (λy hy=>?_) (λi a c ha hc=>?_)
 ·obtain⟨z,_,rfl⟩:=bu.1 hy;rfl
 ·have hin:i<n:=by
    have:=(bN.1 hc).1;simpa using this
  have hr:=h.row i hin;rw[cE] at ha;have e1:vs.getD i .undef=a:=by rw[wO,ha];rfl
  rw[e1] at hr
  have e2:c=aH (cq (F i)):=by
   rw[lf,lf,List.getElem?_range hin] at hc;simpa using hc.symm
  rw[e2];exact xE hr
theorem MatOk.new{H:Hp}{b lo hi n:Nat}{F:Nat->List Nat}(hb:H b=some (List.replicate n .esl))(hF:∀j,j<n->F j=[]):MatOk H b lo hi n F (List.replicate n .esl):=by
 have hg:∀j,j<n->(List.replicate n AV.esl).getD j .undef=.esl:=λj hj=>by simp[List.getD,List.getElem?_replicate,hj]
 refine⟨hb,by simp,λj hj=>?_,λj B hj h=>?_,λi j B hi hj _ h=>?_⟩
 ·rw[hg j hj,hF j hj];exact Row.nil
 ·rw[hg j hj] at h;cases h
 ·rw[hg i hi] at h;cases h
theorem kW{H:Hp}{s:AV}{c:Int}{l:List (List Int)}{e f:Int}(h:Snap H s (bU l))(he:e=f):Snap H (.tup [.agg [.int .i64 c,s],.int .i64 e]) (.tup [eB c l,.int .i64 f]):=by
 subst he;exact bS (ag (mb (ag (.int _ _) (ag h aj))) (ag (.int _ _) aj))
theorem ue{c:List Spx}{k:Nat}{s:Spx}:s∈iY c k↔ ∃t∈c,s∈dw t k:=by
 unfold iY;rw[f9,qt]
theorem HC{c:List Spx}{k:Nat}:bM bK (iY c k):=jn jc _
theorem nr{c:List Spx}{k:Nat}(h:c.length<=50)(h8:∀s∈c,s.length<=8):(iY c k).length<=3500:=fp qA (fp (qe h8) (by omega))
theorem Du{x:Int}{l:List Int}:jC 1 (aH (x::l)) (some (.int .i64 1)) none none=some (aH l):=jT (l:=x::l) (k:=1) (by simp)
theorem KN{x:Int}{l:List Int}:eP 1 (aH (x::l)) (.int .i64 0)=some (.iptr [.int .i64 x] 0):=by
 rw[oH,if_pos ⟨Int.le_refl _,by simp only[bL];omega⟩];rfl
theorem rB{P:Program}{T:Tm}{H:Hp}{nx:Nat}{dm:DM}{K:SP}{l:List Op2}{d:Option Nat}{bytes b N len n:Nat}{s x:Opd}{v:AV}{new C cs:List AV}(hd:dm2 dm T (.app 1 bytes s x)=true)(hs:ov T s=.msl b N 1 0 len)(hb:H b=some C)(hN:C.length=N)(htk:C.take len=cs)(hcl:cs.length=len)(hx:ov T x=v)(hsrc:gC 1 H v=some (n,new))(ho:AV.ones new=true)(hnl:new.length=n)(hle:len+n<=N)(h1:N*bytes<=140737488355328)(h2:N<=9223372036854775807)
    (next:∀C':List AV,C'.length=N->C'.take (len+n)=cs++new->am P dm l (aP T d (.msl b N 1 0 (len+n))) (ao H b C') nx K):
    am P dm (⟨d,none,.app 1 bytes s x⟩::l) T H nx K:=by
 by_cases e:len=N
 ·obtain rfl:n=0:=by omega
  obtain rfl:new=[]:=List.eq_nil_of_length_eq_zero hnl;subst e;refine BJ hd hs hb hx hsrc ho hN (Nat.mul_one _).symm h1 (by omega) ?_;rw[nq,Nat.mul_one];exact next _ (by rw[gJ];exact hN) (by rw[gJ,gJ,nq];exact htk)
 ·refine y7 hd hs hb hx hsrc ho hN (λ_=>by omega) (by omega) (by omega) ?_;refine next _ ?_ ?_
  ·rw[jo (by rw[hnl,hN];omega)];exact hN
  ·simp only[bB,cE,Nat.mul_one];rw[htk,Bk (by rw[cA,hcl,hnl];omega),eM (by rw[cA,hcl,hnl];omega)]
theorem xP{H:Hp}{b N len:Nat}{C:List AV}{R:List Int}(hb:H b=some C)(hN:C.length=N)(hle:len<=N)(hR:R.length=len)(h:C.take len=R.map (AV.int .i64)):Snap H (.msl b N 1 0 len) (aH R):=by
 refine jr (l:=R.map (AV.int .i64)) hb hN (by omega) (by simp[hR]) (λy hy=>?_) (λi a c ha hc=>?_)
 ·obtain⟨z,_,rfl⟩:=bu.1 hy;rfl
 ·have hin:i<len:=by have:=(bN.1 hc).1;rw[bt] at this;omega
  rw[<-h,iQ,if_pos hin] at hc;rw[cE,hc] at ha;cases ha
  have hm:a∈R.map (AV.int .i64):=by
   rw[<-h];exact ib (i:=i) (by rw[iQ,if_pos hin];exact hc)
  obtain⟨z,_,rfl⟩:=bu.1 hm;exact .int _ _
def bX:List Int->List Int->List Int
 |[],b=>b
 |x::a,[]=>x::a
 |x::a,y::b=>if x<y then x::bX a (y::b) else if y<x then y::bX (x::a) b else bX a b
termination_by a b=>a.length+b.length
theorem jK{b:List Int}:bX [] b=b:=by rw[bX]
theorem gA{a:List Int}:bX a []=a:=by cases a<;>rw[bX]
theorem oo{x y:Int}{a b:List Int}:bX (x::a) (y::b)=if x<y then x::bX a (y::b) else if y<x then y::bX (x::a) b else bX a b:=by rw[bX]
theorem qq:∀(n:Nat)(a b:List Int),a.length+b.length<=n->(bX a b).length<=a.length+b.length
 |_,[],b,_=>by rw[jK];simp
 |_,x::a,[],_=>by rw[gA];simp
 |0,x::a,y::b,h=>by simp only[bL] at h;omega
 |n+1,x::a,y::b,h=>by
  simp only[bL] at h |-;rw[oo];have h1:=qq n a (y::b) (by simp only[bL];omega);have h2:=qq n (x::a) b (by simp only[bL];omega);have h3:=qq n a b (by omega);simp only[bL] at h1 h2;split
  ·simp only[bL];omega
  split
  ·simp only[bL];omega
  ·omega
def v4(S:List (List Int))(r:List Int):List Int:=r.foldl (λx j=>bX x (S.getD j.toNat default)) []
theorem CS{S:List (List Int)}{l:List Int}{j:Int}:v4 S (l++[j])=bX (v4 S l) (S.getD j.toNat default):=by
 unfold v4;rw[List.foldl_append];rfl
theorem L8{H:Hp}{s:AV}{l:List Spx}(h:Row H 1 s (l.map ar)):∃Hf H',Fz Hf H H'/\Snap Hf s (ak l)/\∀x,cf s≠some x->H' x=H x:=by
 generalize hcs:l.map ar=cs at h;cases h with
 |nil=>exact⟨b9,H,Fz.none,iu (by rw[hcs];exact Row.nil),λ_ _=>rfl⟩
 |box b len cs g1 g2=>exact⟨only b cs,c9 H b,Fz.one g1,iu (by rw[hcs];exact Row.box b len cs jl g2),λx hx=>cK (λe=>hx (by rw[e];rfl))⟩
def bo(l:List Int):Prop:=l.Pairwise (· < ·)
theorem jA:∀(n:Nat)(a b:List Int),a.length+b.length<=n->bo a->bo b->bo (bX a b)/\∀z,z∈bX a b↔(z∈a/\z∉b)\/(z∈b/\z∉a)
 |_,[],b,_,_,hb=>by rw[jK];exact⟨hb,λz=>by simp⟩
 |_,x::a,[],_,ha,_=>by rw[gA];exact⟨ha,λz=>by simp⟩
 |0,x::a,y::b,h,_,_=>by simp only[bL] at h;omega
 |n+1,x::a,y::b,h,ha,hb=>by
  simp only[bL] at h;obtain⟨a1,a2⟩:=iz.1 ha;obtain⟨b1,b2⟩:=iz.1 hb;rw[oo];by_cases g1:x<y
  ·rw[if_pos g1];obtain⟨h1,h2⟩:=jA n a (y::b) (by simp only[bL];omega) a2 hb
   have hxb:∀z∈y::b,x<z:=λz hz=>by
    rcases cU.1 hz with rfl|hz
    ·exact g1
    ·have:=b1 z hz;omega
   refine⟨iz.2 ⟨λz hz=>?_,h1⟩,λz=>?_⟩
   ·rcases(h2 z).1 hz with⟨q,_⟩|⟨q,_⟩
    ·exact a1 z q
    ·exact hxb z q
   ·rw[cU,h2,cU (a:=z) (b:=x)];by_cases hz:z=x
    ·subst hz;have:z∉y::b:=λq=>by have:=hxb z q;omega
     simp[this]
    ·simp[hz]
  rw[if_neg g1];by_cases g2:y<x
  ·rw[if_pos g2];obtain⟨h1,h2⟩:=jA n (x::a) b (by simp only[bL];omega) ha b2
   have hya:∀z∈x::a,y<z:=λz hz=>by
    rcases cU.1 hz with rfl|hz
    ·exact g2
    ·have:=a1 z hz;omega
   refine⟨iz.2 ⟨λz hz=>?_,h1⟩,λz=>?_⟩
   ·rcases(h2 z).1 hz with⟨q,_⟩|⟨q,_⟩
    ·exact hya z q
    ·exact b1 z q
   ·rw[cU,h2,cU (a:=z) (b:=y)];by_cases hz:z=y
    ·subst hz;have:z∉x::a:=λq=>by have:=hya z q;omega
     simp[this]
    ·simp[hz]
  rw[if_neg g2];obtain rfl:x=y:=by omega
  obtain⟨h1,h2⟩:=jA n a b (by omega) a2 b2;refine⟨h1,λz=>?_⟩;rw[h2];by_cases hz:z=x
  ·subst hz;have q1:z∉a:=λq=>by have:=a1 z q;omega
   have q2:z∉b:=λq=>by have:=b1 z q;omega
   simp[q1,q2]
  ·simp[hz]
theorem wc{l:List Int}(h:bo l)(i:Nat)(hi:i+1<l.length):l.getD i default<l.getD (i+1) default:=by
 have:=(my.1 h) i (i+1) (by omega) hi (by omega);simpa[List.getD,hi,show i<l.length by omega] using this
theorem nN:∀{a b:List Int},bo a->bo b->(∀z,z∈a↔z∈b)->a=b
 |[],[],_,_,_=>rfl
 |[],y::b,_,_,h=>absurd ((h y).2 (cW ..)) (by simp)
 |x::a,[],_,_,h=>absurd ((h x).1 (cW ..)) (by simp)
 |x::a,y::b,ha,hb,h=>by
  obtain⟨a1,a2⟩:=iz.1 ha;obtain⟨b1,b2⟩:=iz.1 hb
  have e:x=y:=by
   rcases cU.1 ((h x).1 (cW ..)) with e|e
   ·exact e
   ·rcases cU.1 ((h y).2 (cW ..)) with e2|e2
    ·exact e2.symm
    ·have:=b1 _ e;have:=a1 _ e2;omega
  subst e
  congr 1
  refine nN a2 b2 λz=>⟨λhz=>?_,λhz=>?_⟩
  ·rcases cU.1 ((h z).1 (dS _ hz)) with e|e
   ·have:=a1 z hz;omega
   ·exact e
  ·rcases cU.1 ((h z).2 (dS _ hz)) with e|e
   ·have:=b1 z hz;omega
   ·exact e
theorem dE{a b:List Int}(ha:bo a)(hb:bo b):bo (bX a b):=(jA _ a b (aJ _) ha hb).1
def bit(z:Int)(a:List Int):Nat:=if z∈a then 1 else 0
theorem iE{z:Int}:bit z []=0:=by simp[bit]
theorem ia{z:Int}{a:List Int}:bit z a<2:=by unfold bit;split<;>omega
theorem cS{z:Int}{a:List Int}:bit z a=1↔z∈a:=by unfold bit;split<;>simp[*]
theorem dh{a b:List Int}{z:Int}(ha:bo a)(hb:bo b):bit z (bX a b)=(bit z a+bit z b)%2:=by
 unfold bit;have h:=(jA _ a b (aJ _) ha hb).2 z;by_cases h1:z∈a<;>by_cases h2:z∈b<;>simp[h,h1,h2]
theorem gu{a b:List Int}(ha:bo a)(hb:bo b)(h:∀z,bit z a=bit z b):a=b:=
 nN ha hb λz=>by rw[<-cS,<-cS,h z]
theorem tF{a:List Int}(h:∀z,bit z a=0):a=[]:=by
 cases a with
 |nil=>rfl
 |cons x l=>exact absurd (h x) (by rw[cS.2 (cW ..)];decide)
def ld(r:List Int):Int:=r.getD 0 0
theorem dy{v:List Int}(h:v≠[]):ld v∈v:=by
 cases v with
 |nil=>exact absurd rfl h
 |cons x l=>exact cW ..
theorem pt{v:List Int}(h:bo v){z:Int}(hz:z∈v):ld v<=z:=by
 cases v with
 |nil=>cases hz
 |cons x l=>
  rcases cU.1 hz with rfl|hz
  ·exact Int.le_refl _
  ·exact Int.le_of_lt ((iz.1 h).1 z hz)
inductive Sp(R:List (List Int)):List Int->Prop
 |nil:Sp R []
 |add {v r:List Int}:Sp R v->r∈R->Sp R (bX v r)
theorem dC{R:List (List Int)}{r:List Int}(h:r∈R):Sp R r:=by
 have:=Sp.add (Sp.nil (R:=R)) h
 rwa [jK] at this
def lI(z:Int)(p:List Int->Bool):List (List Int)->Nat
 |[]=>0
 |r::E=>(if p r=true then bit z r else 0)+lI z p E
theorem pF{z:Int}{p q:List Int->Bool}:∀{E:List (List Int)},(∀r∈E,p r=q r)->lI z p E=lI z q E
 |[],_=>rfl
 |r::E,h=>by
  unfold lI;rw[h r (cW ..),pF λx hx=>h x (dS _ hx)]
theorem uR{z:Int}{p:List Int->Bool}:∀{E:List (List Int)},lI z p E≠0->∃q∈E,p q=true/\z∈q
 |[],h=>absurd rfl h
 |r::E,h=>by
  unfold lI at h;by_cases h1:p r=true/\z∈r
  ·exact⟨r,cW ..,h1⟩
  ·have:lI z p E≠0:=λe=>by
     rw[e] at h;by_cases h2:p r=true
     ·rw[if_pos h2] at h;have:bit z r=1:=by have:=ia (z:=z) (a:=r);omega
      exact h1 ⟨h2,cS.1 this⟩
     ·rw[if_neg h2] at h;exact h rfl
   obtain⟨q,q1,q2⟩:=uR this;exact⟨q,dS _ q1,q2⟩
theorem o0{z:Int}{p:List Int->Bool}{E:List (List Int)}(h:∀q∈E,p q=true->z∉q):lI z p E=0:=
 Decidable.byContradiction λe=>by
  obtain⟨q,q1,q2,q3⟩:=uR e;exact h q q1 q2 q3
theorem B1{z:Int}{p:List Int->Bool}{r:List Int}:∀{E:List (List Int)},E.Nodup->r∈E->lI z (λq=>(p q).xor (decide (q=r))) E%2=(lI z p E+bit z r)%2
 |[],_,h=>by cases h
 |q::E,hn,h=>by
  obtain⟨n1,n2⟩:=List.nodup_cons.1 hn;unfold lI;by_cases e:q=r
  ·subst e
   rw [pF (q:=p) (fun x hx=>by
    have:x≠q:=λe=>n1 (e▸hx);simp[this])]
   cases hp:p q<;>simp <;>have:=ia (z:=z) (a:=q)<;>omega
  ·have h2:r∈E:=(cU.1 h).resolve_left λx=>e x.symm;have:=B1 (z:=z) (p:=p) n2 h2;simp only[e,decide_false,Bool.xor_false];omega
theorem uW{z:Int}{p:List Int->Bool}{r:List Int}:∀{E:List (List Int)},E.Nodup->r∈E->z∈r->(∀q∈E,z∈q->q=r)->lI z p E=if p r=true then 1 else 0
 |[],_,h,_,_=>by cases h
 |q::E,hn,h,hz,ho=>by
  obtain⟨n1,n2⟩:=List.nodup_cons.1 hn;unfold lI;by_cases e:q=r
  ·subst e;rw[o0 (λx hx _ hzx=>n1 (ho x (dS _ hx) hzx▸hx)),cS.2 hz,nq]
  ·have h2:r∈E:=(cU.1 h).resolve_left λx=>e x.symm;have hq:z∉q:=λx=>e (ho q (cW ..) x);rw[uW n2 h2 hz λx hx=>ho x (dS _ hx),show bit z q=0 by unfold bit;rw[if_neg hq]];simp
theorem yD{E:List (List Int)}{v:List Int}(hE:∀r∈E,bo r)(hn:E.Nodup)(h:Sp E v):bo v/\∃p,∀z,bit z v=lI z p E%2:=by
 induction h with
 |nil=>exact⟨lS,λ_=>false,λz=>by rw[iE,o0 (p:=λ_=>false) λq _ h=>by cases h]⟩
 | @add w r h1 h2 ih=>
  obtain⟨ha,p,hp⟩:=ih;refine⟨dE ha (hE _ h2),λq=>(p q).xor (decide (q=r)),λz=>?_⟩;rw[dh ha (hE _ h2),hp z,B1 hn h2];omega
theorem lw{R:List (List Int)}{v:List Int}(hR:∀r∈R,bo r)(h:Sp R v):bo v:=by
 induction h with
 |nil=>exact lS
 |add h1 h2 ih=>exact dE ih (hR _ h2)
structure Red(E:List (List Int)):Prop where
 asc:∀r∈E,bo r
 ne:∀r∈E,r≠[]
 own:∀r∈E,∀q∈E,ld r∈q->q=r
 ord:E.Pairwise λr q=>ld r<ld q
theorem Red.nodup{E:List (List Int)}(h:Red E):E.Nodup:=yO (λ{x y}(q:ld x<ld y) e=>by rw[e] at q;omega) h.ord
theorem Red.cnt{E:List (List Int)}(h:Red E){p:List Int->Bool}{r:List Int}(hr:r∈E):lI (ld r) p E=if p r=true then 1 else 0:=
 uW h.nodup hr (dy (h.ne r hr)) λq hq hz=>h.own r hr q hq hz
theorem JI{E:List (List Int)}{v w:List Int}(hE:Red E)(hv:Sp E v)(hw:Sp E w)(h:∀r∈E,ld r∈v↔ld r∈w):v=w:=by
 obtain⟨av,p,hp⟩:=yD hE.asc hE.nodup hv;obtain⟨aw,q,hq⟩:=yD hE.asc hE.nodup hw;refine gu av aw λz=>?_;rw[hp z,hq z]
 congr 1
 refine pF λr hr=>?_;have h1:=h r hr;rw[<-cS,<-cS,hp,hq,hE.cnt hr,hE.cnt hr] at h1;cases h2:p r<;>cases h3:q r<;>simp[h2,h3] at h1<;>rfl
theorem AD{p:List Int->Bool}:∀{E:List (List Int)},E.Pairwise (λr q=>ld r<ld q)->(∃r∈E,p r=true)->∃r∈E,p r=true/\∀q∈E,p q=true->ld r<=ld q
 |[],_,h=>by obtain⟨_,h,_⟩:=h;cases h
 |x::E,ho,h=>by
  obtain⟨o1,o2⟩:=iz.1 ho;by_cases hx:p x=true
  ·refine⟨x,cW ..,hx,λq hq _=>?_⟩;rcases cU.1 hq with rfl|hq
   ·exact Int.le_refl _
   ·exact Int.le_of_lt (o1 q hq)
  ·obtain⟨r,hr,hp⟩:=h;have hrE:r∈E:=(cU.1 hr).resolve_left λe=>hx (e▸hp);obtain⟨s,s1,s2,s3⟩:=AD o2 ⟨r,hrE,hp⟩;refine⟨s,dS _ s1,s2,λq hq hpq=>?_⟩;rcases cU.1 hq with rfl|hq
   ·exact absurd hpq hx
   ·exact s3 q hq hpq
theorem BH{E:List (List Int)}{v:List Int}(hE:Red E)(hv:Sp E v)(h0:v≠[]):∃r∈E,ld r=ld v:=by
 obtain⟨av,p,hp⟩:=yD hE.asc hE.nodup hv
 have hex:∃ r ∈ E,p r=true:=Decidable.byContradiction fun hn=>h0 (tF fun z=>by
  rw[hp z,o0 λq hq hpq=>absurd ⟨q,hq,hpq⟩ hn])
 obtain⟨r,r1,r2,r3⟩:=AD hE.ord hex;refine⟨r,r1,Int.le_antisymm ?_ ?_⟩
 ·have h1:bit (ld v) v=1:=cS.2 (dy h0);rw[hp] at h1;obtain⟨q,q1,q2,q3⟩:=uR (z:=ld v) (p:=p) (E:=E) (λe=>by rw[e] at h1;cases h1);exact Int.le_trans (r3 q q1 q2) (pt (hE.asc q q1) q3)
 ·refine pt av (cS.1 ?_);rw[hp,hE.cnt r1,if_pos r2]
theorem xY:∀{E F:List (List Int)},E.map ld=F.map ld->(∀r∈E,∀q∈F,ld r=ld q->r=q)->E=F
 |[],[],_,_=>rfl
 |[],_::_,h,_=>by cases h
 |_::_,[],h,_=>by cases h
 |x::E,y::F,h,hi=>by
  obtain⟨h1,h2⟩:=List.cons.inj h;rw[hi x (cW ..) y (cW ..) h1,xY h2 λr hr q hq=>hi r (dS _ hr) q (dS _ hq)]
theorem qu{E F:List (List Int)}(hE:Red E)(hF:Red F)(h:∀v,Sp E v↔Sp F v):E=F:=by
 have leads:E.map ld=F.map ld:=by
  refine nN (List.pairwise_map.2 hE.ord) (List.pairwise_map.2 hF.ord) λz=>?_;rw[bu,bu];constructor
  ·rintro⟨r,hr,rfl⟩;exact BH hF ((h r).1 (dC hr)) (hE.ne r hr)
  ·rintro⟨r,hr,rfl⟩;exact BH hE ((h r).2 (dC hr)) (hF.ne r hr)
 refine xY leads λr hr q hq e=>?_;refine JI hF ((h r).1 (dC hr)) (dC hq) λf hf=>⟨λhfr=>?_,λhfq=>?_⟩
 ·have hm:ld f∈E.map ld:=by rw[leads];exact bu.2 ⟨f,hf,rfl⟩
  obtain⟨g,hg,eg⟩:=bu.1 hm;rw[<-eg] at hfr;have h1:=hE.own g hg r hr hfr;rw[<-eg,<-h1,e];exact dy (hF.ne q hq)
 ·have h1:=hF.own f hf q hq hfq;rw[<-h1,<-e];exact dy (hE.ne r hr)
section
attribute [local irreducible] aM am bn aZ aS aV aD aX ba bw Go.Abs.Fn aY Go.Abs.Pure aq aO Yl
theorem gM(c:List Spx)(hc:Shn c)(hs:∀s∈c,Shn s):pU 78 [b7 c] (.int .i64 (ay c)):=by
 refine pO QO ?_;simp only[b78,aK];have hc':c.length<=17592186044416:=hc;by_cases h0:4096<c.length
 ·rw[show ay c=5 by unfold ay;rw[if_pos h0]];refine wnZ (zI3 @ah @ai @af) ?_
  all_goals exact eV rfl
 rw[show ay c=if d9 (pC c) c.length≠0 then d9 (pC c) c.length else if c.any (b5 c)=true then 7 else 0 by unfold ay;rw[if_neg h0]];refine dT ?_;have zz:=aI @ah (aI @ai @af);repeat' (first|apply a_n|refine zO ?_|refine vZ ?_|refine bxZ ?_|fail)
 refine dT (dT ?_);clear zz;have zz:=aI @ah (aI @ai @af);repeat' (first|apply a_n|refine zO ?_|refine vZ ?_|(refine zGZ ?_ ?_<;>(intro _hg;try (exfalso;omega)))|fail)
 by_cases hz:d9 (pC c) c.length≠0
 ·rw[if_pos hz];refine wnZ (zI3 @ah @ai @af) ?_;refine lpI (X:=Nat) (λk=>[(1,.ptr 0 1 0),(14,ak c),(15,.int .i64 c.length),(16,.int .i64 k)]) (λk H nx=>k<=c.length/\H 0=some [ak c]/\∀i,i<k->pC c i=0) (λk=>c.length-k) 0 ⟨bW _,rfl,λi h=>absurd h (by omega)⟩ ?_;rintro k H nx ⟨h1,g0,h2⟩;by_cases hk:k<c.length
  rotate_left
  ·exact absurd (dU λi hi=>h2 i (by omega)) hz
  have ix:=eO hk;have hs1:=hs _ (az hk);have hp:=qW (c.getD k default) hs1;have hsp:=vW (c:=c) (k:=k);by_cases he:ce (c.getD k default)≠0
  ·rw[if_pos he] at hsp;rw[dM hk h2 (by rw[hsp];exact he),hsp];have z:decide (ce (c.getD k default)≠0)=true:=bd he;refine wnY (zI3 @ah @ix @z) ?_;exact .int _ _
  rw[if_neg he] at hsp;have he:=tt he;rw[he] at hp;have z:decide ((0:Int)≠0)=false:=rfl;by_cases hk0:0<k
  rotate_left
  ·rw[if_neg (λh=>hk0 h.1)] at hsp;have zk:decide (0<(k:Int))=false:=bh (by omega);refine wnY (zI4 @ah @ix @z @zk) ?_
   exact ⟨k + 1,by omega,⟨by omega,g0,fun i hi=>by
    rcases kH.1 hi with h'|rfl
    ·exact h2 i h'
    ·exact hsp⟩,ag0⟩
  have zk:decide (0<(k:Int))=true:=bd (by omega)
  have iy:eP 1 (ak c) (.int .i64 ((k:Int)-1))=some (.iptr [ar (c.getD (k-1) default)] 0):=by
   have:=eO (l:=c) (k:=k-1) (by omega)
   rwa [show((k-1:Nat):Int)=(k:Int)-1 by omega] at this
  have hcm:=im (c.getD (k-1) default) (c.getD k default) (hs _ (az (by omega))) hs1;by_cases hv:0<=bK (c.getD (k-1) default) (c.getD k default)
  ·have z2:decide (0<=bK (c.getD (k-1) default) (c.getD k default))=true:=bd hv;rw[if_pos ⟨hk0,hv⟩] at hsp;rw[dM hk h2 (by rw[hsp];decide),hsp];refine wnY (zI7 @ah @ix @iy @z @zk @z2 @g0) ?_;exact .int _ _
  ·have z2:decide (0<=bK (c.getD (k-1) default) (c.getD k default))=false:=bh hv;rw[if_neg (λh=>hv h.2)] at hsp;refine wnY (zI7 @ah @ix @iy @z @zk @z2 @g0) ?_
   exact ⟨k + 1,by omega,⟨by omega,g0,fun i hi=>by
    rcases kH.1 hi with h'|rfl
    ·exact h2 i h'
    ·exact hsp⟩,ag0⟩
 have hz:=tt hz;rw[if_neg (λh=>h hz)];obtain⟨a1,a2⟩:=Dg hz;have hall:=kj hz;have hok:=Ib (by omega) a1;refine cR (λT H nx=>T 1=.ptr 0 1 0/\H 0=some [ak c]/\1<=nx) ?_ ?_
 ·refine wnZ (zI3 @ah @ai @af) ?_;refine lpI (X:=Nat) (λk=>[(1,.ptr 0 1 0),(14,ak c),(15,.int .i64 c.length),(16,.int .i64 k)]) (λk H nx=>k<=c.length/\H 0=some [ak c]/\1<=nx) (λk=>c.length-k) 0 ⟨bW _,rfl,by omega⟩ ?_;rintro k H nx ⟨h1,g0,hnx⟩;by_cases hk:k<c.length
  rotate_left
  ·refine wnY and_self ?_;exact⟨rfl,g0,hnx⟩
  have ix:=eO hk;have hs1:=hs _ (az hk);have hp:=qW (c.getD k default) hs1;rw[a1 _ (az hk)] at hp;have z:decide ((0:Int)≠0)=false:=rfl;by_cases hk0:0<k
  rotate_left
  ·have zk:decide (0<(k:Int))=false:=bh (by omega);refine wnY (zI4 @ah @ix @z @zk) ?_;exact⟨k+1,by omega,⟨by omega,g0,hnx⟩,ag0⟩
  have zk:decide (0<(k:Int))=true:=bd (by omega)
  have iy:eP 1 (ak c) (.int .i64 ((k:Int)-1))=some (.iptr [ar (c.getD (k-1) default)] 0):=by
   have:=eO (l:=c) (k:=k-1) (by omega)
   rwa [show((k-1:Nat):Int)=(k:Int)-1 by omega] at this
  have hcm:=im (c.getD (k-1) default) (c.getD k default) (hs _ (az (by omega))) hs1;have z2:decide (0<=bK (c.getD (k-1) default) (c.getD k default))=false:=bh (by have:=eo a2 (i:=k-1) (j:=k) (by omega) hk;omega);refine wnY (zI7 @ah @ix @iy @z @zk @z2 @g0) ?_;exact⟨k+1,by omega,⟨by omega,g0,hnx⟩,ag0⟩
 rintro T H nx ⟨t1,g0,hnx⟩;refine wnY (aI @t1 @g0) ?_;refine aU ev0 (have zz:=@t1;evZ) (oe c hok.1 (λs hs=>⟨(hok.2 s hs).1,by have:=(hok.2 s hs).2;omega⟩) _ _) ?_;rintro _ H1 nx1 ⟨ks,vs,rfl,hinc,hsame,hlt⟩;have g0':H1 0=some [ak c]:=(hsame 0 (by omega)).trans g0;refine wnY (zI3 @t1 @g0' @ah) ?_;refine ca (X:=Nat) (λk=>[(1,.ptr 0 1 0),(6,.mp nx),(44,ak c),(45,.int .i64 c.length),(46,.int .i64 k)]) (λk H' nx'=>k<=c.length/\H'=H1/\nx'=nx1/\∀i,i<k->b5 c (c.getD i default)=false) (λk=>c.length-k) 0 ⟨bW _,rfl,rfl,λi h=>absurd h (by omega)⟩ (have zz:=@t1;agZ) ?_;rintro k H' nx' ⟨h1,rfl,rfl,h2⟩;by_cases hk:k<c.length
 rotate_left
 ·rw[si λi hi=>h2 i (by omega),if_neg (by decide)];refine wnY and_self ?_;exact .int _ _
 have ix:=eO hk;obtain⟨p1,p2,p3,p4⟩:=bQ (a1 _ (az hk));have hcv:=xF c (c.getD k default) hok (hok.2 _ (az hk)) (by omega);have iy:=ix2 (l:=c.getD k default) (k:=0) (by omega);rw[show((0:Nat):Int)=0 from rfl] at iy
 have hks:(c.getD k default).getD 0 default∈ks:=(hinc.dom _).2 λe=>by
  have:k∈iX c c.length ((c.getD k default).getD 0 default):=dJ.2 ⟨du.2 hk,bd (az (by omega))⟩;rw[e] at this;cases this
 have hmf:=nt ((c.getD k default).getD 0 default) ks;rw[if_pos hks] at hmf;obtain⟨m1,m2⟩:=o7 hks;have hr:=hinc.row _ m1;rw[m2] at hr;have hcb:b5 c (c.getD k default)=true->c.any (b5 c)=true:=λh=>pQ.2 ⟨_,az hk,h⟩;generalize hsk:c.getD k default=s at *;refine wnY @ix ?_;refine w_mix1 0 g0' λS hS0 hsub'=>?_;have hsub:=hsub' H' g0';refine wnY (aI @hS0 @iy) ?_;refine eb ?_;refine fh ev0 hinc.box ev0 (lJ _) hmf ?_;refine jv ⟨hsub,?_⟩;rw[show mget .esl false (some (ks.idxOf (s.getD 0 default))) vs=vs.getD (ks.idxOf (s.getD 0 default)) .undef from rfl];refine iR ?_;cases hb:b5 c s
 ·rw[hb] at hcv;refine ey ev0 ev0 hcv (aB (ag (bJ _ _) (ag (xE hr) (ag (c8 _ _) aj))) rfl) ?_;refine wnY and_self ?_
  exact ⟨k + 1,by omega,⟨by omega,rfl,rfl,fun i hi=>by
   rcases kH.1 hi with h'|rfl
   ·exact h2 i h'
   ·rw[hsk];exact hb⟩,ag0⟩
 ·rw[hb] at hcv;rw[hcb hb,if_pos rfl];refine ey ev0 ev0 hcv (aB (ag (bJ _ _) (ag (xE hr) (ag (c8 _ _) aj))) rfl) ?_;refine wnY and_self ?_;exact .int _ _
theorem JC(c:List Spx)(hc:Shn c)(hs:∀s∈c,Shn s):pU 28 [b7 c] (.int .i64 (ay c)):=by
 refine pO PY ?_;simp only[b28,aK];have hc':c.length<=17592186044416:=hc;by_cases h0:4096<c.length
 ·rw[show ay c=5 by unfold ay;rw[if_pos h0]];refine wnZ (zI3 @ah @ai @af) ?_
  all_goals exact eV rfl
 rw[show ay c=if d9 (pC c) c.length≠0 then d9 (pC c) c.length else if c.any (b5 c)=true then 7 else 0 by unfold ay;rw[if_neg h0]];refine dT ?_;have zz:=aI @ah (aI @ai @af);repeat' (first|apply a_n|refine zO ?_|refine vZ ?_|refine bxZ ?_|fail)
 refine dT ?_;clear zz;have zz:=aI @ah (aI @ai @af);repeat' (first|apply a_n|refine zO ?_|refine vZ ?_|fail)
 refine dT (dT ?_);clear zz;have zz:=aI @ah (aI @ai @af);repeat' (first|apply a_n|refine zO ?_|refine vZ ?_|(refine zGZ ?_ ?_<;>(intro _hg;try (exfalso;omega)))|fail)
 by_cases hz:d9 (pC c) c.length≠0
 ·rw[if_pos hz];refine wnZ (zI3 @ah @ai @af) ?_;refine ca (X:=Nat) (λk=>[(3,ak c),(4,.int .i64 k)]) (λk H nx=>k<=c.length/\∀i,i<k->pC c i=0) (λk=>c.length-k) 0 ⟨bW _,λi h=>absurd h (by omega)⟩ ag0 ?_;rintro k H nx ⟨h1,h2⟩;by_cases hk:k<c.length
  rotate_left
  ·exact absurd (dU λi hi=>h2 i (by omega)) hz
  have ix:=eO hk;have hs1:=hs _ (az hk);have hp:=Ds (c.getD k default) hs1;have hsp:=vW (c:=c) (k:=k);by_cases he:ce (c.getD k default)≠0
  ·rw[if_pos he] at hsp;rw[dM hk h2 (by rw[hsp];exact he),hsp];have z:decide (ce (c.getD k default)≠0)=true:=bd he;refine wnY (zI3 @ah @ix @z) ?_;exact .int _ _
  rw[if_neg he] at hsp;have he:=tt he;rw[he] at hp;have z:decide ((0:Int)≠0)=false:=rfl;by_cases hk0:0<k
  rotate_left
  ·rw[if_neg (λh=>hk0 h.1)] at hsp;have zk:decide (0<(k:Int))=false:=bh (by omega);refine wkY (zI4 @ah @ix @z @zk) ?_
   exact ⟨k + 1,by omega,⟨by omega,fun i hi=>by
    rcases kH.1 hi with h'|rfl
    ·exact h2 i h'
    ·exact hsp⟩,ag0⟩
  have zk:decide (0<(k:Int))=true:=bd (by omega)
  have iy:eP 1 (ak c) (.int .i64 ((k:Int)-1))=some (.iptr [ar (c.getD (k-1) default)] 0):=by
   have:=eO (l:=c) (k:=k-1) (by omega)
   rwa [show((k-1:Nat):Int)=(k:Int)-1 by omega] at this
  have hcm:=pX (c.getD (k-1) default) (c.getD k default) (hs _ (az (by omega))) hs1;by_cases hv:0<=bK (c.getD (k-1) default) (c.getD k default)
  ·have z2:decide (0<=bK (c.getD (k-1) default) (c.getD k default))=true:=bd hv;rw[if_pos ⟨hk0,hv⟩] at hsp;rw[dM hk h2 (by rw[hsp];decide),hsp];refine wkY (zI6 @ah @ix @iy @z @zk @z2) ?_;exact .int _ _
  ·have z2:decide (0<=bK (c.getD (k-1) default) (c.getD k default))=false:=bh hv;rw[if_neg (λh=>hv h.2)] at hsp;refine wkY (zI6 @ah @ix @iy @z @zk @z2) ?_
   exact ⟨k + 1,by omega,⟨by omega,fun i hi=>by
    rcases kH.1 hi with h'|rfl
    ·exact h2 i h'
    ·exact hsp⟩,ag0⟩
 have hz:=tt hz;rw[if_neg (λh=>h hz)];obtain⟨a1,a2⟩:=Dg hz;have hok:=Ib (by omega) a1;refine cR (λT H nx=>T 3=ak c) ?_ ?_
 ·refine wnZ (zI3 @ah @ai @af) ?_;refine ca (X:=Nat) (λk=>[(3,ak c),(4,.int .i64 k)]) (λk H nx=>k<=c.length) (λk=>c.length-k) 0 (bW _) ag0 ?_;rintro k H nx h1;by_cases hk:k<c.length
  rotate_left
  ·refine wnY @ah ?_;exact rfl
  have ix:=eO hk;have hs1:=hs _ (az hk);have hp:=Ds (c.getD k default) hs1;rw[a1 _ (az hk)] at hp;have z:decide ((0:Int)≠0)=false:=rfl;by_cases hk0:0<k
  rotate_left
  ·have zk:decide (0<(k:Int))=false:=bh (by omega);refine wkY (zI4 @ah @ix @z @zk) ?_;exact⟨k+1,by omega,by omega,ag0⟩
  have zk:decide (0<(k:Int))=true:=bd (by omega)
  have iy:eP 1 (ak c) (.int .i64 ((k:Int)-1))=some (.iptr [ar (c.getD (k-1) default)] 0):=by
   have:=eO (l:=c) (k:=k-1) (by omega)
   rwa [show((k-1:Nat):Int)=(k:Int)-1 by omega] at this
  have hcm:=pX (c.getD (k-1) default) (c.getD k default) (hs _ (az (by omega))) hs1;have z2:decide (0<=bK (c.getD (k-1) default) (c.getD k default))=false:=bh (by have:=eo a2 (i:=k-1) (j:=k) (by omega) hk;omega);refine wkY (zI6 @ah @ix @iy @z @zk @z2) ?_;exact⟨k+1,by omega,by omega,ag0⟩
 rintro T H nx t3;refine wnY @t3 ?_;refine ca (X:=Nat) (λk=>[(3,ak c),(6,.int .i64 k)]) (λk H' nx'=>k<=c.length/\∀i,i<k->b5 c (c.getD i default)=false) (λk=>c.length-k) 0 ⟨bW _,λi h=>absurd h (by omega)⟩ (have zz:=@t3;agZ) ?_;clear zz;clear t3;rintro i H1 nx1 ⟨h1,h2⟩;by_cases hi:i<c.length
 rotate_left
 ·rw[si λi hi=>h2 i (by omega),if_neg (by decide)];refine wnY @ah ?_;exact .int _ _
 refine wnY @ah ?_;refine ca (X:=Nat) (λk=>[(3,ak c),(6,.int .i64 i),(7,.int .i64 k)]) (λk H' nx'=>k<=c.length/\∀j,j<k->i≠j->fQ (c.getD i default) (c.getD j default)=false) (λk=>c.length-k) 0 ⟨bW _,λi h=>absurd h (by omega)⟩ ag0 ?_;rintro k H2 nx2 ⟨k1,k2⟩;by_cases hk:k<c.length
 rotate_left
 ·refine wnY @ah ?_;refine⟨i+1,by omega,⟨by omega,λj hj=>?_⟩,ag0⟩;rcases kH.1 hj with h'|rfl
  ·exact h2 j h'
  ·cases hb:b5 c (c.getD j default)
   ·rfl
   ·obtain⟨q,q1,q2,q3⟩:=Im hb;rw[k2 q (by omega) q2] at q3;cases q3
 have ix:=eO hi;have iy:=eO hk;by_cases hik:i=k
 ·have z:decide ((i:Int)≠(k:Int))=false:=bh (by omega);refine wkY (aI @ah @z) ?_;exact⟨k+1,by omega,⟨by omega,λj hj hij=>k2 j (by omega) hij⟩,ag0⟩
 have z:decide ((i:Int)≠(k:Int))=true:=bd (by omega);have hin:=Gv (c.getD i default) (c.getD k default) (hs _ (az hi)) (hs _ (az hk));have ht:=Gb (λs hs=>(hok.2 s hs).1) a2 hi hk hik;cases hb:fQ (c.getD i default) (c.getD k default)
 ·rw[hb] at hin;refine wkY (zI4 @ah @ix @iy @z) ?_
  exact ⟨k + 1,by omega,⟨by omega,fun j hj hij=>by
   rcases kH.1 hj with h'|rfl
   ·exact k2 j h' hij
   ·exact hb⟩,ag0⟩
 ·rw[hb] at hin;rw[if_pos (pQ.2 ⟨_,az hi,ht hb⟩)];refine wkY (zI4 @ah @ix @iy @z) ?_;exact .int _ _
theorem HR{H:Hp}{a b:Bool}{e f:Int}(h1:a=b)(h2:e=f):Snap H (.tup [.bool a,.int .i64 e]) (.tup [.bool b,.int .i64 f]):=by
 subst h1 h2;exact bS (ag (.bool _) (ag (.int _ _) aj))
theorem G0(s:AV)(l:Spx)(hl:l.length<=1000000)(h0:l≠[])(H:Hp)(nx:Nat)(hn:eT s=some l.length)(hs:∀H',(∀x,x<nx->H' x=H x)->gC 2 H' s=some (l.length,cX l)):Abs.Fn Tryz.prog 136 [s] H nx λr H' nx'=>r=.msl nx (l.length*2) 2 0 l.length/\H'=ao H nx (cX l)/\nx'=nx+1:=by
 have hpos:=iM.2 h0;refine fO KU ?_;simp only[Ma,aK];refine wnY and_self ?_;refine rp (k:=l.length) (by((try simp only[ct,ZA,reduceEqDiff,↓reduceIte,reduceAdd,reduceLeDiff]);(try with_reducible rfl));exact hn) (λh=>?_) (λh=>by omega) (λh=>by omega);refine wnY and_self ?_;refine jG rfl ev0 ev0 (hs _ λx _=>rfl) (mg _) (by omega) (by omega) ?_;refine wnY and_self ?_;exact⟨rfl,rfl,rfl⟩
theorem My{y lo kb sb k N:Nat}{s:Spx}(hs:s.length<=1000)(hk:k<=1000)(I:List Spx->Hp->Nat->Prop)
    (hp:∀S H nx,I S H nx->H kb=some [.int .i64 k]/\H sb=some [ar s]/\lo+3<=nx/\kb<lo/\sb<lo)
    (stab:∀S H H' nx nx',I S H nx->nx<=nx'->(∀i,i<nx->¬(lo<=i/\i<lo+3)->H' i=H i)->I S H' nx')
    (rnd:∀S f H nx,I S H nx->f.length=k->f≠[]->S.length<N->Yl Tryz.prog y [.msl nx (k*2) 2 0 k] (ao H nx (cX f)) (nx+1) λr H' nx'=>r=.bool true/\I (S++[f]) H' nx'/\nx<=nx'/\∀i,lo<=i->i<lo+3->H' i=H i):
    ∀(j:Nat)(ch:Spx)(at_:Nat)(S:List Spx)(H:Hp)(nx:Nat),0<k->ch.length+j=k->S.length+(dw (s.drop at_) j).length<=N->at_<=s.length->I S H nx->H lo=some [.yld y]->H (lo+1)=some [.func 178 [.ptr kb 1 0,.ptr lo 1 0,.ptr sb 1 0,.ptr (lo+1) 1 0]]->(∃C,H (lo+2)=some C/\C.length=k*2/\C.take (ch.length*2)=cX ch)->
     Abs.Fn Tryz.prog 178 [.int .i64 at_,.msl (lo+2) (k*2) 2 0 ch.length,.ptr kb 1 0,.ptr lo 1 0,.ptr sb 1 0,.ptr (lo+1) 1 0] H nx λr H' nx'=>r=.bool true/\I (S++(dw (s.drop at_) j).map (ch++ ·)) H' nx'/\nx<=nx'/\H' lo=H lo/\H' (lo+1)=H (lo+1)/\∃C,H' (lo+2)=some C/\C.length=k*2/\C.take (ch.length*2)=cX ch:=by
 intro j
 induction j with
 |zero=>
  intro ch at_ S H nx hk0 hj hN hat hI h1 h2 ⟨C,h3,hc1,hc2⟩;obtain⟨g1,g2,g3,g4,g5⟩:=hp _ _ _ hI;have hlen:ch.length=k:=by omega
  have hne:ch≠[]:=λe=>by rw[e] at hlen;simp at hlen;omega
  obtain rfl:C=cX ch:=by rw[<-hc2,eM (by omega)]
  refine fO Kx ?_;simp only[Mw,aK];have hcl:=G0 (.msl (lo+2) (k*2) 2 0 k) ch (by omega) hne H nx (by rw[hlen];rfl) (λH' hH'=>by rw[hlen];exact(gK (n:=k*2) (off:=0) (len:=k) ((hH' (lo+2) (by omega)).trans h3) hc1 (by omega)).trans (by rw[List.drop_zero,eM (by omega)]));rw[hlen] at hcl;rw[hlen];have z:decide ((k:Int)=k)=true:=bd rfl;refine wnY (zI5 @g1 @g2 @h1 @h2 @z) ?_;refine w_mix1 lo h1 λS0 hS hsub=>?_;refine wnY @hS ?_;refine eb ?_;refine aU ev0 ev0 hcl ?_;rintro _ H2 nx2 ⟨rfl,rfl,rfl⟩;refine jv ⟨hsub _ (by rw[ab (by omega)];exact h1),?_⟩;refine iR ?_;refine zh ev0 ev0 (Yl.mono (rnd S ch H nx hI hlen hne (by rw[rO] at hN;exact hN)) ?_);rintro r H3 nx3 ⟨rfl,e1,e2,e3⟩;refine wnY and_self ?_;refine⟨rfl,?_,e2,e3 _ (by omega) (by omega),e3 _ (by omega) (by omega),cX ch,(e3 _ (by omega) (by omega)).trans h3,hc1,by rw[<-hlen];exact hc2⟩;rw[rO,ff,List.map_nil,gJ];exact e1
 |succ j ih=>
  intro ch at_ S H nx hk0 hj hN hat hI h1 h2 ⟨C,h3,hc1,hc2⟩;obtain⟨g1,g2,g3,g4,g5⟩:=hp _ _ _ hI;refine fO Kx ?_;simp only[Mw,aK];have z:decide ((ch.length:Int)=k)=false:=bh (by omega);refine wnY (zI5 @g1 @g2 @h1 @h2 @z) ?_;refine ca (X:=Nat×List Spx) (λx=>[(1,.msl (lo+2) (k*2) 2 0 ch.length),(4,.ptr sb 1 0),(5,.ptr (lo+1) 1 0),(9,.int .i64 x.1)]) (λx H' nx'=>x.1<=s.length/\I x.2 H' nx'/\nx<=nx'/\H' lo=H lo/\H' (lo+1)=H (lo+1)/\(∃C,H' (lo+2)=some C/\C.length=k*2/\C.take (ch.length*2)=cX ch)/\x.2++(dw (s.drop x.1) (j+1)).map (ch++ ·)=S++(dw (s.drop at_) (j+1)).map (ch++ ·)) (λx=>s.length-x.1) (at_,S) ⟨hat,hI,aJ _,rfl,rfl,⟨C,h3,hc1,hc2⟩,rfl⟩ ag0 ?_;rintro⟨i,S1⟩ H1 nx1 ⟨i1,hI1,i2,i3,i4,⟨C1,k3,d1,d2⟩,htot⟩;dsimp only at i1 hI1 htot |-;obtain⟨q1,q2,q3,q4,q5⟩:=hp _ _ _ hI1;have w1:=i3.trans h1;have w2:=i4.trans h2;by_cases hi:i<s.length
  rotate_left
  ·refine wnY (zI3 @q1 @q2 @au) ?_;rw[show s.drop i=[] from CF (by omega),Bd,List.map_nil,gJ] at htot;exact⟨rfl,by rw[<-htot];exact hI1,i2,i3,i4,C1,k3,d1,d2⟩
  have ix:=ix2 hi;rw[EE hi,dr,List.map_map,<-np] at htot;have hmm:(dw (s.drop (i+1)) j).map ((λx=>ch++x) ∘ λx=>s.getD i default::x)=(dw (s.drop (i+1)) j).map ((ch++[s.getD i default])++ ·):=wJ λx _=>by simp
  rw[hmm] at htot;generalize s.getD i default=v at *;refine wnY (zI3 @q1 @q2 @au) ?_;refine pz sb (lo+1) q2 w2 (by omega) λS0 hS1 hS2 hsub=>?_;refine wnY (zI3 @hS1 @hS2 @ix) ?_;refine eb ?_;refine wnY and_self ?_;refine⟨hsub _ (by rw[ab (by omega)];exact q2) (by rw[ab (by omega)];exact w2),?_⟩;refine eb ?_;refine y7 (b:=lo+2) (m:=k*2) (off:=0) (len:=ch.length) (n:=1) rfl ev0 (by rw[ab (by omega)];exact k3) ev0 r6 rfl d1 (λ_=>by omega) (by omega) (by omega) ?_;refine jv ⟨hsub _ (by rw[ab (by omega),ab (by omega)];exact q2) (by rw[ab (by omega),ab (by omega)];exact w2),?_⟩;refine iR ?_;have hl1:(ch++[v]).length=ch.length+1:=by simp
  have hcc:=gB ch
  have hput:(bB C1 (0+ch.length*2) [.int .i64 v.color,.int .i64 v.label]).length=k*2/\(bB C1 (0+ch.length*2) [.int .i64 v.color,.int .i64 v.label]).take ((ch.length+1)*2)=cX (ch++[v]):=by
   rw[cE];simp only[bB];refine⟨by simp[d1];omega,?_⟩;rw[d2,lB,Lo,Bk (by simp[hcc];omega),eM (by simp[hcc];omega)]
  have hN1:S1.length+(dw (s.drop (i+1)) j).length<=N:=by
   have:=congrArg List.length htot;simp only[cA,bt] at this;omega
  have hih:=ih (ch++[v]) (i+1) S1 (ao (ao H1 nx1 [.int .i64 v.color,.int .i64 v.label]) (lo+2) (bB C1 (0+ch.length*2) [.int .i64 v.color,.int .i64 v.label])) (nx1+1) hk0 (by omega) hN1 (by omega) (stab _ _ _ _ _ hI1 (by omega) (λx hx hn=>by rw[ab (by omega),ab (by omega)])) (by rw[ab (by omega),ab (by omega)];exact w1) (by rw[ab (by omega),ab (by omega)];exact w2) ⟨_,ae,hput.1,by rw[hl1];exact hput.2⟩;rw[hl1,show((i+1:Nat):Int)=(i:Int)+1 by omega] at hih;refine aU ev0 ev0 hih ?_;rintro r H4 nx4 ⟨rfl,f1,f2,f3,f4,C4,f5,f6,f7⟩;refine wnY and_self ?_;refine⟨(i+1,S1++(dw (s.drop (i+1)) j).map ((ch++[v])++ ·)),by dsimp only;omega,⟨by dsimp only;omega,f1,by omega,f3.trans ?_,f4.trans ?_,⟨C4,f5,f6,?_⟩,htot⟩,ag0⟩
  ·rw[ab (by omega),ab (by omega)];exact i3
  ·rw[ab (by omega),ab (by omega)];exact i4
  ·have:=congrArg (List.take (ch.length*2)) f7;rw[List.take_take,Nat.min_eq_left (by omega),lB,Bk (by omega)] at this;rw[this];exact eM (by omega)
theorem Hv{y kb sb k:Nat}{s:Spx}{H:Hp}{nx:Nat}(hs:s.length<=1000)(hk0:0<k)(hk:k<=1000)(I:List Spx->Hp->Nat->Prop)
    (hp:∀S H nx',I S H nx'->H kb=some [.int .i64 k]/\H sb=some [ar s]/\nx+3<=nx'/\kb<nx/\sb<nx)
    (stab:∀S H H' nx1 nx',I S H nx1->nx1<=nx'->(∀i,i<nx1->¬(nx<=i/\i<nx+3)->H' i=H i)->I S H' nx')
    (rnd:∀S f H nx1,I S H nx1->f.length=k->f≠[]->S.length<(dw s k).length->Yl Tryz.prog y [.msl nx1 (k*2) 2 0 k] (ao H nx1 (cX f)) (nx1+1) λr H' nx'=>r=.bool true/\I (S++[f]) H' nx'/\nx1<=nx'/\∀i,nx<=i->i<nx+3->H' i=H i)
    (gk:H kb=some [.int .i64 k]) (lk:kb<nx) (h0:∀H',(∀i,i<nx->H' i=H i)->I [] H' (nx+3)):
    Abs.Fn Tryz.prog 177 [.yld y,.ptr kb 1 0,.ptr sb 1 0] H nx λ_ H' nx'=>I (dw s k) H' nx':=by
 refine fO OO ?_;simp only[NS,aK];refine wnY @gk ?_;generalize hH:ao (ao (ao H nx [.yld y]) (nx+1) [.nilf]) (nx+1) (bB [.nilf] 0 [.func 178 [.ptr kb 1 0,.ptr nx 1 0,.ptr sb 1 0,.ptr (nx+1) 1 0]])=H1;have hfn:H1 (nx+1)=some [.func 178 [.ptr kb 1 0,.ptr nx 1 0,.ptr sb 1 0,.ptr (nx+1) 1 0]]:=by rw[<-hH,ae];rfl
 have hfk:H1 kb=some [.int .i64 k]:=by rw[<-hH,ab (by omega),ab (by omega),ab (by omega)];exact gk
 have hfy:H1 nx=some [.yld y]:=by rw[<-hH,ab (by omega),ab (by omega),ae]
 have hfo:∀i,i<nx->H1 i=H i:=λi hi=>by rw[<-hH,ab (by omega),ab (by omega),ab (by omega)]
 clear hH;refine pz kb (nx+1) hfk hfn (by omega) λS0 hS1 hS2 hsub=>?_;refine wnY (aI @hS1 @hS2) ?_;refine eb ?_;refine zR (k1:=.i64) (k2:=.i64) (n:=0) (m:=k) rfl ev0 ev0 (Int.le_refl _) (by omega) (by omega) (by omega) ?_;refine jv ⟨hsub _ (by rw[ab (by omega)];exact hfk) (by rw[ab (by omega)];exact hfn),?_⟩;refine iR ?_;have hz:(bv (AV.agg [AV.int .i64 0,AV.int .i64 0]) k).length=k*2:=by simp[bv,AV.cells]
 have hih:=My (y:=y) (N:=(dw s k).length) (lo:=nx) (kb:=kb) (sb:=sb) (k:=k) (s:=s) hs hk I hp stab rnd k [] 0 [] (ao H1 (nx+2) (bv (AV.agg [AV.int .i64 0,AV.int .i64 0]) k)) (nx+3) hk0 (by simp) (by simp) (bW _) (h0 _ (λi hi=>by rw[ab (by omega)];exact hfo i hi)) (by rw[ab (by omega)];exact hfy) (by rw[ab (by omega)];exact hfn) ⟨_,ae,hz,rfl⟩;refine aU ev0 (by((try simp only[ct,ZA,reduceEqDiff,↓reduceIte,reduceAdd,reduceLeDiff]);(try with_reducible rfl));rfl) hih ?_;rintro r H4 nx4 ⟨rfl,f1,-⟩;refine wnY and_self ?_;rw[List.drop_zero,List.nil_append,show(λx:Spx=>([]:Spx)++x)=id from rfl,List.map_id] at f1;exact f1
theorem Bu{kb sb k:Nat}{s:Spx}{H:Hp}{nx:Nat}(hs:s.length<=8)(hk0:0<k)(hk:k<=1000)(gk:H kb=some [.int .i64 k])(gs:H sb=some [ar s])(lk:kb<nx)(ls:sb<nx):
    Abs.Fn Tryz.prog 176 [.esl,.func 177 [.ptr kb 1 0,.ptr sb 1 0]] H nx λr H' nx'=>Row H' 1 r ((dw s k).map ar)/\nx<=nx'/\∀b',cf r=some b'->nx<=b'/\b'<nx':=by
 refine fO PB ?_;simp only[Pm,aK];refine wnY and_self ?_;refine oZ (nx+1) (nx+2) rfl rfl ev0 (λc0 cj hy=>?_);refine Abs.Fn.mono (Hv (nx:=nx+2) (kb:=kb) (sb:=sb) (k:=k) (s:=s) (by omega) hk0 hk (λS H' nx'=>nx+5<=nx'/\H' kb=some [.int .i64 k]/\H' sb=some [ar s]/\H' (nx+1)=some [c0]/\∃sv,H' nx=some [sv]/\Row H' 1 sv (S.map ar)/\∀b',cf sv=some b'->nx+5<=b'/\b'<nx') ?_ ?_ ?_ ?_ ?_ ?_) ?_
 ·rintro S H' nx' ⟨h1,h2,h3,h4,h5⟩;exact⟨h2,h3,by omega,by omega,by omega⟩
 ·rintro S H1 H2 a c ⟨h1,h2,h3,h4,sv,h5,h6,h7⟩ hac hs';refine⟨by omega,(hs' _ (by omega) (by omega)).trans h2,(hs' _ (by omega) (by omega)).trans h3,(hs' _ (by omega) (by omega)).trans h4,sv,(hs' _ (by omega) (by omega)).trans h5,h6.same (λb' hb'=>hs' _ (h7 b' hb').2 (by have:=h7 b' hb';omega)),λb' hb'=>⟨(h7 b' hb').1,by have:=h7 b' hb';omega⟩⟩
 ·rintro S f H' nx' ⟨h1,h2,h3,h4,sv,h5,h6,h7⟩ hfl hf0 hSN;have h4':ao H' nx' (cX f) (nx+1)=some [c0]:=by rw[ab (by omega)];exact h4
  refine hy _ _ _ _ h4' rfl ?_;clear hy;refine wnZ and_self ?_;refine⟨h4',?_⟩;have hS70:=Ce hSN (yv (k:=k) hs);have hd:c9 (ao H' nx' (cX f)) (nx+1) nx'=some (cX f):=by rw[cK (by omega),ae]
  have hdo:∀x,x<nx'->x≠nx+1->c9 (ao H' nx' (cX f)) (nx+1) x=H' x:=λx a b=>by rw[cK b,ab (by omega)]
  generalize c9 (ao H' nx' (cX f)) (nx+1)=H1 at *;refine mI ?_;refine o9 (only nx' (cX f)) (c9 H1 nx') [(2,.ptr nx 1 0),(5,ar f)] (Fz.one hd) ⟨.inl rfl,.inr (zN (s:=.msl nx' (k*2) 2 0 k) (by rw[<-hfl];exact Row.box nx' f.length (cX f) jl (gB f))),trivial⟩ ?_;have he:∀x,x<nx'->x≠nx+1->c9 H1 nx' x=H' x:=λx a b=>by rw[cK (by omega)];exact hdo x a b
  have g5:c9 H1 nx' nx=some [sv]:=(he nx (by omega) (by omega)).trans h5;clear hd hdo;generalize c9 H1 nx'=H2 at *;refine wnY (zI3 @g5 @bf @aR) ?_;refine eR (h6.same λb' hb'=>?_) ?_
  ·have:=h7 b' hb';rw[ab (by omega)];exact he _ (by omega) (by omega)
  rintro sv' H3 nx3 r1 r2 r3 r4 r5;have zs:∀x,x<nx+5->cf sv≠some x:=λx hx e=>by have:=h7 x e;omega
  have z:∀x,x<nx'->x≠nx+1->cf sv≠some x->H3 x=H' x:=λx a1 a2 a3=>(r4 x (by omega) a3).trans (by rw[ab (by omega)];exact he x a1 a2);have g6:H3 nx=some [sv]:=(z nx (by omega) (by omega) (zs _ (by omega))).trans h5;obtain⟨q1,q2⟩:=r1.one;refine wnY (zI3 @g6 @q1 @q2) ?_;have w:∀x,x≠nx->x≠nx+1->ao (ao H3 nx (bB [sv] 0 [sv'])) (nx+1) [c0] x=H3 x:=λx a1 a2=>by rw[ab a2,ab a1]
  have u7:∀b',cf sv'=some b'->nx+5<=b'/\b'<nx3:=λb' hb'=>by
   rcases r5 b' hb' with e|⟨e1,e2⟩
   ·have:=h7 b' e;omega
   ·omega
  refine⟨rfl,⟨by omega,?_,?_,ae,sv',?_,?_,u7⟩,by omega,λx x1 x2=>?_⟩
  ·rw[w _ (by omega) (by omega),z _ (by omega) (by omega) (zs _ (by omega)),h2]
  ·rw[w _ (by omega) (by omega),z _ (by omega) (by omega) (zs _ (by omega)),h3]
  ·rw[ab (by omega),ae];rfl
  ·rw[dr];exact r1.same (λb' hb'=>w b' (by have:=u7 b' hb';omega) (by have:=u7 b' hb';omega))
  ·rw[w _ (by omega) (by omega),z _ (by omega) (by omega) (zs _ (by omega))]
 ·rw[ab (by omega),ab (by omega)];exact gk
 ·omega
 ·intro H' hH';refine⟨by omega,?_,?_,?_,.esl,?_,.nil,λb' hb'=>(by cases hb')⟩
  ·rw[hH' _ (by omega),ab (by omega),ab (by omega),gk]
  ·rw[hH' _ (by omega),ab (by omega),ab (by omega),gs]
  ·rw[hH' _ (by omega),ae]
  ·rw[hH' _ (by omega),ab (by omega),ae]
 ·rintro r H' nx' ⟨h1,h2,h3,h4,sv,h5,h6,h7⟩;refine .inl ⟨h4,?_⟩;refine wnY @h5 ?_;exact⟨h6.same (λb' hb'=>cK (by have:=h7 b' hb';omega)),by omega,λb' hb'=>by have:=h7 b' hb';omega⟩
theorem HO(s:Spx)(k:Nat)(H:Hp)(nx:Nat):Abs.Fn Tryz.prog 160 [ar s,.int .i64 k] H nx λr H' nx'=>r=.func 177 [.ptr (nx+1) 1 0,.ptr nx 1 0]/\H'=ao (ao H nx [ar s]) (nx+1) [.int .i64 k]/\nx'=nx+2:=by
 refine fO OU ?_;simp only[PN,aK];refine wnY (aI @bf @aR) ?_;exact⟨rfl,rfl,rfl⟩
theorem F5{kb sb k:Nat}{s:Spx}{H:Hp}{nx:Nat}(hs:s.length<=8)(hk0:0<k)(hk:k<=1000)(gk:H kb=some [.int .i64 k])(gs:H sb=some [ar s])(lk:kb<nx)(ls:sb<nx):
    Abs.Fn Tryz.prog 159 [.func 177 [.ptr kb 1 0,.ptr sb 1 0]] H nx λr H' nx'=>Row H' 1 r ((dw s k).map ar)/\nx<=nx':=by
 refine fO Pr ?_;simp only[N8,aK];refine wnY and_self ?_;refine aU ev0 ev0 (Bu hs hk0 hk gk gs lk ls) ?_;rintro r H1 nx1 ⟨r1,r2,r3⟩;obtain⟨q1,q2⟩:=r1.one;refine wnY (aI @q1 @q2) ?_;exact⟨r1,r2⟩
theorem G4(s:Spx)(k:Int)(hs:Shn s):pU 137 [ar s,.int .i64 k] (.tup [ak (uo s k).1,.int .i64 (uo s k).2]):=by
 refine pO Oe ?_;simp only[Ng,aK];have hc:=qW s hs;unfold uo;by_cases he:ce s=0
 rotate_left
 ·rw[if_pos he];have z:decide (ce s≠0)=true:=bd he;refine wnY @z ?_;exact fg (.eslsl _) rfl
 rw[if_neg (λh=>h he)];rw[he] at hc;obtain⟨p1,p2,p3,p4⟩:=bQ he;have z0:decide ((0:Int)≠0)=false:=rfl;by_cases hk:k<1\/(s.length:Int)<k
 ·rw[if_pos hk];have zz:=aI @z0 @au;repeat' (first|refine zW ?_|apply a_n|apply a_r|refine zO ?_|refine vY ?_|refine cY ?_ (hp:=hc) (hs:=by(first|refine aB ?_ rfl|apply aL);(repeat' (first|exact aj|apply bk|apply aN|exact c8 _));first|done|fail)|refine gTY ?_|refine gFY ?_|refine cTY ?_|refine cFY ?_|(refine zGY ?_ ?_<;>(intro _hg;try (exfalso;omega)))|refine bC rfl ?_|refine r2Y ?_|fail)
  all_goals first|exact fg (.eslsl _) rfl|(exfalso;omega)
 rw[if_neg hk];obtain⟨n,rfl⟩:∃n:Nat,k=n:=⟨k.toNat,by omega⟩
 rw[cC];refine wnY (aI @z0 @au) ?_;refine aU ev0 ev0 (HO s n _ _) ?_;rintro _ H1 nx1 ⟨rfl,rfl,rfl⟩;refine aU ev0 ev0 (F5 (kb:=0+1) (sb:=0) (k:=n) (s:=s) p2 (by omega) (by omega) ae (by rw[ab (by omega),ae]) (by omega) (by omega)) ?_;rintro r H2 nx2 ⟨r1,r2⟩;obtain⟨q1,q2⟩:=r1.one;refine wnY (aI @q1 @q2) ?_;exact fg (iu r1) rfl
theorem J5(s:Spx)(h1:1<=s.length)(hs:s.length<=8):pU 138 [ar s] (I3 (jq 8 s)):=by
 refine pO N2 ?_;simp only[OB,aK];have hn:eT (ar s)=some s.length:=by unfold ar iO;simp[eT]
 have hput:=Dv (n:=8) (s:=s) hs;refine wnY and_self ?_;refine lpI (X:=Nat) (λk=>[(0,ar s),(2,.ptr 0 16 0),(3,.ptr 1 16 0),(5,.int .i64 k)]) (λk H nx=>k<=8/\H 0=some (kc 0)/\H 1=some (kc k)) (λk=>8-k) 0 ⟨bW _,by rw[ab (by omega),ae];rfl,ae⟩ ?_;rintro k H nx ⟨hk,g0,g1⟩;rcases(by omega:k=8\/k=0\/k=1\/k=2\/k=3\/k=4\/k=5\/k=6\/k=7) with rfl|rfl|rfl|rfl|rfl|rfl|rfl|rfl|rfl
 ·refine wnY (aI @g0 @g1) ?_;refine KY rfl g1 rfl rfl ?_;refine wnY and_self ?_;refine KR (n:=s.length) (H':=ao H 1 ((jq 8 s).map (AV.int .i64))) ?_ ?_
  ·((try simp only[ct,ZA,reduceEqDiff,↓reduceIte,reduceAdd,reduceLeDiff]);(try with_reducible rfl))
   have htr:xq s.length (ar s)=ar s:=by unfold ar iO;simp[xq];exact eM (by simp)
   have hmin:min s.length 8=s.length:=Nat.min_eq_left hs;have hal:eT (.msl 1 16 2 0 8)=some 8:=rfl;simp only[uI,hal,hn,hmin,if_neg (show ¬s.length=0 by omega),g1,htr,xw];rw[if_pos (by refine⟨?_,?_,?_,?_⟩<;>first|rfl|trivial|omega|exact mg s)]
   have:bB (kc 8) 0 (cX s)=(jq 8 s).map (AV.int .i64):=by
    rw[<-hput];simp only[bB,List.take_zero,List.nil_append,cE,gB];rfl
   rw[this]
  ·have hl:((jq 8 s).map (AV.int .i64)).length=16:=by rw[bt,qQ]
   have g1':ao H 1 ((jq 8 s).map (AV.int .i64)) 1=some ((jq 8 s).map (AV.int .i64)):=ae;have g0':ao H 1 ((jq 8 s).map (AV.int .i64)) 0=some (kc 0):=by rw[ab (by omega)];exact g0
   have hl0:(kc 0).length=16:=rfl;unfold I3;have ht:((jq 8 s).map (AV.int .i64)).take 16=(jq 8 s).map (AV.int .i64):=eM (by omega);have hd:=GF (jq 8 s);unfold I3 at hd
   have hfl:AV.ones ((jq 8 s).map (AV.int .i64))=true:=by
    unfold AV.ones;rw[eA];intro x hx;obtain⟨y,_,rfl⟩:=bu.1 hx;rfl
   have hlp:bB (kc 0) 0 ((jq 8 s).map (AV.int .i64))=(jq 8 s).map (AV.int .i64):=by
    simp only[bB,List.take_zero,List.nil_append,cE,hl];rw[List.drop_of_length_le (by decide),gJ]
   generalize (jq 8 s).map (AV.int .i64)=K at *;refine wnY (zI5 @g0' @g1' @hl @hl0 @ht) ?_;refine L1 (v:=.agg K) (cs:=kc 0) (vs:=K) (b:=0) (n:=16) (off:=0) rfl ev0 ev0 g0' rfl hfl hl0 hl (by omega) ?_;rw[hlp];refine wnY (aI @hl @ht) ?_;exact hd _
 ·refine wnY (aI @g0 @g1) ?_;refine po (r:=.ptr 1 16 0) rfl rfl rfl ?_;have hl:(kc 0).length=16:=rfl;refine wnY (aI @g1 @hl) ?_;exact⟨1,by omega,⟨by omega,by rw[ab (by omega)];exact g0,by rw[ae];rfl⟩,by(iterate 4 refine And.intro rfl ?_);trivial⟩
 ·refine wnY (aI @g0 @g1) ?_;refine po (r:=.ptr 1 16 2) rfl rfl rfl ?_;have hl:(kc 1).length=16:=rfl;refine wnY (aI @g1 @hl) ?_;exact⟨2,by omega,⟨by omega,by rw[ab (by omega)];exact g0,by rw[ae];rfl⟩,by(iterate 4 refine And.intro rfl ?_);trivial⟩
 ·refine wnY (aI @g0 @g1) ?_;refine po (r:=.ptr 1 16 4) rfl rfl rfl ?_;have hl:(kc 2).length=16:=rfl;refine wnY (aI @g1 @hl) ?_;exact⟨3,by omega,⟨by omega,by rw[ab (by omega)];exact g0,by rw[ae];rfl⟩,by(iterate 4 refine And.intro rfl ?_);trivial⟩
 ·refine wnY (aI @g0 @g1) ?_;refine po (r:=.ptr 1 16 6) rfl rfl rfl ?_;have hl:(kc 3).length=16:=rfl;refine wnY (aI @g1 @hl) ?_;exact⟨4,by omega,⟨by omega,by rw[ab (by omega)];exact g0,by rw[ae];rfl⟩,by(iterate 4 refine And.intro rfl ?_);trivial⟩
 ·refine wnY (aI @g0 @g1) ?_;refine po (r:=.ptr 1 16 8) rfl rfl rfl ?_;have hl:(kc 4).length=16:=rfl;refine wnY (aI @g1 @hl) ?_;exact⟨5,by omega,⟨by omega,by rw[ab (by omega)];exact g0,by rw[ae];rfl⟩,by(iterate 4 refine And.intro rfl ?_);trivial⟩
 ·refine wnY (aI @g0 @g1) ?_;refine po (r:=.ptr 1 16 10) rfl rfl rfl ?_;have hl:(kc 5).length=16:=rfl;refine wnY (aI @g1 @hl) ?_;exact⟨6,by omega,⟨by omega,by rw[ab (by omega)];exact g0,by rw[ae];rfl⟩,by(iterate 4 refine And.intro rfl ?_);trivial⟩
 ·refine wnY (aI @g0 @g1) ?_;refine po (r:=.ptr 1 16 12) rfl rfl rfl ?_;have hl:(kc 6).length=16:=rfl;refine wnY (aI @g1 @hl) ?_;exact⟨7,by omega,⟨by omega,by rw[ab (by omega)];exact g0,by rw[ae];rfl⟩,by(iterate 4 refine And.intro rfl ?_);trivial⟩
 ·refine wnY (aI @g0 @g1) ?_;refine po (r:=.ptr 1 16 14) rfl rfl rfl ?_;have hl:(kc 7).length=16:=rfl;refine wnY (aI @g1 @hl) ?_;exact⟨8,by omega,⟨by omega,by rw[ab (by omega)];exact g0,by rw[ae];rfl⟩,by(iterate 4 refine And.intro rfl ?_);trivial⟩
theorem AR(l:List Spx)(hl:Shn l)(hls:∀s∈l,Shn s)(h0:l≠[])(H:Hp)(B nx:Nat)(hH:H B=some (l.map ar))(hB:B<nx):
    Abs.Fn Tryz.prog 139 [.msl B l.length 1 0 l.length,.func 140 []] H nx λr H' nx'=>r=.msl B l.length 1 0 (cH l l.length)/\(∃C,H'=ao H B C/\C.length=l.length/\C.take (cH l l.length)=(fx l l.length).map ar)/\nx'=nx:=by
 refine fO KD ?_;simp only[L6,aK];have hl':l.length<=17592186044416:=hl;have hpos:=iM.2 h0;have hid:H=ao H B (l.map ar):=ka hH
 repeat' (first|refine zW ?_|apply a_n|apply a_r|refine zO ?_|refine vZ ?_|(refine zGZ ?_ ?_<;>(intro _hg;try (exfalso;omega)))|refine bC rfl ?_|refine r1Z ?_|fail)
 ·have e1:l.length=1:=by omega
  have e2:fx l l.length=l:=by
   match l,e1 with
   |[a],_=>rfl
  refine⟨?_,⟨_,hid,by simp,?_⟩,rfl⟩
  ·rw[show cH l l.length=l.length by rw[e1];rfl]
  ·rw[e2,show cH l l.length=l.length by rw[e1];rfl,eM (by simp)]
 refine ca (X:=Nat) (λk=>[(0,.msl B l.length 1 0 l.length),(1,.func 140 []),(5,.int .i64 k)]) (λk H' nx'=>H'=H/\nx'=nx/\1<=k/\k<=l.length/\cH l k=k/\fx l k=l.take k) (λk=>l.length-k) 1 ⟨rfl,rfl,aJ _,hpos,rfl,by match l,h0 with|a::r,_=>rfl⟩ ag0 ?_;rintro k H' nx' ⟨rfl,rfl,k1,k2,k3,k4⟩;by_cases hk:k<l.length
 ·have tk:(k:Int)-1=(k-1:Nat):=by omega
  have heq:=Bb (l.getD k default) (l.getD (k-1) default) (hls _ (az hk)) (hls _ (az (by omega)));by_cases he:l.getD k default=l.getD (k-1) default
  ·have hs:=ua (B:=B) (n:=l.length) hk (Nat.ne_of_gt hpos);rw[bd he] at heq;refine wkZ (zI6 @tk @hH @cC @hs @bf @aR) ?_
   refine ca (X:=Nat×List Spx) (λx=>[(0,.msl B l.length 1 0 l.length),(1,.func 140 []),(5,.int .i64 (cH l (k+x.1):Nat)),(6,.msl B l.length 1 k (l.length-k)),(7,.int .i64 x.1)]) (λx H2 nx2=>x.2.length=l.length/\1<=x.1/\k+x.1<=l.length/\cH l (k+x.1)+1<=k+x.1/\H2=ao H' B (x.2.map ar)/\nx2=nx'/\(∀p,k+x.1<=p+1->x.2.getD p default=l.getD p default)/\x.2.take (cH l (k+x.1))=fx l (k+x.1)) (λx=>l.length-x.1) (1,l)
    ⟨rfl,aJ _,hk,by dsimp only;rw[fW (by omega) he];omega,hid,rfl,λ_ _=>rfl,by dsimp only;rw[fW (by omega) he,mF (by omega) he,k3,k4]⟩ (by simp (disch:=omega) only[agr,ZG,reduceEqDiff,↓reduceIte,fW (show k≠0 by omega) he,k3]) ?_
   rintro⟨j,L⟩ H2 nx2 ⟨a1,a2,a3,a4,rfl,rfl,a5,a6⟩;dsimp only at a1 a2 a3 a4 a5 a6 |-;by_cases hj:k+j<l.length
   ·have tj:(j:Int)-1=(j-1:Nat):=by omega
    have r1:=a5 (k+j) (by omega);have r2:=a5 (k+(j-1)) (by omega);have heq2:=Bb (l.getD (k+j) default) (l.getD (k+(j-1)) default) (hls _ (az hj)) (hls _ (az (by omega)));by_cases hd:l.getD (k+j) default=l.getD (k+(j-1)) default
    ·have hq:cH l (k+(j+1))=cH l (k+j):=fW (l:=l) (k:=k+j) (by omega) (by rw[hd,show k+j-1=k+(j-1) by omega]);rw[bd hd] at heq2;refine wkZ (zI6 @tj @cC @r1 @r2 @bf @aR) ?_;refine⟨(j+1,L),by dsimp only;omega,⟨a1,by dsimp only;omega,by dsimp only;omega,?_,rfl,rfl,λp hp=>a5 p (by dsimp only at hp;omega),by dsimp only;rw[hq,show k+(j+1)=k+j+1 from rfl,mF (by omega) (by rw[hd,show k+j-1=k+(j-1) by omega])];exact a6⟩,(have zz:=@hq;agZ)⟩;dsimp only;rw[hq];omega
    ·have hq:cH l (k+(j+1))=cH l (k+j)+1:=mz (l:=l) (k:=k+j) (by rw[show k+j-1=k+(j-1) by omega];exact hd);have hlm:=iT (f:=ar) (l:=L) (k:=cH l (k+j)) (x:=l.getD (k+j) default) (by omega);rw[bh hd] at heq2;refine wkZ (zI6 @tj @cC @r1 @r2 @bf @aR) ?_;refine⟨(j+1,L.set (cH l (k+j)) (l.getD (k+j) default)),by dsimp only;omega,⟨by simp[a1],by dsimp only;omega,by dsimp only;omega,?_,?_,rfl,λp hp=>?_,by dsimp only;rw[hq,Fs (by omega),a6,show k+(j+1)=k+j+1 from rfl,mX (by rw[show k+j-1=k+(j-1) by omega];exact hd)]⟩,(have zz:=@hq;agZ)⟩
     ·dsimp only;rw[hq];omega
     ·dsimp only;rw[a7,hlm]
     ·dsimp only at hp |-;rw[wO,List.getElem?_set_ne (by omega),<-wO];exact a5 p (by omega)
   ·have hn:k+j=l.length:=by omega
    have hl1:=ua (B:=B) (n:=l.length) (show cH l (k+j)<l.length by omega) (Nat.ne_of_gt hpos);have hl2:=CZ (B:=B) (n:=l.length) (show cH l (k+j)<=l.length by omega) (Nat.ne_of_gt hpos);refine wnZ (aI @hl1 @hl2) ?_;refine KP (H':=ao (ao H' B (L.map ar)) B (bB (L.map ar) (cH l (k+j)) (bv .esl (l.length-cH l (k+j))))) ?_ ?_
    ·((try simp only[ct,ZA,reduceEqDiff,↓reduceIte,reduceAdd,reduceLeDiff]);(try with_reducible rfl))
     simp only[sk];rw[if_neg (by omega),ae];dsimp only;rw[if_pos ⟨by simp[a1],trivial,rfl,rfl,by omega⟩];rfl
    ·refine wnZ @hl2 ?_;refine⟨by rw[hn],⟨_,a7 _ _ _ _,?_,?_⟩,rfl⟩
     ·have hz:(bv AV.esl (l.length-cH l (k+j))).length=l.length-cH l (k+j):=by simp[bv,show AV.esl.cells.length=1 from rfl]
      simp[bB,hz];omega
     ·rw[<-hn,<-a6,List.map_take];simp only[bB];rw[np,Bk (by simp;omega),eM (by simp;omega)]
  ·rw[bh he] at heq;refine wkZ (zI5 @tk @hH @cC @bf @aR) ?_;exact⟨k+1,by omega,⟨rfl,rfl,by omega,by omega,by rw[mz he,k3],by rw[mX he,k4,bD hk]⟩,ag0⟩
 ·refine wnZ and_self ?_;have e:l.length=k:=by omega
  refine⟨by rw[e,k3],⟨_,hid,by simp,?_⟩,rfl⟩;rw[e,k3,k4,<-List.map_take]
theorem xQ(l:Spx)(hl:l.length<=1000000):PureF Tryz.prog 136 [ar l] (ar l):=by
 refine qO KU ?_;simp only[Ma,aK];refine wnY and_self ?_;have hn:eT (ar l)=some l.length:=by unfold ar iO;simp[eT]
 refine rp (k:=l.length) (by((try simp only[ct,ZA,reduceEqDiff,↓reduceIte,reduceAdd,reduceLeDiff]);(try with_reducible rfl));exact hn) (λh=>?_) (λh=>?_) (λh=>?_)
 ·refine wnY and_self ?_;refine jG rfl ev0 ev0 xw (mg _) (by omega) (by omega) ?_;refine wnY and_self ?_;exact tH (Row.box _ l.length (cX l) ae (gB l))
 ·refine wnY and_self ?_;obtain rfl:=fj.1 h;exact .eslsl 2
 ·refine wnY and_self ?_;refine jG rfl ev0 ev0 xw (mg _) (by omega) (by omega) ?_;refine wnY and_self ?_;exact tH (Row.box _ l.length (cX l) ae (gB l))
theorem Fb(s:AV)(l:List Spx)(hl:l.length<=1000000)(H:Hp)(nx:Nat)(hn:eT s=some l.length)(hs:∀H',(∀x,x<nx->H' x=H x)->gC 1 H' s=some (l.length,l.map ar)):Abs.Fn Tryz.prog 91 [s] H nx λr H' nx'=>nx'<=nx+1/\nx<=nx'/\(∀x,x<nx->H' x=H x)/\if l=[] then dH r=some (.int .i64 0)/\∀H'',Snap H'' r (ak []) else r=.msl nx l.length 1 0 l.length/\H'=ao H nx (l.map ar)/\nx'=nx+1:=by
 refine fO Pf ?_;simp only[b91,aK]
 have hones:AV.ones (l.map ar)=true:=by
  unfold AV.ones;rw[eA];intro x hx;obtain⟨y,_,rfl⟩:=bu.1 hx;rfl
 refine wnY and_self ?_;refine rp (k:=l.length) (by((try simp only[ct,ZA,reduceEqDiff,↓reduceIte,reduceAdd,reduceLeDiff]);(try with_reducible rfl));exact hn) (λh=>?_) (λh=>?_) (λh=>?_)
 ·refine wnY and_self ?_;refine jG rfl ev0 ev0 (hs _ λx _=>rfl) hones (by omega) (by omega) ?_;refine wnY and_self ?_;refine⟨aJ _,by omega,λx hx=>ab (by omega),?_⟩;rw[if_neg (by rintro rfl;exact absurd h (by simp))];exact⟨rfl,rfl,rfl⟩
 ·refine wnY and_self ?_;refine⟨by omega,aJ _,λx hx=>rfl,?_⟩;rw[if_pos (fj.1 h)];exact⟨rfl,λ_=>.eslsl 1⟩
 ·refine wnY and_self ?_;refine jG rfl ev0 ev0 (hs _ λx _=>rfl) hones (by omega) (by omega) ?_;refine wnY and_self ?_;refine⟨aJ _,by omega,λx hx=>ab (by omega),?_⟩;obtain rfl:=fj.1 h;rw[if_pos rfl];exact⟨rfl,λ_=>.mslnil _ _ _ _ _⟩
section
variable{g:Nat}{caps:List AV}{s:AV}
theorem Mq(hs:dH s=some (.int .i64 0)){H:Hp}{nx:Nat}:Abs.Fn Tryz.prog 166 [s,.int .i64 0,.int .i64 0,.func g caps] H nx λr H' nx'=>nx'=nx/\H'=H:=by
 refine fO KF ?_;simp only[Lb,aK];refine wnZ and_self ?_;refine ca (X:=Unit) (λx=>[(0,s),(1,.int .i64 0),(2,.int .i64 0),(3,.func g caps),(8,.int .i64 1)]) (λx H' nx'=>H'=H/\nx'=nx) (λx=>0) () ⟨rfl,rfl⟩ (by simp (disch:=omega) only[agr,ZG,reduceEqDiff,↓reduceIte,Int.zero_add,true_and]) ?_;rintro _ _ _ ⟨rfl,rfl⟩;refine wnZ and_self ?_;exact⟨rfl,rfl⟩
theorem LY(hs:dH s=some (.int .i64 0)){H:Hp}{nx:Nat}:Abs.Fn Tryz.prog 155 [s,.int .i64 0,.int .i64 0,.int .i64 0,.func g caps] H nx λr H' nx'=>nx'=nx/\H'=H:=by
 refine fO K3 ?_;simp only[LS,aK];refine wnZ and_self ?_;refine ca (X:=Unit) (λx=>[(0,s),(1,.int .i64 0),(2,.int .i64 0),(3,.int .i64 0),(4,.func g caps)]) (λx H' nx'=>H'=H/\nx'=nx) (λx=>0) () ⟨rfl,rfl⟩ ag0 ?_;rintro _ _ _ ⟨rfl,rfl⟩;refine wnZ and_self ?_;refine aU ev0 ev0 (Mq hs) ?_;rintro _ _ _ ⟨rfl,rfl⟩;refine wnZ and_self ?_;exact⟨rfl,rfl⟩
theorem n6(hs:dH s=some (.int .i64 0)){H:Hp}{nx:Nat}:Abs.Fn Tryz.prog 130 [s,.func g caps] H nx λr H' nx'=>nx'=nx/\H'=H:=by
 refine fO KV ?_;simp only[LI,aK];have w8:IntKind.wrap .u64 0=0:=by decide
 refine wnZ (aI @w8 @hs) ?_;refine aU ev0 (have zz:=@w8;evZ) ML ?_;rintro _ _ _ ⟨rfl,rfl,rfl⟩;refine wnZ and_self ?_;refine aU ev0 ev0 (LY hs) ?_;rintro _ _ _ ⟨rfl,rfl⟩;refine wnZ and_self ?_;exact⟨rfl,rfl⟩
theorem CQ(hs:dH s=some (.int .i64 0)){H:Hp}{nx:Nat}:Abs.Fn Tryz.prog 139 [s,.func g caps] H nx λr H' nx'=>r=s/\nx'=nx/\H'=H:=by
 refine fO KD ?_;simp only[L6,aK];refine wnZ @hs ?_;exact⟨rfl,rfl,rfl⟩
end
theorem K9:Cmp Tryz.prog ar bK (λs=>Shn s) 70 [] where
 cells _:=rfl
 one _:=rfl
 dat x:=c8 x
 dcaps x hx:=by cases hx
 run x y hx hy:=im x y hx hy
 ord:=jc.ord
theorem sA(l:List Spx)(hl:l.length<=100000)(hs:∀s∈l,bM cl s/\s.length<=1000/\s≠[]):pU 90 [ak l] (b7 (ma l)):=by
 refine pO QH ?_;simp only[b90,aK];have hn:eT (ak l)=some l.length:=by unfold ak iO;simp[eT]
 refine wnY @ah ?_;refine aU ev0 ev0 (Fb _ l (by omega) _ _ hn (λH' _=>yo)) ?_;rintro r H1 nx1 ⟨c1,c2,c3,c4⟩;have hD:∀s∈iJ bK l,bM cl s/\s.length<=1000/\s≠[]:=λs h=>hs s (f9.1 h);have hDl:(iJ bK l).length<=100000:=fp qA hl;have g0:H1 0=some [.esl]:=(c3 0 (by omega)).trans ae
 have hsort:Abs.Fn Tryz.prog 130 [r,.func 70 []] H1 nx1 λ_ H' nx'=>nx1<=nx'/\H' 0=some [.esl]/\((l=[]/\dH r=some (.int .i64 0)/\∀H'',Snap H'' r (ak []))\/(l≠[]/\r=.msl 1 l.length 1 0 l.length/\2<=nx'/\∃L':List Spx,H' 1=some (L'.map ar)/\L'.Perm l/\br bK 0 l.length L')):=by
  by_cases h0:l=[]
  ·rw[if_pos h0] at c4;refine Abs.Fn.mono (n6 c4.1) ?_;rintro _ _ _ ⟨rfl,rfl⟩;exact⟨aJ _,g0,.inl ⟨h0,c4⟩⟩
  ·rw[if_neg h0] at c4;obtain⟨rfl,rfl,rfl⟩:=c4;have hpos:=iM.2 h0;refine Abs.Fn.mono (yM K9 (L:=l) (b:=0+1) (n:=l.length) ae (by omega) rfl hpos (λs h=>show s.length<=_ by have:=(hs s h).2.1;omega) (by omega)) ?_;rintro _ H' nx' ⟨L',ps,p1,p2⟩;exact⟨ps.le,by rw[ps.fr 0 (by omega) (by omega)];exact g0,.inr ⟨h0,rfl,ps.le,L',ps.at_,p1,p2⟩⟩
 have hnx1:1<=nx1:=c2;clear c4;refine wnY and_self ?_;refine aU ev0 ev0 hsort ?_;rintro _ H2 nx2 ⟨d1,g2,d3⟩
 have hcmp:Abs.Fn Tryz.prog 139 [r,.func 140 []] H2 nx2 λr' H' nx'=>nx2<=nx'/\∃Hf H3,Fz Hf H' H3/\Snap Hf r' (ak (iJ bK l))/\H3 0=some [.esl]:=by
  rcases d3 with⟨h0,e1,e2⟩|⟨h0,rfl,e0,L',e1,e2,e3⟩
  ·refine Abs.Fn.mono (CQ e1) ?_;rintro _ _ _ ⟨rfl,rfl,rfl⟩;refine⟨aJ _,b9,_,Fz.none,?_,g2⟩;rw[h0];exact e2 _
  ·have hlen:=e2.length_eq;have hL0:L'≠[]:=λe=>by rw[e] at hlen;simp at hlen;exact h0 (fj.1 hlen.symm)
   rw[<-hlen];refine Abs.Fn.mono (AR L' (show _<=_ by omega) (λs h=>show s.length<=_ by have:=(hs s (e2.mem_iff.1 h)).2.1;omega) hL0 H2 1 nx2 e1 (by omega)) ?_;rintro _ _ _ ⟨rfl,⟨C,rfl,f1,f2⟩,rfl⟩;have hd:fx L' L'.length=iJ bK l:=x8 jc e2 (by rw[hlen];exact e3);rw[hd] at f2;have hle:=Bf L' L'.length;have hdl:=xL L' L'.length;rw[hd] at hdl;refine⟨aJ _,only 1 C,c9 (ao H2 1 C) 1,Fz.one ae,?_,by rw[cK (by omega),ab (by omega)];exact g2⟩;refine jr (l:=(iJ bK l).map ar) jl f1 (by omega) (by rw[bt];exact hdl) (λy hy=>?_) (λi a c ha hc=>?_)
   ·obtain⟨z,_,rfl⟩:=bu.1 hy;rfl
   ·rw[<-f2,iQ] at hc;split at hc
    ·rw[cE,hc] at ha;cases ha
     have hm:a∈(iJ bK l).map ar:=by
      rw[<-f2];exact ib (i:=i) (by rw[iQ,if_pos (by assumption)];exact hc)
     obtain⟨z,_,rfl⟩:=bu.1 hm;exact c8 _ _
    ·cases hc
 clear d3 hsort;refine wnY and_self ?_;refine aU ev0 ev0 hcmp ?_;rintro r2 H3 nx3 ⟨f1,Hf,H4,hfz,hsn,g4⟩;have hmx:ma l=(iJ bK l).filter λs=>!b5 (iJ bK l) s:=rfl;rw[hmx];have hasc:=jn jc l;generalize iJ bK l=D at *
 repeat' (first|apply a_n|refine zO ?_|refine vY ?_|fail)
 refine dT ?_;refine o9 Hf H4 [(0,ak D),(2,.ptr 0 1 0)] hfz ⟨.inr hsn,.inl rfl,trivial⟩ ?_;clear hfz hsn;refine wnY and_self ?_;refine aU ev0 ev0 (oe D hDl (λs h=>⟨(hD s h).1,by have:=(hD s h).2.1;omega⟩) _ _) ?_;rintro _ H5 nx5 ⟨ks,vs,rfl,hinc,hsame,hlt⟩;have g5:H5 0=some [.esl]:=(hsame 0 (by omega)).trans g4;have hOk:OkS D:=⟨hDl,λs h=>⟨(hD s h).1,(hD s h).2.1⟩⟩
 refine wnY @ah ?_;refine lpI (X:=Nat×AV) (λx=>[(0,ak D),(2,.ptr 0 1 0),(3,.mp nx3),(4,.ptr nx5 1 0),(15,ak D),(16,.int .i64 D.length),(17,.int .i64 x.1)]) (λx H' nx'=>x.1<=D.length/\nx5<nx'/\(∀y,y<nx5->H' y=H5 y)/\H' nx5=some [x.2]/\Row H' 1 x.2 (((D.take x.1).filter λs=>!b5 D s).map ar)/\∀B,cf x.2=some B->nx5<B/\B<nx') (λx=>D.length-x.1) (0,.esl) ⟨bW _,by omega,λy hy=>ab (by omega),ae,Row.nil,λB h=>(by cases h)⟩ ?_;rintro⟨k,sv⟩ H' nx' ⟨h1,hnx',hsm,gb,hrow,hbd⟩;dsimp only at h1 gb hrow hbd |-;by_cases hk:k<D.length
 rotate_left
 ·rw[eM (by omega)] at hrow;obtain⟨o1,o2⟩:=hrow.one;have g6:H' 0=some [.esl]:=(hsm 0 (by omega)).trans g5;refine wnY (zI4 @gb @g6 @o1 @o2) ?_;exact mb (ag (iu (hrow.same λB hB=>ab (by have:=hbd B hB;omega))) aj)
 have ix:=eO hk;have hDk:=hD _ (az hk);have hpos:0<(D.getD k default).length:=iM.2 hDk.2.2;have hcv:=xF D (D.getD k default) hOk (hOk.2 _ (az hk)) hpos;have iy:=ix2 (l:=D.getD k default) (k:=0) hpos;rw[show((0:Nat):Int)=0 from rfl] at iy;have hks:(D.getD k default).getD 0 default∈ks:=(hinc.dom _).2 (EW hk (az hpos));have hmf:=nt ((D.getD k default).getD 0 default) ks;rw[if_pos hks] at hmf;obtain⟨m1,m2⟩:=o7 hks;have hr:=hinc.row _ m1;rw[m2] at hr;have hr':=hr.same (H':=H') (λB hB=>hsm B (hinc.bnd _ B m1 hB).2.1);have hbox:=(hsm nx3 hinc.lt).trans hinc.box;have hft:=yP (p:=λs=>!b5 D s) hk
 have hfl:(((D.take k).filter λs=>!b5 D s).map ar).length<=100000:=by
  rw[bt];have:=List.length_filter_le (λs=>!b5 D s) (D.take k);rw[fY] at this;omega
 generalize hsk:D.getD k default=s at *;refine wnY (aI @ix @iy) ?_;refine fh ev0 hbox ev0 (lJ _) hmf ?_;rw[show mget .esl false (some (ks.idxOf (s.getD 0 default))) vs=vs.getD (ks.idxOf (s.getD 0 default)) .undef from rfl];refine wnY and_self ?_;cases hb:b5 D s
 ·rw[hb] at hcv hft;rw[if_pos (by decide)] at hft;refine ey ev0 ev0 hcv (aB (ag (bJ _ _) (ag (xE hr') (ag (c8 _ _) aj))) rfl) ?_;refine wnY and_self ?_;refine w_mix1 nx5 gb λS0 hS hsub=>?_;refine wnY @hS ?_;refine eb ?_;refine gy ev0 ev0 (xQ s (by omega)) (ag (c8 _ _) aj) ?_;refine jv ⟨hsub _ gb,?_⟩;refine eb ?_;refine wnY (aI @bf @aR) ?_;refine⟨hsub _ (by rw[ab (by omega)];exact gb),?_⟩;refine iR ?_;refine eR (hrow.same λB hB=>?_) ?_
  ·have:=hbd B hB;rw[ab (by omega)]
  rintro s2 H2 nx2 hr2 i1 i2 i3 i4;have gb2:H2 nx5=some [sv]:=(i3 nx5 (by omega) (λh=>by have:=hbd _ h;omega)).trans (by rw[ab (by omega)];exact gb);obtain⟨o1,o2⟩:=hr2.one;have zz:=aI @gb2 (aI @o1 @o2);repeat' (first|apply a_n|refine zO ?_|refine vY ?_|refine nvY ?_|apply iR|refine stY ?_|fail)
  refine⟨(k+1,s2),by dsimp only;omega,⟨by dsimp only;omega,by omega,λy hy=>?_,by rw[ae];rfl,?_,λB hB=>?_⟩,ag0⟩
  ·rw[ab (by omega),i3 y (by omega) (λh=>by have:=hbd _ h;omega),ab (by omega)];exact hsm y hy
  ·dsimp only;rw[hft,dr];refine hr2.same λB hB=>ab ?_;rcases i4 B hB with h|h
   ·have:=hbd B h;omega
   ·omega
  ·rcases i4 B hB with h|h
   ·have:=hbd B h;omega
   ·omega
 ·rw[hb] at hcv hft;rw[if_neg (by decide),gJ] at hft;refine ey ev0 ev0 hcv (aB (ag (bJ _ _) (ag (xE hr') (ag (c8 _ _) aj))) rfl) ?_;refine wnY and_self ?_;exact⟨(k+1,sv),by dsimp only;omega,⟨by dsimp only;omega,hnx',hsm,gb,by dsimp only;rw[hft];exact hrow,hbd⟩,ag0⟩
theorem B2(l:List Spx)(k:Nat)(hl:l.length<=50)(hs:∀s∈l,ce s=0)(hk:1<=k/\k<=8):pU 87 [ak l,.int .i64 k] (.tup [ak (iY l k),.int .i64 0]):=by
 refine pO Qt ?_;simp only[b87,aK];have h8:∀s∈l,s.length<=8:=λs h=>(bQ (hs s h)).2.1
 have hgood:∀s∈l.flatMap (λs=>dw s k),nT s:=λs h=>by
  obtain⟨t,t1,t2⟩:=qt.1 h;exact H8 (JK (hs t t1)) hk.1 t2
 have hfl:=qe (k:=k) h8;have z0:decide ((0:Int)≠0)=false:=rfl;refine wnY @ah ?_;refine sy ?_;refine wnY @ah ?_;refine lpI (X:=Nat×AV×List Spx) (λx=>[(1,.int .i64 k),(6,.mp 0),(7,x.2.1),(15,ak l),(16,.int .i64 l.length),(17,.int .i64 x.1)]) (λx H nx=>x.1<=l.length/\1<=nx/\H 0=some [.omap ((x.2.2.map kK).map eK) (x.2.2.map λ_=>.bool true)]/\Row H 1 x.2.1 (x.2.2.map ar)/\(∀b,cf x.2.1=some b->1<=b/\b<nx)/\x.2.2.Nodup/\∀s,s∈x.2.2↔s∈(l.take x.1).flatMap λs=>dw s k) (λx=>l.length-x.1) (0,.esl,[]) ⟨bW _,by omega,ae,Row.nil,λb h=>(by cases h),List.nodup_nil,λs=>by simp⟩ ?_;rintro⟨i,sv,O⟩ H nx ⟨h1,hnx,g0,hrow,hbd,hnd,hmem⟩;dsimp only at h1 g0 hrow hbd hnd hmem |-;obtain⟨o1,o2⟩:=hrow.one;by_cases hi:i<l.length
 rotate_left
 ·rw[eM (by omega)] at hmem
  have hOl:O.length<=3500:=by
   have:=tw hnd (l₂:=l.flatMap λs=>dw s k) (λs h=>(hmem s).1 h);omega
  have hsort:Abs.Fn Tryz.prog 130 [sv,.func 70 []] H nx λ_ H' nx'=>Row H' 1 sv ((iY l k).map ar):=by
   generalize hcs:O.map ar=cs at hrow;cases hrow with
   |nil=>
    have hO0:O=[]:=List.map_eq_nil_iff.1 hcs;refine Abs.Fn.mono (n6 rfl) ?_;rintro _ _ _ ⟨rfl,rfl⟩
    have:iY l k=[]:=by
     unfold iY;rw[AM,qE];intro s h;have:=(hmem s).2 h;rw[hO0] at this;cases this
    rw[this];exact Row.nil
   |box b len cs k1 k2=>
    obtain rfl:len=O.length:=by rw[<-hcs,bt] at k2;omega
    have hb:=hbd b rfl;subst hcs;by_cases h0:O.length=0
    ·have hO0:O=[]:=fj.1 h0;subst hO0;refine Abs.Fn.mono (n6 rfl) ?_;rintro _ _ _ ⟨rfl,rfl⟩
     have:iY l k=[]:=by
      unfold iY;rw[AM,qE];intro s h;have:=(hmem s).2 h;cases this
     rw[this];exact Row.box b 0 _ k1 rfl
    ·have hg:∀s∈O,Shn s:=λs h=>show s.length<=_ by have:=(hgood s ((hmem s).1 h)).2.1;omega
     have hsf:=yM K9 (L:=O) (b:=b) (nx:=nx) (n:=O.length) k1 hb.2 rfl (by omega) hg (by omega);rw[Nat.mul_one];refine Abs.Fn.mono hsf ?_;rintro _ H' nx' ⟨L',ps,p1,p2⟩;have hlen:=p1.length_eq;have:=sQ p1 (by rw[hlen];exact p2) hnd hmem;unfold iY;rw[<-this,<-hlen];have:=Row.box (H:=H') (sz:=1) b L'.length (L'.map ar) ps.at_ (by simp)
     rwa [Nat.mul_one] at this
  refine wnY and_self ?_;refine aU ev0 ev0 hsort ?_;rintro r H' nx' hr;refine wnY (aI @o1 @o2) ?_;exact fg (iu hr) rfl
 have ix:=eO hi;have hft:=Fq (k:=k) hi
 have hpm:∀s∈(l.take (i+1)).flatMap (λs=>dw s k),s∈l.flatMap λs=>dw s k:=λs h=>by
  obtain⟨t,t1,t2⟩:=qt.1 h;exact qt.2 ⟨t,lr t1,t2⟩
 have hsi:=hs _ (az hi);have h8i:=h8 _ (az hi);have hfx:=G4 (l.getD i default) k (show _<=_ by omega)
 have hfe:(l.getD i default).length<k\/uo (l.getD i default) k=(dw (l.getD i default) k,0):=by
  by_cases h:(l.getD i default).length<k
  ·exact .inl h
  ·refine .inr ?_;unfold uo;rw[if_neg (λh=>h hsi),if_neg (by omega),cC]
 have hcar:∀s∈dw (l.getD i default) k,nT s:=λs h=>hgood s (hpm s (by rw[hft];exact mh _ h));by_cases hlt:(l.getD i default).length<k
 ·have z:decide (((l.getD i default).length:Int)<k)=true:=bd (by omega);rw[vE hlt,gJ] at hft;generalize l.getD i default=s at *;refine wnY (zI5 @au @ix @z @o1 @o2) ?_;exact⟨(i+1,sv,O),by dsimp only;omega,⟨by dsimp only;omega,hnx,g0,hrow,hbd,hnd,by dsimp only;rw[hft];exact hmem⟩,ag0⟩
 have z:decide (((l.getD i default).length:Int)<k)=false:=bh (by omega);rw[hfe.resolve_left hlt] at hfx;clear hfe;have hgP:∀s∈(l.take i).flatMap (λs=>dw s k),nT s:=λs h=>hgood s (hpm s (by rw[hft];exact nj _ h))
 have hPl:((l.take i).flatMap (λs=>dw s k)++dw (l.getD i default) k).length<=3500:=by
  rw[<-hft];have:=qe (k:=k) (c:=l.take (i+1)) (λs h=>h8 s (lr h));rw[fY] at this;omega
 generalize l.getD i default=s at *;generalize dw s k=R at *;generalize (l.take i).flatMap (λs=>dw s k)=P at *;have hRl:R.length<=3500:=by rw[cA] at hPl;omega
 refine wnY (zI7 @au @ah @ix @z @z0 @o1 @o2) ?_;refine ca (X:=Nat×AV×List Spx) (λx=>[(1,.int .i64 k),(6,.mp 0),(7,x.2.1),(15,ak l),(16,.int .i64 l.length),(17,.int .i64 i),(34,ak R),(35,.int .i64 R.length),(36,.int .i64 x.1)]) (λx H nx=>x.1<=R.length/\1<=nx/\H 0=some [.omap ((x.2.2.map kK).map eK) (x.2.2.map λ_=>.bool true)]/\Row H 1 x.2.1 (x.2.2.map ar)/\(∀b,cf x.2.1=some b->1<=b/\b<nx)/\x.2.2.Nodup/\∀s,s∈x.2.2↔s∈P++R.take x.1) (λx=>R.length-x.1) (0,sv,O) ⟨bW _,hnx,g0,hrow,hbd,hnd,by dsimp only;rw[List.take_zero,gJ];exact hmem⟩ ag0 ?_;clear g0 hrow hbd hnd hmem hnx o1 o2;rintro⟨j,sv,O⟩ H nx ⟨j1,hnx,g0,hrow,hbd,hnd,hmem⟩;dsimp only at j1 g0 hrow hbd hnd hmem |-;obtain⟨o1,o2⟩:=hrow.one
 have hOl:O.length<=3500:=by
  have:=tw hnd (l₂:=P++R.take j) (λs h=>(hmem s).1 h);rw[cA,fY] at this;rw[cA] at hPl;omega
 by_cases hj:j<R.length
 rotate_left
 ·rw[eM (by omega)] at hmem;have hls:dH sv=some (.int .i64 O.length):=hrow.lenS (by rw[bt,Nat.mul_one]) ng;have z1:decide ((4096:Int)<O.length)=false:=bh (by omega);refine wnY (zI4 @hls @z1 @o1 @o2) ?_;exact⟨(i+1,sv,O),by dsimp only;omega,⟨by dsimp only;omega,hnx,g0,hrow,hbd,hnd,by dsimp only;rw[hft];exact hmem⟩,ag0⟩
 have iy:=eO hj;have hgf:=hcar _ (az hj)
 have hgO:∀s∈O,nT s:=λs h=>by
  rcases dZ.1 ((hmem s).1 h) with h|h
  ·exact hgP s h
  ·exact hcar s (lr h)
 have hkey:=J5 (R.getD j default) hgf.1 hgf.2.1;have hts:R.take (j+1)=R.take j++[R.getD j default]:=bD hj;have hmf:=Jd (kK (R.getD j default)) (O.map kK);have hmk:=LC hgO hgf;generalize R.getD j default=f at *;by_cases hf:f∈O
 ·rw[if_pos (hmk.2 hf)] at hmf;have hlt2:(O.map kK).idxOf (kK f)<(O.map kK).length:=qU.2 (hmk.2 hf)
  have hgv:mget (.bool false) false (some ((O.map kK).idxOf (kK f))) (O.map λ_=>AV.bool true)=.bool true:=by
   rw[bt] at hlt2;simp[mget,List.getD,hlt2]
  refine wnY (zI3 @iy @o1 @o2) ?_;refine fh ev0 g0 (by((try simp only[ct,ZA,reduceEqDiff,↓reduceIte,reduceAdd,reduceLeDiff]);(try with_reducible rfl));rfl) (Ec (kK f)) hmf ?_;rw[hgv];refine wnY (aI @o1 @o2) ?_;refine⟨(j+1,sv,O),by dsimp only;omega,⟨by dsimp only;omega,hnx,g0,hrow,hbd,hnd,λs=>?_⟩,ag0⟩;dsimp only;rw[hts,<-np,dZ,<-hmem,bT];exact⟨.inl,λh=>h.elim id λe=>by rw[e];exact hf⟩
 ·rw[if_neg (λh=>hf (hmk.1 h))] at hmf;have hgv:mget (.bool false) false none (O.map λ_=>AV.bool true)=.bool false:=rfl;refine wnY (zI3 @iy @o1 @o2) ?_;refine fh ev0 g0 (by((try simp only[ct,ZA,reduceEqDiff,↓reduceIte,reduceAdd,reduceLeDiff]);(try with_reducible rfl));rfl) (Ec (kK f)) hmf ?_;rw[hgv];refine wnY (aI @o1 @o2) ?_;refine nw ev0 g0 (by((try simp only[ct,ZA,reduceEqDiff,↓reduceIte,reduceAdd,reduceLeDiff]);(try with_reducible rfl));rfl) ev0 (Ec (kK f)) hmf ?_;refine wnY (zI4 @o1 @o2 @bf @aR) ?_;refine eR (hrow.same λb hb=>?_) ?_
  ·have:=hbd b hb;rw[ab (by omega),ab (by omega)]
  rintro s2 H2 nx2 hr2 i1 i2 i3 i4;obtain⟨o3,o4⟩:=hr2.one;refine wnY (aI @o3 @o4) ?_;refine⟨(j+1,s2,O++[f]),by dsimp only;omega,⟨by dsimp only;omega,by omega,?_,?_,λb hb=>?_,?_,λs=>?_⟩,ag0⟩
  ·rw[i3 0 (by omega) (λh=>by have:=hbd 0 h;omega),ab (by omega),ae];simp[dl,gL]
  ·dsimp only;rw[dr];exact hr2
  ·rcases i4 b hb with h|h
   ·have:=hbd b h;omega
   ·omega
  ·exact s0.2 ⟨hnd,by simp,λa ha c hc=>by simp at hc;subst hc;intro e;subst e;exact hf ha⟩
  ·dsimp only;rw[hts,<-np,dZ,dZ,<-hmem]
theorem mD(c:List Spx)(k:Int)(hc:c.length<=50)(hs:∀s∈c,Shn s):pU 79 [b7 c,.int .i64 k] (.tup [ak (f8 c k).1,.int .i64 (f8 c k).2]):=by
 refine pO Qb ?_;simp only[b79,aK];have hcc:=gM c (show _<=_ by omega) hs;unfold f8;by_cases he:ay c=0
 rotate_left
 ·rw[if_pos he];have z:decide (ay c≠0)=true:=bd he;refine wnY (zI3 @ai @af @z) ?_;exact fg (.eslsl _) rfl
 rw[if_neg (λh=>h he)];rw[he] at hcc;have z0:decide ((0:Int)≠0)=false:=rfl;obtain⟨p1,p2,p3,p4⟩:=cp he;by_cases hk:k<1\/8<k
 ·rw[if_pos hk];have zz:=aI @ai (aI @af @z0);repeat' (first|refine zW ?_|apply a_n|apply a_r|refine zO ?_|refine vY ?_|refine cY ?_ (hp:=hcc) (hs:=by(first|refine aB ?_ rfl|apply aL);(repeat' (first|exact aj|apply bk|apply aN|exact bI _));first|done|fail)|refine bxY ?_|refine gTY ?_|refine gFY ?_|refine cTY ?_|refine cFY ?_|(refine zGY ?_ ?_<;>(intro _hg;try (exfalso;omega)))|refine bC rfl ?_|refine r2Y ?_|fail)
  all_goals first|exact fg (.eslsl _) rfl|(exfalso;omega)
 rw[if_neg hk];obtain⟨n,rfl⟩:∃n:Nat,k=n:=⟨k.toNat,by omega⟩
 rw[cC];have ha:=B2 c n hc p2 ⟨by omega,by omega⟩;refine wnY (zI4 @ai @af @ah @z0) ?_;exact fg (bJ _).snap rfl
theorem Ct(l:List Spx)(v:Spx)(hl:Shn l)(hs:∀c∈l,Shn c)(hv:Shn v){b:Nat}(hb:b<=l.length)(h1:∀i,i<b->bK (l.getD i default) v<0)(h2:∀i,b<=i->i<l.length->0<=bK (l.getD i default) v):
    pU 132 [ak l,ar v,.func 70 []] (.tup [.int .i64 b,.bool (decide (b<l.length)&&decide (bK (l.getD b default) v=0))]):=by
 refine pO Pb ?_;simp only[Po,aK];have hl':l.length<=17592186044416:=hl;refine wnZ (zI3 @bf @aR @ah) ?_;refine od (X:=Nat×Nat) (λx=>[(0,ak l),(1,ar v),(2,.func 70 []),(8,.int .i64 l.length),(9,.int .i64 x.1),(10,.int .i64 x.2)]) (λx=>x.1<=b/\b<=x.2/\x.2<=l.length) (λx=>x.2-x.1) (0,l.length) ⟨bW _,hb,aJ _⟩ ag0 ?_;rintro⟨i,j⟩ ⟨g1,g2,g3⟩;dsimp only at g1 g2 g3 |-;by_cases hij:i<j
 ·have hh:(i+j)/2<l.length:=by omega
  have hc:=im (l.getD ((i+j)/2) default) v (hs _ (az hh)) hv;have ix:=eO hh;by_cases hn:bK (l.getD ((i+j)/2) default) v<0
  ·have hbb:(i+j)/2<b:=Nat.lt_of_not_le λh=>by have:=h2 _ h hh;omega
   refine wnZ (zI6 @bf @aR @ah @gR @D6 @ix) ?_;exact⟨((i+j)/2+1,j),⟨by omega,by omega,by omega⟩,by dsimp only;omega,ag0,rfl,rfl⟩
  ·have hbb:b<=(i+j)/2:=Nat.le_of_not_lt λh=>hn (h1 _ h);refine wnZ (zI6 @bf @aR @ah @gR @D6 @ix) ?_;exact⟨(i,(i+j)/2),⟨by omega,by omega,by omega⟩,by dsimp only;omega,ag0,rfl,rfl⟩
 ·have ei:i=b:=by omega
  have ej:j=b:=by omega
  clear hij g1 g2 g3;subst ei;by_cases hlt:i<l.length
  ·have hc:=im (l.getD i default) v (hs _ (az hlt)) hv;have ix:=eO hlt;have dlt:decide ((i:Int)<(l.length:Int))=true:=bd (by omega);have dij:decide ((i:Int)<(j:Int))=false:=bh (by omega);refine wnZ (zI6 @bf @aR @ah @ix @dlt @dij) ?_;refine bS (ag (.int _ _) (ag (cQ ?_) aj));rw[bd hlt,Bool.true_and]
  ·have dlt:decide ((i:Int)<(l.length:Int))=false:=bh (by omega);have dij:decide ((i:Int)<(j:Int))=false:=bh (by omega);refine wnZ (zI5 @bf @aR @ah @dlt @dij) ?_;refine bS (ag (.int _ _) (ag (cQ ?_) aj));rw[bh hlt,Bool.false_and]
theorem re(x:List Int)(n:Int)(hx:x.length<=1000000)(hr:∀v∈x,0<=v/\v<n)(ha:∀i,i+1<x.length->x.getD i default<x.getD (i+1) default):pU 114 [aH x,.int .i64 n] (.int .i64 0):=by
 refine pO Pu ?_;simp only[O4,aK];refine wnZ and_self ?_;refine od (X:=Nat) (λk=>[(0,aH x),(1,.int .i64 n),(7,aH x),(8,.int .i64 x.length),(9,.int .i64 k)]) (λk=>k<=x.length) (λk=>x.length-k) 0 (bW _) ag0 ?_;intro k hk;by_cases hk2:k<x.length
 rotate_left
 ·refine wnZ and_self ?_;exact .int _ _
 have h1:=hr _ (bg hk2);have z1:decide (x.getD k default<0)=false:=bh (by omega);have z2:decide (n<=x.getD k default)=false:=bh (by omega);by_cases hk0:0<k
 rotate_left
 ·have zk:decide (0<(k:Int))=false:=bh (by omega);refine wnZ (zI3 @z1 @z2 @zk) ?_;exact⟨k+1,by omega,by omega,ag0,rfl,rfl⟩
 have zk:decide (0<(k:Int))=true:=bd (by omega);have h2:=ha (k-1) (by omega);rw[show k-1+1=k by omega] at h2
 have iy:eP 1 (aH x) (.int .i64 ((k:Int)-1))=some (.iptr [.int .i64 (x.getD (k-1) default)] 0):=by
  rw[oH,if_pos ⟨by omega,by omega⟩,show((k:Int)-1).toNat=k-1 by omega]
 have z3:decide (x.getD k default<=x.getD (k-1) default)=false:=bh (by omega);refine wnZ (zI5 @z1 @z2 @zk @iy @z3) ?_;exact⟨k+1,by omega,by omega,ag0,rfl,rfl⟩
def jp(c:Int)(R:List (List Int)):Prop:=0<=c/\c<=4096/\R.length<=4096/\∀r∈R,(∀v∈r,0<=v/\v<c)/\r.length<=4096/\∀i,i+1<r.length->r.getD i default<r.getD (i+1) default
theorem mV(c:Int)(R:List (List Int))(h:jp c R):pU 113 [.agg [.int .i64 c,bU R]] (.int .i64 0):=by
 refine pO PO ?_;simp only[Nx,aK];obtain⟨h1,h2,h3,h4⟩:=h;have z1:decide (c<0)=false:=bh (by omega);have z2:decide (4096<c)=false:=bh (by omega);have z3:decide ((4096:Int)<R.length)=false:=bh (by omega);refine wnZ (zI3 @z1 @z2 @z3) ?_;refine od (X:=Nat) (λk=>[(1,.ptr 0 2 0),(21,bU R),(22,.int .i64 R.length),(23,.int .i64 k)]) (λk=>k<=R.length) (λk=>R.length-k) 0 (bW _) (by(iterate 4 refine And.intro rfl ?_);trivial) ?_;intro k hk;by_cases hk2:k<R.length
 rotate_left
 ·refine wnZ and_self ?_;exact .int _ _
 obtain⟨r1,r2,r3⟩:=h4 _ (bg hk2);have hv:=re (R.getD k default) c (by omega) r1 r3;have z0:decide ((0:Int)≠0)=false:=rfl;refine wnZ @z0 ?_;exact⟨k+1,by omega,by omega,ag0,rfl,rfl⟩
theorem xR(a b:List Int)(ha:a.length<=1000000000000)(hb:b.length<=1000000000000):pU 124 [aH a,aH b] (aH (bX a b)):=by
 refine pO M6 ?_;simp only[Ov,aK];refine wnZ and_self ?_;refine zR (k1:=.i64) (k2:=.i64) (n:=0) (m:=(a.length:Int)+b.length) rfl ev0 ev0 (Int.le_refl _) (by omega) (by omega) (by omega) ?_;rw[show((a.length:Int)+b.length).toNat=a.length+b.length by omega];have hz:(bv (AV.agg [AV.int .i64 0]) (a.length+b.length)).length=a.length+b.length:=by simp[bv,AV.cells]
 generalize hN:a.length+b.length=N at *;refine wnZ and_self ?_;refine ca (X:=List Int×List Int×List Int×Nat) (λx=>[(0,aH x.1),(1,aH x.2.1),(5,.msl 0 N 1 0 x.2.2.2)]) (λx H nx=>1<=nx/\x.2.2.1.length=x.2.2.2/\x.2.2.2+x.1.length+x.2.1.length<=N/\x.2.2.1++bX x.1 x.2.1=bX a b/\∃C,H 0=some C/\C.length=N/\C.take x.2.2.2=x.2.2.1.map (AV.int .i64)) (λx=>x.1.length+x.2.1.length) (a,b,[],0) ⟨aJ _,rfl,by dsimp only;omega,rfl,_,ae,hz,rfl⟩ (by refine⟨rfl,rfl,?_,trivial⟩;((try simp only[ct,ZA,reduceEqDiff,↓reduceIte,reduceAdd,reduceLeDiff]);(try with_reducible rfl));rfl) ?_;rintro⟨a',b',D,k⟩ H nx ⟨h1,h2,h3,h4,C,h5,h6,h7⟩;dsimp only at h1 h2 h3 h4 h7 |-;have hDl:(D.map (AV.int .i64)).length=k:=by rw[bt];exact h2
 have hfin:(a'=[]\/b'=[])->D++(a'++b')=bX a b:=λh=>by
  rcases h with rfl|rfl
  ·rw[jK] at h4;exact h4
  ·rw[gA] at h4;rw[gJ];exact h4
 by_cases hne:a'=[]\/b'=[]
 ·have h4:=hfin hne;clear hfin
  have y1:decide ((0:Int)<a'.length)=false\/decide ((0:Int)<a'.length)=true/\decide ((0:Int)<b'.length)=false:=by
   rcases hne with rfl|rfl
   ·exact .inl rfl
   ·by_cases h:a'=[]
    ·subst h;exact .inl rfl
    ·exact .inr ⟨bd (by have:=iM.2 h;omega),rfl⟩
  rcases y1 with y1|⟨y1,y2⟩
  ·refine wnY @y1 ?_;refine rB (b:=0) (N:=N) (len:=k) (n:=a'.length) (new:=a'.map (AV.int .i64)) rfl ev0 h5 h6 h7 hDl ev0 iq jw (by rw[bt]) (by omega) (by omega) (by omega) λC2 c1 c2=>?_;refine wnY and_self ?_;refine rB (b:=0) (N:=N) (len:=k+a'.length) (n:=b'.length) (new:=b'.map (AV.int .i64)) rfl ev0 ae c1 c2 (by rw[cA,hDl,bt]) ev0 iq jw (by rw[bt]) (by omega) (by omega) (by omega) λC3 c3 c4=>?_;refine wnY and_self ?_;rw[<-h4];exact xP ae c3 (by omega) (by simp only[cA];omega) (by rw[<-ra,c4,dr,dr,np])
  ·refine wnY (aI @y1 @y2) ?_;refine rB (b:=0) (N:=N) (len:=k) (n:=a'.length) (new:=a'.map (AV.int .i64)) rfl ev0 h5 h6 h7 hDl ev0 iq jw (by rw[bt]) (by omega) (by omega) (by omega) λC2 c1 c2=>?_;refine wnY and_self ?_;refine rB (b:=0) (N:=N) (len:=k+a'.length) (n:=b'.length) (new:=b'.map (AV.int .i64)) rfl ev0 ae c1 c2 (by rw[cA,hDl,bt]) ev0 iq jw (by rw[bt]) (by omega) (by omega) (by omega) λC3 c3 c4=>?_;refine wnY and_self ?_;rw[<-h4];exact xP ae c3 (by omega) (by simp only[cA];omega) (by rw[<-ra,c4,dr,dr,np])
 have ha0:a'≠[]:=λh=>hne (.inl h);have hb0:b'≠[]:=λh=>hne (.inr h);clear hfin hne;obtain⟨x,a2,rfl⟩:=List.exists_cons_of_ne_nil ha0;obtain⟨y,b2,rfl⟩:=List.exists_cons_of_ne_nil hb0;rw[oo] at h4;have la:(x::a2).length=a2.length+1:=rfl;have lb:(y::b2).length=b2.length+1:=rfl;have i1:=KN (x:=x) (l:=a2);have i2:=KN (x:=y) (l:=b2);have s1:=Du (x:=x) (l:=a2);have s2:=Du (x:=y) (l:=b2);generalize hA:x::a2=A at *;generalize hB:y::b2=B at *;have y1:decide ((0:Int)<A.length)=true:=bd (by omega);have y2:decide ((0:Int)<B.length)=true:=bd (by omega);by_cases g1:x<y
 ·rw[if_pos g1] at h4;have z1:decide (x<y)=true:=bd g1;refine wnY (zI5 @i1 @i2 @y1 @y2 @z1) ?_;refine rB (b:=0) (N:=N) (len:=k) (n:=1) (new:=[.int .i64 x]) rfl ev0 (by rw[ab (by omega)];exact h5) h6 h7 hDl ev0 jh rfl rfl (by omega) (by omega) (by omega) λC2 c1 c2=>?_;refine wnY @s1 ?_;exact⟨(a2,B,D++[x],k+1),by dsimp only;omega,⟨by omega,by simp[h2],by dsimp only;omega,by simpa using h4,C2,ae,c1,by rw[c2,dr];rfl⟩,ag0⟩
 rw[if_neg g1] at h4;have z1:decide (x<y)=false:=bh g1;by_cases g2:y<x
 ·rw[if_pos g2] at h4;have z2:decide (y<x)=true:=bd g2;refine wnY (zI6 @i1 @i2 @y1 @y2 @z1 @z2) ?_;refine rB (b:=0) (N:=N) (len:=k) (n:=1) (new:=[.int .i64 y]) rfl ev0 (by rw[ab (by omega)];exact h5) h6 h7 hDl ev0 jh rfl rfl (by omega) (by omega) (by omega) λC2 c1 c2=>?_;refine wnY @s2 ?_;exact⟨(A,b2,D++[y],k+1),by dsimp only;omega,⟨by omega,by simp[h2],by dsimp only;omega,by simpa using h4,C2,ae,c1,by rw[c2,dr];rfl⟩,ag0⟩
 rw[if_neg g2] at h4;have z2:decide (y<x)=false:=bh g2;refine wnY (zI8 @i1 @i2 @s1 @s2 @y1 @y2 @z1 @z2) ?_;exact⟨(a2,b2,D,k),by dsimp only;omega,⟨by omega,h2,by dsimp only;omega,h4,C,h5,h6,h7⟩,ag0⟩
theorem ug{L:List Spx}(hL:∀s∈L,s.length<=8):∀(n:Nat)(s:Spx),s∈L->8<=s.length+n->∃t∈ma L,∀v∈s,v∈t
 |n,s,hs,hn=>by
  cases h:b5 L s
  ·exact⟨s,qX.2 ⟨hs,h⟩,λv hv=>hv⟩
  ·obtain⟨t,t1,t2,t3⟩:=ec.1 h
   match n with
   |0=>have:=hL t t1;omega
   |n+1=>
    obtain⟨u,u1,u2⟩:=ug hL n t t1 (by omega);exact⟨u,u1,λv hv=>u2 v (t3 v hv)⟩
end
end Go.Proofs.YtekdaafnjdlenaaGreat
