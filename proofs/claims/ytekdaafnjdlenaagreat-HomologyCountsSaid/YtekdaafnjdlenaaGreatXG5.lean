/- Texts of this claim, one after the other: U8s, U9s, U10s, U11s, U12s, U13s, U2p, U3p, U4p, U5p, U6p, U7p, U8p, U10p, U12p, U13p, T106, T109, T110, T111, T112, T113, T107, T114, T115, T116, T117, T119, T124, T125, T120, T123, T126, T127, T128, T135, T136, T137, T129, T130, T131, T138, T139, T140, T141, T142, T143, T163, T164, T132, T134, T160, T161, T122, T133, T162, T165, T220, T221, T222. -/
import Derived.Test.YtekdaafnjdlenaaGreatXG4
import Derived.Test.YtekdaafnjdlenaaGreatXG3

set_option linter.unusedSimpArgs false
set_option linter.unusedVariables false
set_option maxHeartbeats 1000000
namespace Go.Proofs.YtekdaafnjdlenaaGreat
open Go Go.Abs
structure PartR{α:Type}[Inhabited α](P:α→Prop)(a e mu i j:Nat)(M:List α):Prop where
 lo:a+1≤i
 mid:i≤j+1
 hi:j<e
 mu:j+1-i≤mu
 up:∀p,a+1≤p→p<i→P (M.getD p default)
 dn:∀q,j<q→q<e→¬P (M.getD q default)
section
variable{α:Type}[Inhabited α]{f:α→AV}{K:α→α→Int}{G:α→Prop}{g:Nat}{caps:List AV}
theorem PartR.start{P:α→Prop}{a m:Nat}{M:List α}(h:a≤m):PartR P a (m+1) (m+1-(a+1)) (a+1) m M:=⟨aO _,by omega,by omega,aO _,fun p h1 h2=>by omega,fun q h1 h2=>by omega⟩
theorem PartR.stepUp{P:α→Prop}{a e mu i j:Nat}{M:List α}(h:PartR P a e mu i j M)(hij:i≤j)(hp:P (M.getD i default)):PartR P a e mu (i+1) j M:=
 ⟨by have:=h.lo; omega,by omega,h.hi,by have:=h.mu; omega,fun p h1 h2=>by
  by_cases e:p=i
  ·rw[e];exact hp
  ·exact h.up p h1 (by omega),h.dn⟩
theorem PartR.stepDn{P:α→Prop}{a e mu i k:Nat}{M:List α}(h:PartR P a e mu i (k+1) M)(hij:i≤k+1)(hp:¬P (M.getD (k+1) default)):PartR P a e mu i k M:=
 ⟨h.lo,hij,by have:=h.hi; omega,by have:=h.mu; omega,h.up,fun q h1 h2=>by
  by_cases e:q=k+1
  ·rw[e];exact hp
  ·exact h.dn q (by omega) h2⟩
theorem PartR.swap{P:α→Prop}{a e mu i k:Nat}{M:List α}(h:PartR P a e mu i (k+1) M)(hM:e≤M.length)(hij:i≤k+1)(hi:¬P (M.getD i default))(hj:P (M.getD (k+1) default)):PartR P a e (k+1-(i+1)) (i+1) k (swp M i (k+1))∧k+1-(i+1)<mu:=by
 have hne:i≠k+1:=fun e=>hi (by rw[e];exact hj);have hh:=h.hi;have hlo:=h.lo;have hmu:=h.mu;refine⟨⟨by omega,by omega,by omega,aO _,fun p h1 h2=>?_,fun q h1 h2=>?_⟩,by omega⟩
 ·rw[eV (by omega) (by omega),if_neg (by omega)];by_cases e:p=i
  ·rw[if_pos e];exact hj
  ·rw[if_neg e];exact h.up p h1 (by omega)
 ·rw[eV (by omega) (by omega)];by_cases e:q=k+1
  ·rw[if_pos e];exact hi
  ·rw[if_neg e,if_neg (by omega)];exact h.dn q (by omega) h2
theorem sX{M:List α}{i j k:Nat}(hi:i<M.length)(hj:j<M.length)(h1:k≠i)(h2:k≠j):(swp M i j).getD k default=M.getD k default:=by
 rw[eV hi hj,if_neg h2,if_neg h1]
attribute [local irreducible] aJ aj bf aX aP aQ aD aS a6 bk Go.Abs.Fn aV Go.Abs.Pure ar aK Yl
theorem PartR.done{P:α→Prop}{a e mu i j:Nat}{M:List α}{v:α}(hK:Ord K)(h:PartR P a e mu i j M)(hM:e≤M.length)(hji:j<i)(hv:M.getD a default=v)(hP:∀x,P x↔K x v<0):a≤j∧j<e∧(∀p,a≤p→p<j→K ((swp M j a).getD p default) ((swp M j a).getD j default)<0)∧(∀q,j<q→q<e→¬K ((swp M j a).getD q default) ((swp M j a).getD j default)<0):=by
 have hlo:=h.lo;have hmid:=h.mid;have hhi:=h.hi
 have ej:(swp M j a).getD j default=v:=by
  rw[eV (by omega) (by omega)];split
  ·rename_i e;rw[e,hv]
  ·rw[if_pos rfl,hv]
 rw[ej];refine⟨by omega,by omega,fun p h1 h2=>?_,fun q h1 h2=>?_⟩
 ·rw[eV (by omega) (by omega)];by_cases e:p=a
  ·rw[if_pos e];exact(hP _).1 (h.up j (by omega) hji)
  ·rw[if_neg e,if_neg (by omega)];exact(hP _).1 (h.up p (by omega) (by omega))
 ·rw[eV (by omega) (by omega),if_neg (by omega),if_neg (by omega),←hP];exact h.dn q h1 h2
theorem F1(hc:Cmp Tryz.prog f K G g caps){L:List α}{H:Hp}{b nx n a e pv:Nat}(hH:H b=some (L.map f))(hn:L.length=n)(hG:∀x∈L,G x)(hae:a<e)(hen:e≤n)(hn2:n≤1000000000)(hpv:a≤pv∧pv<e):
    Abs.Fn Tryz.prog 172 [.msl b n 1 0 n,.int .i64 a,.int .i64 e,.int .i64 pv,.func g caps] H nx fun r H' nx'=>nx'=nx∧∃(L':List α)(m:Nat),r=.int .i64 m∧a<m∧m≤e∧H'=aq H b (L'.map f)∧PermR a e L L'∧(∀p,a≤p→p<m→¬K (L.getD pv default) (L'.getD p default)<0)∧(∀q,m≤q→q<e→K (L.getD pv default) (L'.getD q default)<0):=by
 have dcap:=hc.dcaps;obtain⟨v,hv0⟩:∃v,L.getD pv default=v:=⟨_,rfl⟩
 rw[hv0];obtain⟨P,hP⟩:∃P:α→Prop,∀x,P x↔ ¬K v x<0:=⟨_,fun _=>Iff.rfl⟩
 obtain⟨N,hN⟩:∃N,swp L a pv=N:=⟨_,rfl⟩
 have hp1:PermR a e L N:=hN▸PermR.swap (by omega) (by omega) (by omega)
 have hv1:N.getD a default=v:=by
  rw[←hN,eV (by omega) (by omega),←hv0];split
  ·rename_i h;rw[h]
  ·rw[if_pos rfl]
 obtain⟨M1,hl1,lm1,lm2⟩:=d5 (f:=f) (M:=L) (i:=a) (j:=pv) (by omega) (by omega);rw[hN] at lm2;have lm3:=lm2;simp only[bG,bO,fA,ce] at lm1 lm2;obtain⟨m,hm⟩:∃m,e=m+1:=⟨e-1,by omega⟩
 have te:(e:Int)-1=(m:Int):=by omega
 have ta:((a:Nat):Int)+1=((a+1:Nat):Int):=by omega
 refine fO Ky ?_;simp only[J0,aG];have zz:=aI @hH (aI @te (aI @ta (aI @cr (aI hc.cells (aI hc.one (aI @lm1 @lm2))))));repeat' (first|refine zW ?_|apply a_n|refine zO ?_|refine vZ ?_|refine stZ ?_|fail)
 refine bT (X:=Nat×Nat×List α) (fun x=>[(0,.msl b n 1 0 n),(1,.int .i64 a),(4,.func g caps),(11,.int .i64 (x.1:Nat)),(12,.int .i64 (x.2.1:Nat))]) (fun x H' nxx=>PartR P a e (x.2.1+1-x.1) x.1 x.2.1 x.2.2∧H'=aq H b (x.2.2.map f)∧nx=nxx∧PermR a e L x.2.2∧x.2.2.getD a default=v) (fun x=>x.2.1+1-x.1) (a+1,m,N) ⟨by dsimp only;rw[hm];exact .start (by omega),by dsimp only;rw[ba,lm3],rfl,hp1,hv1⟩ ag0 ?_;clear zz;clear lm1 lm2 lm3 hl1 M1 hp1 hv1 hN N te ta hm m;rintro⟨i,j,M⟩ H' nxx ⟨hpt,rfl,rfl,hp,hv⟩;dsimp only at *;have hl:M.length=n:=by rw[hp.len,hn]
 have hGM:=hp.mem hG;generalize hmu:j+1-i=mu at hpt ⊢;clear hmu;obtain⟨T,hT,t0,t1,t4,t11,t12⟩:∃T,tl [(0,.msl b n 1 0 n),(1,.int .i64 a),(4,.func g caps),(11,.int .i64 (i:Nat)),(12,.int .i64 (j:Nat))]=T∧T 0=.msl b n 1 0 n∧T 1=.int .i64 a∧T 4=.func g caps∧T 11=.int .i64 (i:Nat)∧T 12=.int .i64 (j:Nat):=⟨_,rfl,rfl,rfl,rfl,rfl,rfl⟩
 rw[hT];clear hT;refine kW ?_;refine cl (fun T H'' nx''=>∃i:Nat,PartR P a e mu i j M∧(i≤j→¬P (M.getD i default))∧T 0=.msl b n 1 0 n∧T 1=.int .i64 a∧T 4=.func g caps∧T 11=.int .i64 (i:Nat)∧T 12=.int .i64 (j:Nat)∧H''=aq H b ((M).map f)∧nx=nx'') ?_ ?_
 ·have zz:=aI @t0 (aI @t1 (aI @t4 (aI @t11 @t12)));repeat' (first|refine zW ?_|apply a_n|refine zO ?_|fail)
  refine bT (X:=Nat) (fun i=>[(0,.msl b n 1 0 n),(1,.int .i64 a),(4,.func g caps),(11,.int .i64 (i:Nat)),(12,.int .i64 (j:Nat))]) (fun i H' nxx=>PartR P a e mu i j M∧H'=aq H b (M.map f)∧nx=nxx) (fun i=>j+1-i) i ⟨hpt,rfl,rfl⟩ (have zz:=aI @t0 (aI @t1 (aI @t4 (aI @t11 @t12)));agZ) ?_;clear zz;clear t0 t1 t4 t11 t12 hpt i;rintro i H' nxx ⟨hpt,rfl,rfl⟩;have hlo:=hpt.lo;have hmid:=hpt.mid;have hhi:=hpt.hi;have ii:((i:Nat):Int)+1=((i+1:Nat):Int):=by omega
  by_cases hij:j<i
  ·repeat' (first|refine zW ?_|refine zM ?_|apply a_n|apply a_x|refine zO ?_|refine vZ ?_|refine gFZ ?_|(refine zGZ ?_ ?_<;>(intro _hg;try (exfalso;omega)))|refine cFZ ?_|fail)
   exact⟨i,hpt,fun h=>absurd h (by omega),rfl,rfl,rfl,rfl,rfl,rfl,rfl⟩
  have lc:=hc.run (M.getD (a) default) (M.getD (i) default) (hGM _ (bg (by omega))) (hGM _ (bg (by omega)));have e1:=hc.dat (M.getD (a) default);have e2:=hc.dat (M.getD (i) default);have hPk:P (M.getD (i) default)↔ ¬K (M.getD (a) default) (M.getD (i) default)<0:=by rw[hP,hv]
  generalize hKK:K (M.getD (a) default) (M.getD (i) default)=kk at lc hPk;by_cases hlt:kk<0
  ·have zz:=aI @ii (aI @cr (aI hc.cells hc.one));repeat' (first|refine zW ?_|refine zM ?_|apply a_n|apply a_x|refine zO ?_|refine vZ ?_|refine cZ ?_ (hp:=lc) (hs:=by(first|refine aF ?_ rfl|apply aY);(repeat' (first|exact ak|apply bv|apply a5|exact e1|exact e2|exact bh dcap));first|done|fail)|refine gTZ ?_|(refine zGZ ?_ ?_<;>(intro _hg;try (exfalso;omega)))|fail)
   exact⟨i,hpt,fun _=>(by rw[hPk];first|exact hlt|exact fun h=>h hlt),rfl,rfl,rfl,rfl,rfl,rfl,rfl⟩
  ·have zz:=aI @ii (aI @cr (aI hc.cells hc.one));repeat' (first|refine zW ?_|refine zM ?_|apply a_n|refine zO ?_|refine vZ ?_|refine cZ ?_ (hp:=lc) (hs:=by(first|refine aF ?_ rfl|apply aY);(repeat' (first|exact ak|apply bv|apply a5|exact e1|exact e2|exact bh dcap));first|done|fail)|refine gTZ ?_|(refine zGZ ?_ ?_<;>(intro _hg;try (exfalso;omega)))|fail)
   exact⟨i+1,by omega,⟨hpt.stepUp (by omega) (by rw[hPk];exact hlt),rfl,rfl⟩,ag0⟩
 clear t0 t1 t4 t11 t12 hpt i;rintro T _ _ ⟨i,hpt,hni,t0,t1,t4,t11,t12,rfl,rfl⟩;refine cl (fun T H'' nx''=>∃j:Nat,PartR P a e mu i j M∧(i≤j→¬P (M.getD i default))∧(i≤j→P (M.getD j default))∧T 0=.msl b n 1 0 n∧T 1=.int .i64 a∧T 4=.func g caps∧T 11=.int .i64 (i:Nat)∧T 12=.int .i64 (j:Nat)∧H''=aq H b ((M).map f)∧nx=nx'') ?_ ?_
 ·have zz:=aI @t0 (aI @t1 (aI @t4 (aI @t11 @t12)));repeat' (first|refine zW ?_|apply a_n|refine zO ?_|fail)
  refine bT (X:=Nat) (fun j=>[(0,.msl b n 1 0 n),(1,.int .i64 a),(4,.func g caps),(11,.int .i64 (i:Nat)),(12,.int .i64 (j:Nat))]) (fun j H' nxx=>PartR P a e mu i j M∧(i≤j→¬P (M.getD i default))∧H'=aq H b (M.map f)∧nx=nxx) (fun j=>j) j ⟨hpt,hni,rfl,rfl⟩ (have zz:=aI @t0 (aI @t1 (aI @t4 (aI @t11 @t12)));agZ) ?_;clear zz;clear t0 t1 t4 t11 t12 hpt hni j;rintro j H' nxx ⟨hpt,hni,rfl,rfl⟩;have hlo:=hpt.lo;have hmid:=hpt.mid;have hhi:=hpt.hi;by_cases hij:j<i
  ·repeat' (first|refine zW ?_|refine zM ?_|apply a_n|apply a_x|refine zO ?_|refine vZ ?_|refine gFZ ?_|(refine zGZ ?_ ?_<;>(intro _hg;try (exfalso;omega)))|refine cFZ ?_|fail)
   exact⟨j,hpt,hni,fun h=>absurd h (by omega),rfl,rfl,rfl,rfl,rfl,rfl,rfl⟩
  obtain⟨k,rfl⟩:∃k,j=k+1:=⟨j-1,by omega⟩
  have tk:((k+1:Nat):Int)-1=(k:Int):=by omega
  have lc:=hc.run (M.getD (a) default) (M.getD (k+1) default) (hGM _ (bg (by omega))) (hGM _ (bg (by omega)));have e1:=hc.dat (M.getD (a) default);have e2:=hc.dat (M.getD (k+1) default);have hPk:P (M.getD (k+1) default)↔ ¬K (M.getD (a) default) (M.getD (k+1) default)<0:=by rw[hP,hv]
  generalize hKK:K (M.getD (a) default) (M.getD (k+1) default)=kk at lc hPk;by_cases hlt:kk<0
  ·have zz:=aI @tk (aI @cr (aI hc.cells hc.one));repeat' (first|refine zW ?_|refine zM ?_|apply a_n|refine zO ?_|refine vZ ?_|refine cZ ?_ (hp:=lc) (hs:=by(first|refine aF ?_ rfl|apply aY);(repeat' (first|exact ak|apply bv|apply a5|exact e1|exact e2|exact bh dcap));first|done|fail)|refine gTZ ?_|(refine zGZ ?_ ?_<;>(intro _hg;try (exfalso;omega)))|fail)
   exact⟨k,by omega,⟨hpt.stepDn (by omega) (by rw[hPk];first|exact hlt|exact fun h=>h hlt),fun _=>hni (by omega),rfl,rfl⟩,ag0⟩
  ·have zz:=aI @tk (aI @cr (aI hc.cells hc.one));repeat' (first|refine zW ?_|refine zM ?_|apply a_n|apply a_x|refine zO ?_|refine vZ ?_|refine cZ ?_ (hp:=lc) (hs:=by(first|refine aF ?_ rfl|apply aY);(repeat' (first|exact ak|apply bv|apply a5|exact e1|exact e2|exact bh dcap));first|done|fail)|refine gTZ ?_|(refine zGZ ?_ ?_<;>(intro _hg;try (exfalso;omega)))|fail)
   exact⟨k+1,hpt,hni,fun _=>(by rw[hPk];exact hlt),rfl,rfl,rfl,rfl,rfl,rfl,rfl⟩
 clear t0 t1 t4 t11 t12 hpt hni j;rintro T _ _ ⟨j,hpt,hni,hnj,t0,t1,t4,t11,t12,rfl,rfl⟩;have hlo:=hpt.lo;have hmid:=hpt.mid;have hhi:=hpt.hi;by_cases hji:j<i
 ·have zz:=aI @t0 (aI @t1 (aI @t4 (aI @t11 @t12)));repeat' (first|refine zW ?_|apply a_n|apply a_x|refine zO ?_|refine vZ ?_|(refine zGZ ?_ ?_<;>(intro _hg;try (exfalso;omega)))|refine bR rfl ?_|refine r1Z ?_|fail)
  refine⟨rfl,M,i,rfl,by omega,by omega,rfl,hp,fun p h1 h2=>?_,fun q h1 h2=>by have:=hpt.dn q (by omega) h2;rw[hP] at this;exact uj this⟩;by_cases ep:p=a
  ·rw[ep,hv];exact hc.ord.irr _
  ·exact(hP _).1 (hpt.up p (by omega) h2)
 obtain⟨k,rfl⟩:∃k,j=k+1:=⟨j-1,by omega⟩
 have tk:((k+1:Nat):Int)-1=(k:Int):=by omega
 have ii:((i:Nat):Int)+1=((i+1:Nat):Int):=by omega
 obtain⟨M1,hl1,lm1,lm2⟩:=d5 (f:=f) (M:=M) (i:=i) (j:=k+1) (by omega) (by omega);have lm3:=lm2;simp only[bG,bO,fA,ce] at lm1 lm2;have zz:=aI @t0 (aI @t1 (aI @t4 (aI @t11 (aI @t12 (aI @tk (aI @ii (aI @cr (aI hc.cells (aI hc.one (aI @lm1 @lm2))))))))));repeat' (first|refine zW ?_|apply a_n|refine zO ?_|refine vZ ?_|refine stZ ?_|(refine zGZ ?_ ?_<;>(intro _hg;try (exfalso;omega)))|fail)
 obtain⟨hq1,hq2⟩:=hpt.swap (by omega) (by omega) (hni (by omega)) (hnj (by omega));exact⟨(i+1,k,swp M i (k+1)),hq2,⟨hq1,by dsimp only;rw[ba,ba,lm3],rfl,hp.trans (PermR.swap (by omega) (by omega) (by omega)),by dsimp only;rw[sX (by omega) (by omega) (by omega) (by omega)];exact hv⟩,(have zz:=aI @t0 (aI @t1 (aI @t4 (aI @t11 @t12)));agZ)⟩
theorem Jr(hc:Cmp Tryz.prog f K G g caps){L:List α}{H:Hp}{b nx n a e pv:Nat}(hH:H b=some (L.map f))(hn:L.length=n)(hG:∀x∈L,G x)(hae:a<e)(hen:e≤n)(hn2:n≤1000000000)(hpv:a≤pv∧pv<e):
    Abs.Fn Tryz.prog 173 [.msl b n 1 0 n,.int .i64 a,.int .i64 e,.int .i64 pv,.func g caps] H nx fun r H' nx'=>nx'=nx∧∃(L':List α)(m:Nat)(t:Bool),r=.tup [.int .i64 m,.bool t]∧a≤m∧m<e∧H'=aq H b (L'.map f)∧PermR a e L L'∧(∀p,a≤p→p<m→K (L'.getD p default) (L'.getD m default)<0)∧(∀q,m<q→q<e→¬K (L'.getD q default) (L'.getD m default)<0):=by
 have dcap:=hc.dcaps;obtain⟨v,hv0⟩:∃v,L.getD pv default=v:=⟨_,rfl⟩
 obtain⟨P,hP⟩:∃P:α→Prop,∀x,P x↔K x v<0:=⟨_,fun _=>Iff.rfl⟩
 obtain⟨M,hN⟩:∃N,swp L a pv=N:=⟨_,rfl⟩
 have hp:PermR a e L M:=hN▸PermR.swap (by omega) (by omega) (by omega)
 have hv:M.getD a default=v:=by
  rw[←hN,eV (by omega) (by omega),←hv0];split
  ·rename_i h;rw[h]
  ·rw[if_pos rfl]
 obtain⟨M1,hl1,lm1,lm2⟩:=d5 (f:=f) (M:=L) (i:=a) (j:=pv) (by omega) (by omega);rw[hN] at lm2;have lm3:=lm2;simp only[bG,bO,fA,ce] at lm1 lm2;obtain⟨m,hm⟩:∃m,e=m+1:=⟨e-1,by omega⟩
 have te:(e:Int)-1=(m:Int):=by omega
 have ta:((a:Nat):Int)+1=((a+1:Nat):Int):=by omega
 refine fO MF ?_;simp only[JV,aG];refine cl (fun T H'' nx''=>T 0=.msl b n 1 0 n∧T 1=.int .i64 a∧T 2=.int .i64 e∧T 3=.int .i64 pv∧T 4=.func g caps∧H=H''∧nx=nx'') ?_ ?_
 ·repeat' (first|apply a_n|refine zO ?_|refine vZ ?_|fail)
  exact⟨rfl,rfl,rfl,rfl,rfl,rfl,rfl⟩
 rintro T _ _ ⟨t0,t1,t2,t3,t4,rfl,rfl⟩;refine cl (fun T H'' nx''=>T 0=.msl b n 1 0 n∧T 1=.int .i64 a∧T 2=.int .i64 e∧T 3=.int .i64 pv∧T 4=.func g caps∧H''=aq H b (M.map f)∧nx=nx'') ?_ ?_
 ·have zz:=aI @t0 (aI @t1 (aI @t2 (aI @t3 (aI @t4 (aI @hH (aI @cr (aI hc.cells (aI hc.one (aI @lm1 @lm2)))))))));repeat' (first|apply a_n|refine zO ?_|refine vZ ?_|refine stZ ?_|fail)
  exact⟨(have zz:=@t0;evZ),(have zz:=@t1;evZ),(have zz:=@t2;evZ),(have zz:=@t3;evZ),(have zz:=@t4;evZ),by rw[ba,lm3],rfl⟩
 clear t0 t1 t2 t3 t4 lm1 lm2 lm3 hl1 M1 hN;rintro T _ _ ⟨t0,t1,t2,t3,t4,rfl,rfl⟩;refine cl (fun T H'' nx''=>∃mu i j:Nat,PartR P a e mu i j M∧T 0=.msl b n 1 0 n∧T 1=.int .i64 a∧T 4=.func g caps∧T 12=.int .i64 (i:Nat)∧T 13=.int .i64 (j:Nat)∧H''=aq H b ((M).map f)∧nx=nx'') ?_ ?_
 ·have zz:=aI @t0 (aI @t1 (aI @t2 (aI @t3 (aI @t4 (aI @ta @te)))));repeat' (first|apply a_n|refine zO ?_|refine vZ ?_|fail)
  exact⟨_,a+1,m,by rw[hm];exact .start (by omega),(have zz:=@t0;evZ),(have zz:=@t1;evZ),(have zz:=@t4;evZ),ev0,ev0,rfl,rfl⟩
 clear t0 t1 t2 t3 t4 ta te hm m;rintro T _ _ ⟨mu,i,j,hpt,t0,t1,t4,t12,t13,rfl,rfl⟩;have hl:M.length=n:=by rw[hp.len,hn]
 have hGM:=hp.mem hG;refine cl (fun T H'' nx''=>∃i:Nat,PartR P a e mu i j M∧(i≤j→¬P (M.getD i default))∧T 0=.msl b n 1 0 n∧T 1=.int .i64 a∧T 4=.func g caps∧T 12=.int .i64 (i:Nat)∧T 13=.int .i64 (j:Nat)∧H''=aq H b ((M).map f)∧nx=nx'') ?_ ?_
 ·have zz:=aI @t0 (aI @t1 (aI @t4 (aI @t12 @t13)));repeat' (first|refine zW ?_|apply a_n|refine zO ?_|fail)
  refine bT (X:=Nat) (fun i=>[(0,.msl b n 1 0 n),(1,.int .i64 a),(4,.func g caps),(12,.int .i64 (i:Nat)),(13,.int .i64 (j:Nat))]) (fun i H' nxx=>PartR P a e mu i j M∧H'=aq H b (M.map f)∧nx=nxx) (fun i=>j+1-i) i ⟨hpt,rfl,rfl⟩ (have zz:=aI @t0 (aI @t1 (aI @t4 (aI @t12 @t13)));agZ) ?_;clear zz;clear t0 t1 t4 t12 t13 hpt i;rintro i H' nxx ⟨hpt,rfl,rfl⟩;have hlo:=hpt.lo;have hmid:=hpt.mid;have hhi:=hpt.hi;have ii:((i:Nat):Int)+1=((i+1:Nat):Int):=by omega
  by_cases hij:j<i
  ·repeat' (first|refine zW ?_|refine zM ?_|apply a_n|apply a_x|refine zO ?_|refine vZ ?_|refine gFZ ?_|(refine zGZ ?_ ?_<;>(intro _hg;try (exfalso;omega)))|refine cFZ ?_|fail)
   exact⟨i,hpt,fun h=>absurd h (by omega),rfl,rfl,rfl,rfl,rfl,rfl,rfl⟩
  have lc:=hc.run (M.getD (i) default) (M.getD (a) default) (hGM _ (bg (by omega))) (hGM _ (bg (by omega)));have e1:=hc.dat (M.getD (i) default);have e2:=hc.dat (M.getD (a) default);have hPk:P (M.getD (i) default)↔K (M.getD (i) default) (M.getD (a) default)<0:=by rw[hP,hv]
  generalize hKK:K (M.getD (i) default) (M.getD (a) default)=kk at lc hPk;by_cases hlt:kk<0
  ·have zz:=aI @ii (aI @cr (aI hc.cells hc.one));repeat' (first|refine zW ?_|refine zM ?_|apply a_n|refine zO ?_|refine vZ ?_|refine cZ ?_ (hp:=lc) (hs:=by(first|refine aF ?_ rfl|apply aY);(repeat' (first|exact ak|apply bv|apply a5|exact e1|exact e2|exact bh dcap));first|done|fail)|refine gTZ ?_|(refine zGZ ?_ ?_<;>(intro _hg;try (exfalso;omega)))|fail)
   exact⟨i+1,by omega,⟨hpt.stepUp (by omega) (by rw[hPk];exact hlt),rfl,rfl⟩,ag0⟩
  ·have zz:=aI @ii (aI @cr (aI hc.cells hc.one));repeat' (first|refine zW ?_|refine zM ?_|apply a_n|apply a_x|refine zO ?_|refine vZ ?_|refine cZ ?_ (hp:=lc) (hs:=by(first|refine aF ?_ rfl|apply aY);(repeat' (first|exact ak|apply bv|apply a5|exact e1|exact e2|exact bh dcap));first|done|fail)|refine gTZ ?_|(refine zGZ ?_ ?_<;>(intro _hg;try (exfalso;omega)))|fail)
   exact⟨i,hpt,fun _=>(by rw[hPk];first|exact hlt|exact fun h=>h hlt),rfl,rfl,rfl,rfl,rfl,rfl,rfl⟩
 clear t0 t1 t4 t12 t13 hpt i;rintro T _ _ ⟨i,hpt,hni,t0,t1,t4,t12,t13,rfl,rfl⟩;refine cl (fun T H'' nx''=>∃j:Nat,PartR P a e mu i j M∧(i≤j→¬P (M.getD i default))∧(i≤j→P (M.getD j default))∧T 0=.msl b n 1 0 n∧T 1=.int .i64 a∧T 4=.func g caps∧T 12=.int .i64 (i:Nat)∧T 13=.int .i64 (j:Nat)∧H''=aq H b ((M).map f)∧nx=nx'') ?_ ?_
 ·have zz:=aI @t0 (aI @t1 (aI @t4 (aI @t12 @t13)));repeat' (first|refine zW ?_|apply a_n|refine zO ?_|fail)
  refine bT (X:=Nat) (fun j=>[(0,.msl b n 1 0 n),(1,.int .i64 a),(4,.func g caps),(12,.int .i64 (i:Nat)),(13,.int .i64 (j:Nat))]) (fun j H' nxx=>PartR P a e mu i j M∧(i≤j→¬P (M.getD i default))∧H'=aq H b (M.map f)∧nx=nxx) (fun j=>j) j ⟨hpt,hni,rfl,rfl⟩ (have zz:=aI @t0 (aI @t1 (aI @t4 (aI @t12 @t13)));agZ) ?_;clear zz;clear t0 t1 t4 t12 t13 hpt hni j;rintro j H' nxx ⟨hpt,hni,rfl,rfl⟩;have hlo:=hpt.lo;have hmid:=hpt.mid;have hhi:=hpt.hi;by_cases hij:j<i
  ·repeat' (first|refine zW ?_|refine zM ?_|apply a_n|apply a_x|refine zO ?_|refine vZ ?_|refine gFZ ?_|(refine zGZ ?_ ?_<;>(intro _hg;try (exfalso;omega)))|refine cFZ ?_|fail)
   exact⟨j,hpt,hni,fun h=>absurd h (by omega),rfl,rfl,rfl,rfl,rfl,rfl,rfl⟩
  obtain⟨k,rfl⟩:∃k,j=k+1:=⟨j-1,by omega⟩
  have tk:((k+1:Nat):Int)-1=(k:Int):=by omega
  have lc:=hc.run (M.getD (k+1) default) (M.getD (a) default) (hGM _ (bg (by omega))) (hGM _ (bg (by omega)));have e1:=hc.dat (M.getD (k+1) default);have e2:=hc.dat (M.getD (a) default);have hPk:P (M.getD (k+1) default)↔K (M.getD (k+1) default) (M.getD (a) default)<0:=by rw[hP,hv]
  generalize hKK:K (M.getD (k+1) default) (M.getD (a) default)=kk at lc hPk;by_cases hlt:kk<0
  ·have zz:=aI @tk (aI @cr (aI hc.cells hc.one));repeat' (first|refine zW ?_|refine zM ?_|apply a_n|apply a_x|refine zO ?_|refine vZ ?_|refine cZ ?_ (hp:=lc) (hs:=by(first|refine aF ?_ rfl|apply aY);(repeat' (first|exact ak|apply bv|apply a5|exact e1|exact e2|exact bh dcap));first|done|fail)|refine gTZ ?_|(refine zGZ ?_ ?_<;>(intro _hg;try (exfalso;omega)))|fail)
   exact⟨k+1,hpt,hni,fun _=>(by rw[hPk];exact hlt),rfl,rfl,rfl,rfl,rfl,rfl,rfl⟩
  ·have zz:=aI @tk (aI @cr (aI hc.cells hc.one));repeat' (first|refine zW ?_|refine zM ?_|apply a_n|refine zO ?_|refine vZ ?_|refine cZ ?_ (hp:=lc) (hs:=by(first|refine aF ?_ rfl|apply aY);(repeat' (first|exact ak|apply bv|apply a5|exact e1|exact e2|exact bh dcap));first|done|fail)|refine gTZ ?_|(refine zGZ ?_ ?_<;>(intro _hg;try (exfalso;omega)))|fail)
   exact⟨k,by omega,⟨hpt.stepDn (by omega) (by rw[hPk];first|exact hlt|exact fun h=>h hlt),fun _=>hni (by omega),rfl,rfl⟩,ag0⟩
 clear t0 t1 t4 t12 t13 hpt hni j;rintro T _ _ ⟨j,hpt,hni,hnj,t0,t1,t4,t12,t13,rfl,rfl⟩;have hlo:=hpt.lo;have hmid:=hpt.mid;have hhi:=hpt.hi;by_cases hji:j<i
 ·clear hni hnj;obtain⟨z1,z2,z3,z4⟩:=hpt.done hc.ord (by omega) hji hv hP;obtain⟨M1,hl1,lm1,lm2⟩:=d5 (f:=f) (M:=M) (i:=j) (j:=a) (by omega) (by omega);have lm3:=lm2;simp only[bG,bO,fA,ce] at lm1 lm2;have zz:=aI @t0 (aI @t1 (aI @t4 (aI @t12 (aI @t13 (aI @cr (aI hc.cells (aI hc.one (aI @lm1 @lm2))))))));repeat' (first|refine zW ?_|apply a_n|apply a_r|refine zO ?_|refine vZ ?_|refine stZ ?_|(refine zGZ ?_ ?_<;>(intro _hg;try (exfalso;omega)))|refine bR rfl ?_|refine r2Z ?_|fail)
  exact⟨rfl,swp M j a,j,true,rfl,z1,z2,by rw[ba,ba,lm3],hp.trans (PermR.swap (by omega) (by omega) (by omega)),z3,z4⟩
 obtain⟨k,rfl⟩:∃k,j=k+1:=⟨j-1,by omega⟩
 have tk:((k+1:Nat):Int)-1=(k:Int):=by omega
 have ii:((i:Nat):Int)+1=((i+1:Nat):Int):=by omega
 obtain⟨M1,hl1,lm1,lm2⟩:=d5 (f:=f) (M:=M) (i:=i) (j:=k+1) (by omega) (by omega);have lm3:=lm2;simp only[bG,bO,fA,ce] at lm1 lm2;have zz:=aI @t0 (aI @t1 (aI @t4 (aI @t12 (aI @t13 (aI @tk (aI @ii (aI @cr (aI hc.cells (aI hc.one (aI @lm1 @lm2))))))))));repeat' (first|refine zW ?_|apply a_n|refine zO ?_|refine vZ ?_|refine stZ ?_|(refine zGZ ?_ ?_<;>(intro _hg;try (exfalso;omega)))|fail)
 obtain⟨hq1,hq2⟩:=hpt.swap (by omega) (by omega) (hni (by omega)) (hnj (by omega));have hp2:PermR a e L (swp M i (k+1)):=hp.trans (PermR.swap (by omega) (by omega) (by omega));have hv2:(swp M i (k+1)).getD a default=v:=by rw[sX (by omega) (by omega) (by omega) (by omega)];exact hv
 refine bT (X:=Nat×Nat×List α) (fun x=>[(0,.msl b n 1 0 n),(1,.int .i64 a),(4,.func g caps),(12,.int .i64 (x.1:Nat)),(13,.int .i64 (x.2.1:Nat))]) (fun x H' nxx=>PartR P a e (x.2.1+1-x.1) x.1 x.2.1 x.2.2∧H'=aq H b (x.2.2.map f)∧nx=nxx∧PermR a e L x.2.2∧x.2.2.getD a default=v) (fun x=>x.2.1+1-x.1) (i+1,k,swp M i (k+1)) ⟨hq1,by dsimp only;rw[ba,ba,lm3],rfl,hp2,hv2⟩ (have zz:=aI @t0 (aI @t1 (aI @t4 (aI @t12 @t13)));agZ) ?_;clear zz;clear t0 t1 t4 t12 t13 lm1 lm2 lm3 hl1 M1 hp2 hv2 hq1 hq2 hpt hni hnj hp hv hGM;rintro⟨i,j,M⟩ H' nxx ⟨hpt,rfl,rfl,hp,hv⟩;dsimp only at *;have hl:M.length=n:=by rw[hp.len,hn]
 have hGM:=hp.mem hG;generalize hmu:j+1-i=mu at hpt ⊢;clear hmu;obtain⟨T,hT,t0,t1,t4,t12,t13⟩:∃T,tl [(0,.msl b n 1 0 n),(1,.int .i64 a),(4,.func g caps),(12,.int .i64 (i:Nat)),(13,.int .i64 (j:Nat))]=T∧T 0=.msl b n 1 0 n∧T 1=.int .i64 a∧T 4=.func g caps∧T 12=.int .i64 (i:Nat)∧T 13=.int .i64 (j:Nat):=⟨_,rfl,rfl,rfl,rfl,rfl,rfl⟩
 rw[hT];clear hT;refine kW ?_;refine cl (fun T H'' nx''=>∃i:Nat,PartR P a e mu i j M∧(i≤j→¬P (M.getD i default))∧T 0=.msl b n 1 0 n∧T 1=.int .i64 a∧T 4=.func g caps∧T 12=.int .i64 (i:Nat)∧T 13=.int .i64 (j:Nat)∧H''=aq H b ((M).map f)∧nx=nx'') ?_ ?_
 ·have zz:=aI @t0 (aI @t1 (aI @t4 (aI @t12 @t13)));repeat' (first|refine zW ?_|apply a_n|refine zO ?_|fail)
  refine bT (X:=Nat) (fun i=>[(0,.msl b n 1 0 n),(1,.int .i64 a),(4,.func g caps),(12,.int .i64 (i:Nat)),(13,.int .i64 (j:Nat))]) (fun i H' nxx=>PartR P a e mu i j M∧H'=aq H b (M.map f)∧nx=nxx) (fun i=>j+1-i) i ⟨hpt,rfl,rfl⟩ (have zz:=aI @t0 (aI @t1 (aI @t4 (aI @t12 @t13)));agZ) ?_;clear zz;clear t0 t1 t4 t12 t13 hpt i;rintro i H' nxx ⟨hpt,rfl,rfl⟩;have hlo:=hpt.lo;have hmid:=hpt.mid;have hhi:=hpt.hi;have ii:((i:Nat):Int)+1=((i+1:Nat):Int):=by omega
  by_cases hij:j<i
  ·repeat' (first|refine zW ?_|refine zM ?_|apply a_n|apply a_x|refine zO ?_|refine vZ ?_|refine gFZ ?_|(refine zGZ ?_ ?_<;>(intro _hg;try (exfalso;omega)))|refine cFZ ?_|fail)
   exact⟨i,hpt,fun h=>absurd h (by omega),rfl,rfl,rfl,rfl,rfl,rfl,rfl⟩
  have lc:=hc.run (M.getD (i) default) (M.getD (a) default) (hGM _ (bg (by omega))) (hGM _ (bg (by omega)));have e1:=hc.dat (M.getD (i) default);have e2:=hc.dat (M.getD (a) default);have hPk:P (M.getD (i) default)↔K (M.getD (i) default) (M.getD (a) default)<0:=by rw[hP,hv]
  generalize hKK:K (M.getD (i) default) (M.getD (a) default)=kk at lc hPk;by_cases hlt:kk<0
  ·have zz:=aI @ii (aI @cr (aI hc.cells hc.one));repeat' (first|refine zW ?_|refine zM ?_|apply a_n|refine zO ?_|refine vZ ?_|refine cZ ?_ (hp:=lc) (hs:=by(first|refine aF ?_ rfl|apply aY);(repeat' (first|exact ak|apply bv|apply a5|exact e1|exact e2|exact bh dcap));first|done|fail)|refine gTZ ?_|(refine zGZ ?_ ?_<;>(intro _hg;try (exfalso;omega)))|fail)
   exact⟨i+1,by omega,⟨hpt.stepUp (by omega) (by rw[hPk];exact hlt),rfl,rfl⟩,ag0⟩
  ·have zz:=aI @ii (aI @cr (aI hc.cells hc.one));repeat' (first|refine zW ?_|refine zM ?_|apply a_n|apply a_x|refine zO ?_|refine vZ ?_|refine cZ ?_ (hp:=lc) (hs:=by(first|refine aF ?_ rfl|apply aY);(repeat' (first|exact ak|apply bv|apply a5|exact e1|exact e2|exact bh dcap));first|done|fail)|refine gTZ ?_|(refine zGZ ?_ ?_<;>(intro _hg;try (exfalso;omega)))|fail)
   exact⟨i,hpt,fun _=>(by rw[hPk];first|exact hlt|exact fun h=>h hlt),rfl,rfl,rfl,rfl,rfl,rfl,rfl⟩
 clear t0 t1 t4 t12 t13 hpt i;rintro T _ _ ⟨i,hpt,hni,t0,t1,t4,t12,t13,rfl,rfl⟩;refine cl (fun T H'' nx''=>∃j:Nat,PartR P a e mu i j M∧(i≤j→¬P (M.getD i default))∧(i≤j→P (M.getD j default))∧T 0=.msl b n 1 0 n∧T 1=.int .i64 a∧T 4=.func g caps∧T 12=.int .i64 (i:Nat)∧T 13=.int .i64 (j:Nat)∧H''=aq H b ((M).map f)∧nx=nx'') ?_ ?_
 ·have zz:=aI @t0 (aI @t1 (aI @t4 (aI @t12 @t13)));repeat' (first|refine zW ?_|apply a_n|refine zO ?_|fail)
  refine bT (X:=Nat) (fun j=>[(0,.msl b n 1 0 n),(1,.int .i64 a),(4,.func g caps),(12,.int .i64 (i:Nat)),(13,.int .i64 (j:Nat))]) (fun j H' nxx=>PartR P a e mu i j M∧(i≤j→¬P (M.getD i default))∧H'=aq H b (M.map f)∧nx=nxx) (fun j=>j) j ⟨hpt,hni,rfl,rfl⟩ (have zz:=aI @t0 (aI @t1 (aI @t4 (aI @t12 @t13)));agZ) ?_;clear zz;clear t0 t1 t4 t12 t13 hpt hni j;rintro j H' nxx ⟨hpt,hni,rfl,rfl⟩;have hlo:=hpt.lo;have hmid:=hpt.mid;have hhi:=hpt.hi;by_cases hij:j<i
  ·repeat' (first|refine zW ?_|refine zM ?_|apply a_n|apply a_x|refine zO ?_|refine vZ ?_|refine gFZ ?_|(refine zGZ ?_ ?_<;>(intro _hg;try (exfalso;omega)))|refine cFZ ?_|fail)
   exact⟨j,hpt,hni,fun h=>absurd h (by omega),rfl,rfl,rfl,rfl,rfl,rfl,rfl⟩
  obtain⟨k,rfl⟩:∃k,j=k+1:=⟨j-1,by omega⟩
  have tk:((k+1:Nat):Int)-1=(k:Int):=by omega
  have lc:=hc.run (M.getD (k+1) default) (M.getD (a) default) (hGM _ (bg (by omega))) (hGM _ (bg (by omega)));have e1:=hc.dat (M.getD (k+1) default);have e2:=hc.dat (M.getD (a) default);have hPk:P (M.getD (k+1) default)↔K (M.getD (k+1) default) (M.getD (a) default)<0:=by rw[hP,hv]
  generalize hKK:K (M.getD (k+1) default) (M.getD (a) default)=kk at lc hPk;by_cases hlt:kk<0
  ·have zz:=aI @tk (aI @cr (aI hc.cells hc.one));repeat' (first|refine zW ?_|refine zM ?_|apply a_n|apply a_x|refine zO ?_|refine vZ ?_|refine cZ ?_ (hp:=lc) (hs:=by(first|refine aF ?_ rfl|apply aY);(repeat' (first|exact ak|apply bv|apply a5|exact e1|exact e2|exact bh dcap));first|done|fail)|refine gTZ ?_|(refine zGZ ?_ ?_<;>(intro _hg;try (exfalso;omega)))|fail)
   exact⟨k+1,hpt,hni,fun _=>(by rw[hPk];exact hlt),rfl,rfl,rfl,rfl,rfl,rfl,rfl⟩
  ·have zz:=aI @tk (aI @cr (aI hc.cells hc.one));repeat' (first|refine zW ?_|refine zM ?_|apply a_n|refine zO ?_|refine vZ ?_|refine cZ ?_ (hp:=lc) (hs:=by(first|refine aF ?_ rfl|apply aY);(repeat' (first|exact ak|apply bv|apply a5|exact e1|exact e2|exact bh dcap));first|done|fail)|refine gTZ ?_|(refine zGZ ?_ ?_<;>(intro _hg;try (exfalso;omega)))|fail)
   exact⟨k,by omega,⟨hpt.stepDn (by omega) (by rw[hPk];first|exact hlt|exact fun h=>h hlt),fun _=>hni (by omega),rfl,rfl⟩,ag0⟩
 clear t0 t1 t4 t12 t13 hpt hni j;rintro T _ _ ⟨j,hpt,hni,hnj,t0,t1,t4,t12,t13,rfl,rfl⟩;have hlo:=hpt.lo;have hmid:=hpt.mid;have hhi:=hpt.hi;by_cases hji:j<i
 ·clear hni hnj;obtain⟨z1,z2,z3,z4⟩:=hpt.done hc.ord (by omega) hji hv hP;obtain⟨M1,hl1,lm1,lm2⟩:=d5 (f:=f) (M:=M) (i:=j) (j:=a) (by omega) (by omega);have lm3:=lm2;simp only[bG,bO,fA,ce] at lm1 lm2;have zz:=aI @t0 (aI @t1 (aI @t4 (aI @t12 (aI @t13 (aI @cr (aI hc.cells (aI hc.one (aI @lm1 @lm2))))))));repeat' (first|refine zW ?_|apply a_n|apply a_x|refine zO ?_|refine vZ ?_|refine stZ ?_|(refine zGZ ?_ ?_<;>(intro _hg;try (exfalso;omega)))|refine bR rfl ?_|refine r2Z ?_|fail)
  exact⟨rfl,swp M j a,j,false,rfl,z1,z2,by rw[ba,ba,lm3],hp.trans (PermR.swap (by omega) (by omega) (by omega)),z3,z4⟩
 obtain⟨k,rfl⟩:∃k,j=k+1:=⟨j-1,by omega⟩
 have tk:((k+1:Nat):Int)-1=(k:Int):=by omega
 have ii:((i:Nat):Int)+1=((i+1:Nat):Int):=by omega
 obtain⟨M1,hl1,lm1,lm2⟩:=d5 (f:=f) (M:=M) (i:=i) (j:=k+1) (by omega) (by omega);have lm3:=lm2;simp only[bG,bO,fA,ce] at lm1 lm2;have zz:=aI @t0 (aI @t1 (aI @t4 (aI @t12 (aI @t13 (aI @tk (aI @ii (aI @cr (aI hc.cells (aI hc.one (aI @lm1 @lm2))))))))));repeat' (first|refine zW ?_|apply a_n|refine zO ?_|refine vZ ?_|refine stZ ?_|(refine zGZ ?_ ?_<;>(intro _hg;try (exfalso;omega)))|fail)
 obtain⟨hq1,hq2⟩:=hpt.swap (by omega) (by omega) (hni (by omega)) (hnj (by omega));exact⟨(i+1,k,swp M i (k+1)),hq2,⟨hq1,by dsimp only;rw[ba,ba,lm3],rfl,hp.trans (PermR.swap (by omega) (by omega) (by omega)),by dsimp only;rw[sX (by omega) (by omega) (by omega) (by omega)];exact hv⟩,(have zz:=aI @t0 (aI @t1 (aI @t4 (aI @t12 @t13)));agZ)⟩
end
end Go.Proofs.YtekdaafnjdlenaaGreat
namespace Go.Proofs.YtekdaafnjdlenaaGreat
open Go Go.Abs
def n8(x:Nat):Nat:=if x=0 then 0 else Nat.log2 x+1
def rO:ByteArray:=ByteArray.mk (Array.mk [0,1,2,2,3,3,3,3,4,4,4,4,4,4,4,4,5,5,5,5,5,5,5,5,5,5,5,5,5,5,5,5,6,6,6,6,6,6,6,6,6,6,6,6,6,6,6,6,6,6,6,6,6,6,6,6,6,6,6,6,6,6,6,6,7,7,7,7,7,7,7,7,7,7,7,7,7,7,7,7,7,7,7,7,7,7,7,7,7,7,7,7,7,7,7,7,7,7,7,7,7,7,7,7,7,7,7,7,7,7,7,7,7,7,7,7,7,7,7,7,7,7,7,7,7,7,7,7,8,8,8,8,8,8,8,8,8,8,8,8,8,8,8,8,8,8,8,8,8,8,8,8,8,8,8,8,8,8,8,8,8,8,8,8,8,8,8,8,8,8,8,8,8,8,8,8,8,8,8,8,8,8,8,8,8,8,8,8,8,8,8,8,8,8,8,8,8,8,8,8,8,8,8,8,8,8,8,8,8,8,8,8,8,8,8,8,8,8,8,8,8,8,8,8,8,8,8,8,8,8,8,8,8,8,8,8,8,8,8,8,8,8,8,8,8,8,8,8,8,8,8,8,8,8,8,8])
theorem HC(x:Nat):x<2^n8 x:=by
 unfold n8;split
 ·omega
 ·exact Nat.lt_log2_self
theorem Cd{x:Nat}(h:0<x):2^n8 x≤2*x:=by
 unfold n8;rw[if_neg (by omega),Nat.pow_succ];have:=Nat.log2_self_le (n:=x) (by omega);omega
theorem ze{x:Nat}(hx:x<256):nJ (.str (ByteArray.mk (Array.mk [0,1,2,2,3,3,3,3,4,4,4,4,4,4,4,4,5,5,5,5,5,5,5,5,5,5,5,5,5,5,5,5,6,6,6,6,6,6,6,6,6,6,6,6,6,6,6,6,6,6,6,6,6,6,6,6,6,6,6,6,6,6,6,6,7,7,7,7,7,7,7,7,7,7,7,7,7,7,7,7,7,7,7,7,7,7,7,7,7,7,7,7,7,7,7,7,7,7,7,7,7,7,7,7,7,7,7,7,7,7,7,7,7,7,7,7,7,7,7,7,7,7,7,7,7,7,7,7,8,8,8,8,8,8,8,8,8,8,8,8,8,8,8,8,8,8,8,8,8,8,8,8,8,8,8,8,8,8,8,8,8,8,8,8,8,8,8,8,8,8,8,8,8,8,8,8,8,8,8,8,8,8,8,8,8,8,8,8,8,8,8,8,8,8,8,8,8,8,8,8,8,8,8,8,8,8,8,8,8,8,8,8,8,8,8,8,8,8,8,8,8,8,8,8,8,8,8,8,8,8,8,8,8,8,8,8,8,8,8,8,8,8,8,8,8,8,8,8,8,8,8,8,8,8,8,8]))) (.int .u8 (x:Nat))=some (.int .u8 (n8 x:Nat)):=by
 have h1:rO.size=256:=by decide+kernel
 have h2:∀i:Fin 256,(rO[i.val]?.getD 0).toNat=n8 i.val:=by decide+kernel
 rw[SV2.2.2.2.2.2.2.2.2];have h3:=h2 ⟨x,hx⟩;change (if 0≤(x:Int)∧(x:Int)<rO.size then some (AV.int .u8 (rO[(x:Int).toNat]?.getD 0).toNat) else none)=_;rw[if_pos ⟨by omega,by rw[h1];omega⟩,cr];simp only at h3;rw[h3]
theorem rC{x s k:Nat}(hk:k=n8 (x/2^s))(h:0<x/2^s):x<2^(k+s)∧2^(k+s)≤2*x:=by
 subst hk;have h1:=HC (x/2^s);have h2:=Cd h;have hp:0<2^s:=Nat.pow_pos (by omega);rw[Nat.pow_add];constructor
 ·have:=(Nat.div_lt_iff_lt_mul hp).1 h1;exact this
 ·calc 2^n8 (x/2^s)*2^s≤2*(x/2^s)*2^s:=lI _ h2
    _=2*(x/2^s*2^s):=by rw[Nat.mul_assoc]
    _≤2*x:=Nat.mul_le_mul_left _ (Nat.div_mul_le_self x (2^s))
theorem kM{x:Nat}(hx:x<256):n8 x≤8:=by
 rcases Bc x with e|e
 ·subst e;decide
 ·have h:=Cd e;rcases qg 8 (n8 x) with h1|h1
  ·have:=Nat.pow_le_pow_right (n:=2) (by omega) h1;omega
  ·exact h1
theorem ga{x:Int}(h:0≤x)(h2:x<18446744073709551616):IntKind.wrap .u64 x=x:=by
 simp only[IntKind.bits,IntKind.wrap,IntKind.signed];simp;omega
theorem tC{x:Int}(h:0≤x)(h2:x<256):IntKind.wrap .u8 x=x:=by
 simp only[IntKind.bits,IntKind.wrap,IntKind.signed];simp;omega
def xr(a b:Int):Int:=IntKind.wrap .u64 (BitVec.ofInt 64 a ^^^ BitVec.ofInt 64 b).toNat
def KB(a:Int):Int:=IntKind.wrap .u64 (a*2^13)
def LN(a:Int):Int:=IntKind.wrap .u64 (a*2^17)
def sr7(a:Int):Int:=a.fdiv (2^7)
theorem SX:(∀a b:Int,bq .xor false false (.int .u64 a) (.int .u64 b)=some (.int .u64 (xr a b)))∧(∀a:Int,bq .shl false false (.int .u64 a) (.int .u64 13)=some (.int .u64 (KB a)))∧
    (∀a:Int,bq .shl false false (.int .u64 a) (.int .u64 17)=some (.int .u64 (LN a)))∧(∀a:Int,bq .shr false false (.int .u64 a) (.int .u64 7)=some (.int .u64 (sr7 a))):=
 ⟨fun _ _=>rfl,fun _=>rfl,fun _=>rfl,fun _=>rfl⟩
attribute [irreducible] xr KB LN sr7
attribute [local irreducible] aJ aj bf aX aP aQ aD aS a6 bk Go.Abs.Fn aV Go.Abs.Pure ar aK Yl
theorem Jf{H:Hp}{c nx:Nat}{s:Int}(hcc:H c=some [.int .u64 s]):Abs.Fn Tryz.prog 199 [.ptr c 1 0] H nx fun r H' nx'=>nx'=nx∧∃s':Int,r=.int .u64 s'∧H'=aq H c [.int .u64 s']:=by
 refine fO KP ?_;simp only[K8,aG];have ls:∀x y:AV,bG [x] 0 [y]=[y]:=fun _ _=>rfl;simp only[bG,bO,fA,ce] at ls;refine wnZ (zI4 @hcc @SV3 @SX @ls) ?_;exact⟨rfl,_,rfl,by rw[ba,ba];rfl⟩
set_option maxRecDepth 100000 in
theorem Hx{H:Hp}{nx x:Nat}(hx:0<x)(h2:x<4294967296):Abs.Fn Tryz.prog 175 [.int .u64 x] H nx fun r H' nx'=>nx'=nx∧H'=H∧∃k:Nat,r=.int .i64 k∧x<2^k∧2^k≤2*x:=by
 refine fO H9 ?_;simp only[Ir,aG];generalize hT:AV.str (ByteArray.mk (Array.mk [0,1,2,2,3,3,3,3,4,4,4,4,4,4,4,4,5,5,5,5,5,5,5,5,5,5,5,5,5,5,5,5,6,6,6,6,6,6,6,6,6,6,6,6,6,6,6,6,6,6,6,6,6,6,6,6,6,6,6,6,6,6,6,6,7,7,7,7,7,7,7,7,7,7,7,7,7,7,7,7,7,7,7,7,7,7,7,7,7,7,7,7,7,7,7,7,7,7,7,7,7,7,7,7,7,7,7,7,7,7,7,7,7,7,7,7,7,7,7,7,7,7,7,7,7,7,7,7,8,8,8,8,8,8,8,8,8,8,8,8,8,8,8,8,8,8,8,8,8,8,8,8,8,8,8,8,8,8,8,8,8,8,8,8,8,8,8,8,8,8,8,8,8,8,8,8,8,8,8,8,8,8,8,8,8,8,8,8,8,8,8,8,8,8,8,8,8,8,8,8,8,8,8,8,8,8,8,8,8,8,8,8,8,8,8,8,8,8,8,8,8,8,8,8,8,8,8,8,8,8,8,8,8,8,8,8,8,8,8,8,8,8,8,8,8,8,8,8,8,8,8,8,8,8,8,8]))=tb;have htab:∀x:Nat,x<256→nJ tb (.int .u8 (x:Nat))=some (.int .u8 (n8 x:Nat)):=fun x hx=>by rw[←hT];exact ze hx
 clear hT;have s16:∀z:Nat,bq .shr false false (.int .u64 (z:Nat)) (.int .u64 16)=some (.int .u64 ((z/2^16:Nat):Int)):=fun z=>wo (b:=16) (k:=.u64) (k':=.u64) (by decide);have s8:∀z:Nat,bq .shr false false (.int .u64 (z:Nat)) (.int .u64 8)=some (.int .u64 ((z/2^8:Nat):Int)):=fun z=>wo (b:=8) (k:=.u64) (k':=.u64) (by decide);by_cases h16:65536≤x
 ·obtain⟨y,hy⟩:∃y,x/2^16=y:=⟨_,rfl⟩
  have hy1:0<y:=by omega
  have hy2:y<65536:=by omega
  by_cases h8:256≤y
  ·obtain⟨z,hz⟩:∃z,y/2^8=z:=⟨_,rfl⟩
   have hz1:0<z:=by omega
   have hz2:z<256:=by omega
   have hl:=kM hz2;have w8:IntKind.wrap .u8 (z:Int)=z:=tC (by omega) (by omega);have ht:=htab z hz2;refine wnZ (zI6 @s16 @s8 @hy @hz @w8 @ht) ?_;have e:x/2^24=z:=by rw[←hz,←hy,Nat.div_div_eq_div_mul]
   exact⟨rfl,rfl,n8 z+24,by congr 1;omega,rC (by rw[e]) (by omega)⟩
  ·have hl:=kM (x:=y) (by omega);have w8:IntKind.wrap .u8 (y:Int)=y:=tC (by omega) (by omega);have ht:=htab y (by omega);refine wnZ (zI5 @s16 @s8 @hy @w8 @ht) ?_;exact⟨rfl,rfl,n8 y+16,by congr 1;omega,rC (by rw[hy]) (by omega)⟩
 ·by_cases h8:256≤x
  ·obtain⟨z,hz⟩:∃z,x/2^8=z:=⟨_,rfl⟩
   have hz1:0<z:=by omega
   have hz2:z<256:=by omega
   have hl:=kM hz2;have w8:IntKind.wrap .u8 (z:Int)=z:=tC (by omega) (by omega);have ht:=htab z hz2;refine wnZ (zI5 @s16 @s8 @hz @w8 @ht) ?_;exact⟨rfl,rfl,n8 z+8,by congr 1;omega,rC (by rw[hz]) (by omega)⟩
  ·have hl:=kM (x:=x) (by omega);have w8:IntKind.wrap .u8 (x:Int)=x:=tC (by omega) (by omega);have ht:=htab x (by omega);refine wnZ (aI @w8 @ht) ?_;exact⟨rfl,rfl,n8 x+0,by congr 1;omega,rC (s:=0) (by simp) (by simpa using hx)⟩
theorem FP{H:Hp}{nx x:Nat}(hx:0<x)(h2:x<4294967296):Abs.Fn Tryz.prog 156 [.int .u64 x] H nx fun r H' nx'=>nx'=nx∧H'=H∧∃k:Nat,r=.int .i64 k∧x<2^k∧2^k≤2*x:=by
 refine fO H6 ?_;simp only[IJ,aG];refine wnZ and_self ?_;refine be ev0 ev0 (Hx hx h2) ?_;rintro _ _ _ ⟨rfl,rfl,k,rfl,h3,h4⟩;refine wnZ and_self ?_;exact⟨rfl,rfl,k,rfl,h3,h4⟩
theorem IY{H:Hp}{nx x:Nat}(hx:0<x)(h2:x≤1000000000):Abs.Fn Tryz.prog 198 [.int .i64 x] H nx fun r H' nx'=>nx'=nx∧H'=H∧∃k:Nat,r=.int .u64 ((2^k:Nat):Int)∧x<2^k∧2^k≤2*x:=by
 have w:IntKind.wrap .u64 (x:Int)=x:=ga (by omega) (by omega);refine fO MA ?_;simp only[Li,aG];refine wnZ @w ?_;refine be ev0 (have zz:=@w;evZ) (FP hx (by omega)) ?_;rintro _ _ _ ⟨rfl,rfl,k,rfl,h3,h4⟩
 have hk:k≤62:=by
  rcases qg 62 k with h|h
  ·have:=Nat.pow_le_pow_right (n:=2) (by omega) h;omega
  ·exact h
 have sh:bq .shl false false (.int .u64 1) (.int .i64 (k:Int))=some (.int .u64 ((2^k:Nat):Int)):=by
  have h:=BJ (k:=.u64) (k':=.i64) (a:=1) (b:=k) (tb:=false) (tf:=false) (by show k≤64;omega) (by show 1*2^k<2^63;omega);rw[Nat.one_mul] at h;exact h
 refine wnZ @sh ?_;exact⟨rfl,rfl,k,rfl,h3,h4⟩
end Go.Proofs.YtekdaafnjdlenaaGreat
namespace Go.Proofs.YtekdaafnjdlenaaGreat
open Go Go.Abs
open Nat (reduceEqDiff reduceAdd reduceLeDiff)
theorem Gb{a:Int}{m:Nat}(hm:m<18446744073709551616):∃r:Nat,bq .and false false (.int .u64 a) (.int .u64 (m:Nat))=some (.int .u64 (r:Nat))∧r≤m:=by
 refine⟨(BitVec.ofInt 64 a).toNat &&& m,?_,Nat.and_le_right⟩;show(if (IntKind.u64=IntKind.u64) then eT .and .u64 a m else none)=_;rw[if_pos rfl]
 have h:(BitVec.ofInt 64 a &&& BitVec.ofInt 64 (m:Int)).toNat=(BitVec.ofInt 64 a).toNat &&& m:=by
  rw[BitVec.toNat_and]
  congr 1
  simp[BitVec.toNat_ofInt];omega
 have h2:(BitVec.ofInt 64 a).toNat &&& m≤m:=Nat.and_le_right;show some (AV.int .u64 (IntKind.wrap .u64 ((BitVec.ofInt 64 a &&& BitVec.ofInt 64 (m:Int)).toNat:Int)))=_;rw[h,ga (by omega) (by omega)]
section
variable{α:Type}[Inhabited α]{f:α→AV}{K:α→α→Int}{G:α→Prop}{g:Nat}{caps:List AV}
attribute [local irreducible] aJ aj bf aX aP aQ aD aS a6 bk Go.Abs.Fn aV Go.Abs.Pure ar aK Yl
theorem Ha(hc:Cmp Tryz.prog f K G g caps){L:List α}{H:Hp}{b nx n a e:Nat}(hH:H b=some (L.map f))(hbx:b<nx)(hn:L.length=n)(hae:a+8≤e)(hen:e≤n)(hn2:n≤1000000000):
    Abs.Fn Tryz.prog 168 [.msl b n 1 0 n,.int .i64 a,.int .i64 e,.func g caps] H nx fun r H' nx'=>nx'=nx+1∧∃L',H' b=some (L'.map f)∧(∀i,i<nx→i≠b→H' i=H i)∧PermR a e L L':=by
 obtain⟨l,rfl⟩:∃l,e=a+l:=⟨e-a,by omega⟩
 have te:((a+l:Nat):Int)-(a:Int)=(l:Int):=by omega
 obtain⟨w,hw⟩:∃w,a+l/4*2-1=w:=⟨_,rfl⟩
 have tq:bq .quo false false (.int .i64 (l:Int)) (.int .i64 4)=some (.int .i64 ((l/4:Nat):Int)):=by
  rw[oO (by omega) (by omega) (by omega)]
  congr 2
 have w1:(a:Int)+((l/4:Nat):Int)*2-1=(w:Int):=by omega
 have w2:(a:Int)+((l/4:Nat):Int)*2+1=((w+2:Nat):Int):=by omega
 have hbn:b≠nx:=by omega
 have wl:IntKind.wrap .u64 (l:Int)=l:=ga (by omega) (by omega);refine fO Kr ?_;simp only[Mz,aG];have ls:∀x y:AV,bG [x] 0 [y]=[y]:=fun _ _=>rfl;simp only[bG,bO,fA,ce] at ls;refine wnZ (zI3 @te @wl @ls) ?_;refine be ev0 ev0 (IY (x:=l) (by omega) (by omega)) ?_;rintro _ _ _ ⟨rfl,rfl,k,rfl,hk1,hk2⟩;obtain⟨p,hp⟩:∃p,2^k=p+1:=⟨2^k-1,by omega⟩
 rw[hp] at hk1 hk2 ⊢;refine wnZ (zI3 @te @tq @w1) ?_;have wm:IntKind.wrap .u64 (((p+1:Nat):Int)-1)=(p:Int):=by rw[ga (by omega) (by omega)];omega
 refine bT (X:=Nat×List α) (fun x=>[(0,.msl b n 1 0 n),(1,.int .i64 a),(8,.int .i64 l),(9,.ptr nx 1 0),(10,.int .u64 ((p+1:Nat):Int)),(11,.int .i64 (x.1:Nat))]) (fun x H' nxx=>w≤x.1∧x.1≤w+3∧H' b=some (x.2.map f)∧(∃s,H' nx=some [.int .u64 s])∧(∀i,i<nx→i≠b→H' i=H i)∧nxx=nx+1∧PermR a (a+l) L x.2) (fun x=>w+3-x.1) (w,L) ⟨aO _,by dsimp only;omega,by dsimp only;rw[ac hbn];first|exact hH|(rw[ac hbn];exact hH),⟨_,ag⟩,fun i h1 h2=>by rw[ac (by omega)];first|rfl|exact ac (by omega),rfl,.refl⟩ (by simp (disch:=omega) only[agr,ZG,reduceEqDiff,↓reduceIte,bO,fA,ce,true_and]) ?_;rintro⟨i,M⟩ H1 nxx ⟨h1,h2,hb1,⟨s,hs⟩,hfr,rfl,hp1⟩;dsimp only at *;have hl:M.length=n:=by rw[hp1.len,hn]
 by_cases hi:i=w+3
 ·subst hi;refine wnZ (aI @tq @w2) ?_;exact⟨rfl,M,hb1,hfr,hp1⟩
 have ti:((i:Nat):Int)+1=((i+1:Nat):Int):=by omega
 refine wnZ (aI @tq @w2) ?_;refine be ev0 ev0 (Jf hs) ?_;rintro _ _ _ ⟨rfl,s1,rfl,rfl⟩;obtain⟨r,hr1,hr2⟩:=Gb (a:=s1) (m:=p) (by omega);obtain⟨H2,hH2⟩:∃H2,aq H1 nx [.int .u64 s1]=H2:=⟨_,rfl⟩
 have hb2:H2 b=some (M.map f):=by rw[←hH2,ac hbn];exact hb1
 have hs2:H2 nx=some [.int .u64 s1]:=by rw[←hH2];exact ag
 have hfr2:∀i,i<nx→i≠b→H2 i=H i:=fun i k1 k2=>by rw[←hH2,ac (by omega)];exact hfr i k1 k2
 rw[hH2];clear hH2 hb1 hs hfr
 obtain⟨z,hz,hzl⟩:∃z:Nat,(if l≤r then(r:Int)-l else(r:Int))=(z:Int)∧z<l:=by
  split
  ·exact⟨r-l,by omega,by omega⟩
  ·exact⟨r,rfl,by omega⟩
 obtain⟨M1,hl1,lm1,lm2⟩:=d5 (f:=f) (M:=M) (i:=i) (j:=a+z) (by omega) (by omega);have lm3:=lm2;simp only[bG,bO,fA,ce] at lm1 lm2;by_cases hrl:l≤r
 ·rw[if_pos hrl] at hz;refine wnZ (jY @wm @hr1 @hz @hb2 @ti @gB hc.cells hc.one @lm1 @lm2) ?_;exact⟨(i+1,swp M i (a+z)),by dsimp only;omega,⟨by dsimp only;omega,by dsimp only;omega,by dsimp only;rw[ba,lm3,ag],⟨s1,by rw[ba,ac (Ne.symm hbn)];exact hs2⟩,fun i k1 k2=>by rw[ba,ac k2];exact hfr2 i k1 k2,rfl,hp1.trans (PermR.swap (by omega) (by omega) (by omega))⟩,ag0⟩
 ·rw[if_neg hrl] at hz;have hz':r=z:=by omega
  subst hz';refine wnZ (zI9 @wm @hr1 @hb2 @ti @gB hc.cells hc.one @lm1 @lm2) ?_;exact⟨(i+1,swp M i (a+r)),by dsimp only;omega,⟨by dsimp only;omega,by dsimp only;omega,by dsimp only;rw[ba,lm3,ag],⟨s1,by rw[ba,ac (Ne.symm hbn)];exact hs2⟩,fun i k1 k2=>by rw[ba,ac k2];exact hfr2 i k1 k2,rfl,hp1.trans (PermR.swap (by omega) (by omega) (by omega))⟩,ag0⟩
end
end Go.Proofs.YtekdaafnjdlenaaGreat
namespace Go.Proofs.YtekdaafnjdlenaaGreat
open Go Go.Abs
structure PS(H H1:Hp)(nx n1 b:Nat)(cs:List AV):Prop where
 at_:H1 b=some cs
 fr:∀i,i<nx→i≠b→H1 i=H i
 le:nx≤n1
section
variable{H H1 H2:Hp}{nx n1 n2 b:Nat}{cs cs':List AV}
theorem PS.upd(h:PS H H1 nx n1 b cs):PS H (aq H1 b cs') nx n1 b cs':=⟨ag,fun i k1 k2=>by rw[ac k2];exact h.fr i k1 k2,h.le⟩
theorem PS.new{v:List AV}(hb:b<nx)(h:PS H H1 nx n1 b cs):PS H (aq H1 n1 v) nx (n1+1) b cs:=
 have h1:=h.le
 ⟨by rw[ac (by omega)];exact h.at_,fun i k1 k2=>by rw[ac (by omega)];exact h.fr i k1 k2,by omega⟩
theorem PS.rec_(h:PS H H1 nx n1 b cs)(h1:H2 b=some cs')(h2:∀i,i<n1→i≠b→H2 i=H1 i)(h3:n1≤n2):PS H H2 nx n2 b cs':=
 have h4:=h.le
 ⟨h1,fun i k1 k2=>by rw[h2 i (by omega) k2];exact h.fr i k1 k2,by omega⟩
end
section
variable{α:Type}[Inhabited α]{f:α→AV}{K:α→α→Int}{G:α→Prop}{g:Nat}{caps:List AV}
structure PI{α:Type}[Inhabited α](K:α→α→Int)(a e:Nat)(L:List α)(a1 e1:Nat)(M:List α):Prop where
 lo:a≤a1
 mid:a1≤e1
 hi:e1≤e
 len:e≤L.length
 perm:PermR a e L M
 low:uA K a1 e1 M
 close:∀N,PermR a1 e1 M N→bo K a1 e1 N→bo K a e N
variable{a e a1 e1:Nat}{L M N:List α}
theorem PI.mlen(h:PI K a e L a1 e1 M):e1≤M.length:=by rw[h.perm.len];exact eZ h.hi h.len
theorem PI.start(h1:a≤e)(h2:e≤L.length)(h3:uA K a e L):PI K a e L a e L:=⟨aO _,h1,aO _,h2,.refl,h3,fun _ _ h=>h⟩
theorem PI.swap(h:PI K a e L a1 e1 M)(hp:PermR a1 e1 M N):PI K a e L a1 e1 N:=
 ⟨h.lo,h.mid,h.hi,h.len,h.perm.trans (hp.mono h.lo h.hi),h.low.perm hp h.mid h.mlen,fun N' k1 k2=>h.close N' (hp.trans k1) k2⟩
theorem PI.done(h:PI K a e L a1 e1 M)(hp:PermR a1 e1 M N)(hs:bo K a1 e1 N):PermR a e L N∧bo K a e N:=⟨h.perm.trans (hp.mono h.lo h.hi),h.close N hp hs⟩
theorem PI.equal{v:α}{m:Nat}(hK:Ord K)(h:PI K a e L a1 e1 M)(hp:PermR a1 e1 M N)(hv:¬K (M.getD (a1-1) default) v<0)(ha:0<a1)(hm:a1<m∧m≤e1)(h1:∀p,a1≤p→p<m→¬K v (N.getD p default)<0)(h2:∀q,m≤q→q<e1→K v (N.getD q default)<0):PI K a e L m e1 N:=by
 have hN:=h.swap hp;have hlow:=hN.low;have ho:N.getD (a1-1) default=M.getD (a1-1) default:=hp.out _ (.inl (by omega));refine⟨by have:=h.lo;omega,hm.2,h.hi,h.len,hN.perm,fun q k0 k1 k2=>hK.negtr _ _ _ (h1 (m-1) (by omega) (by omega)) (hK.asym _ _ (h2 q k1 k2)),fun N' k1 k2=>hN.close N' (k1.mono (by omega) (aO _)) (fun p q c1 c2 c3=>?_)⟩;by_cases e1':m≤p
 ·exact k2 p q e1' c2 c3
 ·rw[k1.out p (.inl (by omega))];refine hK.negtr _ _ _ (h1 p c1 (by omega)) ?_;by_cases e2:m≤q
  ·exact hK.asym _ _ (k1.all (p:=fun x=>K v x<0) hm.2 hN.mlen h2 q e2 c3)
  ·rw[k1.out q (.inl (by omega))];exact hK.negtr _ _ _ hv (by rw[←ho];exact hlow q ha (by omega) c3)
theorem bo.glue{m:Nat}(hK:Ord K)(h1:bo K a1 m N)(h2:bo K (m+1) e1 N)(h3:∀p,a1≤p→p<m→¬K (N.getD m default) (N.getD p default)<0)(h4:∀q,m<q→q<e1→¬K (N.getD q default) (N.getD m default)<0):bo K a1 e1 N:=fun p q k1 k2 k3=>by
 by_cases c1:q<m
 ·exact h1 p q k1 k2 c1
 ·by_cases c2:m<p
  ·exact h2 p q c2 k2 k3
  ·by_cases c3:p=m
   ·subst c3;exact h4 q (by omega) k3
   ·by_cases c4:q=m
    ·subst c4;exact h3 p k1 k2
    ·exact hK.negtr _ _ _ (h3 p k1 (by omega)) (h4 q (by omega) k3)
structure TwoS{α:Type}[Inhabited α](K:α→α→Int)(a1 e1 m:Nat)(N:List α):Prop where
 mid:a1≤m∧m<e1
 lt:∀p,a1≤p→p<m→¬K (N.getD m default) (N.getD p default)<0
 ge:∀q,m<q→q<e1→¬K (N.getD q default) (N.getD m default)<0
theorem TwoS.left{m:Nat}{N':List α}(h:TwoS K a1 e1 m N)(hp:PermR a1 m N N')(hl:e1≤N.length):TwoS K a1 e1 m N':=
 have hm:=h.mid
 ⟨hm,by
  rw[hp.out m (.inr (aO _))];exact hp.all (p:=fun x=>¬K (N.getD m default) x<0) hm.1 (by omega) h.lt,fun q k1 k2=>by rw[hp.out m (.inr (aO _)),hp.out q (.inr (by omega))];exact h.ge q k1 k2⟩
theorem TwoS.right{m:Nat}{N':List α}(h:TwoS K a1 e1 m N)(hp:PermR (m+1) e1 N N')(hl:e1≤N.length):TwoS K a1 e1 m N':=
 have hm:=h.mid
 ⟨hm,fun p k1 k2=>by rw [hp.out m (.inl (by omega)),hp.out p (.inl (by omega))]; exact h.lt p k1 k2,by
  rw[hp.out m (.inl (by omega))];exact fun q k1 k2=>hp.all (p:=fun x=>¬K x (N.getD m default)<0) (by omega) hl (fun i c1 c2=>h.ge i (by omega) c2) q (by omega) k2⟩
theorem PI.left{m:Nat}(hK:Ord K)(h:PI K a e L a1 e1 M)(ht:TwoS K a1 e1 m M)(hp:PermR a1 m M N)(hs:bo K a1 m N):PI K a e L (m+1) e1 N:=by
 have hm:=ht.mid;have hN:=h.swap (hp.mono (aO _) (by omega));have htN:=ht.left hp h.mlen;refine⟨by have:=h.lo;omega,by omega,h.hi,h.len,hN.perm,fun q k0 k1 k2=>by rw[ro];exact htN.ge q k1 k2,fun N' k1 k2=>hN.close N' (k1.mono (by omega) (aO _)) ?_⟩;have ht':=htN.right k1 hN.mlen;exact bo.glue hK (fun p q c1 c2 c3=>by rw[k1.out p (.inl (by omega)),k1.out q (.inl (by omega))];exact hs p q c1 c2 c3) k2 ht'.lt ht'.ge
theorem PI.right{m:Nat}(hK:Ord K)(h:PI K a e L a1 e1 M)(ht:TwoS K a1 e1 m M)(hp:PermR (m+1) e1 M N)(hs:bo K (m+1) e1 N):PI K a e L a1 m N:=by
 have hm:=ht.mid;have hN:=h.swap (hp.mono (by omega) (aO _));have htN:=ht.right hp h.mlen;refine⟨h.lo,hm.1,by have:=h.hi;omega,h.len,hN.perm,fun q k0 k1 k2=>hN.low q k0 k1 (by omega),fun N' k1 k2=>hN.close N' (k1.mono (aO _) (by omega)) ?_⟩;have ht':=htN.left k1 hN.mlen;exact bo.glue hK k2 (fun p q c1 c2 c3=>by rw[k1.out p (.inr (by omega)),k1.out q (.inr (by omega))];exact hs p q c1 c2 c3) ht'.lt ht'.ge
theorem uA.sub{a e a' e':Nat}{M:List α}(h:uA K a e M)(ha:a'=a)(he:e'≤e):uA K a' e' M:=fun q k0 k1 k2=>by subst ha;exact h q k0 k1 (by omega)
end
section
variable{α:Type}[Inhabited α]{f:α→AV}{K:α→α→Int}{G:α→Prop}{g:Nat}{caps:List AV}
attribute [local irreducible] aJ aj bf aX aP aQ aD aS a6 bk Go.Abs.Fn aV Go.Abs.Pure ar aK Yl
theorem Mj(hc:Cmp Tryz.prog f K G g caps){b n:Nat}(hn2:n≤1000000000):∀(sz a e lim:Nat)(L:List α)(H:Hp)(nx:Nat),e-a<sz→H b=some (L.map f)→b<nx→L.length=n→(∀x∈L,G x)→a≤e→e≤n→lim≤64→uA K a e L→
    Abs.Fn Tryz.prog 155 [.msl b n 1 0 n,.int .i64 a,.int .i64 e,.int .i64 lim,.func g caps] H nx fun r H' nx'=>∃L',PS H H' nx nx' b (L'.map f)∧PermR a e L L'∧bo K a e L':=by
 intro sz
 induction sz with
 |zero=>intro a e lim L H nx h;omega
 |succ sz ih=>
 intro a e lim L H nx hsz hH hbx hn hG hae hen hlim hlow;have dcap:=hc.dcaps;refine fO Io ?_;simp only[Ja,aG];refine wnZ and_self ?_;refine bT (X:=Nat×Nat×Nat×Bool×Bool×List α) (fun x=>[(0,.msl b n 1 0 n),(1,.int .i64 (x.1:Nat)),(2,.int .i64 (x.2.1:Nat)),(3,.int .i64 (x.2.2.1:Nat)),(4,.func g caps),(10,.bool x.2.2.2.1),(11,.bool x.2.2.2.2.1)]) (fun x H' nxx=>PI K a e L x.1 x.2.1 x.2.2.2.2.2∧PS H H' nx nxx b (x.2.2.2.2.2.map f)∧x.2.2.1≤64) (fun x=>x.2.1-x.1) (a,e,lim,true,true,L) ⟨.start hae (by rw[hn];exact hen) hlow,⟨hH,fun _ _ _=>rfl,aO _⟩,hlim⟩ ag0 ?_;clear hlim hlow lim;rintro⟨a1,e1,lim,wb,wp,M⟩ H1 n1 ⟨hpi,hps,hlim⟩;dsimp only at *;have hlo:=hpi.lo;have hmid:=hpi.mid;have hhi:=hpi.hi;obtain⟨l,hl0⟩:∃l,e1-a1=l:=⟨_,rfl⟩
 rw[hl0];have te:(e1:Int)-(a1:Int)=(l:Int):=by omega
 have hlen:∀M:List α,PI K a e L a1 e1 M→M.length=n:=fun M h=>by rw[h.perm.len,hn]
 have hGA:∀M:List α,PI K a e L a1 e1 M→∀x∈M,G x:=fun M h=>h.perm.mem hG;have hbn:∀(M:List α)(H1:Hp)(n1:Nat),PS H H1 nx n1 b (M.map f)→b<n1:=fun M H1 n1 h=>by have:=h.le;omega
 obtain⟨T,hT,t0,t1,t2,t3,t4,t10,t11⟩:∃T,tl [(0,.msl b n 1 0 n),(1,.int .i64 (a1:Nat)),(2,.int .i64 (e1:Nat)),(3,.int .i64 (lim:Nat)),(4,.func g caps),(10,.bool wb),(11,.bool wp)]=T∧T 0=.msl b n 1 0 n∧T 1=.int .i64 (a1:Nat)∧T 2=.int .i64 (e1:Nat)∧T 3=.int .i64 (lim:Nat)∧T 4=.func g caps∧T 10=.bool wb∧T 11=.bool wp:=⟨_,rfl,rfl,rfl,rfl,rfl,rfl,rfl,rfl⟩
 rw[hT];clear hT;refine kW ?_;refine cl (fun T H'' nx''=>T 0=.msl b n 1 0 n∧T 1=.int .i64 (a1:Nat)∧T 2=.int .i64 (e1:Nat)∧T 3=.int .i64 (lim:Nat)∧T 4=.func g caps∧T 10=.bool wb∧T 11=.bool wp∧T 12=.int .i64 (l:Nat)∧H1=H''∧n1=nx'') ?_ ?_
 ·refine wnZ (zI8 @t0 @t1 @t2 @t3 @t4 @t10 @t11 @te) ?_;exact⟨(have zz:=@t0;evZ),(have zz:=@t1;evZ),(have zz:=@t2;evZ),(have zz:=@t3;evZ),(have zz:=@t4;evZ),(have zz:=@t10;evZ),(have zz:=@t11;evZ),ev0,rfl,rfl⟩
 clear t0 t1 t2 t3 t4 t10 t11;rintro T _ _ ⟨t0,t1,t2,t3,t4,t10,t11,t12,rfl,rfl⟩;refine cl (fun T H'' nx''=>T 0=.msl b n 1 0 n∧T 1=.int .i64 (a1:Nat)∧T 2=.int .i64 (e1:Nat)∧T 3=.int .i64 (lim:Nat)∧T 4=.func g caps∧T 10=.bool wb∧T 11=.bool wp∧T 12=.int .i64 (l:Nat)∧13≤l∧H1=H''∧n1=nx'') ?_ ?_
 ·by_cases h12:l≤12
  ·refine wnZ (zI8 @t0 @t1 @t2 @t3 @t4 @t10 @t11 @t12) ?_;refine be ev0 (have zz:=aI @t0 (aI @t1 (aI @t2 (aI @t3 (aI @t4 (aI @t10 (aI @t11 @t12))))));evZ) (Lx hc (b:=b) hps.at_ (hlen _ hpi) (hGA _ hpi) (a:=a1) (e:=e1) hmid (by omega) hn2) ?_;rintro _ _ _ ⟨rfl,N,rfl,hpN,hsN⟩;refine wnZ and_self ?_;exact⟨N,hps.upd,hpi.done hpN hsN⟩
  ·refine wnZ (zI8 @t0 @t1 @t2 @t3 @t4 @t10 @t11 @t12) ?_;exact⟨(have zz:=@t0;evZ),(have zz:=@t1;evZ),(have zz:=@t2;evZ),(have zz:=@t3;evZ),(have zz:=@t4;evZ),(have zz:=@t10;evZ),(have zz:=@t11;evZ),(have zz:=@t12;evZ),by omega,rfl,rfl⟩
 clear t0 t1 t2 t3 t4 t10 t11 t12;rintro T _ _ ⟨t0,t1,t2,t3,t4,t10,t11,t12,h13,rfl,rfl⟩;refine cl (fun T H'' nx''=>T 0=.msl b n 1 0 n∧T 1=.int .i64 (a1:Nat)∧T 2=.int .i64 (e1:Nat)∧T 3=.int .i64 (lim:Nat)∧T 4=.func g caps∧T 10=.bool wb∧T 11=.bool wp∧T 12=.int .i64 (l:Nat)∧0<lim∧H1=H''∧n1=nx'') ?_ ?_
 ·by_cases h12:lim=0
  ·subst h12;have tz:decide (((0:Nat):Int)=0)=true:=rfl;refine wnZ (zI9 @t0 @t1 @t2 @t3 @t4 @t10 @t11 @t12 @tz) ?_;refine be ev0 (have zz:=aI @t0 (aI @t1 (aI @t2 (aI @t3 (aI @t4 (aI @t10 (aI @t11 @t12))))));evZ) (IR hc (b:=b) hps.at_ (hlen _ hpi) (hGA _ hpi) (a:=a1) (e:=e1) hmid (by omega) hn2) ?_;rintro _ _ _ ⟨rfl,N,rfl,hpN,hsN⟩;refine wnZ and_self ?_;exact⟨N,hps.upd,hpi.done hpN hsN⟩
  ·have tz:decide ((lim:Int)=0)=false:=aU (by omega);refine wnZ (zI9 @t0 @t1 @t2 @t3 @t4 @t10 @t11 @t12 @tz) ?_;exact⟨(have zz:=@t0;evZ),(have zz:=@t1;evZ),(have zz:=@t2;evZ),(have zz:=@t3;evZ),(have zz:=@t4;evZ),(have zz:=@t10;evZ),(have zz:=@t11;evZ),(have zz:=@t12;evZ),by omega,rfl,rfl⟩
 clear t0 t1 t2 t3 t4 t10 t11 t12;rintro T _ _ ⟨t0,t1,t2,t3,t4,t10,t11,t12,hlim1,rfl,rfl⟩;refine cl (fun T H'' nx''=>∃(lim:Nat)(M:List α),lim≤64∧PI K a e L a1 e1 M∧PS H H'' nx nx'' b (M.map f)∧T 0=.msl b n 1 0 n∧T 1=.int .i64 (a1:Nat)∧T 2=.int .i64 (e1:Nat)∧T 3=.int .i64 (lim:Nat)∧T 4=.func g caps∧T 10=.bool wb∧T 11=.bool wp∧T 12=.int .i64 (l:Nat)) ?_ ?_
 ·cases wb
  ·obtain⟨k,rfl⟩:∃k,lim=k+1:=⟨lim-1,by omega⟩
   have tk:((k+1:Nat):Int)-1=(k:Int):=by omega
   refine wnZ (zI8 @t0 @t1 @t2 @t3 @t4 @t10 @t11 @t12) ?_;refine be ev0 (have zz:=aI @t0 (aI @t1 (aI @t2 (aI @t3 (aI @t4 (aI @t10 (aI @t11 @t12))))));evZ) (Ha hc (b:=b) hps.at_ (hbn _ _ _ hps) (hlen _ hpi) (a:=a1) (e:=e1) (by omega) (by omega) hn2) ?_;rintro _ _ _ ⟨rfl,N,hN1,hN2,hpN⟩;refine wnZ (zI9 @t0 @t1 @t2 @t3 @t4 @t10 @t11 @t12 @tk) ?_;exact⟨k,N,by omega,hpi.swap hpN,hps.rec_ hN1 hN2 (Nat.le_succ _),(have zz:=@t0;evZ),(have zz:=@t1;evZ),(have zz:=@t2;evZ),(have zz:=@t3;evZ),(have zz:=@t4;evZ),(have zz:=@t10;evZ),(have zz:=@t11;evZ),(have zz:=@t12;evZ)⟩
  ·refine wnZ (zI8 @t0 @t1 @t2 @t3 @t4 @t10 @t11 @t12) ?_;exact⟨lim,M,hlim,hpi,hps,(have zz:=@t0;evZ),(have zz:=@t1;evZ),(have zz:=@t2;evZ),(have zz:=@t3;evZ),(have zz:=@t4;evZ),(have zz:=@t10;evZ),(have zz:=@t11;evZ),(have zz:=@t12;evZ)⟩
 clear t0 t1 t2 t3 t4 t10 t11 t12 hpi hps hlim hlim1;rintro T H1 n1 ⟨lim,M,hlim,hpi,hps,t0,t1,t2,t3,t4,t10,t11,t12⟩;refine cl (fun T H'' nx''=>∃(p:Nat)(hint:Int),a1≤p∧p<e1∧PS H H'' nx nx'' b (M.map f)∧T 0=.msl b n 1 0 n∧T 1=.int .i64 (a1:Nat)∧T 2=.int .i64 (e1:Nat)∧T 3=.int .i64 (lim:Nat)∧T 4=.func g caps∧T 10=.bool wb∧T 11=.bool wp∧T 12=.int .i64 (l:Nat)∧T 13=.int .i64 (p:Nat)∧T 14=.int .i64 hint) ?_ ?_
 ·refine wnZ (zI8 @t0 @t1 @t2 @t3 @t4 @t10 @t11 @t12) ?_;refine be ev0 (have zz:=aI @t0 (aI @t1 (aI @t2 (aI @t3 (aI @t4 (aI @t10 (aI @t11 @t12))))));evZ) (EL hc (b:=b) hps.at_ (hbn _ _ _ hps) (hlen _ hpi) (hGA _ hpi) (a:=a1) (e:=e1) (by omega) (by omega) hn2) ?_;rintro _ _ _ ⟨rfl,p,hint,v,rfl,hp1,hp2,rfl⟩;refine wnZ (zI8 @t0 @t1 @t2 @t3 @t4 @t10 @t11 @t12) ?_;exact⟨p,hint,hp1,hp2,hps.new hbx,(have zz:=@t0;evZ),(have zz:=@t1;evZ),(have zz:=@t2;evZ),(have zz:=@t3;evZ),(have zz:=@t4;evZ),(have zz:=@t10;evZ),(have zz:=@t11;evZ),(have zz:=@t12;evZ),ev0,ev0⟩
 clear t0 t1 t2 t3 t4 t10 t11 t12 hps;rintro T H1 n1 ⟨p,hint,hp1,hp2,hps,t0,t1,t2,t3,t4,t10,t11,t12,t13,t14⟩;refine cl (fun T H'' nx''=>∃(p:Nat)(hint:Int)(M:List α),a1≤p∧p<e1∧PI K a e L a1 e1 M∧PS H H'' nx nx'' b (M.map f)∧T 0=.msl b n 1 0 n∧T 1=.int .i64 (a1:Nat)∧T 2=.int .i64 (e1:Nat)∧T 3=.int .i64 (lim:Nat)∧T 4=.func g caps∧T 10=.bool wb∧T 11=.bool wp∧T 12=.int .i64 (l:Nat)∧T 13=.int .i64 (p:Nat)∧T 14=.int .i64 hint) ?_ ?_
 ·by_cases h2:hint=2
  ·subst h2;obtain⟨p2,hp3⟩:∃p2,e1-1-(p-a1)=p2:=⟨_,rfl⟩
   have tp:(e1:Int)-1-((p:Int)-(a1:Int))=(p2:Int):=by omega
   have tz:decide ((2:Int)=2)=true:=rfl;refine wnZ (aI @t0 (jY @t1 @t2 @t3 @t4 @t10 @t11 @t12 @t13 @t14 @tz)) ?_;refine be ev0 (have zz:=aI @t0 (aI @t1 (aI @t2 (aI @t3 (aI @t4 (aI @t10 (aI @t11 @t12))))));evZ) (KJ hc (b:=b) hps.at_ (hlen _ hpi) (a:=a1) (e:=e1) (by omega) (by omega) hn2) ?_;rintro _ _ _ ⟨rfl,N,rfl,hpN⟩;refine wnZ (aI @t0 (jY @t1 @t2 @t3 @t4 @t10 @t11 @t12 @t13 @t14 @tp)) ?_;exact⟨p2,1,N,by omega,by omega,hpi.swap hpN,hps.upd,(have zz:=@t0;evZ),(have zz:=@t1;evZ),(have zz:=@t2;evZ),(have zz:=@t3;evZ),(have zz:=@t4;evZ),(have zz:=@t10;evZ),(have zz:=@t11;evZ),(have zz:=@t12;evZ),ev0,ev0⟩
  ·have tz:decide (hint=2)=false:=aU h2;refine wnZ (aI @t0 (jY @t1 @t2 @t3 @t4 @t10 @t11 @t12 @t13 @t14 @tz)) ?_;exact⟨p,hint,M,hp1,hp2,hpi,hps,(have zz:=@t0;evZ),(have zz:=@t1;evZ),(have zz:=@t2;evZ),(have zz:=@t3;evZ),(have zz:=@t4;evZ),(have zz:=@t10;evZ),(have zz:=@t11;evZ),(have zz:=@t12;evZ),(have zz:=@t13;evZ),(have zz:=@t14;evZ)⟩
 clear t0 t1 t2 t3 t4 t10 t11 t12 t13 t14 hps hpi hp1 hp2;rintro T H1 n1 ⟨p,hint,M,hp1,hp2,hpi,hps,t0,t1,t2,t3,t4,t10,t11,t12,t13,t14⟩;refine cl (fun T H'' nx''=>∃(M:List α),PI K a e L a1 e1 M∧PS H H'' nx nx'' b (M.map f)∧T 0=.msl b n 1 0 n∧T 1=.int .i64 (a1:Nat)∧T 2=.int .i64 (e1:Nat)∧T 3=.int .i64 (lim:Nat)∧T 4=.func g caps∧T 10=.bool wb∧T 11=.bool wp∧T 12=.int .i64 (l:Nat)∧T 13=.int .i64 (p:Nat)) ?_ ?_
 ·cases wb
  ·cases wp
   ·refine wnZ (jY @t0 @t1 @t2 @t3 @t4 @t10 @t11 @t12 @t13 @t14) ?_;exact⟨M,hpi,hps,(have zz:=@t0;evZ),(have zz:=@t1;evZ),(have zz:=@t2;evZ),(have zz:=@t3;evZ),(have zz:=@t4;evZ),(have zz:=@t10;evZ),(have zz:=@t11;evZ),(have zz:=@t12;evZ),(have zz:=@t13;evZ)⟩
   ·refine wnZ (jY @t0 @t1 @t2 @t3 @t4 @t10 @t11 @t12 @t13 @t14) ?_;exact⟨M,hpi,hps,(have zz:=@t0;evZ),(have zz:=@t1;evZ),(have zz:=@t2;evZ),(have zz:=@t3;evZ),(have zz:=@t4;evZ),(have zz:=@t10;evZ),(have zz:=@t11;evZ),(have zz:=@t12;evZ),(have zz:=@t13;evZ)⟩
  ·cases wp
   ·refine wnZ (jY @t0 @t1 @t2 @t3 @t4 @t10 @t11 @t12 @t13 @t14) ?_;exact⟨M,hpi,hps,(have zz:=@t0;evZ),(have zz:=@t1;evZ),(have zz:=@t2;evZ),(have zz:=@t3;evZ),(have zz:=@t4;evZ),(have zz:=@t10;evZ),(have zz:=@t11;evZ),(have zz:=@t12;evZ),(have zz:=@t13;evZ)⟩
   ·by_cases h1:hint=1
    ·subst h1;have tz:decide ((1:Int)=1)=true:=rfl;refine wnZ (aI @t0 (jY @t1 @t2 @t3 @t4 @t10 @t11 @t12 @t13 @t14 @tz)) ?_;refine be ev0 (have zz:=aI @t0 (aI @t1 (aI @t2 (aI @t3 (aI @t4 (aI @t10 (aI @t11 @t12))))));evZ) (DF hc (b:=b) hps.at_ (hlen _ hpi) (hGA _ hpi) (a:=a1) (e:=e1) (by omega) (by omega) hn2 hpi.low) ?_;rintro _ _ _ ⟨rfl,N,t,rfl,rfl,hpN,hsN⟩;cases t
     ·refine wnZ (jY @t0 @t1 @t2 @t3 @t4 @t10 @t11 @t12 @t13 @t14) ?_;exact⟨N,hpi.swap hpN,hps.upd,(have zz:=@t0;evZ),(have zz:=@t1;evZ),(have zz:=@t2;evZ),(have zz:=@t3;evZ),(have zz:=@t4;evZ),(have zz:=@t10;evZ),(have zz:=@t11;evZ),(have zz:=@t12;evZ),(have zz:=@t13;evZ)⟩
     ·refine wnZ (jY @t0 @t1 @t2 @t3 @t4 @t10 @t11 @t12 @t13 @t14) ?_;exact⟨N,hps.upd,hpi.done hpN (hsN rfl)⟩
    ·have tz:decide (hint=1)=false:=aU h1;refine wnZ (aI @t0 (jY @t1 @t2 @t3 @t4 @t10 @t11 @t12 @t13 @t14 @tz)) ?_;exact⟨M,hpi,hps,(have zz:=@t0;evZ),(have zz:=@t1;evZ),(have zz:=@t2;evZ),(have zz:=@t3;evZ),(have zz:=@t4;evZ),(have zz:=@t10;evZ),(have zz:=@t11;evZ),(have zz:=@t12;evZ),(have zz:=@t13;evZ)⟩
 clear t0 t1 t2 t3 t4 t10 t11 t12 t13 t14 hps hpi hint;rintro T H1 n1 ⟨M,hpi,hps,t0,t1,t2,t3,t4,t10,t11,t12,t13⟩;have hbb:=hps.at_;have hl:=hlen _ hpi;have hGM:=hGA _ hpi;refine cl (fun T H'' nx''=>T 0=.msl b n 1 0 n∧T 1=.int .i64 (a1:Nat)∧T 2=.int .i64 (e1:Nat)∧T 3=.int .i64 (lim:Nat)∧T 4=.func g caps∧T 10=.bool wb∧T 11=.bool wp∧T 12=.int .i64 (l:Nat)∧T 13=.int .i64 (p:Nat)∧H1=H''∧n1=nx'') ?_ ?_
 ·by_cases ha0:a1=0
  ·have tz:decide ((0:Int)<(a1:Int))=false:=aU (by omega);refine wkZ (jY @t0 @t1 @t2 @t3 @t4 @t10 @t11 @t12 @t13 @tz) ?_;exact⟨(have zz:=@t0;evZ),(have zz:=@t1;evZ),(have zz:=@t2;evZ),(have zz:=@t3;evZ),(have zz:=@t4;evZ),(have zz:=@t10;evZ),(have zz:=@t11;evZ),(have zz:=@t12;evZ),(have zz:=@t13;evZ),rfl,rfl⟩
  have tz:decide ((0:Int)<(a1:Int))=true:=aR (by omega);obtain⟨k,hk⟩:∃k,a1-1=k:=⟨_,rfl⟩
  have tk:(a1:Int)-1=(k:Int):=by omega
  have lc:=hc.run (M.getD k default) (M.getD p default) (hGM _ (bg (by omega))) (hGM _ (bg (by omega)));have d1:=hc.dat (M.getD k default);have d2:=hc.dat (M.getD p default);generalize hKK:K (M.getD k default) (M.getD p default)=kk at lc;by_cases hlt:kk<0
  ·have zz:=aI @t0 (aI @t1 (aI @t2 (aI @t3 (aI @t4 (aI @t10 (aI @t11 (aI @t12 (aI @t13 (aI @tz (aI @tk (aI @hbb (aI @cr (aI hc.cells hc.one)))))))))))));repeat' (first|refine zW ?_|refine zM ?_|apply a_n|refine zO ?_|refine vZ ?_|refine cZ ?_ (hp:=lc) (hs:=by(first|refine aF ?_ rfl|apply aY);(repeat' (first|exact ak|apply bv|apply a5|exact d1|exact d2|exact bh dcap));first|done|fail)|refine gTZ ?_|(refine zGZ ?_ ?_<;>(intro _hg;try (exfalso;omega)))|fail)
   exact⟨(have zz:=@t0;evZ),(have zz:=@t1;evZ),(have zz:=@t2;evZ),(have zz:=@t3;evZ),(have zz:=@t4;evZ),(have zz:=@t10;evZ),(have zz:=@t11;evZ),(have zz:=@t12;evZ),(have zz:=@t13;evZ),rfl,rfl⟩
  ·have zz:=aI @t0 (aI @t1 (aI @t2 (aI @t3 (aI @t4 (aI @t10 (aI @t11 (aI @t12 (aI @t13 (aI @tz (aI @tk (aI @hbb (aI @cr (aI hc.cells hc.one)))))))))))));repeat' (first|refine zW ?_|refine zM ?_|apply a_n|refine zO ?_|refine vZ ?_|refine cZ ?_ (hp:=lc) (hs:=by(first|refine aF ?_ rfl|apply aY);(repeat' (first|exact ak|apply bv|apply a5|exact d1|exact d2|exact bh dcap));first|done|fail)|refine gTZ ?_|(refine zGZ ?_ ?_<;>(intro _hg;try (exfalso;omega)))|fail)
   refine be ev0 (have zz:=aI @t0 (aI @t1 (aI @t2 (aI @t3 (aI @t4 (aI @t10 (aI @t11 (aI @t12 @t13)))))));evZ) (F1 hc (b:=b) hps.at_ (hlen _ hpi) (hGA _ hpi) (a:=a1) (e:=e1) (pv:=p) (by omega) (by omega) hn2 ⟨hp1,hp2⟩) ?_;rintro _ _ _ ⟨rfl,N,m,rfl,hm1,hm2,rfl,hpN,q1,q2⟩;refine wnZ (zI9 @t0 @t1 @t2 @t3 @t4 @t10 @t11 @t12 @t13) ?_;exact⟨(m,e1,lim,wb,wp,N),by dsimp only;omega,⟨hpi.equal hc.ord hpN (by rw[hk,hKK];exact hlt) (by omega) ⟨hm1,hm2⟩ q1 q2,hps.upd,hlim⟩,(have zz:=aI @t0 (aI @t1 (aI @t2 (aI @t3 (aI @t4 (aI @t10 (aI @t11 @t12))))));agZ)⟩
 clear t0 t1 t2 t3 t4 t10 t11 t12 t13;rintro T _ _ ⟨t0,t1,t2,t3,t4,t10,t11,t12,t13,rfl,rfl⟩;refine cl (fun T H'' nx''=>∃(M:List α)(m:Nat)(t:Bool),PI K a e L a1 e1 M∧TwoS K a1 e1 m M∧PS H H'' nx nx'' b (M.map f)∧T 0=.msl b n 1 0 n∧T 1=.int .i64 (a1:Nat)∧T 2=.int .i64 (e1:Nat)∧T 3=.int .i64 (lim:Nat)∧T 4=.func g caps∧T 10=.bool wb∧T 11=.bool wp∧T 12=.int .i64 (l:Nat)∧T 16=.int .i64 (m:Nat)∧T 17=.bool t) ?_ ?_
 ·refine wnZ (zI9 @t0 @t1 @t2 @t3 @t4 @t10 @t11 @t12 @t13) ?_;refine be ev0 (have zz:=aI @t0 (aI @t1 (aI @t2 (aI @t3 (aI @t4 (aI @t10 (aI @t11 (aI @t12 @t13)))))));evZ) (Jr hc (b:=b) hps.at_ (hlen _ hpi) (hGA _ hpi) (a:=a1) (e:=e1) (pv:=p) (by omega) (by omega) hn2 ⟨hp1,hp2⟩) ?_;rintro _ _ _ ⟨rfl,N,m,t,rfl,hm1,hm2,rfl,hpN,q1,q2⟩;refine wnZ (zI9 @t0 @t1 @t2 @t3 @t4 @t10 @t11 @t12 @t13) ?_;exact⟨N,m,t,hpi.swap hpN,⟨⟨hm1,hm2⟩,fun p k1 k2=>hc.ord.asym _ _ (q1 p k1 k2),q2⟩,hps.upd,(have zz:=@t0;evZ),(have zz:=@t1;evZ),(have zz:=@t2;evZ),(have zz:=@t3;evZ),(have zz:=@t4;evZ),(have zz:=@t10;evZ),(have zz:=@t11;evZ),(have zz:=@t12;evZ),ev0,ev0⟩
 clear t0 t1 t2 t3 t4 t10 t11 t12 t13 hbb hl hGM hpi hps hp1 hp2 p;rintro T H1 n1 ⟨M,m,t,hpi,hts,hps,t0,t1,t2,t3,t4,t10,t11,t12,t16,t17⟩;have hm:=hts.mid;have hl:=hlen _ hpi
 have tq:bq .quo false false (.int .i64 (l:Int)) (.int .i64 8)=some (.int .i64 ((l/8:Nat):Int)):=by
  rw[oO (by omega) (by omega) (by omega)]
  congr 2
 have tm:(m:Int)+1=((m+1:Nat):Int):=by omega
 by_cases hlr:(m:Int)-(a1:Int)<(e1:Int)-(m:Int)
 ·have tz:decide ((m:Int)-(a1:Int)<(e1:Int)-(m:Int))=true:=aR hlr;refine wnZ (aI @t0 (aI @t1 (jY @t2 @t3 @t4 @t10 @t11 @t12 @t16 @t17 @tq @tz))) ?_;refine be ev0 (have zz:=aI @t0 (aI @t1 (aI @t2 (aI @t3 (aI @t4 (aI @t10 (aI @t11 (aI @t12 (aI @t16 @t17))))))));evZ) (ih a1 m lim M H1 n1 (by omega) hps.at_ (hbn _ _ _ hps) hl (hGA _ hpi) (by omega) (by omega) hlim (hpi.low.sub rfl (by omega))) ?_;rintro _ H2 n2 ⟨N,hps2,hpN,hsN⟩;refine wnZ (aI @t0 (jY @t1 @t2 @t3 @t4 @t10 @t11 @t12 @t16 @t17 @tm)) ?_;exact⟨(m+1,e1,lim,decide (((l/8:Nat):Int)≤(m:Int)-(a1:Int)),t,N),by dsimp only;omega,⟨hpi.left hc.ord hts hpN hsN,hps.rec_ hps2.at_ hps2.fr hps2.le,hlim⟩,(have zz:=aI @t0 (aI @t1 (aI @t2 (aI @t3 (aI @t4 (aI @t10 (aI @t11 (aI @t12 (aI @t16 @t17))))))));agZ)⟩
 ·have tz:decide ((m:Int)-(a1:Int)<(e1:Int)-(m:Int))=false:=aU hlr;refine wnZ (aI @t0 (aI @t1 (aI @t2 (jY @t3 @t4 @t10 @t11 @t12 @t16 @t17 @tq @tz @tm)))) ?_;refine be ev0 (have zz:=aI @t0 (aI @t1 (aI @t2 (aI @t3 (aI @t4 (aI @t10 (aI @t11 (aI @t12 (aI @t16 @t17))))))));evZ) (ih (m+1) e1 lim M H1 n1 (by omega) hps.at_ (hbn _ _ _ hps) hl (hGA _ hpi) (by omega) (by omega) hlim (fun q k0 k1 k2=>by rw[ro];exact hts.ge q k1 k2)) ?_;rintro _ H2 n2 ⟨N,hps2,hpN,hsN⟩;refine wnZ (jY @t0 @t1 @t2 @t3 @t4 @t10 @t11 @t12 @t16 @t17) ?_;exact⟨(a1,m,lim,decide (((l/8:Nat):Int)≤(e1:Int)-(m:Int)),t,N),by dsimp only;omega,⟨hpi.right hc.ord hts hpN hsN,hps.rec_ hps2.at_ hps2.fr hps2.le,hlim⟩,(have zz:=aI @t0 (aI @t1 (aI @t2 (aI @t3 (aI @t4 (aI @t10 (aI @t11 (aI @t12 (aI @t16 @t17))))))));agZ)⟩
end
end Go.Proofs.YtekdaafnjdlenaaGreat
namespace Go.Proofs.YtekdaafnjdlenaaGreat
open Go Go.Abs
open Nat (reduceEqDiff reduceAdd reduceLeDiff)
section
variable{α:Type}[Inhabited α]{f:α→AV}{K:α→α→Int}{G:α→Prop}{g:Nat}{caps:List AV}
attribute [local irreducible] aJ aj bf aX aP aQ aD aS a6 bk Go.Abs.Fn aV Go.Abs.Pure ar aK Yl
set_option maxRecDepth 100000 in
theorem GJ{H:Hp}{nx:Nat}:Abs.Fn Tryz.prog 175 [.int .u64 0] H nx fun r H' nx'=>nx'=nx∧H'=H∧r=.int .i64 0:=by
 refine fO H9 ?_;simp only[Ir,aG];generalize hT:AV.str (ByteArray.mk (Array.mk [0,1,2,2,3,3,3,3,4,4,4,4,4,4,4,4,5,5,5,5,5,5,5,5,5,5,5,5,5,5,5,5,6,6,6,6,6,6,6,6,6,6,6,6,6,6,6,6,6,6,6,6,6,6,6,6,6,6,6,6,6,6,6,6,7,7,7,7,7,7,7,7,7,7,7,7,7,7,7,7,7,7,7,7,7,7,7,7,7,7,7,7,7,7,7,7,7,7,7,7,7,7,7,7,7,7,7,7,7,7,7,7,7,7,7,7,7,7,7,7,7,7,7,7,7,7,7,7,8,8,8,8,8,8,8,8,8,8,8,8,8,8,8,8,8,8,8,8,8,8,8,8,8,8,8,8,8,8,8,8,8,8,8,8,8,8,8,8,8,8,8,8,8,8,8,8,8,8,8,8,8,8,8,8,8,8,8,8,8,8,8,8,8,8,8,8,8,8,8,8,8,8,8,8,8,8,8,8,8,8,8,8,8,8,8,8,8,8,8,8,8,8,8,8,8,8,8,8,8,8,8,8,8,8,8,8,8,8,8,8,8,8,8,8,8,8,8,8,8,8,8,8,8,8,8,8]))=tb;have ht:nJ tb (.int .u8 0)=some (.int .u8 0):=by rw[←hT];exact ze (x:=0) (by decide)
 clear hT;have w8:IntKind.wrap .u8 0=0:=by decide
 refine wnZ (aI @w8 @ht) ?_;exact⟨rfl,rfl,by congr 1⟩
theorem JY{H:Hp}{nx:Nat}:Abs.Fn Tryz.prog 156 [.int .u64 0] H nx fun r H' nx'=>nx'=nx∧H'=H∧r=.int .i64 0:=by
 refine fO H6 ?_;simp only[IJ,aG];refine wnZ and_self ?_;refine be ev0 ev0 GJ ?_;rintro _ _ _ ⟨rfl,rfl,rfl⟩;refine wnZ and_self ?_;exact⟨rfl,rfl,rfl⟩
theorem Bv(hc:Cmp Tryz.prog f K G g caps){L:List α}{H:Hp}{b nx n:Nat}(hH:H b=some (L.map f))(hbx:b<nx)(hn:L.length=n)(hn0:0<n)(hG:∀x∈L,G x)(hn2:n≤1000000000):
    Abs.Fn Tryz.prog 130 [.msl b n 1 0 n,.func g caps] H nx fun r H' nx'=>∃L',PS H H' nx nx' b (L'.map f)∧L'.Perm L∧bo K 0 n L':=by
 refine fO Ig ?_;simp only[I2,aG];have w:IntKind.wrap .u64 (n:Int)=n:=ga (by omega) (by omega);refine wnZ @w ?_;refine be ev0 (have zz:=@w;evZ) (FP hn0 (by omega)) ?_;rintro _ _ _ ⟨rfl,rfl,k,rfl,h3,h4⟩
 have hk:k≤62:=by
  rcases qg 62 k with h|h
  ·have:=Nat.pow_le_pow_right (n:=2) (by omega) h;omega
  ·exact h
 refine wnZ and_self ?_;refine be ev0 (have zz:=@Int.natCast_zero;evZ) (Mj hc hn2 (n+1) 0 n k L _ _ (by omega) hH hbx hn hG (by omega) (aO _) (by omega) (fun q h=>by omega)) ?_;rintro _ _ _ ⟨N,hps,hp,hs⟩;refine wnZ and_self ?_;exact⟨N,hps,hp.perm,hs⟩
end
end Go.Proofs.YtekdaafnjdlenaaGreat
namespace Go.Proofs.YtekdaafnjdlenaaGreat
open Go Go.Abs
def _root_.List.c2{α:Type}(l:List α)(f:α→AV):List AV:=l.flatMap fun x=>(f x).cells
structure Cmp2{α:Type}(P:Program)(f:α→AV)(K:α→α→Int)(G:α→Prop)(g:Nat)(caps:List AV):Prop where
 len:∀x,(f x).cells.length=2
 agg:∀x,AV.agg (f x).cells=f x
 ones:∀x,AV.ones (f x).cells=true
 dat:∀x,Dat (f x)
 dcaps:∀x∈caps,Dat x
 run:∀x y,G x→G y→Go.Abs.Pure P g (f x::f y::caps) (.int .i64 (K x y))
 ord:Ord K
section
variable{α:Type}{f:α→AV}(h:∀x,(f x).cells.length=2)
include h
end
section
variable{α:Type}[Inhabited α]{f:α→AV}{K:α→α→Int}{G:α→Prop}{g:Nat}{caps:List AV}
attribute [local irreducible] aJ aj bf aX aP aQ aD aS a6 bk Go.Abs.Fn aV Go.Abs.Pure ar aK Yl
end
end Go.Proofs.YtekdaafnjdlenaaGreat
namespace Go.Proofs.YtekdaafnjdlenaaGreat
open Go Go.Abs
section
variable{α:Type}[Inhabited α]{f:α→AV}{K:α→α→Int}{G:α→Prop}{g:Nat}{caps:List AV}
attribute [local irreducible] aJ aj bf aX aP aQ aD aS a6 bk Go.Abs.Fn aV Go.Abs.Pure ar aK Yl
end
end Go.Proofs.YtekdaafnjdlenaaGreat
namespace Go.Proofs.YtekdaafnjdlenaaGreat
open Go Go.Abs
open Nat (reduceEqDiff reduceAdd reduceLeDiff)
section
variable{α:Type}[Inhabited α]{f:α→AV}{K:α→α→Int}{G:α→Prop}{g:Nat}{caps:List AV}
attribute [local irreducible] aJ aj bf aX aP aQ aD aS a6 bk Go.Abs.Fn aV Go.Abs.Pure ar aK Yl
end
end Go.Proofs.YtekdaafnjdlenaaGreat
namespace Go.Proofs.YtekdaafnjdlenaaGreat
open Go Go.Abs
section
variable{α:Type}[Inhabited α]{f:α→AV}{K:α→α→Int}{G:α→Prop}{g:Nat}{caps:List AV}
attribute [local irreducible] aJ aj bf aX aP aQ aD aS a6 bk Go.Abs.Fn aV Go.Abs.Pure ar aK Yl
end
end Go.Proofs.YtekdaafnjdlenaaGreat
namespace Go.Proofs.YtekdaafnjdlenaaGreat
open Go Go.Abs
section
variable{α:Type}[Inhabited α]{f:α→AV}{K:α→α→Int}{G:α→Prop}{g:Nat}{caps:List AV}
attribute [local irreducible] aJ aj bf aX aP aQ aD aS a6 bk Go.Abs.Fn aV Go.Abs.Pure ar aK Yl
end
end Go.Proofs.YtekdaafnjdlenaaGreat
namespace Go.Proofs.YtekdaafnjdlenaaGreat
open Go Go.Abs
section
variable{α:Type}[Inhabited α]{f:α→AV}{K:α→α→Int}{G:α→Prop}{g:Nat}{caps:List AV}
attribute [local irreducible] aJ aj bf aX aP aQ aD aS a6 bk Go.Abs.Fn aV Go.Abs.Pure ar aK Yl
end
end Go.Proofs.YtekdaafnjdlenaaGreat
namespace Go.Proofs.YtekdaafnjdlenaaGreat
open Go Go.Abs
section
variable{α:Type}[Inhabited α]{f:α→AV}{K:α→α→Int}{G:α→Prop}{g:Nat}{caps:List AV}
attribute [local irreducible] aJ aj bf aX aP aQ aD aS a6 bk Go.Abs.Fn aV Go.Abs.Pure ar aK Yl
end
end Go.Proofs.YtekdaafnjdlenaaGreat
namespace Go.Proofs.YtekdaafnjdlenaaGreat
open Go Go.Abs
open Nat (reduceEqDiff reduceAdd reduceLeDiff)
section
variable{α:Type}[Inhabited α]{f:α→AV}{K:α→α→Int}{G:α→Prop}{g:Nat}{caps:List AV}
attribute [local irreducible] aJ aj bf aX aP aQ aD aS a6 bk Go.Abs.Fn aV Go.Abs.Pure ar aK Yl
end
end Go.Proofs.YtekdaafnjdlenaaGreat
namespace Go.Proofs.YtekdaafnjdlenaaGreat
open Go Go.Abs
section
variable{α:Type}[Inhabited α]{f:α→AV}{K:α→α→Int}{G:α→Prop}{g:Nat}{caps:List AV}
attribute [local irreducible] aJ aj bf aX aP aQ aD aS a6 bk Go.Abs.Fn aV Go.Abs.Pure ar aK Yl
end
end Go.Proofs.YtekdaafnjdlenaaGreat
namespace Go.Proofs.YtekdaafnjdlenaaGreat
open Go Go.Abs
open Nat (reduceEqDiff reduceAdd reduceLeDiff)
section
variable{α:Type}[Inhabited α]{f:α→AV}{K:α→α→Int}{G:α→Prop}{g:Nat}{caps:List AV}
attribute [local irreducible] aJ aj bf aX aP aQ aD aS a6 bk Go.Abs.Fn aV Go.Abs.Pure ar aK Yl
end
end Go.Proofs.YtekdaafnjdlenaaGreat
namespace Go.Proofs.YtekdaafnjdlenaaGreat
open Go Go.Abs
open Nat (reduceEqDiff reduceAdd reduceLeDiff)
theorem Aq{B n len k:Nat}(h:k≤len)(hn:n≠0):jH 2 (.msl B n 2 0 len) none (some (.int .i64 k)) none=some (.msl B n 2 0 k):=by
 simp only[jH,bJ,Int.natCast_nonneg,if_true,cr];rw[if_pos ⟨trivial,by omega,h,hn⟩,if_pos (.inl trivial),xC,Nat.sub_zero]
theorem Cs{H:Hp}{B:Nat}{cs:List AV}(hH:H B=some cs):H=aq H B cs:=by
 funext b
 by_cases e:b=B
 ·subst e;rw[ag];exact hH
 ·rw[ac e]
attribute [local irreducible] aJ aj bf aX aP aQ aD aS a6 bk Go.Abs.Fn aV Go.Abs.Pure ar aK Yl
end Go.Proofs.YtekdaafnjdlenaaGreat
namespace Go.Proofs.YtekdaafnjdlenaaGreat
open Go Go.Abs
theorem IA(a b:Vtx):o9 (.st [.int,.int]) (dA a) (dA b)=some (decide (a=b)):=by
 show dy [.int,.int] [.int .i64 a.color,.int .i64 a.label] [.int .i64 b.color,.int .i64 b.label]=_;rw[A8,xF]
theorem D0(v:Vtx)(ks:List Vtx):c9 (.st [.int,.int]) (dA v) (ks.map dA)=some (if v∈ks then some (ks.idxOf v) else none):=mU _ dA IA v ks
theorem EI(v:Vtx):jm (.st [.int,.int]) (dA v)=true:=rfl
def ni(l:List Spx)(i:Nat)(v:Vtx):List Nat:=(List.range i).filter fun k=>decide (v∈l.getD k default)
def oU(l:List Spx)(i j:Nat)(v:Vtx):List Nat:=ni l i v++if v∈(l.getD i default).take j then [i] else []
theorem Cp{l:List Spx}{i:Nat}{v:Vtx}:ni l (i+1) v=oU l i (l.getD i default).length v:=by
 unfold ni oU;rw[List.range_succ,wg,List.take_length]
 congr 1
 by_cases h:v∈l.getD i default
 ·rw[if_pos h];simp only[List.filter,h,decide_true]
 ·rw[if_neg h];simp only[List.filter,h,decide_false]
theorem CU{l:List Spx}{i:Nat}{v:Vtx}:oU l i 0 v=ni l i v:=by unfold oU;simp
theorem DH{l:List Spx}{i j:Nat}{v:Vtx}(hj:j<(l.getD i default).length)(ha:b8 cC (l.getD i default)):oU l i (j+1) v=if v=(l.getD i default).getD j default then oU l i j v++[i] else oU l i j v:=by
 unfold oU;generalize l.getD i default=s at *;rw[b5 hj];by_cases h:v=s.getD j default
 ·have hn:v∉s.take j:=fun hm=>by
    obtain⟨k,hk,e⟩:=jp hm;rw[f0] at hk;rw[List.getElem_take] at e;have:=eG ha (i:=k) (j:=j) (by omega) hj;rw[←h,←e] at this;have e2:s.getD k default=s[k]:=by simp[List.getD,show k<s.length by omega]
    rw[e2] at this;exact zS.ord.irr _ this
  rw[if_pos h,if_neg hn,if_pos (by rw[eD,h];simp)];simp
 ·rw[if_neg h]
  congr 1
  have e:v∈s.take j++[s.getD j default]↔v∈s.take j:=by rw[eD,de];exact⟨fun h'=>h'.resolve_right h,.inl⟩
  by_cases h2:v∈s.take j
  ·rw[if_pos (e.2 h2),if_pos h2]
  ·rw[if_neg (fun h=>h2 (e.1 h)),if_neg h2]
def sx(i:Nat):AV:=.int .i64 (i:Int)
structure IncOk(H:Hp)(b lo hi:Nat)(F:Vtx→List Nat)(ks:List Vtx)(vs:List AV):Prop where
 box:H b=some [.omap (ks.map dA) vs]
 len:vs.length=ks.length
 nodup:ks.Nodup
 dom:∀v,v∈ks↔F v≠[]
 row:∀j,j<ks.length→Row H 1 (vs.getD j .undef) ((F (ks.getD j default)).map sx)
 bnd:∀j B,j<ks.length→bF (vs.getD j .undef)=some B→lo≤B∧B<hi∧B≠b
 apart:∀i j B,i<ks.length→j<ks.length→i≠j→bF (vs.getD i .undef)=some B→bF (vs.getD j .undef)≠some B
 lt:b<hi
theorem qu{l:List AV}{i j:Nat}{x:AV}(h:i<l.length):(l.set i x).getD j .undef=if i=j then x else l.getD j .undef:=by
 simp only[List.getD,List.getElem?_set];split
 ·rename_i e;subst e;simp[h]
 ·rfl
theorem ya{α:Type}{l m:List α}{j:Nat}{d:α}(h:j<l.length):(l++m).getD j d=l.getD j d:=by
 simp[List.getD,gv h]
theorem vw{α:Type}{l:List α}{x d:α}:(l++[x]).getD l.length d=x:=by simp[List.getD]
theorem wY{l:List Vtx}{v:Vtx}(h:v∈l):l.idxOf v<l.length∧l.getD (l.idxOf v) default=v:=by
 have h1:=pC.2 h;exact⟨h1,by simp[List.getD,h1]⟩
theorem Dc{l:List Vtx}(h:l.Nodup){i j:Nat}(hi:i<l.length)(hj:j<l.length)(e:l.getD i default=l.getD j default):i=j:=by
 have hp:=kJ.1 (List.nodup_iff_pairwise_ne.1 h);rw[show l.getD i default=l[i] by simp[List.getD,hi],show l.getD j default=l[j] by simp[List.getD,hj]] at e;rcases sK i j with c|c|c
 ·exact absurd e (hp i j hi hj c)
 ·exact c
 ·exact absurd e.symm (hp j i hj hi c)
theorem IncOk.same{H H':Hp}{b lo hi hi':Nat}{F:Vtx→List Nat}{ks:List Vtx}{vs:List AV}(h:IncOk H b lo hi F ks vs)(hb:H' b=H b)(hs:∀x,lo≤x→x<hi→x≠b→H' x=H x)(hh:hi≤hi'):IncOk H' b lo hi' F ks vs:=
 ⟨hb.trans h.box,h.len,h.nodup,h.dom,fun j hj=>(h.row j hj).same fun B hB=>by have:=h.bnd j B hj hB;exact hs B this.1 this.2.1 this.2.2,fun j B hj hB=>by have:=h.bnd j B hj hB;exact⟨this.1,by omega,this.2.2⟩,h.apart,by have:=h.lt;omega⟩
theorem IncOk.put{H H':Hp}{b lo hi hi' i:Nat}{F G:Vtx→List Nat}{ks:List Vtx}{vs:List AV}{w:Vtx}{sv:AV}(h:IncOk H b lo hi F ks vs)(hw:w∈ks)(hG:∀v,G v=if v=w then F v++[i] else F v)(hrow:Row H' 1 sv ((F w++[i]).map sx))(hB:∀B,bF sv=some B→bF (vs.getD (ks.idxOf w) .undef)=some B∨hi≤B∧B<hi'∧B≠b)(hb:H' b=some [.omap (ks.map dA) (vs.set (ks.idxOf w) sv)])
    (hs:∀x,lo≤x→x<hi→x≠b→bF (vs.getD (ks.idxOf w) .undef)≠some x→H' x=H x) (hh:hi≤hi') (hlo:lo≤hi):IncOk H' b lo hi' G ks (vs.set (ks.idxOf w) sv):=by
 obtain⟨k1,k2⟩:=wY hw;have hl:=h.len;have hg:∀j,(vs.set (ks.idxOf w) sv).getD j .undef=if ks.idxOf w=j then sv else vs.getD j .undef:=fun j=>qu (by omega)
 have hne:∀j,j<ks.length→ks.idxOf w≠j→ks.getD j default≠w:=fun j hj hn e=>hn (Dc h.nodup k1 hj (by rw[k2,e]));refine⟨hb,by simp[hl],h.nodup,fun v=>?_,fun j hj=>?_,fun j B hj=>?_,fun p q B hp hq hpq=>?_,by have:=h.lt;omega⟩
 ·rw[hG,h.dom];by_cases e:v=w
  ·subst e;rw[if_pos rfl];exact⟨fun _=>by simp,fun _=>(h.dom v).1 hw⟩
  ·rw[if_neg e]
 ·rw[hg,hG];by_cases e:ks.idxOf w=j
  ·rw[if_pos e,if_pos (by rw[←e];exact k2),←e,k2];exact hrow
  ·rw[if_neg e,if_neg (hne j hj e)]
   exact(h.row j hj).same fun B hB'=>by
    have:=h.bnd j B hj hB';exact hs B this.1 this.2.1 this.2.2 fun h'=>h.apart (ks.idxOf w) j B k1 hj e h' hB'
 ·rw[hg];by_cases e:ks.idxOf w=j
  ·rw[if_pos e];intro hB';rcases hB B hB' with h'|h'
   ·have:=h.bnd _ B k1 h';exact⟨this.1,by omega,this.2.2⟩
   ·exact⟨by omega,h'.2⟩
  ·rw[if_neg e];intro hB';have:=h.bnd j B hj hB';exact⟨this.1,by omega,this.2.2⟩
 ·rw[hg,hg];by_cases e1:ks.idxOf w=p
  ·rw[if_pos e1,if_neg (by omega)];intro h1 h2;rcases hB B h1 with h'|h'
   ·exact h.apart (ks.idxOf w) q B k1 hq (by omega) h' h2
   ·have:=h.bnd q B hq h2;omega
  ·rw[if_neg e1];by_cases e2:ks.idxOf w=q
   ·rw[if_pos e2];intro h1 h2;rcases hB B h2 with h'|h'
    ·exact h.apart p (ks.idxOf w) B hp k1 (by omega) h1 h'
    ·have:=h.bnd p B hp h1;omega
   ·rw[if_neg e2];exact h.apart p q B hp hq hpq
theorem IncOk.new{H H':Hp}{b lo hi hi' i:Nat}{F G:Vtx→List Nat}{ks:List Vtx}{vs:List AV}{w:Vtx}{sv:AV}(h:IncOk H b lo hi F ks vs)(hw:w∉ks)(hG:∀v,G v=if v=w then F v++[i] else F v)(hrow:Row H' 1 sv ([i].map sx))(hB:∀B,bF sv=some B→hi≤B∧B<hi'∧B≠b)(hb:H' b=some [.omap ((ks++[w]).map dA) (vs++[sv])])
    (hs:∀x,lo≤x→x<hi→x≠b→H' x=H x) (hh:hi≤hi') (hlo:lo≤hi):IncOk H' b lo hi' G (ks++[w]) (vs++[sv]):=by
 have hl:=h.len
 have hF:F w=[]:=by
  cases hf:F w with
  |nil=>rfl
  |cons a r=>exact absurd ((h.dom w).2 (by rw[hf];simp)) hw
 have g1:∀j,j<ks.length→(ks++[w]).getD j default=ks.getD j default∧(vs++[sv]).getD j .undef=vs.getD j .undef:=fun j hj=>⟨ya hj,ya (by omega)⟩
 have g2:(ks++[w]).getD ks.length default=w∧(vs++[sv]).getD ks.length .undef=sv:=⟨vw,by rw[←hl];exact vw⟩
 refine⟨hb,by simp[hl],?_,fun v=>?_,fun j hj=>?_,fun j B hj=>?_,fun p q B hp hq hpq=>?_,by have:=h.lt;omega⟩
 ·rw[yu];exact⟨h.nodup,by simp,fun a ha c hc e=>by rw[de] at hc;exact hw (by rw[←hc,←e];exact ha)⟩
 ·rw[hG,eD,de];by_cases e:v=w
  ·subst e;rw[if_pos rfl];simp
  ·rw[if_neg e,←h.dom];simp[e]
 ·rw[cS,List.length_singleton] at hj;by_cases e:j=ks.length
  ·subst e;rw[g2.1,g2.2,hG,if_pos rfl,hF];exact hrow
  ·obtain⟨e1,e2⟩:=g1 j (by omega);have hne:ks.getD j default≠w:=fun e'=>hw (e'▸az (by omega));rw[e1,e2,hG,if_neg hne];exact(h.row j (by omega)).same fun B hB'=>by have:=h.bnd j B (by omega) hB';exact hs B this.1 this.2.1 this.2.2
 ·rw[cS,List.length_singleton] at hj;by_cases e:j=ks.length
  ·subst e;rw[g2.2];intro hB';have:=hB B hB';exact⟨by omega,this.2⟩
  ·rw[(g1 j (by omega)).2];intro hB';have:=h.bnd j B (by omega) hB';exact⟨this.1,by omega,this.2.2⟩
 ·rw[cS,List.length_singleton] at hp hq;by_cases e1:p=ks.length
  ·subst e1;rw[g2.2,(g1 q (by omega)).2];intro h1 h2;have:=hB B h1;have:=h.bnd q B (by omega) h2;omega
  ·rw[(g1 p (by omega)).2];by_cases e2:q=ks.length
   ·subst e2;rw[g2.2];intro h1 h2;have:=hB B h2;have:=h.bnd p B (by omega) h1;omega
   ·rw[(g1 q (by omega)).2];exact h.apart p q B (by omega) (by omega) hpq
theorem fv{H:Hp}{d:Nat}{x:AV}:er 1 (aq H d [x]) (.msl d 1 1 0 1)=some (1,[x]):=fi (n:=1) (len:=1) (off:=0) (cs:=[x]) ag rfl (by simp)
theorem xG{l:List Spx}{i:Nat}{v:Vtx}:(ni l i v).length≤i:=by
 unfold ni;have:=List.length_filter_le (fun k=>decide (v∈l.getD k default)) (List.range i)
 rwa [List.length_range] at this
theorem FQ{l:List Spx}{i j:Nat}{v:Vtx}:(oU l i j v).length≤i+1:=by
 unfold oU;have:=xG (l:=l) (i:=i) (v:=v);rw[cS];split<;>simp <;>omega
attribute [local irreducible] aJ aj bf aX aP aQ aD aS a6 bk Go.Abs.Fn aV Go.Abs.Pure ar aK Yl
set_option maxHeartbeats 2000000 in
theorem zy(l:List Spx)(hl:l.length≤100000)(hs:∀s∈l,b8 cC s∧s.length≤1000000)(H:Hp)(nx:Nat):Abs.Fn Tryz.prog 92 [am l] H nx fun r H' nx'=>∃ks vs,r=.mp nx∧IncOk H' nx nx nx' (ni l l.length) ks vs∧(∀x,x<nx→H' x=H x)∧nx<nx':=by
 refine fO NN ?_;simp only[b92,aG];refine dD ?_
 repeat' (first|apply a_n|refine zO ?_|refine vZ ?_|fail)
 refine dD ?_;refine wnZ and_self ?_;refine uQ ?_;refine wnY @ae ?_;refine bT (X:=Nat×List Vtx×List AV) (fun x=>[(3,.mp nx),(9,am l),(10,.int .i64 l.length),(11,.int .i64 x.1)]) (fun x H' nx'=>x.1≤l.length∧IncOk H' nx nx nx' (ni l x.1) x.2.1 x.2.2∧(∀y,y<nx→H' y=H y)∧nx<nx') (fun x=>l.length-x.1) (0,[],[]) ⟨bB _,⟨ag,rfl,List.nodup_nil,fun v=>by simp[ni],fun j h=>absurd h (by simp),fun j B h=>absurd h (by simp),fun i j B h=>absurd h (by simp),by omega⟩,fun y hy=>ac (by omega),by omega⟩ ag0 ?_;rintro⟨i,ks,vs⟩ H1 nx1 ⟨h1,h2,h3,h4⟩;dsimp only at h1 h2 ⊢;by_cases hi:i<l.length
 rotate_left
 ·obtain rfl:i=l.length:=by omega
  refine wnY and_self ?_;exact⟨ks,vs,rfl,h2,h3,h4⟩
 have ix:=ec hi;obtain⟨hsa,hsl⟩:=hs _ (az hi);have hstep:=fun j v hj=>DH (l:=l) (i:=i) (j:=j) (v:=v) hj hsa;have hend:=fun v=>Cp (l:=l) (i:=i) (v:=v);have hlen:=fun j v=>FQ (l:=l) (i:=i) (j:=j) (v:=v);have h20:IncOk H1 nx nx nx1 (oU l i 0) ks vs:=by rw[show oU l i 0=ni l i from funext fun v=>CU];exact h2
 have hend':ni l (i+1)=oU l i (l.getD i default).length:=funext hend;clear h2;generalize l.getD i default=s at *;refine wnY (aI @ix @ao) ?_;refine bT (X:=Nat×List Vtx×List AV) (fun x=>[(3,.mp nx),(9,am l),(10,.int .i64 l.length),(11,.int .i64 i),(4,.int .i64 i),(5,aA s),(16,aA s),(17,.int .i64 s.length),(18,.int .i64 x.1)]) (fun x H' nx'=>x.1≤s.length∧IncOk H' nx nx nx' (oU l i x.1) x.2.1 x.2.2∧(∀y,y<nx→H' y=H y)∧nx<nx') (fun x=>s.length-x.1) (0,ks,vs) ⟨bB _,h20,h3,h4⟩ ag0 ?_;clear h20 h3 h4;rintro⟨j,ks,vs⟩ H2 nx2 ⟨k1,k2,k3,k4⟩;dsimp only at k1 k2 ⊢;by_cases hj:j<s.length
 rotate_left
 ·obtain rfl:j=s.length:=by omega
  refine wnY and_self ?_;exact⟨(i+1,ks,vs),by dsimp only;omega,⟨by dsimp only;omega,by dsimp only;rw[hend'];exact k2,k3,k4⟩,ag0⟩
 have iy:=ix2 hj;have hG:=fun v=>hstep j v hj;have hcl:=hlen j (s.getD j default);generalize s.getD j default=w at *;refine wnY @iy ?_;have g3:∀x,x<nx2→aq (aq (aq H2 nx2 [.int .i64 0,.int .i64 0]) nx2 (bG [.int .i64 0,.int .i64 0] 0 [.int .i64 w.color,.int .i64 w.label])) (nx2+1) [.int .i64 i] x=H2 x:=fun x hx=>by rw[ac (by omega),ac (by omega),ac (by omega)]
 have g4:aq (aq (aq H2 nx2 [.int .i64 0,.int .i64 0]) nx2 (bG [.int .i64 0,.int .i64 0] 0 [.int .i64 w.color,.int .i64 w.label])) (nx2+1) [.int .i64 i] (nx2+1)=some [.int .i64 i]:=ag;generalize aq (aq (aq H2 nx2 [.int .i64 0,.int .i64 0]) nx2 (bG [.int .i64 0,.int .i64 0] 0 [.int .i64 w.color,.int .i64 w.label])) (nx2+1) [.int .i64 i]=H3 at *;have hmf:=D0 w ks;have hkl:(ks.map dA).length=ks.length:=bt ..;by_cases hw:w∈ks
 ·rw[if_pos hw] at hmf;obtain⟨m1,m2⟩:=wY hw;have hr:=k2.row (ks.idxOf w) m1;rw[m2] at hr;refine FH ev0 ((g3 nx (by omega)).trans k2.box) ev0 (EI w) hmf ?_;have g5:∀x,x<nx2→x≠nx→aq H3 nx [.omap (cL (dA w) (some (ks.idxOf w)) (ks.map dA)) (nj .esl (some (ks.idxOf w)) vs)] x=H2 x:=fun x hx hn=>by rw[ac hn,g3 x hx]
  have g6:aq H3 nx [.omap (cL (dA w) (some (ks.idxOf w)) (ks.map dA)) (nj .esl (some (ks.idxOf w)) vs)] nx=some [.omap (ks.map dA) vs]:=ag;have g7:aq H3 nx [.omap (cL (dA w) (some (ks.idxOf w)) (ks.map dA)) (nj .esl (some (ks.idxOf w)) vs)] (nx2+1)=some [.int .i64 i]:=by rw[ac (by omega)];exact g4
  generalize aq H3 nx [.omap (cL (dA w) (some (ks.idxOf w)) (ks.map dA)) (nj .esl (some (ks.idxOf w)) vs)]=H4 at *;rw[show Cy .esl (some (ks.idxOf w)) vs=vs.getD (ks.idxOf w) .undef from rfl,show Ak (some (ks.idxOf w)) (ks.map dA)=ks.idxOf w from rfl];refine wnY and_self ?_;refine iW (k:=1) (new:=[.int .i64 i]) rfl ev0 (hr.same fun B hB=>?_) ev0 (fi (n:=1) (len:=1) (off:=0) g7 rfl (by omega)) rfl rfl lC (by rw[bt];omega) (by rw[bt];omega) ?_
  ·have:=k2.bnd _ B m1 hB;exact g5 B this.2.1 this.2.2
  rintro s2 H5 nx5 hr5 i1 i2 i3 i4;refine wnY and_self ?_;refine Ek ev0 ((i3 nx (by omega) (fun h=>(k2.bnd _ nx m1 h).2.2 rfl)).trans g6) ev0 (by rw[hkl];exact m1) ev0 ?_;refine wnY and_self ?_;refine⟨(j+1,ks,vs.set (ks.idxOf w) s2),by dsimp only;omega,⟨by dsimp only;omega,IncOk.put k2 hw hG ?_ (fun B hB=>?_) ag (fun x hx hx2 hxn hxr=>?_) (by omega) (by omega),fun y hy=>?_,by omega⟩,ag0⟩
  ·rw[cu]
   exact hr5.same fun B hB=>ac fun e=>by
    rcases i4 B hB with h|h
    ·exact(k2.bnd _ B m1 h).2.2 e
    ·omega
  ·rcases i4 B hB with h|h
   ·exact .inl h
   ·exact .inr (by omega)
  ·rw[ac hxn,i3 x (by omega) hxr,g5 x hx2 hxn]
  ·rw[ac (by omega),i3 y (by omega) (fun h=>by have:=k2.bnd _ y m1 h;omega),g5 y (by omega) (by omega)];exact k3 y hy
 ·rw[if_neg hw] at hmf;refine FH ev0 ((g3 nx (by omega)).trans k2.box) ev0 (EI w) hmf ?_;have g5:∀x,x<nx2→x≠nx→aq H3 nx [.omap (cL (dA w) none (ks.map dA)) (nj .esl none vs)] x=H2 x:=fun x hx hn=>by rw[ac hn,g3 x hx]
  have g6:aq H3 nx [.omap (cL (dA w) none (ks.map dA)) (nj .esl none vs)] nx=some [.omap (ks.map dA++[dA w]) (vs++[.esl])]:=ag;have g7:aq H3 nx [.omap (cL (dA w) none (ks.map dA)) (nj .esl none vs)] (nx2+1)=some [.int .i64 i]:=by rw[ac (by omega)];exact g4
  generalize aq H3 nx [.omap (cL (dA w) none (ks.map dA)) (nj .esl none vs)]=H4 at *;rw[show Cy .esl none vs=.esl from rfl,show Ak none (ks.map dA)=ks.length from hkl];refine wnY and_self ?_;refine iW (k:=1) (new:=[.int .i64 i]) (cs:=[]) rfl ev0 Row.nil ev0 (fi (n:=1) (len:=1) (off:=0) g7 rfl (by omega)) rfl rfl lC (by simp) (by simp) ?_;rintro s2 H5 nx5 hr5 i1 i2 i3 i4;have i4':∀B,bF s2=some B→B=nx2+1+1∧nx5=nx2+1+1+1:=fun B hB=>(i4 B hB).elim (fun h=>by cases h) id;refine wnY and_self ?_;refine Ek (i:=ks.length) ev0 ((i3 nx (by omega) (fun h=>by cases h)).trans g6) ev0 (by rw[cS,hkl];simp) ev0 ?_;have hset:(vs++[AV.esl]).set ks.length s2=vs++[s2]:=by rw[←k2.len];simp
  rw[hset];refine wnY and_self ?_;refine⟨(j+1,ks++[w],vs++[s2]),by dsimp only;omega,⟨by dsimp only;omega,IncOk.new k2 hw hG ?_ (fun B hB=>?_) (by rw[cu];exact ag) (fun x hx hx2 hxn=>?_) (by omega) (by omega),fun y hy=>?_,by omega⟩,ag0⟩
  ·exact hr5.same fun B hB=>ac (by have:=i4' B hB;omega)
  ·have:=i4' B hB;omega
  ·rw[ac hxn,i3 x (by omega) (fun h=>by cases h),g5 x hx2 hxn]
  ·rw[ac (by omega),i3 y (by omega) (fun h=>by cases h),g5 y (by omega) (by omega)];exact k3 y hy
end Go.Proofs.YtekdaafnjdlenaaGreat
namespace Go.Proofs.YtekdaafnjdlenaaGreat
open Go Go.Abs
def dx(l:List Spx)(s:Spx):Bool:=l.any fun t=>decide (s.length<t.length)&&ee s t
def pP(c:List Spx)(k:Nat):Int:=if bV (c.getD k default)≠0 then bV (c.getD k default) else if 0<k∧0≤bl (c.getD (k-1) default) (c.getD k default) then 14 else 0
def ay(c:List Spx):Int:=if 4096<c.length then 5 else if dK (pP c) c.length≠0 then dK (pP c) c.length else if c.any (dx c)=true then 7 else 0
theorem e6{a b:Spx}:ee a b=true↔ ∀v∈a,v∈b:=by
 unfold ee;rw[ea];exact⟨fun h v hv=>pW (h v hv),fun h v hv=>aR (h v hv)⟩
theorem oJ{l:List Spx}{s:Spx}:dx l s=true↔ ∃t∈l,s.length<t.length∧∀v∈s,v∈t:=by
 unfold dx;rw[qn];constructor
 ·rintro⟨t,ht,h⟩;rw[dz,wW,e6] at h;exact⟨t,ht,h⟩
 ·rintro⟨t,ht,h⟩;exact⟨t,ht,by rw[dz,wW,e6];exact h⟩
theorem Iy{a b:Spx}(ha:b8 cC a)(hb:b8 cC b)(h:∀v∈a,v∈b)(hne:a≠b):a.length<b.length:=by
 have h1:a.length≤b.length:=yM (ha.nodup zS) h;rcases qg a.length b.length with h2|h2
 ·exact h2
 ·exfalso;refine hne (nc zS ha hb fun x=>⟨h x,fun hx=>Decidable.byContradiction fun hn=>?_⟩)
  have h3:(x::a).length≤b.length:=yM (List.nodup_cons.2 ⟨hn,ha.nodup zS⟩) fun y hy=>by
   rcases cW.1 hy with rfl|hy
   ·exact hx
   ·exact h y hy
  rw[bO] at h3;omega
theorem A6{c:List Spx}(h:dK (pP c) c.length=0):(∀s∈c,bV s=0)∧b8 bl c:=by
 have hz:=iX h
 have h3:∀k,k<c.length→bV (c.getD k default)=0∧(0<k→bl (c.getD (k-1) default) (c.getD k default)<0):=fun k hk=>by
  have:=hz k hk;unfold pP at this;split at this
  ·exact absurd this ‹_›
  rename_i g1;split at this
  ·exact absurd this (by decide)
  rename_i g2;exact⟨uj g1,fun h0=>by omega⟩
 constructor
 ·intro s hs;obtain⟨i,hi,rfl⟩:=jp hs;have:=(h3 i hi).1
  rwa [show c.getD i default=c[i] by simp[List.getD,hi]] at this
 ·have step:∀j i,i<j→j<c.length→bl (c.getD i default) (c.getD j default)<0:=by
    intro j
    induction j with
    |zero=>intro i h;omega
    |succ j ih=>
     intro i hi hj;have hs:=(h3 (j+1) hj).2 (by omega);rw[ro] at hs;by_cases e:i=j
     ·subst e;exact hs
     ·exact my.trans (ih i (by omega) (by omega)) hs
  unfold b8;rw[kJ];intro i j hi hj hij;have:=step j i hij hj;simpa[List.getD,hi,hj] using this
theorem cK{c:List Spx}(h:ay c=0):c.length≤4096∧(∀s∈c,bV s=0)∧b8 bl c∧∀s∈c,dx c s=false:=by
 unfold ay at h;split at h
 ·exact absurd h (by decide)
 split at h
 ·exact absurd h ‹_›
 split at h
 ·exact absurd h (by decide)
 rename_i h1 h2 h3;have:=A6 (uj h2);refine⟨by omega,this.1,this.2,fun s hs=>?_⟩;cases hc:dx c s
 ·rfl
 ·exact absurd (qn.2 ⟨s,hs,hc⟩) h3
theorem Hj{l:List Spx}{s:Spx}{p:Spx→Bool}(h0:0<s.length)(hp:∀t,p t=true→s.getD 0 default∈t):((ni l l.length (s.getD 0 default)).map fun(n:Nat)=>(n:Int)).any (fun i=>p (l.getD i.toNat default))=l.any p:=by
 rw[Bool.eq_iff_iff,qn,qn];constructor
 ·rintro⟨x,hx,h⟩;obtain⟨n,hn,rfl⟩:=bK.1 hx;unfold ni at hn;obtain⟨h1,_⟩:=gY.1 hn;rw[cr] at h;exact⟨_,az (dT.1 h1),h⟩
 ·rintro⟨t,ht,h⟩;obtain⟨i,hi,rfl⟩:=jp ht;have e:l.getD i default=l[i]:=by simp[List.getD,hi]
  refine⟨(i:Int),bK.2 ⟨i,gY.2 ⟨dT.2 hi,aR ?_⟩,rfl⟩,?_⟩
  ·rw[e];exact hp _ h
  ·rw[cr,e];exact h
attribute [local irreducible] aJ aj bf aX aP aQ aD aS a6 bk Go.Abs.Fn aV Go.Abs.Pure ar aK Yl
theorem Db(l:List Int)(p:Int→Bool)(g:Nat)(caps:List AV)(hd:∀x∈caps,Dat x)(hg:∀x∈l,pU g (.int .i64 x::caps) (.bool (p x)))(hl:Shn l):pU 101 [aC l,.func g caps] (.int .i64 (if l.any p then(l.findIdx p:Nat) else-1)):=by
 refine pO Lm ?_;simp only[LD,aG];have hl':l.length≤17592186044416:=hl;refine wnZ and_self ?_;refine bT (X:=Nat) (fun k=>[(0,aC l),(1,.func g caps),(6,aC l),(7,.int .i64 l.length),(8,.int .i64 k)]) (fun k H nx=>k≤l.length∧∀i,i<k→p (l.getD i default)=false) (fun k=>l.length-k) 0 ⟨bB _,fun i h=>absurd h (by omega)⟩ ag0 ?_;rintro k H nx ⟨hk,hz⟩;by_cases hk2:k<l.length
 rotate_left
 ·rw[qv fun i hi=>hz i (by omega),if_neg (by decide)];refine wnY and_self ?_;exact eh rfl
 have hc:=hg _ (bg hk2);cases hp:p (l.getD k default)
 ·rw[hp] at hc;refine wnY and_self ?_;refine ed ev0 ev0 hc (aY (ah (.int _ _) (bh hd))) ?_;refine wnY and_self ?_
  exact ⟨k + 1,by omega,⟨by omega,fun i hi=>by
   rcases i9.1 hi with h|rfl
   ·exact hz i h
   ·exact hp⟩,ag0⟩
 ·rw[hp] at hc;obtain⟨e1,e2⟩:=xX hk2 hz hp;rw[e1,e2,if_pos rfl];refine wnY and_self ?_;refine ed ev0 ev0 hc (aY (ah (.int _ _) (bh hd))) ?_;refine wnY and_self ?_;exact .int _ _
theorem pn(l:List Int)(p:Int→Bool)(g:Nat)(caps:List AV)(hd:∀x∈caps,Dat x)(hg:∀x∈l,pU g (.int .i64 x::caps) (.bool (p x)))(hl:Shn l):pU 48 [aC l,.func g caps] (.bool (l.any p)):=by
 refine pO N5 ?_;simp only[b48,aG];have h:=Db l p g caps hd hg hl
 repeat' (first|refine zW ?_|apply a_n|refine zO ?_|refine vZ ?_|refine cZ ?_ (hp:=h) (hs:=by(first|refine aF ?_ rfl|apply aY);(repeat' (first|exact ak|apply bv|apply a5|exact cp _|exact Dat.func hd));first|done|fail)|refine bR rfl ?_|refine r1Z ?_|fail)
 cases hA:l.any p
 ·exact b9 (by simp)
 ·exact b9 (by simp)
def OkS(l:List Spx):Prop:=l.length≤100000∧∀s∈l,b8 cC s∧s.length≤1000
theorem AP(l:List Spx)(s:Spx)(i:Nat)(hl:OkS l)(hs:b8 cC s∧s.length≤1000)(hi:i<l.length):pU 157 [.int .i64 i,.iptr [am l] 0,.iptr [aA s] 0] (.bool (decide (s.length<(l.getD i default).length)&&ee s (l.getD i default))):=by
 refine pO Mf ?_;simp only[Ms,aG];have ix:=ec hi;obtain⟨t1,t2⟩:=hl.2 _ (az hi);have hf:=Jz s (l.getD i default) hs.1 t1 (by omega) (by omega);generalize l.getD i default=t at *;by_cases h:s.length<t.length
 ·have z:decide ((s.length:Int)<t.length)=true:=aR (by omega);rw[aR h,Bool.true_and];refine wkZ (zI3 @ao @ix @z) ?_;exact .bool _
 ·have z:decide ((s.length:Int)<t.length)=false:=aU (by omega);rw[aU h,Bool.false_and];refine wkZ (zI3 @ao @ix @z) ?_;exact .bool _
theorem C8(l:List Spx)(s:Spx)(hl:OkS l)(hs:b8 cC s∧s.length≤1000)(h0:0<s.length):pU 131 [am l,aC ((ni l l.length (s.getD 0 default)).map fun(n:Nat)=>(n:Int)),aA s] (.bool (dx l s)):=by
 refine pO Mm ?_;simp only[LG,aG];have hll:=hl.1
 have h:=pn ((ni l l.length (s.getD 0 default)).map fun (n:Nat)=>(n:Int)) (fun i=>decide (s.length < (l.getD i.toNat default).length) && ee s (l.getD i.toNat default)) 157 [.iptr [am l] 0,.iptr [aA s] 0] (DatL.cons (Dat.iptr (DatL.cons (bI _) DatL.nil)) (DatL.cons (Dat.iptr (DatL.cons (dt _) DatL.nil)) DatL.nil)) (fun x hx=>by
  obtain⟨n,hn,rfl⟩:=bK.1 hx;have hn2:n<l.length:=dT.1 (gY.1 hn).1;rw[cr];exact AP l s n hl hs hn2) (by rw[Shn,bt];have:=xG (l:=l) (i:=l.length) (v:=s.getD 0 default);omega)
 rw [Hj (p:=fun t=>decide (s.length < t.length) && ee s t) h0 (fun t ht=>by
  rw[dz,e6] at ht;exact ht.2 _ (az h0))] at h
 refine wnZ (zI4 @ai @af @a7 @aL) ?_;refine ed (have zz:=aI @ai (aI @af (aI @a7 @aL));evZ) (have zz:=aI @ai (aI @af (aI @a7 @aL));evZ) h (aF (ah (cp _ _) (ah (vu (ah (yt rfl rfl (ah (bI _ _) ak)) (ah (yt rfl rfl (ah (dt _ _) ak)) ak))) ak)) rfl) ?_;refine wnZ and_self ?_;exact .bool _
end Go.Proofs.YtekdaafnjdlenaaGreat
namespace Go.Proofs.YtekdaafnjdlenaaGreat
open Go Go.Abs
theorem BH{H:Hp}{sv:AV}{F:List Nat}(h:Row H 1 sv (F.map sx)):Snap H sv (aC (F.map fun(n:Nat)=>(n:Int))):=by
 refine Row.snapI ?_;rw[List.map_map];exact h
theorem tR{c:List Spx}{k:Nat}:pP c k=if bV (c.getD k default)≠0 then bV (c.getD k default) else if 0<k∧0≤bl (c.getD (k-1) default) (c.getD k default) then 14 else 0:=rfl
theorem Fq {c:List Spx} (h1:c.length ≤ 4096) (h:∀ s ∈ c,bV s=0):OkS c:=⟨by omega,fun s hs=>by
 obtain⟨a1,a2,a3,a4⟩:=co (h s hs);exact⟨a3,by omega⟩⟩
theorem n9{H:Hp}{b:Nat}{cs:List AV}(h:H b=some cs):Sub (only b cs) H:=fun x c hx=>by
 unfold only at hx;split at hx
 ·rename_i e;rw[e,h];exact hx
 ·cases hx
def on2(b1:Nat)(c1:List AV)(b2:Nat)(c2:List AV):Hp:=fun x=>if x=b1 then some c1 else if x=b2 then some c2 else none
theorem KG{b1 b2:Nat}{c1 c2:List AV}:on2 b1 c1 b2 c2 b1=some c1:=if_pos rfl
theorem KU{b1 b2:Nat}{c1 c2:List AV}(h:b2≠b1):on2 b1 c1 b2 c2 b2=some c2:=by unfold on2;rw[if_neg h,if_pos rfl]
theorem Bl{b1 b2:Nat}{c1 c2:List AV}{H:Hp}(h1:H b1=some c1)(h2:H b2=some c2):Sub (on2 b1 c1 b2 c2) H:=fun x cs h=>by
 unfold on2 at h;split at h
 ·rename_i e;rw[e,h1];exact h
 ·split at h
  ·rename_i e;rw[e,h2];exact h
  ·cases h
theorem pE{P:Program}{T:Tm}{H:Hp}{nx:Nat}(b1 b2:Nat){c1 c2:List AV}{K:CP}{m:Nat}{l:List Op2}{C:List (Nat×Nat)}(h1:H b1=some c1)(h2:H b2=some c2)(hne:b2≠b1)(k:∀S:Hp,S b1=some c1→S b2=some c2→(∀H':Hp,H' b1=some c1→H' b2=some c2→Sub S H')→bc P S (C.map fun k=>(l.getD k.1 ⟨none,none,.dead⟩,k.2)) T H nx fun T H nx=>K .normal T H nx):aJ P (.mixS m l C) T H nx K:=
 wJ (on2 b1 c1 b2 c2) rfl (Bl h1 h2) (k _ KG (KU hne) fun _ a b=>Bl a b)
theorem w_mix1{P:Program}{T:Tm}{H:Hp}{nx:Nat}(b:Nat){c:List AV}{K:CP}{m:Nat}{l:List Op2}{C:List (Nat×Nat)}(h:H b=some c)(k:∀S:Hp,S b=some c→(∀H':Hp,H' b=some c→Sub S H')→bc P S (C.map fun k=>(l.getD k.1 ⟨none,none,.dead⟩,k.2)) T H nx fun T H nx=>K .normal T H nx):aJ P (.mixS m l C) T H nx K:=
 wJ (only b c) rfl (n9 h) (k _ iL fun _ h=>n9 h)
attribute [local irreducible] aJ aj bf aX aP aQ aD aS a6 bk Go.Abs.Fn aV Go.Abs.Pure ar aK Yl
set_option maxHeartbeats 2000000 in
theorem ji(c:List Spx)(hc:Shn c)(hs:∀s∈c,Shn s):pU 78 [bE c] (.int .i64 (ay c)):=by
 refine pO NQ ?_;simp only[b78,aG];have hc':c.length≤17592186044416:=hc;by_cases h0:4096<c.length
 ·rw[show ay c=5 by unfold ay;rw[if_pos h0]];refine wnZ (zI3 @ae @ai @af) ?_
  all_goals exact eh rfl
 rw[show ay c=if dK (pP c) c.length≠0 then dK (pP c) c.length else if c.any (dx c)=true then 7 else 0 by unfold ay;rw[if_neg h0]];refine dD ?_;have zz:=aI @ae (aI @ai @af);repeat' (first|apply a_n|refine zO ?_|refine vZ ?_|refine bxZ ?_|fail)
 refine dD (dD ?_);clear zz;have zz:=aI @ae (aI @ai @af);repeat' (first|apply a_n|refine zO ?_|refine vZ ?_|(refine zGZ ?_ ?_<;>(intro _hg;try (exfalso;omega)))|fail)
 by_cases hz:dK (pP c) c.length≠0
 ·rw[if_pos hz];refine wnZ (zI3 @ae @ai @af) ?_;refine lpI (X:=Nat) (fun k=>[(1,.ptr 0 1 0),(14,am c),(15,.int .i64 c.length),(16,.int .i64 k)]) (fun k H nx=>k≤c.length∧H 0=some [am c]∧∀i,i<k→pP c i=0) (fun k=>c.length-k) 0 ⟨bB _,rfl,fun i h=>absurd h (by omega)⟩ ?_;rintro k H nx ⟨h1,g0,h2⟩;by_cases hk:k<c.length
  rotate_left
  ·exact absurd (dG fun i hi=>h2 i (by omega)) hz
  have ix:=ec hk;have hs1:=hs _ (az hk);have hp:=pk (c.getD k default) hs1;have hsp:=tR (c:=c) (k:=k);by_cases he:bV (c.getD k default)≠0
  ·rw[if_pos he] at hsp;rw[di hk h2 (by rw[hsp];exact he),hsp];have z:decide (bV (c.getD k default)≠0)=true:=aR he;refine wnY (zI3 @ae @ix @z) ?_;exact .int _ _
  rw[if_neg he] at hsp;have he:=uj he;rw[he] at hp;have z:decide ((0:Int)≠0)=false:=rfl;by_cases hk0:0<k
  rotate_left
  ·rw[if_neg (fun h=>hk0 h.1)] at hsp;have zk:decide (0<(k:Int))=false:=aU (by omega);refine wnY (zI4 @ae @ix @z @zk) ?_
   exact ⟨k + 1,by omega,⟨by omega,g0,fun i hi=>by
    rcases i9.1 hi with h'|rfl
    ·exact h2 i h'
    ·exact hsp⟩,ag0⟩
  have zk:decide (0<(k:Int))=true:=aR (by omega)
  have iy:ey 1 (am c) (.int .i64 ((k:Int)-1))=some (.iptr [aA (c.getD (k-1) default)] 0):=by
   have:=ec (l:=c) (k:=k-1) (by omega)
   rwa [show((k-1:Nat):Int)=(k:Int)-1 by omega] at this
  have hcm:=gy (c.getD (k-1) default) (c.getD k default) (hs _ (az (by omega))) hs1;by_cases hv:0≤bl (c.getD (k-1) default) (c.getD k default)
  ·have z2:decide (0≤bl (c.getD (k-1) default) (c.getD k default))=true:=aR hv;rw[if_pos ⟨hk0,hv⟩] at hsp;rw[di hk h2 (by rw[hsp];decide),hsp];refine wnY (zI7 @ae @ix @iy @z @zk @z2 @g0) ?_;exact .int _ _
  ·have z2:decide (0≤bl (c.getD (k-1) default) (c.getD k default))=false:=aU hv;rw[if_neg (fun h=>hv h.2)] at hsp;refine wnY (zI7 @ae @ix @iy @z @zk @z2 @g0) ?_
   exact ⟨k + 1,by omega,⟨by omega,g0,fun i hi=>by
    rcases i9.1 hi with h'|rfl
    ·exact h2 i h'
    ·exact hsp⟩,ag0⟩
 have hz:=uj hz;rw[if_neg (fun h=>h hz)];obtain⟨a1,a2⟩:=A6 hz;have hall:=iX hz;have hok:=Fq (by omega) a1;refine cl (fun T H nx=>T 1=.ptr 0 1 0∧H 0=some [am c]∧1≤nx) ?_ ?_
 ·refine wnZ (zI3 @ae @ai @af) ?_;refine lpI (X:=Nat) (fun k=>[(1,.ptr 0 1 0),(14,am c),(15,.int .i64 c.length),(16,.int .i64 k)]) (fun k H nx=>k≤c.length∧H 0=some [am c]∧1≤nx) (fun k=>c.length-k) 0 ⟨bB _,rfl,by omega⟩ ?_;rintro k H nx ⟨h1,g0,hnx⟩;by_cases hk:k<c.length
  rotate_left
  ·refine wnY and_self ?_;exact⟨rfl,g0,hnx⟩
  have ix:=ec hk;have hs1:=hs _ (az hk);have hp:=pk (c.getD k default) hs1;rw[a1 _ (az hk)] at hp;have z:decide ((0:Int)≠0)=false:=rfl;by_cases hk0:0<k
  rotate_left
  ·have zk:decide (0<(k:Int))=false:=aU (by omega);refine wnY (zI4 @ae @ix @z @zk) ?_;exact⟨k+1,by omega,⟨by omega,g0,hnx⟩,ag0⟩
  have zk:decide (0<(k:Int))=true:=aR (by omega)
  have iy:ey 1 (am c) (.int .i64 ((k:Int)-1))=some (.iptr [aA (c.getD (k-1) default)] 0):=by
   have:=ec (l:=c) (k:=k-1) (by omega)
   rwa [show((k-1:Nat):Int)=(k:Int)-1 by omega] at this
  have hcm:=gy (c.getD (k-1) default) (c.getD k default) (hs _ (az (by omega))) hs1;have z2:decide (0≤bl (c.getD (k-1) default) (c.getD k default))=false:=aU (by have:=eG a2 (i:=k-1) (j:=k) (by omega) hk;omega);refine wnY (zI7 @ae @ix @iy @z @zk @z2 @g0) ?_;exact⟨k+1,by omega,⟨by omega,g0,hnx⟩,ag0⟩
 rintro T H nx ⟨t1,g0,hnx⟩;refine wnY (aI @t1 @g0) ?_;refine be ev0 (have zz:=@t1;evZ) (zy c hok.1 (fun s hs=>⟨(hok.2 s hs).1,by have:=(hok.2 s hs).2;omega⟩) _ _) ?_;rintro _ H1 nx1 ⟨ks,vs,rfl,hinc,hsame,hlt⟩;have g0':H1 0=some [am c]:=(hsame 0 (by omega)).trans g0;refine wnY (zI3 @t1 @g0' @ae) ?_;refine bT (X:=Nat) (fun k=>[(1,.ptr 0 1 0),(6,.mp nx),(44,am c),(45,.int .i64 c.length),(46,.int .i64 k)]) (fun k H' nx'=>k≤c.length∧H'=H1∧nx'=nx1∧∀i,i<k→dx c (c.getD i default)=false) (fun k=>c.length-k) 0 ⟨bB _,rfl,rfl,fun i h=>absurd h (by omega)⟩ (have zz:=@t1;agZ) ?_;rintro k H' nx' ⟨h1,rfl,rfl,h2⟩;by_cases hk:k<c.length
 rotate_left
 ·rw[qv fun i hi=>h2 i (by omega),if_neg (by decide)];refine wnY and_self ?_;exact .int _ _
 have ix:=ec hk;obtain⟨p1,p2,p3,p4⟩:=co (a1 _ (az hk));have hcv:=C8 c (c.getD k default) hok (hok.2 _ (az hk)) (by omega);have iy:=ix2 (l:=c.getD k default) (k:=0) (by omega);rw[show((0:Nat):Int)=0 from rfl] at iy
 have hks:(c.getD k default).getD 0 default∈ks:=(hinc.dom _).2 fun e=>by
  have:k∈ni c c.length ((c.getD k default).getD 0 default):=gY.2 ⟨dT.2 hk,aR (az (by omega))⟩;rw[e] at this;cases this
 have hmf:=D0 ((c.getD k default).getD 0 default) ks;rw[if_pos hks] at hmf;obtain⟨m1,m2⟩:=wY hks;have hr:=hinc.row _ m1;rw[m2] at hr;have hcb:dx c (c.getD k default)=true→c.any (dx c)=true:=fun h=>qn.2 ⟨_,az hk,h⟩;generalize hsk:c.getD k default=s at *;refine wnY @ix ?_;refine w_mix1 0 g0' fun S hS0 hsub'=>?_;have hsub:=hsub' H' g0';refine wnY (aI @hS0 @iy) ?_;refine dS ?_;refine ja ev0 hinc.box ev0 (EI _) hmf ?_;refine jz ⟨hsub,?_⟩;rw[show mget .esl false (some (ks.idxOf (s.getD 0 default))) vs=vs.getD (ks.idxOf (s.getD 0 default)) .undef from rfl];refine iV ?_;cases hb:dx c s
 ·rw[hb] at hcv;refine ed ev0 ev0 hcv (aF (ah (bI _ _) (ah (BH hr) (ah (dt _ _) ak))) rfl) ?_;refine wnY and_self ?_
  exact ⟨k + 1,by omega,⟨by omega,rfl,rfl,fun i hi=>by
   rcases i9.1 hi with h'|rfl
   ·exact h2 i h'
   ·rw[hsk];exact hb⟩,ag0⟩
 ·rw[hb] at hcv;rw[hcb hb,if_pos rfl];refine ed ev0 ev0 hcv (aF (ah (bI _ _) (ah (BH hr) (ah (dt _ _) ak))) rfl) ?_;refine wnY and_self ?_;exact .int _ _
end Go.Proofs.YtekdaafnjdlenaaGreat
namespace Go.Proofs.YtekdaafnjdlenaaGreat
open Go Go.Abs
theorem DE{c:List Spx}(h1:∀s∈c,b8 cC s)(h2:b8 bl c){i k:Nat}(hi:i<c.length)(hk:k<c.length)(hik:i≠k)(h:ee (c.getD i default) (c.getD k default)=true):dx c (c.getD i default)=true:=by
 refine oJ.2 ⟨_,az hk,Iy (h1 _ (az hi)) (h1 _ (az hk)) (e6.1 h) fun e=>?_,e6.1 h⟩;rcases sK i k with q|q|q
 ·have:=eG h2 q hk;rw[e] at this;exact my.ord.irr _ this
 ·exact hik q
 ·have:=eG h2 q hi;rw[e] at this;exact my.ord.irr _ this
theorem FA{c:List Spx}{i:Nat}(h:dx c (c.getD i default)=true):∃k,k<c.length∧i≠k∧ee (c.getD i default) (c.getD k default)=true:=by
 obtain⟨t,ht,h1,h2⟩:=oJ.1 h;obtain⟨k,hk,rfl⟩:=jp ht;have e:c.getD k default=c[k]:=by simp[List.getD,hk]
 refine⟨k,hk,fun hik=>?_,by rw[e];exact e6.2 h2⟩;subst hik;rw[e] at h1;omega
attribute [local irreducible] aJ aj bf aX aP aQ aD aS a6 bk Go.Abs.Fn aV Go.Abs.Pure ar aK Yl
set_option maxHeartbeats 2000000 in
theorem Bu(c:List Spx)(hc:Shn c)(hs:∀s∈c,Shn s):pU 28 [bE c] (.int .i64 (ay c)):=by
 refine pO MV ?_;simp only[b28,aG];have hc':c.length≤17592186044416:=hc;by_cases h0:4096<c.length
 ·rw[show ay c=5 by unfold ay;rw[if_pos h0]];refine wnZ (zI3 @ae @ai @af) ?_
  all_goals exact eh rfl
 rw[show ay c=if dK (pP c) c.length≠0 then dK (pP c) c.length else if c.any (dx c)=true then 7 else 0 by unfold ay;rw[if_neg h0]];refine dD ?_;have zz:=aI @ae (aI @ai @af);repeat' (first|apply a_n|refine zO ?_|refine vZ ?_|refine bxZ ?_|fail)
 refine dD ?_;clear zz;have zz:=aI @ae (aI @ai @af);repeat' (first|apply a_n|refine zO ?_|refine vZ ?_|fail)
 refine dD (dD ?_);clear zz;have zz:=aI @ae (aI @ai @af);repeat' (first|apply a_n|refine zO ?_|refine vZ ?_|(refine zGZ ?_ ?_<;>(intro _hg;try (exfalso;omega)))|fail)
 by_cases hz:dK (pP c) c.length≠0
 ·rw[if_pos hz];refine wnZ (zI3 @ae @ai @af) ?_;refine bT (X:=Nat) (fun k=>[(3,am c),(4,.int .i64 k)]) (fun k H nx=>k≤c.length∧∀i,i<k→pP c i=0) (fun k=>c.length-k) 0 ⟨bB _,fun i h=>absurd h (by omega)⟩ ag0 ?_;rintro k H nx ⟨h1,h2⟩;by_cases hk:k<c.length
  rotate_left
  ·exact absurd (dG fun i hi=>h2 i (by omega)) hz
  have ix:=ec hk;have hs1:=hs _ (az hk);have hp:=Be (c.getD k default) hs1;have hsp:=tR (c:=c) (k:=k);by_cases he:bV (c.getD k default)≠0
  ·rw[if_pos he] at hsp;rw[di hk h2 (by rw[hsp];exact he),hsp];have z:decide (bV (c.getD k default)≠0)=true:=aR he;refine wnY (zI3 @ae @ix @z) ?_;exact .int _ _
  rw[if_neg he] at hsp;have he:=uj he;rw[he] at hp;have z:decide ((0:Int)≠0)=false:=rfl;by_cases hk0:0<k
  rotate_left
  ·rw[if_neg (fun h=>hk0 h.1)] at hsp;have zk:decide (0<(k:Int))=false:=aU (by omega);refine wkY (zI4 @ae @ix @z @zk) ?_
   exact ⟨k + 1,by omega,⟨by omega,fun i hi=>by
    rcases i9.1 hi with h'|rfl
    ·exact h2 i h'
    ·exact hsp⟩,ag0⟩
  have zk:decide (0<(k:Int))=true:=aR (by omega)
  have iy:ey 1 (am c) (.int .i64 ((k:Int)-1))=some (.iptr [aA (c.getD (k-1) default)] 0):=by
   have:=ec (l:=c) (k:=k-1) (by omega)
   rwa [show((k-1:Nat):Int)=(k:Int)-1 by omega] at this
  have hcm:=lh (c.getD (k-1) default) (c.getD k default) (hs _ (az (by omega))) hs1;by_cases hv:0≤bl (c.getD (k-1) default) (c.getD k default)
  ·have z2:decide (0≤bl (c.getD (k-1) default) (c.getD k default))=true:=aR hv;rw[if_pos ⟨hk0,hv⟩] at hsp;rw[di hk h2 (by rw[hsp];decide),hsp];refine wkY (zI6 @ae @ix @iy @z @zk @z2) ?_;exact .int _ _
  ·have z2:decide (0≤bl (c.getD (k-1) default) (c.getD k default))=false:=aU hv;rw[if_neg (fun h=>hv h.2)] at hsp;refine wkY (zI6 @ae @ix @iy @z @zk @z2) ?_
   exact ⟨k + 1,by omega,⟨by omega,fun i hi=>by
    rcases i9.1 hi with h'|rfl
    ·exact h2 i h'
    ·exact hsp⟩,ag0⟩
 have hz:=uj hz;rw[if_neg (fun h=>h hz)];obtain⟨a1,a2⟩:=A6 hz;have hok:=Fq (by omega) a1;refine cl (fun T H nx=>T 3=am c) ?_ ?_
 ·refine wnZ (zI3 @ae @ai @af) ?_;refine bT (X:=Nat) (fun k=>[(3,am c),(4,.int .i64 k)]) (fun k H nx=>k≤c.length) (fun k=>c.length-k) 0 (bB _) ag0 ?_;rintro k H nx h1;by_cases hk:k<c.length
  rotate_left
  ·refine wnY @ae ?_;exact rfl
  have ix:=ec hk;have hs1:=hs _ (az hk);have hp:=Be (c.getD k default) hs1;rw[a1 _ (az hk)] at hp;have z:decide ((0:Int)≠0)=false:=rfl;by_cases hk0:0<k
  rotate_left
  ·have zk:decide (0<(k:Int))=false:=aU (by omega);refine wkY (zI4 @ae @ix @z @zk) ?_;exact⟨k+1,by omega,by omega,ag0⟩
  have zk:decide (0<(k:Int))=true:=aR (by omega)
  have iy:ey 1 (am c) (.int .i64 ((k:Int)-1))=some (.iptr [aA (c.getD (k-1) default)] 0):=by
   have:=ec (l:=c) (k:=k-1) (by omega)
   rwa [show((k-1:Nat):Int)=(k:Int)-1 by omega] at this
  have hcm:=lh (c.getD (k-1) default) (c.getD k default) (hs _ (az (by omega))) hs1;have z2:decide (0≤bl (c.getD (k-1) default) (c.getD k default))=false:=aU (by have:=eG a2 (i:=k-1) (j:=k) (by omega) hk;omega);refine wkY (zI6 @ae @ix @iy @z @zk @z2) ?_;exact⟨k+1,by omega,by omega,ag0⟩
 rintro T H nx t3;refine wnY @t3 ?_;refine bT (X:=Nat) (fun k=>[(3,am c),(6,.int .i64 k)]) (fun k H' nx'=>k≤c.length∧∀i,i<k→dx c (c.getD i default)=false) (fun k=>c.length-k) 0 ⟨bB _,fun i h=>absurd h (by omega)⟩ (have zz:=@t3;agZ) ?_;clear zz;clear t3;rintro i H1 nx1 ⟨h1,h2⟩;by_cases hi:i<c.length
 rotate_left
 ·rw[qv fun i hi=>h2 i (by omega),if_neg (by decide)];refine wnY @ae ?_;exact .int _ _
 refine wnY @ae ?_;refine bT (X:=Nat) (fun k=>[(3,am c),(6,.int .i64 i),(7,.int .i64 k)]) (fun k H' nx'=>k≤c.length∧∀j,j<k→i≠j→ee (c.getD i default) (c.getD j default)=false) (fun k=>c.length-k) 0 ⟨bB _,fun i h=>absurd h (by omega)⟩ ag0 ?_;rintro k H2 nx2 ⟨k1,k2⟩;by_cases hk:k<c.length
 rotate_left
 ·refine wnY @ae ?_;refine⟨i+1,by omega,⟨by omega,fun j hj=>?_⟩,ag0⟩;rcases i9.1 hj with h'|rfl
  ·exact h2 j h'
  ·cases hb:dx c (c.getD j default)
   ·rfl
   ·obtain⟨q,q1,q2,q3⟩:=FA hb;rw[k2 q (by omega) q2] at q3;cases q3
 have ix:=ec hi;have iy:=ec hk;by_cases hik:i=k
 ·have z:decide ((i:Int)≠(k:Int))=false:=aU (by omega);refine wkY (aI @ae @z) ?_;exact⟨k+1,by omega,⟨by omega,fun j hj hij=>k2 j (by omega) hij⟩,ag0⟩
 have z:decide ((i:Int)≠(k:Int))=true:=aR (by omega);have hin:=xI (c.getD i default) (c.getD k default) (hs _ (az hi)) (hs _ (az hk));have ht:=DE (fun s hs=>(hok.2 s hs).1) a2 hi hk hik;cases hb:ee (c.getD i default) (c.getD k default)
 ·rw[hb] at hin;refine wkY (zI4 @ae @ix @iy @z) ?_
  exact ⟨k + 1,by omega,⟨by omega,fun j hj hij=>by
   rcases i9.1 hj with h'|rfl
   ·exact k2 j h' hij
   ·exact hb⟩,ag0⟩
 ·rw[hb] at hin;rw[if_pos (qn.2 ⟨_,az hi,ht hb⟩)];refine wkY (zI4 @ae @ix @iy @z) ?_;exact .int _ _
end Go.Proofs.YtekdaafnjdlenaaGreat
namespace Go.Proofs.YtekdaafnjdlenaaGreat
open Go Go.Abs
structure MapV where
 fr:Spx
 to:Spx
 deriving Inhabited,DecidableEq
abbrev Md(m:MapV):AV:=.agg [aA m.fr,aA m.to]
theorem E9(m:MapV):Dat (Md m):=Dat.agg (DatL.cons (dt _) (DatL.cons (dt _) DatL.nil))
instance datI_encM{m:MapV}:DatI (Md m):=⟨E9 m⟩
attribute [local irreducible] aJ aj bf aX aP aQ aD aS a6 bk Go.Abs.Fn aV Go.Abs.Pure ar aK Yl
theorem Fa{H:Hp}{a b:Bool}{e f:Int}(h1:a=b)(h2:e=f):Snap H (.tup [.bool a,.int .i64 e]) (.tup [.bool b,.int .i64 f]):=by
 subst h1 h2;exact br (ah (.bool _) (ah (.int _ _) ak))
end Go.Proofs.YtekdaafnjdlenaaGreat
namespace Go.Proofs.YtekdaafnjdlenaaGreat
open Go Go.Abs
theorem Au{c:List Spx}:kI c=true↔c.length≤30∧∀s∈c,s.length≤10:=by
 unfold kI;rw[dz,wW,ea];simp only[wW]
attribute [local irreducible] aJ aj bf aX aP aQ aD aS a6 bk Go.Abs.Fn aV Go.Abs.Pure ar aK Yl
end Go.Proofs.YtekdaafnjdlenaaGreat
namespace Go.Proofs.YtekdaafnjdlenaaGreat
open Go Go.Abs
def ca:Spx→Nat→List Spx
 |_,0=>[[]]
 |[],_+1=>[]
 |x::l,k+1=>(ca l k).map (x:: ·)++ca l (k+1)
theorem nS{l:Spx}:ca l 0=[[]]:=by cases l<;>rfl
theorem yX{k:Nat}:ca [] (k+1)=[]:=rfl
theorem iU{x:Vtx}{l:Spx}{k:Nat}:ca (x::l) (k+1)=(ca l k).map (x:: ·)++ca l (k+1):=rfl
theorem d7:∀{l:Spx}{k:Nat}{s:Spx},s∈ca l k↔s.Sublist l∧s.length=k
 |l,0,s=>by
  rw[nS,de];exact⟨fun h=>by subst h;exact⟨List.nil_sublist _,rfl⟩,fun h=>fq.1 h.2⟩
 |[],k+1,s=>by
  rw[yX];refine⟨fun h=>(by cases h),fun⟨h1,h2⟩=>?_⟩;rw[List.sublist_nil] at h1;subst h1;simp at h2
 |x::l,k+1,s=>by
  rw[iU,eD,bK,d7];constructor
  ·rintro(⟨t,ht,rfl⟩|⟨h1,h2⟩)
   ·have:=d7.1 ht;exact⟨this.1.cons_cons x,by simp[this.2]⟩
   ·exact⟨h1.cons x,h2⟩
  ·rintro⟨h1,h2⟩;cases h1 with
   |cons _ h=>exact .inr ⟨h,h2⟩
   |cons_cons _ h=>exact .inl ⟨_,d7.2 ⟨h,by simpa using h2⟩,rfl⟩
theorem kX{l:Spx}{k:Nat}(h:l.length<k):ca l k=[]:=by
 cases e:ca l k with
 |nil=>rfl
 |cons a r=>
  have:=d7.1 (show a∈ca l k by rw[e];exact dq);have:=this.1.length_le;omega
def chK:Nat→Nat→Nat
 |_,0=>1
 |0,_+1=>0
 |n+1,k+1=>chK n k+chK n (k+1)
theorem KE{n:Nat}:chK n 0=1:=by cases n<;>rfl
theorem ub:∀{l:Spx}{k:Nat},(ca l k).length=chK l.length k
 |l,0=>by rw[nS,KE];rfl
 |[],k+1=>rfl
 |x::l,k+1=>by
  rw[iU,cS,bt,ub,ub];rfl
theorem IS{n k:Nat}(hn:n≤8):chK n k≤70:=by
 by_cases hk:k≤8
 ·have:∀n,n<9→∀k,k<9→chK n k≤70:=by decide
  exact this n (by omega) k (by omega)
 ·have:∀n k,n<k→chK n k=0:=by
    intro n
    induction n with
    |zero=>intro k h;match k,h with|k+1,_=>rfl
    |succ n ih=>intro k h;match k,h with|k+1,h=>show chK n k+chK n (k+1)=0;rw[ih k (by omega),ih (k+1) (by omega)]
  rw[this n k (by omega)];omega
theorem oz{l:Spx}{k:Nat}(h:l.length≤8):(ca l k).length≤70:=by rw[ub];exact IS h
theorem uF{l:Spx}{i k:Nat}(hi:i<l.length):ca (l.drop i) (k+1)=(ca (l.drop (i+1)) k).map (l.getD i default:: ·)++ca (l.drop (i+1)) (k+1):=by
 rw[List.drop_eq_getElem_cons hi,iU];simp[List.getD,hi]
theorem uK{v w:Vtx}{l m:Spx}:bl (v::l) (w::m)=if cC v w≠0 then cC v w else bl l m:=rfl
theorem Cw{v:Vtx}{l m:Spx}:bl (v::l) (v::m)=bl l m:=by
 rw[uK,if_neg (fun h=>h (iT.2 rfl))]
theorem mf:∀{l:Spx}{k:Nat},b8 cC l→b8 bl (ca l k)
 |l,0,_=>by rw[nS];exact List.pairwise_singleton _ _
 |[],k+1,_=>qq
 |x::l,k+1,h=>by
  have h':=gU.1 h;rw[iU];unfold b8;rw[List.pairwise_append];refine⟨?_,mf h'.2,?_⟩
  ·rw[List.pairwise_map];exact xK (fun{a b} hab=>by rw[Cw];exact hab) (mf (k:=k) h'.2)
  ·intro a ha b hb;obtain⟨t,_,rfl⟩:=bK.1 ha;have hb':=d7.1 hb;cases b with
   |nil=>simp at hb'
   |cons y r=>
    have hy:y∈l:=hb'.1.subset dq;have:=h'.1 y hy;rw[uK,if_pos (by omega)];exact this
end Go.Proofs.YtekdaafnjdlenaaGreat
namespace Go.Proofs.YtekdaafnjdlenaaGreat
open Go Go.Abs
open Nat (reduceEqDiff reduceAdd reduceLeDiff)
attribute [local irreducible] aJ aj bf aX aP aQ aD aS a6 bk Go.Abs.Fn aV Go.Abs.Pure ar aK Yl
theorem Ej(s:AV)(l:Spx)(hl:l.length≤1000000)(h0:l≠[])(H:Hp)(nx:Nat)(hn:fx s=some l.length)(hs:∀H',(∀x,x<nx→H' x=H x)→er 2 H' s=some (l.length,cX l)):Abs.Fn Tryz.prog 136 [s] H nx fun r H' nx'=>r=.msl nx (l.length*2) 2 0 l.length∧H'=aq H nx (cX l)∧nx'=nx+1:=by
 have hpos:=jN.2 h0;refine fO Ie ?_;simp only[Jq,aG];refine wnY and_self ?_;refine wj (k:=l.length) (by((try simp only[bW,ZA,reduceEqDiff,↓reduceIte,reduceAdd,reduceLeDiff]);(try with_reducible rfl));exact hn) (fun h=>?_) (fun h=>by omega) (fun h=>by omega);refine wnY and_self ?_;refine ij rfl ev0 ev0 (hs _ fun x _=>rfl) (kB _) (by omega) (by omega) ?_;refine wnY and_self ?_;exact⟨rfl,rfl,rfl⟩
theorem JO{y lo kb sb k N:Nat}{s:Spx}(hs:s.length≤1000)(hk:k≤1000)(I:List Spx→Hp→Nat→Prop)
    (hp:∀S H nx,I S H nx→H kb=some [.int .i64 k]∧H sb=some [aA s]∧lo+3≤nx∧kb<lo∧sb<lo)
    (stab:∀S H H' nx nx',I S H nx→nx≤nx'→(∀i,i<nx→¬(lo≤i∧i<lo+3)→H' i=H i)→I S H' nx')
    (rnd:∀S f H nx,I S H nx→f.length=k→f≠[]→S.length<N→Yl Tryz.prog y [.msl nx (k*2) 2 0 k] (aq H nx (cX f)) (nx+1) fun r H' nx'=>r=.bool true∧I (S++[f]) H' nx'∧nx≤nx'∧∀i,lo≤i→i<lo+3→H' i=H i):
    ∀(j:Nat)(ch:Spx)(at_:Nat)(S:List Spx)(H:Hp)(nx:Nat),0<k→ch.length+j=k→S.length+(ca (s.drop at_) j).length≤N→at_≤s.length→I S H nx→H lo=some [.yld y]→H (lo+1)=some [.func 178 [.ptr kb 1 0,.ptr lo 1 0,.ptr sb 1 0,.ptr (lo+1) 1 0]]→(∃C,H (lo+2)=some C∧C.length=k*2∧C.take (ch.length*2)=cX ch)→
     Abs.Fn Tryz.prog 178 [.int .i64 at_,.msl (lo+2) (k*2) 2 0 ch.length,.ptr kb 1 0,.ptr lo 1 0,.ptr sb 1 0,.ptr (lo+1) 1 0] H nx fun r H' nx'=>r=.bool true∧I (S++(ca (s.drop at_) j).map (ch++ ·)) H' nx'∧nx≤nx'∧H' lo=H lo∧H' (lo+1)=H (lo+1)∧∃C,H' (lo+2)=some C∧C.length=k*2∧C.take (ch.length*2)=cX ch:=by
 intro j
 induction j with
 |zero=>
  intro ch at_ S H nx hk0 hj hN hat hI h1 h2 ⟨C,h3,hc1,hc2⟩;obtain⟨g1,g2,g3,g4,g5⟩:=hp _ _ _ hI;have hlen:ch.length=k:=by omega
  have hne:ch≠[]:=fun e=>by rw[e] at hlen;simp at hlen;omega
  obtain rfl:C=cX ch:=by rw[←hc2,fM (by omega)]
  refine fO HQ ?_;simp only[JM,aG];have hcl:=Ej (.msl (lo+2) (k*2) 2 0 k) ch (by omega) hne H nx (by rw[hlen];rfl) (fun H' hH'=>by rw[hlen];exact(fi (n:=k*2) (off:=0) (len:=k) ((hH' (lo+2) (by omega)).trans h3) hc1 (by omega)).trans (by rw[List.drop_zero,fM (by omega)]));rw[hlen] at hcl;rw[hlen];have z:decide ((k:Int)=k)=true:=aR rfl;refine wnY (zI5 @g1 @g2 @h1 @h2 @z) ?_;refine w_mix1 lo h1 fun S0 hS hsub=>?_;refine wnY @hS ?_;refine dS ?_;refine be ev0 ev0 hcl ?_;rintro _ H2 nx2 ⟨rfl,rfl,rfl⟩;refine jz ⟨hsub _ (by rw[ac (by omega)];exact h1),?_⟩;refine iV ?_;refine w7 ev0 ev0 (Yl.mono (rnd S ch H nx hI hlen hne (by rw[nS] at hN;exact hN)) ?_);rintro r H3 nx3 ⟨rfl,e1,e2,e3⟩;refine wnY and_self ?_;refine⟨rfl,?_,e2,e3 _ (by omega) (by omega),e3 _ (by omega) (by omega),cX ch,(e3 _ (by omega) (by omega)).trans h3,hc1,by rw[←hlen];exact hc2⟩;rw[nS,fB,List.map_nil,fP];exact e1
 |succ j ih=>
  intro ch at_ S H nx hk0 hj hN hat hI h1 h2 ⟨C,h3,hc1,hc2⟩;obtain⟨g1,g2,g3,g4,g5⟩:=hp _ _ _ hI;refine fO HQ ?_;simp only[JM,aG];have z:decide ((ch.length:Int)=k)=false:=aU (by omega);refine wnY (zI5 @g1 @g2 @h1 @h2 @z) ?_;refine bT (X:=Nat×List Spx) (fun x=>[(1,.msl (lo+2) (k*2) 2 0 ch.length),(4,.ptr sb 1 0),(5,.ptr (lo+1) 1 0),(9,.int .i64 x.1)]) (fun x H' nx'=>x.1≤s.length∧I x.2 H' nx'∧nx≤nx'∧H' lo=H lo∧H' (lo+1)=H (lo+1)∧(∃C,H' (lo+2)=some C∧C.length=k*2∧C.take (ch.length*2)=cX ch)∧x.2++(ca (s.drop x.1) (j+1)).map (ch++ ·)=S++(ca (s.drop at_) (j+1)).map (ch++ ·)) (fun x=>s.length-x.1) (at_,S) ⟨hat,hI,aO _,rfl,rfl,⟨C,h3,hc1,hc2⟩,rfl⟩ ag0 ?_;rintro⟨i,S1⟩ H1 nx1 ⟨i1,hI1,i2,i3,i4,⟨C1,k3,d1,d2⟩,htot⟩;dsimp only at i1 hI1 htot ⊢;obtain⟨q1,q2,q3,q4,q5⟩:=hp _ _ _ hI1;have w1:=i3.trans h1;have w2:=i4.trans h2;by_cases hi:i<s.length
  rotate_left
  ·refine wnY (zI3 @q1 @q2 @ao) ?_;rw[show s.drop i=[] from EZ (by omega),yX,List.map_nil,fP] at htot;exact⟨rfl,by rw[←htot];exact hI1,i2,i3,i4,C1,k3,d1,d2⟩
  have ix:=ix2 hi;rw[uF hi,cu,List.map_map,←lN] at htot;have hmm:(ca (s.drop (i+1)) j).map ((fun x=>ch++x) ∘ fun x=>s.getD i default::x)=(ca (s.drop (i+1)) j).map ((ch++[s.getD i default])++ ·):=uv fun x _=>by simp
  rw[hmm] at htot;generalize s.getD i default=v at *;refine wnY (zI3 @q1 @q2 @ao) ?_;refine pE sb (lo+1) q2 w2 (by omega) fun S0 hS1 hS2 hsub=>?_;refine wnY (zI3 @hS1 @hS2 @ix) ?_;refine dS ?_;refine wnY and_self ?_;refine⟨hsub _ (by rw[ac (by omega)];exact q2) (by rw[ac (by omega)];exact w2),?_⟩;refine dS ?_;refine AJ (b:=lo+2) (m:=k*2) (off:=0) (len:=ch.length) (n:=1) rfl ev0 (by rw[ac (by omega)];exact k3) ev0 ql rfl d1 (fun _=>by omega) (by omega) (by omega) ?_;refine jz ⟨hsub _ (by rw[ac (by omega),ac (by omega)];exact q2) (by rw[ac (by omega),ac (by omega)];exact w2),?_⟩;refine iV ?_;have hl1:(ch++[v]).length=ch.length+1:=by simp
  have hcc:=gA ch
  have hput:(bG C1 (0+ch.length*2) [.int .i64 v.color,.int .i64 v.label]).length=k*2∧(bG C1 (0+ch.length*2) [.int .i64 v.color,.int .i64 v.label]).take ((ch.length+1)*2)=cX (ch++[v]):=by
   rw[ce];simp only[bG];refine⟨by simp[d1];omega,?_⟩;rw[d2,mI,II,Hc (by simp[hcc];omega),fM (by simp[hcc];omega)]
  have hN1:S1.length+(ca (s.drop (i+1)) j).length≤N:=by
   have:=congrArg List.length htot;simp only[cS,bt] at this;omega
  have hih:=ih (ch++[v]) (i+1) S1 (aq (aq H1 nx1 [.int .i64 v.color,.int .i64 v.label]) (lo+2) (bG C1 (0+ch.length*2) [.int .i64 v.color,.int .i64 v.label])) (nx1+1) hk0 (by omega) hN1 (by omega) (stab _ _ _ _ _ hI1 (by omega) (fun x hx hn=>by rw[ac (by omega),ac (by omega)])) (by rw[ac (by omega),ac (by omega)];exact w1) (by rw[ac (by omega),ac (by omega)];exact w2) ⟨_,ag,hput.1,by rw[hl1];exact hput.2⟩;rw[hl1,show((i+1:Nat):Int)=(i:Int)+1 by omega] at hih;refine be ev0 ev0 hih ?_;rintro r H4 nx4 ⟨rfl,f1,f2,f3,f4,C4,f5,f6,f7⟩;refine wnY and_self ?_;refine⟨(i+1,S1++(ca (s.drop (i+1)) j).map ((ch++[v])++ ·)),by dsimp only;omega,⟨by dsimp only;omega,f1,by omega,f3.trans ?_,f4.trans ?_,⟨C4,f5,f6,?_⟩,htot⟩,ag0⟩
  ·rw[ac (by omega),ac (by omega)];exact i3
  ·rw[ac (by omega),ac (by omega)];exact i4
  ·have:=congrArg (List.take (ch.length*2)) f7;rw[List.take_take,Nat.min_eq_left (by omega),mI,Hc (by omega)] at this;rw[this];exact fM (by omega)
end Go.Proofs.YtekdaafnjdlenaaGreat
namespace Go.Proofs.YtekdaafnjdlenaaGreat
open Go Go.Abs
open Nat (reduceEqDiff reduceAdd reduceLeDiff)
attribute [local irreducible] aJ aj bf aX aP aQ aD aS a6 bk Go.Abs.Fn aV Go.Abs.Pure ar aK Yl
theorem EO{y kb sb k:Nat}{s:Spx}{H:Hp}{nx:Nat}(hs:s.length≤1000)(hk0:0<k)(hk:k≤1000)(I:List Spx→Hp→Nat→Prop)
    (hp:∀S H nx',I S H nx'→H kb=some [.int .i64 k]∧H sb=some [aA s]∧nx+3≤nx'∧kb<nx∧sb<nx)
    (stab:∀S H H' nx1 nx',I S H nx1→nx1≤nx'→(∀i,i<nx1→¬(nx≤i∧i<nx+3)→H' i=H i)→I S H' nx')
    (rnd:∀S f H nx1,I S H nx1→f.length=k→f≠[]→S.length<(ca s k).length→Yl Tryz.prog y [.msl nx1 (k*2) 2 0 k] (aq H nx1 (cX f)) (nx1+1) fun r H' nx'=>r=.bool true∧I (S++[f]) H' nx'∧nx1≤nx'∧∀i,nx≤i→i<nx+3→H' i=H i)
    (gk:H kb=some [.int .i64 k]) (lk:kb<nx) (h0:∀H',(∀i,i<nx→H' i=H i)→I [] H' (nx+3)):
    Abs.Fn Tryz.prog 177 [.yld y,.ptr kb 1 0,.ptr sb 1 0] H nx fun _ H' nx'=>I (ca s k) H' nx':=by
 refine fO LO ?_;simp only[KT,aG];refine wnY @gk ?_;generalize hH:aq (aq (aq H nx [.yld y]) (nx+1) [.nilf]) (nx+1) (bG [.nilf] 0 [.func 178 [.ptr kb 1 0,.ptr nx 1 0,.ptr sb 1 0,.ptr (nx+1) 1 0]])=H1;have hfn:H1 (nx+1)=some [.func 178 [.ptr kb 1 0,.ptr nx 1 0,.ptr sb 1 0,.ptr (nx+1) 1 0]]:=by rw[←hH,ag];rfl
 have hfk:H1 kb=some [.int .i64 k]:=by rw[←hH,ac (by omega),ac (by omega),ac (by omega)];exact gk
 have hfy:H1 nx=some [.yld y]:=by rw[←hH,ac (by omega),ac (by omega),ag]
 have hfo:∀i,i<nx→H1 i=H i:=fun i hi=>by rw[←hH,ac (by omega),ac (by omega),ac (by omega)]
 clear hH;refine pE kb (nx+1) hfk hfn (by omega) fun S0 hS1 hS2 hsub=>?_;refine wnY (aI @hS1 @hS2) ?_;refine dS ?_;refine xL (k1:=.i64) (k2:=.i64) (n:=0) (m:=k) rfl ev0 ev0 (Int.le_refl _) (by omega) (by omega) (by omega) ?_;refine jz ⟨hsub _ (by rw[ac (by omega)];exact hfk) (by rw[ac (by omega)];exact hfn),?_⟩;refine iV ?_;have hz:(bn (AV.agg [AV.int .i64 0,AV.int .i64 0]) k).length=k*2:=by simp[bn,AV.cells]
 have hih:=JO (y:=y) (N:=(ca s k).length) (lo:=nx) (kb:=kb) (sb:=sb) (k:=k) (s:=s) hs hk I hp stab rnd k [] 0 [] (aq H1 (nx+2) (bn (AV.agg [AV.int .i64 0,AV.int .i64 0]) k)) (nx+3) hk0 (by simp) (by simp) (bB _) (h0 _ (fun i hi=>by rw[ac (by omega)];exact hfo i hi)) (by rw[ac (by omega)];exact hfy) (by rw[ac (by omega)];exact hfn) ⟨_,ag,hz,rfl⟩;refine be ev0 (by((try simp only[bW,ZA,reduceEqDiff,↓reduceIte,reduceAdd,reduceLeDiff]);(try with_reducible rfl));rfl) hih ?_;rintro r H4 nx4 ⟨rfl,f1,-⟩;refine wnY and_self ?_;rw[List.drop_zero,List.nil_append,show(fun x:Spx=>([]:Spx)++x)=id from rfl,List.map_id] at f1;exact f1
theorem zo{kb sb k:Nat}{s:Spx}{H:Hp}{nx:Nat}(hs:s.length≤8)(hk0:0<k)(hk:k≤1000)(gk:H kb=some [.int .i64 k])(gs:H sb=some [aA s])(lk:kb<nx)(ls:sb<nx):
    Abs.Fn Tryz.prog 176 [.esl,.func 177 [.ptr kb 1 0,.ptr sb 1 0]] H nx fun r H' nx'=>Row H' 1 r ((ca s k).map aA)∧nx≤nx'∧∀b',bF r=some b'→nx≤b'∧b'<nx':=by
 refine fO Mx ?_;simp only[Mg,aG];refine wnY and_self ?_;refine mW (nx+1) (nx+2) rfl rfl ev0 (fun c0 cj hy=>?_);refine Abs.Fn.mono (EO (nx:=nx+2) (kb:=kb) (sb:=sb) (k:=k) (s:=s) (by omega) hk0 hk (fun S H' nx'=>nx+5≤nx'∧H' kb=some [.int .i64 k]∧H' sb=some [aA s]∧H' (nx+1)=some [c0]∧∃sv,H' nx=some [sv]∧Row H' 1 sv (S.map aA)∧∀b',bF sv=some b'→nx+5≤b'∧b'<nx') ?_ ?_ ?_ ?_ ?_ ?_) ?_
 ·rintro S H' nx' ⟨h1,h2,h3,h4,h5⟩;exact⟨h2,h3,by omega,by omega,by omega⟩
 ·rintro S H1 H2 a c ⟨h1,h2,h3,h4,sv,h5,h6,h7⟩ hac hs';refine⟨by omega,(hs' _ (by omega) (by omega)).trans h2,(hs' _ (by omega) (by omega)).trans h3,(hs' _ (by omega) (by omega)).trans h4,sv,(hs' _ (by omega) (by omega)).trans h5,h6.same (fun b' hb'=>hs' _ (h7 b' hb').2 (by have:=h7 b' hb';omega)),fun b' hb'=>⟨(h7 b' hb').1,by have:=h7 b' hb';omega⟩⟩
 ·rintro S f H' nx' ⟨h1,h2,h3,h4,sv,h5,h6,h7⟩ hfl hf0 hSN;have h4':aq H' nx' (cX f) (nx+1)=some [c0]:=by rw[ac (by omega)];exact h4
  refine hy _ _ _ _ h4' rfl ?_;clear hy;refine wnZ and_self ?_;refine⟨h4',?_⟩;have hS70:=yj hSN (oz (k:=k) hs);have hd:dh (aq H' nx' (cX f)) (nx+1) nx'=some (cX f):=by rw[cf (by omega),ag]
  have hdo:∀x,x<nx'→x≠nx+1→dh (aq H' nx' (cX f)) (nx+1) x=H' x:=fun x a b=>by rw[cf b,ac (by omega)]
  generalize dh (aq H' nx' (cX f)) (nx+1)=H1 at *;refine kW ?_;refine pr (only nx' (cX f)) (dh H1 nx') [(2,.ptr nx 1 0),(5,aA f)] (Fz.one hd) ⟨.inl rfl,.inr (Gf (s:=.msl nx' (k*2) 2 0 k) (by rw[←hfl];exact Row.box nx' f.length (cX f) iL (gA f))),trivial⟩ ?_;have he:∀x,x<nx'→x≠nx+1→dh H1 nx' x=H' x:=fun x a b=>by rw[cf (by omega)];exact hdo x a b
  have g5:dh H1 nx' nx=some [sv]:=(he nx (by omega) (by omega)).trans h5;clear hd hdo;generalize dh H1 nx'=H2 at *;refine wnY (zI3 @g5 @a7 @aL) ?_;refine eR (h6.same fun b' hb'=>?_) ?_
  ·have:=h7 b' hb';rw[ac (by omega)];exact he _ (by omega) (by omega)
  rintro sv' H3 nx3 r1 r2 r3 r4 r5;have zs:∀x,x<nx+5→bF sv≠some x:=fun x hx e=>by have:=h7 x e;omega
  have z:∀x,x<nx'→x≠nx+1→bF sv≠some x→H3 x=H' x:=fun x a1 a2 a3=>(r4 x (by omega) a3).trans (by rw[ac (by omega)];exact he x a1 a2);have g6:H3 nx=some [sv]:=(z nx (by omega) (by omega) (zs _ (by omega))).trans h5;obtain⟨q1,q2⟩:=r1.one;refine wnY (zI3 @g6 @q1 @q2) ?_;have w:∀x,x≠nx→x≠nx+1→aq (aq H3 nx (bG [sv] 0 [sv'])) (nx+1) [c0] x=H3 x:=fun x a1 a2=>by rw[ac a2,ac a1]
  have u7:∀b',bF sv'=some b'→nx+5≤b'∧b'<nx3:=fun b' hb'=>by
   rcases r5 b' hb' with e|⟨e1,e2⟩
   ·have:=h7 b' e;omega
   ·omega
  refine⟨rfl,⟨by omega,?_,?_,ag,sv',?_,?_,u7⟩,by omega,fun x x1 x2=>?_⟩
  ·rw[w _ (by omega) (by omega),z _ (by omega) (by omega) (zs _ (by omega)),h2]
  ·rw[w _ (by omega) (by omega),z _ (by omega) (by omega) (zs _ (by omega)),h3]
  ·rw[ac (by omega),ag];rfl
  ·rw[cu];exact r1.same (fun b' hb'=>w b' (by have:=u7 b' hb';omega) (by have:=u7 b' hb';omega))
  ·rw[w _ (by omega) (by omega),z _ (by omega) (by omega) (zs _ (by omega))]
 ·rw[ac (by omega),ac (by omega)];exact gk
 ·omega
 ·intro H' hH';refine⟨by omega,?_,?_,?_,.esl,?_,.nil,fun b' hb'=>(by cases hb')⟩
  ·rw[hH' _ (by omega),ac (by omega),ac (by omega),gk]
  ·rw[hH' _ (by omega),ac (by omega),ac (by omega),gs]
  ·rw[hH' _ (by omega),ag]
  ·rw[hH' _ (by omega),ac (by omega),ag]
 ·rintro r H' nx' ⟨h1,h2,h3,h4,sv,h5,h6,h7⟩;refine .inl ⟨h4,?_⟩;refine wnY @h5 ?_;exact⟨h6.same (fun b' hb'=>cf (by have:=h7 b' hb';omega)),by omega,fun b' hb'=>by have:=h7 b' hb';omega⟩
end Go.Proofs.YtekdaafnjdlenaaGreat
namespace Go.Proofs.YtekdaafnjdlenaaGreat
open Go Go.Abs
attribute [local irreducible] aJ aj bf aX aP aQ aD aS a6 bk Go.Abs.Fn aV Go.Abs.Pure ar aK Yl
end Go.Proofs.YtekdaafnjdlenaaGreat
namespace Go.Proofs.YtekdaafnjdlenaaGreat
open Go Go.Abs
def sd(s:Spx)(k:Int):List Spx×Int:=if bV s≠0 then([],bV s) else if k<1∨(s.length:Int)<k then([],2) else(ca s k.toNat,0)
theorem dR{H:Hp}{s:AV}{l:List Spx}{e f:Int}(h:Snap H s (am l))(he:e=f):Snap H (.tup [s,.int .i64 e]) (.tup [am l,.int .i64 f]):=by
 subst he;exact br (ah h (ah (.int _ _) ak))
attribute [local irreducible] aJ aj bf aX aP aQ aD aS a6 bk Go.Abs.Fn aV Go.Abs.Pure ar aK Yl
theorem E8(s:Spx)(k:Nat)(H:Hp)(nx:Nat):Abs.Fn Tryz.prog 160 [aA s,.int .i64 k] H nx fun r H' nx'=>r=.func 177 [.ptr (nx+1) 1 0,.ptr nx 1 0]∧H'=aq (aq H nx [aA s]) (nx+1) [.int .i64 k]∧nx'=nx+2:=by
 refine fO LR ?_;simp only[MI,aG];refine wnY (aI @a7 @aL) ?_;exact⟨rfl,rfl,rfl⟩
theorem Dy{kb sb k:Nat}{s:Spx}{H:Hp}{nx:Nat}(hs:s.length≤8)(hk0:0<k)(hk:k≤1000)(gk:H kb=some [.int .i64 k])(gs:H sb=some [aA s])(lk:kb<nx)(ls:sb<nx):
    Abs.Fn Tryz.prog 159 [.func 177 [.ptr kb 1 0,.ptr sb 1 0]] H nx fun r H' nx'=>Row H' 1 r ((ca s k).map aA)∧nx≤nx':=by
 refine fO Ml ?_;simp only[Lb,aG];refine wnY and_self ?_;refine be ev0 ev0 (zo hs hk0 hk gk gs lk ls) ?_;rintro r H1 nx1 ⟨r1,r2,r3⟩;obtain⟨q1,q2⟩:=r1.one;refine wnY (aI @q1 @q2) ?_;exact⟨r1,r2⟩
theorem En(s:Spx)(k:Int)(hs:Shn s):pU 137 [aA s,.int .i64 k] (.tup [am (sd s k).1,.int .i64 (sd s k).2]):=by
 refine pO Lg ?_;simp only[Kn,aG];have hc:=pk s hs;unfold sd;by_cases he:bV s=0
 rotate_left
 ·rw[if_pos he];have z:decide (bV s≠0)=true:=aR he;refine wnY @z ?_;exact dR (.eslsl _) rfl
 rw[if_neg (fun h=>h he)];rw[he] at hc;obtain⟨p1,p2,p3,p4⟩:=co he;have z0:decide ((0:Int)≠0)=false:=rfl;by_cases hk:k<1∨(s.length:Int)<k
 ·rw[if_pos hk];have zz:=aI @z0 @ao;repeat' (first|refine zW ?_|apply a_n|apply a_r|refine zO ?_|refine vY ?_|refine cY ?_ (hp:=hc) (hs:=by(first|refine aF ?_ rfl|apply aY);(repeat' (first|exact ak|apply bv|apply a5|exact dt _));first|done|fail)|refine gTY ?_|refine gFY ?_|refine cTY ?_|refine cFY ?_|(refine zGY ?_ ?_<;>(intro _hg;try (exfalso;omega)))|refine bR rfl ?_|refine r2Y ?_|fail)
  all_goals first|exact dR (.eslsl _) rfl|(exfalso;omega)
 rw[if_neg hk];obtain⟨n,rfl⟩:∃n:Nat,k=n:=⟨k.toNat,by omega⟩
 rw[cr];refine wnY (aI @z0 @ao) ?_;refine be ev0 ev0 (E8 s n _ _) ?_;rintro _ H1 nx1 ⟨rfl,rfl,rfl⟩;refine be ev0 ev0 (Dy (kb:=0+1) (sb:=0) (k:=n) (s:=s) p2 (by omega) (by omega) ag (by rw[ac (by omega),ag]) (by omega) (by omega)) ?_;rintro r H2 nx2 ⟨r1,r2⟩;obtain⟨q1,q2⟩:=r1.one;refine wnY (aI @q1 @q2) ?_;exact dR (gL r1) rfl
end Go.Proofs.YtekdaafnjdlenaaGreat
namespace Go.Proofs.YtekdaafnjdlenaaGreat
open Go Go.Abs
def wc(l:List Spx)(v:Spx)(k:Nat):List Spx:=if (l.take k).any (fun y=>decide (bl v y<0))=true then kP bl (l.take k) v else l.take k
theorem Dr{l:List Spx}{v:Spx}{k:Nat}(hk:k<l.length):wc l v (k+1)=(if (l.take k).any (fun y=>decide (bl v y<0))=false∧bl v (l.getD k default)<0 then wc l v k++[v] else wc l v k)++[l.getD k default]∧(l.take (k+1)).any (fun y=>decide (bl v y<0))=((l.take k).any (fun y=>decide (bl v y<0)) || decide (bl v (l.getD k default)<0)):=by
 unfold wc;rw[b5 hk,FE];refine⟨?_,rfl⟩;by_cases hv:bl v (l.getD k default)<0
 ·rw[aR hv,Bool.or_true,if_pos rfl];cases ha:(l.take k).any fun y=>decide (bl v y<0)
  ·rw[if_pos ⟨rfl,hv⟩,if_neg (by decide),Dk ha hv]
  ·rw[if_neg (fun h=>by cases h.1),if_pos rfl,yC ha]
 ·rw[aU hv,Bool.or_false];cases ha:(l.take k).any fun y=>decide (bl v y<0)
  ·simp;simpa using hv
  ·simp[hv,yC ha]
theorem Er{l:List Spx}{v:Spx}{k:Nat}:(wc l v k).length≤l.length+1:=by
 unfold wc;split
 ·rw[yI,f0];omega
 ·rw[f0];omega
attribute [local irreducible] aJ aj bf aX aP aQ aD aS a6 bk Go.Abs.Fn aV Go.Abs.Pure ar aK Yl
theorem GP(l:List Spx)(v:Spx)(hl:l.length≤1000000)(hs:∀s∈l,Shn s)(hv:Shn v):pU 105 [am l,aA v] (am (lX bl l v)):=by
 refine pO Mq ?_;simp only[Ma,aG];refine wnY @ae ?_;refine lpI (X:=Nat×AV) (fun x=>[(0,am l),(1,aA v),(5,x.2),(6,.bool ((l.take x.1).any fun y=>decide (bl v y<0))),(7,.int .i64 x.1)]) (fun x H nx=>x.1≤l.length∧Row H 1 x.2 ((wc l v x.1).map aA)∧(∀b,bF x.2=some b→b<nx)∧∀i,i<x.1→l.getD i default≠v) (fun x=>l.length-x.1) (0,.esl) ⟨bB _,Row.nil,fun b h=>(by cases h),fun i h=>absurd h (by omega)⟩ ?_;rintro⟨k,sv⟩ H nx ⟨hk,hrow,hbd,hne⟩;dsimp only at hk hrow hbd hne ⊢;by_cases hk2:k<l.length
 rotate_left
 ·obtain rfl:k=l.length:=by omega
  unfold wc at hrow;rw[List.take_length] at hrow ⊢
  have hnm:v∉l:=fun hm=>by
   obtain⟨i,hi,e⟩:=jp hm;exact hne i hi (by simp[List.getD,hi,e])
  unfold lX;rw[if_neg hnm];cases ha:l.any fun y=>decide (bl v y<0)
  ·rw[ha,if_neg (by decide)] at hrow;refine wnY (zI3 @ae @a7 @aL) ?_;refine iW rfl ev0 (hrow.same fun b hb=>?_) ev0 fv rfl rfl (by omega) (by simp;omega) (by simp;omega) ?_
   ·have:=hbd b hb;rw[ac (by omega)]
   rintro s2 H2 nx2 hr2 _ _ _ _;obtain⟨o1,o2⟩:=hr2.one;refine wnY (aI @o1 @o2) ?_;rw[CS ha];refine gL ?_;rw[cu];exact hr2
  ·rw[ha,if_pos rfl] at hrow;obtain⟨o1,o2⟩:=hrow.one;refine wnY (zI3 @ae @o1 @o2) ?_;exact gL hrow
 have ix:=ec hk2;have hc:=lh v (l.getD k default) hv (hs _ (az hk2));have hz:=@vA v (l.getD k default);obtain⟨e1,e2⟩:=Dr (v:=v) hk2;have hl1:((wc l v k).map aA).length≤1000001:=by rw[bt];have:=Er (l:=l) (v:=v) (k:=k);omega
 have hmem:l.getD k default∈l:=az hk2;by_cases h0:bl v (l.getD k default)=0
 ·have e:=hz.1 h0;have hp:lX bl l v=l:=by unfold lX;rw[if_pos (by rw[e];exact hmem)]
  rw[hp];rw[h0] at hc;have z0:decide ((0:Int)=0)=true:=rfl;generalize l.getD k default=w at *;refine wnY (zI5 @ae @ix @z0 @a7 @aL) ?_;exact bI _ _
 have hnew:∀i,i<k+1→l.getD i default≠v:=fun i hi=>by
  rcases i9.1 hi with h'|rfl
  ·exact hne i h'
  ·exact fun e=>h0 (hz.2 e.symm)
 have z0:decide (bl v (l.getD k default)=0)=false:=aU h0;by_cases hd:(l.take k).any (fun y=>decide (bl v y<0))=false∧bl v (l.getD k default)<0
 ·rw[if_pos hd] at e1;rw[hd.1,aR hd.2,Bool.false_or] at e2;obtain⟨d1,d2⟩:=hd;rw[d1];have z:decide (bl v (l.getD k default)<0)=true:=aR d2;generalize bl v (l.getD k default)=cv at *;generalize l.getD k default=w at *;refine wnY (zI6 @ae @ix @z @z0 @a7 @aL) ?_;refine eR (hrow.same fun b hb=>?_) ?_
  ·have:=hbd b hb;rw[ac (by omega)]
  rintro s1 H1 nx1 hr1 j1 j2 j3 j4
  have hb1:∀b,bF s1=some b→b<nx1:=fun b hb=>by
   rcases j4 b hb with h|h
   ·have:=hbd b h;omega
   ·omega
  obtain⟨o1,o2⟩:=hr1.one;refine wnY (zI5 @ix @o1 @o2 @a7 @aL) ?_;refine iW rfl ev0 (hr1.same fun b hb=>?_) ev0 fv rfl rfl (by omega) (by simp at hl1 ⊢;omega) (by simp at hl1 ⊢;omega) ?_
  ·have:=hb1 b hb;rw[ac (by omega)]
  rintro s2 H2 nx2 hr2 i1 i2 i3 i4;refine wnY @e2 ?_;refine⟨(k+1,s2),by dsimp only;omega,⟨by dsimp only;omega,?_,fun b hb=>?_,hnew⟩,(have zz:=@e2;agZ)⟩
  ·dsimp only;rw[e1,cu,cu];exact hr2
  ·rcases i4 b hb with h|h
   ·have:=hb1 b h;omega
   ·omega
 rw[if_neg hd] at e1;cases ha:(l.take k).any fun y=>decide (bl v y<0)
 ·have d2:¬bl v (l.getD k default)<0:=fun h=>hd ⟨ha,h⟩;rw[ha,aU d2,Bool.false_or] at e2;have z:decide (bl v (l.getD k default)<0)=false:=aU d2;generalize bl v (l.getD k default)=cv at *;generalize l.getD k default=w at *;refine wnY (zI6 @ae @ix @z @z0 @a7 @aL) ?_;refine eR (hrow.same fun b hb=>?_) ?_
  ·have:=hbd b hb;rw[ac (by omega)]
  rintro s2 H2 nx2 hr2 i1 i2 i3 i4;refine wnY @e2 ?_;refine⟨(k+1,s2),by dsimp only;omega,⟨by dsimp only;omega,?_,fun b hb=>?_,hnew⟩,(have zz:=@e2;agZ)⟩
  ·dsimp only;rw[e1,cu];exact hr2
  ·rcases i4 b hb with h|h
   ·have:=hbd b h;omega
   ·omega
 ·rw[ha,Bool.true_or] at e2;generalize bl v (l.getD k default)=cv at *;generalize l.getD k default=w at *;refine wnY (zI5 @ae @ix @z0 @a7 @aL) ?_;refine eR (hrow.same fun b hb=>?_) ?_
  ·have:=hbd b hb;rw[ac (by omega)]
  rintro s2 H2 nx2 hr2 i1 i2 i3 i4;refine wnY @e2 ?_;refine⟨(k+1,s2),by dsimp only;omega,⟨by dsimp only;omega,?_,fun b hb=>?_,hnew⟩,(have zz:=@e2;agZ)⟩
  ·dsimp only;rw[e1,cu];exact hr2
  ·rcases i4 b hb with h|h
   ·have:=hbd b h;omega
   ·omega
end Go.Proofs.YtekdaafnjdlenaaGreat
namespace Go.Proofs.YtekdaafnjdlenaaGreat
open Go Go.Abs
theorem qF{H:Hp}{t x x':AV}{cs c:List AV}{nb:Nat}(hrow:Row H 1 t (cs++[x]))(hx:H nb=some c)(hs:Snap (only nb c) x x')(hne:bF t≠some nb):∃H',Fz (only nb c) H H'∧Row H' 1 t (cs++[x'])∧∀y,y≠nb→bF t≠some y→H' y=H y:=by
 generalize hcs:cs++[x]=ds at hrow;cases hrow with
 |nil=>exact absurd (congrArg List.length hcs) (by simp)
 |box b len ds g1 g2=>
  have hb:b≠nb:=fun e=>hne (by rw[e];rfl);refine⟨aq (dh H nb) b (cs++[x']),⟨fun y d h=>?_,fun y d h=>?_⟩,Row.box b len _ ag (by rw[←g2,←hcs];simp),fun y h1 h2=>?_⟩
  ·unfold only at h;split at h
   ·rename_i e;rw[e,hx];exact h
   ·cases h
  ·by_cases e:y=b
   ·subst e;rw[ag] at h;cases h;exact⟨ds,g1,if_neg hb,by rw[←hcs];exact gg.snoc hs⟩
   ·rw[ac e] at h;by_cases e2:y=nb
    ·rw[e2] at h;exact absurd h (by simp[dh])
    ·rw[cf e2] at h;exact⟨d,h,if_neg e2,gg.refl _ _⟩
  ·rw[ac (fun e=>h2 (by rw[e];rfl)),cf h1]
theorem sO{l:Spx}{k:Nat}(h:k≤l.length):jH 2 (aA l) (some (.int .i64 k)) none none=some (aA (l.drop k)):=kC h
attribute [local irreducible] aJ aj bf aX aP aQ aD aS a6 bk Go.Abs.Fn aV Go.Abs.Pure ar aK Yl
theorem Ae:∀(k:Nat)(s:Spx),k≤1000→s.length≤8→pU 104 [aA s,.int .i64 k] (am (ca s k)):=by
 intro k
 induction k with
 |zero=>
  intro s hkk hs;refine pO HV ?_;simp only[JI,aG];rw[nS];have z:decide (((0:Nat):Int)=0)=true:=rfl;refine wnY @z ?_;refine jd (l:=[aA []]) ag rfl (by simp) rfl (fun y hy=>?_) (fun i a c ha hc=>?_)
  ·simp at hy;subst hy;rfl
  ·match i with
   |0=>simp at ha hc;subst ha hc;exact .eslsl 2
 |succ k ih=>
  intro s hkk hs;refine pO HV ?_;simp only[JI,aG];have z:decide (((k+1:Nat):Int)=0)=false:=aU (by omega);have htot:=oz (l:=s) (k:=k+1) hs;refine wnY @z ?_;refine lpI (X:=Nat×AV×List Spx) (fun x=>[(0,aA s),(1,.int .i64 ((k+1:Nat):Int)),(5,x.2.1),(6,.int .i64 x.1)]) (fun x H nx=>x.1≤s.length∧Row H 1 x.2.1 (x.2.2.map aA)∧(∀b,bF x.2.1=some b→b<nx)∧x.2.2++ca (s.drop x.1) (k+1)=ca s (k+1)) (fun x=>s.length-x.1) (0,.esl,[]) ⟨bB _,Row.nil,fun b h=>(by cases h),rfl⟩ ?_;rintro⟨i,sv,D⟩ H nx ⟨h1,hrow,hbd,hD⟩;dsimp only at h1 hrow hbd hD ⊢;by_cases hi:i+(k+1)≤s.length
  rotate_left
  ·have z2:decide ((i:Int)+((k+1:Nat):Int)≤s.length)=false:=aU (by omega);obtain⟨o1,o2⟩:=hrow.one;refine wnY (zI4 @ao @z2 @o1 @o2) ?_;rw[kX (by rw[wA];omega),fP] at hD;rw[←hD];exact gL hrow
  have z2:decide ((i:Int)+((k+1:Nat):Int)≤s.length)=true:=aR (by omega);have hi2:i<s.length:=by omega
  have tk:((k+1:Nat):Int)-1=(k:Nat):=by omega
  have ti:(i:Int)+1=(i+1:Nat):=by omega
  have hsl:=sO (l:=s) (k:=i+1) (by omega);have hcall:=ih (s.drop (i+1)) (by omega) (by rw[wA];omega);have hR:=oz (l:=s.drop (i+1)) (k:=k) (by rw[wA];omega)
  have hRl:∀f∈ca (s.drop (i+1)) k,f.length≤8:=fun f hf=>by
   have:=(d7.1 hf).1.length_le;rw[wA] at this;omega
  have ix:=ix2 hi2;have hDD:D++(ca (s.drop (i+1)) k).map (s.getD i default:: ·)++ca (s.drop (i+1)) (k+1)=ca s (k+1):=by rw[←hD,uF hi2,lN]
  have hDl:D.length+(ca (s.drop (i+1)) k).length≤70:=by
   have:=congrArg List.length hDD;rw[cS,cS,bt] at this;omega
  clear hD htot;generalize ca (s.drop (i+1)) k=R at *;generalize s.getD i default=v at *;obtain⟨o1,o2⟩:=hrow.one;refine wnY (zI8 @ao @ae @z2 @tk @ti @hsl @o1 @o2) ?_;refine za (X:=Nat×AV) (fun x=>[(0,aA s),(1,.int .i64 ((k+1:Nat):Int)),(5,x.2),(6,.int .i64 i),(7,am R),(8,.int .i64 x.1)]) (fun x H nx=>x.1≤R.length∧Row H 1 x.2 ((D++(R.take x.1).map (v:: ·)).map aA)∧∀b,bF x.2=some b→b<nx) (fun x=>R.length-x.1) (0,sv) ⟨bP,_,Fz.none,⟨bB _,by rw[List.take_zero,List.map_nil,fP];exact hrow,hbd⟩,jt ag0⟩ ?_;clear hrow hbd o1 o2;rintro⟨j,sv⟩ H1 nx1 ⟨j1,hrow,hbd⟩;dsimp only at j1 hrow hbd ⊢;obtain⟨o1,o2⟩:=hrow.one;by_cases hj:j<R.length
  rotate_left
  ·rw[fM (by omega)] at hrow;refine wnY (zI3 @ae @o1 @o2) ?_;exact⟨(i+1,sv,D++R.map (v:: ·)),by dsimp only;omega,⟨by dsimp only;omega,hrow,hbd,hDD⟩,ag0⟩
  have iy:=ec hj;have hfl:=hRl _ (az hj)
  have e1:(D++(R.take (j+1)).map (v:: ·)).map aA=(D++(R.take j).map (v:: ·)).map aA++[aA (v::R.getD j default)]:=by
   simp only[b5 hj,cu,lN,fB,List.map_nil]
  have hln:((D++(R.take j).map (v:: ·)).map aA).length≤70:=by simp;omega
  generalize R.getD j default=f at *;refine wnY (zI5 @ae @ix @iy @o1 @o2) ?_;refine wJ bP rfl (fun y cs h=>by cases h) ?_;refine wnY (aI @ix @iy) ?_;refine dS ?_;refine wnY and_self ?_;refine⟨fun y cs h=>(by cases h),?_⟩;refine iV ?_;refine iW (sv:=.msl nx1 2 2 0 1) (cs:=[.int .i64 v.color,.int .i64 v.label]) rfl ev0 (Row.box nx1 1 _ ag rfl) ev0 uY (kB f) (gA f) (by omega) (by simp;omega) (by simp;omega) ?_;rintro s2 H2 nx2 r1 r2 r3 r4 r5
  obtain⟨b2,rfl,hb2,hb3⟩:∃b2,s2=.msl b2 ((f.length+1)*2) 2 0 (f.length+1)∧H2 b2=some (cX (v::f))∧nx1≤b2∧b2<nx2:=by
   have hcl:=gA (v::f);have h5:=r5;have r1':Row H2 2 s2 (cX (v::f)):=r1;generalize cX (v::f)=cs at r1' hcl ⊢;cases r1' with
   |nil=>simp at hcl
   |box b len cs g1 g2=>
    obtain rfl:len=f.length+1:=by rw[hcl] at g2;simp at g2;omega
    refine⟨b,rfl,g1,?_,?_⟩
    ·rcases h5 b rfl with e|⟨e,_⟩
     ·cases e;omega
     ·omega
    ·rcases h5 b rfl with e|⟨e,e2⟩
     ·cases e;omega
     ·omega
  refine jz ?_;refine HU (pv:=[(0,1,.msl b2 ((f.length+1)*2) 2 0 (f.length+1))]) (cs:=[.msl b2 ((f.length+1)*2) 2 0 (f.length+1)]) ev0 rfl (by decide) rfl rfl ?_;refine iV ?_;have hold:∀b,b<nx1→H2 b=H1 b:=fun b hb=>by rw[r4 b (by omega) (fun e=>by cases e;omega),ac (by omega)]
  refine iW rfl ev0 (hrow.same fun b hb=>hold b (hbd b hb)) ev0 (k:=1) (new:=[.msl b2 ((f.length+1)*2) 2 0 (f.length+1)]) (by rw[ju];rfl) rfl rfl lC (by omega) (by omega) ?_;rintro s3 H3 nx3 u1 u2 u3 u4 u5;have hb4:H3 b2=some (cX (v::f)):=(u4 b2 (by omega) (fun e=>by have:=hbd b2 e;omega)).trans hb2
  obtain ⟨H4,hfz,hr4,hs4⟩:=qF (x':=aA (v :: f)) u1 hb4 (Gf (Row.box b2 (f.length + 1) _ iL (gA _))) (fun e=>by
   rcases u5 b2 e with h|h
   ·have:=hbd b2 h;omega
   ·omega)
  refine wnY and_self ?_;refine⟨(j+1,s3),by dsimp only;omega,_,H4,hfz,⟨by dsimp only;omega,?_,fun b hb=>?_⟩,jt ag0⟩
  ·dsimp only;rw[e1];exact hr4
  ·rcases u5 b hb with h|h
   ·have:=hbd b h;omega
   ·omega
end Go.Proofs.YtekdaafnjdlenaaGreat
namespace Go.Proofs.YtekdaafnjdlenaaGreat
open Go Go.Abs
open Nat (reduceEqDiff reduceAdd reduceLeDiff)
def gq(c:List Spx)(k:Nat):List Spx:=l8 bl (c.flatMap fun s=>ca s k)
theorem uZ{c:List Spx}{k i:Nat}(hi:i<c.length):(c.take (i+1)).flatMap (fun s=>ca s k)=(c.take i).flatMap (fun s=>ca s k)++ca (c.getD i default) k:=by
 rw[b5 hi,List.flatMap_append];simp
theorem iY{k:Nat}:∀{c:List Spx},(∀s∈c,s.length≤8)→(c.flatMap fun s=>ca s k).length≤70*c.length
 |[],_=>by simp
 |s::c,h=>by
  rw[wh,cS,bO];have:=oz (l:=s) (k:=k) (h s dq);have:=iY (k:=k) (c:=c) (fun t ht=>h t (ew _ ht));omega
theorem l6{c:List Spx}{k:Nat}{s:Spx}:s∈c.flatMap (fun s=>ca s k)↔ ∃t∈c,s∈ca t k:=by rw[List.mem_flatMap]
theorem BZ{c:List Spx}{k:Nat}(h:∀s∈c,s.length≤8):∀s∈c.flatMap (fun s=>ca s k),Shn s:=fun s hs=>by
 obtain⟨t,t1,t2⟩:=l6.1 hs;have:=(d7.1 t2).1.length_le;have:=h t t1;show _≤_;omega
def du(c:List Spx)(k:Int):List Spx×Int:=if ay c≠0 then([],ay c) else if k<1∨8<k then([],2) else(gq c k.toNat,0)
attribute [local irreducible] aJ aj bf aX aP aQ aD aS a6 bk Go.Abs.Fn aV Go.Abs.Pure ar aK Yl
theorem w9(c:List Spx)(k:Nat)(hc:c.length≤50)(hs:∀s∈c,s.length≤8)(hk:k≤1000):pU 51 [bE c,.int .i64 k] (am (gq c k)):=by
 refine pO MY ?_;simp only[b51,aG];have hfl:=iY (k:=k) hs;have hfe:=BZ (k:=k) hs;refine wnZ (aI @ai @af) ?_;refine za (X:=Nat) (fun i=>[(1,.int .i64 k),(2,.ptr 0 1 0),(5,am (l8 bl ((c.take i).flatMap fun s=>ca s k))),(6,.int .i64 i)]) (fun i H nx=>i≤c.length∧H 0=some [am c]) (fun i=>c.length-i) 0 ⟨bP,_,Fz.none,⟨bB _,ag⟩,.inl rfl,.inl rfl,.inr (.eslsl 1),.inl rfl,trivial⟩ ?_;rintro i H nx ⟨h1,g0⟩;by_cases hi:i<c.length
 rotate_left
 ·rw[fM (by omega)];refine wnY (aI @ae @g0) ?_;exact bI _ _
 have ix:=ec hi;have hft:=uZ (k:=k) hi;have hpre:∀s∈(c.take (i+1)).flatMap (fun s=>ca s k),Shn s:=BZ fun s h=>hs s (jq h);have hprl:=iY (k:=k) (c:=c.take (i+1)) (fun s h=>hs s (jq h));rw[hft] at hpre hprl;rw[f0,cS] at hprl;have hcall:=Ae k (c.getD i default) hk (hs _ (az hi));by_cases hlt:(c.getD i default).length<k
 ·have z:decide (((c.getD i default).length:Int)<k)=true:=aR (by omega);rw[kX hlt,fP] at hft;generalize c.getD i default=s at *;refine wnY (zI5 @ae @ao @ix @g0 @z) ?_;exact⟨i+1,by omega,bP,_,Fz.none,⟨by omega,g0⟩,jt (have zz:=@hft;agZ)⟩
 have z:decide (((c.getD i default).length:Int)<k)=false:=aU (by omega);generalize c.getD i default=s at *;generalize ca s k=R at *;generalize (c.take i).flatMap (fun s=>ca s k)=P at *;refine wnY (zI5 @ae @ao @ix @g0 @z) ?_;refine bT (X:=Nat) (fun j=>[(1,.int .i64 k),(2,.ptr 0 1 0),(5,am (l8 bl (P++R.take j))),(6,.int .i64 i),(7,am R),(8,.int .i64 j)]) (fun j H nx=>j≤R.length∧H 0=some [am c]) (fun j=>R.length-j) 0 ⟨bB _,g0⟩ (by simp (disch:=omega) only[agr,ZG,reduceEqDiff,↓reduceIte,List.take_zero,fP]) ?_;clear g0;rintro j H nx ⟨j1,g0⟩;by_cases hj:j<R.length
 rotate_left
 ·rw[fM (by omega)];refine wnY @ae ?_;exact⟨i+1,by omega,bP,_,Fz.none,⟨by omega,g0⟩,jt (have zz:=@hft;agZ)⟩
 have iy:=ec hj;have e1:l8 bl (P++R.take (j+1))=lX bl (l8 bl (P++R.take j)) (R.getD j default):=by rw[b5 hj,←lN,CL]
 have hput:=GP (l8 bl (P ++ R.take j)) (R.getD j default) (eZ sT (by rw [cS,f0]; omega)) (fun t ht=>hpre t (by
  have:=mq.1 ht;rcases eD.1 this with h|h
  ·exact np _ h
  ·exact ng _ (jq h))) (hpre _ (ng _ (az hj)))
 rw[←e1] at hput;generalize R.getD j default=f at *;refine wnY (aI @ae @iy) ?_;exact⟨j+1,by omega,⟨by omega,g0⟩,ag0⟩
theorem xt(c:List Spx)(k:Int)(hc:c.length≤50)(hs:∀s∈c,Shn s):pU 99 [bE c,.int .i64 k] (.tup [am (du c k).1,.int .i64 (du c k).2]):=by
 refine pO Nh ?_;simp only[b99,aG];have hcc:=Bu c (show _≤_ by omega) hs;unfold du;by_cases he:ay c=0
 rotate_left
 ·rw[if_pos he];have z:decide (ay c≠0)=true:=aR he;refine wnY (zI3 @ai @af @z) ?_;exact dR (.eslsl _) rfl
 rw[if_neg (fun h=>h he)];rw[he] at hcc;have z0:decide ((0:Int)≠0)=false:=rfl;obtain⟨p1,p2,p3,p4⟩:=cK he;by_cases hk:k<1∨8<k
 ·rw[if_pos hk];have zz:=aI @ai (aI @af @z0);repeat' (first|refine zW ?_|apply a_n|apply a_r|refine zO ?_|refine vY ?_|refine cY ?_ (hp:=hcc) (hs:=by(first|refine aF ?_ rfl|apply aY);(repeat' (first|exact ak|apply bv|apply a5|exact cw _));first|done|fail)|refine bxY ?_|refine gTY ?_|refine gFY ?_|refine cTY ?_|refine cFY ?_|(refine zGY ?_ ?_<;>(intro _hg;try (exfalso;omega)))|refine bR rfl ?_|refine r2Y ?_|fail)
  all_goals first|exact dR (.eslsl _) rfl|(exfalso;omega)
 rw[if_neg hk];obtain⟨n,rfl⟩:∃n:Nat,k=n:=⟨k.toNat,by omega⟩
 rw[cr];have h8:∀s∈c,s.length≤8:=fun s h=>(co (p2 s h)).2.1;have ha:=w9 c n hc h8 (by omega);have hl:(gq c n).length≤3500:=eZ sT (eZ (iY h8) (by omega));have z1:decide ((4096:Int)<(gq c n).length)=false:=aU (by omega);refine wnY (zI5 @ai @af @ae @z0 @z1) ?_;exact dR (bI _).snap rfl
end Go.Proofs.YtekdaafnjdlenaaGreat
namespace Go.Proofs.YtekdaafnjdlenaaGreat
open Go Go.Abs
open Nat (reduceEqDiff reduceAdd reduceLeDiff)
def gW:Nat→Spx→List Int
 |0,_=>[]
 |n+1,[]=>(-1)::0::gW n []
 |n+1,v::l=>v.color::v.label::gW n l
theorem pg:∀{n:Nat}{s:Spx},(gW n s).length=2*n
 |0,_=>rfl
 |n+1,[]=>by show(gW n []).length+1+1=_;rw[pg];omega
 |n+1,v::l=>by show(gW n l).length+1+1=_;rw[pg];omega
theorem xQ:∀{n:Nat}{s t:Spx},s.length≤n→t.length≤n→(∀v∈s,0≤v.color)→(∀v∈t,0≤v.color)→gW n s=gW n t→s=t
 |0,[],[],_,_,_,_,_=>rfl
 |0,_::_,_,h,_,_,_,_=>absurd h (by simp)
 |0,[],_::_,_,h,_,_,_=>absurd h (by simp)
 |n+1,[],[],_,_,_,_,_=>rfl
 |n+1,[],w::m,_,_,_,h2,e=>by
  have:(-1:Int)=w.color:=(List.cons.inj e).1;have:=h2 w dq;omega
 |n+1,v::l,[],_,_,h1,_,e=>by
  have:v.color=(-1:Int):=(List.cons.inj e).1;have:=h1 v dq;omega
 |n+1,v::l,w::m,hl,hm,h1,h2,e=>by
  obtain⟨e1,e2⟩:=List.cons.inj e;obtain⟨e2,e3⟩:=List.cons.inj e2;have:=xQ (n:=n) (by simp at hl;omega) (by simp at hm;omega) (fun x hx=>h1 x (ew _ hx)) (fun x hx=>h2 x (ew _ hx)) e3;rw[this,od.2 ⟨e1,e2⟩]
def F8(x:List Int):AV:=.agg (x.map (AV.int .i64))
theorem D4 (x:List Int):Dat (F8 x):=Dat.agg (by
 induction x with
 |nil=>exact DatL.nil
 |cons a l ih=>exact DatL.cons .int ih)
theorem Bg:∀{n:Nat}{s:Spx},s.length≤n→cX s++((gW n []).map (AV.int .i64)).drop (s.length*2)=(gW n s).map (AV.int .i64)
 |n,[],_=>by simp[cX]
 |0,_::_,h=>absurd h (by simp)
 |n+1,v::l,h=>by
  have:=Bg (n:=n) (s:=l) (by simp at h;omega);show [AV.int .i64 v.color,AV.int .i64 v.label]++cX l++_=AV.int .i64 v.color::AV.int .i64 v.label::(gW n l).map (AV.int .i64);rw[←this,bO,show(l.length+1)*2=l.length*2+1+1 by omega];rfl
def kc(k:Nat):List AV:=(gW k []++List.replicate (2*(8-k)) 0).map (AV.int .i64)
attribute [local irreducible] aJ aj bf aX aP aQ aD aS a6 bk Go.Abs.Fn aV Go.Abs.Pure ar aK Yl
theorem Ho(s:Spx)(h1:1≤s.length)(hs:s.length≤8):pU 138 [aA s] (F8 (gW 8 s)):=by
 refine pO K5 ?_;simp only[LB,aG];have hn:fx (aA s)=some s.length:=by unfold aA iK;simp[fx]
 have hput:=Bg (n:=8) (s:=s) hs;refine wnY and_self ?_;refine lpI (X:=Nat) (fun k=>[(0,aA s),(2,.ptr 0 16 0),(3,.ptr 1 16 0),(5,.int .i64 k)]) (fun k H nx=>k≤8∧H 0=some (kc 0)∧H 1=some (kc k)) (fun k=>8-k) 0 ⟨bB _,by rw[ac (by omega),ag];rfl,ag⟩ ?_;rintro k H nx ⟨hk,g0,g1⟩;rcases(by omega:k=8∨k=0∨k=1∨k=2∨k=3∨k=4∨k=5∨k=6∨k=7) with rfl|rfl|rfl|rfl|rfl|rfl|rfl|rfl|rfl
 ·refine wnY (aI @g0 @g1) ?_;refine Ij rfl g1 rfl rfl ?_;refine wnY and_self ?_;refine Ia (n:=s.length) (H':=aq H 1 ((gW 8 s).map (AV.int .i64))) ?_ ?_
  ·((try simp only[bW,ZA,reduceEqDiff,↓reduceIte,reduceAdd,reduceLeDiff]);(try with_reducible rfl))
   have htr:uV s.length (aA s)=aA s:=by unfold aA iK;simp[uV];exact fM (by simp)
   have hmin:min s.length 8=s.length:=Nat.min_eq_left hs;have hal:fx (.msl 1 16 2 0 8)=some 8:=rfl;simp only[sG,hal,hn,hmin,if_neg (show ¬s.length=0 by omega),g1,htr,uY];rw[if_pos (by refine⟨?_,?_,?_,?_⟩<;>first|rfl|trivial|omega|exact kB s)]
   have:bG (kc 8) 0 (cX s)=(gW 8 s).map (AV.int .i64):=by
    rw[←hput];simp only[bG,List.take_zero,List.nil_append,ce,gA];rfl
   rw[this]
  ·have hl:((gW 8 s).map (AV.int .i64)).length=16:=by rw[bt,pg]
   have g1':aq H 1 ((gW 8 s).map (AV.int .i64)) 1=some ((gW 8 s).map (AV.int .i64)):=ag;have g0':aq H 1 ((gW 8 s).map (AV.int .i64)) 0=some (kc 0):=by rw[ac (by omega)];exact g0
   have hl0:(kc 0).length=16:=rfl;unfold F8;have ht:((gW 8 s).map (AV.int .i64)).take 16=(gW 8 s).map (AV.int .i64):=fM (by omega);have hd:=D4 (gW 8 s);unfold F8 at hd
   have hfl:AV.ones ((gW 8 s).map (AV.int .i64))=true:=by
    unfold AV.ones;rw[ea];intro x hx;obtain⟨y,_,rfl⟩:=bK.1 hx;rfl
   have hlp:bG (kc 0) 0 ((gW 8 s).map (AV.int .i64))=(gW 8 s).map (AV.int .i64):=by
    simp only[bG,List.take_zero,List.nil_append,ce,hl];rw[List.drop_of_length_le (by decide),fP]
   generalize (gW 8 s).map (AV.int .i64)=K at *;refine wnY (zI5 @g0' @g1' @hl @hl0 @ht) ?_;refine Jj (v:=.agg K) (cs:=kc 0) (vs:=K) (b:=0) (n:=16) (off:=0) rfl ev0 ev0 g0' rfl hfl hl0 hl (by omega) ?_;rw[hlp];refine wnY (aI @hl @ht) ?_;exact hd _
 ·refine wnY (aI @g0 @g1) ?_;refine nz (r:=.ptr 1 16 0) rfl rfl rfl ?_;have hl:(kc 0).length=16:=rfl;refine wnY (aI @g1 @hl) ?_;exact⟨1,by omega,⟨by omega,by rw[ac (by omega)];exact g0,by rw[ag];rfl⟩,by(iterate 4 refine And.intro rfl ?_);trivial⟩
 ·refine wnY (aI @g0 @g1) ?_;refine nz (r:=.ptr 1 16 2) rfl rfl rfl ?_;have hl:(kc 1).length=16:=rfl;refine wnY (aI @g1 @hl) ?_;exact⟨2,by omega,⟨by omega,by rw[ac (by omega)];exact g0,by rw[ag];rfl⟩,by(iterate 4 refine And.intro rfl ?_);trivial⟩
 ·refine wnY (aI @g0 @g1) ?_;refine nz (r:=.ptr 1 16 4) rfl rfl rfl ?_;have hl:(kc 2).length=16:=rfl;refine wnY (aI @g1 @hl) ?_;exact⟨3,by omega,⟨by omega,by rw[ac (by omega)];exact g0,by rw[ag];rfl⟩,by(iterate 4 refine And.intro rfl ?_);trivial⟩
 ·refine wnY (aI @g0 @g1) ?_;refine nz (r:=.ptr 1 16 6) rfl rfl rfl ?_;have hl:(kc 3).length=16:=rfl;refine wnY (aI @g1 @hl) ?_;exact⟨4,by omega,⟨by omega,by rw[ac (by omega)];exact g0,by rw[ag];rfl⟩,by(iterate 4 refine And.intro rfl ?_);trivial⟩
 ·refine wnY (aI @g0 @g1) ?_;refine nz (r:=.ptr 1 16 8) rfl rfl rfl ?_;have hl:(kc 4).length=16:=rfl;refine wnY (aI @g1 @hl) ?_;exact⟨5,by omega,⟨by omega,by rw[ac (by omega)];exact g0,by rw[ag];rfl⟩,by(iterate 4 refine And.intro rfl ?_);trivial⟩
 ·refine wnY (aI @g0 @g1) ?_;refine nz (r:=.ptr 1 16 10) rfl rfl rfl ?_;have hl:(kc 5).length=16:=rfl;refine wnY (aI @g1 @hl) ?_;exact⟨6,by omega,⟨by omega,by rw[ac (by omega)];exact g0,by rw[ag];rfl⟩,by(iterate 4 refine And.intro rfl ?_);trivial⟩
 ·refine wnY (aI @g0 @g1) ?_;refine nz (r:=.ptr 1 16 12) rfl rfl rfl ?_;have hl:(kc 6).length=16:=rfl;refine wnY (aI @g1 @hl) ?_;exact⟨7,by omega,⟨by omega,by rw[ac (by omega)];exact g0,by rw[ag];rfl⟩,by(iterate 4 refine And.intro rfl ?_);trivial⟩
 ·refine wnY (aI @g0 @g1) ?_;refine nz (r:=.ptr 1 16 14) rfl rfl rfl ?_;have hl:(kc 7).length=16:=rfl;refine wnY (aI @g1 @hl) ?_;exact⟨8,by omega,⟨by omega,by rw[ac (by omega)];exact g0,by rw[ag];rfl⟩,by(iterate 4 refine And.intro rfl ?_);trivial⟩
end Go.Proofs.YtekdaafnjdlenaaGreat
namespace Go.Proofs.YtekdaafnjdlenaaGreat
open Go Go.Abs
open Nat (reduceEqDiff reduceAdd reduceLeDiff)
attribute [local irreducible] aJ aj bf aX aP aQ aD aS a6 bk Go.Abs.Fn aV Go.Abs.Pure ar aK Yl
end Go.Proofs.YtekdaafnjdlenaaGreat
namespace Go.Proofs.YtekdaafnjdlenaaGreat
open Go Go.Abs
open Nat (reduceEqDiff reduceAdd reduceLeDiff)
theorem Co{H:Hp}{sz:Nat}{s:AV}{elems:List AV}(h:Row H sz s (elems.flatMap AV.cells))(hc:∀y∈elems,y.cells.length=sz)(hz:0<sz)(hd:∀y∈elems,∀c∈y.cells,SnapF H c c):SnapF H s (.sl sz elems):=by
 obtain⟨f1,f2⟩:=d4 elems hc;generalize he:elems.flatMap AV.cells=cs at h;cases h with
 |nil=>
  have:elems.length*sz=0:=by rw[←f1,he];rfl
  have:elems=[]:=fq.1 (by
   rcases Nat.mul_eq_zero.1 this with h|h
   ·exact h
   ·omega)
  subst this;exact .eslsl sz
 |box b len cs hb hl=>
  have hlen:elems.length=len:=Nat.eq_of_mul_eq_mul_right hz (by rw[←f1,he,hl]);refine .msl b (len*sz) sz 0 len cs elems hb hl (by omega) hlen hc (fun i j y a c hy hc' ha=>?_);have hj:j<sz:=by rw[←hc y (gm hy)];exact(bQ.1 hc').1
  have key:∀(l:List AV)(i j:Nat)(y c:AV),(∀z∈l,z.cells.length=sz)→l[i]?=some y→y.cells[j]?=some c→j<sz→(l.flatMap AV.cells)[i*sz+j]?=some c:=by
   intro l
   induction l with
   |nil=>intro i j y c _ h;simp at h
   |cons x l ih=>
    intro i j y c hl hy hc hj;rw[wh];cases i with
    |zero=>
     simp at hy;subst hy;rw[xC,ce,gv (by rw[hl x (by simp)];exact hj)];exact hc
    |succ i=>
     rw[ik (by rw[hl x (by simp),fy];omega),hl x (by simp)];have:=ih i j y c (fun z hz=>hl z (by simp[hz])) (by simpa using hy) hc hj;rw[←this];congr 1;rw[fy];omega
  have:=key elems i j y c hc hy hc' hj;rw[he,←ce (i*sz)] at this;rw[this] at ha;cases ha;exact hd y (gm hy) a (gm hc')
theorem rB{H:Hp}{s:AV}{l:Spx}(h:Row H 2 s (cX l)):SnapF H s (aA l):=by
 refine Co (elems:=l.map dA) (by rw[A5];exact h) (fun y hy=>?_) (by omega) (fun y hy c hx=>?_)
 ·obtain⟨n,_,rfl⟩:=bK.1 hy;rfl
 ·obtain⟨n,_,rfl⟩:=bK.1 hy;simp only[dA,AV.cells,cW,List.not_mem_nil,or_false] at hx;rcases hx with rfl|rfl<;>exact .int _ _
attribute [local irreducible] aJ aj bf aX aP aQ aD aS a6 bk Go.Abs.Fn aV Go.Abs.Pure ar aK Yl
theorem Dp(l:Spx)(hl:l.length≤1000000):PureF Tryz.prog 136 [aA l] (aA l):=by
 refine qO Ie ?_;simp only[Jq,aG];refine wnY and_self ?_;have hn:fx (aA l)=some l.length:=by unfold aA iK;simp[fx]
 refine wj (k:=l.length) (by((try simp only[bW,ZA,reduceEqDiff,↓reduceIte,reduceAdd,reduceLeDiff]);(try with_reducible rfl));exact hn) (fun h=>?_) (fun h=>?_) (fun h=>?_)
 ·refine wnY and_self ?_;refine ij rfl ev0 ev0 uY (kB _) (by omega) (by omega) ?_;refine wnY and_self ?_;exact rB (Row.box _ l.length (cX l) ag (gA l))
 ·refine wnY and_self ?_;obtain rfl:=fq.1 h;exact .eslsl 2
 ·refine wnY and_self ?_;refine ij rfl ev0 ev0 uY (kB _) (by omega) (by omega) ?_;refine wnY and_self ?_;exact rB (Row.box _ l.length (cX l) ag (gA l))
section
variable{g:Nat}{caps:List AV}{s:AV}
theorem JG(hs:dw s=some (.int .i64 0)){H:Hp}{nx:Nat}:Abs.Fn Tryz.prog 166 [s,.int .i64 0,.int .i64 0,.func g caps] H nx fun r H' nx'=>nx'=nx∧H'=H:=by
 refine fO HW ?_;simp only[Iv,aG];refine wnZ and_self ?_;refine bT (X:=Unit) (fun x=>[(0,s),(1,.int .i64 0),(2,.int .i64 0),(3,.func g caps),(8,.int .i64 1)]) (fun x H' nx'=>H'=H∧nx'=nx) (fun x=>0) () ⟨rfl,rfl⟩ (by simp (disch:=omega) only[agr,ZG,reduceEqDiff,↓reduceIte,Int.zero_add,true_and]) ?_;rintro _ _ _ ⟨rfl,rfl⟩;refine wnZ and_self ?_;exact⟨rfl,rfl⟩
theorem Jg(hs:dw s=some (.int .i64 0)){H:Hp}{nx:Nat}:Abs.Fn Tryz.prog 155 [s,.int .i64 0,.int .i64 0,.int .i64 0,.func g caps] H nx fun r H' nx'=>nx'=nx∧H'=H:=by
 refine fO Io ?_;simp only[Ja,aG];refine wnZ and_self ?_;refine bT (X:=Unit) (fun x=>[(0,s),(1,.int .i64 0),(2,.int .i64 0),(3,.int .i64 0),(4,.func g caps)]) (fun x H' nx'=>H'=H∧nx'=nx) (fun x=>0) () ⟨rfl,rfl⟩ ag0 ?_;rintro _ _ _ ⟨rfl,rfl⟩;refine wnZ and_self ?_;refine be ev0 ev0 (JG hs) ?_;rintro _ _ _ ⟨rfl,rfl⟩;refine wnZ and_self ?_;exact⟨rfl,rfl⟩
theorem o0(hs:dw s=some (.int .i64 0)){H:Hp}{nx:Nat}:Abs.Fn Tryz.prog 130 [s,.func g caps] H nx fun r H' nx'=>nx'=nx∧H'=H:=by
 refine fO Ig ?_;simp only[I2,aG];have w8:IntKind.wrap .u64 0=0:=by decide
 refine wnZ (aI @w8 @hs) ?_;refine be ev0 (have zz:=@w8;evZ) JY ?_;rintro _ _ _ ⟨rfl,rfl,rfl⟩;refine wnZ and_self ?_;refine be ev0 ev0 (Jg hs) ?_;rintro _ _ _ ⟨rfl,rfl⟩;refine wnZ and_self ?_;exact⟨rfl,rfl⟩
end
end Go.Proofs.YtekdaafnjdlenaaGreat
namespace Go.Proofs.YtekdaafnjdlenaaGreat
open Go Go.Abs
attribute [local irreducible] aJ aj bf aX aP aQ aD aS a6 bk Go.Abs.Fn aV Go.Abs.Pure ar aK Yl
theorem JW:Cmp Tryz.prog aA bl (fun s=>Shn s) 70 [] where
 cells _:=rfl
 one _:=rfl
 dat x:=dt x
 dcaps x hx:=by cases hx
 run x y hx hy:=gy x y hx hy
 ord:=my.ord
end Go.Proofs.YtekdaafnjdlenaaGreat
namespace Go.Proofs.YtekdaafnjdlenaaGreat
open Go Go.Abs
def K16:Type:={x:List Int // x.length=16}
instance:DecidableEq K16:=inferInstanceAs (DecidableEq {x:List Int // x.length=16})
def kK(s:Spx):K16:=⟨gW 8 s,by rw[pg]⟩
def eK(x:K16):AV:=F8 x.1
theorem rW:∀{n:Nat}{xs ys:List Int},xs.length=n→ys.length=n→dy (List.replicate n .int) (xs.map (AV.int .i64)) (ys.map (AV.int .i64))=some (decide (xs=ys))
 |0,[],[],_,_=>rfl
 |0,_::_,_,h,_=>absurd h (by simp)
 |0,[],_::_,_,h=>absurd h (by simp)
 |n+1,[],_,h,_=>absurd h (by simp)
 |n+1,_::_,[],_,h=>absurd h (by simp)
 |n+1,x::xs,y::ys,h1,h2=>by
  have ih:=rW (n:=n) (xs:=xs) (ys:=ys) (by simpa using h1) (by simpa using h2);have e:(x==y)=decide (x=y):=rfl;rw[List.replicate_succ,fB,fB];by_cases hxy:x=y
  ·subst hxy;simp only[dy,jc,if_true,e,decide_true,ih];simp
  ·simp only[dy,jc,if_true,e,aU hxy];simp[hxy]
theorem IH(a b:K16):o9 (.st [.int,.int,.int,.int,.int,.int,.int,.int,.int,.int,.int,.int,.int,.int,.int,.int]) (eK a) (eK b)=some (decide (a=b)):=by
 show dy (List.replicate 16 .int) (a.1.map (AV.int .i64)) (b.1.map (AV.int .i64))=_;rw[rW a.2 b.2]
 congr 1
 exact decide_eq_decide.2 ⟨Subtype.ext,fun h=>congrArg Subtype.val h⟩
theorem Gl(v:K16)(ks:List K16):c9 (.st [.int,.int,.int,.int,.int,.int,.int,.int,.int,.int,.int,.int,.int,.int,.int,.int]) (eK v) (ks.map eK)=some (if v∈ks then some (ks.idxOf v) else none):=mU _ eK IH v ks
theorem B2(v:K16):jm (.st [.int,.int,.int,.int,.int,.int,.int,.int,.int,.int,.int,.int,.int,.int,.int,.int]) (eK v)=true:=by
 show(16==(v.1.map (AV.int .i64)).length)=true;rw[bt,v.2];rfl
def mc(s:Spx):Prop:=1≤s.length∧s.length≤8∧∀v∈s,0≤v.color
theorem I6{s t:Spx}(hs:mc s)(ht:mc t)(h:kK s=kK t):s=t:=xQ hs.2.1 ht.2.1 hs.2.2 ht.2.2 (congrArg Subtype.val h)
theorem IX{O:List Spx}{f:Spx}(hO:∀s∈O,mc s)(hf:mc f):kK f∈O.map kK↔f∈O:=by
 rw[bK];exact⟨fun⟨s,h1,h2⟩=>by rw[←I6 (hO s h1) hf h2];exact h1,fun h=>⟨f,h,rfl⟩⟩
theorem G1{s:Spx}(h:bV s=0):mc s:=by
 obtain⟨p1,p2,p3,p4⟩:=co h;refine⟨p1,p2,fun v hv=>?_⟩;have:=p4 v hv;unfold fF at this;simp only[dz,f8] at this;exact this.1.1
theorem Fo{s t:Spx}{k:Nat}(hs:mc s)(hk:1≤k)(h:t∈ca s k):mc t:=by
 obtain⟨h1,h2⟩:=d7.1 h;exact⟨by omega,eZ h1.length_le hs.2.1,fun v hv=>hs.2.2 v (h1.subset hv)⟩
theorem qV{O L P:List Spx}(hp:L.Perm O)(hs:bo bl 0 L.length L)(hn:O.Nodup)(hm:∀s,s∈O↔s∈P):L=l8 bl P:=by
 refine nc my ?_ (sj my P) fun s=>by rw[hp.mem_iff,hm,mq]
 unfold b8;rw[kJ];intro i j hi hj hij;have h1:=hs i j (bB _) hij hj;rw[show L.getD i default=L[i] by simp[List.getD,hi],show L.getD j default=L[j] by simp[List.getD,hj]] at h1;rcases my.tri L[i] L[j] with h|h|h
 ·exact h
 ·have:=(List.nodup_iff_pairwise_ne.1 (hp.nodup_iff.2 hn))
  exact absurd h ((kJ.1 this) i j hi hj hij)
 ·exact absurd h h1
end Go.Proofs.YtekdaafnjdlenaaGreat
namespace Go.Proofs.YtekdaafnjdlenaaGreat
open Go Go.Abs
open Nat (reduceEqDiff reduceAdd reduceLeDiff)
attribute [local irreducible] aJ aj bf aX aP aQ aD aS a6 bk Go.Abs.Fn aV Go.Abs.Pure ar aK Yl
theorem zR(l:List Spx)(k:Nat)(hl:l.length≤50)(hs:∀s∈l,bV s=0)(hk:1≤k∧k≤8):pU 87 [am l,.int .i64 k] (.tup [am (gq l k),.int .i64 0]):=by
 refine pO Nw ?_;simp only[b87,aG];have h8:∀s∈l,s.length≤8:=fun s h=>(co (hs s h)).2.1
 have hgood:∀s∈l.flatMap (fun s=>ca s k),mc s:=fun s h=>by
  obtain⟨t,t1,t2⟩:=l6.1 h;exact Fo (G1 (hs t t1)) hk.1 t2
 have hfl:=iY (k:=k) h8;have z0:decide ((0:Int)≠0)=false:=rfl;refine wnY @ae ?_;refine uQ ?_;refine wnY @ae ?_;refine lpI (X:=Nat×AV×List Spx) (fun x=>[(1,.int .i64 k),(6,.mp 0),(7,x.2.1),(15,am l),(16,.int .i64 l.length),(17,.int .i64 x.1)]) (fun x H nx=>x.1≤l.length∧1≤nx∧H 0=some [.omap ((x.2.2.map kK).map eK) (x.2.2.map fun _=>.bool true)]∧Row H 1 x.2.1 (x.2.2.map aA)∧(∀b,bF x.2.1=some b→1≤b∧b<nx)∧x.2.2.Nodup∧∀s,s∈x.2.2↔s∈(l.take x.1).flatMap fun s=>ca s k) (fun x=>l.length-x.1) (0,.esl,[]) ⟨bB _,by omega,ag,Row.nil,fun b h=>(by cases h),List.nodup_nil,fun s=>by simp⟩ ?_;rintro⟨i,sv,O⟩ H nx ⟨h1,hnx,g0,hrow,hbd,hnd,hmem⟩;dsimp only at h1 g0 hrow hbd hnd hmem ⊢;obtain⟨o1,o2⟩:=hrow.one;by_cases hi:i<l.length
 rotate_left
 ·rw[fM (by omega)] at hmem
  have hOl:O.length≤3500:=by
   have:=yM hnd (l₂:=l.flatMap fun s=>ca s k) (fun s h=>(hmem s).1 h);omega
  have hsort:Abs.Fn Tryz.prog 130 [sv,.func 70 []] H nx fun _ H' nx'=>Row H' 1 sv ((gq l k).map aA):=by
   generalize hcs:O.map aA=cs at hrow;cases hrow with
   |nil=>
    have hO0:O=[]:=List.map_eq_nil_iff.1 hcs;refine Abs.Fn.mono (o0 rfl) ?_;rintro _ _ _ ⟨rfl,rfl⟩
    have:gq l k=[]:=by
     unfold gq;rw[yy,ur];intro s h;have:=(hmem s).2 h;rw[hO0] at this;cases this
    rw[this];exact Row.nil
   |box b len cs k1 k2=>
    obtain rfl:len=O.length:=by rw[←hcs,bt] at k2;omega
    have hb:=hbd b rfl;subst hcs;by_cases h0:O.length=0
    ·have hO0:O=[]:=fq.1 h0;subst hO0;refine Abs.Fn.mono (o0 rfl) ?_;rintro _ _ _ ⟨rfl,rfl⟩
     have:gq l k=[]:=by
      unfold gq;rw[yy,ur];intro s h;have:=(hmem s).2 h;cases this
     rw[this];exact Row.box b 0 _ k1 rfl
    ·have hg:∀s∈O,Shn s:=fun s h=>show s.length≤_ by have:=(hgood s ((hmem s).1 h)).2.1;omega
     have hsf:=Bv JW (L:=O) (b:=b) (nx:=nx) (n:=O.length) k1 hb.2 rfl (by omega) hg (by omega);rw[Nat.mul_one];refine Abs.Fn.mono hsf ?_;rintro _ H' nx' ⟨L',ps,p1,p2⟩;have hlen:=p1.length_eq;have:=qV p1 (by rw[hlen];exact p2) hnd hmem;unfold gq;rw[←this,←hlen];have:=Row.box (H:=H') (sz:=1) b L'.length (L'.map aA) ps.at_ (by simp)
     rwa [Nat.mul_one] at this
  refine wnY and_self ?_;refine be ev0 ev0 hsort ?_;rintro r H' nx' hr;refine wnY (aI @o1 @o2) ?_;exact dR (gL hr) rfl
 have ix:=ec hi;have hft:=uZ (k:=k) hi
 have hpm:∀s∈(l.take (i+1)).flatMap (fun s=>ca s k),s∈l.flatMap fun s=>ca s k:=fun s h=>by
  obtain⟨t,t1,t2⟩:=l6.1 h;exact l6.2 ⟨t,jq t1,t2⟩
 have hsi:=hs _ (az hi);have h8i:=h8 _ (az hi);have hfx:=En (l.getD i default) k (show _≤_ by omega)
 have hfe:(l.getD i default).length<k∨sd (l.getD i default) k=(ca (l.getD i default) k,0):=by
  by_cases h:(l.getD i default).length<k
  ·exact .inl h
  ·refine .inr ?_;unfold sd;rw[if_neg (fun h=>h hsi),if_neg (by omega),cr]
 have hcar:∀s∈ca (l.getD i default) k,mc s:=fun s h=>hgood s (hpm s (by rw[hft];exact ng _ h));by_cases hlt:(l.getD i default).length<k
 ·have z:decide (((l.getD i default).length:Int)<k)=true:=aR (by omega);rw[kX hlt,fP] at hft;generalize l.getD i default=s at *;refine wnY (zI5 @ao @ix @z @o1 @o2) ?_;exact⟨(i+1,sv,O),by dsimp only;omega,⟨by dsimp only;omega,hnx,g0,hrow,hbd,hnd,by dsimp only;rw[hft];exact hmem⟩,ag0⟩
 have z:decide (((l.getD i default).length:Int)<k)=false:=aU (by omega);rw[hfe.resolve_left hlt] at hfx;clear hfe;have hgP:∀s∈(l.take i).flatMap (fun s=>ca s k),mc s:=fun s h=>hgood s (hpm s (by rw[hft];exact np _ h))
 have hPl:((l.take i).flatMap (fun s=>ca s k)++ca (l.getD i default) k).length≤3500:=by
  rw[←hft];have:=iY (k:=k) (c:=l.take (i+1)) (fun s h=>h8 s (jq h));rw[f0] at this;omega
 generalize l.getD i default=s at *;generalize ca s k=R at *;generalize (l.take i).flatMap (fun s=>ca s k)=P at *;have hRl:R.length≤3500:=by rw[cS] at hPl;omega
 refine wnY (zI7 @ao @ae @ix @z @z0 @o1 @o2) ?_;refine bT (X:=Nat×AV×List Spx) (fun x=>[(1,.int .i64 k),(6,.mp 0),(7,x.2.1),(15,am l),(16,.int .i64 l.length),(17,.int .i64 i),(34,am R),(35,.int .i64 R.length),(36,.int .i64 x.1)]) (fun x H nx=>x.1≤R.length∧1≤nx∧H 0=some [.omap ((x.2.2.map kK).map eK) (x.2.2.map fun _=>.bool true)]∧Row H 1 x.2.1 (x.2.2.map aA)∧(∀b,bF x.2.1=some b→1≤b∧b<nx)∧x.2.2.Nodup∧∀s,s∈x.2.2↔s∈P++R.take x.1) (fun x=>R.length-x.1) (0,sv,O) ⟨bB _,hnx,g0,hrow,hbd,hnd,by dsimp only;rw[List.take_zero,fP];exact hmem⟩ ag0 ?_;clear g0 hrow hbd hnd hmem hnx o1 o2;rintro⟨j,sv,O⟩ H nx ⟨j1,hnx,g0,hrow,hbd,hnd,hmem⟩;dsimp only at j1 g0 hrow hbd hnd hmem ⊢;obtain⟨o1,o2⟩:=hrow.one
 have hOl:O.length≤3500:=by
  have:=yM hnd (l₂:=P++R.take j) (fun s h=>(hmem s).1 h);rw[cS,f0] at this;rw[cS] at hPl;omega
 by_cases hj:j<R.length
 rotate_left
 ·rw[fM (by omega)] at hmem;have hls:dw sv=some (.int .i64 O.length):=hrow.lenS (by rw[bt,Nat.mul_one]) lC;have z1:decide ((4096:Int)<O.length)=false:=aU (by omega);refine wnY (zI4 @hls @z1 @o1 @o2) ?_;exact⟨(i+1,sv,O),by dsimp only;omega,⟨by dsimp only;omega,hnx,g0,hrow,hbd,hnd,by dsimp only;rw[hft];exact hmem⟩,ag0⟩
 have iy:=ec hj;have hgf:=hcar _ (az hj)
 have hgO:∀s∈O,mc s:=fun s h=>by
  rcases eD.1 ((hmem s).1 h) with h|h
  ·exact hgP s h
  ·exact hcar s (jq h)
 have hkey:=Ho (R.getD j default) hgf.1 hgf.2.1;have hts:R.take (j+1)=R.take j++[R.getD j default]:=b5 hj;have hmf:=Gl (kK (R.getD j default)) (O.map kK);have hmk:=IX hgO hgf;generalize R.getD j default=f at *;by_cases hf:f∈O
 ·rw[if_pos (hmk.2 hf)] at hmf;have hlt2:(O.map kK).idxOf (kK f)<(O.map kK).length:=pC.2 (hmk.2 hf)
  have hgv:mget (.bool false) false (some ((O.map kK).idxOf (kK f))) (O.map fun _=>AV.bool true)=.bool true:=by
   rw[bt] at hlt2;simp[mget,List.getD,hlt2]
  refine wnY (zI3 @iy @o1 @o2) ?_;refine ja ev0 g0 (by((try simp only[bW,ZA,reduceEqDiff,↓reduceIte,reduceAdd,reduceLeDiff]);(try with_reducible rfl));rfl) (B2 (kK f)) hmf ?_;rw[hgv];refine wnY (aI @o1 @o2) ?_;refine⟨(j+1,sv,O),by dsimp only;omega,⟨by dsimp only;omega,hnx,g0,hrow,hbd,hnd,fun s=>?_⟩,ag0⟩;dsimp only;rw[hts,←lN,eD,←hmem,de];exact⟨.inl,fun h=>h.elim id fun e=>by rw[e];exact hf⟩
 ·rw[if_neg (fun h=>hf (hmk.1 h))] at hmf;have hgv:mget (.bool false) false none (O.map fun _=>AV.bool true)=.bool false:=rfl;refine wnY (zI3 @iy @o1 @o2) ?_;refine ja ev0 g0 (by((try simp only[bW,ZA,reduceEqDiff,↓reduceIte,reduceAdd,reduceLeDiff]);(try with_reducible rfl));rfl) (B2 (kK f)) hmf ?_;rw[hgv];refine wnY (aI @o1 @o2) ?_;refine pz ev0 g0 (by((try simp only[bW,ZA,reduceEqDiff,↓reduceIte,reduceAdd,reduceLeDiff]);(try with_reducible rfl));rfl) ev0 (B2 (kK f)) hmf ?_;refine wnY (zI4 @o1 @o2 @a7 @aL) ?_;refine eR (hrow.same fun b hb=>?_) ?_
  ·have:=hbd b hb;rw[ac (by omega),ac (by omega)]
  rintro s2 H2 nx2 hr2 i1 i2 i3 i4;obtain⟨o3,o4⟩:=hr2.one;refine wnY (aI @o3 @o4) ?_;refine⟨(j+1,s2,O++[f]),by dsimp only;omega,⟨by dsimp only;omega,by omega,?_,?_,fun b hb=>?_,?_,fun s=>?_⟩,ag0⟩
  ·rw[i3 0 (by omega) (fun h=>by have:=hbd 0 h;omega),ac (by omega),ag];simp[cL,fZ]
  ·dsimp only;rw[cu];exact hr2
  ·rcases i4 b hb with h|h
   ·have:=hbd b h;omega
   ·omega
  ·exact yu.2 ⟨hnd,by simp,fun a ha c hc=>by simp at hc;subst hc;intro e;subst e;exact hf ha⟩
  ·dsimp only;rw[hts,←lN,eD,eD,←hmem]
end Go.Proofs.YtekdaafnjdlenaaGreat
namespace Go.Proofs.YtekdaafnjdlenaaGreat
open Go Go.Abs
theorem s9(K:Nat→Int):∀n,(∀i j,i<j→j<n→K j<0→K i<0)→∃b,b≤n∧(∀i,i<b→K i<0)∧∀i,b≤i→i<n→0≤K i
 |0,_=>⟨0,aO _,fun i h=>absurd h (by omega),fun i _ h=>absurd h (by omega)⟩
 |n+1,hm=>by
  by_cases h:K n<0
  ·refine⟨n+1,aO _,fun i hi=>?_,fun i h1 h2=>absurd h1 (by omega)⟩;by_cases e:i=n
   ·subst e;exact h
   ·exact hm i n (by omega) (by omega) h
  ·obtain⟨b,h1,h2,h3⟩:=s9 K n (fun i j hi hj=>hm i j hi (by omega));refine⟨b,by omega,h2,fun i hi hi2=>?_⟩;by_cases e:i=n
   ·subst e;omega
   ·exact h3 i hi (by omega)
theorem BU{tb tf:Bool}{i j:Nat}:bq .shr tb tf (.int .u64 ((i:Int)+(j:Int))) (.int .u64 1)=some (.int .u64 (((i+j)/2:Nat):Int)):=by
 have:=wo (k:=.u64) (a:=i+j) (b:=1) (tb:=tb) (tf:=tf) (k':=.u64) (by decide);simpa using this
attribute [local irreducible] aJ aj bf aX aP aQ aD aS a6 bk Go.Abs.Fn aV Go.Abs.Pure ar aK Yl
theorem kQ(c:List Spx)(k:Int)(hc:c.length≤50)(hs:∀s∈c,Shn s):pU 79 [bE c,.int .i64 k] (.tup [am (du c k).1,.int .i64 (du c k).2]):=by
 refine pO Nc ?_;simp only[b79,aG];have hcc:=ji c (show _≤_ by omega) hs;unfold du;by_cases he:ay c=0
 rotate_left
 ·rw[if_pos he];have z:decide (ay c≠0)=true:=aR he;refine wnY (zI3 @ai @af @z) ?_;exact dR (.eslsl _) rfl
 rw[if_neg (fun h=>h he)];rw[he] at hcc;have z0:decide ((0:Int)≠0)=false:=rfl;obtain⟨p1,p2,p3,p4⟩:=cK he;by_cases hk:k<1∨8<k
 ·rw[if_pos hk];have zz:=aI @ai (aI @af @z0);repeat' (first|refine zW ?_|apply a_n|apply a_r|refine zO ?_|refine vY ?_|refine cY ?_ (hp:=hcc) (hs:=by(first|refine aF ?_ rfl|apply aY);(repeat' (first|exact ak|apply bv|apply a5|exact cw _));first|done|fail)|refine bxY ?_|refine gTY ?_|refine gFY ?_|refine cTY ?_|refine cFY ?_|(refine zGY ?_ ?_<;>(intro _hg;try (exfalso;omega)))|refine bR rfl ?_|refine r2Y ?_|fail)
  all_goals first|exact dR (.eslsl _) rfl|(exfalso;omega)
 rw[if_neg hk];obtain⟨n,rfl⟩:∃n:Nat,k=n:=⟨k.toNat,by omega⟩
 rw[cr];have ha:=zR c n hc p2 ⟨by omega,by omega⟩;refine wnY (zI4 @ai @af @ae @z0) ?_;exact dR (bI _).snap rfl
theorem Ao(l:List Spx)(v:Spx)(hl:Shn l)(hs:∀c∈l,Shn c)(hv:Shn v){b:Nat}(hb:b≤l.length)(h1:∀i,i<b→bl (l.getD i default) v<0)(h2:∀i,b≤i→i<l.length→0≤bl (l.getD i default) v):
    pU 132 [am l,aA v,.func 70 []] (.tup [.int .i64 b,.bool (decide (b<l.length)&&decide (bl (l.getD b default) v=0))]):=by
 refine pO L7 ?_;simp only[Mi,aG];have hl':l.length≤17592186044416:=hl;refine wnZ (zI3 @a7 @aL @ae) ?_;refine lq (X:=Nat×Nat) (fun x=>[(0,am l),(1,aA v),(2,.func 70 []),(8,.int .i64 l.length),(9,.int .i64 x.1),(10,.int .i64 x.2)]) (fun x=>x.1≤b∧b≤x.2∧x.2≤l.length) (fun x=>x.2-x.1) (0,l.length) ⟨bB _,hb,aO _⟩ ag0 ?_;rintro⟨i,j⟩ ⟨g1,g2,g3⟩;dsimp only at g1 g2 g3 ⊢;by_cases hij:i<j
 ·have hh:(i+j)/2<l.length:=by omega
  have hc:=gy (l.getD ((i+j)/2) default) v (hs _ (az hh)) hv;have ix:=ec hh;by_cases hn:bl (l.getD ((i+j)/2) default) v<0
  ·have hbb:(i+j)/2<b:=Nat.lt_of_not_le fun h=>by have:=h2 _ h hh;omega
   refine wnZ (zI6 @a7 @aL @ae @ga @BU @ix) ?_;exact⟨((i+j)/2+1,j),⟨by omega,by omega,by omega⟩,by dsimp only;omega,ag0,rfl,rfl⟩
  ·have hbb:b≤(i+j)/2:=Nat.le_of_not_lt fun h=>hn (h1 _ h);refine wnZ (zI6 @a7 @aL @ae @ga @BU @ix) ?_;exact⟨(i,(i+j)/2),⟨by omega,by omega,by omega⟩,by dsimp only;omega,ag0,rfl,rfl⟩
 ·have ei:i=b:=by omega
  have ej:j=b:=by omega
  clear hij g1 g2 g3;subst ei;by_cases hlt:i<l.length
  ·have hc:=gy (l.getD i default) v (hs _ (az hlt)) hv;have ix:=ec hlt;have dlt:decide ((i:Int)<(l.length:Int))=true:=aR (by omega);have dij:decide ((i:Int)<(j:Int))=false:=aU (by omega);refine wnZ (zI6 @a7 @aL @ae @ix @dlt @dij) ?_;refine br (ah (.int _ _) (ah (b9 ?_) ak));rw[aR hlt,Bool.true_and]
  ·have dlt:decide ((i:Int)<(l.length:Int))=false:=aU (by omega);have dij:decide ((i:Int)<(j:Int))=false:=aU (by omega);refine wnZ (zI5 @a7 @aL @ae @dlt @dij) ?_;refine br (ah (.int _ _) (ah (b9 ?_) ak));rw[aU hlt,Bool.false_and]
end Go.Proofs.YtekdaafnjdlenaaGreat
namespace Go.Proofs.YtekdaafnjdlenaaGreat
open Go Go.Abs
def dQ(l:List Nat):List Int:=l.map fun(n:Nat)=>(n:Int)
def dl(c:Int)(rows:List (List Int)):AV:=.agg [.int .i64 c,bu rows]
theorem cT(c:Int)(rows:List (List Int)):Dat (dl c rows):=Dat.agg (DatL.cons .int (DatL.cons (jP _) DatL.nil))
structure MatOk(H:Hp)(b lo hi n:Nat)(F:Nat→List Nat)(vs:List AV):Prop where
 box:H b=some vs
 len:vs.length=n
 row:∀j,j<n→Row H 1 (vs.getD j .undef) ((F j).map sx)
 bnd:∀j B,j<n→bF (vs.getD j .undef)=some B→lo≤B∧B<hi∧B≠b
 apart:∀i j B,i<n→j<n→i≠j→bF (vs.getD i .undef)=some B→bF (vs.getD j .undef)≠some B
theorem MatOk.same{H H':Hp}{b lo hi hi' n:Nat}{F G:Nat→List Nat}{vs:List AV}(h:MatOk H b lo hi n F vs)(hb:H' b=H b)(hs:∀x,lo≤x→x<hi→x≠b→H' x=H x)(hh:hi≤hi')(hG:∀j,j<n→G j=F j):MatOk H' b lo hi' n G vs:=
 ⟨hb.trans h.box,h.len,fun j hj=>by rw[hG j hj];exact(h.row j hj).same fun B hB=>by have:=h.bnd j B hj hB;exact hs B this.1 this.2.1 this.2.2,fun j B hj hB=>by have:=h.bnd j B hj hB;exact⟨this.1,by omega,this.2.2⟩,h.apart⟩
theorem MatOk.put{H H':Hp}{b lo hi hi' n i x:Nat}{F G:Nat→List Nat}{vs:List AV}{sv:AV}(h:MatOk H b lo hi n F vs)(hin:i<n)(hG:∀j,j<n→G j=if j=i then F j++[x] else F j)(hrow:Row H' 1 sv ((F i++[x]).map sx))(hB:∀B,bF sv=some B→bF (vs.getD i .undef)=some B∨hi≤B∧B<hi'∧B≠b)(hb:H' b=some (vs.set i sv))
    (hs:∀x,lo≤x→x<hi→x≠b→bF (vs.getD i .undef)≠some x→H' x=H x) (hh:hi≤hi') (hlo:lo≤hi):MatOk H' b lo hi' n G (vs.set i sv):=by
 have hl:=h.len;have hg:∀j,(vs.set i sv).getD j .undef=if i=j then sv else vs.getD j .undef:=fun j=>qu (by omega)
 refine⟨hb,by simp[hl],fun j hj=>?_,fun j B hj=>?_,fun p q B hp hq hpq=>?_⟩
 ·rw[hg,hG j hj];by_cases e:i=j
  ·rw[if_pos e,if_pos e.symm,←e];exact hrow
  ·rw[if_neg e,if_neg (fun h=>e h.symm)]
   exact(h.row j hj).same fun B hB'=>by
    have:=h.bnd j B hj hB';exact hs B this.1 this.2.1 this.2.2 fun h'=>h.apart i j B hin hj e h' hB'
 ·rw[hg];by_cases e:i=j
  ·rw[if_pos e];intro hB';rcases hB B hB' with h'|h'
   ·have:=h.bnd _ B hin h';exact⟨this.1,by omega,this.2.2⟩
   ·exact⟨by omega,h'.2⟩
  ·rw[if_neg e];intro hB';have:=h.bnd j B hj hB';exact⟨this.1,by omega,this.2.2⟩
 ·rw[hg,hg];by_cases e1:i=p
  ·rw[if_pos e1,if_neg (by omega)];intro h1 h2;rcases hB B h1 with h'|h'
   ·exact h.apart i q B hin hq (by omega) h' h2
   ·have:=h.bnd q B hq h2;omega
  ·rw[if_neg e1];by_cases e2:i=q
   ·rw[if_pos e2];intro h1 h2;rcases hB B h2 with h'|h'
    ·exact h.apart p i B hp hin (by omega) h1 h'
    ·have:=h.bnd p B hp h1;omega
   ·rw[if_neg e2];exact h.apart p q B hp hq hpq
theorem MatOk.snap{H:Hp}{b lo hi n:Nat}{F:Nat→List Nat}{vs:List AV}(h:MatOk H b lo hi n F vs):Snap H (.msl b n 1 0 n) (bu ((List.range n).map fun i=>dQ (F i))):=by
 refine jd (l:=((List.range n).map fun i=>dQ (F i)).map aC) h.box h.len (by omega) (by simp) (fun y hy=>?_) (fun i a c ha hc=>?_)
 ·obtain⟨z,_,rfl⟩:=bK.1 hy;rfl
 ·have hin:i<n:=by
    have:=(bQ.1 hc).1;simpa using this
  have hr:=h.row i hin;rw[ce] at ha;have e1:vs.getD i .undef=a:=by rw[List.getD_eq_getElem?_getD,ha];rfl
  rw[e1] at hr
  have e2:c=aC (dQ (F i)):=by
   rw[lB,lB,List.getElem?_range hin] at hc;simpa using hc.symm
  rw[e2];exact BH hr
theorem MatOk.new{H:Hp}{b lo hi n:Nat}{F:Nat→List Nat}(hb:H b=some (List.replicate n .esl))(hF:∀j,j<n→F j=[]):MatOk H b lo hi n F (List.replicate n .esl):=by
 have hg:∀j,j<n→(List.replicate n AV.esl).getD j .undef=.esl:=fun j hj=>by simp[List.getD,List.getElem?_replicate,hj]
 refine⟨hb,by simp,fun j hj=>?_,fun j B hj h=>?_,fun i j B hi hj _ h=>?_⟩
 ·rw[hg j hj,hF j hj];exact Row.nil
 ·rw[hg j hj] at h;cases h
 ·rw[hg i hi] at h;cases h
theorem jF{H:Hp}{s:AV}{c:Int}{l:List (List Int)}{e f:Int}(h:Snap H s (bu l))(he:e=f):Snap H (.tup [.agg [.int .i64 c,s],.int .i64 e]) (.tup [dl c l,.int .i64 f]):=by
 subst he;exact br (ah (kr (ah (.int _ _) (ah h ak))) (ah (.int _ _) ak))
theorem rY{c:List Spx}{k:Nat}{s:Spx}:s∈gq c k↔ ∃t∈c,s∈ca t k:=by
 unfold gq;rw[mq,l6]
theorem EV{c:List Spx}{k:Nat}:b8 bl (gq c k):=sj my _
theorem oe{c:List Spx}{k:Nat}(h:c.length≤50)(h8:∀s∈c,s.length≤8):(gq c k).length≤3500:=eZ sT (eZ (iY h8) (by omega))
attribute [local irreducible] aJ aj bf aX aP aQ aD aS a6 bk Go.Abs.Fn aV Go.Abs.Pure ar aK Yl
end Go.Proofs.YtekdaafnjdlenaaGreat
namespace Go.Proofs.YtekdaafnjdlenaaGreat
open Go Go.Abs
theorem wT{H:Hp}{t x:AV}{cs:List AV}{l:List Nat}(hrow:Row H 1 t (cs++[x]))(hx:Row H 1 x (l.map sx))(hne:∀b,bF x=some b→bF t≠some b):∃Hf H',Fz Hf H H'∧Row H' 1 t (cs++[aC (dQ l)])∧∀y,bF x≠some y→bF t≠some y→H' y=H y:=by
 generalize hds:l.map sx=ds at hx;cases hx with
 |nil=>
  have hl:l=[]:=List.map_eq_nil_iff.1 hds;generalize hcs:cs++[AV.esl]=es at hrow;cases hrow with
  |nil=>exact absurd (congrArg List.length hcs) (by simp)
  |box b len es g1 g2=>
   refine⟨bP,aq H b (cs++[aC (dQ l)]),⟨fun y d h=>(by cases h),fun y d h=>?_⟩,Row.box b len _ ag (by rw[←g2,←hcs];simp),fun y h1 h2=>?_⟩
   ·by_cases e:y=b
    ·subst e;rw[ag] at h;cases h;exact⟨es,g1,rfl,by rw[←hcs];exact gg.snoc (by rw[hl];exact .eslsl 1)⟩
    ·rw[ac e] at h;exact⟨d,h,rfl,gg.refl _ _⟩
   ·rw[ac (fun e=>h2 (by rw[e];rfl))]
 |box b len ds g1 g2=>
  obtain⟨H',h1,h2,h3⟩:=qF (x':=aC (dQ l)) hrow g1 (BH (by rw[hds];exact Row.box b len ds iL g2)) (hne b rfl);exact⟨_,H',h1,h2,fun y y1 y2=>h3 y (fun e=>y1 (by rw[e];rfl)) y2⟩
attribute [local irreducible] aJ aj bf aX aP aQ aD aS a6 bk Go.Abs.Fn aV Go.Abs.Pure ar aK Yl
end Go.Proofs.YtekdaafnjdlenaaGreat
namespace Go.Proofs.YtekdaafnjdlenaaGreat
open Go Go.Abs
open Nat (reduceEqDiff reduceAdd reduceLeDiff)
theorem Bf{x:Int}{l:List Int}:jH 1 (aC (x::l)) (some (.int .i64 1)) none none=some (aC l):=kC (l:=x::l) (k:=1) (by simp)
theorem H8{x:Int}{l:List Int}:ey 1 (aC (x::l)) (.int .i64 0)=some (.iptr [.int .i64 x] 0):=by
 rw[mJ,if_pos ⟨Int.le_refl _,by simp only[bO];omega⟩];rfl
theorem pQ{P:Program}{T:Tm}{H:Hp}{nx:Nat}{dm:DM}{K:SP}{l:List Op2}{d:Option Nat}{bytes b N len n:Nat}{s x:Opd}{v:AV}{new C cs:List AV}(hd:dm2 dm T (.app 1 bytes s x)=true)(hs:ov T s=.msl b N 1 0 len)(hb:H b=some C)(hN:C.length=N)(htk:C.take len=cs)(hcl:cs.length=len)(hx:ov T x=v)(hsrc:er 1 H v=some (n,new))(ho:AV.ones new=true)(hnl:new.length=n)(hle:len+n≤N)(h1:N*bytes≤140737488355328)(h2:N≤9223372036854775807)
    (next:∀C':List AV,C'.length=N→C'.take (len+n)=cs++new→aj P dm l (aM T d (.msl b N 1 0 (len+n))) (aq H b C') nx K):
    aj P dm (⟨d,none,.app 1 bytes s x⟩::l) T H nx K:=by
 by_cases e:len=N
 ·obtain rfl:n=0:=by omega
  obtain rfl:new=[]:=List.eq_nil_of_length_eq_zero hnl;subst e;refine zE hd hs hb hx hsrc ho hN (Nat.mul_one _).symm h1 (by omega) ?_;rw[ph,Nat.mul_one];exact next _ (by rw[fP];exact hN) (by rw[fP,fP,ph];exact htk)
 ·refine AJ hd hs hb hx hsrc ho hN (fun _=>by omega) (by omega) (by omega) ?_;refine next _ ?_ ?_
  ·rw[gR (by rw[hnl,hN];omega)];exact hN
  ·simp only[bG,ce,Nat.mul_one];rw[htk,Hc (by rw[cS,hcl,hnl];omega),fM (by rw[cS,hcl,hnl];omega)]
theorem vD{H:Hp}{b N len:Nat}{C:List AV}{R:List Int}(hb:H b=some C)(hN:C.length=N)(hle:len≤N)(hR:R.length=len)(h:C.take len=R.map (AV.int .i64)):Snap H (.msl b N 1 0 len) (aC R):=by
 refine jd (l:=R.map (AV.int .i64)) hb hN (by omega) (by simp[hR]) (fun y hy=>?_) (fun i a c ha hc=>?_)
 ·obtain⟨z,_,rfl⟩:=bK.1 hy;rfl
 ·have hin:i<len:=by have:=(bQ.1 hc).1;rw[bt] at this;omega
  rw[←h,iq,if_pos hin] at hc;rw[ce,hc] at ha;cases ha
  have hm:a∈R.map (AV.int .i64):=by
   rw[←h];exact gm (i:=i) (by rw[iq,if_pos hin];exact hc)
  obtain⟨z,_,rfl⟩:=bK.1 hm;exact .int _ _
def bN:List Int→List Int→List Int
 |[],b=>b
 |x::a,[]=>x::a
 |x::a,y::b=>if x<y then x::bN a (y::b) else if y<x then y::bN (x::a) b else bN a b
termination_by a b=>a.length+b.length
theorem io{b:List Int}:bN [] b=b:=by rw[bN]
theorem fK{a:List Int}:bN a []=a:=by cases a<;>rw[bN]
theorem jO{x y:Int}{a b:List Int}:bN (x::a) (y::b)=if x<y then x::bN a (y::b) else if y<x then y::bN (x::a) b else bN a b:=by rw[bN]
theorem oG:∀(n:Nat)(a b:List Int),a.length+b.length≤n→(bN a b).length≤a.length+b.length
 |_,[],b,_=>by rw[io];simp
 |_,x::a,[],_=>by rw[fK];simp
 |0,x::a,y::b,h=>by simp only[bO] at h;omega
 |n+1,x::a,y::b,h=>by
  simp only[bO] at h ⊢;rw[jO];have h1:=oG n a (y::b) (by simp only[bO];omega);have h2:=oG n (x::a) b (by simp only[bO];omega);have h3:=oG n a b (by omega);simp only[bO] at h1 h2;split
  ·simp only[bO];omega
  split
  ·simp only[bO];omega
  ·omega
attribute [local irreducible] aJ aj bf aX aP aQ aD aS a6 bk Go.Abs.Fn aV Go.Abs.Pure ar aK Yl
theorem px(x:List Int)(n:Int)(hx:x.length≤1000000)(hr:∀v∈x,0≤v∧v<n)(ha:∀i,i+1<x.length→x.getD i default<x.getD (i+1) default):pU 114 [aC x,.int .i64 n] (.int .i64 0):=by
 refine pO Mo ?_;simp only[L0,aG];refine wnZ and_self ?_;refine lq (X:=Nat) (fun k=>[(0,aC x),(1,.int .i64 n),(7,aC x),(8,.int .i64 x.length),(9,.int .i64 k)]) (fun k=>k≤x.length) (fun k=>x.length-k) 0 (bB _) ag0 ?_;intro k hk;by_cases hk2:k<x.length
 rotate_left
 ·refine wnZ and_self ?_;exact .int _ _
 have h1:=hr _ (bg hk2);have z1:decide (x.getD k default<0)=false:=aU (by omega);have z2:decide (n≤x.getD k default)=false:=aU (by omega);by_cases hk0:0<k
 rotate_left
 ·have zk:decide (0<(k:Int))=false:=aU (by omega);refine wnZ (zI3 @z1 @z2 @zk) ?_;exact⟨k+1,by omega,by omega,ag0,rfl,rfl⟩
 have zk:decide (0<(k:Int))=true:=aR (by omega);have h2:=ha (k-1) (by omega);rw[show k-1+1=k by omega] at h2
 have iy:ey 1 (aC x) (.int .i64 ((k:Int)-1))=some (.iptr [.int .i64 (x.getD (k-1) default)] 0):=by
  rw[mJ,if_pos ⟨by omega,by omega⟩,show((k:Int)-1).toNat=k-1 by omega]
 have z3:decide (x.getD k default≤x.getD (k-1) default)=false:=aU (by omega);refine wnZ (zI5 @z1 @z2 @zk @iy @z3) ?_;exact⟨k+1,by omega,by omega,ag0,rfl,rfl⟩
def gr(c:Int)(R:List (List Int)):Prop:=0≤c∧c≤4096∧R.length≤4096∧∀r∈R,(∀v∈r,0≤v∧v<c)∧r.length≤4096∧∀i,i+1<r.length→r.getD i default<r.getD (i+1) default
theorem ll(c:Int)(R:List (List Int))(h:gr c R):pU 113 [.agg [.int .i64 c,bu R]] (.int .i64 0):=by
 refine pO MJ ?_;simp only[KC,aG];obtain⟨h1,h2,h3,h4⟩:=h;have z1:decide (c<0)=false:=aU (by omega);have z2:decide (4096<c)=false:=aU (by omega);have z3:decide ((4096:Int)<R.length)=false:=aU (by omega);refine wnZ (zI3 @z1 @z2 @z3) ?_;refine lq (X:=Nat) (fun k=>[(1,.ptr 0 2 0),(21,bu R),(22,.int .i64 R.length),(23,.int .i64 k)]) (fun k=>k≤R.length) (fun k=>R.length-k) 0 (bB _) (by(iterate 4 refine And.intro rfl ?_);trivial) ?_;intro k hk;by_cases hk2:k<R.length
 rotate_left
 ·refine wnZ and_self ?_;exact .int _ _
 obtain⟨r1,r2,r3⟩:=h4 _ (bg hk2);have hv:=px (R.getD k default) c (by omega) r1 r3;have z0:decide ((0:Int)≠0)=false:=rfl;refine wnZ @z0 ?_;exact⟨k+1,by omega,by omega,ag0,rfl,rfl⟩
theorem vE(a b:List Int)(ha:a.length≤1000000000000)(hb:b.length≤1000000000000):pU 124 [aC a,aC b] (aC (bN a b)):=by
 refine pO Kf ?_;simp only[Lv,aG];refine wnZ and_self ?_;refine xL (k1:=.i64) (k2:=.i64) (n:=0) (m:=(a.length:Int)+b.length) rfl ev0 ev0 (Int.le_refl _) (by omega) (by omega) (by omega) ?_;rw[show((a.length:Int)+b.length).toNat=a.length+b.length by omega];have hz:(bn (AV.agg [AV.int .i64 0]) (a.length+b.length)).length=a.length+b.length:=by simp[bn,AV.cells]
 generalize hN:a.length+b.length=N at *;refine wnZ and_self ?_;refine bT (X:=List Int×List Int×List Int×Nat) (fun x=>[(0,aC x.1),(1,aC x.2.1),(5,.msl 0 N 1 0 x.2.2.2)]) (fun x H nx=>1≤nx∧x.2.2.1.length=x.2.2.2∧x.2.2.2+x.1.length+x.2.1.length≤N∧x.2.2.1++bN x.1 x.2.1=bN a b∧∃C,H 0=some C∧C.length=N∧C.take x.2.2.2=x.2.2.1.map (AV.int .i64)) (fun x=>x.1.length+x.2.1.length) (a,b,[],0) ⟨aO _,rfl,by dsimp only;omega,rfl,_,ag,hz,rfl⟩ (by refine⟨rfl,rfl,?_,trivial⟩;((try simp only[bW,ZA,reduceEqDiff,↓reduceIte,reduceAdd,reduceLeDiff]);(try with_reducible rfl));rfl) ?_;rintro⟨a',b',D,k⟩ H nx ⟨h1,h2,h3,h4,C,h5,h6,h7⟩;dsimp only at h1 h2 h3 h4 h7 ⊢;have hDl:(D.map (AV.int .i64)).length=k:=by rw[bt];exact h2
 have hfin:(a'=[]∨b'=[])→D++(a'++b')=bN a b:=fun h=>by
  rcases h with rfl|rfl
  ·rw[io] at h4;exact h4
  ·rw[fK] at h4;rw[fP];exact h4
 by_cases hne:a'=[]∨b'=[]
 ·have h4:=hfin hne;clear hfin
  have y1:decide ((0:Int)<a'.length)=false∨decide ((0:Int)<a'.length)=true∧decide ((0:Int)<b'.length)=false:=by
   rcases hne with rfl|rfl
   ·exact .inl rfl
   ·by_cases h:a'=[]
    ·subst h;exact .inl rfl
    ·exact .inr ⟨aR (by have:=jN.2 h;omega),rfl⟩
  rcases y1 with y1|⟨y1,y2⟩
  ·refine wnY @y1 ?_;refine pQ (b:=0) (N:=N) (len:=k) (n:=a'.length) (new:=a'.map (AV.int .i64)) rfl ev0 h5 h6 h7 hDl ev0 fX gZ (by rw[bt]) (by omega) (by omega) (by omega) fun C2 c1 c2=>?_;refine wnY and_self ?_;refine pQ (b:=0) (N:=N) (len:=k+a'.length) (n:=b'.length) (new:=b'.map (AV.int .i64)) rfl ev0 ag c1 c2 (by rw[cS,hDl,bt]) ev0 fX gZ (by rw[bt]) (by omega) (by omega) (by omega) fun C3 c3 c4=>?_;refine wnY and_self ?_;rw[←h4];exact vD ag c3 (by omega) (by simp only[cS];omega) (by rw[←pi,c4,cu,cu,lN])
  ·refine wnY (aI @y1 @y2) ?_;refine pQ (b:=0) (N:=N) (len:=k) (n:=a'.length) (new:=a'.map (AV.int .i64)) rfl ev0 h5 h6 h7 hDl ev0 fX gZ (by rw[bt]) (by omega) (by omega) (by omega) fun C2 c1 c2=>?_;refine wnY and_self ?_;refine pQ (b:=0) (N:=N) (len:=k+a'.length) (n:=b'.length) (new:=b'.map (AV.int .i64)) rfl ev0 ag c1 c2 (by rw[cS,hDl,bt]) ev0 fX gZ (by rw[bt]) (by omega) (by omega) (by omega) fun C3 c3 c4=>?_;refine wnY and_self ?_;rw[←h4];exact vD ag c3 (by omega) (by simp only[cS];omega) (by rw[←pi,c4,cu,cu,lN])
 have ha0:a'≠[]:=fun h=>hne (.inl h);have hb0:b'≠[]:=fun h=>hne (.inr h);clear hfin hne;obtain⟨x,a2,rfl⟩:=List.exists_cons_of_ne_nil ha0;obtain⟨y,b2,rfl⟩:=List.exists_cons_of_ne_nil hb0;rw[jO] at h4;have la:(x::a2).length=a2.length+1:=rfl;have lb:(y::b2).length=b2.length+1:=rfl;have i1:=H8 (x:=x) (l:=a2);have i2:=H8 (x:=y) (l:=b2);have s1:=Bf (x:=x) (l:=a2);have s2:=Bf (x:=y) (l:=b2);generalize hA:x::a2=A at *;generalize hB:y::b2=B at *;have y1:decide ((0:Int)<A.length)=true:=aR (by omega);have y2:decide ((0:Int)<B.length)=true:=aR (by omega);by_cases g1:x<y
 ·rw[if_pos g1] at h4;have z1:decide (x<y)=true:=aR g1;refine wnY (zI5 @i1 @i2 @y1 @y2 @z1) ?_;refine pQ (b:=0) (N:=N) (len:=k) (n:=1) (new:=[.int .i64 x]) rfl ev0 (by rw[ac (by omega)];exact h5) h6 h7 hDl ev0 fv rfl rfl (by omega) (by omega) (by omega) fun C2 c1 c2=>?_;refine wnY @s1 ?_;exact⟨(a2,B,D++[x],k+1),by dsimp only;omega,⟨by omega,by simp[h2],by dsimp only;omega,by simpa using h4,C2,ag,c1,by rw[c2,cu];rfl⟩,ag0⟩
 rw[if_neg g1] at h4;have z1:decide (x<y)=false:=aU g1;by_cases g2:y<x
 ·rw[if_pos g2] at h4;have z2:decide (y<x)=true:=aR g2;refine wnY (zI6 @i1 @i2 @y1 @y2 @z1 @z2) ?_;refine pQ (b:=0) (N:=N) (len:=k) (n:=1) (new:=[.int .i64 y]) rfl ev0 (by rw[ac (by omega)];exact h5) h6 h7 hDl ev0 fv rfl rfl (by omega) (by omega) (by omega) fun C2 c1 c2=>?_;refine wnY @s2 ?_;exact⟨(A,b2,D++[y],k+1),by dsimp only;omega,⟨by omega,by simp[h2],by dsimp only;omega,by simpa using h4,C2,ag,c1,by rw[c2,cu];rfl⟩,ag0⟩
 rw[if_neg g2] at h4;have z2:decide (y<x)=false:=aU g2;refine wnY (zI8 @i1 @i2 @s1 @s2 @y1 @y2 @z1 @z2) ?_;exact⟨(a2,b2,D,k),by dsimp only;omega,⟨by omega,h2,by dsimp only;omega,h4,C,h5,h6,h7⟩,ag0⟩
end Go.Proofs.YtekdaafnjdlenaaGreat
namespace Go.Proofs.YtekdaafnjdlenaaGreat
open Go Go.Abs
attribute [local irreducible] aJ aj bf aX aP aQ aD aS a6 bk Go.Abs.Fn aV Go.Abs.Pure ar aK Yl
end Go.Proofs.YtekdaafnjdlenaaGreat
namespace Go.Proofs.YtekdaafnjdlenaaGreat
open Go Go.Abs
theorem Jp{H:Hp}{s:AV}{l:List Spx}(h:Row H 1 s (l.map aA)):∃Hf H',Fz Hf H H'∧Snap Hf s (am l)∧∀x,bF s≠some x→H' x=H x:=by
 generalize hcs:l.map aA=cs at h;cases h with
 |nil=>exact⟨bP,H,Fz.none,gL (by rw[hcs];exact Row.nil),fun _ _=>rfl⟩
 |box b len cs g1 g2=>exact⟨only b cs,dh H b,Fz.one g1,gL (by rw[hcs];exact Row.box b len cs iL g2),fun x hx=>cf (fun e=>hx (by rw[e];rfl))⟩
attribute [local irreducible] aJ aj bf aX aP aQ aD aS a6 bk Go.Abs.Fn aV Go.Abs.Pure ar aK Yl
end Go.Proofs.YtekdaafnjdlenaaGreat
namespace Go.Proofs.YtekdaafnjdlenaaGreat
open Go Go.Abs
def bz(l:List Int):Prop:=l.Pairwise (· < ·)
theorem jk:∀(n:Nat)(a b:List Int),a.length+b.length≤n→bz a→bz b→bz (bN a b)∧∀z,z∈bN a b↔(z∈a∧z∉b)∨(z∈b∧z∉a)
 |_,[],b,_,_,hb=>by rw[io];exact⟨hb,fun z=>by simp⟩
 |_,x::a,[],_,ha,_=>by rw[fK];exact⟨ha,fun z=>by simp⟩
 |0,x::a,y::b,h,_,_=>by simp only[bO] at h;omega
 |n+1,x::a,y::b,h,ha,hb=>by
  simp only[bO] at h;obtain⟨a1,a2⟩:=gU.1 ha;obtain⟨b1,b2⟩:=gU.1 hb;rw[jO];by_cases g1:x<y
  ·rw[if_pos g1];obtain⟨h1,h2⟩:=jk n a (y::b) (by simp only[bO];omega) a2 hb
   have hxb:∀z∈y::b,x<z:=fun z hz=>by
    rcases cW.1 hz with rfl|hz
    ·exact g1
    ·have:=b1 z hz;omega
   refine⟨gU.2 ⟨fun z hz=>?_,h1⟩,fun z=>?_⟩
   ·rcases(h2 z).1 hz with⟨q,_⟩|⟨q,_⟩
    ·exact a1 z q
    ·exact hxb z q
   ·rw[cW,h2,cW (a:=z) (b:=x)];by_cases hz:z=x
    ·subst hz;have:z∉y::b:=fun q=>by have:=hxb z q;omega
     simp[this]
    ·simp[hz]
  rw[if_neg g1];by_cases g2:y<x
  ·rw[if_pos g2];obtain⟨h1,h2⟩:=jk n (x::a) b (by simp only[bO];omega) ha b2
   have hya:∀z∈x::a,y<z:=fun z hz=>by
    rcases cW.1 hz with rfl|hz
    ·exact g2
    ·have:=a1 z hz;omega
   refine⟨gU.2 ⟨fun z hz=>?_,h1⟩,fun z=>?_⟩
   ·rcases(h2 z).1 hz with⟨q,_⟩|⟨q,_⟩
    ·exact hya z q
    ·exact b1 z q
   ·rw[cW,h2,cW (a:=z) (b:=y)];by_cases hz:z=y
    ·subst hz;have:z∉x::a:=fun q=>by have:=hya z q;omega
     simp[this]
    ·simp[hz]
  rw[if_neg g2];obtain rfl:x=y:=by omega
  obtain⟨h1,h2⟩:=jk n a b (by omega) a2 b2;refine⟨h1,fun z=>?_⟩;rw[h2];by_cases hz:z=x
  ·subst hz;have q1:z∉a:=fun q=>by have:=a1 z q;omega
   have q2:z∉b:=fun q=>by have:=b1 z q;omega
   simp[q1,q2]
  ·simp[hz]
theorem t5{l:List Int}(h:bz l)(i:Nat)(hi:i+1<l.length):l.getD i default<l.getD (i+1) default:=by
 have:=(kJ.1 h) i (i+1) (by omega) hi (by omega);simpa[List.getD,hi,show i<l.length by omega] using this
theorem oL:∀{a b:List Int},bz a→bz b→(∀z,z∈a↔z∈b)→a=b
 |[],[],_,_,_=>rfl
 |[],y::b,_,_,h=>absurd ((h y).2 (dq ..)) (by simp)
 |x::a,[],_,_,h=>absurd ((h x).1 (dq ..)) (by simp)
 |x::a,y::b,ha,hb,h=>by
  obtain⟨a1,a2⟩:=gU.1 ha;obtain⟨b1,b2⟩:=gU.1 hb
  have e:x=y:=by
   rcases cW.1 ((h x).1 (dq ..)) with e|e
   ·exact e
   ·rcases cW.1 ((h y).2 (dq ..)) with e2|e2
    ·exact e2.symm
    ·have:=b1 _ e;have:=a1 _ e2;omega
  subst e
  congr 1
  refine oL a2 b2 fun z=>⟨fun hz=>?_,fun hz=>?_⟩
  ·rcases cW.1 ((h z).1 (ew _ hz)) with e|e
   ·have:=a1 z hz;omega
   ·exact e
  ·rcases cW.1 ((h z).2 (ew _ hz)) with e|e
   ·have:=b1 z hz;omega
   ·exact e
theorem eb{a b:List Int}(ha:bz a)(hb:bz b):bz (bN a b):=(jk _ a b (aO _) ha hb).1
def bit(z:Int)(a:List Int):Nat:=if z∈a then 1 else 0
theorem m9{z:Int}:bit z []=0:=by simp[bit]
theorem gF{z:Int}{a:List Int}:bit z a<2:=by unfold bit;split<;>omega
theorem dB{z:Int}{a:List Int}:bit z a=1↔z∈a:=by unfold bit;split<;>simp[*]
theorem dP{a b:List Int}{z:Int}(ha:bz a)(hb:bz b):bit z (bN a b)=(bit z a+bit z b)%2:=by
 unfold bit;have h:=(jk _ a b (aO _) ha hb).2 z;by_cases h1:z∈a<;>by_cases h2:z∈b<;>simp[h,h1,h2]
theorem jC{a b:List Int}(ha:bz a)(hb:bz b)(h:∀z,bit z a=bit z b):a=b:=
 oL ha hb fun z=>by rw[←dB,←dB,h z]
theorem we{a:List Int}(h:∀z,bit z a=0):a=[]:=by
 cases a with
 |nil=>rfl
 |cons x l=>exact absurd (h x) (by rw[dB.2 (dq ..)];decide)
def ld(r:List Int):Int:=r.getD 0 0
theorem dj{v:List Int}(h:v≠[]):ld v∈v:=by
 cases v with
 |nil=>exact absurd rfl h
 |cons x l=>exact dq ..
theorem nD{v:List Int}(h:bz v){z:Int}(hz:z∈v):ld v≤z:=by
 cases v with
 |nil=>cases hz
 |cons x l=>
  rcases cW.1 hz with rfl|hz
  ·exact Int.le_refl _
  ·exact Int.le_of_lt ((gU.1 h).1 z hz)
inductive Sp(R:List (List Int)):List Int→Prop
 |nil:Sp R []
 |add {v r:List Int}:Sp R v→r∈R→Sp R (bN v r)
theorem eA{R:List (List Int)}{r:List Int}(h:r∈R):Sp R r:=by
 have:=Sp.add (Sp.nil (R:=R)) h
 rwa [io] at this
def nM(z:Int)(p:List Int→Bool):List (List Int)→Nat
 |[]=>0
 |r::E=>(if p r=true then bit z r else 0)+nM z p E
theorem nP{z:Int}{p q:List Int→Bool}:∀{E:List (List Int)},(∀r∈E,p r=q r)→nM z p E=nM z q E
 |[],_=>rfl
 |r::E,h=>by
  unfold nM;rw[h r (dq ..),nP fun x hx=>h x (ew _ hx)]
theorem sL{z:Int}{p:List Int→Bool}:∀{E:List (List Int)},nM z p E≠0→∃q∈E,p q=true∧z∈q
 |[],h=>absurd rfl h
 |r::E,h=>by
  unfold nM at h;by_cases h1:p r=true∧z∈r
  ·exact⟨r,dq ..,h1⟩
  ·have:nM z p E≠0:=fun e=>by
     rw[e] at h;by_cases h2:p r=true
     ·rw[if_pos h2] at h;have:bit z r=1:=by have:=gF (z:=z) (a:=r);omega
      exact h1 ⟨h2,dB.1 this⟩
     ·rw[if_neg h2] at h;exact h rfl
   obtain⟨q,q1,q2⟩:=sL this;exact⟨q,ew _ q1,q2⟩
theorem mX{z:Int}{p:List Int→Bool}{E:List (List Int)}(h:∀q∈E,p q=true→z∉q):nM z p E=0:=
 Decidable.byContradiction fun e=>by
  obtain⟨q,q1,q2,q3⟩:=sL e;exact h q q1 q2 q3
theorem zQ{z:Int}{p:List Int→Bool}{r:List Int}:∀{E:List (List Int)},E.Nodup→r∈E→nM z (fun q=>(p q).xor (decide (q=r))) E%2=(nM z p E+bit z r)%2
 |[],_,h=>by cases h
 |q::E,hn,h=>by
  obtain⟨n1,n2⟩:=List.nodup_cons.1 hn;unfold nM;by_cases e:q=r
  ·subst e
   rw [nP (q:=p) (fun x hx=>by
    have:x≠q:=fun e=>n1 (e▸hx);simp[this])]
   cases hp:p q<;>simp <;>have:=gF (z:=z) (a:=q)<;>omega
  ·have h2:r∈E:=(cW.1 h).resolve_left fun x=>e x.symm;have:=zQ (z:=z) (p:=p) n2 h2;simp only[e,decide_false,Bool.xor_false];omega
theorem sQ{z:Int}{p:List Int→Bool}{r:List Int}:∀{E:List (List Int)},E.Nodup→r∈E→z∈r→(∀q∈E,z∈q→q=r)→nM z p E=if p r=true then 1 else 0
 |[],_,h,_,_=>by cases h
 |q::E,hn,h,hz,ho=>by
  obtain⟨n1,n2⟩:=List.nodup_cons.1 hn;unfold nM;by_cases e:q=r
  ·subst e;rw[mX (fun x hx _ hzx=>n1 (ho x (ew _ hx) hzx▸hx)),dB.2 hz,ph]
  ·have h2:r∈E:=(cW.1 h).resolve_left fun x=>e x.symm;have hq:z∉q:=fun x=>e (ho q (dq ..) x);rw[sQ n2 h2 hz fun x hx=>ho x (ew _ hx),show bit z q=0 by unfold bit;rw[if_neg hq]];simp
theorem ww{E:List (List Int)}{v:List Int}(hE:∀r∈E,bz r)(hn:E.Nodup)(h:Sp E v):bz v∧∃p,∀z,bit z v=nM z p E%2:=by
 induction h with
 |nil=>exact⟨qq,fun _=>false,fun z=>by rw[m9,mX (p:=fun _=>false) fun q _ h=>by cases h]⟩
 | @add w r h1 h2 ih=>
  obtain⟨ha,p,hp⟩:=ih;refine⟨eb ha (hE _ h2),fun q=>(p q).xor (decide (q=r)),fun z=>?_⟩;rw[dP ha (hE _ h2),hp z,zQ hn h2];omega
theorem mw{R:List (List Int)}{v:List Int}(hR:∀r∈R,bz r)(h:Sp R v):bz v:=by
 induction h with
 |nil=>exact qq
 |add h1 h2 ih=>exact eb ih (hR _ h2)
structure Red(E:List (List Int)):Prop where
 asc:∀r∈E,bz r
 ne:∀r∈E,r≠[]
 own:∀r∈E,∀q∈E,ld r∈q→q=r
 ord:E.Pairwise fun r q=>ld r<ld q
theorem Red.nodup{E:List (List Int)}(h:Red E):E.Nodup:=xK (fun{x y}(q:ld x<ld y) e=>by rw[e] at q;omega) h.ord
theorem Red.cnt{E:List (List Int)}(h:Red E){p:List Int→Bool}{r:List Int}(hr:r∈E):nM (ld r) p E=if p r=true then 1 else 0:=
 sQ h.nodup hr (dj (h.ne r hr)) fun q hq hz=>h.own r hr q hq hz
theorem GZ{E:List (List Int)}{v w:List Int}(hE:Red E)(hv:Sp E v)(hw:Sp E w)(h:∀r∈E,ld r∈v↔ld r∈w):v=w:=by
 obtain⟨av,p,hp⟩:=ww hE.asc hE.nodup hv;obtain⟨aw,q,hq⟩:=ww hE.asc hE.nodup hw;refine jC av aw fun z=>?_;rw[hp z,hq z]
 congr 1
 refine nP fun r hr=>?_;have h1:=h r hr;rw[←dB,←dB,hp,hq,hE.cnt hr,hE.cnt hr] at h1;cases h2:p r<;>cases h3:q r<;>simp[h2,h3] at h1<;>rfl
theorem yo{p:List Int→Bool}:∀{E:List (List Int)},E.Pairwise (fun r q=>ld r<ld q)→(∃r∈E,p r=true)→∃r∈E,p r=true∧∀q∈E,p q=true→ld r≤ld q
 |[],_,h=>by obtain⟨_,h,_⟩:=h;cases h
 |x::E,ho,h=>by
  obtain⟨o1,o2⟩:=gU.1 ho;by_cases hx:p x=true
  ·refine⟨x,dq ..,hx,fun q hq _=>?_⟩;rcases cW.1 hq with rfl|hq
   ·exact Int.le_refl _
   ·exact Int.le_of_lt (o1 q hq)
  ·obtain⟨r,hr,hp⟩:=h;have hrE:r∈E:=(cW.1 hr).resolve_left fun e=>hx (e▸hp);obtain⟨s,s1,s2,s3⟩:=yo o2 ⟨r,hrE,hp⟩;refine⟨s,ew _ s1,s2,fun q hq hpq=>?_⟩;rcases cW.1 hq with rfl|hq
   ·exact absurd hpq hx
   ·exact s3 q hq hpq
theorem zC{E:List (List Int)}{v:List Int}(hE:Red E)(hv:Sp E v)(h0:v≠[]):∃r∈E,ld r=ld v:=by
 obtain⟨av,p,hp⟩:=ww hE.asc hE.nodup hv
 have hex:∃ r ∈ E,p r=true:=Decidable.byContradiction fun hn=>h0 (we fun z=>by
  rw[hp z,mX fun q hq hpq=>absurd ⟨q,hq,hpq⟩ hn])
 obtain⟨r,r1,r2,r3⟩:=yo hE.ord hex;refine⟨r,r1,Int.le_antisymm ?_ ?_⟩
 ·have h1:bit (ld v) v=1:=dB.2 (dj h0);rw[hp] at h1;obtain⟨q,q1,q2,q3⟩:=sL (z:=ld v) (p:=p) (E:=E) (fun e=>by rw[e] at h1;cases h1);exact Int.le_trans (r3 q q1 q2) (nD (hE.asc q q1) q3)
 ·refine nD av (dB.1 ?_);rw[hp,hE.cnt r1,if_pos r2]
theorem vL:∀{E F:List (List Int)},E.map ld=F.map ld→(∀r∈E,∀q∈F,ld r=ld q→r=q)→E=F
 |[],[],_,_=>rfl
 |[],_::_,h,_=>by cases h
 |_::_,[],h,_=>by cases h
 |x::E,y::F,h,hi=>by
  obtain⟨h1,h2⟩:=List.cons.inj h;rw[hi x (dq ..) y (dq ..) h1,vL h2 fun r hr q hq=>hi r (ew _ hr) q (ew _ hq)]
theorem sM{E F:List (List Int)}(hE:Red E)(hF:Red F)(h:∀v,Sp E v↔Sp F v):E=F:=by
 have leads:E.map ld=F.map ld:=by
  refine oL (List.pairwise_map.2 hE.ord) (List.pairwise_map.2 hF.ord) fun z=>?_;rw[bK,bK];constructor
  ·rintro⟨r,hr,rfl⟩;exact zC hF ((h r).1 (eA hr)) (hE.ne r hr)
  ·rintro⟨r,hr,rfl⟩;exact zC hE ((h r).2 (eA hr)) (hF.ne r hr)
 refine vL leads fun r hr q hq e=>?_;refine GZ hF ((h r).1 (eA hr)) (eA hq) fun f hf=>⟨fun hfr=>?_,fun hfq=>?_⟩
 ·have hm:ld f∈E.map ld:=by rw[leads];exact bK.2 ⟨f,hf,rfl⟩
  obtain⟨g,hg,eg⟩:=bK.1 hm;rw[←eg] at hfr;have h1:=hE.own g hg r hr hfr;rw[←eg,←h1,e];exact dj (hF.ne q hq)
 ·have h1:=hF.own f hf q hq hfq;rw[←h1,←e];exact dj (hE.ne r hr)
abbrev Ln:=List Int×List Int
def kF(f:Ln→List Int)(z:Int)(p:Ln→Bool):List Ln→Nat
 |[]=>0
 |r::E=>(if p r=true then bit z (f r) else 0)+kF f z p E
theorem gH{f:Ln→List Int}{z:Int}{p q:Ln→Bool}:∀{E:List Ln},(∀r∈E,p r=q r)→kF f z p E=kF f z q E
 |[],_=>rfl
 |r::E,h=>by
  unfold kF;rw[h r (dq ..),gH fun x hx=>h x (ew _ hx)]
theorem nH{f:Ln→List Int}{z:Int}:∀{E:List Ln},kF f z (fun _=>false) E=0
 |[]=>rfl
 |r::E=>by unfold kF;rw[nH];rfl
theorem rP{f:Ln→List Int}{z:Int}{p:Ln→Bool}{r:Ln}:∀{E:List Ln},E.Nodup→r∈E→kF f z (fun q=>(p q).xor (decide (q=r))) E%2=(kF f z p E+bit z (f r))%2
 |[],_,h=>by cases h
 |q::E,hn,h=>by
  obtain⟨n1,n2⟩:=List.nodup_cons.1 hn;unfold kF;by_cases e:q=r
  ·subst e
   rw [gH (q:=p) (fun x hx=>by
    have:x≠q:=fun e=>n1 (e▸hx);simp[this])]
   cases hp:p q<;>simp <;>have:=gF (z:=z) (a:=f q)<;>omega
  ·have h2:r∈E:=(cW.1 h).resolve_left fun x=>e x.symm;have:=rP (f:=f) (z:=z) (p:=p) n2 h2;simp only[e,decide_false,Bool.xor_false];omega
structure RedU(M:List Ln):Prop where
 asc:∀l∈M,bz l.1∧bz l.2
 ne:∀l∈M,l.1≠[]
 own:∀l∈M,∀m∈M,ld l.1∈m.1→m=l
 nodup:M.Nodup
def dY(x l:Ln):Ln:=(bN x.1 l.1,bN x.2 l.2)
def rdL(M:List Ln)(p:Ln→Bool)(x:Ln):Ln:=M.foldl (fun a l=>if p l=true then dY a l else a) x
def cm(x:Ln):Prop:=bz x.1∧bz x.2
theorem eJ{x l:Ln}(hx:cm x)(hl:cm l):cm (dY x l):=⟨eb hx.1 hl.1,eb hx.2 hl.2⟩
theorem iH{p:Ln→Bool}:∀{M:List Ln}{x:Ln},(∀l∈M,cm l)→cm x→cm (rdL M p x)
 |[],_,_,hx=>hx
 |l::M,x,hM,hx=>by
  unfold rdL;rw[List.foldl_cons];refine iH (M:=M) (fun m hm=>hM m (ew _ hm)) ?_;split
  ·exact eJ hx (hM l (dq ..))
  ·exact hx
theorem ka{p:Ln→Bool}{z:Int}:∀{M:List Ln}{x:Ln},(∀l∈M,cm l)→cm x→bit z (rdL M p x).1=(bit z x.1+kF Prod.fst z p M)%2
 |[],x,_,_=>by
  have:=gF (z:=z) (a:=x.1);show bit z x.1=(bit z x.1+0)%2;omega
 |l::M,x,hM,hx=>by
  have hl:=hM l (dq ..)
  have hx':cm (if p l=true then dY x l else x):=by
   split
   ·exact eJ hx hl
   ·exact hx
  have ih:=ka (p:=p) (z:=z) (M:=M) (fun m hm=>hM m (ew _ hm)) hx';show bit z (rdL M p (if p l=true then dY x l else x)).1=(bit z x.1+((if p l=true then bit z l.1 else 0)+kF Prod.fst z p M))%2;rw[ih];clear ih;by_cases h:p l=true
  ·rw[if_pos h,if_pos h];unfold dY;rw[dP hx.1 hl.1];omega
  ·rw[if_neg h,if_neg h];omega
theorem lW{p:Ln→Bool}{z:Int}:∀{M:List Ln}{x:Ln},(∀l∈M,cm l)→cm x→bit z (rdL M p x).2=(bit z x.2+kF Prod.snd z p M)%2
 |[],x,_,_=>by
  have:=gF (z:=z) (a:=x.2);show bit z x.2=(bit z x.2+0)%2;omega
 |l::M,x,hM,hx=>by
  have hl:=hM l (dq ..)
  have hx':cm (if p l=true then dY x l else x):=by
   split
   ·exact eJ hx hl
   ·exact hx
  have ih:=lW (p:=p) (z:=z) (M:=M) (fun m hm=>hM m (ew _ hm)) hx';show bit z (rdL M p (if p l=true then dY x l else x)).2=(bit z x.2+((if p l=true then bit z l.2 else 0)+kF Prod.snd z p M))%2;rw[ih];clear ih;by_cases h:p l=true
  ·rw[if_pos h,if_pos h];unfold dY;rw[dP hx.2 hl.2];omega
  ·rw[if_neg h,if_neg h];omega
def eP(x:Ln)(l:Ln):Bool:=decide (ld l.1∈x.1)
def eW(M:List Ln)(x:Ln):Ln:=rdL M (eP x) x
theorem Fw{x y:Ln}(hx:cm x)(hy:cm y)(h1:∀z,bit z x.1=bit z y.1)(h2:∀z,bit z x.2=bit z y.2):x=y:=
 Prod.ext (jC hx.1 hy.1 h1) (jC hx.2 hy.2 h2)
theorem C9{M:List Ln}{x l:Ln}(hM:RedU M)(hx:cm x)(hl:l∈M):eW M (dY x l)=eW M x:=by
 have hla:cm l:=hM.asc l hl;have hxl:=eJ hx hla
 have hp:∀m∈M,eP (dY x l) m=(eP x m).xor (decide (m=l)):=fun m hm=>by
  unfold eP;have h1:ld m.1∈l.1↔m=l:=⟨fun h=>(hM.own m hm l hl h).symm,fun e=>e▸dj (hM.ne m hm)⟩
  have h2:=(jk _ x.1 l.1 (aO _) hx.1 hla.1).2 (ld m.1);show decide (ld m.1∈bN x.1 l.1)=_;by_cases b:m=l
  ·subst b;have h3:=dj (hM.ne m hm);by_cases a:ld m.1∈x.1<;>simp[h2,h3,a]
  ·have h3:ld m.1∉l.1:=fun h=>b (h1.1 h);by_cases a:ld m.1∈x.1<;>simp[h2,h3,a,b]
 refine Fw (iH hM.asc hxl) (iH hM.asc hx) (fun z=>?_) (fun z=>?_)
 ·unfold eW;rw[ka hM.asc hxl,ka hM.asc hx,gH hp];have:=rP (f:=Prod.fst) (z:=z) (p:=eP x) hM.nodup hl;unfold dY;rw[dP hx.1 hla.1];omega
 ·unfold eW;rw[lW hM.asc hxl,lW hM.asc hx,gH hp];have:=rP (f:=Prod.snd) (z:=z) (p:=eP x) hM.nodup hl;unfold dY;rw[dP hx.2 hla.2];omega
theorem Dh{M:List Ln}{x:Ln}(hM:RedU M)(hx:cm x)(h:∀l∈M,ld l.1∉x.1):eW M x=x:=by
 have hp:∀m∈M,eP x m=false:=fun m hm=>aU (h m hm);refine Fw (iH hM.asc hx) hx (fun z=>?_) (fun z=>?_)
 ·unfold eW;rw[ka hM.asc hx,gH hp,nH];have:=gF (z:=z) (a:=x.1);omega
 ·unfold eW;rw[lW hM.asc hx,gH hp,nH];have:=gF (z:=z) (a:=x.2);omega
theorem dp{a b:List Int}{z:Int}(ha:bz a)(hb:bz b):z∈bN a b↔(z∈a∧z∉b)∨(z∈b∧z∉a):=(jk _ a b (aO _) ha hb).2 z
theorem fg{a b c:List Int}(ha:bz a)(hb:bz b)(hc:bz c):bN a (bN b c)=bN (bN a b) c:=
 jC (eb ha (eb hb hc)) (eb (eb ha hb) hc) fun z=>by
  rw[dP ha (eb hb hc),dP hb hc,dP (eb ha hb) hc,dP ha hb];omega
theorem fT{a:List Int}(ha:bz a):bN a a=[]:=
 we fun z=>by rw[dP ha ha];omega
theorem kY{S:List (List Int)}{v w:List Int}(hS:∀r∈S,bz r)(hv:Sp S v)(hw:Sp S w):Sp S (bN v w):=by
 induction hw with
 |nil=>rw[fK];exact hv
 | @add w r h1 h2 ih=>
  rw[fg (mw hS hv) (mw hS h1) (hS _ h2)];exact Sp.add ih h2
theorem mB{R S:List (List Int)}{v:List Int}(hS:∀r∈S,bz r)(h:∀r∈R,Sp S r)(hv:Sp R v):Sp S v:=by
 induction hv with
 |nil=>exact Sp.nil
 |add h1 h2 ih=>exact kY hS ih (h _ h2)
theorem li{R S:List (List Int)}{v:List Int}(h:∀r∈R,r∈S)(hv:Sp R v):Sp S v:=by
 induction hv with
 |nil=>exact Sp.nil
 |add h1 h2 ih=>exact Sp.add ih (h _ h2)
theorem xy{p:Ln→Bool}{S:List (List Int)}(hS:∀r∈S,bz r):∀{M:List Ln}{x:Ln},(∀l∈M,cm l∧l.1∈S)→cm x→Sp S (bN x.1 (rdL M p x).1)
 |[],x,_,hx=>by
  show Sp S (bN x.1 x.1);rw[fT hx.1];exact Sp.nil
 |l::M,x,hM,hx=>by
  obtain⟨hl,hlS⟩:=hM l (dq ..);have hM':=fun m hm=>hM m (ew _ hm)
  have hx':cm (if p l=true then dY x l else x):=by
   split
   ·exact eJ hx hl
   ·exact hx
  have ih:=xy (p:=p) hS (M:=M) hM' hx';have hr:=iH (p:=p) (M:=M) (fun m hm=>(hM' m hm).1) hx';show Sp S (bN x.1 (rdL M p (if p l=true then dY x l else x)).1);by_cases h:p l=true
  ·rw[if_pos h] at ih hr hx' ⊢
   have e:bN x.1 (rdL M p (dY x l)).1=bN (bN (dY x l).1 (rdL M p (dY x l)).1) l.1:=
    jC (eb hx.1 hr.1) (eb (eb hx'.1 hr.1) hl.1) fun z=>by
     rw[dP hx.1 hr.1,dP (eb hx'.1 hr.1) hl.1,dP hx'.1 hr.1];show _=((bit z (bN x.1 l.1)+_)%2+_)%2;rw[dP hx.1 hl.1];omega
   rw[e];exact Sp.add ih hlS
  ·rw[if_neg h] at ih ⊢;exact ih
theorem mR{M:List Ln}{x:Ln}(hM:RedU M)(hx:cm x){l:Ln}(hl:l∈M):ld l.1∉(eW M x).1:=by
 rw[←dB];unfold eW;rw[ka hM.asc hx]
 have hc:∀{E:List Ln},E.Nodup→(∀m∈E,ld l.1∈m.1→m=l)→kF Prod.fst (ld l.1) (eP x) E=if l∈E∧eP x l=true then 1 else 0:=by
  intro E
  induction E with
  |nil=>intro _ _;simp[kF]
  |cons m E ih=>
   intro hn ho;obtain⟨n1,n2⟩:=List.nodup_cons.1 hn;have ih:=ih n2 fun m hm=>ho m (ew _ hm);show(if eP x m=true then bit (ld l.1) m.1 else 0)+kF Prod.fst (ld l.1) (eP x) E=_;rw[ih];by_cases e:m=l
   ·subst e;have hb:bit (ld m.1) m.1=1:=dB.2 (dj (hM.ne m hl));simp[n1,hb]
   ·have hb:bit (ld l.1) m.1=0:=by
      unfold bit;rw[if_neg fun h=>e (ho m (dq ..) h)]
    have e2:l≠m:=fun h=>e h.symm;simp[hb,e2]
 rw[hc hM.nodup fun m hm h=>hM.own l hl m hm h];unfold eP bit;by_cases h:ld l.1∈x.1<;>simp[h,hl]
def jo(y l:Ln):Ln:=if ld y.1∈l.1 then dY l y else l
def lz(M:List Ln)(y:Ln):List Ln:=M.map (jo y)++[y]
theorem tN{M:List Ln}{y l:Ln}(hM:RedU M)(hy:cm y)(h0:y.1≠[])(hn:∀l∈M,ld l.1∉y.1)(hl:l∈M):
    cm (jo y l)∧(∀m∈M,ld m.1∈(jo y l).1↔l=m)∧ld y.1∉(jo y l).1∧ld (jo y l).1=ld l.1:=by
 have hla:=hM.asc l hl;have how:∀m∈M,ld m.1∈l.1↔l=m:=fun m hm=>⟨fun h=>hM.own m hm l hl h,fun e=>e▸dj (hM.ne l hl)⟩
 unfold jo;by_cases h:ld y.1∈l.1
 ·rw[if_pos h];have hs:=fun z=>dp (z:=z) hla.1 hy.1
  have ho:∀m∈M,ld m.1∈(dY l y).1↔l=m:=fun m hm=>by
   show ld m.1∈bN l.1 y.1↔_;rw[hs];have:=hn m hm;rw[←how m hm];simp[this]
  refine⟨eJ hla hy,ho,?_,?_⟩
  ·show ld y.1∉bN l.1 y.1;rw[hs];have:=dj h0;simp[this,h]
  ·have hm:=(ho l hl).2 rfl;refine Int.le_antisymm (nD (eJ hla hy).1 hm) ?_;have hne:(dY l y).1≠[]:=fun e=>by rw[e] at hm;cases hm
   have hq:=dj hne;rcases(hs _).1 hq with q|q
   ·exact nD hla.1 q.1
   ·exact Int.le_trans (nD hla.1 h) (nD hy.1 q.1)
 ·rw[if_neg h];exact⟨hla,how,h,rfl⟩
theorem C5{M:List Ln}{y:Ln}(hM:RedU M)(hy:cm y)(h0:y.1≠[])(hn:∀l∈M,ld l.1∉y.1):RedU (lz M y):=by
 have hf:=fun l(hl:l∈M)=>tN hM hy h0 hn hl
 have hmem:∀{m},m∈lz M y→(∃l∈M,jo y l=m)∨m=y:=fun{m} h=>by
  rcases eD.1 h with h|h
  ·exact .inl (bK.1 h)
  ·exact .inr (de.1 h)
 constructor
 ·intro m hm;rcases hmem hm with⟨l,hl,rfl⟩|rfl
  ·exact(hf l hl).1
  ·exact hy
 ·intro m hm;rcases hmem hm with⟨l,hl,rfl⟩|rfl
  ·intro e;have:=((hf l hl).2.1 l hl).2 rfl;rw[e] at this;cases this
  ·exact h0
 ·intro m hm k hk h;rcases hmem hm with⟨l,hl,rfl⟩|rfl
  ·rw[(hf l hl).2.2.2] at h;rcases hmem hk with⟨q,hq,rfl⟩|rfl
   ·rw[((hf q hq).2.1 l hl).1 h]
   ·exact absurd h (hn l hl)
  ·rcases hmem hk with⟨q,hq,rfl⟩|rfl
   ·exact absurd h (hf q hq).2.2.1
   ·rfl
 ·refine yu.2 ⟨?_,by simp,fun a ha b hb e=>?_⟩
  ·refine List.pairwise_map.2 (List.Pairwise.imp_of_mem (fun{a b} ha hb hab e=>hab ?_) hM.nodup);have h1:=(hf a ha).2.2.2;rw[e,(hf b hb).2.2.2] at h1;refine(hM.own b hb a ha ?_);rw[h1];exact dj (hM.ne a ha)
  ·obtain⟨l,hl,rfl⟩:=bK.1 ha;rw[de] at hb;subst hb;have:=(hf l hl).2.2.1;rw[e] at this;exact this (dj h0)
end Go.Proofs.YtekdaafnjdlenaaGreat