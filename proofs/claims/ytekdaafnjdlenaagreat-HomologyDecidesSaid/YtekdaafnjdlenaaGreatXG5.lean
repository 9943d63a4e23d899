/- Texts of this claim, one after the other: U8s, U9s, U10s, U11s, U12s, U13s, U2p, U3p, U4p, U5p, U6p, U7p, U8p, U10p, U12p, U13p, T106, T109, T110, T111, T112, T113, T107, T114, T115, T116, T117, T119, T124, T125, T120, T123, T126, T127, T128, T135, T136, T137, T129, T130, T131, T138, T139, T140, T141, T142, T143, T163, T164, T132, T134, T160, T161, T122, T133, T162, T165, T220, T221, T222, T223, T224, T225. -/
import Derived.Test.YtekdaafnjdlenaaGreatXG4
import Derived.Test.YtekdaafnjdlenaaGreatXG3

set_option linter.unusedSimpArgs false
set_option linter.unusedVariables false
set_option maxHeartbeats 1000000
namespace Go.Proofs.YtekdaafnjdlenaaGreat
open Go Go.Abs
structure PartR{α:Type}[Inhabited α](P:α→Prop)(a e mu i j:Nat)(M:List α):Prop where
 lo:a+1≤i
 mid:i≤j+1
 hi:j<e
 mu:j+1-i≤mu
 up:∀p,a+1≤p→p<i→P (M.getD p default)
 dn:∀q,j<q→q<e→¬P (M.getD q default)
section
variable{α:Type}[Inhabited α]{f:α→AV}{K:α→α→Int}{G:α→Prop}{g:Nat}{caps:List AV}
theorem PartR.start{P:α→Prop}{a m:Nat}{M:List α}(h:a≤m):PartR P a (m+1) (m+1-(a+1)) (a+1) m M:=⟨aO _,by omega,by omega,aO _,fun p h1 h2=>by omega,fun q h1 h2=>by omega⟩
theorem PartR.stepUp{P:α→Prop}{a e mu i j:Nat}{M:List α}(h:PartR P a e mu i j M)(hij:i≤j)(hp:P (M.getD i default)):PartR P a e mu (i+1) j M:=
 ⟨by have:=h.lo; omega,by omega,h.hi,by have:=h.mu; omega,fun p h1 h2=>by
  by_cases e:p=i
  ·rw[e];exact hp
  ·exact h.up p h1 (by omega),h.dn⟩
theorem PartR.stepDn{P:α→Prop}{a e mu i k:Nat}{M:List α}(h:PartR P a e mu i (k+1) M)(hij:i≤k+1)(hp:¬P (M.getD (k+1) default)):PartR P a e mu i k M:=
 ⟨h.lo,hij,by have:=h.hi; omega,by have:=h.mu; omega,h.up,fun q h1 h2=>by
  by_cases e:q=k+1
  ·rw[e];exact hp
  ·exact h.dn q (by omega) h2⟩
theorem PartR.swap{P:α→Prop}{a e mu i k:Nat}{M:List α}(h:PartR P a e mu i (k+1) M)(hM:e≤M.length)(hij:i≤k+1)(hi:¬P (M.getD i default))(hj:P (M.getD (k+1) default)):PartR P a e (k+1-(i+1)) (i+1) k (swp M i (k+1))∧k+1-(i+1)<mu:=by
 have hne:i≠k+1:=fun e=>hi (by rw[e];exact hj);have hh:=h.hi;have hlo:=h.lo;have hmu:=h.mu;refine⟨⟨by omega,by omega,by omega,aO _,fun p h1 h2=>?_,fun q h1 h2=>?_⟩,by omega⟩
 ·rw[eY (by omega) (by omega),if_neg (by omega)];by_cases e:p=i
  ·rw[if_pos e];exact hj
  ·rw[if_neg e];exact h.up p h1 (by omega)
 ·rw[eY (by omega) (by omega)];by_cases e:q=k+1
  ·rw[if_pos e];exact hi
  ·rw[if_neg e,if_neg (by omega)];exact h.dn q (by omega) h2
theorem tg{M:List α}{i j k:Nat}(hi:i<M.length)(hj:j<M.length)(h1:k≠i)(h2:k≠j):(swp M i j).getD k default=M.getD k default:=by
 rw[eY hi hj,if_neg h2,if_neg h1]
attribute [local irreducible] aH ai be aY aP aQ aD aR aZ bl Go.Abs.Fn aX Go.Abs.Pure aq aK Yl
theorem PartR.done{P:α→Prop}{a e mu i j:Nat}{M:List α}{v:α}(hK:Ord K)(h:PartR P a e mu i j M)(hM:e≤M.length)(hji:j<i)(hv:M.getD a default=v)(hP:∀x,P x↔K x v<0):a≤j∧j<e∧(∀p,a≤p→p<j→K ((swp M j a).getD p default) ((swp M j a).getD j default)<0)∧(∀q,j<q→q<e→¬K ((swp M j a).getD q default) ((swp M j a).getD j default)<0):=by
 have hlo:=h.lo;have hmid:=h.mid;have hhi:=h.hi
 have ej:(swp M j a).getD j default=v:=by
  rw[eY (by omega) (by omega)];split
  ·rename_i e;rw[e,hv]
  ·rw[if_pos rfl,hv]
 rw[ej];refine⟨by omega,by omega,fun p h1 h2=>?_,fun q h1 h2=>?_⟩
 ·rw[eY (by omega) (by omega)];by_cases e:p=a
  ·rw[if_pos e];exact(hP _).1 (h.up j (by omega) hji)
  ·rw[if_neg e,if_neg (by omega)];exact(hP _).1 (h.up p (by omega) (by omega))
 ·rw[eY (by omega) (by omega),if_neg (by omega),if_neg (by omega),←hP];exact h.dn q h1 h2
theorem FY(hc:Cmp Tryz.prog f K G g caps){L:List α}{H:Hp}{b nx n a e pv:Nat}(hH:H b=some (L.map f))(hn:L.length=n)(hG:∀x∈L,G x)(hae:a<e)(hen:e≤n)(hn2:n≤1000000000)(hpv:a≤pv∧pv<e):
    Abs.Fn Tryz.prog 172 [.msl b n 1 0 n,.int .i64 a,.int .i64 e,.int .i64 pv,.func g caps] H nx fun r H' nx'=>nx'=nx∧∃(L':List α)(m:Nat),r=.int .i64 m∧a<m∧m≤e∧H'=ap H b (L'.map f)∧PermR a e L L'∧(∀p,a≤p→p<m→¬K (L.getD pv default) (L'.getD p default)<0)∧(∀q,m≤q→q<e→K (L.getD pv default) (L'.getD q default)<0):=by
 have dcap:=hc.dcaps;obtain⟨v,hv0⟩:∃v,L.getD pv default=v:=⟨_,rfl⟩
 rw[hv0];obtain⟨P,hP⟩:∃P:α→Prop,∀x,P x↔ ¬K v x<0:=⟨_,fun _=>Iff.rfl⟩
 obtain⟨N,hN⟩:∃N,swp L a pv=N:=⟨_,rfl⟩
 have hp1:PermR a e L N:=hN▸PermR.swap (by omega) (by omega) (by omega)
 have hv1:N.getD a default=v:=by
  rw[←hN,eY (by omega) (by omega),←hv0];split
  ·rename_i h;rw[h]
  ·rw[if_pos rfl]
 obtain⟨M1,hl1,lm1,lm2⟩:=d7 (f:=f) (M:=L) (i:=a) (j:=pv) (by omega) (by omega);rw[hN] at lm2;have lm3:=lm2;simp only[bK,bO,fC,cf] at lm1 lm2;obtain⟨m,hm⟩:∃m,e=m+1:=⟨e-1,by omega⟩
 have te:(e:Int)-1=(m:Int):=by omega
 have ta:((a:Nat):Int)+1=((a+1:Nat):Int):=by omega
 refine fO Kj ?_;simp only[JL,aJ];have zz:=aI @hH (aI @te (aI @ta (aI @cw (aI hc.cells (aI hc.one (aI @lm1 @lm2))))));repeat' (first|refine zW ?_|apply a_n|refine zO ?_|refine vZ ?_|refine stZ ?_|fail)
 refine b0 (X:=Nat×Nat×List α) (fun x=>[(0,.msl b n 1 0 n),(1,.int .i64 a),(4,.func g caps),(11,.int .i64 (x.1:Nat)),(12,.int .i64 (x.2.1:Nat))]) (fun x H' nxx=>PartR P a e (x.2.1+1-x.1) x.1 x.2.1 x.2.2∧H'=ap H b (x.2.2.map f)∧nx=nxx∧PermR a e L x.2.2∧x.2.2.getD a default=v) (fun x=>x.2.1+1-x.1) (a+1,m,N) ⟨by dsimp only;rw[hm];exact .start (by omega),by dsimp only;rw[a6,lm3],rfl,hp1,hv1⟩ ag0 ?_;clear zz;clear lm1 lm2 lm3 hl1 M1 hp1 hv1 hN N te ta hm m;rintro⟨i,j,M⟩ H' nxx ⟨hpt,rfl,rfl,hp,hv⟩;dsimp only at *;have hl:M.length=n:=by rw[hp.len,hn]
 have hGM:=hp.mem hG;generalize hmu:j+1-i=mu at hpt ⊢;clear hmu;obtain⟨T,hT,t0,t1,t4,t11,t12⟩:∃T,tl [(0,.msl b n 1 0 n),(1,.int .i64 a),(4,.func g caps),(11,.int .i64 (i:Nat)),(12,.int .i64 (j:Nat))]=T∧T 0=.msl b n 1 0 n∧T 1=.int .i64 a∧T 4=.func g caps∧T 11=.int .i64 (i:Nat)∧T 12=.int .i64 (j:Nat):=⟨_,rfl,rfl,rfl,rfl,rfl,rfl⟩
 rw[hT];clear hT;refine kQ ?_;refine co (fun T H'' nx''=>∃i:Nat,PartR P a e mu i j M∧(i≤j→¬P (M.getD i default))∧T 0=.msl b n 1 0 n∧T 1=.int .i64 a∧T 4=.func g caps∧T 11=.int .i64 (i:Nat)∧T 12=.int .i64 (j:Nat)∧H''=ap H b ((M).map f)∧nx=nx'') ?_ ?_
 ·have zz:=aI @t0 (aI @t1 (aI @t4 (aI @t11 @t12)));repeat' (first|refine zW ?_|apply a_n|refine zO ?_|fail)
  refine b0 (X:=Nat) (fun i=>[(0,.msl b n 1 0 n),(1,.int .i64 a),(4,.func g caps),(11,.int .i64 (i:Nat)),(12,.int .i64 (j:Nat))]) (fun i H' nxx=>PartR P a e mu i j M∧H'=ap H b (M.map f)∧nx=nxx) (fun i=>j+1-i) i ⟨hpt,rfl,rfl⟩ (have zz:=aI @t0 (aI @t1 (aI @t4 (aI @t11 @t12)));agZ) ?_;clear zz;clear t0 t1 t4 t11 t12 hpt i;rintro i H' nxx ⟨hpt,rfl,rfl⟩;have hlo:=hpt.lo;have hmid:=hpt.mid;have hhi:=hpt.hi;have ii:((i:Nat):Int)+1=((i+1:Nat):Int):=by omega
  by_cases hij:j<i
  ·repeat' (first|refine zW ?_|refine zM ?_|apply a_n|apply a_x|refine zO ?_|refine vZ ?_|refine gFZ ?_|(refine zGZ ?_ ?_<;>(intro _hg;try (exfalso;omega)))|refine cFZ ?_|fail)
   exact⟨i,hpt,fun h=>absurd h (by omega),rfl,rfl,rfl,rfl,rfl,rfl,rfl⟩
  have lc:=hc.run (M.getD (a) default) (M.getD (i) default) (hGM _ (a5 (by omega))) (hGM _ (a5 (by omega)));have e1:=hc.dat (M.getD (a) default);have e2:=hc.dat (M.getD (i) default);have hPk:P (M.getD (i) default)↔ ¬K (M.getD (a) default) (M.getD (i) default)<0:=by rw[hP,hv]
  generalize hKK:K (M.getD (a) default) (M.getD (i) default)=kk at lc hPk;by_cases hlt:kk<0
  ·have zz:=aI @ii (aI @cw (aI hc.cells hc.one));repeat' (first|refine zW ?_|refine zM ?_|apply a_n|apply a_x|refine zO ?_|refine vZ ?_|refine cZ ?_ (hp:=lc) (hs:=by(first|refine aA ?_ rfl|apply aM);(repeat' (first|exact ak|apply bg|apply aN|exact e1|exact e2|exact bi dcap));first|done|fail)|refine gTZ ?_|(refine zGZ ?_ ?_<;>(intro _hg;try (exfalso;omega)))|fail)
   exact⟨i,hpt,fun _=>(by rw[hPk];first|exact hlt|exact fun h=>h hlt),rfl,rfl,rfl,rfl,rfl,rfl,rfl⟩
  ·have zz:=aI @ii (aI @cw (aI hc.cells hc.one));repeat' (first|refine zW ?_|refine zM ?_|apply a_n|refine zO ?_|refine vZ ?_|refine cZ ?_ (hp:=lc) (hs:=by(first|refine aA ?_ rfl|apply aM);(repeat' (first|exact ak|apply bg|apply aN|exact e1|exact e2|exact bi dcap));first|done|fail)|refine gTZ ?_|(refine zGZ ?_ ?_<;>(intro _hg;try (exfalso;omega)))|fail)
   exact⟨i+1,by omega,⟨hpt.stepUp (by omega) (by rw[hPk];exact hlt),rfl,rfl⟩,ag0⟩
 clear t0 t1 t4 t11 t12 hpt i;rintro T _ _ ⟨i,hpt,hni,t0,t1,t4,t11,t12,rfl,rfl⟩;refine co (fun T H'' nx''=>∃j:Nat,PartR P a e mu i j M∧(i≤j→¬P (M.getD i default))∧(i≤j→P (M.getD j default))∧T 0=.msl b n 1 0 n∧T 1=.int .i64 a∧T 4=.func g caps∧T 11=.int .i64 (i:Nat)∧T 12=.int .i64 (j:Nat)∧H''=ap H b ((M).map f)∧nx=nx'') ?_ ?_
 ·have zz:=aI @t0 (aI @t1 (aI @t4 (aI @t11 @t12)));repeat' (first|refine zW ?_|apply a_n|refine zO ?_|fail)
  refine b0 (X:=Nat) (fun j=>[(0,.msl b n 1 0 n),(1,.int .i64 a),(4,.func g caps),(11,.int .i64 (i:Nat)),(12,.int .i64 (j:Nat))]) (fun j H' nxx=>PartR P a e mu i j M∧(i≤j→¬P (M.getD i default))∧H'=ap H b (M.map f)∧nx=nxx) (fun j=>j) j ⟨hpt,hni,rfl,rfl⟩ (have zz:=aI @t0 (aI @t1 (aI @t4 (aI @t11 @t12)));agZ) ?_;clear zz;clear t0 t1 t4 t11 t12 hpt hni j;rintro j H' nxx ⟨hpt,hni,rfl,rfl⟩;have hlo:=hpt.lo;have hmid:=hpt.mid;have hhi:=hpt.hi;by_cases hij:j<i
  ·repeat' (first|refine zW ?_|refine zM ?_|apply a_n|apply a_x|refine zO ?_|refine vZ ?_|refine gFZ ?_|(refine zGZ ?_ ?_<;>(intro _hg;try (exfalso;omega)))|refine cFZ ?_|fail)
   exact⟨j,hpt,hni,fun h=>absurd h (by omega),rfl,rfl,rfl,rfl,rfl,rfl,rfl⟩
  obtain⟨k,rfl⟩:∃k,j=k+1:=⟨j-1,by omega⟩
  have tk:((k+1:Nat):Int)-1=(k:Int):=by omega
  have lc:=hc.run (M.getD (a) default) (M.getD (k+1) default) (hGM _ (a5 (by omega))) (hGM _ (a5 (by omega)));have e1:=hc.dat (M.getD (a) default);have e2:=hc.dat (M.getD (k+1) default);have hPk:P (M.getD (k+1) default)↔ ¬K (M.getD (a) default) (M.getD (k+1) default)<0:=by rw[hP,hv]
  generalize hKK:K (M.getD (a) default) (M.getD (k+1) default)=kk at lc hPk;by_cases hlt:kk<0
  ·have zz:=aI @tk (aI @cw (aI hc.cells hc.one));repeat' (first|refine zW ?_|refine zM ?_|apply a_n|refine zO ?_|refine vZ ?_|refine cZ ?_ (hp:=lc) (hs:=by(first|refine aA ?_ rfl|apply aM);(repeat' (first|exact ak|apply bg|apply aN|exact e1|exact e2|exact bi dcap));first|done|fail)|refine gTZ ?_|(refine zGZ ?_ ?_<;>(intro _hg;try (exfalso;omega)))|fail)
   exact⟨k,by omega,⟨hpt.stepDn (by omega) (by rw[hPk];first|exact hlt|exact fun h=>h hlt),fun _=>hni (by omega),rfl,rfl⟩,ag0⟩
  ·have zz:=aI @tk (aI @cw (aI hc.cells hc.one));repeat' (first|refine zW ?_|refine zM ?_|apply a_n|apply a_x|refine zO ?_|refine vZ ?_|refine cZ ?_ (hp:=lc) (hs:=by(first|refine aA ?_ rfl|apply aM);(repeat' (first|exact ak|apply bg|apply aN|exact e1|exact e2|exact bi dcap));first|done|fail)|refine gTZ ?_|(refine zGZ ?_ ?_<;>(intro _hg;try (exfalso;omega)))|fail)
   exact⟨k+1,hpt,hni,fun _=>(by rw[hPk];exact hlt),rfl,rfl,rfl,rfl,rfl,rfl,rfl⟩
 clear t0 t1 t4 t11 t12 hpt hni j;rintro T _ _ ⟨j,hpt,hni,hnj,t0,t1,t4,t11,t12,rfl,rfl⟩;have hlo:=hpt.lo;have hmid:=hpt.mid;have hhi:=hpt.hi;by_cases hji:j<i
 ·have zz:=aI @t0 (aI @t1 (aI @t4 (aI @t11 @t12)));repeat' (first|refine zW ?_|apply a_n|apply a_x|refine zO ?_|refine vZ ?_|(refine zGZ ?_ ?_<;>(intro _hg;try (exfalso;omega)))|refine bI rfl ?_|refine r1Z ?_|fail)
  refine⟨rfl,M,i,rfl,by omega,by omega,rfl,hp,fun p h1 h2=>?_,fun q h1 h2=>by have:=hpt.dn q (by omega) h2;rw[hP] at this;exact uC this⟩;by_cases ep:p=a
  ·rw[ep,hv];exact hc.ord.irr _
  ·exact(hP _).1 (hpt.up p (by omega) h2)
 obtain⟨k,rfl⟩:∃k,j=k+1:=⟨j-1,by omega⟩
 have tk:((k+1:Nat):Int)-1=(k:Int):=by omega
 have ii:((i:Nat):Int)+1=((i+1:Nat):Int):=by omega
 obtain⟨M1,hl1,lm1,lm2⟩:=d7 (f:=f) (M:=M) (i:=i) (j:=k+1) (by omega) (by omega);have lm3:=lm2;simp only[bK,bO,fC,cf] at lm1 lm2;have zz:=aI @t0 (aI @t1 (aI @t4 (aI @t11 (aI @t12 (aI @tk (aI @ii (aI @cw (aI hc.cells (aI hc.one (aI @lm1 @lm2))))))))));repeat' (first|refine zW ?_|apply a_n|refine zO ?_|refine vZ ?_|refine stZ ?_|(refine zGZ ?_ ?_<;>(intro _hg;try (exfalso;omega)))|fail)
 obtain⟨hq1,hq2⟩:=hpt.swap (by omega) (by omega) (hni (by omega)) (hnj (by omega));exact⟨(i+1,k,swp M i (k+1)),hq2,⟨hq1,by dsimp only;rw[a6,a6,lm3],rfl,hp.trans (PermR.swap (by omega) (by omega) (by omega)),by dsimp only;rw[tg (by omega) (by omega) (by omega) (by omega)];exact hv⟩,(have zz:=aI @t0 (aI @t1 (aI @t4 (aI @t11 @t12)));agZ)⟩
theorem Je(hc:Cmp Tryz.prog f K G g caps){L:List α}{H:Hp}{b nx n a e pv:Nat}(hH:H b=some (L.map f))(hn:L.length=n)(hG:∀x∈L,G x)(hae:a<e)(hen:e≤n)(hn2:n≤1000000000)(hpv:a≤pv∧pv<e):
    Abs.Fn Tryz.prog 173 [.msl b n 1 0 n,.int .i64 a,.int .i64 e,.int .i64 pv,.func g caps] H nx fun r H' nx'=>nx'=nx∧∃(L':List α)(m:Nat)(t:Bool),r=.tup [.int .i64 m,.bool t]∧a≤m∧m<e∧H'=ap H b (L'.map f)∧PermR a e L L'∧(∀p,a≤p→p<m→K (L'.getD p default) (L'.getD m default)<0)∧(∀q,m<q→q<e→¬K (L'.getD q default) (L'.getD m default)<0):=by
 have dcap:=hc.dcaps;obtain⟨v,hv0⟩:∃v,L.getD pv default=v:=⟨_,rfl⟩
 obtain⟨P,hP⟩:∃P:α→Prop,∀x,P x↔K x v<0:=⟨_,fun _=>Iff.rfl⟩
 obtain⟨M,hN⟩:∃N,swp L a pv=N:=⟨_,rfl⟩
 have hp:PermR a e L M:=hN▸PermR.swap (by omega) (by omega) (by omega)
 have hv:M.getD a default=v:=by
  rw[←hN,eY (by omega) (by omega),←hv0];split
  ·rename_i h;rw[h]
  ·rw[if_pos rfl]
 obtain⟨M1,hl1,lm1,lm2⟩:=d7 (f:=f) (M:=L) (i:=a) (j:=pv) (by omega) (by omega);rw[hN] at lm2;have lm3:=lm2;simp only[bK,bO,fC,cf] at lm1 lm2;obtain⟨m,hm⟩:∃m,e=m+1:=⟨e-1,by omega⟩
 have te:(e:Int)-1=(m:Int):=by omega
 have ta:((a:Nat):Int)+1=((a+1:Nat):Int):=by omega
 refine fO Mb ?_;simp only[JG,aJ];refine co (fun T H'' nx''=>T 0=.msl b n 1 0 n∧T 1=.int .i64 a∧T 2=.int .i64 e∧T 3=.int .i64 pv∧T 4=.func g caps∧H=H''∧nx=nx'') ?_ ?_
 ·repeat' (first|apply a_n|refine zO ?_|refine vZ ?_|fail)
  exact⟨rfl,rfl,rfl,rfl,rfl,rfl,rfl⟩
 rintro T _ _ ⟨t0,t1,t2,t3,t4,rfl,rfl⟩;refine co (fun T H'' nx''=>T 0=.msl b n 1 0 n∧T 1=.int .i64 a∧T 2=.int .i64 e∧T 3=.int .i64 pv∧T 4=.func g caps∧H''=ap H b (M.map f)∧nx=nx'') ?_ ?_
 ·have zz:=aI @t0 (aI @t1 (aI @t2 (aI @t3 (aI @t4 (aI @hH (aI @cw (aI hc.cells (aI hc.one (aI @lm1 @lm2)))))))));repeat' (first|apply a_n|refine zO ?_|refine vZ ?_|refine stZ ?_|fail)
  exact⟨(have zz:=@t0;evZ),(have zz:=@t1;evZ),(have zz:=@t2;evZ),(have zz:=@t3;evZ),(have zz:=@t4;evZ),by rw[a6,lm3],rfl⟩
 clear t0 t1 t2 t3 t4 lm1 lm2 lm3 hl1 M1 hN;rintro T _ _ ⟨t0,t1,t2,t3,t4,rfl,rfl⟩;refine co (fun T H'' nx''=>∃mu i j:Nat,PartR P a e mu i j M∧T 0=.msl b n 1 0 n∧T 1=.int .i64 a∧T 4=.func g caps∧T 12=.int .i64 (i:Nat)∧T 13=.int .i64 (j:Nat)∧H''=ap H b ((M).map f)∧nx=nx'') ?_ ?_
 ·have zz:=aI @t0 (aI @t1 (aI @t2 (aI @t3 (aI @t4 (aI @ta @te)))));repeat' (first|apply a_n|refine zO ?_|refine vZ ?_|fail)
  exact⟨_,a+1,m,by rw[hm];exact .start (by omega),(have zz:=@t0;evZ),(have zz:=@t1;evZ),(have zz:=@t4;evZ),ev0,ev0,rfl,rfl⟩
 clear t0 t1 t2 t3 t4 ta te hm m;rintro T _ _ ⟨mu,i,j,hpt,t0,t1,t4,t12,t13,rfl,rfl⟩;have hl:M.length=n:=by rw[hp.len,hn]
 have hGM:=hp.mem hG;refine co (fun T H'' nx''=>∃i:Nat,PartR P a e mu i j M∧(i≤j→¬P (M.getD i default))∧T 0=.msl b n 1 0 n∧T 1=.int .i64 a∧T 4=.func g caps∧T 12=.int .i64 (i:Nat)∧T 13=.int .i64 (j:Nat)∧H''=ap H b ((M).map f)∧nx=nx'') ?_ ?_
 ·have zz:=aI @t0 (aI @t1 (aI @t4 (aI @t12 @t13)));repeat' (first|refine zW ?_|apply a_n|refine zO ?_|fail)
  refine b0 (X:=Nat) (fun i=>[(0,.msl b n 1 0 n),(1,.int .i64 a),(4,.func g caps),(12,.int .i64 (i:Nat)),(13,.int .i64 (j:Nat))]) (fun i H' nxx=>PartR P a e mu i j M∧H'=ap H b (M.map f)∧nx=nxx) (fun i=>j+1-i) i ⟨hpt,rfl,rfl⟩ (have zz:=aI @t0 (aI @t1 (aI @t4 (aI @t12 @t13)));agZ) ?_;clear zz;clear t0 t1 t4 t12 t13 hpt i;rintro i H' nxx ⟨hpt,rfl,rfl⟩;have hlo:=hpt.lo;have hmid:=hpt.mid;have hhi:=hpt.hi;have ii:((i:Nat):Int)+1=((i+1:Nat):Int):=by omega
  by_cases hij:j<i
  ·repeat' (first|refine zW ?_|refine zM ?_|apply a_n|apply a_x|refine zO ?_|refine vZ ?_|refine gFZ ?_|(refine zGZ ?_ ?_<;>(intro _hg;try (exfalso;omega)))|refine cFZ ?_|fail)
   exact⟨i,hpt,fun h=>absurd h (by omega),rfl,rfl,rfl,rfl,rfl,rfl,rfl⟩
  have lc:=hc.run (M.getD (i) default) (M.getD (a) default) (hGM _ (a5 (by omega))) (hGM _ (a5 (by omega)));have e1:=hc.dat (M.getD (i) default);have e2:=hc.dat (M.getD (a) default);have hPk:P (M.getD (i) default)↔K (M.getD (i) default) (M.getD (a) default)<0:=by rw[hP,hv]
  generalize hKK:K (M.getD (i) default) (M.getD (a) default)=kk at lc hPk;by_cases hlt:kk<0
  ·have zz:=aI @ii (aI @cw (aI hc.cells hc.one));repeat' (first|refine zW ?_|refine zM ?_|apply a_n|refine zO ?_|refine vZ ?_|refine cZ ?_ (hp:=lc) (hs:=by(first|refine aA ?_ rfl|apply aM);(repeat' (first|exact ak|apply bg|apply aN|exact e1|exact e2|exact bi dcap));first|done|fail)|refine gTZ ?_|(refine zGZ ?_ ?_<;>(intro _hg;try (exfalso;omega)))|fail)
   exact⟨i+1,by omega,⟨hpt.stepUp (by omega) (by rw[hPk];exact hlt),rfl,rfl⟩,ag0⟩
  ·have zz:=aI @ii (aI @cw (aI hc.cells hc.one));repeat' (first|refine zW ?_|refine zM ?_|apply a_n|apply a_x|refine zO ?_|refine vZ ?_|refine cZ ?_ (hp:=lc) (hs:=by(first|refine aA ?_ rfl|apply aM);(repeat' (first|exact ak|apply bg|apply aN|exact e1|exact e2|exact bi dcap));first|done|fail)|refine gTZ ?_|(refine zGZ ?_ ?_<;>(intro _hg;try (exfalso;omega)))|fail)
   exact⟨i,hpt,fun _=>(by rw[hPk];first|exact hlt|exact fun h=>h hlt),rfl,rfl,rfl,rfl,rfl,rfl,rfl⟩
 clear t0 t1 t4 t12 t13 hpt i;rintro T _ _ ⟨i,hpt,hni,t0,t1,t4,t12,t13,rfl,rfl⟩;refine co (fun T H'' nx''=>∃j:Nat,PartR P a e mu i j M∧(i≤j→¬P (M.getD i default))∧(i≤j→P (M.getD j default))∧T 0=.msl b n 1 0 n∧T 1=.int .i64 a∧T 4=.func g caps∧T 12=.int .i64 (i:Nat)∧T 13=.int .i64 (j:Nat)∧H''=ap H b ((M).map f)∧nx=nx'') ?_ ?_
 ·have zz:=aI @t0 (aI @t1 (aI @t4 (aI @t12 @t13)));repeat' (first|refine zW ?_|apply a_n|refine zO ?_|fail)
  refine b0 (X:=Nat) (fun j=>[(0,.msl b n 1 0 n),(1,.int .i64 a),(4,.func g caps),(12,.int .i64 (i:Nat)),(13,.int .i64 (j:Nat))]) (fun j H' nxx=>PartR P a e mu i j M∧(i≤j→¬P (M.getD i default))∧H'=ap H b (M.map f)∧nx=nxx) (fun j=>j) j ⟨hpt,hni,rfl,rfl⟩ (have zz:=aI @t0 (aI @t1 (aI @t4 (aI @t12 @t13)));agZ) ?_;clear zz;clear t0 t1 t4 t12 t13 hpt hni j;rintro j H' nxx ⟨hpt,hni,rfl,rfl⟩;have hlo:=hpt.lo;have hmid:=hpt.mid;have hhi:=hpt.hi;by_cases hij:j<i
  ·repeat' (first|refine zW ?_|refine zM ?_|apply a_n|apply a_x|refine zO ?_|refine vZ ?_|refine gFZ ?_|(refine zGZ ?_ ?_<;>(intro _hg;try (exfalso;omega)))|refine cFZ ?_|fail)
   exact⟨j,hpt,hni,fun h=>absurd h (by omega),rfl,rfl,rfl,rfl,rfl,rfl,rfl⟩
  obtain⟨k,rfl⟩:∃k,j=k+1:=⟨j-1,by omega⟩
  have tk:((k+1:Nat):Int)-1=(k:Int):=by omega
  have lc:=hc.run (M.getD (k+1) default) (M.getD (a) default) (hGM _ (a5 (by omega))) (hGM _ (a5 (by omega)));have e1:=hc.dat (M.getD (k+1) default);have e2:=hc.dat (M.getD (a) default);have hPk:P (M.getD (k+1) default)↔K (M.getD (k+1) default) (M.getD (a) default)<0:=by rw[hP,hv]
  generalize hKK:K (M.getD (k+1) default) (M.getD (a) default)=kk at lc hPk;by_cases hlt:kk<0
  ·have zz:=aI @tk (aI @cw (aI hc.cells hc.one));repeat' (first|refine zW ?_|refine zM ?_|apply a_n|apply a_x|refine zO ?_|refine vZ ?_|refine cZ ?_ (hp:=lc) (hs:=by(first|refine aA ?_ rfl|apply aM);(repeat' (first|exact ak|apply bg|apply aN|exact e1|exact e2|exact bi dcap));first|done|fail)|refine gTZ ?_|(refine zGZ ?_ ?_<;>(intro _hg;try (exfalso;omega)))|fail)
   exact⟨k+1,hpt,hni,fun _=>(by rw[hPk];exact hlt),rfl,rfl,rfl,rfl,rfl,rfl,rfl⟩
  ·have zz:=aI @tk (aI @cw (aI hc.cells hc.one));repeat' (first|refine zW ?_|refine zM ?_|apply a_n|refine zO ?_|refine vZ ?_|refine cZ ?_ (hp:=lc) (hs:=by(first|refine aA ?_ rfl|apply aM);(repeat' (first|exact ak|apply bg|apply aN|exact e1|exact e2|exact bi dcap));first|done|fail)|refine gTZ ?_|(refine zGZ ?_ ?_<;>(intro _hg;try (exfalso;omega)))|fail)
   exact⟨k,by omega,⟨hpt.stepDn (by omega) (by rw[hPk];first|exact hlt|exact fun h=>h hlt),fun _=>hni (by omega),rfl,rfl⟩,ag0⟩
 clear t0 t1 t4 t12 t13 hpt hni j;rintro T _ _ ⟨j,hpt,hni,hnj,t0,t1,t4,t12,t13,rfl,rfl⟩;have hlo:=hpt.lo;have hmid:=hpt.mid;have hhi:=hpt.hi;by_cases hji:j<i
 ·clear hni hnj;obtain⟨z1,z2,z3,z4⟩:=hpt.done hc.ord (by omega) hji hv hP;obtain⟨M1,hl1,lm1,lm2⟩:=d7 (f:=f) (M:=M) (i:=j) (j:=a) (by omega) (by omega);have lm3:=lm2;simp only[bK,bO,fC,cf] at lm1 lm2;have zz:=aI @t0 (aI @t1 (aI @t4 (aI @t12 (aI @t13 (aI @cw (aI hc.cells (aI hc.one (aI @lm1 @lm2))))))));repeat' (first|refine zW ?_|apply a_n|apply a_r|refine zO ?_|refine vZ ?_|refine stZ ?_|(refine zGZ ?_ ?_<;>(intro _hg;try (exfalso;omega)))|refine bI rfl ?_|refine r2Z ?_|fail)
  exact⟨rfl,swp M j a,j,true,rfl,z1,z2,by rw[a6,a6,lm3],hp.trans (PermR.swap (by omega) (by omega) (by omega)),z3,z4⟩
 obtain⟨k,rfl⟩:∃k,j=k+1:=⟨j-1,by omega⟩
 have tk:((k+1:Nat):Int)-1=(k:Int):=by omega
 have ii:((i:Nat):Int)+1=((i+1:Nat):Int):=by omega
 obtain⟨M1,hl1,lm1,lm2⟩:=d7 (f:=f) (M:=M) (i:=i) (j:=k+1) (by omega) (by omega);have lm3:=lm2;simp only[bK,bO,fC,cf] at lm1 lm2;have zz:=aI @t0 (aI @t1 (aI @t4 (aI @t12 (aI @t13 (aI @tk (aI @ii (aI @cw (aI hc.cells (aI hc.one (aI @lm1 @lm2))))))))));repeat' (first|refine zW ?_|apply a_n|refine zO ?_|refine vZ ?_|refine stZ ?_|(refine zGZ ?_ ?_<;>(intro _hg;try (exfalso;omega)))|fail)
 obtain⟨hq1,hq2⟩:=hpt.swap (by omega) (by omega) (hni (by omega)) (hnj (by omega));have hp2:PermR a e L (swp M i (k+1)):=hp.trans (PermR.swap (by omega) (by omega) (by omega));have hv2:(swp M i (k+1)).getD a default=v:=by rw[tg (by omega) (by omega) (by omega) (by omega)];exact hv
 refine b0 (X:=Nat×Nat×List α) (fun x=>[(0,.msl b n 1 0 n),(1,.int .i64 a),(4,.func g caps),(12,.int .i64 (x.1:Nat)),(13,.int .i64 (x.2.1:Nat))]) (fun x H' nxx=>PartR P a e (x.2.1+1-x.1) x.1 x.2.1 x.2.2∧H'=ap H b (x.2.2.map f)∧nx=nxx∧PermR a e L x.2.2∧x.2.2.getD a default=v) (fun x=>x.2.1+1-x.1) (i+1,k,swp M i (k+1)) ⟨hq1,by dsimp only;rw[a6,a6,lm3],rfl,hp2,hv2⟩ (have zz:=aI @t0 (aI @t1 (aI @t4 (aI @t12 @t13)));agZ) ?_;clear zz;clear t0 t1 t4 t12 t13 lm1 lm2 lm3 hl1 M1 hp2 hv2 hq1 hq2 hpt hni hnj hp hv hGM;rintro⟨i,j,M⟩ H' nxx ⟨hpt,rfl,rfl,hp,hv⟩;dsimp only at *;have hl:M.length=n:=by rw[hp.len,hn]
 have hGM:=hp.mem hG;generalize hmu:j+1-i=mu at hpt ⊢;clear hmu;obtain⟨T,hT,t0,t1,t4,t12,t13⟩:∃T,tl [(0,.msl b n 1 0 n),(1,.int .i64 a),(4,.func g caps),(12,.int .i64 (i:Nat)),(13,.int .i64 (j:Nat))]=T∧T 0=.msl b n 1 0 n∧T 1=.int .i64 a∧T 4=.func g caps∧T 12=.int .i64 (i:Nat)∧T 13=.int .i64 (j:Nat):=⟨_,rfl,rfl,rfl,rfl,rfl,rfl⟩
 rw[hT];clear hT;refine kQ ?_;refine co (fun T H'' nx''=>∃i:Nat,PartR P a e mu i j M∧(i≤j→¬P (M.getD i default))∧T 0=.msl b n 1 0 n∧T 1=.int .i64 a∧T 4=.func g caps∧T 12=.int .i64 (i:Nat)∧T 13=.int .i64 (j:Nat)∧H''=ap H b ((M).map f)∧nx=nx'') ?_ ?_
 ·have zz:=aI @t0 (aI @t1 (aI @t4 (aI @t12 @t13)));repeat' (first|refine zW ?_|apply a_n|refine zO ?_|fail)
  refine b0 (X:=Nat) (fun i=>[(0,.msl b n 1 0 n),(1,.int .i64 a),(4,.func g caps),(12,.int .i64 (i:Nat)),(13,.int .i64 (j:Nat))]) (fun i H' nxx=>PartR P a e mu i j M∧H'=ap H b (M.map f)∧nx=nxx) (fun i=>j+1-i) i ⟨hpt,rfl,rfl⟩ (have zz:=aI @t0 (aI @t1 (aI @t4 (aI @t12 @t13)));agZ) ?_;clear zz;clear t0 t1 t4 t12 t13 hpt i;rintro i H' nxx ⟨hpt,rfl,rfl⟩;have hlo:=hpt.lo;have hmid:=hpt.mid;have hhi:=hpt.hi;have ii:((i:Nat):Int)+1=((i+1:Nat):Int):=by omega
  by_cases hij:j<i
  ·repeat' (first|refine zW ?_|refine zM ?_|apply a_n|apply a_x|refine zO ?_|refine vZ ?_|refine gFZ ?_|(refine zGZ ?_ ?_<;>(intro _hg;try (exfalso;omega)))|refine cFZ ?_|fail)
   exact⟨i,hpt,fun h=>absurd h (by omega),rfl,rfl,rfl,rfl,rfl,rfl,rfl⟩
  have lc:=hc.run (M.getD (i) default) (M.getD (a) default) (hGM _ (a5 (by omega))) (hGM _ (a5 (by omega)));have e1:=hc.dat (M.getD (i) default);have e2:=hc.dat (M.getD (a) default);have hPk:P (M.getD (i) default)↔K (M.getD (i) default) (M.getD (a) default)<0:=by rw[hP,hv]
  generalize hKK:K (M.getD (i) default) (M.getD (a) default)=kk at lc hPk;by_cases hlt:kk<0
  ·have zz:=aI @ii (aI @cw (aI hc.cells hc.one));repeat' (first|refine zW ?_|refine zM ?_|apply a_n|refine zO ?_|refine vZ ?_|refine cZ ?_ (hp:=lc) (hs:=by(first|refine aA ?_ rfl|apply aM);(repeat' (first|exact ak|apply bg|apply aN|exact e1|exact e2|exact bi dcap));first|done|fail)|refine gTZ ?_|(refine zGZ ?_ ?_<;>(intro _hg;try (exfalso;omega)))|fail)
   exact⟨i+1,by omega,⟨hpt.stepUp (by omega) (by rw[hPk];exact hlt),rfl,rfl⟩,ag0⟩
  ·have zz:=aI @ii (aI @cw (aI hc.cells hc.one));repeat' (first|refine zW ?_|refine zM ?_|apply a_n|apply a_x|refine zO ?_|refine vZ ?_|refine cZ ?_ (hp:=lc) (hs:=by(first|refine aA ?_ rfl|apply aM);(repeat' (first|exact ak|apply bg|apply aN|exact e1|exact e2|exact bi dcap));first|done|fail)|refine gTZ ?_|(refine zGZ ?_ ?_<;>(intro _hg;try (exfalso;omega)))|fail)
   exact⟨i,hpt,fun _=>(by rw[hPk];first|exact hlt|exact fun h=>h hlt),rfl,rfl,rfl,rfl,rfl,rfl,rfl⟩
 clear t0 t1 t4 t12 t13 hpt i;rintro T _ _ ⟨i,hpt,hni,t0,t1,t4,t12,t13,rfl,rfl⟩;refine co (fun T H'' nx''=>∃j:Nat,PartR P a e mu i j M∧(i≤j→¬P (M.getD i default))∧(i≤j→P (M.getD j default))∧T 0=.msl b n 1 0 n∧T 1=.int .i64 a∧T 4=.func g caps∧T 12=.int .i64 (i:Nat)∧T 13=.int .i64 (j:Nat)∧H''=ap H b ((M).map f)∧nx=nx'') ?_ ?_
 ·have zz:=aI @t0 (aI @t1 (aI @t4 (aI @t12 @t13)));repeat' (first|refine zW ?_|apply a_n|refine zO ?_|fail)
  refine b0 (X:=Nat) (fun j=>[(0,.msl b n 1 0 n),(1,.int .i64 a),(4,.func g caps),(12,.int .i64 (i:Nat)),(13,.int .i64 (j:Nat))]) (fun j H' nxx=>PartR P a e mu i j M∧(i≤j→¬P (M.getD i default))∧H'=ap H b (M.map f)∧nx=nxx) (fun j=>j) j ⟨hpt,hni,rfl,rfl⟩ (have zz:=aI @t0 (aI @t1 (aI @t4 (aI @t12 @t13)));agZ) ?_;clear zz;clear t0 t1 t4 t12 t13 hpt hni j;rintro j H' nxx ⟨hpt,hni,rfl,rfl⟩;have hlo:=hpt.lo;have hmid:=hpt.mid;have hhi:=hpt.hi;by_cases hij:j<i
  ·repeat' (first|refine zW ?_|refine zM ?_|apply a_n|apply a_x|refine zO ?_|refine vZ ?_|refine gFZ ?_|(refine zGZ ?_ ?_<;>(intro _hg;try (exfalso;omega)))|refine cFZ ?_|fail)
   exact⟨j,hpt,hni,fun h=>absurd h (by omega),rfl,rfl,rfl,rfl,rfl,rfl,rfl⟩
  obtain⟨k,rfl⟩:∃k,j=k+1:=⟨j-1,by omega⟩
  have tk:((k+1:Nat):Int)-1=(k:Int):=by omega
  have lc:=hc.run (M.getD (k+1) default) (M.getD (a) default) (hGM _ (a5 (by omega))) (hGM _ (a5 (by omega)));have e1:=hc.dat (M.getD (k+1) default);have e2:=hc.dat (M.getD (a) default);have hPk:P (M.getD (k+1) default)↔K (M.getD (k+1) default) (M.getD (a) default)<0:=by rw[hP,hv]
  generalize hKK:K (M.getD (k+1) default) (M.getD (a) default)=kk at lc hPk;by_cases hlt:kk<0
  ·have zz:=aI @tk (aI @cw (aI hc.cells hc.one));repeat' (first|refine zW ?_|refine zM ?_|apply a_n|apply a_x|refine zO ?_|refine vZ ?_|refine cZ ?_ (hp:=lc) (hs:=by(first|refine aA ?_ rfl|apply aM);(repeat' (first|exact ak|apply bg|apply aN|exact e1|exact e2|exact bi dcap));first|done|fail)|refine gTZ ?_|(refine zGZ ?_ ?_<;>(intro _hg;try (exfalso;omega)))|fail)
   exact⟨k+1,hpt,hni,fun _=>(by rw[hPk];exact hlt),rfl,rfl,rfl,rfl,rfl,rfl,rfl⟩
  ·have zz:=aI @tk (aI @cw (aI hc.cells hc.one));repeat' (first|refine zW ?_|refine zM ?_|apply a_n|refine zO ?_|refine vZ ?_|refine cZ ?_ (hp:=lc) (hs:=by(first|refine aA ?_ rfl|apply aM);(repeat' (first|exact ak|apply bg|apply aN|exact e1|exact e2|exact bi dcap));first|done|fail)|refine gTZ ?_|(refine zGZ ?_ ?_<;>(intro _hg;try (exfalso;omega)))|fail)
   exact⟨k,by omega,⟨hpt.stepDn (by omega) (by rw[hPk];first|exact hlt|exact fun h=>h hlt),fun _=>hni (by omega),rfl,rfl⟩,ag0⟩
 clear t0 t1 t4 t12 t13 hpt hni j;rintro T _ _ ⟨j,hpt,hni,hnj,t0,t1,t4,t12,t13,rfl,rfl⟩;have hlo:=hpt.lo;have hmid:=hpt.mid;have hhi:=hpt.hi;by_cases hji:j<i
 ·clear hni hnj;obtain⟨z1,z2,z3,z4⟩:=hpt.done hc.ord (by omega) hji hv hP;obtain⟨M1,hl1,lm1,lm2⟩:=d7 (f:=f) (M:=M) (i:=j) (j:=a) (by omega) (by omega);have lm3:=lm2;simp only[bK,bO,fC,cf] at lm1 lm2;have zz:=aI @t0 (aI @t1 (aI @t4 (aI @t12 (aI @t13 (aI @cw (aI hc.cells (aI hc.one (aI @lm1 @lm2))))))));repeat' (first|refine zW ?_|apply a_n|apply a_x|refine zO ?_|refine vZ ?_|refine stZ ?_|(refine zGZ ?_ ?_<;>(intro _hg;try (exfalso;omega)))|refine bI rfl ?_|refine r2Z ?_|fail)
  exact⟨rfl,swp M j a,j,false,rfl,z1,z2,by rw[a6,a6,lm3],hp.trans (PermR.swap (by omega) (by omega) (by omega)),z3,z4⟩
 obtain⟨k,rfl⟩:∃k,j=k+1:=⟨j-1,by omega⟩
 have tk:((k+1:Nat):Int)-1=(k:Int):=by omega
 have ii:((i:Nat):Int)+1=((i+1:Nat):Int):=by omega
 obtain⟨M1,hl1,lm1,lm2⟩:=d7 (f:=f) (M:=M) (i:=i) (j:=k+1) (by omega) (by omega);have lm3:=lm2;simp only[bK,bO,fC,cf] at lm1 lm2;have zz:=aI @t0 (aI @t1 (aI @t4 (aI @t12 (aI @t13 (aI @tk (aI @ii (aI @cw (aI hc.cells (aI hc.one (aI @lm1 @lm2))))))))));repeat' (first|refine zW ?_|apply a_n|refine zO ?_|refine vZ ?_|refine stZ ?_|(refine zGZ ?_ ?_<;>(intro _hg;try (exfalso;omega)))|fail)
 obtain⟨hq1,hq2⟩:=hpt.swap (by omega) (by omega) (hni (by omega)) (hnj (by omega));exact⟨(i+1,k,swp M i (k+1)),hq2,⟨hq1,by dsimp only;rw[a6,a6,lm3],rfl,hp.trans (PermR.swap (by omega) (by omega) (by omega)),by dsimp only;rw[tg (by omega) (by omega) (by omega) (by omega)];exact hv⟩,(have zz:=aI @t0 (aI @t1 (aI @t4 (aI @t12 @t13)));agZ)⟩
end
end Go.Proofs.YtekdaafnjdlenaaGreat
namespace Go.Proofs.YtekdaafnjdlenaaGreat
open Go Go.Abs
def od(x:Nat):Nat:=if x=0 then 0 else Nat.log2 x+1
def rW:ByteArray:=ByteArray.mk (Array.mk [0,1,2,2,3,3,3,3,4,4,4,4,4,4,4,4,5,5,5,5,5,5,5,5,5,5,5,5,5,5,5,5,6,6,6,6,6,6,6,6,6,6,6,6,6,6,6,6,6,6,6,6,6,6,6,6,6,6,6,6,6,6,6,6,7,7,7,7,7,7,7,7,7,7,7,7,7,7,7,7,7,7,7,7,7,7,7,7,7,7,7,7,7,7,7,7,7,7,7,7,7,7,7,7,7,7,7,7,7,7,7,7,7,7,7,7,7,7,7,7,7,7,7,7,7,7,7,7,8,8,8,8,8,8,8,8,8,8,8,8,8,8,8,8,8,8,8,8,8,8,8,8,8,8,8,8,8,8,8,8,8,8,8,8,8,8,8,8,8,8,8,8,8,8,8,8,8,8,8,8,8,8,8,8,8,8,8,8,8,8,8,8,8,8,8,8,8,8,8,8,8,8,8,8,8,8,8,8,8,8,8,8,8,8,8,8,8,8,8,8,8,8,8,8,8,8,8,8,8,8,8,8,8,8,8,8,8,8,8,8,8,8,8,8,8,8,8,8,8,8,8,8,8,8,8,8])
theorem Hn(x:Nat):x<2^od x:=by
 unfold od;split
 ·omega
 ·exact Nat.lt_log2_self
theorem Cd{x:Nat}(h:0<x):2^od x≤2*x:=by
 unfold od;rw[if_neg (by omega),Nat.pow_succ];have:=Nat.log2_self_le (n:=x) (by omega);omega
theorem zh{x:Nat}(hx:x<256):nQ (.str (ByteArray.mk (Array.mk [0,1,2,2,3,3,3,3,4,4,4,4,4,4,4,4,5,5,5,5,5,5,5,5,5,5,5,5,5,5,5,5,6,6,6,6,6,6,6,6,6,6,6,6,6,6,6,6,6,6,6,6,6,6,6,6,6,6,6,6,6,6,6,6,7,7,7,7,7,7,7,7,7,7,7,7,7,7,7,7,7,7,7,7,7,7,7,7,7,7,7,7,7,7,7,7,7,7,7,7,7,7,7,7,7,7,7,7,7,7,7,7,7,7,7,7,7,7,7,7,7,7,7,7,7,7,7,7,8,8,8,8,8,8,8,8,8,8,8,8,8,8,8,8,8,8,8,8,8,8,8,8,8,8,8,8,8,8,8,8,8,8,8,8,8,8,8,8,8,8,8,8,8,8,8,8,8,8,8,8,8,8,8,8,8,8,8,8,8,8,8,8,8,8,8,8,8,8,8,8,8,8,8,8,8,8,8,8,8,8,8,8,8,8,8,8,8,8,8,8,8,8,8,8,8,8,8,8,8,8,8,8,8,8,8,8,8,8,8,8,8,8,8,8,8,8,8,8,8,8,8,8,8,8,8,8]))) (.int .u8 (x:Nat))=some (.int .u8 (od x:Nat)):=by
 have h1:rW.size=256:=by decide+kernel
 have h2:∀i:Fin 256,(rW[i.val]?.getD 0).toNat=od i.val:=by decide+kernel
 rw[SV2.2.2.2.2.2.2.2.2];have h3:=h2 ⟨x,hx⟩;change (if 0≤(x:Int)∧(x:Int)<rW.size then some (AV.int .u8 (rW[(x:Int).toNat]?.getD 0).toNat) else none)=_;rw[if_pos ⟨by omega,by rw[h1];omega⟩,cw];simp only at h3;rw[h3]
theorem rK{x s k:Nat}(hk:k=od (x/2^s))(h:0<x/2^s):x<2^(k+s)∧2^(k+s)≤2*x:=by
 subst hk;have h1:=Hn (x/2^s);have h2:=Cd h;have hp:0<2^s:=Nat.pow_pos (by omega);rw[Nat.pow_add];constructor
 ·have:=(Nat.div_lt_iff_lt_mul hp).1 h1;exact this
 ·calc 2^od (x/2^s)*2^s≤2*(x/2^s)*2^s:=lH _ h2
    _=2*(x/2^s*2^s):=by rw[Nat.mul_assoc]
    _≤2*x:=Nat.mul_le_mul_left _ (Nat.div_mul_le_self x (2^s))
theorem kJ{x:Nat}(hx:x<256):od x≤8:=by
 rcases Bd x with e|e
 ·subst e;decide
 ·have h:=Cd e;rcases uv 8 (od x) with h1|h1
  ·have:=Nat.pow_le_pow_right (n:=2) (by omega) h1;omega
  ·exact h1
theorem gd{x:Int}(h:0≤x)(h2:x<18446744073709551616):IntKind.wrap .u64 x=x:=by
 simp only[IntKind.bits,IntKind.wrap,IntKind.signed];simp;omega
theorem tP{x:Int}(h:0≤x)(h2:x<256):IntKind.wrap .u8 x=x:=by
 simp only[IntKind.bits,IntKind.wrap,IntKind.signed];simp;omega
def xr(a b:Int):Int:=IntKind.wrap .u64 (BitVec.ofInt 64 a ^^^ BitVec.ofInt 64 b).toNat
def Km(a:Int):Int:=IntKind.wrap .u64 (a*2^13)
def Lk(a:Int):Int:=IntKind.wrap .u64 (a*2^17)
def sr7(a:Int):Int:=a.fdiv (2^7)
theorem SX:(∀a b:Int,br .xor false false (.int .u64 a) (.int .u64 b)=some (.int .u64 (xr a b)))∧(∀a:Int,br .shl false false (.int .u64 a) (.int .u64 13)=some (.int .u64 (Km a)))∧
    (∀a:Int,br .shl false false (.int .u64 a) (.int .u64 17)=some (.int .u64 (Lk a)))∧(∀a:Int,br .shr false false (.int .u64 a) (.int .u64 7)=some (.int .u64 (sr7 a))):=
 ⟨fun _ _=>rfl,fun _=>rfl,fun _=>rfl,fun _=>rfl⟩
attribute [irreducible] xr Km Lk sr7
attribute [local irreducible] aH ai be aY aP aQ aD aR aZ bl Go.Abs.Fn aX Go.Abs.Pure aq aK Yl
theorem I1{H:Hp}{c nx:Nat}{s:Int}(hcc:H c=some [.int .u64 s]):Abs.Fn Tryz.prog 199 [.ptr c 1 0] H nx fun r H' nx'=>nx'=nx∧∃s':Int,r=.int .u64 s'∧H'=ap H c [.int .u64 s']:=by
 refine fO Ky ?_;simp only[KO,aJ];have ls:∀x y:AV,bK [x] 0 [y]=[y]:=fun _ _=>rfl;simp only[bK,bO,fC,cf] at ls;refine wnZ (zI4 @hcc @SV3 @SX @ls) ?_;exact⟨rfl,_,rfl,by rw[a6,a6];rfl⟩
set_option maxRecDepth 100000 in
theorem Hl{H:Hp}{nx x:Nat}(hx:0<x)(h2:x<4294967296):Abs.Fn Tryz.prog 175 [.int .u64 x] H nx fun r H' nx'=>nx'=nx∧H'=H∧∃k:Nat,r=.int .i64 k∧x<2^k∧2^k≤2*x:=by
 refine fO HO ?_;simp only[H8,aJ];generalize hT:AV.str (ByteArray.mk (Array.mk [0,1,2,2,3,3,3,3,4,4,4,4,4,4,4,4,5,5,5,5,5,5,5,5,5,5,5,5,5,5,5,5,6,6,6,6,6,6,6,6,6,6,6,6,6,6,6,6,6,6,6,6,6,6,6,6,6,6,6,6,6,6,6,6,7,7,7,7,7,7,7,7,7,7,7,7,7,7,7,7,7,7,7,7,7,7,7,7,7,7,7,7,7,7,7,7,7,7,7,7,7,7,7,7,7,7,7,7,7,7,7,7,7,7,7,7,7,7,7,7,7,7,7,7,7,7,7,7,8,8,8,8,8,8,8,8,8,8,8,8,8,8,8,8,8,8,8,8,8,8,8,8,8,8,8,8,8,8,8,8,8,8,8,8,8,8,8,8,8,8,8,8,8,8,8,8,8,8,8,8,8,8,8,8,8,8,8,8,8,8,8,8,8,8,8,8,8,8,8,8,8,8,8,8,8,8,8,8,8,8,8,8,8,8,8,8,8,8,8,8,8,8,8,8,8,8,8,8,8,8,8,8,8,8,8,8,8,8,8,8,8,8,8,8,8,8,8,8,8,8,8,8,8,8,8,8]))=tb;have htab:∀x:Nat,x<256→nQ tb (.int .u8 (x:Nat))=some (.int .u8 (od x:Nat)):=fun x hx=>by rw[←hT];exact zh hx
 clear hT;have s16:∀z:Nat,br .shr false false (.int .u64 (z:Nat)) (.int .u64 16)=some (.int .u64 ((z/2^16:Nat):Int)):=fun z=>wB (b:=16) (k:=.u64) (k':=.u64) (by decide);have s8:∀z:Nat,br .shr false false (.int .u64 (z:Nat)) (.int .u64 8)=some (.int .u64 ((z/2^8:Nat):Int)):=fun z=>wB (b:=8) (k:=.u64) (k':=.u64) (by decide);by_cases h16:65536≤x
 ·obtain⟨y,hy⟩:∃y,x/2^16=y:=⟨_,rfl⟩
  have hy1:0<y:=by omega
  have hy2:y<65536:=by omega
  by_cases h8:256≤y
  ·obtain⟨z,hz⟩:∃z,y/2^8=z:=⟨_,rfl⟩
   have hz1:0<z:=by omega
   have hz2:z<256:=by omega
   have hl:=kJ hz2;have w8:IntKind.wrap .u8 (z:Int)=z:=tP (by omega) (by omega);have ht:=htab z hz2;refine wnZ (zI6 @s16 @s8 @hy @hz @w8 @ht) ?_;have e:x/2^24=z:=by rw[←hz,←hy,Nat.div_div_eq_div_mul]
   exact⟨rfl,rfl,od z+24,by congr 1;omega,rK (by rw[e]) (by omega)⟩
  ·have hl:=kJ (x:=y) (by omega);have w8:IntKind.wrap .u8 (y:Int)=y:=tP (by omega) (by omega);have ht:=htab y (by omega);refine wnZ (zI5 @s16 @s8 @hy @w8 @ht) ?_;exact⟨rfl,rfl,od y+16,by congr 1;omega,rK (by rw[hy]) (by omega)⟩
 ·by_cases h8:256≤x
  ·obtain⟨z,hz⟩:∃z,x/2^8=z:=⟨_,rfl⟩
   have hz1:0<z:=by omega
   have hz2:z<256:=by omega
   have hl:=kJ hz2;have w8:IntKind.wrap .u8 (z:Int)=z:=tP (by omega) (by omega);have ht:=htab z hz2;refine wnZ (zI5 @s16 @s8 @hz @w8 @ht) ?_;exact⟨rfl,rfl,od z+8,by congr 1;omega,rK (by rw[hz]) (by omega)⟩
  ·have hl:=kJ (x:=x) (by omega);have w8:IntKind.wrap .u8 (x:Int)=x:=tP (by omega) (by omega);have ht:=htab x (by omega);refine wnZ (aI @w8 @ht) ?_;exact⟨rfl,rfl,od x+0,by congr 1;omega,rK (s:=0) (by simp) (by simpa using hx)⟩
theorem FM{H:Hp}{nx x:Nat}(hx:0<x)(h2:x<4294967296):Abs.Fn Tryz.prog 156 [.int .u64 x] H nx fun r H' nx'=>nx'=nx∧H'=H∧∃k:Nat,r=.int .i64 k∧x<2^k∧2^k≤2*x:=by
 refine fO HL ?_;simp only[It,aJ];refine wnZ and_self ?_;refine ba ev0 ev0 (Hl hx h2) ?_;rintro _ _ _ ⟨rfl,rfl,k,rfl,h3,h4⟩;refine wnZ and_self ?_;exact⟨rfl,rfl,k,rfl,h3,h4⟩
theorem IK{H:Hp}{nx x:Nat}(hx:0<x)(h2:x≤1000000000):Abs.Fn Tryz.prog 198 [.int .i64 x] H nx fun r H' nx'=>nx'=nx∧H'=H∧∃k:Nat,r=.int .u64 ((2^k:Nat):Int)∧x<2^k∧2^k≤2*x:=by
 have w:IntKind.wrap .u64 (x:Int)=x:=gd (by omega) (by omega);refine fO L6 ?_;simp only[KV,aJ];refine wnZ @w ?_;refine ba ev0 (have zz:=@w;evZ) (FM hx (by omega)) ?_;rintro _ _ _ ⟨rfl,rfl,k,rfl,h3,h4⟩
 have hk:k≤62:=by
  rcases uv 62 k with h|h
  ·have:=Nat.pow_le_pow_right (n:=2) (by omega) h;omega
  ·exact h
 have sh:br .shl false false (.int .u64 1) (.int .i64 (k:Int))=some (.int .u64 ((2^k:Nat):Int)):=by
  have h:=BH (k:=.u64) (k':=.i64) (a:=1) (b:=k) (tb:=false) (tf:=false) (by show k≤64;omega) (by show 1*2^k<2^63;omega);rw[Nat.one_mul] at h;exact h
 refine wnZ @sh ?_;exact⟨rfl,rfl,k,rfl,h3,h4⟩
end Go.Proofs.YtekdaafnjdlenaaGreat
namespace Go.Proofs.YtekdaafnjdlenaaGreat
open Go Go.Abs
open Nat (reduceEqDiff reduceAdd reduceLeDiff)
theorem F8{a:Int}{m:Nat}(hm:m<18446744073709551616):∃r:Nat,br .and false false (.int .u64 a) (.int .u64 (m:Nat))=some (.int .u64 (r:Nat))∧r≤m:=by
 refine⟨(BitVec.ofInt 64 a).toNat &&& m,?_,Nat.and_le_right⟩;show(if (IntKind.u64=IntKind.u64) then eT .and .u64 a m else none)=_;rw[if_pos rfl]
 have h:(BitVec.ofInt 64 a &&& BitVec.ofInt 64 (m:Int)).toNat=(BitVec.ofInt 64 a).toNat &&& m:=by
  rw[BitVec.toNat_and]
  congr 1
  simp[BitVec.toNat_ofInt];omega
 have h2:(BitVec.ofInt 64 a).toNat &&& m≤m:=Nat.and_le_right;show some (AV.int .u64 (IntKind.wrap .u64 ((BitVec.ofInt 64 a &&& BitVec.ofInt 64 (m:Int)).toNat:Int)))=_;rw[h,gd (by omega) (by omega)]
section
variable{α:Type}[Inhabited α]{f:α→AV}{K:α→α→Int}{G:α→Prop}{g:Nat}{caps:List AV}
attribute [local irreducible] aH ai be aY aP aQ aD aR aZ bl Go.Abs.Fn aX Go.Abs.Pure aq aK Yl
theorem GZ(hc:Cmp Tryz.prog f K G g caps){L:List α}{H:Hp}{b nx n a e:Nat}(hH:H b=some (L.map f))(hbx:b<nx)(hn:L.length=n)(hae:a+8≤e)(hen:e≤n)(hn2:n≤1000000000):
    Abs.Fn Tryz.prog 168 [.msl b n 1 0 n,.int .i64 a,.int .i64 e,.func g caps] H nx fun r H' nx'=>nx'=nx+1∧∃L',H' b=some (L'.map f)∧(∀i,i<nx→i≠b→H' i=H i)∧PermR a e L L':=by
 obtain⟨l,rfl⟩:∃l,e=a+l:=⟨e-a,by omega⟩
 have te:((a+l:Nat):Int)-(a:Int)=(l:Int):=by omega
 obtain⟨w,hw⟩:∃w,a+l/4*2-1=w:=⟨_,rfl⟩
 have tq:br .quo false false (.int .i64 (l:Int)) (.int .i64 4)=some (.int .i64 ((l/4:Nat):Int)):=by
  rw[o0 (by omega) (by omega) (by omega)]
  congr 2
 have w1:(a:Int)+((l/4:Nat):Int)*2-1=(w:Int):=by omega
 have w2:(a:Int)+((l/4:Nat):Int)*2+1=((w+2:Nat):Int):=by omega
 have hbn:b≠nx:=by omega
 have wl:IntKind.wrap .u64 (l:Int)=l:=gd (by omega) (by omega);refine fO Kc ?_;simp only[L5,aJ];have ls:∀x y:AV,bK [x] 0 [y]=[y]:=fun _ _=>rfl;simp only[bK,bO,fC,cf] at ls;refine wnZ (zI3 @te @wl @ls) ?_;refine ba ev0 ev0 (IK (x:=l) (by omega) (by omega)) ?_;rintro _ _ _ ⟨rfl,rfl,k,rfl,hk1,hk2⟩;obtain⟨p,hp⟩:∃p,2^k=p+1:=⟨2^k-1,by omega⟩
 rw[hp] at hk1 hk2 ⊢;refine wnZ (zI3 @te @tq @w1) ?_;have wm:IntKind.wrap .u64 (((p+1:Nat):Int)-1)=(p:Int):=by rw[gd (by omega) (by omega)];omega
 refine b0 (X:=Nat×List α) (fun x=>[(0,.msl b n 1 0 n),(1,.int .i64 a),(8,.int .i64 l),(9,.ptr nx 1 0),(10,.int .u64 ((p+1:Nat):Int)),(11,.int .i64 (x.1:Nat))]) (fun x H' nxx=>w≤x.1∧x.1≤w+3∧H' b=some (x.2.map f)∧(∃s,H' nx=some [.int .u64 s])∧(∀i,i<nx→i≠b→H' i=H i)∧nxx=nx+1∧PermR a (a+l) L x.2) (fun x=>w+3-x.1) (w,L) ⟨aO _,by dsimp only;omega,by dsimp only;rw[ac hbn];first|exact hH|(rw[ac hbn];exact hH),⟨_,af⟩,fun i h1 h2=>by rw[ac (by omega)];first|rfl|exact ac (by omega),rfl,.refl⟩ (by simp (disch:=omega) only[agr,ZG,reduceEqDiff,↓reduceIte,bO,fC,cf,true_and]) ?_;rintro⟨i,M⟩ H1 nxx ⟨h1,h2,hb1,⟨s,hs⟩,hfr,rfl,hp1⟩;dsimp only at *;have hl:M.length=n:=by rw[hp1.len,hn]
 by_cases hi:i=w+3
 ·subst hi;refine wnZ (aI @tq @w2) ?_;exact⟨rfl,M,hb1,hfr,hp1⟩
 have ti:((i:Nat):Int)+1=((i+1:Nat):Int):=by omega
 refine wnZ (aI @tq @w2) ?_;refine ba ev0 ev0 (I1 hs) ?_;rintro _ _ _ ⟨rfl,s1,rfl,rfl⟩;obtain⟨r,hr1,hr2⟩:=F8 (a:=s1) (m:=p) (by omega);obtain⟨H2,hH2⟩:∃H2,ap H1 nx [.int .u64 s1]=H2:=⟨_,rfl⟩
 have hb2:H2 b=some (M.map f):=by rw[←hH2,ac hbn];exact hb1
 have hs2:H2 nx=some [.int .u64 s1]:=by rw[←hH2];exact af
 have hfr2:∀i,i<nx→i≠b→H2 i=H i:=fun i k1 k2=>by rw[←hH2,ac (by omega)];exact hfr i k1 k2
 rw[hH2];clear hH2 hb1 hs hfr
 obtain⟨z,hz,hzl⟩:∃z:Nat,(if l≤r then(r:Int)-l else(r:Int))=(z:Int)∧z<l:=by
  split
  ·exact⟨r-l,by omega,by omega⟩
  ·exact⟨r,rfl,by omega⟩
 obtain⟨M1,hl1,lm1,lm2⟩:=d7 (f:=f) (M:=M) (i:=i) (j:=a+z) (by omega) (by omega);have lm3:=lm2;simp only[bK,bO,fC,cf] at lm1 lm2;by_cases hrl:l≤r
 ·rw[if_pos hrl] at hz;refine wnZ (j0 @wm @hr1 @hz @hb2 @ti @gM hc.cells hc.one @lm1 @lm2) ?_;exact⟨(i+1,swp M i (a+z)),by dsimp only;omega,⟨by dsimp only;omega,by dsimp only;omega,by dsimp only;rw[a6,lm3,af],⟨s1,by rw[a6,ac (Ne.symm hbn)];exact hs2⟩,fun i k1 k2=>by rw[a6,ac k2];exact hfr2 i k1 k2,rfl,hp1.trans (PermR.swap (by omega) (by omega) (by omega))⟩,ag0⟩
 ·rw[if_neg hrl] at hz;have hz':r=z:=by omega
  subst hz';refine wnZ (zI9 @wm @hr1 @hb2 @ti @gM hc.cells hc.one @lm1 @lm2) ?_;exact⟨(i+1,swp M i (a+r)),by dsimp only;omega,⟨by dsimp only;omega,by dsimp only;omega,by dsimp only;rw[a6,lm3,af],⟨s1,by rw[a6,ac (Ne.symm hbn)];exact hs2⟩,fun i k1 k2=>by rw[a6,ac k2];exact hfr2 i k1 k2,rfl,hp1.trans (PermR.swap (by omega) (by omega) (by omega))⟩,ag0⟩
end
end Go.Proofs.YtekdaafnjdlenaaGreat
namespace Go.Proofs.YtekdaafnjdlenaaGreat
open Go Go.Abs
structure PS(H H1:Hp)(nx n1 b:Nat)(cs:List AV):Prop where
 at_:H1 b=some cs
 fr:∀i,i<nx→i≠b→H1 i=H i
 le:nx≤n1
section
variable{H H1 H2:Hp}{nx n1 n2 b:Nat}{cs cs':List AV}
theorem PS.upd(h:PS H H1 nx n1 b cs):PS H (ap H1 b cs') nx n1 b cs':=⟨af,fun i k1 k2=>by rw[ac k2];exact h.fr i k1 k2,h.le⟩
theorem PS.new{v:List AV}(hb:b<nx)(h:PS H H1 nx n1 b cs):PS H (ap H1 n1 v) nx (n1+1) b cs:=
 have h1:=h.le
 ⟨by rw[ac (by omega)];exact h.at_,fun i k1 k2=>by rw[ac (by omega)];exact h.fr i k1 k2,by omega⟩
theorem PS.rec_(h:PS H H1 nx n1 b cs)(h1:H2 b=some cs')(h2:∀i,i<n1→i≠b→H2 i=H1 i)(h3:n1≤n2):PS H H2 nx n2 b cs':=
 have h4:=h.le
 ⟨h1,fun i k1 k2=>by rw[h2 i (by omega) k2];exact h.fr i k1 k2,by omega⟩
end
section
variable{α:Type}[Inhabited α]{f:α→AV}{K:α→α→Int}{G:α→Prop}{g:Nat}{caps:List AV}
structure PI{α:Type}[Inhabited α](K:α→α→Int)(a e:Nat)(L:List α)(a1 e1:Nat)(M:List α):Prop where
 lo:a≤a1
 mid:a1≤e1
 hi:e1≤e
 len:e≤L.length
 perm:PermR a e L M
 low:uQ K a1 e1 M
 close:∀N,PermR a1 e1 M N→bq K a1 e1 N→bq K a e N
variable{a e a1 e1:Nat}{L M N:List α}
theorem PI.mlen(h:PI K a e L a1 e1 M):e1≤M.length:=by rw[h.perm.len];exact fB h.hi h.len
theorem PI.start(h1:a≤e)(h2:e≤L.length)(h3:uQ K a e L):PI K a e L a e L:=⟨aO _,h1,aO _,h2,.refl,h3,fun _ _ h=>h⟩
theorem PI.swap(h:PI K a e L a1 e1 M)(hp:PermR a1 e1 M N):PI K a e L a1 e1 N:=
 ⟨h.lo,h.mid,h.hi,h.len,h.perm.trans (hp.mono h.lo h.hi),h.low.perm hp h.mid h.mlen,fun N' k1 k2=>h.close N' (hp.trans k1) k2⟩
theorem PI.done(h:PI K a e L a1 e1 M)(hp:PermR a1 e1 M N)(hs:bq K a1 e1 N):PermR a e L N∧bq K a e N:=⟨h.perm.trans (hp.mono h.lo h.hi),h.close N hp hs⟩
theorem PI.equal{v:α}{m:Nat}(hK:Ord K)(h:PI K a e L a1 e1 M)(hp:PermR a1 e1 M N)(hv:¬K (M.getD (a1-1) default) v<0)(ha:0<a1)(hm:a1<m∧m≤e1)(h1:∀p,a1≤p→p<m→¬K v (N.getD p default)<0)(h2:∀q,m≤q→q<e1→K v (N.getD q default)<0):PI K a e L m e1 N:=by
 have hN:=h.swap hp;have hlow:=hN.low;have ho:N.getD (a1-1) default=M.getD (a1-1) default:=hp.out _ (.inl (by omega));refine⟨by have:=h.lo;omega,hm.2,h.hi,h.len,hN.perm,fun q k0 k1 k2=>hK.negtr _ _ _ (h1 (m-1) (by omega) (by omega)) (hK.asym _ _ (h2 q k1 k2)),fun N' k1 k2=>hN.close N' (k1.mono (by omega) (aO _)) (fun p q c1 c2 c3=>?_)⟩;by_cases e1':m≤p
 ·exact k2 p q e1' c2 c3
 ·rw[k1.out p (.inl (by omega))];refine hK.negtr _ _ _ (h1 p c1 (by omega)) ?_;by_cases e2:m≤q
  ·exact hK.asym _ _ (k1.all (p:=fun x=>K v x<0) hm.2 hN.mlen h2 q e2 c3)
  ·rw[k1.out q (.inl (by omega))];exact hK.negtr _ _ _ hv (by rw[←ho];exact hlow q ha (by omega) c3)
theorem bq.glue{m:Nat}(hK:Ord K)(h1:bq K a1 m N)(h2:bq K (m+1) e1 N)(h3:∀p,a1≤p→p<m→¬K (N.getD m default) (N.getD p default)<0)(h4:∀q,m<q→q<e1→¬K (N.getD q default) (N.getD m default)<0):bq K a1 e1 N:=fun p q k1 k2 k3=>by
 by_cases c1:q<m
 ·exact h1 p q k1 k2 c1
 ·by_cases c2:m<p
  ·exact h2 p q c2 k2 k3
  ·by_cases c3:p=m
   ·subst c3;exact h4 q (by omega) k3
   ·by_cases c4:q=m
    ·subst c4;exact h3 p k1 k2
    ·exact hK.negtr _ _ _ (h3 p k1 (by omega)) (h4 q (by omega) k3)
structure TwoS{α:Type}[Inhabited α](K:α→α→Int)(a1 e1 m:Nat)(N:List α):Prop where
 mid:a1≤m∧m<e1
 lt:∀p,a1≤p→p<m→¬K (N.getD m default) (N.getD p default)<0
 ge:∀q,m<q→q<e1→¬K (N.getD q default) (N.getD m default)<0
theorem TwoS.left{m:Nat}{N':List α}(h:TwoS K a1 e1 m N)(hp:PermR a1 m N N')(hl:e1≤N.length):TwoS K a1 e1 m N':=
 have hm:=h.mid
 ⟨hm,by
  rw[hp.out m (.inr (aO _))];exact hp.all (p:=fun x=>¬K (N.getD m default) x<0) hm.1 (by omega) h.lt,fun q k1 k2=>by rw[hp.out m (.inr (aO _)),hp.out q (.inr (by omega))];exact h.ge q k1 k2⟩
theorem TwoS.right{m:Nat}{N':List α}(h:TwoS K a1 e1 m N)(hp:PermR (m+1) e1 N N')(hl:e1≤N.length):TwoS K a1 e1 m N':=
 have hm:=h.mid
 ⟨hm,fun p k1 k2=>by rw [hp.out m (.inl (by omega)),hp.out p (.inl (by omega))]; exact h.lt p k1 k2,by
  rw[hp.out m (.inl (by omega))];exact fun q k1 k2=>hp.all (p:=fun x=>¬K x (N.getD m default)<0) (by omega) hl (fun i c1 c2=>h.ge i (by omega) c2) q (by omega) k2⟩
theorem PI.left{m:Nat}(hK:Ord K)(h:PI K a e L a1 e1 M)(ht:TwoS K a1 e1 m M)(hp:PermR a1 m M N)(hs:bq K a1 m N):PI K a e L (m+1) e1 N:=by
 have hm:=ht.mid;have hN:=h.swap (hp.mono (aO _) (by omega));have htN:=ht.left hp h.mlen;refine⟨by have:=h.lo;omega,by omega,h.hi,h.len,hN.perm,fun q k0 k1 k2=>by rw[qg];exact htN.ge q k1 k2,fun N' k1 k2=>hN.close N' (k1.mono (by omega) (aO _)) ?_⟩;have ht':=htN.right k1 hN.mlen;exact bq.glue hK (fun p q c1 c2 c3=>by rw[k1.out p (.inl (by omega)),k1.out q (.inl (by omega))];exact hs p q c1 c2 c3) k2 ht'.lt ht'.ge
theorem PI.right{m:Nat}(hK:Ord K)(h:PI K a e L a1 e1 M)(ht:TwoS K a1 e1 m M)(hp:PermR (m+1) e1 M N)(hs:bq K (m+1) e1 N):PI K a e L a1 m N:=by
 have hm:=ht.mid;have hN:=h.swap (hp.mono (by omega) (aO _));have htN:=ht.right hp h.mlen;refine⟨h.lo,hm.1,by have:=h.hi;omega,h.len,hN.perm,fun q k0 k1 k2=>hN.low q k0 k1 (by omega),fun N' k1 k2=>hN.close N' (k1.mono (aO _) (by omega)) ?_⟩;have ht':=htN.left k1 hN.mlen;exact bq.glue hK k2 (fun p q c1 c2 c3=>by rw[k1.out p (.inr (by omega)),k1.out q (.inr (by omega))];exact hs p q c1 c2 c3) ht'.lt ht'.ge
theorem uQ.sub{a e a' e':Nat}{M:List α}(h:uQ K a e M)(ha:a'=a)(he:e'≤e):uQ K a' e' M:=fun q k0 k1 k2=>by subst ha;exact h q k0 k1 (by omega)
end
section
variable{α:Type}[Inhabited α]{f:α→AV}{K:α→α→Int}{G:α→Prop}{g:Nat}{caps:List AV}
attribute [local irreducible] aH ai be aY aP aQ aD aR aZ bl Go.Abs.Fn aX Go.Abs.Pure aq aK Yl
theorem LR(hc:Cmp Tryz.prog f K G g caps){b n:Nat}(hn2:n≤1000000000):∀(sz a e lim:Nat)(L:List α)(H:Hp)(nx:Nat),e-a<sz→H b=some (L.map f)→b<nx→L.length=n→(∀x∈L,G x)→a≤e→e≤n→lim≤64→uQ K a e L→
    Abs.Fn Tryz.prog 155 [.msl b n 1 0 n,.int .i64 a,.int .i64 e,.int .i64 lim,.func g caps] H nx fun r H' nx'=>∃L',PS H H' nx nx' b (L'.map f)∧PermR a e L L'∧bq K a e L':=by
 intro sz
 induction sz with
 |zero=>intro a e lim L H nx h;omega
 |succ sz ih=>
 intro a e lim L H nx hsz hH hbx hn hG hae hen hlim hlow;have dcap:=hc.dcaps;refine fO HZ ?_;simp only[IX,aJ];refine wnZ and_self ?_;refine b0 (X:=Nat×Nat×Nat×Bool×Bool×List α) (fun x=>[(0,.msl b n 1 0 n),(1,.int .i64 (x.1:Nat)),(2,.int .i64 (x.2.1:Nat)),(3,.int .i64 (x.2.2.1:Nat)),(4,.func g caps),(10,.bool x.2.2.2.1),(11,.bool x.2.2.2.2.1)]) (fun x H' nxx=>PI K a e L x.1 x.2.1 x.2.2.2.2.2∧PS H H' nx nxx b (x.2.2.2.2.2.map f)∧x.2.2.1≤64) (fun x=>x.2.1-x.1) (a,e,lim,true,true,L) ⟨.start hae (by rw[hn];exact hen) hlow,⟨hH,fun _ _ _=>rfl,aO _⟩,hlim⟩ ag0 ?_;clear hlim hlow lim;rintro⟨a1,e1,lim,wb,wp,M⟩ H1 n1 ⟨hpi,hps,hlim⟩;dsimp only at *;have hlo:=hpi.lo;have hmid:=hpi.mid;have hhi:=hpi.hi;obtain⟨l,hl0⟩:∃l,e1-a1=l:=⟨_,rfl⟩
 rw[hl0];have te:(e1:Int)-(a1:Int)=(l:Int):=by omega
 have hlen:∀M:List α,PI K a e L a1 e1 M→M.length=n:=fun M h=>by rw[h.perm.len,hn]
 have hGA:∀M:List α,PI K a e L a1 e1 M→∀x∈M,G x:=fun M h=>h.perm.mem hG;have hbn:∀(M:List α)(H1:Hp)(n1:Nat),PS H H1 nx n1 b (M.map f)→b<n1:=fun M H1 n1 h=>by have:=h.le;omega
 obtain⟨T,hT,t0,t1,t2,t3,t4,t10,t11⟩:∃T,tl [(0,.msl b n 1 0 n),(1,.int .i64 (a1:Nat)),(2,.int .i64 (e1:Nat)),(3,.int .i64 (lim:Nat)),(4,.func g caps),(10,.bool wb),(11,.bool wp)]=T∧T 0=.msl b n 1 0 n∧T 1=.int .i64 (a1:Nat)∧T 2=.int .i64 (e1:Nat)∧T 3=.int .i64 (lim:Nat)∧T 4=.func g caps∧T 10=.bool wb∧T 11=.bool wp:=⟨_,rfl,rfl,rfl,rfl,rfl,rfl,rfl,rfl⟩
 rw[hT];clear hT;refine kQ ?_;refine co (fun T H'' nx''=>T 0=.msl b n 1 0 n∧T 1=.int .i64 (a1:Nat)∧T 2=.int .i64 (e1:Nat)∧T 3=.int .i64 (lim:Nat)∧T 4=.func g caps∧T 10=.bool wb∧T 11=.bool wp∧T 12=.int .i64 (l:Nat)∧H1=H''∧n1=nx'') ?_ ?_
 ·refine wnZ (zI8 @t0 @t1 @t2 @t3 @t4 @t10 @t11 @te) ?_;exact⟨(have zz:=@t0;evZ),(have zz:=@t1;evZ),(have zz:=@t2;evZ),(have zz:=@t3;evZ),(have zz:=@t4;evZ),(have zz:=@t10;evZ),(have zz:=@t11;evZ),ev0,rfl,rfl⟩
 clear t0 t1 t2 t3 t4 t10 t11;rintro T _ _ ⟨t0,t1,t2,t3,t4,t10,t11,t12,rfl,rfl⟩;refine co (fun T H'' nx''=>T 0=.msl b n 1 0 n∧T 1=.int .i64 (a1:Nat)∧T 2=.int .i64 (e1:Nat)∧T 3=.int .i64 (lim:Nat)∧T 4=.func g caps∧T 10=.bool wb∧T 11=.bool wp∧T 12=.int .i64 (l:Nat)∧13≤l∧H1=H''∧n1=nx'') ?_ ?_
 ·by_cases h12:l≤12
  ·refine wnZ (zI8 @t0 @t1 @t2 @t3 @t4 @t10 @t11 @t12) ?_;refine ba ev0 (have zz:=aI @t0 (aI @t1 (aI @t2 (aI @t3 (aI @t4 (aI @t10 (aI @t11 @t12))))));evZ) (K6 hc (b:=b) hps.at_ (hlen _ hpi) (hGA _ hpi) (a:=a1) (e:=e1) hmid (by omega) hn2) ?_;rintro _ _ _ ⟨rfl,N,rfl,hpN,hsN⟩;refine wnZ and_self ?_;exact⟨N,hps.upd,hpi.done hpN hsN⟩
  ·refine wnZ (zI8 @t0 @t1 @t2 @t3 @t4 @t10 @t11 @t12) ?_;exact⟨(have zz:=@t0;evZ),(have zz:=@t1;evZ),(have zz:=@t2;evZ),(have zz:=@t3;evZ),(have zz:=@t4;evZ),(have zz:=@t10;evZ),(have zz:=@t11;evZ),(have zz:=@t12;evZ),by omega,rfl,rfl⟩
 clear t0 t1 t2 t3 t4 t10 t11 t12;rintro T _ _ ⟨t0,t1,t2,t3,t4,t10,t11,t12,h13,rfl,rfl⟩;refine co (fun T H'' nx''=>T 0=.msl b n 1 0 n∧T 1=.int .i64 (a1:Nat)∧T 2=.int .i64 (e1:Nat)∧T 3=.int .i64 (lim:Nat)∧T 4=.func g caps∧T 10=.bool wb∧T 11=.bool wp∧T 12=.int .i64 (l:Nat)∧0<lim∧H1=H''∧n1=nx'') ?_ ?_
 ·by_cases h12:lim=0
  ·subst h12;have tz:decide (((0:Nat):Int)=0)=true:=rfl;refine wnZ (zI9 @t0 @t1 @t2 @t3 @t4 @t10 @t11 @t12 @tz) ?_;refine ba ev0 (have zz:=aI @t0 (aI @t1 (aI @t2 (aI @t3 (aI @t4 (aI @t10 (aI @t11 @t12))))));evZ) (IB hc (b:=b) hps.at_ (hlen _ hpi) (hGA _ hpi) (a:=a1) (e:=e1) hmid (by omega) hn2) ?_;rintro _ _ _ ⟨rfl,N,rfl,hpN,hsN⟩;refine wnZ and_self ?_;exact⟨N,hps.upd,hpi.done hpN hsN⟩
  ·have tz:decide ((lim:Int)=0)=false:=bc (by omega);refine wnZ (zI9 @t0 @t1 @t2 @t3 @t4 @t10 @t11 @t12 @tz) ?_;exact⟨(have zz:=@t0;evZ),(have zz:=@t1;evZ),(have zz:=@t2;evZ),(have zz:=@t3;evZ),(have zz:=@t4;evZ),(have zz:=@t10;evZ),(have zz:=@t11;evZ),(have zz:=@t12;evZ),by omega,rfl,rfl⟩
 clear t0 t1 t2 t3 t4 t10 t11 t12;rintro T _ _ ⟨t0,t1,t2,t3,t4,t10,t11,t12,hlim1,rfl,rfl⟩;refine co (fun T H'' nx''=>∃(lim:Nat)(M:List α),lim≤64∧PI K a e L a1 e1 M∧PS H H'' nx nx'' b (M.map f)∧T 0=.msl b n 1 0 n∧T 1=.int .i64 (a1:Nat)∧T 2=.int .i64 (e1:Nat)∧T 3=.int .i64 (lim:Nat)∧T 4=.func g caps∧T 10=.bool wb∧T 11=.bool wp∧T 12=.int .i64 (l:Nat)) ?_ ?_
 ·cases wb
  ·obtain⟨k,rfl⟩:∃k,lim=k+1:=⟨lim-1,by omega⟩
   have tk:((k+1:Nat):Int)-1=(k:Int):=by omega
   refine wnZ (zI8 @t0 @t1 @t2 @t3 @t4 @t10 @t11 @t12) ?_;refine ba ev0 (have zz:=aI @t0 (aI @t1 (aI @t2 (aI @t3 (aI @t4 (aI @t10 (aI @t11 @t12))))));evZ) (GZ hc (b:=b) hps.at_ (hbn _ _ _ hps) (hlen _ hpi) (a:=a1) (e:=e1) (by omega) (by omega) hn2) ?_;rintro _ _ _ ⟨rfl,N,hN1,hN2,hpN⟩;refine wnZ (zI9 @t0 @t1 @t2 @t3 @t4 @t10 @t11 @t12 @tk) ?_;exact⟨k,N,by omega,hpi.swap hpN,hps.rec_ hN1 hN2 (Nat.le_succ _),(have zz:=@t0;evZ),(have zz:=@t1;evZ),(have zz:=@t2;evZ),(have zz:=@t3;evZ),(have zz:=@t4;evZ),(have zz:=@t10;evZ),(have zz:=@t11;evZ),(have zz:=@t12;evZ)⟩
  ·refine wnZ (zI8 @t0 @t1 @t2 @t3 @t4 @t10 @t11 @t12) ?_;exact⟨lim,M,hlim,hpi,hps,(have zz:=@t0;evZ),(have zz:=@t1;evZ),(have zz:=@t2;evZ),(have zz:=@t3;evZ),(have zz:=@t4;evZ),(have zz:=@t10;evZ),(have zz:=@t11;evZ),(have zz:=@t12;evZ)⟩
 clear t0 t1 t2 t3 t4 t10 t11 t12 hpi hps hlim hlim1;rintro T H1 n1 ⟨lim,M,hlim,hpi,hps,t0,t1,t2,t3,t4,t10,t11,t12⟩;refine co (fun T H'' nx''=>∃(p:Nat)(hint:Int),a1≤p∧p<e1∧PS H H'' nx nx'' b (M.map f)∧T 0=.msl b n 1 0 n∧T 1=.int .i64 (a1:Nat)∧T 2=.int .i64 (e1:Nat)∧T 3=.int .i64 (lim:Nat)∧T 4=.func g caps∧T 10=.bool wb∧T 11=.bool wp∧T 12=.int .i64 (l:Nat)∧T 13=.int .i64 (p:Nat)∧T 14=.int .i64 hint) ?_ ?_
 ·refine wnZ (zI8 @t0 @t1 @t2 @t3 @t4 @t10 @t11 @t12) ?_;refine ba ev0 (have zz:=aI @t0 (aI @t1 (aI @t2 (aI @t3 (aI @t4 (aI @t10 (aI @t11 @t12))))));evZ) (EG hc (b:=b) hps.at_ (hbn _ _ _ hps) (hlen _ hpi) (hGA _ hpi) (a:=a1) (e:=e1) (by omega) (by omega) hn2) ?_;rintro _ _ _ ⟨rfl,p,hint,v,rfl,hp1,hp2,rfl⟩;refine wnZ (zI8 @t0 @t1 @t2 @t3 @t4 @t10 @t11 @t12) ?_;exact⟨p,hint,hp1,hp2,hps.new hbx,(have zz:=@t0;evZ),(have zz:=@t1;evZ),(have zz:=@t2;evZ),(have zz:=@t3;evZ),(have zz:=@t4;evZ),(have zz:=@t10;evZ),(have zz:=@t11;evZ),(have zz:=@t12;evZ),ev0,ev0⟩
 clear t0 t1 t2 t3 t4 t10 t11 t12 hps;rintro T H1 n1 ⟨p,hint,hp1,hp2,hps,t0,t1,t2,t3,t4,t10,t11,t12,t13,t14⟩;refine co (fun T H'' nx''=>∃(p:Nat)(hint:Int)(M:List α),a1≤p∧p<e1∧PI K a e L a1 e1 M∧PS H H'' nx nx'' b (M.map f)∧T 0=.msl b n 1 0 n∧T 1=.int .i64 (a1:Nat)∧T 2=.int .i64 (e1:Nat)∧T 3=.int .i64 (lim:Nat)∧T 4=.func g caps∧T 10=.bool wb∧T 11=.bool wp∧T 12=.int .i64 (l:Nat)∧T 13=.int .i64 (p:Nat)∧T 14=.int .i64 hint) ?_ ?_
 ·by_cases h2:hint=2
  ·subst h2;obtain⟨p2,hp3⟩:∃p2,e1-1-(p-a1)=p2:=⟨_,rfl⟩
   have tp:(e1:Int)-1-((p:Int)-(a1:Int))=(p2:Int):=by omega
   have tz:decide ((2:Int)=2)=true:=rfl;refine wnZ (aI @t0 (j0 @t1 @t2 @t3 @t4 @t10 @t11 @t12 @t13 @t14 @tz)) ?_;refine ba ev0 (have zz:=aI @t0 (aI @t1 (aI @t2 (aI @t3 (aI @t4 (aI @t10 (aI @t11 @t12))))));evZ) (Kt hc (b:=b) hps.at_ (hlen _ hpi) (a:=a1) (e:=e1) (by omega) (by omega) hn2) ?_;rintro _ _ _ ⟨rfl,N,rfl,hpN⟩;refine wnZ (aI @t0 (j0 @t1 @t2 @t3 @t4 @t10 @t11 @t12 @t13 @t14 @tp)) ?_;exact⟨p2,1,N,by omega,by omega,hpi.swap hpN,hps.upd,(have zz:=@t0;evZ),(have zz:=@t1;evZ),(have zz:=@t2;evZ),(have zz:=@t3;evZ),(have zz:=@t4;evZ),(have zz:=@t10;evZ),(have zz:=@t11;evZ),(have zz:=@t12;evZ),ev0,ev0⟩
  ·have tz:decide (hint=2)=false:=bc h2;refine wnZ (aI @t0 (j0 @t1 @t2 @t3 @t4 @t10 @t11 @t12 @t13 @t14 @tz)) ?_;exact⟨p,hint,M,hp1,hp2,hpi,hps,(have zz:=@t0;evZ),(have zz:=@t1;evZ),(have zz:=@t2;evZ),(have zz:=@t3;evZ),(have zz:=@t4;evZ),(have zz:=@t10;evZ),(have zz:=@t11;evZ),(have zz:=@t12;evZ),(have zz:=@t13;evZ),(have zz:=@t14;evZ)⟩
 clear t0 t1 t2 t3 t4 t10 t11 t12 t13 t14 hps hpi hp1 hp2;rintro T H1 n1 ⟨p,hint,M,hp1,hp2,hpi,hps,t0,t1,t2,t3,t4,t10,t11,t12,t13,t14⟩;refine co (fun T H'' nx''=>∃(M:List α),PI K a e L a1 e1 M∧PS H H'' nx nx'' b (M.map f)∧T 0=.msl b n 1 0 n∧T 1=.int .i64 (a1:Nat)∧T 2=.int .i64 (e1:Nat)∧T 3=.int .i64 (lim:Nat)∧T 4=.func g caps∧T 10=.bool wb∧T 11=.bool wp∧T 12=.int .i64 (l:Nat)∧T 13=.int .i64 (p:Nat)) ?_ ?_
 ·cases wb
  ·cases wp
   ·refine wnZ (j0 @t0 @t1 @t2 @t3 @t4 @t10 @t11 @t12 @t13 @t14) ?_;exact⟨M,hpi,hps,(have zz:=@t0;evZ),(have zz:=@t1;evZ),(have zz:=@t2;evZ),(have zz:=@t3;evZ),(have zz:=@t4;evZ),(have zz:=@t10;evZ),(have zz:=@t11;evZ),(have zz:=@t12;evZ),(have zz:=@t13;evZ)⟩
   ·refine wnZ (j0 @t0 @t1 @t2 @t3 @t4 @t10 @t11 @t12 @t13 @t14) ?_;exact⟨M,hpi,hps,(have zz:=@t0;evZ),(have zz:=@t1;evZ),(have zz:=@t2;evZ),(have zz:=@t3;evZ),(have zz:=@t4;evZ),(have zz:=@t10;evZ),(have zz:=@t11;evZ),(have zz:=@t12;evZ),(have zz:=@t13;evZ)⟩
  ·cases wp
   ·refine wnZ (j0 @t0 @t1 @t2 @t3 @t4 @t10 @t11 @t12 @t13 @t14) ?_;exact⟨M,hpi,hps,(have zz:=@t0;evZ),(have zz:=@t1;evZ),(have zz:=@t2;evZ),(have zz:=@t3;evZ),(have zz:=@t4;evZ),(have zz:=@t10;evZ),(have zz:=@t11;evZ),(have zz:=@t12;evZ),(have zz:=@t13;evZ)⟩
   ·by_cases h1:hint=1
    ·subst h1;have tz:decide ((1:Int)=1)=true:=rfl;refine wnZ (aI @t0 (j0 @t1 @t2 @t3 @t4 @t10 @t11 @t12 @t13 @t14 @tz)) ?_;refine ba ev0 (have zz:=aI @t0 (aI @t1 (aI @t2 (aI @t3 (aI @t4 (aI @t10 (aI @t11 @t12))))));evZ) (DH hc (b:=b) hps.at_ (hlen _ hpi) (hGA _ hpi) (a:=a1) (e:=e1) (by omega) (by omega) hn2 hpi.low) ?_;rintro _ _ _ ⟨rfl,N,t,rfl,rfl,hpN,hsN⟩;cases t
     ·refine wnZ (j0 @t0 @t1 @t2 @t3 @t4 @t10 @t11 @t12 @t13 @t14) ?_;exact⟨N,hpi.swap hpN,hps.upd,(have zz:=@t0;evZ),(have zz:=@t1;evZ),(have zz:=@t2;evZ),(have zz:=@t3;evZ),(have zz:=@t4;evZ),(have zz:=@t10;evZ),(have zz:=@t11;evZ),(have zz:=@t12;evZ),(have zz:=@t13;evZ)⟩
     ·refine wnZ (j0 @t0 @t1 @t2 @t3 @t4 @t10 @t11 @t12 @t13 @t14) ?_;exact⟨N,hps.upd,hpi.done hpN (hsN rfl)⟩
    ·have tz:decide (hint=1)=false:=bc h1;refine wnZ (aI @t0 (j0 @t1 @t2 @t3 @t4 @t10 @t11 @t12 @t13 @t14 @tz)) ?_;exact⟨M,hpi,hps,(have zz:=@t0;evZ),(have zz:=@t1;evZ),(have zz:=@t2;evZ),(have zz:=@t3;evZ),(have zz:=@t4;evZ),(have zz:=@t10;evZ),(have zz:=@t11;evZ),(have zz:=@t12;evZ),(have zz:=@t13;evZ)⟩
 clear t0 t1 t2 t3 t4 t10 t11 t12 t13 t14 hps hpi hint;rintro T H1 n1 ⟨M,hpi,hps,t0,t1,t2,t3,t4,t10,t11,t12,t13⟩;have hbb:=hps.at_;have hl:=hlen _ hpi;have hGM:=hGA _ hpi;refine co (fun T H'' nx''=>T 0=.msl b n 1 0 n∧T 1=.int .i64 (a1:Nat)∧T 2=.int .i64 (e1:Nat)∧T 3=.int .i64 (lim:Nat)∧T 4=.func g caps∧T 10=.bool wb∧T 11=.bool wp∧T 12=.int .i64 (l:Nat)∧T 13=.int .i64 (p:Nat)∧H1=H''∧n1=nx'') ?_ ?_
 ·by_cases ha0:a1=0
  ·have tz:decide ((0:Int)<(a1:Int))=false:=bc (by omega);refine wkZ (j0 @t0 @t1 @t2 @t3 @t4 @t10 @t11 @t12 @t13 @tz) ?_;exact⟨(have zz:=@t0;evZ),(have zz:=@t1;evZ),(have zz:=@t2;evZ),(have zz:=@t3;evZ),(have zz:=@t4;evZ),(have zz:=@t10;evZ),(have zz:=@t11;evZ),(have zz:=@t12;evZ),(have zz:=@t13;evZ),rfl,rfl⟩
  have tz:decide ((0:Int)<(a1:Int))=true:=a8 (by omega);obtain⟨k,hk⟩:∃k,a1-1=k:=⟨_,rfl⟩
  have tk:(a1:Int)-1=(k:Int):=by omega
  have lc:=hc.run (M.getD k default) (M.getD p default) (hGM _ (a5 (by omega))) (hGM _ (a5 (by omega)));have d1:=hc.dat (M.getD k default);have d2:=hc.dat (M.getD p default);generalize hKK:K (M.getD k default) (M.getD p default)=kk at lc;by_cases hlt:kk<0
  ·have zz:=aI @t0 (aI @t1 (aI @t2 (aI @t3 (aI @t4 (aI @t10 (aI @t11 (aI @t12 (aI @t13 (aI @tz (aI @tk (aI @hbb (aI @cw (aI hc.cells hc.one)))))))))))));repeat' (first|refine zW ?_|refine zM ?_|apply a_n|refine zO ?_|refine vZ ?_|refine cZ ?_ (hp:=lc) (hs:=by(first|refine aA ?_ rfl|apply aM);(repeat' (first|exact ak|apply bg|apply aN|exact d1|exact d2|exact bi dcap));first|done|fail)|refine gTZ ?_|(refine zGZ ?_ ?_<;>(intro _hg;try (exfalso;omega)))|fail)
   exact⟨(have zz:=@t0;evZ),(have zz:=@t1;evZ),(have zz:=@t2;evZ),(have zz:=@t3;evZ),(have zz:=@t4;evZ),(have zz:=@t10;evZ),(have zz:=@t11;evZ),(have zz:=@t12;evZ),(have zz:=@t13;evZ),rfl,rfl⟩
  ·have zz:=aI @t0 (aI @t1 (aI @t2 (aI @t3 (aI @t4 (aI @t10 (aI @t11 (aI @t12 (aI @t13 (aI @tz (aI @tk (aI @hbb (aI @cw (aI hc.cells hc.one)))))))))))));repeat' (first|refine zW ?_|refine zM ?_|apply a_n|refine zO ?_|refine vZ ?_|refine cZ ?_ (hp:=lc) (hs:=by(first|refine aA ?_ rfl|apply aM);(repeat' (first|exact ak|apply bg|apply aN|exact d1|exact d2|exact bi dcap));first|done|fail)|refine gTZ ?_|(refine zGZ ?_ ?_<;>(intro _hg;try (exfalso;omega)))|fail)
   refine ba ev0 (have zz:=aI @t0 (aI @t1 (aI @t2 (aI @t3 (aI @t4 (aI @t10 (aI @t11 (aI @t12 @t13)))))));evZ) (FY hc (b:=b) hps.at_ (hlen _ hpi) (hGA _ hpi) (a:=a1) (e:=e1) (pv:=p) (by omega) (by omega) hn2 ⟨hp1,hp2⟩) ?_;rintro _ _ _ ⟨rfl,N,m,rfl,hm1,hm2,rfl,hpN,q1,q2⟩;refine wnZ (zI9 @t0 @t1 @t2 @t3 @t4 @t10 @t11 @t12 @t13) ?_;exact⟨(m,e1,lim,wb,wp,N),by dsimp only;omega,⟨hpi.equal hc.ord hpN (by rw[hk,hKK];exact hlt) (by omega) ⟨hm1,hm2⟩ q1 q2,hps.upd,hlim⟩,(have zz:=aI @t0 (aI @t1 (aI @t2 (aI @t3 (aI @t4 (aI @t10 (aI @t11 @t12))))));agZ)⟩
 clear t0 t1 t2 t3 t4 t10 t11 t12 t13;rintro T _ _ ⟨t0,t1,t2,t3,t4,t10,t11,t12,t13,rfl,rfl⟩;refine co (fun T H'' nx''=>∃(M:List α)(m:Nat)(t:Bool),PI K a e L a1 e1 M∧TwoS K a1 e1 m M∧PS H H'' nx nx'' b (M.map f)∧T 0=.msl b n 1 0 n∧T 1=.int .i64 (a1:Nat)∧T 2=.int .i64 (e1:Nat)∧T 3=.int .i64 (lim:Nat)∧T 4=.func g caps∧T 10=.bool wb∧T 11=.bool wp∧T 12=.int .i64 (l:Nat)∧T 16=.int .i64 (m:Nat)∧T 17=.bool t) ?_ ?_
 ·refine wnZ (zI9 @t0 @t1 @t2 @t3 @t4 @t10 @t11 @t12 @t13) ?_;refine ba ev0 (have zz:=aI @t0 (aI @t1 (aI @t2 (aI @t3 (aI @t4 (aI @t10 (aI @t11 (aI @t12 @t13)))))));evZ) (Je hc (b:=b) hps.at_ (hlen _ hpi) (hGA _ hpi) (a:=a1) (e:=e1) (pv:=p) (by omega) (by omega) hn2 ⟨hp1,hp2⟩) ?_;rintro _ _ _ ⟨rfl,N,m,t,rfl,hm1,hm2,rfl,hpN,q1,q2⟩;refine wnZ (zI9 @t0 @t1 @t2 @t3 @t4 @t10 @t11 @t12 @t13) ?_;exact⟨N,m,t,hpi.swap hpN,⟨⟨hm1,hm2⟩,fun p k1 k2=>hc.ord.asym _ _ (q1 p k1 k2),q2⟩,hps.upd,(have zz:=@t0;evZ),(have zz:=@t1;evZ),(have zz:=@t2;evZ),(have zz:=@t3;evZ),(have zz:=@t4;evZ),(have zz:=@t10;evZ),(have zz:=@t11;evZ),(have zz:=@t12;evZ),ev0,ev0⟩
 clear t0 t1 t2 t3 t4 t10 t11 t12 t13 hbb hl hGM hpi hps hp1 hp2 p;rintro T H1 n1 ⟨M,m,t,hpi,hts,hps,t0,t1,t2,t3,t4,t10,t11,t12,t16,t17⟩;have hm:=hts.mid;have hl:=hlen _ hpi
 have tq:br .quo false false (.int .i64 (l:Int)) (.int .i64 8)=some (.int .i64 ((l/8:Nat):Int)):=by
  rw[o0 (by omega) (by omega) (by omega)]
  congr 2
 have tm:(m:Int)+1=((m+1:Nat):Int):=by omega
 by_cases hlr:(m:Int)-(a1:Int)<(e1:Int)-(m:Int)
 ·have tz:decide ((m:Int)-(a1:Int)<(e1:Int)-(m:Int))=true:=a8 hlr;refine wnZ (aI @t0 (aI @t1 (j0 @t2 @t3 @t4 @t10 @t11 @t12 @t16 @t17 @tq @tz))) ?_;refine ba ev0 (have zz:=aI @t0 (aI @t1 (aI @t2 (aI @t3 (aI @t4 (aI @t10 (aI @t11 (aI @t12 (aI @t16 @t17))))))));evZ) (ih a1 m lim M H1 n1 (by omega) hps.at_ (hbn _ _ _ hps) hl (hGA _ hpi) (by omega) (by omega) hlim (hpi.low.sub rfl (by omega))) ?_;rintro _ H2 n2 ⟨N,hps2,hpN,hsN⟩;refine wnZ (aI @t0 (j0 @t1 @t2 @t3 @t4 @t10 @t11 @t12 @t16 @t17 @tm)) ?_;exact⟨(m+1,e1,lim,decide (((l/8:Nat):Int)≤(m:Int)-(a1:Int)),t,N),by dsimp only;omega,⟨hpi.left hc.ord hts hpN hsN,hps.rec_ hps2.at_ hps2.fr hps2.le,hlim⟩,(have zz:=aI @t0 (aI @t1 (aI @t2 (aI @t3 (aI @t4 (aI @t10 (aI @t11 (aI @t12 (aI @t16 @t17))))))));agZ)⟩
 ·have tz:decide ((m:Int)-(a1:Int)<(e1:Int)-(m:Int))=false:=bc hlr;refine wnZ (aI @t0 (aI @t1 (aI @t2 (j0 @t3 @t4 @t10 @t11 @t12 @t16 @t17 @tq @tz @tm)))) ?_;refine ba ev0 (have zz:=aI @t0 (aI @t1 (aI @t2 (aI @t3 (aI @t4 (aI @t10 (aI @t11 (aI @t12 (aI @t16 @t17))))))));evZ) (ih (m+1) e1 lim M H1 n1 (by omega) hps.at_ (hbn _ _ _ hps) hl (hGA _ hpi) (by omega) (by omega) hlim (fun q k0 k1 k2=>by rw[qg];exact hts.ge q k1 k2)) ?_;rintro _ H2 n2 ⟨N,hps2,hpN,hsN⟩;refine wnZ (j0 @t0 @t1 @t2 @t3 @t4 @t10 @t11 @t12 @t16 @t17) ?_;exact⟨(a1,m,lim,decide (((l/8:Nat):Int)≤(e1:Int)-(m:Int)),t,N),by dsimp only;omega,⟨hpi.right hc.ord hts hpN hsN,hps.rec_ hps2.at_ hps2.fr hps2.le,hlim⟩,(have zz:=aI @t0 (aI @t1 (aI @t2 (aI @t3 (aI @t4 (aI @t10 (aI @t11 (aI @t12 (aI @t16 @t17))))))));agZ)⟩
end
end Go.Proofs.YtekdaafnjdlenaaGreat
namespace Go.Proofs.YtekdaafnjdlenaaGreat
open Go Go.Abs
open Nat (reduceEqDiff reduceAdd reduceLeDiff)
section
variable{α:Type}[Inhabited α]{f:α→AV}{K:α→α→Int}{G:α→Prop}{g:Nat}{caps:List AV}
attribute [local irreducible] aH ai be aY aP aQ aD aR aZ bl Go.Abs.Fn aX Go.Abs.Pure aq aK Yl
set_option maxRecDepth 100000 in
theorem Gz{H:Hp}{nx:Nat}:Abs.Fn Tryz.prog 175 [.int .u64 0] H nx fun r H' nx'=>nx'=nx∧H'=H∧r=.int .i64 0:=by
 refine fO HO ?_;simp only[H8,aJ];generalize hT:AV.str (ByteArray.mk (Array.mk [0,1,2,2,3,3,3,3,4,4,4,4,4,4,4,4,5,5,5,5,5,5,5,5,5,5,5,5,5,5,5,5,6,6,6,6,6,6,6,6,6,6,6,6,6,6,6,6,6,6,6,6,6,6,6,6,6,6,6,6,6,6,6,6,7,7,7,7,7,7,7,7,7,7,7,7,7,7,7,7,7,7,7,7,7,7,7,7,7,7,7,7,7,7,7,7,7,7,7,7,7,7,7,7,7,7,7,7,7,7,7,7,7,7,7,7,7,7,7,7,7,7,7,7,7,7,7,7,8,8,8,8,8,8,8,8,8,8,8,8,8,8,8,8,8,8,8,8,8,8,8,8,8,8,8,8,8,8,8,8,8,8,8,8,8,8,8,8,8,8,8,8,8,8,8,8,8,8,8,8,8,8,8,8,8,8,8,8,8,8,8,8,8,8,8,8,8,8,8,8,8,8,8,8,8,8,8,8,8,8,8,8,8,8,8,8,8,8,8,8,8,8,8,8,8,8,8,8,8,8,8,8,8,8,8,8,8,8,8,8,8,8,8,8,8,8,8,8,8,8,8,8,8,8,8,8]))=tb;have ht:nQ tb (.int .u8 0)=some (.int .u8 0):=by rw[←hT];exact zh (x:=0) (by decide)
 clear hT;have w8:IntKind.wrap .u8 0=0:=by decide
 refine wnZ (aI @w8 @ht) ?_;exact⟨rfl,rfl,by congr 1⟩
theorem JJ{H:Hp}{nx:Nat}:Abs.Fn Tryz.prog 156 [.int .u64 0] H nx fun r H' nx'=>nx'=nx∧H'=H∧r=.int .i64 0:=by
 refine fO HL ?_;simp only[It,aJ];refine wnZ and_self ?_;refine ba ev0 ev0 Gz ?_;rintro _ _ _ ⟨rfl,rfl,rfl⟩;refine wnZ and_self ?_;exact⟨rfl,rfl,rfl⟩
theorem Bw(hc:Cmp Tryz.prog f K G g caps){L:List α}{H:Hp}{b nx n:Nat}(hH:H b=some (L.map f))(hbx:b<nx)(hn:L.length=n)(hn0:0<n)(hG:∀x∈L,G x)(hn2:n≤1000000000):
    Abs.Fn Tryz.prog 130 [.msl b n 1 0 n,.func g caps] H nx fun r H' nx'=>∃L',PS H H' nx nx' b (L'.map f)∧L'.Perm L∧bq K 0 n L':=by
 refine fO HS ?_;simp only[IR,aJ];have w:IntKind.wrap .u64 (n:Int)=n:=gd (by omega) (by omega);refine wnZ @w ?_;refine ba ev0 (have zz:=@w;evZ) (FM hn0 (by omega)) ?_;rintro _ _ _ ⟨rfl,rfl,k,rfl,h3,h4⟩
 have hk:k≤62:=by
  rcases uv 62 k with h|h
  ·have:=Nat.pow_le_pow_right (n:=2) (by omega) h;omega
  ·exact h
 refine wnZ and_self ?_;refine ba ev0 (have zz:=@Int.natCast_zero;evZ) (LR hc hn2 (n+1) 0 n k L _ _ (by omega) hH hbx hn hG (by omega) (aO _) (by omega) (fun q h=>by omega)) ?_;rintro _ _ _ ⟨N,hps,hp,hs⟩;refine wnZ and_self ?_;exact⟨N,hps,hp.perm,hs⟩
end
end Go.Proofs.YtekdaafnjdlenaaGreat
namespace Go.Proofs.YtekdaafnjdlenaaGreat
open Go Go.Abs
def _root_.List.c2{α:Type}(l:List α)(f:α→AV):List AV:=l.flatMap fun x=>(f x).cells
structure Cmp2{α:Type}(P:Program)(f:α→AV)(K:α→α→Int)(G:α→Prop)(g:Nat)(caps:List AV):Prop where
 len:∀x,(f x).cells.length=2
 agg:∀x,AV.agg (f x).cells=f x
 ones:∀x,AV.ones (f x).cells=true
 dat:∀x,Dat (f x)
 dcaps:∀x∈caps,Dat x
 run:∀x y,G x→G y→Go.Abs.Pure P g (f x::f y::caps) (.int .i64 (K x y))
 ord:Ord K
section
variable{α:Type}{f:α→AV}(h:∀x,(f x).cells.length=2)
include h
end
section
variable{α:Type}[Inhabited α]{f:α→AV}{K:α→α→Int}{G:α→Prop}{g:Nat}{caps:List AV}
attribute [local irreducible] aH ai be aY aP aQ aD aR aZ bl Go.Abs.Fn aX Go.Abs.Pure aq aK Yl
end
end Go.Proofs.YtekdaafnjdlenaaGreat
namespace Go.Proofs.YtekdaafnjdlenaaGreat
open Go Go.Abs
section
variable{α:Type}[Inhabited α]{f:α→AV}{K:α→α→Int}{G:α→Prop}{g:Nat}{caps:List AV}
attribute [local irreducible] aH ai be aY aP aQ aD aR aZ bl Go.Abs.Fn aX Go.Abs.Pure aq aK Yl
end
end Go.Proofs.YtekdaafnjdlenaaGreat
namespace Go.Proofs.YtekdaafnjdlenaaGreat
open Go Go.Abs
open Nat (reduceEqDiff reduceAdd reduceLeDiff)
section
variable{α:Type}[Inhabited α]{f:α→AV}{K:α→α→Int}{G:α→Prop}{g:Nat}{caps:List AV}
attribute [local irreducible] aH ai be aY aP aQ aD aR aZ bl Go.Abs.Fn aX Go.Abs.Pure aq aK Yl
end
end Go.Proofs.YtekdaafnjdlenaaGreat
namespace Go.Proofs.YtekdaafnjdlenaaGreat
open Go Go.Abs
section
variable{α:Type}[Inhabited α]{f:α→AV}{K:α→α→Int}{G:α→Prop}{g:Nat}{caps:List AV}
attribute [local irreducible] aH ai be aY aP aQ aD aR aZ bl Go.Abs.Fn aX Go.Abs.Pure aq aK Yl
end
end Go.Proofs.YtekdaafnjdlenaaGreat
namespace Go.Proofs.YtekdaafnjdlenaaGreat
open Go Go.Abs
section
variable{α:Type}[Inhabited α]{f:α→AV}{K:α→α→Int}{G:α→Prop}{g:Nat}{caps:List AV}
attribute [local irreducible] aH ai be aY aP aQ aD aR aZ bl Go.Abs.Fn aX Go.Abs.Pure aq aK Yl
end
end Go.Proofs.YtekdaafnjdlenaaGreat
namespace Go.Proofs.YtekdaafnjdlenaaGreat
open Go Go.Abs
section
variable{α:Type}[Inhabited α]{f:α→AV}{K:α→α→Int}{G:α→Prop}{g:Nat}{caps:List AV}
attribute [local irreducible] aH ai be aY aP aQ aD aR aZ bl Go.Abs.Fn aX Go.Abs.Pure aq aK Yl
end
end Go.Proofs.YtekdaafnjdlenaaGreat
namespace Go.Proofs.YtekdaafnjdlenaaGreat
open Go Go.Abs
section
variable{α:Type}[Inhabited α]{f:α→AV}{K:α→α→Int}{G:α→Prop}{g:Nat}{caps:List AV}
attribute [local irreducible] aH ai be aY aP aQ aD aR aZ bl Go.Abs.Fn aX Go.Abs.Pure aq aK Yl
end
end Go.Proofs.YtekdaafnjdlenaaGreat
namespace Go.Proofs.YtekdaafnjdlenaaGreat
open Go Go.Abs
open Nat (reduceEqDiff reduceAdd reduceLeDiff)
section
variable{α:Type}[Inhabited α]{f:α→AV}{K:α→α→Int}{G:α→Prop}{g:Nat}{caps:List AV}
attribute [local irreducible] aH ai be aY aP aQ aD aR aZ bl Go.Abs.Fn aX Go.Abs.Pure aq aK Yl
end
end Go.Proofs.YtekdaafnjdlenaaGreat
namespace Go.Proofs.YtekdaafnjdlenaaGreat
open Go Go.Abs
section
variable{α:Type}[Inhabited α]{f:α→AV}{K:α→α→Int}{G:α→Prop}{g:Nat}{caps:List AV}
attribute [local irreducible] aH ai be aY aP aQ aD aR aZ bl Go.Abs.Fn aX Go.Abs.Pure aq aK Yl
end
end Go.Proofs.YtekdaafnjdlenaaGreat
namespace Go.Proofs.YtekdaafnjdlenaaGreat
open Go Go.Abs
open Nat (reduceEqDiff reduceAdd reduceLeDiff)
section
variable{α:Type}[Inhabited α]{f:α→AV}{K:α→α→Int}{G:α→Prop}{g:Nat}{caps:List AV}
attribute [local irreducible] aH ai be aY aP aQ aD aR aZ bl Go.Abs.Fn aX Go.Abs.Pure aq aK Yl
end
end Go.Proofs.YtekdaafnjdlenaaGreat
namespace Go.Proofs.YtekdaafnjdlenaaGreat
open Go Go.Abs
open Nat (reduceEqDiff reduceAdd reduceLeDiff)
theorem As{B n len k:Nat}(h:k≤len)(hn:n≠0):lw 2 (.msl B n 2 0 len) none (some (.int .i64 k)) none=some (.msl B n 2 0 k):=by
 simp only[lw,bL,Int.natCast_nonneg,if_true,cw];rw[if_pos ⟨trivial,by omega,h,hn⟩,if_pos (.inl trivial),wE,Nat.sub_zero]
theorem Cr{H:Hp}{B:Nat}{cs:List AV}(hH:H B=some cs):H=ap H B cs:=by
 funext b
 by_cases e:b=B
 ·subst e;rw[af];exact hH
 ·rw[ac e]
attribute [local irreducible] aH ai be aY aP aQ aD aR aZ bl Go.Abs.Fn aX Go.Abs.Pure aq aK Yl
end Go.Proofs.YtekdaafnjdlenaaGreat
namespace Go.Proofs.YtekdaafnjdlenaaGreat
open Go Go.Abs
theorem Ij(a b:Vtx):pm (.st [.int,.int]) (dD a) (dD b)=some (decide (a=b)):=by
 show dC [.int,.int] [.int .i64 a.color,.int .i64 a.label] [.int .i64 b.color,.int .i64 b.label]=_;rw[A8,xH]
theorem D0(v:Vtx)(ks:List Vtx):dg (.st [.int,.int]) (dD v) (ks.map dD)=some (if v∈ks then some (ks.idxOf v) else none):=mW _ dD Ij v ks
theorem EC(v:Vtx):jm (.st [.int,.int]) (dD v)=true:=rfl
def nj(l:List Spx)(i:Nat)(v:Vtx):List Nat:=(List.range i).filter fun k=>decide (v∈l.getD k default)
def o6(l:List Spx)(i j:Nat)(v:Vtx):List Nat:=nj l i v++if v∈(l.getD i default).take j then [i] else []
theorem Co{l:List Spx}{i:Nat}{v:Vtx}:nj l (i+1) v=o6 l i (l.getD i default).length v:=by
 unfold nj o6;rw[List.range_succ,ws,List.take_length]
 congr 1
 by_cases h:v∈l.getD i default
 ·rw[if_pos h];simp only[List.filter,h,decide_true]
 ·rw[if_neg h];simp only[List.filter,h,decide_false]
theorem CU{l:List Spx}{i:Nat}{v:Vtx}:o6 l i 0 v=nj l i v:=by unfold o6;simp
theorem DJ{l:List Spx}{i j:Nat}{v:Vtx}(hj:j<(l.getD i default).length)(ha:bQ cl (l.getD i default)):o6 l i (j+1) v=if v=(l.getD i default).getD j default then o6 l i j v++[i] else o6 l i j v:=by
 unfold o6;generalize l.getD i default=s at *;rw[cr hj];by_cases h:v=s.getD j default
 ·have hn:v∉s.take j:=fun hm=>by
    obtain⟨k,hk,e⟩:=jV hm;rw[iz] at hk;rw[List.getElem_take] at e;have:=dQ ha (i:=k) (j:=j) (by omega) hj;rw[←h,←e] at this;have e2:s.getD k default=s[k]:=by simp[List.getD,show k<s.length by omega]
    rw[e2] at this;exact A9.ord.irr _ this
  rw[if_pos h,if_neg hn,if_pos (by rw[eU,h];simp)];simp
 ·rw[if_neg h]
  congr 1
  have e:v∈s.take j++[s.getD j default]↔v∈s.take j:=by rw[eU,cV];exact⟨fun h'=>h'.resolve_right h,.inl⟩
  by_cases h2:v∈s.take j
  ·rw[if_pos (e.2 h2),if_pos h2]
  ·rw[if_neg (fun h=>h2 (e.1 h)),if_neg h2]
def An(i:Nat):AV:=.int .i64 (i:Int)
structure IncOk(H:Hp)(b lo hi:Nat)(F:Vtx→List Nat)(ks:List Vtx)(vs:List AV):Prop where
 box:H b=some [.omap (ks.map dD) vs]
 len:vs.length=ks.length
 nodup:ks.Nodup
 dom:∀v,v∈ks↔F v≠[]
 row:∀j,j<ks.length→Row H 1 (vs.getD j .undef) ((F (ks.getD j default)).map An)
 bnd:∀j B,j<ks.length→bZ (vs.getD j .undef)=some B→lo≤B∧B<hi∧B≠b
 apart:∀i j B,i<ks.length→j<ks.length→i≠j→bZ (vs.getD i .undef)=some B→bZ (vs.getD j .undef)≠some B
 lt:b<hi
theorem qD{l:List AV}{i j:Nat}{x:AV}(h:i<l.length):(l.set i x).getD j .undef=if i=j then x else l.getD j .undef:=by
 simp only[List.getD,List.getElem?_set];split
 ·rename_i e;subst e;simp[h]
 ·rfl
theorem yh{α:Type}{l m:List α}{j:Nat}{d:α}(h:j<l.length):(l++m).getD j d=l.getD j d:=by
 simp[List.getD,gA h]
theorem vK{α:Type}{l:List α}{x d:α}:(l++[x]).getD l.length d=x:=by simp[List.getD]
theorem xo{l:List Vtx}{v:Vtx}(h:v∈l):l.idxOf v<l.length∧l.getD (l.idxOf v) default=v:=by
 have h1:=np.2 h;exact⟨h1,by simp[List.getD,h1]⟩
theorem Db{l:List Vtx}(h:l.Nodup){i j:Nat}(hi:i<l.length)(hj:j<l.length)(e:l.getD i default=l.getD j default):i=j:=by
 have hp:=jT.1 (List.nodup_iff_pairwise_ne.1 h);rw[show l.getD i default=l[i] by simp[List.getD,hi],show l.getD j default=l[j] by simp[List.getD,hj]] at e;rcases rz i j with c|c|c
 ·exact absurd e (hp i j hi hj c)
 ·exact c
 ·exact absurd e.symm (hp j i hj hi c)
theorem IncOk.same{H H':Hp}{b lo hi hi':Nat}{F:Vtx→List Nat}{ks:List Vtx}{vs:List AV}(h:IncOk H b lo hi F ks vs)(hb:H' b=H b)(hs:∀x,lo≤x→x<hi→x≠b→H' x=H x)(hh:hi≤hi'):IncOk H' b lo hi' F ks vs:=
 ⟨hb.trans h.box,h.len,h.nodup,h.dom,fun j hj=>(h.row j hj).same fun B hB=>by have:=h.bnd j B hj hB;exact hs B this.1 this.2.1 this.2.2,fun j B hj hB=>by have:=h.bnd j B hj hB;exact⟨this.1,by omega,this.2.2⟩,h.apart,by have:=h.lt;omega⟩
theorem IncOk.put{H H':Hp}{b lo hi hi' i:Nat}{F G:Vtx→List Nat}{ks:List Vtx}{vs:List AV}{w:Vtx}{sv:AV}(h:IncOk H b lo hi F ks vs)(hw:w∈ks)(hG:∀v,G v=if v=w then F v++[i] else F v)(hrow:Row H' 1 sv ((F w++[i]).map An))(hB:∀B,bZ sv=some B→bZ (vs.getD (ks.idxOf w) .undef)=some B∨hi≤B∧B<hi'∧B≠b)(hb:H' b=some [.omap (ks.map dD) (vs.set (ks.idxOf w) sv)])
    (hs:∀x,lo≤x→x<hi→x≠b→bZ (vs.getD (ks.idxOf w) .undef)≠some x→H' x=H x) (hh:hi≤hi') (hlo:lo≤hi):IncOk H' b lo hi' G ks (vs.set (ks.idxOf w) sv):=by
 obtain⟨k1,k2⟩:=xo hw;have hl:=h.len;have hg:∀j,(vs.set (ks.idxOf w) sv).getD j .undef=if ks.idxOf w=j then sv else vs.getD j .undef:=fun j=>qD (by omega)
 have hne:∀j,j<ks.length→ks.idxOf w≠j→ks.getD j default≠w:=fun j hj hn e=>hn (Db h.nodup k1 hj (by rw[k2,e]));refine⟨hb,by simp[hl],h.nodup,fun v=>?_,fun j hj=>?_,fun j B hj=>?_,fun p q B hp hq hpq=>?_,by have:=h.lt;omega⟩
 ·rw[hG,h.dom];by_cases e:v=w
  ·subst e;rw[if_pos rfl];exact⟨fun _=>by simp,fun _=>(h.dom v).1 hw⟩
  ·rw[if_neg e]
 ·rw[hg,hG];by_cases e:ks.idxOf w=j
  ·rw[if_pos e,if_pos (by rw[←e];exact k2),←e,k2];exact hrow
  ·rw[if_neg e,if_neg (hne j hj e)]
   exact(h.row j hj).same fun B hB'=>by
    have:=h.bnd j B hj hB';exact hs B this.1 this.2.1 this.2.2 fun h'=>h.apart (ks.idxOf w) j B k1 hj e h' hB'
 ·rw[hg];by_cases e:ks.idxOf w=j
  ·rw[if_pos e];intro hB';rcases hB B hB' with h'|h'
   ·have:=h.bnd _ B k1 h';exact⟨this.1,by omega,this.2.2⟩
   ·exact⟨by omega,h'.2⟩
  ·rw[if_neg e];intro hB';have:=h.bnd j B hj hB';exact⟨this.1,by omega,this.2.2⟩
 ·rw[hg,hg];by_cases e1:ks.idxOf w=p
  ·rw[if_pos e1,if_neg (by omega)];intro h1 h2;rcases hB B h1 with h'|h'
   ·exact h.apart (ks.idxOf w) q B k1 hq (by omega) h' h2
   ·have:=h.bnd q B hq h2;omega
  ·rw[if_neg e1];by_cases e2:ks.idxOf w=q
   ·rw[if_pos e2];intro h1 h2;rcases hB B h2 with h'|h'
    ·exact h.apart p (ks.idxOf w) B hp k1 (by omega) h1 h'
    ·have:=h.bnd p B hp h1;omega
   ·rw[if_neg e2];exact h.apart p q B hp hq hpq
theorem IncOk.new{H H':Hp}{b lo hi hi' i:Nat}{F G:Vtx→List Nat}{ks:List Vtx}{vs:List AV}{w:Vtx}{sv:AV}(h:IncOk H b lo hi F ks vs)(hw:w∉ks)(hG:∀v,G v=if v=w then F v++[i] else F v)(hrow:Row H' 1 sv ([i].map An))(hB:∀B,bZ sv=some B→hi≤B∧B<hi'∧B≠b)(hb:H' b=some [.omap ((ks++[w]).map dD) (vs++[sv])])
    (hs:∀x,lo≤x→x<hi→x≠b→H' x=H x) (hh:hi≤hi') (hlo:lo≤hi):IncOk H' b lo hi' G (ks++[w]) (vs++[sv]):=by
 have hl:=h.len
 have hF:F w=[]:=by
  cases hf:F w with
  |nil=>rfl
  |cons a r=>exact absurd ((h.dom w).2 (by rw[hf];simp)) hw
 have g1:∀j,j<ks.length→(ks++[w]).getD j default=ks.getD j default∧(vs++[sv]).getD j .undef=vs.getD j .undef:=fun j hj=>⟨yh hj,yh (by omega)⟩
 have g2:(ks++[w]).getD ks.length default=w∧(vs++[sv]).getD ks.length .undef=sv:=⟨vK,by rw[←hl];exact vK⟩
 refine⟨hb,by simp[hl],?_,fun v=>?_,fun j hj=>?_,fun j B hj=>?_,fun p q B hp hq hpq=>?_,by have:=h.lt;omega⟩
 ·rw[zD];exact⟨h.nodup,by simp,fun a ha c hc e=>by rw[cV] at hc;exact hw (by rw[←hc,←e];exact ha)⟩
 ·rw[hG,eU,cV];by_cases e:v=w
  ·subst e;rw[if_pos rfl];simp
  ·rw[if_neg e,←h.dom];simp[e]
 ·rw[du,List.length_singleton] at hj;by_cases e:j=ks.length
  ·subst e;rw[g2.1,g2.2,hG,if_pos rfl,hF];exact hrow
  ·obtain⟨e1,e2⟩:=g1 j (by omega);have hne:ks.getD j default≠w:=fun e'=>hw (e'▸ay (by omega));rw[e1,e2,hG,if_neg hne];exact(h.row j (by omega)).same fun B hB'=>by have:=h.bnd j B (by omega) hB';exact hs B this.1 this.2.1 this.2.2
 ·rw[du,List.length_singleton] at hj;by_cases e:j=ks.length
  ·subst e;rw[g2.2];intro hB';have:=hB B hB';exact⟨by omega,this.2⟩
  ·rw[(g1 j (by omega)).2];intro hB';have:=h.bnd j B (by omega) hB';exact⟨this.1,by omega,this.2.2⟩
 ·rw[du,List.length_singleton] at hp hq;by_cases e1:p=ks.length
  ·subst e1;rw[g2.2,(g1 q (by omega)).2];intro h1 h2;have:=hB B h1;have:=h.bnd q B (by omega) h2;omega
  ·rw[(g1 p (by omega)).2];by_cases e2:q=ks.length
   ·subst e2;rw[g2.2];intro h1 h2;have:=hB B h2;have:=h.bnd p B (by omega) h1;omega
   ·rw[(g1 q (by omega)).2];exact h.apart p q B (by omega) (by omega) hpq
theorem i9{H:Hp}{d:Nat}{x:AV}:er 1 (ap H d [x]) (.msl d 1 1 0 1)=some (1,[x]):=fH (n:=1) (len:=1) (off:=0) (cs:=[x]) af rfl (by simp)
theorem xJ{l:List Spx}{i:Nat}{v:Vtx}:(nj l i v).length≤i:=by
 unfold nj;have:=List.length_filter_le (fun k=>decide (v∈l.getD k default)) (List.range i)
 rwa [List.length_range] at this
theorem FO{l:List Spx}{i j:Nat}{v:Vtx}:(o6 l i j v).length≤i+1:=by
 unfold o6;have:=xJ (l:=l) (i:=i) (v:=v);rw[du];split<;>simp <;>omega
attribute [local irreducible] aH ai be aY aP aQ aD aR aZ bl Go.Abs.Fn aX Go.Abs.Pure aq aK Yl
set_option maxHeartbeats 2000000 in
theorem zC(l:List Spx)(hl:l.length≤100000)(hs:∀s∈l,bQ cl s∧s.length≤1000000)(H:Hp)(nx:Nat):Abs.Fn Tryz.prog 92 [an l] H nx fun r H' nx'=>∃ks vs,r=.mp nx∧IncOk H' nx nx nx' (nj l l.length) ks vs∧(∀x,x<nx→H' x=H x)∧nx<nx':=by
 refine fO Nd ?_;simp only[b92,aJ];refine dH ?_
 repeat' (first|apply a_n|refine zO ?_|refine vZ ?_|fail)
 refine dH ?_;refine wnZ and_self ?_;refine vj ?_;refine wnY @ah ?_;refine b0 (X:=Nat×List Vtx×List AV) (fun x=>[(3,.mp nx),(9,an l),(10,.int .i64 l.length),(11,.int .i64 x.1)]) (fun x H' nx'=>x.1≤l.length∧IncOk H' nx nx nx' (nj l x.1) x.2.1 x.2.2∧(∀y,y<nx→H' y=H y)∧nx<nx') (fun x=>l.length-x.1) (0,[],[]) ⟨bR _,⟨af,rfl,List.nodup_nil,fun v=>by simp[nj],fun j h=>absurd h (by simp),fun j B h=>absurd h (by simp),fun i j B h=>absurd h (by simp),by omega⟩,fun y hy=>ac (by omega),by omega⟩ ag0 ?_;rintro⟨i,ks,vs⟩ H1 nx1 ⟨h1,h2,h3,h4⟩;dsimp only at h1 h2 ⊢;by_cases hi:i<l.length
 rotate_left
 ·obtain rfl:i=l.length:=by omega
  refine wnY and_self ?_;exact⟨ks,vs,rfl,h2,h3,h4⟩
 have ix:=fj hi;obtain⟨hsa,hsl⟩:=hs _ (ay hi);have hstep:=fun j v hj=>DJ (l:=l) (i:=i) (j:=j) (v:=v) hj hsa;have hend:=fun v=>Co (l:=l) (i:=i) (v:=v);have hlen:=fun j v=>FO (l:=l) (i:=i) (j:=j) (v:=v);have h20:IncOk H1 nx nx nx1 (o6 l i 0) ks vs:=by rw[show o6 l i 0=nj l i from funext fun v=>CU];exact h2
 have hend':nj l (i+1)=o6 l i (l.getD i default).length:=funext hend;clear h2;generalize l.getD i default=s at *;refine wnY (aI @ix @au) ?_;refine b0 (X:=Nat×List Vtx×List AV) (fun x=>[(3,.mp nx),(9,an l),(10,.int .i64 l.length),(11,.int .i64 i),(4,.int .i64 i),(5,aC s),(16,aC s),(17,.int .i64 s.length),(18,.int .i64 x.1)]) (fun x H' nx'=>x.1≤s.length∧IncOk H' nx nx nx' (o6 l i x.1) x.2.1 x.2.2∧(∀y,y<nx→H' y=H y)∧nx<nx') (fun x=>s.length-x.1) (0,ks,vs) ⟨bR _,h20,h3,h4⟩ ag0 ?_;clear h20 h3 h4;rintro⟨j,ks,vs⟩ H2 nx2 ⟨k1,k2,k3,k4⟩;dsimp only at k1 k2 ⊢;by_cases hj:j<s.length
 rotate_left
 ·obtain rfl:j=s.length:=by omega
  refine wnY and_self ?_;exact⟨(i+1,ks,vs),by dsimp only;omega,⟨by dsimp only;omega,by dsimp only;rw[hend'];exact k2,k3,k4⟩,ag0⟩
 have iy:=ix2 hj;have hG:=fun v=>hstep j v hj;have hcl:=hlen j (s.getD j default);generalize s.getD j default=w at *;refine wnY @iy ?_;have g3:∀x,x<nx2→ap (ap (ap H2 nx2 [.int .i64 0,.int .i64 0]) nx2 (bK [.int .i64 0,.int .i64 0] 0 [.int .i64 w.color,.int .i64 w.label])) (nx2+1) [.int .i64 i] x=H2 x:=fun x hx=>by rw[ac (by omega),ac (by omega),ac (by omega)]
 have g4:ap (ap (ap H2 nx2 [.int .i64 0,.int .i64 0]) nx2 (bK [.int .i64 0,.int .i64 0] 0 [.int .i64 w.color,.int .i64 w.label])) (nx2+1) [.int .i64 i] (nx2+1)=some [.int .i64 i]:=af;generalize ap (ap (ap H2 nx2 [.int .i64 0,.int .i64 0]) nx2 (bK [.int .i64 0,.int .i64 0] 0 [.int .i64 w.color,.int .i64 w.label])) (nx2+1) [.int .i64 i]=H3 at *;have hmf:=D0 w ks;have hkl:(ks.map dD).length=ks.length:=bz ..;by_cases hw:w∈ks
 ·rw[if_pos hw] at hmf;obtain⟨m1,m2⟩:=xo hw;have hr:=k2.row (ks.idxOf w) m1;rw[m2] at hr;refine FC ev0 ((g3 nx (by omega)).trans k2.box) ev0 (EC w) hmf ?_;have g5:∀x,x<nx2→x≠nx→ap H3 nx [.omap (cH (dD w) (some (ks.idxOf w)) (ks.map dD)) (nk .esl (some (ks.idxOf w)) vs)] x=H2 x:=fun x hx hn=>by rw[ac hn,g3 x hx]
  have g6:ap H3 nx [.omap (cH (dD w) (some (ks.idxOf w)) (ks.map dD)) (nk .esl (some (ks.idxOf w)) vs)] nx=some [.omap (ks.map dD) vs]:=af;have g7:ap H3 nx [.omap (cH (dD w) (some (ks.idxOf w)) (ks.map dD)) (nk .esl (some (ks.idxOf w)) vs)] (nx2+1)=some [.int .i64 i]:=by rw[ac (by omega)];exact g4
  generalize ap H3 nx [.omap (cH (dD w) (some (ks.idxOf w)) (ks.map dD)) (nk .esl (some (ks.idxOf w)) vs)]=H4 at *;rw[show Cx .esl (some (ks.idxOf w)) vs=vs.getD (ks.idxOf w) .undef from rfl,show Am (some (ks.idxOf w)) (ks.map dD)=ks.idxOf w from rfl];refine wnY and_self ?_;refine nt (k:=1) (new:=[.int .i64 i]) rfl ev0 (hr.same fun B hB=>?_) ev0 (fH (n:=1) (len:=1) (off:=0) g7 rfl (by omega)) rfl rfl nM (by rw[bz];omega) (by rw[bz];omega) ?_
  ·have:=k2.bnd _ B m1 hB;exact g5 B this.2.1 this.2.2
  rintro s2 H5 nx5 hr5 i1 i2 i3 i4;refine wnY and_self ?_;refine El ev0 ((i3 nx (by omega) (fun h=>(k2.bnd _ nx m1 h).2.2 rfl)).trans g6) ev0 (by rw[hkl];exact m1) ev0 ?_;refine wnY and_self ?_;refine⟨(j+1,ks,vs.set (ks.idxOf w) s2),by dsimp only;omega,⟨by dsimp only;omega,IncOk.put k2 hw hG ?_ (fun B hB=>?_) af (fun x hx hx2 hxn hxr=>?_) (by omega) (by omega),fun y hy=>?_,by omega⟩,ag0⟩
  ·rw[dw]
   exact hr5.same fun B hB=>ac fun e=>by
    rcases i4 B hB with h|h
    ·exact(k2.bnd _ B m1 h).2.2 e
    ·omega
  ·rcases i4 B hB with h|h
   ·exact .inl h
   ·exact .inr (by omega)
  ·rw[ac hxn,i3 x (by omega) hxr,g5 x hx2 hxn]
  ·rw[ac (by omega),i3 y (by omega) (fun h=>by have:=k2.bnd _ y m1 h;omega),g5 y (by omega) (by omega)];exact k3 y hy
 ·rw[if_neg hw] at hmf;refine FC ev0 ((g3 nx (by omega)).trans k2.box) ev0 (EC w) hmf ?_;have g5:∀x,x<nx2→x≠nx→ap H3 nx [.omap (cH (dD w) none (ks.map dD)) (nk .esl none vs)] x=H2 x:=fun x hx hn=>by rw[ac hn,g3 x hx]
  have g6:ap H3 nx [.omap (cH (dD w) none (ks.map dD)) (nk .esl none vs)] nx=some [.omap (ks.map dD++[dD w]) (vs++[.esl])]:=af;have g7:ap H3 nx [.omap (cH (dD w) none (ks.map dD)) (nk .esl none vs)] (nx2+1)=some [.int .i64 i]:=by rw[ac (by omega)];exact g4
  generalize ap H3 nx [.omap (cH (dD w) none (ks.map dD)) (nk .esl none vs)]=H4 at *;rw[show Cx .esl none vs=.esl from rfl,show Am none (ks.map dD)=ks.length from hkl];refine wnY and_self ?_;refine nt (k:=1) (new:=[.int .i64 i]) (cs:=[]) rfl ev0 Row.nil ev0 (fH (n:=1) (len:=1) (off:=0) g7 rfl (by omega)) rfl rfl nM (by simp) (by simp) ?_;rintro s2 H5 nx5 hr5 i1 i2 i3 i4;have i4':∀B,bZ s2=some B→B=nx2+1+1∧nx5=nx2+1+1+1:=fun B hB=>(i4 B hB).elim (fun h=>by cases h) id;refine wnY and_self ?_;refine El (i:=ks.length) ev0 ((i3 nx (by omega) (fun h=>by cases h)).trans g6) ev0 (by rw[du,hkl];simp) ev0 ?_;have hset:(vs++[AV.esl]).set ks.length s2=vs++[s2]:=by rw[←k2.len];simp
  rw[hset];refine wnY and_self ?_;refine⟨(j+1,ks++[w],vs++[s2]),by dsimp only;omega,⟨by dsimp only;omega,IncOk.new k2 hw hG ?_ (fun B hB=>?_) (by rw[dw];exact af) (fun x hx hx2 hxn=>?_) (by omega) (by omega),fun y hy=>?_,by omega⟩,ag0⟩
  ·exact hr5.same fun B hB=>ac (by have:=i4' B hB;omega)
  ·have:=i4' B hB;omega
  ·rw[ac hxn,i3 x (by omega) (fun h=>by cases h),g5 x hx2 hxn]
  ·rw[ac (by omega),i3 y (by omega) (fun h=>by cases h),g5 y (by omega) (by omega)];exact k3 y hy
end Go.Proofs.YtekdaafnjdlenaaGreat
namespace Go.Proofs.YtekdaafnjdlenaaGreat
open Go Go.Abs
def dB(l:List Spx)(s:Spx):Bool:=l.any fun t=>decide (s.length<t.length)&&eX s t
def pY(c:List Spx)(k:Nat):Int:=if bT (c.getD k default)≠0 then bT (c.getD k default) else if 0<k∧0≤bH (c.getD (k-1) default) (c.getD k default) then 14 else 0
def aB(c:List Spx):Int:=if 4096<c.length then 5 else if dN (pY c) c.length≠0 then dN (pY c) c.length else if c.any (dB c)=true then 7 else 0
theorem fX{a b:Spx}:eX a b=true↔ ∀v∈a,v∈b:=by
 unfold eX;rw[eh];exact⟨fun h v hv=>oT (h v hv),fun h v hv=>a8 (h v hv)⟩
theorem oX{l:List Spx}{s:Spx}:dB l s=true↔ ∃t∈l,s.length<t.length∧∀v∈s,v∈t:=by
 unfold dB;rw[qv];constructor
 ·rintro⟨t,ht,h⟩;rw[dR,xm,fX] at h;exact⟨t,ht,h⟩
 ·rintro⟨t,ht,h⟩;exact⟨t,ht,by rw[dR,xm,fX];exact h⟩
theorem Ih{a b:Spx}(ha:bQ cl a)(hb:bQ cl b)(h:∀v∈a,v∈b)(hne:a≠b):a.length<b.length:=by
 have h1:a.length≤b.length:=yQ (ha.nodup A9) h;rcases uv a.length b.length with h2|h2
 ·exact h2
 ·exfalso;refine hne (ni A9 ha hb fun x=>⟨h x,fun hx=>Decidable.byContradiction fun hn=>?_⟩)
  have h3:(x::a).length≤b.length:=yQ (List.nodup_cons.2 ⟨hn,ha.nodup A9⟩) fun y hy=>by
   rcases cR.1 hy with rfl|hy
   ·exact hx
   ·exact h y hy
  rw[bO] at h3;omega
theorem A6{c:List Spx}(h:dN (pY c) c.length=0):(∀s∈c,bT s=0)∧bQ bH c:=by
 have hz:=gB h
 have h3:∀k,k<c.length→bT (c.getD k default)=0∧(0<k→bH (c.getD (k-1) default) (c.getD k default)<0):=fun k hk=>by
  have:=hz k hk;unfold pY at this;split at this
  ·exact absurd this ‹_›
  rename_i g1;split at this
  ·exact absurd this (by decide)
  rename_i g2;exact⟨uC g1,fun h0=>by omega⟩
 constructor
 ·intro s hs;obtain⟨i,hi,rfl⟩:=jV hs;have:=(h3 i hi).1
  rwa [show c.getD i default=c[i] by simp[List.getD,hi]] at this
 ·have step:∀j i,i<j→j<c.length→bH (c.getD i default) (c.getD j default)<0:=by
    intro j
    induction j with
    |zero=>intro i h;omega
    |succ j ih=>
     intro i hi hj;have hs:=(h3 (j+1) hj).2 (by omega);rw[qg] at hs;by_cases e:i=j
     ·subst e;exact hs
     ·exact ji.trans (ih i (by omega) (by omega)) hs
  unfold bQ;rw[jT];intro i j hi hj hij;have:=step j i hij hj;simpa[List.getD,hi,hj] using this
theorem d9{c:List Spx}(h:aB c=0):c.length≤4096∧(∀s∈c,bT s=0)∧bQ bH c∧∀s∈c,dB c s=false:=by
 unfold aB at h;split at h
 ·exact absurd h (by decide)
 split at h
 ·exact absurd h ‹_›
 split at h
 ·exact absurd h (by decide)
 rename_i h1 h2 h3;have:=A6 (uC h2);refine⟨by omega,this.1,this.2,fun s hs=>?_⟩;cases hc:dB c s
 ·rfl
 ·exact absurd (qv.2 ⟨s,hs,hc⟩) h3
theorem G6{l:List Spx}{s:Spx}{p:Spx→Bool}(h0:0<s.length)(hp:∀t,p t=true→s.getD 0 default∈t):((nj l l.length (s.getD 0 default)).map fun(n:Nat)=>(n:Int)).any (fun i=>p (l.getD i.toNat default))=l.any p:=by
 rw[Bool.eq_iff_iff,qv,qv];constructor
 ·rintro⟨x,hx,h⟩;obtain⟨n,hn,rfl⟩:=bE.1 hx;unfold nj at hn;obtain⟨h1,_⟩:=fG.1 hn;rw[cw] at h;exact⟨_,ay (eo.1 h1),h⟩
 ·rintro⟨t,ht,h⟩;obtain⟨i,hi,rfl⟩:=jV ht;have e:l.getD i default=l[i]:=by simp[List.getD,hi]
  refine⟨(i:Int),bE.2 ⟨i,fG.2 ⟨eo.2 hi,a8 ?_⟩,rfl⟩,?_⟩
  ·rw[e];exact hp _ h
  ·rw[cw,e];exact h
attribute [local irreducible] aH ai be aY aP aQ aD aR aZ bl Go.Abs.Fn aX Go.Abs.Pure aq aK Yl
theorem Da(l:List Int)(p:Int→Bool)(g:Nat)(caps:List AV)(hd:∀x∈caps,Dat x)(hg:∀x∈l,pU g (.int .i64 x::caps) (.bool (p x)))(hl:Shn l):pU 101 [aE l,.func g caps] (.int .i64 (if l.any p then(l.findIdx p:Nat) else-1)):=by
 refine pO KY ?_;simp only[Lb,aJ];have hl':l.length≤17592186044416:=hl;refine wnZ and_self ?_;refine b0 (X:=Nat) (fun k=>[(0,aE l),(1,.func g caps),(6,aE l),(7,.int .i64 l.length),(8,.int .i64 k)]) (fun k H nx=>k≤l.length∧∀i,i<k→p (l.getD i default)=false) (fun k=>l.length-k) 0 ⟨bR _,fun i h=>absurd h (by omega)⟩ ag0 ?_;rintro k H nx ⟨hk,hz⟩;by_cases hk2:k<l.length
 rotate_left
 ·rw[qE fun i hi=>hz i (by omega),if_neg (by decide)];refine wnY and_self ?_;exact ee rfl
 have hc:=hg _ (a5 hk2);cases hp:p (l.getD k default)
 ·rw[hp] at hc;refine wnY and_self ?_;refine ec ev0 ev0 hc (aM (ag (.int _ _) (bi hd))) ?_;refine wnY and_self ?_
  exact ⟨k + 1,by omega,⟨by omega,fun i hi=>by
   rcases jq.1 hi with h|rfl
   ·exact hz i h
   ·exact hp⟩,ag0⟩
 ·rw[hp] at hc;obtain⟨e1,e2⟩:=ya hk2 hz hp;rw[e1,e2,if_pos rfl];refine wnY and_self ?_;refine ec ev0 ev0 hc (aM (ag (.int _ _) (bi hd))) ?_;refine wnY and_self ?_;exact .int _ _
theorem pB(l:List Int)(p:Int→Bool)(g:Nat)(caps:List AV)(hd:∀x∈caps,Dat x)(hg:∀x∈l,pU g (.int .i64 x::caps) (.bool (p x)))(hl:Shn l):pU 48 [aE l,.func g caps] (.bool (l.any p)):=by
 refine pO Ns ?_;simp only[b48,aJ];have h:=Da l p g caps hd hg hl
 repeat' (first|refine zW ?_|apply a_n|refine zO ?_|refine vZ ?_|refine cZ ?_ (hp:=h) (hs:=by(first|refine aA ?_ rfl|apply aM);(repeat' (first|exact ak|apply bg|apply aN|exact cP _|exact Dat.func hd));first|done|fail)|refine bI rfl ?_|refine r1Z ?_|fail)
 cases hA:l.any p
 ·exact ci (by simp)
 ·exact ci (by simp)
def OkS(l:List Spx):Prop:=l.length≤100000∧∀s∈l,bQ cl s∧s.length≤1000
theorem AX(l:List Spx)(s:Spx)(i:Nat)(hl:OkS l)(hs:bQ cl s∧s.length≤1000)(hi:i<l.length):pU 157 [.int .i64 i,.iptr [an l] 0,.iptr [aC s] 0] (.bool (decide (s.length<(l.getD i default).length)&&eX s (l.getD i default))):=by
 refine pO LN ?_;simp only[LZ,aJ];have ix:=fj hi;obtain⟨t1,t2⟩:=hl.2 _ (ay hi);have hf:=Jj s (l.getD i default) hs.1 t1 (by omega) (by omega);generalize l.getD i default=t at *;by_cases h:s.length<t.length
 ·have z:decide ((s.length:Int)<t.length)=true:=a8 (by omega);rw[a8 h,Bool.true_and];refine wkZ (zI3 @au @ix @z) ?_;exact .bool _
 ·have z:decide ((s.length:Int)<t.length)=false:=bc (by omega);rw[bc h,Bool.false_and];refine wkZ (zI3 @au @ix @z) ?_;exact .bool _
theorem C7(l:List Spx)(s:Spx)(hl:OkS l)(hs:bQ cl s∧s.length≤1000)(h0:0<s.length):pU 131 [an l,aE ((nj l l.length (s.getD 0 default)).map fun(n:Nat)=>(n:Int)),aC s] (.bool (dB l s)):=by
 refine pO LU ?_;simp only[Ld,aJ];have hll:=hl.1
 have h:=pB ((nj l l.length (s.getD 0 default)).map fun (n:Nat)=>(n:Int)) (fun i=>decide (s.length < (l.getD i.toNat default).length) && eX s (l.getD i.toNat default)) 157 [.iptr [an l] 0,.iptr [aC s] 0] (DatL.cons (Dat.iptr (DatL.cons (bh _) DatL.nil)) (DatL.cons (Dat.iptr (DatL.cons (dA _) DatL.nil)) DatL.nil)) (fun x hx=>by
  obtain⟨n,hn,rfl⟩:=bE.1 hx;have hn2:n<l.length:=eo.1 (fG.1 hn).1;rw[cw];exact AX l s n hl hs hn2) (by rw[Shn,bz];have:=xJ (l:=l) (i:=l.length) (v:=s.getD 0 default);omega)
 rw [G6 (p:=fun t=>decide (s.length < t.length) && eX s t) h0 (fun t ht=>by
  rw[dR,fX] at ht;exact ht.2 _ (ay h0))] at h
 refine wnZ (zI4 @aj @ae @bf @aU) ?_;refine ec (have zz:=aI @aj (aI @ae (aI @bf @aU));evZ) (have zz:=aI @aj (aI @ae (aI @bf @aU));evZ) h (aA (ag (cP _ _) (ag (vH (ag (yv rfl rfl (ag (bh _ _) ak)) (ag (yv rfl rfl (ag (dA _ _) ak)) ak))) ak)) rfl) ?_;refine wnZ and_self ?_;exact .bool _
end Go.Proofs.YtekdaafnjdlenaaGreat
namespace Go.Proofs.YtekdaafnjdlenaaGreat
open Go Go.Abs
theorem E6{H:Hp}{sv:AV}{F:List Nat}(h:Row H 1 sv (F.map An)):Snap H sv (aE (F.map fun(n:Nat)=>(n:Int))):=by
 refine Row.snapI ?_;rw[List.map_map];exact h
theorem ua{c:List Spx}{k:Nat}:pY c k=if bT (c.getD k default)≠0 then bT (c.getD k default) else if 0<k∧0≤bH (c.getD (k-1) default) (c.getD k default) then 14 else 0:=rfl
theorem Fm {c:List Spx} (h1:c.length ≤ 4096) (h:∀ s ∈ c,bT s=0):OkS c:=⟨by omega,fun s hs=>by
 obtain⟨a1,a2,a3,a4⟩:=cu (h s hs);exact⟨a3,by omega⟩⟩
theorem oh{H:Hp}{b:Nat}{cs:List AV}(h:H b=some cs):Sub (only b cs) H:=fun x c hx=>by
 unfold only at hx;split at hx
 ·rename_i e;rw[e,h];exact hx
 ·cases hx
def on2(b1:Nat)(c1:List AV)(b2:Nat)(c2:List AV):Hp:=fun x=>if x=b1 then some c1 else if x=b2 then some c2 else none
theorem Kq{b1 b2:Nat}{c1 c2:List AV}:on2 b1 c1 b2 c2 b1=some c1:=if_pos rfl
theorem KD{b1 b2:Nat}{c1 c2:List AV}(h:b2≠b1):on2 b1 c1 b2 c2 b2=some c2:=by unfold on2;rw[if_neg h,if_pos rfl]
theorem Bn{b1 b2:Nat}{c1 c2:List AV}{H:Hp}(h1:H b1=some c1)(h2:H b2=some c2):Sub (on2 b1 c1 b2 c2) H:=fun x cs h=>by
 unfold on2 at h;split at h
 ·rename_i e;rw[e,h1];exact h
 ·split at h
  ·rename_i e;rw[e,h2];exact h
  ·cases h
theorem pP{P:Program}{T:Tm}{H:Hp}{nx:Nat}(b1 b2:Nat){c1 c2:List AV}{K:CP}{m:Nat}{l:List Op2}{C:List (Nat×Nat)}(h1:H b1=some c1)(h2:H b2=some c2)(hne:b2≠b1)(k:∀S:Hp,S b1=some c1→S b2=some c2→(∀H':Hp,H' b1=some c1→H' b2=some c2→Sub S H')→a7 P S (C.map fun k=>(l.getD k.1 ⟨none,none,.dead⟩,k.2)) T H nx fun T H nx=>K .normal T H nx):aH P (.mixS m l C) T H nx K:=
 AD (on2 b1 c1 b2 c2) rfl (Bn h1 h2) (k _ Kq (KD hne) fun _ a b=>Bn a b)
theorem w_mix1{P:Program}{T:Tm}{H:Hp}{nx:Nat}(b:Nat){c:List AV}{K:CP}{m:Nat}{l:List Op2}{C:List (Nat×Nat)}(h:H b=some c)(k:∀S:Hp,S b=some c→(∀H':Hp,H' b=some c→Sub S H')→a7 P S (C.map fun k=>(l.getD k.1 ⟨none,none,.dead⟩,k.2)) T H nx fun T H nx=>K .normal T H nx):aH P (.mixS m l C) T H nx K:=
 AD (only b c) rfl (oh h) (k _ nf fun _ h=>oh h)
attribute [local irreducible] aH ai be aY aP aQ aD aR aZ bl Go.Abs.Fn aX Go.Abs.Pure aq aK Yl
set_option maxHeartbeats 2000000 in
theorem jk(c:List Spx)(hc:Shn c)(hs:∀s∈c,Shn s):pU 78 [b9 c] (.int .i64 (aB c)):=by
 refine pO Ng ?_;simp only[b78,aJ];have hc':c.length≤17592186044416:=hc;by_cases h0:4096<c.length
 ·rw[show aB c=5 by unfold aB;rw[if_pos h0]];refine wnZ (zI3 @ah @aj @ae) ?_
  all_goals exact ee rfl
 rw[show aB c=if dN (pY c) c.length≠0 then dN (pY c) c.length else if c.any (dB c)=true then 7 else 0 by unfold aB;rw[if_neg h0]];refine dH ?_;have zz:=aI @ah (aI @aj @ae);repeat' (first|apply a_n|refine zO ?_|refine vZ ?_|refine bxZ ?_|fail)
 refine dH (dH ?_);clear zz;have zz:=aI @ah (aI @aj @ae);repeat' (first|apply a_n|refine zO ?_|refine vZ ?_|(refine zGZ ?_ ?_<;>(intro _hg;try (exfalso;omega)))|fail)
 by_cases hz:dN (pY c) c.length≠0
 ·rw[if_pos hz];refine wnZ (zI3 @ah @aj @ae) ?_;refine lpI (X:=Nat) (fun k=>[(1,.ptr 0 1 0),(14,an c),(15,.int .i64 c.length),(16,.int .i64 k)]) (fun k H nx=>k≤c.length∧H 0=some [an c]∧∀i,i<k→pY c i=0) (fun k=>c.length-k) 0 ⟨bR _,rfl,fun i h=>absurd h (by omega)⟩ ?_;rintro k H nx ⟨h1,g0,h2⟩;by_cases hk:k<c.length
  rotate_left
  ·exact absurd (dt fun i hi=>h2 i (by omega)) hz
  have ix:=fj hk;have hs1:=hs _ (ay hk);have hp:=pA (c.getD k default) hs1;have hsp:=ua (c:=c) (k:=k);by_cases he:bT (c.getD k default)≠0
  ·rw[if_pos he] at hsp;rw[di hk h2 (by rw[hsp];exact he),hsp];have z:decide (bT (c.getD k default)≠0)=true:=a8 he;refine wnY (zI3 @ah @ix @z) ?_;exact .int _ _
  rw[if_neg he] at hsp;have he:=uC he;rw[he] at hp;have z:decide ((0:Int)≠0)=false:=rfl;by_cases hk0:0<k
  rotate_left
  ·rw[if_neg (fun h=>hk0 h.1)] at hsp;have zk:decide (0<(k:Int))=false:=bc (by omega);refine wnY (zI4 @ah @ix @z @zk) ?_
   exact ⟨k + 1,by omega,⟨by omega,g0,fun i hi=>by
    rcases jq.1 hi with h'|rfl
    ·exact h2 i h'
    ·exact hsp⟩,ag0⟩
  have zk:decide (0<(k:Int))=true:=a8 (by omega)
  have iy:ey 1 (an c) (.int .i64 ((k:Int)-1))=some (.iptr [aC (c.getD (k-1) default)] 0):=by
   have:=fj (l:=c) (k:=k-1) (by omega)
   rwa [show((k-1:Nat):Int)=(k:Int)-1 by omega] at this
  have hcm:=gI (c.getD (k-1) default) (c.getD k default) (hs _ (ay (by omega))) hs1;by_cases hv:0≤bH (c.getD (k-1) default) (c.getD k default)
  ·have z2:decide (0≤bH (c.getD (k-1) default) (c.getD k default))=true:=a8 hv;rw[if_pos ⟨hk0,hv⟩] at hsp;rw[di hk h2 (by rw[hsp];decide),hsp];refine wnY (zI7 @ah @ix @iy @z @zk @z2 @g0) ?_;exact .int _ _
  ·have z2:decide (0≤bH (c.getD (k-1) default) (c.getD k default))=false:=bc hv;rw[if_neg (fun h=>hv h.2)] at hsp;refine wnY (zI7 @ah @ix @iy @z @zk @z2 @g0) ?_
   exact ⟨k + 1,by omega,⟨by omega,g0,fun i hi=>by
    rcases jq.1 hi with h'|rfl
    ·exact h2 i h'
    ·exact hsp⟩,ag0⟩
 have hz:=uC hz;rw[if_neg (fun h=>h hz)];obtain⟨a1,a2⟩:=A6 hz;have hall:=gB hz;have hok:=Fm (by omega) a1;refine co (fun T H nx=>T 1=.ptr 0 1 0∧H 0=some [an c]∧1≤nx) ?_ ?_
 ·refine wnZ (zI3 @ah @aj @ae) ?_;refine lpI (X:=Nat) (fun k=>[(1,.ptr 0 1 0),(14,an c),(15,.int .i64 c.length),(16,.int .i64 k)]) (fun k H nx=>k≤c.length∧H 0=some [an c]∧1≤nx) (fun k=>c.length-k) 0 ⟨bR _,rfl,by omega⟩ ?_;rintro k H nx ⟨h1,g0,hnx⟩;by_cases hk:k<c.length
  rotate_left
  ·refine wnY and_self ?_;exact⟨rfl,g0,hnx⟩
  have ix:=fj hk;have hs1:=hs _ (ay hk);have hp:=pA (c.getD k default) hs1;rw[a1 _ (ay hk)] at hp;have z:decide ((0:Int)≠0)=false:=rfl;by_cases hk0:0<k
  rotate_left
  ·have zk:decide (0<(k:Int))=false:=bc (by omega);refine wnY (zI4 @ah @ix @z @zk) ?_;exact⟨k+1,by omega,⟨by omega,g0,hnx⟩,ag0⟩
  have zk:decide (0<(k:Int))=true:=a8 (by omega)
  have iy:ey 1 (an c) (.int .i64 ((k:Int)-1))=some (.iptr [aC (c.getD (k-1) default)] 0):=by
   have:=fj (l:=c) (k:=k-1) (by omega)
   rwa [show((k-1:Nat):Int)=(k:Int)-1 by omega] at this
  have hcm:=gI (c.getD (k-1) default) (c.getD k default) (hs _ (ay (by omega))) hs1;have z2:decide (0≤bH (c.getD (k-1) default) (c.getD k default))=false:=bc (by have:=dQ a2 (i:=k-1) (j:=k) (by omega) hk;omega);refine wnY (zI7 @ah @ix @iy @z @zk @z2 @g0) ?_;exact⟨k+1,by omega,⟨by omega,g0,hnx⟩,ag0⟩
 rintro T H nx ⟨t1,g0,hnx⟩;refine wnY (aI @t1 @g0) ?_;refine ba ev0 (have zz:=@t1;evZ) (zC c hok.1 (fun s hs=>⟨(hok.2 s hs).1,by have:=(hok.2 s hs).2;omega⟩) _ _) ?_;rintro _ H1 nx1 ⟨ks,vs,rfl,hinc,hsame,hlt⟩;have g0':H1 0=some [an c]:=(hsame 0 (by omega)).trans g0;refine wnY (zI3 @t1 @g0' @ah) ?_;refine b0 (X:=Nat) (fun k=>[(1,.ptr 0 1 0),(6,.mp nx),(44,an c),(45,.int .i64 c.length),(46,.int .i64 k)]) (fun k H' nx'=>k≤c.length∧H'=H1∧nx'=nx1∧∀i,i<k→dB c (c.getD i default)=false) (fun k=>c.length-k) 0 ⟨bR _,rfl,rfl,fun i h=>absurd h (by omega)⟩ (have zz:=@t1;agZ) ?_;rintro k H' nx' ⟨h1,rfl,rfl,h2⟩;by_cases hk:k<c.length
 rotate_left
 ·rw[qE fun i hi=>h2 i (by omega),if_neg (by decide)];refine wnY and_self ?_;exact .int _ _
 have ix:=fj hk;obtain⟨p1,p2,p3,p4⟩:=cu (a1 _ (ay hk));have hcv:=C7 c (c.getD k default) hok (hok.2 _ (ay hk)) (by omega);have iy:=ix2 (l:=c.getD k default) (k:=0) (by omega);rw[show((0:Nat):Int)=0 from rfl] at iy
 have hks:(c.getD k default).getD 0 default∈ks:=(hinc.dom _).2 fun e=>by
  have:k∈nj c c.length ((c.getD k default).getD 0 default):=fG.2 ⟨eo.2 hk,a8 (ay (by omega))⟩;rw[e] at this;cases this
 have hmf:=D0 ((c.getD k default).getD 0 default) ks;rw[if_pos hks] at hmf;obtain⟨m1,m2⟩:=xo hks;have hr:=hinc.row _ m1;rw[m2] at hr;have hcb:dB c (c.getD k default)=true→c.any (dB c)=true:=fun h=>qv.2 ⟨_,ay hk,h⟩;generalize hsk:c.getD k default=s at *;refine wnY @ix ?_;refine w_mix1 0 g0' fun S hS0 hsub'=>?_;have hsub:=hsub' H' g0';refine wnY (aI @hS0 @iy) ?_;refine eb ?_;refine ja ev0 hinc.box ev0 (EC _) hmf ?_;refine jY ⟨hsub,?_⟩;rw[show mget .esl false (some (ks.idxOf (s.getD 0 default))) vs=vs.getD (ks.idxOf (s.getD 0 default)) .undef from rfl];refine jM ?_;cases hb:dB c s
 ·rw[hb] at hcv;refine ec ev0 ev0 hcv (aA (ag (bh _ _) (ag (E6 hr) (ag (dA _ _) ak))) rfl) ?_;refine wnY and_self ?_
  exact ⟨k + 1,by omega,⟨by omega,rfl,rfl,fun i hi=>by
   rcases jq.1 hi with h'|rfl
   ·exact h2 i h'
   ·rw[hsk];exact hb⟩,ag0⟩
 ·rw[hb] at hcv;rw[hcb hb,if_pos rfl];refine ec ev0 ev0 hcv (aA (ag (bh _ _) (ag (E6 hr) (ag (dA _ _) ak))) rfl) ?_;refine wnY and_self ?_;exact .int _ _
end Go.Proofs.YtekdaafnjdlenaaGreat
namespace Go.Proofs.YtekdaafnjdlenaaGreat
open Go Go.Abs
theorem DG{c:List Spx}(h1:∀s∈c,bQ cl s)(h2:bQ bH c){i k:Nat}(hi:i<c.length)(hk:k<c.length)(hik:i≠k)(h:eX (c.getD i default) (c.getD k default)=true):dB c (c.getD i default)=true:=by
 refine oX.2 ⟨_,ay hk,Ih (h1 _ (ay hi)) (h1 _ (ay hk)) (fX.1 h) fun e=>?_,fX.1 h⟩;rcases rz i k with q|q|q
 ·have:=dQ h2 q hk;rw[e] at this;exact ji.ord.irr _ this
 ·exact hik q
 ·have:=dQ h2 q hi;rw[e] at this;exact ji.ord.irr _ this
theorem Fv{c:List Spx}{i:Nat}(h:dB c (c.getD i default)=true):∃k,k<c.length∧i≠k∧eX (c.getD i default) (c.getD k default)=true:=by
 obtain⟨t,ht,h1,h2⟩:=oX.1 h;obtain⟨k,hk,rfl⟩:=jV ht;have e:c.getD k default=c[k]:=by simp[List.getD,hk]
 refine⟨k,hk,fun hik=>?_,by rw[e];exact fX.2 h2⟩;subst hik;rw[e] at h1;omega
attribute [local irreducible] aH ai be aY aP aQ aD aR aZ bl Go.Abs.Fn aX Go.Abs.Pure aq aK Yl
set_option maxHeartbeats 2000000 in
theorem GG(c:List Spx)(hc:Shn c)(hs:∀s∈c,Shn s):pU 28 [b9 c] (.int .i64 (aB c)):=by
 refine pO Mp ?_;simp only[b28,aJ];have hc':c.length≤17592186044416:=hc;by_cases h0:4096<c.length
 ·rw[show aB c=5 by unfold aB;rw[if_pos h0]];refine wnZ (zI3 @ah @aj @ae) ?_
  all_goals exact ee rfl
 rw[show aB c=if dN (pY c) c.length≠0 then dN (pY c) c.length else if c.any (dB c)=true then 7 else 0 by unfold aB;rw[if_neg h0]];refine dH ?_;have zz:=aI @ah (aI @aj @ae);repeat' (first|apply a_n|refine zO ?_|refine vZ ?_|refine bxZ ?_|fail)
 refine dH ?_;clear zz;have zz:=aI @ah (aI @aj @ae);repeat' (first|apply a_n|refine zO ?_|refine vZ ?_|fail)
 refine dH (dH ?_);clear zz;have zz:=aI @ah (aI @aj @ae);repeat' (first|apply a_n|refine zO ?_|refine vZ ?_|(refine zGZ ?_ ?_<;>(intro _hg;try (exfalso;omega)))|fail)
 by_cases hz:dN (pY c) c.length≠0
 ·rw[if_pos hz];refine wnZ (zI3 @ah @aj @ae) ?_;refine b0 (X:=Nat) (fun k=>[(3,an c),(4,.int .i64 k)]) (fun k H nx=>k≤c.length∧∀i,i<k→pY c i=0) (fun k=>c.length-k) 0 ⟨bR _,fun i h=>absurd h (by omega)⟩ ag0 ?_;rintro k H nx ⟨h1,h2⟩;by_cases hk:k<c.length
  rotate_left
  ·exact absurd (dt fun i hi=>h2 i (by omega)) hz
  have ix:=fj hk;have hs1:=hs _ (ay hk);have hp:=Bg (c.getD k default) hs1;have hsp:=ua (c:=c) (k:=k);by_cases he:bT (c.getD k default)≠0
  ·rw[if_pos he] at hsp;rw[di hk h2 (by rw[hsp];exact he),hsp];have z:decide (bT (c.getD k default)≠0)=true:=a8 he;refine wnY (zI3 @ah @ix @z) ?_;exact .int _ _
  rw[if_neg he] at hsp;have he:=uC he;rw[he] at hp;have z:decide ((0:Int)≠0)=false:=rfl;by_cases hk0:0<k
  rotate_left
  ·rw[if_neg (fun h=>hk0 h.1)] at hsp;have zk:decide (0<(k:Int))=false:=bc (by omega);refine wkY (zI4 @ah @ix @z @zk) ?_
   exact ⟨k + 1,by omega,⟨by omega,fun i hi=>by
    rcases jq.1 hi with h'|rfl
    ·exact h2 i h'
    ·exact hsp⟩,ag0⟩
  have zk:decide (0<(k:Int))=true:=a8 (by omega)
  have iy:ey 1 (an c) (.int .i64 ((k:Int)-1))=some (.iptr [aC (c.getD (k-1) default)] 0):=by
   have:=fj (l:=c) (k:=k-1) (by omega)
   rwa [show((k-1:Nat):Int)=(k:Int)-1 by omega] at this
  have hcm:=n9 (c.getD (k-1) default) (c.getD k default) (hs _ (ay (by omega))) hs1;by_cases hv:0≤bH (c.getD (k-1) default) (c.getD k default)
  ·have z2:decide (0≤bH (c.getD (k-1) default) (c.getD k default))=true:=a8 hv;rw[if_pos ⟨hk0,hv⟩] at hsp;rw[di hk h2 (by rw[hsp];decide),hsp];refine wkY (zI6 @ah @ix @iy @z @zk @z2) ?_;exact .int _ _
  ·have z2:decide (0≤bH (c.getD (k-1) default) (c.getD k default))=false:=bc hv;rw[if_neg (fun h=>hv h.2)] at hsp;refine wkY (zI6 @ah @ix @iy @z @zk @z2) ?_
   exact ⟨k + 1,by omega,⟨by omega,fun i hi=>by
    rcases jq.1 hi with h'|rfl
    ·exact h2 i h'
    ·exact hsp⟩,ag0⟩
 have hz:=uC hz;rw[if_neg (fun h=>h hz)];obtain⟨a1,a2⟩:=A6 hz;have hok:=Fm (by omega) a1;refine co (fun T H nx=>T 3=an c) ?_ ?_
 ·refine wnZ (zI3 @ah @aj @ae) ?_;refine b0 (X:=Nat) (fun k=>[(3,an c),(4,.int .i64 k)]) (fun k H nx=>k≤c.length) (fun k=>c.length-k) 0 (bR _) ag0 ?_;rintro k H nx h1;by_cases hk:k<c.length
  rotate_left
  ·refine wnY @ah ?_;exact rfl
  have ix:=fj hk;have hs1:=hs _ (ay hk);have hp:=Bg (c.getD k default) hs1;rw[a1 _ (ay hk)] at hp;have z:decide ((0:Int)≠0)=false:=rfl;by_cases hk0:0<k
  rotate_left
  ·have zk:decide (0<(k:Int))=false:=bc (by omega);refine wkY (zI4 @ah @ix @z @zk) ?_;exact⟨k+1,by omega,by omega,ag0⟩
  have zk:decide (0<(k:Int))=true:=a8 (by omega)
  have iy:ey 1 (an c) (.int .i64 ((k:Int)-1))=some (.iptr [aC (c.getD (k-1) default)] 0):=by
   have:=fj (l:=c) (k:=k-1) (by omega)
   rwa [show((k-1:Nat):Int)=(k:Int)-1 by omega] at this
  have hcm:=n9 (c.getD (k-1) default) (c.getD k default) (hs _ (ay (by omega))) hs1;have z2:decide (0≤bH (c.getD (k-1) default) (c.getD k default))=false:=bc (by have:=dQ a2 (i:=k-1) (j:=k) (by omega) hk;omega);refine wkY (zI6 @ah @ix @iy @z @zk @z2) ?_;exact⟨k+1,by omega,by omega,ag0⟩
 rintro T H nx t3;refine wnY @t3 ?_;refine b0 (X:=Nat) (fun k=>[(3,an c),(6,.int .i64 k)]) (fun k H' nx'=>k≤c.length∧∀i,i<k→dB c (c.getD i default)=false) (fun k=>c.length-k) 0 ⟨bR _,fun i h=>absurd h (by omega)⟩ (have zz:=@t3;agZ) ?_;clear zz;clear t3;rintro i H1 nx1 ⟨h1,h2⟩;by_cases hi:i<c.length
 rotate_left
 ·rw[qE fun i hi=>h2 i (by omega),if_neg (by decide)];refine wnY @ah ?_;exact .int _ _
 refine wnY @ah ?_;refine b0 (X:=Nat) (fun k=>[(3,an c),(6,.int .i64 i),(7,.int .i64 k)]) (fun k H' nx'=>k≤c.length∧∀j,j<k→i≠j→eX (c.getD i default) (c.getD j default)=false) (fun k=>c.length-k) 0 ⟨bR _,fun i h=>absurd h (by omega)⟩ ag0 ?_;rintro k H2 nx2 ⟨k1,k2⟩;by_cases hk:k<c.length
 rotate_left
 ·refine wnY @ah ?_;refine⟨i+1,by omega,⟨by omega,fun j hj=>?_⟩,ag0⟩;rcases jq.1 hj with h'|rfl
  ·exact h2 j h'
  ·cases hb:dB c (c.getD j default)
   ·rfl
   ·obtain⟨q,q1,q2,q3⟩:=Fv hb;rw[k2 q (by omega) q2] at q3;cases q3
 have ix:=fj hi;have iy:=fj hk;by_cases hik:i=k
 ·have z:decide ((i:Int)≠(k:Int))=false:=bc (by omega);refine wkY (aI @ah @z) ?_;exact⟨k+1,by omega,⟨by omega,fun j hj hij=>k2 j (by omega) hij⟩,ag0⟩
 have z:decide ((i:Int)≠(k:Int))=true:=a8 (by omega);have hin:=DU (c.getD i default) (c.getD k default) (hs _ (ay hi)) (hs _ (ay hk));have ht:=DG (fun s hs=>(hok.2 s hs).1) a2 hi hk hik;cases hb:eX (c.getD i default) (c.getD k default)
 ·rw[hb] at hin;refine wkY (zI4 @ah @ix @iy @z) ?_
  exact ⟨k + 1,by omega,⟨by omega,fun j hj hij=>by
   rcases jq.1 hj with h'|rfl
   ·exact k2 j h' hij
   ·exact hb⟩,ag0⟩
 ·rw[hb] at hin;rw[if_pos (qv.2 ⟨_,ay hi,ht hb⟩)];refine wkY (zI4 @ah @ix @iy @z) ?_;exact .int _ _
end Go.Proofs.YtekdaafnjdlenaaGreat
namespace Go.Proofs.YtekdaafnjdlenaaGreat
open Go Go.Abs
structure MapV where
 fr:Spx
 to:Spx
 deriving Inhabited,DecidableEq
abbrev LK(m:MapV):AV:=.agg [aC m.fr,aC m.to]
theorem E5(m:MapV):Dat (LK m):=Dat.agg (DatL.cons (dA _) (DatL.cons (dA _) DatL.nil))
instance datI_encM{m:MapV}:DatI (LK m):=⟨E5 m⟩
attribute [local irreducible] aH ai be aY aP aQ aD aR aZ bl Go.Abs.Fn aX Go.Abs.Pure aq aK Yl
theorem E7{H:Hp}{a b:Bool}{e f:Int}(h1:a=b)(h2:e=f):Snap H (.tup [.bool a,.int .i64 e]) (.tup [.bool b,.int .i64 f]):=by
 subst h1 h2;exact bM (ag (.bool _) (ag (.int _ _) ak))
end Go.Proofs.YtekdaafnjdlenaaGreat
namespace Go.Proofs.YtekdaafnjdlenaaGreat
open Go Go.Abs
theorem Aw{c:List Spx}:kG c=true↔c.length≤30∧∀s∈c,s.length≤10:=by
 unfold kG;rw[dR,xm,eh];simp only[xm]
attribute [local irreducible] aH ai be aY aP aQ aD aR aZ bl Go.Abs.Fn aX Go.Abs.Pure aq aK Yl
end Go.Proofs.YtekdaafnjdlenaaGreat
namespace Go.Proofs.YtekdaafnjdlenaaGreat
open Go Go.Abs
def cE:Spx→Nat→List Spx
 |_,0=>[[]]
 |[],_+1=>[]
 |x::l,k+1=>(cE l k).map (x:: ·)++cE l (k+1)
theorem nX{l:Spx}:cE l 0=[[]]:=by cases l<;>rfl
theorem tx{k:Nat}:cE [] (k+1)=[]:=rfl
theorem gQ{x:Vtx}{l:Spx}{k:Nat}:cE (x::l) (k+1)=(cE l k).map (x:: ·)++cE l (k+1):=rfl
theorem eH:∀{l:Spx}{k:Nat}{s:Spx},s∈cE l k↔s.Sublist l∧s.length=k
 |l,0,s=>by
  rw[nX,cV];exact⟨fun h=>by subst h;exact⟨List.nil_sublist _,rfl⟩,fun h=>fk.1 h.2⟩
 |[],k+1,s=>by
  rw[tx];refine⟨fun h=>(by cases h),fun⟨h1,h2⟩=>?_⟩;rw[List.sublist_nil] at h1;subst h1;simp at h2
 |x::l,k+1,s=>by
  rw[gQ,eU,bE,eH];constructor
  ·rintro(⟨t,ht,rfl⟩|⟨h1,h2⟩)
   ·have:=eH.1 ht;exact⟨this.1.cons_cons x,by simp[this.2]⟩
   ·exact⟨h1.cons x,h2⟩
  ·rintro⟨h1,h2⟩;cases h1 with
   |cons _ h=>exact .inr ⟨h,h2⟩
   |cons_cons _ h=>exact .inl ⟨_,eH.2 ⟨h,by simpa using h2⟩,rfl⟩
theorem tM{l:Spx}{k:Nat}(h:l.length<k):cE l k=[]:=by
 cases e:cE l k with
 |nil=>rfl
 |cons a r=>
  have:=eH.1 (show a∈cE l k by rw[e];exact cJ);have:=this.1.length_le;omega
def chK:Nat→Nat→Nat
 |_,0=>1
 |0,_+1=>0
 |n+1,k+1=>chK n k+chK n (k+1)
theorem Ko{n:Nat}:chK n 0=1:=by cases n<;>rfl
theorem uk:∀{l:Spx}{k:Nat},(cE l k).length=chK l.length k
 |l,0=>by rw[nX,Ko];rfl
 |[],k+1=>rfl
 |x::l,k+1=>by
  rw[gQ,du,bz,uk,uk];rfl
theorem IE{n k:Nat}(hn:n≤8):chK n k≤70:=by
 by_cases hk:k≤8
 ·have:∀n,n<9→∀k,k<9→chK n k≤70:=by decide
  exact this n (by omega) k (by omega)
 ·have:∀n k,n<k→chK n k=0:=by
    intro n
    induction n with
    |zero=>intro k h;match k,h with|k+1,_=>rfl
    |succ n ih=>intro k h;match k,h with|k+1,h=>show chK n k+chK n (k+1)=0;rw[ih k (by omega),ih (k+1) (by omega)]
  rw[this n k (by omega)];omega
theorem wC{l:Spx}{k:Nat}(h:l.length≤8):(cE l k).length≤70:=by rw[uk];exact IE h
theorem Cm{l:Spx}{i k:Nat}(hi:i<l.length):cE (l.drop i) (k+1)=(cE (l.drop (i+1)) k).map (l.getD i default:: ·)++cE (l.drop (i+1)) (k+1):=by
 rw[List.drop_eq_getElem_cons hi,gQ];simp[List.getD,hi]
theorem uZ{v w:Vtx}{l m:Spx}:bH (v::l) (w::m)=if cl v w≠0 then cl v w else bH l m:=rfl
theorem Cv{v:Vtx}{l m:Spx}:bH (v::l) (v::m)=bH l m:=by
 rw[uZ,if_neg (fun h=>h (iZ.2 rfl))]
theorem mc:∀{l:Spx}{k:Nat},bQ cl l→bQ bH (cE l k)
 |l,0,_=>by rw[nX];exact List.pairwise_singleton _ _
 |[],k+1,_=>pr
 |x::l,k+1,h=>by
  have h':=hU.1 h;rw[gQ];unfold bQ;rw[List.pairwise_append];refine⟨?_,mc h'.2,?_⟩
  ·rw[List.pairwise_map];exact uH (fun{a b} hab=>by rw[Cv];exact hab) (mc (k:=k) h'.2)
  ·intro a ha b hb;obtain⟨t,_,rfl⟩:=bE.1 ha;have hb':=eH.1 hb;cases b with
   |nil=>simp at hb'
   |cons y r=>
    have hy:y∈l:=hb'.1.subset cJ;have:=h'.1 y hy;rw[uZ,if_pos (by omega)];exact this
end Go.Proofs.YtekdaafnjdlenaaGreat
namespace Go.Proofs.YtekdaafnjdlenaaGreat
open Go Go.Abs
open Nat (reduceEqDiff reduceAdd reduceLeDiff)
attribute [local irreducible] aH ai be aY aP aQ aD aR aZ bl Go.Abs.Fn aX Go.Abs.Pure aq aK Yl
theorem Ek(s:AV)(l:Spx)(hl:l.length≤1000000)(h0:l≠[])(H:Hp)(nx:Nat)(hn:fA s=some l.length)(hs:∀H',(∀x,x<nx→H' x=H x)→er 2 H' s=some (l.length,cX l)):Abs.Fn Tryz.prog 136 [s] H nx fun r H' nx'=>r=.msl nx (l.length*2) 2 0 l.length∧H'=ap H nx (cX l)∧nx'=nx+1:=by
 have hpos:=gK.2 h0;refine fO HR ?_;simp only[Jd,aJ];refine wnY and_self ?_;refine wx (k:=l.length) (by((try simp only[b5,ZA,reduceEqDiff,↓reduceIte,reduceAdd,reduceLeDiff]);(try with_reducible rfl));exact hn) (fun h=>?_) (fun h=>by omega) (fun h=>by omega);refine wnY and_self ?_;refine lZ rfl ev0 ev0 (hs _ fun x _=>rfl) (mL _) (by omega) (by omega) ?_;refine wnY and_self ?_;exact⟨rfl,rfl,rfl⟩
theorem Jy{y lo kb sb k N:Nat}{s:Spx}(hs:s.length≤1000)(hk:k≤1000)(I:List Spx→Hp→Nat→Prop)
    (hp:∀S H nx,I S H nx→H kb=some [.int .i64 k]∧H sb=some [aC s]∧lo+3≤nx∧kb<lo∧sb<lo)
    (stab:∀S H H' nx nx',I S H nx→nx≤nx'→(∀i,i<nx→¬(lo≤i∧i<lo+3)→H' i=H i)→I S H' nx')
    (rnd:∀S f H nx,I S H nx→f.length=k→f≠[]→S.length<N→Yl Tryz.prog y [.msl nx (k*2) 2 0 k] (ap H nx (cX f)) (nx+1) fun r H' nx'=>r=.bool true∧I (S++[f]) H' nx'∧nx≤nx'∧∀i,lo≤i→i<lo+3→H' i=H i):
    ∀(j:Nat)(ch:Spx)(at_:Nat)(S:List Spx)(H:Hp)(nx:Nat),0<k→ch.length+j=k→S.length+(cE (s.drop at_) j).length≤N→at_≤s.length→I S H nx→H lo=some [.yld y]→H (lo+1)=some [.func 178 [.ptr kb 1 0,.ptr lo 1 0,.ptr sb 1 0,.ptr (lo+1) 1 0]]→(∃C,H (lo+2)=some C∧C.length=k*2∧C.take (ch.length*2)=cX ch)→
     Abs.Fn Tryz.prog 178 [.int .i64 at_,.msl (lo+2) (k*2) 2 0 ch.length,.ptr kb 1 0,.ptr lo 1 0,.ptr sb 1 0,.ptr (lo+1) 1 0] H nx fun r H' nx'=>r=.bool true∧I (S++(cE (s.drop at_) j).map (ch++ ·)) H' nx'∧nx≤nx'∧H' lo=H lo∧H' (lo+1)=H (lo+1)∧∃C,H' (lo+2)=some C∧C.length=k*2∧C.take (ch.length*2)=cX ch:=by
 intro j
 induction j with
 |zero=>
  intro ch at_ S H nx hk0 hj hN hat hI h1 h2 ⟨C,h3,hc1,hc2⟩;obtain⟨g1,g2,g3,g4,g5⟩:=hp _ _ _ hI;have hlen:ch.length=k:=by omega
  have hne:ch≠[]:=fun e=>by rw[e] at hlen;simp at hlen;omega
  obtain rfl:C=cX ch:=by rw[←hc2,gz (by omega)]
  refine fO HC ?_;simp only[Jw,aJ];have hcl:=Ek (.msl (lo+2) (k*2) 2 0 k) ch (by omega) hne H nx (by rw[hlen];rfl) (fun H' hH'=>by rw[hlen];exact(fH (n:=k*2) (off:=0) (len:=k) ((hH' (lo+2) (by omega)).trans h3) hc1 (by omega)).trans (by rw[List.drop_zero,gz (by omega)]));rw[hlen] at hcl;rw[hlen];have z:decide ((k:Int)=k)=true:=a8 rfl;refine wnY (zI5 @g1 @g2 @h1 @h2 @z) ?_;refine w_mix1 lo h1 fun S0 hS hsub=>?_;refine wnY @hS ?_;refine eb ?_;refine ba ev0 ev0 hcl ?_;rintro _ H2 nx2 ⟨rfl,rfl,rfl⟩;refine jY ⟨hsub _ (by rw[ac (by omega)];exact h1),?_⟩;refine jM ?_;refine xu ev0 ev0 (Yl.mono (rnd S ch H nx hI hlen hne (by rw[nX] at hN;exact hN)) ?_);rintro r H3 nx3 ⟨rfl,e1,e2,e3⟩;refine wnY and_self ?_;refine⟨rfl,?_,e2,e3 _ (by omega) (by omega),e3 _ (by omega) (by omega),cX ch,(e3 _ (by omega) (by omega)).trans h3,hc1,by rw[←hlen];exact hc2⟩;rw[nX,dT,List.map_nil,io];exact e1
 |succ j ih=>
  intro ch at_ S H nx hk0 hj hN hat hI h1 h2 ⟨C,h3,hc1,hc2⟩;obtain⟨g1,g2,g3,g4,g5⟩:=hp _ _ _ hI;refine fO HC ?_;simp only[Jw,aJ];have z:decide ((ch.length:Int)=k)=false:=bc (by omega);refine wnY (zI5 @g1 @g2 @h1 @h2 @z) ?_;refine b0 (X:=Nat×List Spx) (fun x=>[(1,.msl (lo+2) (k*2) 2 0 ch.length),(4,.ptr sb 1 0),(5,.ptr (lo+1) 1 0),(9,.int .i64 x.1)]) (fun x H' nx'=>x.1≤s.length∧I x.2 H' nx'∧nx≤nx'∧H' lo=H lo∧H' (lo+1)=H (lo+1)∧(∃C,H' (lo+2)=some C∧C.length=k*2∧C.take (ch.length*2)=cX ch)∧x.2++(cE (s.drop x.1) (j+1)).map (ch++ ·)=S++(cE (s.drop at_) (j+1)).map (ch++ ·)) (fun x=>s.length-x.1) (at_,S) ⟨hat,hI,aO _,rfl,rfl,⟨C,h3,hc1,hc2⟩,rfl⟩ ag0 ?_;rintro⟨i,S1⟩ H1 nx1 ⟨i1,hI1,i2,i3,i4,⟨C1,k3,d1,d2⟩,htot⟩;dsimp only at i1 hI1 htot ⊢;obtain⟨q1,q2,q3,q4,q5⟩:=hp _ _ _ hI1;have w1:=i3.trans h1;have w2:=i4.trans h2;by_cases hi:i<s.length
  rotate_left
  ·refine wnY (zI3 @q1 @q2 @au) ?_;rw[show s.drop i=[] from EV (by omega),tx,List.map_nil,io] at htot;exact⟨rfl,by rw[←htot];exact hI1,i2,i3,i4,C1,k3,d1,d2⟩
  have ix:=ix2 hi;rw[Cm hi,dw,List.map_map,←uo] at htot;have hmm:(cE (s.drop (i+1)) j).map ((fun x=>ch++x) ∘ fun x=>s.getD i default::x)=(cE (s.drop (i+1)) j).map ((ch++[s.getD i default])++ ·):=pe fun x _=>by simp
  rw[hmm] at htot;generalize s.getD i default=v at *;refine wnY (zI3 @q1 @q2 @au) ?_;refine pP sb (lo+1) q2 w2 (by omega) fun S0 hS1 hS2 hsub=>?_;refine wnY (zI3 @hS1 @hS2 @ix) ?_;refine eb ?_;refine wnY and_self ?_;refine⟨hsub _ (by rw[ac (by omega)];exact q2) (by rw[ac (by omega)];exact w2),?_⟩;refine eb ?_;refine AP (b:=lo+2) (m:=k*2) (off:=0) (len:=ch.length) (n:=1) rfl ev0 (by rw[ac (by omega)];exact k3) ev0 qt rfl d1 (fun _=>by omega) (by omega) (by omega) ?_;refine jY ⟨hsub _ (by rw[ac (by omega),ac (by omega)];exact q2) (by rw[ac (by omega),ac (by omega)];exact w2),?_⟩;refine jM ?_;have hl1:(ch++[v]).length=ch.length+1:=by simp
  have hcc:=jK ch
  have hput:(bK C1 (0+ch.length*2) [.int .i64 v.color,.int .i64 v.label]).length=k*2∧(bK C1 (0+ch.length*2) [.int .i64 v.color,.int .i64 v.label]).take ((ch.length+1)*2)=cX (ch++[v]):=by
   rw[cf];simp only[bK];refine⟨by simp[d1];omega,?_⟩;rw[d2,mI,Ir,G1 (by simp[hcc];omega),gz (by simp[hcc];omega)]
  have hN1:S1.length+(cE (s.drop (i+1)) j).length≤N:=by
   have:=congrArg List.length htot;simp only[du,bz] at this;omega
  have hih:=ih (ch++[v]) (i+1) S1 (ap (ap H1 nx1 [.int .i64 v.color,.int .i64 v.label]) (lo+2) (bK C1 (0+ch.length*2) [.int .i64 v.color,.int .i64 v.label])) (nx1+1) hk0 (by omega) hN1 (by omega) (stab _ _ _ _ _ hI1 (by omega) (fun x hx hn=>by rw[ac (by omega),ac (by omega)])) (by rw[ac (by omega),ac (by omega)];exact w1) (by rw[ac (by omega),ac (by omega)];exact w2) ⟨_,af,hput.1,by rw[hl1];exact hput.2⟩;rw[hl1,show((i+1:Nat):Int)=(i:Int)+1 by omega] at hih;refine ba ev0 ev0 hih ?_;rintro r H4 nx4 ⟨rfl,f1,f2,f3,f4,C4,f5,f6,f7⟩;refine wnY and_self ?_;refine⟨(i+1,S1++(cE (s.drop (i+1)) j).map ((ch++[v])++ ·)),by dsimp only;omega,⟨by dsimp only;omega,f1,by omega,f3.trans ?_,f4.trans ?_,⟨C4,f5,f6,?_⟩,htot⟩,ag0⟩
  ·rw[ac (by omega),ac (by omega)];exact i3
  ·rw[ac (by omega),ac (by omega)];exact i4
  ·have:=congrArg (List.take (ch.length*2)) f7;rw[List.take_take,Nat.min_eq_left (by omega),mI,G1 (by omega)] at this;rw[this];exact gz (by omega)
end Go.Proofs.YtekdaafnjdlenaaGreat
namespace Go.Proofs.YtekdaafnjdlenaaGreat
open Go Go.Abs
open Nat (reduceEqDiff reduceAdd reduceLeDiff)
attribute [local irreducible] aH ai be aY aP aQ aD aR aZ bl Go.Abs.Fn aX Go.Abs.Pure aq aK Yl
theorem EK{y kb sb k:Nat}{s:Spx}{H:Hp}{nx:Nat}(hs:s.length≤1000)(hk0:0<k)(hk:k≤1000)(I:List Spx→Hp→Nat→Prop)
    (hp:∀S H nx',I S H nx'→H kb=some [.int .i64 k]∧H sb=some [aC s]∧nx+3≤nx'∧kb<nx∧sb<nx)
    (stab:∀S H H' nx1 nx',I S H nx1→nx1≤nx'→(∀i,i<nx1→¬(nx≤i∧i<nx+3)→H' i=H i)→I S H' nx')
    (rnd:∀S f H nx1,I S H nx1→f.length=k→f≠[]→S.length<(cE s k).length→Yl Tryz.prog y [.msl nx1 (k*2) 2 0 k] (ap H nx1 (cX f)) (nx1+1) fun r H' nx'=>r=.bool true∧I (S++[f]) H' nx'∧nx1≤nx'∧∀i,nx≤i→i<nx+3→H' i=H i)
    (gk:H kb=some [.int .i64 k]) (lk:kb<nx) (h0:∀H',(∀i,i<nx→H' i=H i)→I [] H' (nx+3)):
    Abs.Fn Tryz.prog 177 [.yld y,.ptr kb 1 0,.ptr sb 1 0] H nx fun _ H' nx'=>I (cE s k) H' nx':=by
 refine fO Ll ?_;simp only[KC,aJ];refine wnY @gk ?_;generalize hH:ap (ap (ap H nx [.yld y]) (nx+1) [.nilf]) (nx+1) (bK [.nilf] 0 [.func 178 [.ptr kb 1 0,.ptr nx 1 0,.ptr sb 1 0,.ptr (nx+1) 1 0]])=H1;have hfn:H1 (nx+1)=some [.func 178 [.ptr kb 1 0,.ptr nx 1 0,.ptr sb 1 0,.ptr (nx+1) 1 0]]:=by rw[←hH,af];rfl
 have hfk:H1 kb=some [.int .i64 k]:=by rw[←hH,ac (by omega),ac (by omega),ac (by omega)];exact gk
 have hfy:H1 nx=some [.yld y]:=by rw[←hH,ac (by omega),ac (by omega),af]
 have hfo:∀i,i<nx→H1 i=H i:=fun i hi=>by rw[←hH,ac (by omega),ac (by omega),ac (by omega)]
 clear hH;refine pP kb (nx+1) hfk hfn (by omega) fun S0 hS1 hS2 hsub=>?_;refine wnY (aI @hS1 @hS2) ?_;refine eb ?_;refine xL (k1:=.i64) (k2:=.i64) (n:=0) (m:=k) rfl ev0 ev0 (Int.le_refl _) (by omega) (by omega) (by omega) ?_;refine jY ⟨hsub _ (by rw[ac (by omega)];exact hfk) (by rw[ac (by omega)];exact hfn),?_⟩;refine jM ?_;have hz:(bo (AV.agg [AV.int .i64 0,AV.int .i64 0]) k).length=k*2:=by simp[bo,AV.cells]
 have hih:=Jy (y:=y) (N:=(cE s k).length) (lo:=nx) (kb:=kb) (sb:=sb) (k:=k) (s:=s) hs hk I hp stab rnd k [] 0 [] (ap H1 (nx+2) (bo (AV.agg [AV.int .i64 0,AV.int .i64 0]) k)) (nx+3) hk0 (by simp) (by simp) (bR _) (h0 _ (fun i hi=>by rw[ac (by omega)];exact hfo i hi)) (by rw[ac (by omega)];exact hfy) (by rw[ac (by omega)];exact hfn) ⟨_,af,hz,rfl⟩;refine ba ev0 (by((try simp only[b5,ZA,reduceEqDiff,↓reduceIte,reduceAdd,reduceLeDiff]);(try with_reducible rfl));rfl) hih ?_;rintro r H4 nx4 ⟨rfl,f1,-⟩;refine wnY and_self ?_;rw[List.drop_zero,List.nil_append,show(fun x:Spx=>([]:Spx)++x)=id from rfl,List.map_id] at f1;exact f1
theorem zq{kb sb k:Nat}{s:Spx}{H:Hp}{nx:Nat}(hs:s.length≤8)(hk0:0<k)(hk:k≤1000)(gk:H kb=some [.int .i64 k])(gs:H sb=some [aC s])(lk:kb<nx)(ls:sb<nx):
    Abs.Fn Tryz.prog 176 [.esl,.func 177 [.ptr kb 1 0,.ptr sb 1 0]] H nx fun r H' nx'=>Row H' 1 r ((cE s k).map aC)∧nx≤nx'∧∀b',bZ r=some b'→nx≤b'∧b'<nx':=by
 refine fO L3 ?_;simp only[LO,aJ];refine wnY and_self ?_;refine mY (nx+1) (nx+2) rfl rfl ev0 (fun c0 cj hy=>?_);refine Abs.Fn.mono (EK (nx:=nx+2) (kb:=kb) (sb:=sb) (k:=k) (s:=s) (by omega) hk0 hk (fun S H' nx'=>nx+5≤nx'∧H' kb=some [.int .i64 k]∧H' sb=some [aC s]∧H' (nx+1)=some [c0]∧∃sv,H' nx=some [sv]∧Row H' 1 sv (S.map aC)∧∀b',bZ sv=some b'→nx+5≤b'∧b'<nx') ?_ ?_ ?_ ?_ ?_ ?_) ?_
 ·rintro S H' nx' ⟨h1,h2,h3,h4,h5⟩;exact⟨h2,h3,by omega,by omega,by omega⟩
 ·rintro S H1 H2 a c ⟨h1,h2,h3,h4,sv,h5,h6,h7⟩ hac hs';refine⟨by omega,(hs' _ (by omega) (by omega)).trans h2,(hs' _ (by omega) (by omega)).trans h3,(hs' _ (by omega) (by omega)).trans h4,sv,(hs' _ (by omega) (by omega)).trans h5,h6.same (fun b' hb'=>hs' _ (h7 b' hb').2 (by have:=h7 b' hb';omega)),fun b' hb'=>⟨(h7 b' hb').1,by have:=h7 b' hb';omega⟩⟩
 ·rintro S f H' nx' ⟨h1,h2,h3,h4,sv,h5,h6,h7⟩ hfl hf0 hSN;have h4':ap H' nx' (cX f) (nx+1)=some [c0]:=by rw[ac (by omega)];exact h4
  refine hy _ _ _ _ h4' rfl ?_;clear hy;refine wnZ and_self ?_;refine⟨h4',?_⟩;have hS70:=Ae hSN (wC (k:=k) hs);have hd:dr (ap H' nx' (cX f)) (nx+1) nx'=some (cX f):=by rw[cQ (by omega),af]
  have hdo:∀x,x<nx'→x≠nx+1→dr (ap H' nx' (cX f)) (nx+1) x=H' x:=fun x a b=>by rw[cQ b,ac (by omega)]
  generalize dr (ap H' nx' (cX f)) (nx+1)=H1 at *;refine kQ ?_;refine pE (only nx' (cX f)) (dr H1 nx') [(2,.ptr nx 1 0),(5,aC f)] (Fz.one hd) ⟨.inl rfl,.inr (JA (s:=.msl nx' (k*2) 2 0 k) (by rw[←hfl];exact Row.box nx' f.length (cX f) nf (jK f))),trivial⟩ ?_;have he:∀x,x<nx'→x≠nx+1→dr H1 nx' x=H' x:=fun x a b=>by rw[cQ (by omega)];exact hdo x a b
  have g5:dr H1 nx' nx=some [sv]:=(he nx (by omega) (by omega)).trans h5;clear hd hdo;generalize dr H1 nx'=H2 at *;refine wnY (zI3 @g5 @bf @aU) ?_;refine eR (h6.same fun b' hb'=>?_) ?_
  ·have:=h7 b' hb';rw[ac (by omega)];exact he _ (by omega) (by omega)
  rintro sv' H3 nx3 r1 r2 r3 r4 r5;have zs:∀x,x<nx+5→bZ sv≠some x:=fun x hx e=>by have:=h7 x e;omega
  have z:∀x,x<nx'→x≠nx+1→bZ sv≠some x→H3 x=H' x:=fun x a1 a2 a3=>(r4 x (by omega) a3).trans (by rw[ac (by omega)];exact he x a1 a2);have g6:H3 nx=some [sv]:=(z nx (by omega) (by omega) (zs _ (by omega))).trans h5;obtain⟨q1,q2⟩:=r1.one;refine wnY (zI3 @g6 @q1 @q2) ?_;have w:∀x,x≠nx→x≠nx+1→ap (ap H3 nx (bK [sv] 0 [sv'])) (nx+1) [c0] x=H3 x:=fun x a1 a2=>by rw[ac a2,ac a1]
  have u7:∀b',bZ sv'=some b'→nx+5≤b'∧b'<nx3:=fun b' hb'=>by
   rcases r5 b' hb' with e|⟨e1,e2⟩
   ·have:=h7 b' e;omega
   ·omega
  refine⟨rfl,⟨by omega,?_,?_,af,sv',?_,?_,u7⟩,by omega,fun x x1 x2=>?_⟩
  ·rw[w _ (by omega) (by omega),z _ (by omega) (by omega) (zs _ (by omega)),h2]
  ·rw[w _ (by omega) (by omega),z _ (by omega) (by omega) (zs _ (by omega)),h3]
  ·rw[ac (by omega),af];rfl
  ·rw[dw];exact r1.same (fun b' hb'=>w b' (by have:=u7 b' hb';omega) (by have:=u7 b' hb';omega))
  ·rw[w _ (by omega) (by omega),z _ (by omega) (by omega) (zs _ (by omega))]
 ·rw[ac (by omega),ac (by omega)];exact gk
 ·omega
 ·intro H' hH';refine⟨by omega,?_,?_,?_,.esl,?_,.nil,fun b' hb'=>(by cases hb')⟩
  ·rw[hH' _ (by omega),ac (by omega),ac (by omega),gk]
  ·rw[hH' _ (by omega),ac (by omega),ac (by omega),gs]
  ·rw[hH' _ (by omega),af]
  ·rw[hH' _ (by omega),ac (by omega),af]
 ·rintro r H' nx' ⟨h1,h2,h3,h4,sv,h5,h6,h7⟩;refine .inl ⟨h4,?_⟩;refine wnY @h5 ?_;exact⟨h6.same (fun b' hb'=>cQ (by have:=h7 b' hb';omega)),by omega,fun b' hb'=>by have:=h7 b' hb';omega⟩
end Go.Proofs.YtekdaafnjdlenaaGreat
namespace Go.Proofs.YtekdaafnjdlenaaGreat
open Go Go.Abs
attribute [local irreducible] aH ai be aY aP aQ aD aR aZ bl Go.Abs.Fn aX Go.Abs.Pure aq aK Yl
end Go.Proofs.YtekdaafnjdlenaaGreat
namespace Go.Proofs.YtekdaafnjdlenaaGreat
open Go Go.Abs
def sk(s:Spx)(k:Int):List Spx×Int:=if bT s≠0 then([],bT s) else if k<1∨(s.length:Int)<k then([],2) else(cE s k.toNat,0)
theorem eA{H:Hp}{s:AV}{l:List Spx}{e f:Int}(h:Snap H s (an l))(he:e=f):Snap H (.tup [s,.int .i64 e]) (.tup [an l,.int .i64 f]):=by
 subst he;exact bM (ag h (ag (.int _ _) ak))
attribute [local irreducible] aH ai be aY aP aQ aD aR aZ bl Go.Abs.Fn aX Go.Abs.Pure aq aK Yl
theorem EZ(s:Spx)(k:Nat)(H:Hp)(nx:Nat):Abs.Fn Tryz.prog 160 [aC s,.int .i64 k] H nx fun r H' nx'=>r=.func 177 [.ptr (nx+1) 1 0,.ptr nx 1 0]∧H'=ap (ap H nx [aC s]) (nx+1) [.int .i64 k]∧nx'=nx+2:=by
 refine fO Lp ?_;simp only[Me,aJ];refine wnY (aI @bf @aU) ?_;exact⟨rfl,rfl,rfl⟩
theorem Dx{kb sb k:Nat}{s:Spx}{H:Hp}{nx:Nat}(hs:s.length≤8)(hk0:0<k)(hk:k≤1000)(gk:H kb=some [.int .i64 k])(gs:H sb=some [aC s])(lk:kb<nx)(ls:sb<nx):
    Abs.Fn Tryz.prog 159 [.func 177 [.ptr kb 1 0,.ptr sb 1 0]] H nx fun r H' nx'=>Row H' 1 r ((cE s k).map aC)∧nx≤nx':=by
 refine fO LS ?_;simp only[KQ,aJ];refine wnY and_self ?_;refine ba ev0 ev0 (zq hs hk0 hk gk gs lk ls) ?_;rintro r H1 nx1 ⟨r1,r2,r3⟩;obtain⟨q1,q2⟩:=r1.one;refine wnY (aI @q1 @q2) ?_;exact⟨r1,r2⟩
theorem Eo(s:Spx)(k:Int)(hs:Shn s):pU 137 [aC s,.int .i64 k] (.tup [an (sk s k).1,.int .i64 (sk s k).2]):=by
 refine pO KU ?_;simp only[J8,aJ];have hc:=pA s hs;unfold sk;by_cases he:bT s=0
 rotate_left
 ·rw[if_pos he];have z:decide (bT s≠0)=true:=a8 he;refine wnY @z ?_;exact eA (.eslsl _) rfl
 rw[if_neg (fun h=>h he)];rw[he] at hc;obtain⟨p1,p2,p3,p4⟩:=cu he;have z0:decide ((0:Int)≠0)=false:=rfl;by_cases hk:k<1∨(s.length:Int)<k
 ·rw[if_pos hk];have zz:=aI @z0 @au;repeat' (first|refine zW ?_|apply a_n|apply a_r|refine zO ?_|refine vY ?_|refine cY ?_ (hp:=hc) (hs:=by(first|refine aA ?_ rfl|apply aM);(repeat' (first|exact ak|apply bg|apply aN|exact dA _));first|done|fail)|refine gTY ?_|refine gFY ?_|refine cTY ?_|refine cFY ?_|(refine zGY ?_ ?_<;>(intro _hg;try (exfalso;omega)))|refine bI rfl ?_|refine r2Y ?_|fail)
  all_goals first|exact eA (.eslsl _) rfl|(exfalso;omega)
 rw[if_neg hk];obtain⟨n,rfl⟩:∃n:Nat,k=n:=⟨k.toNat,by omega⟩
 rw[cw];refine wnY (aI @z0 @au) ?_;refine ba ev0 ev0 (EZ s n _ _) ?_;rintro _ H1 nx1 ⟨rfl,rfl,rfl⟩;refine ba ev0 ev0 (Dx (kb:=0+1) (sb:=0) (k:=n) (s:=s) p2 (by omega) (by omega) af (by rw[ac (by omega),af]) (by omega) (by omega)) ?_;rintro r H2 nx2 ⟨r1,r2⟩;obtain⟨q1,q2⟩:=r1.one;refine wnY (aI @q1 @q2) ?_;exact eA (kw r1) rfl
end Go.Proofs.YtekdaafnjdlenaaGreat
namespace Go.Proofs.YtekdaafnjdlenaaGreat
open Go Go.Abs
theorem AC{l:Spx}{k:Nat}(h:k≤l.length):lw 2 (aC l) (some (.int .i64 k)) none none=some (aC (l.drop k)):=kB h
attribute [local irreducible] aH ai be aY aP aQ aD aR aZ bl Go.Abs.Fn aX Go.Abs.Pure aq aK Yl
end Go.Proofs.YtekdaafnjdlenaaGreat
namespace Go.Proofs.YtekdaafnjdlenaaGreat
open Go Go.Abs
open Nat (reduceEqDiff reduceAdd reduceLeDiff)
def jr(c:List Spx)(k:Nat):List Spx:=uD bH (c.flatMap fun s=>cE s k)
theorem CQ{c:List Spx}{k i:Nat}(hi:i<c.length):(c.take (i+1)).flatMap (fun s=>cE s k)=(c.take i).flatMap (fun s=>cE s k)++cE (c.getD i default) k:=by
 rw[cr hi,List.flatMap_append];simp
theorem oC{k:Nat}:∀{c:List Spx},(∀s∈c,s.length≤8)→(c.flatMap fun s=>cE s k).length≤70*c.length
 |[],_=>by simp
 |s::c,h=>by
  rw[uu,du,bO];have:=wC (l:=s) (k:=k) (h s cJ);have:=oC (k:=k) (c:=c) (fun t ht=>h t (dL _ ht));omega
theorem oW{c:List Spx}{k:Nat}{s:Spx}:s∈c.flatMap (fun s=>cE s k)↔ ∃t∈c,s∈cE t k:=by rw[List.mem_flatMap]
def fh(c:List Spx)(k:Int):List Spx×Int:=if aB c≠0 then([],aB c) else if k<1∨8<k then([],2) else(jr c k.toNat,0)
attribute [local irreducible] aH ai be aY aP aQ aD aR aZ bl Go.Abs.Fn aX Go.Abs.Pure aq aK Yl
end Go.Proofs.YtekdaafnjdlenaaGreat
namespace Go.Proofs.YtekdaafnjdlenaaGreat
open Go Go.Abs
open Nat (reduceEqDiff reduceAdd reduceLeDiff)
def ib:Nat→Spx→List Int
 |0,_=>[]
 |n+1,[]=>(-1)::0::ib n []
 |n+1,v::l=>v.color::v.label::ib n l
theorem px:∀{n:Nat}{s:Spx},(ib n s).length=2*n
 |0,_=>rfl
 |n+1,[]=>by show(ib n []).length+1+1=_;rw[px];omega
 |n+1,v::l=>by show(ib n l).length+1+1=_;rw[px];omega
theorem xT:∀{n:Nat}{s t:Spx},s.length≤n→t.length≤n→(∀v∈s,0≤v.color)→(∀v∈t,0≤v.color)→ib n s=ib n t→s=t
 |0,[],[],_,_,_,_,_=>rfl
 |0,_::_,_,h,_,_,_,_=>absurd h (by simp)
 |0,[],_::_,_,h,_,_,_=>absurd h (by simp)
 |n+1,[],[],_,_,_,_,_=>rfl
 |n+1,[],w::m,_,_,_,h2,e=>by
  have:(-1:Int)=w.color:=(List.cons.inj e).1;have:=h2 w cJ;omega
 |n+1,v::l,[],_,_,h1,_,e=>by
  have:v.color=(-1:Int):=(List.cons.inj e).1;have:=h1 v cJ;omega
 |n+1,v::l,w::m,hl,hm,h1,h2,e=>by
  obtain⟨e1,e2⟩:=List.cons.inj e;obtain⟨e2,e3⟩:=List.cons.inj e2;have:=xT (n:=n) (by simp at hl;omega) (by simp at hm;omega) (fun x hx=>h1 x (dL _ hx)) (fun x hx=>h2 x (dL _ hx)) e3;rw[this,oo.2 ⟨e1,e2⟩]
def F5(x:List Int):AV:=.agg (x.map (AV.int .i64))
theorem D4 (x:List Int):Dat (F5 x):=Dat.agg (by
 induction x with
 |nil=>exact DatL.nil
 |cons a l ih=>exact DatL.cons .int ih)
theorem Bj:∀{n:Nat}{s:Spx},s.length≤n→cX s++((ib n []).map (AV.int .i64)).drop (s.length*2)=(ib n s).map (AV.int .i64)
 |n,[],_=>by simp[cX]
 |0,_::_,h=>absurd h (by simp)
 |n+1,v::l,h=>by
  have:=Bj (n:=n) (s:=l) (by simp at h;omega);show [AV.int .i64 v.color,AV.int .i64 v.label]++cX l++_=AV.int .i64 v.color::AV.int .i64 v.label::(ib n l).map (AV.int .i64);rw[←this,bO,show(l.length+1)*2=l.length*2+1+1 by omega];rfl
def kc(k:Nat):List AV:=(ib k []++List.replicate (2*(8-k)) 0).map (AV.int .i64)
attribute [local irreducible] aH ai be aY aP aQ aD aR aZ bl Go.Abs.Fn aX Go.Abs.Pure aq aK Yl
theorem Hb(s:Spx)(h1:1≤s.length)(hs:s.length≤8):pU 138 [aC s] (F5 (ib 8 s)):=by
 refine pO KL ?_;simp only[La,aJ];have hn:fA (aC s)=some s.length:=by unfold aC iT;simp[fA]
 have hput:=Bj (n:=8) (s:=s) hs;refine wnY and_self ?_;refine lpI (X:=Nat) (fun k=>[(0,aC s),(2,.ptr 0 16 0),(3,.ptr 1 16 0),(5,.int .i64 k)]) (fun k H nx=>k≤8∧H 0=some (kc 0)∧H 1=some (kc k)) (fun k=>8-k) 0 ⟨bR _,by rw[ac (by omega),af];rfl,af⟩ ?_;rintro k H nx ⟨hk,g0,g1⟩;rcases(by omega:k=8∨k=0∨k=1∨k=2∨k=3∨k=4∨k=5∨k=6∨k=7) with rfl|rfl|rfl|rfl|rfl|rfl|rfl|rfl|rfl
 ·refine wnY (aI @g0 @g1) ?_;refine HV rfl g1 rfl rfl ?_;refine wnY and_self ?_;refine HP (n:=s.length) (H':=ap H 1 ((ib 8 s).map (AV.int .i64))) ?_ ?_
  ·((try simp only[b5,ZA,reduceEqDiff,↓reduceIte,reduceAdd,reduceLeDiff]);(try with_reducible rfl))
   have htr:vt s.length (aC s)=aC s:=by unfold aC iT;simp[vt];exact gz (by simp)
   have hmin:min s.length 8=s.length:=Nat.min_eq_left hs;have hal:fA (.msl 1 16 2 0 8)=some 8:=rfl;simp only[sN,hal,hn,hmin,if_neg (show ¬s.length=0 by omega),g1,htr,yw];rw[if_pos (by refine⟨?_,?_,?_,?_⟩<;>first|rfl|trivial|omega|exact mL s)]
   have:bK (kc 8) 0 (cX s)=(ib 8 s).map (AV.int .i64):=by
    rw[←hput];simp only[bK,List.take_zero,List.nil_append,cf,jK];rfl
   rw[this]
  ·have hl:((ib 8 s).map (AV.int .i64)).length=16:=by rw[bz,px]
   have g1':ap H 1 ((ib 8 s).map (AV.int .i64)) 1=some ((ib 8 s).map (AV.int .i64)):=af;have g0':ap H 1 ((ib 8 s).map (AV.int .i64)) 0=some (kc 0):=by rw[ac (by omega)];exact g0
   have hl0:(kc 0).length=16:=rfl;unfold F5;have ht:((ib 8 s).map (AV.int .i64)).take 16=(ib 8 s).map (AV.int .i64):=gz (by omega);have hd:=D4 (ib 8 s);unfold F5 at hd
   have hfl:AV.ones ((ib 8 s).map (AV.int .i64))=true:=by
    unfold AV.ones;rw[eh];intro x hx;obtain⟨y,_,rfl⟩:=bE.1 hx;rfl
   have hlp:bK (kc 0) 0 ((ib 8 s).map (AV.int .i64))=(ib 8 s).map (AV.int .i64):=by
    simp only[bK,List.take_zero,List.nil_append,cf,hl];rw[List.drop_of_length_le (by decide),io]
   generalize (ib 8 s).map (AV.int .i64)=K at *;refine wnY (zI5 @g0' @g1' @hl @hl0 @ht) ?_;refine I5 (v:=.agg K) (cs:=kc 0) (vs:=K) (b:=0) (n:=16) (off:=0) rfl ev0 ev0 g0' rfl hfl hl0 hl (by omega) ?_;rw[hlp];refine wnY (aI @hl @ht) ?_;exact hd _
 ·refine wnY (aI @g0 @g1) ?_;refine nC (r:=.ptr 1 16 0) rfl rfl rfl ?_;have hl:(kc 0).length=16:=rfl;refine wnY (aI @g1 @hl) ?_;exact⟨1,by omega,⟨by omega,by rw[ac (by omega)];exact g0,by rw[af];rfl⟩,by(iterate 4 refine And.intro rfl ?_);trivial⟩
 ·refine wnY (aI @g0 @g1) ?_;refine nC (r:=.ptr 1 16 2) rfl rfl rfl ?_;have hl:(kc 1).length=16:=rfl;refine wnY (aI @g1 @hl) ?_;exact⟨2,by omega,⟨by omega,by rw[ac (by omega)];exact g0,by rw[af];rfl⟩,by(iterate 4 refine And.intro rfl ?_);trivial⟩
 ·refine wnY (aI @g0 @g1) ?_;refine nC (r:=.ptr 1 16 4) rfl rfl rfl ?_;have hl:(kc 2).length=16:=rfl;refine wnY (aI @g1 @hl) ?_;exact⟨3,by omega,⟨by omega,by rw[ac (by omega)];exact g0,by rw[af];rfl⟩,by(iterate 4 refine And.intro rfl ?_);trivial⟩
 ·refine wnY (aI @g0 @g1) ?_;refine nC (r:=.ptr 1 16 6) rfl rfl rfl ?_;have hl:(kc 3).length=16:=rfl;refine wnY (aI @g1 @hl) ?_;exact⟨4,by omega,⟨by omega,by rw[ac (by omega)];exact g0,by rw[af];rfl⟩,by(iterate 4 refine And.intro rfl ?_);trivial⟩
 ·refine wnY (aI @g0 @g1) ?_;refine nC (r:=.ptr 1 16 8) rfl rfl rfl ?_;have hl:(kc 4).length=16:=rfl;refine wnY (aI @g1 @hl) ?_;exact⟨5,by omega,⟨by omega,by rw[ac (by omega)];exact g0,by rw[af];rfl⟩,by(iterate 4 refine And.intro rfl ?_);trivial⟩
 ·refine wnY (aI @g0 @g1) ?_;refine nC (r:=.ptr 1 16 10) rfl rfl rfl ?_;have hl:(kc 5).length=16:=rfl;refine wnY (aI @g1 @hl) ?_;exact⟨6,by omega,⟨by omega,by rw[ac (by omega)];exact g0,by rw[af];rfl⟩,by(iterate 4 refine And.intro rfl ?_);trivial⟩
 ·refine wnY (aI @g0 @g1) ?_;refine nC (r:=.ptr 1 16 12) rfl rfl rfl ?_;have hl:(kc 6).length=16:=rfl;refine wnY (aI @g1 @hl) ?_;exact⟨7,by omega,⟨by omega,by rw[ac (by omega)];exact g0,by rw[af];rfl⟩,by(iterate 4 refine And.intro rfl ?_);trivial⟩
 ·refine wnY (aI @g0 @g1) ?_;refine nC (r:=.ptr 1 16 14) rfl rfl rfl ?_;have hl:(kc 7).length=16:=rfl;refine wnY (aI @g1 @hl) ?_;exact⟨8,by omega,⟨by omega,by rw[ac (by omega)];exact g0,by rw[af];rfl⟩,by(iterate 4 refine And.intro rfl ?_);trivial⟩
end Go.Proofs.YtekdaafnjdlenaaGreat
namespace Go.Proofs.YtekdaafnjdlenaaGreat
open Go Go.Abs
open Nat (reduceEqDiff reduceAdd reduceLeDiff)
attribute [local irreducible] aH ai be aY aP aQ aD aR aZ bl Go.Abs.Fn aX Go.Abs.Pure aq aK Yl
end Go.Proofs.YtekdaafnjdlenaaGreat
namespace Go.Proofs.YtekdaafnjdlenaaGreat
open Go Go.Abs
open Nat (reduceEqDiff reduceAdd reduceLeDiff)
theorem Cn{H:Hp}{sz:Nat}{s:AV}{elems:List AV}(h:Row H sz s (elems.flatMap AV.cells))(hc:∀y∈elems,y.cells.length=sz)(hz:0<sz)(hd:∀y∈elems,∀c∈y.cells,SnapF H c c):SnapF H s (.sl sz elems):=by
 obtain⟨f1,f2⟩:=d6 elems hc;generalize he:elems.flatMap AV.cells=cs at h;cases h with
 |nil=>
  have:elems.length*sz=0:=by rw[←f1,he];rfl
  have:elems=[]:=fk.1 (by
   rcases Nat.mul_eq_zero.1 this with h|h
   ·exact h
   ·omega)
  subst this;exact .eslsl sz
 |box b len cs hb hl=>
  have hlen:elems.length=len:=Nat.eq_of_mul_eq_mul_right hz (by rw[←f1,he,hl]);refine .msl b (len*sz) sz 0 len cs elems hb hl (by omega) hlen hc (fun i j y a c hy hc' ha=>?_);have hj:j<sz:=by rw[←hc y (gw hy)];exact(bS.1 hc').1
  have key:∀(l:List AV)(i j:Nat)(y c:AV),(∀z∈l,z.cells.length=sz)→l[i]?=some y→y.cells[j]?=some c→j<sz→(l.flatMap AV.cells)[i*sz+j]?=some c:=by
   intro l
   induction l with
   |nil=>intro i j y c _ h;simp at h
   |cons x l ih=>
    intro i j y c hl hy hc hj;rw[uu];cases i with
    |zero=>
     simp at hy;subst hy;rw[wE,cf,gA (by rw[hl x (by simp)];exact hj)];exact hc
    |succ i=>
     rw[iA (by rw[hl x (by simp),fE];omega),hl x (by simp)];have:=ih i j y c (fun z hz=>hl z (by simp[hz])) (by simpa using hy) hc hj;rw[←this];congr 1;rw[fE];omega
  have:=key elems i j y c hc hy hc' hj;rw[he,←cf (i*sz)] at this;rw[this] at ha;cases ha;exact hd y (gw hy) a (gw hc')
theorem rJ{H:Hp}{s:AV}{l:Spx}(h:Row H 2 s (cX l)):SnapF H s (aC l):=by
 refine Cn (elems:=l.map dD) (by rw[A5];exact h) (fun y hy=>?_) (by omega) (fun y hy c hx=>?_)
 ·obtain⟨n,_,rfl⟩:=bE.1 hy;rfl
 ·obtain⟨n,_,rfl⟩:=bE.1 hy;simp only[dD,AV.cells,cR,List.not_mem_nil,or_false] at hx;rcases hx with rfl|rfl<;>exact .int _ _
attribute [local irreducible] aH ai be aY aP aQ aD aR aZ bl Go.Abs.Fn aX Go.Abs.Pure aq aK Yl
theorem Dq(l:Spx)(hl:l.length≤1000000):PureF Tryz.prog 136 [aC l] (aC l):=by
 refine qO HR ?_;simp only[Jd,aJ];refine wnY and_self ?_;have hn:fA (aC l)=some l.length:=by unfold aC iT;simp[fA]
 refine wx (k:=l.length) (by((try simp only[b5,ZA,reduceEqDiff,↓reduceIte,reduceAdd,reduceLeDiff]);(try with_reducible rfl));exact hn) (fun h=>?_) (fun h=>?_) (fun h=>?_)
 ·refine wnY and_self ?_;refine lZ rfl ev0 ev0 yw (mL _) (by omega) (by omega) ?_;refine wnY and_self ?_;exact rJ (Row.box _ l.length (cX l) af (jK l))
 ·refine wnY and_self ?_;obtain rfl:=fk.1 h;exact .eslsl 2
 ·refine wnY and_self ?_;refine lZ rfl ev0 ev0 yw (mL _) (by omega) (by omega) ?_;refine wnY and_self ?_;exact rJ (Row.box _ l.length (cX l) af (jK l))
section
variable{g:Nat}{caps:List AV}{s:AV}
theorem Jr(hs:dz s=some (.int .i64 0)){H:Hp}{nx:Nat}:Abs.Fn Tryz.prog 166 [s,.int .i64 0,.int .i64 0,.func g caps] H nx fun r H' nx'=>nx'=nx∧H'=H:=by
 refine fO HG ?_;simp only[Ib,aJ];refine wnZ and_self ?_;refine b0 (X:=Unit) (fun x=>[(0,s),(1,.int .i64 0),(2,.int .i64 0),(3,.func g caps),(8,.int .i64 1)]) (fun x H' nx'=>H'=H∧nx'=nx) (fun x=>0) () ⟨rfl,rfl⟩ (by simp (disch:=omega) only[agr,ZG,reduceEqDiff,↓reduceIte,Int.zero_add,true_and]) ?_;rintro _ _ _ ⟨rfl,rfl⟩;refine wnZ and_self ?_;exact⟨rfl,rfl⟩
theorem I2(hs:dz s=some (.int .i64 0)){H:Hp}{nx:Nat}:Abs.Fn Tryz.prog 155 [s,.int .i64 0,.int .i64 0,.int .i64 0,.func g caps] H nx fun r H' nx'=>nx'=nx∧H'=H:=by
 refine fO HZ ?_;simp only[IX,aJ];refine wnZ and_self ?_;refine b0 (X:=Unit) (fun x=>[(0,s),(1,.int .i64 0),(2,.int .i64 0),(3,.int .i64 0),(4,.func g caps)]) (fun x H' nx'=>H'=H∧nx'=nx) (fun x=>0) () ⟨rfl,rfl⟩ ag0 ?_;rintro _ _ _ ⟨rfl,rfl⟩;refine wnZ and_self ?_;refine ba ev0 ev0 (Jr hs) ?_;rintro _ _ _ ⟨rfl,rfl⟩;refine wnZ and_self ?_;exact⟨rfl,rfl⟩
theorem pg(hs:dz s=some (.int .i64 0)){H:Hp}{nx:Nat}:Abs.Fn Tryz.prog 130 [s,.func g caps] H nx fun r H' nx'=>nx'=nx∧H'=H:=by
 refine fO HS ?_;simp only[IR,aJ];have w8:IntKind.wrap .u64 0=0:=by decide
 refine wnZ (aI @w8 @hs) ?_;refine ba ev0 (have zz:=@w8;evZ) JJ ?_;rintro _ _ _ ⟨rfl,rfl,rfl⟩;refine wnZ and_self ?_;refine ba ev0 ev0 (I2 hs) ?_;rintro _ _ _ ⟨rfl,rfl⟩;refine wnZ and_self ?_;exact⟨rfl,rfl⟩
end
end Go.Proofs.YtekdaafnjdlenaaGreat
namespace Go.Proofs.YtekdaafnjdlenaaGreat
open Go Go.Abs
attribute [local irreducible] aH ai be aY aP aQ aD aR aZ bl Go.Abs.Fn aX Go.Abs.Pure aq aK Yl
theorem JH:Cmp Tryz.prog aC bH (fun s=>Shn s) 70 [] where
 cells _:=rfl
 one _:=rfl
 dat x:=dA x
 dcaps x hx:=by cases hx
 run x y hx hy:=gI x y hx hy
 ord:=ji.ord
end Go.Proofs.YtekdaafnjdlenaaGreat
namespace Go.Proofs.YtekdaafnjdlenaaGreat
open Go Go.Abs
def K16:Type:={x:List Int // x.length=16}
instance:DecidableEq K16:=inferInstanceAs (DecidableEq {x:List Int // x.length=16})
def kK(s:Spx):K16:=⟨ib 8 s,by rw[px]⟩
def eK(x:K16):AV:=F5 x.1
theorem sc:∀{n:Nat}{xs ys:List Int},xs.length=n→ys.length=n→dC (List.replicate n .int) (xs.map (AV.int .i64)) (ys.map (AV.int .i64))=some (decide (xs=ys))
 |0,[],[],_,_=>rfl
 |0,_::_,_,h,_=>absurd h (by simp)
 |0,[],_::_,_,h=>absurd h (by simp)
 |n+1,[],_,h,_=>absurd h (by simp)
 |n+1,_::_,[],_,h=>absurd h (by simp)
 |n+1,x::xs,y::ys,h1,h2=>by
  have ih:=sc (n:=n) (xs:=xs) (ys:=ys) (by simpa using h1) (by simpa using h2);have e:(x==y)=decide (x=y):=rfl;rw[List.replicate_succ,dT,dT];by_cases hxy:x=y
  ·subst hxy;simp only[dC,jc,if_true,e,decide_true,ih];simp
  ·simp only[dC,jc,if_true,e,bc hxy];simp[hxy]
theorem Iq(a b:K16):pm (.st [.int,.int,.int,.int,.int,.int,.int,.int,.int,.int,.int,.int,.int,.int,.int,.int]) (eK a) (eK b)=some (decide (a=b)):=by
 show dC (List.replicate 16 .int) (a.1.map (AV.int .i64)) (b.1.map (AV.int .i64))=_;rw[sc a.2 b.2]
 congr 1
 exact decide_eq_decide.2 ⟨Subtype.ext,fun h=>congrArg Subtype.val h⟩
theorem Gd(v:K16)(ks:List K16):dg (.st [.int,.int,.int,.int,.int,.int,.int,.int,.int,.int,.int,.int,.int,.int,.int,.int]) (eK v) (ks.map eK)=some (if v∈ks then some (ks.idxOf v) else none):=mW _ eK Iq v ks
theorem B1(v:K16):jm (.st [.int,.int,.int,.int,.int,.int,.int,.int,.int,.int,.int,.int,.int,.int,.int,.int]) (eK v)=true:=by
 show(16==(v.1.map (AV.int .i64)).length)=true;rw[bz,v.2];rfl
def l9(s:Spx):Prop:=1≤s.length∧s.length≤8∧∀v∈s,0≤v.color
theorem IU{s t:Spx}(hs:l9 s)(ht:l9 t)(h:kK s=kK t):s=t:=xT hs.2.1 ht.2.1 hs.2.2 ht.2.2 (congrArg Subtype.val h)
theorem IJ{O:List Spx}{f:Spx}(hO:∀s∈O,l9 s)(hf:l9 f):kK f∈O.map kK↔f∈O:=by
 rw[bE];exact⟨fun⟨s,h1,h2⟩=>by rw[←IU (hO s h1) hf h2];exact h1,fun h=>⟨f,h,rfl⟩⟩
theorem GN{s:Spx}(h:bT s=0):l9 s:=by
 obtain⟨p1,p2,p3,p4⟩:=cu h;refine⟨p1,p2,fun v hv=>?_⟩;have:=p4 v hv;unfold fL at this;simp only[dR,iq] at this;exact this.1.1
theorem Fk{s t:Spx}{k:Nat}(hs:l9 s)(hk:1≤k)(h:t∈cE s k):l9 t:=by
 obtain⟨h1,h2⟩:=eH.1 h;exact⟨by omega,fB h1.length_le hs.2.1,fun v hv=>hs.2.2 v (h1.subset hv)⟩
theorem rb{O L P:List Spx}(hp:L.Perm O)(hs:bq bH 0 L.length L)(hn:O.Nodup)(hm:∀s,s∈O↔s∈P):L=uD bH P:=by
 refine ni ji ?_ (ss ji P) fun s=>by rw[hp.mem_iff,hm,pi]
 unfold bQ;rw[jT];intro i j hi hj hij;have h1:=hs i j (bR _) hij hj;rw[show L.getD i default=L[i] by simp[List.getD,hi],show L.getD j default=L[j] by simp[List.getD,hj]] at h1;rcases ji.tri L[i] L[j] with h|h|h
 ·exact h
 ·have:=(List.nodup_iff_pairwise_ne.1 (hp.nodup_iff.2 hn))
  exact absurd h ((jT.1 this) i j hi hj hij)
 ·exact absurd h h1
end Go.Proofs.YtekdaafnjdlenaaGreat
namespace Go.Proofs.YtekdaafnjdlenaaGreat
open Go Go.Abs
open Nat (reduceEqDiff reduceAdd reduceLeDiff)
attribute [local irreducible] aH ai be aY aP aQ aD aR aZ bl Go.Abs.Fn aX Go.Abs.Pure aq aK Yl
theorem zY(l:List Spx)(k:Nat)(hl:l.length≤50)(hs:∀s∈l,bT s=0)(hk:1≤k∧k≤8):pU 87 [an l,.int .i64 k] (.tup [an (jr l k),.int .i64 0]):=by
 refine pO MV ?_;simp only[b87,aJ];have h8:∀s∈l,s.length≤8:=fun s h=>(cu (hs s h)).2.1
 have hgood:∀s∈l.flatMap (fun s=>cE s k),l9 s:=fun s h=>by
  obtain⟨t,t1,t2⟩:=oW.1 h;exact Fk (GN (hs t t1)) hk.1 t2
 have hfl:=oC (k:=k) h8;have z0:decide ((0:Int)≠0)=false:=rfl;refine wnY @ah ?_;refine vj ?_;refine wnY @ah ?_;refine lpI (X:=Nat×AV×List Spx) (fun x=>[(1,.int .i64 k),(6,.mp 0),(7,x.2.1),(15,an l),(16,.int .i64 l.length),(17,.int .i64 x.1)]) (fun x H nx=>x.1≤l.length∧1≤nx∧H 0=some [.omap ((x.2.2.map kK).map eK) (x.2.2.map fun _=>.bool true)]∧Row H 1 x.2.1 (x.2.2.map aC)∧(∀b,bZ x.2.1=some b→1≤b∧b<nx)∧x.2.2.Nodup∧∀s,s∈x.2.2↔s∈(l.take x.1).flatMap fun s=>cE s k) (fun x=>l.length-x.1) (0,.esl,[]) ⟨bR _,by omega,af,Row.nil,fun b h=>(by cases h),List.nodup_nil,fun s=>by simp⟩ ?_;rintro⟨i,sv,O⟩ H nx ⟨h1,hnx,g0,hrow,hbd,hnd,hmem⟩;dsimp only at h1 g0 hrow hbd hnd hmem ⊢;obtain⟨o1,o2⟩:=hrow.one;by_cases hi:i<l.length
 rotate_left
 ·rw[gz (by omega)] at hmem
  have hOl:O.length≤3500:=by
   have:=yQ hnd (l₂:=l.flatMap fun s=>cE s k) (fun s h=>(hmem s).1 h);omega
  have hsort:Abs.Fn Tryz.prog 130 [sv,.func 70 []] H nx fun _ H' nx'=>Row H' 1 sv ((jr l k).map aC):=by
   generalize hcs:O.map aC=cs at hrow;cases hrow with
   |nil=>
    have hO0:O=[]:=List.map_eq_nil_iff.1 hcs;refine Abs.Fn.mono (pg rfl) ?_;rintro _ _ _ ⟨rfl,rfl⟩
    have:jr l k=[]:=by
     unfold jr;rw[yB,wZ];intro s h;have:=(hmem s).2 h;rw[hO0] at this;cases this
    rw[this];exact Row.nil
   |box b len cs k1 k2=>
    obtain rfl:len=O.length:=by rw[←hcs,bz] at k2;omega
    have hb:=hbd b rfl;subst hcs;by_cases h0:O.length=0
    ·have hO0:O=[]:=fk.1 h0;subst hO0;refine Abs.Fn.mono (pg rfl) ?_;rintro _ _ _ ⟨rfl,rfl⟩
     have:jr l k=[]:=by
      unfold jr;rw[yB,wZ];intro s h;have:=(hmem s).2 h;cases this
     rw[this];exact Row.box b 0 _ k1 rfl
    ·have hg:∀s∈O,Shn s:=fun s h=>show s.length≤_ by have:=(hgood s ((hmem s).1 h)).2.1;omega
     have hsf:=Bw JH (L:=O) (b:=b) (nx:=nx) (n:=O.length) k1 hb.2 rfl (by omega) hg (by omega);rw[Nat.mul_one];refine Abs.Fn.mono hsf ?_;rintro _ H' nx' ⟨L',ps,p1,p2⟩;have hlen:=p1.length_eq;have:=rb p1 (by rw[hlen];exact p2) hnd hmem;unfold jr;rw[←this,←hlen];have:=Row.box (H:=H') (sz:=1) b L'.length (L'.map aC) ps.at_ (by simp)
     rwa [Nat.mul_one] at this
  refine wnY and_self ?_;refine ba ev0 ev0 hsort ?_;rintro r H' nx' hr;refine wnY (aI @o1 @o2) ?_;exact eA (kw hr) rfl
 have ix:=fj hi;have hft:=CQ (k:=k) hi
 have hpm:∀s∈(l.take (i+1)).flatMap (fun s=>cE s k),s∈l.flatMap fun s=>cE s k:=fun s h=>by
  obtain⟨t,t1,t2⟩:=oW.1 h;exact oW.2 ⟨t,kP t1,t2⟩
 have hsi:=hs _ (ay hi);have h8i:=h8 _ (ay hi);have hfx:=Eo (l.getD i default) k (show _≤_ by omega)
 have hfe:(l.getD i default).length<k∨sk (l.getD i default) k=(cE (l.getD i default) k,0):=by
  by_cases h:(l.getD i default).length<k
  ·exact .inl h
  ·refine .inr ?_;unfold sk;rw[if_neg (fun h=>h hsi),if_neg (by omega),cw]
 have hcar:∀s∈cE (l.getD i default) k,l9 s:=fun s h=>hgood s (hpm s (by rw[hft];exact oz _ h));by_cases hlt:(l.getD i default).length<k
 ·have z:decide (((l.getD i default).length:Int)<k)=true:=a8 (by omega);rw[tM hlt,io] at hft;generalize l.getD i default=s at *;refine wnY (zI5 @au @ix @z @o1 @o2) ?_;exact⟨(i+1,sv,O),by dsimp only;omega,⟨by dsimp only;omega,hnx,g0,hrow,hbd,hnd,by dsimp only;rw[hft];exact hmem⟩,ag0⟩
 have z:decide (((l.getD i default).length:Int)<k)=false:=bc (by omega);rw[hfe.resolve_left hlt] at hfx;clear hfe;have hgP:∀s∈(l.take i).flatMap (fun s=>cE s k),l9 s:=fun s h=>hgood s (hpm s (by rw[hft];exact nZ _ h))
 have hPl:((l.take i).flatMap (fun s=>cE s k)++cE (l.getD i default) k).length≤3500:=by
  rw[←hft];have:=oC (k:=k) (c:=l.take (i+1)) (fun s h=>h8 s (kP h));rw[iz] at this;omega
 generalize l.getD i default=s at *;generalize cE s k=R at *;generalize (l.take i).flatMap (fun s=>cE s k)=P at *;have hRl:R.length≤3500:=by rw[du] at hPl;omega
 refine wnY (zI7 @au @ah @ix @z @z0 @o1 @o2) ?_;refine b0 (X:=Nat×AV×List Spx) (fun x=>[(1,.int .i64 k),(6,.mp 0),(7,x.2.1),(15,an l),(16,.int .i64 l.length),(17,.int .i64 i),(34,an R),(35,.int .i64 R.length),(36,.int .i64 x.1)]) (fun x H nx=>x.1≤R.length∧1≤nx∧H 0=some [.omap ((x.2.2.map kK).map eK) (x.2.2.map fun _=>.bool true)]∧Row H 1 x.2.1 (x.2.2.map aC)∧(∀b,bZ x.2.1=some b→1≤b∧b<nx)∧x.2.2.Nodup∧∀s,s∈x.2.2↔s∈P++R.take x.1) (fun x=>R.length-x.1) (0,sv,O) ⟨bR _,hnx,g0,hrow,hbd,hnd,by dsimp only;rw[List.take_zero,io];exact hmem⟩ ag0 ?_;clear g0 hrow hbd hnd hmem hnx o1 o2;rintro⟨j,sv,O⟩ H nx ⟨j1,hnx,g0,hrow,hbd,hnd,hmem⟩;dsimp only at j1 g0 hrow hbd hnd hmem ⊢;obtain⟨o1,o2⟩:=hrow.one
 have hOl:O.length≤3500:=by
  have:=yQ hnd (l₂:=P++R.take j) (fun s h=>(hmem s).1 h);rw[du,iz] at this;rw[du] at hPl;omega
 by_cases hj:j<R.length
 rotate_left
 ·rw[gz (by omega)] at hmem;have hls:dz sv=some (.int .i64 O.length):=hrow.lenS (by rw[bz,Nat.mul_one]) nM;have z1:decide ((4096:Int)<O.length)=false:=bc (by omega);refine wnY (zI4 @hls @z1 @o1 @o2) ?_;exact⟨(i+1,sv,O),by dsimp only;omega,⟨by dsimp only;omega,hnx,g0,hrow,hbd,hnd,by dsimp only;rw[hft];exact hmem⟩,ag0⟩
 have iy:=fj hj;have hgf:=hcar _ (ay hj)
 have hgO:∀s∈O,l9 s:=fun s h=>by
  rcases eU.1 ((hmem s).1 h) with h|h
  ·exact hgP s h
  ·exact hcar s (kP h)
 have hkey:=Hb (R.getD j default) hgf.1 hgf.2.1;have hts:R.take (j+1)=R.take j++[R.getD j default]:=cr hj;have hmf:=Gd (kK (R.getD j default)) (O.map kK);have hmk:=IJ hgO hgf;generalize R.getD j default=f at *;by_cases hf:f∈O
 ·rw[if_pos (hmk.2 hf)] at hmf;have hlt2:(O.map kK).idxOf (kK f)<(O.map kK).length:=np.2 (hmk.2 hf)
  have hgv:mget (.bool false) false (some ((O.map kK).idxOf (kK f))) (O.map fun _=>AV.bool true)=.bool true:=by
   rw[bz] at hlt2;simp[mget,List.getD,hlt2]
  refine wnY (zI3 @iy @o1 @o2) ?_;refine ja ev0 g0 (by((try simp only[b5,ZA,reduceEqDiff,↓reduceIte,reduceAdd,reduceLeDiff]);(try with_reducible rfl));rfl) (B1 (kK f)) hmf ?_;rw[hgv];refine wnY (aI @o1 @o2) ?_;refine⟨(j+1,sv,O),by dsimp only;omega,⟨by dsimp only;omega,hnx,g0,hrow,hbd,hnd,fun s=>?_⟩,ag0⟩;dsimp only;rw[hts,←uo,eU,←hmem,cV];exact⟨.inl,fun h=>h.elim id fun e=>by rw[e];exact hf⟩
 ·rw[if_neg (fun h=>hf (hmk.1 h))] at hmf;have hgv:mget (.bool false) false none (O.map fun _=>AV.bool true)=.bool false:=rfl;refine wnY (zI3 @iy @o1 @o2) ?_;refine ja ev0 g0 (by((try simp only[b5,ZA,reduceEqDiff,↓reduceIte,reduceAdd,reduceLeDiff]);(try with_reducible rfl));rfl) (B1 (kK f)) hmf ?_;rw[hgv];refine wnY (aI @o1 @o2) ?_;refine pJ ev0 g0 (by((try simp only[b5,ZA,reduceEqDiff,↓reduceIte,reduceAdd,reduceLeDiff]);(try with_reducible rfl));rfl) ev0 (B1 (kK f)) hmf ?_;refine wnY (zI4 @o1 @o2 @bf @aU) ?_;refine eR (hrow.same fun b hb=>?_) ?_
  ·have:=hbd b hb;rw[ac (by omega),ac (by omega)]
  rintro s2 H2 nx2 hr2 i1 i2 i3 i4;obtain⟨o3,o4⟩:=hr2.one;refine wnY (aI @o3 @o4) ?_;refine⟨(j+1,s2,O++[f]),by dsimp only;omega,⟨by dsimp only;omega,by omega,?_,?_,fun b hb=>?_,?_,fun s=>?_⟩,ag0⟩
  ·rw[i3 0 (by omega) (fun h=>by have:=hbd 0 h;omega),ac (by omega),af];simp[cH,ga]
  ·dsimp only;rw[dw];exact hr2
  ·rcases i4 b hb with h|h
   ·have:=hbd b h;omega
   ·omega
  ·exact zD.2 ⟨hnd,by simp,fun a ha c hc=>by simp at hc;subst hc;intro e;subst e;exact hf ha⟩
  ·dsimp only;rw[hts,←uo,eU,eU,←hmem]
end Go.Proofs.YtekdaafnjdlenaaGreat
namespace Go.Proofs.YtekdaafnjdlenaaGreat
open Go Go.Abs
theorem tB(K:Nat→Int):∀n,(∀i j,i<j→j<n→K j<0→K i<0)→∃b,b≤n∧(∀i,i<b→K i<0)∧∀i,b≤i→i<n→0≤K i
 |0,_=>⟨0,aO _,fun i h=>absurd h (by omega),fun i _ h=>absurd h (by omega)⟩
 |n+1,hm=>by
  by_cases h:K n<0
  ·refine⟨n+1,aO _,fun i hi=>?_,fun i h1 h2=>absurd h1 (by omega)⟩;by_cases e:i=n
   ·subst e;exact h
   ·exact hm i n (by omega) (by omega) h
  ·obtain⟨b,h1,h2,h3⟩:=tB K n (fun i j hi hj=>hm i j hi (by omega));refine⟨b,by omega,h2,fun i hi hi2=>?_⟩;by_cases e:i=n
   ·subst e;omega
   ·exact h3 i hi (by omega)
theorem BR{tb tf:Bool}{i j:Nat}:br .shr tb tf (.int .u64 ((i:Int)+(j:Int))) (.int .u64 1)=some (.int .u64 (((i+j)/2:Nat):Int)):=by
 have:=wB (k:=.u64) (a:=i+j) (b:=1) (tb:=tb) (tf:=tf) (k':=.u64) (by decide);simpa using this
attribute [local irreducible] aH ai be aY aP aQ aD aR aZ bl Go.Abs.Fn aX Go.Abs.Pure aq aK Yl
theorem kM(c:List Spx)(k:Int)(hc:c.length≤50)(hs:∀s∈c,Shn s):pU 79 [b9 c,.int .i64 k] (.tup [an (fh c k).1,.int .i64 (fh c k).2]):=by
 refine pO MB ?_;simp only[b79,aJ];have hcc:=jk c (show _≤_ by omega) hs;unfold fh;by_cases he:aB c=0
 rotate_left
 ·rw[if_pos he];have z:decide (aB c≠0)=true:=a8 he;refine wnY (zI3 @aj @ae @z) ?_;exact eA (.eslsl _) rfl
 rw[if_neg (fun h=>h he)];rw[he] at hcc;have z0:decide ((0:Int)≠0)=false:=rfl;obtain⟨p1,p2,p3,p4⟩:=d9 he;by_cases hk:k<1∨8<k
 ·rw[if_pos hk];have zz:=aI @aj (aI @ae @z0);repeat' (first|refine zW ?_|apply a_n|apply a_r|refine zO ?_|refine vY ?_|refine cY ?_ (hp:=hcc) (hs:=by(first|refine aA ?_ rfl|apply aM);(repeat' (first|exact ak|apply bg|apply aN|exact bN _));first|done|fail)|refine bxY ?_|refine gTY ?_|refine gFY ?_|refine cTY ?_|refine cFY ?_|(refine zGY ?_ ?_<;>(intro _hg;try (exfalso;omega)))|refine bI rfl ?_|refine r2Y ?_|fail)
  all_goals first|exact eA (.eslsl _) rfl|(exfalso;omega)
 rw[if_neg hk];obtain⟨n,rfl⟩:∃n:Nat,k=n:=⟨k.toNat,by omega⟩
 rw[cw];have ha:=zY c n hc p2 ⟨by omega,by omega⟩;refine wnY (zI4 @aj @ae @ah @z0) ?_;exact eA (bh _).snap rfl
theorem Ap(l:List Spx)(v:Spx)(hl:Shn l)(hs:∀c∈l,Shn c)(hv:Shn v){b:Nat}(hb:b≤l.length)(h1:∀i,i<b→bH (l.getD i default) v<0)(h2:∀i,b≤i→i<l.length→0≤bH (l.getD i default) v):
    pU 132 [an l,aC v,.func 70 []] (.tup [.int .i64 b,.bool (decide (b<l.length)&&decide (bH (l.getD b default) v=0))]):=by
 refine pO LG ?_;simp only[LQ,aJ];have hl':l.length≤17592186044416:=hl;refine wnZ (zI3 @bf @aU @ah) ?_;refine nG (X:=Nat×Nat) (fun x=>[(0,an l),(1,aC v),(2,.func 70 []),(8,.int .i64 l.length),(9,.int .i64 x.1),(10,.int .i64 x.2)]) (fun x=>x.1≤b∧b≤x.2∧x.2≤l.length) (fun x=>x.2-x.1) (0,l.length) ⟨bR _,hb,aO _⟩ ag0 ?_;rintro⟨i,j⟩ ⟨g1,g2,g3⟩;dsimp only at g1 g2 g3 ⊢;by_cases hij:i<j
 ·have hh:(i+j)/2<l.length:=by omega
  have hc:=gI (l.getD ((i+j)/2) default) v (hs _ (ay hh)) hv;have ix:=fj hh;by_cases hn:bH (l.getD ((i+j)/2) default) v<0
  ·have hbb:(i+j)/2<b:=Nat.lt_of_not_le fun h=>by have:=h2 _ h hh;omega
   refine wnZ (zI6 @bf @aU @ah @gd @BR @ix) ?_;exact⟨((i+j)/2+1,j),⟨by omega,by omega,by omega⟩,by dsimp only;omega,ag0,rfl,rfl⟩
  ·have hbb:b≤(i+j)/2:=Nat.le_of_not_lt fun h=>hn (h1 _ h);refine wnZ (zI6 @bf @aU @ah @gd @BR @ix) ?_;exact⟨(i,(i+j)/2),⟨by omega,by omega,by omega⟩,by dsimp only;omega,ag0,rfl,rfl⟩
 ·have ei:i=b:=by omega
  have ej:j=b:=by omega
  clear hij g1 g2 g3;subst ei;by_cases hlt:i<l.length
  ·have hc:=gI (l.getD i default) v (hs _ (ay hlt)) hv;have ix:=fj hlt;have dlt:decide ((i:Int)<(l.length:Int))=true:=a8 (by omega);have dij:decide ((i:Int)<(j:Int))=false:=bc (by omega);refine wnZ (zI6 @bf @aU @ah @ix @dlt @dij) ?_;refine bM (ag (.int _ _) (ag (ci ?_) ak));rw[a8 hlt,Bool.true_and]
  ·have dlt:decide ((i:Int)<(l.length:Int))=false:=bc (by omega);have dij:decide ((i:Int)<(j:Int))=false:=bc (by omega);refine wnZ (zI5 @bf @aU @ah @dlt @dij) ?_;refine bM (ag (.int _ _) (ag (ci ?_) ak));rw[bc hlt,Bool.false_and]
end Go.Proofs.YtekdaafnjdlenaaGreat
namespace Go.Proofs.YtekdaafnjdlenaaGreat
open Go Go.Abs
def bD(l:List Nat):List Int:=l.map fun(n:Nat)=>(n:Int)
def dV(c:Int)(rows:List (List Int)):AV:=.agg [.int .i64 c,bF rows]
theorem dl(c:Int)(rows:List (List Int)):Dat (dV c rows):=Dat.agg (DatL.cons .int (DatL.cons (mH _) DatL.nil))
structure MatOk(H:Hp)(b lo hi n:Nat)(F:Nat→List Nat)(vs:List AV):Prop where
 box:H b=some vs
 len:vs.length=n
 row:∀j,j<n→Row H 1 (vs.getD j .undef) ((F j).map An)
 bnd:∀j B,j<n→bZ (vs.getD j .undef)=some B→lo≤B∧B<hi∧B≠b
 apart:∀i j B,i<n→j<n→i≠j→bZ (vs.getD i .undef)=some B→bZ (vs.getD j .undef)≠some B
theorem MatOk.same{H H':Hp}{b lo hi hi' n:Nat}{F G:Nat→List Nat}{vs:List AV}(h:MatOk H b lo hi n F vs)(hb:H' b=H b)(hs:∀x,lo≤x→x<hi→x≠b→H' x=H x)(hh:hi≤hi')(hG:∀j,j<n→G j=F j):MatOk H' b lo hi' n G vs:=
 ⟨hb.trans h.box,h.len,fun j hj=>by rw[hG j hj];exact(h.row j hj).same fun B hB=>by have:=h.bnd j B hj hB;exact hs B this.1 this.2.1 this.2.2,fun j B hj hB=>by have:=h.bnd j B hj hB;exact⟨this.1,by omega,this.2.2⟩,h.apart⟩
theorem MatOk.put{H H':Hp}{b lo hi hi' n i x:Nat}{F G:Nat→List Nat}{vs:List AV}{sv:AV}(h:MatOk H b lo hi n F vs)(hin:i<n)(hG:∀j,j<n→G j=if j=i then F j++[x] else F j)(hrow:Row H' 1 sv ((F i++[x]).map An))(hB:∀B,bZ sv=some B→bZ (vs.getD i .undef)=some B∨hi≤B∧B<hi'∧B≠b)(hb:H' b=some (vs.set i sv))
    (hs:∀x,lo≤x→x<hi→x≠b→bZ (vs.getD i .undef)≠some x→H' x=H x) (hh:hi≤hi') (hlo:lo≤hi):MatOk H' b lo hi' n G (vs.set i sv):=by
 have hl:=h.len;have hg:∀j,(vs.set i sv).getD j .undef=if i=j then sv else vs.getD j .undef:=fun j=>qD (by omega)
 refine⟨hb,by simp[hl],fun j hj=>?_,fun j B hj=>?_,fun p q B hp hq hpq=>?_⟩
 ·rw[hg,hG j hj];by_cases e:i=j
  ·rw[if_pos e,if_pos e.symm,←e];exact hrow
  ·rw[if_neg e,if_neg (fun h=>e h.symm)]
   exact(h.row j hj).same fun B hB'=>by
    have:=h.bnd j B hj hB';exact hs B this.1 this.2.1 this.2.2 fun h'=>h.apart i j B hin hj e h' hB'
 ·rw[hg];by_cases e:i=j
  ·rw[if_pos e];intro hB';rcases hB B hB' with h'|h'
   ·have:=h.bnd _ B hin h';exact⟨this.1,by omega,this.2.2⟩
   ·exact⟨by omega,h'.2⟩
  ·rw[if_neg e];intro hB';have:=h.bnd j B hj hB';exact⟨this.1,by omega,this.2.2⟩
 ·rw[hg,hg];by_cases e1:i=p
  ·rw[if_pos e1,if_neg (by omega)];intro h1 h2;rcases hB B h1 with h'|h'
   ·exact h.apart i q B hin hq (by omega) h' h2
   ·have:=h.bnd q B hq h2;omega
  ·rw[if_neg e1];by_cases e2:i=q
   ·rw[if_pos e2];intro h1 h2;rcases hB B h2 with h'|h'
    ·exact h.apart p i B hp hin (by omega) h1 h'
    ·have:=h.bnd p B hp h1;omega
   ·rw[if_neg e2];exact h.apart p q B hp hq hpq
theorem MatOk.snap{H:Hp}{b lo hi n:Nat}{F:Nat→List Nat}{vs:List AV}(h:MatOk H b lo hi n F vs):Snap H (.msl b n 1 0 n) (bF ((List.range n).map fun i=>bD (F i))):=by
 refine jW (l:=((List.range n).map fun i=>bD (F i)).map aE) h.box h.len (by omega) (by simp) (fun y hy=>?_) (fun i a c ha hc=>?_)
 ·obtain⟨z,_,rfl⟩:=bE.1 hy;rfl
 ·have hin:i<n:=by
    have:=(bS.1 hc).1;simpa using this
  have hr:=h.row i hin;rw[cf] at ha;have e1:vs.getD i .undef=a:=by rw[List.getD_eq_getElem?_getD,ha];rfl
  rw[e1] at hr
  have e2:c=aE (bD (F i)):=by
   rw[lz,lz,List.getElem?_range hin] at hc;simpa using hc.symm
  rw[e2];exact E6 hr
theorem MatOk.new{H:Hp}{b lo hi n:Nat}{F:Nat→List Nat}(hb:H b=some (List.replicate n .esl))(hF:∀j,j<n→F j=[]):MatOk H b lo hi n F (List.replicate n .esl):=by
 have hg:∀j,j<n→(List.replicate n AV.esl).getD j .undef=.esl:=fun j hj=>by simp[List.getD,List.getElem?_replicate,hj]
 refine⟨hb,by simp,fun j hj=>?_,fun j B hj h=>?_,fun i j B hi hj _ h=>?_⟩
 ·rw[hg j hj,hF j hj];exact Row.nil
 ·rw[hg j hj] at h;cases h
 ·rw[hg i hi] at h;cases h
theorem jF{H:Hp}{s:AV}{c:Int}{l:List (List Int)}{e f:Int}(h:Snap H s (bF l))(he:e=f):Snap H (.tup [.agg [.int .i64 c,s],.int .i64 e]) (.tup [dV c l,.int .i64 f]):=by
 subst he;exact bM (ag (ul (ag (.int _ _) (ag h ak))) (ag (.int _ _) ak))
theorem xZ{c:List Spx}{k:Nat}{s:Spx}:s∈jr c k↔ ∃t∈c,s∈cE t k:=by
 unfold jr;rw[pi,oW]
theorem EP{c:List Spx}{k:Nat}:bQ bH (jr c k):=ss ji _
theorem oq{c:List Spx}{k:Nat}(h:c.length≤50)(h8:∀s∈c,s.length≤8):(jr c k).length≤3500:=fB yI (fB (oC h8) (by omega))
attribute [local irreducible] aH ai be aY aP aQ aD aR aZ bl Go.Abs.Fn aX Go.Abs.Pure aq aK Yl
end Go.Proofs.YtekdaafnjdlenaaGreat
namespace Go.Proofs.YtekdaafnjdlenaaGreat
open Go Go.Abs
open Nat (reduceEqDiff reduceAdd reduceLeDiff)
theorem Bh{x:Int}{l:List Int}:lw 1 (aE (x::l)) (some (.int .i64 1)) none none=some (aE l):=kB (l:=x::l) (k:=1) (by simp)
theorem HN{x:Int}{l:List Int}:ey 1 (aE (x::l)) (.int .i64 0)=some (.iptr [.int .i64 x] 0):=by
 rw[mJ,if_pos ⟨Int.le_refl _,by simp only[bO];omega⟩];rfl
theorem p6{P:Program}{T:Tm}{H:Hp}{nx:Nat}{dm:DM}{K:SP}{l:List Op2}{d:Option Nat}{bytes b N len n:Nat}{s x:Opd}{v:AV}{new C cs:List AV}(hd:dm2 dm T (.app 1 bytes s x)=true)(hs:ov T s=.msl b N 1 0 len)(hb:H b=some C)(hN:C.length=N)(htk:C.take len=cs)(hcl:cs.length=len)(hx:ov T x=v)(hsrc:er 1 H v=some (n,new))(ho:AV.ones new=true)(hnl:new.length=n)(hle:len+n≤N)(h1:N*bytes≤140737488355328)(h2:N≤9223372036854775807)
    (next:∀C':List AV,C'.length=N→C'.take (len+n)=cs++new→ai P dm l (aL T d (.msl b N 1 0 (len+n))) (ap H b C') nx K):
    ai P dm (⟨d,none,.app 1 bytes s x⟩::l) T H nx K:=by
 by_cases e:len=N
 ·obtain rfl:n=0:=by omega
  obtain rfl:new=[]:=List.eq_nil_of_length_eq_zero hnl;subst e;refine zI hd hs hb hx hsrc ho hN (Nat.mul_one _).symm h1 (by omega) ?_;rw[oE,Nat.mul_one];exact next _ (by rw[io];exact hN) (by rw[io,io,oE];exact htk)
 ·refine AP hd hs hb hx hsrc ho hN (fun _=>by omega) (by omega) (by omega) ?_;refine next _ ?_ ?_
  ·rw[hJ (by rw[hnl,hN];omega)];exact hN
  ·simp only[bK,cf,Nat.mul_one];rw[htk,G1 (by rw[du,hcl,hnl];omega),gz (by rw[du,hcl,hnl];omega)]
theorem vO{H:Hp}{b N len:Nat}{C:List AV}{R:List Int}(hb:H b=some C)(hN:C.length=N)(hle:len≤N)(hR:R.length=len)(h:C.take len=R.map (AV.int .i64)):Snap H (.msl b N 1 0 len) (aE R):=by
 refine jW (l:=R.map (AV.int .i64)) hb hN (by omega) (by simp[hR]) (fun y hy=>?_) (fun i a c ha hc=>?_)
 ·obtain⟨z,_,rfl⟩:=bE.1 hy;rfl
 ·have hin:i<len:=by have:=(bS.1 hc).1;rw[bz] at this;omega
  rw[←h,iC,if_pos hin] at hc;rw[cf,hc] at ha;cases ha
  have hm:a∈R.map (AV.int .i64):=by
   rw[←h];exact gw (i:=i) (by rw[iC,if_pos hin];exact hc)
  obtain⟨z,_,rfl⟩:=bE.1 hm;exact .int _ _
def bX:List Int→List Int→List Int
 |[],b=>b
 |x::a,[]=>x::a
 |x::a,y::b=>if x<y then x::bX a (y::b) else if y<x then y::bX (x::a) b else bX a b
termination_by a b=>a.length+b.length
theorem kT{b:List Int}:bX [] b=b:=by rw[bX]
theorem gG{a:List Int}:bX a []=a:=by cases a<;>rw[bX]
theorem og{x y:Int}{a b:List Int}:bX (x::a) (y::b)=if x<y then x::bX a (y::b) else if y<x then y::bX (x::a) b else bX a b:=by rw[bX]
theorem oQ:∀(n:Nat)(a b:List Int),a.length+b.length≤n→(bX a b).length≤a.length+b.length
 |_,[],b,_=>by rw[kT];simp
 |_,x::a,[],_=>by rw[gG];simp
 |0,x::a,y::b,h=>by simp only[bO] at h;omega
 |n+1,x::a,y::b,h=>by
  simp only[bO] at h ⊢;rw[og];have h1:=oQ n a (y::b) (by simp only[bO];omega);have h2:=oQ n (x::a) b (by simp only[bO];omega);have h3:=oQ n a b (by omega);simp only[bO] at h1 h2;split
  ·simp only[bO];omega
  split
  ·simp only[bO];omega
  ·omega
attribute [local irreducible] aH ai be aY aP aQ aD aR aZ bl Go.Abs.Fn aX Go.Abs.Pure aq aK Yl
theorem pH(x:List Int)(n:Int)(hx:x.length≤1000000)(hr:∀v∈x,0≤v∧v<n)(ha:∀i,i+1<x.length→x.getD i default<x.getD (i+1) default):pU 114 [aE x,.int .i64 n] (.int .i64 0):=by
 refine pO LW ?_;simp only[Ly,aJ];refine wnZ and_self ?_;refine nG (X:=Nat) (fun k=>[(0,aE x),(1,.int .i64 n),(7,aE x),(8,.int .i64 x.length),(9,.int .i64 k)]) (fun k=>k≤x.length) (fun k=>x.length-k) 0 (bR _) ag0 ?_;intro k hk;by_cases hk2:k<x.length
 rotate_left
 ·refine wnZ and_self ?_;exact .int _ _
 have h1:=hr _ (a5 hk2);have z1:decide (x.getD k default<0)=false:=bc (by omega);have z2:decide (n≤x.getD k default)=false:=bc (by omega);by_cases hk0:0<k
 rotate_left
 ·have zk:decide (0<(k:Int))=false:=bc (by omega);refine wnZ (zI3 @z1 @z2 @zk) ?_;exact⟨k+1,by omega,by omega,ag0,rfl,rfl⟩
 have zk:decide (0<(k:Int))=true:=a8 (by omega);have h2:=ha (k-1) (by omega);rw[show k-1+1=k by omega] at h2
 have iy:ey 1 (aE x) (.int .i64 ((k:Int)-1))=some (.iptr [.int .i64 (x.getD (k-1) default)] 0):=by
  rw[mJ,if_pos ⟨by omega,by omega⟩,show((k:Int)-1).toNat=k-1 by omega]
 have z3:decide (x.getD k default≤x.getD (k-1) default)=false:=bc (by omega);refine wnZ (zI5 @z1 @z2 @zk @iy @z3) ?_;exact⟨k+1,by omega,by omega,ag0,rfl,rfl⟩
def ia(c:Int)(R:List (List Int)):Prop:=0≤c∧c≤4096∧R.length≤4096∧∀r∈R,(∀v∈r,0≤v∧v<c)∧r.length≤4096∧∀i,i+1<r.length→r.getD i default<r.getD (i+1) default
theorem lh(c:Int)(R:List (List Int))(h:ia c R):pU 113 [.agg [.int .i64 c,bF R]] (.int .i64 0):=by
 refine pO Mf ?_;simp only[Kn,aJ];obtain⟨h1,h2,h3,h4⟩:=h;have z1:decide (c<0)=false:=bc (by omega);have z2:decide (4096<c)=false:=bc (by omega);have z3:decide ((4096:Int)<R.length)=false:=bc (by omega);refine wnZ (zI3 @z1 @z2 @z3) ?_;refine nG (X:=Nat) (fun k=>[(1,.ptr 0 2 0),(21,bF R),(22,.int .i64 R.length),(23,.int .i64 k)]) (fun k=>k≤R.length) (fun k=>R.length-k) 0 (bR _) (by(iterate 4 refine And.intro rfl ?_);trivial) ?_;intro k hk;by_cases hk2:k<R.length
 rotate_left
 ·refine wnZ and_self ?_;exact .int _ _
 obtain⟨r1,r2,r3⟩:=h4 _ (a5 hk2);have hv:=pH (R.getD k default) c (by omega) r1 r3;have z0:decide ((0:Int)≠0)=false:=rfl;refine wnZ @z0 ?_;exact⟨k+1,by omega,by omega,ag0,rfl,rfl⟩
theorem vP(a b:List Int)(ha:a.length≤1000000000000)(hb:b.length≤1000000000000):pU 124 [aE a,aE b] (aE (bX a b)):=by
 refine pO JZ ?_;simp only[K4,aJ];refine wnZ and_self ?_;refine xL (k1:=.i64) (k2:=.i64) (n:=0) (m:=(a.length:Int)+b.length) rfl ev0 ev0 (Int.le_refl _) (by omega) (by omega) (by omega) ?_;rw[show((a.length:Int)+b.length).toNat=a.length+b.length by omega];have hz:(bo (AV.agg [AV.int .i64 0]) (a.length+b.length)).length=a.length+b.length:=by simp[bo,AV.cells]
 generalize hN:a.length+b.length=N at *;refine wnZ and_self ?_;refine b0 (X:=List Int×List Int×List Int×Nat) (fun x=>[(0,aE x.1),(1,aE x.2.1),(5,.msl 0 N 1 0 x.2.2.2)]) (fun x H nx=>1≤nx∧x.2.2.1.length=x.2.2.2∧x.2.2.2+x.1.length+x.2.1.length≤N∧x.2.2.1++bX x.1 x.2.1=bX a b∧∃C,H 0=some C∧C.length=N∧C.take x.2.2.2=x.2.2.1.map (AV.int .i64)) (fun x=>x.1.length+x.2.1.length) (a,b,[],0) ⟨aO _,rfl,by dsimp only;omega,rfl,_,af,hz,rfl⟩ (by refine⟨rfl,rfl,?_,trivial⟩;((try simp only[b5,ZA,reduceEqDiff,↓reduceIte,reduceAdd,reduceLeDiff]);(try with_reducible rfl));rfl) ?_;rintro⟨a',b',D,k⟩ H nx ⟨h1,h2,h3,h4,C,h5,h6,h7⟩;dsimp only at h1 h2 h3 h4 h7 ⊢;have hDl:(D.map (AV.int .i64)).length=k:=by rw[bz];exact h2
 have hfin:(a'=[]∨b'=[])→D++(a'++b')=bX a b:=fun h=>by
  rcases h with rfl|rfl
  ·rw[kT] at h4;exact h4
  ·rw[gG] at h4;rw[io];exact h4
 by_cases hne:a'=[]∨b'=[]
 ·have h4:=hfin hne;clear hfin
  have y1:decide ((0:Int)<a'.length)=false∨decide ((0:Int)<a'.length)=true∧decide ((0:Int)<b'.length)=false:=by
   rcases hne with rfl|rfl
   ·exact .inl rfl
   ·by_cases h:a'=[]
    ·subst h;exact .inl rfl
    ·exact .inr ⟨a8 (by have:=gK.2 h;omega),rfl⟩
  rcases y1 with y1|⟨y1,y2⟩
  ·refine wnY @y1 ?_;refine p6 (b:=0) (N:=N) (len:=k) (n:=a'.length) (new:=a'.map (AV.int .i64)) rfl ev0 h5 h6 h7 hDl ev0 f8 ij (by rw[bz]) (by omega) (by omega) (by omega) fun C2 c1 c2=>?_;refine wnY and_self ?_;refine p6 (b:=0) (N:=N) (len:=k+a'.length) (n:=b'.length) (new:=b'.map (AV.int .i64)) rfl ev0 af c1 c2 (by rw[du,hDl,bz]) ev0 f8 ij (by rw[bz]) (by omega) (by omega) (by omega) fun C3 c3 c4=>?_;refine wnY and_self ?_;rw[←h4];exact vO af c3 (by omega) (by simp only[du];omega) (by rw[←pF,c4,dw,dw,uo])
  ·refine wnY (aI @y1 @y2) ?_;refine p6 (b:=0) (N:=N) (len:=k) (n:=a'.length) (new:=a'.map (AV.int .i64)) rfl ev0 h5 h6 h7 hDl ev0 f8 ij (by rw[bz]) (by omega) (by omega) (by omega) fun C2 c1 c2=>?_;refine wnY and_self ?_;refine p6 (b:=0) (N:=N) (len:=k+a'.length) (n:=b'.length) (new:=b'.map (AV.int .i64)) rfl ev0 af c1 c2 (by rw[du,hDl,bz]) ev0 f8 ij (by rw[bz]) (by omega) (by omega) (by omega) fun C3 c3 c4=>?_;refine wnY and_self ?_;rw[←h4];exact vO af c3 (by omega) (by simp only[du];omega) (by rw[←pF,c4,dw,dw,uo])
 have ha0:a'≠[]:=fun h=>hne (.inl h);have hb0:b'≠[]:=fun h=>hne (.inr h);clear hfin hne;obtain⟨x,a2,rfl⟩:=List.exists_cons_of_ne_nil ha0;obtain⟨y,b2,rfl⟩:=List.exists_cons_of_ne_nil hb0;rw[og] at h4;have la:(x::a2).length=a2.length+1:=rfl;have lb:(y::b2).length=b2.length+1:=rfl;have i1:=HN (x:=x) (l:=a2);have i2:=HN (x:=y) (l:=b2);have s1:=Bh (x:=x) (l:=a2);have s2:=Bh (x:=y) (l:=b2);generalize hA:x::a2=A at *;generalize hB:y::b2=B at *;have y1:decide ((0:Int)<A.length)=true:=a8 (by omega);have y2:decide ((0:Int)<B.length)=true:=a8 (by omega);by_cases g1:x<y
 ·rw[if_pos g1] at h4;have z1:decide (x<y)=true:=a8 g1;refine wnY (zI5 @i1 @i2 @y1 @y2 @z1) ?_;refine p6 (b:=0) (N:=N) (len:=k) (n:=1) (new:=[.int .i64 x]) rfl ev0 (by rw[ac (by omega)];exact h5) h6 h7 hDl ev0 i9 rfl rfl (by omega) (by omega) (by omega) fun C2 c1 c2=>?_;refine wnY @s1 ?_;exact⟨(a2,B,D++[x],k+1),by dsimp only;omega,⟨by omega,by simp[h2],by dsimp only;omega,by simpa using h4,C2,af,c1,by rw[c2,dw];rfl⟩,ag0⟩
 rw[if_neg g1] at h4;have z1:decide (x<y)=false:=bc g1;by_cases g2:y<x
 ·rw[if_pos g2] at h4;have z2:decide (y<x)=true:=a8 g2;refine wnY (zI6 @i1 @i2 @y1 @y2 @z1 @z2) ?_;refine p6 (b:=0) (N:=N) (len:=k) (n:=1) (new:=[.int .i64 y]) rfl ev0 (by rw[ac (by omega)];exact h5) h6 h7 hDl ev0 i9 rfl rfl (by omega) (by omega) (by omega) fun C2 c1 c2=>?_;refine wnY @s2 ?_;exact⟨(A,b2,D++[y],k+1),by dsimp only;omega,⟨by omega,by simp[h2],by dsimp only;omega,by simpa using h4,C2,af,c1,by rw[c2,dw];rfl⟩,ag0⟩
 rw[if_neg g2] at h4;have z2:decide (y<x)=false:=bc g2;refine wnY (zI8 @i1 @i2 @s1 @s2 @y1 @y2 @z1 @z2) ?_;exact⟨(a2,b2,D,k),by dsimp only;omega,⟨by omega,h2,by dsimp only;omega,h4,C,h5,h6,h7⟩,ag0⟩
end Go.Proofs.YtekdaafnjdlenaaGreat
namespace Go.Proofs.YtekdaafnjdlenaaGreat
open Go Go.Abs
attribute [local irreducible] aH ai be aY aP aQ aD aR aZ bl Go.Abs.Fn aX Go.Abs.Pure aq aK Yl
end Go.Proofs.YtekdaafnjdlenaaGreat
namespace Go.Proofs.YtekdaafnjdlenaaGreat
open Go Go.Abs
theorem Jc{H:Hp}{s:AV}{l:List Spx}(h:Row H 1 s (l.map aC)):∃Hf H',Fz Hf H H'∧Snap Hf s (an l)∧∀x,bZ s≠some x→H' x=H x:=by
 generalize hcs:l.map aC=cs at h;cases h with
 |nil=>exact⟨cz,H,Fz.none,kw (by rw[hcs];exact Row.nil),fun _ _=>rfl⟩
 |box b len cs g1 g2=>exact⟨only b cs,dr H b,Fz.one g1,kw (by rw[hcs];exact Row.box b len cs nf g2),fun x hx=>cQ (fun e=>hx (by rw[e];rfl))⟩
attribute [local irreducible] aH ai be aY aP aQ aD aR aZ bl Go.Abs.Fn aX Go.Abs.Pure aq aK Yl
end Go.Proofs.YtekdaafnjdlenaaGreat
namespace Go.Proofs.YtekdaafnjdlenaaGreat
open Go Go.Abs
def bd(l:List Int):Prop:=l.Pairwise (· < ·)
theorem jl:∀(n:Nat)(a b:List Int),a.length+b.length≤n→bd a→bd b→bd (bX a b)∧∀z,z∈bX a b↔(z∈a∧z∉b)∨(z∈b∧z∉a)
 |_,[],b,_,_,hb=>by rw[kT];exact⟨hb,fun z=>by simp⟩
 |_,x::a,[],_,ha,_=>by rw[gG];exact⟨ha,fun z=>by simp⟩
 |0,x::a,y::b,h,_,_=>by simp only[bO] at h;omega
 |n+1,x::a,y::b,h,ha,hb=>by
  simp only[bO] at h;obtain⟨a1,a2⟩:=hU.1 ha;obtain⟨b1,b2⟩:=hU.1 hb;rw[og];by_cases g1:x<y
  ·rw[if_pos g1];obtain⟨h1,h2⟩:=jl n a (y::b) (by simp only[bO];omega) a2 hb
   have hxb:∀z∈y::b,x<z:=fun z hz=>by
    rcases cR.1 hz with rfl|hz
    ·exact g1
    ·have:=b1 z hz;omega
   refine⟨hU.2 ⟨fun z hz=>?_,h1⟩,fun z=>?_⟩
   ·rcases(h2 z).1 hz with⟨q,_⟩|⟨q,_⟩
    ·exact a1 z q
    ·exact hxb z q
   ·rw[cR,h2,cR (a:=z) (b:=x)];by_cases hz:z=x
    ·subst hz;have:z∉y::b:=fun q=>by have:=hxb z q;omega
     simp[this]
    ·simp[hz]
  rw[if_neg g1];by_cases g2:y<x
  ·rw[if_pos g2];obtain⟨h1,h2⟩:=jl n (x::a) b (by simp only[bO];omega) ha b2
   have hya:∀z∈x::a,y<z:=fun z hz=>by
    rcases cR.1 hz with rfl|hz
    ·exact g2
    ·have:=a1 z hz;omega
   refine⟨hU.2 ⟨fun z hz=>?_,h1⟩,fun z=>?_⟩
   ·rcases(h2 z).1 hz with⟨q,_⟩|⟨q,_⟩
    ·exact hya z q
    ·exact b1 z q
   ·rw[cR,h2,cR (a:=z) (b:=y)];by_cases hz:z=y
    ·subst hz;have:z∉x::a:=fun q=>by have:=hya z q;omega
     simp[this]
    ·simp[hz]
  rw[if_neg g2];obtain rfl:x=y:=by omega
  obtain⟨h1,h2⟩:=jl n a b (by omega) a2 b2;refine⟨h1,fun z=>?_⟩;rw[h2];by_cases hz:z=x
  ·subst hz;have q1:z∉a:=fun q=>by have:=a1 z q;omega
   have q2:z∉b:=fun q=>by have:=b1 z q;omega
   simp[q1,q2]
  ·simp[hz]
theorem CH{a b:List Int}(ha:bd a)(hb:bd b)(h:∀x,x∈a↔x∈b):a=b:=by
 have na:a.Nodup:=uH (fun{x y}(h:x<y) e=>by omega) ha;have nb:b.Nodup:=uH (fun{x y}(h:x<y) e=>by omega) hb;exact List.Perm.eq_of_pairwise (fun x y _ _ h1 h2=>by omega) ha hb ((List.perm_ext_iff_of_nodup na nb).2 h)
theorem ui{l:List Int}(h:bd l)(i:Nat)(hi:i+1<l.length):l.getD i default<l.getD (i+1) default:=by
 have:=(jT.1 h) i (i+1) (by omega) hi (by omega);simpa[List.getD,hi,show i<l.length by omega] using this
theorem oY:∀{a b:List Int},bd a→bd b→(∀z,z∈a↔z∈b)→a=b
 |[],[],_,_,_=>rfl
 |[],y::b,_,_,h=>absurd ((h y).2 (cJ ..)) (by simp)
 |x::a,[],_,_,h=>absurd ((h x).1 (cJ ..)) (by simp)
 |x::a,y::b,ha,hb,h=>by
  obtain⟨a1,a2⟩:=hU.1 ha;obtain⟨b1,b2⟩:=hU.1 hb
  have e:x=y:=by
   rcases cR.1 ((h x).1 (cJ ..)) with e|e
   ·exact e
   ·rcases cR.1 ((h y).2 (cJ ..)) with e2|e2
    ·exact e2.symm
    ·have:=b1 _ e;have:=a1 _ e2;omega
  subst e
  congr 1
  refine oY a2 b2 fun z=>⟨fun hz=>?_,fun hz=>?_⟩
  ·rcases cR.1 ((h z).1 (dL _ hz)) with e|e
   ·have:=a1 z hz;omega
   ·exact e
  ·rcases cR.1 ((h z).2 (dL _ hz)) with e|e
   ·have:=b1 z hz;omega
   ·exact e
theorem dU{a b:List Int}(ha:bd a)(hb:bd b):bd (bX a b):=(jl _ a b (aO _) ha hb).1
def bit(z:Int)(a:List Int):Nat:=if z∈a then 1 else 0
theorem fP{z:Int}:bit z []=0:=by simp[bit]
theorem gu{z:Int}{a:List Int}:bit z a<2:=by unfold bit;split<;>omega
theorem dF{z:Int}{a:List Int}:bit z a=1↔z∈a:=by unfold bit;split<;>simp[*]
theorem dE{a b:List Int}{z:Int}(ha:bd a)(hb:bd b):bit z (bX a b)=(bit z a+bit z b)%2:=by
 unfold bit;have h:=(jl _ a b (aO _) ha hb).2 z;by_cases h1:z∈a<;>by_cases h2:z∈b<;>simp[h,h1,h2]
theorem iS{a b:List Int}(ha:bd a)(hb:bd b)(h:∀z,bit z a=bit z b):a=b:=
 oY ha hb fun z=>by rw[←dF,←dF,h z]
theorem ow{a:List Int}(h:∀z,bit z a=0):a=[]:=by
 cases a with
 |nil=>rfl
 |cons x l=>exact absurd (h x) (by rw[dF.2 (cJ ..)];decide)
def ld(r:List Int):Int:=r.getD 0 0
theorem dj{v:List Int}(h:v≠[]):ld v∈v:=by
 cases v with
 |nil=>exact absurd rfl h
 |cons x l=>exact cJ ..
theorem nI{v:List Int}(h:bd v){z:Int}(hz:z∈v):ld v≤z:=by
 cases v with
 |nil=>cases hz
 |cons x l=>
  rcases cR.1 hz with rfl|hz
  ·exact Int.le_refl _
  ·exact Int.le_of_lt ((hU.1 h).1 z hz)
inductive Sp(R:List (List Int)):List Int→Prop
 |nil:Sp R []
 |add {v r:List Int}:Sp R v→r∈R→Sp R (bX v r)
theorem eC{R:List (List Int)}{r:List Int}(h:r∈R):Sp R r:=by
 have:=Sp.add (Sp.nil (R:=R)) h
 rwa [kT] at this
def nS(z:Int)(p:List Int→Bool):List (List Int)→Nat
 |[]=>0
 |r::E=>(if p r=true then bit z r else 0)+nS z p E
theorem nU{z:Int}{p q:List Int→Bool}:∀{E:List (List Int)},(∀r∈E,p r=q r)→nS z p E=nS z q E
 |[],_=>rfl
 |r::E,h=>by
  unfold nS;rw[h r (cJ ..),nU fun x hx=>h x (dL _ hx)]
theorem sR{z:Int}{p:List Int→Bool}:∀{E:List (List Int)},nS z p E≠0→∃q∈E,p q=true∧z∈q
 |[],h=>absurd rfl h
 |r::E,h=>by
  unfold nS at h;by_cases h1:p r=true∧z∈r
  ·exact⟨r,cJ ..,h1⟩
  ·have:nS z p E≠0:=fun e=>by
     rw[e] at h;by_cases h2:p r=true
     ·rw[if_pos h2] at h;have:bit z r=1:=by have:=gu (z:=z) (a:=r);omega
      exact h1 ⟨h2,dF.1 this⟩
     ·rw[if_neg h2] at h;exact h rfl
   obtain⟨q,q1,q2⟩:=sR this;exact⟨q,dL _ q1,q2⟩
theorem mZ{z:Int}{p:List Int→Bool}{E:List (List Int)}(h:∀q∈E,p q=true→z∉q):nS z p E=0:=
 Decidable.byContradiction fun e=>by
  obtain⟨q,q1,q2,q3⟩:=sR e;exact h q q1 q2 q3
theorem zX{z:Int}{p:List Int→Bool}{r:List Int}:∀{E:List (List Int)},E.Nodup→r∈E→nS z (fun q=>(p q).xor (decide (q=r))) E%2=(nS z p E+bit z r)%2
 |[],_,h=>by cases h
 |q::E,hn,h=>by
  obtain⟨n1,n2⟩:=List.nodup_cons.1 hn;unfold nS;by_cases e:q=r
  ·subst e
   rw [nU (q:=p) (fun x hx=>by
    have:x≠q:=fun e=>n1 (e▸hx);simp[this])]
   cases hp:p q<;>simp <;>have:=gu (z:=z) (a:=q)<;>omega
  ·have h2:r∈E:=(cR.1 h).resolve_left fun x=>e x.symm;have:=zX (z:=z) (p:=p) n2 h2;simp only[e,decide_false,Bool.xor_false];omega
theorem sX{z:Int}{p:List Int→Bool}{r:List Int}:∀{E:List (List Int)},E.Nodup→r∈E→z∈r→(∀q∈E,z∈q→q=r)→nS z p E=if p r=true then 1 else 0
 |[],_,h,_,_=>by cases h
 |q::E,hn,h,hz,ho=>by
  obtain⟨n1,n2⟩:=List.nodup_cons.1 hn;unfold nS;by_cases e:q=r
  ·subst e;rw[mZ (fun x hx _ hzx=>n1 (ho x (dL _ hx) hzx▸hx)),dF.2 hz,oE]
  ·have h2:r∈E:=(cR.1 h).resolve_left fun x=>e x.symm;have hq:z∉q:=fun x=>e (ho q (cJ ..) x);rw[sX n2 h2 hz fun x hx=>ho x (dL _ hx),show bit z q=0 by unfold bit;rw[if_neg hq]];simp
theorem wL{E:List (List Int)}{v:List Int}(hE:∀r∈E,bd r)(hn:E.Nodup)(h:Sp E v):bd v∧∃p,∀z,bit z v=nS z p E%2:=by
 induction h with
 |nil=>exact⟨pr,fun _=>false,fun z=>by rw[fP,mZ (p:=fun _=>false) fun q _ h=>by cases h]⟩
 | @add w r h1 h2 ih=>
  obtain⟨ha,p,hp⟩:=ih;refine⟨dU ha (hE _ h2),fun q=>(p q).xor (decide (q=r)),fun z=>?_⟩;rw[dE ha (hE _ h2),hp z,zX hn h2];omega
theorem kV{R:List (List Int)}{v:List Int}(hR:∀r∈R,bd r)(h:Sp R v):bd v:=by
 induction h with
 |nil=>exact pr
 |add h1 h2 ih=>exact dU ih (hR _ h2)
structure Red(E:List (List Int)):Prop where
 asc:∀r∈E,bd r
 ne:∀r∈E,r≠[]
 own:∀r∈E,∀q∈E,ld r∈q→q=r
 ord:E.Pairwise fun r q=>ld r<ld q
theorem Red.nodup{E:List (List Int)}(h:Red E):E.Nodup:=uH (fun{x y}(q:ld x<ld y) e=>by rw[e] at q;omega) h.ord
theorem Red.cnt{E:List (List Int)}(h:Red E){p:List Int→Bool}{r:List Int}(hr:r∈E):nS (ld r) p E=if p r=true then 1 else 0:=
 sX h.nodup hr (dj (h.ne r hr)) fun q hq hz=>h.own r hr q hq hz
theorem GL{E:List (List Int)}{v w:List Int}(hE:Red E)(hv:Sp E v)(hw:Sp E w)(h:∀r∈E,ld r∈v↔ld r∈w):v=w:=by
 obtain⟨av,p,hp⟩:=wL hE.asc hE.nodup hv;obtain⟨aw,q,hq⟩:=wL hE.asc hE.nodup hw;refine iS av aw fun z=>?_;rw[hp z,hq z]
 congr 1
 refine nU fun r hr=>?_;have h1:=h r hr;rw[←dF,←dF,hp,hq,hE.cnt hr,hE.cnt hr] at h1;cases h2:p r<;>cases h3:q r<;>simp[h2,h3] at h1<;>rfl
theorem yt{p:List Int→Bool}:∀{E:List (List Int)},E.Pairwise (fun r q=>ld r<ld q)→(∃r∈E,p r=true)→∃r∈E,p r=true∧∀q∈E,p q=true→ld r≤ld q
 |[],_,h=>by obtain⟨_,h,_⟩:=h;cases h
 |x::E,ho,h=>by
  obtain⟨o1,o2⟩:=hU.1 ho;by_cases hx:p x=true
  ·refine⟨x,cJ ..,hx,fun q hq _=>?_⟩;rcases cR.1 hq with rfl|hq
   ·exact Int.le_refl _
   ·exact Int.le_of_lt (o1 q hq)
  ·obtain⟨r,hr,hp⟩:=h;have hrE:r∈E:=(cR.1 hr).resolve_left fun e=>hx (e▸hp);obtain⟨s,s1,s2,s3⟩:=yt o2 ⟨r,hrE,hp⟩;refine⟨s,dL _ s1,s2,fun q hq hpq=>?_⟩;rcases cR.1 hq with rfl|hq
   ·exact absurd hpq hx
   ·exact s3 q hq hpq
theorem zG{E:List (List Int)}{v:List Int}(hE:Red E)(hv:Sp E v)(h0:v≠[]):∃r∈E,ld r=ld v:=by
 obtain⟨av,p,hp⟩:=wL hE.asc hE.nodup hv
 have hex:∃ r ∈ E,p r=true:=Decidable.byContradiction fun hn=>h0 (ow fun z=>by
  rw[hp z,mZ fun q hq hpq=>absurd ⟨q,hq,hpq⟩ hn])
 obtain⟨r,r1,r2,r3⟩:=yt hE.ord hex;refine⟨r,r1,Int.le_antisymm ?_ ?_⟩
 ·have h1:bit (ld v) v=1:=dF.2 (dj h0);rw[hp] at h1;obtain⟨q,q1,q2,q3⟩:=sR (z:=ld v) (p:=p) (E:=E) (fun e=>by rw[e] at h1;cases h1);exact Int.le_trans (r3 q q1 q2) (nI (hE.asc q q1) q3)
 ·refine nI av (dF.1 ?_);rw[hp,hE.cnt r1,if_pos r2]
theorem vW:∀{E F:List (List Int)},E.map ld=F.map ld→(∀r∈E,∀q∈F,ld r=ld q→r=q)→E=F
 |[],[],_,_=>rfl
 |[],_::_,h,_=>by cases h
 |_::_,[],h,_=>by cases h
 |x::E,y::F,h,hi=>by
  obtain⟨h1,h2⟩:=List.cons.inj h;rw[hi x (cJ ..) y (cJ ..) h1,vW h2 fun r hr q hq=>hi r (dL _ hr) q (dL _ hq)]
theorem sS{E F:List (List Int)}(hE:Red E)(hF:Red F)(h:∀v,Sp E v↔Sp F v):E=F:=by
 have leads:E.map ld=F.map ld:=by
  refine oY (List.pairwise_map.2 hE.ord) (List.pairwise_map.2 hF.ord) fun z=>?_;rw[bE,bE];constructor
  ·rintro⟨r,hr,rfl⟩;exact zG hF ((h r).1 (eC hr)) (hE.ne r hr)
  ·rintro⟨r,hr,rfl⟩;exact zG hE ((h r).2 (eC hr)) (hF.ne r hr)
 refine vW leads fun r hr q hq e=>?_;refine GL hF ((h r).1 (eC hr)) (eC hq) fun f hf=>⟨fun hfr=>?_,fun hfq=>?_⟩
 ·have hm:ld f∈E.map ld:=by rw[leads];exact bE.2 ⟨f,hf,rfl⟩
  obtain⟨g,hg,eg⟩:=bE.1 hm;rw[←eg] at hfr;have h1:=hE.own g hg r hr hfr;rw[←eg,←h1,e];exact dj (hF.ne q hq)
 ·have h1:=hF.own f hf q hq hfq;rw[←h1,←e];exact dj (hE.ne r hr)
abbrev Ln:=List Int×List Int
def kD(f:Ln→List Int)(z:Int)(p:Ln→Bool):List Ln→Nat
 |[]=>0
 |r::E=>(if p r=true then bit z (f r) else 0)+kD f z p E
theorem gU{f:Ln→List Int}{z:Int}{p q:Ln→Bool}:∀{E:List Ln},(∀r∈E,p r=q r)→kD f z p E=kD f z q E
 |[],_=>rfl
 |r::E,h=>by
  unfold kD;rw[h r (cJ ..),gU fun x hx=>h x (dL _ hx)]
theorem nN{f:Ln→List Int}{z:Int}:∀{E:List Ln},kD f z (fun _=>false) E=0
 |[]=>rfl
 |r::E=>by unfold kD;rw[nN];rfl
theorem rY{f:Ln→List Int}{z:Int}{p:Ln→Bool}{r:Ln}:∀{E:List Ln},E.Nodup→r∈E→kD f z (fun q=>(p q).xor (decide (q=r))) E%2=(kD f z p E+bit z (f r))%2
 |[],_,h=>by cases h
 |q::E,hn,h=>by
  obtain⟨n1,n2⟩:=List.nodup_cons.1 hn;unfold kD;by_cases e:q=r
  ·subst e
   rw [gU (q:=p) (fun x hx=>by
    have:x≠q:=fun e=>n1 (e▸hx);simp[this])]
   cases hp:p q<;>simp <;>have:=gu (z:=z) (a:=f q)<;>omega
  ·have h2:r∈E:=(cR.1 h).resolve_left fun x=>e x.symm;have:=rY (f:=f) (z:=z) (p:=p) n2 h2;simp only[e,decide_false,Bool.xor_false];omega
structure RedU(M:List Ln):Prop where
 asc:∀l∈M,bd l.1∧bd l.2
 ne:∀l∈M,l.1≠[]
 own:∀l∈M,∀m∈M,ld l.1∈m.1→m=l
 nodup:M.Nodup
def d4(x l:Ln):Ln:=(bX x.1 l.1,bX x.2 l.2)
def rdL(M:List Ln)(p:Ln→Bool)(x:Ln):Ln:=M.foldl (fun a l=>if p l=true then d4 a l else a) x
def cq(x:Ln):Prop:=bd x.1∧bd x.2
theorem eM{x l:Ln}(hx:cq x)(hl:cq l):cq (d4 x l):=⟨dU hx.1 hl.1,dU hx.2 hl.2⟩
theorem iO{p:Ln→Bool}:∀{M:List Ln}{x:Ln},(∀l∈M,cq l)→cq x→cq (rdL M p x)
 |[],_,_,hx=>hx
 |l::M,x,hM,hx=>by
  unfold rdL;rw[List.foldl_cons];refine iO (M:=M) (fun m hm=>hM m (dL _ hm)) ?_;split
  ·exact eM hx (hM l (cJ ..))
  ·exact hx
theorem kd{p:Ln→Bool}{z:Int}:∀{M:List Ln}{x:Ln},(∀l∈M,cq l)→cq x→bit z (rdL M p x).1=(bit z x.1+kD Prod.fst z p M)%2
 |[],x,_,_=>by
  have:=gu (z:=z) (a:=x.1);show bit z x.1=(bit z x.1+0)%2;omega
 |l::M,x,hM,hx=>by
  have hl:=hM l (cJ ..)
  have hx':cq (if p l=true then d4 x l else x):=by
   split
   ·exact eM hx hl
   ·exact hx
  have ih:=kd (p:=p) (z:=z) (M:=M) (fun m hm=>hM m (dL _ hm)) hx';show bit z (rdL M p (if p l=true then d4 x l else x)).1=(bit z x.1+((if p l=true then bit z l.1 else 0)+kD Prod.fst z p M))%2;rw[ih];clear ih;by_cases h:p l=true
  ·rw[if_pos h,if_pos h];unfold d4;rw[dE hx.1 hl.1];omega
  ·rw[if_neg h,if_neg h];omega
theorem lV{p:Ln→Bool}{z:Int}:∀{M:List Ln}{x:Ln},(∀l∈M,cq l)→cq x→bit z (rdL M p x).2=(bit z x.2+kD Prod.snd z p M)%2
 |[],x,_,_=>by
  have:=gu (z:=z) (a:=x.2);show bit z x.2=(bit z x.2+0)%2;omega
 |l::M,x,hM,hx=>by
  have hl:=hM l (cJ ..)
  have hx':cq (if p l=true then d4 x l else x):=by
   split
   ·exact eM hx hl
   ·exact hx
  have ih:=lV (p:=p) (z:=z) (M:=M) (fun m hm=>hM m (dL _ hm)) hx';show bit z (rdL M p (if p l=true then d4 x l else x)).2=(bit z x.2+((if p l=true then bit z l.2 else 0)+kD Prod.snd z p M))%2;rw[ih];clear ih;by_cases h:p l=true
  ·rw[if_pos h,if_pos h];unfold d4;rw[dE hx.2 hl.2];omega
  ·rw[if_neg h,if_neg h];omega
def eP(x:Ln)(l:Ln):Bool:=decide (ld l.1∈x.1)
def e6(M:List Ln)(x:Ln):Ln:=rdL M (eP x) x
theorem Fs{x y:Ln}(hx:cq x)(hy:cq y)(h1:∀z,bit z x.1=bit z y.1)(h2:∀z,bit z x.2=bit z y.2):x=y:=
 Prod.ext (iS hx.1 hy.1 h1) (iS hx.2 hy.2 h2)
theorem C8{M:List Ln}{x l:Ln}(hM:RedU M)(hx:cq x)(hl:l∈M):e6 M (d4 x l)=e6 M x:=by
 have hla:cq l:=hM.asc l hl;have hxl:=eM hx hla
 have hp:∀m∈M,eP (d4 x l) m=(eP x m).xor (decide (m=l)):=fun m hm=>by
  unfold eP;have h1:ld m.1∈l.1↔m=l:=⟨fun h=>(hM.own m hm l hl h).symm,fun e=>e▸dj (hM.ne m hm)⟩
  have h2:=(jl _ x.1 l.1 (aO _) hx.1 hla.1).2 (ld m.1);show decide (ld m.1∈bX x.1 l.1)=_;by_cases b:m=l
  ·subst b;have h3:=dj (hM.ne m hm);by_cases a:ld m.1∈x.1<;>simp[h2,h3,a]
  ·have h3:ld m.1∉l.1:=fun h=>b (h1.1 h);by_cases a:ld m.1∈x.1<;>simp[h2,h3,a,b]
 refine Fs (iO hM.asc hxl) (iO hM.asc hx) (fun z=>?_) (fun z=>?_)
 ·unfold e6;rw[kd hM.asc hxl,kd hM.asc hx,gU hp];have:=rY (f:=Prod.fst) (z:=z) (p:=eP x) hM.nodup hl;unfold d4;rw[dE hx.1 hla.1];omega
 ·unfold e6;rw[lV hM.asc hxl,lV hM.asc hx,gU hp];have:=rY (f:=Prod.snd) (z:=z) (p:=eP x) hM.nodup hl;unfold d4;rw[dE hx.2 hla.2];omega
theorem Dj{M:List Ln}{x:Ln}(hM:RedU M)(hx:cq x)(h:∀l∈M,ld l.1∉x.1):e6 M x=x:=by
 have hp:∀m∈M,eP x m=false:=fun m hm=>bc (h m hm);refine Fs (iO hM.asc hx) hx (fun z=>?_) (fun z=>?_)
 ·unfold e6;rw[kd hM.asc hx,gU hp,nN];have:=gu (z:=z) (a:=x.1);omega
 ·unfold e6;rw[lV hM.asc hx,gU hp,nN];have:=gu (z:=z) (a:=x.2);omega
theorem dq{a b:List Int}{z:Int}(ha:bd a)(hb:bd b):z∈bX a b↔(z∈a∧z∉b)∨(z∈b∧z∉a):=(jl _ a b (aO _) ha hb).2 z
theorem fi{a b c:List Int}(ha:bd a)(hb:bd b)(hc:bd c):bX a (bX b c)=bX (bX a b) c:=
 iS (dU ha (dU hb hc)) (dU (dU ha hb) hc) fun z=>by
  rw[dE ha (dU hb hc),dE hb hc,dE (dU ha hb) hc,dE ha hb];omega
theorem fY{a:List Int}(ha:bd a):bX a a=[]:=
 ow fun z=>by rw[dE ha ha];omega
theorem kR{S:List (List Int)}{v w:List Int}(hS:∀r∈S,bd r)(hv:Sp S v)(hw:Sp S w):Sp S (bX v w):=by
 induction hw with
 |nil=>rw[gG];exact hv
 | @add w r h1 h2 ih=>
  rw[fi (kV hS hv) (kV hS h1) (hS _ h2)];exact Sp.add ih h2
theorem my{R S:List (List Int)}{v:List Int}(hS:∀r∈S,bd r)(h:∀r∈R,Sp S r)(hv:Sp R v):Sp S v:=by
 induction hv with
 |nil=>exact Sp.nil
 |add h1 h2 ih=>exact kR hS ih (h _ h2)
theorem kX{R S:List (List Int)}{v:List Int}(h:∀r∈R,r∈S)(hv:Sp R v):Sp S v:=by
 induction hv with
 |nil=>exact Sp.nil
 |add h1 h2 ih=>exact Sp.add ih (h _ h2)
theorem xC{p:Ln→Bool}{S:List (List Int)}(hS:∀r∈S,bd r):∀{M:List Ln}{x:Ln},(∀l∈M,cq l∧l.1∈S)→cq x→Sp S (bX x.1 (rdL M p x).1)
 |[],x,_,hx=>by
  show Sp S (bX x.1 x.1);rw[fY hx.1];exact Sp.nil
 |l::M,x,hM,hx=>by
  obtain⟨hl,hlS⟩:=hM l (cJ ..);have hM':=fun m hm=>hM m (dL _ hm)
  have hx':cq (if p l=true then d4 x l else x):=by
   split
   ·exact eM hx hl
   ·exact hx
  have ih:=xC (p:=p) hS (M:=M) hM' hx';have hr:=iO (p:=p) (M:=M) (fun m hm=>(hM' m hm).1) hx';show Sp S (bX x.1 (rdL M p (if p l=true then d4 x l else x)).1);by_cases h:p l=true
  ·rw[if_pos h] at ih hr hx' ⊢
   have e:bX x.1 (rdL M p (d4 x l)).1=bX (bX (d4 x l).1 (rdL M p (d4 x l)).1) l.1:=
    iS (dU hx.1 hr.1) (dU (dU hx'.1 hr.1) hl.1) fun z=>by
     rw[dE hx.1 hr.1,dE (dU hx'.1 hr.1) hl.1,dE hx'.1 hr.1];show _=((bit z (bX x.1 l.1)+_)%2+_)%2;rw[dE hx.1 hl.1];omega
   rw[e];exact Sp.add ih hlS
  ·rw[if_neg h] at ih ⊢;exact ih
theorem mV{M:List Ln}{x:Ln}(hM:RedU M)(hx:cq x){l:Ln}(hl:l∈M):ld l.1∉(e6 M x).1:=by
 rw[←dF];unfold e6;rw[kd hM.asc hx]
 have hc:∀{E:List Ln},E.Nodup→(∀m∈E,ld l.1∈m.1→m=l)→kD Prod.fst (ld l.1) (eP x) E=if l∈E∧eP x l=true then 1 else 0:=by
  intro E
  induction E with
  |nil=>intro _ _;simp[kD]
  |cons m E ih=>
   intro hn ho;obtain⟨n1,n2⟩:=List.nodup_cons.1 hn;have ih:=ih n2 fun m hm=>ho m (dL _ hm);show(if eP x m=true then bit (ld l.1) m.1 else 0)+kD Prod.fst (ld l.1) (eP x) E=_;rw[ih];by_cases e:m=l
   ·subst e;have hb:bit (ld m.1) m.1=1:=dF.2 (dj (hM.ne m hl));simp[n1,hb]
   ·have hb:bit (ld l.1) m.1=0:=by
      unfold bit;rw[if_neg fun h=>e (ho m (cJ ..) h)]
    have e2:l≠m:=fun h=>e h.symm;simp[hb,e2]
 rw[hc hM.nodup fun m hm h=>hM.own l hl m hm h];unfold eP bit;by_cases h:ld l.1∈x.1<;>simp[h,hl]
def jp(y l:Ln):Ln:=if ld y.1∈l.1 then d4 l y else l
def lr(M:List Ln)(y:Ln):List Ln:=M.map (jp y)++[y]
theorem t5{M:List Ln}{y l:Ln}(hM:RedU M)(hy:cq y)(h0:y.1≠[])(hn:∀l∈M,ld l.1∉y.1)(hl:l∈M):
    cq (jp y l)∧(∀m∈M,ld m.1∈(jp y l).1↔l=m)∧ld y.1∉(jp y l).1∧ld (jp y l).1=ld l.1:=by
 have hla:=hM.asc l hl;have how:∀m∈M,ld m.1∈l.1↔l=m:=fun m hm=>⟨fun h=>hM.own m hm l hl h,fun e=>e▸dj (hM.ne l hl)⟩
 unfold jp;by_cases h:ld y.1∈l.1
 ·rw[if_pos h];have hs:=fun z=>dq (z:=z) hla.1 hy.1
  have ho:∀m∈M,ld m.1∈(d4 l y).1↔l=m:=fun m hm=>by
   show ld m.1∈bX l.1 y.1↔_;rw[hs];have:=hn m hm;rw[←how m hm];simp[this]
  refine⟨eM hla hy,ho,?_,?_⟩
  ·show ld y.1∉bX l.1 y.1;rw[hs];have:=dj h0;simp[this,h]
  ·have hm:=(ho l hl).2 rfl;refine Int.le_antisymm (nI (eM hla hy).1 hm) ?_;have hne:(d4 l y).1≠[]:=fun e=>by rw[e] at hm;cases hm
   have hq:=dj hne;rcases(hs _).1 hq with q|q
   ·exact nI hla.1 q.1
   ·exact Int.le_trans (nI hla.1 h) (nI hy.1 q.1)
 ·rw[if_neg h];exact⟨hla,how,h,rfl⟩
theorem C5{M:List Ln}{y:Ln}(hM:RedU M)(hy:cq y)(h0:y.1≠[])(hn:∀l∈M,ld l.1∉y.1):RedU (lr M y):=by
 have hf:=fun l(hl:l∈M)=>t5 hM hy h0 hn hl
 have hmem:∀{m},m∈lr M y→(∃l∈M,jp y l=m)∨m=y:=fun{m} h=>by
  rcases eU.1 h with h|h
  ·exact .inl (bE.1 h)
  ·exact .inr (cV.1 h)
 constructor
 ·intro m hm;rcases hmem hm with⟨l,hl,rfl⟩|rfl
  ·exact(hf l hl).1
  ·exact hy
 ·intro m hm;rcases hmem hm with⟨l,hl,rfl⟩|rfl
  ·intro e;have:=((hf l hl).2.1 l hl).2 rfl;rw[e] at this;cases this
  ·exact h0
 ·intro m hm k hk h;rcases hmem hm with⟨l,hl,rfl⟩|rfl
  ·rw[(hf l hl).2.2.2] at h;rcases hmem hk with⟨q,hq,rfl⟩|rfl
   ·rw[((hf q hq).2.1 l hl).1 h]
   ·exact absurd h (hn l hl)
  ·rcases hmem hk with⟨q,hq,rfl⟩|rfl
   ·exact absurd h (hf q hq).2.2.1
   ·rfl
 ·refine zD.2 ⟨?_,by simp,fun a ha b hb e=>?_⟩
  ·refine List.pairwise_map.2 (List.Pairwise.imp_of_mem (fun{a b} ha hb hab e=>hab ?_) hM.nodup);have h1:=(hf a ha).2.2.2;rw[e,(hf b hb).2.2.2] at h1;refine(hM.own b hb a ha ?_);rw[h1];exact dj (hM.ne a ha)
  ·obtain⟨l,hl,rfl⟩:=bE.1 ha;rw[cV] at hb;subst hb;have:=(hf l hl).2.2.1;rw[e] at this;exact this (dj h0)
def bJ(g:Int→Nat):List Int→Nat
 |[]=>0
 |x::l=>g x+bJ g l
theorem hZ{g:Int→Nat}:∀(n:Nat)(a b:List Int),a.length+b.length≤n→bJ g (bX a b)%2=(bJ g a+bJ g b)%2
 |_,[],b,_=>by rw[kT];show _=(0+bJ g b)%2;rw[cf]
 |_,x::a,[],_=>by rw[gG];show _=(bJ g (x::a)+0)%2;rw[oE]
 |0,x::a,y::b,h=>by simp only[bO] at h;omega
 |n+1,x::a,y::b,h=>by
  simp only[bO] at h;rw[og];by_cases g1:x<y
  ·rw[if_pos g1];have ih:=hZ (g:=g) n a (y::b) (by simp only[bO];omega);show(g x+bJ g (bX a (y::b)))%2=(g x+bJ g a+bJ g (y::b))%2;omega
  rw[if_neg g1];by_cases g2:y<x
  ·rw[if_pos g2];have ih:=hZ (g:=g) n (x::a) b (by simp only[bO];omega);show(g y+bJ g (bX (x::a) b))%2=(bJ g (x::a)+(g y+bJ g b))%2;omega
  rw[if_neg g2];obtain rfl:x=y:=by omega
  have ih:=hZ (g:=g) n a b (by omega);show bJ g (bX a b)%2=(g x+bJ g a+(g x+bJ g b))%2;omega
def lJ(R:List (List Int))(n:Nat)(l:Ln):Prop:=(∀z,bit z l.1=bJ (fun j=>bit z (R.getD j.toNat default)) l.2%2)∧∀j∈l.2,0≤j∧j<(n:Int)
theorem x5{R:List (List Int)}{n:Nat}{x l:Ln}(hx:cq x)(hl:cq l)(h1:lJ R n x)(h2:lJ R n l):lJ R n (d4 x l):=by
 refine⟨fun z=>?_,fun j hj=>?_⟩
 ·show bit z (bX x.1 l.1)=bJ _ (bX x.2 l.2)%2;rw[dE hx.1 hl.1,hZ _ _ _ (aO _),h1.1,h2.1];omega
 ·rcases(dq hx.2 hl.2).1 hj with h|h
  ·exact h1.2 j h.1
  ·exact h2.2 j h.1
theorem rZ{R:List (List Int)}{n:Nat}{p:Ln→Bool}:∀{M:List Ln}{x:Ln},(∀l∈M,cq l∧lJ R n l)→cq x→lJ R n x→lJ R n (rdL M p x)
 |[],_,_,_,h=>h
 |l::M,x,hM,hx,h=>by
  obtain⟨hl,hlo⟩:=hM l (cJ ..);have hM':=fun m hm=>hM m (dL _ hm);show lJ R n (rdL M p (if p l=true then d4 x l else x));by_cases hp:p l=true
  ·rw[if_pos hp];exact rZ hM' (eM hx hl) (x5 hx hl h hlo)
  ·rw[if_neg hp];exact rZ hM' hx h
theorem lJ.mono{R:List (List Int)}{n m:Nat}{l:Ln}(h:lJ R n l)(hn:n≤m):lJ R m l:=⟨h.1,fun j hj=>by have:=h.2 j hj;omega⟩
def stE(R:List (List Int)):Nat→List Ln×List (List Int)
 |0=>([],[])
 |i+1=>if (e6 (stE R i).1 (R.getD i default,[(i:Int)])).1=[] then((stE R i).1,(stE R i).2++[(e6 (stE R i).1 (R.getD i default,[(i:Int)])).2]) else(lr (stE R i).1 (e6 (stE R i).1 (R.getD i default,[(i:Int)])),(stE R i).2)
structure StOk(R:List (List Int))(i:Nat)(M:List Ln)(D:List (List Int)):Prop where
 red:RedU M
 ok:∀l∈M,lJ R i l
 dep:∀y∈D,cq ([],y)∧lJ R i ([],y)
 len:M.length+D.length=i
 inS:∀l∈M,Sp (R.take i) l.1
 all:∀r∈R.take i,Sp (M.map Prod.fst) r
theorem fI{M:List Ln}(h:RedU M):∀r∈M.map Prod.fst,bd r:=fun r hr=>by
 obtain⟨l,hl,rfl⟩:=bE.1 hr;exact(h.asc l hl).1
theorem gf{R:List (List Int)}(hR:∀r∈R,bd r):∀{i:Nat},i≤R.length→StOk R i (stE R i).1 (stE R i).2
 |0,_=>⟨⟨fun _ h=>(by cases h),fun _ h=>(by cases h),fun _ h=>(by cases h),List.nodup_nil⟩,fun _ h=>(by cases h),fun _ h=>(by cases h),rfl,fun _ h=>(by cases h),fun _ h=>(by cases h)⟩
 |i+1,hi=>by
  have ih:=gf hR (i:=i) (by omega);have hx:cq (R.getD i default,[(i:Int)]):=⟨hR _ (ay (by omega)),List.pairwise_singleton ..⟩
  have hxo:lJ R (i + 1) (R.getD i default,[(i:Int)]):=⟨fun z=>by
   have:=gu (z:=z) (a:=R.getD i default);show bit z (R.getD i default)=(bit z (R.getD ((i:Nat):Int).toNat default)+0)%2;rw[cw];omega,fun j hj=>by rw[cV.1 hj];omega⟩
  have hMo:∀l∈(stE R i).1,cq l∧lJ R (i+1) l:=fun l hl=>⟨ih.red.asc l hl,(ih.ok l hl).mono (by omega)⟩
  have hya:cq (e6 (stE R i).1 (R.getD i default,[(i:Int)])):=iO ih.red.asc hx;have hyo:lJ R (i+1) (e6 (stE R i).1 (R.getD i default,[(i:Int)])):=rZ hMo hx hxo;have hyn:=fun l hl=>mV ih.red hx (l:=l) hl;have hysp:Sp ((stE R i).1.map Prod.fst) (bX (R.getD i default) (e6 (stE R i).1 (R.getD i default,[(i:Int)])).1):=xC (fI ih.red) (fun l hl=>⟨ih.red.asc l hl,bE.2 ⟨l,hl,rfl⟩⟩) hx;have htk:R.take (i+1)=R.take i++[R.getD i default]:=cr (by omega);have hTa:∀r∈R.take (i+1),bd r:=fun r hr=>hR r (kP hr);unfold stE;generalize e6 (stE R i).1 (R.getD i default,[(i:Int)])=y at *;generalize (stE R i).1=M at *;generalize (stE R i).2=D at *;have hup:∀l∈M,Sp (R.take (i+1)) l.1:=fun l hl=>kX (fun r hr=>by rw[htk];exact nZ _ hr) (ih.inS l hl)
  have hMsp:∀ {v},Sp (M.map Prod.fst) v→Sp (R.take (i + 1)) v:=fun hv=>my hTa (fun r hr=>by
   obtain⟨l,hl,rfl⟩:=bE.1 hr;exact hup l hl) hv
  by_cases h0:y.1=[]
  ·rw[if_pos h0];rw[h0,gG] at hysp;refine⟨ih.red,fun l hl=>(hMo l hl).2,fun z hz=>?_,?_,hup,fun r hr=>?_⟩
   ·rcases eU.1 hz with h|h
    ·exact⟨(ih.dep z h).1,(ih.dep z h).2.mono (by omega)⟩
    ·rw[cV.1 h];have e:(([],y.2):Ln)=y:=by rw[←h0]
     rw[e];exact⟨hya,hyo⟩
   ·show M.length+(D++[y.2]).length=i+1;rw[du,List.length_singleton];have:=ih.len;omega
   ·rw[htk] at hr;rcases eU.1 hr with h|h
    ·exact ih.all r h
    ·rw[cV.1 h];exact hysp
  ·rw[if_neg h0];have hi2:=C5 ih.red hya h0 hyn
   have hyS:Sp (R.take (i+1)) y.1:=by
    have h1:=hMsp hysp;have h2:Sp (R.take (i+1)) (R.getD i default):=eC (by rw[htk];exact oz _ (cV.2 rfl));have h3:=kR hTa h2 h1
    rwa [fi hx.1 hx.1 hya.1,fY hx.1,kT] at h3
   have hyI:y∈lr M y:=oz _ (cV.2 rfl)
   have hcl:∀l∈M,Sp ((lr M y).map Prod.fst) l.1:=fun l hl=>by
    have hm:jp y l∈lr M y:=nZ _ (bE.2 ⟨l,hl,rfl⟩);have h1:=eC (bE.2 ⟨_,hm,rfl⟩:(jp y l).1∈(lr M y).map Prod.fst);unfold jp at h1;by_cases h:ld y.1∈l.1
    ·rw[if_pos h] at h1;have h2:=kR (fI hi2) h1 (eC (bE.2 ⟨_,hyI,rfl⟩));have hla:=(ih.red.asc l hl).1
     rwa [show(d4 l y).1=bX l.1 y.1 from rfl,←fi hla hya.1 hya.1,fY hya.1,gG] at h2
    ·rwa [if_neg h] at h1
   refine⟨hi2,fun m hm=>?_,fun z hz=>⟨(ih.dep z hz).1,(ih.dep z hz).2.mono (by omega)⟩,?_,fun m hm=>?_,fun r hr=>?_⟩
   ·rcases eU.1 hm with h|h
    ·obtain⟨l,hl,rfl⟩:=bE.1 h;unfold jp;split
     ·exact x5 (hMo l hl).1 hya (hMo l hl).2 hyo
     ·exact(hMo l hl).2
    ·rw[cV.1 h];exact hyo
   ·show(lr M y).length+D.length=i+1;unfold lr;rw[du,bz,List.length_singleton];have:=ih.len;omega
   ·rcases eU.1 hm with h|h
    ·obtain⟨l,hl,rfl⟩:=bE.1 h;unfold jp;split
     ·exact kR hTa (hup l hl) hyS
     ·exact hup l hl
    ·rw[cV.1 h];exact hyS
   ·have hMI:∀ {v},Sp (M.map Prod.fst) v→Sp ((lr M y).map Prod.fst) v:=fun hv=>my (fI hi2) (fun r hr=>by
      obtain⟨l,hl,rfl⟩:=bE.1 hr;exact hcl l hl) hv
    rw[htk] at hr;rcases eU.1 hr with h|h
    ·exact hMI (ih.all r h)
    ·rw[cV.1 h];have h2:=kR (fI hi2) (hMI hysp) (eC (bE.2 ⟨_,hyI,rfl⟩))
     rwa [←fi hx.1 hya.1 hya.1,fY hya.1,gG] at h2
def lM(M:List Ln)(c:Nat):List Ln:=(List.range c).filterMap fun(k:Nat)=>M.find? fun l=>decide (ld l.1=(k:Int))
theorem p8{M:List Ln}{c:Nat}:lM M (c+1)=lM M c++(M.find? fun l=>decide (ld l.1=(c:Int))).toList:=by
 unfold lM;rw[List.range_succ,List.filterMap_append]
 congr 1
theorem pC{M:List Ln}{c:Nat}{l:Ln}(hM:RedU M):l∈lM M c↔l∈M∧0≤ld l.1∧ld l.1<c:=by
 unfold lM;rw[List.mem_filterMap];constructor
 ·rintro⟨k,hk,h⟩;have h1:=List.mem_of_find?_eq_some h;have h2:ld l.1=(k:Int):=by simpa using List.find?_some h
  have:=eo.1 hk;exact⟨h1,by omega,by omega⟩
 ·rintro⟨h1,h2,h3⟩;refine⟨(ld l.1).toNat,eo.2 (by omega),?_⟩;cases h:M.find? fun m=>decide (ld m.1=((ld l.1).toNat:Int)) with
  |none=>
   have:=List.find?_eq_none.1 h l h1;rw[iq] at this;omega
  |some m=>
   have e:ld m.1=((ld l.1).toNat:Int):=by simpa using List.find?_some h
   have hm:=List.mem_of_find?_eq_some h
   congr 1
   refine hM.own l h1 m hm ?_;rw[show ld l.1=ld m.1 by omega];exact dj (hM.ne m hm)
theorem oA{M:List Ln}(hM:RedU M):∀{c:Nat},(lM M c).Pairwise fun a b=>ld a.1<ld b.1
 |0=>pr
 |c+1=>by
  rw[p8];refine List.pairwise_append.2 ⟨oA hM,?_,fun a ha b hb=>?_⟩
  ·cases M.find? fun l=>decide (ld l.1=(c:Int))
   ·exact pr
   ·exact List.pairwise_singleton ..
  ·have h1:=((pC hM).1 ha).2.2;have h2:ld b.1=(c:Int):=by simpa using List.find?_some (Option.mem_toList.1 hb)
   omega
theorem Ep{M:List Ln}{c:Nat}(hM:RedU M):Red ((lM M c).map Prod.fst):=by
 have hm:∀r∈(lM M c).map Prod.fst,∃l∈M,l.1=r:=fun r hr=>by
  obtain⟨l,hl,rfl⟩:=bE.1 hr;exact⟨l,((pC hM).1 hl).1,rfl⟩
 refine⟨fun r hr=>?_,fun r hr=>?_,fun r hr q hq h=>?_,List.pairwise_map.2 (oA hM)⟩
 ·obtain⟨l,hl,rfl⟩:=hm r hr;exact(hM.asc l hl).1
 ·obtain⟨l,hl,rfl⟩:=hm r hr;exact hM.ne l hl
 ·obtain⟨l,hl,rfl⟩:=hm r hr;obtain⟨k,hk,rfl⟩:=hm q hq;rw[hM.own l hl k hk h]
def lL(R:List (List Int))(c:Nat):List Ln:=lM (stE R R.length).1 c
def en(R:List (List Int))(c:Nat):List (List Int):=(lL R c).map Prod.fst
theorem jB{S:List (List Int)}{v:List Int}{P:Int→Prop}(hS:∀r∈S,bd r)(hP:∀r∈S,∀z∈r,P z)(h:Sp S v):∀z∈v,P z:=by
 induction h with
 |nil=>exact fun z hz=>by cases hz
 | @add w r h1 h2 ih=>
  intro z hz;rcases(dq (kV hS h1) (hS r h2)).1 hz with q|q
  ·exact ih z q.1
  ·exact hP r h2 z q.1
theorem kU{R:List (List Int)}{c:Nat}(hR:∀r∈R,bd r)(hv:∀r∈R,∀z∈r,0≤z∧z<(c:Int)):Red (en R c)∧(∀v,Sp (en R c) v↔Sp R v)∧∀l,l∈lL R c↔l∈(stE R R.length).1:=by
 have hs:=gf hR (aO R.length);have hin:=hs.inS;have hall:=hs.all;rw[show R.take R.length=R from List.take_length] at hin hall
 have hmem:∀l,l∈lL R c↔l∈(stE R R.length).1:=fun l=>by
  unfold lL;rw[pC hs.red];refine⟨fun h=>h.1,fun h=>?_⟩;have:=jB hR hv (hin l h) _ (dj (hs.red.ne l h));exact⟨h,this.1,this.2⟩
 have hred:Red (en R c):=Ep hs.red;refine⟨hred,fun v=>⟨fun h=>my hR (fun r hr=>?_) h,fun h=>my hred.asc (fun r hr=>?_) h⟩,hmem⟩
 ·obtain⟨l,hl,rfl⟩:=bE.1 hr;exact hin l ((hmem l).1 hl)
 ·refine my hred.asc (fun q hq=>?_) (hall r hr);obtain⟨l,hl,rfl⟩:=bE.1 hq;exact eC (bE.2 ⟨l,(hmem l).2 hl,rfl⟩)
theorem rM{α:Type}[Inhabited α]{f:Nat→α}{n i:Nat}(h:i<n):((List.range n).map f).getD i default=f i:=by
 simp[List.getD,h]
theorem pX{α:Type}[Inhabited α]{l:List α}{x:α}(h:x∈l):∃i,i<l.length∧l.getD i default=x:=by
 obtain⟨i,hi,e⟩:=jV h;exact⟨i,hi,by simp[List.getD,hi,e]⟩
def Ma(rows:List (List Int))(n c:Nat):Option Nat:=(List.range rows.length).find? fun i=>decide (n≤i)&&decide ((c:Int)∈rows.getD i default)
def swI(n k i:Nat):Nat:=if i=n then k else if i=k then n else i
def swL(rows:List (List Int))(n k:Nat):List (List Int):=(List.range rows.length).map fun i=>rows.getD (swI n k i) default
def elF(rows:List (List Int))(n c i:Nat):List Int:=if i≠n∧(c:Int)∈rows.getD i default then bX (rows.getD i default) (rows.getD n default) else rows.getD i default
def elL(rows:List (List Int))(n c:Nat):List (List Int):=(List.range rows.length).map (elF rows n c)
def stR(R:List (List Int)):Nat→List (List Int)×Nat
 |0=>(R,0)
 |c+1=>match Ma (stR R c).1 (stR R c).2 c with
  |none=>stR R c
  |some k=>(elL (swL (stR R c).1 (stR R c).2 k) (stR R c).2 c,(stR R c).2+1)
structure RdOk(R rows:List (List Int))(n c:Nat):Prop where
 asc:∀i,i<R.length→bd (rows.getD i default)
 len:rows.length=R.length
 nle:n≤R.length
 sp:∀v,Sp rows v↔Sp R v
 top:∀i,i<n→rows.getD i default≠[]∧ld (rows.getD i default)<c
 own:∀i,i<n→∀j,j<R.length→ld (rows.getD i default)∈rows.getD j default→j=i
 ord:∀i j,i<j→j<n→ld (rows.getD i default)<ld (rows.getD j default)
 low:∀i,n≤i→i<R.length→∀z∈rows.getD i default,(c:Int)≤z
theorem oa{n k i N:Nat}(hn:n<N)(hk:k<N)(hi:i<N):swI n k i<N:=by
 unfold swI;split
 ·exact hk
 ·split
  ·exact hn
  ·exact hi
theorem ym{n k i:Nat}:swI n k (swI n k i)=i:=by
 unfold swI;by_cases h1:i=n
 ·subst h1;rw[if_pos rfl];by_cases h2:k=i
  ·rw[if_pos h2];exact h2
  ·rw[if_neg h2,if_pos rfl]
 ·rw[if_neg h1];by_cases h2:i=k
  ·rw[if_pos h2,if_pos rfl];exact h2.symm
  ·rw[if_neg h2,if_neg h1,if_neg h2]
theorem Hw{rows:List (List Int)}{N:Nat}(hl:rows.length=N)(h:∀i,i<N→bd (rows.getD i default)):∀r∈rows,bd r:=fun r hr=>by
 obtain⟨i,hi,e⟩:=pX hr;rw[←e];exact h i (by omega)
theorem H7{rows:List (List Int)}{n k:Nat}(hn:n<rows.length)(hk:k<rows.length)(v:List Int):Sp (swL rows n k) v↔Sp rows v:=by
 constructor
 ·refine kX fun r hr=>?_;obtain⟨i,hi,rfl⟩:=bE.1 hr;exact ay (oa hn hk (eo.1 hi))
 ·refine kX fun r hr=>?_;obtain⟨i,hi,rfl⟩:=pX hr;refine bE.2 ⟨swI n k i,eo.2 (oa hn hk hi),?_⟩;rw[ym]
theorem I7{rows:List (List Int)}{n c:Nat}(ha:∀i,i<rows.length→bd (rows.getD i default))(hn:n<rows.length)(v:List Int):Sp (elL rows n c) v↔Sp rows v:=by
 have hE:∀i,i<rows.length→bd (elF rows n c i):=fun i hi=>by
  unfold elF;split
  ·exact dU (ha i hi) (ha n hn)
  ·exact ha i hi
 have hEa:∀r∈elL rows n c,bd r:=fun r hr=>by
  obtain⟨i,hi,rfl⟩:=bE.1 hr;exact hE i (eo.1 hi)
 have hRa:=Hw rfl ha;have hin:∀i,i<rows.length→elF rows n c i∈elL rows n c:=fun i hi=>bE.2 ⟨i,eo.2 hi,rfl⟩
 have hpn:Sp (elL rows n c) (rows.getD n default):=by
  have h:=eC (hin n hn);unfold elF at h
  rwa [if_neg (fun q=>q.1 rfl)] at h
 constructor
 ·refine my hRa fun r hr=>?_;obtain⟨i,hi,rfl⟩:=bE.1 hr;have hi:=eo.1 hi;unfold elF;split
  ·exact kR hRa (eC (ay hi)) (eC (ay hn))
  ·exact eC (ay hi)
 ·refine my hEa fun r hr=>?_;obtain⟨i,hi,rfl⟩:=pX hr;have h:=eC (hin i hi);unfold elF at h;split at h
  ·have h2:=kR hEa h hpn
   rwa [←fi (ha i hi) (ha n hn) (ha n hn),fY (ha n hn),gG] at h2
  ·exact h
theorem FT{R:List (List Int)}(hR:∀r∈R,bd r)(hv:∀r∈R,∀z∈r,(0:Int)≤z):∀{c:Nat},RdOk R (stR R c).1 (stR R c).2 c
 |0=>⟨fun i hi=>hR _ (ay hi),rfl,bR _,fun _=>Iff.rfl,fun i h=>absurd h (Nat.not_lt_zero _),fun i h=>absurd h (Nat.not_lt_zero _),fun i j _ h=>absurd h (Nat.not_lt_zero _),fun i _ hi z hz=>hv _ (ay hi) z hz⟩
 |c+1=>by
  have ih:=FT hR hv (c:=c);unfold stR;generalize e1:(stR R c).1=rows at *;generalize e2:(stR R c).2=n at *;obtain⟨i1,i2,i3,i4,i5,i6,i7,i8⟩:=ih;cases hp:Ma rows n c with
  |none=>
   show RdOk R (stR R c).1 (stR R c).2 (c+1);rw[e1,e2];refine⟨i1,i2,i3,i4,fun i hi=>⟨(i5 i hi).1,by have:=(i5 i hi).2;omega⟩,i6,i7,fun i h1 h2 z hz=>?_⟩;have h3:=i8 i h1 h2 z hz;have h4:=List.find?_eq_none.1 hp i (eo.2 (by omega));have h5:z≠(c:Int):=fun e=>h4 (by rw[←e];simp only[dR,iq];exact⟨h1,hz⟩);omega
  |some k=>
   show RdOk R (elL (swL rows n k) n c) (n+1) (c+1);have k1:=eo.1 (List.mem_of_find?_eq_some hp)
   have k2:n≤k∧(c:Int)∈rows.getD k default:=by
    have:=List.find?_some hp;simpa only[dR,iq] using this
   obtain⟨k3,k4⟩:=k2;have hkN:k<R.length:=by omega
   have hnN:n<R.length:=by omega
   have sl:(swL rows n k).length=R.length:=by unfold swL;rw[bz,List.length_range,i2]
   have gs:∀i,i<R.length→(swL rows n k).getD i default=rows.getD (swI n k i) default:=fun i hi=>rM (by omega)
   have gp:(swL rows n k).getD n default=rows.getD k default:=by
    rw[gs n hnN];unfold swI;rw[if_pos rfl]
   have ge:∀i,i<R.length→(elL (swL rows n k) n c).getD i default=elF (swL rows n k) n c i:=fun i hi=>rM (by omega)
   have gn:(elL (swL rows n k) n c).getD n default=rows.getD k default:=by
    rw[ge n hnN];unfold elF;rw[if_neg (fun q=>q.1 rfl),gp]
   have gi:∀i,i<R.length→i≠n→(elL (swL rows n k) n c).getD i default=if (c:Int)∈rows.getD (swI n k i) default then bX (rows.getD (swI n k i) default) (rows.getD k default) else rows.getD (swI n k i) default:=fun i hi hn=>by
    rw[ge i hi];unfold elF;rw[gs i hi,gp];by_cases h:(c:Int)∈rows.getD (swI n k i) default
    ·rw[if_pos ⟨hn,h⟩,if_pos h]
    ·rw[if_neg (fun q=>h q.2),if_neg h]
   have hpa:=i1 k hkN;have hpl:=i8 k k3 hkN;have hsa:∀i,i<R.length→bd (rows.getD (swI n k i) default):=fun i hi=>i1 _ (oa hnN hkN hi);have hld:ld (rows.getD k default)=c:=Int.le_antisymm (nI hpa k4) (hpl _ (dj (fun e=>by rw[e] at k4;cases k4)));have hpne:rows.getD k default≠[]:=fun e=>by rw[e] at k4;cases k4
   have hsw:∀i,i<n→swI n k i=i:=fun i hi=>by unfold swI;rw[if_neg (by omega),if_neg (by omega)]
   have hnp:∀i,i<n→ld (rows.getD i default)∉rows.getD k default:=fun i hi h=>by have:=i6 i hi k hkN h;omega
   have hsw2:∀v,Sp (swL rows n k) v↔Sp rows v:=fun v=>H7 (by omega) (by omega) v;have hda:∀i,i<(swL rows n k).length→bd ((swL rows n k).getD i default):=fun i hi=>by rw[gs i (by omega)];exact hsa i (by omega)
   have hmem:∀j,j<R.length→j≠n→∀z,z∈(elL (swL rows n k) n c).getD j default→z∉rows.getD k default→z∈rows.getD (swI n k j) default:=fun j hj hn z hz hzp=>by
    rw[gi j hj hn] at hz;split at hz
    ·rcases(dq (hsa j hj) hpa).1 hz with q|q
     ·exact q.1
     ·exact absurd q.1 hzp
    ·exact hz
   have hlow:∀j,j<R.length→j≠n→(c:Int)∉(elL (swL rows n k) n c).getD j default:=fun j hj hn hz=>by
    rw[gi j hj hn] at hz;split at hz
    ·rename_i h;rcases(dq (hsa j hj) hpa).1 hz with q|q
     ·exact q.2 k4
     ·exact q.2 h
    ·rename_i h;exact h hz
   have htop:∀i,i<n→ld ((elL (swL rows n k) n c).getD i default)=ld (rows.getD i default)∧(elL (swL rows n k) n c).getD i default≠[]:=fun i hi=>by
    obtain⟨t1,t2⟩:=i5 i hi;rw[gi i (by omega) (by omega),hsw i hi];split
    ·have hm:ld (rows.getD i default)∈bX (rows.getD i default) (rows.getD k default):=(dq (i1 i (by omega)) hpa).2 (.inl ⟨dj t1,hnp i hi⟩);have hne:bX (rows.getD i default) (rows.getD k default)≠[]:=fun e=>by rw[e] at hm;cases hm
     refine⟨Int.le_antisymm (nI (dU (i1 i (by omega)) hpa) hm) ?_,hne⟩;rcases(dq (i1 i (by omega)) hpa).1 (dj hne) with q|q
     ·exact nI (i1 i (by omega)) q.1
     ·have:=hpl _ q.1;omega
    ·exact⟨rfl,t1⟩
   refine⟨fun i hi=>?_,?_,by omega,fun v=>?_,fun i hi=>?_,fun i hi j hj h=>?_,fun i j hij hj=>?_,fun i h1 h2 z hz=>?_⟩
   ·rw[ge i hi];unfold elF;split
    ·exact dU (hda i (by omega)) (hda n (by omega))
    ·exact hda i (by omega)
   ·unfold elL;rw[bz,List.length_range,sl]
   ·rw[I7 hda (by omega),hsw2,i4]
   ·by_cases hin:i=n
    ·subst hin;rw[gn,hld];exact⟨hpne,by omega⟩
    ·obtain⟨t1,t2⟩:=htop i (by omega);rw[t1];have:=(i5 i (by omega)).2;exact⟨t2,by omega⟩
   ·by_cases hin:i=n
    ·subst hin;rw[gn,hld] at h;exact Decidable.byContradiction fun hne=>hlow j hj hne h
    ·have hi':i<n:=by omega
     rw[(htop i hi').1] at h;by_cases hjn:j=n
     ·subst hjn;rw[gn] at h;exact absurd h (hnp i hi')
     ·have h3:=i6 i hi' _ (oa hnN hkN hj) (hmem j hj hjn _ h (hnp i hi'));have h4:=congrArg (swI n k) h3;rw[ym,hsw i hi'] at h4;exact h4
   ·by_cases hjn:j=n
    ·subst hjn;rw[gn,hld,(htop i hij).1];exact(i5 i hij).2
    ·rw[(htop i (by omega)).1,(htop j (by omega)).1];exact i7 i j hij (by omega)
   ·have hz2:z≠(c:Int):=fun e=>hlow i h2 (by omega) (e▸hz);have hs:n≤swI n k i:=by unfold swI;split<;>(try split)<;>omega
    rw[gi i h2 (by omega)] at hz
    have hz3:(c:Int)≤z:=by
     split at hz
     ·rcases(dq (hsa i h2) hpa).1 hz with q|q
      ·exact i8 _ hs (oa hnN hkN h2) z q.1
      ·exact hpl z q.1
     ·exact i8 _ hs (oa hnN hkN h2) z hz
    omega
def Ic(R:List (List Int))(c:Nat):List (List Int):=(stR R c).1.take (stR R c).2
theorem yx{R:List (List Int)}{c:Nat}(hR:∀r∈R,bd r)(hv:∀r∈R,∀z∈r,0≤z∧z<(c:Int)):Ic R c=en R c:=by
 have h:=FT hR (fun r hr z hz=>(hv r hr z hz).1) (c:=c);obtain⟨e1,e2,_⟩:=kU hR hv;unfold Ic;generalize (stR R c).1=rows at *;generalize (stR R c).2=n at *;obtain⟨i1,i2,i3,i4,i5,i6,i7,i8⟩:=h;have hlt:(rows.take n).length=n:=by rw[iz];omega
 have hg:∀i,i<n→(rows.take n).getD i default=rows.getD i default:=fun i hi=>by
  simp[List.getD,iC,hi]
 have hex:∀r∈rows.take n,∃i,i<n∧rows.getD i default=r:=fun r hr=>by
  obtain⟨i,hi,e⟩:=pX hr;exact⟨i,by omega,by rw[←e,hg i (by omega)]⟩
 have hsub:∀r∈R,∀z∈r,0≤z∧z<(c:Int):=hv
 have hred:Red (rows.take n):=by
  refine⟨fun r hr=>?_,fun r hr=>?_,fun r hr q hq hl=>?_,?_⟩
  ·obtain⟨i,hi,rfl⟩:=hex r hr;exact i1 i (by omega)
  ·obtain⟨i,hi,rfl⟩:=hex r hr;exact(i5 i hi).1
  ·obtain⟨i,hi,rfl⟩:=hex r hr;obtain⟨j,hj,rfl⟩:=hex q hq;rw[i6 i hi j (by omega) hl]
  ·rw[jT];intro i j hi hj hij;have h1:=hg i (by omega);have h2:=hg j (by omega);simp only[List.getD,hi,hj,rH,uM] at h1 h2;rw[h1,h2];exact i7 i j hij (by omega)
 refine sS hred e1 fun v=>?_;rw[e2,←i4];constructor
 ·exact kX fun r hr=>kP hr
 ·refine my hred.asc fun r hr=>?_;obtain⟨i,hi,e⟩:=pX hr;by_cases hin:i<n
  ·refine eC ?_;rw[←e,←hg i hin];exact ay (by omega)
  ·have hnil:r=[]:=by
     cases hr0:r with
     |nil=>rfl
     |cons z l=>
      have hz:z∈rows.getD i default:=by rw[e,hr0];exact cJ ..
      have h1:=i8 i (by omega) (by omega) z hz;have h2:=jB hR hv ((i4 r).1 (eC hr)) z (by rw[hr0];exact cJ ..);omega
   rw[hnil];exact Sp.nil
end Go.Proofs.YtekdaafnjdlenaaGreat