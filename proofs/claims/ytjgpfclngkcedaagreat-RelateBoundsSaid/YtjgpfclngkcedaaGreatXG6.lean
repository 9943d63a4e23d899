/- Texts of this claim, one after the other: U12k, U13k, T31, T32, T33, T34, T35, T23, T24, T25, T26, A11, T27, T36, T29, T37, T43, T47, T48, T49, T50, T44, T45, T51, T52, T53, T54, T55, T56, T57, T63, T64, T59, T60, T58, T61, T62, T65, T66, A14, T46, T67, T68, T69, T71, T72, T8, T9. -/
import Derived.Test.YtjgpfclngkcedaaGreatXG5
import Derived.Test.YtjgpfclngkcedaaGreatXG4
import Derived.Test.YtjgpfclngkcedaaGreatXG3
import Derived.Test.YtjgpfclngkcedaaGreatRows
import Derived.WalkKit
import Derived.ProofKit
import Derived.OpenShut

set_option linter.unusedSimpArgs false
set_option linter.unusedVariables false
namespace Go.Proofs.YtjgpfclngkcedaaGreat
open Go Go.Abs
section
variable {α:Type} [Inhabited α] {f:α→AV} {K:α→α→Int} {G:α→Prop} {g:Nat} {caps:List AV}
attribute [local irreducible] aA ag aU aO aE aH ay aJ aQ aZ Go.Abs.Fn aL Go.Abs.Pure ak aB Yl
set_option maxHeartbeats 1000000 in
theorem Bt (hc:Cmp3 Tryz.prog f K G g caps) {b n:Nat} (hn2:n ≤ 1000000000):∀ (sz a e lim:Nat) (L:List α) (H:Hp) (nx:Nat),e - a < sz→H b=some (L.c3 f)→b < nx→L.length=n→(∀ x ∈ L,G x)→a ≤ e→e ≤ n→lim ≤ 64→lQ K a e L →
    Abs.Fn Tryz.prog 111 [.msl b (n * 3) 3 0 n,.int .i64 a,.int .i64 e,.int .i64 lim,.func g caps] H nx fun r H' nx'=>∃ L',PS H H' nx nx' b (L'.c3 f)∧PermR a e L L'∧aP K a e L':=by
 intro sz
 induction sz with
 | zero=>intro a e lim L H nx h; omega
 | succ sz ih =>
 intro a e lim L H nx hsz hH hbx hn hG hae hen hlim hlow
 have dcap:=hc.dcaps
 refine Abs.Fn.of_c2 follows yt (Nat.le_of_ble_eq_true rfl) ?_
 simp only [zN,cO,cG,cN,cM,cD,cF,cB,av,aF]
 (have zz:=and_self; repeat' (first | refine zW ?_ | apply a_n | refine zO ?_ | refine vZ ?_ | fail)) <;> (try clear zz)
 refine be (X:=Nat × Nat × Nat × Bool × Bool × List α) (fun x=>[(0,.msl b (n * 3) 3 0 n),(1,.int .i64 (x.1:Nat)),(2,.int .i64 (x.2.1:Nat)),(3,.int .i64 (x.2.2.1:Nat)),(4,.func g caps),(10,.bool x.2.2.2.1),(11,.bool x.2.2.2.2.1)]) (fun x H' nxx=>PI K a e L x.1 x.2.1 x.2.2.2.2.2∧PS H H' nx nxx b (x.2.2.2.2.2.c3 f)∧x.2.2.1 ≤ 64) (fun x=>x.2.1 - x.1) (a,e,lim,true,true,L) ⟨.start hae (by rw [hn]; exact hen) hlow,⟨hH,fun _ _ _=>rfl,Nat.le_refl _⟩,hlim⟩ ag0 ?_
 clear hlim hlow lim
 rintro ⟨a1,e1,lim,wb,wp,M⟩ H1 n1 ⟨hpi,hps,hlim⟩
 dsimp only at *
 have hlo:=hpi.lo; have hmid:=hpi.mid; have hhi:=hpi.hi
 obtain ⟨l,hl0⟩:∃ l,e1 - a1=l:=⟨_,rfl⟩
 rw [hl0]
 have te:(e1:Int) - (a1:Int)=(l:Int):=by omega
 have hlen:∀ M:List α,PI K a e L a1 e1 M→M.length=n:=fun M h=>by rw [h.perm.len,hn]
 have hGA:∀ M:List α,PI K a e L a1 e1 M→∀ x ∈ M,G x:=fun M h=>h.perm.mem hG
 have hbn:∀ (M:List α) (H1:Hp) (n1:Nat),PS H H1 nx n1 b (M.c3 f)→b < n1:=fun M H1 n1 h=>by have:=h.le; omega
 obtain ⟨T,hT,t0,t1,t2,t3,t4,t10,t11⟩:∃ T,tl [(0,.msl b (n * 3) 3 0 n),(1,.int .i64 (a1:Nat)),(2,.int .i64 (e1:Nat)),(3,.int .i64 (lim:Nat)),(4,.func g caps),(10,.bool wb),(11,.bool wp)]=T∧T 0=.msl b (n * 3) 3 0 n∧T 1=.int .i64 (a1:Nat)∧T 2=.int .i64 (e1:Nat)∧T 3=.int .i64 (lim:Nat)∧T 4=.func g caps∧T 10=.bool wb∧T 11=.bool wp:=⟨_,rfl,rfl,rfl,rfl,rfl,rfl,rfl,rfl⟩
 rw [hT]
 clear hT
 refine cU ?_
 refine aS (fun T H'' nx''=>T 0=.msl b (n * 3) 3 0 n∧T 1=.int .i64 (a1:Nat)∧T 2=.int .i64 (e1:Nat)∧T 3=.int .i64 (lim:Nat)∧T 4=.func g caps∧T 10=.bool wb∧T 11=.bool wp∧T 12=.int .i64 (l:Nat)∧H1=H''∧n1=nx'') ?_ ?_
 ·(have zz:=aI @t0 (aI @t1 (aI @t2 (aI @t3 (aI @t4 (aI @t10 (aI @t11 @te)))))); repeat' (first | apply a_n | refine zO ?_ | refine vZ ?_ | fail)) <;> (try clear zz)
  exact ⟨(have zz:=@t0; evZ),(have zz:=@t1; evZ),(have zz:=@t2; evZ),(have zz:=@t3; evZ),(have zz:=@t4; evZ),(have zz:=@t10; evZ),(have zz:=@t11; evZ),ev0,rfl,rfl⟩
 clear t0 t1 t2 t3 t4 t10 t11
 rintro T _ _ ⟨t0,t1,t2,t3,t4,t10,t11,t12,rfl,rfl⟩
 refine aS (fun T H'' nx''=>T 0=.msl b (n * 3) 3 0 n∧T 1=.int .i64 (a1:Nat)∧T 2=.int .i64 (e1:Nat)∧T 3=.int .i64 (lim:Nat)∧T 4=.func g caps∧T 10=.bool wb∧T 11=.bool wp∧T 12=.int .i64 (l:Nat)∧13 ≤ l∧H1=H''∧n1=nx'') ?_ ?_
 ·by_cases h12:l ≤ 12
  ·(have zz:=aI @t0 (aI @t1 (aI @t2 (aI @t3 (aI @t4 (aI @t10 (aI @t11 @t12)))))); repeat' (first | refine zW ?_ | apply a_n | refine zO ?_ | refine vZ ?_ | (refine zGZ ?_ ?_ <;> (intro _hg; try (exfalso; omega))) | fail)) <;> (try clear zz)
   refine aD ev0 (have zz:=aI @t0 (aI @t1 (aI @t2 (aI @t3 (aI @t4 (aI @t10 (aI @t11 @t12)))))); evZ) (AP hc (b:=b) hps.at_ (hlen _ hpi) (hGA _ hpi) (a:=a1) (e:=e1) hmid (by omega) hn2) ?_
   rintro _ _ _ ⟨rfl,N,rfl,hpN,hsN⟩
   (have zz:=and_self; repeat' (first | apply a_n | apply a_r | refine zO ?_ | refine ae rfl ?_ | fail)) <;> (try clear zz)
   exact ⟨N,hps.upd,hpi.done hpN hsN⟩
  ·(have zz:=aI @t0 (aI @t1 (aI @t2 (aI @t3 (aI @t4 (aI @t10 (aI @t11 @t12)))))); repeat' (first | refine zW ?_ | apply a_n | refine zO ?_ | refine vZ ?_ | (refine zGZ ?_ ?_ <;> (intro _hg; try (exfalso; omega))) | fail)) <;> (try clear zz)
   exact ⟨(have zz:=@t0; evZ),(have zz:=@t1; evZ),(have zz:=@t2; evZ),(have zz:=@t3; evZ),(have zz:=@t4; evZ),(have zz:=@t10; evZ),(have zz:=@t11; evZ),(have zz:=@t12; evZ),by omega,rfl,rfl⟩
 clear t0 t1 t2 t3 t4 t10 t11 t12
 rintro T _ _ ⟨t0,t1,t2,t3,t4,t10,t11,t12,h13,rfl,rfl⟩
 refine aS (fun T H'' nx''=>T 0=.msl b (n * 3) 3 0 n∧T 1=.int .i64 (a1:Nat)∧T 2=.int .i64 (e1:Nat)∧T 3=.int .i64 (lim:Nat)∧T 4=.func g caps∧T 10=.bool wb∧T 11=.bool wp∧T 12=.int .i64 (l:Nat)∧0 < lim∧H1=H''∧n1=nx'') ?_ ?_
 ·by_cases h12:lim=0
  ·subst h12
   have tz:decide (((0:Nat):Int)=0)=true:=rfl
   (have zz:=aI @t0 (aI @t1 (aI @t2 (aI @t3 (aI @t4 (aI @t10 (aI @t11 (aI @t12 @tz))))))); repeat' (first | refine zW ?_ | apply a_n | refine zO ?_ | refine vZ ?_ | refine cTZ ?_ | fail)) <;> (try clear zz)
   refine aD ev0 (have zz:=aI @t0 (aI @t1 (aI @t2 (aI @t3 (aI @t4 (aI @t10 (aI @t11 @t12)))))); evZ) (zP hc (b:=b) hps.at_ (hlen _ hpi) (hGA _ hpi) (a:=a1) (e:=e1) hmid (by omega) hn2) ?_
   rintro _ _ _ ⟨rfl,N,rfl,hpN,hsN⟩
   (have zz:=and_self; repeat' (first | apply a_n | apply a_r | refine zO ?_ | refine ae rfl ?_ | fail)) <;> (try clear zz)
   exact ⟨N,hps.upd,hpi.done hpN hsN⟩
  ·have tz:decide ((lim:Int)=0)=false:=decide_eq_false (by omega)
   (have zz:=aI @t0 (aI @t1 (aI @t2 (aI @t3 (aI @t4 (aI @t10 (aI @t11 (aI @t12 @tz))))))); repeat' (first | refine zW ?_ | apply a_n | refine zO ?_ | refine vZ ?_ | refine cFZ ?_ | fail)) <;> (try clear zz)
   exact ⟨(have zz:=@t0; evZ),(have zz:=@t1; evZ),(have zz:=@t2; evZ),(have zz:=@t3; evZ),(have zz:=@t4; evZ),(have zz:=@t10; evZ),(have zz:=@t11; evZ),(have zz:=@t12; evZ),by omega,rfl,rfl⟩
 clear t0 t1 t2 t3 t4 t10 t11 t12
 rintro T _ _ ⟨t0,t1,t2,t3,t4,t10,t11,t12,hlim1,rfl,rfl⟩
 refine aS (fun T H'' nx''=>∃ (lim:Nat) (M:List α),lim ≤ 64∧PI K a e L a1 e1 M∧PS H H'' nx nx'' b (M.c3 f)∧T 0=.msl b (n * 3) 3 0 n∧T 1=.int .i64 (a1:Nat)∧T 2=.int .i64 (e1:Nat)∧T 3=.int .i64 (lim:Nat)∧T 4=.func g caps∧T 10=.bool wb∧T 11=.bool wp∧T 12=.int .i64 (l:Nat)) ?_ ?_
 ·cases wb
  ·obtain ⟨k,rfl⟩:∃ k,lim=k + 1:=⟨lim - 1,by omega⟩
   have tk:((k + 1:Nat):Int) - 1=(k:Int):=by omega
   (have zz:=aI @t0 (aI @t1 (aI @t2 (aI @t3 (aI @t4 (aI @t10 (aI @t11 @t12)))))); repeat' (first | refine zW ?_ | apply a_n | refine zO ?_ | refine vZ ?_ | refine cTZ ?_ | fail)) <;> (try clear zz)
   refine aD ev0 (have zz:=aI @t0 (aI @t1 (aI @t2 (aI @t3 (aI @t4 (aI @t10 (aI @t11 @t12)))))); evZ) (xG hc (b:=b) hps.at_ (hbn _ _ _ hps) (hlen _ hpi) (a:=a1) (e:=e1) (by omega) (by omega) hn2) ?_
   rintro _ _ _ ⟨rfl,N,hN1,hN2,hpN⟩
   (have zz:=aI @t0 (aI @t1 (aI @t2 (aI @t3 (aI @t4 (aI @t10 (aI @t11 (aI @t12 @tk))))))); repeat' (first | apply a_n | refine zO ?_ | refine vZ ?_ | fail)) <;> (try clear zz)
   exact ⟨k,N,by omega,hpi.swap hpN,hps.rec_ hN1 hN2 (Nat.le_succ _),(have zz:=@t0; evZ),(have zz:=@t1; evZ),(have zz:=@t2; evZ),(have zz:=@t3; evZ),(have zz:=@t4; evZ),(have zz:=@t10; evZ),(have zz:=@t11; evZ),(have zz:=@t12; evZ)⟩
  ·(have zz:=aI @t0 (aI @t1 (aI @t2 (aI @t3 (aI @t4 (aI @t10 (aI @t11 @t12)))))); repeat' (first | refine zW ?_ | apply a_n | refine zO ?_ | refine vZ ?_ | refine cFZ ?_ | fail)) <;> (try clear zz)
   exact ⟨lim,M,hlim,hpi,hps,(have zz:=@t0; evZ),(have zz:=@t1; evZ),(have zz:=@t2; evZ),(have zz:=@t3; evZ),(have zz:=@t4; evZ),(have zz:=@t10; evZ),(have zz:=@t11; evZ),(have zz:=@t12; evZ)⟩
 clear t0 t1 t2 t3 t4 t10 t11 t12 hpi hps hlim hlim1
 rintro T H1 n1 ⟨lim,M,hlim,hpi,hps,t0,t1,t2,t3,t4,t10,t11,t12⟩
 refine aS (fun T H'' nx''=>∃ (p:Nat) (hint:Int),a1 ≤ p∧p < e1∧PS H H'' nx nx'' b (M.c3 f)∧T 0=.msl b (n * 3) 3 0 n∧T 1=.int .i64 (a1:Nat)∧T 2=.int .i64 (e1:Nat)∧T 3=.int .i64 (lim:Nat)∧T 4=.func g caps∧T 10=.bool wb∧T 11=.bool wp∧T 12=.int .i64 (l:Nat)∧T 13=.int .i64 (p:Nat)∧T 14=.int .i64 hint) ?_ ?_
 ·(have zz:=aI @t0 (aI @t1 (aI @t2 (aI @t3 (aI @t4 (aI @t10 (aI @t11 @t12)))))); repeat' (first | apply a_n | refine zO ?_ | refine vZ ?_ | fail)) <;> (try clear zz)
  refine aD ev0 (have zz:=aI @t0 (aI @t1 (aI @t2 (aI @t3 (aI @t4 (aI @t10 (aI @t11 @t12)))))); evZ) (ve hc (b:=b) hps.at_ (hbn _ _ _ hps) (hlen _ hpi) (hGA _ hpi) (a:=a1) (e:=e1) (by omega) (by omega) hn2) ?_
  rintro _ _ _ ⟨rfl,p,hint,v,rfl,hp1,hp2,rfl⟩
  (have zz:=aI @t0 (aI @t1 (aI @t2 (aI @t3 (aI @t4 (aI @t10 (aI @t11 @t12)))))); repeat' (first | apply a_n | refine zO ?_ | refine vZ ?_ | fail)) <;> (try clear zz)
  exact ⟨p,hint,hp1,hp2,hps.new hbx,(have zz:=@t0; evZ),(have zz:=@t1; evZ),(have zz:=@t2; evZ),(have zz:=@t3; evZ),(have zz:=@t4; evZ),(have zz:=@t10; evZ),(have zz:=@t11; evZ),(have zz:=@t12; evZ),ev0,ev0⟩
 clear t0 t1 t2 t3 t4 t10 t11 t12 hps
 rintro T H1 n1 ⟨p,hint,hp1,hp2,hps,t0,t1,t2,t3,t4,t10,t11,t12,t13,t14⟩
 refine aS (fun T H'' nx''=>∃ (p:Nat) (hint:Int) (M:List α),a1 ≤ p∧p < e1∧PI K a e L a1 e1 M∧PS H H'' nx nx'' b (M.c3 f)∧T 0=.msl b (n * 3) 3 0 n∧T 1=.int .i64 (a1:Nat)∧T 2=.int .i64 (e1:Nat)∧T 3=.int .i64 (lim:Nat)∧T 4=.func g caps∧T 10=.bool wb∧T 11=.bool wp∧T 12=.int .i64 (l:Nat)∧T 13=.int .i64 (p:Nat)∧T 14=.int .i64 hint) ?_ ?_
 ·by_cases h2:hint=2
  ·subst h2
   obtain ⟨p2,hp3⟩:∃ p2,e1 - 1 - (p - a1)=p2:=⟨_,rfl⟩
   have tp:(e1:Int) - 1 - ((p:Int) - (a1:Int))=(p2:Int):=by omega
   have tz:decide ((2:Int)=2)=true:=rfl
   (have zz:=aI @t0 (aI @t1 (aI @t2 (aI @t3 (aI @t4 (aI @t10 (aI @t11 (aI @t12 (aI @t13 (aI @t14 @tz))))))))); repeat' (first | refine zW ?_ | apply a_n | refine zO ?_ | refine vZ ?_ | (refine zGZ ?_ ?_ <;> (intro _hg; try (exfalso; omega))) | fail)) <;> (try clear zz)
   refine aD ev0 (have zz:=aI @t0 (aI @t1 (aI @t2 (aI @t3 (aI @t4 (aI @t10 (aI @t11 @t12)))))); evZ) (BL hc (b:=b) hps.at_ (hlen _ hpi) (a:=a1) (e:=e1) (by omega) (by omega) hn2) ?_
   rintro _ _ _ ⟨rfl,N,rfl,hpN⟩
   (have zz:=aI @t0 (aI @t1 (aI @t2 (aI @t3 (aI @t4 (aI @t10 (aI @t11 (aI @t12 (aI @t13 (aI @t14 @tp))))))))); repeat' (first | refine zW ?_ | apply a_n | refine zO ?_ | refine vZ ?_ | fail)) <;> (try clear zz)
   exact ⟨p2,1,N,by omega,by omega,hpi.swap hpN,hps.upd,(have zz:=@t0; evZ),(have zz:=@t1; evZ),(have zz:=@t2; evZ),(have zz:=@t3; evZ),(have zz:=@t4; evZ),(have zz:=@t10; evZ),(have zz:=@t11; evZ),(have zz:=@t12; evZ),ev0,ev0⟩
  ·have tz:decide (hint=2)=false:=decide_eq_false h2
   (have zz:=aI @t0 (aI @t1 (aI @t2 (aI @t3 (aI @t4 (aI @t10 (aI @t11 (aI @t12 (aI @t13 (aI @t14 @tz))))))))); repeat' (first | refine zW ?_ | apply a_n | refine zO ?_ | refine vZ ?_ | refine cFZ ?_ | fail)) <;> (try clear zz)
   exact ⟨p,hint,M,hp1,hp2,hpi,hps,(have zz:=@t0; evZ),(have zz:=@t1; evZ),(have zz:=@t2; evZ),(have zz:=@t3; evZ),(have zz:=@t4; evZ),(have zz:=@t10; evZ),(have zz:=@t11; evZ),(have zz:=@t12; evZ),(have zz:=@t13; evZ),(have zz:=@t14; evZ)⟩
 clear t0 t1 t2 t3 t4 t10 t11 t12 t13 t14 hps hpi hp1 hp2
 rintro T H1 n1 ⟨p,hint,M,hp1,hp2,hpi,hps,t0,t1,t2,t3,t4,t10,t11,t12,t13,t14⟩
 refine aS (fun T H'' nx''=>∃ (M:List α),PI K a e L a1 e1 M∧PS H H'' nx nx'' b (M.c3 f)∧T 0=.msl b (n * 3) 3 0 n∧T 1=.int .i64 (a1:Nat)∧T 2=.int .i64 (e1:Nat)∧T 3=.int .i64 (lim:Nat)∧T 4=.func g caps∧T 10=.bool wb∧T 11=.bool wp∧T 12=.int .i64 (l:Nat)∧T 13=.int .i64 (p:Nat)) ?_ ?_
 ·cases wb
  ·cases wp
   ·(have zz:=aI @t0 (aI @t1 (aI @t2 (aI @t3 (aI @t4 (aI @t10 (aI @t11 (aI @t12 (aI @t13 @t14)))))))); repeat' (first | refine zW ?_ | apply a_n | refine zO ?_ | refine vZ ?_ | refine gFZ ?_ | refine cFZ ?_ | fail)) <;> (try clear zz)
    exact ⟨M,hpi,hps,(have zz:=@t0; evZ),(have zz:=@t1; evZ),(have zz:=@t2; evZ),(have zz:=@t3; evZ),(have zz:=@t4; evZ),(have zz:=@t10; evZ),(have zz:=@t11; evZ),(have zz:=@t12; evZ),(have zz:=@t13; evZ)⟩
   ·(have zz:=aI @t0 (aI @t1 (aI @t2 (aI @t3 (aI @t4 (aI @t10 (aI @t11 (aI @t12 (aI @t13 @t14)))))))); repeat' (first | refine zW ?_ | apply a_n | refine zO ?_ | refine vZ ?_ | refine gFZ ?_ | refine cFZ ?_ | fail)) <;> (try clear zz)
    exact ⟨M,hpi,hps,(have zz:=@t0; evZ),(have zz:=@t1; evZ),(have zz:=@t2; evZ),(have zz:=@t3; evZ),(have zz:=@t4; evZ),(have zz:=@t10; evZ),(have zz:=@t11; evZ),(have zz:=@t12; evZ),(have zz:=@t13; evZ)⟩
  ·cases wp
   ·(have zz:=aI @t0 (aI @t1 (aI @t2 (aI @t3 (aI @t4 (aI @t10 (aI @t11 (aI @t12 (aI @t13 @t14)))))))); repeat' (first | refine zW ?_ | apply a_n | refine zO ?_ | refine vZ ?_ | refine gTZ ?_ | refine gFZ ?_ | refine cFZ ?_ | fail)) <;> (try clear zz)
    exact ⟨M,hpi,hps,(have zz:=@t0; evZ),(have zz:=@t1; evZ),(have zz:=@t2; evZ),(have zz:=@t3; evZ),(have zz:=@t4; evZ),(have zz:=@t10; evZ),(have zz:=@t11; evZ),(have zz:=@t12; evZ),(have zz:=@t13; evZ)⟩
   ·by_cases h1:hint=1
    ·subst h1
     have tz:decide ((1:Int)=1)=true:=rfl
     (have zz:=aI @t0 (aI @t1 (aI @t2 (aI @t3 (aI @t4 (aI @t10 (aI @t11 (aI @t12 (aI @t13 (aI @t14 @tz))))))))); repeat' (first | refine zW ?_ | apply a_n | refine zO ?_ | refine vZ ?_ | refine gTZ ?_ | (refine zGZ ?_ ?_ <;> (intro _hg; try (exfalso; omega))) | fail)) <;> (try clear zz)
     refine aD ev0 (have zz:=aI @t0 (aI @t1 (aI @t2 (aI @t3 (aI @t4 (aI @t10 (aI @t11 @t12)))))); evZ) (uC hc (b:=b) hps.at_ (hlen _ hpi) (hGA _ hpi) (a:=a1) (e:=e1) (by omega) (by omega) hn2 hpi.low) ?_
     rintro _ _ _ ⟨rfl,N,t,rfl,rfl,hpN,hsN⟩
     cases t
     ·(have zz:=aI @t0 (aI @t1 (aI @t2 (aI @t3 (aI @t4 (aI @t10 (aI @t11 (aI @t12 (aI @t13 @t14)))))))); repeat' (first | apply a_n | refine zO ?_ | refine cFZ ?_ | fail)) <;> (try clear zz)
      exact ⟨N,hpi.swap hpN,hps.upd,(have zz:=@t0; evZ),(have zz:=@t1; evZ),(have zz:=@t2; evZ),(have zz:=@t3; evZ),(have zz:=@t4; evZ),(have zz:=@t10; evZ),(have zz:=@t11; evZ),(have zz:=@t12; evZ),(have zz:=@t13; evZ)⟩
     ·(have zz:=aI @t0 (aI @t1 (aI @t2 (aI @t3 (aI @t4 (aI @t10 (aI @t11 (aI @t12 (aI @t13 @t14)))))))); repeat' (first | apply a_n | apply a_r | refine zO ?_ | refine cTZ ?_ | refine ae rfl ?_ | fail)) <;> (try clear zz)
      exact ⟨N,hps.upd,hpi.done hpN (hsN rfl)⟩
    ·have tz:decide (hint=1)=false:=decide_eq_false h1
     (have zz:=aI @t0 (aI @t1 (aI @t2 (aI @t3 (aI @t4 (aI @t10 (aI @t11 (aI @t12 (aI @t13 (aI @t14 @tz))))))))); repeat' (first | refine zW ?_ | apply a_n | refine zO ?_ | refine vZ ?_ | refine gTZ ?_ | refine cFZ ?_ | fail)) <;> (try clear zz)
     exact ⟨M,hpi,hps,(have zz:=@t0; evZ),(have zz:=@t1; evZ),(have zz:=@t2; evZ),(have zz:=@t3; evZ),(have zz:=@t4; evZ),(have zz:=@t10; evZ),(have zz:=@t11; evZ),(have zz:=@t12; evZ),(have zz:=@t13; evZ)⟩
 clear t0 t1 t2 t3 t4 t10 t11 t12 t13 t14 hps hpi hint
 rintro T H1 n1 ⟨M,hpi,hps,t0,t1,t2,t3,t4,t10,t11,t12,t13⟩
 have hbb:=hps.at_
 have hl:=hlen _ hpi
 have hGM:=hGA _ hpi
 refine aS (fun T H'' nx''=>T 0=.msl b (n * 3) 3 0 n∧T 1=.int .i64 (a1:Nat)∧T 2=.int .i64 (e1:Nat)∧T 3=.int .i64 (lim:Nat)∧T 4=.func g caps∧T 10=.bool wb∧T 11=.bool wp∧T 12=.int .i64 (l:Nat)∧T 13=.int .i64 (p:Nat)∧H1=H''∧n1=nx'') ?_ ?_
 ·by_cases ha0:a1=0
  ·have tz:decide ((0:Int) < (a1:Int))=false:=decide_eq_false (by omega)
   (have zz:=aI @t0 (aI @t1 (aI @t2 (aI @t3 (aI @t4 (aI @t10 (aI @t11 (aI @t12 (aI @t13 @tz)))))))); repeat' (first | refine zW ?_ | refine zM ?_ | apply a_n | refine zO ?_ | refine vZ ?_ | refine gFZ ?_ | refine cFZ ?_ | fail)) <;> (try clear zz)
   exact ⟨(have zz:=@t0; evZ),(have zz:=@t1; evZ),(have zz:=@t2; evZ),(have zz:=@t3; evZ),(have zz:=@t4; evZ),(have zz:=@t10; evZ),(have zz:=@t11; evZ),(have zz:=@t12; evZ),(have zz:=@t13; evZ),rfl,rfl⟩
  have tz:decide ((0:Int) < (a1:Int))=true:=decide_eq_true (by omega)
  obtain ⟨k,hk⟩:∃ k,a1 - 1=k:=⟨_,rfl⟩
  have tk:(a1:Int) - 1=(k:Int):=by omega
  have lc:=hc.run (M.getD k default) (M.getD p default) (hGM _ (ai (by omega))) (hGM _ (ai (by omega)))
  have d1:=hc.dat (M.getD k default)
  have d2:=hc.dat (M.getD p default)
  generalize hKK:K (M.getD k default) (M.getD p default)=kk at lc
  by_cases hlt:kk < 0
  ·(have zz:=aI @t0 (aI @t1 (aI @t2 (aI @t3 (aI @t4 (aI @t10 (aI @t11 (aI @t12 (aI @t13 (aI @tz (aI @tk (aI @hbb (aI @Int.toNat_natCast (aI (rdC hc.len) (aI (bc hc.len) (aI @bi (aI hc.agg hc.ones)))))))))))))))); repeat' (first | refine zW ?_ | refine zM ?_ | apply a_n | refine zO ?_ | refine vZ ?_ | refine cZ ?_ (hp:=lc) (hs:=by (first | refine ah ?_ rfl | apply ap); (repeat' (first | exact af | apply aC | apply aq | exact d1 | exact d2 | exact ao dcap)); first | done | fail) | refine gTZ ?_ | (refine zGZ ?_ ?_ <;> (intro _hg; try (exfalso; omega))) | fail)) <;> (try clear zz)
   exact ⟨(have zz:=@t0; evZ),(have zz:=@t1; evZ),(have zz:=@t2; evZ),(have zz:=@t3; evZ),(have zz:=@t4; evZ),(have zz:=@t10; evZ),(have zz:=@t11; evZ),(have zz:=@t12; evZ),(have zz:=@t13; evZ),rfl,rfl⟩
  ·(have zz:=aI @t0 (aI @t1 (aI @t2 (aI @t3 (aI @t4 (aI @t10 (aI @t11 (aI @t12 (aI @t13 (aI @tz (aI @tk (aI @hbb (aI @Int.toNat_natCast (aI (rdC hc.len) (aI (bc hc.len) (aI @bi (aI hc.agg hc.ones)))))))))))))))); repeat' (first | refine zW ?_ | refine zM ?_ | apply a_n | refine zO ?_ | refine vZ ?_ | refine cZ ?_ (hp:=lc) (hs:=by (first | refine ah ?_ rfl | apply ap); (repeat' (first | exact af | apply aC | apply aq | exact d1 | exact d2 | exact ao dcap)); first | done | fail) | refine gTZ ?_ | (refine zGZ ?_ ?_ <;> (intro _hg; try (exfalso; omega))) | fail)) <;> (try clear zz)
   refine aD ev0 (have zz:=aI @t0 (aI @t1 (aI @t2 (aI @t3 (aI @t4 (aI @t10 (aI @t11 (aI @t12 @t13))))))); evZ) (vb hc (b:=b) hps.at_ (hlen _ hpi) (hGA _ hpi) (a:=a1) (e:=e1) (pv:=p) (by omega) (by omega) hn2 ⟨hp1,hp2⟩) ?_
   rintro _ _ _ ⟨rfl,N,m,rfl,hm1,hm2,rfl,hpN,q1,q2⟩
   (have zz:=aI @t0 (aI @t1 (aI @t2 (aI @t3 (aI @t4 (aI @t10 (aI @t11 (aI @t12 @t13))))))); repeat' (first | refine zW ?_ | apply a_n | apply a_x | refine zO ?_ | refine vZ ?_ | fail)) <;> (try clear zz)
   exact ⟨(m,e1,lim,wb,wp,N),by dsimp only; omega,⟨hpi.equal hc.ord hpN (by rw [hk,hKK]; exact hlt) (by omega) ⟨hm1,hm2⟩ q1 q2,hps.upd,hlim⟩,(have zz:=aI @t0 (aI @t1 (aI @t2 (aI @t3 (aI @t4 (aI @t10 (aI @t11 @t12)))))); agZ)⟩
 clear t0 t1 t2 t3 t4 t10 t11 t12 t13
 rintro T _ _ ⟨t0,t1,t2,t3,t4,t10,t11,t12,t13,rfl,rfl⟩
 refine aS (fun T H'' nx''=>∃ (M:List α) (m:Nat) (t:Bool),PI K a e L a1 e1 M∧TwoS K a1 e1 m M∧PS H H'' nx nx'' b (M.c3 f)∧T 0=.msl b (n * 3) 3 0 n∧T 1=.int .i64 (a1:Nat)∧T 2=.int .i64 (e1:Nat)∧T 3=.int .i64 (lim:Nat)∧T 4=.func g caps∧T 10=.bool wb∧T 11=.bool wp∧T 12=.int .i64 (l:Nat)∧T 16=.int .i64 (m:Nat)∧T 17=.bool t) ?_ ?_
 ·(have zz:=aI @t0 (aI @t1 (aI @t2 (aI @t3 (aI @t4 (aI @t10 (aI @t11 (aI @t12 @t13))))))); repeat' (first | apply a_n | refine zO ?_ | refine vZ ?_ | fail)) <;> (try clear zz)
  refine aD ev0 (have zz:=aI @t0 (aI @t1 (aI @t2 (aI @t3 (aI @t4 (aI @t10 (aI @t11 (aI @t12 @t13))))))); evZ) (zy hc (b:=b) hps.at_ (hlen _ hpi) (hGA _ hpi) (a:=a1) (e:=e1) (pv:=p) (by omega) (by omega) hn2 ⟨hp1,hp2⟩) ?_
  rintro _ _ _ ⟨rfl,N,m,t,rfl,hm1,hm2,rfl,hpN,q1,q2⟩
  (have zz:=aI @t0 (aI @t1 (aI @t2 (aI @t3 (aI @t4 (aI @t10 (aI @t11 (aI @t12 @t13))))))); repeat' (first | apply a_n | refine zO ?_ | refine vZ ?_ | fail)) <;> (try clear zz)
  exact ⟨N,m,t,hpi.swap hpN,⟨⟨hm1,hm2⟩,fun p k1 k2=>hc.ord.asym _ _ (q1 p k1 k2),q2⟩,hps.upd,(have zz:=@t0; evZ),(have zz:=@t1; evZ),(have zz:=@t2; evZ),(have zz:=@t3; evZ),(have zz:=@t4; evZ),(have zz:=@t10; evZ),(have zz:=@t11; evZ),(have zz:=@t12; evZ),ev0,ev0⟩
 clear t0 t1 t2 t3 t4 t10 t11 t12 t13 hbb hl hGM hpi hps hp1 hp2 p
 rintro T H1 n1 ⟨M,m,t,hpi,hts,hps,t0,t1,t2,t3,t4,t10,t11,t12,t16,t17⟩
 have hm:=hts.mid
 have hl:=hlen _ hpi
 have tq:aV .quo false false (.int .i64 (l:Int)) (.int .i64 8)=some (.int .i64 ((l / 8:Nat):Int)):=by
  rw [fC (by omega) (by omega) (by omega)]
  congr 2
 have tm:(m:Int) + 1=((m + 1:Nat):Int):=by omega
 by_cases hlr:(m:Int) - (a1:Int) < (e1:Int) - (m:Int)
 ·have tz:decide ((m:Int) - (a1:Int) < (e1:Int) - (m:Int))=true:=decide_eq_true hlr
  (have zz:=aI @t0 (aI @t1 (aI @t2 (aI @t3 (aI @t4 (aI @t10 (aI @t11 (aI @t12 (aI @t16 (aI @t17 (aI @tq @tz)))))))))); repeat' (first | refine zW ?_ | apply a_n | refine zO ?_ | refine vZ ?_ | refine cTZ ?_ | fail)) <;> (try clear zz)
  refine aD ev0 (have zz:=aI @t0 (aI @t1 (aI @t2 (aI @t3 (aI @t4 (aI @t10 (aI @t11 (aI @t12 (aI @t16 @t17)))))))); evZ) (ih a1 m lim M H1 n1 (by omega) hps.at_ (hbn _ _ _ hps) hl (hGA _ hpi) (by omega) (by omega) hlim (hpi.low.sub rfl (by omega))) ?_
  rintro _ H2 n2 ⟨N,hps2,hpN,hsN⟩
  (have zz:=aI @t0 (aI @t1 (aI @t2 (aI @t3 (aI @t4 (aI @t10 (aI @t11 (aI @t12 (aI @t16 (aI @t17 @tm))))))))); repeat' (first | apply a_n | refine zO ?_ | refine vZ ?_ | fail)) <;> (try clear zz)
  exact ⟨(m + 1,e1,lim,decide (((l / 8:Nat):Int) ≤ (m:Int) - (a1:Int)),t,N),by dsimp only; omega,⟨hpi.left hc.ord hts hpN hsN,hps.rec_ hps2.at_ hps2.fr hps2.le,hlim⟩,(have zz:=aI @t0 (aI @t1 (aI @t2 (aI @t3 (aI @t4 (aI @t10 (aI @t11 (aI @t12 (aI @t16 @t17)))))))); agZ)⟩
 ·have tz:decide ((m:Int) - (a1:Int) < (e1:Int) - (m:Int))=false:=decide_eq_false hlr
  (have zz:=aI @t0 (aI @t1 (aI @t2 (aI @t3 (aI @t4 (aI @t10 (aI @t11 (aI @t12 (aI @t16 (aI @t17 (aI @tq (aI @tz @tm))))))))))); repeat' (first | refine zW ?_ | apply a_n | refine zO ?_ | refine vZ ?_ | refine cFZ ?_ | fail)) <;> (try clear zz)
  refine aD ev0 (have zz:=aI @t0 (aI @t1 (aI @t2 (aI @t3 (aI @t4 (aI @t10 (aI @t11 (aI @t12 (aI @t16 @t17)))))))); evZ) (ih (m + 1) e1 lim M H1 n1 (by omega) hps.at_ (hbn _ _ _ hps) hl (hGA _ hpi) (by omega) (by omega) hlim (fun q k0 k1 k2=>by rw [Nat.add_sub_cancel]; exact hts.ge q k1 k2)) ?_
  rintro _ H2 n2 ⟨N,hps2,hpN,hsN⟩
  (have zz:=aI @t0 (aI @t1 (aI @t2 (aI @t3 (aI @t4 (aI @t10 (aI @t11 (aI @t12 (aI @t16 @t17)))))))); repeat' (first | apply a_n | refine zO ?_ | refine vZ ?_ | fail)) <;> (try clear zz)
  exact ⟨(a1,m,lim,decide (((l / 8:Nat):Int) ≤ (e1:Int) - (m:Int)),t,N),by dsimp only; omega,⟨hpi.right hc.ord hts hpN hsN,hps.rec_ hps2.at_ hps2.fr hps2.le,hlim⟩,(have zz:=aI @t0 (aI @t1 (aI @t2 (aI @t3 (aI @t4 (aI @t10 (aI @t11 (aI @t12 (aI @t16 @t17)))))))); agZ)⟩
end
end Go.Proofs.YtjgpfclngkcedaaGreat
namespace Go.Proofs.YtjgpfclngkcedaaGreat
open Go Go.Abs
open Nat (reduceEqDiff reduceAdd reduceLeDiff)
section
variable {α:Type} [Inhabited α] {f:α→AV} {K:α→α→Int} {G:α→Prop} {g:Nat} {caps:List AV}
attribute [local irreducible] aA ag aU aO aE aH ay aJ aQ aZ Go.Abs.Fn aL Go.Abs.Pure ak aB Yl
theorem wU (hc:Cmp3 Tryz.prog f K G g caps) {L:List α} {H:Hp} {b nx n:Nat} (hH:H b=some (L.c3 f)) (hbx:b < nx) (hn:L.length=n) (hn0:0 < n) (hG:∀ x ∈ L,G x) (hn2:n ≤ 1000000000) :
    Abs.Fn Tryz.prog 62 [.msl b (n * 3) 3 0 n,.func g caps] H nx fun r H' nx'=>∃ L',PS H H' nx nx' b (L'.c3 f)∧L'.Perm L∧aP K 0 n L':=by
 refine Abs.Fn.of_c2 follows Ak (Nat.le_of_ble_eq_true rfl) ?_
 simp only [b62,cO,cG,cN,cM,cD,cF,cB,av,aF]
 have w:IntKind.wrap .u64 (n:Int)=n:=e5 (by omega) (by omega)
 (have zz:=@w; repeat' (first | refine zW ?_ | apply a_n | refine zO ?_ | refine vZ ?_ | fail)) <;> (try clear zz)
 refine aD ev0 (have zz:=@w; evZ) (vL hn0 (by omega)) ?_
 rintro _ _ _ ⟨rfl,rfl,k,rfl,h3,h4⟩
 have hk:k ≤ 62:=by
  rcases Nat.lt_or_ge 62 k with h | h
  ·have:=Nat.pow_le_pow_right (n:=2) (by omega) h
   omega
  ·exact h
 (have zz:=and_self; repeat' (first | apply a_n | refine zO ?_ | refine vZ ?_ | fail)) <;> (try clear zz)
 refine aD ev0 (have zz:=@Int.natCast_zero; evZ) (Bt hc hn2 (n + 1) 0 n k L _ _ (by omega) hH hbx hn hG (by omega) (Nat.le_refl _) (by omega) (fun q h=>by omega)) ?_
 rintro _ _ _ ⟨N,hps,hp,hs⟩
 (have zz:=and_self; repeat' (first | apply a_n | refine zO ?_ | refine ae rfl ?_ | fail)) <;> (try clear zz)
 exact ⟨N,hps,hp.perm,hs⟩
end
end Go.Proofs.YtjgpfclngkcedaaGreat
namespace Go.Proofs.YtjgpfclngkcedaaGreat
open Go Go.Abs
open Nat (reduceEqDiff reduceAdd reduceLeDiff)
def Bf (l:List Int) (i:Nat):Int:=if l.getD i default < 0 ∨ (l.length:Int) ≤ l.getD i default then 2 else if (l.take i).any (fun x=>decide (x=l.getD i default)) then 7 else 0
def yf (l:List Int):Int:=if l.length < 1 ∨ 5 < l.length then 2 else bB (Bf l) l.length
attribute [local irreducible] aA ag aU aO aE aH ay aJ aQ aZ Go.Abs.Fn aL Go.Abs.Pure ak aB Yl
end Go.Proofs.YtjgpfclngkcedaaGreat
namespace Go.Proofs.YtjgpfclngkcedaaGreat
open Go Go.Abs
open Nat (reduceEqDiff reduceAdd reduceLeDiff)
section
variable {α:Type} [Inhabited α] {K:α→α→Int}
def jN (K:α→α→Int) (l:List α) (v:α):Nat→Nat
 | 0=>0
 | k + 1=>if K v (l.getD k default) < 0 then jN K l v k else k + 1
def mo (K:α→α→Int) (l:List α) (v:α):List α:=l.take (jN K l v l.length) ++ v :: l.drop (jN K l v l.length)
def gU (K:α→α→Int) (l:List α):List α:=l.foldl (mo K) []
theorem sT (l:List α) (v:α):∀ k,jN K l v k ≤ k
 | 0=>Nat.le_refl _
 | k + 1=>by
  rw [jN]
  split
  ·exact Nat.le_succ_of_le (sT l v k)
  ·exact Nat.le_refl _
theorem nZ {l:List α} {v:α}:∀ {k i:Nat},jN K l v k ≤ i→i < k→K v (l.getD i default) < 0
 | 0,i,_,h=>absurd h (by omega)
 | k + 1,i,h1,h2=>by
  rw [jN] at h1
  split at h1
  ·by_cases e:i=k
   ·subst e; assumption
   ·exact nZ h1 (by omega)
  ·omega
theorem nk {l:List α} {v:α}:∀ {k:Nat},0 < jN K l v k→¬ K v (l.getD (jN K l v k - 1) default) < 0
 | 0,h=>absurd h (Nat.lt_irrefl _)
 | k + 1,h=>by
  rw [jN] at h ⊢
  split
  ·rename_i c
   rw [if_pos c] at h
   exact nk h
  ·rename_i c
   rw [Nat.add_sub_cancel]; exact c
theorem iY (l:List α) (v:α):(mo K l v).Perm (v :: l):=by
 unfold mo
 refine List.perm_middle.trans ?_
 rw [List.take_append_drop]
theorem vu (l:List α) (v:α):(mo K l v).length=l.length + 1:=by
 rw [(iY l v).length_eq]; rfl
def bC (K:α→α→Int) (l:List α):Prop:=l.Pairwise fun x y=>¬ K y x < 0
theorem bC.of {l:List α} (h:aP K 0 l.length l):bC K l:=by
 unfold bC
 rw [List.pairwise_iff_getElem]
 intro i j hi hj hij
 have:=h i j (Nat.zero_le _) hij hj
 simpa [List.getD,hi,hj] using this
theorem lm (hK:Ord K) {l:List α} {v:α} (h:bC K l):bC K (mo K l v):=by
 unfold mo
 have hle:=sT (K:=K) l v l.length
 have hab:∀ i,jN K l v l.length ≤ i→i < l.length→K v (l.getD i default) < 0:=fun i h1 h2=>nZ h1 h2
 have hbe:0 < jN K l v l.length→¬ K v (l.getD (jN K l v l.length - 1) default) < 0:=fun h=>nk h
 generalize jN K l v l.length=k at *
 have hs:∀ i j (hi:i < l.length) (hj:j < l.length),i < j→¬ K l[j] l[i] < 0:=List.pairwise_iff_getElem.1 h
 have hlow:∀ x ∈ l.take k,¬ K v x < 0:=fun x hx=>by
  obtain ⟨i,hi,rfl⟩:=List.getElem_of_mem hx
  rw [List.length_take] at hi
  rw [List.getElem_take]
  have hk:=hbe (by omega)
  have e:l.getD (k - 1) default=l[k - 1]'(by omega):=by simp [List.getD,show k - 1 < l.length by omega]
  rw [e] at hk
  by_cases hik:i=k - 1
  ·subst hik; exact hk
  ·exact hK.negtr _ _ _ (hs i (k - 1) (by omega) (by omega) (by omega)) hk
 have hup:∀ x ∈ l.drop k,K v x < 0:=fun x hx=>by
  obtain ⟨i,hi,rfl⟩:=List.getElem_of_mem hx
  rw [List.length_drop] at hi
  rw [List.getElem_drop]
  have:=hab (k + i) (by omega) (by omega)
  simpa [List.getD,show k + i < l.length by omega] using this
 unfold bC
 rw [List.pairwise_append,List.pairwise_cons]
 refine ⟨List.Pairwise.sublist (List.take_sublist _ _) h,⟨fun x hx=>hK.asym _ _ (hup x hx),List.Pairwise.sublist (List.drop_sublist _ _) h⟩,fun x hx y hy=>?_⟩
 rcases List.mem_cons.1 hy with rfl | hy
 ·exact hlow x hx
 ·exact hK.negtr _ _ _ (hlow x hx) (hK.asym _ _ (hup y hy))
theorem iu:∀ (l acc:List α),(l.foldl (mo K) acc).Perm (acc ++ l)
 | [],acc=>by simp
 | v :: l,acc=>by
  refine (iu l (mo K acc v)).trans ?_
  refine (List.Perm.append_right l (iY acc v)).trans ?_
  rw [List.cons_append]
  exact List.perm_middle.symm
theorem ga (hK:Ord K):∀ (l acc:List α),bC K acc→bC K (l.foldl (mo K) acc)
 | [],acc,h=>h
 | v :: l,acc,h=>ga hK l (mo K acc v) (lm hK h)
theorem dP (l:List α):(gU K l).Perm l:=by
 have:=iu (K:=K) l []
 rwa [List.nil_append] at this
theorem gw (hK:Ord K) (l:List α):bC K (gU K l):=ga hK l [] .nil
theorem oM (l:List α):(gU K l).length=l.length:=(dP l).length_eq
theorem j6 (hK:Ord K) {L L':List α} (hA:∀ x ∈ L,∀ y ∈ L,¬ K x y < 0→¬ K y x < 0→x=y) (hs:bC K L') (hp:L'.Perm L):L'=gU K L :=
 List.Perm.eq_of_pairwise (fun x y hx hy hxy hyx=>hA x (hp.mem_iff.1 hx) y ((dP L).mem_iff.1 hy) hyx hxy) hs (gw hK L) (hp.trans (dP L).symm)
end
theorem mj:Ord a8 where
 irr x:=by rw [cH]; omega
 asym x y h:=by rw [dI]; omega
 negtr x y z h1 h2 h3:=by
  rcases gF y x with h | h | h
  ·omega
  ·have e:=gf h; subst e; exact h2 h3
  ·have hxy:a8 x y < 0:=by rw [dI]; omega
   have:=ij h3 hxy
   omega
theorem qc {x y:List Int} (h1:¬ a8 x y < 0) (h2:¬ a8 y x < 0):x=y:=by
 rw [dI] at h2
 exact gf (by omega)
abbrev wc (l:List (List Int)):List (List Int):=gU a8 l
theorem BZ:Cmp Tryz.prog aN a8 (fun l=>Sh l) 64 [] where
 cells _:=rfl
 one _:=rfl
 dat v:=a9 v
 dcaps:=by simp
 run x y hx hy:=iM x y hx hy
 ord:=mj
attribute [local irreducible] aA ag aU aO aE aH ay aJ aQ aZ Go.Abs.Fn aL Go.Abs.Pure ak aB Yl
end Go.Proofs.YtjgpfclngkcedaaGreat
namespace Go.Proofs.YtjgpfclngkcedaaGreat
open Go Go.Abs
open Nat (reduceEqDiff reduceAdd reduceLeDiff)
def KC (c d:CaseV):Int:=a8 c.inp d.inp
theorem Aj:Ord KC where
 irr x:=mj.irr x.inp
 asym x y:=mj.asym x.inp y.inp
 negtr x y z:=mj.negtr x.inp y.inp z.inp
def mi (b1:Nat) (c1:List AV) (b2:Nat) (c2:List AV):Hp:=fun b=>if b=b1 then some c1 else if b=b2 then some c2 else none
theorem oJ {H:Hp} {b1 b2:Nat} {c1 c2:List AV} (h1:H b1=some c1) (h2:H b2=some c2):Sub (mi b1 c1 b2 c2) H:=fun x c hx=>by
 unfold mi at hx
 split at hx
 ·cases hx; subst_vars; exact h1
 ·split at hx <;> cases hx
  subst_vars; exact h2
attribute [local irreducible] aA ag aU aO aE aH ay aJ aQ aZ Go.Abs.Fn aL Go.Abs.Pure ak aB Yl
theorem sA {H:Hp} {B n:Nat} {M:List CaseV} (hB:H B=some (M.c3 cr)) (hM:M.length=n):Snap H (.msl B (n * 3) 3 0 n) (aR M):=by
 subst hM
 refine Row.snap (elems:=M.map cr) ?_ (fun y hy=>?_) (by omega) (fun y hy c hc=>?_)
 ·rw [List.flatMap_map]
  exact .box B M.length _ hB (bc (fun _=>rfl) M)
 ·obtain ⟨x,_,rfl⟩:=List.mem_map.1 hy; rfl
 ·obtain ⟨x,_,rfl⟩:=List.mem_map.1 hy
  simp only [cr,AV.cells,List.mem_cons,List.not_mem_nil,or_false] at hc
  rcases hc with rfl | rfl | rfl
  ·exact a9 _
  ·exact a7 _
  ·exact a7 _
end Go.Proofs.YtjgpfclngkcedaaGreat
namespace Go.Proofs.YtjgpfclngkcedaaGreat
open Go Go.Abs
open Nat (reduceEqDiff reduceAdd reduceLeDiff)
section
variable {P:Program} {T:Tm} {H:Hp} {nx:Nat}
end
theorem uf {H:Hp} {sv:AV} {M:List CaseV} (h:Row H 3 sv (M.c3 cr)):Snap H sv (aR M):=by
 refine Row.snap (elems:=M.map cr) (by rw [List.flatMap_map]; exact h) (fun y hy=>?_) (by omega) (fun y hy c hc=>?_)
 ·obtain ⟨x,_,rfl⟩:=List.mem_map.1 hy; rfl
 ·obtain ⟨x,_,rfl⟩:=List.mem_map.1 hy
  simp only [cr,AV.cells,List.mem_cons,List.not_mem_nil,or_false] at hc
  rcases hc with rfl | rfl | rfl
  ·exact a9 _
  ·exact a7 _
  ·exact a7 _
theorem uV (A B:List CaseV):(A ++ B).c3 cr=A.c3 cr ++ B.c3 cr:=List.flatMap_append
attribute [local irreducible] aA ag aU aO aE aH ay aJ aQ aZ Go.Abs.Fn aL Go.Abs.Pure ak aB Yl
end Go.Proofs.YtjgpfclngkcedaaGreat
namespace Go.Proofs.YtjgpfclngkcedaaGreat
open Go Go.Abs
attribute [local irreducible] aA ag aU aO aE aH ay aJ aQ aZ Go.Abs.Fn aL Go.Abs.Pure ak aB Yl
end Go.Proofs.YtjgpfclngkcedaaGreat
namespace Go.Proofs.YtjgpfclngkcedaaGreat
open Go Go.Abs
attribute [local irreducible] aA ag aU aO aE aH ay aJ aQ aZ Go.Abs.Fn aL Go.Abs.Pure ak aB Yl
def dd (l:List Int):Nat→List Int
 | 0=>[]
 | k + 1=>dd l k ++ if k=0 ∨ l.getD k default ≠ l.getD (k - 1) default then [l.getD k default] else []
end Go.Proofs.YtjgpfclngkcedaaGreat
namespace Go.Proofs.YtjgpfclngkcedaaGreat
open Go Go.Abs
def inV (l:List (List Int)) (p v:Nat):Bool:=l.any fun w=>decide (w.getD p default=(v:Int))
def vals (l:List (List Int)) (p o:Nat):List Int:=((List.range o).filter (inV l p)).map Int.ofNat
attribute [local irreducible] aA ag aU aO aE aH ay aJ aQ aZ Go.Abs.Fn aL Go.Abs.Pure ak aB Yl
end Go.Proofs.YtjgpfclngkcedaaGreat
namespace Go.Proofs.YtjgpfclngkcedaaGreat
open Go Go.Abs
attribute [local irreducible] aA ag aU aO aE aH ay aJ aQ aZ Go.Abs.Fn aL Go.Abs.Pure ak aB Yl
end Go.Proofs.YtjgpfclngkcedaaGreat
namespace Go.Proofs.YtjgpfclngkcedaaGreat
open Go Go.Abs
attribute [local irreducible] aA ag aU aO aE aH ay aJ aQ aZ Go.Abs.Fn aL Go.Abs.Pure ak aB Yl
end Go.Proofs.YtjgpfclngkcedaaGreat
namespace Go.Proofs.YtjgpfclngkcedaaGreat
open Go Go.Abs
end Go.Proofs.YtjgpfclngkcedaaGreat
namespace Go.Proofs.YtjgpfclngkcedaaGreat
open Go Go.Abs
structure PlaceV where
 index:Int
 faulty:Int
 proc:Int
 outs:List Int
attribute [local irreducible] aA ag aU aO aE aH ay aJ aQ aZ Go.Abs.Fn aL Go.Abs.Pure ak aB Yl
end Go.Proofs.YtjgpfclngkcedaaGreat
namespace Go.Proofs.YtjgpfclngkcedaaGreat
open Go Go.Abs
attribute [local irreducible] aA ag aU aO aE aH ay aJ aQ aZ Go.Abs.Fn aL Go.Abs.Pure ak aB Yl
theorem pj:Sh T00.cases∧∀ c ∈ T00.cases,ShC c:=⟨Nat.zero_le _,fun c hc=>(by cases hc)⟩
end Go.Proofs.YtjgpfclngkcedaaGreat
namespace Go.Proofs.YtjgpfclngkcedaaGreat
open Go Go.Abs
attribute [local irreducible] aA ag aU aO aE aH ay aJ aQ aZ Go.Abs.Fn aL Go.Abs.Pure ak aB Yl
end Go.Proofs.YtjgpfclngkcedaaGreat
namespace Go.Proofs.YtjgpfclngkcedaaGreat
open Go Go.Abs
section
variable {p:List Int}
end
theorem rW {l:List (List Int)} (h:∀ i,i < l.length→bA l i=false):bC a8 l:=by
 unfold bC
 rw [List.pairwise_iff_getElem]
 intro i j hi hj hij
 have:=pF h j i hij hj
 rw [show l.getD i default=l[i] by simp [List.getD,hi],show l.getD j default=l[j] by simp [List.getD,hj]] at this
 exact mj.asym _ _ this
theorem uz {l:List (List Int)} (h:∀ i,i < l.length→bA l i=false):l.Nodup:=by
 rw [List.nodup_iff_pairwise_ne,List.pairwise_iff_getElem]
 intro i j hi hj hij e
 have:=pF h j i hij hj
 rw [show l.getD i default=l[i] by simp [List.getD,hi],show l.getD j default=l[j] by simp [List.getD,hj],e,cH] at this
 omega
theorem jZ {l:List (List Int)} (hs:bC a8 l) (hn:l.Nodup):∀ i,i < l.length→bA l i=false:=fun i hi=>by
 unfold bA
 by_cases h0:0 < i
 ·rw [decide_eq_true h0,Bool.true_and,decide_eq_false_iff_not]
  have h1:=List.pairwise_iff_getElem.1 hs (i - 1) i (by omega) hi (by omega)
  have h2:=List.pairwise_iff_getElem.1 (List.nodup_iff_pairwise_ne.1 hn) (i - 1) i (by omega) hi (by omega)
  rw [show l.getD i default=l[i] by simp [List.getD,hi],show l.getD (i - 1) default=l[i - 1] by simp [List.getD,show i - 1 < l.length by omega]]
  intro h3
  have h4:=dI l[i - 1] l[i]
  rcases gF l[i - 1] l[i] with h | h | h
  ·omega
  ·exact h2 (gf h)
  ·exact h1 (by omega)
 ·rw [decide_eq_false h0,Bool.false_and]
theorem mC {v:List Int} {n most:Int} (h1:(v.length:Int)=n) (h2:∀ x ∈ v,0 ≤ x∧x < most):aW v n most=0:=by
 unfold aW
 rw [if_neg (fun h=>h h1),if_neg]
 intro h
 rw [List.any_eq_true] at h
 obtain ⟨x,hx,e⟩:=h
 have:=of_decide_eq_true e
 have:=h2 x hx
 omega
theorem bv {n outs:Int} {c:CaseV} (h:bk n outs c=0):(1 ≤ c.out.length∧c.out.length ≤ 1024)∧(∀ v ∈ c.out,aW v n outs=0)∧(∀ i,i < c.out.length→bA c.out i=false)∧(∀ v ∈ c.calm,v ∈ c.out)∧(∀ i,i < c.calm.length→bA c.calm i=false):=by
 unfold bk at h
 split at h
 ·exact absurd h (by decide)
 rename_i g1
 split at h
 ·exact absurd h ‹_›
 rename_i g2
 have o0:=dL (Decidable.of_not_not g2)
 have c0:=dL h
 have o1:∀ j,j < c.out.length→aW (c.out.getD j default) n outs=0∧bA c.out j=false:=fun j hj=>by
  have:=o0 j hj
  unfold gd at this
  split at this
  ·exact absurd this ‹_›
  ·rename_i g3
   split at this
   ·exact absurd this (by decide)
   ·rename_i g4
    exact ⟨Decidable.of_not_not g3,by simpa using g4⟩
 have c1:∀ j,j < c.calm.length→c.calm.getD j default ∈ c.out∧bA c.calm j=false:=fun j hj=>by
  have:=c0 j hj
  unfold fx at this
  split at this
  ·rename_i g3
   split at this
   ·exact absurd this (by decide)
   ·rename_i g4
    exact ⟨g3,by simpa using g4⟩
  ·exact absurd this (by decide)
 refine ⟨by omega,fun v hv=>?_,fun i hi=>(o1 i hi).2,fun v hv=>?_,fun i hi=>(c1 i hi).2⟩
 ·obtain ⟨j,hj,rfl⟩:=List.getElem_of_mem hv
  have:=(o1 j hj).1
  rwa [show c.out.getD j default=c.out[j] by simp [List.getD,hj]] at this
 ·obtain ⟨j,hj,rfl⟩:=List.getElem_of_mem hv
  have:=(c1 j hj).1
  rwa [show c.calm.getD j default=c.calm[j] by simp [List.getD,hj]] at this
theorem rc {n outs:Int} {c:CaseV} (h1:1 ≤ c.out.length∧c.out.length ≤ 1024) (h2:∀ v ∈ c.out,aW v n outs=0) (h3:∀ i,i < c.out.length→bA c.out i=false) (h4:∀ v ∈ c.calm,v ∈ c.out) (h5:∀ i,i < c.calm.length→bA c.calm i=false):bk n outs c=0:=by
 unfold bk
 have e1:bB (gd n outs c.out) c.out.length=0:=bM fun k hk=>by
  unfold gd
  rw [h2 _ (ai hk),if_neg (by simp),h3 k hk,if_neg (by simp)]
 have e2:bB (fx c.out c.calm) c.calm.length=0:=bM fun k hk=>by
  unfold fx
  rw [if_pos (h4 _ (ai hk)),h5 k hk,if_neg (by simp)]
 rw [if_neg (by omega),e1,if_neg (by simp),e2]
section
variable {p:List Int} (hp:yf p=0)
include hp
end
theorem gD {t:TaskV} (h:aM t=0):bC KC t.cases:=by
 unfold bC
 rw [List.pairwise_iff_getElem]
 intro i j hi hj hij
 have:=gy h j i hij hj
 rw [show t.cases.getD i default=t.cases[i] by simp [List.getD,hi],show t.cases.getD j default=t.cases[j] by simp [List.getD,hj]] at this
 exact mj.asym _ _ this
theorem fo {t:TaskV} (h:aM t=0) {c d:CaseV} (hc:c ∈ t.cases) (hd:d ∈ t.cases) (e:c.inp=d.inp):c=d:=by
 obtain ⟨i,hi,rfl⟩:=List.getElem_of_mem hc
 obtain ⟨j,hj,rfl⟩:=List.getElem_of_mem hd
 have ei:t.cases.getD i default=t.cases[i]:=by simp [List.getD,hi]
 have ej:t.cases.getD j default=t.cases[j]:=by simp [List.getD,hj]
 have:=xt h hi hj (by rw [ei,ej]; exact e)
 subst this; rfl
theorem b9 {t:TaskV} (h:aM t=0) {c:CaseV} (hc:c ∈ t.cases):aW c.inp t.n t.ins=0∧bk t.n t.outs c=0:=by
 obtain ⟨i,hi,rfl⟩:=List.getElem_of_mem hc
 have:=(fM h).2.2 i hi
 rwa [show t.cases.getD i default=t.cases[i] by simp [List.getD,hi]] at this
section
variable {t:TaskV} {p:List Int} (h:aM t=0) (hp:yf p=0) (hn:(p.length:Int)=t.n)
include h hp hn
end
end Go.Proofs.YtjgpfclngkcedaaGreat
namespace Go.Proofs.YtjgpfclngkcedaaGreat
open Go Go.Abs
open Nat (reduceEqDiff reduceAdd reduceLeDiff)
def bV (i:List Int) (x y:List (List Int)):CaseV:=⟨i,x,if x=y then [] else y⟩
def jo (F:List (List Int)→List (List Int)→List (List Int)) (b:TaskV) (c:CaseV):Option CaseV:=(b0 b c.inp).map fun d=>bV c.inp (F c.out d.out) (F (ar c 0) (ar d 0))
def ed (F:List (List Int)→List (List Int)→List (List Int)) (b:TaskV) (c:CaseV):Bool:=match b0 b c.inp with
 | none=>true
 | some d=>decide (0 < (F c.out d.out).length) && decide (0 < (F (ar c 0) (ar d 0)).length)
def eG (F:List (List Int)→List (List Int)→List (List Int)) (b:TaskV) (c:CaseV):Bool:=match b0 b c.inp with
 | none=>false
 | some d=>decide (1024 < (F c.out d.out).length) || decide (1024 < (F (ar c 0) (ar d 0)).length)
def bx (F:List (List Int)→List (List Int)→List (List Int)) (b:TaskV) (l:List CaseV):List CaseV:=l.filterMap (jo F b)
def ba (x y:List (List Int)):List (List Int):=x.filter fun v=>decide (v ∈ y)
theorem od {l:List CaseV} {p:CaseV→Bool} {k:Nat} (h:k < l.length):(l.take (k + 1)).all p=((l.take k).all p && p (l.getD k default)):=by
 rw [cW h,List.all_append]; simp
theorem oa {l:List CaseV} {p:CaseV→Bool} {k:Nat} (h:k < l.length):(l.take (k + 1)).any p=((l.take k).any p || p (l.getD k default)):=by
 rw [cW h,List.any_append]; simp
theorem nP {F:List (List Int)→List (List Int)→List (List Int)} {b:TaskV} {l:List CaseV} {k:Nat} (h:k < l.length):bx F b (l.take (k + 1))=bx F b (l.take k) ++ (jo F b (l.getD k default)).toList:=by
 rw [cW h]
 unfold bx
 rw [List.filterMap_append]
 congr 1
theorem su {α:Type} {p:α→Bool} {v:α}:[v].filter p=if p v then [v] else []:=by cases h:p v <;> simp [h]
theorem fc {F:List (List Int)→List (List Int)→List (List Int)} {b:TaskV} {l:List CaseV}:(bx F b l).length ≤ l.length:=List.length_filterMap_le _ _
attribute [local irreducible] aA ag aU aO aE aH ay aJ aQ aZ Go.Abs.Fn aL Go.Abs.Pure ak aB Yl
theorem xo (v w:List Int) (hv:Sh v) (hw:Sh w):Pure Tryz.prog 104 [aN w,.iptr [aN v] 0] (.bool (decide (w=v))):=by
 refine Pure.of_c2 follows ym (Nat.le_of_ble_eq_true rfl) ?_
 simp only [yR,cO,cG,cN,cM,cD,cF,cB,av,aF]
 (have zz:=and_self; repeat' (first | refine zW ?_ | apply a_n | refine zO ?_ | refine vZ ?_ | refine cZ ?_ (hp:=by exact f0 _ _ hv hw) | refine ae rfl ?_ | refine r1Z ?_ | fail)) <;> (try clear zz)
 exact bU (decide_eq_decide.2 ⟨fun h=>h.symm,fun h=>h.symm⟩)
theorem zb (l:List (List Int)) (v:List Int) (hl:Sh l) (hs:∀ x ∈ l,Sh x) (hv:Sh v):Pure Tryz.prog 51 [ax l,aN v] (.bool (decide (v ∈ l))):=by
 refine Pure.of_c2 follows AI (Nat.le_of_ble_eq_true rfl) ?_
 simp only [b51,cO,cG,cN,cM,cD,cF,cB,av,aF]
 rw [← pH]
 (have zz:=and_self; repeat' (first | refine zW ?_ | apply a_n | refine zO ?_ | refine vZ ?_ | refine bxZ ?_ | fail)) <;> (try clear zz)
 refine cE ev0 ev0 (gv l (fun x=>decide (x=v)) 104 [.iptr [aN v] 0] (DatL.cons (Dat.iptr (DatL.cons (a9 _) DatL.nil)) DatL.nil) (fun x hx=>xo v x hv (hs x hx)) hl) (ah (by (repeat' (first | exact af | exact Dat.snap Dat.int | exact Dat.snap Dat.bool | exact Dat.snap Dat.str | exact Dat.snap Dat.esl | exact Dat.snap Dat.nilf | exact Dat.snap (a9 _) | exact Dat.snap (a7 _) | apply az | apply dY | apply d6 | (apply d7; (focus ((try simp only [bn,ZA,reduceEqDiff,↓reduceIte,reduceAdd,reduceLeDiff]); with_reducible rfl)); (focus rfl))))) rfl) ?_
 (have zz:=and_self; repeat' (first | apply a_n | refine zO ?_ | refine vZ ?_ | refine ae rfl ?_ | refine r1Z ?_ | fail)) <;> (try clear zz)
 exact .bool _
theorem xl (l:List (List Int)) (p:List Int→Bool) (g:Nat) (caps:List AV) (hd:∀ x ∈ caps,Dat x) (hg:∀ x ∈ l,Pure Tryz.prog g (aN x :: caps) (.bool (p x))) (hl:l.length ≤ 100000):Pure Tryz.prog 49 [ax l,.func g caps] (ax (l.filter p)):=by
 refine Pure.of_c2 follows AE (Nat.le_of_ble_eq_true rfl) ?_
 simp only [b49,cO,cG,cN,cM,cD,cF,cB,av,aF]
 (have zz:=and_self; repeat' (first | refine zW ?_ | apply a_n | refine zO ?_ | refine vZ ?_ | fail)) <;> (try clear zz)
 refine be (X:=AV × Nat) (fun x=>[(0,ax l),(1,.func g caps),(5,x.1),(8,ax l),(9,.int .i64 l.length),(10,.int .i64 x.2)]) (fun x H nx=>x.2 ≤ l.length∧Row H 1 x.1 (((l.take x.2).filter p).map aN)∧∀ b,gN x.1=some b→b < nx) (fun x=>l.length - x.2) (.esl,0) ⟨Nat.zero_le _,Row.nil,fun b hb=>(by cases hb)⟩ ag0 ?_
 rintro ⟨s,j⟩ H nx ⟨h1,h2,h3⟩
 dsimp only at h1 h2 h3 ⊢
 by_cases hj:j < l.length
 rotate_left
 ·(have zz:=@h1; repeat' (first | refine zW ?_ | apply a_n | apply a_x | refine zO ?_ | refine vY ?_ | (refine zGY ?_ ?_ <;> (intro _hg; try (exfalso; omega))) | refine ae rfl ?_ | refine r1Y ?_ | fail)) <;> (try clear zz)
  rw [List.take_of_length_le (by omega)] at h2
  exact h2.snapV
 have hw:=ai hj
 have hc:=hg _ hw
 have hst:(l.take (j + 1)).filter p=(l.take j).filter p ++ (if p (l.getD j default) then [l.getD j default] else []):=by
  rw [cW hj,List.filter_append,su]
 have hlen:((l.take j).filter p).length ≤ l.length:=Nat.le_trans (List.length_filter_le _ _) (by rw [List.length_take]; omega)
 cases hp:p (l.getD j default)
 ·rw [hp] at hc hst
  (have zz:=@h1; repeat' (first | refine zW ?_ | apply a_n | refine zO ?_ | refine vY ?_ | refine cY ?_ (hp:=hc) (hs:=by (first | refine ah ?_ rfl | apply ap); (repeat' (first | exact af | apply aC | apply aq | exact ao hd)); first | done | fail) | refine cFY ?_ | (refine zGY ?_ ?_ <;> (intro _hg; try (exfalso; omega))) | fail)) <;> (try clear zz)
  exact ⟨(s,j + 1),by dsimp only; omega,⟨by dsimp only; omega,by dsimp only; rw [hst,if_neg (by decide),List.append_nil]; exact h2,h3⟩,ag0⟩
 ·rw [hp] at hc hst
  (have zz:=@h1; repeat' (first | refine zW ?_ | apply a_n | refine zO ?_ | refine vY ?_ | refine cY ?_ (hp:=hc) (hs:=by (first | refine ah ?_ rfl | apply ap); (repeat' (first | exact af | apply aC | apply aq | exact ao hd)); first | done | fail) | refine blY ?_ | refine cTY ?_ | (refine zGY ?_ ?_ <;> (intro _hg; try (exfalso; omega))) | fail)) <;> (try clear zz)
  refine sJ rfl ev0 (h2.same fun b hb=>?_) ev0 rh rfl rfl Nat.one_pos (by simp; omega) (by simp; omega) ?_
  ·have:=h3 b hb
   rw [ac (by omega)]
  rintro s2 E e hrow hle1 hle2 hsame hb2
  (have zz:=and_self; repeat' (first | apply a_n | refine zO ?_ | refine vZ ?_ | fail)) <;> (try clear zz)
  refine ⟨(s2,j + 1),by dsimp only; omega,⟨by dsimp only; omega,?_,fun b hb=>?_⟩,ag0⟩
  ·dsimp only
   rw [hst,if_pos rfl,List.map_append]
   exact hrow
  ·rcases hb2 b hb with h | h
   ·have:=h3 b h; omega
   ·omega
theorem vI (y:List (List Int)) (v:List Int) (hl:Sh y) (hs:∀ x ∈ y,Sh x) (hv:Sh v):Pure Tryz.prog 50 [aN v,.iptr [ax y] 0] (.bool (decide (v ∈ y))):=by
 refine Pure.of_c2 follows Be (Nat.le_of_ble_eq_true rfl) ?_
 simp only [b50,cO,cG,cN,cM,cD,cF,cB,av,aF]
 (have zz:=and_self; repeat' (first | refine zW ?_ | apply a_n | refine zO ?_ | refine vZ ?_ | refine cZ ?_ (hp:=by exact zb y v hl hs hv) | refine ae rfl ?_ | refine r1Z ?_ | fail)) <;> (try clear zz)
 exact .bool _
theorem s0 (x y:List (List Int)) (hx:x.length ≤ 100000) (hxs:∀ v ∈ x,Sh v) (hl:Sh y) (hs:∀ v ∈ y,Sh v):Pure Tryz.prog 48 [ax x,ax y] (ax (ba x y)):=by
 refine Pure.of_c2 follows AR (Nat.le_of_ble_eq_true rfl) ?_
 simp only [b48,cO,cG,cN,cM,cD,cF,cB,av,aF]
 refine da ?_
 (have zz:=and_self; repeat' (first | apply a_n | refine zO ?_ | refine vZ ?_ | refine bxZ ?_ | fail)) <;> (try clear zz)
 refine da ?_
 refine w7 (only 0 [ax y]) (cA (an bh 0 [ax y]) 0) [(0,ax x),(3,.iptr [ax y] 0)] (Fz.one au) ⟨.inl ev0,.inr (by ((try simp only [bn,ZA,reduceEqDiff,↓reduceIte,reduceAdd,reduceLeDiff]); (try with_reducible rfl)); exact d7 xe rfl (az (a7 _ _) af)),trivial⟩ ?_
 (have zz:=and_self; repeat' (first | apply a_n | refine zO ?_ | refine vZ ?_ | fail)) <;> (try clear zz)
 refine cE ev0 ev0 (xl x (fun v=>decide (v ∈ y)) 50 [.iptr [ax y] 0] (DatL.cons (Dat.iptr (DatL.cons (a7 _) DatL.nil)) DatL.nil) (fun v hv=>vI y v hl hs (hxs v hv)) hx) (ap (by (repeat' (first | exact af | exact Dat.snap Dat.int | exact Dat.snap Dat.bool | exact Dat.snap Dat.str | exact Dat.snap Dat.esl | exact Dat.snap Dat.nilf | exact Dat.snap (a9 _) | exact Dat.snap (a7 _) | apply az | apply dY | apply d6 | (apply d7; (focus ((try simp only [bn,ZA,reduceEqDiff,↓reduceIte,reduceAdd,reduceLeDiff]); with_reducible rfl)); (focus rfl)))))) ?_
 (have zz:=and_self; repeat' (first | apply a_n | refine zO ?_ | refine vZ ?_ | refine ae rfl ?_ | refine r1Z ?_ | fail)) <;> (try clear zz)
 exact a7 _ _
theorem t6 (x y:List (List Int)) (hx:Sh x) (hy:Sh y) (hxs:∀ v ∈ x,Sh v) (hys:∀ v ∈ y,Sh v):Pure Tryz.prog 110 [ax x,ax y,.func 15 []] (.bool (decide (x=y))):=by
 refine Pure.of_c2 follows yz (Nat.le_of_ble_eq_true rfl) ?_
 simp only [zt,cO,cG,cN,cM,cD,cF,cB,av,aF]
 have hx':x.length ≤ 17592186044416:=hx
 have hy':y.length ≤ 17592186044416:=hy
 by_cases hlen:x.length=y.length
 rotate_left
 ·have z:decide ((x.length:Int) ≠ y.length)=true:=decide_eq_true (by omega)
  rw [decide_eq_false (fun e=>hlen (by rw [e]))]
  (have zz:=@z; repeat' (first | refine zW ?_ | apply a_n | apply a_r | refine zO ?_ | refine vZ ?_ | refine cTZ ?_ | refine ae rfl ?_ | refine r1Z ?_ | fail)) <;> (try clear zz)
  exact .bool _
 have z:decide ((x.length:Int) ≠ y.length)=false:=decide_eq_false (by omega)
 (have zz:=@z; repeat' (first | refine zW ?_ | apply a_n | refine zO ?_ | refine vZ ?_ | refine cFZ ?_ | fail)) <;> (try clear zz)
 refine lN (fun k=>[(0,ax x),(1,ax y),(2,.func 15 []),(15,ax x),(16,.int .i64 x.length),(17,.int .i64 k)]) x.length (fun k=>x.getD k default=y.getD k default) ag0 ?_
 intro k hk hz
 by_cases hk2:k < x.length
 rotate_left
 ·(have zz:=and_self; repeat' (first | refine zW ?_ | apply a_n | apply a_x | refine zO ?_ | refine vZ ?_ | (refine zGZ ?_ ?_ <;> (intro _hg; try (exfalso; omega))) | refine ae rfl ?_ | refine r1Z ?_ | fail)) <;> (try clear zz)
  refine bU ?_
  symm; rw [decide_eq_true_iff]
  refine List.ext_getElem hlen fun i h3 h4=>?_
  have:=hz i (by omega)
  simpa [List.getD,h3,h4] using this
 have hc:=f0 (x.getD k default) (y.getD k default) (hxs _ (ai hk2)) (hys _ (ai (by omega)))
 by_cases he:x.getD k default=y.getD k default
 ·rw [decide_eq_true he] at hc
  (have zz:=and_self; repeat' (first | refine zW ?_ | apply a_n | refine zO ?_ | refine vZ ?_ | refine cZ ?_ (hp:=hc) | refine cFZ ?_ | (refine zGZ ?_ ?_ <;> (intro _hg; try (exfalso; omega))) | fail)) <;> (try clear zz)
  exact ⟨hk2,he,ag0,rfl,rfl⟩
 ·rw [decide_eq_false he] at hc
  rw [decide_eq_false (p:=x=y) (fun e=>he (by rw [e]))]
  (have zz:=and_self; repeat' (first | refine zW ?_ | apply a_n | apply a_r | refine zO ?_ | refine vZ ?_ | refine cZ ?_ (hp:=hc) | refine cTZ ?_ | (refine zGZ ?_ ?_ <;> (intro _hg; try (exfalso; omega))) | refine ae rfl ?_ | refine r1Z ?_ | fail)) <;> (try clear zz)
  exact .bool _
theorem oQ (l:List (List Int)) (hl:l.length ≤ 100000) (hs:∀ x ∈ l,Sh x):Pure Tryz.prog 75 [ax l] (ax l):=by
 refine Pure.of_c2 follows Av (Nat.le_of_ble_eq_true rfl) ?_
 simp only [b75,cO,cG,cN,cM,cD,cF,cB,av,aF]
 (have zz:=and_self; repeat' (first | refine zW ?_ | apply a_n | refine zO ?_ | refine vZ ?_ | fail)) <;> (try clear zz)
 refine be (X:=AV × Nat) (fun x=>[(3,x.1),(6,ax l),(7,.int .i64 l.length),(8,.int .i64 x.2)]) (fun x H nx=>x.2 ≤ l.length∧Row H 1 x.1 ((l.take x.2).map aN)∧∀ b,gN x.1=some b→b < nx) (fun x=>l.length - x.2) (.esl,0) ⟨Nat.zero_le _,Row.nil,fun b hb=>(by cases hb)⟩ ag0 ?_
 rintro ⟨s,j⟩ H nx ⟨h1,h2,h3⟩
 dsimp only at h1 h2 h3 ⊢
 by_cases hj:j < l.length
 ·have hw:=ai hj
  have hcl:=j8 _ (hs _ hw)
  (have zz:=@h1; repeat' (first | refine zW ?_ | apply a_n | refine zO ?_ | refine vY ?_ | (refine zGY ?_ ?_ <;> (intro _hg; try (exfalso; omega))) | fail)) <;> (try clear zz)
  refine kg ev0 ev0 hcl (az (a9 _ _) af) ?_
  (have zz:=@h1; repeat' (first | apply a_n | refine zO ?_ | refine blY ?_ | fail)) <;> (try clear zz)
  refine sJ rfl ev0 (h2.same fun b hb=>?_) ev0 rh rfl rfl Nat.one_pos (by simp; omega) (by simp; omega) ?_
  ·have:=h3 b hb
   rw [ac (by omega)]
  rintro s2 E e hrow hle1 hle2 hsame hb2
  (have zz:=and_self; repeat' (first | apply a_n | refine zO ?_ | refine vZ ?_ | fail)) <;> (try clear zz)
  refine ⟨(s2,j + 1),by dsimp only; omega,⟨by dsimp only; omega,?_,fun b hb=>?_⟩,ag0⟩
  ·dsimp only
   rw [cW hj,List.map_append]
   exact hrow
  ·rcases hb2 b hb with h | h
   ·have:=h3 b h; omega
   ·omega
 ·(have zz:=@h1; repeat' (first | refine zW ?_ | apply a_n | apply a_x | refine zO ?_ | refine vY ?_ | (refine zGY ?_ ?_ <;> (intro _hg; try (exfalso; omega))) | refine ae rfl ?_ | refine r1Y ?_ | fail)) <;> (try clear zz)
  rw [List.take_of_length_le (by omega)] at h2
  exact h2.snapV
theorem u5 (i:List Int) (x y:List (List Int)) (hi:Sh i) (hx:x.length ≤ 100000) (hy:y.length ≤ 100000) (hxs:∀ v ∈ x,Sh v) (hys:∀ v ∈ y,Sh v):Pure Tryz.prog 60 [aN i,ax x,ax y] (.agg [aN i,ax x,ax (bV i x y).calm]):=by
 refine Pure.of_c2 follows As (Nat.le_of_ble_eq_true rfl) ?_
 simp only [b60,cO,cG,cN,cM,cD,cF,cB,av,aF]
 have hcl:=j8 i hi
 have h1:Pure Tryz.prog 75 [ax x] (ax x):=oQ x hx hxs
 have h2:Pure Tryz.prog 75 [ax y] (ax y):=oQ y hy hys
 have hE:=t6 x y (show x.length ≤ _ by omega) (show y.length ≤ _ by omega) hxs hys
 unfold bV
 (have zz:=and_self; repeat' (first | refine zW ?_ | apply a_n | refine zO ?_ | refine vZ ?_ | refine alZ ?_ | fail)) <;> (try clear zz)
 refine kg ev0 ev0 hcl (az (a9 _ _) af) ?_
 by_cases he:x=y
 ·rw [decide_eq_true he] at hE
  rw [if_pos he]
  (have zz:=and_self; repeat' (first | refine zW ?_ | apply a_n | refine zO ?_ | refine vZ ?_ | refine cZ ?_ (hp:=by first | exact h1 | exact h2 | exact hE) (hs:=by (first | refine ah ?_ rfl | apply ap); (repeat' (first | exact af | apply aC | apply aq | exact Dat.func DatL.nil)); first | done | fail) | refine alZ ?_ | refine stZ ?_ | refine cFZ ?_ | refine ae rfl ?_ | refine r1Z ?_ | fail)) <;> (try clear zz)
  exact g9 (az (a9 _ _) (az (a7 _ _) (az (.eslsl 1) af)))
 ·rw [decide_eq_false he] at hE
  rw [if_neg he]
  (have zz:=and_self; repeat' (first | refine zW ?_ | apply a_n | refine zO ?_ | refine vZ ?_ | refine cZ ?_ (hp:=by first | exact h1 | exact h2 | exact hE) (hs:=by (first | refine ah ?_ rfl | apply ap); (repeat' (first | exact af | apply aC | apply aq | exact Dat.func DatL.nil)); first | done | fail) | refine alZ ?_ | refine stZ ?_ | refine cTZ ?_ | refine ae rfl ?_ | refine r1Z ?_ | fail)) <;> (try clear zz)
  exact g9 (az (a9 _ _) (az (a7 _ _) (az (a7 _ _) af)))
end Go.Proofs.YtjgpfclngkcedaaGreat
namespace Go.Proofs.YtjgpfclngkcedaaGreat
open Go Go.Abs
def ec (l:List (List Int)):Prop:=l.Pairwise fun x y=>a8 x y < 0
theorem ec.nodup {l:List (List Int)} (h:ec l):l.Nodup:=List.Pairwise.imp (fun {a b} h e=>by subst e; rw [cH] at h; omega) h
theorem ec.sorted {l:List (List Int)} (h:ec l):bC a8 l:=List.Pairwise.imp (fun {a b} h=>mj.asym _ _ h) h
theorem ec.of {l:List (List Int)} (hs:bC a8 l) (hn:l.Nodup):ec l:=by
 have h2:=List.nodup_iff_pairwise_ne.1 hn
 refine List.Pairwise.imp₂ (fun a b h1 h2=>?_) hs h2
 rcases gF a b with h | h | h
 ·omega
 ·exact absurd (gf h) h2
 ·have:=dI a b
  exact absurd (show a8 b a < 0 by omega) h1
theorem j7 {a b:List (List Int)} (ha:ec a) (hb:ec b) (h:∀ x,x ∈ a ↔ x ∈ b):a=b:=by
 have hp:a.Perm b:=(List.perm_ext_iff_of_nodup ha.nodup hb.nodup).2 h
 exact List.Perm.eq_of_pairwise (fun x y _ _ h1 h2=>by have:=dI x y; omega) ha hb hp
theorem oY {l:List (List Int)} (h:ec l):∀ i,i < l.length→bA l i=false:=jZ h.sorted h.nodup
theorem oK {l:List (List Int)} (h:∀ i,i < l.length→bA l i=false):ec l:=ec.of (rW h) (uz h)
def oh (acc:List (List Int)) (v:List Int):List (List Int):=if v ∈ acc then acc else mo a8 acc v
theorem wh {acc:List (List Int)} {v:List Int} (h:ec acc):ec (oh acc v):=by
 unfold oh
 split
 ·exact h
 ·rename_i hn
  refine ec.of (lm mj h.sorted) ?_
  rw [(iY acc v).nodup_iff,List.nodup_cons]
  exact ⟨hn,h.nodup⟩
theorem wg {acc:List (List Int)} {v x:List Int}:x ∈ oh acc v ↔ x ∈ acc ∨ x=v:=by
 unfold oh
 split
 ·rename_i h
  exact ⟨.inl,fun h2=>h2.elim id (fun e=>e ▸ h)⟩
 ·rw [(iY acc v).mem_iff,List.mem_cons]
  exact ⟨fun h=>h.elim .inr .inl,fun h=>h.elim .inr .inl⟩
theorem vM {acc:List (List Int)} {v:List Int}:(oh acc v).length ≤ acc.length + 1:=by
 unfold oh
 split
 ·omega
 ·rw [vu]; exact Nat.le_refl _
def oq (acc l:List (List Int)):List (List Int):=l.foldl oh acc
theorem qz:∀ {l acc:List (List Int)},ec acc→ec (oq acc l)
 | [],_,h=>h
 | v :: l,acc,h=>qz (l:=l) (wh (v:=v) h)
theorem qi:∀ {l acc:List (List Int)} {x:List Int},x ∈ oq acc l ↔ x ∈ acc ∨ x ∈ l
 | [],acc,x=>by simp [oq]
 | v :: l,acc,x=>by
  rw [show oq acc (v :: l)=oq (oh acc v) l from rfl,qi,wg,List.mem_cons,or_assoc]
theorem rt:∀ {l acc:List (List Int)},(oq acc l).length ≤ acc.length + l.length
 | [],acc=>by simp [oq]
 | v :: l,acc=>by
  rw [show oq acc (v :: l)=oq (oh acc v) l from rfl]
  have:=rt (l:=l) (acc:=oh acc v)
  have:=vM (acc:=acc) (v:=v)
  rw [List.length_cons]; omega
def lf (l:List (List Int)):List (List Int):=oq [] l
theorem ko (l:List (List Int)):ec (lf l):=qz List.Pairwise.nil
theorem iw {l:List (List Int)} {x:List Int}:x ∈ lf l ↔ x ∈ l:=by
 unfold lf; rw [qi]; simp
theorem wt {l:List (List Int)}:(lf l).length ≤ l.length:=by
 have:=rt (l:=l) (acc:=[])
 unfold lf
 rw [List.length_nil] at this
 omega
theorem vP {l m:List (List Int)} (h:∀ x,x ∈ l ↔ x ∈ m):lf l=lf m:=j7 (ko l) (ko m) fun x=>by rw [iw,iw,h]
theorem vS {l:List (List Int)}:lf l=[] ↔ l=[]:=by
 constructor
 ·intro h
  cases l with
  | nil=>rfl
  | cons a l =>
   have:a ∈ lf (a :: l):=iw.2 (List.mem_cons_self ..)
   rw [h] at this
   exact absurd this (by simp)
 ·rintro rfl; rfl
section
variable {α:Type} [Inhabited α] [DecidableEq α]
def bt (l:List α):Nat→Nat
 | 0=>0
 | k + 1=>bt l k + if k=0 ∨ l.getD k default ≠ l.getD (k - 1) default then 1 else 0
theorem tR (l:List α) (k:Nat):bt l k ≤ k:=by
 induction k with
 | zero=>exact Nat.le_refl _
 | succ k ih=>unfold bt; split <;> omega
theorem fI {l:List α} {k:Nat} (hk:k ≠ 0) (h:l.getD k default=l.getD (k - 1) default):bt l (k + 1)=bt l k:=by
 rw [bt,if_neg (by rintro (h' | h'); exact hk h'; exact h' h)]; rfl
theorem lK {l:List α} {k:Nat} (h:l.getD k default ≠ l.getD (k - 1) default):bt l (k + 1)=bt l k + 1:=by
 rw [bt,if_pos (.inr h)]
def ddG (l:List α):Nat→List α
 | 0=>[]
 | k + 1=>ddG l k ++ if k=0 ∨ l.getD k default ≠ l.getD (k - 1) default then [l.getD k default] else []
theorem wS (l:List α) (k:Nat):(ddG l k).length=bt l k:=by
 induction k with
 | zero=>rfl
 | succ k ih=>rw [ddG,bt,List.length_append,ih]; split <;> rfl
theorem qn {l:List α} {k:Nat} (hk:k ≠ 0) (h:l.getD k default=l.getD (k - 1) default):ddG l (k + 1)=ddG l k:=by
 rw [ddG,if_neg (by rintro (h' | h'); exact hk h'; exact h' h),List.append_nil]
theorem rA {l:List α} {k:Nat} (h:l.getD k default ≠ l.getD (k - 1) default):ddG l (k + 1)=ddG l k ++ [l.getD k default]:=by
 rw [ddG,if_pos (.inr h)]
theorem qb {l:List α}:∀ {k:Nat},k ≤ l.length→∀ x,x ∈ ddG l k ↔ ∃ j,j < k∧l.getD j default=x
 | 0,_,x=>by simp [ddG]
 | k + 1,hk,x=>by
  have ih:=qb (l:=l) (k:=k) (by omega) x
  rw [ddG,List.mem_append,ih]
  constructor
  ·rintro (⟨j,h1,h2⟩ | h)
   ·exact ⟨j,by omega,h2⟩
   ·split at h
    ·rw [List.mem_singleton] at h; exact ⟨k,by omega,h.symm⟩
    ·simp at h
  ·rintro ⟨j,h1,h2⟩
   by_cases e:j=k
   ·subst e
    by_cases c:j=0 ∨ l.getD j default ≠ l.getD (j - 1) default
    ·right; rw [if_pos c,List.mem_singleton]; exact h2.symm
    ·left
     have c1:j ≠ 0:=fun h=>c (.inl h)
     have c2:l.getD j default=l.getD (j - 1) default:=Decidable.of_not_not fun h=>c (.inr h)
     exact ⟨j - 1,by omega,by rw [← c2]; exact h2⟩
   ·left; exact ⟨j,by omega,h2⟩
theorem s7 {K:α→α→Int} (hK:Ord K) (hA:∀ x y,¬ K x y < 0→¬ K y x < 0→x=y) {l:List α} (hs:∀ i j,i < j→j < l.length→¬ K (l.getD j default) (l.getD i default) < 0):∀ {k:Nat},k ≤ l.length→(ddG l k).Pairwise fun x y=>K x y < 0
 | 0,_=>List.Pairwise.nil
 | k + 1,hk=>by
  have ih:=s7 hK hA hs (k:=k) (by omega)
  rw [ddG,List.pairwise_append]
  refine ⟨ih,by split <;> simp,fun x hx y hy=>?_⟩
  split at hy
  ·rename_i c
   rw [List.mem_singleton] at hy
   subst hy
   obtain ⟨j,h1,rfl⟩:=(qb (by omega) x).1 hx
   rcases c with c | c
   ·omega
   ·refine Decidable.byContradiction fun hn=>?_
    have a2:=hs (k - 1) k (by omega) (by omega)
    have hne:K (l.getD (k - 1) default) (l.getD k default) < 0:=Decidable.byContradiction fun h3=>c (hA _ _ a2 h3)
    by_cases e:j=k - 1
    ·rw [e] at hn; exact hn hne
    ·have a1:=hs j (k - 1) (by omega) (by omega)
     exact hK.negtr _ _ _ hn a1 hne
  ·simp at hy
omit [DecidableEq α] in
theorem pt {M:List α} {x:α}:(∃ j,j < M.length∧M.getD j default=x) ↔ x ∈ M:=by
 constructor
 ·rintro ⟨j,h1,rfl⟩; exact ai h1
 ·intro h
  obtain ⟨j,hj,rfl⟩:=List.getElem_of_mem h
  exact ⟨j,hj,by simp [List.getD,hj]⟩
end
theorem xA (l:List (List Int)):ddG (wc l) (wc l).length=lf l:=by
 refine j7 (s7 mj (fun _ _=>qc) (fun i j h1 h2=>?_) (Nat.le_refl _)) (ko l) fun x=>?_
 ·have h3:j < (gU a8 l).length:=h2
  have:=List.pairwise_iff_getElem.1 (gw mj l) i j (by omega) h3 h1
  simpa [List.getD,h3,show i < (gU a8 l).length by omega] using this
 ·rw [qb (Nat.le_refl _),pt,(dP l).mem_iff,iw]
end Go.Proofs.YtjgpfclngkcedaaGreat
namespace Go.Proofs.YtjgpfclngkcedaaGreat
open Go Go.Abs
open Nat (reduceEqDiff reduceAdd reduceLeDiff)
section
variable {P:Program} {T:Tm} {H:Hp} {nx:Nat}
theorem Ao {dm:DM} {K:SP} {l:List Op2} {d:Option Nat} {sz bytes:Nat} {z:List AV} {s x:Opd} {k:IntKind} {n:Int} (hd:dm2 dm T (.apz sz bytes z s x)=true) (hs:ov T s=.esl) (hx:ov T x=.int k n) (h0:0 < n) (h1:n ≤ 9223372036854775807) (h2:n.toNat * bytes ≤ 140737488355328)
    (kk:ag P dm l (aG T d (.msl nx (n.toNat * sz) sz 0 n.toNat)) (an H nx (aY (.agg z) n.toNat)) (nx + 1) K):ag P dm (⟨d,none,.apz sz bytes z s x⟩ :: l) T H nx K:=by
 refine jR rfl hd ?_ kk
 simp only [eB,hs,hx]
 rw [if_pos ⟨h0,h1,h2⟩]
end
theorem y2 (T:Tm) (H:Hp) (x:Opd):aX T H (.capE x)=match ov T x with | .esl=>some (.int .i64 0) | _=>none:=rfl
theorem uQ {α:Type} [Inhabited α] {L:List α} {h:Nat} {x:α} (hh:h < L.length):(L.set h x).take (h + 1)=L.take h ++ [x]:=by
 rw [cW (by simpa using hh),List.take_set_of_le (Nat.le_refl h)]
 simp [List.getD,hh]
theorem mG {B n len k:Nat} (h:k < len) (hn:n ≠ 0):q9 1 (.msl B n 1 0 len) (some (.int .i64 k)) none none=some (.msl B n 1 k (len - k)):=by
 simp only [q9,bl,Int.natCast_nonneg,if_true,Int.toNat_natCast]
 rw [if_pos ⟨trivial,by omega,Nat.le_refl _,hn⟩,if_pos (.inr h),Nat.zero_add,Nat.mul_one]
theorem nX {B n len k:Nat} (h:k ≤ len) (hn:n ≠ 0):q9 1 (.msl B n 1 0 len) none (some (.int .i64 k)) none=some (.msl B n 1 0 k):=by
 simp only [q9,bl,Int.natCast_nonneg,if_true,Int.toNat_natCast]
 rw [if_pos ⟨trivial,by omega,h,hn⟩,if_pos (.inl trivial),Nat.zero_mul,Nat.sub_zero]
attribute [local irreducible] aA ag aU aO aE aH ay aJ aQ aZ Go.Abs.Fn aL Go.Abs.Pure ak aB Yl
theorem zG (n:Nat) (h0:0 < n) (h1:n ≤ 1000000) (H:Hp) (nx:Nat):Abs.Fn Tryz.prog 109 [.esl,.int .i64 n] H nx fun r H' nx'=>r=.msl nx n 1 0 0∧H'=an H nx (aY (.agg [.esl]) n)∧nx'=nx + 1:=by
 refine Abs.Fn.of_c2 follows yr (Nat.le_of_ble_eq_true rfl) ?_
 simp only [zn,cO,cG,cN,cM,cD,cF,cB,av,aF]
 have z1:decide ((n:Int) < 0)=false:=decide_eq_false (by omega)
 have z2:decide ((0:Int) < n)=true:=decide_eq_true (by omega)
 have s2:q9 1 .esl none (some (.int .i64 0)) none=some .esl:=rfl
 have s3:=nX (B:=nx) (n:=n) (len:=n) (k:=0) (by omega) (by omega)
 rw [show ((0:Nat):Int)=0 from rfl] at s3
 (have zz:=aI @z1 (aI @z2 (aI @s2 (aI @Int.sub_zero (aI @Int.sub_self @y2)))); repeat' (first | refine zW ?_ | apply a_n | refine zO ?_ | refine vY ?_ | refine cTY ?_ | refine cFY ?_ | fail)) <;> (try clear zz)
 refine Ao rfl (have zz:=@s2; evY) ev0 (by omega) (by omega) (by omega) ?_
 (have zz:=@s3; repeat' (first | refine zW ?_ | apply a_n | refine zO ?_ | refine vY ?_ | refine ae rfl ?_ | refine r1Y ?_ | fail)) <;> (try clear zz)
 exact ⟨rfl,rfl,rfl⟩
theorem vA (s:AV) (l:List (List Int)) (hl:l.length ≤ 1000000) (H:Hp) (nx:Nat) (hn:fu s=some l.length) (hs:∀ H',(∀ x,x < nx→H' x=H x)→cP 1 H' s=some (l.length,l.map aN)):Abs.Fn Tryz.prog 106 [s] H nx fun r H' nx'=>nx' ≤ nx + 1∧nx ≤ nx'∧(∀ x,x < nx→H' x=H x)∧if l=[] then co r=some (.int .i64 0)∧∀ H'',Snap H'' r (ax []) else r=.msl nx l.length 1 0 l.length∧H'=an H nx (l.map aN)∧nx'=nx + 1:=by
 refine Abs.Fn.of_c2 follows vG (Nat.le_of_ble_eq_true rfl) ?_
 simp only [wO,cO,cG,cN,cM,cD,cF,cB,av,aF]
 (have zz:=and_self; repeat' (first | refine zW ?_ | apply a_n | refine zO ?_ | refine vY ?_ | fail)) <;> (try clear zz)
 refine pD (k:=l.length) (by ((try simp only [bn,ZA,reduceEqDiff,↓reduceIte,reduceAdd,reduceLeDiff]); (try with_reducible rfl)); exact hn) (fun h=>?_) (fun h=>?_) (fun h=>?_)
 ·(have zz:=and_self; repeat' (first | refine zW ?_ | apply a_n | refine zO ?_ | refine vY ?_ | refine b0Y ?_ | refine cFY ?_ | fail)) <;> (try clear zz)
  refine pJ rfl ev0 ev0 (hs _ fun x _=>rfl) gg (by omega) (by omega) ?_
  (have zz:=and_self; repeat' (first | apply a_n | refine zO ?_ | refine vY ?_ | refine ae rfl ?_ | refine r1Y ?_ | fail)) <;> (try clear zz)
  refine ⟨Nat.le_refl _,by omega,fun x hx=>ac (by omega),?_⟩
  rw [if_neg (by rintro rfl; exact absurd h (by simp))]
  exact ⟨rfl,rfl,rfl⟩
 ·(have zz:=and_self; repeat' (first | refine zW ?_ | apply a_n | apply a_r | refine zO ?_ | refine vY ?_ | refine cTY ?_ | refine ae rfl ?_ | refine r1Y ?_ | fail)) <;> (try clear zz)
  refine ⟨by omega,Nat.le_refl _,fun x hx=>rfl,?_⟩
  rw [if_pos (List.length_eq_zero_iff.1 h)]
  exact ⟨rfl,fun _=>.eslsl 1⟩
 ·(have zz:=and_self; repeat' (first | refine zW ?_ | apply a_n | refine zO ?_ | refine vY ?_ | refine b0Y ?_ | refine cFY ?_ | fail)) <;> (try clear zz)
  refine pJ rfl ev0 ev0 (hs _ fun x _=>rfl) gg (by omega) (by omega) ?_
  (have zz:=and_self; repeat' (first | apply a_n | refine zO ?_ | refine vY ?_ | refine ae rfl ?_ | refine r1Y ?_ | fail)) <;> (try clear zz)
  refine ⟨Nat.le_refl _,by omega,fun x hx=>ac (by omega),?_⟩
  obtain rfl:=List.length_eq_zero_iff.1 h
  rw [if_pos rfl]
  exact ⟨rfl,fun _=>.mslnil _ _ _ _ _⟩
section
variable {g:Nat} {caps:List AV} {s:AV}
theorem Bm (hs:co s=some (.int .i64 0)) {H:Hp} {nx:Nat}:Abs.Fn Tryz.prog 149 [s,.int .i64 0,.int .i64 0,.func g caps] H nx fun r H' nx'=>nx'=nx∧H'=H:=by
 refine Abs.Fn.of_c2 follows v4 (Nat.le_of_ble_eq_true rfl) ?_
 simp only [wN,cO,cG,cN,cM,cD,cF,cB,av,aF]
 (have zz:=and_self; repeat' (first | refine zW ?_ | apply a_n | refine zO ?_ | refine vZ ?_ | fail)) <;> (try clear zz)
 refine be (X:=Unit) (fun x=>[(0,s),(1,.int .i64 0),(2,.int .i64 0),(3,.func g caps),(8,.int .i64 1)]) (fun x H' nx'=>H'=H∧nx'=nx) (fun x=>0) () ⟨rfl,rfl⟩ (by simp (disch:=omega) only [agr,ZG,reduceEqDiff,↓reduceIte,Int.zero_add,true_and]) ?_
 rintro _ _ _ ⟨rfl,rfl⟩
 (have zz:=and_self; repeat' (first | refine zW ?_ | apply a_n | apply a_x | refine zO ?_ | refine vZ ?_ | (refine zGZ ?_ ?_ <;> (intro _hg; try (exfalso; omega))) | refine ae rfl ?_ | fail)) <;> (try clear zz)
 exact ⟨rfl,rfl⟩
theorem AS (hs:co s=some (.int .i64 0)) {H:Hp} {nx:Nat}:Abs.Fn Tryz.prog 130 [s,.int .i64 0,.int .i64 0,.int .i64 0,.func g caps] H nx fun r H' nx'=>nx'=nx∧H'=H:=by
 refine Abs.Fn.of_c2 follows u4 (Nat.le_of_ble_eq_true rfl) ?_
 simp only [wW,cO,cG,cN,cM,cD,cF,cB,av,aF]
 (have zz:=and_self; repeat' (first | refine zW ?_ | apply a_n | refine zO ?_ | refine vZ ?_ | fail)) <;> (try clear zz)
 refine be (X:=Unit) (fun x=>[(0,s),(1,.int .i64 0),(2,.int .i64 0),(3,.int .i64 0),(4,.func g caps)]) (fun x H' nx'=>H'=H∧nx'=nx) (fun x=>0) () ⟨rfl,rfl⟩ ag0 ?_
 rintro _ _ _ ⟨rfl,rfl⟩
 (have zz:=and_self; repeat' (first | refine zW ?_ | apply a_n | refine zO ?_ | refine vZ ?_ | (refine zGZ ?_ ?_ <;> (intro _hg; try (exfalso; omega))) | fail)) <;> (try clear zz)
 refine aD ev0 ev0 (Bm hs) ?_
 rintro _ _ _ ⟨rfl,rfl⟩
 (have zz:=and_self; repeat' (first | apply a_n | apply a_r | refine zO ?_ | refine ae rfl ?_ | fail)) <;> (try clear zz)
 exact ⟨rfl,rfl⟩
theorem xq (hs:co s=some (.int .i64 0)) {H:Hp} {nx:Nat}:Abs.Fn Tryz.prog 107 [s,.func g caps] H nx fun r H' nx'=>nx'=nx∧H'=H:=by
 refine Abs.Fn.of_c2 follows v7 (Nat.le_of_ble_eq_true rfl) ?_
 simp only [wZ,cO,cG,cN,cM,cD,cF,cB,av,aF]
 have w8:IntKind.wrap .u64 0=0:=by decide
 (have zz:=aI @w8 @hs; repeat' (first | refine zW ?_ | apply a_n | refine zO ?_ | refine vZ ?_ | fail)) <;> (try clear zz)
 refine aD ev0 (have zz:=@w8; evZ) BD ?_
 rintro _ _ _ ⟨rfl,rfl,rfl⟩
 (have zz:=and_self; repeat' (first | apply a_n | refine zO ?_ | refine vZ ?_ | fail)) <;> (try clear zz)
 refine aD ev0 ev0 (AS hs) ?_
 rintro _ _ _ ⟨rfl,rfl⟩
 (have zz:=and_self; repeat' (first | apply a_n | refine zO ?_ | refine ae rfl ?_ | fail)) <;> (try clear zz)
 exact ⟨rfl,rfl⟩
end
end Go.Proofs.YtjgpfclngkcedaaGreat
namespace Go.Proofs.YtjgpfclngkcedaaGreat
open Go Go.Abs
open Nat (reduceEqDiff reduceAdd reduceLeDiff)
attribute [local irreducible] aA ag aU aO aE aH ay aJ aQ aZ Go.Abs.Fn aL Go.Abs.Pure ak aB Yl
set_option maxHeartbeats 2000000 in
theorem r7 (l:List (List Int)) (hl:l.length ≤ 1000000) (hls:∀ v ∈ l,Sh v) (h0:l ≠ []) (H:Hp) (B nx:Nat) (hH:H B=some (l.map aN)) (hB:B < nx) :
    Abs.Fn Tryz.prog 108 [.msl B l.length 1 0 l.length,.func 15 []] H nx fun r H' nx'=>r=.msl B l.length 1 0 (bt l l.length)∧(∃ C,H'=an H B C∧C.length=l.length∧C.take (bt l l.length)=(ddG l l.length).map aN)∧nx'=nx:=by
 refine Abs.Fn.of_c2 follows vO (Nat.le_of_ble_eq_true rfl) ?_
 simp only [wY,cO,cG,cN,cM,cD,cF,cB,av,aF]
 have hpos:=List.length_pos_iff.2 h0
 have hid:H=an H B (l.map aN):=dt hH
 have heq:=fun i j (hi:i < l.length) (hj:j < l.length)=>f0 (l.getD i default) (l.getD j default) (hls _ (ai hi)) (hls _ (ai hj))
 have hh1:bt l 1=1:=rfl
 by_cases h1:l.length < 2
 ·have e1:l.length=1:=by omega
  have e2:ddG l l.length=l:=by
   match l,e1 with
   | [a],_=>rfl
  have z:decide ((l.length:Int) < 2)=true:=decide_eq_true (by omega)
  (have zz:=@z; repeat' (first | refine zW ?_ | apply a_n | apply a_r | refine zO ?_ | refine vZ ?_ | refine cTZ ?_ | refine ae rfl ?_ | refine r1Z ?_ | fail)) <;> (try clear zz)
  refine ⟨?_,⟨_,hid,by simp,?_⟩,rfl⟩
  ·rw [show bt l l.length=l.length by rw [e1]; rfl]
  ·rw [e2,show bt l l.length=l.length by rw [e1]; rfl,List.take_of_length_le (by simp)]
 have z:decide ((l.length:Int) < 2)=false:=decide_eq_false (by omega)
 (have zz:=@z; repeat' (first | refine zW ?_ | apply a_n | refine zO ?_ | refine vZ ?_ | refine cFZ ?_ | fail)) <;> (try clear zz)
 refine be (X:=Nat) (fun k=>[(0,.msl B l.length 1 0 l.length),(1,.func 15 []),(5,.int .i64 k)]) (fun k H' nx'=>H'=H∧nx'=nx∧1 ≤ k∧k ≤ l.length∧bt l k=k∧ddG l k=l.take k) (fun k=>l.length - k) 1 ⟨rfl,rfl,Nat.le_refl _,hpos,rfl,by match l,h0 with | a :: r,_=>rfl⟩ ag0 ?_
 rintro k H' nx' ⟨rfl,rfl,k1,k2,k3,k4⟩
 by_cases hk:k < l.length
 rotate_left
 ·(have zz:=and_self; repeat' (first | refine zW ?_ | apply a_n | apply a_x | refine zO ?_ | refine vZ ?_ | (refine zGZ ?_ ?_ <;> (intro _hg; try (exfalso; omega))) | refine ae rfl ?_ | refine r1Z ?_ | fail)) <;> (try clear zz)
  have e:l.length=k:=by omega
  refine ⟨by rw [e,k3],⟨_,hid,by simp,?_⟩,rfl⟩
  rw [e,k3,k4,← List.map_take]
 have tk:(k:Int) - 1=(k - 1:Nat):=by omega
 have hc:=heq k (k - 1) hk (by omega)
 by_cases he:l.getD k default=l.getD (k - 1) default
 rotate_left
 ·rw [decide_eq_false he] at hc
  (have zz:=aI @tk (aI @hH @Int.toNat_natCast); repeat' (first | refine zW ?_ | refine zM ?_ | apply a_n | refine zO ?_ | refine vZ ?_ | refine cZ ?_ (hp:=hc) | refine cFZ ?_ | (refine zGZ ?_ ?_ <;> (intro _hg; try (exfalso; omega))) | fail)) <;> (try clear zz)
  exact ⟨k + 1,by omega,⟨rfl,rfl,by omega,by omega,by rw [lK he,k3],by rw [rA he,k4,cW hk]⟩,ag0⟩
 have hs:=mG (B:=B) hk (Nat.ne_of_gt hpos)
 rw [decide_eq_true he] at hc
 (have zz:=aI @tk (aI @hH (aI @Int.toNat_natCast @hs)); repeat' (first | refine zW ?_ | refine zM ?_ | apply a_n | refine zO ?_ | refine vZ ?_ | refine cZ ?_ (hp:=hc) | refine cTZ ?_ | (refine zGZ ?_ ?_ <;> (intro _hg; try (exfalso; omega))) | fail)) <;> (try clear zz)
 refine be (X:=Nat × List (List Int)) (fun x=>[(0,.msl B l.length 1 0 l.length),(1,.func 15 []),(5,.int .i64 (bt l (k + x.1):Nat)),(6,.msl B l.length 1 k (l.length - k)),(7,.int .i64 x.1)]) (fun x H2 nx2=>x.2.length=l.length∧1 ≤ x.1∧k + x.1 ≤ l.length∧bt l (k + x.1) + 1 ≤ k + x.1∧H2=an H' B (x.2.map aN)∧nx2=nx'∧(∀ p,k + x.1 ≤ p + 1→x.2.getD p default=l.getD p default)∧x.2.take (bt l (k + x.1))=ddG l (k + x.1)) (fun x=>l.length - x.1) (1,l)
  ⟨rfl,Nat.le_refl _,hk,by dsimp only; rw [fI (by omega) he]; omega,hid,rfl,fun _ _=>rfl,by dsimp only; rw [fI (by omega) he,qn (by omega) he,k3,k4]⟩ (by simp (disch:=omega) only [agr,ZG,reduceEqDiff,↓reduceIte,fI (show k ≠ 0 by omega) he,k3]) ?_
 rintro ⟨j,L⟩ H2 nx2 ⟨a1,a2,a3,a4,rfl,rfl,a5,a6⟩
 dsimp only at a1 a2 a3 a4 a5 a6 ⊢
 by_cases hj:k + j < l.length
 ·have tj:(j:Int) - 1=(j - 1:Nat):=by omega
  have r1:=a5 (k + j) (by omega)
  have r2:=a5 (k + (j - 1)) (by omega)
  have hc2:=heq (k + j) (k + (j - 1)) hj (by omega)
  by_cases hd:l.getD (k + j) default=l.getD (k + (j - 1)) default
  ·have hq:bt l (k + (j + 1))=bt l (k + j):=fI (l:=l) (k:=k + j) (by omega) (by rw [hd,show k + j - 1=k + (j - 1) by omega])
   rw [decide_eq_true hd] at hc2
   (have zz:=aI @tj (aI @Int.toNat_natCast (aI @r1 @r2)); repeat' (first | refine zW ?_ | refine zM ?_ | apply a_n | refine zO ?_ | refine vZ ?_ | refine cZ ?_ (hp:=hc2) | refine cFZ ?_ | (refine zGZ ?_ ?_ <;> (intro _hg; try (exfalso; omega))) | fail)) <;> (try clear zz)
   refine ⟨(j + 1,L),by dsimp only; omega,⟨a1,by dsimp only; omega,by dsimp only; omega,?_,rfl,rfl,fun p hp=>a5 p (by dsimp only at hp; omega),by dsimp only; rw [hq,show k + (j + 1)=k + j + 1 from rfl,qn (by omega) (by rw [hd,show k + j - 1=k + (j - 1) by omega])]; exact a6⟩,(have zz:=@hq; agZ)⟩
   dsimp only
   rw [hq]
   omega
  ·have hq:bt l (k + (j + 1))=bt l (k + j) + 1:=lK (l:=l) (k:=k + j) (by rw [show k + j - 1=k + (j - 1) by omega]; exact hd)
   have hlm:=gj (f:=aN) (l:=L) (k:=bt l (k + j)) (x:=l.getD (k + j) default) (by omega)
   rw [decide_eq_false hd] at hc2
   (have zz:=aI @tj (aI @Int.toNat_natCast (aI @r1 @r2)); repeat' (first | refine zW ?_ | refine zM ?_ | apply a_n | refine zO ?_ | refine vZ ?_ | refine cZ ?_ (hp:=hc2) | refine stZ ?_ | refine cTZ ?_ | (refine zGZ ?_ ?_ <;> (intro _hg; try (exfalso; omega))) | fail)) <;> (try clear zz)
   refine ⟨(j + 1,L.set (bt l (k + j)) (l.getD (k + j) default)),by dsimp only; omega,⟨by simp [a1],by dsimp only; omega,by dsimp only; omega,?_,?_,rfl,fun p hp=>?_,by dsimp only; rw [hq,uQ (by omega),a6,show k + (j + 1)=k + j + 1 from rfl,rA (by rw [show k + j - 1=k + (j - 1) by omega]; exact hd)]⟩,(have zz:=@hq; agZ)⟩
   ·dsimp only
    rw [hq]
    omega
   ·dsimp only
    rw [am,hlm]
   ·dsimp only at hp ⊢
    rw [List.getD_eq_getElem?_getD,List.getElem?_set_ne (by omega),← List.getD_eq_getElem?_getD]
    exact a5 p (by omega)
 ·have hn:k + j=l.length:=by omega
  have hl1:=mG (B:=B) (n:=l.length) (show bt l (k + j) < l.length by omega) (Nat.ne_of_gt hpos)
  have hl2:=nX (B:=B) (n:=l.length) (show bt l (k + j) ≤ l.length by omega) (Nat.ne_of_gt hpos)
  (have zz:=aI @hl1 @hl2; repeat' (first | refine zW ?_ | apply a_n | apply a_x | refine zO ?_ | refine vZ ?_ | (refine zGZ ?_ ?_ <;> (intro _hg; try (exfalso; omega))) | fail)) <;> (try clear zz)
  refine Am (H':=an (an H' B (L.map aN)) B (bg (L.map aN) (bt l (k + j)) (aY .esl (l.length - bt l (k + j))))) ?_ ?_
  ·((try simp only [bn,ZA,reduceEqDiff,↓reduceIte,reduceAdd,reduceLeDiff]); (try with_reducible rfl))
   simp only [fR]
   rw [if_neg (by omega),au]
   dsimp only
   rw [if_pos ⟨by simp [a1],trivial,rfl,rfl,by omega⟩]
   rfl
  ·(have zz:=@hl2; repeat' (first | refine zW ?_ | apply a_n | apply a_r | refine zO ?_ | refine vZ ?_ | refine ae rfl ?_ | refine r1Z ?_ | fail)) <;> (try clear zz)
   refine ⟨by rw [hn],⟨_,am _ _ _ _,?_,?_⟩,rfl⟩
   ·have hz:(aY AV.esl (l.length - bt l (k + j))).length=l.length - bt l (k + j):=by simp [aY,show (AV.esl).cells.length=1 from rfl]
    simp [bg,hz]
    omega
   ·rw [← hn,← a6,List.map_take]
    simp only [bg]
    rw [List.append_assoc,List.take_append_of_le_length (by simp; omega),List.take_of_length_le (by simp; omega)]
theorem u9 (s:AV) (l:List (List Int)) (hl:l.length ≤ 1000000) (hls:∀ v ∈ l,Sh v) (H:Hp) (nx:Nat) (hn:fu s=some l.length) (hs:∀ H',(∀ x,x < nx→H' x=H x)→cP 1 H' s=some (l.length,l.map aN)):Abs.Fn Tryz.prog 57 [s] H nx fun r H' nx'=>Snap H' r (ax (lf l))∧(∀ x,x < nx→H' x=H x)∧nx ≤ nx':=by
 refine Abs.Fn.of_c2 follows BA (Nat.le_of_ble_eq_true rfl) ?_
 simp only [b57,cO,cG,cN,cM,cD,cF,cB,av,aF]
 (have zz:=and_self; repeat' (first | refine zW ?_ | apply a_n | refine zO ?_ | refine vY ?_ | fail)) <;> (try clear zz)
 refine aD ev0 ev0 (vA s l hl H nx hn hs) ?_
 rintro r H1 n1 ⟨h1,h2,h3,h4⟩
 by_cases h0:l=[]
 ·subst h0
  rw [if_pos rfl] at h4
  obtain ⟨r1,r2⟩:=h4
  (have zz:=and_self; repeat' (first | refine zW ?_ | apply a_n | refine zO ?_ | refine vY ?_ | fail)) <;> (try clear zz)
  refine aD ev0 ev0 (xq r1) ?_
  rintro _ _ _ ⟨rfl,rfl⟩
  (have zz:=and_self; repeat' (first | refine zW ?_ | apply a_n | refine zO ?_ | refine vY ?_ | fail)) <;> (try clear zz)
  have hcf:∀ H2 n2,Abs.Fn Tryz.prog 108 [r,.func 15 []] H2 n2 fun r' H' nx'=>r'=r∧H'=H2∧nx'=n2:=fun H2 n2=>by
   refine Abs.Fn.of_c2 follows vO (Nat.le_of_ble_eq_true rfl) ?_
   simp only [wY,cO,cG,cN,cM,cD,cF,cB,av,aF]
   (have zz:=@r1; repeat' (first | refine zW ?_ | apply a_n | apply a_r | refine zO ?_ | refine vZ ?_ | (refine zGZ ?_ ?_ <;> (intro _hg; try (exfalso; omega))) | refine ae rfl ?_ | refine r1Z ?_ | fail)) <;> (try clear zz)
   exact ⟨rfl,rfl,rfl⟩
  refine aD ev0 ev0 (hcf _ _) ?_
  rintro _ _ _ ⟨rfl,rfl,rfl⟩
  (have zz:=and_self; repeat' (first | apply a_n | refine zO ?_ | refine vY ?_ | refine ae rfl ?_ | refine r1Y ?_ | fail)) <;> (try clear zz)
  exact ⟨r2 _,h3,h2⟩
 rw [if_neg h0] at h4
 obtain ⟨rfl,rfl,rfl⟩:=h4
 have hpos:=List.length_pos_iff.2 h0
 (have zz:=and_self; repeat' (first | refine zW ?_ | apply a_n | refine zO ?_ | refine vY ?_ | fail)) <;> (try clear zz)
 refine aD ev0 ev0 (xM BZ au (Nat.lt_succ_self nx) rfl hpos hls (by omega)) ?_
 rintro _ H2 n2 ⟨M,hps,hpM,hsM⟩
 have hMl:M.length=l.length:=hpM.length_eq
 have hM:M=wc l:=j6 mj (fun x _ y _=>qc) (bC.of (by rw [hMl]; exact hsM)) hpM
 have hMs:∀ v ∈ M,Sh v:=fun v hv=>hls v (hpM.mem_iff.1 hv)
 have hM0:M ≠ []:=fun e=>by rw [e] at hMl; simp at hMl; omega
 have hcp:=r7 M (by omega) hMs hM0 H2 nx n2 hps.at_ (by have:=hps.le; omega)
 rw [hMl] at hcp
 (have zz:=and_self; repeat' (first | refine zW ?_ | apply a_n | refine zO ?_ | refine vY ?_ | fail)) <;> (try clear zz)
 refine aD ev0 ev0 hcp ?_
 rintro _ _ _ ⟨rfl,⟨C,rfl,c1,c2⟩,rfl⟩
 (have zz:=and_self; repeat' (first | apply a_n | refine zO ?_ | refine vY ?_ | refine ae rfl ?_ | refine r1Y ?_ | fail)) <;> (try clear zz)
 refine ⟨?_,fun x hx=>by rw [ac (by omega),hps.fr x (by omega) (by omega),ac (by omega)],by have:=hps.le; omega⟩
 have hdd:ddG M l.length=lf l:=by
  have:=xA l
  rw [← hM,hMl] at this
  exact this
 have hhl:=wS M l.length
 have hle:=tR M l.length
 rw [hdd] at c2 hhl
 refine wi (cs:=C) au c1 (by omega) (by simp [hhl]) (fun y hy=>?_) (fun i x y hx hy=>?_)
 ·obtain ⟨v,_,rfl⟩:=List.mem_map.1 hy; rfl
 ·rw [Nat.zero_add] at hx
  have hil:i < bt M l.length:=by
   have:=(List.getElem?_eq_some_iff.1 hy).1
   rw [List.length_map] at this
   omega
  have e1:(C.take (bt M l.length))[i]?=some x:=by rw [List.getElem?_take,if_pos hil]; exact hx
  rw [c2,hy] at e1
  cases e1
  obtain ⟨v,_,rfl⟩:=List.mem_map.1 (List.mem_of_getElem? hy)
  exact a9 _ _
end Go.Proofs.YtjgpfclngkcedaaGreat
namespace Go.Proofs.YtjgpfclngkcedaaGreat
open Go Go.Abs
open Nat (reduceEqDiff reduceAdd reduceLeDiff)
def bw (x y:List (List Int)):List (List Int):=lf (x ++ y)
def lX (x y:List (List Int)):Nat→Nat
 | 0=>0
 | 1=>x.length
 | _=>x.length + y.length
def Af (x y:List (List Int)):Nat→List AV
 | 0=>aY (.agg [.esl]) (x.length + y.length)
 | 1=>bg (aY (.agg [.esl]) (x.length + y.length)) 0 (x.map aN)
 | _=>(x ++ y).map aN
theorem pE (n:Nat):(aY (.agg [.esl]) n).length=n:=by simp [aY,AV.cells]
theorem xa (x y:List (List Int)):bg (bg (aY (.agg [.esl]) (x.length + y.length)) 0 (x.map aN)) x.length (y.map aN)=(x ++ y).map aN:=by
 have h:=pE (x.length + y.length)
 generalize aY (.agg [.esl]) (x.length + y.length)=Z at *
 simp only [bg,List.length_map,Nat.zero_add,List.take_zero,List.nil_append]
 rw [List.take_append_of_le_length (by simp),List.take_of_length_le (by simp),List.drop_eq_nil_of_le (by simp; omega),List.append_nil,List.map_append]
attribute [local irreducible] aA ag aU aO aE aH ay aJ aQ aZ Go.Abs.Fn aL Go.Abs.Pure ak aB Yl
theorem wj (x y:List (List Int)) (hx:x ≠ []) (hy:y ≠ []) (hxl:x.length ≤ 100000) (hyl:y.length ≤ 100000) (b:Nat) (H:Hp) (nx:Nat) (hb:H b=some [ax x,ax y]) (hbn:b < nx) :
    Abs.Fn Tryz.prog 58 [.msl b 2 1 0 2] H nx fun r H' nx'=>r=.msl nx (x.length + y.length) 1 0 (x.length + y.length)∧H'=an H nx ((x ++ y).map aN)∧nx'=nx + 1:=by
 refine Abs.Fn.of_c2 follows A9 (Nat.le_of_ble_eq_true rfl) ?_
 simp only [b58,cO,cG,cN,cM,cD,cF,cB,av,aF]
 have px:=List.length_pos_iff.2 hx
 have py:=List.length_pos_iff.2 hy
 refine da ?_
 (have zz:=and_self; repeat' (first | apply a_n | refine zO ?_ | refine vY ?_ | fail)) <;> (try clear zz)
 refine da ?_
 (have zz:=and_self; repeat' (first | apply a_n | refine zO ?_ | refine vY ?_ | fail)) <;> (try clear zz)
 refine aS (fun T H' nx'=>T 0=.msl b 2 1 0 2∧T 3=.int .i64 (x.length + y.length:Nat)∧H=H'∧nx=nx') ?_ ?_
 ·(have zz:=and_self; repeat' (first | refine zW ?_ | apply a_n | refine zO ?_ | refine vY ?_ | fail)) <;> (try clear zz)
  refine ie (X:=Nat) (fun k=>[(0,.msl b 2 1 0 2),(3,.int .i64 (lX x y k:Nat)),(9,.msl b 2 1 0 2),(10,.int .i64 2),(11,.int .i64 (k:Nat))]) (fun k=>k ≤ 2) (fun k=>2 - k) 0 (by omega) (by simp (disch:=omega) only [agr,ZG,reduceEqDiff,↓reduceIte,lX] <;> simp) ?_
  intro k hk
  obtain rfl | rfl | rfl:k=0 ∨ k=1 ∨ k=2:=by omega
  ·have z:decide ((x.length:Int) < 0)=false:=decide_eq_false (by omega)
   have ix:fj 1 (.msl b 2 1 0 2) (.int .i64 0)=some (.ptr b 2 0):=rfl
   have c0:((lX x y 0:Nat):Int)=0:=rfl
   (have zz:=aI @z (aI @hb (aI @ix (aI @c0 (aI (show ((0:Nat):Int)=0 from rfl) @Int.zero_add)))); repeat' (first | refine zW ?_ | apply a_n | refine zO ?_ | refine vY ?_ | refine cFY ?_ | (refine zGY ?_ ?_ <;> (intro _hg; try (exfalso; omega))) | fail)) <;> (try clear zz)
   exact ⟨1,by omega,by omega,by simp (disch:=omega) only [agr,ZG,reduceEqDiff,↓reduceIte,lX,Int.zero_add],rfl,rfl⟩
  ·have z:decide (((x.length:Int) + y.length) < 0)=false:=decide_eq_false (by omega)
   have ix:fj 1 (.msl b 2 1 0 2) (.int .i64 1)=some (.ptr b 2 1):=rfl
   have c1:((lX x y 1:Nat):Int)=x.length:=rfl
   (have zz:=aI @z (aI @hb (aI @ix (aI @c1 ((show ((1:Nat):Int)=1 from rfl))))); repeat' (first | refine zW ?_ | apply a_n | refine zO ?_ | refine vY ?_ | refine cFY ?_ | (refine zGY ?_ ?_ <;> (intro _hg; try (exfalso; omega))) | fail)) <;> (try clear zz)
   exact ⟨2,by omega,by omega,by simp (disch:=omega) only [agr,ZG,reduceEqDiff,↓reduceIte,lX] <;> simp,rfl,rfl⟩
  ·(have zz:=(show ((2:Nat):Int)=2 from rfl); repeat' (first | refine zW ?_ | apply a_n | apply a_x | refine zO ?_ | refine vY ?_ | (refine zGY ?_ ?_ <;> (intro _hg; try (exfalso; omega))) | fail)) <;> (try clear zz)
   exact ⟨rfl,rfl,rfl,rfl⟩
 rintro T _ _ ⟨t0,t3,rfl,rfl⟩
 (have zz:=@t3; repeat' (first | refine zW ?_ | apply a_n | refine zO ?_ | refine vY ?_ | fail)) <;> (try clear zz)
 refine aD ev0 (have zz:=@t3; evY) (zG (x.length + y.length) (by omega) (by omega) H nx) ?_
 rintro _ _ _ ⟨rfl,rfl,rfl⟩
 (have zz:=@t0; repeat' (first | refine zW ?_ | apply a_n | refine zO ?_ | refine vY ?_ | fail)) <;> (try clear zz)
 refine be (X:=Nat) (fun k=>[(6,.msl nx (x.length + y.length) 1 0 (lX x y k)),(25,.msl b 2 1 0 2),(26,.int .i64 2),(27,.int .i64 (k:Nat))]) (fun k H' nx'=>k ≤ 2∧H'=an H nx (Af x y k)∧nx'=nx + 1) (fun k=>2 - k) 0 ⟨by omega,rfl,rfl⟩ (by simp (disch:=omega) only [agr,ZG,reduceEqDiff,↓reduceIte,lX] <;> simp) ?_
 rintro k _ _ ⟨hk,rfl,rfl⟩
 obtain rfl | rfl | rfl:k=0 ∨ k=1 ∨ k=2:=by omega
 ·have ix:fj 1 (.msl b 2 1 0 2) (.int .i64 0)=some (.ptr b 2 0):=rfl
  (have zz:=aI @hb (aI @ix ((show ((0:Nat):Int)=0 from rfl))); repeat' (first | refine zW ?_ | apply a_n | refine zO ?_ | refine vY ?_ | (refine zGY ?_ ?_ <;> (intro _hg; try (exfalso; omega))) | fail)) <;> (try clear zz)
  refine vR (b:=nx) (m:=x.length + y.length) (off:=0) (len:=0) (n:=x.length) (cs:=Af x y 0) rfl ((by ((try simp (disch:=omega) only [bN,ZA,reduceEqDiff,↓reduceIte,reduceAdd,reduceLeDiff,lX]); (try with_reducible rfl)))) au ev0 jH gg (pE _) (fun _=>by omega) (by omega) (by omega) ?_
  (have zz:=(show ((0:Nat):Int)=0 from rfl); repeat' (first | apply a_n | refine zO ?_ | refine vY ?_ | fail)) <;> (try clear zz)
  refine ⟨1,by omega,⟨by omega,?_,rfl⟩,by simp (disch:=omega) only [agr,ZG,reduceEqDiff,↓reduceIte,lX,Int.zero_add,Nat.zero_add]⟩
  rw [am]; rfl
 ·have ix:fj 1 (.msl b 2 1 0 2) (.int .i64 1)=some (.ptr b 2 1):=rfl
  (have zz:=aI @hb (aI @ix ((show ((1:Nat):Int)=1 from rfl))); repeat' (first | refine zW ?_ | apply a_n | refine zO ?_ | refine vY ?_ | (refine zGY ?_ ?_ <;> (intro _hg; try (exfalso; omega))) | fail)) <;> (try clear zz)
  refine vR (b:=nx) (m:=x.length + y.length) (off:=0) (len:=x.length) (n:=y.length) (cs:=Af x y 1) rfl ((by ((try simp (disch:=omega) only [bN,ZA,reduceEqDiff,↓reduceIte,reduceAdd,reduceLeDiff,lX]); (try with_reducible rfl)))) au ev0 jH gg (by show (bg _ 0 _).length=_; rw [fL (by simp [pE])]; exact pE _) (fun _=>by omega) (by omega) (by omega) ?_
  (have zz:=(show ((1:Nat):Int)=1 from rfl); repeat' (first | apply a_n | refine zO ?_ | refine vY ?_ | fail)) <;> (try clear zz)
  refine ⟨2,by omega,⟨by omega,?_,rfl⟩,by simp (disch:=omega) only [agr,ZG,reduceEqDiff,↓reduceIte,lX] <;> simp⟩
  rw [am,Nat.zero_add,Nat.mul_one]
  show an H nx (bg (bg _ 0 _) x.length _)=_
  rw [xa]; rfl
 ·(have zz:=(show ((2:Nat):Int)=2 from rfl); repeat' (first | refine zW ?_ | apply a_n | apply a_x | refine zO ?_ | refine vY ?_ | (refine zGY ?_ ?_ <;> (intro _hg; try (exfalso; omega))) | refine ae rfl ?_ | refine r1Y ?_ | fail)) <;> (try clear zz)
  exact ⟨rfl,rfl,rfl⟩
theorem sR (x y:List (List Int)) (hx:x ≠ []) (hy:y ≠ []) (hxl:x.length ≤ 100000) (hyl:y.length ≤ 100000) (hxs:∀ v ∈ x,Sh v) (hys:∀ v ∈ y,Sh v):Pure Tryz.prog 56 [ax x,ax y] (ax (bw x y)):=by
 refine Pure.of_c2 follows AY (Nat.le_of_ble_eq_true rfl) ?_
 simp only [b56,cO,cG,cN,cM,cD,cF,cB,av,aF]
 (have zz:=and_self; repeat' (first | refine zW ?_ | apply a_n | refine zO ?_ | refine vZ ?_ | refine blZ ?_ | fail)) <;> (try clear zz)
 refine aD ev0 ev0 (wj x y hx hy hxl hyl 0 _ _ au (by omega)) ?_
 rintro _ _ _ ⟨rfl,rfl,rfl⟩
 skip
 refine aD ev0 ev0 (u9 (.msl 1 (x.length + y.length) 1 0 (x.length + y.length)) (x ++ y) (by simp; omega) (fun v hv=>(List.mem_append.1 hv).elim (hxs v) (hys v)) _ _ (by simp [fu]) (fun H' hH'=>by
  rw [kp (cs:=(x ++ y).map aN) ((hH' 1 (by omega)).trans au) (by simp) (by omega),List.drop_zero,List.take_of_length_le (by simp),List.length_append])) ?_
 rintro r H1 n1 ⟨h1,h2,h3⟩
 (have zz:=and_self; repeat' (first | apply a_n | refine zO ?_ | refine vZ ?_ | refine ae rfl ?_ | refine r1Z ?_ | fail)) <;> (try clear zz)
 exact h1
theorem xB (c d:CaseV) (hc:ShC c) (hd:ShC d):Pure Tryz.prog 63 [cr c,cr d] (.int .i64 (KC c d)):=by
 refine Pure.of_c2 follows AJ (Nat.le_of_ble_eq_true rfl) ?_
 simp only [b63,cO,cG,cN,cM,cD,cF,cB,av,aF]
 have hcm:=iM c.inp d.inp hc.1 hd.1
 unfold cr KC
 (have zz:=and_self; repeat' (first | refine zW ?_ | apply a_n | refine zO ?_ | refine vZ ?_ | refine cZ ?_ (hp:=hcm) | refine bxZ ?_ | refine ae rfl ?_ | refine r1Z ?_ | fail)) <;> (try clear zz)
 exact bq rfl
theorem BS:Cmp3 Tryz.prog cr KC ShC 63 [] where
 len _:=rfl
 agg _:=rfl
 ones _:=rfl
 dat v:=de v
 dcaps:=by simp
 run x y hx hy:=xB x y hx hy
 ord:=Aj
end Go.Proofs.YtjgpfclngkcedaaGreat
namespace Go.Proofs.YtjgpfclngkcedaaGreat
open Go Go.Abs
open Nat (reduceEqDiff reduceAdd reduceLeDiff)
theorem nS {F:List (List Int)→List (List Int)→List (List Int)} {b:TaskV} {c:CaseV} (h:b0 b c.inp=none):jo F b c=none∧ed F b c=true∧eG F b c=false:=by
 unfold jo ed eG; rw [h]; exact ⟨rfl,rfl,rfl⟩
theorem gP {F:List (List Int)→List (List Int)→List (List Int)} {b:TaskV} {c d:CaseV} (h:b0 b c.inp=some d):jo F b c=some (bV c.inp (F c.out d.out) (F (ar c 0) (ar d 0)))∧ed F b c=(decide (0 < (F c.out d.out).length) && decide (0 < (F (ar c 0) (ar d 0)).length))∧eG F b c=(decide (1024 < (F c.out d.out).length) || decide (1024 < (F (ar c 0) (ar d 0)).length)):=by
 unfold jo ed eG; rw [h]; exact ⟨rfl,rfl,rfl⟩
attribute [local irreducible] aA ag aU aO aE aH ay aJ aQ aZ Go.Abs.Fn aL Go.Abs.Pure ak aB Yl
set_option maxHeartbeats 2000000 in
theorem n5 (a b:TaskV) (F:List (List Int)→List (List Int)→List (List Int)) (g:Nat) (caps:List AV) (hd:∀ x ∈ caps,Dat x) (ha:∀ c ∈ a.cases,ShC c) (ha2:a.cases.length ≤ 100000) (hb:∀ c ∈ b.cases,ShC c) (hb2:Sh b.cases)
    (hF:∀ c ∈ a.cases,∀ d ∈ b.cases,Pure Tryz.prog g (ax c.out :: ax d.out :: caps) (ax (F c.out d.out))∧Pure Tryz.prog g (ax (ar c 0) :: ax (ar d 0) :: caps) (ax (F (ar c 0) (ar d 0)))∧((F c.out d.out).length ≤ 100000∧∀ v ∈ F c.out d.out,Sh v)∧(F (ar c 0) (ar d 0)).length ≤ 100000∧∀ v ∈ F (ar c 0) (ar d 0),Sh v) (H:Hp) (nx:Nat) :
    Abs.Fn Tryz.prog 47 [bo a,bo b,.func g caps] H nx fun r H' nx'=>∃ sv,r=.tup [sv,.bool (a.cases.all (ed F b)),.bool (a.cases.any (eG F b))]∧Row H' 3 sv ((bx F b a.cases).c3 cr)∧(∀ x,gN sv=some x→nx ≤ x∧x < nx')∧(∀ x,x < nx→H' x=H x)∧nx ≤ nx':=by
 refine Abs.Fn.of_c2 follows AL (Nat.le_of_ble_eq_true rfl) ?_
 simp only [b47,cO,cG,cN,cM,cD,cF,cB,av,aF]
 have d2:=bJ b
 have hfind:=fun v hv=>p6 b v hb hb2 hv
 unfold bo at *
 (have zz:=aI @aj (aI @ab @aw); repeat' (first | refine zW ?_ | apply a_n | refine zO ?_ | refine vY ?_ | refine bxY ?_ | fail)) <;> (try clear zz)
 refine be (X:=AV × Nat) (fun x=>[(2,.func g caps),(3,.ptr nx 4 0),(4,.ptr (nx + 1) 4 0),(9,x.1),(10,.bool ((a.cases.take x.2).all (ed F b))),(11,.bool ((a.cases.take x.2).any (eG F b))),(19,aR a.cases),(20,.int .i64 a.cases.length),(21,.int .i64 x.2)]) (fun x H' nx'=>x.2 ≤ a.cases.length∧nx + 2 ≤ nx'∧(∀ x,x < nx→H' x=H x)∧H' (nx + 1)=some [.int .i64 b.n,.int .i64 b.ins,.int .i64 b.outs,aR b.cases]∧Row H' 3 x.1 ((bx F b (a.cases.take x.2)).c3 cr)∧∀ y,gN x.1=some y→nx + 2 ≤ y∧y < nx') (fun x=>a.cases.length - x.2) (.esl,0) ⟨Nat.zero_le _,Nat.le_refl _,fun x hx=>by rw [ac (by omega),ac (by omega)],au,Row.nil,fun b hb=>(by cases hb)⟩ (by simp (disch:=omega) only [agr,ZG,reduceEqDiff,↓reduceIte,List.length_cons,List.length_nil,reduceAdd,Nat.zero_add,List.take_zero,List.all_nil,List.any_nil]) ?_
 rintro ⟨sv,k⟩ H1 nx1 ⟨hk,hnx,hsame,g1,hrow,hbd⟩
 dsimp only at hk hrow hbd ⊢
 by_cases hk2:k < a.cases.length
 rotate_left
 ·rw [List.take_of_length_le (by omega)] at hrow ⊢
  (have zz:=and_self; repeat' (first | refine zW ?_ | apply a_n | apply a_x | refine zO ?_ | refine vZ ?_ | (refine zGZ ?_ ?_ <;> (intro _hg; try (exfalso; omega))) | refine ae rfl ?_ | refine r3Z ?_ | fail)) <;> (try clear zz)
  exact ⟨sv,rfl,hrow,fun x hx=>by have:=hbd x hx; omega,hsame,by omega⟩
 have ix:=bd hk2
 have hm:=ai hk2
 have hall:=od (p:=ed F b) hk2
 have hany:=oa (p:=eG F b) hk2
 have hcomb:=nP (F:=F) (b:=b) hk2
 have hFc:=hF _ hm
 have hsc:=ha _ hm
 have hfi:=hfind _ hsc.1
 have hln:(bx F b (a.cases.take k)).length ≤ a.cases.length:=Nat.le_trans fc (by rw [List.length_take]; omega)
 have hlen3:((bx F b (a.cases.take k)).c3 cr).length=(bx F b (a.cases.take k)).length * 3:=bc (fun _=>rfl) _
 generalize a.cases.getD k default=c at *
 obtain ⟨q1,q2⟩:=hrow.one
 cases hf:b0 b c.inp with
 | none =>
  obtain ⟨n1,n2,n3⟩:=nS (F:=F) hf
  rw [n1] at hcomb
  rw [n2,Bool.and_true] at hall
  rw [n3,Bool.or_false] at hany
  rw [hf] at hfi
  have hfi':Pure Tryz.prog 41 [.agg [.int .i64 b.n,.int .i64 b.ins,.int .i64 b.outs,aR b.cases],aN c.inp] (.tup [.agg [aN [],ax [],ax []],.bool false]):=hfi
  (have zz:=aI @g1 (aI @aj (aI @ab @ix)); repeat' (first | refine zW ?_ | apply a_n | apply a_x | refine zO ?_ | refine vY ?_ | refine cY ?_ (hp:=hfi') | refine alY ?_ | refine stY ?_ | refine cTY ?_ | (refine zGY ?_ ?_ <;> (intro _hg; try (exfalso; omega))) | fail)) <;> (try clear zz)
  refine ⟨(sv,k + 1),by dsimp only; omega,⟨by dsimp only; omega,by omega,fun x hx=>?_,?_,?_,fun y hy=>?_⟩,(have zz:=aI @hall @hany; agZ)⟩
  ·rw [ac (by omega),ac (by omega),ac (by omega),ac (by omega),hsame x hx]
  ·rw [ac (by omega),ac (by omega),ac (by omega),ac (by omega),g1]
  ·dsimp only
   rw [hcomb]
   simp only [Option.toList,List.append_nil]
   exact hrow.same fun y hy=>by have:=hbd y hy; rw [ac (by omega),ac (by omega),ac (by omega),ac (by omega)]
  ·have:=hbd y hy; omega
 | some d =>
  obtain ⟨n1,n2,n3⟩:=gP (F:=F) hf
  obtain ⟨dm,di⟩:=bW hf
  obtain ⟨f1,f2,⟨f3,f4⟩,f5,f6⟩:=hFc d dm
  rw [hf] at hfi
  have hfi':Pure Tryz.prog 41 [.agg [.int .i64 b.n,.int .i64 b.ins,.int .i64 b.outs,aR b.cases],aN c.inp] (.tup [.agg [aN d.inp,ax d.out,ax d.calm],.bool true]):=hfi
  have hc1:=pU c
  have hc2:=pU d
  have dc:=de c
  have dd:=de d
  unfold cr at dc dd
  have hmd:=u5 c.inp (F c.out d.out) (F (ar c 0) (ar d 0)) hsc.1 f3 f5 f4 f6
  have hmi:(bV c.inp (F c.out d.out) (F (ar c 0) (ar d 0))).inp=c.inp∧(bV c.inp (F c.out d.out) (F (ar c 0) (ar d 0))).out=F c.out d.out:=⟨rfl,rfl⟩
  rw [n1] at hcomb
  rw [n2] at hall
  rw [n3] at hany
  have hX:(F c.out d.out).length ≤ 17592186044416:=by omega
  have hY:(F (ar c 0) (ar d 0)).length ≤ 17592186044416:=by omega
  generalize bV c.inp (F c.out d.out) (F (ar c 0) (ar d 0))=M at *
  generalize F c.out d.out=X at *
  generalize F (ar c 0) (ar d 0)=Y at *
  refine da ?_
  (have zz:=and_self; repeat' (first | apply a_n | refine zO ?_ | refine vY ?_ | fail)) <;> (try clear zz)
  refine da ?_
  (have zz:=and_self; repeat' (first | apply a_n | refine zO ?_ | (refine zGY ?_ ?_ <;> (intro _hg; try (exfalso; omega))) | fail)) <;> (try clear zz)
  refine da ?_
  refine cU ?_
  refine da ?_
  (have zz:=@ix; repeat' (first | apply a_n | refine zO ?_ | refine vY ?_ | refine alY ?_ | refine stY ?_ | fail)) <;> (try clear zz)
  refine da ?_
  (have zz:=aI @g1 (aI @aj (aI @ab @ix)); repeat' (first | apply a_n | refine zO ?_ | refine vY ?_ | refine cY ?_ (hp:=hfi') | refine alY ?_ | refine stY ?_ | fail)) <;> (try clear zz)
  refine da ?_
  refine da ?_
  (have zz:=and_self; repeat' (first | apply a_n | refine zO ?_ | refine vY ?_ | refine cFY ?_ | fail)) <;> (try clear zz)
  refine aS (fun T' H' nx'=>T' 2=.func g caps∧T' 3=.ptr nx 4 0∧T' 4=.ptr (nx + 1) 4 0∧T' 9=sv∧T' 10=.bool ((a.cases.take k).all (ed F b))∧T' 11=.bool ((a.cases.take k).any (eG F b))∧T' 13=.ptr nx1 3 0∧T' 16=ax X∧T' 17=ax Y∧T' 19=aR a.cases∧T' 20=.int .i64 a.cases.length∧T' 21=.int .i64 k∧nx'=nx1 + 2∧H' nx1=some [aN c.inp,ax c.out,ax c.calm]∧∀ x,x < nx1→H' x=H1 x) ?_ ?_
  ·(have zz:=and_self; repeat' (first | refine zM ?_ | apply a_n | refine zO ?_ | refine vY ?_ | refine cY ?_ (hp:=by first | exact f1 | exact f2 | exact hc1 | exact hc2) (hs:=by (first | refine ah ?_ rfl | apply ap); (repeat' (first | exact af | apply aC | apply aq | exact dc | exact dd | exact ao hd)); first | done | fail) | fail)) <;> (try clear zz)
   exact ⟨rfl,rfl,rfl,rfl,rfl,rfl,rfl,rfl,rfl,rfl,rfl,rfl,rfl,by rw [ac (by omega),ac (by omega),au]; rfl,fun x hx=>by rw [ac (by omega),ac (by omega),ac (by omega),ac (by omega)]⟩
  rintro T H2 _ ⟨t2,t3,t4,t9,t10,t11,t13,t16,t17,t19,t20,t21,rfl,g13,gs⟩
  refine aS (fun T' H' nx'=>T' 2=.func g caps∧T' 3=.ptr nx 4 0∧T' 4=.ptr (nx + 1) 4 0∧T' 9=sv∧T' 10=.bool ((a.cases.take (k + 1)).all (ed F b))∧T' 11=.bool ((a.cases.take k).any (eG F b))∧T' 13=.ptr nx1 3 0∧T' 16=ax X∧T' 17=ax Y∧T' 19=aR a.cases∧T' 20=.int .i64 a.cases.length∧T' 21=.int .i64 k∧nx'=nx1 + 2∧H2=H') ?_ ?_
  ·rw [hall]
   generalize (a.cases.take k).all (ed F b)=A at *
   cases A <;> (
    (have zz:=aI @t10 (aI @t16 @t17); repeat' (first | apply a_n | refine zO ?_ | refine vZ ?_ | refine gTZ ?_ | refine gFZ ?_ | (refine zGZ ?_ ?_ <;> (intro _hg; try (exfalso; omega))) | fail)) <;> (try clear zz)
    all_goals exact ⟨(have zz:=@t2; evZ),(have zz:=@t3; evZ),(have zz:=@t4; evZ),(have zz:=@t9; evZ),by ((try simp only [bn,ZA,reduceEqDiff,↓reduceIte,reduceAdd,reduceLeDiff]); (try with_reducible rfl)); refine congrArg AV.bool ?_; rw [Bool.eq_iff_iff]; simp only [Bool.or_eq_true,Bool.and_eq_true,decide_eq_true_eq,Bool.false_eq_true,false_or,true_or,false_and,true_and,true_iff,false_iff]; first | done | omega,(have zz:=@t11; evZ),(have zz:=@t13; evZ),(have zz:=@t16; evZ),(have zz:=@t17; evZ),(have zz:=@t19; evZ),(have zz:=@t20; evZ),(have zz:=@t21; evZ),rfl,rfl⟩)
  clear t2 t3 t4 t9 t10 t11 t13 t16 t17 t19 t20 t21
  rintro T _ _ ⟨t2,t3,t4,t9,t10,t11,t13,t16,t17,t19,t20,t21,rfl,rfl⟩
  refine aS (fun T' H' nx'=>T' 2=.func g caps∧T' 3=.ptr nx 4 0∧T' 4=.ptr (nx + 1) 4 0∧T' 9=sv∧T' 10=.bool ((a.cases.take (k + 1)).all (ed F b))∧T' 11=.bool ((a.cases.take (k + 1)).any (eG F b))∧T' 13=.ptr nx1 3 0∧T' 16=ax X∧T' 17=ax Y∧T' 19=aR a.cases∧T' 20=.int .i64 a.cases.length∧T' 21=.int .i64 k∧nx'=nx1 + 2∧H2=H') ?_ ?_
  ·rw [hany]
   generalize (a.cases.take k).any (eG F b)=A at *
   cases A <;> (
    (have zz:=aI @t11 (aI @t16 @t17); repeat' (first | apply a_n | refine zO ?_ | refine vZ ?_ | refine gTZ ?_ | refine gFZ ?_ | (refine zGZ ?_ ?_ <;> (intro _hg; try (exfalso; omega))) | fail)) <;> (try clear zz)
    all_goals exact ⟨(have zz:=@t2; evZ),(have zz:=@t3; evZ),(have zz:=@t4; evZ),(have zz:=@t9; evZ),(have zz:=@t10; evZ),by ((try simp only [bn,ZA,reduceEqDiff,↓reduceIte,reduceAdd,reduceLeDiff]); (try with_reducible rfl)); refine congrArg AV.bool ?_; rw [Bool.eq_iff_iff]; simp only [Bool.or_eq_true,Bool.and_eq_true,decide_eq_true_eq,Bool.false_eq_true,false_or,true_or,false_and,true_and,true_iff,false_iff]; first | done | omega,(have zz:=@t13; evZ),(have zz:=@t16; evZ),(have zz:=@t17; evZ),(have zz:=@t19; evZ),(have zz:=@t20; evZ),(have zz:=@t21; evZ),rfl,rfl⟩)
  clear t2 t3 t4 t9 t10 t11 t13 t16 t17 t19 t20 t21
  rintro T _ _ ⟨t2,t3,t4,t9,t10,t11,t13,t16,t17,t19,t20,t21,rfl,rfl⟩
  (have zz:=aI @t9 (aI @t13 (aI @t16 (aI @t17 @g13))); repeat' (first | apply a_n | refine zO ?_ | refine vY ?_ | refine cY ?_ (hp:=hmd) | refine blY ?_ | fail)) <;> (try clear zz)
  refine sJ rfl ev0 (hrow.same fun y hy=>?_) ev0 mV rfl rfl (by omega) (by rw [hlen3]; omega) (by rw [hlen3]; omega) ?_
  ·have:=hbd y hy
   rw [ac (by omega),gs y (by omega)]
  rintro s2 E e hrw hle1 hle2 hsm hb2
  (have zz:=@t21; repeat' (first | apply a_n | refine zO ?_ | refine vY ?_ | fail)) <;> (try clear zz)
  refine ⟨(s2,k + 1),by dsimp only; omega,⟨by dsimp only; omega,by omega,fun x hx=>?_,?_,?_,fun y hy=>?_⟩,(have zz:=aI @t2 (aI @t3 (aI @t4 (aI @t10 (aI @t11 (aI @t19 @t20))))); agZ)⟩
  ·rw [hsm x (by omega) (fun h=>by have:=hbd x h; omega),ac (by omega),gs x (by omega),hsame x hx]
  ·rw [hsm (nx + 1) (by omega) (fun h=>by have:=hbd _ h; omega),ac (by omega),gs _ (by omega),g1]
  ·dsimp only
   rw [hcomb,uV]
   obtain ⟨i,o,q⟩:=M
   obtain ⟨rfl,rfl⟩:=hmi
   simpa [List.c3,cr,AV.cells] using hrw
  ·rcases hb2 y hy with h | h
   ·have:=hbd y h; omega
   ·omega
end Go.Proofs.YtjgpfclngkcedaaGreat
namespace Go.Proofs.YtjgpfclngkcedaaGreat
open Go Go.Abs
theorem mn2 {a b:Int}:dF ir (.int .i64 a) [.int .i64 b]=some (.int .i64 (min a b)):=by
 simp only [dF,ir,if_true]
 rw [show (if b < a then b else a)=min a b by split <;> omega]
theorem mx2 {a b:Int}:dF iI (.int .i64 a) [.int .i64 b]=some (.int .i64 (max a b)):=by
 simp only [dF,iI,if_true]
 rw [show (if b > a then b else a)=max a b by split <;> omega]
def dC (a b:TaskV):TaskV × Int:=if bF a b ≠ 0 then (T00,bF a b) else if (bx ba b a.cases).length=0 ∨ a.cases.all (ed ba b)=false then (T00,16) else (⟨a.n,min a.ins b.ins,min a.outs b.outs,bx ba b a.cases⟩,0)
theorem fl {x y:List (List Int)}:(ba x y).length ≤ x.length:=List.length_filter_le _ _
theorem b8 {x y:List (List Int)} {v:List Int}:v ∈ ba x y ↔ v ∈ x∧v ∈ y:=by unfold ba; rw [List.mem_filter,decide_eq_true_iff]
theorem ef {c:CaseV} {f:Int} (h:ShC c):∀ v ∈ ar c f,Sh v:=by
 obtain ⟨s1,s2,s3,s4,s5⟩:=h
 unfold ar
 split
 ·exact s5
 ·exact s3
theorem gL {c:CaseV} {f:Int} {n:Nat} (h:c.out.length ≤ n∧c.calm.length ≤ n):(ar c f).length ≤ n:=by
 unfold ar
 split
 ·exact h.2
 ·exact h.1
theorem A5 {H:Hp} {n i o:Int} {sv:AV} {L:List CaseV} (h:Snap H sv (aR L)):Snap H (.agg [.int .i64 n,.int .i64 i,.int .i64 o,sv]) (bo ⟨n,i,o,L⟩) :=
 g9 (az (.int _ _) (az (.int _ _) (az (.int _ _) (az h af))))
theorem v9 {H:Hp} {n i o e:Int} {sv:AV} {L:List CaseV} (h:Snap H sv (aR L)):Snap H (.tup [.agg [.int .i64 n,.int .i64 i,.int .i64 o,sv],.int .i64 e]) (.tup [bo ⟨n,i,o,L⟩,.int .i64 e]) :=
 ik (az (A5 h) (az (.int _ _) af))
attribute [local irreducible] aA ag aU aO aE aH ay aJ aQ aZ Go.Abs.Fn aL Go.Abs.Pure ak aB Yl
theorem sE (a b:TaskV) (ha:∀ c ∈ a.cases,ShC c) (ha2:a.cases.length ≤ 100000) (hb:∀ c ∈ b.cases,ShC c) (hb2:Sh b.cases) (hqa:∀ c ∈ a.cases,c.out.length ≤ 100000∧c.calm.length ≤ 100000):Pure Tryz.prog 16 [bo a,bo b] (.tup [bo (dC a b).1,.int .i64 (dC a b).2]):=by
 refine Pure.of_c2 follows Bz (Nat.le_of_ble_eq_true rfl) ?_
 simp only [b16,cO,cG,cN,cM,cD,cF,cB,av,aF]
 have hp:=rQ a b ha (show a.cases.length ≤ _ by omega) hb hb2
 have d1:=bJ a
 have d2:=bJ b
 by_cases he:bF a b=0
 rotate_left
 ·have e:dC a b=(T00,bF a b):=by unfold dC; rw [if_pos he]
  rw [e]
  generalize bF a b=C at *
  unfold bo at hp d1 d2
  rw [show bo a=.agg [.int .i64 a.n,.int .i64 a.ins,.int .i64 a.outs,aR a.cases] from rfl,show bo b=.agg [.int .i64 b.n,.int .i64 b.ins,.int .i64 b.outs,aR b.cases] from rfl]
  (have zz:=aI @aj @ab; repeat' (first | refine zW ?_ | apply a_n | apply a_r | refine zO ?_ | refine vZ ?_ | refine cZ ?_ (hp:=hp) | refine alZ ?_ | refine bxZ ?_ | refine stZ ?_ | (refine zGZ ?_ ?_ <;> (intro _hg; try (exfalso; omega))) | refine ae rfl ?_ | refine r2Z ?_ | fail)) <;> (try clear zz)
  exact i2 _
 rw [he] at hp
 have e:dC a b=if (bx ba b a.cases).length=0 ∨ a.cases.all (ed ba b)=false then (T00,16) else (⟨a.n,min a.ins b.ins,min a.outs b.outs,bx ba b a.cases⟩,0):=by unfold dC; rw [if_neg (fun h=>h he)]
 rw [e]
 have hco:=fun H nx=>n5 a b ba 48 [] (by simp) ha ha2 hb hb2 (fun c hc d hd=>by
  have h1:=ha c hc
  have h2:=hb d hd
  have h3:=hqa c hc
  have h4:=gL (f:=0) h3
  refine ⟨s0 _ _ h3.1 h1.2.2.1 h2.2.1 h2.2.2.1,s0 _ _ h4 (ef h1) (nJ h2) (ef h2),⟨Nat.le_trans fl h3.1,fun v hv=>h1.2.2.1 v (b8.1 hv).1⟩,Nat.le_trans fl h4,fun v hv=>ef h1 v (b8.1 hv).1⟩) H nx
 have hcl:(bx ba b a.cases).length ≤ a.cases.length:=fc
 generalize a.cases.all (ed ba b)=A at *
 generalize a.cases.any (eG ba b)=B at *
 generalize bx ba b a.cases=L at *
 unfold bo at hp d1 d2 hco
 rw [show bo a=.agg [.int .i64 a.n,.int .i64 a.ins,.int .i64 a.outs,aR a.cases] from rfl,show bo b=.agg [.int .i64 b.n,.int .i64 b.ins,.int .i64 b.outs,aR b.cases] from rfl]
 (have zz:=aI @aj @ab; repeat' (first | refine zW ?_ | apply a_n | refine zO ?_ | refine vZ ?_ | refine cZ ?_ (hp:=hp) | refine alZ ?_ | refine bxZ ?_ | (refine zGZ ?_ ?_ <;> (intro _hg; try (exfalso; omega))) | fail)) <;> (try clear zz)
 refine aD (have zz:=aI @aj @ab; evZ) (have zz:=aI @aj @ab; evZ) (hco _ _) ?_
 rintro _ H1 n1 ⟨sv,rfl,hrow,hbd,hsm,hnx⟩
 have g0:H1 0=some [.int .i64 a.n,.int .i64 a.ins,.int .i64 a.outs,aR a.cases]:=hsm 0 (by omega)
 have g1:H1 1=some [.int .i64 b.n,.int .i64 b.ins,.int .i64 b.outs,aR b.cases]:=hsm 1 (by omega)
 have g2:H1 2=some [.int .i64 0,.int .i64 0,.int .i64 0,.esl]:=hsm 2 (by omega)
 have hlS:co sv=some (.int .i64 L.length):=hrow.lenS (by rw [bc (fun _=>rfl)]) (by omega)
 obtain ⟨q1,q2⟩:=hrow.one
 by_cases hL:L.length=0
 ·have z:decide ((L.length:Int)=0)=true:=decide_eq_true (by omega)
  rw [if_pos (.inl hL)]
  (have zz:=aI @g0 (aI @g1 (aI @g2 (aI @hlS @z))); repeat' (first | refine zW ?_ | apply a_n | apply a_r | refine zO ?_ | refine vY ?_ | refine stY ?_ | refine gFY ?_ | refine cTY ?_ | refine ae rfl ?_ | refine r2Y ?_ | fail)) <;> (try clear zz)
  all_goals exact i2 _
 have z:decide ((L.length:Int)=0)=false:=decide_eq_false (by omega)
 cases A
 ·rw [if_pos (.inr rfl)]
  (have zz:=aI @g0 (aI @g1 (aI @g2 (aI @hlS @z))); repeat' (first | refine zW ?_ | apply a_n | apply a_r | refine zO ?_ | refine vY ?_ | refine stY ?_ | refine gTY ?_ | refine cTY ?_ | refine ae rfl ?_ | refine r2Y ?_ | fail)) <;> (try clear zz)
  all_goals exact i2 _
 ·rw [if_neg (by rintro (h | h); exact hL h; exact absurd h (by decide))]
  (have zz:=aI @g0 (aI @g1 (aI @g2 (aI @hlS (aI @z (aI @mn2 (aI @q1 @q2)))))); repeat' (first | refine zW ?_ | apply a_n | refine zO ?_ | refine vY ?_ | refine stY ?_ | refine gTY ?_ | refine cFY ?_ | refine ae rfl ?_ | refine r2Y ?_ | fail)) <;> (try clear zz)
  all_goals exact v9 (uf (hrow.same fun x hx=>by have:=hbd x hx; rw [ac (by omega)]))
end Go.Proofs.YtjgpfclngkcedaaGreat
namespace Go.Proofs.YtjgpfclngkcedaaGreat
open Go Go.Abs
open Nat (reduceEqDiff reduceAdd reduceLeDiff)
def fq (o:TaskV) (c:CaseV):Option CaseV:=match b0 o c.inp with
 | none=>some (bV c.inp c.out (ar c 0))
 | some _=>none
def bG (o:TaskV) (l:List CaseV):List CaseV:=l.filterMap (fq o)
theorem gA {o:TaskV} {l:List CaseV}:(bG o l).length ≤ l.length:=List.length_filterMap_le _ _
theorem lR {o:TaskV} {l:List CaseV} {k:Nat} (h:k < l.length):bG o (l.take (k + 1))=bG o (l.take k) ++ (fq o (l.getD k default)).toList:=by
 rw [cW h]
 unfold bG
 rw [List.filterMap_append]
 congr 1
def ci (a b:TaskV):List CaseV:=bx bw b a.cases ++ bG b a.cases ++ bG a b.cases
def ja (a b:TaskV):TaskV × Int:=if bF a b ≠ 0 then (T00,bF a b) else if 1024 < (ci a b).length ∨ a.cases.any (eG bw b)=true then (T00,5) else (⟨a.n,max a.ins b.ins,max a.outs b.outs,gU KC (ci a b)⟩,0)
attribute [local irreducible] aA ag aU aO aE aH ay aJ aQ aZ Go.Abs.Fn aL Go.Abs.Pure ak aB Yl
set_option maxHeartbeats 2000000 in
theorem sK (t o:TaskV) (ht:∀ c ∈ t.cases,ShC c) (ht2:t.cases.length ≤ 100000) (ho:∀ c ∈ o.cases,ShC c) (ho2:Sh o.cases) (hq:∀ c ∈ t.cases,c.out.length ≤ 100000∧c.calm.length ≤ 100000) (H:Hp) (nx B:Nat) (sv:AV) (L:List CaseV) (hB:H B=some [sv]) (hBn:B < nx) (hL:L.length ≤ 1000000) (hrow:Row H 3 sv (L.c3 cr)) (hbd:∀ x,gN sv=some x→x < nx∧x ≠ B) :
    Abs.Fn Tryz.prog 59 [bo t,bo o,.ptr B 1 0] H nx fun r H' nx'=>∃ sv',H' B=some [sv']∧Row H' 3 sv' ((L ++ bG o t.cases).c3 cr)∧(∀ x,gN sv'=some x→(gN sv=some x ∨ nx ≤ x)∧x < nx'∧x ≠ B)∧(∀ x,x < nx→x ≠ B→gN sv ≠ some x→H' x=H x)∧nx ≤ nx':=by
 refine Abs.Fn.of_c2 follows AG (Nat.le_of_ble_eq_true rfl) ?_
 simp only [b59,cO,cG,cN,cM,cD,cF,cB,av,aF]
 have d2:=bJ o
 have hfind:=fun v hv=>p6 o v ho ho2 hv
 unfold bo at *
 (have zz:=aI @aj (aI @ab @aw); repeat' (first | refine zW ?_ | apply a_n | refine zO ?_ | refine vY ?_ | refine bxY ?_ | fail)) <;> (try clear zz)
 refine be (X:=AV × Nat) (fun x=>[(2,.ptr B 1 0),(3,.ptr nx 4 0),(4,.ptr (nx + 1) 4 0),(10,aR t.cases),(11,.int .i64 t.cases.length),(12,.int .i64 x.2)]) (fun x H' nx'=>x.2 ≤ t.cases.length∧nx + 2 ≤ nx'∧(∀ y,y < nx→y ≠ B→gN sv ≠ some y→H' y=H y)∧H' (nx + 1)=some [.int .i64 o.n,.int .i64 o.ins,.int .i64 o.outs,aR o.cases]∧H' B=some [x.1]∧Row H' 3 x.1 ((L ++ bG o (t.cases.take x.2)).c3 cr)∧∀ y,gN x.1=some y→(gN sv=some y∧y < nx ∨ nx + 2 ≤ y)∧y < nx'∧y ≠ B) (fun x=>t.cases.length - x.2) (sv,0) ⟨Nat.zero_le _,Nat.le_refl _,fun y hy _ _=>by rw [ac (by omega),ac (by omega)],au,by rw [ac (by omega),ac (by omega)]; exact hB,by
     rw [show bG o (t.cases.take 0)=[] from rfl,List.append_nil]
     exact hrow.same fun y hy=>by have:=hbd y hy; rw [ac (by omega),ac (by omega)],fun y hy=>by have:=hbd y hy; exact ⟨.inl ⟨hy,this.1⟩,by omega,this.2⟩⟩ (by simp (disch:=omega) only [agr,ZG,reduceEqDiff,↓reduceIte,List.length_cons,List.length_nil,reduceAdd,Nat.zero_add]) ?_
 clear hrow hbd hB
 rintro ⟨s1,k⟩ H1 nx1 ⟨hk,hnx,hsame,g1,gB,hrow,hbd⟩
 dsimp only at hk gB hrow hbd ⊢
 by_cases hk2:k < t.cases.length
 rotate_left
 ·rw [List.take_of_length_le (by omega)] at hrow
  (have zz:=and_self; repeat' (first | refine zW ?_ | apply a_n | apply a_x | refine zO ?_ | refine vY ?_ | (refine zGY ?_ ?_ <;> (intro _hg; try (exfalso; omega))) | refine ae rfl ?_ | fail)) <;> (try clear zz)
  exact ⟨s1,gB,hrow,fun x hx=>by have:=hbd x hx; exact ⟨this.1.imp (fun h=>h.1) (fun h=>by omega),this.2⟩,hsame,by omega⟩
 have ix:=bd hk2
 have hm:=ai hk2
 have hst:=lR (o:=o) hk2
 have hsc:=ht _ hm
 have hqc:=hq _ hm
 have hfi:=hfind _ hsc.1
 have hln:(L ++ bG o (t.cases.take k)).length ≤ L.length + t.cases.length:=by
  rw [List.length_append]
  have:=gA (o:=o) (l:=t.cases.take k)
  rw [List.length_take] at this
  omega
 have hlen3:((L ++ bG o (t.cases.take k)).c3 cr).length=(L ++ bG o (t.cases.take k)).length * 3:=bc (fun _=>rfl) _
 generalize t.cases.getD k default=c at *
 obtain ⟨q1,q2⟩:=hrow.one
 cases hf:b0 o c.inp with
 | some d =>
  have ha:fq o c=none:=by unfold fq; rw [hf]
  rw [ha] at hst
  rw [hf] at hfi
  have hfi':Pure Tryz.prog 41 [.agg [.int .i64 o.n,.int .i64 o.ins,.int .i64 o.outs,aR o.cases],aN c.inp] (.tup [.agg [aN d.inp,ax d.out,ax d.calm],.bool true]):=hfi
  (have zz:=aI @g1 (aI @aj (aI @ab @ix)); repeat' (first | refine zW ?_ | apply a_n | refine zO ?_ | refine vY ?_ | refine cY ?_ (hp:=hfi') | refine alY ?_ | refine stY ?_ | refine cFY ?_ | (refine zGY ?_ ?_ <;> (intro _hg; try (exfalso; omega))) | fail)) <;> (try clear zz)
  refine ⟨(s1,k + 1),by dsimp only; omega,⟨by dsimp only; omega,by omega,fun x hx h1 h2=>?_,?_,?_,?_,fun y hy=>?_⟩,ag0⟩
  ·rw [ac (by omega),ac (by omega),ac (by omega),ac (by omega),hsame x hx h1 h2]
  ·rw [ac (by omega),ac (by omega),ac (by omega),ac (by omega),g1]
  ·rw [ac (by omega),ac (by omega),ac (by omega),ac (by omega),gB]
  ·dsimp only
   rw [hst]
   simp only [Option.toList,List.append_nil]
   exact hrow.same fun y hy=>by have:=hbd y hy; rw [ac (by omega),ac (by omega),ac (by omega),ac (by omega)]
  ·have:=hbd y hy; exact ⟨this.1,by omega,this.2.2⟩
 | none =>
  have ha:fq o c=some (bV c.inp c.out (ar c 0)):=by unfold fq; rw [hf]
  rw [ha] at hst
  rw [hf] at hfi
  have hfi':Pure Tryz.prog 41 [.agg [.int .i64 o.n,.int .i64 o.ins,.int .i64 o.outs,aR o.cases],aN c.inp] (.tup [.agg [aN [],ax [],ax []],.bool false]):=hfi
  have hc1:=pU c
  have dc:=de c
  unfold cr at dc
  have hmd:=u5 c.inp c.out (ar c 0) hsc.1 hqc.1 (gL hqc) hsc.2.2.1 (ef hsc)
  have hmi:(bV c.inp c.out (ar c 0)).inp=c.inp∧(bV c.inp c.out (ar c 0)).out=c.out:=⟨rfl,rfl⟩
  generalize bV c.inp c.out (ar c 0)=M at *
  refine da ?_
  (have zz:=and_self; repeat' (first | apply a_n | refine zO ?_ | refine vY ?_ | fail)) <;> (try clear zz)
  refine da ?_
  (have zz:=and_self; repeat' (first | apply a_n | refine zO ?_ | (refine zGY ?_ ?_ <;> (intro _hg; try (exfalso; omega))) | fail)) <;> (try clear zz)
  refine da ?_
  refine cU ?_
  refine da ?_
  (have zz:=@ix; repeat' (first | apply a_n | refine zO ?_ | refine vY ?_ | refine alY ?_ | refine stY ?_ | fail)) <;> (try clear zz)
  refine da ?_
  (have zz:=aI @g1 (aI @aj (aI @ab @ix)); repeat' (first | apply a_n | refine zO ?_ | refine vY ?_ | refine cY ?_ (hp:=hfi') | refine alY ?_ | refine stY ?_ | fail)) <;> (try clear zz)
  refine da ?_
  (have zz:=and_self; repeat' (first | apply a_n | refine zO ?_ | refine vY ?_ | refine cTY ?_ | fail)) <;> (try clear zz)
  refine zi (mi B [s1] nx1 [aN c.inp,ax c.out,ax c.calm]) rfl (oJ (by rw [ac (by omega),ac (by omega),ac (by omega),ac (by omega)]; exact gB) (by rw [ac (by omega),ac (by omega),au]; rfl)) ?_
  have hS2:mi B [s1] nx1 [aN c.inp,ax c.out,ax c.calm] B=some [s1]:=if_pos rfl
  have hSn:mi B [s1] nx1 [aN c.inp,ax c.out,ax c.calm] nx1=some [aN c.inp,ax c.out,ax c.calm]:=by unfold mi; rw [if_neg (by omega),if_pos rfl]
  generalize hSS:mi B [s1] nx1 [aN c.inp,ax c.out,ax c.calm]=S at hS2 hSn ⊢
  have hSub:∀ H',H' B=some [s1]→H' nx1=some [aN c.inp,ax c.out,ax c.calm]→Sub S H':=fun H' a1 a2=>by rw [← hSS]; exact oJ a1 a2
  generalize hH2:an (an (an (an H1 nx1 _) nx1 _) (nx1 + 1) _) (nx1 + 1) _=H2
  have gs:∀ x,x < nx1→H2 x=H1 x:=fun x hx=>by rw [← hH2,ac (by omega),ac (by omega),ac (by omega),ac (by omega)]
  have gB2:H2 B=some [s1]:=(gs B (by omega)).trans gB
  have gn2:H2 nx1=some [aN c.inp,ax c.out,ax c.calm]:=by rw [← hH2,ac (by omega),ac (by omega),au]; rfl
  (have zz:=aI @hS2 @hSn; repeat' (first | apply a_n | refine zO ?_ | refine nvY ?_ | fail)) <;> (try clear zz)
  refine sj ?_
  refine cE (have zz:=and_self; evY) (have zz:=and_self; evY) hc1 (ap (az (dc _) af)) ?_
  refine wo ⟨hSub _ gB2 gn2,?_⟩
  refine sj ?_
  refine cE (have zz:=and_self; evY) (have zz:=and_self; evY) hmd (ap (by (repeat' (first | exact af | exact Dat.snap Dat.int | exact Dat.snap Dat.bool | exact Dat.snap Dat.str | exact Dat.snap Dat.esl | exact Dat.snap Dat.nilf | exact Dat.snap (a9 _) | exact Dat.snap (a7 _) | apply az | apply dY | apply d6 | (apply d7; (focus ((try simp only [bn,ZA,reduceEqDiff,↓reduceIte,reduceAdd,reduceLeDiff]); with_reducible rfl)); (focus rfl)))))) ?_
  refine wo ⟨hSub _ gB2 gn2,?_⟩
  refine sj ?_
  (have zz:=and_self; repeat' (first | apply a_n | refine zO ?_ | refine blY ?_ | fail)) <;> (try clear zz)
  refine ⟨hSub _ (by rw [ac (by omega)]; exact gB2) (by rw [ac (by omega)]; exact gn2),?_⟩
  (have zz:=aI @hS2 @hSn; repeat' (first | apply a_n | refine zO ?_ | apply vH | fail)) <;> (try clear zz)
  refine sJ rfl ev0 (hrow.same fun y hy=>?_) ev0 mV rfl rfl (by omega) (by rw [hlen3]; omega) (by rw [hlen3]; omega) ?_
  ·have:=hbd y hy
   rw [ac (by omega),gs y (by omega)]
  rintro s2 E e hrw hle1 hle2 hsm hb2
  have gB3:E B=some [s1]:=(hsm B (by omega) (fun h=>(hbd _ h).2.2 rfl)).trans (by rw [ac (by omega)]; exact gB2)
  obtain ⟨p1,p2⟩:=hrw.one
  have ub:∀ y,gN s2=some y→(gN sv=some y∧y < nx ∨ nx + 2 ≤ y)∧y < e∧y ≠ B:=fun y hy=>by
   rcases hb2 y hy with h | h
   ·have:=hbd y h; exact ⟨this.1,by omega,this.2.2⟩
   ·exact ⟨.inr (by omega),by omega,by omega⟩
  (have zz:=aI @hS2 (aI @hSn (aI @gB3 (aI @p1 @p2))); repeat' (first | apply a_n | refine zO ?_ | refine vY ?_ | apply vH | refine stY ?_ | fail)) <;> (try clear zz)
  refine ⟨(s2,k + 1),by dsimp only; omega,⟨by dsimp only; omega,by omega,fun x hx h1 h2=>?_,?_,?_,?_,ub⟩,ag0⟩
  ·rw [ac h1,hsm x (by omega) (fun h=>by rcases (hbd x h).1 with h' | h'; exact h2 h'.1; omega),ac (by omega),gs x (by omega),hsame x hx h1 h2]
  ·rw [ac (by omega),hsm (nx + 1) (by omega) (fun h=>by rcases (hbd _ h).1 with h' | h' <;> omega),ac (by omega),gs _ (by omega),g1]
  ·rw [au]; rfl
  ·dsimp only
   rw [hst,← List.append_assoc,uV]
   obtain ⟨i,o,cq⟩:=M
   obtain ⟨rfl,rfl⟩:=hmi
   refine Row.same (H:=E) (by simpa [List.c3,cr,AV.cells] using hrw) fun y hy=>?_
   exact ac (ub y hy).2.2
end Go.Proofs.YtjgpfclngkcedaaGreat
namespace Go.Proofs.YtjgpfclngkcedaaGreat
open Go Go.Abs
theorem ez {t:TaskV} (h:aM t=0) {c:CaseV} (hc:c ∈ t.cases):b0 t c.inp=some c:=by
 cases hf:b0 t c.inp with
 | none=>exact absurd rfl (gJ hf c hc)
 | some d =>
  obtain ⟨h1,h2⟩:=bW hf
  rw [fo h h1 hc h2]
theorem ew {F:List (List Int)→List (List Int)→List (List Int)} {b:TaskV} {l:List CaseV} {x:CaseV} (h:x ∈ bx F b l):∃ c ∈ l,∃ d,b0 b c.inp=some d∧x=bV c.inp (F c.out d.out) (F (ar c 0) (ar d 0)):=by
 obtain ⟨c,hc,e⟩:=List.mem_filterMap.1 h
 unfold jo at e
 rw [Option.map_eq_some_iff] at e
 obtain ⟨d,hd,rfl⟩:=e
 exact ⟨c,hc,d,hd,rfl⟩
theorem dj {o:TaskV} {l:List CaseV} {x:CaseV} (h:x ∈ bG o l):∃ c ∈ l,b0 o c.inp=none∧x=bV c.inp c.out (ar c 0):=by
 obtain ⟨c,hc,e⟩:=List.mem_filterMap.1 h
 unfold fq at e
 split at e
 ·cases e; exact ⟨c,hc,‹_›,rfl⟩
 ·cases e
theorem uh {a b:TaskV} (ha:aM a=0) (hb:aM b=0) {x y:CaseV} (hx:x ∈ ci a b) (hy:y ∈ ci a b) (h:x.inp=y.inp):x=y:=by
 unfold ci at hx hy
 rw [List.mem_append,List.mem_append] at hx hy
 have key:∀ {x y},(x ∈ bx bw b a.cases)→(y ∈ bx bw b a.cases)→x.inp=y.inp→x=y:=by
  intro x y hx hy h
  obtain ⟨c,hc,d,hd,rfl⟩:=ew hx
  obtain ⟨c',hc',d',hd',rfl⟩:=ew hy
  have h:c.inp=c'.inp:=h
  have e:=fo ha hc hc' h
  subst e
  rw [hd] at hd'; cases hd'; rfl
 have k12:∀ {x y},(x ∈ bx bw b a.cases)→(y ∈ bG b a.cases)→x.inp=y.inp→False:=by
  intro x y hx hy h
  obtain ⟨c,hc,d,hd,rfl⟩:=ew hx
  obtain ⟨c',hc',hn,rfl⟩:=dj hy
  have h:c.inp=c'.inp:=h
  rw [← h,hd] at hn; cases hn
 have k13:∀ {x y},(x ∈ bx bw b a.cases)→(y ∈ bG a b.cases)→x.inp=y.inp→False:=by
  intro x y hx hy h
  obtain ⟨c,hc,d,hd,rfl⟩:=ew hx
  obtain ⟨c',hc',hn,rfl⟩:=dj hy
  exact gJ hn c hc h
 have k23:∀ {x y},(x ∈ bG b a.cases)→(y ∈ bG a b.cases)→x.inp=y.inp→False:=by
  intro x y hx hy h
  obtain ⟨c,hc,hn,rfl⟩:=dj hx
  obtain ⟨c',hc',hn',rfl⟩:=dj hy
  exact gJ hn' c hc h
 have k22:∀ {t o:TaskV},aM t=0→∀ {x y},(x ∈ bG o t.cases)→(y ∈ bG o t.cases)→x.inp=y.inp→x=y:=by
  intro t o ht x y hx hy h
  obtain ⟨c,hc,hn,rfl⟩:=dj hx
  obtain ⟨c',hc',hn',rfl⟩:=dj hy
  have h:c.inp=c'.inp:=h
  rw [fo ht hc hc' h]
 rcases hx with (hx | hx) | hx <;> rcases hy with (hy | hy) | hy
 ·exact key hx hy h
 ·exact (k12 hx hy h).elim
 ·exact (k13 hx hy h).elim
 ·exact (k12 hy hx h.symm).elim
 ·exact k22 ha hx hy h
 ·exact (k23 hx hy h).elim
 ·exact (k13 hy hx h.symm).elim
 ·exact (k23 hy hx h.symm).elim
 ·exact k22 hb hx hy h
theorem dN {x y:List (List Int)}:(bw x y).length ≤ x.length + y.length:=by
 have:=wt (l:=x ++ y)
 rw [List.length_append] at this
 exact this
theorem cC {x y:List (List Int)} {v:List Int}:v ∈ bw x y ↔ v ∈ x ∨ v ∈ y:=by
 unfold bw; rw [iw,List.mem_append]
theorem iS {a b:TaskV}:(ci a b).length ≤ a.cases.length + a.cases.length + b.cases.length:=by
 unfold ci
 rw [List.length_append,List.length_append]
 have h1:=fc (F:=bw) (b:=b) (l:=a.cases)
 have h2:=gA (o:=b) (l:=a.cases)
 have h3:=gA (o:=a) (l:=b.cases)
 omega
theorem mR {i:List Int} {x y:List (List Int)} (hi:Sh i) (hx:x.length ≤ 1000000) (hxs:∀ v ∈ x,Sh v) (hy:y.length ≤ 1000000) (hys:∀ v ∈ y,Sh v):ShC (bV i x y):=by
 refine ⟨hi,show _ ≤ _ by show x.length ≤ _; omega,hxs,?_,?_⟩
 ·unfold bV
  dsimp only
  split
  ·exact Nat.zero_le _
  ·show y.length ≤ _; omega
 ·unfold bV
  dsimp only
  split
  ·intro v hv; exact (by cases hv)
  ·exact hys
structure Fit (t:TaskV):Prop where
 sh:∀ c ∈ t.cases,ShC c
 len:t.cases.length ≤ 100000
 q:∀ c ∈ t.cases,c.out.length ≤ 100000∧c.calm.length ≤ 100000
theorem Fit.sh2 {t:TaskV} (h:Fit t):Sh t.cases:=by have:=h.len; show _ ≤ _; omega
theorem Fit.qa {t:TaskV} (h:Fit t) {c:CaseV} (hc:c ∈ t.cases) {f:Int}:(ar c f).length ≤ 100000∧∀ v ∈ ar c f,Sh v:=⟨gL (h.q c hc),ef (h.sh c hc)⟩
structure Fit4 (t:TaskV):Prop where
 fit:Fit t
 q4:∀ c ∈ t.cases,c.out.length ≤ 40000∧c.calm.length ≤ 40000
theorem rm {a b:TaskV} (ha:Fit4 a) (hb:Fit4 b):∀ c ∈ ci a b,ShC c:=by
 intro x hx
 unfold ci at hx
 rw [List.mem_append,List.mem_append] at hx
 have al:∀ {t o:TaskV},Fit4 t→x ∈ bG o t.cases→ShC x:=fun {t o} ht h=>by
  obtain ⟨c,hc,_,rfl⟩:=dj h
  have h1:=ht.fit.sh c hc
  have h2:=ht.fit.q c hc
  have h3:=ht.fit.qa hc (f:=0)
  exact mR h1.1 (by omega) h1.2.2.1 (by omega) h3.2
 rcases hx with (hx | hx) | hx
 ·obtain ⟨c,hc,d,hd,rfl⟩:=ew hx
  have hdm:=(bW hd).1
  have h1:=ha.fit.sh c hc
  have g1:=hb.fit.sh d hdm
  have h2:=ha.fit.q c hc
  have g2:=hb.fit.q d hdm
  have h3:=ha.fit.qa hc (f:=0)
  have g3:=hb.fit.qa hdm (f:=0)
  have l1:=dN (x:=c.out) (y:=d.out)
  have l2:=dN (x:=ar c 0) (y:=ar d 0)
  exact mR h1.1 (by omega) (fun v hv=>(cC.1 hv).elim (h1.2.2.1 v) (g1.2.2.1 v)) (by omega) (fun v hv=>(cC.1 hv).elim (h3.2 v) (g3.2 v))
 ·exact al ha hx
 ·exact al hb hx
theorem xg {H:Hp} {sv:AV} {L:List CaseV} (h:Row H 3 sv (L.c3 cr)) (h0:0 < L.length):∃ B,sv=.msl B (L.length * 3) 3 0 L.length∧H B=some (L.c3 cr):=by
 generalize hcs:L.c3 cr=cs at h
 have hcl3:(L.c3 cr).length=L.length * 3:=bc (fun _=>rfl) L
 cases h with
 | nil=>rw [hcs] at hcl3; simp at hcl3; omega
 | box B len cs h1 h2 =>
  have e:len=L.length:=by rw [← hcs,hcl3] at h2; omega
  subst e
  exact ⟨B,rfl,h1⟩
attribute [local irreducible] aA ag aU aO aE aH ay aJ aQ aZ Go.Abs.Fn aL Go.Abs.Pure ak aB Yl
set_option maxHeartbeats 2000000 in
theorem r6 (a b:TaskV) (fa:Fit4 a) (fb:Fit4 b):Pure Tryz.prog 18 [bo a,bo b] (.tup [bo (ja a b).1,.int .i64 (ja a b).2]):=by
 refine Pure.of_c2 follows Bp (Nat.le_of_ble_eq_true rfl) ?_
 simp only [b18,cO,cG,cN,cM,cD,cF,cB,av,aF]
 have hp:=rQ a b fa.fit.sh fa.fit.sh2 fb.fit.sh fb.fit.sh2
 have d1:=bJ a
 have d2:=bJ b
 by_cases he:bF a b=0
 rotate_left
 ·have e:ja a b=(T00,bF a b):=by unfold ja; rw [if_pos he]
  rw [e]
  generalize bF a b=C at *
  unfold bo at hp d1 d2
  rw [show bo a=.agg [.int .i64 a.n,.int .i64 a.ins,.int .i64 a.outs,aR a.cases] from rfl,show bo b=.agg [.int .i64 b.n,.int .i64 b.ins,.int .i64 b.outs,aR b.cases] from rfl]
  (have zz:=aI @aj @ab; repeat' (first | refine zW ?_ | apply a_n | apply a_r | refine zO ?_ | refine vZ ?_ | refine cZ ?_ (hp:=hp) | refine alZ ?_ | refine bxZ ?_ | refine stZ ?_ | (refine zGZ ?_ ?_ <;> (intro _hg; try (exfalso; omega))) | refine ae rfl ?_ | refine r2Z ?_ | fail)) <;> (try clear zz)
  exact i2 _
 obtain ⟨ca,cb,hn⟩:=tJ he
 rw [he] at hp
 have e:ja a b=if 1024 < (ci a b).length ∨ a.cases.any (eG bw b)=true then (T00,5) else (⟨a.n,max a.ins b.ins,max a.outs b.outs,gU KC (ci a b)⟩,0):=by unfold ja; rw [if_neg (fun h=>h he)]
 rw [e]
 have hne:∀ {t:TaskV},aM t=0→∀ c ∈ t.cases,c.out ≠ []∧ar c 0 ≠ []:=fun {t} h c hc=>by
  obtain ⟨i,hi,rfl⟩:=List.getElem_of_mem hc
  have h1:=(oH h hi).1
  have h2:=(mO (f:=0) h hi).1
  rw [show t.cases.getD i default=t.cases[i] by simp [List.getD,hi]] at h1 h2
  exact ⟨fun e=>by rw [e] at h1; simp at h1,fun e=>by rw [e] at h2; simp at h2⟩
 have hco:=fun H nx=>n5 a b bw 56 [] (by simp) fa.fit.sh fa.fit.len fb.fit.sh fb.fit.sh2 (fun c hc d hd=>by
  have h1:=fa.fit.sh c hc
  have g1:=fb.fit.sh d hd
  have h2:=fa.q4 c hc
  have g2:=fb.q4 d hd
  have h3:=gL (f:=0) h2
  have g3:=gL (f:=0) g2
  have h4:=ef (f:=0) h1
  have g4:=ef (f:=0) g1
  have l1:=dN (x:=c.out) (y:=d.out)
  have l2:=dN (x:=ar c 0) (y:=ar d 0)
  exact ⟨sR _ _ (hne ca c hc).1 (hne cb d hd).1 (by omega) (by omega) h1.2.2.1 g1.2.2.1,sR _ _ (hne ca c hc).2 (hne cb d hd).2 (by omega) (by omega) h4 g4,⟨by omega,fun v hv=>(cC.1 hv).elim (h1.2.2.1 v) (g1.2.2.1 v)⟩,by omega,fun v hv=>(cC.1 hv).elim (h4 v) (g4 v)⟩) H nx
 have hj1:=sK a b fa.fit.sh fa.fit.len fb.fit.sh fb.fit.sh2 fa.fit.q
 have hj2:=sK b a fb.fit.sh fb.fit.len fa.fit.sh fa.fit.sh2 fb.fit.q
 have hjl:bx bw b a.cases ++ bG b a.cases ++ bG a b.cases=ci a b:=rfl
 have hlen:=iS (a:=a) (b:=b)
 have hsh:=rm fa fb
 have hinj:=fun x hx y hy=>uh ca cb (x:=x) (y:=y) hx hy
 have hcl:(bx bw b a.cases).length ≤ a.cases.length:=fc
 have hal:(bx bw b a.cases ++ bG b a.cases).length ≤ a.cases.length + a.cases.length:=by
  rw [List.length_append]
  have:=gA (o:=b) (l:=a.cases)
  omega
 have hal0:=fa.fit.len
 have hbl0:=fb.fit.len
 have hpos:0 < (ci a b).length:=by
  have:=(fM ca).2.1
  unfold ci
  rw [List.length_append,List.length_append]
  have hx:=ai (l:=a.cases) (k:=0) (by omega)
  generalize a.cases.getD 0 default=c at hx
  cases hf:b0 b c.inp with
  | none =>
   have:bV c.inp c.out (ar c 0) ∈ bG b a.cases:=List.mem_filterMap.2 ⟨c,hx,by unfold fq; rw [hf]⟩
   have:=List.length_pos_of_mem this
   omega
  | some d =>
   have:bV c.inp (bw c.out d.out) (bw (ar c 0) (ar d 0)) ∈ bx bw b a.cases:=List.mem_filterMap.2 ⟨c,hx,by unfold jo; rw [hf]; rfl⟩
   have:=List.length_pos_of_mem this
   omega
 generalize a.cases.all (ed bw b)=FF at *
 generalize a.cases.any (eG bw b)=MM at *
 generalize hL1:bx bw b a.cases=L1 at *
 unfold bo at hp d1 d2 hco hj1 hj2
 rw [show bo a=.agg [.int .i64 a.n,.int .i64 a.ins,.int .i64 a.outs,aR a.cases] from rfl,show bo b=.agg [.int .i64 b.n,.int .i64 b.ins,.int .i64 b.outs,aR b.cases] from rfl]
 (have zz:=aI @aj @ab; repeat' (first | refine zW ?_ | apply a_n | refine zO ?_ | refine vZ ?_ | refine cZ ?_ (hp:=hp) | refine alZ ?_ | refine bxZ ?_ | (refine zGZ ?_ ?_ <;> (intro _hg; try (exfalso; omega))) | fail)) <;> (try clear zz)
 refine aD (have zz:=aI @aj @ab; evZ) (have zz:=aI @aj @ab; evZ) (hco _ _) ?_
 rintro _ H1 n1 ⟨sv,rfl,hrow,hbd,hsm,hnx⟩
 have g0:H1 0=some [.int .i64 a.n,.int .i64 a.ins,.int .i64 a.outs,aR a.cases]:=hsm 0 (by omega)
 have g1:H1 1=some [.int .i64 b.n,.int .i64 b.ins,.int .i64 b.outs,aR b.cases]:=hsm 1 (by omega)
 have g2:H1 2=some [.int .i64 0,.int .i64 0,.int .i64 0,.esl]:=hsm 2 (by omega)
 obtain ⟨q1,q2⟩:=hrow.one
 (have zz:=aI @q1 (aI @q2 (aI @g0 @g1)); repeat' (first | refine zW ?_ | apply a_n | refine zO ?_ | refine vY ?_ | refine alY ?_ | refine stY ?_ | fail)) <;> (try clear zz)
 refine aD (have zz:=and_self; evY) (have zz:=aI @g0 @g1; evY) (hj1 _ (n1 + 1) n1 sv L1 au (by omega) (by omega) (hrow.same fun x hx=>by have:=hbd x hx; rw [ac (by omega),ac (by omega)]) (fun x hx=>by have:=hbd x hx; omega)) ?_
 rintro _ H2 n2 ⟨s2,gB,hrow2,hbd2,hsm2,hnx2⟩
 have fr2:∀ x,x < 3→H2 x=H1 x:=fun x hx=>by rw [hsm2 x (by omega) (by omega) (fun h=>by have:=hbd x h; omega),ac (by omega),ac (by omega)]
 have g0':=(fr2 0 (by omega)).trans g0
 have g1':=(fr2 1 (by omega)).trans g1
 have g2':=(fr2 2 (by omega)).trans g2
 have bd2:∀ x,gN s2=some x→3 ≤ x∧x < n2∧x ≠ n1:=fun x hx=>by
  obtain ⟨h1 | h1,h2,h3⟩:=hbd2 x hx
  ·have:=hbd x h1; exact ⟨by omega,h2,h3⟩
  ·exact ⟨by omega,h2,h3⟩
 (have zz:=aI @g0' @g1'; repeat' (first | refine zW ?_ | apply a_n | refine zO ?_ | refine vY ?_ | fail)) <;> (try clear zz)
 refine aD (have zz:=and_self; evY) (have zz:=aI @g0' @g1'; evY) (hj2 _ n2 n1 s2 (L1 ++ bG b a.cases) gB (by omega) (by omega) hrow2 (fun x hx=>(bd2 x hx).2)) ?_
 rintro _ H3 n3 ⟨s3,gB3,hrow3,hbd3,hsm3,hnx3⟩
 have fr3:∀ x,x < 3→H3 x=H2 x:=fun x hx=>hsm3 x (by omega) (by omega) (fun h=>by have:=bd2 x h; omega)
 have g0'':=(fr3 0 (by omega)).trans g0'
 have g1'':=(fr3 1 (by omega)).trans g1'
 have g2'':=(fr3 2 (by omega)).trans g2'
 have bd3:∀ x,gN s3=some x→3 ≤ x∧x < n3∧x ≠ n1:=fun x hx=>by
  obtain ⟨h1 | h1,h2,h3⟩:=hbd3 x hx
  ·have:=bd2 x h1; exact ⟨by omega,h2,h3⟩
  ·exact ⟨by omega,h2,h3⟩
 rw [hjl] at hrow3
 generalize ci a b=L at *
 obtain ⟨B,rfl,hB⟩:=xg hrow3 hpos
 have hBb:=bd3 B rfl
 by_cases hmn:1024 < L.length ∨ MM=true
 ·rw [if_pos hmn]
  by_cases hm1:1024 < L.length
  ·have z:decide ((1024:Int) < (L.length:Int))=true:=decide_eq_true (by omega)
   (have zz:=aI @g0'' (aI @g1'' (aI @g2'' (aI @gB3 @z))); repeat' (first | refine zW ?_ | apply a_n | apply a_r | refine zO ?_ | refine vY ?_ | refine stY ?_ | refine gFY ?_ | refine cTY ?_ | refine ae rfl ?_ | refine r2Y ?_ | fail)) <;> (try clear zz)
   all_goals exact i2 _
  ·obtain rfl:MM=true:=hmn.resolve_left hm1
   have z:decide ((1024:Int) < (L.length:Int))=false:=decide_eq_false (by omega)
   (have zz:=aI @g0'' (aI @g1'' (aI @g2'' (aI @gB3 @z))); repeat' (first | refine zW ?_ | apply a_n | apply a_r | refine zO ?_ | refine vY ?_ | refine stY ?_ | refine gTY ?_ | refine cTY ?_ | refine ae rfl ?_ | refine r2Y ?_ | fail)) <;> (try clear zz)
   all_goals exact i2 _
 rw [if_neg hmn]
 have z:decide ((1024:Int) < (L.length:Int))=false:=decide_eq_false (by omega)
 obtain rfl:MM=false:=by simpa using fun h=>hmn (.inr h)
 (have zz:=aI @g0'' (aI @g1'' (aI @g2'' (aI @gB3 @z))); repeat' (first | refine zW ?_ | apply a_n | refine zO ?_ | refine vY ?_ | refine gTY ?_ | refine cFY ?_ | fail)) <;> (try clear zz)
 refine aD (have zz:=and_self; evY) (have zz:=@gB3; evY) (wU BS hB (by omega) rfl hpos hsh (by omega)) ?_
 rintro _ H4 n4 ⟨M,hps,hpM,hsM⟩
 have hMl:M.length=L.length:=hpM.length_eq
 have hM:M=gU KC L:=j6 Aj (fun x hx y hy h1 h2=>hinj x hx y hy (qc h1 h2)) (bC.of (by rw [hMl]; exact hsM)) hpM
 have k0:=(hps.fr 0 (by omega) (by omega)).trans g0''
 have k1:=(hps.fr 1 (by omega) (by omega)).trans g1''
 have k2:=(hps.fr 2 (by omega) (by omega)).trans g2''
 have kB:=(hps.fr n1 (by omega) (by omega)).trans gB3
 (have zz:=aI @k0 (aI @k1 (aI @k2 (aI @kB @mx2))); repeat' (first | refine zW ?_ | apply a_n | refine zO ?_ | refine vY ?_ | refine stY ?_ | refine ae rfl ?_ | refine r2Y ?_ | fail)) <;> (try clear zz)
 rw [← hM]
 exact v9 (sA (by rw [ac (by omega)]; exact hps.at_) hMl)
end Go.Proofs.YtjgpfclngkcedaaGreat
namespace Go.Proofs.YtjgpfclngkcedaaGreat
open Go Go.Abs
open Nat (reduceEqDiff reduceAdd reduceLeDiff)
theorem cJ {t:TaskV} (h:aM t=0) {c:CaseV} (hc:c ∈ t.cases):ec c.out∧ec c.calm∧(∀ f,ec (ar c f))∧∀ f,∀ v ∈ ar c f,v ∈ c.out:=by
 obtain ⟨g1,g2,g3,g4,g5⟩:=bv (b9 h hc).2
 have a1:=oK g3
 have a2:=oK g5
 refine ⟨a1,a2,fun f=>?_,fun f v hv=>?_⟩
 ·unfold ar; split <;> assumption
 ·unfold ar at hv
  split at hv
  ·exact g4 v hv
  ·exact hv
attribute [local irreducible] aA ag aU aO aE aH ay aJ aQ aZ Go.Abs.Fn aL Go.Abs.Pure ak aB Yl
end Go.Proofs.YtjgpfclngkcedaaGreat
namespace Go.Proofs.YtjgpfclngkcedaaGreat
open Go Go.Abs
attribute [local irreducible] aA ag aU aO aE aH ay aJ aQ aZ Go.Abs.Fn aL Go.Abs.Pure ak aB Yl
end Go.Proofs.YtjgpfclngkcedaaGreat
namespace Go.Proofs.YtjgpfclngkcedaaGreat
open Go Go.Abs
open Nat (reduceEqDiff reduceAdd reduceLeDiff)
structure Fit30 (t:TaskV):Prop where
 sh:∀ c ∈ t.cases,ShC c
 len:t.cases.length ≤ 30
 q:∀ c ∈ t.cases,c.out.length ≤ 30∧c.calm.length ≤ 30
theorem Fit30.of {t:TaskV} (h:oo t=true):Fit30 t:=by
 have hsh:=xx h
 unfold oo at h
 rw [Bool.and_eq_true,decide_eq_true_iff,List.all_eq_true] at h
 refine ⟨hsh.2,h.1,fun c hc=>?_⟩
 have hf:=h.2 c hc
 unfold p8 ji at hf
 simp only [Bool.and_eq_true,decide_eq_true_iff,List.all_eq_true] at hf
 exact ⟨hf.1.2.1,hf.2.1⟩
theorem Fit30.four {t:TaskV} (h:Fit30 t):Fit4 t:=⟨⟨h.sh,by have:=h.len; omega,fun c hc=>by have:=h.q c hc; omega⟩,fun c hc=>by have:=h.q c hc; omega⟩
theorem Fit30.fit {t:TaskV} (h:Fit30 t):Fit t:=h.four.fit
attribute [local irreducible] aA ag aU aO aE aH ay aJ aQ aZ Go.Abs.Fn aL Go.Abs.Pure ak aB Yl
end Go.Proofs.YtjgpfclngkcedaaGreat
namespace Go.Proofs.YtjgpfclngkcedaaGreat
open Go Go.Abs
attribute [local irreducible] aA ag aU aO aE aH ay aJ aQ aZ Go.Abs.Fn aL Go.Abs.Pure ak aB Yl
end Go.Proofs.YtjgpfclngkcedaaGreat
namespace Go.Proofs.YtjgpfclngkcedaaGreat
open Go Go.Abs
attribute [local irreducible] aA ag aU aO aE aH ay aJ aQ aZ Go.Abs.Fn aL Go.Abs.Pure ak aB Yl
end Go.Proofs.YtjgpfclngkcedaaGreat
namespace Go.Proofs.YtjgpfclngkcedaaGreat
open Go Go.Abs
open Nat (reduceEqDiff reduceAdd reduceLeDiff)
attribute [local irreducible] aA ag aU aO aE aH ay aJ aQ aZ Go.Abs.Fn aL Go.Abs.Pure ak aB Yl
end Go.Proofs.YtjgpfclngkcedaaGreat
namespace Go.Proofs.YtjgpfclngkcedaaGreat
open Go Go.Abs
attribute [local irreducible] aA ag aU aO aE aH ay aJ aQ aZ Go.Abs.Fn aL Go.Abs.Pure ak aB Yl
end Go.Proofs.YtjgpfclngkcedaaGreat
namespace Go.Proofs.YtjgpfclngkcedaaGreat
open Go Go.Abs
structure BoxesM (H:Hp) (bs:List Nat) (l:List (List Int)):Prop where
 len:bs.length=l.length
 at_:∀ i,i < l.length→H (bs.getD i 0)=some ((l.getD i default).map (AV.int .i64))
 nodup:bs.Nodup
theorem BoxesM.same {H H':Hp} {bs:List Nat} {l:List (List Int)} (h:BoxesM H bs l) (hs:∀ b ∈ bs,H' b=H b):BoxesM H' bs l :=
 ⟨h.len,fun i hi=>(hs _ (by have:=h.len; rw [List.getD_eq_getElem?_getD,List.getElem?_eq_getElem (by omega)]; exact List.getElem_mem _)).trans (h.at_ i hi),h.nodup⟩
theorem Ad {bs:List Nat} (h:bs.Nodup) {i j:Nat} (hi:i < bs.length) (hj:j < bs.length) (e:bs.getD i 0=bs.getD j 0):i=j:=by
 rw [List.getD_eq_getElem?_getD,List.getD_eq_getElem?_getD,List.getElem?_eq_getElem hi,List.getElem?_eq_getElem hj] at e
 have hp:=List.pairwise_iff_getElem.1 (List.nodup_iff_pairwise_ne.1 h)
 rcases Nat.lt_trichotomy i j with c | c | c
 ·exact absurd e (hp i j hi hj c)
 ·exact c
 ·exact absurd e.symm (hp j i hj hi c)
theorem BoxesM.snoc {H:Hp} {bs:List Nat} {l:List (List Int)} {b:Nat} {v:List Int} (h:BoxesM H bs l) (hb:H b=some (v.map (AV.int .i64))) (hn:b ∉ bs):BoxesM H (bs ++ [b]) (l ++ [v]):=by
 refine ⟨by simp [h.len],fun i hi=>?_,?_⟩
 ·rw [List.length_append,List.length_singleton] at hi
  have hl:=h.len
  by_cases e:i=l.length
  ·subst e
   rw [← hl]
   simp only [List.getD_eq_getElem?_getD,List.getElem?_append_right (Nat.le_refl _),Nat.sub_self]
   rw [hl,List.getElem?_append_right (Nat.le_refl _),Nat.sub_self]
   exact hb
  ·have:=h.at_ i (by omega)
   simp only [List.getD_eq_getElem?_getD] at this ⊢
   rw [List.getElem?_append_left (by omega),List.getElem?_append_left (by omega)]
   exact this
 ·rw [List.nodup_append]
  exact ⟨h.nodup,by simp,fun x hx y hy e=>hn (by simp at hy; subst hy; subst e; exact hx)⟩
attribute [local irreducible] aA ag aU aO aE aH ay aJ aQ aZ Go.Abs.Fn aL Go.Abs.Pure ak aB Yl
end Go.Proofs.YtjgpfclngkcedaaGreat
namespace Go.Proofs.YtjgpfclngkcedaaGreat
open Go Go.Abs
section
variable {α:Type} [Inhabited α] {g:α→α} {l:List α}
end
theorem BoxesM.set {H:Hp} {bs:List Nat} {l:List (List Int)} {i:Nat} {v:List Int} (h:BoxesM H bs l) (hi:i < l.length):BoxesM (an H (bs.getD i 0) (v.map (AV.int .i64))) bs (l.set i v):=by
 refine ⟨by rw [List.length_set]; exact h.len,fun j hj=>?_,h.nodup⟩
 rw [List.length_set] at hj
 by_cases e:j=i
 ·subst e
  rw [au]
  simp [List.getD,hj]
 ·rw [ac (fun k=>e (Ad h.nodup (by have:=h.len; omega) (by have:=h.len; omega) k)),h.at_ j hj]
  simp only [List.getD_eq_getElem?_getD]
  rw [List.getElem?_set_ne (by omega)]
attribute [local irreducible] aA ag aU aO aE aH ay aJ aQ aZ Go.Abs.Fn aL Go.Abs.Pure ak aB Yl
end Go.Proofs.YtjgpfclngkcedaaGreat
namespace Go.Proofs.YtjgpfclngkcedaaGreat
open Go Go.Abs
open Nat (reduceEqDiff reduceAdd reduceLeDiff)
attribute [local irreducible] aA ag aU aO aE aH ay aJ aQ aZ Go.Abs.Fn aL Go.Abs.Pure ak aB Yl
end Go.Proofs.YtjgpfclngkcedaaGreat
namespace Go.Proofs.YtjgpfclngkcedaaGreat
open Go Go.Abs
open Nat (reduceEqDiff reduceAdd reduceLeDiff)
attribute [local irreducible] aA ag aU aO aE aH ay aJ aQ aZ Go.Abs.Fn aL Go.Abs.Pure ak aB Yl
end Go.Proofs.YtjgpfclngkcedaaGreat
namespace Go.Proofs.YtjgpfclngkcedaaGreat
open Go Go.Abs
open Nat (reduceEqDiff reduceAdd reduceLeDiff)
attribute [local irreducible] aA ag aU aO aE aH ay aJ aQ aZ Go.Abs.Fn aL Go.Abs.Pure ak aB Yl
end Go.Proofs.YtjgpfclngkcedaaGreat
namespace Go.Proofs.YtjgpfclngkcedaaGreat
open Go Go.Abs
open Nat (reduceEqDiff reduceAdd reduceLeDiff)
theorem ww {a b:TaskV}:a=b ↔ a.n=b.n∧a.ins=b.ins∧a.outs=b.outs∧a.cases=b.cases:=by
 constructor
 ·rintro rfl; exact ⟨rfl,rfl,rfl,rfl⟩
 ·rintro ⟨h1,h2,h3,h4⟩
  obtain ⟨n,i,o,c⟩:=a
  obtain ⟨n',i',o',c'⟩:=b
  cases h1; cases h2; cases h3; cases h4; rfl
def eqF (p:CaseV→CaseV→Bool) (x y:List CaseV):Bool:=decide (x.length=y.length) && (List.range x.length).all fun i=>p (x.getD i default) (y.getD i default)
attribute [local irreducible] aA ag aU aO aE aH ay aJ aQ aZ Go.Abs.Fn aL Go.Abs.Pure ak aB Yl
theorem uJ (x y:List CaseV) (p:CaseV→CaseV→Bool) (g:Nat) (caps:List AV) (hd:∀ z ∈ caps,Dat z) (hx:Sh x) (hy:Sh y) (hg:∀ c ∈ x,∀ d ∈ y,Pure Tryz.prog g (.agg [aN c.inp,ax c.out,ax c.calm] :: .agg [aN d.inp,ax d.out,ax d.calm] :: caps) (.bool (p c d))):Pure Tryz.prog 83 [aR x,aR y,.func g caps] (.bool (eqF p x y)):=by
 refine Pure.of_c2 follows Al (Nat.le_of_ble_eq_true rfl) ?_
 simp only [b83,cO,cG,cN,cM,cD,cF,cB,av,aF]
 have hx':x.length ≤ 17592186044416:=hx
 have hy':y.length ≤ 17592186044416:=hy
 unfold eqF
 by_cases hlen:x.length=y.length
 rotate_left
 ·have z:decide ((x.length:Int) ≠ y.length)=true:=decide_eq_true (by omega)
  rw [decide_eq_false hlen,Bool.false_and]
  (have zz:=aI @z (aI @aj (aI @ab @aw)); repeat' (first | refine zW ?_ | apply a_n | apply a_r | refine zO ?_ | refine vZ ?_ | refine cTZ ?_ | refine ae rfl ?_ | refine r1Z ?_ | fail)) <;> (try clear zz)
  exact .bool _
 rw [decide_eq_true hlen,Bool.true_and]
 have z:decide ((x.length:Int) ≠ y.length)=false:=decide_eq_false (by omega)
 (have zz:=aI @z (aI @aj (aI @ab @aw)); repeat' (first | refine zW ?_ | apply a_n | refine zO ?_ | refine vZ ?_ | refine cFZ ?_ | fail)) <;> (try clear zz)
 refine be (X:=Nat) (fun k=>[(0,aR x),(1,aR y),(2,.func g caps),(15,aR x),(16,.int .i64 x.length),(17,.int .i64 k)]) (fun k H nx=>k ≤ x.length∧∀ i,i < k→p (x.getD i default) (y.getD i default)=true) (fun k=>x.length - k) 0 ⟨Nat.zero_le _,fun i h=>absurd h (by omega)⟩ ag0 ?_
 rintro k H nx ⟨hk,hz⟩
 by_cases hk2:k < x.length
 rotate_left
 ·rw [List.all_eq_true.2 (fun i hi=>hz i (by have:=List.mem_range.1 hi; omega))]
  (have zz:=and_self; repeat' (first | refine zW ?_ | apply a_n | apply a_x | refine zO ?_ | refine vY ?_ | (refine zGY ?_ ?_ <;> (intro _hg; try (exfalso; omega))) | refine ae rfl ?_ | refine r1Y ?_ | fail)) <;> (try clear zz)
  exact .bool _
 have ix:=bd hk2
 have iy:=bd (l:=y) (k:=k) (by omega)
 have hc:=hg _ (ai hk2) _ (ai (l:=y) (k:=k) (by omega))
 have dx:=de (x.getD k default)
 have dy:=de (y.getD k default)
 unfold cr at dx dy
 have hbad:p (x.getD k default) (y.getD k default)=false→(List.range x.length).all (fun i=>p (x.getD i default) (y.getD i default))=false:=fun h=>by
  rw [Bool.eq_false_iff,ne_eq,List.all_eq_true]
  intro h2
  have:=h2 k (List.mem_range.2 hk2)
  rw [h] at this; cases this
 have hnext:p (x.getD k default) (y.getD k default)=true→∀ i,i < k + 1→p (x.getD i default) (y.getD i default)=true:=fun h i hi=>by
  rcases Nat.lt_succ_iff_lt_or_eq.1 hi with h' | rfl
  ·exact hz i h'
  ·exact h
 cases hb:p (x.getD k default) (y.getD k default)
 ·rw [hb] at hc
  rw [hbad hb]
  (have zz:=aI @aj (aI @ab (aI @aw (aI @ix @iy))); repeat' (first | refine zW ?_ | apply a_n | apply a_r | refine zO ?_ | refine vY ?_ | refine cY ?_ (hp:=hc) (hs:=by (first | refine ah ?_ rfl | apply ap); (repeat' (first | exact af | apply aC | apply aq | exact dx | exact dy | exact ao hd)); first | done | fail) | refine alY ?_ | refine stY ?_ | refine cTY ?_ | (refine zGY ?_ ?_ <;> (intro _hg; try (exfalso; omega))) | refine ae rfl ?_ | refine r1Y ?_ | fail)) <;> (try clear zz)
  exact .bool _
 ·rw [hb] at hc
  (have zz:=aI @aj (aI @ab (aI @aw (aI @ix @iy))); repeat' (first | refine zW ?_ | apply a_n | refine zO ?_ | refine vY ?_ | refine cY ?_ (hp:=hc) (hs:=by (first | refine ah ?_ rfl | apply ap); (repeat' (first | exact af | apply aC | apply aq | exact dx | exact dy | exact ao hd)); first | done | fail) | refine alY ?_ | refine stY ?_ | refine cFY ?_ | (refine zGY ?_ ?_ <;> (intro _hg; try (exfalso; omega))) | fail)) <;> (try clear zz)
  exact ⟨k + 1,by omega,⟨by omega,hnext hb⟩,ag0⟩
end Go.Proofs.YtjgpfclngkcedaaGreat
namespace Go.Proofs.YtjgpfclngkcedaaGreat
open Go Go.Abs
open Nat (reduceEqDiff reduceAdd reduceLeDiff)
attribute [local irreducible] aA ag aU aO aE aH ay aJ aQ aZ Go.Abs.Fn aL Go.Abs.Pure ak aB Yl
end Go.Proofs.YtjgpfclngkcedaaGreat
namespace Go.Proofs.YtjgpfclngkcedaaGreat
open Go Go.Abs
open Nat (reduceEqDiff reduceAdd reduceLeDiff)
section
attribute [local irreducible] aA ag aU aO aE aH ay aJ aQ aZ Go.Abs.Fn aL Go.Abs.Pure ak aB Yl
theorem rU (H:Hp) (nx:Nat):Abs.Fn Tryz.prog 42 [.esl] H nx fun r H' nx'=>(r=.esl ∨ r=.msl nx 0 1 0 0)∧(H'=H∧nx'=nx ∨ H'=an H nx []∧nx'=nx + 1):=by
 refine Abs.Fn.of_c2 follows y4 (Nat.le_of_ble_eq_true rfl) ?_
 simp only [b42,cO,cG,cN,cM,cD,cF,cB,av,aF]
 (have zz:=and_self; repeat' (first | refine zW ?_ | apply a_n | refine zO ?_ | refine vZ ?_ | fail)) <;> (try clear zz)
 refine pD (k:=0) (by ((try simp only [bn,ZA,reduceEqDiff,↓reduceIte,reduceAdd,reduceLeDiff]); (try with_reducible rfl)); rfl) (fun h=>by omega) (fun h=>?_) (fun h=>?_)
 ((all_goals (try have zz:=and_self)); (repeat' (first | refine zW ?_ | apply a_n | apply a_r | refine zO ?_ | refine vZ ?_ | refine b0Z ?_ | refine a0Z ?_ | refine cTZ ?_ | refine cFZ ?_ | refine ae rfl ?_ | refine r1Z ?_ | fail)); (all_goals (try clear zz)))
 all_goals first | exact ⟨.inl rfl,.inl ⟨rfl,rfl⟩⟩ | exact ⟨.inr rfl,.inr ⟨rfl,rfl⟩⟩
theorem rP (H:Hp) (nx:Nat):Abs.Fn Tryz.prog 106 [.esl] H nx fun r H' nx'=>(r=.esl ∨ r=.msl nx 0 1 0 0)∧(H'=H∧nx'=nx ∨ H'=an H nx []∧nx'=nx + 1):=by
 refine Abs.Fn.of_c2 follows vG (Nat.le_of_ble_eq_true rfl) ?_
 simp only [wO,cO,cG,cN,cM,cD,cF,cB,av,aF]
 (have zz:=and_self; repeat' (first | refine zW ?_ | apply a_n | refine zO ?_ | refine vZ ?_ | fail)) <;> (try clear zz)
 refine pD (k:=0) (by ((try simp only [bn,ZA,reduceEqDiff,↓reduceIte,reduceAdd,reduceLeDiff]); (try with_reducible rfl)); rfl) (fun h=>by omega) (fun h=>?_) (fun h=>?_)
 ((all_goals (try have zz:=and_self)); (repeat' (first | refine zW ?_ | apply a_n | apply a_r | refine zO ?_ | refine vZ ?_ | refine b0Z ?_ | refine a0Z ?_ | refine cTZ ?_ | refine cFZ ?_ | refine ae rfl ?_ | refine r1Z ?_ | fail)); (all_goals (try clear zz)))
 all_goals first | exact ⟨.inl rfl,.inl ⟨rfl,rfl⟩⟩ | exact ⟨.inr rfl,.inr ⟨rfl,rfl⟩⟩
end
def ctC:FuncId→List AV→Nat→Option AV:=fun g args nx=>match Nat.beq g 42 || Nat.beq g 106,args with
 | true,[.esl]=>some (.msl nx 0 1 0 0)
 | _,_=>none
theorem xW {g:Nat} {args:List AV} {H:Hp} {nx:Nat} {R:AV→Hp→Nat→Prop} (h:Abs.Fn Tryz.prog g args H nx fun r' H' nx'=>(r'=.esl ∨ r'=.msl nx 0 1 0 0)∧(H'=H∧nx'=nx ∨ H'=an H nx []∧nx'=nx + 1)) (hR:R (.msl nx 0 1 0 0) (an H nx []) (nx + 1)):Abs.Fn Tryz.prog g args H nx R :=
 ⟨h.1,fun E w vs h1 h2 h3 h4=>(h.2 E w vs h1 h2 h3 h4).mono fun e w' ⟨v,E',r',H',nx',k1,k2,k3,k4,k5,k6,a,b⟩=>by
  have hr:Rel E' w' (.msl nx 0 1 0 0) v:=by
   rcases a with rfl | rfl
   ·cases k6 with
    | eslnil=>exact .msl0 _ _ _ (.inl rfl)
    | esl a=>exact .msl0 _ _ _ (.inr ⟨a,rfl⟩)
   ·exact k6
  rcases b with ⟨rfl,rfl⟩ | ⟨rfl,rfl⟩
  ·exact ⟨v,E',_,_,_,k1,k2,k3,k4.virtual (k5 _ (Nat.le_refl _)),fun b hb=>k5 b (by omega),hr,hR⟩
  ·exact ⟨v,E',_,_,_,k1,k2,k3,k4,k5,hr,hR⟩⟩
def ctE (q:FuncId→List AV→Option AV):CT:=⟨ctC,q⟩
theorem zq (g:FuncId) (args:List AV) (nx:Nat) (r:AV) (h:ctC g args nx=some r) (H:Hp) (R:AV→Hp→Nat→Prop) (hR:R r (an H nx []) (nx + 1)):Abs.Fn Tryz.prog g args H nx R:=by
 unfold ctC at h
 split at h
 ·rename_i hg
  cases h
  rcases Bool.or_eq_true _ _ |>.mp hg with hg | hg
  ·cases Nat.eq_of_beq_eq_true hg
   exact xW (rU H nx) hR
  ·cases Nat.eq_of_beq_eq_true hg
   exact xW (rP H nx) hR
 ·cases h
theorem iC {q:FuncId→List AV→Option AV} (hq:∀ (g:FuncId) (args:List AV) (r:AV),q g args=some r→Go.Abs.Pure Tryz.prog g args r):CTok Tryz.prog (ctE q):=⟨zq,hq⟩
def AD:List (Nat × F2):=[(12,b12),(13,b13),(15,b15),(16,b16),(18,b18),(20,b20),(21,b21),(23,b23),(25,b25),(27,b27),(33,b33),(39,b39),(40,b40),(41,b41),(42,b42),(43,b43),(44,b44),(47,b47),(48,b48),(49,b49),(50,b50),(51,b51),(56,b56),(57,b57),(58,b58),(59,b59),(60,b60),(61,b61),(62,b62),(63,b63),(64,b64),(68,b68),(69,b69),(71,b71),(72,b72),(73,b73),(74,b74),(75,b75),(77,b77),(78,b78),(79,b79),(83,b83),(86,b86),(87,b87),(88,b88),(96,b96),(100,yY),(101,z6),(102,yN),(104,yR),(106,wO),(107,wZ),(108,wY),(109,zn),(110,zt),(111,zN),(112,xw),(113,zB),(115,zf),(116,Ag),(117,zK),(118,Au),(119,A0),(120,AH),(121,Ay),(126,Bo),(127,zI),(130,wW),(131,y9),(132,zU),(133,zL),(134,y1),(135,zZ),(136,yZ),(137,zJ),(138,zH),(139,A2),(140,xf),(141,zA),(142,yS),(143,zT),(144,Ah),(145,AX),(149,wN),(150,zc),(151,zr),(152,zo),(153,zm),(154,yT),(155,zQ),(156,zF),(157,zV),(158,y8),(159,yX),(160,zD),(161,zl),(162,yO),(163,BM),(165,zs),(166,y3),(167,Ac),(168,yP),(169,Ab)]
theorem lu:i9 Tryz.prog (lookup AD) :=
 (aa B5 (aa BK (aa Ar (aa Bz (aa Bp (aa AN (aa BT (aa BO (aa Ca (aa Bq (aa Ce (aa BW (aa Bu (aa BB (aa y4 (aa AZ (aa Bi (aa AL (aa AR (aa AE (aa Be (aa AI (aa AY (aa BA (aa A9 (aa AG (aa As (aa BF (aa Ak (aa AJ (aa AA (aa AU (aa BQ (aa BH (aa AO (aa BU (aa B4 (aa Av (aa BX (aa BV (aa B6 (aa Al (aa B8 (aa B1 (aa B7 (aa Bx (aa xU (aa x2 (aa yK (aa ym (aa vG (aa v7 (aa vO (aa yr (aa yz (aa yt (aa wF (aa xR (aa yo (aa yg (aa x4 (aa AC (aa Bc (aa AQ (aa Bw (aa Bg (aa yw (aa u4 (aa x9 (aa xO (aa xQ (aa yL (aa yb (aa ye (aa yA (aa yG (aa Bk (aa wa (aa xX (aa xN (aa yD (aa yI (aa Bv (aa v4 (aa xT (aa yi (aa yM (aa yk (aa x5 (aa yB (aa x3 (aa x1 (aa yh (aa xV (aa yq (aa yJ (aa xS (aa A1 (aa yn (aa yp (aa yH (aa xY (aa x8 tO)))))))))))))))))))))))))))))))))))))))))))))))))))))))))))))))))))))))))))))))))))))))))))))))))))))))
def eI (n:Int):AV:=.int .i64 n
def eV (a b:Int):AV:=.sl 1 [eI a,eI b]
def eC (a b:Int) (o:List AV):AV:=.agg [eV a b,.sl 1 o,.esl]
def eT (o:Int) (l:List AV):AV:=.agg [eI 2,eI 2,eI o,.sl 3 l]
def e4:List AV:=[eV 0 0,eV 0 1,eV 1 0,eV 1 1]
def e2:List AV:=[eV 0 0,eV 1 1]
def eP:List AV:=[eV 0 0,eV 1 1,eV 2 2,eV 3 3]
def tA:AV:=eT 2 [eC 0 0 [eV 0 0],eC 0 1 e2,eC 1 0 e2,eC 1 1 [eV 1 1]]
def tB:AV:=eT 2 [eC 0 0 e4,eC 0 1 e4,eC 1 0 e4,eC 1 1 e4]
def tP:AV:=eT 4 [eC 0 0 [eV 0 0],eC 0 1 eP,eC 1 0 eP,eC 1 1 [eV 3 3]]
def pfE:FuncId→Bool:=yF [39,13,16,18,21,25,23,33,87,77]
theorem isV {v:AV} (r:AV) (h:eqA 60 r v=true):r=v:=sC _ _ _ h
set_option maxRecDepth 100000 in
theorem q1:Go.Abs.Pure Tryz.prog 39 [] (.tup [tA,tB]):=Pure.of_runC follows lu (iC fK) (pf:=pfE) (n:=2000) (by decide +kernel) isV
set_option maxRecDepth 100000 in
theorem q2:Go.Abs.Pure Tryz.prog 13 [tA,tB] (.tup [.esl,eI 0,.esl,.bool true,eI 0]):=Pure.of_runC follows lu (iC fK) (pf:=pfE) (n:=2000) (by decide +kernel) isV
set_option maxRecDepth 100000 in
theorem q3:Go.Abs.Pure Tryz.prog 13 [tB,tA] (.tup [eV 0 0,eI 0,eV 0 1,.bool false,eI 0]):=Pure.of_runC follows lu (iC fK) (pf:=pfE) (n:=2000) (by decide +kernel) isV
set_option maxRecDepth 100000 in
theorem q4:Go.Abs.Pure Tryz.prog 16 [tA,tB] (.tup [tA,eI 0]):=Pure.of_runC follows lu (iC fK) (pf:=pfE) (n:=2000) (by decide +kernel) isV
set_option maxRecDepth 100000 in
theorem q5:Go.Abs.Pure Tryz.prog 18 [tA,tB] (.tup [tB,eI 0]):=Pure.of_runC follows lu (iC fK) (pf:=pfE) (n:=2000) (by decide +kernel) isV
set_option maxRecDepth 100000 in
theorem q6:Go.Abs.Pure Tryz.prog 21 [tA,tA] (.tup [tP,eI 0]):=Pure.of_runC follows lu (iC fK) (pf:=pfE) (n:=2000) (by decide +kernel) isV
set_option maxRecDepth 100000 in
theorem q7:Go.Abs.Pure Tryz.prog 25 [tA] (.tup [.sl 1 [eV 0 1,eV 1 0],eI 0]):=Pure.of_runC follows lu (iC fK) (pf:=pfE) (n:=2000) (by decide +kernel) isV
set_option maxRecDepth 100000 in
theorem wK:Go.Abs.Pure Tryz.prog 12 [] (.bool true):=Pure.of_runC follows lu (iC (fh q1 (fh q2 (fh q3 (fh q4 (fh q5 (fh q6 (fh q7 fK)))))))) (pf:=pfE) (n:=2000) (good:=isTrue) (by decide +kernel) ug
end Go.Proofs.YtjgpfclngkcedaaGreat
namespace Go.Proofs.YtjgpfclngkcedaaGreat
open Go Go.Abs
open Nat (reduceEqDiff reduceAdd reduceLeDiff)
attribute [local irreducible] aA ag aU aO aE aH ay aJ aQ aZ Go.Abs.Fn aL Go.Abs.Pure ak aB Yl
end Go.Proofs.YtjgpfclngkcedaaGreat
namespace Go.Proofs.YtjgpfclngkcedaaGreat
open Go Go.Abs
def jd (l:List TaskV):AV:=.sl 4 (l.map bo)
theorem ra {l:List TaskV}:co (jd l)=some (.int .i64 l.length):=by simp [co,jd]
theorem nA {l:List TaskV} {k:Nat} (h:k < l.length):fj 4 (jd l) (.int .i64 k)=some (.iptr [.int .i64 (l.getD k default).n,.int .i64 (l.getD k default).ins,.int .i64 (l.getD k default).outs,aR (l.getD k default).cases] 0):=by
 simp [fj,jd,h,List.getD,bo,AV.cells]
theorem ka {H:Hp} {b:Nat} {a c:TaskV} (hb:H b=some [.int .i64 a.n,.int .i64 a.ins,.int .i64 a.outs,aR a.cases,.int .i64 c.n,.int .i64 c.ins,.int .i64 c.outs,aR c.cases]):Snap H (.msl b 8 4 0 2) (jd [a,c]):=by
 have hr:Row H 4 (.msl b (2 * 4) 4 0 2) ([bo a,bo c].flatMap AV.cells):=Row.box b 2 _ (by simpa [bo,AV.cells] using hb) rfl
 refine Row.snap (elems:=[bo a,bo c]) hr (fun y hy=>?_) (by omega) (fun y hy d hd=>?_)
 ·simp at hy; rcases hy with rfl | rfl <;> rfl
 ·simp only [List.mem_cons,List.not_mem_nil,or_false] at hy
  rcases hy with rfl | rfl <;>
  ·simp only [bo,AV.cells,List.mem_cons,List.not_mem_nil,or_false] at hd
   rcases hd with rfl | rfl | rfl | rfl
   ·exact .int
   ·exact .int
   ·exact .int
   ·exact e9 _
def Ok (t:TaskV):Prop:=Sh t.cases∧∀ c ∈ t.cases,ShC c
attribute [local irreducible] aA ag aU aO aE aH ay aJ aQ aZ Go.Abs.Fn aL Go.Abs.Pure ak aB Yl
end Go.Proofs.YtjgpfclngkcedaaGreat
namespace Go.Proofs.YtjgpfclngkcedaaGreat
open Go Go.Abs
def jh (z t:TaskV):Bool:=oo t && decide (aM t=0) && decide (t.n=z.n)
def mX (l:List TaskV):Bool:=l.all (jh (l.getD 0 default))
attribute [local irreducible] aA ag aU aO aE aH ay aJ aQ aZ Go.Abs.Fn aL Go.Abs.Pure ak aB Yl
theorem uO (l:List TaskV) (hl:l.length ≤ 100) (hs:∀ t ∈ l,Ok t):Pure Tryz.prog 28 [jd l] (.bool (mX l)):=by
 refine Pure.of_c2 follows Cg (Nat.le_of_ble_eq_true rfl) ?_
 simp only [b28,cO,cG,cN,cM,cD,cF,cB,av,aF]
 have one:(jd l).one=true:=rfl
 (have zz:=@ra; repeat' (first | refine zW ?_ | apply a_n | refine zO ?_ | refine vY ?_ | fail)) <;> (try clear zz)
 refine be (X:=Nat) (fun k=>[(0,jd l),(5,jd l),(6,.int .i64 l.length),(7,.int .i64 k)]) (fun k H nx=>k ≤ l.length∧∀ i,i < k→jh (l.getD 0 default) (l.getD i default)=true) (fun k=>l.length - k) 0 ⟨Nat.zero_le _,fun i h=>absurd h (by omega)⟩ ag0 ?_
 rintro k H nx ⟨hk,hz⟩
 by_cases hk2:k < l.length
 rotate_left
 ·(have zz:=and_self; repeat' (first | refine zW ?_ | apply a_n | apply a_x | refine zO ?_ | refine vY ?_ | (refine zGY ?_ ?_ <;> (intro _hg; try (exfalso; omega))) | refine ae rfl ?_ | refine r1Y ?_ | fail)) <;> (try clear zz)
  rw [mX,ng fun i hi=>hz i (by omega)]
  exact .bool _
 have ix:=nA hk2
 have i0:fj 4 (jd l) (.int .i64 0)=_:=nA (k:=0) (by omega)
 obtain ⟨s1,s2⟩:=hs _ (ai hk2)
 have hf:=B9 (l.getD k default) s2 s1
 have hc:=rT (l.getD k default) s2 s1
 have hbad:jh (l.getD 0 default) (l.getD k default)=false→mX l=false:=fun h=>iZ hk2 h
 have hnext:jh (l.getD 0 default) (l.getD k default)=true→∀ i,i < k + 1→jh (l.getD 0 default) (l.getD i default)=true:=fun h i hi=>by
  rcases Nat.lt_succ_iff_lt_or_eq.1 hi with h' | rfl
  ·exact hz i h'
  ·exact h
 have d1:=bJ (l.getD k default)
 generalize l.getD k default=t at *
 generalize l.getD 0 default=z at *
 unfold bo at hf d1 hc
 cases hb:oo t
 ·rw [hb] at hf
  rw [hbad (by simp [jh,hb])]
  (have zz:=aI @ix (aI @aj @ab); repeat' (first | refine zW ?_ | refine zM ?_ | apply a_n | apply a_r | refine zO ?_ | refine vY ?_ | refine cY ?_ (hp:=hf) | refine alY ?_ | refine stY ?_ | refine gFY ?_ | refine cTY ?_ | (refine zGY ?_ ?_ <;> (intro _hg; try (exfalso; omega))) | refine ae rfl ?_ | refine r1Y ?_ | fail)) <;> (try clear zz)
  exact .bool _
 rw [hb] at hf
 by_cases h0:aM t=0
 rotate_left
 ·have hne:decide (aM t ≠ 0)=true:=decide_eq_true h0
  rw [hbad (by simp [jh,h0])]
  (have zz:=aI @ix (aI @aj (aI @ab @hne)); repeat' (first | refine zW ?_ | refine zM ?_ | apply a_n | apply a_r | refine zO ?_ | refine vY ?_ | refine cY ?_ (hp:=by first | exact hf | exact hc) | refine alY ?_ | refine stY ?_ | refine gTY ?_ | refine gFY ?_ | refine cTY ?_ | (refine zGY ?_ ?_ <;> (intro _hg; try (exfalso; omega))) | refine ae rfl ?_ | refine r1Y ?_ | fail)) <;> (try clear zz)
  exact .bool _
 rw [h0] at hc
 have z0:decide ((0:Int) ≠ 0)=false:=rfl
 by_cases h1:t.n=z.n
 rotate_left
 ·have hne:decide (t.n ≠ z.n)=true:=decide_eq_true h1
  rw [hbad (by simp [jh,h1])]
  (have zz:=aI @ix (aI @i0 (aI @aj (aI @ab (aI @hne @z0)))); repeat' (first | refine zW ?_ | refine zM ?_ | apply a_n | apply a_r | refine zO ?_ | refine vY ?_ | refine cY ?_ (hp:=by first | exact hf | exact hc) | refine alY ?_ | refine stY ?_ | refine gTY ?_ | refine cTY ?_ | (refine zGY ?_ ?_ <;> (intro _hg; try (exfalso; omega))) | refine ae rfl ?_ | refine r1Y ?_ | fail)) <;> (try clear zz)
  exact .bool _
 have hne:decide (t.n ≠ z.n)=false:=decide_eq_false (fun h=>h h1)
 (have zz:=aI @ix (aI @i0 (aI @aj (aI @ab (aI @hne @z0)))); repeat' (first | refine zW ?_ | refine zM ?_ | apply a_n | refine zO ?_ | refine vY ?_ | refine cY ?_ (hp:=by first | exact hf | exact hc) | refine alY ?_ | refine stY ?_ | refine gTY ?_ | refine cFY ?_ | (refine zGY ?_ ?_ <;> (intro _hg; try (exfalso; omega))) | fail)) <;> (try clear zz)
 exact ⟨k + 1,by omega,⟨by omega,hnext (by simp [jh,hb,h0,h1])⟩,ag0⟩
end Go.Proofs.YtjgpfclngkcedaaGreat
namespace Go.Proofs.YtjgpfclngkcedaaGreat
open Go Go.Abs
def Stg (a b:TaskV):Prop:=∀ c ∈ b.cases,∃ x,b0 a c.inp=some x∧∀ f:Nat,f < 2 ^ a.n.toNat→∀ v ∈ ar x f,jO c f v=true
theorem z9 {a b:TaskV} (h:Stg a b):oS a b=none:=by
 refine List.findSome?_eq_none_iff.2 fun c hc=>?_
 obtain ⟨x,hx,hv⟩:=h c hc
 unfold jQ
 rw [hx]
 refine List.findSome?_eq_none_iff.2 fun f hf=>?_
 rw [Option.map_eq_none_iff,List.find?_eq_none]
 intro v hm
 rw [hv f (List.mem_range.1 hf) v hm]
 exact Bool.false_ne_true
theorem jA {v w:List Int} {f:Int}:b5 v w f=true ↔ ∀ p,p < v.length→rz (qQ f p)=0→w.getD p default=v.getD p default:=by
 unfold b5
 rw [List.all_eq_true]
 refine ⟨fun h p hp h0=>?_,fun h p hp=>?_⟩
 ·have:=h p (List.mem_range.2 hp)
  by_cases e:w.getD p default=v.getD p default
  ·exact e
  ·rw [decide_eq_true h0,decide_eq_true e] at this; cases this
 ·have:=h p (List.mem_range.1 hp)
  by_cases h0:rz (qQ f p)=0
  ·rw [decide_eq_true h0,decide_eq_false (fun k=>k (this h0))]; rfl
  ·rw [decide_eq_false h0]; rfl
theorem mz {c:CaseV} {f:Int} {v:List Int}:jO c f v=true ↔ ∃ w ∈ ar c f,b5 w v f=true:=by
 unfold jO; rw [List.any_eq_true]
end Go.Proofs.YtjgpfclngkcedaaGreat
namespace Go.Proofs.YtjgpfclngkcedaaGreat
open Go Go.Abs
theorem kA {c:CaseV} {f:Int} (h:f ≠ 0):ar c f=c.out:=by unfold ar; rw [if_neg (fun k=>h k.1)]
theorem kQ {c:CaseV} {f:Int} (h:1 ≤ c.out.length):1 ≤ (ar c f).length:=by
 unfold ar
 split
 ·rename_i k; exact k.2
 ·exact h
theorem li {i:List Int} {X Y:List (List Int)} {f:Int} (hY:0 < Y.length):ar (bV i X Y) f=if f=0 then Y else X:=by
 unfold ar bV
 dsimp only
 by_cases h0:f=0
 ·by_cases h:X=Y
  ·rw [if_pos h,if_neg (by simp),if_pos h0,h]
  ·rw [if_neg h,if_pos ⟨h0,hY⟩,if_pos h0]
 ·rw [if_neg (fun h=>h0 h.1),if_neg h0]
theorem nY {F:List (List Int)→List (List Int)→List (List Int)} {c d:CaseV} {i:List Int} {f:Int} (hF:0 < (F (ar c 0) (ar d 0)).length):ar (bV i (F c.out d.out) (F (ar c 0) (ar d 0))) f=F (ar c f) (ar d f):=by
 rw [li hF]
 by_cases h:f=0
 ·rw [if_pos h,h]
 ·rw [if_neg h,kA h,kA h]
theorem fG {n o:Int} {i:List Int} {X Y:List (List Int)} (h1:1 ≤ X.length∧X.length ≤ 1024) (h2:∀ v ∈ X,aW v n o=0) (h3:ec X) (h4:∀ v ∈ Y,v ∈ X) (h5:ec Y):bk n o (bV i X Y)=0:=by
 refine rc h1 h2 (oY h3) (fun v hv=>?_) ?_
 ·change v ∈ (if X=Y then [] else Y) at hv
  split at hv
  ·exact absurd hv (by simp)
  ·exact h4 v hv
 ·show ∀ i,i < (if X=Y then [] else Y).length→bA (if X=Y then [] else Y) i=false
  split
  ·intro i hi; exact absurd hi (by simp)
  ·exact oY h5
theorem eE {t:TaskV} (h:aM t=0):(1 ≤ t.n∧t.n ≤ 5∧1 ≤ t.ins∧t.ins ≤ 8∧1 ≤ t.outs∧t.outs ≤ 8)∧1 ≤ t.cases.length∧t.cases.length ≤ 1024:=by
 obtain ⟨c1,c2,c3⟩:=fM h
 exact ⟨by omega,by omega⟩
theorem qN {t:TaskV} (hp:1 ≤ t.n∧t.n ≤ 5∧1 ≤ t.ins∧t.ins ≤ 8∧1 ≤ t.outs∧t.outs ≤ 8) (hl:1 ≤ t.cases.length∧t.cases.length ≤ 1024) (hs:bC KC t.cases) (hi:t.cases.Pairwise fun c d=>c.inp ≠ d.inp) (hv:∀ c ∈ t.cases,aW c.inp t.n t.ins=0∧bk t.n t.outs c=0):aM t=0:=by
 unfold aM
 rw [if_neg (by omega),if_neg (by omega)]
 have hinps:∀ k,k < (t.cases.map CaseV.inp).length→bA (t.cases.map CaseV.inp) k=false:=by
  refine jZ ?_ ?_
  ·unfold bC; rw [List.pairwise_map]; exact hs
  ·rw [List.nodup_iff_pairwise_ne,List.pairwise_map]; exact hi
 refine bM fun k hk=>?_
 have hm:=ai hk
 unfold dX
 rw [hinps k (by rw [List.length_map]; exact hk),(hv _ hm).1,if_neg (by simp),if_neg (by simp),(hv _ hm).2]
theorem kr {t:TaskV} (h:aM t=0):t.cases.Pairwise fun c d=>c.inp ≠ d.inp:=by
 rw [List.pairwise_iff_getElem]
 intro i j hi hj hij e
 have:=gy h j i hij hj
 rw [show t.cases.getD i default=t.cases[i] by simp [List.getD,hi],show t.cases.getD j default=t.cases[j] by simp [List.getD,hj],e,cH] at this
 omega
theorem ql {l:List CaseV} (h:l.Pairwise fun c d=>c.inp ≠ d.inp):l.Nodup:=List.nodup_iff_pairwise_ne.2 (List.Pairwise.imp (fun {a b} h e=>h (by rw [e])) h)
theorem pP {a b:TaskV} (ha:aM a=0) (hb:aM b=0) (h1:a.n=b.n) (h2:a.ins=b.ins) (h3:a.outs=b.outs) (h:∀ c,c ∈ a.cases ↔ c ∈ b.cases):a=b :=
 ww.2 ⟨h1,h2,h3,List.Perm.eq_of_pairwise (fun x y hx hy k1 k2=>fo ha hx ((h y).2 hy) (qc k2 k1)) (gD ha) (gD hb) ((List.perm_ext_iff_of_nodup (ql (kr ha)) (ql (kr hb))).2 h)⟩
theorem cX {F:List (List Int)→List (List Int)→List (List Int)} {a b:TaskV} (hb:aM b=0) {x:CaseV}:x ∈ bx F b a.cases ↔ ∃ c ∈ a.cases,∃ d ∈ b.cases,c.inp=d.inp∧x=bV c.inp (F c.out d.out) (F (ar c 0) (ar d 0)):=by
 constructor
 ·intro h
  obtain ⟨c,hc,d,hd,e⟩:=ew h
  exact ⟨c,hc,d,(bW hd).1,(bW hd).2.symm,e⟩
 ·rintro ⟨c,hc,d,hd,e,rfl⟩
  refine List.mem_filterMap.2 ⟨c,hc,(gP ?_).1⟩
  rw [e]; exact ez hb hd
theorem gb {a b:TaskV} (hb:aM b=0) {x:CaseV}:x ∈ bG b a.cases ↔ ∃ c ∈ a.cases,(∀ d ∈ b.cases,d.inp ≠ c.inp)∧x=bV c.inp c.out (ar c 0):=by
 constructor
 ·intro h
  obtain ⟨c,hc,hd,e⟩:=dj h
  exact ⟨c,hc,gJ hd,e⟩
 ·rintro ⟨c,hc,hd,rfl⟩
  refine List.mem_filterMap.2 ⟨c,hc,?_⟩
  unfold fq
  cases hf:b0 b c.inp with
  | none=>rfl
  | some d=>exact absurd (bW hf).2 (hd d (bW hf).1)
theorem iX {F:List (List Int)→List (List Int)→List (List Int)} {b:TaskV} {c x:CaseV} (h:jo F b c=some x):x.inp=c.inp:=by
 unfold jo at h
 rw [Option.map_eq_some_iff] at h
 obtain ⟨d,hd,rfl⟩:=h
 rfl
theorem mr {b:TaskV} {c x:CaseV} (h:fq b c=some x):x.inp=c.inp:=by
 unfold fq at h
 split at h
 ·cases h; rfl
 ·cases h
theorem rG {F:List (List Int)→List (List Int)→List (List Int)} {a b:TaskV} (ha:aM a=0):(bx F b a.cases).Pairwise fun c d=>c.inp ≠ d.inp:=by
 unfold bx
 rw [List.pairwise_filterMap]
 exact (kr ha).imp fun {c d} h x hx y hy=>by rw [iX hx,iX hy]; exact h
theorem oT {a b:TaskV} (ha:aM a=0):(bG b a.cases).Pairwise fun c d=>c.inp ≠ d.inp:=by
 unfold bG
 rw [List.pairwise_filterMap]
 exact (kr ha).imp fun {c d} h x hx y hy=>by rw [mr hx,mr hy]; exact h
theorem pN {F:List (List Int)→List (List Int)→List (List Int)} {a b:TaskV} (ha:aM a=0):bC KC (bx F b a.cases):=by
 unfold bx bC
 rw [List.pairwise_filterMap]
 exact (gD ha).imp fun {c d} h x hx y hy=>by unfold KC at h ⊢; rw [iX hx,iX hy]; exact h
theorem wu {a b:TaskV} (ha:aM a=0) (hb:aM b=0):(ci a b).Pairwise fun c d=>c.inp ≠ d.inp:=by
 unfold ci
 rw [List.pairwise_append,List.pairwise_append]
 refine ⟨⟨rG ha,oT ha,fun x hx y hy e=>?_⟩,oT hb,fun x hx y hy e=>?_⟩
 ·obtain ⟨c,hc,d,hd,h,rfl⟩:=(cX hb).1 hx
  obtain ⟨c',hc',hn,rfl⟩:=(gb hb).1 hy
  exact hn d hd (by rw [← h]; exact e)
 ·obtain ⟨c',hc',hn,rfl⟩:=(gb ha).1 hy
  rcases List.mem_append.1 hx with h | h
  ·obtain ⟨c,hc,d,hd,_,rfl⟩:=(cX hb).1 h
   exact hn c hc e
  ·obtain ⟨c,hc,_,rfl⟩:=(gb hb).1 h
   exact hn c hc e
theorem lO {x y:List (List Int)}:bw x y=bw y x:=vP fun v=>by rw [List.mem_append,List.mem_append,or_comm]
theorem jI {x y:List (List Int)}:ec (bw x y):=ko _
theorem nC {x y:List (List Int)} (h:1 ≤ x.length):1 ≤ (bw x y).length:=by
 cases hx:bw x y with
 | nil =>
  have:=vS.1 hx
  rw [List.append_eq_nil_iff] at this
  rw [this.1] at h; exact absurd h (by simp)
 | cons a l=>simp
theorem cz {v:List Int} {n m m':Int} (h:aW v n m=0) (hm:m ≤ m'):aW v n m'=0:=by
 obtain ⟨h1,h2⟩:=iW h
 exact mC h1 fun x hx=>by have:=h2 x hx; omega
def jT (a b:TaskV):TaskV:=⟨a.n,max a.ins b.ins,max a.outs b.outs,gU KC (ci a b)⟩
section
variable {a b:TaskV} (ha:aM a=0) (hb:aM b=0) (hn:b.n=a.n) (fa:Fit30 a) (fb:Fit30 b)
theorem my {x:CaseV}:x ∈ (jT a b).cases ↔ x ∈ ci a b:=(dP _).mem_iff
include ha hb
theorem dR {x:CaseV}:x ∈ ci a b ↔ (∃ c ∈ a.cases,∃ d ∈ b.cases,c.inp=d.inp∧x=bV c.inp (bw c.out d.out) (bw (ar c 0) (ar d 0))) ∨ (∃ c ∈ a.cases,(∀ d ∈ b.cases,d.inp ≠ c.inp)∧x=bV c.inp c.out (ar c 0)) ∨ ∃ c ∈ b.cases,(∀ d ∈ a.cases,d.inp ≠ c.inp)∧x=bV c.inp c.out (ar c 0):=by
 unfold ci
 rw [List.mem_append,List.mem_append,cX hb,gb hb,gb ha,or_assoc]
theorem mP {x:CaseV} (h:x ∈ ci a b):x ∈ ci b a:=by
 rw [dR hb ha]
 rcases (dR ha hb).1 h with ⟨c,hc,d,hd,e,rfl⟩ | h | h
 ·refine .inl ⟨d,hd,c,hc,e.symm,?_⟩
  rw [e,lO,lO (x:=ar c 0)]
 ·exact .inr (.inr h)
 ·exact .inr (.inl h)
include hn fa fb
theorem nq:ja a b=(jT a b,0):=by
 have hp:bF a b=0:=by simp [bF,ha,hb,hn]
 have hl:=iS (a:=a) (b:=b)
 have h1:=fa.len
 have h2:=fb.len
 have hm:a.cases.any (eG bw b)=false:=by
  rw [List.any_eq_false]
  intro c hc
  unfold eG
  cases hf:b0 b c.inp with
  | none=>exact Bool.false_ne_true
  | some d =>
   have hd:=(bW hf).1
   have h1:=fa.q c hc
   have h2:=fb.q d hd
   have h3:=dN (x:=c.out) (y:=d.out)
   have h4:=dN (x:=ar c 0) (y:=ar d 0)
   have h5:=gL (f:=0) h1
   have h6:=gL (f:=0) h2
   dsimp only
   rw [decide_eq_false (by omega),decide_eq_false (by omega)]
   decide
 unfold ja
 rw [if_neg (fun k=>k hp),hm,if_neg (by simp; omega)]
 rfl
theorem iv:aM (jT a b)=0:=by
 obtain ⟨pa,la⟩:=eE ha
 obtain ⟨pb,lb⟩:=eE hb
 have hl:=iS (a:=a) (b:=b)
 have h1:=fa.len
 have h2:=fb.len
 have hlen:(jT a b).cases.length=(ci a b).length:=oM _
 refine qN ?_ ?_ (gw Aj _) ?_ fun x hx=>?_
 ·show 1 ≤ a.n∧a.n ≤ 5∧1 ≤ max a.ins b.ins∧max a.ins b.ins ≤ 8∧1 ≤ max a.outs b.outs∧max a.outs b.outs ≤ 8
  omega
 ·rw [hlen]
  refine ⟨?_,by omega⟩
  have hc:a.cases.getD 0 default ∈ a.cases:=ai (by omega)
  generalize a.cases.getD 0 default=c at hc
  have:∃ x,x ∈ ci a b:=by
   by_cases h:∀ d ∈ b.cases,d.inp ≠ c.inp
   ·exact ⟨_,(dR ha hb).2 (.inr (.inl ⟨c,hc,h,rfl⟩))⟩
   ·have ⟨d,hd⟩:=Classical.not_forall.1 h
    have ⟨hd1,hd2⟩:=Classical.not_imp.1 hd
    exact ⟨_,(dR ha hb).2 (.inl ⟨c,hc,d,hd1,(Decidable.of_not_not hd2).symm,rfl⟩)⟩
  obtain ⟨x,hx⟩:=this
  exact List.length_pos_of_mem hx
 ·have hp:(jT a b).cases.Perm (ci a b):=dP _
  exact (List.Perm.pairwise_iff (fun {x y} h e=>h e.symm) hp).2 (wu ha hb)
 ·have hi:a.ins ≤ max a.ins b.ins∧b.ins ≤ max a.ins b.ins:=by omega
  have ho:a.outs ≤ max a.outs b.outs∧b.outs ≤ max a.outs b.outs:=by omega
  show aW x.inp a.n (max a.ins b.ins)=0∧bk a.n (max a.outs b.outs) x=0
  rcases (dR ha hb).1 (my.1 hx) with ⟨c,hc,d,hd,e,rfl⟩ | ⟨c,hc,_,rfl⟩ | ⟨c,hc,_,rfl⟩
  ·obtain ⟨v1,w1⟩:=b9 ha hc
   obtain ⟨v2,w2⟩:=b9 hb hd
   obtain ⟨p1,p2,p3,p4,p5⟩:=bv w1
   obtain ⟨q1,q2,q3,q4,q5⟩:=bv w2
   have a1:=cJ ha hc
   have a2:=cJ hb hd
   have h3:=dN (x:=c.out) (y:=d.out)
   have k1:=fa.q c hc
   have k2:=fb.q d hd
   refine ⟨cz v1 hi.1,fG ⟨nC p1.1,by omega⟩ (fun v hv=>?_) jI (fun v hv=>?_) jI⟩
   ·rcases cC.1 hv with h | h
    ·exact cz (p2 v h) ho.1
    ·exact cz (hn ▸ q2 v h) ho.2
   ·exact cC.2 ((cC.1 hv).imp (a1.2.2.2 0 v) (a2.2.2.2 0 v))
  ·obtain ⟨v1,w1⟩:=b9 ha hc
   obtain ⟨p1,p2,p3,p4,p5⟩:=bv w1
   have a1:=cJ ha hc
   exact ⟨cz v1 hi.1,fG p1 (fun v hv=>cz (p2 v hv) ho.1) a1.1 (a1.2.2.2 0) (a1.2.2.1 0)⟩
  ·obtain ⟨v1,w1⟩:=b9 hb hc
   obtain ⟨p1,p2,p3,p4,p5⟩:=bv w1
   have a1:=cJ hb hc
   exact ⟨cz (hn ▸ v1) hi.2,fG p1 (fun v hv=>cz (hn ▸ p2 v hv) ho.2) a1.1 (a1.2.2.2 0) (a1.2.2.1 0)⟩
theorem tx:jT a b=jT b a :=
 pP (iv ha hb hn fa fb) (iv hb ha hn.symm fb fa) hn.symm (show max a.ins b.ins=max b.ins a.ins by omega) (show max a.outs b.outs=max b.outs a.outs by omega) fun x=>by
  rw [my,my]
  exact ⟨mP ha hb,mP hb ha⟩
omit hn fa fb in
theorem rK (hsame:∀ d ∈ b.cases,∃ c ∈ a.cases,c.inp=d.inp):Stg a (jT a b):=by
 intro x hx
 rcases (dR ha hb).1 (my.1 hx) with ⟨c,hc,d,hd,e,rfl⟩ | ⟨c,hc,_,rfl⟩ | ⟨d,hd,hno,rfl⟩
 ·refine ⟨c,ez ha hc,fun f _ v hv=>mz.2 ⟨v,?_,jA.2 fun _ _ _=>rfl⟩⟩
  have h1:1 ≤ (ar c 0).length:=kQ (bv (b9 ha hc).2).1.1
  rw [nY (F:=bw) (nC h1)]
  exact cC.2 (.inl hv)
 ·refine ⟨c,ez ha hc,fun f _ v hv=>mz.2 ⟨v,?_,jA.2 fun _ _ _=>rfl⟩⟩
  have h1:1 ≤ (ar c 0).length:=kQ (bv (b9 ha hc).2).1.1
  rw [li h1]
  split
  ·rename_i h; rw [h] at hv; exact hv
  ·rename_i h; rw [kA h] at hv; exact hv
 ·obtain ⟨c,hc,e⟩:=hsame d hd
  exact absurd e (hno c hc)
end
theorem ft {x y:List (List Int)} (hx:ec x) (hy:ec y):ba x y=ba y x :=
 j7 (hx.filter _) (hy.filter _) fun v=>by rw [b8,b8,and_comm]
theorem mS {x y:List (List Int)} (hx:ec x):ec (ba x y):=hx.filter _
def mT (a b:TaskV):TaskV:=⟨a.n,min a.ins b.ins,min a.outs b.outs,bx ba b a.cases⟩
def jq (a b:TaskV):Prop:=(∃ c ∈ a.cases,∃ d ∈ b.cases,c.inp=d.inp)∧∀ c ∈ a.cases,∀ d ∈ b.cases,c.inp=d.inp→0 < (ba c.out d.out).length∧0 < (ba (ar c 0) (ar d 0)).length
section
variable {a b:TaskV} (ha:aM a=0) (hb:aM b=0) (hn:b.n=a.n)
include ha hb
theorem gq (h:jq a b):jq b a:=by
 obtain ⟨⟨c,hc,d,hd,e⟩,h2⟩:=h
 refine ⟨⟨d,hd,c,hc,e.symm⟩,fun d hd c hc e=>?_⟩
 have a1:=cJ ha hc
 have a2:=cJ hb hd
 rw [ft a2.1 a1.1,ft (a2.2.2.1 0) (a1.2.2.1 0)]
 exact h2 c hc d hd e.symm
omit ha in
theorem lh:jq a b ↔ ¬ ((bx ba b a.cases).length=0 ∨ a.cases.all (ed ba b)=false):=by
 constructor
 ·rintro ⟨⟨c,hc,d,hd,e⟩,h2⟩ h
  rcases h with h | h
  ·have:bV c.inp (ba c.out d.out) (ba (ar c 0) (ar d 0)) ∈ bx ba b a.cases:=(cX hb).2 ⟨c,hc,d,hd,e,rfl⟩
   have:=List.length_pos_of_mem this
   omega
  ·refine absurd (List.all_eq_true.2 fun c hc=>?_) (by rw [h]; exact Bool.false_ne_true)
   cases hf:b0 b c.inp with
   | none=>exact (nS hf).2.1
   | some d =>
    obtain ⟨k1,k2⟩:=h2 c hc d (bW hf).1 (bW hf).2.symm
    rw [(gP hf).2.1,decide_eq_true k1,decide_eq_true k2]; rfl
 ·intro h
  have h1:(bx ba b a.cases).length ≠ 0:=fun k=>h (.inl k)
  have h2:a.cases.all (ed ba b)=true:=by
   cases hk:a.cases.all (ed ba b)
   ·exact absurd (.inr hk) h
   ·rfl
  constructor
  ·have hx:(bx ba b a.cases).getD 0 default ∈ bx ba b a.cases:=ai (by omega)
   obtain ⟨c,hc,d,hd,e,_⟩:=(cX hb).1 hx
   exact ⟨c,hc,d,hd,e⟩
  ·intro c hc d hd e
   have:=List.all_eq_true.1 h2 c hc
   rw [(gP (F:=ba) (show b0 b c.inp=some d by rw [e]; exact ez hb hd)).2.1,Bool.and_eq_true,decide_eq_true_iff,decide_eq_true_iff] at this
   exact this
include hn
theorem jD (h:jq a b):dC a b=(mT a b,0):=by
 have hp:bF a b=0:=by simp [bF,ha,hb,hn]
 unfold dC
 rw [if_neg (fun k=>k hp),if_neg ((lh hb).1 h)]
 rfl
theorem oF (h:¬ jq a b):dC a b=(T00,16):=by
 have hp:bF a b=0:=by simp [bF,ha,hb,hn]
 unfold dC
 rw [if_neg (fun k=>k hp),if_pos (Decidable.of_not_not fun k=>h ((lh hb).2 k))]
omit hn in
theorem ib (hg:jq a b):aM (mT a b)=0:=by
 obtain ⟨pa,la⟩:=eE ha
 obtain ⟨pb,lb⟩:=eE hb
 have hl:=fc (F:=ba) (b:=b) (l:=a.cases)
 refine qN ?_ ?_ (pN ha) (rG ha) fun x hx=>?_
 ·show 1 ≤ a.n∧a.n ≤ 5∧1 ≤ min a.ins b.ins∧min a.ins b.ins ≤ 8∧1 ≤ min a.outs b.outs∧min a.outs b.outs ≤ 8
  omega
 ·show 1 ≤ (bx ba b a.cases).length∧(bx ba b a.cases).length ≤ 1024
  have:=(lh hb).1 hg
  have h1:(bx ba b a.cases).length ≠ 0:=fun k=>this (.inl k)
  omega
 ·obtain ⟨c,hc,d,hd,e,rfl⟩:=(cX hb).1 hx
  obtain ⟨k1,k2⟩:=hg.2 c hc d hd e
  obtain ⟨v1,w1⟩:=b9 ha hc
  obtain ⟨v2,w2⟩:=b9 hb hd
  obtain ⟨p1,p2,p3,p4,p5⟩:=bv w1
  obtain ⟨q1,q2,q3,q4,q5⟩:=bv w2
  have a1:=cJ ha hc
  have a2:=cJ hb hd
  have mn:∀ {x y z:Int},x=y ∨ x=z→(∃ v:Int,v=min y z)→True:=fun _ _=>trivial
  have both:∀ {v:List Int} {m m':Int},aW v a.n m=0→aW v b.n m'=0→aW v a.n (min m m')=0:=fun {v m m'} h1 h2=>by
   obtain ⟨g1,g2⟩:=iW h1
   obtain ⟨g3,g4⟩:=iW h2
   exact mC g1 fun x hx=>by have:=g2 x hx; have:=g4 x hx; omega
  show aW c.inp a.n (min a.ins b.ins)=0∧bk a.n (min a.outs b.outs) _=0
  refine ⟨both v1 (e ▸ v2),fG ⟨by omega,Nat.le_trans fl p1.2⟩ (fun v hv=>?_) (mS a1.1) (fun v hv=>?_) (mS (a1.2.2.1 0))⟩
  ·obtain ⟨m1,m2⟩:=b8.1 hv
   exact both (p2 v m1) (q2 v m2)
  ·obtain ⟨m1,m2⟩:=b8.1 hv
   exact b8.2 ⟨a1.2.2.2 0 v m1,a2.2.2.2 0 v m2⟩
theorem sU (hg:jq a b):mT a b=mT b a:=by
 have key:∀ {a b:TaskV},aM a=0→aM b=0→∀ x,x ∈ bx ba b a.cases→x ∈ bx ba a b.cases:=fun {a b} ha hb x h=>by
  obtain ⟨c,hc,d,hd,e,rfl⟩:=(cX hb).1 h
  have a1:=cJ ha hc
  have a2:=cJ hb hd
  refine (cX ha).2 ⟨d,hd,c,hc,e.symm,?_⟩
  rw [e,ft a1.1 a2.1,ft (a1.2.2.1 0) (a2.2.2.1 0)]
 exact pP (ib ha hb hg) (ib hb ha (gq ha hb hg)) hn.symm (show min a.ins b.ins=min b.ins a.ins by omega) (show min a.outs b.outs=min b.outs a.outs by omega) fun x=>⟨key ha hb x,key hb ha x⟩
theorem sy (hg:jq a b) (hsame:∀ c ∈ a.cases,∃ d ∈ b.cases,c.inp=d.inp):Stg (mT a b) a:=by
 have _:=hn
 intro c hc
 obtain ⟨d,hd,e⟩:=hsame c hc
 have hm:bV c.inp (ba c.out d.out) (ba (ar c 0) (ar d 0)) ∈ (mT a b).cases:=(cX hb).2 ⟨c,hc,d,hd,e,rfl⟩
 refine ⟨bV c.inp (ba c.out d.out) (ba (ar c 0) (ar d 0)),ez (ib ha hb hg) hm,fun f _ v hv=>mz.2 ⟨v,?_,jA.2 fun _ _ _=>rfl⟩⟩
 rw [nY (F:=ba) (hg.2 c hc d hd e).2] at hv
 exact (b8.1 hv).1
end
theorem jy {a:TaskV} (ha:aM a=0):jq a a:=by
 have id:∀ x:List (List Int),ba x x=x:=fun x=>by unfold ba; exact List.filter_eq_self.2 fun v hv=>decide_eq_true hv
 refine ⟨?_,fun c hc d hd e=>?_⟩
 ·have:=(eE ha).2
  have hc:a.cases.getD 0 default ∈ a.cases:=ai (by omega)
  exact ⟨_,hc,_,hc,rfl⟩
 ·obtain rfl:=fo ha hc hd e
  have h1:=(bv (b9 ha hc).2).1.1
  rw [id,id]
  exact ⟨h1,kQ h1⟩
theorem uw {a:TaskV} (ha:aM a=0) (fa:Fit30 a):jT a a=mT a a:=by
 have id:∀ x:List (List Int),ba x x=x:=fun x=>by unfold ba; exact List.filter_eq_self.2 fun v hv=>decide_eq_true hv
 have ud:∀ {x:List (List Int)},ec x→bw x x=x:=fun {x} h=>j7 jI h fun v=>by rw [cC,or_self]
 refine pP (iv ha ha rfl fa fa) (ib ha ha (jy ha)) rfl (show max a.ins a.ins=min a.ins a.ins by omega) (show max a.outs a.outs=min a.outs a.outs by omega) fun x=>?_
 rw [my]
 constructor
 ·intro h
  refine (cX ha).2 ?_
  rcases (dR ha ha).1 h with ⟨c,hc,d,hd,e,rfl⟩ | ⟨c,hc,hno,rfl⟩ | ⟨c,hc,hno,rfl⟩
  ·obtain rfl:=fo ha hc hd e
   have a1:=cJ ha hc
   exact ⟨c,hc,c,hc,rfl,by rw [id,id,ud a1.1,ud (a1.2.2.1 0)]⟩
  ·exact absurd rfl (hno c hc)
  ·exact absurd rfl (hno c hc)
 ·intro h
  obtain ⟨c,hc,d,hd,e,rfl⟩:=(cX ha).1 h
  obtain rfl:=fo ha hc hd e
  have a1:=cJ ha hc
  exact (dR ha ha).2 (.inl ⟨c,hc,c,hc,rfl,by rw [id,id,ud a1.1,ud (a1.2.2.1 0)]⟩)
end Go.Proofs.YtjgpfclngkcedaaGreat
namespace Go.Proofs.YtjgpfclngkcedaaGreat
open Go Go.Abs
theorem zp {a b:TaskV} (fa:Fit4 a):Ok (dC a b).1:=by
 unfold dC
 split
 ·exact pj
 ·split
  ·exact pj
  ·refine ⟨show (bx ba b a.cases).length ≤ _ from Nat.le_trans fc (by have:=fa.fit.len; omega),fun x hx=>?_⟩
   obtain ⟨c,hc,d,hd,rfl⟩:=ew hx
   have h1:=fa.fit.sh c hc
   have h2:=fa.fit.q c hc
   have h3:=fa.fit.qa hc (f:=0)
   exact mR h1.1 (Nat.le_trans fl (by omega)) (fun v hv=>h1.2.2.1 v (b8.1 hv).1) (Nat.le_trans fl (by omega)) (fun v hv=>h3.2 v (b8.1 hv).1)
theorem vJ {a b:TaskV} (fa:Fit4 a) (fb:Fit4 b):Ok (ja a b).1:=by
 unfold ja
 split
 ·exact pj
 ·split
  ·exact pj
  ·refine ⟨show (gU KC (ci a b)).length ≤ _ by rw [oM]; have:=iS (a:=a) (b:=b); have:=fa.fit.len; have:=fb.fit.len; omega,fun x hx=>?_⟩
   exact rm fa fb x ((dP _).mem_iff.1 hx)
def gM (a b:TaskV):Bool:=eqF (fun c d=>decide (c.inp=d.inp)) a.cases b.cases
theorem qG {a b:TaskV} (h:gM a b=true):∀ c ∈ a.cases,∃ d ∈ b.cases,c.inp=d.inp:=by
 unfold gM eqF at h
 rw [Bool.and_eq_true,decide_eq_true_iff,List.all_eq_true] at h
 intro c hc
 obtain ⟨i,hi,rfl⟩:=List.getElem_of_mem hc
 have:=h.2 i (List.mem_range.2 hi)
 rw [decide_eq_true_iff,show a.cases.getD i default=a.cases[i] by simp [List.getD,hi]] at this
 exact ⟨_,ai (by omega),this⟩
theorem qZ {a b:TaskV} (h:gM a b=true):∀ d ∈ b.cases,∃ c ∈ a.cases,c.inp=d.inp:=by
 unfold gM eqF at h
 rw [Bool.and_eq_true,decide_eq_true_iff,List.all_eq_true] at h
 intro c hc
 obtain ⟨i,hi,rfl⟩:=List.getElem_of_mem hc
 have:=h.2 i (List.mem_range.2 (by omega))
 rw [decide_eq_true_iff,show b.cases.getD i default=b.cases[i] by simp [List.getD,hi]] at this
 exact ⟨_,ai (by omega),this⟩
theorem nf {a b:TaskV}:∃ (i:List Int) (f:Int) (o:List Int) (k:Bool) (e:Int),l7 (e7 a b)=.tup [aN i,.int .i64 f,aN o,.bool k,.int .i64 e]:=⟨_,_,_,_,_,rfl⟩
theorem fg {a b:TaskV} (h:bF a b=0) (hs:Stg a b):l7 (e7 a b)=.tup [aN [],.int .i64 0,aN [],.bool true,.int .i64 0]:=by rw [jW h (z9 hs)]; rfl
attribute [local irreducible] aA ag aU aO aE aH ay aJ aQ aZ Go.Abs.Fn aL Go.Abs.Pure ak aB Yl
theorem pk (c d:CaseV) (hc:ShC c) (hd:ShC d):Pure Tryz.prog 84 [.agg [aN c.inp,ax c.out,ax c.calm],.agg [aN d.inp,ax d.out,ax d.calm]] (.bool (decide (c.inp=d.inp))):=by
 refine Pure.of_c2 follows Ci (Nat.le_of_ble_eq_true rfl) ?_
 simp only [b84,cO,cG,cN,cM,cD,cF,cB,av,aF]
 have h:=f0 c.inp d.inp hc.1 hd.1
 (have zz:=and_self; repeat' (first | refine zW ?_ | apply a_n | refine zO ?_ | refine vZ ?_ | refine cZ ?_ (hp:=h) | refine bxZ ?_ | refine ae rfl ?_ | refine r1Z ?_ | fail)) <;> (try clear zz)
 exact .bool _
theorem rj (a b:TaskV) (ha:Ok a) (hb:Ok b):Pure Tryz.prog 30 [bo a,bo b] (.bool (gM a b)):=by
 refine Pure.of_c2 follows B0 (Nat.le_of_ble_eq_true rfl) ?_
 simp only [b30,cO,cG,cN,cM,cD,cF,cB,av,aF]
 have h:=uJ a.cases b.cases (fun c d=>decide (c.inp=d.inp)) 84 [] (by simp) ha.1 hb.1 fun c hc d hd=>pk c d (ha.2 c hc) (hb.2 d hd)
 rw [show eqF (fun c d=>decide (c.inp=d.inp)) a.cases b.cases=gM a b from rfl] at h
 rw [show bo a=.agg [.int .i64 a.n,.int .i64 a.ins,.int .i64 a.outs,aR a.cases] from rfl,show bo b=.agg [.int .i64 b.n,.int .i64 b.ins,.int .i64 b.outs,aR b.cases] from rfl]
 (have zz:=aI @aj @ab; repeat' (first | refine zW ?_ | apply a_n | refine zO ?_ | refine vZ ?_ | refine cZ ?_ (hp:=h) (hs:=by (first | refine ah ?_ rfl | apply ap); (repeat' (first | exact af | apply aC | apply aq | exact e9 _ | exact Dat.func (by simp))); first | done | fail) | refine bxZ ?_ | refine ae rfl ?_ | refine r1Z ?_ | fail)) <;> (try clear zz)
 exact .bool _
set_option maxHeartbeats 4000000 in
theorem rY (a b:TaskV) (ha:Ok a) (hb:Ok b):Pure Tryz.prog 7 [bo a,bo b] (.bool true):=by
 refine Pure.of_c2 follows is7 (Nat.le_of_ble_eq_true rfl) ?_
 simp only [b7,cO,cG,cN,cM,cD,cF,cB,av,aF]
 have haw:=wK
 have hr:=uO [a,b] (by simp) (by simp; exact ⟨ha,hb⟩)
 have d1:=bJ a
 have d2:=bJ b
 cases hR:mX [a,b]
 ·rw [hR] at hr
  unfold bo at d1 d2
  rw [show bo a=.agg [.int .i64 a.n,.int .i64 a.ins,.int .i64 a.outs,aR a.cases] from rfl,show bo b=.agg [.int .i64 b.n,.int .i64 b.ins,.int .i64 b.outs,aR b.cases] from rfl]
  (have zz:=aI @aj @ab; repeat' (first | refine zW ?_ | apply a_n | refine zO ?_ | refine vZ ?_ | refine bxZ ?_ | refine blZ ?_ | fail)) <;> (try clear zz)
  refine cE ev0 ev0 hr (ah (az (ka au) af) rfl) ?_
  (have zz:=aI @aj @ab; repeat' (first | refine zW ?_ | apply a_n | apply a_r | refine zO ?_ | refine vZ ?_ | refine cZ ?_ (hp:=haw) | refine cTZ ?_ | refine ae rfl ?_ | refine r1Z ?_ | fail)) <;> (try clear zz)
  exact .bool _
 rw [hR] at hr
 obtain ⟨⟨fwa,ca⟩,⟨fwb,cb⟩,nb⟩:(oo a=true∧aM a=0)∧(oo b=true∧aM b=0)∧b.n=a.n:=by simpa [mX,jh] using hR
 have fa:=Fit30.of fwa
 have fb:=Fit30.of fwb
 have c1:=r6 a b fa.four fb.four
 have c2:=r6 b a fb.four fa.four
 have c3:=sE a b fa.sh fa.fit.len fb.sh fb.fit.sh2 fa.fit.q
 have c4:=sE b a fb.sh fb.fit.len fa.sh fa.fit.sh2 fb.fit.q
 have c5:=r6 a a fa.four fa.four
 have c6:=sE a a fa.sh fa.fit.len fa.sh fa.fit.sh2 fa.fit.q
 have oj:=vJ (a:=a) (b:=b) fa.four fb.four
 have om:=zp (a:=a) (b:=b) fa.four
 have oj2:=vJ (a:=a) (b:=a) fa.four fa.four
 have hX:dC a b=dC b a∧((dC a b).2=0∧aM (dC a b).1=0∧(dC a b).1.n=a.n∧(gM a b=true→Stg (dC a b).1 a∧Stg (dC a b).1 b) ∨ (dC a b).2=16):=by
  by_cases hg:jq a b
  ·rw [jD ca cb nb hg,jD cb ca nb.symm (gq ca cb hg),← sU ca cb nb hg]
   refine ⟨rfl,.inl ⟨rfl,ib ca cb hg,rfl,fun hs=>⟨sy ca cb nb hg (qG hs),?_⟩⟩⟩
   rw [sU ca cb nb hg]
   exact sy cb ca nb.symm (gq ca cb hg) fun d hd=>by
    obtain ⟨c,hc,e⟩:=qZ hs d hd
    exact ⟨c,hc,e.symm⟩
  ·rw [oF ca cb nb hg,oF cb ca nb.symm fun h=>hg (gq cb ca h)]
   exact ⟨rfl,.inr rfl⟩
 have hJ:=iv ca cb nb fa fb
 have hJs:gM a b=true→Stg a (jT a b)∧Stg b (jT a b):=fun hs=>⟨rK ca cb (qZ hs),by
  rw [tx ca cb nb fa fb]
  exact rK cb ca fun c hc=>by
   obtain ⟨d,hd,e⟩:=qG hs c hc
   exact ⟨d,hd,e.symm⟩⟩
 rw [nq ca cb nb fa fb] at c1 oj
 rw [nq cb ca nb.symm fb fa,← tx ca cb nb fa fb] at c2
 rw [← hX.1] at c4
 have hX:=hX.2
 have jn:(jT a b).n=a.n:=rfl
 have hss:=uw ca fa
 have hS1:=rK ca ca fun c hc=>⟨c,hc,rfl⟩
 have hS2:=sy ca ca rfl (jy ca) fun c hc=>⟨c,hc,rfl⟩
 have hS3:=iv ca ca rfl fa fa
 have jn2:(jT a a).n=a.n:=rfl
 rw [nq ca ca rfl fa fa] at c5 oj2
 rw [jD ca ca rfl (jy ca),← hss] at c6
 rw [← hss] at hS2
 have cs:=rj a b ha hb
 generalize jT a b=J at *
 generalize jT a a=S at *
 generalize dC a b=X at *
 obtain ⟨M,g⟩:=X
 dsimp only at c1 c2 c3 c4 oj om oj2 hX
 have eJ:=rL J oj.1 oj.2
 have eM:=rL M om.1 om.2
 have eS:=rL S oj2.1 oj2.2
 have kJ:=rT J oj.2 oj.1
 have kM:=rT M om.2 om.1
 rw [hJ] at kJ
 have pS1:bF a S=0:=by simp [bF,ca,hS3,jn2]
 have pS2:bF S a=0:=by simp [bF,ca,hS3,jn2]
 have s1:=eg a S ha.2 ha.1 oj2.2 oj2.1
 have s2:=eg S a oj2.2 oj2.1 ha.2 ha.1
 rw [fg pS1 hS1] at s1
 rw [fg pS2 hS2] at s2
 have dJ:=bJ J
 have dM:=bJ M
 have dS:=bJ S
 have z0:decide ((0:Int) ≠ 0)=false:=rfl
 have z16:decide ((16:Int) ≠ 0)=true:=rfl
 have y16:decide ((16:Int) ≠ 16)=false:=rfl
 have x16:decide ((16:Int)=0)=false:=rfl
 have x0:decide ((0:Int)=0)=true:=rfl
 have zg:decide (g ≠ g)=false:=by simp
 cases hsc:gM a b
 ·rw [hsc] at cs
  unfold bo at d1 d2 c1 c2 c3 c4 cs eJ eM kJ kM dJ dM
  rw [show bo a=.agg [.int .i64 a.n,.int .i64 a.ins,.int .i64 a.outs,aR a.cases] from rfl,show bo b=.agg [.int .i64 b.n,.int .i64 b.ins,.int .i64 b.outs,aR b.cases] from rfl]
  rcases hX with ⟨rfl,hc,-⟩ | rfl
  ·rw [hc] at kM
   (have zz:=aI @aj @ab; repeat' (first | refine zW ?_ | apply a_n | refine zO ?_ | refine vZ ?_ | refine bxZ ?_ | refine blZ ?_ | fail)) <;> (try clear zz)
   refine cE ev0 ev0 hr (ah (az (ka au) af) rfl) ?_
   (have zz:=aI @aj (aI @ab (aI @z0 @x0)); repeat' (first | refine zW ?_ | apply a_n | apply a_r | refine zO ?_ | refine vZ ?_ | refine cZ ?_ (hp:=by first | exact haw | exact c1 | exact c2 | exact c3 | exact c4 | exact eJ | exact eM | exact kJ | exact kM | exact cs) | refine alZ ?_ | refine stZ ?_ | refine gTZ ?_ | refine gFZ ?_ | (refine zGZ ?_ ?_ <;> (intro _hg; try (exfalso; omega))) | refine cTZ ?_ | refine cFZ ?_ | refine ae rfl ?_ | refine r1Z ?_ | fail)) <;> (try clear zz)
   all_goals exact .bool _
  ·(have zz:=aI @aj @ab; repeat' (first | refine zW ?_ | apply a_n | refine zO ?_ | refine vZ ?_ | refine bxZ ?_ | refine blZ ?_ | fail)) <;> (try clear zz)
   refine cE ev0 ev0 hr (ah (az (ka au) af) rfl) ?_
   (have zz:=aI @aj (aI @ab (aI @z0 (aI @z16 (aI @y16 (aI @x16 @zg))))); repeat' (first | refine zW ?_ | apply a_n | apply a_r | refine zO ?_ | refine vZ ?_ | refine cZ ?_ (hp:=by first | exact haw | exact c1 | exact c2 | exact c3 | exact c4 | exact eJ | exact eM | exact kJ | exact cs) | refine alZ ?_ | refine stZ ?_ | refine gTZ ?_ | refine gFZ ?_ | refine cTZ ?_ | refine cFZ ?_ | refine ae rfl ?_ | refine r1Z ?_ | fail)) <;> (try clear zz)
   all_goals exact .bool _
 rw [hsc] at cs
 obtain ⟨j1,j2⟩:=hJs hsc
 have pJ1:bF a J=0:=by simp [bF,ca,hJ,jn]
 have pJ2:bF b J=0:=by simp [bF,cb,hJ,jn,nb]
 have t1:=eg a J ha.2 ha.1 oj.2 oj.1
 have t2:=eg b J hb.2 hb.1 oj.2 oj.1
 rw [fg pJ1 j1] at t1
 rw [fg pJ2 j2] at t2
 have t3:=eg M a om.2 om.1 ha.2 ha.1
 have t4:=eg M b om.2 om.1 hb.2 hb.1
 obtain ⟨i3,f3,o3,k3,e3,q3⟩:=nf (a:=M) (b:=a)
 obtain ⟨i4,f4,o4,k4,e4,q4⟩:=nf (a:=M) (b:=b)
 have r3:g=0→k3=true∧e3=0:=fun h0=>by
  rcases hX with ⟨_,hc,hn,hs⟩ | h
  ·rw [fg (by simp [bF,ca,hc,hn]) (hs hsc).1] at q3
   simp at q3
   exact ⟨q3.2.2.2.1,q3.2.2.2.2.symm⟩
  ·omega
 have r4:g=0→k4=true∧e4=0:=fun h0=>by
  rcases hX with ⟨_,hc,hn,hs⟩ | h
  ·rw [fg (by simp [bF,cb,hc,hn,nb]) (hs hsc).2] at q4
   simp at q4
   exact ⟨q4.2.2.2.1,q4.2.2.2.2.symm⟩
  ·omega
 rw [q3] at t3
 rw [q4] at t4
 have hX:g=0∧aM M=0 ∨ g=16:=hX.imp (fun h=>⟨h.1,h.2.1⟩) id
 clear q3 q4 hJs hS1 hS2 j1 j2
 unfold bo at d1 d2 c1 c2 c3 c4 c5 c6 cs eJ eM eS kJ kM dJ dM dS s1 s2 t1 t2 t3 t4
 rw [show bo a=.agg [.int .i64 a.n,.int .i64 a.ins,.int .i64 a.outs,aR a.cases] from rfl,show bo b=.agg [.int .i64 b.n,.int .i64 b.ins,.int .i64 b.outs,aR b.cases] from rfl]
 rcases hX with ⟨rfl,hc⟩ | rfl
 ·rw [hc] at kM
  obtain ⟨rfl,rfl⟩:=r3 rfl
  obtain ⟨rfl,rfl⟩:=r4 rfl
  (have zz:=aI @aj @ab; repeat' (first | refine zW ?_ | apply a_n | refine zO ?_ | refine vZ ?_ | refine bxZ ?_ | refine blZ ?_ | fail)) <;> (try clear zz)
  refine cE ev0 ev0 hr (ah (az (ka au) af) rfl) ?_
  (have zz:=aI @aj (aI @ab (aI @z0 @x0)); repeat' (first | refine zW ?_ | apply a_n | refine zO ?_ | refine vZ ?_ | refine cZ ?_ (hp:=by first | exact haw | exact c1 | exact c2 | exact c3 | exact c4 | exact eJ | exact eM | exact kJ | exact kM | exact cs) | refine alZ ?_ | refine stZ ?_ | refine blZ ?_ | refine gTZ ?_ | refine gFZ ?_ | (refine zGZ ?_ ?_ <;> (intro _hg; try (exfalso; omega))) | refine cFZ ?_ | fail)) <;> (try clear zz)
  refine be (X:=Nat) (fun k=>[(2,.ptr 0 4 0),(5,.ptr 3 4 0),(9,.ptr 5 4 0),(10,.int .i64 0),(119,.msl 7 8 4 0 2),(120,.int .i64 2),(121,.int .i64 k)]) (fun k H nx=>k ≤ 2∧8 ≤ nx∧H 0=some [.int .i64 a.n,.int .i64 a.ins,.int .i64 a.outs,aR a.cases]∧H 3=some [.int .i64 J.n,.int .i64 J.ins,.int .i64 J.outs,aR J.cases]∧H 5=some [.int .i64 M.n,.int .i64 M.ins,.int .i64 M.outs,aR M.cases]∧H 7=some [.int .i64 a.n,.int .i64 a.ins,.int .i64 a.outs,aR a.cases,.int .i64 b.n,.int .i64 b.ins,.int .i64 b.outs,aR b.cases]) (fun k=>2 - k) 0 ⟨by omega,by omega,rfl,rfl,rfl,rfl⟩ (by (iterate 7 refine And.intro rfl ?_); trivial) ?_
  rintro k H nx ⟨hk,hnx,g0,g3,g5,g7⟩
  rcases (by omega:k=0 ∨ k=1 ∨ k=2) with rfl | rfl | rfl
  ·(have zz:=aI @Nat.zero_mul (aI @Nat.one_mul (aI @g0 (aI @g3 (aI @g5 (aI @g7 (aI @aj (aI @ab (aI @z0 @x0)))))))); repeat' (first | refine zW ?_ | apply a_n | refine zO ?_ | refine vY ?_ | refine cY ?_ (hp:=by first | exact t1 | exact t3) | refine alY ?_ | refine stY ?_ | refine gTY ?_ | refine cFY ?_ | (refine zGY ?_ ?_ <;> (intro _hg; try (exfalso; omega))) | fail)) <;> (try clear zz)
   exact ⟨1,by omega,⟨by omega,by omega,by (repeat rw [ac (by omega)]); exact g0,by (repeat rw [ac (by omega)]); exact g3,by (repeat rw [ac (by omega)]); exact g5,by (repeat rw [ac (by omega)]); exact g7⟩,by (iterate 7 refine And.intro rfl ?_); trivial⟩
  ·(have zz:=aI @Nat.zero_mul (aI @Nat.one_mul (aI @g0 (aI @g3 (aI @g5 (aI @g7 (aI @aj (aI @ab (aI @z0 @x0)))))))); repeat' (first | refine zW ?_ | apply a_n | refine zO ?_ | refine vY ?_ | refine cY ?_ (hp:=by first | exact t2 | exact t4) | refine alY ?_ | refine stY ?_ | refine gTY ?_ | refine cFY ?_ | (refine zGY ?_ ?_ <;> (intro _hg; try (exfalso; omega))) | fail)) <;> (try clear zz)
   exact ⟨2,by omega,⟨by omega,by omega,by (repeat rw [ac (by omega)]); exact g0,by (repeat rw [ac (by omega)]); exact g3,by (repeat rw [ac (by omega)]); exact g5,by (repeat rw [ac (by omega)]); exact g7⟩,by (iterate 7 refine And.intro rfl ?_); trivial⟩
  ·(have zz:=aI @Nat.zero_mul (aI @Nat.one_mul (aI @g0 (aI @g3 (aI @g5 (aI @g7 (aI @aj (aI @ab (aI @z0 @x0)))))))); repeat' (first | refine zW ?_ | apply a_n | apply a_x | refine zO ?_ | refine vY ?_ | refine cY ?_ (hp:=by first | exact haw | exact c5 | exact c6 | exact s1 | exact s2 | exact eS) | refine alY ?_ | refine stY ?_ | refine gTY ?_ | (refine zGY ?_ ?_ <;> (intro _hg; try (exfalso; omega))) | refine ae rfl ?_ | refine r1Y ?_ | fail)) <;> (try clear zz)
   all_goals exact .bool _
 ·(have zz:=aI @aj @ab; repeat' (first | refine zW ?_ | apply a_n | refine zO ?_ | refine vZ ?_ | refine bxZ ?_ | refine blZ ?_ | fail)) <;> (try clear zz)
  refine cE ev0 ev0 hr (ah (az (ka au) af) rfl) ?_
  (have zz:=aI @aj (aI @ab (aI @z0 (aI @z16 (aI @y16 (aI @x16 @zg))))); repeat' (first | refine zW ?_ | apply a_n | refine zO ?_ | refine vZ ?_ | refine cZ ?_ (hp:=by first | exact haw | exact c1 | exact c2 | exact c3 | exact c4 | exact eJ | exact eM | exact kJ | exact cs) | refine alZ ?_ | refine stZ ?_ | refine blZ ?_ | refine gTZ ?_ | refine gFZ ?_ | refine cFZ ?_ | fail)) <;> (try clear zz)
  refine be (X:=Nat) (fun k=>[(2,.ptr 0 4 0),(5,.ptr 3 4 0),(9,.ptr 5 4 0),(10,.int .i64 16),(119,.msl 7 8 4 0 2),(120,.int .i64 2),(121,.int .i64 k)]) (fun k H nx=>k ≤ 2∧8 ≤ nx∧H 0=some [.int .i64 a.n,.int .i64 a.ins,.int .i64 a.outs,aR a.cases]∧H 3=some [.int .i64 J.n,.int .i64 J.ins,.int .i64 J.outs,aR J.cases]∧H 5=some [.int .i64 M.n,.int .i64 M.ins,.int .i64 M.outs,aR M.cases]∧H 7=some [.int .i64 a.n,.int .i64 a.ins,.int .i64 a.outs,aR a.cases,.int .i64 b.n,.int .i64 b.ins,.int .i64 b.outs,aR b.cases]) (fun k=>2 - k) 0 ⟨by omega,by omega,rfl,rfl,rfl,rfl⟩ (by (iterate 7 refine And.intro rfl ?_); trivial) ?_
  rintro k H nx ⟨hk,hnx,g0,g3,g5,g7⟩
  rcases (by omega:k=0 ∨ k=1 ∨ k=2) with rfl | rfl | rfl
  ·(have zz:=aI @Nat.zero_mul (aI @Nat.one_mul (aI @g0 (aI @g3 (aI @g5 (aI @g7 (aI @aj (aI @ab (aI @z0 @x16)))))))); repeat' (first | refine zW ?_ | apply a_n | refine zO ?_ | refine vY ?_ | refine cY ?_ (hp:=by first | exact t1 | exact t3) | refine alY ?_ | refine stY ?_ | refine gTY ?_ | refine gFY ?_ | refine cFY ?_ | (refine zGY ?_ ?_ <;> (intro _hg; try (exfalso; omega))) | fail)) <;> (try clear zz)
   exact ⟨1,by omega,⟨by omega,by omega,by (repeat rw [ac (by omega)]); exact g0,by (repeat rw [ac (by omega)]); exact g3,by (repeat rw [ac (by omega)]); exact g5,by (repeat rw [ac (by omega)]); exact g7⟩,by (iterate 7 refine And.intro rfl ?_); trivial⟩
  ·(have zz:=aI @Nat.zero_mul (aI @Nat.one_mul (aI @g0 (aI @g3 (aI @g5 (aI @g7 (aI @aj (aI @ab (aI @z0 @x16)))))))); repeat' (first | refine zW ?_ | apply a_n | refine zO ?_ | refine vY ?_ | refine cY ?_ (hp:=by first | exact t2 | exact t4) | refine alY ?_ | refine stY ?_ | refine gTY ?_ | refine gFY ?_ | refine cFY ?_ | (refine zGY ?_ ?_ <;> (intro _hg; try (exfalso; omega))) | fail)) <;> (try clear zz)
   exact ⟨2,by omega,⟨by omega,by omega,by (repeat rw [ac (by omega)]); exact g0,by (repeat rw [ac (by omega)]); exact g3,by (repeat rw [ac (by omega)]); exact g5,by (repeat rw [ac (by omega)]); exact g7⟩,by (iterate 7 refine And.intro rfl ?_); trivial⟩
  ·(have zz:=aI @Nat.zero_mul (aI @Nat.one_mul (aI @g0 (aI @g3 (aI @g5 (aI @g7 (aI @aj (aI @ab (aI @z0 @x0)))))))); repeat' (first | refine zW ?_ | apply a_n | apply a_x | refine zO ?_ | refine vY ?_ | refine cY ?_ (hp:=by first | exact haw | exact c5 | exact c6 | exact s1 | exact s2 | exact eS) | refine alY ?_ | refine stY ?_ | refine gTY ?_ | (refine zGY ?_ ?_ <;> (intro _hg; try (exfalso; omega))) | refine ae rfl ?_ | refine r1Y ?_ | fail)) <;> (try clear zz)
   all_goals exact .bool _
end Go.Proofs.YtjgpfclngkcedaaGreat
namespace Go.Proofs.YtjgpfclngkcedaaGreat
open Go Go.Abs Go.RowKit
section
variable {H:Type} {enc:TypeId × Value→H} {W:World}
theorem oi:dw enc Tryz.prog W 3 (AV.int .i64) (fun n=>(Lit.int .i64 n).wf=true):=uE Tryz.underlying3
theorem oL1:dw enc Tryz.prog W 27 aN Sh :=
 (iq Tryz.underlying27 (sz:=1) (by_:=8) (by kernel_rfl) (by kernel_rfl) Nat.one_pos (fun _=>rfl) oi).mono fun l h=>by have:=h.2.2; show _ ≤ _; omega
theorem oL2:dw enc Tryz.prog W 41 ax (fun l=>Sh l∧∀ x ∈ l,Sh x) :=
 (iq Tryz.underlying41 (sz:=1) (by_:=24) (by kernel_rfl) (by kernel_rfl) Nat.one_pos (fun _=>rfl) oL1).mono fun l h=>⟨by have:=h.2.2; show _ ≤ _; omega,h.1⟩
set_option maxRecDepth 100000 in
theorem AK:dw enc Tryz.prog W 57 cr ShC :=
 (j5 Tryz.underlying57 (by kernel_rfl) (dg (off:=0) (off':=1) rfl (by kernel_rfl) oL1 (dg (off:=1) (off':=2) rfl (by kernel_rfl) oL2 (dg (off:=2) (off':=3) rfl (by kernel_rfl) oL2 mB)))).map
  (fun a=>(⟨a.1,a.2.1,a.2.2.1⟩:CaseV)) (by
   rintro ⟨i,o,c,u⟩ ⟨h1,h2,h3,_⟩
   exact ⟨h1,h2.1,h2.2,h3.1,h3.2⟩) (fun _ _=>rfl)
theorem zE:dw enc Tryz.prog W 22 aR (fun l=>Sh l∧∀ c ∈ l,ShC c) :=
 (iq Tryz.underlying22 (sz:=3) (by_:=72) (by kernel_rfl) (by kernel_rfl) (by omega) (fun _=>rfl) AK).mono fun l h=>⟨by have:=h.2.2; show _ ≤ _; omega,h.1⟩
set_option maxRecDepth 100000 in
theorem yu:dw enc Tryz.prog W 24 bo (fun t=>Sh t.cases∧∀ c ∈ t.cases,ShC c) :=
 (j5 Tryz.underlying24 (by kernel_rfl) (dg (off:=0) (off':=1) rfl (by kernel_rfl) oi (dg (off:=1) (off':=2) rfl (by kernel_rfl) oi (dg (off:=2) (off':=3) rfl (by kernel_rfl) oi (dg (off:=3) (off':=4) rfl (by kernel_rfl) zE mB))))).map
  (fun a=>(⟨a.1,a.2.1,a.2.2.1,a.2.2.2.1⟩:TaskV)) (by
   rintro ⟨n,i,o,c,u⟩ ⟨_,_,_,h,_⟩
   exact h) (fun _ _=>rfl)
end
theorem nB {f:FuncId} {xs:List AV} {vs:List Value} (h:Go.Abs.Pure Tryz.prog f xs (.bool true)) (w:World) (hv:bP (E0 (pX w)) w xs vs) :
    Calls Tryz.prog f vs.toArray w fun e w'=>e=.returned (.bool true)∧Below w.heap.size w w':=by
 refine (h.2 (pX w) w vs (fun _ h=>h) hv).mono ?_
 rintro e w' ⟨v,imm',rfl,hb,_,_,_,hr⟩
 cases hr
 exact ⟨rfl,hb⟩
theorem Cj:laidOutB Tryz.prog=true:=by kernel_rfl
end Go.Proofs.YtjgpfclngkcedaaGreat
namespace Go.Proofs.YtjgpfclngkcedaaGreat
open Go Go.Abs Go.RowKit Go.ChangeShapes Go.WideShapes Go.ChangeAt
theorem og {H:Type} {enc:TypeId × Value→H} {P:Program} {f:Func} {s:ChangeSpec} {apart fresh handsOn again:Bool} {W W':World} {args:Array Value} {v:Value} {ds gs:List (DataW H)} {before pa pv:List MemPlace}
    (hW:DataW.Whole enc P f.params.toList s.vars apart W args.toList ds gs before)
    (hres:∀ (b:Nat) (sp:Nat→Bool) (hd:Bool),DataW.TrodAll enc P W' b sp hd f.resultTypes.toList (v.resultList f.resultTypes.size) (s.fn H (ds ++ gs)).results [])
    (hargs:∀ sp:Nat→Bool,(∀ p ∈ before,sp p.block=true)→DataW.TrodAll enc P W' 0 sp true f.params.toList args.toList (s.fn H (ds ++ gs)).args pa)
    (hvars:∀ sp:Nat→Bool,(∀ p ∈ before,sp p.block=true)→DataW.TrodVars enc P W' sp s.vars (s.fn H (ds ++ gs)).vars pv)
    (hps:before=pa ++ pv) (hb:Below W.heap.size W W')
    (hok:∀ (j:Nat) (t:TypeId) (r:Value),f.resultTypes[j]?=some t→(v.resultList f.resultTypes.size)[j]?=some r→Value.okWide P W' .any 0 t r) :
    s.post enc P f apart fresh handsOn again W args v W':=by
 have hold:∀ p ∈ before,(fun b=>decide (b < W.heap.size)) p.block=true:=fun p hp=>by simpa using hW.lt p hp
 have hlt:=fun p hp=>hW.lt p hp
 refine ⟨ds,gs,before,[],pa,pv,hW,hres _ _ _,hargs _ hold,hvars _ hold,World.keptBut_mono (fun p hp=>⟨hp,?_⟩) (hb.frame _),fun _=>?_⟩
 ·rw [hps,List.mem_append] at hp
  exact Or.inr hp
 ·obtain ⟨_,_,_,_,_,hz,hn⟩:=hW
  refine ⟨hok,_,_,([] ++ pa) ++ pv,⟨[] ++ pa,pv,trodAll_append (hargs _ (fun _ _=>rfl)) (hres _ _ _),hvars _ (fun _ _=>rfl),rfl,?_,?_⟩,?_⟩
  ·intro b off hp
   have hp':MemPlace.cell b off ∈ before:=by rw [hps]; simpa using hp
   rw [hb.frozen (hlt _ hp')]
   exact hz b off hp'
  ·intro ha
   have:=hn ha
   rw [hps] at this
   simpa using this
  ·intro p hp _
   rw [hps]
   simpa using hp
theorem uW {E:Env} {w:World}:bP E w [] []:=⟨rfl,fun i x y h=>(by cases h)⟩
theorem oG {E:Env} {w:World} {x:AV} {y:Value} {xs:List AV} {ys:List Value} (h:Rel E w x y) (hs:bP E w xs ys):bP E w (x :: xs) (y :: ys):=by
 refine ⟨by simp [hs.1],fun i a b ha hb=>?_⟩
 cases i with
 | zero=>simp at ha hb; subst ha hb; exact h
 | succ i=>simp at ha hb; exact hs.2 i a b ha hb
theorem own:ownKnob Tryz.prog.godebug=none:=by kernel_rfl
end Go.Proofs.YtjgpfclngkcedaaGreat