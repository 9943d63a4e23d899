/- Texts of this claim, one after the other: U12k, U13k, T31, T32, T33, T34, T35, T23, T24, T25, T26, A11, T27, T36, T29, T37, T43, T47, T48, T49, T50, T44, T45, T51, T52, T53, T54, T55, T56, T57, T63, T64, T59, T60, T58, T61, T62, T65, T66, A14, T46, T67, T68, T69, T71, T72, T73, T74, T75, T76, T77, T8, T9. -/
import Derived.Test.YtjgpfclngkcedaaGreatXG5
import Derived.Test.YtjgpfclngkcedaaGreatXG4
import Derived.Test.YtjgpfclngkcedaaGreatXG3
import Derived.Test.YtjgpfclngkcedaaGreatRows
import Derived.WalkKit
import Derived.ProofKit
import Derived.OpenShut

set_option linter.unusedSimpArgs false
set_option linter.unusedVariables false
namespace Go.Proofs.YtjgpfclngkcedaaGreat
open Go Go.Abs
section
variable {α:Type} [Inhabited α] {f:α→AV} {K:α→α→Int} {G:α→Prop} {g:Nat} {caps:List AV}
attribute [local irreducible] aD ag aS aP aH aJ ay aK aQ aZ Go.Abs.Fn aO Go.Abs.Pure al aC Yl
set_option maxHeartbeats 1000000 in
theorem Cv (hc:Cmp3 Tryz.prog f K G g caps) {b n:Nat} (hn2:n ≤ 1000000000):∀ (sz a e lim:Nat) (L:List α) (H:Hp) (nx:Nat),e - a < sz→H b=some (L.c3 f)→b < nx→L.length=n→(∀ x ∈ L,G x)→a ≤ e→e ≤ n→lim ≤ 64→l7 K a e L →
    Abs.Fn Tryz.prog 111 [.msl b (n * 3) 3 0 n,.int .i64 a,.int .i64 e,.int .i64 lim,.func g caps] H nx fun r H' nx'=>∃ L',PS H H' nx nx' b (L'.c3 f)∧PermR a e L L'∧aR K a e L':=by
 intro sz
 induction sz with
 | zero=>intro a e lim L H nx h; omega
 | succ sz ih =>
 intro a e lim L H nx hsz hH hbx hn hG hae hen hlim hlow
 have dcap:=hc.dcaps
 refine Abs.Fn.of_c2 follows yO (Nat.le_of_ble_eq_true rfl) ?_
 simp only [Ar,cO,cG,cN,cM,cD,cF,cB,aw,aF]
 (have zz:=and_self; repeat' (first | refine zW ?_ | apply a_n | refine zO ?_ | refine vZ ?_ | fail)) <;> (try clear zz)
 refine a9 (X:=Nat × Nat × Nat × Bool × Bool × List α) (fun x=>[(0,.msl b (n * 3) 3 0 n),(1,.int .i64 (x.1:Nat)),(2,.int .i64 (x.2.1:Nat)),(3,.int .i64 (x.2.2.1:Nat)),(4,.func g caps),(10,.bool x.2.2.2.1),(11,.bool x.2.2.2.2.1)]) (fun x H' nxx=>PI K a e L x.1 x.2.1 x.2.2.2.2.2∧PS H H' nx nxx b (x.2.2.2.2.2.c3 f)∧x.2.2.1 ≤ 64) (fun x=>x.2.1 - x.1) (a,e,lim,true,true,L) ⟨.start hae (by rw [hn]; exact hen) hlow,⟨hH,fun _ _ _=>rfl,Nat.le_refl _⟩,hlim⟩ ag0 ?_
 clear hlim hlow lim
 rintro ⟨a1,e1,lim,wb,wp,M⟩ H1 n1 ⟨hpi,hps,hlim⟩
 dsimp only at *
 have hlo:=hpi.lo; have hmid:=hpi.mid; have hhi:=hpi.hi
 obtain ⟨l,hl0⟩:∃ l,e1 - a1=l:=⟨_,rfl⟩
 rw [hl0]
 have te:(e1:Int) - (a1:Int)=(l:Int):=by omega
 have hlen:∀ M:List α,PI K a e L a1 e1 M→M.length=n:=fun M h=>by rw [h.perm.len,hn]
 have hGA:∀ M:List α,PI K a e L a1 e1 M→∀ x ∈ M,G x:=fun M h=>h.perm.mem hG
 have hbn:∀ (M:List α) (H1:Hp) (n1:Nat),PS H H1 nx n1 b (M.c3 f)→b < n1:=fun M H1 n1 h=>by have:=h.le; omega
 obtain ⟨T,hT,t0,t1,t2,t3,t4,t10,t11⟩:∃ T,tl [(0,.msl b (n * 3) 3 0 n),(1,.int .i64 (a1:Nat)),(2,.int .i64 (e1:Nat)),(3,.int .i64 (lim:Nat)),(4,.func g caps),(10,.bool wb),(11,.bool wp)]=T∧T 0=.msl b (n * 3) 3 0 n∧T 1=.int .i64 (a1:Nat)∧T 2=.int .i64 (e1:Nat)∧T 3=.int .i64 (lim:Nat)∧T 4=.func g caps∧T 10=.bool wb∧T 11=.bool wp:=⟨_,rfl,rfl,rfl,rfl,rfl,rfl,rfl,rfl⟩
 rw [hT]
 clear hT
 refine dz ?_
 refine aN (fun T H'' nx''=>T 0=.msl b (n * 3) 3 0 n∧T 1=.int .i64 (a1:Nat)∧T 2=.int .i64 (e1:Nat)∧T 3=.int .i64 (lim:Nat)∧T 4=.func g caps∧T 10=.bool wb∧T 11=.bool wp∧T 12=.int .i64 (l:Nat)∧H1=H''∧n1=nx'') ?_ ?_
 ·(have zz:=aI @t0 (aI @t1 (aI @t2 (aI @t3 (aI @t4 (aI @t10 (aI @t11 @te)))))); repeat' (first | apply a_n | refine zO ?_ | refine vZ ?_ | fail)) <;> (try clear zz)
  exact ⟨(have zz:=@t0; evZ),(have zz:=@t1; evZ),(have zz:=@t2; evZ),(have zz:=@t3; evZ),(have zz:=@t4; evZ),(have zz:=@t10; evZ),(have zz:=@t11; evZ),ev0,rfl,rfl⟩
 clear t0 t1 t2 t3 t4 t10 t11
 rintro T _ _ ⟨t0,t1,t2,t3,t4,t10,t11,t12,rfl,rfl⟩
 refine aN (fun T H'' nx''=>T 0=.msl b (n * 3) 3 0 n∧T 1=.int .i64 (a1:Nat)∧T 2=.int .i64 (e1:Nat)∧T 3=.int .i64 (lim:Nat)∧T 4=.func g caps∧T 10=.bool wb∧T 11=.bool wp∧T 12=.int .i64 (l:Nat)∧13 ≤ l∧H1=H''∧n1=nx'') ?_ ?_
 ·by_cases h12:l ≤ 12
  ·(have zz:=aI @t0 (aI @t1 (aI @t2 (aI @t3 (aI @t4 (aI @t10 (aI @t11 @t12)))))); repeat' (first | refine zW ?_ | apply a_n | refine zO ?_ | refine vZ ?_ | (refine zGZ ?_ ?_ <;> (intro _hg; try (exfalso; omega))) | fail)) <;> (try clear zz)
   refine aE ev0 (have zz:=aI @t0 (aI @t1 (aI @t2 (aI @t3 (aI @t4 (aI @t10 (aI @t11 @t12)))))); evZ) (Bu hc (b:=b) hps.at_ (hlen _ hpi) (hGA _ hpi) (a:=a1) (e:=e1) hmid (by omega) hn2) ?_
   rintro _ _ _ ⟨rfl,N,rfl,hpN,hsN⟩
   (have zz:=and_self; repeat' (first | apply a_n | apply a_r | refine zO ?_ | refine aa rfl ?_ | fail)) <;> (try clear zz)
   exact ⟨N,hps.upd,hpi.done hpN hsN⟩
  ·(have zz:=aI @t0 (aI @t1 (aI @t2 (aI @t3 (aI @t4 (aI @t10 (aI @t11 @t12)))))); repeat' (first | refine zW ?_ | apply a_n | refine zO ?_ | refine vZ ?_ | (refine zGZ ?_ ?_ <;> (intro _hg; try (exfalso; omega))) | fail)) <;> (try clear zz)
   exact ⟨(have zz:=@t0; evZ),(have zz:=@t1; evZ),(have zz:=@t2; evZ),(have zz:=@t3; evZ),(have zz:=@t4; evZ),(have zz:=@t10; evZ),(have zz:=@t11; evZ),(have zz:=@t12; evZ),by omega,rfl,rfl⟩
 clear t0 t1 t2 t3 t4 t10 t11 t12
 rintro T _ _ ⟨t0,t1,t2,t3,t4,t10,t11,t12,h13,rfl,rfl⟩
 refine aN (fun T H'' nx''=>T 0=.msl b (n * 3) 3 0 n∧T 1=.int .i64 (a1:Nat)∧T 2=.int .i64 (e1:Nat)∧T 3=.int .i64 (lim:Nat)∧T 4=.func g caps∧T 10=.bool wb∧T 11=.bool wp∧T 12=.int .i64 (l:Nat)∧0 < lim∧H1=H''∧n1=nx'') ?_ ?_
 ·by_cases h12:lim=0
  ·subst h12
   have tz:decide (((0:Nat):Int)=0)=true:=rfl
   (have zz:=aI @t0 (aI @t1 (aI @t2 (aI @t3 (aI @t4 (aI @t10 (aI @t11 (aI @t12 @tz))))))); repeat' (first | refine zW ?_ | apply a_n | refine zO ?_ | refine vZ ?_ | refine cTZ ?_ | fail)) <;> (try clear zz)
   refine aE ev0 (have zz:=aI @t0 (aI @t1 (aI @t2 (aI @t3 (aI @t4 (aI @t10 (aI @t11 @t12)))))); evZ) (zL hc (b:=b) hps.at_ (hlen _ hpi) (hGA _ hpi) (a:=a1) (e:=e1) hmid (by omega) hn2) ?_
   rintro _ _ _ ⟨rfl,N,rfl,hpN,hsN⟩
   (have zz:=and_self; repeat' (first | apply a_n | apply a_r | refine zO ?_ | refine aa rfl ?_ | fail)) <;> (try clear zz)
   exact ⟨N,hps.upd,hpi.done hpN hsN⟩
  ·have tz:decide ((lim:Int)=0)=false:=decide_eq_false (by omega)
   (have zz:=aI @t0 (aI @t1 (aI @t2 (aI @t3 (aI @t4 (aI @t10 (aI @t11 (aI @t12 @tz))))))); repeat' (first | refine zW ?_ | apply a_n | refine zO ?_ | refine vZ ?_ | refine cFZ ?_ | fail)) <;> (try clear zz)
   exact ⟨(have zz:=@t0; evZ),(have zz:=@t1; evZ),(have zz:=@t2; evZ),(have zz:=@t3; evZ),(have zz:=@t4; evZ),(have zz:=@t10; evZ),(have zz:=@t11; evZ),(have zz:=@t12; evZ),by omega,rfl,rfl⟩
 clear t0 t1 t2 t3 t4 t10 t11 t12
 rintro T _ _ ⟨t0,t1,t2,t3,t4,t10,t11,t12,hlim1,rfl,rfl⟩
 refine aN (fun T H'' nx''=>∃ (lim:Nat) (M:List α),lim ≤ 64∧PI K a e L a1 e1 M∧PS H H'' nx nx'' b (M.c3 f)∧T 0=.msl b (n * 3) 3 0 n∧T 1=.int .i64 (a1:Nat)∧T 2=.int .i64 (e1:Nat)∧T 3=.int .i64 (lim:Nat)∧T 4=.func g caps∧T 10=.bool wb∧T 11=.bool wp∧T 12=.int .i64 (l:Nat)) ?_ ?_
 ·cases wb
  ·obtain ⟨k,rfl⟩:∃ k,lim=k + 1:=⟨lim - 1,by omega⟩
   have tk:((k + 1:Nat):Int) - 1=(k:Int):=by omega
   (have zz:=aI @t0 (aI @t1 (aI @t2 (aI @t3 (aI @t4 (aI @t10 (aI @t11 @t12)))))); repeat' (first | refine zW ?_ | apply a_n | refine zO ?_ | refine vZ ?_ | refine cTZ ?_ | fail)) <;> (try clear zz)
   refine aE ev0 (have zz:=aI @t0 (aI @t1 (aI @t2 (aI @t3 (aI @t4 (aI @t10 (aI @t11 @t12)))))); evZ) (yf hc (b:=b) hps.at_ (hbn _ _ _ hps) (hlen _ hpi) (a:=a1) (e:=e1) (by omega) (by omega) hn2) ?_
   rintro _ _ _ ⟨rfl,N,hN1,hN2,hpN⟩
   (have zz:=aI @t0 (aI @t1 (aI @t2 (aI @t3 (aI @t4 (aI @t10 (aI @t11 (aI @t12 @tk))))))); repeat' (first | apply a_n | refine zO ?_ | refine vZ ?_ | fail)) <;> (try clear zz)
   exact ⟨k,N,by omega,hpi.swap hpN,hps.rec_ hN1 hN2 (Nat.le_succ _),(have zz:=@t0; evZ),(have zz:=@t1; evZ),(have zz:=@t2; evZ),(have zz:=@t3; evZ),(have zz:=@t4; evZ),(have zz:=@t10; evZ),(have zz:=@t11; evZ),(have zz:=@t12; evZ)⟩
  ·(have zz:=aI @t0 (aI @t1 (aI @t2 (aI @t3 (aI @t4 (aI @t10 (aI @t11 @t12)))))); repeat' (first | refine zW ?_ | apply a_n | refine zO ?_ | refine vZ ?_ | refine cFZ ?_ | fail)) <;> (try clear zz)
   exact ⟨lim,M,hlim,hpi,hps,(have zz:=@t0; evZ),(have zz:=@t1; evZ),(have zz:=@t2; evZ),(have zz:=@t3; evZ),(have zz:=@t4; evZ),(have zz:=@t10; evZ),(have zz:=@t11; evZ),(have zz:=@t12; evZ)⟩
 clear t0 t1 t2 t3 t4 t10 t11 t12 hpi hps hlim hlim1
 rintro T H1 n1 ⟨lim,M,hlim,hpi,hps,t0,t1,t2,t3,t4,t10,t11,t12⟩
 refine aN (fun T H'' nx''=>∃ (p:Nat) (hint:Int),a1 ≤ p∧p < e1∧PS H H'' nx nx'' b (M.c3 f)∧T 0=.msl b (n * 3) 3 0 n∧T 1=.int .i64 (a1:Nat)∧T 2=.int .i64 (e1:Nat)∧T 3=.int .i64 (lim:Nat)∧T 4=.func g caps∧T 10=.bool wb∧T 11=.bool wp∧T 12=.int .i64 (l:Nat)∧T 13=.int .i64 (p:Nat)∧T 14=.int .i64 hint) ?_ ?_
 ·(have zz:=aI @t0 (aI @t1 (aI @t2 (aI @t3 (aI @t4 (aI @t10 (aI @t11 @t12)))))); repeat' (first | apply a_n | refine zO ?_ | refine vZ ?_ | fail)) <;> (try clear zz)
  refine aE ev0 (have zz:=aI @t0 (aI @t1 (aI @t2 (aI @t3 (aI @t4 (aI @t10 (aI @t11 @t12)))))); evZ) (xb hc (b:=b) hps.at_ (hbn _ _ _ hps) (hlen _ hpi) (hGA _ hpi) (a:=a1) (e:=e1) (by omega) (by omega) hn2) ?_
  rintro _ _ _ ⟨rfl,p,hint,v,rfl,hp1,hp2,rfl⟩
  (have zz:=aI @t0 (aI @t1 (aI @t2 (aI @t3 (aI @t4 (aI @t10 (aI @t11 @t12)))))); repeat' (first | apply a_n | refine zO ?_ | refine vZ ?_ | fail)) <;> (try clear zz)
  exact ⟨p,hint,hp1,hp2,hps.new hbx,(have zz:=@t0; evZ),(have zz:=@t1; evZ),(have zz:=@t2; evZ),(have zz:=@t3; evZ),(have zz:=@t4; evZ),(have zz:=@t10; evZ),(have zz:=@t11; evZ),(have zz:=@t12; evZ),ev0,ev0⟩
 clear t0 t1 t2 t3 t4 t10 t11 t12 hps
 rintro T H1 n1 ⟨p,hint,hp1,hp2,hps,t0,t1,t2,t3,t4,t10,t11,t12,t13,t14⟩
 refine aN (fun T H'' nx''=>∃ (p:Nat) (hint:Int) (M:List α),a1 ≤ p∧p < e1∧PI K a e L a1 e1 M∧PS H H'' nx nx'' b (M.c3 f)∧T 0=.msl b (n * 3) 3 0 n∧T 1=.int .i64 (a1:Nat)∧T 2=.int .i64 (e1:Nat)∧T 3=.int .i64 (lim:Nat)∧T 4=.func g caps∧T 10=.bool wb∧T 11=.bool wp∧T 12=.int .i64 (l:Nat)∧T 13=.int .i64 (p:Nat)∧T 14=.int .i64 hint) ?_ ?_
 ·by_cases h2:hint=2
  ·subst h2
   obtain ⟨p2,hp3⟩:∃ p2,e1 - 1 - (p - a1)=p2:=⟨_,rfl⟩
   have tp:(e1:Int) - 1 - ((p:Int) - (a1:Int))=(p2:Int):=by omega
   have tz:decide ((2:Int)=2)=true:=rfl
   (have zz:=aI @t0 (aI @t1 (aI @t2 (aI @t3 (aI @t4 (aI @t10 (aI @t11 (aI @t12 (aI @t13 (aI @t14 @tz))))))))); repeat' (first | refine zW ?_ | apply a_n | refine zO ?_ | refine vZ ?_ | (refine zGZ ?_ ?_ <;> (intro _hg; try (exfalso; omega))) | fail)) <;> (try clear zz)
   refine aE ev0 (have zz:=aI @t0 (aI @t1 (aI @t2 (aI @t3 (aI @t4 (aI @t10 (aI @t11 @t12)))))); evZ) (Bh hc (b:=b) hps.at_ (hlen _ hpi) (a:=a1) (e:=e1) (by omega) (by omega) hn2) ?_
   rintro _ _ _ ⟨rfl,N,rfl,hpN⟩
   (have zz:=aI @t0 (aI @t1 (aI @t2 (aI @t3 (aI @t4 (aI @t10 (aI @t11 (aI @t12 (aI @t13 (aI @t14 @tp))))))))); repeat' (first | refine zW ?_ | apply a_n | refine zO ?_ | refine vZ ?_ | fail)) <;> (try clear zz)
   exact ⟨p2,1,N,by omega,by omega,hpi.swap hpN,hps.upd,(have zz:=@t0; evZ),(have zz:=@t1; evZ),(have zz:=@t2; evZ),(have zz:=@t3; evZ),(have zz:=@t4; evZ),(have zz:=@t10; evZ),(have zz:=@t11; evZ),(have zz:=@t12; evZ),ev0,ev0⟩
  ·have tz:decide (hint=2)=false:=decide_eq_false h2
   (have zz:=aI @t0 (aI @t1 (aI @t2 (aI @t3 (aI @t4 (aI @t10 (aI @t11 (aI @t12 (aI @t13 (aI @t14 @tz))))))))); repeat' (first | refine zW ?_ | apply a_n | refine zO ?_ | refine vZ ?_ | refine cFZ ?_ | fail)) <;> (try clear zz)
   exact ⟨p,hint,M,hp1,hp2,hpi,hps,(have zz:=@t0; evZ),(have zz:=@t1; evZ),(have zz:=@t2; evZ),(have zz:=@t3; evZ),(have zz:=@t4; evZ),(have zz:=@t10; evZ),(have zz:=@t11; evZ),(have zz:=@t12; evZ),(have zz:=@t13; evZ),(have zz:=@t14; evZ)⟩
 clear t0 t1 t2 t3 t4 t10 t11 t12 t13 t14 hps hpi hp1 hp2
 rintro T H1 n1 ⟨p,hint,M,hp1,hp2,hpi,hps,t0,t1,t2,t3,t4,t10,t11,t12,t13,t14⟩
 refine aN (fun T H'' nx''=>∃ (M:List α),PI K a e L a1 e1 M∧PS H H'' nx nx'' b (M.c3 f)∧T 0=.msl b (n * 3) 3 0 n∧T 1=.int .i64 (a1:Nat)∧T 2=.int .i64 (e1:Nat)∧T 3=.int .i64 (lim:Nat)∧T 4=.func g caps∧T 10=.bool wb∧T 11=.bool wp∧T 12=.int .i64 (l:Nat)∧T 13=.int .i64 (p:Nat)) ?_ ?_
 ·cases wb
  ·cases wp
   ·(have zz:=aI @t0 (aI @t1 (aI @t2 (aI @t3 (aI @t4 (aI @t10 (aI @t11 (aI @t12 (aI @t13 @t14)))))))); repeat' (first | refine zW ?_ | apply a_n | refine zO ?_ | refine vZ ?_ | refine gFZ ?_ | refine cFZ ?_ | fail)) <;> (try clear zz)
    exact ⟨M,hpi,hps,(have zz:=@t0; evZ),(have zz:=@t1; evZ),(have zz:=@t2; evZ),(have zz:=@t3; evZ),(have zz:=@t4; evZ),(have zz:=@t10; evZ),(have zz:=@t11; evZ),(have zz:=@t12; evZ),(have zz:=@t13; evZ)⟩
   ·(have zz:=aI @t0 (aI @t1 (aI @t2 (aI @t3 (aI @t4 (aI @t10 (aI @t11 (aI @t12 (aI @t13 @t14)))))))); repeat' (first | refine zW ?_ | apply a_n | refine zO ?_ | refine vZ ?_ | refine gFZ ?_ | refine cFZ ?_ | fail)) <;> (try clear zz)
    exact ⟨M,hpi,hps,(have zz:=@t0; evZ),(have zz:=@t1; evZ),(have zz:=@t2; evZ),(have zz:=@t3; evZ),(have zz:=@t4; evZ),(have zz:=@t10; evZ),(have zz:=@t11; evZ),(have zz:=@t12; evZ),(have zz:=@t13; evZ)⟩
  ·cases wp
   ·(have zz:=aI @t0 (aI @t1 (aI @t2 (aI @t3 (aI @t4 (aI @t10 (aI @t11 (aI @t12 (aI @t13 @t14)))))))); repeat' (first | refine zW ?_ | apply a_n | refine zO ?_ | refine vZ ?_ | refine gTZ ?_ | refine gFZ ?_ | refine cFZ ?_ | fail)) <;> (try clear zz)
    exact ⟨M,hpi,hps,(have zz:=@t0; evZ),(have zz:=@t1; evZ),(have zz:=@t2; evZ),(have zz:=@t3; evZ),(have zz:=@t4; evZ),(have zz:=@t10; evZ),(have zz:=@t11; evZ),(have zz:=@t12; evZ),(have zz:=@t13; evZ)⟩
   ·by_cases h1:hint=1
    ·subst h1
     have tz:decide ((1:Int)=1)=true:=rfl
     (have zz:=aI @t0 (aI @t1 (aI @t2 (aI @t3 (aI @t4 (aI @t10 (aI @t11 (aI @t12 (aI @t13 (aI @t14 @tz))))))))); repeat' (first | refine zW ?_ | apply a_n | refine zO ?_ | refine vZ ?_ | refine gTZ ?_ | (refine zGZ ?_ ?_ <;> (intro _hg; try (exfalso; omega))) | fail)) <;> (try clear zz)
     refine aE ev0 (have zz:=aI @t0 (aI @t1 (aI @t2 (aI @t3 (aI @t4 (aI @t10 (aI @t11 @t12)))))); evZ) (va hc (b:=b) hps.at_ (hlen _ hpi) (hGA _ hpi) (a:=a1) (e:=e1) (by omega) (by omega) hn2 hpi.low) ?_
     rintro _ _ _ ⟨rfl,N,t,rfl,rfl,hpN,hsN⟩
     cases t
     ·(have zz:=aI @t0 (aI @t1 (aI @t2 (aI @t3 (aI @t4 (aI @t10 (aI @t11 (aI @t12 (aI @t13 @t14)))))))); repeat' (first | apply a_n | refine zO ?_ | refine cFZ ?_ | fail)) <;> (try clear zz)
      exact ⟨N,hpi.swap hpN,hps.upd,(have zz:=@t0; evZ),(have zz:=@t1; evZ),(have zz:=@t2; evZ),(have zz:=@t3; evZ),(have zz:=@t4; evZ),(have zz:=@t10; evZ),(have zz:=@t11; evZ),(have zz:=@t12; evZ),(have zz:=@t13; evZ)⟩
     ·(have zz:=aI @t0 (aI @t1 (aI @t2 (aI @t3 (aI @t4 (aI @t10 (aI @t11 (aI @t12 (aI @t13 @t14)))))))); repeat' (first | apply a_n | apply a_r | refine zO ?_ | refine cTZ ?_ | refine aa rfl ?_ | fail)) <;> (try clear zz)
      exact ⟨N,hps.upd,hpi.done hpN (hsN rfl)⟩
    ·have tz:decide (hint=1)=false:=decide_eq_false h1
     (have zz:=aI @t0 (aI @t1 (aI @t2 (aI @t3 (aI @t4 (aI @t10 (aI @t11 (aI @t12 (aI @t13 (aI @t14 @tz))))))))); repeat' (first | refine zW ?_ | apply a_n | refine zO ?_ | refine vZ ?_ | refine gTZ ?_ | refine cFZ ?_ | fail)) <;> (try clear zz)
     exact ⟨M,hpi,hps,(have zz:=@t0; evZ),(have zz:=@t1; evZ),(have zz:=@t2; evZ),(have zz:=@t3; evZ),(have zz:=@t4; evZ),(have zz:=@t10; evZ),(have zz:=@t11; evZ),(have zz:=@t12; evZ),(have zz:=@t13; evZ)⟩
 clear t0 t1 t2 t3 t4 t10 t11 t12 t13 t14 hps hpi hint
 rintro T H1 n1 ⟨M,hpi,hps,t0,t1,t2,t3,t4,t10,t11,t12,t13⟩
 have hbb:=hps.at_
 have hl:=hlen _ hpi
 have hGM:=hGA _ hpi
 refine aN (fun T H'' nx''=>T 0=.msl b (n * 3) 3 0 n∧T 1=.int .i64 (a1:Nat)∧T 2=.int .i64 (e1:Nat)∧T 3=.int .i64 (lim:Nat)∧T 4=.func g caps∧T 10=.bool wb∧T 11=.bool wp∧T 12=.int .i64 (l:Nat)∧T 13=.int .i64 (p:Nat)∧H1=H''∧n1=nx'') ?_ ?_
 ·by_cases ha0:a1=0
  ·have tz:decide ((0:Int) < (a1:Int))=false:=decide_eq_false (by omega)
   (have zz:=aI @t0 (aI @t1 (aI @t2 (aI @t3 (aI @t4 (aI @t10 (aI @t11 (aI @t12 (aI @t13 @tz)))))))); repeat' (first | refine zW ?_ | refine zM ?_ | apply a_n | refine zO ?_ | refine vZ ?_ | refine gFZ ?_ | refine cFZ ?_ | fail)) <;> (try clear zz)
   exact ⟨(have zz:=@t0; evZ),(have zz:=@t1; evZ),(have zz:=@t2; evZ),(have zz:=@t3; evZ),(have zz:=@t4; evZ),(have zz:=@t10; evZ),(have zz:=@t11; evZ),(have zz:=@t12; evZ),(have zz:=@t13; evZ),rfl,rfl⟩
  have tz:decide ((0:Int) < (a1:Int))=true:=decide_eq_true (by omega)
  obtain ⟨k,hk⟩:∃ k,a1 - 1=k:=⟨_,rfl⟩
  have tk:(a1:Int) - 1=(k:Int):=by omega
  have lc:=hc.run (M.getD k default) (M.getD p default) (hGM _ (ai (by omega))) (hGM _ (ai (by omega)))
  have d1:=hc.dat (M.getD k default)
  have d2:=hc.dat (M.getD p default)
  generalize hKK:K (M.getD k default) (M.getD p default)=kk at lc
  by_cases hlt:kk < 0
  ·(have zz:=aI @t0 (aI @t1 (aI @t2 (aI @t3 (aI @t4 (aI @t10 (aI @t11 (aI @t12 (aI @t13 (aI @tz (aI @tk (aI @hbb (aI @Int.toNat_natCast (aI (rdC hc.len) (aI (bf hc.len) (aI @bi (aI hc.agg hc.ones)))))))))))))))); repeat' (first | refine zW ?_ | refine zM ?_ | apply a_n | refine zO ?_ | refine vZ ?_ | refine cZ ?_ (hp:=lc) (hs:=by (first | refine aj ?_ rfl | apply ap); (repeat' (first | exact af | apply aG | apply av | exact d1 | exact d2 | exact ar dcap)); first | done | fail) | refine gTZ ?_ | (refine zGZ ?_ ?_ <;> (intro _hg; try (exfalso; omega))) | fail)) <;> (try clear zz)
   exact ⟨(have zz:=@t0; evZ),(have zz:=@t1; evZ),(have zz:=@t2; evZ),(have zz:=@t3; evZ),(have zz:=@t4; evZ),(have zz:=@t10; evZ),(have zz:=@t11; evZ),(have zz:=@t12; evZ),(have zz:=@t13; evZ),rfl,rfl⟩
  ·(have zz:=aI @t0 (aI @t1 (aI @t2 (aI @t3 (aI @t4 (aI @t10 (aI @t11 (aI @t12 (aI @t13 (aI @tz (aI @tk (aI @hbb (aI @Int.toNat_natCast (aI (rdC hc.len) (aI (bf hc.len) (aI @bi (aI hc.agg hc.ones)))))))))))))))); repeat' (first | refine zW ?_ | refine zM ?_ | apply a_n | refine zO ?_ | refine vZ ?_ | refine cZ ?_ (hp:=lc) (hs:=by (first | refine aj ?_ rfl | apply ap); (repeat' (first | exact af | apply aG | apply av | exact d1 | exact d2 | exact ar dcap)); first | done | fail) | refine gTZ ?_ | (refine zGZ ?_ ?_ <;> (intro _hg; try (exfalso; omega))) | fail)) <;> (try clear zz)
   refine aE ev0 (have zz:=aI @t0 (aI @t1 (aI @t2 (aI @t3 (aI @t4 (aI @t10 (aI @t11 (aI @t12 @t13))))))); evZ) (v9 hc (b:=b) hps.at_ (hlen _ hpi) (hGA _ hpi) (a:=a1) (e:=e1) (pv:=p) (by omega) (by omega) hn2 ⟨hp1,hp2⟩) ?_
   rintro _ _ _ ⟨rfl,N,m,rfl,hm1,hm2,rfl,hpN,q1,q2⟩
   (have zz:=aI @t0 (aI @t1 (aI @t2 (aI @t3 (aI @t4 (aI @t10 (aI @t11 (aI @t12 @t13))))))); repeat' (first | refine zW ?_ | apply a_n | apply a_x | refine zO ?_ | refine vZ ?_ | fail)) <;> (try clear zz)
   exact ⟨(m,e1,lim,wb,wp,N),by dsimp only; omega,⟨hpi.equal hc.ord hpN (by rw [hk,hKK]; exact hlt) (by omega) ⟨hm1,hm2⟩ q1 q2,hps.upd,hlim⟩,(have zz:=aI @t0 (aI @t1 (aI @t2 (aI @t3 (aI @t4 (aI @t10 (aI @t11 @t12)))))); agZ)⟩
 clear t0 t1 t2 t3 t4 t10 t11 t12 t13
 rintro T _ _ ⟨t0,t1,t2,t3,t4,t10,t11,t12,t13,rfl,rfl⟩
 refine aN (fun T H'' nx''=>∃ (M:List α) (m:Nat) (t:Bool),PI K a e L a1 e1 M∧TwoS K a1 e1 m M∧PS H H'' nx nx'' b (M.c3 f)∧T 0=.msl b (n * 3) 3 0 n∧T 1=.int .i64 (a1:Nat)∧T 2=.int .i64 (e1:Nat)∧T 3=.int .i64 (lim:Nat)∧T 4=.func g caps∧T 10=.bool wb∧T 11=.bool wp∧T 12=.int .i64 (l:Nat)∧T 16=.int .i64 (m:Nat)∧T 17=.bool t) ?_ ?_
 ·(have zz:=aI @t0 (aI @t1 (aI @t2 (aI @t3 (aI @t4 (aI @t10 (aI @t11 (aI @t12 @t13))))))); repeat' (first | apply a_n | refine zO ?_ | refine vZ ?_ | fail)) <;> (try clear zz)
  refine aE ev0 (have zz:=aI @t0 (aI @t1 (aI @t2 (aI @t3 (aI @t4 (aI @t10 (aI @t11 (aI @t12 @t13))))))); evZ) (A1 hc (b:=b) hps.at_ (hlen _ hpi) (hGA _ hpi) (a:=a1) (e:=e1) (pv:=p) (by omega) (by omega) hn2 ⟨hp1,hp2⟩) ?_
  rintro _ _ _ ⟨rfl,N,m,t,rfl,hm1,hm2,rfl,hpN,q1,q2⟩
  (have zz:=aI @t0 (aI @t1 (aI @t2 (aI @t3 (aI @t4 (aI @t10 (aI @t11 (aI @t12 @t13))))))); repeat' (first | apply a_n | refine zO ?_ | refine vZ ?_ | fail)) <;> (try clear zz)
  exact ⟨N,m,t,hpi.swap hpN,⟨⟨hm1,hm2⟩,fun p k1 k2=>hc.ord.asym _ _ (q1 p k1 k2),q2⟩,hps.upd,(have zz:=@t0; evZ),(have zz:=@t1; evZ),(have zz:=@t2; evZ),(have zz:=@t3; evZ),(have zz:=@t4; evZ),(have zz:=@t10; evZ),(have zz:=@t11; evZ),(have zz:=@t12; evZ),ev0,ev0⟩
 clear t0 t1 t2 t3 t4 t10 t11 t12 t13 hbb hl hGM hpi hps hp1 hp2 p
 rintro T H1 n1 ⟨M,m,t,hpi,hts,hps,t0,t1,t2,t3,t4,t10,t11,t12,t16,t17⟩
 have hm:=hts.mid
 have hl:=hlen _ hpi
 have tq:aW .quo false false (.int .i64 (l:Int)) (.int .i64 8)=some (.int .i64 ((l / 8:Nat):Int)):=by
  rw [fS (by omega) (by omega) (by omega)]
  congr 2
 have tm:(m:Int) + 1=((m + 1:Nat):Int):=by omega
 by_cases hlr:(m:Int) - (a1:Int) < (e1:Int) - (m:Int)
 ·have tz:decide ((m:Int) - (a1:Int) < (e1:Int) - (m:Int))=true:=decide_eq_true hlr
  (have zz:=aI @t0 (aI @t1 (aI @t2 (aI @t3 (aI @t4 (aI @t10 (aI @t11 (aI @t12 (aI @t16 (aI @t17 (aI @tq @tz)))))))))); repeat' (first | refine zW ?_ | apply a_n | refine zO ?_ | refine vZ ?_ | refine cTZ ?_ | fail)) <;> (try clear zz)
  refine aE ev0 (have zz:=aI @t0 (aI @t1 (aI @t2 (aI @t3 (aI @t4 (aI @t10 (aI @t11 (aI @t12 (aI @t16 @t17)))))))); evZ) (ih a1 m lim M H1 n1 (by omega) hps.at_ (hbn _ _ _ hps) hl (hGA _ hpi) (by omega) (by omega) hlim (hpi.low.sub rfl (by omega))) ?_
  rintro _ H2 n2 ⟨N,hps2,hpN,hsN⟩
  (have zz:=aI @t0 (aI @t1 (aI @t2 (aI @t3 (aI @t4 (aI @t10 (aI @t11 (aI @t12 (aI @t16 (aI @t17 @tm))))))))); repeat' (first | apply a_n | refine zO ?_ | refine vZ ?_ | fail)) <;> (try clear zz)
  exact ⟨(m + 1,e1,lim,decide (((l / 8:Nat):Int) ≤ (m:Int) - (a1:Int)),t,N),by dsimp only; omega,⟨hpi.left hc.ord hts hpN hsN,hps.rec_ hps2.at_ hps2.fr hps2.le,hlim⟩,(have zz:=aI @t0 (aI @t1 (aI @t2 (aI @t3 (aI @t4 (aI @t10 (aI @t11 (aI @t12 (aI @t16 @t17)))))))); agZ)⟩
 ·have tz:decide ((m:Int) - (a1:Int) < (e1:Int) - (m:Int))=false:=decide_eq_false hlr
  (have zz:=aI @t0 (aI @t1 (aI @t2 (aI @t3 (aI @t4 (aI @t10 (aI @t11 (aI @t12 (aI @t16 (aI @t17 (aI @tq (aI @tz @tm))))))))))); repeat' (first | refine zW ?_ | apply a_n | refine zO ?_ | refine vZ ?_ | refine cFZ ?_ | fail)) <;> (try clear zz)
  refine aE ev0 (have zz:=aI @t0 (aI @t1 (aI @t2 (aI @t3 (aI @t4 (aI @t10 (aI @t11 (aI @t12 (aI @t16 @t17)))))))); evZ) (ih (m + 1) e1 lim M H1 n1 (by omega) hps.at_ (hbn _ _ _ hps) hl (hGA _ hpi) (by omega) (by omega) hlim (fun q k0 k1 k2=>by rw [Nat.add_sub_cancel]; exact hts.ge q k1 k2)) ?_
  rintro _ H2 n2 ⟨N,hps2,hpN,hsN⟩
  (have zz:=aI @t0 (aI @t1 (aI @t2 (aI @t3 (aI @t4 (aI @t10 (aI @t11 (aI @t12 (aI @t16 @t17)))))))); repeat' (first | apply a_n | refine zO ?_ | refine vZ ?_ | fail)) <;> (try clear zz)
  exact ⟨(a1,m,lim,decide (((l / 8:Nat):Int) ≤ (e1:Int) - (m:Int)),t,N),by dsimp only; omega,⟨hpi.right hc.ord hts hpN hsN,hps.rec_ hps2.at_ hps2.fr hps2.le,hlim⟩,(have zz:=aI @t0 (aI @t1 (aI @t2 (aI @t3 (aI @t4 (aI @t10 (aI @t11 (aI @t12 (aI @t16 @t17)))))))); agZ)⟩
end
end Go.Proofs.YtjgpfclngkcedaaGreat
namespace Go.Proofs.YtjgpfclngkcedaaGreat
open Go Go.Abs
open Nat (reduceEqDiff reduceAdd reduceLeDiff)
section
variable {α:Type} [Inhabited α] {f:α→AV} {K:α→α→Int} {G:α→Prop} {g:Nat} {caps:List AV}
attribute [local irreducible] aD ag aS aP aH aJ ay aK aQ aZ Go.Abs.Fn aO Go.Abs.Pure al aC Yl
theorem yc (hc:Cmp3 Tryz.prog f K G g caps) {L:List α} {H:Hp} {b nx n:Nat} (hH:H b=some (L.c3 f)) (hbx:b < nx) (hn:L.length=n) (hn0:0 < n) (hG:∀ x ∈ L,G x) (hn2:n ≤ 1000000000) :
    Abs.Fn Tryz.prog 62 [.msl b (n * 3) 3 0 n,.func g caps] H nx fun r H' nx'=>∃ L',PS H H' nx nx' b (L'.c3 f)∧L'.Perm L∧aR K 0 n L':=by
 refine Abs.Fn.of_c2 follows B8 (Nat.le_of_ble_eq_true rfl) ?_
 simp only [b62,cO,cG,cN,cM,cD,cF,cB,aw,aF]
 have w:IntKind.wrap .u64 (n:Int)=n:=fh (by omega) (by omega)
 (have zz:=@w; repeat' (first | refine zW ?_ | apply a_n | refine zO ?_ | refine vZ ?_ | fail)) <;> (try clear zz)
 refine aE ev0 (have zz:=@w; evZ) (xf hn0 (by omega)) ?_
 rintro _ _ _ ⟨rfl,rfl,k,rfl,h3,h4⟩
 have hk:k ≤ 62:=by
  rcases Nat.lt_or_ge 62 k with h | h
  ·have:=Nat.pow_le_pow_right (n:=2) (by omega) h
   omega
  ·exact h
 (have zz:=and_self; repeat' (first | apply a_n | refine zO ?_ | refine vZ ?_ | fail)) <;> (try clear zz)
 refine aE ev0 (have zz:=@Int.natCast_zero; evZ) (Cv hc hn2 (n + 1) 0 n k L _ _ (by omega) hH hbx hn hG (by omega) (Nat.le_refl _) (by omega) (fun q h=>by omega)) ?_
 rintro _ _ _ ⟨N,hps,hp,hs⟩
 (have zz:=and_self; repeat' (first | apply a_n | refine zO ?_ | refine aa rfl ?_ | fail)) <;> (try clear zz)
 exact ⟨N,hps,hp.perm,hs⟩
end
end Go.Proofs.YtjgpfclngkcedaaGreat
namespace Go.Proofs.YtjgpfclngkcedaaGreat
open Go Go.Abs
open Nat (reduceEqDiff reduceAdd reduceLeDiff)
def oW (l:List Int) (i:Nat):Int:=if l.getD i default < 0 ∨ (l.length:Int) ≤ l.getD i default then 2 else if (l.take i).any (fun x=>decide (x=l.getD i default)) then 7 else 0
def bF (l:List Int):Int:=if l.length < 1 ∨ 5 < l.length then 2 else bB (oW l) l.length
theorem cX {l:List Int} (h:bF l=0):1 ≤ l.length∧l.length ≤ 5∧(∀ i,i < l.length→0 ≤ l.getD i default∧l.getD i default < l.length)∧∀ i j,i < j→j < l.length→l.getD i default ≠ l.getD j default:=by
 unfold bF at h
 split at h
 ·exact absurd h (by decide)
 rename_i h1
 have hz:=dj h
 have hp:∀ i,i < l.length→(0 ≤ l.getD i default∧l.getD i default < l.length)∧(l.take i).any (fun x=>decide (x=l.getD i default))=false:=fun i hi=>by
  have:=hz i hi
  unfold oW at this
  split at this
  ·exact absurd this (by decide)
  rename_i h2
  split at this
  ·exact absurd this (by decide)
  rename_i h3
  exact ⟨by omega,by cases hq:(l.take i).any (fun x=>decide (x=l.getD i default)) with
   | false=>rfl
   | true=>exact absurd hq h3⟩
 refine ⟨by omega,by omega,fun i hi=>(hp i hi).1,fun i j hij hj e=>?_⟩
 have:=(hp j hj).2
 rw [List.any_eq_false] at this
 refine this (l.getD i default) ?_ (decide_eq_true e)
 rw [List.mem_iff_getElem?]
 refine ⟨i,?_⟩
 rw [List.getElem?_take,if_pos hij]
 simp [List.getD,show i < l.length by omega]
def ik (l:List Int) (k:Nat):List Bool:=(List.range 5).map fun (p:Nat)=>(l.take k).any fun x=>decide (x=(p:Int))
theorem oQ (l:List Int) (k:Nat):(ik l k).length=5:=by simp [ik]
theorem uA {l:List Int} {k p:Nat} (hp:p < 5):(ik l k).getD p default=(l.take k).any fun x=>decide (x=(p:Int)):=by simp [ik,List.getD,hp]
theorem uW {l:List Int} {k p:Nat} (hk:k < l.length) (e:l.getD k default=(p:Int)):(ik l k).set p true=ik l (k + 1):=by
 refine List.ext_getElem (by simp [ik]) fun i h1 h2=>?_
 rw [List.getElem_set]
 simp only [ik,List.getElem_map,List.getElem_range,cI hk,List.any_append,List.any_cons,List.any_nil,Bool.or_false,e]
 by_cases hi:p=i
 ·subst hi; rw [if_pos rfl]; simp
 ·rw [if_neg hi,decide_eq_false (by omega),Bool.or_false]
def mvK (v p:List Int):Nat→List Int
 | 0=>List.replicate v.length 0
 | k + 1=>(mvK v p k).set (p.getD k default).toNat (v.getD k default)
def bQ (v p:List Int):List Int:=mvK v p v.length
theorem mh (v p:List Int) (k:Nat):(mvK v p k).length=v.length:=by
 induction k with
 | zero=>simp [mvK]
 | succ k ih=>rw [mvK,List.length_set,ih]
theorem bx (v p:List Int):(bQ v p).length=v.length:=mh v p _
theorem sW {v p:List Int} (hp:bF p=0) (hl:v.length=p.length):∀ {k i:Nat},i < k→k ≤ p.length→(mvK v p k).getD (p.getD i default).toNat default=v.getD i default
 | 0,i,h,_=>absurd h (by omega)
 | k + 1,i,h,hk=>by
  obtain ⟨_,_,p3,p4⟩:=cX hp
  have a1:=p3 i (by omega)
  have a2:=p3 k (by omega)
  have hlen:=mh v p k
  rw [mvK]
  by_cases e:i=k
  ·subst e
   rw [bZ (by omega),if_pos rfl]
  ·have hne:p.getD i default ≠ p.getD k default:=p4 i k (by omega) (by omega)
   rw [bZ (by omega),if_neg (by omega)]
   exact sW hp hl (by omega) (by omega)
theorem ey {v p:List Int} (hp:bF p=0) (hl:v.length=p.length) {i:Nat} (hi:i < p.length):(bQ v p).getD (p.getD i default).toNat default=v.getD i default:=sW hp hl (by omega) (by omega)
theorem kH {v w p:List Int} (hp:bF p=0) (hv:v.length=p.length) (hw:w.length=p.length) (h:bQ v p=bQ w p):v=w:=by
 refine List.ext_getElem (by omega) fun i h1 h2=>?_
 have a:=ey hp hv (i:=i) (by omega)
 have b:=ey hp hw (i:=i) (by omega)
 rw [h,b] at a
 simpa [List.getD,h1,h2] using a.symm
attribute [local irreducible] aD ag aS aP aH aJ ay aK aQ aZ Go.Abs.Fn aO Go.Abs.Pure al aC Yl
theorem oo {T:Tm} {H:Hp} {b n off len sz q:Nat} {x i:Opd} (hx:ov T x=.ptr b n off) (hi:ov T i=.int .i64 (q:Int)) (h:q < len):aY T H (.ixaA len sz x i)=some (.ptr b n (off + q * sz)):=by
 simp only [aY,hx,hi,jL]
 rw [if_pos ⟨by omega,by omega⟩]
 simp [ga]
theorem qt (n:Int):Pure Tryz.prog 118 [.int .i64 n] (.int .i64 (if n < 1 ∨ 5 < n then 2 else 0)):=by
 refine Pure.of_c2 follows zj (Nat.le_of_ble_eq_true rfl) ?_
 simp only [zT,cO,cG,cN,cM,cD,cF,cB,aw,aF]
 by_cases h:n < 1 ∨ 5 < n
 ·rw [if_pos h]
  (have zz:=and_self; repeat' (first | refine zW ?_ | apply a_n | apply a_r | refine zO ?_ | refine vZ ?_ | refine gTZ ?_ | refine gFZ ?_ | refine cTZ ?_ | (refine zGZ ?_ ?_ <;> (intro _hg; try (exfalso; omega))) | refine aa rfl ?_ | refine r1Z ?_ | fail)) <;> (try clear zz)
  all_goals exact be rfl
 ·rw [if_neg h]
  (have zz:=and_self; repeat' (first | refine zW ?_ | apply a_n | refine zO ?_ | refine vZ ?_ | refine gTZ ?_ | (refine zGZ ?_ ?_ <;> (intro _hg; try (exfalso; omega))) | refine aa rfl ?_ | refine r1Z ?_ | fail)) <;> (try clear zz)
  all_goals exact be rfl
theorem fK (l:List Int) (hl:Sh l):Pure Tryz.prog 86 [az l] (.int .i64 (bF l)):=by
 have hl':l.length ≤ 17592186044416:=hl
 refine Pure.of_c2 follows B7 (Nat.le_of_ble_eq_true rfl) ?_
 simp only [b86,cO,cG,cN,cM,cD,cF,cB,aw,aF]
 have hn:=qt l.length
 by_cases h:l.length < 1 ∨ 5 < l.length
 ·have e:bF l=2:=by unfold bF; rw [if_pos h]
  rw [if_pos (by omega)] at hn
  rw [e]
  (have zz:=and_self; repeat' (first | refine zW ?_ | apply a_n | apply a_r | refine zO ?_ | refine vZ ?_ | refine cZ ?_ (hp:=hn) | (refine zGZ ?_ ?_ <;> (intro _hg; try (exfalso; omega))) | refine aa rfl ?_ | refine r1Z ?_ | fail)) <;> (try clear zz)
  exact be rfl
 rw [if_neg (by omega)] at hn
 have e:bF l=bB (oW l) l.length:=by unfold bF; rw [if_neg h]
 rw [e]
 (have zz:=and_self; repeat' (first | refine zW ?_ | apply a_n | refine zO ?_ | refine vZ ?_ | refine cZ ?_ (hp:=hn) | refine alZ ?_ | (refine zGZ ?_ ?_ <;> (intro _hg; try (exfalso; omega))) | fail)) <;> (try clear zz)
 refine a9 (X:=Nat) (fun k=>[(0,az l),(4,.ptr 0 5 0),(13,az l),(14,.int .i64 l.length),(15,.int .i64 k)]) (fun k H nx=>k ≤ l.length∧H=ak aV 0 ((ik l k).map AV.bool)∧nx=1∧∀ i,i < k→oW l i=0) (fun k=>l.length - k) 0 ⟨Nat.zero_le _,rfl,rfl,fun i hi=>absurd hi (by omega)⟩ (by simp (disch:=omega) only [agr,ZG,reduceEqDiff,↓reduceIte,List.length_cons,List.length_nil,Nat.zero_add,reduceAdd]) ?_
 rintro k H nx ⟨hk,rfl,rfl,hz⟩
 by_cases hk2:k < l.length
 rotate_left
 ·(have zz:=and_self; repeat' (first | refine zW ?_ | apply a_n | apply a_x | refine zO ?_ | refine vZ ?_ | (refine zGZ ?_ ?_ <;> (intro _hg; try (exfalso; omega))) | refine aa rfl ?_ | refine r1Z ?_ | fail)) <;> (try clear zz)
  refine be ?_
  rw [bv fun i hi=>hz i (by omega)]
 have ho:oW l k=if l.getD k default < 0 ∨ (l.length:Int) ≤ l.getD k default then 2 else if (l.take k).any (fun x=>decide (x=l.getD k default)) then 7 else 0:=rfl
 by_cases hr:l.getD k default < 0 ∨ (l.length:Int) ≤ l.getD k default
 ·rw [if_pos hr] at ho
  (have zz:=and_self; repeat' (first | refine zW ?_ | apply a_n | apply a_r | refine zO ?_ | refine vZ ?_ | refine gTZ ?_ | refine gFZ ?_ | refine cTZ ?_ | (refine zGZ ?_ ?_ <;> (intro _hg; try (exfalso; omega))) | refine aa rfl ?_ | refine r1Z ?_ | fail)) <;> (try clear zz)
  all_goals (refine be ?_; rw [b0 hk2 hz (by rw [ho]; decide),ho])
 rw [if_neg hr] at ho
 obtain ⟨q,hq⟩:∃ q:Nat,l.getD k default=q:=⟨(l.getD k default).toNat,by omega⟩
 have hq5:q < 5:=by omega
 have hsb:=uA (l:=l) (k:=k) hq5
 have hsl:=oQ l k
 have hss:=uW hk2 hq
 rw [hq] at ho hr
 have hge:((ik l k).map AV.bool)[q]?=some (.bool ((l.take k).any fun x=>decide (x=(q:Int)))):=by
  rw [← hsb,getElem?_map_lt (by omega)]
 have hla:=oQ l k
 cases hb:(l.take k).any (fun x=>decide (x=(q:Int)))
 ·rw [hb] at hge ho
  rw [if_neg (by decide)] at ho
  have hlm:=dE (f:=AV.bool) (l:=ik l k) (k:=q) (x:=true) (by omega)
  have hlm2:=hlm
  simp only [bj,List.length_cons,List.length_nil,Nat.zero_add] at hlm2
  (have zz:=@hq; repeat' (first | refine zW ?_ | apply a_n | refine zO ?_ | refine vZ ?_ | refine gTZ ?_ | (refine zGZ ?_ ?_ <;> (intro _hg; try (exfalso; omega))) | fail)) <;> (try clear zz)
  refine rc rfl rfl (oo ev0 (have zz:=@hq; evZ) hq5) ?_
  (have zz:=aI @hq @hge; repeat' (first | apply a_n | refine zO ?_ | refine vZ ?_ | refine cFZ ?_ | fail)) <;> (try clear zz)
  refine rc rfl rfl (oo ev0 (have zz:=@hq; evZ) hq5) ?_
  (have zz:=@hq; repeat' (first | apply a_n | refine zO ?_ | refine vZ ?_ | refine stZ ?_ | fail)) <;> (try clear zz)
  exact ⟨k + 1,by omega,⟨by omega,by rw [an,Nat.mul_one,hlm,hss],rfl,fun i hi=>by
   rcases Nat.lt_succ_iff_lt_or_eq.1 hi with h | rfl
   ·exact hz i h
   ·exact ho⟩,ag0⟩
 ·rw [hb] at hge ho
  rw [if_pos rfl] at ho
  (have zz:=@hq; repeat' (first | refine zW ?_ | apply a_n | refine zO ?_ | refine vZ ?_ | refine gTZ ?_ | (refine zGZ ?_ ?_ <;> (intro _hg; try (exfalso; omega))) | fail)) <;> (try clear zz)
  refine rc rfl rfl (oo ev0 (have zz:=@hq; evZ) hq5) ?_
  (have zz:=aI @hq @hge; repeat' (first | refine zW ?_ | apply a_n | apply a_r | refine zO ?_ | refine vZ ?_ | refine cTZ ?_ | refine aa rfl ?_ | refine r1Z ?_ | fail)) <;> (try clear zz)
  refine be ?_
  rw [b0 hk2 hz (by rw [ho]; decide),ho]
theorem vK (v p:List Int) (hp:bF p=0) (hl:v.length=p.length):Pure Tryz.prog 126 [az p,az v] (.tup [az (bQ v p),.int .i64 0]):=by
 obtain ⟨p1,p2,p3,p4⟩:=cX hp
 have hc:=fK p (show p.length ≤ _ by omega)
 rw [hp] at hc
 have hlv:decide ((v.length:Int)=(p.length:Int))=true:=decide_eq_true (by omega)
 have hz:a7 (.agg [.int .i64 0]) v.length=(mvK v p 0).map (AV.int .i64):=by
  simp [a7,mvK,AV.cells]
 refine Pure.of_c2 follows yZ (Nat.le_of_ble_eq_true rfl) ?_
 simp only [zK,cO,cG,cN,cM,cD,cF,cB,aw,aF]
 (have zz:=@hlv; repeat' (first | refine zW ?_ | apply a_n | refine zO ?_ | refine vZ ?_ | refine cZ ?_ (hp:=hc) | (refine zGZ ?_ ?_ <;> (intro _hg; try (exfalso; omega))) | fail)) <;> (try clear zz)
 refine y1 rfl ev0 ev0 (by omega) (by omega) (by omega) (by omega) ?_
 rw [Int.toNat_natCast,hz]
 (have zz:=and_self; repeat' (first | refine zW ?_ | apply a_n | refine zO ?_ | refine vZ ?_ | fail)) <;> (try clear zz)
 refine a9 (X:=Nat) (fun k=>[(0,az p),(1,az v),(7,.msl 0 v.length 1 0 v.length),(23,az p),(24,.int .i64 p.length),(25,.int .i64 k)]) (fun k H nx=>k ≤ p.length∧H=ak aV 0 ((mvK v p k).map (AV.int .i64))∧nx=1) (fun k=>p.length - k) 0 ⟨Nat.zero_le _,rfl,rfl⟩ (by simp (disch:=omega) only [agr,ZG,reduceEqDiff,↓reduceIte,Nat.mul_one]) ?_
 rintro k H nx ⟨hk,rfl,rfl⟩
 have hml:=mh v p k
 by_cases hk2:k < p.length
 ·have hr:=p3 k hk2
  have hlm:=dE (f:=AV.int .i64) (l:=mvK v p k) (k:=(p.getD k default).toNat) (x:=v.getD k default) (by omega)
  (have zz:=and_self; repeat' (first | refine zW ?_ | apply a_n | refine zO ?_ | refine vZ ?_ | refine stZ ?_ | (refine zGZ ?_ ?_ <;> (intro _hg; try (exfalso; omega))) | fail)) <;> (try clear zz)
  exact ⟨k + 1,by omega,⟨by omega,by rw [an,hlm]; rfl,rfl⟩,ag0⟩
 ·obtain rfl:k=p.length:=by omega
  (have zz:=and_self; repeat' (first | refine zW ?_ | apply a_n | apply a_x | refine zO ?_ | refine vZ ?_ | (refine zGZ ?_ ?_ <;> (intro _hg; try (exfalso; omega))) | refine aa rfl ?_ | refine r2Z ?_ | fail)) <;> (try clear zz)
  rw [show bQ v p=mvK v p p.length by unfold bQ; rw [hl]]
  exact di (aq (jW au rfl (by rw [mh])) (aq (.int _ _) af))
end Go.Proofs.YtjgpfclngkcedaaGreat
namespace Go.Proofs.YtjgpfclngkcedaaGreat
open Go Go.Abs
open Nat (reduceEqDiff reduceAdd reduceLeDiff)
section
variable {α:Type} [Inhabited α] {K:α→α→Int}
def ky (K:α→α→Int) (l:List α) (v:α):Nat→Nat
 | 0=>0
 | k + 1=>if K v (l.getD k default) < 0 then ky K l v k else k + 1
def mw (K:α→α→Int) (l:List α) (v:α):List α:=l.take (ky K l v l.length) ++ v :: l.drop (ky K l v l.length)
def fJ (K:α→α→Int) (l:List α):List α:=l.foldl (mw K) []
theorem tC (l:List α) (v:α):∀ k,ky K l v k ≤ k
 | 0=>Nat.le_refl _
 | k + 1=>by
  rw [ky]
  split
  ·exact Nat.le_succ_of_le (tC l v k)
  ·exact Nat.le_refl _
theorem nw {l:List α} {v:α}:∀ {k i:Nat},ky K l v k ≤ i→i < k→K v (l.getD i default) < 0
 | 0,i,_,h=>absurd h (by omega)
 | k + 1,i,h1,h2=>by
  rw [ky] at h1
  split at h1
  ·by_cases e:i=k
   ·subst e; assumption
   ·exact nw h1 (by omega)
  ·omega
theorem mV {l:List α} {v:α}:∀ {k:Nat},0 < ky K l v k→¬ K v (l.getD (ky K l v k - 1) default) < 0
 | 0,h=>absurd h (Nat.lt_irrefl _)
 | k + 1,h=>by
  rw [ky] at h ⊢
  split
  ·rename_i c
   rw [if_pos c] at h
   exact mV h
  ·rename_i c
   rw [Nat.add_sub_cancel]; exact c
theorem i4 (l:List α) (v:α):(mw K l v).Perm (v :: l):=by
 unfold mw
 refine List.perm_middle.trans ?_
 rw [List.take_append_drop]
theorem wv (l:List α) (v:α):(mw K l v).length=l.length + 1:=by
 rw [(i4 l v).length_eq]; rfl
def bw (K:α→α→Int) (l:List α):Prop:=l.Pairwise fun x y=>¬ K y x < 0
theorem bw.of {l:List α} (h:aR K 0 l.length l):bw K l:=by
 unfold bw
 rw [List.pairwise_iff_getElem]
 intro i j hi hj hij
 have:=h i j (Nat.zero_le _) hij hj
 simpa [List.getD,hi,hj] using this
theorem lX (hK:Ord K) {l:List α} {v:α} (h:bw K l):bw K (mw K l v):=by
 unfold mw
 have hle:=tC (K:=K) l v l.length
 have hab:∀ i,ky K l v l.length ≤ i→i < l.length→K v (l.getD i default) < 0:=fun i h1 h2=>nw h1 h2
 have hbe:0 < ky K l v l.length→¬ K v (l.getD (ky K l v l.length - 1) default) < 0:=fun h=>mV h
 generalize ky K l v l.length=k at *
 have hs:∀ i j (hi:i < l.length) (hj:j < l.length),i < j→¬ K l[j] l[i] < 0:=List.pairwise_iff_getElem.1 h
 have hlow:∀ x ∈ l.take k,¬ K v x < 0:=fun x hx=>by
  obtain ⟨i,hi,rfl⟩:=List.getElem_of_mem hx
  rw [List.length_take] at hi
  rw [List.getElem_take]
  have hk:=hbe (by omega)
  have e:l.getD (k - 1) default=l[k - 1]'(by omega):=by simp [List.getD,show k - 1 < l.length by omega]
  rw [e] at hk
  by_cases hik:i=k - 1
  ·subst hik; exact hk
  ·exact hK.negtr _ _ _ (hs i (k - 1) (by omega) (by omega) (by omega)) hk
 have hup:∀ x ∈ l.drop k,K v x < 0:=fun x hx=>by
  obtain ⟨i,hi,rfl⟩:=List.getElem_of_mem hx
  rw [List.length_drop] at hi
  rw [List.getElem_drop]
  have:=hab (k + i) (by omega) (by omega)
  simpa [List.getD,show k + i < l.length by omega] using this
 unfold bw
 rw [List.pairwise_append,List.pairwise_cons]
 refine ⟨List.Pairwise.sublist (List.take_sublist _ _) h,⟨fun x hx=>hK.asym _ _ (hup x hx),List.Pairwise.sublist (List.drop_sublist _ _) h⟩,fun x hx y hy=>?_⟩
 rcases List.mem_cons.1 hy with rfl | hy
 ·exact hlow x hx
 ·exact hK.negtr _ _ _ (hlow x hx) (hK.asym _ _ (hup y hy))
theorem iC:∀ (l acc:List α),(l.foldl (mw K) acc).Perm (acc ++ l)
 | [],acc=>by simp
 | v :: l,acc=>by
  refine (iC l (mw K acc v)).trans ?_
  refine (List.Perm.append_right l (i4 acc v)).trans ?_
  rw [List.cons_append]
  exact List.perm_middle.symm
theorem gp (hK:Ord K):∀ (l acc:List α),bw K acc→bw K (l.foldl (mw K) acc)
 | [],acc,h=>h
 | v :: l,acc,h=>gp hK l (mw K acc v) (lX hK h)
theorem bP (l:List α):(fJ K l).Perm l:=by
 have:=iC (K:=K) l []
 rwa [List.nil_append] at this
theorem e9 (hK:Ord K) (l:List α):bw K (fJ K l):=gp hK l [] .nil
theorem fl (l:List α):(fJ K l).length=l.length:=(bP l).length_eq
theorem gB (hK:Ord K) {L L':List α} (hA:∀ x ∈ L,∀ y ∈ L,¬ K x y < 0→¬ K y x < 0→x=y) (hs:bw K L') (hp:L'.Perm L):L'=fJ K L :=
 List.Perm.eq_of_pairwise (fun x y hx hy hxy hyx=>hA x (hp.mem_iff.1 hx) y ((bP L).mem_iff.1 hy) hyx hxy) hs (e9 hK L) (hp.trans (bP L).symm)
end
theorem kO:Ord ba where
 irr x:=by rw [ci]; omega
 asym x y h:=by rw [dP]; omega
 negtr x y z h1 h2 h3:=by
  rcases gH y x with h | h | h
  ·omega
  ·have e:=gm h; subst e; exact h2 h3
  ·have hxy:ba x y < 0:=by rw [dP]; omega
   have:=il h3 hxy
   omega
theorem nD {x y:List Int} (h1:¬ ba x y < 0) (h2:¬ ba y x < 0):x=y:=by
 rw [dP] at h2
 exact gm (by omega)
abbrev qQ (l:List (List Int)):List (List Int):=fJ ba l
theorem Cu:Cmp Tryz.prog az ba (fun l=>Sh l) 64 [] where
 cells _:=rfl
 one _:=rfl
 dat v:=aU v
 dcaps:=by simp
 run x y hx hy:=iS x y hx hy
 ord:=kO
attribute [local irreducible] aD ag aS aP aH aJ ay aK aQ aZ Go.Abs.Fn aO Go.Abs.Pure al aC Yl
def bS (l:List (List Int)) (p:List Int):List (List Int):=qQ (l.map fun v=>bQ v p)
theorem qk (l:List (List Int)) (p:List Int) (hp:bF p=0) (hl:l.length ≤ 100000) (hv:∀ v ∈ l,v.length=p.length):Pure Tryz.prog 87 [aA l,az p] (aA (bS l p)):=by
 refine Pure.of_c2 follows Cy (Nat.le_of_ble_eq_true rfl) ?_
 simp only [b87,cO,cG,cN,cM,cD,cF,cB,aw,aF]
 have hp5:=(cX hp).2.1
 (have zz:=and_self; repeat' (first | refine zW ?_ | apply a_n | refine zO ?_ | refine vZ ?_ | fail)) <;> (try clear zz)
 refine a9 (X:=AV × Nat) (fun x=>[(1,az p),(5,x.1),(10,aA l),(11,.int .i64 l.length),(12,.int .i64 x.2)]) (fun x H nx=>x.2 ≤ l.length∧Row H 1 x.1 (((l.take x.2).map fun v=>bQ v p).map az)∧(∀ b,eK x.1=some b→b < nx)∧(x.2=0→x.1=.esl)) (fun x=>l.length - x.2) (.esl,0) ⟨Nat.zero_le _,Row.nil,fun b hb=>(by cases hb),fun _=>rfl⟩ ag0 ?_
 rintro ⟨s,j⟩ H nx ⟨h1,h2,h3,h4⟩
 dsimp only at h1 h2 h3 h4 ⊢
 by_cases hj:j < l.length
 ·have hw:=ai hj
  have hvc:=vK (l.getD j default) p hp (hv _ hw)
  (have zz:=and_self; repeat' (first | refine zW ?_ | apply a_n | refine zO ?_ | refine vZ ?_ | refine cZ ?_ (hp:=hvc) | refine blZ ?_ | (refine zGZ ?_ ?_ <;> (intro _hg; try (exfalso; omega))) | fail)) <;> (try clear zz)
  refine lB rfl ev0 (h2.same fun b hb=>?_) ev0 ro rfl rfl Nat.one_pos (by simp; omega) (by simp; omega) ?_
  ·have:=h3 b hb
   rw [ao (by omega)]
  rintro s2 E e hrow hle1 hle2 hsame hb2
  (have zz:=and_self; repeat' (first | apply a_n | refine zO ?_ | refine vZ ?_ | fail)) <;> (try clear zz)
  refine ⟨(s2,j + 1),by dsimp only; omega,⟨by dsimp only; omega,?_,fun b hb=>?_,fun h=>absurd h (Nat.succ_ne_zero _)⟩,ag0⟩
  ·dsimp only
   rw [cI hj,List.map_append,List.map_append]
   exact hrow
  ·rcases hb2 b hb with h | h
   ·have:=h3 b h; omega
   ·omega
 ·rw [List.take_of_length_le (by omega)] at h2
  unfold bS
  generalize hL:(l.map fun v=>bQ v p)=L at h2 ⊢
  have hLl:L.length=l.length:=by rw [← hL,List.length_map]
  have hLs:∀ x ∈ L,Sh x:=fun x hx=>by
   rw [← hL] at hx
   obtain ⟨v,hv2,rfl⟩:=List.mem_map.1 hx
   show (bQ v p).length ≤ _
   rw [bx,hv v hv2]; omega
  rcases Nat.eq_zero_or_pos L.length with h0 | h0
  ·have e:=List.length_eq_zero_iff.1 h0
   subst e
   obtain rfl:s=.esl:=h4 (by simp at hLl; omega)
   (have zz:=and_self; repeat' (first | refine zW ?_ | apply a_n | apply a_x | refine zO ?_ | refine vZ ?_ | (refine zGZ ?_ ?_ <;> (intro _hg; try (exfalso; omega))) | fail)) <;> (try clear zz)
   refine aE ev0 ev0 yp ?_
   rintro _ _ _ ⟨rfl,rfl⟩
   (have zz:=and_self; repeat' (first | refine zW ?_ | apply a_n | refine zO ?_ | refine vZ ?_ | refine aa rfl ?_ | refine r1Z ?_ | fail)) <;> (try clear zz)
   exact .eslsl 1
  have hrow:∃ B,s=.msl B L.length 1 0 L.length∧H B=some (L.map az)∧B < nx:=by
   generalize hcs:L.map az=cs at h2
   cases h2 with
   | nil =>
    rw [List.map_eq_nil_iff] at hcs
    rw [hcs] at h0; exact absurd h0 (Nat.lt_irrefl _)
   | box B len cs hb hl2 =>
    have e:len=L.length:=by rw [← hcs,List.length_map] at hl2; omega
    subst e
    exact ⟨B,by rw [Nat.mul_one],hb,h3 B rfl⟩
  obtain ⟨B,rfl,hB,hBn⟩:=hrow
  (have zz:=and_self; repeat' (first | refine zW ?_ | apply a_n | apply a_x | refine zO ?_ | refine vZ ?_ | (refine zGZ ?_ ?_ <;> (intro _hg; try (exfalso; omega))) | fail)) <;> (try clear zz)
  refine aE ev0 ev0 (tE Cu hB hBn rfl h0 hLs (by omega)) ?_
  rintro _ H1 n1 ⟨M,hps,hpM,hsM⟩
  have hMl:M.length=L.length:=hpM.length_eq
  have hM:M=qQ L:=gB kO (fun x _ y _=>nD) (bw.of (by rw [hMl]; exact hsM)) hpM
  (have zz:=and_self; repeat' (first | refine zW ?_ | apply a_n | refine zO ?_ | refine vZ ?_ | refine aa rfl ?_ | refine r1Z ?_ | fail)) <;> (try clear zz)
  rw [← hM]
  exact uY hps.at_ rfl hMl
end Go.Proofs.YtjgpfclngkcedaaGreat
namespace Go.Proofs.YtjgpfclngkcedaaGreat
open Go Go.Abs
open Nat (reduceEqDiff reduceAdd reduceLeDiff)
def KC (c d:CaseV):Int:=ba c.inp d.inp
def fC (p:List Int) (c:CaseV):CaseV:=⟨bQ c.inp p,bS c.out p,bS c.calm p⟩
def cV (t:TaskV) (p:List Int):TaskV:=⟨t.n,t.ins,t.outs,fJ KC (t.cases.map (fC p))⟩
def cK (t:TaskV) (p:List Int):TaskV × Int:=if aB t ≠ 0 then (T00,aB t) else if bF p ≠ 0 then (T00,bF p) else if (p.length:Int) ≠ t.n then (T00,22) else (cV t p,0)
theorem AN:Ord KC where
 irr x:=kO.irr x.inp
 asym x y:=kO.asym x.inp y.inp
 negtr x y z:=kO.negtr x.inp y.inp z.inp
theorem uV (v p:List Int):bS [v] p=[bQ v p]:=rfl
theorem ug {t:TaskV} {k:Nat} (h:aB t=0) (hk:k < t.cases.length):((t.cases.getD k default).inp.length:Int)=t.n:=by
 have:=(gb ((dU h).2.2 k hk).1).1
 exact this
def mQ (b1:Nat) (c1:List AV) (b2:Nat) (c2:List AV):Hp:=fun b=>if b=b1 then some c1 else if b=b2 then some c2 else none
theorem pn {H:Hp} {b1 b2:Nat} {c1 c2:List AV} (h1:H b1=some c1) (h2:H b2=some c2):Sub (mQ b1 c1 b2 c2) H:=fun x c hx=>by
 unfold mQ at hx
 split at hx
 ·cases hx; subst_vars; exact h1
 ·split at hx <;> cases hx
  subst_vars; exact h2
attribute [local irreducible] aD ag aS aP aH aJ ay aK aQ aZ Go.Abs.Fn aO Go.Abs.Pure al aC Yl
theorem sN (x y:CaseV) (hx:ShC x) (hy:ShC y):Pure Tryz.prog 88 [cP x,cP y] (.int .i64 (KC x y)):=by
 refine Pure.of_c2 follows Cq (Nat.le_of_ble_eq_true rfl) ?_
 simp only [b88,cO,cG,cN,cM,cD,cF,cB,aw,aF]
 have hc:=iS x.inp y.inp hx.1 hy.1
 unfold cP KC
 (have zz:=and_self; repeat' (first | refine zW ?_ | apply a_n | refine zO ?_ | refine vZ ?_ | refine cZ ?_ (hp:=hc) | refine bxZ ?_ | refine aa rfl ?_ | refine r1Z ?_ | fail)) <;> (try clear zz)
 exact be rfl
theorem CQ:Cmp3 Tryz.prog cP KC ShC 88 [] where
 len _:=rfl
 agg _:=rfl
 ones _:=rfl
 dat v:=eD v
 dcaps:=by simp
 run x y hx hy:=sN x y hx hy
 ord:=AN
theorem sb {H:Hp} {B n:Nat} {M:List CaseV} (hB:H B=some (M.c3 cP)) (hM:M.length=n):Snap H (.msl B (n * 3) 3 0 n) (bb M):=by
 subst hM
 refine Row.snap (elems:=M.map cP) ?_ (fun y hy=>?_) (by omega) (fun y hy c hc=>?_)
 ·rw [List.flatMap_map]
  exact .box B M.length _ hB (bf (fun _=>rfl) M)
 ·obtain ⟨x,_,rfl⟩:=List.mem_map.1 hy; rfl
 ·obtain ⟨x,_,rfl⟩:=List.mem_map.1 hy
  simp only [cP,AV.cells,List.mem_cons,List.not_mem_nil,or_false] at hc
  rcases hc with rfl | rfl | rfl
  ·exact aU _
  ·exact aX _
  ·exact aX _
set_option maxHeartbeats 1000000 in
theorem pd (t:TaskV) (p:List Int) (hs:∀ c ∈ t.cases,ShC c) (hsc:Sh t.cases) (hq:∀ c ∈ t.cases,c.out.length ≤ 100000∧c.calm.length ≤ 100000) (hl:Sh p):Pure Tryz.prog 33 [bo t,az p] (.tup [bo (cK t p).1,.int .i64 (cK t p).2]):=by
 refine Pure.of_c2 follows BT (Nat.le_of_ble_eq_true rfl) ?_
 simp only [b33,cO,cG,cN,cM,cD,cF,cB,aw,aF]
 have hl':p.length ≤ 17592186044416:=hl
 have hsc':t.cases.length ≤ 17592186044416:=hsc
 have hc:=iY t hs hsc
 have hpc:=fK p hl
 have d2:=bM t
 by_cases he:aB t=0
 rotate_left
 ·have e:cK t p=(T00,aB t):=by unfold cK; rw [if_pos he]
  rw [e]
  generalize aB t=C at *
  unfold bo at hc d2
  rw [show bo t=.agg [.int .i64 t.n,.int .i64 t.ins,.int .i64 t.outs,bb t.cases] from rfl]
  (have zz:=aI @ah (aI @ab @ax); repeat' (first | refine zW ?_ | apply a_n | apply a_r | refine zO ?_ | refine vZ ?_ | refine cZ ?_ (hp:=hc) | refine alZ ?_ | refine bxZ ?_ | refine stZ ?_ | (refine zGZ ?_ ?_ <;> (intro _hg; try (exfalso; omega))) | refine aa rfl ?_ | refine r2Z ?_ | fail)) <;> (try clear zz)
  exact fi _
 rw [he] at hc
 by_cases hp:bF p=0
 rotate_left
 ·have e:cK t p=(T00,bF p):=by unfold cK; rw [if_neg (fun h=>h he),if_pos hp]
  rw [e]
  generalize bF p=C at *
  unfold bo at hc d2
  rw [show bo t=.agg [.int .i64 t.n,.int .i64 t.ins,.int .i64 t.outs,bb t.cases] from rfl]
  (have zz:=aI @ah (aI @ab @ax); repeat' (first | refine zW ?_ | apply a_n | apply a_r | refine zO ?_ | refine vZ ?_ | refine cZ ?_ (hp:=by first | exact hc | exact hpc) | refine alZ ?_ | refine bxZ ?_ | refine stZ ?_ | (refine zGZ ?_ ?_ <;> (intro _hg; try (exfalso; omega))) | refine aa rfl ?_ | refine r2Z ?_ | fail)) <;> (try clear zz)
  exact fi _
 rw [hp] at hpc
 by_cases hn:(p.length:Int) ≠ t.n
 ·have e:cK t p=(T00,22):=by unfold cK; rw [if_neg (fun h=>h he),if_neg (fun h=>h hp),if_pos hn]
  rw [e]
  have z:decide ((p.length:Int)=t.n)=false:=decide_eq_false hn
  unfold bo at hc d2
  rw [show bo t=.agg [.int .i64 t.n,.int .i64 t.ins,.int .i64 t.outs,bb t.cases] from rfl]
  (have zz:=aI @ah (aI @ab (aI @ax @z)); repeat' (first | refine zW ?_ | apply a_n | apply a_r | refine zO ?_ | refine vZ ?_ | refine cZ ?_ (hp:=by first | exact hc | exact hpc) | refine alZ ?_ | refine bxZ ?_ | refine stZ ?_ | (refine zGZ ?_ ?_ <;> (intro _hg; try (exfalso; omega))) | refine aa rfl ?_ | refine r2Z ?_ | fail)) <;> (try clear zz)
  exact fi _
 have e:cK t p=(cV t p,0):=by unfold cK; rw [if_neg (fun h=>h he),if_neg (fun h=>h hp),if_neg hn]
 rw [e]
 have hn:(p.length:Int)=t.n:=Decidable.of_not_not hn
 obtain ⟨p1,p5,-,-⟩:=cX hp
 have z:decide ((p.length:Int)=t.n)=true:=decide_eq_true hn
 have hcl:=(dU he).2.1
 have hren:∀ k,k < t.cases.length→(t.cases.getD k default).inp.length=p.length∧(∀ v ∈ (t.cases.getD k default).out,v.length=p.length)∧(∀ v ∈ (t.cases.getD k default).calm,v.length=p.length):=fun k hk=>by
  have h1:=ug he hk
  obtain ⟨_,h2,h3⟩:=kX he hk
  exact ⟨by omega,fun v hv=>by have:=(h2 v hv).1; omega,fun v hv=>by have:=(h2 v (h3 v hv)).1; omega⟩
 generalize hA:[.int .i64 t.n,.int .i64 t.ins,.int .i64 t.outs,bb t.cases]=A
 have hTA:bo t=.agg A:=by rw [← hA]; rfl
 rw [hTA] at hc d2 ⊢
 refine aN (fun T H nx=>T 1=az p∧T 2=.ptr 0 4 0∧T 4=.ptr 1 4 0∧T 5=.int .i64 0∧H=ak (ak aV 0 A) 1 [.int .i64 0,.int .i64 0,.int .i64 0,.esl]∧nx=2) ?_ ?_
 ·subst hA
  (have zz:=aI @ah @ab; repeat' (first | apply a_n | refine zO ?_ | refine vZ ?_ | refine alZ ?_ | refine bxZ ?_ | fail)) <;> (try clear zz)
  exact ⟨rfl,rfl,rfl,rfl,rfl,rfl⟩
 rintro T H nx ⟨t1,t2,t4,t5,rfl,rfl⟩
 refine aN (fun T H nx=>T 1=az p∧T 2=.ptr 0 4 0∧T 4=.ptr 1 4 0∧T 5=.int .i64 0∧H=ak (ak aV 0 A) 1 [.int .i64 0,.int .i64 0,.int .i64 0,.esl]∧nx=2) ?_ ?_
 ·subst hA
  (have zz:=aI @t1 (aI @t2 (aI @t4 @t5)); repeat' (first | refine zW ?_ | apply a_n | refine zO ?_ | refine vZ ?_ | refine cZ ?_ (hp:=hc) | (refine zGZ ?_ ?_ <;> (intro _hg; try (exfalso; omega))) | fail)) <;> (try clear zz)
  exact ⟨(have zz:=aI @t1 (aI @t2 (aI @t4 @t5)); evZ),(have zz:=aI @t1 (aI @t2 (aI @t4 @t5)); evZ),(have zz:=aI @t1 (aI @t2 (aI @t4 @t5)); evZ),(have zz:=aI @t1 (aI @t2 (aI @t4 @t5)); evZ),rfl,rfl⟩
 clear t1 t2 t4 t5
 rintro T H nx ⟨t1,t2,t4,t5,rfl,rfl⟩
 refine aN (fun T H nx=>T 1=az p∧T 2=.ptr 0 4 0∧T 4=.ptr 1 4 0∧T 5=.int .i64 0∧H=ak (ak aV 0 A) 1 [.int .i64 0,.int .i64 0,.int .i64 0,.esl]∧nx=2) ?_ ?_
 ·(have zz:=aI @t1 (aI @t2 (aI @t4 @t5)); repeat' (first | refine zW ?_ | apply a_n | refine zO ?_ | refine vZ ?_ | refine cZ ?_ (hp:=hpc) | (refine zGZ ?_ ?_ <;> (intro _hg; try (exfalso; omega))) | fail)) <;> (try clear zz)
  exact ⟨(have zz:=aI @t1 (aI @t2 (aI @t4 @t5)); evZ),(have zz:=aI @t1 (aI @t2 (aI @t4 @t5)); evZ),(have zz:=aI @t1 (aI @t2 (aI @t4 @t5)); evZ),(have zz:=aI @t1 (aI @t2 (aI @t4 @t5)); evZ),rfl,rfl⟩
 clear t1 t2 t4 t5
 rintro T H nx ⟨t1,t2,t4,t5,rfl,rfl⟩
 refine aN (fun T H nx=>T 1=az p∧T 2=.ptr 0 4 0∧T 4=.ptr 1 4 0∧T 5=.int .i64 0∧H=ak (ak aV 0 A) 1 [.int .i64 0,.int .i64 0,.int .i64 0,.esl]∧nx=2) ?_ ?_
 ·subst hA
  (have zz:=aI @t1 (aI @t2 (aI @t4 (aI @t5 @z))); repeat' (first | refine zW ?_ | apply a_n | refine zO ?_ | refine vZ ?_ | (refine zGZ ?_ ?_ <;> (intro _hg; try (exfalso; omega))) | fail)) <;> (try clear zz)
  exact ⟨(have zz:=aI @t1 (aI @t2 (aI @t4 @t5)); evZ),(have zz:=aI @t1 (aI @t2 (aI @t4 @t5)); evZ),(have zz:=aI @t1 (aI @t2 (aI @t4 @t5)); evZ),(have zz:=aI @t1 (aI @t2 (aI @t4 @t5)); evZ),rfl,rfl⟩
 clear t1 t2 t4 t5
 rintro T H nx ⟨t1,t2,t4,t5,rfl,rfl⟩
 refine aN (fun T H nx=>T 1=az p∧T 2=.ptr 0 4 0∧T 4=.ptr 1 4 0∧T 8=.ptr 2 4 0∧H 0=some A∧H 1=some [.int .i64 0,.int .i64 0,.int .i64 0,.esl]∧H 2=some [.int .i64 t.n,.int .i64 t.ins,.int .i64 t.outs,.esl]∧nx=3) ?_ ?_
 ·subst hA
  (have zz:=aI @t1 (aI @t2 (aI @t4 @t5)); repeat' (first | apply a_n | refine zO ?_ | refine vZ ?_ | refine alZ ?_ | refine stZ ?_ | fail)) <;> (try clear zz)
  exact ⟨(have zz:=aI @t1 (aI @t2 (aI @t4 @t5)); evZ),(have zz:=aI @t1 (aI @t2 (aI @t4 @t5)); evZ),(have zz:=aI @t1 (aI @t2 (aI @t4 @t5)); evZ),(have zz:=aI @t1 (aI @t2 (aI @t4 @t5)); evZ),rfl,rfl,rfl,rfl⟩
 clear t1 t2 t4 t5
 rintro T H nx ⟨t1,t2,t4,t8,g0,g1,g2,rfl⟩
 generalize hL:t.cases.map (fC p)=L
 have hLl:L.length=t.cases.length:=by rw [← hL,List.length_map]
 refine aN (fun T H nx=>T 4=.ptr 1 4 0∧T 8=.ptr 2 4 0∧3 ≤ nx∧H 1=some [.int .i64 0,.int .i64 0,.int .i64 0,.esl]∧∃ sv,H 2=some [.int .i64 t.n,.int .i64 t.ins,.int .i64 t.outs,sv]∧Row H 3 sv (L.c3 cP)∧∀ b,eK sv=some b→3 ≤ b∧b < nx) ?_ ?_
 ·subst hA
  (have zz:=aI @t2 (aI @g0 @ax); repeat' (first | refine zW ?_ | apply a_n | refine zO ?_ | refine vY ?_ | fail)) <;> (try clear zz)
  refine a9 (X:=AV × Nat) (fun x=>[(1,az p),(2,.ptr 0 4 0),(4,.ptr 1 4 0),(8,.ptr 2 4 0),(37,bb t.cases),(38,.int .i64 t.cases.length),(39,.int .i64 x.2)]) (fun x H nx=>x.2 ≤ t.cases.length∧3 ≤ nx∧H 1=some [.int .i64 0,.int .i64 0,.int .i64 0,.esl]∧H 2=some [.int .i64 t.n,.int .i64 t.ins,.int .i64 t.outs,x.1]∧Row H 3 x.1 (((t.cases.take x.2).map (fC p)).c3 cP)∧∀ b,eK x.1=some b→3 ≤ b∧b < nx) (fun x=>t.cases.length - x.2) (.esl,0) ⟨Nat.zero_le _,Nat.le_refl _,g1,g2,Row.nil,fun b hb=>(by cases hb)⟩ (have zz:=aI @t1 (aI @t2 (aI @t4 @t8)); agZ) ?_
  rintro ⟨sv,k⟩ H nx ⟨hk,hnx,k1,k2,hrow,hb⟩
  dsimp only at hk k2 hrow hb ⊢
  by_cases hk2:k < t.cases.length
  rotate_left
  ·rw [List.take_of_length_le (by omega),hL] at hrow
   (have zz:=and_self; repeat' (first | refine zW ?_ | apply a_n | apply a_x | refine zO ?_ | refine vZ ?_ | (refine zGZ ?_ ?_ <;> (intro _hg; try (exfalso; omega))) | fail)) <;> (try clear zz)
   exact ⟨rfl,rfl,hnx,k1,sv,k2,hrow,hb⟩
  have ix:=bg hk2
  obtain ⟨r1,r2,r3⟩:=hren k hk2
  obtain ⟨q1,q2⟩:=hq _ (ai hk2)
  have hst:((t.cases.take (k + 1)).map (fC p)).c3 cP=((t.cases.take k).map (fC p)).c3 cP ++ (cP (fC p (t.cases.getD k default))).cells:=by
   rw [cI hk2,List.map_append]
   simp [List.c3]
  have hlen:(((t.cases.take k).map (fC p)).c3 cP).length=k * 3:=by
   rw [bf (fun _=>rfl),List.length_map,List.length_take]; omega
  generalize t.cases.getD k default=c at *
  obtain ⟨inp,out,calm⟩:=c
  dsimp only at *
  have m1:=qk [inp] p hp (by simp) (fun v hv=>by simp at hv; subst hv; exact r1)
  rw [uV] at m1
  have m2:=qk out p hp q1 r2
  have m3:=qk calm p hp q2 r3
  (have zz:=@ix; repeat' (first | refine zW ?_ | apply a_n | refine zO ?_ | refine vY ?_ | refine alY ?_ | refine stY ?_ | (refine zGY ?_ ?_ <;> (intro _hg; try (exfalso; omega))) | fail)) <;> (try clear zz)
  refine wg (mQ 2 [.int .i64 t.n,.int .i64 t.ins,.int .i64 t.outs,sv] nx [az inp,aA out,aA calm]) rfl (pn (by rw [ao (by omega),ao (by omega)]; exact k2) (by rw [au]; rfl)) ?_
  have hS2:mQ 2 [.int .i64 t.n,.int .i64 t.ins,.int .i64 t.outs,sv] nx [az inp,aA out,aA calm] 2=some [.int .i64 t.n,.int .i64 t.ins,.int .i64 t.outs,sv]:=if_pos rfl
  have hSn:mQ 2 [.int .i64 t.n,.int .i64 t.ins,.int .i64 t.outs,sv] nx [az inp,aA out,aA calm] nx=some [az inp,aA out,aA calm]:=by unfold mQ; rw [if_neg (by omega),if_pos rfl]
  generalize hSS:mQ 2 [.int .i64 t.n,.int .i64 t.ins,.int .i64 t.outs,sv] nx [az inp,aA out,aA calm]=S at hS2 hSn ⊢
  have hSub:∀ H',H' 2=some [.int .i64 t.n,.int .i64 t.ins,.int .i64 t.outs,sv]→H' nx=some [az inp,aA out,aA calm]→Sub S H':=fun H' a1 a2=>by rw [← hSS]; exact pn a1 a2
  have hB2:ak (ak H nx [.esl,.esl,.esl]) nx (bj [.esl,.esl,.esl] 0 [az inp,aA out,aA calm]) 2=some [.int .i64 t.n,.int .i64 t.ins,.int .i64 t.outs,sv]:=by rw [ao (by omega),ao (by omega)]; exact k2
  have hBn:ak (ak H nx [.esl,.esl,.esl]) nx (bj [.esl,.esl,.esl] 0 [az inp,aA out,aA calm]) nx=some [az inp,aA out,aA calm]:=by rw [au]; rfl
  (have zz:=aI @hS2 @hSn; repeat' (first | apply a_n | refine zO ?_ | refine nvY ?_ | fail)) <;> (try clear zz)
  refine BD (pv:=[(0,1,az inp)]) (cs:=[az inp]) ev0 rfl (by decide) rfl rfl ?_
  (have zz:=aI @hS2 @hSn; repeat' (first | apply a_n | refine zO ?_ | refine nvY ?_ | fail)) <;> (try clear zz)
  refine iG ?_
  refine b8 ev0 (by ((try simp only [bq,ZA,reduceEqDiff,↓reduceIte,reduceAdd,reduceLeDiff]); (try with_reducible rfl)); rfl) m1 (ap (aq (aX [inp] _) (aq (aU _ _) af))) ?_
  refine nF ⟨hSub _ hB2 hBn,?_⟩
  have ix1:fB 1 (aA [bQ inp p]) (.int .i64 0)=some (.iptr [az (bQ inp p)] 0):=rfl
  (have zz:=aI @hS2 (aI @hSn @ix1); repeat' (first | apply a_n | refine zO ?_ | refine nvY ?_ | fail)) <;> (try clear zz)
  refine iG ?_
  refine b8 ev0 ev0 m2 (ap (aq (aX _ _) (aq (aU _ _) af))) ?_
  refine nF ⟨hSub _ hB2 hBn,?_⟩
  refine iG ?_
  refine b8 ev0 ev0 m3 (ap (aq (aX _ _) (aq (aU _ _) af))) ?_
  refine nF ⟨hSub _ hB2 hBn,?_⟩
  (have zz:=aI @hS2 @hSn; repeat' (first | apply a_n | refine zO ?_ | refine nvY ?_ | fail)) <;> (try clear zz)
  refine iG ?_
  (have zz:=and_self; repeat' (first | apply a_n | refine zO ?_ | refine blY ?_ | fail)) <;> (try clear zz)
  refine ⟨hSub _ (by rw [ao (by omega)]; exact hB2) (by rw [ao (by omega)]; exact hBn),?_⟩
  (have zz:=aI @hS2 @hSn; repeat' (first | apply a_n | refine zO ?_ | apply qJ | fail)) <;> (try clear zz)
  refine lB rfl ev0 (hrow.same fun b' hb'=>?_) ev0 nL rfl rfl (by omega) (by rw [hlen]; omega) (by rw [hlen]; omega) ?_
  ·have:=hb b' hb'
   rw [ao (by omega),ao (by omega),ao (by omega)]
  rintro sv' H2 nx2 u1 u2 u3 u4 u5
  have v1:∀ x,x < nx→eK sv ≠ some x→H2 x=H x:=fun x a1 a2=>(u4 x (by omega) a2).trans (by rw [ao (by omega),ao (by omega),ao (by omega)])
  have g2':H2 2=some [.int .i64 t.n,.int .i64 t.ins,.int .i64 t.outs,sv]:=(v1 2 (by omega) (fun h=>by have:=hb 2 h; omega)).trans k2
  obtain ⟨q1',q2'⟩:=u1.one
  have ub:∀ b',eK sv'=some b'→3 ≤ b'∧b' < nx2:=fun b' hb'=>by
   rcases u5 b' hb' with e | ⟨e1,e2⟩
   ·have:=hb b' e; omega
   ·omega
  (have zz:=aI @hS2 (aI @hSn (aI @g2' (aI @q1' @q2'))); repeat' (first | apply a_n | refine zO ?_ | refine vY ?_ | refine nvY ?_ | apply qJ | refine stY ?_ | fail)) <;> (try clear zz)
  refine ⟨(sv',k + 1),by dsimp only; omega,⟨by dsimp only; omega,by omega,?_,?_,?_,fun b' hb'=>ub b' hb'⟩,ag0⟩
  ·rw [ao (by omega)]
   exact (v1 1 (by omega) (fun h=>by have:=hb 1 h; omega)).trans k1
  ·rw [au]; rfl
  ·dsimp only
   rw [hst]
   exact u1.same fun b' hb'=>ao (by have:=ub b' hb'; omega)
 clear t1 t2 t4 t8 g0 g1 g2
 rintro T H nx ⟨t4,t8,hnx,g1,sv,g2,hrow,hb⟩
 have hLs:∀ x ∈ L,ShC x:=fun x hx=>by
  rw [← hL] at hx
  obtain ⟨c,hc2,rfl⟩:=List.mem_map.1 hx
  obtain ⟨i,hi,rfl⟩:=List.getElem_of_mem hc2
  have hr:=hren i hi
  have hqq:=hq _ hc2
  rw [show t.cases.getD i default=t.cases[i] by simp [List.getD,hi]] at hr
  generalize t.cases[i]=c at *
  refine ⟨?_,?_,fun v hv=>?_,?_,fun v hv=>?_⟩
  ·show (bQ c.inp p).length ≤ _; rw [bx,hr.1]; omega
  ·show (bS c.out p).length ≤ _; unfold bS; rw [fl,List.length_map]; omega
  ·obtain ⟨w,hw,rfl⟩:=List.mem_map.1 ((bP _).mem_iff.1 hv)
   show (bQ w p).length ≤ _; rw [bx,hr.2.1 w hw]; omega
  ·show (bS c.calm p).length ≤ _; unfold bS; rw [fl,List.length_map]; omega
  ·obtain ⟨w,hw,rfl⟩:=List.mem_map.1 ((bP _).mem_iff.1 hv)
   show (bQ w p).length ≤ _; rw [bx,hr.2.2 w hw]; omega
 have hrow':∃ B,sv=.msl B (L.length * 3) 3 0 L.length∧H B=some (L.c3 cP)∧3 ≤ B∧B < nx:=by
  generalize hcs:L.c3 cP=cs at hrow
  have hcl3:(L.c3 cP).length=L.length * 3:=bf (fun _=>rfl) L
  cases hrow with
  | nil=>rw [hcs] at hcl3; simp at hcl3; omega
  | box B len cs h1 h2 =>
   have e:len=L.length:=by rw [← hcs,hcl3] at h2; omega
   subst e
   have:=hb B rfl
   exact ⟨B,rfl,h1,this⟩
 obtain ⟨B,rfl,hB,hB3,hBn⟩:=hrow'
 (have zz:=aI @t8 @g2; repeat' (first | refine zW ?_ | apply a_n | refine zO ?_ | refine vY ?_ | fail)) <;> (try clear zz)
 refine aE ev0 (have zz:=aI @t8 @g2; evY) (yc CQ hB hBn rfl (by omega) hLs (by omega)) ?_
 rintro _ H1 n1 ⟨M,hps,hpM,hsM⟩
 have hMl:M.length=L.length:=hpM.length_eq
 have hM:M=fJ KC L:=gB AN (fun x hx y hy h1 h2=>by
  rw [← hL] at hx hy
  obtain ⟨c,hc2,rfl⟩:=List.mem_map.1 hx
  obtain ⟨d,hd2,rfl⟩:=List.mem_map.1 hy
  obtain ⟨i,hi,rfl⟩:=List.getElem_of_mem hc2
  obtain ⟨j,hj,rfl⟩:=List.getElem_of_mem hd2
  have e:=nD h1 h2
  have ei:t.cases.getD i default=t.cases[i]:=by simp [List.getD,hi]
  have ej:t.cases.getD j default=t.cases[j]:=by simp [List.getD,hj]
  have e2:=kH hp (by rw [← ei]; exact (hren i hi).1) (by rw [← ej]; exact (hren j hj).1) e
  have:=tM he hi hj (by rw [ei,ej]; exact e2)
  subst this; rfl) (bw.of (by rw [hMl]; exact hsM)) hpM
 have j2:H1 2=some [.int .i64 t.n,.int .i64 t.ins,.int .i64 t.outs,.msl B (L.length * 3) 3 0 L.length]:=(hps.fr 2 (by omega) (by omega)).trans g2
 have j1:H1 1=some [.int .i64 0,.int .i64 0,.int .i64 0,.esl]:=(hps.fr 1 (by omega) (by omega)).trans g1
 (have zz:=aI @t4 (aI @t8 (aI @j1 @j2)); repeat' (first | refine zW ?_ | apply a_n | refine zO ?_ | refine vY ?_ | refine stY ?_ | refine aa rfl ?_ | refine r2Y ?_ | fail)) <;> (try clear zz)
 have hren2:cV t p=⟨t.n,t.ins,t.outs,M⟩:=by unfold cV; rw [hL,hM]
 rw [hren2]
 refine di (aq (j7 (aq (.int _ _) (aq (.int _ _) (aq (.int _ _) (aq ?_ af))))) (aq (.int _ _) af))
 exact sb (by rw [ao (by omega)]; exact hps.at_) hMl
end Go.Proofs.YtjgpfclngkcedaaGreat
namespace Go.Proofs.YtjgpfclngkcedaaGreat
open Go Go.Abs
open Nat (reduceEqDiff reduceAdd reduceLeDiff)
section
variable {P:Program} {T:Tm} {H:Hp} {nx:Nat}
end
theorem uH {H:Hp} {sv:AV} {M:List CaseV} (h:Row H 3 sv (M.c3 cP)):Snap H sv (bb M):=by
 refine Row.snap (elems:=M.map cP) (by rw [List.flatMap_map]; exact h) (fun y hy=>?_) (by omega) (fun y hy c hc=>?_)
 ·obtain ⟨x,_,rfl⟩:=List.mem_map.1 hy; rfl
 ·obtain ⟨x,_,rfl⟩:=List.mem_map.1 hy
  simp only [cP,AV.cells,List.mem_cons,List.not_mem_nil,or_false] at hc
  rcases hc with rfl | rfl | rfl
  ·exact aU _
  ·exact aX _
  ·exact aX _
attribute [local irreducible] aD ag aS aP aH aJ ay aK aQ aZ Go.Abs.Fn aO Go.Abs.Pure al aC Yl
end Go.Proofs.YtjgpfclngkcedaaGreat
namespace Go.Proofs.YtjgpfclngkcedaaGreat
open Go Go.Abs
attribute [local irreducible] aD ag aS aP aH aJ ay aK aQ aZ Go.Abs.Fn aO Go.Abs.Pure al aC Yl
theorem tn {t:TaskV} {p:List Int} (he:aB t=0) (hn:(p.length:Int)=t.n):∀ k,k < t.cases.length→(t.cases.getD k default).inp.length=p.length∧(∀ v ∈ (t.cases.getD k default).out,v.length=p.length)∧(∀ v ∈ (t.cases.getD k default).calm,v.length=p.length):=fun k hk=>by
 have h1:=ug he hk
 obtain ⟨_,h2,h3⟩:=kX he hk
 exact ⟨by omega,fun v hv=>by have:=(h2 v hv).1; omega,fun v hv=>by have:=(h2 v (h3 v hv)).1; omega⟩
end Go.Proofs.YtjgpfclngkcedaaGreat
namespace Go.Proofs.YtjgpfclngkcedaaGreat
open Go Go.Abs
attribute [local irreducible] aD ag aS aP aH aJ ay aK aQ aZ Go.Abs.Fn aO Go.Abs.Pure al aC Yl
def dd (l:List Int):Nat→List Int
 | 0=>[]
 | k + 1=>dd l k ++ if k=0 ∨ l.getD k default ≠ l.getD (k - 1) default then [l.getD k default] else []
end Go.Proofs.YtjgpfclngkcedaaGreat
namespace Go.Proofs.YtjgpfclngkcedaaGreat
open Go Go.Abs
def inV (l:List (List Int)) (p v:Nat):Bool:=l.any fun w=>decide (w.getD p default=(v:Int))
def vals (l:List (List Int)) (p o:Nat):List Int:=((List.range o).filter (inV l p)).map Int.ofNat
attribute [local irreducible] aD ag aS aP aH aJ ay aK aQ aZ Go.Abs.Fn aO Go.Abs.Pure al aC Yl
end Go.Proofs.YtjgpfclngkcedaaGreat
namespace Go.Proofs.YtjgpfclngkcedaaGreat
open Go Go.Abs
attribute [local irreducible] aD ag aS aP aH aJ ay aK aQ aZ Go.Abs.Fn aO Go.Abs.Pure al aC Yl
end Go.Proofs.YtjgpfclngkcedaaGreat
namespace Go.Proofs.YtjgpfclngkcedaaGreat
open Go Go.Abs
attribute [local irreducible] aD ag aS aP aH aJ ay aK aQ aZ Go.Abs.Fn aO Go.Abs.Pure al aC Yl
end Go.Proofs.YtjgpfclngkcedaaGreat
namespace Go.Proofs.YtjgpfclngkcedaaGreat
open Go Go.Abs
end Go.Proofs.YtjgpfclngkcedaaGreat
namespace Go.Proofs.YtjgpfclngkcedaaGreat
open Go Go.Abs
structure PlaceV where
 index:Int
 faulty:Int
 proc:Int
 outs:List Int
attribute [local irreducible] aD ag aS aP aH aJ ay aK aQ aZ Go.Abs.Fn aO Go.Abs.Pure al aC Yl
end Go.Proofs.YtjgpfclngkcedaaGreat
namespace Go.Proofs.YtjgpfclngkcedaaGreat
open Go Go.Abs
attribute [local irreducible] aD ag aS aP aH aJ ay aK aQ aZ Go.Abs.Fn aO Go.Abs.Pure al aC Yl
theorem qe:Sh T00.cases∧∀ c ∈ T00.cases,ShC c:=⟨Nat.zero_le _,fun c hc=>(by cases hc)⟩
theorem pj {l:List (List Int)} {p:List Int} (hl:Sh l) (hp:p.length ≤ 5) (hv:∀ v ∈ l,v.length=p.length):Sh (bS l p)∧∀ v ∈ bS l p,Sh v:=by
 refine ⟨by show (fJ _ _).length ≤ _; rw [fl,List.length_map]; exact hl,fun v hv2=>?_⟩
 obtain ⟨w,hw,rfl⟩:=List.mem_map.1 ((bP _).mem_iff.1 hv2)
 show (bQ w p).length ≤ _
 rw [bx,hv w hw]; omega
theorem xB {t:TaskV} {p:List Int} (hs:∀ c ∈ t.cases,ShC c) (hsc:Sh t.cases) (hp:p.length ≤ 5) (hlen:∀ k,k < t.cases.length→(t.cases.getD k default).inp.length=p.length∧(∀ v ∈ (t.cases.getD k default).out,v.length=p.length)∧(∀ v ∈ (t.cases.getD k default).calm,v.length=p.length)):Sh (cV t p).cases∧∀ c ∈ (cV t p).cases,ShC c:=by
 refine ⟨by show (fJ _ _).length ≤ _; rw [fl,List.length_map]; exact hsc,fun c hc=>?_⟩
 obtain ⟨d,hd,rfl⟩:=List.mem_map.1 ((bP _).mem_iff.1 hc)
 obtain ⟨i,hi,rfl⟩:=List.getElem_of_mem hd
 have h:=hlen i hi
 have hsi:=hs _ hd
 rw [show t.cases.getD i default=t.cases[i] by simp [List.getD,hi]] at h
 generalize t.cases[i]=d at *
 obtain ⟨h1,h2,h3⟩:=h
 obtain ⟨s1,s2,s3,s4,s5⟩:=hsi
 have m1:=pj s2 hp h2
 have m2:=pj s4 hp h3
 exact ⟨by show (bQ d.inp p).length ≤ _; rw [bx]; exact s1,m1.1,m1.2,m2.1,m2.2⟩
end Go.Proofs.YtjgpfclngkcedaaGreat
namespace Go.Proofs.YtjgpfclngkcedaaGreat
open Go Go.Abs
attribute [local irreducible] aD ag aS aP aH aJ ay aK aQ aZ Go.Abs.Fn aO Go.Abs.Pure al aC Yl
end Go.Proofs.YtjgpfclngkcedaaGreat
namespace Go.Proofs.YtjgpfclngkcedaaGreat
open Go Go.Abs
section
variable {p:List Int}
theorem oV (hp:bF p=0) {q:Nat} (hq:q < p.length):∃ i,i < p.length∧p.getD i default=(q:Int):=by
 obtain ⟨_,_,h3,h4⟩:=cX hp
 refine Decidable.byContradiction fun hn=>?_
 have hne:∀ i,i < p.length→p.getD i default ≠ (q:Int):=fun i hi e=>hn ⟨i,hi,e⟩
 have hnd:(p.map Int.toNat).Nodup:=by
  rw [List.nodup_iff_pairwise_ne,List.pairwise_iff_getElem]
  intro i j hi hj hij
  rw [List.length_map] at hi hj
  have a:=h3 i hi
  have b:=h3 j hj
  have c:=h4 i j hij hj
  have ei:p.getD i default=p[i]:=by simp [List.getD,hi]
  have ej:p.getD j default=p[j]:=by simp [List.getD,hj]
  rw [ei] at a c
  rw [ej] at b c
  simp only [List.getElem_map]
  omega
 have hsub:∀ x ∈ p.map Int.toNat,x ∈ (List.range p.length).filter (fun x=>decide (x ≠ q)):=fun x hx=>by
  obtain ⟨y,hy,rfl⟩:=List.mem_map.1 hx
  obtain ⟨i,hi,rfl⟩:=List.getElem_of_mem hy
  have ei:p.getD i default=p[i]:=by simp [List.getD,hi]
  have a:=h3 i hi
  have b:=hne i hi
  rw [ei] at a b
  exact List.mem_filter.2 ⟨List.mem_range.2 (by omega),decide_eq_true (by omega)⟩
 have hle:=List.Nodup.length_le_of_subset hnd hsub
 have hlt:((List.range p.length).filter (fun x=>decide (x ≠ q))).length < p.length:=by
  have h1:(List.range p.length).length=p.length:=List.length_range
  have h2:((List.range p.length).filter (fun x=>decide (x ≠ q))).length < (List.range p.length).length:=List.length_filter_lt_length_iff_exists.2 ⟨q,List.mem_range.2 hq,by simp⟩
  omega
 rw [List.length_map] at hle
 omega
def idL (n:Nat):List Int:=(List.range n).map fun (i:Nat)=>(i:Int)
theorem mc {n i:Nat} (h:i < n):(idL n).getD i default=(i:Int):=by simp [idL,List.getD,h]
theorem dN (n:Nat):(idL n).length=n:=by simp [idL]
theorem vB (hp:bF p=0) {v:List Int} (hv:v.length=p.length) {x:Int} (hx:x ∈ bQ v p):x ∈ v:=by
 obtain ⟨q,hq,rfl⟩:=List.getElem_of_mem hx
 rw [bx] at hq
 obtain ⟨i,hi,e⟩:=oV hp (q:=q) (by omega)
 have h:=ey hp hv hi
 rw [e,Int.toNat_natCast] at h
 rw [show (bQ v p).getD q default=(bQ v p)[q]'(by rw [bx]; exact hq) by simp [List.getD,show q < (bQ v p).length by rw [bx]; exact hq]] at h
 rw [h]
 exact ai (by omega)
theorem cE {l:List (List Int)} {w:List Int}:w ∈ bS l p ↔ ∃ v ∈ l,bQ v p=w:=by
 unfold bS
 rw [(bP _).mem_iff,List.mem_map]
end
theorem sT {l:List (List Int)} (h:∀ i,i < l.length→br l i=false):bw ba l:=by
 unfold bw
 rw [List.pairwise_iff_getElem]
 intro i j hi hj hij
 have:=pu h j i hij hj
 rw [show l.getD i default=l[i] by simp [List.getD,hi],show l.getD j default=l[j] by simp [List.getD,hj]] at this
 exact kO.asym _ _ this
theorem oS {l:List (List Int)} (h:∀ i,i < l.length→br l i=false):l.Nodup:=by
 rw [List.nodup_iff_pairwise_ne,List.pairwise_iff_getElem]
 intro i j hi hj hij e
 have:=pu h j i hij hj
 rw [show l.getD i default=l[i] by simp [List.getD,hi],show l.getD j default=l[j] by simp [List.getD,hj],e,ci] at this
 omega
theorem fg {l:List (List Int)} (hs:bw ba l) (hn:l.Nodup):∀ i,i < l.length→br l i=false:=fun i hi=>by
 unfold br
 by_cases h0:0 < i
 ·rw [decide_eq_true h0,Bool.true_and,decide_eq_false_iff_not]
  have h1:=List.pairwise_iff_getElem.1 hs (i - 1) i (by omega) hi (by omega)
  have h2:=List.pairwise_iff_getElem.1 (List.nodup_iff_pairwise_ne.1 hn) (i - 1) i (by omega) hi (by omega)
  rw [show l.getD i default=l[i] by simp [List.getD,hi],show l.getD (i - 1) default=l[i - 1] by simp [List.getD,show i - 1 < l.length by omega]]
  intro h3
  have h4:=dP l[i - 1] l[i]
  rcases gH l[i - 1] l[i] with h | h | h
  ·omega
  ·exact h2 (gm h)
  ·exact h1 (by omega)
 ·rw [decide_eq_false h0,Bool.false_and]
theorem nH {v:List Int} {n most:Int} (h1:(v.length:Int)=n) (h2:∀ x ∈ v,0 ≤ x∧x < most):a8 v n most=0:=by
 unfold a8
 rw [if_neg (fun h=>h h1),if_neg]
 intro h
 rw [List.any_eq_true] at h
 obtain ⟨x,hx,e⟩:=h
 have:=of_decide_eq_true e
 have:=h2 x hx
 omega
theorem bL {n outs:Int} {c:CaseV} (h:bl n outs c=0):(1 ≤ c.out.length∧c.out.length ≤ 1024)∧(∀ v ∈ c.out,a8 v n outs=0)∧(∀ i,i < c.out.length→br c.out i=false)∧(∀ v ∈ c.calm,v ∈ c.out)∧(∀ i,i < c.calm.length→br c.calm i=false):=by
 unfold bl at h
 split at h
 ·exact absurd h (by decide)
 rename_i g1
 split at h
 ·exact absurd h ‹_›
 rename_i g2
 have o0:=dj (Decidable.of_not_not g2)
 have c0:=dj h
 have o1:∀ j,j < c.out.length→a8 (c.out.getD j default) n outs=0∧br c.out j=false:=fun j hj=>by
  have:=o0 j hj
  unfold gk at this
  split at this
  ·exact absurd this ‹_›
  ·rename_i g3
   split at this
   ·exact absurd this (by decide)
   ·rename_i g4
    exact ⟨Decidable.of_not_not g3,by simpa using g4⟩
 have c1:∀ j,j < c.calm.length→c.calm.getD j default ∈ c.out∧br c.calm j=false:=fun j hj=>by
  have:=c0 j hj
  unfold fI at this
  split at this
  ·rename_i g3
   split at this
   ·exact absurd this (by decide)
   ·rename_i g4
    exact ⟨g3,by simpa using g4⟩
  ·exact absurd this (by decide)
 refine ⟨by omega,fun v hv=>?_,fun i hi=>(o1 i hi).2,fun v hv=>?_,fun i hi=>(c1 i hi).2⟩
 ·obtain ⟨j,hj,rfl⟩:=List.getElem_of_mem hv
  have:=(o1 j hj).1
  rwa [show c.out.getD j default=c.out[j] by simp [List.getD,hj]] at this
 ·obtain ⟨j,hj,rfl⟩:=List.getElem_of_mem hv
  have:=(c1 j hj).1
  rwa [show c.calm.getD j default=c.calm[j] by simp [List.getD,hj]] at this
theorem lI {n outs:Int} {c:CaseV} (h1:1 ≤ c.out.length∧c.out.length ≤ 1024) (h2:∀ v ∈ c.out,a8 v n outs=0) (h3:∀ i,i < c.out.length→br c.out i=false) (h4:∀ v ∈ c.calm,v ∈ c.out) (h5:∀ i,i < c.calm.length→br c.calm i=false):bl n outs c=0:=by
 unfold bl
 have e1:bB (gk n outs c.out) c.out.length=0:=bv fun k hk=>by
  unfold gk
  rw [h2 _ (ai hk),if_neg (by simp),h3 k hk,if_neg (by simp)]
 have e2:bB (fI c.out c.calm) c.calm.length=0:=bv fun k hk=>by
  unfold fI
  rw [if_pos (h4 _ (ai hk)),h5 k hk,if_neg (by simp)]
 rw [if_neg (by omega),e1,if_neg (by simp),e2]
section
variable {p:List Int} (hp:bF p=0)
include hp
theorem fo {l:List (List Int)} (hl:∀ v ∈ l,v.length=p.length) (hu:∀ i,i < l.length→br l i=false):(bS l p).length=l.length∧∀ i,i < (bS l p).length→br (bS l p) i=false:=by
 have hlen:(bS l p).length=l.length:=by unfold bS; rw [fl,List.length_map]
 refine ⟨hlen,fg (e9 kO _) ?_⟩
 refine (bP _).nodup_iff.2 ?_
 rw [List.nodup_iff_pairwise_ne,List.pairwise_map]
 refine List.Pairwise.imp_of_mem (fun {a b} ha hb hab e=>hab (kH hp (hl a ha) (hl b hb) e)) (List.nodup_iff_pairwise_ne.1 (oS hu))
theorem jr {v:List Int} {n most:Int} (hv:v.length=p.length) (h:a8 v n most=0):a8 (bQ v p) n most=0:=by
 obtain ⟨h1,h2⟩:=gb h
 exact nH (by rw [bx]; exact h1) fun x hx=>h2 x (vB hp hv hx)
theorem pD {n outs:Int} {c:CaseV} (h1:∀ v ∈ c.out,v.length=p.length) (h2:∀ v ∈ c.calm,v.length=p.length) (h:bl n outs c=0):bl n outs (fC p c)=0:=by
 obtain ⟨g1,g2,g3,g4,g5⟩:=bL h
 have m1:=fo hp h1 g3
 have m2:=fo hp h2 g5
 refine lI (by show 1 ≤ (bS c.out p).length∧_; have:=m1.1; exact ⟨by omega,by show (bS c.out p).length ≤ _; omega⟩) (fun v hv=>?_) m1.2 (fun v hv=>?_) m2.2
 ·obtain ⟨w,hw,rfl⟩:=cE.1 hv
  exact jr hp (h1 w hw) (g2 w hw)
 ·obtain ⟨w,hw,rfl⟩:=cE.1 hv
  exact cE.2 ⟨w,g4 w hw,rfl⟩
end
theorem gP {t:TaskV} (h:aB t=0):bw KC t.cases:=by
 unfold bw
 rw [List.pairwise_iff_getElem]
 intro i j hi hj hij
 have:=fA h j i hij hj
 rw [show t.cases.getD i default=t.cases[i] by simp [List.getD,hi],show t.cases.getD j default=t.cases[j] by simp [List.getD,hj]] at this
 exact kO.asym _ _ this
theorem qY {t:TaskV} (h:aB t=0) {c d:CaseV} (hc:c ∈ t.cases) (hd:d ∈ t.cases) (e:c.inp=d.inp):c=d:=by
 obtain ⟨i,hi,rfl⟩:=List.getElem_of_mem hc
 obtain ⟨j,hj,rfl⟩:=List.getElem_of_mem hd
 have ei:t.cases.getD i default=t.cases[i]:=by simp [List.getD,hi]
 have ej:t.cases.getD j default=t.cases[j]:=by simp [List.getD,hj]
 have:=tM h hi hj (by rw [ei,ej]; exact e)
 subst this; rfl
theorem gZ {t:TaskV} {p:List Int} (h:aB t=0) (hn:(p.length:Int)=t.n) {c:CaseV} (hc:c ∈ t.cases):c.inp.length=p.length∧(∀ v ∈ c.out,v.length=p.length)∧(∀ v ∈ c.calm,v.length=p.length):=by
 obtain ⟨i,hi,rfl⟩:=List.getElem_of_mem hc
 have:=tn h hn i hi
 rwa [show t.cases.getD i default=t.cases[i] by simp [List.getD,hi]] at this
theorem dh {t:TaskV} (h:aB t=0) {c:CaseV} (hc:c ∈ t.cases):a8 c.inp t.n t.ins=0∧bl t.n t.outs c=0:=by
 obtain ⟨i,hi,rfl⟩:=List.getElem_of_mem hc
 have:=(dU h).2.2 i hi
 rwa [show t.cases.getD i default=t.cases[i] by simp [List.getD,hi]] at this
section
variable {t:TaskV} {p:List Int} (h:aB t=0) (hp:bF p=0) (hn:(p.length:Int)=t.n)
theorem iQ {d:CaseV}:d ∈ (cV t p).cases ↔ ∃ c ∈ t.cases,fC p c=d:=by
 show d ∈ fJ KC (t.cases.map (fC p)) ↔ _
 rw [(bP _).mem_iff,List.mem_map]
theorem qj:(cV t p).cases.length=t.cases.length:=by
 show (fJ KC (t.cases.map (fC p))).length=_
 rw [fl,List.length_map]
include h hp hn
theorem gR:aB (cV t p)=0:=by
 obtain ⟨c1,c2,c3⟩:=dU h
 unfold aB
 rw [if_neg (show ¬ ((cV t p).n < 1 ∨ 5 < (cV t p).n ∨ (cV t p).ins < 1 ∨ 8 < (cV t p).ins ∨ (cV t p).outs < 1 ∨ 8 < (cV t p).outs) from c1),qj,if_neg (by omega)]
 have hinps:∀ k,k < ((cV t p).cases.map CaseV.inp).length→br ((cV t p).cases.map CaseV.inp) k=false:=by
  refine fg ?_ ?_
  ·show bw ba ((fJ KC (t.cases.map (fC p))).map CaseV.inp)
   unfold bw
   rw [List.pairwise_map]
   exact e9 AN _
  ·refine ((bP (K:=KC) (t.cases.map (fC p))).map CaseV.inp).nodup_iff.2 ?_
   rw [List.map_map,List.nodup_iff_pairwise_ne,List.pairwise_map]
   have hnd:t.cases.Pairwise fun c d=>c.inp ≠ d.inp:=by
    rw [List.pairwise_iff_getElem]
    intro i j hi hj hij e
    have:=fA h j i hij hj
    rw [show t.cases.getD i default=t.cases[i] by simp [List.getD,hi],show t.cases.getD j default=t.cases[j] by simp [List.getD,hj],e,ci] at this
    omega
   exact List.Pairwise.imp_of_mem (fun {a b} ha hb hab e=>hab (kH hp (gZ h hn ha).1 (gZ h hn hb).1 e)) hnd
 refine bv fun k hk=>?_
 have hm:(cV t p).cases.getD k default ∈ (cV t p).cases:=ai (by rw [qj]; exact hk)
 have hu:=hinps k (by rw [List.length_map,qj]; exact hk)
 unfold dJ
 rw [hu]
 obtain ⟨c,hc,e⟩:=iQ.1 hm
 rw [← e]
 obtain ⟨g1,g2⟩:=dh h hc
 obtain ⟨l1,l2,l3⟩:=gZ h hn hc
 have v1:a8 (fC p c).inp (cV t p).n (cV t p).ins=0:=jr hp l1 g1
 have v2:bl (cV t p).n (cV t p).outs (fC p c)=0:=pD hp l2 l3 g2
 rw [v1,if_neg (by simp),if_neg (by simp),v2]
theorem mz:cK t p=(cV t p,0):=by
 unfold cK
 rw [if_neg (fun k=>k h),if_neg (fun k=>k hp),if_neg (fun k=>k hn)]
end
end Go.Proofs.YtjgpfclngkcedaaGreat
namespace Go.Proofs.YtjgpfclngkcedaaGreat
open Go Go.Abs
open Nat (reduceEqDiff reduceAdd reduceLeDiff)
theorem sM {α:Type} {p:α→Bool} {v:α}:[v].filter p=if p v then [v] else []:=by cases h:p v <;> simp [h]
attribute [local irreducible] aD ag aS aP aH aJ ay aK aQ aZ Go.Abs.Fn aO Go.Abs.Pure al aC Yl
theorem yi (l:List (List Int)) (p:List Int→Bool) (g:Nat) (caps:List AV) (hd:∀ x ∈ caps,Dat x) (hg:∀ x ∈ l,Pure Tryz.prog g (az x :: caps) (.bool (p x))) (hl:l.length ≤ 100000):Pure Tryz.prog 49 [aA l,.func g caps] (aA (l.filter p)):=by
 refine Pure.of_c2 follows Cc (Nat.le_of_ble_eq_true rfl) ?_
 simp only [b49,cO,cG,cN,cM,cD,cF,cB,aw,aF]
 (have zz:=and_self; repeat' (first | refine zW ?_ | apply a_n | refine zO ?_ | refine vZ ?_ | fail)) <;> (try clear zz)
 refine a9 (X:=AV × Nat) (fun x=>[(0,aA l),(1,.func g caps),(5,x.1),(8,aA l),(9,.int .i64 l.length),(10,.int .i64 x.2)]) (fun x H nx=>x.2 ≤ l.length∧Row H 1 x.1 (((l.take x.2).filter p).map az)∧∀ b,eK x.1=some b→b < nx) (fun x=>l.length - x.2) (.esl,0) ⟨Nat.zero_le _,Row.nil,fun b hb=>(by cases hb)⟩ ag0 ?_
 rintro ⟨s,j⟩ H nx ⟨h1,h2,h3⟩
 dsimp only at h1 h2 h3 ⊢
 by_cases hj:j < l.length
 rotate_left
 ·(have zz:=@h1; repeat' (first | refine zW ?_ | apply a_n | apply a_x | refine zO ?_ | refine vY ?_ | (refine zGY ?_ ?_ <;> (intro _hg; try (exfalso; omega))) | refine aa rfl ?_ | refine r1Y ?_ | fail)) <;> (try clear zz)
  rw [List.take_of_length_le (by omega)] at h2
  exact h2.snapV
 have hw:=ai hj
 have hc:=hg _ hw
 have hst:(l.take (j + 1)).filter p=(l.take j).filter p ++ (if p (l.getD j default) then [l.getD j default] else []):=by
  rw [cI hj,List.filter_append,sM]
 have hlen:((l.take j).filter p).length ≤ l.length:=Nat.le_trans (List.length_filter_le _ _) (by rw [List.length_take]; omega)
 cases hp:p (l.getD j default)
 ·rw [hp] at hc hst
  (have zz:=@h1; repeat' (first | refine zW ?_ | apply a_n | refine zO ?_ | refine vY ?_ | refine cY ?_ (hp:=hc) (hs:=by (first | refine aj ?_ rfl | apply ap); (repeat' (first | exact af | apply aG | apply av | exact ar hd)); first | done | fail) | refine cFY ?_ | (refine zGY ?_ ?_ <;> (intro _hg; try (exfalso; omega))) | fail)) <;> (try clear zz)
  exact ⟨(s,j + 1),by dsimp only; omega,⟨by dsimp only; omega,by dsimp only; rw [hst,if_neg (by decide),List.append_nil]; exact h2,h3⟩,ag0⟩
 ·rw [hp] at hc hst
  (have zz:=@h1; repeat' (first | refine zW ?_ | apply a_n | refine zO ?_ | refine vY ?_ | refine cY ?_ (hp:=hc) (hs:=by (first | refine aj ?_ rfl | apply ap); (repeat' (first | exact af | apply aG | apply av | exact ar hd)); first | done | fail) | refine blY ?_ | refine cTY ?_ | (refine zGY ?_ ?_ <;> (intro _hg; try (exfalso; omega))) | fail)) <;> (try clear zz)
  refine lB rfl ev0 (h2.same fun b hb=>?_) ev0 ro rfl rfl Nat.one_pos (by simp; omega) (by simp; omega) ?_
  ·have:=h3 b hb
   rw [ao (by omega)]
  rintro s2 E e hrow hle1 hle2 hsame hb2
  (have zz:=and_self; repeat' (first | apply a_n | refine zO ?_ | refine vZ ?_ | fail)) <;> (try clear zz)
  refine ⟨(s2,j + 1),by dsimp only; omega,⟨by dsimp only; omega,?_,fun b hb=>?_⟩,ag0⟩
  ·dsimp only
   rw [hst,if_pos rfl,List.map_append]
   exact hrow
  ·rcases hb2 b hb with h | h
   ·have:=h3 b h; omega
   ·omega
theorem uw (x y:List (List Int)) (hx:Sh x) (hy:Sh y) (hxs:∀ v ∈ x,Sh v) (hys:∀ v ∈ y,Sh v):Pure Tryz.prog 110 [aA x,aA y,.func 15 []] (.bool (decide (x=y))):=by
 refine Pure.of_c2 follows yY (Nat.le_of_ble_eq_true rfl) ?_
 simp only [Ay,cO,cG,cN,cM,cD,cF,cB,aw,aF]
 have hx':x.length ≤ 17592186044416:=hx
 have hy':y.length ≤ 17592186044416:=hy
 by_cases hlen:x.length=y.length
 rotate_left
 ·have z:decide ((x.length:Int) ≠ y.length)=true:=decide_eq_true (by omega)
  rw [decide_eq_false (fun e=>hlen (by rw [e]))]
  (have zz:=@z; repeat' (first | refine zW ?_ | apply a_n | apply a_r | refine zO ?_ | refine vZ ?_ | refine cTZ ?_ | refine aa rfl ?_ | refine r1Z ?_ | fail)) <;> (try clear zz)
  exact .bool _
 have z:decide ((x.length:Int) ≠ y.length)=false:=decide_eq_false (by omega)
 (have zz:=@z; repeat' (first | refine zW ?_ | apply a_n | refine zO ?_ | refine vZ ?_ | refine cFZ ?_ | fail)) <;> (try clear zz)
 refine jt (fun k=>[(0,aA x),(1,aA y),(2,.func 15 []),(15,aA x),(16,.int .i64 x.length),(17,.int .i64 k)]) x.length (fun k=>x.getD k default=y.getD k default) ag0 ?_
 intro k hk hz
 by_cases hk2:k < x.length
 rotate_left
 ·(have zz:=and_self; repeat' (first | refine zW ?_ | apply a_n | apply a_x | refine zO ?_ | refine vZ ?_ | (refine zGZ ?_ ?_ <;> (intro _hg; try (exfalso; omega))) | refine aa rfl ?_ | refine r1Z ?_ | fail)) <;> (try clear zz)
  refine bD ?_
  symm; rw [decide_eq_true_iff]
  refine List.ext_getElem hlen fun i h3 h4=>?_
  have:=hz i (by omega)
  simpa [List.getD,h3,h4] using this
 have hc:=iv (x.getD k default) (y.getD k default) (hxs _ (ai hk2)) (hys _ (ai (by omega)))
 by_cases he:x.getD k default=y.getD k default
 ·rw [decide_eq_true he] at hc
  (have zz:=and_self; repeat' (first | refine zW ?_ | apply a_n | refine zO ?_ | refine vZ ?_ | refine cZ ?_ (hp:=hc) | refine cFZ ?_ | (refine zGZ ?_ ?_ <;> (intro _hg; try (exfalso; omega))) | fail)) <;> (try clear zz)
  exact ⟨hk2,he,ag0,rfl,rfl⟩
 ·rw [decide_eq_false he] at hc
  rw [decide_eq_false (p:=x=y) (fun e=>he (by rw [e]))]
  (have zz:=and_self; repeat' (first | refine zW ?_ | apply a_n | apply a_r | refine zO ?_ | refine vZ ?_ | refine cZ ?_ (hp:=hc) | refine cTZ ?_ | (refine zGZ ?_ ?_ <;> (intro _hg; try (exfalso; omega))) | refine aa rfl ?_ | refine r1Z ?_ | fail)) <;> (try clear zz)
  exact .bool _
end Go.Proofs.YtjgpfclngkcedaaGreat
namespace Go.Proofs.YtjgpfclngkcedaaGreat
open Go Go.Abs
def gw (l:List (List Int)):Prop:=l.Pairwise fun x y=>ba x y < 0
theorem gw.nodup {l:List (List Int)} (h:gw l):l.Nodup:=List.Pairwise.imp (fun {a b} h e=>by subst e; rw [ci] at h; omega) h
theorem gw.sorted {l:List (List Int)} (h:gw l):bw ba l:=List.Pairwise.imp (fun {a b} h=>kO.asym _ _ h) h
theorem gw.of {l:List (List Int)} (hs:bw ba l) (hn:l.Nodup):gw l:=by
 have h2:=List.nodup_iff_pairwise_ne.1 hn
 refine List.Pairwise.imp₂ (fun a b h1 h2=>?_) hs h2
 rcases gH a b with h | h | h
 ·omega
 ·exact absurd (gm h) h2
 ·have:=dP a b
  exact absurd (show ba b a < 0 by omega) h1
theorem nf {a b:List (List Int)} (ha:gw a) (hb:gw b) (h:∀ x,x ∈ a ↔ x ∈ b):a=b:=by
 have hp:a.Perm b:=(List.perm_ext_iff_of_nodup ha.nodup hb.nodup).2 h
 exact List.Perm.eq_of_pairwise (fun x y _ _ h1 h2=>by have:=dP x y; omega) ha hb hp
theorem pb {l:List (List Int)} (h:gw l):∀ i,i < l.length→br l i=false:=fg h.sorted h.nodup
theorem fm {l:List (List Int)} (h:∀ i,i < l.length→br l i=false):gw l:=gw.of (sT h) (oS h)
def oC (acc:List (List Int)) (v:List Int):List (List Int):=if v ∈ acc then acc else mw ba acc v
theorem vN {acc:List (List Int)} {v:List Int} (h:gw acc):gw (oC acc v):=by
 unfold oC
 split
 ·exact h
 ·rename_i hn
  refine gw.of (lX kO h.sorted) ?_
  rw [(i4 acc v).nodup_iff,List.nodup_cons]
  exact ⟨hn,h.nodup⟩
theorem wR {acc:List (List Int)} {v x:List Int}:x ∈ oC acc v ↔ x ∈ acc ∨ x=v:=by
 unfold oC
 split
 ·rename_i h
  exact ⟨.inl,fun h2=>h2.elim id (fun e=>e ▸ h)⟩
 ·rw [(i4 acc v).mem_iff,List.mem_cons]
  exact ⟨fun h=>h.elim .inr .inl,fun h=>h.elim .inr .inl⟩
theorem wG {acc:List (List Int)} {v:List Int}:(oC acc v).length ≤ acc.length + 1:=by
 unfold oC
 split
 ·omega
 ·rw [wv]; exact Nat.le_refl _
def oI (acc l:List (List Int)):List (List Int):=l.foldl oC acc
theorem rH:∀ {l acc:List (List Int)},gw acc→gw (oI acc l)
 | [],_,h=>h
 | v :: l,acc,h=>rH (l:=l) (vN (v:=v) h)
theorem rj:∀ {l acc:List (List Int)} {x:List Int},x ∈ oI acc l ↔ x ∈ acc ∨ x ∈ l
 | [],acc,x=>by simp [oI]
 | v :: l,acc,x=>by
  rw [show oI acc (v :: l)=oI (oC acc v) l from rfl,rj,wR,List.mem_cons,or_assoc]
theorem rS:∀ {l acc:List (List Int)},(oI acc l).length ≤ acc.length + l.length
 | [],acc=>by simp [oI]
 | v :: l,acc=>by
  rw [show oI acc (v :: l)=oI (oC acc v) l from rfl]
  have:=rS (l:=l) (acc:=oC acc v)
  have:=wG (acc:=acc) (v:=v)
  rw [List.length_cons]; omega
def fu (l:List (List Int)):List (List Int):=oI [] l
theorem m8 (l:List (List Int)):gw (fu l):=rH List.Pairwise.nil
theorem dI {l:List (List Int)} {x:List Int}:x ∈ fu l ↔ x ∈ l:=by
 unfold fu; rw [rj]; simp
theorem mi {l:List (List Int)}:(fu l).length ≤ l.length:=by
 have:=rS (l:=l) (acc:=[])
 unfold fu
 rw [List.length_nil] at this
 omega
section
variable {α:Type} [Inhabited α] [DecidableEq α]
def bt (l:List α):Nat→Nat
 | 0=>0
 | k + 1=>bt l k + if k=0 ∨ l.getD k default ≠ l.getD (k - 1) default then 1 else 0
theorem vH (l:List α) (k:Nat):bt l k ≤ k:=by
 induction k with
 | zero=>exact Nat.le_refl _
 | succ k ih=>unfold bt; split <;> omega
theorem fN {l:List α} {k:Nat} (hk:k ≠ 0) (h:l.getD k default=l.getD (k - 1) default):bt l (k + 1)=bt l k:=by
 rw [bt,if_neg (by rintro (h' | h'); exact hk h'; exact h' h)]; rfl
theorem lV {l:List α} {k:Nat} (h:l.getD k default ≠ l.getD (k - 1) default):bt l (k + 1)=bt l k + 1:=by
 rw [bt,if_pos (.inr h)]
def ddG (l:List α):Nat→List α
 | 0=>[]
 | k + 1=>ddG l k ++ if k=0 ∨ l.getD k default ≠ l.getD (k - 1) default then [l.getD k default] else []
theorem xT (l:List α) (k:Nat):(ddG l k).length=bt l k:=by
 induction k with
 | zero=>rfl
 | succ k ih=>rw [ddG,bt,List.length_append,ih]; split <;> rfl
theorem rR {l:List α} {k:Nat} (hk:k ≠ 0) (h:l.getD k default=l.getD (k - 1) default):ddG l (k + 1)=ddG l k:=by
 rw [ddG,if_neg (by rintro (h' | h'); exact hk h'; exact h' h),List.append_nil]
theorem ry {l:List α} {k:Nat} (h:l.getD k default ≠ l.getD (k - 1) default):ddG l (k + 1)=ddG l k ++ [l.getD k default]:=by
 rw [ddG,if_pos (.inr h)]
theorem pO {l:List α}:∀ {k:Nat},k ≤ l.length→∀ x,x ∈ ddG l k ↔ ∃ j,j < k∧l.getD j default=x
 | 0,_,x=>by simp [ddG]
 | k + 1,hk,x=>by
  have ih:=pO (l:=l) (k:=k) (by omega) x
  rw [ddG,List.mem_append,ih]
  constructor
  ·rintro (⟨j,h1,h2⟩ | h)
   ·exact ⟨j,by omega,h2⟩
   ·split at h
    ·rw [List.mem_singleton] at h; exact ⟨k,by omega,h.symm⟩
    ·simp at h
  ·rintro ⟨j,h1,h2⟩
   by_cases e:j=k
   ·subst e
    by_cases c:j=0 ∨ l.getD j default ≠ l.getD (j - 1) default
    ·right; rw [if_pos c,List.mem_singleton]; exact h2.symm
    ·left
     have c1:j ≠ 0:=fun h=>c (.inl h)
     have c2:l.getD j default=l.getD (j - 1) default:=Decidable.of_not_not fun h=>c (.inr h)
     exact ⟨j - 1,by omega,by rw [← c2]; exact h2⟩
   ·left; exact ⟨j,by omega,h2⟩
theorem tH {K:α→α→Int} (hK:Ord K) (hA:∀ x y,¬ K x y < 0→¬ K y x < 0→x=y) {l:List α} (hs:∀ i j,i < j→j < l.length→¬ K (l.getD j default) (l.getD i default) < 0):∀ {k:Nat},k ≤ l.length→(ddG l k).Pairwise fun x y=>K x y < 0
 | 0,_=>List.Pairwise.nil
 | k + 1,hk=>by
  have ih:=tH hK hA hs (k:=k) (by omega)
  rw [ddG,List.pairwise_append]
  refine ⟨ih,by split <;> simp,fun x hx y hy=>?_⟩
  split at hy
  ·rename_i c
   rw [List.mem_singleton] at hy
   subst hy
   obtain ⟨j,h1,rfl⟩:=(pO (by omega) x).1 hx
   rcases c with c | c
   ·omega
   ·refine Decidable.byContradiction fun hn=>?_
    have a2:=hs (k - 1) k (by omega) (by omega)
    have hne:K (l.getD (k - 1) default) (l.getD k default) < 0:=Decidable.byContradiction fun h3=>c (hA _ _ a2 h3)
    by_cases e:j=k - 1
    ·rw [e] at hn; exact hn hne
    ·have a1:=hs j (k - 1) (by omega) (by omega)
     exact hK.negtr _ _ _ hn a1 hne
  ·simp at hy
omit [DecidableEq α] in
theorem pZ {M:List α} {x:α}:(∃ j,j < M.length∧M.getD j default=x) ↔ x ∈ M:=by
 constructor
 ·rintro ⟨j,h1,rfl⟩; exact ai h1
 ·intro h
  obtain ⟨j,hj,rfl⟩:=List.getElem_of_mem h
  exact ⟨j,hj,by simp [List.getD,hj]⟩
end
theorem xu (l:List (List Int)):ddG (qQ l) (qQ l).length=fu l:=by
 refine nf (tH kO (fun _ _=>nD) (fun i j h1 h2=>?_) (Nat.le_refl _)) (m8 l) fun x=>?_
 ·have h3:j < (fJ ba l).length:=h2
  have:=List.pairwise_iff_getElem.1 (e9 kO l) i j (by omega) h3 h1
  simpa [List.getD,h3,show i < (fJ ba l).length by omega] using this
 ·rw [pO (Nat.le_refl _),pZ,(bP l).mem_iff,dI]
end Go.Proofs.YtjgpfclngkcedaaGreat
namespace Go.Proofs.YtjgpfclngkcedaaGreat
open Go Go.Abs
open Nat (reduceEqDiff reduceAdd reduceLeDiff)
section
variable {P:Program} {T:Tm} {H:Hp} {nx:Nat}
end
theorem uO {α:Type} [Inhabited α] {L:List α} {h:Nat} {x:α} (hh:h < L.length):(L.set h x).take (h + 1)=L.take h ++ [x]:=by
 rw [cI (by simpa using hh),List.take_set_of_le (Nat.le_refl h)]
 simp [List.getD,hh]
theorem mJ {B n len k:Nat} (h:k < len) (hn:n ≠ 0):rX 1 (.msl B n 1 0 len) (some (.int .i64 k)) none none=some (.msl B n 1 k (len - k)):=by
 simp only [rX,bm,Int.natCast_nonneg,if_true,Int.toNat_natCast]
 rw [if_pos ⟨trivial,by omega,Nat.le_refl _,hn⟩,if_pos (.inr h),Nat.zero_add,Nat.mul_one]
theorem si {B n len k:Nat} (h:k ≤ len) (hn:n ≠ 0):rX 1 (.msl B n 1 0 len) none (some (.int .i64 k)) none=some (.msl B n 1 0 k):=by
 simp only [rX,bm,Int.natCast_nonneg,if_true,Int.toNat_natCast]
 rw [if_pos ⟨trivial,by omega,h,hn⟩,if_pos (.inl trivial),Nat.zero_mul,Nat.sub_zero]
attribute [local irreducible] aD ag aS aP aH aJ ay aK aQ aZ Go.Abs.Fn aO Go.Abs.Pure al aC Yl
theorem wx (s:AV) (l:List (List Int)) (hl:l.length ≤ 1000000) (H:Hp) (nx:Nat) (hn:eL s=some l.length) (hs:∀ H',(∀ x,x < nx→H' x=H x)→cA 1 H' s=some (l.length,l.map az)):Abs.Fn Tryz.prog 106 [s] H nx fun r H' nx'=>nx' ≤ nx + 1∧nx ≤ nx'∧(∀ x,x < nx→H' x=H x)∧if l=[] then cr r=some (.int .i64 0)∧∀ H'',Snap H'' r (aA []) else r=.msl nx l.length 1 0 l.length∧H'=ak H nx (l.map az)∧nx'=nx + 1:=by
 refine Abs.Fn.of_c2 follows xo (Nat.le_of_ble_eq_true rfl) ?_
 simp only [xZ,cO,cG,cN,cM,cD,cF,cB,aw,aF]
 (have zz:=and_self; repeat' (first | refine zW ?_ | apply a_n | refine zO ?_ | refine vY ?_ | fail)) <;> (try clear zz)
 refine kM (k:=l.length) (by ((try simp only [bq,ZA,reduceEqDiff,↓reduceIte,reduceAdd,reduceLeDiff]); (try with_reducible rfl)); exact hn) (fun h=>?_) (fun h=>?_) (fun h=>?_)
 ·(have zz:=and_self; repeat' (first | refine zW ?_ | apply a_n | refine zO ?_ | refine vY ?_ | refine b0Y ?_ | refine cFY ?_ | fail)) <;> (try clear zz)
  refine mH rfl ev0 ev0 (hs _ fun x _=>rfl) gq (by omega) (by omega) ?_
  (have zz:=and_self; repeat' (first | apply a_n | refine zO ?_ | refine vY ?_ | refine aa rfl ?_ | refine r1Y ?_ | fail)) <;> (try clear zz)
  refine ⟨Nat.le_refl _,by omega,fun x hx=>ao (by omega),?_⟩
  rw [if_neg (by rintro rfl; exact absurd h (by simp))]
  exact ⟨rfl,rfl,rfl⟩
 ·(have zz:=and_self; repeat' (first | refine zW ?_ | apply a_n | apply a_r | refine zO ?_ | refine vY ?_ | refine cTY ?_ | refine aa rfl ?_ | refine r1Y ?_ | fail)) <;> (try clear zz)
  refine ⟨by omega,Nat.le_refl _,fun x hx=>rfl,?_⟩
  rw [if_pos (List.length_eq_zero_iff.1 h)]
  exact ⟨rfl,fun _=>.eslsl 1⟩
 ·(have zz:=and_self; repeat' (first | refine zW ?_ | apply a_n | refine zO ?_ | refine vY ?_ | refine b0Y ?_ | refine cFY ?_ | fail)) <;> (try clear zz)
  refine mH rfl ev0 ev0 (hs _ fun x _=>rfl) gq (by omega) (by omega) ?_
  (have zz:=and_self; repeat' (first | apply a_n | refine zO ?_ | refine vY ?_ | refine aa rfl ?_ | refine r1Y ?_ | fail)) <;> (try clear zz)
  refine ⟨Nat.le_refl _,by omega,fun x hx=>ao (by omega),?_⟩
  obtain rfl:=List.length_eq_zero_iff.1 h
  rw [if_pos rfl]
  exact ⟨rfl,fun _=>.mslnil _ _ _ _ _⟩
section
variable {g:Nat} {caps:List AV} {s:AV}
theorem BG (hs:cr s=some (.int .i64 0)) {H:Hp} {nx:Nat}:Abs.Fn Tryz.prog 149 [s,.int .i64 0,.int .i64 0,.func g caps] H nx fun r H' nx'=>nx'=nx∧H'=H:=by
 refine Abs.Fn.of_c2 follows ue (Nat.le_of_ble_eq_true rfl) ?_
 simp only [wk,cO,cG,cN,cM,cD,cF,cB,aw,aF]
 (have zz:=and_self; repeat' (first | refine zW ?_ | apply a_n | refine zO ?_ | refine vZ ?_ | fail)) <;> (try clear zz)
 refine a9 (X:=Unit) (fun x=>[(0,s),(1,.int .i64 0),(2,.int .i64 0),(3,.func g caps),(8,.int .i64 1)]) (fun x H' nx'=>H'=H∧nx'=nx) (fun x=>0) () ⟨rfl,rfl⟩ (by simp (disch:=omega) only [agr,ZG,reduceEqDiff,↓reduceIte,Int.zero_add,true_and]) ?_
 rintro _ _ _ ⟨rfl,rfl⟩
 (have zz:=and_self; repeat' (first | refine zW ?_ | apply a_n | apply a_x | refine zO ?_ | refine vZ ?_ | (refine zGZ ?_ ?_ <;> (intro _hg; try (exfalso; omega))) | refine aa rfl ?_ | fail)) <;> (try clear zz)
 exact ⟨rfl,rfl⟩
theorem Bs (hs:cr s=some (.int .i64 0)) {H:Hp} {nx:Nat}:Abs.Fn Tryz.prog 130 [s,.int .i64 0,.int .i64 0,.int .i64 0,.func g caps] H nx fun r H' nx'=>nx'=nx∧H'=H:=by
 refine Abs.Fn.of_c2 follows th (Nat.le_of_ble_eq_true rfl) ?_
 simp only [we,cO,cG,cN,cM,cD,cF,cB,aw,aF]
 (have zz:=and_self; repeat' (first | refine zW ?_ | apply a_n | refine zO ?_ | refine vZ ?_ | fail)) <;> (try clear zz)
 refine a9 (X:=Unit) (fun x=>[(0,s),(1,.int .i64 0),(2,.int .i64 0),(3,.int .i64 0),(4,.func g caps)]) (fun x H' nx'=>H'=H∧nx'=nx) (fun x=>0) () ⟨rfl,rfl⟩ ag0 ?_
 rintro _ _ _ ⟨rfl,rfl⟩
 (have zz:=and_self; repeat' (first | refine zW ?_ | apply a_n | refine zO ?_ | refine vZ ?_ | (refine zGZ ?_ ?_ <;> (intro _hg; try (exfalso; omega))) | fail)) <;> (try clear zz)
 refine aE ev0 ev0 (BG hs) ?_
 rintro _ _ _ ⟨rfl,rfl⟩
 (have zz:=and_self; repeat' (first | apply a_n | apply a_r | refine zO ?_ | refine aa rfl ?_ | fail)) <;> (try clear zz)
 exact ⟨rfl,rfl⟩
theorem xM (hs:cr s=some (.int .i64 0)) {H:Hp} {nx:Nat}:Abs.Fn Tryz.prog 107 [s,.func g caps] H nx fun r H' nx'=>nx'=nx∧H'=H:=by
 refine Abs.Fn.of_c2 follows sY (Nat.le_of_ble_eq_true rfl) ?_
 simp only [vM,cO,cG,cN,cM,cD,cF,cB,aw,aF]
 have w8:IntKind.wrap .u64 0=0:=by decide
 (have zz:=aI @w8 @hs; repeat' (first | refine zW ?_ | apply a_n | refine zO ?_ | refine vZ ?_ | fail)) <;> (try clear zz)
 refine aE ev0 (have zz:=@w8; evZ) zl ?_
 rintro _ _ _ ⟨rfl,rfl,rfl⟩
 (have zz:=and_self; repeat' (first | apply a_n | refine zO ?_ | refine vZ ?_ | fail)) <;> (try clear zz)
 refine aE ev0 ev0 (Bs hs) ?_
 rintro _ _ _ ⟨rfl,rfl⟩
 (have zz:=and_self; repeat' (first | apply a_n | refine zO ?_ | refine aa rfl ?_ | fail)) <;> (try clear zz)
 exact ⟨rfl,rfl⟩
end
end Go.Proofs.YtjgpfclngkcedaaGreat
namespace Go.Proofs.YtjgpfclngkcedaaGreat
open Go Go.Abs
open Nat (reduceEqDiff reduceAdd reduceLeDiff)
attribute [local irreducible] aD ag aS aP aH aJ ay aK aQ aZ Go.Abs.Fn aO Go.Abs.Pure al aC Yl
set_option maxHeartbeats 2000000 in
theorem r8 (l:List (List Int)) (hl:l.length ≤ 1000000) (hls:∀ v ∈ l,Sh v) (h0:l ≠ []) (H:Hp) (B nx:Nat) (hH:H B=some (l.map az)) (hB:B < nx) :
    Abs.Fn Tryz.prog 108 [.msl B l.length 1 0 l.length,.func 15 []] H nx fun r H' nx'=>r=.msl B l.length 1 0 (bt l l.length)∧(∃ C,H'=ak H B C∧C.length=l.length∧C.take (bt l l.length)=(ddG l l.length).map az)∧nx'=nx:=by
 refine Abs.Fn.of_c2 follows wj (Nat.le_of_ble_eq_true rfl) ?_
 simp only [xJ,cO,cG,cN,cM,cD,cF,cB,aw,aF]
 have hpos:=List.length_pos_iff.2 h0
 have hid:H=ak H B (l.map az):=c6 hH
 have heq:=fun i j (hi:i < l.length) (hj:j < l.length)=>iv (l.getD i default) (l.getD j default) (hls _ (ai hi)) (hls _ (ai hj))
 have hh1:bt l 1=1:=rfl
 by_cases h1:l.length < 2
 ·have e1:l.length=1:=by omega
  have e2:ddG l l.length=l:=by
   match l,e1 with
   | [a],_=>rfl
  have z:decide ((l.length:Int) < 2)=true:=decide_eq_true (by omega)
  (have zz:=@z; repeat' (first | refine zW ?_ | apply a_n | apply a_r | refine zO ?_ | refine vZ ?_ | refine cTZ ?_ | refine aa rfl ?_ | refine r1Z ?_ | fail)) <;> (try clear zz)
  refine ⟨?_,⟨_,hid,by simp,?_⟩,rfl⟩
  ·rw [show bt l l.length=l.length by rw [e1]; rfl]
  ·rw [e2,show bt l l.length=l.length by rw [e1]; rfl,List.take_of_length_le (by simp)]
 have z:decide ((l.length:Int) < 2)=false:=decide_eq_false (by omega)
 (have zz:=@z; repeat' (first | refine zW ?_ | apply a_n | refine zO ?_ | refine vZ ?_ | refine cFZ ?_ | fail)) <;> (try clear zz)
 refine a9 (X:=Nat) (fun k=>[(0,.msl B l.length 1 0 l.length),(1,.func 15 []),(5,.int .i64 k)]) (fun k H' nx'=>H'=H∧nx'=nx∧1 ≤ k∧k ≤ l.length∧bt l k=k∧ddG l k=l.take k) (fun k=>l.length - k) 1 ⟨rfl,rfl,Nat.le_refl _,hpos,rfl,by match l,h0 with | a :: r,_=>rfl⟩ ag0 ?_
 rintro k H' nx' ⟨rfl,rfl,k1,k2,k3,k4⟩
 by_cases hk:k < l.length
 rotate_left
 ·(have zz:=and_self; repeat' (first | refine zW ?_ | apply a_n | apply a_x | refine zO ?_ | refine vZ ?_ | (refine zGZ ?_ ?_ <;> (intro _hg; try (exfalso; omega))) | refine aa rfl ?_ | refine r1Z ?_ | fail)) <;> (try clear zz)
  have e:l.length=k:=by omega
  refine ⟨by rw [e,k3],⟨_,hid,by simp,?_⟩,rfl⟩
  rw [e,k3,k4,← List.map_take]
 have tk:(k:Int) - 1=(k - 1:Nat):=by omega
 have hc:=heq k (k - 1) hk (by omega)
 by_cases he:l.getD k default=l.getD (k - 1) default
 rotate_left
 ·rw [decide_eq_false he] at hc
  (have zz:=aI @tk (aI @hH @Int.toNat_natCast); repeat' (first | refine zW ?_ | refine zM ?_ | apply a_n | refine zO ?_ | refine vZ ?_ | refine cZ ?_ (hp:=hc) | refine cFZ ?_ | (refine zGZ ?_ ?_ <;> (intro _hg; try (exfalso; omega))) | fail)) <;> (try clear zz)
  exact ⟨k + 1,by omega,⟨rfl,rfl,by omega,by omega,by rw [lV he,k3],by rw [ry he,k4,cI hk]⟩,ag0⟩
 have hs:=mJ (B:=B) hk (Nat.ne_of_gt hpos)
 rw [decide_eq_true he] at hc
 (have zz:=aI @tk (aI @hH (aI @Int.toNat_natCast @hs)); repeat' (first | refine zW ?_ | refine zM ?_ | apply a_n | refine zO ?_ | refine vZ ?_ | refine cZ ?_ (hp:=hc) | refine cTZ ?_ | (refine zGZ ?_ ?_ <;> (intro _hg; try (exfalso; omega))) | fail)) <;> (try clear zz)
 refine a9 (X:=Nat × List (List Int)) (fun x=>[(0,.msl B l.length 1 0 l.length),(1,.func 15 []),(5,.int .i64 (bt l (k + x.1):Nat)),(6,.msl B l.length 1 k (l.length - k)),(7,.int .i64 x.1)]) (fun x H2 nx2=>x.2.length=l.length∧1 ≤ x.1∧k + x.1 ≤ l.length∧bt l (k + x.1) + 1 ≤ k + x.1∧H2=ak H' B (x.2.map az)∧nx2=nx'∧(∀ p,k + x.1 ≤ p + 1→x.2.getD p default=l.getD p default)∧x.2.take (bt l (k + x.1))=ddG l (k + x.1)) (fun x=>l.length - x.1) (1,l)
  ⟨rfl,Nat.le_refl _,hk,by dsimp only; rw [fN (by omega) he]; omega,hid,rfl,fun _ _=>rfl,by dsimp only; rw [fN (by omega) he,rR (by omega) he,k3,k4]⟩ (by simp (disch:=omega) only [agr,ZG,reduceEqDiff,↓reduceIte,fN (show k ≠ 0 by omega) he,k3]) ?_
 rintro ⟨j,L⟩ H2 nx2 ⟨a1,a2,a3,a4,rfl,rfl,a5,a6⟩
 dsimp only at a1 a2 a3 a4 a5 a6 ⊢
 by_cases hj:k + j < l.length
 ·have tj:(j:Int) - 1=(j - 1:Nat):=by omega
  have r1:=a5 (k + j) (by omega)
  have r2:=a5 (k + (j - 1)) (by omega)
  have hc2:=heq (k + j) (k + (j - 1)) hj (by omega)
  by_cases hd:l.getD (k + j) default=l.getD (k + (j - 1)) default
  ·have hq:bt l (k + (j + 1))=bt l (k + j):=fN (l:=l) (k:=k + j) (by omega) (by rw [hd,show k + j - 1=k + (j - 1) by omega])
   rw [decide_eq_true hd] at hc2
   (have zz:=aI @tj (aI @Int.toNat_natCast (aI @r1 @r2)); repeat' (first | refine zW ?_ | refine zM ?_ | apply a_n | refine zO ?_ | refine vZ ?_ | refine cZ ?_ (hp:=hc2) | refine cFZ ?_ | (refine zGZ ?_ ?_ <;> (intro _hg; try (exfalso; omega))) | fail)) <;> (try clear zz)
   refine ⟨(j + 1,L),by dsimp only; omega,⟨a1,by dsimp only; omega,by dsimp only; omega,?_,rfl,rfl,fun p hp=>a5 p (by dsimp only at hp; omega),by dsimp only; rw [hq,show k + (j + 1)=k + j + 1 from rfl,rR (by omega) (by rw [hd,show k + j - 1=k + (j - 1) by omega])]; exact a6⟩,(have zz:=@hq; agZ)⟩
   dsimp only
   rw [hq]
   omega
  ·have hq:bt l (k + (j + 1))=bt l (k + j) + 1:=lV (l:=l) (k:=k + j) (by rw [show k + j - 1=k + (j - 1) by omega]; exact hd)
   have hlm:=dE (f:=az) (l:=L) (k:=bt l (k + j)) (x:=l.getD (k + j) default) (by omega)
   rw [decide_eq_false hd] at hc2
   (have zz:=aI @tj (aI @Int.toNat_natCast (aI @r1 @r2)); repeat' (first | refine zW ?_ | refine zM ?_ | apply a_n | refine zO ?_ | refine vZ ?_ | refine cZ ?_ (hp:=hc2) | refine stZ ?_ | refine cTZ ?_ | (refine zGZ ?_ ?_ <;> (intro _hg; try (exfalso; omega))) | fail)) <;> (try clear zz)
   refine ⟨(j + 1,L.set (bt l (k + j)) (l.getD (k + j) default)),by dsimp only; omega,⟨by simp [a1],by dsimp only; omega,by dsimp only; omega,?_,?_,rfl,fun p hp=>?_,by dsimp only; rw [hq,uO (by omega),a6,show k + (j + 1)=k + j + 1 from rfl,ry (by rw [show k + j - 1=k + (j - 1) by omega]; exact hd)]⟩,(have zz:=@hq; agZ)⟩
   ·dsimp only
    rw [hq]
    omega
   ·dsimp only
    rw [an,hlm]
   ·dsimp only at hp ⊢
    rw [List.getD_eq_getElem?_getD,List.getElem?_set_ne (by omega),← List.getD_eq_getElem?_getD]
    exact a5 p (by omega)
 ·have hn:k + j=l.length:=by omega
  have hl1:=mJ (B:=B) (n:=l.length) (show bt l (k + j) < l.length by omega) (Nat.ne_of_gt hpos)
  have hl2:=si (B:=B) (n:=l.length) (show bt l (k + j) ≤ l.length by omega) (Nat.ne_of_gt hpos)
  (have zz:=aI @hl1 @hl2; repeat' (first | refine zW ?_ | apply a_n | apply a_x | refine zO ?_ | refine vZ ?_ | (refine zGZ ?_ ?_ <;> (intro _hg; try (exfalso; omega))) | fail)) <;> (try clear zz)
  refine Co (H':=ak (ak H' B (L.map az)) B (bj (L.map az) (bt l (k + j)) (a7 .esl (l.length - bt l (k + j))))) ?_ ?_
  ·((try simp only [bq,ZA,reduceEqDiff,↓reduceIte,reduceAdd,reduceLeDiff]); (try with_reducible rfl))
   simp only [fV]
   rw [if_neg (by omega),au]
   dsimp only
   rw [if_pos ⟨by simp [a1],trivial,rfl,rfl,by omega⟩]
   rfl
  ·(have zz:=@hl2; repeat' (first | refine zW ?_ | apply a_n | apply a_r | refine zO ?_ | refine vZ ?_ | refine aa rfl ?_ | refine r1Z ?_ | fail)) <;> (try clear zz)
   refine ⟨by rw [hn],⟨_,an _ _ _ _,?_,?_⟩,rfl⟩
   ·have hz:(a7 AV.esl (l.length - bt l (k + j))).length=l.length - bt l (k + j):=by simp [a7,show (AV.esl).cells.length=1 from rfl]
    simp [bj,hz]
    omega
   ·rw [← hn,← a6,List.map_take]
    simp only [bj]
    rw [List.append_assoc,List.take_append_of_le_length (by simp; omega),List.take_of_length_le (by simp; omega)]
theorem q9 (s:AV) (l:List (List Int)) (hl:l.length ≤ 1000000) (hls:∀ v ∈ l,Sh v) (H:Hp) (nx:Nat) (hn:eL s=some l.length) (hs:∀ H',(∀ x,x < nx→H' x=H x)→cA 1 H' s=some (l.length,l.map az)):Abs.Fn Tryz.prog 57 [s] H nx fun r H' nx'=>Snap H' r (aA (fu l))∧(∀ x,x < nx→H' x=H x)∧nx ≤ nx':=by
 refine Abs.Fn.of_c2 follows B9 (Nat.le_of_ble_eq_true rfl) ?_
 simp only [b57,cO,cG,cN,cM,cD,cF,cB,aw,aF]
 (have zz:=and_self; repeat' (first | refine zW ?_ | apply a_n | refine zO ?_ | refine vY ?_ | fail)) <;> (try clear zz)
 refine aE ev0 ev0 (wx s l hl H nx hn hs) ?_
 rintro r H1 n1 ⟨h1,h2,h3,h4⟩
 by_cases h0:l=[]
 ·subst h0
  rw [if_pos rfl] at h4
  obtain ⟨r1,r2⟩:=h4
  (have zz:=and_self; repeat' (first | refine zW ?_ | apply a_n | refine zO ?_ | refine vY ?_ | fail)) <;> (try clear zz)
  refine aE ev0 ev0 (xM r1) ?_
  rintro _ _ _ ⟨rfl,rfl⟩
  (have zz:=and_self; repeat' (first | refine zW ?_ | apply a_n | refine zO ?_ | refine vY ?_ | fail)) <;> (try clear zz)
  have hcf:∀ H2 n2,Abs.Fn Tryz.prog 108 [r,.func 15 []] H2 n2 fun r' H' nx'=>r'=r∧H'=H2∧nx'=n2:=fun H2 n2=>by
   refine Abs.Fn.of_c2 follows wj (Nat.le_of_ble_eq_true rfl) ?_
   simp only [xJ,cO,cG,cN,cM,cD,cF,cB,aw,aF]
   (have zz:=@r1; repeat' (first | refine zW ?_ | apply a_n | apply a_r | refine zO ?_ | refine vZ ?_ | (refine zGZ ?_ ?_ <;> (intro _hg; try (exfalso; omega))) | refine aa rfl ?_ | refine r1Z ?_ | fail)) <;> (try clear zz)
   exact ⟨rfl,rfl,rfl⟩
  refine aE ev0 ev0 (hcf _ _) ?_
  rintro _ _ _ ⟨rfl,rfl,rfl⟩
  (have zz:=and_self; repeat' (first | apply a_n | refine zO ?_ | refine vY ?_ | refine aa rfl ?_ | refine r1Y ?_ | fail)) <;> (try clear zz)
  exact ⟨r2 _,h3,h2⟩
 rw [if_neg h0] at h4
 obtain ⟨rfl,rfl,rfl⟩:=h4
 have hpos:=List.length_pos_iff.2 h0
 (have zz:=and_self; repeat' (first | refine zW ?_ | apply a_n | refine zO ?_ | refine vY ?_ | fail)) <;> (try clear zz)
 refine aE ev0 ev0 (tE Cu au (Nat.lt_succ_self nx) rfl hpos hls (by omega)) ?_
 rintro _ H2 n2 ⟨M,hps,hpM,hsM⟩
 have hMl:M.length=l.length:=hpM.length_eq
 have hM:M=qQ l:=gB kO (fun x _ y _=>nD) (bw.of (by rw [hMl]; exact hsM)) hpM
 have hMs:∀ v ∈ M,Sh v:=fun v hv=>hls v (hpM.mem_iff.1 hv)
 have hM0:M ≠ []:=fun e=>by rw [e] at hMl; simp at hMl; omega
 have hcp:=r8 M (by omega) hMs hM0 H2 nx n2 hps.at_ (by have:=hps.le; omega)
 rw [hMl] at hcp
 (have zz:=and_self; repeat' (first | refine zW ?_ | apply a_n | refine zO ?_ | refine vY ?_ | fail)) <;> (try clear zz)
 refine aE ev0 ev0 hcp ?_
 rintro _ _ _ ⟨rfl,⟨C,rfl,c1,c2⟩,rfl⟩
 (have zz:=and_self; repeat' (first | apply a_n | refine zO ?_ | refine vY ?_ | refine aa rfl ?_ | refine r1Y ?_ | fail)) <;> (try clear zz)
 refine ⟨?_,fun x hx=>by rw [ao (by omega),hps.fr x (by omega) (by omega),ao (by omega)],by have:=hps.le; omega⟩
 have hdd:ddG M l.length=fu l:=by
  have:=xu l
  rw [← hM,hMl] at this
  exact this
 have hhl:=xT M l.length
 have hle:=vH M l.length
 rw [hdd] at c2 hhl
 refine ns (cs:=C) au c1 (by omega) (by simp [hhl]) (fun y hy=>?_) (fun i x y hx hy=>?_)
 ·obtain ⟨v,_,rfl⟩:=List.mem_map.1 hy; rfl
 ·rw [Nat.zero_add] at hx
  have hil:i < bt M l.length:=by
   have:=(List.getElem?_eq_some_iff.1 hy).1
   rw [List.length_map] at this
   omega
  have e1:(C.take (bt M l.length))[i]?=some x:=by rw [List.getElem?_take,if_pos hil]; exact hx
  rw [c2,hy] at e1
  cases e1
  obtain ⟨v,_,rfl⟩:=List.mem_map.1 (List.mem_of_getElem? hy)
  exact aU _ _
end Go.Proofs.YtjgpfclngkcedaaGreat
namespace Go.Proofs.YtjgpfclngkcedaaGreat
open Go Go.Abs
open Nat (reduceEqDiff reduceAdd reduceLeDiff)
attribute [local irreducible] aD ag aS aP aH aJ ay aK aQ aZ Go.Abs.Fn aO Go.Abs.Pure al aC Yl
end Go.Proofs.YtjgpfclngkcedaaGreat
namespace Go.Proofs.YtjgpfclngkcedaaGreat
open Go Go.Abs
open Nat (reduceEqDiff reduceAdd reduceLeDiff)
attribute [local irreducible] aD ag aS aP aH aJ ay aK aQ aZ Go.Abs.Fn aO Go.Abs.Pure al aC Yl
end Go.Proofs.YtjgpfclngkcedaaGreat
namespace Go.Proofs.YtjgpfclngkcedaaGreat
open Go Go.Abs
theorem B5 {H:Hp} {n i o:Int} {sv:AV} {L:List CaseV} (h:Snap H sv (bb L)):Snap H (.agg [.int .i64 n,.int .i64 i,.int .i64 o,sv]) (bo ⟨n,i,o,L⟩) :=
 j7 (aq (.int _ _) (aq (.int _ _) (aq (.int _ _) (aq h af))))
theorem AY {H:Hp} {n i o e:Int} {sv:AV} {L:List CaseV} (h:Snap H sv (bb L)):Snap H (.tup [.agg [.int .i64 n,.int .i64 i,.int .i64 o,sv],.int .i64 e]) (.tup [bo ⟨n,i,o,L⟩,.int .i64 e]) :=
 di (aq (B5 h) (aq (.int _ _) af))
attribute [local irreducible] aD ag aS aP aH aJ ay aK aQ aZ Go.Abs.Fn aO Go.Abs.Pure al aC Yl
end Go.Proofs.YtjgpfclngkcedaaGreat
namespace Go.Proofs.YtjgpfclngkcedaaGreat
open Go Go.Abs
open Nat (reduceEqDiff reduceAdd reduceLeDiff)
attribute [local irreducible] aD ag aS aP aH aJ ay aK aQ aZ Go.Abs.Fn aO Go.Abs.Pure al aC Yl
end Go.Proofs.YtjgpfclngkcedaaGreat
namespace Go.Proofs.YtjgpfclngkcedaaGreat
open Go Go.Abs
theorem rJ {t:TaskV} (h:aB t=0) {c:CaseV} (hc:c ∈ t.cases):eZ t c.inp=some c:=by
 cases hf:eZ t c.inp with
 | none=>exact absurd rfl (sr hf c hc)
 | some d =>
  obtain ⟨h1,h2⟩:=jH hf
  rw [qY h h1 hc h2]
structure Fit (t:TaskV):Prop where
 sh:∀ c ∈ t.cases,ShC c
 len:t.cases.length ≤ 100000
 q:∀ c ∈ t.cases,c.out.length ≤ 100000∧c.calm.length ≤ 100000
theorem Fit.sh2 {t:TaskV} (h:Fit t):Sh t.cases:=by have:=h.len; show _ ≤ _; omega
structure Fit4 (t:TaskV):Prop where
 fit:Fit t
 q4:∀ c ∈ t.cases,c.out.length ≤ 40000∧c.calm.length ≤ 40000
attribute [local irreducible] aD ag aS aP aH aJ ay aK aQ aZ Go.Abs.Fn aO Go.Abs.Pure al aC Yl
end Go.Proofs.YtjgpfclngkcedaaGreat
namespace Go.Proofs.YtjgpfclngkcedaaGreat
open Go Go.Abs
open Nat (reduceEqDiff reduceAdd reduceLeDiff)
theorem xl {t:TaskV} (h:aB t=0) {c:CaseV} (hc:c ∈ t.cases):gw c.out∧gw c.calm∧(∀ f,gw (bd c f))∧∀ f,∀ v ∈ bd c f,v ∈ c.out:=by
 obtain ⟨g1,g2,g3,g4,g5⟩:=bL (dh h hc).2
 have a1:=fm g3
 have a2:=fm g5
 refine ⟨a1,a2,fun f=>?_,fun f v hv=>?_⟩
 ·unfold bd; split <;> assumption
 ·unfold bd at hv
  split at hv
  ·exact g4 v hv
  ·exact hv
attribute [local irreducible] aD ag aS aP aH aJ ay aK aQ aZ Go.Abs.Fn aO Go.Abs.Pure al aC Yl
end Go.Proofs.YtjgpfclngkcedaaGreat
namespace Go.Proofs.YtjgpfclngkcedaaGreat
open Go Go.Abs
attribute [local irreducible] aD ag aS aP aH aJ ay aK aQ aZ Go.Abs.Fn aO Go.Abs.Pure al aC Yl
end Go.Proofs.YtjgpfclngkcedaaGreat
namespace Go.Proofs.YtjgpfclngkcedaaGreat
open Go Go.Abs
open Nat (reduceEqDiff reduceAdd reduceLeDiff)
def yd (m:Int) (v w:List Int):List Int:=(List.range v.length).map fun p=>v.getD p default * m + w.getD p default
def Ao (m:Int) (x y:List (List Int)):List (List Int):=x.flatMap fun v=>y.map fun w=>yd m v w
def yQ (m:Int) (x y:List (List Int)):List (List Int):=fu (Ao m x y)
structure Fit30 (t:TaskV):Prop where
 sh:∀ c ∈ t.cases,ShC c
 len:t.cases.length ≤ 30
 q:∀ c ∈ t.cases,c.out.length ≤ 30∧c.calm.length ≤ 30
theorem Fit30.of {t:TaskV} (h:ow t=true):Fit30 t:=by
 have hsh:=xz h
 unfold ow at h
 rw [Bool.and_eq_true,decide_eq_true_iff,List.all_eq_true] at h
 refine ⟨hsh.2,h.1,fun c hc=>?_⟩
 have hf:=h.2 c hc
 unfold pT jd at hf
 simp only [Bool.and_eq_true,decide_eq_true_iff,List.all_eq_true] at hf
 exact ⟨hf.1.2.1,hf.2.1⟩
theorem Fit30.four {t:TaskV} (h:Fit30 t):Fit4 t:=⟨⟨h.sh,by have:=h.len; omega,fun c hc=>by have:=h.q c hc; omega⟩,fun c hc=>by have:=h.q c hc; omega⟩
theorem Fit30.fit {t:TaskV} (h:Fit30 t):Fit t:=h.four.fit
theorem xW {H:Hp} {sv:AV} {l:List (List Int)} {nx:Nat} (h:Row H 1 sv (l.map az)) (hb:∀ b,eK sv=some b→b < nx):eL sv=some l.length∧∀ H',(∀ x,x < nx→H' x=H x)→cA 1 H' sv=some (l.length,l.map az):=by
 generalize hcs:l.map az=cs at h
 have hl:cs.length=l.length:=by rw [← hcs,List.length_map]
 cases h with
 | nil =>
  have:l.length=0:=by rw [← hl]; rfl
  rw [this]
  exact ⟨rfl,fun _ _=>rfl⟩
 | box B len cs h1 h2 =>
  have e:len=l.length:=by omega
  subst e
  refine ⟨by simp [eL],fun H' hH=>?_⟩
  rw [eb ((hH B (hb B rfl)).trans h1) (by omega) (by omega),List.drop_zero,List.take_of_length_le (by omega)]
attribute [local irreducible] aD ag aS aP aH aJ ay aK aQ aZ Go.Abs.Fn aO Go.Abs.Pure al aC Yl
theorem xp (v:List Int) (hv:v.length ≤ 1000000) (h0:v ≠ []) (H:Hp) (nx:Nat):Abs.Fn Tryz.prog 42 [az v] H nx fun r H' nx'=>r=.msl nx v.length 1 0 v.length∧H'=ak H nx (v.map (AV.int .i64))∧nx'=nx + 1:=by
 refine Abs.Fn.of_c2 follows wr (Nat.le_of_ble_eq_true rfl) ?_
 simp only [b42,cO,cG,cN,cM,cD,cF,cB,aw,aF]
 have hp:=List.length_pos_iff.2 h0
 (have zz:=and_self; repeat' (first | refine zW ?_ | apply a_n | refine zO ?_ | refine vY ?_ | fail)) <;> (try clear zz)
 refine kM (k:=v.length) (by ((try simp only [bq,ZA,reduceEqDiff,↓reduceIte,reduceAdd,reduceLeDiff]); (try with_reducible rfl)); exact jN) (fun h=>?_) (fun h=>by omega) (fun h=>by omega)
 (have zz:=and_self; repeat' (first | refine zW ?_ | apply a_n | refine zO ?_ | refine vY ?_ | refine b0Y ?_ | refine a0Y ?_ | refine cFY ?_ | refine aa rfl ?_ | refine r1Y ?_ | fail)) <;> (try clear zz)
 exact ⟨rfl,rfl,rfl⟩
end Go.Proofs.YtjgpfclngkcedaaGreat
namespace Go.Proofs.YtjgpfclngkcedaaGreat
open Go Go.Abs
theorem uI {t:TaskV} (h:aB t=0) {c:CaseV} (hc:c ∈ t.cases):(∀ v ∈ c.out,(v.length:Int)=t.n∧∀ z ∈ v,0 ≤ z∧z < t.outs)∧∀ f,∀ v ∈ bd c f,(v.length:Int)=t.n∧∀ z ∈ v,0 ≤ z∧z < t.outs:=by
 obtain ⟨g1,g2,g3,g4,g5⟩:=bL (dh h hc).2
 have h1:∀ v ∈ c.out,(v.length:Int)=t.n∧∀ z ∈ v,0 ≤ z∧z < t.outs:=fun v hv=>gb (g2 v hv)
 exact ⟨h1,fun f v hv=>h1 v ((xl h hc).2.2.2 f v hv)⟩
attribute [local irreducible] aD ag aS aP aH aJ ay aK aQ aZ Go.Abs.Fn aO Go.Abs.Pure al aC Yl
end Go.Proofs.YtjgpfclngkcedaaGreat
namespace Go.Proofs.YtjgpfclngkcedaaGreat
open Go Go.Abs
theorem oL {H:Hp} {d:Nat} {x:Int}:cA 1 (ak H d [.int .i64 x]) (.msl d 1 1 0 1)=some (1,[.int .i64 x]):=eb (n:=1) (len:=1) (off:=0) (cs:=[.int .i64 x]) au rfl (by simp)
attribute [local irreducible] aD ag aS aP aH aJ ay aK aQ aZ Go.Abs.Fn aO Go.Abs.Pure al aC Yl
end Go.Proofs.YtjgpfclngkcedaaGreat
namespace Go.Proofs.YtjgpfclngkcedaaGreat
open Go Go.Abs
open Nat (reduceEqDiff reduceAdd reduceLeDiff)
def ea (n:Nat):Nat→List Int→List (List Int)
 | 0,b=>[b]
 | k + 1,b=>(List.range n).flatMap fun (p:Nat)=>if (p:Int) ∈ b then [] else ea n k (b ++ [(p:Int)])
def gV (n:Nat):List (List Int):=ea n n []
theorem jP (n:Nat) (hn:n ≤ 5):∀ (k:Nat) (b:List Int),(ea n k b).length ≤ 5 ^ k
 | 0,b=>Nat.le_refl _
 | k + 1,b=>by
  have key:∀ l:List Nat,l.length ≤ 5→(l.flatMap fun (p:Nat)=>if (p:Int) ∈ b then [] else ea n k (b ++ [(p:Int)])).length ≤ l.length * 5 ^ k:=by
   intro l
   induction l with
   | nil=>intro _; simp
   | cons a l ih =>
    intro h
    rw [List.length_cons] at h
    have i2:=ih (by omega)
    have h2:=jP n hn k (b ++ [(a:Int)])
    rw [List.flatMap_cons,List.length_append,List.length_cons,Nat.add_mul]
    have h3:(if (a:Int) ∈ b then [] else ea n k (b ++ [(a:Int)])).length ≤ 5 ^ k:=by
     split
     ·exact Nat.zero_le _
     ·exact h2
    omega
  have h1:=key (List.range n) (by rw [List.length_range]; exact hn)
  rw [List.length_range] at h1
  refine Nat.le_trans h1 ?_
  rw [Nat.pow_succ,Nat.mul_comm]
  exact Nat.mul_le_mul_left _ hn
theorem uN {α:Type} {f:Nat→List α} {k:Nat}:(List.range (k + 1)).flatMap f=(List.range k).flatMap f ++ f k:=by
 rw [List.range_succ,List.flatMap_append]; simp
theorem mI (n:Nat) (h1:1 ≤ n) (h5:n ≤ 5):(gV n).length ≤ 120∧∀ p ∈ gV n,bF p=0∧p.length=n:=by
 have key:∀ n ∈ [1,2,3,4,5],(gV n).length ≤ 120∧∀ p ∈ gV n,bF p=0∧p.length=n:=by decide +kernel
 exact key n (by have : n = 1 ∨ n = 2 ∨ n = 3 ∨ n = 4 ∨ n = 5 := by omega
                 rcases this with rfl | rfl | rfl | rfl | rfl <;> decide)
theorem wX {H:Hp} {s:AV} {b:List Int} (h:Row H 1 s (b.map (AV.int .i64))):∃ Hf H',Fz Hf H H'∧Snap Hf s (az b)∧∀ x,eK s ≠ some x→H' x=H x:=by
 generalize hcs:b.map (AV.int .i64)=cs at h
 have hl:cs.length=b.length:=by rw [← hcs,List.length_map]
 cases h with
 | nil =>
  have:b=[]:=List.length_eq_zero_iff.1 (by rw [← hl]; rfl)
  subst this
  exact ⟨aV,H,Fz.none,.eslsl 1,fun _ _=>rfl⟩
 | box B len cs h1 h2 =>
  refine ⟨only B cs,co H B,Fz.one h1,?_,fun x hx=>ku (fun e=>hx (by rw [e]; rfl))⟩
  subst hcs
  have e:len=b.length:=by rw [List.length_map] at h2; omega
  subst e
  rw [Nat.mul_one]
  exact jW pH rfl rfl
attribute [local irreducible] aD ag aS aP aH aJ ay aK aQ aZ Go.Abs.Fn aO Go.Abs.Pure al aC Yl
theorem xk (b:List Int) (hb:b.length ≤ 1000) (H:Hp) (nx:Nat):Abs.Fn Tryz.prog 42 [az b] H nx fun r H' nx'=>Row H' 1 r (b.map (AV.int .i64))∧(∀ x,eK r=some x→nx ≤ x∧x < nx')∧(∀ x,x < nx→H' x=H x)∧nx ≤ nx':=by
 refine Abs.Fn.of_c2 follows wr (Nat.le_of_ble_eq_true rfl) ?_
 simp only [b42,cO,cG,cN,cM,cD,cF,cB,aw,aF]
 (have zz:=and_self; repeat' (first | refine zW ?_ | apply a_n | refine zO ?_ | refine vY ?_ | fail)) <;> (try clear zz)
 have fin:Row (ak H nx (b.map (AV.int .i64))) 1 (.msl nx b.length 1 0 b.length) (b.map (AV.int .i64)):=by
  have:=Row.box (H:=ak H nx (b.map (AV.int .i64))) (sz:=1) nx b.length (b.map (AV.int .i64)) au (by simp)
  rwa [Nat.mul_one] at this
 refine kM (k:=b.length) (by ((try simp only [bq,ZA,reduceEqDiff,↓reduceIte,reduceAdd,reduceLeDiff]); (try with_reducible rfl)); exact jN) (fun h=>?_) (fun h=>?_) (fun h=>?_)
 ·(have zz:=and_self; repeat' (first | refine zW ?_ | apply a_n | refine zO ?_ | refine vY ?_ | refine b0Y ?_ | refine a0Y ?_ | refine cFY ?_ | refine aa rfl ?_ | refine r1Y ?_ | fail)) <;> (try clear zz)
  exact ⟨fin,fun x hx=>by cases hx; omega,fun x hx=>ao (by omega),by omega⟩
 ·(have zz:=and_self; repeat' (first | refine zW ?_ | apply a_n | apply a_r | refine zO ?_ | refine vY ?_ | refine cTY ?_ | refine aa rfl ?_ | refine r1Y ?_ | fail)) <;> (try clear zz)
  obtain rfl:=List.length_eq_zero_iff.1 h
  exact ⟨Row.nil,fun x hx=>(by cases hx),fun x hx=>rfl,Nat.le_refl _⟩
 ·(have zz:=and_self; repeat' (first | refine zW ?_ | apply a_n | refine zO ?_ | refine vY ?_ | refine b0Y ?_ | refine a0Y ?_ | refine cFY ?_ | refine aa rfl ?_ | refine r1Y ?_ | fail)) <;> (try clear zz)
  exact ⟨fin,fun x hx=>by cases hx; omega,fun x hx=>ao (by omega),by omega⟩
set_option maxHeartbeats 2000000 in
theorem Cz (n:Nat) (hn:n ≤ 5):∀ (k:Nat) (b:List Int) (s:AV) (H:Hp) (nx:Nat),b.length + k=n→Row H 1 s (b.map (AV.int .i64))→(∀ x,eK s=some x→x < nx) →
    Abs.Fn Tryz.prog 119 [.int .i64 n,s] H nx fun r H' nx'=>Row H' 1 r ((ea n k b).map az)∧(∀ x,eK r=some x→nx ≤ x∧x < nx')∧(∀ x,x < nx→eK s ≠ some x→H' x=H x)∧nx ≤ nx':=by
 intro k
 induction k with
 | zero =>
  intro b s H nx hk hrow hbd
  refine Abs.Fn.of_c2 follows wu (Nat.le_of_ble_eq_true rfl) ?_
  simp only [xy,cO,cG,cN,cM,cD,cF,cB,aw,aF]
  obtain ⟨Hf,H0,hfz,hsn,hfr⟩:=wX hrow
  refine cQ ?_
  refine j9 Hf H0 [(0,.int .i64 n),(1,az b)] hfz ⟨.inl (have zz:=and_self; evY),.inr hsn,trivial⟩ ?_
  have hcl:=kC b (show _ ≤ _ by omega)
  have z:decide ((b.length:Int)=(n:Int))=true:=decide_eq_true (by omega)
  (have zz:=@z; repeat' (first | refine zW ?_ | apply a_n | refine zO ?_ | refine vY ?_ | refine cTY ?_ | fail)) <;> (try clear zz)
  refine kv (have zz:=and_self; evY) (have zz:=and_self; evY) hcl (aq (aU _ _) af) ?_
  (have zz:=and_self; repeat' (first | apply a_n | apply a_r | refine zO ?_ | refine vY ?_ | refine blY ?_ | refine aa rfl ?_ | refine r1Y ?_ | fail)) <;> (try clear zz)
  refine ⟨?_,fun x hx=>by cases hx; omega,fun x hx hr=>by rw [ao (by omega),hfr x hr],by omega⟩
  exact Row.box (sz:=1) nx 1 [az b] au rfl
 | succ k ih =>
  intro b s H nx hk hrow hbd
  refine Abs.Fn.of_c2 follows wu (Nat.le_of_ble_eq_true rfl) ?_
  simp only [xy,cO,cG,cN,cM,cD,cF,cB,aw,aF]
  obtain ⟨Hf,H0,hfz,hsn,hfr⟩:=wX hrow
  refine cQ ?_
  refine j9 Hf H0 [(0,.int .i64 n),(1,az b)] hfz ⟨.inl (have zz:=and_self; evY),.inr hsn,trivial⟩ ?_
  have z:decide ((b.length:Int)=(n:Int))=false:=decide_eq_false (by omega)
  (have zz:=@z; repeat' (first | refine zW ?_ | apply a_n | refine zO ?_ | refine vY ?_ | refine cFY ?_ | fail)) <;> (try clear zz)
  refine a9 (X:=AV × Nat) (fun x=>[(0,.int .i64 n),(1,az b),(5,x.1),(14,.int .i64 n),(15,.int .i64 x.2)]) (fun x H' nx'=>x.2 ≤ n∧nx ≤ nx'∧Row H' 1 x.1 (((List.range x.2).flatMap fun (p:Nat)=>if (p:Int) ∈ b then [] else ea n k (b ++ [(p:Int)])).map az)∧(∀ y,eK x.1=some y→nx ≤ y∧y < nx')∧∀ y,y < nx→H' y=H0 y) (fun x=>n - x.2) (.esl,0) ⟨Nat.zero_le _,Nat.le_refl _,Row.nil,fun y hy=>(by cases hy),fun _ _=>rfl⟩ ag0 ?_
  rintro ⟨out,p⟩ H1 nx1 ⟨hp,hnx,hro,hbo,hsm⟩
  dsimp only at hp hro hbo ⊢
  by_cases hp2:p < n
  rotate_left
  ·(have zz:=and_self; repeat' (first | refine zW ?_ | apply a_n | apply a_x | refine zO ?_ | refine vY ?_ | (refine zGY ?_ ?_ <;> (intro _hg; try (exfalso; omega))) | refine aa rfl ?_ | refine r1Y ?_ | fail)) <;> (try clear zz)
   obtain rfl:p=n:=by omega
   exact ⟨hro,hbo,fun x hx hr=>by rw [hsm x hx,hfr x hr],hnx⟩
  have hst:=uN (f:=fun (p:Nat)=>if (p:Int) ∈ b then [] else ea n k (b ++ [(p:Int)])) (k:=p)
  have hct:=ss b (p:Int) (show _ ≤ _ by omega)
  have hlenA:((List.range p).flatMap fun (p:Nat)=>if (p:Int) ∈ b then [] else ea n k (b ++ [(p:Int)])).length ≤ 3125 * 5:=by
   have key:∀ l:List Nat,(l.flatMap fun (p:Nat)=>if (p:Int) ∈ b then [] else ea n k (b ++ [(p:Int)])).length ≤ l.length * 3125:=by
    intro l
    induction l with
    | nil=>simp
    | cons a l ih2 =>
     rw [List.flatMap_cons,List.length_append,List.length_cons,Nat.add_mul]
     have h2:=jP n hn k (b ++ [(a:Int)])
     have h4:5 ^ k ≤ 5 ^ 5:=Nat.pow_le_pow_right (by omega) (by omega)
     have h3:(if (a:Int) ∈ b then [] else ea n k (b ++ [(a:Int)])).length ≤ 5 ^ k:=by
      split
      ·exact Nat.zero_le _
      ·exact h2
     omega
   have:=key (List.range p)
   rw [List.length_range] at this
   omega
  generalize hA:((List.range p).flatMap fun (p:Nat)=>if (p:Int) ∈ b then [] else ea n k (b ++ [(p:Int)]))=A at *
  by_cases hm:(p:Int) ∈ b
  ·rw [decide_eq_true hm] at hct
   rw [if_pos hm,List.append_nil] at hst
   (have zz:=and_self; repeat' (first | refine zW ?_ | apply a_n | refine zO ?_ | refine vY ?_ | refine cY ?_ (hp:=hct) | refine cFY ?_ | (refine zGY ?_ ?_ <;> (intro _hg; try (exfalso; omega))) | fail)) <;> (try clear zz)
   exact ⟨(out,p + 1),by dsimp only; omega,⟨by dsimp only; omega,hnx,by dsimp only; rw [hst]; exact hro,hbo,hsm⟩,ag0⟩
  rw [decide_eq_false hm] at hct
  rw [if_neg hm] at hst
  have hpl:=jP n hn k (b ++ [(p:Int)])
  have h4:5 ^ k ≤ 5 ^ 5:=Nat.pow_le_pow_right (by omega) (by omega)
  (have zz:=and_self; repeat' (first | refine zW ?_ | apply a_n | refine zO ?_ | refine vY ?_ | refine cY ?_ (hp:=hct) | refine cTY ?_ | (refine zGY ?_ ?_ <;> (intro _hg; try (exfalso; omega))) | fail)) <;> (try clear zz)
  refine aE (have zz:=and_self; evY) (have zz:=and_self; evY) (xk b (by omega) H1 nx1) ?_
  rintro r1 H2 n2 ⟨c1,c2,c3,c4⟩
  (have zz:=and_self; repeat' (first | apply a_n | refine zO ?_ | refine vY ?_ | refine blY ?_ | fail)) <;> (try clear zz)
  refine lB rfl ev0 (c1.same fun y hy=>?_) ev0 oL rfl rfl Nat.one_pos (by rw [List.length_map]; omega) (by rw [List.length_map]; omega) ?_
  ·have:=c2 y hy
   rw [ao (by omega)]
  rintro r2 H3 n3 d1 d2 d3 d4 d5
  have d1':Row H3 1 r2 ((b ++ [(p:Int)]).map (AV.int .i64)):=by rw [List.map_append]; exact d1
  have db:∀ x,eK r2=some x→nx1 ≤ x∧x < n3:=fun x hx=>by
   rcases d5 x hx with h | h
   ·have:=c2 x h; omega
   ·omega
  refine aE (have zz:=and_self; evY) (have zz:=and_self; evY) (ih (b ++ [(p:Int)]) r2 H3 n3 (by simp; omega) d1' (fun x hx=>(db x hx).2)) ?_
  rintro r3 H4 n4 ⟨e1,e2,e3,e4⟩
  have f3:∀ x,x < nx1→H3 x=H1 x:=fun x hx=>by
   rw [d4 x (by omega) (fun h=>by have:=c2 x h; omega),ao (by omega),c3 x hx]
  have f4:∀ x,x < nx1→H4 x=H1 x:=fun x hx=>by
   rw [e3 x (by omega) (fun h=>by have:=db x h; omega),f3 x hx]
  have hro4:Row H4 1 out (A.map az):=hro.same fun y hy=>f4 y (hbo y hy).2
  have hsrc:=(xW e1 (fun x hx=>(e2 x hx).2)).2 H4 (fun _ _=>rfl)
  generalize ea n k (b ++ [(p:Int)])=Q at *
  skip
  refine lB (k:=Q.length) (new:=Q.map az) rfl ev0 hro4 ev0 hsrc gq (by simp) Nat.one_pos (by rw [List.length_map]; omega) (by rw [List.length_map]; omega) ?_
  rintro o2 H5 n5 g1 g2 g3 g4 g5
  (have zz:=and_self; repeat' (first | apply a_n | refine zO ?_ | refine vY ?_ | fail)) <;> (try clear zz)
  refine ⟨(o2,p + 1),by dsimp only; omega,⟨by dsimp only; omega,by omega,?_,fun y hy=>?_,fun y hy=>?_⟩,ag0⟩
  ·dsimp only
   rw [hst,List.map_append]; exact g1
  ·rcases g5 y hy with h | h
   ·have:=hbo y h; omega
   ·omega
  ·rw [g4 y (by omega) (fun h=>by have:=hbo y h; omega),f4 y (by omega),hsm y hy]
end Go.Proofs.YtjgpfclngkcedaaGreat
namespace Go.Proofs.YtjgpfclngkcedaaGreat
open Go Go.Abs
attribute [local irreducible] aD ag aS aP aH aJ ay aK aQ aZ Go.Abs.Fn aO Go.Abs.Pure al aC Yl
theorem BS (n:Nat) (h1:1 ≤ n) (h5:n ≤ 5):Pure Tryz.prog 77 [.int .i64 n] (.tup [aA (gV n),.int .i64 0]):=by
 refine Pure.of_c2 follows BX (Nat.le_of_ble_eq_true rfl) ?_
 simp only [b77,cO,cG,cN,cM,cD,cF,cB,aw,aF]
 have hn:=qt n
 rw [if_neg (by omega)] at hn
 (have zz:=and_self; repeat' (first | refine zW ?_ | apply a_n | refine zO ?_ | refine vY ?_ | refine cY ?_ (hp:=hn) | (refine zGY ?_ ?_ <;> (intro _hg; try (exfalso; omega))) | fail)) <;> (try clear zz)
 refine aE (have zz:=and_self; evY) (have zz:=and_self; evY) (Cz n h5 n [] .esl _ _ (by simp) Row.nil (fun x hx=>(by cases hx))) ?_
 rintro r H1 n1 ⟨e1,e2,e3,e4⟩
 (have zz:=and_self; repeat' (first | apply a_n | refine zO ?_ | refine vY ?_ | refine aa rfl ?_ | refine r2Y ?_ | fail)) <;> (try clear zz)
 exact di (aq e1.snapV (aq (.int _ _) af))
end Go.Proofs.YtjgpfclngkcedaaGreat
namespace Go.Proofs.YtjgpfclngkcedaaGreat
open Go Go.Abs
def b6 (to:List Int) (v:List Int):List Int:=v.map fun z=>to.getD z.toNat default
theorem iO {to v:List Int}:(b6 to v).length=v.length:=by simp [b6]
theorem qB {to v:List Int} {p:Nat} (h:p < v.length):(b6 to v).getD p default=to.getD (v.getD p default).toNat default:=by simp [b6,List.getD,h]
def b4 (bs:List Nat) (n:Nat):List AV:=bs.map fun b=>.msl b n 1 0 n
structure BoxesM (H:Hp) (bs:List Nat) (l:List (List Int)):Prop where
 len:bs.length=l.length
 at_:∀ i,i < l.length→H (bs.getD i 0)=some ((l.getD i default).map (AV.int .i64))
 nodup:bs.Nodup
theorem BoxesM.same {H H':Hp} {bs:List Nat} {l:List (List Int)} (h:BoxesM H bs l) (hs:∀ b ∈ bs,H' b=H b):BoxesM H' bs l :=
 ⟨h.len,fun i hi=>(hs _ (by have:=h.len; rw [List.getD_eq_getElem?_getD,List.getElem?_eq_getElem (by omega)]; exact List.getElem_mem _)).trans (h.at_ i hi),h.nodup⟩
theorem sa {bs:List Nat} {i:Nat} (h:i < bs.length):bs.getD i 0 ∈ bs:=by
 rw [List.getD_eq_getElem?_getD,List.getElem?_eq_getElem h]; exact List.getElem_mem _
theorem Be {bs:List Nat} (h:bs.Nodup) {i j:Nat} (hi:i < bs.length) (hj:j < bs.length) (e:bs.getD i 0=bs.getD j 0):i=j:=by
 rw [List.getD_eq_getElem?_getD,List.getD_eq_getElem?_getD,List.getElem?_eq_getElem hi,List.getElem?_eq_getElem hj] at e
 have hp:=List.pairwise_iff_getElem.1 (List.nodup_iff_pairwise_ne.1 h)
 rcases Nat.lt_trichotomy i j with c | c | c
 ·exact absurd e (hp i j hi hj c)
 ·exact c
 ·exact absurd e.symm (hp j i hj hi c)
theorem BoxesM.snoc {H:Hp} {bs:List Nat} {l:List (List Int)} {b:Nat} {v:List Int} (h:BoxesM H bs l) (hb:H b=some (v.map (AV.int .i64))) (hn:b ∉ bs):BoxesM H (bs ++ [b]) (l ++ [v]):=by
 refine ⟨by simp [h.len],fun i hi=>?_,?_⟩
 ·rw [List.length_append,List.length_singleton] at hi
  have hl:=h.len
  by_cases e:i=l.length
  ·subst e
   rw [← hl]
   simp only [List.getD_eq_getElem?_getD,List.getElem?_append_right (Nat.le_refl _),Nat.sub_self]
   rw [hl,List.getElem?_append_right (Nat.le_refl _),Nat.sub_self]
   exact hb
  ·have:=h.at_ i (by omega)
   simp only [List.getD_eq_getElem?_getD] at this ⊢
   rw [List.getElem?_append_left (by omega),List.getElem?_append_left (by omega)]
   exact this
 ·rw [List.nodup_append]
  exact ⟨h.nodup,by simp,fun x hx y hy e=>hn (by simp at hy; subst hy; subst e; exact hx)⟩
theorem xd {H:Hp} {bs:List Nat} {l:List (List Int)} {B n:Nat} (h:BoxesM H bs l) (hl:∀ v ∈ l,v.length=n) (hB:H B=some (b4 bs n)) (hBn:B ∉ bs):Fz (fun x=>if x ∈ bs then H x else none) H (ak (fun x=>if x ∈ bs then none else H x) B (l.map az)):=by
 refine ⟨fun b c hb=>?_,fun b c hb=>?_⟩
 ·(try dsimp only at hb)
  split at hb
  ·exact hb
  ·cases hb
 ·by_cases e:b=B
  ·subst e
   rw [au] at hb
   cases hb
   refine ⟨_,hB,if_neg hBn,by simp [b4,h.len],fun i x x' hx hx'=>.inr ?_⟩
   have hi:i < bs.length:=by have:=(List.getElem?_eq_some_iff.1 hx).1; simpa [b4] using this
   have hil:i < l.length:=by have:=h.len; omega
   have e1:x=.msl (bs.getD i 0) n 1 0 n:=by
    have:(b4 bs n)[i]?=some (.msl (bs.getD i 0) n 1 0 n):=by simp [b4,List.getD,hi]
    rw [this] at hx; cases hx; rfl
   have e2:x'=az (l.getD i default):=by
    have:(l.map az)[i]?=some (az (l.getD i default)):=by simp [List.getD,hil]
    rw [this] at hx'; cases hx'; rfl
   subst e1; subst e2
   refine jW (by (try dsimp only); rw [if_pos (sa hi)]; exact h.at_ i hil) rfl (hl _ (ai hil))
  ·rw [ao e] at hb
   (try dsimp only at hb)
   split at hb
   ·cases hb
   ·rename_i hn
    exact ⟨c,hb,if_neg hn,fD.refl _ _⟩
attribute [local irreducible] aD ag aS aP aH aJ ay aK aQ aZ Go.Abs.Fn aO Go.Abs.Pure al aC Yl
theorem vL (l:List (List Int)) (n:Nat) (h0:0 < n) (hn:n ≤ 5) (hl:l.length ≤ 100000) (hls:∀ v ∈ l,v.length=n) (H:Hp) (nx:Nat):Abs.Fn Tryz.prog 75 [aA l] H nx fun r H' nx'=>∃ bs,Row H' 1 r (b4 bs n)∧BoxesM H' bs l∧(∀ b,eK r=some b→nx ≤ b∧b < nx'∧b ∉ bs)∧(∀ b ∈ bs,nx ≤ b∧b < nx')∧(∀ x,x < nx→H' x=H x)∧nx ≤ nx':=by
 refine Abs.Fn.of_c2 follows BQ (Nat.le_of_ble_eq_true rfl) ?_
 simp only [b75,cO,cG,cN,cM,cD,cF,cB,aw,aF]
 (have zz:=and_self; repeat' (first | refine zW ?_ | apply a_n | refine zO ?_ | refine vY ?_ | fail)) <;> (try clear zz)
 refine a9 (X:=AV × Nat) (fun x=>[(3,x.1),(6,aA l),(7,.int .i64 l.length),(8,.int .i64 x.2)]) (fun x H' nx'=>x.2 ≤ l.length∧nx ≤ nx'∧(∀ y,y < nx→H' y=H y)∧∃ bs,Row H' 1 x.1 (b4 bs n)∧BoxesM H' bs (l.take x.2)∧(∀ b,eK x.1=some b→nx ≤ b∧b < nx'∧b ∉ bs)∧∀ b ∈ bs,nx ≤ b∧b < nx') (fun x=>l.length - x.2) (.esl,0) ⟨Nat.zero_le _,Nat.le_refl _,fun _ _=>rfl,[],Row.nil,⟨rfl,fun i hi=>absurd hi (by simp),List.nodup_nil⟩,fun b hb=>(by cases hb),fun b hb=>(by cases hb)⟩ ag0 ?_
 rintro ⟨s,j⟩ H1 nx1 ⟨h1,h2,h3,bs,hrow,hbx,hbd,hbb⟩
 dsimp only at h1 hrow hbx hbd ⊢
 by_cases hj:j < l.length
 rotate_left
 ·rw [List.take_of_length_le (by omega)] at hbx
  (have zz:=and_self; repeat' (first | refine zW ?_ | apply a_n | apply a_x | refine zO ?_ | refine vY ?_ | (refine zGY ?_ ?_ <;> (intro _hg; try (exfalso; omega))) | refine aa rfl ?_ | refine r1Y ?_ | fail)) <;> (try clear zz)
  exact ⟨bs,hrow,hbx,hbd,hbb,h3,h2⟩
 have hw:=hls _ (ai hj)
 have hst:l.take (j + 1)=l.take j ++ [l.getD j default]:=cI hj
 have hbl:bs.length=j:=by rw [hbx.len,List.length_take]; omega
 generalize hv:l.getD j default=v at *
 have hv0:v ≠ []:=fun e=>by rw [e] at hw; simp at hw; omega
 (have zz:=@hv; repeat' (first | refine zW ?_ | apply a_n | refine zO ?_ | refine vY ?_ | (refine zGY ?_ ?_ <;> (intro _hg; try (exfalso; omega))) | fail)) <;> (try clear zz)
 refine aE (have zz:=and_self; evY) (have zz:=@hv; evY) (xp v (by omega) hv0 H1 nx1) ?_
 rintro _ _ _ ⟨rfl,rfl,rfl⟩
 rw [hw]
 (have zz:=and_self; repeat' (first | apply a_n | refine zO ?_ | refine blY ?_ | fail)) <;> (try clear zz)
 refine lB (k:=1) (new:=[.msl nx1 n 1 0 n]) rfl ev0 (hrow.same fun b hb=>?_) ev0 (eb (n:=1) (len:=1) (off:=0) (cs:=[.msl nx1 n 1 0 n]) au rfl (by simp)) rfl rfl Nat.one_pos (by simp [b4]; omega) (by simp [b4]; omega) ?_
 ·have:=hbd b hb
  rw [ao (by omega),ao (by omega)]
 rintro s2 E e hrw hle1 hle2 hsm hb2
 (have zz:=and_self; repeat' (first | apply a_n | refine zO ?_ | refine vY ?_ | fail)) <;> (try clear zz)
 have hE:∀ x,x ≤ nx1→eK s ≠ some x→E x=ak H1 nx1 (v.map (AV.int .i64)) x:=fun x hx hr=>(hsm x (by omega) hr).trans (by rw [ao (by omega)])
 have hrn:∀ b,(b ∈ bs ∨ b=nx1)→eK s ≠ some b:=fun b hb hr=>by
  have:=hbd b hr
  rcases hb with hb | rfl
  ·exact this.2.2 hb
  ·omega
 refine ⟨(s2,j + 1),by dsimp only; omega,⟨by dsimp only; omega,by omega,fun y hy=>?_,bs ++ [nx1],?_,?_,fun b hb=>?_,fun b hb=>?_⟩,ag0⟩
 ·rw [hE y (by omega) (fun h=>by have:=hbd y h; omega),ao (by omega),h3 y hy]
 ·dsimp only
  have:b4 (bs ++ [nx1]) n=b4 bs n ++ [.msl nx1 n 1 0 n]:=by simp [b4]
  rw [this]; exact hrw
 ·dsimp only
  rw [hst]
  refine BoxesM.snoc (hbx.same fun b hb=>?_) ?_ (fun h=>by have:=hbb _ h; omega)
  ·have:=hbb b hb
   rw [hE b (by omega) (hrn b (.inl hb)),ao (by omega)]
  ·rw [hE nx1 (Nat.le_refl _) (hrn nx1 (.inr rfl)),au]
 ·rcases hb2 b hb with h | h
  ·have:=hbd b h
   refine ⟨by omega,by omega,fun hm=>?_⟩
   rcases List.mem_append.1 hm with hm | hm
   ·exact this.2.2 hm
   ·simp at hm; omega
  ·refine ⟨by omega,by omega,fun hm=>?_⟩
   rcases List.mem_append.1 hm with hm | hm
   ·have:=hbb b hm; omega
   ·simp at hm; omega
 ·rcases List.mem_append.1 hb with hb | hb
  ·have:=hbb b hb; omega
  ·simp at hb; omega
end Go.Proofs.YtjgpfclngkcedaaGreat
namespace Go.Proofs.YtjgpfclngkcedaaGreat
open Go Go.Abs
def cR {α:Type} [Inhabited α] (g:α→α) (l:List α) (i:Nat):List α:=(List.range l.length).map fun q=>if q < i then g (l.getD q default) else l.getD q default
section
variable {α:Type} [Inhabited α] {g:α→α} {l:List α}
theorem ia {i:Nat}:(cR g l i).length=l.length:=by simp [cR]
theorem qT {i q:Nat} (h:q < l.length):(cR g l i).getD q default=if q < i then g (l.getD q default) else l.getD q default:=by
 unfold cR
 rw [List.getD_eq_getElem?_getD,List.getElem?_map,List.getElem?_range h]; rfl
theorem oU:cR g l 0=l:=by
 refine List.ext_getElem (by simp [cR]) fun i h1 h2=>?_
 simp [cR,List.getD,h2]
theorem rE:cR g l l.length=l.map g:=by
 refine List.ext_getElem (by simp [cR]) fun i h1 h2=>?_
 have h3:i < l.length:=by simpa using h2
 simp [cR,List.getD,h3]
theorem rM {i:Nat} (h:i < l.length):(cR g l i).set i (g (l.getD i default))=cR g l (i + 1):=by
 refine List.ext_getElem (by simp [cR]) fun q h1 h2=>?_
 simp only [List.length_set,ia] at h1
 rw [List.getElem_set]
 simp only [cR,List.getElem_map,List.getElem_range]
 by_cases e:i=q
 ·subst e; rw [if_pos rfl,if_pos (by omega)]
 ·rw [if_neg e]
  by_cases c:q < i
  ·rw [if_pos c,if_pos (by omega)]
  ·rw [if_neg c,if_neg (by omega)]
end
theorem BoxesM.set {H:Hp} {bs:List Nat} {l:List (List Int)} {i:Nat} {v:List Int} (h:BoxesM H bs l) (hi:i < l.length):BoxesM (ak H (bs.getD i 0) (v.map (AV.int .i64))) bs (l.set i v):=by
 refine ⟨by rw [List.length_set]; exact h.len,fun j hj=>?_,h.nodup⟩
 rw [List.length_set] at hj
 by_cases e:j=i
 ·subst e
  rw [au]
  simp [List.getD,hj]
 ·rw [ao (fun k=>e (Be h.nodup (by have:=h.len; omega) (by have:=h.len; omega) k)),h.at_ j hj]
  simp only [List.getD_eq_getElem?_getD]
  rw [List.getElem?_set_ne (by omega)]
theorem sF {bs:List Nat} {n i:Nat} (h:i < bs.length):(b4 bs n)[i]?=some (.msl (bs.getD i 0) n 1 0 n):=by simp [b4,List.getD,h]
attribute [local irreducible] aD ag aS aP aH aJ ay aK aQ aZ Go.Abs.Fn aO Go.Abs.Pure al aC Yl
set_option maxHeartbeats 2000000 in
theorem rl (l:List (List Int)) (to:List Int) (n:Nat) (h0:0 < n) (hn:n ≤ 5) (hl:l.length ≤ 100000) (hto:to.length ≤ 1000) (hls:∀ v ∈ l,v.length=n∧∀ z ∈ v,0 ≤ z∧z < to.length):Pure Tryz.prog 74 [aA l,.iptr [az to] 0] (aA (fu (l.map (b6 to)))):=by
 refine Pure.of_c2 follows BH (Nat.le_of_ble_eq_true rfl) ?_
 simp only [b74,cO,cG,cN,cM,cD,cF,cB,aw,aF]
 (have zz:=and_self; repeat' (first | refine zW ?_ | apply a_n | refine zO ?_ | refine vY ?_ | fail)) <;> (try clear zz)
 refine aE (have zz:=and_self; evY) (have zz:=and_self; evY) (vL l n h0 hn hl (fun v hv=>(hls v hv).1) _ _) ?_
 rintro sv H nx ⟨bs,hrow,hbx,hbd,hbb,-,-⟩
 by_cases hnil:l=[]
 ·subst hnil
  obtain rfl:bs=[]:=List.length_eq_zero_iff.1 hbx.len
  generalize hcs:b4 [] n=cs at hrow
  have hsv:cr sv=some (.int .i64 0)∧eL sv=some 0∧∀ H',(∀ x,x < nx→H' x=H x)→cA 1 H' sv=some (0,[]):=by
   cases hrow with
   | nil=>exact ⟨rfl,rfl,fun _ _=>rfl⟩
   | box B len cs h1 h2 =>
    have e:len=0:=by rw [← hcs] at h2; simp [b4] at h2; omega
    subst e
    refine ⟨rfl,rfl,fun H' hH=>?_⟩
    have hb:=hbd B rfl
    rw [eb (cs:=cs) ((hH B (by omega)).trans h1) (by omega) (by omega)]
    simp
  (have zz:=hsv.1; repeat' (first | refine zW ?_ | apply a_n | refine zO ?_ | refine vY ?_ | fail)) <;> (try clear zz)
  refine a9 (X:=Unit) (fun _=>[(4,sv),(11,.int .i64 0),(12,.int .i64 0)]) (fun _ H' nx'=>H'=H∧nx'=nx) (fun _=>0) () ⟨rfl,rfl⟩ ag0 ?_
  rintro _ _ _ ⟨rfl,rfl⟩
  (have zz:=and_self; repeat' (first | refine zW ?_ | apply a_n | apply a_x | refine zO ?_ | refine vY ?_ | (refine zGY ?_ ?_ <;> (intro _hg; try (exfalso; omega))) | fail)) <;> (try clear zz)
  refine aE (have zz:=and_self; evY) (have zz:=and_self; evY) (q9 sv [] (by simp) (fun v hv=>(by cases hv)) _ _ hsv.2.1 hsv.2.2) ?_
  rintro r H1 n1 ⟨h1,h2,h3⟩
  (have zz:=and_self; repeat' (first | apply a_n | refine zO ?_ | refine vY ?_ | refine aa rfl ?_ | refine r1Y ?_ | fail)) <;> (try clear zz)
  exact h1
 have hpos:=List.length_pos_iff.2 hnil
 have hcl:(b4 bs n).length=l.length:=by simp [b4,hbx.len]
 obtain ⟨B,rfl,hB⟩:∃ B,sv=.msl B l.length 1 0 l.length∧H B=some (b4 bs n):=by
  generalize hcs:b4 bs n=cs at hrow hcl
  cases hrow with
  | nil=>simp at hcl; omega
  | box B len cs h1 h2 =>
   have e:len=l.length:=by omega
   subst e
   exact ⟨B,by rw [Nat.mul_one],h1⟩
 obtain ⟨-,hBn,hBbs⟩:=hbd B rfl
 clear hrow hbd
 (have zz:=and_self; repeat' (first | refine zW ?_ | apply a_n | refine zO ?_ | refine vY ?_ | fail)) <;> (try clear zz)
 refine a9 (X:=Nat) (fun i=>[(1,.iptr [az to] 0),(4,.msl B l.length 1 0 l.length),(10,.msl B l.length 1 0 l.length),(11,.int .i64 l.length),(12,.int .i64 (i:Nat))]) (fun i H' nx'=>i ≤ l.length∧nx'=nx∧H' B=some (b4 bs n)∧BoxesM H' bs (cR (b6 to) l i)) (fun i=>l.length - i) 0 ⟨Nat.zero_le _,rfl,hB,by have e:cR (b6 to) l 0=l:=oU; rw [e]; exact hbx⟩ ag0 ?_
 clear hB hbx
 rintro i H1 nx ⟨hi,rfl,hB,hbx⟩
 have hbl:bs.length=l.length:=by have:=hbx.len; have e:(cR (b6 to) l i).length=l.length:=ia; omega
 by_cases hi2:i < l.length
 rotate_left
 ·have e:cR (b6 to) l i=l.map (b6 to):=by rw [show i=l.length by omega]; exact rE
  rw [e] at hbx
  have hml:∀ v ∈ l.map (b6 to),v.length=n:=fun v hv=>by
   obtain ⟨u,hu,rfl⟩:=List.mem_map.1 hv
   rw [iO]; exact (hls u hu).1
  refine cQ ?_
  (have zz:=and_self; repeat' (first | apply a_n | refine zO ?_ | refine vY ?_ | fail)) <;> (try clear zz)
  refine cQ ?_
  (have zz:=and_self; repeat' (first | apply a_n | apply a_x | refine zO ?_ | (refine zGY ?_ ?_ <;> (intro _hg; try (exfalso; omega))) | fail)) <;> (try clear zz)
  refine cQ ?_
  refine j9 (fun x=>if x ∈ bs then H1 x else none) (ak (fun x=>if x ∈ bs then none else H1 x) B ((l.map (b6 to)).map az)) [(4,.msl B l.length 1 0 l.length)] (xd hbx hml hB hBbs) ⟨.inl (have zz:=and_self; evY),trivial⟩ ?_
  (have zz:=and_self; repeat' (first | apply a_n | refine zO ?_ | refine vY ?_ | fail)) <;> (try clear zz)
  refine aE (have zz:=and_self; evY) (have zz:=and_self; evY) (q9 (.msl B l.length 1 0 l.length) (l.map (b6 to)) (by rw [List.length_map]; omega) (fun v hv=>by have:=hml v hv; show _ ≤ _; omega) _ _ (by simp [eL]) (fun H' hH'=>by
   rw [eb (cs:=(l.map (b6 to)).map az) ((hH' B (by omega)).trans au) (by simp) (by omega),List.drop_zero,List.take_of_length_le (by simp),List.length_map])) ?_
  rintro r H2 n2 ⟨h1,h2,h3⟩
  (have zz:=and_self; repeat' (first | apply a_n | refine zO ?_ | refine vY ?_ | refine aa rfl ?_ | refine r1Y ?_ | fail)) <;> (try clear zz)
  exact h1
 obtain ⟨vl,vb⟩:=hls _ (ai hi2)
 have hld:=sF (bs:=bs) (n:=n) (i:=i) (by omega)
 have hbi:=hbx.at_ i (by have e:(cR (b6 to) l i).length=l.length:=ia; omega)
 have hgi:(cR (b6 to) l i).getD i default=l.getD i default:=by
  have e:(cR (b6 to) l i).getD i default=if i < i then b6 to (l.getD i default) else l.getD i default:=qT hi2
  rw [e,if_neg (by omega)]
 rw [hgi] at hbi
 have hset:(cR (b6 to) l i).set i (b6 to (l.getD i default))=cR (b6 to) l (i + 1):=rM hi2
 have hbb2:=hbb _ (sa (bs:=bs) (i:=i) (by omega))
 have hnB:B ≠ bs.getD i 0:=fun e=>hBbs (e ▸ sa (by omega))
 have hbs:=fun v=>BoxesM.set (v:=v) hbx (i:=i) (by have e:(cR (b6 to) l i).length=l.length:=ia; omega)
 have hcl2:(b4 bs n).length=l.length:=by simp [b4,hbl]
 generalize hv:l.getD i default=v at *
 generalize hbe:bs.getD i 0=b at *
 (have zz:=aI @hB (aI @hcl2 @hld); repeat' (first | refine zW ?_ | apply a_n | refine zO ?_ | refine vY ?_ | (refine zGY ?_ ?_ <;> (intro _hg; try (exfalso; omega))) | fail)) <;> (try clear zz)
 refine a9 (X:=Nat) (fun p=>[(1,.iptr [az to] 0),(4,.msl B l.length 1 0 l.length),(10,.msl B l.length 1 0 l.length),(11,.int .i64 l.length),(12,.int .i64 (i:Nat)),(6,.msl b n 1 0 n),(17,.int .i64 n),(18,.int .i64 (p:Nat))]) (fun p H' nx'=>p ≤ n∧nx'=nx∧H'=ak H1 b ((cR (fun z=>to.getD z.toNat default) v p).map (AV.int .i64))) (fun p=>n - p) 0 ⟨Nat.zero_le _,rfl,by have e:cR (fun z=>to.getD z.toNat default) v 0=v:=oU; rw [e]; exact c6 hbi⟩ ag0 ?_
 rintro p _ nx ⟨hp,rfl,rfl⟩
 by_cases hp2:p < n
 rotate_left
 ·(have zz:=and_self; repeat' (first | refine zW ?_ | apply a_n | apply a_x | refine zO ?_ | refine vY ?_ | (refine zGY ?_ ?_ <;> (intro _hg; try (exfalso; omega))) | fail)) <;> (try clear zz)
  have e:cR (fun z=>to.getD z.toNat default) v p=b6 to v:=by rw [show p=v.length by omega]; exact rE
  refine ⟨i + 1,by omega,⟨by omega,rfl,by rw [ao hnB,hB],?_⟩,ag0⟩
  rw [e,← hset]
  exact hbs _
 have hpv:p < v.length:=by omega
 have b1:=vb _ (ai hpv)
 obtain ⟨z,hz⟩:∃ z:Nat,v.getD p default=z:=⟨(v.getD p default).toNat,by omega⟩
 have hml:(cR (fun z=>to.getD z.toNat default) v p).length=n:=by have e:(cR (fun z=>to.getD z.toNat default) v p).length=v.length:=ia; omega
 have hgp:((cR (fun z=>to.getD z.toNat default) v p).map (AV.int .i64))[p]?=some (.int .i64 z):=by
  have e:(cR (fun z=>to.getD z.toNat default) v p).getD p default=if p < p then to.getD (v.getD p default).toNat default else v.getD p default:=qT hpv
  rw [if_neg (by omega),hz] at e
  rw [List.getElem?_map]
  have h2:p < (cR (fun z=>to.getD z.toNat default) v p).length:=by omega
  rw [List.getElem?_eq_getElem h2,← e,List.getD_eq_getElem?_getD,List.getElem?_eq_getElem h2]; rfl
 have hst:(cR (fun z=>to.getD z.toNat default) v p).set p (to.getD z default)=cR (fun z=>to.getD z.toNat default) v (p + 1):=by
  have e:(cR (fun z=>to.getD z.toNat default) v p).set p (to.getD (v.getD p default).toNat default)=cR (fun z=>to.getD z.toNat default) v (p + 1):=rM hpv
  rw [hz,Int.toNat_natCast] at e
  exact e
 have hlp:=dE (f:=AV.int .i64) (l:=cR (fun z=>to.getD z.toNat default) v p) (k:=p) (x:=to.getD z default) (by omega)
 rw [hst] at hlp
 have hzl:z < to.length:=by omega
 generalize cR (fun z=>to.getD z.toNat default) v p=W at *
 (have zz:=aI @hgp @hml; repeat' (first | refine zW ?_ | apply a_n | refine zO ?_ | refine vY ?_ | refine stY ?_ | (refine zGY ?_ ?_ <;> (intro _hg; try (exfalso; omega))) | fail)) <;> (try clear zz)
 refine ⟨p + 1,by omega,⟨by omega,rfl,?_⟩,ag0⟩
 rw [an,← hlp]
end Go.Proofs.YtjgpfclngkcedaaGreat
namespace Go.Proofs.YtjgpfclngkcedaaGreat
open Go Go.Abs
open Nat (reduceEqDiff reduceAdd reduceLeDiff)
def ir (H:Hp) (k:Nat):Hp:=fun x=>if x < k then H x else none
theorem pi {H:Hp} {k x:Nat} (h:x < k):ir H k x=H x:=if_pos h
theorem oO {H H':Hp} {k:Nat} (h:∀ x,x < k→H' x=H x):Sub (ir H k) H':=fun b c hb=>by
 unfold ir at hb
 split at hb
 ·rw [h b ‹_›]; exact hb
 ·cases hb
attribute [local irreducible] aD ag aS aP aH aJ ay aK aQ aZ Go.Abs.Fn aO Go.Abs.Pure al aC Yl
end Go.Proofs.YtjgpfclngkcedaaGreat
namespace Go.Proofs.YtjgpfclngkcedaaGreat
open Go Go.Abs
open Nat (reduceEqDiff reduceAdd reduceLeDiff)
def j5 (to:List Int) (c:CaseV):CaseV:=⟨c.inp,fu (c.out.map (b6 to)),fu (c.calm.map (b6 to))⟩
def oA (t:TaskV) (outs:Int) (to:List Int):TaskV:=⟨t.n,t.ins,outs,t.cases.map (j5 to)⟩
def bG (t:TaskV) (outs:Int) (to:List Int):TaskV × Int:=if aB t ≠ 0 then (T00,aB t) else if outs < 1 ∨ 8 < outs then (T00,2) else if (to.length:Int) ≠ t.outs then (T00,15) else if to.any (fun v=>decide (v < 0 ∨ outs ≤ v)) then (T00,2) else (oA t outs to,0)
theorem fc {to:List Int} {l:List (List Int)}:(fu (l.map (b6 to))).length ≤ l.length:=by
 have:=mi (l:=l.map (b6 to))
 rwa [List.length_map] at this
attribute [local irreducible] aD ag aS aP aH aJ ay aK aQ aZ Go.Abs.Fn aO Go.Abs.Pure al aC Yl
theorem sL (v o:Int):Pure Tryz.prog 73 [.int .i64 v,.iptr [.int .i64 o] 0] (.bool (decide (v < 0 ∨ o ≤ v))):=by
 refine Pure.of_c2 follows Bw (Nat.le_of_ble_eq_true rfl) ?_
 simp only [b73,cO,cG,cN,cM,cD,cF,cB,aw,aF]
 (have zz:=and_self; repeat' (first | refine zW ?_ | apply a_n | refine zO ?_ | refine vZ ?_ | refine gTZ ?_ | refine gFZ ?_ | (refine zGZ ?_ ?_ <;> (intro _hg; try (exfalso; omega))) | refine aa rfl ?_ | refine r1Z ?_ | fail)) <;> (try clear zz)
 all_goals (refine bD ?_)
 ·exact decide_eq_decide.2 (by omega)
 ·rw [decide_eq_true (by omega)]
set_option maxHeartbeats 2000000 in
theorem vh (t:TaskV) (outs:Int) (to:List Int) (fit:Fit t) (hto:to.length ≤ 1000):Pure Tryz.prog 23 [bo t,.int .i64 outs,az to] (.tup [bo (bG t outs to).1,.int .i64 (bG t outs to).2]):=by
 refine Pure.of_c2 follows Al (Nat.le_of_ble_eq_true rfl) ?_
 simp only [b23,cO,cG,cN,cM,cD,cF,cB,aw,aF]
 have hc:=iY t fit.sh fit.sh2
 have d1:=bM t
 have hA:=lP to (fun v=>decide (v < 0 ∨ outs ≤ v)) 73 [.iptr [.int .i64 outs] 0] (DatL.cons (Dat.iptr (DatL.cons .int DatL.nil)) DatL.nil) (fun v _=>sL v outs) (show _ ≤ _ by omega)
 unfold bG
 generalize hAA:[.int .i64 t.n,.int .i64 t.ins,.int .i64 t.outs,bb t.cases]=A
 have hTA:bo t=.agg A:=by rw [← hAA]; rfl
 rw [hTA] at hc d1 ⊢
 refine aN (fun T H nx=>T 3=.ptr 0 4 0∧T 4=.ptr 1 1 0∧T 5=.ptr 2 1 0∧T 6=.ptr 3 4 0∧H=ak (ak (ak (ak aV 0 A) 1 [.int .i64 outs]) 2 [az to]) 3 [.int .i64 0,.int .i64 0,.int .i64 0,.esl]∧nx=4) ?_ ?_
 ·subst hAA
  (have zz:=aI @ah @ab; repeat' (first | apply a_n | refine zO ?_ | refine vZ ?_ | refine alZ ?_ | refine bxZ ?_ | fail)) <;> (try clear zz)
  exact ⟨rfl,rfl,rfl,rfl,rfl,rfl⟩
 rintro T H _ ⟨t3,t4,t5,t6,rfl,rfl⟩
 by_cases he:aB t=0
 rotate_left
 ·rw [if_pos he]
  generalize aB t=C at *
  subst hAA
  (have zz:=aI @t3 (aI @t4 (aI @t5 (aI @t6 (aI @ah @ab)))); repeat' (first | refine zW ?_ | apply a_n | apply a_r | refine zO ?_ | refine vZ ?_ | refine cZ ?_ (hp:=hc) | refine stZ ?_ | (refine zGZ ?_ ?_ <;> (intro _hg; try (exfalso; omega))) | refine aa rfl ?_ | refine r2Z ?_ | fail)) <;> (try clear zz)
  exact fi _
 rw [if_neg (fun h=>h he)]
 rw [he] at hc
 refine aN (fun T H nx=>T 3=.ptr 0 4 0∧T 4=.ptr 1 1 0∧T 5=.ptr 2 1 0∧T 6=.ptr 3 4 0∧H=ak (ak (ak (ak aV 0 A) 1 [.int .i64 outs]) 2 [az to]) 3 [.int .i64 0,.int .i64 0,.int .i64 0,.esl]∧nx=4) ?_ ?_
 ·subst hAA
  (have zz:=aI @t3 (aI @t4 (aI @t5 (aI @t6 (aI @ah @ab)))); repeat' (first | refine zW ?_ | apply a_n | refine zO ?_ | refine vZ ?_ | refine cZ ?_ (hp:=hc) | (refine zGZ ?_ ?_ <;> (intro _hg; try (exfalso; omega))) | fail)) <;> (try clear zz)
  exact ⟨(have zz:=@t3; evZ),(have zz:=@t4; evZ),(have zz:=@t5; evZ),(have zz:=@t6; evZ),rfl,rfl⟩
 clear t3 t4 t5 t6
 rintro T H _ ⟨t3,t4,t5,t6,rfl,rfl⟩
 subst hAA
 by_cases h1:outs < 1
 ·rw [if_pos (.inl h1)]
  have z:decide (outs < 1)=true:=decide_eq_true h1
  (have zz:=aI @t3 (aI @t4 (aI @t5 (aI @t6 (aI @z (aI @ah @ab))))); repeat' (first | refine zW ?_ | apply a_n | apply a_r | refine zO ?_ | refine vZ ?_ | refine stZ ?_ | refine gFZ ?_ | refine cTZ ?_ | refine aa rfl ?_ | refine r2Z ?_ | fail)) <;> (try clear zz)
  all_goals exact fi _
 have z1:decide (outs < 1)=false:=decide_eq_false h1
 by_cases h2:8 < outs
 ·rw [if_pos (.inr h2)]
  have z:decide (8 < outs)=true:=decide_eq_true h2
  (have zz:=aI @t3 (aI @t4 (aI @t5 (aI @t6 (aI @z1 (aI @z (aI @ah @ab)))))); repeat' (first | refine zW ?_ | apply a_n | apply a_r | refine zO ?_ | refine vZ ?_ | refine stZ ?_ | refine gTZ ?_ | refine cTZ ?_ | refine aa rfl ?_ | refine r2Z ?_ | fail)) <;> (try clear zz)
  all_goals exact fi _
 have z2:decide (8 < outs)=false:=decide_eq_false h2
 rw [if_neg (by omega)]
 by_cases h3:(to.length:Int) ≠ t.outs
 ·rw [if_pos h3]
  have z:decide ((to.length:Int) ≠ t.outs)=true:=decide_eq_true h3
  (have zz:=aI @t3 (aI @t4 (aI @t5 (aI @t6 (aI @z1 (aI @z2 (aI @z (aI @ah @ab))))))); repeat' (first | refine zW ?_ | apply a_n | apply a_r | refine zO ?_ | refine vZ ?_ | refine stZ ?_ | refine gTZ ?_ | refine cTZ ?_ | refine cFZ ?_ | refine aa rfl ?_ | refine r2Z ?_ | fail)) <;> (try clear zz)
  all_goals exact fi _
 have z3:decide ((to.length:Int) ≠ t.outs)=false:=decide_eq_false h3
 rw [if_neg h3]
 have hol:(to.length:Int)=t.outs:=Decidable.of_not_not h3
 refine aN (fun T H nx=>T 3=.ptr 0 4 0∧T 5=.ptr 2 1 0∧T 4=.ptr 1 1 0∧T 6=.ptr 3 4 0∧to.any (fun v=>decide (v < 0 ∨ outs ≤ v))=false∧H=ak (ak (ak (ak aV 0 [.int .i64 t.n,.int .i64 t.ins,.int .i64 t.outs,bb t.cases]) 1 [.int .i64 outs]) 2 [az to]) 3 [.int .i64 0,.int .i64 0,.int .i64 0,.esl]∧nx=4) ?_ ?_
 ·(have zz:=aI @t3 (aI @t4 (aI @t5 (aI @t6 (aI @z1 (aI @z2 (aI @z3 (aI @ah @ab))))))); repeat' (first | refine zW ?_ | apply a_n | refine zO ?_ | refine vZ ?_ | refine gTZ ?_ | refine cFZ ?_ | fail)) <;> (try clear zz)
  refine b8 (have zz:=aI @t3 (aI @t4 (aI @t5 @t6)); evZ) (have zz:=aI @t3 (aI @t4 (aI @t5 @t6)); evZ) hA (aj (by (repeat' (first | exact af | exact Dat.snap Dat.int | exact Dat.snap Dat.bool | exact Dat.snap Dat.str | exact Dat.snap Dat.esl | exact Dat.snap Dat.nilf | exact Dat.snap (aU _) | exact Dat.snap (aX _) | apply aq | apply cT | apply dw | (apply da; (focus ((try simp only [bq,ZA,reduceEqDiff,↓reduceIte,reduceAdd,reduceLeDiff]); with_reducible rfl)); (focus rfl))))) rfl) ?_
  cases hb:to.any (fun v=>decide (v < 0 ∨ outs ≤ v))
  ·(have zz:=aI @t3 (aI @t4 (aI @t5 (aI @t6 (aI @z1 (aI @z2 (aI @z3 (aI @ah (aI @ab @Bool.false_eq_true)))))))); repeat' (first | apply a_n | refine zO ?_ | refine vZ ?_ | refine cFZ ?_ | fail)) <;> (try clear zz)
   all_goals exact ⟨(have zz:=@t3; evZ),(have zz:=@t5; evZ),(have zz:=@t4; evZ),(have zz:=@t6; evZ),rfl,rfl,rfl⟩
  ·(have zz:=aI @t3 (aI @t4 (aI @t5 (aI @t6 (aI @z1 (aI @z2 (aI @z3 (aI @ah (aI @ab @Bool.false_eq_true)))))))); repeat' (first | refine zW ?_ | apply a_n | apply a_r | refine zO ?_ | refine vZ ?_ | refine stZ ?_ | refine cTZ ?_ | refine aa rfl ?_ | refine r2Z ?_ | fail)) <;> (try clear zz)
   rw [if_pos rfl]
   all_goals exact fi _
 clear t3 t4 t5 t6
 rintro T H _ ⟨t3,t5,t4,t6,hb,rfl,rfl⟩
 rw [hb,if_neg (by decide)]
 refine cQ ?_
 refine j9 (only 2 [az to]) (co (ak (ak (ak (ak aV 0 [.int .i64 t.n,.int .i64 t.ins,.int .i64 t.outs,bb t.cases]) 1 [.int .i64 outs]) 2 [az to]) 3 [.int .i64 0,.int .i64 0,.int .i64 0,.esl]) 2) [(3,.ptr 0 4 0),(4,.ptr 1 1 0),(5,.iptr [az to] 0),(6,.ptr 3 4 0)] (Fz.one (by rw [ao (by omega),au])) ⟨.inl t3,.inl t4,.inr (by rw [t5]; exact da pH rfl (aq (aU _ _) af)),.inl t6,trivial⟩ ?_
 generalize hH:co _ 2=H
 have g0:H 0=some [.int .i64 t.n,.int .i64 t.ins,.int .i64 t.outs,bb t.cases]:=by rw [← hH,ku (by omega),ao (by omega),ao (by omega),ao (by omega),au]
 have g1:H 1=some [.int .i64 outs]:=by rw [← hH,ku (by omega),ao (by omega),ao (by omega),au]
 have g3:H 3=some [.int .i64 0,.int .i64 0,.int .i64 0,.esl]:=by rw [← hH,ku (by omega),au]
 clear hH
 (have zz:=and_self; repeat' (first | apply a_n | refine zO ?_ | refine vY ?_ | fail)) <;> (try clear zz)
 have nn:=eJ he
 have hal:=fit.len
 refine aN (fun T H nx=>T 3=.ptr 0 4 0∧T 6=.ptr 3 4 0∧T 9=.func 74 [.iptr [az to] 0]∧T 10=.ptr 4 4 0∧nx=5∧H 0=some [.int .i64 t.n,.int .i64 t.ins,.int .i64 t.outs,bb t.cases]∧H 3=some [.int .i64 0,.int .i64 0,.int .i64 0,.esl]∧H 4=some [.int .i64 t.n,.int .i64 t.ins,.int .i64 outs,.esl]) ?_ ?_
 ·(have zz:=aI @g0 @g1; repeat' (first | apply a_n | refine zO ?_ | refine vY ?_ | refine alY ?_ | refine stY ?_ | fail)) <;> (try clear zz)
  exact ⟨(have zz:=and_self; evY),(have zz:=and_self; evY),(have zz:=and_self; evY),(have zz:=and_self; evY),rfl,by rw [ao (by omega),ao (by omega),g0],by rw [ao (by omega),ao (by omega),g3],by rw [au]; rfl⟩
 clear g0 g1 g3 t3 t4 t5 t6
 rintro T H _ ⟨t3,t6,t9,t10,rfl,g0,g3,g4⟩
 refine aN (fun T H nx=>T 6=.ptr 3 4 0∧T 10=.ptr 4 4 0∧H 3=some [.int .i64 0,.int .i64 0,.int .i64 0,.esl]∧∃ sv,H 4=some [.int .i64 t.n,.int .i64 t.ins,.int .i64 outs,sv]∧Row H 3 sv ((t.cases.map (j5 to)).c3 cP)∧∀ y,eK sv=some y→5 ≤ y) ?_ ?_
 rotate_left
 ·clear t3 t6 t9 t10 g0 g3 g4
  rintro T H nx ⟨t6,t10,g3,sv,g4,hrow,hbd⟩
  obtain ⟨q1,q2⟩:=hrow.one
  (have zz:=aI @t6 (aI @t10 (aI @g3 (aI @g4 (aI @q1 @q2)))); repeat' (first | refine zW ?_ | apply a_n | refine zO ?_ | refine vY ?_ | refine stY ?_ | refine aa rfl ?_ | refine r2Y ?_ | fail)) <;> (try clear zz)
  exact AY (uH (hrow.same fun x hx=>by have:=hbd x hx; rw [ao (by omega)]))
 (have zz:=aI @t3 (aI @g0 @ax); repeat' (first | refine zW ?_ | apply a_n | refine zO ?_ | refine vY ?_ | fail)) <;> (try clear zz)
 refine a9 (X:=AV × Nat) (fun x=>[(6,.ptr 3 4 0),(9,.func 74 [.iptr [az to] 0]),(10,.ptr 4 4 0),(47,bb t.cases),(48,.int .i64 t.cases.length),(49,.int .i64 x.2)]) (fun x H nx=>x.2 ≤ t.cases.length∧5 ≤ nx∧H 3=some [.int .i64 0,.int .i64 0,.int .i64 0,.esl]∧H 4=some [.int .i64 t.n,.int .i64 t.ins,.int .i64 outs,x.1]∧Row H 3 x.1 (((t.cases.take x.2).map (j5 to)).c3 cP)∧∀ y,eK x.1=some y→5 ≤ y∧y < nx) (fun x=>t.cases.length - x.2) (.esl,0) ⟨Nat.zero_le _,Nat.le_refl _,g3,g4,Row.nil,fun b hb=>(by cases hb)⟩ (have zz:=aI @t6 (aI @t9 @t10); agZ) ?_
 clear t3 t6 t9 t10 g0 g3 g4
 rintro ⟨sv,k⟩ H nx ⟨hk,hnx,g3,g4,hrow,hbd⟩
 dsimp only at hk g4 hrow hbd ⊢
 by_cases hk2:k < t.cases.length
 rotate_left
 ·rw [List.take_of_length_le (by omega)] at hrow
  (have zz:=and_self; repeat' (first | refine zW ?_ | apply a_n | apply a_x | refine zO ?_ | refine vY ?_ | (refine zGY ?_ ?_ <;> (intro _hg; try (exfalso; omega))) | fail)) <;> (try clear zz)
  exact ⟨rfl,rfl,g3,sv,g4,hrow,fun y hy=>(hbd y hy).1⟩
 have ix:=bg hk2
 have hm:=ai hk2
 have hst:((t.cases.take (k + 1)).map (j5 to)).c3 cP=((t.cases.take k).map (j5 to)).c3 cP ++ (cP (j5 to (t.cases.getD k default))).cells:=by
  rw [cI hk2,List.map_append]
  simp [List.c3]
 have hlen3:(((t.cases.take k).map (j5 to)).c3 cP).length=k * 3:=by
  rw [bf (fun _=>rfl),List.length_map,List.length_take]; omega
 have hsc:=fit.sh _ hm
 have hqc:=fit.q _ hm
 have hvc:=uI he hm
 have hcm:∀ v ∈ (t.cases.getD k default).calm,v ∈ (t.cases.getD k default).out:=(bL (dh he hm).2).2.2.2.1
 generalize t.cases.getD k default=c at *
 obtain ⟨q1,q2⟩:=hrow.one
 have hcl:=kC c.inp hsc.1
 have m1:=rl c.out to t.n.toNat (by omega) (by omega) hqc.1 hto (fun v hv=>⟨by have:=(hvc.1 v hv).1; omega,fun z hz=>by have:=(hvc.1 v hv).2 z hz; omega⟩)
 have m2:=rl c.calm to t.n.toNat (by omega) (by omega) hqc.2 hto (fun v hv=>⟨by have:=(hvc.1 v (hcm v hv)).1; omega,fun z hz=>by have:=(hvc.1 v (hcm v hv)).2 z hz; omega⟩)
 refine cQ ?_
 (have zz:=and_self; repeat' (first | apply a_n | refine zO ?_ | refine vY ?_ | fail)) <;> (try clear zz)
 refine cQ ?_
 (have zz:=and_self; repeat' (first | apply a_n | refine zO ?_ | (refine zGY ?_ ?_ <;> (intro _hg; try (exfalso; omega))) | fail)) <;> (try clear zz)
 refine cQ ?_
 refine dz ?_
 refine cQ ?_
 (have zz:=@ix; repeat' (first | apply a_n | refine zO ?_ | refine vY ?_ | refine alY ?_ | refine stY ?_ | fail)) <;> (try clear zz)
 generalize hH2:ak (ak H nx _) nx _=H2
 have gs:∀ x,x < nx→H2 x=H x:=fun x hx=>by rw [← hH2,ao (by omega),ao (by omega)]
 have gc:H2 nx=some [az c.inp,aA c.out,aA c.calm]:=by rw [← hH2,au]; rfl
 clear hH2
 refine wg (ir H2 (nx + 1)) rfl (oO fun _ _=>rfl) ?_
 have s4:ir H2 (nx + 1) 4=some [.int .i64 t.n,.int .i64 t.ins,.int .i64 outs,sv]:=by rw [pi (by omega),gs 4 (by omega),g4]
 have sc:ir H2 (nx + 1) nx=some [az c.inp,aA c.out,aA c.calm]:=by rw [pi (by omega),gc]
 have hSub:∀ H',(∀ x,x < nx + 1→H' x=H2 x)→Sub (ir H2 (nx + 1)) H':=fun H' h=>oO h
 generalize ir H2 (nx + 1)=S at *
 (have zz:=aI @s4 @sc; repeat' (first | apply a_n | refine zO ?_ | refine nvY ?_ | fail)) <;> (try clear zz)
 refine iG ?_
 refine kv (have zz:=and_self; evY) (have zz:=and_self; evY) hcl (aq (aU _ _) af) ?_
 refine nF ⟨hSub _ fun _ _=>rfl,?_⟩
 refine iG ?_
 refine b8 (have zz:=and_self; evY) (have zz:=and_self; evY) m1 (ap (by (repeat' (first | exact af | exact Dat.snap Dat.int | exact Dat.snap Dat.bool | exact Dat.snap Dat.str | exact Dat.snap Dat.esl | exact Dat.snap Dat.nilf | exact Dat.snap (aU _) | exact Dat.snap (aX _) | apply aq | apply cT | apply dw | (apply da; (focus ((try simp only [bq,ZA,reduceEqDiff,↓reduceIte,reduceAdd,reduceLeDiff]); with_reducible rfl)); (focus rfl)))))) ?_
 refine nF ⟨hSub _ fun _ _=>rfl,?_⟩
 refine iG ?_
 refine b8 (have zz:=and_self; evY) (have zz:=and_self; evY) m2 (ap (by (repeat' (first | exact af | exact Dat.snap Dat.int | exact Dat.snap Dat.bool | exact Dat.snap Dat.str | exact Dat.snap Dat.esl | exact Dat.snap Dat.nilf | exact Dat.snap (aU _) | exact Dat.snap (aX _) | apply aq | apply cT | apply dw | (apply da; (focus ((try simp only [bq,ZA,reduceEqDiff,↓reduceIte,reduceAdd,reduceLeDiff]); with_reducible rfl)); (focus rfl)))))) ?_
 refine nF ⟨hSub _ fun _ _=>rfl,?_⟩
 (have zz:=aI @s4 @sc; repeat' (first | apply a_n | refine zO ?_ | refine nvY ?_ | fail)) <;> (try clear zz)
 refine iG ?_
 (have zz:=and_self; repeat' (first | apply a_n | refine zO ?_ | refine blY ?_ | fail)) <;> (try clear zz)
 refine ⟨hSub _ fun x hx=>by rw [ao (by omega)],?_⟩
 (have zz:=aI @s4 @sc; repeat' (first | apply a_n | refine zO ?_ | apply qJ | fail)) <;> (try clear zz)
 refine lB rfl ev0 (hrow.same fun y hy=>?_) ev0 nL rfl rfl (by omega) (by rw [hlen3]; omega) (by rw [hlen3]; omega) ?_
 ·have:=hbd y hy
  rw [ao (by omega),gs y (by omega)]
 rintro s2 E e hrw hle1 hle2 hsm hb2
 have hfr:∀ x,x < 5→E x=H x:=fun x hx=>(hsm x (by omega) (fun h=>by have:=hbd _ h; omega)).trans (by rw [ao (by omega),gs x (by omega)])
 have g4'':=(hfr 4 (by omega)).trans g4
 obtain ⟨p1,p2⟩:=hrw.one
 have ub:∀ y,eK s2=some y→5 ≤ y∧y < e:=fun y hy=>by
  rcases hb2 y hy with h | h
  ·have:=hbd y h; omega
  ·omega
 (have zz:=aI @s4 (aI @sc (aI @g4'' (aI @p1 @p2))); repeat' (first | apply a_n | refine zO ?_ | refine vY ?_ | refine nvY ?_ | apply qJ | refine stY ?_ | fail)) <;> (try clear zz)
 refine ⟨(s2,k + 1),by dsimp only; omega,⟨by dsimp only; omega,by omega,?_,?_,?_,ub⟩,ag0⟩
 ·rw [ao (by omega),hfr 3 (by omega),g3]
 ·rw [au]; rfl
 ·dsimp only
  rw [hst]
  refine Row.same (H:=E) hrw fun y hy=>?_
  have:=ub y hy
  rw [ao (by omega)]
end Go.Proofs.YtjgpfclngkcedaaGreat
namespace Go.Proofs.YtjgpfclngkcedaaGreat
open Go Go.Abs
open Nat (reduceEqDiff reduceAdd reduceLeDiff)
attribute [local irreducible] aD ag aS aP aH aJ ay aK aQ aZ Go.Abs.Fn aO Go.Abs.Pure al aC Yl
end Go.Proofs.YtjgpfclngkcedaaGreat
namespace Go.Proofs.YtjgpfclngkcedaaGreat
open Go Go.Abs
open Nat (reduceEqDiff reduceAdd reduceLeDiff)
theorem ki {c d:CaseV}:c=d ↔ c.inp=d.inp∧c.out=d.out∧c.calm=d.calm:=by
 constructor
 ·rintro rfl; exact ⟨rfl,rfl,rfl⟩
 ·rintro ⟨h1,h2,h3⟩
  obtain ⟨a,b,e⟩:=c
  obtain ⟨a',b',e'⟩:=d
  cases h1; cases h2; cases h3; rfl
theorem f8 {a b:TaskV}:a=b ↔ a.n=b.n∧a.ins=b.ins∧a.outs=b.outs∧a.cases=b.cases:=by
 constructor
 ·rintro rfl; exact ⟨rfl,rfl,rfl,rfl⟩
 ·rintro ⟨h1,h2,h3,h4⟩
  obtain ⟨n,i,o,c⟩:=a
  obtain ⟨n',i',o',c'⟩:=b
  cases h1; cases h2; cases h3; cases h4; rfl
def eqF (p:CaseV→CaseV→Bool) (x y:List CaseV):Bool:=decide (x.length=y.length) && (List.range x.length).all fun i=>p (x.getD i default) (y.getD i default)
theorem Ag {x y:List CaseV}:eqF (fun c d=>decide (c=d)) x y=decide (x=y):=by
 rw [Bool.eq_iff_iff,decide_eq_true_iff]
 unfold eqF
 rw [Bool.and_eq_true,decide_eq_true_iff,List.all_eq_true]
 constructor
 ·rintro ⟨h1,h2⟩
  refine List.ext_getElem h1 fun i h3 h4=>?_
  have:=of_decide_eq_true (h2 i (List.mem_range.2 h3))
  simpa [List.getD,h3,h4] using this
 ·rintro rfl
  exact ⟨rfl,fun i _=>decide_eq_true rfl⟩
def gN (t:TaskV):List (List Int):=(gV t.n.toNat).filter fun p=>decide (t=cV t p)
def wA (t:TaskV):List (List Int) × Int:=if aB t ≠ 0 then ([],aB t) else (gN t,0)
theorem nG {t:TaskV} (h:aB t=0) {p:List Int} (hp:p ∈ gV t.n.toNat):bF p=0∧(p.length:Int)=t.n:=by
 have hn:=eJ h
 have:=(mI t.n.toNat (by omega) (by omega)).2 p hp
 exact ⟨this.1,by omega⟩
attribute [local irreducible] aD ag aS aP aH aJ ay aK aQ aZ Go.Abs.Fn aO Go.Abs.Pure al aC Yl
theorem uU (x y:List CaseV) (p:CaseV→CaseV→Bool) (g:Nat) (caps:List AV) (hd:∀ z ∈ caps,Dat z) (hx:Sh x) (hy:Sh y) (hg:∀ c ∈ x,∀ d ∈ y,Pure Tryz.prog g (.agg [az c.inp,aA c.out,aA c.calm] :: .agg [az d.inp,aA d.out,aA d.calm] :: caps) (.bool (p c d))):Pure Tryz.prog 83 [bb x,bb y,.func g caps] (.bool (eqF p x y)):=by
 refine Pure.of_c2 follows Cb (Nat.le_of_ble_eq_true rfl) ?_
 simp only [b83,cO,cG,cN,cM,cD,cF,cB,aw,aF]
 have hx':x.length ≤ 17592186044416:=hx
 have hy':y.length ≤ 17592186044416:=hy
 unfold eqF
 by_cases hlen:x.length=y.length
 rotate_left
 ·have z:decide ((x.length:Int) ≠ y.length)=true:=decide_eq_true (by omega)
  rw [decide_eq_false hlen,Bool.false_and]
  (have zz:=aI @z (aI @ah (aI @ab @ax)); repeat' (first | refine zW ?_ | apply a_n | apply a_r | refine zO ?_ | refine vZ ?_ | refine cTZ ?_ | refine aa rfl ?_ | refine r1Z ?_ | fail)) <;> (try clear zz)
  exact .bool _
 rw [decide_eq_true hlen,Bool.true_and]
 have z:decide ((x.length:Int) ≠ y.length)=false:=decide_eq_false (by omega)
 (have zz:=aI @z (aI @ah (aI @ab @ax)); repeat' (first | refine zW ?_ | apply a_n | refine zO ?_ | refine vZ ?_ | refine cFZ ?_ | fail)) <;> (try clear zz)
 refine a9 (X:=Nat) (fun k=>[(0,bb x),(1,bb y),(2,.func g caps),(15,bb x),(16,.int .i64 x.length),(17,.int .i64 k)]) (fun k H nx=>k ≤ x.length∧∀ i,i < k→p (x.getD i default) (y.getD i default)=true) (fun k=>x.length - k) 0 ⟨Nat.zero_le _,fun i h=>absurd h (by omega)⟩ ag0 ?_
 rintro k H nx ⟨hk,hz⟩
 by_cases hk2:k < x.length
 rotate_left
 ·rw [List.all_eq_true.2 (fun i hi=>hz i (by have:=List.mem_range.1 hi; omega))]
  (have zz:=and_self; repeat' (first | refine zW ?_ | apply a_n | apply a_x | refine zO ?_ | refine vY ?_ | (refine zGY ?_ ?_ <;> (intro _hg; try (exfalso; omega))) | refine aa rfl ?_ | refine r1Y ?_ | fail)) <;> (try clear zz)
  exact .bool _
 have ix:=bg hk2
 have iy:=bg (l:=y) (k:=k) (by omega)
 have hc:=hg _ (ai hk2) _ (ai (l:=y) (k:=k) (by omega))
 have dx:=eD (x.getD k default)
 have dy:=eD (y.getD k default)
 unfold cP at dx dy
 have hbad:p (x.getD k default) (y.getD k default)=false→(List.range x.length).all (fun i=>p (x.getD i default) (y.getD i default))=false:=fun h=>by
  rw [Bool.eq_false_iff,ne_eq,List.all_eq_true]
  intro h2
  have:=h2 k (List.mem_range.2 hk2)
  rw [h] at this; cases this
 have hnext:p (x.getD k default) (y.getD k default)=true→∀ i,i < k + 1→p (x.getD i default) (y.getD i default)=true:=fun h i hi=>by
  rcases Nat.lt_succ_iff_lt_or_eq.1 hi with h' | rfl
  ·exact hz i h'
  ·exact h
 cases hb:p (x.getD k default) (y.getD k default)
 ·rw [hb] at hc
  rw [hbad hb]
  (have zz:=aI @ah (aI @ab (aI @ax (aI @ix @iy))); repeat' (first | refine zW ?_ | apply a_n | apply a_r | refine zO ?_ | refine vY ?_ | refine cY ?_ (hp:=hc) (hs:=by (first | refine aj ?_ rfl | apply ap); (repeat' (first | exact af | apply aG | apply av | exact dx | exact dy | exact ar hd)); first | done | fail) | refine alY ?_ | refine stY ?_ | refine cTY ?_ | (refine zGY ?_ ?_ <;> (intro _hg; try (exfalso; omega))) | refine aa rfl ?_ | refine r1Y ?_ | fail)) <;> (try clear zz)
  exact .bool _
 ·rw [hb] at hc
  (have zz:=aI @ah (aI @ab (aI @ax (aI @ix @iy))); repeat' (first | refine zW ?_ | apply a_n | refine zO ?_ | refine vY ?_ | refine cY ?_ (hp:=hc) (hs:=by (first | refine aj ?_ rfl | apply ap); (repeat' (first | exact af | apply aG | apply av | exact dx | exact dy | exact ar hd)); first | done | fail) | refine alY ?_ | refine stY ?_ | refine cFY ?_ | (refine zGY ?_ ?_ <;> (intro _hg; try (exfalso; omega))) | fail)) <;> (try clear zz)
  exact ⟨k + 1,by omega,⟨by omega,hnext hb⟩,ag0⟩
theorem tt (x y:List (List Int)) (hx:Sh x) (hy:Sh y) (hxs:∀ v ∈ x,Sh v) (hys:∀ v ∈ y,Sh v):Pure Tryz.prog 120 [aA x,aA y] (.bool (decide (x=y))):=by
 refine Pure.of_c2 follows y3 (Nat.le_of_ble_eq_true rfl) ?_
 simp only [AH,cO,cG,cN,cM,cD,cF,cB,aw,aF]
 have hE:=uw x y hx hy hxs hys
 (have zz:=and_self; repeat' (first | refine zW ?_ | apply a_n | refine zO ?_ | refine vZ ?_ | refine cZ ?_ (hp:=hE) (hs:=by (first | refine aj ?_ rfl | apply ap); (repeat' (first | exact af | apply aG | apply av | exact Dat.func DatL.nil)); first | done | fail) | refine aa rfl ?_ | refine r1Z ?_ | fail)) <;> (try clear zz)
 exact .bool _
theorem xE (c d:CaseV) (hc:ShC c) (hd:ShC d):Pure Tryz.prog 121 [.agg [az c.inp,aA c.out,aA c.calm],.agg [az d.inp,aA d.out,aA d.calm],.iptr [.func 120 []] 0] (.bool (decide (c=d))):=by
 refine Pure.of_c2 follows zr (Nat.le_of_ble_eq_true rfl) ?_
 simp only [AA,cO,cG,cN,cM,cD,cF,cB,aw,aF]
 have h1:=iv c.inp d.inp hc.1 hd.1
 have h2:=tt c.out d.out hc.2.1 hd.2.1 hc.2.2.1 hd.2.2.1
 have h3:=tt c.calm d.calm hc.2.2.2.1 hd.2.2.2.1 hc.2.2.2.2 hd.2.2.2.2
 by_cases e1:c.inp=d.inp
 rotate_left
 ·rw [decide_eq_false e1] at h1
  rw [decide_eq_false (p:=c=d) (fun h=>e1 (ki.1 h).1)]
  (have zz:=@Bool.false_eq_true; repeat' (first | refine zW ?_ | apply a_n | refine zO ?_ | refine vZ ?_ | refine cZ ?_ (hp:=h1) | refine bxZ ?_ | refine gFZ ?_ | refine aa rfl ?_ | refine r1Z ?_ | fail)) <;> (try clear zz)
  exact .bool _
 rw [decide_eq_true e1] at h1
 by_cases e2:c.out=d.out
 rotate_left
 ·rw [decide_eq_false e2] at h2
  rw [decide_eq_false (p:=c=d) (fun h=>e2 (ki.1 h).2.1)]
  (have zz:=@Bool.false_eq_true; repeat' (first | refine zW ?_ | apply a_n | refine zO ?_ | refine vZ ?_ | refine cZ ?_ (hp:=by first | exact h1 | exact h2) | refine bxZ ?_ | refine gTZ ?_ | refine gFZ ?_ | refine aa rfl ?_ | refine r1Z ?_ | fail)) <;> (try clear zz)
  exact .bool _
 rw [decide_eq_true e2] at h2
 by_cases e3:c.calm=d.calm
 ·rw [decide_eq_true e3] at h3
  rw [decide_eq_true (p:=c=d) (ki.2 ⟨e1,e2,e3⟩)]
  (have zz:=@Bool.false_eq_true; repeat' (first | refine zW ?_ | apply a_n | refine zO ?_ | refine vZ ?_ | refine cZ ?_ (hp:=by first | exact h1 | exact h2 | exact h3) | refine bxZ ?_ | refine gTZ ?_ | refine aa rfl ?_ | refine r1Z ?_ | fail)) <;> (try clear zz)
  exact .bool _
 ·rw [decide_eq_false e3] at h3
  rw [decide_eq_false (p:=c=d) (fun h=>e3 (ki.1 h).2.2)]
  (have zz:=@Bool.false_eq_true; repeat' (first | refine zW ?_ | apply a_n | refine zO ?_ | refine vZ ?_ | refine cZ ?_ (hp:=by first | exact h1 | exact h2 | exact h3) | refine bxZ ?_ | refine gTZ ?_ | refine aa rfl ?_ | refine r1Z ?_ | fail)) <;> (try clear zz)
  exact .bool _
theorem yj (a b:TaskV) (ha:∀ c ∈ a.cases,ShC c) (ha2:Sh a.cases) (hb:∀ c ∈ b.cases,ShC c) (hb2:Sh b.cases):Pure Tryz.prog 79 [bo a,bo b] (.bool (decide (a=b))):=by
 refine Pure.of_c2 follows Bg (Nat.le_of_ble_eq_true rfl) ?_
 simp only [b79,cO,cG,cN,cM,cD,cF,cB,aw,aF]
 have hE:=uU a.cases b.cases (fun c d=>decide (c=d)) 121 [.iptr [.func 120 []] 0] (DatL.cons (Dat.iptr (DatL.cons (Dat.func DatL.nil) DatL.nil)) DatL.nil) ha2 hb2 (fun c hc d hd=>xE c d (ha c hc) (hb d hd))
 rw [Ag] at hE
 unfold bo
 by_cases e1:a.n=b.n
 rotate_left
 ·have z:decide (a.n=b.n)=false:=decide_eq_false e1
  rw [decide_eq_false (p:=a=b) (fun h=>e1 (f8.1 h).1)]
  (have zz:=aI @z (aI @ah @ab); repeat' (first | refine zW ?_ | apply a_n | refine zO ?_ | refine vZ ?_ | refine alZ ?_ | refine bxZ ?_ | refine stZ ?_ | refine gFZ ?_ | refine aa rfl ?_ | refine r1Z ?_ | fail)) <;> (try clear zz)
  exact .bool _
 have z1:decide (a.n=b.n)=true:=decide_eq_true e1
 by_cases e2:a.ins=b.ins
 rotate_left
 ·have z:decide (a.ins=b.ins)=false:=decide_eq_false e2
  rw [decide_eq_false (p:=a=b) (fun h=>e2 (f8.1 h).2.1)]
  (have zz:=aI @z1 (aI @z (aI @ah @ab)); repeat' (first | refine zW ?_ | apply a_n | refine zO ?_ | refine vZ ?_ | refine alZ ?_ | refine bxZ ?_ | refine stZ ?_ | refine gTZ ?_ | refine gFZ ?_ | refine aa rfl ?_ | refine r1Z ?_ | fail)) <;> (try clear zz)
  exact .bool _
 have z2:decide (a.ins=b.ins)=true:=decide_eq_true e2
 by_cases e3:a.outs=b.outs
 rotate_left
 ·have z:decide (a.outs=b.outs)=false:=decide_eq_false e3
  rw [decide_eq_false (p:=a=b) (fun h=>e3 (f8.1 h).2.2.1)]
  (have zz:=aI @z1 (aI @z2 (aI @z (aI @ah @ab))); repeat' (first | refine zW ?_ | apply a_n | refine zO ?_ | refine vZ ?_ | refine alZ ?_ | refine bxZ ?_ | refine stZ ?_ | refine gTZ ?_ | refine gFZ ?_ | refine aa rfl ?_ | refine r1Z ?_ | fail)) <;> (try clear zz)
  exact .bool _
 have z3:decide (a.outs=b.outs)=true:=decide_eq_true e3
 rw [show decide (a=b)=decide (a.cases=b.cases) from decide_eq_decide.2 ⟨fun h=>(f8.1 h).2.2.2,fun h=>f8.2 ⟨e1,e2,e3,h⟩⟩]
 (have zz:=aI @z1 (aI @z2 (aI @z3 (aI @ah @ab))); repeat' (first | refine zW ?_ | apply a_n | refine zO ?_ | refine vZ ?_ | refine alZ ?_ | refine bxZ ?_ | refine stZ ?_ | refine gTZ ?_ | fail)) <;> (try clear zz)
 refine b8 ev0 ev0 hE (aj (by (repeat' (first | exact af | exact Dat.snap Dat.int | exact Dat.snap Dat.bool | exact Dat.snap Dat.str | exact Dat.snap Dat.esl | exact Dat.snap Dat.nilf | exact Dat.snap (aU _) | exact Dat.snap (aX _) | exact ez _ _ | apply aq | apply cT | apply dw | (apply da; (focus ((try simp only [bq,ZA,reduceEqDiff,↓reduceIte,reduceAdd,reduceLeDiff]); with_reducible rfl)); (focus rfl))))) rfl) ?_
 (have zz:=and_self; repeat' (first | apply a_n | refine zO ?_ | refine vZ ?_ | refine aa rfl ?_ | refine r1Z ?_ | fail)) <;> (try clear zz)
 exact .bool _
end Go.Proofs.YtjgpfclngkcedaaGreat
namespace Go.Proofs.YtjgpfclngkcedaaGreat
open Go Go.Abs
open Nat (reduceEqDiff reduceAdd reduceLeDiff)
theorem xI {t:TaskV} {p:List Int} (h:aB t=0) (fit:Fit t) (hp:bF p=0) (hn:(p.length:Int)=t.n):(∀ c ∈ (cV t p).cases,ShC c)∧Sh (cV t p).cases:=by
 have:=xB fit.sh fit.sh2 (cX hp).2.1 (tn h hn)
 exact ⟨this.2,this.1⟩
attribute [local irreducible] aD ag aS aP aH aJ ay aK aQ aZ Go.Abs.Fn aO Go.Abs.Pure al aC Yl
theorem AK (t:TaskV) (p:List Int) (fit:Fit t) (h:aB t=0) (hp:bF p=0) (hn:(p.length:Int)=t.n):Pure Tryz.prog 78 [az p,.iptr [.int .i64 t.n,.int .i64 t.ins,.int .i64 t.outs,bb t.cases] 0] (.bool (decide (t=cV t p))):=by
 refine Pure.of_c2 follows BE (Nat.le_of_ble_eq_true rfl) ?_
 simp only [b78,cO,cG,cN,cM,cD,cF,cB,aw,aF]
 have hpl:p.length ≤ 5:=(cX hp).2.1
 have hc:=pd t p fit.sh fit.sh2 fit.q (show p.length ≤ _ by omega)
 rw [mz h hp hn] at hc
 obtain ⟨r1,r2⟩:=xI h fit hp hn
 have hs:=yj t (cV t p) fit.sh fit.sh2 r1 r2
 have d1:=bM t
 have d2:=bM (cV t p)
 generalize cV t p=R at *
 unfold bo at *
 dsimp only at hc
 (have zz:=aI @ah @ab; repeat' (first | refine zW ?_ | apply a_n | refine zO ?_ | refine vZ ?_ | refine cZ ?_ (hp:=by first | exact hc | exact hs) | refine alZ ?_ | refine stZ ?_ | refine gTZ ?_ | (refine zGZ ?_ ?_ <;> (intro _hg; try (exfalso; omega))) | refine aa rfl ?_ | refine r1Z ?_ | fail)) <;> (try clear zz)
 exact .bool _
theorem qi (t:TaskV) (fit:Fit t):Pure Tryz.prog 25 [bo t] (.tup [aA (wA t).1,.int .i64 (wA t).2]):=by
 refine Pure.of_c2 follows Ce (Nat.le_of_ble_eq_true rfl) ?_
 simp only [b25,cO,cG,cN,cM,cD,cF,cB,aw,aF]
 have hc:=iY t fit.sh fit.sh2
 have d1:=bM t
 unfold wA
 generalize hAA:[.int .i64 t.n,.int .i64 t.ins,.int .i64 t.outs,bb t.cases]=A
 have hTA:bo t=.agg A:=by rw [← hAA]; rfl
 rw [hTA] at hc d1 ⊢
 by_cases he:aB t=0
 rotate_left
 ·rw [if_pos he]
  generalize aB t=C at *
  subst hAA
  (have zz:=aI @ah @ab; repeat' (first | refine zW ?_ | apply a_n | apply a_r | refine zO ?_ | refine vZ ?_ | refine cZ ?_ (hp:=hc) | refine bxZ ?_ | (refine zGZ ?_ ?_ <;> (intro _hg; try (exfalso; omega))) | refine aa rfl ?_ | refine r2Z ?_ | fail)) <;> (try clear zz)
  exact x3 _
 rw [if_neg (fun h=>h he)]
 rw [he] at hc
 have nn:=eJ he
 have hall:=BS t.n.toNat (by omega) (by omega)
 rw [show ((t.n.toNat:Nat):Int)=t.n by omega] at hall
 have hpo:=mI t.n.toNat (by omega) (by omega)
 refine aN (fun T H nx=>T 1=.ptr 0 4 0∧H=ak aV 0 A∧nx=1) ?_ ?_
 ·subst hAA
  (have zz:=aI @ah @ab; repeat' (first | apply a_n | refine zO ?_ | refine vZ ?_ | refine bxZ ?_ | fail)) <;> (try clear zz)
  exact ⟨rfl,rfl,rfl⟩
 rintro T H _ ⟨t1,rfl,rfl⟩
 refine aN (fun T H nx=>T 1=.ptr 0 4 0∧H=ak aV 0 A∧nx=1) ?_ ?_
 ·subst hAA
  (have zz:=aI @t1 (aI @ah @ab); repeat' (first | refine zW ?_ | apply a_n | refine zO ?_ | refine vZ ?_ | refine cZ ?_ (hp:=hc) | (refine zGZ ?_ ?_ <;> (intro _hg; try (exfalso; omega))) | fail)) <;> (try clear zz)
  exact ⟨(have zz:=@t1; evZ),rfl,rfl⟩
 clear t1
 rintro T H _ ⟨t1,rfl,rfl⟩
 refine aN (fun T H nx=>T 1=.ptr 0 4 0∧T 5=aA (gV t.n.toNat)∧T 6=.int .i64 0∧H=ak aV 0 A∧nx=1) ?_ ?_
 ·subst hAA
  (have zz:=aI @t1 (aI @ah @ab); repeat' (first | apply a_n | refine zO ?_ | refine vZ ?_ | refine cZ ?_ (hp:=hall) | fail)) <;> (try clear zz)
  exact ⟨(have zz:=@t1; evZ),ev0,ev0,rfl,rfl⟩
 clear t1
 rintro T H _ ⟨t1,t5,t6,rfl,rfl⟩
 refine aN (fun T H nx=>T 1=.ptr 0 4 0∧T 5=aA (gV t.n.toNat)∧H=ak aV 0 A∧nx=1) ?_ ?_
 ·(have zz:=aI @t1 (aI @t5 @t6); repeat' (first | refine zW ?_ | apply a_n | refine zO ?_ | refine vZ ?_ | (refine zGZ ?_ ?_ <;> (intro _hg; try (exfalso; omega))) | fail)) <;> (try clear zz)
  exact ⟨(have zz:=@t1; evZ),(have zz:=@t5; evZ),rfl,rfl⟩
 clear t1 t5 t6
 rintro T H _ ⟨t1,t5,rfl,rfl⟩
 have dA:∀ x ∈ A,Dat x:=by
  rw [← hAA]
  exact DatL.cons .int (DatL.cons .int (DatL.cons .int (DatL.cons (ez _) DatL.nil)))
 have hk:=yi (gV t.n.toNat) (fun p=>decide (t=cV t p)) 78 [.iptr A 0] (DatL.cons (Dat.iptr dA) DatL.nil) (fun p hp=>by
  subst hAA
  obtain ⟨p1,p2⟩:=nG he hp
  exact AK t p fit he p1 p2) (by omega)
 have hAl:A.length=4:=by subst hAA; rfl
 refine cQ ?_
 refine j9 (only 0 A) (co (ak aV 0 A) 0) [(1,.iptr A 0),(5,aA (gV t.n.toNat))] (Fz.one au) ⟨.inr (by rw [t1]; exact da pH hAl (ar dA)),.inl t5,trivial⟩ ?_
 (have zz:=and_self; repeat' (first | apply a_n | refine zO ?_ | refine vY ?_ | fail)) <;> (try clear zz)
 refine b8 (have zz:=and_self; evY) (have zz:=and_self; evY) hk (ap (aq (aX _ _) (aq (cT (aq (Dat.iptr dA _) af)) af))) ?_
 (have zz:=and_self; repeat' (first | apply a_n | refine zO ?_ | refine vY ?_ | refine aa rfl ?_ | refine r2Y ?_ | fail)) <;> (try clear zz)
 exact di (aq (aX _ _) (aq (.int _ _) af))
end Go.Proofs.YtjgpfclngkcedaaGreat
namespace Go.Proofs.YtjgpfclngkcedaaGreat
open Go Go.Abs
open Nat (reduceEqDiff reduceAdd reduceLeDiff)
section
attribute [local irreducible] aD ag aS aP aH aJ ay aK aQ aZ Go.Abs.Fn aO Go.Abs.Pure al aC Yl
theorem so (H:Hp) (nx:Nat):Abs.Fn Tryz.prog 42 [.esl] H nx fun r H' nx'=>(r=.esl ∨ r=.msl nx 0 1 0 0)∧(H'=H∧nx'=nx ∨ H'=ak H nx []∧nx'=nx + 1):=by
 refine Abs.Fn.of_c2 follows wr (Nat.le_of_ble_eq_true rfl) ?_
 simp only [b42,cO,cG,cN,cM,cD,cF,cB,aw,aF]
 (have zz:=and_self; repeat' (first | refine zW ?_ | apply a_n | refine zO ?_ | refine vZ ?_ | fail)) <;> (try clear zz)
 refine kM (k:=0) (by ((try simp only [bq,ZA,reduceEqDiff,↓reduceIte,reduceAdd,reduceLeDiff]); (try with_reducible rfl)); rfl) (fun h=>by omega) (fun h=>?_) (fun h=>?_)
 ((all_goals (try have zz:=and_self)); (repeat' (first | refine zW ?_ | apply a_n | apply a_r | refine zO ?_ | refine vZ ?_ | refine b0Z ?_ | refine a0Z ?_ | refine cTZ ?_ | refine cFZ ?_ | refine aa rfl ?_ | refine r1Z ?_ | fail)); (all_goals (try clear zz)))
 all_goals first | exact ⟨.inl rfl,.inl ⟨rfl,rfl⟩⟩ | exact ⟨.inr rfl,.inr ⟨rfl,rfl⟩⟩
theorem rZ (H:Hp) (nx:Nat):Abs.Fn Tryz.prog 106 [.esl] H nx fun r H' nx'=>(r=.esl ∨ r=.msl nx 0 1 0 0)∧(H'=H∧nx'=nx ∨ H'=ak H nx []∧nx'=nx + 1):=by
 refine Abs.Fn.of_c2 follows xo (Nat.le_of_ble_eq_true rfl) ?_
 simp only [xZ,cO,cG,cN,cM,cD,cF,cB,aw,aF]
 (have zz:=and_self; repeat' (first | refine zW ?_ | apply a_n | refine zO ?_ | refine vZ ?_ | fail)) <;> (try clear zz)
 refine kM (k:=0) (by ((try simp only [bq,ZA,reduceEqDiff,↓reduceIte,reduceAdd,reduceLeDiff]); (try with_reducible rfl)); rfl) (fun h=>by omega) (fun h=>?_) (fun h=>?_)
 ((all_goals (try have zz:=and_self)); (repeat' (first | refine zW ?_ | apply a_n | apply a_r | refine zO ?_ | refine vZ ?_ | refine b0Z ?_ | refine a0Z ?_ | refine cTZ ?_ | refine cFZ ?_ | refine aa rfl ?_ | refine r1Z ?_ | fail)); (all_goals (try clear zz)))
 all_goals first | exact ⟨.inl rfl,.inl ⟨rfl,rfl⟩⟩ | exact ⟨.inr rfl,.inr ⟨rfl,rfl⟩⟩
end
def ctC:FuncId→List AV→Nat→Option AV:=fun g args nx=>match Nat.beq g 42 || Nat.beq g 106,args with
 | true,[.esl]=>some (.msl nx 0 1 0 0)
 | _,_=>none
theorem zx {g:Nat} {args:List AV} {H:Hp} {nx:Nat} {R:AV→Hp→Nat→Prop} (h:Abs.Fn Tryz.prog g args H nx fun r' H' nx'=>(r'=.esl ∨ r'=.msl nx 0 1 0 0)∧(H'=H∧nx'=nx ∨ H'=ak H nx []∧nx'=nx + 1)) (hR:R (.msl nx 0 1 0 0) (ak H nx []) (nx + 1)):Abs.Fn Tryz.prog g args H nx R :=
 ⟨h.1,fun E w vs h1 h2 h3 h4=>(h.2 E w vs h1 h2 h3 h4).mono fun e w' ⟨v,E',r',H',nx',k1,k2,k3,k4,k5,k6,a,b⟩=>by
  have hr:Rel E' w' (.msl nx 0 1 0 0) v:=by
   rcases a with rfl | rfl
   ·cases k6 with
    | eslnil=>exact .msl0 _ _ _ (.inl rfl)
    | esl a=>exact .msl0 _ _ _ (.inr ⟨a,rfl⟩)
   ·exact k6
  rcases b with ⟨rfl,rfl⟩ | ⟨rfl,rfl⟩
  ·exact ⟨v,E',_,_,_,k1,k2,k3,k4.virtual (k5 _ (Nat.le_refl _)),fun b hb=>k5 b (by omega),hr,hR⟩
  ·exact ⟨v,E',_,_,_,k1,k2,k3,k4,k5,hr,hR⟩⟩
def ctE (q:FuncId→List AV→Option AV):CT:=⟨ctC,q⟩
theorem zF (g:FuncId) (args:List AV) (nx:Nat) (r:AV) (h:ctC g args nx=some r) (H:Hp) (R:AV→Hp→Nat→Prop) (hR:R r (ak H nx []) (nx + 1)):Abs.Fn Tryz.prog g args H nx R:=by
 unfold ctC at h
 split at h
 ·rename_i hg
  cases h
  rcases Bool.or_eq_true _ _ |>.mp hg with hg | hg
  ·cases Nat.eq_of_beq_eq_true hg
   exact zx (so H nx) hR
  ·cases Nat.eq_of_beq_eq_true hg
   exact zx (rZ H nx) hR
 ·cases h
theorem iw {q:FuncId→List AV→Option AV} (hq:∀ (g:FuncId) (args:List AV) (r:AV),q g args=some r→Go.Abs.Pure Tryz.prog g args r):CTok Tryz.prog (ctE q):=⟨zF,hq⟩
def Cm:List (Nat × F2):=[(12,b12),(13,b13),(15,b15),(16,b16),(18,b18),(20,b20),(21,b21),(23,b23),(25,b25),(27,b27),(33,b33),(39,b39),(40,b40),(41,b41),(42,b42),(43,b43),(44,b44),(47,b47),(48,b48),(49,b49),(50,b50),(51,b51),(56,b56),(57,b57),(58,b58),(59,b59),(60,b60),(61,b61),(62,b62),(63,b63),(64,b64),(68,b68),(69,b69),(71,b71),(72,b72),(73,b73),(74,b74),(75,b75),(77,b77),(78,b78),(79,b79),(83,b83),(86,b86),(87,b87),(88,b88),(96,b96),(100,Aa),(101,AZ),(102,zS),(104,Bq),(106,xZ),(107,vM),(108,xJ),(109,Br),(110,Ay),(111,Ar),(112,yk),(113,Bf),(115,Ap),(116,As),(117,Ae),(118,zT),(119,xy),(120,AH),(121,AA),(126,zK),(127,Bc),(130,we),(131,zN),(132,AO),(133,zP),(134,z8),(135,Ab),(136,Aw),(137,zB),(138,zH),(139,BI),(140,yr),(141,Af),(142,AG),(143,AB),(144,AS),(145,A6),(149,wk),(150,A9),(151,zG),(152,zJ),(153,zY),(154,zQ),(155,AE),(156,Ax),(157,Aq),(158,z9),(159,Ba),(160,AW),(161,Ad),(162,zI),(163,Av),(165,A2),(166,A5),(167,A7),(168,Au),(169,zD)]
theorem lO:ju Tryz.prog (lookup Cm) :=
 (ae CD (ae B0 (ae Bm (ae CM (ae CV (ae Bj (ae CG (ae Al (ae Ce (ae Bt (ae BT (ae CI (ae Cd (ae Cp (ae wr (ae BU (ae B4 (ae CN (ae C7 (ae Cc (ae CK (ae Dc (ae CY (ae B9 (ae CW (ae CB (ae CH (ae BK (ae B8 (ae C9 (ae B3 (ae Ck (ae Db (ae BR (ae Ct (ae Bw (ae BH (ae BQ (ae BX (ae BE (ae Bg (ae Cb (ae B7 (ae Cy (ae Cq (ae BM (ae yK (ae yL (ae zy (ae CA (ae xo (ae sY (ae wj (ae Bx (ae yY (ae yO (ae wT (ae yS (ae yV (ae zg (ae yJ (ae zj (ae wu (ae y3 (ae zr (ae yZ (ae yB (ae th (ae zm (ae zt (ae yU (ae yC (ae y9 (ae yz (ae y7 (ae yA (ae BP (ae ww (ae zf (ae zd (ae zw (ae yw (ae yW (ae ue (ae zh (ae yG (ae zc (ae y4 (ae zv (ae yF (ae yE (ae zp (ae y6 (ae zn (ae y5 (ae yT (ae za (ae yR (ae yP (ae yx (ae yN (ae y8 (ae yy uM)))))))))))))))))))))))))))))))))))))))))))))))))))))))))))))))))))))))))))))))))))))))))))))))))))))))
def eI (n:Int):AV:=.int .i64 n
def eV (a b:Int):AV:=.sl 1 [eI a,eI b]
def eC (a b:Int) (o:List AV):AV:=.agg [eV a b,.sl 1 o,.esl]
def eT (o:Int) (l:List AV):AV:=.agg [eI 2,eI 2,eI o,.sl 3 l]
def e4:List AV:=[eV 0 0,eV 0 1,eV 1 0,eV 1 1]
def e2:List AV:=[eV 0 0,eV 1 1]
def eP:List AV:=[eV 0 0,eV 1 1,eV 2 2,eV 3 3]
def tA:AV:=eT 2 [eC 0 0 [eV 0 0],eC 0 1 e2,eC 1 0 e2,eC 1 1 [eV 1 1]]
def tB:AV:=eT 2 [eC 0 0 e4,eC 0 1 e4,eC 1 0 e4,eC 1 1 e4]
def tP:AV:=eT 4 [eC 0 0 [eV 0 0],eC 0 1 eP,eC 1 0 eP,eC 1 1 [eV 3 3]]
def pfE:FuncId→Bool:=zu [39,13,16,18,21,25,23,33,87,77]
theorem isV {v:AV} (r:AV) (h:eqA 60 r v=true):r=v:=sd _ _ _ h
set_option maxRecDepth 100000 in
theorem q1:Go.Abs.Pure Tryz.prog 39 [] (.tup [tA,tB]):=Pure.of_runC follows lO (iw fT) (pf:=pfE) (n:=2000) (by decide +kernel) isV
set_option maxRecDepth 100000 in
theorem q2:Go.Abs.Pure Tryz.prog 13 [tA,tB] (.tup [.esl,eI 0,.esl,.bool true,eI 0]):=Pure.of_runC follows lO (iw fT) (pf:=pfE) (n:=2000) (by decide +kernel) isV
set_option maxRecDepth 100000 in
theorem q3:Go.Abs.Pure Tryz.prog 13 [tB,tA] (.tup [eV 0 0,eI 0,eV 0 1,.bool false,eI 0]):=Pure.of_runC follows lO (iw fT) (pf:=pfE) (n:=2000) (by decide +kernel) isV
set_option maxRecDepth 100000 in
theorem q4:Go.Abs.Pure Tryz.prog 16 [tA,tB] (.tup [tA,eI 0]):=Pure.of_runC follows lO (iw fT) (pf:=pfE) (n:=2000) (by decide +kernel) isV
set_option maxRecDepth 100000 in
theorem q5:Go.Abs.Pure Tryz.prog 18 [tA,tB] (.tup [tB,eI 0]):=Pure.of_runC follows lO (iw fT) (pf:=pfE) (n:=2000) (by decide +kernel) isV
set_option maxRecDepth 100000 in
theorem q6:Go.Abs.Pure Tryz.prog 21 [tA,tA] (.tup [tP,eI 0]):=Pure.of_runC follows lO (iw fT) (pf:=pfE) (n:=2000) (by decide +kernel) isV
set_option maxRecDepth 100000 in
theorem q7:Go.Abs.Pure Tryz.prog 25 [tA] (.tup [.sl 1 [eV 0 1,eV 1 0],eI 0]):=Pure.of_runC follows lO (iw fT) (pf:=pfE) (n:=2000) (by decide +kernel) isV
set_option maxRecDepth 100000 in
theorem xK:Go.Abs.Pure Tryz.prog 12 [] (.bool true):=Pure.of_runC follows lO (iw (fw q1 (fw q2 (fw q3 (fw q4 (fw q5 (fw q6 (fw q7 fT)))))))) (pf:=pfE) (n:=2000) (good:=isTrue) (by decide +kernel) vD
end Go.Proofs.YtjgpfclngkcedaaGreat
namespace Go.Proofs.YtjgpfclngkcedaaGreat
open Go Go.Abs
open Nat (reduceEqDiff reduceAdd reduceLeDiff)
attribute [local irreducible] aD ag aS aP aH aJ ay aK aQ aZ Go.Abs.Fn aO Go.Abs.Pure al aC Yl
end Go.Proofs.YtjgpfclngkcedaaGreat
namespace Go.Proofs.YtjgpfclngkcedaaGreat
open Go Go.Abs
def ji (l:List TaskV):AV:=.sl 4 (l.map bo)
theorem rI {l:List TaskV}:cr (ji l)=some (.int .i64 l.length):=by simp [cr,ji]
theorem mG {l:List TaskV} {k:Nat} (h:k < l.length):fB 4 (ji l) (.int .i64 k)=some (.iptr [.int .i64 (l.getD k default).n,.int .i64 (l.getD k default).ins,.int .i64 (l.getD k default).outs,bb (l.getD k default).cases] 0):=by
 simp [fB,ji,h,List.getD,bo,AV.cells]
theorem pz {H:Hp} {b:Nat} {a c:TaskV} (hb:H b=some [.int .i64 a.n,.int .i64 a.ins,.int .i64 a.outs,bb a.cases,.int .i64 c.n,.int .i64 c.ins,.int .i64 c.outs,bb c.cases]):Snap H (.msl b 8 4 0 2) (ji [a,c]):=by
 have hr:Row H 4 (.msl b (2 * 4) 4 0 2) ([bo a,bo c].flatMap AV.cells):=Row.box b 2 _ (by simpa [bo,AV.cells] using hb) rfl
 refine Row.snap (elems:=[bo a,bo c]) hr (fun y hy=>?_) (by omega) (fun y hy d hd=>?_)
 ·simp at hy; rcases hy with rfl | rfl <;> rfl
 ·simp only [List.mem_cons,List.not_mem_nil,or_false] at hy
  rcases hy with rfl | rfl <;>
  ·simp only [bo,AV.cells,List.mem_cons,List.not_mem_nil,or_false] at hd
   rcases hd with rfl | rfl | rfl | rfl
   ·exact .int
   ·exact .int
   ·exact .int
   ·exact ez _
def Ok (t:TaskV):Prop:=Sh t.cases∧∀ c ∈ t.cases,ShC c
attribute [local irreducible] aD ag aS aP aH aJ ay aK aQ aZ Go.Abs.Fn aO Go.Abs.Pure al aC Yl
end Go.Proofs.YtjgpfclngkcedaaGreat
namespace Go.Proofs.YtjgpfclngkcedaaGreat
open Go Go.Abs
def jm (z t:TaskV):Bool:=ow t && decide (aB t=0) && decide (t.n=z.n)
def ml (l:List TaskV):Bool:=l.all (jm (l.getD 0 default))
attribute [local irreducible] aD ag aS aP aH aJ ay aK aQ aZ Go.Abs.Fn aO Go.Abs.Pure al aC Yl
theorem uq (l:List TaskV) (hl:l.length ≤ 100) (hs:∀ t ∈ l,Ok t):Pure Tryz.prog 28 [ji l] (.bool (ml l)):=by
 refine Pure.of_c2 follows C8 (Nat.le_of_ble_eq_true rfl) ?_
 simp only [b28,cO,cG,cN,cM,cD,cF,cB,aw,aF]
 have one:(ji l).one=true:=rfl
 (have zz:=@rI; repeat' (first | refine zW ?_ | apply a_n | refine zO ?_ | refine vY ?_ | fail)) <;> (try clear zz)
 refine a9 (X:=Nat) (fun k=>[(0,ji l),(5,ji l),(6,.int .i64 l.length),(7,.int .i64 k)]) (fun k H nx=>k ≤ l.length∧∀ i,i < k→jm (l.getD 0 default) (l.getD i default)=true) (fun k=>l.length - k) 0 ⟨Nat.zero_le _,fun i h=>absurd h (by omega)⟩ ag0 ?_
 rintro k H nx ⟨hk,hz⟩
 by_cases hk2:k < l.length
 rotate_left
 ·(have zz:=and_self; repeat' (first | refine zW ?_ | apply a_n | apply a_x | refine zO ?_ | refine vY ?_ | (refine zGY ?_ ?_ <;> (intro _hg; try (exfalso; omega))) | refine aa rfl ?_ | refine r1Y ?_ | fail)) <;> (try clear zz)
  rw [ml,mq fun i hi=>hz i (by omega)]
  exact .bool _
 have ix:=mG hk2
 have i0:fB 4 (ji l) (.int .i64 0)=_:=mG (k:=0) (by omega)
 obtain ⟨s1,s2⟩:=hs _ (ai hk2)
 have hf:=C4 (l.getD k default) s2 s1
 have hc:=AJ (l.getD k default) s2 s1
 have hbad:jm (l.getD 0 default) (l.getD k default)=false→ml l=false:=fun h=>iV hk2 h
 have hnext:jm (l.getD 0 default) (l.getD k default)=true→∀ i,i < k + 1→jm (l.getD 0 default) (l.getD i default)=true:=fun h i hi=>by
  rcases Nat.lt_succ_iff_lt_or_eq.1 hi with h' | rfl
  ·exact hz i h'
  ·exact h
 have d1:=bM (l.getD k default)
 generalize l.getD k default=t at *
 generalize l.getD 0 default=z at *
 unfold bo at hf d1 hc
 cases hb:ow t
 ·rw [hb] at hf
  rw [hbad (by simp [jm,hb])]
  (have zz:=aI @ix (aI @ah @ab); repeat' (first | refine zW ?_ | refine zM ?_ | apply a_n | apply a_r | refine zO ?_ | refine vY ?_ | refine cY ?_ (hp:=hf) | refine alY ?_ | refine stY ?_ | refine gFY ?_ | refine cTY ?_ | (refine zGY ?_ ?_ <;> (intro _hg; try (exfalso; omega))) | refine aa rfl ?_ | refine r1Y ?_ | fail)) <;> (try clear zz)
  exact .bool _
 rw [hb] at hf
 by_cases h0:aB t=0
 rotate_left
 ·have hne:decide (aB t ≠ 0)=true:=decide_eq_true h0
  rw [hbad (by simp [jm,h0])]
  (have zz:=aI @ix (aI @ah (aI @ab @hne)); repeat' (first | refine zW ?_ | refine zM ?_ | apply a_n | apply a_r | refine zO ?_ | refine vY ?_ | refine cY ?_ (hp:=by first | exact hf | exact hc) | refine alY ?_ | refine stY ?_ | refine gTY ?_ | refine gFY ?_ | refine cTY ?_ | (refine zGY ?_ ?_ <;> (intro _hg; try (exfalso; omega))) | refine aa rfl ?_ | refine r1Y ?_ | fail)) <;> (try clear zz)
  exact .bool _
 rw [h0] at hc
 have z0:decide ((0:Int) ≠ 0)=false:=rfl
 by_cases h1:t.n=z.n
 rotate_left
 ·have hne:decide (t.n ≠ z.n)=true:=decide_eq_true h1
  rw [hbad (by simp [jm,h1])]
  (have zz:=aI @ix (aI @i0 (aI @ah (aI @ab (aI @hne @z0)))); repeat' (first | refine zW ?_ | refine zM ?_ | apply a_n | apply a_r | refine zO ?_ | refine vY ?_ | refine cY ?_ (hp:=by first | exact hf | exact hc) | refine alY ?_ | refine stY ?_ | refine gTY ?_ | refine cTY ?_ | (refine zGY ?_ ?_ <;> (intro _hg; try (exfalso; omega))) | refine aa rfl ?_ | refine r1Y ?_ | fail)) <;> (try clear zz)
  exact .bool _
 have hne:decide (t.n ≠ z.n)=false:=decide_eq_false (fun h=>h h1)
 (have zz:=aI @ix (aI @i0 (aI @ah (aI @ab (aI @hne @z0)))); repeat' (first | refine zW ?_ | refine zM ?_ | apply a_n | refine zO ?_ | refine vY ?_ | refine cY ?_ (hp:=by first | exact hf | exact hc) | refine alY ?_ | refine stY ?_ | refine gTY ?_ | refine cFY ?_ | (refine zGY ?_ ?_ <;> (intro _hg; try (exfalso; omega))) | fail)) <;> (try clear zz)
 exact ⟨k + 1,by omega,⟨by omega,hnext (by simp [jm,hb,h0,h1])⟩,ag0⟩
end Go.Proofs.YtjgpfclngkcedaaGreat
namespace Go.Proofs.YtjgpfclngkcedaaGreat
open Go Go.Abs
def Stg (a b:TaskV):Prop:=∀ c ∈ b.cases,∃ x,eZ a c.inp=some x∧∀ f:Nat,f < 2 ^ a.n.toNat→∀ v ∈ bd x f,jO c f v=true
theorem A0 {a b:TaskV} (h:gU a b=none):Stg a b:=by
 intro c hc
 have hw:=List.findSome?_eq_none_iff.1 h c hc
 unfold jB at hw
 cases hf:eZ a c.inp with
 | none=>rw [hf] at hw; cases hw
 | some x =>
  rw [hf] at hw
  refine ⟨x,rfl,fun f hf2 v hv=>?_⟩
  have h2:=List.findSome?_eq_none_iff.1 hw f (List.mem_range.2 hf2)
  rw [Option.map_eq_none_iff,List.find?_eq_none] at h2
  have:=h2 v hv
  cases hm:jO c f v
  ·rw [hm] at this; exact absurd rfl this
  ·rfl
theorem AR {a b:TaskV} (h:Stg a b):gU a b=none:=by
 refine List.findSome?_eq_none_iff.2 fun c hc=>?_
 obtain ⟨x,hx,hv⟩:=h c hc
 unfold jB
 rw [hx]
 refine List.findSome?_eq_none_iff.2 fun f hf=>?_
 rw [Option.map_eq_none_iff,List.find?_eq_none]
 intro v hm
 rw [hv f (List.mem_range.1 hf) v hm]
 exact Bool.false_ne_true
theorem na {v w:List Int} {f:Int}:ce v w f=true ↔ ∀ p,p < v.length→rt (rV f p)=0→w.getD p default=v.getD p default:=by
 unfold ce
 rw [List.all_eq_true]
 refine ⟨fun h p hp h0=>?_,fun h p hp=>?_⟩
 ·have:=h p (List.mem_range.2 hp)
  by_cases e:w.getD p default=v.getD p default
  ·exact e
  ·rw [decide_eq_true h0,decide_eq_true e] at this; cases this
 ·have:=h p (List.mem_range.1 hp)
  by_cases h0:rt (rV f p)=0
  ·rw [decide_eq_true h0,decide_eq_false (fun k=>k (this h0))]; rfl
  ·rw [decide_eq_false h0]; rfl
theorem qv {c:CaseV} {f:Int} {v:List Int}:jO c f v=true ↔ ∃ w ∈ bd c f,ce w v f=true:=by
 unfold jO; rw [List.any_eq_true]
theorem ph {t:TaskV} {c:CaseV} {f:Int} (h:aB t=0) (hc:c ∈ t.cases) {v:List Int} (hv:v ∈ bd c f):(v.length:Int)=t.n:=(jG h hc v hv).1
theorem lM {a b:TaskV} (h:eH a b=0):∃ i f o,j8 (eB a b)=.tup [az i,.int .i64 f,az o,.bool (gU a b).isNone,.int .i64 0]:=by
 cases hw:gU a b with
 | none=>rw [gQ h hw]; exact ⟨_,_,_,rfl⟩
 | some w=>rw [kr h hw]; exact ⟨_,_,_,rfl⟩
end Go.Proofs.YtjgpfclngkcedaaGreat
namespace Go.Proofs.YtjgpfclngkcedaaGreat
open Go Go.Abs
theorem uG {c:CaseV} {f:Int} (h:1 ≤ c.out.length):1 ≤ (bd c f).length:=by
 unfold bd
 split
 ·rename_i k; exact k.2
 ·exact h
theorem lD {t:TaskV} (h:aB t=0):(1 ≤ t.n∧t.n ≤ 5∧1 ≤ t.ins∧t.ins ≤ 8∧1 ≤ t.outs∧t.outs ≤ 8)∧1 ≤ t.cases.length∧t.cases.length ≤ 1024:=by
 obtain ⟨c1,c2,c3⟩:=dU h
 exact ⟨by omega,by omega⟩
theorem wt {t:TaskV} (hp:1 ≤ t.n∧t.n ≤ 5∧1 ≤ t.ins∧t.ins ≤ 8∧1 ≤ t.outs∧t.outs ≤ 8) (hl:1 ≤ t.cases.length∧t.cases.length ≤ 1024) (hs:bw KC t.cases) (hi:t.cases.Pairwise fun c d=>c.inp ≠ d.inp) (hv:∀ c ∈ t.cases,a8 c.inp t.n t.ins=0∧bl t.n t.outs c=0):aB t=0:=by
 unfold aB
 rw [if_neg (by omega),if_neg (by omega)]
 have hinps:∀ k,k < (t.cases.map CaseV.inp).length→br (t.cases.map CaseV.inp) k=false:=by
  refine fg ?_ ?_
  ·unfold bw; rw [List.pairwise_map]; exact hs
  ·rw [List.nodup_iff_pairwise_ne,List.pairwise_map]; exact hi
 refine bv fun k hk=>?_
 have hm:=ai hk
 unfold dJ
 rw [hinps k (by rw [List.length_map]; exact hk),(hv _ hm).1,if_neg (by simp),if_neg (by simp),(hv _ hm).2]
theorem m9 {t:TaskV} (h:aB t=0):t.cases.Pairwise fun c d=>c.inp ≠ d.inp:=by
 rw [List.pairwise_iff_getElem]
 intro i j hi hj hij e
 have:=fA h j i hij hj
 rw [show t.cases.getD i default=t.cases[i] by simp [List.getD,hi],show t.cases.getD j default=t.cases[j] by simp [List.getD,hj],e,ci] at this
 omega
theorem qP {l:List CaseV} (h:l.Pairwise fun c d=>c.inp ≠ d.inp):l.Nodup:=List.nodup_iff_pairwise_ne.2 (List.Pairwise.imp (fun {a b} h e=>h (by rw [e])) h)
theorem tU {a b:TaskV} (ha:aB a=0) (hb:aB b=0) (h1:a.n=b.n) (h2:a.ins=b.ins) (h3:a.outs=b.outs) (h:∀ c,c ∈ a.cases ↔ c ∈ b.cases):a=b :=
 f8.2 ⟨h1,h2,h3,List.Perm.eq_of_pairwise (fun x y hx hy k1 k2=>qY ha hx ((h y).2 hy) (nD k2 k1)) (gP ha) (gP hb) ((List.perm_ext_iff_of_nodup (qP (m9 ha)) (qP (m9 hb))).2 h)⟩
section
variable {a b:TaskV} (ha:aB a=0) (hb:aB b=0) (hn:b.n=a.n) (fa:Fit30 a) (fb:Fit30 b)
include ha hb
include hn fa fb
end
section
variable {a b:TaskV} (ha:aB a=0) (hb:aB b=0) (hn:b.n=a.n)
include ha hb
include hn
end
end Go.Proofs.YtjgpfclngkcedaaGreat
namespace Go.Proofs.YtjgpfclngkcedaaGreat
open Go Go.Abs
theorem sS {a b:TaskV}:∃ (i:List Int) (f:Int) (o:List Int) (k:Bool) (e:Int),j8 (eB a b)=.tup [az i,.int .i64 f,az o,.bool k,.int .i64 e]:=⟨_,_,_,_,_,rfl⟩
theorem vj {a b:TaskV} (h:eH a b=0) (hs:Stg a b):j8 (eB a b)=.tup [az [],.int .i64 0,az [],.bool true,.int .i64 0]:=by rw [gQ h (AR hs)]; rfl
attribute [local irreducible] aD ag aS aP aH aJ ay aK aQ aZ Go.Abs.Fn aO Go.Abs.Pure al aC Yl
end Go.Proofs.YtjgpfclngkcedaaGreat
namespace Go.Proofs.YtjgpfclngkcedaaGreat
open Go Go.Abs
section
variable {v w:List Int} {m o:Int} (hv:∀ z ∈ v,0 ≤ z∧z < o) (hw:∀ z ∈ w,0 ≤ z∧z < m) (hl:v.length=w.length)
include hv hw hl
end
section
variable {a b:TaskV} (ha:aB a=0) (hb:aB b=0) (hn:b.n=a.n) (fa:Fit30 a) (fb:Fit30 b) (ho:a.outs * b.outs ≤ 8)
include ha
theorem a1 {c:CaseV} (hc:c ∈ a.cases) (f:Int):1 ≤ (bd c f).length:=uG (bL (dh ha hc).2).1.1
include hb hn fa fb ho
end
structure Part (a b t:TaskV) (to:List Int) (S:CaseV→CaseV→CaseV):Prop where
 n:t.n=a.n
 len:(to.length:Int)=a.outs * b.outs
 rng:∀ v ∈ to,0 ≤ v∧v < t.outs
 mem:∀ c ∈ a.cases,∀ d ∈ b.cases,c.inp=d.inp→S c d ∈ t.cases∧(S c d).inp=c.inp
 all:∀ e ∈ t.cases,∃ c ∈ a.cases,∃ d ∈ b.cases,c.inp=d.inp∧S c d=e
 out:∀ c ∈ a.cases,∀ d ∈ b.cases,c.inp=d.inp→fu ((yQ b.outs c.out d.out).map (b6 to))=(S c d).out
 calm:∀ c ∈ a.cases,∀ d ∈ b.cases,c.inp=d.inp→fu ((yQ b.outs (bd c 0) (bd d 0)).map (b6 to))=bd (S c d) 0
section
variable {a b t:TaskV} {to:List Int} {S:CaseV→CaseV→CaseV} (ha:aB a=0) (hb:aB b=0) (ht:aB t=0) (hn:b.n=a.n) (fa:Fit30 a) (fb:Fit30 b) (ft:Fit30 t) (ho:a.outs * b.outs ≤ 8) (hs:∀ c ∈ a.cases,∃ d ∈ b.cases,c.inp=d.inp) (P:Part a b t to S)
include P
include ht
include ha hb hs
include hn fa fb ho ft
end
section
variable {a b:TaskV} (ha:aB a=0) (hb:aB b=0) (hn:b.n=a.n) (hs:∀ c ∈ a.cases,∃ d ∈ b.cases,c.inp=d.inp) (hs2:∀ d ∈ b.cases,∃ c ∈ a.cases,c.inp=d.inp)
include ha hb hn hs
include hs2
end
end Go.Proofs.YtjgpfclngkcedaaGreat
namespace Go.Proofs.YtjgpfclngkcedaaGreat
open Go Go.Abs
theorem Fit.ok {t:TaskV} (h:Fit t):Ok t:=⟨h.sh2,h.sh⟩
attribute [local irreducible] aD ag aS aP aH aJ ay aK aQ aZ Go.Abs.Fn aO Go.Abs.Pure al aC Yl
end Go.Proofs.YtjgpfclngkcedaaGreat
namespace Go.Proofs.YtjgpfclngkcedaaGreat
open Go Go.Abs
theorem mA {to:List Int} {c:CaseV} {f:Int}:bd (j5 to c) f=fu ((bd c f).map (b6 to)):=by
 unfold bd j5
 dsimp only
 by_cases h:f=0∧0 < c.calm.length
 ·have hm:b6 to (c.calm.getD 0 default) ∈ fu (c.calm.map (b6 to)):=dI.2 (List.mem_map.2 ⟨_,ai h.2,rfl⟩)
  rw [if_pos h,if_pos ⟨h.1,List.length_pos_of_mem hm⟩]
 ·rw [if_neg h,if_neg]
  intro k
  refine h ⟨k.1,?_⟩
  have:=mi (l:=c.calm.map (b6 to))
  rw [List.length_map] at this
  omega
def uF (a:TaskV) (to:List Int):Prop:=(to.length:Int)=a.outs∧∀ v ∈ to,0 ≤ v∧v < 8
instance {a:TaskV} {to:List Int}:Decidable (uF a to):=by unfold uF; infer_instance
theorem jx {a:TaskV} {to:List Int} (h:aB a=0):bG a 8 to=if (to.length:Int) ≠ a.outs then (T00,15) else if to.any (fun v=>decide (v < 0 ∨ 8 ≤ v)) then (T00,2) else (oA a 8 to,0):=by
 unfold bG; rw [if_neg (fun k=>k h),if_neg (by omega)]
theorem xC {a:TaskV} {to v:List Int} (hg:uF a to) (hv:∀ z ∈ v,0 ≤ z∧z < a.outs):∀ z ∈ b6 to v,0 ≤ z∧z < 8:=fun z hz=>by
 unfold b6 at hz
 obtain ⟨x,hx,rfl⟩:=List.mem_map.1 hz
 have:=hv x hx
 have hl:=hg.1
 exact hg.2 _ (ai (by omega))
section
variable {a:TaskV} {to:List Int} (h:aB a=0) (hg:uF a to)
include h hg
theorem jQ:aB (oA a 8 to)=0:=by
 obtain ⟨p,l⟩:=lD h
 have hl:(oA a 8 to).cases.length=a.cases.length:=List.length_map ..
 refine wt ?_ (by omega) ?_ ?_ fun x hx=>?_
 ·show 1 ≤ a.n∧a.n ≤ 5∧1 ≤ a.ins∧a.ins ≤ 8∧(1:Int) ≤ 8∧(8:Int) ≤ 8
  omega
 ·show bw KC (a.cases.map (j5 to))
  unfold bw
  rw [List.pairwise_map]
  exact gP h
 ·show (a.cases.map (j5 to)).Pairwise _
  rw [List.pairwise_map]
  exact m9 h
 ·obtain ⟨c,hc,rfl⟩:=List.mem_map.1 hx
  obtain ⟨v1,w1⟩:=dh h hc
  obtain ⟨q1,q2,q3,q4,q5⟩:=bL w1
  have hm:b6 to (c.out.getD 0 default) ∈ fu (c.out.map (b6 to)):=dI.2 (List.mem_map.2 ⟨_,ai (by omega),rfl⟩)
  have hs:=mi (l:=c.out.map (b6 to))
  rw [List.length_map] at hs
  refine ⟨v1,lI ⟨List.length_pos_of_mem hm,by show (fu (c.out.map (b6 to))).length ≤ _; omega⟩ (fun v hv=>?_) (pb (m8 _)) (fun v hv=>?_) (pb (m8 _))⟩
  ·obtain ⟨w,hw,rfl⟩:=List.mem_map.1 (dI.1 hv)
   obtain ⟨g1,g2⟩:=gb (q2 w hw)
   exact nH (by rw [iO]; exact g1) (xC hg g2)
  ·obtain ⟨w,hw,rfl⟩:=List.mem_map.1 (dI.1 hv)
   exact dI.2 (List.mem_map.2 ⟨w,q4 w hw,rfl⟩)
theorem ri (fa:Fit30 a):Fit (oA a 8 to):=by
 have _:=h
 have _:=hg
 refine ⟨fun x hx=>?_,?_,fun x hx=>?_⟩
 ·obtain ⟨c,hc,rfl⟩:=List.mem_map.1 hx
  obtain ⟨g1,g2,g3,g4,g5⟩:=fa.sh c hc
  have l1:=fc (to:=to) (l:=c.out)
  have l2:=fc (to:=to) (l:=c.calm)
  have q:=fa.q c hc
  refine ⟨g1,show (fu (c.out.map (b6 to))).length ≤ _ by omega,fun v hv=>?_,show (fu (c.calm.map (b6 to))).length ≤ _ by omega,fun v hv=>?_⟩
  ·obtain ⟨w,hw,rfl⟩:=List.mem_map.1 (dI.1 hv)
   show (b6 to w).length ≤ _
   rw [iO]; exact g3 w hw
  ·obtain ⟨w,hw,rfl⟩:=List.mem_map.1 (dI.1 hv)
   show (b6 to w).length ≤ _
   rw [iO]; exact g5 w hw
 ·show (a.cases.map (j5 to)).length ≤ _
  rw [List.length_map]; have:=fa.len; omega
 ·obtain ⟨c,hc,rfl⟩:=List.mem_map.1 hx
  have l1:=fc (to:=to) (l:=c.out)
  have l2:=fc (to:=to) (l:=c.calm)
  have q:=fa.q c hc
  exact ⟨show (fu (c.out.map (b6 to))).length ≤ _ by omega,show (fu (c.calm.map (b6 to))).length ≤ _ by omega⟩
theorem wK {b:TaskV} (hb:aB b=0) (hn:b.n=a.n) (hs:Stg a b):Stg (oA a 8 to) (oA b 8 to):=by
 intro y hy
 obtain ⟨c,hc,rfl⟩:=List.mem_map.1 hy
 obtain ⟨x,hx,hv⟩:=hs c hc
 obtain ⟨xm,xi⟩:=jH hx
 have hm:j5 to x ∈ (oA a 8 to).cases:=List.mem_map.2 ⟨x,xm,rfl⟩
 have hf:=rJ (jQ h hg) hm
 refine ⟨j5 to x,by show eZ _ c.inp=_; rw [← xi]; exact hf,fun f hf2 v hvm=>?_⟩
 rw [mA] at hvm
 obtain ⟨u,hu,rfl⟩:=List.mem_map.1 (dI.1 hvm)
 obtain ⟨w,hw,ha⟩:=qv.1 (hv f hf2 u hu)
 refine qv.2 ⟨b6 to w,by rw [mA]; exact dI.2 (List.mem_map.2 ⟨w,hw,rfl⟩),na.2 fun p hp h0=>?_⟩
 rw [iO] at hp
 have l1:=ph h xm hu
 have l2:=ph hb hc hw
 rw [qB (by omega),qB hp,na.1 ha p hp h0]
end
theorem rF {l:List Int} (h1:1 ≤ l.length∧l.length ≤ 5) (h2:∀ i,i < l.length→0 ≤ l.getD i default∧l.getD i default < l.length) (h3:∀ i j,i < j→j < l.length→l.getD i default ≠ l.getD j default):bF l=0:=by
 unfold bF
 rw [if_neg (by omega)]
 refine bv fun i hi=>?_
 unfold oW
 rw [if_neg (by have:=h2 i hi; omega),if_neg]
 rw [List.any_eq_true]
 rintro ⟨x,hx,e⟩
 obtain ⟨j,hj,rfl⟩:=List.getElem_of_mem hx
 rw [List.length_take] at hj
 have e:=of_decide_eq_true e
 rw [List.getElem_take] at e
 refine h3 j i (by omega) hi ?_
 rw [← e]
 simp [List.getD,show j < l.length by omega]
theorem ng {n:Nat} {p:List Int} (hl:p.length=n) (hr:∀ i,i < p.length→0 ≤ p.getD i default∧p.getD i default < p.length) (hd:∀ i j,i < j→j < p.length→p.getD i default ≠ p.getD j default):∀ k b,b.length + k=n→b=p.take b.length→p ∈ ea n k b
 | 0,b,h1,h2=>by
  rw [List.take_of_length_le (by omega)] at h2
  rw [h2]
  exact List.mem_singleton.2 rfl
 | k + 1,b,h1,h2=>by
  have hlt:b.length < p.length:=by omega
  have hq:=hr _ hlt
  have hcast:((p.getD b.length default).toNat:Int)=p.getD b.length default:=Int.toNat_of_nonneg hq.1
  refine List.mem_flatMap.2 ⟨(p.getD b.length default).toNat,List.mem_range.2 (by omega),?_⟩
  rw [hcast,if_neg]
  ·refine ng hl hr hd k _ (by rw [List.length_append,List.length_singleton]; omega) ?_
   rw [List.length_append,List.length_singleton,cI hlt,← h2]
  ·intro hm
   obtain ⟨i,hi,e⟩:=List.getElem_of_mem hm
   refine hd i b.length hi hlt ?_
   rw [← e]
   have:b[i]=(p.take b.length)[i]'(by rw [List.length_take]; omega):=by congr 1
   rw [this,List.getElem_take]
   simp [List.getD,show i < p.length by omega]
theorem po {p:List Int} (hp:bF p=0):p ∈ gV p.length:=by
 obtain ⟨p1,p2,p3,p4⟩:=cX hp
 exact ng rfl p3 p4 _ _ (by simp) rfl
theorem nJ {n:Nat} (h1:1 ≤ n) (h5:n ≤ 5):bF (idL n)=0 :=
 rF (by rw [dN]; omega) (fun i hi=>by rw [dN] at hi ⊢; rw [mc hi]; omega) fun i j hij hj=>by rw [dN] at hj; rw [mc hj,mc (by omega)]; omega
def ef (p q:List Int):List Int:=q.map fun x=>p.getD x.toNat default
theorem b7 {p q:List Int}:(ef p q).length=q.length:=by simp [ef]
theorem iX {p q:List Int} {i:Nat} (h:i < q.length):(ef p q).getD i default=p.getD (q.getD i default).toNat default:=by simp [ef,List.getD,h]
section
variable {p q:List Int} (hp:bF p=0) (hq:bF q=0) (hl:q.length=p.length)
include hp hq hl
theorem gy:bF (ef p q)=0:=by
 obtain ⟨p1,p2,p3,p4⟩:=cX hp
 obtain ⟨q1,q2,q3,q4⟩:=cX hq
 refine rF (by rw [b7]; omega) (fun i hi=>?_) fun i j hij hj=>?_
 ·rw [b7] at hi ⊢
  rw [iX hi,hl]
  have:=q3 i hi
  exact p3 _ (by omega)
 ·rw [b7] at hj
  rw [iX hj,iX (by omega)]
  have a1:=q3 i (by omega)
  have a2:=q3 j hj
  have a3:=q4 i j hij hj
  rcases Nat.lt_trichotomy (q.getD i default).toNat (q.getD j default).toNat with h | h | h
  ·exact p4 _ _ h (by omega)
  ·omega
  ·exact fun e=>p4 _ _ h (by omega) e.symm
theorem jJ {v:List Int} (hv:v.length=p.length):bQ v (ef p q)=bQ (bQ v q) p:=by
 have hc:=gy hp hq hl
 obtain ⟨q1,q2,q3,q4⟩:=cX hq
 obtain ⟨c1,c2,c3,c4⟩:=cX hc
 rw [b7] at c3
 refine List.ext_getElem (by rw [bx,bx,bx]) fun i h1 h2=>?_
 rw [bx] at h1
 obtain ⟨j,hj,e⟩:=oV hc (q:=i) (by rw [b7]; omega)
 rw [b7] at hj
 have e1:=ey hc (v:=v) (by rw [b7]; omega) (i:=j) (by rw [b7]; exact hj)
 have hqj:=q3 j hj
 have e2:=ey hp (v:=bQ v q) (by rw [bx]; exact hv) (i:=(q.getD j default).toNat) (by omega)
 have e3:=ey hq (v:=v) (by omega) (i:=j) hj
 rw [e3,← iX hj,← e1,e,Int.toNat_natCast] at e2
 simpa [List.getD,h2,show i < (bQ v (ef p q)).length by rw [bx]; exact h1] using e2.symm
theorem lv {l:List (List Int)} (h:∀ v ∈ l,v.length=p.length) (hu:∀ i,i < l.length→br l i=false):bS l (ef p q)=bS (bS l q) p:=by
 have m1:=fo hq (l:=l) (fun v hv=>by rw [h v hv,hl]) hu
 refine nf (fm (fo (gy hp hq hl) (fun v hv=>by rw [b7,hl]; exact h v hv) hu).2) (fm (fo hp (fun v hv=>?_) m1.2).2) fun x=>?_
 ·obtain ⟨w,hw,rfl⟩:=cE.1 hv
  rw [bx]; exact h w hw
 ·rw [cE,cE]
  constructor
  ·rintro ⟨v,hv,rfl⟩
   exact ⟨bQ v q,cE.2 ⟨v,hv,rfl⟩,(jJ hp hq hl (h v hv)).symm⟩
  ·rintro ⟨w,hw,rfl⟩
   obtain ⟨v,hv,rfl⟩:=cE.1 hw
   exact ⟨v,hv,jJ hp hq hl (h v hv)⟩
theorem o7 {t:TaskV} (h:aB t=0) (hn:(p.length:Int)=t.n) {c:CaseV} (hc:c ∈ t.cases):fC (ef p q) c=fC p (fC q c):=by
 obtain ⟨l1,l2,l3⟩:=gZ h hn hc
 obtain ⟨g1,g2,g3,g4,g5⟩:=bL (dh h hc).2
 unfold fC
 dsimp only
 rw [jJ hp hq hl l1,lv hp hq hl l2 g3,lv hp hq hl l3 g5]
theorem uJ {t:TaskV} (h:aB t=0) (hn:(p.length:Int)=t.n):cV t (ef p q)=cV (cV t q) p:=by
 have hnq:(q.length:Int)=t.n:=by omega
 refine tU (gR h (gy hp hq hl) (by rw [b7]; exact hnq)) (gR (gR h hq hnq) hp hn) rfl rfl rfl fun c=>?_
 rw [iQ,iQ]
 constructor
 ·rintro ⟨d,hd,rfl⟩
  exact ⟨fC q d,iQ.2 ⟨d,hd,rfl⟩,(o7 hp hq hl h hn hd).symm⟩
 ·rintro ⟨e,he,rfl⟩
  obtain ⟨d,hd,rfl⟩:=iQ.1 he
  exact ⟨d,hd,o7 hp hq hl h hn hd⟩
end
section
variable {t:TaskV} (h:aB t=0)
include h
theorem nI {n:Nat} (h1:1 ≤ n) (h5:n ≤ 5) {v:List Int} (hv:v.length=n):bQ v (idL n)=v:=by
 have _:=h
 have hp:=nJ h1 h5
 refine List.ext_getElem (bx _ _) fun i k1 k2=>?_
 have e:=ey hp (v:=v) (by rw [dN]; exact hv) (i:=i) (by rw [dN]; omega)
 rw [mc (by omega),Int.toNat_natCast] at e
 simpa [List.getD,k1,k2] using e
theorem xV:cV t (idL t.n.toNat)=t:=by
 have nn:=eJ h
 have hp:=nJ (n:=t.n.toNat) (by omega) (by omega)
 have hl:((idL t.n.toNat).length:Int)=t.n:=by rw [dN]; omega
 have hc:∀ c ∈ t.cases,fC (idL t.n.toNat) c=c:=fun c hc=>by
  obtain ⟨l1,l2,l3⟩:=gZ h hl hc
  rw [dN] at l1 l2 l3
  obtain ⟨g1,g2,g3,g4,g5⟩:=bL (dh h hc).2
  have key:∀ {l:List (List Int)},(∀ v ∈ l,v.length=t.n.toNat)→(∀ i,i < l.length→br l i=false)→bS l (idL t.n.toNat)=l:=fun {l} k1 k2=>by
   refine nf (fm (fo hp (fun v hv=>by rw [dN]; exact k1 v hv) k2).2) (fm k2) fun x=>?_
   rw [cE]
   constructor
   ·rintro ⟨v,hv,rfl⟩
    rw [nI h (by omega) (by omega) (k1 v hv)]; exact hv
   ·intro hx
    exact ⟨x,hx,nI h (by omega) (by omega) (k1 x hx)⟩
  unfold fC
  rw [nI h (by omega) (by omega) l1,key l2 g3,key l3 g5]
 refine tU (gR h hp hl) h rfl rfl rfl fun c=>?_
 rw [iQ]
 constructor
 ·rintro ⟨d,hd,rfl⟩
  rw [hc d hd]; exact hd
 ·intro hm
  exact ⟨c,hm,hc c hm⟩
theorem xH:idL t.n.toNat ∈ gN t:=by
 have nn:=eJ h
 have hp:=nJ (n:=t.n.toNat) (by omega) (by omega)
 have hm:=po hp
 rw [dN] at hm
 exact List.mem_filter.2 ⟨hm,decide_eq_true (xV h).symm⟩
theorem er {p:List Int} (hp:p ∈ gN t):bF p=0∧(p.length:Int)=t.n∧cV t p=t:=by
 obtain ⟨h1,h2⟩:=List.mem_filter.1 hp
 obtain ⟨h3,h4⟩:=nG h h1
 exact ⟨h3,h4,(of_decide_eq_true h2).symm⟩
theorem ux {p q:List Int} (hp:p ∈ gN t) (hq:q ∈ gN t):ef p q ∈ gN t:=by
 obtain ⟨p1,p2,p3⟩:=er h hp
 obtain ⟨q1,q2,q3⟩:=er h hq
 have hl:q.length=p.length:=by omega
 have hc:=gy p1 q1 hl
 refine List.mem_filter.2 ⟨?_,?_⟩
 ·have:=po hc
  rwa [b7,show q.length=t.n.toNat by omega] at this
 ·rw [uJ p1 q1 hl h p2,q3,p3]
  exact decide_eq_true rfl
end
end Go.Proofs.YtjgpfclngkcedaaGreat
namespace Go.Proofs.YtjgpfclngkcedaaGreat
open Go Go.Abs
open Nat (reduceEqDiff reduceAdd reduceLeDiff)
theorem xa {k:Nat}:idL (k + 1)=idL k ++ [(k:Int)]:=by unfold idL; rw [List.range_succ,List.map_append]; rfl
theorem xF {t:TaskV} (h:aB t=0):wA t=(gN t,0):=by unfold wA; rw [if_neg (fun k=>k h)]
attribute [local irreducible] aD ag aS aP aH aJ ay aK aQ aZ Go.Abs.Fn aO Go.Abs.Pure al aC Yl
theorem BN (n:Nat) (hn:n ≤ 1000):Pure Tryz.prog 32 [.int .i64 n] (az (idL n)):=by
 refine Pure.of_c2 follows CS (Nat.le_of_ble_eq_true rfl) ?_
 simp only [b32,cO,cG,cN,cM,cD,cF,cB,aw,aF]
 (have zz:=and_self; repeat' (first | refine zW ?_ | apply a_n | refine zO ?_ | refine vZ ?_ | fail)) <;> (try clear zz)
 refine a9 (X:=AV × Nat) (fun x=>[(0,.int .i64 n),(3,x.1),(4,.int .i64 x.2)]) (fun x H nx=>x.2 ≤ n∧Row H 1 x.1 ((idL x.2).map (AV.int .i64))∧∀ b,eK x.1=some b→b < nx) (fun x=>n - x.2) (.esl,0) ⟨Nat.zero_le _,Row.nil,fun b hb=>(by cases hb)⟩ ag0 ?_
 rintro ⟨s,j⟩ H nx ⟨h1,h2,h3⟩
 dsimp only at h1 h2 h3 ⊢
 by_cases hj:j < n
 rotate_left
 ·obtain rfl:j=n:=by omega
  (have zz:=@h1; repeat' (first | refine zW ?_ | apply a_n | apply a_x | refine zO ?_ | refine vY ?_ | (refine zGY ?_ ?_ <;> (intro _hg; try (exfalso; omega))) | refine aa rfl ?_ | refine r1Y ?_ | fail)) <;> (try clear zz)
  exact h2.snapI
 have hl:((idL j).map (AV.int .i64)).length=j:=by rw [List.length_map,dN]
 (have zz:=@h1; repeat' (first | refine zW ?_ | apply a_n | refine zO ?_ | refine vY ?_ | refine blY ?_ | (refine zGY ?_ ?_ <;> (intro _hg; try (exfalso; omega))) | fail)) <;> (try clear zz)
 refine lB rfl ev0 (h2.same fun b hb=>?_) ev0 oL rfl rfl Nat.one_pos (by omega) (by omega) ?_
 ·have:=h3 b hb
  rw [ao (by omega)]
 rintro s2 E e hrow hle1 hle2 hsame hb2
 (have zz:=and_self; repeat' (first | apply a_n | refine zO ?_ | refine vZ ?_ | fail)) <;> (try clear zz)
 refine ⟨(s2,j + 1),by dsimp only; omega,⟨by dsimp only; omega,?_,fun b hb=>?_⟩,ag0⟩
 ·dsimp only
  rw [xa,List.map_append]
  exact hrow
 ·rcases hb2 b hb with h | h
  ·have:=h3 b h; omega
  ·omega
theorem wo (x y:List Int) (hx:Sh x) (hy:Sh y):Pure Tryz.prog 85 [az x,az y] (.bool (decide (x=y))):=by
 refine Pure.of_c2 follows CE (Nat.le_of_ble_eq_true rfl) ?_
 simp only [b85,cO,cG,cN,cM,cD,cF,cB,aw,aF]
 have hx':x.length ≤ 17592186044416:=hx
 have hy':y.length ≤ 17592186044416:=hy
 by_cases hlen:x.length=y.length
 rotate_left
 ·have z:decide ((x.length:Int) ≠ y.length)=true:=decide_eq_true (by omega)
  rw [decide_eq_false (fun e=>hlen (by rw [e]))]
  (have zz:=@z; repeat' (first | refine zW ?_ | apply a_n | apply a_r | refine zO ?_ | refine vZ ?_ | refine cTZ ?_ | refine aa rfl ?_ | refine r1Z ?_ | fail)) <;> (try clear zz)
  exact .bool _
 have z:decide ((x.length:Int) ≠ y.length)=false:=decide_eq_false (by omega)
 (have zz:=@z; repeat' (first | refine zW ?_ | apply a_n | refine zO ?_ | refine vZ ?_ | refine cFZ ?_ | fail)) <;> (try clear zz)
 refine jt (fun k=>[(0,az x),(1,az y),(5,.int .i64 k)]) x.length (fun k=>x.getD k default=y.getD k default) ag0 ?_
 intro k hk hz
 by_cases hk2:k < x.length
 rotate_left
 ·(have zz:=and_self; repeat' (first | refine zW ?_ | apply a_n | apply a_x | refine zO ?_ | refine vZ ?_ | (refine zGZ ?_ ?_ <;> (intro _hg; try (exfalso; omega))) | refine aa rfl ?_ | refine r1Z ?_ | fail)) <;> (try clear zz)
  refine bD ?_
  symm; rw [decide_eq_true_iff]
  refine List.ext_getElem hlen fun i h3 h4=>?_
  have:=hz i (by omega)
  simpa [List.getD,h3,h4] using this
 by_cases he:x.getD k default=y.getD k default
 ·have z2:decide (x.getD k default ≠ y.getD k default)=false:=decide_eq_false (fun h=>h he)
  (have zz:=@z2; repeat' (first | refine zW ?_ | apply a_n | refine zO ?_ | refine vZ ?_ | refine cFZ ?_ | (refine zGZ ?_ ?_ <;> (intro _hg; try (exfalso; omega))) | fail)) <;> (try clear zz)
  exact ⟨hk2,he,ag0,rfl,rfl⟩
 ·have z2:decide (x.getD k default ≠ y.getD k default)=true:=decide_eq_true he
  rw [decide_eq_false (p:=x=y) (fun e=>he (by rw [e]))]
  (have zz:=@z2; repeat' (first | refine zW ?_ | apply a_n | apply a_r | refine zO ?_ | refine vZ ?_ | refine cTZ ?_ | (refine zGZ ?_ ?_ <;> (intro _hg; try (exfalso; omega))) | refine aa rfl ?_ | refine r1Z ?_ | fail)) <;> (try clear zz)
  exact .bool _
theorem xR (l:List (List Int)) (v:List Int) (hl:Sh l) (hs:∀ x ∈ l,Sh x) (hv:Sh v):Pure Tryz.prog 31 [aA l,az v] (.bool (decide (v ∈ l))):=by
 refine Pure.of_c2 follows CU (Nat.le_of_ble_eq_true rfl) ?_
 simp only [b31,cO,cG,cN,cM,cD,cF,cB,aw,aF]
 have hl':l.length ≤ 17592186044416:=hl
 (have zz:=and_self; repeat' (first | refine zW ?_ | apply a_n | refine zO ?_ | refine vZ ?_ | fail)) <;> (try clear zz)
 refine jt (fun k=>[(0,aA l),(1,az v),(5,.int .i64 k)]) l.length (fun k=>l.getD k default ≠ v) ag0 ?_
 intro k hk hz
 by_cases hk2:k < l.length
 rotate_left
 ·(have zz:=and_self; repeat' (first | refine zW ?_ | apply a_n | apply a_x | refine zO ?_ | refine vZ ?_ | (refine zGZ ?_ ?_ <;> (intro _hg; try (exfalso; omega))) | refine aa rfl ?_ | refine r1Z ?_ | fail)) <;> (try clear zz)
  refine bD ?_
  symm; rw [decide_eq_false_iff_not]
  intro hm
  obtain ⟨i,hi,e⟩:=List.getElem_of_mem hm
  exact hz i (by omega) (by simpa [List.getD,hi] using e)
 have hc:=wo (l.getD k default) v (hs _ (ai hk2)) hv
 by_cases he:l.getD k default=v
 ·rw [decide_eq_true he] at hc
  rw [decide_eq_true (show v ∈ l from he ▸ ai hk2)]
  (have zz:=and_self; repeat' (first | refine zW ?_ | apply a_n | apply a_r | refine zO ?_ | refine vZ ?_ | refine cZ ?_ (hp:=hc) | refine cTZ ?_ | (refine zGZ ?_ ?_ <;> (intro _hg; try (exfalso; omega))) | refine aa rfl ?_ | refine r1Z ?_ | fail)) <;> (try clear zz)
  exact .bool _
 ·rw [decide_eq_false he] at hc
  (have zz:=and_self; repeat' (first | refine zW ?_ | apply a_n | refine zO ?_ | refine vZ ?_ | refine cZ ?_ (hp:=hc) | refine cFZ ?_ | (refine zGZ ?_ ?_ <;> (intro _hg; try (exfalso; omega))) | fail)) <;> (try clear zz)
  exact ⟨hk2,he,ag0,rfl,rfl⟩
theorem sq (p q:List Int) (hp:bF p=0) (hq:bF q=0) (hl:q.length=p.length):Pure Tryz.prog 89 [az p,az q] (az (ef p q)):=by
 obtain ⟨q1,q2,q3,q4⟩:=cX hq
 refine Pure.of_c2 follows CR (Nat.le_of_ble_eq_true rfl) ?_
 simp only [b89,cO,cG,cN,cM,cD,cF,cB,aw,aF]
 have hz:a7 (.agg [.int .i64 0]) q.length=((List.range q.length).map fun i=>if i < 0 then p.getD (q.getD i default).toNat default else (idL q.length).map (fun _=>(0:Int)) |>.getD i default).map (AV.int .i64):=by
  refine List.ext_getElem (by simp [a7,AV.cells]) fun i h1 h2=>?_
  simp [a7,AV.cells] at h1
  simp [a7,AV.cells,List.getD,dN,h1]
 (have zz:=and_self; repeat' (first | refine zW ?_ | apply a_n | refine zO ?_ | refine vZ ?_ | fail)) <;> (try clear zz)
 refine y1 rfl ev0 ev0 (by omega) (by omega) (by omega) (by omega) ?_
 rw [Int.toNat_natCast,hz]
 generalize hZ:(idL q.length).map (fun _=>(0:Int))=Z
 have hZl:Z.length=q.length:=by rw [← hZ,List.length_map,dN]
 (have zz:=and_self; repeat' (first | refine zW ?_ | apply a_n | refine zO ?_ | refine vZ ?_ | fail)) <;> (try clear zz)
 refine a9 (X:=Nat) (fun k=>[(0,az p),(5,.msl 0 q.length 1 0 q.length),(11,az q),(12,.int .i64 q.length),(13,.int .i64 k)]) (fun k H nx=>k ≤ q.length∧H=ak aV 0 (((List.range q.length).map fun i=>if i < k then p.getD (q.getD i default).toNat default else Z.getD i default).map (AV.int .i64))∧nx=1) (fun k=>q.length - k) 0 ⟨Nat.zero_le _,rfl,rfl⟩ (by simp (disch:=omega) only [agr,ZG,reduceEqDiff,↓reduceIte,Nat.mul_one]) ?_
 rintro k H nx ⟨hk,rfl,rfl⟩
 by_cases hk2:k < q.length
 ·have hr:=q3 k hk2
  have hst:(((List.range q.length).map fun i=>if i < k then p.getD (q.getD i default).toNat default else Z.getD i default).set k (p.getD (q.getD k default).toNat default))=(List.range q.length).map fun i=>if i < k + 1 then p.getD (q.getD i default).toNat default else Z.getD i default:=by
   refine List.ext_getElem (by simp) fun i h1 h2=>?_
   simp only [List.getElem_set,List.getElem_map,List.getElem_range]
   by_cases hik:k=i
   ·subst hik; rw [if_pos rfl,if_pos (by omega)]
   ·rw [if_neg hik]
    by_cases h3:i < k
    ·rw [if_pos h3,if_pos (by omega)]
    ·rw [if_neg h3,if_neg (by omega)]
  have hll:((List.range q.length).map fun i=>if i < k then p.getD (q.getD i default).toNat default else Z.getD i default).length=q.length:=by simp
  have hlm:=dE (f:=AV.int .i64) (l:=(List.range q.length).map fun i=>if i < k then p.getD (q.getD i default).toNat default else Z.getD i default) (k:=k) (x:=p.getD (q.getD k default).toNat default) (by omega)
  have hpl:((q.getD k default).toNat:Int) < p.length:=by omega
  generalize hL:((List.range q.length).map fun i=>if i < k then p.getD (q.getD i default).toNat default else Z.getD i default)=L at hst hll hlm ⊢
  (have zz:=and_self; repeat' (first | refine zW ?_ | apply a_n | refine zO ?_ | refine vZ ?_ | refine stZ ?_ | (refine zGZ ?_ ?_ <;> (intro _hg; try (exfalso; omega))) | fail)) <;> (try clear zz)
  refine ⟨k + 1,by omega,⟨by omega,?_,rfl⟩,ag0⟩
  rw [an,hlm,hst]
 ·obtain rfl:k=q.length:=by omega
  have e:ef p q=(List.range q.length).map fun i=>if i < q.length then p.getD (q.getD i default).toNat default else Z.getD i default:=by
   refine List.ext_getElem (by simp [ef]) fun i h1 h2=>?_
   rw [b7] at h1
   simp [ef,List.getD,h1]
  (have zz:=and_self; repeat' (first | refine zW ?_ | apply a_n | apply a_x | refine zO ?_ | refine vZ ?_ | (refine zGZ ?_ ?_ <;> (intro _hg; try (exfalso; omega))) | refine aa rfl ?_ | refine r1Z ?_ | fail)) <;> (try clear zz)
  rw [e]
  exact jW au rfl (by simp)
theorem uR (p q:List Int) (hp:bF p=0) (hq:bF q=0) (hl:q.length=p.length):Pure Tryz.prog 34 [az p,az q] (.tup [az (ef p q),.int .i64 0]):=by
 obtain ⟨p1,p2,-,-⟩:=cX hp
 have h1:=fK p (show p.length ≤ _ by omega)
 have h2:=fK q (show q.length ≤ _ by omega)
 have h3:=sq p q hp hq hl
 rw [hp] at h1
 rw [hq] at h2
 have z:decide ((p.length:Int) ≠ q.length)=false:=decide_eq_false (by omega)
 refine Pure.of_c2 follows Da (Nat.le_of_ble_eq_true rfl) ?_
 simp only [b34,cO,cG,cN,cM,cD,cF,cB,aw,aF]
 (have zz:=@z; repeat' (first | refine zW ?_ | apply a_n | refine zO ?_ | refine vZ ?_ | refine cZ ?_ (hp:=by first | exact h1 | exact h2 | exact h3) | refine cFZ ?_ | (refine zGZ ?_ ?_ <;> (intro _hg; try (exfalso; omega))) | refine aa rfl ?_ | refine r2Z ?_ | fail)) <;> (try clear zz)
 exact di (aq (aU _ _) (aq (.int _ _) af))
theorem r7 (t:TaskV) (to:List Int) (fit:Fit t) (hto:Sh to) (h:aB t=0) (hl:(to.length:Int) ≠ t.outs):Pure Tryz.prog 23 [bo t,.int .i64 8,az to] (.tup [bo T00,.int .i64 15]):=by
 refine Pure.of_c2 follows Al (Nat.le_of_ble_eq_true rfl) ?_
 simp only [b23,cO,cG,cN,cM,cD,cF,cB,aw,aF]
 have hto':to.length ≤ 17592186044416:=hto
 have hc:=iY t fit.sh fit.sh2
 have d1:=bM t
 rw [h] at hc
 have z:decide ((to.length:Int) ≠ t.outs)=true:=decide_eq_true hl
 unfold bo at hc d1
 rw [show bo t=.agg [.int .i64 t.n,.int .i64 t.ins,.int .i64 t.outs,bb t.cases] from rfl]
 (have zz:=aI @ah (aI @ab @z); repeat' (first | refine zW ?_ | apply a_n | apply a_r | refine zO ?_ | refine vZ ?_ | refine cZ ?_ (hp:=hc) | refine alZ ?_ | refine bxZ ?_ | refine stZ ?_ | refine gTZ ?_ | refine cTZ ?_ | (refine zGZ ?_ ?_ <;> (intro _hg; try (exfalso; omega))) | refine aa rfl ?_ | refine r2Z ?_ | fail)) <;> (try clear zz)
 all_goals exact fi _
theorem mU (t:TaskV) (to:List Int) (fit:Fit t) (hto:Sh to) (h:aB t=0):Pure Tryz.prog 23 [bo t,.int .i64 8,az to] (.tup [bo (bG t 8 to).1,.int .i64 (bG t 8 to).2]):=by
 by_cases hl:(to.length:Int)=t.outs
 ·obtain ⟨p,-⟩:=lD h
  exact vh t 8 to fit (by omega)
 ·rw [jx h,if_pos hl]
  exact r7 t to fit hto h hl
end Go.Proofs.YtjgpfclngkcedaaGreat
namespace Go.Proofs.YtjgpfclngkcedaaGreat
open Go Go.Abs
theorem sn {a b:TaskV} {to:List Int} (ca:aB a=0) (cb:aB b=0) (nb:b.n=a.n) (fa:Fit30 a) (fb:Fit30 b) (ho:a.outs=b.outs):(bG a 8 to).2=(bG b 8 to).2∧Ok (bG a 8 to).1∧Ok (bG b 8 to).1∧((bG a 8 to).2=0→eH (bG a 8 to).1 (bG b 8 to).1=0∧(Stg a b→Stg (bG a 8 to).1 (bG b 8 to).1)):=by
 rw [jx ca,jx cb,← ho]
 by_cases h1:(to.length:Int) ≠ a.outs
 ·rw [if_pos h1,if_pos h1]
  exact ⟨rfl,qe,qe,fun h=>absurd h (by decide)⟩
 rw [if_neg h1,if_neg h1]
 by_cases h2:to.any (fun v=>decide (v < 0 ∨ 8 ≤ v))=true
 ·rw [if_pos h2,if_pos h2]
  exact ⟨rfl,qe,qe,fun h=>absurd h (by decide)⟩
 rw [if_neg h2,if_neg h2]
 have g1:uF a to:=⟨Decidable.of_not_not h1,fun v hv=>by
  by_cases h:v < 0 ∨ 8 ≤ v
  ·exact absurd (List.any_eq_true.2 ⟨v,hv,decide_eq_true h⟩) h2
  ·omega⟩
 have g2:uF b to:=⟨by rw [← ho]; exact g1.1,g1.2⟩
 have k1:=jQ ca g1
 have k2:=jQ cb g2
 refine ⟨rfl,(ri ca g1 fa).ok,(ri cb g2 fb).ok,fun _=>⟨?_,fun hs=>wK ca g1 cb nb hs⟩⟩
 have e1:(oA a 8 to).n=a.n:=rfl
 have e2:(oA b 8 to).n=b.n:=rfl
 simp [eH,k1,k2,e1,e2,nb]
attribute [local irreducible] aD ag aS aP aH aJ ay aK aQ aZ Go.Abs.Fn aO Go.Abs.Pure al aC Yl
set_option maxHeartbeats 4000000 in
theorem uK (a b:TaskV) (to:List Int) (ha:Ok a) (hb:Ok b) (hto:Sh to):Pure Tryz.prog 9 [bo a,bo b,az to] (.bool true):=by
 refine Pure.of_c2 follows is9 (Nat.le_of_ble_eq_true rfl) ?_
 simp only [b9,cO,cG,cN,cM,cD,cF,cB,aw,aF]
 have haw:=xK
 have hr:=uq [a,b] (by simp) (by simp; exact ⟨ha,hb⟩)
 have d1:=bM a
 have d2:=bM b
 have dto:=aU to
 cases hR:ml [a,b]
 ·rw [hR] at hr
  unfold bo at d1 d2
  rw [show bo a=.agg [.int .i64 a.n,.int .i64 a.ins,.int .i64 a.outs,bb a.cases] from rfl,show bo b=.agg [.int .i64 b.n,.int .i64 b.ins,.int .i64 b.outs,bb b.cases] from rfl]
  (have zz:=aI @ah @ab; repeat' (first | refine zW ?_ | apply a_n | refine zO ?_ | refine vZ ?_ | refine bxZ ?_ | refine blZ ?_ | fail)) <;> (try clear zz)
  refine b8 ev0 ev0 hr (aj (aq (pz au) af) rfl) ?_
  (have zz:=aI @ah @ab; repeat' (first | refine zW ?_ | apply a_n | apply a_r | refine zO ?_ | refine vZ ?_ | refine cZ ?_ (hp:=haw) | refine gFZ ?_ | refine cTZ ?_ | refine aa rfl ?_ | refine r1Z ?_ | fail)) <;> (try clear zz)
  exact .bool _
 rw [hR] at hr
 obtain ⟨⟨fwa,ca⟩,⟨fwb,cb⟩,nb⟩:(ow a=true∧aB a=0)∧(ow b=true∧aB b=0)∧b.n=a.n:=by simpa [ml,jm] using hR
 have fa:=Fit30.of fwa
 have fb:=Fit30.of fwb
 by_cases ho:a.outs=b.outs
 rotate_left
 ·have z:decide (a.outs ≠ b.outs)=true:=decide_eq_true ho
  unfold bo at d1 d2
  rw [show bo a=.agg [.int .i64 a.n,.int .i64 a.ins,.int .i64 a.outs,bb a.cases] from rfl,show bo b=.agg [.int .i64 b.n,.int .i64 b.ins,.int .i64 b.outs,bb b.cases] from rfl]
  (have zz:=aI @ah @ab; repeat' (first | refine zW ?_ | apply a_n | refine zO ?_ | refine vZ ?_ | refine bxZ ?_ | refine blZ ?_ | fail)) <;> (try clear zz)
  refine b8 ev0 ev0 hr (aj (aq (pz au) af) rfl) ?_
  (have zz:=aI @ah (aI @ab @z); repeat' (first | refine zW ?_ | apply a_n | apply a_r | refine zO ?_ | refine vZ ?_ | refine cZ ?_ (hp:=haw) | refine gTZ ?_ | refine cTZ ?_ | refine aa rfl ?_ | refine r1Z ?_ | fail)) <;> (try clear zz)
  exact .bool _
 have z:decide (a.outs ≠ b.outs)=false:=decide_eq_false (fun h=>h ho)
 have nn:=eJ ca
 have hN:((a.n.toNat:Nat):Int)=a.n:=by omega
 obtain ⟨ex,ox,oy,hxy⟩:=sn (to:=to) ca cb nb fa fb ho
 have r1:=mU a to fa.fit hto ca
 have r2:=mU b to fb.fit hto cb
 have pab:eH a b=0:=by simp [eH,ca,cb,nb]
 have c2:=mv a b ha.2 ha.1 hb.2 hb.1
 obtain ⟨i2,f2,o2,e2⟩:=lM pab
 rw [e2] at c2
 have hst:(gU a b).isNone=true→Stg a b:=fun h=>A0 (Option.isNone_iff_eq_none.1 h)
 rw [← ex] at r2
 generalize bG a 8 to=X at *
 generalize (bG b 8 to).1=Y at *
 obtain ⟨X,e⟩:=X
 dsimp only at ox r1 r2 hxy
 obtain ⟨i5,f5,o5,k5,e5,q5⟩:=sS (a:=X) (b:=Y)
 have c5:=mv X Y ox.2 ox.1 oy.2 oy.1
 have h5:e=0→e5=0∧((gU a b).isNone=true→k5=true):=fun h0=>by
  obtain ⟨hp,hs⟩:=hxy h0
  constructor
  ·obtain ⟨i6,f6,o6,q6⟩:=lM hp
   rw [q6] at q5
   simp at q5
   exact q5.2.2.2.2.symm
  ·intro hw
   rw [vj hp (hs (hst hw))] at q5
   simp at q5
   exact q5.2.2.2.1
 rw [q5] at c5
 have sy:=qi a fa.fit
 rw [xF ca] at sy
 have on:=BN a.n.toNat (by omega)
 rw [hN] at on
 have hpo:=mI a.n.toNat (by omega) (by omega)
 have hsl:(gN a).length ≤ 120:=Nat.le_trans (List.length_filter_le _ _) hpo.1
 have hss:∀ x ∈ gN a,Sh x:=fun x hx=>by
  have:=(er ca hx).2.1
  show x.length ≤ _
  omega
 have hsA:Sh (gN a):=by show _ ≤ _; omega
 have am:=fun v (hv:v ∈ gN a)=>by
  have:=xR (gN a) v hsA hss (hss v hv)
  rw [decide_eq_true hv] at this
  exact this
 have a1:=am _ (xH ca)
 have hsame:=zE a ha.1 ha.2
 have pm:∀ p ∈ gN a,Pure Tryz.prog 33 [bo a,az p] (.tup [bo a,.int .i64 0]):=fun p hp=>by
  obtain ⟨p1,p2,p3⟩:=er ca hp
  have:=pd a p ha.2 ha.1 fa.fit.q (hss p hp)
  rw [mz ca p1 p2,p3] at this
  exact this
 have cm:∀ p ∈ gN a,∀ q ∈ gN a,Pure Tryz.prog 34 [az p,az q] (.tup [az (ef p q),.int .i64 0]):=fun p hp q hq=>by
  obtain ⟨p1,p2,p3⟩:=er ca hp
  obtain ⟨q1,q2,q3⟩:=er ca hq
  exact uR p q p1 q1 (by omega)
 have ac:∀ p ∈ gN a,∀ q ∈ gN a,ef p q ∈ gN a:=fun p hp q hq=>ux ca hp hq
 have dX:=bM X
 have dY:=bM Y
 clear e2 q5 hxy hst hpo ex
 generalize gN a=L at *
 generalize idL a.n.toNat=One at *
 generalize (gU a b).isNone=B at *
 unfold bo at d1 d2 dX dY r1 r2 c2 c5 sy hsame pm
 rw [show bo a=.agg [.int .i64 a.n,.int .i64 a.ins,.int .i64 a.outs,bb a.cases] from rfl,show bo b=.agg [.int .i64 b.n,.int .i64 b.ins,.int .i64 b.outs,bb b.cases] from rfl]
 have z0:decide ((0:Int) ≠ 0)=false:=rfl
 have ze:decide (e ≠ e)=false:=by simp
 refine cQ ?_
 (have zz:=aI @ah @ab; repeat' (first | apply a_n | refine zO ?_ | refine vZ ?_ | refine bxZ ?_ | fail)) <;> (try clear zz)
 refine cQ (cQ ?_)
 (have zz:=aI @ah @ab; repeat' (first | apply a_n | refine zO ?_ | refine vZ ?_ | refine blZ ?_ | fail)) <;> (try clear zz)
 refine b8 ev0 ev0 hr (aj (aq (pz au) af) rfl) ?_
 (have zz:=aI @ah (aI @ab @z); repeat' (first | apply a_n | refine zO ?_ | refine vZ ?_ | refine gTZ ?_ | refine cFZ ?_ | fail)) <;> (try clear zz)
 refine cQ ?_
 (have zz:=aI @ah @ab; repeat' (first | apply a_n | refine zO ?_ | refine vZ ?_ | refine cZ ?_ (hp:=r1) | refine alZ ?_ | refine stZ ?_ | fail)) <;> (try clear zz)
 refine cQ ?_
 (have zz:=aI @ah @ab; repeat' (first | apply a_n | refine zO ?_ | refine vZ ?_ | refine cZ ?_ (hp:=r2) | refine alZ ?_ | refine stZ ?_ | fail)) <;> (try clear zz)
 refine cQ ?_
 (have zz:=aI @ah @ab; repeat' (first | apply a_n | refine zO ?_ | refine vZ ?_ | refine cZ ?_ (hp:=c2) | fail)) <;> (try clear zz)
 refine cQ (cQ ?_)
 (have zz:=aI @ah (aI @ab (aI @ze @z0)); repeat' (first | apply a_n | refine zO ?_ | refine vZ ?_ | refine gTZ ?_ | refine cFZ ?_ | fail)) <;> (try clear zz)
 refine aN (fun T H nx=>T 3=.ptr 0 4 0∧H 0=some [.int .i64 a.n,.int .i64 a.ins,.int .i64 a.outs,bb a.cases]∧1 ≤ nx) ?_ ?_
 ·by_cases he:e=0
  ·subst he
   obtain ⟨rfl,h6⟩:=h5 rfl
   cases B
   ·(have zz:=aI @ah (aI @ab @z0); repeat' (first | refine zW ?_ | apply a_n | refine zO ?_ | refine vZ ?_ | refine cZ ?_ (hp:=c5) | refine gTZ ?_ | refine gFZ ?_ | refine cFZ ?_ | (refine zGZ ?_ ?_ <;> (intro _hg; try (exfalso; omega))) | fail)) <;> (try clear zz)
    all_goals exact ⟨rfl,rfl,by omega⟩
   ·obtain rfl:=h6 rfl
    (have zz:=aI @ah (aI @ab @z0); repeat' (first | refine zW ?_ | apply a_n | refine zO ?_ | refine vZ ?_ | refine cZ ?_ (hp:=c5) | refine gTZ ?_ | refine cFZ ?_ | (refine zGZ ?_ ?_ <;> (intro _hg; try (exfalso; omega))) | fail)) <;> (try clear zz)
    all_goals exact ⟨rfl,rfl,by omega⟩
  ·have zq:decide (e=0)=false:=decide_eq_false he
   (have zz:=aI @ah (aI @ab @zq); repeat' (first | refine zW ?_ | apply a_n | refine zO ?_ | refine vZ ?_ | refine cFZ ?_ | fail)) <;> (try clear zz)
   all_goals exact ⟨rfl,rfl,by omega⟩
 rintro T H nx ⟨t3,g0,hnx⟩
 (have zz:=aI @t3 (aI @g0 (aI @ah (aI @ab @z0))); repeat' (first | refine zW ?_ | apply a_n | refine zO ?_ | refine vY ?_ | refine cY ?_ (hp:=by first | exact sy | exact on | exact a1) (hs:=by (first | refine aj ?_ rfl | apply ap); (repeat' (first | exact af | apply aG | apply av | exact d1 | exact aU _ | exact aX _)); first | done | fail) | refine gTY ?_ | refine cFY ?_ | fail)) <;> (try clear zz)
 refine a9 (X:=Nat) (fun k=>[(3,.ptr 0 4 0),(21,aA L),(107,aA L),(108,.int .i64 L.length),(109,.int .i64 k)]) (fun k H nx=>k ≤ L.length∧1 ≤ nx∧H 0=some [.int .i64 a.n,.int .i64 a.ins,.int .i64 a.outs,bb a.cases]) (fun k=>L.length - k) 0 ⟨Nat.zero_le _,hnx,g0⟩ (have zz:=@t3; agZ) ?_
 clear t3 g0 hnx
 rintro k H nx ⟨hk,hnx,g0⟩
 by_cases hk2:k < L.length
 rotate_left
 ·(have zz:=and_self; repeat' (first | refine zW ?_ | apply a_n | apply a_x | refine zO ?_ | refine vY ?_ | refine cY ?_ (hp:=haw) | (refine zGY ?_ ?_ <;> (intro _hg; try (exfalso; omega))) | refine aa rfl ?_ | refine r1Y ?_ | fail)) <;> (try clear zz)
  exact .bool _
 have hv:=ai hk2
 have hvl:fB 1 (aA L) (.int .i64 k)=some (.iptr [az (L.getD k default)] 0):=by rw [jE,if_pos ⟨by omega,by omega⟩,Int.toNat_natCast]
 have cp:=pm _ hv
 have cm1:=cm _ hv
 have ac1:=ac _ hv
 generalize L.getD k default=p at *
 (have zz:=aI @hvl (aI @g0 (aI @ah (aI @ab @z0))); repeat' (first | refine zW ?_ | apply a_n | refine zO ?_ | refine vY ?_ | refine cY ?_ (hp:=by first | exact cp | exact hsame) (hs:=by (first | refine aj ?_ rfl | apply ap); (repeat' (first | exact af | apply aG | apply av | exact d1 | exact aU _)); first | done | fail) | refine alY ?_ | refine stY ?_ | refine gTY ?_ | refine cFY ?_ | (refine zGY ?_ ?_ <;> (intro _hg; try (exfalso; omega))) | fail)) <;> (try clear zz)
 refine a9 (X:=Nat) (fun j=>[(3,.ptr 0 4 0),(21,aA L),(107,aA L),(108,.int .i64 L.length),(109,.int .i64 k),(24,az p),(127,aA L),(128,.int .i64 L.length),(129,.int .i64 j)]) (fun j H nx=>j ≤ L.length∧1 ≤ nx∧H 0=some [.int .i64 a.n,.int .i64 a.ins,.int .i64 a.outs,bb a.cases]) (fun j=>L.length - j) 0 ⟨Nat.zero_le _,by omega,by (repeat rw [ao (by omega)]); exact g0⟩ ag0 ?_
 clear g0 hnx
 rintro j H nx ⟨hj,hnx,g0⟩
 by_cases hj2:j < L.length
 rotate_left
 ·(have zz:=and_self; repeat' (first | refine zW ?_ | apply a_n | apply a_x | refine zO ?_ | refine vY ?_ | (refine zGY ?_ ?_ <;> (intro _hg; try (exfalso; omega))) | fail)) <;> (try clear zz)
  exact ⟨k + 1,by omega,⟨by omega,hnx,g0⟩,ag0⟩
 have hq:=ai hj2
 have hql:fB 1 (aA L) (.int .i64 j)=some (.iptr [az (L.getD j default)] 0):=by rw [jE,if_pos ⟨by omega,by omega⟩,Int.toNat_natCast]
 have cm2:=cm1 _ hq
 have am2:=am _ (ac1 _ hq)
 generalize L.getD j default=q at *
 (have zz:=aI @hql @z0; repeat' (first | refine zW ?_ | apply a_n | refine zO ?_ | refine vY ?_ | refine cY ?_ (hp:=by first | exact cm2 | exact am2) (hs:=by (first | refine aj ?_ rfl | apply ap); (repeat' (first | exact af | apply aG | apply av | exact aU _ | exact aX _)); first | done | fail) | refine gTY ?_ | refine cFY ?_ | (refine zGY ?_ ?_ <;> (intro _hg; try (exfalso; omega))) | fail)) <;> (try clear zz)
 exact ⟨j + 1,by omega,⟨by omega,hnx,g0⟩,ag0⟩
end Go.Proofs.YtjgpfclngkcedaaGreat
namespace Go.Proofs.YtjgpfclngkcedaaGreat
open Go Go.Abs Go.RowKit
section
variable {H:Type} {enc:TypeId × Value→H} {W:World}
theorem oi:cW enc Tryz.prog W 3 (AV.int .i64) (fun n=>(Lit.int .i64 n).wf=true):=u6 Tryz.underlying3
theorem oL1:cW enc Tryz.prog W 27 az Sh :=
 (iJ Tryz.underlying27 (sz:=1) (by_:=8) (by kernel_rfl) (by kernel_rfl) Nat.one_pos (fun _=>rfl) oi).mono fun l h=>by have:=h.2.2; show _ ≤ _; omega
theorem oL2:cW enc Tryz.prog W 41 aA (fun l=>Sh l∧∀ x ∈ l,Sh x) :=
 (iJ Tryz.underlying41 (sz:=1) (by_:=24) (by kernel_rfl) (by kernel_rfl) Nat.one_pos (fun _=>rfl) oL1).mono fun l h=>⟨by have:=h.2.2; show _ ≤ _; omega,h.1⟩
set_option maxRecDepth 100000 in
theorem Ci:cW enc Tryz.prog W 57 cP ShC :=
 (jV Tryz.underlying57 (by kernel_rfl) (dr (off:=0) (off':=1) rfl (by kernel_rfl) oL1 (dr (off:=1) (off':=2) rfl (by kernel_rfl) oL2 (dr (off:=2) (off':=3) rfl (by kernel_rfl) oL2 nV)))).map
  (fun a=>(⟨a.1,a.2.1,a.2.2.1⟩:CaseV)) (by
   rintro ⟨i,o,c,u⟩ ⟨h1,h2,h3,_⟩
   exact ⟨h1,h2.1,h2.2,h3.1,h3.2⟩) (fun _ _=>rfl)
theorem A4:cW enc Tryz.prog W 22 bb (fun l=>Sh l∧∀ c ∈ l,ShC c) :=
 (iJ Tryz.underlying22 (sz:=3) (by_:=72) (by kernel_rfl) (by kernel_rfl) (by omega) (fun _=>rfl) Ci).mono fun l h=>⟨by have:=h.2.2; show _ ≤ _; omega,h.1⟩
set_option maxRecDepth 100000 in
theorem zo:cW enc Tryz.prog W 24 bo (fun t=>Sh t.cases∧∀ c ∈ t.cases,ShC c) :=
 (jV Tryz.underlying24 (by kernel_rfl) (dr (off:=0) (off':=1) rfl (by kernel_rfl) oi (dr (off:=1) (off':=2) rfl (by kernel_rfl) oi (dr (off:=2) (off':=3) rfl (by kernel_rfl) oi (dr (off:=3) (off':=4) rfl (by kernel_rfl) A4 nV))))).map
  (fun a=>(⟨a.1,a.2.1,a.2.2.1,a.2.2.2.1⟩:TaskV)) (by
   rintro ⟨n,i,o,c,u⟩ ⟨_,_,_,h,_⟩
   exact h) (fun _ _=>rfl)
end
theorem oe {f:FuncId} {xs:List AV} {vs:List Value} (h:Go.Abs.Pure Tryz.prog f xs (.bool true)) (w:World) (hv:bR (E0 (oG w)) w xs vs) :
    Calls Tryz.prog f vs.toArray w fun e w'=>e=.returned (.bool true)∧Below w.heap.size w w':=by
 refine (h.2 (oG w) w vs (fun _ h=>h) hv).mono ?_
 rintro e w' ⟨v,imm',rfl,hb,_,_,_,hr⟩
 cases hr
 exact ⟨rfl,hb⟩
theorem CZ:laidOutB Tryz.prog=true:=by kernel_rfl
end Go.Proofs.YtjgpfclngkcedaaGreat
namespace Go.Proofs.YtjgpfclngkcedaaGreat
open Go Go.Abs Go.RowKit Go.ChangeShapes Go.WideShapes Go.ChangeAt
theorem oB {H:Type} {enc:TypeId × Value→H} {P:Program} {f:Func} {s:ChangeSpec} {apart fresh handsOn again:Bool} {W W':World} {args:Array Value} {v:Value} {ds gs:List (DataW H)} {before pa pv:List MemPlace}
    (hW:DataW.Whole enc P f.params.toList s.vars apart W args.toList ds gs before)
    (hres:∀ (b:Nat) (sp:Nat→Bool) (hd:Bool),DataW.TrodAll enc P W' b sp hd f.resultTypes.toList (v.resultList f.resultTypes.size) (s.fn H (ds ++ gs)).results [])
    (hargs:∀ sp:Nat→Bool,(∀ p ∈ before,sp p.block=true)→DataW.TrodAll enc P W' 0 sp true f.params.toList args.toList (s.fn H (ds ++ gs)).args pa)
    (hvars:∀ sp:Nat→Bool,(∀ p ∈ before,sp p.block=true)→DataW.TrodVars enc P W' sp s.vars (s.fn H (ds ++ gs)).vars pv)
    (hps:before=pa ++ pv) (hb:Below W.heap.size W W')
    (hok:∀ (j:Nat) (t:TypeId) (r:Value),f.resultTypes[j]?=some t→(v.resultList f.resultTypes.size)[j]?=some r→Value.okWide P W' .any 0 t r) :
    s.post enc P f apart fresh handsOn again W args v W':=by
 have hold:∀ p ∈ before,(fun b=>decide (b < W.heap.size)) p.block=true:=fun p hp=>by simpa using hW.lt p hp
 have hlt:=fun p hp=>hW.lt p hp
 refine ⟨ds,gs,before,[],pa,pv,hW,hres _ _ _,hargs _ hold,hvars _ hold,World.keptBut_mono (fun p hp=>⟨hp,?_⟩) (hb.frame _),fun _=>?_⟩
 ·rw [hps,List.mem_append] at hp
  exact Or.inr hp
 ·obtain ⟨_,_,_,_,_,hz,hn⟩:=hW
  refine ⟨hok,_,_,([] ++ pa) ++ pv,⟨[] ++ pa,pv,trodAll_append (hargs _ (fun _ _=>rfl)) (hres _ _ _),hvars _ (fun _ _=>rfl),rfl,?_,?_⟩,?_⟩
  ·intro b off hp
   have hp':MemPlace.cell b off ∈ before:=by rw [hps]; simpa using hp
   rw [hb.frozen (hlt _ hp')]
   exact hz b off hp'
  ·intro ha
   have:=hn ha
   rw [hps] at this
   simpa using this
  ·intro p hp _
   rw [hps]
   simpa using hp
theorem wq {E:Env} {w:World}:bR E w [] []:=⟨rfl,fun i x y h=>(by cases h)⟩
theorem lj {E:Env} {w:World} {x:AV} {y:Value} {xs:List AV} {ys:List Value} (h:Rel E w x y) (hs:bR E w xs ys):bR E w (x :: xs) (y :: ys):=by
 refine ⟨by simp [hs.1],fun i a b ha hb=>?_⟩
 cases i with
 | zero=>simp at ha hb; subst ha hb; exact h
 | succ i=>simp at ha hb; exact hs.2 i a b ha hb
theorem own:ownKnob Tryz.prog.godebug=none:=by kernel_rfl
end Go.Proofs.YtjgpfclngkcedaaGreat