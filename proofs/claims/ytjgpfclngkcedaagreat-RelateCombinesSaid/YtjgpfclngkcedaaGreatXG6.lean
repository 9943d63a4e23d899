/- Texts of this claim, one after the other: U12k, U13k, T31, T32, T33, T34, T35, T23, T24, T25, T26, A11, T27, T36, T29, T37, T43, T47, T48, T49, T50, T44, T45, T51, T52, T53, T54, T55, T56, T57, T63, T64, T59, T60, T58, T61, T62, T65, T66, A14, T46, T67, T8, T9. -/
import Derived.Test.YtjgpfclngkcedaaGreatXG5
import Derived.Test.YtjgpfclngkcedaaGreatXG4
import Derived.Test.YtjgpfclngkcedaaGreatXG3
import Derived.Test.YtjgpfclngkcedaaGreatRows
import Derived.WalkKit
import Derived.ProofKit
import Derived.OpenShut

set_option linter.unusedSimpArgs false
set_option linter.unusedVariables false
namespace Go.Proofs.YtjgpfclngkcedaaGreat
open Go Go.Abs
section
variable {α:Type} [Inhabited α] {f:α→AV} {K:α→α→Int} {G:α→Prop} {g:Nat} {caps:List AV}
attribute [local irreducible] aA af aV aQ aE aL ay aM aR ba Go.Abs.Fn aO Go.Abs.Pure ap aB Yl
set_option maxHeartbeats 1000000 in
theorem zj (hc:Cmp3 Tryz.prog f K G g caps) {b n:Nat} (hn2:n ≤ 1000000000):∀ (sz a e lim:Nat) (L:List α) (H:Hp) (nx:Nat),e - a < sz→H b=some (L.c3 f)→b < nx→L.length=n→(∀ x ∈ L,G x)→a ≤ e→e ≤ n→lim ≤ 64→kN K a e L →
    Abs.Fn Tryz.prog 111 [.msl b (n * 3) 3 0 n,.int .i64 a,.int .i64 e,.int .i64 lim,.func g caps] H nx fun r H' nx'=>∃ L',PS H H' nx nx' b (L'.c3 f)∧PermR a e L L'∧aP K a e L':=by
  intro sz
  induction sz with
  | zero=>intro a e lim L H nx h; omega
  | succ sz ih =>
  intro a e lim L H nx hsz hH hbx hn hG hae hen hlim hlow
  have dcap:=hc.dcaps
  refine Abs.Fn.of_c2 follows w7 (Nat.le_of_ble_eq_true rfl) ?_
  simp only [xF,cO,cG,cN,cM,cD,cF,cB,aw,aG]
  (have zz:=and_self; repeat' (first | refine zW ?_ | apply a_n | refine zO ?_ | refine vZ ?_ | fail)) <;> (try clear zz)
  refine be (X:=Nat × Nat × Nat × Bool × Bool × List α) (fun x=>[(0,.msl b (n * 3) 3 0 n),(1,.int .i64 (x.1:Nat)),(2,.int .i64 (x.2.1:Nat)),(3,.int .i64 (x.2.2.1:Nat)),(4,.func g caps),(10,.bool x.2.2.2.1),(11,.bool x.2.2.2.2.1)]) (fun x H' nxx=>PI K a e L x.1 x.2.1 x.2.2.2.2.2∧PS H H' nx nxx b (x.2.2.2.2.2.c3 f)∧x.2.2.1 ≤ 64) (fun x=>x.2.1 - x.1) (a,e,lim,true,true,L) ⟨.start hae (by rw [hn]; exact hen) hlow,⟨hH,fun _ _ _=>rfl,Nat.le_refl _⟩,hlim⟩ ag0 ?_
  clear hlim hlow lim
  rintro ⟨a1,e1,lim,wb,wp,M⟩ H1 n1 ⟨hpi,hps,hlim⟩
  dsimp only at *
  have hlo:=hpi.lo; have hmid:=hpi.mid; have hhi:=hpi.hi
  obtain ⟨l,hl0⟩:∃ l,e1 - a1=l:=⟨_,rfl⟩
  rw [hl0]
  have te:(e1:Int) - (a1:Int)=(l:Int):=by omega
  have hlen:∀ M:List α,PI K a e L a1 e1 M→M.length=n:=fun M h=>by rw [h.perm.len,hn]
  have hGA:∀ M:List α,PI K a e L a1 e1 M→∀ x ∈ M,G x:=fun M h=>h.perm.mem hG
  have hbn:∀ (M:List α) (H1:Hp) (n1:Nat),PS H H1 nx n1 b (M.c3 f)→b < n1:=fun M H1 n1 h=>by have:=h.le; omega
  obtain ⟨T,hT,t0,t1,t2,t3,t4,t10,t11⟩:∃ T,tl [(0,.msl b (n * 3) 3 0 n),(1,.int .i64 (a1:Nat)),(2,.int .i64 (e1:Nat)),(3,.int .i64 (lim:Nat)),(4,.func g caps),(10,.bool wb),(11,.bool wp)]=T∧T 0=.msl b (n * 3) 3 0 n∧T 1=.int .i64 (a1:Nat)∧T 2=.int .i64 (e1:Nat)∧T 3=.int .i64 (lim:Nat)∧T 4=.func g caps∧T 10=.bool wb∧T 11=.bool wp:=⟨_,rfl,rfl,rfl,rfl,rfl,rfl,rfl,rfl⟩
  rw [hT]
  clear hT
  refine ce ?_
  refine aJ (fun T H'' nx''=>T 0=.msl b (n * 3) 3 0 n∧T 1=.int .i64 (a1:Nat)∧T 2=.int .i64 (e1:Nat)∧T 3=.int .i64 (lim:Nat)∧T 4=.func g caps∧T 10=.bool wb∧T 11=.bool wp∧T 12=.int .i64 (l:Nat)∧H1=H''∧n1=nx'') ?_ ?_
  · (have zz:=aI @t0 (aI @t1 (aI @t2 (aI @t3 (aI @t4 (aI @t10 (aI @t11 @te)))))); repeat' (first | apply a_n | refine zO ?_ | refine vZ ?_ | fail)) <;> (try clear zz)
    exact ⟨(have zz:=@t0; evZ),(have zz:=@t1; evZ),(have zz:=@t2; evZ),(have zz:=@t3; evZ),(have zz:=@t4; evZ),(have zz:=@t10; evZ),(have zz:=@t11; evZ),ev0,rfl,rfl⟩
  clear t0 t1 t2 t3 t4 t10 t11
  rintro T _ _ ⟨t0,t1,t2,t3,t4,t10,t11,t12,rfl,rfl⟩
  refine aJ (fun T H'' nx''=>T 0=.msl b (n * 3) 3 0 n∧T 1=.int .i64 (a1:Nat)∧T 2=.int .i64 (e1:Nat)∧T 3=.int .i64 (lim:Nat)∧T 4=.func g caps∧T 10=.bool wb∧T 11=.bool wp∧T 12=.int .i64 (l:Nat)∧13 ≤ l∧H1=H''∧n1=nx'') ?_ ?_
  · by_cases h12:l ≤ 12
    · (have zz:=aI @t0 (aI @t1 (aI @t2 (aI @t3 (aI @t4 (aI @t10 (aI @t11 @t12)))))); repeat' (first | refine zW ?_ | apply a_n | refine zO ?_ | refine vZ ?_ | (refine zGZ ?_ ?_ <;> (intro _hg; try (exfalso; omega))) | fail)) <;> (try clear zz)
      refine aD ev0 (have zz:=aI @t0 (aI @t1 (aI @t2 (aI @t3 (aI @t4 (aI @t10 (aI @t11 @t12)))))); evZ) (zP hc (b:=b) hps.at_ (hlen _ hpi) (hGA _ hpi) (a:=a1) (e:=e1) hmid (by omega) hn2) ?_
      rintro _ _ _ ⟨rfl,N,rfl,hpN,hsN⟩
      (have zz:=and_self; repeat' (first | apply a_n | apply a_r | refine zO ?_ | refine ae rfl ?_ | fail)) <;> (try clear zz)
      exact ⟨N,hps.upd,hpi.done hpN hsN⟩
    · (have zz:=aI @t0 (aI @t1 (aI @t2 (aI @t3 (aI @t4 (aI @t10 (aI @t11 @t12)))))); repeat' (first | refine zW ?_ | apply a_n | refine zO ?_ | refine vZ ?_ | (refine zGZ ?_ ?_ <;> (intro _hg; try (exfalso; omega))) | fail)) <;> (try clear zz)
      exact ⟨(have zz:=@t0; evZ),(have zz:=@t1; evZ),(have zz:=@t2; evZ),(have zz:=@t3; evZ),(have zz:=@t4; evZ),(have zz:=@t10; evZ),(have zz:=@t11; evZ),(have zz:=@t12; evZ),by omega,rfl,rfl⟩
  clear t0 t1 t2 t3 t4 t10 t11 t12
  rintro T _ _ ⟨t0,t1,t2,t3,t4,t10,t11,t12,h13,rfl,rfl⟩
  refine aJ (fun T H'' nx''=>T 0=.msl b (n * 3) 3 0 n∧T 1=.int .i64 (a1:Nat)∧T 2=.int .i64 (e1:Nat)∧T 3=.int .i64 (lim:Nat)∧T 4=.func g caps∧T 10=.bool wb∧T 11=.bool wp∧T 12=.int .i64 (l:Nat)∧0 < lim∧H1=H''∧n1=nx'') ?_ ?_
  · by_cases h12:lim=0
    · subst h12
      have tz:decide (((0:Nat):Int)=0)=true:=rfl
      (have zz:=aI @t0 (aI @t1 (aI @t2 (aI @t3 (aI @t4 (aI @t10 (aI @t11 (aI @t12 @tz))))))); repeat' (first | refine zW ?_ | apply a_n | refine zO ?_ | refine vZ ?_ | refine cTZ ?_ | fail)) <;> (try clear zz)
      refine aD ev0 (have zz:=aI @t0 (aI @t1 (aI @t2 (aI @t3 (aI @t4 (aI @t10 (aI @t11 @t12)))))); evZ) (x4 hc (b:=b) hps.at_ (hlen _ hpi) (hGA _ hpi) (a:=a1) (e:=e1) hmid (by omega) hn2) ?_
      rintro _ _ _ ⟨rfl,N,rfl,hpN,hsN⟩
      (have zz:=and_self; repeat' (first | apply a_n | apply a_r | refine zO ?_ | refine ae rfl ?_ | fail)) <;> (try clear zz)
      exact ⟨N,hps.upd,hpi.done hpN hsN⟩
    · have tz:decide ((lim:Int)=0)=false:=decide_eq_false (by omega)
      (have zz:=aI @t0 (aI @t1 (aI @t2 (aI @t3 (aI @t4 (aI @t10 (aI @t11 (aI @t12 @tz))))))); repeat' (first | refine zW ?_ | apply a_n | refine zO ?_ | refine vZ ?_ | refine cFZ ?_ | fail)) <;> (try clear zz)
      exact ⟨(have zz:=@t0; evZ),(have zz:=@t1; evZ),(have zz:=@t2; evZ),(have zz:=@t3; evZ),(have zz:=@t4; evZ),(have zz:=@t10; evZ),(have zz:=@t11; evZ),(have zz:=@t12; evZ),by omega,rfl,rfl⟩
  clear t0 t1 t2 t3 t4 t10 t11 t12
  rintro T _ _ ⟨t0,t1,t2,t3,t4,t10,t11,t12,hlim1,rfl,rfl⟩
  refine aJ (fun T H'' nx''=>∃ (lim:Nat) (M:List α),lim ≤ 64∧PI K a e L a1 e1 M∧PS H H'' nx nx'' b (M.c3 f)∧T 0=.msl b (n * 3) 3 0 n∧T 1=.int .i64 (a1:Nat)∧T 2=.int .i64 (e1:Nat)∧T 3=.int .i64 (lim:Nat)∧T 4=.func g caps∧T 10=.bool wb∧T 11=.bool wp∧T 12=.int .i64 (l:Nat)) ?_ ?_
  · cases wb
    · obtain ⟨k,rfl⟩:∃ k,lim=k + 1:=⟨lim - 1,by omega⟩
      have tk:((k + 1:Nat):Int) - 1=(k:Int):=by omega
      (have zz:=aI @t0 (aI @t1 (aI @t2 (aI @t3 (aI @t4 (aI @t10 (aI @t11 @t12)))))); repeat' (first | refine zW ?_ | apply a_n | refine zO ?_ | refine vZ ?_ | refine cTZ ?_ | fail)) <;> (try clear zz)
      refine aD ev0 (have zz:=aI @t0 (aI @t1 (aI @t2 (aI @t3 (aI @t4 (aI @t10 (aI @t11 @t12)))))); evZ) (vJ hc (b:=b) hps.at_ (hbn _ _ _ hps) (hlen _ hpi) (a:=a1) (e:=e1) (by omega) (by omega) hn2) ?_
      rintro _ _ _ ⟨rfl,N,hN1,hN2,hpN⟩
      (have zz:=aI @t0 (aI @t1 (aI @t2 (aI @t3 (aI @t4 (aI @t10 (aI @t11 (aI @t12 @tk))))))); repeat' (first | apply a_n | refine zO ?_ | refine vZ ?_ | fail)) <;> (try clear zz)
      exact ⟨k,N,by omega,hpi.swap hpN,hps.rec_ hN1 hN2 (Nat.le_succ _),(have zz:=@t0; evZ),(have zz:=@t1; evZ),(have zz:=@t2; evZ),(have zz:=@t3; evZ),(have zz:=@t4; evZ),(have zz:=@t10; evZ),(have zz:=@t11; evZ),(have zz:=@t12; evZ)⟩
    · (have zz:=aI @t0 (aI @t1 (aI @t2 (aI @t3 (aI @t4 (aI @t10 (aI @t11 @t12)))))); repeat' (first | refine zW ?_ | apply a_n | refine zO ?_ | refine vZ ?_ | refine cFZ ?_ | fail)) <;> (try clear zz)
      exact ⟨lim,M,hlim,hpi,hps,(have zz:=@t0; evZ),(have zz:=@t1; evZ),(have zz:=@t2; evZ),(have zz:=@t3; evZ),(have zz:=@t4; evZ),(have zz:=@t10; evZ),(have zz:=@t11; evZ),(have zz:=@t12; evZ)⟩
  clear t0 t1 t2 t3 t4 t10 t11 t12 hpi hps hlim hlim1
  rintro T H1 n1 ⟨lim,M,hlim,hpi,hps,t0,t1,t2,t3,t4,t10,t11,t12⟩
  refine aJ (fun T H'' nx''=>∃ (p:Nat) (hint:Int),a1 ≤ p∧p < e1∧PS H H'' nx nx'' b (M.c3 f)∧T 0=.msl b (n * 3) 3 0 n∧T 1=.int .i64 (a1:Nat)∧T 2=.int .i64 (e1:Nat)∧T 3=.int .i64 (lim:Nat)∧T 4=.func g caps∧T 10=.bool wb∧T 11=.bool wp∧T 12=.int .i64 (l:Nat)∧T 13=.int .i64 (p:Nat)∧T 14=.int .i64 hint) ?_ ?_
  · (have zz:=aI @t0 (aI @t1 (aI @t2 (aI @t3 (aI @t4 (aI @t10 (aI @t11 @t12)))))); repeat' (first | apply a_n | refine zO ?_ | refine vZ ?_ | fail)) <;> (try clear zz)
    refine aD ev0 (have zz:=aI @t0 (aI @t1 (aI @t2 (aI @t3 (aI @t4 (aI @t10 (aI @t11 @t12)))))); evZ) (uk hc (b:=b) hps.at_ (hbn _ _ _ hps) (hlen _ hpi) (hGA _ hpi) (a:=a1) (e:=e1) (by omega) (by omega) hn2) ?_
    rintro _ _ _ ⟨rfl,p,hint,v,rfl,hp1,hp2,rfl⟩
    (have zz:=aI @t0 (aI @t1 (aI @t2 (aI @t3 (aI @t4 (aI @t10 (aI @t11 @t12)))))); repeat' (first | apply a_n | refine zO ?_ | refine vZ ?_ | fail)) <;> (try clear zz)
    exact ⟨p,hint,hp1,hp2,hps.new hbx,(have zz:=@t0; evZ),(have zz:=@t1; evZ),(have zz:=@t2; evZ),(have zz:=@t3; evZ),(have zz:=@t4; evZ),(have zz:=@t10; evZ),(have zz:=@t11; evZ),(have zz:=@t12; evZ),ev0,ev0⟩
  clear t0 t1 t2 t3 t4 t10 t11 t12 hps
  rintro T H1 n1 ⟨p,hint,hp1,hp2,hps,t0,t1,t2,t3,t4,t10,t11,t12,t13,t14⟩
  refine aJ (fun T H'' nx''=>∃ (p:Nat) (hint:Int) (M:List α),a1 ≤ p∧p < e1∧PI K a e L a1 e1 M∧PS H H'' nx nx'' b (M.c3 f)∧T 0=.msl b (n * 3) 3 0 n∧T 1=.int .i64 (a1:Nat)∧T 2=.int .i64 (e1:Nat)∧T 3=.int .i64 (lim:Nat)∧T 4=.func g caps∧T 10=.bool wb∧T 11=.bool wp∧T 12=.int .i64 (l:Nat)∧T 13=.int .i64 (p:Nat)∧T 14=.int .i64 hint) ?_ ?_
  · by_cases h2:hint=2
    · subst h2
      obtain ⟨p2,hp3⟩:∃ p2,e1 - 1 - (p - a1)=p2:=⟨_,rfl⟩
      have tp:(e1:Int) - 1 - ((p:Int) - (a1:Int))=(p2:Int):=by omega
      have tz:decide ((2:Int)=2)=true:=rfl
      (have zz:=aI @t0 (aI @t1 (aI @t2 (aI @t3 (aI @t4 (aI @t10 (aI @t11 (aI @t12 (aI @t13 (aI @t14 @tz))))))))); repeat' (first | refine zW ?_ | apply a_n | refine zO ?_ | refine vZ ?_ | (refine zGZ ?_ ?_ <;> (intro _hg; try (exfalso; omega))) | fail)) <;> (try clear zz)
      refine aD ev0 (have zz:=aI @t0 (aI @t1 (aI @t2 (aI @t3 (aI @t4 (aI @t10 (aI @t11 @t12)))))); evZ) (zi hc (b:=b) hps.at_ (hlen _ hpi) (a:=a1) (e:=e1) (by omega) (by omega) hn2) ?_
      rintro _ _ _ ⟨rfl,N,rfl,hpN⟩
      (have zz:=aI @t0 (aI @t1 (aI @t2 (aI @t3 (aI @t4 (aI @t10 (aI @t11 (aI @t12 (aI @t13 (aI @t14 @tp))))))))); repeat' (first | refine zW ?_ | apply a_n | refine zO ?_ | refine vZ ?_ | fail)) <;> (try clear zz)
      exact ⟨p2,1,N,by omega,by omega,hpi.swap hpN,hps.upd,(have zz:=@t0; evZ),(have zz:=@t1; evZ),(have zz:=@t2; evZ),(have zz:=@t3; evZ),(have zz:=@t4; evZ),(have zz:=@t10; evZ),(have zz:=@t11; evZ),(have zz:=@t12; evZ),ev0,ev0⟩
    · have tz:decide (hint=2)=false:=decide_eq_false h2
      (have zz:=aI @t0 (aI @t1 (aI @t2 (aI @t3 (aI @t4 (aI @t10 (aI @t11 (aI @t12 (aI @t13 (aI @t14 @tz))))))))); repeat' (first | refine zW ?_ | apply a_n | refine zO ?_ | refine vZ ?_ | refine cFZ ?_ | fail)) <;> (try clear zz)
      exact ⟨p,hint,M,hp1,hp2,hpi,hps,(have zz:=@t0; evZ),(have zz:=@t1; evZ),(have zz:=@t2; evZ),(have zz:=@t3; evZ),(have zz:=@t4; evZ),(have zz:=@t10; evZ),(have zz:=@t11; evZ),(have zz:=@t12; evZ),(have zz:=@t13; evZ),(have zz:=@t14; evZ)⟩
  clear t0 t1 t2 t3 t4 t10 t11 t12 t13 t14 hps hpi hp1 hp2
  rintro T H1 n1 ⟨p,hint,M,hp1,hp2,hpi,hps,t0,t1,t2,t3,t4,t10,t11,t12,t13,t14⟩
  refine aJ (fun T H'' nx''=>∃ (M:List α),PI K a e L a1 e1 M∧PS H H'' nx nx'' b (M.c3 f)∧T 0=.msl b (n * 3) 3 0 n∧T 1=.int .i64 (a1:Nat)∧T 2=.int .i64 (e1:Nat)∧T 3=.int .i64 (lim:Nat)∧T 4=.func g caps∧T 10=.bool wb∧T 11=.bool wp∧T 12=.int .i64 (l:Nat)∧T 13=.int .i64 (p:Nat)) ?_ ?_
  · cases wb
    · cases wp
      · (have zz:=aI @t0 (aI @t1 (aI @t2 (aI @t3 (aI @t4 (aI @t10 (aI @t11 (aI @t12 (aI @t13 @t14)))))))); repeat' (first | refine zW ?_ | apply a_n | refine zO ?_ | refine vZ ?_ | refine gFZ ?_ | refine cFZ ?_ | fail)) <;> (try clear zz)
        exact ⟨M,hpi,hps,(have zz:=@t0; evZ),(have zz:=@t1; evZ),(have zz:=@t2; evZ),(have zz:=@t3; evZ),(have zz:=@t4; evZ),(have zz:=@t10; evZ),(have zz:=@t11; evZ),(have zz:=@t12; evZ),(have zz:=@t13; evZ)⟩
      · (have zz:=aI @t0 (aI @t1 (aI @t2 (aI @t3 (aI @t4 (aI @t10 (aI @t11 (aI @t12 (aI @t13 @t14)))))))); repeat' (first | refine zW ?_ | apply a_n | refine zO ?_ | refine vZ ?_ | refine gFZ ?_ | refine cFZ ?_ | fail)) <;> (try clear zz)
        exact ⟨M,hpi,hps,(have zz:=@t0; evZ),(have zz:=@t1; evZ),(have zz:=@t2; evZ),(have zz:=@t3; evZ),(have zz:=@t4; evZ),(have zz:=@t10; evZ),(have zz:=@t11; evZ),(have zz:=@t12; evZ),(have zz:=@t13; evZ)⟩
    · cases wp
      · (have zz:=aI @t0 (aI @t1 (aI @t2 (aI @t3 (aI @t4 (aI @t10 (aI @t11 (aI @t12 (aI @t13 @t14)))))))); repeat' (first | refine zW ?_ | apply a_n | refine zO ?_ | refine vZ ?_ | refine gTZ ?_ | refine gFZ ?_ | refine cFZ ?_ | fail)) <;> (try clear zz)
        exact ⟨M,hpi,hps,(have zz:=@t0; evZ),(have zz:=@t1; evZ),(have zz:=@t2; evZ),(have zz:=@t3; evZ),(have zz:=@t4; evZ),(have zz:=@t10; evZ),(have zz:=@t11; evZ),(have zz:=@t12; evZ),(have zz:=@t13; evZ)⟩
      · by_cases h1:hint=1
        · subst h1
          have tz:decide ((1:Int)=1)=true:=rfl
          (have zz:=aI @t0 (aI @t1 (aI @t2 (aI @t3 (aI @t4 (aI @t10 (aI @t11 (aI @t12 (aI @t13 (aI @t14 @tz))))))))); repeat' (first | refine zW ?_ | apply a_n | refine zO ?_ | refine vZ ?_ | refine gTZ ?_ | (refine zGZ ?_ ?_ <;> (intro _hg; try (exfalso; omega))) | fail)) <;> (try clear zz)
          refine aD ev0 (have zz:=aI @t0 (aI @t1 (aI @t2 (aI @t3 (aI @t4 (aI @t10 (aI @t11 @t12)))))); evZ) (sg hc (b:=b) hps.at_ (hlen _ hpi) (hGA _ hpi) (a:=a1) (e:=e1) (by omega) (by omega) hn2 hpi.low) ?_
          rintro _ _ _ ⟨rfl,N,t,rfl,rfl,hpN,hsN⟩
          cases t
          · (have zz:=aI @t0 (aI @t1 (aI @t2 (aI @t3 (aI @t4 (aI @t10 (aI @t11 (aI @t12 (aI @t13 @t14)))))))); repeat' (first | apply a_n | refine zO ?_ | refine cFZ ?_ | fail)) <;> (try clear zz)
            exact ⟨N,hpi.swap hpN,hps.upd,(have zz:=@t0; evZ),(have zz:=@t1; evZ),(have zz:=@t2; evZ),(have zz:=@t3; evZ),(have zz:=@t4; evZ),(have zz:=@t10; evZ),(have zz:=@t11; evZ),(have zz:=@t12; evZ),(have zz:=@t13; evZ)⟩
          · (have zz:=aI @t0 (aI @t1 (aI @t2 (aI @t3 (aI @t4 (aI @t10 (aI @t11 (aI @t12 (aI @t13 @t14)))))))); repeat' (first | apply a_n | apply a_r | refine zO ?_ | refine cTZ ?_ | refine ae rfl ?_ | fail)) <;> (try clear zz)
            exact ⟨N,hps.upd,hpi.done hpN (hsN rfl)⟩
        · have tz:decide (hint=1)=false:=decide_eq_false h1
          (have zz:=aI @t0 (aI @t1 (aI @t2 (aI @t3 (aI @t4 (aI @t10 (aI @t11 (aI @t12 (aI @t13 (aI @t14 @tz))))))))); repeat' (first | refine zW ?_ | apply a_n | refine zO ?_ | refine vZ ?_ | refine gTZ ?_ | refine cFZ ?_ | fail)) <;> (try clear zz)
          exact ⟨M,hpi,hps,(have zz:=@t0; evZ),(have zz:=@t1; evZ),(have zz:=@t2; evZ),(have zz:=@t3; evZ),(have zz:=@t4; evZ),(have zz:=@t10; evZ),(have zz:=@t11; evZ),(have zz:=@t12; evZ),(have zz:=@t13; evZ)⟩
  clear t0 t1 t2 t3 t4 t10 t11 t12 t13 t14 hps hpi hint
  rintro T H1 n1 ⟨M,hpi,hps,t0,t1,t2,t3,t4,t10,t11,t12,t13⟩
  have hbb:=hps.at_
  have hl:=hlen _ hpi
  have hGM:=hGA _ hpi
  refine aJ (fun T H'' nx''=>T 0=.msl b (n * 3) 3 0 n∧T 1=.int .i64 (a1:Nat)∧T 2=.int .i64 (e1:Nat)∧T 3=.int .i64 (lim:Nat)∧T 4=.func g caps∧T 10=.bool wb∧T 11=.bool wp∧T 12=.int .i64 (l:Nat)∧T 13=.int .i64 (p:Nat)∧H1=H''∧n1=nx'') ?_ ?_
  · by_cases ha0:a1=0
    · have tz:decide ((0:Int) < (a1:Int))=false:=decide_eq_false (by omega)
      (have zz:=aI @t0 (aI @t1 (aI @t2 (aI @t3 (aI @t4 (aI @t10 (aI @t11 (aI @t12 (aI @t13 @tz)))))))); repeat' (first | refine zW ?_ | refine zM ?_ | apply a_n | refine zO ?_ | refine vZ ?_ | refine gFZ ?_ | refine cFZ ?_ | fail)) <;> (try clear zz)
      exact ⟨(have zz:=@t0; evZ),(have zz:=@t1; evZ),(have zz:=@t2; evZ),(have zz:=@t3; evZ),(have zz:=@t4; evZ),(have zz:=@t10; evZ),(have zz:=@t11; evZ),(have zz:=@t12; evZ),(have zz:=@t13; evZ),rfl,rfl⟩
    have tz:decide ((0:Int) < (a1:Int))=true:=decide_eq_true (by omega)
    obtain ⟨k,hk⟩:∃ k,a1 - 1=k:=⟨_,rfl⟩
    have tk:(a1:Int) - 1=(k:Int):=by omega
    have lc:=hc.run (M.getD k default) (M.getD p default) (hGM _ (ai (by omega))) (hGM _ (ai (by omega)))
    have d1:=hc.dat (M.getD k default)
    have d2:=hc.dat (M.getD p default)
    generalize hKK:K (M.getD k default) (M.getD p default)=kk at lc
    by_cases hlt:kk < 0
    · (have zz:=aI @t0 (aI @t1 (aI @t2 (aI @t3 (aI @t4 (aI @t10 (aI @t11 (aI @t12 (aI @t13 (aI @tz (aI @tk (aI @hbb (aI @Int.toNat_natCast (aI (rdC hc.len) (aI (a8 hc.len) (aI @bk (aI hc.agg hc.ones)))))))))))))))); repeat' (first | refine zW ?_ | refine zM ?_ | apply a_n | refine zO ?_ | refine vZ ?_ | refine cZ ?_ (hp:=lc) (hs:=by (first | refine aj ?_ rfl | apply aq); (repeat' (first | exact ag | apply aC | apply av | exact d1 | exact d2 | exact ar dcap)); first | done | fail) | refine gTZ ?_ | (refine zGZ ?_ ?_ <;> (intro _hg; try (exfalso; omega))) | fail)) <;> (try clear zz)
      exact ⟨(have zz:=@t0; evZ),(have zz:=@t1; evZ),(have zz:=@t2; evZ),(have zz:=@t3; evZ),(have zz:=@t4; evZ),(have zz:=@t10; evZ),(have zz:=@t11; evZ),(have zz:=@t12; evZ),(have zz:=@t13; evZ),rfl,rfl⟩
    · (have zz:=aI @t0 (aI @t1 (aI @t2 (aI @t3 (aI @t4 (aI @t10 (aI @t11 (aI @t12 (aI @t13 (aI @tz (aI @tk (aI @hbb (aI @Int.toNat_natCast (aI (rdC hc.len) (aI (a8 hc.len) (aI @bk (aI hc.agg hc.ones)))))))))))))))); repeat' (first | refine zW ?_ | refine zM ?_ | apply a_n | refine zO ?_ | refine vZ ?_ | refine cZ ?_ (hp:=lc) (hs:=by (first | refine aj ?_ rfl | apply aq); (repeat' (first | exact ag | apply aC | apply av | exact d1 | exact d2 | exact ar dcap)); first | done | fail) | refine gTZ ?_ | (refine zGZ ?_ ?_ <;> (intro _hg; try (exfalso; omega))) | fail)) <;> (try clear zz)
      refine aD ev0 (have zz:=aI @t0 (aI @t1 (aI @t2 (aI @t3 (aI @t4 (aI @t10 (aI @t11 (aI @t12 @t13))))))); evZ) (uj hc (b:=b) hps.at_ (hlen _ hpi) (hGA _ hpi) (a:=a1) (e:=e1) (pv:=p) (by omega) (by omega) hn2 ⟨hp1,hp2⟩) ?_
      rintro _ _ _ ⟨rfl,N,m,rfl,hm1,hm2,rfl,hpN,q1,q2⟩
      (have zz:=aI @t0 (aI @t1 (aI @t2 (aI @t3 (aI @t4 (aI @t10 (aI @t11 (aI @t12 @t13))))))); repeat' (first | refine zW ?_ | apply a_n | apply a_x | refine zO ?_ | refine vZ ?_ | fail)) <;> (try clear zz)
      exact ⟨(m,e1,lim,wb,wp,N),by dsimp only; omega,⟨hpi.equal hc.ord hpN (by rw [hk,hKK]; exact hlt) (by omega) ⟨hm1,hm2⟩ q1 q2,hps.upd,hlim⟩,(have zz:=aI @t0 (aI @t1 (aI @t2 (aI @t3 (aI @t4 (aI @t10 (aI @t11 @t12)))))); agZ)⟩
  clear t0 t1 t2 t3 t4 t10 t11 t12 t13
  rintro T _ _ ⟨t0,t1,t2,t3,t4,t10,t11,t12,t13,rfl,rfl⟩
  refine aJ (fun T H'' nx''=>∃ (M:List α) (m:Nat) (t:Bool),PI K a e L a1 e1 M∧TwoS K a1 e1 m M∧PS H H'' nx nx'' b (M.c3 f)∧T 0=.msl b (n * 3) 3 0 n∧T 1=.int .i64 (a1:Nat)∧T 2=.int .i64 (e1:Nat)∧T 3=.int .i64 (lim:Nat)∧T 4=.func g caps∧T 10=.bool wb∧T 11=.bool wp∧T 12=.int .i64 (l:Nat)∧T 16=.int .i64 (m:Nat)∧T 17=.bool t) ?_ ?_
  · (have zz:=aI @t0 (aI @t1 (aI @t2 (aI @t3 (aI @t4 (aI @t10 (aI @t11 (aI @t12 @t13))))))); repeat' (first | apply a_n | refine zO ?_ | refine vZ ?_ | fail)) <;> (try clear zz)
    refine aD ev0 (have zz:=aI @t0 (aI @t1 (aI @t2 (aI @t3 (aI @t4 (aI @t10 (aI @t11 (aI @t12 @t13))))))); evZ) (xX hc (b:=b) hps.at_ (hlen _ hpi) (hGA _ hpi) (a:=a1) (e:=e1) (pv:=p) (by omega) (by omega) hn2 ⟨hp1,hp2⟩) ?_
    rintro _ _ _ ⟨rfl,N,m,t,rfl,hm1,hm2,rfl,hpN,q1,q2⟩
    (have zz:=aI @t0 (aI @t1 (aI @t2 (aI @t3 (aI @t4 (aI @t10 (aI @t11 (aI @t12 @t13))))))); repeat' (first | apply a_n | refine zO ?_ | refine vZ ?_ | fail)) <;> (try clear zz)
    exact ⟨N,m,t,hpi.swap hpN,⟨⟨hm1,hm2⟩,fun p k1 k2=>hc.ord.asym _ _ (q1 p k1 k2),q2⟩,hps.upd,(have zz:=@t0; evZ),(have zz:=@t1; evZ),(have zz:=@t2; evZ),(have zz:=@t3; evZ),(have zz:=@t4; evZ),(have zz:=@t10; evZ),(have zz:=@t11; evZ),(have zz:=@t12; evZ),ev0,ev0⟩
  clear t0 t1 t2 t3 t4 t10 t11 t12 t13 hbb hl hGM hpi hps hp1 hp2 p
  rintro T H1 n1 ⟨M,m,t,hpi,hts,hps,t0,t1,t2,t3,t4,t10,t11,t12,t16,t17⟩
  have hm:=hts.mid
  have hl:=hlen _ hpi
  have tq:aW .quo false false (.int .i64 (l:Int)) (.int .i64 8)=some (.int .i64 ((l / 8:Nat):Int)):=by
    rw [fD (by omega) (by omega) (by omega)]
    congr 2
  have tm:(m:Int) + 1=((m + 1:Nat):Int):=by omega
  by_cases hlr:(m:Int) - (a1:Int) < (e1:Int) - (m:Int)
  · have tz:decide ((m:Int) - (a1:Int) < (e1:Int) - (m:Int))=true:=decide_eq_true hlr
    (have zz:=aI @t0 (aI @t1 (aI @t2 (aI @t3 (aI @t4 (aI @t10 (aI @t11 (aI @t12 (aI @t16 (aI @t17 (aI @tq @tz)))))))))); repeat' (first | refine zW ?_ | apply a_n | refine zO ?_ | refine vZ ?_ | refine cTZ ?_ | fail)) <;> (try clear zz)
    refine aD ev0 (have zz:=aI @t0 (aI @t1 (aI @t2 (aI @t3 (aI @t4 (aI @t10 (aI @t11 (aI @t12 (aI @t16 @t17)))))))); evZ) (ih a1 m lim M H1 n1 (by omega) hps.at_ (hbn _ _ _ hps) hl (hGA _ hpi) (by omega) (by omega) hlim (hpi.low.sub rfl (by omega))) ?_
    rintro _ H2 n2 ⟨N,hps2,hpN,hsN⟩
    (have zz:=aI @t0 (aI @t1 (aI @t2 (aI @t3 (aI @t4 (aI @t10 (aI @t11 (aI @t12 (aI @t16 (aI @t17 @tm))))))))); repeat' (first | apply a_n | refine zO ?_ | refine vZ ?_ | fail)) <;> (try clear zz)
    exact ⟨(m + 1,e1,lim,decide (((l / 8:Nat):Int) ≤ (m:Int) - (a1:Int)),t,N),by dsimp only; omega,⟨hpi.left hc.ord hts hpN hsN,hps.rec_ hps2.at_ hps2.fr hps2.le,hlim⟩,(have zz:=aI @t0 (aI @t1 (aI @t2 (aI @t3 (aI @t4 (aI @t10 (aI @t11 (aI @t12 (aI @t16 @t17)))))))); agZ)⟩
  · have tz:decide ((m:Int) - (a1:Int) < (e1:Int) - (m:Int))=false:=decide_eq_false hlr
    (have zz:=aI @t0 (aI @t1 (aI @t2 (aI @t3 (aI @t4 (aI @t10 (aI @t11 (aI @t12 (aI @t16 (aI @t17 (aI @tq (aI @tz @tm))))))))))); repeat' (first | refine zW ?_ | apply a_n | refine zO ?_ | refine vZ ?_ | refine cFZ ?_ | fail)) <;> (try clear zz)
    refine aD ev0 (have zz:=aI @t0 (aI @t1 (aI @t2 (aI @t3 (aI @t4 (aI @t10 (aI @t11 (aI @t12 (aI @t16 @t17)))))))); evZ) (ih (m + 1) e1 lim M H1 n1 (by omega) hps.at_ (hbn _ _ _ hps) hl (hGA _ hpi) (by omega) (by omega) hlim (fun q k0 k1 k2=>by rw [Nat.add_sub_cancel]; exact hts.ge q k1 k2)) ?_
    rintro _ H2 n2 ⟨N,hps2,hpN,hsN⟩
    (have zz:=aI @t0 (aI @t1 (aI @t2 (aI @t3 (aI @t4 (aI @t10 (aI @t11 (aI @t12 (aI @t16 @t17)))))))); repeat' (first | apply a_n | refine zO ?_ | refine vZ ?_ | fail)) <;> (try clear zz)
    exact ⟨(a1,m,lim,decide (((l / 8:Nat):Int) ≤ (e1:Int) - (m:Int)),t,N),by dsimp only; omega,⟨hpi.right hc.ord hts hpN hsN,hps.rec_ hps2.at_ hps2.fr hps2.le,hlim⟩,(have zz:=aI @t0 (aI @t1 (aI @t2 (aI @t3 (aI @t4 (aI @t10 (aI @t11 (aI @t12 (aI @t16 @t17)))))))); agZ)⟩
end
end Go.Proofs.YtjgpfclngkcedaaGreat
namespace Go.Proofs.YtjgpfclngkcedaaGreat
open Go Go.Abs
open Nat (reduceEqDiff reduceAdd reduceLeDiff)
section
variable {α:Type} [Inhabited α] {f:α→AV} {K:α→α→Int} {G:α→Prop} {g:Nat} {caps:List AV}
attribute [local irreducible] aA af aV aQ aE aL ay aM aR ba Go.Abs.Fn aO Go.Abs.Pure ap aB Yl
theorem uX (hc:Cmp3 Tryz.prog f K G g caps) {L:List α} {H:Hp} {b nx n:Nat} (hH:H b=some (L.c3 f)) (hbx:b < nx) (hn:L.length=n) (hn0:0 < n) (hG:∀ x ∈ L,G x) (hn2:n ≤ 1000000000) :
    Abs.Fn Tryz.prog 62 [.msl b (n * 3) 3 0 n,.func g caps] H nx fun r H' nx'=>∃ L',PS H H' nx nx' b (L'.c3 f)∧L'.Perm L∧aP K 0 n L':=by
  refine Abs.Fn.of_c2 follows yN (Nat.le_of_ble_eq_true rfl) ?_
  simp only [b62,cO,cG,cN,cM,cD,cF,cB,aw,aG]
  have w:IntKind.wrap .u64 (n:Int)=n:=eS (by omega) (by omega)
  (have zz:=@w; repeat' (first | refine zW ?_ | apply a_n | refine zO ?_ | refine vZ ?_ | fail)) <;> (try clear zz)
  refine aD ev0 (have zz:=@w; evZ) (uo hn0 (by omega)) ?_
  rintro _ _ _ ⟨rfl,rfl,k,rfl,h3,h4⟩
  have hk:k ≤ 62:=by
    rcases Nat.lt_or_ge 62 k with h | h
    · have:=Nat.pow_le_pow_right (n:=2) (by omega) h
      omega
    · exact h
  (have zz:=and_self; repeat' (first | apply a_n | refine zO ?_ | refine vZ ?_ | fail)) <;> (try clear zz)
  refine aD ev0 (have zz:=@Int.natCast_zero; evZ) (zj hc hn2 (n + 1) 0 n k L _ _ (by omega) hH hbx hn hG (by omega) (Nat.le_refl _) (by omega) (fun q h=>by omega)) ?_
  rintro _ _ _ ⟨N,hps,hp,hs⟩
  (have zz:=and_self; repeat' (first | apply a_n | refine zO ?_ | refine ae rfl ?_ | fail)) <;> (try clear zz)
  exact ⟨N,hps,hp.perm,hs⟩
end
end Go.Proofs.YtjgpfclngkcedaaGreat
namespace Go.Proofs.YtjgpfclngkcedaaGreat
open Go Go.Abs
open Nat (reduceEqDiff reduceAdd reduceLeDiff)
def zu (l:List Int) (i:Nat):Int:=if l.getD i default < 0 ∨ (l.length:Int) ≤ l.getD i default then 2 else if (l.take i).any (fun x=>decide (x=l.getD i default)) then 7 else 0
def wQ (l:List Int):Int:=if l.length < 1 ∨ 5 < l.length then 2 else bG (zu l) l.length
attribute [local irreducible] aA af aV aQ aE aL ay aM aR ba Go.Abs.Fn aO Go.Abs.Pure ap aB Yl
end Go.Proofs.YtjgpfclngkcedaaGreat
namespace Go.Proofs.YtjgpfclngkcedaaGreat
open Go Go.Abs
open Nat (reduceEqDiff reduceAdd reduceLeDiff)
section
variable {α:Type} [Inhabited α] {K:α→α→Int}
def eu (K:α→α→Int) (l:List α) (v:α):Nat→Nat
  | 0=>0
  | k + 1=>if K v (l.getD k default) < 0 then eu K l v k else k + 1
def gF (K:α→α→Int) (l:List α) (v:α):List α:=l.take (eu K l v l.length) ++ v :: l.drop (eu K l v l.length)
def gA (K:α→α→Int) (l:List α):List α:=l.foldl (gF K) []
theorem kX (l:List α) (v:α):∀ k,eu K l v k ≤ k
  | 0=>Nat.le_refl _
  | k + 1=>by
    rw [eu]
    split
    · exact Nat.le_succ_of_le (kX l v k)
    · exact Nat.le_refl _
theorem l9 {l:List α} {v:α}:∀ {k i:Nat},eu K l v k ≤ i→i < k→K v (l.getD i default) < 0
  | 0,i,_,h=>absurd h (by omega)
  | k + 1,i,h1,h2=>by
    rw [eu] at h1
    split at h1
    · by_cases e:i=k
      · subst e; assumption
      · exact l9 h1 (by omega)
    · omega
theorem mJ {l:List α} {v:α}:∀ {k:Nat},0 < eu K l v k→¬ K v (l.getD (eu K l v k - 1) default) < 0
  | 0,h=>absurd h (Nat.lt_irrefl _)
  | k + 1,h=>by
    rw [eu] at h ⊢
    split
    · rename_i c
      rw [if_pos c] at h
      exact mJ h
    · rename_i c
      rw [Nat.add_sub_cancel]; exact c
theorem iu (l:List α) (v:α):(gF K l v).Perm (v :: l):=by
  unfold gF
  refine List.perm_middle.trans ?_
  rw [List.take_append_drop]
theorem um (l:List α) (v:α):(gF K l v).length=l.length + 1:=by
  rw [(iu l v).length_eq]; rfl
def bQ (K:α→α→Int) (l:List α):Prop:=l.Pairwise fun x y=>¬ K y x < 0
theorem bQ.of {l:List α} (h:aP K 0 l.length l):bQ K l:=by
  unfold bQ
  rw [List.pairwise_iff_getElem]
  intro i j hi hj hij
  have:=h i j (Nat.zero_le _) hij hj
  simpa [List.getD,hi,hj] using this
theorem kF (hK:Ord K) {l:List α} {v:α} (h:bQ K l):bQ K (gF K l v):=by
  unfold gF
  have hle:=kX (K:=K) l v l.length
  have hab:∀ i,eu K l v l.length ≤ i→i < l.length→K v (l.getD i default) < 0:=fun i h1 h2=>l9 h1 h2
  have hbe:0 < eu K l v l.length→¬ K v (l.getD (eu K l v l.length - 1) default) < 0:=fun h=>mJ h
  generalize eu K l v l.length=k at *
  have hs:∀ i j (hi:i < l.length) (hj:j < l.length),i < j→¬ K l[j] l[i] < 0:=List.pairwise_iff_getElem.1 h
  have hlow:∀ x ∈ l.take k,¬ K v x < 0:=fun x hx=>by
    obtain ⟨i,hi,rfl⟩:=List.getElem_of_mem hx
    rw [List.length_take] at hi
    rw [List.getElem_take]
    have hk:=hbe (by omega)
    have e:l.getD (k - 1) default=l[k - 1]'(by omega):=by simp [List.getD,show k - 1 < l.length by omega]
    rw [e] at hk
    by_cases hik:i=k - 1
    · subst hik; exact hk
    · exact hK.negtr _ _ _ (hs i (k - 1) (by omega) (by omega) (by omega)) hk
  have hup:∀ x ∈ l.drop k,K v x < 0:=fun x hx=>by
    obtain ⟨i,hi,rfl⟩:=List.getElem_of_mem hx
    rw [List.length_drop] at hi
    rw [List.getElem_drop]
    have:=hab (k + i) (by omega) (by omega)
    simpa [List.getD,show k + i < l.length by omega] using this
  unfold bQ
  rw [List.pairwise_append,List.pairwise_cons]
  refine ⟨List.Pairwise.sublist (List.take_sublist _ _) h,⟨fun x hx=>hK.asym _ _ (hup x hx),List.Pairwise.sublist (List.drop_sublist _ _) h⟩,fun x hx y hy=>?_⟩
  rcases List.mem_cons.1 hy with rfl | hy
  · exact hlow x hx
  · exact hK.negtr _ _ _ (hlow x hx) (hK.asym _ _ (hup y hy))
theorem e8:∀ (l acc:List α),(l.foldl (gF K) acc).Perm (acc ++ l)
  | [],acc=>by simp
  | v :: l,acc=>by
    refine (e8 l (gF K acc v)).trans ?_
    refine (List.Perm.append_right l (iu acc v)).trans ?_
    rw [List.cons_append]
    exact List.perm_middle.symm
theorem ec (hK:Ord K):∀ (l acc:List α),bQ K acc→bQ K (l.foldl (gF K) acc)
  | [],acc,h=>h
  | v :: l,acc,h=>ec hK l (gF K acc v) (kF hK h)
theorem dD (l:List α):(gA K l).Perm l:=by
  have:=e8 (K:=K) l []
  rwa [List.nil_append] at this
theorem jq (hK:Ord K) (l:List α):bQ K (gA K l):=ec hK l [] .nil
theorem nr (l:List α):(gA K l).length=l.length:=(dD l).length_eq
theorem ga (hK:Ord K) {L L':List α} (hA:∀ x ∈ L,∀ y ∈ L,¬ K x y < 0→¬ K y x < 0→x=y) (hs:bQ K L') (hp:L'.Perm L):L'=gA K L :=
  List.Perm.eq_of_pairwise (fun x y hx hy hxy hyx=>hA x (hp.mem_iff.1 hx) y ((dD L).mem_iff.1 hy) hyx hxy) hs (jq hK L) (hp.trans (dD L).symm)
end
theorem mr:Ord aS where
  irr x:=by rw [b8]; omega
  asym x y h:=by rw [ea]; omega
  negtr x y z h1 h2 h3:=by
    rcases i4 y x with h | h | h
    · omega
    · have e:=ex h; subst e; exact h2 h3
    · have hxy:aS x y < 0:=by rw [ea]; omega
      have:=gQ h3 hxy
      omega
theorem od {x y:List Int} (h1:¬ aS x y < 0) (h2:¬ aS y x < 0):x=y:=by
  rw [ea] at h2
  exact ex (by omega)
abbrev uQ (l:List (List Int)):List (List Int):=gA aS l
theorem AP:Cmp Tryz.prog aK aS (fun l=>Sh l) 64 [] where
  cells _:=rfl
  one _:=rfl
  dat v:=bh v
  dcaps:=by simp
  run x y hx hy:=iA x y hx hy
  ord:=mr
attribute [local irreducible] aA af aV aQ aE aL ay aM aR ba Go.Abs.Fn aO Go.Abs.Pure ap aB Yl
theorem qN {l:List (List Int)} {k:Nat} (h:k ≤ l.length):iB 1 (ak l) none (some (.int .i64 k)) none=some (ak (l.take k)):=by
  have h2:¬ ((k:Int) < 0):=by omega
  simp [iB,ak,bi,h]
theorem qA {l:List (List Int)} {k:Nat} (h:k ≤ l.length):iB 1 (ak l) (some (.int .i64 k)) none none=some (ak (l.drop k)):=by
  have e:List.take l.length (l.map aK)=l.map aK:=List.take_of_length_le (by simp)
  simp [iB,ak,bi,h,e]
theorem sL (l:List (List Int)) (v:List Int) (hl:l.length ≤ 100000) (hv:Sh v) (hs:∀ x ∈ l,Sh x):Pure Tryz.prog 114 [ak l,aK v] (ak (gF aS l v)):=by
  refine Pure.of_c2 follows y8 (Nat.le_of_ble_eq_true rfl) ?_
  simp only [zb,cO,cG,cN,cM,cD,cF,cB,aw,aG]
  have hle:=kX (K:=aS) l v l.length
  unfold gF
  refine aJ (fun T H nx=>T 0=ak l∧T 1=aK v∧H=a9∧nx=0) ?_ ?_
  · (have zz:=and_self; repeat' (first | apply a_n | refine zO ?_ | refine vZ ?_ | fail)) <;> (try clear zz)
    exact ⟨rfl,rfl,rfl,rfl⟩
  rintro T H nx ⟨t0,t1,rfl,rfl⟩
  refine aJ (fun T H nx=>T 0=ak l∧T 1=aK v∧T 5=.int .i64 l.length∧H=a9∧nx=0) ?_ ?_
  · (have zz:=@t0; repeat' (first | apply a_n | refine zO ?_ | refine vZ ?_ | fail)) <;> (try clear zz)
    exact ⟨(have zz:=@t0; evZ),(have zz:=@t1; evZ),ev0,rfl,rfl⟩
  clear t0 t1
  rintro T H nx ⟨t0,t1,t5,rfl,rfl⟩
  refine aJ (fun T H nx=>T 0=ak l∧T 1=aK v∧T 5=.int .i64 (eu aS l v l.length:Nat)∧H=a9∧nx=0) ?_ ?_
  · (have zz:=and_self; repeat' (first | refine zW ?_ | apply a_n | refine zO ?_ | fail)) <;> (try clear zz)
    refine fR (X:=Nat) (fun k=>[(0,ak l),(1,aK v),(5,.int .i64 (k:Nat))]) (fun k=>k ≤ l.length∧eu aS l v l.length=eu aS l v k) (fun k=>k) l.length ⟨Nat.le_refl _,rfl⟩ (have zz:=aI @t0 (aI @t1 @t5); agZ) ?_
    rintro k ⟨hk,he⟩
    rcases Nat.eq_zero_or_pos k with h0 | h0
    · subst h0
      (have zz:=(show ((0:Nat):Int)=0 from rfl); repeat' (first | refine zW ?_ | apply a_n | apply a_x | refine zO ?_ | refine vZ ?_ | refine gFZ ?_ | (refine zGZ ?_ ?_ <;> (intro _hg; try (exfalso; omega))) | refine cFZ ?_ | fail)) <;> (try clear zz)
      exact ⟨rfl,rfl,by rw [he]; rfl,rfl,rfl⟩
    · obtain ⟨q,rfl⟩:∃ q,k=q + 1:=⟨k - 1,by omega⟩
      have tq:((q + 1:Nat):Int) - 1=(q:Int):=by omega
      have hO:=gn v (l.getD q default) hv (hs _ (ai (by omega)))
      have hst:eu aS l v (q + 1)=if aS v (l.getD q default) < 0 then eu aS l v q else q + 1:=rfl
      by_cases ho:aS v (l.getD q default) < 0
      · rw [if_pos ho] at hst
        have z:decide (aS v (l.getD q default) < 0)=true:=decide_eq_true ho
        have zp:decide ((0:Int) < ((q + 1:Nat):Int))=true:=decide_eq_true (by omega)
        (have zz:=aI @tq (aI @Int.toNat_natCast (aI @z @zp)); repeat' (first | refine zW ?_ | apply a_n | refine zO ?_ | refine vZ ?_ | refine cZ ?_ (hp:=hO) | refine gTZ ?_ | refine cTZ ?_ | fail)) <;> (try clear zz)
        exact ⟨q,⟨by omega,he.trans hst⟩,by omega,(have zz:=@tq; agZ),rfl,rfl⟩
      · rw [if_neg ho] at hst
        have z:decide (aS v (l.getD q default) < 0)=false:=decide_eq_false ho
        have zp:decide ((0:Int) < ((q + 1:Nat):Int))=true:=decide_eq_true (by omega)
        (have zz:=aI @tq (aI @Int.toNat_natCast (aI @z @zp)); repeat' (first | refine zW ?_ | apply a_n | apply a_x | refine zO ?_ | refine vZ ?_ | refine cZ ?_ (hp:=hO) | refine gTZ ?_ | refine cFZ ?_ | fail)) <;> (try clear zz)
        exact ⟨rfl,rfl,by rw [he,hst]; ((try simp only [br,ZA,reduceEqDiff,↓reduceIte,reduceAdd,reduceLeDiff]); (try with_reducible rfl)),rfl,rfl⟩
  clear t0 t1 t5
  rintro T H nx ⟨t0,t1,t5,rfl,rfl⟩
  generalize eu aS l v l.length=k at *
  have s1:=qN (l:=l) hle
  have s2:=qA (l:=l) hle
  have l1:(l.take k).length=k:=by rw [List.length_take]; omega
  have l2:(l.drop k).length=l.length - k:=by rw [List.length_drop]
  generalize l.take k=A at *
  generalize l.drop k=B at *
  (have zz:=aI @t0 (aI @t1 (aI @t5 (aI @s1 @s2))); repeat' (first | refine zW ?_ | apply a_n | refine zO ?_ | refine vZ ?_ | refine blZ ?_ | refine a0Z ?_ | fail)) <;> (try clear zz)
  have r1:Row (am (am a9 0 (A.map aK)) (0 + 1) [aK v]) 1 (.msl 0 A.length 1 0 A.length) (A.map aK):=by
    have h:=Row.box (H:=am (am a9 0 (A.map aK)) (0 + 1) [aK v]) (sz:=1) 0 A.length (A.map aK) (by rw [aa (by omega),au]) (by simp)
    rwa [Nat.mul_one] at h
  refine gz rfl ev0 r1 ev0 jD rfl rfl Nat.one_pos (by simp; omega) (by simp; omega) ?_
  rintro sv2 H2 n2 r2 - - - -
  (have zz:=aI @t0 (aI @t1 (aI @t5 @s2)); repeat' (first | refine zW ?_ | apply a_n | refine zO ?_ | refine vZ ?_ | fail)) <;> (try clear zz)
  refine gz rfl ev0 r2 ev0 f9 eY (by simp) Nat.one_pos (by simp; omega) (by simp; omega) ?_
  rintro sv3 H3 n3 r3 - - - -
  (have zz:=and_self; repeat' (first | apply a_n | refine zO ?_ | refine vZ ?_ | refine ae rfl ?_ | refine r1Z ?_ | fail)) <;> (try clear zz)
  refine Row.snapV ?_
  have e:(A ++ v :: B).map aK=(A.map aK ++ [aK v]) ++ B.map aK:=by simp
  rw [e]
  exact r3
end Go.Proofs.YtjgpfclngkcedaaGreat
namespace Go.Proofs.YtjgpfclngkcedaaGreat
open Go Go.Abs
open Nat (reduceEqDiff reduceAdd reduceLeDiff)
def KC (c d:CaseV):Int:=aS c.inp d.inp
theorem vR:Ord KC where
  irr x:=mr.irr x.inp
  asym x y:=mr.asym x.inp y.inp
  negtr x y z:=mr.negtr x.inp y.inp z.inp
def gw (b1:Nat) (c1:List AV) (b2:Nat) (c2:List AV):Hp:=fun b=>if b=b1 then some c1 else if b=b2 then some c2 else none
theorem io {H:Hp} {b1 b2:Nat} {c1 c2:List AV} (h1:H b1=some c1) (h2:H b2=some c2):Sub (gw b1 c1 b2 c2) H:=fun x c hx=>by
  unfold gw at hx
  split at hx
  · cases hx; subst_vars; exact h1
  · split at hx <;> cases hx
    subst_vars; exact h2
attribute [local irreducible] aA af aV aQ aE aL ay aM aR ba Go.Abs.Fn aO Go.Abs.Pure ap aB Yl
theorem lX {H:Hp} {B n:Nat} {M:List CaseV} (hB:H B=some (M.c3 bv)) (hM:M.length=n):Snap H (.msl B (n * 3) 3 0 n) (aF M):=by
  subst hM
  refine Row.snap (elems:=M.map bv) ?_ (fun y hy=>?_) (by omega) (fun y hy c hc=>?_)
  · rw [List.flatMap_map]
    exact .box B M.length _ hB (a8 (fun _=>rfl) M)
  · obtain ⟨x,_,rfl⟩:=List.mem_map.1 hy; rfl
  · obtain ⟨x,_,rfl⟩:=List.mem_map.1 hy
    simp only [bv,AV.cells,List.mem_cons,List.not_mem_nil,or_false] at hc
    rcases hc with rfl | rfl | rfl
    · exact bh _
    · exact aU _
    · exact aU _
end Go.Proofs.YtjgpfclngkcedaaGreat
namespace Go.Proofs.YtjgpfclngkcedaaGreat
open Go Go.Abs
open Nat (reduceEqDiff reduceAdd reduceLeDiff)
section
variable {P:Program} {T:Tm} {H:Hp} {nx:Nat}
end
theorem jX {H:Hp} {sv:AV} {M:List CaseV} (h:Row H 3 sv (M.c3 bv)):Snap H sv (aF M):=by
  refine Row.snap (elems:=M.map bv) (by rw [List.flatMap_map]; exact h) (fun y hy=>?_) (by omega) (fun y hy c hc=>?_)
  · obtain ⟨x,_,rfl⟩:=List.mem_map.1 hy; rfl
  · obtain ⟨x,_,rfl⟩:=List.mem_map.1 hy
    simp only [bv,AV.cells,List.mem_cons,List.not_mem_nil,or_false] at hc
    rcases hc with rfl | rfl | rfl
    · exact bh _
    · exact aU _
    · exact aU _
theorem rg (M:List CaseV):AV.ones (M.c3 bv)=true:=by
  unfold AV.ones
  rw [List.all_eq_true]
  intro y hy
  obtain ⟨x,_,hx⟩:=List.mem_flatMap.1 hy
  simp only [bv,AV.cells,List.mem_cons,List.not_mem_nil,or_false] at hx
  rcases hx with rfl | rfl | rfl <;> rfl
theorem ow (A B:List CaseV):(A ++ B).c3 bv=A.c3 bv ++ B.c3 bv:=List.flatMap_append
attribute [local irreducible] aA af aV aQ aE aL ay aM aR ba Go.Abs.Fn aO Go.Abs.Pure ap aB Yl
end Go.Proofs.YtjgpfclngkcedaaGreat
namespace Go.Proofs.YtjgpfclngkcedaaGreat
open Go Go.Abs
attribute [local irreducible] aA af aV aQ aE aL ay aM aR ba Go.Abs.Fn aO Go.Abs.Pure ap aB Yl
end Go.Proofs.YtjgpfclngkcedaaGreat
namespace Go.Proofs.YtjgpfclngkcedaaGreat
open Go Go.Abs
attribute [local irreducible] aA af aV aQ aE aL ay aM aR ba Go.Abs.Fn aO Go.Abs.Pure ap aB Yl
def dd (l:List Int):Nat→List Int
  | 0=>[]
  | k + 1=>dd l k ++ if k=0 ∨ l.getD k default ≠ l.getD (k - 1) default then [l.getD k default] else []
end Go.Proofs.YtjgpfclngkcedaaGreat
namespace Go.Proofs.YtjgpfclngkcedaaGreat
open Go Go.Abs
def inV (l:List (List Int)) (p v:Nat):Bool:=l.any fun w=>decide (w.getD p default=(v:Int))
def vals (l:List (List Int)) (p o:Nat):List Int:=((List.range o).filter (inV l p)).map Int.ofNat
attribute [local irreducible] aA af aV aQ aE aL ay aM aR ba Go.Abs.Fn aO Go.Abs.Pure ap aB Yl
end Go.Proofs.YtjgpfclngkcedaaGreat
namespace Go.Proofs.YtjgpfclngkcedaaGreat
open Go Go.Abs
attribute [local irreducible] aA af aV aQ aE aL ay aM aR ba Go.Abs.Fn aO Go.Abs.Pure ap aB Yl
end Go.Proofs.YtjgpfclngkcedaaGreat
namespace Go.Proofs.YtjgpfclngkcedaaGreat
open Go Go.Abs
attribute [local irreducible] aA af aV aQ aE aL ay aM aR ba Go.Abs.Fn aO Go.Abs.Pure ap aB Yl
end Go.Proofs.YtjgpfclngkcedaaGreat
namespace Go.Proofs.YtjgpfclngkcedaaGreat
open Go Go.Abs
end Go.Proofs.YtjgpfclngkcedaaGreat
namespace Go.Proofs.YtjgpfclngkcedaaGreat
open Go Go.Abs
structure PlaceV where
  index:Int
  faulty:Int
  proc:Int
  outs:List Int
attribute [local irreducible] aA af aV aQ aE aL ay aM aR ba Go.Abs.Fn aO Go.Abs.Pure ap aB Yl
end Go.Proofs.YtjgpfclngkcedaaGreat
namespace Go.Proofs.YtjgpfclngkcedaaGreat
open Go Go.Abs
attribute [local irreducible] aA af aV aQ aE aL ay aM aR ba Go.Abs.Fn aO Go.Abs.Pure ap aB Yl
theorem n5:Sh T00.cases∧∀ c ∈ T00.cases,ShC c:=⟨Nat.zero_le _,fun c hc=>(by cases hc)⟩
end Go.Proofs.YtjgpfclngkcedaaGreat
namespace Go.Proofs.YtjgpfclngkcedaaGreat
open Go Go.Abs
attribute [local irreducible] aA af aV aQ aE aL ay aM aR ba Go.Abs.Fn aO Go.Abs.Pure ap aB Yl
end Go.Proofs.YtjgpfclngkcedaaGreat
namespace Go.Proofs.YtjgpfclngkcedaaGreat
open Go Go.Abs
section
variable {p:List Int}
end
theorem qb {l:List (List Int)} (h:∀ i,i < l.length→bS l i=false):bQ aS l:=by
  unfold bQ
  rw [List.pairwise_iff_getElem]
  intro i j hi hj hij
  have:=nZ h j i hij hj
  rw [show l.getD i default=l[i] by simp [List.getD,hi],show l.getD j default=l[j] by simp [List.getD,hj]] at this
  exact mr.asym _ _ this
theorem rT {l:List (List Int)} (h:∀ i,i < l.length→bS l i=false):l.Nodup:=by
  rw [List.nodup_iff_pairwise_ne,List.pairwise_iff_getElem]
  intro i j hi hj hij e
  have:=nZ h j i hij hj
  rw [show l.getD i default=l[i] by simp [List.getD,hi],show l.getD j default=l[j] by simp [List.getD,hj],e,b8] at this
  omega
theorem ig {n outs:Int} {c:CaseV} (h:bE n outs c=0):(1 ≤ c.out.length∧c.out.length ≤ 1024)∧(∀ v ∈ c.out,bf v n outs=0)∧(∀ i,i < c.out.length→bS c.out i=false)∧(∀ v ∈ c.calm,v ∈ c.out)∧(∀ i,i < c.calm.length→bS c.calm i=false):=by
  unfold bE at h
  split at h
  · exact absurd h (by decide)
  rename_i g1
  split at h
  · exact absurd h ‹_›
  rename_i g2
  have o0:=dA (Decidable.of_not_not g2)
  have c0:=dA h
  have o1:∀ j,j < c.out.length→bf (c.out.getD j default) n outs=0∧bS c.out j=false:=fun j hj=>by
    have:=o0 j hj
    unfold gG at this
    split at this
    · exact absurd this ‹_›
    · rename_i g3
      split at this
      · exact absurd this (by decide)
      · rename_i g4
        exact ⟨Decidable.of_not_not g3,by simpa using g4⟩
  have c1:∀ j,j < c.calm.length→c.calm.getD j default ∈ c.out∧bS c.calm j=false:=fun j hj=>by
    have:=c0 j hj
    unfold gC at this
    split at this
    · rename_i g3
      split at this
      · exact absurd this (by decide)
      · rename_i g4
        exact ⟨g3,by simpa using g4⟩
    · exact absurd this (by decide)
  refine ⟨by omega,fun v hv=>?_,fun i hi=>(o1 i hi).2,fun v hv=>?_,fun i hi=>(c1 i hi).2⟩
  · obtain ⟨j,hj,rfl⟩:=List.getElem_of_mem hv
    have:=(o1 j hj).1
    rwa [show c.out.getD j default=c.out[j] by simp [List.getD,hj]] at this
  · obtain ⟨j,hj,rfl⟩:=List.getElem_of_mem hv
    have:=(c1 j hj).1
    rwa [show c.calm.getD j default=c.calm[j] by simp [List.getD,hj]] at this
section
variable {p:List Int} (hp:wQ p=0)
include hp
end
theorem nY {t:TaskV} (h:bb t=0):bQ KC t.cases:=by
  unfold bQ
  rw [List.pairwise_iff_getElem]
  intro i j hi hj hij
  have:=i8 h j i hij hj
  rw [show t.cases.getD i default=t.cases[i] by simp [List.getD,hi],show t.cases.getD j default=t.cases[j] by simp [List.getD,hj]] at this
  exact mr.asym _ _ this
theorem oY {t:TaskV} (h:bb t=0) {c d:CaseV} (hc:c ∈ t.cases) (hd:d ∈ t.cases) (e:c.inp=d.inp):c=d:=by
  obtain ⟨i,hi,rfl⟩:=List.getElem_of_mem hc
  obtain ⟨j,hj,rfl⟩:=List.getElem_of_mem hd
  have ei:t.cases.getD i default=t.cases[i]:=by simp [List.getD,hi]
  have ej:t.cases.getD j default=t.cases[j]:=by simp [List.getD,hj]
  have:=uV h hi hj (by rw [ei,ej]; exact e)
  subst this; rfl
theorem lk {t:TaskV} (h:bb t=0) {c:CaseV} (hc:c ∈ t.cases):bf c.inp t.n t.ins=0∧bE t.n t.outs c=0:=by
  obtain ⟨i,hi,rfl⟩:=List.getElem_of_mem hc
  have:=(fm h).2.2 i hi
  rwa [show t.cases.getD i default=t.cases[i] by simp [List.getD,hi]] at this
section
variable {t:TaskV} {p:List Int} (h:bb t=0) (hp:wQ p=0) (hn:(p.length:Int)=t.n)
include h hp hn
end
end Go.Proofs.YtjgpfclngkcedaaGreat
namespace Go.Proofs.YtjgpfclngkcedaaGreat
open Go Go.Abs
open Nat (reduceEqDiff reduceAdd reduceLeDiff)
def bM (i:List Int) (x y:List (List Int)):CaseV:=⟨i,x,if x=y then [] else y⟩
def iV (F:List (List Int)→List (List Int)→List (List Int)) (b:TaskV) (c:CaseV):Option CaseV:=(bC b c.inp).map fun d=>bM c.inp (F c.out d.out) (F (ax c 0) (ax d 0))
def dg (F:List (List Int)→List (List Int)→List (List Int)) (b:TaskV) (c:CaseV):Bool:=match bC b c.inp with
  | none=>true
  | some d=>decide (0 < (F c.out d.out).length) && decide (0 < (F (ax c 0) (ax d 0)).length)
def eA (F:List (List Int)→List (List Int)→List (List Int)) (b:TaskV) (c:CaseV):Bool:=match bC b c.inp with
  | none=>false
  | some d=>decide (1024 < (F c.out d.out).length) || decide (1024 < (F (ax c 0) (ax d 0)).length)
def bB (F:List (List Int)→List (List Int)→List (List Int)) (b:TaskV) (l:List CaseV):List CaseV:=l.filterMap (iV F b)
def aY (x y:List (List Int)):List (List Int):=x.filter fun v=>decide (v ∈ y)
theorem mN {l:List CaseV} {p:CaseV→Bool} {k:Nat} (h:k < l.length):(l.take (k + 1)).all p=((l.take k).all p && p (l.getD k default)):=by
  rw [bV h,List.all_append]; simp
theorem mR {l:List CaseV} {p:CaseV→Bool} {k:Nat} (h:k < l.length):(l.take (k + 1)).any p=((l.take k).any p || p (l.getD k default)):=by
  rw [bV h,List.any_append]; simp
theorem hU {F:List (List Int)→List (List Int)→List (List Int)} {b:TaskV} {l:List CaseV} {k:Nat} (h:k < l.length):bB F b (l.take (k + 1))=bB F b (l.take k) ++ (iV F b (l.getD k default)).toList:=by
  rw [bV h]
  unfold bB
  rw [List.filterMap_append]
  congr 1
theorem lG {α:Type} {p:α→Bool} {v:α}:[v].filter p=if p v then [v] else []:=by cases h:p v <;> simp [h]
theorem d7 {F:List (List Int)→List (List Int)→List (List Int)} {b:TaskV} {l:List CaseV}:(bB F b l).length ≤ l.length:=List.length_filterMap_le _ _
attribute [local irreducible] aA af aV aQ aE aL ay aM aR ba Go.Abs.Fn aO Go.Abs.Pure ap aB Yl
theorem vQ (v w:List Int) (hv:Sh v) (hw:Sh w):Pure Tryz.prog 104 [aK w,.iptr [aK v] 0] (.bool (decide (w=v))):=by
  refine Pure.of_c2 follows v4 (Nat.le_of_ble_eq_true rfl) ?_
  simp only [xM,cO,cG,cN,cM,cD,cF,cB,aw,aG]
  (have zz:=and_self; repeat' (first | refine zW ?_ | apply a_n | refine zO ?_ | refine vZ ?_ | refine cZ ?_ (hp:=by exact ie _ _ hv hw) | refine ae rfl ?_ | refine r1Z ?_ | fail)) <;> (try clear zz)
  exact bN (decide_eq_decide.2 ⟨fun h=>h.symm,fun h=>h.symm⟩)
theorem yt (l:List (List Int)) (v:List Int) (hl:Sh l) (hs:∀ x ∈ l,Sh x) (hv:Sh v):Pure Tryz.prog 51 [ak l,aK v] (.bool (decide (v ∈ l))):=by
  refine Pure.of_c2 follows yR (Nat.le_of_ble_eq_true rfl) ?_
  simp only [b51,cO,cG,cN,cM,cD,cF,cB,aw,aG]
  rw [← nF]
  (have zz:=and_self; repeat' (first | refine zW ?_ | apply a_n | refine zO ?_ | refine vZ ?_ | refine bxZ ?_ | fail)) <;> (try clear zz)
  refine dy ev0 ev0 (jt l (fun x=>decide (x=v)) 104 [.iptr [aK v] 0] (DatL.cons (Dat.iptr (DatL.cons (bh _) DatL.nil)) DatL.nil) (fun x hx=>vQ v x hv (hs x hx)) hl) (aj (by (repeat' (first | exact ag | exact Dat.snap Dat.int | exact Dat.snap Dat.bool | exact Dat.snap Dat.str | exact Dat.snap Dat.esl | exact Dat.snap Dat.nilf | exact Dat.snap (bh _) | exact Dat.snap (aU _) | apply az | apply dM | apply dI | (apply dV; (focus ((try simp only [br,ZA,reduceEqDiff,↓reduceIte,reduceAdd,reduceLeDiff]); with_reducible rfl)); (focus rfl))))) rfl) ?_
  (have zz:=and_self; repeat' (first | apply a_n | refine zO ?_ | refine vZ ?_ | refine ae rfl ?_ | refine r1Z ?_ | fail)) <;> (try clear zz)
  exact .bool _
theorem vA (l:List (List Int)) (p:List Int→Bool) (g:Nat) (caps:List AV) (hd:∀ x ∈ caps,Dat x) (hg:∀ x ∈ l,Pure Tryz.prog g (aK x :: caps) (.bool (p x))) (hl:l.length ≤ 100000):Pure Tryz.prog 49 [ak l,.func g caps] (ak (l.filter p)):=by
  refine Pure.of_c2 follows yM (Nat.le_of_ble_eq_true rfl) ?_
  simp only [b49,cO,cG,cN,cM,cD,cF,cB,aw,aG]
  (have zz:=and_self; repeat' (first | refine zW ?_ | apply a_n | refine zO ?_ | refine vZ ?_ | fail)) <;> (try clear zz)
  refine be (X:=AV × Nat) (fun x=>[(0,ak l),(1,.func g caps),(5,x.1),(8,ak l),(9,.int .i64 l.length),(10,.int .i64 x.2)]) (fun x H nx=>x.2 ≤ l.length∧Row H 1 x.1 (((l.take x.2).filter p).map aK)∧∀ b,dZ x.1=some b→b < nx) (fun x=>l.length - x.2) (.esl,0) ⟨Nat.zero_le _,Row.nil,fun b hb=>(by cases hb)⟩ ag0 ?_
  rintro ⟨s,j⟩ H nx ⟨h1,h2,h3⟩
  dsimp only at h1 h2 h3 ⊢
  by_cases hj:j < l.length
  rotate_left
  · (have zz:=@h1; repeat' (first | refine zW ?_ | apply a_n | apply a_x | refine zO ?_ | refine vY ?_ | (refine zGY ?_ ?_ <;> (intro _hg; try (exfalso; omega))) | refine ae rfl ?_ | refine r1Y ?_ | fail)) <;> (try clear zz)
    rw [List.take_of_length_le (by omega)] at h2
    exact h2.snapV
  have hw:=ai hj
  have hc:=hg _ hw
  have hst:(l.take (j + 1)).filter p=(l.take j).filter p ++ (if p (l.getD j default) then [l.getD j default] else []):=by
    rw [bV hj,List.filter_append,lG]
  have hlen:((l.take j).filter p).length ≤ l.length:=Nat.le_trans (List.length_filter_le _ _) (by rw [List.length_take]; omega)
  cases hp:p (l.getD j default)
  · rw [hp] at hc hst
    (have zz:=@h1; repeat' (first | refine zW ?_ | apply a_n | refine zO ?_ | refine vY ?_ | refine cY ?_ (hp:=hc) (hs:=by (first | refine aj ?_ rfl | apply aq); (repeat' (first | exact ag | apply aC | apply av | exact ar hd)); first | done | fail) | refine cFY ?_ | (refine zGY ?_ ?_ <;> (intro _hg; try (exfalso; omega))) | fail)) <;> (try clear zz)
    exact ⟨(s,j + 1),by dsimp only; omega,⟨by dsimp only; omega,by dsimp only; rw [hst,if_neg (by decide),List.append_nil]; exact h2,h3⟩,ag0⟩
  · rw [hp] at hc hst
    (have zz:=@h1; repeat' (first | refine zW ?_ | apply a_n | refine zO ?_ | refine vY ?_ | refine cY ?_ (hp:=hc) (hs:=by (first | refine aj ?_ rfl | apply aq); (repeat' (first | exact ag | apply aC | apply av | exact ar hd)); first | done | fail) | refine blY ?_ | refine cTY ?_ | (refine zGY ?_ ?_ <;> (intro _hg; try (exfalso; omega))) | fail)) <;> (try clear zz)
    refine gz rfl ev0 (h2.same fun b hb=>?_) ev0 jD rfl rfl Nat.one_pos (by simp; omega) (by simp; omega) ?_
    · have:=h3 b hb
      rw [aa (by omega)]
    rintro s2 E e hrow hle1 hle2 hsame hb2
    (have zz:=and_self; repeat' (first | apply a_n | refine zO ?_ | refine vZ ?_ | fail)) <;> (try clear zz)
    refine ⟨(s2,j + 1),by dsimp only; omega,⟨by dsimp only; omega,?_,fun b hb=>?_⟩,ag0⟩
    · dsimp only
      rw [hst,if_pos rfl,List.map_append]
      exact hrow
    · rcases hb2 b hb with h | h
      · have:=h3 b h; omega
      · omega
theorem tw (y:List (List Int)) (v:List Int) (hl:Sh y) (hs:∀ x ∈ y,Sh x) (hv:Sh v):Pure Tryz.prog 50 [aK v,.iptr [ak y] 0] (.bool (decide (v ∈ y))):=by
  refine Pure.of_c2 follows z6 (Nat.le_of_ble_eq_true rfl) ?_
  simp only [b50,cO,cG,cN,cM,cD,cF,cB,aw,aG]
  (have zz:=and_self; repeat' (first | refine zW ?_ | apply a_n | refine zO ?_ | refine vZ ?_ | refine cZ ?_ (hp:=by exact yt y v hl hs hv) | refine ae rfl ?_ | refine r1Z ?_ | fail)) <;> (try clear zz)
  exact .bool _
theorem qT (x y:List (List Int)) (hx:x.length ≤ 100000) (hxs:∀ v ∈ x,Sh v) (hl:Sh y) (hs:∀ v ∈ y,Sh v):Pure Tryz.prog 48 [ak x,ak y] (ak (aY x y)):=by
  refine Pure.of_c2 follows ze (Nat.le_of_ble_eq_true rfl) ?_
  simp only [b48,cO,cG,cN,cM,cD,cF,cB,aw,aG]
  refine bz ?_
  (have zz:=and_self; repeat' (first | apply a_n | refine zO ?_ | refine vZ ?_ | refine bxZ ?_ | fail)) <;> (try clear zz)
  refine bz ?_
  refine rz (only 0 [ak y]) (bZ (am a9 0 [ak y]) 0) [(0,ak x),(3,.iptr [ak y] 0)] (Fz.one au) ⟨.inl ev0,.inr (by ((try simp only [br,ZA,reduceEqDiff,↓reduceIte,reduceAdd,reduceLeDiff]); (try with_reducible rfl)); exact dV rb rfl (az (aU _ _) ag)),trivial⟩ ?_
  (have zz:=and_self; repeat' (first | apply a_n | refine zO ?_ | refine vZ ?_ | fail)) <;> (try clear zz)
  refine dy ev0 ev0 (vA x (fun v=>decide (v ∈ y)) 50 [.iptr [ak y] 0] (DatL.cons (Dat.iptr (DatL.cons (aU _) DatL.nil)) DatL.nil) (fun v hv=>tw y v hl hs (hxs v hv)) hx) (aq (by (repeat' (first | exact ag | exact Dat.snap Dat.int | exact Dat.snap Dat.bool | exact Dat.snap Dat.str | exact Dat.snap Dat.esl | exact Dat.snap Dat.nilf | exact Dat.snap (bh _) | exact Dat.snap (aU _) | apply az | apply dM | apply dI | (apply dV; (focus ((try simp only [br,ZA,reduceEqDiff,↓reduceIte,reduceAdd,reduceLeDiff]); with_reducible rfl)); (focus rfl)))))) ?_
  (have zz:=and_self; repeat' (first | apply a_n | refine zO ?_ | refine vZ ?_ | refine ae rfl ?_ | refine r1Z ?_ | fail)) <;> (try clear zz)
  exact aU _ _
theorem si (x y:List (List Int)) (hx:Sh x) (hy:Sh y) (hxs:∀ v ∈ x,Sh v) (hys:∀ v ∈ y,Sh v):Pure Tryz.prog 110 [ak x,ak y,.func 15 []] (.bool (decide (x=y))):=by
  refine Pure.of_c2 follows vX (Nat.le_of_ble_eq_true rfl) ?_
  simp only [xZ,cO,cG,cN,cM,cD,cF,cB,aw,aG]
  have hx':x.length ≤ 17592186044416:=hx
  have hy':y.length ≤ 17592186044416:=hy
  by_cases hlen:x.length=y.length
  rotate_left
  · have z:decide ((x.length:Int) ≠ y.length)=true:=decide_eq_true (by omega)
    rw [decide_eq_false (fun e=>hlen (by rw [e]))]
    (have zz:=@z; repeat' (first | refine zW ?_ | apply a_n | apply a_r | refine zO ?_ | refine vZ ?_ | refine cTZ ?_ | refine ae rfl ?_ | refine r1Z ?_ | fail)) <;> (try clear zz)
    exact .bool _
  have z:decide ((x.length:Int) ≠ y.length)=false:=decide_eq_false (by omega)
  (have zz:=@z; repeat' (first | refine zW ?_ | apply a_n | refine zO ?_ | refine vZ ?_ | refine cFZ ?_ | fail)) <;> (try clear zz)
  refine iX (fun k=>[(0,ak x),(1,ak y),(2,.func 15 []),(15,ak x),(16,.int .i64 x.length),(17,.int .i64 k)]) x.length (fun k=>x.getD k default=y.getD k default) ag0 ?_
  intro k hk hz
  by_cases hk2:k < x.length
  rotate_left
  · (have zz:=and_self; repeat' (first | refine zW ?_ | apply a_n | apply a_x | refine zO ?_ | refine vZ ?_ | (refine zGZ ?_ ?_ <;> (intro _hg; try (exfalso; omega))) | refine ae rfl ?_ | refine r1Z ?_ | fail)) <;> (try clear zz)
    refine bN ?_
    symm; rw [decide_eq_true_iff]
    refine List.ext_getElem hlen fun i h3 h4=>?_
    have:=hz i (by omega)
    simpa [List.getD,h3,h4] using this
  have hc:=ie (x.getD k default) (y.getD k default) (hxs _ (ai hk2)) (hys _ (ai (by omega)))
  by_cases he:x.getD k default=y.getD k default
  · rw [decide_eq_true he] at hc
    (have zz:=and_self; repeat' (first | refine zW ?_ | apply a_n | refine zO ?_ | refine vZ ?_ | refine cZ ?_ (hp:=hc) | refine cFZ ?_ | (refine zGZ ?_ ?_ <;> (intro _hg; try (exfalso; omega))) | fail)) <;> (try clear zz)
    exact ⟨hk2,he,ag0,rfl,rfl⟩
  · rw [decide_eq_false he] at hc
    rw [decide_eq_false (p:=x=y) (fun e=>he (by rw [e]))]
    (have zz:=and_self; repeat' (first | refine zW ?_ | apply a_n | apply a_r | refine zO ?_ | refine vZ ?_ | refine cZ ?_ (hp:=hc) | refine cTZ ?_ | (refine zGZ ?_ ?_ <;> (intro _hg; try (exfalso; omega))) | refine ae rfl ?_ | refine r1Z ?_ | fail)) <;> (try clear zz)
    exact .bool _
theorem nd (l:List (List Int)) (hl:l.length ≤ 100000) (hs:∀ x ∈ l,Sh x):Pure Tryz.prog 75 [ak l] (ak l):=by
  refine Pure.of_c2 follows zL (Nat.le_of_ble_eq_true rfl) ?_
  simp only [b75,cO,cG,cN,cM,cD,cF,cB,aw,aG]
  (have zz:=and_self; repeat' (first | refine zW ?_ | apply a_n | refine zO ?_ | refine vZ ?_ | fail)) <;> (try clear zz)
  refine be (X:=AV × Nat) (fun x=>[(3,x.1),(6,ak l),(7,.int .i64 l.length),(8,.int .i64 x.2)]) (fun x H nx=>x.2 ≤ l.length∧Row H 1 x.1 ((l.take x.2).map aK)∧∀ b,dZ x.1=some b→b < nx) (fun x=>l.length - x.2) (.esl,0) ⟨Nat.zero_le _,Row.nil,fun b hb=>(by cases hb)⟩ ag0 ?_
  rintro ⟨s,j⟩ H nx ⟨h1,h2,h3⟩
  dsimp only at h1 h2 h3 ⊢
  by_cases hj:j < l.length
  · have hw:=ai hj
    have hcl:=pu _ (hs _ hw)
    (have zz:=@h1; repeat' (first | refine zW ?_ | apply a_n | refine zO ?_ | refine vY ?_ | (refine zGY ?_ ?_ <;> (intro _hg; try (exfalso; omega))) | fail)) <;> (try clear zz)
    refine rB ev0 ev0 hcl (az (bh _ _) ag) ?_
    (have zz:=@h1; repeat' (first | apply a_n | refine zO ?_ | refine blY ?_ | fail)) <;> (try clear zz)
    refine gz rfl ev0 (h2.same fun b hb=>?_) ev0 jD rfl rfl Nat.one_pos (by simp; omega) (by simp; omega) ?_
    · have:=h3 b hb
      rw [aa (by omega)]
    rintro s2 E e hrow hle1 hle2 hsame hb2
    (have zz:=and_self; repeat' (first | apply a_n | refine zO ?_ | refine vZ ?_ | fail)) <;> (try clear zz)
    refine ⟨(s2,j + 1),by dsimp only; omega,⟨by dsimp only; omega,?_,fun b hb=>?_⟩,ag0⟩
    · dsimp only
      rw [bV hj,List.map_append]
      exact hrow
    · rcases hb2 b hb with h | h
      · have:=h3 b h; omega
      · omega
  · (have zz:=@h1; repeat' (first | refine zW ?_ | apply a_n | apply a_x | refine zO ?_ | refine vY ?_ | (refine zGY ?_ ?_ <;> (intro _hg; try (exfalso; omega))) | refine ae rfl ?_ | refine r1Y ?_ | fail)) <;> (try clear zz)
    rw [List.take_of_length_le (by omega)] at h2
    exact h2.snapV
theorem ug (i:List Int) (x y:List (List Int)) (hi:Sh i) (hx:x.length ≤ 100000) (hy:y.length ≤ 100000) (hxs:∀ v ∈ x,Sh v) (hys:∀ v ∈ y,Sh v):Pure Tryz.prog 60 [aK i,ak x,ak y] (.agg [aK i,ak x,ak (bM i x y).calm]):=by
  refine Pure.of_c2 follows yI (Nat.le_of_ble_eq_true rfl) ?_
  simp only [b60,cO,cG,cN,cM,cD,cF,cB,aw,aG]
  have hcl:=pu i hi
  have h1:Pure Tryz.prog 75 [ak x] (ak x):=nd x hx hxs
  have h2:Pure Tryz.prog 75 [ak y] (ak y):=nd y hy hys
  have hE:=si x y (show x.length ≤ _ by omega) (show y.length ≤ _ by omega) hxs hys
  unfold bM
  (have zz:=and_self; repeat' (first | refine zW ?_ | apply a_n | refine zO ?_ | refine vZ ?_ | refine alZ ?_ | fail)) <;> (try clear zz)
  refine rB ev0 ev0 hcl (az (bh _ _) ag) ?_
  by_cases he:x=y
  · rw [decide_eq_true he] at hE
    rw [if_pos he]
    (have zz:=and_self; repeat' (first | refine zW ?_ | apply a_n | refine zO ?_ | refine vZ ?_ | refine cZ ?_ (hp:=by first | exact h1 | exact h2 | exact hE) (hs:=by (first | refine aj ?_ rfl | apply aq); (repeat' (first | exact ag | apply aC | apply av | exact Dat.func DatL.nil)); first | done | fail) | refine alZ ?_ | refine stZ ?_ | refine cFZ ?_ | refine ae rfl ?_ | refine r1Z ?_ | fail)) <;> (try clear zz)
    exact e5 (az (bh _ _) (az (aU _ _) (az (.eslsl 1) ag)))
  · rw [decide_eq_false he] at hE
    rw [if_neg he]
    (have zz:=and_self; repeat' (first | refine zW ?_ | apply a_n | refine zO ?_ | refine vZ ?_ | refine cZ ?_ (hp:=by first | exact h1 | exact h2 | exact hE) (hs:=by (first | refine aj ?_ rfl | apply aq); (repeat' (first | exact ag | apply aC | apply av | exact Dat.func DatL.nil)); first | done | fail) | refine alZ ?_ | refine stZ ?_ | refine cTZ ?_ | refine ae rfl ?_ | refine r1Z ?_ | fail)) <;> (try clear zz)
    exact e5 (az (bh _ _) (az (aU _ _) (az (aU _ _) ag)))
end Go.Proofs.YtjgpfclngkcedaaGreat
namespace Go.Proofs.YtjgpfclngkcedaaGreat
open Go Go.Abs
def fU (l:List (List Int)):Prop:=l.Pairwise fun x y=>aS x y < 0
theorem fU.nodup {l:List (List Int)} (h:fU l):l.Nodup:=List.Pairwise.imp (fun {a b} h e=>by subst e; rw [b8] at h; omega) h
theorem fU.sorted {l:List (List Int)} (h:fU l):bQ aS l:=List.Pairwise.imp (fun {a b} h=>mr.asym _ _ h) h
theorem fU.of {l:List (List Int)} (hs:bQ aS l) (hn:l.Nodup):fU l:=by
  have h2:=List.nodup_iff_pairwise_ne.1 hn
  refine List.Pairwise.imp₂ (fun a b h1 h2=>?_) hs h2
  rcases i4 a b with h | h | h
  · omega
  · exact absurd (ex h) h2
  · have:=ea a b
    exact absurd (show aS b a < 0 by omega) h1
theorem pg {a b:List (List Int)} (ha:fU a) (hb:fU b) (h:∀ x,x ∈ a ↔ x ∈ b):a=b:=by
  have hp:a.Perm b:=(List.perm_ext_iff_of_nodup ha.nodup hb.nodup).2 h
  exact List.Perm.eq_of_pairwise (fun x y _ _ h1 h2=>by have:=ea x y; omega) ha hb hp
theorem nA {l:List (List Int)} (h:∀ i,i < l.length→bS l i=false):fU l:=fU.of (qb h) (rT h)
def jS (acc:List (List Int)) (v:List Int):List (List Int):=if v ∈ acc then acc else gF aS acc v
theorem uh {acc:List (List Int)} {v:List Int} (h:fU acc):fU (jS acc v):=by
  unfold jS
  split
  · exact h
  · rename_i hn
    refine fU.of (kF mr h.sorted) ?_
    rw [(iu acc v).nodup_iff,List.nodup_cons]
    exact ⟨hn,h.nodup⟩
theorem sN {acc:List (List Int)} {v x:List Int}:x ∈ jS acc v ↔ x ∈ acc ∨ x=v:=by
  unfold jS
  split
  · rename_i h
    exact ⟨.inl,fun h2=>h2.elim id (fun e=>e ▸ h)⟩
  · rw [(iu acc v).mem_iff,List.mem_cons]
    exact ⟨fun h=>h.elim .inr .inl,fun h=>h.elim .inr .inl⟩
theorem tO {acc:List (List Int)} {v:List Int}:(jS acc v).length ≤ acc.length + 1:=by
  unfold jS
  split
  · omega
  · rw [um]; exact Nat.le_refl _
def dq (acc l:List (List Int)):List (List Int):=l.foldl jS acc
theorem lU:∀ {l acc:List (List Int)},fU acc→fU (dq acc l)
  | [],_,h=>h
  | v :: l,acc,h=>lU (l:=l) (uh (v:=v) h)
theorem ez:∀ {l acc:List (List Int)} {x:List Int},x ∈ dq acc l ↔ x ∈ acc ∨ x ∈ l
  | [],acc,x=>by simp [dq]
  | v :: l,acc,x=>by
    rw [show dq acc (v :: l)=dq (jS acc v) l from rfl,ez,sN,List.mem_cons,or_assoc]
theorem e6:∀ {l acc:List (List Int)},(dq acc l).length ≤ acc.length + l.length
  | [],acc=>by simp [dq]
  | v :: l,acc=>by
    rw [show dq acc (v :: l)=dq (jS acc v) l from rfl]
    have:=e6 (l:=l) (acc:=jS acc v)
    have:=tO (acc:=acc) (v:=v)
    rw [List.length_cons]; omega
theorem r8 {acc l:List (List Int)} {v:List Int}:dq acc (l ++ [v])=jS (dq acc l) v:=by
  unfold dq; rw [List.foldl_append]; rfl
def mU (l:List (List Int)):List (List Int):=dq [] l
theorem lQ (l:List (List Int)):fU (mU l):=lU List.Pairwise.nil
theorem lZ {l:List (List Int)} {x:List Int}:x ∈ mU l ↔ x ∈ l:=by
  unfold mU; rw [ez]; simp
theorem tx {l:List (List Int)}:(mU l).length ≤ l.length:=by
  have:=e6 (l:=l) (acc:=[])
  unfold mU
  rw [List.length_nil] at this
  omega
theorem pk {a l:List (List Int)} (ha:fU a):dq a l=mU (a ++ l):=pg (lU ha) (lQ _) fun x=>by rw [ez,lZ,List.mem_append]
section
variable {α:Type} [Inhabited α] [DecidableEq α]
def bt (l:List α):Nat→Nat
  | 0=>0
  | k + 1=>bt l k + if k=0 ∨ l.getD k default ≠ l.getD (k - 1) default then 1 else 0
theorem sF (l:List α) (k:Nat):bt l k ≤ k:=by
  induction k with
  | zero=>exact Nat.le_refl _
  | succ k ih=>unfold bt; split <;> omega
theorem fq {l:List α} {k:Nat} (hk:k ≠ 0) (h:l.getD k default=l.getD (k - 1) default):bt l (k + 1)=bt l k:=by
  rw [bt,if_neg (by rintro (h' | h'); exact hk h'; exact h' h)]; rfl
theorem kG {l:List α} {k:Nat} (h:l.getD k default ≠ l.getD (k - 1) default):bt l (k + 1)=bt l k + 1:=by
  rw [bt,if_pos (.inr h)]
def ddG (l:List α):Nat→List α
  | 0=>[]
  | k + 1=>ddG l k ++ if k=0 ∨ l.getD k default ≠ l.getD (k - 1) default then [l.getD k default] else []
theorem vB (l:List α) (k:Nat):(ddG l k).length=bt l k:=by
  induction k with
  | zero=>rfl
  | succ k ih=>rw [ddG,bt,List.length_append,ih]; split <;> rfl
theorem o5 {l:List α} {k:Nat} (hk:k ≠ 0) (h:l.getD k default=l.getD (k - 1) default):ddG l (k + 1)=ddG l k:=by
  rw [ddG,if_neg (by rintro (h' | h'); exact hk h'; exact h' h),List.append_nil]
theorem p9 {l:List α} {k:Nat} (h:l.getD k default ≠ l.getD (k - 1) default):ddG l (k + 1)=ddG l k ++ [l.getD k default]:=by
  rw [ddG,if_pos (.inr h)]
theorem nT {l:List α}:∀ {k:Nat},k ≤ l.length→∀ x,x ∈ ddG l k ↔ ∃ j,j < k∧l.getD j default=x
  | 0,_,x=>by simp [ddG]
  | k + 1,hk,x=>by
    have ih:=nT (l:=l) (k:=k) (by omega) x
    rw [ddG,List.mem_append,ih]
    constructor
    · rintro (⟨j,h1,h2⟩ | h)
      · exact ⟨j,by omega,h2⟩
      · split at h
        · rw [List.mem_singleton] at h; exact ⟨k,by omega,h.symm⟩
        · simp at h
    · rintro ⟨j,h1,h2⟩
      by_cases e:j=k
      · subst e
        by_cases c:j=0 ∨ l.getD j default ≠ l.getD (j - 1) default
        · right; rw [if_pos c,List.mem_singleton]; exact h2.symm
        · left
          have c1:j ≠ 0:=fun h=>c (.inl h)
          have c2:l.getD j default=l.getD (j - 1) default:=Decidable.of_not_not fun h=>c (.inr h)
          exact ⟨j - 1,by omega,by rw [← c2]; exact h2⟩
      · left; exact ⟨j,by omega,h2⟩
theorem rF {K:α→α→Int} (hK:Ord K) (hA:∀ x y,¬ K x y < 0→¬ K y x < 0→x=y) {l:List α} (hs:∀ i j,i < j→j < l.length→¬ K (l.getD j default) (l.getD i default) < 0):∀ {k:Nat},k ≤ l.length→(ddG l k).Pairwise fun x y=>K x y < 0
  | 0,_=>List.Pairwise.nil
  | k + 1,hk=>by
    have ih:=rF hK hA hs (k:=k) (by omega)
    rw [ddG,List.pairwise_append]
    refine ⟨ih,by split <;> simp,fun x hx y hy=>?_⟩
    split at hy
    · rename_i c
      rw [List.mem_singleton] at hy
      subst hy
      obtain ⟨j,h1,rfl⟩:=(nT (by omega) x).1 hx
      rcases c with c | c
      · omega
      · refine Decidable.byContradiction fun hn=>?_
        have a2:=hs (k - 1) k (by omega) (by omega)
        have hne:K (l.getD (k - 1) default) (l.getD k default) < 0:=Decidable.byContradiction fun h3=>c (hA _ _ a2 h3)
        by_cases e:j=k - 1
        · rw [e] at hn; exact hn hne
        · have a1:=hs j (k - 1) (by omega) (by omega)
          exact hK.negtr _ _ _ hn a1 hne
    · simp at hy
omit [DecidableEq α] in
theorem nD {M:List α} {x:α}:(∃ j,j < M.length∧M.getD j default=x) ↔ x ∈ M:=by
  constructor
  · rintro ⟨j,h1,rfl⟩; exact ai h1
  · intro h
    obtain ⟨j,hj,rfl⟩:=List.getElem_of_mem h
    exact ⟨j,hj,by simp [List.getD,hj]⟩
end
theorem vj (l:List (List Int)):ddG (uQ l) (uQ l).length=mU l:=by
  refine pg (rF mr (fun _ _=>od) (fun i j h1 h2=>?_) (Nat.le_refl _)) (lQ l) fun x=>?_
  · have h3:j < (gA aS l).length:=h2
    have:=List.pairwise_iff_getElem.1 (jq mr l) i j (by omega) h3 h1
    simpa [List.getD,h3,show i < (gA aS l).length by omega] using this
  · rw [nT (Nat.le_refl _),nD,(dD l).mem_iff,lZ]
end Go.Proofs.YtjgpfclngkcedaaGreat
namespace Go.Proofs.YtjgpfclngkcedaaGreat
open Go Go.Abs
open Nat (reduceEqDiff reduceAdd reduceLeDiff)
section
variable {P:Program} {T:Tm} {H:Hp} {nx:Nat}
theorem zy {dm:DM} {K:SP} {l:List Op2} {d:Option Nat} {sz bytes:Nat} {z:List AV} {s x:Opd} {k:IntKind} {n:Int} (hd:dm2 dm T (.apz sz bytes z s x)=true) (hs:ov T s=.esl) (hx:ov T x=.int k n) (h0:0 < n) (h1:n ≤ 9223372036854775807) (h2:n.toNat * bytes ≤ 140737488355328)
    (kk:af P dm l (aH T d (.msl nx (n.toNat * sz) sz 0 n.toNat)) (am H nx (a7 (.agg z) n.toNat)) (nx + 1) K):af P dm (⟨d,none,.apz sz bytes z s x⟩ :: l) T H nx K:=by
  refine jA rfl hd ?_ kk
  simp only [ey,hs,hx]
  rw [if_pos ⟨h0,h1,h2⟩]
end
theorem xW (T:Tm) (H:Hp) (x:Opd):aZ T H (.capE x)=match ov T x with | .esl=>some (.int .i64 0) | _=>none:=rfl
theorem sC {α:Type} [Inhabited α] {L:List α} {h:Nat} {x:α} (hh:h < L.length):(L.set h x).take (h + 1)=L.take h ++ [x]:=by
  rw [bV (by simpa using hh),List.take_set_of_le (Nat.le_refl h)]
  simp [List.getD,hh]
theorem mD {B n len k:Nat} (h:k < len) (hn:n ≠ 0):iB 1 (.msl B n 1 0 len) (some (.int .i64 k)) none none=some (.msl B n 1 k (len - k)):=by
  simp only [iB,bi,Int.natCast_nonneg,if_true,Int.toNat_natCast]
  rw [if_pos ⟨trivial,by omega,Nat.le_refl _,hn⟩,if_pos (.inr h),Nat.zero_add,Nat.mul_one]
theorem lF {B n len k:Nat} (h:k ≤ len) (hn:n ≠ 0):iB 1 (.msl B n 1 0 len) none (some (.int .i64 k)) none=some (.msl B n 1 0 k):=by
  simp only [iB,bi,Int.natCast_nonneg,if_true,Int.toNat_natCast]
  rw [if_pos ⟨trivial,by omega,h,hn⟩,if_pos (.inl trivial),Nat.zero_mul,Nat.sub_zero]
attribute [local irreducible] aA af aV aQ aE aL ay aM aR ba Go.Abs.Fn aO Go.Abs.Pure ap aB Yl
theorem x3 (n:Nat) (h0:0 < n) (h1:n ≤ 1000000) (H:Hp) (nx:Nat):Abs.Fn Tryz.prog 109 [.esl,.int .i64 n] H nx fun r H' nx'=>r=.msl nx n 1 0 0∧H'=am H nx (a7 (.agg [.esl]) n)∧nx'=nx + 1:=by
  refine Abs.Fn.of_c2 follows wY (Nat.le_of_ble_eq_true rfl) ?_
  simp only [x9,cO,cG,cN,cM,cD,cF,cB,aw,aG]
  have z1:decide ((n:Int) < 0)=false:=decide_eq_false (by omega)
  have z2:decide ((0:Int) < n)=true:=decide_eq_true (by omega)
  have s2:iB 1 .esl none (some (.int .i64 0)) none=some .esl:=rfl
  have s3:=lF (B:=nx) (n:=n) (len:=n) (k:=0) (by omega) (by omega)
  rw [show ((0:Nat):Int)=0 from rfl] at s3
  (have zz:=aI @z1 (aI @z2 (aI @s2 (aI @Int.sub_zero (aI @Int.sub_self @xW)))); repeat' (first | refine zW ?_ | apply a_n | refine zO ?_ | refine vY ?_ | refine cTY ?_ | refine cFY ?_ | fail)) <;> (try clear zz)
  refine zy rfl (have zz:=@s2; evY) ev0 (by omega) (by omega) (by omega) ?_
  (have zz:=@s3; repeat' (first | refine zW ?_ | apply a_n | refine zO ?_ | refine vY ?_ | refine ae rfl ?_ | refine r1Y ?_ | fail)) <;> (try clear zz)
  exact ⟨rfl,rfl,rfl⟩
theorem tU (s:AV) (l:List (List Int)) (hl:l.length ≤ 1000000) (H:Hp) (nx:Nat) (hn:fw s=some l.length) (hs:∀ H',(∀ x,x < nx→H' x=H x)→cC 1 H' s=some (l.length,l.map aK)):Abs.Fn Tryz.prog 106 [s] H nx fun r H' nx'=>nx' ≤ nx + 1∧nx ≤ nx'∧(∀ x,x < nx→H' x=H x)∧if l=[] then b9 r=some (.int .i64 0)∧∀ H'',Snap H'' r (ak []) else r=.msl nx l.length 1 0 l.length∧H'=am H nx (l.map aK)∧nx'=nx + 1:=by
  refine Abs.Fn.of_c2 follows sW (Nat.le_of_ble_eq_true rfl) ?_
  simp only [vo,cO,cG,cN,cM,cD,cF,cB,aw,aG]
  (have zz:=and_self; repeat' (first | refine zW ?_ | apply a_n | refine zO ?_ | refine vY ?_ | fail)) <;> (try clear zz)
  refine oh (k:=l.length) (by ((try simp only [br,ZA,reduceEqDiff,↓reduceIte,reduceAdd,reduceLeDiff]); (try with_reducible rfl)); exact hn) (fun h=>?_) (fun h=>?_) (fun h=>?_)
  · (have zz:=and_self; repeat' (first | refine zW ?_ | apply a_n | refine zO ?_ | refine vY ?_ | refine b0Y ?_ | refine cFY ?_ | fail)) <;> (try clear zz)
    refine oI rfl ev0 ev0 (hs _ fun x _=>rfl) eY (by omega) (by omega) ?_
    (have zz:=and_self; repeat' (first | apply a_n | refine zO ?_ | refine vY ?_ | refine ae rfl ?_ | refine r1Y ?_ | fail)) <;> (try clear zz)
    refine ⟨Nat.le_refl _,by omega,fun x hx=>aa (by omega),?_⟩
    rw [if_neg (by rintro rfl; exact absurd h (by simp))]
    exact ⟨rfl,rfl,rfl⟩
  · (have zz:=and_self; repeat' (first | refine zW ?_ | apply a_n | apply a_r | refine zO ?_ | refine vY ?_ | refine cTY ?_ | refine ae rfl ?_ | refine r1Y ?_ | fail)) <;> (try clear zz)
    refine ⟨by omega,Nat.le_refl _,fun x hx=>rfl,?_⟩
    rw [if_pos (List.length_eq_zero_iff.1 h)]
    exact ⟨rfl,fun _=>.eslsl 1⟩
  · (have zz:=and_self; repeat' (first | refine zW ?_ | apply a_n | refine zO ?_ | refine vY ?_ | refine b0Y ?_ | refine cFY ?_ | fail)) <;> (try clear zz)
    refine oI rfl ev0 ev0 (hs _ fun x _=>rfl) eY (by omega) (by omega) ?_
    (have zz:=and_self; repeat' (first | apply a_n | refine zO ?_ | refine vY ?_ | refine ae rfl ?_ | refine r1Y ?_ | fail)) <;> (try clear zz)
    refine ⟨Nat.le_refl _,by omega,fun x hx=>aa (by omega),?_⟩
    obtain rfl:=List.length_eq_zero_iff.1 h
    rw [if_pos rfl]
    exact ⟨rfl,fun _=>.mslnil _ _ _ _ _⟩
section
variable {g:Nat} {caps:List AV} {s:AV}
theorem zo (hs:b9 s=some (.int .i64 0)) {H:Hp} {nx:Nat}:Abs.Fn Tryz.prog 149 [s,.int .i64 0,.int .i64 0,.func g caps] H nx fun r H' nx'=>nx'=nx∧H'=H:=by
  refine Abs.Fn.of_c2 follows t6 (Nat.le_of_ble_eq_true rfl) ?_
  simp only [vK,cO,cG,cN,cM,cD,cF,cB,aw,aG]
  (have zz:=and_self; repeat' (first | refine zW ?_ | apply a_n | refine zO ?_ | refine vZ ?_ | fail)) <;> (try clear zz)
  refine be (X:=Unit) (fun x=>[(0,s),(1,.int .i64 0),(2,.int .i64 0),(3,.func g caps),(8,.int .i64 1)]) (fun x H' nx'=>H'=H∧nx'=nx) (fun x=>0) () ⟨rfl,rfl⟩ (by simp (disch:=omega) only [agr,ZG,reduceEqDiff,↓reduceIte,Int.zero_add,true_and]) ?_
  rintro _ _ _ ⟨rfl,rfl⟩
  (have zz:=and_self; repeat' (first | refine zW ?_ | apply a_n | apply a_x | refine zO ?_ | refine vZ ?_ | (refine zGZ ?_ ?_ <;> (intro _hg; try (exfalso; omega))) | refine ae rfl ?_ | fail)) <;> (try clear zz)
  exact ⟨rfl,rfl⟩
theorem yO (hs:b9 s=some (.int .i64 0)) {H:Hp} {nx:Nat}:Abs.Fn Tryz.prog 130 [s,.int .i64 0,.int .i64 0,.int .i64 0,.func g caps] H nx fun r H' nx'=>nx'=nx∧H'=H:=by
  refine Abs.Fn.of_c2 follows uA (Nat.le_of_ble_eq_true rfl) ?_
  simp only [vN,cO,cG,cN,cM,cD,cF,cB,aw,aG]
  (have zz:=and_self; repeat' (first | refine zW ?_ | apply a_n | refine zO ?_ | refine vZ ?_ | fail)) <;> (try clear zz)
  refine be (X:=Unit) (fun x=>[(0,s),(1,.int .i64 0),(2,.int .i64 0),(3,.int .i64 0),(4,.func g caps)]) (fun x H' nx'=>H'=H∧nx'=nx) (fun x=>0) () ⟨rfl,rfl⟩ ag0 ?_
  rintro _ _ _ ⟨rfl,rfl⟩
  (have zz:=and_self; repeat' (first | refine zW ?_ | apply a_n | refine zO ?_ | refine vZ ?_ | (refine zGZ ?_ ?_ <;> (intro _hg; try (exfalso; omega))) | fail)) <;> (try clear zz)
  refine aD ev0 ev0 (zo hs) ?_
  rintro _ _ _ ⟨rfl,rfl⟩
  (have zz:=and_self; repeat' (first | apply a_n | apply a_r | refine zO ?_ | refine ae rfl ?_ | fail)) <;> (try clear zz)
  exact ⟨rfl,rfl⟩
theorem u1 (hs:b9 s=some (.int .i64 0)) {H:Hp} {nx:Nat}:Abs.Fn Tryz.prog 107 [s,.func g caps] H nx fun r H' nx'=>nx'=nx∧H'=H:=by
  refine Abs.Fn.of_c2 follows tH (Nat.le_of_ble_eq_true rfl) ?_
  simp only [u6,cO,cG,cN,cM,cD,cF,cB,aw,aG]
  have w8:IntKind.wrap .u64 0=0:=by decide
  (have zz:=aI @w8 @hs; repeat' (first | refine zW ?_ | apply a_n | refine zO ?_ | refine vZ ?_ | fail)) <;> (try clear zz)
  refine aD ev0 (have zz:=@w8; evZ) zK ?_
  rintro _ _ _ ⟨rfl,rfl,rfl⟩
  (have zz:=and_self; repeat' (first | apply a_n | refine zO ?_ | refine vZ ?_ | fail)) <;> (try clear zz)
  refine aD ev0 ev0 (yO hs) ?_
  rintro _ _ _ ⟨rfl,rfl⟩
  (have zz:=and_self; repeat' (first | apply a_n | refine zO ?_ | refine ae rfl ?_ | fail)) <;> (try clear zz)
  exact ⟨rfl,rfl⟩
end
end Go.Proofs.YtjgpfclngkcedaaGreat
namespace Go.Proofs.YtjgpfclngkcedaaGreat
open Go Go.Abs
open Nat (reduceEqDiff reduceAdd reduceLeDiff)
attribute [local irreducible] aA af aV aQ aE aL ay aM aR ba Go.Abs.Fn aO Go.Abs.Pure ap aB Yl
set_option maxHeartbeats 2000000 in
theorem qh (l:List (List Int)) (hl:l.length ≤ 1000000) (hls:∀ v ∈ l,Sh v) (h0:l ≠ []) (H:Hp) (B nx:Nat) (hH:H B=some (l.map aK)) (hB:B < nx) :
    Abs.Fn Tryz.prog 108 [.msl B l.length 1 0 l.length,.func 15 []] H nx fun r H' nx'=>r=.msl B l.length 1 0 (bt l l.length)∧(∃ C,H'=am H B C∧C.length=l.length∧C.take (bt l l.length)=(ddG l l.length).map aK)∧nx'=nx:=by
  refine Abs.Fn.of_c2 follows tn (Nat.le_of_ble_eq_true rfl) ?_
  simp only [vE,cO,cG,cN,cM,cD,cF,cB,aw,aG]
  have hpos:=List.length_pos_iff.2 h0
  have hid:H=am H B (l.map aK):=c8 hH
  have heq:=fun i j (hi:i < l.length) (hj:j < l.length)=>ie (l.getD i default) (l.getD j default) (hls _ (ai hi)) (hls _ (ai hj))
  have hh1:bt l 1=1:=rfl
  by_cases h1:l.length < 2
  · have e1:l.length=1:=by omega
    have e2:ddG l l.length=l:=by
      match l,e1 with
      | [a],_=>rfl
    have z:decide ((l.length:Int) < 2)=true:=decide_eq_true (by omega)
    (have zz:=@z; repeat' (first | refine zW ?_ | apply a_n | apply a_r | refine zO ?_ | refine vZ ?_ | refine cTZ ?_ | refine ae rfl ?_ | refine r1Z ?_ | fail)) <;> (try clear zz)
    refine ⟨?_,⟨_,hid,by simp,?_⟩,rfl⟩
    · rw [show bt l l.length=l.length by rw [e1]; rfl]
    · rw [e2,show bt l l.length=l.length by rw [e1]; rfl,List.take_of_length_le (by simp)]
  have z:decide ((l.length:Int) < 2)=false:=decide_eq_false (by omega)
  (have zz:=@z; repeat' (first | refine zW ?_ | apply a_n | refine zO ?_ | refine vZ ?_ | refine cFZ ?_ | fail)) <;> (try clear zz)
  refine be (X:=Nat) (fun k=>[(0,.msl B l.length 1 0 l.length),(1,.func 15 []),(5,.int .i64 k)]) (fun k H' nx'=>H'=H∧nx'=nx∧1 ≤ k∧k ≤ l.length∧bt l k=k∧ddG l k=l.take k) (fun k=>l.length - k) 1 ⟨rfl,rfl,Nat.le_refl _,hpos,rfl,by match l,h0 with | a :: r,_=>rfl⟩ ag0 ?_
  rintro k H' nx' ⟨rfl,rfl,k1,k2,k3,k4⟩
  by_cases hk:k < l.length
  rotate_left
  · (have zz:=and_self; repeat' (first | refine zW ?_ | apply a_n | apply a_x | refine zO ?_ | refine vZ ?_ | (refine zGZ ?_ ?_ <;> (intro _hg; try (exfalso; omega))) | refine ae rfl ?_ | refine r1Z ?_ | fail)) <;> (try clear zz)
    have e:l.length=k:=by omega
    refine ⟨by rw [e,k3],⟨_,hid,by simp,?_⟩,rfl⟩
    rw [e,k3,k4,← List.map_take]
  have tk:(k:Int) - 1=(k - 1:Nat):=by omega
  have hc:=heq k (k - 1) hk (by omega)
  by_cases he:l.getD k default=l.getD (k - 1) default
  rotate_left
  · rw [decide_eq_false he] at hc
    (have zz:=aI @tk (aI @hH @Int.toNat_natCast); repeat' (first | refine zW ?_ | refine zM ?_ | apply a_n | refine zO ?_ | refine vZ ?_ | refine cZ ?_ (hp:=hc) | refine cFZ ?_ | (refine zGZ ?_ ?_ <;> (intro _hg; try (exfalso; omega))) | fail)) <;> (try clear zz)
    exact ⟨k + 1,by omega,⟨rfl,rfl,by omega,by omega,by rw [kG he,k3],by rw [p9 he,k4,bV hk]⟩,ag0⟩
  have hs:=mD (B:=B) hk (Nat.ne_of_gt hpos)
  rw [decide_eq_true he] at hc
  (have zz:=aI @tk (aI @hH (aI @Int.toNat_natCast @hs)); repeat' (first | refine zW ?_ | refine zM ?_ | apply a_n | refine zO ?_ | refine vZ ?_ | refine cZ ?_ (hp:=hc) | refine cTZ ?_ | (refine zGZ ?_ ?_ <;> (intro _hg; try (exfalso; omega))) | fail)) <;> (try clear zz)
  refine be (X:=Nat × List (List Int)) (fun x=>[(0,.msl B l.length 1 0 l.length),(1,.func 15 []),(5,.int .i64 (bt l (k + x.1):Nat)),(6,.msl B l.length 1 k (l.length - k)),(7,.int .i64 x.1)]) (fun x H2 nx2=>x.2.length=l.length∧1 ≤ x.1∧k + x.1 ≤ l.length∧bt l (k + x.1) + 1 ≤ k + x.1∧H2=am H' B (x.2.map aK)∧nx2=nx'∧(∀ p,k + x.1 ≤ p + 1→x.2.getD p default=l.getD p default)∧x.2.take (bt l (k + x.1))=ddG l (k + x.1)) (fun x=>l.length - x.1) (1,l)
    ⟨rfl,Nat.le_refl _,hk,by dsimp only; rw [fq (by omega) he]; omega,hid,rfl,fun _ _=>rfl,by dsimp only; rw [fq (by omega) he,o5 (by omega) he,k3,k4]⟩ (by simp (disch:=omega) only [agr,ZG,reduceEqDiff,↓reduceIte,fq (show k ≠ 0 by omega) he,k3]) ?_
  rintro ⟨j,L⟩ H2 nx2 ⟨a1,a2,a3,a4,rfl,rfl,a5,a6⟩
  dsimp only at a1 a2 a3 a4 a5 a6 ⊢
  by_cases hj:k + j < l.length
  · have tj:(j:Int) - 1=(j - 1:Nat):=by omega
    have r1:=a5 (k + j) (by omega)
    have r2:=a5 (k + (j - 1)) (by omega)
    have hc2:=heq (k + j) (k + (j - 1)) hj (by omega)
    by_cases hd:l.getD (k + j) default=l.getD (k + (j - 1)) default
    · have hq:bt l (k + (j + 1))=bt l (k + j):=fq (l:=l) (k:=k + j) (by omega) (by rw [hd,show k + j - 1=k + (j - 1) by omega])
      rw [decide_eq_true hd] at hc2
      (have zz:=aI @tj (aI @Int.toNat_natCast (aI @r1 @r2)); repeat' (first | refine zW ?_ | refine zM ?_ | apply a_n | refine zO ?_ | refine vZ ?_ | refine cZ ?_ (hp:=hc2) | refine cFZ ?_ | (refine zGZ ?_ ?_ <;> (intro _hg; try (exfalso; omega))) | fail)) <;> (try clear zz)
      refine ⟨(j + 1,L),by dsimp only; omega,⟨a1,by dsimp only; omega,by dsimp only; omega,?_,rfl,rfl,fun p hp=>a5 p (by dsimp only at hp; omega),by dsimp only; rw [hq,show k + (j + 1)=k + j + 1 from rfl,o5 (by omega) (by rw [hd,show k + j - 1=k + (j - 1) by omega])]; exact a6⟩,(have zz:=@hq; agZ)⟩
      dsimp only
      rw [hq]
      omega
    · have hq:bt l (k + (j + 1))=bt l (k + j) + 1:=kG (l:=l) (k:=k + j) (by rw [show k + j - 1=k + (j - 1) by omega]; exact hd)
      have hlm:=fZ (f:=aK) (l:=L) (k:=bt l (k + j)) (x:=l.getD (k + j) default) (by omega)
      rw [decide_eq_false hd] at hc2
      (have zz:=aI @tj (aI @Int.toNat_natCast (aI @r1 @r2)); repeat' (first | refine zW ?_ | refine zM ?_ | apply a_n | refine zO ?_ | refine vZ ?_ | refine cZ ?_ (hp:=hc2) | refine stZ ?_ | refine cTZ ?_ | (refine zGZ ?_ ?_ <;> (intro _hg; try (exfalso; omega))) | fail)) <;> (try clear zz)
      refine ⟨(j + 1,L.set (bt l (k + j)) (l.getD (k + j) default)),by dsimp only; omega,⟨by simp [a1],by dsimp only; omega,by dsimp only; omega,?_,?_,rfl,fun p hp=>?_,by dsimp only; rw [hq,sC (by omega),a6,show k + (j + 1)=k + j + 1 from rfl,p9 (by rw [show k + j - 1=k + (j - 1) by omega]; exact hd)]⟩,(have zz:=@hq; agZ)⟩
      · dsimp only
        rw [hq]
        omega
      · dsimp only
        rw [an,hlm]
      · dsimp only at hp ⊢
        rw [List.getD_eq_getElem?_getD,List.getElem?_set_ne (by omega),← List.getD_eq_getElem?_getD]
        exact a5 p (by omega)
  · have hn:k + j=l.length:=by omega
    have hl1:=mD (B:=B) (n:=l.length) (show bt l (k + j) < l.length by omega) (Nat.ne_of_gt hpos)
    have hl2:=lF (B:=B) (n:=l.length) (show bt l (k + j) ≤ l.length by omega) (Nat.ne_of_gt hpos)
    (have zz:=aI @hl1 @hl2; repeat' (first | refine zW ?_ | apply a_n | apply a_x | refine zO ?_ | refine vZ ?_ | (refine zGZ ?_ ?_ <;> (intro _hg; try (exfalso; omega))) | fail)) <;> (try clear zz)
    refine Af (H':=am (am H' B (L.map aK)) B (bj (L.map aK) (bt l (k + j)) (a7 .esl (l.length - bt l (k + j))))) ?_ ?_
    · ((try simp only [br,ZA,reduceEqDiff,↓reduceIte,reduceAdd,reduceLeDiff]); (try with_reducible rfl))
      simp only [fG]
      rw [if_neg (by omega),au]
      dsimp only
      rw [if_pos ⟨by simp [a1],trivial,rfl,rfl,by omega⟩]
      rfl
    · (have zz:=@hl2; repeat' (first | refine zW ?_ | apply a_n | apply a_r | refine zO ?_ | refine vZ ?_ | refine ae rfl ?_ | refine r1Z ?_ | fail)) <;> (try clear zz)
      refine ⟨by rw [hn],⟨_,an _ _ _ _,?_,?_⟩,rfl⟩
      · have hz:(a7 AV.esl (l.length - bt l (k + j))).length=l.length - bt l (k + j):=by simp [a7,show (AV.esl).cells.length=1 from rfl]
        simp [bj,hz]
        omega
      · rw [← hn,← a6,List.map_take]
        simp only [bj]
        rw [List.append_assoc,List.take_append_of_le_length (by simp; omega),List.take_of_length_le (by simp; omega)]
theorem uI (s:AV) (l:List (List Int)) (hl:l.length ≤ 1000000) (hls:∀ v ∈ l,Sh v) (H:Hp) (nx:Nat) (hn:fw s=some l.length) (hs:∀ H',(∀ x,x < nx→H' x=H x)→cC 1 H' s=some (l.length,l.map aK)):Abs.Fn Tryz.prog 57 [s] H nx fun r H' nx'=>Snap H' r (ak (mU l))∧(∀ x,x < nx→H' x=H x)∧nx ≤ nx':=by
  refine Abs.Fn.of_c2 follows yZ (Nat.le_of_ble_eq_true rfl) ?_
  simp only [b57,cO,cG,cN,cM,cD,cF,cB,aw,aG]
  (have zz:=and_self; repeat' (first | refine zW ?_ | apply a_n | refine zO ?_ | refine vY ?_ | fail)) <;> (try clear zz)
  refine aD ev0 ev0 (tU s l hl H nx hn hs) ?_
  rintro r H1 n1 ⟨h1,h2,h3,h4⟩
  by_cases h0:l=[]
  · subst h0
    rw [if_pos rfl] at h4
    obtain ⟨r1,r2⟩:=h4
    (have zz:=and_self; repeat' (first | refine zW ?_ | apply a_n | refine zO ?_ | refine vY ?_ | fail)) <;> (try clear zz)
    refine aD ev0 ev0 (u1 r1) ?_
    rintro _ _ _ ⟨rfl,rfl⟩
    (have zz:=and_self; repeat' (first | refine zW ?_ | apply a_n | refine zO ?_ | refine vY ?_ | fail)) <;> (try clear zz)
    have hcf:∀ H2 n2,Abs.Fn Tryz.prog 108 [r,.func 15 []] H2 n2 fun r' H' nx'=>r'=r∧H'=H2∧nx'=n2:=fun H2 n2=>by
      refine Abs.Fn.of_c2 follows tn (Nat.le_of_ble_eq_true rfl) ?_
      simp only [vE,cO,cG,cN,cM,cD,cF,cB,aw,aG]
      (have zz:=@r1; repeat' (first | refine zW ?_ | apply a_n | apply a_r | refine zO ?_ | refine vZ ?_ | (refine zGZ ?_ ?_ <;> (intro _hg; try (exfalso; omega))) | refine ae rfl ?_ | refine r1Z ?_ | fail)) <;> (try clear zz)
      exact ⟨rfl,rfl,rfl⟩
    refine aD ev0 ev0 (hcf _ _) ?_
    rintro _ _ _ ⟨rfl,rfl,rfl⟩
    (have zz:=and_self; repeat' (first | apply a_n | refine zO ?_ | refine vY ?_ | refine ae rfl ?_ | refine r1Y ?_ | fail)) <;> (try clear zz)
    exact ⟨r2 _,h3,h2⟩
  rw [if_neg h0] at h4
  obtain ⟨rfl,rfl,rfl⟩:=h4
  have hpos:=List.length_pos_iff.2 h0
  (have zz:=and_self; repeat' (first | refine zW ?_ | apply a_n | refine zO ?_ | refine vY ?_ | fail)) <;> (try clear zz)
  refine aD ev0 ev0 (u4 AP au (Nat.lt_succ_self nx) rfl hpos hls (by omega)) ?_
  rintro _ H2 n2 ⟨M,hps,hpM,hsM⟩
  have hMl:M.length=l.length:=hpM.length_eq
  have hM:M=uQ l:=ga mr (fun x _ y _=>od) (bQ.of (by rw [hMl]; exact hsM)) hpM
  have hMs:∀ v ∈ M,Sh v:=fun v hv=>hls v (hpM.mem_iff.1 hv)
  have hM0:M ≠ []:=fun e=>by rw [e] at hMl; simp at hMl; omega
  have hcp:=qh M (by omega) hMs hM0 H2 nx n2 hps.at_ (by have:=hps.le; omega)
  rw [hMl] at hcp
  (have zz:=and_self; repeat' (first | refine zW ?_ | apply a_n | refine zO ?_ | refine vY ?_ | fail)) <;> (try clear zz)
  refine aD ev0 ev0 hcp ?_
  rintro _ _ _ ⟨rfl,⟨C,rfl,c1,c2⟩,rfl⟩
  (have zz:=and_self; repeat' (first | apply a_n | refine zO ?_ | refine vY ?_ | refine ae rfl ?_ | refine r1Y ?_ | fail)) <;> (try clear zz)
  refine ⟨?_,fun x hx=>by rw [aa (by omega),hps.fr x (by omega) (by omega),aa (by omega)],by have:=hps.le; omega⟩
  have hdd:ddG M l.length=mU l:=by
    have:=vj l
    rw [← hM,hMl] at this
    exact this
  have hhl:=vB M l.length
  have hle:=sF M l.length
  rw [hdd] at c2 hhl
  refine s6 (cs:=C) au c1 (by omega) (by simp [hhl]) (fun y hy=>?_) (fun i x y hx hy=>?_)
  · obtain ⟨v,_,rfl⟩:=List.mem_map.1 hy; rfl
  · rw [Nat.zero_add] at hx
    have hil:i < bt M l.length:=by
      have:=(List.getElem?_eq_some_iff.1 hy).1
      rw [List.length_map] at this
      omega
    have e1:(C.take (bt M l.length))[i]?=some x:=by rw [List.getElem?_take,if_pos hil]; exact hx
    rw [c2,hy] at e1
    cases e1
    obtain ⟨v,_,rfl⟩:=List.mem_map.1 (List.mem_of_getElem? hy)
    exact bh _ _
end Go.Proofs.YtjgpfclngkcedaaGreat
namespace Go.Proofs.YtjgpfclngkcedaaGreat
open Go Go.Abs
open Nat (reduceEqDiff reduceAdd reduceLeDiff)
def bo (x y:List (List Int)):List (List Int):=mU (x ++ y)
def kL (x y:List (List Int)):Nat→Nat
  | 0=>0
  | 1=>x.length
  | _=>x.length + y.length
def x1 (x y:List (List Int)):Nat→List AV
  | 0=>a7 (.agg [.esl]) (x.length + y.length)
  | 1=>bj (a7 (.agg [.esl]) (x.length + y.length)) 0 (x.map aK)
  | _=>(x ++ y).map aK
theorem nL (n:Nat):(a7 (.agg [.esl]) n).length=n:=by simp [a7,AV.cells]
theorem vC (x y:List (List Int)):bj (bj (a7 (.agg [.esl]) (x.length + y.length)) 0 (x.map aK)) x.length (y.map aK)=(x ++ y).map aK:=by
  have h:=nL (x.length + y.length)
  generalize a7 (.agg [.esl]) (x.length + y.length)=Z at *
  simp only [bj,List.length_map,Nat.zero_add,List.take_zero,List.nil_append]
  rw [List.take_append_of_le_length (by simp),List.take_of_length_le (by simp),List.drop_eq_nil_of_le (by simp; omega),List.append_nil,List.map_append]
attribute [local irreducible] aA af aV aQ aE aL ay aM aR ba Go.Abs.Fn aO Go.Abs.Pure ap aB Yl
theorem ud (x y:List (List Int)) (hx:x ≠ []) (hy:y ≠ []) (hxl:x.length ≤ 100000) (hyl:y.length ≤ 100000) (b:Nat) (H:Hp) (nx:Nat) (hb:H b=some [ak x,ak y]) (hbn:b < nx) :
    Abs.Fn Tryz.prog 58 [.msl b 2 1 0 2] H nx fun r H' nx'=>r=.msl nx (x.length + y.length) 1 0 (x.length + y.length)∧H'=am H nx ((x ++ y).map aK)∧nx'=nx + 1:=by
  refine Abs.Fn.of_c2 follows zG (Nat.le_of_ble_eq_true rfl) ?_
  simp only [b58,cO,cG,cN,cM,cD,cF,cB,aw,aG]
  have px:=List.length_pos_iff.2 hx
  have py:=List.length_pos_iff.2 hy
  refine bz ?_
  (have zz:=and_self; repeat' (first | apply a_n | refine zO ?_ | refine vY ?_ | fail)) <;> (try clear zz)
  refine bz ?_
  (have zz:=and_self; repeat' (first | apply a_n | refine zO ?_ | refine vY ?_ | fail)) <;> (try clear zz)
  refine aJ (fun T H' nx'=>T 0=.msl b 2 1 0 2∧T 3=.int .i64 (x.length + y.length:Nat)∧H=H'∧nx=nx') ?_ ?_
  · (have zz:=and_self; repeat' (first | refine zW ?_ | apply a_n | refine zO ?_ | refine vY ?_ | fail)) <;> (try clear zz)
    refine fR (X:=Nat) (fun k=>[(0,.msl b 2 1 0 2),(3,.int .i64 (kL x y k:Nat)),(9,.msl b 2 1 0 2),(10,.int .i64 2),(11,.int .i64 (k:Nat))]) (fun k=>k ≤ 2) (fun k=>2 - k) 0 (by omega) (by simp (disch:=omega) only [agr,ZG,reduceEqDiff,↓reduceIte,kL] <;> simp) ?_
    intro k hk
    obtain rfl | rfl | rfl:k=0 ∨ k=1 ∨ k=2:=by omega
    · have z:decide ((x.length:Int) < 0)=false:=decide_eq_false (by omega)
      have ix:fi 1 (.msl b 2 1 0 2) (.int .i64 0)=some (.ptr b 2 0):=rfl
      have c0:((kL x y 0:Nat):Int)=0:=rfl
      (have zz:=aI @z (aI @hb (aI @ix (aI @c0 (aI (show ((0:Nat):Int)=0 from rfl) @Int.zero_add)))); repeat' (first | refine zW ?_ | apply a_n | refine zO ?_ | refine vY ?_ | refine cFY ?_ | (refine zGY ?_ ?_ <;> (intro _hg; try (exfalso; omega))) | fail)) <;> (try clear zz)
      exact ⟨1,by omega,by omega,by simp (disch:=omega) only [agr,ZG,reduceEqDiff,↓reduceIte,kL,Int.zero_add],rfl,rfl⟩
    · have z:decide (((x.length:Int) + y.length) < 0)=false:=decide_eq_false (by omega)
      have ix:fi 1 (.msl b 2 1 0 2) (.int .i64 1)=some (.ptr b 2 1):=rfl
      have c1:((kL x y 1:Nat):Int)=x.length:=rfl
      (have zz:=aI @z (aI @hb (aI @ix (aI @c1 ((show ((1:Nat):Int)=1 from rfl))))); repeat' (first | refine zW ?_ | apply a_n | refine zO ?_ | refine vY ?_ | refine cFY ?_ | (refine zGY ?_ ?_ <;> (intro _hg; try (exfalso; omega))) | fail)) <;> (try clear zz)
      exact ⟨2,by omega,by omega,by simp (disch:=omega) only [agr,ZG,reduceEqDiff,↓reduceIte,kL] <;> simp,rfl,rfl⟩
    · (have zz:=(show ((2:Nat):Int)=2 from rfl); repeat' (first | refine zW ?_ | apply a_n | apply a_x | refine zO ?_ | refine vY ?_ | (refine zGY ?_ ?_ <;> (intro _hg; try (exfalso; omega))) | fail)) <;> (try clear zz)
      exact ⟨rfl,rfl,rfl,rfl⟩
  rintro T _ _ ⟨t0,t3,rfl,rfl⟩
  (have zz:=@t3; repeat' (first | refine zW ?_ | apply a_n | refine zO ?_ | refine vY ?_ | fail)) <;> (try clear zz)
  refine aD ev0 (have zz:=@t3; evY) (x3 (x.length + y.length) (by omega) (by omega) H nx) ?_
  rintro _ _ _ ⟨rfl,rfl,rfl⟩
  (have zz:=@t0; repeat' (first | refine zW ?_ | apply a_n | refine zO ?_ | refine vY ?_ | fail)) <;> (try clear zz)
  refine be (X:=Nat) (fun k=>[(6,.msl nx (x.length + y.length) 1 0 (kL x y k)),(25,.msl b 2 1 0 2),(26,.int .i64 2),(27,.int .i64 (k:Nat))]) (fun k H' nx'=>k ≤ 2∧H'=am H nx (x1 x y k)∧nx'=nx + 1) (fun k=>2 - k) 0 ⟨by omega,rfl,rfl⟩ (by simp (disch:=omega) only [agr,ZG,reduceEqDiff,↓reduceIte,kL] <;> simp) ?_
  rintro k _ _ ⟨hk,rfl,rfl⟩
  obtain rfl | rfl | rfl:k=0 ∨ k=1 ∨ k=2:=by omega
  · have ix:fi 1 (.msl b 2 1 0 2) (.int .i64 0)=some (.ptr b 2 0):=rfl
    (have zz:=aI @hb (aI @ix ((show ((0:Nat):Int)=0 from rfl))); repeat' (first | refine zW ?_ | apply a_n | refine zO ?_ | refine vY ?_ | (refine zGY ?_ ?_ <;> (intro _hg; try (exfalso; omega))) | fail)) <;> (try clear zz)
    refine tG (b:=nx) (m:=x.length + y.length) (off:=0) (len:=0) (n:=x.length) (cs:=x1 x y 0) rfl ((by ((try simp (disch:=omega) only [b0,ZA,reduceEqDiff,↓reduceIte,reduceAdd,reduceLeDiff,kL]); (try with_reducible rfl)))) au ev0 f9 eY (nL _) (fun _=>by omega) (by omega) (by omega) ?_
    (have zz:=(show ((0:Nat):Int)=0 from rfl); repeat' (first | apply a_n | refine zO ?_ | refine vY ?_ | fail)) <;> (try clear zz)
    refine ⟨1,by omega,⟨by omega,?_,rfl⟩,by simp (disch:=omega) only [agr,ZG,reduceEqDiff,↓reduceIte,kL,Int.zero_add,Nat.zero_add]⟩
    rw [an]; rfl
  · have ix:fi 1 (.msl b 2 1 0 2) (.int .i64 1)=some (.ptr b 2 1):=rfl
    (have zz:=aI @hb (aI @ix ((show ((1:Nat):Int)=1 from rfl))); repeat' (first | refine zW ?_ | apply a_n | refine zO ?_ | refine vY ?_ | (refine zGY ?_ ?_ <;> (intro _hg; try (exfalso; omega))) | fail)) <;> (try clear zz)
    refine tG (b:=nx) (m:=x.length + y.length) (off:=0) (len:=x.length) (n:=y.length) (cs:=x1 x y 1) rfl ((by ((try simp (disch:=omega) only [b0,ZA,reduceEqDiff,↓reduceIte,reduceAdd,reduceLeDiff,kL]); (try with_reducible rfl)))) au ev0 f9 eY (by show (bj _ 0 _).length=_; rw [fy (by simp [nL])]; exact nL _) (fun _=>by omega) (by omega) (by omega) ?_
    (have zz:=(show ((1:Nat):Int)=1 from rfl); repeat' (first | apply a_n | refine zO ?_ | refine vY ?_ | fail)) <;> (try clear zz)
    refine ⟨2,by omega,⟨by omega,?_,rfl⟩,by simp (disch:=omega) only [agr,ZG,reduceEqDiff,↓reduceIte,kL] <;> simp⟩
    rw [an,Nat.zero_add,Nat.mul_one]
    show am H nx (bj (bj _ 0 _) x.length _)=_
    rw [vC]; rfl
  · (have zz:=(show ((2:Nat):Int)=2 from rfl); repeat' (first | refine zW ?_ | apply a_n | apply a_x | refine zO ?_ | refine vY ?_ | (refine zGY ?_ ?_ <;> (intro _hg; try (exfalso; omega))) | refine ae rfl ?_ | refine r1Y ?_ | fail)) <;> (try clear zz)
    exact ⟨rfl,rfl,rfl⟩
theorem q9 (x y:List (List Int)) (hx:x ≠ []) (hy:y ≠ []) (hxl:x.length ≤ 100000) (hyl:y.length ≤ 100000) (hxs:∀ v ∈ x,Sh v) (hys:∀ v ∈ y,Sh v):Pure Tryz.prog 56 [ak x,ak y] (ak (bo x y)):=by
  refine Pure.of_c2 follows z5 (Nat.le_of_ble_eq_true rfl) ?_
  simp only [b56,cO,cG,cN,cM,cD,cF,cB,aw,aG]
  (have zz:=and_self; repeat' (first | refine zW ?_ | apply a_n | refine zO ?_ | refine vZ ?_ | refine blZ ?_ | fail)) <;> (try clear zz)
  refine aD ev0 ev0 (ud x y hx hy hxl hyl 0 _ _ au (by omega)) ?_
  rintro _ _ _ ⟨rfl,rfl,rfl⟩
  skip
  refine aD ev0 ev0 (uI (.msl 1 (x.length + y.length) 1 0 (x.length + y.length)) (x ++ y) (by simp; omega) (fun v hv=>(List.mem_append.1 hv).elim (hxs v) (hys v)) _ _ (by simp [fw]) (fun H' hH'=>by
    rw [jz (cs:=(x ++ y).map aK) ((hH' 1 (by omega)).trans au) (by simp) (by omega),List.drop_zero,List.take_of_length_le (by simp),List.length_append])) ?_
  rintro r H1 n1 ⟨h1,h2,h3⟩
  (have zz:=and_self; repeat' (first | apply a_n | refine zO ?_ | refine vZ ?_ | refine ae rfl ?_ | refine r1Z ?_ | fail)) <;> (try clear zz)
  exact h1
theorem vW (c d:CaseV) (hc:ShC c) (hd:ShC d):Pure Tryz.prog 63 [bv c,bv d] (.int .i64 (KC c d)):=by
  refine Pure.of_c2 follows y6 (Nat.le_of_ble_eq_true rfl) ?_
  simp only [b63,cO,cG,cN,cM,cD,cF,cB,aw,aG]
  have hcm:=iA c.inp d.inp hc.1 hd.1
  unfold bv KC
  (have zz:=and_self; repeat' (first | refine zW ?_ | apply a_n | refine zO ?_ | refine vZ ?_ | refine cZ ?_ (hp:=hcm) | refine bxZ ?_ | refine ae rfl ?_ | refine r1Z ?_ | fail)) <;> (try clear zz)
  exact bq rfl
theorem AL:Cmp3 Tryz.prog bv KC ShC 63 [] where
  len _:=rfl
  agg _:=rfl
  ones _:=rfl
  dat v:=cT v
  dcaps:=by simp
  run x y hx hy:=vW x y hx hy
  ord:=vR
end Go.Proofs.YtjgpfclngkcedaaGreat
namespace Go.Proofs.YtjgpfclngkcedaaGreat
open Go Go.Abs
open Nat (reduceEqDiff reduceAdd reduceLeDiff)
theorem i6 {F:List (List Int)→List (List Int)→List (List Int)} {b:TaskV} {c:CaseV} (h:bC b c.inp=none):iV F b c=none∧dg F b c=true∧eA F b c=false:=by
  unfold iV dg eA; rw [h]; exact ⟨rfl,rfl,rfl⟩
theorem fg {F:List (List Int)→List (List Int)→List (List Int)} {b:TaskV} {c d:CaseV} (h:bC b c.inp=some d):iV F b c=some (bM c.inp (F c.out d.out) (F (ax c 0) (ax d 0)))∧dg F b c=(decide (0 < (F c.out d.out).length) && decide (0 < (F (ax c 0) (ax d 0)).length))∧eA F b c=(decide (1024 < (F c.out d.out).length) || decide (1024 < (F (ax c 0) (ax d 0)).length)):=by
  unfold iV dg eA; rw [h]; exact ⟨rfl,rfl,rfl⟩
attribute [local irreducible] aA af aV aQ aE aL ay aM aR ba Go.Abs.Fn aO Go.Abs.Pure ap aB Yl
set_option maxHeartbeats 2000000 in
theorem mf (a b:TaskV) (F:List (List Int)→List (List Int)→List (List Int)) (g:Nat) (caps:List AV) (hd:∀ x ∈ caps,Dat x) (ha:∀ c ∈ a.cases,ShC c) (ha2:a.cases.length ≤ 100000) (hb:∀ c ∈ b.cases,ShC c) (hb2:Sh b.cases)
    (hF:∀ c ∈ a.cases,∀ d ∈ b.cases,Pure Tryz.prog g (ak c.out :: ak d.out :: caps) (ak (F c.out d.out))∧Pure Tryz.prog g (ak (ax c 0) :: ak (ax d 0) :: caps) (ak (F (ax c 0) (ax d 0)))∧((F c.out d.out).length ≤ 100000∧∀ v ∈ F c.out d.out,Sh v)∧(F (ax c 0) (ax d 0)).length ≤ 100000∧∀ v ∈ F (ax c 0) (ax d 0),Sh v) (H:Hp) (nx:Nat) :
    Abs.Fn Tryz.prog 47 [bd a,bd b,.func g caps] H nx fun r H' nx'=>∃ sv,r=.tup [sv,.bool (a.cases.all (dg F b)),.bool (a.cases.any (eA F b))]∧Row H' 3 sv ((bB F b a.cases).c3 bv)∧(∀ x,dZ sv=some x→nx ≤ x∧x < nx')∧(∀ x,x < nx→H' x=H x)∧nx ≤ nx':=by
  refine Abs.Fn.of_c2 follows zT (Nat.le_of_ble_eq_true rfl) ?_
  simp only [b47,cO,cG,cN,cM,cD,cF,cB,aw,aG]
  have d2:=bu b
  have hfind:=fun v hv=>rl b v hb hb2 hv
  unfold bd at *
  (have zz:=aI @ah (aI @ab @ao); repeat' (first | refine zW ?_ | apply a_n | refine zO ?_ | refine vY ?_ | refine bxY ?_ | fail)) <;> (try clear zz)
  refine be (X:=AV × Nat) (fun x=>[(2,.func g caps),(3,.ptr nx 4 0),(4,.ptr (nx + 1) 4 0),(9,x.1),(10,.bool ((a.cases.take x.2).all (dg F b))),(11,.bool ((a.cases.take x.2).any (eA F b))),(19,aF a.cases),(20,.int .i64 a.cases.length),(21,.int .i64 x.2)]) (fun x H' nx'=>x.2 ≤ a.cases.length∧nx + 2 ≤ nx'∧(∀ x,x < nx→H' x=H x)∧H' (nx + 1)=some [.int .i64 b.n,.int .i64 b.ins,.int .i64 b.outs,aF b.cases]∧Row H' 3 x.1 ((bB F b (a.cases.take x.2)).c3 bv)∧∀ y,dZ x.1=some y→nx + 2 ≤ y∧y < nx') (fun x=>a.cases.length - x.2) (.esl,0) ⟨Nat.zero_le _,Nat.le_refl _,fun x hx=>by rw [aa (by omega),aa (by omega)],au,Row.nil,fun b hb=>(by cases hb)⟩ (by simp (disch:=omega) only [agr,ZG,reduceEqDiff,↓reduceIte,List.length_cons,List.length_nil,reduceAdd,Nat.zero_add,List.take_zero,List.all_nil,List.any_nil]) ?_
  rintro ⟨sv,k⟩ H1 nx1 ⟨hk,hnx,hsame,g1,hrow,hbd⟩
  dsimp only at hk hrow hbd ⊢
  by_cases hk2:k < a.cases.length
  rotate_left
  · rw [List.take_of_length_le (by omega)] at hrow ⊢
    (have zz:=and_self; repeat' (first | refine zW ?_ | apply a_n | apply a_x | refine zO ?_ | refine vZ ?_ | (refine zGZ ?_ ?_ <;> (intro _hg; try (exfalso; omega))) | refine ae rfl ?_ | refine r3Z ?_ | fail)) <;> (try clear zz)
    exact ⟨sv,rfl,hrow,fun x hx=>by have:=hbd x hx; omega,hsame,by omega⟩
  have ix:=aX hk2
  have hm:=ai hk2
  have hall:=mN (p:=dg F b) hk2
  have hany:=mR (p:=eA F b) hk2
  have hcomb:=hU (F:=F) (b:=b) hk2
  have hFc:=hF _ hm
  have hsc:=ha _ hm
  have hfi:=hfind _ hsc.1
  have hln:(bB F b (a.cases.take k)).length ≤ a.cases.length:=Nat.le_trans d7 (by rw [List.length_take]; omega)
  have hlen3:((bB F b (a.cases.take k)).c3 bv).length=(bB F b (a.cases.take k)).length * 3:=a8 (fun _=>rfl) _
  generalize a.cases.getD k default=c at *
  obtain ⟨q1,q2⟩:=hrow.one
  cases hf:bC b c.inp with
  | none =>
    obtain ⟨n1,n2,n3⟩:=i6 (F:=F) hf
    rw [n1] at hcomb
    rw [n2,Bool.and_true] at hall
    rw [n3,Bool.or_false] at hany
    rw [hf] at hfi
    have hfi':Pure Tryz.prog 41 [.agg [.int .i64 b.n,.int .i64 b.ins,.int .i64 b.outs,aF b.cases],aK c.inp] (.tup [.agg [aK [],ak [],ak []],.bool false]):=hfi
    (have zz:=aI @g1 (aI @ah (aI @ab @ix)); repeat' (first | refine zW ?_ | apply a_n | apply a_x | refine zO ?_ | refine vY ?_ | refine cY ?_ (hp:=hfi') | refine alY ?_ | refine stY ?_ | refine cTY ?_ | (refine zGY ?_ ?_ <;> (intro _hg; try (exfalso; omega))) | fail)) <;> (try clear zz)
    refine ⟨(sv,k + 1),by dsimp only; omega,⟨by dsimp only; omega,by omega,fun x hx=>?_,?_,?_,fun y hy=>?_⟩,(have zz:=aI @hall @hany; agZ)⟩
    · rw [aa (by omega),aa (by omega),aa (by omega),aa (by omega),hsame x hx]
    · rw [aa (by omega),aa (by omega),aa (by omega),aa (by omega),g1]
    · dsimp only
      rw [hcomb]
      simp only [Option.toList,List.append_nil]
      exact hrow.same fun y hy=>by have:=hbd y hy; rw [aa (by omega),aa (by omega),aa (by omega),aa (by omega)]
    · have:=hbd y hy; omega
  | some d =>
    obtain ⟨n1,n2,n3⟩:=fg (F:=F) hf
    obtain ⟨dm,di⟩:=gm hf
    obtain ⟨f1,f2,⟨f3,f4⟩,f5,f6⟩:=hFc d dm
    rw [hf] at hfi
    have hfi':Pure Tryz.prog 41 [.agg [.int .i64 b.n,.int .i64 b.ins,.int .i64 b.outs,aF b.cases],aK c.inp] (.tup [.agg [aK d.inp,ak d.out,ak d.calm],.bool true]):=hfi
    have hc1:=qt c
    have hc2:=qt d
    have dc:=cT c
    have dd:=cT d
    unfold bv at dc dd
    have hmd:=ug c.inp (F c.out d.out) (F (ax c 0) (ax d 0)) hsc.1 f3 f5 f4 f6
    have hmi:(bM c.inp (F c.out d.out) (F (ax c 0) (ax d 0))).inp=c.inp∧(bM c.inp (F c.out d.out) (F (ax c 0) (ax d 0))).out=F c.out d.out:=⟨rfl,rfl⟩
    rw [n1] at hcomb
    rw [n2] at hall
    rw [n3] at hany
    have hX:(F c.out d.out).length ≤ 17592186044416:=by omega
    have hY:(F (ax c 0) (ax d 0)).length ≤ 17592186044416:=by omega
    generalize bM c.inp (F c.out d.out) (F (ax c 0) (ax d 0))=M at *
    generalize F c.out d.out=X at *
    generalize F (ax c 0) (ax d 0)=Y at *
    refine bz ?_
    (have zz:=and_self; repeat' (first | apply a_n | refine zO ?_ | refine vY ?_ | fail)) <;> (try clear zz)
    refine bz ?_
    (have zz:=and_self; repeat' (first | apply a_n | refine zO ?_ | (refine zGY ?_ ?_ <;> (intro _hg; try (exfalso; omega))) | fail)) <;> (try clear zz)
    refine bz ?_
    refine ce ?_
    refine bz ?_
    (have zz:=@ix; repeat' (first | apply a_n | refine zO ?_ | refine vY ?_ | refine alY ?_ | refine stY ?_ | fail)) <;> (try clear zz)
    refine bz ?_
    (have zz:=aI @g1 (aI @ah (aI @ab @ix)); repeat' (first | apply a_n | refine zO ?_ | refine vY ?_ | refine cY ?_ (hp:=hfi') | refine alY ?_ | refine stY ?_ | fail)) <;> (try clear zz)
    refine bz ?_
    refine bz ?_
    (have zz:=and_self; repeat' (first | apply a_n | refine zO ?_ | refine vY ?_ | refine cFY ?_ | fail)) <;> (try clear zz)
    refine aJ (fun T' H' nx'=>T' 2=.func g caps∧T' 3=.ptr nx 4 0∧T' 4=.ptr (nx + 1) 4 0∧T' 9=sv∧T' 10=.bool ((a.cases.take k).all (dg F b))∧T' 11=.bool ((a.cases.take k).any (eA F b))∧T' 13=.ptr nx1 3 0∧T' 16=ak X∧T' 17=ak Y∧T' 19=aF a.cases∧T' 20=.int .i64 a.cases.length∧T' 21=.int .i64 k∧nx'=nx1 + 2∧H' nx1=some [aK c.inp,ak c.out,ak c.calm]∧∀ x,x < nx1→H' x=H1 x) ?_ ?_
    · (have zz:=and_self; repeat' (first | refine zM ?_ | apply a_n | refine zO ?_ | refine vY ?_ | refine cY ?_ (hp:=by first | exact f1 | exact f2 | exact hc1 | exact hc2) (hs:=by (first | refine aj ?_ rfl | apply aq); (repeat' (first | exact ag | apply aC | apply av | exact dc | exact dd | exact ar hd)); first | done | fail) | fail)) <;> (try clear zz)
      exact ⟨rfl,rfl,rfl,rfl,rfl,rfl,rfl,rfl,rfl,rfl,rfl,rfl,rfl,by rw [aa (by omega),aa (by omega),au]; rfl,fun x hx=>by rw [aa (by omega),aa (by omega),aa (by omega),aa (by omega)]⟩
    rintro T H2 _ ⟨t2,t3,t4,t9,t10,t11,t13,t16,t17,t19,t20,t21,rfl,g13,gs⟩
    refine aJ (fun T' H' nx'=>T' 2=.func g caps∧T' 3=.ptr nx 4 0∧T' 4=.ptr (nx + 1) 4 0∧T' 9=sv∧T' 10=.bool ((a.cases.take (k + 1)).all (dg F b))∧T' 11=.bool ((a.cases.take k).any (eA F b))∧T' 13=.ptr nx1 3 0∧T' 16=ak X∧T' 17=ak Y∧T' 19=aF a.cases∧T' 20=.int .i64 a.cases.length∧T' 21=.int .i64 k∧nx'=nx1 + 2∧H2=H') ?_ ?_
    · rw [hall]
      generalize (a.cases.take k).all (dg F b)=A at *
      cases A <;> (
        (have zz:=aI @t10 (aI @t16 @t17); repeat' (first | apply a_n | refine zO ?_ | refine vZ ?_ | refine gTZ ?_ | refine gFZ ?_ | (refine zGZ ?_ ?_ <;> (intro _hg; try (exfalso; omega))) | fail)) <;> (try clear zz)
        all_goals exact ⟨(have zz:=@t2; evZ),(have zz:=@t3; evZ),(have zz:=@t4; evZ),(have zz:=@t9; evZ),by ((try simp only [br,ZA,reduceEqDiff,↓reduceIte,reduceAdd,reduceLeDiff]); (try with_reducible rfl)); refine congrArg AV.bool ?_; rw [Bool.eq_iff_iff]; simp only [Bool.or_eq_true,Bool.and_eq_true,decide_eq_true_eq,Bool.false_eq_true,false_or,true_or,false_and,true_and,true_iff,false_iff]; first | done | omega,(have zz:=@t11; evZ),(have zz:=@t13; evZ),(have zz:=@t16; evZ),(have zz:=@t17; evZ),(have zz:=@t19; evZ),(have zz:=@t20; evZ),(have zz:=@t21; evZ),rfl,rfl⟩)
    clear t2 t3 t4 t9 t10 t11 t13 t16 t17 t19 t20 t21
    rintro T _ _ ⟨t2,t3,t4,t9,t10,t11,t13,t16,t17,t19,t20,t21,rfl,rfl⟩
    refine aJ (fun T' H' nx'=>T' 2=.func g caps∧T' 3=.ptr nx 4 0∧T' 4=.ptr (nx + 1) 4 0∧T' 9=sv∧T' 10=.bool ((a.cases.take (k + 1)).all (dg F b))∧T' 11=.bool ((a.cases.take (k + 1)).any (eA F b))∧T' 13=.ptr nx1 3 0∧T' 16=ak X∧T' 17=ak Y∧T' 19=aF a.cases∧T' 20=.int .i64 a.cases.length∧T' 21=.int .i64 k∧nx'=nx1 + 2∧H2=H') ?_ ?_
    · rw [hany]
      generalize (a.cases.take k).any (eA F b)=A at *
      cases A <;> (
        (have zz:=aI @t11 (aI @t16 @t17); repeat' (first | apply a_n | refine zO ?_ | refine vZ ?_ | refine gTZ ?_ | refine gFZ ?_ | (refine zGZ ?_ ?_ <;> (intro _hg; try (exfalso; omega))) | fail)) <;> (try clear zz)
        all_goals exact ⟨(have zz:=@t2; evZ),(have zz:=@t3; evZ),(have zz:=@t4; evZ),(have zz:=@t9; evZ),(have zz:=@t10; evZ),by ((try simp only [br,ZA,reduceEqDiff,↓reduceIte,reduceAdd,reduceLeDiff]); (try with_reducible rfl)); refine congrArg AV.bool ?_; rw [Bool.eq_iff_iff]; simp only [Bool.or_eq_true,Bool.and_eq_true,decide_eq_true_eq,Bool.false_eq_true,false_or,true_or,false_and,true_and,true_iff,false_iff]; first | done | omega,(have zz:=@t13; evZ),(have zz:=@t16; evZ),(have zz:=@t17; evZ),(have zz:=@t19; evZ),(have zz:=@t20; evZ),(have zz:=@t21; evZ),rfl,rfl⟩)
    clear t2 t3 t4 t9 t10 t11 t13 t16 t17 t19 t20 t21
    rintro T _ _ ⟨t2,t3,t4,t9,t10,t11,t13,t16,t17,t19,t20,t21,rfl,rfl⟩
    (have zz:=aI @t9 (aI @t13 (aI @t16 (aI @t17 @g13))); repeat' (first | apply a_n | refine zO ?_ | refine vY ?_ | refine cY ?_ (hp:=hmd) | refine blY ?_ | fail)) <;> (try clear zz)
    refine gz rfl ev0 (hrow.same fun y hy=>?_) ev0 eZ rfl rfl (by omega) (by rw [hlen3]; omega) (by rw [hlen3]; omega) ?_
    · have:=hbd y hy
      rw [aa (by omega),gs y (by omega)]
    rintro s2 E e hrw hle1 hle2 hsm hb2
    (have zz:=@t21; repeat' (first | apply a_n | refine zO ?_ | refine vY ?_ | fail)) <;> (try clear zz)
    refine ⟨(s2,k + 1),by dsimp only; omega,⟨by dsimp only; omega,by omega,fun x hx=>?_,?_,?_,fun y hy=>?_⟩,(have zz:=aI @t2 (aI @t3 (aI @t4 (aI @t10 (aI @t11 (aI @t19 @t20))))); agZ)⟩
    · rw [hsm x (by omega) (fun h=>by have:=hbd x h; omega),aa (by omega),gs x (by omega),hsame x hx]
    · rw [hsm (nx + 1) (by omega) (fun h=>by have:=hbd _ h; omega),aa (by omega),gs _ (by omega),g1]
    · dsimp only
      rw [hcomb,ow]
      obtain ⟨i,o,q⟩:=M
      obtain ⟨rfl,rfl⟩:=hmi
      simpa [List.c3,bv,AV.cells] using hrw
    · rcases hb2 y hy with h | h
      · have:=hbd y h; omega
      · omega
end Go.Proofs.YtjgpfclngkcedaaGreat
namespace Go.Proofs.YtjgpfclngkcedaaGreat
open Go Go.Abs
theorem mn2 {a b:Int}:dr gZ (.int .i64 a) [.int .i64 b]=some (.int .i64 (min a b)):=by
  simp only [dr,gZ,if_true]
  rw [show (if b < a then b else a)=min a b by split <;> omega]
theorem mx2 {a b:Int}:dr ia (.int .i64 a) [.int .i64 b]=some (.int .i64 (max a b)):=by
  simp only [dr,ia,if_true]
  rw [show (if b > a then b else a)=max a b by split <;> omega]
def eL (a b:TaskV):TaskV × Int:=if de a b ≠ 0 then (T00,de a b) else if (bB aY b a.cases).length=0 ∨ a.cases.all (dg aY b)=false then (T00,16) else (⟨a.n,min a.ins b.ins,min a.outs b.outs,bB aY b a.cases⟩,0)
theorem dB {x y:List (List Int)}:(aY x y).length ≤ x.length:=List.length_filter_le _ _
theorem d9 {x y:List (List Int)} {v:List Int}:v ∈ aY x y ↔ v ∈ x∧v ∈ y:=by unfold aY; rw [List.mem_filter,decide_eq_true_iff]
theorem bJ {c:CaseV} {f:Int} (h:ShC c):∀ v ∈ ax c f,Sh v:=by
  obtain ⟨s1,s2,s3,s4,s5⟩:=h
  unfold ax
  split
  · exact s5
  · exact s3
theorem el {c:CaseV} {f:Int} {n:Nat} (h:c.out.length ≤ n∧c.calm.length ≤ n):(ax c f).length ≤ n:=by
  unfold ax
  split
  · exact h.2
  · exact h.1
theorem zd {H:Hp} {n i o:Int} {sv:AV} {L:List CaseV} (h:Snap H sv (aF L)):Snap H (.agg [.int .i64 n,.int .i64 i,.int .i64 o,sv]) (bd ⟨n,i,o,L⟩) :=
  e5 (az (.int _ _) (az (.int _ _) (az (.int _ _) (az h ag))))
theorem nI {H:Hp} {n i o e:Int} {sv:AV} {L:List CaseV} (h:Snap H sv (aF L)):Snap H (.tup [.agg [.int .i64 n,.int .i64 i,.int .i64 o,sv],.int .i64 e]) (.tup [bd ⟨n,i,o,L⟩,.int .i64 e]) :=
  jw (az (zd h) (az (.int _ _) ag))
attribute [local irreducible] aA af aV aQ aE aL ay aM aR ba Go.Abs.Fn aO Go.Abs.Pure ap aB Yl
theorem x7 (a b:TaskV) (ha:∀ c ∈ a.cases,ShC c) (ha2:a.cases.length ≤ 100000) (hb:∀ c ∈ b.cases,ShC c) (hb2:Sh b.cases) (hqa:∀ c ∈ a.cases,c.out.length ≤ 100000∧c.calm.length ≤ 100000):Pure Tryz.prog 16 [bd a,bd b] (.tup [bd (eL a b).1,.int .i64 (eL a b).2]):=by
  refine Pure.of_c2 follows yT (Nat.le_of_ble_eq_true rfl) ?_
  simp only [b16,cO,cG,cN,cM,cD,cF,cB,aw,aG]
  have hp:=sZ a b ha (show a.cases.length ≤ _ by omega) hb hb2
  have d1:=bu a
  have d2:=bu b
  by_cases he:de a b=0
  rotate_left
  · have e:eL a b=(T00,de a b):=by unfold eL; rw [if_pos he]
    rw [e]
    generalize de a b=C at *
    unfold bd at hp d1 d2
    rw [show bd a=.agg [.int .i64 a.n,.int .i64 a.ins,.int .i64 a.outs,aF a.cases] from rfl,show bd b=.agg [.int .i64 b.n,.int .i64 b.ins,.int .i64 b.outs,aF b.cases] from rfl]
    (have zz:=aI @ah @ab; repeat' (first | refine zW ?_ | apply a_n | apply a_r | refine zO ?_ | refine vZ ?_ | refine cZ ?_ (hp:=hp) | refine alZ ?_ | refine bxZ ?_ | refine stZ ?_ | (refine zGZ ?_ ?_ <;> (intro _hg; try (exfalso; omega))) | refine ae rfl ?_ | refine r2Z ?_ | fail)) <;> (try clear zz)
    exact dx _
  rw [he] at hp
  have e:eL a b=if (bB aY b a.cases).length=0 ∨ a.cases.all (dg aY b)=false then (T00,16) else (⟨a.n,min a.ins b.ins,min a.outs b.outs,bB aY b a.cases⟩,0):=by unfold eL; rw [if_neg (fun h=>h he)]
  rw [e]
  have hco:=fun H nx=>mf a b aY 48 [] (by simp) ha ha2 hb hb2 (fun c hc d hd=>by
    have h1:=ha c hc
    have h2:=hb d hd
    have h3:=hqa c hc
    have h4:=el (f:=0) h3
    refine ⟨qT _ _ h3.1 h1.2.2.1 h2.2.1 h2.2.2.1,qT _ _ h4 (bJ h1) (jH h2) (bJ h2),⟨Nat.le_trans dB h3.1,fun v hv=>h1.2.2.1 v (d9.1 hv).1⟩,Nat.le_trans dB h4,fun v hv=>bJ h1 v (d9.1 hv).1⟩) H nx
  have hcl:(bB aY b a.cases).length ≤ a.cases.length:=d7
  generalize a.cases.all (dg aY b)=A at *
  generalize a.cases.any (eA aY b)=B at *
  generalize bB aY b a.cases=L at *
  unfold bd at hp d1 d2 hco
  rw [show bd a=.agg [.int .i64 a.n,.int .i64 a.ins,.int .i64 a.outs,aF a.cases] from rfl,show bd b=.agg [.int .i64 b.n,.int .i64 b.ins,.int .i64 b.outs,aF b.cases] from rfl]
  (have zz:=aI @ah @ab; repeat' (first | refine zW ?_ | apply a_n | refine zO ?_ | refine vZ ?_ | refine cZ ?_ (hp:=hp) | refine alZ ?_ | refine bxZ ?_ | (refine zGZ ?_ ?_ <;> (intro _hg; try (exfalso; omega))) | fail)) <;> (try clear zz)
  refine aD (have zz:=aI @ah @ab; evZ) (have zz:=aI @ah @ab; evZ) (hco _ _) ?_
  rintro _ H1 n1 ⟨sv,rfl,hrow,hbd,hsm,hnx⟩
  have g0:H1 0=some [.int .i64 a.n,.int .i64 a.ins,.int .i64 a.outs,aF a.cases]:=hsm 0 (by omega)
  have g1:H1 1=some [.int .i64 b.n,.int .i64 b.ins,.int .i64 b.outs,aF b.cases]:=hsm 1 (by omega)
  have g2:H1 2=some [.int .i64 0,.int .i64 0,.int .i64 0,.esl]:=hsm 2 (by omega)
  have hlS:b9 sv=some (.int .i64 L.length):=hrow.lenS (by rw [a8 (fun _=>rfl)]) (by omega)
  obtain ⟨q1,q2⟩:=hrow.one
  by_cases hL:L.length=0
  · have z:decide ((L.length:Int)=0)=true:=decide_eq_true (by omega)
    rw [if_pos (.inl hL)]
    (have zz:=aI @g0 (aI @g1 (aI @g2 (aI @hlS @z))); repeat' (first | refine zW ?_ | apply a_n | apply a_r | refine zO ?_ | refine vY ?_ | refine stY ?_ | refine gFY ?_ | refine cTY ?_ | refine ae rfl ?_ | refine r2Y ?_ | fail)) <;> (try clear zz)
    all_goals exact dx _
  have z:decide ((L.length:Int)=0)=false:=decide_eq_false (by omega)
  cases A
  · rw [if_pos (.inr rfl)]
    (have zz:=aI @g0 (aI @g1 (aI @g2 (aI @hlS @z))); repeat' (first | refine zW ?_ | apply a_n | apply a_r | refine zO ?_ | refine vY ?_ | refine stY ?_ | refine gTY ?_ | refine cTY ?_ | refine ae rfl ?_ | refine r2Y ?_ | fail)) <;> (try clear zz)
    all_goals exact dx _
  · rw [if_neg (by rintro (h | h); exact hL h; exact absurd h (by decide))]
    (have zz:=aI @g0 (aI @g1 (aI @g2 (aI @hlS (aI @z (aI @mn2 (aI @q1 @q2)))))); repeat' (first | refine zW ?_ | apply a_n | refine zO ?_ | refine vY ?_ | refine stY ?_ | refine gTY ?_ | refine cFY ?_ | refine ae rfl ?_ | refine r2Y ?_ | fail)) <;> (try clear zz)
    all_goals exact nI (jX (hrow.same fun x hx=>by have:=hbd x hx; rw [aa (by omega)]))
theorem xf (x y:List (List Int)) (hx:Sh x) (hy:Sh y) (hxs:∀ v ∈ x,Sh v) (hys:∀ v ∈ y,Sh v):Pure Tryz.prog 27 [ak x,ak y] (.bool (decide (x=y))):=by
  refine Pure.of_c2 follows xn (Nat.le_of_ble_eq_true rfl) ?_
  simp only [b27,cO,cG,cN,cM,cD,cF,cB,aw,aG]
  have hx':x.length ≤ 17592186044416:=hx
  have hy':y.length ≤ 17592186044416:=hy
  by_cases hlen:x.length=y.length
  rotate_left
  · have z:decide ((x.length:Int) ≠ y.length)=true:=decide_eq_true (by omega)
    rw [decide_eq_false (fun e=>hlen (by rw [e]))]
    (have zz:=@z; repeat' (first | refine zW ?_ | apply a_n | apply a_r | refine zO ?_ | refine vZ ?_ | refine cTZ ?_ | refine ae rfl ?_ | refine r1Z ?_ | fail)) <;> (try clear zz)
    exact .bool _
  have z:decide ((x.length:Int) ≠ y.length)=false:=decide_eq_false (by omega)
  (have zz:=@z; repeat' (first | refine zW ?_ | apply a_n | refine zO ?_ | refine vZ ?_ | refine cFZ ?_ | fail)) <;> (try clear zz)
  refine iX (fun k=>[(0,ak x),(1,ak y),(5,.int .i64 k)]) x.length (fun k=>x.getD k default=y.getD k default) ag0 ?_
  intro k hk hz
  by_cases hk2:k < x.length
  rotate_left
  · (have zz:=and_self; repeat' (first | refine zW ?_ | apply a_n | apply a_x | refine zO ?_ | refine vZ ?_ | (refine zGZ ?_ ?_ <;> (intro _hg; try (exfalso; omega))) | refine ae rfl ?_ | refine r1Z ?_ | fail)) <;> (try clear zz)
    refine bN ?_
    symm; rw [decide_eq_true_iff]
    refine List.ext_getElem hlen fun i h3 h4=>?_
    have:=hz i (by omega)
    simpa [List.getD,h3,h4] using this
  have hc:=gn (x.getD k default) (y.getD k default) (hxs _ (ai hk2)) (hys _ (ai (by omega)))
  by_cases he:x.getD k default=y.getD k default
  · rw [rS.2 he] at hc
    (have zz:=and_self; repeat' (first | refine zW ?_ | refine zM ?_ | apply a_n | refine zO ?_ | refine vZ ?_ | refine cZ ?_ (hp:=hc) | (refine zGZ ?_ ?_ <;> (intro _hg; try (exfalso; omega))) | fail)) <;> (try clear zz)
    exact ⟨hk2,he,ag0,rfl,rfl⟩
  · have z:decide (aS (x.getD k default) (y.getD k default) ≠ 0)=true:=decide_eq_true (uB he)
    rw [decide_eq_false (p:=x=y) (fun e=>he (by rw [e]))]
    (have zz:=@z; repeat' (first | refine zW ?_ | refine zM ?_ | apply a_n | apply a_r | refine zO ?_ | refine vZ ?_ | refine cZ ?_ (hp:=hc) | refine cTZ ?_ | (refine zGZ ?_ ?_ <;> (intro _hg; try (exfalso; omega))) | refine ae rfl ?_ | refine r1Z ?_ | fail)) <;> (try clear zz)
    exact .bool _
theorem la (i:List Int) (x y:List (List Int)) (hx:Sh x) (hy:Sh y) (hxs:∀ v ∈ x,Sh v) (hys:∀ v ∈ y,Sh v):Pure Tryz.prog 55 [aK i,ak x,ak y] (.agg [aK i,ak x,ak (bM i x y).calm]):=by
  refine Pure.of_c2 follows AW (Nat.le_of_ble_eq_true rfl) ?_
  simp only [b55,cO,cG,cN,cM,cD,cF,cB,aw,aG]
  have hE:=xf x y hx hy hxs hys
  unfold bM
  by_cases he:x=y
  · rw [decide_eq_true he] at hE
    rw [if_pos he]
    (have zz:=and_self; repeat' (first | refine zW ?_ | apply a_n | refine zO ?_ | refine vZ ?_ | refine cZ ?_ (hp:=hE) | refine alZ ?_ | refine stZ ?_ | refine cFZ ?_ | refine ae rfl ?_ | refine r1Z ?_ | fail)) <;> (try clear zz)
    exact e5 (az (bh _ _) (az (aU _ _) (az (.eslsl 1) ag)))
  · rw [decide_eq_false he] at hE
    rw [if_neg he]
    (have zz:=and_self; repeat' (first | refine zW ?_ | apply a_n | refine zO ?_ | refine vZ ?_ | refine cZ ?_ (hp:=hE) | refine alZ ?_ | refine stZ ?_ | refine cTZ ?_ | refine ae rfl ?_ | refine r1Z ?_ | fail)) <;> (try clear zz)
    exact e5 (az (bh _ _) (az (aU _ _) (az (aU _ _) ag)))
theorem qU (l y:List (List Int)) (hl:l.length ≤ 100000) (hls:∀ v ∈ l,Sh v) (hy:Sh y) (hys:∀ v ∈ y,Sh v):Pure Tryz.prog 53 [ak l,ak y] (ak (aY l y)):=by
  refine Pure.of_c2 follows AG (Nat.le_of_ble_eq_true rfl) ?_
  simp only [b53,cO,cG,cN,cM,cD,cF,cB,aw,aG]
  (have zz:=and_self; repeat' (first | refine zW ?_ | apply a_n | refine zO ?_ | refine vZ ?_ | fail)) <;> (try clear zz)
  refine be (X:=AV × Nat) (fun x=>[(0,ak l),(1,ak y),(5,x.1),(6,.int .i64 x.2)]) (fun x H nx=>x.2 ≤ l.length∧Row H 1 x.1 ((aY (l.take x.2) y).map aK)∧∀ b,dZ x.1=some b→b < nx) (fun x=>l.length - x.2) (.esl,0) ⟨Nat.zero_le _,Row.nil,fun b hb=>(by cases hb)⟩ ag0 ?_
  rintro ⟨s,j⟩ H nx ⟨h1,h2,h3⟩
  dsimp only at h1 h2 h3 ⊢
  by_cases hj:j < l.length
  rotate_left
  · (have zz:=@h1; repeat' (first | refine zW ?_ | apply a_n | apply a_x | refine zO ?_ | refine vY ?_ | (refine zGY ?_ ?_ <;> (intro _hg; try (exfalso; omega))) | refine ae rfl ?_ | refine r1Y ?_ | fail)) <;> (try clear zz)
    rw [List.take_of_length_le (by omega)] at h2
    exact h2.snapV
  have hw:=ai hj
  have hc:=xV y (l.getD j default) hy hys (hls _ hw)
  have hst:aY (l.take (j + 1)) y=aY (l.take j) y ++ (if decide (l.getD j default ∈ y) then [l.getD j default] else []):=by
    unfold aY
    rw [bV hj,List.filter_append,lG]
  have hlen:(aY (l.take j) y).length ≤ l.length:=Nat.le_trans dB (by rw [List.length_take]; omega)
  cases hp:decide (l.getD j default ∈ y)
  · rw [hp] at hc hst
    (have zz:=@h1; repeat' (first | refine zW ?_ | apply a_n | refine zO ?_ | refine vY ?_ | refine cY ?_ (hp:=hc) | refine cFY ?_ | (refine zGY ?_ ?_ <;> (intro _hg; try (exfalso; omega))) | fail)) <;> (try clear zz)
    exact ⟨(s,j + 1),by dsimp only; omega,⟨by dsimp only; omega,by dsimp only; rw [hst,if_neg (by decide),List.append_nil]; exact h2,h3⟩,ag0⟩
  · rw [hp] at hc hst
    (have zz:=@h1; repeat' (first | refine zW ?_ | apply a_n | refine zO ?_ | refine vY ?_ | refine cY ?_ (hp:=hc) | refine blY ?_ | refine cTY ?_ | (refine zGY ?_ ?_ <;> (intro _hg; try (exfalso; omega))) | fail)) <;> (try clear zz)
    refine gz rfl ev0 (h2.same fun b hb=>?_) ev0 jD rfl rfl Nat.one_pos (by simp; omega) (by simp; omega) ?_
    · have:=h3 b hb
      rw [aa (by omega)]
    rintro s2 E e hrow hle1 hle2 hsame hb2
    (have zz:=and_self; repeat' (first | apply a_n | refine zO ?_ | refine vZ ?_ | fail)) <;> (try clear zz)
    refine ⟨(s2,j + 1),by dsimp only; omega,⟨by dsimp only; omega,?_,fun b hb=>?_⟩,ag0⟩
    · dsimp only
      rw [hst,if_pos rfl,List.map_append]
      exact hrow
    · rcases hb2 b hb with h | h
      · have:=h3 b h; omega
      · omega
end Go.Proofs.YtjgpfclngkcedaaGreat
namespace Go.Proofs.YtjgpfclngkcedaaGreat
open Go Go.Abs
open Nat (reduceEqDiff reduceAdd reduceLeDiff)
def dh (o:TaskV) (c:CaseV):Option CaseV:=match bC o c.inp with
  | none=>some (bM c.inp c.out (ax c 0))
  | some _=>none
def bl (o:TaskV) (l:List CaseV):List CaseV:=l.filterMap (dh o)
theorem d4 {o:TaskV} {l:List CaseV}:(bl o l).length ≤ l.length:=List.length_filterMap_le _ _
theorem gx {o:TaskV} {l:List CaseV} {k:Nat} (h:k < l.length):bl o (l.take (k + 1))=bl o (l.take k) ++ (dh o (l.getD k default)).toList:=by
  rw [bV h]
  unfold bl
  rw [List.filterMap_append]
  congr 1
def dv (a b:TaskV):List CaseV:=bB bo b a.cases ++ bl b a.cases ++ bl a b.cases
def eJ (a b:TaskV):TaskV × Int:=if de a b ≠ 0 then (T00,de a b) else if 1024 < (dv a b).length ∨ a.cases.any (eA bo b)=true then (T00,5) else (⟨a.n,max a.ins b.ins,max a.outs b.outs,gA KC (dv a b)⟩,0)
attribute [local irreducible] aA af aV aQ aE aL ay aM aR ba Go.Abs.Fn aO Go.Abs.Pure ap aB Yl
set_option maxHeartbeats 2000000 in
theorem qW (t o:TaskV) (ht:∀ c ∈ t.cases,ShC c) (ht2:t.cases.length ≤ 100000) (ho:∀ c ∈ o.cases,ShC c) (ho2:Sh o.cases) (hq:∀ c ∈ t.cases,c.out.length ≤ 100000∧c.calm.length ≤ 100000) (H:Hp) (nx B:Nat) (sv:AV) (L:List CaseV) (hB:H B=some [sv]) (hBn:B < nx) (hL:L.length ≤ 1000000) (hrow:Row H 3 sv (L.c3 bv)) (hbd:∀ x,dZ sv=some x→x < nx∧x ≠ B) :
    Abs.Fn Tryz.prog 59 [bd t,bd o,.ptr B 1 0] H nx fun r H' nx'=>∃ sv',H' B=some [sv']∧Row H' 3 sv' ((L ++ bl o t.cases).c3 bv)∧(∀ x,dZ sv'=some x→(dZ sv=some x ∨ nx ≤ x)∧x < nx'∧x ≠ B)∧(∀ x,x < nx→x ≠ B→dZ sv ≠ some x→H' x=H x)∧nx ≤ nx':=by
  refine Abs.Fn.of_c2 follows zv (Nat.le_of_ble_eq_true rfl) ?_
  simp only [b59,cO,cG,cN,cM,cD,cF,cB,aw,aG]
  have d2:=bu o
  have hfind:=fun v hv=>rl o v ho ho2 hv
  unfold bd at *
  (have zz:=aI @ah (aI @ab @ao); repeat' (first | refine zW ?_ | apply a_n | refine zO ?_ | refine vY ?_ | refine bxY ?_ | fail)) <;> (try clear zz)
  refine be (X:=AV × Nat) (fun x=>[(2,.ptr B 1 0),(3,.ptr nx 4 0),(4,.ptr (nx + 1) 4 0),(10,aF t.cases),(11,.int .i64 t.cases.length),(12,.int .i64 x.2)]) (fun x H' nx'=>x.2 ≤ t.cases.length∧nx + 2 ≤ nx'∧(∀ y,y < nx→y ≠ B→dZ sv ≠ some y→H' y=H y)∧H' (nx + 1)=some [.int .i64 o.n,.int .i64 o.ins,.int .i64 o.outs,aF o.cases]∧H' B=some [x.1]∧Row H' 3 x.1 ((L ++ bl o (t.cases.take x.2)).c3 bv)∧∀ y,dZ x.1=some y→(dZ sv=some y∧y < nx ∨ nx + 2 ≤ y)∧y < nx'∧y ≠ B) (fun x=>t.cases.length - x.2) (sv,0) ⟨Nat.zero_le _,Nat.le_refl _,fun y hy _ _=>by rw [aa (by omega),aa (by omega)],au,by rw [aa (by omega),aa (by omega)]; exact hB,by
      rw [show bl o (t.cases.take 0)=[] from rfl,List.append_nil]
      exact hrow.same fun y hy=>by have:=hbd y hy; rw [aa (by omega),aa (by omega)],fun y hy=>by have:=hbd y hy; exact ⟨.inl ⟨hy,this.1⟩,by omega,this.2⟩⟩ (by simp (disch:=omega) only [agr,ZG,reduceEqDiff,↓reduceIte,List.length_cons,List.length_nil,reduceAdd,Nat.zero_add]) ?_
  clear hrow hbd hB
  rintro ⟨s1,k⟩ H1 nx1 ⟨hk,hnx,hsame,g1,gB,hrow,hbd⟩
  dsimp only at hk gB hrow hbd ⊢
  by_cases hk2:k < t.cases.length
  rotate_left
  · rw [List.take_of_length_le (by omega)] at hrow
    (have zz:=and_self; repeat' (first | refine zW ?_ | apply a_n | apply a_x | refine zO ?_ | refine vY ?_ | (refine zGY ?_ ?_ <;> (intro _hg; try (exfalso; omega))) | refine ae rfl ?_ | fail)) <;> (try clear zz)
    exact ⟨s1,gB,hrow,fun x hx=>by have:=hbd x hx; exact ⟨this.1.imp (fun h=>h.1) (fun h=>by omega),this.2⟩,hsame,by omega⟩
  have ix:=aX hk2
  have hm:=ai hk2
  have hst:=gx (o:=o) hk2
  have hsc:=ht _ hm
  have hqc:=hq _ hm
  have hfi:=hfind _ hsc.1
  have hln:(L ++ bl o (t.cases.take k)).length ≤ L.length + t.cases.length:=by
    rw [List.length_append]
    have:=d4 (o:=o) (l:=t.cases.take k)
    rw [List.length_take] at this
    omega
  have hlen3:((L ++ bl o (t.cases.take k)).c3 bv).length=(L ++ bl o (t.cases.take k)).length * 3:=a8 (fun _=>rfl) _
  generalize t.cases.getD k default=c at *
  obtain ⟨q1,q2⟩:=hrow.one
  cases hf:bC o c.inp with
  | some d =>
    have ha:dh o c=none:=by unfold dh; rw [hf]
    rw [ha] at hst
    rw [hf] at hfi
    have hfi':Pure Tryz.prog 41 [.agg [.int .i64 o.n,.int .i64 o.ins,.int .i64 o.outs,aF o.cases],aK c.inp] (.tup [.agg [aK d.inp,ak d.out,ak d.calm],.bool true]):=hfi
    (have zz:=aI @g1 (aI @ah (aI @ab @ix)); repeat' (first | refine zW ?_ | apply a_n | refine zO ?_ | refine vY ?_ | refine cY ?_ (hp:=hfi') | refine alY ?_ | refine stY ?_ | refine cFY ?_ | (refine zGY ?_ ?_ <;> (intro _hg; try (exfalso; omega))) | fail)) <;> (try clear zz)
    refine ⟨(s1,k + 1),by dsimp only; omega,⟨by dsimp only; omega,by omega,fun x hx h1 h2=>?_,?_,?_,?_,fun y hy=>?_⟩,ag0⟩
    · rw [aa (by omega),aa (by omega),aa (by omega),aa (by omega),hsame x hx h1 h2]
    · rw [aa (by omega),aa (by omega),aa (by omega),aa (by omega),g1]
    · rw [aa (by omega),aa (by omega),aa (by omega),aa (by omega),gB]
    · dsimp only
      rw [hst]
      simp only [Option.toList,List.append_nil]
      exact hrow.same fun y hy=>by have:=hbd y hy; rw [aa (by omega),aa (by omega),aa (by omega),aa (by omega)]
    · have:=hbd y hy; exact ⟨this.1,by omega,this.2.2⟩
  | none =>
    have ha:dh o c=some (bM c.inp c.out (ax c 0)):=by unfold dh; rw [hf]
    rw [ha] at hst
    rw [hf] at hfi
    have hfi':Pure Tryz.prog 41 [.agg [.int .i64 o.n,.int .i64 o.ins,.int .i64 o.outs,aF o.cases],aK c.inp] (.tup [.agg [aK [],ak [],ak []],.bool false]):=hfi
    have hc1:=qt c
    have dc:=cT c
    unfold bv at dc
    have hmd:=ug c.inp c.out (ax c 0) hsc.1 hqc.1 (el hqc) hsc.2.2.1 (bJ hsc)
    have hmi:(bM c.inp c.out (ax c 0)).inp=c.inp∧(bM c.inp c.out (ax c 0)).out=c.out:=⟨rfl,rfl⟩
    generalize bM c.inp c.out (ax c 0)=M at *
    refine bz ?_
    (have zz:=and_self; repeat' (first | apply a_n | refine zO ?_ | refine vY ?_ | fail)) <;> (try clear zz)
    refine bz ?_
    (have zz:=and_self; repeat' (first | apply a_n | refine zO ?_ | (refine zGY ?_ ?_ <;> (intro _hg; try (exfalso; omega))) | fail)) <;> (try clear zz)
    refine bz ?_
    refine ce ?_
    refine bz ?_
    (have zz:=@ix; repeat' (first | apply a_n | refine zO ?_ | refine vY ?_ | refine alY ?_ | refine stY ?_ | fail)) <;> (try clear zz)
    refine bz ?_
    (have zz:=aI @g1 (aI @ah (aI @ab @ix)); repeat' (first | apply a_n | refine zO ?_ | refine vY ?_ | refine cY ?_ (hp:=hfi') | refine alY ?_ | refine stY ?_ | fail)) <;> (try clear zz)
    refine bz ?_
    (have zz:=and_self; repeat' (first | apply a_n | refine zO ?_ | refine vY ?_ | refine cTY ?_ | fail)) <;> (try clear zz)
    refine uK (gw B [s1] nx1 [aK c.inp,ak c.out,ak c.calm]) rfl (io (by rw [aa (by omega),aa (by omega),aa (by omega),aa (by omega)]; exact gB) (by rw [aa (by omega),aa (by omega),au]; rfl)) ?_
    have hS2:gw B [s1] nx1 [aK c.inp,ak c.out,ak c.calm] B=some [s1]:=if_pos rfl
    have hSn:gw B [s1] nx1 [aK c.inp,ak c.out,ak c.calm] nx1=some [aK c.inp,ak c.out,ak c.calm]:=by unfold gw; rw [if_neg (by omega),if_pos rfl]
    generalize hSS:gw B [s1] nx1 [aK c.inp,ak c.out,ak c.calm]=S at hS2 hSn ⊢
    have hSub:∀ H',H' B=some [s1]→H' nx1=some [aK c.inp,ak c.out,ak c.calm]→Sub S H':=fun H' a1 a2=>by rw [← hSS]; exact io a1 a2
    generalize hH2:am (am (am (am H1 nx1 _) nx1 _) (nx1 + 1) _) (nx1 + 1) _=H2
    have gs:∀ x,x < nx1→H2 x=H1 x:=fun x hx=>by rw [← hH2,aa (by omega),aa (by omega),aa (by omega),aa (by omega)]
    have gB2:H2 B=some [s1]:=(gs B (by omega)).trans gB
    have gn2:H2 nx1=some [aK c.inp,ak c.out,ak c.calm]:=by rw [← hH2,aa (by omega),aa (by omega),au]; rfl
    (have zz:=aI @hS2 @hSn; repeat' (first | apply a_n | refine zO ?_ | refine nvY ?_ | fail)) <;> (try clear zz)
    refine lN ?_
    refine dy (have zz:=and_self; evY) (have zz:=and_self; evY) hc1 (aq (az (dc _) ag)) ?_
    refine rG ⟨hSub _ gB2 gn2,?_⟩
    refine lN ?_
    refine dy (have zz:=and_self; evY) (have zz:=and_self; evY) hmd (aq (by (repeat' (first | exact ag | exact Dat.snap Dat.int | exact Dat.snap Dat.bool | exact Dat.snap Dat.str | exact Dat.snap Dat.esl | exact Dat.snap Dat.nilf | exact Dat.snap (bh _) | exact Dat.snap (aU _) | apply az | apply dM | apply dI | (apply dV; (focus ((try simp only [br,ZA,reduceEqDiff,↓reduceIte,reduceAdd,reduceLeDiff]); with_reducible rfl)); (focus rfl)))))) ?_
    refine rG ⟨hSub _ gB2 gn2,?_⟩
    refine lN ?_
    (have zz:=and_self; repeat' (first | apply a_n | refine zO ?_ | refine blY ?_ | fail)) <;> (try clear zz)
    refine ⟨hSub _ (by rw [aa (by omega)]; exact gB2) (by rw [aa (by omega)]; exact gn2),?_⟩
    (have zz:=aI @hS2 @hSn; repeat' (first | apply a_n | refine zO ?_ | apply p8 | fail)) <;> (try clear zz)
    refine gz rfl ev0 (hrow.same fun y hy=>?_) ev0 eZ rfl rfl (by omega) (by rw [hlen3]; omega) (by rw [hlen3]; omega) ?_
    · have:=hbd y hy
      rw [aa (by omega),gs y (by omega)]
    rintro s2 E e hrw hle1 hle2 hsm hb2
    have gB3:E B=some [s1]:=(hsm B (by omega) (fun h=>(hbd _ h).2.2 rfl)).trans (by rw [aa (by omega)]; exact gB2)
    obtain ⟨p1,p2⟩:=hrw.one
    have ub:∀ y,dZ s2=some y→(dZ sv=some y∧y < nx ∨ nx + 2 ≤ y)∧y < e∧y ≠ B:=fun y hy=>by
      rcases hb2 y hy with h | h
      · have:=hbd y h; exact ⟨this.1,by omega,this.2.2⟩
      · exact ⟨.inr (by omega),by omega,by omega⟩
    (have zz:=aI @hS2 (aI @hSn (aI @gB3 (aI @p1 @p2))); repeat' (first | apply a_n | refine zO ?_ | refine vY ?_ | apply p8 | refine stY ?_ | fail)) <;> (try clear zz)
    refine ⟨(s2,k + 1),by dsimp only; omega,⟨by dsimp only; omega,by omega,fun x hx h1 h2=>?_,?_,?_,?_,ub⟩,ag0⟩
    · rw [aa h1,hsm x (by omega) (fun h=>by rcases (hbd x h).1 with h' | h'; exact h2 h'.1; omega),aa (by omega),gs x (by omega),hsame x hx h1 h2]
    · rw [aa (by omega),hsm (nx + 1) (by omega) (fun h=>by rcases (hbd _ h).1 with h' | h' <;> omega),aa (by omega),gs _ (by omega),g1]
    · rw [au]; rfl
    · dsimp only
      rw [hst,← List.append_assoc,ow]
      obtain ⟨i,o,cq⟩:=M
      obtain ⟨rfl,rfl⟩:=hmi
      refine Row.same (H:=E) (by simpa [List.c3,bv,AV.cells] using hrw) fun y hy=>?_
      exact aa (ub y hy).2.2
end Go.Proofs.YtjgpfclngkcedaaGreat
namespace Go.Proofs.YtjgpfclngkcedaaGreat
open Go Go.Abs
theorem ed {F:List (List Int)→List (List Int)→List (List Int)} {b:TaskV} {l:List CaseV} {x:CaseV} (h:x ∈ bB F b l):∃ c ∈ l,∃ d,bC b c.inp=some d∧x=bM c.inp (F c.out d.out) (F (ax c 0) (ax d 0)):=by
  obtain ⟨c,hc,e⟩:=List.mem_filterMap.1 h
  unfold iV at e
  rw [Option.map_eq_some_iff] at e
  obtain ⟨d,hd,rfl⟩:=e
  exact ⟨c,hc,d,hd,rfl⟩
theorem b6 {o:TaskV} {l:List CaseV} {x:CaseV} (h:x ∈ bl o l):∃ c ∈ l,bC o c.inp=none∧x=bM c.inp c.out (ax c 0):=by
  obtain ⟨c,hc,e⟩:=List.mem_filterMap.1 h
  unfold dh at e
  split at e
  · cases e; exact ⟨c,hc,‹_›,rfl⟩
  · cases e
theorem np {a b:TaskV} (ha:bb a=0) (hb:bb b=0) {x y:CaseV} (hx:x ∈ dv a b) (hy:y ∈ dv a b) (h:x.inp=y.inp):x=y:=by
  unfold dv at hx hy
  rw [List.mem_append,List.mem_append] at hx hy
  have key:∀ {x y},(x ∈ bB bo b a.cases)→(y ∈ bB bo b a.cases)→x.inp=y.inp→x=y:=by
    intro x y hx hy h
    obtain ⟨c,hc,d,hd,rfl⟩:=ed hx
    obtain ⟨c',hc',d',hd',rfl⟩:=ed hy
    have h:c.inp=c'.inp:=h
    have e:=oY ha hc hc' h
    subst e
    rw [hd] at hd'; cases hd'; rfl
  have k12:∀ {x y},(x ∈ bB bo b a.cases)→(y ∈ bl b a.cases)→x.inp=y.inp→False:=by
    intro x y hx hy h
    obtain ⟨c,hc,d,hd,rfl⟩:=ed hx
    obtain ⟨c',hc',hn,rfl⟩:=b6 hy
    have h:c.inp=c'.inp:=h
    rw [← h,hd] at hn; cases hn
  have k13:∀ {x y},(x ∈ bB bo b a.cases)→(y ∈ bl a b.cases)→x.inp=y.inp→False:=by
    intro x y hx hy h
    obtain ⟨c,hc,d,hd,rfl⟩:=ed hx
    obtain ⟨c',hc',hn,rfl⟩:=b6 hy
    exact mm hn c hc h
  have k23:∀ {x y},(x ∈ bl b a.cases)→(y ∈ bl a b.cases)→x.inp=y.inp→False:=by
    intro x y hx hy h
    obtain ⟨c,hc,hn,rfl⟩:=b6 hx
    obtain ⟨c',hc',hn',rfl⟩:=b6 hy
    exact mm hn' c hc h
  have k22:∀ {t o:TaskV},bb t=0→∀ {x y},(x ∈ bl o t.cases)→(y ∈ bl o t.cases)→x.inp=y.inp→x=y:=by
    intro t o ht x y hx hy h
    obtain ⟨c,hc,hn,rfl⟩:=b6 hx
    obtain ⟨c',hc',hn',rfl⟩:=b6 hy
    have h:c.inp=c'.inp:=h
    rw [oY ht hc hc' h]
  rcases hx with (hx | hx) | hx <;> rcases hy with (hy | hy) | hy
  · exact key hx hy h
  · exact (k12 hx hy h).elim
  · exact (k13 hx hy h).elim
  · exact (k12 hy hx h.symm).elim
  · exact k22 ha hx hy h
  · exact (k23 hx hy h).elim
  · exact (k13 hy hx h.symm).elim
  · exact (k23 hy hx h.symm).elim
  · exact k22 hb hx hy h
theorem gp {x y:List (List Int)}:(bo x y).length ≤ x.length + y.length:=by
  have:=tx (l:=x ++ y)
  rw [List.length_append] at this
  exact this
theorem ee {x y:List (List Int)} {v:List Int}:v ∈ bo x y ↔ v ∈ x ∨ v ∈ y:=by
  unfold bo; rw [lZ,List.mem_append]
theorem m8 {a b:TaskV}:(dv a b).length ≤ a.cases.length + a.cases.length + b.cases.length:=by
  unfold dv
  rw [List.length_append,List.length_append]
  have h1:=d7 (F:=bo) (b:=b) (l:=a.cases)
  have h2:=d4 (o:=b) (l:=a.cases)
  have h3:=d4 (o:=a) (l:=b.cases)
  omega
theorem gX {i:List Int} {x y:List (List Int)} (hi:Sh i) (hx:x.length ≤ 1000000) (hxs:∀ v ∈ x,Sh v) (hy:y.length ≤ 1000000) (hys:∀ v ∈ y,Sh v):ShC (bM i x y):=by
  refine ⟨hi,show _ ≤ _ by show x.length ≤ _; omega,hxs,?_,?_⟩
  · unfold bM
    dsimp only
    split
    · exact Nat.zero_le _
    · show y.length ≤ _; omega
  · unfold bM
    dsimp only
    split
    · intro v hv; exact (by cases hv)
    · exact hys
structure Fit (t:TaskV):Prop where
  sh:∀ c ∈ t.cases,ShC c
  len:t.cases.length ≤ 100000
  q:∀ c ∈ t.cases,c.out.length ≤ 100000∧c.calm.length ≤ 100000
theorem Fit.sh2 {t:TaskV} (h:Fit t):Sh t.cases:=by have:=h.len; show _ ≤ _; omega
theorem Fit.qa {t:TaskV} (h:Fit t) {c:CaseV} (hc:c ∈ t.cases) {f:Int}:(ax c f).length ≤ 100000∧∀ v ∈ ax c f,Sh v:=⟨el (h.q c hc),bJ (h.sh c hc)⟩
structure Fit4 (t:TaskV):Prop where
  fit:Fit t
  q4:∀ c ∈ t.cases,c.out.length ≤ 40000∧c.calm.length ≤ 40000
theorem pM {a b:TaskV} (ha:Fit4 a) (hb:Fit4 b):∀ c ∈ dv a b,ShC c:=by
  intro x hx
  unfold dv at hx
  rw [List.mem_append,List.mem_append] at hx
  have al:∀ {t o:TaskV},Fit4 t→x ∈ bl o t.cases→ShC x:=fun {t o} ht h=>by
    obtain ⟨c,hc,_,rfl⟩:=b6 h
    have h1:=ht.fit.sh c hc
    have h2:=ht.fit.q c hc
    have h3:=ht.fit.qa hc (f:=0)
    exact gX h1.1 (by omega) h1.2.2.1 (by omega) h3.2
  rcases hx with (hx | hx) | hx
  · obtain ⟨c,hc,d,hd,rfl⟩:=ed hx
    have hdm:=(gm hd).1
    have h1:=ha.fit.sh c hc
    have g1:=hb.fit.sh d hdm
    have h2:=ha.fit.q c hc
    have g2:=hb.fit.q d hdm
    have h3:=ha.fit.qa hc (f:=0)
    have g3:=hb.fit.qa hdm (f:=0)
    have l1:=gp (x:=c.out) (y:=d.out)
    have l2:=gp (x:=ax c 0) (y:=ax d 0)
    exact gX h1.1 (by omega) (fun v hv=>(ee.1 hv).elim (h1.2.2.1 v) (g1.2.2.1 v)) (by omega) (fun v hv=>(ee.1 hv).elim (h3.2 v) (g3.2 v))
  · exact al ha hx
  · exact al hb hx
theorem rj {H:Hp} {sv:AV} {L:List CaseV} (h:Row H 3 sv (L.c3 bv)) (h0:0 < L.length):∃ B,sv=.msl B (L.length * 3) 3 0 L.length∧H B=some (L.c3 bv):=by
  generalize hcs:L.c3 bv=cs at h
  have hcl3:(L.c3 bv).length=L.length * 3:=a8 (fun _=>rfl) L
  cases h with
  | nil=>rw [hcs] at hcl3; simp at hcl3; omega
  | box B len cs h1 h2 =>
    have e:len=L.length:=by rw [← hcs,hcl3] at h2; omega
    subst e
    exact ⟨B,rfl,h1⟩
attribute [local irreducible] aA af aV aQ aE aL ay aM aR ba Go.Abs.Fn aO Go.Abs.Pure ap aB Yl
set_option maxHeartbeats 2000000 in
theorem xA (a b:TaskV) (fa:Fit4 a) (fb:Fit4 b):Pure Tryz.prog 18 [bd a,bd b] (.tup [bd (eJ a b).1,.int .i64 (eJ a b).2]):=by
  refine Pure.of_c2 follows y4 (Nat.le_of_ble_eq_true rfl) ?_
  simp only [b18,cO,cG,cN,cM,cD,cF,cB,aw,aG]
  have hp:=sZ a b fa.fit.sh fa.fit.sh2 fb.fit.sh fb.fit.sh2
  have d1:=bu a
  have d2:=bu b
  by_cases he:de a b=0
  rotate_left
  · have e:eJ a b=(T00,de a b):=by unfold eJ; rw [if_pos he]
    rw [e]
    generalize de a b=C at *
    unfold bd at hp d1 d2
    rw [show bd a=.agg [.int .i64 a.n,.int .i64 a.ins,.int .i64 a.outs,aF a.cases] from rfl,show bd b=.agg [.int .i64 b.n,.int .i64 b.ins,.int .i64 b.outs,aF b.cases] from rfl]
    (have zz:=aI @ah @ab; repeat' (first | refine zW ?_ | apply a_n | apply a_r | refine zO ?_ | refine vZ ?_ | refine cZ ?_ (hp:=hp) | refine alZ ?_ | refine bxZ ?_ | refine stZ ?_ | (refine zGZ ?_ ?_ <;> (intro _hg; try (exfalso; omega))) | refine ae rfl ?_ | refine r2Z ?_ | fail)) <;> (try clear zz)
    exact dx _
  obtain ⟨ca,cb,hn⟩:=rE he
  rw [he] at hp
  have e:eJ a b=if 1024 < (dv a b).length ∨ a.cases.any (eA bo b)=true then (T00,5) else (⟨a.n,max a.ins b.ins,max a.outs b.outs,gA KC (dv a b)⟩,0):=by unfold eJ; rw [if_neg (fun h=>h he)]
  rw [e]
  have hne:∀ {t:TaskV},bb t=0→∀ c ∈ t.cases,c.out ≠ []∧ax c 0 ≠ []:=fun {t} h c hc=>by
    obtain ⟨i,hi,rfl⟩:=List.getElem_of_mem hc
    have h1:=(nz h hi).1
    have h2:=(qj (f:=0) h hi).1
    rw [show t.cases.getD i default=t.cases[i] by simp [List.getD,hi]] at h1 h2
    exact ⟨fun e=>by rw [e] at h1; simp at h1,fun e=>by rw [e] at h2; simp at h2⟩
  have hco:=fun H nx=>mf a b bo 56 [] (by simp) fa.fit.sh fa.fit.len fb.fit.sh fb.fit.sh2 (fun c hc d hd=>by
    have h1:=fa.fit.sh c hc
    have g1:=fb.fit.sh d hd
    have h2:=fa.q4 c hc
    have g2:=fb.q4 d hd
    have h3:=el (f:=0) h2
    have g3:=el (f:=0) g2
    have h4:=bJ (f:=0) h1
    have g4:=bJ (f:=0) g1
    have l1:=gp (x:=c.out) (y:=d.out)
    have l2:=gp (x:=ax c 0) (y:=ax d 0)
    exact ⟨q9 _ _ (hne ca c hc).1 (hne cb d hd).1 (by omega) (by omega) h1.2.2.1 g1.2.2.1,q9 _ _ (hne ca c hc).2 (hne cb d hd).2 (by omega) (by omega) h4 g4,⟨by omega,fun v hv=>(ee.1 hv).elim (h1.2.2.1 v) (g1.2.2.1 v)⟩,by omega,fun v hv=>(ee.1 hv).elim (h4 v) (g4 v)⟩) H nx
  have hj1:=qW a b fa.fit.sh fa.fit.len fb.fit.sh fb.fit.sh2 fa.fit.q
  have hj2:=qW b a fb.fit.sh fb.fit.len fa.fit.sh fa.fit.sh2 fb.fit.q
  have hjl:bB bo b a.cases ++ bl b a.cases ++ bl a b.cases=dv a b:=rfl
  have hlen:=m8 (a:=a) (b:=b)
  have hsh:=pM fa fb
  have hinj:=fun x hx y hy=>np ca cb (x:=x) (y:=y) hx hy
  have hcl:(bB bo b a.cases).length ≤ a.cases.length:=d7
  have hal:(bB bo b a.cases ++ bl b a.cases).length ≤ a.cases.length + a.cases.length:=by
    rw [List.length_append]
    have:=d4 (o:=b) (l:=a.cases)
    omega
  have hal0:=fa.fit.len
  have hbl0:=fb.fit.len
  have hpos:0 < (dv a b).length:=by
    have:=(fm ca).2.1
    unfold dv
    rw [List.length_append,List.length_append]
    have hx:=ai (l:=a.cases) (k:=0) (by omega)
    generalize a.cases.getD 0 default=c at hx
    cases hf:bC b c.inp with
    | none =>
      have:bM c.inp c.out (ax c 0) ∈ bl b a.cases:=List.mem_filterMap.2 ⟨c,hx,by unfold dh; rw [hf]⟩
      have:=List.length_pos_of_mem this
      omega
    | some d =>
      have:bM c.inp (bo c.out d.out) (bo (ax c 0) (ax d 0)) ∈ bB bo b a.cases:=List.mem_filterMap.2 ⟨c,hx,by unfold iV; rw [hf]; rfl⟩
      have:=List.length_pos_of_mem this
      omega
  generalize a.cases.all (dg bo b)=FF at *
  generalize a.cases.any (eA bo b)=MM at *
  generalize hL1:bB bo b a.cases=L1 at *
  unfold bd at hp d1 d2 hco hj1 hj2
  rw [show bd a=.agg [.int .i64 a.n,.int .i64 a.ins,.int .i64 a.outs,aF a.cases] from rfl,show bd b=.agg [.int .i64 b.n,.int .i64 b.ins,.int .i64 b.outs,aF b.cases] from rfl]
  (have zz:=aI @ah @ab; repeat' (first | refine zW ?_ | apply a_n | refine zO ?_ | refine vZ ?_ | refine cZ ?_ (hp:=hp) | refine alZ ?_ | refine bxZ ?_ | (refine zGZ ?_ ?_ <;> (intro _hg; try (exfalso; omega))) | fail)) <;> (try clear zz)
  refine aD (have zz:=aI @ah @ab; evZ) (have zz:=aI @ah @ab; evZ) (hco _ _) ?_
  rintro _ H1 n1 ⟨sv,rfl,hrow,hbd,hsm,hnx⟩
  have g0:H1 0=some [.int .i64 a.n,.int .i64 a.ins,.int .i64 a.outs,aF a.cases]:=hsm 0 (by omega)
  have g1:H1 1=some [.int .i64 b.n,.int .i64 b.ins,.int .i64 b.outs,aF b.cases]:=hsm 1 (by omega)
  have g2:H1 2=some [.int .i64 0,.int .i64 0,.int .i64 0,.esl]:=hsm 2 (by omega)
  obtain ⟨q1,q2⟩:=hrow.one
  (have zz:=aI @q1 (aI @q2 (aI @g0 @g1)); repeat' (first | refine zW ?_ | apply a_n | refine zO ?_ | refine vY ?_ | refine alY ?_ | refine stY ?_ | fail)) <;> (try clear zz)
  refine aD (have zz:=and_self; evY) (have zz:=aI @g0 @g1; evY) (hj1 _ (n1 + 1) n1 sv L1 au (by omega) (by omega) (hrow.same fun x hx=>by have:=hbd x hx; rw [aa (by omega),aa (by omega)]) (fun x hx=>by have:=hbd x hx; omega)) ?_
  rintro _ H2 n2 ⟨s2,gB,hrow2,hbd2,hsm2,hnx2⟩
  have fr2:∀ x,x < 3→H2 x=H1 x:=fun x hx=>by rw [hsm2 x (by omega) (by omega) (fun h=>by have:=hbd x h; omega),aa (by omega),aa (by omega)]
  have g0':=(fr2 0 (by omega)).trans g0
  have g1':=(fr2 1 (by omega)).trans g1
  have g2':=(fr2 2 (by omega)).trans g2
  have bd2:∀ x,dZ s2=some x→3 ≤ x∧x < n2∧x ≠ n1:=fun x hx=>by
    obtain ⟨h1 | h1,h2,h3⟩:=hbd2 x hx
    · have:=hbd x h1; exact ⟨by omega,h2,h3⟩
    · exact ⟨by omega,h2,h3⟩
  (have zz:=aI @g0' @g1'; repeat' (first | refine zW ?_ | apply a_n | refine zO ?_ | refine vY ?_ | fail)) <;> (try clear zz)
  refine aD (have zz:=and_self; evY) (have zz:=aI @g0' @g1'; evY) (hj2 _ n2 n1 s2 (L1 ++ bl b a.cases) gB (by omega) (by omega) hrow2 (fun x hx=>(bd2 x hx).2)) ?_
  rintro _ H3 n3 ⟨s3,gB3,hrow3,hbd3,hsm3,hnx3⟩
  have fr3:∀ x,x < 3→H3 x=H2 x:=fun x hx=>hsm3 x (by omega) (by omega) (fun h=>by have:=bd2 x h; omega)
  have g0'':=(fr3 0 (by omega)).trans g0'
  have g1'':=(fr3 1 (by omega)).trans g1'
  have g2'':=(fr3 2 (by omega)).trans g2'
  have bd3:∀ x,dZ s3=some x→3 ≤ x∧x < n3∧x ≠ n1:=fun x hx=>by
    obtain ⟨h1 | h1,h2,h3⟩:=hbd3 x hx
    · have:=bd2 x h1; exact ⟨by omega,h2,h3⟩
    · exact ⟨by omega,h2,h3⟩
  rw [hjl] at hrow3
  generalize dv a b=L at *
  obtain ⟨B,rfl,hB⟩:=rj hrow3 hpos
  have hBb:=bd3 B rfl
  by_cases hmn:1024 < L.length ∨ MM=true
  · rw [if_pos hmn]
    by_cases hm1:1024 < L.length
    · have z:decide ((1024:Int) < (L.length:Int))=true:=decide_eq_true (by omega)
      (have zz:=aI @g0'' (aI @g1'' (aI @g2'' (aI @gB3 @z))); repeat' (first | refine zW ?_ | apply a_n | apply a_r | refine zO ?_ | refine vY ?_ | refine stY ?_ | refine gFY ?_ | refine cTY ?_ | refine ae rfl ?_ | refine r2Y ?_ | fail)) <;> (try clear zz)
      all_goals exact dx _
    · obtain rfl:MM=true:=hmn.resolve_left hm1
      have z:decide ((1024:Int) < (L.length:Int))=false:=decide_eq_false (by omega)
      (have zz:=aI @g0'' (aI @g1'' (aI @g2'' (aI @gB3 @z))); repeat' (first | refine zW ?_ | apply a_n | apply a_r | refine zO ?_ | refine vY ?_ | refine stY ?_ | refine gTY ?_ | refine cTY ?_ | refine ae rfl ?_ | refine r2Y ?_ | fail)) <;> (try clear zz)
      all_goals exact dx _
  rw [if_neg hmn]
  have z:decide ((1024:Int) < (L.length:Int))=false:=decide_eq_false (by omega)
  obtain rfl:MM=false:=by simpa using fun h=>hmn (.inr h)
  (have zz:=aI @g0'' (aI @g1'' (aI @g2'' (aI @gB3 @z))); repeat' (first | refine zW ?_ | apply a_n | refine zO ?_ | refine vY ?_ | refine gTY ?_ | refine cFY ?_ | fail)) <;> (try clear zz)
  refine aD (have zz:=and_self; evY) (have zz:=@gB3; evY) (uX AL hB (by omega) rfl hpos hsh (by omega)) ?_
  rintro _ H4 n4 ⟨M,hps,hpM,hsM⟩
  have hMl:M.length=L.length:=hpM.length_eq
  have hM:M=gA KC L:=ga vR (fun x hx y hy h1 h2=>hinj x hx y hy (od h1 h2)) (bQ.of (by rw [hMl]; exact hsM)) hpM
  have k0:=(hps.fr 0 (by omega) (by omega)).trans g0''
  have k1:=(hps.fr 1 (by omega) (by omega)).trans g1''
  have k2:=(hps.fr 2 (by omega) (by omega)).trans g2''
  have kB:=(hps.fr n1 (by omega) (by omega)).trans gB3
  (have zz:=aI @k0 (aI @k1 (aI @k2 (aI @kB @mx2))); repeat' (first | refine zW ?_ | apply a_n | refine zO ?_ | refine vY ?_ | refine stY ?_ | refine ae rfl ?_ | refine r2Y ?_ | fail)) <;> (try clear zz)
  rw [← hM]
  exact nI (lX (by rw [aa (by omega)]; exact hps.at_) hMl)
end Go.Proofs.YtjgpfclngkcedaaGreat
namespace Go.Proofs.YtjgpfclngkcedaaGreat
open Go Go.Abs
open Nat (reduceEqDiff reduceAdd reduceLeDiff)
def jC (b:TaskV) (x:CaseV):CaseV:=match bC b x.inp with
  | none=>bM x.inp x.out (ax x 0)
  | some y=>bM x.inp (dq x.out y.out) (dq (ax x 0) (ax y 0))
def kO (L M:List CaseV):List CaseV:=M.foldl (gF KC) L
def d5 (a b:TaskV):List CaseV:=kO (a.cases.map (jC b)) (bl a b.cases)
theorem r7 {L M:List CaseV} {c:CaseV}:kO L (M ++ [c])=gF KC (kO L M) c:=by unfold kO; rw [List.foldl_append]; rfl
theorem f0 (L M:List CaseV):(kO L M).Perm (L ++ M):=e8 M L
theorem mH {t:TaskV} (h:bb t=0) {c:CaseV} (hc:c ∈ t.cases):fU c.out∧fU c.calm∧(∀ f,fU (ax c f))∧∀ f,∀ v ∈ ax c f,v ∈ c.out:=by
  obtain ⟨g1,g2,g3,g4,g5⟩:=ig (lk h hc).2
  have a1:=nA g3
  have a2:=nA g5
  refine ⟨a1,a2,fun f=>?_,fun f v hv=>?_⟩
  · unfold ax; split <;> assumption
  · unfold ax at hv
    split at hv
    · exact g4 v hv
    · exact hv
theorem s7 {b:TaskV} {x:CaseV}:(jC b x).inp=x.inp:=by
  unfold jC; split <;> rfl
theorem zR {a b:TaskV} (ha:bb a=0) {c:CaseV} (hc:c ∈ a.cases):(∀ y,bC b c.inp=some y→jC b c=bM c.inp (bo c.out y.out) (bo (ax c 0) (ax y 0))):=by
  intro y hy
  obtain ⟨h1,_,h2,_⟩:=mH ha hc
  unfold jC
  rw [hy]
  dsimp only
  rw [pk h1,pk (h2 0)]
  rfl
theorem lm {b:TaskV}:∀ {l:List CaseV} {f:CaseV→CaseV},(∀ c ∈ l,(∀ d,bC b c.inp=some d→iV bo b c=some (f c))∧(bC b c.inp=none→dh b c=some (f c)))→(l.map f).Perm (bB bo b l ++ bl b l)
  | [],f,_=>by simp [bB,bl]
  | c :: l,f,h=>by
    have ih:=lm (b:=b) (l:=l) (f:=f) fun x hx=>h x (List.mem_cons_of_mem _ hx)
    obtain ⟨h1,h2⟩:=h c (List.mem_cons_self ..)
    rw [List.map_cons]
    unfold bB bl at *
    cases hf:bC b c.inp with
    | none =>
      have e1:iV bo b c=none:=(i6 hf).1
      rw [List.filterMap_cons_none e1,List.filterMap_cons_some (h2 hf)]
      exact (List.Perm.cons _ ih).trans List.perm_middle.symm
    | some d =>
      have e1:dh b c=none:=by unfold dh; rw [hf]
      rw [List.filterMap_cons_none e1,List.filterMap_cons_some (h1 d hf),List.cons_append]
      exact List.Perm.cons _ ih
theorem jQ {a b:TaskV} (ha:bb a=0) (hb:bb b=0):d5 a b=gA KC (dv a b):=by
  have hp:(a.cases.map (jC b)).Perm (bB bo b a.cases ++ bl b a.cases):=lm fun c hc=>by
    refine ⟨fun d hd=>?_,fun hn=>?_⟩
    · rw [zR ha hc d hd]
      exact (fg hd).1
    · unfold dh jC; rw [hn]
  refine ga vR (fun x hx y hy h1 h2=>np ha hb hx hy (od h1 h2)) ?_ ?_
  · refine ec vR _ _ ?_
    unfold bQ
    rw [List.pairwise_map]
    refine List.Pairwise.imp (fun {x y} h=>?_) (nY ha)
    unfold KC at h ⊢
    rw [s7,s7]
    exact h
  · refine (f0 _ _).trans ?_
    unfold dv
    exact List.Perm.append_right _ hp
def rU (L:List CaseV):Bool:=L.any fun c=>decide (1024 < c.out.length)
theorem tR {x y u v:List (List Int)} (hx:∀ w ∈ x,w ∈ u) (hy:∀ w ∈ y,w ∈ v):(bo x y).length ≤ (bo u v).length :=
  List.Nodup.length_le_of_subset (lQ _).nodup fun w hw=>ee.2 ((ee.1 hw).imp (hx w) (hy w))
theorem u0 {a b:TaskV} (ha:bb a=0) (hb:bb b=0):rU (d5 a b)=a.cases.any (eA bo b):=by
  rw [jQ ha hb,Bool.eq_iff_iff]
  unfold rU
  rw [List.any_eq_true,List.any_eq_true]
  constructor
  · rintro ⟨x,hx,hbig⟩
    have hx:=(dD _).mem_iff.1 hx
    have hbig:=of_decide_eq_true hbig
    unfold dv at hx
    rw [List.mem_append,List.mem_append] at hx
    have al:∀ {t o:TaskV},bb t=0→x ∈ bl o t.cases→False:=fun {t o} ht h=>by
      obtain ⟨c,hc,_,rfl⟩:=b6 h
      have:=(ig (lk ht hc).2).1.2
      have hbig:1024 < c.out.length:=hbig
      omega
    rcases hx with (hx | hx) | hx
    · obtain ⟨c,hc,d,hd,rfl⟩:=ed hx
      have hbig:1024 < (bo c.out d.out).length:=hbig
      refine ⟨c,hc,?_⟩
      rw [(fg hd).2.2,decide_eq_true hbig]; rfl
    · exact (al ha hx).elim
    · exact (al hb hx).elim
  · rintro ⟨c,hc,hm⟩
    unfold eA at hm
    cases hf:bC b c.inp with
    | none=>rw [hf] at hm; cases hm
    | some d =>
      rw [hf] at hm
      dsimp only at hm
      have hdm:=(gm hf).1
      have hle:=tR (x:=ax c 0) (y:=ax d 0) (u:=c.out) (v:=d.out) ((mH ha hc).2.2.2 0) ((mH hb hdm).2.2.2 0)
      rw [Bool.or_eq_true,decide_eq_true_iff,decide_eq_true_iff] at hm
      refine ⟨bM c.inp (bo c.out d.out) (bo (ax c 0) (ax d 0)),(dD _).mem_iff.2 ?_,decide_eq_true (show 1024 < (bo c.out d.out).length by omega)⟩
      unfold dv
      rw [List.mem_append,List.mem_append]
      exact .inl (.inl (List.mem_filterMap.2 ⟨c,hc,(fg hf).1⟩))
theorem qO {a b:TaskV} (ha:bb a=0) (hb:bb b=0):(d5 a b).length=(dv a b).length:=by rw [jQ ha hb,nr]
theorem rV {L:List CaseV} {k:Nat} (h:k ≤ L.length):iB 3 (aF L) none (some (.int .i64 k)) none=some (aF (L.take k)):=by
  have h2:¬ ((k:Int) < 0):=by omega
  simp [iB,aF,bi,h]
theorem su {L:List CaseV} {k:Nat} (h:k ≤ L.length):iB 3 (aF L) (some (.int .i64 k)) none none=some (aF (L.drop k)):=by
  have e:List.take L.length (L.map bv)=L.map bv:=List.take_of_length_le (by simp)
  simp [iB,aF,bi,h,e]
theorem lI {H:Hp} {L:List CaseV}:cC 3 H (aF L)=some (L.length,L.c3 bv):=by
  unfold aF
  rw [k9,List.length_map,List.flatMap_map]; rfl
attribute [local irreducible] aA af aV aQ aE aL ay aM aR ba Go.Abs.Fn aO Go.Abs.Pure ap aB Yl
theorem qS (x y:List (List Int)) (hx:x.length ≤ 50000) (hxs:∀ v ∈ x,Sh v) (hy:y.length ≤ 50000) (hys:∀ v ∈ y,Sh v):Pure Tryz.prog 65 [ak x,ak y] (ak (dq x y)):=by
  refine Pure.of_c2 follows Az (Nat.le_of_ble_eq_true rfl) ?_
  simp only [b65,cO,cG,cN,cM,cD,cF,cB,aw,aG]
  (have zz:=and_self; repeat' (first | refine zW ?_ | apply a_n | refine zO ?_ | refine vZ ?_ | fail)) <;> (try clear zz)
  refine be (X:=AV × Nat) (fun z=>[(1,ak y),(5,z.1),(6,.int .i64 z.2)]) (fun z H nx=>z.2 ≤ y.length∧z.1=ak (dq x (y.take z.2))) (fun z=>y.length - z.2) (ak x,0) ⟨Nat.zero_le _,rfl⟩ ag0 ?_
  rintro ⟨s,j⟩ H nx ⟨h1,h2⟩
  dsimp only at h1 h2 ⊢
  subst h2
  by_cases hj:j < y.length
  rotate_left
  · rw [List.take_of_length_le (by omega)]
    (have zz:=and_self; repeat' (first | refine zW ?_ | apply a_n | apply a_x | refine zO ?_ | refine vZ ?_ | (refine zGZ ?_ ?_ <;> (intro _hg; try (exfalso; omega))) | refine ae rfl ?_ | refine r1Z ?_ | fail)) <;> (try clear zz)
    exact aU _ _
  have hw:=ai hj
  have hlen:(dq x (y.take j)).length ≤ 100000:=by
    have:=e6 (acc:=x) (l:=y.take j)
    rw [List.length_take] at this
    omega
  have hsh:∀ v ∈ dq x (y.take j),Sh v:=fun v hv=>(ez.1 hv).elim (hxs v) fun h=>hys v (List.mem_of_mem_take h)
  have hst:dq x (y.take (j + 1))=jS (dq x (y.take j)) (y.getD j default):=by rw [bV hj,r8]
  have hh:=xV (dq x (y.take j)) (y.getD j default) (show _ ≤ _ by omega) hsh (hys _ hw)
  have hi:=sL (dq x (y.take j)) (y.getD j default) hlen (hys _ hw) hsh
  unfold jS at hst
  by_cases hm:y.getD j default ∈ dq x (y.take j)
  · rw [decide_eq_true hm] at hh
    rw [if_pos hm] at hst
    (have zz:=and_self; repeat' (first | refine zW ?_ | apply a_n | refine zO ?_ | refine vZ ?_ | refine cZ ?_ (hp:=hh) | refine cFZ ?_ | (refine zGZ ?_ ?_ <;> (intro _hg; try (exfalso; omega))) | fail)) <;> (try clear zz)
    exact ⟨(ak (dq x (y.take j)),j + 1),by dsimp only; omega,⟨by dsimp only; omega,by dsimp only; rw [hst]⟩,ag0⟩
  · rw [decide_eq_false hm] at hh
    rw [if_neg hm] at hst
    (have zz:=and_self; repeat' (first | refine zW ?_ | apply a_n | refine zO ?_ | refine vZ ?_ | refine cZ ?_ (hp:=by first | exact hh | exact hi) | refine cTZ ?_ | (refine zGZ ?_ ?_ <;> (intro _hg; try (exfalso; omega))) | fail)) <;> (try clear zz)
    exact ⟨(ak (gF aS (dq x (y.take j)) (y.getD j default)),j + 1),by dsimp only; omega,⟨by dsimp only; omega,by dsimp only; rw [hst]⟩,ag0⟩
theorem xI (L:List CaseV) (c:CaseV) (hl:L.length ≤ 300000) (hs:∀ x ∈ L,Sh x.inp) (hc:Sh c.inp):Pure Tryz.prog 66 [aF L,.agg [aK c.inp,ak c.out,ak c.calm]] (aF (gF KC L c)):=by
  refine Pure.of_c2 follows AK (Nat.le_of_ble_eq_true rfl) ?_
  simp only [b66,cO,cG,cN,cM,cD,cF,cB,aw,aG]
  have hle:=kX (K:=KC) L c L.length
  unfold gF
  refine aJ (fun T H nx=>T 0=aF L∧T 3=.ptr 0 3 0∧H=am a9 0 [aK c.inp,ak c.out,ak c.calm]∧nx=1) ?_ ?_
  · (have zz:=and_self; repeat' (first | apply a_n | refine zO ?_ | refine vZ ?_ | refine bxZ ?_ | fail)) <;> (try clear zz)
    exact ⟨rfl,rfl,rfl,rfl⟩
  rintro T H nx ⟨t0,t3,rfl,rfl⟩
  refine aJ (fun T H nx=>T 0=aF L∧T 3=.ptr 0 3 0∧T 5=.int .i64 L.length∧H=am a9 0 [aK c.inp,ak c.out,ak c.calm]∧nx=1) ?_ ?_
  · (have zz:=aI @t0 @ao; repeat' (first | apply a_n | refine zO ?_ | refine vZ ?_ | fail)) <;> (try clear zz)
    exact ⟨(have zz:=@t0; evZ),(have zz:=@t3; evZ),ev0,rfl,rfl⟩
  clear t0 t3
  rintro T H nx ⟨t0,t3,t5,rfl,rfl⟩
  refine aJ (fun T H nx=>T 0=aF L∧T 3=.ptr 0 3 0∧T 5=.int .i64 (eu KC L c L.length:Nat)∧H=am a9 0 [aK c.inp,ak c.out,ak c.calm]∧nx=1) ?_ ?_
  · (have zz:=and_self; repeat' (first | refine zW ?_ | apply a_n | refine zO ?_ | fail)) <;> (try clear zz)
    refine fR (X:=Nat) (fun k=>[(0,aF L),(3,.ptr 0 3 0),(5,.int .i64 (k:Nat))]) (fun k=>k ≤ L.length∧eu KC L c L.length=eu KC L c k) (fun k=>k) L.length ⟨Nat.le_refl _,rfl⟩ (have zz:=aI @t0 (aI @t3 @t5); agZ) ?_
    rintro k ⟨hk,he⟩
    rcases Nat.eq_zero_or_pos k with h0 | h0
    · subst h0
      (have zz:=(show ((0:Nat):Int)=0 from rfl); repeat' (first | refine zW ?_ | refine zM ?_ | apply a_n | apply a_x | refine zO ?_ | refine vZ ?_ | refine gFZ ?_ | (refine zGZ ?_ ?_ <;> (intro _hg; try (exfalso; omega))) | refine cFZ ?_ | fail)) <;> (try clear zz)
      exact ⟨rfl,rfl,by rw [he]; rfl,rfl,rfl⟩
    · obtain ⟨q,rfl⟩:∃ q,k=q + 1:=⟨k - 1,by omega⟩
      have tq:((q + 1:Nat):Int) - 1=(q:Int):=by omega
      have ix:=aX (l:=L) (k:=q) (by omega)
      have hO:=gn c.inp (L.getD q default).inp hc (hs _ (ai (by omega)))
      have hst:eu KC L c (q + 1)=if aS c.inp (L.getD q default).inp < 0 then eu KC L c q else q + 1:=rfl
      have zp:decide ((0:Int) < ((q + 1:Nat):Int))=true:=decide_eq_true (by omega)
      by_cases ho:aS c.inp (L.getD q default).inp < 0
      · rw [if_pos ho] at hst
        have z:decide (aS c.inp (L.getD q default).inp < 0)=true:=decide_eq_true ho
        (have zz:=aI @tq (aI @ix (aI @Int.toNat_natCast (aI @z @zp))); repeat' (first | refine zW ?_ | refine zM ?_ | apply a_n | refine zO ?_ | refine vZ ?_ | refine cZ ?_ (hp:=hO) | refine gTZ ?_ | refine cTZ ?_ | fail)) <;> (try clear zz)
        exact ⟨q,⟨by omega,he.trans hst⟩,by omega,(have zz:=@tq; agZ),rfl,rfl⟩
      · rw [if_neg ho] at hst
        have z:decide (aS c.inp (L.getD q default).inp < 0)=false:=decide_eq_false ho
        (have zz:=aI @tq (aI @ix (aI @Int.toNat_natCast (aI @z @zp))); repeat' (first | refine zW ?_ | refine zM ?_ | apply a_n | apply a_x | refine zO ?_ | refine vZ ?_ | refine cZ ?_ (hp:=hO) | refine gTZ ?_ | refine cFZ ?_ | fail)) <;> (try clear zz)
        exact ⟨rfl,rfl,by rw [he,hst]; ((try simp only [br,ZA,reduceEqDiff,↓reduceIte,reduceAdd,reduceLeDiff]); (try with_reducible rfl)),rfl,rfl⟩
  clear t0 t3 t5
  rintro T H nx ⟨t0,t3,t5,rfl,rfl⟩
  generalize eu KC L c L.length=k at *
  have s1:=rV (L:=L) hle
  have s2:=su (L:=L) hle
  have l1:(L.take k).length=k:=by rw [List.length_take]; omega
  have l2:(L.drop k).length=L.length - k:=by rw [List.length_drop]
  generalize L.take k=A at *
  generalize L.drop k=B at *
  have hA3:(A.c3 bv).length=A.length * 3:=a8 (fun _=>rfl) A
  have hB3:(B.c3 bv).length=B.length * 3:=a8 (fun _=>rfl) B
  (have zz:=aI @t0 (aI @t3 (aI @t5 (aI @s1 @s2))); repeat' (first | refine zW ?_ | apply a_n | refine zO ?_ | refine vZ ?_ | fail)) <;> (try clear zz)
  refine gz (k:=A.length) (new:=A.c3 bv) rfl ev0 Row.nil ev0 lI (rg _) hA3 (by omega) (by simp; omega) (by simp; omega) ?_
  rintro sv1 H1 n1 r1 m1 m2 m3 m4
  have g0:H1 0=some [aK c.inp,ak c.out,ak c.calm]:=m3 0 (by omega) (by simp [dZ])
  rw [List.nil_append] at r1
  (have zz:=aI @t0 (aI @t3 (aI @t5 (aI @s1 (aI @s2 @g0)))); repeat' (first | refine zW ?_ | apply a_n | refine zO ?_ | refine vY ?_ | refine blY ?_ | fail)) <;> (try clear zz)
  refine gz (k:=1) rfl ev0 (r1.same fun y hy=>aa (by rcases m4 y hy with h | h; exact absurd h (by simp [dZ]); omega)) ev0 eZ rfl rfl (by omega) (by rw [hA3]; omega) (by rw [hA3]; omega) ?_
  rintro sv2 H2 n2 r2 - - - -
  (have zz:=aI @t0 (aI @t5 @s2); repeat' (first | refine zW ?_ | apply a_n | refine zO ?_ | refine vZ ?_ | fail)) <;> (try clear zz)
  refine gz (k:=B.length) (new:=B.c3 bv) rfl ev0 r2 ev0 lI (rg _) hB3 (by omega) (by rw [List.length_append,hA3]; simp; omega) (by rw [List.length_append,hA3]; simp; omega) ?_
  rintro sv3 H3 n3 r3 - - - -
  (have zz:=and_self; repeat' (first | apply a_n | refine zO ?_ | refine vZ ?_ | refine ae rfl ?_ | refine r1Z ?_ | fail)) <;> (try clear zz)
  refine jX ?_
  have e:(A ++ c :: B).c3 bv=(A.c3 bv ++ [aK c.inp,ak c.out,ak c.calm]) ++ B.c3 bv:=by
    simp [List.c3,bv,AV.cells]
  rw [e]
  exact r3
theorem xw (t:TaskV) (ht:t.cases.length ≤ 1000000) (hq:∀ c ∈ t.cases,c.out.length ≤ 1000000):Pure Tryz.prog 67 [bd t] (.int .i64 (if 1024 < t.cases.length ∨ rU t.cases=true then 5 else 0)):=by
  refine Pure.of_c2 follows AR (Nat.le_of_ble_eq_true rfl) ?_
  simp only [b67,cO,cG,cN,cM,cD,cF,cB,aw,aG]
  unfold bd
  by_cases hm:1024 < t.cases.length
  · have z:decide ((1024:Int) < (t.cases.length:Int))=true:=decide_eq_true (by omega)
    rw [if_pos (.inl hm)]
    (have zz:=aI @ah (aI @ab (aI @ao @z)); repeat' (first | refine zW ?_ | apply a_n | apply a_r | refine zO ?_ | refine vZ ?_ | refine bxZ ?_ | refine cTZ ?_ | refine ae rfl ?_ | refine r1Z ?_ | fail)) <;> (try clear zz)
    exact .int _ _
  have z:decide ((1024:Int) < (t.cases.length:Int))=false:=decide_eq_false (by omega)
  (have zz:=aI @ah (aI @ab (aI @ao @z)); repeat' (first | refine zW ?_ | apply a_n | refine zO ?_ | refine vZ ?_ | refine bxZ ?_ | refine cFZ ?_ | fail)) <;> (try clear zz)
  refine iX (fun k=>[(1,.ptr 0 4 0),(3,.int .i64 k)]) t.cases.length (fun k=>(t.cases.getD k default).out.length ≤ 1024) (by simp (disch:=omega) only [agr,ZG,reduceEqDiff,↓reduceIte,List.length_cons,List.length_nil,reduceAdd,Nat.zero_add]) ?_
  intro k hk hz
  by_cases hk2:k < t.cases.length
  rotate_left
  · rw [if_neg]
    · (have zz:=aI @ah (aI @ab @ao); repeat' (first | refine zW ?_ | apply a_n | apply a_x | refine zO ?_ | refine vZ ?_ | (refine zGZ ?_ ?_ <;> (intro _hg; try (exfalso; omega))) | refine ae rfl ?_ | refine r1Z ?_ | fail)) <;> (try clear zz)
      exact .int _ _
    · rintro (h | h)
      · exact hm h
      · unfold rU at h
        rw [List.any_eq_true] at h
        obtain ⟨c,hc,e⟩:=h
        obtain ⟨i,hi,rfl⟩:=List.getElem_of_mem hc
        have:=hz i (by omega)
        rw [show t.cases.getD i default=t.cases[i] by simp [List.getD,hi]] at this
        have:=of_decide_eq_true e
        omega
  have ix:=aX hk2
  have hqk:=hq _ (ai hk2)
  by_cases hb:1024 < (t.cases.getD k default).out.length
  · have z2:decide ((1024:Int) < ((t.cases.getD k default).out.length:Int))=true:=decide_eq_true (by omega)
    rw [if_pos (.inr (List.any_eq_true.2 ⟨_,ai hk2,decide_eq_true hb⟩))]
    (have zz:=aI @ah (aI @ab (aI @ao (aI @ix @z2))); repeat' (first | refine zW ?_ | apply a_n | apply a_r | refine zO ?_ | refine vZ ?_ | refine cTZ ?_ | (refine zGZ ?_ ?_ <;> (intro _hg; try (exfalso; omega))) | refine ae rfl ?_ | refine r1Z ?_ | fail)) <;> (try clear zz)
    exact .int _ _
  · have z2:decide ((1024:Int) < ((t.cases.getD k default).out.length:Int))=false:=decide_eq_false (by omega)
    (have zz:=aI @ah (aI @ab (aI @ao (aI @ix @z2))); repeat' (first | refine zW ?_ | apply a_n | refine zO ?_ | refine vZ ?_ | refine cFZ ?_ | (refine zGZ ?_ ?_ <;> (intro _hg; try (exfalso; omega))) | fail)) <;> (try clear zz)
    exact ⟨hk2,by omega,ag0,rfl,rfl⟩
end Go.Proofs.YtjgpfclngkcedaaGreat
namespace Go.Proofs.YtjgpfclngkcedaaGreat
open Go Go.Abs
theorem yb {H:Hp} {B p:Nat} {cs:List AV} {x y z sv:AV} {L:List CaseV} (hp:H p=some [x,y,z,sv]) (hB:H B=some cs) (hne:p ≠ B) (hs:Snap (only B cs) sv (aF L)):Fz (only B cs) H (am (bZ H B) p [x,y,z,aF L]):=by
  refine ⟨fun b c h=>?_,fun b c h=>?_⟩
  · unfold only at h; split at h <;> cases h; subst_vars; exact hB
  · by_cases e:b=p
    · subst e
      rw [au] at h
      cases h
      refine ⟨_,hp,by simp [only,hne],rfl,fun i a a' h1 h2=>?_⟩
      match i,h1,h2 with
      | 0,h1,h2=>cases h1; cases h2; exact .inl rfl
      | 1,h1,h2=>cases h1; cases h2; exact .inl rfl
      | 2,h1,h2=>cases h1; cases h2; exact .inl rfl
      | 3,h1,h2=>cases h1; cases h2; exact .inr hs
      | n + 4,h1,h2=>simp at h1
    · rw [aa e] at h
      have:=fY h
      exact ⟨c,this.2,by simp [only,this.1],fo.refl _ _⟩
theorem yU {a b:TaskV} (fa:Fit4 a) (fb:Fit4 b) {c:CaseV} (hc:c ∈ a.cases):ShC (jC b c)∧(jC b c).out.length ≤ 100000:=by
  have h1:=fa.fit.sh c hc
  have h2:=fa.q4 c hc
  have h3:=el (f:=0) h2
  have h4:=bJ (f:=0) h1
  unfold jC
  cases hf:bC b c.inp with
  | none=>exact ⟨gX h1.1 (by omega) h1.2.2.1 (by omega) h4,show c.out.length ≤ _ by omega⟩
  | some d =>
    have hd:=(gm hf).1
    have g1:=fb.fit.sh d hd
    have g2:=fb.q4 d hd
    have g3:=el (f:=0) g2
    have g4:=bJ (f:=0) g1
    have l1:=e6 (acc:=c.out) (l:=d.out)
    have l2:=e6 (acc:=ax c 0) (l:=ax d 0)
    exact ⟨gX h1.1 (by omega) (fun v hv=>(ez.1 hv).elim (h1.2.2.1 v) (g1.2.2.1 v)) (by omega) (fun v hv=>(ez.1 hv).elim (h4 v) (g4 v)),show (dq c.out d.out).length ≤ _ by omega⟩
attribute [local irreducible] aA af aV aQ aE aL ay aM aR ba Go.Abs.Fn aO Go.Abs.Pure ap aB Yl
set_option maxHeartbeats 4000000 in
theorem y9 (a b:TaskV) (fa:Fit4 a) (fb:Fit4 b):Pure Tryz.prog 19 [bd a,bd b] (.tup [bd (eJ a b).1,.int .i64 (eJ a b).2]):=by
  refine Pure.of_c2 follows Aq (Nat.le_of_ble_eq_true rfl) ?_
  simp only [b19,cO,cG,cN,cM,cD,cF,cB,aw,aG]
  have hp:=wV a b fa.fit.sh fa.fit.sh2 fb.fit.sh fb.fit.sh2
  have d1:=bu a
  have d2:=bu b
  by_cases he:de a b=0
  rotate_left
  · have e:eJ a b=(T00,de a b):=by unfold eJ; rw [if_pos he]
    rw [e]
    generalize de a b=C at *
    unfold bd at hp d1 d2
    rw [show bd a=.agg [.int .i64 a.n,.int .i64 a.ins,.int .i64 a.outs,aF a.cases] from rfl,show bd b=.agg [.int .i64 b.n,.int .i64 b.ins,.int .i64 b.outs,aF b.cases] from rfl]
    (have zz:=aI @ah @ab; repeat' (first | refine zW ?_ | apply a_n | apply a_r | refine zO ?_ | refine vZ ?_ | refine cZ ?_ (hp:=hp) | refine alZ ?_ | refine bxZ ?_ | refine stZ ?_ | (refine zGZ ?_ ?_ <;> (intro _hg; try (exfalso; omega))) | refine ae rfl ?_ | refine r2Z ?_ | fail)) <;> (try clear zz)
    exact dx _
  obtain ⟨ca,cb,hn⟩:=rE he
  rw [he] at hp
  have e:eJ a b=if 1024 < (d5 a b).length ∨ rU (d5 a b)=true then (T00,5) else (⟨a.n,max a.ins b.ins,max a.outs b.outs,d5 a b⟩,0):=by
    unfold eJ; rw [if_neg (fun h=>h he),qO ca cb,u0 ca cb,jQ ca cb]
  rw [e]
  have hidx:=fun v hv=>qw b v fb.fit.sh fb.fit.sh2 hv
  have hidxa:=fun v hv=>qw a v fa.fit.sh fa.fit.sh2 hv
  have hb2':b.cases.length ≤ 100000:=fb.fit.len
  have ha2':a.cases.length ≤ 100000:=fa.fit.len
  have hapos:=(fm ca).2.1
  unfold bd at hp d1 d2 hidx hidxa
  rw [show bd a=.agg [.int .i64 a.n,.int .i64 a.ins,.int .i64 a.outs,aF a.cases] from rfl,show bd b=.agg [.int .i64 b.n,.int .i64 b.ins,.int .i64 b.outs,aF b.cases] from rfl]
  refine bz ?_
  (have zz:=aI @ah @ab; repeat' (first | apply a_n | refine zO ?_ | refine vZ ?_ | refine alZ ?_ | refine bxZ ?_ | fail)) <;> (try clear zz)
  refine aJ (fun T H nx=>T 2=.ptr 0 4 0∧T 3=.ptr 1 4 0∧T 4=.ptr 2 4 0∧H 0=some [.int .i64 a.n,.int .i64 a.ins,.int .i64 a.outs,aF a.cases]∧H 1=some [.int .i64 b.n,.int .i64 b.ins,.int .i64 b.outs,aF b.cases]∧H 2=some [.int .i64 0,.int .i64 0,.int .i64 0,.esl]∧nx=3) ?_ ?_
  · (have zz:=aI @ah @ab; repeat' (first | refine zW ?_ | apply a_n | refine zO ?_ | refine vZ ?_ | refine cZ ?_ (hp:=hp) | (refine zGZ ?_ ?_ <;> (intro _hg; try (exfalso; omega))) | fail)) <;> (try clear zz)
    exact ⟨rfl,rfl,rfl,rfl,rfl,rfl,rfl⟩
  rintro T H _ ⟨t2,t3,t4,g0,g1,g2,rfl⟩
  refine aJ (fun T H nx=>T 2=.ptr 0 4 0∧T 3=.ptr 1 4 0∧T 4=.ptr 2 4 0∧T 7=.ptr 3 4 0∧H 0=some [.int .i64 a.n,.int .i64 a.ins,.int .i64 a.outs,aF a.cases]∧H 1=some [.int .i64 b.n,.int .i64 b.ins,.int .i64 b.outs,aF b.cases]∧H 2=some [.int .i64 0,.int .i64 0,.int .i64 0,.esl]∧H 3=some [.int .i64 a.n,.int .i64 (max a.ins b.ins),.int .i64 (max a.outs b.outs),.esl]∧nx=4) ?_ ?_
  · (have zz:=aI @t2 (aI @t3 (aI @t4 (aI @g0 (aI @g1 (aI @g2 @mx2))))); repeat' (first | apply a_n | refine zO ?_ | refine vZ ?_ | refine alZ ?_ | refine stZ ?_ | fail)) <;> (try clear zz)
    exact ⟨(have zz:=@t2; evZ),(have zz:=@t3; evZ),(have zz:=@t4; evZ),ev0,(have zz:=@g0; evZ),(have zz:=@g1; evZ),(have zz:=@g2; evZ),ev0,rfl⟩
  clear t2 t3 t4 g0 g1 g2
  rintro T H _ ⟨t2,t3,t4,t7,g0,g1,g2,g3,rfl⟩
  refine aJ (fun T H nx=>T 2=.ptr 0 4 0∧T 3=.ptr 1 4 0∧T 4=.ptr 2 4 0∧T 7=.ptr 3 4 0∧H 0=some [.int .i64 a.n,.int .i64 a.ins,.int .i64 a.outs,aF a.cases]∧H 1=some [.int .i64 b.n,.int .i64 b.ins,.int .i64 b.outs,aF b.cases]∧H 2=some [.int .i64 0,.int .i64 0,.int .i64 0,.esl]∧4 ≤ nx∧∃ sv,H 3=some [.int .i64 a.n,.int .i64 (max a.ins b.ins),.int .i64 (max a.outs b.outs),sv]∧Row H 3 sv ((a.cases.map (jC b)).c3 bv)∧∀ y,dZ sv=some y→4 ≤ y) ?_ ?_
  · (have zz:=aI @t2 (aI @t3 (aI @t4 @t7)); repeat' (first | refine zW ?_ | apply a_n | refine zO ?_ | refine vY ?_ | fail)) <;> (try clear zz)
    refine be (X:=AV × Nat) (fun x=>[(2,.ptr 0 4 0),(3,.ptr 1 4 0),(4,.ptr 2 4 0),(7,.ptr 3 4 0),(8,.int .i64 x.2)]) (fun x H nx=>x.2 ≤ a.cases.length∧4 ≤ nx∧H 0=some [.int .i64 a.n,.int .i64 a.ins,.int .i64 a.outs,aF a.cases]∧H 1=some [.int .i64 b.n,.int .i64 b.ins,.int .i64 b.outs,aF b.cases]∧H 2=some [.int .i64 0,.int .i64 0,.int .i64 0,.esl]∧H 3=some [.int .i64 a.n,.int .i64 (max a.ins b.ins),.int .i64 (max a.outs b.outs),x.1]∧Row H 3 x.1 (((a.cases.take x.2).map (jC b)).c3 bv)∧∀ y,dZ x.1=some y→4 ≤ y∧y < nx) (fun x=>a.cases.length - x.2) (.esl,0) ⟨Nat.zero_le _,Nat.le_refl _,g0,g1,g2,g3,Row.nil,fun b hb=>(by cases hb)⟩ (have zz:=aI @t2 (aI @t3 (aI @t4 @t7)); agZ) ?_
    clear t2 t3 t4 t7 g0 g1 g2 g3
    rintro ⟨sv,k⟩ H nx ⟨hk,hnx,g0,g1,g2,g3,hrow,hbd⟩
    dsimp only at hk g3 hrow hbd ⊢
    by_cases hk2:k < a.cases.length
    rotate_left
    · rw [List.take_of_length_le (by omega)] at hrow
      (have zz:=aI @g0 (aI @g1 (aI @g2 (aI @g3 @ao))); repeat' (first | refine zW ?_ | apply a_n | apply a_x | refine zO ?_ | refine vY ?_ | (refine zGY ?_ ?_ <;> (intro _hg; try (exfalso; omega))) | fail)) <;> (try clear zz)
      exact ⟨rfl,rfl,rfl,rfl,g0,g1,g2,hnx,sv,g3,hrow,fun y hy=>(hbd y hy).1⟩
    have ix:=aX hk2
    have hm:=ai hk2
    have hst:(a.cases.take (k + 1)).map (jC b)=(a.cases.take k).map (jC b) ++ [jC b (a.cases.getD k default)]:=by rw [bV hk2,List.map_append]; rfl
    have hsc:=fa.fit.sh _ hm
    have hqc:=fa.q4 _ hm
    have hfi:=hidx _ hsc.1
    have hln:((a.cases.take k).map (jC b)).length=k:=by rw [List.length_map,List.length_take]; omega
    have hlen3:(((a.cases.take k).map (jC b)).c3 bv).length=k * 3:=by rw [a8 (fun _=>rfl),hln]
    have hjc:∀ d,bC b (a.cases.getD k default).inp=some d→jC b (a.cases.getD k default)=bM (a.cases.getD k default).inp (dq (a.cases.getD k default).out d.out) (dq (ax (a.cases.getD k default) 0) (ax d 0)):=fun d hd=>by unfold jC; rw [hd]
    have hjn:bC b (a.cases.getD k default).inp=none→jC b (a.cases.getD k default)=bM (a.cases.getD k default).inp (a.cases.getD k default).out (ax (a.cases.getD k default) 0):=fun hd=>by unfold jC; rw [hd]
    generalize jC b (a.cases.getD k default)=J at *
    generalize a.cases.getD k default=c at *
    obtain ⟨q1,q2⟩:=hrow.one
    have hqa:=el (f:=0) hqc
    have hsa:=bJ (f:=0) hsc
    have hv1:=e7 c 0
    have dc:=cT c
    unfold bv at dc
    have hmd:=la c.inp c.out (ax c 0) hsc.2.1 (jH hsc) hsc.2.2.1 hsa
    refine bz ?_
    refine bz ?_
    (have zz:=aI @g0 @ao; repeat' (first | apply a_n | refine zO ?_ | refine vY ?_ | (refine zGY ?_ ?_ <;> (intro _hg; try (exfalso; omega))) | fail)) <;> (try clear zz)
    refine bz ?_
    refine ce ?_
    refine bz ?_
    (have zz:=aI @g0 @ix; repeat' (first | apply a_n | refine zO ?_ | refine vY ?_ | refine alY ?_ | refine stY ?_ | fail)) <;> (try clear zz)
    refine bz ?_
    (have zz:=and_self; repeat' (first | apply a_n | refine zO ?_ | refine vY ?_ | refine cY ?_ (hp:=by first | exact hv1 | exact hmd) | refine alY ?_ | refine stY ?_ | fail)) <;> (try clear zz)
    refine aJ (fun T' H' nx'=>T' 2=.ptr 0 4 0∧T' 3=.ptr 1 4 0∧T' 4=.ptr 2 4 0∧T' 7=.ptr 3 4 0∧T' 8=.int .i64 k∧T' 10=.ptr (nx + 1) 3 0∧nx + 2 ≤ nx'∧H' (nx + 1)=some [aK J.inp,ak J.out,ak J.calm]∧∀ x,x < nx→H' x=H x) ?_ ?_
    · by_cases hmem:c.inp ∈ b.cases.map CaseV.inp
      rotate_left
      · rw [if_neg hmem] at hfi
        have hf:bC b c.inp=none:=by unfold bC; rw [if_neg hmem]
        have hJ:=hjn hf
        subst hJ
        (have zz:=aI @g1 (aI @ah @ab); repeat' (first | refine zW ?_ | apply a_n | refine zO ?_ | refine vY ?_ | refine cY ?_ (hp:=hfi) | (refine zGY ?_ ?_ <;> (intro _hg; try (exfalso; omega))) | fail)) <;> (try clear zz)
        exact ⟨(have zz:=and_self; evY),(have zz:=and_self; evY),(have zz:=and_self; evY),(have zz:=and_self; evY),(have zz:=and_self; evY),(have zz:=and_self; evY),by omega,by rw [au]; rfl,fun x hx=>by rw [aa (by omega),aa (by omega),aa (by omega),aa (by omega)]⟩
      · rw [if_pos hmem] at hfi
        have hf:bC b c.inp=some (b.cases.getD (f7 b c.inp) default):=by unfold bC; rw [if_pos hmem]
        have hq:=kZ hmem
        have iq:=aX hq
        have hJ:=hjc _ hf
        have hsd:=fb.fit.sh _ (ai hq)
        have hqd:=fb.q4 _ (ai hq)
        have dd:=cT (b.cases.getD (f7 b c.inp) default)
        generalize b.cases.getD (f7 b c.inp) default=d at *
        generalize f7 b c.inp=q at *
        subst hJ
        unfold bv at dd
        have hqb:=el (f:=0) hqd
        have hsb:=bJ (f:=0) hsd
        have hv2:=e7 d 0
        have f1:=qS c.out d.out (by omega) hsc.2.2.1 (by omega) hsd.2.2.1
        have f2:=qS (ax c 0) (ax d 0) (by omega) hsa (by omega) hsb
        have l1:=e6 (acc:=c.out) (l:=d.out)
        have l2:=e6 (acc:=ax c 0) (l:=ax d 0)
        have hmd2:=la c.inp (dq c.out d.out) (dq (ax c 0) (ax d 0)) (show _ ≤ _ by omega) (show _ ≤ _ by omega) (fun v hv=>(ez.1 hv).elim (hsc.2.2.1 v) (hsd.2.2.1 v)) (fun v hv=>(ez.1 hv).elim (hsa v) (hsb v))
        have zq:decide ((0:Int) ≤ (q:Int))=true:=decide_eq_true (by omega)
        (have zz:=aI @g1 (aI @ah (aI @ab (aI @iq @zq))); repeat' (first | refine zW ?_ | refine zM ?_ | apply a_n | refine zO ?_ | refine vY ?_ | refine cY ?_ (hp:=by first | exact hfi | exact f1 | exact f2 | exact hv1 | exact hv2 | exact hmd2) | refine alY ?_ | refine stY ?_ | refine cTY ?_ | fail)) <;> (try clear zz)
        exact ⟨(have zz:=and_self; evY),(have zz:=and_self; evY),(have zz:=and_self; evY),(have zz:=and_self; evY),(have zz:=and_self; evY),(have zz:=and_self; evY),by omega,by rw [au]; rfl,fun x hx=>by rw [aa (by omega),aa (by omega),aa (by omega),aa (by omega),aa (by omega),aa (by omega),aa (by omega)]⟩
    rintro T H2 n2 ⟨t2,t3,t4,t7,t8,t10,hn2,g10,gs⟩
    have g0':=(gs 0 (by omega)).trans g0
    have g1':=(gs 1 (by omega)).trans g1
    have g2':=(gs 2 (by omega)).trans g2
    have g3':=(gs 3 (by omega)).trans g3
    (have zz:=aI @t7 (aI @t10 (aI @g3' (aI @g10 (aI @q1 @q2)))); repeat' (first | apply a_n | refine zO ?_ | refine vY ?_ | refine blY ?_ | fail)) <;> (try clear zz)
    refine gz rfl ev0 (hrow.same fun y hy=>?_) ev0 eZ rfl rfl (by omega) (by rw [hlen3]; omega) (by rw [hlen3]; omega) ?_
    · have:=hbd y hy
      rw [aa (by omega),gs y (by omega)]
    rintro s2 E e hrw hle1 hle2 hsm hb2
    have g3'':E 3=some [.int .i64 a.n,.int .i64 (max a.ins b.ins),.int .i64 (max a.outs b.outs),sv]:=(hsm 3 (by omega) (fun h=>by have:=hbd _ h; omega)).trans (by rw [aa (by omega)]; exact g3')
    obtain ⟨p1,p2⟩:=hrw.one
    have ub:∀ y,dZ s2=some y→4 ≤ y∧y < e:=fun y hy=>by
      rcases hb2 y hy with h | h
      · have:=hbd y h; omega
      · omega
    have hfr:∀ x,x < 3→E x=H2 x:=fun x hx=>(hsm x (by omega) (fun h=>by have:=hbd _ h; omega)).trans (by rw [aa (by omega)])
    (have zz:=aI @t7 (aI @t8 (aI @g3'' (aI @p1 @p2))); repeat' (first | apply a_n | refine zO ?_ | refine vY ?_ | refine stY ?_ | fail)) <;> (try clear zz)
    refine ⟨(s2,k + 1),by dsimp only; omega,⟨by dsimp only; omega,by omega,?_,?_,?_,?_,?_,ub⟩,(have zz:=aI @t2 (aI @t3 (aI @t4 @t7)); agZ)⟩
    · rw [aa (by omega),hfr 0 (by omega),g0']
    · rw [aa (by omega),hfr 1 (by omega),g1']
    · rw [aa (by omega),hfr 2 (by omega),g2']
    · rw [au]; rfl
    · dsimp only
      rw [hst,ow]
      refine Row.same (H:=E) (by simpa [List.c3,bv,AV.cells] using hrw) fun y hy=>?_
      have:=ub y hy
      rw [aa (by omega)]
  clear t2 t3 t4 t7 g0 g1 g2 g3
  rintro T H nx ⟨t2,t3,t4,t7,g0,g1,g2,hnx,sv,g3,hrow,hbd⟩
  have hLl:(a.cases.map (jC b)).length=a.cases.length:=by rw [List.length_map]
  have hLs:∀ x ∈ a.cases.map (jC b),ShC x∧x.out.length ≤ 100000:=fun x hx=>by
    obtain ⟨c,hc,rfl⟩:=List.mem_map.1 hx
    exact yU fa fb hc
  have hjr:kO (a.cases.map (jC b)) (bl a b.cases)=d5 a b:=rfl
  generalize a.cases.map (jC b)=La at *
  obtain ⟨B,rfl,hB⟩:=rj hrow (by omega)
  have hB4:=hbd B rfl
  refine aJ (fun T H nx=>T 4=.ptr 2 4 0∧T 7=.ptr 3 4 0∧4 ≤ nx∧H 2=some [.int .i64 0,.int .i64 0,.int .i64 0,.esl]∧H 3=some [.int .i64 a.n,.int .i64 (max a.ins b.ins),.int .i64 (max a.outs b.outs),aF (d5 a b)]) ?_ ?_
  · refine bz ?_
    refine rz (only B (La.c3 bv)) (am (bZ H B) 3 [.int .i64 a.n,.int .i64 (max a.ins b.ins),.int .i64 (max a.outs b.outs),aF La]) [(2,.ptr 0 4 0),(3,.ptr 1 4 0),(4,.ptr 2 4 0),(7,.ptr 3 4 0)] (yb g3 hB (by omega) (lX rb rfl)) ⟨.inl t2,.inl t3,.inl t4,.inl t7,trivial⟩ ?_
    have e0:am (bZ H B) 3 [.int .i64 a.n,.int .i64 (max a.ins b.ins),.int .i64 (max a.outs b.outs),aF La] 0=some [.int .i64 a.n,.int .i64 a.ins,.int .i64 a.outs,aF a.cases]:=by rw [aa (by omega),lf (by omega),g0]
    have e1:am (bZ H B) 3 [.int .i64 a.n,.int .i64 (max a.ins b.ins),.int .i64 (max a.outs b.outs),aF La] 1=some [.int .i64 b.n,.int .i64 b.ins,.int .i64 b.outs,aF b.cases]:=by rw [aa (by omega),lf (by omega),g1]
    have e2:am (bZ H B) 3 [.int .i64 a.n,.int .i64 (max a.ins b.ins),.int .i64 (max a.outs b.outs),aF La] 2=some [.int .i64 0,.int .i64 0,.int .i64 0,.esl]:=by rw [aa (by omega),lf (by omega),g2]
    have e3:am (bZ H B) 3 [.int .i64 a.n,.int .i64 (max a.ins b.ins),.int .i64 (max a.outs b.outs),aF La] 3=some [.int .i64 a.n,.int .i64 (max a.ins b.ins),.int .i64 (max a.outs b.outs),aF La]:=au
    generalize am (bZ H B) 3 [.int .i64 a.n,.int .i64 (max a.ins b.ins),.int .i64 (max a.outs b.outs),aF La]=H0 at *
    clear g0 g1 g2 g3 hrow hbd hB
    (have zz:=and_self; repeat' (first | refine zW ?_ | apply a_n | refine zO ?_ | refine vY ?_ | fail)) <;> (try clear zz)
    refine be (X:=Nat) (fun k=>[(2,.ptr 0 4 0),(3,.ptr 1 4 0),(4,.ptr 2 4 0),(7,.ptr 3 4 0),(13,.int .i64 (k:Nat))]) (fun k H nx=>k ≤ b.cases.length∧4 ≤ nx∧H 0=some [.int .i64 a.n,.int .i64 a.ins,.int .i64 a.outs,aF a.cases]∧H 1=some [.int .i64 b.n,.int .i64 b.ins,.int .i64 b.outs,aF b.cases]∧H 2=some [.int .i64 0,.int .i64 0,.int .i64 0,.esl]∧H 3=some [.int .i64 a.n,.int .i64 (max a.ins b.ins),.int .i64 (max a.outs b.outs),aF (kO La (bl a (b.cases.take k)))]) (fun k=>b.cases.length - k) 0 ⟨Nat.zero_le _,hnx,e0,e1,e2,e3⟩ (have zz:=aI @t2 (aI @t3 (aI @t4 @t7)); agZ) ?_
    clear e0 e1 e2 e3
    rintro k H nx ⟨hk,hnx,g0,g1,g2,g3⟩
    by_cases hk2:k < b.cases.length
    rotate_left
    · rw [List.take_of_length_le (by omega),hjr] at g3
      (have zz:=aI @g1 @ao; repeat' (first | refine zW ?_ | apply a_n | apply a_x | refine zO ?_ | refine vY ?_ | (refine zGY ?_ ?_ <;> (intro _hg; try (exfalso; omega))) | fail)) <;> (try clear zz)
      exact ⟨rfl,rfl,hnx,g2,g3⟩
    have ix:=aX hk2
    have hm:=ai hk2
    have hst:=gx (o:=a) hk2
    have hsc:=fb.fit.sh _ hm
    have hqc:=fb.q4 _ hm
    have hfi:=hidxa _ hsc.1
    have hal:=d4 (o:=a) (l:=b.cases.take k)
    rw [List.length_take] at hal
    have hadl:(kO La (bl a (b.cases.take k))).length ≤ 300000:=by
      rw [(f0 _ _).length_eq,List.length_append]; omega
    have hads:∀ x ∈ kO La (bl a (b.cases.take k)),Sh x.inp:=fun x hx=>by
      rcases List.mem_append.1 ((f0 _ _).mem_iff.1 hx) with h | h
      · exact (hLs x h).1.1
      · obtain ⟨c,hc,_,rfl⟩:=b6 h
        exact (fb.fit.sh c (List.mem_of_mem_take hc)).1
    generalize b.cases.getD k default=c at *
    by_cases hmem:c.inp ∈ a.cases.map CaseV.inp
    · rw [if_pos hmem] at hfi
      have hf:bC a c.inp=some (a.cases.getD (f7 a c.inp) default):=by unfold bC; rw [if_pos hmem]
      have ha:dh a c=none:=by unfold dh; rw [hf]
      rw [ha] at hst
      have zq:decide (((f7 a c.inp:Nat):Int) < 0)=false:=decide_eq_false (by omega)
      (have zz:=aI @g0 (aI @g1 (aI @ao (aI @ah (aI @ab (aI @ix @zq))))); repeat' (first | refine zW ?_ | apply a_n | refine zO ?_ | refine vY ?_ | refine cY ?_ (hp:=hfi) | refine alY ?_ | refine stY ?_ | refine cFY ?_ | (refine zGY ?_ ?_ <;> (intro _hg; try (exfalso; omega))) | fail)) <;> (try clear zz)
      refine ⟨k + 1,by omega,⟨by omega,by omega,?_,?_,?_,?_⟩,ag0⟩
      · rw [aa (by omega),aa (by omega),g0]
      · rw [aa (by omega),aa (by omega),g1]
      · rw [aa (by omega),aa (by omega),g2]
      · rw [aa (by omega),aa (by omega),g3,hst]
        simp only [Option.toList,List.append_nil]
    · rw [if_neg hmem] at hfi
      have hf:bC a c.inp=none:=by unfold bC; rw [if_neg hmem]
      have ha:dh a c=some (bM c.inp c.out (ax c 0)):=by unfold dh; rw [hf]
      rw [ha] at hst
      have hv1:=e7 c 0
      have dc:=cT c
      unfold bv at dc
      have hmd:=la c.inp c.out (ax c 0) hsc.2.1 (jH hsc) hsc.2.2.1 (bJ hsc)
      have hadd:=xI (kO La (bl a (b.cases.take k))) (bM c.inp c.out (ax c 0)) hadl hads hsc.1
      rw [← r7] at hadd
      have hst':bl a (b.cases.take (k + 1))=bl a (b.cases.take k) ++ [bM c.inp c.out (ax c 0)]:=hst
      rw [← hst'] at hadd
      have hadd':Pure Tryz.prog 66 [aF (kO La (bl a (b.cases.take k))),.agg [aK c.inp,ak c.out,ak (bM c.inp c.out (ax c 0)).calm]] (aF (kO La (bl a (b.cases.take (k + 1))))):=hadd
      have dm:Dat (.agg [aK c.inp,ak c.out,ak (bM c.inp c.out (ax c 0)).calm]):=Dat.agg (DatL.cons (bh _) (DatL.cons (aU _) (DatL.cons (aU _) DatL.nil)))
      (have zz:=aI @g0 (aI @g1 (aI @g3 (aI @ao (aI @ah (aI @ab @ix))))); repeat' (first | refine zW ?_ | refine zM ?_ | apply a_n | refine zO ?_ | refine vY ?_ | refine cY ?_ (hp:=by first | exact hfi | exact hv1 | exact hmd | exact hadd') (hs:=by (first | refine aj ?_ rfl | apply aq); (repeat' (first | exact ag | apply aC | apply av | exact d1 | exact dc | exact dm | exact d8 _)); first | done | fail) | refine alY ?_ | refine stY ?_ | (refine zGY ?_ ?_ <;> (intro _hg; try (exfalso; omega))) | fail)) <;> (try clear zz)
      refine ⟨k + 1,by omega,⟨by omega,by omega,?_,?_,?_,?_⟩,ag0⟩
      · rw [aa (by omega),aa (by omega),aa (by omega),g0]
      · rw [aa (by omega),aa (by omega),aa (by omega),g1]
      · rw [aa (by omega),aa (by omega),aa (by omega),g2]
      · rw [au]; rfl
  clear t2 t3 t4 t7 g0 g1 g2 g3 hrow hbd hB hB4 hnx
  rintro T H nx ⟨t4,t7,hnx,g2,g3⟩
  have hjl:(d5 a b).length ≤ 1000000:=by
    rw [← hjr,(f0 _ _).length_eq,List.length_append]
    have:=d4 (o:=a) (l:=b.cases)
    omega
  have hjq:∀ c ∈ d5 a b,c.out.length ≤ 1000000:=fun x hx=>by
    rw [← hjr] at hx
    rcases List.mem_append.1 ((f0 _ _).mem_iff.1 hx) with h | h
    · have:=(hLs x h).2; omega
    · obtain ⟨c,hc,_,rfl⟩:=b6 h
      have:=(fb.q4 c hc).1
      show c.out.length ≤ _
      omega
  have hsz:=xw ⟨a.n,max a.ins b.ins,max a.outs b.outs,d5 a b⟩ hjl hjq
  have dJ:=bu ⟨a.n,max a.ins b.ins,max a.outs b.outs,d5 a b⟩
  unfold bd at hsz dJ
  dsimp only at hsz dJ
  generalize d5 a b=J at *
  by_cases hbig:1024 < J.length ∨ rU J=true
  · rw [if_pos hbig] at hsz ⊢
    (have zz:=aI @t4 (aI @t7 (aI @g2 (aI @g3 (aI @ah @ab)))); repeat' (first | refine zW ?_ | apply a_n | apply a_r | refine zO ?_ | refine vY ?_ | refine cY ?_ (hp:=hsz) | refine stY ?_ | (refine zGY ?_ ?_ <;> (intro _hg; try (exfalso; omega))) | refine ae rfl ?_ | refine r2Y ?_ | fail)) <;> (try clear zz)
    exact dx _
  · rw [if_neg hbig] at hsz ⊢
    (have zz:=aI @t4 (aI @t7 (aI @g2 (aI @g3 (aI @ah @ab)))); repeat' (first | refine zW ?_ | apply a_n | refine zO ?_ | refine vY ?_ | refine cY ?_ (hp:=hsz) | refine stY ?_ | (refine zGY ?_ ?_ <;> (intro _hg; try (exfalso; omega))) | refine ae rfl ?_ | refine r2Y ?_ | fail)) <;> (try clear zz)
    exact nI (d8 _ _)
end Go.Proofs.YtjgpfclngkcedaaGreat
namespace Go.Proofs.YtjgpfclngkcedaaGreat
open Go Go.Abs
open Nat (reduceEqDiff reduceAdd reduceLeDiff)
structure Fit30 (t:TaskV):Prop where
  sh:∀ c ∈ t.cases,ShC c
  len:t.cases.length ≤ 30
  q:∀ c ∈ t.cases,c.out.length ≤ 30∧c.calm.length ≤ 30
theorem Fit30.of {t:TaskV} (h:iG t=true):Fit30 t:=by
  have hsh:=vU h
  unfold iG at h
  rw [Bool.and_eq_true,decide_eq_true_iff,List.all_eq_true] at h
  refine ⟨hsh.2,h.1,fun c hc=>?_⟩
  have hf:=h.2 c hc
  unfold oa iK at hf
  simp only [Bool.and_eq_true,decide_eq_true_iff,List.all_eq_true] at hf
  exact ⟨hf.1.2.1,hf.2.1⟩
theorem Fit30.four {t:TaskV} (h:Fit30 t):Fit4 t:=⟨⟨h.sh,by have:=h.len; omega,fun c hc=>by have:=h.q c hc; omega⟩,fun c hc=>by have:=h.q c hc; omega⟩
theorem Fit30.fit {t:TaskV} (h:Fit30 t):Fit t:=h.four.fit
attribute [local irreducible] aA af aV aQ aE aL ay aM aR ba Go.Abs.Fn aO Go.Abs.Pure ap aB Yl
end Go.Proofs.YtjgpfclngkcedaaGreat
namespace Go.Proofs.YtjgpfclngkcedaaGreat
open Go Go.Abs
attribute [local irreducible] aA af aV aQ aE aL ay aM aR ba Go.Abs.Fn aO Go.Abs.Pure ap aB Yl
end Go.Proofs.YtjgpfclngkcedaaGreat
namespace Go.Proofs.YtjgpfclngkcedaaGreat
open Go Go.Abs
attribute [local irreducible] aA af aV aQ aE aL ay aM aR ba Go.Abs.Fn aO Go.Abs.Pure ap aB Yl
end Go.Proofs.YtjgpfclngkcedaaGreat
namespace Go.Proofs.YtjgpfclngkcedaaGreat
open Go Go.Abs
open Nat (reduceEqDiff reduceAdd reduceLeDiff)
attribute [local irreducible] aA af aV aQ aE aL ay aM aR ba Go.Abs.Fn aO Go.Abs.Pure ap aB Yl
end Go.Proofs.YtjgpfclngkcedaaGreat
namespace Go.Proofs.YtjgpfclngkcedaaGreat
open Go Go.Abs
attribute [local irreducible] aA af aV aQ aE aL ay aM aR ba Go.Abs.Fn aO Go.Abs.Pure ap aB Yl
end Go.Proofs.YtjgpfclngkcedaaGreat
namespace Go.Proofs.YtjgpfclngkcedaaGreat
open Go Go.Abs
structure BoxesM (H:Hp) (bs:List Nat) (l:List (List Int)):Prop where
  len:bs.length=l.length
  at_:∀ i,i < l.length→H (bs.getD i 0)=some ((l.getD i default).map (AV.int .i64))
  nodup:bs.Nodup
theorem BoxesM.same {H H':Hp} {bs:List Nat} {l:List (List Int)} (h:BoxesM H bs l) (hs:∀ b ∈ bs,H' b=H b):BoxesM H' bs l :=
  ⟨h.len,fun i hi=>(hs _ (by have:=h.len; rw [List.getD_eq_getElem?_getD,List.getElem?_eq_getElem (by omega)]; exact List.getElem_mem _)).trans (h.at_ i hi),h.nodup⟩
theorem yA {bs:List Nat} (h:bs.Nodup) {i j:Nat} (hi:i < bs.length) (hj:j < bs.length) (e:bs.getD i 0=bs.getD j 0):i=j:=by
  rw [List.getD_eq_getElem?_getD,List.getD_eq_getElem?_getD,List.getElem?_eq_getElem hi,List.getElem?_eq_getElem hj] at e
  have hp:=List.pairwise_iff_getElem.1 (List.nodup_iff_pairwise_ne.1 h)
  rcases Nat.lt_trichotomy i j with c | c | c
  · exact absurd e (hp i j hi hj c)
  · exact c
  · exact absurd e.symm (hp j i hj hi c)
theorem BoxesM.snoc {H:Hp} {bs:List Nat} {l:List (List Int)} {b:Nat} {v:List Int} (h:BoxesM H bs l) (hb:H b=some (v.map (AV.int .i64))) (hn:b ∉ bs):BoxesM H (bs ++ [b]) (l ++ [v]):=by
  refine ⟨by simp [h.len],fun i hi=>?_,?_⟩
  · rw [List.length_append,List.length_singleton] at hi
    have hl:=h.len
    by_cases e:i=l.length
    · subst e
      rw [← hl]
      simp only [List.getD_eq_getElem?_getD,List.getElem?_append_right (Nat.le_refl _),Nat.sub_self]
      rw [hl,List.getElem?_append_right (Nat.le_refl _),Nat.sub_self]
      exact hb
    · have:=h.at_ i (by omega)
      simp only [List.getD_eq_getElem?_getD] at this ⊢
      rw [List.getElem?_append_left (by omega),List.getElem?_append_left (by omega)]
      exact this
  · rw [List.nodup_append]
    exact ⟨h.nodup,by simp,fun x hx y hy e=>hn (by simp at hy; subst hy; subst e; exact hx)⟩
attribute [local irreducible] aA af aV aQ aE aL ay aM aR ba Go.Abs.Fn aO Go.Abs.Pure ap aB Yl
end Go.Proofs.YtjgpfclngkcedaaGreat
namespace Go.Proofs.YtjgpfclngkcedaaGreat
open Go Go.Abs
section
variable {α:Type} [Inhabited α] {g:α→α} {l:List α}
end
theorem BoxesM.set {H:Hp} {bs:List Nat} {l:List (List Int)} {i:Nat} {v:List Int} (h:BoxesM H bs l) (hi:i < l.length):BoxesM (am H (bs.getD i 0) (v.map (AV.int .i64))) bs (l.set i v):=by
  refine ⟨by rw [List.length_set]; exact h.len,fun j hj=>?_,h.nodup⟩
  rw [List.length_set] at hj
  by_cases e:j=i
  · subst e
    rw [au]
    simp [List.getD,hj]
  · rw [aa (fun k=>e (yA h.nodup (by have:=h.len; omega) (by have:=h.len; omega) k)),h.at_ j hj]
    simp only [List.getD_eq_getElem?_getD]
    rw [List.getElem?_set_ne (by omega)]
attribute [local irreducible] aA af aV aQ aE aL ay aM aR ba Go.Abs.Fn aO Go.Abs.Pure ap aB Yl
end Go.Proofs.YtjgpfclngkcedaaGreat
namespace Go.Proofs.YtjgpfclngkcedaaGreat
open Go Go.Abs
open Nat (reduceEqDiff reduceAdd reduceLeDiff)
attribute [local irreducible] aA af aV aQ aE aL ay aM aR ba Go.Abs.Fn aO Go.Abs.Pure ap aB Yl
end Go.Proofs.YtjgpfclngkcedaaGreat
namespace Go.Proofs.YtjgpfclngkcedaaGreat
open Go Go.Abs
open Nat (reduceEqDiff reduceAdd reduceLeDiff)
attribute [local irreducible] aA af aV aQ aE aL ay aM aR ba Go.Abs.Fn aO Go.Abs.Pure ap aB Yl
end Go.Proofs.YtjgpfclngkcedaaGreat
namespace Go.Proofs.YtjgpfclngkcedaaGreat
open Go Go.Abs
open Nat (reduceEqDiff reduceAdd reduceLeDiff)
attribute [local irreducible] aA af aV aQ aE aL ay aM aR ba Go.Abs.Fn aO Go.Abs.Pure ap aB Yl
end Go.Proofs.YtjgpfclngkcedaaGreat
namespace Go.Proofs.YtjgpfclngkcedaaGreat
open Go Go.Abs
open Nat (reduceEqDiff reduceAdd reduceLeDiff)
attribute [local irreducible] aA af aV aQ aE aL ay aM aR ba Go.Abs.Fn aO Go.Abs.Pure ap aB Yl
end Go.Proofs.YtjgpfclngkcedaaGreat
namespace Go.Proofs.YtjgpfclngkcedaaGreat
open Go Go.Abs
open Nat (reduceEqDiff reduceAdd reduceLeDiff)
attribute [local irreducible] aA af aV aQ aE aL ay aM aR ba Go.Abs.Fn aO Go.Abs.Pure ap aB Yl
end Go.Proofs.YtjgpfclngkcedaaGreat
namespace Go.Proofs.YtjgpfclngkcedaaGreat
open Go Go.Abs
open Nat (reduceEqDiff reduceAdd reduceLeDiff)
section
attribute [local irreducible] aA af aV aQ aE aL ay aM aR ba Go.Abs.Fn aO Go.Abs.Pure ap aB Yl
theorem qs (H:Hp) (nx:Nat):Abs.Fn Tryz.prog 42 [.esl] H nx fun r H' nx'=>(r=.esl ∨ r=.msl nx 0 1 0 0)∧(H'=H∧nx'=nx ∨ H'=am H nx []∧nx'=nx + 1):=by
  refine Abs.Fn.of_c2 follows yw (Nat.le_of_ble_eq_true rfl) ?_
  simp only [b42,cO,cG,cN,cM,cD,cF,cB,aw,aG]
  (have zz:=and_self; repeat' (first | refine zW ?_ | apply a_n | refine zO ?_ | refine vZ ?_ | fail)) <;> (try clear zz)
  refine oh (k:=0) (by ((try simp only [br,ZA,reduceEqDiff,↓reduceIte,reduceAdd,reduceLeDiff]); (try with_reducible rfl)); rfl) (fun h=>by omega) (fun h=>?_) (fun h=>?_)
  ((all_goals (try have zz:=and_self)); (repeat' (first | refine zW ?_ | apply a_n | apply a_r | refine zO ?_ | refine vZ ?_ | refine b0Z ?_ | refine a0Z ?_ | refine cTZ ?_ | refine cFZ ?_ | refine ae rfl ?_ | refine r1Z ?_ | fail)); (all_goals (try clear zz)))
  all_goals first | exact ⟨.inl rfl,.inl ⟨rfl,rfl⟩⟩ | exact ⟨.inr rfl,.inr ⟨rfl,rfl⟩⟩
theorem qD (H:Hp) (nx:Nat):Abs.Fn Tryz.prog 106 [.esl] H nx fun r H' nx'=>(r=.esl ∨ r=.msl nx 0 1 0 0)∧(H'=H∧nx'=nx ∨ H'=am H nx []∧nx'=nx + 1):=by
  refine Abs.Fn.of_c2 follows sW (Nat.le_of_ble_eq_true rfl) ?_
  simp only [vo,cO,cG,cN,cM,cD,cF,cB,aw,aG]
  (have zz:=and_self; repeat' (first | refine zW ?_ | apply a_n | refine zO ?_ | refine vZ ?_ | fail)) <;> (try clear zz)
  refine oh (k:=0) (by ((try simp only [br,ZA,reduceEqDiff,↓reduceIte,reduceAdd,reduceLeDiff]); (try with_reducible rfl)); rfl) (fun h=>by omega) (fun h=>?_) (fun h=>?_)
  ((all_goals (try have zz:=and_self)); (repeat' (first | refine zW ?_ | apply a_n | apply a_r | refine zO ?_ | refine vZ ?_ | refine b0Z ?_ | refine a0Z ?_ | refine cTZ ?_ | refine cFZ ?_ | refine ae rfl ?_ | refine r1Z ?_ | fail)); (all_goals (try clear zz)))
  all_goals first | exact ⟨.inl rfl,.inl ⟨rfl,rfl⟩⟩ | exact ⟨.inr rfl,.inr ⟨rfl,rfl⟩⟩
end
def ctC:FuncId→List AV→Nat→Option AV:=fun g args nx=>match Nat.beq g 42 || Nat.beq g 106,args with
  | true,[.esl]=>some (.msl nx 0 1 0 0)
  | _,_=>none
theorem wD {g:Nat} {args:List AV} {H:Hp} {nx:Nat} {R:AV→Hp→Nat→Prop} (h:Abs.Fn Tryz.prog g args H nx fun r' H' nx'=>(r'=.esl ∨ r'=.msl nx 0 1 0 0)∧(H'=H∧nx'=nx ∨ H'=am H nx []∧nx'=nx + 1)) (hR:R (.msl nx 0 1 0 0) (am H nx []) (nx + 1)):Abs.Fn Tryz.prog g args H nx R :=
  ⟨h.1,fun E w vs h1 h2 h3 h4=>(h.2 E w vs h1 h2 h3 h4).mono fun e w' ⟨v,E',r',H',nx',k1,k2,k3,k4,k5,k6,a,b⟩=>by
    have hr:Rel E' w' (.msl nx 0 1 0 0) v:=by
      rcases a with rfl | rfl
      · cases k6 with
        | eslnil=>exact .msl0 _ _ _ (.inl rfl)
        | esl a=>exact .msl0 _ _ _ (.inr ⟨a,rfl⟩)
      · exact k6
    rcases b with ⟨rfl,rfl⟩ | ⟨rfl,rfl⟩
    · exact ⟨v,E',_,_,_,k1,k2,k3,k4.virtual (k5 _ (Nat.le_refl _)),fun b hb=>k5 b (by omega),hr,hR⟩
    · exact ⟨v,E',_,_,_,k1,k2,k3,k4,k5,hr,hR⟩⟩
def ctE (q:FuncId→List AV→Option AV):CT:=⟨ctC,q⟩
theorem yr (g:FuncId) (args:List AV) (nx:Nat) (r:AV) (h:ctC g args nx=some r) (H:Hp) (R:AV→Hp→Nat→Prop) (hR:R r (am H nx []) (nx + 1)):Abs.Fn Tryz.prog g args H nx R:=by
  unfold ctC at h
  split at h
  · rename_i hg
    cases h
    rcases Bool.or_eq_true _ _ |>.mp hg with hg | hg
    · cases Nat.eq_of_beq_eq_true hg
      exact wD (qs H nx) hR
    · cases Nat.eq_of_beq_eq_true hg
      exact wD (qD H nx) hR
  · cases h
theorem gM {q:FuncId→List AV→Option AV} (hq:∀ (g:FuncId) (args:List AV) (r:AV),q g args=some r→Go.Abs.Pure Tryz.prog g args r):CTok Tryz.prog (ctE q):=⟨yr,hq⟩
def Aj:List (Nat × F2):=[(12,b12),(13,b13),(15,b15),(16,b16),(18,b18),(20,b20),(21,b21),(23,b23),(25,b25),(27,b27),(33,b33),(39,b39),(40,b40),(41,b41),(42,b42),(43,b43),(44,b44),(47,b47),(48,b48),(49,b49),(50,b50),(51,b51),(56,b56),(57,b57),(58,b58),(59,b59),(60,b60),(61,b61),(62,b62),(63,b63),(64,b64),(68,b68),(69,b69),(71,b71),(72,b72),(73,b73),(74,b74),(75,b75),(77,b77),(78,b78),(79,b79),(83,b83),(86,b86),(87,b87),(88,b88),(96,b96),(100,xE),(101,ym),(102,zw),(104,xM),(106,vo),(107,u6),(108,vE),(109,x9),(110,xZ),(111,xF),(112,vv),(113,xj),(115,xN),(116,yv),(117,yo),(118,yS),(119,zA),(120,zn),(121,zH),(126,Ag),(127,xh),(130,vN),(131,xy),(132,yg),(133,xz),(134,xG),(135,xb),(136,xJ),(137,xY),(138,xg),(139,yQ),(140,va),(141,xl),(142,yh),(143,xo),(144,yB),(145,yW),(149,vK),(150,xk),(151,xR),(152,xU),(153,xc),(154,yc),(155,xL),(156,xm),(157,xO),(158,ya),(159,xH),(160,yj),(161,yx),(162,xP),(163,z7),(165,yD),(166,xC),(167,xe),(168,yq),(169,xt)]
theorem kp:iY Tryz.prog (lookup Aj) :=
  (ac Am (ac AA (ac zm (ac yT (ac y4 (ac zh (ac Ak (ac As (ac AQ (ac xn (ac Au (ac Ao (ac zF (ac zk (ac yw (ac AE (ac AD (ac zT (ac ze (ac yM (ac z6 (ac yR (ac z5 (ac yZ (ac zG (ac zv (ac yI (ac yG (ac yN (ac y6 (ac za (ac yV (ac AI (ac y5 (ac zV (ac AJ (ac Aw (ac zL (ac AS (ac AU (ac AX (ac Ap (ac An (ac Ar (ac Av (ac zt (ac wa (ac wX (ac zE (ac v4 (ac sW (ac tH (ac tn (ac wY (ac vX (ac w7 (ac s0 (ac wj (ac wT (ac wM (ac wo (ac zI (ac Aa (ac zS (ac z0 (ac Ai (ac we (ac uA (ac wk (ac wO (ac wH (ac wI (ac wh (ac wG (ac w9 (ac wn (ac yY (ac s9 (ac wu (ac wc (ac wr (ac wd (ac Ad (ac t6 (ac wC (ac xa (ac wJ (ac wy (ac v9 (ac v6 (ac wx (ac wg (ac v5 (ac wq (ac v8 (ac wL (ac wN (ac yL (ac w5 (ac v7 (ac wZ (ac wF (ac ww ss)))))))))))))))))))))))))))))))))))))))))))))))))))))))))))))))))))))))))))))))))))))))))))))))))))))))
def eI (n:Int):AV:=.int .i64 n
def eV (a b:Int):AV:=.sl 1 [eI a,eI b]
def eC (a b:Int) (o:List AV):AV:=.agg [eV a b,.sl 1 o,.esl]
def eT (o:Int) (l:List AV):AV:=.agg [eI 2,eI 2,eI o,.sl 3 l]
def e4:List AV:=[eV 0 0,eV 0 1,eV 1 0,eV 1 1]
def e2:List AV:=[eV 0 0,eV 1 1]
def eP:List AV:=[eV 0 0,eV 1 1,eV 2 2,eV 3 3]
def tA:AV:=eT 2 [eC 0 0 [eV 0 0],eC 0 1 e2,eC 1 0 e2,eC 1 1 [eV 1 1]]
def tB:AV:=eT 2 [eC 0 0 e4,eC 0 1 e4,eC 1 0 e4,eC 1 1 e4]
def tP:AV:=eT 4 [eC 0 0 [eV 0 0],eC 0 1 eP,eC 1 0 eP,eC 1 1 [eV 3 3]]
def pfE:FuncId→Bool:=wW [39,13,16,18,21,25,23,33,87,77]
theorem isV {v:AV} (r:AV) (h:eqA 60 r v=true):r=v:=qp _ _ _ h
set_option maxRecDepth 100000 in
theorem q1:Go.Abs.Pure Tryz.prog 39 [] (.tup [tA,tB]):=Pure.of_runC follows kp (gM ft) (pf:=pfE) (n:=2000) (by decide +kernel) isV
set_option maxRecDepth 100000 in
theorem q2:Go.Abs.Pure Tryz.prog 13 [tA,tB] (.tup [.esl,eI 0,.esl,.bool true,eI 0]):=Pure.of_runC follows kp (gM ft) (pf:=pfE) (n:=2000) (by decide +kernel) isV
set_option maxRecDepth 100000 in
theorem q3:Go.Abs.Pure Tryz.prog 13 [tB,tA] (.tup [eV 0 0,eI 0,eV 0 1,.bool false,eI 0]):=Pure.of_runC follows kp (gM ft) (pf:=pfE) (n:=2000) (by decide +kernel) isV
set_option maxRecDepth 100000 in
theorem q4:Go.Abs.Pure Tryz.prog 16 [tA,tB] (.tup [tA,eI 0]):=Pure.of_runC follows kp (gM ft) (pf:=pfE) (n:=2000) (by decide +kernel) isV
set_option maxRecDepth 100000 in
theorem q5:Go.Abs.Pure Tryz.prog 18 [tA,tB] (.tup [tB,eI 0]):=Pure.of_runC follows kp (gM ft) (pf:=pfE) (n:=2000) (by decide +kernel) isV
set_option maxRecDepth 100000 in
theorem q6:Go.Abs.Pure Tryz.prog 21 [tA,tA] (.tup [tP,eI 0]):=Pure.of_runC follows kp (gM ft) (pf:=pfE) (n:=2000) (by decide +kernel) isV
set_option maxRecDepth 100000 in
theorem q7:Go.Abs.Pure Tryz.prog 25 [tA] (.tup [.sl 1 [eV 0 1,eV 1 0],eI 0]):=Pure.of_runC follows kp (gM ft) (pf:=pfE) (n:=2000) (by decide +kernel) isV
set_option maxRecDepth 100000 in
theorem vP:Go.Abs.Pure Tryz.prog 12 [] (.bool true):=Pure.of_runC follows kp (gM (fh q1 (fh q2 (fh q3 (fh q4 (fh q5 (fh q6 (fh q7 ft)))))))) (pf:=pfE) (n:=2000) (good:=isTrue) (by decide +kernel) rY
end Go.Proofs.YtjgpfclngkcedaaGreat
namespace Go.Proofs.YtjgpfclngkcedaaGreat
open Go Go.Abs
open Nat (reduceEqDiff reduceAdd reduceLeDiff)
attribute [local irreducible] aA af aV aQ aE aL ay aM aR ba Go.Abs.Fn aO Go.Abs.Pure ap aB Yl
set_option maxHeartbeats 2000000 in
theorem zr (a b:TaskV) (ha:∀ c ∈ a.cases,ShC c) (ha2:a.cases.length ≤ 100000) (hb:∀ c ∈ b.cases,ShC c) (hb2:Sh b.cases) (hqa:∀ c ∈ a.cases,c.out.length ≤ 100000∧c.calm.length ≤ 100000):Pure Tryz.prog 17 [bd a,bd b] (.tup [bd (eL a b).1,.int .i64 (eL a b).2]):=by
  refine Pure.of_c2 follows AN (Nat.le_of_ble_eq_true rfl) ?_
  simp only [b17,cO,cG,cN,cM,cD,cF,cB,aw,aG]
  have hp:=wV a b ha (show a.cases.length ≤ _ by omega) hb hb2
  have d1:=bu a
  have d2:=bu b
  by_cases he:de a b=0
  rotate_left
  · have e:eL a b=(T00,de a b):=by unfold eL; rw [if_pos he]
    rw [e]
    generalize de a b=C at *
    unfold bd at hp d1 d2
    rw [show bd a=.agg [.int .i64 a.n,.int .i64 a.ins,.int .i64 a.outs,aF a.cases] from rfl,show bd b=.agg [.int .i64 b.n,.int .i64 b.ins,.int .i64 b.outs,aF b.cases] from rfl]
    (have zz:=aI @ah @ab; repeat' (first | refine zW ?_ | apply a_n | apply a_r | refine zO ?_ | refine vZ ?_ | refine cZ ?_ (hp:=hp) | refine alZ ?_ | refine bxZ ?_ | refine stZ ?_ | (refine zGZ ?_ ?_ <;> (intro _hg; try (exfalso; omega))) | refine ae rfl ?_ | refine r2Z ?_ | fail)) <;> (try clear zz)
    exact dx _
  rw [he] at hp
  have e:eL a b=if (bB aY b a.cases).length=0 ∨ a.cases.all (dg aY b)=false then (T00,16) else (⟨a.n,min a.ins b.ins,min a.outs b.outs,bB aY b a.cases⟩,0):=by unfold eL; rw [if_neg (fun h=>h he)]
  rw [e]
  have hidx:=fun v hv=>qw b v hb hb2 hv
  have hb2':b.cases.length ≤ 17592186044416:=hb2
  unfold bd at hp d1 d2 hidx
  rw [show bd a=.agg [.int .i64 a.n,.int .i64 a.ins,.int .i64 a.outs,aF a.cases] from rfl,show bd b=.agg [.int .i64 b.n,.int .i64 b.ins,.int .i64 b.outs,aF b.cases] from rfl]
  refine bz ?_
  (have zz:=aI @ah @ab; repeat' (first | apply a_n | refine zO ?_ | refine vZ ?_ | refine alZ ?_ | refine bxZ ?_ | fail)) <;> (try clear zz)
  refine aJ (fun T H nx=>T 2=.ptr 0 4 0∧T 3=.ptr 1 4 0∧T 4=.ptr 2 4 0∧H 0=some [.int .i64 a.n,.int .i64 a.ins,.int .i64 a.outs,aF a.cases]∧H 1=some [.int .i64 b.n,.int .i64 b.ins,.int .i64 b.outs,aF b.cases]∧H 2=some [.int .i64 0,.int .i64 0,.int .i64 0,.esl]∧nx=3) ?_ ?_
  · (have zz:=aI @ah @ab; repeat' (first | refine zW ?_ | apply a_n | refine zO ?_ | refine vZ ?_ | refine cZ ?_ (hp:=hp) | (refine zGZ ?_ ?_ <;> (intro _hg; try (exfalso; omega))) | fail)) <;> (try clear zz)
    exact ⟨rfl,rfl,rfl,rfl,rfl,rfl,rfl⟩
  rintro T H _ ⟨t2,t3,t4,g0,g1,g2,rfl⟩
  refine aJ (fun T H nx=>T 2=.ptr 0 4 0∧T 3=.ptr 1 4 0∧T 4=.ptr 2 4 0∧T 7=.ptr 3 4 0∧H 0=some [.int .i64 a.n,.int .i64 a.ins,.int .i64 a.outs,aF a.cases]∧H 1=some [.int .i64 b.n,.int .i64 b.ins,.int .i64 b.outs,aF b.cases]∧H 2=some [.int .i64 0,.int .i64 0,.int .i64 0,.esl]∧H 3=some [.int .i64 a.n,.int .i64 (min a.ins b.ins),.int .i64 (min a.outs b.outs),.esl]∧nx=4) ?_ ?_
  · (have zz:=aI @t2 (aI @t3 (aI @t4 (aI @g0 (aI @g1 (aI @g2 @mn2))))); repeat' (first | apply a_n | refine zO ?_ | refine vZ ?_ | refine alZ ?_ | refine stZ ?_ | fail)) <;> (try clear zz)
    exact ⟨(have zz:=@t2; evZ),(have zz:=@t3; evZ),(have zz:=@t4; evZ),ev0,(have zz:=@g0; evZ),(have zz:=@g1; evZ),(have zz:=@g2; evZ),ev0,rfl⟩
  clear t2 t3 t4 g0 g1 g2
  rintro T H _ ⟨t2,t3,t4,t7,g0,g1,g2,g3,rfl⟩
  refine aJ (fun T H nx=>T 4=.ptr 2 4 0∧T 7=.ptr 3 4 0∧H 2=some [.int .i64 0,.int .i64 0,.int .i64 0,.esl]∧a.cases.all (dg aY b)=true∧∃ sv,H 3=some [.int .i64 a.n,.int .i64 (min a.ins b.ins),.int .i64 (min a.outs b.outs),sv]∧Row H 3 sv ((bB aY b a.cases).c3 bv)∧∀ y,dZ sv=some y→4 ≤ y) ?_ ?_
  rotate_left
  · clear t2 t3 t4 t7 g0 g1 g2 g3
    rintro T H nx ⟨t4,t7,g2,hfull,sv,g3,hrow,hbd⟩
    have hcl:(bB aY b a.cases).length ≤ a.cases.length:=d7
    rw [hfull]
    generalize bB aY b a.cases=L at *
    have hlS:b9 sv=some (.int .i64 L.length):=hrow.lenS (by rw [a8 (fun _=>rfl)]) (by omega)
    obtain ⟨q1,q2⟩:=hrow.one
    by_cases hL:L.length=0
    · have z:decide ((L.length:Int)=0)=true:=decide_eq_true (by omega)
      rw [if_pos (.inl hL)]
      (have zz:=aI @t4 (aI @t7 (aI @g2 (aI @g3 (aI @hlS @z)))); repeat' (first | refine zW ?_ | apply a_n | apply a_r | refine zO ?_ | refine vY ?_ | refine stY ?_ | refine cTY ?_ | refine ae rfl ?_ | refine r2Y ?_ | fail)) <;> (try clear zz)
      all_goals exact dx _
    · have z:decide ((L.length:Int)=0)=false:=decide_eq_false (by omega)
      rw [if_neg (by rintro (h | h); exact hL h; exact absurd h (by decide))]
      (have zz:=aI @t4 (aI @t7 (aI @g2 (aI @g3 (aI @hlS (aI @z (aI @q1 @q2)))))); repeat' (first | refine zW ?_ | apply a_n | refine zO ?_ | refine vY ?_ | refine stY ?_ | refine cFY ?_ | refine ae rfl ?_ | refine r2Y ?_ | fail)) <;> (try clear zz)
      all_goals exact nI (jX (hrow.same fun x hx=>by have:=hbd x hx; rw [aa (by omega)]))
  (have zz:=aI @t2 (aI @t3 (aI @t4 @t7)); repeat' (first | refine zW ?_ | apply a_n | refine zO ?_ | refine vY ?_ | fail)) <;> (try clear zz)
  refine be (X:=AV × Nat) (fun x=>[(2,.ptr 0 4 0),(3,.ptr 1 4 0),(4,.ptr 2 4 0),(7,.ptr 3 4 0),(8,.int .i64 x.2)]) (fun x H nx=>x.2 ≤ a.cases.length∧4 ≤ nx∧H 0=some [.int .i64 a.n,.int .i64 a.ins,.int .i64 a.outs,aF a.cases]∧H 1=some [.int .i64 b.n,.int .i64 b.ins,.int .i64 b.outs,aF b.cases]∧H 2=some [.int .i64 0,.int .i64 0,.int .i64 0,.esl]∧H 3=some [.int .i64 a.n,.int .i64 (min a.ins b.ins),.int .i64 (min a.outs b.outs),x.1]∧(∀ i,i < x.2→dg aY b (a.cases.getD i default)=true)∧Row H 3 x.1 ((bB aY b (a.cases.take x.2)).c3 bv)∧∀ y,dZ x.1=some y→4 ≤ y∧y < nx) (fun x=>a.cases.length - x.2) (.esl,0) ⟨Nat.zero_le _,Nat.le_refl _,g0,g1,g2,g3,fun i h=>absurd h (by dsimp only; omega),Row.nil,fun b hb=>(by cases hb)⟩ (have zz:=aI @t2 (aI @t3 (aI @t4 @t7)); agZ) ?_
  clear t2 t3 t4 t7 g0 g1 g2 g3
  rintro ⟨sv,k⟩ H nx ⟨hk,hnx,g0,g1,g2,g3,hfl,hrow,hbd⟩
  dsimp only at hk g3 hfl hrow hbd ⊢
  by_cases hk2:k < a.cases.length
  rotate_left
  · rw [List.take_of_length_le (by omega)] at hrow
    (have zz:=aI @g0 (aI @g1 (aI @g2 (aI @g3 @ao))); repeat' (first | refine zW ?_ | apply a_n | apply a_x | refine zO ?_ | refine vY ?_ | (refine zGY ?_ ?_ <;> (intro _hg; try (exfalso; omega))) | fail)) <;> (try clear zz)
    refine ⟨rfl,rfl,g2,?_,sv,g3,hrow,fun y hy=>(hbd y hy).1⟩
    rw [List.all_eq_true]
    intro c hc
    obtain ⟨i,hi,rfl⟩:=List.getElem_of_mem hc
    have:=hfl i (by omega)
    rwa [show a.cases.getD i default=a.cases[i] by simp [List.getD,hi]] at this
  have ix:=aX hk2
  have hm:=ai hk2
  have hcomb:=hU (F:=aY) (b:=b) hk2
  have hsc:=ha _ hm
  have hqc:=hqa _ hm
  have hfi:=hidx _ hsc.1
  have hln:(bB aY b (a.cases.take k)).length ≤ a.cases.length:=Nat.le_trans d7 (by rw [List.length_take]; omega)
  have hlen3:((bB aY b (a.cases.take k)).c3 bv).length=(bB aY b (a.cases.take k)).length * 3:=a8 (fun _=>rfl) _
  have hnext:dg aY b (a.cases.getD k default)=true→∀ i,i < k + 1→dg aY b (a.cases.getD i default)=true:=fun h i hi=>by
    rcases Nat.lt_succ_iff_lt_or_eq.1 hi with h' | rfl
    · exact hfl i h'
    · exact h
  have hbad:dg aY b (a.cases.getD k default)=false→a.cases.all (dg aY b)=false:=fun h=>fO hk2 h
  generalize a.cases.getD k default=c at *
  obtain ⟨q1,q2⟩:=hrow.one
  by_cases hmem:c.inp ∈ b.cases.map CaseV.inp
  rotate_left
  · rw [if_neg hmem] at hfi
    have hf:bC b c.inp=none:=by unfold bC; rw [if_neg hmem]
    obtain ⟨n1,n2,n3⟩:=i6 (F:=aY) hf
    rw [n1] at hcomb
    (have zz:=aI @g0 (aI @g1 (aI @g2 (aI @g3 (aI @ah (aI @ab (aI @ao @ix)))))); repeat' (first | refine zW ?_ | apply a_n | apply a_x | refine zO ?_ | refine vY ?_ | refine cY ?_ (hp:=hfi) | refine alY ?_ | refine stY ?_ | (refine zGY ?_ ?_ <;> (intro _hg; try (exfalso; omega))) | fail)) <;> (try clear zz)
    refine ⟨(sv,k + 1),by dsimp only; omega,⟨by dsimp only; omega,by omega,?_,?_,?_,?_,hnext n2,?_,fun y hy=>?_⟩,ag0⟩
    · rw [aa (by omega),aa (by omega),g0]
    · rw [aa (by omega),aa (by omega),g1]
    · rw [aa (by omega),aa (by omega),g2]
    · rw [aa (by omega),aa (by omega),g3]
    · dsimp only
      rw [hcomb]
      simp only [Option.toList,List.append_nil]
      exact hrow.same fun y hy=>by have:=hbd y hy; rw [aa (by omega),aa (by omega)]
    · have:=hbd y hy; omega
  rw [if_pos hmem] at hfi
  have hf:bC b c.inp=some (b.cases.getD (f7 b c.inp) default):=by unfold bC; rw [if_pos hmem]
  have hq:=kZ hmem
  have iq:=aX hq
  have hsd:=hb _ (ai hq)
  obtain ⟨n1,n2,n3⟩:=fg (F:=aY) hf
  generalize b.cases.getD (f7 b c.inp) default=d at *
  generalize f7 b c.inp=q at *
  have h4:=el (f:=0) hqc
  have f1:=qU c.out d.out hqc.1 hsc.2.2.1 hsd.2.1 hsd.2.2.1
  have f2:=qU (ax c 0) (ax d 0) h4 (bJ hsc) (jH hsd) (bJ hsd)
  have hv1:=e7 c 0
  have hv2:=e7 d 0
  have dc:=cT c
  have dd:=cT d
  unfold bv at dc dd
  have hX1:(aY c.out d.out).length ≤ 100000:=Nat.le_trans dB hqc.1
  have hY1:(aY (ax c 0) (ax d 0)).length ≤ 100000:=Nat.le_trans dB h4
  have hmd:=la c.inp (aY c.out d.out) (aY (ax c 0) (ax d 0)) (show _ ≤ _ by omega) (show _ ≤ _ by omega) (fun v hv=>hsc.2.2.1 v (d9.1 hv).1) (fun v hv=>bJ hsc v (d9.1 hv).1)
  have hmi:(bM c.inp (aY c.out d.out) (aY (ax c 0) (ax d 0))).inp=c.inp∧(bM c.inp (aY c.out d.out) (aY (ax c 0) (ax d 0))).out=aY c.out d.out:=⟨rfl,rfl⟩
  rw [n1] at hcomb
  generalize bM c.inp (aY c.out d.out) (aY (ax c 0) (ax d 0))=M at *
  generalize aY c.out d.out=X at *
  generalize aY (ax c 0) (ax d 0)=Y at *
  refine bz ?_
  refine bz ?_
  (have zz:=aI @g0 @ao; repeat' (first | apply a_n | refine zO ?_ | refine vY ?_ | (refine zGY ?_ ?_ <;> (intro _hg; try (exfalso; omega))) | fail)) <;> (try clear zz)
  refine bz ?_
  refine ce ?_
  refine bz ?_
  (have zz:=aI @g0 @ix; repeat' (first | apply a_n | refine zO ?_ | refine vY ?_ | refine alY ?_ | refine stY ?_ | fail)) <;> (try clear zz)
  refine bz ?_
  (have zz:=aI @g0 (aI @g1 (aI @ah (aI @ab @ix))); repeat' (first | apply a_n | refine zO ?_ | refine vY ?_ | refine cY ?_ (hp:=hfi) | fail)) <;> (try clear zz)
  refine bz ?_
  refine bz ?_
  (have zz:=and_self; repeat' (first | apply a_n | refine zO ?_ | refine vY ?_ | (refine zGY ?_ ?_ <;> (intro _hg; try (exfalso; omega))) | fail)) <;> (try clear zz)
  refine bz ?_
  (have zz:=aI @g1 @iq; repeat' (first | apply a_n | refine zO ?_ | refine vY ?_ | refine alY ?_ | refine stY ?_ | fail)) <;> (try clear zz)
  refine aJ (fun T' H' nx'=>T' 2=.ptr 0 4 0∧T' 3=.ptr 1 4 0∧T' 4=.ptr 2 4 0∧T' 7=.ptr 3 4 0∧T' 8=.int .i64 k∧T' 9=.ptr nx 3 0∧T' 12=ak X∧T' 13=ak Y∧nx'=nx + 2∧H' nx=some [aK c.inp,ak c.out,ak c.calm]∧∀ x,x < nx→H' x=H x) ?_ ?_
  · (have zz:=and_self; repeat' (first | refine zM ?_ | apply a_n | refine zO ?_ | refine vY ?_ | refine cY ?_ (hp:=by first | exact f1 | exact f2 | exact hv1 | exact hv2) | fail)) <;> (try clear zz)
    exact ⟨rfl,rfl,rfl,rfl,rfl,rfl,rfl,rfl,rfl,by rw [aa (by omega),aa (by omega),au]; rfl,fun x hx=>by rw [aa (by omega),aa (by omega),aa (by omega),aa (by omega)]⟩
  rintro T H2 _ ⟨t2,t3,t4,t7,t8,t9,t12,t13,rfl,g9,gs⟩
  have g0':=(gs 0 (by omega)).trans g0
  have g1':=(gs 1 (by omega)).trans g1
  have g2':=(gs 2 (by omega)).trans g2
  have g3':=(gs 3 (by omega)).trans g3
  by_cases hX:X.length=0
  · have z:decide ((X.length:Int)=0)=true:=decide_eq_true (by omega)
    rw [if_pos (.inr (hbad (by rw [n2,decide_eq_false (by omega)]; rfl)))]
    (have zz:=aI @t4 (aI @t12 (aI @t13 (aI @g2' @z))); repeat' (first | refine zW ?_ | apply a_n | apply a_r | refine zO ?_ | refine vY ?_ | refine stY ?_ | refine gFY ?_ | refine cTY ?_ | refine ae rfl ?_ | refine r2Y ?_ | fail)) <;> (try clear zz)
    all_goals exact dx _
  have zX:decide ((X.length:Int)=0)=false:=decide_eq_false (by omega)
  by_cases hY:Y.length=0
  · have z:decide ((Y.length:Int)=0)=true:=decide_eq_true (by omega)
    rw [if_pos (.inr (hbad (by rw [n2,decide_eq_false (p:=0 < Y.length) (by omega),Bool.and_false])))]
    (have zz:=aI @t4 (aI @t12 (aI @t13 (aI @g2' (aI @z @zX)))); repeat' (first | refine zW ?_ | apply a_n | apply a_r | refine zO ?_ | refine vY ?_ | refine stY ?_ | refine gTY ?_ | refine cTY ?_ | refine ae rfl ?_ | refine r2Y ?_ | fail)) <;> (try clear zz)
    all_goals exact dx _
  have zY:decide ((Y.length:Int)=0)=false:=decide_eq_false (by omega)
  refine bz ?_
  refine bz ?_
  (have zz:=aI @t12 (aI @t13 (aI @zX @zY)); repeat' (first | apply a_n | refine zO ?_ | refine vY ?_ | refine gTY ?_ | refine cFY ?_ | fail)) <;> (try clear zz)
  refine uK (gw 3 [.int .i64 a.n,.int .i64 (min a.ins b.ins),.int .i64 (min a.outs b.outs),sv] nx [aK c.inp,ak c.out,ak c.calm]) rfl (io g3' g9) ?_
  have hS2:gw 3 [.int .i64 a.n,.int .i64 (min a.ins b.ins),.int .i64 (min a.outs b.outs),sv] nx [aK c.inp,ak c.out,ak c.calm] 3=some [.int .i64 a.n,.int .i64 (min a.ins b.ins),.int .i64 (min a.outs b.outs),sv]:=if_pos rfl
  have hSn:gw 3 [.int .i64 a.n,.int .i64 (min a.ins b.ins),.int .i64 (min a.outs b.outs),sv] nx [aK c.inp,ak c.out,ak c.calm] nx=some [aK c.inp,ak c.out,ak c.calm]:=by unfold gw; rw [if_neg (by omega),if_pos rfl]
  generalize hSS:gw 3 [.int .i64 a.n,.int .i64 (min a.ins b.ins),.int .i64 (min a.outs b.outs),sv] nx [aK c.inp,ak c.out,ak c.calm]=S at hS2 hSn ⊢
  have hSub:∀ H',H' 3=some [.int .i64 a.n,.int .i64 (min a.ins b.ins),.int .i64 (min a.outs b.outs),sv]→H' nx=some [aK c.inp,ak c.out,ak c.calm]→Sub S H':=fun H' a1 a2=>by rw [← hSS]; exact io a1 a2
  (have zz:=aI @hS2 (aI @hSn (aI @t7 (aI @t9 (aI @t12 @t13)))); repeat' (first | apply a_n | refine zO ?_ | refine nvY ?_ | fail)) <;> (try clear zz)
  refine lN ?_
  refine dy (have zz:=aI @t7 (aI @t9 (aI @t12 @t13)); evZ) (have zz:=aI @t7 (aI @t9 (aI @t12 @t13)); evZ) hmd (aq (by (repeat' (first | exact ag | exact Dat.snap Dat.int | exact Dat.snap Dat.bool | exact Dat.snap Dat.str | exact Dat.snap Dat.esl | exact Dat.snap Dat.nilf | exact Dat.snap (bh _) | exact Dat.snap (aU _) | apply az | apply dM | apply dI | (apply dV; (focus ((try simp only [br,ZA,reduceEqDiff,↓reduceIte,reduceAdd,reduceLeDiff]); with_reducible rfl)); (focus rfl)))))) ?_
  refine rG ⟨hSub _ g3' g9,?_⟩
  refine lN ?_
  (have zz:=and_self; repeat' (first | apply a_n | refine zO ?_ | refine blY ?_ | fail)) <;> (try clear zz)
  refine ⟨hSub _ (by rw [aa (by omega)]; exact g3') (by rw [aa (by omega)]; exact g9),?_⟩
  (have zz:=aI @hS2 (aI @hSn (aI @t7 @t9)); repeat' (first | apply a_n | refine zO ?_ | apply p8 | fail)) <;> (try clear zz)
  refine gz rfl ev0 (hrow.same fun y hy=>?_) ev0 eZ rfl rfl (by omega) (by rw [hlen3]; omega) (by rw [hlen3]; omega) ?_
  · have:=hbd y hy
    rw [aa (by omega),gs y (by omega)]
  rintro s2 E e hrw hle1 hle2 hsm hb2
  have g3'':E 3=some [.int .i64 a.n,.int .i64 (min a.ins b.ins),.int .i64 (min a.outs b.outs),sv]:=(hsm 3 (by omega) (fun h=>by have:=hbd _ h; omega)).trans (by rw [aa (by omega)]; exact g3')
  obtain ⟨p1,p2⟩:=hrw.one
  have ub:∀ y,dZ s2=some y→4 ≤ y∧y < e:=fun y hy=>by
    rcases hb2 y hy with h | h
    · have:=hbd y h; omega
    · omega
  have hfr:∀ x,x < 3→E x=H2 x:=fun x hx=>(hsm x (by omega) (fun h=>by have:=hbd _ h; omega)).trans (by rw [aa (by omega)])
  (have zz:=aI @hS2 (aI @hSn (aI @t7 (aI @t8 (aI @t9 (aI @g3'' (aI @p1 @p2)))))); repeat' (first | apply a_n | refine zO ?_ | refine vY ?_ | refine nvY ?_ | apply p8 | refine stY ?_ | fail)) <;> (try clear zz)
  refine ⟨(s2,k + 1),by dsimp only; omega,⟨by dsimp only; omega,by omega,?_,?_,?_,?_,hnext (by rw [n2,decide_eq_true (by omega),decide_eq_true (by omega)]; rfl),?_,ub⟩,(have zz:=aI @t2 (aI @t3 (aI @t4 @t7)); agZ)⟩
  · rw [aa (by omega),hfr 0 (by omega),g0']
  · rw [aa (by omega),hfr 1 (by omega),g1']
  · rw [aa (by omega),hfr 2 (by omega),g2']
  · rw [au]; rfl
  · dsimp only
    rw [hcomb,ow]
    obtain ⟨i,o,cq⟩:=M
    obtain ⟨rfl,rfl⟩:=hmi
    refine Row.same (H:=E) (by simpa [List.c3,bv,AV.cells] using hrw) fun y hy=>?_
    have:=ub y hy
    rw [aa (by omega)]
end Go.Proofs.YtjgpfclngkcedaaGreat
namespace Go.Proofs.YtjgpfclngkcedaaGreat
open Go Go.Abs
def jx (l:List TaskV):AV:=.sl 4 (l.map bd)
theorem pT {l:List TaskV}:b9 (jx l)=some (.int .i64 l.length):=by simp [b9,jx]
theorem qe {l:List TaskV} {k:Nat} (h:k < l.length):fi 4 (jx l) (.int .i64 k)=some (.iptr [.int .i64 (l.getD k default).n,.int .i64 (l.getD k default).ins,.int .i64 (l.getD k default).outs,aF (l.getD k default).cases] 0):=by
  simp [fi,jx,h,List.getD,bd,AV.cells]
theorem ro {H:Hp} {b:Nat} {a c:TaskV} (hb:H b=some [.int .i64 a.n,.int .i64 a.ins,.int .i64 a.outs,aF a.cases,.int .i64 c.n,.int .i64 c.ins,.int .i64 c.outs,aF c.cases]):Snap H (.msl b 8 4 0 2) (jx [a,c]):=by
  have hr:Row H 4 (.msl b (2 * 4) 4 0 2) ([bd a,bd c].flatMap AV.cells):=Row.box b 2 _ (by simpa [bd,AV.cells] using hb) rfl
  refine Row.snap (elems:=[bd a,bd c]) hr (fun y hy=>?_) (by omega) (fun y hy d hd=>?_)
  · simp at hy; rcases hy with rfl | rfl <;> rfl
  · simp only [List.mem_cons,List.not_mem_nil,or_false] at hy
    rcases hy with rfl | rfl <;>
    · simp only [bd,AV.cells,List.mem_cons,List.not_mem_nil,or_false] at hd
      rcases hd with rfl | rfl | rfl | rfl
      · exact .int
      · exact .int
      · exact .int
      · exact d8 _
def Ok (t:TaskV):Prop:=Sh t.cases∧∀ c ∈ t.cases,ShC c
attribute [local irreducible] aA af aV aQ aE aL ay aM aR ba Go.Abs.Fn aO Go.Abs.Pure ap aB Yl
theorem uS (l:List TaskV) (hl:l.length ≤ 100) (hs:∀ t ∈ l,Ok t):Pure Tryz.prog 11 [jx l] (.bool (l.all iG)):=by
  refine Pure.of_c2 follows Ay (Nat.le_of_ble_eq_true rfl) ?_
  simp only [b11,cO,cG,cN,cM,cD,cF,cB,aw,aG]
  have one:(jx l).one=true:=rfl
  (have zz:=@pT; repeat' (first | refine zW ?_ | apply a_n | refine zO ?_ | refine vY ?_ | fail)) <;> (try clear zz)
  refine be (X:=Nat) (fun k=>[(0,jx l),(5,jx l),(6,.int .i64 l.length),(7,.int .i64 k)]) (fun k H nx=>k ≤ l.length∧∀ i,i < k→iG (l.getD i default)=true) (fun k=>l.length - k) 0 ⟨Nat.zero_le _,fun i h=>absurd h (by omega)⟩ ag0 ?_
  rintro k H nx ⟨hk,hz⟩
  by_cases hk2:k < l.length
  rotate_left
  · (have zz:=and_self; repeat' (first | refine zW ?_ | apply a_n | apply a_x | refine zO ?_ | refine vY ?_ | (refine zGY ?_ ?_ <;> (intro _hg; try (exfalso; omega))) | refine ae rfl ?_ | refine r1Y ?_ | fail)) <;> (try clear zz)
    rw [lY fun i hi=>hz i (by omega)]
    exact .bool _
  have ix:=qe hk2
  obtain ⟨s1,s2⟩:=hs _ (ai hk2)
  have hf:=AC (l.getD k default) s2 s1
  have hbad:iG (l.getD k default)=false→l.all iG=false:=fun h=>fO hk2 h
  have hnext:iG (l.getD k default)=true→∀ i,i < k + 1→iG (l.getD i default)=true:=fun h i hi=>by
    rcases Nat.lt_succ_iff_lt_or_eq.1 hi with h' | rfl
    · exact hz i h'
    · exact h
  have d1:=bu (l.getD k default)
  generalize l.getD k default=t at *
  unfold bd at hf d1
  cases hb:iG t
  · rw [hb] at hf
    rw [hbad hb]
    (have zz:=aI @ix (aI @ah @ab); repeat' (first | refine zW ?_ | apply a_n | apply a_r | refine zO ?_ | refine vY ?_ | refine cY ?_ (hp:=hf) | refine alY ?_ | refine stY ?_ | refine cTY ?_ | (refine zGY ?_ ?_ <;> (intro _hg; try (exfalso; omega))) | refine ae rfl ?_ | refine r1Y ?_ | fail)) <;> (try clear zz)
    exact .bool _
  · rw [hb] at hf
    (have zz:=aI @ix (aI @ah @ab); repeat' (first | refine zW ?_ | apply a_n | refine zO ?_ | refine vY ?_ | refine cY ?_ (hp:=hf) | refine alY ?_ | refine stY ?_ | refine cFY ?_ | (refine zGY ?_ ?_ <;> (intro _hg; try (exfalso; omega))) | fail)) <;> (try clear zz)
    exact ⟨k + 1,by omega,⟨by omega,hnext hb⟩,ag0⟩
theorem oF (a b:TaskV) (ha:Ok a) (hb:Ok b):Pure Tryz.prog 4 [bd a,bd b] (.bool true):=by
  refine Pure.of_c2 follows is4 (Nat.le_of_ble_eq_true rfl) ?_
  simp only [b4,cO,cG,cN,cM,cD,cF,cB,aw,aG]
  have haw:=vP
  have hfw:=uS [a,b] (by simp) (by simp; exact ⟨ha,hb⟩)
  have d1:=bu a
  have d2:=bu b
  cases hF:[a,b].all iG
  · rw [hF] at hfw
    unfold bd at d1 d2
    rw [show bd a=.agg [.int .i64 a.n,.int .i64 a.ins,.int .i64 a.outs,aF a.cases] from rfl,show bd b=.agg [.int .i64 b.n,.int .i64 b.ins,.int .i64 b.outs,aF b.cases] from rfl]
    (have zz:=aI @ah @ab; repeat' (first | refine zW ?_ | apply a_n | refine zO ?_ | refine vZ ?_ | refine bxZ ?_ | refine blZ ?_ | fail)) <;> (try clear zz)
    refine dy ev0 ev0 hfw (aj (az (ro au) ag) rfl) ?_
    (have zz:=aI @ah @ab; repeat' (first | refine zW ?_ | apply a_n | apply a_r | refine zO ?_ | refine vZ ?_ | refine cZ ?_ (hp:=haw) | refine cTZ ?_ | refine ae rfl ?_ | refine r1Z ?_ | fail)) <;> (try clear zz)
    exact .bool _
  rw [hF] at hfw
  have hfa:iG a=true∧iG b=true:=by simpa using hF
  have fa:=(Fit30.of hfa.1).four
  have fb:=(Fit30.of hfa.2).four
  have c1:=x7 a b fa.fit.sh fa.fit.len fb.fit.sh fb.fit.sh2 fa.fit.q
  have c2:=zr a b fa.fit.sh fa.fit.len fb.fit.sh fb.fit.sh2 fa.fit.q
  have c3:=xA a b fa fb
  have c4:=y9 a b fa fb
  have hm:Ok (eL a b).1:=by
    unfold eL
    split
    · exact n5
    · split
      · exact n5
      · refine ⟨show (bB aY b a.cases).length ≤ _ from Nat.le_trans d7 (by have:=fa.fit.len; omega),fun x hx=>?_⟩
        obtain ⟨c,hc,d,hd,rfl⟩:=ed hx
        have h1:=fa.fit.sh c hc
        have h2:=fa.fit.q c hc
        have h3:=fa.fit.qa hc (f:=0)
        exact gX h1.1 (Nat.le_trans dB (by omega)) (fun v hv=>h1.2.2.1 v (d9.1 hv).1) (Nat.le_trans dB (by omega)) (fun v hv=>h3.2 v (d9.1 hv).1)
  have hj:Ok (eJ a b).1:=by
    unfold eJ
    split
    · exact n5
    · split
      · exact n5
      · refine ⟨show (gA KC (dv a b)).length ≤ _ by rw [nr]; have:=m8 (a:=a) (b:=b); have:=fa.fit.len; have:=fb.fit.len; omega,fun x hx=>?_⟩
        exact pM fa fb x ((dD _).mem_iff.1 hx)
  have e1:=uu (eL a b).1 hm.1 hm.2
  have e2:=uu (eJ a b).1 hj.1 hj.2
  generalize eL a b=X at *
  generalize eJ a b=Y at *
  have dX:=bu X.1
  have dY:=bu Y.1
  have z1:decide (X.2=X.2)=true:=decide_eq_true rfl
  have z2:decide (Y.2=Y.2)=true:=decide_eq_true rfl
  unfold bd at d1 d2 c1 c2 c3 c4 dX dY e1 e2
  rw [show bd a=.agg [.int .i64 a.n,.int .i64 a.ins,.int .i64 a.outs,aF a.cases] from rfl,show bd b=.agg [.int .i64 b.n,.int .i64 b.ins,.int .i64 b.outs,aF b.cases] from rfl]
  (have zz:=aI @ah @ab; repeat' (first | refine zW ?_ | apply a_n | refine zO ?_ | refine vZ ?_ | refine bxZ ?_ | refine blZ ?_ | fail)) <;> (try clear zz)
  refine dy ev0 ev0 hfw (aj (az (ro au) ag) rfl) ?_
  (have zz:=aI @ah (aI @ab (aI @z1 @z2)); repeat' (first | refine zW ?_ | apply a_n | refine zO ?_ | refine vZ ?_ | refine cZ ?_ (hp:=by first | exact haw | exact c1 | exact c2 | exact c3 | exact c4 | exact e1 | exact e2) | refine alZ ?_ | refine stZ ?_ | refine gTZ ?_ | (refine zGZ ?_ ?_ <;> (intro _hg; try (exfalso; omega))) | refine cFZ ?_ | refine ae rfl ?_ | refine r1Z ?_ | fail)) <;> (try clear zz)
  all_goals exact .bool _
end Go.Proofs.YtjgpfclngkcedaaGreat
namespace Go.Proofs.YtjgpfclngkcedaaGreat
open Go Go.Abs Go.RowKit
section
variable {H:Type} {enc:TypeId × Value→H} {W:World}
theorem oi:db enc Tryz.prog W 3 (AV.int .i64) (fun n=>(Lit.int .i64 n).wf=true):=sK Tryz.underlying3
theorem oL1:db enc Tryz.prog W 27 aK Sh :=
  (gR Tryz.underlying27 (sz:=1) (by_:=8) (by kernel_rfl) (by kernel_rfl) Nat.one_pos (fun _=>rfl) oi).mono fun l h=>by have:=h.2.2; show _ ≤ _; omega
theorem oL2:db enc Tryz.prog W 41 ak (fun l=>Sh l∧∀ x ∈ l,Sh x) :=
  (gR Tryz.underlying41 (sz:=1) (by_:=24) (by kernel_rfl) (by kernel_rfl) Nat.one_pos (fun _=>rfl) oL1).mono fun l h=>⟨by have:=h.2.2; show _ ≤ _; omega,h.1⟩
set_option maxRecDepth 100000 in
theorem Ab:db enc Tryz.prog W 57 bv ShC :=
  (jr Tryz.underlying57 (by kernel_rfl) (cQ (off:=0) (off':=1) rfl (by kernel_rfl) oL1 (cQ (off:=1) (off':=2) rfl (by kernel_rfl) oL2 (cQ (off:=2) (off':=3) rfl (by kernel_rfl) oL2 mv)))).map
    (fun a=>(⟨a.1,a.2.1,a.2.2.1⟩:CaseV)) (by
      rintro ⟨i,o,c,u⟩ ⟨h1,h2,h3,_⟩
      exact ⟨h1,h2.1,h2.2,h3.1,h3.2⟩) (fun _ _=>rfl)
theorem xx:db enc Tryz.prog W 22 aF (fun l=>Sh l∧∀ c ∈ l,ShC c) :=
  (gR Tryz.underlying22 (sz:=3) (by_:=72) (by kernel_rfl) (by kernel_rfl) (by omega) (fun _=>rfl) Ab).mono fun l h=>⟨by have:=h.2.2; show _ ≤ _; omega,h.1⟩
set_option maxRecDepth 100000 in
theorem wB:db enc Tryz.prog W 24 bd (fun t=>Sh t.cases∧∀ c ∈ t.cases,ShC c) :=
  (jr Tryz.underlying24 (by kernel_rfl) (cQ (off:=0) (off':=1) rfl (by kernel_rfl) oi (cQ (off:=1) (off':=2) rfl (by kernel_rfl) oi (cQ (off:=2) (off':=3) rfl (by kernel_rfl) oi (cQ (off:=3) (off':=4) rfl (by kernel_rfl) xx mv))))).map
    (fun a=>(⟨a.1,a.2.1,a.2.2.1,a.2.2.2.1⟩:TaskV)) (by
      rintro ⟨n,i,o,c,u⟩ ⟨_,_,_,h,_⟩
      exact h) (fun _ _=>rfl)
end
theorem mA {f:FuncId} {xs:List AV} {vs:List Value} (h:Go.Abs.Pure Tryz.prog f xs (.bool true)) (w:World) (hv:bP (E0 (nP w)) w xs vs) :
    Calls Tryz.prog f vs.toArray w fun e w'=>e=.returned (.bool true)∧Below w.heap.size w w':=by
  refine (h.2 (nP w) w vs (fun _ h=>h) hv).mono ?_
  rintro e w' ⟨v,imm',rfl,hb,_,_,_,hr⟩
  cases hr
  exact ⟨rfl,hb⟩
theorem AY:laidOutB Tryz.prog=true:=by kernel_rfl
end Go.Proofs.YtjgpfclngkcedaaGreat
namespace Go.Proofs.YtjgpfclngkcedaaGreat
open Go Go.Abs Go.RowKit Go.ChangeShapes Go.WideShapes Go.ChangeAt
theorem mM {H:Type} {enc:TypeId × Value→H} {P:Program} {f:Func} {s:ChangeSpec} {apart fresh handsOn again:Bool} {W W':World} {args:Array Value} {v:Value} {ds gs:List (DataW H)} {before pa pv:List MemPlace}
    (hW:DataW.Whole enc P f.params.toList s.vars apart W args.toList ds gs before)
    (hres:∀ (b:Nat) (sp:Nat→Bool) (hd:Bool),DataW.TrodAll enc P W' b sp hd f.resultTypes.toList (v.resultList f.resultTypes.size) (s.fn H (ds ++ gs)).results [])
    (hargs:∀ sp:Nat→Bool,(∀ p ∈ before,sp p.block=true)→DataW.TrodAll enc P W' 0 sp true f.params.toList args.toList (s.fn H (ds ++ gs)).args pa)
    (hvars:∀ sp:Nat→Bool,(∀ p ∈ before,sp p.block=true)→DataW.TrodVars enc P W' sp s.vars (s.fn H (ds ++ gs)).vars pv)
    (hps:before=pa ++ pv) (hb:Below W.heap.size W W')
    (hok:∀ (j:Nat) (t:TypeId) (r:Value),f.resultTypes[j]?=some t→(v.resultList f.resultTypes.size)[j]?=some r→Value.okWide P W' .any 0 t r) :
    s.post enc P f apart fresh handsOn again W args v W':=by
  have hold:∀ p ∈ before,(fun b=>decide (b < W.heap.size)) p.block=true:=fun p hp=>by simpa using hW.lt p hp
  have hlt:=fun p hp=>hW.lt p hp
  refine ⟨ds,gs,before,[],pa,pv,hW,hres _ _ _,hargs _ hold,hvars _ hold,World.keptBut_mono (fun p hp=>⟨hp,?_⟩) (hb.frame _),fun _=>?_⟩
  · rw [hps,List.mem_append] at hp
    exact Or.inr hp
  · obtain ⟨_,_,_,_,_,hz,hn⟩:=hW
    refine ⟨hok,_,_,([] ++ pa) ++ pv,⟨[] ++ pa,pv,trodAll_append (hargs _ (fun _ _=>rfl)) (hres _ _ _),hvars _ (fun _ _=>rfl),rfl,?_,?_⟩,?_⟩
    · intro b off hp
      have hp':MemPlace.cell b off ∈ before:=by rw [hps]; simpa using hp
      rw [hb.frozen (hlt _ hp')]
      exact hz b off hp'
    · intro ha
      have:=hn ha
      rw [hps] at this
      simpa using this
    · intro p hp _
      rw [hps]
      simpa using hp
theorem uJ {E:Env} {w:World}:bP E w [] []:=⟨rfl,fun i x y h=>(by cases h)⟩
theorem ng {E:Env} {w:World} {x:AV} {y:Value} {xs:List AV} {ys:List Value} (h:Rel E w x y) (hs:bP E w xs ys):bP E w (x :: xs) (y :: ys):=by
  refine ⟨by simp [hs.1],fun i a b ha hb=>?_⟩
  cases i with
  | zero=>simp at ha hb; subst ha hb; exact h
  | succ i=>simp at ha hb; exact hs.2 i a b ha hb
theorem own:ownKnob Tryz.prog.godebug=none:=by kernel_rfl
end Go.Proofs.YtjgpfclngkcedaaGreat
