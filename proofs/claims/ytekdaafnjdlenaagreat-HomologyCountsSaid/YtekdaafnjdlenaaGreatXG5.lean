/- Texts of this claim, one after the other: U12s, U13s, U2p, U3p, U4p, U5p, U6p, U7p, U8p, U10p, U12p, U13p, T106, T109, T110, T111, T112, T113, T107, T114, T115, T116, T117, T119, T124, T125, T120, T123, T126, T127, T128, T135, T136, T137, T129, T130, T131, T138, T139, T140, T141, T142, T143, T163, T164, T132, T134, T160, T161, T122, T133, T162, T165, T220, T221, T222, T223, T224, T225, T226, T227, T228, T170, T172, T173, T151, T171, T146, T174, T175, T176. -/
import Derived.Test.YtekdaafnjdlenaaGreatXG4
import Derived.Test.YtekdaafnjdlenaaGreatXG3

set_option linter.unusedSimpArgs false
set_option linter.unusedVariables false
set_option maxHeartbeats 1000000
namespace Go.Proofs.YtekdaafnjdlenaaGreat
open Go Go.Abs
section
variable {α:Type} [Inhabited α] {f:α→AV} {K:α→α→Int} {G:α→Prop} {g:Nat} {caps:List AV}
attribute [local irreducible] aA ag a8 aQ aK aL ar aN aU bd Go.Abs.Fn aP Go.Abs.Pure an aG Yl
theorem GZ (hc:Cmp Tryz.prog f K G g caps) {b n:Nat} (hn2:n ≤ 1000000000):∀ (sz a e lim:Nat) (L:List α) (H:Hp) (nx:Nat),e - a < sz→H b=some (L.map f)→b < nx→L.length=n→(∀ x ∈ L,G x)→a ≤ e→e ≤ n→lim ≤ 64→rn K a e L →
    Abs.Fn Tryz.prog 155 [.msl b n 1 0 n,.int .i64 a,.int .i64 e,.int .i64 lim,.func g caps] H nx fun r H' nx'=>∃ L',PS H H' nx nx' b (L'.map f)∧PermR a e L L'∧bi K a e L':=by
 intro sz
 induction sz with
 | zero=>intro a e lim L H nx h; omega
 | succ sz ih =>
 intro a e lim L H nx hsz hH hbx hn hG hae hen hlim hlow;have dcap:=hc.dcaps;refine fO Dz ?_;simp only [D8,aJ];refine wnZ and_self ?_;refine bR (X:=Nat × Nat × Nat × Bool × Bool × List α) (fun x=>[(0,.msl b n 1 0 n),(1,.int .i64 (x.1:Nat)),(2,.int .i64 (x.2.1:Nat)),(3,.int .i64 (x.2.2.1:Nat)),(4,.func g caps),(10,.bool x.2.2.2.1),(11,.bool x.2.2.2.2.1)]) (fun x H' nxx=>PI K a e L x.1 x.2.1 x.2.2.2.2.2∧PS H H' nx nxx b (x.2.2.2.2.2.map f)∧x.2.2.1 ≤ 64) (fun x=>x.2.1 - x.1) (a,e,lim,true,true,L) ⟨.start hae (by rw [hn]; exact hen) hlow,⟨hH,fun _ _ _=>rfl,aR _⟩,hlim⟩ ag0 ?_;clear hlim hlow lim;rintro ⟨a1,e1,lim,wb,wp,M⟩ H1 n1 ⟨hpi,hps,hlim⟩;dsimp only at *;have hlo:=hpi.lo; have hmid:=hpi.mid; have hhi:=hpi.hi;obtain ⟨l,hl0⟩:∃ l,e1 - a1=l:=⟨_,rfl⟩
 rw [hl0];have te:(e1:Int) - (a1:Int)=(l:Int):=by omega
 have hlen:∀ M:List α,PI K a e L a1 e1 M→M.length=n:=fun M h=>by rw [h.perm.len,hn]
 have hGA:∀ M:List α,PI K a e L a1 e1 M→∀ x ∈ M,G x:=fun M h=>h.perm.mem hG;have hbn:∀ (M:List α) (H1:Hp) (n1:Nat),PS H H1 nx n1 b (M.map f)→b < n1:=fun M H1 n1 h=>by have:=h.le; omega
 obtain ⟨T,hT,t0,t1,t2,t3,t4,t10,t11⟩:∃ T,tl [(0,.msl b n 1 0 n),(1,.int .i64 (a1:Nat)),(2,.int .i64 (e1:Nat)),(3,.int .i64 (lim:Nat)),(4,.func g caps),(10,.bool wb),(11,.bool wp)]=T∧T 0=.msl b n 1 0 n∧T 1=.int .i64 (a1:Nat)∧T 2=.int .i64 (e1:Nat)∧T 3=.int .i64 (lim:Nat)∧T 4=.func g caps∧T 10=.bool wb∧T 11=.bool wp:=⟨_,rfl,rfl,rfl,rfl,rfl,rfl,rfl,rfl⟩
 rw [hT];clear hT;refine jh ?_;refine b7 (fun T H'' nx''=>T 0=.msl b n 1 0 n∧T 1=.int .i64 (a1:Nat)∧T 2=.int .i64 (e1:Nat)∧T 3=.int .i64 (lim:Nat)∧T 4=.func g caps∧T 10=.bool wb∧T 11=.bool wp∧T 12=.int .i64 (l:Nat)∧H1=H''∧n1=nx'') ?_ ?_
 ·refine wnZ (zI8 @t0 @t1 @t2 @t3 @t4 @t10 @t11 @te) ?_;exact ⟨(have zz:=@t0; evZ),(have zz:=@t1; evZ),(have zz:=@t2; evZ),(have zz:=@t3; evZ),(have zz:=@t4; evZ),(have zz:=@t10; evZ),(have zz:=@t11; evZ),ev0,rfl,rfl⟩
 clear t0 t1 t2 t3 t4 t10 t11;rintro T _ _ ⟨t0,t1,t2,t3,t4,t10,t11,t12,rfl,rfl⟩;refine b7 (fun T H'' nx''=>T 0=.msl b n 1 0 n∧T 1=.int .i64 (a1:Nat)∧T 2=.int .i64 (e1:Nat)∧T 3=.int .i64 (lim:Nat)∧T 4=.func g caps∧T 10=.bool wb∧T 11=.bool wp∧T 12=.int .i64 (l:Nat)∧13 ≤ l∧H1=H''∧n1=nx'') ?_ ?_
 ·by_cases h12:l ≤ 12
  ·refine wnZ (zI8 @t0 @t1 @t2 @t3 @t4 @t10 @t11 @t12) ?_;refine bg ev0 (have zz:=aI @t0 (aI @t1 (aI @t2 (aI @t3 (aI @t4 (aI @t10 (aI @t11 @t12)))))); evZ) (Gf hc (b:=b) hps.at_ (hlen _ hpi) (hGA _ hpi) (a:=a1) (e:=e1) hmid (by omega) hn2) ?_;rintro _ _ _ ⟨rfl,N,rfl,hpN,hsN⟩;refine wnZ and_self ?_;exact ⟨N,hps.upd,hpi.done hpN hsN⟩
  ·refine wnZ (zI8 @t0 @t1 @t2 @t3 @t4 @t10 @t11 @t12) ?_;exact ⟨(have zz:=@t0; evZ),(have zz:=@t1; evZ),(have zz:=@t2; evZ),(have zz:=@t3; evZ),(have zz:=@t4; evZ),(have zz:=@t10; evZ),(have zz:=@t11; evZ),(have zz:=@t12; evZ),by omega,rfl,rfl⟩
 clear t0 t1 t2 t3 t4 t10 t11 t12;rintro T _ _ ⟨t0,t1,t2,t3,t4,t10,t11,t12,h13,rfl,rfl⟩;refine b7 (fun T H'' nx''=>T 0=.msl b n 1 0 n∧T 1=.int .i64 (a1:Nat)∧T 2=.int .i64 (e1:Nat)∧T 3=.int .i64 (lim:Nat)∧T 4=.func g caps∧T 10=.bool wb∧T 11=.bool wp∧T 12=.int .i64 (l:Nat)∧0 < lim∧H1=H''∧n1=nx'') ?_ ?_
 ·by_cases h12:lim=0
  ·subst h12;have tz:decide (((0:Nat):Int)=0)=true:=rfl;refine wnZ (zI9 @t0 @t1 @t2 @t3 @t4 @t10 @t11 @t12 @tz) ?_;refine bg ev0 (have zz:=aI @t0 (aI @t1 (aI @t2 (aI @t3 (aI @t4 (aI @t10 (aI @t11 @t12)))))); evZ) (DU hc (b:=b) hps.at_ (hlen _ hpi) (hGA _ hpi) (a:=a1) (e:=e1) hmid (by omega) hn2) ?_;rintro _ _ _ ⟨rfl,N,rfl,hpN,hsN⟩;refine wnZ and_self ?_;exact ⟨N,hps.upd,hpi.done hpN hsN⟩
  ·have tz:decide ((lim:Int)=0)=false:=aS (by omega);refine wnZ (zI9 @t0 @t1 @t2 @t3 @t4 @t10 @t11 @t12 @tz) ?_;exact ⟨(have zz:=@t0; evZ),(have zz:=@t1; evZ),(have zz:=@t2; evZ),(have zz:=@t3; evZ),(have zz:=@t4; evZ),(have zz:=@t10; evZ),(have zz:=@t11; evZ),(have zz:=@t12; evZ),by omega,rfl,rfl⟩
 clear t0 t1 t2 t3 t4 t10 t11 t12;rintro T _ _ ⟨t0,t1,t2,t3,t4,t10,t11,t12,hlim1,rfl,rfl⟩;refine b7 (fun T H'' nx''=>∃ (lim:Nat) (M:List α),lim ≤ 64∧PI K a e L a1 e1 M∧PS H H'' nx nx'' b (M.map f)∧T 0=.msl b n 1 0 n∧T 1=.int .i64 (a1:Nat)∧T 2=.int .i64 (e1:Nat)∧T 3=.int .i64 (lim:Nat)∧T 4=.func g caps∧T 10=.bool wb∧T 11=.bool wp∧T 12=.int .i64 (l:Nat)) ?_ ?_
 ·cases wb
  ·obtain ⟨k,rfl⟩:∃ k,lim=k + 1:=⟨lim - 1,by omega⟩
   have tk:((k + 1:Nat):Int) - 1=(k:Int):=by omega
   refine wnZ (zI8 @t0 @t1 @t2 @t3 @t4 @t10 @t11 @t12) ?_;refine bg ev0 (have zz:=aI @t0 (aI @t1 (aI @t2 (aI @t3 (aI @t4 (aI @t10 (aI @t11 @t12)))))); evZ) (CA hc (b:=b) hps.at_ (hbn _ _ _ hps) (hlen _ hpi) (a:=a1) (e:=e1) (by omega) (by omega) hn2) ?_;rintro _ _ _ ⟨rfl,N,hN1,hN2,hpN⟩;refine wnZ (zI9 @t0 @t1 @t2 @t3 @t4 @t10 @t11 @t12 @tk) ?_;exact ⟨k,N,by omega,hpi.swap hpN,hps.rec_ hN1 hN2 (Nat.le_succ _),(have zz:=@t0; evZ),(have zz:=@t1; evZ),(have zz:=@t2; evZ),(have zz:=@t3; evZ),(have zz:=@t4; evZ),(have zz:=@t10; evZ),(have zz:=@t11; evZ),(have zz:=@t12; evZ)⟩
  ·refine wnZ (zI8 @t0 @t1 @t2 @t3 @t4 @t10 @t11 @t12) ?_;exact ⟨lim,M,hlim,hpi,hps,(have zz:=@t0; evZ),(have zz:=@t1; evZ),(have zz:=@t2; evZ),(have zz:=@t3; evZ),(have zz:=@t4; evZ),(have zz:=@t10; evZ),(have zz:=@t11; evZ),(have zz:=@t12; evZ)⟩
 clear t0 t1 t2 t3 t4 t10 t11 t12 hpi hps hlim hlim1;rintro T H1 n1 ⟨lim,M,hlim,hpi,hps,t0,t1,t2,t3,t4,t10,t11,t12⟩;refine b7 (fun T H'' nx''=>∃ (p:Nat) (hint:Int),a1 ≤ p∧p < e1∧PS H H'' nx nx'' b (M.map f)∧T 0=.msl b n 1 0 n∧T 1=.int .i64 (a1:Nat)∧T 2=.int .i64 (e1:Nat)∧T 3=.int .i64 (lim:Nat)∧T 4=.func g caps∧T 10=.bool wb∧T 11=.bool wp∧T 12=.int .i64 (l:Nat)∧T 13=.int .i64 (p:Nat)∧T 14=.int .i64 hint) ?_ ?_
 ·refine wnZ (zI8 @t0 @t1 @t2 @t3 @t4 @t10 @t11 @t12) ?_;refine bg ev0 (have zz:=aI @t0 (aI @t1 (aI @t2 (aI @t3 (aI @t4 (aI @t10 (aI @t11 @t12)))))); evZ) (AP hc (b:=b) hps.at_ (hbn _ _ _ hps) (hlen _ hpi) (hGA _ hpi) (a:=a1) (e:=e1) (by omega) (by omega) hn2) ?_;rintro _ _ _ ⟨rfl,p,hint,v,rfl,hp1,hp2,rfl⟩;refine wnZ (zI8 @t0 @t1 @t2 @t3 @t4 @t10 @t11 @t12) ?_;exact ⟨p,hint,hp1,hp2,hps.new hbx,(have zz:=@t0; evZ),(have zz:=@t1; evZ),(have zz:=@t2; evZ),(have zz:=@t3; evZ),(have zz:=@t4; evZ),(have zz:=@t10; evZ),(have zz:=@t11; evZ),(have zz:=@t12; evZ),ev0,ev0⟩
 clear t0 t1 t2 t3 t4 t10 t11 t12 hps;rintro T H1 n1 ⟨p,hint,hp1,hp2,hps,t0,t1,t2,t3,t4,t10,t11,t12,t13,t14⟩;refine b7 (fun T H'' nx''=>∃ (p:Nat) (hint:Int) (M:List α),a1 ≤ p∧p < e1∧PI K a e L a1 e1 M∧PS H H'' nx nx'' b (M.map f)∧T 0=.msl b n 1 0 n∧T 1=.int .i64 (a1:Nat)∧T 2=.int .i64 (e1:Nat)∧T 3=.int .i64 (lim:Nat)∧T 4=.func g caps∧T 10=.bool wb∧T 11=.bool wp∧T 12=.int .i64 (l:Nat)∧T 13=.int .i64 (p:Nat)∧T 14=.int .i64 hint) ?_ ?_
 ·by_cases h2:hint=2
  ·subst h2;obtain ⟨p2,hp3⟩:∃ p2,e1 - 1 - (p - a1)=p2:=⟨_,rfl⟩
   have tp:(e1:Int) - 1 - ((p:Int) - (a1:Int))=(p2:Int):=by omega
   have tz:decide ((2:Int)=2)=true:=rfl;refine wnZ (aI @t0 (jX @t1 @t2 @t3 @t4 @t10 @t11 @t12 @t13 @t14 @tz)) ?_;refine bg ev0 (have zz:=aI @t0 (aI @t1 (aI @t2 (aI @t3 (aI @t4 (aI @t10 (aI @t11 @t12)))))); evZ) (FA hc (b:=b) hps.at_ (hlen _ hpi) (a:=a1) (e:=e1) (by omega) (by omega) hn2) ?_;rintro _ _ _ ⟨rfl,N,rfl,hpN⟩;refine wnZ (aI @t0 (jX @t1 @t2 @t3 @t4 @t10 @t11 @t12 @t13 @t14 @tp)) ?_;exact ⟨p2,1,N,by omega,by omega,hpi.swap hpN,hps.upd,(have zz:=@t0; evZ),(have zz:=@t1; evZ),(have zz:=@t2; evZ),(have zz:=@t3; evZ),(have zz:=@t4; evZ),(have zz:=@t10; evZ),(have zz:=@t11; evZ),(have zz:=@t12; evZ),ev0,ev0⟩
  ·have tz:decide (hint=2)=false:=aS h2;refine wnZ (aI @t0 (jX @t1 @t2 @t3 @t4 @t10 @t11 @t12 @t13 @t14 @tz)) ?_;exact ⟨p,hint,M,hp1,hp2,hpi,hps,(have zz:=@t0; evZ),(have zz:=@t1; evZ),(have zz:=@t2; evZ),(have zz:=@t3; evZ),(have zz:=@t4; evZ),(have zz:=@t10; evZ),(have zz:=@t11; evZ),(have zz:=@t12; evZ),(have zz:=@t13; evZ),(have zz:=@t14; evZ)⟩
 clear t0 t1 t2 t3 t4 t10 t11 t12 t13 t14 hps hpi hp1 hp2;rintro T H1 n1 ⟨p,hint,M,hp1,hp2,hpi,hps,t0,t1,t2,t3,t4,t10,t11,t12,t13,t14⟩;refine b7 (fun T H'' nx''=>∃ (M:List α),PI K a e L a1 e1 M∧PS H H'' nx nx'' b (M.map f)∧T 0=.msl b n 1 0 n∧T 1=.int .i64 (a1:Nat)∧T 2=.int .i64 (e1:Nat)∧T 3=.int .i64 (lim:Nat)∧T 4=.func g caps∧T 10=.bool wb∧T 11=.bool wp∧T 12=.int .i64 (l:Nat)∧T 13=.int .i64 (p:Nat)) ?_ ?_
 ·cases wb
  ·cases wp
   ·refine wnZ (jX @t0 @t1 @t2 @t3 @t4 @t10 @t11 @t12 @t13 @t14) ?_;exact ⟨M,hpi,hps,(have zz:=@t0; evZ),(have zz:=@t1; evZ),(have zz:=@t2; evZ),(have zz:=@t3; evZ),(have zz:=@t4; evZ),(have zz:=@t10; evZ),(have zz:=@t11; evZ),(have zz:=@t12; evZ),(have zz:=@t13; evZ)⟩
   ·refine wnZ (jX @t0 @t1 @t2 @t3 @t4 @t10 @t11 @t12 @t13 @t14) ?_;exact ⟨M,hpi,hps,(have zz:=@t0; evZ),(have zz:=@t1; evZ),(have zz:=@t2; evZ),(have zz:=@t3; evZ),(have zz:=@t4; evZ),(have zz:=@t10; evZ),(have zz:=@t11; evZ),(have zz:=@t12; evZ),(have zz:=@t13; evZ)⟩
  ·cases wp
   ·refine wnZ (jX @t0 @t1 @t2 @t3 @t4 @t10 @t11 @t12 @t13 @t14) ?_;exact ⟨M,hpi,hps,(have zz:=@t0; evZ),(have zz:=@t1; evZ),(have zz:=@t2; evZ),(have zz:=@t3; evZ),(have zz:=@t4; evZ),(have zz:=@t10; evZ),(have zz:=@t11; evZ),(have zz:=@t12; evZ),(have zz:=@t13; evZ)⟩
   ·by_cases h1:hint=1
    ·subst h1;have tz:decide ((1:Int)=1)=true:=rfl;refine wnZ (aI @t0 (jX @t1 @t2 @t3 @t4 @t10 @t11 @t12 @t13 @t14 @tz)) ?_;refine bg ev0 (have zz:=aI @t0 (aI @t1 (aI @t2 (aI @t3 (aI @t4 (aI @t10 (aI @t11 @t12)))))); evZ) (zJ hc (b:=b) hps.at_ (hlen _ hpi) (hGA _ hpi) (a:=a1) (e:=e1) (by omega) (by omega) hn2 hpi.low) ?_;rintro _ _ _ ⟨rfl,N,t,rfl,rfl,hpN,hsN⟩;cases t
     ·refine wnZ (jX @t0 @t1 @t2 @t3 @t4 @t10 @t11 @t12 @t13 @t14) ?_;exact ⟨N,hpi.swap hpN,hps.upd,(have zz:=@t0; evZ),(have zz:=@t1; evZ),(have zz:=@t2; evZ),(have zz:=@t3; evZ),(have zz:=@t4; evZ),(have zz:=@t10; evZ),(have zz:=@t11; evZ),(have zz:=@t12; evZ),(have zz:=@t13; evZ)⟩
     ·refine wnZ (jX @t0 @t1 @t2 @t3 @t4 @t10 @t11 @t12 @t13 @t14) ?_;exact ⟨N,hps.upd,hpi.done hpN (hsN rfl)⟩
    ·have tz:decide (hint=1)=false:=aS h1;refine wnZ (aI @t0 (jX @t1 @t2 @t3 @t4 @t10 @t11 @t12 @t13 @t14 @tz)) ?_;exact ⟨M,hpi,hps,(have zz:=@t0; evZ),(have zz:=@t1; evZ),(have zz:=@t2; evZ),(have zz:=@t3; evZ),(have zz:=@t4; evZ),(have zz:=@t10; evZ),(have zz:=@t11; evZ),(have zz:=@t12; evZ),(have zz:=@t13; evZ)⟩
 clear t0 t1 t2 t3 t4 t10 t11 t12 t13 t14 hps hpi hint;rintro T H1 n1 ⟨M,hpi,hps,t0,t1,t2,t3,t4,t10,t11,t12,t13⟩;have hbb:=hps.at_;have hl:=hlen _ hpi;have hGM:=hGA _ hpi;refine b7 (fun T H'' nx''=>T 0=.msl b n 1 0 n∧T 1=.int .i64 (a1:Nat)∧T 2=.int .i64 (e1:Nat)∧T 3=.int .i64 (lim:Nat)∧T 4=.func g caps∧T 10=.bool wb∧T 11=.bool wp∧T 12=.int .i64 (l:Nat)∧T 13=.int .i64 (p:Nat)∧H1=H''∧n1=nx'') ?_ ?_
 ·by_cases ha0:a1=0
  ·have tz:decide ((0:Int) < (a1:Int))=false:=aS (by omega);refine wkZ (jX @t0 @t1 @t2 @t3 @t4 @t10 @t11 @t12 @t13 @tz) ?_;exact ⟨(have zz:=@t0; evZ),(have zz:=@t1; evZ),(have zz:=@t2; evZ),(have zz:=@t3; evZ),(have zz:=@t4; evZ),(have zz:=@t10; evZ),(have zz:=@t11; evZ),(have zz:=@t12; evZ),(have zz:=@t13; evZ),rfl,rfl⟩
  have tz:decide ((0:Int) < (a1:Int))=true:=aX (by omega);obtain ⟨k,hk⟩:∃ k,a1 - 1=k:=⟨_,rfl⟩
  have tk:(a1:Int) - 1=(k:Int):=by omega
  have lc:=hc.run (M.getD k default) (M.getD p default) (hGM _ (bf (by omega))) (hGM _ (bf (by omega)));have d1:=hc.dat (M.getD k default);have d2:=hc.dat (M.getD p default);generalize hKK:K (M.getD k default) (M.getD p default)=kk at lc;by_cases hlt:kk < 0
  ·have zz:=aI @t0 (aI @t1 (aI @t2 (aI @t3 (aI @t4 (aI @t10 (aI @t11 (aI @t12 (aI @t13 (aI @tz (aI @tk (aI @hbb (aI @cm (aI hc.cells hc.one))))))))))))); repeat' (first|refine zW ?_|refine zM ?_|apply a_n|refine zO ?_|refine vZ ?_|refine cZ ?_ (hp:=lc) (hs:=by (first | refine aH ?_ rfl | apply aW); (repeat' (first | exact ao | apply br | apply aY | exact d1 | exact d2 | exact a7 dcap)); first | done | fail)|refine gTZ ?_|(refine zGZ ?_ ?_ <;> (intro _hg; try (exfalso; omega)))|fail)
   exact ⟨(have zz:=@t0; evZ),(have zz:=@t1; evZ),(have zz:=@t2; evZ),(have zz:=@t3; evZ),(have zz:=@t4; evZ),(have zz:=@t10; evZ),(have zz:=@t11; evZ),(have zz:=@t12; evZ),(have zz:=@t13; evZ),rfl,rfl⟩
  ·have zz:=aI @t0 (aI @t1 (aI @t2 (aI @t3 (aI @t4 (aI @t10 (aI @t11 (aI @t12 (aI @t13 (aI @tz (aI @tk (aI @hbb (aI @cm (aI hc.cells hc.one))))))))))))); repeat' (first|refine zW ?_|refine zM ?_|apply a_n|refine zO ?_|refine vZ ?_|refine cZ ?_ (hp:=lc) (hs:=by (first | refine aH ?_ rfl | apply aW); (repeat' (first | exact ao | apply br | apply aY | exact d1 | exact d2 | exact a7 dcap)); first | done | fail)|refine gTZ ?_|(refine zGZ ?_ ?_ <;> (intro _hg; try (exfalso; omega)))|fail)
   refine bg ev0 (have zz:=aI @t0 (aI @t1 (aI @t2 (aI @t3 (aI @t4 (aI @t10 (aI @t11 (aI @t12 @t13))))))); evZ) (BS hc (b:=b) hps.at_ (hlen _ hpi) (hGA _ hpi) (a:=a1) (e:=e1) (pv:=p) (by omega) (by omega) hn2 ⟨hp1,hp2⟩) ?_;rintro _ _ _ ⟨rfl,N,m,rfl,hm1,hm2,rfl,hpN,q1,q2⟩;refine wnZ (zI9 @t0 @t1 @t2 @t3 @t4 @t10 @t11 @t12 @t13) ?_;exact ⟨(m,e1,lim,wb,wp,N),by dsimp only; omega,⟨hpi.equal hc.ord hpN (by rw [hk,hKK]; exact hlt) (by omega) ⟨hm1,hm2⟩ q1 q2,hps.upd,hlim⟩,(have zz:=aI @t0 (aI @t1 (aI @t2 (aI @t3 (aI @t4 (aI @t10 (aI @t11 @t12)))))); agZ)⟩
 clear t0 t1 t2 t3 t4 t10 t11 t12 t13;rintro T _ _ ⟨t0,t1,t2,t3,t4,t10,t11,t12,t13,rfl,rfl⟩;refine b7 (fun T H'' nx''=>∃ (M:List α) (m:Nat) (t:Bool),PI K a e L a1 e1 M∧TwoS K a1 e1 m M∧PS H H'' nx nx'' b (M.map f)∧T 0=.msl b n 1 0 n∧T 1=.int .i64 (a1:Nat)∧T 2=.int .i64 (e1:Nat)∧T 3=.int .i64 (lim:Nat)∧T 4=.func g caps∧T 10=.bool wb∧T 11=.bool wp∧T 12=.int .i64 (l:Nat)∧T 16=.int .i64 (m:Nat)∧T 17=.bool t) ?_ ?_
 ·refine wnZ (zI9 @t0 @t1 @t2 @t3 @t4 @t10 @t11 @t12 @t13) ?_;refine bg ev0 (have zz:=aI @t0 (aI @t1 (aI @t2 (aI @t3 (aI @t4 (aI @t10 (aI @t11 (aI @t12 @t13))))))); evZ) (Ek hc (b:=b) hps.at_ (hlen _ hpi) (hGA _ hpi) (a:=a1) (e:=e1) (pv:=p) (by omega) (by omega) hn2 ⟨hp1,hp2⟩) ?_;rintro _ _ _ ⟨rfl,N,m,t,rfl,hm1,hm2,rfl,hpN,q1,q2⟩;refine wnZ (zI9 @t0 @t1 @t2 @t3 @t4 @t10 @t11 @t12 @t13) ?_;exact ⟨N,m,t,hpi.swap hpN,⟨⟨hm1,hm2⟩,fun p k1 k2=>hc.ord.asym _ _ (q1 p k1 k2),q2⟩,hps.upd,(have zz:=@t0; evZ),(have zz:=@t1; evZ),(have zz:=@t2; evZ),(have zz:=@t3; evZ),(have zz:=@t4; evZ),(have zz:=@t10; evZ),(have zz:=@t11; evZ),(have zz:=@t12; evZ),ev0,ev0⟩
 clear t0 t1 t2 t3 t4 t10 t11 t12 t13 hbb hl hGM hpi hps hp1 hp2 p;rintro T H1 n1 ⟨M,m,t,hpi,hts,hps,t0,t1,t2,t3,t4,t10,t11,t12,t16,t17⟩;have hm:=hts.mid;have hl:=hlen _ hpi
 have tq:bc .quo false false (.int .i64 (l:Int)) (.int .i64 8)=some (.int .i64 ((l / 8:Nat):Int)):=by
  rw [oV (by omega) (by omega) (by omega)]
  congr 2
 have tm:(m:Int) + 1=((m + 1:Nat):Int):=by omega
 by_cases hlr:(m:Int) - (a1:Int) < (e1:Int) - (m:Int)
 ·have tz:decide ((m:Int) - (a1:Int) < (e1:Int) - (m:Int))=true:=aX hlr;refine wnZ (aI @t0 (aI @t1 (jX @t2 @t3 @t4 @t10 @t11 @t12 @t16 @t17 @tq @tz))) ?_;refine bg ev0 (have zz:=aI @t0 (aI @t1 (aI @t2 (aI @t3 (aI @t4 (aI @t10 (aI @t11 (aI @t12 (aI @t16 @t17)))))))); evZ) (ih a1 m lim M H1 n1 (by omega) hps.at_ (hbn _ _ _ hps) hl (hGA _ hpi) (by omega) (by omega) hlim (hpi.low.sub rfl (by omega))) ?_;rintro _ H2 n2 ⟨N,hps2,hpN,hsN⟩;refine wnZ (aI @t0 (jX @t1 @t2 @t3 @t4 @t10 @t11 @t12 @t16 @t17 @tm)) ?_;exact ⟨(m + 1,e1,lim,decide (((l / 8:Nat):Int) ≤ (m:Int) - (a1:Int)),t,N),by dsimp only; omega,⟨hpi.left hc.ord hts hpN hsN,hps.rec_ hps2.at_ hps2.fr hps2.le,hlim⟩,(have zz:=aI @t0 (aI @t1 (aI @t2 (aI @t3 (aI @t4 (aI @t10 (aI @t11 (aI @t12 (aI @t16 @t17)))))))); agZ)⟩
 ·have tz:decide ((m:Int) - (a1:Int) < (e1:Int) - (m:Int))=false:=aS hlr;refine wnZ (aI @t0 (aI @t1 (aI @t2 (jX @t3 @t4 @t10 @t11 @t12 @t16 @t17 @tq @tz @tm)))) ?_;refine bg ev0 (have zz:=aI @t0 (aI @t1 (aI @t2 (aI @t3 (aI @t4 (aI @t10 (aI @t11 (aI @t12 (aI @t16 @t17)))))))); evZ) (ih (m + 1) e1 lim M H1 n1 (by omega) hps.at_ (hbn _ _ _ hps) hl (hGA _ hpi) (by omega) (by omega) hlim (fun q k0 k1 k2=>by rw [rc]; exact hts.ge q k1 k2)) ?_;rintro _ H2 n2 ⟨N,hps2,hpN,hsN⟩;refine wnZ (jX @t0 @t1 @t2 @t3 @t4 @t10 @t11 @t12 @t16 @t17) ?_;exact ⟨(a1,m,lim,decide (((l / 8:Nat):Int) ≤ (e1:Int) - (m:Int)),t,N),by dsimp only; omega,⟨hpi.right hc.ord hts hpN hsN,hps.rec_ hps2.at_ hps2.fr hps2.le,hlim⟩,(have zz:=aI @t0 (aI @t1 (aI @t2 (aI @t3 (aI @t4 (aI @t10 (aI @t11 (aI @t12 (aI @t16 @t17)))))))); agZ)⟩
end
end Go.Proofs.YtekdaafnjdlenaaGreat
namespace Go.Proofs.YtekdaafnjdlenaaGreat
open Go Go.Abs
open Nat (reduceEqDiff reduceAdd reduceLeDiff)
section
variable {α:Type} [Inhabited α] {f:α→AV} {K:α→α→Int} {G:α→Prop} {g:Nat} {caps:List AV}
attribute [local irreducible] aA ag a8 aQ aK aL ar aN aU bd Go.Abs.Fn aP Go.Abs.Pure an aG Yl
set_option maxRecDepth 100000 in
theorem Cj {H:Hp} {nx:Nat}:Abs.Fn Tryz.prog 175 [.int .u64 0] H nx fun r H' nx'=>nx'=nx∧H'=H∧r=.int .i64 0:=by
 refine fO Dp ?_;simp only [DB,aJ];generalize hT:AV.str (ByteArray.mk (Array.mk [0,1,2,2,3,3,3,3,4,4,4,4,4,4,4,4,5,5,5,5,5,5,5,5,5,5,5,5,5,5,5,5,6,6,6,6,6,6,6,6,6,6,6,6,6,6,6,6,6,6,6,6,6,6,6,6,6,6,6,6,6,6,6,6,7,7,7,7,7,7,7,7,7,7,7,7,7,7,7,7,7,7,7,7,7,7,7,7,7,7,7,7,7,7,7,7,7,7,7,7,7,7,7,7,7,7,7,7,7,7,7,7,7,7,7,7,7,7,7,7,7,7,7,7,7,7,7,7,8,8,8,8,8,8,8,8,8,8,8,8,8,8,8,8,8,8,8,8,8,8,8,8,8,8,8,8,8,8,8,8,8,8,8,8,8,8,8,8,8,8,8,8,8,8,8,8,8,8,8,8,8,8,8,8,8,8,8,8,8,8,8,8,8,8,8,8,8,8,8,8,8,8,8,8,8,8,8,8,8,8,8,8,8,8,8,8,8,8,8,8,8,8,8,8,8,8,8,8,8,8,8,8,8,8,8,8,8,8,8,8,8,8,8,8,8,8,8,8,8,8,8,8,8,8,8,8]))=tb;have ht:lA tb (.int .u8 0)=some (.int .u8 0):=by rw [← hT]; exact vv (x:=0) (by decide)
 clear hT;have w8:IntKind.wrap .u8 0=0:=by decide
 refine wnZ (aI @w8 @ht) ?_;exact ⟨rfl,rfl,by congr 1⟩
theorem EO {H:Hp} {nx:Nat}:Abs.Fn Tryz.prog 156 [.int .u64 0] H nx fun r H' nx'=>nx'=nx∧H'=H∧r=.int .i64 0:=by
 refine fO Dl ?_;simp only [DP,aJ];refine wnZ and_self ?_;refine bg ev0 ev0 Cj ?_;rintro _ _ _ ⟨rfl,rfl,rfl⟩;refine wnZ and_self ?_;exact ⟨rfl,rfl,rfl⟩
theorem Cr (hc:Cmp Tryz.prog f K G g caps) {L:List α} {H:Hp} {b nx n:Nat} (hH:H b=some (L.map f)) (hbx:b < nx) (hn:L.length=n) (hn0:0 < n) (hG:∀ x ∈ L,G x) (hn2:n ≤ 1000000000) :
    Abs.Fn Tryz.prog 130 [.msl b n 1 0 n,.func g caps] H nx fun r H' nx'=>∃ L',PS H H' nx nx' b (L'.map f)∧L'.Perm L∧bi K 0 n L':=by
 refine fO Ds ?_;simp only [D2,aJ];have w:IntKind.wrap .u64 (n:Int)=n:=fJ (by omega) (by omega);refine wnZ @w ?_;refine bg ev0 (have zz:=@w; evZ) (Du hn0 (by omega)) ?_;rintro _ _ _ ⟨rfl,rfl,k,rfl,h3,h4⟩
 have hk:k ≤ 62:=by
  rcases nP 62 k with h | h
  ·have:=Nat.pow_le_pow_right (n:=2) (by omega) h;omega
  ·exact h
 refine wnZ and_self ?_;refine bg ev0 (have zz:=@Int.natCast_zero; evZ) (GZ hc hn2 (n + 1) 0 n k L _ _ (by omega) hH hbx hn hG (by omega) (aR _) (by omega) (fun q h=>by omega)) ?_;rintro _ _ _ ⟨N,hps,hp,hs⟩;refine wnZ and_self ?_;exact ⟨N,hps,hp.perm,hs⟩
end
end Go.Proofs.YtekdaafnjdlenaaGreat
namespace Go.Proofs.YtekdaafnjdlenaaGreat
open Go Go.Abs
def _root_.List.c2 {α:Type} (l:List α) (f:α→AV):List AV:=l.flatMap fun x=>(f x).cells
structure Cmp2 {α:Type} (P:Program) (f:α→AV) (K:α→α→Int) (G:α→Prop) (g:Nat) (caps:List AV):Prop where
 len:∀ x,(f x).cells.length=2
 agg:∀ x,AV.agg (f x).cells=f x
 ones:∀ x,AV.ones (f x).cells=true
 dat:∀ x,Dat (f x)
 dcaps:∀ x ∈ caps,Dat x
 run:∀ x y,G x→G y→Go.Abs.Pure P g (f x :: f y :: caps) (.int .i64 (K x y))
 ord:Ord K
section
variable {α:Type} {f:α→AV} (h:∀ x,(f x).cells.length=2)
include h
end
section
variable {α:Type} [Inhabited α] {f:α→AV} {K:α→α→Int} {G:α→Prop} {g:Nat} {caps:List AV}
attribute [local irreducible] aA ag a8 aQ aK aL ar aN aU bd Go.Abs.Fn aP Go.Abs.Pure an aG Yl
end
end Go.Proofs.YtekdaafnjdlenaaGreat
namespace Go.Proofs.YtekdaafnjdlenaaGreat
open Go Go.Abs
section
variable {α:Type} [Inhabited α] {f:α→AV} {K:α→α→Int} {G:α→Prop} {g:Nat} {caps:List AV}
attribute [local irreducible] aA ag a8 aQ aK aL ar aN aU bd Go.Abs.Fn aP Go.Abs.Pure an aG Yl
end
end Go.Proofs.YtekdaafnjdlenaaGreat
namespace Go.Proofs.YtekdaafnjdlenaaGreat
open Go Go.Abs
open Nat (reduceEqDiff reduceAdd reduceLeDiff)
section
variable {α:Type} [Inhabited α] {f:α→AV} {K:α→α→Int} {G:α→Prop} {g:Nat} {caps:List AV}
attribute [local irreducible] aA ag a8 aQ aK aL ar aN aU bd Go.Abs.Fn aP Go.Abs.Pure an aG Yl
end
end Go.Proofs.YtekdaafnjdlenaaGreat
namespace Go.Proofs.YtekdaafnjdlenaaGreat
open Go Go.Abs
section
variable {α:Type} [Inhabited α] {f:α→AV} {K:α→α→Int} {G:α→Prop} {g:Nat} {caps:List AV}
attribute [local irreducible] aA ag a8 aQ aK aL ar aN aU bd Go.Abs.Fn aP Go.Abs.Pure an aG Yl
end
end Go.Proofs.YtekdaafnjdlenaaGreat
namespace Go.Proofs.YtekdaafnjdlenaaGreat
open Go Go.Abs
section
variable {α:Type} [Inhabited α] {f:α→AV} {K:α→α→Int} {G:α→Prop} {g:Nat} {caps:List AV}
attribute [local irreducible] aA ag a8 aQ aK aL ar aN aU bd Go.Abs.Fn aP Go.Abs.Pure an aG Yl
end
end Go.Proofs.YtekdaafnjdlenaaGreat
namespace Go.Proofs.YtekdaafnjdlenaaGreat
open Go Go.Abs
section
variable {α:Type} [Inhabited α] {f:α→AV} {K:α→α→Int} {G:α→Prop} {g:Nat} {caps:List AV}
attribute [local irreducible] aA ag a8 aQ aK aL ar aN aU bd Go.Abs.Fn aP Go.Abs.Pure an aG Yl
end
end Go.Proofs.YtekdaafnjdlenaaGreat
namespace Go.Proofs.YtekdaafnjdlenaaGreat
open Go Go.Abs
section
variable {α:Type} [Inhabited α] {f:α→AV} {K:α→α→Int} {G:α→Prop} {g:Nat} {caps:List AV}
attribute [local irreducible] aA ag a8 aQ aK aL ar aN aU bd Go.Abs.Fn aP Go.Abs.Pure an aG Yl
end
end Go.Proofs.YtekdaafnjdlenaaGreat
namespace Go.Proofs.YtekdaafnjdlenaaGreat
open Go Go.Abs
open Nat (reduceEqDiff reduceAdd reduceLeDiff)
section
variable {α:Type} [Inhabited α] {f:α→AV} {K:α→α→Int} {G:α→Prop} {g:Nat} {caps:List AV}
attribute [local irreducible] aA ag a8 aQ aK aL ar aN aU bd Go.Abs.Fn aP Go.Abs.Pure an aG Yl
end
end Go.Proofs.YtekdaafnjdlenaaGreat
namespace Go.Proofs.YtekdaafnjdlenaaGreat
open Go Go.Abs
section
variable {α:Type} [Inhabited α] {f:α→AV} {K:α→α→Int} {G:α→Prop} {g:Nat} {caps:List AV}
attribute [local irreducible] aA ag a8 aQ aK aL ar aN aU bd Go.Abs.Fn aP Go.Abs.Pure an aG Yl
end
end Go.Proofs.YtekdaafnjdlenaaGreat
namespace Go.Proofs.YtekdaafnjdlenaaGreat
open Go Go.Abs
open Nat (reduceEqDiff reduceAdd reduceLeDiff)
section
variable {α:Type} [Inhabited α] {f:α→AV} {K:α→α→Int} {G:α→Prop} {g:Nat} {caps:List AV}
attribute [local irreducible] aA ag a8 aQ aK aL ar aN aU bd Go.Abs.Fn aP Go.Abs.Pure an aG Yl
end
end Go.Proofs.YtekdaafnjdlenaaGreat
namespace Go.Proofs.YtekdaafnjdlenaaGreat
open Go Go.Abs
open Nat (reduceEqDiff reduceAdd reduceLeDiff)
theorem wx {B n len k:Nat} (h:k ≤ len) (hn:n ≠ 0):ig 2 (.msl B n 2 0 len) none (some (.int .i64 k)) none=some (.msl B n 2 0 k):=by
 simp only [ig,bo,Int.natCast_nonneg,if_true,cm];rw [if_pos ⟨trivial,by omega,h,hn⟩,if_pos (.inl trivial),sJ,Nat.sub_zero]
attribute [local irreducible] aA ag a8 aQ aK aL ar aN aU bd Go.Abs.Fn aP Go.Abs.Pure an aG Yl
end Go.Proofs.YtekdaafnjdlenaaGreat
namespace Go.Proofs.YtekdaafnjdlenaaGreat
open Go Go.Abs
theorem DI (a b:Vtx):mA (.st [.int,.int]) (cL a) (cL b)=some (decide (a=b)):=by
 show cJ [.int,.int] [.int .i64 a.color,.int .i64 a.label] [.int .i64 b.color,.int .i64 b.label]=_;rw [xx,tF]
theorem Ac (v:Vtx) (ks:List Vtx):cK (.st [.int,.int]) (cL v) (ks.map cL)=some (if v ∈ ks then some (ks.idxOf v) else none):=kG _ cL DI v ks
theorem AL (v:Vtx):iI (.st [.int,.int]) (cL v)=true:=rfl
def kO (l:List Spx) (i:Nat) (v:Vtx):List Nat:=(List.range i).filter fun k=>decide (v ∈ l.getD k default)
def mh (l:List Spx) (i j:Nat) (v:Vtx):List Nat:=kO l i v ++ if v ∈ (l.getD i default).take j then [i] else []
theorem yB {l:List Spx} {i:Nat} {v:Vtx}:kO l (i + 1) v=mh l i (l.getD i default).length v:=by
 unfold kO mh;rw [List.range_succ,AO,List.take_length]
 congr 1
 by_cases h:v ∈ l.getD i default
 ·rw [if_pos h]; simp only [List.filter,h,decide_true]
 ·rw [if_neg h]; simp only [List.filter,h,decide_false]
theorem yY {l:List Spx} {i:Nat} {v:Vtx}:mh l i 0 v=kO l i v:=by unfold mh; simp
theorem zK {l:List Spx} {i j:Nat} {v:Vtx} (hj:j < (l.getD i default).length) (ha:cI cl (l.getD i default)):mh l i (j + 1) v=if v=(l.getD i default).getD j default then mh l i j v ++ [i] else mh l i j v:=by
 unfold mh;generalize l.getD i default=s at *;rw [dz hj];by_cases h:v=s.getD j default
 ·have hn:v ∉ s.take j:=fun hm=>by
    obtain ⟨k,hk,e⟩:=jx hm;rw [ib] at hk;rw [List.getElem_take] at e;have:=dP ha (i:=k) (j:=j) (by omega) hj;rw [← h,← e] at this;have e2:s.getD k default=s[k]:=by simp [List.getD,show k < s.length by omega]
    rw [e2] at this;exact vW.ord.irr _ this
  rw [if_pos h,if_neg hn,if_pos (by rw [eX,h]; simp)];simp
 ·rw [if_neg h]
  congr 1
  have e:v ∈ s.take j ++ [s.getD j default] ↔ v ∈ s.take j:=by rw [eX,dY]; exact ⟨fun h'=>h'.resolve_right h,.inl⟩
  by_cases h2:v ∈ s.take j
  ·rw [if_pos (e.2 h2),if_pos h2]
  ·rw [if_neg (fun h=>h2 (e.1 h)),if_neg h2]
def pI (i:Nat):AV:=.int .i64 (i:Int)
structure IncOk (H:Hp) (b lo hi:Nat) (F:Vtx→List Nat) (ks:List Vtx) (vs:List AV):Prop where
 box:H b=some [.omap (ks.map cL) vs]
 len:vs.length=ks.length
 nodup:ks.Nodup
 dom:∀ v,v ∈ ks ↔ F v ≠ []
 row:∀ j,j < ks.length→Row H 1 (vs.getD j .undef) ((F (ks.getD j default)).map pI)
 bnd:∀ j B,j < ks.length→bS (vs.getD j .undef)=some B→lo ≤ B∧B < hi∧B ≠ b
 apart:∀ i j B,i < ks.length→j < ks.length→i ≠ j→bS (vs.getD i .undef)=some B→bS (vs.getD j .undef) ≠ some B
 lt:b < hi
theorem nM {l:List AV} {i j:Nat} {x:AV} (h:i < l.length):(l.set i x).getD j .undef=if i=j then x else l.getD j .undef:=by
 simp only [List.getD,List.getElem?_set];split
 ·rename_i e; subst e; simp [h]
 ·rfl
theorem ud {α:Type} {l m:List α} {j:Nat} {d:α} (h:j < l.length):(l ++ m).getD j d=l.getD j d:=by
 simp [List.getD,fp h]
theorem rL {α:Type} {l:List α} {x d:α}:(l ++ [x]).getD l.length d=x:=by simp [List.getD]
theorem sW {l:List Vtx} {v:Vtx} (h:v ∈ l):l.idxOf v < l.length∧l.getD (l.idxOf v) default=v:=by
 have h1:=yJ.2 h;exact ⟨h1,by simp [List.getD,h1]⟩
theorem zf {l:List Vtx} (h:l.Nodup) {i j:Nat} (hi:i < l.length) (hj:j < l.length) (e:l.getD i default=l.getD j default):i=j:=by
 have hp:=oE.1 (List.nodup_iff_pairwise_ne.1 h);rw [show l.getD i default=l[i] by simp [List.getD,hi],show l.getD j default=l[j] by simp [List.getD,hj]] at e;rcases qY i j with c | c | c
 ·exact absurd e (hp i j hi hj c)
 ·exact c
 ·exact absurd e.symm (hp j i hj hi c)
theorem IncOk.same {H H':Hp} {b lo hi hi':Nat} {F:Vtx→List Nat} {ks:List Vtx} {vs:List AV} (h:IncOk H b lo hi F ks vs) (hb:H' b=H b) (hs:∀ x,lo ≤ x→x < hi→x ≠ b→H' x=H x) (hh:hi ≤ hi'):IncOk H' b lo hi' F ks vs :=
 ⟨hb.trans h.box,h.len,h.nodup,h.dom,fun j hj=>(h.row j hj).same fun B hB=>by have:=h.bnd j B hj hB; exact hs B this.1 this.2.1 this.2.2,fun j B hj hB=>by have:=h.bnd j B hj hB; exact ⟨this.1,by omega,this.2.2⟩,h.apart,by have:=h.lt; omega⟩
theorem IncOk.put {H H':Hp} {b lo hi hi' i:Nat} {F G:Vtx→List Nat} {ks:List Vtx} {vs:List AV} {w:Vtx} {sv:AV} (h:IncOk H b lo hi F ks vs) (hw:w ∈ ks) (hG:∀ v,G v=if v=w then F v ++ [i] else F v) (hrow:Row H' 1 sv ((F w ++ [i]).map pI)) (hB:∀ B,bS sv=some B→bS (vs.getD (ks.idxOf w) .undef)=some B ∨ hi ≤ B∧B < hi'∧B ≠ b) (hb:H' b=some [.omap (ks.map cL) (vs.set (ks.idxOf w) sv)])
    (hs:∀ x,lo ≤ x→x < hi→x ≠ b→bS (vs.getD (ks.idxOf w) .undef) ≠ some x→H' x=H x) (hh:hi ≤ hi') (hlo:lo ≤ hi):IncOk H' b lo hi' G ks (vs.set (ks.idxOf w) sv):=by
 obtain ⟨k1,k2⟩:=sW hw;have hl:=h.len;have hg:∀ j,(vs.set (ks.idxOf w) sv).getD j .undef=if ks.idxOf w=j then sv else vs.getD j .undef:=fun j=>nM (by omega)
 have hne:∀ j,j < ks.length→ks.idxOf w ≠ j→ks.getD j default ≠ w:=fun j hj hn e=>hn (zf h.nodup k1 hj (by rw [k2,e]));refine ⟨hb,by simp [hl],h.nodup,fun v=>?_,fun j hj=>?_,fun j B hj=>?_,fun p q B hp hq hpq=>?_,by have:=h.lt; omega⟩
 ·rw [hG,h.dom];by_cases e:v=w
  ·subst e;rw [if_pos rfl];exact ⟨fun _=>by simp,fun _=>(h.dom v).1 hw⟩
  ·rw [if_neg e]
 ·rw [hg,hG];by_cases e:ks.idxOf w=j
  ·rw [if_pos e,if_pos (by rw [← e]; exact k2),← e,k2]; exact hrow
  ·rw [if_neg e,if_neg (hne j hj e)]
   exact (h.row j hj).same fun B hB'=>by
    have:=h.bnd j B hj hB';exact hs B this.1 this.2.1 this.2.2 fun h'=>h.apart (ks.idxOf w) j B k1 hj e h' hB'
 ·rw [hg];by_cases e:ks.idxOf w=j
  ·rw [if_pos e];intro hB';rcases hB B hB' with h' | h'
   ·have:=h.bnd _ B k1 h'; exact ⟨this.1,by omega,this.2.2⟩
   ·exact ⟨by omega,h'.2⟩
  ·rw [if_neg e];intro hB';have:=h.bnd j B hj hB';exact ⟨this.1,by omega,this.2.2⟩
 ·rw [hg,hg];by_cases e1:ks.idxOf w=p
  ·rw [if_pos e1,if_neg (by omega)];intro h1 h2;rcases hB B h1 with h' | h'
   ·exact h.apart (ks.idxOf w) q B k1 hq (by omega) h' h2
   ·have:=h.bnd q B hq h2; omega
  ·rw [if_neg e1];by_cases e2:ks.idxOf w=q
   ·rw [if_pos e2];intro h1 h2;rcases hB B h2 with h' | h'
    ·exact h.apart p (ks.idxOf w) B hp k1 (by omega) h1 h'
    ·have:=h.bnd p B hp h1; omega
   ·rw [if_neg e2]; exact h.apart p q B hp hq hpq
theorem IncOk.new {H H':Hp} {b lo hi hi' i:Nat} {F G:Vtx→List Nat} {ks:List Vtx} {vs:List AV} {w:Vtx} {sv:AV} (h:IncOk H b lo hi F ks vs) (hw:w ∉ ks) (hG:∀ v,G v=if v=w then F v ++ [i] else F v) (hrow:Row H' 1 sv ([i].map pI)) (hB:∀ B,bS sv=some B→hi ≤ B∧B < hi'∧B ≠ b) (hb:H' b=some [.omap ((ks ++ [w]).map cL) (vs ++ [sv])])
    (hs:∀ x,lo ≤ x→x < hi→x ≠ b→H' x=H x) (hh:hi ≤ hi') (hlo:lo ≤ hi):IncOk H' b lo hi' G (ks ++ [w]) (vs ++ [sv]):=by
 have hl:=h.len
 have hF:F w=[]:=by
  cases hf:F w with
  | nil=>rfl
  | cons a r=>exact absurd ((h.dom w).2 (by rw [hf]; simp)) hw
 have g1:∀ j,j < ks.length→(ks ++ [w]).getD j default=ks.getD j default∧(vs ++ [sv]).getD j .undef=vs.getD j .undef:=fun j hj=>⟨ud hj,ud (by omega)⟩
 have g2:(ks ++ [w]).getD ks.length default=w∧(vs ++ [sv]).getD ks.length .undef=sv:=⟨rL,by rw [← hl]; exact rL⟩
 refine ⟨hb,by simp [hl],?_,fun v=>?_,fun j hj=>?_,fun j B hj=>?_,fun p q B hp hq hpq=>?_,by have:=h.lt; omega⟩
 ·rw [wj];exact ⟨h.nodup,by simp,fun a ha c hc e=>by rw [dY] at hc; exact hw (by rw [← hc,← e]; exact ha)⟩
 ·rw [hG,eX,dY];by_cases e:v=w
  ·subst e; rw [if_pos rfl]; simp
  ·rw [if_neg e,← h.dom]; simp [e]
 ·rw [cA,List.length_singleton] at hj;by_cases e:j=ks.length
  ·subst e;rw [g2.1,g2.2,hG,if_pos rfl,hF]; exact hrow
  ·obtain ⟨e1,e2⟩:=g1 j (by omega);have hne:ks.getD j default ≠ w:=fun e'=>hw (e' ▸ aC (by omega));rw [e1,e2,hG,if_neg hne];exact (h.row j (by omega)).same fun B hB'=>by have:=h.bnd j B (by omega) hB'; exact hs B this.1 this.2.1 this.2.2
 ·rw [cA,List.length_singleton] at hj;by_cases e:j=ks.length
  ·subst e;rw [g2.2]; intro hB';have:=hB B hB'; exact ⟨by omega,this.2⟩
  ·rw [(g1 j (by omega)).2]; intro hB';have:=h.bnd j B (by omega) hB'; exact ⟨this.1,by omega,this.2.2⟩
 ·rw [cA,List.length_singleton] at hp hq;by_cases e1:p=ks.length
  ·subst e1;rw [g2.2,(g1 q (by omega)).2];intro h1 h2;have:=hB B h1;have:=h.bnd q B (by omega) h2;omega
  ·rw [(g1 p (by omega)).2];by_cases e2:q=ks.length
   ·subst e2;rw [g2.2];intro h1 h2;have:=hB B h2;have:=h.bnd p B (by omega) h1;omega
   ·rw [(g1 q (by omega)).2]; exact h.apart p q B (by omega) (by omega) hpq
theorem fH {H:Hp} {d:Nat} {x:AV}:dD 1 (aj H d [x]) (.msl d 1 1 0 1)=some (1,[x]):=ee (n:=1) (len:=1) (off:=0) (cs:=[x]) af rfl (by simp)
theorem tG {l:List Spx} {i:Nat} {v:Vtx}:(kO l i v).length ≤ i:=by
 unfold kO;have:=List.length_filter_le (fun k=>decide (v ∈ l.getD k default)) (List.range i)
 rwa [List.length_range] at this
theorem BF {l:List Spx} {i j:Nat} {v:Vtx}:(mh l i j v).length ≤ i + 1:=by
 unfold mh;have:=tG (l:=l) (i:=i) (v:=v);rw [cA];split <;> simp <;> omega
attribute [local irreducible] aA ag a8 aQ aK aL ar aN aU bd Go.Abs.Fn aP Go.Abs.Pure an aG Yl
set_option maxHeartbeats 2000000 in
theorem vI (l:List Spx) (hl:l.length ≤ 100000) (hs:∀ s ∈ l,cI cl s∧s.length ≤ 1000000) (H:Hp) (nx:Nat):Abs.Fn Tryz.prog 92 [aD l] H nx fun r H' nx'=>∃ ks vs,r=.mp nx∧IncOk H' nx nx nx' (kO l l.length) ks vs∧(∀ x,x < nx→H' x=H x)∧nx < nx':=by
 refine fO H7 ?_;simp only [b92,aJ];refine fq ?_
 repeat' (first|apply a_n|refine zO ?_|refine vZ ?_|fail)
 refine fq ?_;refine wnZ and_self ?_;refine uv ?_;refine wnY @ae ?_;refine bR (X:=Nat × List Vtx × List AV) (fun x=>[(3,.mp nx),(9,aD l),(10,.int .i64 l.length),(11,.int .i64 x.1)]) (fun x H' nx'=>x.1 ≤ l.length∧IncOk H' nx nx nx' (kO l x.1) x.2.1 x.2.2∧(∀ y,y < nx→H' y=H y)∧nx < nx') (fun x=>l.length - x.1) (0,[],[]) ⟨bB _,⟨af,rfl,List.nodup_nil,fun v=>by simp [kO],fun j h=>absurd h (by simp),fun j B h=>absurd h (by simp),fun i j B h=>absurd h (by simp),by omega⟩,fun y hy=>ab (by omega),by omega⟩ ag0 ?_;rintro ⟨i,ks,vs⟩ H1 nx1 ⟨h1,h2,h3,h4⟩;dsimp only at h1 h2 ⊢;by_cases hi:i < l.length
 rotate_left
 ·obtain rfl:i=l.length:=by omega
  refine wnY and_self ?_;exact ⟨ks,vs,rfl,h2,h3,h4⟩
 have ix:=eI hi;obtain ⟨hsa,hsl⟩:=hs _ (aC hi);have hstep:=fun j v hj=>zK (l:=l) (i:=i) (j:=j) (v:=v) hj hsa;have hend:=fun v=>yB (l:=l) (i:=i) (v:=v);have hlen:=fun j v=>BF (l:=l) (i:=i) (j:=j) (v:=v);have h20:IncOk H1 nx nx nx1 (mh l i 0) ks vs:=by rw [show mh l i 0=kO l i from funext fun v=>yY]; exact h2
 have hend':kO l (i + 1)=mh l i (l.getD i default).length:=funext hend;clear h2;generalize l.getD i default=s at *;refine wnY (aI @ix @am) ?_;refine bR (X:=Nat × List Vtx × List AV) (fun x=>[(3,.mp nx),(9,aD l),(10,.int .i64 l.length),(11,.int .i64 i),(4,.int .i64 i),(5,aB s),(16,aB s),(17,.int .i64 s.length),(18,.int .i64 x.1)]) (fun x H' nx'=>x.1 ≤ s.length∧IncOk H' nx nx nx' (mh l i x.1) x.2.1 x.2.2∧(∀ y,y < nx→H' y=H y)∧nx < nx') (fun x=>s.length - x.1) (0,ks,vs) ⟨bB _,h20,h3,h4⟩ ag0 ?_;clear h20 h3 h4;rintro ⟨j,ks,vs⟩ H2 nx2 ⟨k1,k2,k3,k4⟩;dsimp only at k1 k2 ⊢;by_cases hj:j < s.length
 rotate_left
 ·obtain rfl:j=s.length:=by omega
  refine wnY and_self ?_;exact ⟨(i + 1,ks,vs),by dsimp only; omega,⟨by dsimp only; omega,by dsimp only; rw [hend']; exact k2,k3,k4⟩,ag0⟩
 have iy:=ix2 hj;have hG:=fun v=>hstep j v hj;have hcl:=hlen j (s.getD j default);generalize s.getD j default=w at *;refine wnY @iy ?_;have g3:∀ x,x < nx2→aj (aj (aj H2 nx2 [.int .i64 0,.int .i64 0]) nx2 (bu [.int .i64 0,.int .i64 0] 0 [.int .i64 w.color,.int .i64 w.label])) (nx2 + 1) [.int .i64 i] x=H2 x:=fun x hx=>by rw [ab (by omega),ab (by omega),ab (by omega)]
 have g4:aj (aj (aj H2 nx2 [.int .i64 0,.int .i64 0]) nx2 (bu [.int .i64 0,.int .i64 0] 0 [.int .i64 w.color,.int .i64 w.label])) (nx2 + 1) [.int .i64 i] (nx2 + 1)=some [.int .i64 i]:=af;generalize aj (aj (aj H2 nx2 [.int .i64 0,.int .i64 0]) nx2 (bu [.int .i64 0,.int .i64 0] 0 [.int .i64 w.color,.int .i64 w.label])) (nx2 + 1) [.int .i64 i]=H3 at *;have hmf:=Ac w ks;have hkl:(ks.map cL).length=ks.length:=bF ..;by_cases hw:w ∈ ks
 ·rw [if_pos hw] at hmf;obtain ⟨m1,m2⟩:=sW hw;have hr:=k2.row (ks.idxOf w) m1;rw [m2] at hr;refine Bz ev0 ((g3 nx (by omega)).trans k2.box) ev0 (AL w) hmf ?_;have g5:∀ x,x < nx2→x ≠ nx→aj H3 nx [.omap (ci (cL w) (some (ks.idxOf w)) (ks.map cL)) (kQ .esl (some (ks.idxOf w)) vs)] x=H2 x:=fun x hx hn=>by rw [ab hn,g3 x hx]
  have g6:aj H3 nx [.omap (ci (cL w) (some (ks.idxOf w)) (ks.map cL)) (kQ .esl (some (ks.idxOf w)) vs)] nx=some [.omap (ks.map cL) vs]:=af;have g7:aj H3 nx [.omap (ci (cL w) (some (ks.idxOf w)) (ks.map cL)) (kQ .esl (some (ks.idxOf w)) vs)] (nx2 + 1)=some [.int .i64 i]:=by rw [ab (by omega)]; exact g4
  generalize aj H3 nx [.omap (ci (cL w) (some (ks.idxOf w)) (ks.map cL)) (kQ .esl (some (ks.idxOf w)) vs)]=H4 at *;rw [show yI .esl (some (ks.idxOf w)) vs=vs.getD (ks.idxOf w) .undef from rfl,show wt (some (ks.idxOf w)) (ks.map cL)=ks.idxOf w from rfl];refine wnY and_self ?_;refine kX (k:=1) (new:=[.int .i64 i]) rfl ev0 (hr.same fun B hB=>?_) ev0 (ee (n:=1) (len:=1) (off:=0) g7 rfl (by omega)) rfl rfl mV (by rw [bF]; omega) (by rw [bF]; omega) ?_
  ·have:=k2.bnd _ B m1 hB;exact g5 B this.2.1 this.2.2
  rintro s2 H5 nx5 hr5 i1 i2 i3 i4;refine wnY and_self ?_;refine Ar ev0 ((i3 nx (by omega) (fun h=>(k2.bnd _ nx m1 h).2.2 rfl)).trans g6) ev0 (by rw [hkl]; exact m1) ev0 ?_;refine wnY and_self ?_;refine ⟨(j + 1,ks,vs.set (ks.idxOf w) s2),by dsimp only; omega,⟨by dsimp only; omega,IncOk.put k2 hw hG ?_ (fun B hB=>?_) af (fun x hx hx2 hxn hxr=>?_) (by omega) (by omega),fun y hy=>?_,by omega⟩,ag0⟩
  ·rw [db]
   exact hr5.same fun B hB=>ab fun e=>by
    rcases i4 B hB with h | h
    ·exact (k2.bnd _ B m1 h).2.2 e
    ·omega
  ·rcases i4 B hB with h | h
   ·exact .inl h
   ·exact .inr (by omega)
  ·rw [ab hxn,i3 x (by omega) hxr,g5 x hx2 hxn]
  ·rw [ab (by omega),i3 y (by omega) (fun h=>by have:=k2.bnd _ y m1 h; omega),g5 y (by omega) (by omega)]; exact k3 y hy
 ·rw [if_neg hw] at hmf;refine Bz ev0 ((g3 nx (by omega)).trans k2.box) ev0 (AL w) hmf ?_;have g5:∀ x,x < nx2→x ≠ nx→aj H3 nx [.omap (ci (cL w) none (ks.map cL)) (kQ .esl none vs)] x=H2 x:=fun x hx hn=>by rw [ab hn,g3 x hx]
  have g6:aj H3 nx [.omap (ci (cL w) none (ks.map cL)) (kQ .esl none vs)] nx=some [.omap (ks.map cL ++ [cL w]) (vs ++ [.esl])]:=af;have g7:aj H3 nx [.omap (ci (cL w) none (ks.map cL)) (kQ .esl none vs)] (nx2 + 1)=some [.int .i64 i]:=by rw [ab (by omega)]; exact g4
  generalize aj H3 nx [.omap (ci (cL w) none (ks.map cL)) (kQ .esl none vs)]=H4 at *;rw [show yI .esl none vs=.esl from rfl,show wt none (ks.map cL)=ks.length from hkl];refine wnY and_self ?_;refine kX (k:=1) (new:=[.int .i64 i]) (cs:=[]) rfl ev0 Row.nil ev0 (ee (n:=1) (len:=1) (off:=0) g7 rfl (by omega)) rfl rfl mV (by simp) (by simp) ?_;rintro s2 H5 nx5 hr5 i1 i2 i3 i4;have i4':∀ B,bS s2=some B→B=nx2 + 1 + 1∧nx5=nx2 + 1 + 1 + 1:=fun B hB=>(i4 B hB).elim (fun h=>by cases h) id;refine wnY and_self ?_;refine Ar (i:=ks.length) ev0 ((i3 nx (by omega) (fun h=>by cases h)).trans g6) ev0 (by rw [cA,hkl]; simp) ev0 ?_;have hset:(vs ++ [AV.esl]).set ks.length s2=vs ++ [s2]:=by rw [← k2.len]; simp
  rw [hset];refine wnY and_self ?_;refine ⟨(j + 1,ks ++ [w],vs ++ [s2]),by dsimp only; omega,⟨by dsimp only; omega,IncOk.new k2 hw hG ?_ (fun B hB=>?_) (by rw [db]; exact af) (fun x hx hx2 hxn=>?_) (by omega) (by omega),fun y hy=>?_,by omega⟩,ag0⟩
  ·exact hr5.same fun B hB=>ab (by have:=i4' B hB; omega)
  ·have:=i4' B hB; omega
  ·rw [ab hxn,i3 x (by omega) (fun h=>by cases h),g5 x hx2 hxn]
  ·rw [ab (by omega),i3 y (by omega) (fun h=>by cases h),g5 y (by omega) (by omega)]; exact k3 y hy
end Go.Proofs.YtekdaafnjdlenaaGreat
namespace Go.Proofs.YtekdaafnjdlenaaGreat
open Go Go.Abs
def cH (l:List Spx) (s:Spx):Bool:=l.any fun t=>decide (s.length < t.length) && dw s t
def m8 (c:List Spx) (k:Nat):Int:=if cf (c.getD k default) ≠ 0 then cf (c.getD k default) else if 0 < k∧0 ≤ bq (c.getD (k - 1) default) (c.getD k default) then 14 else 0
def ay (c:List Spx):Int:=if 4096 < c.length then 5 else if dr (m8 c) c.length ≠ 0 then dr (m8 c) c.length else if c.any (cH c)=true then 7 else 0
theorem d7 {a b:Spx}:dw a b=true ↔ ∀ v ∈ a,v ∈ b:=by
 unfold dw; rw [du];exact ⟨fun h v hv=>uI (h v hv),fun h v hv=>aX (h v hv)⟩
theorem md {l:List Spx} {s:Spx}:cH l s=true ↔ ∃ t ∈ l,s.length < t.length∧∀ v ∈ s,v ∈ t:=by
 unfold cH; rw [nH];constructor
 ·rintro ⟨t,ht,h⟩;rw [cT,u9,d7] at h;exact ⟨t,ht,h⟩
 ·rintro ⟨t,ht,h⟩;exact ⟨t,ht,by rw [cT,u9,d7]; exact h⟩
theorem DF {a b:Spx} (ha:cI cl a) (hb:cI cl b) (h:∀ v ∈ a,v ∈ b) (hne:a ≠ b):a.length < b.length:=by
 have h1:a.length ≤ b.length:=wM (ha.nodup vW) h;rcases nP a.length b.length with h2 | h2
 ·exact h2
 ·exfalso;refine hne (nN vW ha hb fun x=>⟨h x,fun hx=>Decidable.byContradiction fun hn=>?_⟩)
  have h3:(x :: a).length ≤ b.length:=wM (List.nodup_cons.2 ⟨hn,ha.nodup vW⟩) fun y hy=>by
   rcases dF.1 hy with rfl | hy
   ·exact hx
   ·exact h y hy
  rw [dh] at h3;omega
theorem xu {c:List Spx} (h:dr (m8 c) c.length=0):(∀ s ∈ c,cf s=0)∧cI bq c:=by
 have hz:=iT h
 have h3:∀ k,k < c.length→cf (c.getD k default)=0∧(0 < k→bq (c.getD (k - 1) default) (c.getD k default) < 0):=fun k hk=>by
  have:=hz k hk;unfold m8 at this;split at this
  ·exact absurd this ‹_›
  rename_i g1;split at this
  ·exact absurd this (by decide)
  rename_i g2;exact ⟨wD g1,fun h0=>by omega⟩
 constructor
 ·intro s hs;obtain ⟨i,hi,rfl⟩:=jx hs;have:=(h3 i hi).1
  rwa [show c.getD i default=c[i] by simp [List.getD,hi]] at this
 ·have step:∀ j i,i < j→j < c.length→bq (c.getD i default) (c.getD j default) < 0:=by
    intro j
    induction j with
    | zero=>intro i h; omega
    | succ j ih =>
     intro i hi hj;have hs:=(h3 (j + 1) hj).2 (by omega);rw [rc] at hs;by_cases e:i=j
     ·subst e; exact hs
     ·exact rm.trans (ih i (by omega) (by omega)) hs
  unfold cI;rw [oE];intro i j hi hj hij;have:=step j i hij hj;simpa [List.getD,hi,hj] using this
theorem ce {c:List Spx} (h:ay c=0):c.length ≤ 4096∧(∀ s ∈ c,cf s=0)∧cI bq c∧∀ s ∈ c,cH c s=false:=by
 unfold ay at h;split at h
 ·exact absurd h (by decide)
 split at h
 ·exact absurd h ‹_›
 split at h
 ·exact absurd h (by decide)
 rename_i h1 h2 h3;have:=xu (wD h2);refine ⟨by omega,this.1,this.2,fun s hs=>?_⟩;cases hc:cH c s
 ·rfl
 ·exact absurd (nH.2 ⟨s,hs,hc⟩) h3
theorem CG {l:List Spx} {s:Spx} {p:Spx→Bool} (h0:0 < s.length) (hp:∀ t,p t=true→s.getD 0 default ∈ t):((kO l l.length (s.getD 0 default)).map fun (n:Nat)=>(n:Int)).any (fun i=>p (l.getD i.toNat default))=l.any p:=by
 rw [Bool.eq_iff_iff,nH,nH];constructor
 ·rintro ⟨x,hx,h⟩;obtain ⟨n,hn,rfl⟩:=bU.1 hx;unfold kO at hn;obtain ⟨h1,_⟩:=iz.1 hn;rw [cm] at h;exact ⟨_,aC (dB.1 h1),h⟩
 ·rintro ⟨t,ht,h⟩;obtain ⟨i,hi,rfl⟩:=jx ht;have e:l.getD i default=l[i]:=by simp [List.getD,hi]
  refine ⟨(i:Int),bU.2 ⟨i,iz.2 ⟨dB.2 hi,aX ?_⟩,rfl⟩,?_⟩
  ·rw [e]; exact hp _ h
  ·rw [cm,e]; exact h
attribute [local irreducible] aA ag a8 aQ aK aL ar aN aU bd Go.Abs.Fn aP Go.Abs.Pure an aG Yl
theorem ze (l:List Int) (p:Int→Bool) (g:Nat) (caps:List AV) (hd:∀ x ∈ caps,Dat x) (hg:∀ x ∈ l,pU g (.int .i64 x :: caps) (.bool (p x))) (hl:Shn l):pU 101 [az l,.func g caps] (.int .i64 (if l.any p then (l.findIdx p:Nat) else -1)):=by
 refine pO F7 ?_;simp only [Gn,aJ];have hl':l.length ≤ 17592186044416:=hl;refine wnZ and_self ?_;refine bR (X:=Nat) (fun k=>[(0,az l),(1,.func g caps),(6,az l),(7,.int .i64 l.length),(8,.int .i64 k)]) (fun k H nx=>k ≤ l.length∧∀ i,i < k→p (l.getD i default)=false) (fun k=>l.length - k) 0 ⟨bB _,fun i h=>absurd h (by omega)⟩ ag0 ?_;rintro k H nx ⟨hk,hz⟩;by_cases hk2:k < l.length
 rotate_left
 ·rw [nO fun i hi=>hz i (by omega),if_neg (by decide)];refine wnY and_self ?_;exact dL rfl
 have hc:=hg _ (bf hk2);cases hp:p (l.getD k default)
 ·rw [hp] at hc;refine wnY and_self ?_;refine fK ev0 ev0 hc (aW (ai (.int _ _) (a7 hd))) ?_;refine wnY and_self ?_
  exact ⟨k + 1,by omega,⟨by omega,fun i hi=>by
   rcases ju.1 hi with h | rfl
   ·exact hz i h
   ·exact hp⟩,ag0⟩
 ·rw [hp] at hc;obtain ⟨e1,e2⟩:=tZ hk2 hz hp;rw [e1,e2,if_pos rfl];refine wnY and_self ?_;refine fK ev0 ev0 hc (aW (ai (.int _ _) (a7 hd))) ?_;refine wnY and_self ?_;exact .int _ _
theorem mJ (l:List Int) (p:Int→Bool) (g:Nat) (caps:List AV) (hd:∀ x ∈ caps,Dat x) (hg:∀ x ∈ l,pU g (.int .i64 x :: caps) (.bool (p x))) (hl:Shn l):pU 48 [az l,.func g caps] (.bool (l.any p)):=by
 refine pO Ig ?_;simp only [b48,aJ];have h:=ze l p g caps hd hg hl
 repeat' (first|refine zW ?_|apply a_n|refine zO ?_|refine vZ ?_|refine cZ ?_ (hp:=h) (hs:=by (first | refine aH ?_ rfl | apply aW); (repeat' (first | exact ao | apply br | apply aY | exact eb _ | exact Dat.func hd)); first | done | fail)|refine b4 rfl ?_|refine r1Z ?_|fail)
 cases hA:l.any p
 ·exact b5 (by simp)
 ·exact b5 (by simp)
def OkS (l:List Spx):Prop:=l.length ≤ 100000∧∀ s ∈ l,cI cl s∧s.length ≤ 1000
theorem wW (l:List Spx) (s:Spx) (i:Nat) (hl:OkS l) (hs:cI cl s∧s.length ≤ 1000) (hi:i < l.length):pU 157 [.int .i64 i,.iptr [aD l] 0,.iptr [aB s] 0] (.bool (decide (s.length < (l.getD i default).length) && dw s (l.getD i default))):=by
 refine pO GV ?_;simp only [G8,aJ];have ix:=eI hi;obtain ⟨t1,t2⟩:=hl.2 _ (aC hi);have hf:=Es s (l.getD i default) hs.1 t1 (by omega) (by omega);generalize l.getD i default=t at *;by_cases h:s.length < t.length
 ·have z:decide ((s.length:Int) < t.length)=true:=aX (by omega);rw [aX h,Bool.true_and];refine wkZ (zI3 @am @ix @z) ?_;exact .bool _
 ·have z:decide ((s.length:Int) < t.length)=false:=aS (by omega);rw [aS h,Bool.false_and];refine wkZ (zI3 @am @ix @z) ?_;exact .bool _
theorem za (l:List Spx) (s:Spx) (hl:OkS l) (hs:cI cl s∧s.length ≤ 1000) (h0:0 < s.length):pU 131 [aD l,az ((kO l l.length (s.getD 0 default)).map fun (n:Nat)=>(n:Int)),aB s] (.bool (cH l s)):=by
 refine pO G1 ?_;simp only [Gq,aJ];have hll:=hl.1
 have h:=mJ ((kO l l.length (s.getD 0 default)).map fun (n:Nat)=>(n:Int)) (fun i=>decide (s.length < (l.getD i.toNat default).length) && dw s (l.getD i.toNat default)) 157 [.iptr [aD l] 0,.iptr [aB s] 0] (DatL.cons (Dat.iptr (DatL.cons (cE _) DatL.nil)) (DatL.cons (Dat.iptr (DatL.cons (cV _) DatL.nil)) DatL.nil)) (fun x hx=>by
  obtain ⟨n,hn,rfl⟩:=bU.1 hx;have hn2:n < l.length:=dB.1 (iz.1 hn).1;rw [cm];exact wW l s n hl hs hn2) (by rw [Shn,bF]; have:=tG (l:=l) (i:=l.length) (v:=s.getD 0 default); omega)
 rw [CG (p:=fun t=>decide (s.length < t.length) && dw s t) h0 (fun t ht=>by
  rw [cT,d7] at ht;exact ht.2 _ (aC h0))] at h
 refine wnZ (zI4 @ak @ah @bC @bh) ?_;refine fK (have zz:=aI @ak (aI @ah (aI @bC @bh)); evZ) (have zz:=aI @ak (aI @ah (aI @bC @bh)); evZ) h (aH (ai (eb _ _) (ai (rK (ai (uC rfl rfl (ai (cE _ _) ao)) (ai (uC rfl rfl (ai (cV _ _) ao)) ao))) ao)) rfl) ?_;refine wnZ and_self ?_;exact .bool _
end Go.Proofs.YtekdaafnjdlenaaGreat
namespace Go.Proofs.YtekdaafnjdlenaaGreat
open Go Go.Abs
theorem xW {H:Hp} {sv:AV} {F:List Nat} (h:Row H 1 sv (F.map pI)):Snap H sv (az (F.map fun (n:Nat)=>(n:Int))):=by
 refine Row.snapI ?_;rw [List.map_map]; exact h
theorem qD {c:List Spx} {k:Nat}:m8 c k=if cf (c.getD k default) ≠ 0 then cf (c.getD k default) else if 0 < k∧0 ≤ bq (c.getD (k - 1) default) (c.getD k default) then 14 else 0:=rfl
theorem Bi {c:List Spx} (h1:c.length ≤ 4096) (h:∀ s ∈ c,cf s=0):OkS c:=⟨by omega,fun s hs=>by
 obtain ⟨a1,a2,a3,a4⟩:=cC (h s hs);exact ⟨a3,by omega⟩⟩
theorem tI {H:Hp} {b:Nat} {cs:List AV} (h:H b=some cs):Sub (only b cs) H:=fun x c hx=>by
 unfold only at hx;split at hx
 ·rename_i e; rw [e,h]; exact hx
 ·cases hx
def on2 (b1:Nat) (c1:List AV) (b2:Nat) (c2:List AV):Hp:=fun x=>if x=b1 then some c1 else if x=b2 then some c2 else none
theorem Fw {b1 b2:Nat} {c1 c2:List AV}:on2 b1 c1 b2 c2 b1=some c1:=if_pos rfl
theorem FJ {b1 b2:Nat} {c1 c2:List AV} (h:b2 ≠ b1):on2 b1 c1 b2 c2 b2=some c2:=by unfold on2; rw [if_neg h,if_pos rfl]
theorem xL {b1 b2:Nat} {c1 c2:List AV} {H:Hp} (h1:H b1=some c1) (h2:H b2=some c2):Sub (on2 b1 c1 b2 c2) H:=fun x cs h=>by
 unfold on2 at h;split at h
 ·rename_i e; rw [e,h1]; exact h
 ·split at h
  ·rename_i e; rw [e,h2]; exact h
  ·cases h
theorem pr {P:Program} {T:Tm} {H:Hp} {nx:Nat} (b1 b2:Nat) {c1 c2:List AV} {K:CP} {m:Nat} {l:List Op2} {C:List (Nat × Nat)} (h1:H b1=some c1) (h2:H b2=some c2) (hne:b2 ≠ b1) (k:∀ S:Hp,S b1=some c1→S b2=some c2→(∀ H':Hp,H' b1=some c1→H' b2=some c2→Sub S H')→a5 P S (C.map fun k=>(l.getD k.1 ⟨none,none,.dead⟩,k.2)) T H nx fun T H nx=>K .normal T H nx):aA P (.mixS m l C) T H nx K :=
 sF (on2 b1 c1 b2 c2) rfl (xL h1 h2) (k _ Fw (FJ hne) fun _ a b=>xL a b)
theorem pR {P:Program} {T:Tm} {H:Hp} {nx:Nat} (b:Nat) {c:List AV} {K:CP} {m:Nat} {l:List Op2} {C:List (Nat × Nat)} (h:H b=some c) (k:∀ S:Hp,S b=some c→(∀ H':Hp,H' b=some c→Sub S H')→a5 P S (C.map fun k=>(l.getD k.1 ⟨none,none,.dead⟩,k.2)) T H nx fun T H nx=>K .normal T H nx):aA P (.mixS m l C) T H nx K :=
 sF (only b c) rfl (tI h) (k _ kJ fun _ h=>tI h)
attribute [local irreducible] aA ag a8 aQ aK aL ar aN aU bd Go.Abs.Fn aP Go.Abs.Pure an aG Yl
set_option maxHeartbeats 2000000 in
theorem kf (c:List Spx) (hc:Shn c) (hs:∀ s ∈ c,Shn s):pU 78 [b9 c] (.int .i64 (ay c)):=by
 refine pO H8 ?_;simp only [b78,aJ];have hc':c.length ≤ 17592186044416:=hc;by_cases h0:4096 < c.length
 ·rw [show ay c=5 by unfold ay; rw [if_pos h0]];refine wnZ (zI3 @ae @ak @ah) ?_
  all_goals exact dL rfl
 rw [show ay c=if dr (m8 c) c.length ≠ 0 then dr (m8 c) c.length else if c.any (cH c)=true then 7 else 0 by unfold ay; rw [if_neg h0]];refine fq ?_;have zz:=aI @ae (aI @ak @ah); repeat' (first|apply a_n|refine zO ?_|refine vZ ?_|refine bxZ ?_|fail)
 refine fq (fq ?_);clear zz;have zz:=aI @ae (aI @ak @ah); repeat' (first|apply a_n|refine zO ?_|refine vZ ?_|(refine zGZ ?_ ?_ <;> (intro _hg; try (exfalso; omega)))|fail)
 by_cases hz:dr (m8 c) c.length ≠ 0
 ·rw [if_pos hz];refine wnZ (zI3 @ae @ak @ah) ?_;refine lpI (X:=Nat) (fun k=>[(1,.ptr 0 1 0),(14,aD c),(15,.int .i64 c.length),(16,.int .i64 k)]) (fun k H nx=>k ≤ c.length∧H 0=some [aD c]∧∀ i,i < k→m8 c i=0) (fun k=>c.length - k) 0 ⟨bB _,rfl,fun i h=>absurd h (by omega)⟩ ?_;rintro k H nx ⟨h1,g0,h2⟩;by_cases hk:k < c.length
  rotate_left
  ·exact absurd (ec fun i hi=>h2 i (by omega)) hz
  have ix:=eI hk;have hs1:=hs _ (aC hk);have hp:=qF (c.getD k default) hs1;have hsp:=qD (c:=c) (k:=k);by_cases he:cf (c.getD k default) ≠ 0
  ·rw [if_pos he] at hsp;rw [dH hk h2 (by rw [hsp]; exact he),hsp];have z:decide (cf (c.getD k default) ≠ 0)=true:=aX he;refine wnY (zI3 @ae @ix @z) ?_;exact .int _ _
  rw [if_neg he] at hsp;have he:=wD he;rw [he] at hp;have z:decide ((0:Int) ≠ 0)=false:=rfl;by_cases hk0:0 < k
  rotate_left
  ·rw [if_neg (fun h=>hk0 h.1)] at hsp;have zk:decide (0 < (k:Int))=false:=aS (by omega);refine wnY (zI4 @ae @ix @z @zk) ?_
   exact ⟨k + 1,by omega,⟨by omega,g0,fun i hi=>by
    rcases ju.1 hi with h' | rfl
    ·exact h2 i h'
    ·exact hsp⟩,ag0⟩
  have zk:decide (0 < (k:Int))=true:=aX (by omega)
  have iy:ey 1 (aD c) (.int .i64 ((k:Int) - 1))=some (.iptr [aB (c.getD (k - 1) default)] 0):=by
   have:=eI (l:=c) (k:=k - 1) (by omega)
   rwa [show ((k - 1:Nat):Int)=(k:Int) - 1 by omega] at this
  have hcm:=iw (c.getD (k - 1) default) (c.getD k default) (hs _ (aC (by omega))) hs1;by_cases hv:0 ≤ bq (c.getD (k - 1) default) (c.getD k default)
  ·have z2:decide (0 ≤ bq (c.getD (k - 1) default) (c.getD k default))=true:=aX hv;rw [if_pos ⟨hk0,hv⟩] at hsp;rw [dH hk h2 (by rw [hsp]; decide),hsp];refine wnY (zI7 @ae @ix @iy @z @zk @z2 @g0) ?_;exact .int _ _
  ·have z2:decide (0 ≤ bq (c.getD (k - 1) default) (c.getD k default))=false:=aS hv;rw [if_neg (fun h=>hv h.2)] at hsp;refine wnY (zI7 @ae @ix @iy @z @zk @z2 @g0) ?_
   exact ⟨k + 1,by omega,⟨by omega,g0,fun i hi=>by
    rcases ju.1 hi with h' | rfl
    ·exact h2 i h'
    ·exact hsp⟩,ag0⟩
 have hz:=wD hz;rw [if_neg (fun h=>h hz)];obtain ⟨a1,a2⟩:=xu hz;have hall:=iT hz;have hok:=Bi (by omega) a1;refine b7 (fun T H nx=>T 1=.ptr 0 1 0∧H 0=some [aD c]∧1 ≤ nx) ?_ ?_
 ·refine wnZ (zI3 @ae @ak @ah) ?_;refine lpI (X:=Nat) (fun k=>[(1,.ptr 0 1 0),(14,aD c),(15,.int .i64 c.length),(16,.int .i64 k)]) (fun k H nx=>k ≤ c.length∧H 0=some [aD c]∧1 ≤ nx) (fun k=>c.length - k) 0 ⟨bB _,rfl,by omega⟩ ?_;rintro k H nx ⟨h1,g0,hnx⟩;by_cases hk:k < c.length
  rotate_left
  ·refine wnY and_self ?_;exact ⟨rfl,g0,hnx⟩
  have ix:=eI hk;have hs1:=hs _ (aC hk);have hp:=qF (c.getD k default) hs1;rw [a1 _ (aC hk)] at hp;have z:decide ((0:Int) ≠ 0)=false:=rfl;by_cases hk0:0 < k
  rotate_left
  ·have zk:decide (0 < (k:Int))=false:=aS (by omega);refine wnY (zI4 @ae @ix @z @zk) ?_;exact ⟨k + 1,by omega,⟨by omega,g0,hnx⟩,ag0⟩
  have zk:decide (0 < (k:Int))=true:=aX (by omega)
  have iy:ey 1 (aD c) (.int .i64 ((k:Int) - 1))=some (.iptr [aB (c.getD (k - 1) default)] 0):=by
   have:=eI (l:=c) (k:=k - 1) (by omega)
   rwa [show ((k - 1:Nat):Int)=(k:Int) - 1 by omega] at this
  have hcm:=iw (c.getD (k - 1) default) (c.getD k default) (hs _ (aC (by omega))) hs1;have z2:decide (0 ≤ bq (c.getD (k - 1) default) (c.getD k default))=false:=aS (by have:=dP a2 (i:=k - 1) (j:=k) (by omega) hk; omega);refine wnY (zI7 @ae @ix @iy @z @zk @z2 @g0) ?_;exact ⟨k + 1,by omega,⟨by omega,g0,hnx⟩,ag0⟩
 rintro T H nx ⟨t1,g0,hnx⟩;refine wnY (aI @t1 @g0) ?_;refine bg ev0 (have zz:=@t1; evZ) (vI c hok.1 (fun s hs=>⟨(hok.2 s hs).1,by have:=(hok.2 s hs).2; omega⟩) _ _) ?_;rintro _ H1 nx1 ⟨ks,vs,rfl,hinc,hsame,hlt⟩;have g0':H1 0=some [aD c]:=(hsame 0 (by omega)).trans g0;refine wnY (zI3 @t1 @g0' @ae) ?_;refine bR (X:=Nat) (fun k=>[(1,.ptr 0 1 0),(6,.mp nx),(44,aD c),(45,.int .i64 c.length),(46,.int .i64 k)]) (fun k H' nx'=>k ≤ c.length∧H'=H1∧nx'=nx1∧∀ i,i < k→cH c (c.getD i default)=false) (fun k=>c.length - k) 0 ⟨bB _,rfl,rfl,fun i h=>absurd h (by omega)⟩ (have zz:=@t1; agZ) ?_;rintro k H' nx' ⟨h1,rfl,rfl,h2⟩;by_cases hk:k < c.length
 rotate_left
 ·rw [nO fun i hi=>h2 i (by omega),if_neg (by decide)];refine wnY and_self ?_;exact .int _ _
 have ix:=eI hk;obtain ⟨p1,p2,p3,p4⟩:=cC (a1 _ (aC hk));have hcv:=za c (c.getD k default) hok (hok.2 _ (aC hk)) (by omega);have iy:=ix2 (l:=c.getD k default) (k:=0) (by omega);rw [show ((0:Nat):Int)=0 from rfl] at iy
 have hks:(c.getD k default).getD 0 default ∈ ks:=(hinc.dom _).2 fun e=>by
  have:k ∈ kO c c.length ((c.getD k default).getD 0 default):=iz.2 ⟨dB.2 hk,aX (aC (by omega))⟩;rw [e] at this; cases this
 have hmf:=Ac ((c.getD k default).getD 0 default) ks;rw [if_pos hks] at hmf;obtain ⟨m1,m2⟩:=sW hks;have hr:=hinc.row _ m1;rw [m2] at hr;have hcb:cH c (c.getD k default)=true→c.any (cH c)=true:=fun h=>nH.2 ⟨_,aC hk,h⟩;generalize hsk:c.getD k default=s at *;refine wnY @ix ?_;refine pR 0 g0' fun S hS0 hsub'=>?_;have hsub:=hsub' H' g0';refine wnY (aI @hS0 @iy) ?_;refine f8 ?_;refine i9 ev0 hinc.box ev0 (AL _) hmf ?_;refine qc ⟨hsub,?_⟩;rw [show mget .esl false (some (ks.idxOf (s.getD 0 default))) vs=vs.getD (ks.idxOf (s.getD 0 default)) .undef from rfl];refine jD ?_;cases hb:cH c s
 ·rw [hb] at hcv;refine fK ev0 ev0 hcv (aH (ai (cE _ _) (ai (xW hr) (ai (cV _ _) ao))) rfl) ?_;refine wnY and_self ?_
  exact ⟨k + 1,by omega,⟨by omega,rfl,rfl,fun i hi=>by
   rcases ju.1 hi with h' | rfl
   ·exact h2 i h'
   ·rw [hsk]; exact hb⟩,ag0⟩
 ·rw [hb] at hcv;rw [hcb hb,if_pos rfl];refine fK ev0 ev0 hcv (aH (ai (cE _ _) (ai (xW hr) (ai (cV _ _) ao))) rfl) ?_;refine wnY and_self ?_;exact .int _ _
end Go.Proofs.YtekdaafnjdlenaaGreat
namespace Go.Proofs.YtekdaafnjdlenaaGreat
open Go Go.Abs
theorem zI {c:List Spx} (h1:∀ s ∈ c,cI cl s) (h2:cI bq c) {i k:Nat} (hi:i < c.length) (hk:k < c.length) (hik:i ≠ k) (h:dw (c.getD i default) (c.getD k default)=true):cH c (c.getD i default)=true:=by
 refine md.2 ⟨_,aC hk,DF (h1 _ (aC hi)) (h1 _ (aC hk)) (d7.1 h) fun e=>?_,d7.1 h⟩;rcases qY i k with q | q | q
 ·have:=dP h2 q hk; rw [e] at this; exact rm.ord.irr _ this
 ·exact hik q
 ·have:=dP h2 q hi; rw [e] at this; exact rm.ord.irr _ this
theorem Bq {c:List Spx} {i:Nat} (h:cH c (c.getD i default)=true):∃ k,k < c.length∧i ≠ k∧dw (c.getD i default) (c.getD k default)=true:=by
 obtain ⟨t,ht,h1,h2⟩:=md.1 h;obtain ⟨k,hk,rfl⟩:=jx ht;have e:c.getD k default=c[k]:=by simp [List.getD,hk]
 refine ⟨k,hk,fun hik=>?_,by rw [e]; exact d7.2 h2⟩;subst hik;rw [e] at h1; omega
attribute [local irreducible] aA ag a8 aQ aK aL ar aN aU bd Go.Abs.Fn aP Go.Abs.Pure an aG Yl
set_option maxHeartbeats 2000000 in
theorem xQ (c:List Spx) (hc:Shn c) (hs:∀ s ∈ c,Shn s):pU 28 [b9 c] (.int .i64 (ay c)):=by
 refine pO Hw ?_;simp only [b28,aJ];have hc':c.length ≤ 17592186044416:=hc;by_cases h0:4096 < c.length
 ·rw [show ay c=5 by unfold ay; rw [if_pos h0]];refine wnZ (zI3 @ae @ak @ah) ?_
  all_goals exact dL rfl
 rw [show ay c=if dr (m8 c) c.length ≠ 0 then dr (m8 c) c.length else if c.any (cH c)=true then 7 else 0 by unfold ay; rw [if_neg h0]];refine fq ?_;have zz:=aI @ae (aI @ak @ah); repeat' (first|apply a_n|refine zO ?_|refine vZ ?_|refine bxZ ?_|fail)
 refine fq ?_;clear zz;have zz:=aI @ae (aI @ak @ah); repeat' (first|apply a_n|refine zO ?_|refine vZ ?_|fail)
 refine fq (fq ?_);clear zz;have zz:=aI @ae (aI @ak @ah); repeat' (first|apply a_n|refine zO ?_|refine vZ ?_|(refine zGZ ?_ ?_ <;> (intro _hg; try (exfalso; omega)))|fail)
 by_cases hz:dr (m8 c) c.length ≠ 0
 ·rw [if_pos hz];refine wnZ (zI3 @ae @ak @ah) ?_;refine bR (X:=Nat) (fun k=>[(3,aD c),(4,.int .i64 k)]) (fun k H nx=>k ≤ c.length∧∀ i,i < k→m8 c i=0) (fun k=>c.length - k) 0 ⟨bB _,fun i h=>absurd h (by omega)⟩ ag0 ?_;rintro k H nx ⟨h1,h2⟩;by_cases hk:k < c.length
  rotate_left
  ·exact absurd (ec fun i hi=>h2 i (by omega)) hz
  have ix:=eI hk;have hs1:=hs _ (aC hk);have hp:=xE (c.getD k default) hs1;have hsp:=qD (c:=c) (k:=k);by_cases he:cf (c.getD k default) ≠ 0
  ·rw [if_pos he] at hsp;rw [dH hk h2 (by rw [hsp]; exact he),hsp];have z:decide (cf (c.getD k default) ≠ 0)=true:=aX he;refine wnY (zI3 @ae @ix @z) ?_;exact .int _ _
  rw [if_neg he] at hsp;have he:=wD he;rw [he] at hp;have z:decide ((0:Int) ≠ 0)=false:=rfl;by_cases hk0:0 < k
  rotate_left
  ·rw [if_neg (fun h=>hk0 h.1)] at hsp;have zk:decide (0 < (k:Int))=false:=aS (by omega);refine wkY (zI4 @ae @ix @z @zk) ?_
   exact ⟨k + 1,by omega,⟨by omega,fun i hi=>by
    rcases ju.1 hi with h' | rfl
    ·exact h2 i h'
    ·exact hsp⟩,ag0⟩
  have zk:decide (0 < (k:Int))=true:=aX (by omega)
  have iy:ey 1 (aD c) (.int .i64 ((k:Int) - 1))=some (.iptr [aB (c.getD (k - 1) default)] 0):=by
   have:=eI (l:=c) (k:=k - 1) (by omega)
   rwa [show ((k - 1:Nat):Int)=(k:Int) - 1 by omega] at this
  have hcm:=lL (c.getD (k - 1) default) (c.getD k default) (hs _ (aC (by omega))) hs1;by_cases hv:0 ≤ bq (c.getD (k - 1) default) (c.getD k default)
  ·have z2:decide (0 ≤ bq (c.getD (k - 1) default) (c.getD k default))=true:=aX hv;rw [if_pos ⟨hk0,hv⟩] at hsp;rw [dH hk h2 (by rw [hsp]; decide),hsp];refine wkY (zI6 @ae @ix @iy @z @zk @z2) ?_;exact .int _ _
  ·have z2:decide (0 ≤ bq (c.getD (k - 1) default) (c.getD k default))=false:=aS hv;rw [if_neg (fun h=>hv h.2)] at hsp;refine wkY (zI6 @ae @ix @iy @z @zk @z2) ?_
   exact ⟨k + 1,by omega,⟨by omega,fun i hi=>by
    rcases ju.1 hi with h' | rfl
    ·exact h2 i h'
    ·exact hsp⟩,ag0⟩
 have hz:=wD hz;rw [if_neg (fun h=>h hz)];obtain ⟨a1,a2⟩:=xu hz;have hok:=Bi (by omega) a1;refine b7 (fun T H nx=>T 3=aD c) ?_ ?_
 ·refine wnZ (zI3 @ae @ak @ah) ?_;refine bR (X:=Nat) (fun k=>[(3,aD c),(4,.int .i64 k)]) (fun k H nx=>k ≤ c.length) (fun k=>c.length - k) 0 (bB _) ag0 ?_;rintro k H nx h1;by_cases hk:k < c.length
  rotate_left
  ·refine wnY @ae ?_;exact rfl
  have ix:=eI hk;have hs1:=hs _ (aC hk);have hp:=xE (c.getD k default) hs1;rw [a1 _ (aC hk)] at hp;have z:decide ((0:Int) ≠ 0)=false:=rfl;by_cases hk0:0 < k
  rotate_left
  ·have zk:decide (0 < (k:Int))=false:=aS (by omega);refine wkY (zI4 @ae @ix @z @zk) ?_;exact ⟨k + 1,by omega,by omega,ag0⟩
  have zk:decide (0 < (k:Int))=true:=aX (by omega)
  have iy:ey 1 (aD c) (.int .i64 ((k:Int) - 1))=some (.iptr [aB (c.getD (k - 1) default)] 0):=by
   have:=eI (l:=c) (k:=k - 1) (by omega)
   rwa [show ((k - 1:Nat):Int)=(k:Int) - 1 by omega] at this
  have hcm:=lL (c.getD (k - 1) default) (c.getD k default) (hs _ (aC (by omega))) hs1;have z2:decide (0 ≤ bq (c.getD (k - 1) default) (c.getD k default))=false:=aS (by have:=dP a2 (i:=k - 1) (j:=k) (by omega) hk; omega);refine wkY (zI6 @ae @ix @iy @z @zk @z2) ?_;exact ⟨k + 1,by omega,by omega,ag0⟩
 rintro T H nx t3;refine wnY @t3 ?_;refine bR (X:=Nat) (fun k=>[(3,aD c),(6,.int .i64 k)]) (fun k H' nx'=>k ≤ c.length∧∀ i,i < k→cH c (c.getD i default)=false) (fun k=>c.length - k) 0 ⟨bB _,fun i h=>absurd h (by omega)⟩ (have zz:=@t3; agZ) ?_;clear zz;clear t3;rintro i H1 nx1 ⟨h1,h2⟩;by_cases hi:i < c.length
 rotate_left
 ·rw [nO fun i hi=>h2 i (by omega),if_neg (by decide)];refine wnY @ae ?_;exact .int _ _
 refine wnY @ae ?_;refine bR (X:=Nat) (fun k=>[(3,aD c),(6,.int .i64 i),(7,.int .i64 k)]) (fun k H' nx'=>k ≤ c.length∧∀ j,j < k→i ≠ j→dw (c.getD i default) (c.getD j default)=false) (fun k=>c.length - k) 0 ⟨bB _,fun i h=>absurd h (by omega)⟩ ag0 ?_;rintro k H2 nx2 ⟨k1,k2⟩;by_cases hk:k < c.length
 rotate_left
 ·refine wnY @ae ?_;refine ⟨i + 1,by omega,⟨by omega,fun j hj=>?_⟩,ag0⟩;rcases ju.1 hj with h' | rfl
  ·exact h2 j h'
  ·cases hb:cH c (c.getD j default)
   ·rfl
   ·obtain ⟨q,q1,q2,q3⟩:=Bq hb;rw [k2 q (by omega) q2] at q3; cases q3
 have ix:=eI hi;have iy:=eI hk;by_cases hik:i=k
 ·have z:decide ((i:Int) ≠ (k:Int))=false:=aS (by omega);refine wkY (aI @ae @z) ?_;exact ⟨k + 1,by omega,⟨by omega,fun j hj hij=>k2 j (by omega) hij⟩,ag0⟩
 have z:decide ((i:Int) ≠ (k:Int))=true:=aX (by omega);have hin:=tH (c.getD i default) (c.getD k default) (hs _ (aC hi)) (hs _ (aC hk));have ht:=zI (fun s hs=>(hok.2 s hs).1) a2 hi hk hik;cases hb:dw (c.getD i default) (c.getD k default)
 ·rw [hb] at hin;refine wkY (zI4 @ae @ix @iy @z) ?_
  exact ⟨k + 1,by omega,⟨by omega,fun j hj hij=>by
   rcases ju.1 hj with h' | rfl
   ·exact k2 j h' hij
   ·exact hb⟩,ag0⟩
 ·rw [hb] at hin;rw [if_pos (nH.2 ⟨_,aC hi,ht hb⟩)];refine wkY (zI4 @ae @ix @iy @z) ?_;exact .int _ _
end Go.Proofs.YtekdaafnjdlenaaGreat
namespace Go.Proofs.YtekdaafnjdlenaaGreat
open Go Go.Abs
structure MapV where
 fr:Spx
 to:Spx
 deriving Inhabited,DecidableEq
abbrev GU (m:MapV):AV:=.agg [aB m.fr,aB m.to]
theorem A4 (m:MapV):Dat (GU m):=Dat.agg (DatL.cons (cV _) (DatL.cons (cV _) DatL.nil))
instance datI_encM {m:MapV}:DatI (GU m):=⟨A4 m⟩
attribute [local irreducible] aA ag a8 aQ aK aL ar aN aU bd Go.Abs.Fn aP Go.Abs.Pure an aG Yl
end Go.Proofs.YtekdaafnjdlenaaGreat
namespace Go.Proofs.YtekdaafnjdlenaaGreat
open Go Go.Abs
theorem wC {c:List Spx}:iY c=true ↔ c.length ≤ 30∧∀ s ∈ c,s.length ≤ 10:=by
 unfold iY;rw [cT,u9,du];simp only [u9]
attribute [local irreducible] aA ag a8 aQ aK aL ar aN aU bd Go.Abs.Fn aP Go.Abs.Pure an aG Yl
end Go.Proofs.YtekdaafnjdlenaaGreat
namespace Go.Proofs.YtekdaafnjdlenaaGreat
open Go Go.Abs
def bQ:Spx→Nat→List Spx
 | _,0=>[[]]
 | [],_ + 1=>[]
 | x :: l,k + 1=>(bQ l k).map (x :: ·) ++ bQ l (k + 1)
theorem lF {l:Spx}:bQ l 0=[[]]:=by cases l <;> rfl
theorem ve {k:Nat}:bQ [] (k + 1)=[]:=rfl
theorem gD {x:Vtx} {l:Spx} {k:Nat}:bQ (x :: l) (k + 1)=(bQ l k).map (x :: ·) ++ bQ l (k + 1):=rfl
theorem dp:∀ {l:Spx} {k:Nat} {s:Spx},s ∈ bQ l k ↔ s.Sublist l∧s.length=k
 | l,0,s=>by
  rw [lF,dY];exact ⟨fun h=>by subst h; exact ⟨List.nil_sublist _,rfl⟩,fun h=>fh.1 h.2⟩
 | [],k + 1,s=>by
  rw [ve];refine ⟨fun h=>(by cases h),fun ⟨h1,h2⟩=>?_⟩;rw [List.sublist_nil] at h1;subst h1; simp at h2
 | x :: l,k + 1,s=>by
  rw [gD,eX,bU,dp];constructor
  ·rintro (⟨t,ht,rfl⟩ | ⟨h1,h2⟩)
   ·have:=dp.1 ht;exact ⟨this.1.cons_cons x,by simp [this.2]⟩
   ·exact ⟨h1.cons x,h2⟩
  ·rintro ⟨h1,h2⟩;cases h1 with
   | cons _ h=>exact .inr ⟨h,h2⟩
   | cons_cons _ h=>exact .inl ⟨_,dp.2 ⟨h,by simpa using h2⟩,rfl⟩
theorem ji {l:Spx} {k:Nat} (h:l.length < k):bQ l k=[]:=by
 cases e:bQ l k with
 | nil=>rfl
 | cons a r =>
  have:=dp.1 (show a ∈ bQ l k by rw [e]; exact d4);have:=this.1.length_le;omega
def chK:Nat→Nat→Nat
 | _,0=>1
 | 0,_ + 1=>0
 | n + 1,k + 1=>chK n k + chK n (k + 1)
theorem Fu {n:Nat}:chK n 0=1:=by cases n <;> rfl
theorem qR:∀ {l:Spx} {k:Nat},(bQ l k).length=chK l.length k
 | l,0=>by rw [lF,Fu]; rfl
 | [],k + 1=>rfl
 | x :: l,k + 1=>by
  rw [gD,cA,bF,qR,qR]; rfl
theorem DV {n k:Nat} (hn:n ≤ 8):chK n k ≤ 70:=by
 by_cases hk:k ≤ 8
 ·have:∀ n,n < 9→∀ k,k < 9→chK n k ≤ 70:=by decide
  exact this n (by omega) k (by omega)
 ·have:∀ n k,n < k→chK n k=0:=by
    intro n
    induction n with
    | zero=>intro k h; match k,h with | k + 1,_=>rfl
    | succ n ih=>intro k h; match k,h with | k + 1,h=>show chK n k + chK n (k + 1)=0; rw [ih k (by omega),ih (k + 1) (by omega)]
  rw [this n k (by omega)]; omega
theorem oQ {l:Spx} {k:Nat} (h:l.length ≤ 8):(bQ l k).length ≤ 70:=by rw [qR]; exact DV h
theorem rt {l:Spx} {i k:Nat} (hi:i < l.length):bQ (l.drop i) (k + 1)=(bQ (l.drop (i + 1)) k).map (l.getD i default :: ·) ++ bQ (l.drop (i + 1)) (k + 1):=by
 rw [List.drop_eq_getElem_cons hi,gD];simp [List.getD,hi]
theorem ru {v w:Vtx} {l m:Spx}:bq (v :: l) (w :: m)=if cl v w ≠ 0 then cl v w else bq l m:=rfl
theorem yG {v:Vtx} {l m:Spx}:bq (v :: l) (v :: m)=bq l m:=by
 rw [ru,if_neg (fun h=>h (gC.2 rfl))]
theorem jU:∀ {l:Spx} {k:Nat},cI cl l→cI bq (bQ l k)
 | l,0,_=>by rw [lF]; exact List.pairwise_singleton _ _
 | [],k + 1,_=>rf
 | x :: l,k + 1,h=>by
  have h':=jv.1 h;rw [gD];unfold cI;rw [List.pairwise_append];refine ⟨?_,jU h'.2,?_⟩
  ·rw [List.pairwise_map];exact wB (fun {a b} hab=>by rw [yG]; exact hab) (jU (k:=k) h'.2)
  ·intro a ha b hb;obtain ⟨t,_,rfl⟩:=bU.1 ha;have hb':=dp.1 hb;cases b with
   | nil=>simp at hb'
   | cons y r =>
    have hy:y ∈ l:=hb'.1.subset d4;have:=h'.1 y hy;rw [ru,if_pos (by omega)];exact this
end Go.Proofs.YtekdaafnjdlenaaGreat
namespace Go.Proofs.YtekdaafnjdlenaaGreat
open Go Go.Abs
open Nat (reduceEqDiff reduceAdd reduceLeDiff)
attribute [local irreducible] aA ag a8 aQ aK aL ar aN aU bd Go.Abs.Fn aP Go.Abs.Pure an aG Yl
theorem Aq (s:AV) (l:Spx) (hl:l.length ≤ 1000000) (h0:l ≠ []) (H:Hp) (nx:Nat) (hn:fM s=some l.length) (hs:∀ H',(∀ x,x < nx→H' x=H x)→dD 2 H' s=some (l.length,cX l)):Abs.Fn Tryz.prog 136 [s] H nx fun r H' nx'=>r=.msl nx (l.length * 2) 2 0 l.length∧H'=aj H nx (cX l)∧nx'=nx + 1:=by
 have hpos:=zd.2 h0;refine fO GL ?_;simp only [GI,aJ];refine wnY and_self ?_;refine Ap (k:=l.length) (by ((try simp only [bN,ZA,reduceEqDiff,↓reduceIte,reduceAdd,reduceLeDiff]); (try with_reducible rfl)); exact hn) (fun h=>?_) (fun h=>by omega) (fun h=>by omega);refine wnY and_self ?_;refine jO rfl ev0 ev0 (hs _ fun x _=>rfl) (oN _) (by omega) (by omega) ?_;refine wnY and_self ?_;exact ⟨rfl,rfl,rfl⟩
theorem EE {y lo kb sb k N:Nat} {s:Spx} (hs:s.length ≤ 1000) (hk:k ≤ 1000) (I:List Spx→Hp→Nat→Prop)
    (hp:∀ S H nx,I S H nx→H kb=some [.int .i64 k]∧H sb=some [aB s]∧lo + 3 ≤ nx∧kb < lo∧sb < lo)
    (stab:∀ S H H' nx nx',I S H nx→nx ≤ nx'→(∀ i,i < nx→¬ (lo ≤ i∧i < lo + 3)→H' i=H i)→I S H' nx')
    (rnd:∀ S f H nx,I S H nx→f.length=k→f ≠ []→S.length < N→Yl Tryz.prog y [.msl nx (k * 2) 2 0 k] (aj H nx (cX f)) (nx + 1) fun r H' nx'=>r=.bool true∧I (S ++ [f]) H' nx'∧nx ≤ nx'∧∀ i,lo ≤ i→i < lo + 3→H' i=H i) :
    ∀ (j:Nat) (ch:Spx) (at_:Nat) (S:List Spx) (H:Hp) (nx:Nat),0 < k→ch.length + j=k→S.length + (bQ (s.drop at_) j).length ≤ N→at_ ≤ s.length→I S H nx→H lo=some [.yld y]→H (lo + 1)=some [.func 178 [.ptr kb 1 0,.ptr lo 1 0,.ptr sb 1 0,.ptr (lo + 1) 1 0]]→(∃ C,H (lo + 2)=some C∧C.length=k * 2∧C.take (ch.length * 2)=cX ch) →
     Abs.Fn Tryz.prog 178 [.int .i64 at_,.msl (lo + 2) (k * 2) 2 0 ch.length,.ptr kb 1 0,.ptr lo 1 0,.ptr sb 1 0,.ptr (lo + 1) 1 0] H nx fun r H' nx'=>r=.bool true∧I (S ++ (bQ (s.drop at_) j).map (ch ++ ·)) H' nx'∧nx ≤ nx'∧H' lo=H lo∧H' (lo + 1)=H (lo + 1)∧∃ C,H' (lo + 2)=some C∧C.length=k * 2∧C.take (ch.length * 2)=cX ch:=by
 intro j
 induction j with
 | zero =>
  intro ch at_ S H nx hk0 hj hN hat hI h1 h2 ⟨C,h3,hc1,hc2⟩;obtain ⟨g1,g2,g3,g4,g5⟩:=hp _ _ _ hI;have hlen:ch.length=k:=by omega
  have hne:ch ≠ []:=fun e=>by rw [e] at hlen; simp at hlen; omega
  obtain rfl:C=cX ch:=by rw [← hc2,iB (by omega)]
  refine fO Dd ?_;simp only [EC,aJ];have hcl:=Aq (.msl (lo + 2) (k * 2) 2 0 k) ch (by omega) hne H nx (by rw [hlen]; rfl) (fun H' hH'=>by rw [hlen]; exact (ee (n:=k * 2) (off:=0) (len:=k) ((hH' (lo + 2) (by omega)).trans h3) hc1 (by omega)).trans (by rw [List.drop_zero,iB (by omega)]));rw [hlen] at hcl;rw [hlen];have z:decide ((k:Int)=k)=true:=aX rfl;refine wnY (zI5 @g1 @g2 @h1 @h2 @z) ?_;refine pR lo h1 fun S0 hS hsub=>?_;refine wnY @hS ?_;refine f8 ?_;refine bg ev0 ev0 hcl ?_;rintro _ H2 nx2 ⟨rfl,rfl,rfl⟩;refine qc ⟨hsub _ (by rw [ab (by omega)]; exact h1),?_⟩;refine jD ?_;refine yg ev0 ev0 (Yl.mono (rnd S ch H nx hI hlen hne (by rw [lF] at hN; exact hN)) ?_);rintro r H3 nx3 ⟨rfl,e1,e2,e3⟩;refine wnY and_self ?_;refine ⟨rfl,?_,e2,e3 _ (by omega) (by omega),e3 _ (by omega) (by omega),cX ch,(e3 _ (by omega) (by omega)).trans h3,hc1,by rw [← hlen]; exact hc2⟩;rw [lF,fk,List.map_nil,gx];exact e1
 | succ j ih =>
  intro ch at_ S H nx hk0 hj hN hat hI h1 h2 ⟨C,h3,hc1,hc2⟩;obtain ⟨g1,g2,g3,g4,g5⟩:=hp _ _ _ hI;refine fO Dd ?_;simp only [EC,aJ];have z:decide ((ch.length:Int)=k)=false:=aS (by omega);refine wnY (zI5 @g1 @g2 @h1 @h2 @z) ?_;refine bR (X:=Nat × List Spx) (fun x=>[(1,.msl (lo + 2) (k * 2) 2 0 ch.length),(4,.ptr sb 1 0),(5,.ptr (lo + 1) 1 0),(9,.int .i64 x.1)]) (fun x H' nx'=>x.1 ≤ s.length∧I x.2 H' nx'∧nx ≤ nx'∧H' lo=H lo∧H' (lo + 1)=H (lo + 1)∧(∃ C,H' (lo + 2)=some C∧C.length=k * 2∧C.take (ch.length * 2)=cX ch)∧x.2 ++ (bQ (s.drop x.1) (j + 1)).map (ch ++ ·)=S ++ (bQ (s.drop at_) (j + 1)).map (ch ++ ·)) (fun x=>s.length - x.1) (at_,S) ⟨hat,hI,aR _,rfl,rfl,⟨C,h3,hc1,hc2⟩,rfl⟩ ag0 ?_;rintro ⟨i,S1⟩ H1 nx1 ⟨i1,hI1,i2,i3,i4,⟨C1,k3,d1,d2⟩,htot⟩;dsimp only at i1 hI1 htot ⊢;obtain ⟨q1,q2,q3,q4,q5⟩:=hp _ _ _ hI1;have w1:=i3.trans h1;have w2:=i4.trans h2;by_cases hi:i < s.length
  rotate_left
  ·refine wnY (zI3 @q1 @q2 @am) ?_;rw [show s.drop i=[] from Bg (by omega),ve,List.map_nil,gx] at htot;exact ⟨rfl,by rw [← htot]; exact hI1,i2,i3,i4,C1,k3,d1,d2⟩
  have ix:=ix2 hi;rw [rt hi,db,List.map_map,← kW] at htot;have hmm:(bQ (s.drop (i + 1)) j).map ((fun x=>ch ++ x) ∘ fun x=>s.getD i default :: x)=(bQ (s.drop (i + 1)) j).map ((ch ++ [s.getD i default]) ++ ·):=uK fun x _=>by simp
  rw [hmm] at htot;generalize s.getD i default=v at *;refine wnY (zI3 @q1 @q2 @am) ?_;refine pr sb (lo + 1) q2 w2 (by omega) fun S0 hS1 hS2 hsub=>?_;refine wnY (zI3 @hS1 @hS2 @ix) ?_;refine f8 ?_;refine wnY and_self ?_;refine ⟨hsub _ (by rw [ab (by omega)]; exact q2) (by rw [ab (by omega)]; exact w2),?_⟩;refine f8 ?_;refine wR (b:=lo + 2) (m:=k * 2) (off:=0) (len:=ch.length) (n:=1) rfl ev0 (by rw [ab (by omega)]; exact k3) ev0 nF rfl d1 (fun _=>by omega) (by omega) (by omega) ?_;refine qc ⟨hsub _ (by rw [ab (by omega),ab (by omega)]; exact q2) (by rw [ab (by omega),ab (by omega)]; exact w2),?_⟩;refine jD ?_;have hl1:(ch ++ [v]).length=ch.length + 1:=by simp
  have hcc:=jf ch
  have hput:(bu C1 (0 + ch.length * 2) [.int .i64 v.color,.int .i64 v.label]).length=k * 2∧(bu C1 (0 + ch.length * 2) [.int .i64 v.color,.int .i64 v.label]).take ((ch.length + 1) * 2)=cX (ch ++ [v]):=by
   rw [b6];simp only [bu];refine ⟨by simp [d1]; omega,?_⟩;rw [d2,mM,DN,CC (by simp [hcc]; omega),iB (by simp [hcc]; omega)]
  have hN1:S1.length + (bQ (s.drop (i + 1)) j).length ≤ N:=by
   have:=congrArg List.length htot;simp only [cA,bF] at this;omega
  have hih:=ih (ch ++ [v]) (i + 1) S1 (aj (aj H1 nx1 [.int .i64 v.color,.int .i64 v.label]) (lo + 2) (bu C1 (0 + ch.length * 2) [.int .i64 v.color,.int .i64 v.label])) (nx1 + 1) hk0 (by omega) hN1 (by omega) (stab _ _ _ _ _ hI1 (by omega) (fun x hx hn=>by rw [ab (by omega),ab (by omega)])) (by rw [ab (by omega),ab (by omega)]; exact w1) (by rw [ab (by omega),ab (by omega)]; exact w2) ⟨_,af,hput.1,by rw [hl1]; exact hput.2⟩;rw [hl1,show ((i + 1:Nat):Int)=(i:Int) + 1 by omega] at hih;refine bg ev0 ev0 hih ?_;rintro r H4 nx4 ⟨rfl,f1,f2,f3,f4,C4,f5,f6,f7⟩;refine wnY and_self ?_;refine ⟨(i + 1,S1 ++ (bQ (s.drop (i + 1)) j).map ((ch ++ [v]) ++ ·)),by dsimp only; omega,⟨by dsimp only; omega,f1,by omega,f3.trans ?_,f4.trans ?_,⟨C4,f5,f6,?_⟩,htot⟩,ag0⟩
  ·rw [ab (by omega),ab (by omega)]; exact i3
  ·rw [ab (by omega),ab (by omega)]; exact i4
  ·have:=congrArg (List.take (ch.length * 2)) f7;rw [List.take_take,Nat.min_eq_left (by omega),mM,CC (by omega)] at this;rw [this];exact iB (by omega)
end Go.Proofs.YtekdaafnjdlenaaGreat
namespace Go.Proofs.YtekdaafnjdlenaaGreat
open Go Go.Abs
open Nat (reduceEqDiff reduceAdd reduceLeDiff)
attribute [local irreducible] aA ag a8 aQ aK aL ar aN aU bd Go.Abs.Fn aP Go.Abs.Pure an aG Yl
theorem AR {y kb sb k:Nat} {s:Spx} {H:Hp} {nx:Nat} (hs:s.length ≤ 1000) (hk0:0 < k) (hk:k ≤ 1000) (I:List Spx→Hp→Nat→Prop)
    (hp:∀ S H nx',I S H nx'→H kb=some [.int .i64 k]∧H sb=some [aB s]∧nx + 3 ≤ nx'∧kb < nx∧sb < nx)
    (stab:∀ S H H' nx1 nx',I S H nx1→nx1 ≤ nx'→(∀ i,i < nx1→¬ (nx ≤ i∧i < nx + 3)→H' i=H i)→I S H' nx')
    (rnd:∀ S f H nx1,I S H nx1→f.length=k→f ≠ []→S.length < (bQ s k).length→Yl Tryz.prog y [.msl nx1 (k * 2) 2 0 k] (aj H nx1 (cX f)) (nx1 + 1) fun r H' nx'=>r=.bool true∧I (S ++ [f]) H' nx'∧nx1 ≤ nx'∧∀ i,nx ≤ i→i < nx + 3→H' i=H i)
    (gk:H kb=some [.int .i64 k]) (lk:kb < nx) (h0:∀ H',(∀ i,i < nx→H' i=H i)→I [] H' (nx + 3)) :
    Abs.Fn Tryz.prog 177 [.yld y,.ptr kb 1 0,.ptr sb 1 0] H nx fun _ H' nx'=>I (bQ s k) H' nx':=by
 refine fO Gx ?_;simp only [FI,aJ];refine wnY @gk ?_;generalize hH:aj (aj (aj H nx [.yld y]) (nx + 1) [.nilf]) (nx + 1) (bu [.nilf] 0 [.func 178 [.ptr kb 1 0,.ptr nx 1 0,.ptr sb 1 0,.ptr (nx + 1) 1 0]])=H1;have hfn:H1 (nx + 1)=some [.func 178 [.ptr kb 1 0,.ptr nx 1 0,.ptr sb 1 0,.ptr (nx + 1) 1 0]]:=by rw [← hH,af]; rfl
 have hfk:H1 kb=some [.int .i64 k]:=by rw [← hH,ab (by omega),ab (by omega),ab (by omega)]; exact gk
 have hfy:H1 nx=some [.yld y]:=by rw [← hH,ab (by omega),ab (by omega),af]
 have hfo:∀ i,i < nx→H1 i=H i:=fun i hi=>by rw [← hH,ab (by omega),ab (by omega),ab (by omega)]
 clear hH;refine pr kb (nx + 1) hfk hfn (by omega) fun S0 hS1 hS2 hsub=>?_;refine wnY (aI @hS1 @hS2) ?_;refine f8 ?_;refine xA (k1:=.i64) (k2:=.i64) (n:=0) (m:=k) rfl ev0 ev0 (Int.le_refl _) (by omega) (by omega) (by omega) ?_;refine qc ⟨hsub _ (by rw [ab (by omega)]; exact hfk) (by rw [ab (by omega)]; exact hfn),?_⟩;refine jD ?_;have hz:(ba (AV.agg [AV.int .i64 0,AV.int .i64 0]) k).length=k * 2:=by simp [ba,AV.cells]
 have hih:=EE (y:=y) (N:=(bQ s k).length) (lo:=nx) (kb:=kb) (sb:=sb) (k:=k) (s:=s) hs hk I hp stab rnd k [] 0 [] (aj H1 (nx + 2) (ba (AV.agg [AV.int .i64 0,AV.int .i64 0]) k)) (nx + 3) hk0 (by simp) (by simp) (bB _) (h0 _ (fun i hi=>by rw [ab (by omega)]; exact hfo i hi)) (by rw [ab (by omega)]; exact hfy) (by rw [ab (by omega)]; exact hfn) ⟨_,af,hz,rfl⟩;refine bg ev0 (by ((try simp only [bN,ZA,reduceEqDiff,↓reduceIte,reduceAdd,reduceLeDiff]); (try with_reducible rfl)); rfl) hih ?_;rintro r H4 nx4 ⟨rfl,f1,-⟩;refine wnY and_self ?_;rw [List.drop_zero,List.nil_append,show (fun x:Spx=>([]:Spx) ++ x)=id from rfl,List.map_id] at f1;exact f1
theorem vA {kb sb k:Nat} {s:Spx} {H:Hp} {nx:Nat} (hs:s.length ≤ 8) (hk0:0 < k) (hk:k ≤ 1000) (gk:H kb=some [.int .i64 k]) (gs:H sb=some [aB s]) (lk:kb < nx) (ls:sb < nx) :
    Abs.Fn Tryz.prog 176 [.esl,.func 177 [.ptr kb 1 0,.ptr sb 1 0]] H nx fun r H' nx'=>Row H' 1 r ((bQ s k).map aB)∧nx ≤ nx'∧∀ b',bS r=some b'→nx ≤ b'∧b' < nx':=by
 refine fO Hc ?_;simp only [GW,aJ];refine wnY and_self ?_;refine rI (nx + 1) (nx + 2) rfl rfl ev0 (fun c0 cj hy=>?_);refine Abs.Fn.mono (AR (nx:=nx + 2) (kb:=kb) (sb:=sb) (k:=k) (s:=s) (by omega) hk0 hk (fun S H' nx'=>nx + 5 ≤ nx'∧H' kb=some [.int .i64 k]∧H' sb=some [aB s]∧H' (nx + 1)=some [c0]∧∃ sv,H' nx=some [sv]∧Row H' 1 sv (S.map aB)∧∀ b',bS sv=some b'→nx + 5 ≤ b'∧b' < nx') ?_ ?_ ?_ ?_ ?_ ?_) ?_
 ·rintro S H' nx' ⟨h1,h2,h3,h4,h5⟩;exact ⟨h2,h3,by omega,by omega,by omega⟩
 ·rintro S H1 H2 a c ⟨h1,h2,h3,h4,sv,h5,h6,h7⟩ hac hs';refine ⟨by omega,(hs' _ (by omega) (by omega)).trans h2,(hs' _ (by omega) (by omega)).trans h3,(hs' _ (by omega) (by omega)).trans h4,sv,(hs' _ (by omega) (by omega)).trans h5,h6.same (fun b' hb'=>hs' _ (h7 b' hb').2 (by have:=h7 b' hb'; omega)),fun b' hb'=>⟨(h7 b' hb').1,by have:=h7 b' hb'; omega⟩⟩
 ·rintro S f H' nx' ⟨h1,h2,h3,h4,sv,h5,h6,h7⟩ hfl hf0 hSN;have h4':aj H' nx' (cX f) (nx + 1)=some [c0]:=by rw [ab (by omega)]; exact h4
  refine hy _ _ _ _ h4' rfl ?_;clear hy;refine wnZ and_self ?_;refine ⟨h4',?_⟩;have hS70:=uE hSN (oQ (k:=k) hs);have hd:c9 (aj H' nx' (cX f)) (nx + 1) nx'=some (cX f):=by rw [cQ (by omega),af]
  have hdo:∀ x,x < nx'→x ≠ nx + 1→c9 (aj H' nx' (cX f)) (nx + 1) x=H' x:=fun x a b=>by rw [cQ b,ab (by omega)]
  generalize c9 (aj H' nx' (cX f)) (nx + 1)=H1 at *;refine jh ?_;refine yw (only nx' (cX f)) (c9 H1 nx') [(2,.ptr nx 1 0),(5,aB f)] (Fz.one hd) ⟨.inl rfl,.inr (B3 (s:=.msl nx' (k * 2) 2 0 k) (by rw [← hfl]; exact Row.box nx' f.length (cX f) kJ (jf f))),trivial⟩ ?_;have he:∀ x,x < nx'→x ≠ nx + 1→c9 H1 nx' x=H' x:=fun x a b=>by rw [cQ (by omega)]; exact hdo x a b
  have g5:c9 H1 nx' nx=some [sv]:=(he nx (by omega) (by omega)).trans h5;clear hd hdo;generalize c9 H1 nx'=H2 at *;refine wnY (zI3 @g5 @bC @bh) ?_;refine eR (h6.same fun b' hb'=>?_) ?_
  ·have:=h7 b' hb';rw [ab (by omega)]; exact he _ (by omega) (by omega)
  rintro sv' H3 nx3 r1 r2 r3 r4 r5;have zs:∀ x,x < nx + 5→bS sv ≠ some x:=fun x hx e=>by have:=h7 x e; omega
  have z:∀ x,x < nx'→x ≠ nx + 1→bS sv ≠ some x→H3 x=H' x:=fun x a1 a2 a3=>(r4 x (by omega) a3).trans (by rw [ab (by omega)]; exact he x a1 a2);have g6:H3 nx=some [sv]:=(z nx (by omega) (by omega) (zs _ (by omega))).trans h5;obtain ⟨q1,q2⟩:=r1.one;refine wnY (zI3 @g6 @q1 @q2) ?_;have w:∀ x,x ≠ nx→x ≠ nx + 1→aj (aj H3 nx (bu [sv] 0 [sv'])) (nx + 1) [c0] x=H3 x:=fun x a1 a2=>by rw [ab a2,ab a1]
  have u7:∀ b',bS sv'=some b'→nx + 5 ≤ b'∧b' < nx3:=fun b' hb'=>by
   rcases r5 b' hb' with e | ⟨e1,e2⟩
   ·have:=h7 b' e; omega
   ·omega
  refine ⟨rfl,⟨by omega,?_,?_,af,sv',?_,?_,u7⟩,by omega,fun x x1 x2=>?_⟩
  ·rw [w _ (by omega) (by omega),z _ (by omega) (by omega) (zs _ (by omega)),h2]
  ·rw [w _ (by omega) (by omega),z _ (by omega) (by omega) (zs _ (by omega)),h3]
  ·rw [ab (by omega),af]; rfl
  ·rw [db];exact r1.same (fun b' hb'=>w b' (by have:=u7 b' hb'; omega) (by have:=u7 b' hb'; omega))
  ·rw [w _ (by omega) (by omega),z _ (by omega) (by omega) (zs _ (by omega))]
 ·rw [ab (by omega),ab (by omega)]; exact gk
 ·omega
 ·intro H' hH';refine ⟨by omega,?_,?_,?_,.esl,?_,.nil,fun b' hb'=>(by cases hb')⟩
  ·rw [hH' _ (by omega),ab (by omega),ab (by omega),gk]
  ·rw [hH' _ (by omega),ab (by omega),ab (by omega),gs]
  ·rw [hH' _ (by omega),af]
  ·rw [hH' _ (by omega),ab (by omega),af]
 ·rintro r H' nx' ⟨h1,h2,h3,h4,sv,h5,h6,h7⟩;refine .inl ⟨h4,?_⟩;refine wnY @h5 ?_;exact ⟨h6.same (fun b' hb'=>cQ (by have:=h7 b' hb'; omega)),by omega,fun b' hb'=>by have:=h7 b' hb'; omega⟩
end Go.Proofs.YtekdaafnjdlenaaGreat
namespace Go.Proofs.YtekdaafnjdlenaaGreat
open Go Go.Abs
attribute [local irreducible] aA ag a8 aQ aK aL ar aN aU bd Go.Abs.Fn aP Go.Abs.Pure an aG Yl
end Go.Proofs.YtekdaafnjdlenaaGreat
namespace Go.Proofs.YtekdaafnjdlenaaGreat
open Go Go.Abs
def pq (s:Spx) (k:Int):List Spx × Int:=if cf s ≠ 0 then ([],cf s) else if k < 1 ∨ (s.length:Int) < k then ([],2) else (bQ s k.toNat,0)
theorem fZ {H:Hp} {s:AV} {l:List Spx} {e f:Int} (h:Snap H s (aD l)) (he:e=f):Snap H (.tup [s,.int .i64 e]) (.tup [aD l,.int .i64 f]):=by
 subst he; exact bD (ai h (ai (.int _ _) ao))
attribute [local irreducible] aA ag a8 aQ aK aL ar aN aU bd Go.Abs.Fn aP Go.Abs.Pure an aG Yl
theorem A3 (s:Spx) (k:Nat) (H:Hp) (nx:Nat):Abs.Fn Tryz.prog 160 [aB s,.int .i64 k] H nx fun r H' nx'=>r=.func 177 [.ptr (nx + 1) 1 0,.ptr nx 1 0]∧H'=aj (aj H nx [aB s]) (nx + 1) [.int .i64 k]∧nx'=nx + 2:=by
 refine fO GB ?_;simp only [Hm,aJ];refine wnY (aI @bC @bh) ?_;exact ⟨rfl,rfl,rfl⟩
theorem zC {kb sb k:Nat} {s:Spx} {H:Hp} {nx:Nat} (hs:s.length ≤ 8) (hk0:0 < k) (hk:k ≤ 1000) (gk:H kb=some [.int .i64 k]) (gs:H sb=some [aB s]) (lk:kb < nx) (ls:sb < nx) :
    Abs.Fn Tryz.prog 159 [.func 177 [.ptr kb 1 0,.ptr sb 1 0]] H nx fun r H' nx'=>Row H' 1 r ((bQ s k).map aB)∧nx ≤ nx':=by
 refine fO G0 ?_;simp only [FY,aJ];refine wnY and_self ?_;refine bg ev0 ev0 (vA hs hk0 hk gk gs lk ls) ?_;rintro r H1 nx1 ⟨r1,r2,r3⟩;obtain ⟨q1,q2⟩:=r1.one;refine wnY (aI @q1 @q2) ?_;exact ⟨r1,r2⟩
theorem Av (s:Spx) (k:Int) (hs:Shn s):pU 137 [aB s,.int .i64 k] (.tup [aD (pq s k).1,.int .i64 (pq s k).2]):=by
 refine pO F0 ?_;simp only [Ff,aJ];have hc:=qF s hs;unfold pq;by_cases he:cf s=0
 rotate_left
 ·rw [if_pos he];have z:decide (cf s ≠ 0)=true:=aX he;refine wnY @z ?_;exact fZ (.eslsl _) rfl
 rw [if_neg (fun h=>h he)];rw [he] at hc;obtain ⟨p1,p2,p3,p4⟩:=cC he;have z0:decide ((0:Int) ≠ 0)=false:=rfl;by_cases hk:k < 1 ∨ (s.length:Int) < k
 ·rw [if_pos hk];have zz:=aI @z0 @am; repeat' (first|refine zW ?_|apply a_n|apply a_r|refine zO ?_|refine vY ?_|refine cY ?_ (hp:=hc) (hs:=by (first | refine aH ?_ rfl | apply aW); (repeat' (first | exact ao | apply br | apply aY | exact cV _)); first | done | fail)|refine gTY ?_|refine gFY ?_|refine cTY ?_|refine cFY ?_|(refine zGY ?_ ?_ <;> (intro _hg; try (exfalso; omega)))|refine b4 rfl ?_|refine r2Y ?_|fail)
  all_goals first | exact fZ (.eslsl _) rfl | (exfalso; omega)
 rw [if_neg hk];obtain ⟨n,rfl⟩:∃ n:Nat,k=n:=⟨k.toNat,by omega⟩
 rw [cm];refine wnY (aI @z0 @am) ?_;refine bg ev0 ev0 (A3 s n _ _) ?_;rintro _ H1 nx1 ⟨rfl,rfl,rfl⟩;refine bg ev0 ev0 (zC (kb:=0 + 1) (sb:=0) (k:=n) (s:=s) p2 (by omega) (by omega) af (by rw [ab (by omega),af]) (by omega) (by omega)) ?_;rintro r H2 nx2 ⟨r1,r2⟩;obtain ⟨q1,q2⟩:=r1.one;refine wnY (aI @q1 @q2) ?_;exact fZ (lQ r1) rfl
end Go.Proofs.YtekdaafnjdlenaaGreat
namespace Go.Proofs.YtekdaafnjdlenaaGreat
open Go Go.Abs
def sf (l:List Spx) (v:Spx) (k:Nat):List Spx:=if (l.take k).any (fun y=>decide (bq v y < 0))=true then jd bq (l.take k) v else l.take k
theorem zy {l:List Spx} {v:Spx} {k:Nat} (hk:k < l.length):sf l v (k + 1)=(if (l.take k).any (fun y=>decide (bq v y < 0))=false∧bq v (l.getD k default) < 0 then sf l v k ++ [v] else sf l v k) ++ [l.getD k default]∧(l.take (k + 1)).any (fun y=>decide (bq v y < 0))=((l.take k).any (fun y=>decide (bq v y < 0)) || decide (bq v (l.getD k default) < 0)):=by
 unfold sf;rw [dz hk,Bu];refine ⟨?_,rfl⟩;by_cases hv:bq v (l.getD k default) < 0
 ·rw [aX hv,Bool.or_true,if_pos rfl];cases ha:(l.take k).any fun y=>decide (bq v y < 0)
  ·rw [if_pos ⟨rfl,hv⟩,if_neg (by decide),zt ha hv]
  ·rw [if_neg (fun h=>by cases h.1),if_pos rfl,uM ha]
 ·rw [aS hv,Bool.or_false];cases ha:(l.take k).any fun y=>decide (bq v y < 0)
  ·simp;simpa using hv
  ·simp [hv,uM ha]
theorem Az {l:List Spx} {v:Spx} {k:Nat}:(sf l v k).length ≤ l.length + 1:=by
 unfold sf;split
 ·rw [uU,ib]; omega
 ·rw [ib]; omega
attribute [local irreducible] aA ag a8 aQ aK aL ar aN aU bd Go.Abs.Fn aP Go.Abs.Pure an aG Yl
theorem Cp (l:List Spx) (v:Spx) (hl:l.length ≤ 1000000) (hs:∀ s ∈ l,Shn s) (hv:Shn v):pU 105 [aD l,aB v] (aD (jJ bq l v)):=by
 refine pO G6 ?_;simp only [GR,aJ];refine wnY @ae ?_;refine lpI (X:=Nat × AV) (fun x=>[(0,aD l),(1,aB v),(5,x.2),(6,.bool ((l.take x.1).any fun y=>decide (bq v y < 0))),(7,.int .i64 x.1)]) (fun x H nx=>x.1 ≤ l.length∧Row H 1 x.2 ((sf l v x.1).map aB)∧(∀ b,bS x.2=some b→b < nx)∧∀ i,i < x.1→l.getD i default ≠ v) (fun x=>l.length - x.1) (0,.esl) ⟨bB _,Row.nil,fun b h=>(by cases h),fun i h=>absurd h (by omega)⟩ ?_;rintro ⟨k,sv⟩ H nx ⟨hk,hrow,hbd,hne⟩;dsimp only at hk hrow hbd hne ⊢;by_cases hk2:k < l.length
 rotate_left
 ·obtain rfl:k=l.length:=by omega
  unfold sf at hrow;rw [List.take_length] at hrow ⊢
  have hnm:v ∉ l:=fun hm=>by
   obtain ⟨i,hi,e⟩:=jx hm;exact hne i hi (by simp [List.getD,hi,e])
  unfold jJ;rw [if_neg hnm];cases ha:l.any fun y=>decide (bq v y < 0)
  ·rw [ha,if_neg (by decide)] at hrow;refine wnY (zI3 @ae @bC @bh) ?_;refine kX rfl ev0 (hrow.same fun b hb=>?_) ev0 fH rfl rfl (by omega) (by simp; omega) (by simp; omega) ?_
   ·have:=hbd b hb; rw [ab (by omega)]
   rintro s2 H2 nx2 hr2 _ _ _ _;obtain ⟨o1,o2⟩:=hr2.one;refine wnY (aI @o1 @o2) ?_;rw [yW ha];refine lQ ?_;rw [db]; exact hr2
  ·rw [ha,if_pos rfl] at hrow;obtain ⟨o1,o2⟩:=hrow.one;refine wnY (zI3 @ae @o1 @o2) ?_;exact lQ hrow
 have ix:=eI hk2;have hc:=lL v (l.getD k default) hv (hs _ (aC hk2));have hz:=@zp v (l.getD k default);obtain ⟨e1,e2⟩:=zy (v:=v) hk2;have hl1:((sf l v k).map aB).length ≤ 1000001:=by rw [bF]; have:=Az (l:=l) (v:=v) (k:=k); omega
 have hmem:l.getD k default ∈ l:=aC hk2;by_cases h0:bq v (l.getD k default)=0
 ·have e:=hz.1 h0;have hp:jJ bq l v=l:=by unfold jJ; rw [if_pos (by rw [e]; exact hmem)]
  rw [hp];rw [h0] at hc;have z0:decide ((0:Int)=0)=true:=rfl;generalize l.getD k default=w at *;refine wnY (zI5 @ae @ix @z0 @bC @bh) ?_;exact cE _ _
 have hnew:∀ i,i < k + 1→l.getD i default ≠ v:=fun i hi=>by
  rcases ju.1 hi with h' | rfl
  ·exact hne i h'
  ·exact fun e=>h0 (hz.2 e.symm)
 have z0:decide (bq v (l.getD k default)=0)=false:=aS h0;by_cases hd:(l.take k).any (fun y=>decide (bq v y < 0))=false∧bq v (l.getD k default) < 0
 ·rw [if_pos hd] at e1;rw [hd.1,aX hd.2,Bool.false_or] at e2;obtain ⟨d1,d2⟩:=hd;rw [d1];have z:decide (bq v (l.getD k default) < 0)=true:=aX d2;generalize bq v (l.getD k default)=cv at *;generalize l.getD k default=w at *;refine wnY (zI6 @ae @ix @z @z0 @bC @bh) ?_;refine eR (hrow.same fun b hb=>?_) ?_
  ·have:=hbd b hb; rw [ab (by omega)]
  rintro s1 H1 nx1 hr1 j1 j2 j3 j4
  have hb1:∀ b,bS s1=some b→b < nx1:=fun b hb=>by
   rcases j4 b hb with h | h
   ·have:=hbd b h; omega
   ·omega
  obtain ⟨o1,o2⟩:=hr1.one;refine wnY (zI5 @ix @o1 @o2 @bC @bh) ?_;refine kX rfl ev0 (hr1.same fun b hb=>?_) ev0 fH rfl rfl (by omega) (by simp at hl1 ⊢; omega) (by simp at hl1 ⊢; omega) ?_
  ·have:=hb1 b hb; rw [ab (by omega)]
  rintro s2 H2 nx2 hr2 i1 i2 i3 i4;refine wnY @e2 ?_;refine ⟨(k + 1,s2),by dsimp only; omega,⟨by dsimp only; omega,?_,fun b hb=>?_,hnew⟩,(have zz:=@e2; agZ)⟩
  ·dsimp only;rw [e1,db,db]; exact hr2
  ·rcases i4 b hb with h | h
   ·have:=hb1 b h; omega
   ·omega
 rw [if_neg hd] at e1;cases ha:(l.take k).any fun y=>decide (bq v y < 0)
 ·have d2:¬ bq v (l.getD k default) < 0:=fun h=>hd ⟨ha,h⟩;rw [ha,aS d2,Bool.false_or] at e2;have z:decide (bq v (l.getD k default) < 0)=false:=aS d2;generalize bq v (l.getD k default)=cv at *;generalize l.getD k default=w at *;refine wnY (zI6 @ae @ix @z @z0 @bC @bh) ?_;refine eR (hrow.same fun b hb=>?_) ?_
  ·have:=hbd b hb; rw [ab (by omega)]
  rintro s2 H2 nx2 hr2 i1 i2 i3 i4;refine wnY @e2 ?_;refine ⟨(k + 1,s2),by dsimp only; omega,⟨by dsimp only; omega,?_,fun b hb=>?_,hnew⟩,(have zz:=@e2; agZ)⟩
  ·dsimp only;rw [e1,db]; exact hr2
  ·rcases i4 b hb with h | h
   ·have:=hbd b h; omega
   ·omega
 ·rw [ha,Bool.true_or] at e2;generalize bq v (l.getD k default)=cv at *;generalize l.getD k default=w at *;refine wnY (zI5 @ae @ix @z0 @bC @bh) ?_;refine eR (hrow.same fun b hb=>?_) ?_
  ·have:=hbd b hb; rw [ab (by omega)]
  rintro s2 H2 nx2 hr2 i1 i2 i3 i4;refine wnY @e2 ?_;refine ⟨(k + 1,s2),by dsimp only; omega,⟨by dsimp only; omega,?_,fun b hb=>?_,hnew⟩,(have zz:=@e2; agZ)⟩
  ·dsimp only;rw [e1,db]; exact hr2
  ·rcases i4 b hb with h | h
   ·have:=hbd b h; omega
   ·omega
end Go.Proofs.YtekdaafnjdlenaaGreat
namespace Go.Proofs.YtekdaafnjdlenaaGreat
open Go Go.Abs
theorem nW {H:Hp} {t x x':AV} {cs c:List AV} {nb:Nat} (hrow:Row H 1 t (cs ++ [x])) (hx:H nb=some c) (hs:Snap (only nb c) x x') (hne:bS t ≠ some nb):∃ H',Fz (only nb c) H H'∧Row H' 1 t (cs ++ [x'])∧∀ y,y ≠ nb→bS t ≠ some y→H' y=H y:=by
 generalize hcs:cs ++ [x]=ds at hrow;cases hrow with
 | nil=>exact absurd (congrArg List.length hcs) (by simp)
 | box b len ds g1 g2 =>
  have hb:b ≠ nb:=fun e=>hne (by rw [e]; rfl);refine ⟨aj (c9 H nb) b (cs ++ [x']),⟨fun y d h=>?_,fun y d h=>?_⟩,Row.box b len _ af (by rw [← g2,← hcs]; simp),fun y h1 h2=>?_⟩
  ·unfold only at h;split at h
   ·rename_i e; rw [e,hx]; exact h
   ·cases h
  ·by_cases e:y=b
   ·subst e;rw [af] at h; cases h;exact ⟨ds,g1,if_neg hb,by rw [← hcs]; exact fj.snoc hs⟩
   ·rw [ab e] at h;by_cases e2:y=nb
    ·rw [e2] at h; exact absurd h (by simp [c9])
    ·rw [cQ e2] at h;exact ⟨d,h,if_neg e2,fj.refl _ _⟩
  ·rw [ab (fun e=>h2 (by rw [e]; rfl)),cQ h1]
theorem pY {l:Spx} {k:Nat} (h:k ≤ l.length):ig 2 (aB l) (some (.int .i64 k)) none none=some (aB (l.drop k)):=iU h
attribute [local irreducible] aA ag a8 aQ aK aL ar aN aU bd Go.Abs.Fn aP Go.Abs.Pure an aG Yl
theorem wo:∀ (k:Nat) (s:Spx),k ≤ 1000→s.length ≤ 8→pU 104 [aB s,.int .i64 k] (aD (bQ s k)):=by
 intro k
 induction k with
 | zero =>
  intro s hkk hs;refine pO Dh ?_;simp only [Ey,aJ];rw [lF];have z:decide (((0:Nat):Int)=0)=true:=rfl;refine wnY @z ?_;refine gH (l:=[aB []]) af rfl (by simp) rfl (fun y hy=>?_) (fun i a c ha hc=>?_)
  ·simp at hy; subst hy; rfl
  ·match i with
   | 0=>simp at ha hc; subst ha hc; exact .eslsl 2
 | succ k ih =>
  intro s hkk hs;refine pO Dh ?_;simp only [Ey,aJ];have z:decide (((k + 1:Nat):Int)=0)=false:=aS (by omega);have htot:=oQ (l:=s) (k:=k + 1) hs;refine wnY @z ?_;refine lpI (X:=Nat × AV × List Spx) (fun x=>[(0,aB s),(1,.int .i64 ((k + 1:Nat):Int)),(5,x.2.1),(6,.int .i64 x.1)]) (fun x H nx=>x.1 ≤ s.length∧Row H 1 x.2.1 (x.2.2.map aB)∧(∀ b,bS x.2.1=some b→b < nx)∧x.2.2 ++ bQ (s.drop x.1) (k + 1)=bQ s (k + 1)) (fun x=>s.length - x.1) (0,.esl,[]) ⟨bB _,Row.nil,fun b h=>(by cases h),rfl⟩ ?_;rintro ⟨i,sv,D⟩ H nx ⟨h1,hrow,hbd,hD⟩;dsimp only at h1 hrow hbd hD ⊢;by_cases hi:i + (k + 1) ≤ s.length
  rotate_left
  ·have z2:decide ((i:Int) + ((k + 1:Nat):Int) ≤ s.length)=false:=aS (by omega);obtain ⟨o1,o2⟩:=hrow.one;refine wnY (zI4 @am @z2 @o1 @o2) ?_;rw [ji (by rw [vX]; omega),gx] at hD;rw [← hD];exact lQ hrow
  have z2:decide ((i:Int) + ((k + 1:Nat):Int) ≤ s.length)=true:=aX (by omega);have hi2:i < s.length:=by omega
  have tk:((k + 1:Nat):Int) - 1=(k:Nat):=by omega
  have ti:(i:Int) + 1=(i + 1:Nat):=by omega
  have hsl:=pY (l:=s) (k:=i + 1) (by omega);have hcall:=ih (s.drop (i + 1)) (by omega) (by rw [vX]; omega);have hR:=oQ (l:=s.drop (i + 1)) (k:=k) (by rw [vX]; omega)
  have hRl:∀ f ∈ bQ (s.drop (i + 1)) k,f.length ≤ 8:=fun f hf=>by
   have:=(dp.1 hf).1.length_le;rw [vX] at this; omega
  have ix:=ix2 hi2;have hDD:D ++ (bQ (s.drop (i + 1)) k).map (s.getD i default :: ·) ++ bQ (s.drop (i + 1)) (k + 1)=bQ s (k + 1):=by rw [← hD,rt hi2,kW]
  have hDl:D.length + (bQ (s.drop (i + 1)) k).length ≤ 70:=by
   have:=congrArg List.length hDD;rw [cA,cA,bF] at this;omega
  clear hD htot;generalize bQ (s.drop (i + 1)) k=R at *;generalize s.getD i default=v at *;obtain ⟨o1,o2⟩:=hrow.one;refine wnY (zI8 @am @ae @z2 @tk @ti @hsl @o1 @o2) ?_;refine yb (X:=Nat × AV) (fun x=>[(0,aB s),(1,.int .i64 ((k + 1:Nat):Int)),(5,x.2),(6,.int .i64 i),(7,aD R),(8,.int .i64 x.1)]) (fun x H nx=>x.1 ≤ R.length∧Row H 1 x.2 ((D ++ (R.take x.1).map (v :: ·)).map aB)∧∀ b,bS x.2=some b→b < nx) (fun x=>R.length - x.1) (0,sv) ⟨bA,_,Fz.none,⟨bB _,by rw [List.take_zero,List.map_nil,gx]; exact hrow,hbd⟩,iP ag0⟩ ?_;clear hrow hbd o1 o2;rintro ⟨j,sv⟩ H1 nx1 ⟨j1,hrow,hbd⟩;dsimp only at j1 hrow hbd ⊢;obtain ⟨o1,o2⟩:=hrow.one;by_cases hj:j < R.length
  rotate_left
  ·rw [iB (by omega)] at hrow;refine wnY (zI3 @ae @o1 @o2) ?_;exact ⟨(i + 1,sv,D ++ R.map (v :: ·)),by dsimp only; omega,⟨by dsimp only; omega,hrow,hbd,hDD⟩,ag0⟩
  have iy:=eI hj;have hfl:=hRl _ (aC hj)
  have e1:(D ++ (R.take (j + 1)).map (v :: ·)).map aB=(D ++ (R.take j).map (v :: ·)).map aB ++ [aB (v :: R.getD j default)]:=by
   simp only [dz hj,db,kW,fk,List.map_nil]
  have hln:((D ++ (R.take j).map (v :: ·)).map aB).length ≤ 70:=by simp; omega
  generalize R.getD j default=f at *;refine wnY (zI5 @ae @ix @iy @o1 @o2) ?_;refine sF bA rfl (fun y cs h=>by cases h) ?_;refine wnY (aI @ix @iy) ?_;refine f8 ?_;refine wnY and_self ?_;refine ⟨fun y cs h=>(by cases h),?_⟩;refine jD ?_;refine kX (sv:=.msl nx1 2 2 0 1) (cs:=[.int .i64 v.color,.int .i64 v.label]) rfl ev0 (Row.box nx1 1 _ af rfl) ev0 AJ (oN f) (jf f) (by omega) (by simp; omega) (by simp; omega) ?_;rintro s2 H2 nx2 r1 r2 r3 r4 r5
  obtain ⟨b2,rfl,hb2,hb3⟩:∃ b2,s2=.msl b2 ((f.length + 1) * 2) 2 0 (f.length + 1)∧H2 b2=some (cX (v :: f))∧nx1 ≤ b2∧b2 < nx2:=by
   have hcl:=jf (v :: f);have h5:=r5;have r1':Row H2 2 s2 (cX (v :: f)):=r1;generalize cX (v :: f)=cs at r1' hcl ⊢;cases r1' with
   | nil=>simp at hcl
   | box b len cs g1 g2 =>
    obtain rfl:len=f.length + 1:=by rw [hcl] at g2; simp at g2; omega
    refine ⟨b,rfl,g1,?_,?_⟩
    ·rcases h5 b rfl with e | ⟨e,_⟩
     ·cases e; omega
     ·omega
    ·rcases h5 b rfl with e | ⟨e,e2⟩
     ·cases e; omega
     ·omega
  refine qc ?_;refine Fc (pv:=[(0,1,.msl b2 ((f.length + 1) * 2) 2 0 (f.length + 1))]) (cs:=[.msl b2 ((f.length + 1) * 2) 2 0 (f.length + 1)]) ev0 rfl (by decide) rfl rfl ?_;refine jD ?_;have hold:∀ b,b < nx1→H2 b=H1 b:=fun b hb=>by rw [r4 b (by omega) (fun e=>by cases e; omega),ab (by omega)]
  refine kX rfl ev0 (hrow.same fun b hb=>hold b (hbd b hb)) ev0 (k:=1) (new:=[.msl b2 ((f.length + 1) * 2) 2 0 (f.length + 1)]) (by rw [gQ]; rfl) rfl rfl mV (by omega) (by omega) ?_;rintro s3 H3 nx3 u1 u2 u3 u4 u5;have hb4:H3 b2=some (cX (v :: f)):=(u4 b2 (by omega) (fun e=>by have:=hbd b2 e; omega)).trans hb2
  obtain ⟨H4,hfz,hr4,hs4⟩:=nW (x':=aB (v :: f)) u1 hb4 (B3 (Row.box b2 (f.length + 1) _ kJ (jf _))) (fun e=>by
   rcases u5 b2 e with h | h
   ·have:=hbd b2 h; omega
   ·omega)
  refine wnY and_self ?_;refine ⟨(j + 1,s3),by dsimp only; omega,_,H4,hfz,⟨by dsimp only; omega,?_,fun b hb=>?_⟩,iP ag0⟩
  ·dsimp only;rw [e1]; exact hr4
  ·rcases u5 b hb with h | h
   ·have:=hbd b h; omega
   ·omega
end Go.Proofs.YtekdaafnjdlenaaGreat
namespace Go.Proofs.YtekdaafnjdlenaaGreat
open Go Go.Abs
open Nat (reduceEqDiff reduceAdd reduceLeDiff)
def ft (c:List Spx) (k:Nat):List Spx:=kR bq (c.flatMap fun s=>bQ s k)
theorem rC {c:List Spx} {k i:Nat} (hi:i < c.length):(c.take (i + 1)).flatMap (fun s=>bQ s k)=(c.take i).flatMap (fun s=>bQ s k) ++ bQ (c.getD i default) k:=by
 rw [dz hi,List.flatMap_append]; simp
theorem gF {k:Nat}:∀ {c:List Spx},(∀ s ∈ c,s.length ≤ 8)→(c.flatMap fun s=>bQ s k).length ≤ 70 * c.length
 | [],_=>by simp
 | s :: c,h=>by
  rw [sS,cA,dh];have:=oQ (l:=s) (k:=k) (h s d4);have:=gF (k:=k) (c:=c) (fun t ht=>h t (gf _ ht));omega
theorem jM {c:List Spx} {k:Nat} {s:Spx}:s ∈ c.flatMap (fun s=>bQ s k) ↔ ∃ t ∈ c,s ∈ bQ t k:=by rw [List.mem_flatMap]
theorem ye {c:List Spx} {k:Nat} (h:∀ s ∈ c,s.length ≤ 8):∀ s ∈ c.flatMap (fun s=>bQ s k),Shn s:=fun s hs=>by
 obtain ⟨t,t1,t2⟩:=jM.1 hs;have:=(dp.1 t2).1.length_le;have:=h t t1;show _ ≤ _; omega
def c8 (c:List Spx) (k:Int):List Spx × Int:=if ay c ≠ 0 then ([],ay c) else if k < 1 ∨ 8 < k then ([],2) else (ft c k.toNat,0)
attribute [local irreducible] aA ag a8 aQ aK aL ar aN aU bd Go.Abs.Fn aP Go.Abs.Pure an aG Yl
theorem s7 (c:List Spx) (k:Nat) (hc:c.length ≤ 50) (hs:∀ s ∈ c,s.length ≤ 8) (hk:k ≤ 1000):pU 51 [b9 c,.int .i64 k] (aD (ft c k)):=by
 refine pO Hy ?_;simp only [b51,aJ];have hfl:=gF (k:=k) hs;have hfe:=ye (k:=k) hs;refine wnZ (aI @ak @ah) ?_;refine yb (X:=Nat) (fun i=>[(1,.int .i64 k),(2,.ptr 0 1 0),(5,aD (kR bq ((c.take i).flatMap fun s=>bQ s k))),(6,.int .i64 i)]) (fun i H nx=>i ≤ c.length∧H 0=some [aD c]) (fun i=>c.length - i) 0 ⟨bA,_,Fz.none,⟨bB _,af⟩,.inl rfl,.inl rfl,.inr (.eslsl 1),.inl rfl,trivial⟩ ?_;rintro i H nx ⟨h1,g0⟩;by_cases hi:i < c.length
 rotate_left
 ·rw [iB (by omega)];refine wnY (aI @ae @g0) ?_;exact cE _ _
 have ix:=eI hi;have hft:=rC (k:=k) hi;have hpre:∀ s ∈ (c.take (i + 1)).flatMap (fun s=>bQ s k),Shn s:=ye fun s h=>hs s (kU h);have hprl:=gF (k:=k) (c:=c.take (i + 1)) (fun s h=>hs s (kU h));rw [hft] at hpre hprl;rw [ib,cA] at hprl;have hcall:=wo k (c.getD i default) hk (hs _ (aC hi));by_cases hlt:(c.getD i default).length < k
 ·have z:decide (((c.getD i default).length:Int) < k)=true:=aX (by omega);rw [ji hlt,gx] at hft;generalize c.getD i default=s at *;refine wnY (zI5 @ae @am @ix @g0 @z) ?_;exact ⟨i + 1,by omega,bA,_,Fz.none,⟨by omega,g0⟩,iP (have zz:=@hft; agZ)⟩
 have z:decide (((c.getD i default).length:Int) < k)=false:=aS (by omega);generalize c.getD i default=s at *;generalize bQ s k=R at *;generalize (c.take i).flatMap (fun s=>bQ s k)=P at *;refine wnY (zI5 @ae @am @ix @g0 @z) ?_;refine bR (X:=Nat) (fun j=>[(1,.int .i64 k),(2,.ptr 0 1 0),(5,aD (kR bq (P ++ R.take j))),(6,.int .i64 i),(7,aD R),(8,.int .i64 j)]) (fun j H nx=>j ≤ R.length∧H 0=some [aD c]) (fun j=>R.length - j) 0 ⟨bB _,g0⟩ (by simp (disch:=omega) only [agr,ZG,reduceEqDiff,↓reduceIte,List.take_zero,gx]) ?_;clear g0;rintro j H nx ⟨j1,g0⟩;by_cases hj:j < R.length
 rotate_left
 ·rw [iB (by omega)];refine wnY @ae ?_;exact ⟨i + 1,by omega,bA,_,Fz.none,⟨by omega,g0⟩,iP (have zz:=@hft; agZ)⟩
 have iy:=eI hj;have e1:kR bq (P ++ R.take (j + 1))=jJ bq (kR bq (P ++ R.take j)) (R.getD j default):=by rw [dz hj,← kW,yR]
 have hput:=Cp (kR bq (P ++ R.take j)) (R.getD j default) (eW p8 (by rw [cA,ib]; omega)) (fun t ht=>hpre t (by
  have:=mw.1 ht;rcases eX.1 this with h | h
  ·exact mr _ h
  ·exact lW _ (kU h))) (hpre _ (lW _ (aC hj)))
 rw [← e1] at hput;generalize R.getD j default=f at *;refine wnY (aI @ae @iy) ?_;exact ⟨j + 1,by omega,⟨by omega,g0⟩,ag0⟩
theorem tt (c:List Spx) (k:Int) (hc:c.length ≤ 50) (hs:∀ s ∈ c,Shn s):pU 99 [b9 c,.int .i64 k] (.tup [aD (c8 c k).1,.int .i64 (c8 c k).2]):=by
 refine pO HI ?_;simp only [b99,aJ];have hcc:=xQ c (show _ ≤ _ by omega) hs;unfold c8;by_cases he:ay c=0
 rotate_left
 ·rw [if_pos he];have z:decide (ay c ≠ 0)=true:=aX he;refine wnY (zI3 @ak @ah @z) ?_;exact fZ (.eslsl _) rfl
 rw [if_neg (fun h=>h he)];rw [he] at hcc;have z0:decide ((0:Int) ≠ 0)=false:=rfl;obtain ⟨p1,p2,p3,p4⟩:=ce he;by_cases hk:k < 1 ∨ 8 < k
 ·rw [if_pos hk];have zz:=aI @ak (aI @ah @z0); repeat' (first|refine zW ?_|apply a_n|apply a_r|refine zO ?_|refine vY ?_|refine cY ?_ (hp:=hcc) (hs:=by (first | refine aH ?_ rfl | apply aW); (repeat' (first | exact ao | apply br | apply aY | exact eO _)); first | done | fail)|refine bxY ?_|refine gTY ?_|refine gFY ?_|refine cTY ?_|refine cFY ?_|(refine zGY ?_ ?_ <;> (intro _hg; try (exfalso; omega)))|refine b4 rfl ?_|refine r2Y ?_|fail)
  all_goals first | exact fZ (.eslsl _) rfl | (exfalso; omega)
 rw [if_neg hk];obtain ⟨n,rfl⟩:∃ n:Nat,k=n:=⟨k.toNat,by omega⟩
 rw [cm];have h8:∀ s ∈ c,s.length ≤ 8:=fun s h=>(cC (p2 s h)).2.1;have ha:=s7 c n hc h8 (by omega);have hl:(ft c n).length ≤ 3500:=eW p8 (eW (gF h8) (by omega));have z1:decide ((4096:Int) < (ft c n).length)=false:=aS (by omega);refine wnY (zI5 @ak @ah @ae @z0 @z1) ?_;exact fZ (cE _).snap rfl
end Go.Proofs.YtekdaafnjdlenaaGreat
namespace Go.Proofs.YtekdaafnjdlenaaGreat
open Go Go.Abs
open Nat (reduceEqDiff reduceAdd reduceLeDiff)
def fR:Nat→Spx→List Int
 | 0,_=>[]
 | n + 1,[]=>(-1) :: 0 :: fR n []
 | n + 1,v :: l=>v.color :: v.label :: fR n l
theorem mF:∀ {n:Nat} {s:Spx},(fR n s).length=2 * n
 | 0,_=>rfl
 | n + 1,[]=>by show (fR n []).length + 1 + 1=_; rw [mF]; omega
 | n + 1,v :: l=>by show (fR n l).length + 1 + 1=_; rw [mF]; omega
theorem tP:∀ {n:Nat} {s t:Spx},s.length ≤ n→t.length ≤ n→(∀ v ∈ s,0 ≤ v.color)→(∀ v ∈ t,0 ≤ v.color)→fR n s=fR n t→s=t
 | 0,[],[],_,_,_,_,_=>rfl
 | 0,_ :: _,_,h,_,_,_,_=>absurd h (by simp)
 | 0,[],_ :: _,_,h,_,_,_=>absurd h (by simp)
 | n + 1,[],[],_,_,_,_,_=>rfl
 | n + 1,[],w :: m,_,_,_,h2,e=>by
  have:(-1:Int)=w.color:=(List.cons.inj e).1;have:=h2 w d4;omega
 | n + 1,v :: l,[],_,_,h1,_,e=>by
  have:v.color=(-1:Int):=(List.cons.inj e).1;have:=h1 v d4;omega
 | n + 1,v :: l,w :: m,hl,hm,h1,h2,e=>by
  obtain ⟨e1,e2⟩:=List.cons.inj e;obtain ⟨e2,e3⟩:=List.cons.inj e2;have:=tP (n:=n) (by simp at hl; omega) (by simp at hm; omega) (fun x hx=>h1 x (gf _ hx)) (fun x hx=>h2 x (gf _ hx)) e3;rw [this,oM.2 ⟨e1,e2⟩]
def BX (x:List Int):AV:=.agg (x.map (AV.int .i64))
theorem Ad (x:List Int):Dat (BX x):=Dat.agg (by
 induction x with
 | nil=>exact DatL.nil
 | cons a l ih=>exact DatL.cons .int ih)
theorem xG:∀ {n:Nat} {s:Spx},s.length ≤ n→cX s ++ ((fR n []).map (AV.int .i64)).drop (s.length * 2)=(fR n s).map (AV.int .i64)
 | n,[],_=>by simp [cX]
 | 0,_ :: _,h=>absurd h (by simp)
 | n + 1,v :: l,h=>by
  have:=xG (n:=n) (s:=l) (by simp at h; omega);show [AV.int .i64 v.color,AV.int .i64 v.label] ++ cX l ++ _=AV.int .i64 v.color :: AV.int .i64 v.label :: (fR n l).map (AV.int .i64);rw [← this,dh,show (l.length + 1) * 2=l.length * 2 + 1 + 1 by omega];rfl
def kc (k:Nat):List AV:=(fR k [] ++ List.replicate (2 * (8 - k)) 0).map (AV.int .i64)
attribute [local irreducible] aA ag a8 aQ aK aL ar aN aU bd Go.Abs.Fn aP Go.Abs.Pure an aG Yl
theorem CK (s:Spx) (h1:1 ≤ s.length) (hs:s.length ≤ 8):pU 138 [aB s] (BX (fR 8 s)):=by
 refine pO FR ?_;simp only [Gl,aJ];have hn:fM (aB s)=some s.length:=by unfold aB ie; simp [fM]
 have hput:=xG (n:=8) (s:=s) hs;refine wnY and_self ?_;refine lpI (X:=Nat) (fun k=>[(0,aB s),(2,.ptr 0 16 0),(3,.ptr 1 16 0),(5,.int .i64 k)]) (fun k H nx=>k ≤ 8∧H 0=some (kc 0)∧H 1=some (kc k)) (fun k=>8 - k) 0 ⟨bB _,by rw [ab (by omega),af]; rfl,af⟩ ?_;rintro k H nx ⟨hk,g0,g1⟩;rcases (by omega:k=8 ∨ k=0 ∨ k=1 ∨ k=2 ∨ k=3 ∨ k=4 ∨ k=5 ∨ k=6 ∨ k=7) with rfl | rfl | rfl | rfl | rfl | rfl | rfl | rfl | rfl
 ·refine wnY (aI @g0 @g1) ?_;refine G4 rfl g1 rfl rfl ?_;refine wnY and_self ?_;refine Gj (n:=s.length) (H':=aj H 1 ((fR 8 s).map (AV.int .i64))) ?_ ?_
  ·((try simp only [bN,ZA,reduceEqDiff,↓reduceIte,reduceAdd,reduceLeDiff]); (try with_reducible rfl))
   have htr:xN s.length (aB s)=aB s:=by unfold aB ie; simp [xN]; exact iB (by simp)
   have hmin:min s.length 8=s.length:=Nat.min_eq_left hs;have hal:fM (.msl 1 16 2 0 8)=some 8:=rfl;simp only [uG,hal,hn,hmin,if_neg (show ¬ s.length=0 by omega),g1,htr,AJ];rw [if_pos (by refine ⟨?_,?_,?_,?_⟩ <;> first | rfl | trivial | omega | exact oN s)]
   have:bu (kc 8) 0 (cX s)=(fR 8 s).map (AV.int .i64):=by
    rw [← hput];simp only [bu,List.take_zero,List.nil_append,b6,jf];rfl
   rw [this]
  ·have hl:((fR 8 s).map (AV.int .i64)).length=16:=by rw [bF,mF]
   have g1':aj H 1 ((fR 8 s).map (AV.int .i64)) 1=some ((fR 8 s).map (AV.int .i64)):=af;have g0':aj H 1 ((fR 8 s).map (AV.int .i64)) 0=some (kc 0):=by rw [ab (by omega)]; exact g0
   have hl0:(kc 0).length=16:=rfl;unfold BX;have ht:((fR 8 s).map (AV.int .i64)).take 16=(fR 8 s).map (AV.int .i64):=iB (by omega);have hd:=Ad (fR 8 s);unfold BX at hd
   have hfl:AV.ones ((fR 8 s).map (AV.int .i64))=true:=by
    unfold AV.ones;rw [du];intro x hx;obtain ⟨y,_,rfl⟩:=bU.1 hx;rfl
   have hlp:bu (kc 0) 0 ((fR 8 s).map (AV.int .i64))=(fR 8 s).map (AV.int .i64):=by
    simp only [bu,List.take_zero,List.nil_append,b6,hl];rw [List.drop_of_length_le (by decide),gx]
   generalize (fR 8 s).map (AV.int .i64)=K at *;refine wnY (zI5 @g0' @g1' @hl @hl0 @ht) ?_;refine Eg (v:=.agg K) (cs:=kc 0) (vs:=K) (b:=0) (n:=16) (off:=0) rfl ev0 ev0 g0' rfl hfl hl0 hl (by omega) ?_;rw [hlp];refine wnY (aI @hl @ht) ?_;exact hd _
 ·refine wnY (aI @g0 @g1) ?_;refine li (r:=.ptr 1 16 0) rfl rfl rfl ?_;have hl:(kc 0).length=16:=rfl;refine wnY (aI @g1 @hl) ?_;exact ⟨1,by omega,⟨by omega,by rw [ab (by omega)]; exact g0,by rw [af]; rfl⟩,by (iterate 4 refine And.intro rfl ?_); trivial⟩
 ·refine wnY (aI @g0 @g1) ?_;refine li (r:=.ptr 1 16 2) rfl rfl rfl ?_;have hl:(kc 1).length=16:=rfl;refine wnY (aI @g1 @hl) ?_;exact ⟨2,by omega,⟨by omega,by rw [ab (by omega)]; exact g0,by rw [af]; rfl⟩,by (iterate 4 refine And.intro rfl ?_); trivial⟩
 ·refine wnY (aI @g0 @g1) ?_;refine li (r:=.ptr 1 16 4) rfl rfl rfl ?_;have hl:(kc 2).length=16:=rfl;refine wnY (aI @g1 @hl) ?_;exact ⟨3,by omega,⟨by omega,by rw [ab (by omega)]; exact g0,by rw [af]; rfl⟩,by (iterate 4 refine And.intro rfl ?_); trivial⟩
 ·refine wnY (aI @g0 @g1) ?_;refine li (r:=.ptr 1 16 6) rfl rfl rfl ?_;have hl:(kc 3).length=16:=rfl;refine wnY (aI @g1 @hl) ?_;exact ⟨4,by omega,⟨by omega,by rw [ab (by omega)]; exact g0,by rw [af]; rfl⟩,by (iterate 4 refine And.intro rfl ?_); trivial⟩
 ·refine wnY (aI @g0 @g1) ?_;refine li (r:=.ptr 1 16 8) rfl rfl rfl ?_;have hl:(kc 4).length=16:=rfl;refine wnY (aI @g1 @hl) ?_;exact ⟨5,by omega,⟨by omega,by rw [ab (by omega)]; exact g0,by rw [af]; rfl⟩,by (iterate 4 refine And.intro rfl ?_); trivial⟩
 ·refine wnY (aI @g0 @g1) ?_;refine li (r:=.ptr 1 16 10) rfl rfl rfl ?_;have hl:(kc 5).length=16:=rfl;refine wnY (aI @g1 @hl) ?_;exact ⟨6,by omega,⟨by omega,by rw [ab (by omega)]; exact g0,by rw [af]; rfl⟩,by (iterate 4 refine And.intro rfl ?_); trivial⟩
 ·refine wnY (aI @g0 @g1) ?_;refine li (r:=.ptr 1 16 12) rfl rfl rfl ?_;have hl:(kc 6).length=16:=rfl;refine wnY (aI @g1 @hl) ?_;exact ⟨7,by omega,⟨by omega,by rw [ab (by omega)]; exact g0,by rw [af]; rfl⟩,by (iterate 4 refine And.intro rfl ?_); trivial⟩
 ·refine wnY (aI @g0 @g1) ?_;refine li (r:=.ptr 1 16 14) rfl rfl rfl ?_;have hl:(kc 7).length=16:=rfl;refine wnY (aI @g1 @hl) ?_;exact ⟨8,by omega,⟨by omega,by rw [ab (by omega)]; exact g0,by rw [af]; rfl⟩,by (iterate 4 refine And.intro rfl ?_); trivial⟩
end Go.Proofs.YtekdaafnjdlenaaGreat
namespace Go.Proofs.YtekdaafnjdlenaaGreat
open Go Go.Abs
open Nat (reduceEqDiff reduceAdd reduceLeDiff)
attribute [local irreducible] aA ag a8 aQ aK aL ar aN aU bd Go.Abs.Fn aP Go.Abs.Pure an aG Yl
end Go.Proofs.YtekdaafnjdlenaaGreat
namespace Go.Proofs.YtekdaafnjdlenaaGreat
open Go Go.Abs
open Nat (reduceEqDiff reduceAdd reduceLeDiff)
theorem yA {H:Hp} {sz:Nat} {s:AV} {elems:List AV} (h:Row H sz s (elems.flatMap AV.cells)) (hc:∀ y ∈ elems,y.cells.length=sz) (hz:0 < sz) (hd:∀ y ∈ elems,∀ c ∈ y.cells,SnapF H c c):SnapF H s (.sl sz elems):=by
 obtain ⟨f1,f2⟩:=dj elems hc;generalize he:elems.flatMap AV.cells=cs at h;cases h with
 | nil =>
  have:elems.length * sz=0:=by rw [← f1,he]; rfl
  have:elems=[]:=fh.1 (by
   rcases Nat.mul_eq_zero.1 this with h | h
   ·exact h
   ·omega)
  subst this; exact .eslsl sz
 | box b len cs hb hl =>
  have hlen:elems.length=len:=Nat.eq_of_mul_eq_mul_right hz (by rw [← f1,he,hl]);refine .msl b (len * sz) sz 0 len cs elems hb hl (by omega) hlen hc (fun i j y a c hy hc' ha=>?_);have hj:j < sz:=by rw [← hc y (fo hy)]; exact (bw.1 hc').1
  have key:∀ (l:List AV) (i j:Nat) (y c:AV),(∀ z ∈ l,z.cells.length=sz)→l[i]?=some y→y.cells[j]?=some c→j < sz→(l.flatMap AV.cells)[i * sz + j]?=some c:=by
   intro l
   induction l with
   | nil=>intro i j y c _ h; simp at h
   | cons x l ih =>
    intro i j y c hl hy hc hj;rw [sS];cases i with
    | zero =>
     simp at hy; subst hy;rw [sJ,b6,fp (by rw [hl x (by simp)]; exact hj)]; exact hc
    | succ i =>
     rw [ga (by rw [hl x (by simp),eB]; omega),hl x (by simp)];have:=ih i j y c (fun z hz=>hl z (by simp [hz])) (by simpa using hy) hc hj;rw [← this]; congr 1; rw [eB]; omega
  have:=key elems i j y c hc hy hc' hj;rw [he,← b6 (i * sz)] at this;rw [this] at ha; cases ha;exact hd y (fo hy) a (fo hc')
theorem Cc {H:Hp} {s:AV} {l:Spx} (h:Row H 2 s (cX l)):SnapF H s (aB l):=by
 refine yA (elems:=l.map cL) (by rw [xt]; exact h) (fun y hy=>?_) (by omega) (fun y hy c hx=>?_)
 ·obtain ⟨n,_,rfl⟩:=bU.1 hy; rfl
 ·obtain ⟨n,_,rfl⟩:=bU.1 hy;simp only [cL,AV.cells,dF,List.not_mem_nil,or_false] at hx;rcases hx with rfl | rfl <;> exact .int _ _
attribute [local irreducible] aA ag a8 aQ aK aL ar aN aU bd Go.Abs.Fn aP Go.Abs.Pure an aG Yl
section
variable {g:Nat} {caps:List AV} {s:AV}
theorem Ex (hs:c6 s=some (.int .i64 0)) {H:Hp} {nx:Nat}:Abs.Fn Tryz.prog 166 [s,.int .i64 0,.int .i64 0,.func g caps] H nx fun r H' nx'=>nx'=nx∧H'=H:=by
 refine fO Di ?_;simp only [DD,aJ];refine wnZ and_self ?_;refine bR (X:=Unit) (fun x=>[(0,s),(1,.int .i64 0),(2,.int .i64 0),(3,.func g caps),(8,.int .i64 1)]) (fun x H' nx'=>H'=H∧nx'=nx) (fun x=>0) () ⟨rfl,rfl⟩ (by simp (disch:=omega) only [agr,ZG,reduceEqDiff,↓reduceIte,Int.zero_add,true_and]) ?_;rintro _ _ _ ⟨rfl,rfl⟩;refine wnZ and_self ?_;exact ⟨rfl,rfl⟩
theorem Ed (hs:c6 s=some (.int .i64 0)) {H:Hp} {nx:Nat}:Abs.Fn Tryz.prog 155 [s,.int .i64 0,.int .i64 0,.int .i64 0,.func g caps] H nx fun r H' nx'=>nx'=nx∧H'=H:=by
 refine fO Dz ?_;simp only [D8,aJ];refine wnZ and_self ?_;refine bR (X:=Unit) (fun x=>[(0,s),(1,.int .i64 0),(2,.int .i64 0),(3,.int .i64 0),(4,.func g caps)]) (fun x H' nx'=>H'=H∧nx'=nx) (fun x=>0) () ⟨rfl,rfl⟩ ag0 ?_;rintro _ _ _ ⟨rfl,rfl⟩;refine wnZ and_self ?_;refine bg ev0 ev0 (Ex hs) ?_;rintro _ _ _ ⟨rfl,rfl⟩;refine wnZ and_self ?_;exact ⟨rfl,rfl⟩
theorem vh (hs:c6 s=some (.int .i64 0)) {H:Hp} {nx:Nat}:Abs.Fn Tryz.prog 130 [s,.func g caps] H nx fun r H' nx'=>nx'=nx∧H'=H:=by
 refine fO Ds ?_;simp only [D2,aJ];have w8:IntKind.wrap .u64 0=0:=by decide
 refine wnZ (aI @w8 @hs) ?_;refine bg ev0 (have zz:=@w8; evZ) EO ?_;rintro _ _ _ ⟨rfl,rfl,rfl⟩;refine wnZ and_self ?_;refine bg ev0 ev0 (Ed hs) ?_;rintro _ _ _ ⟨rfl,rfl⟩;refine wnZ and_self ?_;exact ⟨rfl,rfl⟩
end
end Go.Proofs.YtekdaafnjdlenaaGreat
namespace Go.Proofs.YtekdaafnjdlenaaGreat
open Go Go.Abs
attribute [local irreducible] aA ag a8 aQ aK aL ar aN aU bd Go.Abs.Fn aP Go.Abs.Pure an aG Yl
theorem Hv:Cmp Tryz.prog aB bq (fun s=>Shn s) 70 [] where
 cells _:=rfl
 one _:=rfl
 dat x:=cV x
 dcaps x hx:=by cases hx
 run x y hx hy:=iw x y hx hy
 ord:=rm.ord
end Go.Proofs.YtekdaafnjdlenaaGreat
namespace Go.Proofs.YtekdaafnjdlenaaGreat
open Go Go.Abs
def K16:Type:={x:List Int // x.length=16}
instance:DecidableEq K16:=inferInstanceAs (DecidableEq {x:List Int // x.length=16})
def kK (s:Spx):K16:=⟨fR 8 s,by rw [mF]⟩
def eK (x:K16):AV:=BX x.1
theorem pg:∀ {n:Nat} {xs ys:List Int},xs.length=n→ys.length=n→cJ (List.replicate n .int) (xs.map (AV.int .i64)) (ys.map (AV.int .i64))=some (decide (xs=ys))
 | 0,[],[],_,_=>rfl
 | 0,_ :: _,_,h,_=>absurd h (by simp)
 | 0,[],_ :: _,_,h=>absurd h (by simp)
 | n + 1,[],_,h,_=>absurd h (by simp)
 | n + 1,_ :: _,[],_,h=>absurd h (by simp)
 | n + 1,x :: xs,y :: ys,h1,h2=>by
  have ih:=pg (n:=n) (xs:=xs) (ys:=ys) (by simpa using h1) (by simpa using h2);have e:(x == y)=decide (x=y):=rfl;rw [List.replicate_succ,fk,fk];by_cases hxy:x=y
  ·subst hxy;simp only [cJ,gG,if_true,e,decide_true,ih];simp
  ·simp only [cJ,gG,if_true,e,aS hxy];simp [hxy]
theorem DL (a b:K16):mA (.st [.int,.int,.int,.int,.int,.int,.int,.int,.int,.int,.int,.int,.int,.int,.int,.int]) (eK a) (eK b)=some (decide (a=b)):=by
 show cJ (List.replicate 16 .int) (a.1.map (AV.int .i64)) (b.1.map (AV.int .i64))=_;rw [pg a.2 b.2]
 congr 1
 exact decide_eq_decide.2 ⟨Subtype.ext,fun h=>congrArg Subtype.val h⟩
theorem EH (v:K16) (ks:List K16):cK (.st [.int,.int,.int,.int,.int,.int,.int,.int,.int,.int,.int,.int,.int,.int,.int,.int]) (eK v) (ks.map eK)=some (if v ∈ ks then some (ks.idxOf v) else none):=kG _ eK DL v ks
theorem Bv (v:K16):iI (.st [.int,.int,.int,.int,.int,.int,.int,.int,.int,.int,.int,.int,.int,.int,.int,.int]) (eK v)=true:=by
 show (16 == (v.1.map (AV.int .i64)).length)=true;rw [bF,v.2]; rfl
def jS (s:Spx):Prop:=1 ≤ s.length∧s.length ≤ 8∧∀ v ∈ s,0 ≤ v.color
theorem D6 {s t:Spx} (hs:jS s) (ht:jS t) (h:kK s=kK t):s=t:=tP hs.2.1 ht.2.1 hs.2.2 ht.2.2 (congrArg Subtype.val h)
theorem DY {O:List Spx} {f:Spx} (hO:∀ s ∈ O,jS s) (hf:jS f):kK f ∈ O.map kK ↔ f ∈ O:=by
 rw [bU];exact ⟨fun ⟨s,h1,h2⟩=>by rw [← D6 (hO s h1) hf h2]; exact h1,fun h=>⟨f,h,rfl⟩⟩
theorem Cw {s:Spx} (h:cf s=0):jS s:=by
 obtain ⟨p1,p2,p3,p4⟩:=cC h;refine ⟨p1,p2,fun v hv=>?_⟩;have:=p4 v hv;unfold eD at this;simp only [cT,eZ] at this;exact this.1.1
theorem Bh {s t:Spx} {k:Nat} (hs:jS s) (hk:1 ≤ k) (h:t ∈ bQ s k):jS t:=by
 obtain ⟨h1,h2⟩:=dp.1 h;exact ⟨by omega,eW h1.length_le hs.2.1,fun v hv=>hs.2.2 v (h1.subset hv)⟩
theorem vC {O L P:List Spx} (hp:L.Perm O) (hs:bi bq 0 L.length L) (hn:O.Nodup) (hm:∀ s,s ∈ O ↔ s ∈ P):L=kR bq P:=by
 refine nN rm ?_ (ue rm P) fun s=>by rw [hp.mem_iff,hm,mw]
 unfold cI;rw [oE];intro i j hi hj hij;have h1:=hs i j (bB _) hij hj;rw [show L.getD i default=L[i] by simp [List.getD,hi],show L.getD j default=L[j] by simp [List.getD,hj]] at h1;rcases rm.tri L[i] L[j] with h | h | h
 ·exact h
 ·have:=(List.nodup_iff_pairwise_ne.1 (hp.nodup_iff.2 hn))
  exact absurd h ((oE.1 this) i j hi hj hij)
 ·exact absurd h h1
end Go.Proofs.YtekdaafnjdlenaaGreat
namespace Go.Proofs.YtekdaafnjdlenaaGreat
open Go Go.Abs
open Nat (reduceEqDiff reduceAdd reduceLeDiff)
attribute [local irreducible] aA ag a8 aQ aK aL ar aN aU bd Go.Abs.Fn aP Go.Abs.Pure an aG Yl
theorem vV (l:List Spx) (k:Nat) (hl:l.length ≤ 50) (hs:∀ s ∈ l,cf s=0) (hk:1 ≤ k∧k ≤ 8):pU 87 [aD l,.int .i64 k] (.tup [aD (ft l k),.int .i64 0]):=by
 refine pO HS ?_;simp only [b87,aJ];have h8:∀ s ∈ l,s.length ≤ 8:=fun s h=>(cC (hs s h)).2.1
 have hgood:∀ s ∈ l.flatMap (fun s=>bQ s k),jS s:=fun s h=>by
  obtain ⟨t,t1,t2⟩:=jM.1 h;exact Bh (Cw (hs t t1)) hk.1 t2
 have hfl:=gF (k:=k) h8;have z0:decide ((0:Int) ≠ 0)=false:=rfl;refine wnY @ae ?_;refine uv ?_;refine wnY @ae ?_;refine lpI (X:=Nat × AV × List Spx) (fun x=>[(1,.int .i64 k),(6,.mp 0),(7,x.2.1),(15,aD l),(16,.int .i64 l.length),(17,.int .i64 x.1)]) (fun x H nx=>x.1 ≤ l.length∧1 ≤ nx∧H 0=some [.omap ((x.2.2.map kK).map eK) (x.2.2.map fun _=>.bool true)]∧Row H 1 x.2.1 (x.2.2.map aB)∧(∀ b,bS x.2.1=some b→1 ≤ b∧b < nx)∧x.2.2.Nodup∧∀ s,s ∈ x.2.2 ↔ s ∈ (l.take x.1).flatMap fun s=>bQ s k) (fun x=>l.length - x.1) (0,.esl,[]) ⟨bB _,by omega,af,Row.nil,fun b h=>(by cases h),List.nodup_nil,fun s=>by simp⟩ ?_;rintro ⟨i,sv,O⟩ H nx ⟨h1,hnx,g0,hrow,hbd,hnd,hmem⟩;dsimp only at h1 g0 hrow hbd hnd hmem ⊢;obtain ⟨o1,o2⟩:=hrow.one;by_cases hi:i < l.length
 rotate_left
 ·rw [iB (by omega)] at hmem
  have hOl:O.length ≤ 3500:=by
   have:=wM hnd (l₂:=l.flatMap fun s=>bQ s k) (fun s h=>(hmem s).1 h);omega
  have hsort:Abs.Fn Tryz.prog 130 [sv,.func 70 []] H nx fun _ H' nx'=>Row H' 1 sv ((ft l k).map aB):=by
   generalize hcs:O.map aB=cs at hrow;cases hrow with
   | nil =>
    have hO0:O=[]:=List.map_eq_nil_iff.1 hcs;refine Abs.Fn.mono (vh rfl) ?_;rintro _ _ _ ⟨rfl,rfl⟩
    have:ft l k=[]:=by
     unfold ft;rw [uJ,vF];intro s h;have:=(hmem s).2 h;rw [hO0] at this; cases this
    rw [this]; exact Row.nil
   | box b len cs k1 k2 =>
    obtain rfl:len=O.length:=by rw [← hcs,bF] at k2; omega
    have hb:=hbd b rfl;subst hcs;by_cases h0:O.length=0
    ·have hO0:O=[]:=fh.1 h0;subst hO0;refine Abs.Fn.mono (vh rfl) ?_;rintro _ _ _ ⟨rfl,rfl⟩
     have:ft l k=[]:=by
      unfold ft;rw [uJ,vF];intro s h;have:=(hmem s).2 h;cases this
     rw [this]; exact Row.box b 0 _ k1 rfl
    ·have hg:∀ s ∈ O,Shn s:=fun s h=>show s.length ≤ _ by have:=(hgood s ((hmem s).1 h)).2.1; omega
     have hsf:=Cr Hv (L:=O) (b:=b) (nx:=nx) (n:=O.length) k1 hb.2 rfl (by omega) hg (by omega);rw [Nat.mul_one];refine Abs.Fn.mono hsf ?_;rintro _ H' nx' ⟨L',ps,p1,p2⟩;have hlen:=p1.length_eq;have:=vC p1 (by rw [hlen]; exact p2) hnd hmem;unfold ft;rw [← this,← hlen];have:=Row.box (H:=H') (sz:=1) b L'.length (L'.map aB) ps.at_ (by simp)
     rwa [Nat.mul_one] at this
  refine wnY and_self ?_;refine bg ev0 ev0 hsort ?_;rintro r H' nx' hr;refine wnY (aI @o1 @o2) ?_;exact fZ (lQ hr) rfl
 have ix:=eI hi;have hft:=rC (k:=k) hi
 have hpm:∀ s ∈ (l.take (i + 1)).flatMap (fun s=>bQ s k),s ∈ l.flatMap fun s=>bQ s k:=fun s h=>by
  obtain ⟨t,t1,t2⟩:=jM.1 h;exact jM.2 ⟨t,kU t1,t2⟩
 have hsi:=hs _ (aC hi);have h8i:=h8 _ (aC hi);have hfx:=Av (l.getD i default) k (show _ ≤ _ by omega)
 have hfe:(l.getD i default).length < k ∨ pq (l.getD i default) k=(bQ (l.getD i default) k,0):=by
  by_cases h:(l.getD i default).length < k
  ·exact .inl h
  ·refine .inr ?_;unfold pq;rw [if_neg (fun h=>h hsi),if_neg (by omega),cm]
 have hcar:∀ s ∈ bQ (l.getD i default) k,jS s:=fun s h=>hgood s (hpm s (by rw [hft]; exact lW _ h));by_cases hlt:(l.getD i default).length < k
 ·have z:decide (((l.getD i default).length:Int) < k)=true:=aX (by omega);rw [ji hlt,gx] at hft;generalize l.getD i default=s at *;refine wnY (zI5 @am @ix @z @o1 @o2) ?_;exact ⟨(i + 1,sv,O),by dsimp only; omega,⟨by dsimp only; omega,hnx,g0,hrow,hbd,hnd,by dsimp only; rw [hft]; exact hmem⟩,ag0⟩
 have z:decide (((l.getD i default).length:Int) < k)=false:=aS (by omega);rw [hfe.resolve_left hlt] at hfx;clear hfe;have hgP:∀ s ∈ (l.take i).flatMap (fun s=>bQ s k),jS s:=fun s h=>hgood s (hpm s (by rw [hft]; exact mr _ h))
 have hPl:((l.take i).flatMap (fun s=>bQ s k) ++ bQ (l.getD i default) k).length ≤ 3500:=by
  rw [← hft];have:=gF (k:=k) (c:=l.take (i + 1)) (fun s h=>h8 s (kU h));rw [ib] at this; omega
 generalize l.getD i default=s at *;generalize bQ s k=R at *;generalize (l.take i).flatMap (fun s=>bQ s k)=P at *;have hRl:R.length ≤ 3500:=by rw [cA] at hPl; omega
 refine wnY (zI7 @am @ae @ix @z @z0 @o1 @o2) ?_;refine bR (X:=Nat × AV × List Spx) (fun x=>[(1,.int .i64 k),(6,.mp 0),(7,x.2.1),(15,aD l),(16,.int .i64 l.length),(17,.int .i64 i),(34,aD R),(35,.int .i64 R.length),(36,.int .i64 x.1)]) (fun x H nx=>x.1 ≤ R.length∧1 ≤ nx∧H 0=some [.omap ((x.2.2.map kK).map eK) (x.2.2.map fun _=>.bool true)]∧Row H 1 x.2.1 (x.2.2.map aB)∧(∀ b,bS x.2.1=some b→1 ≤ b∧b < nx)∧x.2.2.Nodup∧∀ s,s ∈ x.2.2 ↔ s ∈ P ++ R.take x.1) (fun x=>R.length - x.1) (0,sv,O) ⟨bB _,hnx,g0,hrow,hbd,hnd,by dsimp only; rw [List.take_zero,gx]; exact hmem⟩ ag0 ?_;clear g0 hrow hbd hnd hmem hnx o1 o2;rintro ⟨j,sv,O⟩ H nx ⟨j1,hnx,g0,hrow,hbd,hnd,hmem⟩;dsimp only at j1 g0 hrow hbd hnd hmem ⊢;obtain ⟨o1,o2⟩:=hrow.one
 have hOl:O.length ≤ 3500:=by
  have:=wM hnd (l₂:=P ++ R.take j) (fun s h=>(hmem s).1 h);rw [cA,ib] at this;rw [cA] at hPl;omega
 by_cases hj:j < R.length
 rotate_left
 ·rw [iB (by omega)] at hmem;have hls:c6 sv=some (.int .i64 O.length):=hrow.lenS (by rw [bF,Nat.mul_one]) mV;have z1:decide ((4096:Int) < O.length)=false:=aS (by omega);refine wnY (zI4 @hls @z1 @o1 @o2) ?_;exact ⟨(i + 1,sv,O),by dsimp only; omega,⟨by dsimp only; omega,hnx,g0,hrow,hbd,hnd,by dsimp only; rw [hft]; exact hmem⟩,ag0⟩
 have iy:=eI hj;have hgf:=hcar _ (aC hj)
 have hgO:∀ s ∈ O,jS s:=fun s h=>by
  rcases eX.1 ((hmem s).1 h) with h | h
  ·exact hgP s h
  ·exact hcar s (kU h)
 have hkey:=CK (R.getD j default) hgf.1 hgf.2.1;have hts:R.take (j + 1)=R.take j ++ [R.getD j default]:=dz hj;have hmf:=EH (kK (R.getD j default)) (O.map kK);have hmk:=DY hgO hgf;generalize R.getD j default=f at *;by_cases hf:f ∈ O
 ·rw [if_pos (hmk.2 hf)] at hmf;have hlt2:(O.map kK).idxOf (kK f) < (O.map kK).length:=yJ.2 (hmk.2 hf)
  have hgv:mget (.bool false) false (some ((O.map kK).idxOf (kK f))) (O.map fun _=>AV.bool true)=.bool true:=by
   rw [bF] at hlt2;simp [mget,List.getD,hlt2]
  refine wnY (zI3 @iy @o1 @o2) ?_;refine i9 ev0 g0 (by ((try simp only [bN,ZA,reduceEqDiff,↓reduceIte,reduceAdd,reduceLeDiff]); (try with_reducible rfl)); rfl) (Bv (kK f)) hmf ?_;rw [hgv];refine wnY (aI @o1 @o2) ?_;refine ⟨(j + 1,sv,O),by dsimp only; omega,⟨by dsimp only; omega,hnx,g0,hrow,hbd,hnd,fun s=>?_⟩,ag0⟩;dsimp only;rw [hts,← kW,eX,← hmem,dY];exact ⟨.inl,fun h=>h.elim id fun e=>by rw [e]; exact hf⟩
 ·rw [if_neg (fun h=>hf (hmk.1 h))] at hmf;have hgv:mget (.bool false) false none (O.map fun _=>AV.bool true)=.bool false:=rfl;refine wnY (zI3 @iy @o1 @o2) ?_;refine i9 ev0 g0 (by ((try simp only [bN,ZA,reduceEqDiff,↓reduceIte,reduceAdd,reduceLeDiff]); (try with_reducible rfl)); rfl) (Bv (kK f)) hmf ?_;rw [hgv];refine wnY (aI @o1 @o2) ?_;refine pj ev0 g0 (by ((try simp only [bN,ZA,reduceEqDiff,↓reduceIte,reduceAdd,reduceLeDiff]); (try with_reducible rfl)); rfl) ev0 (Bv (kK f)) hmf ?_;refine wnY (zI4 @o1 @o2 @bC @bh) ?_;refine eR (hrow.same fun b hb=>?_) ?_
  ·have:=hbd b hb;rw [ab (by omega),ab (by omega)]
  rintro s2 H2 nx2 hr2 i1 i2 i3 i4;obtain ⟨o3,o4⟩:=hr2.one;refine wnY (aI @o3 @o4) ?_;refine ⟨(j + 1,s2,O ++ [f]),by dsimp only; omega,⟨by dsimp only; omega,by omega,?_,?_,fun b hb=>?_,?_,fun s=>?_⟩,ag0⟩
  ·rw [i3 0 (by omega) (fun h=>by have:=hbd 0 h; omega),ab (by omega),af];simp [ci,fi]
  ·dsimp only;rw [db]; exact hr2
  ·rcases i4 b hb with h | h
   ·have:=hbd b h; omega
   ·omega
  ·exact wj.2 ⟨hnd,by simp,fun a ha c hc=>by simp at hc; subst hc; intro e; subst e; exact hf ha⟩
  ·dsimp only;rw [hts,← kW,eX,eX,← hmem]
end Go.Proofs.YtekdaafnjdlenaaGreat
namespace Go.Proofs.YtekdaafnjdlenaaGreat
open Go Go.Abs
theorem qg (K:Nat→Int):∀ n,(∀ i j,i < j→j < n→K j < 0→K i < 0)→∃ b,b ≤ n∧(∀ i,i < b→K i < 0)∧∀ i,b ≤ i→i < n→0 ≤ K i
 | 0,_=>⟨0,aR _,fun i h=>absurd h (by omega),fun i _ h=>absurd h (by omega)⟩
 | n + 1,hm=>by
  by_cases h:K n < 0
  ·refine ⟨n + 1,aR _,fun i hi=>?_,fun i h1 h2=>absurd h1 (by omega)⟩;by_cases e:i=n
   ·subst e; exact h
   ·exact hm i n (by omega) (by omega) h
  ·obtain ⟨b,h1,h2,h3⟩:=qg K n (fun i j hi hj=>hm i j hi (by omega));refine ⟨b,by omega,h2,fun i hi hi2=>?_⟩;by_cases e:i=n
   ·subst e; omega
   ·exact h3 i hi (by omega)
theorem ya {tb tf:Bool} {i j:Nat}:bc .shr tb tf (.int .u64 ((i:Int) + (j:Int))) (.int .u64 1)=some (.int .u64 (((i + j) / 2:Nat):Int)):=by
 have:=sj (k:=.u64) (a:=i + j) (b:=1) (tb:=tb) (tf:=tf) (k':=.u64) (by decide);simpa using this
attribute [local irreducible] aA ag a8 aQ aK aL ar aN aU bd Go.Abs.Fn aP Go.Abs.Pure an aG Yl
theorem mg (c:List Spx) (k:Int) (hc:c.length ≤ 50) (hs:∀ s ∈ c,Shn s):pU 79 [b9 c,.int .i64 k] (.tup [aD (c8 c k).1,.int .i64 (c8 c k).2]):=by
 refine pO HE ?_;simp only [b79,aJ];have hcc:=kf c (show _ ≤ _ by omega) hs;unfold c8;by_cases he:ay c=0
 rotate_left
 ·rw [if_pos he];have z:decide (ay c ≠ 0)=true:=aX he;refine wnY (zI3 @ak @ah @z) ?_;exact fZ (.eslsl _) rfl
 rw [if_neg (fun h=>h he)];rw [he] at hcc;have z0:decide ((0:Int) ≠ 0)=false:=rfl;obtain ⟨p1,p2,p3,p4⟩:=ce he;by_cases hk:k < 1 ∨ 8 < k
 ·rw [if_pos hk];have zz:=aI @ak (aI @ah @z0); repeat' (first|refine zW ?_|apply a_n|apply a_r|refine zO ?_|refine vY ?_|refine cY ?_ (hp:=hcc) (hs:=by (first | refine aH ?_ rfl | apply aW); (repeat' (first | exact ao | apply br | apply aY | exact eO _)); first | done | fail)|refine bxY ?_|refine gTY ?_|refine gFY ?_|refine cTY ?_|refine cFY ?_|(refine zGY ?_ ?_ <;> (intro _hg; try (exfalso; omega)))|refine b4 rfl ?_|refine r2Y ?_|fail)
  all_goals first | exact fZ (.eslsl _) rfl | (exfalso; omega)
 rw [if_neg hk];obtain ⟨n,rfl⟩:∃ n:Nat,k=n:=⟨k.toNat,by omega⟩
 rw [cm];have ha:=vV c n hc p2 ⟨by omega,by omega⟩;refine wnY (zI4 @ak @ah @ae @z0) ?_;exact fZ (cE _).snap rfl
theorem wu (l:List Spx) (v:Spx) (hl:Shn l) (hs:∀ c ∈ l,Shn c) (hv:Shn v) {b:Nat} (hb:b ≤ l.length) (h1:∀ i,i < b→bq (l.getD i default) v < 0) (h2:∀ i,b ≤ i→i < l.length→0 ≤ bq (l.getD i default) v) :
    pU 132 [aD l,aB v,.func 70 []] (.tup [.int .i64 b,.bool (decide (b < l.length) && decide (bq (l.getD b default) v=0))]):=by
 refine pO GP ?_;simp only [GY,aJ];have hl':l.length ≤ 17592186044416:=hl;refine wnZ (zI3 @bC @bh @ae) ?_;refine ll (X:=Nat × Nat) (fun x=>[(0,aD l),(1,aB v),(2,.func 70 []),(8,.int .i64 l.length),(9,.int .i64 x.1),(10,.int .i64 x.2)]) (fun x=>x.1 ≤ b∧b ≤ x.2∧x.2 ≤ l.length) (fun x=>x.2 - x.1) (0,l.length) ⟨bB _,hb,aR _⟩ ag0 ?_;rintro ⟨i,j⟩ ⟨g1,g2,g3⟩;dsimp only at g1 g2 g3 ⊢;by_cases hij:i < j
 ·have hh:(i + j) / 2 < l.length:=by omega
  have hc:=iw (l.getD ((i + j) / 2) default) v (hs _ (aC hh)) hv;have ix:=eI hh;by_cases hn:bq (l.getD ((i + j) / 2) default) v < 0
  ·have hbb:(i + j) / 2 < b:=Nat.lt_of_not_le fun h=>by have:=h2 _ h hh; omega
   refine wnZ (zI6 @bC @bh @ae @fJ @ya @ix) ?_;exact ⟨((i + j) / 2 + 1,j),⟨by omega,by omega,by omega⟩,by dsimp only; omega,ag0,rfl,rfl⟩
  ·have hbb:b ≤ (i + j) / 2:=Nat.le_of_not_lt fun h=>hn (h1 _ h);refine wnZ (zI6 @bC @bh @ae @fJ @ya @ix) ?_;exact ⟨(i,(i + j) / 2),⟨by omega,by omega,by omega⟩,by dsimp only; omega,ag0,rfl,rfl⟩
 ·have ei:i=b:=by omega
  have ej:j=b:=by omega
  clear hij g1 g2 g3;subst ei;by_cases hlt:i < l.length
  ·have hc:=iw (l.getD i default) v (hs _ (aC hlt)) hv;have ix:=eI hlt;have dlt:decide ((i:Int) < (l.length:Int))=true:=aX (by omega);have dij:decide ((i:Int) < (j:Int))=false:=aS (by omega);refine wnZ (zI6 @bC @bh @ae @ix @dlt @dij) ?_;refine bD (ai (.int _ _) (ai (b5 ?_) ao));rw [aX hlt,Bool.true_and]
  ·have dlt:decide ((i:Int) < (l.length:Int))=false:=aS (by omega);have dij:decide ((i:Int) < (j:Int))=false:=aS (by omega);refine wnZ (zI5 @bC @bh @ae @dlt @dij) ?_;refine bD (ai (.int _ _) (ai (b5 ?_) ao));rw [aS hlt,Bool.false_and]
end Go.Proofs.YtekdaafnjdlenaaGreat
namespace Go.Proofs.YtekdaafnjdlenaaGreat
open Go Go.Abs
def eN (l:List Nat):List Int:=l.map fun (n:Nat)=>(n:Int)
def ez (c:Int) (rows:List (List Int)):AV:=.agg [.int .i64 c,bJ rows]
theorem gM (c:Int) (rows:List (List Int)):Dat (ez c rows):=Dat.agg (DatL.cons .int (DatL.cons (ij _) DatL.nil))
structure MatOk (H:Hp) (b lo hi n:Nat) (F:Nat→List Nat) (vs:List AV):Prop where
 box:H b=some vs
 len:vs.length=n
 row:∀ j,j < n→Row H 1 (vs.getD j .undef) ((F j).map pI)
 bnd:∀ j B,j < n→bS (vs.getD j .undef)=some B→lo ≤ B∧B < hi∧B ≠ b
 apart:∀ i j B,i < n→j < n→i ≠ j→bS (vs.getD i .undef)=some B→bS (vs.getD j .undef) ≠ some B
theorem MatOk.same {H H':Hp} {b lo hi hi' n:Nat} {F G:Nat→List Nat} {vs:List AV} (h:MatOk H b lo hi n F vs) (hb:H' b=H b) (hs:∀ x,lo ≤ x→x < hi→x ≠ b→H' x=H x) (hh:hi ≤ hi') (hG:∀ j,j < n→G j=F j):MatOk H' b lo hi' n G vs :=
 ⟨hb.trans h.box,h.len,fun j hj=>by rw [hG j hj]; exact (h.row j hj).same fun B hB=>by have:=h.bnd j B hj hB; exact hs B this.1 this.2.1 this.2.2,fun j B hj hB=>by have:=h.bnd j B hj hB; exact ⟨this.1,by omega,this.2.2⟩,h.apart⟩
theorem MatOk.put {H H':Hp} {b lo hi hi' n i x:Nat} {F G:Nat→List Nat} {vs:List AV} {sv:AV} (h:MatOk H b lo hi n F vs) (hin:i < n) (hG:∀ j,j < n→G j=if j=i then F j ++ [x] else F j) (hrow:Row H' 1 sv ((F i ++ [x]).map pI)) (hB:∀ B,bS sv=some B→bS (vs.getD i .undef)=some B ∨ hi ≤ B∧B < hi'∧B ≠ b) (hb:H' b=some (vs.set i sv))
    (hs:∀ x,lo ≤ x→x < hi→x ≠ b→bS (vs.getD i .undef) ≠ some x→H' x=H x) (hh:hi ≤ hi') (hlo:lo ≤ hi):MatOk H' b lo hi' n G (vs.set i sv):=by
 have hl:=h.len;have hg:∀ j,(vs.set i sv).getD j .undef=if i=j then sv else vs.getD j .undef:=fun j=>nM (by omega)
 refine ⟨hb,by simp [hl],fun j hj=>?_,fun j B hj=>?_,fun p q B hp hq hpq=>?_⟩
 ·rw [hg,hG j hj];by_cases e:i=j
  ·rw [if_pos e,if_pos e.symm,← e]; exact hrow
  ·rw [if_neg e,if_neg (fun h=>e h.symm)]
   exact (h.row j hj).same fun B hB'=>by
    have:=h.bnd j B hj hB';exact hs B this.1 this.2.1 this.2.2 fun h'=>h.apart i j B hin hj e h' hB'
 ·rw [hg];by_cases e:i=j
  ·rw [if_pos e];intro hB';rcases hB B hB' with h' | h'
   ·have:=h.bnd _ B hin h'; exact ⟨this.1,by omega,this.2.2⟩
   ·exact ⟨by omega,h'.2⟩
  ·rw [if_neg e];intro hB';have:=h.bnd j B hj hB';exact ⟨this.1,by omega,this.2.2⟩
 ·rw [hg,hg];by_cases e1:i=p
  ·rw [if_pos e1,if_neg (by omega)];intro h1 h2;rcases hB B h1 with h' | h'
   ·exact h.apart i q B hin hq (by omega) h' h2
   ·have:=h.bnd q B hq h2; omega
  ·rw [if_neg e1];by_cases e2:i=q
   ·rw [if_pos e2];intro h1 h2;rcases hB B h2 with h' | h'
    ·exact h.apart p i B hp hin (by omega) h1 h'
    ·have:=h.bnd p B hp h1; omega
   ·rw [if_neg e2]; exact h.apart p q B hp hq hpq
theorem MatOk.snap {H:Hp} {b lo hi n:Nat} {F:Nat→List Nat} {vs:List AV} (h:MatOk H b lo hi n F vs):Snap H (.msl b n 1 0 n) (bJ ((List.range n).map fun i=>eN (F i))):=by
 refine gH (l:=((List.range n).map fun i=>eN (F i)).map az) h.box h.len (by omega) (by simp) (fun y hy=>?_) (fun i a c ha hc=>?_)
 ·obtain ⟨z,_,rfl⟩:=bU.1 hy; rfl
 ·have hin:i < n:=by
    have:=(bw.1 hc).1;simpa using this
  have hr:=h.row i hin;rw [b6] at ha;have e1:vs.getD i .undef=a:=by rw [List.getD_eq_getElem?_getD,ha]; rfl
  rw [e1] at hr
  have e2:c=az (eN (F i)):=by
   rw [jt,jt,List.getElem?_range hin] at hc;simpa using hc.symm
  rw [e2];exact xW hr
theorem MatOk.new {H:Hp} {b lo hi n:Nat} {F:Nat→List Nat} (hb:H b=some (List.replicate n .esl)) (hF:∀ j,j < n→F j=[]):MatOk H b lo hi n F (List.replicate n .esl):=by
 have hg:∀ j,j < n→(List.replicate n AV.esl).getD j .undef=.esl:=fun j hj=>by simp [List.getD,List.getElem?_replicate,hj]
 refine ⟨hb,by simp,fun j hj=>?_,fun j B hj h=>?_,fun i j B hi hj _ h=>?_⟩
 ·rw [hg j hj,hF j hj]; exact Row.nil
 ·rw [hg j hj] at h; cases h
 ·rw [hg i hi] at h; cases h
theorem kM {H:Hp} {s:AV} {c:Int} {l:List (List Int)} {e f:Int} (h:Snap H s (bJ l)) (he:e=f):Snap H (.tup [.agg [.int .i64 c,s],.int .i64 e]) (.tup [ez c l,.int .i64 f]):=by
 subst he; exact bD (ai (kr (ai (.int _ _) (ai h ao))) (ai (.int _ _) ao))
theorem ph {c:List Spx} {k:Nat} {s:Spx}:s ∈ ft c k ↔ ∃ t ∈ c,s ∈ bQ t k:=by
 unfold ft; rw [mw,jM]
theorem AX {c:List Spx} {k:Nat}:cI bq (ft c k):=ue rm _
theorem lS {c:List Spx} {k:Nat} (h:c.length ≤ 50) (h8:∀ s ∈ c,s.length ≤ 8):(ft c k).length ≤ 3500:=eW p8 (eW (gF h8) (by omega))
attribute [local irreducible] aA ag a8 aQ aK aL ar aN aU bd Go.Abs.Fn aP Go.Abs.Pure an aG Yl
end Go.Proofs.YtekdaafnjdlenaaGreat
namespace Go.Proofs.YtekdaafnjdlenaaGreat
open Go Go.Abs
theorem sQ {H:Hp} {t x:AV} {cs:List AV} {l:List Nat} (hrow:Row H 1 t (cs ++ [x])) (hx:Row H 1 x (l.map pI)) (hne:∀ b,bS x=some b→bS t ≠ some b):∃ Hf H',Fz Hf H H'∧Row H' 1 t (cs ++ [az (eN l)])∧∀ y,bS x ≠ some y→bS t ≠ some y→H' y=H y:=by
 generalize hds:l.map pI=ds at hx;cases hx with
 | nil =>
  have hl:l=[]:=List.map_eq_nil_iff.1 hds;generalize hcs:cs ++ [AV.esl]=es at hrow;cases hrow with
  | nil=>exact absurd (congrArg List.length hcs) (by simp)
  | box b len es g1 g2 =>
   refine ⟨bA,aj H b (cs ++ [az (eN l)]),⟨fun y d h=>(by cases h),fun y d h=>?_⟩,Row.box b len _ af (by rw [← g2,← hcs]; simp),fun y h1 h2=>?_⟩
   ·by_cases e:y=b
    ·subst e;rw [af] at h; cases h;exact ⟨es,g1,rfl,by rw [← hcs]; exact fj.snoc (by rw [hl]; exact .eslsl 1)⟩
    ·rw [ab e] at h;exact ⟨d,h,rfl,fj.refl _ _⟩
   ·rw [ab (fun e=>h2 (by rw [e]; rfl))]
 | box b len ds g1 g2 =>
  obtain ⟨H',h1,h2,h3⟩:=nW (x':=az (eN l)) hrow g1 (xW (by rw [hds]; exact Row.box b len ds kJ g2)) (hne b rfl);exact ⟨_,H',h1,h2,fun y y1 y2=>h3 y (fun e=>y1 (by rw [e]; rfl)) y2⟩
attribute [local irreducible] aA ag a8 aQ aK aL ar aN aU bd Go.Abs.Fn aP Go.Abs.Pure an aG Yl
end Go.Proofs.YtekdaafnjdlenaaGreat
namespace Go.Proofs.YtekdaafnjdlenaaGreat
open Go Go.Abs
open Nat (reduceEqDiff reduceAdd reduceLeDiff)
theorem xF {x:Int} {l:List Int}:ig 1 (az (x :: l)) (some (.int .i64 1)) none none=some (az l):=iU (l:=x :: l) (k:=1) (by simp)
theorem Dn {x:Int} {l:List Int}:ey 1 (az (x :: l)) (.int .i64 0)=some (.iptr [.int .i64 x] 0):=by
 rw [kA,if_pos ⟨Int.le_refl _,by simp only [dh]; omega⟩]; rfl
theorem m9 {P:Program} {T:Tm} {H:Hp} {nx:Nat} {dm:DM} {K:SP} {l:List Op2} {d:Option Nat} {bytes b N len n:Nat} {s x:Opd} {v:AV} {new C cs:List AV} (hd:dm2 dm T (.app 1 bytes s x)=true) (hs:ov T s=.msl b N 1 0 len) (hb:H b=some C) (hN:C.length=N) (htk:C.take len=cs) (hcl:cs.length=len) (hx:ov T x=v) (hsrc:dD 1 H v=some (n,new)) (ho:AV.ones new=true) (hnl:new.length=n) (hle:len + n ≤ N) (h1:N * bytes ≤ 140737488355328) (h2:N ≤ 9223372036854775807)
    (next:∀ C':List AV,C'.length=N→C'.take (len + n)=cs ++ new→ag P dm l (aE T d (.msl b N 1 0 (len + n))) (aj H b C') nx K) :
    ag P dm (⟨d,none,.app 1 bytes s x⟩ :: l) T H nx K:=by
 by_cases e:len=N
 ·obtain rfl:n=0:=by omega
  obtain rfl:new=[]:=List.eq_nil_of_length_eq_zero hnl;subst e;refine vM hd hs hb hx hsrc ho hN (Nat.mul_one _).symm h1 (by omega) ?_;rw [mG,Nat.mul_one];exact next _ (by rw [gx]; exact hN) (by rw [gx,gx,mG]; exact htk)
 ·refine wR hd hs hb hx hsrc ho hN (fun _=>by omega) (by omega) (by omega) ?_;refine next _ ?_ ?_
  ·rw [fQ (by rw [hnl,hN]; omega)]; exact hN
  ·simp only [bu,b6,Nat.mul_one];rw [htk,CC (by rw [cA,hcl,hnl]; omega),iB (by rw [cA,hcl,hnl]; omega)]
theorem rN {H:Hp} {b N len:Nat} {C:List AV} {R:List Int} (hb:H b=some C) (hN:C.length=N) (hle:len ≤ N) (hR:R.length=len) (h:C.take len=R.map (AV.int .i64)):Snap H (.msl b N 1 0 len) (az R):=by
 refine gH (l:=R.map (AV.int .i64)) hb hN (by omega) (by simp [hR]) (fun y hy=>?_) (fun i a c ha hc=>?_)
 ·obtain ⟨z,_,rfl⟩:=bU.1 hy; rfl
 ·have hin:i < len:=by have:=(bw.1 hc).1; rw [bF] at this; omega
  rw [← h,gy,if_pos hin] at hc;rw [b6,hc] at ha; cases ha
  have hm:a ∈ R.map (AV.int .i64):=by
   rw [← h];exact fo (i:=i) (by rw [gy,if_pos hin]; exact hc)
  obtain ⟨z,_,rfl⟩:=bU.1 hm;exact .int _ _
def bO:List Int→List Int→List Int
 | [],b=>b
 | x :: a,[]=>x :: a
 | x :: a,y :: b=>if x < y then x :: bO a (y :: b) else if y < x then y :: bO (x :: a) b else bO a b
termination_by a b=>a.length + b.length
theorem ke {b:List Int}:bO [] b=b:=by rw [bO]
theorem f0 {a:List Int}:bO a []=a:=by cases a <;> rw [bO]
theorem ki {x y:Int} {a b:List Int}:bO (x :: a) (y :: b)=if x < y then x :: bO a (y :: b) else if y < x then y :: bO (x :: a) b else bO a b:=by rw [bO]
attribute [local irreducible] aA ag a8 aQ aK aL ar aN aU bd Go.Abs.Fn aP Go.Abs.Pure an aG Yl
theorem yC (x:List Int) (n:Int) (hx:x.length ≤ 1000000) (hr:∀ v ∈ x,0 ≤ v∧v < n) (ha:∀ i,i + 1 < x.length→x.getD i default < x.getD (i + 1) default):pU 114 [az x,.int .i64 n] (.int .i64 0):=by
 refine pO G3 ?_;simp only [GH,aJ];refine wnZ and_self ?_;refine ll (X:=Nat) (fun k=>[(0,az x),(1,.int .i64 n),(7,az x),(8,.int .i64 x.length),(9,.int .i64 k)]) (fun k=>k ≤ x.length) (fun k=>x.length - k) 0 (bB _) ag0 ?_;intro k hk;by_cases hk2:k < x.length
 rotate_left
 ·refine wnZ and_self ?_;exact .int _ _
 have h1:=hr _ (bf hk2);have z1:decide (x.getD k default < 0)=false:=aS (by omega);have z2:decide (n ≤ x.getD k default)=false:=aS (by omega);by_cases hk0:0 < k
 rotate_left
 ·have zk:decide (0 < (k:Int))=false:=aS (by omega);refine wnZ (zI3 @z1 @z2 @zk) ?_;exact ⟨k + 1,by omega,by omega,ag0,rfl,rfl⟩
 have zk:decide (0 < (k:Int))=true:=aX (by omega);have h2:=ha (k - 1) (by omega);rw [show k - 1 + 1=k by omega] at h2
 have iy:ey 1 (az x) (.int .i64 ((k:Int) - 1))=some (.iptr [.int .i64 (x.getD (k - 1) default)] 0):=by
  rw [kA,if_pos ⟨by omega,by omega⟩,show ((k:Int) - 1).toNat=k - 1 by omega]
 have z3:decide (x.getD k default ≤ x.getD (k - 1) default)=false:=aS (by omega);refine wnZ (zI5 @z1 @z2 @zk @iy @z3) ?_;exact ⟨k + 1,by omega,by omega,ag0,rfl,rfl⟩
def sq (c:Int) (R:List (List Int)):Prop:=0 ≤ c∧c ≤ 4096∧R.length ≤ 4096∧∀ r ∈ R,(∀ v ∈ r,0 ≤ v∧v < c)∧r.length ≤ 4096∧∀ i,i + 1 < r.length→r.getD i default < r.getD (i + 1) default
theorem xw (c:Int) (R:List (List Int)) (h:sq c R):pU 113 [.agg [.int .i64 c,bJ R]] (.int .i64 0):=by
 refine pO Hn ?_;simp only [Fs,aJ];obtain ⟨h1,h2,h3,h4⟩:=h;have z1:decide (c < 0)=false:=aS (by omega);have z2:decide (4096 < c)=false:=aS (by omega);have z3:decide ((4096:Int) < R.length)=false:=aS (by omega);refine wnZ (zI3 @z1 @z2 @z3) ?_;refine ll (X:=Nat) (fun k=>[(1,.ptr 0 2 0),(21,bJ R),(22,.int .i64 R.length),(23,.int .i64 k)]) (fun k=>k ≤ R.length) (fun k=>R.length - k) 0 (bB _) (by (iterate 4 refine And.intro rfl ?_); trivial) ?_;intro k hk;by_cases hk2:k < R.length
 rotate_left
 ·refine wnZ and_self ?_;exact .int _ _
 obtain ⟨r1,r2,r3⟩:=h4 _ (bf hk2);have hv:=yC (R.getD k default) c (by omega) r1 r3;have z0:decide ((0:Int) ≠ 0)=false:=rfl;refine wnZ @z0 ?_;exact ⟨k + 1,by omega,by omega,ag0,rfl,rfl⟩
theorem yh (a b:List Int) (ha:a.length ≤ 1000000000000) (hb:b.length ≤ 1000000000000):pU 124 [az a,az b] (az (bO a b)):=by
 refine pO E7 ?_;simp only [Gd,aJ];refine wnZ and_self ?_;refine xA (k1:=.i64) (k2:=.i64) (n:=0) (m:=(a.length:Int) + b.length) rfl ev0 ev0 (Int.le_refl _) (by omega) (by omega) (by omega) ?_;rw [show ((a.length:Int) + b.length).toNat=a.length + b.length by omega];have hz:(ba (AV.agg [AV.int .i64 0]) (a.length + b.length)).length=a.length + b.length:=by simp [ba,AV.cells]
 generalize hN:a.length + b.length=N at *;refine wnZ and_self ?_;refine bR (X:=List Int × List Int × List Int × Nat) (fun x=>[(0,az x.1),(1,az x.2.1),(5,.msl 0 N 1 0 x.2.2.2)]) (fun x H nx=>1 ≤ nx∧x.2.2.1.length=x.2.2.2∧x.2.2.2 + x.1.length + x.2.1.length ≤ N∧x.2.2.1 ++ bO x.1 x.2.1=bO a b∧∃ C,H 0=some C∧C.length=N∧C.take x.2.2.2=x.2.2.1.map (AV.int .i64)) (fun x=>x.1.length + x.2.1.length) (a,b,[],0) ⟨aR _,rfl,by dsimp only; omega,rfl,_,af,hz,rfl⟩ (by refine ⟨rfl,rfl,?_,trivial⟩; ((try simp only [bN,ZA,reduceEqDiff,↓reduceIte,reduceAdd,reduceLeDiff]); (try with_reducible rfl)); rfl) ?_;rintro ⟨a',b',D,k⟩ H nx ⟨h1,h2,h3,h4,C,h5,h6,h7⟩;dsimp only at h1 h2 h3 h4 h7 ⊢;have hDl:(D.map (AV.int .i64)).length=k:=by rw [bF]; exact h2
 have hfin:(a'=[] ∨ b'=[])→D ++ (a' ++ b')=bO a b:=fun h=>by
  rcases h with rfl | rfl
  ·rw [ke] at h4; exact h4
  ·rw [f0] at h4; rw [gx]; exact h4
 by_cases hne:a'=[] ∨ b'=[]
 ·have h4:=hfin hne;clear hfin
  have y1:decide ((0:Int) < a'.length)=false ∨ decide ((0:Int) < a'.length)=true∧decide ((0:Int) < b'.length)=false:=by
   rcases hne with rfl | rfl
   ·exact .inl rfl
   ·by_cases h:a'=[]
    ·subst h; exact .inl rfl
    ·exact .inr ⟨aX (by have:=zd.2 h; omega),rfl⟩
  rcases y1 with y1 | ⟨y1,y2⟩
  ·refine wnY @y1 ?_;refine m9 (b:=0) (N:=N) (len:=k) (n:=a'.length) (new:=a'.map (AV.int .i64)) rfl ev0 h5 h6 h7 hDl ev0 eU fT (by rw [bF]) (by omega) (by omega) (by omega) fun C2 c1 c2=>?_;refine wnY and_self ?_;refine m9 (b:=0) (N:=N) (len:=k + a'.length) (n:=b'.length) (new:=b'.map (AV.int .i64)) rfl ev0 af c1 c2 (by rw [cA,hDl,bF]) ev0 eU fT (by rw [bF]) (by omega) (by omega) (by omega) fun C3 c3 c4=>?_;refine wnY and_self ?_;rw [← h4];exact rN af c3 (by omega) (by simp only [cA]; omega) (by rw [← oI,c4,db,db,kW])
  ·refine wnY (aI @y1 @y2) ?_;refine m9 (b:=0) (N:=N) (len:=k) (n:=a'.length) (new:=a'.map (AV.int .i64)) rfl ev0 h5 h6 h7 hDl ev0 eU fT (by rw [bF]) (by omega) (by omega) (by omega) fun C2 c1 c2=>?_;refine wnY and_self ?_;refine m9 (b:=0) (N:=N) (len:=k + a'.length) (n:=b'.length) (new:=b'.map (AV.int .i64)) rfl ev0 af c1 c2 (by rw [cA,hDl,bF]) ev0 eU fT (by rw [bF]) (by omega) (by omega) (by omega) fun C3 c3 c4=>?_;refine wnY and_self ?_;rw [← h4];exact rN af c3 (by omega) (by simp only [cA]; omega) (by rw [← oI,c4,db,db,kW])
 have ha0:a' ≠ []:=fun h=>hne (.inl h);have hb0:b' ≠ []:=fun h=>hne (.inr h);clear hfin hne;obtain ⟨x,a2,rfl⟩:=List.exists_cons_of_ne_nil ha0;obtain ⟨y,b2,rfl⟩:=List.exists_cons_of_ne_nil hb0;rw [ki] at h4;have la:(x :: a2).length=a2.length + 1:=rfl;have lb:(y :: b2).length=b2.length + 1:=rfl;have i1:=Dn (x:=x) (l:=a2);have i2:=Dn (x:=y) (l:=b2);have s1:=xF (x:=x) (l:=a2);have s2:=xF (x:=y) (l:=b2);generalize hA:x :: a2=A at *;generalize hB:y :: b2=B at *;have y1:decide ((0:Int) < A.length)=true:=aX (by omega);have y2:decide ((0:Int) < B.length)=true:=aX (by omega);by_cases g1:x < y
 ·rw [if_pos g1] at h4;have z1:decide (x < y)=true:=aX g1;refine wnY (zI5 @i1 @i2 @y1 @y2 @z1) ?_;refine m9 (b:=0) (N:=N) (len:=k) (n:=1) (new:=[.int .i64 x]) rfl ev0 (by rw [ab (by omega)]; exact h5) h6 h7 hDl ev0 fH rfl rfl (by omega) (by omega) (by omega) fun C2 c1 c2=>?_;refine wnY @s1 ?_;exact ⟨(a2,B,D ++ [x],k + 1),by dsimp only; omega,⟨by omega,by simp [h2],by dsimp only; omega,by simpa using h4,C2,af,c1,by rw [c2,db]; rfl⟩,ag0⟩
 rw [if_neg g1] at h4;have z1:decide (x < y)=false:=aS g1;by_cases g2:y < x
 ·rw [if_pos g2] at h4;have z2:decide (y < x)=true:=aX g2;refine wnY (zI6 @i1 @i2 @y1 @y2 @z1 @z2) ?_;refine m9 (b:=0) (N:=N) (len:=k) (n:=1) (new:=[.int .i64 y]) rfl ev0 (by rw [ab (by omega)]; exact h5) h6 h7 hDl ev0 fH rfl rfl (by omega) (by omega) (by omega) fun C2 c1 c2=>?_;refine wnY @s2 ?_;exact ⟨(A,b2,D ++ [y],k + 1),by dsimp only; omega,⟨by omega,by simp [h2],by dsimp only; omega,by simpa using h4,C2,af,c1,by rw [c2,db]; rfl⟩,ag0⟩
 rw [if_neg g2] at h4;have z2:decide (y < x)=false:=aS g2;refine wnY (zI8 @i1 @i2 @s1 @s2 @y1 @y2 @z1 @z2) ?_;exact ⟨(a2,b2,D,k),by dsimp only; omega,⟨by omega,h2,by dsimp only; omega,h4,C,h5,h6,h7⟩,ag0⟩
end Go.Proofs.YtekdaafnjdlenaaGreat
namespace Go.Proofs.YtekdaafnjdlenaaGreat
open Go Go.Abs
attribute [local irreducible] aA ag a8 aQ aK aL ar aN aU bd Go.Abs.Fn aP Go.Abs.Pure an aG Yl
end Go.Proofs.YtekdaafnjdlenaaGreat
namespace Go.Proofs.YtekdaafnjdlenaaGreat
open Go Go.Abs
def bV (l:List Int):Prop:=l.Pairwise (· < ·)
theorem gL:∀ (n:Nat) (a b:List Int),a.length + b.length ≤ n→bV a→bV b→bV (bO a b)∧∀ z,z ∈ bO a b ↔ (z ∈ a∧z ∉ b) ∨ (z ∈ b∧z ∉ a)
 | _,[],b,_,_,hb=>by rw [ke]; exact ⟨hb,fun z=>by simp⟩
 | _,x :: a,[],_,ha,_=>by rw [f0]; exact ⟨ha,fun z=>by simp⟩
 | 0,x :: a,y :: b,h,_,_=>by simp only [dh] at h; omega
 | n + 1,x :: a,y :: b,h,ha,hb=>by
  simp only [dh] at h;obtain ⟨a1,a2⟩:=jv.1 ha;obtain ⟨b1,b2⟩:=jv.1 hb;rw [ki];by_cases g1:x < y
  ·rw [if_pos g1];obtain ⟨h1,h2⟩:=gL n a (y :: b) (by simp only [dh]; omega) a2 hb
   have hxb:∀ z ∈ y :: b,x < z:=fun z hz=>by
    rcases dF.1 hz with rfl | hz
    ·exact g1
    ·have:=b1 z hz; omega
   refine ⟨jv.2 ⟨fun z hz=>?_,h1⟩,fun z=>?_⟩
   ·rcases (h2 z).1 hz with ⟨q,_⟩ | ⟨q,_⟩
    ·exact a1 z q
    ·exact hxb z q
   ·rw [dF,h2,dF (a:=z) (b:=x)];by_cases hz:z=x
    ·subst hz;have:z ∉ y :: b:=fun q=>by have:=hxb z q; omega
     simp [this]
    ·simp [hz]
  rw [if_neg g1];by_cases g2:y < x
  ·rw [if_pos g2];obtain ⟨h1,h2⟩:=gL n (x :: a) b (by simp only [dh]; omega) ha b2
   have hya:∀ z ∈ x :: a,y < z:=fun z hz=>by
    rcases dF.1 hz with rfl | hz
    ·exact g2
    ·have:=a1 z hz; omega
   refine ⟨jv.2 ⟨fun z hz=>?_,h1⟩,fun z=>?_⟩
   ·rcases (h2 z).1 hz with ⟨q,_⟩ | ⟨q,_⟩
    ·exact hya z q
    ·exact b1 z q
   ·rw [dF,h2,dF (a:=z) (b:=y)];by_cases hz:z=y
    ·subst hz;have:z ∉ x :: a:=fun q=>by have:=hya z q; omega
     simp [this]
    ·simp [hz]
  rw [if_neg g2];obtain rfl:x=y:=by omega
  obtain ⟨h1,h2⟩:=gL n a b (by omega) a2 b2;refine ⟨h1,fun z=>?_⟩;rw [h2];by_cases hz:z=x
  ·subst hz;have q1:z ∉ a:=fun q=>by have:=a1 z q; omega
   have q2:z ∉ b:=fun q=>by have:=b1 z q; omega
   simp [q1,q2]
  ·simp [hz]
theorem BW {l:List Int} (h:bV l) (i:Nat) (hi:i + 1 < l.length):l.getD i default < l.getD (i + 1) default:=by
 have:=(oE.1 h) i (i + 1) (by omega) hi (by omega);simpa [List.getD,hi,show i < l.length by omega] using this
theorem pX:∀ {a b:List Int},bV a→bV b→(∀ z,z ∈ a ↔ z ∈ b)→a=b
 | [],[],_,_,_=>rfl
 | [],y :: b,_,_,h=>absurd ((h y).2 (d4 ..)) (by simp)
 | x :: a,[],_,_,h=>absurd ((h x).1 (d4 ..)) (by simp)
 | x :: a,y :: b,ha,hb,h=>by
  obtain ⟨a1,a2⟩:=jv.1 ha;obtain ⟨b1,b2⟩:=jv.1 hb
  have e:x=y:=by
   rcases dF.1 ((h x).1 (d4 ..)) with e | e
   ·exact e
   ·rcases dF.1 ((h y).2 (d4 ..)) with e2 | e2
    ·exact e2.symm
    ·have:=b1 _ e; have:=a1 _ e2; omega
  subst e
  congr 1
  refine pX a2 b2 fun z=>⟨fun hz=>?_,fun hz=>?_⟩
  ·rcases dF.1 ((h z).1 (gf _ hz)) with e | e
   ·have:=a1 z hz; omega
   ·exact e
  ·rcases dF.1 ((h z).2 (gf _ hz)) with e | e
   ·have:=b1 z hz; omega
   ·exact e
theorem dX {a b:List Int} (ha:bV a) (hb:bV b):bV (bO a b):=(gL _ a b (aR _) ha hb).1
def bit (z:Int) (a:List Int):Nat:=if z ∈ a then 1 else 0
theorem CT {z:Int}:bit z []=0:=by simp [bit]
theorem kd {z:Int} {a:List Int}:bit z a < 2:=by unfold bit; split <;> omega
theorem fg {z:Int} {a:List Int}:bit z a=1 ↔ z ∈ a:=by unfold bit; split <;> simp [*]
theorem dI {a b:List Int} {z:Int} (ha:bV a) (hb:bV b):bit z (bO a b)=(bit z a + bit z b) % 2:=by
 unfold bit;have h:=(gL _ a b (aR _) ha hb).2 z;by_cases h1:z ∈ a <;> by_cases h2:z ∈ b <;> simp [h,h1,h2]
theorem mz {a b:List Int} (ha:bV a) (hb:bV b) (h:∀ z,bit z a=bit z b):a=b :=
 pX ha hb fun z=>by rw [← fg,← fg,h z]
theorem xB {a:List Int} (h:∀ z,bit z a=0):a=[]:=by
 cases a with
 | nil=>rfl
 | cons x l=>exact absurd (h x) (by rw [fg.2 (d4 ..)]; decide)
def ld (r:List Int):Int:=r.getD 0 0
theorem dt {v:List Int} (h:v ≠ []):ld v ∈ v:=by
 cases v with
 | nil=>exact absurd rfl h
 | cons x l=>exact d4 ..
theorem ln {v:List Int} (h:bV v) {z:Int} (hz:z ∈ v):ld v ≤ z:=by
 cases v with
 | nil=>cases hz
 | cons x l =>
  rcases dF.1 hz with rfl | hz
  ·exact Int.le_refl _
  ·exact Int.le_of_lt ((jv.1 h).1 z hz)
inductive Sp (R:List (List Int)):List Int→Prop
 | nil:Sp R []
 | add {v r:List Int}:Sp R v→r ∈ R→Sp R (bO v r)
theorem eA {R:List (List Int)} {r:List Int} (h:r ∈ R):Sp R r:=by
 have:=Sp.add (Sp.nil (R:=R)) h
 rwa [ke] at this
def lB (z:Int) (p:List Int→Bool):List (List Int)→Nat
 | []=>0
 | r :: E=>(if p r=true then bit z r else 0) + lB z p E
theorem lC {z:Int} {p q:List Int→Bool}:∀ {E:List (List Int)},(∀ r ∈ E,p r=q r)→lB z p E=lB z q E
 | [],_=>rfl
 | r :: E,h=>by
  unfold lB;rw [h r (d4 ..),lC fun x hx=>h x (gf _ hx)]
theorem pT {z:Int} {p:List Int→Bool}:∀ {E:List (List Int)},lB z p E ≠ 0→∃ q ∈ E,p q=true∧z ∈ q
 | [],h=>absurd rfl h
 | r :: E,h=>by
  unfold lB at h;by_cases h1:p r=true∧z ∈ r
  ·exact ⟨r,d4 ..,h1⟩
  ·have:lB z p E ≠ 0:=fun e=>by
     rw [e] at h;by_cases h2:p r=true
     ·rw [if_pos h2] at h;have:bit z r=1:=by have:=kd (z:=z) (a:=r); omega
      exact h1 ⟨h2,fg.1 this⟩
     ·rw [if_neg h2] at h; exact h rfl
   obtain ⟨q,q1,q2⟩:=pT this;exact ⟨q,gf _ q1,q2⟩
theorem nu {z:Int} {p:List Int→Bool} {E:List (List Int)} (h:∀ q ∈ E,p q=true→z ∉ q):lB z p E=0 :=
 Decidable.byContradiction fun e=>by
  obtain ⟨q,q1,q2,q3⟩:=pT e;exact h q q1 q2 q3
theorem vU {z:Int} {p:List Int→Bool} {r:List Int}:∀ {E:List (List Int)},E.Nodup→r ∈ E→lB z (fun q=>(p q).xor (decide (q=r))) E % 2=(lB z p E + bit z r) % 2
 | [],_,h=>by cases h
 | q :: E,hn,h=>by
  obtain ⟨n1,n2⟩:=List.nodup_cons.1 hn;unfold lB;by_cases e:q=r
  ·subst e
   rw [lC (q:=p) (fun x hx=>by
    have:x ≠ q:=fun e=>n1 (e ▸ hx);simp [this])]
   cases hp:p q <;> simp <;> have:=kd (z:=z) (a:=q) <;> omega
  ·have h2:r ∈ E:=(dF.1 h).resolve_left fun x=>e x.symm;have:=vU (z:=z) (p:=p) n2 h2;simp only [e,decide_false,Bool.xor_false];omega
theorem uO {z:Int} {p:List Int→Bool} {r:List Int}:∀ {E:List (List Int)},E.Nodup→r ∈ E→z ∈ r→(∀ q ∈ E,z ∈ q→q=r)→lB z p E=if p r=true then 1 else 0
 | [],_,h,_,_=>by cases h
 | q :: E,hn,h,hz,ho=>by
  obtain ⟨n1,n2⟩:=List.nodup_cons.1 hn;unfold lB;by_cases e:q=r
  ·subst e;rw [nu (fun x hx _ hzx=>n1 (ho x (gf _ hx) hzx ▸ hx)),fg.2 hz,mG]
  ·have h2:r ∈ E:=(dF.1 h).resolve_left fun x=>e x.symm;have hq:z ∉ q:=fun x=>e (ho q (d4 ..) x);rw [uO n2 h2 hz fun x hx=>ho x (gf _ hx),show bit z q=0 by unfold bit; rw [if_neg hq]];simp
theorem ww {E:List (List Int)} {v:List Int} (hE:∀ r ∈ E,bV r) (hn:E.Nodup) (h:Sp E v):bV v∧∃ p,∀ z,bit z v=lB z p E % 2:=by
 induction h with
 | nil=>exact ⟨rf,fun _=>false,fun z=>by rw [CT,nu (p:=fun _=>false) fun q _ h=>by cases h]⟩
 | @add w r h1 h2 ih =>
  obtain ⟨ha,p,hp⟩:=ih;refine ⟨dX ha (hE _ h2),fun q=>(p q).xor (decide (q=r)),fun z=>?_⟩;rw [dI ha (hE _ h2),hp z,vU hn h2];omega
theorem w9 {R:List (List Int)} {v:List Int} (hR:∀ r ∈ R,bV r) (h:Sp R v):bV v:=by
 induction h with
 | nil=>exact rf
 | add h1 h2 ih=>exact dX ih (hR _ h2)
structure Red (E:List (List Int)):Prop where
 asc:∀ r ∈ E,bV r
 ne:∀ r ∈ E,r ≠ []
 own:∀ r ∈ E,∀ q ∈ E,ld r ∈ q→q=r
 ord:E.Pairwise fun r q=>ld r < ld q
theorem Red.nodup {E:List (List Int)} (h:Red E):E.Nodup:=wB (fun {x y} (q:ld x < ld y) e=>by rw [e] at q; omega) h.ord
theorem Red.cnt {E:List (List Int)} (h:Red E) {p:List Int→Bool} {r:List Int} (hr:r ∈ E):lB (ld r) p E=if p r=true then 1 else 0 :=
 uO h.nodup hr (dt (h.ne r hr)) fun q hq hz=>h.own r hr q hq hz
theorem Cv {E:List (List Int)} {v w:List Int} (hE:Red E) (hv:Sp E v) (hw:Sp E w) (h:∀ r ∈ E,ld r ∈ v ↔ ld r ∈ w):v=w:=by
 obtain ⟨av,p,hp⟩:=ww hE.asc hE.nodup hv;obtain ⟨aw,q,hq⟩:=ww hE.asc hE.nodup hw;refine mz av aw fun z=>?_;rw [hp z,hq z]
 congr 1
 refine lC fun r hr=>?_;have h1:=h r hr;rw [← fg,← fg,hp,hq,hE.cnt hr,hE.cnt hr] at h1;cases h2:p r <;> cases h3:q r <;> simp [h2,h3] at h1 <;> rfl
theorem uz {p:List Int→Bool}:∀ {E:List (List Int)},E.Pairwise (fun r q=>ld r < ld q)→(∃ r ∈ E,p r=true)→∃ r ∈ E,p r=true∧∀ q ∈ E,p q=true→ld r ≤ ld q
 | [],_,h=>by obtain ⟨_,h,_⟩:=h; cases h
 | x :: E,ho,h=>by
  obtain ⟨o1,o2⟩:=jv.1 ho;by_cases hx:p x=true
  ·refine ⟨x,d4 ..,hx,fun q hq _=>?_⟩;rcases dF.1 hq with rfl | hq
   ·exact Int.le_refl _
   ·exact Int.le_of_lt (o1 q hq)
  ·obtain ⟨r,hr,hp⟩:=h;have hrE:r ∈ E:=(dF.1 hr).resolve_left fun e=>hx (e ▸ hp);obtain ⟨s,s1,s2,s3⟩:=uz o2 ⟨r,hrE,hp⟩;refine ⟨s,gf _ s1,s2,fun q hq hpq=>?_⟩;rcases dF.1 hq with rfl | hq
   ·exact absurd hpq hx
   ·exact s3 q hq hpq
theorem vK {E:List (List Int)} {v:List Int} (hE:Red E) (hv:Sp E v) (h0:v ≠ []):∃ r ∈ E,ld r=ld v:=by
 obtain ⟨av,p,hp⟩:=ww hE.asc hE.nodup hv
 have hex:∃ r ∈ E,p r=true:=Decidable.byContradiction fun hn=>h0 (xB fun z=>by
  rw [hp z,nu fun q hq hpq=>absurd ⟨q,hq,hpq⟩ hn])
 obtain ⟨r,r1,r2,r3⟩:=uz hE.ord hex;refine ⟨r,r1,Int.le_antisymm ?_ ?_⟩
 ·have h1:bit (ld v) v=1:=fg.2 (dt h0);rw [hp] at h1;obtain ⟨q,q1,q2,q3⟩:=pT (z:=ld v) (p:=p) (E:=E) (fun e=>by rw [e] at h1; cases h1);exact Int.le_trans (r3 q q1 q2) (ln (hE.asc q q1) q3)
 ·refine ln av (fg.1 ?_);rw [hp,hE.cnt r1,if_pos r2]
theorem rS:∀ {E F:List (List Int)},E.map ld=F.map ld→(∀ r ∈ E,∀ q ∈ F,ld r=ld q→r=q)→E=F
 | [],[],_,_=>rfl
 | [],_ :: _,h,_=>by cases h
 | _ :: _,[],h,_=>by cases h
 | x :: E,y :: F,h,hi=>by
  obtain ⟨h1,h2⟩:=List.cons.inj h;rw [hi x (d4 ..) y (d4 ..) h1,rS h2 fun r hr q hq=>hi r (gf _ hr) q (gf _ hq)]
theorem AQ {E F:List (List Int)} (hE:Red E) (hF:Red F) (h:∀ v,Sp E v ↔ Sp F v):E=F:=by
 have leads:E.map ld=F.map ld:=by
  refine pX (List.pairwise_map.2 hE.ord) (List.pairwise_map.2 hF.ord) fun z=>?_;rw [bU,bU];constructor
  ·rintro ⟨r,hr,rfl⟩;exact vK hF ((h r).1 (eA hr)) (hE.ne r hr)
  ·rintro ⟨r,hr,rfl⟩;exact vK hE ((h r).2 (eA hr)) (hF.ne r hr)
 refine rS leads fun r hr q hq e=>?_;refine Cv hF ((h r).1 (eA hr)) (eA hq) fun f hf=>⟨fun hfr=>?_,fun hfq=>?_⟩
 ·have hm:ld f ∈ E.map ld:=by rw [leads]; exact bU.2 ⟨f,hf,rfl⟩
  obtain ⟨g,hg,eg⟩:=bU.1 hm;rw [← eg] at hfr;have h1:=hE.own g hg r hr hfr;rw [← eg,← h1,e];exact dt (hF.ne q hq)
 ·have h1:=hF.own f hf q hq hfq;rw [← h1,← e];exact dt (hE.ne r hr)
abbrev Ln:=List Int × List Int
def kP (f:Ln→List Int) (z:Int) (p:Ln→Bool):List Ln→Nat
 | []=>0
 | r :: E=>(if p r=true then bit z (f r) else 0) + kP f z p E
theorem fF {f:Ln→List Int} {z:Int} {p q:Ln→Bool}:∀ {E:List Ln},(∀ r ∈ E,p r=q r)→kP f z p E=kP f z q E
 | [],_=>rfl
 | r :: E,h=>by
  unfold kP;rw [h r (d4 ..),fF fun x hx=>h x (gf _ hx)]
theorem lu {f:Ln→List Int} {z:Int}:∀ {E:List Ln},kP f z (fun _=>false) E=0
 | []=>rfl
 | r :: E=>by unfold kP; rw [lu]; rfl
theorem o8 {f:Ln→List Int} {z:Int} {p:Ln→Bool} {r:Ln}:∀ {E:List Ln},E.Nodup→r ∈ E→kP f z (fun q=>(p q).xor (decide (q=r))) E % 2=(kP f z p E + bit z (f r)) % 2
 | [],_,h=>by cases h
 | q :: E,hn,h=>by
  obtain ⟨n1,n2⟩:=List.nodup_cons.1 hn;unfold kP;by_cases e:q=r
  ·subst e
   rw [fF (q:=p) (fun x hx=>by
    have:x ≠ q:=fun e=>n1 (e ▸ hx);simp [this])]
   cases hp:p q <;> simp <;> have:=kd (z:=z) (a:=f q) <;> omega
  ·have h2:r ∈ E:=(dF.1 h).resolve_left fun x=>e x.symm;have:=o8 (f:=f) (z:=z) (p:=p) n2 h2;simp only [e,decide_false,Bool.xor_false];omega
structure RedU (M:List Ln):Prop where
 asc:∀ l ∈ M,bV l.1∧bV l.2
 ne:∀ l ∈ M,l.1 ≠ []
 own:∀ l ∈ M,∀ m ∈ M,ld l.1 ∈ m.1→m=l
 nodup:M.Nodup
def dx (x l:Ln):Ln:=(bO x.1 l.1,bO x.2 l.2)
def rdL (M:List Ln) (p:Ln→Bool) (x:Ln):Ln:=M.foldl (fun a l=>if p l=true then dx a l else a) x
def b8 (x:Ln):Prop:=bV x.1∧bV x.2
theorem dT {x l:Ln} (hx:b8 x) (hl:b8 l):b8 (dx x l):=⟨dX hx.1 hl.1,dX hx.2 hl.2⟩
theorem iZ {p:Ln→Bool}:∀ {M:List Ln} {x:Ln},(∀ l ∈ M,b8 l)→b8 x→b8 (rdL M p x)
 | [],_,_,hx=>hx
 | l :: M,x,hM,hx=>by
  unfold rdL;rw [List.foldl_cons];refine iZ (M:=M) (fun m hm=>hM m (gf _ hm)) ?_;split
  ·exact dT hx (hM l (d4 ..))
  ·exact hx
theorem ka {p:Ln→Bool} {z:Int}:∀ {M:List Ln} {x:Ln},(∀ l ∈ M,b8 l)→b8 x→bit z (rdL M p x).1=(bit z x.1 + kP Prod.fst z p M) % 2
 | [],x,_,_=>by
  have:=kd (z:=z) (a:=x.1);show bit z x.1=(bit z x.1 + 0) % 2;omega
 | l :: M,x,hM,hx=>by
  have hl:=hM l (d4 ..)
  have hx':b8 (if p l=true then dx x l else x):=by
   split
   ·exact dT hx hl
   ·exact hx
  have ih:=ka (p:=p) (z:=z) (M:=M) (fun m hm=>hM m (gf _ hm)) hx';show bit z (rdL M p (if p l=true then dx x l else x)).1=(bit z x.1 + ((if p l=true then bit z l.1 else 0) + kP Prod.fst z p M)) % 2;rw [ih];clear ih;by_cases h:p l=true
  ·rw [if_pos h,if_pos h];unfold dx;rw [dI hx.1 hl.1];omega
  ·rw [if_neg h,if_neg h];omega
theorem lZ {p:Ln→Bool} {z:Int}:∀ {M:List Ln} {x:Ln},(∀ l ∈ M,b8 l)→b8 x→bit z (rdL M p x).2=(bit z x.2 + kP Prod.snd z p M) % 2
 | [],x,_,_=>by
  have:=kd (z:=z) (a:=x.2);show bit z x.2=(bit z x.2 + 0) % 2;omega
 | l :: M,x,hM,hx=>by
  have hl:=hM l (d4 ..)
  have hx':b8 (if p l=true then dx x l else x):=by
   split
   ·exact dT hx hl
   ·exact hx
  have ih:=lZ (p:=p) (z:=z) (M:=M) (fun m hm=>hM m (gf _ hm)) hx';show bit z (rdL M p (if p l=true then dx x l else x)).2=(bit z x.2 + ((if p l=true then bit z l.2 else 0) + kP Prod.snd z p M)) % 2;rw [ih];clear ih;by_cases h:p l=true
  ·rw [if_pos h,if_pos h];unfold dx;rw [dI hx.2 hl.2];omega
  ·rw [if_neg h,if_neg h];omega
def fY (x:Ln) (l:Ln):Bool:=decide (ld l.1 ∈ x.1)
def fD (M:List Ln) (x:Ln):Ln:=rdL M (fY x) x
theorem Bo {x y:Ln} (hx:b8 x) (hy:b8 y) (h1:∀ z,bit z x.1=bit z y.1) (h2:∀ z,bit z x.2=bit z y.2):x=y :=
 Prod.ext (mz hx.1 hy.1 h1) (mz hx.2 hy.2 h2)
theorem zb {M:List Ln} {x l:Ln} (hM:RedU M) (hx:b8 x) (hl:l ∈ M):fD M (dx x l)=fD M x:=by
 have hla:b8 l:=hM.asc l hl;have hxl:=dT hx hla
 have hp:∀ m ∈ M,fY (dx x l) m=(fY x m).xor (decide (m=l)):=fun m hm=>by
  unfold fY;have h1:ld m.1 ∈ l.1 ↔ m=l:=⟨fun h=>(hM.own m hm l hl h).symm,fun e=>e ▸ dt (hM.ne m hm)⟩
  have h2:=(gL _ x.1 l.1 (aR _) hx.1 hla.1).2 (ld m.1);show decide (ld m.1 ∈ bO x.1 l.1)=_;by_cases b:m=l
  ·subst b;have h3:=dt (hM.ne m hm);by_cases a:ld m.1 ∈ x.1 <;> simp [h2,h3,a]
  ·have h3:ld m.1 ∉ l.1:=fun h=>b (h1.1 h);by_cases a:ld m.1 ∈ x.1 <;> simp [h2,h3,a,b]
 refine Bo (iZ hM.asc hxl) (iZ hM.asc hx) (fun z=>?_) (fun z=>?_)
 ·unfold fD;rw [ka hM.asc hxl,ka hM.asc hx,fF hp];have:=o8 (f:=Prod.fst) (z:=z) (p:=fY x) hM.nodup hl;unfold dx;rw [dI hx.1 hla.1];omega
 ·unfold fD;rw [lZ hM.asc hxl,lZ hM.asc hx,fF hp];have:=o8 (f:=Prod.snd) (z:=z) (p:=fY x) hM.nodup hl;unfold dx;rw [dI hx.2 hla.2];omega
theorem zq {M:List Ln} {x:Ln} (hM:RedU M) (hx:b8 x) (h:∀ l ∈ M,ld l.1 ∉ x.1):fD M x=x:=by
 have hp:∀ m ∈ M,fY x m=false:=fun m hm=>aS (h m hm);refine Bo (iZ hM.asc hx) hx (fun z=>?_) (fun z=>?_)
 ·unfold fD;rw [ka hM.asc hx,fF hp,lu];have:=kd (z:=z) (a:=x.1); omega
 ·unfold fD;rw [lZ hM.asc hx,fF hp,lu];have:=kd (z:=z) (a:=x.2); omega
theorem dy {a b:List Int} {z:Int} (ha:bV a) (hb:bV b):z ∈ bO a b ↔ (z ∈ a∧z ∉ b) ∨ (z ∈ b∧z ∉ a):=(gL _ a b (aR _) ha hb).2 z
theorem gJ {a b c:List Int} (ha:bV a) (hb:bV b) (hc:bV c):bO a (bO b c)=bO (bO a b) c :=
 mz (dX ha (dX hb hc)) (dX (dX ha hb) hc) fun z=>by
  rw [dI ha (dX hb hc),dI hb hc,dI (dX ha hb) hc,dI ha hb]; omega
theorem ir {a:List Int} (ha:bV a):bO a a=[] :=
 xB fun z=>by rw [dI ha ha]; omega
theorem lI {S:List (List Int)} {v w:List Int} (hS:∀ r ∈ S,bV r) (hv:Sp S v) (hw:Sp S w):Sp S (bO v w):=by
 induction hw with
 | nil=>rw [f0]; exact hv
 | @add w r h1 h2 ih =>
  rw [gJ (w9 hS hv) (w9 hS h1) (hS _ h2)];exact Sp.add ih h2
theorem ou {R S:List (List Int)} {v:List Int} (hS:∀ r ∈ S,bV r) (h:∀ r ∈ R,Sp S r) (hv:Sp R v):Sp S v:=by
 induction hv with
 | nil=>exact Sp.nil
 | add h1 h2 ih=>exact lI hS ih (h _ h2)
theorem tv {R S:List (List Int)} {v:List Int} (h:∀ r ∈ R,r ∈ S) (hv:Sp R v):Sp S v:=by
 induction hv with
 | nil=>exact Sp.nil
 | add h1 h2 ih=>exact Sp.add ih (h _ h2)
theorem BT {p:Ln→Bool} {S:List (List Int)} (hS:∀ r ∈ S,bV r):∀ {M:List Ln} {x:Ln},(∀ l ∈ M,b8 l∧l.1 ∈ S)→b8 x→Sp S (bO x.1 (rdL M p x).1)
 | [],x,_,hx=>by
  show Sp S (bO x.1 x.1);rw [ir hx.1]; exact Sp.nil
 | l :: M,x,hM,hx=>by
  obtain ⟨hl,hlS⟩:=hM l (d4 ..);have hM':=fun m hm=>hM m (gf _ hm)
  have hx':b8 (if p l=true then dx x l else x):=by
   split
   ·exact dT hx hl
   ·exact hx
  have ih:=BT (p:=p) hS (M:=M) hM' hx';have hr:=iZ (p:=p) (M:=M) (fun m hm=>(hM' m hm).1) hx';show Sp S (bO x.1 (rdL M p (if p l=true then dx x l else x)).1);by_cases h:p l=true
  ·rw [if_pos h] at ih hr hx' ⊢
   have e:bO x.1 (rdL M p (dx x l)).1=bO (bO (dx x l).1 (rdL M p (dx x l)).1) l.1 :=
    mz (dX hx.1 hr.1) (dX (dX hx'.1 hr.1) hl.1) fun z=>by
     rw [dI hx.1 hr.1,dI (dX hx'.1 hr.1) hl.1,dI hx'.1 hr.1];show _=((bit z (bO x.1 l.1) + _) % 2 + _) % 2;rw [dI hx.1 hl.1];omega
   rw [e];exact Sp.add ih hlS
  ·rw [if_neg h] at ih ⊢;exact ih
theorem rD {M:List Ln} {x:Ln} (hM:RedU M) (hx:b8 x) {l:Ln} (hl:l ∈ M):ld l.1 ∉ (fD M x).1:=by
 rw [← fg];unfold fD;rw [ka hM.asc hx]
 have hc:∀ {E:List Ln},E.Nodup→(∀ m ∈ E,ld l.1 ∈ m.1→m=l)→kP Prod.fst (ld l.1) (fY x) E=if l ∈ E∧fY x l=true then 1 else 0:=by
  intro E
  induction E with
  | nil=>intro _ _; simp [kP]
  | cons m E ih =>
   intro hn ho;obtain ⟨n1,n2⟩:=List.nodup_cons.1 hn;have ih:=ih n2 fun m hm=>ho m (gf _ hm);show (if fY x m=true then bit (ld l.1) m.1 else 0) + kP Prod.fst (ld l.1) (fY x) E=_;rw [ih];by_cases e:m=l
   ·subst e;have hb:bit (ld m.1) m.1=1:=fg.2 (dt (hM.ne m hl));simp [n1,hb]
   ·have hb:bit (ld l.1) m.1=0:=by
      unfold bit;rw [if_neg fun h=>e (ho m (d4 ..) h)]
    have e2:l ≠ m:=fun h=>e h.symm;simp [hb,e2]
 rw [hc hM.nodup fun m hm h=>hM.own l hl m hm h];unfold fY bit;by_cases h:ld l.1 ∈ x.1 <;> simp [h,hl]
def gN (y l:Ln):Ln:=if ld y.1 ∈ l.1 then dx l y else l
def js (M:List Ln) (y:Ln):List Ln:=M.map (gN y) ++ [y]
theorem qB {M:List Ln} {y l:Ln} (hM:RedU M) (hy:b8 y) (h0:y.1 ≠ []) (hn:∀ l ∈ M,ld l.1 ∉ y.1) (hl:l ∈ M) :
    b8 (gN y l)∧(∀ m ∈ M,ld m.1 ∈ (gN y l).1 ↔ l=m)∧ld y.1 ∉ (gN y l).1∧ld (gN y l).1=ld l.1:=by
 have hla:=hM.asc l hl;have how:∀ m ∈ M,ld m.1 ∈ l.1 ↔ l=m:=fun m hm=>⟨fun h=>hM.own m hm l hl h,fun e=>e ▸ dt (hM.ne l hl)⟩
 unfold gN;by_cases h:ld y.1 ∈ l.1
 ·rw [if_pos h];have hs:=fun z=>dy (z:=z) hla.1 hy.1
  have ho:∀ m ∈ M,ld m.1 ∈ (dx l y).1 ↔ l=m:=fun m hm=>by
   show ld m.1 ∈ bO l.1 y.1 ↔ _;rw [hs];have:=hn m hm;rw [← how m hm];simp [this]
  refine ⟨dT hla hy,ho,?_,?_⟩
  ·show ld y.1 ∉ bO l.1 y.1;rw [hs];have:=dt h0;simp [this,h]
  ·have hm:=(ho l hl).2 rfl;refine Int.le_antisymm (ln (dT hla hy).1 hm) ?_;have hne:(dx l y).1 ≠ []:=fun e=>by rw [e] at hm; cases hm
   have hq:=dt hne;rcases (hs _).1 hq with q | q
   ·exact ln hla.1 q.1
   ·exact Int.le_trans (ln hla.1 h) (ln hy.1 q.1)
 ·rw [if_neg h];exact ⟨hla,how,h,rfl⟩
theorem y7 {M:List Ln} {y:Ln} (hM:RedU M) (hy:b8 y) (h0:y.1 ≠ []) (hn:∀ l ∈ M,ld l.1 ∉ y.1):RedU (js M y):=by
 have hf:=fun l (hl:l ∈ M)=>qB hM hy h0 hn hl
 have hmem:∀ {m},m ∈ js M y→(∃ l ∈ M,gN y l=m) ∨ m=y:=fun {m} h=>by
  rcases eX.1 h with h | h
  ·exact .inl (bU.1 h)
  ·exact .inr (dY.1 h)
 constructor
 ·intro m hm;rcases hmem hm with ⟨l,hl,rfl⟩ | rfl
  ·exact (hf l hl).1
  ·exact hy
 ·intro m hm;rcases hmem hm with ⟨l,hl,rfl⟩ | rfl
  ·intro e;have:=((hf l hl).2.1 l hl).2 rfl;rw [e] at this; cases this
  ·exact h0
 ·intro m hm k hk h;rcases hmem hm with ⟨l,hl,rfl⟩ | rfl
  ·rw [(hf l hl).2.2.2] at h;rcases hmem hk with ⟨q,hq,rfl⟩ | rfl
   ·rw [((hf q hq).2.1 l hl).1 h]
   ·exact absurd h (hn l hl)
  ·rcases hmem hk with ⟨q,hq,rfl⟩ | rfl
   ·exact absurd h (hf q hq).2.2.1
   ·rfl
 ·refine wj.2 ⟨?_,by simp,fun a ha b hb e=>?_⟩
  ·refine List.pairwise_map.2 (List.Pairwise.imp_of_mem (fun {a b} ha hb hab e=>hab ?_) hM.nodup);have h1:=(hf a ha).2.2.2;rw [e,(hf b hb).2.2.2] at h1;refine (hM.own b hb a ha ?_);rw [h1]; exact dt (hM.ne a ha)
  ·obtain ⟨l,hl,rfl⟩:=bU.1 ha;rw [dY] at hb;subst hb;have:=(hf l hl).2.2.1;rw [e] at this;exact this (dt h0)
def jB (g:Int→Nat):List Int→Nat
 | []=>0
 | x :: l=>g x + jB g l
theorem l7 {g:Int→Nat}:∀ (n:Nat) (a b:List Int),a.length + b.length ≤ n→jB g (bO a b) % 2=(jB g a + jB g b) % 2
 | _,[],b,_=>by rw [ke]; show _=(0 + jB g b) % 2; rw [b6]
 | _,x :: a,[],_=>by rw [f0]; show _=(jB g (x :: a) + 0) % 2; rw [mG]
 | 0,x :: a,y :: b,h=>by simp only [dh] at h; omega
 | n + 1,x :: a,y :: b,h=>by
  simp only [dh] at h;rw [ki];by_cases g1:x < y
  ·rw [if_pos g1];have ih:=l7 (g:=g) n a (y :: b) (by simp only [dh]; omega);show (g x + jB g (bO a (y :: b))) % 2=(g x + jB g a + jB g (y :: b)) % 2;omega
  rw [if_neg g1];by_cases g2:y < x
  ·rw [if_pos g2];have ih:=l7 (g:=g) n (x :: a) b (by simp only [dh]; omega);show (g y + jB g (bO (x :: a) b)) % 2=(jB g (x :: a) + (g y + jB g b)) % 2;omega
  rw [if_neg g2];obtain rfl:x=y:=by omega
  have ih:=l7 (g:=g) n a b (by omega);show jB g (bO a b) % 2=(g x + jB g a + (g x + jB g b)) % 2;omega
def lN (R:List (List Int)) (n:Nat) (l:Ln):Prop:=(∀ z,bit z l.1=jB (fun j=>bit z (R.getD j.toNat default)) l.2 % 2)∧∀ j ∈ l.2,0 ≤ j∧j < (n:Int)
theorem tV {R:List (List Int)} {n:Nat} {x l:Ln} (hx:b8 x) (hl:b8 l) (h1:lN R n x) (h2:lN R n l):lN R n (dx x l):=by
 refine ⟨fun z=>?_,fun j hj=>?_⟩
 ·show bit z (bO x.1 l.1)=jB _ (bO x.2 l.2) % 2;rw [dI hx.1 hl.1,l7 _ _ _ (aR _),h1.1,h2.1];omega
 ·rcases (dy hx.2 hl.2).1 hj with h | h
  ·exact h1.2 j h.1
  ·exact h2.2 j h.1
theorem wg {R:List (List Int)} {n:Nat} {p:Ln→Bool}:∀ {M:List Ln} {x:Ln},(∀ l ∈ M,b8 l∧lN R n l)→b8 x→lN R n x→lN R n (rdL M p x)
 | [],_,_,_,h=>h
 | l :: M,x,hM,hx,h=>by
  obtain ⟨hl,hlo⟩:=hM l (d4 ..);have hM':=fun m hm=>hM m (gf _ hm);show lN R n (rdL M p (if p l=true then dx x l else x));by_cases hp:p l=true
  ·rw [if_pos hp];exact wg hM' (dT hx hl) (tV hx hl h hlo)
  ·rw [if_neg hp];exact wg hM' hx h
theorem lN.mono {R:List (List Int)} {n m:Nat} {l:Ln} (h:lN R n l) (hn:n ≤ m):lN R m l:=⟨h.1,fun j hj=>by have:=h.2 j hj; omega⟩
def stE (R:List (List Int)):Nat→List Ln × List (List Int)
 | 0=>([],[])
 | i + 1=>if (fD (stE R i).1 (R.getD i default,[(i:Int)])).1=[] then ((stE R i).1,(stE R i).2 ++ [(fD (stE R i).1 (R.getD i default,[(i:Int)])).2]) else (js (stE R i).1 (fD (stE R i).1 (R.getD i default,[(i:Int)])),(stE R i).2)
structure StOk (R:List (List Int)) (i:Nat) (M:List Ln) (D:List (List Int)):Prop where
 red:RedU M
 ok:∀ l ∈ M,lN R i l
 dep:∀ y ∈ D,b8 ([],y)∧lN R i ([],y)
 len:M.length + D.length=i
 inS:∀ l ∈ M,Sp (R.take i) l.1
 all:∀ r ∈ R.take i,Sp (M.map Prod.fst) r
theorem mI {M:List Ln} (h:RedU M):∀ r ∈ M.map Prod.fst,bV r:=fun r hr=>by
 obtain ⟨l,hl,rfl⟩:=bU.1 hr;exact (h.asc l hl).1
theorem mS {R:List (List Int)} (hR:∀ r ∈ R,bV r):∀ {i:Nat},i ≤ R.length→StOk R i (stE R i).1 (stE R i).2
 | 0,_=>⟨⟨fun _ h=>(by cases h),fun _ h=>(by cases h),fun _ h=>(by cases h),List.nodup_nil⟩,fun _ h=>(by cases h),fun _ h=>(by cases h),rfl,fun _ h=>(by cases h),fun _ h=>(by cases h)⟩
 | i + 1,hi=>by
  have ih:=mS hR (i:=i) (by omega);have hx:b8 (R.getD i default,[(i:Int)]):=⟨hR _ (aC (by omega)),List.pairwise_singleton ..⟩
  have hxo:lN R (i + 1) (R.getD i default,[(i:Int)]):=⟨fun z=>by
   have:=kd (z:=z) (a:=R.getD i default);show bit z (R.getD i default)=(bit z (R.getD ((i:Nat):Int).toNat default) + 0) % 2;rw [cm]; omega,fun j hj=>by rw [dY.1 hj]; omega⟩
  have hMo:∀ l ∈ (stE R i).1,b8 l∧lN R (i + 1) l:=fun l hl=>⟨ih.red.asc l hl,(ih.ok l hl).mono (by omega)⟩
  have hya:b8 (fD (stE R i).1 (R.getD i default,[(i:Int)])):=iZ ih.red.asc hx;have hyo:lN R (i + 1) (fD (stE R i).1 (R.getD i default,[(i:Int)])):=wg hMo hx hxo;have hyn:=fun l hl=>rD ih.red hx (l:=l) hl;have hysp:Sp ((stE R i).1.map Prod.fst) (bO (R.getD i default) (fD (stE R i).1 (R.getD i default,[(i:Int)])).1):=BT (mI ih.red) (fun l hl=>⟨ih.red.asc l hl,bU.2 ⟨l,hl,rfl⟩⟩) hx;have htk:R.take (i + 1)=R.take i ++ [R.getD i default]:=dz (by omega);have hTa:∀ r ∈ R.take (i + 1),bV r:=fun r hr=>hR r (kU hr);unfold stE;generalize fD (stE R i).1 (R.getD i default,[(i:Int)])=y at *;generalize (stE R i).1=M at *;generalize (stE R i).2=D at *;have hup:∀ l ∈ M,Sp (R.take (i + 1)) l.1:=fun l hl=>tv (fun r hr=>by rw [htk]; exact mr _ hr) (ih.inS l hl)
  have hMsp:∀ {v},Sp (M.map Prod.fst) v→Sp (R.take (i + 1)) v:=fun hv=>ou hTa (fun r hr=>by
   obtain ⟨l,hl,rfl⟩:=bU.1 hr;exact hup l hl) hv
  by_cases h0:y.1=[]
  ·rw [if_pos h0];rw [h0,f0] at hysp;refine ⟨ih.red,fun l hl=>(hMo l hl).2,fun z hz=>?_,?_,hup,fun r hr=>?_⟩
   ·rcases eX.1 hz with h | h
    ·exact ⟨(ih.dep z h).1,(ih.dep z h).2.mono (by omega)⟩
    ·rw [dY.1 h];have e:(([],y.2):Ln)=y:=by rw [← h0]
     rw [e];exact ⟨hya,hyo⟩
   ·show M.length + (D ++ [y.2]).length=i + 1;rw [cA,List.length_singleton]; have:=ih.len; omega
   ·rw [htk] at hr;rcases eX.1 hr with h | h
    ·exact ih.all r h
    ·rw [dY.1 h]; exact hysp
  ·rw [if_neg h0];have hi2:=y7 ih.red hya h0 hyn
   have hyS:Sp (R.take (i + 1)) y.1:=by
    have h1:=hMsp hysp;have h2:Sp (R.take (i + 1)) (R.getD i default):=eA (by rw [htk]; exact lW _ (dY.2 rfl));have h3:=lI hTa h2 h1
    rwa [gJ hx.1 hx.1 hya.1,ir hx.1,ke] at h3
   have hyI:y ∈ js M y:=lW _ (dY.2 rfl)
   have hcl:∀ l ∈ M,Sp ((js M y).map Prod.fst) l.1:=fun l hl=>by
    have hm:gN y l ∈ js M y:=mr _ (bU.2 ⟨l,hl,rfl⟩);have h1:=eA (bU.2 ⟨_,hm,rfl⟩:(gN y l).1 ∈ (js M y).map Prod.fst);unfold gN at h1;by_cases h:ld y.1 ∈ l.1
    ·rw [if_pos h] at h1;have h2:=lI (mI hi2) h1 (eA (bU.2 ⟨_,hyI,rfl⟩));have hla:=(ih.red.asc l hl).1
     rwa [show (dx l y).1=bO l.1 y.1 from rfl,← gJ hla hya.1 hya.1,ir hya.1,f0] at h2
    ·rwa [if_neg h] at h1
   refine ⟨hi2,fun m hm=>?_,fun z hz=>⟨(ih.dep z hz).1,(ih.dep z hz).2.mono (by omega)⟩,?_,fun m hm=>?_,fun r hr=>?_⟩
   ·rcases eX.1 hm with h | h
    ·obtain ⟨l,hl,rfl⟩:=bU.1 h;unfold gN;split
     ·exact tV (hMo l hl).1 hya (hMo l hl).2 hyo
     ·exact (hMo l hl).2
    ·rw [dY.1 h]; exact hyo
   ·show (js M y).length + D.length=i + 1;unfold js;rw [cA,bF,List.length_singleton]; have:=ih.len; omega
   ·rcases eX.1 hm with h | h
    ·obtain ⟨l,hl,rfl⟩:=bU.1 h;unfold gN;split
     ·exact lI hTa (hup l hl) hyS
     ·exact hup l hl
    ·rw [dY.1 h]; exact hyS
   ·have hMI:∀ {v},Sp (M.map Prod.fst) v→Sp ((js M y).map Prod.fst) v:=fun hv=>ou (mI hi2) (fun r hr=>by
      obtain ⟨l,hl,rfl⟩:=bU.1 hr;exact hcl l hl) hv
    rw [htk] at hr;rcases eX.1 hr with h | h
    ·exact hMI (ih.all r h)
    ·rw [dY.1 h];have h2:=lI (mI hi2) (hMI hysp) (eA (bU.2 ⟨_,hyI,rfl⟩))
     rwa [← gJ hx.1 hya.1 hya.1,ir hya.1,f0] at h2
def kT (M:List Ln) (c:Nat):List Ln:=(List.range c).filterMap fun (k:Nat)=>M.find? fun l=>decide (ld l.1=(k:Int))
theorem nc {M:List Ln} {c:Nat}:kT M (c + 1)=kT M c ++ (M.find? fun l=>decide (ld l.1=(c:Int))).toList:=by
 unfold kT;rw [List.range_succ,List.filterMap_append]
 congr 1
theorem qL {M:List Ln} {c:Nat} {l:Ln} (hM:RedU M):l ∈ kT M c ↔ l ∈ M∧0 ≤ ld l.1∧ld l.1 < c:=by
 unfold kT;rw [List.mem_filterMap];constructor
 ·rintro ⟨k,hk,h⟩;have h1:=List.mem_of_find?_eq_some h;have h2:ld l.1=(k:Int):=by simpa using List.find?_some h
  have:=dB.1 hk;exact ⟨h1,by omega,by omega⟩
 ·rintro ⟨h1,h2,h3⟩;refine ⟨(ld l.1).toNat,dB.2 (by omega),?_⟩;cases h:M.find? fun m=>decide (ld m.1=((ld l.1).toNat:Int)) with
  | none =>
   have:=List.find?_eq_none.1 h l h1;rw [eZ] at this;omega
  | some m =>
   have e:ld m.1=((ld l.1).toNat:Int):=by simpa using List.find?_some h
   have hm:=List.mem_of_find?_eq_some h
   congr 1
   refine hM.own l h1 m hm ?_;rw [show ld l.1=ld m.1 by omega];exact dt (hM.ne m hm)
theorem t7 {M:List Ln} (hM:RedU M):∀ {c:Nat},(kT M c).Pairwise fun a b=>ld a.1 < ld b.1
 | 0=>rf
 | c + 1=>by
  rw [nc];refine List.pairwise_append.2 ⟨t7 hM,?_,fun a ha b hb=>?_⟩
  ·cases M.find? fun l=>decide (ld l.1=(c:Int))
   ·exact rf
   ·exact List.pairwise_singleton ..
  ·have h1:=((qL hM).1 ha).2.2;have h2:ld b.1=(c:Int):=by simpa using List.find?_some (Option.mem_toList.1 hb)
   omega
theorem Ax {M:List Ln} {c:Nat} (hM:RedU M):Red ((kT M c).map Prod.fst):=by
 have hm:∀ r ∈ (kT M c).map Prod.fst,∃ l ∈ M,l.1=r:=fun r hr=>by
  obtain ⟨l,hl,rfl⟩:=bU.1 hr;exact ⟨l,((qL hM).1 hl).1,rfl⟩
 refine ⟨fun r hr=>?_,fun r hr=>?_,fun r hr q hq h=>?_,List.pairwise_map.2 (t7 hM)⟩
 ·obtain ⟨l,hl,rfl⟩:=hm r hr;exact (hM.asc l hl).1
 ·obtain ⟨l,hl,rfl⟩:=hm r hr;exact hM.ne l hl
 ·obtain ⟨l,hl,rfl⟩:=hm r hr;obtain ⟨k,hk,rfl⟩:=hm q hq;rw [hM.own l hl k hk h]
def vN (R:List (List Int)) (c:Nat):List Ln:=kT (stE R R.length).1 c
def mi (R:List (List Int)) (c:Nat):List (List Int):=(vN R c).map Prod.fst
theorem sU {S:List (List Int)} {v:List Int} {P:Int→Prop} (hS:∀ r ∈ S,bV r) (hP:∀ r ∈ S,∀ z ∈ r,P z) (h:Sp S v):∀ z ∈ v,P z:=by
 induction h with
 | nil=>exact fun z hz=>by cases hz
 | @add w r h1 h2 ih =>
  intro z hz;rcases (dy (w9 hS h1) (hS r h2)).1 hz with q | q
  ·exact ih z q.1
  ·exact hP r h2 z q.1
theorem Eo {R:List (List Int)} {c:Nat} (hR:∀ r ∈ R,bV r) (hv:∀ r ∈ R,∀ z ∈ r,0 ≤ z∧z < (c:Int)):Red (mi R c)∧(∀ v,Sp (mi R c) v ↔ Sp R v)∧∀ l,l ∈ vN R c ↔ l ∈ (stE R R.length).1:=by
 have hs:=mS hR (aR R.length);have hin:=hs.inS;have hall:=hs.all;rw [show R.take R.length=R from List.take_length] at hin hall
 have hmem:∀ l,l ∈ vN R c ↔ l ∈ (stE R R.length).1:=fun l=>by
  unfold vN;rw [qL hs.red];refine ⟨fun h=>h.1,fun h=>?_⟩;have:=sU hR hv (hin l h) _ (dt (hs.red.ne l h));exact ⟨h,this.1,this.2⟩
 have hred:Red (mi R c):=Ax hs.red;refine ⟨hred,fun v=>⟨fun h=>ou hR (fun r hr=>?_) h,fun h=>ou hred.asc (fun r hr=>?_) h⟩,hmem⟩
 ·obtain ⟨l,hl,rfl⟩:=bU.1 hr;exact hin l ((hmem l).1 hl)
 ·refine ou hred.asc (fun q hq=>?_) (hall r hr);obtain ⟨l,hl,rfl⟩:=bU.1 hq;exact eA (bU.2 ⟨l,(hmem l).2 hl,rfl⟩)
theorem oS {α:Type} [Inhabited α] {f:Nat→α} {n i:Nat} (h:i < n):((List.range n).map f).getD i default=f i:=by
 simp [List.getD,h]
theorem pB {α:Type} [Inhabited α] {l:List α} {x:α} (h:x ∈ l):∃ i,i < l.length∧l.getD i default=x:=by
 obtain ⟨i,hi,e⟩:=jx h;exact ⟨i,hi,by simp [List.getD,hi,e]⟩
def qN (rows:List (List Int)) (n c:Nat):Option Nat:=(List.range rows.length).find? fun i=>decide (n ≤ i) && decide ((c:Int) ∈ rows.getD i default)
def swI (n k i:Nat):Nat:=if i=n then k else if i=k then n else i
def swL (rows:List (List Int)) (n k:Nat):List (List Int):=(List.range rows.length).map fun i=>rows.getD (swI n k i) default
def elF (rows:List (List Int)) (n c i:Nat):List Int:=if i ≠ n∧(c:Int) ∈ rows.getD i default then bO (rows.getD i default) (rows.getD n default) else rows.getD i default
def elL (rows:List (List Int)) (n c:Nat):List (List Int):=(List.range rows.length).map (elF rows n c)
def stR (R:List (List Int)):Nat→List (List Int) × Nat
 | 0=>(R,0)
 | c + 1=>match qN (stR R c).1 (stR R c).2 c with
  | none=>stR R c
  | some k=>(elL (swL (stR R c).1 (stR R c).2 k) (stR R c).2 c,(stR R c).2 + 1)
structure RdOk (R rows:List (List Int)) (n c:Nat):Prop where
 asc:∀ i,i < R.length→bV (rows.getD i default)
 len:rows.length=R.length
 nle:n ≤ R.length
 sp:∀ v,Sp rows v ↔ Sp R v
 top:∀ i,i < n→rows.getD i default ≠ []∧ld (rows.getD i default) < c
 own:∀ i,i < n→∀ j,j < R.length→ld (rows.getD i default) ∈ rows.getD j default→j=i
 ord:∀ i j,i < j→j < n→ld (rows.getD i default) < ld (rows.getD j default)
 low:∀ i,n ≤ i→i < R.length→∀ z ∈ rows.getD i default,(c:Int) ≤ z
theorem lM {n k i N:Nat} (hn:n < N) (hk:k < N) (hi:i < N):swI n k i < N:=by
 unfold swI; split
 ·exact hk
 ·split
  ·exact hn
  ·exact hi
theorem ul {n k i:Nat}:swI n k (swI n k i)=i:=by
 unfold swI;by_cases h1:i=n
 ·subst h1; rw [if_pos rfl]; by_cases h2:k=i
  ·rw [if_pos h2]; exact h2
  ·rw [if_neg h2,if_pos rfl]
 ·rw [if_neg h1];by_cases h2:i=k
  ·rw [if_pos h2,if_pos rfl]; exact h2.symm
  ·rw [if_neg h2,if_neg h1,if_neg h2]
theorem C9 {rows:List (List Int)} {N:Nat} (hl:rows.length=N) (h:∀ i,i < N→bV (rows.getD i default)):∀ r ∈ rows,bV r:=fun r hr=>by
 obtain ⟨i,hi,e⟩:=pB hr;rw [← e]; exact h i (by omega)
theorem DA {rows:List (List Int)} {n k:Nat} (hn:n < rows.length) (hk:k < rows.length) (v:List Int):Sp (swL rows n k) v ↔ Sp rows v:=by
 constructor
 ·refine tv fun r hr=>?_;obtain ⟨i,hi,rfl⟩:=bU.1 hr;exact aC (lM hn hk (dB.1 hi))
 ·refine tv fun r hr=>?_;obtain ⟨i,hi,rfl⟩:=pB hr;refine bU.2 ⟨swI n k i,dB.2 (lM hn hk hi),?_⟩;rw [ul]
theorem Ei {rows:List (List Int)} {n c:Nat} (ha:∀ i,i < rows.length→bV (rows.getD i default)) (hn:n < rows.length) (v:List Int):Sp (elL rows n c) v ↔ Sp rows v:=by
 have hE:∀ i,i < rows.length→bV (elF rows n c i):=fun i hi=>by
  unfold elF;split
  ·exact dX (ha i hi) (ha n hn)
  ·exact ha i hi
 have hEa:∀ r ∈ elL rows n c,bV r:=fun r hr=>by
  obtain ⟨i,hi,rfl⟩:=bU.1 hr;exact hE i (dB.1 hi)
 have hRa:=C9 rfl ha;have hin:∀ i,i < rows.length→elF rows n c i ∈ elL rows n c:=fun i hi=>bU.2 ⟨i,dB.2 hi,rfl⟩
 have hpn:Sp (elL rows n c) (rows.getD n default):=by
  have h:=eA (hin n hn);unfold elF at h
  rwa [if_neg (fun q=>q.1 rfl)] at h
 constructor
 ·refine ou hRa fun r hr=>?_;obtain ⟨i,hi,rfl⟩:=bU.1 hr;have hi:=dB.1 hi;unfold elF;split
  ·exact lI hRa (eA (aC hi)) (eA (aC hn))
  ·exact eA (aC hi)
 ·refine ou hEa fun r hr=>?_;obtain ⟨i,hi,rfl⟩:=pB hr;have h:=eA (hin i hi);unfold elF at h;split at h
  ·have h2:=lI hEa h hpn
   rwa [← gJ (ha i hi) (ha n hn) (ha n hn),ir (ha n hn),f0] at h2
  ·exact h
theorem BK {R:List (List Int)} (hR:∀ r ∈ R,bV r) (hv:∀ r ∈ R,∀ z ∈ r,(0:Int) ≤ z):∀ {c:Nat},RdOk R (stR R c).1 (stR R c).2 c
 | 0=>⟨fun i hi=>hR _ (aC hi),rfl,bB _,fun _=>Iff.rfl,fun i h=>absurd h (Nat.not_lt_zero _),fun i h=>absurd h (Nat.not_lt_zero _),fun i j _ h=>absurd h (Nat.not_lt_zero _),fun i _ hi z hz=>hv _ (aC hi) z hz⟩
 | c + 1=>by
  have ih:=BK hR hv (c:=c);unfold stR;generalize e1:(stR R c).1=rows at *;generalize e2:(stR R c).2=n at *;obtain ⟨i1,i2,i3,i4,i5,i6,i7,i8⟩:=ih;cases hp:qN rows n c with
  | none =>
   show RdOk R (stR R c).1 (stR R c).2 (c + 1);rw [e1,e2];refine ⟨i1,i2,i3,i4,fun i hi=>⟨(i5 i hi).1,by have:=(i5 i hi).2; omega⟩,i6,i7,fun i h1 h2 z hz=>?_⟩;have h3:=i8 i h1 h2 z hz;have h4:=List.find?_eq_none.1 hp i (dB.2 (by omega));have h5:z ≠ (c:Int):=fun e=>h4 (by rw [← e]; simp only [cT,eZ]; exact ⟨h1,hz⟩);omega
  | some k =>
   show RdOk R (elL (swL rows n k) n c) (n + 1) (c + 1);have k1:=dB.1 (List.mem_of_find?_eq_some hp)
   have k2:n ≤ k∧(c:Int) ∈ rows.getD k default:=by
    have:=List.find?_some hp;simpa only [cT,eZ] using this
   obtain ⟨k3,k4⟩:=k2;have hkN:k < R.length:=by omega
   have hnN:n < R.length:=by omega
   have sl:(swL rows n k).length=R.length:=by unfold swL; rw [bF,List.length_range,i2]
   have gs:∀ i,i < R.length→(swL rows n k).getD i default=rows.getD (swI n k i) default:=fun i hi=>oS (by omega)
   have gp:(swL rows n k).getD n default=rows.getD k default:=by
    rw [gs n hnN]; unfold swI; rw [if_pos rfl]
   have ge:∀ i,i < R.length→(elL (swL rows n k) n c).getD i default=elF (swL rows n k) n c i:=fun i hi=>oS (by omega)
   have gn:(elL (swL rows n k) n c).getD n default=rows.getD k default:=by
    rw [ge n hnN]; unfold elF; rw [if_neg (fun q=>q.1 rfl),gp]
   have gi:∀ i,i < R.length→i ≠ n→(elL (swL rows n k) n c).getD i default=if (c:Int) ∈ rows.getD (swI n k i) default then bO (rows.getD (swI n k i) default) (rows.getD k default) else rows.getD (swI n k i) default:=fun i hi hn=>by
    rw [ge i hi]; unfold elF; rw [gs i hi,gp];by_cases h:(c:Int) ∈ rows.getD (swI n k i) default
    ·rw [if_pos ⟨hn,h⟩,if_pos h]
    ·rw [if_neg (fun q=>h q.2),if_neg h]
   have hpa:=i1 k hkN;have hpl:=i8 k k3 hkN;have hsa:∀ i,i < R.length→bV (rows.getD (swI n k i) default):=fun i hi=>i1 _ (lM hnN hkN hi);have hld:ld (rows.getD k default)=c:=Int.le_antisymm (ln hpa k4) (hpl _ (dt (fun e=>by rw [e] at k4; cases k4)));have hpne:rows.getD k default ≠ []:=fun e=>by rw [e] at k4; cases k4
   have hsw:∀ i,i < n→swI n k i=i:=fun i hi=>by unfold swI; rw [if_neg (by omega),if_neg (by omega)]
   have hnp:∀ i,i < n→ld (rows.getD i default) ∉ rows.getD k default:=fun i hi h=>by have:=i6 i hi k hkN h; omega
   have hsw2:∀ v,Sp (swL rows n k) v ↔ Sp rows v:=fun v=>DA (by omega) (by omega) v;have hda:∀ i,i < (swL rows n k).length→bV ((swL rows n k).getD i default):=fun i hi=>by rw [gs i (by omega)]; exact hsa i (by omega)
   have hmem:∀ j,j < R.length→j ≠ n→∀ z,z ∈ (elL (swL rows n k) n c).getD j default→z ∉ rows.getD k default→z ∈ rows.getD (swI n k j) default:=fun j hj hn z hz hzp=>by
    rw [gi j hj hn] at hz;split at hz
    ·rcases (dy (hsa j hj) hpa).1 hz with q | q
     ·exact q.1
     ·exact absurd q.1 hzp
    ·exact hz
   have hlow:∀ j,j < R.length→j ≠ n→(c:Int) ∉ (elL (swL rows n k) n c).getD j default:=fun j hj hn hz=>by
    rw [gi j hj hn] at hz;split at hz
    ·rename_i h;rcases (dy (hsa j hj) hpa).1 hz with q | q
     ·exact q.2 k4
     ·exact q.2 h
    ·rename_i h; exact h hz
   have htop:∀ i,i < n→ld ((elL (swL rows n k) n c).getD i default)=ld (rows.getD i default)∧(elL (swL rows n k) n c).getD i default ≠ []:=fun i hi=>by
    obtain ⟨t1,t2⟩:=i5 i hi;rw [gi i (by omega) (by omega),hsw i hi];split
    ·have hm:ld (rows.getD i default) ∈ bO (rows.getD i default) (rows.getD k default):=(dy (i1 i (by omega)) hpa).2 (.inl ⟨dt t1,hnp i hi⟩);have hne:bO (rows.getD i default) (rows.getD k default) ≠ []:=fun e=>by rw [e] at hm; cases hm
     refine ⟨Int.le_antisymm (ln (dX (i1 i (by omega)) hpa) hm) ?_,hne⟩;rcases (dy (i1 i (by omega)) hpa).1 (dt hne) with q | q
     ·exact ln (i1 i (by omega)) q.1
     ·have:=hpl _ q.1; omega
    ·exact ⟨rfl,t1⟩
   refine ⟨fun i hi=>?_,?_,by omega,fun v=>?_,fun i hi=>?_,fun i hi j hj h=>?_,fun i j hij hj=>?_,fun i h1 h2 z hz=>?_⟩
   ·rw [ge i hi]; unfold elF;split
    ·exact dX (hda i (by omega)) (hda n (by omega))
    ·exact hda i (by omega)
   ·unfold elL; rw [bF,List.length_range,sl]
   ·rw [Ei hda (by omega),hsw2,i4]
   ·by_cases hin:i=n
    ·subst hin; rw [gn,hld]; exact ⟨hpne,by omega⟩
    ·obtain ⟨t1,t2⟩:=htop i (by omega);rw [t1];have:=(i5 i (by omega)).2;exact ⟨t2,by omega⟩
   ·by_cases hin:i=n
    ·subst hin;rw [gn,hld] at h;exact Decidable.byContradiction fun hne=>hlow j hj hne h
    ·have hi':i < n:=by omega
     rw [(htop i hi').1] at h;by_cases hjn:j=n
     ·subst hjn; rw [gn] at h; exact absurd h (hnp i hi')
     ·have h3:=i6 i hi' _ (lM hnN hkN hj) (hmem j hj hjn _ h (hnp i hi'));have h4:=congrArg (swI n k) h3;rw [ul,hsw i hi'] at h4;exact h4
   ·by_cases hjn:j=n
    ·subst hjn;rw [gn,hld,(htop i hij).1];exact (i5 i hij).2
    ·rw [(htop i (by omega)).1,(htop j (by omega)).1];exact i7 i j hij (by omega)
   ·have hz2:z ≠ (c:Int):=fun e=>hlow i h2 (by omega) (e ▸ hz);have hs:n ≤ swI n k i:=by unfold swI; split <;> (try split) <;> omega
    rw [gi i h2 (by omega)] at hz
    have hz3:(c:Int) ≤ z:=by
     split at hz
     ·rcases (dy (hsa i h2) hpa).1 hz with q | q
      ·exact i8 _ hs (lM hnN hkN h2) z q.1
      ·exact hpl z q.1
     ·exact i8 _ hs (lM hnN hkN h2) z hz
    omega
def tN (R:List (List Int)) (c:Nat):List (List Int):=(stR R c).1.take (stR R c).2
theorem AK {R:List (List Int)} {c:Nat} (hR:∀ r ∈ R,bV r) (hv:∀ r ∈ R,∀ z ∈ r,0 ≤ z∧z < (c:Int)):tN R c=mi R c:=by
 have h:=BK hR (fun r hr z hz=>(hv r hr z hz).1) (c:=c);obtain ⟨e1,e2,_⟩:=Eo hR hv;unfold tN;generalize (stR R c).1=rows at *;generalize (stR R c).2=n at *;obtain ⟨i1,i2,i3,i4,i5,i6,i7,i8⟩:=h;have hlt:(rows.take n).length=n:=by rw [ib]; omega
 have hg:∀ i,i < n→(rows.take n).getD i default=rows.getD i default:=fun i hi=>by
  simp [List.getD,gy,hi]
 have hex:∀ r ∈ rows.take n,∃ i,i < n∧rows.getD i default=r:=fun r hr=>by
  obtain ⟨i,hi,e⟩:=pB hr;exact ⟨i,by omega,by rw [← e,hg i (by omega)]⟩
 have hsub:∀ r ∈ R,∀ z ∈ r,0 ≤ z∧z < (c:Int):=hv
 have hred:Red (rows.take n):=by
  refine ⟨fun r hr=>?_,fun r hr=>?_,fun r hr q hq hl=>?_,?_⟩
  ·obtain ⟨i,hi,rfl⟩:=hex r hr;exact i1 i (by omega)
  ·obtain ⟨i,hi,rfl⟩:=hex r hr;exact (i5 i hi).1
  ·obtain ⟨i,hi,rfl⟩:=hex r hr;obtain ⟨j,hj,rfl⟩:=hex q hq;rw [i6 i hi j (by omega) hl]
  ·rw [oE];intro i j hi hj hij;have h1:=hg i (by omega);have h2:=hg j (by omega);simp only [List.getD,hi,hj,qS,sM] at h1 h2;rw [h1,h2];exact i7 i j hij (by omega)
 refine AQ hred e1 fun v=>?_;rw [e2,← i4];constructor
 ·exact tv fun r hr=>kU hr
 ·refine ou hred.asc fun r hr=>?_;obtain ⟨i,hi,e⟩:=pB hr;by_cases hin:i < n
  ·refine eA ?_;rw [← e,← hg i hin];exact aC (by omega)
  ·have hnil:r=[]:=by
     cases hr0:r with
     | nil=>rfl
     | cons z l =>
      have hz:z ∈ rows.getD i default:=by rw [e,hr0]; exact d4 ..
      have h1:=i8 i (by omega) (by omega) z hz;have h2:=sU hR hv ((i4 r).1 (eA hr)) z (by rw [hr0]; exact d4 ..);omega
   rw [hnil]; exact Sp.nil
section
variable {α:Type} {K:α→α→Int}
end
def eh (s:Spx):List Spx:=if s.length < 2 then [] else bQ s (s.length - 1)
theorem xl {s:Spx} (h:cI cl s):cI bq (eh s):=by
 unfold eh; split
 ·exact cI.nil
 ·exact jU h
theorem pM {s f:Spx}:f ∈ eh s ↔ 2 ≤ s.length∧f.Sublist s∧f.length=s.length - 1:=by
 unfold eh; split
 ·exact ⟨fun h=>(by cases h),fun h=>absurd h.1 (by omega)⟩
 ·rw [dp]; exact ⟨fun h=>⟨by omega,h⟩,fun h=>h.2⟩
def fc0:Spx→List Spx
 | []=>[]
 | x :: s=>s :: (fc0 s).map (x :: ·)
theorem rX:∀ {s:Spx},bQ s s.length=[s]
 | []=>rfl
 | x :: s=>by rw [dh,gD,rX,ji (by omega)]; rfl
theorem u6:∀ {s:Spx},s ≠ []→(bQ s (s.length - 1)).Perm (fc0 s)
 | [],h=>absurd rfl h
 | [x],_=>by show (bQ [x] 0).Perm _; rw [lF]; exact List.Perm.refl _
 | x :: y :: s,_=>by
  show (bQ (x :: y :: s) (s.length + 1)).Perm _;rw [gD,show s.length + 1=(y :: s).length from rfl,rX];have ih:=u6 (s:=y :: s) (by simp);show ((bQ (y :: s) s.length).map (x :: ·) ++ [y :: s]).Perm ((y :: s) :: (fc0 (y :: s)).map (x :: ·));exact List.perm_append_comm.trans ((ih.map (x :: ·)).cons _)
theorem uq {a:List Spx} (h:∀ s ∈ a,cf s=0):∀ s ∈ a,cI cl s:=fun s hs=>(cC (h s hs)).2.2.1
def jn (l:List (List Spx)):AV:=ie 1 aD l
theorem t8 (l:List (List Spx)):Dat (jn l):=zQ (fun _=>rfl) cE
instance datI_encXsss {l:List (List Spx)}:DatI (jn l):=⟨t8 l⟩
theorem qT {l:List (List Spx)}:c6 (jn l)=some (.int .i64 l.length):=je
theorem HK {l:List (List Spx)} {k:Nat} (h:k < l.length):ey 1 (jn l) (.int .i64 (k:Int))=some (.iptr [aD (l.getD k default)] 0):=by
 unfold jn;rw [ky,if_pos ⟨by omega,by omega⟩,cm]; rfl
abbrev ShC (a:List Spx):Prop:=Shn a∧∀ s ∈ a,Shn s
attribute [local irreducible] aA ag a8 aQ aK aL ar aN aU bd Go.Abs.Fn aP Go.Abs.Pure an aG Yl
def qW (a:List Spx):Bool:=((a.take 50).all fun s=>decide (s.length ≤ 10)) && (decide (a.length ≤ 40) || decide (4096 < a.length))
theorem DC (a:List Spx) (ha:ShC a):pU 40 [aD a] (.bool (qW a)):=by
 refine pO HM ?_;simp only [b40,aJ];have ha':a.length ≤ 17592186044416:=ha.1;have hlt:(a.take 50).length=min 50 a.length:=ib;refine wnZ @ae ?_;refine ll (X:=Nat) (fun k=>[(0,aD a),(3,.int .i64 k)]) (fun k=>k ≤ (a.take 50).length∧∀ i,i < k→decide (((a.take 50).getD i default).length ≤ 10)=true) (fun k=>(a.take 50).length - k) 0 ⟨bB _,fun i h=>absurd h (by omega)⟩ ag0 ?_;rintro k ⟨h1,h2⟩;by_cases hk:k < (a.take 50).length
 rotate_left
 ·have e:qW a=(decide (a.length ≤ 40) || decide (4096 < a.length)):=by
    unfold qW;rw [jN fun i hi=>h2 i (by omega),Bool.true_and]
  rw [e];by_cases h3:a.length ≤ 40
  ·have y1:decide ((a.length:Int) ≤ 40)=true:=aX (by omega);have y2:decide ((k:Int) < a.length)=false:=aS (by omega);rw [aX h3];refine wnY (zI3 @ae @y1 @y2) ?_;exact .bool _
  ·have y1:decide ((a.length:Int) ≤ 40)=false:=aS (by omega);rw [aS h3,Bool.false_or];by_cases h4:k < a.length
   ·have y2:decide ((k:Int) < a.length)=true:=aX (by omega);have y3:decide ((k:Int) < 50)=false:=aS (by omega);refine wnY (zI4 @ae @y1 @y2 @y3) ?_;exact b5 (decide_eq_decide.2 (by omega))
   ·have y2:decide ((k:Int) < a.length)=false:=aS (by omega);refine wnY (zI3 @ae @y1 @y2) ?_;exact b5 (decide_eq_decide.2 (by omega))
 have hk1:k < a.length:=by omega
 have ix:=eI hk1;have e:(a.take 50).getD k default=a.getD k default:=nt (by omega);have y2:decide ((k:Int) < a.length)=true:=aX (by omega);have y3:decide ((k:Int) < 50)=true:=aX (by omega);by_cases hs:(a.getD k default).length ≤ 10
 ·have y4:decide ((10:Int) < (a.getD k default).length)=false:=aS (by omega);refine wnY (zI6 @ae @am @ix @y2 @y3 @y4) ?_
  exact ⟨k + 1,⟨by omega,fun i hi=>by
   rcases ju.1 hi with h' | rfl
   ·exact h2 i h'
   ·rw [e]; exact aX hs⟩,by omega,ag0,rfl,rfl⟩
 ·have y4:decide ((10:Int) < (a.getD k default).length)=true:=aX (by omega)
  have e2:qW a=false:=by
   unfold qW;rw [iu hk (by rw [e]; exact aS hs),Bool.false_and]
  rw [e2];refine wnY (zI6 @ae @am @ix @y2 @y3 @y4) ?_;exact .bool _
theorem pH {a:List Spx} (h:∀ s ∈ a,cf s=0):∀ s ∈ a,Shn s:=fun s hs=>by have:=(cC (h s hs)).2.1; show _ ≤ _; omega
end Go.Proofs.YtekdaafnjdlenaaGreat
namespace Go.Proofs.YtekdaafnjdlenaaGreat
open Go Go.Abs
section
variable {α:Type} [DecidableEq α] {K:α→α→Int}
theorem CQ (hK:LinK K) {a b:List α} (ha:cI K a) (hb:cI K b) (h:∀ x ∈ a,x ∈ b):a.Sublist b:=by
 have:a=b.filter fun x=>decide (x ∈ a):=by
  refine nN hK ha (List.Pairwise.sublist List.filter_sublist hb) fun x=>?_;rw [iz,eZ];exact ⟨fun h'=>⟨h x h',h'⟩,And.right⟩
 rw [this];exact List.filter_sublist
end
section
variable {g:Vtx→Vtx}
end
def fcs (s:Spx):List Spx:=if s.length < 2 then [] else fc0 s
theorem uf {s:Spx}:(fcs s).Perm (eh s):=by
 unfold fcs eh;split
 ·exact List.Perm.refl _
 ·rename_i h;exact (u6 fun e=>by rw [e] at h; simp at h).symm
theorem yp {s f:Spx}:f ∈ fcs s ↔ f ∈ eh s:=uf.mem_iff
theorem sB:∀ {s:Spx},(fc0 s).length=s.length
 | []=>rfl
 | x :: s=>by show ((fc0 s).map (x :: ·)).length + 1=_; rw [bF,sB]; rfl
theorem xT:∀ {s:Spx} {i:Nat},i < s.length→(fc0 s).getD i default=s.take i ++ s.drop (i + 1)
 | [],_,h=>absurd h (by simp)
 | x :: s,0,_=>by simp [fc0]
 | x :: s,i + 1,h=>by
  have hi:i < s.length:=by simpa using h
  have:=xT hi;show ((s :: (fc0 s).map (x :: ·)).getD (i + 1) default)=_;have hl:i < (fc0 s).length:=by rw [sB]; exact hi
  simp only [List.getD,wY,jt,qS hl,jy,sM,List.take_succ_cons,List.drop_succ_cons,List.cons_append] at this ⊢;rw [this]
theorem tg {s:Spx} (h:cI cl s):(eh s).Nodup:=(xl h).nodup rm
theorem zG {s:Spx} (h:cI cl s):(fcs s).Nodup:=uf.nodup_iff.2 (tg h)
def fU (X Y:List Spx) (n i:Nat):List Nat:=(List.range n).filter fun k=>decide (Y.getD i default ∈ eh (X.getD k default))
theorem rG {X Y:List Spx} {n i:Nat}:fU X Y (n + 1) i=fU X Y n i ++ if Y.getD i default ∈ eh (X.getD n default) then [n] else []:=by
 unfold fU;rw [List.range_succ,AO]
 congr 1
 by_cases h:Y.getD i default ∈ eh (X.getD n default)
 ·rw [if_pos h,List.filter_cons_of_pos (by simpa using h)]; rfl
 ·rw [if_neg h,List.filter_cons_of_neg (by simpa using h)]; rfl
theorem po {X Y:List Spx} {n i:Nat}:(fU X Y n i).length ≤ n:=by
 unfold fU;exact eW (List.length_filter_le _ _) (by simp)
def fy (X Y:List Spx):List (List Int):=(List.range Y.length).map fun i=>eN (fU X Y X.length i)
end Go.Proofs.YtekdaafnjdlenaaGreat
namespace Go.Proofs.YtekdaafnjdlenaaGreat
open Go Go.Abs
open Nat (reduceEqDiff reduceAdd reduceLeDiff)
section
variable {P:Program} {T:Tm} {H:Hp} {nx:Nat}
theorem Ez {dm:DM} {K:SP} {l:List Op2} {d:Option Nat} {sz bytes:Nat} {z:List AV} {s x:Opd} {k:IntKind} {n:Int} (hd:dm2 dm T (.apz sz bytes z s x)=true) (hs:ov T s=.esl) (hx:ov T x=.int k n) (h0:0 < n) (h1:n ≤ 9223372036854775807) (h2:n.toNat * bytes ≤ 140737488355328)
    (kk:ag P dm l (aE T d (.msl nx (n.toNat * sz) sz 0 n.toNat)) (aj H nx (ba (.agg z) n.toNat)) (nx + 1) K):ag P dm (⟨d,none,.apz sz bytes z s x⟩ :: l) T H nx K:=by
 refine lq rfl hd ?_ kk;simp only [gO,hs,hx];rw [if_pos ⟨h0,h1,h2⟩]
end
theorem Cx (T:Tm) (H:Hp) (x:Opd):bl T H (.capE x)=match ov T x with | .esl=>some (.int .i64 0) | _=>none:=rfl
theorem Ci (n:Nat):(ba (.agg [.int .i64 0,.int .i64 0]) n).length=n * 2:=by simp [ba,AV.cells]
attribute [local irreducible] aA ag a8 aQ aK aL ar aN aU bd Go.Abs.Fn aP Go.Abs.Pure an aG Yl
theorem B5 (n:Nat) (h0:0 < n) (h1:n ≤ 1000000) (H:Hp) (nx:Nat):Abs.Fn Tryz.prog 161 [.esl,.int .i64 n] H nx fun r H' nx'=>r=.msl nx (n * 2) 2 0 0∧H'=aj H nx (ba (.agg [.int .i64 0,.int .i64 0]) n)∧nx'=nx + 1:=by
 refine fO GA ?_;simp only [GO,aJ];have z1:decide ((n:Int) < 0)=false:=aS (by omega);have z2:decide ((0:Int) < n)=true:=aX (by omega);have s2:ig 2 .esl none (some (.int .i64 0)) none=some .esl:=rfl;have s3:=wx (B:=nx) (n:=n * 2) (len:=n) (k:=0) (by omega) (by omega);rw [show ((0:Nat):Int)=0 from rfl] at s3;refine wnY (zI6 @z1 @z2 @s2 @Int.sub_zero @Int.sub_self @Cx) ?_;refine Ez rfl (have zz:=@s2; evY) ev0 (by omega) (by omega) (by omega) ?_;refine wnY @s3 ?_;exact ⟨rfl,rfl,rfl⟩
theorem sL {c:List Spx} {k:Nat} (hk:k < c.length):(c.take (k + 1)).flatten=(c.take k).flatten ++ c.getD k default:=by
 rw [dz hk,List.flatten_append]; simp
end Go.Proofs.YtekdaafnjdlenaaGreat
namespace Go.Proofs.YtekdaafnjdlenaaGreat
open Go Go.Abs
open Nat (reduceEqDiff reduceAdd reduceLeDiff)
theorem D9 {P:Program} {T:Tm} {H:Hp} {nx:Nat} {dm:DM} {K:SP} {l:List Op2} {d:Option Nat} {sz bytes b N len n:Nat} {s x:Opd} {v:AV} {new C:List AV} (hd:dm2 dm T (.app sz bytes s x)=true) (hs:ov T s=.msl b N sz 0 len) (hb:H b=some C) (hN:C.length=N) (hx:ov T x=v) (hsrc:dD sz H v=some (n,new)) (ho:AV.ones new=true) (hnl:new.length=n * sz) (hz:0 < sz) (h0:0 < N) (hle:(len + n) * sz ≤ N) (h1:(len + n) * bytes ≤ 140737488355328) (h2:len + n ≤ 9223372036854775807)
    (next:∀ C':List AV,C'.length=N→C'.take ((len + n) * sz)=C.take (len * sz) ++ new→ag P dm l (aE T d (.msl b N sz 0 (len + n))) (aj H b C') nx K) :
    ag P dm (⟨d,none,.app sz bytes s x⟩ :: l) T H nx K:=by
 by_cases e:N=len * sz
 ·have hn:n=0:=by
    rcases we n with h | h
    ·exact h
    ·have:len * sz + 1 * 1 ≤ len * sz + n * sz:=Nat.add_le_add_left (Nat.mul_le_mul h hz) _;rw [eB] at hle; omega
  subst hn;obtain rfl:new=[]:=List.eq_nil_of_length_eq_zero (by rw [hnl,sJ]);refine vM hd hs hb hx hsrc ho hN e h1 h2 ?_;rw [mG] at next ⊢;rw [← e];exact next _ (by rw [gx]; exact hN) (by rw [gx,gx])
 ·refine wR hd hs hb hx hsrc ho hN (fun _=>e) h0 (by rw [b6]; exact hle) ?_;have hlen:len * sz + new.length ≤ N:=by rw [hnl,← eB]; exact hle
  refine next _ ?_ ?_
  ·rw [fQ (by rw [hN]; omega)]; exact hN
  ·simp only [bu,b6];rw [CC (by rw [cA,ib,hN,hnl,eB]; omega),iB (by rw [cA,ib,hN,hnl,eB]; omega)]
attribute [local irreducible] aA ag a8 aQ aK aL ar aN aU bd Go.Abs.Fn aP Go.Abs.Pure an aG Yl
theorem zD (c:List Spx) (hpos:0 < c.flatten.length) (hl:c.flatten.length ≤ 1000000) (hc:c.length ≤ 1000000) (H:Hp) (nx:Nat) :
    Abs.Fn Tryz.prog 141 [aD c] H nx fun r H' nx'=>r=.msl nx (c.flatten.length * 2) 2 0 c.flatten.length∧H'=aj H nx (cX c.flatten)∧nx'=nx + 1:=by
 refine fO F8 ?_;simp only [Hl,aJ]
 have hle:∀ k,(c.take k).flatten.length ≤ c.flatten.length:=fun k=>by
  have:c.flatten=(c.take k).flatten ++ (c.drop k).flatten:=by rw [← List.flatten_append,A7]
  rw [this,cA]; omega
 refine fq ?_
 repeat' (first|apply a_n|refine zO ?_|refine vY ?_|fail)
 refine fq ?_
 repeat' (first|apply a_n|refine zO ?_|refine vY ?_|fail)
 refine b7 (fun T H' nx'=>T 0=aD c∧T 3=.int .i64 (c.flatten.length:Nat)∧H=H'∧nx=nx') ?_ ?_
 ·refine wnY @ae ?_;refine ll (X:=Nat) (fun k=>[(0,aD c),(3,.int .i64 ((c.take k).flatten.length:Nat)),(9,aD c),(10,.int .i64 c.length),(11,.int .i64 (k:Nat))]) (fun k=>k ≤ c.length) (fun k=>c.length - k) 0 (by omega) (by simp (disch:=omega) only [agr,ZG,reduceEqDiff,↓reduceIte,List.take_zero,List.flatten_nil,fu] <;> simp) ?_;intro k hk;by_cases hk2:k < c.length
  rotate_left
  ·rw [iB (by omega)];refine wnY and_self ?_;exact ⟨rfl,rfl,rfl,rfl⟩
  have ix:=eI hk2;have hle2:=hle (k + 1);have e:(((c.take (k + 1)).flatten.length:Nat):Int)=((c.take k).flatten.length:Nat) + ((c.getD k default).length:Nat):=by rw [sL hk2,cA]; omega
  rw [sL hk2,cA] at hle2;have z:decide ((((c.take k).flatten.length:Nat):Int) + ((c.getD k default).length:Nat) < 0)=false:=aS (by omega);generalize c.getD k default=s at *;refine wnY (zI3 @ix @am @z) ?_;exact ⟨k + 1,by omega,by omega,(have zz:=@e; agZ),rfl,rfl⟩
 rintro T _ _ ⟨t0,t3,rfl,rfl⟩;refine wnY @t3 ?_;refine bg ev0 (have zz:=@t3; evY) (B5 c.flatten.length (by omega) (by omega) H nx) ?_;rintro _ _ _ ⟨rfl,rfl,rfl⟩;refine wnY (aI @t0 @ae) ?_;refine bR (X:=Nat) (fun k=>[(6,.msl nx (c.flatten.length * 2) 2 0 (c.take k).flatten.length),(25,aD c),(26,.int .i64 c.length),(27,.int .i64 (k:Nat))]) (fun k H' nx'=>k ≤ c.length∧(∃ C,H'=aj H nx C∧C.length=c.flatten.length * 2∧C.take ((c.take k).flatten.length * 2)=cX (c.take k).flatten)∧nx'=nx + 1) (fun k=>c.length - k) 0 ⟨by omega,⟨_,rfl,Ci _,rfl⟩,rfl⟩ (by simp (disch:=omega) only [agr,ZG,reduceEqDiff,↓reduceIte,List.take_zero,List.flatten_nil,fu]) ?_;rintro k _ _ ⟨hk,⟨C,rfl,h1,h2⟩,rfl⟩;by_cases hk2:k < c.length
 rotate_left
 ·have ek:c.take k=c:=iB (by omega);rw [ek] at h2 ⊢;rw [iB (by omega)] at h2;subst h2;refine wnY and_self ?_;exact ⟨rfl,rfl,rfl⟩
 have ix:=eI hk2;have hle2:=hle (k + 1);have e:=sL hk2;rw [e,cA] at hle2;have hcl:=jf (c.getD k default);have hcp:=jf (c.take k).flatten;generalize c.getD k default=s at *;refine wnY @ix ?_;refine D9 (b:=nx) (N:=c.flatten.length * 2) (len:=(c.take k).flatten.length) (n:=s.length) (C:=C) rfl ev0 af h1 ev0 AJ (oN _) (by rw [hcl]) (by omega) (by omega) (by omega) (by omega) (by omega) fun C2 c1 c2=>?_;refine wnY and_self ?_;refine ⟨k + 1,by omega,⟨by omega,⟨_,aV _ _ _ _,c1,?_⟩,rfl⟩,by simp (disch:=omega) only [agr,ZG,reduceEqDiff,↓reduceIte,e,cA]⟩;rw [e,mM,cA,← h2];exact c2
theorem HY {P:Program} {T:Tm} {H S:Hp} {nx n:Nat} {K:SP} {l:List (Op2 × Nat)} {d:Option Nat} {i:Ins} {t:Nat} {w:Bool} (h:T t=.bool w) (k:a5 P S ((⟨d,none,i⟩,n) :: l) T H nx K):a5 P S ((⟨d,some (t,w),i⟩,n) :: l) T H nx K:=by
 have e:g2 T (some (t,w))=some true:=by simp [g2,h]
 cases n with
 | zero=>show aN (g2 T (some (t,w))) _ _; rw [e]; exact k
 | succ n=>show aN (g2 T (some (t,w))) _ _; rw [e]; exact k
theorem yQ (x y:Spx) (h:0 < (x ++ y).length) (hl:(x ++ y).length ≤ 1000000):PureF Tryz.prog 141 [aD [x,y]] (aB (x ++ y)):=by
 refine PureF.of_fn ?_;have e:[x,y].flatten=x ++ y:=by simp
 have hc:=zD [x,y] (by rw [e]; exact h) (by rw [e]; exact hl) (by simp) bA 0;rw [e] at hc;refine Abs.Fn.mono hc ?_;rintro _ _ _ ⟨rfl,rfl,rfl⟩;exact Cc (Row.box _ (x ++ y).length (cX (x ++ y)) af (jf _))
theorem yX (s:Spx) (H:Hp) (nx:Nat):Abs.Fn Tryz.prog 129 [aB s] H nx fun r H' nx'=>r=.func 154 [.ptr nx 1 0]∧H'=aj H nx [aB s]∧nx'=nx + 1:=by
 refine fO ES ?_;simp only [Gu,aJ];refine wnY (aI @bC @bh) ?_;exact ⟨rfl,rfl,rfl⟩
theorem z9 {H:Hp} {b:Nat} {x y:Spx} (h:H b=some [aB x,aB y]):aG H [.msl b 2 1 0 2] [aD [x,y]] :=
 ai (rx (l:=[aB x,aB y]) h rfl rfl (by
  intro z hz;simp only [dF,List.not_mem_nil,or_false] at hz;rcases hz with rfl | rfl
  ·exact ⟨rfl,cV _⟩
  ·exact ⟨rfl,cV _⟩)) ao
theorem B6 {s:Spx} (h:2 ≤ s.length):(fcs s).length=s.length:=by
 unfold fcs; rw [if_neg (by omega),sB]
theorem Co {s:Spx} {i:Nat} (h:2 ≤ s.length) (hi:i < s.length):(fcs s).getD i default=s.take i ++ s.drop (i + 1):=by
 unfold fcs; rw [if_neg (by omega),xT hi]
theorem yO {y sb:Nat} {s:Spx} {H:Hp} {nx:Nat} (hs:s.length ≤ 1000) (I:List Spx→Hp→Nat→Prop)
    (hp:∀ D H nx,I D H nx→H sb=some [aB s])
    (stab:∀ D H H' nx1 nx',I D H nx1→nx1 ≤ nx'→(∀ i,i < nx1→H' i=H i)→I D H' nx')
    (rnd:∀ D f H nx1,I D H nx1→D.length < (fcs s).length→f=(fcs s).getD D.length default→D=(fcs s).take D.length→Yl Tryz.prog y [aB f] H nx1 fun r H' nx'=>r=.bool true∧I (D ++ [f]) H' nx')
    (h0:I [] H nx) :
    Abs.Fn Tryz.prog 154 [.yld y,.ptr sb 1 0] H nx fun _ H' nx'=>I (fcs s) H' nx':=by
 refine fO E6 ?_;simp only [Fe,aJ];have g1:=hp _ _ _ h0;refine wnY (zI4 @g1 @bC @bh @am) ?_;by_cases h2:2 ≤ s.length
 rotate_left
 ·have e:fcs s=[]:=by unfold fcs; rw [if_pos (by omega)]
  rw [e];refine bR (X:=Nat) (fun k=>[(0,.yld y),(1,.ptr sb 1 0),(5,.int .i64 s.length),(6,.int .i64 k)]) (fun k H' nx'=>k ≤ s.length∧I [] H' nx') (fun k=>s.length - k) 0 ⟨bB _,h0⟩ ag0 ?_;rintro k H1 nx1 ⟨h1,hI⟩;have q1:=hp _ _ _ hI;by_cases hk:k < s.length
  rotate_left
  ·refine wnY and_self ?_;exact hI
  have z:decide ((1:Int) < s.length)=false:=aS (by omega);refine wkY (zI5 @q1 @bC @bh @am @z) ?_;exact ⟨k + 1,by omega,⟨by omega,hI⟩,ag0⟩
 have z:decide ((1:Int) < s.length)=true:=aX (by omega);have hfl:=B6 h2;have hfg:=fun {i:Nat} (hi:i < s.length)=>Co (i:=i) h2 hi;refine bR (X:=Nat) (fun k=>[(0,.yld y),(1,.ptr sb 1 0),(5,.int .i64 s.length),(6,.int .i64 k)]) (fun k H' nx'=>k ≤ s.length∧I ((fcs s).take k) H' nx') (fun k=>s.length - k) 0 ⟨bB _,h0⟩ ag0 ?_;rintro k H1 nx1 ⟨h1,hI⟩;have q1:=hp _ _ _ hI;by_cases hk:k < s.length
 rotate_left
 ·rw [iB (by omega)] at hI;refine wnY and_self ?_;exact hI
 have a1:ig 2 (aB s) none (some (.int .i64 (k:Int))) none=some (aB (s.take k)):=sR (by omega);have a2:ig 2 (aB s) (some (.int .i64 ((k:Int) + 1))) none none=some (aB (s.drop (k + 1))):=pY (k:=k + 1) (by omega);have hc:=yQ (s.take k) (s.drop (k + 1)) (by rw [cA,ib,vX]; omega) (by rw [cA,ib,vX]; omega);have hr:=rnd ((fcs s).take k) ((fcs s).getD k default) (aj H1 nx1 [aB (s.take k),aB (s.drop (k + 1))]) (nx1 + 1) (stab _ _ _ _ _ hI (by omega) fun i hi=>ab (by omega)) (by rw [ib]; omega) (by rw [ib,Nat.min_eq_left (by omega)]) (by rw [ib,Nat.min_eq_left (by omega)]);rw [← dz (by omega),hfg hk] at hr;refine wnY (zI7 @q1 @bC @bh @am @z @a1 @a2) ?_;refine pR sb q1 fun S0 hS1 hsub=>?_;simp only [fk,List.map_nil,List.getD_cons_succ,List.getD_cons_zero];have zz:=aI @hS1 (aI @bC (aI @bh (aI @am (aI @z (aI @a1 @a2))))); repeat' (first|apply a_n|refine zO ?_|refine nvY ?_|apply jD|refine blY ?_|fail)
 repeat (refine HY ev0 ?_; skip)
 refine yy ev0 ev0 hc (z9 (by rw [af])) ?_
 repeat' (first|apply a_n|refine zO ?_|apply jD|fail)
 refine yg ev0 ev0 (Yl.mono hr ?_);rintro v H3 nx3 ⟨rfl,e1⟩;refine wnY and_self ?_;exact ⟨k + 1,by omega,⟨by omega,e1⟩,ag0⟩
end Go.Proofs.YtekdaafnjdlenaaGreat
namespace Go.Proofs.YtekdaafnjdlenaaGreat
open Go Go.Abs
open Nat (reduceEqDiff reduceAdd reduceLeDiff)
def zU:Nat→Spx→List Int
 | 0,_=>[]
 | n + 1,[]=>0 :: 0 :: zU n []
 | n + 1,v :: l=>v.color :: v.label :: zU n l
theorem qQ:∀ {n:Nat} {s:Spx},(zU n s).length=2 * n
 | 0,_=>rfl
 | n + 1,[]=>by show (zU n []).length + 1 + 1=_; rw [qQ]; omega
 | n + 1,v :: l=>by show (zU n l).length + 1 + 1=_; rw [qQ]; omega
def kZ (s:Spx):K16:=⟨zU 8 s,by rw [qQ]⟩
structure BOk (H:Hp) (n:Nat) (c:Spx→Nat) (O:List Spx) (bs:List Nat) (ck:Nat):Prop where
 box:H 0=some [.bmap ((O.map kZ).map eK) (O.map aB) bs ck]
 len:bs.length=O.length
 asc:bs.Pairwise (· < ·)
 below:∀ s ∈ bs,s < ck
 nd:O.Nodup
 all:∀ f ∈ O,f.length=n
 odd:∀ f,f ∈ O ↔ c f % 2=1
theorem BOk.same {H H':Hp} {n:Nat} {c c':Spx→Nat} {O:List Spx} {bs:List Nat} {ck:Nat} (h:BOk H n c O bs ck) (hs:H' 0=H 0) (hc:∀ f,c' f % 2=c f % 2):BOk H' n c' O bs ck :=
 ⟨hs.trans h.box,h.len,h.asc,h.below,h.nd,h.all,fun f=>by rw [hc]; exact h.odd f⟩
theorem BOk.put {H H':Hp} {n:Nat} {c c':Spx→Nat} {O:List Spx} {bs:List Nat} {ck:Nat} {f:Spx} (h:BOk H n c O bs ck) (hf:f ∉ O) (hl:f.length=n) (hH:H' 0=some [.bmap ((O.map kZ).map eK ++ [eK (kZ f)]) (O.map aB ++ [aB f]) (bs ++ [ck]) (ck + 1)]) (hc:∀ g,c' g=c g + if g=f then 1 else 0):BOk H' n c' (O ++ [f]) (bs ++ [ck]) (ck + 1):=by
 refine ⟨by rw [hH]; simp,by rw [cA,cA,h.len]; rfl,?_,fun s hs=>?_,?_,fun g hg=>?_,fun g=>?_⟩
 ·exact List.pairwise_append.2 ⟨h.asc,List.pairwise_singleton _ _,fun a ha b hb=>by rw [dY.1 hb]; exact h.below a ha⟩
 ·rcases eX.1 hs with q | q
  ·have:=h.below s q; omega
  ·rw [dY.1 q]; omega
 ·exact wj.2 ⟨h.nd,by simp,fun a ha b hb e=>by rw [e,dY.1 hb] at ha; exact hf ha⟩
 ·rcases eX.1 hg with q | q
  ·exact h.all g q
  ·rw [dY.1 q]; exact hl
 ·rw [eX,dY,h.odd,hc];by_cases e:g=f
  ·subst e;have:¬ c g % 2=1:=fun q=>hf ((h.odd g).2 q);rw [if_pos rfl];exact ⟨fun _=>by omega,fun _=>.inr rfl⟩
  ·rw [if_neg e]; simp [e]
theorem fL {α β:Type} {f:α→β}:∀ {l:List α} {i:Nat},(l.map f).eraseIdx i=(l.eraseIdx i).map f
 | [],_=>rfl
 | a :: l,0=>rfl
 | a :: l,i + 1=>by show f a :: (l.map f).eraseIdx i=f a :: (l.eraseIdx i).map f; rw [fL]
theorem BOk.del {H H':Hp} {n:Nat} {c c':Spx→Nat} {O:List Spx} {bs:List Nat} {ck i:Nat} {f:Spx} (h:BOk H n c O bs ck) (hf:f ∈ O) (hi:O.idxOf f=i) (hH:H' 0=some [.bmap (((O.map kZ).map eK).eraseIdx i) ((O.map aB).eraseIdx i) (bs.eraseIdx i) ck]) (hc:∀ g,c' g=c g + if g=f then 1 else 0):BOk H' n c' (O.erase f) (bs.eraseIdx i) ck:=by
 have hil:i < O.length:=by rw [← hi]; exact yJ.2 hf
 have he:O.erase f=O.eraseIdx i:=List.erase_eq_eraseIdx_of_idxOf hi;refine ⟨?_,?_,h.asc.sublist (List.eraseIdx_sublist _ _),fun s hs=>h.below s ((List.eraseIdx_sublist _ _).subset hs),h.nd.erase _,fun g hg=>h.all g (List.mem_of_mem_erase hg),fun g=>?_⟩
 ·rw [hH,he];rw [fL,fL,fL]
 ·rw [he,List.length_eraseIdx_of_lt hil,List.length_eraseIdx_of_lt (by rw [h.len]; exact hil),h.len]
 ·rw [h.nd.mem_erase_iff,h.odd,hc];by_cases e:g=f
  ·subst e;have:=(h.odd g).1 hf;rw [if_pos rfl];constructor
   ·exact fun q=>absurd rfl q.1
   ·intro q; omega
  ·rw [if_neg e]; simp [e]
attribute [local irreducible] aA ag a8 aQ aK aL ar aN aU bd Go.Abs.Fn aP Go.Abs.Pure an aG Yl
end Go.Proofs.YtekdaafnjdlenaaGreat
namespace Go.Proofs.YtekdaafnjdlenaaGreat
open Go Go.Abs
theorem F9 {a:List Spx} (h:∀ s ∈ a,cf s=0):∀ s ∈ a,s.length ≤ 8:=fun s hs=>(cC (h s hs)).2.1
attribute [local irreducible] aA ag a8 aQ aK aL ar aN aU bd Go.Abs.Fn aP Go.Abs.Pure an aG Yl
end Go.Proofs.YtekdaafnjdlenaaGreat