/- Texts of this claim, one after the other: U12k, U12o, U13k, T0, U13o, T1, T2, T3, T4, T5, T6, A11, T8, T9, T10, T11, T20, T21, T22, T23, T24, T25, T26, T27, T28, T29, T31, T32. -/
import Derived.Test.YtbiikomnhkbblaaGreatXG6
import Derived.Test.YtbiikomnhkbblaaGreatXG5
import Derived.Test.YtbiikomnhkbblaaGreatXG4
import Derived.Test.YtbiikomnhkbblaaGreatRows
import Derived.WalkKit
import Derived.ProofKit
import Derived.OpenShut

set_option linter.unusedSimpArgs false
set_option linter.unusedVariables false
namespace Go.Proofs.YtbiikomnhkbblaaGreat
open Go Go.Abs
section
variable {α:Type} [Inhabited α] {f:α→AV} {K:α→α→Int} {G:α→Prop} {g:Nat} {caps:List AV}
attribute [local irreducible] awp2 aops2 ains aloop athen bbind obind gbind acond res1 Go.Abs.Fn PCall Go.Abs.Pure SnapArgs SnapL Yl
set_option maxHeartbeats 1000000 in
theorem pdq_k (hc:Cmp3 Tryz.prog f K G g caps) {b n:Nat} (hn2:n ≤ 1000000000):∀ (sz a e lim:Nat) (L:List α) (H:Hp) (nx:Nat),e - a < sz→H b=some (L.c3 f)→b < nx→L.length=n→(∀ x ∈ L,G x)→a ≤ e→e ≤ n→lim ≤ 64→LowR K a e L →
    Abs.Fn Tryz.prog 91 [.msl b (n * 3) 3 0 n,.int .i64 a,.int .i64 e,.int .i64 lim,.func g caps] H nx fun r H' nx'=>∃ L',PS H H' nx nx' b (L'.c3 f)∧PermR a e L L'∧SortedR K a e L':=by
  intro sz
  induction sz with
  | zero=>intro a e lim L H nx h; omega
  | succ sz ih =>
  intro a e lim L H nx hsz hH hbx hn hG hae hen hlim hlow
  have dcap:=hc.dcaps
  refine Abs.Fn.of_c2 follows is91 (Nat.le_of_ble_eq_true rfl) ?_
  simp only [b91,cO,cG,cN,cM,cD,cF,cB,cFal,cTru]
  (have zz:=and_self; repeat' (first | apply w_seq | apply w_ops0 | apply w_block | apply a_n | apply o_nil | refine vZ ?_ | apply w_loop | fail)) <;> (try clear zz)
  refine loopI (X:=Nat × Nat × Nat × Bool × Bool × List α) (fun x=>[(0,.msl b (n * 3) 3 0 n),(1,.int .i64 (x.1:Nat)),(2,.int .i64 (x.2.1:Nat)),(3,.int .i64 (x.2.2.1:Nat)),(4,.func g caps),(10,.bool x.2.2.2.1),(11,.bool x.2.2.2.2.1)]) (fun x H' nxx=>PI K a e L x.1 x.2.1 x.2.2.2.2.2∧PS H H' nx nxx b (x.2.2.2.2.2.c3 f)∧x.2.2.1 ≤ 64) (fun x=>x.2.1 - x.1) (a,e,lim,true,true,L) ⟨.start hae (by rw [hn]; exact hen) hlow,⟨hH,fun _ _ _=>rfl,Nat.le_refl _⟩,hlim⟩ ag0 ?_
  clear hlim hlow lim
  rintro ⟨a1,e1,lim,wb,wp,M⟩ H1 n1 ⟨hpi,hps,hlim⟩
  dsimp only at *
  have hlo:=hpi.lo; have hmid:=hpi.mid; have hhi:=hpi.hi
  obtain ⟨l,hl0⟩:∃ l,e1 - a1=l:=⟨_,rfl⟩
  rw [hl0]
  have te:(e1:Int) - (a1:Int)=(l:Int):=by omega
  have hlen:∀ M:List α,PI K a e L a1 e1 M→M.length=n:=fun M h=>by rw [h.perm.len,hn]
  have hGA:∀ M:List α,PI K a e L a1 e1 M→∀ x ∈ M,G x:=fun M h=>h.perm.mem hG
  have hbn:∀ (M:List α) (H1:Hp) (n1:Nat),PS H H1 nx n1 b (M.c3 f)→b < n1:=fun M H1 n1 h=>by have:=h.le; omega
  obtain ⟨T,hT,t0,t1,t2,t3,t4,t10,t11⟩:∃ T,tl [(0,.msl b (n * 3) 3 0 n),(1,.int .i64 (a1:Nat)),(2,.int .i64 (e1:Nat)),(3,.int .i64 (lim:Nat)),(4,.func g caps),(10,.bool wb),(11,.bool wp)]=T∧T 0=.msl b (n * 3) 3 0 n∧T 1=.int .i64 (a1:Nat)∧T 2=.int .i64 (e1:Nat)∧T 3=.int .i64 (lim:Nat)∧T 4=.func g caps∧T 10=.bool wb∧T 11=.bool wp:=⟨_,rfl,rfl,rfl,rfl,rfl,rfl,rfl,rfl⟩
  rw [hT]
  clear hT
  refine w_block ?_
  refine w_seqC (fun T H'' nx''=>T 0=.msl b (n * 3) 3 0 n∧T 1=.int .i64 (a1:Nat)∧T 2=.int .i64 (e1:Nat)∧T 3=.int .i64 (lim:Nat)∧T 4=.func g caps∧T 10=.bool wb∧T 11=.bool wp∧T 12=.int .i64 (l:Nat)∧H1=H''∧n1=nx'') ?_ ?_
  · (have zz:=aI @t0 (aI @t1 (aI @t2 (aI @t3 (aI @t4 (aI @t10 (aI @t11 @te)))))); repeat' (first | apply w_ops0 | apply a_n | apply o_nil | refine vZ ?_ | fail)) <;> (try clear zz)
    exact ⟨(have zz:=@t0; evZ),(have zz:=@t1; evZ),(have zz:=@t2; evZ),(have zz:=@t3; evZ),(have zz:=@t4; evZ),(have zz:=@t10; evZ),(have zz:=@t11; evZ),ev0,rfl,rfl⟩
  clear t0 t1 t2 t3 t4 t10 t11
  rintro T _ _ ⟨t0,t1,t2,t3,t4,t10,t11,t12,rfl,rfl⟩
  refine w_seqC (fun T H'' nx''=>T 0=.msl b (n * 3) 3 0 n∧T 1=.int .i64 (a1:Nat)∧T 2=.int .i64 (e1:Nat)∧T 3=.int .i64 (lim:Nat)∧T 4=.func g caps∧T 10=.bool wb∧T 11=.bool wp∧T 12=.int .i64 (l:Nat)∧13 ≤ l∧H1=H''∧n1=nx'') ?_ ?_
  · by_cases h12:l ≤ 12
    · (have zz:=aI @t0 (aI @t1 (aI @t2 (aI @t3 (aI @t4 (aI @t10 (aI @t11 @t12)))))); repeat' (first | apply w_seq | apply w_ops0 | apply a_n | apply o_nil | refine vZ ?_ | (refine cdZ ?_ ?_ <;> (intro _hg; (try simp only [ZB] at _hg); try first | exact absurd trivial _hg | (exfalso; omega))) | fail)) <;> (try clear zz)
      refine o_callE ev0 (have zz:=aI @t0 (aI @t1 (aI @t2 (aI @t3 (aI @t4 (aI @t10 (aI @t11 @t12)))))); evZ) (ins_k hc (b:=b) hps.at_ (hlen _ hpi) (hGA _ hpi) (a:=a1) (e:=e1) hmid (by omega) hn2) ?_
      rintro _ _ _ ⟨rfl,N,rfl,hpN,hsN⟩
      (have zz:=and_self; repeat' (first | apply w_ret | apply a_n | apply a_r | apply o_nil | refine e_ends rfl ?_ | apply r_0 | fail)) <;> (try clear zz)
      exact ⟨N,hps.upd,hpi.done hpN hsN⟩
    · (have zz:=aI @t0 (aI @t1 (aI @t2 (aI @t3 (aI @t4 (aI @t10 (aI @t11 @t12)))))); repeat' (first | apply w_seq | apply w_ops0 | apply w_skip | apply a_n | apply o_nil | refine vZ ?_ | (refine cdZ ?_ ?_ <;> (intro _hg; (try simp only [ZB] at _hg); try first | exact absurd trivial _hg | (exfalso; omega))) | fail)) <;> (try clear zz)
      exact ⟨(have zz:=@t0; evZ),(have zz:=@t1; evZ),(have zz:=@t2; evZ),(have zz:=@t3; evZ),(have zz:=@t4; evZ),(have zz:=@t10; evZ),(have zz:=@t11; evZ),(have zz:=@t12; evZ),by omega,rfl,rfl⟩
  clear t0 t1 t2 t3 t4 t10 t11 t12
  rintro T _ _ ⟨t0,t1,t2,t3,t4,t10,t11,t12,h13,rfl,rfl⟩
  refine w_seqC (fun T H'' nx''=>T 0=.msl b (n * 3) 3 0 n∧T 1=.int .i64 (a1:Nat)∧T 2=.int .i64 (e1:Nat)∧T 3=.int .i64 (lim:Nat)∧T 4=.func g caps∧T 10=.bool wb∧T 11=.bool wp∧T 12=.int .i64 (l:Nat)∧0 < lim∧H1=H''∧n1=nx'') ?_ ?_
  · by_cases h12:lim=0
    · subst h12
      have tz:decide (((0:Nat):Int)=0)=true:=rfl
      (have zz:=aI @t0 (aI @t1 (aI @t2 (aI @t3 (aI @t4 (aI @t10 (aI @t11 (aI @t12 @tz))))))); repeat' (first | apply w_seq | apply w_ops0 | apply a_n | apply o_nil | refine vZ ?_ | refine cTZ ?_ | fail)) <;> (try clear zz)
      refine o_callE ev0 (have zz:=aI @t0 (aI @t1 (aI @t2 (aI @t3 (aI @t4 (aI @t10 (aI @t11 @t12)))))); evZ) (heap_k hc (b:=b) hps.at_ (hlen _ hpi) (hGA _ hpi) (a:=a1) (e:=e1) hmid (by omega) hn2) ?_
      rintro _ _ _ ⟨rfl,N,rfl,hpN,hsN⟩
      (have zz:=and_self; repeat' (first | apply w_ret | apply a_n | apply a_r | apply o_nil | refine e_ends rfl ?_ | apply r_0 | fail)) <;> (try clear zz)
      exact ⟨N,hps.upd,hpi.done hpN hsN⟩
    · have tz:decide ((lim:Int)=0)=false:=decide_eq_false (by omega)
      (have zz:=aI @t0 (aI @t1 (aI @t2 (aI @t3 (aI @t4 (aI @t10 (aI @t11 (aI @t12 @tz))))))); repeat' (first | apply w_seq | apply w_ops0 | apply w_skip | apply a_n | apply o_nil | refine vZ ?_ | refine cFZ ?_ | fail)) <;> (try clear zz)
      exact ⟨(have zz:=@t0; evZ),(have zz:=@t1; evZ),(have zz:=@t2; evZ),(have zz:=@t3; evZ),(have zz:=@t4; evZ),(have zz:=@t10; evZ),(have zz:=@t11; evZ),(have zz:=@t12; evZ),by omega,rfl,rfl⟩
  clear t0 t1 t2 t3 t4 t10 t11 t12
  rintro T _ _ ⟨t0,t1,t2,t3,t4,t10,t11,t12,hlim1,rfl,rfl⟩
  refine w_seqC (fun T H'' nx''=>∃ (lim:Nat) (M:List α),lim ≤ 64∧PI K a e L a1 e1 M∧PS H H'' nx nx'' b (M.c3 f)∧T 0=.msl b (n * 3) 3 0 n∧T 1=.int .i64 (a1:Nat)∧T 2=.int .i64 (e1:Nat)∧T 3=.int .i64 (lim:Nat)∧T 4=.func g caps∧T 10=.bool wb∧T 11=.bool wp∧T 12=.int .i64 (l:Nat)) ?_ ?_
  · cases wb
    · obtain ⟨k,rfl⟩:∃ k,lim=k + 1:=⟨lim - 1,by omega⟩
      have tk:((k + 1:Nat):Int) - 1=(k:Int):=by omega
      (have zz:=aI @t0 (aI @t1 (aI @t2 (aI @t3 (aI @t4 (aI @t10 (aI @t11 @t12)))))); repeat' (first | apply w_seq | apply w_ops0 | apply a_n | apply o_nil | refine vZ ?_ | refine cTZ ?_ | fail)) <;> (try clear zz)
      refine o_callE ev0 (have zz:=aI @t0 (aI @t1 (aI @t2 (aI @t3 (aI @t4 (aI @t10 (aI @t11 @t12)))))); evZ) (break_k hc (b:=b) hps.at_ (hbn _ _ _ hps) (hlen _ hpi) (a:=a1) (e:=e1) (by omega) (by omega) hn2) ?_
      rintro _ _ _ ⟨rfl,N,hN1,hN2,hpN⟩
      (have zz:=aI @t0 (aI @t1 (aI @t2 (aI @t3 (aI @t4 (aI @t10 (aI @t11 (aI @t12 @tk))))))); repeat' (first | apply w_ops0 | apply a_n | apply o_nil | refine vZ ?_ | fail)) <;> (try clear zz)
      exact ⟨k,N,by omega,hpi.swap hpN,hps.rec_ hN1 hN2 (Nat.le_succ _),(have zz:=@t0; evZ),(have zz:=@t1; evZ),(have zz:=@t2; evZ),(have zz:=@t3; evZ),(have zz:=@t4; evZ),(have zz:=@t10; evZ),(have zz:=@t11; evZ),(have zz:=@t12; evZ)⟩
    · (have zz:=aI @t0 (aI @t1 (aI @t2 (aI @t3 (aI @t4 (aI @t10 (aI @t11 @t12)))))); repeat' (first | apply w_seq | apply w_ops0 | apply w_skip | apply a_n | apply o_nil | refine vZ ?_ | refine cFZ ?_ | fail)) <;> (try clear zz)
      exact ⟨lim,M,hlim,hpi,hps,(have zz:=@t0; evZ),(have zz:=@t1; evZ),(have zz:=@t2; evZ),(have zz:=@t3; evZ),(have zz:=@t4; evZ),(have zz:=@t10; evZ),(have zz:=@t11; evZ),(have zz:=@t12; evZ)⟩
  clear t0 t1 t2 t3 t4 t10 t11 t12 hpi hps hlim hlim1
  rintro T H1 n1 ⟨lim,M,hlim,hpi,hps,t0,t1,t2,t3,t4,t10,t11,t12⟩
  refine w_seqC (fun T H'' nx''=>∃ (p:Nat) (hint:Int),a1 ≤ p∧p < e1∧PS H H'' nx nx'' b (M.c3 f)∧T 0=.msl b (n * 3) 3 0 n∧T 1=.int .i64 (a1:Nat)∧T 2=.int .i64 (e1:Nat)∧T 3=.int .i64 (lim:Nat)∧T 4=.func g caps∧T 10=.bool wb∧T 11=.bool wp∧T 12=.int .i64 (l:Nat)∧T 13=.int .i64 (p:Nat)∧T 14=.int .i64 hint) ?_ ?_
  · (have zz:=aI @t0 (aI @t1 (aI @t2 (aI @t3 (aI @t4 (aI @t10 (aI @t11 @t12)))))); repeat' (first | apply w_ops0 | refine vZ ?_ | fail)) <;> (try clear zz)
    refine o_callE ev0 (have zz:=aI @t0 (aI @t1 (aI @t2 (aI @t3 (aI @t4 (aI @t10 (aI @t11 @t12)))))); evZ) (choose_k hc (b:=b) hps.at_ (hbn _ _ _ hps) (hlen _ hpi) (hGA _ hpi) (a:=a1) (e:=e1) (by omega) (by omega) hn2) ?_
    rintro _ _ _ ⟨rfl,p,hint,v,rfl,hp1,hp2,rfl⟩
    (have zz:=aI @t0 (aI @t1 (aI @t2 (aI @t3 (aI @t4 (aI @t10 (aI @t11 @t12)))))); repeat' (first | apply a_n | apply o_nil | refine vZ ?_ | fail)) <;> (try clear zz)
    exact ⟨p,hint,hp1,hp2,hps.new hbx,(have zz:=@t0; evZ),(have zz:=@t1; evZ),(have zz:=@t2; evZ),(have zz:=@t3; evZ),(have zz:=@t4; evZ),(have zz:=@t10; evZ),(have zz:=@t11; evZ),(have zz:=@t12; evZ),ev0,ev0⟩
  clear t0 t1 t2 t3 t4 t10 t11 t12 hps
  rintro T H1 n1 ⟨p,hint,hp1,hp2,hps,t0,t1,t2,t3,t4,t10,t11,t12,t13,t14⟩
  refine w_seqC (fun T H'' nx''=>∃ (p:Nat) (hint:Int) (M:List α),a1 ≤ p∧p < e1∧PI K a e L a1 e1 M∧PS H H'' nx nx'' b (M.c3 f)∧T 0=.msl b (n * 3) 3 0 n∧T 1=.int .i64 (a1:Nat)∧T 2=.int .i64 (e1:Nat)∧T 3=.int .i64 (lim:Nat)∧T 4=.func g caps∧T 10=.bool wb∧T 11=.bool wp∧T 12=.int .i64 (l:Nat)∧T 13=.int .i64 (p:Nat)∧T 14=.int .i64 hint) ?_ ?_
  · by_cases h2:hint=2
    · subst h2
      obtain ⟨p2,hp3⟩:∃ p2,e1 - 1 - (p - a1)=p2:=⟨_,rfl⟩
      have tp:(e1:Int) - 1 - ((p:Int) - (a1:Int))=(p2:Int):=by omega
      have tz:decide ((2:Int)=2)=true:=rfl
      (have zz:=aI @t0 (aI @t1 (aI @t2 (aI @t3 (aI @t4 (aI @t10 (aI @t11 (aI @t12 (aI @t13 (aI @t14 @tz))))))))); repeat' (first | apply w_seq | apply w_ops0 | apply a_n | apply o_nil | refine vZ ?_ | (refine cdZ ?_ ?_ <;> (intro _hg; (try simp only [ZB] at _hg); try first | exact absurd trivial _hg | (exfalso; omega))) | fail)) <;> (try clear zz)
      refine o_callE ev0 (have zz:=aI @t0 (aI @t1 (aI @t2 (aI @t3 (aI @t4 (aI @t10 (aI @t11 @t12)))))); evZ) (rev_k hc (b:=b) hps.at_ (hlen _ hpi) (a:=a1) (e:=e1) (by omega) (by omega) hn2) ?_
      rintro _ _ _ ⟨rfl,N,rfl,hpN⟩
      (have zz:=aI @t0 (aI @t1 (aI @t2 (aI @t3 (aI @t4 (aI @t10 (aI @t11 (aI @t12 (aI @t13 (aI @t14 @tp))))))))); repeat' (first | apply w_seq | apply w_ops0 | apply a_n | apply o_nil | refine vZ ?_ | fail)) <;> (try clear zz)
      exact ⟨p2,1,N,by omega,by omega,hpi.swap hpN,hps.upd,(have zz:=@t0; evZ),(have zz:=@t1; evZ),(have zz:=@t2; evZ),(have zz:=@t3; evZ),(have zz:=@t4; evZ),(have zz:=@t10; evZ),(have zz:=@t11; evZ),(have zz:=@t12; evZ),ev0,ev0⟩
    · have tz:decide (hint=2)=false:=decide_eq_false h2
      (have zz:=aI @t0 (aI @t1 (aI @t2 (aI @t3 (aI @t4 (aI @t10 (aI @t11 (aI @t12 (aI @t13 (aI @t14 @tz))))))))); repeat' (first | apply w_seq | apply w_ops0 | apply w_skip | apply a_n | apply o_nil | refine vZ ?_ | refine cFZ ?_ | fail)) <;> (try clear zz)
      exact ⟨p,hint,M,hp1,hp2,hpi,hps,(have zz:=@t0; evZ),(have zz:=@t1; evZ),(have zz:=@t2; evZ),(have zz:=@t3; evZ),(have zz:=@t4; evZ),(have zz:=@t10; evZ),(have zz:=@t11; evZ),(have zz:=@t12; evZ),(have zz:=@t13; evZ),(have zz:=@t14; evZ)⟩
  clear t0 t1 t2 t3 t4 t10 t11 t12 t13 t14 hps hpi hp1 hp2
  rintro T H1 n1 ⟨p,hint,M,hp1,hp2,hpi,hps,t0,t1,t2,t3,t4,t10,t11,t12,t13,t14⟩
  refine w_seqC (fun T H'' nx''=>∃ (M:List α),PI K a e L a1 e1 M∧PS H H'' nx nx'' b (M.c3 f)∧T 0=.msl b (n * 3) 3 0 n∧T 1=.int .i64 (a1:Nat)∧T 2=.int .i64 (e1:Nat)∧T 3=.int .i64 (lim:Nat)∧T 4=.func g caps∧T 10=.bool wb∧T 11=.bool wp∧T 12=.int .i64 (l:Nat)∧T 13=.int .i64 (p:Nat)) ?_ ?_
  · cases wb
    · cases wp
      · (have zz:=aI @t0 (aI @t1 (aI @t2 (aI @t3 (aI @t4 (aI @t10 (aI @t11 (aI @t12 (aI @t13 @t14)))))))); repeat' (first | apply w_seq | apply w_ops0 | apply w_skip | apply a_n | apply o_nil | refine vZ ?_ | refine gFZ ?_ | refine cFZ ?_ | fail)) <;> (try clear zz)
        exact ⟨M,hpi,hps,(have zz:=@t0; evZ),(have zz:=@t1; evZ),(have zz:=@t2; evZ),(have zz:=@t3; evZ),(have zz:=@t4; evZ),(have zz:=@t10; evZ),(have zz:=@t11; evZ),(have zz:=@t12; evZ),(have zz:=@t13; evZ)⟩
      · (have zz:=aI @t0 (aI @t1 (aI @t2 (aI @t3 (aI @t4 (aI @t10 (aI @t11 (aI @t12 (aI @t13 @t14)))))))); repeat' (first | apply w_seq | apply w_ops0 | apply w_skip | apply a_n | apply o_nil | refine vZ ?_ | refine gFZ ?_ | refine cFZ ?_ | fail)) <;> (try clear zz)
        exact ⟨M,hpi,hps,(have zz:=@t0; evZ),(have zz:=@t1; evZ),(have zz:=@t2; evZ),(have zz:=@t3; evZ),(have zz:=@t4; evZ),(have zz:=@t10; evZ),(have zz:=@t11; evZ),(have zz:=@t12; evZ),(have zz:=@t13; evZ)⟩
    · cases wp
      · (have zz:=aI @t0 (aI @t1 (aI @t2 (aI @t3 (aI @t4 (aI @t10 (aI @t11 (aI @t12 (aI @t13 @t14)))))))); repeat' (first | apply w_seq | apply w_ops0 | apply w_skip | apply a_n | apply o_nil | refine vZ ?_ | refine gTZ ?_ | refine gFZ ?_ | refine cFZ ?_ | fail)) <;> (try clear zz)
        exact ⟨M,hpi,hps,(have zz:=@t0; evZ),(have zz:=@t1; evZ),(have zz:=@t2; evZ),(have zz:=@t3; evZ),(have zz:=@t4; evZ),(have zz:=@t10; evZ),(have zz:=@t11; evZ),(have zz:=@t12; evZ),(have zz:=@t13; evZ)⟩
      · by_cases h1:hint=1
        · subst h1
          have tz:decide ((1:Int)=1)=true:=rfl
          (have zz:=aI @t0 (aI @t1 (aI @t2 (aI @t3 (aI @t4 (aI @t10 (aI @t11 (aI @t12 (aI @t13 (aI @t14 @tz))))))))); repeat' (first | apply w_seq | apply w_ops0 | apply a_n | apply o_nil | refine vZ ?_ | refine gTZ ?_ | (refine cdZ ?_ ?_ <;> (intro _hg; (try simp only [ZB] at _hg); try first | exact absurd trivial _hg | (exfalso; omega))) | fail)) <;> (try clear zz)
          refine o_callE ev0 (have zz:=aI @t0 (aI @t1 (aI @t2 (aI @t3 (aI @t4 (aI @t10 (aI @t11 @t12)))))); evZ) (partial_k hc (b:=b) hps.at_ (hlen _ hpi) (hGA _ hpi) (a:=a1) (e:=e1) (by omega) (by omega) hn2 hpi.low) ?_
          rintro _ _ _ ⟨rfl,N,t,rfl,rfl,hpN,hsN⟩
          cases t
          · (have zz:=aI @t0 (aI @t1 (aI @t2 (aI @t3 (aI @t4 (aI @t10 (aI @t11 (aI @t12 (aI @t13 @t14)))))))); repeat' (first | apply w_skip | apply a_n | apply o_nil | refine cFZ ?_ | fail)) <;> (try clear zz)
            exact ⟨N,hpi.swap hpN,hps.upd,(have zz:=@t0; evZ),(have zz:=@t1; evZ),(have zz:=@t2; evZ),(have zz:=@t3; evZ),(have zz:=@t4; evZ),(have zz:=@t10; evZ),(have zz:=@t11; evZ),(have zz:=@t12; evZ),(have zz:=@t13; evZ)⟩
          · (have zz:=aI @t0 (aI @t1 (aI @t2 (aI @t3 (aI @t4 (aI @t10 (aI @t11 (aI @t12 (aI @t13 @t14)))))))); repeat' (first | apply w_ret | apply a_n | apply a_r | apply o_nil | refine cTZ ?_ | refine e_ends rfl ?_ | apply r_0 | fail)) <;> (try clear zz)
            exact ⟨N,hps.upd,hpi.done hpN (hsN rfl)⟩
        · have tz:decide (hint=1)=false:=decide_eq_false h1
          (have zz:=aI @t0 (aI @t1 (aI @t2 (aI @t3 (aI @t4 (aI @t10 (aI @t11 (aI @t12 (aI @t13 (aI @t14 @tz))))))))); repeat' (first | apply w_seq | apply w_ops0 | apply w_skip | apply a_n | apply o_nil | refine vZ ?_ | refine gTZ ?_ | refine cFZ ?_ | fail)) <;> (try clear zz)
          exact ⟨M,hpi,hps,(have zz:=@t0; evZ),(have zz:=@t1; evZ),(have zz:=@t2; evZ),(have zz:=@t3; evZ),(have zz:=@t4; evZ),(have zz:=@t10; evZ),(have zz:=@t11; evZ),(have zz:=@t12; evZ),(have zz:=@t13; evZ)⟩
  clear t0 t1 t2 t3 t4 t10 t11 t12 t13 t14 hps hpi hint
  rintro T H1 n1 ⟨M,hpi,hps,t0,t1,t2,t3,t4,t10,t11,t12,t13⟩
  have hbb:=hps.at_
  have hl:=hlen _ hpi
  have hGM:=hGA _ hpi
  refine w_seqC (fun T H'' nx''=>T 0=.msl b (n * 3) 3 0 n∧T 1=.int .i64 (a1:Nat)∧T 2=.int .i64 (e1:Nat)∧T 3=.int .i64 (lim:Nat)∧T 4=.func g caps∧T 10=.bool wb∧T 11=.bool wp∧T 12=.int .i64 (l:Nat)∧T 13=.int .i64 (p:Nat)∧H1=H''∧n1=nx'') ?_ ?_
  · by_cases ha0:a1=0
    · have tz:decide ((0:Int) < (a1:Int))=false:=decide_eq_false (by omega)
      (have zz:=aI @t0 (aI @t1 (aI @t2 (aI @t3 (aI @t4 (aI @t10 (aI @t11 (aI @t12 (aI @t13 @tz)))))))); repeat' (first | apply w_seq | apply w_mixS1 | apply w_skip | apply a_n | apply o_nil | refine vZ ?_ | refine gFZ ?_ | refine cFZ ?_ | fail)) <;> (try clear zz)
      exact ⟨(have zz:=@t0; evZ),(have zz:=@t1; evZ),(have zz:=@t2; evZ),(have zz:=@t3; evZ),(have zz:=@t4; evZ),(have zz:=@t10; evZ),(have zz:=@t11; evZ),(have zz:=@t12; evZ),(have zz:=@t13; evZ),rfl,rfl⟩
    have tz:decide ((0:Int) < (a1:Int))=true:=decide_eq_true (by omega)
    obtain ⟨k,hk⟩:∃ k,a1 - 1=k:=⟨_,rfl⟩
    have tk:(a1:Int) - 1=(k:Int):=by omega
    have lc:=hc.run (M.getD k default) (M.getD p default) (hGM _ (mem_getD (by omega))) (hGM _ (mem_getD (by omega)))
    have d1:=hc.dat (M.getD k default)
    have d2:=hc.dat (M.getD p default)
    generalize hKK:K (M.getD k default) (M.getD p default)=kk at lc
    by_cases hlt:kk < 0
    · (have zz:=aI @t0 (aI @t1 (aI @t2 (aI @t3 (aI @t4 (aI @t10 (aI @t11 (aI @t12 (aI @t13 (aI @tz (aI @tk (aI @hbb (aI @Int.toNat_natCast (aI (rdC hc.len) (aI (c3_len hc.len) (aI @mapIte (aI hc.agg hc.ones)))))))))))))))); repeat' (first | apply w_seq | apply w_mixS1 | apply w_skip | apply a_n | apply o_nil | refine vZ ?_ | refine cZ ?_ (hp:=lc) (hs:=by (first | refine snap_plain ?_ rfl | apply snap_data); (repeat' (first | exact snapL_nil | apply snapL_i | apply snapL_dat | exact d1 | exact d2 | exact snapL_datL dcap)); first | done | fail) | refine gTZ ?_ | (refine cdZ ?_ ?_ <;> (intro _hg; (try simp only [ZB] at _hg); try first | exact absurd trivial _hg | (exfalso; omega))) | fail)) <;> (try clear zz)
      exact ⟨(have zz:=@t0; evZ),(have zz:=@t1; evZ),(have zz:=@t2; evZ),(have zz:=@t3; evZ),(have zz:=@t4; evZ),(have zz:=@t10; evZ),(have zz:=@t11; evZ),(have zz:=@t12; evZ),(have zz:=@t13; evZ),rfl,rfl⟩
    · (have zz:=aI @t0 (aI @t1 (aI @t2 (aI @t3 (aI @t4 (aI @t10 (aI @t11 (aI @t12 (aI @t13 (aI @tz (aI @tk (aI @hbb (aI @Int.toNat_natCast (aI (rdC hc.len) (aI (c3_len hc.len) (aI @mapIte (aI hc.agg hc.ones)))))))))))))))); repeat' (first | apply w_seq | apply w_ops0 | apply w_mixS1 | apply a_n | apply o_nil | refine vZ ?_ | refine cZ ?_ (hp:=lc) (hs:=by (first | refine snap_plain ?_ rfl | apply snap_data); (repeat' (first | exact snapL_nil | apply snapL_i | apply snapL_dat | exact d1 | exact d2 | exact snapL_datL dcap)); first | done | fail) | refine gTZ ?_ | (refine cdZ ?_ ?_ <;> (intro _hg; (try simp only [ZB] at _hg); try first | exact absurd trivial _hg | (exfalso; omega))) | fail)) <;> (try clear zz)
      refine o_callE ev0 (have zz:=aI @t0 (aI @t1 (aI @t2 (aI @t3 (aI @t4 (aI @t10 (aI @t11 (aI @t12 @t13))))))); evZ) (parteq_k hc (b:=b) hps.at_ (hlen _ hpi) (hGA _ hpi) (a:=a1) (e:=e1) (pv:=p) (by omega) (by omega) hn2 ⟨hp1,hp2⟩) ?_
      rintro _ _ _ ⟨rfl,N,m,rfl,hm1,hm2,rfl,hpN,q1,q2⟩
      (have zz:=aI @t0 (aI @t1 (aI @t2 (aI @t3 (aI @t4 (aI @t10 (aI @t11 (aI @t12 @t13))))))); repeat' (first | apply w_seq | apply w_ops0 | apply w_exit | apply a_n | apply a_x | apply o_nil | refine vZ ?_ | fail)) <;> (try clear zz)
      exact ⟨(m,e1,lim,wb,wp,N),by dsimp only; omega,⟨hpi.equal hc.ord hpN (by rw [hk,hKK]; exact hlt) (by omega) ⟨hm1,hm2⟩ q1 q2,hps.upd,hlim⟩,(have zz:=aI @t0 (aI @t1 (aI @t2 (aI @t3 (aI @t4 (aI @t10 (aI @t11 @t12)))))); agZ)⟩
  clear t0 t1 t2 t3 t4 t10 t11 t12 t13
  rintro T _ _ ⟨t0,t1,t2,t3,t4,t10,t11,t12,t13,rfl,rfl⟩
  refine w_seqC (fun T H'' nx''=>∃ (M:List α) (m:Nat) (t:Bool),PI K a e L a1 e1 M∧TwoS K a1 e1 m M∧PS H H'' nx nx'' b (M.c3 f)∧T 0=.msl b (n * 3) 3 0 n∧T 1=.int .i64 (a1:Nat)∧T 2=.int .i64 (e1:Nat)∧T 3=.int .i64 (lim:Nat)∧T 4=.func g caps∧T 10=.bool wb∧T 11=.bool wp∧T 12=.int .i64 (l:Nat)∧T 16=.int .i64 (m:Nat)∧T 17=.bool t) ?_ ?_
  · (have zz:=aI @t0 (aI @t1 (aI @t2 (aI @t3 (aI @t4 (aI @t10 (aI @t11 (aI @t12 @t13))))))); repeat' (first | apply w_ops0 | refine vZ ?_ | fail)) <;> (try clear zz)
    refine o_callE ev0 (have zz:=aI @t0 (aI @t1 (aI @t2 (aI @t3 (aI @t4 (aI @t10 (aI @t11 (aI @t12 @t13))))))); evZ) (part_k hc (b:=b) hps.at_ (hlen _ hpi) (hGA _ hpi) (a:=a1) (e:=e1) (pv:=p) (by omega) (by omega) hn2 ⟨hp1,hp2⟩) ?_
    rintro _ _ _ ⟨rfl,N,m,t,rfl,hm1,hm2,rfl,hpN,q1,q2⟩
    (have zz:=aI @t0 (aI @t1 (aI @t2 (aI @t3 (aI @t4 (aI @t10 (aI @t11 (aI @t12 @t13))))))); repeat' (first | apply a_n | apply o_nil | refine vZ ?_ | fail)) <;> (try clear zz)
    exact ⟨N,m,t,hpi.swap hpN,⟨⟨hm1,hm2⟩,fun p k1 k2=>hc.ord.asym _ _ (q1 p k1 k2),q2⟩,hps.upd,(have zz:=@t0; evZ),(have zz:=@t1; evZ),(have zz:=@t2; evZ),(have zz:=@t3; evZ),(have zz:=@t4; evZ),(have zz:=@t10; evZ),(have zz:=@t11; evZ),(have zz:=@t12; evZ),ev0,ev0⟩
  clear t0 t1 t2 t3 t4 t10 t11 t12 t13 hbb hl hGM hpi hps hp1 hp2 p
  rintro T H1 n1 ⟨M,m,t,hpi,hts,hps,t0,t1,t2,t3,t4,t10,t11,t12,t16,t17⟩
  have hm:=hts.mid
  have hl:=hlen _ hpi
  have tq:abin2 .quo false false (.int .i64 (l:Int)) (.int .i64 8)=some (.int .i64 ((l / 8:Nat):Int)):=by
    rw [quo_pos (by omega) (by omega) (by omega)]
    congr 2
  have tm:(m:Int) + 1=((m + 1:Nat):Int):=by omega
  by_cases hlr:(m:Int) - (a1:Int) < (e1:Int) - (m:Int)
  · have tz:decide ((m:Int) - (a1:Int) < (e1:Int) - (m:Int))=true:=decide_eq_true hlr
    (have zz:=aI @t0 (aI @t1 (aI @t2 (aI @t3 (aI @t4 (aI @t10 (aI @t11 (aI @t12 (aI @t16 (aI @t17 (aI @tq @tz)))))))))); repeat' (first | apply w_seq | apply w_ops0 | apply a_n | apply o_nil | refine vZ ?_ | refine cTZ ?_ | fail)) <;> (try clear zz)
    refine o_callE ev0 (have zz:=aI @t0 (aI @t1 (aI @t2 (aI @t3 (aI @t4 (aI @t10 (aI @t11 (aI @t12 (aI @t16 @t17)))))))); evZ) (ih a1 m lim M H1 n1 (by omega) hps.at_ (hbn _ _ _ hps) hl (hGA _ hpi) (by omega) (by omega) hlim (hpi.low.sub rfl (by omega))) ?_
    rintro _ H2 n2 ⟨N,hps2,hpN,hsN⟩
    (have zz:=aI @t0 (aI @t1 (aI @t2 (aI @t3 (aI @t4 (aI @t10 (aI @t11 (aI @t12 (aI @t16 (aI @t17 @tm))))))))); repeat' (first | apply w_ops0 | apply a_n | apply o_nil | refine vZ ?_ | fail)) <;> (try clear zz)
    exact ⟨(m + 1,e1,lim,decide (((l / 8:Nat):Int) ≤ (m:Int) - (a1:Int)),t,N),by dsimp only; omega,⟨hpi.left hc.ord hts hpN hsN,hps.rec_ hps2.at_ hps2.fr hps2.le,hlim⟩,(have zz:=aI @t0 (aI @t1 (aI @t2 (aI @t3 (aI @t4 (aI @t10 (aI @t11 (aI @t12 (aI @t16 @t17)))))))); agZ)⟩
  · have tz:decide ((m:Int) - (a1:Int) < (e1:Int) - (m:Int))=false:=decide_eq_false hlr
    (have zz:=aI @t0 (aI @t1 (aI @t2 (aI @t3 (aI @t4 (aI @t10 (aI @t11 (aI @t12 (aI @t16 (aI @t17 (aI @tq (aI @tz @tm))))))))))); repeat' (first | apply w_seq | apply w_ops0 | apply a_n | apply o_nil | refine vZ ?_ | refine cFZ ?_ | fail)) <;> (try clear zz)
    refine o_callE ev0 (have zz:=aI @t0 (aI @t1 (aI @t2 (aI @t3 (aI @t4 (aI @t10 (aI @t11 (aI @t12 (aI @t16 @t17)))))))); evZ) (ih (m + 1) e1 lim M H1 n1 (by omega) hps.at_ (hbn _ _ _ hps) hl (hGA _ hpi) (by omega) (by omega) hlim (fun q k0 k1 k2=>by rw [Nat.add_sub_cancel]; exact hts.ge q k1 k2)) ?_
    rintro _ H2 n2 ⟨N,hps2,hpN,hsN⟩
    (have zz:=aI @t0 (aI @t1 (aI @t2 (aI @t3 (aI @t4 (aI @t10 (aI @t11 (aI @t12 (aI @t16 @t17)))))))); repeat' (first | apply w_ops0 | apply a_n | apply o_nil | refine vZ ?_ | fail)) <;> (try clear zz)
    exact ⟨(a1,m,lim,decide (((l / 8:Nat):Int) ≤ (e1:Int) - (m:Int)),t,N),by dsimp only; omega,⟨hpi.right hc.ord hts hpN hsN,hps.rec_ hps2.at_ hps2.fr hps2.le,hlim⟩,(have zz:=aI @t0 (aI @t1 (aI @t2 (aI @t3 (aI @t4 (aI @t10 (aI @t11 (aI @t12 (aI @t16 @t17)))))))); agZ)⟩
end
end Go.Proofs.YtbiikomnhkbblaaGreat
namespace Go.Proofs.YtbiikomnhkbblaaGreat
open Go Go.Abs
section
variable {α:Type} [Inhabited α] {f:α→AV} {K:α→α→Int} {G:α→Prop}
attribute [local irreducible] awp2 aops2 ains aloop athen bbind obind gbind acond res1 Go.Abs.Fn PCall Go.Abs.Pure SnapArgs SnapL Yl
end
end Go.Proofs.YtbiikomnhkbblaaGreat
namespace Go.Proofs.YtbiikomnhkbblaaGreat
open Go Go.Abs
open Nat (reduceEqDiff reduceAdd reduceLeDiff)
section
variable {α:Type} [Inhabited α] {f:α→AV} {K:α→α→Int} {G:α→Prop} {g:Nat} {caps:List AV}
attribute [local irreducible] awp2 aops2 ains aloop athen bbind obind gbind acond res1 Go.Abs.Fn PCall Go.Abs.Pure SnapArgs SnapL Yl
theorem sortF_k (hc:Cmp3 Tryz.prog f K G g caps) {L:List α} {H:Hp} {b nx n:Nat} (hH:H b=some (L.c3 f)) (hbx:b < nx) (hn:L.length=n) (hn0:0 < n) (hG:∀ x ∈ L,G x) (hn2:n ≤ 1000000000) :
    Abs.Fn Tryz.prog 67 [.msl b (n * 3) 3 0 n,.func g caps] H nx fun r H' nx'=>∃ L',PS H H' nx nx' b (L'.c3 f)∧L'.Perm L∧SortedR K 0 n L':=by
  refine Abs.Fn.of_c2 follows is67 (Nat.le_of_ble_eq_true rfl) ?_
  simp only [b67,cO,cG,cN,cM,cD,cF,cB,cFal,cTru]
  have w:IntKind.wrap .u64 (n:Int)=n:=wrapU64 (by omega) (by omega)
  (have zz:=@w; repeat' (first | apply w_seq | apply w_ops0 | apply a_n | apply o_nil | refine vZ ?_ | fail)) <;> (try clear zz)
  refine o_callE ev0 (have zz:=@w; evZ) (len_c hn0 (by omega)) ?_
  rintro _ _ _ ⟨rfl,rfl,k,rfl,h3,h4⟩
  have hk:k ≤ 62:=by
    rcases Nat.lt_or_ge 62 k with h | h
    · have:=Nat.pow_le_pow_right (n:=2) (by omega) h
      omega
    · exact h
  (have zz:=and_self; repeat' (first | refine vZ ?_ | fail)) <;> (try clear zz)
  refine o_callE ev0 (have zz:=@Int.natCast_zero; evZ) (pdq_k hc hn2 (n + 1) 0 n k L _ _ (by omega) hH hbx hn hG (by omega) (Nat.le_refl _) (by omega) (fun q h=>by omega)) ?_
  rintro _ _ _ ⟨N,hps,hp,hs⟩
  (have zz:=and_self; repeat' (first | apply o_nil | refine e_ends rfl ?_ | apply r_0 | fail)) <;> (try clear zz)
  exact ⟨N,hps,hp.perm,hs⟩
end
end Go.Proofs.YtbiikomnhkbblaaGreat
namespace Go.Proofs.YtbiikomnhkbblaaGreat
open Go Go.Abs
open Nat (reduceEqDiff reduceAdd reduceLeDiff)
abbrev Sh {α:Type} (l:List α):Prop:=l.length ≤ 17592186044416
structure CaseV where
  inp:List Int
  out:List (List Int)
  calm:List (List Int)
  deriving Inhabited,DecidableEq
structure TaskV where
  n:Int
  ins:Int
  outs:Int
  cases:List CaseV
  deriving Inhabited,DecidableEq
def encC (c:CaseV):AV:=.agg [encV c.inp,encVV c.out,encVV c.calm]
def encCs (l:List CaseV):AV:=.sl 3 (l.map encC)
def encT (t:TaskV):AV:=.agg [.int .i64 t.n,.int .i64 t.ins,.int .i64 t.outs,encCs t.cases]
def T00:TaskV:=⟨0,0,0,[]⟩
theorem snapErr {H:Hp} (e:Int):Snap H (.tup [.agg [.int .i64 0,.int .i64 0,.int .i64 0,.esl],.int .i64 e]) (.tup [encT T00,.int .i64 e]):=by
  refine snap_tup (snapL_cons (snap_agg ?_) (snapL_cons (.int _ _) snapL_nil))
  exact snapL_cons (.int _ _) (snapL_cons (.int _ _) (snapL_cons (.int _ _) (snapL_cons (.eslsl 3) snapL_nil)))
theorem asrc_one {H:Hp} {d:Nat} {x:AV}:asrc 1 (hupd H d [x]) (.msl d 1 1 0 1)=some (1,[x]):=asrc_msl (n:=1) (len:=1) (off:=0) (cs:=[x]) hupd_self' rfl (by simp)
theorem encCs_dat (l:List CaseV):Dat (encCs l):=Dat.sl (fun x hx c hc=>by
  simp at hx; obtain ⟨q,_,rfl⟩:=hx
  simp only [encC,AV.cells,List.mem_cons,List.not_mem_nil,or_false] at hc
  rcases hc with rfl | rfl | rfl
  · exact encV_dat _
  · exact encVV_dat _
  · exact encVV_dat _)
theorem encT_dat (t:TaskV):Dat (encT t):=by
  refine Dat.agg fun x hx=>?_
  simp only [List.mem_cons,List.not_mem_nil,or_false] at hx
  rcases hx with rfl | rfl | rfl | rfl
  · exact .int
  · exact .int
  · exact .int
  · exact encCs_dat _
theorem encT_cells (t:TaskV):(encT t).cells=[.int .i64 t.n,.int .i64 t.ins,.int .i64 t.outs,encCs t.cases]:=rfl
theorem encCs_one (l:List CaseV):(encCs l).one=true:=rfl
theorem encCs_cells (l:List CaseV):(encCs l).cells=[encCs l]:=rfl
theorem alenS_encCs (l:List CaseV):alenS (encCs l)=some (.int .i64 l.length):=by simp [alenS,encCs]
theorem aixS_encCs {l:List CaseV} {k:Nat} (h:k < l.length):aixS 3 (encCs l) (.int .i64 k)=some (.iptr [encV (l.getD k default).inp,encVV (l.getD k default).out,encVV (l.getD k default).calm] 0):=by
  simp [aixS,encCs,h,List.getD,encC,AV.cells]
def ShC (c:CaseV):Prop:=Sh c.inp∧Sh c.out∧(∀ x ∈ c.out,Sh x)∧Sh c.calm∧∀ x ∈ c.calm,Sh x
def order:List Int→List Int→Int
  | [],[]=>0
  | [],_ :: _=>-1
  | _ :: _,[]=>1
  | a :: l,b :: m=>if a < b then -1 else if a > b then 1 else order l m
def firstI (f:Nat→Int):Nat→Int
  | 0=>0
  | n + 1=>if firstI f n ≠ 0 then firstI f n else f n
theorem firstI_zero {f:Nat→Int}:∀ {n:Nat},(∀ i,i < n→f i=0)→firstI f n=0
  | 0,_=>rfl
  | n + 1,h=>by
    have:=firstI_zero (f:=f) (n:=n) (fun i hi=>h i (by omega))
    rw [firstI,this,if_neg (by simp)]; exact h n (by omega)
theorem firstI_hit {f:Nat→Int}:∀ {n k:Nat},k < n→(∀ i,i < k→f i=0)→f k ≠ 0→firstI f n=f k
  | 0,k,h,_,_=>absurd h (by omega)
  | n + 1,k,h,h0,hk=>by
    rw [firstI]
    by_cases e:k=n
    · subst e
      rw [firstI_zero h0,if_neg (by simp)]
    · rw [firstI_hit (n:=n) (by omega) h0 hk,if_pos hk]
theorem firstI_all {f:Nat→Int}:∀ {n:Nat},firstI f n=0→∀ i,i < n→f i=0
  | 0,_,i,h=>absurd h (by omega)
  | n + 1,h,i,hi=>by
    rw [firstI] at h
    by_cases e:firstI f n=0
    · rw [e,if_neg (by simp)] at h
      by_cases ei:i=n
      · subst ei; exact h
      · exact firstI_all e i (by omega)
    · rw [if_pos e] at h; exact absurd h e
def vectorE (v:List Int) (n most:Int):Int:=if (v.length:Int) ≠ n then 15 else if v.any (fun x=>decide (x < 0 ∨ most ≤ x)) then 2 else 0
def unordB (l:List (List Int)) (i:Nat):Bool:=decide (0 < i) && decide (0 ≤ order (l.getD (i - 1) default) (l.getD i default))
def outE (n outs:Int) (l:List (List Int)) (k:Nat):Int:=if vectorE (l.getD k default) n outs ≠ 0 then vectorE (l.getD k default) n outs else if unordB l k then 14 else 0
def calmE (out calm:List (List Int)) (k:Nat):Int:=if calm.getD k default ∈ out then (if unordB calm k then 14 else 0) else 6
def vectorsE (n outs:Int) (c:CaseV):Int:=if c.out.length < 1 ∨ 1024 < c.out.length then 5 else if firstI (outE n outs c.out) c.out.length ≠ 0 then firstI (outE n outs c.out) c.out.length else firstI (calmE c.out c.calm) c.calm.length
def caseE (t:TaskV) (k:Nat):Int:=if vectorE (t.cases.getD k default).inp t.n t.ins ≠ 0 then vectorE (t.cases.getD k default).inp t.n t.ins else if unordB (t.cases.map CaseV.inp) k then 14 else vectorsE t.n t.outs (t.cases.getD k default)
def checkE (t:TaskV):Int:=if t.n < 1 ∨ 5 < t.n ∨ t.ins < 1 ∨ 8 < t.ins ∨ t.outs < 1 ∨ 8 < t.outs then 2 else if t.cases.length < 1 ∨ 1024 < t.cases.length then 5 else firstI (caseE t) t.cases.length
theorem order_refl:∀ l:List Int,order l l=0
  | []=>rfl
  | a :: l=>by rw [order,if_neg (by omega),if_neg (by omega)]; exact order_refl l
theorem order_eq:∀ {l m:List Int},order l m=0→l=m
  | [],[],_=>rfl
  | [],_ :: _,h=>by simp [order] at h
  | _ :: _,[],h=>by simp [order] at h
  | a :: l,b :: m,h=>by
    rw [order] at h
    split at h
    · omega
    · split at h
      · omega
      · rw [order_eq h,show a=b by omega]
theorem order_swap:∀ l m:List Int,order m l=- order l m
  | [],[]=>rfl
  | [],_ :: _=>rfl
  | _ :: _,[]=>rfl
  | a :: l,b :: m=>by
    rw [order,order]
    by_cases h:a < b
    · rw [if_neg (by omega),if_pos (by omega),if_pos h]; rfl
    · by_cases h2:b < a
      · rw [if_pos h2,if_neg h,if_pos (by omega)]
      · rw [if_neg h2,if_neg (by omega),if_neg h,if_neg (by omega)]; exact order_swap l m
theorem order_vals:∀ l m:List Int,order l m=-1 ∨ order l m=0 ∨ order l m=1
  | [],[]=>.inr (.inl rfl)
  | [],_ :: _=>.inl rfl
  | _ :: _,[]=>.inr (.inr rfl)
  | a :: l,b :: m=>by
    rw [order]
    split
    · exact .inl rfl
    · split
      · exact .inr (.inr rfl)
      · exact order_vals l m
theorem order_trans:∀ {l m k:List Int},order l m < 0→order m k < 0→order l k < 0
  | [],[],k,h,_=>by simp [order] at h
  | [],_ :: _,[],_,h=>by simp [order] at h
  | [],_ :: _,_ :: _,_,_=>by simp [order]
  | _ :: _,[],_,h,_=>by simp [order] at h
  | _ :: _,_ :: _,[],_,h=>by simp [order] at h
  | a :: l,b :: m,c :: k,h1,h2=>by
    rw [order] at h1 h2 ⊢
    by_cases e1:a < b
    · by_cases e2:b < c
      · rw [if_pos (by omega)]; decide
      · rw [if_neg e2] at h2
        by_cases e3:b > c
        · rw [if_pos e3] at h2; omega
        · rw [if_pos (by omega)]; decide
    · rw [if_neg e1] at h1
      by_cases e4:a > b
      · rw [if_pos e4] at h1; omega
      · rw [if_neg e4] at h1
        by_cases e2:b < c
        · rw [if_pos (by omega)]; decide
        · rw [if_neg e2] at h2
          by_cases e3:b > c
          · rw [if_pos e3] at h2; omega
          · rw [if_neg e3] at h2
            rw [if_neg (by omega),if_neg (by omega)]
            exact order_trans h1 h2
theorem asc_of {l:List (List Int)} (h:∀ i,i < l.length→unordB l i=false):∀ (j i:Nat),i < j→j < l.length→order (l.getD i default) (l.getD j default) < 0
  | 0,i,h1,_=>absurd h1 (by omega)
  | j + 1,i,h1,h2=>by
    have hj:=h (j + 1) h2
    unfold unordB at hj
    rw [decide_eq_true (show 0 < j + 1 by omega),Bool.true_and,decide_eq_false_iff_not] at hj
    have hj':order (l.getD j default) (l.getD (j + 1) default) < 0:=by
      rw [show j + 1 - 1=j by omega] at hj; omega
    by_cases e:i=j
    · subst e; exact hj'
    · exact order_trans (asc_of h j i (by omega) (by omega)) hj'
attribute [local irreducible] awp2 aops2 ains aloop athen bbind obind gbind acond res1 Go.Abs.Fn PCall Go.Abs.Pure SnapArgs SnapL Yl
def idxF (l:List Int) (p:Int→Bool):Int:=if l.any p then (l.findIdx p:Nat) else -1
theorem idxF_at {l:List Int} {p:Int→Bool} {k:Nat} (hk:k < l.length) (h:∀ i,i < k→p (l.getD i default)=false) (hv:p (l.getD k default)=true):idxF l p=k:=by
  have e:l.getD k default=l[k]:=by simp [List.getD,hk]
  have hm:l.any p=true:=List.any_eq_true.2 ⟨l[k],List.getElem_mem hk,by rw [← e]; exact hv⟩
  unfold idxF; rw [if_pos hm]
  have:l.findIdx p=k:=(List.findIdx_eq hk).2 ⟨by rw [← e]; exact hv,fun j hj=>by have:=h j hj; rwa [show l.getD j default=l[j] by simp [List.getD,show j < l.length by omega]] at this⟩
  rw [this]
theorem idxF_none {l:List Int} {p:Int→Bool} (h:∀ i,i < l.length→p (l.getD i default)=false):l.any p=false:=by
  rw [List.any_eq_false]
  intro x hx
  obtain ⟨i,hi,e⟩:=List.getElem_of_mem hx
  have:=h i hi
  rw [show l.getD i default=l[i] by simp [List.getD,hi],e] at this
  simp [this]
theorem indexF_c (l:List Int) (p:Int→Bool) (g:Nat) (caps:List AV) (hd:∀ x ∈ caps,Dat x) (hg:∀ x ∈ l,Pure Tryz.prog g (.int .i64 x :: caps) (.bool (p x))) (hl:Sh l):Pure Tryz.prog 83 [encV l,.func g caps] (.int .i64 (idxF l p)):=by
  refine Pure.of_c2 follows is83 (Nat.le_of_ble_eq_true rfl) ?_
  simp only [b83,cO,cG,cN,cM,cD,cF,cB,cFal,cTru]
  (have zz:=and_self; repeat' (first | apply w_seq | apply w_ops0 | apply w_block | apply a_n | apply o_nil | refine vZ ?_ | apply w_loop | fail)) <;> (try clear zz)
  refine loop0 (X:=Nat) (fun k=>[(0,encV l),(1,.func g caps),(6,encV l),(7,.int .i64 l.length),(8,.int .i64 k)]) (fun k=>k ≤ l.length∧∀ i,i < k→p (l.getD i default)=false) (fun k=>l.length - k) 0 ⟨Nat.zero_le _,by simp⟩ ag0 ?_
  rintro k ⟨h1,h2⟩
  (have zz:=and_self; repeat' (first | apply w_seq | apply w_ops0 | apply w_block | apply w_skip | apply w_exit | apply w_ret | apply a_n | apply a_x | apply a_r | apply o_nil | refine vZ ?_ | refine cZ ?_ (hp:=by exact hg _ (mem_getD (by omega))) (hs:=by (first | refine snap_plain ?_ rfl | apply snap_data); (repeat' (first | exact snapL_nil | apply snapL_i | apply snapL_dat | exact snapL_datL hd)); first | done | fail) | (refine cdZ ?_ ?_ <;> (intro _hg; (try simp only [ZB] at _hg); try first | exact absurd trivial _hg | (exfalso; omega))) | refine e_ends rfl ?_ | refine r1Z ?_ | fail)) <;> (try clear zz)
  · refine snap_int ?_
    rw [idxF_at (by omega) h2 _hg]
  · refine ⟨k + 1,⟨by omega,fun i hi=>?_⟩,by omega,ag0,rfl,rfl⟩
    rcases Nat.lt_succ_iff_lt_or_eq.1 hi with h | rfl
    · exact h2 i h
    · exact _hg
  · refine snap_int ?_
    unfold idxF; rw [idxF_none fun i hi=>h2 i (by omega)]; rfl
theorem containsF_c (l:List Int) (p:Int→Bool) (g:Nat) (caps:List AV) (hd:∀ x ∈ caps,Dat x) (hg:∀ x ∈ l,Pure Tryz.prog g (.int .i64 x :: caps) (.bool (p x))) (hl:Sh l):Pure Tryz.prog 56 [encV l,.func g caps] (.bool (l.any p)):=by
  refine Pure.of_c2 follows is56 (Nat.le_of_ble_eq_true rfl) ?_
  simp only [b56,cO,cG,cN,cM,cD,cF,cB,cFal,cTru]
  (have zz:=and_self; repeat' (first | apply w_seq | apply w_ops0 | apply w_ret | apply a_n | apply o_nil | refine vZ ?_ | refine cZ ?_ (hp:=by exact indexF_c l p g caps hd hg hl) (hs:=by (first | refine snap_plain ?_ rfl | apply snap_data); (repeat' (first | exact snapL_nil | apply snapL_i | apply snapL_dat | exact Dat.func hd)); first | done | fail) | refine e_ends rfl ?_ | refine r1Z ?_ | fail)) <;> (try clear zz)
  refine snap_bool ?_
  unfold idxF; split <;> simp_all
theorem equalV_c (l m:List Int) (hl:Sh l) (hm:Sh m):Pure Tryz.prog 23 [encV l,encV m] (.bool (decide (l=m))):=by
  refine Pure.of_c2 follows is23 (Nat.le_of_ble_eq_true rfl) ?_
  simp only [b23,cO,cG,cN,cM,cD,cF,cB,cFal,cTru]
  (have zz:=and_self; repeat' (first | apply w_seq | apply w_ops0 | apply w_block | apply w_skip | apply w_ret | apply a_n | apply a_r | apply o_nil | refine vZ ?_ | (refine cdZ ?_ ?_ <;> (intro _hg; (try simp only [ZB] at _hg); try first | exact absurd trivial _hg | (exfalso; omega))) | refine e_ends rfl ?_ | refine r1Z ?_ | apply w_loop | fail)) <;> (try clear zz)
  · refine snap_bool ?_
    symm; rw [decide_eq_false_iff_not]; rintro rfl; omega
  refine loop0 (X:=Nat) (fun k=>[(0,encV l),(1,encV m),(12,.int .i64 l.length),(13,.int .i64 k)]) (fun k=>k ≤ l.length∧∀ i,i < k→l.getD i default=m.getD i default) (fun k=>l.length - k) 0 ⟨Nat.zero_le _,by simp⟩ ag0 ?_
  rintro k ⟨h1,h2⟩
  (have zz:=and_self; repeat' (first | apply w_seq | apply w_ops0 | apply w_ops1 | apply w_block | apply w_skip | apply w_exit | apply w_ret | apply a_n | apply a_x | apply a_r | apply o_nil | refine vZ ?_ | (refine cdZ ?_ ?_ <;> (intro _hg; (try simp only [ZB] at _hg); try first | exact absurd trivial _hg | (exfalso; omega))) | refine e_ends rfl ?_ | refine r1Z ?_ | fail)) <;> (try clear zz)
  · refine snap_bool ?_
    symm; rw [decide_eq_false_iff_not]; rintro rfl; exact absurd rfl ‹_›
  · refine ⟨k + 1,⟨by omega,fun i hi=>?_⟩,by omega,ag0,rfl,rfl⟩
    rcases Nat.lt_succ_iff_lt_or_eq.1 hi with h | rfl
    · exact h2 i h
    · omega
  · refine snap_bool ?_
    symm; rw [decide_eq_true_iff]
    refine List.ext_getElem (by omega) (fun i h3 h4=>?_)
    have:=h2 i (by omega)
    simpa [List.getD,h3,h4] using this
theorem isNaN_c (n:Int):Pure Tryz.prog 96 [.int .i64 n] (.bool false):=by
  refine Pure.of_c2 follows is96 (Nat.le_of_ble_eq_true rfl) ?_
  simp only [b96,cO,cG,cN,cM,cD,cF,cB,cFal,cTru]
  (have zz:=and_self; repeat' (first | apply w_seq | apply w_ops0 | apply w_ret | apply a_n | apply o_nil | refine vZ ?_ | refine e_ends rfl ?_ | refine r1Z ?_ | fail)) <;> (try clear zz)
  exact snap_bool (by simp)
theorem cmp_c (a b:Int):Pure Tryz.prog 76 [.int .i64 a,.int .i64 b] (.int .i64 (if a < b then -1 else if a > b then 1 else 0)):=by
  refine Pure.of_c2 follows is76 (Nat.le_of_ble_eq_true rfl) ?_
  simp only [b76,cO,cG,cN,cM,cD,cF,cB,cFal,cTru]
  (have zz:=@Bool.false_eq_true; repeat' (first | apply w_seq | apply w_ops0 | apply w_skip | apply w_ret | apply a_n | apply a_r | apply o_nil | refine vZ ?_ | refine cZ ?_ (hp:=by exact isNaN_c _) | refine cFZ ?_ | (refine cdZ ?_ ?_ <;> (intro _hg; (try simp only [ZB] at _hg); try first | exact absurd trivial _hg | (exfalso; omega))) | refine e_ends rfl ?_ | refine r1Z ?_ | fail)) <;> (try clear zz)
  all_goals (refine snap_int ?_)
  · rw [if_pos ‹_›]
  · rw [if_neg ‹_›,if_pos ‹_›]
  · rw [if_neg (by omega),if_neg (by omega)]
theorem compare_c (a b:List Int) (ha:Sh a) (hb:Sh b):Pure Tryz.prog 46 [encV a,encV b] (.int .i64 (order a b)):=by
  refine Pure.of_c2 follows is46 (Nat.le_of_ble_eq_true rfl) ?_
  simp only [b46,cO,cG,cN,cM,cD,cF,cB,cFal,cTru]
  (have zz:=and_self; repeat' (first | apply w_seq | apply w_ops0 | apply w_block | apply a_n | apply o_nil | refine vZ ?_ | apply w_loop | fail)) <;> (try clear zz)
  refine loop0 (X:=Nat) (fun k=>[(0,encV a),(1,encV b),(9,encV a),(10,.int .i64 a.length),(11,.int .i64 k)]) (fun k=>k ≤ a.length∧k ≤ b.length∧order a b=order (a.drop k) (b.drop k)) (fun k=>a.length - k) 0 ⟨Nat.zero_le _,Nat.zero_le _,rfl⟩ ag0 ?_
  rintro k ⟨h1,h2,h3⟩
  (have zz:=and_self; repeat' (first | apply w_seq | apply w_ops0 | apply w_block | apply w_skip | apply w_exit | apply w_ret | apply a_n | apply a_x | apply a_r | apply o_nil | refine vZ ?_ | refine cZ ?_ (hp:=by exact cmp_c _ _) | (refine cdZ ?_ ?_ <;> (intro _hg; (try simp only [ZB] at _hg); try first | exact absurd trivial _hg | (exfalso; omega))) | refine e_ends rfl ?_ | refine r1Z ?_ | fail)) <;> (try clear zz)
  · refine snap_int ?_
    rw [h3,List.drop_eq_nil_of_le (show b.length ≤ k by omega),drop_cons (l:=a) (by omega)]; rfl
  · refine snap_int ?_
    rw [h3,drop_cons (l:=a) (by omega),drop_cons (l:=b) (by omega),order]
    split
    · rfl
    · rename_i h
      split
      · rfl
      · rename_i h'
        exact absurd (show (if a.getD k default < b.getD k default then (-1:Int) else if a.getD k default > b.getD k default then 1 else 0)=0 by rw [if_neg h,if_neg h']) ‹_›
  · refine ⟨k + 1,⟨by omega,by omega,?_⟩,by omega,ag0,rfl,rfl⟩
    rw [h3,drop_cons (l:=a) (by omega),drop_cons (l:=b) (by omega),order]
    by_cases h:a.getD k default < b.getD k default
    · rw [if_pos h] at _hg; exact absurd (by decide) _hg
    · by_cases h':a.getD k default > b.getD k default
      · rw [if_neg h,if_pos h'] at _hg; exact absurd (by decide) _hg
      · rw [if_neg h,if_neg h']
  · refine snap_int ?_
    rw [h3,List.drop_eq_nil_of_le (show a.length ≤ k by omega),drop_cons (l:=b) (by omega)]; rfl
  · refine snap_int ?_
    rw [h3,List.drop_eq_nil_of_le (show a.length ≤ k by omega),List.drop_eq_nil_of_le (show b.length ≤ k by omega)]; rfl
theorem indexFV_c (l:List (List Int)) (p:List Int→Bool) (g:Nat) (caps:List AV) (hd:∀ x ∈ caps,Dat x) (hg:∀ x ∈ l,Pure Tryz.prog g (encV x :: caps) (.bool (p x))) (hl:Sh l):Pure Tryz.prog 75 [encVV l,.func g caps] (.int .i64 (if l.any p then (l.findIdx p:Nat) else -1)):=by
  refine Pure.of_c2 follows is75 (Nat.le_of_ble_eq_true rfl) ?_
  simp only [b75,cO,cG,cN,cM,cD,cF,cB,cFal,cTru]
  (have zz:=and_self; repeat' (first | apply w_seq | apply w_ops0 | apply w_block | apply a_n | apply o_nil | refine vZ ?_ | apply w_loop | fail)) <;> (try clear zz)
  refine loop0 (X:=Nat) (fun k=>[(0,encVV l),(1,.func g caps),(7,.int .i64 l.length),(8,.int .i64 k)]) (fun k=>k ≤ l.length∧∀ i,i < k→p (l.getD i default)=false) (fun k=>l.length - k) 0 ⟨Nat.zero_le _,by simp⟩ ag0 ?_
  rintro k ⟨h1,h2⟩
  (have zz:=and_self; repeat' (first | apply w_seq | apply w_ops0 | apply w_block | apply w_skip | apply w_exit | apply w_ret | apply a_n | apply a_x | apply a_r | apply o_nil | refine vZ ?_ | refine cZ ?_ (hp:=by exact hg _ (mem_getD (by omega))) (hs:=by (first | refine snap_plain ?_ rfl | apply snap_data); (repeat' (first | exact snapL_nil | apply snapL_i | apply snapL_dat | exact snapL_datL hd)); first | done | fail) | (refine cdZ ?_ ?_ <;> (intro _hg; (try simp only [ZB] at _hg); try first | exact absurd trivial _hg | (exfalso; omega))) | refine e_ends rfl ?_ | refine r1Z ?_ | fail)) <;> (try clear zz)
  · refine snap_int ?_
    have hk:k < l.length:=by omega
    have e:l.getD k default=l[k]:=by simp [List.getD,hk]
    rw [e] at _hg
    have hm:l.any p=true:=List.any_eq_true.2 ⟨l[k],List.getElem_mem hk,_hg⟩
    rw [if_pos hm,(List.findIdx_eq hk).2 ⟨_hg,fun j hj=>by have:=h2 j hj; rwa [show l.getD j default=l[j] by simp [List.getD,show j < l.length by omega]] at this⟩]
  · refine ⟨k + 1,⟨by omega,fun i hi=>?_⟩,by omega,ag0,rfl,rfl⟩
    rcases Nat.lt_succ_iff_lt_or_eq.1 hi with h | rfl
    · exact h2 i h
    · exact _hg
  · refine snap_int ?_
    rw [if_neg]
    rw [Bool.not_eq_true,List.any_eq_false]
    intro x hx
    obtain ⟨i,hi,e⟩:=List.getElem_of_mem hx
    have:=h2 i (by omega)
    rw [show l.getD i default=x by simp [List.getD,hi,e]] at this
    simp [this]
theorem containsFV_c (l:List (List Int)) (p:List Int→Bool) (g:Nat) (caps:List AV) (hd:∀ x ∈ caps,Dat x) (hg:∀ x ∈ l,Pure Tryz.prog g (encV x :: caps) (.bool (p x))) (hl:Sh l):Pure Tryz.prog 40 [encVV l,.func g caps] (.bool (l.any p)):=by
  refine Pure.of_c2 follows is40 (Nat.le_of_ble_eq_true rfl) ?_
  simp only [b40,cO,cG,cN,cM,cD,cF,cB,cFal,cTru]
  (have zz:=and_self; repeat' (first | apply w_seq | apply w_ops0 | apply w_ret | apply a_n | apply o_nil | refine vZ ?_ | refine cZ ?_ (hp:=by exact indexFV_c l p g caps hd hg hl) (hs:=by (first | refine snap_plain ?_ rfl | apply snap_data); (repeat' (first | exact snapL_nil | apply snapL_i | apply snapL_dat | exact Dat.func hd)); first | done | fail) | refine e_ends rfl ?_ | refine r1Z ?_ | fail)) <;> (try clear zz)
  refine snap_bool ?_
  split <;> simp_all
end Go.Proofs.YtbiikomnhkbblaaGreat
namespace Go.Proofs.YtbiikomnhkbblaaGreat
open Go Go.Abs
open Nat (reduceEqDiff reduceAdd reduceLeDiff)
attribute [local irreducible] awp2 aops2 ains aloop athen bbind obind gbind acond res1 Go.Abs.Fn PCall Go.Abs.Pure SnapArgs SnapL Yl
end Go.Proofs.YtbiikomnhkbblaaGreat
namespace Go.Proofs.YtbiikomnhkbblaaGreat
open Go Go.Abs
open Nat (reduceEqDiff reduceAdd reduceLeDiff)
attribute [local irreducible] awp2 aops2 ains aloop athen bbind obind gbind acond res1 Go.Abs.Fn PCall Go.Abs.Pure SnapArgs SnapL Yl
theorem has1_c (v x:List Int) (hv:Sh v) (hx:Sh x):Pure Tryz.prog 97 [encV x,.iptr [encV v] 0] (.bool (decide (x=v))):=by
  refine Pure.of_c2 follows is97 (Nat.le_of_ble_eq_true rfl) ?_
  simp only [b97,cO,cG,cN,cM,cD,cF,cB,cFal,cTru]
  (have zz:=and_self; repeat' (first | apply w_seq | apply w_ops0 | apply w_ret | apply a_n | apply o_nil | refine vZ ?_ | refine cZ ?_ (hp:=by exact equalV_c _ _ hx hv) | refine e_ends rfl ?_ | refine r1Z ?_ | fail)) <;> (try clear zz)
  exact .bool _
theorem has_c (l:List (List Int)) (v:List Int) (hl:Sh l) (hs:∀ x ∈ l,Sh x) (hv:Sh v):Pure Tryz.prog 79 [encVV l,encV v] (.bool (l.any fun x=>decide (x=v))):=by
  refine Pure.of_c2 follows is79 (Nat.le_of_ble_eq_true rfl) ?_
  simp only [b79,cO,cG,cN,cM,cD,cF,cB,cFal,cTru]
  (have zz:=and_self; repeat' (first | apply w_seq | apply w_ops0 | apply a_n | apply o_nil | refine vZ ?_ | refine bxZ ?_ | fail)) <;> (try clear zz)
  refine o_callP ev0 ev0 (containsFV_c l (fun x=>decide (x=v)) 97 [.iptr [encV v] 0] (DatL.cons (Dat.iptr (DatL.cons (encV_dat _) DatL.nil)) DatL.nil) (fun x hx=>has1_c v x hv (hs x hx)) hl) (snap_plain (by (repeat' (first | exact snapL_nil | exact Dat.snap Dat.int | exact Dat.snap Dat.bool | exact Dat.snap Dat.str | exact Dat.snap Dat.esl | exact Dat.snap Dat.nilf | exact Dat.snap (encV_dat _) | exact Dat.snap (encVV_dat _) | apply snapL_cons | apply snap_func | apply snap_iptr | (apply snap_ptr; (focus ((try simp only [simB0,ZA,reduceEqDiff,↓reduceIte,reduceAdd,reduceLeDiff]); with_reducible rfl)); (focus rfl))))) rfl) ?_
  (have zz:=and_self; repeat' (first | apply w_ret | apply a_n | apply o_nil | refine vZ ?_ | refine e_ends rfl ?_ | refine r1Z ?_ | fail)) <;> (try clear zz)
  exact .bool _
theorem vector1_c (x most:Int):Pure Tryz.prog 77 [.int .i64 x,.iptr [.int .i64 most] 0] (.bool (decide (x < 0 ∨ most ≤ x))):=by
  refine Pure.of_c2 follows is77 (Nat.le_of_ble_eq_true rfl) ?_
  simp only [b77,cO,cG,cN,cM,cD,cF,cB,cFal,cTru]
  (have zz:=and_self; repeat' (first | apply w_seq | apply w_ops0 | apply w_ret | apply a_n | apply o_nil | refine vZ ?_ | refine gTZ ?_ | refine gFZ ?_ | (refine gBZ ?_ ?_ <;> (intro _hg; (try simp only [ZB] at _hg); try first | exact absurd trivial _hg | (exfalso; omega))) | refine e_ends rfl ?_ | refine r1Z ?_ | fail)) <;> (try clear zz)
  all_goals (refine snap_bool ?_)
  · exact decide_eq_decide.2 (by omega)
  · rw [decide_eq_true (by omega)]
theorem unordered_c (l:List (List Int)) (i:Nat) (hi:i < l.length) (hl:Sh l) (hs:∀ x ∈ l,Sh x):Pure Tryz.prog 78 [encVV l,.int .i64 i] (.bool (decide (0 < i) && decide (0 ≤ order (l.getD (i - 1) default) (l.getD i default)))):=by
  refine Pure.of_c2 follows is78 (Nat.le_of_ble_eq_true rfl) ?_
  simp only [b78,cO,cG,cN,cM,cD,cF,cB,cFal,cTru]
  by_cases h0:i=0
  · subst h0
    (have zz:=(show ((0:Nat):Int)=0 from rfl); repeat' (first | apply w_seq | apply w_ops0 | apply w_mixS1 | apply w_ret | apply a_n | apply o_nil | refine vZ ?_ | refine gFZ ?_ | (refine gBZ ?_ ?_ <;> (intro _hg; (try simp only [ZB] at _hg); try first | exact absurd trivial _hg | (exfalso; omega))) | refine e_ends rfl ?_ | refine r1Z ?_ | fail)) <;> (try clear zz)
    exact snap_bool (by simp)
  · have e:((i:Int) - 1).toNat=i - 1:=by omega
    have hc:=compare_c (l.getD (i - 1) default) (l.getD i default) (hs _ (mem_getD (by omega))) (hs _ (mem_getD (by omega)))
    (have zz:=@e; repeat' (first | apply w_seq | apply w_ops0 | apply w_mixS1 | apply w_ret | apply a_n | apply o_nil | refine vZ ?_ | refine cZ ?_ (hp:=hc) | refine gTZ ?_ | (refine gBZ ?_ ?_ <;> (intro _hg; (try simp only [ZB] at _hg); try first | exact absurd trivial _hg | (exfalso; omega))) | refine e_ends rfl ?_ | refine r1Z ?_ | fail)) <;> (try clear zz)
    refine snap_bool ?_
    rw [decide_eq_true (show 0 < i by omega),Bool.true_and]
theorem allowed_c (c:CaseV) (faulty:Int):Pure Tryz.prog 53 [.agg [encV c.inp,encVV c.out,encVV c.calm],.int .i64 faulty] (encVV (if faulty=0∧0 < c.calm.length then c.calm else c.out)):=by
  refine Pure.of_c2 follows is53 (Nat.le_of_ble_eq_true rfl) ?_
  simp only [b53,cO,cG,cN,cM,cD,cF,cB,cFal,cTru]
  (have zz:=and_self; repeat' (first | apply w_seq | apply w_ops0 | apply w_skip | apply w_ret | apply a_n | apply a_r | apply o_nil | refine vZ ?_ | refine bxZ ?_ | refine gTZ ?_ | refine gFZ ?_ | refine cFZ ?_ | ((first | refine gBZ ?_ ?_ | refine cdZ ?_ ?_) <;> (intro _hg; (try simp only [ZB] at _hg); try first | exact absurd trivial _hg | (exfalso; omega))) | refine e_ends rfl ?_ | refine r1Z ?_ | fail)) <;> (try clear zz)
  · rw [if_pos (by omega)]; exact encVV_dat _ _
  · rw [if_neg (by omega)]; exact encVV_dat _ _
  · rw [if_neg (by omega)]; exact encVV_dat _ _
theorem shl1 (tb tf:Bool) (n:Int) (h0:0 ≤ n) (h1:n ≤ 5):abin2 .shl tb tf (.int .i64 1) (.int .i64 n)=some (.int .i64 (2 ^ n.toNat:Nat)):=by
  have:n=0 ∨ n=1 ∨ n=2 ∨ n=3 ∨ n=4 ∨ n=5:=by omega
  rcases this with rfl | rfl | rfl | rfl | rfl | rfl <;> rfl
def allowV (c:CaseV) (faulty:Int):List (List Int):=if faulty=0∧0 < c.calm.length then c.calm else c.out
theorem permitted1_c (x:Int) (t:TaskV):Pure Tryz.prog 57 [.int .i64 x,.iptr [.int .i64 t.n,.int .i64 t.ins,.int .i64 t.outs,encCs t.cases] 0] (.bool (decide (x < -1 ∨ t.outs ≤ x))):=by
  refine Pure.of_c2 follows is57 (Nat.le_of_ble_eq_true rfl) ?_
  simp only [b57,cO,cG,cN,cM,cD,cF,cB,cFal,cTru]
  (have zz:=aI @encCs_one @encCs_cells; repeat' (first | apply w_seq | apply w_ops0 | apply w_ret | apply a_n | apply o_nil | refine vZ ?_ | refine gTZ ?_ | refine gFZ ?_ | (refine gBZ ?_ ?_ <;> (intro _hg; (try simp only [ZB] at _hg); try first | exact absurd trivial _hg | (exfalso; omega))) | refine e_ends rfl ?_ | refine r1Z ?_ | fail)) <;> (try clear zz)
  all_goals (refine snap_bool ?_)
  · exact decide_eq_decide.2 (by omega)
  · rw [decide_eq_true (by omega)]
def and1 (a:Int):Int:=IntKind.wrap .i64 (BitVec.ofInt 64 a &&& BitVec.ofInt 64 1).toNat
def shrN (f:Int) (p:Nat):Int:=f.fdiv (2 ^ (min p 64))
theorem shr_eq (tb tf:Bool) (f:Int) (p:Nat):abin2 .shr tb tf (.int .i64 f) (.int .i64 p)=some (.int .i64 (shrN f p)):=by
  have h:¬ ((p:Int) < 0):=by omega
  simp only [abin2,ashift,h,if_false,or_true,if_true]
  rfl
theorem and_eq1 (tb tf:Bool) (a:Int):abin2 .and tb tf (.int .i64 a) (.int .i64 1)=some (.int .i64 (and1 a)):=rfl
def agreesB (v outs:List Int) (f:Int):Bool:=(List.range v.length).all fun p=>!(decide (and1 (shrN f p)=0) && decide (outs.getD p default ≠ v.getD p default))
theorem agrees_c (v outs:List Int) (f:Int) (hv:Sh v) (ho:Sh outs) (hl:v.length ≤ outs.length):Pure Tryz.prog 59 [encV v,encV outs,.int .i64 f] (.bool (agreesB v outs f)):=by
  refine Pure.of_c2 follows is59 (Nat.le_of_ble_eq_true rfl) ?_
  simp only [b59,cO,cG,cN,cM,cD,cF,cB,cFal,cTru]
  (have zz:=and_self; repeat' (first | apply w_seq | apply w_ops0 | apply w_block | apply a_n | apply o_nil | refine vZ ?_ | apply w_loop | fail)) <;> (try clear zz)
  refine loop0 (X:=Nat) (fun k=>[(1,encV outs),(2,.int .i64 f),(9,encV v),(10,.int .i64 v.length),(11,.int .i64 k)]) (fun k=>k ≤ v.length∧∀ i,i < k→(decide (and1 (shrN f i)=0) && decide (outs.getD i default ≠ v.getD i default))=false) (fun k=>v.length - k) 0 ⟨Nat.zero_le _,by simp⟩ ag0 ?_
  rintro k ⟨h1,h2⟩
  (have zz:=aI @shr_eq @and_eq1; repeat' (first | apply w_seq | apply w_ops0 | apply w_block | apply w_skip | apply w_exit | apply w_ret | apply a_n | apply a_x | apply a_r | apply o_nil | refine vZ ?_ | refine gTZ ?_ | refine gFZ ?_ | refine cFZ ?_ | ((first | refine gBZ ?_ ?_ | refine cdZ ?_ ?_) <;> (intro _hg; (try simp only [ZB] at _hg); try first | exact absurd trivial _hg | (exfalso; omega))) | refine e_ends rfl ?_ | refine r1Z ?_ | fail)) <;> (try clear zz)
  · refine snap_bool ?_
    symm
    unfold agreesB
    rw [Bool.eq_false_iff,ne_eq,List.all_eq_true]
    intro h
    have:=h k (List.mem_range.2 (by omega))
    simp_all
  · refine ⟨k + 1,⟨by omega,fun i hi=>?_⟩,by omega,ag0,rfl,rfl⟩
    rcases Nat.lt_succ_iff_lt_or_eq.1 hi with h | rfl
    · exact h2 i h
    · simp_all
  · refine ⟨k + 1,⟨by omega,fun i hi=>?_⟩,by omega,ag0,rfl,rfl⟩
    rcases Nat.lt_succ_iff_lt_or_eq.1 hi with h | rfl
    · exact h2 i h
    · simp_all
  · refine snap_bool ?_
    symm
    unfold agreesB
    rw [List.all_eq_true]
    intro i hi
    rw [h2 i (by have:=List.mem_range.1 hi; omega)]
    rfl
theorem permitted2_c (v outs:List Int) (f:Int) (hv:Sh v) (ho:Sh outs) (hl:v.length ≤ outs.length):Pure Tryz.prog 58 [encV v,.iptr [encV outs] 0,.iptr [.int .i64 f] 0] (.bool (agreesB v outs f)):=by
  refine Pure.of_c2 follows is58 (Nat.le_of_ble_eq_true rfl) ?_
  simp only [b58,cO,cG,cN,cM,cD,cF,cB,cFal,cTru]
  (have zz:=and_self; repeat' (first | apply w_seq | apply w_ops0 | apply w_ret | apply a_n | apply o_nil | refine vZ ?_ | refine cZ ?_ (hp:=by exact agrees_c v outs f hv ho hl) | refine e_ends rfl ?_ | refine r1Z ?_ | fail)) <;> (try clear zz)
  exact .bool _
end Go.Proofs.YtbiikomnhkbblaaGreat
namespace Go.Proofs.YtbiikomnhkbblaaGreat
open Go Go.Abs
open Nat (reduceEqDiff reduceAdd reduceLeDiff)
theorem inp_getD {t:TaskV} {k:Nat} (h:k < t.cases.length):(t.cases.map CaseV.inp).getD k default=(t.cases.getD k default).inp:=by simp [List.getD,h]
theorem any_mem (l:List (List Int)) (v:List Int):(l.any fun x=>decide (x=v))=decide (v ∈ l):=by
  by_cases h:v ∈ l
  · rw [decide_eq_true h,List.any_eq_true]
    exact ⟨v,h,by simp⟩
  · rw [decide_eq_false h,List.any_eq_false]
    intro x hx e
    rw [decide_eq_true_iff] at e
    subst e; exact h hx
attribute [local irreducible] awp2 aops2 ains aloop athen bbind obind gbind acond res1 Go.Abs.Fn PCall Go.Abs.Pure SnapArgs SnapL Yl
theorem vector_c (v:List Int) (n most:Int) (hv:Sh v):Pure Tryz.prog 48 [encV v,.int .i64 n,.int .i64 most] (.int .i64 (vectorE v n most)):=by
  refine Pure.of_c2 follows is48 (Nat.le_of_ble_eq_true rfl) ?_
  simp only [b48,cO,cG,cN,cM,cD,cF,cB,cFal,cTru]
  have hv':v.length ≤ 17592186044416:=hv
  by_cases hn:(v.length:Int)=n
  rotate_left
  · have e:vectorE v n most=15:=by unfold vectorE; rw [if_pos hn]
    rw [e]
    (have zz:=and_self; repeat' (first | apply w_seq | apply w_ops0 | apply w_ret | apply a_n | apply a_r | apply o_nil | refine vZ ?_ | refine bxZ ?_ | (refine cdZ ?_ ?_ <;> (intro _hg; (try simp only [ZB] at _hg); try first | exact absurd trivial _hg | (exfalso; omega))) | refine e_ends rfl ?_ | refine r1Z ?_ | fail)) <;> (try clear zz)
    all_goals exact .int _ _
  have e:vectorE v n most=if v.any (fun x=>decide (x < 0 ∨ most ≤ x)) then 2 else 0:=by unfold vectorE; rw [if_neg (fun h=>h hn)]
  rw [e]
  have hc:=containsF_c v (fun x=>decide (x < 0 ∨ most ≤ x)) 77 [.iptr [.int .i64 most] 0] (DatL.cons (Dat.iptr (DatL.cons .int DatL.nil)) DatL.nil) (fun x _=>vector1_c x most) hv
  (have zz:=and_self; repeat' (first | apply w_seq | apply w_ops0 | apply w_skip | apply a_n | apply o_nil | refine vZ ?_ | refine bxZ ?_ | (refine cdZ ?_ ?_ <;> (intro _hg; (try simp only [ZB] at _hg); try first | exact absurd trivial _hg | (exfalso; omega))) | fail)) <;> (try clear zz)
  refine o_callP ev0 ev0 hc (snap_plain (by (repeat' (first | exact snapL_nil | exact Dat.snap Dat.int | exact Dat.snap Dat.bool | exact Dat.snap Dat.str | exact Dat.snap Dat.esl | exact Dat.snap Dat.nilf | exact Dat.snap (encV_dat _) | exact Dat.snap (encVV_dat _) | apply snapL_cons | apply snap_func | apply snap_iptr | (apply snap_ptr; (focus ((try simp only [simB0,ZA,reduceEqDiff,↓reduceIte,reduceAdd,reduceLeDiff]); with_reducible rfl)); (focus rfl))))) rfl) ?_
  cases hb:v.any (fun x=>decide (x < 0 ∨ most ≤ x))
  · (have zz:=@Bool.false_eq_true; repeat' (first | apply w_seq | apply w_ops0 | apply w_skip | apply w_ret | apply a_n | apply o_nil | refine vZ ?_ | refine cFZ ?_ | refine e_ends rfl ?_ | refine r1Z ?_ | fail)) <;> (try clear zz)
    all_goals exact .int _ _
  · (have zz:=@Bool.false_eq_true; repeat' (first | apply w_seq | apply w_ops0 | apply w_ret | apply a_n | apply a_r | apply o_nil | refine vZ ?_ | refine cTZ ?_ | refine e_ends rfl ?_ | refine r1Z ?_ | fail)) <;> (try clear zz)
    all_goals exact .int _ _
theorem vectors_c (n ins outs:Int) (cs:AV) (hcs:Dat cs∧cs.cells=[cs]∧cs.one=true) (c:CaseV) (hs:ShC c):Pure Tryz.prog 49 [.agg [.int .i64 n,.int .i64 ins,.int .i64 outs,cs],.agg [encV c.inp,encVV c.out,encVV c.calm]] (.int .i64 (vectorsE n outs c)):=by
  refine Pure.of_c2 follows is49 (Nat.le_of_ble_eq_true rfl) ?_
  simp only [b49,cO,cG,cN,cM,cD,cF,cB,cFal,cTru]
  obtain ⟨hc1,hc2,hc3⟩:=hcs
  obtain ⟨s1,s2,s3,s4,s5⟩:=hs
  have s2':c.out.length ≤ 17592186044416:=s2
  have s4':c.calm.length ≤ 17592186044416:=s4
  by_cases h0:c.out.length < 1 ∨ 1024 < c.out.length
  · have e:vectorsE n outs c=5:=by unfold vectorsE; rw [if_pos h0]
    rw [e]
    (have zz:=aI @hc2 @hc3; repeat' (first | apply w_seq | apply w_ops0 | apply w_ret | apply a_n | apply a_r | apply o_nil | refine vZ ?_ | refine bxZ ?_ | refine gTZ ?_ | refine gFZ ?_ | refine cTZ ?_ | ((first | refine gBZ ?_ ?_ | refine cdZ ?_ ?_) <;> (intro _hg; (try simp only [ZB] at _hg); try first | exact absurd trivial _hg | (exfalso; omega))) | refine e_ends rfl ?_ | refine r1Z ?_ | fail)) <;> (try clear zz)
    all_goals exact .int _ _
  have e:vectorsE n outs c=if firstI (outE n outs c.out) c.out.length ≠ 0 then firstI (outE n outs c.out) c.out.length else firstI (calmE c.out c.calm) c.calm.length:=by unfold vectorsE; rw [if_neg h0]
  rw [e]
  (have zz:=aI @hc2 @hc3; repeat' (first | apply w_seq | apply w_ops0 | apply w_block | apply w_skip | apply a_n | apply o_nil | refine vZ ?_ | refine bxZ ?_ | refine gTZ ?_ | ((first | refine gBZ ?_ ?_ | refine cdZ ?_ ?_) <;> (intro _hg; (try simp only [ZB] at _hg); try first | exact absurd trivial _hg | (exfalso; omega))) | apply w_loop | fail)) <;> (try clear zz)
  refine loop0 (X:=Nat) (fun k=>[(2,.ptr 0 4 0),(3,.ptr 1 3 0),(21,encVV c.out),(22,.int .i64 c.out.length),(23,.int .i64 k)]) (fun k=>k ≤ c.out.length∧∀ i,i < k→outE n outs c.out i=0) (fun k=>c.out.length - k) 0 ⟨Nat.zero_le _,fun i h=>absurd h (by omega)⟩ (by simp (disch:=omega) only [agr,ZG,reduceEqDiff,↓reduceIte,List.length_cons,List.length_nil,reduceAdd,Nat.zero_add]) ?_
  rintro k ⟨hk,hz⟩
  by_cases hj:k < c.out.length
  · have hm:=mem_getD hj
    have hv:=vector_c (c.out.getD k default) n outs (s3 _ hm)
    have hu:=unordered_c c.out k hj s2 s3
    have ho:outE n outs c.out k=if vectorE (c.out.getD k default) n outs ≠ 0 then vectorE (c.out.getD k default) n outs else if unordB c.out k then 14 else 0:=rfl
    change Pure _ _ _ (.bool (unordB c.out k)) at hu
    generalize vectorE (c.out.getD k default) n outs=V at *
    by_cases hV:V=0
    · subst hV
      cases hub:unordB c.out k
      · rw [hub] at hu ho
        (have zz:=aI @hc2 (aI @hc3 @Bool.false_eq_true); repeat' (first | apply w_seq | apply w_ops0 | apply w_block | apply w_skip | apply a_n | apply o_nil | refine vZ ?_ | refine cZ ?_ (hp:=by first | exact hv | exact hu) | refine cFZ ?_ | (refine cdZ ?_ ?_ <;> (intro _hg; (try simp only [ZB] at _hg); try first | exact absurd trivial _hg | (exfalso; omega))) | fail)) <;> (try clear zz)
        refine ⟨k + 1,⟨by omega,fun i hi=>?_⟩,by omega,ag0,rfl,rfl⟩
        rcases Nat.lt_succ_iff_lt_or_eq.1 hi with h | rfl
        · exact hz i h
        · exact ho
      · rw [hub] at hu ho
        (have zz:=aI @hc2 (aI @hc3 @Bool.false_eq_true); repeat' (first | apply w_seq | apply w_ops0 | apply w_block | apply w_skip | apply w_ret | apply a_n | apply a_r | apply o_nil | refine vZ ?_ | refine cZ ?_ (hp:=by first | exact hv | exact hu) | refine cTZ ?_ | (refine cdZ ?_ ?_ <;> (intro _hg; (try simp only [ZB] at _hg); try first | exact absurd trivial _hg | (exfalso; omega))) | refine e_ends rfl ?_ | refine r1Z ?_ | fail)) <;> (try clear zz)
        refine snap_int ?_
        rw [firstI_hit hj hz (by rw [ho]; decide),if_pos (by rw [ho]; decide),ho]; rfl
    · have ho':outE n outs c.out k=V:=by rw [ho,if_pos hV]
      (have zz:=aI @hc2 (aI @hc3 @Bool.false_eq_true); repeat' (first | apply w_seq | apply w_ops0 | apply w_block | apply w_skip | apply w_ret | apply a_n | apply a_r | apply o_nil | refine vZ ?_ | refine cZ ?_ (hp:=by first | exact hv | exact hu) | (refine cdZ ?_ ?_ <;> (intro _hg; (try simp only [ZB] at _hg); try first | exact absurd trivial _hg | (exfalso; omega))) | refine e_ends rfl ?_ | refine r1Z ?_ | fail)) <;> (try clear zz)
      refine snap_int ?_
      rw [firstI_hit hj hz (by rw [ho']; exact hV),if_pos (by rw [ho']; exact hV),ho']
  · have hz0:=firstI_zero (f:=outE n outs c.out) (n:=c.out.length) (fun i hi=>hz i (by omega))
    rw [hz0,if_neg (fun h=>h rfl)]
    (have zz:=aI @hc2 @hc3; repeat' (first | apply w_seq | apply w_ops0 | apply w_block | apply w_exit | apply a_n | apply a_x | apply o_nil | refine vZ ?_ | (refine cdZ ?_ ?_ <;> (intro _hg; (try simp only [ZB] at _hg); try first | exact absurd trivial _hg | (exfalso; omega))) | apply w_loop | fail)) <;> (try clear zz)
    refine loop0 (X:=Nat) (fun k=>[(2,.ptr 0 4 0),(3,.ptr 1 3 0),(43,encVV c.calm),(44,.int .i64 c.calm.length),(45,.int .i64 k)]) (fun k=>k ≤ c.calm.length∧∀ i,i < k→calmE c.out c.calm i=0) (fun k=>c.calm.length - k) 0 ⟨Nat.zero_le _,fun i h=>absurd h (by omega)⟩ ag0 ?_
    rintro k ⟨hk,hz⟩
    by_cases hj:k < c.calm.length
    · have hm:=mem_getD hj
      have hv:=has_c c.out (c.calm.getD k default) s2 s3 (s5 _ hm)
      rw [any_mem] at hv
      have hu:=unordered_c c.calm k hj s4 s5
      have ho:calmE c.out c.calm k=if c.calm.getD k default ∈ c.out then (if unordB c.calm k then 14 else 0) else 6:=rfl
      change Pure _ _ _ (.bool (unordB c.calm k)) at hu
      by_cases hh:c.calm.getD k default ∈ c.out
      · rw [decide_eq_true hh] at hv
        rw [if_pos hh] at ho
        cases hub:unordB c.calm k
        · rw [hub] at hu ho
          (have zz:=aI @hc2 (aI @hc3 @Bool.false_eq_true); repeat' (first | apply w_seq | apply w_ops0 | apply w_block | apply w_skip | apply a_n | apply o_nil | refine vZ ?_ | refine cZ ?_ (hp:=by first | exact hv | exact hu) | refine cFZ ?_ | (refine cdZ ?_ ?_ <;> (intro _hg; (try simp only [ZB] at _hg); try first | exact absurd trivial _hg | (exfalso; omega))) | fail)) <;> (try clear zz)
          refine ⟨k + 1,⟨by omega,fun i hi=>?_⟩,by omega,ag0,rfl,rfl⟩
          rcases Nat.lt_succ_iff_lt_or_eq.1 hi with h | rfl
          · exact hz i h
          · exact ho
        · rw [hub] at hu ho
          (have zz:=aI @hc2 (aI @hc3 @Bool.false_eq_true); repeat' (first | apply w_seq | apply w_ops0 | apply w_block | apply w_skip | apply w_ret | apply a_n | apply a_r | apply o_nil | refine vZ ?_ | refine cZ ?_ (hp:=by first | exact hv | exact hu) | refine cTZ ?_ | refine cFZ ?_ | (refine cdZ ?_ ?_ <;> (intro _hg; (try simp only [ZB] at _hg); try first | exact absurd trivial _hg | (exfalso; omega))) | refine e_ends rfl ?_ | refine r1Z ?_ | fail)) <;> (try clear zz)
          refine snap_int ?_
          rw [firstI_hit hj hz (by rw [ho]; decide),ho]; rfl
      · rw [decide_eq_false hh] at hv
        rw [if_neg hh] at ho
        (have zz:=aI @hc2 (aI @hc3 @Bool.false_eq_true); repeat' (first | apply w_seq | apply w_ops0 | apply w_block | apply w_skip | apply w_ret | apply a_n | apply a_r | apply o_nil | refine vZ ?_ | refine cZ ?_ (hp:=by first | exact hv | exact hu) | refine cTZ ?_ | (refine cdZ ?_ ?_ <;> (intro _hg; (try simp only [ZB] at _hg); try first | exact absurd trivial _hg | (exfalso; omega))) | refine e_ends rfl ?_ | refine r1Z ?_ | fail)) <;> (try clear zz)
        refine snap_int ?_
        rw [firstI_hit hj hz (by rw [ho]; decide),ho]
    · (have zz:=aI @hc2 @hc3; repeat' (first | apply w_seq | apply w_ops0 | apply w_exit | apply w_ret | apply a_n | apply a_x | apply o_nil | refine vZ ?_ | (refine cdZ ?_ ?_ <;> (intro _hg; (try simp only [ZB] at _hg); try first | exact absurd trivial _hg | (exfalso; omega))) | refine e_ends rfl ?_ | refine r1Z ?_ | fail)) <;> (try clear zz)
      refine snap_int ?_
      rw [firstI_zero fun i hi=>hz i (by omega)]
end Go.Proofs.YtbiikomnhkbblaaGreat
namespace Go.Proofs.YtbiikomnhkbblaaGreat
open Go Go.Abs
open Nat (reduceEqDiff reduceAdd reduceLeDiff)
attribute [local irreducible] awp2 aops2 ains aloop athen bbind obind gbind acond res1 Go.Abs.Fn PCall Go.Abs.Pure SnapArgs SnapL Yl
set_option maxHeartbeats 2000000 in
theorem check_c (t:TaskV) (hs:∀ c ∈ t.cases,ShC c) (hsc:Sh t.cases):Pure Tryz.prog 14 [encT t] (.int .i64 (checkE t)):=by
  refine Pure.of_c2 follows is14 (Nat.le_of_ble_eq_true rfl) ?_
  simp only [b14,cO,cG,cN,cM,cD,cF,cB,cFal,cTru]
  have hsc':t.cases.length ≤ 17592186044416:=hsc
  unfold encT
  by_cases h0:t.n < 1 ∨ 5 < t.n ∨ t.ins < 1 ∨ 8 < t.ins ∨ t.outs < 1 ∨ 8 < t.outs
  · have e:checkE t=2:=by unfold checkE; rw [if_pos h0]
    rw [e]
    (have zz:=aI @encCs_one (aI @encCs_cells @alenS_encCs); repeat' (first | apply w_seq | apply w_ops0 | apply w_block | apply w_skip | apply w_ret | apply a_n | apply a_r | apply o_nil | refine vZ ?_ | refine bxZ ?_ | refine gTZ ?_ | refine gFZ ?_ | refine cTZ ?_ | ((first | refine gBZ ?_ ?_ | refine cdZ ?_ ?_) <;> (intro _hg; (try simp only [ZB] at _hg); try first | exact absurd trivial _hg | (exfalso; omega))) | refine e_ends rfl ?_ | refine r1Z ?_ | fail)) <;> (try clear zz)
    all_goals exact .int _ _
  by_cases h1:t.cases.length < 1 ∨ 1024 < t.cases.length
  · have e:checkE t=5:=by unfold checkE; rw [if_neg h0,if_pos h1]
    rw [e]
    (have zz:=aI @encCs_one (aI @encCs_cells @alenS_encCs); repeat' (first | apply w_seq | apply w_ops0 | apply w_block | apply w_ret | apply a_n | apply a_r | apply o_nil | refine vZ ?_ | refine bxZ ?_ | refine gTZ ?_ | refine gFZ ?_ | refine cTZ ?_ | ((first | refine gBZ ?_ ?_ | refine cdZ ?_ ?_) <;> (intro _hg; (try simp only [ZB] at _hg); try first | exact absurd trivial _hg | (exfalso; omega))) | refine e_ends rfl ?_ | refine r1Z ?_ | fail)) <;> (try clear zz)
    all_goals exact .int _ _
  have e:checkE t=firstI (caseE t) t.cases.length:=by unfold checkE; rw [if_neg h0,if_neg h1]
  rw [e]
  (have zz:=aI @encCs_one (aI @encCs_cells @alenS_encCs); repeat' (first | apply w_seq | apply w_ops0 | apply w_block | apply w_skip | apply a_n | apply o_nil | refine vZ ?_ | refine bxZ ?_ | refine gTZ ?_ | ((first | refine gBZ ?_ ?_ | refine cdZ ?_ ?_) <;> (intro _hg; (try simp only [ZB] at _hg); try first | exact absurd trivial _hg | (exfalso; omega))) | apply w_loop | fail)) <;> (try clear zz)
  refine loopI (X:=Nat) (fun k=>[(1,.ptr 0 4 0),(44,encCs t.cases),(45,.int .i64 t.cases.length),(46,.int .i64 k)]) (fun k H nx=>k ≤ t.cases.length∧(∀ i,i < k→caseE t i=0)∧1 ≤ nx∧H 0=some [.int .i64 t.n,.int .i64 t.ins,.int .i64 t.outs,encCs t.cases]) (fun k=>t.cases.length - k) 0 ⟨Nat.zero_le _,fun i h=>absurd h (by omega),Nat.le_refl _,rfl⟩ (by simp (disch:=omega) only [agr,ZG,reduceEqDiff,↓reduceIte,List.length_cons,List.length_nil,reduceAdd]) ?_
  rintro k H nx ⟨hk,hz,hn,g0⟩
  by_cases hj:k < t.cases.length
  rotate_left
  · (have zz:=aI @g0 (aI @encCs_one (aI @encCs_cells (aI @alenS_encCs (aI @aixS_encCs @Bool.false_eq_true)))); repeat' (first | apply w_seq | apply w_ops0 | apply w_exit | apply w_ret | apply a_n | apply a_x | apply o_nil | refine vY ?_ | (refine cdY ?_ ?_ <;> (intro _hg; (try simp only [ZB] at _hg); try first | exact absurd trivial _hg | (exfalso; omega))) | refine e_ends rfl ?_ | refine r1Y ?_ | fail)) <;> (try clear zz)
    refine snap_int ?_
    rw [firstI_zero fun i hi=>hz i (by omega)]
  have hm:=mem_getD hj
  have hsh:=hs _ hm
  have hv:=vector_c _ t.n t.ins hsh.1
  have hvs:=vectors_c t.n t.ins t.outs (encCs t.cases) ⟨encCs_dat _,rfl,rfl⟩ _ hsh
  have d1:Dat (encC (t.cases.getD k default)):=Dat.agg (DatL.cons (encV_dat _) (DatL.cons (encVV_dat _) (DatL.cons (encVV_dat _) DatL.nil)))
  have d2:=encT_dat t
  unfold encC at d1
  unfold encT at d2
  have hce:caseE t k=if vectorE (t.cases.getD k default).inp t.n t.ins ≠ 0 then vectorE (t.cases.getD k default).inp t.n t.ins else if unordB (t.cases.map CaseV.inp) k then 14 else vectorsE t.n t.outs (t.cases.getD k default):=rfl
  have fin:caseE t k ≠ 0→firstI (caseE t) t.cases.length=caseE t k:=fun h=>firstI_hit hj hz h
  have hnext:caseE t k=0→∀ i,i < k + 1→caseE t i=0:=fun h i hi=>by
    rcases Nat.lt_succ_iff_lt_or_eq.1 hi with h' | rfl
    · exact hz i h'
    · exact h
  by_cases hk0:k=0
  · subst hk0
    have hu:unordB (t.cases.map CaseV.inp) 0=false:=rfl
    rw [hu] at hce
    have hi0:aixS 3 (encCs t.cases) (.int .i64 0)=_:=aixS_encCs (l:=t.cases) (k:=0) hj
    generalize vectorE (t.cases.getD 0 default).inp t.n t.ins=V at *
    generalize vectorsE t.n t.outs (t.cases.getD 0 default)=W at *
    by_cases hV:V=0
    · subst hV
      rw [if_neg (fun h=>h rfl),if_neg (by simp)] at hce
      by_cases hW:W=0
      · subst hW
        (have zz:=aI @g0 (aI @encCs_one (aI @encCs_cells (aI @alenS_encCs (aI @aixS_encCs (aI @Bool.false_eq_true (aI (show ((0:Nat):Int)=0 from rfl) @hi0)))))); repeat' (first | apply w_seq | apply w_ops0 | apply w_mixS1 | apply w_block | apply w_skip | apply a_n | apply o_nil | refine vY ?_ | refine cY ?_ (hp:=by first | exact hv | exact hvs) | refine alY ?_ | refine stY ?_ | refine gFY ?_ | refine cFY ?_ | ((first | refine gBY ?_ ?_ | refine cdY ?_ ?_) <;> (intro _hg; (try simp only [ZB] at _hg); try first | exact absurd trivial _hg | (exfalso; omega))) | fail)) <;> (try clear zz)
        refine ⟨0 + 1,by omega,⟨by omega,hnext hce,by omega,?_⟩,by simp (disch:=omega) only [agr,ZG,reduceEqDiff,↓reduceIte,Int.zero_add]⟩
        rw [hupd_ne (by omega),hupd_ne (by omega),g0]
      · (have zz:=aI @g0 (aI @encCs_one (aI @encCs_cells (aI @alenS_encCs (aI @aixS_encCs (aI @Bool.false_eq_true (aI (show ((0:Nat):Int)=0 from rfl) @hi0)))))); repeat' (first | apply w_seq | apply w_ops0 | apply w_mixS1 | apply w_block | apply w_skip | apply w_ret | apply a_n | apply a_r | apply o_nil | refine vY ?_ | refine cY ?_ (hp:=by first | exact hv | exact hvs) | refine alY ?_ | refine stY ?_ | refine gFY ?_ | refine cFY ?_ | ((first | refine gBY ?_ ?_ | refine cdY ?_ ?_) <;> (intro _hg; (try simp only [ZB] at _hg); try first | exact absurd trivial _hg | (exfalso; omega))) | refine e_ends rfl ?_ | refine r1Y ?_ | fail)) <;> (try clear zz)
        refine snap_int ?_
        rw [fin (by rw [hce]; exact hW),hce]
    · rw [if_pos hV] at hce
      (have zz:=aI @g0 (aI @encCs_one (aI @encCs_cells (aI @alenS_encCs (aI @aixS_encCs (aI @Bool.false_eq_true (aI (show ((0:Nat):Int)=0 from rfl) @hi0)))))); repeat' (first | apply w_seq | apply w_ops0 | apply w_block | apply w_skip | apply w_ret | apply a_n | apply a_r | apply o_nil | refine vY ?_ | refine cY ?_ (hp:=by first | exact hv | exact hvs) | refine alY ?_ | refine stY ?_ | (refine cdY ?_ ?_ <;> (intro _hg; (try simp only [ZB] at _hg); try first | exact absurd trivial _hg | (exfalso; omega))) | refine e_ends rfl ?_ | refine r1Y ?_ | fail)) <;> (try clear zz)
      refine snap_int ?_
      rw [fin (by rw [hce]; exact hV),hce]
  · have e1:(k:Int) - 1=((k - 1:Nat):Int):=by omega
    have ho:=compare_c (t.cases.getD (k - 1) default).inp (t.cases.getD k default).inp (hs _ (mem_getD (by omega))).1 hsh.1
    have hi1:=aixS_encCs (l:=t.cases) (k:=k - 1) (by omega)
    rw [← e1] at hi1
    have hu:unordB (t.cases.map CaseV.inp) k=decide (0 ≤ order (t.cases.getD (k - 1) default).inp (t.cases.getD k default).inp):=by
      unfold unordB
      rw [inp_getD hj,inp_getD (by omega),decide_eq_true (show 0 < k by omega),Bool.true_and]
    rw [hu] at hce
    generalize order (t.cases.getD (k - 1) default).inp (t.cases.getD k default).inp=O at *
    generalize vectorE (t.cases.getD k default).inp t.n t.ins=V at *
    generalize vectorsE t.n t.outs (t.cases.getD k default)=W at *
    by_cases hV:V=0
    · subst hV
      rw [if_neg (fun h=>h rfl)] at hce
      by_cases hO:0 ≤ O
      · rw [decide_eq_true hO,if_pos rfl] at hce
        (have zz:=aI @g0 (aI @encCs_one (aI @encCs_cells (aI @alenS_encCs (aI @aixS_encCs (aI @Bool.false_eq_true @hi1))))); repeat' (first | apply w_seq | apply w_ops0 | apply w_mixS1 | apply w_block | apply w_skip | apply w_ret | apply a_n | apply a_r | apply o_nil | refine vY ?_ | refine cY ?_ (hp:=by first | exact hv | exact hvs | exact ho) | refine alY ?_ | refine stY ?_ | refine gTY ?_ | ((first | refine gBY ?_ ?_ | refine cdY ?_ ?_) <;> (intro _hg; (try simp only [ZB] at _hg); try first | exact absurd trivial _hg | (exfalso; omega))) | refine e_ends rfl ?_ | refine r1Y ?_ | fail)) <;> (try clear zz)
        refine snap_int ?_
        rw [fin (by rw [hce]; decide),hce]
      · rw [decide_eq_false hO,if_neg (by simp)] at hce
        by_cases hW:W=0
        · subst hW
          (have zz:=aI @g0 (aI @encCs_one (aI @encCs_cells (aI @alenS_encCs (aI @aixS_encCs (aI @Bool.false_eq_true @hi1))))); repeat' (first | apply w_seq | apply w_ops0 | apply w_mixS1 | apply w_block | apply w_skip | apply a_n | apply o_nil | refine vY ?_ | refine cY ?_ (hp:=by first | exact hv | exact hvs | exact ho) | refine alY ?_ | refine stY ?_ | refine gTY ?_ | ((first | refine gBY ?_ ?_ | refine cdY ?_ ?_) <;> (intro _hg; (try simp only [ZB] at _hg); try first | exact absurd trivial _hg | (exfalso; omega))) | fail)) <;> (try clear zz)
          refine ⟨k + 1,by omega,⟨by omega,hnext hce,by omega,?_⟩,ag0⟩
          rw [hupd_ne (by omega),hupd_ne (by omega),g0]
        · (have zz:=aI @g0 (aI @encCs_one (aI @encCs_cells (aI @alenS_encCs (aI @aixS_encCs (aI @Bool.false_eq_true @hi1))))); repeat' (first | apply w_seq | apply w_ops0 | apply w_mixS1 | apply w_block | apply w_skip | apply w_ret | apply a_n | apply a_r | apply o_nil | refine vY ?_ | refine cY ?_ (hp:=by first | exact hv | exact hvs | exact ho) | refine alY ?_ | refine stY ?_ | refine gTY ?_ | ((first | refine gBY ?_ ?_ | refine cdY ?_ ?_) <;> (intro _hg; (try simp only [ZB] at _hg); try first | exact absurd trivial _hg | (exfalso; omega))) | refine e_ends rfl ?_ | refine r1Y ?_ | fail)) <;> (try clear zz)
          refine snap_int ?_
          rw [fin (by rw [hce]; exact hW),hce]
    · rw [if_pos hV] at hce
      (have zz:=aI @g0 (aI @encCs_one (aI @encCs_cells (aI @alenS_encCs (aI @aixS_encCs (aI @Bool.false_eq_true @hi1))))); repeat' (first | apply w_seq | apply w_ops0 | apply w_block | apply w_skip | apply w_ret | apply a_n | apply a_r | apply o_nil | refine vY ?_ | refine cY ?_ (hp:=by first | exact hv | exact hvs | exact ho) | refine alY ?_ | refine stY ?_ | (refine cdY ?_ ?_ <;> (intro _hg; (try simp only [ZB] at _hg); try first | exact absurd trivial _hg | (exfalso; omega))) | refine e_ends rfl ?_ | refine r1Y ?_ | fail)) <;> (try clear zz)
      refine snap_int ?_
      rw [fin (by rw [hce]; exact hV),hce]
end Go.Proofs.YtbiikomnhkbblaaGreat
namespace Go.Proofs.YtbiikomnhkbblaaGreat
open Go Go.Abs
theorem lb_exists (K:Nat→Int):∀ n,(∀ i j,i < j→j < n→K j < 0→K i < 0)→∃ b,b ≤ n∧(∀ i,i < b→K i < 0)∧∀ i,b ≤ i→i < n→0 ≤ K i
  | 0,_=>⟨0,Nat.le_refl _,fun i h=>absurd h (by omega),fun i _ h=>absurd h (by omega)⟩
  | n + 1,hm=>by
    by_cases h:K n < 0
    · refine ⟨n + 1,Nat.le_refl _,fun i hi=>?_,fun i h1 h2=>absurd h1 (by omega)⟩
      by_cases e:i=n
      · subst e; exact h
      · exact hm i n (by omega) (by omega) h
    · obtain ⟨b,h1,h2,h3⟩:=lb_exists K n (fun i j hi hj=>hm i j hi (by omega))
      refine ⟨b,by omega,h2,fun i hi hi2=>?_⟩
      by_cases e:i=n
      · subst e; omega
      · exact h3 i hi (by omega)
theorem shr2 {tb tf:Bool} {i j:Nat}:abin2 .shr tb tf (.int .u64 ((i:Int) + (j:Int))) (.int .u64 1)=some (.int .u64 (((i + j) / 2:Nat):Int)):=by
  have:=shr_nat (k:=.u64) (a:=i + j) (b:=1) (tb:=tb) (tf:=tf) (k':=.u64) (by decide)
  simpa using this
def idxT (t:TaskV) (v:List Int):Nat:=(t.cases.map CaseV.inp).findIdx fun x=>decide (x=v)
def findT (t:TaskV) (v:List Int):Int × Int:=if checkE t ≠ 0 then (0,checkE t) else if v ∈ t.cases.map CaseV.inp then (idxT t v,0) else (0,6)
def fewVs (l:List (List Int)):Bool:=decide (l.length ≤ 30) && l.all fun v=>decide (v.length ≤ 10)
def fewC (c:CaseV):Bool:=decide (c.inp.length ≤ 10) && fewVs c.out && fewVs c.calm
def fewT (t:TaskV):Bool:=decide (t.cases.length ≤ 30) && t.cases.all fewC
theorem findIdx_at {l:List (List Int)} {v:List Int} {k:Nat} (hk:k < l.length) (h:∀ i,i < k→l.getD i default ≠ v) (hv:l.getD k default=v):l.findIdx (fun x=>decide (x=v))=k:=by
  have e:∀ i (hi:i < l.length),l.getD i default=l[i]:=fun i hi=>by simp [List.getD,hi]
  refine (List.findIdx_eq hk).2 ⟨by rw [decide_eq_true_iff,← e k hk]; exact hv,fun j hj=>?_⟩
  rw [decide_eq_false_iff_not,← e j (by omega)]; exact h j hj
theorem mem_getV {l:List (List Int)} {v:List Int}:v ∈ l ↔ ∃ i,i < l.length∧l.getD i default=v:=by
  constructor
  · intro h
    obtain ⟨i,hi,e⟩:=List.getElem_of_mem h
    exact ⟨i,hi,by simp [List.getD,hi,e]⟩
  · rintro ⟨i,hi,rfl⟩
    exact mem_getD hi
theorem checkE_asc {t:TaskV} (h:checkE t=0):∀ j i,i < j→j < t.cases.length→order (t.cases.getD i default).inp (t.cases.getD j default).inp < 0:=by
  intro j i hij hj
  have h2:firstI (caseE t) t.cases.length=0:=by
    unfold checkE at h
    split at h
    · omega
    · split at h
      · omega
      · exact h
  have:=asc_of (l:=t.cases.map CaseV.inp) (fun k hk=>by
    rw [List.length_map] at hk
    have h3:=firstI_all h2 k hk
    unfold caseE at h3
    split at h3
    · exact absurd h3 ‹_›
    · split at h3
      · omega
      · simpa using ‹¬ unordB (t.cases.map CaseV.inp) k=true›) j i hij (by rw [List.length_map]; exact hj)
  rwa [inp_getD (by omega),inp_getD hj] at this
attribute [local irreducible] awp2 aops2 ains aloop athen bbind obind gbind acond res1 Go.Abs.Fn PCall Go.Abs.Pure SnapArgs SnapL Yl
theorem find1_c (c:CaseV) (v:List Int) (hc:Sh c.inp) (hv:Sh v):Pure Tryz.prog 45 [.agg [encV c.inp,encVV c.out,encVV c.calm],encV v] (.int .i64 (order c.inp v)):=by
  refine Pure.of_c2 follows is45 (Nat.le_of_ble_eq_true rfl) ?_
  simp only [b45,cO,cG,cN,cM,cD,cF,cB,cFal,cTru]
  (have zz:=and_self; repeat' (first | apply w_seq | apply w_ops0 | apply w_ret | apply a_n | apply o_nil | refine vZ ?_ | refine cZ ?_ (hp:=by exact compare_c _ _ hc hv) | refine bxZ ?_ | refine e_ends rfl ?_ | refine r1Z ?_ | fail)) <;> (try clear zz)
  exact .int _ _
theorem bsearch_c (l:List CaseV) (v:List Int) (hl:Sh l) (hs:∀ c ∈ l,ShC c) (hv:Sh v) {b:Nat} (hb:b ≤ l.length) (h1:∀ i,i < b→order (l.getD i default).inp v < 0) (h2:∀ i,b ≤ i→i < l.length→0 ≤ order (l.getD i default).inp v) :
    Pure Tryz.prog 44 [encCs l,encV v,.func 45 []] (.tup [.int .i64 b,.bool (decide (b < l.length) && decide (order (l.getD b default).inp v=0))]):=by
  refine Pure.of_c2 follows is44 (Nat.le_of_ble_eq_true rfl) ?_
  simp only [b44,cO,cG,cN,cM,cD,cF,cB,cFal,cTru]
  have hl':l.length ≤ 17592186044416:=hl
  have dC:∀ c:CaseV,Dat (.agg [encV c.inp,encVV c.out,encVV c.calm]):=fun c=>Dat.agg (DatL.cons (encV_dat _) (DatL.cons (encVV_dat _) (DatL.cons (encVV_dat _) DatL.nil)))
  (have zz:=aI @encCs_one (aI @encCs_cells @alenS_encCs); repeat' (first | apply w_seq | apply w_ops0 | apply w_block | apply a_n | apply o_nil | refine vZ ?_ | apply w_loop | fail)) <;> (try clear zz)
  refine loop0 (X:=Nat × Nat) (fun x=>[(0,encCs l),(1,encV v),(2,.func 45 []),(8,.int .i64 l.length),(9,.int .i64 x.1),(10,.int .i64 x.2)]) (fun x=>x.1 ≤ b∧b ≤ x.2∧x.2 ≤ l.length) (fun x=>x.2 - x.1) (0,l.length) ⟨Nat.zero_le _,hb,Nat.le_refl _⟩ ag0 ?_
  rintro ⟨i,j⟩ ⟨g1,g2,g3⟩
  dsimp only at g1 g2 g3 ⊢
  by_cases hij:i < j
  · have hh:(i + j) / 2 < l.length:=by omega
    have hc:=find1_c (l.getD ((i + j) / 2) default) v (hs _ (mem_getD hh)).1 hv
    have ix:=aixS_encCs hh
    by_cases hn:order (l.getD ((i + j) / 2) default).inp v < 0
    · have hbb:(i + j) / 2 < b:=Nat.lt_of_not_le fun h=>by have:=h2 _ h hh; omega
      (have zz:=aI @encCs_one (aI @encCs_cells (aI @alenS_encCs (aI @wrapU64 (aI @shr2 @ix)))); repeat' (first | apply w_seq | apply w_ops0 | apply w_block | apply w_skip | apply a_n | apply o_nil | refine vZ ?_ | refine cZ ?_ (hp:=hc) (hs:=by (first | refine snap_plain ?_ rfl | apply snap_data); (repeat' (first | exact snapL_nil | apply snapL_i | apply snapL_dat | exact dC _)); first | done | fail) | (refine cdZ ?_ ?_ <;> (intro _hg; (try simp only [ZB] at _hg); try first | exact absurd trivial _hg | (exfalso; omega))) | fail)) <;> (try clear zz)
      exact ⟨((i + j) / 2 + 1,j),⟨by omega,by omega,by omega⟩,by dsimp only; omega,ag0,rfl,rfl⟩
    · have hbb:b ≤ (i + j) / 2:=Nat.le_of_not_lt fun h=>hn (h1 _ h)
      (have zz:=aI @encCs_one (aI @encCs_cells (aI @alenS_encCs (aI @wrapU64 (aI @shr2 @ix)))); repeat' (first | apply w_seq | apply w_ops0 | apply w_block | apply w_skip | apply a_n | apply o_nil | refine vZ ?_ | refine cZ ?_ (hp:=hc) (hs:=by (first | refine snap_plain ?_ rfl | apply snap_data); (repeat' (first | exact snapL_nil | apply snapL_i | apply snapL_dat | exact dC _)); first | done | fail) | (refine cdZ ?_ ?_ <;> (intro _hg; (try simp only [ZB] at _hg); try first | exact absurd trivial _hg | (exfalso; omega))) | fail)) <;> (try clear zz)
      exact ⟨(i,(i + j) / 2),⟨by omega,by omega,by omega⟩,by dsimp only; omega,ag0,rfl,rfl⟩
  · have ei:i=b:=by omega
    have ej:j=b:=by omega
    clear hij g1 g2 g3
    subst ei
    by_cases hlt:i < l.length
    · have hc:=find1_c (l.getD i default) v (hs _ (mem_getD hlt)).1 hv
      have ix:=aixS_encCs hlt
      have dlt:decide ((i:Int) < (l.length:Int))=true:=decide_eq_true (by omega)
      have dij:decide ((i:Int) < (j:Int))=false:=decide_eq_false (by omega)
      (have zz:=aI @encCs_one (aI @encCs_cells (aI @alenS_encCs (aI @ix (aI @dlt @dij)))); repeat' (first | apply w_seq | apply w_ops0 | apply w_exit | apply w_ret | apply a_n | apply a_x | apply o_nil | refine vZ ?_ | refine cZ ?_ (hp:=hc) (hs:=by (first | refine snap_plain ?_ rfl | apply snap_data); (repeat' (first | exact snapL_nil | apply snapL_i | apply snapL_dat | exact dC _)); first | done | fail) | refine gTZ ?_ | refine cFZ ?_ | refine e_ends rfl ?_ | refine r2Z ?_ | fail)) <;> (try clear zz)
      refine snap_tup (snapL_cons (.int _ _) (snapL_cons (snap_bool ?_) snapL_nil))
      rw [decide_eq_true hlt,Bool.true_and]
    · have dlt:decide ((i:Int) < (l.length:Int))=false:=decide_eq_false (by omega)
      have dij:decide ((i:Int) < (j:Int))=false:=decide_eq_false (by omega)
      (have zz:=aI @encCs_one (aI @encCs_cells (aI @alenS_encCs (aI @dlt @dij))); repeat' (first | apply w_seq | apply w_ops0 | apply w_exit | apply w_ret | apply a_n | apply a_x | apply o_nil | refine vZ ?_ | refine gFZ ?_ | refine cFZ ?_ | refine e_ends rfl ?_ | refine r2Z ?_ | fail)) <;> (try clear zz)
      refine snap_tup (snapL_cons (.int _ _) (snapL_cons (snap_bool ?_) snapL_nil))
      rw [decide_eq_false hlt,Bool.false_and]
theorem find_c (t:TaskV) (v:List Int) (hs:∀ c ∈ t.cases,ShC c) (hsc:Sh t.cases) (hv:Sh v):Pure Tryz.prog 12 [encT t,encV v] (.tup [.int .i64 (findT t v).1,.int .i64 (findT t v).2]):=by
  refine Pure.of_c2 follows is12 (Nat.le_of_ble_eq_true rfl) ?_
  simp only [b12,cO,cG,cN,cM,cD,cF,cB,cFal,cTru]
  have hc:=check_c t hs hsc
  have d2:=encT_dat t
  by_cases he:checkE t=0
  rotate_left
  · have e:findT t v=(0,checkE t):=by unfold findT; rw [if_pos he]
    rw [e]
    generalize checkE t=C at *
    unfold encT at hc d2 ⊢
    (have zz:=aI @encCs_one (aI @encCs_cells @alenS_encCs); repeat' (first | apply w_seq | apply w_ops0 | apply w_ret | apply a_n | apply a_r | apply o_nil | refine vZ ?_ | refine cZ ?_ (hp:=hc) | refine bxZ ?_ | (refine cdZ ?_ ?_ <;> (intro _hg; (try simp only [ZB] at _hg); try first | exact absurd trivial _hg | (exfalso; omega))) | refine e_ends rfl ?_ | refine r2Z ?_ | fail)) <;> (try clear zz)
    exact snap_tup (snapL_cons (.int _ _) (snapL_cons (.int _ _) snapL_nil))
  have hasc:=checkE_asc he
  have hval:=fun i=>order_vals (t.cases.getD i default).inp v
  obtain ⟨b,hb,h1,h2⟩:=lb_exists (fun i=>order (t.cases.getD i default).inp v) t.cases.length (fun i j hij hj h=>order_trans (hasc j i hij hj) h)
  have hbs:=bsearch_c t.cases v hsc hs hv hb h1 h2
  rw [he] at hc
  by_cases hf:b < t.cases.length∧order (t.cases.getD b default).inp v=0
  · have hm:v ∈ t.cases.map CaseV.inp:=mem_getV.2 ⟨b,by rw [List.length_map]; exact hf.1,by rw [inp_getD hf.1]; exact order_eq hf.2⟩
    have e:findT t v=((b:Int),0):=by
      unfold findT
      rw [if_neg (fun h=>h he),if_pos hm]
      have:idxT t v=b:=findIdx_at (by rw [List.length_map]; exact hf.1) (fun i hi h=>by
        rw [inp_getD (by omega)] at h
        have:=h1 i hi
        rw [h,order_refl] at this; omega) (by rw [inp_getD hf.1]; exact order_eq hf.2)
      rw [this]
    rw [e]
    rw [decide_eq_true hf.1,decide_eq_true hf.2] at hbs
    unfold encT at hc d2 ⊢
    (have zz:=aI @encCs_one (aI @encCs_cells (aI @alenS_encCs @Bool.and_true)); repeat' (first | apply w_seq | apply w_ops0 | apply w_skip | apply w_ret | apply a_n | apply o_nil | refine vZ ?_ | refine cZ ?_ (hp:=by first | exact hc | exact hbs) (hs:=by (first | refine snap_plain ?_ rfl | apply snap_data); (repeat' (first | exact snapL_nil | apply snapL_i | apply snapL_dat | exact d2 | exact encCs_dat _ | exact Dat.func DatL.nil)); first | done | fail) | refine bxZ ?_ | refine cFZ ?_ | (refine cdZ ?_ ?_ <;> (intro _hg; (try simp only [ZB] at _hg); try first | exact absurd trivial _hg | (exfalso; omega))) | refine e_ends rfl ?_ | refine r2Z ?_ | fail)) <;> (try clear zz)
    exact snap_tup (snapL_cons (.int _ _) (snapL_cons (.int _ _) snapL_nil))
  · have hm:¬ v ∈ t.cases.map CaseV.inp:=fun h=>by
      obtain ⟨i,hi,e⟩:=mem_getV.1 h
      rw [List.length_map] at hi
      rw [inp_getD hi] at e
      have hz:order (t.cases.getD i default).inp v=0:=by rw [e]; exact order_refl v
      have hbi:b ≤ i:=Nat.le_of_not_lt fun h=>by have:=h1 i h; omega
      by_cases ebi:b=i
      · subst ebi; exact hf ⟨hi,hz⟩
      · have:=hasc i b (by omega) hi
        rw [e] at this
        have:=h2 b (Nat.le_refl _) (by omega)
        omega
    have e:findT t v=(0,6):=by unfold findT; rw [if_neg (fun h=>h he),if_neg hm]
    rw [e]
    have hfb:(decide (b < t.cases.length) && decide (order (t.cases.getD b default).inp v=0))=false:=by
      rw [Bool.and_eq_false_iff]
      by_cases hb2:b < t.cases.length
      · right; exact decide_eq_false (fun h=>hf ⟨hb2,h⟩)
      · left; exact decide_eq_false hb2
    rw [hfb] at hbs
    unfold encT at hc d2 ⊢
    (have zz:=aI @encCs_one (aI @encCs_cells @alenS_encCs); repeat' (first | apply w_seq | apply w_ops0 | apply w_skip | apply w_ret | apply a_n | apply a_r | apply o_nil | refine vZ ?_ | refine cZ ?_ (hp:=by first | exact hc | exact hbs) (hs:=by (first | refine snap_plain ?_ rfl | apply snap_data); (repeat' (first | exact snapL_nil | apply snapL_i | apply snapL_dat | exact d2 | exact encCs_dat _ | exact Dat.func DatL.nil)); first | done | fail) | refine bxZ ?_ | refine cTZ ?_ | (refine cdZ ?_ ?_ <;> (intro _hg; (try simp only [ZB] at _hg); try first | exact absurd trivial _hg | (exfalso; omega))) | refine e_ends rfl ?_ | refine r2Z ?_ | fail)) <;> (try clear zz)
    exact snap_tup (snapL_cons (.int _ _) (snapL_cons (.int _ _) snapL_nil))
end Go.Proofs.YtbiikomnhkbblaaGreat
namespace Go.Proofs.YtbiikomnhkbblaaGreat
open Go Go.Abs
theorem caseE_eq (t:TaskV) (k:Nat) (hk:k < t.cases.length):caseE t k=if vectorE (t.cases.getD k default).inp t.n t.ins ≠ 0 then vectorE (t.cases.getD k default).inp t.n t.ins else if (decide (0 < k) && decide (0 ≤ order (t.cases.getD (k - 1) default).inp (t.cases.getD k default).inp)) then 14 else vectorsE t.n t.outs (t.cases.getD k default):=by
  unfold caseE unordB
  rw [inp_getD hk,inp_getD (by omega)]
attribute [local irreducible] awp2 aops2 ains aloop athen bbind obind gbind acond res1 Go.Abs.Fn PCall Go.Abs.Pure SnapArgs SnapL Yl
theorem orderR (a b:List Int) (ha:Sh a) (hb:Sh b):Pure Tryz.prog 61 [encV a,encV b] (.int .i64 (order a b)):=by
  refine Pure.of_c2 follows is61 (Nat.le_of_ble_eq_true rfl) ?_
  simp only [b61,cO,cG,cN,cM,cD,cF,cB,cFal,cTru]
  have ha':a.length ≤ 17592186044416:=ha
  have hb':b.length ≤ 17592186044416:=hb
  (have zz:=and_self; repeat' (first | apply w_seq | apply w_ops0 | apply w_block | apply a_n | apply o_nil | refine vZ ?_ | apply w_loop | fail)) <;> (try clear zz)
  refine loop0 (X:=Nat) (fun k=>[(0,encV a),(1,encV b),(5,.int .i64 k)]) (fun k=>k ≤ a.length∧k ≤ b.length∧order a b=order (a.drop k) (b.drop k)) (fun k=>a.length - k) 0 ⟨Nat.zero_le _,Nat.zero_le _,rfl⟩ ag0 ?_
  rintro k ⟨h1,h2,h3⟩
  by_cases hka:k < a.length
  · by_cases hkb:k < b.length
    · rw [drop_cons (l:=a) hka,drop_cons (l:=b) hkb,order] at h3
      by_cases c1:a.getD k default < b.getD k default
      · rw [if_pos c1] at h3
        rw [h3]
        (have zz:=and_self; repeat' (first | apply w_seq | apply w_ops0 | apply w_ops1 | apply w_block | apply w_skip | apply w_ret | apply a_n | apply a_r | apply o_nil | refine vZ ?_ | refine gTZ ?_ | ((first | refine gBZ ?_ ?_ | refine cdZ ?_ ?_) <;> (intro _hg; (try simp only [ZB] at _hg); try first | exact absurd trivial _hg | (exfalso; omega))) | refine e_ends rfl ?_ | refine r1Z ?_ | fail)) <;> (try clear zz)
        exact .int _ _
      · rw [if_neg c1] at h3
        by_cases c2:a.getD k default > b.getD k default
        · rw [if_pos c2] at h3
          rw [h3]
          (have zz:=and_self; repeat' (first | apply w_seq | apply w_ops0 | apply w_ops1 | apply w_block | apply w_skip | apply w_ret | apply a_n | apply a_r | apply o_nil | refine vZ ?_ | refine gTZ ?_ | ((first | refine gBZ ?_ ?_ | refine cdZ ?_ ?_) <;> (intro _hg; (try simp only [ZB] at _hg); try first | exact absurd trivial _hg | (exfalso; omega))) | refine e_ends rfl ?_ | refine r1Z ?_ | fail)) <;> (try clear zz)
          exact .int _ _
        · rw [if_neg c2] at h3
          (have zz:=and_self; repeat' (first | apply w_seq | apply w_ops0 | apply w_ops1 | apply w_block | apply w_skip | apply a_n | apply o_nil | refine vZ ?_ | refine gTZ ?_ | ((first | refine gBZ ?_ ?_ | refine cdZ ?_ ?_) <;> (intro _hg; (try simp only [ZB] at _hg); try first | exact absurd trivial _hg | (exfalso; omega))) | fail)) <;> (try clear zz)
          exact ⟨k + 1,⟨by omega,by omega,h3⟩,by omega,ag0,rfl,rfl⟩
    · rw [List.drop_eq_nil_of_le (show b.length ≤ k by omega),drop_cons (l:=a) hka] at h3
      have h3:order a b=1:=h3
      rw [h3]
      (have zz:=and_self; repeat' (first | apply w_seq | apply w_ops0 | apply w_skip | apply w_exit | apply w_ret | apply a_n | apply a_x | apply a_r | apply o_nil | refine vZ ?_ | refine gTZ ?_ | ((first | refine gBZ ?_ ?_ | refine cdZ ?_ ?_) <;> (intro _hg; (try simp only [ZB] at _hg); try first | exact absurd trivial _hg | (exfalso; omega))) | refine e_ends rfl ?_ | refine r1Z ?_ | fail)) <;> (try clear zz)
      exact .int _ _
  · by_cases hkb:k < b.length
    · rw [List.drop_eq_nil_of_le (show a.length ≤ k by omega),drop_cons (l:=b) hkb] at h3
      have h3:order a b=-1:=h3
      rw [h3]
      (have zz:=and_self; repeat' (first | apply w_seq | apply w_ops0 | apply w_exit | apply w_ret | apply a_n | apply a_x | apply a_r | apply o_nil | refine vZ ?_ | refine gFZ ?_ | refine cFZ ?_ | ((first | refine gBZ ?_ ?_ | refine cdZ ?_ ?_) <;> (intro _hg; (try simp only [ZB] at _hg); try first | exact absurd trivial _hg | (exfalso; omega))) | refine e_ends rfl ?_ | refine r1Z ?_ | fail)) <;> (try clear zz)
      exact .int _ _
    · rw [List.drop_eq_nil_of_le (show a.length ≤ k by omega),List.drop_eq_nil_of_le (show b.length ≤ k by omega)] at h3
      have h3:order a b=0:=h3
      rw [h3]
      (have zz:=and_self; repeat' (first | apply w_seq | apply w_ops0 | apply w_skip | apply w_exit | apply w_ret | apply a_n | apply a_x | apply o_nil | refine vZ ?_ | refine gFZ ?_ | refine cFZ ?_ | ((first | refine gBZ ?_ ?_ | refine cdZ ?_ ?_) <;> (intro _hg; (try simp only [ZB] at _hg); try first | exact absurd trivial _hg | (exfalso; omega))) | refine e_ends rfl ?_ | refine r1Z ?_ | fail)) <;> (try clear zz)
      exact .int _ _
theorem hasR (l:List (List Int)) (v:List Int) (hl:Sh l) (hs:∀ x ∈ l,Sh x) (hv:Sh v):Pure Tryz.prog 81 [encVV l,encV v] (.bool (decide (v ∈ l))):=by
  refine Pure.of_c2 follows is81 (Nat.le_of_ble_eq_true rfl) ?_
  simp only [b81,cO,cG,cN,cM,cD,cF,cB,cFal,cTru]
  have hl':l.length ≤ 17592186044416:=hl
  (have zz:=and_self; repeat' (first | apply w_seq | apply w_ops0 | apply w_block | apply a_n | apply o_nil | refine vZ ?_ | apply w_loop | fail)) <;> (try clear zz)
  refine loopA (fun k=>[(0,encVV l),(1,encV v),(5,.int .i64 k)]) l.length (fun k=>l.getD k default ≠ v) ag0 ?_
  intro k hk hp
  by_cases hk2:k < l.length
  rotate_left
  · (have zz:=and_self; repeat' (first | apply w_seq | apply w_ops0 | apply w_exit | apply w_ret | apply a_n | apply a_x | apply o_nil | refine vZ ?_ | (refine cdZ ?_ ?_ <;> (intro _hg; (try simp only [ZB] at _hg); try first | exact absurd trivial _hg | (exfalso; omega))) | refine e_ends rfl ?_ | refine r1Z ?_ | fail)) <;> (try clear zz)
    exact snap_bool (decide_eq_false (fun hm=>by
      obtain ⟨i,hi,e⟩:=mem_getV.1 hm
      exact hp i (by omega) e)).symm
  have hc:=orderR (l.getD k default) v (hs _ (mem_getD hk2)) hv
  by_cases he:order (l.getD k default) v=0
  · (have zz:=and_self; repeat' (first | apply w_seq | apply w_ops0 | apply w_block | apply w_skip | apply w_ret | apply a_n | apply a_r | apply o_nil | refine vZ ?_ | refine cZ ?_ (hp:=hc) | (refine cdZ ?_ ?_ <;> (intro _hg; (try simp only [ZB] at _hg); try first | exact absurd trivial _hg | (exfalso; omega))) | refine e_ends rfl ?_ | refine r1Z ?_ | fail)) <;> (try clear zz)
    exact snap_bool (decide_eq_true (mem_getV.2 ⟨k,hk2,order_eq he⟩)).symm
  · (have zz:=and_self; repeat' (first | apply w_seq | apply w_ops0 | apply w_block | apply w_skip | apply a_n | apply o_nil | refine vZ ?_ | refine cZ ?_ (hp:=hc) | (refine cdZ ?_ ?_ <;> (intro _hg; (try simp only [ZB] at _hg); try first | exact absurd trivial _hg | (exfalso; omega))) | fail)) <;> (try clear zz)
    exact ⟨hk2,fun h=>he (by rw [h]; exact order_refl v),ag0,rfl,rfl⟩
theorem vectorR (v:List Int) (n most:Int) (hv:Sh v):Pure Tryz.prog 80 [encV v,.int .i64 n,.int .i64 most] (.int .i64 (vectorE v n most)):=by
  refine Pure.of_c2 follows is80 (Nat.le_of_ble_eq_true rfl) ?_
  simp only [b80,cO,cG,cN,cM,cD,cF,cB,cFal,cTru]
  have hv':v.length ≤ 17592186044416:=hv
  by_cases hn:(v.length:Int)=n
  rotate_left
  · have e:vectorE v n most=15:=by unfold vectorE; rw [if_pos hn]
    rw [e]
    (have zz:=and_self; repeat' (first | apply w_seq | apply w_ops0 | apply w_ret | apply a_n | apply a_r | apply o_nil | refine vZ ?_ | (refine cdZ ?_ ?_ <;> (intro _hg; (try simp only [ZB] at _hg); try first | exact absurd trivial _hg | (exfalso; omega))) | refine e_ends rfl ?_ | refine r1Z ?_ | fail)) <;> (try clear zz)
    all_goals exact .int _ _
  have e:vectorE v n most=if v.any (fun x=>decide (x < 0 ∨ most ≤ x)) then 2 else 0:=by unfold vectorE; rw [if_neg (fun h=>h hn)]
  rw [e]
  subst hn
  (have zz:=and_self; repeat' (first | apply w_seq | apply w_ops0 | apply w_block | apply w_skip | apply a_n | apply o_nil | refine vZ ?_ | (refine cdZ ?_ ?_ <;> (intro _hg; (try simp only [ZB] at _hg); try first | exact absurd trivial _hg | (exfalso; omega))) | apply w_loop | fail)) <;> (try clear zz)
  refine loopA (fun k=>[(0,encV v),(1,.int .i64 v.length),(2,.int .i64 most),(7,.int .i64 k)]) v.length (fun k=>decide (v.getD k default < 0 ∨ most ≤ v.getD k default)=false) ag0 ?_
  intro k hk hp
  by_cases hk2:k < v.length
  rotate_left
  · (have zz:=and_self; repeat' (first | apply w_seq | apply w_ops0 | apply w_exit | apply w_ret | apply a_n | apply a_x | apply o_nil | refine vZ ?_ | (refine cdZ ?_ ?_ <;> (intro _hg; (try simp only [ZB] at _hg); try first | exact absurd trivial _hg | (exfalso; omega))) | refine e_ends rfl ?_ | refine r1Z ?_ | fail)) <;> (try clear zz)
    rw [any_false fun i hi=>hp i (by omega)]
    exact .int _ _
  by_cases hb:v.getD k default < 0 ∨ most ≤ v.getD k default
  · (have zz:=and_self; repeat' (first | apply w_seq | apply w_ops0 | apply w_block | apply w_skip | apply w_ret | apply a_n | apply a_r | apply o_nil | refine vZ ?_ | refine gTZ ?_ | refine gFZ ?_ | refine cTZ ?_ | ((first | refine gBZ ?_ ?_ | refine cdZ ?_ ?_) <;> (intro _hg; (try simp only [ZB] at _hg); try first | exact absurd trivial _hg | (exfalso; omega))) | refine e_ends rfl ?_ | refine r1Z ?_ | fail)) <;> (try clear zz)
    all_goals first
      | (rw [any_true (p:=fun x=>decide (x < 0 ∨ most ≤ x)) hk2 (decide_eq_true hb)]; exact .int _ _)
  · (have zz:=and_self; repeat' (first | apply w_seq | apply w_ops0 | apply w_block | apply w_skip | apply a_n | apply o_nil | refine vZ ?_ | refine gTZ ?_ | ((first | refine gBZ ?_ ?_ | refine cdZ ?_ ?_) <;> (intro _hg; (try simp only [ZB] at _hg); try first | exact absurd trivial _hg | (exfalso; omega))) | fail)) <;> (try clear zz)
    exact ⟨hk2,decide_eq_false hb,ag0,rfl,rfl⟩
set_option maxHeartbeats 2000000 in
theorem oneR (t:TaskV) (j:Nat) (hs:∀ c ∈ t.cases,ShC c) (hsc:Sh t.cases) (hj:j < t.cases.length):Pure Tryz.prog 50 [encT t,.int .i64 j] (.int .i64 (caseE t j)):=by
  refine Pure.of_c2 follows is50 (Nat.le_of_ble_eq_true rfl) ?_
  simp only [b50,cO,cG,cN,cM,cD,cF,cB,cFal,cTru]
  rw [caseE_eq t j hj]
  have hsc':t.cases.length ≤ 17592186044416:=hsc
  have hm:=mem_getD hj
  obtain ⟨s1,s2,s3,s4,s5⟩:=hs _ hm
  have ix:=aixS_encCs hj
  have hv:=vectorR _ t.n t.ins s1
  unfold encT
  by_cases hV:vectorE (t.cases.getD j default).inp t.n t.ins=0
  rotate_left
  · rw [if_pos hV]
    generalize vectorE (t.cases.getD j default).inp t.n t.ins=V at *
    (have zz:=aI @encCs_one (aI @encCs_cells (aI @alenS_encCs @ix)); repeat' (first | apply w_seq | apply w_ops0 | apply w_ret | apply a_n | apply a_r | apply o_nil | refine vZ ?_ | refine cZ ?_ (hp:=hv) | refine alZ ?_ | refine bxZ ?_ | refine stZ ?_ | (refine cdZ ?_ ?_ <;> (intro _hg; (try simp only [ZB] at _hg); try first | exact absurd trivial _hg | (exfalso; omega))) | refine e_ends rfl ?_ | refine r1Z ?_ | fail)) <;> (try clear zz)
    exact .int _ _
  rw [if_neg (fun h=>h hV)]
  rw [hV] at hv
  have hO:=orderR (t.cases.getD (j - 1) default).inp (t.cases.getD j default).inp (hs _ (mem_getD (by omega))).1 s1
  have hi1:=aixS_encCs (l:=t.cases) (k:=j - 1) (by omega)
  generalize hC:t.cases.getD j default=c at *
  obtain ⟨inp,out,calm⟩:=c
  dsimp only at *
  have s2':out.length ≤ 17592186044416:=s2
  have s4':calm.length ≤ 17592186044416:=s4
  refine w_seq ?_
  (have zz:=aI @encCs_one (aI @encCs_cells (aI @alenS_encCs @ix)); repeat' (first | apply w_ops0 | apply a_n | apply o_nil | refine vZ ?_ | refine bxZ ?_ | fail)) <;> (try clear zz)
  refine w_seq ?_
  (have zz:=aI @encCs_one (aI @encCs_cells (aI @alenS_encCs @ix)); repeat' (first | apply w_ops0 | apply a_n | apply o_nil | refine vZ ?_ | refine alZ ?_ | refine stZ ?_ | fail)) <;> (try clear zz)
  refine w_seqC (fun T H nx=>T 1=.int .i64 j∧T 2=.ptr 0 4 0∧T 5=.ptr 1 3 0∧H 0=some [.int .i64 t.n,.int .i64 t.ins,.int .i64 t.outs,encCs t.cases]∧H 1=some [encV inp,encVV out,encVV calm]) ?_ ?_
  · (have zz:=aI @encCs_one (aI @encCs_cells (aI @alenS_encCs @ix)); repeat' (first | apply w_seq | apply w_ops0 | apply w_skip | apply a_n | apply o_nil | refine vZ ?_ | refine cZ ?_ (hp:=hv) | (refine cdZ ?_ ?_ <;> (intro _hg; (try simp only [ZB] at _hg); try first | exact absurd trivial _hg | (exfalso; omega))) | fail)) <;> (try clear zz)
    exact ⟨rfl,rfl,rfl,rfl,rfl⟩
  rintro T H nx ⟨t1,t2,t5,g0,g1⟩
  refine w_seqC (fun T H nx=>T 1=.int .i64 j∧T 2=.ptr 0 4 0∧T 5=.ptr 1 3 0∧H 0=some [.int .i64 t.n,.int .i64 t.ins,.int .i64 t.outs,encCs t.cases]∧H 1=some [encV inp,encVV out,encVV calm]∧(decide (0 < j) && decide (0 ≤ order (t.cases.getD (j - 1) default).inp inp))=false) ?_ ?_
  · by_cases hj0:j=0
    · subst hj0
      (have zz:=aI @t1 (aI @t2 (aI @t5 (aI @g0 (aI @g1 (aI @encCs_one (aI @encCs_cells (aI @alenS_encCs (aI @ix @Bool.false_eq_true)))))))); repeat' (first | apply w_seq | apply w_mixS1 | apply w_skip | apply a_n | apply o_nil | refine vZ ?_ | refine gFZ ?_ | (refine gBZ ?_ ?_ <;> (intro _hg; (try simp only [ZB] at _hg); try first | exact absurd trivial _hg | (exfalso; omega))) | refine cFZ ?_ | fail)) <;> (try clear zz)
      all_goals first | exact ⟨(have zz:=aI @t1 (aI @t2 (aI @t5 (aI @g0 @g1))); evZ),(have zz:=aI @t1 (aI @t2 (aI @t5 (aI @g0 @g1))); evZ),(have zz:=aI @t1 (aI @t2 (aI @t5 (aI @g0 @g1))); evZ),(have zz:=aI @t1 (aI @t2 (aI @t5 (aI @g0 @g1))); evZ),(have zz:=aI @t1 (aI @t2 (aI @t5 (aI @g0 @g1))); evZ),by first | rfl | simp⟩ | trace_state
    · have e1:(j:Int) - 1=((j - 1:Nat):Int):=by omega
      rw [← e1] at hi1
      rw [decide_eq_true (show 0 < j by omega),Bool.true_and]
      have hj1:decide ((0:Int) < (j:Int))=true:=decide_eq_true (by omega)
      by_cases ho:0 ≤ order (t.cases.getD (j - 1) default).inp inp
      · rw [decide_eq_true ho,if_pos rfl]
        (have zz:=aI @t1 (aI @t2 (aI @t5 (aI @g0 (aI @g1 (aI @encCs_one (aI @encCs_cells (aI @alenS_encCs (aI @ix (aI @hi1 (aI @hj1 @Bool.false_eq_true)))))))))); repeat' (first | apply w_seq | apply w_ops0 | apply w_mixS1 | apply w_ret | apply a_n | apply a_r | apply o_nil | refine vZ ?_ | refine cZ ?_ (hp:=hO) | refine gTZ ?_ | (refine cdZ ?_ ?_ <;> (intro _hg; (try simp only [ZB] at _hg); try first | exact absurd trivial _hg | (exfalso; omega))) | refine e_ends rfl ?_ | refine r1Z ?_ | fail)) <;> (try clear zz)
        all_goals first | exact .int _ _ | trace_state
      · rw [decide_eq_false ho]
        (have zz:=aI @t1 (aI @t2 (aI @t5 (aI @g0 (aI @g1 (aI @encCs_one (aI @encCs_cells (aI @alenS_encCs (aI @ix (aI @hi1 (aI @hj1 @Bool.false_eq_true)))))))))); repeat' (first | apply w_seq | apply w_mixS1 | apply w_skip | apply a_n | apply o_nil | refine vZ ?_ | refine cZ ?_ (hp:=hO) | refine gTZ ?_ | (refine cdZ ?_ ?_ <;> (intro _hg; (try simp only [ZB] at _hg); try first | exact absurd trivial _hg | (exfalso; omega))) | fail)) <;> (try clear zz)
        all_goals first | exact ⟨(have zz:=aI @t1 (aI @t2 (aI @t5 (aI @g0 @g1))); evZ),(have zz:=aI @t1 (aI @t2 (aI @t5 (aI @g0 @g1))); evZ),(have zz:=aI @t1 (aI @t2 (aI @t5 (aI @g0 @g1))); evZ),(have zz:=aI @t1 (aI @t2 (aI @t5 (aI @g0 @g1))); evZ),(have zz:=aI @t1 (aI @t2 (aI @t5 (aI @g0 @g1))); evZ),by first | rfl | simp⟩ | trace_state
  clear t1 t2 t5 g0 g1 hO hi1
  rintro T H nx ⟨t1,t2,t5,g0,g1,hu⟩
  rw [hu,if_neg (by simp)]
  by_cases h0:out.length < 1 ∨ 1024 < out.length
  · have e:vectorsE t.n t.outs ⟨inp,out,calm⟩=5:=by unfold vectorsE; rw [if_pos h0]
    rw [e]
    (have zz:=aI @t1 (aI @t2 (aI @t5 (aI @g0 @g1))); repeat' (first | apply w_seq | apply w_ops0 | apply w_ret | apply a_n | apply a_r | apply o_nil | refine vZ ?_ | refine gTZ ?_ | refine gFZ ?_ | refine cTZ ?_ | ((first | refine gBZ ?_ ?_ | refine cdZ ?_ ?_) <;> (intro _hg; (try simp only [ZB] at _hg); try first | exact absurd trivial _hg | (exfalso; omega))) | refine e_ends rfl ?_ | refine r1Z ?_ | fail)) <;> (try clear zz)
    all_goals exact .int _ _
  have e:vectorsE t.n t.outs ⟨inp,out,calm⟩=if firstI (outE t.n t.outs out) out.length ≠ 0 then firstI (outE t.n t.outs out) out.length else firstI (calmE out calm) calm.length:=by unfold vectorsE; rw [if_neg h0]
  rw [e]
  refine w_seqC (fun T H nx=>T 2=.ptr 0 4 0∧T 5=.ptr 1 3 0∧H 0=some [.int .i64 t.n,.int .i64 t.ins,.int .i64 t.outs,encCs t.cases]∧H 1=some [encV inp,encVV out,encVV calm]) ?_ ?_
  · (have zz:=aI @t1 (aI @t2 (aI @t5 (aI @g0 @g1))); repeat' (first | apply w_seq | apply w_ops0 | apply w_skip | apply a_n | apply o_nil | refine vZ ?_ | refine gTZ ?_ | ((first | refine gBZ ?_ ?_ | refine cdZ ?_ ?_) <;> (intro _hg; (try simp only [ZB] at _hg); try first | exact absurd trivial _hg | (exfalso; omega))) | fail)) <;> (try clear zz)
    all_goals first | exact ⟨(have zz:=aI @t1 (aI @t2 (aI @t5 (aI @g0 @g1))); evZ),(have zz:=aI @t1 (aI @t2 (aI @t5 (aI @g0 @g1))); evZ),(have zz:=aI @t1 (aI @t2 (aI @t5 (aI @g0 @g1))); evZ),(have zz:=aI @t1 (aI @t2 (aI @t5 (aI @g0 @g1))); evZ)⟩ | trace_state
  clear t1 t2 t5 g0 g1
  rintro T H nx ⟨t2,t5,g0,g1⟩
  refine w_seqC (fun T H nx=>T 2=.ptr 0 4 0∧T 5=.ptr 1 3 0∧H 0=some [.int .i64 t.n,.int .i64 t.ins,.int .i64 t.outs,encCs t.cases]∧H 1=some [encV inp,encVV out,encVV calm]∧∀ i,i < out.length→outE t.n t.outs out i=0) ?_ ?_
  · (have zz:=aI @t2 (aI @t5 (aI @g0 @g1)); repeat' (first | apply w_seq | apply w_ops0 | apply w_block | apply a_n | apply o_nil | refine vZ ?_ | apply w_loop | fail)) <;> (try clear zz)
    refine loopA (fun k=>[(2,.ptr 0 4 0),(5,.ptr 1 3 0),(7,.int .i64 k)]) out.length (fun k=>outE t.n t.outs out k=0) (have zz:=aI @t2 @t5; agZ) ?_
    intro k hk hz
    by_cases hk2:k < out.length
    rotate_left
    · (have zz:=aI @g0 @g1; repeat' (first | apply w_seq | apply w_ops0 | apply w_exit | apply a_n | apply a_x | apply o_nil | refine vZ ?_ | (refine cdZ ?_ ?_ <;> (intro _hg; (try simp only [ZB] at _hg); try first | exact absurd trivial _hg | (exfalso; omega))) | fail)) <;> (try clear zz)
      exact ⟨rfl,rfl,g0,g1,fun i hi=>hz i (by omega)⟩
    have hvk:=vectorR (out.getD k default) t.n t.outs (s3 _ (mem_getD hk2))
    have hok:=orderR (out.getD (k - 1) default) (out.getD k default) (s3 _ (mem_getD (by omega))) (s3 _ (mem_getD hk2))
    have ho:outE t.n t.outs out k=if vectorE (out.getD k default) t.n t.outs ≠ 0 then vectorE (out.getD k default) t.n t.outs else if (decide (0 < k) && decide (0 ≤ order (out.getD (k - 1) default) (out.getD k default))) then 14 else 0:=rfl
    have fin:∀ r,outE t.n t.outs out k=r→r ≠ 0→(if firstI (outE t.n t.outs out) out.length ≠ 0 then firstI (outE t.n t.outs out) out.length else firstI (calmE out calm) calm.length)=r:=fun r hr h0=>by
      rw [firstI_hit hk2 hz (by rw [hr]; exact h0),hr,if_pos h0]
    generalize vectorE (out.getD k default) t.n t.outs=V at *
    by_cases hV0:V=0
    rotate_left
    · rw [if_pos hV0] at ho
      rw [fin V ho hV0]
      (have zz:=aI @g0 @g1; repeat' (first | apply w_seq | apply w_ops0 | apply w_mixS1 | apply w_block | apply w_skip | apply w_ret | apply a_n | apply a_r | apply o_nil | refine vZ ?_ | refine cZ ?_ (hp:=hvk) | (refine cdZ ?_ ?_ <;> (intro _hg; (try simp only [ZB] at _hg); try first | exact absurd trivial _hg | (exfalso; omega))) | refine e_ends rfl ?_ | refine r1Z ?_ | fail)) <;> (try clear zz)
      exact .int _ _
    subst hV0
    rw [if_neg (fun h=>h rfl)] at ho
    by_cases hk0:k=0
    · subst hk0
      (have zz:=aI @g0 (aI @g1 @Bool.false_eq_true); repeat' (first | apply w_seq | apply w_ops0 | apply w_mixS1 | apply w_block | apply w_skip | apply a_n | apply o_nil | refine vZ ?_ | refine cZ ?_ (hp:=hvk) | refine gFZ ?_ | refine cFZ ?_ | ((first | refine gBZ ?_ ?_ | refine cdZ ?_ ?_) <;> (intro _hg; (try simp only [ZB] at _hg); try first | exact absurd trivial _hg | (exfalso; omega))) | fail)) <;> (try clear zz)
      all_goals first | exact ⟨hk2,ho,ag0,rfl,rfl⟩ | trace_state
    · have e1:(k:Int) - 1=((k - 1:Nat):Int):=by omega
      have e2:((k:Int) - 1).toNat=k - 1:=by omega
      have hj1:decide ((0:Int) < (k:Int))=true:=decide_eq_true (by omega)
      rw [decide_eq_true (show 0 < k by omega),Bool.true_and] at ho
      generalize order (out.getD (k - 1) default) (out.getD k default)=O at *
      by_cases hO0:0 ≤ O
      · rw [decide_eq_true hO0,if_pos rfl] at ho
        rw [fin 14 ho (by decide)]
        (have zz:=aI @g0 (aI @g1 (aI @hj1 (aI @e2 @Bool.false_eq_true))); repeat' (first | apply w_seq | apply w_ops0 | apply w_mixS1 | apply w_block | apply w_skip | apply w_ret | apply a_n | apply a_r | apply o_nil | refine vZ ?_ | refine cZ ?_ (hp:=by first | exact hvk | exact hok) | refine gTZ ?_ | (refine cdZ ?_ ?_ <;> (intro _hg; (try simp only [ZB] at _hg); try first | exact absurd trivial _hg | (exfalso; omega))) | refine e_ends rfl ?_ | refine r1Z ?_ | fail)) <;> (try clear zz)
        all_goals first | exact .int _ _ | trace_state
      · rw [decide_eq_false hO0,if_neg (by simp)] at ho
        (have zz:=aI @g0 (aI @g1 (aI @hj1 (aI @e2 @Bool.false_eq_true))); repeat' (first | apply w_seq | apply w_ops0 | apply w_mixS1 | apply w_block | apply w_skip | apply a_n | apply o_nil | refine vZ ?_ | refine cZ ?_ (hp:=by first | exact hvk | exact hok) | refine gTZ ?_ | (refine cdZ ?_ ?_ <;> (intro _hg; (try simp only [ZB] at _hg); try first | exact absurd trivial _hg | (exfalso; omega))) | fail)) <;> (try clear zz)
        all_goals first | exact ⟨hk2,ho,ag0,rfl,rfl⟩ | trace_state
  clear t2 t5 g0 g1
  rintro T H nx ⟨t2,t5,g0,g1,hz0⟩
  rw [firstI_zero hz0,if_neg (fun h=>h rfl)]
  (have zz:=aI @t2 (aI @t5 (aI @g0 @g1)); repeat' (first | apply w_seq | apply w_ops0 | apply w_block | apply a_n | apply o_nil | refine vZ ?_ | apply w_loop | fail)) <;> (try clear zz)
  refine loopA (fun k=>[(2,.ptr 0 4 0),(5,.ptr 1 3 0),(9,.int .i64 k)]) calm.length (fun k=>calmE out calm k=0) (have zz:=aI @t2 @t5; agZ) ?_
  intro k hk hz
  by_cases hk2:k < calm.length
  rotate_left
  · (have zz:=aI @g0 @g1; repeat' (first | apply w_seq | apply w_ops0 | apply w_exit | apply w_ret | apply a_n | apply a_x | apply o_nil | refine vZ ?_ | (refine cdZ ?_ ?_ <;> (intro _hg; (try simp only [ZB] at _hg); try first | exact absurd trivial _hg | (exfalso; omega))) | refine e_ends rfl ?_ | refine r1Z ?_ | fail)) <;> (try clear zz)
    rw [firstI_zero fun i hi=>hz i (by omega)]
    exact .int _ _
  have hh:=hasR out (calm.getD k default) s2 s3 (s5 _ (mem_getD hk2))
  have hok:=orderR (calm.getD (k - 1) default) (calm.getD k default) (s5 _ (mem_getD (by omega))) (s5 _ (mem_getD hk2))
  have ho:calmE out calm k=if calm.getD k default ∈ out then (if (decide (0 < k) && decide (0 ≤ order (calm.getD (k - 1) default) (calm.getD k default))) then 14 else 0) else 6:=rfl
  have fin:∀ r,calmE out calm k=r→r ≠ 0→firstI (calmE out calm) calm.length=r:=fun r hr h0=>by
    rw [firstI_hit hk2 hz (by rw [hr]; exact h0),hr]
  by_cases hm2:calm.getD k default ∈ out
  rotate_left
  · rw [if_neg hm2] at ho
    rw [decide_eq_false hm2] at hh
    rw [fin 6 ho (by decide)]
    (have zz:=aI @g0 (aI @g1 @Bool.false_eq_true); repeat' (first | apply w_seq | apply w_ops0 | apply w_mixS1 | apply w_block | apply w_skip | apply w_ret | apply a_n | apply a_r | apply o_nil | refine vZ ?_ | refine cZ ?_ (hp:=hh) | refine cTZ ?_ | (refine cdZ ?_ ?_ <;> (intro _hg; (try simp only [ZB] at _hg); try first | exact absurd trivial _hg | (exfalso; omega))) | refine e_ends rfl ?_ | refine r1Z ?_ | fail)) <;> (try clear zz)
    exact .int _ _
  rw [if_pos hm2] at ho
  rw [decide_eq_true hm2] at hh
  by_cases hk0:k=0
  · subst hk0
    (have zz:=aI @g0 (aI @g1 @Bool.false_eq_true); repeat' (first | apply w_seq | apply w_ops0 | apply w_mixS1 | apply w_block | apply w_skip | apply a_n | apply o_nil | refine vZ ?_ | refine cZ ?_ (hp:=hh) | refine gFZ ?_ | refine cFZ ?_ | ((first | refine gBZ ?_ ?_ | refine cdZ ?_ ?_) <;> (intro _hg; (try simp only [ZB] at _hg); try first | exact absurd trivial _hg | (exfalso; omega))) | fail)) <;> (try clear zz)
    all_goals first | exact ⟨hk2,ho,ag0,rfl,rfl⟩ | trace_state
  · have e2:((k:Int) - 1).toNat=k - 1:=by omega
    have hj1:decide ((0:Int) < (k:Int))=true:=decide_eq_true (by omega)
    rw [decide_eq_true (show 0 < k by omega),Bool.true_and] at ho
    generalize order (calm.getD (k - 1) default) (calm.getD k default)=O at *
    by_cases hO0:0 ≤ O
    · rw [decide_eq_true hO0,if_pos rfl] at ho
      rw [fin 14 ho (by decide)]
      (have zz:=aI @g0 (aI @g1 (aI @hj1 (aI @e2 @Bool.false_eq_true))); repeat' (first | apply w_seq | apply w_ops0 | apply w_mixS1 | apply w_block | apply w_skip | apply w_ret | apply a_n | apply a_r | apply o_nil | refine vZ ?_ | refine cZ ?_ (hp:=by first | exact hh | exact hok) | refine gTZ ?_ | refine cFZ ?_ | (refine cdZ ?_ ?_ <;> (intro _hg; (try simp only [ZB] at _hg); try first | exact absurd trivial _hg | (exfalso; omega))) | refine e_ends rfl ?_ | refine r1Z ?_ | fail)) <;> (try clear zz)
      all_goals first | exact .int _ _ | trace_state
    · rw [decide_eq_false hO0,if_neg (by simp)] at ho
      (have zz:=aI @g0 (aI @g1 (aI @hj1 (aI @e2 @Bool.false_eq_true))); repeat' (first | apply w_seq | apply w_ops0 | apply w_mixS1 | apply w_block | apply w_skip | apply a_n | apply o_nil | refine vZ ?_ | refine cZ ?_ (hp:=by first | exact hh | exact hok) | refine gTZ ?_ | refine cFZ ?_ | (refine cdZ ?_ ?_ <;> (intro _hg; (try simp only [ZB] at _hg); try first | exact absurd trivial _hg | (exfalso; omega))) | fail)) <;> (try clear zz)
      all_goals first | exact ⟨hk2,ho,ag0,rfl,rfl⟩ | trace_state
end Go.Proofs.YtbiikomnhkbblaaGreat
namespace Go.Proofs.YtbiikomnhkbblaaGreat
open Go Go.Abs
open Nat (reduceEqDiff reduceAdd reduceLeDiff)
attribute [local irreducible] awp2 aops2 ains aloop athen bbind obind gbind acond res1 Go.Abs.Fn PCall Go.Abs.Pure SnapArgs SnapL Yl
theorem checkR (t:TaskV) (hs:∀ c ∈ t.cases,ShC c) (hsc:Sh t.cases):Pure Tryz.prog 15 [encT t] (.int .i64 (checkE t)):=by
  refine Pure.of_c2 follows is15 (Nat.le_of_ble_eq_true rfl) ?_
  simp only [b15,cO,cG,cN,cM,cD,cF,cB,cFal,cTru]
  have hsc':t.cases.length ≤ 17592186044416:=hsc
  have d2:=encT_dat t
  have hone:=fun j hj=>oneR t j hs hsc hj
  unfold encT at d2 hone ⊢
  by_cases h0:t.n < 1 ∨ 5 < t.n ∨ t.ins < 1 ∨ 8 < t.ins ∨ t.outs < 1 ∨ 8 < t.outs
  · have e:checkE t=2:=by unfold checkE; rw [if_pos h0]
    rw [e]
    (have zz:=aI @encCs_one (aI @encCs_cells @alenS_encCs); repeat' (first | apply w_seq | apply w_ops0 | apply w_ret | apply a_n | apply a_r | apply o_nil | refine vZ ?_ | refine bxZ ?_ | refine gTZ ?_ | refine gFZ ?_ | refine cTZ ?_ | ((first | refine gBZ ?_ ?_ | refine cdZ ?_ ?_) <;> (intro _hg; (try simp only [ZB] at _hg); try first | exact absurd trivial _hg | (exfalso; omega))) | refine e_ends rfl ?_ | refine r1Z ?_ | fail)) <;> (try clear zz)
    all_goals exact .int _ _
  by_cases h1:t.cases.length < 1 ∨ 1024 < t.cases.length
  · have e:checkE t=5:=by unfold checkE; rw [if_neg h0,if_pos h1]
    rw [e]
    (have zz:=aI @encCs_one (aI @encCs_cells @alenS_encCs); repeat' (first | apply w_seq | apply w_ops0 | apply w_skip | apply w_ret | apply a_n | apply a_r | apply o_nil | refine vZ ?_ | refine bxZ ?_ | refine gTZ ?_ | refine gFZ ?_ | refine cTZ ?_ | ((first | refine gBZ ?_ ?_ | refine cdZ ?_ ?_) <;> (intro _hg; (try simp only [ZB] at _hg); try first | exact absurd trivial _hg | (exfalso; omega))) | refine e_ends rfl ?_ | refine r1Z ?_ | fail)) <;> (try clear zz)
    all_goals exact .int _ _
  have e:checkE t=firstI (caseE t) t.cases.length:=by unfold checkE; rw [if_neg h0,if_neg h1]
  rw [e]
  (have zz:=aI @encCs_one (aI @encCs_cells @alenS_encCs); repeat' (first | apply w_seq | apply w_ops0 | apply w_block | apply w_skip | apply a_n | apply o_nil | refine vZ ?_ | refine bxZ ?_ | refine gTZ ?_ | ((first | refine gBZ ?_ ?_ | refine cdZ ?_ ?_) <;> (intro _hg; (try simp only [ZB] at _hg); try first | exact absurd trivial _hg | (exfalso; omega))) | apply w_loop | fail)) <;> (try clear zz)
  refine loopA (fun k=>[(1,.ptr 0 4 0),(3,.int .i64 k)]) t.cases.length (fun k=>caseE t k=0) (by simp (disch:=omega) only [agr,ZG,reduceEqDiff,↓reduceIte,List.length_cons,List.length_nil]) ?_
  intro k hk hz
  by_cases hk2:k < t.cases.length
  rotate_left
  · (have zz:=aI @encCs_one (aI @encCs_cells @alenS_encCs); repeat' (first | apply w_seq | apply w_ops0 | apply w_exit | apply w_ret | apply a_n | apply a_x | apply o_nil | refine vZ ?_ | (refine cdZ ?_ ?_ <;> (intro _hg; (try simp only [ZB] at _hg); try first | exact absurd trivial _hg | (exfalso; omega))) | refine e_ends rfl ?_ | refine r1Z ?_ | fail)) <;> (try clear zz)
    rw [firstI_zero fun i hi=>hz i (by omega)]
    exact .int _ _
  have hc:=hone k hk2
  by_cases hE:caseE t k=0
  · rw [hE] at hc
    (have zz:=aI @encCs_one (aI @encCs_cells @alenS_encCs); repeat' (first | apply w_seq | apply w_ops0 | apply w_block | apply w_skip | apply a_n | apply o_nil | refine vZ ?_ | refine cZ ?_ (hp:=hc) | (refine cdZ ?_ ?_ <;> (intro _hg; (try simp only [ZB] at _hg); try first | exact absurd trivial _hg | (exfalso; omega))) | fail)) <;> (try clear zz)
    exact ⟨hk2,hE,ag0,rfl,rfl⟩
  · rw [firstI_hit hk2 hz hE]
    generalize caseE t k=V at *
    (have zz:=aI @encCs_one (aI @encCs_cells @alenS_encCs); repeat' (first | apply w_seq | apply w_ops0 | apply w_block | apply w_skip | apply w_ret | apply a_n | apply a_r | apply o_nil | refine vZ ?_ | refine cZ ?_ (hp:=hc) | (refine cdZ ?_ ?_ <;> (intro _hg; (try simp only [ZB] at _hg); try first | exact absurd trivial _hg | (exfalso; omega))) | refine e_ends rfl ?_ | refine r1Z ?_ | fail)) <;> (try clear zz)
    exact .int _ _
theorem fewVsR (l:List (List Int)) (hl:Sh l) (hs:∀ x ∈ l,Sh x):Pure Tryz.prog 42 [encVV l,.int .i64 30] (.bool (fewVs l)):=by
  refine Pure.of_c2 follows is42 (Nat.le_of_ble_eq_true rfl) ?_
  simp only [b42,cO,cG,cN,cM,cD,cF,cB,cFal,cTru]
  have hl':l.length ≤ 17592186044416:=hl
  unfold fewVs
  by_cases h0:l.length ≤ 30
  rotate_left
  · rw [decide_eq_false h0]
    (have zz:=and_self; repeat' (first | apply w_seq | apply w_ops0 | apply w_ret | apply a_n | apply a_r | apply o_nil | refine vZ ?_ | (refine cdZ ?_ ?_ <;> (intro _hg; (try simp only [ZB] at _hg); try first | exact absurd trivial _hg | (exfalso; omega))) | refine e_ends rfl ?_ | refine r1Z ?_ | fail)) <;> (try clear zz)
    exact .bool _
  rw [decide_eq_true h0,Bool.true_and]
  (have zz:=and_self; repeat' (first | apply w_seq | apply w_ops0 | apply w_block | apply w_skip | apply a_n | apply o_nil | refine vZ ?_ | (refine cdZ ?_ ?_ <;> (intro _hg; (try simp only [ZB] at _hg); try first | exact absurd trivial _hg | (exfalso; omega))) | apply w_loop | fail)) <;> (try clear zz)
  refine loopA (fun k=>[(0,encVV l),(5,.int .i64 k)]) l.length (fun k=>decide ((l.getD k default).length ≤ 10)=true) ag0 ?_
  intro k hk hz
  by_cases hk2:k < l.length
  rotate_left
  · (have zz:=and_self; repeat' (first | apply w_seq | apply w_ops0 | apply w_exit | apply w_ret | apply a_n | apply a_x | apply o_nil | refine vZ ?_ | (refine cdZ ?_ ?_ <;> (intro _hg; (try simp only [ZB] at _hg); try first | exact absurd trivial _hg | (exfalso; omega))) | refine e_ends rfl ?_ | refine r1Z ?_ | fail)) <;> (try clear zz)
    rw [all_true fun i hi=>hz i (by omega)]
    exact .bool _
  have hsk:(l.getD k default).length ≤ 17592186044416:=hs _ (mem_getD hk2)
  by_cases hE:(l.getD k default).length ≤ 10
  · (have zz:=and_self; repeat' (first | apply w_seq | apply w_ops0 | apply w_block | apply w_skip | apply a_n | apply o_nil | refine vZ ?_ | (refine cdZ ?_ ?_ <;> (intro _hg; (try simp only [ZB] at _hg); try first | exact absurd trivial _hg | (exfalso; omega))) | fail)) <;> (try clear zz)
    exact ⟨hk2,decide_eq_true hE,ag0,rfl,rfl⟩
  · (have zz:=and_self; repeat' (first | apply w_seq | apply w_ops0 | apply w_block | apply w_skip | apply w_ret | apply a_n | apply a_r | apply o_nil | refine vZ ?_ | (refine cdZ ?_ ?_ <;> (intro _hg; (try simp only [ZB] at _hg); try first | exact absurd trivial _hg | (exfalso; omega))) | refine e_ends rfl ?_ | refine r1Z ?_ | fail)) <;> (try clear zz)
    rw [all_false (p:=fun v=>decide (v.length ≤ 10)) hk2 (decide_eq_false hE)]
    exact .bool _
theorem fewR (t:TaskV) (hs:∀ c ∈ t.cases,ShC c) (hsc:Sh t.cases):Pure Tryz.prog 10 [encT t] (.bool (fewT t)):=by
  refine Pure.of_c2 follows is10 (Nat.le_of_ble_eq_true rfl) ?_
  simp only [b10,cO,cG,cN,cM,cD,cF,cB,cFal,cTru]
  have hsc':t.cases.length ≤ 17592186044416:=hsc
  unfold fewT encT
  by_cases h0:t.cases.length ≤ 30
  rotate_left
  · rw [decide_eq_false h0]
    (have zz:=aI @encCs_one (aI @encCs_cells @alenS_encCs); repeat' (first | apply w_seq | apply w_ops0 | apply w_ret | apply a_n | apply a_r | apply o_nil | refine vZ ?_ | refine bxZ ?_ | (refine cdZ ?_ ?_ <;> (intro _hg; (try simp only [ZB] at _hg); try first | exact absurd trivial _hg | (exfalso; omega))) | refine e_ends rfl ?_ | refine r1Z ?_ | fail)) <;> (try clear zz)
    exact .bool _
  rw [decide_eq_true h0,Bool.true_and]
  (have zz:=aI @encCs_one (aI @encCs_cells @alenS_encCs); repeat' (first | apply w_seq | apply w_ops0 | apply w_block | apply w_skip | apply a_n | apply o_nil | refine vZ ?_ | refine bxZ ?_ | (refine cdZ ?_ ?_ <;> (intro _hg; (try simp only [ZB] at _hg); try first | exact absurd trivial _hg | (exfalso; omega))) | apply w_loop | fail)) <;> (try clear zz)
  refine loopI (X:=Nat) (fun k=>[(1,.ptr 0 4 0),(3,.int .i64 k)]) (fun k H nx=>k ≤ t.cases.length∧(∀ i,i < k→fewC (t.cases.getD i default)=true)∧1 ≤ nx∧H 0=some [.int .i64 t.n,.int .i64 t.ins,.int .i64 t.outs,encCs t.cases]) (fun k=>t.cases.length - k) 0 ⟨Nat.zero_le _,fun i h=>absurd h (by omega),Nat.le_refl _,rfl⟩ (by simp (disch:=omega) only [agr,ZG,reduceEqDiff,↓reduceIte,List.length_cons,List.length_nil]) ?_
  rintro k H nx ⟨hk,hz,hn,g0⟩
  by_cases hk2:k < t.cases.length
  rotate_left
  · (have zz:=aI @g0 (aI @encCs_one (aI @encCs_cells @alenS_encCs)); repeat' (first | apply w_seq | apply w_ops0 | apply w_exit | apply w_ret | apply a_n | apply a_x | apply o_nil | refine vY ?_ | (refine cdY ?_ ?_ <;> (intro _hg; (try simp only [ZB] at _hg); try first | exact absurd trivial _hg | (exfalso; omega))) | refine e_ends rfl ?_ | refine r1Y ?_ | fail)) <;> (try clear zz)
    rw [all_true fun i hi=>hz i (by omega)]
    exact .bool _
  have ix:=aixS_encCs hk2
  obtain ⟨s1,s2,s3,s4,s5⟩:=hs _ (mem_getD hk2)
  have hf1:=fewVsR _ s2 s3
  have hf2:=fewVsR _ s4 s5
  have hF:fewC (t.cases.getD k default)=(decide ((t.cases.getD k default).inp.length ≤ 10) && fewVs (t.cases.getD k default).out && fewVs (t.cases.getD k default).calm):=rfl
  have hno:fewC (t.cases.getD k default)=false→Snap H (.bool false) (.bool (t.cases.all fewC)):=fun h=>by
    rw [all_false hk2 h]; exact .bool _
  have hno':∀ {H'},fewC (t.cases.getD k default)=false→Snap H' (.bool false) (.bool (t.cases.all fewC)):=fun h=>by
    rw [all_false hk2 h]; exact .bool _
  have s1':(t.cases.getD k default).inp.length ≤ 17592186044416:=s1
  generalize fewVs (t.cases.getD k default).out=F1 at *
  generalize fewVs (t.cases.getD k default).calm=F2 at *
  by_cases hl:(t.cases.getD k default).inp.length ≤ 10
  rotate_left
  · rw [decide_eq_false hl] at hF
    (have zz:=aI @g0 (aI @encCs_one (aI @encCs_cells (aI @alenS_encCs @ix))); repeat' (first | apply w_seq | apply w_ops0 | apply w_block | apply w_skip | apply w_ret | apply a_n | apply a_r | apply o_nil | refine vY ?_ | refine alY ?_ | refine stY ?_ | refine gFY ?_ | refine cTY ?_ | ((first | refine gBY ?_ ?_ | refine cdY ?_ ?_) <;> (intro _hg; (try simp only [ZB] at _hg); try first | exact absurd trivial _hg | (exfalso; omega))) | refine e_ends rfl ?_ | refine r1Y ?_ | fail)) <;> (try clear zz)
    all_goals exact hno' hF
  rw [decide_eq_true hl,Bool.true_and] at hF
  cases F1 with
  | false =>
    (have zz:=aI @g0 (aI @encCs_one (aI @encCs_cells (aI @alenS_encCs (aI @ix @Bool.false_eq_true)))); repeat' (first | apply w_seq | apply w_ops0 | apply w_block | apply w_skip | apply w_ret | apply a_n | apply a_r | apply o_nil | refine vY ?_ | refine cY ?_ (hp:=by first | exact hf1 | exact hf2) | refine alY ?_ | refine stY ?_ | refine gTY ?_ | refine gFY ?_ | refine cTY ?_ | ((first | refine gBY ?_ ?_ | refine cdY ?_ ?_) <;> (intro _hg; (try simp only [ZB] at _hg); try first | exact absurd trivial _hg | (exfalso; omega))) | refine e_ends rfl ?_ | refine r1Y ?_ | fail)) <;> (try clear zz)
    all_goals exact hno' hF
  | true =>
    cases F2 with
    | false =>
      (have zz:=aI @g0 (aI @encCs_one (aI @encCs_cells (aI @alenS_encCs (aI @ix @Bool.false_eq_true)))); repeat' (first | apply w_seq | apply w_ops0 | apply w_block | apply w_skip | apply w_ret | apply a_n | apply a_r | apply o_nil | refine vY ?_ | refine cY ?_ (hp:=by first | exact hf1 | exact hf2) | refine alY ?_ | refine stY ?_ | refine gTY ?_ | refine cTY ?_ | ((first | refine gBY ?_ ?_ | refine cdY ?_ ?_) <;> (intro _hg; (try simp only [ZB] at _hg); try first | exact absurd trivial _hg | (exfalso; omega))) | refine e_ends rfl ?_ | refine r1Y ?_ | fail)) <;> (try clear zz)
      all_goals exact hno' hF
    | true =>
      (have zz:=aI @g0 (aI @encCs_one (aI @encCs_cells (aI @alenS_encCs (aI @ix @Bool.false_eq_true)))); repeat' (first | apply w_seq | apply w_ops0 | apply w_block | apply w_skip | apply a_n | apply o_nil | refine vY ?_ | refine cY ?_ (hp:=by first | exact hf1 | exact hf2) | refine alY ?_ | refine stY ?_ | refine gTY ?_ | refine cFY ?_ | ((first | refine gBY ?_ ?_ | refine cdY ?_ ?_) <;> (intro _hg; (try simp only [ZB] at _hg); try first | exact absurd trivial _hg | (exfalso; omega))) | fail)) <;> (try clear zz)
      refine ⟨k + 1,by omega,⟨by omega,fun i hi=>?_,by omega,?_⟩,ag0⟩
      · rcases Nat.lt_succ_iff_lt_or_eq.1 hi with h | rfl
        · exact hz i h
        · exact hF
      · rw [hupd_ne (by omega),hupd_ne (by omega),g0]
end Go.Proofs.YtbiikomnhkbblaaGreat
namespace Go.Proofs.YtbiikomnhkbblaaGreat
open Go Go.Abs
def codeL:List (Nat × F2):=[(11,b11),(12,b12),(14,b14),(16,b16),(18,b18),(20,b20),(21,b21),(23,b23),(24,b24),(26,b26),(29,b29),(31,b31),(37,b37),(39,b39),(40,b40),(43,b43),(44,b44),(45,b45),(46,b46),(48,b48),(49,b49),(51,b51),(52,b52),(53,b53),(56,b56),(57,b57),(58,b58),(59,b59),(61,b61),(62,b62),(64,b64),(65,b65),(66,b66),(67,b67),(68,b68),(70,b70),(74,b74),(75,b75),(76,b76),(77,b77),(78,b78),(79,b79),(83,b83),(85,b85),(86,b86),(87,b87),(88,b88),(89,b89),(90,b90),(91,b91),(94,b94),(96,b96),(97,b97),(100,b100),(109,b109),(110,b110),(111,b111),(125,b125)]
theorem codes:Codes Tryz.prog (lookup codeL) :=
  (codes_cons is11 (codes_cons is12 (codes_cons is14 (codes_cons is16 (codes_cons is18 (codes_cons is20 (codes_cons is21 (codes_cons is23 (codes_cons is24 (codes_cons is26 (codes_cons is29 (codes_cons is31 (codes_cons is37 (codes_cons is39 (codes_cons is40 (codes_cons is43 (codes_cons is44 (codes_cons is45 (codes_cons is46 (codes_cons is48 (codes_cons is49 (codes_cons is51 (codes_cons is52 (codes_cons is53 (codes_cons is56 (codes_cons is57 (codes_cons is58 (codes_cons is59 (codes_cons is61 (codes_cons is62 (codes_cons is64 (codes_cons is65 (codes_cons is66 (codes_cons is67 (codes_cons is68 (codes_cons is70 (codes_cons is74 (codes_cons is75 (codes_cons is76 (codes_cons is77 (codes_cons is78 (codes_cons is79 (codes_cons is83 (codes_cons is85 (codes_cons is86 (codes_cons is87 (codes_cons is88 (codes_cons is89 (codes_cons is90 (codes_cons is91 (codes_cons is94 (codes_cons is96 (codes_cons is97 (codes_cons is100 (codes_cons is109 (codes_cons is110 (codes_cons is111 (codes_cons is125 codes_nil))))))))))))))))))))))))))))))))))))))))))))))))))))))))))
set_option maxRecDepth 100000 in
theorem awake_c:Go.Abs.Pure Tryz.prog 11 [] (.bool true):=Pure.of_run follows codes (pf:=named [43,16,18,21,24,26,29,31,12,66]) (n:=2000) (good:=isTrue) (by decide +kernel) isTrue_eq
end Go.Proofs.YtbiikomnhkbblaaGreat
namespace Go.Proofs.YtbiikomnhkbblaaGreat
open Go Go.Abs Go.RowKit
section
variable {H:Type} {enc:TypeId × Value→H} {W:World}
theorem oi:Opens enc Tryz.prog W 3 (AV.int .i64) (fun n=>(Lit.int .i64 n).wf=true):=opens_int Tryz.underlying3
theorem oL1:Opens enc Tryz.prog W 25 encV Sh :=
  (opens_slice Tryz.underlying25 (sz:=1) (by_:=8) (by kernel_rfl) (by kernel_rfl) Nat.one_pos (fun _=>rfl) oi).mono fun l h=>by have:=h.2.2; show _ ≤ _; omega
theorem oL2:Opens enc Tryz.prog W 38 encVV (fun l=>Sh l∧∀ x ∈ l,Sh x) :=
  (opens_slice Tryz.underlying38 (sz:=1) (by_:=24) (by kernel_rfl) (by kernel_rfl) Nat.one_pos (fun _=>rfl) oL1).mono fun l h=>⟨by have:=h.2.2; show _ ≤ _; omega,h.1⟩
set_option maxRecDepth 100000 in
theorem oCase:Opens enc Tryz.prog W 69 encC ShC :=
  (opens_struct Tryz.underlying69 (by kernel_rfl) (opensF_cons (off:=0) (off':=1) rfl (by kernel_rfl) oL1 (opensF_cons (off:=1) (off':=2) rfl (by kernel_rfl) oL2 (opensF_cons (off:=2) (off':=3) rfl (by kernel_rfl) oL2 opensF_nil)))).map
    (fun a=>(⟨a.1,a.2.1,a.2.2.1⟩:CaseV)) (by
      rintro ⟨i,o,c,u⟩ ⟨h1,h2,h3,_⟩
      exact ⟨h1,h2.1,h2.2,h3.1,h3.2⟩) (fun _ _=>rfl)
theorem oCases:Opens enc Tryz.prog W 22 encCs (fun l=>Sh l∧∀ c ∈ l,ShC c) :=
  (opens_slice Tryz.underlying22 (sz:=3) (by_:=72) (by kernel_rfl) (by kernel_rfl) (by omega) (fun _=>rfl) oCase).mono fun l h=>⟨by have:=h.2.2; show _ ≤ _; omega,h.1⟩
set_option maxRecDepth 100000 in
theorem oTask:Opens enc Tryz.prog W 24 encT (fun t=>Sh t.cases∧∀ c ∈ t.cases,ShC c) :=
  (opens_struct Tryz.underlying24 (by kernel_rfl) (opensF_cons (off:=0) (off':=1) rfl (by kernel_rfl) oi (opensF_cons (off:=1) (off':=2) rfl (by kernel_rfl) oi (opensF_cons (off:=2) (off':=3) rfl (by kernel_rfl) oi (opensF_cons (off:=3) (off':=4) rfl (by kernel_rfl) oCases opensF_nil))))).map
    (fun a=>(⟨a.1,a.2.1,a.2.2.1,a.2.2.2.1⟩:TaskV)) (by
      rintro ⟨n,i,o,c,u⟩ ⟨_,_,_,h,_⟩
      exact h) (fun _ _=>rfl)
end
theorem calls_of_pureO {f:FuncId} {xs:List AV} {vs:List Value} (h:Go.Abs.Pure Tryz.prog f xs (.bool true)) (w:World) (hv:RelL (E0 (oldB w)) w xs vs) :
    Calls Tryz.prog f vs.toArray w fun e w'=>e=.returned (.bool true)∧Below w.heap.size w w':=by
  refine (h.2 (oldB w) w vs (fun _ h=>h) hv).mono ?_
  rintro e w' ⟨v,imm',rfl,hb,_,_,_,hr⟩
  cases hr
  exact ⟨rfl,hb⟩
theorem laid:laidOutB Tryz.prog=true:=by kernel_rfl
end Go.Proofs.YtbiikomnhkbblaaGreat
namespace Go.Proofs.YtbiikomnhkbblaaGreat
open Go Go.Abs Go.RowKit Go.ChangeShapes Go.WideShapes Go.ChangeAt
theorem post_of_below {H:Type} {enc:TypeId × Value→H} {P:Program} {f:Func} {s:ChangeSpec} {apart fresh handsOn again:Bool} {W W':World} {args:Array Value} {v:Value} {ds gs:List (DataW H)} {before pa pv:List MemPlace}
    (hW:DataW.Whole enc P f.params.toList s.vars apart W args.toList ds gs before)
    (hres:∀ (b:Nat) (sp:Nat→Bool) (hd:Bool),DataW.TrodAll enc P W' b sp hd f.resultTypes.toList (v.resultList f.resultTypes.size) (s.fn H (ds ++ gs)).results [])
    (hargs:∀ sp:Nat→Bool,(∀ p ∈ before,sp p.block=true)→DataW.TrodAll enc P W' 0 sp true f.params.toList args.toList (s.fn H (ds ++ gs)).args pa)
    (hvars:∀ sp:Nat→Bool,(∀ p ∈ before,sp p.block=true)→DataW.TrodVars enc P W' sp s.vars (s.fn H (ds ++ gs)).vars pv)
    (hps:before=pa ++ pv) (hb:Below W.heap.size W W')
    (hok:∀ (j:Nat) (t:TypeId) (r:Value),f.resultTypes[j]?=some t→(v.resultList f.resultTypes.size)[j]?=some r→Value.okWide P W' .any 0 t r) :
    s.post enc P f apart fresh handsOn again W args v W':=by
  have hold:∀ p ∈ before,(fun b=>decide (b < W.heap.size)) p.block=true:=fun p hp=>by simpa using hW.lt p hp
  have hlt:=fun p hp=>hW.lt p hp
  refine ⟨ds,gs,before,[],pa,pv,hW,hres _ _ _,hargs _ hold,hvars _ hold,World.keptBut_mono (fun p hp=>⟨hp,?_⟩) (hb.frame _),fun _=>?_⟩
  · rw [hps,List.mem_append] at hp
    exact Or.inr hp
  · obtain ⟨_,_,_,_,_,hz,hn⟩:=hW
    refine ⟨hok,_,_,([] ++ pa) ++ pv,⟨[] ++ pa,pv,trodAll_append (hargs _ (fun _ _=>rfl)) (hres _ _ _),hvars _ (fun _ _=>rfl),rfl,?_,?_⟩,?_⟩
    · intro b off hp
      have hp':MemPlace.cell b off ∈ before:=by rw [hps]; simpa using hp
      rw [hb.frozen (hlt _ hp')]
      exact hz b off hp'
    · intro ha
      have:=hn ha
      rw [hps] at this
      simpa using this
    · intro p hp _
      rw [hps]
      simpa using hp
theorem relL_nil {E:Env} {w:World}:RelL E w [] []:=⟨rfl,fun i x y h=>(by cases h)⟩
theorem relL_cons {E:Env} {w:World} {x:AV} {y:Value} {xs:List AV} {ys:List Value} (h:Rel E w x y) (hs:RelL E w xs ys):RelL E w (x :: xs) (y :: ys):=by
  refine ⟨by simp [hs.1],fun i a b ha hb=>?_⟩
  cases i with
  | zero=>simp at ha hb; subst ha hb; exact h
  | succ i=>simp at ha hb; exact hs.2 i a b ha hb
theorem own:ownKnob Tryz.prog.godebug=none:=by kernel_rfl
end Go.Proofs.YtbiikomnhkbblaaGreat
namespace Go.Proofs.YtbiikomnhkbblaaGreat
open Go Go.Abs
open Nat (reduceEqDiff reduceAdd reduceLeDiff)
theorem asrc_three {H:Hp} {d:Nat} {x y z:AV}:asrc 3 (hupd H d [x,y,z]) (.msl d 3 3 0 1)=some (1,[x,y,z]):=asrc_msl (n:=3) (len:=1) (off:=0) (cs:=[x,y,z]) hupd_self' rfl (by simp)
def pickC (t:TaskV) (i:Int):CaseV:=t.cases.getD i.toNat default
theorem encC_dat (c:CaseV):Dat (encC c):=Dat.agg (DatL.cons (encV_dat _) (DatL.cons (encVV_dat _) (DatL.cons (encVV_dat _) DatL.nil)))
attribute [local irreducible] awp2 aops2 ains aloop athen bbind obind gbind acond res1 Go.Abs.Fn PCall Go.Abs.Pure SnapArgs SnapL Yl
end Go.Proofs.YtbiikomnhkbblaaGreat
namespace Go.Proofs.YtbiikomnhkbblaaGreat
open Go Go.Abs
open Nat (reduceEqDiff reduceAdd reduceLeDiff)
section
variable {t:TaskV} {S:List Nat} (hc:checkE t=0) (hp:S.Pairwise (· < ·)) (hS:∀ i ∈ S,i < t.cases.length)
theorem check_parts (h:checkE t=0):(¬ (t.n < 1 ∨ 5 < t.n ∨ t.ins < 1 ∨ 8 < t.ins ∨ t.outs < 1 ∨ 8 < t.outs))∧(1 ≤ t.cases.length∧t.cases.length ≤ 1024)∧∀ k,k < t.cases.length→vectorE (t.cases.getD k default).inp t.n t.ins=0∧vectorsE t.n t.outs (t.cases.getD k default)=0:=by
  unfold checkE at h
  split at h
  · omega
  · rename_i h1
    split at h
    · omega
    · rename_i h2
      refine ⟨h1,by omega,fun k hk=>?_⟩
      have h3:=firstI_all h k hk
      unfold caseE at h3
      split at h3
      · exact absurd h3 ‹_›
      · rename_i h4
        split at h3
        · omega
        · exact ⟨Decidable.byContradiction fun x=>h4 x,h3⟩
include hc in
theorem inp_inj {i j:Nat} (hi:i < t.cases.length) (hj:j < t.cases.length) (h:(t.cases.getD i default).inp=(t.cases.getD j default).inp):i=j:=by
  rcases Nat.lt_trichotomy i j with hl | rfl | hl
  · have:=checkE_asc hc j i hl hj
    rw [h,order_refl] at this; omega
  · rfl
  · have:=checkE_asc hc i j hl hi
    rw [h,order_refl] at this; omega
end
def selB (w:Int) (i:Nat):Bool:=decide (IntKind.wrap .u16 ((BitVec.ofInt 16 (w.fdiv (2 ^ (min (i % 16) 16))) &&& BitVec.ofInt 16 1).toNat:Int)=1)
def sm (w:Int) (k:Nat):List Nat:=(List.range k).filter (selB w)
attribute [local irreducible] awp2 aops2 ains aloop athen bbind obind gbind acond res1 Go.Abs.Fn PCall Go.Abs.Pure SnapArgs SnapL Yl
theorem orderRR (a:List Int) (ha:Sh a):Pure Tryz.prog 61 [encV a,encV a] (.int .i64 0):=by
  have:=orderR a a ha ha
  rwa [order_refl] at this
theorem sameVs_r (a:List (List Int)) (ha:Sh a) (hs:∀ x ∈ a,Sh x):Pure Tryz.prog 20 [encVV a,encVV a] (.bool true):=by
  refine Pure.of_c2 follows is20 (Nat.le_of_ble_eq_true rfl) ?_
  simp only [b20,cO,cG,cN,cM,cD,cF,cB,cFal,cTru]
  (have zz:=and_self; repeat' (first | apply w_seq | apply w_ops0 | apply w_block | apply w_skip | apply a_n | apply o_nil | refine vZ ?_ | (refine cdZ ?_ ?_ <;> (intro _hg; (try simp only [ZB] at _hg); try first | exact absurd trivial _hg | (exfalso; omega))) | apply w_loop | fail)) <;> (try clear zz)
  refine loop0 (X:=Nat) (fun k=>[(0,encVV a),(1,encVV a),(5,.int .i64 k)]) (fun k=>k ≤ a.length) (fun k=>a.length - k) 0 (Nat.zero_le _) ag0 ?_
  rintro k h1
  (have zz:=and_self; repeat' (first | apply w_seq | apply w_ops0 | apply w_mixS1 | apply w_block | apply w_skip | apply w_exit | apply w_ret | apply a_n | apply a_x | apply o_nil | refine vZ ?_ | refine cZ ?_ (hp:=by exact orderRR _ (hs _ (mem_getD (by omega)))) | (refine cdZ ?_ ?_ <;> (intro _hg; (try simp only [ZB] at _hg); try first | exact absurd trivial _hg | (exfalso; omega))) | refine e_ends rfl ?_ | refine r1Z ?_ | fail)) <;> (try clear zz)
  · refine ⟨k + 1,by omega,by omega,ag0,rfl,rfl⟩
  · exact .bool _
theorem same_r (t:TaskV) (h1:Sh t.cases) (h2:∀ c ∈ t.cases,ShC c):Pure Tryz.prog 28 [encT t,encT t] (.bool true):=by
  refine Pure.of_c2 follows is28 (Nat.le_of_ble_eq_true rfl) ?_
  simp only [b28,cO,cG,cN,cM,cD,cF,cB,cFal,cTru]
  (have zz:=aI @encT_cells (aI @encCs_one (aI @encCs_cells @alenS_encCs)); repeat' (first | apply w_seq | apply w_ops0 | apply w_block | apply w_skip | apply a_n | apply o_nil | refine vZ ?_ | refine bxZ ?_ | refine gTZ ?_ | ((first | refine gBZ ?_ ?_ | refine cdZ ?_ ?_) <;> (intro _hg; (try simp only [ZB] at _hg); try first | exact absurd trivial _hg | (exfalso; omega))) | apply w_loop | fail)) <;> (try clear zz)
  refine loopI (X:=Nat) (fun k=>[(2,.ptr 0 4 0),(3,.ptr 1 4 0),(5,.int .i64 k)]) (fun k H nx=>k ≤ t.cases.length∧2 ≤ nx∧H 0=some [.int .i64 t.n,.int .i64 t.ins,.int .i64 t.outs,encCs t.cases]∧H 1=some [.int .i64 t.n,.int .i64 t.ins,.int .i64 t.outs,encCs t.cases]) (fun k=>t.cases.length - k) 0 ⟨Nat.zero_le _,Nat.le_refl _,rfl,rfl⟩ (by simp (disch:=omega) only [agr,ZG,reduceEqDiff,↓reduceIte,List.length_cons,List.length_nil,reduceAdd,Nat.zero_add]) ?_
  rintro k H nx ⟨hk,hn,g0,g1⟩
  by_cases hj:k < t.cases.length
  · obtain ⟨s1,s2,s3,s4,s5⟩:=h2 _ (mem_getD hj)
    (have zz:=aI @g0 (aI @g1 (aI @encCs_one (aI @encCs_cells (aI @alenS_encCs @aixS_encCs)))); repeat' (first | apply w_seq | apply w_ops0 | apply w_ops2 | apply w_block | apply w_skip | apply a_n | apply o_nil | refine vY ?_ | refine cY ?_ (hp:=by first | exact orderRR _ s1 | exact sameVs_r _ s2 s3 | exact sameVs_r _ s4 s5) | refine alY ?_ | refine stY ?_ | refine gTY ?_ | refine cFY ?_ | ((first | refine gBY ?_ ?_ | refine cdY ?_ ?_) <;> (intro _hg; (try simp only [ZB] at _hg); try first | exact absurd trivial _hg | (exfalso; omega))) | fail)) <;> (try clear zz)
    refine ⟨k + 1,by omega,⟨by omega,by omega,?_,?_⟩,ag0⟩
    · rw [hupd_ne (by omega),hupd_ne (by omega),hupd_ne (by omega),hupd_ne (by omega),g0]
    · rw [hupd_ne (by omega),hupd_ne (by omega),hupd_ne (by omega),hupd_ne (by omega),g1]
  · (have zz:=aI @g0 (aI @g1 (aI @encCs_one (aI @encCs_cells (aI @alenS_encCs @aixS_encCs)))); repeat' (first | apply w_seq | apply w_ops0 | apply w_exit | apply w_ret | apply a_n | apply a_x | apply o_nil | refine vY ?_ | (refine cdY ?_ ?_ <;> (intro _hg; (try simp only [ZB] at _hg); try first | exact absurd trivial _hg | (exfalso; omega))) | refine e_ends rfl ?_ | refine r1Y ?_ | fail)) <;> (try clear zz)
    exact .bool _
end Go.Proofs.YtbiikomnhkbblaaGreat
namespace Go.Proofs.YtbiikomnhkbblaaGreat
open Go Go.Abs
open Nat (reduceEqDiff reduceAdd reduceLeDiff)
def placeE (t:TaskV) (i f:Int):Int:=if checkE t ≠ 0 then checkE t else if i < 0 ∨ (t.cases.length:Int) ≤ i then 6 else if f < 0 ∨ ((2 ^ t.n.toNat:Nat):Int) ≤ f then 2 else 0
theorem checkE_n {t:TaskV} (h:checkE t=0):1 ≤ t.n∧t.n ≤ 5:=by
  unfold checkE at h
  by_cases c:t.n < 1 ∨ 5 < t.n ∨ t.ins < 1 ∨ 8 < t.ins ∨ t.outs < 1 ∨ 8 < t.outs
  · rw [if_pos c] at h; exact absurd h (by decide)
  · omega
attribute [local irreducible] awp2 aops2 ains aloop athen bbind obind gbind acond res1 Go.Abs.Fn PCall Go.Abs.Pure SnapArgs SnapL Yl
theorem place_c (t:TaskV) (i f:Int) (hs:∀ c ∈ t.cases,ShC c) (hsc:Sh t.cases):Pure Tryz.prog 51 [encT t,.int .i64 i,.int .i64 f] (.int .i64 (placeE t i f)):=by
  refine Pure.of_c2 follows is51 (Nat.le_of_ble_eq_true rfl) ?_
  simp only [b51,cO,cG,cN,cM,cD,cF,cB,cFal,cTru]
  have hsc':t.cases.length ≤ 17592186044416:=hsc
  have hc:=check_c t hs hsc
  have d2:=encT_dat t
  by_cases he:checkE t=0
  rotate_left
  · have e:placeE t i f=checkE t:=by unfold placeE; rw [if_pos he]
    rw [e]
    generalize checkE t=C at *
    unfold encT at hc d2
    rw [show encT t=.agg [.int .i64 t.n,.int .i64 t.ins,.int .i64 t.outs,encCs t.cases] from rfl]
    (have zz:=aI @encCs_one (aI @encCs_cells @alenS_encCs); repeat' (first | apply w_seq | apply w_ops0 | apply w_ret | apply a_n | apply a_r | apply o_nil | refine vZ ?_ | refine cZ ?_ (hp:=hc) | refine bxZ ?_ | (refine cdZ ?_ ?_ <;> (intro _hg; (try simp only [ZB] at _hg); try first | exact absurd trivial _hg | (exfalso; omega))) | refine e_ends rfl ?_ | refine r1Z ?_ | fail)) <;> (try clear zz)
    exact snap_int rfl
  obtain ⟨n1,n5⟩:=checkE_n he
  obtain ⟨nn,hnn⟩:∃ nn:Nat,t.n=nn:=⟨t.n.toNat,by omega⟩
  have sh:abin2 .shl false false (.int .i64 1) (.int .i64 t.n)=some (.int .i64 ((2 ^ t.n.toNat:Nat):Int)):=by
    have h2:2 ^ nn ≤ 2 ^ 5:=Nat.pow_le_pow_right (by omega) (by omega)
    have h:=shl_nat (k:=.i64) (k':=.i64) (a:=1) (b:=nn) (tb:=false) (tf:=false) (by show nn ≤ 64; omega) (by show 1 * 2 ^ nn < 2 ^ 63; omega)
    rw [Nat.one_mul] at h
    rw [hnn]
    exact h
  have e:placeE t i f=if i < 0 ∨ (t.cases.length:Int) ≤ i then 6 else if f < 0 ∨ ((2 ^ t.n.toNat:Nat):Int) ≤ f then 2 else 0:=by unfold placeE; rw [if_neg (fun h=>h he)]
  rw [e]
  rw [he] at hc
  generalize ((2 ^ t.n.toNat:Nat):Int)=W at *
  unfold encT at hc d2
  rw [show encT t=.agg [.int .i64 t.n,.int .i64 t.ins,.int .i64 t.outs,encCs t.cases] from rfl]
  by_cases h1:i < 0 ∨ (t.cases.length:Int) ≤ i
  · rw [if_pos h1]
    (have zz:=aI @encCs_one (aI @encCs_cells (aI @alenS_encCs @sh)); repeat' (first | apply w_seq | apply w_ops0 | apply w_block | apply w_skip | apply w_ret | apply a_n | apply a_r | apply o_nil | refine vZ ?_ | refine cZ ?_ (hp:=hc) | refine bxZ ?_ | refine gTZ ?_ | refine gFZ ?_ | refine cTZ ?_ | ((first | refine gBZ ?_ ?_ | refine cdZ ?_ ?_) <;> (intro _hg; (try simp only [ZB] at _hg); try first | exact absurd trivial _hg | (exfalso; omega))) | refine e_ends rfl ?_ | refine r1Z ?_ | fail)) <;> (try clear zz)
    all_goals exact snap_int rfl
  · rw [if_neg h1]
    by_cases h2:f < 0 ∨ W ≤ f
    · rw [if_pos h2]
      (have zz:=aI @encCs_one (aI @encCs_cells (aI @alenS_encCs @sh)); repeat' (first | apply w_seq | apply w_ops0 | apply w_block | apply w_skip | apply w_ret | apply a_n | apply a_r | apply o_nil | refine vZ ?_ | refine cZ ?_ (hp:=hc) | refine bxZ ?_ | refine gTZ ?_ | refine gFZ ?_ | refine cTZ ?_ | ((first | refine gBZ ?_ ?_ | refine cdZ ?_ ?_) <;> (intro _hg; (try simp only [ZB] at _hg); try first | exact absurd trivial _hg | (exfalso; omega))) | refine e_ends rfl ?_ | refine r1Z ?_ | fail)) <;> (try clear zz)
      all_goals exact snap_int rfl
    · rw [if_neg h2]
      (have zz:=aI @encCs_one (aI @encCs_cells (aI @alenS_encCs @sh)); repeat' (first | apply w_seq | apply w_ops0 | apply w_block | apply w_skip | apply w_ret | apply a_n | apply o_nil | refine vZ ?_ | refine cZ ?_ (hp:=hc) | refine bxZ ?_ | refine gTZ ?_ | ((first | refine gBZ ?_ ?_ | refine cdZ ?_ ?_) <;> (intro _hg; (try simp only [ZB] at _hg); try first | exact absurd trivial _hg | (exfalso; omega))) | refine e_ends rfl ?_ | refine r1Z ?_ | fail)) <;> (try clear zz)
      all_goals exact snap_int rfl
end Go.Proofs.YtbiikomnhkbblaaGreat
namespace Go.Proofs.YtbiikomnhkbblaaGreat
open Go Go.Abs
theorem placeE_0 {t:TaskV} {i f:Int} (h:placeE t i f=0):checkE t=0∧0 ≤ i∧i < t.cases.length∧0 ≤ f:=by
  unfold placeE at h
  by_cases c:checkE t=0
  · rw [if_neg (fun k=>k c)] at h
    by_cases c1:i < 0 ∨ (t.cases.length:Int) ≤ i
    · rw [if_pos c1] at h; exact absurd h (by decide)
    · rw [if_neg c1] at h
      by_cases c2:f < 0 ∨ ((2 ^ t.n.toNat:Nat):Int) ≤ f
      · rw [if_pos c2] at h; exact absurd h (by decide)
      · exact ⟨c,by omega,by omega,by omega⟩
  · rw [if_pos c] at h; exact absurd h c
attribute [local irreducible] awp2 aops2 ains aloop athen bbind obind gbind acond res1 Go.Abs.Fn PCall Go.Abs.Pure SnapArgs SnapL Yl
theorem and1_nat {a:Nat}:and1 (a:Int)=((a % 2:Nat):Int):=by
  have h:(BitVec.ofInt 64 (a:Int) &&& BitVec.ofInt 64 1).toNat=a % 2:=by
    rw [BitVec.toNat_and]
    have e:(BitVec.ofInt 64 1).toNat=2 ^ 1 - 1:=rfl
    rw [e,Nat.and_two_pow_sub_one_eq_mod]
    simp [BitVec.toNat_ofInt]
  unfold and1
  rw [h,wrap64 (by omega) (by omega)]
end Go.Proofs.YtbiikomnhkbblaaGreat
namespace Go.Proofs.YtbiikomnhkbblaaGreat
open Go Go.Abs
open Nat (reduceEqDiff reduceAdd reduceLeDiff)
theorem vectorE_0 {v:List Int} {n most:Int} (h:vectorE v n most=0):(v.length:Int)=n∧∀ x ∈ v,0 ≤ x∧x < most:=by
  unfold vectorE at h
  by_cases c:(v.length:Int) ≠ n
  · rw [if_pos c] at h; exact absurd h (by decide)
  · rw [if_neg c] at h
    refine ⟨by omega,fun x hx=>?_⟩
    by_cases c2:v.any (fun x=>decide (x < 0 ∨ most ≤ x))=true
    · rw [if_pos c2] at h; exact absurd h (by decide)
    · rw [Bool.not_eq_true,List.any_eq_false] at c2
      have:=c2 x hx
      simp only [decide_eq_true_eq] at this
      omega
theorem case_vecs {t:TaskV} {k:Nat} (h:checkE t=0) (hk:k < t.cases.length) :
    (1 ≤ (t.cases.getD k default).out.length)∧(∀ v ∈ (t.cases.getD k default).out,(v.length:Int)=t.n∧∀ x ∈ v,0 ≤ x∧x < t.outs)∧(∀ v ∈ (t.cases.getD k default).calm,v ∈ (t.cases.getD k default).out):=by
  have h0:=((check_parts h).2.2 k hk).2
  generalize t.cases.getD k default=c at *
  unfold vectorsE at h0
  split at h0
  · exact absurd h0 (by decide)
  split at h0
  · exact absurd h0 ‹_›
  rename_i g1 g2
  have o0:=firstI_all (Decidable.of_not_not g2)
  have c0:=firstI_all h0
  refine ⟨by omega,fun v hv=>?_,fun v hv=>?_⟩
  · obtain ⟨j,hj,rfl⟩:=List.getElem_of_mem hv
    have:=o0 j hj
    unfold outE at this
    split at this
    · exact absurd this ‹_›
    · rename_i g3
      have e:=vectorE_0 (Decidable.of_not_not g3)
      simpa [List.getD,hj] using e
  · obtain ⟨j,hj,rfl⟩:=List.getElem_of_mem hv
    have:=c0 j hj
    unfold calmE at this
    split at this
    · rename_i g3; simpa [List.getD,hj] using g3
    · exact absurd this (by decide)
theorem allow_vecs {t:TaskV} {k:Nat} {f:Int} (h:checkE t=0) (hk:k < t.cases.length):(1 ≤ (allowV (t.cases.getD k default) f).length)∧∀ v ∈ allowV (t.cases.getD k default) f,(v.length:Int)=t.n∧∀ x ∈ v,0 ≤ x∧x < t.outs:=by
  obtain ⟨h1,h2,h3⟩:=case_vecs h hk
  unfold allowV
  split
  · rename_i g; exact ⟨by omega,fun v hv=>h2 v (h3 v hv)⟩
  · exact ⟨h1,h2⟩
def permT (t:TaskV) (i f:Int) (outs:List Int):Bool × Int:=if placeE t i f ≠ 0 then (false,placeE t i f) else if (outs.length:Int) ≠ t.n then (false,15) else if outs.any (fun x=>decide (x < -1 ∨ t.outs ≤ x)) then (false,2) else ((allowV (pickC t i) f).any (fun v=>agreesB v outs f),0)
attribute [local irreducible] awp2 aops2 ains aloop athen bbind obind gbind acond res1 Go.Abs.Fn PCall Go.Abs.Pure SnapArgs SnapL Yl
theorem permitted_c (t:TaskV) (i f:Int) (outs:List Int) (hs:∀ c ∈ t.cases,ShC c) (hsc:Sh t.cases) (ho:Sh outs):Pure Tryz.prog 18 [encT t,.int .i64 i,.int .i64 f,encV outs] (.tup [.bool (permT t i f outs).1,.int .i64 (permT t i f outs).2]):=by
  refine Pure.of_c2 follows is18 (Nat.le_of_ble_eq_true rfl) ?_
  simp only [b18,cO,cG,cN,cM,cD,cF,cB,cFal,cTru]
  have hsc':t.cases.length ≤ 17592186044416:=hsc
  have ho':outs.length ≤ 17592186044416:=ho
  have hc:=place_c t i f hs hsc
  have d2:=encT_dat t
  have dT:Dat (encCs t.cases):=encCs_dat _
  by_cases he:placeE t i f=0
  rotate_left
  · have e:permT t i f outs=(false,placeE t i f):=by unfold permT; rw [if_pos he]
    rw [e]
    generalize placeE t i f=C at *
    unfold encT at hc d2
    rw [show encT t=.agg [.int .i64 t.n,.int .i64 t.ins,.int .i64 t.outs,encCs t.cases] from rfl]
    (have zz:=aI @encCs_one (aI @encCs_cells @alenS_encCs); repeat' (first | apply w_seq | apply w_ops0 | apply w_ret | apply a_n | apply a_r | apply o_nil | refine vZ ?_ | refine cZ ?_ (hp:=hc) | refine bxZ ?_ | (refine cdZ ?_ ?_ <;> (intro _hg; (try simp only [ZB] at _hg); try first | exact absurd trivial _hg | (exfalso; omega))) | refine e_ends rfl ?_ | refine r2Z ?_ | fail)) <;> (try clear zz)
    exact snap_tup (snapL_cons (.bool _) (snapL_cons (.int _ _) snapL_nil))
  obtain ⟨e0,e1,e2,e3⟩:=placeE_0 he
  obtain ⟨k,rfl⟩:∃ k:Nat,i=k:=⟨i.toNat,by omega⟩
  have hk:k < t.cases.length:=by omega
  have hm:=mem_getD hk
  have e:permT t k f outs=if (outs.length:Int) ≠ t.n then (false,15) else if outs.any (fun x=>decide (x < -1 ∨ t.outs ≤ x)) then (false,2) else ((allowV (t.cases.getD k default) f).any (fun v=>agreesB v outs f),0):=by unfold permT; rw [if_neg (fun h=>h he)]; rfl
  rw [e]
  rw [he] at hc
  have ix:=aixS_encCs hk
  have hav:=(allow_vecs (f:=f) e0 hk).2
  obtain ⟨s1,s2,s3,s4,s5⟩:=hs _ hm
  by_cases hn:(outs.length:Int) ≠ t.n
  · rw [if_pos hn]
    unfold encT at hc d2
    rw [show encT t=.agg [.int .i64 t.n,.int .i64 t.ins,.int .i64 t.outs,encCs t.cases] from rfl]
    (have zz:=aI @encCs_one (aI @encCs_cells @alenS_encCs); repeat' (first | apply w_seq | apply w_ops0 | apply w_skip | apply w_ret | apply a_n | apply a_r | apply o_nil | refine vZ ?_ | refine cZ ?_ (hp:=hc) | refine bxZ ?_ | (refine cdZ ?_ ?_ <;> (intro _hg; (try simp only [ZB] at _hg); try first | exact absurd trivial _hg | (exfalso; omega))) | refine e_ends rfl ?_ | refine r2Z ?_ | fail)) <;> (try clear zz)
    exact snap_tup (snapL_cons (.bool _) (snapL_cons (.int _ _) snapL_nil))
  rw [if_neg hn]
  have hA:=containsF_c outs (fun x=>decide (x < -1 ∨ t.outs ≤ x)) 57 [.iptr [.int .i64 t.n,.int .i64 t.ins,.int .i64 t.outs,encCs t.cases] 0] (fun x hx=>by
    simp only [List.mem_singleton] at hx; subst hx
    exact .iptr (DatL.cons .int (DatL.cons .int (DatL.cons .int (DatL.cons dT DatL.nil))))) (fun x _=>permitted1_c x t) ho
  generalize t.cases.getD k default=c at *
  have sA:Sh (allowV c f)∧∀ v ∈ allowV c f,Sh v:=by
    unfold allowV
    split
    · exact ⟨s4,s5⟩
    · exact ⟨s2,s3⟩
  have hB:=containsFV_c (allowV c f) (fun v=>agreesB v outs f) 58 [.iptr [encV outs] 0,.iptr [.int .i64 f] 0] (fun x hx=>by
    simp only [List.mem_cons,List.not_mem_nil,or_false] at hx
    rcases hx with rfl | rfl
    · exact .iptr (DatL.cons (encV_dat _) DatL.nil)
    · exact .iptr (DatL.cons .int DatL.nil)) (fun v hv=>permitted2_c v outs f (sA.2 v hv) ho (by have:=(hav v hv).1; omega)) sA.1
  have ha2:Pure Tryz.prog 53 [.agg [encV c.inp,encVV c.out,encVV c.calm],.int .i64 f] (encVV (allowV c f)):=allowed_c c f
  have d3:Dat (.agg [encV c.inp,encVV c.out,encVV c.calm]):=encC_dat c
  have hn:(outs.length:Int)=t.n:=Decidable.of_not_not hn
  clear hav hm hs
  unfold encT at hc d2
  rw [show encT t=.agg [.int .i64 t.n,.int .i64 t.ins,.int .i64 t.outs,encCs t.cases] from rfl]
  (have zz:=aI @encCs_one (aI @encCs_cells (aI @alenS_encCs @ix)); repeat' (first | apply w_seq | apply w_ops0 | apply w_skip | apply a_n | apply o_nil | refine vZ ?_ | refine cZ ?_ (hp:=by first | exact hc | exact ha2) | refine bxZ ?_ | (refine cdZ ?_ ?_ <;> (intro _hg; (try simp only [ZB] at _hg); try first | exact absurd trivial _hg | (exfalso; omega))) | fail)) <;> (try clear zz)
  refine o_callP ev0 ev0 hA (snap_plain (by (repeat' (first | exact snapL_nil | exact Dat.snap Dat.int | exact Dat.snap Dat.bool | exact Dat.snap Dat.str | exact Dat.snap Dat.esl | exact Dat.snap Dat.nilf | exact Dat.snap (encV_dat _) | exact Dat.snap (encVV_dat _) | exact Dat.snap dT | apply snapL_cons | apply snap_func | apply snap_iptr | (apply snap_ptr; (focus ((try simp only [simB0,ZA,reduceEqDiff,↓reduceIte,reduceAdd,reduceLeDiff]); with_reducible rfl)); (focus rfl))))) rfl) ?_
  cases hb:outs.any (fun x=>decide (x < -1 ∨ t.outs ≤ x))
  · (have zz:=aI @encCs_one (aI @encCs_cells (aI @alenS_encCs (aI @ix @Bool.false_eq_true))); repeat' (first | apply w_seq | apply w_mixS1 | apply w_skip | apply a_n | apply o_nil | refine vZ ?_ | refine cZ ?_ (hp:=by first | exact hc | exact ha2) | refine cFZ ?_ | fail)) <;> (try clear zz)
    refine o_callP ev0 ev0 hB (snap_plain (by (repeat' (first | exact snapL_nil | exact Dat.snap Dat.int | exact Dat.snap Dat.bool | exact Dat.snap Dat.str | exact Dat.snap Dat.esl | exact Dat.snap Dat.nilf | exact Dat.snap (encV_dat _) | exact Dat.snap (encVV_dat _) | apply snapL_cons | apply snap_func | apply snap_iptr | (apply snap_ptr; (focus ((try simp only [simB0,ZA,reduceEqDiff,↓reduceIte,reduceAdd,reduceLeDiff]); with_reducible rfl)); (focus rfl))))) rfl) ?_
    (have zz:=and_self; repeat' (first | apply w_ret | apply a_n | apply o_nil | refine vZ ?_ | refine e_ends rfl ?_ | refine r2Z ?_ | fail)) <;> (try clear zz)
    exact snap_tup (snapL_cons (.bool _) (snapL_cons (.int _ _) snapL_nil))
  · (have zz:=aI @encCs_one (aI @encCs_cells (aI @alenS_encCs @ix)); repeat' (first | apply w_seq | apply w_ops0 | apply w_ret | apply a_n | apply a_r | apply o_nil | refine vZ ?_ | refine cTZ ?_ | refine e_ends rfl ?_ | refine r2Z ?_ | fail)) <;> (try clear zz)
    exact snap_tup (snapL_cons (.bool _) (snapL_cons (.int _ _) snapL_nil))
end Go.Proofs.YtbiikomnhkbblaaGreat
namespace Go.Proofs.YtbiikomnhkbblaaGreat
open Go Go.Abs
open Nat (reduceEqDiff reduceAdd reduceLeDiff)
attribute [local irreducible] awp2 aops2 ains aloop athen bbind obind gbind acond res1 Go.Abs.Fn PCall Go.Abs.Pure SnapArgs SnapL Yl
def dd (l:List Int):Nat→List Int
  | 0=>[]
  | k + 1=>dd l k ++ if k=0 ∨ l.getD k default ≠ l.getD (k - 1) default then [l.getD k default] else []
end Go.Proofs.YtbiikomnhkbblaaGreat
namespace Go.Proofs.YtbiikomnhkbblaaGreat
open Go Go.Abs
open Nat (reduceEqDiff reduceAdd reduceLeDiff)
def inV (l:List (List Int)) (p v:Nat):Bool:=l.any fun w=>decide (w.getD p default=(v:Int))
def vals (l:List (List Int)) (p o:Nat):List Int:=((List.range o).filter (inV l p)).map Int.ofNat
attribute [local irreducible] awp2 aops2 ains aloop athen bbind obind gbind acond res1 Go.Abs.Fn PCall Go.Abs.Pure SnapArgs SnapL Yl
end Go.Proofs.YtbiikomnhkbblaaGreat
namespace Go.Proofs.YtbiikomnhkbblaaGreat
open Go Go.Abs
attribute [local irreducible] awp2 aops2 ains aloop athen bbind obind gbind acond res1 Go.Abs.Fn PCall Go.Abs.Pure SnapArgs SnapL Yl
end Go.Proofs.YtbiikomnhkbblaaGreat
namespace Go.Proofs.YtbiikomnhkbblaaGreat
open Go Go.Abs
attribute [local irreducible] awp2 aops2 ains aloop athen bbind obind gbind acond res1 Go.Abs.Fn PCall Go.Abs.Pure SnapArgs SnapL Yl
end Go.Proofs.YtbiikomnhkbblaaGreat
namespace Go.Proofs.YtbiikomnhkbblaaGreat
open Go Go.Abs
structure PlaceV where
  index:Int
  faulty:Int
  proc:Int
  outs:List Int
def encP (x:PlaceV):AV:=.agg [.int .i64 x.index,.int .i64 x.faulty,.int .i64 x.proc,encV x.outs]
theorem few_q {t:TaskV} (hf:fewT t=true):t.cases.length ≤ 30∧∀ c ∈ t.cases,c.out.length ≤ 100000∧c.calm.length ≤ 100000:=by
  unfold fewT at hf
  rw [Bool.and_eq_true,decide_eq_true_iff,List.all_eq_true] at hf
  refine ⟨hf.1,fun c hc=>?_⟩
  have:=hf.2 c hc
  unfold fewC fewVs at this
  simp only [Bool.and_eq_true,decide_eq_true_iff] at this
  omega
attribute [local irreducible] awp2 aops2 ains aloop athen bbind obind gbind acond res1 Go.Abs.Fn PCall Go.Abs.Pure SnapArgs SnapL Yl
end Go.Proofs.YtbiikomnhkbblaaGreat
namespace Go.Proofs.YtbiikomnhkbblaaGreat
open Go Go.Abs Go.RowKit
section
variable {H:Type} {enc:TypeId × Value→H} {W:World}
theorem oPlace:Opens enc Tryz.prog W 37 encP (fun x=>Sh x.outs) :=
  (opens_struct Tryz.underlying37 (by kernel_rfl) (opensF_cons (off:=0) (off':=1) rfl (by kernel_rfl) oi (opensF_cons (off:=1) (off':=2) rfl (by kernel_rfl) oi (opensF_cons (off:=2) (off':=3) rfl (by kernel_rfl) oi (opensF_cons (off:=3) (off':=4) rfl (by kernel_rfl) oL1 opensF_nil))))).map
    (fun a=>(⟨a.1,a.2.1,a.2.2.1,a.2.2.2.1⟩:PlaceV)) (by
      rintro ⟨n,i,o,c,u⟩ ⟨_,_,_,h,_⟩
      exact h) (fun _ _=>rfl)
end
end Go.Proofs.YtbiikomnhkbblaaGreat
namespace Go.Proofs.YtbiikomnhkbblaaGreat
open Go Go.Abs
open Nat (reduceEqDiff reduceAdd reduceLeDiff)
theorem shr_bits {m p:Nat} (hp:p ≤ 60):shrN (m:Int) p=((m / 2 ^ p:Nat):Int):=by
  unfold shrN
  rw [Nat.min_eq_left (by omega),Int.fdiv_eq_ediv_of_nonneg _ (Int.le_of_lt (Int.pow_pos (by omega)))]
  simp
theorem and1_bits {m p:Nat} (hp:p ≤ 60):and1 (shrN (m:Int) p)=if m.testBit p then 1 else 0:=by
  rw [shr_bits hp,and1_nat]
  have h:=Nat.testBit_eq_decide_div_mod_eq (x:=m) (i:=p)
  by_cases c:m / 2 ^ p % 2=1
  · rw [h,decide_eq_true c,if_pos rfl,c]; rfl
  · rw [h,decide_eq_false c,if_neg (by decide)]
    have:m / 2 ^ p % 2=0:=by omega
    rw [this]; rfl
theorem and1_zero {m p:Nat} (hp:p ≤ 60):decide (and1 (shrN (m:Int) p)=0)=!m.testBit p:=by
  rw [and1_bits hp]; cases m.testBit p <;> rfl
theorem or_nat {tb tf:Bool} {a b:Nat} (ha:a < 2 ^ 62) (hb:b < 2 ^ 62):abin2 .or tb tf (.int .i64 (a:Int)) (.int .i64 (b:Int))=some (.int .i64 ((a ||| b:Nat):Int)):=by
  have h:(BitVec.ofInt 64 (a:Int) ||| BitVec.ofInt 64 (b:Int)).toNat=a ||| b:=by
    rw [BitVec.toNat_or,BitVec.toNat_ofInt,BitVec.toNat_ofInt]
    congr 1 <;> omega
  have hlt:a ||| b < 2 ^ 62:=Nat.or_lt_two_pow ha hb
  show some (AV.int .i64 (IntKind.wrap .i64 ((BitVec.ofInt 64 (a:Int) ||| BitVec.ofInt 64 (b:Int)).toNat:Int)))=_
  rw [h,wrap64 (by omega) (by omega)]
theorem agreesB_iff {v outs:List Int} {m:Nat} (hv:v.length ≤ 60):agreesB v outs (m:Int)=true ↔ ∀ p,p < v.length→m.testBit p=false→outs.getD p default=v.getD p default:=by
  unfold agreesB
  rw [List.all_eq_true]
  constructor
  · intro h p hp hb
    have:=h p (List.mem_range.2 hp)
    rw [and1_zero (by omega),hb] at this
    simpa using this
  · intro h p hp
    have hp:=List.mem_range.1 hp
    rw [and1_zero (by omega)]
    cases hb:m.testBit p
    · simp only [Bool.not_false,Bool.true_and,Bool.not_eq_true',decide_eq_false_iff_not,ne_eq,Decidable.not_not]
      exact h p hp hb
    · rfl
def rightB (t:TaskV) (x:PlaceV):Bool:=fewT t && (decide (checkE t=0) && (decide (0 ≤ x.index∧x.index < t.cases.length∧0 ≤ x.faulty∧x.faulty < ((2 ^ t.n.toNat:Nat):Int)∧(x.outs.length:Int)=t.n) && !(x.outs.any fun v=>decide (v < -1 ∨ t.outs ≤ v))))
theorem rightB_iff {t:TaskV} {x:PlaceV}:rightB t x=true ↔ fewT t=true∧checkE t=0∧(0 ≤ x.index∧x.index < t.cases.length∧0 ≤ x.faulty∧x.faulty < ((2 ^ t.n.toNat:Nat):Int)∧(x.outs.length:Int)=t.n)∧(x.outs.any fun v=>decide (v < -1 ∨ t.outs ≤ v))=false:=by
  unfold rightB
  simp only [Bool.and_eq_true,decide_eq_true_eq,Bool.not_eq_true']
attribute [local irreducible] awp2 aops2 ains aloop athen bbind obind gbind acond res1 Go.Abs.Fn PCall Go.Abs.Pure SnapArgs SnapL Yl
theorem right1_c (v:Int) (t:TaskV):Pure Tryz.prog 72 [.int .i64 v,.iptr [.int .i64 t.n,.int .i64 t.ins,.int .i64 t.outs,encCs t.cases] 0] (.bool (decide (v < -1 ∨ t.outs ≤ v))):=by
  refine Pure.of_c2 follows is72 (Nat.le_of_ble_eq_true rfl) ?_
  simp only [b72,cO,cG,cN,cM,cD,cF,cB,cFal,cTru]
  (have zz:=aI @encCs_one @encCs_cells; repeat' (first | apply w_seq | apply w_ops0 | apply w_ret | apply a_n | apply o_nil | refine vZ ?_ | refine gTZ ?_ | refine gFZ ?_ | (refine gBZ ?_ ?_ <;> (intro _hg; (try simp only [ZB] at _hg); try first | exact absurd trivial _hg | (exfalso; omega))) | refine e_ends rfl ?_ | refine r1Z ?_ | fail)) <;> (try clear zz)
  all_goals (refine snap_bool ?_)
  · exact decide_eq_decide.2 (by omega)
  · rw [decide_eq_true (by omega)]
theorem right_c (t:TaskV) (x:PlaceV) (hs:∀ c ∈ t.cases,ShC c) (hsc:Sh t.cases) (ho:Sh x.outs):Pure Tryz.prog 33 [encT t,encP x] (.bool (rightB t x)):=by
  obtain ⟨i,f,p,outs⟩:=x
  refine Pure.of_c2 follows is33 (Nat.le_of_ble_eq_true rfl) ?_
  simp only [b33,cO,cG,cN,cM,cD,cF,cB,cFal,cTru]
  have ho':outs.length ≤ 17592186044416:=ho
  have hsc':t.cases.length ≤ 17592186044416:=hsc
  have hfw:=fewR t hs hsc
  have hck:=checkR t hs hsc
  have d2:=encT_dat t
  have dT:Dat (encCs t.cases):=encCs_dat _
  unfold encP
  dsimp only
  unfold encT at *
  cases hf:fewT t
  · have e:rightB t ⟨i,f,p,outs⟩=false:=by unfold rightB; rw [hf]; rfl
    rw [hf] at hfw
    rw [e]
    (have zz:=aI @encCs_one @encCs_cells; repeat' (first | apply w_seq | apply w_ops0 | apply w_mixS1 | apply w_ret | apply a_n | apply o_nil | refine vZ ?_ | refine cZ ?_ (hp:=hfw) | refine bxZ ?_ | refine gFZ ?_ | refine e_ends rfl ?_ | refine r1Z ?_ | fail)) <;> (try clear zz)
    exact snap_bool rfl
  rw [hf] at hfw
  by_cases hc:checkE t=0
  rotate_left
  · have e:rightB t ⟨i,f,p,outs⟩=false:=by unfold rightB; rw [decide_eq_false hc,Bool.false_and,Bool.and_false]
    have z:decide (checkE t=0)=false:=decide_eq_false hc
    rw [e]
    generalize checkE t=C at *
    (have zz:=aI @encCs_one (aI @encCs_cells @z); repeat' (first | apply w_seq | apply w_ops0 | apply w_mixS1 | apply w_ret | apply a_n | apply o_nil | refine vZ ?_ | refine cZ ?_ (hp:=by first | exact hfw | exact hck) | refine bxZ ?_ | refine gTZ ?_ | refine gFZ ?_ | refine e_ends rfl ?_ | refine r1Z ?_ | fail)) <;> (try clear zz)
    exact snap_bool rfl
  have e:rightB t ⟨i,f,p,outs⟩=(decide (0 ≤ i∧i < t.cases.length∧0 ≤ f∧f < ((2 ^ t.n.toNat:Nat):Int)∧(outs.length:Int)=t.n) && !(outs.any fun v=>decide (v < -1 ∨ t.outs ≤ v))):=by unfold rightB; rw [hf,decide_eq_true hc]; rfl
  rw [e]
  rw [hc] at hck
  obtain ⟨n1,n5⟩:=checkE_n hc
  have sh:=shl1 false false t.n (by omega) n5
  have hA:=containsF_c outs (fun x=>decide (x < -1 ∨ t.outs ≤ x)) 72 [.iptr [.int .i64 t.n,.int .i64 t.ins,.int .i64 t.outs,encCs t.cases] 0] (fun x hx=>by
    simp only [List.mem_singleton] at hx; subst hx
    exact .iptr (DatL.cons .int (DatL.cons .int (DatL.cons .int (DatL.cons dT DatL.nil))))) (fun x _=>right1_c x t) ho
  generalize ((2 ^ t.n.toNat:Nat):Int)=W at *
  by_cases hI:0 ≤ i∧i < t.cases.length∧0 ≤ f∧f < W∧(outs.length:Int)=t.n
  rotate_left
  · rw [decide_eq_false hI,Bool.false_and]
    (have zz:=aI @encCs_one (aI @encCs_cells (aI @alenS_encCs @sh)); repeat' (first | apply w_seq | apply w_ops0 | apply w_mixS1 | apply w_ret | apply a_n | apply o_nil | refine vZ ?_ | refine cZ ?_ (hp:=by first | exact hfw | exact hck) | refine bxZ ?_ | refine gTZ ?_ | refine gFZ ?_ | (refine gBZ ?_ ?_ <;> (intro _hg; (try simp only [ZB] at _hg); try first | exact absurd trivial _hg | (exfalso; omega))) | refine e_ends rfl ?_ | refine r1Z ?_ | fail)) <;> (try clear zz)
    all_goals exact snap_bool rfl
  rw [decide_eq_true hI,Bool.true_and]
  obtain ⟨i1,i2,i3,i4,i5⟩:=hI
  have z1:decide (0 ≤ i)=true:=decide_eq_true i1
  have z2:decide (i < t.cases.length)=true:=decide_eq_true i2
  have z3:decide (0 ≤ f)=true:=decide_eq_true i3
  have z4:decide (f < W)=true:=decide_eq_true i4
  have z5:decide ((outs.length:Int)=t.n)=true:=decide_eq_true i5
  (have zz:=aI @encCs_one (aI @encCs_cells (aI @alenS_encCs (aI @sh (aI @z1 (aI @z2 (aI @z3 (aI @z4 @z5))))))); repeat' (first | apply w_seq | apply w_ops0 | apply w_mixS1 | apply a_n | apply o_nil | refine vZ ?_ | refine cZ ?_ (hp:=by first | exact hfw | exact hck) | refine bxZ ?_ | refine gTZ ?_ | (refine gBZ ?_ ?_ <;> (intro _hg; (try simp only [ZB] at _hg); try first | exact absurd trivial _hg | (exfalso; omega))) | fail)) <;> (try clear zz)
  refine o_callP ev0 ev0 hA (snap_plain (by (repeat' (first | exact snapL_nil | exact Dat.snap Dat.int | exact Dat.snap Dat.bool | exact Dat.snap Dat.str | exact Dat.snap Dat.esl | exact Dat.snap Dat.nilf | exact Dat.snap (encV_dat _) | exact Dat.snap (encVV_dat _) | exact Dat.snap dT | apply snapL_cons | apply snap_func | apply snap_iptr | (apply snap_ptr; (focus ((try simp only [simB0,ZA,reduceEqDiff,↓reduceIte,reduceAdd,reduceLeDiff]); with_reducible rfl)); (focus rfl))))) rfl) ?_
  (have zz:=and_self; repeat' (first | apply w_ret | apply a_n | apply o_nil | refine vZ ?_ | refine gTZ ?_ | refine e_ends rfl ?_ | refine r1Z ?_ | fail)) <;> (try clear zz)
  exact snap_bool rfl
theorem right_parts {t:TaskV} {x:PlaceV} (h:rightB t x=true):fewT t=true∧checkE t=0∧∃ k m n:Nat,x.index=k∧k < t.cases.length∧x.faulty=m∧m < 2 ^ n∧t.n=n∧1 ≤ n∧n ≤ 5∧x.outs.length=n∧(x.outs.any fun v=>decide (v < -1 ∨ t.outs ≤ v))=false:=by
  obtain ⟨h1,h2,⟨h3,h4,h5,h6,h7⟩,h8⟩:=rightB_iff.1 h
  obtain ⟨n1,n5⟩:=checkE_n h2
  refine ⟨h1,h2,x.index.toNat,x.faulty.toNat,t.n.toNat,by omega,by omega,by omega,by omega,by omega,by omega,by omega,by omega,h8⟩
theorem placeE_ok {t:TaskV} {k m n:Nat} (h:checkE t=0) (hk:k < t.cases.length) (hn:t.n=n) (hm:m < 2 ^ n):placeE t k m=0:=by
  unfold placeE
  rw [if_neg (fun c=>c h),if_neg (by omega),if_neg]
  rw [hn,Int.toNat_natCast]
  omega
theorem permT_ok {t:TaskV} {k m n:Nat} {outs:List Int} (h:checkE t=0) (hk:k < t.cases.length) (hn:t.n=n) (hm:m < 2 ^ n) (ho:outs.length=n) (hv:(outs.any fun v=>decide (v < -1 ∨ t.outs ≤ v))=false):permT t k m outs=((allowV (t.cases.getD k default) m).any (fun v=>agreesB v outs m),0):=by
  unfold permT
  rw [if_neg (fun c=>c (placeE_ok h hk hn hm)),if_neg (fun c=>c (by omega)),hv,if_neg (by decide)]
  rfl
end Go.Proofs.YtbiikomnhkbblaaGreat
namespace Go.Proofs.YtbiikomnhkbblaaGreat
open Go Go.Abs
open Nat (reduceEqDiff reduceAdd reduceLeDiff)
def permI (l:List Int) (i:Nat):Int:=if l.getD i default < 0 ∨ (l.length:Int) ≤ l.getD i default then 2 else if (l.take i).any (fun x=>decide (x=l.getD i default)) then 7 else 0
def permE (l:List Int):Int:=if l.length < 1 ∨ 5 < l.length then 2 else firstI (permI l) l.length
theorem permE_0 {l:List Int} (h:permE l=0):1 ≤ l.length∧l.length ≤ 5∧(∀ i,i < l.length→0 ≤ l.getD i default∧l.getD i default < l.length)∧∀ i j,i < j→j < l.length→l.getD i default ≠ l.getD j default:=by
  unfold permE at h
  split at h
  · exact absurd h (by decide)
  rename_i h1
  have hz:=firstI_all h
  have hp:∀ i,i < l.length→(0 ≤ l.getD i default∧l.getD i default < l.length)∧(l.take i).any (fun x=>decide (x=l.getD i default))=false:=fun i hi=>by
    have:=hz i hi
    unfold permI at this
    split at this
    · exact absurd this (by decide)
    rename_i h2
    split at this
    · exact absurd this (by decide)
    rename_i h3
    exact ⟨by omega,by cases hq:(l.take i).any (fun x=>decide (x=l.getD i default)) with
      | false=>rfl
      | true=>exact absurd hq h3⟩
  refine ⟨by omega,by omega,fun i hi=>(hp i hi).1,fun i j hij hj e=>?_⟩
  have:=(hp j hj).2
  rw [List.any_eq_false] at this
  refine this (l.getD i default) ?_ (decide_eq_true e)
  rw [List.mem_iff_getElem?]
  refine ⟨i,?_⟩
  rw [List.getElem?_take,if_pos hij]
  simp [List.getD,show i < l.length by omega]
def seenB (l:List Int) (k:Nat):List Bool:=(List.range 5).map fun (p:Nat)=>(l.take k).any fun x=>decide (x=(p:Int))
theorem seenB_len (l:List Int) (k:Nat):(seenB l k).length=5:=by simp [seenB]
theorem seenB_get {l:List Int} {k p:Nat} (hp:p < 5):(seenB l k).getD p default=(l.take k).any fun x=>decide (x=(p:Int)):=by simp [seenB,List.getD,hp]
theorem seenB_set {l:List Int} {k p:Nat} (hk:k < l.length) (e:l.getD k default=(p:Int)):(seenB l k).set p true=seenB l (k + 1):=by
  refine List.ext_getElem (by simp [seenB]) fun i h1 h2=>?_
  rw [List.getElem_set]
  simp only [seenB,List.getElem_map,List.getElem_range,take_succ' hk,List.any_append,List.any_cons,List.any_nil,Bool.or_false,e]
  by_cases hi:p=i
  · subst hi; rw [if_pos rfl]; simp
  · rw [if_neg hi,decide_eq_false (by omega),Bool.or_false]
def mvK (v p:List Int):Nat→List Int
  | 0=>List.replicate v.length 0
  | k + 1=>(mvK v p k).set (p.getD k default).toNat (v.getD k default)
def moveV (v p:List Int):List Int:=mvK v p v.length
theorem mvK_len (v p:List Int) (k:Nat):(mvK v p k).length=v.length:=by
  induction k with
  | zero=>simp [mvK]
  | succ k ih=>rw [mvK,List.length_set,ih]
theorem moveV_len (v p:List Int):(moveV v p).length=v.length:=mvK_len v p _
theorem mvK_get {v p:List Int} (hp:permE p=0) (hl:v.length=p.length):∀ {k i:Nat},i < k→k ≤ p.length→(mvK v p k).getD (p.getD i default).toNat default=v.getD i default
  | 0,i,h,_=>absurd h (by omega)
  | k + 1,i,h,hk=>by
    obtain ⟨_,_,p3,p4⟩:=permE_0 hp
    have a1:=p3 i (by omega)
    have a2:=p3 k (by omega)
    have hlen:=mvK_len v p k
    rw [mvK]
    by_cases e:i=k
    · subst e
      rw [getD_set (by omega),if_pos rfl]
    · have hne:p.getD i default ≠ p.getD k default:=p4 i k (by omega) (by omega)
      rw [getD_set (by omega),if_neg (by omega)]
      exact mvK_get hp hl (by omega) (by omega)
theorem moveV_get {v p:List Int} (hp:permE p=0) (hl:v.length=p.length) {i:Nat} (hi:i < p.length):(moveV v p).getD (p.getD i default).toNat default=v.getD i default:=mvK_get hp hl (by omega) (by omega)
theorem moveV_inj {v w p:List Int} (hp:permE p=0) (hv:v.length=p.length) (hw:w.length=p.length) (h:moveV v p=moveV w p):v=w:=by
  refine List.ext_getElem (by omega) fun i h1 h2=>?_
  have a:=moveV_get hp hv (i:=i) (by omega)
  have b:=moveV_get hp hw (i:=i) (by omega)
  rw [h,b] at a
  simpa [List.getD,h1,h2] using a.symm
attribute [local irreducible] awp2 aops2 ains aloop athen bbind obind gbind acond res1 Go.Abs.Fn PCall Go.Abs.Pure SnapArgs SnapL Yl
theorem ixaA_ptr {T:Tm} {H:Hp} {b n off len sz q:Nat} {x i:Opd} (hx:ov T x=.ptr b n off) (hi:ov T i=.int .i64 (q:Int)) (h:q < len):ival T H (.ixaA len sz x i)=some (.ptr b n (off + q * sz)):=by
  simp only [ival,hx,hi,aint]
  rw [if_pos ⟨by omega,by omega⟩]
  simp [apadd]
theorem number_c (n:Int):Pure Tryz.prog 88 [.int .i64 n] (.int .i64 (if n < 1 ∨ 5 < n then 2 else 0)):=by
  refine Pure.of_c2 follows is88 (Nat.le_of_ble_eq_true rfl) ?_
  simp only [b88,cO,cG,cN,cM,cD,cF,cB,cFal,cTru]
  by_cases h:n < 1 ∨ 5 < n
  · rw [if_pos h]
    (have zz:=and_self; repeat' (first | apply w_seq | apply w_ops0 | apply w_ret | apply a_n | apply a_r | apply o_nil | refine vZ ?_ | refine gTZ ?_ | refine gFZ ?_ | refine cTZ ?_ | ((first | refine gBZ ?_ ?_ | refine cdZ ?_ ?_) <;> (intro _hg; (try simp only [ZB] at _hg); try first | exact absurd trivial _hg | (exfalso; omega))) | refine e_ends rfl ?_ | refine r1Z ?_ | fail)) <;> (try clear zz)
    all_goals exact snap_int rfl
  · rw [if_neg h]
    (have zz:=and_self; repeat' (first | apply w_seq | apply w_ops0 | apply w_skip | apply w_ret | apply a_n | apply o_nil | refine vZ ?_ | refine gTZ ?_ | ((first | refine gBZ ?_ ?_ | refine cdZ ?_ ?_) <;> (intro _hg; (try simp only [ZB] at _hg); try first | exact absurd trivial _hg | (exfalso; omega))) | refine e_ends rfl ?_ | refine r1Z ?_ | fail)) <;> (try clear zz)
    all_goals exact snap_int rfl
theorem permCheck_c (l:List Int) (hl:Sh l):Pure Tryz.prog 65 [encV l] (.int .i64 (permE l)):=by
  have hl':l.length ≤ 17592186044416:=hl
  refine Pure.of_c2 follows is65 (Nat.le_of_ble_eq_true rfl) ?_
  simp only [b65,cO,cG,cN,cM,cD,cF,cB,cFal,cTru]
  have hn:=number_c l.length
  by_cases h:l.length < 1 ∨ 5 < l.length
  · have e:permE l=2:=by unfold permE; rw [if_pos h]
    rw [if_pos (by omega)] at hn
    rw [e]
    (have zz:=and_self; repeat' (first | apply w_seq | apply w_ops0 | apply w_ret | apply a_n | apply a_r | apply o_nil | refine vZ ?_ | refine cZ ?_ (hp:=hn) | (refine cdZ ?_ ?_ <;> (intro _hg; (try simp only [ZB] at _hg); try first | exact absurd trivial _hg | (exfalso; omega))) | refine e_ends rfl ?_ | refine r1Z ?_ | fail)) <;> (try clear zz)
    exact snap_int rfl
  rw [if_neg (by omega)] at hn
  have e:permE l=firstI (permI l) l.length:=by unfold permE; rw [if_neg h]
  rw [e]
  (have zz:=and_self; repeat' (first | apply w_seq | apply w_ops0 | apply w_block | apply w_skip | apply a_n | apply o_nil | refine vZ ?_ | refine cZ ?_ (hp:=hn) | refine alZ ?_ | (refine cdZ ?_ ?_ <;> (intro _hg; (try simp only [ZB] at _hg); try first | exact absurd trivial _hg | (exfalso; omega))) | apply w_loop | fail)) <;> (try clear zz)
  refine loopI (X:=Nat) (fun k=>[(0,encV l),(4,.ptr 0 5 0),(13,encV l),(14,.int .i64 l.length),(15,.int .i64 k)]) (fun k H nx=>k ≤ l.length∧H=hupd noBoxes 0 ((seenB l k).map AV.bool)∧nx=1∧∀ i,i < k→permI l i=0) (fun k=>l.length - k) 0 ⟨Nat.zero_le _,rfl,rfl,fun i hi=>absurd hi (by omega)⟩ (by simp (disch:=omega) only [agr,ZG,reduceEqDiff,↓reduceIte,List.length_cons,List.length_nil,Nat.zero_add,reduceAdd]) ?_
  rintro k H nx ⟨hk,rfl,rfl,hz⟩
  by_cases hk2:k < l.length
  rotate_left
  · (have zz:=and_self; repeat' (first | apply w_seq | apply w_ops0 | apply w_exit | apply w_ret | apply a_n | apply a_x | apply o_nil | refine vZ ?_ | (refine cdZ ?_ ?_ <;> (intro _hg; (try simp only [ZB] at _hg); try first | exact absurd trivial _hg | (exfalso; omega))) | refine e_ends rfl ?_ | refine r1Z ?_ | fail)) <;> (try clear zz)
    refine snap_int ?_
    rw [firstI_zero fun i hi=>hz i (by omega)]
  have ho:permI l k=if l.getD k default < 0 ∨ (l.length:Int) ≤ l.getD k default then 2 else if (l.take k).any (fun x=>decide (x=l.getD k default)) then 7 else 0:=rfl
  by_cases hr:l.getD k default < 0 ∨ (l.length:Int) ≤ l.getD k default
  · rw [if_pos hr] at ho
    (have zz:=and_self; repeat' (first | apply w_seq | apply w_ops0 | apply w_block | apply w_skip | apply w_ret | apply a_n | apply a_r | apply o_nil | refine vZ ?_ | refine gTZ ?_ | refine gFZ ?_ | refine cTZ ?_ | ((first | refine gBZ ?_ ?_ | refine cdZ ?_ ?_) <;> (intro _hg; (try simp only [ZB] at _hg); try first | exact absurd trivial _hg | (exfalso; omega))) | refine e_ends rfl ?_ | refine r1Z ?_ | fail)) <;> (try clear zz)
    all_goals (refine snap_int ?_; rw [firstI_hit hk2 hz (by rw [ho]; decide),ho])
  rw [if_neg hr] at ho
  obtain ⟨q,hq⟩:∃ q:Nat,l.getD k default=q:=⟨(l.getD k default).toNat,by omega⟩
  have hq5:q < 5:=by omega
  have hsb:=seenB_get (l:=l) (k:=k) hq5
  have hsl:=seenB_len l k
  have hss:=seenB_set hk2 hq
  rw [hq] at ho hr
  have hge:((seenB l k).map AV.bool)[q]?=some (.bool ((l.take k).any fun x=>decide (x=(q:Int)))):=by
    rw [← hsb,getElem?_map_lt (by omega)]
  have hla:=seenB_len l k
  cases hb:(l.take k).any (fun x=>decide (x=(q:Int)))
  · rw [hb] at hge ho
    rw [if_neg (by decide)] at ho
    have hlm:=lput_mapG (f:=AV.bool) (l:=seenB l k) (k:=q) (x:=true) (by omega)
    have hlm2:=hlm
    simp only [lput,List.length_cons,List.length_nil,Nat.zero_add] at hlm2
    (have zz:=@hq; repeat' (first | apply w_seq | apply w_ops0 | apply w_block | apply w_skip | apply a_n | apply o_nil | refine vZ ?_ | refine gTZ ?_ | ((first | refine gBZ ?_ ?_ | refine cdZ ?_ ?_) <;> (intro _hg; (try simp only [ZB] at _hg); try first | exact absurd trivial _hg | (exfalso; omega))) | fail)) <;> (try clear zz)
    refine o_val rfl rfl (ixaA_ptr ev0 (have zz:=@hq; evZ) hq5) ?_
    (have zz:=aI @hq @hge; repeat' (first | apply w_ops0 | apply w_skip | apply a_n | apply o_nil | refine vZ ?_ | refine cFZ ?_ | fail)) <;> (try clear zz)
    refine o_val rfl rfl (ixaA_ptr ev0 (have zz:=@hq; evZ) hq5) ?_
    (have zz:=@hq; repeat' (first | apply w_ops0 | apply a_n | apply o_nil | refine vZ ?_ | refine stZ ?_ | fail)) <;> (try clear zz)
    exact ⟨k + 1,by omega,⟨by omega,by rw [hupd_two,Nat.mul_one,hlm,hss],rfl,fun i hi=>by
      rcases Nat.lt_succ_iff_lt_or_eq.1 hi with h | rfl
      · exact hz i h
      · exact ho⟩,ag0⟩
  · rw [hb] at hge ho
    rw [if_pos rfl] at ho
    (have zz:=@hq; repeat' (first | apply w_seq | apply w_ops0 | apply w_block | apply w_skip | apply a_n | apply o_nil | refine vZ ?_ | refine gTZ ?_ | ((first | refine gBZ ?_ ?_ | refine cdZ ?_ ?_) <;> (intro _hg; (try simp only [ZB] at _hg); try first | exact absurd trivial _hg | (exfalso; omega))) | fail)) <;> (try clear zz)
    refine o_val rfl rfl (ixaA_ptr ev0 (have zz:=@hq; evZ) hq5) ?_
    (have zz:=aI @hq @hge; repeat' (first | apply w_seq | apply w_ops0 | apply w_ret | apply a_n | apply a_r | apply o_nil | refine vZ ?_ | refine cTZ ?_ | refine e_ends rfl ?_ | refine r1Z ?_ | fail)) <;> (try clear zz)
    refine snap_int ?_
    rw [firstI_hit hk2 hz (by rw [ho]; decide),ho]
theorem permCheckR (l:List Int) (hl:Sh l):Pure Tryz.prog 34 [encV l] (.int .i64 (permE l)):=by
  have hl':l.length ≤ 17592186044416:=hl
  refine Pure.of_c2 follows is34 (Nat.le_of_ble_eq_true rfl) ?_
  simp only [b34,cO,cG,cN,cM,cD,cF,cB,cFal,cTru]
  by_cases h:l.length < 1 ∨ 5 < l.length
  · have e:permE l=2:=by unfold permE; rw [if_pos h]
    rw [e]
    (have zz:=and_self; repeat' (first | apply w_seq | apply w_ops0 | apply w_ret | apply a_n | apply a_r | apply o_nil | refine vZ ?_ | refine gTZ ?_ | refine gFZ ?_ | refine cTZ ?_ | ((first | refine gBZ ?_ ?_ | refine cdZ ?_ ?_) <;> (intro _hg; (try simp only [ZB] at _hg); try first | exact absurd trivial _hg | (exfalso; omega))) | refine e_ends rfl ?_ | refine r1Z ?_ | fail)) <;> (try clear zz)
    all_goals exact snap_int rfl
  have e:permE l=firstI (permI l) l.length:=by unfold permE; rw [if_neg h]
  rw [e]
  (have zz:=and_self; repeat' (first | apply w_seq | apply w_ops0 | apply w_block | apply w_skip | apply a_n | apply o_nil | refine vZ ?_ | refine gTZ ?_ | ((first | refine gBZ ?_ ?_ | refine cdZ ?_ ?_) <;> (intro _hg; (try simp only [ZB] at _hg); try first | exact absurd trivial _hg | (exfalso; omega))) | apply w_loop | fail)) <;> (try clear zz)
  refine loop0 (X:=Nat) (fun k=>[(0,encV l),(3,.int .i64 k)]) (fun k=>k ≤ l.length∧∀ i,i < k→permI l i=0) (fun k=>l.length - k) 0 ⟨Nat.zero_le _,fun i hi=>absurd hi (by omega)⟩ ag0 ?_
  rintro k ⟨hk,hz⟩
  by_cases hk2:k < l.length
  rotate_left
  · (have zz:=and_self; repeat' (first | apply w_seq | apply w_ops0 | apply w_exit | apply w_ret | apply a_n | apply a_x | apply o_nil | refine vZ ?_ | (refine cdZ ?_ ?_ <;> (intro _hg; (try simp only [ZB] at _hg); try first | exact absurd trivial _hg | (exfalso; omega))) | refine e_ends rfl ?_ | refine r1Z ?_ | fail)) <;> (try clear zz)
    refine snap_int ?_
    rw [firstI_zero fun i hi=>hz i (by omega)]
  have ho:permI l k=if l.getD k default < 0 ∨ (l.length:Int) ≤ l.getD k default then 2 else if (l.take k).any (fun x=>decide (x=l.getD k default)) then 7 else 0:=rfl
  by_cases hr:l.getD k default < 0 ∨ (l.length:Int) ≤ l.getD k default
  · rw [if_pos hr] at ho
    (have zz:=and_self; repeat' (first | apply w_seq | apply w_ops0 | apply w_block | apply w_skip | apply w_ret | apply a_n | apply a_r | apply o_nil | refine vZ ?_ | refine gTZ ?_ | refine gFZ ?_ | refine cTZ ?_ | ((first | refine gBZ ?_ ?_ | refine cdZ ?_ ?_) <;> (intro _hg; (try simp only [ZB] at _hg); try first | exact absurd trivial _hg | (exfalso; omega))) | refine e_ends rfl ?_ | refine r1Z ?_ | fail)) <;> (try clear zz)
    all_goals (refine snap_int ?_; rw [firstI_hit hk2 hz (by rw [ho]; decide),ho])
  rw [if_neg hr] at ho
  (have zz:=and_self; repeat' (first | apply w_seq | apply w_ops0 | apply w_block | apply w_skip | apply a_n | apply o_nil | refine vZ ?_ | refine gTZ ?_ | ((first | refine gBZ ?_ ?_ | refine cdZ ?_ ?_) <;> (intro _hg; (try simp only [ZB] at _hg); try first | exact absurd trivial _hg | (exfalso; omega))) | apply w_loop | fail)) <;> (try clear zz)
  refine loop0 (X:=Nat) (fun q=>[(0,encV l),(3,.int .i64 k),(4,.int .i64 q)]) (fun q=>q ≤ k∧∀ i,i < q→l.getD i default ≠ l.getD k default) (fun q=>k - q) 0 ⟨Nat.zero_le _,fun i hi=>absurd hi (by omega)⟩ ag0 ?_
  rintro q ⟨hq,hd⟩
  by_cases hqk:q < k
  rotate_left
  · have hany:(l.take k).any (fun x=>decide (x=l.getD k default))=false:=by
      rw [List.any_eq_false]
      intro x hx
      obtain ⟨i,hi,rfl⟩:=List.getElem_of_mem hx
      rw [List.length_take] at hi
      have:=hd i (by omega)
      simpa [List.getD,show i < l.length by omega] using this
    rw [hany,if_neg (by decide)] at ho
    (have zz:=and_self; repeat' (first | apply w_seq | apply w_ops0 | apply w_exit | apply a_n | apply a_x | apply o_nil | refine vZ ?_ | (refine cdZ ?_ ?_ <;> (intro _hg; (try simp only [ZB] at _hg); try first | exact absurd trivial _hg | (exfalso; omega))) | fail)) <;> (try clear zz)
    exact ⟨k + 1,⟨by omega,fun i hi=>by
      rcases Nat.lt_succ_iff_lt_or_eq.1 hi with h | rfl
      · exact hz i h
      · exact ho⟩,by omega,ag0,rfl,rfl⟩
  by_cases he:l.getD q default=l.getD k default
  · have hany:(l.take k).any (fun x=>decide (x=l.getD k default))=true:=by
      rw [List.any_eq_true]
      refine ⟨l.getD q default,?_,decide_eq_true he⟩
      rw [List.mem_iff_getElem?]
      exact ⟨q,by rw [List.getElem?_take,if_pos hqk]; simp [List.getD,show q < l.length by omega]⟩
    rw [hany,if_pos rfl] at ho
    have z:decide (l.getD q default=l.getD k default)=true:=decide_eq_true he
    (have zz:=@z; repeat' (first | apply w_seq | apply w_ops0 | apply w_ops1 | apply w_block | apply w_skip | apply w_ret | apply a_n | apply a_r | apply o_nil | refine vZ ?_ | refine cTZ ?_ | (refine cdZ ?_ ?_ <;> (intro _hg; (try simp only [ZB] at _hg); try first | exact absurd trivial _hg | (exfalso; omega))) | refine e_ends rfl ?_ | refine r1Z ?_ | fail)) <;> (try clear zz)
    refine snap_int ?_
    rw [firstI_hit hk2 hz (by rw [ho]; decide),ho]
  · have z:decide (l.getD q default=l.getD k default)=false:=decide_eq_false he
    (have zz:=@z; repeat' (first | apply w_seq | apply w_ops0 | apply w_ops1 | apply w_block | apply w_skip | apply a_n | apply o_nil | refine vZ ?_ | refine cFZ ?_ | (refine cdZ ?_ ?_ <;> (intro _hg; (try simp only [ZB] at _hg); try first | exact absurd trivial _hg | (exfalso; omega))) | fail)) <;> (try clear zz)
    exact ⟨q + 1,⟨by omega,fun i hi=>by
      rcases Nat.lt_succ_iff_lt_or_eq.1 hi with h | rfl
      · exact hd i h
      · exact he⟩,by omega,ag0,rfl,rfl⟩
theorem vector_c2 (v p:List Int) (hp:permE p=0) (hl:v.length=p.length):Pure Tryz.prog 89 [encV p,encV v] (.tup [encV (moveV v p),.int .i64 0]):=by
  obtain ⟨p1,p2,p3,p4⟩:=permE_0 hp
  have hc:=permCheck_c p (show p.length ≤ _ by omega)
  rw [hp] at hc
  have hlv:decide ((v.length:Int)=(p.length:Int))=true:=decide_eq_true (by omega)
  have hz:zcells (.agg [.int .i64 0]) v.length=(mvK v p 0).map (AV.int .i64):=by
    simp [zcells,mvK,AV.cells]
  refine Pure.of_c2 follows is89 (Nat.le_of_ble_eq_true rfl) ?_
  simp only [b89,cO,cG,cN,cM,cD,cF,cB,cFal,cTru]
  (have zz:=@hlv; repeat' (first | apply w_seq | apply w_ops0 | apply w_skip | apply a_n | apply o_nil | refine vZ ?_ | refine cZ ?_ (hp:=hc) | (refine cdZ ?_ ?_ <;> (intro _hg; (try simp only [ZB] at _hg); try first | exact absurd trivial _hg | (exfalso; omega))) | fail)) <;> (try clear zz)
  refine e_mks rfl ev0 ev0 (by omega) (by omega) (by omega) (by omega) ?_
  rw [Int.toNat_natCast,hz]
  (have zz:=and_self; repeat' (first | apply w_seq | apply w_ops0 | apply w_block | apply a_n | apply o_nil | refine vZ ?_ | apply w_loop | fail)) <;> (try clear zz)
  refine loopI (X:=Nat) (fun k=>[(0,encV p),(1,encV v),(7,.msl 0 v.length 1 0 v.length),(23,encV p),(24,.int .i64 p.length),(25,.int .i64 k)]) (fun k H nx=>k ≤ p.length∧H=hupd noBoxes 0 ((mvK v p k).map (AV.int .i64))∧nx=1) (fun k=>p.length - k) 0 ⟨Nat.zero_le _,rfl,rfl⟩ (by simp (disch:=omega) only [agr,ZG,reduceEqDiff,↓reduceIte,Nat.mul_one]) ?_
  rintro k H nx ⟨hk,rfl,rfl⟩
  have hml:=mvK_len v p k
  by_cases hk2:k < p.length
  · have hr:=p3 k hk2
    have hlm:=lput_mapG (f:=AV.int .i64) (l:=mvK v p k) (k:=(p.getD k default).toNat) (x:=v.getD k default) (by omega)
    (have zz:=and_self; repeat' (first | apply w_seq | apply w_ops0 | apply w_block | apply w_skip | apply a_n | apply o_nil | refine vZ ?_ | refine stZ ?_ | (refine cdZ ?_ ?_ <;> (intro _hg; (try simp only [ZB] at _hg); try first | exact absurd trivial _hg | (exfalso; omega))) | fail)) <;> (try clear zz)
    exact ⟨k + 1,by omega,⟨by omega,by rw [hupd_two,hlm]; rfl,rfl⟩,ag0⟩
  · obtain rfl:k=p.length:=by omega
    (have zz:=and_self; repeat' (first | apply w_seq | apply w_ops0 | apply w_exit | apply w_ret | apply a_n | apply a_x | apply o_nil | refine vZ ?_ | (refine cdZ ?_ ?_ <;> (intro _hg; (try simp only [ZB] at _hg); try first | exact absurd trivial _hg | (exfalso; omega))) | refine e_ends rfl ?_ | refine r2Z ?_ | fail)) <;> (try clear zz)
    rw [show moveV v p=mvK v p p.length by unfold moveV; rw [hl]]
    exact snap_tup (snapL_cons (snap_row hupd_self' rfl (by rw [mvK_len])) (snapL_cons (.int _ _) snapL_nil))
end Go.Proofs.YtbiikomnhkbblaaGreat
namespace Go.Proofs.YtbiikomnhkbblaaGreat
open Go Go.Abs
open Nat (reduceEqDiff reduceAdd reduceLeDiff)
section
variable {α:Type} [Inhabited α] {K:α→α→Int}
def insK (K:α→α→Int) (l:List α) (v:α):Nat→Nat
  | 0=>0
  | k + 1=>if K v (l.getD k default) < 0 then insK K l v k else k + 1
def insG (K:α→α→Int) (l:List α) (v:α):List α:=l.take (insK K l v l.length) ++ v :: l.drop (insK K l v l.length)
def sortG (K:α→α→Int) (l:List α):List α:=l.foldl (insG K) []
theorem insK_le (l:List α) (v:α):∀ k,insK K l v k ≤ k
  | 0=>Nat.le_refl _
  | k + 1=>by
    rw [insK]
    split
    · exact Nat.le_succ_of_le (insK_le l v k)
    · exact Nat.le_refl _
theorem insK_above {l:List α} {v:α}:∀ {k i:Nat},insK K l v k ≤ i→i < k→K v (l.getD i default) < 0
  | 0,i,_,h=>absurd h (by omega)
  | k + 1,i,h1,h2=>by
    rw [insK] at h1
    split at h1
    · by_cases e:i=k
      · subst e; assumption
      · exact insK_above h1 (by omega)
    · omega
theorem insK_below {l:List α} {v:α}:∀ {k:Nat},0 < insK K l v k→¬ K v (l.getD (insK K l v k - 1) default) < 0
  | 0,h=>absurd h (Nat.lt_irrefl _)
  | k + 1,h=>by
    rw [insK] at h ⊢
    split
    · rename_i c
      rw [if_pos c] at h
      exact insK_below h
    · rename_i c
      rw [Nat.add_sub_cancel]; exact c
theorem insG_perm (l:List α) (v:α):(insG K l v).Perm (v :: l):=by
  unfold insG
  refine List.perm_middle.trans ?_
  rw [List.take_append_drop]
def SortedP (K:α→α→Int) (l:List α):Prop:=l.Pairwise fun x y=>¬ K y x < 0
theorem SortedP.of {l:List α} (h:SortedR K 0 l.length l):SortedP K l:=by
  unfold SortedP
  rw [List.pairwise_iff_getElem]
  intro i j hi hj hij
  have:=h i j (Nat.zero_le _) hij hj
  simpa [List.getD,hi,hj] using this
theorem insG_sorted (hK:Ord K) {l:List α} {v:α} (h:SortedP K l):SortedP K (insG K l v):=by
  unfold insG
  have hle:=insK_le (K:=K) l v l.length
  have hab:∀ i,insK K l v l.length ≤ i→i < l.length→K v (l.getD i default) < 0:=fun i h1 h2=>insK_above h1 h2
  have hbe:0 < insK K l v l.length→¬ K v (l.getD (insK K l v l.length - 1) default) < 0:=fun h=>insK_below h
  generalize insK K l v l.length=k at *
  have hs:∀ i j (hi:i < l.length) (hj:j < l.length),i < j→¬ K l[j] l[i] < 0:=List.pairwise_iff_getElem.1 h
  have hlow:∀ x ∈ l.take k,¬ K v x < 0:=fun x hx=>by
    obtain ⟨i,hi,rfl⟩:=List.getElem_of_mem hx
    rw [List.length_take] at hi
    rw [List.getElem_take]
    have hk:=hbe (by omega)
    have e:l.getD (k - 1) default=l[k - 1]'(by omega):=by simp [List.getD,show k - 1 < l.length by omega]
    rw [e] at hk
    by_cases hik:i=k - 1
    · subst hik; exact hk
    · exact hK.negtr _ _ _ (hs i (k - 1) (by omega) (by omega) (by omega)) hk
  have hup:∀ x ∈ l.drop k,K v x < 0:=fun x hx=>by
    obtain ⟨i,hi,rfl⟩:=List.getElem_of_mem hx
    rw [List.length_drop] at hi
    rw [List.getElem_drop]
    have:=hab (k + i) (by omega) (by omega)
    simpa [List.getD,show k + i < l.length by omega] using this
  unfold SortedP
  rw [List.pairwise_append,List.pairwise_cons]
  refine ⟨List.Pairwise.sublist (List.take_sublist _ _) h,⟨fun x hx=>hK.asym _ _ (hup x hx),List.Pairwise.sublist (List.drop_sublist _ _) h⟩,fun x hx y hy=>?_⟩
  rcases List.mem_cons.1 hy with rfl | hy
  · exact hlow x hx
  · exact hK.negtr _ _ _ (hlow x hx) (hK.asym _ _ (hup y hy))
theorem foldl_ins_perm:∀ (l acc:List α),(l.foldl (insG K) acc).Perm (acc ++ l)
  | [],acc=>by simp
  | v :: l,acc=>by
    refine (foldl_ins_perm l (insG K acc v)).trans ?_
    refine (List.Perm.append_right l (insG_perm acc v)).trans ?_
    rw [List.cons_append]
    exact List.perm_middle.symm
theorem foldl_ins_sorted (hK:Ord K):∀ (l acc:List α),SortedP K acc→SortedP K (l.foldl (insG K) acc)
  | [],acc,h=>h
  | v :: l,acc,h=>foldl_ins_sorted hK l (insG K acc v) (insG_sorted hK h)
theorem sortG_perm (l:List α):(sortG K l).Perm l:=by
  have:=foldl_ins_perm (K:=K) l []
  rwa [List.nil_append] at this
theorem sortG_sorted (hK:Ord K) (l:List α):SortedP K (sortG K l):=foldl_ins_sorted hK l [] .nil
theorem sortG_len (l:List α):(sortG K l).length=l.length:=(sortG_perm l).length_eq
theorem sortG_unique (hK:Ord K) {L L':List α} (hA:∀ x ∈ L,∀ y ∈ L,¬ K x y < 0→¬ K y x < 0→x=y) (hs:SortedP K L') (hp:L'.Perm L):L'=sortG K L :=
  List.Perm.eq_of_pairwise (fun x y hx hy hxy hyx=>hA x (hp.mem_iff.1 hx) y ((sortG_perm L).mem_iff.1 hy) hyx hxy) hs (sortG_sorted hK L) (hp.trans (sortG_perm L).symm)
end
theorem ordV:Ord order where
  irr x:=by rw [order_refl]; omega
  asym x y h:=by rw [order_swap]; omega
  negtr x y z h1 h2 h3:=by
    rcases order_vals y x with h | h | h
    · omega
    · have e:=order_eq h; subst e; exact h2 h3
    · have hxy:order x y < 0:=by rw [order_swap]; omega
      have:=order_trans h3 hxy
      omega
theorem alikeV {x y:List Int} (h1:¬ order x y < 0) (h2:¬ order y x < 0):x=y:=by
  rw [order_swap] at h2
  exact order_eq (by omega)
abbrev sortV (l:List (List Int)):List (List Int):=sortG order l
theorem cmpV:Cmp Tryz.prog encV order (fun l=>Sh l) 46 [] where
  cells _:=rfl
  one _:=rfl
  dat v:=encV_dat v
  dcaps:=by simp
  run x y hx hy:=compare_c x y hx hy
  ord:=ordV
attribute [local irreducible] awp2 aops2 ains aloop athen bbind obind gbind acond res1 Go.Abs.Fn PCall Go.Abs.Pure SnapArgs SnapL Yl
def movedV (l:List (List Int)) (p:List Int):List (List Int):=sortV (l.map fun v=>moveV v p)
theorem moved_c (l:List (List Int)) (p:List Int) (hp:permE p=0) (hl:l.length ≤ 100000) (hv:∀ v ∈ l,v.length=p.length):Pure Tryz.prog 66 [encVV l,encV p] (encVV (movedV l p)):=by
  refine Pure.of_c2 follows is66 (Nat.le_of_ble_eq_true rfl) ?_
  simp only [b66,cO,cG,cN,cM,cD,cF,cB,cFal,cTru]
  have hp5:=(permE_0 hp).2.1
  (have zz:=and_self; repeat' (first | apply w_seq | apply w_ops0 | apply w_block | apply a_n | apply o_nil | refine vZ ?_ | apply w_loop | fail)) <;> (try clear zz)
  refine loopI (X:=AV × Nat) (fun x=>[(1,encV p),(5,x.1),(10,encVV l),(11,.int .i64 l.length),(12,.int .i64 x.2)]) (fun x H nx=>x.2 ≤ l.length∧Row H 1 x.1 (((l.take x.2).map fun v=>moveV v p).map encV)∧(∀ b,rowB x.1=some b→b < nx)∧(x.2=0→x.1=.esl)) (fun x=>l.length - x.2) (.esl,0) ⟨Nat.zero_le _,Row.nil,fun b hb=>(by cases hb),fun _=>rfl⟩ ag0 ?_
  rintro ⟨s,j⟩ H nx ⟨h1,h2,h3,h4⟩
  dsimp only at h1 h2 h3 h4 ⊢
  by_cases hj:j < l.length
  · have hw:=mem_getD hj
    have hvc:=vector_c2 (l.getD j default) p hp (hv _ hw)
    (have zz:=and_self; repeat' (first | apply w_seq | apply w_ops0 | apply w_block | apply w_skip | apply a_n | apply o_nil | refine vZ ?_ | refine cZ ?_ (hp:=hvc) | refine blZ ?_ | (refine cdZ ?_ ?_ <;> (intro _hg; (try simp only [ZB] at _hg); try first | exact absurd trivial _hg | (exfalso; omega))) | fail)) <;> (try clear zz)
    refine e_row rfl ev0 (h2.same fun b hb=>?_) ev0 asrc_one rfl rfl Nat.one_pos (by simp; omega) (by simp; omega) ?_
    · have:=h3 b hb
      rw [hupd_ne (by omega)]
    rintro s2 E e hrow hle1 hle2 hsame hb2
    (have zz:=and_self; repeat' (first | apply w_ops0 | apply a_n | apply o_nil | refine vZ ?_ | fail)) <;> (try clear zz)
    refine ⟨(s2,j + 1),by dsimp only; omega,⟨by dsimp only; omega,?_,fun b hb=>?_,fun h=>absurd h (Nat.succ_ne_zero _)⟩,ag0⟩
    · dsimp only
      rw [take_succ' hj,List.map_append,List.map_append]
      exact hrow
    · rcases hb2 b hb with h | h
      · have:=h3 b h; omega
      · omega
  · rw [List.take_of_length_le (by omega)] at h2
    unfold movedV
    generalize hL:(l.map fun v=>moveV v p)=L at h2 ⊢
    have hLl:L.length=l.length:=by rw [← hL,List.length_map]
    have hLs:∀ x ∈ L,Sh x:=fun x hx=>by
      rw [← hL] at hx
      obtain ⟨v,hv2,rfl⟩:=List.mem_map.1 hx
      show (moveV v p).length ≤ _
      rw [moveV_len,hv v hv2]; omega
    rcases Nat.eq_zero_or_pos L.length with h0 | h0
    · have e:=List.length_eq_zero_iff.1 h0
      subst e
      obtain rfl:s=.esl:=h4 (by simp at hLl; omega)
      (have zz:=and_self; repeat' (first | apply w_seq | apply w_ops0 | apply w_exit | apply a_n | apply a_x | apply o_nil | refine vZ ?_ | (refine cdZ ?_ ?_ <;> (intro _hg; (try simp only [ZB] at _hg); try first | exact absurd trivial _hg | (exfalso; omega))) | fail)) <;> (try clear zz)
      refine o_callE ev0 ev0 sortF_0 ?_
      rintro _ _ _ ⟨rfl,rfl⟩
      (have zz:=and_self; repeat' (first | apply w_seq | apply w_ops0 | apply w_ret | apply a_n | apply o_nil | refine vZ ?_ | refine e_ends rfl ?_ | refine r1Z ?_ | fail)) <;> (try clear zz)
      exact .eslsl 1
    have hrow:∃ B,s=.msl B L.length 1 0 L.length∧H B=some (L.map encV)∧B < nx:=by
      generalize hcs:L.map encV=cs at h2
      cases h2 with
      | nil =>
        rw [List.map_eq_nil_iff] at hcs
        rw [hcs] at h0; exact absurd h0 (Nat.lt_irrefl _)
      | box B len cs hb hl2 =>
        have e:len=L.length:=by rw [← hcs,List.length_map] at hl2; omega
        subst e
        exact ⟨B,by rw [Nat.mul_one],hb,h3 B rfl⟩
    obtain ⟨B,rfl,hB,hBn⟩:=hrow
    (have zz:=and_self; repeat' (first | apply w_seq | apply w_ops0 | apply w_exit | apply a_n | apply a_x | apply o_nil | refine vZ ?_ | (refine cdZ ?_ ?_ <;> (intro _hg; (try simp only [ZB] at _hg); try first | exact absurd trivial _hg | (exfalso; omega))) | fail)) <;> (try clear zz)
    refine o_callE ev0 ev0 (sortF_c cmpV hB hBn rfl h0 hLs (by omega)) ?_
    rintro _ H1 n1 ⟨M,hps,hpM,hsM⟩
    have hMl:M.length=L.length:=hpM.length_eq
    have hM:M=sortV L:=sortG_unique ordV (fun x _ y _=>alikeV) (SortedP.of (by rw [hMl]; exact hsM)) hpM
    (have zz:=and_self; repeat' (first | apply w_seq | apply w_ops0 | apply w_ret | apply a_n | apply o_nil | refine vZ ?_ | refine e_ends rfl ?_ | refine r1Z ?_ | fail)) <;> (try clear zz)
    rw [← hM]
    exact snap_rowV hps.at_ rfl hMl
end Go.Proofs.YtbiikomnhkbblaaGreat
