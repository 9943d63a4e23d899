/- Texts of this claim, one after the other: U6p, U7p, U8p, U10p, U12p, U13p, T106, T109, T110, T111, T112, T113, T107, T114, T115, T116, T117, A33, T122, T118, T121. -/
import Derived.Test.YtbgdcebmgjafjaaGreatXG4
import Derived.Test.YtbgdcebmgjafjaaGreatXG3
import Derived.Test.YtbgdcebmgjafjaaGreatRows
import Derived.WalkKit
import Derived.ProofKit
import Derived.OpenShut

set_option linter.unusedSimpArgs false
set_option linter.unusedVariables false
namespace Go.Proofs.YtbgdcebmgjafjaaGreat
open Go Go.Abs
section
variable {α:Type} [Inhabited α] {f:α→AV} {K:α→α→Int} {G:α→Prop} {g:Nat} {caps:List AV}
attribute [local irreducible] aD ai bd bg aQ aV aA aU bj bD Go.Abs.Fn be Go.Abs.Pure aB aK Yl
theorem lK (hc:Cmp2 Tryz.prog f K G g caps) {L:List α} {H:Hp} {b c nx n i j k s lo hi:Nat} (hH:H b=some (L.c2 f)) (hbc:b ≠ c) (hcc:H c=some [.int .i64 (s:Nat)]) (hn:L.length=n) (hG:∀ x ∈ L,G x) (hi1:lo ≤ i∧i < hi) (hj1:lo ≤ j∧j < hi) (hk1:lo ≤ k∧k < hi) (hhi:hi ≤ n) (hn2:n ≤ 1000000000) (hs:s ≤ 50) :
    Abs.Fn Tryz.prog 154 [.msl b (n * 2) 2 0 n,.int .i64 i,.int .i64 j,.int .i64 k,.ptr c 1 0,.func g caps] H nx fun r H' nx'=>nx'=nx∧∃ p s':Nat,r=.int .i64 p∧lo ≤ p∧p < hi∧s' ≤ s + 3∧H'=al H c [.int .i64 s']:=by
 refine Abs.Fn.of_c2 follows xV (Nat.le_of_ble_eq_true rfl) ?_
 simp only [wC,cO,cG,cN,cM,cD,cF,cB,ap,aH]
 (have zz:=and_self; repeat' (first | refine zW ?_ | apply a_n | refine zO ?_ | refine vZ ?_ | fail)) <;> (try clear zz)
 refine a8 ev0 ev0 (kA hc (b:=b) hH hcc hn hG (i:=i) (j:=j) (by omega) (by omega) hn2 (by omega)) ?_
 rintro _ _ _ ⟨rfl,i1,j1,s1,rfl,h1,hs1,rfl⟩
 (have zz:=and_self; repeat' (first | refine zW ?_ | apply a_n | refine zO ?_ | refine vZ ?_ | fail)) <;> (try clear zz)
 refine a8 ev0 ev0 (kA hc (b:=b) (by rw [am hbc]; exact hH) ar hn hG (i:=j1) (j:=k) (by omega) (by omega) hn2 (by omega)) ?_
 rintro _ _ _ ⟨rfl,j2,k2,s2,rfl,h2,hs2,rfl⟩
 (have zz:=and_self; repeat' (first | refine zW ?_ | apply a_n | refine zO ?_ | refine vZ ?_ | fail)) <;> (try clear zz)
 refine a8 ev0 ev0 (kA hc (b:=b) (by rw [az,am hbc]; exact hH) ar hn hG (i:=i1) (j:=j2) (by omega) (by omega) hn2 (by omega)) ?_
 rintro _ _ _ ⟨rfl,i3,j3,s3,rfl,h3,hs3,rfl⟩
 (have zz:=and_self; repeat' (first | refine zW ?_ | apply a_n | refine zO ?_ | refine vZ ?_ | refine ag rfl ?_ | refine r1Z ?_ | fail)) <;> (try clear zz)
 exact ⟨rfl,j3,s3,rfl,by omega,by omega,by omega,by rw [az,az]⟩
theorem lI (hc:Cmp2 Tryz.prog f K G g caps) {L:List α} {H:Hp} {b c nx n i s lo hi:Nat} (hH:H b=some (L.c2 f)) (hbc:b ≠ c) (hcc:H c=some [.int .i64 (s:Nat)]) (hn:L.length=n) (hG:∀ x ∈ L,G x) (hi1:lo + 1 ≤ i∧i + 1 < hi) (hhi:hi ≤ n) (hn2:n ≤ 1000000000) (hs:s ≤ 50) :
    Abs.Fn Tryz.prog 153 [.msl b (n * 2) 2 0 n,.int .i64 i,.ptr c 1 0,.func g caps] H nx fun r H' nx'=>nx'=nx∧∃ p s':Nat,r=.int .i64 p∧lo ≤ p∧p < hi∧s' ≤ s + 3∧H'=al H c [.int .i64 s']:=by
 obtain ⟨m,rfl⟩:∃ m,i=m + 1:=⟨i - 1,by omega⟩
 have t1:((m + 1:Nat):Int) - 1=(m:Int):=by omega
 have t2:((m + 1:Nat):Int) + 1=((m + 1 + 1:Nat):Int):=by omega
 refine Abs.Fn.of_c2 follows xy (Nat.le_of_ble_eq_true rfl) ?_
 simp only [xB,cO,cG,cN,cM,cD,cF,cB,ap,aH]
 (have zz:=aI @t1 @t2; repeat' (first | refine zW ?_ | apply a_n | refine zO ?_ | refine vZ ?_ | fail)) <;> (try clear zz)
 refine a8 ev0 ev0 (lK hc (b:=b) hH hbc hcc hn hG (i:=m) (j:=m + 1) (k:=m + 1 + 1) (lo:=lo) (hi:=hi) (by omega) (by omega) (by omega) hhi hn2 hs) ?_
 rintro _ _ _ ⟨rfl,p,s1,rfl,h1,h2,hs1,rfl⟩
 (have zz:=and_self; repeat' (first | apply a_n | refine zO ?_ | refine vZ ?_ | refine ag rfl ?_ | refine r1Z ?_ | fail)) <;> (try clear zz)
 exact ⟨rfl,p,s1,rfl,h1,h2,hs1,rfl⟩
theorem tn (hc:Cmp2 Tryz.prog f K G g caps) {L:List α} {H:Hp} {b nx n a e:Nat} (hH:H b=some (L.c2 f)) (hbx:b < nx) (hn:L.length=n) (hG:∀ x ∈ L,G x) (hae:a + 8 ≤ e) (hen:e ≤ n) (hn2:n ≤ 1000000000) :
    Abs.Fn Tryz.prog 135 [.msl b (n * 2) 2 0 n,.int .i64 a,.int .i64 e,.func g caps] H nx fun r H' nx'=>nx'=nx + 1∧∃ (p:Nat) (hint:Int) (v:List AV),r=.tup [.int .i64 p,.int .i64 hint]∧a ≤ p∧p < e∧H'=al H nx v:=by
 obtain ⟨l,rfl⟩:∃ l,e=a + l:=⟨e - a,by omega⟩
 have te:((a + l:Nat):Int) - (a:Int)=(l:Int):=by omega
 obtain ⟨q,hq⟩:∃ q,l / 4=q:=⟨_,rfl⟩
 have tq:aO .quo false false (.int .i64 (l:Int)) (.int .i64 4)=some (.int .i64 (q:Int)):=by
  rw [jX (by omega) (by omega) (by omega)]
  congr 2
  omega
 have w1:(a:Int) + (q:Int) * 1=((a + q:Nat):Int):=by omega
 have w2:(a:Int) + (q:Int) * 2=((a + q * 2:Nat):Int):=by omega
 have w3:(a:Int) + (q:Int) * 3=((a + q * 3:Nat):Int):=by omega
 have hbn:b ≠ nx:=by omega
 refine Abs.Fn.of_c2 follows xL (Nat.le_of_ble_eq_true rfl) ?_
 simp only [v5,cO,cG,cN,cM,cD,cF,cB,ap,aH]
 have last:∀ (s:Nat) (H1:Hp),H1=al (al H nx [.int .i64 0]) nx [.int .i64 s]→H1 nx=some [.int .i64 (s:Nat)]:=fun s H1 h=>by rw [h]; exact ar
 have hHn:∀ v,al H nx v b=some (L.c2 f):=fun v=>by rw [am hbn]; exact hH
 by_cases h50:50 ≤ l
 ·(have zz:=aI @te (aI @tq (aI @w1 (aI @w2 @w3))); repeat' (first | refine zW ?_ | apply a_n | refine zO ?_ | refine vZ ?_ | refine alZ ?_ | (refine zGZ ?_ ?_ <;> (intro _hg; try (exfalso; omega))) | fail)) <;> (try clear zz)
  refine a8 ev0 ev0 (lI hc (b:=b) (c:=nx) (s:=0) (i:=a + q) (lo:=a) (hi:=a + l) (hHn _) hbn ar hn hG (by omega) (by omega) hn2 (by omega)) ?_
  rintro _ _ _ ⟨rfl,p1,s1,rfl,k1,k2,hs1,rfl⟩
  rw [az]
  (have zz:=and_self; repeat' (first | refine zW ?_ | apply a_n | refine zO ?_ | refine vZ ?_ | fail)) <;> (try clear zz)
  refine a8 ev0 ev0 (lI hc (b:=b) (c:=nx) (s:=s1) (i:=a + q * 2) (lo:=a) (hi:=a + l) (hHn _) hbn ar hn hG (by omega) (by omega) hn2 (by omega)) ?_
  rintro _ _ _ ⟨rfl,p2,s2,rfl,k3,k4,hs2,rfl⟩
  rw [az]
  (have zz:=and_self; repeat' (first | apply a_n | refine zO ?_ | refine vZ ?_ | fail)) <;> (try clear zz)
  refine a8 ev0 ev0 (lI hc (b:=b) (c:=nx) (s:=s2) (i:=a + q * 3) (lo:=a) (hi:=a + l) (hHn _) hbn ar hn hG (by omega) (by omega) hn2 (by omega)) ?_
  rintro _ _ _ ⟨rfl,p3,s3,rfl,k5,k6,hs3,rfl⟩
  rw [az]
  (have zz:=and_self; repeat' (first | apply a_n | refine zO ?_ | refine vZ ?_ | fail)) <;> (try clear zz)
  refine a8 ev0 ev0 (lK hc (b:=b) (c:=nx) (s:=s3) (i:=p1) (j:=p2) (k:=p3) (lo:=a) (hi:=a + l) (hHn _) hbn ar hn hG (by omega) (by omega) (by omega) (by omega) hn2 (by omega)) ?_
  rintro _ _ _ ⟨rfl,p4,s4,rfl,k7,k8,hs4,rfl⟩
  rw [az]
  (have zz:=and_self; repeat' (first | refine zW ?_ | apply a_n | refine zO ?_ | refine vZ ?_ | (refine zGZ ?_ ?_ <;> (intro _hg; try (exfalso; omega))) | refine ag rfl ?_ | refine r2Z ?_ | fail)) <;> (try clear zz)
  all_goals exact ⟨rfl,p4,_,_,rfl,by omega,by omega,rfl⟩
 ·(have zz:=aI @te (aI @tq (aI @w1 (aI @w2 @w3))); repeat' (first | refine zW ?_ | apply a_n | refine zO ?_ | refine vZ ?_ | refine alZ ?_ | (refine zGZ ?_ ?_ <;> (intro _hg; try (exfalso; omega))) | fail)) <;> (try clear zz)
  refine a8 ev0 ev0 (lK hc (b:=b) (c:=nx) (s:=0) (i:=a + q) (j:=a + q * 2) (k:=a + q * 3) (lo:=a) (hi:=a + l) (hHn _) hbn ar hn hG (by omega) (by omega) (by omega) (by omega) hn2 (by omega)) ?_
  rintro _ _ _ ⟨rfl,p4,s4,rfl,k7,k8,hs4,rfl⟩
  rw [az]
  (have zz:=and_self; repeat' (first | refine zW ?_ | apply a_n | refine zO ?_ | refine vZ ?_ | (refine zGZ ?_ ?_ <;> (intro _hg; try (exfalso; omega))) | refine ag rfl ?_ | refine r2Z ?_ | fail)) <;> (try clear zz)
  all_goals exact ⟨rfl,p4,_,_,rfl,by omega,by omega,rfl⟩
end
end Go.Proofs.YtbgdcebmgjafjaaGreat
namespace Go.Proofs.YtbgdcebmgjafjaaGreat
open Go Go.Abs
section
variable {α:Type} [Inhabited α] {f:α→AV} {K:α→α→Int} {G:α→Prop} {g:Nat} {caps:List AV}
attribute [local irreducible] aD ai bd bg aQ aV aA aU bj bD Go.Abs.Fn be Go.Abs.Pure aB aK Yl
set_option maxHeartbeats 1000000 in
theorem rm (hc:Cmp2 Tryz.prog f K G g caps) {L:List α} {H:Hp} {b nx n a e:Nat} (hH:H b=some (L.c2 f)) (hn:L.length=n) (hG:∀ x ∈ L,G x) (hae:a < e) (hen:e ≤ n) (hn2:n ≤ 1000000000) (hlow:lU K a e L) :
    Abs.Fn Tryz.prog 137 [.msl b (n * 2) 2 0 n,.int .i64 a,.int .i64 e,.func g caps] H nx fun r H' nx'=>nx'=nx∧∃ L' t,r=.bool t∧H'=al H b (L'.c2 f)∧PermR a e L L'∧(t=true→aM K a e L'):=by
 have dcap:=hc.dcaps
 refine Abs.Fn.of_c2 follows xx (Nat.le_of_ble_eq_true rfl) ?_
 simp only [wF,cO,cG,cN,cM,cD,cF,cB,ap,aH]
 (have zz:=and_self; repeat' (first | refine zW ?_ | apply a_n | refine zO ?_ | refine vZ ?_ | fail)) <;> (try clear zz)
 refine aY (X:=Nat × Nat × List α) (fun x=>[(0,.msl b (n * 2) 2 0 n),(1,.int .i64 a),(2,.int .i64 e),(3,.func g caps),(9,.int .i64 (x.2.1:Nat)),(10,.int .i64 (x.1:Nat))]) (fun x H' nxx=>x.1 ≤ 5∧a + 1 ≤ x.2.1∧x.2.1 ≤ e∧H'=al H b (x.2.2.c2 f)∧nx=nxx∧PermR a e L x.2.2∧aM K a x.2.1 x.2.2) (fun x=>5 - x.1) (0,a + 1,L) ⟨by dsimp only; omega,Nat.le_refl _,hae,gl hH,rfl,.refl,aM.one (Nat.le_refl _)⟩ ag0 ?_
 rintro ⟨jj,i0,M0⟩ H' nxx ⟨h1,h2,h3,rfl,rfl,hp0,hs0⟩
 dsimp only at *
 by_cases h5:jj=5
 ·subst h5
  (have zz:=and_self; repeat' (first | refine zW ?_ | apply a_n | apply a_x | refine zO ?_ | refine vZ ?_ | (refine zGZ ?_ ?_ <;> (intro _hg; try (exfalso; omega))) | refine ag rfl ?_ | refine r1Z ?_ | fail)) <;> (try clear zz)
  exact ⟨rfl,M0,false,rfl,rfl,hp0,fun h=>absurd h (by decide)⟩
 have hl:M0.length=n:=by rw [hp0.len,hn]
 have hGM:=hp0.mem hG
 refine bq (fun T H'' nx''=>T 0=.msl b (n * 2) 2 0 n∧T 1=.int .i64 a∧T 2=.int .i64 e∧T 3=.func g caps∧T 9=.int .i64 (i0:Nat)∧T 10=.int .i64 (jj:Nat)∧H''=al H b ((M0).c2 f)∧nx=nx'') ?_ ?_
 ·(have zz:=and_self; repeat' (first | refine zW ?_ | apply a_n | refine zO ?_ | refine vZ ?_ | (refine zGZ ?_ ?_ <;> (intro _hg; try (exfalso; omega))) | fail)) <;> (try clear zz)
  exact ⟨rfl,rfl,rfl,rfl,rfl,rfl,rfl,rfl⟩
 rintro T _ _ ⟨t0,t1,t2,t3,t9,t10,rfl,rfl⟩
 refine bq (fun T H'' nx''=>∃ (i:Nat) (M:List α),a + 1 ≤ i∧i ≤ e∧PermR a e L M∧aM K a i M∧T 0=.msl b (n * 2) 2 0 n∧T 1=.int .i64 a∧T 2=.int .i64 e∧T 3=.func g caps∧T 9=.int .i64 (i:Nat)∧T 10=.int .i64 (jj:Nat)∧H''=al H b ((M).c2 f)∧nx=nx'') ?_ ?_
 rotate_left
 ·clear t0 t1 t2 t3 t9 t10
  rintro T _ _ ⟨i,M,k1,k2,hp,hs,t0,t1,t2,t3,t9,t10,rfl,rfl⟩
  (have zz:=aI @t0 (aI @t1 (aI @t2 (aI @t3 (aI @t9 @t10)))); repeat' (first | apply a_n | refine zO ?_ | refine vZ ?_ | fail)) <;> (try clear zz)
  exact ⟨(jj + 1,i,M),by dsimp only; omega,⟨by dsimp only; omega,k1,k2,rfl,rfl,hp,hs⟩,(have zz:=aI @t0 (aI @t1 (aI @t2 (aI @t3 (aI @t9 @t10)))); agZ)⟩
 refine fj ?_
 refine bq (fun T H'' nx''=>∃ (i:Nat),a + 1 ≤ i∧i ≤ e∧aM K a i M0∧(i < e→K (M0.getD i default) (M0.getD (i - 1) default) < 0)∧T 0=.msl b (n * 2) 2 0 n∧T 1=.int .i64 a∧T 2=.int .i64 e∧T 3=.func g caps∧T 9=.int .i64 (i:Nat)∧T 10=.int .i64 (jj:Nat)∧H''=al H b ((M0).c2 f)∧nx=nx'') ?_ ?_
 ·(have zz:=aI @t0 (aI @t1 (aI @t2 (aI @t3 (aI @t9 @t10)))); repeat' (first | refine zW ?_ | apply a_n | refine zO ?_ | fail)) <;> (try clear zz)
  refine aY (X:=Nat) (fun i=>[(0,.msl b (n * 2) 2 0 n),(1,.int .i64 a),(2,.int .i64 e),(3,.func g caps),(9,.int .i64 (i:Nat)),(10,.int .i64 (jj:Nat))]) (fun i H' nxx=>a + 1 ≤ i∧i ≤ e∧H'=al H b (M0.c2 f)∧nx=nxx∧aM K a i M0) (fun i=>e - i) i0 ⟨h2,h3,rfl,rfl,hs0⟩ (have zz:=aI @t0 (aI @t1 (aI @t2 (aI @t3 (aI @t9 @t10)))); agZ) ?_
  clear hs0 h2 h3
  rintro i H' nxx ⟨h2,h3,rfl,rfl,hs⟩
  by_cases hie:i=e
  ·subst hie
   (have zz:=and_self; repeat' (first | refine zW ?_ | refine zM ?_ | apply a_n | apply a_x | refine zO ?_ | refine vZ ?_ | refine gFZ ?_ | (refine zGZ ?_ ?_ <;> (intro _hg; try (exfalso; omega))) | refine cFZ ?_ | fail)) <;> (try clear zz)
   exact ⟨i,h2,h3,hs,fun h=>absurd h (Nat.lt_irrefl _),rfl,rfl,rfl,rfl,rfl,rfl,rfl,rfl⟩
  obtain ⟨m,rfl⟩:∃ m,i=m + 1:=⟨i - 1,by omega⟩
  have tj:((m + 1:Nat):Int) - 1=(m:Int):=by omega
  have lc:=hc.run (M0.getD (m + 1) default) (M0.getD m default) (hGM _ (aJ (by omega))) (hGM _ (aJ (by omega)))
  have e1:=hc.dat (M0.getD (m + 1) default)
  have e2:=hc.dat (M0.getD m default)
  generalize hKK:K (M0.getD (m + 1) default) (M0.getD m default)=kk at lc
  by_cases hlt:kk < 0
  ·(have zz:=aI @tj (aI @Int.toNat_natCast (aI (b4 hc.len) (aI (aZ hc.len) (aI @aP (aI hc.agg hc.ones))))); repeat' (first | refine zW ?_ | refine zM ?_ | apply a_n | apply a_x | refine zO ?_ | refine vZ ?_ | refine cZ ?_ (hp:=lc) (hs:=by (first | refine aa ?_ rfl | apply ae); (repeat' (first | exact ab | apply ah | apply af | exact e1 | exact e2 | exact aC dcap)); first | done | fail) | refine gTZ ?_ | (refine zGZ ?_ ?_ <;> (intro _hg; try (exfalso; omega))) | fail)) <;> (try clear zz)
   exact ⟨m + 1,h2,h3,hs,fun _=>by rw [Nat.add_sub_cancel,hKK]; exact hlt,rfl,rfl,rfl,rfl,rfl,rfl,rfl,rfl⟩
  ·(have zz:=aI @tj (aI @Int.toNat_natCast (aI (b4 hc.len) (aI (aZ hc.len) (aI @aP (aI hc.agg hc.ones))))); repeat' (first | refine zW ?_ | refine zM ?_ | apply a_n | refine zO ?_ | refine vZ ?_ | refine cZ ?_ (hp:=lc) (hs:=by (first | refine aa ?_ rfl | apply ae); (repeat' (first | exact ab | apply ah | apply af | exact e1 | exact e2 | exact aC dcap)); first | done | fail) | refine gTZ ?_ | (refine zGZ ?_ ?_ <;> (intro _hg; try (exfalso; omega))) | fail)) <;> (try clear zz)
   exact ⟨m + 1 + 1,by omega,⟨by omega,by omega,rfl,rfl,hs.snoc hc.ord (by omega) (by rw [Nat.add_sub_cancel,hKK]; exact hlt)⟩,ag0⟩
 clear t0 t1 t2 t3 t9 t10 hs0 h2 h3
 rintro T _ _ ⟨i,h2,h3,hs,hless,t0,t1,t2,t3,t9,t10,rfl,rfl⟩
 by_cases hie:i=e
 ·subst hie
  have ten:decide ((i:Int)=(i:Int))=true:=decide_eq_true rfl
  (have zz:=aI @t0 (aI @t1 (aI @t2 (aI @t3 (aI @t9 (aI @t10 @ten))))); repeat' (first | refine zW ?_ | apply a_n | apply a_r | refine zO ?_ | refine vZ ?_ | (refine zGZ ?_ ?_ <;> (intro _hg; try (exfalso; omega))) | refine ag rfl ?_ | refine r1Z ?_ | fail)) <;> (try clear zz)
  exact ⟨rfl,M0,true,rfl,rfl,hp0,fun _=>hs⟩
 replace hless:=hless (by omega)
 have ten:decide ((i:Int)=(e:Int))=false:=decide_eq_false (by omega)
 refine bq (fun T H'' nx''=>T 0=.msl b (n * 2) 2 0 n∧T 1=.int .i64 a∧T 2=.int .i64 e∧T 3=.func g caps∧T 9=.int .i64 (i:Nat)∧T 10=.int .i64 (jj:Nat)∧H''=al H b ((M0).c2 f)∧nx=nx'') ?_ ?_
 ·(have zz:=aI @t0 (aI @t1 (aI @t2 (aI @t3 (aI @t9 (aI @t10 @ten))))); repeat' (first | refine zW ?_ | apply a_n | refine zO ?_ | refine vZ ?_ | refine cFZ ?_ | fail)) <;> (try clear zz)
  exact ⟨(have zz:=@t0; evZ),(have zz:=@t1; evZ),(have zz:=@t2; evZ),(have zz:=@t3; evZ),(have zz:=@t9; evZ),(have zz:=@t10; evZ),rfl,rfl⟩
 clear t0 t1 t2 t3 t9 t10 ten
 rintro T _ _ ⟨t0,t1,t2,t3,t9,t10,rfl,rfl⟩
 refine bq (fun T H'' nx''=>T 0=.msl b (n * 2) 2 0 n∧T 1=.int .i64 a∧T 2=.int .i64 e∧T 3=.func g caps∧T 9=.int .i64 (i:Nat)∧T 10=.int .i64 (jj:Nat)∧H''=al H b ((M0).c2 f)∧nx=nx'') ?_ ?_
 ·(have zz:=aI @t0 (aI @t1 (aI @t2 (aI @t3 (aI @t9 @t10)))); repeat' (first | refine zW ?_ | apply a_n | apply a_r | refine zO ?_ | refine vZ ?_ | (refine zGZ ?_ ?_ <;> (intro _hg; try (exfalso; omega))) | refine ag rfl ?_ | refine r1Z ?_ | fail)) <;> (try clear zz)
  ·exact ⟨rfl,M0,false,rfl,rfl,hp0,fun h=>absurd h (by decide)⟩
  ·exact ⟨(have zz:=@t0; evZ),(have zz:=@t1; evZ),(have zz:=@t2; evZ),(have zz:=@t3; evZ),(have zz:=@t9; evZ),(have zz:=@t10; evZ),rfl,rfl⟩
 clear t0 t1 t2 t3 t9 t10
 rintro T _ _ ⟨t0,t1,t2,t3,t9,t10,rfl,rfl⟩
 obtain ⟨m,rfl⟩:∃ m,i=m + 1:=⟨i - 1,by omega⟩
 have tj:((m + 1:Nat):Int) - 1=(m:Int):=by omega
 rw [Nat.add_sub_cancel] at hless
 obtain ⟨M1,hl1,lm1,lm2,c1,c2,c3,c4⟩:=bB (f:=f) hc.len (M:=M0) (i:=m + 1) (j:=m) (by omega) (by omega)
 have lm3:=lm2
 simp only [bu] at lm1 lm2
 refine bq (fun T H'' nx''=>T 0=.msl b (n * 2) 2 0 n∧T 1=.int .i64 a∧T 2=.int .i64 e∧T 3=.func g caps∧T 9=.int .i64 (m + 1:Nat)∧T 10=.int .i64 (jj:Nat)∧H''=al H b ((swp M0 (m + 1) m).c2 f)∧nx=nx'') ?_ ?_
 ·(have zz:=aI @t0 (aI @t1 (aI @t2 (aI @t3 (aI @t9 (aI @t10 (aI @Int.toNat_natCast (aI (b4 hc.len) (aI (aZ hc.len) (aI @aP (aI hc.agg (aI hc.ones (aI @tj (aI @lm1 @lm2))))))))))))); repeat' (first | apply a_n | refine zO ?_ | refine vZ ?_ | refine stZ ?_ | fail)) <;> (try clear zz)
  exact ⟨(have zz:=@t0; evZ),(have zz:=@t1; evZ),(have zz:=@t2; evZ),(have zz:=@t3; evZ),(have zz:=@t9; evZ),(have zz:=@t10; evZ),by rw [az,az,lm3],rfl⟩
 clear t0 t1 t2 t3 t9 t10
 have hp1:PermR a e L (swp M0 (m + 1) m):=hp0.trans (PermR.swap (by omega) (by omega) (by omega))
 have hal:=(dE.start hs).step hc.ord (by omega) (Nat.le_refl _) (by omega) hless
 clear hs hless lm1 lm2 lm3 hl1 c1 c2 c3 c4 M1
 generalize swp M0 (m + 1) m=M2 at hp1 hal
 clear hp0 hGM hl
 rintro T _ _ ⟨t0,t1,t2,t3,t9,t10,rfl,rfl⟩
 refine bq (fun T H'' nx''=>∃ M:List α,PermR a e L M∧aM K a (m + 1) M∧T 0=.msl b (n * 2) 2 0 n∧T 1=.int .i64 a∧T 2=.int .i64 e∧T 3=.func g caps∧T 9=.int .i64 (m + 1:Nat)∧T 10=.int .i64 (jj:Nat)∧H''=al H b ((M).c2 f)∧nx=nx'') ?_ ?_
 ·by_cases h2a:m=a
  ·subst h2a
   have td:decide ((2:Int) ≤ ((m + 1:Nat):Int) - (m:Int))=false:=decide_eq_false (by omega)
   (have zz:=aI @t0 (aI @t1 (aI @t2 (aI @t3 (aI @t9 (aI @t10 @td))))); repeat' (first | refine zW ?_ | apply a_n | refine zO ?_ | refine vZ ?_ | refine cFZ ?_ | fail)) <;> (try clear zz)
   exact ⟨M2,hp1,(hal.done hc.ord (.inl rfl)).mono (Nat.le_refl _) (by omega),(have zz:=@t0; evZ),(have zz:=@t1; evZ),(have zz:=@t2; evZ),(have zz:=@t3; evZ),(have zz:=@t9; evZ),(have zz:=@t10; evZ),rfl,rfl⟩
  have td:decide ((2:Int) ≤ ((m + 1:Nat):Int) - (a:Int))=true:=decide_eq_true (by omega)
  (have zz:=aI @t0 (aI @t1 (aI @t2 (aI @t3 (aI @t9 (aI @t10 (aI @td @tj)))))); repeat' (first | refine zW ?_ | apply a_n | refine zO ?_ | refine vZ ?_ | refine cTZ ?_ | fail)) <;> (try clear zz)
  refine aY (X:=Nat × List α) (fun x=>[(0,.msl b (n * 2) 2 0 n),(1,.int .i64 a),(2,.int .i64 e),(3,.func g caps),(9,.int .i64 (m + 1:Nat)),(10,.int .i64 (jj:Nat)),(11,.int .i64 (x.1:Nat))]) (fun x H' nxx=>a ≤ x.1∧x.1 ≤ m∧H'=al H b (x.2.c2 f)∧nx=nxx∧PermR a e L x.2∧dE K a (m + 1) x.1 x.2) (fun x=>x.1) (m,M2) ⟨by dsimp only; omega,Nat.le_refl _,rfl,rfl,hp1,hal⟩ (have zz:=aI @t0 (aI @t1 (aI @t2 (aI @t3 (aI @t9 @t10)))); agZ) ?_
  clear t0 t1 t2 t3 t9 t10 hp1 hal M2
  rintro ⟨j,M⟩ H' nxx ⟨a1,a2,rfl,rfl,hp,hal⟩
  dsimp only at *
  have hl:M.length=n:=by rw [hp.len,hn]
  have hGM:=hp.mem hG
  rcases Nat.eq_zero_or_pos j with ej | ej
  ·subst ej
   (have zz:=and_self; repeat' (first | refine zW ?_ | apply a_n | apply a_x | refine zO ?_ | refine vZ ?_ | (refine zGZ ?_ ?_ <;> (intro _hg; try (exfalso; omega))) | fail)) <;> (try clear zz)
   exact ⟨M,hp,(hal.done hc.ord (.inl (by omega))).mono (Nat.le_refl _) (by omega),rfl,rfl,rfl,rfl,rfl,rfl,rfl,rfl⟩
  obtain ⟨k,rfl⟩:∃ k,j=k + 1:=⟨j - 1,by omega⟩
  have tk:((k + 1:Nat):Int) - 1=(k:Int):=by omega
  have lc:=hc.run (M.getD (k + 1) default) (M.getD k default) (hGM _ (aJ (by omega))) (hGM _ (aJ (by omega)))
  have e1:=hc.dat (M.getD (k + 1) default)
  have e2:=hc.dat (M.getD k default)
  have hlw:=hlow.perm hp (by omega) (by omega)
  generalize hKK:K (M.getD (k + 1) default) (M.getD k default)=kk at lc
  by_cases hlt:kk < 0
  ·have hak:k + 1 ≠ a:=fun h=>by
     subst h
     have:=hlw (k + 1) (by omega) (Nat.le_refl _) (by omega)
     rw [Nat.add_sub_cancel,hKK] at this
     exact this hlt
   obtain ⟨M1,hl1,lm1,lm2,c1,c2,c3,c4⟩:=bB (f:=f) hc.len (M:=M) (i:=k + 1) (j:=k) (by omega) (by omega)
   have lm3:=lm2
   simp only [bu] at lm1 lm2
   (have zz:=aI @tk (aI @Int.toNat_natCast (aI (b4 hc.len) (aI (aZ hc.len) (aI @aP (aI hc.agg (aI hc.ones (aI @lm1 @lm2))))))); repeat' (first | refine zW ?_ | refine zM ?_ | apply a_n | refine zO ?_ | refine vZ ?_ | refine cZ ?_ (hp:=lc) (hs:=by (first | refine aa ?_ rfl | apply ae); (repeat' (first | exact ab | apply ah | apply af | exact e1 | exact e2 | exact aC dcap)); first | done | fail) | refine stZ ?_ | (refine zGZ ?_ ?_ <;> (intro _hg; try (exfalso; omega))) | fail)) <;> (try clear zz)
   exact ⟨(k,swp M (k + 1) k),by dsimp only; omega,⟨by dsimp only; omega,by dsimp only; omega,by dsimp only; rw [az,az,lm3],rfl,hp.trans (PermR.swap (by omega) (by omega) (by omega)),hal.step hc.ord (by omega) (by omega) (by omega) (by rw [hKK]; exact hlt)⟩,(have zz:=@tk; agZ)⟩
  ·have hd:k + 1=a ∨ (a < k + 1∧¬ K (M.getD (k + 1) default) (M.getD (k + 1 - 1) default) < 0):=by
     by_cases h:k + 1=a
     ·exact .inl h
     ·exact .inr ⟨by omega,by rw [Nat.add_sub_cancel,hKK]; exact hlt⟩
   (have zz:=aI @tk (aI @Int.toNat_natCast (aI (b4 hc.len) (aI (aZ hc.len) (aI @aP (aI hc.agg hc.ones))))); repeat' (first | refine zW ?_ | refine zM ?_ | apply a_n | apply a_x | refine zO ?_ | refine vZ ?_ | refine cZ ?_ (hp:=lc) (hs:=by (first | refine aa ?_ rfl | apply ae); (repeat' (first | exact ab | apply ah | apply af | exact e1 | exact e2 | exact aC dcap)); first | done | fail) | (refine zGZ ?_ ?_ <;> (intro _hg; try (exfalso; omega))) | fail)) <;> (try clear zz)
   exact ⟨M,hp,(hal.done hc.ord hd).mono (Nat.le_refl _) (by omega),rfl,rfl,rfl,rfl,rfl,rfl,rfl,rfl⟩
 clear t0 t1 t2 t3 t9 t10 hp1 hal M2
 rintro T _ _ ⟨M2,hp1,hs,t0,t1,t2,t3,t9,t10,rfl,rfl⟩
 by_cases h2a:m + 1 + 2 ≤ e
 rotate_left
 ·have td:decide ((2:Int) ≤ (e:Int) - ((m + 1:Nat):Int))=false:=decide_eq_false (by omega)
  (have zz:=aI @t0 (aI @t1 (aI @t2 (aI @t3 (aI @t9 (aI @t10 @td))))); repeat' (first | refine zW ?_ | apply a_n | refine zO ?_ | refine vZ ?_ | refine cFZ ?_ | fail)) <;> (try clear zz)
  exact ⟨m + 1,M2,h2,h3,hp1,hs,(have zz:=@t0; evZ),(have zz:=@t1; evZ),(have zz:=@t2; evZ),(have zz:=@t3; evZ),(have zz:=@t9; evZ),(have zz:=@t10; evZ),rfl,rfl⟩
 have td:decide ((2:Int) ≤ (e:Int) - ((m + 1:Nat):Int))=true:=decide_eq_true (by omega)
 have tj2:((m + 1:Nat):Int) + 1=((m + 1 + 1:Nat):Int):=by omega
 (have zz:=aI @t0 (aI @t1 (aI @t2 (aI @t3 (aI @t9 (aI @t10 (aI @td @tj2)))))); repeat' (first | refine zW ?_ | apply a_n | refine zO ?_ | refine vZ ?_ | refine cTZ ?_ | fail)) <;> (try clear zz)
 refine aY (X:=Nat × List α) (fun x=>[(0,.msl b (n * 2) 2 0 n),(1,.int .i64 a),(2,.int .i64 e),(3,.func g caps),(9,.int .i64 (m + 1:Nat)),(10,.int .i64 (jj:Nat)),(12,.int .i64 (x.1:Nat))]) (fun x H' nxx=>m + 1 + 1 ≤ x.1∧x.1 ≤ e∧H'=al H b (x.2.c2 f)∧nx=nxx∧PermR a e L x.2∧aM K a (m + 1) x.2) (fun x=>e - x.1) (m + 1 + 1,M2) ⟨Nat.le_refl _,by dsimp only; omega,rfl,rfl,hp1,hs⟩ (have zz:=aI @t0 (aI @t1 (aI @t2 (aI @t3 (aI @t9 @t10)))); agZ) ?_
 clear t0 t1 t2 t3 t9 t10 hp1 hs M2
 rintro ⟨j,M⟩ H' nxx ⟨a1,a2,rfl,rfl,hp,hs⟩
 dsimp only at *
 have hl:M.length=n:=by rw [hp.len,hn]
 have hGM:=hp.mem hG
 by_cases hje:j=e
 ·subst hje
  (have zz:=and_self; repeat' (first | refine zW ?_ | apply a_n | apply a_x | refine zO ?_ | refine vZ ?_ | (refine zGZ ?_ ?_ <;> (intro _hg; try (exfalso; omega))) | fail)) <;> (try clear zz)
  exact ⟨m + 1,M,h2,h3,hp,hs,rfl,rfl,rfl,rfl,rfl,rfl,rfl,rfl⟩
 obtain ⟨k,rfl⟩:∃ k,j=k + 1:=⟨j - 1,by omega⟩
 have tk:((k + 1:Nat):Int) - 1=(k:Int):=by omega
 have lc:=hc.run (M.getD (k + 1) default) (M.getD k default) (hGM _ (aJ (by omega))) (hGM _ (aJ (by omega)))
 have e1:=hc.dat (M.getD (k + 1) default)
 have e2:=hc.dat (M.getD k default)
 generalize hKK:K (M.getD (k + 1) default) (M.getD k default)=kk at lc
 by_cases hlt:kk < 0
 ·obtain ⟨M1,hl1,lm1,lm2,c1,c2,c3,c4⟩:=bB (f:=f) hc.len (M:=M) (i:=k + 1) (j:=k) (by omega) (by omega)
  have lm3:=lm2
  simp only [bu] at lm1 lm2
  (have zz:=aI @tk (aI @Int.toNat_natCast (aI (b4 hc.len) (aI (aZ hc.len) (aI @aP (aI hc.agg (aI hc.ones (aI @lm1 @lm2))))))); repeat' (first | refine zW ?_ | refine zM ?_ | apply a_n | refine zO ?_ | refine vZ ?_ | refine cZ ?_ (hp:=lc) (hs:=by (first | refine aa ?_ rfl | apply ae); (repeat' (first | exact ab | apply ah | apply af | exact e1 | exact e2 | exact aC dcap)); first | done | fail) | refine stZ ?_ | (refine zGZ ?_ ?_ <;> (intro _hg; try (exfalso; omega))) | fail)) <;> (try clear zz)
  exact ⟨(k + 1 + 1,swp M (k + 1) k),by dsimp only; omega,⟨by dsimp only; omega,by dsimp only; omega,by dsimp only; rw [az,az,lm3],rfl,hp.trans (PermR.swap (by omega) (by omega) (by omega)),hs.out (e:=e) (PermR.swap (by omega) (by omega) (by omega))⟩,ag0⟩
 ·(have zz:=aI @tk (aI @Int.toNat_natCast (aI (b4 hc.len) (aI (aZ hc.len) (aI @aP (aI hc.agg hc.ones))))); repeat' (first | refine zW ?_ | refine zM ?_ | apply a_n | apply a_x | refine zO ?_ | refine vZ ?_ | refine cZ ?_ (hp:=lc) (hs:=by (first | refine aa ?_ rfl | apply ae); (repeat' (first | exact ab | apply ah | apply af | exact e1 | exact e2 | exact aC dcap)); first | done | fail) | (refine zGZ ?_ ?_ <;> (intro _hg; try (exfalso; omega))) | fail)) <;> (try clear zz)
  exact ⟨m + 1,M,h2,h3,hp,hs,rfl,rfl,rfl,rfl,rfl,rfl,rfl,rfl⟩
end
end Go.Proofs.YtbgdcebmgjafjaaGreat
namespace Go.Proofs.YtbgdcebmgjafjaaGreat
open Go Go.Abs
section
variable {α:Type} [Inhabited α] {f:α→AV} {K:α→α→Int} {G:α→Prop} {g:Nat} {caps:List AV}
attribute [local irreducible] aD ai bd bg aQ aV aA aU bj bD Go.Abs.Fn be Go.Abs.Pure aB aK Yl
set_option maxHeartbeats 1000000 in
theorem sD (hc:Cmp2 Tryz.prog f K G g caps) {L:List α} {H:Hp} {b nx n a e pv:Nat} (hH:H b=some (L.c2 f)) (hn:L.length=n) (hG:∀ x ∈ L,G x) (hae:a < e) (hen:e ≤ n) (hn2:n ≤ 1000000000) (hpv:a ≤ pv∧pv < e) :
    Abs.Fn Tryz.prog 138 [.msl b (n * 2) 2 0 n,.int .i64 a,.int .i64 e,.int .i64 pv,.func g caps] H nx fun r H' nx'=>nx'=nx∧∃ (L':List α) (m:Nat),r=.int .i64 m∧a < m∧m ≤ e∧H'=al H b (L'.c2 f)∧PermR a e L L'∧(∀ p,a ≤ p→p < m→¬ K (L.getD pv default) (L'.getD p default) < 0)∧(∀ q,m ≤ q→q < e→K (L.getD pv default) (L'.getD q default) < 0):=by
 have dcap:=hc.dcaps
 obtain ⟨v,hv0⟩:∃ v,L.getD pv default=v:=⟨_,rfl⟩
 rw [hv0]
 obtain ⟨P,hP⟩:∃ P:α→Prop,∀ x,P x ↔ ¬ K v x < 0:=⟨_,fun _=>Iff.rfl⟩
 obtain ⟨N,hN⟩:∃ N,swp L a pv=N:=⟨_,rfl⟩
 have hp1:PermR a e L N:=hN ▸ PermR.swap (by omega) (by omega) (by omega)
 have hv1:N.getD a default=v:=by
  rw [← hN,cq (by omega) (by omega),← hv0]
  split
  ·rename_i h; rw [h]
  ·rw [if_pos rfl]
 obtain ⟨M1,hl1,lm1,lm2,c1,c2,c3,c4⟩:=bB (f:=f) hc.len (M:=L) (i:=a) (j:=pv) (by omega) (by omega)
 rw [hN] at lm2
 have lm3:=lm2
 simp only [bu] at lm1 lm2
 obtain ⟨m,hm⟩:∃ m,e=m + 1:=⟨e - 1,by omega⟩
 have te:(e:Int) - 1=(m:Int):=by omega
 have ta:((a:Nat):Int) + 1=((a + 1:Nat):Int):=by omega
 refine Abs.Fn.of_c2 follows wa (Nat.le_of_ble_eq_true rfl) ?_
 simp only [xn,cO,cG,cN,cM,cD,cF,cB,ap,aH]
 (have zz:=aI @hH (aI @te (aI @ta (aI @Int.toNat_natCast (aI (b4 hc.len) (aI (aZ hc.len) (aI @aP (aI hc.agg (aI hc.ones (aI @lm1 @lm2))))))))); repeat' (first | refine zW ?_ | apply a_n | refine zO ?_ | refine vZ ?_ | refine stZ ?_ | fail)) <;> (try clear zz)
 refine aY (X:=Nat × Nat × List α) (fun x=>[(0,.msl b (n * 2) 2 0 n),(1,.int .i64 a),(4,.func g caps),(11,.int .i64 (x.1:Nat)),(12,.int .i64 (x.2.1:Nat))]) (fun x H' nxx=>PartR P a e (x.2.1 + 1 - x.1) x.1 x.2.1 x.2.2∧H'=al H b (x.2.2.c2 f)∧nx=nxx∧PermR a e L x.2.2∧x.2.2.getD a default=v) (fun x=>x.2.1 + 1 - x.1) (a + 1,m,N) ⟨by dsimp only; rw [hm]; exact .start (by omega),by dsimp only; rw [az,lm3],rfl,hp1,hv1⟩ ag0 ?_
 clear lm1 lm2 lm3 hl1 c1 c2 c3 c4 M1 hp1 hv1 hN N te ta hm m
 rintro ⟨i,j,M⟩ H' nxx ⟨hpt,rfl,rfl,hp,hv⟩
 dsimp only at *
 have hl:M.length=n:=by rw [hp.len,hn]
 have hGM:=hp.mem hG
 generalize hmu:j + 1 - i=mu at hpt ⊢
 clear hmu
 obtain ⟨T,hT,t0,t1,t4,t11,t12⟩:∃ T,tl [(0,.msl b (n * 2) 2 0 n),(1,.int .i64 a),(4,.func g caps),(11,.int .i64 (i:Nat)),(12,.int .i64 (j:Nat))]=T∧T 0=.msl b (n * 2) 2 0 n∧T 1=.int .i64 a∧T 4=.func g caps∧T 11=.int .i64 (i:Nat)∧T 12=.int .i64 (j:Nat):=⟨_,rfl,rfl,rfl,rfl,rfl,rfl⟩
 rw [hT]
 clear hT
 refine fj ?_
 refine bq (fun T H'' nx''=>∃ i:Nat,PartR P a e mu i j M∧(i ≤ j→¬ P (M.getD i default))∧T 0=.msl b (n * 2) 2 0 n∧T 1=.int .i64 a∧T 4=.func g caps∧T 11=.int .i64 (i:Nat)∧T 12=.int .i64 (j:Nat)∧H''=al H b ((M).c2 f)∧nx=nx'') ?_ ?_
 ·(have zz:=aI @t0 (aI @t1 (aI @t4 (aI @t11 @t12))); repeat' (first | refine zW ?_ | apply a_n | refine zO ?_ | fail)) <;> (try clear zz)
  refine aY (X:=Nat) (fun i=>[(0,.msl b (n * 2) 2 0 n),(1,.int .i64 a),(4,.func g caps),(11,.int .i64 (i:Nat)),(12,.int .i64 (j:Nat))]) (fun i H' nxx=>PartR P a e mu i j M∧H'=al H b (M.c2 f)∧nx=nxx) (fun i=>j + 1 - i) i ⟨hpt,rfl,rfl⟩ (have zz:=aI @t0 (aI @t1 (aI @t4 (aI @t11 @t12))); agZ) ?_
  clear t0 t1 t4 t11 t12 hpt i
  rintro i H' nxx ⟨hpt,rfl,rfl⟩
  have hlo:=hpt.lo; have hmid:=hpt.mid; have hhi:=hpt.hi
  have ii:((i:Nat):Int) + 1=((i + 1:Nat):Int):=by omega
  by_cases hij:j < i
  ·(have zz:=and_self; repeat' (first | refine zW ?_ | refine zM ?_ | apply a_n | apply a_x | refine zO ?_ | refine vZ ?_ | refine gFZ ?_ | (refine zGZ ?_ ?_ <;> (intro _hg; try (exfalso; omega))) | refine cFZ ?_ | fail)) <;> (try clear zz)
   exact ⟨i,hpt,fun h=>absurd h (by omega),rfl,rfl,rfl,rfl,rfl,rfl,rfl⟩
  have lc:=hc.run (M.getD (a) default) (M.getD (i) default) (hGM _ (aJ (by omega))) (hGM _ (aJ (by omega)))
  have e1:=hc.dat (M.getD (a) default)
  have e2:=hc.dat (M.getD (i) default)
  have hPk:P (M.getD (i) default) ↔ ¬ K (M.getD (a) default) (M.getD (i) default) < 0:=by rw [hP,hv]
  generalize hKK:K (M.getD (a) default) (M.getD (i) default)=kk at lc hPk
  by_cases hlt:kk < 0
  ·(have zz:=aI @ii (aI @Int.toNat_natCast (aI (b4 hc.len) (aI (aZ hc.len) (aI @aP (aI hc.agg hc.ones))))); repeat' (first | refine zW ?_ | refine zM ?_ | apply a_n | apply a_x | refine zO ?_ | refine vZ ?_ | refine cZ ?_ (hp:=lc) (hs:=by (first | refine aa ?_ rfl | apply ae); (repeat' (first | exact ab | apply ah | apply af | exact e1 | exact e2 | exact aC dcap)); first | done | fail) | refine gTZ ?_ | (refine zGZ ?_ ?_ <;> (intro _hg; try (exfalso; omega))) | fail)) <;> (try clear zz)
   exact ⟨i,hpt,fun _=>(by rw [hPk]; first | exact hlt | exact fun h=>h hlt),rfl,rfl,rfl,rfl,rfl,rfl,rfl⟩
  ·(have zz:=aI @ii (aI @Int.toNat_natCast (aI (b4 hc.len) (aI (aZ hc.len) (aI @aP (aI hc.agg hc.ones))))); repeat' (first | refine zW ?_ | refine zM ?_ | apply a_n | refine zO ?_ | refine vZ ?_ | refine cZ ?_ (hp:=lc) (hs:=by (first | refine aa ?_ rfl | apply ae); (repeat' (first | exact ab | apply ah | apply af | exact e1 | exact e2 | exact aC dcap)); first | done | fail) | refine gTZ ?_ | (refine zGZ ?_ ?_ <;> (intro _hg; try (exfalso; omega))) | fail)) <;> (try clear zz)
   exact ⟨i + 1,by omega,⟨hpt.stepUp (by omega) (by rw [hPk]; exact hlt),rfl,rfl⟩,ag0⟩
 clear t0 t1 t4 t11 t12 hpt i
 rintro T _ _ ⟨i,hpt,hni,t0,t1,t4,t11,t12,rfl,rfl⟩
 refine bq (fun T H'' nx''=>∃ j:Nat,PartR P a e mu i j M∧(i ≤ j→¬ P (M.getD i default))∧(i ≤ j→P (M.getD j default))∧T 0=.msl b (n * 2) 2 0 n∧T 1=.int .i64 a∧T 4=.func g caps∧T 11=.int .i64 (i:Nat)∧T 12=.int .i64 (j:Nat)∧H''=al H b ((M).c2 f)∧nx=nx'') ?_ ?_
 ·(have zz:=aI @t0 (aI @t1 (aI @t4 (aI @t11 @t12))); repeat' (first | refine zW ?_ | apply a_n | refine zO ?_ | fail)) <;> (try clear zz)
  refine aY (X:=Nat) (fun j=>[(0,.msl b (n * 2) 2 0 n),(1,.int .i64 a),(4,.func g caps),(11,.int .i64 (i:Nat)),(12,.int .i64 (j:Nat))]) (fun j H' nxx=>PartR P a e mu i j M∧(i ≤ j→¬ P (M.getD i default))∧H'=al H b (M.c2 f)∧nx=nxx) (fun j=>j) j ⟨hpt,hni,rfl,rfl⟩ (have zz:=aI @t0 (aI @t1 (aI @t4 (aI @t11 @t12))); agZ) ?_
  clear t0 t1 t4 t11 t12 hpt hni j
  rintro j H' nxx ⟨hpt,hni,rfl,rfl⟩
  have hlo:=hpt.lo; have hmid:=hpt.mid; have hhi:=hpt.hi
  by_cases hij:j < i
  ·(have zz:=and_self; repeat' (first | refine zW ?_ | refine zM ?_ | apply a_n | apply a_x | refine zO ?_ | refine vZ ?_ | refine gFZ ?_ | (refine zGZ ?_ ?_ <;> (intro _hg; try (exfalso; omega))) | refine cFZ ?_ | fail)) <;> (try clear zz)
   exact ⟨j,hpt,hni,fun h=>absurd h (by omega),rfl,rfl,rfl,rfl,rfl,rfl,rfl⟩
  obtain ⟨k,rfl⟩:∃ k,j=k + 1:=⟨j - 1,by omega⟩
  have tk:((k + 1:Nat):Int) - 1=(k:Int):=by omega
  have lc:=hc.run (M.getD (a) default) (M.getD (k + 1) default) (hGM _ (aJ (by omega))) (hGM _ (aJ (by omega)))
  have e1:=hc.dat (M.getD (a) default)
  have e2:=hc.dat (M.getD (k + 1) default)
  have hPk:P (M.getD (k + 1) default) ↔ ¬ K (M.getD (a) default) (M.getD (k + 1) default) < 0:=by rw [hP,hv]
  generalize hKK:K (M.getD (a) default) (M.getD (k + 1) default)=kk at lc hPk
  by_cases hlt:kk < 0
  ·(have zz:=aI @tk (aI @Int.toNat_natCast (aI (b4 hc.len) (aI (aZ hc.len) (aI @aP (aI hc.agg hc.ones))))); repeat' (first | refine zW ?_ | refine zM ?_ | apply a_n | refine zO ?_ | refine vZ ?_ | refine cZ ?_ (hp:=lc) (hs:=by (first | refine aa ?_ rfl | apply ae); (repeat' (first | exact ab | apply ah | apply af | exact e1 | exact e2 | exact aC dcap)); first | done | fail) | refine gTZ ?_ | (refine zGZ ?_ ?_ <;> (intro _hg; try (exfalso; omega))) | fail)) <;> (try clear zz)
   exact ⟨k,by omega,⟨hpt.stepDn (by omega) (by rw [hPk]; first | exact hlt | exact fun h=>h hlt),fun _=>hni (by omega),rfl,rfl⟩,ag0⟩
  ·(have zz:=aI @tk (aI @Int.toNat_natCast (aI (b4 hc.len) (aI (aZ hc.len) (aI @aP (aI hc.agg hc.ones))))); repeat' (first | refine zW ?_ | refine zM ?_ | apply a_n | apply a_x | refine zO ?_ | refine vZ ?_ | refine cZ ?_ (hp:=lc) (hs:=by (first | refine aa ?_ rfl | apply ae); (repeat' (first | exact ab | apply ah | apply af | exact e1 | exact e2 | exact aC dcap)); first | done | fail) | refine gTZ ?_ | (refine zGZ ?_ ?_ <;> (intro _hg; try (exfalso; omega))) | fail)) <;> (try clear zz)
   exact ⟨k + 1,hpt,hni,fun _=>(by rw [hPk]; exact hlt),rfl,rfl,rfl,rfl,rfl,rfl,rfl⟩
 clear t0 t1 t4 t11 t12 hpt hni j
 rintro T _ _ ⟨j,hpt,hni,hnj,t0,t1,t4,t11,t12,rfl,rfl⟩
 have hlo:=hpt.lo; have hmid:=hpt.mid; have hhi:=hpt.hi
 by_cases hji:j < i
 ·(have zz:=aI @t0 (aI @t1 (aI @t4 (aI @t11 @t12))); repeat' (first | refine zW ?_ | apply a_n | apply a_x | refine zO ?_ | refine vZ ?_ | (refine zGZ ?_ ?_ <;> (intro _hg; try (exfalso; omega))) | refine ag rfl ?_ | refine r1Z ?_ | fail)) <;> (try clear zz)
  refine ⟨rfl,M,i,rfl,by omega,by omega,rfl,hp,fun p h1 h2=>?_,fun q h1 h2=>by have:=hpt.dn q (by omega) h2; rw [hP] at this; exact Decidable.of_not_not this⟩
  by_cases ep:p=a
  ·rw [ep,hv]; exact hc.ord.irr _
  ·exact (hP _).1 (hpt.up p (by omega) h2)
 obtain ⟨k,rfl⟩:∃ k,j=k + 1:=⟨j - 1,by omega⟩
 have tk:((k + 1:Nat):Int) - 1=(k:Int):=by omega
 have ii:((i:Nat):Int) + 1=((i + 1:Nat):Int):=by omega
 obtain ⟨M1,hl1,lm1,lm2,c1,c2,c3,c4⟩:=bB (f:=f) hc.len (M:=M) (i:=i) (j:=k + 1) (by omega) (by omega)
 have lm3:=lm2
 simp only [bu] at lm1 lm2
 (have zz:=aI @t0 (aI @t1 (aI @t4 (aI @t11 (aI @t12 (aI @tk (aI @ii (aI @Int.toNat_natCast (aI (b4 hc.len) (aI (aZ hc.len) (aI @aP (aI hc.agg (aI hc.ones (aI @lm1 @lm2))))))))))))); repeat' (first | refine zW ?_ | apply a_n | refine zO ?_ | refine vZ ?_ | refine stZ ?_ | (refine zGZ ?_ ?_ <;> (intro _hg; try (exfalso; omega))) | fail)) <;> (try clear zz)
 obtain ⟨hq1,hq2⟩:=hpt.swap (by omega) (by omega) (hni (by omega)) (hnj (by omega))
 exact ⟨(i + 1,k,swp M i (k + 1)),hq2,⟨hq1,by dsimp only; rw [az,az,lm3],rfl,hp.trans (PermR.swap (by omega) (by omega) (by omega)),by dsimp only; rw [lv (by omega) (by omega) (by omega) (by omega)]; exact hv⟩,(have zz:=aI @t0 (aI @t1 (aI @t4 (aI @t11 @t12))); agZ)⟩
set_option maxHeartbeats 1000000 in
theorem vL (hc:Cmp2 Tryz.prog f K G g caps) {L:List α} {H:Hp} {b nx n a e pv:Nat} (hH:H b=some (L.c2 f)) (hn:L.length=n) (hG:∀ x ∈ L,G x) (hae:a < e) (hen:e ≤ n) (hn2:n ≤ 1000000000) (hpv:a ≤ pv∧pv < e) :
    Abs.Fn Tryz.prog 139 [.msl b (n * 2) 2 0 n,.int .i64 a,.int .i64 e,.int .i64 pv,.func g caps] H nx fun r H' nx'=>nx'=nx∧∃ (L':List α) (m:Nat) (t:Bool),r=.tup [.int .i64 m,.bool t]∧a ≤ m∧m < e∧H'=al H b (L'.c2 f)∧PermR a e L L'∧(∀ p,a ≤ p→p < m→K (L'.getD p default) (L'.getD m default) < 0)∧(∀ q,m < q→q < e→¬ K (L'.getD q default) (L'.getD m default) < 0):=by
 have dcap:=hc.dcaps
 obtain ⟨v,hv0⟩:∃ v,L.getD pv default=v:=⟨_,rfl⟩
 obtain ⟨P,hP⟩:∃ P:α→Prop,∀ x,P x ↔ K x v < 0:=⟨_,fun _=>Iff.rfl⟩
 obtain ⟨M,hN⟩:∃ N,swp L a pv=N:=⟨_,rfl⟩
 have hp:PermR a e L M:=hN ▸ PermR.swap (by omega) (by omega) (by omega)
 have hv:M.getD a default=v:=by
  rw [← hN,cq (by omega) (by omega),← hv0]
  split
  ·rename_i h; rw [h]
  ·rw [if_pos rfl]
 obtain ⟨M1,hl1,lm1,lm2,c1,c2,c3,c4⟩:=bB (f:=f) hc.len (M:=L) (i:=a) (j:=pv) (by omega) (by omega)
 rw [hN] at lm2
 have lm3:=lm2
 simp only [bu] at lm1 lm2
 obtain ⟨m,hm⟩:∃ m,e=m + 1:=⟨e - 1,by omega⟩
 have te:(e:Int) - 1=(m:Int):=by omega
 have ta:((a:Nat):Int) + 1=((a + 1:Nat):Int):=by omega
 refine Abs.Fn.of_c2 follows wD (Nat.le_of_ble_eq_true rfl) ?_
 simp only [v9,cO,cG,cN,cM,cD,cF,cB,ap,aH]
 refine bq (fun T H'' nx''=>T 0=.msl b (n * 2) 2 0 n∧T 1=.int .i64 a∧T 2=.int .i64 e∧T 3=.int .i64 pv∧T 4=.func g caps∧H=H''∧nx=nx'') ?_ ?_
 ·(have zz:=and_self; repeat' (first | apply a_n | refine zO ?_ | refine vZ ?_ | fail)) <;> (try clear zz)
  exact ⟨rfl,rfl,rfl,rfl,rfl,rfl,rfl⟩
 rintro T _ _ ⟨t0,t1,t2,t3,t4,rfl,rfl⟩
 refine bq (fun T H'' nx''=>T 0=.msl b (n * 2) 2 0 n∧T 1=.int .i64 a∧T 2=.int .i64 e∧T 3=.int .i64 pv∧T 4=.func g caps∧H''=al H b (M.c2 f)∧nx=nx'') ?_ ?_
 ·(have zz:=aI @t0 (aI @t1 (aI @t2 (aI @t3 (aI @t4 (aI @hH (aI @Int.toNat_natCast (aI (b4 hc.len) (aI (aZ hc.len) (aI @aP (aI hc.agg (aI hc.ones (aI @lm1 @lm2)))))))))))); repeat' (first | apply a_n | refine zO ?_ | refine vZ ?_ | refine stZ ?_ | fail)) <;> (try clear zz)
  exact ⟨(have zz:=@t0; evZ),(have zz:=@t1; evZ),(have zz:=@t2; evZ),(have zz:=@t3; evZ),(have zz:=@t4; evZ),by rw [az,lm3],rfl⟩
 clear t0 t1 t2 t3 t4 lm1 lm2 lm3 hl1 c1 c2 c3 c4 M1 hN
 rintro T _ _ ⟨t0,t1,t2,t3,t4,rfl,rfl⟩
 refine bq (fun T H'' nx''=>∃ mu i j:Nat,PartR P a e mu i j M∧T 0=.msl b (n * 2) 2 0 n∧T 1=.int .i64 a∧T 4=.func g caps∧T 12=.int .i64 (i:Nat)∧T 13=.int .i64 (j:Nat)∧H''=al H b ((M).c2 f)∧nx=nx'') ?_ ?_
 ·(have zz:=aI @t0 (aI @t1 (aI @t2 (aI @t3 (aI @t4 (aI @ta @te))))); repeat' (first | apply a_n | refine zO ?_ | refine vZ ?_ | fail)) <;> (try clear zz)
  exact ⟨_,a + 1,m,by rw [hm]; exact .start (by omega),(have zz:=@t0; evZ),(have zz:=@t1; evZ),(have zz:=@t4; evZ),ev0,ev0,rfl,rfl⟩
 clear t0 t1 t2 t3 t4 ta te hm m
 rintro T _ _ ⟨mu,i,j,hpt,t0,t1,t4,t12,t13,rfl,rfl⟩
 have hl:M.length=n:=by rw [hp.len,hn]
 have hGM:=hp.mem hG
 refine bq (fun T H'' nx''=>∃ i:Nat,PartR P a e mu i j M∧(i ≤ j→¬ P (M.getD i default))∧T 0=.msl b (n * 2) 2 0 n∧T 1=.int .i64 a∧T 4=.func g caps∧T 12=.int .i64 (i:Nat)∧T 13=.int .i64 (j:Nat)∧H''=al H b ((M).c2 f)∧nx=nx'') ?_ ?_
 ·(have zz:=aI @t0 (aI @t1 (aI @t4 (aI @t12 @t13))); repeat' (first | refine zW ?_ | apply a_n | refine zO ?_ | fail)) <;> (try clear zz)
  refine aY (X:=Nat) (fun i=>[(0,.msl b (n * 2) 2 0 n),(1,.int .i64 a),(4,.func g caps),(12,.int .i64 (i:Nat)),(13,.int .i64 (j:Nat))]) (fun i H' nxx=>PartR P a e mu i j M∧H'=al H b (M.c2 f)∧nx=nxx) (fun i=>j + 1 - i) i ⟨hpt,rfl,rfl⟩ (have zz:=aI @t0 (aI @t1 (aI @t4 (aI @t12 @t13))); agZ) ?_
  clear t0 t1 t4 t12 t13 hpt i
  rintro i H' nxx ⟨hpt,rfl,rfl⟩
  have hlo:=hpt.lo; have hmid:=hpt.mid; have hhi:=hpt.hi
  have ii:((i:Nat):Int) + 1=((i + 1:Nat):Int):=by omega
  by_cases hij:j < i
  ·(have zz:=and_self; repeat' (first | refine zW ?_ | refine zM ?_ | apply a_n | apply a_x | refine zO ?_ | refine vZ ?_ | refine gFZ ?_ | (refine zGZ ?_ ?_ <;> (intro _hg; try (exfalso; omega))) | refine cFZ ?_ | fail)) <;> (try clear zz)
   exact ⟨i,hpt,fun h=>absurd h (by omega),rfl,rfl,rfl,rfl,rfl,rfl,rfl⟩
  have lc:=hc.run (M.getD (i) default) (M.getD (a) default) (hGM _ (aJ (by omega))) (hGM _ (aJ (by omega)))
  have e1:=hc.dat (M.getD (i) default)
  have e2:=hc.dat (M.getD (a) default)
  have hPk:P (M.getD (i) default) ↔ K (M.getD (i) default) (M.getD (a) default) < 0:=by rw [hP,hv]
  generalize hKK:K (M.getD (i) default) (M.getD (a) default)=kk at lc hPk
  by_cases hlt:kk < 0
  ·(have zz:=aI @ii (aI @Int.toNat_natCast (aI (b4 hc.len) (aI (aZ hc.len) (aI @aP (aI hc.agg hc.ones))))); repeat' (first | refine zW ?_ | refine zM ?_ | apply a_n | refine zO ?_ | refine vZ ?_ | refine cZ ?_ (hp:=lc) (hs:=by (first | refine aa ?_ rfl | apply ae); (repeat' (first | exact ab | apply ah | apply af | exact e1 | exact e2 | exact aC dcap)); first | done | fail) | refine gTZ ?_ | (refine zGZ ?_ ?_ <;> (intro _hg; try (exfalso; omega))) | fail)) <;> (try clear zz)
   exact ⟨i + 1,by omega,⟨hpt.stepUp (by omega) (by rw [hPk]; exact hlt),rfl,rfl⟩,ag0⟩
  ·(have zz:=aI @ii (aI @Int.toNat_natCast (aI (b4 hc.len) (aI (aZ hc.len) (aI @aP (aI hc.agg hc.ones))))); repeat' (first | refine zW ?_ | refine zM ?_ | apply a_n | apply a_x | refine zO ?_ | refine vZ ?_ | refine cZ ?_ (hp:=lc) (hs:=by (first | refine aa ?_ rfl | apply ae); (repeat' (first | exact ab | apply ah | apply af | exact e1 | exact e2 | exact aC dcap)); first | done | fail) | refine gTZ ?_ | (refine zGZ ?_ ?_ <;> (intro _hg; try (exfalso; omega))) | fail)) <;> (try clear zz)
   exact ⟨i,hpt,fun _=>(by rw [hPk]; first | exact hlt | exact fun h=>h hlt),rfl,rfl,rfl,rfl,rfl,rfl,rfl⟩
 clear t0 t1 t4 t12 t13 hpt i
 rintro T _ _ ⟨i,hpt,hni,t0,t1,t4,t12,t13,rfl,rfl⟩
 refine bq (fun T H'' nx''=>∃ j:Nat,PartR P a e mu i j M∧(i ≤ j→¬ P (M.getD i default))∧(i ≤ j→P (M.getD j default))∧T 0=.msl b (n * 2) 2 0 n∧T 1=.int .i64 a∧T 4=.func g caps∧T 12=.int .i64 (i:Nat)∧T 13=.int .i64 (j:Nat)∧H''=al H b ((M).c2 f)∧nx=nx'') ?_ ?_
 ·(have zz:=aI @t0 (aI @t1 (aI @t4 (aI @t12 @t13))); repeat' (first | refine zW ?_ | apply a_n | refine zO ?_ | fail)) <;> (try clear zz)
  refine aY (X:=Nat) (fun j=>[(0,.msl b (n * 2) 2 0 n),(1,.int .i64 a),(4,.func g caps),(12,.int .i64 (i:Nat)),(13,.int .i64 (j:Nat))]) (fun j H' nxx=>PartR P a e mu i j M∧(i ≤ j→¬ P (M.getD i default))∧H'=al H b (M.c2 f)∧nx=nxx) (fun j=>j) j ⟨hpt,hni,rfl,rfl⟩ (have zz:=aI @t0 (aI @t1 (aI @t4 (aI @t12 @t13))); agZ) ?_
  clear t0 t1 t4 t12 t13 hpt hni j
  rintro j H' nxx ⟨hpt,hni,rfl,rfl⟩
  have hlo:=hpt.lo; have hmid:=hpt.mid; have hhi:=hpt.hi
  by_cases hij:j < i
  ·(have zz:=and_self; repeat' (first | refine zW ?_ | refine zM ?_ | apply a_n | apply a_x | refine zO ?_ | refine vZ ?_ | refine gFZ ?_ | (refine zGZ ?_ ?_ <;> (intro _hg; try (exfalso; omega))) | refine cFZ ?_ | fail)) <;> (try clear zz)
   exact ⟨j,hpt,hni,fun h=>absurd h (by omega),rfl,rfl,rfl,rfl,rfl,rfl,rfl⟩
  obtain ⟨k,rfl⟩:∃ k,j=k + 1:=⟨j - 1,by omega⟩
  have tk:((k + 1:Nat):Int) - 1=(k:Int):=by omega
  have lc:=hc.run (M.getD (k + 1) default) (M.getD (a) default) (hGM _ (aJ (by omega))) (hGM _ (aJ (by omega)))
  have e1:=hc.dat (M.getD (k + 1) default)
  have e2:=hc.dat (M.getD (a) default)
  have hPk:P (M.getD (k + 1) default) ↔ K (M.getD (k + 1) default) (M.getD (a) default) < 0:=by rw [hP,hv]
  generalize hKK:K (M.getD (k + 1) default) (M.getD (a) default)=kk at lc hPk
  by_cases hlt:kk < 0
  ·(have zz:=aI @tk (aI @Int.toNat_natCast (aI (b4 hc.len) (aI (aZ hc.len) (aI @aP (aI hc.agg hc.ones))))); repeat' (first | refine zW ?_ | refine zM ?_ | apply a_n | apply a_x | refine zO ?_ | refine vZ ?_ | refine cZ ?_ (hp:=lc) (hs:=by (first | refine aa ?_ rfl | apply ae); (repeat' (first | exact ab | apply ah | apply af | exact e1 | exact e2 | exact aC dcap)); first | done | fail) | refine gTZ ?_ | (refine zGZ ?_ ?_ <;> (intro _hg; try (exfalso; omega))) | fail)) <;> (try clear zz)
   exact ⟨k + 1,hpt,hni,fun _=>(by rw [hPk]; exact hlt),rfl,rfl,rfl,rfl,rfl,rfl,rfl⟩
  ·(have zz:=aI @tk (aI @Int.toNat_natCast (aI (b4 hc.len) (aI (aZ hc.len) (aI @aP (aI hc.agg hc.ones))))); repeat' (first | refine zW ?_ | refine zM ?_ | apply a_n | refine zO ?_ | refine vZ ?_ | refine cZ ?_ (hp:=lc) (hs:=by (first | refine aa ?_ rfl | apply ae); (repeat' (first | exact ab | apply ah | apply af | exact e1 | exact e2 | exact aC dcap)); first | done | fail) | refine gTZ ?_ | (refine zGZ ?_ ?_ <;> (intro _hg; try (exfalso; omega))) | fail)) <;> (try clear zz)
   exact ⟨k,by omega,⟨hpt.stepDn (by omega) (by rw [hPk]; first | exact hlt | exact fun h=>h hlt),fun _=>hni (by omega),rfl,rfl⟩,ag0⟩
 clear t0 t1 t4 t12 t13 hpt hni j
 rintro T _ _ ⟨j,hpt,hni,hnj,t0,t1,t4,t12,t13,rfl,rfl⟩
 have hlo:=hpt.lo; have hmid:=hpt.mid; have hhi:=hpt.hi
 by_cases hji:j < i
 ·clear hni hnj
  obtain ⟨z1,z2,z3,z4⟩:=hpt.done hc.ord (by omega) hji hv hP
  obtain ⟨M1,hl1,lm1,lm2,c1,c2,c3,c4⟩:=bB (f:=f) hc.len (M:=M) (i:=j) (j:=a) (by omega) (by omega)
  have lm3:=lm2
  simp only [bu] at lm1 lm2
  (have zz:=aI @t0 (aI @t1 (aI @t4 (aI @t12 (aI @t13 (aI @Int.toNat_natCast (aI (b4 hc.len) (aI (aZ hc.len) (aI @aP (aI hc.agg (aI hc.ones (aI @lm1 @lm2))))))))))); repeat' (first | refine zW ?_ | apply a_n | apply a_r | refine zO ?_ | refine vZ ?_ | refine stZ ?_ | (refine zGZ ?_ ?_ <;> (intro _hg; try (exfalso; omega))) | refine ag rfl ?_ | refine r2Z ?_ | fail)) <;> (try clear zz)
  exact ⟨rfl,swp M j a,j,true,rfl,z1,z2,by rw [az,az,lm3],hp.trans (PermR.swap (by omega) (by omega) (by omega)),z3,z4⟩
 obtain ⟨k,rfl⟩:∃ k,j=k + 1:=⟨j - 1,by omega⟩
 have tk:((k + 1:Nat):Int) - 1=(k:Int):=by omega
 have ii:((i:Nat):Int) + 1=((i + 1:Nat):Int):=by omega
 obtain ⟨M1,hl1,lm1,lm2,c1,c2,c3,c4⟩:=bB (f:=f) hc.len (M:=M) (i:=i) (j:=k + 1) (by omega) (by omega)
 have lm3:=lm2
 simp only [bu] at lm1 lm2
 (have zz:=aI @t0 (aI @t1 (aI @t4 (aI @t12 (aI @t13 (aI @tk (aI @ii (aI @Int.toNat_natCast (aI (b4 hc.len) (aI (aZ hc.len) (aI @aP (aI hc.agg (aI hc.ones (aI @lm1 @lm2))))))))))))); repeat' (first | refine zW ?_ | apply a_n | refine zO ?_ | refine vZ ?_ | refine stZ ?_ | (refine zGZ ?_ ?_ <;> (intro _hg; try (exfalso; omega))) | fail)) <;> (try clear zz)
 obtain ⟨hq1,hq2⟩:=hpt.swap (by omega) (by omega) (hni (by omega)) (hnj (by omega))
 have hp2:PermR a e L (swp M i (k + 1)):=hp.trans (PermR.swap (by omega) (by omega) (by omega))
 have hv2:(swp M i (k + 1)).getD a default=v:=by rw [lv (by omega) (by omega) (by omega) (by omega)]; exact hv
 refine aY (X:=Nat × Nat × List α) (fun x=>[(0,.msl b (n * 2) 2 0 n),(1,.int .i64 a),(4,.func g caps),(12,.int .i64 (x.1:Nat)),(13,.int .i64 (x.2.1:Nat))]) (fun x H' nxx=>PartR P a e (x.2.1 + 1 - x.1) x.1 x.2.1 x.2.2∧H'=al H b (x.2.2.c2 f)∧nx=nxx∧PermR a e L x.2.2∧x.2.2.getD a default=v) (fun x=>x.2.1 + 1 - x.1) (i + 1,k,swp M i (k + 1)) ⟨hq1,by dsimp only; rw [az,az,lm3],rfl,hp2,hv2⟩ (have zz:=aI @t0 (aI @t1 (aI @t4 (aI @t12 @t13))); agZ) ?_
 clear t0 t1 t4 t12 t13 lm1 lm2 lm3 hl1 c1 c2 c3 c4 M1 hp2 hv2 hq1 hq2 hpt hni hnj hp hv hGM
 rintro ⟨i,j,M⟩ H' nxx ⟨hpt,rfl,rfl,hp,hv⟩
 dsimp only at *
 have hl:M.length=n:=by rw [hp.len,hn]
 have hGM:=hp.mem hG
 generalize hmu:j + 1 - i=mu at hpt ⊢
 clear hmu
 obtain ⟨T,hT,t0,t1,t4,t12,t13⟩:∃ T,tl [(0,.msl b (n * 2) 2 0 n),(1,.int .i64 a),(4,.func g caps),(12,.int .i64 (i:Nat)),(13,.int .i64 (j:Nat))]=T∧T 0=.msl b (n * 2) 2 0 n∧T 1=.int .i64 a∧T 4=.func g caps∧T 12=.int .i64 (i:Nat)∧T 13=.int .i64 (j:Nat):=⟨_,rfl,rfl,rfl,rfl,rfl,rfl⟩
 rw [hT]
 clear hT
 refine fj ?_
 refine bq (fun T H'' nx''=>∃ i:Nat,PartR P a e mu i j M∧(i ≤ j→¬ P (M.getD i default))∧T 0=.msl b (n * 2) 2 0 n∧T 1=.int .i64 a∧T 4=.func g caps∧T 12=.int .i64 (i:Nat)∧T 13=.int .i64 (j:Nat)∧H''=al H b ((M).c2 f)∧nx=nx'') ?_ ?_
 ·(have zz:=aI @t0 (aI @t1 (aI @t4 (aI @t12 @t13))); repeat' (first | refine zW ?_ | apply a_n | refine zO ?_ | fail)) <;> (try clear zz)
  refine aY (X:=Nat) (fun i=>[(0,.msl b (n * 2) 2 0 n),(1,.int .i64 a),(4,.func g caps),(12,.int .i64 (i:Nat)),(13,.int .i64 (j:Nat))]) (fun i H' nxx=>PartR P a e mu i j M∧H'=al H b (M.c2 f)∧nx=nxx) (fun i=>j + 1 - i) i ⟨hpt,rfl,rfl⟩ (have zz:=aI @t0 (aI @t1 (aI @t4 (aI @t12 @t13))); agZ) ?_
  clear t0 t1 t4 t12 t13 hpt i
  rintro i H' nxx ⟨hpt,rfl,rfl⟩
  have hlo:=hpt.lo; have hmid:=hpt.mid; have hhi:=hpt.hi
  have ii:((i:Nat):Int) + 1=((i + 1:Nat):Int):=by omega
  by_cases hij:j < i
  ·(have zz:=and_self; repeat' (first | refine zW ?_ | refine zM ?_ | apply a_n | apply a_x | refine zO ?_ | refine vZ ?_ | refine gFZ ?_ | (refine zGZ ?_ ?_ <;> (intro _hg; try (exfalso; omega))) | refine cFZ ?_ | fail)) <;> (try clear zz)
   exact ⟨i,hpt,fun h=>absurd h (by omega),rfl,rfl,rfl,rfl,rfl,rfl,rfl⟩
  have lc:=hc.run (M.getD (i) default) (M.getD (a) default) (hGM _ (aJ (by omega))) (hGM _ (aJ (by omega)))
  have e1:=hc.dat (M.getD (i) default)
  have e2:=hc.dat (M.getD (a) default)
  have hPk:P (M.getD (i) default) ↔ K (M.getD (i) default) (M.getD (a) default) < 0:=by rw [hP,hv]
  generalize hKK:K (M.getD (i) default) (M.getD (a) default)=kk at lc hPk
  by_cases hlt:kk < 0
  ·(have zz:=aI @ii (aI @Int.toNat_natCast (aI (b4 hc.len) (aI (aZ hc.len) (aI @aP (aI hc.agg hc.ones))))); repeat' (first | refine zW ?_ | refine zM ?_ | apply a_n | refine zO ?_ | refine vZ ?_ | refine cZ ?_ (hp:=lc) (hs:=by (first | refine aa ?_ rfl | apply ae); (repeat' (first | exact ab | apply ah | apply af | exact e1 | exact e2 | exact aC dcap)); first | done | fail) | refine gTZ ?_ | (refine zGZ ?_ ?_ <;> (intro _hg; try (exfalso; omega))) | fail)) <;> (try clear zz)
   exact ⟨i + 1,by omega,⟨hpt.stepUp (by omega) (by rw [hPk]; exact hlt),rfl,rfl⟩,ag0⟩
  ·(have zz:=aI @ii (aI @Int.toNat_natCast (aI (b4 hc.len) (aI (aZ hc.len) (aI @aP (aI hc.agg hc.ones))))); repeat' (first | refine zW ?_ | refine zM ?_ | apply a_n | apply a_x | refine zO ?_ | refine vZ ?_ | refine cZ ?_ (hp:=lc) (hs:=by (first | refine aa ?_ rfl | apply ae); (repeat' (first | exact ab | apply ah | apply af | exact e1 | exact e2 | exact aC dcap)); first | done | fail) | refine gTZ ?_ | (refine zGZ ?_ ?_ <;> (intro _hg; try (exfalso; omega))) | fail)) <;> (try clear zz)
   exact ⟨i,hpt,fun _=>(by rw [hPk]; first | exact hlt | exact fun h=>h hlt),rfl,rfl,rfl,rfl,rfl,rfl,rfl⟩
 clear t0 t1 t4 t12 t13 hpt i
 rintro T _ _ ⟨i,hpt,hni,t0,t1,t4,t12,t13,rfl,rfl⟩
 refine bq (fun T H'' nx''=>∃ j:Nat,PartR P a e mu i j M∧(i ≤ j→¬ P (M.getD i default))∧(i ≤ j→P (M.getD j default))∧T 0=.msl b (n * 2) 2 0 n∧T 1=.int .i64 a∧T 4=.func g caps∧T 12=.int .i64 (i:Nat)∧T 13=.int .i64 (j:Nat)∧H''=al H b ((M).c2 f)∧nx=nx'') ?_ ?_
 ·(have zz:=aI @t0 (aI @t1 (aI @t4 (aI @t12 @t13))); repeat' (first | refine zW ?_ | apply a_n | refine zO ?_ | fail)) <;> (try clear zz)
  refine aY (X:=Nat) (fun j=>[(0,.msl b (n * 2) 2 0 n),(1,.int .i64 a),(4,.func g caps),(12,.int .i64 (i:Nat)),(13,.int .i64 (j:Nat))]) (fun j H' nxx=>PartR P a e mu i j M∧(i ≤ j→¬ P (M.getD i default))∧H'=al H b (M.c2 f)∧nx=nxx) (fun j=>j) j ⟨hpt,hni,rfl,rfl⟩ (have zz:=aI @t0 (aI @t1 (aI @t4 (aI @t12 @t13))); agZ) ?_
  clear t0 t1 t4 t12 t13 hpt hni j
  rintro j H' nxx ⟨hpt,hni,rfl,rfl⟩
  have hlo:=hpt.lo; have hmid:=hpt.mid; have hhi:=hpt.hi
  by_cases hij:j < i
  ·(have zz:=and_self; repeat' (first | refine zW ?_ | refine zM ?_ | apply a_n | apply a_x | refine zO ?_ | refine vZ ?_ | refine gFZ ?_ | (refine zGZ ?_ ?_ <;> (intro _hg; try (exfalso; omega))) | refine cFZ ?_ | fail)) <;> (try clear zz)
   exact ⟨j,hpt,hni,fun h=>absurd h (by omega),rfl,rfl,rfl,rfl,rfl,rfl,rfl⟩
  obtain ⟨k,rfl⟩:∃ k,j=k + 1:=⟨j - 1,by omega⟩
  have tk:((k + 1:Nat):Int) - 1=(k:Int):=by omega
  have lc:=hc.run (M.getD (k + 1) default) (M.getD (a) default) (hGM _ (aJ (by omega))) (hGM _ (aJ (by omega)))
  have e1:=hc.dat (M.getD (k + 1) default)
  have e2:=hc.dat (M.getD (a) default)
  have hPk:P (M.getD (k + 1) default) ↔ K (M.getD (k + 1) default) (M.getD (a) default) < 0:=by rw [hP,hv]
  generalize hKK:K (M.getD (k + 1) default) (M.getD (a) default)=kk at lc hPk
  by_cases hlt:kk < 0
  ·(have zz:=aI @tk (aI @Int.toNat_natCast (aI (b4 hc.len) (aI (aZ hc.len) (aI @aP (aI hc.agg hc.ones))))); repeat' (first | refine zW ?_ | refine zM ?_ | apply a_n | apply a_x | refine zO ?_ | refine vZ ?_ | refine cZ ?_ (hp:=lc) (hs:=by (first | refine aa ?_ rfl | apply ae); (repeat' (first | exact ab | apply ah | apply af | exact e1 | exact e2 | exact aC dcap)); first | done | fail) | refine gTZ ?_ | (refine zGZ ?_ ?_ <;> (intro _hg; try (exfalso; omega))) | fail)) <;> (try clear zz)
   exact ⟨k + 1,hpt,hni,fun _=>(by rw [hPk]; exact hlt),rfl,rfl,rfl,rfl,rfl,rfl,rfl⟩
  ·(have zz:=aI @tk (aI @Int.toNat_natCast (aI (b4 hc.len) (aI (aZ hc.len) (aI @aP (aI hc.agg hc.ones))))); repeat' (first | refine zW ?_ | refine zM ?_ | apply a_n | refine zO ?_ | refine vZ ?_ | refine cZ ?_ (hp:=lc) (hs:=by (first | refine aa ?_ rfl | apply ae); (repeat' (first | exact ab | apply ah | apply af | exact e1 | exact e2 | exact aC dcap)); first | done | fail) | refine gTZ ?_ | (refine zGZ ?_ ?_ <;> (intro _hg; try (exfalso; omega))) | fail)) <;> (try clear zz)
   exact ⟨k,by omega,⟨hpt.stepDn (by omega) (by rw [hPk]; first | exact hlt | exact fun h=>h hlt),fun _=>hni (by omega),rfl,rfl⟩,ag0⟩
 clear t0 t1 t4 t12 t13 hpt hni j
 rintro T _ _ ⟨j,hpt,hni,hnj,t0,t1,t4,t12,t13,rfl,rfl⟩
 have hlo:=hpt.lo; have hmid:=hpt.mid; have hhi:=hpt.hi
 by_cases hji:j < i
 ·clear hni hnj
  obtain ⟨z1,z2,z3,z4⟩:=hpt.done hc.ord (by omega) hji hv hP
  obtain ⟨M1,hl1,lm1,lm2,c1,c2,c3,c4⟩:=bB (f:=f) hc.len (M:=M) (i:=j) (j:=a) (by omega) (by omega)
  have lm3:=lm2
  simp only [bu] at lm1 lm2
  (have zz:=aI @t0 (aI @t1 (aI @t4 (aI @t12 (aI @t13 (aI @Int.toNat_natCast (aI (b4 hc.len) (aI (aZ hc.len) (aI @aP (aI hc.agg (aI hc.ones (aI @lm1 @lm2))))))))))); repeat' (first | refine zW ?_ | apply a_n | apply a_x | refine zO ?_ | refine vZ ?_ | refine stZ ?_ | (refine zGZ ?_ ?_ <;> (intro _hg; try (exfalso; omega))) | refine ag rfl ?_ | refine r2Z ?_ | fail)) <;> (try clear zz)
  exact ⟨rfl,swp M j a,j,false,rfl,z1,z2,by rw [az,az,lm3],hp.trans (PermR.swap (by omega) (by omega) (by omega)),z3,z4⟩
 obtain ⟨k,rfl⟩:∃ k,j=k + 1:=⟨j - 1,by omega⟩
 have tk:((k + 1:Nat):Int) - 1=(k:Int):=by omega
 have ii:((i:Nat):Int) + 1=((i + 1:Nat):Int):=by omega
 obtain ⟨M1,hl1,lm1,lm2,c1,c2,c3,c4⟩:=bB (f:=f) hc.len (M:=M) (i:=i) (j:=k + 1) (by omega) (by omega)
 have lm3:=lm2
 simp only [bu] at lm1 lm2
 (have zz:=aI @t0 (aI @t1 (aI @t4 (aI @t12 (aI @t13 (aI @tk (aI @ii (aI @Int.toNat_natCast (aI (b4 hc.len) (aI (aZ hc.len) (aI @aP (aI hc.agg (aI hc.ones (aI @lm1 @lm2))))))))))))); repeat' (first | refine zW ?_ | apply a_n | refine zO ?_ | refine vZ ?_ | refine stZ ?_ | (refine zGZ ?_ ?_ <;> (intro _hg; try (exfalso; omega))) | fail)) <;> (try clear zz)
 obtain ⟨hq1,hq2⟩:=hpt.swap (by omega) (by omega) (hni (by omega)) (hnj (by omega))
 exact ⟨(i + 1,k,swp M i (k + 1)),hq2,⟨hq1,by dsimp only; rw [az,az,lm3],rfl,hp.trans (PermR.swap (by omega) (by omega) (by omega)),by dsimp only; rw [lv (by omega) (by omega) (by omega) (by omega)]; exact hv⟩,(have zz:=aI @t0 (aI @t1 (aI @t4 (aI @t12 @t13))); agZ)⟩
end
end Go.Proofs.YtbgdcebmgjafjaaGreat
namespace Go.Proofs.YtbgdcebmgjafjaaGreat
open Go Go.Abs
open Nat (reduceEqDiff reduceAdd reduceLeDiff)
section
variable {α:Type} [Inhabited α] {f:α→AV} {K:α→α→Int} {G:α→Prop} {g:Nat} {caps:List AV}
attribute [local irreducible] aD ai bd bg aQ aV aA aU bj bD Go.Abs.Fn be Go.Abs.Pure aB aK Yl
theorem tH (hc:Cmp2 Tryz.prog f K G g caps) {L:List α} {H:Hp} {b nx n a e:Nat} (hH:H b=some (L.c2 f)) (hbx:b < nx) (hn:L.length=n) (hae:a + 8 ≤ e) (hen:e ≤ n) (hn2:n ≤ 1000000000) :
    Abs.Fn Tryz.prog 134 [.msl b (n * 2) 2 0 n,.int .i64 a,.int .i64 e,.func g caps] H nx fun r H' nx'=>nx'=nx + 1∧∃ L',H' b=some (L'.c2 f)∧(∀ i,i < nx→i ≠ b→H' i=H i)∧PermR a e L L':=by
 obtain ⟨l,rfl⟩:∃ l,e=a + l:=⟨e - a,by omega⟩
 have te:((a + l:Nat):Int) - (a:Int)=(l:Int):=by omega
 obtain ⟨w,hw⟩:∃ w,a + l / 4 * 2 - 1=w:=⟨_,rfl⟩
 have tq:aO .quo false false (.int .i64 (l:Int)) (.int .i64 4)=some (.int .i64 ((l / 4:Nat):Int)):=by
  rw [jX (by omega) (by omega) (by omega)]
  congr 2
 have w1:(a:Int) + ((l / 4:Nat):Int) * 2 - 1=(w:Int):=by omega
 have w2:(a:Int) + ((l / 4:Nat):Int) * 2 + 1=((w + 2:Nat):Int):=by omega
 have hbn:b ≠ nx:=by omega
 have wl:IntKind.wrap .u64 (l:Int)=l:=go (by omega) (by omega)
 refine Abs.Fn.of_c2 follows wP (Nat.le_of_ble_eq_true rfl) ?_
 simp only [xl,cO,cG,cN,cM,cD,cF,cB,ap,aH]
 have ls:∀ x y:AV,bu [x] 0 [y]=[y]:=fun _ _=>rfl
 simp only [bu,List.length_cons,List.length_nil,Nat.zero_add] at ls
 (have zz:=aI @te (aI @wl @ls); repeat' (first | refine zW ?_ | apply a_n | refine zO ?_ | refine vZ ?_ | refine alZ ?_ | refine stZ ?_ | (refine zGZ ?_ ?_ <;> (intro _hg; try (exfalso; omega))) | fail)) <;> (try clear zz)
 refine a8 ev0 ev0 (uZ (x:=l) (by omega) (by omega)) ?_
 rintro _ _ _ ⟨rfl,rfl,k,rfl,hk1,hk2⟩
 obtain ⟨p,hp⟩:∃ p,2 ^ k=p + 1:=⟨2 ^ k - 1,by omega⟩
 rw [hp] at hk1 hk2 ⊢
 (have zz:=aI @te (aI @tq @w1); repeat' (first | refine zW ?_ | apply a_n | refine zO ?_ | refine vZ ?_ | fail)) <;> (try clear zz)
 have wm:IntKind.wrap .u64 (((p + 1:Nat):Int) - 1)=(p:Int):=by rw [go (by omega) (by omega)]; omega
 refine aY (X:=Nat × List α) (fun x=>[(0,.msl b (n * 2) 2 0 n),(1,.int .i64 a),(8,.int .i64 l),(9,.ptr nx 1 0),(10,.int .u64 ((p + 1:Nat):Int)),(11,.int .i64 (x.1:Nat))]) (fun x H' nxx=>w ≤ x.1∧x.1 ≤ w + 3∧H' b=some (x.2.c2 f)∧(∃ s,H' nx=some [.int .u64 s])∧(∀ i,i < nx→i ≠ b→H' i=H i)∧nxx=nx + 1∧PermR a (a + l) L x.2) (fun x=>w + 3 - x.1) (w,L) ⟨Nat.le_refl _,by dsimp only; omega,by dsimp only; rw [am hbn]; first | exact hH | (rw [am hbn]; exact hH),⟨_,ar⟩,fun i h1 h2=>by rw [am (by omega)]; first | rfl | exact am (by omega),rfl,.refl⟩ (by simp (disch:=omega) only [agr,ZG,reduceEqDiff,↓reduceIte,List.length_cons,List.length_nil,Nat.zero_add,true_and]) ?_
 rintro ⟨i,M⟩ H1 nxx ⟨h1,h2,hb1,⟨s,hs⟩,hfr,rfl,hp1⟩
 dsimp only at *
 have hl:M.length=n:=by rw [hp1.len,hn]
 by_cases hi:i=w + 3
 ·subst hi
  (have zz:=aI @tq @w2; repeat' (first | refine zW ?_ | apply a_n | apply a_x | refine zO ?_ | refine vZ ?_ | (refine zGZ ?_ ?_ <;> (intro _hg; try (exfalso; omega))) | refine ag rfl ?_ | fail)) <;> (try clear zz)
  exact ⟨rfl,M,hb1,hfr,hp1⟩
 have ti:((i:Nat):Int) + 1=((i + 1:Nat):Int):=by omega
 (have zz:=aI @tq @w2; repeat' (first | refine zW ?_ | apply a_n | refine zO ?_ | refine vZ ?_ | (refine zGZ ?_ ?_ <;> (intro _hg; try (exfalso; omega))) | fail)) <;> (try clear zz)
 refine a8 ev0 ev0 (uV hs) ?_
 rintro _ _ _ ⟨rfl,s1,rfl,rfl⟩
 obtain ⟨r,hr1,hr2⟩:=sN (a:=s1) (m:=p) (by omega)
 obtain ⟨H2,hH2⟩:∃ H2,al H1 nx [.int .u64 s1]=H2:=⟨_,rfl⟩
 have hb2:H2 b=some (M.c2 f):=by rw [← hH2,am hbn]; exact hb1
 have hs2:H2 nx=some [.int .u64 s1]:=by rw [← hH2]; exact ar
 have hfr2:∀ i,i < nx→i ≠ b→H2 i=H i:=fun i k1 k2=>by rw [← hH2,am (by omega)]; exact hfr i k1 k2
 rw [hH2]
 clear hH2 hb1 hs hfr
 obtain ⟨z,hz,hzl⟩:∃ z:Nat,(if l ≤ r then (r:Int) - l else (r:Int))=(z:Int)∧z < l:=by
  split
  ·exact ⟨r - l,by omega,by omega⟩
  ·exact ⟨r,rfl,by omega⟩
 obtain ⟨M1,hl1,lm1,lm2,c1,c2,c3,c4⟩:=bB (f:=f) hc.len (M:=M) (i:=i) (j:=a + z) (by omega) (by omega)
 have lm3:=lm2
 simp only [bu] at lm1 lm2
 by_cases hrl:l ≤ r
 ·rw [if_pos hrl] at hz
  (have zz:=aI @wm (aI @hr1 (aI @hz (aI @hb2 (aI @ti (aI @dB (aI (b4 hc.len) (aI (aZ hc.len) (aI @aP (aI hc.agg (aI hc.ones (aI @lm1 @lm2))))))))))); repeat' (first | refine zW ?_ | apply a_n | refine zO ?_ | refine vZ ?_ | refine stZ ?_ | (refine zGZ ?_ ?_ <;> (intro _hg; try (exfalso; omega))) | fail)) <;> (try clear zz)
  exact ⟨(i + 1,swp M i (a + z)),by dsimp only; omega,⟨by dsimp only; omega,by dsimp only; omega,by dsimp only; rw [az,lm3,ar],⟨s1,by rw [az,am (Ne.symm hbn)]; exact hs2⟩,fun i k1 k2=>by rw [az,am k2]; exact hfr2 i k1 k2,rfl,hp1.trans (PermR.swap (by omega) (by omega) (by omega))⟩,ag0⟩
 ·rw [if_neg hrl] at hz
  have hz':r=z:=by omega
  subst hz'
  (have zz:=aI @wm (aI @hr1 (aI @hb2 (aI @ti (aI @dB (aI (b4 hc.len) (aI (aZ hc.len) (aI @aP (aI hc.agg (aI hc.ones (aI @lm1 @lm2)))))))))); repeat' (first | refine zW ?_ | apply a_n | refine zO ?_ | refine vZ ?_ | refine stZ ?_ | (refine zGZ ?_ ?_ <;> (intro _hg; try (exfalso; omega))) | fail)) <;> (try clear zz)
  exact ⟨(i + 1,swp M i (a + r)),by dsimp only; omega,⟨by dsimp only; omega,by dsimp only; omega,by dsimp only; rw [az,lm3,ar],⟨s1,by rw [az,am (Ne.symm hbn)]; exact hs2⟩,fun i k1 k2=>by rw [az,am k2]; exact hfr2 i k1 k2,rfl,hp1.trans (PermR.swap (by omega) (by omega) (by omega))⟩,ag0⟩
end
end Go.Proofs.YtbgdcebmgjafjaaGreat
namespace Go.Proofs.YtbgdcebmgjafjaaGreat
open Go Go.Abs
section
variable {α:Type} [Inhabited α] {f:α→AV} {K:α→α→Int} {G:α→Prop} {g:Nat} {caps:List AV}
attribute [local irreducible] aD ai bd bg aQ aV aA aU bj bD Go.Abs.Fn be Go.Abs.Pure aB aK Yl
set_option maxHeartbeats 1000000 in
theorem xb (hc:Cmp2 Tryz.prog f K G g caps) {b n:Nat} (hn2:n ≤ 1000000000):∀ (sz a e lim:Nat) (L:List α) (H:Hp) (nx:Nat),e - a < sz→H b=some (L.c2 f)→b < nx→L.length=n→(∀ x ∈ L,G x)→a ≤ e→e ≤ n→lim ≤ 64→lU K a e L →
    Abs.Fn Tryz.prog 122 [.msl b (n * 2) 2 0 n,.int .i64 a,.int .i64 e,.int .i64 lim,.func g caps] H nx fun r H' nx'=>∃ L',PS H H' nx nx' b (L'.c2 f)∧PermR a e L L'∧aM K a e L':=by
 intro sz
 induction sz with
 | zero=>intro a e lim L H nx h; omega
 | succ sz ih =>
 intro a e lim L H nx hsz hH hbx hn hG hae hen hlim hlow
 have dcap:=hc.dcaps
 refine Abs.Fn.of_c2 follows uJ (Nat.le_of_ble_eq_true rfl) ?_
 simp only [vq,cO,cG,cN,cM,cD,cF,cB,ap,aH]
 (have zz:=and_self; repeat' (first | refine zW ?_ | apply a_n | refine zO ?_ | refine vZ ?_ | fail)) <;> (try clear zz)
 refine aY (X:=Nat × Nat × Nat × Bool × Bool × List α) (fun x=>[(0,.msl b (n * 2) 2 0 n),(1,.int .i64 (x.1:Nat)),(2,.int .i64 (x.2.1:Nat)),(3,.int .i64 (x.2.2.1:Nat)),(4,.func g caps),(10,.bool x.2.2.2.1),(11,.bool x.2.2.2.2.1)]) (fun x H' nxx=>PI K a e L x.1 x.2.1 x.2.2.2.2.2∧PS H H' nx nxx b (x.2.2.2.2.2.c2 f)∧x.2.2.1 ≤ 64) (fun x=>x.2.1 - x.1) (a,e,lim,true,true,L) ⟨.start hae (by rw [hn]; exact hen) hlow,⟨hH,fun _ _ _=>rfl,Nat.le_refl _⟩,hlim⟩ ag0 ?_
 clear hlim hlow lim
 rintro ⟨a1,e1,lim,wb,wp,M⟩ H1 n1 ⟨hpi,hps,hlim⟩
 dsimp only at *
 have hlo:=hpi.lo; have hmid:=hpi.mid; have hhi:=hpi.hi
 obtain ⟨l,hl0⟩:∃ l,e1 - a1=l:=⟨_,rfl⟩
 rw [hl0]
 have te:(e1:Int) - (a1:Int)=(l:Int):=by omega
 have hlen:∀ M:List α,PI K a e L a1 e1 M→M.length=n:=fun M h=>by rw [h.perm.len,hn]
 have hGA:∀ M:List α,PI K a e L a1 e1 M→∀ x ∈ M,G x:=fun M h=>h.perm.mem hG
 have hbn:∀ (M:List α) (H1:Hp) (n1:Nat),PS H H1 nx n1 b (M.c2 f)→b < n1:=fun M H1 n1 h=>by have:=h.le; omega
 obtain ⟨T,hT,t0,t1,t2,t3,t4,t10,t11⟩:∃ T,tl [(0,.msl b (n * 2) 2 0 n),(1,.int .i64 (a1:Nat)),(2,.int .i64 (e1:Nat)),(3,.int .i64 (lim:Nat)),(4,.func g caps),(10,.bool wb),(11,.bool wp)]=T∧T 0=.msl b (n * 2) 2 0 n∧T 1=.int .i64 (a1:Nat)∧T 2=.int .i64 (e1:Nat)∧T 3=.int .i64 (lim:Nat)∧T 4=.func g caps∧T 10=.bool wb∧T 11=.bool wp:=⟨_,rfl,rfl,rfl,rfl,rfl,rfl,rfl,rfl⟩
 rw [hT]
 clear hT
 refine fj ?_
 refine bq (fun T H'' nx''=>T 0=.msl b (n * 2) 2 0 n∧T 1=.int .i64 (a1:Nat)∧T 2=.int .i64 (e1:Nat)∧T 3=.int .i64 (lim:Nat)∧T 4=.func g caps∧T 10=.bool wb∧T 11=.bool wp∧T 12=.int .i64 (l:Nat)∧H1=H''∧n1=nx'') ?_ ?_
 ·(have zz:=aI @t0 (aI @t1 (aI @t2 (aI @t3 (aI @t4 (aI @t10 (aI @t11 @te)))))); repeat' (first | apply a_n | refine zO ?_ | refine vZ ?_ | fail)) <;> (try clear zz)
  exact ⟨(have zz:=@t0; evZ),(have zz:=@t1; evZ),(have zz:=@t2; evZ),(have zz:=@t3; evZ),(have zz:=@t4; evZ),(have zz:=@t10; evZ),(have zz:=@t11; evZ),ev0,rfl,rfl⟩
 clear t0 t1 t2 t3 t4 t10 t11
 rintro T _ _ ⟨t0,t1,t2,t3,t4,t10,t11,t12,rfl,rfl⟩
 refine bq (fun T H'' nx''=>T 0=.msl b (n * 2) 2 0 n∧T 1=.int .i64 (a1:Nat)∧T 2=.int .i64 (e1:Nat)∧T 3=.int .i64 (lim:Nat)∧T 4=.func g caps∧T 10=.bool wb∧T 11=.bool wp∧T 12=.int .i64 (l:Nat)∧13 ≤ l∧H1=H''∧n1=nx'') ?_ ?_
 ·by_cases h12:l ≤ 12
  ·(have zz:=aI @t0 (aI @t1 (aI @t2 (aI @t3 (aI @t4 (aI @t10 (aI @t11 @t12)))))); repeat' (first | refine zW ?_ | apply a_n | refine zO ?_ | refine vZ ?_ | (refine zGZ ?_ ?_ <;> (intro _hg; try (exfalso; omega))) | fail)) <;> (try clear zz)
   refine a8 ev0 (have zz:=aI @t0 (aI @t1 (aI @t2 (aI @t3 (aI @t4 (aI @t10 (aI @t11 @t12)))))); evZ) (xH hc (b:=b) hps.at_ (hlen _ hpi) (hGA _ hpi) (a:=a1) (e:=e1) hmid (by omega) hn2) ?_
   rintro _ _ _ ⟨rfl,N,rfl,hpN,hsN⟩
   (have zz:=and_self; repeat' (first | apply a_n | apply a_r | refine zO ?_ | refine ag rfl ?_ | fail)) <;> (try clear zz)
   exact ⟨N,hps.upd,hpi.done hpN hsN⟩
  ·(have zz:=aI @t0 (aI @t1 (aI @t2 (aI @t3 (aI @t4 (aI @t10 (aI @t11 @t12)))))); repeat' (first | refine zW ?_ | apply a_n | refine zO ?_ | refine vZ ?_ | (refine zGZ ?_ ?_ <;> (intro _hg; try (exfalso; omega))) | fail)) <;> (try clear zz)
   exact ⟨(have zz:=@t0; evZ),(have zz:=@t1; evZ),(have zz:=@t2; evZ),(have zz:=@t3; evZ),(have zz:=@t4; evZ),(have zz:=@t10; evZ),(have zz:=@t11; evZ),(have zz:=@t12; evZ),by omega,rfl,rfl⟩
 clear t0 t1 t2 t3 t4 t10 t11 t12
 rintro T _ _ ⟨t0,t1,t2,t3,t4,t10,t11,t12,h13,rfl,rfl⟩
 refine bq (fun T H'' nx''=>T 0=.msl b (n * 2) 2 0 n∧T 1=.int .i64 (a1:Nat)∧T 2=.int .i64 (e1:Nat)∧T 3=.int .i64 (lim:Nat)∧T 4=.func g caps∧T 10=.bool wb∧T 11=.bool wp∧T 12=.int .i64 (l:Nat)∧0 < lim∧H1=H''∧n1=nx'') ?_ ?_
 ·by_cases h12:lim=0
  ·subst h12
   have tz:decide (((0:Nat):Int)=0)=true:=rfl
   (have zz:=aI @t0 (aI @t1 (aI @t2 (aI @t3 (aI @t4 (aI @t10 (aI @t11 (aI @t12 @tz))))))); repeat' (first | refine zW ?_ | apply a_n | refine zO ?_ | refine vZ ?_ | refine cTZ ?_ | fail)) <;> (try clear zz)
   refine a8 ev0 (have zz:=aI @t0 (aI @t1 (aI @t2 (aI @t3 (aI @t4 (aI @t10 (aI @t11 @t12)))))); evZ) (vv hc (b:=b) hps.at_ (hlen _ hpi) (hGA _ hpi) (a:=a1) (e:=e1) hmid (by omega) hn2) ?_
   rintro _ _ _ ⟨rfl,N,rfl,hpN,hsN⟩
   (have zz:=and_self; repeat' (first | apply a_n | apply a_r | refine zO ?_ | refine ag rfl ?_ | fail)) <;> (try clear zz)
   exact ⟨N,hps.upd,hpi.done hpN hsN⟩
  ·have tz:decide ((lim:Int)=0)=false:=decide_eq_false (by omega)
   (have zz:=aI @t0 (aI @t1 (aI @t2 (aI @t3 (aI @t4 (aI @t10 (aI @t11 (aI @t12 @tz))))))); repeat' (first | refine zW ?_ | apply a_n | refine zO ?_ | refine vZ ?_ | refine cFZ ?_ | fail)) <;> (try clear zz)
   exact ⟨(have zz:=@t0; evZ),(have zz:=@t1; evZ),(have zz:=@t2; evZ),(have zz:=@t3; evZ),(have zz:=@t4; evZ),(have zz:=@t10; evZ),(have zz:=@t11; evZ),(have zz:=@t12; evZ),by omega,rfl,rfl⟩
 clear t0 t1 t2 t3 t4 t10 t11 t12
 rintro T _ _ ⟨t0,t1,t2,t3,t4,t10,t11,t12,hlim1,rfl,rfl⟩
 refine bq (fun T H'' nx''=>∃ (lim:Nat) (M:List α),lim ≤ 64∧PI K a e L a1 e1 M∧PS H H'' nx nx'' b (M.c2 f)∧T 0=.msl b (n * 2) 2 0 n∧T 1=.int .i64 (a1:Nat)∧T 2=.int .i64 (e1:Nat)∧T 3=.int .i64 (lim:Nat)∧T 4=.func g caps∧T 10=.bool wb∧T 11=.bool wp∧T 12=.int .i64 (l:Nat)) ?_ ?_
 ·cases wb
  ·obtain ⟨k,rfl⟩:∃ k,lim=k + 1:=⟨lim - 1,by omega⟩
   have tk:((k + 1:Nat):Int) - 1=(k:Int):=by omega
   (have zz:=aI @t0 (aI @t1 (aI @t2 (aI @t3 (aI @t4 (aI @t10 (aI @t11 @t12)))))); repeat' (first | refine zW ?_ | apply a_n | refine zO ?_ | refine vZ ?_ | refine cTZ ?_ | fail)) <;> (try clear zz)
   refine a8 ev0 (have zz:=aI @t0 (aI @t1 (aI @t2 (aI @t3 (aI @t4 (aI @t10 (aI @t11 @t12)))))); evZ) (tH hc (b:=b) hps.at_ (hbn _ _ _ hps) (hlen _ hpi) (a:=a1) (e:=e1) (by omega) (by omega) hn2) ?_
   rintro _ _ _ ⟨rfl,N,hN1,hN2,hpN⟩
   (have zz:=aI @t0 (aI @t1 (aI @t2 (aI @t3 (aI @t4 (aI @t10 (aI @t11 (aI @t12 @tk))))))); repeat' (first | apply a_n | refine zO ?_ | refine vZ ?_ | fail)) <;> (try clear zz)
   exact ⟨k,N,by omega,hpi.swap hpN,hps.rec_ hN1 hN2 (Nat.le_succ _),(have zz:=@t0; evZ),(have zz:=@t1; evZ),(have zz:=@t2; evZ),(have zz:=@t3; evZ),(have zz:=@t4; evZ),(have zz:=@t10; evZ),(have zz:=@t11; evZ),(have zz:=@t12; evZ)⟩
  ·(have zz:=aI @t0 (aI @t1 (aI @t2 (aI @t3 (aI @t4 (aI @t10 (aI @t11 @t12)))))); repeat' (first | refine zW ?_ | apply a_n | refine zO ?_ | refine vZ ?_ | refine cFZ ?_ | fail)) <;> (try clear zz)
   exact ⟨lim,M,hlim,hpi,hps,(have zz:=@t0; evZ),(have zz:=@t1; evZ),(have zz:=@t2; evZ),(have zz:=@t3; evZ),(have zz:=@t4; evZ),(have zz:=@t10; evZ),(have zz:=@t11; evZ),(have zz:=@t12; evZ)⟩
 clear t0 t1 t2 t3 t4 t10 t11 t12 hpi hps hlim hlim1
 rintro T H1 n1 ⟨lim,M,hlim,hpi,hps,t0,t1,t2,t3,t4,t10,t11,t12⟩
 refine bq (fun T H'' nx''=>∃ (p:Nat) (hint:Int),a1 ≤ p∧p < e1∧PS H H'' nx nx'' b (M.c2 f)∧T 0=.msl b (n * 2) 2 0 n∧T 1=.int .i64 (a1:Nat)∧T 2=.int .i64 (e1:Nat)∧T 3=.int .i64 (lim:Nat)∧T 4=.func g caps∧T 10=.bool wb∧T 11=.bool wp∧T 12=.int .i64 (l:Nat)∧T 13=.int .i64 (p:Nat)∧T 14=.int .i64 hint) ?_ ?_
 ·(have zz:=aI @t0 (aI @t1 (aI @t2 (aI @t3 (aI @t4 (aI @t10 (aI @t11 @t12)))))); repeat' (first | apply a_n | refine zO ?_ | refine vZ ?_ | fail)) <;> (try clear zz)
  refine a8 ev0 (have zz:=aI @t0 (aI @t1 (aI @t2 (aI @t3 (aI @t4 (aI @t10 (aI @t11 @t12)))))); evZ) (tn hc (b:=b) hps.at_ (hbn _ _ _ hps) (hlen _ hpi) (hGA _ hpi) (a:=a1) (e:=e1) (by omega) (by omega) hn2) ?_
  rintro _ _ _ ⟨rfl,p,hint,v,rfl,hp1,hp2,rfl⟩
  (have zz:=aI @t0 (aI @t1 (aI @t2 (aI @t3 (aI @t4 (aI @t10 (aI @t11 @t12)))))); repeat' (first | apply a_n | refine zO ?_ | refine vZ ?_ | fail)) <;> (try clear zz)
  exact ⟨p,hint,hp1,hp2,hps.new hbx,(have zz:=@t0; evZ),(have zz:=@t1; evZ),(have zz:=@t2; evZ),(have zz:=@t3; evZ),(have zz:=@t4; evZ),(have zz:=@t10; evZ),(have zz:=@t11; evZ),(have zz:=@t12; evZ),ev0,ev0⟩
 clear t0 t1 t2 t3 t4 t10 t11 t12 hps
 rintro T H1 n1 ⟨p,hint,hp1,hp2,hps,t0,t1,t2,t3,t4,t10,t11,t12,t13,t14⟩
 refine bq (fun T H'' nx''=>∃ (p:Nat) (hint:Int) (M:List α),a1 ≤ p∧p < e1∧PI K a e L a1 e1 M∧PS H H'' nx nx'' b (M.c2 f)∧T 0=.msl b (n * 2) 2 0 n∧T 1=.int .i64 (a1:Nat)∧T 2=.int .i64 (e1:Nat)∧T 3=.int .i64 (lim:Nat)∧T 4=.func g caps∧T 10=.bool wb∧T 11=.bool wp∧T 12=.int .i64 (l:Nat)∧T 13=.int .i64 (p:Nat)∧T 14=.int .i64 hint) ?_ ?_
 ·by_cases h2:hint=2
  ·subst h2
   obtain ⟨p2,hp3⟩:∃ p2,e1 - 1 - (p - a1)=p2:=⟨_,rfl⟩
   have tp:(e1:Int) - 1 - ((p:Int) - (a1:Int))=(p2:Int):=by omega
   have tz:decide ((2:Int)=2)=true:=rfl
   (have zz:=aI @t0 (aI @t1 (aI @t2 (aI @t3 (aI @t4 (aI @t10 (aI @t11 (aI @t12 (aI @t13 (aI @t14 @tz))))))))); repeat' (first | refine zW ?_ | apply a_n | refine zO ?_ | refine vZ ?_ | (refine zGZ ?_ ?_ <;> (intro _hg; try (exfalso; omega))) | fail)) <;> (try clear zz)
   refine a8 ev0 (have zz:=aI @t0 (aI @t1 (aI @t2 (aI @t3 (aI @t4 (aI @t10 (aI @t11 @t12)))))); evZ) (wJ hc (b:=b) hps.at_ (hlen _ hpi) (a:=a1) (e:=e1) (by omega) (by omega) hn2) ?_
   rintro _ _ _ ⟨rfl,N,rfl,hpN⟩
   (have zz:=aI @t0 (aI @t1 (aI @t2 (aI @t3 (aI @t4 (aI @t10 (aI @t11 (aI @t12 (aI @t13 (aI @t14 @tp))))))))); repeat' (first | refine zW ?_ | apply a_n | refine zO ?_ | refine vZ ?_ | fail)) <;> (try clear zz)
   exact ⟨p2,1,N,by omega,by omega,hpi.swap hpN,hps.upd,(have zz:=@t0; evZ),(have zz:=@t1; evZ),(have zz:=@t2; evZ),(have zz:=@t3; evZ),(have zz:=@t4; evZ),(have zz:=@t10; evZ),(have zz:=@t11; evZ),(have zz:=@t12; evZ),ev0,ev0⟩
  ·have tz:decide (hint=2)=false:=decide_eq_false h2
   (have zz:=aI @t0 (aI @t1 (aI @t2 (aI @t3 (aI @t4 (aI @t10 (aI @t11 (aI @t12 (aI @t13 (aI @t14 @tz))))))))); repeat' (first | refine zW ?_ | apply a_n | refine zO ?_ | refine vZ ?_ | refine cFZ ?_ | fail)) <;> (try clear zz)
   exact ⟨p,hint,M,hp1,hp2,hpi,hps,(have zz:=@t0; evZ),(have zz:=@t1; evZ),(have zz:=@t2; evZ),(have zz:=@t3; evZ),(have zz:=@t4; evZ),(have zz:=@t10; evZ),(have zz:=@t11; evZ),(have zz:=@t12; evZ),(have zz:=@t13; evZ),(have zz:=@t14; evZ)⟩
 clear t0 t1 t2 t3 t4 t10 t11 t12 t13 t14 hps hpi hp1 hp2
 rintro T H1 n1 ⟨p,hint,M,hp1,hp2,hpi,hps,t0,t1,t2,t3,t4,t10,t11,t12,t13,t14⟩
 refine bq (fun T H'' nx''=>∃ (M:List α),PI K a e L a1 e1 M∧PS H H'' nx nx'' b (M.c2 f)∧T 0=.msl b (n * 2) 2 0 n∧T 1=.int .i64 (a1:Nat)∧T 2=.int .i64 (e1:Nat)∧T 3=.int .i64 (lim:Nat)∧T 4=.func g caps∧T 10=.bool wb∧T 11=.bool wp∧T 12=.int .i64 (l:Nat)∧T 13=.int .i64 (p:Nat)) ?_ ?_
 ·cases wb
  ·cases wp
   ·(have zz:=aI @t0 (aI @t1 (aI @t2 (aI @t3 (aI @t4 (aI @t10 (aI @t11 (aI @t12 (aI @t13 @t14)))))))); repeat' (first | refine zW ?_ | apply a_n | refine zO ?_ | refine vZ ?_ | refine gFZ ?_ | refine cFZ ?_ | fail)) <;> (try clear zz)
    exact ⟨M,hpi,hps,(have zz:=@t0; evZ),(have zz:=@t1; evZ),(have zz:=@t2; evZ),(have zz:=@t3; evZ),(have zz:=@t4; evZ),(have zz:=@t10; evZ),(have zz:=@t11; evZ),(have zz:=@t12; evZ),(have zz:=@t13; evZ)⟩
   ·(have zz:=aI @t0 (aI @t1 (aI @t2 (aI @t3 (aI @t4 (aI @t10 (aI @t11 (aI @t12 (aI @t13 @t14)))))))); repeat' (first | refine zW ?_ | apply a_n | refine zO ?_ | refine vZ ?_ | refine gFZ ?_ | refine cFZ ?_ | fail)) <;> (try clear zz)
    exact ⟨M,hpi,hps,(have zz:=@t0; evZ),(have zz:=@t1; evZ),(have zz:=@t2; evZ),(have zz:=@t3; evZ),(have zz:=@t4; evZ),(have zz:=@t10; evZ),(have zz:=@t11; evZ),(have zz:=@t12; evZ),(have zz:=@t13; evZ)⟩
  ·cases wp
   ·(have zz:=aI @t0 (aI @t1 (aI @t2 (aI @t3 (aI @t4 (aI @t10 (aI @t11 (aI @t12 (aI @t13 @t14)))))))); repeat' (first | refine zW ?_ | apply a_n | refine zO ?_ | refine vZ ?_ | refine gTZ ?_ | refine gFZ ?_ | refine cFZ ?_ | fail)) <;> (try clear zz)
    exact ⟨M,hpi,hps,(have zz:=@t0; evZ),(have zz:=@t1; evZ),(have zz:=@t2; evZ),(have zz:=@t3; evZ),(have zz:=@t4; evZ),(have zz:=@t10; evZ),(have zz:=@t11; evZ),(have zz:=@t12; evZ),(have zz:=@t13; evZ)⟩
   ·by_cases h1:hint=1
    ·subst h1
     have tz:decide ((1:Int)=1)=true:=rfl
     (have zz:=aI @t0 (aI @t1 (aI @t2 (aI @t3 (aI @t4 (aI @t10 (aI @t11 (aI @t12 (aI @t13 (aI @t14 @tz))))))))); repeat' (first | refine zW ?_ | apply a_n | refine zO ?_ | refine vZ ?_ | refine gTZ ?_ | (refine zGZ ?_ ?_ <;> (intro _hg; try (exfalso; omega))) | fail)) <;> (try clear zz)
     refine a8 ev0 (have zz:=aI @t0 (aI @t1 (aI @t2 (aI @t3 (aI @t4 (aI @t10 (aI @t11 @t12)))))); evZ) (rm hc (b:=b) hps.at_ (hlen _ hpi) (hGA _ hpi) (a:=a1) (e:=e1) (by omega) (by omega) hn2 hpi.low) ?_
     rintro _ _ _ ⟨rfl,N,t,rfl,rfl,hpN,hsN⟩
     cases t
     ·(have zz:=aI @t0 (aI @t1 (aI @t2 (aI @t3 (aI @t4 (aI @t10 (aI @t11 (aI @t12 (aI @t13 @t14)))))))); repeat' (first | apply a_n | refine zO ?_ | refine cFZ ?_ | fail)) <;> (try clear zz)
      exact ⟨N,hpi.swap hpN,hps.upd,(have zz:=@t0; evZ),(have zz:=@t1; evZ),(have zz:=@t2; evZ),(have zz:=@t3; evZ),(have zz:=@t4; evZ),(have zz:=@t10; evZ),(have zz:=@t11; evZ),(have zz:=@t12; evZ),(have zz:=@t13; evZ)⟩
     ·(have zz:=aI @t0 (aI @t1 (aI @t2 (aI @t3 (aI @t4 (aI @t10 (aI @t11 (aI @t12 (aI @t13 @t14)))))))); repeat' (first | apply a_n | apply a_r | refine zO ?_ | refine cTZ ?_ | refine ag rfl ?_ | fail)) <;> (try clear zz)
      exact ⟨N,hps.upd,hpi.done hpN (hsN rfl)⟩
    ·have tz:decide (hint=1)=false:=decide_eq_false h1
     (have zz:=aI @t0 (aI @t1 (aI @t2 (aI @t3 (aI @t4 (aI @t10 (aI @t11 (aI @t12 (aI @t13 (aI @t14 @tz))))))))); repeat' (first | refine zW ?_ | apply a_n | refine zO ?_ | refine vZ ?_ | refine gTZ ?_ | refine cFZ ?_ | fail)) <;> (try clear zz)
     exact ⟨M,hpi,hps,(have zz:=@t0; evZ),(have zz:=@t1; evZ),(have zz:=@t2; evZ),(have zz:=@t3; evZ),(have zz:=@t4; evZ),(have zz:=@t10; evZ),(have zz:=@t11; evZ),(have zz:=@t12; evZ),(have zz:=@t13; evZ)⟩
 clear t0 t1 t2 t3 t4 t10 t11 t12 t13 t14 hps hpi hint
 rintro T H1 n1 ⟨M,hpi,hps,t0,t1,t2,t3,t4,t10,t11,t12,t13⟩
 have hbb:=hps.at_
 have hl:=hlen _ hpi
 have hGM:=hGA _ hpi
 refine bq (fun T H'' nx''=>T 0=.msl b (n * 2) 2 0 n∧T 1=.int .i64 (a1:Nat)∧T 2=.int .i64 (e1:Nat)∧T 3=.int .i64 (lim:Nat)∧T 4=.func g caps∧T 10=.bool wb∧T 11=.bool wp∧T 12=.int .i64 (l:Nat)∧T 13=.int .i64 (p:Nat)∧H1=H''∧n1=nx'') ?_ ?_
 ·by_cases ha0:a1=0
  ·have tz:decide ((0:Int) < (a1:Int))=false:=decide_eq_false (by omega)
   (have zz:=aI @t0 (aI @t1 (aI @t2 (aI @t3 (aI @t4 (aI @t10 (aI @t11 (aI @t12 (aI @t13 @tz)))))))); repeat' (first | refine zW ?_ | refine zM ?_ | apply a_n | refine zO ?_ | refine vZ ?_ | refine gFZ ?_ | refine cFZ ?_ | fail)) <;> (try clear zz)
   exact ⟨(have zz:=@t0; evZ),(have zz:=@t1; evZ),(have zz:=@t2; evZ),(have zz:=@t3; evZ),(have zz:=@t4; evZ),(have zz:=@t10; evZ),(have zz:=@t11; evZ),(have zz:=@t12; evZ),(have zz:=@t13; evZ),rfl,rfl⟩
  have tz:decide ((0:Int) < (a1:Int))=true:=decide_eq_true (by omega)
  obtain ⟨k,hk⟩:∃ k,a1 - 1=k:=⟨_,rfl⟩
  have tk:(a1:Int) - 1=(k:Int):=by omega
  have lc:=hc.run (M.getD k default) (M.getD p default) (hGM _ (aJ (by omega))) (hGM _ (aJ (by omega)))
  have d1:=hc.dat (M.getD k default)
  have d2:=hc.dat (M.getD p default)
  generalize hKK:K (M.getD k default) (M.getD p default)=kk at lc
  by_cases hlt:kk < 0
  ·(have zz:=aI @t0 (aI @t1 (aI @t2 (aI @t3 (aI @t4 (aI @t10 (aI @t11 (aI @t12 (aI @t13 (aI @tz (aI @tk (aI @hbb (aI @Int.toNat_natCast (aI (b4 hc.len) (aI (aZ hc.len) (aI @aP (aI hc.agg hc.ones)))))))))))))))); repeat' (first | refine zW ?_ | refine zM ?_ | apply a_n | refine zO ?_ | refine vZ ?_ | refine cZ ?_ (hp:=lc) (hs:=by (first | refine aa ?_ rfl | apply ae); (repeat' (first | exact ab | apply ah | apply af | exact d1 | exact d2 | exact aC dcap)); first | done | fail) | refine gTZ ?_ | (refine zGZ ?_ ?_ <;> (intro _hg; try (exfalso; omega))) | fail)) <;> (try clear zz)
   exact ⟨(have zz:=@t0; evZ),(have zz:=@t1; evZ),(have zz:=@t2; evZ),(have zz:=@t3; evZ),(have zz:=@t4; evZ),(have zz:=@t10; evZ),(have zz:=@t11; evZ),(have zz:=@t12; evZ),(have zz:=@t13; evZ),rfl,rfl⟩
  ·(have zz:=aI @t0 (aI @t1 (aI @t2 (aI @t3 (aI @t4 (aI @t10 (aI @t11 (aI @t12 (aI @t13 (aI @tz (aI @tk (aI @hbb (aI @Int.toNat_natCast (aI (b4 hc.len) (aI (aZ hc.len) (aI @aP (aI hc.agg hc.ones)))))))))))))))); repeat' (first | refine zW ?_ | refine zM ?_ | apply a_n | refine zO ?_ | refine vZ ?_ | refine cZ ?_ (hp:=lc) (hs:=by (first | refine aa ?_ rfl | apply ae); (repeat' (first | exact ab | apply ah | apply af | exact d1 | exact d2 | exact aC dcap)); first | done | fail) | refine gTZ ?_ | (refine zGZ ?_ ?_ <;> (intro _hg; try (exfalso; omega))) | fail)) <;> (try clear zz)
   refine a8 ev0 (have zz:=aI @t0 (aI @t1 (aI @t2 (aI @t3 (aI @t4 (aI @t10 (aI @t11 (aI @t12 @t13))))))); evZ) (sD hc (b:=b) hps.at_ (hlen _ hpi) (hGA _ hpi) (a:=a1) (e:=e1) (pv:=p) (by omega) (by omega) hn2 ⟨hp1,hp2⟩) ?_
   rintro _ _ _ ⟨rfl,N,m,rfl,hm1,hm2,rfl,hpN,q1,q2⟩
   (have zz:=aI @t0 (aI @t1 (aI @t2 (aI @t3 (aI @t4 (aI @t10 (aI @t11 (aI @t12 @t13))))))); repeat' (first | refine zW ?_ | apply a_n | apply a_x | refine zO ?_ | refine vZ ?_ | fail)) <;> (try clear zz)
   exact ⟨(m,e1,lim,wb,wp,N),by dsimp only; omega,⟨hpi.equal hc.ord hpN (by rw [hk,hKK]; exact hlt) (by omega) ⟨hm1,hm2⟩ q1 q2,hps.upd,hlim⟩,(have zz:=aI @t0 (aI @t1 (aI @t2 (aI @t3 (aI @t4 (aI @t10 (aI @t11 @t12)))))); agZ)⟩
 clear t0 t1 t2 t3 t4 t10 t11 t12 t13
 rintro T _ _ ⟨t0,t1,t2,t3,t4,t10,t11,t12,t13,rfl,rfl⟩
 refine bq (fun T H'' nx''=>∃ (M:List α) (m:Nat) (t:Bool),PI K a e L a1 e1 M∧TwoS K a1 e1 m M∧PS H H'' nx nx'' b (M.c2 f)∧T 0=.msl b (n * 2) 2 0 n∧T 1=.int .i64 (a1:Nat)∧T 2=.int .i64 (e1:Nat)∧T 3=.int .i64 (lim:Nat)∧T 4=.func g caps∧T 10=.bool wb∧T 11=.bool wp∧T 12=.int .i64 (l:Nat)∧T 16=.int .i64 (m:Nat)∧T 17=.bool t) ?_ ?_
 ·(have zz:=aI @t0 (aI @t1 (aI @t2 (aI @t3 (aI @t4 (aI @t10 (aI @t11 (aI @t12 @t13))))))); repeat' (first | apply a_n | refine zO ?_ | refine vZ ?_ | fail)) <;> (try clear zz)
  refine a8 ev0 (have zz:=aI @t0 (aI @t1 (aI @t2 (aI @t3 (aI @t4 (aI @t10 (aI @t11 (aI @t12 @t13))))))); evZ) (vL hc (b:=b) hps.at_ (hlen _ hpi) (hGA _ hpi) (a:=a1) (e:=e1) (pv:=p) (by omega) (by omega) hn2 ⟨hp1,hp2⟩) ?_
  rintro _ _ _ ⟨rfl,N,m,t,rfl,hm1,hm2,rfl,hpN,q1,q2⟩
  (have zz:=aI @t0 (aI @t1 (aI @t2 (aI @t3 (aI @t4 (aI @t10 (aI @t11 (aI @t12 @t13))))))); repeat' (first | apply a_n | refine zO ?_ | refine vZ ?_ | fail)) <;> (try clear zz)
  exact ⟨N,m,t,hpi.swap hpN,⟨⟨hm1,hm2⟩,fun p k1 k2=>hc.ord.asym _ _ (q1 p k1 k2),q2⟩,hps.upd,(have zz:=@t0; evZ),(have zz:=@t1; evZ),(have zz:=@t2; evZ),(have zz:=@t3; evZ),(have zz:=@t4; evZ),(have zz:=@t10; evZ),(have zz:=@t11; evZ),(have zz:=@t12; evZ),ev0,ev0⟩
 clear t0 t1 t2 t3 t4 t10 t11 t12 t13 hbb hl hGM hpi hps hp1 hp2 p
 rintro T H1 n1 ⟨M,m,t,hpi,hts,hps,t0,t1,t2,t3,t4,t10,t11,t12,t16,t17⟩
 have hm:=hts.mid
 have hl:=hlen _ hpi
 have tq:aO .quo false false (.int .i64 (l:Int)) (.int .i64 8)=some (.int .i64 ((l / 8:Nat):Int)):=by
  rw [jX (by omega) (by omega) (by omega)]
  congr 2
 have tm:(m:Int) + 1=((m + 1:Nat):Int):=by omega
 by_cases hlr:(m:Int) - (a1:Int) < (e1:Int) - (m:Int)
 ·have tz:decide ((m:Int) - (a1:Int) < (e1:Int) - (m:Int))=true:=decide_eq_true hlr
  (have zz:=aI @t0 (aI @t1 (aI @t2 (aI @t3 (aI @t4 (aI @t10 (aI @t11 (aI @t12 (aI @t16 (aI @t17 (aI @tq @tz)))))))))); repeat' (first | refine zW ?_ | apply a_n | refine zO ?_ | refine vZ ?_ | refine cTZ ?_ | fail)) <;> (try clear zz)
  refine a8 ev0 (have zz:=aI @t0 (aI @t1 (aI @t2 (aI @t3 (aI @t4 (aI @t10 (aI @t11 (aI @t12 (aI @t16 @t17)))))))); evZ) (ih a1 m lim M H1 n1 (by omega) hps.at_ (hbn _ _ _ hps) hl (hGA _ hpi) (by omega) (by omega) hlim (hpi.low.sub rfl (by omega))) ?_
  rintro _ H2 n2 ⟨N,hps2,hpN,hsN⟩
  (have zz:=aI @t0 (aI @t1 (aI @t2 (aI @t3 (aI @t4 (aI @t10 (aI @t11 (aI @t12 (aI @t16 (aI @t17 @tm))))))))); repeat' (first | apply a_n | refine zO ?_ | refine vZ ?_ | fail)) <;> (try clear zz)
  exact ⟨(m + 1,e1,lim,decide (((l / 8:Nat):Int) ≤ (m:Int) - (a1:Int)),t,N),by dsimp only; omega,⟨hpi.left hc.ord hts hpN hsN,hps.rec_ hps2.at_ hps2.fr hps2.le,hlim⟩,(have zz:=aI @t0 (aI @t1 (aI @t2 (aI @t3 (aI @t4 (aI @t10 (aI @t11 (aI @t12 (aI @t16 @t17)))))))); agZ)⟩
 ·have tz:decide ((m:Int) - (a1:Int) < (e1:Int) - (m:Int))=false:=decide_eq_false hlr
  (have zz:=aI @t0 (aI @t1 (aI @t2 (aI @t3 (aI @t4 (aI @t10 (aI @t11 (aI @t12 (aI @t16 (aI @t17 (aI @tq (aI @tz @tm))))))))))); repeat' (first | refine zW ?_ | apply a_n | refine zO ?_ | refine vZ ?_ | refine cFZ ?_ | fail)) <;> (try clear zz)
  refine a8 ev0 (have zz:=aI @t0 (aI @t1 (aI @t2 (aI @t3 (aI @t4 (aI @t10 (aI @t11 (aI @t12 (aI @t16 @t17)))))))); evZ) (ih (m + 1) e1 lim M H1 n1 (by omega) hps.at_ (hbn _ _ _ hps) hl (hGA _ hpi) (by omega) (by omega) hlim (fun q k0 k1 k2=>by rw [Nat.add_sub_cancel]; exact hts.ge q k1 k2)) ?_
  rintro _ H2 n2 ⟨N,hps2,hpN,hsN⟩
  (have zz:=aI @t0 (aI @t1 (aI @t2 (aI @t3 (aI @t4 (aI @t10 (aI @t11 (aI @t12 (aI @t16 @t17)))))))); repeat' (first | apply a_n | refine zO ?_ | refine vZ ?_ | fail)) <;> (try clear zz)
  exact ⟨(a1,m,lim,decide (((l / 8:Nat):Int) ≤ (e1:Int) - (m:Int)),t,N),by dsimp only; omega,⟨hpi.right hc.ord hts hpN hsN,hps.rec_ hps2.at_ hps2.fr hps2.le,hlim⟩,(have zz:=aI @t0 (aI @t1 (aI @t2 (aI @t3 (aI @t4 (aI @t10 (aI @t11 (aI @t12 (aI @t16 @t17)))))))); agZ)⟩
end
end Go.Proofs.YtbgdcebmgjafjaaGreat
namespace Go.Proofs.YtbgdcebmgjafjaaGreat
open Go Go.Abs
open Nat (reduceEqDiff reduceAdd reduceLeDiff)
section
variable {α:Type} [Inhabited α] {f:α→AV} {K:α→α→Int} {G:α→Prop} {g:Nat} {caps:List AV}
attribute [local irreducible] aD ai bd bg aQ aV aA aU bj bD Go.Abs.Fn be Go.Abs.Pure aB aK Yl
theorem uc (hc:Cmp2 Tryz.prog f K G g caps) {L:List α} {H:Hp} {b nx n:Nat} (hH:H b=some (L.c2 f)) (hbx:b < nx) (hn:L.length=n) (hn0:0 < n) (hG:∀ x ∈ L,G x) (hn2:n ≤ 1000000000) :
    Abs.Fn Tryz.prog 91 [.msl b (n * 2) 2 0 n,.func g caps] H nx fun r H' nx'=>∃ L',PS H H' nx nx' b (L'.c2 f)∧L'.Perm L∧aM K 0 n L':=by
 refine Abs.Fn.of_c2 follows wA (Nat.le_of_ble_eq_true rfl) ?_
 simp only [b91,cO,cG,cN,cM,cD,cF,cB,ap,aH]
 have w:IntKind.wrap .u64 (n:Int)=n:=go (by omega) (by omega)
 (have zz:=@w; repeat' (first | refine zW ?_ | apply a_n | refine zO ?_ | refine vZ ?_ | fail)) <;> (try clear zz)
 refine a8 ev0 (have zz:=@w; evZ) (uO hn0 (by omega)) ?_
 rintro _ _ _ ⟨rfl,rfl,k,rfl,h3,h4⟩
 have hk:k ≤ 62:=by
  rcases Nat.lt_or_ge 62 k with h | h
  ·have:=Nat.pow_le_pow_right (n:=2) (by omega) h
   omega
  ·exact h
 (have zz:=and_self; repeat' (first | apply a_n | refine zO ?_ | refine vZ ?_ | fail)) <;> (try clear zz)
 refine a8 ev0 (have zz:=@Int.natCast_zero; evZ) (xb hc hn2 (n + 1) 0 n k L _ _ (by omega) hH hbx hn hG (by omega) (Nat.le_refl _) (by omega) (fun q h=>by omega)) ?_
 rintro _ _ _ ⟨N,hps,hp,hs⟩
 (have zz:=and_self; repeat' (first | apply a_n | refine zO ?_ | refine ag rfl ?_ | fail)) <;> (try clear zz)
 exact ⟨N,hps,hp.perm,hs⟩
end
end Go.Proofs.YtbgdcebmgjafjaaGreat
namespace Go.Proofs.YtbgdcebmgjafjaaGreat
open Go Go.Abs
open Nat (reduceEqDiff reduceAdd reduceLeDiff)
theorem m9:∀ (l:Spx) (k:Nat),(cX l).drop (k * 2)=cX (l.drop k)
 | [],k=>by simp [cX]
 | a :: l,0=>by simp
 | a :: l,k + 1=>by
  show (jo a ++ cX l).drop _=cX (l.drop k)
  rw [show (k + 1) * 2=(jo a).length + k * 2 by show _=2 + _; omega,List.drop_append,List.drop_eq_nil_of_le (Nat.le_add_right _ _),List.nil_append,Nat.add_sub_cancel_left,m9 l k]
theorem j5:∀ (l:Spx) (k:Nat),(cX l).take (k * 2)=cX (l.take k)
 | [],k=>by simp [cX]
 | a :: l,0=>by simp [cX]
 | a :: l,k + 1=>by
  show (jo a ++ cX l).take _=jo a ++ cX (l.take k)
  rw [List.take_append,List.take_of_length_le (by show 2 ≤ _; omega),show (k + 1) * 2 - (jo a).length=k * 2 by show _ - 2=_; omega,j5 l k]
theorem rdX {l:Spx} {k:Nat} (hk:k < l.length):((cX l).drop (k * 2)).take 2=[.int .i64 (l.getD k default).color,.int .i64 (l.getD k default).label]:=by
 rw [m9,ef hk]; rfl
theorem w7 {l:Spx} {k:Nat} {w:Vtx} (hk:k < l.length):bu (cX l) (k * 2) [.int .i64 w.color,.int .i64 w.label]=cX (l.set k w):=by
 simp only [bu,List.length_cons,List.length_nil]
 rw [show k * 2 + (0 + 1 + 1)=(k + 1) * 2 by omega,m9,j5,List.set_eq_take_append_cons_drop,if_pos hk]
 simp only [cX,List.flatMap_append,List.flatMap_cons,List.append_assoc]
 rfl
theorem jW {c:Prop} [Decidable c] {g:List AV→AV} {x:List AV}:Option.map g (if c then some x else none)=if c then some (g x) else none:=by
 split <;> rfl
theorem qF {L:Spx} {h:Nat} {x:Vtx} (hh:h < L.length):(L.set h x).take (h + 1)=L.take h ++ [x]:=by
 rw [bR (by simpa using hh),List.take_set_of_le (Nat.le_refl h)]
 simp [List.getD,hh]
theorem lJ {B n len k:Nat} (h:k < len) (hn:n ≠ 0):lY 2 (.msl B n 2 0 len) (some (.int .i64 k)) none none=some (.msl B n 2 (k * 2) (len - k)):=by
 simp only [lY,bb,Int.natCast_nonneg,if_true,Int.toNat_natCast]
 rw [if_pos ⟨trivial,by omega,Nat.le_refl _,hn⟩,if_pos (.inr h),Nat.zero_add]
theorem pP {B n len k:Nat} (h:k ≤ len) (hn:n ≠ 0):lY 2 (.msl B n 2 0 len) none (some (.int .i64 k)) none=some (.msl B n 2 0 k):=by
 simp only [lY,bb,Int.natCast_nonneg,if_true,Int.toNat_natCast]
 rw [if_pos ⟨trivial,by omega,h,hn⟩,if_pos (.inl trivial),Nat.zero_mul,Nat.sub_zero]
theorem re {H:Hp} {B:Nat} {cs:List AV} (hH:H B=some cs):H=al H B cs:=by
 funext b
 by_cases e:b=B
 ·subst e; rw [ar]; exact hH
 ·rw [am e]
attribute [local irreducible] aD ai bd bg aQ aV aA aU bj bD Go.Abs.Fn be Go.Abs.Pure aB aK Yl
set_option maxHeartbeats 1000000 in
theorem pp (l:Spx) (hl:Shn l) (h0:l ≠ []) (H:Hp) (B nx:Nat) (hH:H B=some (cX l)) (hB:B < nx) :
    Abs.Fn Tryz.prog 92 [.msl B (l.length * 2) 2 0 l.length] H nx fun r H' nx'=>r=.msl B (l.length * 2) 2 0 (bH l l.length)∧(∃ C,H'=al H B C∧C.length=l.length * 2∧C.take (bH l l.length * 2)=cX (dh l l.length))∧nx'=nx:=by
 refine Abs.Fn.of_c2 follows wN (Nat.le_of_ble_eq_true rfl) ?_
 simp only [b92,cO,cG,cN,cM,cD,cF,cB,ap,aH]
 have hl':l.length ≤ 17592186044416:=hl
 have hpos:=List.length_pos_iff.2 h0
 have hid:=re hH
 (have zz:=and_self; repeat' (first | refine zW ?_ | apply a_n | apply a_r | refine zO ?_ | refine vZ ?_ | (refine zGZ ?_ ?_ <;> (intro _hg; try (exfalso; omega))) | refine ag rfl ?_ | refine r1Z ?_ | fail)) <;> (try clear zz)
 ·have e1:l.length=1:=by omega
  have e2:dh l l.length=l:=by
   match l,e1 with
   | [a],_=>rfl
  refine ⟨?_,⟨_,hid,eL l,?_⟩,rfl⟩
  ·rw [show bH l l.length=l.length by rw [e1]; rfl]
  ·rw [e2,show bH l l.length=l.length by rw [e1]; rfl,List.take_of_length_le (by rw [eL]; omega)]
 refine aY (X:=Nat) (fun k=>[(0,.msl B (l.length * 2) 2 0 l.length),(3,.int .i64 k)]) (fun k H' nx'=>H'=H∧nx'=nx∧1 ≤ k∧k ≤ l.length∧bH l k=k∧dh l k=l.take k) (fun k=>l.length - k) 1 ⟨rfl,rfl,Nat.le_refl _,hpos,rfl,by match l,h0 with | a :: r,_=>rfl⟩ ag0 ?_
 rintro k H' nx' ⟨rfl,rfl,k1,k2,k3,k4⟩
 have hcl:=eL l
 by_cases hk:k < l.length
 ·have tk:(k:Int) - 1=(k - 1:Nat):=by omega
  have q1:=rdX hk
  have q2:=rdX (l:=l) (k:=k - 1) (by omega)
  have hd:=ff (l.getD k default) (l.getD (k - 1) default)
  by_cases he:l.getD k default=l.getD (k - 1) default
  ·have hs:=lJ (B:=B) (n:=l.length * 2) hk (by omega)
   rw [decide_eq_true he] at hd
   (have zz:=aI @tk (aI @hH (aI @Int.toNat_natCast (aI @hcl (aI @q1 (aI @q2 (aI @jW (aI @acq (aI @hd @hs)))))))); repeat' (first | refine zW ?_ | apply a_n | refine zO ?_ | refine vZ ?_ | refine cTZ ?_ | (refine zGZ ?_ ?_ <;> (intro _hg; try (exfalso; omega))) | fail)) <;> (try clear zz)
   refine aY (X:=Nat × Spx) (fun x=>[(0,.msl B (l.length * 2) 2 0 l.length),(3,.int .i64 (bH l (k + x.1):Nat)),(4,.msl B (l.length * 2) 2 (k * 2) (l.length - k)),(5,.int .i64 x.1)]) (fun x H2 nx2=>x.2.length=l.length∧1 ≤ x.1∧k + x.1 ≤ l.length∧bH l (k + x.1) + 1 ≤ k + x.1∧H2=al H' B (cX x.2)∧nx2=nx'∧(∀ p,k + x.1 ≤ p + 1→x.2.getD p default=l.getD p default)∧x.2.take (bH l (k + x.1))=dh l (k + x.1)) (fun x=>l.length - x.1) (1,l)
    ⟨rfl,Nat.le_refl _,hk,by dsimp only; rw [fp (by omega) he]; omega,hid,rfl,fun _ _=>rfl,by dsimp only; rw [fp (by omega) he,kM (by omega) he,k3,k4]⟩ (by simp (disch:=omega) only [agr,ZG,reduceEqDiff,↓reduceIte,fp (show k ≠ 0 by omega) he,k3]) ?_
   rintro ⟨j,L⟩ H2 nx2 ⟨a1,a2,a3,a4,rfl,rfl,a5,a6⟩
   dsimp only at a1 a2 a3 a4 a5 a6 ⊢
   have hcL:(cX L).length=l.length * 2:=by rw [eL,a1]
   by_cases hj:k + j < l.length
   ·have tj:(j:Int) - 1=(j - 1:Nat):=by omega
    have r1:=a5 (k + j) (by omega)
    have r2:=a5 (k + (j - 1)) (by omega)
    have s1:=rdX (l:=L) (k:=k + j) (by omega)
    have s2:=rdX (l:=L) (k:=k + (j - 1)) (by omega)
    rw [r1] at s1
    rw [r2] at s2
    rw [Nat.add_mul] at s1 s2
    have hd2:=ff (l.getD (k + j) default) (l.getD (k + (j - 1)) default)
    by_cases hd:l.getD (k + j) default=l.getD (k + (j - 1)) default
    ·have hq:bH l (k + (j + 1))=bH l (k + j):=fp (l:=l) (k:=k + j) (by omega) (by rw [hd,show k + j - 1=k + (j - 1) by omega])
     rw [decide_eq_true hd] at hd2
     (have zz:=aI @tj (aI @Int.toNat_natCast (aI @hcL (aI @s1 (aI @s2 (aI @jW (aI @acn @hd2)))))); repeat' (first | refine zW ?_ | apply a_n | refine zO ?_ | refine vZ ?_ | refine cFZ ?_ | (refine zGZ ?_ ?_ <;> (intro _hg; try (exfalso; omega))) | fail)) <;> (try clear zz)
     refine ⟨(j + 1,L),by dsimp only; omega,⟨a1,by dsimp only; omega,by dsimp only; omega,?_,rfl,rfl,fun p hp=>a5 p (by dsimp only at hp; omega),by dsimp only; rw [hq,show k + (j + 1)=k + j + 1 from rfl,kM (by omega) (by rw [hd,show k + j - 1=k + (j - 1) by omega])]; exact a6⟩,(have zz:=@hq; agZ)⟩
     dsimp only
     rw [hq]
     omega
    ·have hq:bH l (k + (j + 1))=bH l (k + j) + 1:=j8 (l:=l) (k:=k + j) (by rw [show k + j - 1=k + (j - 1) by omega]; exact hd)
     have hlm:=w7 (l:=L) (k:=bH l (k + j)) (w:=l.getD (k + j) default) (by omega)
     rw [decide_eq_false hd] at hd2
     have hle:bH l (k + j) * 2 + 2 ≤ l.length * 2:=by omega
     (have zz:=aI @tj (aI @Int.toNat_natCast (aI @hcL (aI @s1 (aI @s2 (aI @jW (aI @acn @hd2)))))); repeat' (first | refine zW ?_ | apply a_n | refine zO ?_ | refine vZ ?_ | refine stZ ?_ | refine cTZ ?_ | (refine zGZ ?_ ?_ <;> (intro _hg; try (exfalso; omega))) | fail)) <;> (try clear zz)
     refine ⟨(j + 1,L.set (bH l (k + j)) (l.getD (k + j) default)),by dsimp only; omega,⟨by simp [a1],by dsimp only; omega,by dsimp only; omega,?_,?_,rfl,fun p hp=>?_,by dsimp only; rw [hq,qF (by omega),a6,show k + (j + 1)=k + j + 1 from rfl,kI (by rw [show k + j - 1=k + (j - 1) by omega]; exact hd)]⟩,(have zz:=@hq; agZ)⟩
     ·dsimp only
      rw [hq]
      omega
     ·dsimp only
      rw [az,hlm]
     ·dsimp only at hp ⊢
      rw [List.getD_eq_getElem?_getD,List.getElem?_set_ne (by omega),← List.getD_eq_getElem?_getD]
      exact a5 p (by omega)
   ·have hn:k + j=l.length:=by omega
    have hl1:=lJ (B:=B) (n:=l.length * 2) (show bH l (k + j) < l.length by omega) (by omega)
    have hl2:=pP (B:=B) (n:=l.length * 2) (show bH l (k + j) ≤ l.length by omega) (by omega)
    (have zz:=aI @hl1 @hl2; repeat' (first | refine zW ?_ | apply a_n | apply a_x | refine zO ?_ | refine vZ ?_ | (refine zGZ ?_ ?_ <;> (intro _hg; try (exfalso; omega))) | fail)) <;> (try clear zz)
    refine xR (H':=al (al H' B (cX L)) B (bu (cX L) (bH l (k + j) * 2) (aS (.agg [.int .i64 0,.int .i64 0]) (l.length - bH l (k + j))))) ?_ ?_
    ·((try simp only [b8,ZA,reduceEqDiff,↓reduceIte,reduceAdd,reduceLeDiff]); (try with_reducible rfl))
     simp only [eH]
     rw [if_neg (by omega),ar]
     dsimp only
     rw [if_pos ⟨hcL,trivial,rfl,rfl,by omega⟩]
     rfl
    ·(have zz:=@hl2; repeat' (first | refine zW ?_ | apply a_n | apply a_r | refine zO ?_ | refine vZ ?_ | refine ag rfl ?_ | refine r1Z ?_ | fail)) <;> (try clear zz)
     refine ⟨by rw [hn],⟨_,az _ _ _ _,?_,?_⟩,rfl⟩
     ·have hz:(aS (AV.agg [.int .i64 0,.int .i64 0]) (l.length - bH l (k + j))).length=(l.length - bH l (k + j)) * 2:=by simp [aS,AV.cells]
      simp only [bu,List.length_append,List.length_take,List.length_drop,hz,hcL]
      omega
     ·rw [← hn,← a6,← j5]
      simp only [bu]
      rw [List.append_assoc,List.take_append_of_le_length (by rw [List.length_take,hcL]; omega),List.take_take,Nat.min_self]
  ·rw [decide_eq_false he] at hd
   (have zz:=aI @tk (aI @hH (aI @Int.toNat_natCast (aI @hcl (aI @q1 (aI @q2 (aI @jW (aI @acq @hd))))))); repeat' (first | refine zW ?_ | apply a_n | refine zO ?_ | refine vZ ?_ | refine cFZ ?_ | (refine zGZ ?_ ?_ <;> (intro _hg; try (exfalso; omega))) | fail)) <;> (try clear zz)
   exact ⟨k + 1,by omega,⟨rfl,rfl,by omega,by omega,by rw [j8 he,k3],by rw [kI he,k4,bR hk]⟩,ag0⟩
 ·(have zz:=and_self; repeat' (first | refine zW ?_ | apply a_n | apply a_x | refine zO ?_ | refine vZ ?_ | (refine zGZ ?_ ?_ <;> (intro _hg; try (exfalso; omega))) | refine ag rfl ?_ | refine r1Z ?_ | fail)) <;> (try clear zz)
  have e:l.length=k:=by omega
  refine ⟨by rw [e,k3],⟨_,hid,hcl,?_⟩,rfl⟩
  rw [e,k3,k4,← j5]
end Go.Proofs.YtbgdcebmgjafjaaGreat
namespace Go.Proofs.YtbgdcebmgjafjaaGreat
open Go Go.Abs
theorem vQ (a b:Vtx):jr (.st [.int,.int]) (a7 a) (a7 b)=some (decide (a=b)):=by
 show bS [.int,.int] [.int .i64 a.color,.int .i64 a.label] [.int .i64 b.color,.int .i64 b.label]=_
 rw [pL,ff]
theorem nf (v:Vtx) (ks:List Vtx):b7 (.st [.int,.int]) (a7 v) (ks.map a7)=some (if v ∈ ks then some (ks.idxOf v) else none):=mb _ a7 vQ v ks
theorem mw (v:Vtx):iv (.st [.int,.int]) (a7 v)=true:=rfl
def gr (l:List Spx) (i:Nat) (v:Vtx):List Nat:=(List.range i).filter fun k=>decide (v ∈ l.getD k default)
def iB (l:List Spx) (i j:Nat) (v:Vtx):List Nat:=gr l i v ++ if v ∈ (l.getD i default).take j then [i] else []
theorem qU {l:List Spx} {i:Nat} {v:Vtx}:gr l (i + 1) v=iB l i (l.getD i default).length v:=by
 unfold gr iB
 rw [List.range_succ,List.filter_append,List.take_length]
 congr 1
 by_cases h:v ∈ l.getD i default
 ·rw [if_pos h]; simp only [List.filter,h,decide_true]
 ·rw [if_neg h]; simp only [List.filter,h,decide_false]
theorem qM {l:List Spx} {i:Nat} {v:Vtx}:iB l i 0 v=gr l i v:=by unfold iB; simp
theorem rD {l:List Spx} {i j:Nat} {v:Vtx} (hj:j < (l.getD i default).length) (ha:cw aN (l.getD i default)):iB l i (j + 1) v=if v=(l.getD i default).getD j default then iB l i j v ++ [i] else iB l i j v:=by
 unfold iB
 generalize l.getD i default=s at *
 rw [bR hj]
 by_cases h:v=s.getD j default
 ·have hn:v ∉ s.take j:=fun hm=>by
    obtain ⟨k,hk,e⟩:=List.getElem_of_mem hm
    rw [List.length_take] at hk
    rw [List.getElem_take] at e
    have:=dI ha (i:=k) (j:=j) (by omega) hj
    rw [← h,← e] at this
    have e2:s.getD k default=s[k]:=by simp [List.getD,show k < s.length by omega]
    rw [e2] at this
    exact kC.ord.irr _ this
  rw [if_pos h,if_neg hn,if_pos (by rw [List.mem_append,h]; simp)]
  simp
 ·rw [if_neg h]
  congr 1
  have e:v ∈ s.take j ++ [s.getD j default] ↔ v ∈ s.take j:=by rw [List.mem_append,List.mem_singleton]; exact ⟨fun h'=>h'.resolve_right h,.inl⟩
  by_cases h2:v ∈ s.take j
  ·rw [if_pos (e.2 h2),if_pos h2]
  ·rw [if_neg (fun h=>h2 (e.1 h)),if_neg h2]
def ud (i:Nat):AV:=.int .i64 (i:Int)
structure IncOk (H:Hp) (b lo hi:Nat) (F:Vtx→List Nat) (ks:List Vtx) (vs:List AV):Prop where
 box:H b=some [.omap (ks.map a7) vs]
 len:vs.length=ks.length
 nodup:ks.Nodup
 dom:∀ v,v ∈ ks ↔ F v ≠ []
 row:∀ j,j < ks.length→Row H 1 (vs.getD j .undef) ((F (ks.getD j default)).map ud)
 bnd:∀ j B,j < ks.length→fG (vs.getD j .undef)=some B→lo ≤ B∧B < hi∧B ≠ b
 apart:∀ i j B,i < ks.length→j < ks.length→i ≠ j→fG (vs.getD i .undef)=some B→fG (vs.getD j .undef) ≠ some B
 lt:b < hi
theorem rg {l:List AV} {i j:Nat} {x:AV} (h:i < l.length):(l.set i x).getD j .undef=if i=j then x else l.getD j .undef:=by
 simp only [List.getD,List.getElem?_set]
 split
 ·rename_i e; subst e; simp [h]
 ·rfl
theorem oV {α:Type} {l m:List α} {j:Nat} {d:α} (h:j < l.length):(l ++ m).getD j d=l.getD j d:=by
 simp [List.getD,List.getElem?_append_left h]
theorem me {α:Type} {l:List α} {x d:α}:(l ++ [x]).getD l.length d=x:=by simp [List.getD]
theorem ib {l:List Vtx} {v:Vtx} (h:v ∈ l):l.idxOf v < l.length∧l.getD (l.idxOf v) default=v:=by
 have h1:=List.idxOf_lt_length_iff.2 h
 exact ⟨h1,by simp [List.getD,h1]⟩
theorem ry {l:List Vtx} (h:l.Nodup) {i j:Nat} (hi:i < l.length) (hj:j < l.length) (e:l.getD i default=l.getD j default):i=j:=by
 have hp:=List.pairwise_iff_getElem.1 (List.nodup_iff_pairwise_ne.1 h)
 rw [show l.getD i default=l[i] by simp [List.getD,hi],show l.getD j default=l[j] by simp [List.getD,hj]] at e
 rcases Nat.lt_trichotomy i j with c | c | c
 ·exact absurd e (hp i j hi hj c)
 ·exact c
 ·exact absurd e.symm (hp j i hj hi c)
theorem IncOk.same {H H':Hp} {b lo hi hi':Nat} {F:Vtx→List Nat} {ks:List Vtx} {vs:List AV} (h:IncOk H b lo hi F ks vs) (hb:H' b=H b) (hs:∀ x,lo ≤ x→x < hi→x ≠ b→H' x=H x) (hh:hi ≤ hi'):IncOk H' b lo hi' F ks vs :=
 ⟨hb.trans h.box,h.len,h.nodup,h.dom,fun j hj=>(h.row j hj).same fun B hB=>by have:=h.bnd j B hj hB; exact hs B this.1 this.2.1 this.2.2,fun j B hj hB=>by have:=h.bnd j B hj hB; exact ⟨this.1,by omega,this.2.2⟩,h.apart,by have:=h.lt; omega⟩
theorem IncOk.put {H H':Hp} {b lo hi hi' i:Nat} {F G:Vtx→List Nat} {ks:List Vtx} {vs:List AV} {w:Vtx} {sv:AV} (h:IncOk H b lo hi F ks vs) (hw:w ∈ ks) (hG:∀ v,G v=if v=w then F v ++ [i] else F v) (hrow:Row H' 1 sv ((F w ++ [i]).map ud)) (hB:∀ B,fG sv=some B→fG (vs.getD (ks.idxOf w) .undef)=some B ∨ hi ≤ B∧B < hi'∧B ≠ b) (hb:H' b=some [.omap (ks.map a7) (vs.set (ks.idxOf w) sv)])
    (hs:∀ x,lo ≤ x→x < hi→x ≠ b→fG (vs.getD (ks.idxOf w) .undef) ≠ some x→H' x=H x) (hh:hi ≤ hi') (hlo:lo ≤ hi):IncOk H' b lo hi' G ks (vs.set (ks.idxOf w) sv):=by
 obtain ⟨k1,k2⟩:=ib hw
 have hl:=h.len
 have hg:∀ j,(vs.set (ks.idxOf w) sv).getD j .undef=if ks.idxOf w=j then sv else vs.getD j .undef:=fun j=>rg (by omega)
 have hne:∀ j,j < ks.length→ks.idxOf w ≠ j→ks.getD j default ≠ w:=fun j hj hn e=>hn (ry h.nodup k1 hj (by rw [k2,e]))
 refine ⟨hb,by simp [hl],h.nodup,fun v=>?_,fun j hj=>?_,fun j B hj=>?_,fun p q B hp hq hpq=>?_,by have:=h.lt; omega⟩
 ·rw [hG,h.dom]
  by_cases e:v=w
  ·subst e
   rw [if_pos rfl]
   exact ⟨fun _=>by simp,fun _=>(h.dom v).1 hw⟩
  ·rw [if_neg e]
 ·rw [hg,hG]
  by_cases e:ks.idxOf w=j
  ·rw [if_pos e,if_pos (by rw [← e]; exact k2),← e,k2]; exact hrow
  ·rw [if_neg e,if_neg (hne j hj e)]
   exact (h.row j hj).same fun B hB'=>by
    have:=h.bnd j B hj hB'
    exact hs B this.1 this.2.1 this.2.2 fun h'=>h.apart (ks.idxOf w) j B k1 hj e h' hB'
 ·rw [hg]
  by_cases e:ks.idxOf w=j
  ·rw [if_pos e]
   intro hB'
   rcases hB B hB' with h' | h'
   ·have:=h.bnd _ B k1 h'; exact ⟨this.1,by omega,this.2.2⟩
   ·exact ⟨by omega,h'.2⟩
  ·rw [if_neg e]
   intro hB'
   have:=h.bnd j B hj hB'
   exact ⟨this.1,by omega,this.2.2⟩
 ·rw [hg,hg]
  by_cases e1:ks.idxOf w=p
  ·rw [if_pos e1,if_neg (by omega)]
   intro h1 h2
   rcases hB B h1 with h' | h'
   ·exact h.apart (ks.idxOf w) q B k1 hq (by omega) h' h2
   ·have:=h.bnd q B hq h2; omega
  ·rw [if_neg e1]
   by_cases e2:ks.idxOf w=q
   ·rw [if_pos e2]
    intro h1 h2
    rcases hB B h2 with h' | h'
    ·exact h.apart p (ks.idxOf w) B hp k1 (by omega) h1 h'
    ·have:=h.bnd p B hp h1; omega
   ·rw [if_neg e2]; exact h.apart p q B hp hq hpq
theorem IncOk.new {H H':Hp} {b lo hi hi' i:Nat} {F G:Vtx→List Nat} {ks:List Vtx} {vs:List AV} {w:Vtx} {sv:AV} (h:IncOk H b lo hi F ks vs) (hw:w ∉ ks) (hG:∀ v,G v=if v=w then F v ++ [i] else F v) (hrow:Row H' 1 sv ([i].map ud)) (hB:∀ B,fG sv=some B→hi ≤ B∧B < hi'∧B ≠ b) (hb:H' b=some [.omap ((ks ++ [w]).map a7) (vs ++ [sv])])
    (hs:∀ x,lo ≤ x→x < hi→x ≠ b→H' x=H x) (hh:hi ≤ hi') (hlo:lo ≤ hi):IncOk H' b lo hi' G (ks ++ [w]) (vs ++ [sv]):=by
 have hl:=h.len
 have hF:F w=[]:=by
  cases hf:F w with
  | nil=>rfl
  | cons a r=>exact absurd ((h.dom w).2 (by rw [hf]; simp)) hw
 have g1:∀ j,j < ks.length→(ks ++ [w]).getD j default=ks.getD j default∧(vs ++ [sv]).getD j .undef=vs.getD j .undef:=fun j hj=>⟨oV hj,oV (by omega)⟩
 have g2:(ks ++ [w]).getD ks.length default=w∧(vs ++ [sv]).getD ks.length .undef=sv:=⟨me,by rw [← hl]; exact me⟩
 refine ⟨hb,by simp [hl],?_,fun v=>?_,fun j hj=>?_,fun j B hj=>?_,fun p q B hp hq hpq=>?_,by have:=h.lt; omega⟩
 ·rw [List.nodup_append]
  exact ⟨h.nodup,by simp,fun a ha c hc e=>by rw [List.mem_singleton] at hc; exact hw (by rw [← hc,← e]; exact ha)⟩
 ·rw [hG,List.mem_append,List.mem_singleton]
  by_cases e:v=w
  ·subst e; rw [if_pos rfl]; simp
  ·rw [if_neg e,← h.dom]; simp [e]
 ·rw [List.length_append,List.length_singleton] at hj
  by_cases e:j=ks.length
  ·subst e
   rw [g2.1,g2.2,hG,if_pos rfl,hF]; exact hrow
  ·obtain ⟨e1,e2⟩:=g1 j (by omega)
   have hne:ks.getD j default ≠ w:=fun e'=>hw (e' ▸ a9 (by omega))
   rw [e1,e2,hG,if_neg hne]
   exact (h.row j (by omega)).same fun B hB'=>by have:=h.bnd j B (by omega) hB'; exact hs B this.1 this.2.1 this.2.2
 ·rw [List.length_append,List.length_singleton] at hj
  by_cases e:j=ks.length
  ·subst e
   rw [g2.2]; intro hB'
   have:=hB B hB'; exact ⟨by omega,this.2⟩
  ·rw [(g1 j (by omega)).2]; intro hB'
   have:=h.bnd j B (by omega) hB'; exact ⟨this.1,by omega,this.2.2⟩
 ·rw [List.length_append,List.length_singleton] at hp hq
  by_cases e1:p=ks.length
  ·subst e1
   rw [g2.2,(g1 q (by omega)).2]
   intro h1 h2
   have:=hB B h1
   have:=h.bnd q B (by omega) h2
   omega
  ·rw [(g1 p (by omega)).2]
   by_cases e2:q=ks.length
   ·subst e2
    rw [g2.2]
    intro h1 h2
    have:=hB B h2
    have:=h.bnd p B (by omega) h1
    omega
   ·rw [(g1 q (by omega)).2]; exact h.apart p q B (by omega) (by omega) hpq
end Go.Proofs.YtbgdcebmgjafjaaGreat
namespace Go.Proofs.YtbgdcebmgjafjaaGreat
open Go Go.Abs
theorem l6 {H:Hp} {d:Nat} {x:AV}:c8 1 (al H d [x]) (.msl d 1 1 0 1)=some (1,[x]):=hU (n:=1) (len:=1) (off:=0) (cs:=[x]) ar rfl (by simp)
theorem o5 {l:List Spx} {i:Nat} {v:Vtx}:(gr l i v).length ≤ i:=by
 unfold gr
 have:=List.length_filter_le (fun k=>decide (v ∈ l.getD k default)) (List.range i)
 rwa [List.length_range] at this
theorem sc {l:List Spx} {i j:Nat} {v:Vtx}:(iB l i j v).length ≤ i + 1:=by
 unfold iB
 have:=o5 (l:=l) (i:=i) (v:=v)
 rw [List.length_append]
 split <;> simp <;> omega
attribute [local irreducible] aD ai bd bg aQ aV aA aU bj bD Go.Abs.Fn be Go.Abs.Pure aB aK Yl
set_option maxHeartbeats 2000000 in
theorem oB (l:List Spx) (hl:l.length ≤ 100000) (hs:∀ s ∈ l,cw aN s∧s.length ≤ 1000000) (H:Hp) (nx:Nat):Abs.Fn Tryz.prog 69 [aE l] H nx fun r H' nx'=>∃ ks vs,r=.mp nx∧IncOk H' nx nx nx' (gr l l.length) ks vs∧(∀ x,x < nx→H' x=H x)∧nx < nx':=by
 refine Abs.Fn.of_c2 follows wk (Nat.le_of_ble_eq_true rfl) ?_
 simp only [b69,cO,cG,cN,cM,cD,cF,cB,ap,aH]
 refine dG ?_
 (have zz:=and_self; repeat' (first | apply a_n | refine zO ?_ | refine vZ ?_ | fail)) <;> (try clear zz)
 refine dG ?_
 (have zz:=and_self; repeat' (first | apply a_n | refine zO ?_ | fail)) <;> (try clear zz)
 refine uq ?_
 (have zz:=@aj; repeat' (first | refine zW ?_ | apply a_n | refine zO ?_ | refine vY ?_ | fail)) <;> (try clear zz)
 refine aY (X:=Nat × List Vtx × List AV) (fun x=>[(3,.mp nx),(9,aE l),(10,.int .i64 l.length),(11,.int .i64 x.1)]) (fun x H' nx'=>x.1 ≤ l.length∧IncOk H' nx nx nx' (gr l x.1) x.2.1 x.2.2∧(∀ y,y < nx→H' y=H y)∧nx < nx') (fun x=>l.length - x.1) (0,[],[]) ⟨Nat.zero_le _,⟨ar,rfl,List.nodup_nil,fun v=>by simp [gr],fun j h=>absurd h (by simp),fun j B h=>absurd h (by simp),fun i j B h=>absurd h (by simp),by omega⟩,fun y hy=>am (by omega),by omega⟩ ag0 ?_
 rintro ⟨i,ks,vs⟩ H1 nx1 ⟨h1,h2,h3,h4⟩
 dsimp only at h1 h2 ⊢
 by_cases hi:i < l.length
 rotate_left
 ·obtain rfl:i=l.length:=by omega
  (have zz:=and_self; repeat' (first | refine zW ?_ | apply a_n | apply a_x | refine zO ?_ | refine vY ?_ | (refine zGY ?_ ?_ <;> (intro _hg; try (exfalso; omega))) | refine ag rfl ?_ | refine r1Y ?_ | fail)) <;> (try clear zz)
  exact ⟨ks,vs,rfl,h2,h3,h4⟩
 have ix:=e6 hi
 obtain ⟨hsa,hsl⟩:=hs _ (a9 hi)
 have hstep:=fun j v hj=>rD (l:=l) (i:=i) (j:=j) (v:=v) hj hsa
 have hend:=fun v=>qU (l:=l) (i:=i) (v:=v)
 have hlen:=fun j v=>sc (l:=l) (i:=i) (j:=j) (v:=v)
 have h20:IncOk H1 nx nx nx1 (iB l i 0) ks vs:=by rw [show iB l i 0=gr l i from funext fun v=>qM]; exact h2
 have hend':gr l (i + 1)=iB l i (l.getD i default).length:=funext hend
 clear h2
 generalize l.getD i default=s at *
 (have zz:=aI @ix @ac; repeat' (first | refine zW ?_ | apply a_n | refine zO ?_ | refine vY ?_ | (refine zGY ?_ ?_ <;> (intro _hg; try (exfalso; omega))) | fail)) <;> (try clear zz)
 refine aY (X:=Nat × List Vtx × List AV) (fun x=>[(3,.mp nx),(9,aE l),(10,.int .i64 l.length),(11,.int .i64 i),(4,.int .i64 i),(5,ao s),(16,ao s),(17,.int .i64 s.length),(18,.int .i64 x.1)]) (fun x H' nx'=>x.1 ≤ s.length∧IncOk H' nx nx nx' (iB l i x.1) x.2.1 x.2.2∧(∀ y,y < nx→H' y=H y)∧nx < nx') (fun x=>s.length - x.1) (0,ks,vs) ⟨Nat.zero_le _,h20,h3,h4⟩ ag0 ?_
 clear h20 h3 h4
 rintro ⟨j,ks,vs⟩ H2 nx2 ⟨k1,k2,k3,k4⟩
 dsimp only at k1 k2 ⊢
 by_cases hj:j < s.length
 rotate_left
 ·obtain rfl:j=s.length:=by omega
  (have zz:=and_self; repeat' (first | refine zW ?_ | apply a_n | apply a_x | refine zO ?_ | refine vY ?_ | (refine zGY ?_ ?_ <;> (intro _hg; try (exfalso; omega))) | fail)) <;> (try clear zz)
  exact ⟨(i + 1,ks,vs),by dsimp only; omega,⟨by dsimp only; omega,by dsimp only; rw [hend']; exact k2,k3,k4⟩,ag0⟩
 have iy:=ix2 hj
 have hG:=fun v=>hstep j v hj
 have hcl:=hlen j (s.getD j default)
 generalize s.getD j default=w at *
 (have zz:=@iy; repeat' (first | refine zW ?_ | apply a_n | refine zO ?_ | refine vY ?_ | refine alY ?_ | refine stY ?_ | refine blY ?_ | (refine zGY ?_ ?_ <;> (intro _hg; try (exfalso; omega))) | fail)) <;> (try clear zz)
 have g3:∀ x,x < nx2→al (al (al H2 nx2 [.int .i64 0,.int .i64 0]) nx2 (bu [.int .i64 0,.int .i64 0] 0 [.int .i64 w.color,.int .i64 w.label])) (nx2 + 1) [.int .i64 i] x=H2 x:=fun x hx=>by rw [am (by omega),am (by omega),am (by omega)]
 have g4:al (al (al H2 nx2 [.int .i64 0,.int .i64 0]) nx2 (bu [.int .i64 0,.int .i64 0] 0 [.int .i64 w.color,.int .i64 w.label])) (nx2 + 1) [.int .i64 i] (nx2 + 1)=some [.int .i64 i]:=ar
 generalize al (al (al H2 nx2 [.int .i64 0,.int .i64 0]) nx2 (bu [.int .i64 0,.int .i64 0] 0 [.int .i64 w.color,.int .i64 w.label])) (nx2 + 1) [.int .i64 i]=H3 at *
 have hmf:=nf w ks
 have hkl:(ks.map a7).length=ks.length:=List.length_map ..
 by_cases hw:w ∈ ks
 ·rw [if_pos hw] at hmf
  obtain ⟨m1,m2⟩:=ib hw
  have hr:=k2.row (ks.idxOf w) m1
  rw [m2] at hr
  refine sB ev0 ((g3 nx (by omega)).trans k2.box) ev0 (mw w) hmf ?_
  have g5:∀ x,x < nx2→x ≠ nx→al H3 nx [.omap (bP (a7 w) (some (ks.idxOf w)) (ks.map a7)) (fO .esl (some (ks.idxOf w)) vs)] x=H2 x:=fun x hx hn=>by rw [am hn,g3 x hx]
  have g6:al H3 nx [.omap (bP (a7 w) (some (ks.idxOf w)) (ks.map a7)) (fO .esl (some (ks.idxOf w)) vs)] nx=some [.omap (ks.map a7) vs]:=ar
  have g7:al H3 nx [.omap (bP (a7 w) (some (ks.idxOf w)) (ks.map a7)) (fO .esl (some (ks.idxOf w)) vs)] (nx2 + 1)=some [.int .i64 i]:=by rw [am (by omega)]; exact g4
  generalize al H3 nx [.omap (bP (a7 w) (some (ks.idxOf w)) (ks.map a7)) (fO .esl (some (ks.idxOf w)) vs)]=H4 at *
  rw [show pm .esl (some (ks.idxOf w)) vs=vs.getD (ks.idxOf w) .undef from rfl,show nW (some (ks.idxOf w)) (ks.map a7)=ks.idxOf w from rfl]
  (have zz:=and_self; repeat' (first | apply a_n | refine zO ?_ | refine vY ?_ | fail)) <;> (try clear zz)
  refine fM (k:=1) (new:=[.int .i64 i]) rfl ev0 (hr.same fun B hB=>?_) ev0 (hU (n:=1) (len:=1) (off:=0) g7 rfl (by omega)) rfl rfl Nat.one_pos (by rw [List.length_map]; omega) (by rw [List.length_map]; omega) ?_
  ·have:=k2.bnd _ B m1 hB
   exact g5 B this.2.1 this.2.2
  rintro s2 H5 nx5 hr5 i1 i2 i3 i4
  (have zz:=and_self; repeat' (first | apply a_n | refine zO ?_ | refine vY ?_ | fail)) <;> (try clear zz)
  refine sx ev0 ((i3 nx (by omega) (fun h=>(k2.bnd _ nx m1 h).2.2 rfl)).trans g6) ev0 (by rw [hkl]; exact m1) ev0 ?_
  (have zz:=and_self; repeat' (first | apply a_n | refine zO ?_ | refine vY ?_ | fail)) <;> (try clear zz)
  refine ⟨(j + 1,ks,vs.set (ks.idxOf w) s2),by dsimp only; omega,⟨by dsimp only; omega,IncOk.put k2 hw hG ?_ (fun B hB=>?_) ar (fun x hx hx2 hxn hxr=>?_) (by omega) (by omega),fun y hy=>?_,by omega⟩,ag0⟩
  ·rw [List.map_append]
   exact hr5.same fun B hB=>am fun e=>by
    rcases i4 B hB with h | h
    ·exact (k2.bnd _ B m1 h).2.2 e
    ·omega
  ·rcases i4 B hB with h | h
   ·exact .inl h
   ·exact .inr (by omega)
  ·rw [am hxn,i3 x (by omega) hxr,g5 x hx2 hxn]
  ·rw [am (by omega),i3 y (by omega) (fun h=>by have:=k2.bnd _ y m1 h; omega),g5 y (by omega) (by omega)]; exact k3 y hy
 ·rw [if_neg hw] at hmf
  refine sB ev0 ((g3 nx (by omega)).trans k2.box) ev0 (mw w) hmf ?_
  have g5:∀ x,x < nx2→x ≠ nx→al H3 nx [.omap (bP (a7 w) none (ks.map a7)) (fO .esl none vs)] x=H2 x:=fun x hx hn=>by rw [am hn,g3 x hx]
  have g6:al H3 nx [.omap (bP (a7 w) none (ks.map a7)) (fO .esl none vs)] nx=some [.omap (ks.map a7 ++ [a7 w]) (vs ++ [.esl])]:=ar
  have g7:al H3 nx [.omap (bP (a7 w) none (ks.map a7)) (fO .esl none vs)] (nx2 + 1)=some [.int .i64 i]:=by rw [am (by omega)]; exact g4
  generalize al H3 nx [.omap (bP (a7 w) none (ks.map a7)) (fO .esl none vs)]=H4 at *
  rw [show pm .esl none vs=.esl from rfl,show nW none (ks.map a7)=ks.length from hkl]
  (have zz:=and_self; repeat' (first | apply a_n | refine zO ?_ | refine vY ?_ | fail)) <;> (try clear zz)
  refine fM (k:=1) (new:=[.int .i64 i]) (cs:=[]) rfl ev0 Row.nil ev0 (hU (n:=1) (len:=1) (off:=0) g7 rfl (by omega)) rfl rfl Nat.one_pos (by simp) (by simp) ?_
  rintro s2 H5 nx5 hr5 i1 i2 i3 i4
  have i4':∀ B,fG s2=some B→B=nx2 + 1 + 1∧nx5=nx2 + 1 + 1 + 1:=fun B hB=>(i4 B hB).elim (fun h=>by cases h) id
  (have zz:=and_self; repeat' (first | apply a_n | refine zO ?_ | refine vY ?_ | fail)) <;> (try clear zz)
  refine sx (i:=ks.length) ev0 ((i3 nx (by omega) (fun h=>by cases h)).trans g6) ev0 (by rw [List.length_append,hkl]; simp) ev0 ?_
  have hset:(vs ++ [AV.esl]).set ks.length s2=vs ++ [s2]:=by rw [← k2.len]; simp
  rw [hset]
  (have zz:=and_self; repeat' (first | apply a_n | refine zO ?_ | refine vY ?_ | fail)) <;> (try clear zz)
  refine ⟨(j + 1,ks ++ [w],vs ++ [s2]),by dsimp only; omega,⟨by dsimp only; omega,IncOk.new k2 hw hG ?_ (fun B hB=>?_) (by rw [List.map_append]; exact ar) (fun x hx hx2 hxn=>?_) (by omega) (by omega),fun y hy=>?_,by omega⟩,ag0⟩
  ·exact hr5.same fun B hB=>am (by have:=i4' B hB; omega)
  ·have:=i4' B hB; omega
  ·rw [am hxn,i3 x (by omega) (fun h=>by cases h),g5 x hx2 hxn]
  ·rw [am (by omega),i3 y (by omega) (fun h=>by cases h),g5 y (by omega) (by omega)]; exact k3 y hy
end Go.Proofs.YtbgdcebmgjafjaaGreat
namespace Go.Proofs.YtbgdcebmgjafjaaGreat
open Go Go.Abs
def bG (l:List Spx) (s:Spx):Bool:=l.any fun t=>decide (s.length < t.length) && bn s t
def jh (c:List Spx) (k:Nat):Int:=if bV (c.getD k default) ≠ 0 then bV (c.getD k default) else if 0 < k∧0 ≤ bO (c.getD (k - 1) default) (c.getD k default) then 14 else 0
def bf (c:List Spx):Int:=if 4096 < c.length then 5 else if bJ (jh c) c.length ≠ 0 then bJ (jh c) c.length else if c.any (bG c)=true then 7 else 0
theorem di {a b:Spx}:bn a b=true ↔ ∀ v ∈ a,v ∈ b:=by
 unfold bn; rw [List.all_eq_true]
 exact ⟨fun h v hv=>of_decide_eq_true (h v hv),fun h v hv=>decide_eq_true (h v hv)⟩
theorem io {l:List Spx} {s:Spx}:bG l s=true ↔ ∃ t ∈ l,s.length < t.length∧∀ v ∈ s,v ∈ t:=by
 unfold bG; rw [List.any_eq_true]
 constructor
 ·rintro ⟨t,ht,h⟩
  rw [Bool.and_eq_true,decide_eq_true_iff,di] at h
  exact ⟨t,ht,h⟩
 ·rintro ⟨t,ht,h⟩
  exact ⟨t,ht,by rw [Bool.and_eq_true,decide_eq_true_iff,di]; exact h⟩
theorem uT {a b:Spx} (ha:cw aN a) (hb:cw aN b) (h:∀ v ∈ a,v ∈ b) (hne:a ≠ b):a.length < b.length:=by
 have h1:a.length ≤ b.length:=List.Nodup.length_le_of_subset (ha.nodup kC) h
 rcases Nat.lt_or_ge a.length b.length with h2 | h2
 ·exact h2
 ·exfalso
  refine hne (mi kC ha hb fun x=>⟨h x,fun hx=>Decidable.byContradiction fun hn=>?_⟩)
  have h3:(x :: a).length ≤ b.length:=List.Nodup.length_le_of_subset (List.nodup_cons.2 ⟨hn,ha.nodup kC⟩) fun y hy=>by
   rcases List.mem_cons.1 hy with rfl | hy
   ·exact hx
   ·exact h y hy
  rw [List.length_cons] at h3
  omega
theorem pD {c:List Spx} (h:bJ (jh c) c.length=0):(∀ s ∈ c,bV s=0)∧cw bO c:=by
 have hz:=eu h
 have h3:∀ k,k < c.length→bV (c.getD k default)=0∧(0 < k→bO (c.getD (k - 1) default) (c.getD k default) < 0):=fun k hk=>by
  have:=hz k hk
  unfold jh at this
  split at this
  ·exact absurd this ‹_›
  rename_i g1
  split at this
  ·exact absurd this (by decide)
  rename_i g2
  exact ⟨Decidable.of_not_not g1,fun h0=>by omega⟩
 constructor
 ·intro s hs
  obtain ⟨i,hi,rfl⟩:=List.getElem_of_mem hs
  have:=(h3 i hi).1
  rwa [show c.getD i default=c[i] by simp [List.getD,hi]] at this
 ·have step:∀ j i,i < j→j < c.length→bO (c.getD i default) (c.getD j default) < 0:=by
    intro j
    induction j with
    | zero=>intro i h; omega
    | succ j ih =>
     intro i hi hj
     have hs:=(h3 (j + 1) hj).2 (by omega)
     rw [Nat.add_sub_cancel] at hs
     by_cases e:i=j
     ·subst e; exact hs
     ·exact uR.trans (ih i (by omega) (by omega)) hs
  unfold cw
  rw [List.pairwise_iff_getElem]
  intro i j hi hj hij
  have:=step j i hij hj
  simpa [List.getD,hi,hj] using this
theorem pM {c:List Spx} (h:bf c=0):c.length ≤ 4096∧(∀ s ∈ c,bV s=0)∧cw bO c∧∀ s ∈ c,bG c s=false:=by
 unfold bf at h
 split at h
 ·exact absurd h (by decide)
 split at h
 ·exact absurd h ‹_›
 split at h
 ·exact absurd h (by decide)
 rename_i h1 h2 h3
 have:=pD (Decidable.of_not_not h2)
 refine ⟨by omega,this.1,this.2,fun s hs=>?_⟩
 cases hc:bG c s
 ·rfl
 ·exact absurd (List.any_eq_true.2 ⟨s,hs,hc⟩) h3
theorem tB {l:List Spx} {s:Spx} {p:Spx→Bool} (h0:0 < s.length) (hp:∀ t,p t=true→s.getD 0 default ∈ t):((gr l l.length (s.getD 0 default)).map fun (n:Nat)=>(n:Int)).any (fun i=>p (l.getD i.toNat default))=l.any p:=by
 rw [Bool.eq_iff_iff,List.any_eq_true,List.any_eq_true]
 constructor
 ·rintro ⟨x,hx,h⟩
  obtain ⟨n,hn,rfl⟩:=List.mem_map.1 hx
  unfold gr at hn
  obtain ⟨h1,_⟩:=List.mem_filter.1 hn
  rw [Int.toNat_natCast] at h
  exact ⟨_,a9 (List.mem_range.1 h1),h⟩
 ·rintro ⟨t,ht,h⟩
  obtain ⟨i,hi,rfl⟩:=List.getElem_of_mem ht
  have e:l.getD i default=l[i]:=by simp [List.getD,hi]
  refine ⟨(i:Int),List.mem_map.2 ⟨i,List.mem_filter.2 ⟨List.mem_range.2 hi,decide_eq_true ?_⟩,rfl⟩,?_⟩
  ·rw [e]; exact hp _ h
  ·rw [Int.toNat_natCast,e]; exact h
attribute [local irreducible] aD ai bd bg aQ aV aA aU bj bD Go.Abs.Fn be Go.Abs.Pure aB aK Yl
theorem ra (l:List Int) (p:Int→Bool) (g:Nat) (caps:List AV) (hd:∀ x ∈ caps,Dat x) (hg:∀ x ∈ l,Pure Tryz.prog g (.int .i64 x :: caps) (.bool (p x))) (hl:Shn l):Pure Tryz.prog 127 [cW l,.func g caps] (.int .i64 (if l.any p then (l.findIdx p:Nat) else -1)):=by
 refine Pure.of_c2 follows uz (Nat.le_of_ble_eq_true rfl) ?_
 simp only [vu,cO,cG,cN,cM,cD,cF,cB,ap,aH]
 have hl':l.length ≤ 17592186044416:=hl
 (have zz:=and_self; repeat' (first | refine zW ?_ | apply a_n | refine zO ?_ | refine vZ ?_ | fail)) <;> (try clear zz)
 refine aY (X:=Nat) (fun k=>[(0,cW l),(1,.func g caps),(6,cW l),(7,.int .i64 l.length),(8,.int .i64 k)]) (fun k H nx=>k ≤ l.length∧∀ i,i < k→p (l.getD i default)=false) (fun k=>l.length - k) 0 ⟨Nat.zero_le _,fun i h=>absurd h (by omega)⟩ ag0 ?_
 rintro k H nx ⟨hk,hz⟩
 by_cases hk2:k < l.length
 rotate_left
 ·rw [dC fun i hi=>hz i (by omega),if_neg (by decide)]
  (have zz:=and_self; repeat' (first | refine zW ?_ | apply a_n | apply a_x | refine zO ?_ | refine vY ?_ | (refine zGY ?_ ?_ <;> (intro _hg; try (exfalso; omega))) | refine ag rfl ?_ | refine r1Y ?_ | fail)) <;> (try clear zz)
  exact bt rfl
 have hc:=hg _ (aJ hk2)
 cases hp:p (l.getD k default)
 ·rw [hp] at hc
  (have zz:=and_self; repeat' (first | refine zW ?_ | apply a_n | refine zO ?_ | refine vY ?_ | (refine zGY ?_ ?_ <;> (intro _hg; try (exfalso; omega))) | fail)) <;> (try clear zz)
  refine ce ev0 ev0 hc (ae (au (.int _ _) (aC hd))) ?_
  (have zz:=and_self; repeat' (first | apply a_n | refine zO ?_ | refine vY ?_ | refine cFY ?_ | fail)) <;> (try clear zz)
  exact ⟨k + 1,by omega,⟨by omega,fun i hi=>by
   rcases Nat.lt_succ_iff_lt_or_eq.1 hi with h | rfl
   ·exact hz i h
   ·exact hp⟩,ag0⟩
 ·rw [hp] at hc
  obtain ⟨e1,e2⟩:=eD hk2 hz hp
  rw [e1,e2,if_pos rfl]
  (have zz:=and_self; repeat' (first | refine zW ?_ | apply a_n | refine zO ?_ | refine vY ?_ | (refine zGY ?_ ?_ <;> (intro _hg; try (exfalso; omega))) | fail)) <;> (try clear zz)
  refine ce ev0 ev0 hc (ae (au (.int _ _) (aC hd))) ?_
  (have zz:=and_self; repeat' (first | refine zW ?_ | apply a_n | apply a_r | refine zO ?_ | refine vY ?_ | refine cTY ?_ | refine ag rfl ?_ | refine r1Y ?_ | fail)) <;> (try clear zz)
  exact .int _ _
theorem mJ (l:List Int) (p:Int→Bool) (g:Nat) (caps:List AV) (hd:∀ x ∈ caps,Dat x) (hg:∀ x ∈ l,Pure Tryz.prog g (.int .i64 x :: caps) (.bool (p x))) (hl:Shn l):Pure Tryz.prog 103 [cW l,.func g caps] (.bool (l.any p)):=by
 refine Pure.of_c2 follows uG (Nat.le_of_ble_eq_true rfl) ?_
 simp only [vM,cO,cG,cN,cM,cD,cF,cB,ap,aH]
 have h:=ra l p g caps hd hg hl
 (have zz:=and_self; repeat' (first | refine zW ?_ | apply a_n | refine zO ?_ | refine vZ ?_ | refine cZ ?_ (hp:=h) (hs:=by (first | refine aa ?_ rfl | apply ae); (repeat' (first | exact ab | apply ah | apply af | exact f7 _ | exact Dat.func hd)); first | done | fail) | refine ag rfl ?_ | refine r1Z ?_ | fail)) <;> (try clear zz)
 cases hA:l.any p
 ·exact bi (by simp)
 ·exact bi (by simp)
def OkS (l:List Spx):Prop:=l.length ≤ 100000∧∀ s ∈ l,cw aN s∧s.length ≤ 1000
theorem pF (l:List Spx) (s:Spx) (i:Nat) (hl:OkS l) (hs:cw aN s∧s.length ≤ 1000) (hi:i < l.length):Pure Tryz.prog 104 [.int .i64 i,.iptr [aE l] 0,.iptr [ao s] 0] (.bool (decide (s.length < (l.getD i default).length) && bn s (l.getD i default))):=by
 refine Pure.of_c2 follows uP (Nat.le_of_ble_eq_true rfl) ?_
 simp only [vI,cO,cG,cN,cM,cD,cF,cB,ap,aH]
 have ix:=e6 hi
 obtain ⟨t1,t2⟩:=hl.2 _ (a9 hi)
 have hf:=vn s (l.getD i default) hs.1 t1 (by omega) (by omega)
 generalize l.getD i default=t at *
 by_cases h:s.length < t.length
 ·have z:decide ((s.length:Int) < t.length)=true:=decide_eq_true (by omega)
  rw [decide_eq_true h,Bool.true_and]
  (have zz:=aI @ac (aI @ix @z); repeat' (first | refine zW ?_ | refine zM ?_ | apply a_n | refine zO ?_ | refine vZ ?_ | refine cZ ?_ (hp:=hf) (hs:=by (first | refine aa ?_ rfl | apply ae); (repeat' (first | exact ab | apply ah | apply af | exact an _)); first | done | fail) | refine gTZ ?_ | refine ag rfl ?_ | refine r1Z ?_ | fail)) <;> (try clear zz)
  exact .bool _
 ·have z:decide ((s.length:Int) < t.length)=false:=decide_eq_false (by omega)
  rw [decide_eq_false h,Bool.false_and]
  (have zz:=aI @ac (aI @ix @z); repeat' (first | refine zW ?_ | refine zM ?_ | apply a_n | refine zO ?_ | refine vZ ?_ | refine gFZ ?_ | refine ag rfl ?_ | refine r1Z ?_ | fail)) <;> (try clear zz)
  exact .bool _
theorem rt (l:List Spx) (s:Spx) (hl:OkS l) (hs:cw aN s∧s.length ≤ 1000) (h0:0 < s.length):Pure Tryz.prog 70 [aE l,cW ((gr l l.length (s.getD 0 default)).map fun (n:Nat)=>(n:Int)),ao s] (.bool (bG l s)):=by
 refine Pure.of_c2 follows v7 (Nat.le_of_ble_eq_true rfl) ?_
 simp only [b70,cO,cG,cN,cM,cD,cF,cB,ap,aH]
 have hll:=hl.1
 have h:=mJ ((gr l l.length (s.getD 0 default)).map fun (n:Nat)=>(n:Int)) (fun i=>decide (s.length < (l.getD i.toNat default).length) && bn s (l.getD i.toNat default)) 104 [.iptr [aE l] 0,.iptr [ao s] 0] (DatL.cons (Dat.iptr (DatL.cons (bE _) DatL.nil)) (DatL.cons (Dat.iptr (DatL.cons (an _) DatL.nil)) DatL.nil)) (fun x hx=>by
  obtain ⟨n,hn,rfl⟩:=List.mem_map.1 hx
  have hn2:n < l.length:=List.mem_range.1 (List.mem_filter.1 hn).1
  rw [Int.toNat_natCast]
  exact pF l s n hl hs hn2) (by rw [Shn,List.length_map]; have:=o5 (l:=l) (i:=l.length) (v:=s.getD 0 default); omega)
 rw [tB (p:=fun t=>decide (s.length < t.length) && bn s t) h0 (fun t ht=>by
  rw [Bool.and_eq_true,di] at ht
  exact ht.2 _ (a9 h0))] at h
 (have zz:=aI @ay (aI @aq (aI @aF @ax)); repeat' (first | refine zW ?_ | apply a_n | refine zO ?_ | refine vZ ?_ | refine bxZ ?_ | fail)) <;> (try clear zz)
 refine ce (have zz:=aI @ay (aI @aq (aI @aF @ax)); evZ) (have zz:=aI @ay (aI @aq (aI @aF @ax)); evZ) h (aa (au (f7 _ _) (au (gf (au (dQ rfl rfl (au (bE _ _) ab)) (au (dQ rfl rfl (au (an _ _) ab)) ab))) ab)) rfl) ?_
 (have zz:=and_self; repeat' (first | apply a_n | refine zO ?_ | refine vZ ?_ | refine ag rfl ?_ | refine r1Z ?_ | fail)) <;> (try clear zz)
 exact .bool _
end Go.Proofs.YtbgdcebmgjafjaaGreat
namespace Go.Proofs.YtbgdcebmgjafjaaGreat
open Go Go.Abs
theorem uK {H:Hp} {sv:AV} {F:List Nat} (h:Row H 1 sv (F.map ud)):Snap H sv (cW (F.map fun (n:Nat)=>(n:Int))):=by
 refine Row.snapI ?_
 rw [List.map_map]; exact h
theorem kH {c:List Spx} {k:Nat}:jh c k=if bV (c.getD k default) ≠ 0 then bV (c.getD k default) else if 0 < k∧0 ≤ bO (c.getD (k - 1) default) (c.getD k default) then 14 else 0:=rfl
theorem tg {c:List Spx} (h1:c.length ≤ 4096) (h:∀ s ∈ c,bV s=0):OkS c:=⟨by omega,fun s hs=>by
 obtain ⟨a1,a2,a3,a4⟩:=jT (h s hs)
 exact ⟨a3,by omega⟩⟩
attribute [local irreducible] aD ai bd bg aQ aV aA aU bj bD Go.Abs.Fn be Go.Abs.Pure aB aK Yl
set_option maxHeartbeats 2000000 in
theorem nP (c:List Spx) (hc:Shn c) (hs:∀ s ∈ c,Shn s):Pure Tryz.prog 29 [dX c] (.int .i64 (bf c)):=by
 refine Pure.of_c2 follows xg (Nat.le_of_ble_eq_true rfl) ?_
 simp only [b29,cO,cG,cN,cM,cD,cF,cB,ap,aH]
 have hc':c.length ≤ 17592186044416:=hc
 by_cases h0:4096 < c.length
 ·rw [show bf c=5 by unfold bf; rw [if_pos h0]]
  (have zz:=aI @aj (aI @ay @aq); repeat' (first | refine zW ?_ | apply a_n | apply a_r | refine zO ?_ | refine vZ ?_ | refine bxZ ?_ | (refine zGZ ?_ ?_ <;> (intro _hg; try (exfalso; omega))) | refine ag rfl ?_ | refine r1Z ?_ | fail)) <;> (try clear zz)
  all_goals exact bt rfl
 rw [show bf c=if bJ (jh c) c.length ≠ 0 then bJ (jh c) c.length else if c.any (bG c)=true then 7 else 0 by unfold bf; rw [if_neg h0]]
 refine dG ?_
 (have zz:=aI @aj (aI @ay @aq); repeat' (first | apply a_n | refine zO ?_ | refine vZ ?_ | refine bxZ ?_ | fail)) <;> (try clear zz)
 refine dG (dG ?_)
 (have zz:=aI @aj (aI @ay @aq); repeat' (first | apply a_n | refine zO ?_ | refine vZ ?_ | (refine zGZ ?_ ?_ <;> (intro _hg; try (exfalso; omega))) | fail)) <;> (try clear zz)
 by_cases hz:bJ (jh c) c.length ≠ 0
 ·rw [if_pos hz]
  (have zz:=aI @aj (aI @ay @aq); repeat' (first | refine zW ?_ | apply a_n | refine zO ?_ | refine vZ ?_ | fail)) <;> (try clear zz)
  refine aY (X:=Nat) (fun k=>[(1,.ptr 0 1 0),(14,aE c),(15,.int .i64 c.length),(16,.int .i64 k)]) (fun k H nx=>k ≤ c.length∧H 0=some [aE c]∧∀ i,i < k→jh c i=0) (fun k=>c.length - k) 0 ⟨Nat.zero_le _,rfl,fun i h=>absurd h (by omega)⟩ (by (iterate 4 refine And.intro rfl ?_); trivial) ?_
  rintro k H nx ⟨h1,g0,h2⟩
  by_cases hk:k < c.length
  rotate_left
  ·exact absurd (b5 fun i hi=>h2 i (by omega)) hz
  have ix:=e6 hk
  have hs1:=hs _ (a9 hk)
  have hp:=nX (c.getD k default) hs1
  have hsp:=kH (c:=c) (k:=k)
  by_cases he:bV (c.getD k default) ≠ 0
  ·rw [if_pos he] at hsp
   rw [br hk h2 (by rw [hsp]; exact he),hsp]
   have z:decide (bV (c.getD k default) ≠ 0)=true:=decide_eq_true he
   (have zz:=aI @aj (aI @ix @z); repeat' (first | refine zW ?_ | apply a_n | apply a_r | refine zO ?_ | refine vY ?_ | refine cY ?_ (hp:=hp) (hs:=by (first | refine aa ?_ rfl | apply ae); (repeat' (first | exact ab | apply ah | apply af | exact an _)); first | done | fail) | refine cTY ?_ | (refine zGY ?_ ?_ <;> (intro _hg; try (exfalso; omega))) | refine ag rfl ?_ | refine r1Y ?_ | fail)) <;> (try clear zz)
   exact .int _ _
  rw [if_neg he] at hsp
  have he:=Decidable.of_not_not he
  rw [he] at hp
  have z:decide ((0:Int) ≠ 0)=false:=rfl
  by_cases hk0:0 < k
  rotate_left
  ·rw [if_neg (fun h=>hk0 h.1)] at hsp
   have zk:decide (0 < (k:Int))=false:=decide_eq_false (by omega)
   (have zz:=aI @aj (aI @ix (aI @z @zk)); repeat' (first | refine zW ?_ | apply a_n | refine zO ?_ | refine vY ?_ | refine cY ?_ (hp:=hp) (hs:=by (first | refine aa ?_ rfl | apply ae); (repeat' (first | exact ab | apply ah | apply af | exact an _)); first | done | fail) | refine gFY ?_ | refine cFY ?_ | (refine zGY ?_ ?_ <;> (intro _hg; try (exfalso; omega))) | fail)) <;> (try clear zz)
   exact ⟨k + 1,by omega,⟨by omega,g0,fun i hi=>by
    rcases Nat.lt_succ_iff_lt_or_eq.1 hi with h' | rfl
    ·exact h2 i h'
    ·exact hsp⟩,ag0⟩
  have zk:decide (0 < (k:Int))=true:=decide_eq_true (by omega)
  have iy:dv 1 (aE c) (.int .i64 ((k:Int) - 1))=some (.iptr [ao (c.getD (k - 1) default)] 0):=by
   have:=e6 (l:=c) (k:=k - 1) (by omega)
   rwa [show ((k - 1:Nat):Int)=(k:Int) - 1 by omega] at this
  have hcm:=l7 (c.getD (k - 1) default) (c.getD k default) (hs _ (a9 (by omega))) hs1
  by_cases hv:0 ≤ bO (c.getD (k - 1) default) (c.getD k default)
  ·have z2:decide (0 ≤ bO (c.getD (k - 1) default) (c.getD k default))=true:=decide_eq_true hv
   rw [if_pos ⟨hk0,hv⟩] at hsp
   rw [br hk h2 (by rw [hsp]; decide),hsp]
   (have zz:=aI @aj (aI @ix (aI @iy (aI @z (aI @zk (aI @z2 @g0))))); repeat' (first | refine zW ?_ | apply a_n | apply a_r | refine zO ?_ | refine vY ?_ | refine cY ?_ (hp:=by first | exact hp | exact hcm) (hs:=by (first | refine aa ?_ rfl | apply ae); (repeat' (first | exact ab | apply ah | apply af | exact an _)); first | done | fail) | refine gTY ?_ | refine cTY ?_ | refine cFY ?_ | (refine zGY ?_ ?_ <;> (intro _hg; try (exfalso; omega))) | refine ag rfl ?_ | refine r1Y ?_ | fail)) <;> (try clear zz)
   exact .int _ _
  ·have z2:decide (0 ≤ bO (c.getD (k - 1) default) (c.getD k default))=false:=decide_eq_false hv
   rw [if_neg (fun h=>hv h.2)] at hsp
   (have zz:=aI @aj (aI @ix (aI @iy (aI @z (aI @zk (aI @z2 @g0))))); repeat' (first | refine zW ?_ | apply a_n | refine zO ?_ | refine vY ?_ | refine cY ?_ (hp:=by first | exact hp | exact hcm) (hs:=by (first | refine aa ?_ rfl | apply ae); (repeat' (first | exact ab | apply ah | apply af | exact an _)); first | done | fail) | refine gTY ?_ | refine cFY ?_ | (refine zGY ?_ ?_ <;> (intro _hg; try (exfalso; omega))) | fail)) <;> (try clear zz)
   exact ⟨k + 1,by omega,⟨by omega,g0,fun i hi=>by
    rcases Nat.lt_succ_iff_lt_or_eq.1 hi with h' | rfl
    ·exact h2 i h'
    ·exact hsp⟩,ag0⟩
 have hz:=Decidable.of_not_not hz
 rw [if_neg (fun h=>h hz)]
 obtain ⟨a1,a2⟩:=pD hz
 have hall:=eu hz
 have hok:=tg (by omega) a1
 refine bq (fun T H nx=>T 1=.ptr 0 1 0∧H 0=some [aE c]∧1 ≤ nx) ?_ ?_
 ·(have zz:=aI @aj (aI @ay @aq); repeat' (first | refine zW ?_ | apply a_n | refine zO ?_ | refine vZ ?_ | fail)) <;> (try clear zz)
  refine aY (X:=Nat) (fun k=>[(1,.ptr 0 1 0),(14,aE c),(15,.int .i64 c.length),(16,.int .i64 k)]) (fun k H nx=>k ≤ c.length∧H 0=some [aE c]∧1 ≤ nx) (fun k=>c.length - k) 0 ⟨Nat.zero_le _,rfl,by omega⟩ (by (iterate 4 refine And.intro rfl ?_); trivial) ?_
  rintro k H nx ⟨h1,g0,hnx⟩
  by_cases hk:k < c.length
  rotate_left
  ·(have zz:=and_self; repeat' (first | refine zW ?_ | apply a_n | apply a_x | refine zO ?_ | refine vY ?_ | (refine zGY ?_ ?_ <;> (intro _hg; try (exfalso; omega))) | fail)) <;> (try clear zz)
   exact ⟨rfl,g0,hnx⟩
  have ix:=e6 hk
  have hs1:=hs _ (a9 hk)
  have hp:=nX (c.getD k default) hs1
  rw [a1 _ (a9 hk)] at hp
  have z:decide ((0:Int) ≠ 0)=false:=rfl
  by_cases hk0:0 < k
  rotate_left
  ·have zk:decide (0 < (k:Int))=false:=decide_eq_false (by omega)
   (have zz:=aI @aj (aI @ix (aI @z @zk)); repeat' (first | refine zW ?_ | apply a_n | refine zO ?_ | refine vY ?_ | refine cY ?_ (hp:=hp) (hs:=by (first | refine aa ?_ rfl | apply ae); (repeat' (first | exact ab | apply ah | apply af | exact an _)); first | done | fail) | refine gFY ?_ | refine cFY ?_ | (refine zGY ?_ ?_ <;> (intro _hg; try (exfalso; omega))) | fail)) <;> (try clear zz)
   exact ⟨k + 1,by omega,⟨by omega,g0,hnx⟩,ag0⟩
  have zk:decide (0 < (k:Int))=true:=decide_eq_true (by omega)
  have iy:dv 1 (aE c) (.int .i64 ((k:Int) - 1))=some (.iptr [ao (c.getD (k - 1) default)] 0):=by
   have:=e6 (l:=c) (k:=k - 1) (by omega)
   rwa [show ((k - 1:Nat):Int)=(k:Int) - 1 by omega] at this
  have hcm:=l7 (c.getD (k - 1) default) (c.getD k default) (hs _ (a9 (by omega))) hs1
  have z2:decide (0 ≤ bO (c.getD (k - 1) default) (c.getD k default))=false:=decide_eq_false (by have:=dI a2 (i:=k - 1) (j:=k) (by omega) hk; omega)
  (have zz:=aI @aj (aI @ix (aI @iy (aI @z (aI @zk (aI @z2 @g0))))); repeat' (first | refine zW ?_ | apply a_n | refine zO ?_ | refine vY ?_ | refine cY ?_ (hp:=by first | exact hp | exact hcm) (hs:=by (first | refine aa ?_ rfl | apply ae); (repeat' (first | exact ab | apply ah | apply af | exact an _)); first | done | fail) | refine gTY ?_ | refine cFY ?_ | (refine zGY ?_ ?_ <;> (intro _hg; try (exfalso; omega))) | fail)) <;> (try clear zz)
  exact ⟨k + 1,by omega,⟨by omega,g0,hnx⟩,ag0⟩
 rintro T H nx ⟨t1,g0,hnx⟩
 (have zz:=aI @t1 @g0; repeat' (first | refine zW ?_ | apply a_n | refine zO ?_ | refine vY ?_ | fail)) <;> (try clear zz)
 refine a8 ev0 (have zz:=@t1; evZ) (oB c hok.1 (fun s hs=>⟨(hok.2 s hs).1,by have:=(hok.2 s hs).2; omega⟩) _ _) ?_
 rintro _ H1 nx1 ⟨ks,vs,rfl,hinc,hsame,hlt⟩
 have g0':H1 0=some [aE c]:=(hsame 0 (by omega)).trans g0
 (have zz:=aI @t1 (aI @g0' @aj); repeat' (first | refine zW ?_ | apply a_n | refine zO ?_ | refine vY ?_ | fail)) <;> (try clear zz)
 refine aY (X:=Nat) (fun k=>[(1,.ptr 0 1 0),(6,.mp nx),(44,aE c),(45,.int .i64 c.length),(46,.int .i64 k)]) (fun k H' nx'=>k ≤ c.length∧H'=H1∧nx'=nx1∧∀ i,i < k→bG c (c.getD i default)=false) (fun k=>c.length - k) 0 ⟨Nat.zero_le _,rfl,rfl,fun i h=>absurd h (by omega)⟩ (have zz:=@t1; agZ) ?_
 rintro k H' nx' ⟨h1,rfl,rfl,h2⟩
 by_cases hk:k < c.length
 rotate_left
 ·rw [dC fun i hi=>h2 i (by omega),if_neg (by decide)]
  (have zz:=and_self; repeat' (first | refine zW ?_ | apply a_n | apply a_x | refine zO ?_ | refine vY ?_ | (refine zGY ?_ ?_ <;> (intro _hg; try (exfalso; omega))) | refine ag rfl ?_ | refine r1Y ?_ | fail)) <;> (try clear zz)
  exact .int _ _
 have ix:=e6 hk
 obtain ⟨p1,p2,p3,p4⟩:=jT (a1 _ (a9 hk))
 have hcv:=rt c (c.getD k default) hok (hok.2 _ (a9 hk)) (by omega)
 have iy:=ix2 (l:=c.getD k default) (k:=0) (by omega)
 rw [show ((0:Nat):Int)=0 from rfl] at iy
 have hks:(c.getD k default).getD 0 default ∈ ks:=(hinc.dom _).2 fun e=>by
  have:k ∈ gr c c.length ((c.getD k default).getD 0 default):=List.mem_filter.2 ⟨List.mem_range.2 hk,decide_eq_true (a9 (by omega))⟩
  rw [e] at this; cases this
 have hmf:=nf ((c.getD k default).getD 0 default) ks
 rw [if_pos hks] at hmf
 obtain ⟨m1,m2⟩:=ib hks
 have hr:=hinc.row _ m1
 rw [m2] at hr
 have hcb:bG c (c.getD k default)=true→c.any (bG c)=true:=fun h=>List.any_eq_true.2 ⟨_,a9 hk,h⟩
 generalize hsk:c.getD k default=s at *
 (have zz:=@ix; repeat' (first | refine zW ?_ | apply a_n | refine zO ?_ | refine vY ?_ | (refine zGY ?_ ?_ <;> (intro _hg; try (exfalso; omega))) | fail)) <;> (try clear zz)
 refine sY (fun y=>if y=0 ∨ y=nx then H' y else none) rfl (fun y cs h=>by
  dsimp only at h
  split at h
  ·exact h
  ·cases h) ?_
 have hS0:(fun y=>if y=0 ∨ y=nx then H' y else none) 0=some [aE c]:=by dsimp only; rw [if_pos (.inl rfl)]; exact g0'
 generalize hSS:(fun y=>if y=0 ∨ y=nx then H' y else none)=S at hS0
 have hsub:Sub S H':=fun y cs h=>by
  rw [← hSS] at h
  dsimp only at h
  split at h
  ·exact h
  ·cases h
 (have zz:=aI @hS0 @iy; repeat' (first | apply a_n | refine zO ?_ | refine nvY ?_ | fail)) <;> (try clear zz)
 refine u2 ?_
 refine pu ev0 hinc.box ev0 (mw _) hmf ?_
 refine ut ⟨hsub,?_⟩
 rw [show mget .esl false (some (ks.idxOf (s.getD 0 default))) vs=vs.getD (ks.idxOf (s.getD 0 default)) .undef from rfl]
 refine r5 ?_
 cases hb:bG c s
 ·rw [hb] at hcv
  refine ce ev0 ev0 hcv (aa (au (bE _ _) (au (uK hr) (au (an _ _) ab))) rfl) ?_
  (have zz:=and_self; repeat' (first | apply a_n | refine zO ?_ | refine vY ?_ | refine cFY ?_ | fail)) <;> (try clear zz)
  exact ⟨k + 1,by omega,⟨by omega,rfl,rfl,fun i hi=>by
   rcases Nat.lt_succ_iff_lt_or_eq.1 hi with h' | rfl
   ·exact h2 i h'
   ·rw [hsk]; exact hb⟩,ag0⟩
 ·rw [hb] at hcv
  rw [hcb hb,if_pos rfl]
  refine ce ev0 ev0 hcv (aa (au (bE _ _) (au (uK hr) (au (an _ _) ab))) rfl) ?_
  (have zz:=and_self; repeat' (first | refine zW ?_ | apply a_n | apply a_r | refine zO ?_ | refine vY ?_ | refine cTY ?_ | refine ag rfl ?_ | refine r1Y ?_ | fail)) <;> (try clear zz)
  exact .int _ _
end Go.Proofs.YtbgdcebmgjafjaaGreat
namespace Go.Proofs.YtbgdcebmgjafjaaGreat
open Go Go.Abs
open Nat (reduceEqDiff reduceAdd reduceLeDiff)
theorem rI {c:List Spx} (h1:∀ s ∈ c,cw aN s) (h2:cw bO c) {i k:Nat} (hi:i < c.length) (hk:k < c.length) (hik:i ≠ k) (h:bn (c.getD i default) (c.getD k default)=true):bG c (c.getD i default)=true:=by
 refine io.2 ⟨_,a9 hk,uT (h1 _ (a9 hi)) (h1 _ (a9 hk)) (di.1 h) fun e=>?_,di.1 h⟩
 rcases Nat.lt_trichotomy i k with q | q | q
 ·have:=dI h2 q hk; rw [e] at this; exact uR.ord.irr _ this
 ·exact hik q
 ·have:=dI h2 q hi; rw [e] at this; exact uR.ord.irr _ this
theorem tc {c:List Spx} {i:Nat} (h:bG c (c.getD i default)=true):∃ k,k < c.length∧i ≠ k∧bn (c.getD i default) (c.getD k default)=true:=by
 obtain ⟨t,ht,h1,h2⟩:=io.1 h
 obtain ⟨k,hk,rfl⟩:=List.getElem_of_mem ht
 have e:c.getD k default=c[k]:=by simp [List.getD,hk]
 refine ⟨k,hk,fun hik=>?_,by rw [e]; exact di.2 h2⟩
 subst hik
 rw [e] at h1; omega
attribute [local irreducible] aD ai bd bg aQ aV aA aU bj bD Go.Abs.Fn be Go.Abs.Pure aB aK Yl
set_option maxHeartbeats 2000000 in
theorem qz (c:List Spx) (hc:Shn c) (hs:∀ s ∈ c,Shn s):Pure Tryz.prog 51 [dX c] (.int .i64 (bf c)):=by
 refine Pure.of_c2 follows yq (Nat.le_of_ble_eq_true rfl) ?_
 simp only [b51,cO,cG,cN,cM,cD,cF,cB,ap,aH]
 have hc':c.length ≤ 17592186044416:=hc
 by_cases h0:4096 < c.length
 ·rw [show bf c=5 by unfold bf; rw [if_pos h0]]
  (have zz:=aI @aj (aI @ay @aq); repeat' (first | refine zW ?_ | apply a_n | apply a_r | refine zO ?_ | refine vZ ?_ | refine bxZ ?_ | (refine zGZ ?_ ?_ <;> (intro _hg; try (exfalso; omega))) | refine ag rfl ?_ | refine r1Z ?_ | fail)) <;> (try clear zz)
  all_goals exact bt rfl
 rw [show bf c=if bJ (jh c) c.length ≠ 0 then bJ (jh c) c.length else if c.any (bG c)=true then 7 else 0 by unfold bf; rw [if_neg h0]]
 refine dG ?_
 (have zz:=aI @aj (aI @ay @aq); repeat' (first | apply a_n | refine zO ?_ | refine vZ ?_ | refine bxZ ?_ | fail)) <;> (try clear zz)
 refine dG ?_
 (have zz:=aI @aj (aI @ay @aq); repeat' (first | apply a_n | refine zO ?_ | refine vZ ?_ | fail)) <;> (try clear zz)
 refine dG (dG ?_)
 (have zz:=aI @aj (aI @ay @aq); repeat' (first | apply a_n | refine zO ?_ | refine vZ ?_ | (refine zGZ ?_ ?_ <;> (intro _hg; try (exfalso; omega))) | fail)) <;> (try clear zz)
 by_cases hz:bJ (jh c) c.length ≠ 0
 ·rw [if_pos hz]
  (have zz:=aI @aj (aI @ay @aq); repeat' (first | refine zW ?_ | apply a_n | refine zO ?_ | refine vZ ?_ | fail)) <;> (try clear zz)
  refine aY (X:=Nat) (fun k=>[(3,aE c),(4,.int .i64 k)]) (fun k H nx=>k ≤ c.length∧∀ i,i < k→jh c i=0) (fun k=>c.length - k) 0 ⟨Nat.zero_le _,fun i h=>absurd h (by omega)⟩ ag0 ?_
  rintro k H nx ⟨h1,h2⟩
  by_cases hk:k < c.length
  rotate_left
  ·exact absurd (b5 fun i hi=>h2 i (by omega)) hz
  have ix:=e6 hk
  have hs1:=hs _ (a9 hk)
  have hp:=qh (c.getD k default) hs1
  have hsp:=kH (c:=c) (k:=k)
  by_cases he:bV (c.getD k default) ≠ 0
  ·rw [if_pos he] at hsp
   rw [br hk h2 (by rw [hsp]; exact he),hsp]
   have z:decide (bV (c.getD k default) ≠ 0)=true:=decide_eq_true he
   (have zz:=aI @aj (aI @ix @z); repeat' (first | refine zW ?_ | apply a_n | apply a_r | refine zO ?_ | refine vY ?_ | refine cY ?_ (hp:=hp) (hs:=by (first | refine aa ?_ rfl | apply ae); (repeat' (first | exact ab | apply ah | apply af | exact an _)); first | done | fail) | refine cTY ?_ | (refine zGY ?_ ?_ <;> (intro _hg; try (exfalso; omega))) | refine ag rfl ?_ | refine r1Y ?_ | fail)) <;> (try clear zz)
   exact .int _ _
  rw [if_neg he] at hsp
  have he:=Decidable.of_not_not he
  rw [he] at hp
  have z:decide ((0:Int) ≠ 0)=false:=rfl
  by_cases hk0:0 < k
  rotate_left
  ·rw [if_neg (fun h=>hk0 h.1)] at hsp
   have zk:decide (0 < (k:Int))=false:=decide_eq_false (by omega)
   (have zz:=aI @aj (aI @ix (aI @z @zk)); repeat' (first | refine zW ?_ | refine zM ?_ | apply a_n | refine zO ?_ | refine vY ?_ | refine cY ?_ (hp:=hp) (hs:=by (first | refine aa ?_ rfl | apply ae); (repeat' (first | exact ab | apply ah | apply af | exact an _)); first | done | fail) | refine gFY ?_ | refine cFY ?_ | (refine zGY ?_ ?_ <;> (intro _hg; try (exfalso; omega))) | fail)) <;> (try clear zz)
   exact ⟨k + 1,by omega,⟨by omega,fun i hi=>by
    rcases Nat.lt_succ_iff_lt_or_eq.1 hi with h' | rfl
    ·exact h2 i h'
    ·exact hsp⟩,ag0⟩
  have zk:decide (0 < (k:Int))=true:=decide_eq_true (by omega)
  have iy:dv 1 (aE c) (.int .i64 ((k:Int) - 1))=some (.iptr [ao (c.getD (k - 1) default)] 0):=by
   have:=e6 (l:=c) (k:=k - 1) (by omega)
   rwa [show ((k - 1:Nat):Int)=(k:Int) - 1 by omega] at this
  have hcm:=lR (c.getD (k - 1) default) (c.getD k default) (hs _ (a9 (by omega))) hs1
  by_cases hv:0 ≤ bO (c.getD (k - 1) default) (c.getD k default)
  ·have z2:decide (0 ≤ bO (c.getD (k - 1) default) (c.getD k default))=true:=decide_eq_true hv
   rw [if_pos ⟨hk0,hv⟩] at hsp
   rw [br hk h2 (by rw [hsp]; decide),hsp]
   (have zz:=aI @aj (aI @ix (aI @iy (aI @z (aI @zk @z2)))); repeat' (first | refine zW ?_ | refine zM ?_ | apply a_n | apply a_r | refine zO ?_ | refine vY ?_ | refine cY ?_ (hp:=by first | exact hp | exact hcm) (hs:=by (first | refine aa ?_ rfl | apply ae); (repeat' (first | exact ab | apply ah | apply af | exact an _)); first | done | fail) | refine gTY ?_ | refine cTY ?_ | refine cFY ?_ | (refine zGY ?_ ?_ <;> (intro _hg; try (exfalso; omega))) | refine ag rfl ?_ | refine r1Y ?_ | fail)) <;> (try clear zz)
   exact .int _ _
  ·have z2:decide (0 ≤ bO (c.getD (k - 1) default) (c.getD k default))=false:=decide_eq_false hv
   rw [if_neg (fun h=>hv h.2)] at hsp
   (have zz:=aI @aj (aI @ix (aI @iy (aI @z (aI @zk @z2)))); repeat' (first | refine zW ?_ | refine zM ?_ | apply a_n | refine zO ?_ | refine vY ?_ | refine cY ?_ (hp:=by first | exact hp | exact hcm) (hs:=by (first | refine aa ?_ rfl | apply ae); (repeat' (first | exact ab | apply ah | apply af | exact an _)); first | done | fail) | refine gTY ?_ | refine cFY ?_ | (refine zGY ?_ ?_ <;> (intro _hg; try (exfalso; omega))) | fail)) <;> (try clear zz)
   exact ⟨k + 1,by omega,⟨by omega,fun i hi=>by
    rcases Nat.lt_succ_iff_lt_or_eq.1 hi with h' | rfl
    ·exact h2 i h'
    ·exact hsp⟩,ag0⟩
 have hz:=Decidable.of_not_not hz
 rw [if_neg (fun h=>h hz)]
 obtain ⟨a1,a2⟩:=pD hz
 have hok:=tg (by omega) a1
 refine bq (fun T H nx=>T 3=aE c) ?_ ?_
 ·(have zz:=aI @aj (aI @ay @aq); repeat' (first | refine zW ?_ | apply a_n | refine zO ?_ | refine vZ ?_ | fail)) <;> (try clear zz)
  refine aY (X:=Nat) (fun k=>[(3,aE c),(4,.int .i64 k)]) (fun k H nx=>k ≤ c.length) (fun k=>c.length - k) 0 (Nat.zero_le _) ag0 ?_
  rintro k H nx h1
  by_cases hk:k < c.length
  rotate_left
  ·(have zz:=@aj; repeat' (first | refine zW ?_ | apply a_n | apply a_x | refine zO ?_ | refine vY ?_ | (refine zGY ?_ ?_ <;> (intro _hg; try (exfalso; omega))) | fail)) <;> (try clear zz)
   exact rfl
  have ix:=e6 hk
  have hs1:=hs _ (a9 hk)
  have hp:=qh (c.getD k default) hs1
  rw [a1 _ (a9 hk)] at hp
  have z:decide ((0:Int) ≠ 0)=false:=rfl
  by_cases hk0:0 < k
  rotate_left
  ·have zk:decide (0 < (k:Int))=false:=decide_eq_false (by omega)
   (have zz:=aI @aj (aI @ix (aI @z @zk)); repeat' (first | refine zW ?_ | refine zM ?_ | apply a_n | refine zO ?_ | refine vY ?_ | refine cY ?_ (hp:=hp) (hs:=by (first | refine aa ?_ rfl | apply ae); (repeat' (first | exact ab | apply ah | apply af | exact an _)); first | done | fail) | refine gFY ?_ | refine cFY ?_ | (refine zGY ?_ ?_ <;> (intro _hg; try (exfalso; omega))) | fail)) <;> (try clear zz)
   exact ⟨k + 1,by omega,by omega,ag0⟩
  have zk:decide (0 < (k:Int))=true:=decide_eq_true (by omega)
  have iy:dv 1 (aE c) (.int .i64 ((k:Int) - 1))=some (.iptr [ao (c.getD (k - 1) default)] 0):=by
   have:=e6 (l:=c) (k:=k - 1) (by omega)
   rwa [show ((k - 1:Nat):Int)=(k:Int) - 1 by omega] at this
  have hcm:=lR (c.getD (k - 1) default) (c.getD k default) (hs _ (a9 (by omega))) hs1
  have z2:decide (0 ≤ bO (c.getD (k - 1) default) (c.getD k default))=false:=decide_eq_false (by have:=dI a2 (i:=k - 1) (j:=k) (by omega) hk; omega)
  (have zz:=aI @aj (aI @ix (aI @iy (aI @z (aI @zk @z2)))); repeat' (first | refine zW ?_ | refine zM ?_ | apply a_n | refine zO ?_ | refine vY ?_ | refine cY ?_ (hp:=by first | exact hp | exact hcm) (hs:=by (first | refine aa ?_ rfl | apply ae); (repeat' (first | exact ab | apply ah | apply af | exact an _)); first | done | fail) | refine gTY ?_ | refine cFY ?_ | (refine zGY ?_ ?_ <;> (intro _hg; try (exfalso; omega))) | fail)) <;> (try clear zz)
  exact ⟨k + 1,by omega,by omega,ag0⟩
 rintro T H nx t3
 (have zz:=@t3; repeat' (first | refine zW ?_ | apply a_n | refine zO ?_ | refine vY ?_ | fail)) <;> (try clear zz)
 refine aY (X:=Nat) (fun k=>[(3,aE c),(6,.int .i64 k)]) (fun k H' nx'=>k ≤ c.length∧∀ i,i < k→bG c (c.getD i default)=false) (fun k=>c.length - k) 0 ⟨Nat.zero_le _,fun i h=>absurd h (by omega)⟩ (have zz:=@t3; agZ) ?_
 clear t3
 rintro i H1 nx1 ⟨h1,h2⟩
 by_cases hi:i < c.length
 rotate_left
 ·rw [dC fun i hi=>h2 i (by omega),if_neg (by decide)]
  (have zz:=@aj; repeat' (first | refine zW ?_ | apply a_n | apply a_x | refine zO ?_ | refine vY ?_ | (refine zGY ?_ ?_ <;> (intro _hg; try (exfalso; omega))) | refine ag rfl ?_ | refine r1Y ?_ | fail)) <;> (try clear zz)
  exact .int _ _
 (have zz:=@aj; repeat' (first | refine zW ?_ | apply a_n | refine zO ?_ | refine vY ?_ | (refine zGY ?_ ?_ <;> (intro _hg; try (exfalso; omega))) | fail)) <;> (try clear zz)
 refine aY (X:=Nat) (fun k=>[(3,aE c),(6,.int .i64 i),(7,.int .i64 k)]) (fun k H' nx'=>k ≤ c.length∧∀ j,j < k→i ≠ j→bn (c.getD i default) (c.getD j default)=false) (fun k=>c.length - k) 0 ⟨Nat.zero_le _,fun i h=>absurd h (by omega)⟩ ag0 ?_
 rintro k H2 nx2 ⟨k1,k2⟩
 by_cases hk:k < c.length
 rotate_left
 ·(have zz:=@aj; repeat' (first | refine zW ?_ | apply a_n | apply a_x | refine zO ?_ | refine vY ?_ | (refine zGY ?_ ?_ <;> (intro _hg; try (exfalso; omega))) | fail)) <;> (try clear zz)
  refine ⟨i + 1,by omega,⟨by omega,fun j hj=>?_⟩,ag0⟩
  rcases Nat.lt_succ_iff_lt_or_eq.1 hj with h' | rfl
  ·exact h2 j h'
  ·cases hb:bG c (c.getD j default)
   ·rfl
   ·obtain ⟨q,q1,q2,q3⟩:=tc hb
    rw [k2 q (by omega) q2] at q3; cases q3
 have ix:=e6 hi
 have iy:=e6 hk
 by_cases hik:i=k
 ·have z:decide ((i:Int) ≠ (k:Int))=false:=decide_eq_false (by omega)
  (have zz:=aI @aj @z; repeat' (first | refine zW ?_ | refine zM ?_ | apply a_n | refine zO ?_ | refine vY ?_ | refine gFY ?_ | refine cFY ?_ | (refine zGY ?_ ?_ <;> (intro _hg; try (exfalso; omega))) | fail)) <;> (try clear zz)
  exact ⟨k + 1,by omega,⟨by omega,fun j hj hij=>k2 j (by omega) hij⟩,ag0⟩
 have z:decide ((i:Int) ≠ (k:Int))=true:=decide_eq_true (by omega)
 have hin:=o6 (c.getD i default) (c.getD k default) (hs _ (a9 hi)) (hs _ (a9 hk))
 have ht:=rI (fun s hs=>(hok.2 s hs).1) a2 hi hk hik
 cases hb:bn (c.getD i default) (c.getD k default)
 ·rw [hb] at hin
  (have zz:=aI @aj (aI @ix (aI @iy @z)); repeat' (first | refine zW ?_ | refine zM ?_ | apply a_n | refine zO ?_ | refine vY ?_ | refine cY ?_ (hp:=hin) (hs:=by (first | refine aa ?_ rfl | apply ae); (repeat' (first | exact ab | apply ah | apply af | exact an _)); first | done | fail) | refine gTY ?_ | refine cFY ?_ | (refine zGY ?_ ?_ <;> (intro _hg; try (exfalso; omega))) | fail)) <;> (try clear zz)
  exact ⟨k + 1,by omega,⟨by omega,fun j hj hij=>by
   rcases Nat.lt_succ_iff_lt_or_eq.1 hj with h' | rfl
   ·exact k2 j h' hij
   ·exact hb⟩,ag0⟩
 ·rw [hb] at hin
  rw [if_pos (List.any_eq_true.2 ⟨_,a9 hi,ht hb⟩)]
  (have zz:=aI @aj (aI @ix (aI @iy @z)); repeat' (first | refine zW ?_ | refine zM ?_ | apply a_n | apply a_r | refine zO ?_ | refine vY ?_ | refine cY ?_ (hp:=hin) (hs:=by (first | refine aa ?_ rfl | apply ae); (repeat' (first | exact ab | apply ah | apply af | exact an _)); first | done | fail) | refine gTY ?_ | refine cTY ?_ | (refine zGY ?_ ?_ <;> (intro _hg; try (exfalso; omega))) | refine ag rfl ?_ | refine r1Y ?_ | fail)) <;> (try clear zz)
  exact .int _ _
theorem vV (c:List Spx) (s:Spx) (hc:Shn c) (hcs:∀ s ∈ c,Shn s) (hs:Shn s):Pure Tryz.prog 55 [dX c,ao s] (.bool (c.any fun t=>bn s t)):=by
 refine Pure.of_c2 follows yz (Nat.le_of_ble_eq_true rfl) ?_
 simp only [b55,cO,cG,cN,cM,cD,cF,cB,ap,aH]
 have hc':c.length ≤ 17592186044416:=hc
 (have zz:=aI @aj (aI @ay @aq); repeat' (first | refine zW ?_ | apply a_n | refine zO ?_ | refine vZ ?_ | refine bxZ ?_ | fail)) <;> (try clear zz)
 refine aY (X:=Nat) (fun k=>[(1,ao s),(2,.ptr 0 1 0),(5,.int .i64 k)]) (fun k H nx=>k ≤ c.length∧H 0=some [aE c]∧∀ i,i < k→bn s (c.getD i default)=false) (fun k=>c.length - k) 0 ⟨Nat.zero_le _,rfl,fun i h=>absurd h (by omega)⟩ (by (iterate 3 refine And.intro rfl ?_); trivial) ?_
 rintro k H nx ⟨h1,g0,h2⟩
 by_cases hk:k < c.length
 rotate_left
 ·rw [dC fun i hi=>h2 i (by omega)]
  (have zz:=aI @aj @g0; repeat' (first | refine zW ?_ | apply a_n | apply a_x | refine zO ?_ | refine vY ?_ | (refine zGY ?_ ?_ <;> (intro _hg; try (exfalso; omega))) | refine ag rfl ?_ | refine r1Y ?_ | fail)) <;> (try clear zz)
  exact .bool _
 have ix:=e6 hk
 have hin:=o6 s (c.getD k default) hs (hcs _ (a9 hk))
 cases hb:bn s (c.getD k default)
 ·rw [hb] at hin
  (have zz:=aI @aj (aI @ix @g0); repeat' (first | refine zW ?_ | apply a_n | refine zO ?_ | refine vY ?_ | refine cY ?_ (hp:=hin) (hs:=by (first | refine aa ?_ rfl | apply ae); (repeat' (first | exact ab | apply ah | apply af | exact an _)); first | done | fail) | refine cFY ?_ | (refine zGY ?_ ?_ <;> (intro _hg; try (exfalso; omega))) | fail)) <;> (try clear zz)
  exact ⟨k + 1,by omega,⟨by omega,g0,fun i hi=>by
   rcases Nat.lt_succ_iff_lt_or_eq.1 hi with h' | rfl
   ·exact h2 i h'
   ·exact hb⟩,ag0⟩
 ·rw [hb] at hin
  rw [sH hk hb]
  (have zz:=aI @aj (aI @ix @g0); repeat' (first | refine zW ?_ | apply a_n | apply a_r | refine zO ?_ | refine vY ?_ | refine cY ?_ (hp:=hin) (hs:=by (first | refine aa ?_ rfl | apply ae); (repeat' (first | exact ab | apply ah | apply af | exact an _)); first | done | fail) | refine cTY ?_ | (refine zGY ?_ ?_ <;> (intro _hg; try (exfalso; omega))) | refine ag rfl ?_ | refine r1Y ?_ | fail)) <;> (try clear zz)
  exact .bool _
theorem vh (a b:Spx) (ha:a.length ≤ 400000) (hb:b.length ≤ 400000):Pure Tryz.prog 90 [ao a,ao b] (ao (d8 aN a b)):=by
 refine Pure.of_c2 follows yp (Nat.le_of_ble_eq_true rfl) ?_
 simp only [b90,cO,cG,cN,cM,cD,cF,cB,ap,aH]
 (have zz:=and_self; repeat' (first | refine zW ?_ | apply a_n | refine zO ?_ | refine vZ ?_ | refine b0Z ?_ | fail)) <;> (try clear zz)
 refine fM rfl ev0 Row.nil ev0 v6 (tO _) (eL _) (by omega) (by simp; omega) (by simp; omega) ?_
 rintro s1 H1 nx1 hr1 i1 i2 i3 i4
 rw [List.nil_append] at hr1
 (have zz:=and_self; repeat' (first | refine zW ?_ | apply a_n | refine zO ?_ | refine vZ ?_ | fail)) <;> (try clear zz)
 refine sL (X:=Nat) (fun k=>[(1,ao b),(5,ao (d8 aN a (b.take k))),(6,.int .i64 k)]) (fun k H nx=>k ≤ b.length) (fun k=>b.length - k) 0 ⟨H1,aX,Fz.all,Nat.zero_le _,.inl ev0,.inr (by ((try simp only [b8,ZA,reduceEqDiff,↓reduceIte,reduceAdd,reduceLeDiff]); (try with_reducible rfl)); exact px hr1),.inl rfl,trivial⟩ ?_
 rintro k H nx h1
 by_cases hk:k < b.length
 rotate_left
 ·rw [List.take_of_length_le (by omega)]
  (have zz:=@ac; repeat' (first | refine zW ?_ | apply a_n | apply a_x | refine zO ?_ | refine vY ?_ | (refine zGY ?_ ?_ <;> (intro _hg; try (exfalso; omega))) | refine ag rfl ?_ | refine r1Y ?_ | fail)) <;> (try clear zz)
  exact an _ _
 have ix:=ix2 hk
 have hp:=uv (d8 aN a (b.take k)) (b.getD k default) (by have:=ie (K:=aN) (acc:=a) (l:=b.take k); rw [List.length_take] at this; omega)
 have e:d8 aN a (b.take (k + 1))=fF aN (d8 aN a (b.take k)) (b.getD k default):=by rw [bR hk,l8]
 (have zz:=aI @ac @ix; repeat' (first | refine zW ?_ | apply a_n | refine zO ?_ | refine vY ?_ | refine cY ?_ (hp:=hp) (hs:=by (first | refine aa ?_ rfl | apply ae); (repeat' (first | exact ab | apply ah | apply af | exact an _ | exact aG _)); first | done | fail) | (refine zGY ?_ ?_ <;> (intro _hg; try (exfalso; omega))) | fail)) <;> (try clear zz)
 exact ⟨k + 1,by omega,_,_,Fz.none,by omega,iu (have zz:=@e; agZ)⟩
end Go.Proofs.YtbgdcebmgjafjaaGreat
namespace Go.Proofs.YtbgdcebmgjafjaaGreat
open Go Go.Abs
structure MapV where
 fr:Spx
 to:Spx
 deriving Inhabited,DecidableEq
abbrev gq (m:MapV):AV:=.agg [ao m.fr,ao m.to]
theorem bl (m:MapV):Dat (gq m):=Dat.agg (DatL.cons (an _) (DatL.cons (an _) DatL.nil))
instance datI_encM {m:MapV}:DatI (gq m):=⟨bl m⟩
abbrev ShM (m:MapV):Prop:=Shn m.fr∧Shn m.to
def kD (m:MapV) (k:Nat):Int:=if bk (m.fr.getD k default)=false ∨ bk (m.to.getD k default)=false then 2 else if 0 < k∧0 ≤ aN (m.fr.getD (k - 1) default) (m.fr.getD k default) then 14 else 0
def cV (m:MapV):Int:=if 4096 < m.fr.length then 5 else if m.to.length ≠ m.fr.length then 15 else bJ (kD m) m.fr.length
theorem ku {m:MapV} (h:cV m=0):m.fr.length ≤ 4096∧m.to.length=m.fr.length∧cw aN m.fr∧(∀ v ∈ m.fr,bk v=true)∧∀ v ∈ m.to,bk v=true:=by
 unfold cV at h
 split at h
 ·exact absurd h (by decide)
 split at h
 ·exact absurd h (by decide)
 rename_i h1 h2
 have h2:=Decidable.of_not_not h2
 have hz:=eu h
 have h3:∀ k,k < m.fr.length→(bk (m.fr.getD k default)=true∧bk (m.to.getD k default)=true)∧(0 < k→aN (m.fr.getD (k - 1) default) (m.fr.getD k default) < 0):=fun k hk=>by
  have:=hz k hk
  unfold kD at this
  split at this
  ·exact absurd this (by decide)
  rename_i g1
  split at this
  ·exact absurd this (by decide)
  rename_i g2
  exact ⟨⟨by cases hr:bk (m.fr.getD k default) with
   | true=>rfl
   | false=>exact absurd (.inl hr) g1,by cases hr:bk (m.to.getD k default) with
   | true=>rfl
   | false=>exact absurd (.inr hr) g1⟩,fun h0=>by omega⟩
 refine ⟨by omega,h2,?_,fun v hv=>?_,fun v hv=>?_⟩
 ·have step:∀ j i,i < j→j < m.fr.length→aN (m.fr.getD i default) (m.fr.getD j default) < 0:=by
    intro j
    induction j with
    | zero=>intro i h; omega
    | succ j ih =>
     intro i hi hj
     have hs:=(h3 (j + 1) hj).2 (by omega)
     rw [Nat.add_sub_cancel] at hs
     by_cases e:i=j
     ·subst e; exact hs
     ·exact kC.trans (ih i (by omega) (by omega)) hs
  unfold cw
  rw [List.pairwise_iff_getElem]
  intro i j hi hj hij
  have:=step j i hij hj
  simpa [List.getD,hi,hj] using this
 ·obtain ⟨i,hi,rfl⟩:=List.getElem_of_mem hv
  have:=(h3 i hi).1.1
  simpa [List.getD,hi] using this
 ·obtain ⟨i,hi,rfl⟩:=List.getElem_of_mem hv
  have:=(h3 i (by omega)).1.2
  simpa [List.getD,hi] using this
def fH (m:MapV) (v:Vtx):Vtx:=m.to.getD (m.fr.idxOf v) default
def sR (m:MapV):Bool:=decide (m.fr.length ≤ 40) && decide (m.to.length ≤ 40)
def pJ (m:MapV):Bool:=(List.range m.fr.length).all fun k=>decide ((m.fr.getD k default).color=(m.to.getD k default).color)
theorem ke {m:MapV} {k:Nat}:kD m k=if bk (m.fr.getD k default)=false ∨ bk (m.to.getD k default)=false then 2 else if 0 < k∧0 ≤ aN (m.fr.getD (k - 1) default) (m.fr.getD k default) then 14 else 0:=rfl
attribute [local irreducible] aD ai bd bg aQ aV aA aU bj bD Go.Abs.Fn be Go.Abs.Pure aB aK Yl
theorem oF (m:MapV) (hm:ShM m):Pure Tryz.prog 34 [gq m] (.int .i64 (cV m)):=by
 refine Pure.of_c2 follows xu (Nat.le_of_ble_eq_true rfl) ?_
 simp only [b34,cO,cG,cN,cM,cD,cF,cB,ap,aH]
 obtain ⟨hm1,hm2⟩:=hm
 have hm1':m.fr.length ≤ 17592186044416:=hm1
 have hm2':m.to.length ≤ 17592186044416:=hm2
 by_cases h0:4096 < m.fr.length
 ·rw [show cV m=5 by unfold cV; rw [if_pos h0]]
  (have zz:=aI @ac (aI @aF @ax); repeat' (first | refine zW ?_ | apply a_n | apply a_r | refine zO ?_ | refine vZ ?_ | refine bxZ ?_ | (refine zGZ ?_ ?_ <;> (intro _hg; try (exfalso; omega))) | refine ag rfl ?_ | refine r1Z ?_ | fail)) <;> (try clear zz)
  all_goals exact bt rfl
 by_cases h8:m.to.length ≠ m.fr.length
 ·rw [show cV m=15 by unfold cV; rw [if_neg h0,if_pos h8]]
  have z:decide ((m.to.length:Int) ≠ m.fr.length)=true:=decide_eq_true (by omega)
  (have zz:=aI @ac (aI @aF (aI @ax @z)); repeat' (first | refine zW ?_ | apply a_n | apply a_r | refine zO ?_ | refine vZ ?_ | refine bxZ ?_ | refine cTZ ?_ | (refine zGZ ?_ ?_ <;> (intro _hg; try (exfalso; omega))) | refine ag rfl ?_ | refine r1Z ?_ | fail)) <;> (try clear zz)
  all_goals exact bt rfl
 rw [show cV m=bJ (kD m) m.fr.length by unfold cV; rw [if_neg h0,if_neg h8]]
 have h8':=Decidable.of_not_not h8
 have z:decide ((m.to.length:Int) ≠ m.fr.length)=false:=decide_eq_false (by omega)
 (have zz:=aI @ac (aI @aF (aI @ax @z)); repeat' (first | refine zW ?_ | apply a_n | refine zO ?_ | refine vZ ?_ | refine bxZ ?_ | refine cFZ ?_ | (refine zGZ ?_ ?_ <;> (intro _hg; try (exfalso; omega))) | fail)) <;> (try clear zz)
 refine aY (X:=Nat) (fun k=>[(1,.ptr 0 2 0),(19,ao m.fr),(20,.int .i64 m.fr.length),(21,.int .i64 k)]) (fun k H nx=>k ≤ m.fr.length∧H 0=some [ao m.fr,ao m.to]∧1 ≤ nx∧∀ i,i < k→kD m i=0) (fun k=>m.fr.length - k) 0 ⟨Nat.zero_le _,rfl,by omega,fun i h=>absurd h (by omega)⟩ (by (iterate 4 refine And.intro rfl ?_); trivial) ?_
 rintro k H nx ⟨h1,g0,hnx,h2⟩
 by_cases hk:k < m.fr.length
 rotate_left
 ·rw [b5 fun i hi=>h2 i (by omega)]
  (have zz:=@ac; repeat' (first | refine zW ?_ | apply a_n | apply a_x | refine zO ?_ | refine vY ?_ | (refine zGY ?_ ?_ <;> (intro _hg; try (exfalso; omega))) | refine ag rfl ?_ | refine r1Y ?_ | fail)) <;> (try clear zz)
  exact .int _ _
 have ix:=ix2 hk
 have it:=ix2 (l:=m.to) (k:=k) (by omega)
 have hp:=oX (m.fr.getD k default)
 have hq:=oX (m.to.getD k default)
 have hs:=ke (m:=m) (k:=k)
 have done:kD m k=0→∀ i,i < k + 1→kD m i=0:=fun h i hi=>by
  rcases Nat.lt_succ_iff_lt_or_eq.1 hi with h' | rfl
  ·exact h2 i h'
  ·exact h
 cases hr:bk (m.fr.getD k default)
 ·rw [hr] at hp
  rw [if_pos (.inl hr)] at hs
  rw [br hk h2 (by rw [hs]; decide),hs]
  (have zz:=aI @ac (aI @ix (aI @it @g0)); repeat' (first | refine zW ?_ | apply a_n | apply a_r | refine zO ?_ | refine vY ?_ | refine cY ?_ (hp:=hp) (hs:=by (first | refine aa ?_ rfl | apply ae); (repeat' (first | exact ab | apply ah | apply af | exact aG _)); first | done | fail) | refine alY ?_ | refine stY ?_ | refine gFY ?_ | refine cTY ?_ | (refine zGY ?_ ?_ <;> (intro _hg; try (exfalso; omega))) | refine ag rfl ?_ | refine r1Y ?_ | fail)) <;> (try clear zz)
  exact .int _ _
 rw [hr] at hp
 cases hr2:bk (m.to.getD k default)
 ·rw [hr2] at hq
  rw [if_pos (.inr hr2)] at hs
  rw [br hk h2 (by rw [hs]; decide),hs]
  (have zz:=aI @ac (aI @ix (aI @it @g0)); repeat' (first | refine zW ?_ | apply a_n | apply a_r | refine zO ?_ | refine vY ?_ | refine cY ?_ (hp:=by first | exact hp | exact hq) (hs:=by (first | refine aa ?_ rfl | apply ae); (repeat' (first | exact ab | apply ah | apply af | exact aG _)); first | done | fail) | refine alY ?_ | refine stY ?_ | refine gTY ?_ | refine cTY ?_ | (refine zGY ?_ ?_ <;> (intro _hg; try (exfalso; omega))) | refine ag rfl ?_ | refine r1Y ?_ | fail)) <;> (try clear zz)
  exact .int _ _
 rw [hr2] at hq
 rw [if_neg (by rw [hr,hr2]; rintro (h | h) <;> cases h)] at hs
 have gk:∀ {cs:List AV},al H nx cs 0=some [ao m.fr,ao m.to]:=fun {cs}=>by rw [am (by omega)]; exact g0
 by_cases hk0:0 < k
 rotate_left
 ·rw [if_neg (fun h=>hk0 h.1)] at hs
  have zk:decide (0 < (k:Int))=false:=decide_eq_false (by omega)
  (have zz:=aI @ac (aI @ix (aI @it (aI @zk @g0))); repeat' (first | refine zW ?_ | refine zM ?_ | apply a_n | refine zO ?_ | refine vY ?_ | refine cY ?_ (hp:=by first | exact hp | exact hq) (hs:=by (first | refine aa ?_ rfl | apply ae); (repeat' (first | exact ab | apply ah | apply af | exact aG _)); first | done | fail) | refine alY ?_ | refine stY ?_ | refine gTY ?_ | refine gFY ?_ | refine cFY ?_ | (refine zGY ?_ ?_ <;> (intro _hg; try (exfalso; omega))) | fail)) <;> (try clear zz)
  exact ⟨k + 1,by omega,⟨by omega,by (repeat rw [am (by omega)]); exact g0,by omega,done hs⟩,ag0⟩
 have zk:decide (0 < (k:Int))=true:=decide_eq_true (by omega)
 have iy:dv 2 (ao m.fr) (.int .i64 ((k:Int) - 1))=some (.iptr [.int .i64 (m.fr.getD (k - 1) default).color,.int .i64 (m.fr.getD (k - 1) default).label] 0):=by
  have:=ix2 (l:=m.fr) (k:=k - 1) (by omega)
  rwa [show ((k - 1:Nat):Int)=(k:Int) - 1 by omega] at this
 have hc:=lC (m.fr.getD (k - 1) default) (m.fr.getD k default)
 by_cases hv:0 ≤ aN (m.fr.getD (k - 1) default) (m.fr.getD k default)
 ·have z:decide (0 ≤ aN (m.fr.getD (k - 1) default) (m.fr.getD k default))=true:=decide_eq_true hv
  rw [if_pos ⟨hk0,hv⟩] at hs
  rw [br hk h2 (by rw [hs]; decide),hs]
  (have zz:=aI @ac (aI @ix (aI @it (aI @iy (aI @zk (aI @z @g0))))); repeat' (first | refine zW ?_ | refine zM ?_ | apply a_n | apply a_r | refine zO ?_ | refine vY ?_ | refine cY ?_ (hp:=by first | exact hp | exact hq | exact hc) (hs:=by (first | refine aa ?_ rfl | apply ae); (repeat' (first | exact ab | apply ah | apply af | exact aG _)); first | done | fail) | refine alY ?_ | refine stY ?_ | refine gTY ?_ | refine cTY ?_ | refine cFY ?_ | (refine zGY ?_ ?_ <;> (intro _hg; try (exfalso; omega))) | refine ag rfl ?_ | refine r1Y ?_ | fail)) <;> (try clear zz)
  exact .int _ _
 ·have z:decide (0 ≤ aN (m.fr.getD (k - 1) default) (m.fr.getD k default))=false:=decide_eq_false hv
  rw [if_neg (fun h=>hv h.2)] at hs
  (have zz:=aI @ac (aI @ix (aI @it (aI @iy (aI @zk (aI @z @g0))))); repeat' (first | refine zW ?_ | refine zM ?_ | apply a_n | refine zO ?_ | refine vY ?_ | refine cY ?_ (hp:=by first | exact hp | exact hq | exact hc) (hs:=by (first | refine aa ?_ rfl | apply ae); (repeat' (first | exact ab | apply ah | apply af | exact aG _)); first | done | fail) | refine alY ?_ | refine stY ?_ | refine gTY ?_ | refine cFY ?_ | (refine zGY ?_ ?_ <;> (intro _hg; try (exfalso; omega))) | fail)) <;> (try clear zz)
  exact ⟨k + 1,by omega,⟨by omega,by (repeat rw [am (by omega)]); exact g0,by omega,done hs⟩,ag0⟩
theorem qj (m:MapV) (hm:ShM m):Pure Tryz.prog 50 [gq m] (.int .i64 (cV m)):=by
 refine Pure.of_c2 follows yy (Nat.le_of_ble_eq_true rfl) ?_
 simp only [b50,cO,cG,cN,cM,cD,cF,cB,ap,aH]
 obtain ⟨hm1,hm2⟩:=hm
 have hm1':m.fr.length ≤ 17592186044416:=hm1
 have hm2':m.to.length ≤ 17592186044416:=hm2
 by_cases h0:4096 < m.fr.length
 ·rw [show cV m=5 by unfold cV; rw [if_pos h0]]
  (have zz:=aI @ac (aI @aF @ax); repeat' (first | refine zW ?_ | apply a_n | apply a_r | refine zO ?_ | refine vZ ?_ | refine bxZ ?_ | (refine zGZ ?_ ?_ <;> (intro _hg; try (exfalso; omega))) | refine ag rfl ?_ | refine r1Z ?_ | fail)) <;> (try clear zz)
  all_goals exact bt rfl
 by_cases h8:m.to.length ≠ m.fr.length
 ·rw [show cV m=15 by unfold cV; rw [if_neg h0,if_pos h8]]
  have z:decide ((m.to.length:Int) ≠ m.fr.length)=true:=decide_eq_true (by omega)
  (have zz:=aI @ac (aI @aF (aI @ax @z)); repeat' (first | refine zW ?_ | apply a_n | apply a_r | refine zO ?_ | refine vZ ?_ | refine bxZ ?_ | refine cTZ ?_ | (refine zGZ ?_ ?_ <;> (intro _hg; try (exfalso; omega))) | refine ag rfl ?_ | refine r1Z ?_ | fail)) <;> (try clear zz)
  all_goals exact bt rfl
 rw [show cV m=bJ (kD m) m.fr.length by unfold cV; rw [if_neg h0,if_neg h8]]
 have h8':=Decidable.of_not_not h8
 have z:decide ((m.to.length:Int) ≠ m.fr.length)=false:=decide_eq_false (by omega)
 (have zz:=aI @ac (aI @aF (aI @ax @z)); repeat' (first | refine zW ?_ | apply a_n | refine zO ?_ | refine vZ ?_ | refine bxZ ?_ | refine cFZ ?_ | (refine zGZ ?_ ?_ <;> (intro _hg; try (exfalso; omega))) | fail)) <;> (try clear zz)
 refine aY (X:=Nat) (fun k=>[(1,.ptr 0 2 0),(3,.int .i64 k)]) (fun k H nx=>k ≤ m.fr.length∧H 0=some [ao m.fr,ao m.to]∧1 ≤ nx∧∀ i,i < k→kD m i=0) (fun k=>m.fr.length - k) 0 ⟨Nat.zero_le _,rfl,by omega,fun i h=>absurd h (by omega)⟩ (by (iterate 2 refine And.intro rfl ?_); trivial) ?_
 rintro k H nx ⟨h1,g0,hnx,h2⟩
 by_cases hk:k < m.fr.length
 rotate_left
 ·rw [b5 fun i hi=>h2 i (by omega)]
  (have zz:=aI @ac @g0; repeat' (first | refine zW ?_ | apply a_n | apply a_x | refine zO ?_ | refine vY ?_ | (refine zGY ?_ ?_ <;> (intro _hg; try (exfalso; omega))) | refine ag rfl ?_ | refine r1Y ?_ | fail)) <;> (try clear zz)
  exact .int _ _
 have ix:=ix2 hk
 have it:=ix2 (l:=m.to) (k:=k) (by omega)
 have hp:=i7 (m.fr.getD k default)
 have hq:=i7 (m.to.getD k default)
 have hs:=ke (m:=m) (k:=k)
 have done:kD m k=0→∀ i,i < k + 1→kD m i=0:=fun h i hi=>by
  rcases Nat.lt_succ_iff_lt_or_eq.1 hi with h' | rfl
  ·exact h2 i h'
  ·exact h
 cases hr:bk (m.fr.getD k default)
 ·rw [hr] at hp
  rw [if_pos (.inl hr)] at hs
  rw [br hk h2 (by rw [hs]; decide),hs]
  (have zz:=aI @ac (aI @ix (aI @it @g0)); repeat' (first | refine zW ?_ | apply a_n | apply a_r | refine zO ?_ | refine vY ?_ | refine cY ?_ (hp:=hp) (hs:=by (first | refine aa ?_ rfl | apply ae); (repeat' (first | exact ab | apply ah | apply af | exact aG _)); first | done | fail) | refine gFY ?_ | refine cTY ?_ | (refine zGY ?_ ?_ <;> (intro _hg; try (exfalso; omega))) | refine ag rfl ?_ | refine r1Y ?_ | fail)) <;> (try clear zz)
  exact .int _ _
 rw [hr] at hp
 cases hr2:bk (m.to.getD k default)
 ·rw [hr2] at hq
  rw [if_pos (.inr hr2)] at hs
  rw [br hk h2 (by rw [hs]; decide),hs]
  (have zz:=aI @ac (aI @ix (aI @it @g0)); repeat' (first | refine zW ?_ | apply a_n | apply a_r | refine zO ?_ | refine vY ?_ | refine cY ?_ (hp:=by first | exact hp | exact hq) (hs:=by (first | refine aa ?_ rfl | apply ae); (repeat' (first | exact ab | apply ah | apply af | exact aG _)); first | done | fail) | refine gTY ?_ | refine cTY ?_ | (refine zGY ?_ ?_ <;> (intro _hg; try (exfalso; omega))) | refine ag rfl ?_ | refine r1Y ?_ | fail)) <;> (try clear zz)
  exact .int _ _
 rw [hr2] at hq
 rw [if_neg (by rw [hr,hr2]; rintro (h | h) <;> cases h)] at hs
 by_cases hk0:0 < k
 rotate_left
 ·rw [if_neg (fun h=>hk0 h.1)] at hs
  have zk:decide (0 < (k:Int))=false:=decide_eq_false (by omega)
  (have zz:=aI @ac (aI @ix (aI @it (aI @zk @g0))); repeat' (first | refine zW ?_ | refine zM ?_ | apply a_n | refine zO ?_ | refine vY ?_ | refine cY ?_ (hp:=by first | exact hp | exact hq) (hs:=by (first | refine aa ?_ rfl | apply ae); (repeat' (first | exact ab | apply ah | apply af | exact aG _)); first | done | fail) | refine gTY ?_ | refine gFY ?_ | refine cFY ?_ | (refine zGY ?_ ?_ <;> (intro _hg; try (exfalso; omega))) | fail)) <;> (try clear zz)
  exact ⟨k + 1,by omega,⟨by omega,g0,by omega,done hs⟩,ag0⟩
 have zk:decide (0 < (k:Int))=true:=decide_eq_true (by omega)
 have iy:dv 2 (ao m.fr) (.int .i64 ((k:Int) - 1))=some (.iptr [.int .i64 (m.fr.getD (k - 1) default).color,.int .i64 (m.fr.getD (k - 1) default).label] 0):=by
  have:=ix2 (l:=m.fr) (k:=k - 1) (by omega)
  rwa [show ((k - 1:Nat):Int)=(k:Int) - 1 by omega] at this
 have hc:=fv (m.fr.getD (k - 1) default) (m.fr.getD k default)
 by_cases hv:0 ≤ aN (m.fr.getD (k - 1) default) (m.fr.getD k default)
 ·have z:decide (0 ≤ aN (m.fr.getD (k - 1) default) (m.fr.getD k default))=true:=decide_eq_true hv
  rw [if_pos ⟨hk0,hv⟩] at hs
  rw [br hk h2 (by rw [hs]; decide),hs]
  (have zz:=aI @ac (aI @ix (aI @it (aI @iy (aI @zk (aI @z @g0))))); repeat' (first | refine zW ?_ | refine zM ?_ | apply a_n | apply a_r | refine zO ?_ | refine vY ?_ | refine cY ?_ (hp:=by first | exact hp | exact hq | exact hc) (hs:=by (first | refine aa ?_ rfl | apply ae); (repeat' (first | exact ab | apply ah | apply af | exact aG _)); first | done | fail) | refine gTY ?_ | refine cTY ?_ | refine cFY ?_ | (refine zGY ?_ ?_ <;> (intro _hg; try (exfalso; omega))) | refine ag rfl ?_ | refine r1Y ?_ | fail)) <;> (try clear zz)
  exact .int _ _
 ·have z:decide (0 ≤ aN (m.fr.getD (k - 1) default) (m.fr.getD k default))=false:=decide_eq_false hv
  rw [if_neg (fun h=>hv h.2)] at hs
  (have zz:=aI @ac (aI @ix (aI @it (aI @iy (aI @zk (aI @z @g0))))); repeat' (first | refine zW ?_ | refine zM ?_ | apply a_n | refine zO ?_ | refine vY ?_ | refine cY ?_ (hp:=by first | exact hp | exact hq | exact hc) (hs:=by (first | refine aa ?_ rfl | apply ae); (repeat' (first | exact ab | apply ah | apply af | exact aG _)); first | done | fail) | refine gTY ?_ | refine cFY ?_ | (refine zGY ?_ ?_ <;> (intro _hg; try (exfalso; omega))) | fail)) <;> (try clear zz)
  exact ⟨k + 1,by omega,⟨by omega,g0,by omega,done hs⟩,ag0⟩
theorem u1 (m:MapV) (hm:ShM m):Pure Tryz.prog 9 [gq m] (.bool (sR m)):=by
 refine Pure.of_c2 follows is9 (Nat.le_of_ble_eq_true rfl) ?_
 simp only [b9,cO,cG,cN,cM,cD,cF,cB,ap,aH]
 unfold sR
 (have zz:=aI @ac (aI @aF @ax); repeat' (first | refine zW ?_ | apply a_n | refine zO ?_ | refine vZ ?_ | refine bxZ ?_ | refine gTZ ?_ | refine gFZ ?_ | (refine zGZ ?_ ?_ <;> (intro _hg; try (exfalso; omega))) | refine ag rfl ?_ | refine r1Z ?_ | fail)) <;> (try clear zz)
 all_goals (refine bi ?_; rw [Bool.eq_iff_iff]; simp only [Bool.and_eq_true,decide_eq_true_iff,Bool.false_eq_true,false_iff]; omega)
def gQ (m:MapV):Bool × Int:=if cV m ≠ 0 then (false,cV m) else (pJ m,0)
theorem cE {H:Hp} {a b:Bool} {e f:Int} (h1:a=b) (h2:e=f):Snap H (.tup [.bool a,.int .i64 e]) (.tup [.bool b,.int .i64 f]):=by
 subst h1 h2; exact sQ (au (.bool _) (au (.int _ _) ab))
theorem oH (m:MapV) (hm:ShM m):Pure Tryz.prog 14 [gq m] (.tup [.bool (gQ m).1,.int .i64 (gQ m).2]):=by
 refine Pure.of_c2 follows wr (Nat.le_of_ble_eq_true rfl) ?_
 simp only [b14,cO,cG,cN,cM,cD,cF,cB,ap,aH]
 have hc:=oF m hm
 have hm1':m.fr.length ≤ 17592186044416:=hm.1
 unfold gQ
 by_cases he:cV m=0
 rotate_left
 ·rw [if_pos he]
  have z:decide (cV m ≠ 0)=true:=decide_eq_true he
  (have zz:=aI @ac (aI @aF (aI @ax @z)); repeat' (first | refine zW ?_ | apply a_n | apply a_r | refine zO ?_ | refine vZ ?_ | refine cZ ?_ (hp:=hc) (hs:=by (first | refine aa ?_ rfl | apply ae); (repeat' (first | exact ab | apply ah | apply af | exact bl _)); first | done | fail) | refine bxZ ?_ | refine cTZ ?_ | refine ag rfl ?_ | refine r2Z ?_ | fail)) <;> (try clear zz)
  exact cE rfl rfl
 rw [if_neg (fun h=>h he)]
 rw [he] at hc
 obtain ⟨q1,q2,q3,q4,q5⟩:=ku he
 have z:decide ((0:Int) ≠ 0)=false:=rfl
 (have zz:=aI @ac (aI @aF (aI @ax @z)); repeat' (first | refine zW ?_ | apply a_n | refine zO ?_ | refine vZ ?_ | refine cZ ?_ (hp:=hc) (hs:=by (first | refine aa ?_ rfl | apply ae); (repeat' (first | exact ab | apply ah | apply af | exact bl _)); first | done | fail) | refine bxZ ?_ | refine cFZ ?_ | fail)) <;> (try clear zz)
 refine aY (X:=Nat) (fun k=>[(1,.ptr 0 2 0),(13,ao m.fr),(14,.int .i64 m.fr.length),(15,.int .i64 k)]) (fun k H nx=>k ≤ m.fr.length∧H 0=some [ao m.fr,ao m.to]∧1 ≤ nx∧∀ i,i < k→decide ((m.fr.getD i default).color=(m.to.getD i default).color)=true) (fun k=>m.fr.length - k) 0 ⟨Nat.zero_le _,rfl,by omega,fun i h=>absurd h (by omega)⟩ (by (iterate 4 refine And.intro rfl ?_); trivial) ?_
 rintro k H nx ⟨h1,g0,hnx,h2⟩
 by_cases hk:k < m.fr.length
 rotate_left
 ·(have zz:=aI @ac @g0; repeat' (first | refine zW ?_ | apply a_n | apply a_x | refine zO ?_ | refine vY ?_ | (refine zGY ?_ ?_ <;> (intro _hg; try (exfalso; omega))) | refine ag rfl ?_ | refine r2Y ?_ | fail)) <;> (try clear zz)
  exact cE (f0 fun i hi=>h2 i (by omega)).symm rfl
 have ix:=ix2 hk
 have it:=ix2 (l:=m.to) (k:=k) (by omega)
 cases hd:decide ((m.fr.getD k default).color=(m.to.getD k default).color)
 ·have z:decide ((m.to.getD k default).color ≠ (m.fr.getD k default).color)=true:=decide_eq_true fun h=>of_decide_eq_false hd h.symm
  rw [show pJ m=false from fD hk hd]
  (have zz:=aI @ac (aI @ix (aI @it (aI @g0 @z))); repeat' (first | refine zW ?_ | apply a_n | apply a_r | refine zO ?_ | refine vY ?_ | refine alY ?_ | refine stY ?_ | refine cTY ?_ | (refine zGY ?_ ?_ <;> (intro _hg; try (exfalso; omega))) | refine ag rfl ?_ | refine r2Y ?_ | fail)) <;> (try clear zz)
  exact cE rfl rfl
 ·have z:decide ((m.to.getD k default).color ≠ (m.fr.getD k default).color)=false:=decide_eq_false fun h=>h (of_decide_eq_true hd).symm
  (have zz:=aI @ac (aI @ix (aI @it (aI @g0 @z))); repeat' (first | refine zW ?_ | apply a_n | refine zO ?_ | refine vY ?_ | refine alY ?_ | refine stY ?_ | refine cFY ?_ | (refine zGY ?_ ?_ <;> (intro _hg; try (exfalso; omega))) | fail)) <;> (try clear zz)
  exact ⟨k + 1,by omega,⟨by omega,by (repeat rw [am (by omega)]); exact g0,by omega,fun i hi=>by
   rcases Nat.lt_succ_iff_lt_or_eq.1 hi with h' | rfl
   ·exact h2 i h'
   ·exact hd⟩,ag0⟩
theorem pU (m:MapV) (hm:ShM m):Pure Tryz.prog 15 [gq m] (.tup [.bool (gQ m).1,.int .i64 (gQ m).2]):=by
 refine Pure.of_c2 follows ye (Nat.le_of_ble_eq_true rfl) ?_
 simp only [b15,cO,cG,cN,cM,cD,cF,cB,ap,aH]
 have hc:=qj m hm
 have hm1':m.fr.length ≤ 17592186044416:=hm.1
 unfold gQ
 by_cases he:cV m=0
 rotate_left
 ·rw [if_pos he]
  have z:decide (cV m ≠ 0)=true:=decide_eq_true he
  (have zz:=aI @ac (aI @aF (aI @ax @z)); repeat' (first | refine zW ?_ | apply a_n | apply a_r | refine zO ?_ | refine vZ ?_ | refine cZ ?_ (hp:=hc) (hs:=by (first | refine aa ?_ rfl | apply ae); (repeat' (first | exact ab | apply ah | apply af | exact bl _)); first | done | fail) | refine bxZ ?_ | refine cTZ ?_ | refine ag rfl ?_ | refine r2Z ?_ | fail)) <;> (try clear zz)
  exact cE rfl rfl
 rw [if_neg (fun h=>h he)]
 rw [he] at hc
 obtain ⟨q1,q2,q3,q4,q5⟩:=ku he
 have z:decide ((0:Int) ≠ 0)=false:=rfl
 (have zz:=aI @ac (aI @aF (aI @ax @z)); repeat' (first | refine zW ?_ | apply a_n | refine zO ?_ | refine vZ ?_ | refine cZ ?_ (hp:=hc) (hs:=by (first | refine aa ?_ rfl | apply ae); (repeat' (first | exact ab | apply ah | apply af | exact bl _)); first | done | fail) | refine bxZ ?_ | refine cFZ ?_ | fail)) <;> (try clear zz)
 refine aY (X:=Nat) (fun k=>[(1,.ptr 0 2 0),(5,.int .i64 k)]) (fun k H nx=>k ≤ m.fr.length∧H 0=some [ao m.fr,ao m.to]∧1 ≤ nx∧∀ i,i < k→decide ((m.fr.getD i default).color=(m.to.getD i default).color)=true) (fun k=>m.fr.length - k) 0 ⟨Nat.zero_le _,rfl,by omega,fun i h=>absurd h (by omega)⟩ (by (iterate 2 refine And.intro rfl ?_); trivial) ?_
 rintro k H nx ⟨h1,g0,hnx,h2⟩
 by_cases hk:k < m.fr.length
 rotate_left
 ·(have zz:=aI @ac @g0; repeat' (first | refine zW ?_ | apply a_n | apply a_x | refine zO ?_ | refine vY ?_ | (refine zGY ?_ ?_ <;> (intro _hg; try (exfalso; omega))) | refine ag rfl ?_ | refine r2Y ?_ | fail)) <;> (try clear zz)
  exact cE (f0 fun i hi=>h2 i (by omega)).symm rfl
 have ix:=ix2 hk
 have it:=ix2 (l:=m.to) (k:=k) (by omega)
 cases hd:decide ((m.fr.getD k default).color=(m.to.getD k default).color)
 ·have z:decide ((m.fr.getD k default).color ≠ (m.to.getD k default).color)=true:=decide_eq_true (of_decide_eq_false hd)
  rw [show pJ m=false from fD hk hd]
  (have zz:=aI @ac (aI @ix (aI @it (aI @g0 @z))); repeat' (first | refine zW ?_ | apply a_n | apply a_r | refine zO ?_ | refine vY ?_ | refine cTY ?_ | (refine zGY ?_ ?_ <;> (intro _hg; try (exfalso; omega))) | refine ag rfl ?_ | refine r2Y ?_ | fail)) <;> (try clear zz)
  exact cE rfl rfl
 ·have z:decide ((m.fr.getD k default).color ≠ (m.to.getD k default).color)=false:=decide_eq_false fun h=>h (of_decide_eq_true hd)
  (have zz:=aI @ac (aI @ix (aI @it (aI @g0 @z))); repeat' (first | refine zW ?_ | apply a_n | refine zO ?_ | refine vY ?_ | refine cFY ?_ | (refine zGY ?_ ?_ <;> (intro _hg; try (exfalso; omega))) | fail)) <;> (try clear zz)
  exact ⟨k + 1,by omega,⟨by omega,g0,by omega,fun i hi=>by
   rcases Nat.lt_succ_iff_lt_or_eq.1 hi with h' | rfl
   ·exact h2 i h'
   ·exact hd⟩,ag0⟩
theorem vw {l:Spx} {v:Vtx} {k:Nat} (hk:k < l.length) (h:∀ i,i < k→l.getD i default ≠ v) (hv:l.getD k default=v):v ∈ l∧l.idxOf v=k:=by
 have e:l.getD k default=l[k]:=by simp [List.getD,hk]
 have hm:v ∈ l:=by rw [← hv,e]; exact List.getElem_mem hk
 refine ⟨hm,?_⟩
 have h1:l.idxOf v ≤ k:=by
  by_cases hlt:l.idxOf v ≤ k
  ·exact hlt
  ·exfalso
   have:=List.not_of_lt_findIdx (xs:=l) (p:=(· == v)) (i:=k) (by simp only [List.idxOf] at hlt; omega)
   rw [← e,hv] at this; simp at this
 have h2:k ≤ l.idxOf v:=by
  by_cases hlt:k ≤ l.idxOf v
  ·exact hlt
  ·exfalso
   have hi:=List.idxOf_lt_length_iff.2 hm
   have:=h (l.idxOf v) (by omega)
   apply this
   simp [List.getD,hi]
 omega
theorem nL (m:MapV) (v:Vtx) (hm:ShM m):Pure Tryz.prog 56 [gq m,a7 v] (.int .i64 (if v ∈ m.fr then (m.fr.idxOf v:Nat) else -1)):=by
 refine Pure.of_c2 follows yB (Nat.le_of_ble_eq_true rfl) ?_
 simp only [b56,cO,cG,cN,cM,cD,cF,cB,ap,aH]
 have hm1':m.fr.length ≤ 17592186044416:=hm.1
 (have zz:=aI @ac (aI @aF @ax); repeat' (first | refine zW ?_ | apply a_n | refine zO ?_ | refine vZ ?_ | refine bxZ ?_ | fail)) <;> (try clear zz)
 refine aY (X:=Nat) (fun k=>[(2,.ptr 0 2 0),(3,.ptr 1 2 0),(5,.int .i64 k)]) (fun k H nx=>k ≤ m.fr.length∧H 0=some [ao m.fr,ao m.to]∧H 1=some [.int .i64 v.color,.int .i64 v.label]∧∀ i,i < k→m.fr.getD i default ≠ v) (fun k=>m.fr.length - k) 0 ⟨Nat.zero_le _,rfl,rfl,fun i h=>absurd h (by omega)⟩ (by (iterate 3 refine And.intro rfl ?_); trivial) ?_
 rintro k H nx ⟨h1,g0,g1,h2⟩
 by_cases hk:k < m.fr.length
 rotate_left
 ·(have zz:=aI @ac @g0; repeat' (first | refine zW ?_ | apply a_n | apply a_x | refine zO ?_ | refine vY ?_ | (refine zGY ?_ ?_ <;> (intro _hg; try (exfalso; omega))) | refine ag rfl ?_ | refine r1Y ?_ | fail)) <;> (try clear zz)
  refine bt ?_
  rw [if_neg]
  intro hmem
  obtain ⟨i,hi,e⟩:=List.getElem_of_mem hmem
  exact h2 i (by omega) (by simp [List.getD,hi,e])
 have ix:=ix2 hk
 have hd:=ff (m.fr.getD k default) v
 by_cases he:m.fr.getD k default=v
 ·rw [decide_eq_true he] at hd
  obtain ⟨e1,e2⟩:=vw hk h2 he
  rw [if_pos e1,e2]
  (have zz:=aI @ac (aI @ix (aI @g0 (aI @g1 (aI @acq @hd)))); repeat' (first | refine zW ?_ | apply a_n | apply a_r | refine zO ?_ | refine vY ?_ | refine cTY ?_ | (refine zGY ?_ ?_ <;> (intro _hg; try (exfalso; omega))) | refine ag rfl ?_ | refine r1Y ?_ | fail)) <;> (try clear zz)
  exact .int _ _
 ·rw [decide_eq_false he] at hd
  (have zz:=aI @ac (aI @ix (aI @g0 (aI @g1 (aI @acq @hd)))); repeat' (first | refine zW ?_ | apply a_n | refine zO ?_ | refine vY ?_ | refine cFY ?_ | (refine zGY ?_ ?_ <;> (intro _hg; try (exfalso; omega))) | fail)) <;> (try clear zz)
  exact ⟨k + 1,by omega,⟨by omega,g0,g1,fun i hi=>by
   rcases Nat.lt_succ_iff_lt_or_eq.1 hi with h' | rfl
   ·exact h2 i h'
   ·exact he⟩,ag0⟩
def bZ (m:MapV) (l:Spx):Bool:=l.all fun v=>decide (v ∈ m.fr)
theorem sE (m:MapV) (l:Spx) (hm:ShM m) (hl:Shn l):Pure Tryz.prog 52 [gq m,ao l] (.bool (bZ m l)):=by
 refine Pure.of_c2 follows yh (Nat.le_of_ble_eq_true rfl) ?_
 simp only [b52,cO,cG,cN,cM,cD,cF,cB,ap,aH]
 have hl':l.length ≤ 17592186044416:=hl
 (have zz:=aI @ac (aI @aF @ax); repeat' (first | refine zW ?_ | apply a_n | refine zO ?_ | refine vZ ?_ | refine bxZ ?_ | fail)) <;> (try clear zz)
 refine aY (X:=Nat) (fun k=>[(1,ao l),(2,.ptr 0 2 0),(5,.int .i64 k)]) (fun k H nx=>k ≤ l.length∧H 0=some [ao m.fr,ao m.to]∧∀ i,i < k→decide (l.getD i default ∈ m.fr)=true) (fun k=>l.length - k) 0 ⟨Nat.zero_le _,rfl,fun i h=>absurd h (by omega)⟩ (by (iterate 3 refine And.intro rfl ?_); trivial) ?_
 rintro k H nx ⟨h1,g0,h2⟩
 by_cases hk:k < l.length
 rotate_left
 ·(have zz:=aI @ac @g0; repeat' (first | refine zW ?_ | apply a_n | apply a_x | refine zO ?_ | refine vY ?_ | (refine zGY ?_ ?_ <;> (intro _hg; try (exfalso; omega))) | refine ag rfl ?_ | refine r1Y ?_ | fail)) <;> (try clear zz)
  exact bi (eg fun i hi=>h2 i (by omega)).symm
 have ix:=ix2 hk
 have hc:=nL m (l.getD k default) hm
 cases hd:decide (l.getD k default ∈ m.fr)
 ·rw [if_neg (of_decide_eq_false hd)] at hc
  rw [show bZ m l=false from dz hk hd]
  (have zz:=aI @ac (aI @ix @g0); repeat' (first | refine zW ?_ | refine zM ?_ | apply a_n | apply a_r | refine zO ?_ | refine vY ?_ | refine cY ?_ (hp:=hc) (hs:=by (first | refine aa ?_ rfl | apply ae); (repeat' (first | exact ab | apply ah | apply af | exact bl _ | exact aG _)); first | done | fail) | (refine zGY ?_ ?_ <;> (intro _hg; try (exfalso; omega))) | refine ag rfl ?_ | refine r1Y ?_ | fail)) <;> (try clear zz)
  exact .bool _
 ·rw [if_pos (of_decide_eq_true hd)] at hc
  have z:decide (((m.fr.idxOf (l.getD k default):Nat):Int) < 0)=false:=decide_eq_false (by omega)
  (have zz:=aI @ac (aI @ix (aI @g0 @z)); repeat' (first | refine zW ?_ | refine zM ?_ | apply a_n | refine zO ?_ | refine vY ?_ | refine cY ?_ (hp:=hc) (hs:=by (first | refine aa ?_ rfl | apply ae); (repeat' (first | exact ab | apply ah | apply af | exact bl _ | exact aG _)); first | done | fail) | refine cFY ?_ | (refine zGY ?_ ?_ <;> (intro _hg; try (exfalso; omega))) | fail)) <;> (try clear zz)
  exact ⟨k + 1,by omega,⟨by omega,g0,fun i hi=>by
   rcases Nat.lt_succ_iff_lt_or_eq.1 hi with h' | rfl
   ·exact h2 i h'
   ·exact hd⟩,ag0⟩
end Go.Proofs.YtbgdcebmgjafjaaGreat
namespace Go.Proofs.YtbgdcebmgjafjaaGreat
open Go Go.Abs
def cu (m:MapV) (l:Spx):Spx:=j6 aN (l.map (fH m))
theorem tQ {l:Spx} {v:Vtx} (h:v ∈ l):fF aN l v=l:=by unfold fF; rw [if_pos h]
def cr (c:List Spx):Spx:=c.foldl (d8 aN) []
theorem oD {c:List Spx} {s:Spx}:cr (c ++ [s])=d8 aN (cr c) s:=by unfold cr; rw [List.foldl_append]; rfl
theorem gK {n:Nat}:∀ (c:List Spx) (acc:Spx),(∀ s ∈ c,s.length ≤ n)→(c.foldl (d8 aN) acc).length ≤ acc.length + c.length * n
 | [],acc,_=>by simp
 | s :: c,acc,h=>by
  rw [List.foldl_cons]
  have h1:=gK c (d8 aN acc s) fun s hs=>h s (List.mem_cons_of_mem _ hs)
  have h2:=ie (K:=aN) (acc:=acc) (l:=s)
  have h3:=h s List.mem_cons_self
  rw [List.length_cons,Nat.add_mul,Nat.one_mul]; omega
theorem j7 {v:Vtx}:∀ (c:List Spx) (acc:Spx),v ∈ c.foldl (d8 aN) acc ↔ v ∈ acc ∨ ∃ s ∈ c,v ∈ s
 | [],acc=>by simp
 | s :: c,acc=>by
  rw [List.foldl_cons,j7 c,ln]
  simp only [List.mem_cons,exists_eq_or_imp,or_assoc]
attribute [local irreducible] aD ai bd bg aQ aV aA aU bj bD Go.Abs.Fn be Go.Abs.Pure aB aK Yl
theorem qG (c:List Spx) (hc:c.length ≤ 5000) (hs:∀ s ∈ c,s.length ≤ 10):Pure Tryz.prog 53 [dX c] (ao (cr c)):=by
 refine Pure.of_c2 follows xZ (Nat.le_of_ble_eq_true rfl) ?_
 simp only [b53,cO,cG,cN,cM,cD,cF,cB,ap,aH]
 (have zz:=aI @aj (aI @ay @aq); repeat' (first | refine zW ?_ | apply a_n | refine zO ?_ | refine vZ ?_ | refine bxZ ?_ | fail)) <;> (try clear zz)
 refine sL (X:=Nat) (fun k=>[(1,.iptr [aE c] 0),(3,ao (cr (c.take k))),(4,.int .i64 k)]) (fun k H nx=>k ≤ c.length) (fun k=>c.length - k) 0 ⟨_,aX,Fz.all,Nat.zero_le _,.inr (dQ rfl rfl (au (bE _ _) ab)),.inr (.eslsl 2),.inl rfl,trivial⟩ ?_
 rintro k H nx h1
 by_cases hk:k < c.length
 rotate_left
 ·rw [List.take_of_length_le (by omega)]
  (have zz:=@aj; repeat' (first | refine zW ?_ | apply a_n | apply a_x | refine zO ?_ | refine vY ?_ | (refine zGY ?_ ?_ <;> (intro _hg; try (exfalso; omega))) | refine ag rfl ?_ | refine r1Y ?_ | fail)) <;> (try clear zz)
  exact an _ _
 have ix:=e6 hk
 have hp:=vh (cr (c.take k)) (c.getD k default) (by
  have:=gK (n:=10) (c.take k) [] fun s hs'=>hs s (List.mem_of_mem_take hs')
  rw [List.length_take] at this
  unfold cr
  simp only [List.length_nil] at this
  omega) (by have:=hs _ (a9 hk); omega)
 have e:cr (c.take (k + 1))=d8 aN (cr (c.take k)) (c.getD k default):=by rw [bR hk,oD]
 (have zz:=aI @aj @ix; repeat' (first | refine zW ?_ | apply a_n | refine zO ?_ | refine vY ?_ | refine cY ?_ (hp:=hp) (hs:=by (first | refine aa ?_ rfl | apply ae); (repeat' (first | exact ab | apply ah | apply af | exact an _)); first | done | fail) | (refine zGY ?_ ?_ <;> (intro _hg; try (exfalso; omega))) | fail)) <;> (try clear zz)
 exact ⟨k + 1,by omega,_,_,Fz.none,by omega,iu (have zz:=@e; agZ)⟩
theorem wd (m:MapV) (l:Spx) (hm:ShM m) (hlen:m.to.length=m.fr.length) (hl:l.length ≤ 100000) (ht:bZ m l=true):Pure Tryz.prog 61 [gq m,ao l] (ao (cu m l)):=by
 refine Pure.of_c2 follows yA (Nat.le_of_ble_eq_true rfl) ?_
 simp only [b61,cO,cG,cN,cM,cD,cF,cB,ap,aH]
 (have zz:=aI @ac (aI @aF @ax); repeat' (first | refine zW ?_ | apply a_n | refine zO ?_ | refine vZ ?_ | refine bxZ ?_ | fail)) <;> (try clear zz)
 refine sL (X:=Nat) (fun k=>[(1,ao l),(2,.iptr [ao m.fr,ao m.to] 0),(5,ao (cu m (l.take k))),(6,.int .i64 k)]) (fun k H nx=>k ≤ l.length) (fun k=>l.length - k) 0 ⟨_,aX,Fz.all,Nat.zero_le _,.inl rfl,.inr (dQ rfl rfl (au (an _ _) (au (an _ _) ab))),.inr (.eslsl 2),.inl rfl,trivial⟩ ?_
 rintro k H nx h1
 by_cases hk:k < l.length
 rotate_left
 ·rw [List.take_of_length_le (by omega)]
  (have zz:=@ac; repeat' (first | refine zW ?_ | apply a_n | apply a_x | refine zO ?_ | refine vY ?_ | (refine zGY ?_ ?_ <;> (intro _hg; try (exfalso; omega))) | refine ag rfl ?_ | refine r1Y ?_ | fail)) <;> (try clear zz)
  exact an _ _
 have ix:=ix2 hk
 have hv:l.getD k default ∈ m.fr:=of_decide_eq_true (List.all_eq_true.1 ht _ (a9 hk))
 have hi:=nL m (l.getD k default) hm
 rw [if_pos hv] at hi
 have it:=ix2 (l:=m.to) (k:=m.fr.idxOf (l.getD k default)) (by have:=(ib hv).1; omega)
 rw [show m.to.getD (m.fr.idxOf (l.getD k default)) default=fH m (l.getD k default) from rfl] at it
 have hls:(cu m (l.take k)).length ≤ 100000:=by
  unfold cu
  have:=kO (K:=aN) (l:=(l.take k).map (fH m))
  rw [List.length_map,List.length_take] at this
  omega
 have hh:=sr (cu m (l.take k)) (fH m (l.getD k default)) (show _ ≤ _ by omega)
 have hp:=uv (cu m (l.take k)) (fH m (l.getD k default)) (by omega)
 have e:cu m (l.take (k + 1))=fF aN (cu m (l.take k)) (fH m (l.getD k default)):=by
  unfold cu; rw [bR hk,List.map_append]; exact qL
 generalize fH m (l.getD k default)=w at *
 by_cases hw:w ∈ cu m (l.take k)
 ·rw [decide_eq_true hw] at hh
  rw [tQ hw] at e
  (have zz:=aI @ac (aI @ix @it); repeat' (first | refine zW ?_ | apply a_n | refine zO ?_ | refine vY ?_ | refine cY ?_ (hp:=by first | exact hi | exact hh) (hs:=by (first | refine aa ?_ rfl | apply ae); (repeat' (first | exact ab | apply ah | apply af | exact bl _ | exact aG _ | exact an _)); first | done | fail) | refine alY ?_ | refine stY ?_ | refine cFY ?_ | (refine zGY ?_ ?_ <;> (intro _hg; try (exfalso; omega))) | fail)) <;> (try clear zz)
  exact ⟨k + 1,by omega,_,_,Fz.none,by omega,iu (have zz:=@e; agZ)⟩
 ·rw [decide_eq_false hw] at hh
  (have zz:=aI @ac (aI @ix @it); repeat' (first | refine zW ?_ | apply a_n | refine zO ?_ | refine vY ?_ | refine cY ?_ (hp:=by first | exact hi | exact hh | exact hp) (hs:=by (first | refine aa ?_ rfl | apply ae); (repeat' (first | exact ab | apply ah | apply af | exact bl _ | exact aG _ | exact an _)); first | done | fail) | refine alY ?_ | refine stY ?_ | refine cTY ?_ | (refine zGY ?_ ?_ <;> (intro _hg; try (exfalso; omega))) | fail)) <;> (try clear zz)
  exact ⟨k + 1,by omega,_,_,Fz.none,by omega,iu (have zz:=@e; agZ)⟩
theorem qH (m:MapV) (c:List Spx) (hm:ShM m) (hlen:m.to.length=m.fr.length) (hc:c.length ≤ 5000) (hs:∀ s ∈ c,s.length ≤ 1000∧bZ m s=true):Pure Tryz.prog 54 [gq m,dX c] (aE (c.map (cu m))):=by
 refine Pure.of_c2 follows yk (Nat.le_of_ble_eq_true rfl) ?_
 simp only [b54,cO,cG,cN,cM,cD,cF,cB,ap,aH]
 (have zz:=aI @aj (aI @aF (aI @ax (aI @ay @aq))); repeat' (first | refine zW ?_ | apply a_n | refine zO ?_ | refine vZ ?_ | refine bxZ ?_ | fail)) <;> (try clear zz)
 refine aY (X:=AV × Nat) (fun x=>[(2,.ptr 0 2 0),(3,.ptr 1 1 0),(5,x.1),(6,.int .i64 x.2)]) (fun x H nx=>x.2 ≤ c.length∧H 0=some [ao m.fr,ao m.to]∧H 1=some [aE c]∧Row H 1 x.1 (((c.take x.2).map (cu m)).map ao)∧(∀ b,fG x.1=some b→2 ≤ b∧b < nx)∧2 ≤ nx) (fun x=>c.length - x.2) (.esl,0) ⟨Nat.zero_le _,rfl,rfl,Row.nil,fun b h=>(by cases h),by omega⟩ (by (iterate 4 refine And.intro rfl ?_); trivial) ?_
 rintro ⟨sv,k⟩ H nx ⟨h1,g0,g1,hrow,hbd,hnx⟩
 dsimp only at h1 hrow hbd ⊢
 by_cases hk:k < c.length
 rotate_left
 ·rw [List.take_of_length_le (by omega)] at hrow
  (have zz:=aI @aj @g1; repeat' (first | refine zW ?_ | apply a_n | apply a_x | refine zO ?_ | refine vY ?_ | (refine zGY ?_ ?_ <;> (intro _hg; try (exfalso; omega))) | refine ag rfl ?_ | refine r1Y ?_ | fail)) <;> (try clear zz)
  exact qB hrow
 have ix:=e6 hk
 obtain ⟨q1,q2⟩:=hs _ (a9 hk)
 have ho:=wd m (c.getD k default) hm hlen (by omega) q2
 have hl:(((c.take k).map (cu m)).map ao).length=k:=by rw [List.length_map,List.length_map,List.length_take]; omega
 have e:(c.take (k + 1)).map (cu m)=(c.take k).map (cu m) ++ [cu m (c.getD k default)]:=by rw [bR hk,List.map_append]; rfl
 generalize cu m (c.getD k default)=w at *
 (have zz:=aI @aj (aI @g0 (aI @g1 (aI @ix (aI @aF @ax)))); repeat' (first | refine zW ?_ | refine zM ?_ | apply a_n | refine zO ?_ | refine vY ?_ | refine cY ?_ (hp:=ho) (hs:=by (first | refine aa ?_ rfl | apply ae); (repeat' (first | exact ab | apply ah | apply af | exact bl _ | exact an _)); first | done | fail) | refine blY ?_ | (refine zGY ?_ ?_ <;> (intro _hg; try (exfalso; omega))) | fail)) <;> (try clear zz)
 refine fM rfl ev0 (hrow.same fun b hb=>?_) ev0 l6 rfl rfl Nat.one_pos (by omega) (by omega) ?_
 ·have:=hbd b hb; rw [am (by omega)]
 rintro s2 H2 nx2 hr2 i1 i2 i3 i4
 (have zz:=and_self; repeat' (first | apply a_n | refine zO ?_ | refine vY ?_ | fail)) <;> (try clear zz)
 refine ⟨(s2,k + 1),by dsimp only; omega,⟨by dsimp only; omega,?_,?_,?_,fun b hb=>?_,by omega⟩,ag0⟩
 ·rw [i3 0 (by omega) (fun h=>by have:=hbd 0 h; omega),am (by omega)]; exact g0
 ·rw [i3 1 (by omega) (fun h=>by have:=hbd 1 h; omega),am (by omega)]; exact g1
 ·dsimp only
  rw [e,List.map_append]; exact hr2
 ·rcases i4 b hb with h | h
  ·have:=hbd b h; omega
  ·omega
end Go.Proofs.YtbgdcebmgjafjaaGreat
namespace Go.Proofs.YtbgdcebmgjafjaaGreat
open Go Go.Abs
open Nat (reduceEqDiff reduceAdd reduceLeDiff)
theorem sM {l:Spx} (ha:cw aN l) {k:Nat} (hk:k < l.length):l.getD k default ∉ l.take k:=fun hm=>by
 obtain ⟨i,hi,e⟩:=List.getElem_of_mem hm
 rw [List.length_take] at hi
 rw [List.getElem_take] at e
 have:=dI ha (i:=i) (j:=k) (by omega) hk
 rw [show l.getD i default=l[i] by simp [List.getD,show i < l.length by omega],e] at this
 exact kC.ord.irr _ this
theorem rX {m:MapV} {v:Vtx} (h:m.to.length=m.fr.length) (hv:v ∈ m.fr):(m.to.map a7).getD (m.fr.idxOf v) .undef=a7 (fH m v):=by
 have:=(ib hv).1
 unfold fH
 simp [List.getD,show m.fr.idxOf v < m.to.length by omega]
theorem pG {H:Hp} {B n len:Nat} {C:List AV} {l:Spx} (hB:H B=some C) (hn:C.length=n) (hf:len * 2 ≤ n) (hl:l.length=len) (ht:C.take (len * 2)=cX l):Snap H (.msl B n 2 0 len) (ao l):=by
 refine .msl B n 2 0 len C (l.map a7) hB hn (by omega) (by simp [hl]) (fun y hy=>?_) (fun i j y a c hy hc ha=>?_)
 ·obtain ⟨v,_,rfl⟩:=List.mem_map.1 hy; rfl
 ·have hi:i < l.length:=by
    have:=(List.getElem?_eq_some_iff.1 hy).1
    simpa using this
  have hy':y=a7 (l.getD i default):=by
   rw [List.getElem?_map,List.getElem?_eq_getElem hi] at hy
   simp at hy
   rw [← hy]; simp [List.getD,hi]
  subst hy'
  have hj:j < 2:=(List.getElem?_eq_some_iff.1 hc).1
  have h1:C[0 + i * 2 + j]?=(cX l)[i * 2 + j]?:=by
   rw [← ht,List.getElem?_take,if_pos (by omega)]; congr 1; omega
  have h2:(cX l)[i * 2 + j]?=(((cX l).drop (i * 2)).take 2)[j]?:=by
   rw [List.getElem?_take,if_pos hj,List.getElem?_drop]
  rw [h1,h2,rdX hi] at ha
  have:[AV.int .i64 (l.getD i default).color,AV.int .i64 (l.getD i default).label][j]?=some c:=hc
  rw [this] at ha
  cases ha
  match j,hj with
  | 0,_=>cases this; exact .int _ _
  | 1,_=>cases this; exact .int _ _
attribute [local irreducible] aD ai bd bg aQ aV aA aU bj bD Go.Abs.Fn be Go.Abs.Pure aB aK Yl
set_option maxHeartbeats 1000000 in
theorem uX (m:MapV) (hm:ShM m) (H:Hp) (nx:Nat):Abs.Fn Tryz.prog 41 [gq m] H nx fun r H' nx'=>(∀ x,x < nx→H' x=H x)∧nx ≤ nx'∧((cV m=0∧∃ b,r=.tup [.mp b,.int .i64 0]∧nx ≤ b∧b < nx'∧H' b=some [.omap (m.fr.map a7) (m.to.map a7)]) ∨ (cV m ≠ 0∧r=.tup [.undef,.int .i64 (cV m)])):=by
 refine Abs.Fn.of_c2 follows w6 (Nat.le_of_ble_eq_true rfl) ?_
 simp only [b41,cO,cG,cN,cM,cD,cF,cB,ap,aH]
 have hc:=oF m hm
 have hm1':m.fr.length ≤ 17592186044416:=hm.1
 by_cases he:cV m=0
 rotate_left
 ·have z:decide (cV m ≠ 0)=true:=decide_eq_true he
  (have zz:=aI @ac (aI @aF (aI @ax @z)); repeat' (first | refine zW ?_ | apply a_n | apply a_r | refine zO ?_ | refine vY ?_ | refine cY ?_ (hp:=hc) (hs:=by (first | refine aa ?_ rfl | apply ae); (repeat' (first | exact ab | apply ah | apply af | exact bl _)); first | done | fail) | refine bxY ?_ | refine cTY ?_ | refine ag rfl ?_ | refine r2Y ?_ | fail)) <;> (try clear zz)
  exact ⟨fun x hx=>am (by omega),by omega,.inr ⟨he,rfl⟩⟩
 rw [he] at hc
 obtain ⟨q1,q2,q3,q4,q5⟩:=ku he
 have z:decide ((0:Int) ≠ 0)=false:=rfl
 (have zz:=aI @ac (aI @aF (aI @ax @z)); repeat' (first | refine zW ?_ | apply a_n | refine zO ?_ | refine vY ?_ | refine cY ?_ (hp:=hc) (hs:=by (first | refine aa ?_ rfl | apply ae); (repeat' (first | exact ab | apply ah | apply af | exact bl _)); first | done | fail) | refine bxY ?_ | refine cFY ?_ | fail)) <;> (try clear zz)
 refine uq ?_
 (have zz:=@ac; repeat' (first | refine zW ?_ | apply a_n | refine zO ?_ | refine vY ?_ | fail)) <;> (try clear zz)
 refine aY (X:=Nat) (fun k=>[(1,.ptr nx 2 0),(5,.mp (nx + 1)),(15,ao m.fr),(16,.int .i64 m.fr.length),(17,.int .i64 k)]) (fun k H' nx'=>k ≤ m.fr.length∧H' nx=some [ao m.fr,ao m.to]∧H' (nx + 1)=some [.omap ((m.fr.take k).map a7) ((m.to.take k).map a7)]∧(∀ x,x < nx→H' x=H x)∧nx + 2 ≤ nx') (fun k=>m.fr.length - k) 0 ⟨Nat.zero_le _,by rw [am (by omega),ar],ar,fun x hx=>by rw [am (by omega),am (by omega)],by omega⟩ (by simp (disch:=omega) only [agr,ZG,reduceEqDiff,↓reduceIte,List.length_cons,List.length_nil,Nat.zero_add,reduceAdd]) ?_
 rintro k H1 nx1 ⟨h1,g0,g1,h2,hnx⟩
 by_cases hk:k < m.fr.length
 rotate_left
 ·obtain rfl:k=m.fr.length:=by omega
  rw [List.take_length,List.take_of_length_le (by omega)] at g1
  (have zz:=and_self; repeat' (first | refine zW ?_ | apply a_n | apply a_x | refine zO ?_ | refine vY ?_ | (refine zGY ?_ ?_ <;> (intro _hg; try (exfalso; omega))) | refine ag rfl ?_ | refine r2Y ?_ | fail)) <;> (try clear zz)
  exact ⟨h2,by omega,.inl ⟨he,nx + 1,rfl,by omega,by omega,g1⟩⟩
 have ix:=ix2 hk
 have it:=ix2 (l:=m.to) (k:=k) (by omega)
 have hnt:=sM q3 hk
 have hmf:=nf (m.fr.getD k default) (m.fr.take k)
 rw [if_neg hnt] at hmf
 have e1:(m.fr.take (k + 1)).map a7=(m.fr.take k).map a7 ++ [a7 (m.fr.getD k default)]:=by rw [bR hk,List.map_append]; rfl
 have e2:(m.to.take (k + 1)).map a7=(m.to.take k).map a7 ++ [a7 (m.to.getD k default)]:=by rw [bR (by omega),List.map_append]; rfl
 generalize m.fr.getD k default=v at *
 generalize m.to.getD k default=w at *
 (have zz:=@ix; repeat' (first | refine zW ?_ | apply a_n | refine zO ?_ | refine vY ?_ | refine alY ?_ | refine stY ?_ | (refine zGY ?_ ?_ <;> (intro _hg; try (exfalso; omega))) | fail)) <;> (try clear zz)
 refine sY (fun y=>if y=nx ∨ y=nx1 then al (al H1 nx1 [.int .i64 0,.int .i64 0]) nx1 (bu [.int .i64 0,.int .i64 0] 0 [.int .i64 v.color,.int .i64 v.label]) y else none) rfl (fun y cs h=>by
  dsimp only at h
  split at h
  ·exact h
  ·cases h) ?_
 have hS0:(fun y=>if y=nx ∨ y=nx1 then al (al H1 nx1 [.int .i64 0,.int .i64 0]) nx1 (bu [.int .i64 0,.int .i64 0] 0 [.int .i64 v.color,.int .i64 v.label]) y else none) nx=some [ao m.fr,ao m.to]:=by dsimp only; rw [if_pos (.inl rfl),am (by omega),am (by omega)]; exact g0
 have hS1:(fun y=>if y=nx ∨ y=nx1 then al (al H1 nx1 [.int .i64 0,.int .i64 0]) nx1 (bu [.int .i64 0,.int .i64 0] 0 [.int .i64 v.color,.int .i64 v.label]) y else none) nx1=some [.int .i64 v.color,.int .i64 v.label]:=by dsimp only; rw [if_pos (.inr rfl),ar]; rfl
 generalize (fun y=>if y=nx ∨ y=nx1 then al (al H1 nx1 [.int .i64 0,.int .i64 0]) nx1 (bu [.int .i64 0,.int .i64 0] 0 [.int .i64 v.color,.int .i64 v.label]) y else none)=S at hS0 hS1
 (have zz:=aI @hS0 (aI @hS1 @it); repeat' (first | apply a_n | refine zO ?_ | refine nvY ?_ | apply r5 | fail)) <;> (try clear zz)
 refine vC ev0 (by rw [am (by omega),am (by omega)]; exact g1) ev0 ev0 (mw v) hmf ?_
 (have zz:=and_self; repeat' (first | apply a_n | refine zO ?_ | refine vY ?_ | fail)) <;> (try clear zz)
 refine ⟨k + 1,by omega,⟨by omega,by (repeat rw [am (by omega)]); exact g0,?_,fun x hx=>by (repeat rw [am (by omega)]); exact h2 x hx,by omega⟩,ag0⟩
 rw [ar,e1,e2]; rfl
theorem x8:Cmp2 Tryz.prog a7 aN (fun _=>True) 74 [] where
 len _:=rfl
 agg _:=rfl
 ones _:=rfl
 dat x:=aG x
 dcaps x hx:=by cases hx
 run x y _ _:=lC x y
 ord:=kC.ord
theorem xX (m:MapV) (l:Spx) (hlen:m.to.length=m.fr.length) (hl:l.length ≤ 100000) (hl0:l ≠ []) (b:Nat) (H:Hp) (nx:Nat) (hb:H b=some [.omap (m.fr.map a7) (m.to.map a7)]) (hbn:b < nx):Abs.Fn Tryz.prog 57 [.mp b,ao l] H nx fun r H' nx'=>nx ≤ nx'∧((bZ m l=false∧r=.tup [.esl,.bool false]∧∀ x,x < nx→H' x=H x) ∨ (bZ m l=true∧∃ sv Hf H2,r=.tup [sv,.bool true]∧sv.one=true∧Fz Hf H' H2∧Snap Hf sv (ao (cu m l))∧∀ x,x < nx→H2 x=H x)):=by
 refine Abs.Fn.of_c2 follows xA (Nat.le_of_ble_eq_true rfl) ?_
 simp only [b57,cO,cG,cN,cM,cD,cF,cB,ap,aH]
 (have zz:=@ac; repeat' (first | refine zW ?_ | apply a_n | refine zO ?_ | refine vY ?_ | fail)) <;> (try clear zz)
 refine aY (X:=AV × Nat) (fun x=>[(0,.mp b),(6,x.1),(11,ao l),(12,.int .i64 l.length),(13,.int .i64 x.2)]) (fun x H' nx'=>x.2 ≤ l.length∧(∀ y,y < nx→H' y=H y)∧nx ≤ nx'∧Row H' 2 x.1 (cX ((l.take x.2).map (fH m)))∧(∀ B,fG x.1=some B→nx ≤ B∧B < nx')∧∀ i,i < x.2→decide (l.getD i default ∈ m.fr)=true) (fun x=>l.length - x.2) (.esl,0) ⟨Nat.zero_le _,fun _ _=>rfl,Nat.le_refl _,Row.nil,fun B h=>(by cases h),fun i h=>absurd h (by omega)⟩ ag0 ?_
 rintro ⟨sv,k⟩ H1 nx1 ⟨h1,h2,h3,hrow,hbd,hz⟩
 dsimp only at h1 hrow hbd hz ⊢
 by_cases hk:k < l.length
 rotate_left
 ·rw [List.take_of_length_le (by omega)] at hrow
  have ht:bZ m l=true:=eg fun i hi=>hz i (by omega)
  have hpos:0 < l.length:=List.length_pos_iff.2 hl0
  generalize hM:l.map (fH m)=M at *
  have hMl:M.length=l.length:=by rw [← hM,List.length_map]
  have himg:cu m l=j6 aN M:=by unfold cu; rw [hM]
  obtain ⟨B,rfl,hB⟩:∃ B,sv=.msl B (M.length * 2) 2 0 M.length∧H1 B=some (cX M):=by
   generalize hcs:cX M=cs at hrow
   have hcl:=eL M
   cases hrow with
   | nil=>rw [hcs] at hcl; simp at hcl; omega
   | box B len cs g1 g2 =>
    obtain rfl:len=M.length:=by rw [← hcs,hcl] at g2; omega
    exact ⟨B,rfl,g1⟩
  have hBb:=hbd B rfl
  (have zz:=and_self; repeat' (first | refine zW ?_ | apply a_n | apply a_x | refine zO ?_ | refine vY ?_ | (refine zGY ?_ ?_ <;> (intro _hg; try (exfalso; omega))) | fail)) <;> (try clear zz)
  refine a8 ev0 ev0 (uc x8 (L:=M) (b:=B) (nx:=nx1) (n:=M.length) hB (by omega) rfl (by omega) (fun _ _=>trivial) (by omega)) ?_
  rintro _ H3 nx3 ⟨L,ps,hperm,hsort⟩
  have hLl:L.length=M.length:=hperm.length_eq
  have hL0:L ≠ []:=fun e=>by rw [e] at hLl; simp at hLl; omega
  have hB3:H3 B=some (cX L):=ps.at_
  rw [← hLl]
  (have zz:=and_self; repeat' (first | refine zW ?_ | apply a_n | refine zO ?_ | refine vY ?_ | fail)) <;> (try clear zz)
  refine a8 ev0 ev0 (pp L (show _ ≤ _ by omega) hL0 H3 B nx3 hB3 (by have:=ps.le; omega)) ?_
  rintro _ H4 nx4 ⟨rfl,⟨C,rfl,c1,c2⟩,rfl⟩
  have hd:dh L L.length=j6 aN M:=qC kC hperm (by rw [hLl]; exact hsort)
  rw [hd] at c2
  have hle:=tt L L.length
  have hdl:=ro L L.length
  rw [hd] at hdl
  (have zz:=and_self; repeat' (first | apply a_n | refine zO ?_ | refine vY ?_ | refine ag rfl ?_ | refine r2Y ?_ | fail)) <;> (try clear zz)
  refine ⟨by have:=ps.le; omega,.inr ⟨ht,.msl B (L.length * 2) 2 0 (bH L L.length),only B C,cb (al H3 B C) B,rfl,rfl,Fz.one ar,?_,fun x hx=>?_⟩⟩
  ·rw [himg]
   exact pG tT c1 (by omega) hdl c2
  ·rw [p7 (by omega),am (by omega),ps.fr x (by omega) (by omega)]; exact h2 x hx
 have ix:=ix2 hk
 have hb1:H1 b=some [.omap (m.fr.map a7) (m.to.map a7)]:=(h2 b hbn).trans hb
 have hmf:=nf (l.getD k default) m.fr
 have hcl:(cX ((l.take k).map (fH m))).length=k * 2:=by rw [eL,List.length_map,List.length_take]; omega
 have e1:(l.take (k + 1)).map (fH m)=(l.take k).map (fH m) ++ [fH m (l.getD k default)]:=by rw [bR hk,List.map_append]; rfl
 by_cases hv:l.getD k default ∈ m.fr
 rotate_left
 ·have ht:bZ m l=false:=dz hk (decide_eq_false hv)
  rw [if_neg hv] at hmf
  generalize l.getD k default=v at *
  (have zz:=@ix; repeat' (first | refine zW ?_ | apply a_n | refine zO ?_ | refine vY ?_ | refine alY ?_ | refine stY ?_ | (refine zGY ?_ ?_ <;> (intro _hg; try (exfalso; omega))) | fail)) <;> (try clear zz)
  refine pu ev0 (by rw [am (by omega),am (by omega)]; exact hb1) ev0 (mw v) hmf ?_
  rw [show mget (.agg [.int .i64 0,.int .i64 0]) true none (m.to.map a7)=.tup [.agg [.int .i64 0,.int .i64 0],.bool false] from rfl]
  (have zz:=and_self; repeat' (first | refine zW ?_ | apply a_n | apply a_r | refine zO ?_ | refine vY ?_ | refine alY ?_ | refine stY ?_ | refine cTY ?_ | refine ag rfl ?_ | refine r2Y ?_ | fail)) <;> (try clear zz)
  exact ⟨by omega,.inl ⟨ht,rfl,fun x hx=>by (repeat rw [am (by omega)]); exact h2 x hx⟩⟩
 rw [if_pos hv] at hmf
 have hmg:=rX hlen hv
 have hzz:∀ i,i < k + 1→decide (l.getD i default ∈ m.fr)=true:=fun i hi=>by
  rcases Nat.lt_succ_iff_lt_or_eq.1 hi with h' | rfl
  ·exact hz i h'
  ·exact decide_eq_true hv
 generalize l.getD k default=v at *
 generalize fH m v=w at *
 (have zz:=@ix; repeat' (first | refine zW ?_ | apply a_n | refine zO ?_ | refine vY ?_ | refine alY ?_ | refine stY ?_ | (refine zGY ?_ ?_ <;> (intro _hg; try (exfalso; omega))) | fail)) <;> (try clear zz)
 refine pu ev0 (by rw [am (by omega),am (by omega)]; exact hb1) ev0 (mw v) hmf ?_
 rw [show mget (.agg [.int .i64 0,.int .i64 0]) true (some (m.fr.idxOf v)) (m.to.map a7)=.tup [(m.to.map a7).getD (m.fr.idxOf v) .undef,.bool true] from rfl,hmg]
 (have zz:=and_self; repeat' (first | refine zW ?_ | apply a_n | refine zO ?_ | refine vY ?_ | refine alY ?_ | refine stY ?_ | refine blY ?_ | refine cFY ?_ | fail)) <;> (try clear zz)
 refine fM rfl ev0 (hrow.same fun B hB=>?_) ev0 ee rfl rfl (by omega) (by omega) (by omega) ?_
 ·have:=hbd B hB; (repeat rw [am (by omega)])
 rintro s2 H2 nx2 hr2 i1 i2 i3 i4
 (have zz:=and_self; repeat' (first | apply a_n | refine zO ?_ | refine vY ?_ | fail)) <;> (try clear zz)
 refine ⟨(s2,k + 1),by dsimp only; omega,⟨by dsimp only; omega,fun y hy=>?_,by omega,?_,fun B hB=>?_,hzz⟩,ag0⟩
 ·rw [i3 y (by omega) (fun h=>by have:=hbd y h; omega)]
  (repeat rw [am (by omega)]); exact h2 y hy
 ·dsimp only
  rw [e1,ec]; exact hr2
 ·rcases i4 B hB with h | h
  ·have:=hbd B h; omega
  ·omega
end Go.Proofs.YtbgdcebmgjafjaaGreat
namespace Go.Proofs.YtbgdcebmgjafjaaGreat
open Go Go.Abs
def gR (m:MapV) (a b:List Spx):Bool × Int:=if cV m ≠ 0 then (false,cV m) else if bf a ≠ 0 then (false,bf a) else if bf b ≠ 0 then (false,bf b) else if a.all (bZ m)=false then (false,6) else ((a.map (cu m)).all fun s=>b.any fun t=>bn s t,0)
theorem mU {m:MapV} {c:List Spx}:bZ m (cr c)=c.all (bZ m):=by
 rw [Bool.eq_iff_iff]
 unfold bZ
 rw [List.all_eq_true,List.all_eq_true]
 have hp:∀ v,v ∈ cr c ↔ ∃ s ∈ c,v ∈ s:=fun v=>by
  unfold cr; rw [j7]; simp
 constructor
 ·intro h s hs
  rw [List.all_eq_true]
  exact fun v hv=>h v ((hp v).2 ⟨s,hs,hv⟩)
 ·intro h v hv
  obtain ⟨s,hs,hvs⟩:=(hp v).1 hv
  exact List.all_eq_true.1 (h s hs) v hvs
theorem ql {α:Type} {l:List α} {p:α→Bool}:(!l.any fun x=>!p x)=l.all p:=by
 rw [List.any_eq_not_all_not]; simp
attribute [local irreducible] aD ai bd bg aQ aV aA aU bj bD Go.Abs.Fn be Go.Abs.Pure aB aK Yl
set_option maxHeartbeats 1000000 in
theorem sn (m:MapV) (c:List Spx) (hlen:m.to.length=m.fr.length) (hc:c.length ≤ 5000) (hs:∀ s ∈ c,s.length ≤ 1000∧s ≠ []) (b:Nat) (H:Hp) (nx:Nat) (hb:H b=some [.omap (m.fr.map a7) (m.to.map a7)]) (hbn:b < nx):Abs.Fn Tryz.prog 42 [.mp b,dX c] H nx fun r H' nx'=>nx ≤ nx'∧(∀ x,x < nx→H' x=H x)∧((c.all (bZ m)=false∧r=.tup [.esl,.bool false]) ∨ (c.all (bZ m)=true∧∃ sv,r=.tup [sv,.bool true]∧Row H' 1 sv ((c.map (cu m)).map ao)∧∀ B,fG sv=some B→nx ≤ B∧B < nx')):=by
 refine Abs.Fn.of_c2 follows wU (Nat.le_of_ble_eq_true rfl) ?_
 simp only [b42,cO,cG,cN,cM,cD,cF,cB,ap,aH]
 (have zz:=aI @aj (aI @ay @aq); repeat' (first | refine zW ?_ | apply a_n | refine zO ?_ | refine vY ?_ | refine bxY ?_ | fail)) <;> (try clear zz)
 refine aY (X:=AV × Nat) (fun x=>[(0,.mp b),(6,x.1),(12,aE c),(13,.int .i64 c.length),(14,.int .i64 x.2)]) (fun x H' nx'=>x.2 ≤ c.length∧(∀ y,y < nx→H' y=H y)∧nx ≤ nx'∧Row H' 1 x.1 (((c.take x.2).map (cu m)).map ao)∧(∀ B,fG x.1=some B→nx ≤ B∧B < nx')∧∀ i,i < x.2→bZ m (c.getD i default)=true) (fun x=>c.length - x.2) (.esl,0) ⟨Nat.zero_le _,fun y hy=>am (by omega),by omega,Row.nil,fun B h=>(by cases h),fun i h=>absurd h (by omega)⟩ ag0 ?_
 rintro ⟨svo,k⟩ H1 nx1 ⟨h1,h2,h3,hrow,hbd,hz⟩
 dsimp only at h1 hrow hbd hz ⊢
 by_cases hk:k < c.length
 rotate_left
 ·rw [List.take_of_length_le (by omega)] at hrow
  (have zz:=and_self; repeat' (first | refine zW ?_ | apply a_n | apply a_x | refine zO ?_ | refine vY ?_ | (refine zGY ?_ ?_ <;> (intro _hg; try (exfalso; omega))) | refine ag rfl ?_ | refine r2Y ?_ | fail)) <;> (try clear zz)
  exact ⟨h3,h2,.inr ⟨eg fun i hi=>hz i (by omega),svo,rfl,hrow,hbd⟩⟩
 have ix:=e6 hk
 obtain ⟨s1,s2⟩:=hs _ (a9 hk)
 have hcl:(((c.take k).map (cu m)).map ao).length=k:=by rw [List.length_map,List.length_map,List.length_take]; omega
 have e1:(c.take (k + 1)).map (cu m)=(c.take k).map (cu m) ++ [cu m (c.getD k default)]:=by rw [bR hk,List.map_append]; rfl
 have hall:bZ m (c.getD k default)=false→c.all (bZ m)=false:=fun h=>dz hk h
 have hzz:bZ m (c.getD k default)=true→∀ i,i < k + 1→bZ m (c.getD i default)=true:=fun h i hi=>by
  rcases Nat.lt_succ_iff_lt_or_eq.1 hi with h' | rfl
  ·exact hz i h'
  ·exact h
 have ho:=xX m (c.getD k default) hlen (by omega) s2 b H1 nx1 ((h2 b hbn).trans hb) (by omega)
 obtain ⟨o1,o2⟩:=hrow.one
 generalize c.getD k default=s at *
 (have zz:=@ix; repeat' (first | refine zW ?_ | apply a_n | refine zO ?_ | refine vY ?_ | (refine zGY ?_ ?_ <;> (intro _hg; try (exfalso; omega))) | fail)) <;> (try clear zz)
 refine a8 ev0 ev0 ho ?_
 rintro _ H2 nx2 ⟨hle,h⟩
 rcases h with ⟨ht,rfl,hsm⟩ | ⟨ht,sv2,Hf,H3,rfl,hone,hfz,hsn,hsm⟩
 ·(have zz:=and_self; repeat' (first | refine zW ?_ | apply a_n | apply a_r | refine zO ?_ | refine vY ?_ | refine cTY ?_ | refine ag rfl ?_ | refine r2Y ?_ | fail)) <;> (try clear zz)
  exact ⟨by omega,fun x hx=>(hsm x (by omega)).trans (h2 x hx),.inl ⟨hall ht,rfl⟩⟩
 (have zz:=and_self; repeat' (first | apply a_n | refine zO ?_ | refine vY ?_ | fail)) <;> (try clear zz)
 refine dG (dG ?_)
 refine uj Hf H3 [(0,.mp b),(6,svo),(9,ao (cu m s)),(10,.bool true),(12,aE c),(13,.int .i64 c.length),(14,.int .i64 k)] hfz ⟨.inl rfl,.inl rfl,.inr hsn,.inl rfl,.inl rfl,.inl rfl,.inl rfl,trivial⟩ ?_
 (have zz:=aI @aF @ax; repeat' (first | apply a_n | refine zO ?_ | refine vY ?_ | refine blY ?_ | refine cFY ?_ | fail)) <;> (try clear zz)
 refine fM rfl ev0 (hrow.same fun B hB=>?_) ev0 l6 rfl rfl Nat.one_pos (by omega) (by omega) ?_
 ·have:=hbd B hB; rw [am (by omega)]; exact hsm B (by omega)
 rintro s3 H4 nx4 hr4 i1 i2 i3 i4
 (have zz:=and_self; repeat' (first | apply a_n | refine zO ?_ | refine vY ?_ | fail)) <;> (try clear zz)
 refine ⟨(s3,k + 1),by dsimp only; omega,⟨by dsimp only; omega,fun y hy=>?_,by omega,?_,fun B hB=>?_,hzz ht⟩,ag0⟩
 ·rw [i3 y (by omega) (fun h=>by have:=hbd y h; omega),am (by omega),hsm y (by omega)]; exact h2 y hy
 ·dsimp only
  rw [e1,List.map_append]; exact hr4
 ·rcases i4 B hB with h | h
  ·have:=hbd B h; omega
  ·omega
theorem vU (v:Vtx) (t:Spx) (ht:Shn t):Pure Tryz.prog 45 [a7 v,.iptr [ao t] 0] (.bool (!decide (v ∈ t))):=by
 refine Pure.of_c2 follows wq (Nat.le_of_ble_eq_true rfl) ?_
 simp only [b45,cO,cG,cN,cM,cD,cF,cB,ap,aH]
 have h:=oK t v ht
 (have zz:=and_self; repeat' (first | refine zW ?_ | apply a_n | refine zO ?_ | refine vZ ?_ | refine cZ ?_ (hp:=h) (hs:=by (first | refine aa ?_ rfl | apply ae); (repeat' (first | exact ab | apply ah | apply af | exact an _ | exact aG _)); first | done | fail) | refine bxZ ?_ | refine ag rfl ?_ | refine r1Z ?_ | fail)) <;> (try clear zz)
 exact .bool _
theorem xG (s t:Spx) (hs:Shn s) (ht:Shn t):Pure Tryz.prog 43 [ao s,ao t] (.bool (bn s t)):=by
 refine Pure.of_c2 follows wn (Nat.le_of_ble_eq_true rfl) ?_
 simp only [b43,cO,cG,cN,cM,cD,cF,cB,ap,aH]
 have h:=mV s (fun v=>!decide (v ∈ t)) 45 [.iptr [ao t] 0] (DatL.cons (Dat.iptr (DatL.cons (an _) DatL.nil)) DatL.nil) (fun v _=>vU v t ht) hs
 (have zz:=aI @aF @ax; repeat' (first | refine zW ?_ | apply a_n | refine zO ?_ | refine vZ ?_ | refine bxZ ?_ | fail)) <;> (try clear zz)
 refine ce ev0 ev0 h (aa (au (an _ _) (au (gf (au (dQ rfl rfl (au (an _ _) ab)) ab)) ab)) rfl) ?_
 (have zz:=and_self; repeat' (first | apply a_n | refine zO ?_ | refine vZ ?_ | refine ag rfl ?_ | refine r1Z ?_ | fail)) <;> (try clear zz)
 exact bi ql
theorem vX (s t:Spx) (hs:Shn s) (ht:Shn t):Pure Tryz.prog 49 [ao t,.iptr [.func 43 []] 0,.iptr [ao s] 0] (.bool (bn s t)):=by
 refine Pure.of_c2 follows xj (Nat.le_of_ble_eq_true rfl) ?_
 simp only [b49,cO,cG,cN,cM,cD,cF,cB,ap,aH]
 have h:=xG s t hs ht
 (have zz:=and_self; repeat' (first | refine zW ?_ | apply a_n | refine zO ?_ | refine vZ ?_ | refine cZ ?_ (hp:=h) (hs:=by (first | refine aa ?_ rfl | apply ae); (repeat' (first | exact ab | apply ah | apply af | exact an _)); first | done | fail) | refine ag rfl ?_ | refine r1Z ?_ | fail)) <;> (try clear zz)
 exact .bool _
theorem xQ (b:List Spx) (s:Spx) (hb:Shn b) (hbs:∀ t ∈ b,Shn t) (hs:Shn s):Pure Tryz.prog 48 [ao s,.iptr [aE b] 0,.iptr [.func 43 []] 0] (.bool (!b.any fun t=>bn s t)):=by
 refine Pure.of_c2 follows wo (Nat.le_of_ble_eq_true rfl) ?_
 simp only [b48,cO,cG,cN,cM,cD,cF,cB,ap,aH]
 have h:=iw b (fun t=>bn s t) 49 [.iptr [.func 43 []] 0,.iptr [ao s] 0] (DatL.cons (Dat.iptr (DatL.cons (Dat.func DatL.nil) DatL.nil)) (DatL.cons (Dat.iptr (DatL.cons (an _) DatL.nil)) DatL.nil)) (fun t ht=>vX s t hs (hbs t ht)) hb
 (have zz:=aI @aF @ax; repeat' (first | refine zW ?_ | apply a_n | refine zO ?_ | refine vZ ?_ | refine bxZ ?_ | fail)) <;> (try clear zz)
 refine ce ev0 ev0 h (aa (au (bE _ _) (au (gf (au (Dat.iptr (DatL.cons (Dat.func DatL.nil) DatL.nil) _) (au (dQ rfl rfl (au (an _ _) ab)) ab))) ab)) rfl) ?_
 (have zz:=and_self; repeat' (first | apply a_n | refine zO ?_ | refine vZ ?_ | refine ag rfl ?_ | refine r1Z ?_ | fail)) <;> (try clear zz)
 exact .bool _
set_option maxHeartbeats 2000000 in
theorem nj (m:MapV) (a b:List Spx) (hm:ShM m) (ha:Shn a) (has:∀ s ∈ a,Shn s) (hb:Shn b) (hbs:∀ s ∈ b,Shn s):Pure Tryz.prog 12 [gq m,dX a,dX b] (.tup [.bool (gR m a b).1,.int .i64 (gR m a b).2]):=by
 refine Pure.of_c2 follows wK (Nat.le_of_ble_eq_true rfl) ?_
 simp only [b12,cO,cG,cN,cM,cD,cF,cB,ap,aH]
 have hca:=nP a ha has
 have hcb:=nP b hb hbs
 unfold gR
 (have zz:=aI @aF (aI @ax (aI @ay @aq)); repeat' (first | refine zW ?_ | apply a_n | refine zO ?_ | refine vZ ?_ | refine bxZ ?_ | fail)) <;> (try clear zz)
 refine a8 ev0 ev0 (uX m hm _ _) ?_
 rintro _ H1 nx1 ⟨hsm,hle,h⟩
 rcases h with ⟨he,B,rfl,hB1,hB2,hB3⟩ | ⟨he,rfl⟩
 rotate_left
 ·rw [if_pos he]
  have z:decide (cV m ≠ 0)=true:=decide_eq_true he
  (have zz:=@z; repeat' (first | refine zW ?_ | apply a_n | apply a_r | refine zO ?_ | refine vY ?_ | refine cTY ?_ | refine ag rfl ?_ | refine r2Y ?_ | fail)) <;> (try clear zz)
  exact cE rfl rfl
 rw [if_neg (fun h=>h he)]
 obtain ⟨q1,q2,q3,q4,q5⟩:=ku he
 have g1:H1 1=some [aE a]:=hsm 1 (by omega)
 have g2:H1 2=some [aE b]:=hsm 2 (by omega)
 have z0:decide ((0:Int) ≠ 0)=false:=rfl
 (have zz:=aI @g1 (aI @g2 @z0); repeat' (first | apply a_n | refine zO ?_ | refine vY ?_ | fail)) <;> (try clear zz)
 refine dG (dG ?_)
 (have zz:=aI @g1 (aI @g2 @z0); repeat' (first | apply a_n | refine zO ?_ | refine vY ?_ | refine cFY ?_ | fail)) <;> (try clear zz)
 by_cases hea:bf a=0
 rotate_left
 ·rw [if_pos hea]
  have z:decide (bf a ≠ 0)=true:=decide_eq_true hea
  (have zz:=aI @g1 (aI @g2 (aI @ay @aq)); repeat' (first | refine zW ?_ | apply a_n | refine zO ?_ | refine vY ?_ | refine blY ?_ | fail)) <;> (try clear zz)
  refine aY (X:=Nat) (fun k=>[(4,.ptr 1 1 0),(26,.msl nx1 2 1 0 2),(27,.int .i64 2),(28,.int .i64 k)]) (fun k H nx=>k=0∧H nx1=some [aE a,aE b]) (fun _=>0) 0 ⟨rfl,ar⟩ (by (iterate 4 refine And.intro rfl ?_); trivial) ?_
  rintro k H nx ⟨rfl,g⟩
  (have zz:=aI @g (aI @z (aI @Nat.zero_mul (aI @ay @aq))); repeat' (first | refine zW ?_ | apply a_n | apply a_r | refine zO ?_ | refine vY ?_ | refine cY ?_ (hp:=hca) (hs:=by (first | refine aa ?_ rfl | apply ae); (repeat' (first | exact ab | apply ah | apply af | exact bA _)); first | done | fail) | refine alY ?_ | refine stY ?_ | refine cTY ?_ | (refine zGY ?_ ?_ <;> (intro _hg; try (exfalso; omega))) | refine ag rfl ?_ | refine r2Y ?_ | fail)) <;> (try clear zz)
  exact cE rfl rfl
 rw [if_neg (fun h=>h hea)]
 rw [hea] at hca
 by_cases heb:bf b=0
 rotate_left
 ·rw [if_pos heb]
  have z:decide (bf b ≠ 0)=true:=decide_eq_true heb
  (have zz:=aI @g1 (aI @g2 (aI @ay @aq)); repeat' (first | refine zW ?_ | apply a_n | refine zO ?_ | refine vY ?_ | refine blY ?_ | fail)) <;> (try clear zz)
  refine aY (X:=Nat) (fun k=>[(26,.msl nx1 2 1 0 2),(27,.int .i64 2),(28,.int .i64 k)]) (fun k H nx=>k ≤ 1∧H nx1=some [aE a,aE b]∧nx1 < nx) (fun k=>2 - k) 0 ⟨by omega,ar,by omega⟩ (by (iterate 3 refine And.intro rfl ?_); trivial) ?_
  rintro k H nx ⟨hk,g,hnx⟩
  rcases (by omega:k=0 ∨ k=1) with rfl | rfl
  ·(have zz:=aI @g (aI @z0 (aI @Nat.zero_mul (aI @ay @aq))); repeat' (first | refine zW ?_ | apply a_n | refine zO ?_ | refine vY ?_ | refine cY ?_ (hp:=hca) (hs:=by (first | refine aa ?_ rfl | apply ae); (repeat' (first | exact ab | apply ah | apply af | exact bA _)); first | done | fail) | refine alY ?_ | refine stY ?_ | refine cFY ?_ | (refine zGY ?_ ?_ <;> (intro _hg; try (exfalso; omega))) | fail)) <;> (try clear zz)
   exact ⟨1,by omega,⟨by omega,by (repeat rw [am (by omega)]); exact g,by omega⟩,by (iterate 3 refine And.intro rfl ?_); trivial⟩
  ·(have zz:=aI @g (aI @z (aI @Nat.one_mul (aI @ay @aq))); repeat' (first | refine zW ?_ | apply a_n | apply a_r | refine zO ?_ | refine vY ?_ | refine cY ?_ (hp:=hcb) (hs:=by (first | refine aa ?_ rfl | apply ae); (repeat' (first | exact ab | apply ah | apply af | exact bA _)); first | done | fail) | refine alY ?_ | refine stY ?_ | refine cTY ?_ | (refine zGY ?_ ?_ <;> (intro _hg; try (exfalso; omega))) | refine ag rfl ?_ | refine r2Y ?_ | fail)) <;> (try clear zz)
   exact cE rfl rfl
 rw [if_neg (fun h=>h heb)]
 rw [heb] at hcb
 obtain ⟨a1,a2,a3,a4⟩:=pM hea
 refine bq (fun T H nx=>T 4=.ptr 1 1 0∧T 5=.ptr 2 1 0∧T 8=.mp B∧H 1=some [aE a]∧H 2=some [aE b]∧H B=some [.omap (m.fr.map a7) (m.to.map a7)]∧B < nx∧3 ≤ nx) ?_ ?_
 ·(have zz:=aI @g1 (aI @g2 (aI @ay @aq)); repeat' (first | refine zW ?_ | apply a_n | refine zO ?_ | refine vY ?_ | refine blY ?_ | fail)) <;> (try clear zz)
  refine aY (X:=Nat) (fun k=>[(4,.ptr 1 1 0),(5,.ptr 2 1 0),(8,.mp B),(26,.msl nx1 2 1 0 2),(27,.int .i64 2),(28,.int .i64 k)]) (fun k H nx=>k ≤ 2∧H nx1=some [aE a,aE b]∧nx1 < nx∧H 1=some [aE a]∧H 2=some [aE b]∧H B=some [.omap (m.fr.map a7) (m.to.map a7)]) (fun k=>2 - k) 0 ⟨by omega,ar,by omega,by rw [am (by omega)]; exact g1,by rw [am (by omega)]; exact g2,by rw [am (by omega)]; exact hB3⟩ (by (iterate 6 refine And.intro rfl ?_); trivial) ?_
  rintro k H nx ⟨hk,g,hnx,g1,g2,g3⟩
  rcases (by omega:k=0 ∨ k=1 ∨ k=2) with rfl | rfl | rfl
  ·(have zz:=aI @g (aI @z0 (aI @Nat.zero_mul (aI @ay @aq))); repeat' (first | refine zW ?_ | apply a_n | refine zO ?_ | refine vY ?_ | refine cY ?_ (hp:=hca) (hs:=by (first | refine aa ?_ rfl | apply ae); (repeat' (first | exact ab | apply ah | apply af | exact bA _)); first | done | fail) | refine alY ?_ | refine stY ?_ | refine cFY ?_ | (refine zGY ?_ ?_ <;> (intro _hg; try (exfalso; omega))) | fail)) <;> (try clear zz)
   exact ⟨1,by omega,⟨by omega,by (repeat rw [am (by omega)]); exact g,by omega,by (repeat rw [am (by omega)]); exact g1,by (repeat rw [am (by omega)]); exact g2,by (repeat rw [am (by omega)]); exact g3⟩,by (iterate 6 refine And.intro rfl ?_); trivial⟩
  ·(have zz:=aI @g (aI @z0 (aI @Nat.one_mul (aI @ay @aq))); repeat' (first | refine zW ?_ | apply a_n | refine zO ?_ | refine vY ?_ | refine cY ?_ (hp:=hcb) (hs:=by (first | refine aa ?_ rfl | apply ae); (repeat' (first | exact ab | apply ah | apply af | exact bA _)); first | done | fail) | refine alY ?_ | refine stY ?_ | refine cFY ?_ | (refine zGY ?_ ?_ <;> (intro _hg; try (exfalso; omega))) | fail)) <;> (try clear zz)
   exact ⟨2,by omega,⟨by omega,by (repeat rw [am (by omega)]); exact g,by omega,by (repeat rw [am (by omega)]); exact g1,by (repeat rw [am (by omega)]); exact g2,by (repeat rw [am (by omega)]); exact g3⟩,by (iterate 6 refine And.intro rfl ?_); trivial⟩
  ·(have zz:=and_self; repeat' (first | refine zW ?_ | apply a_n | apply a_x | refine zO ?_ | refine vY ?_ | (refine zGY ?_ ?_ <;> (intro _hg; try (exfalso; omega))) | fail)) <;> (try clear zz)
   exact ⟨rfl,rfl,rfl,g1,g2,g3,by omega,by omega⟩
 clear g1 g2 hB3 hsm
 rintro T H nx ⟨t4,t5,t8,g1,g2,g3,hBn,hnx⟩
 (have zz:=aI @t4 (aI @t5 (aI @t8 @g1)); repeat' (first | refine zW ?_ | apply a_n | refine zO ?_ | refine vY ?_ | fail)) <;> (try clear zz)
 refine a8 ev0 (have zz:=@t8; evZ) (sn m a q2 (by omega) (fun s hs=>by obtain ⟨p1,p2,p3,p4⟩:=jT (a2 s hs); exact ⟨by omega,fun e=>by rw [e] at p1; simp at p1⟩) B H nx g3 hBn) ?_
 rintro _ H3 nx3 ⟨hle3,hsm3,h⟩
 rcases h with ⟨ht,rfl⟩ | ⟨ht,sv,rfl,hrow,hbd⟩
 ·rw [if_pos ht]
  (have zz:=and_self; repeat' (first | refine zW ?_ | apply a_n | apply a_r | refine zO ?_ | refine vY ?_ | refine cTY ?_ | refine ag rfl ?_ | refine r2Y ?_ | fail)) <;> (try clear zz)
  exact cE rfl rfl
 rw [if_neg (by rw [ht]; decide)]
 have g2':H3 2=some [aE b]:=(hsm3 2 (by omega)).trans g2
 have hcs:=iw (a.map (cu m)) (fun s=>!b.any fun t=>bn s t) 48 [.iptr [aE b] 0,.iptr [.func 43 []] 0] (DatL.cons (Dat.iptr (DatL.cons (bE _) DatL.nil)) (DatL.cons (Dat.iptr (DatL.cons (Dat.func DatL.nil) DatL.nil)) DatL.nil)) (fun s hs=>by
  obtain ⟨s0,hs0,rfl⟩:=List.mem_map.1 hs
  refine xQ b _ hb hbs ?_
  obtain ⟨p1,p2,p3,p4⟩:=jT (a2 s0 hs0)
  have:=kO (K:=aN) (l:=s0.map (fH m))
  rw [List.length_map] at this
  show (cu m s0).length ≤ _
  unfold cu; omega) (by show _ ≤ _; rw [List.length_map]; omega)
 (have zz:=@t5; repeat' (first | refine zW ?_ | apply a_n | refine zO ?_ | refine vY ?_ | refine alY ?_ | refine stY ?_ | refine cFY ?_ | fail)) <;> (try clear zz)
 refine ce ev0 (have zz:=@t5; evZ) hcs (aa (au (qB (hrow.same fun B hB=>by have:=hbd B hB; (repeat rw [am (by omega)]))) (au (gf (au (dQ (by (repeat rw [am (by omega)]); exact g2') rfl (au (bE _ _) ab)) (au (dQ (by rw [ar]; rfl) rfl (au (Dat.func DatL.nil _) ab)) ab))) ab)) rfl) ?_
 (have zz:=and_self; repeat' (first | apply a_n | refine zO ?_ | refine vY ?_ | refine ag rfl ?_ | refine r2Y ?_ | fail)) <;> (try clear zz)
 exact cE ql rfl
end Go.Proofs.YtbgdcebmgjafjaaGreat
namespace Go.Proofs.YtbgdcebmgjafjaaGreat
open Go Go.Abs
theorem lw {c:List Spx}:d9 c=true ↔ c.length ≤ 30∧∀ s ∈ c,s.length ≤ 10:=by
 unfold d9
 rw [Bool.and_eq_true,decide_eq_true_iff,List.all_eq_true]
 simp only [decide_eq_true_iff]
attribute [local irreducible] aD ai bd bg aQ aV aA aU bj bD Go.Abs.Fn be Go.Abs.Pure aB aK Yl
set_option maxHeartbeats 1000000 in
theorem so (m:MapV) (a b:List Spx) (hm:ShM m) (fa:d9 a=true) (fb:d9 b=true):Pure Tryz.prog 13 [gq m,dX a,dX b] (.tup [.bool (gR m a b).1,.int .i64 (gR m a b).2]):=by
 obtain ⟨la,ls⟩:=lw.1 fa
 obtain ⟨lb,lt⟩:=lw.1 fb
 have ha:Shn a:=show _ ≤ _ by omega
 have has:∀ s ∈ a,Shn s:=fun s hs=>show _ ≤ _ by have:=ls s hs; omega
 have hb:Shn b:=show _ ≤ _ by omega
 have hbs:∀ s ∈ b,Shn s:=fun s hs=>show _ ≤ _ by have:=lt s hs; omega
 refine Pure.of_c2 follows xY (Nat.le_of_ble_eq_true rfl) ?_
 simp only [b13,cO,cG,cN,cM,cD,cF,cB,ap,aH]
 have hcm:=qj m hm
 have hca:=qz a ha has
 have hcb:=qz b hb hbs
 have hpt:=qG a (by omega) ls
 have hto:=sE m (cr a) hm (by have:=gK (n:=10) a [] ls; show _ ≤ _; unfold cr; simp only [List.length_nil] at this; omega)
 rw [mU] at hto
 have z0:decide ((0:Int) ≠ 0)=false:=rfl
 unfold gR
 by_cases he:cV m ≠ 0
 ·rw [if_pos he]
  have z:decide (cV m ≠ 0)=true:=decide_eq_true he
  (have zz:=aI @z (aI @aF (aI @ax (aI @ay @aq))); repeat' (first | refine zW ?_ | apply a_n | apply a_r | refine zO ?_ | refine vY ?_ | refine cY ?_ (hp:=hcm) (hs:=by (first | refine aa ?_ rfl | apply ae); (repeat' (first | exact ab | apply ah | apply af | exact bl _)); first | done | fail) | refine bxY ?_ | refine cTY ?_ | refine ag rfl ?_ | refine r2Y ?_ | fail)) <;> (try clear zz)
  exact cE rfl rfl
 rw [if_neg he]
 have he:=Decidable.of_not_not he
 rw [he] at hcm
 obtain ⟨q1,q2,q3,q4,q5⟩:=ku he
 by_cases hea:bf a ≠ 0
 ·rw [if_pos hea]
  have z:decide (bf a ≠ 0)=true:=decide_eq_true hea
  (have zz:=aI @z (aI @z0 (aI @aF (aI @ax (aI @ay @aq)))); repeat' (first | refine zW ?_ | apply a_n | apply a_r | refine zO ?_ | refine vY ?_ | refine cY ?_ (hp:=by first | exact hcm | exact hca) (hs:=by (first | refine aa ?_ rfl | apply ae); (repeat' (first | exact ab | apply ah | apply af | exact bl _ | exact bA _)); first | done | fail) | refine bxY ?_ | refine cTY ?_ | refine cFY ?_ | refine ag rfl ?_ | refine r2Y ?_ | fail)) <;> (try clear zz)
  exact cE rfl rfl
 rw [if_neg hea]
 have hea:=Decidable.of_not_not hea
 rw [hea] at hca
 by_cases heb:bf b ≠ 0
 ·rw [if_pos heb]
  have z:decide (bf b ≠ 0)=true:=decide_eq_true heb
  (have zz:=aI @z (aI @z0 (aI @aF (aI @ax (aI @ay @aq)))); repeat' (first | refine zW ?_ | apply a_n | apply a_r | refine zO ?_ | refine vY ?_ | refine cY ?_ (hp:=by first | exact hcm | exact hca | exact hcb) (hs:=by (first | refine aa ?_ rfl | apply ae); (repeat' (first | exact ab | apply ah | apply af | exact bl _ | exact bA _)); first | done | fail) | refine bxY ?_ | refine cTY ?_ | refine cFY ?_ | refine ag rfl ?_ | refine r2Y ?_ | fail)) <;> (try clear zz)
  exact cE rfl rfl
 rw [if_neg heb]
 have heb:=Decidable.of_not_not heb
 rw [heb] at hcb
 cases ht:a.all (bZ m)
 ·rw [ht] at hto
  rw [if_pos rfl]
  (have zz:=aI @z0 (aI @aF (aI @ax (aI @ay @aq))); repeat' (first | refine zW ?_ | refine zM ?_ | apply a_n | apply a_r | refine zO ?_ | refine vY ?_ | refine cY ?_ (hp:=by first | exact hcm | exact hca | exact hcb | exact hpt | exact hto) (hs:=by (first | refine aa ?_ rfl | apply ae); (repeat' (first | exact ab | apply ah | apply af | exact bl _ | exact bA _ | exact an _)); first | done | fail) | refine bxY ?_ | refine cTY ?_ | refine cFY ?_ | refine ag rfl ?_ | refine r2Y ?_ | fail)) <;> (try clear zz)
  exact cE rfl rfl
 rw [ht] at hto
 rw [if_neg (by decide)]
 have him:=qH m a hm q2 (by omega) (fun s hs=>⟨by have:=ls s hs; omega,List.all_eq_true.1 ht s hs⟩)
 have hlen:(a.map (cu m)).length=a.length:=List.length_map _
 have hsm:∀ s ∈ a.map (cu m),Shn s:=fun s hs=>by
  obtain ⟨s0,h0,rfl⟩:=List.mem_map.1 hs
  have h1:=kO (K:=aN) (l:=s0.map (fH m))
  have h2:=ls s0 h0
  rw [List.length_map] at h1
  show (cu m s0).length ≤ _
  unfold cu; omega
 generalize a.map (cu m)=c at *
 (have zz:=aI @z0 (aI @aF (aI @ax (aI @ay @aq))); repeat' (first | refine zW ?_ | refine zM ?_ | apply a_n | refine zO ?_ | refine vY ?_ | refine cY ?_ (hp:=by first | exact hcm | exact hca | exact hcb | exact hpt | exact hto | exact him) (hs:=by (first | refine aa ?_ rfl | apply ae); (repeat' (first | exact ab | apply ah | apply af | exact bl _ | exact bA _ | exact an _)); first | done | fail) | refine bxY ?_ | refine cFY ?_ | fail)) <;> (try clear zz)
 refine aY (X:=Nat) (fun k=>[(5,.ptr 2 1 0),(11,aE c),(12,.int .i64 k)]) (fun k H nx=>k ≤ c.length∧H 2=some [aE b]∧∀ i,i < k→(b.any fun t=>bn (c.getD i default) t)=true) (fun k=>c.length - k) 0 ⟨Nat.zero_le _,rfl,fun i h=>absurd h (by omega)⟩ (by (iterate 3 refine And.intro rfl ?_); trivial) ?_
 rintro k H nx ⟨h1,g0,h2⟩
 by_cases hk:k < c.length
 rotate_left
 ·(have zz:=@aj; repeat' (first | refine zW ?_ | apply a_n | apply a_x | refine zO ?_ | refine vY ?_ | (refine zGY ?_ ?_ <;> (intro _hg; try (exfalso; omega))) | refine ag rfl ?_ | refine r2Y ?_ | fail)) <;> (try clear zz)
  exact cE (eg fun i hi=>h2 i (by omega)).symm rfl
 have ix:=e6 hk
 have hh:=vV b (c.getD k default) hb hbs (hsm _ (a9 hk))
 cases hd:b.any fun t=>bn (c.getD k default) t
 ·rw [hd] at hh
  (have zz:=aI @aj (aI @ix @g0); repeat' (first | refine zW ?_ | refine zM ?_ | apply a_n | apply a_r | refine zO ?_ | refine vY ?_ | refine cY ?_ (hp:=hh) (hs:=by (first | refine aa ?_ rfl | apply ae); (repeat' (first | exact ab | apply ah | apply af | exact bA _ | exact an _)); first | done | fail) | refine cTY ?_ | (refine zGY ?_ ?_ <;> (intro _hg; try (exfalso; omega))) | refine ag rfl ?_ | refine r2Y ?_ | fail)) <;> (try clear zz)
  exact cE (dz hk hd).symm rfl
 ·rw [hd] at hh
  (have zz:=aI @aj (aI @ix @g0); repeat' (first | refine zW ?_ | refine zM ?_ | apply a_n | refine zO ?_ | refine vY ?_ | refine cY ?_ (hp:=hh) (hs:=by (first | refine aa ?_ rfl | apply ae); (repeat' (first | exact ab | apply ah | apply af | exact bA _ | exact an _)); first | done | fail) | refine cFY ?_ | (refine zGY ?_ ?_ <;> (intro _hg; try (exfalso; omega))) | fail)) <;> (try clear zz)
  exact ⟨k + 1,by omega,⟨by omega,g0,fun i hi=>by
   rcases Nat.lt_succ_iff_lt_or_eq.1 hi with h' | rfl
   ·exact h2 i h'
   ·exact hd⟩,by (iterate 3 refine And.intro rfl ?_); trivial⟩
end Go.Proofs.YtbgdcebmgjafjaaGreat
namespace Go.Proofs.YtbgdcebmgjafjaaGreat
open Go Go.Abs
def xT:List (Nat × F2):=[(11,b11),(12,b12),(14,b14),(16,b16),(18,b18),(21,b21),(23,b23),(27,b27),(29,b29),(31,b31),(32,b32),(34,b34),(35,b35),(40,b40),(41,b41),(42,b42),(43,b43),(44,b44),(45,b45),(46,b46),(47,b47),(48,b48),(49,b49),(57,b57),(58,b58),(59,b59),(62,b62),(63,b63),(64,b64),(69,b69),(70,b70),(72,b72),(73,b73),(74,b74),(75,b75),(76,b76),(84,b84),(85,b85),(86,b86),(88,b88),(91,b91),(92,b92),(93,b93),(94,b94),(95,b95),(99,b99),(103,vM),(104,vI),(108,xz),(109,wz),(110,u0),(111,ve),(112,wS),(113,wO),(114,xd),(122,vq),(123,uW),(127,vu),(129,wV),(130,vj),(132,vE),(141,u4),(142,wj)]
theorem xE:f5 Tryz.prog (lookup xT) :=
 (ak x2 (ak wK (ak wr (ak yx (ak yt (ak yc (ak yo (ak yj (ak xg (ak yf (ak yd (ak xu (ak x1 (ak yg (ak w6 (ak wU (ak wn (ak xK (ak wq (ak wi (ak wh (ak wo (ak xj (ak xA (ak x5 (ak wt (ak wv (ak x4 (ak xF (ak wk (ak v7 (ak yw (ak xf (ak wX (ak xW (ak yv (ak wx (ak wB (ak xt (ak xc (ak wA (ak wN (ak ym (ak wT (ak xq (ak xh (ak uG (ak uP (ak wI (ak xP (ak uy (ak uB (ak xD (ak xm (ak wu (ak uJ (ak uI (ak uz (ak wH (ak uH (ak ul (ak um (ak xM qV)))))))))))))))))))))))))))))))))))))))))))))))))))))))))))))))
set_option maxRecDepth 100000 in
theorem jU:Go.Abs.Pure Tryz.prog 11 [] (.bool true):=Pure.of_run follows xE (pf:=uw [23,14,12,18,16,27,21,40]) (n:=2000) (good:=isTrue) (by decide +kernel) qR
end Go.Proofs.YtbgdcebmgjafjaaGreat
namespace Go.Proofs.YtbgdcebmgjafjaaGreat
open Go Go.Abs
attribute [local irreducible] aD ai bd bg aQ aV aA aU bj bD Go.Abs.Fn be Go.Abs.Pure aB aK Yl
theorem vK (m:MapV) (a b:List Spx) (hm:ShM m) (ha:Shn a∧∀ s ∈ a,Shn s) (hb:Shn b∧∀ s ∈ b,Shn s):Pure Tryz.prog 3 [gq m,dX a,dX b] (.bool true):=by
 refine Pure.of_c2 follows is3 (Nat.le_of_ble_eq_true rfl) ?_
 simp only [b3,cO,cG,cN,cM,cD,cF,cB,ap,aH]
 have f1:=u1 m hm
 have f2:=qy a ha.1 ha.2
 have f3:=qy b hb.1 hb.2
 cases e1:sR m
 ·rw [e1] at f1
  (have zz:=aI @aF (aI @ax (aI @ay @aq)); repeat' (first | refine zW ?_ | apply a_n | apply a_r | refine zO ?_ | refine vY ?_ | refine cY ?_ (hp:=by first | exact f1 | exact jU) (hs:=by (first | refine aa ?_ rfl | apply ae); (repeat' (first | exact ab | apply ah | apply af | exact bl _)); first | done | fail) | refine bxY ?_ | refine gFY ?_ | refine cTY ?_ | refine ag rfl ?_ | refine r1Y ?_ | fail)) <;> (try clear zz)
  exact .bool _
 cases e2:d9 a
 ·rw [e1] at f1; rw [e2] at f2
  (have zz:=aI @aF (aI @ax (aI @ay @aq)); repeat' (first | refine zW ?_ | apply a_n | apply a_r | refine zO ?_ | refine vY ?_ | refine cY ?_ (hp:=by first | exact f1 | exact f2 | exact jU) (hs:=by (first | refine aa ?_ rfl | apply ae); (repeat' (first | exact ab | apply ah | apply af | exact bl _ | exact bA _)); first | done | fail) | refine bxY ?_ | refine gTY ?_ | refine gFY ?_ | refine cTY ?_ | refine ag rfl ?_ | refine r1Y ?_ | fail)) <;> (try clear zz)
  exact .bool _
 cases e3:d9 b
 ·rw [e1] at f1; rw [e2] at f2; rw [e3] at f3
  (have zz:=aI @aF (aI @ax (aI @ay @aq)); repeat' (first | refine zW ?_ | apply a_n | apply a_r | refine zO ?_ | refine vY ?_ | refine cY ?_ (hp:=by first | exact f1 | exact f2 | exact f3 | exact jU) (hs:=by (first | refine aa ?_ rfl | apply ae); (repeat' (first | exact ab | apply ah | apply af | exact bl _ | exact bA _)); first | done | fail) | refine bxY ?_ | refine gTY ?_ | refine cTY ?_ | refine ag rfl ?_ | refine r1Y ?_ | fail)) <;> (try clear zz)
  exact .bool _
 rw [e1] at f1; rw [e2] at f2; rw [e3] at f3
 have s1:=nj m a b hm ha.1 ha.2 hb.1 hb.2
 have s2:=so m a b hm e2 e3
 have s3:=oH m hm
 have s4:=pU m hm
 generalize gR m a b=p at *
 generalize gQ m=q at *
 obtain ⟨p1,p2⟩:=p
 obtain ⟨q1,q2⟩:=q
 have z1:decide (p2=p2)=true:=decide_eq_true rfl
 have z2:decide (q2=q2)=true:=decide_eq_true rfl
 have z3:(p1 == p1)=true:=by cases p1 <;> rfl
 have z4:(q1 == q1)=true:=by cases q1 <;> rfl
 (have zz:=aI @aF (aI @ax (aI @ay (aI @aq (aI @z1 (aI @z2 (aI @z3 @z4)))))); repeat' (first | refine zW ?_ | apply a_n | refine zO ?_ | refine vY ?_ | refine cY ?_ (hp:=by first | exact f1 | exact f2 | exact f3 | exact s1 | exact s2 | exact s3 | exact s4 | exact jU) (hs:=by (first | refine aa ?_ rfl | apply ae); (repeat' (first | exact ab | apply ah | apply af | exact bl _ | exact bA _)); first | done | fail) | refine bxY ?_ | refine gTY ?_ | (refine zGY ?_ ?_ <;> (intro _hg; try (exfalso; omega))) | refine cFY ?_ | refine ag rfl ?_ | refine r1Y ?_ | fail)) <;> (try clear zz)
 exact .bool _
end Go.Proofs.YtbgdcebmgjafjaaGreat
namespace Go.Proofs.YtbgdcebmgjafjaaGreat
open Go Go.Abs Go.RowKit
section
variable {H:Type} {enc:TypeId × Value→H} {W:World}
theorem oi:cQ enc Tryz.prog W 3 (AV.int .i64) (fun n=>(Lit.int .i64 n).wf=true):=qT Tryz.underlying3
set_option maxRecDepth 100000 in
theorem x3:cQ enc Tryz.prog W 71 a7 (fun _=>True) :=
 (fo Tryz.underlying71 (by kernel_rfl) (dP (off:=0) (off':=1) rfl (by kernel_rfl) oi (dP (off:=1) (off':=2) rfl (by kernel_rfl) oi gS))).map
  (fun a=>(⟨a.1,a.2.1⟩:Vtx)) (fun _ _=>trivial) (fun _ _=>rfl)
theorem oXs:cQ enc Tryz.prog W 22 ao Shn :=
 (jl Tryz.underlying22 (sz:=2) (by_:=16) (by kernel_rfl) (by kernel_rfl) (by omega) (fun _=>rfl) x3).mono fun l h=>by have:=h.2.2; show _ ≤ _; omega
theorem yn:cQ enc Tryz.prog W 25 aE (fun l=>Shn l∧∀ x ∈ l,Shn x) :=
 (jl Tryz.underlying25 (sz:=1) (by_:=24) (by kernel_rfl) (by kernel_rfl) Nat.one_pos (fun _=>rfl) oXs).mono fun l h=>⟨by have:=h.2.2; show _ ≤ _; omega,h.1⟩
set_option maxRecDepth 100000 in
theorem yC:cQ enc Tryz.prog W 24 gq ShM :=
 (fo Tryz.underlying24 (by kernel_rfl) (dP (off:=0) (off':=1) rfl (by kernel_rfl) oXs (dP (off:=1) (off':=2) rfl (by kernel_rfl) oXs gS))).map
  (fun a=>(⟨a.1,a.2.1⟩:MapV)) (by rintro ⟨n,i,u⟩ ⟨h1,h2,_⟩; exact ⟨h1,h2⟩) (fun _ _=>rfl)
set_option maxRecDepth 100000 in
theorem oCx:cQ enc Tryz.prog W 27 dX (fun l=>Shn l∧∀ x ∈ l,Shn x) :=
 (fo Tryz.underlying27 (by kernel_rfl) (dP (off:=0) (off':=1) rfl (by kernel_rfl) yn gS)).map
  (fun a=>a.1) (by rintro ⟨n,u⟩ ⟨h1,_⟩; exact h1) (fun _ _=>rfl)
end
theorem kN {f:FuncId} {xs:List AV} {vs:List Value} (h:Go.Abs.Pure Tryz.prog f xs (.bool true)) (w:World) (hv:bF (E0 (mQ w)) w xs vs) :
    Calls Tryz.prog f vs.toArray w fun e w'=>e=.returned (.bool true)∧Below w.heap.size w w':=by
 refine (h.2 (mQ w) w vs (fun _ h=>h) hv).mono ?_
 rintro e w' ⟨v,imm',rfl,hb,_,_,_,hr⟩
 cases hr
 exact ⟨rfl,hb⟩
theorem yb:laidOutB Tryz.prog=true:=by kernel_rfl
end Go.Proofs.YtbgdcebmgjafjaaGreat
namespace Go.Proofs.YtbgdcebmgjafjaaGreat
open Go Go.Abs Go.RowKit Go.ChangeShapes Go.WideShapes Go.ChangeAt
theorem lV {H:Type} {enc:TypeId × Value→H} {P:Program} {f:Func} {s:ChangeSpec} {apart fresh handsOn again:Bool} {W W':World} {args:Array Value} {v:Value} {ds gs:List (DataW H)} {before pa pv:List MemPlace}
    (hW:DataW.Whole enc P f.params.toList s.vars apart W args.toList ds gs before)
    (hres:∀ (b:Nat) (sp:Nat→Bool) (hd:Bool),DataW.TrodAll enc P W' b sp hd f.resultTypes.toList (v.resultList f.resultTypes.size) (s.fn H (ds ++ gs)).results [])
    (hargs:∀ sp:Nat→Bool,(∀ p ∈ before,sp p.block=true)→DataW.TrodAll enc P W' 0 sp true f.params.toList args.toList (s.fn H (ds ++ gs)).args pa)
    (hvars:∀ sp:Nat→Bool,(∀ p ∈ before,sp p.block=true)→DataW.TrodVars enc P W' sp s.vars (s.fn H (ds ++ gs)).vars pv)
    (hps:before=pa ++ pv) (hb:Below W.heap.size W W')
    (hok:∀ (j:Nat) (t:TypeId) (r:Value),f.resultTypes[j]?=some t→(v.resultList f.resultTypes.size)[j]?=some r→Value.okWide P W' .any 0 t r) :
    s.post enc P f apart fresh handsOn again W args v W':=by
 have hold:∀ p ∈ before,(fun b=>decide (b < W.heap.size)) p.block=true:=fun p hp=>by simpa using hW.lt p hp
 have hlt:=fun p hp=>hW.lt p hp
 refine ⟨ds,gs,before,[],pa,pv,hW,hres _ _ _,hargs _ hold,hvars _ hold,World.keptBut_mono (fun p hp=>⟨hp,?_⟩) (hb.frame _),fun _=>?_⟩
 ·rw [hps,List.mem_append] at hp
  exact Or.inr hp
 ·obtain ⟨_,_,_,_,_,hz,hn⟩:=hW
  refine ⟨hok,_,_,([] ++ pa) ++ pv,⟨[] ++ pa,pv,trodAll_append (hargs _ (fun _ _=>rfl)) (hres _ _ _),hvars _ (fun _ _=>rfl),rfl,?_,?_⟩,?_⟩
  ·intro b off hp
   have hp':MemPlace.cell b off ∈ before:=by rw [hps]; simpa using hp
   rw [hb.frozen (hlt _ hp')]
   exact hz b off hp'
  ·intro ha
   have:=hn ha
   rw [hps] at this
   simpa using this
  ·intro p hp _
   rw [hps]
   simpa using hp
theorem sI {E:Env} {w:World}:bF E w [] []:=⟨rfl,fun i x y h=>(by cases h)⟩
theorem jg {E:Env} {w:World} {x:AV} {y:Value} {xs:List AV} {ys:List Value} (h:Rel E w x y) (hs:bF E w xs ys):bF E w (x :: xs) (y :: ys):=by
 refine ⟨by simp [hs.1],fun i a b ha hb=>?_⟩
 cases i with
 | zero=>simp at ha hb; subst ha hb; exact h
 | succ i=>simp at ha hb; exact hs.2 i a b ha hb
theorem own:ownKnob Tryz.prog.godebug=none:=by kernel_rfl
end Go.Proofs.YtbgdcebmgjafjaaGreat