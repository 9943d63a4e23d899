/- Texts of this claim, one after the other: U6v, U7v, U8v, U9v, U10v, U11v, U12v, U13v, U2o, U3o, U4o, U5o, U6o, U7o, U8o, U10o, U12o, U13o, T20, T10, T21, T11, T22, T40, T41, T42, U2k, U3k, U4k, U5k, U6k, U7k, U8k, U10k. -/
import Derived.Test.YtjgpfclngkcedaaGreatXG4

set_option linter.unusedSimpArgs false
set_option linter.unusedVariables false
namespace Go.Proofs.YtjgpfclngkcedaaGreat
open Go Go.Abs
section
variable {α:Type} [Inhabited α] {f:α→AV} {K:α→α→Int} {G:α→Prop} {g:Nat} {caps:List AV}
attribute [local irreducible] aA ag aU aO aE aH ay aJ aQ aZ Go.Abs.Fn aL Go.Abs.Pure ak aB Yl
theorem m9 (hc:Cmp Tryz.prog f K G g caps) {L:List α} {H:Hp} {b c nx n i j k s lo hi:Nat} (hH:H b=some (L.map f)) (hbc:b ≠ c) (hcc:H c=some [.int .i64 (s:Nat)]) (hn:L.length=n) (hG:∀ x ∈ L,G x) (hi1:lo ≤ i∧i < hi) (hj1:lo ≤ j∧j < hi) (hk1:lo ≤ k∧k < hi) (hhi:hi ≤ n) (hn2:n ≤ 1000000000) (hs:s ≤ 50) :
    Abs.Fn Tryz.prog 167 [.msl b n 1 0 n,.int .i64 i,.int .i64 j,.int .i64 k,.ptr c 1 0,.func g caps] H nx fun r H' nx'=>nx'=nx∧∃ p s':Nat,r=.int .i64 p∧lo ≤ p∧p < hi∧s' ≤ s + 3∧H'=an H c [.int .i64 s']:=by
 refine Abs.Fn.of_c2 follows yH (Nat.le_of_ble_eq_true rfl) ?_
 simp only [Ac,cO,cG,cN,cM,cD,cF,cB,av,aF]
 (have zz:=and_self; repeat' (first | refine zW ?_ | apply a_n | refine zO ?_ | refine vZ ?_ | fail)) <;> (try clear zz)
 refine aD ev0 ev0 (mY hc (b:=b) hH hcc hn hG (i:=i) (j:=j) (by omega) (by omega) hn2 (by omega)) ?_
 rintro _ _ _ ⟨rfl,i1,j1,s1,rfl,h1,hs1,rfl⟩
 (have zz:=and_self; repeat' (first | refine zW ?_ | apply a_n | refine zO ?_ | refine vZ ?_ | fail)) <;> (try clear zz)
 refine aD ev0 ev0 (mY hc (b:=b) (by rw [ac hbc]; exact hH) au hn hG (i:=j1) (j:=k) (by omega) (by omega) hn2 (by omega)) ?_
 rintro _ _ _ ⟨rfl,j2,k2,s2,rfl,h2,hs2,rfl⟩
 (have zz:=and_self; repeat' (first | refine zW ?_ | apply a_n | refine zO ?_ | refine vZ ?_ | fail)) <;> (try clear zz)
 refine aD ev0 ev0 (mY hc (b:=b) (by rw [am,ac hbc]; exact hH) au hn hG (i:=i1) (j:=j2) (by omega) (by omega) hn2 (by omega)) ?_
 rintro _ _ _ ⟨rfl,i3,j3,s3,rfl,h3,hs3,rfl⟩
 (have zz:=and_self; repeat' (first | refine zW ?_ | apply a_n | refine zO ?_ | refine vZ ?_ | refine ae rfl ?_ | refine r1Z ?_ | fail)) <;> (try clear zz)
 exact ⟨rfl,j3,s3,rfl,by omega,by omega,by omega,by rw [am,am]⟩
theorem nG (hc:Cmp Tryz.prog f K G g caps) {L:List α} {H:Hp} {b c nx n i s lo hi:Nat} (hH:H b=some (L.map f)) (hbc:b ≠ c) (hcc:H c=some [.int .i64 (s:Nat)]) (hn:L.length=n) (hG:∀ x ∈ L,G x) (hi1:lo + 1 ≤ i∧i + 1 < hi) (hhi:hi ≤ n) (hn2:n ≤ 1000000000) (hs:s ≤ 50) :
    Abs.Fn Tryz.prog 166 [.msl b n 1 0 n,.int .i64 i,.ptr c 1 0,.func g caps] H nx fun r H' nx'=>nx'=nx∧∃ p s':Nat,r=.int .i64 p∧lo ≤ p∧p < hi∧s' ≤ s + 3∧H'=an H c [.int .i64 s']:=by
 obtain ⟨m,rfl⟩:∃ m,i=m + 1:=⟨i - 1,by omega⟩
 have t1:((m + 1:Nat):Int) - 1=(m:Int):=by omega
 have t2:((m + 1:Nat):Int) + 1=((m + 1 + 1:Nat):Int):=by omega
 refine Abs.Fn.of_c2 follows yp (Nat.le_of_ble_eq_true rfl) ?_
 simp only [y3,cO,cG,cN,cM,cD,cF,cB,av,aF]
 (have zz:=aI @t1 @t2; repeat' (first | refine zW ?_ | apply a_n | refine zO ?_ | refine vZ ?_ | fail)) <;> (try clear zz)
 refine aD ev0 ev0 (m9 hc (b:=b) hH hbc hcc hn hG (i:=m) (j:=m + 1) (k:=m + 1 + 1) (lo:=lo) (hi:=hi) (by omega) (by omega) (by omega) hhi hn2 hs) ?_
 rintro _ _ _ ⟨rfl,p,s1,rfl,h1,h2,hs1,rfl⟩
 (have zz:=and_self; repeat' (first | apply a_n | refine zO ?_ | refine vZ ?_ | refine ae rfl ?_ | refine r1Z ?_ | fail)) <;> (try clear zz)
 exact ⟨rfl,p,s1,rfl,h1,h2,hs1,rfl⟩
theorem uU (hc:Cmp Tryz.prog f K G g caps) {L:List α} {H:Hp} {b nx n a e:Nat} (hH:H b=some (L.map f)) (hbx:b < nx) (hn:L.length=n) (hG:∀ x ∈ L,G x) (hae:a + 8 ≤ e) (hen:e ≤ n) (hn2:n ≤ 1000000000) :
    Abs.Fn Tryz.prog 152 [.msl b n 1 0 n,.int .i64 a,.int .i64 e,.func g caps] H nx fun r H' nx'=>nx'=nx + 1∧∃ (p:Nat) (hint:Int) (v:List AV),r=.tup [.int .i64 p,.int .i64 hint]∧a ≤ p∧p < e∧H'=an H nx v:=by
 obtain ⟨l,rfl⟩:∃ l,e=a + l:=⟨e - a,by omega⟩
 have te:((a + l:Nat):Int) - (a:Int)=(l:Int):=by omega
 obtain ⟨q,hq⟩:∃ q,l / 4=q:=⟨_,rfl⟩
 have tq:aV .quo false false (.int .i64 (l:Int)) (.int .i64 4)=some (.int .i64 (q:Int)):=by
  rw [fC (by omega) (by omega) (by omega)]
  congr 2
  omega
 have w1:(a:Int) + (q:Int) * 1=((a + q:Nat):Int):=by omega
 have w2:(a:Int) + (q:Int) * 2=((a + q * 2:Nat):Int):=by omega
 have w3:(a:Int) + (q:Int) * 3=((a + q * 3:Nat):Int):=by omega
 have hbn:b ≠ nx:=by omega
 refine Abs.Fn.of_c2 follows yM (Nat.le_of_ble_eq_true rfl) ?_
 simp only [zo,cO,cG,cN,cM,cD,cF,cB,av,aF]
 have last:∀ (s:Nat) (H1:Hp),H1=an (an H nx [.int .i64 0]) nx [.int .i64 s]→H1 nx=some [.int .i64 (s:Nat)]:=fun s H1 h=>by rw [h]; exact au
 have hHn:∀ v,an H nx v b=some (L.map f):=fun v=>by rw [ac hbn]; exact hH
 by_cases h50:50 ≤ l
 ·(have zz:=aI @te (aI @tq (aI @w1 (aI @w2 @w3))); repeat' (first | refine zW ?_ | apply a_n | refine zO ?_ | refine vZ ?_ | refine alZ ?_ | (refine zGZ ?_ ?_ <;> (intro _hg; try (exfalso; omega))) | fail)) <;> (try clear zz)
  refine aD ev0 ev0 (nG hc (b:=b) (c:=nx) (s:=0) (i:=a + q) (lo:=a) (hi:=a + l) (hHn _) hbn au hn hG (by omega) (by omega) hn2 (by omega)) ?_
  rintro _ _ _ ⟨rfl,p1,s1,rfl,k1,k2,hs1,rfl⟩
  rw [am]
  (have zz:=and_self; repeat' (first | refine zW ?_ | apply a_n | refine zO ?_ | refine vZ ?_ | fail)) <;> (try clear zz)
  refine aD ev0 ev0 (nG hc (b:=b) (c:=nx) (s:=s1) (i:=a + q * 2) (lo:=a) (hi:=a + l) (hHn _) hbn au hn hG (by omega) (by omega) hn2 (by omega)) ?_
  rintro _ _ _ ⟨rfl,p2,s2,rfl,k3,k4,hs2,rfl⟩
  rw [am]
  (have zz:=and_self; repeat' (first | apply a_n | refine zO ?_ | refine vZ ?_ | fail)) <;> (try clear zz)
  refine aD ev0 ev0 (nG hc (b:=b) (c:=nx) (s:=s2) (i:=a + q * 3) (lo:=a) (hi:=a + l) (hHn _) hbn au hn hG (by omega) (by omega) hn2 (by omega)) ?_
  rintro _ _ _ ⟨rfl,p3,s3,rfl,k5,k6,hs3,rfl⟩
  rw [am]
  (have zz:=and_self; repeat' (first | apply a_n | refine zO ?_ | refine vZ ?_ | fail)) <;> (try clear zz)
  refine aD ev0 ev0 (m9 hc (b:=b) (c:=nx) (s:=s3) (i:=p1) (j:=p2) (k:=p3) (lo:=a) (hi:=a + l) (hHn _) hbn au hn hG (by omega) (by omega) (by omega) (by omega) hn2 (by omega)) ?_
  rintro _ _ _ ⟨rfl,p4,s4,rfl,k7,k8,hs4,rfl⟩
  rw [am]
  (have zz:=and_self; repeat' (first | refine zW ?_ | apply a_n | refine zO ?_ | refine vZ ?_ | (refine zGZ ?_ ?_ <;> (intro _hg; try (exfalso; omega))) | refine ae rfl ?_ | refine r2Z ?_ | fail)) <;> (try clear zz)
  all_goals exact ⟨rfl,p4,_,_,rfl,by omega,by omega,rfl⟩
 ·(have zz:=aI @te (aI @tq (aI @w1 (aI @w2 @w3))); repeat' (first | refine zW ?_ | apply a_n | refine zO ?_ | refine vZ ?_ | refine alZ ?_ | (refine zGZ ?_ ?_ <;> (intro _hg; try (exfalso; omega))) | fail)) <;> (try clear zz)
  refine aD ev0 ev0 (m9 hc (b:=b) (c:=nx) (s:=0) (i:=a + q) (j:=a + q * 2) (k:=a + q * 3) (lo:=a) (hi:=a + l) (hHn _) hbn au hn hG (by omega) (by omega) (by omega) (by omega) hn2 (by omega)) ?_
  rintro _ _ _ ⟨rfl,p4,s4,rfl,k7,k8,hs4,rfl⟩
  rw [am]
  (have zz:=and_self; repeat' (first | refine zW ?_ | apply a_n | refine zO ?_ | refine vZ ?_ | (refine zGZ ?_ ?_ <;> (intro _hg; try (exfalso; omega))) | refine ae rfl ?_ | refine r2Z ?_ | fail)) <;> (try clear zz)
  all_goals exact ⟨rfl,p4,_,_,rfl,by omega,by omega,rfl⟩
end
end Go.Proofs.YtjgpfclngkcedaaGreat
namespace Go.Proofs.YtjgpfclngkcedaaGreat
open Go Go.Abs
def lQ {α:Type} [Inhabited α] (K:α→α→Int) (a e:Nat) (M:List α):Prop:=∀ q,0 < a→a ≤ q→q < e→¬ K (M.getD q default) (M.getD (a - 1) default) < 0
section
variable {α:Type} [Inhabited α] {f:α→AV} {K:α→α→Int} {G:α→Prop} {g:Nat} {caps:List AV}
theorem lQ.perm {a e:Nat} {L M:List α} (h:lQ K a e L) (hp:PermR a e L M) (hae:a ≤ e) (he:e ≤ L.length):lQ K a e M:=fun q h0 h1 h2=>by
 rw [hp.out (a - 1) (.inl (by omega))]
 exact hp.all (p:=fun x=>¬ K x (L.getD (a - 1) default) < 0) hae he (fun i k1 k2=>h i h0 k1 k2) q h1 h2
theorem aP.out {a i e:Nat} {L M:List α} (h:aP K a i L) (hp:PermR i e L M):aP K a i M:=fun p q h1 h2 h3=>by
 rw [hp.out p (.inl (by omega)),hp.out q (.inl h3)]; exact h p q h1 h2 h3
theorem aP.snoc {a i:Nat} {M:List α} (hK:Ord K) (h:aP K a i M) (ha:a < i) (hn:¬ K (M.getD i default) (M.getD (i - 1) default) < 0):aP K a (i + 1) M:=fun p q h1 h2 h3=>by
 by_cases e:q=i
 ·subst e
  by_cases e2:p=q - 1
  ·rw [e2]; exact hn
  ·exact hK.negtr _ _ _ (h p (q - 1) h1 (by omega) (by omega)) hn
 ·exact h p q h1 h2 (by omega)
attribute [local irreducible] aA ag aU aO aE aH ay aJ aQ aZ Go.Abs.Fn aL Go.Abs.Pure ak aB Yl
theorem uB (hc:Cmp Tryz.prog f K G g caps) {L:List α} {H:Hp} {b nx n a e:Nat} (hH:H b=some (L.map f)) (hn:L.length=n) (hG:∀ x ∈ L,G x) (hae:a < e) (hen:e ≤ n) (hn2:n ≤ 1000000000) (hlow:lQ K a e L) :
    Abs.Fn Tryz.prog 154 [.msl b n 1 0 n,.int .i64 a,.int .i64 e,.func g caps] H nx fun r H' nx'=>nx'=nx∧∃ L' t,r=.bool t∧H'=an H b (L'.map f)∧PermR a e L L'∧(t=true→aP K a e L'):=by
 have dcap:=hc.dcaps
 refine Abs.Fn.of_c2 follows x5 (Nat.le_of_ble_eq_true rfl) ?_
 simp only [yT,cO,cG,cN,cM,cD,cF,cB,av,aF]
 (have zz:=and_self; repeat' (first | refine zW ?_ | apply a_n | refine zO ?_ | refine vZ ?_ | fail)) <;> (try clear zz)
 refine be (X:=Nat × Nat × List α) (fun x=>[(0,.msl b n 1 0 n),(1,.int .i64 a),(2,.int .i64 e),(3,.func g caps),(9,.int .i64 (x.2.1:Nat)),(10,.int .i64 (x.1:Nat))]) (fun x H' nxx=>x.1 ≤ 5∧a + 1 ≤ x.2.1∧x.2.1 ≤ e∧H'=an H b (x.2.2.map f)∧nx=nxx∧PermR a e L x.2.2∧aP K a x.2.1 x.2.2) (fun x=>5 - x.1) (0,a + 1,L) ⟨by dsimp only; omega,Nat.le_refl _,hae,dt hH,rfl,.refl,aP.one (Nat.le_refl _)⟩ ag0 ?_
 rintro ⟨jj,i0,M0⟩ H' nxx ⟨h1,h2,h3,rfl,rfl,hp0,hs0⟩
 dsimp only at *
 by_cases h5:jj=5
 ·subst h5
  (have zz:=and_self; repeat' (first | refine zW ?_ | apply a_n | apply a_x | refine zO ?_ | refine vZ ?_ | (refine zGZ ?_ ?_ <;> (intro _hg; try (exfalso; omega))) | refine ae rfl ?_ | refine r1Z ?_ | fail)) <;> (try clear zz)
  exact ⟨rfl,M0,false,rfl,rfl,hp0,fun h=>absurd h (by decide)⟩
 have hl:M0.length=n:=by rw [hp0.len,hn]
 have hGM:=hp0.mem hG
 refine aS (fun T H'' nx''=>T 0=.msl b n 1 0 n∧T 1=.int .i64 a∧T 2=.int .i64 e∧T 3=.func g caps∧T 9=.int .i64 (i0:Nat)∧T 10=.int .i64 (jj:Nat)∧H''=an H b ((M0).map f)∧nx=nx'') ?_ ?_
 ·(have zz:=and_self; repeat' (first | refine zW ?_ | apply a_n | refine zO ?_ | refine vZ ?_ | (refine zGZ ?_ ?_ <;> (intro _hg; try (exfalso; omega))) | fail)) <;> (try clear zz)
  exact ⟨rfl,rfl,rfl,rfl,rfl,rfl,rfl,rfl⟩
 rintro T _ _ ⟨t0,t1,t2,t3,t9,t10,rfl,rfl⟩
 refine aS (fun T H'' nx''=>∃ (i:Nat) (M:List α),a + 1 ≤ i∧i ≤ e∧PermR a e L M∧aP K a i M∧T 0=.msl b n 1 0 n∧T 1=.int .i64 a∧T 2=.int .i64 e∧T 3=.func g caps∧T 9=.int .i64 (i:Nat)∧T 10=.int .i64 (jj:Nat)∧H''=an H b ((M).map f)∧nx=nx'') ?_ ?_
 rotate_left
 ·clear t0 t1 t2 t3 t9 t10
  rintro T _ _ ⟨i,M,k1,k2,hp,hs,t0,t1,t2,t3,t9,t10,rfl,rfl⟩
  (have zz:=aI @t0 (aI @t1 (aI @t2 (aI @t3 (aI @t9 @t10)))); repeat' (first | apply a_n | refine zO ?_ | refine vZ ?_ | fail)) <;> (try clear zz)
  exact ⟨(jj + 1,i,M),by dsimp only; omega,⟨by dsimp only; omega,k1,k2,rfl,rfl,hp,hs⟩,(have zz:=aI @t0 (aI @t1 (aI @t2 (aI @t3 (aI @t9 @t10)))); agZ)⟩
 refine cU ?_
 refine aS (fun T H'' nx''=>∃ (i:Nat),a + 1 ≤ i∧i ≤ e∧aP K a i M0∧(i < e→K (M0.getD i default) (M0.getD (i - 1) default) < 0)∧T 0=.msl b n 1 0 n∧T 1=.int .i64 a∧T 2=.int .i64 e∧T 3=.func g caps∧T 9=.int .i64 (i:Nat)∧T 10=.int .i64 (jj:Nat)∧H''=an H b ((M0).map f)∧nx=nx'') ?_ ?_
 ·(have zz:=aI @t0 (aI @t1 (aI @t2 (aI @t3 (aI @t9 @t10)))); repeat' (first | refine zW ?_ | apply a_n | refine zO ?_ | fail)) <;> (try clear zz)
  refine be (X:=Nat) (fun i=>[(0,.msl b n 1 0 n),(1,.int .i64 a),(2,.int .i64 e),(3,.func g caps),(9,.int .i64 (i:Nat)),(10,.int .i64 (jj:Nat))]) (fun i H' nxx=>a + 1 ≤ i∧i ≤ e∧H'=an H b (M0.map f)∧nx=nxx∧aP K a i M0) (fun i=>e - i) i0 ⟨h2,h3,rfl,rfl,hs0⟩ (have zz:=aI @t0 (aI @t1 (aI @t2 (aI @t3 (aI @t9 @t10)))); agZ) ?_
  clear hs0 h2 h3
  rintro i H' nxx ⟨h2,h3,rfl,rfl,hs⟩
  by_cases hie:i=e
  ·subst hie
   (have zz:=and_self; repeat' (first | refine zW ?_ | refine zM ?_ | apply a_n | apply a_x | refine zO ?_ | refine vZ ?_ | refine gFZ ?_ | (refine zGZ ?_ ?_ <;> (intro _hg; try (exfalso; omega))) | refine cFZ ?_ | fail)) <;> (try clear zz)
   exact ⟨i,h2,h3,hs,fun h=>absurd h (Nat.lt_irrefl _),rfl,rfl,rfl,rfl,rfl,rfl,rfl,rfl⟩
  obtain ⟨m,rfl⟩:∃ m,i=m + 1:=⟨i - 1,by omega⟩
  have tj:((m + 1:Nat):Int) - 1=(m:Int):=by omega
  have lc:=hc.run (M0.getD (m + 1) default) (M0.getD m default) (hGM _ (ai (by omega))) (hGM _ (ai (by omega)))
  have e1:=hc.dat (M0.getD (m + 1) default)
  have e2:=hc.dat (M0.getD m default)
  generalize hKK:K (M0.getD (m + 1) default) (M0.getD m default)=kk at lc
  by_cases hlt:kk < 0
  ·(have zz:=aI @tj (aI @Int.toNat_natCast (aI hc.cells hc.one)); repeat' (first | refine zW ?_ | refine zM ?_ | apply a_n | apply a_x | refine zO ?_ | refine vZ ?_ | refine cZ ?_ (hp:=lc) (hs:=by (first | refine ah ?_ rfl | apply ap); (repeat' (first | exact af | apply aC | apply aq | exact e1 | exact e2 | exact ao dcap)); first | done | fail) | refine gTZ ?_ | (refine zGZ ?_ ?_ <;> (intro _hg; try (exfalso; omega))) | fail)) <;> (try clear zz)
   exact ⟨m + 1,h2,h3,hs,fun _=>by rw [Nat.add_sub_cancel,hKK]; exact hlt,rfl,rfl,rfl,rfl,rfl,rfl,rfl,rfl⟩
  ·(have zz:=aI @tj (aI @Int.toNat_natCast (aI hc.cells hc.one)); repeat' (first | refine zW ?_ | refine zM ?_ | apply a_n | refine zO ?_ | refine vZ ?_ | refine cZ ?_ (hp:=lc) (hs:=by (first | refine ah ?_ rfl | apply ap); (repeat' (first | exact af | apply aC | apply aq | exact e1 | exact e2 | exact ao dcap)); first | done | fail) | refine gTZ ?_ | (refine zGZ ?_ ?_ <;> (intro _hg; try (exfalso; omega))) | fail)) <;> (try clear zz)
   exact ⟨m + 1 + 1,by omega,⟨by omega,by omega,rfl,rfl,hs.snoc hc.ord (by omega) (by rw [Nat.add_sub_cancel,hKK]; exact hlt)⟩,ag0⟩
 clear t0 t1 t2 t3 t9 t10 hs0 h2 h3
 rintro T _ _ ⟨i,h2,h3,hs,hless,t0,t1,t2,t3,t9,t10,rfl,rfl⟩
 by_cases hie:i=e
 ·subst hie
  have ten:decide ((i:Int)=(i:Int))=true:=decide_eq_true rfl
  (have zz:=aI @t0 (aI @t1 (aI @t2 (aI @t3 (aI @t9 (aI @t10 @ten))))); repeat' (first | refine zW ?_ | apply a_n | apply a_r | refine zO ?_ | refine vZ ?_ | (refine zGZ ?_ ?_ <;> (intro _hg; try (exfalso; omega))) | refine ae rfl ?_ | refine r1Z ?_ | fail)) <;> (try clear zz)
  exact ⟨rfl,M0,true,rfl,rfl,hp0,fun _=>hs⟩
 replace hless:=hless (by omega)
 have ten:decide ((i:Int)=(e:Int))=false:=decide_eq_false (by omega)
 refine aS (fun T H'' nx''=>T 0=.msl b n 1 0 n∧T 1=.int .i64 a∧T 2=.int .i64 e∧T 3=.func g caps∧T 9=.int .i64 (i:Nat)∧T 10=.int .i64 (jj:Nat)∧H''=an H b ((M0).map f)∧nx=nx'') ?_ ?_
 ·(have zz:=aI @t0 (aI @t1 (aI @t2 (aI @t3 (aI @t9 (aI @t10 @ten))))); repeat' (first | refine zW ?_ | apply a_n | refine zO ?_ | refine vZ ?_ | refine cFZ ?_ | fail)) <;> (try clear zz)
  exact ⟨(have zz:=@t0; evZ),(have zz:=@t1; evZ),(have zz:=@t2; evZ),(have zz:=@t3; evZ),(have zz:=@t9; evZ),(have zz:=@t10; evZ),rfl,rfl⟩
 clear t0 t1 t2 t3 t9 t10 ten
 rintro T _ _ ⟨t0,t1,t2,t3,t9,t10,rfl,rfl⟩
 refine aS (fun T H'' nx''=>T 0=.msl b n 1 0 n∧T 1=.int .i64 a∧T 2=.int .i64 e∧T 3=.func g caps∧T 9=.int .i64 (i:Nat)∧T 10=.int .i64 (jj:Nat)∧H''=an H b ((M0).map f)∧nx=nx'') ?_ ?_
 ·(have zz:=aI @t0 (aI @t1 (aI @t2 (aI @t3 (aI @t9 @t10)))); repeat' (first | refine zW ?_ | apply a_n | apply a_r | refine zO ?_ | refine vZ ?_ | (refine zGZ ?_ ?_ <;> (intro _hg; try (exfalso; omega))) | refine ae rfl ?_ | refine r1Z ?_ | fail)) <;> (try clear zz)
  ·exact ⟨rfl,M0,false,rfl,rfl,hp0,fun h=>absurd h (by decide)⟩
  ·exact ⟨(have zz:=@t0; evZ),(have zz:=@t1; evZ),(have zz:=@t2; evZ),(have zz:=@t3; evZ),(have zz:=@t9; evZ),(have zz:=@t10; evZ),rfl,rfl⟩
 clear t0 t1 t2 t3 t9 t10
 rintro T _ _ ⟨t0,t1,t2,t3,t9,t10,rfl,rfl⟩
 obtain ⟨m,rfl⟩:∃ m,i=m + 1:=⟨i - 1,by omega⟩
 have tj:((m + 1:Nat):Int) - 1=(m:Int):=by omega
 rw [Nat.add_sub_cancel] at hless
 obtain ⟨M1,hl1,lm1,lm2⟩:=b4 (f:=f) (M:=M0) (i:=m + 1) (j:=m) (by omega) (by omega)
 have lm3:=lm2
 simp only [bg,List.length_cons,List.length_nil,Nat.zero_add] at lm1 lm2
 refine aS (fun T H'' nx''=>T 0=.msl b n 1 0 n∧T 1=.int .i64 a∧T 2=.int .i64 e∧T 3=.func g caps∧T 9=.int .i64 (m + 1:Nat)∧T 10=.int .i64 (jj:Nat)∧H''=an H b ((swp M0 (m + 1) m).map f)∧nx=nx'') ?_ ?_
 ·(have zz:=aI @t0 (aI @t1 (aI @t2 (aI @t3 (aI @t9 (aI @t10 (aI @Int.toNat_natCast (aI hc.cells (aI hc.one (aI @tj (aI @lm1 @lm2)))))))))); repeat' (first | apply a_n | refine zO ?_ | refine vZ ?_ | refine stZ ?_ | fail)) <;> (try clear zz)
  exact ⟨(have zz:=@t0; evZ),(have zz:=@t1; evZ),(have zz:=@t2; evZ),(have zz:=@t3; evZ),(have zz:=@t9; evZ),(have zz:=@t10; evZ),by rw [am,am,lm3],rfl⟩
 clear t0 t1 t2 t3 t9 t10
 have hp1:PermR a e L (swp M0 (m + 1) m):=hp0.trans (PermR.swap (by omega) (by omega) (by omega))
 have hal:=(dl.start hs).step hc.ord (by omega) (Nat.le_refl _) (by omega) hless
 clear hs hless lm1 lm2 lm3 hl1 M1
 generalize swp M0 (m + 1) m=M2 at hp1 hal
 clear hp0 hGM hl
 rintro T _ _ ⟨t0,t1,t2,t3,t9,t10,rfl,rfl⟩
 refine aS (fun T H'' nx''=>∃ M:List α,PermR a e L M∧aP K a (m + 1) M∧T 0=.msl b n 1 0 n∧T 1=.int .i64 a∧T 2=.int .i64 e∧T 3=.func g caps∧T 9=.int .i64 (m + 1:Nat)∧T 10=.int .i64 (jj:Nat)∧H''=an H b ((M).map f)∧nx=nx'') ?_ ?_
 ·by_cases h2a:m=a
  ·subst h2a
   have td:decide ((2:Int) ≤ ((m + 1:Nat):Int) - (m:Int))=false:=decide_eq_false (by omega)
   (have zz:=aI @t0 (aI @t1 (aI @t2 (aI @t3 (aI @t9 (aI @t10 @td))))); repeat' (first | refine zW ?_ | apply a_n | refine zO ?_ | refine vZ ?_ | refine cFZ ?_ | fail)) <;> (try clear zz)
   exact ⟨M2,hp1,(hal.done hc.ord (.inl rfl)).mono (Nat.le_refl _) (by omega),(have zz:=@t0; evZ),(have zz:=@t1; evZ),(have zz:=@t2; evZ),(have zz:=@t3; evZ),(have zz:=@t9; evZ),(have zz:=@t10; evZ),rfl,rfl⟩
  have td:decide ((2:Int) ≤ ((m + 1:Nat):Int) - (a:Int))=true:=decide_eq_true (by omega)
  (have zz:=aI @t0 (aI @t1 (aI @t2 (aI @t3 (aI @t9 (aI @t10 (aI @td @tj)))))); repeat' (first | refine zW ?_ | apply a_n | refine zO ?_ | refine vZ ?_ | refine cTZ ?_ | fail)) <;> (try clear zz)
  refine be (X:=Nat × List α) (fun x=>[(0,.msl b n 1 0 n),(1,.int .i64 a),(2,.int .i64 e),(3,.func g caps),(9,.int .i64 (m + 1:Nat)),(10,.int .i64 (jj:Nat)),(11,.int .i64 (x.1:Nat))]) (fun x H' nxx=>a ≤ x.1∧x.1 ≤ m∧H'=an H b (x.2.map f)∧nx=nxx∧PermR a e L x.2∧dl K a (m + 1) x.1 x.2) (fun x=>x.1) (m,M2) ⟨by dsimp only; omega,Nat.le_refl _,rfl,rfl,hp1,hal⟩ (have zz:=aI @t0 (aI @t1 (aI @t2 (aI @t3 (aI @t9 @t10)))); agZ) ?_
  clear t0 t1 t2 t3 t9 t10 hp1 hal M2
  rintro ⟨j,M⟩ H' nxx ⟨a1,a2,rfl,rfl,hp,hal⟩
  dsimp only at *
  have hl:M.length=n:=by rw [hp.len,hn]
  have hGM:=hp.mem hG
  rcases Nat.eq_zero_or_pos j with ej | ej
  ·subst ej
   (have zz:=and_self; repeat' (first | refine zW ?_ | apply a_n | apply a_x | refine zO ?_ | refine vZ ?_ | (refine zGZ ?_ ?_ <;> (intro _hg; try (exfalso; omega))) | fail)) <;> (try clear zz)
   exact ⟨M,hp,(hal.done hc.ord (.inl (by omega))).mono (Nat.le_refl _) (by omega),rfl,rfl,rfl,rfl,rfl,rfl,rfl,rfl⟩
  obtain ⟨k,rfl⟩:∃ k,j=k + 1:=⟨j - 1,by omega⟩
  have tk:((k + 1:Nat):Int) - 1=(k:Int):=by omega
  have lc:=hc.run (M.getD (k + 1) default) (M.getD k default) (hGM _ (ai (by omega))) (hGM _ (ai (by omega)))
  have e1:=hc.dat (M.getD (k + 1) default)
  have e2:=hc.dat (M.getD k default)
  have hlw:=hlow.perm hp (by omega) (by omega)
  generalize hKK:K (M.getD (k + 1) default) (M.getD k default)=kk at lc
  by_cases hlt:kk < 0
  ·have hak:k + 1 ≠ a:=fun h=>by
     subst h
     have:=hlw (k + 1) (by omega) (Nat.le_refl _) (by omega)
     rw [Nat.add_sub_cancel,hKK] at this
     exact this hlt
   obtain ⟨M1,hl1,lm1,lm2⟩:=b4 (f:=f) (M:=M) (i:=k + 1) (j:=k) (by omega) (by omega)
   have lm3:=lm2
   simp only [bg,List.length_cons,List.length_nil,Nat.zero_add] at lm1 lm2
   (have zz:=aI @tk (aI @Int.toNat_natCast (aI hc.cells (aI hc.one (aI @lm1 @lm2)))); repeat' (first | refine zW ?_ | refine zM ?_ | apply a_n | refine zO ?_ | refine vZ ?_ | refine cZ ?_ (hp:=lc) (hs:=by (first | refine ah ?_ rfl | apply ap); (repeat' (first | exact af | apply aC | apply aq | exact e1 | exact e2 | exact ao dcap)); first | done | fail) | refine stZ ?_ | (refine zGZ ?_ ?_ <;> (intro _hg; try (exfalso; omega))) | fail)) <;> (try clear zz)
   exact ⟨(k,swp M (k + 1) k),by dsimp only; omega,⟨by dsimp only; omega,by dsimp only; omega,by dsimp only; rw [am,am,lm3],rfl,hp.trans (PermR.swap (by omega) (by omega) (by omega)),hal.step hc.ord (by omega) (by omega) (by omega) (by rw [hKK]; exact hlt)⟩,(have zz:=@tk; agZ)⟩
  ·have hd:k + 1=a ∨ (a < k + 1∧¬ K (M.getD (k + 1) default) (M.getD (k + 1 - 1) default) < 0):=by
     by_cases h:k + 1=a
     ·exact .inl h
     ·exact .inr ⟨by omega,by rw [Nat.add_sub_cancel,hKK]; exact hlt⟩
   (have zz:=aI @tk (aI @Int.toNat_natCast (aI hc.cells hc.one)); repeat' (first | refine zW ?_ | refine zM ?_ | apply a_n | apply a_x | refine zO ?_ | refine vZ ?_ | refine cZ ?_ (hp:=lc) (hs:=by (first | refine ah ?_ rfl | apply ap); (repeat' (first | exact af | apply aC | apply aq | exact e1 | exact e2 | exact ao dcap)); first | done | fail) | (refine zGZ ?_ ?_ <;> (intro _hg; try (exfalso; omega))) | fail)) <;> (try clear zz)
   exact ⟨M,hp,(hal.done hc.ord hd).mono (Nat.le_refl _) (by omega),rfl,rfl,rfl,rfl,rfl,rfl,rfl,rfl⟩
 clear t0 t1 t2 t3 t9 t10 hp1 hal M2
 rintro T _ _ ⟨M2,hp1,hs,t0,t1,t2,t3,t9,t10,rfl,rfl⟩
 by_cases h2a:m + 1 + 2 ≤ e
 rotate_left
 ·have td:decide ((2:Int) ≤ (e:Int) - ((m + 1:Nat):Int))=false:=decide_eq_false (by omega)
  (have zz:=aI @t0 (aI @t1 (aI @t2 (aI @t3 (aI @t9 (aI @t10 @td))))); repeat' (first | refine zW ?_ | apply a_n | refine zO ?_ | refine vZ ?_ | refine cFZ ?_ | fail)) <;> (try clear zz)
  exact ⟨m + 1,M2,h2,h3,hp1,hs,(have zz:=@t0; evZ),(have zz:=@t1; evZ),(have zz:=@t2; evZ),(have zz:=@t3; evZ),(have zz:=@t9; evZ),(have zz:=@t10; evZ),rfl,rfl⟩
 have td:decide ((2:Int) ≤ (e:Int) - ((m + 1:Nat):Int))=true:=decide_eq_true (by omega)
 have tj2:((m + 1:Nat):Int) + 1=((m + 1 + 1:Nat):Int):=by omega
 (have zz:=aI @t0 (aI @t1 (aI @t2 (aI @t3 (aI @t9 (aI @t10 (aI @td @tj2)))))); repeat' (first | refine zW ?_ | apply a_n | refine zO ?_ | refine vZ ?_ | refine cTZ ?_ | fail)) <;> (try clear zz)
 refine be (X:=Nat × List α) (fun x=>[(0,.msl b n 1 0 n),(1,.int .i64 a),(2,.int .i64 e),(3,.func g caps),(9,.int .i64 (m + 1:Nat)),(10,.int .i64 (jj:Nat)),(12,.int .i64 (x.1:Nat))]) (fun x H' nxx=>m + 1 + 1 ≤ x.1∧x.1 ≤ e∧H'=an H b (x.2.map f)∧nx=nxx∧PermR a e L x.2∧aP K a (m + 1) x.2) (fun x=>e - x.1) (m + 1 + 1,M2) ⟨Nat.le_refl _,by dsimp only; omega,rfl,rfl,hp1,hs⟩ (have zz:=aI @t0 (aI @t1 (aI @t2 (aI @t3 (aI @t9 @t10)))); agZ) ?_
 clear t0 t1 t2 t3 t9 t10 hp1 hs M2
 rintro ⟨j,M⟩ H' nxx ⟨a1,a2,rfl,rfl,hp,hs⟩
 dsimp only at *
 have hl:M.length=n:=by rw [hp.len,hn]
 have hGM:=hp.mem hG
 by_cases hje:j=e
 ·subst hje
  (have zz:=and_self; repeat' (first | refine zW ?_ | apply a_n | apply a_x | refine zO ?_ | refine vZ ?_ | (refine zGZ ?_ ?_ <;> (intro _hg; try (exfalso; omega))) | fail)) <;> (try clear zz)
  exact ⟨m + 1,M,h2,h3,hp,hs,rfl,rfl,rfl,rfl,rfl,rfl,rfl,rfl⟩
 obtain ⟨k,rfl⟩:∃ k,j=k + 1:=⟨j - 1,by omega⟩
 have tk:((k + 1:Nat):Int) - 1=(k:Int):=by omega
 have lc:=hc.run (M.getD (k + 1) default) (M.getD k default) (hGM _ (ai (by omega))) (hGM _ (ai (by omega)))
 have e1:=hc.dat (M.getD (k + 1) default)
 have e2:=hc.dat (M.getD k default)
 generalize hKK:K (M.getD (k + 1) default) (M.getD k default)=kk at lc
 by_cases hlt:kk < 0
 ·obtain ⟨M1,hl1,lm1,lm2⟩:=b4 (f:=f) (M:=M) (i:=k + 1) (j:=k) (by omega) (by omega)
  have lm3:=lm2
  simp only [bg,List.length_cons,List.length_nil,Nat.zero_add] at lm1 lm2
  (have zz:=aI @tk (aI @Int.toNat_natCast (aI hc.cells (aI hc.one (aI @lm1 @lm2)))); repeat' (first | refine zW ?_ | refine zM ?_ | apply a_n | refine zO ?_ | refine vZ ?_ | refine cZ ?_ (hp:=lc) (hs:=by (first | refine ah ?_ rfl | apply ap); (repeat' (first | exact af | apply aC | apply aq | exact e1 | exact e2 | exact ao dcap)); first | done | fail) | refine stZ ?_ | (refine zGZ ?_ ?_ <;> (intro _hg; try (exfalso; omega))) | fail)) <;> (try clear zz)
  exact ⟨(k + 1 + 1,swp M (k + 1) k),by dsimp only; omega,⟨by dsimp only; omega,by dsimp only; omega,by dsimp only; rw [am,am,lm3],rfl,hp.trans (PermR.swap (by omega) (by omega) (by omega)),hs.out (e:=e) (PermR.swap (by omega) (by omega) (by omega))⟩,ag0⟩
 ·(have zz:=aI @tk (aI @Int.toNat_natCast (aI hc.cells hc.one)); repeat' (first | refine zW ?_ | refine zM ?_ | apply a_n | apply a_x | refine zO ?_ | refine vZ ?_ | refine cZ ?_ (hp:=lc) (hs:=by (first | refine ah ?_ rfl | apply ap); (repeat' (first | exact af | apply aC | apply aq | exact e1 | exact e2 | exact ao dcap)); first | done | fail) | (refine zGZ ?_ ?_ <;> (intro _hg; try (exfalso; omega))) | fail)) <;> (try clear zz)
  exact ⟨m + 1,M,h2,h3,hp,hs,rfl,rfl,rfl,rfl,rfl,rfl,rfl,rfl⟩
end
end Go.Proofs.YtjgpfclngkcedaaGreat
namespace Go.Proofs.YtjgpfclngkcedaaGreat
open Go Go.Abs
structure PartR {α:Type} [Inhabited α] (P:α→Prop) (a e mu i j:Nat) (M:List α):Prop where
 lo:a + 1 ≤ i
 mid:i ≤ j + 1
 hi:j < e
 mu:j + 1 - i ≤ mu
 up:∀ p,a + 1 ≤ p→p < i→P (M.getD p default)
 dn:∀ q,j < q→q < e→¬ P (M.getD q default)
section
variable {α:Type} [Inhabited α] {f:α→AV} {K:α→α→Int} {G:α→Prop} {g:Nat} {caps:List AV}
theorem PartR.start {P:α→Prop} {a m:Nat} {M:List α} (h:a ≤ m):PartR P a (m + 1) (m + 1 - (a + 1)) (a + 1) m M:=⟨Nat.le_refl _,by omega,by omega,Nat.le_refl _,fun p h1 h2=>by omega,fun q h1 h2=>by omega⟩
theorem PartR.stepUp {P:α→Prop} {a e mu i j:Nat} {M:List α} (h:PartR P a e mu i j M) (hij:i ≤ j) (hp:P (M.getD i default)):PartR P a e mu (i + 1) j M :=
 ⟨by have:=h.lo; omega,by omega,h.hi,by have:=h.mu; omega,fun p h1 h2=>by
  by_cases e:p=i
  ·rw [e]; exact hp
  ·exact h.up p h1 (by omega),h.dn⟩
theorem PartR.stepDn {P:α→Prop} {a e mu i k:Nat} {M:List α} (h:PartR P a e mu i (k + 1) M) (hij:i ≤ k + 1) (hp:¬ P (M.getD (k + 1) default)):PartR P a e mu i k M :=
 ⟨h.lo,hij,by have:=h.hi; omega,by have:=h.mu; omega,h.up,fun q h1 h2=>by
  by_cases e:q=k + 1
  ·rw [e]; exact hp
  ·exact h.dn q (by omega) h2⟩
theorem PartR.swap {P:α→Prop} {a e mu i k:Nat} {M:List α} (h:PartR P a e mu i (k + 1) M) (hM:e ≤ M.length) (hij:i ≤ k + 1) (hi:¬ P (M.getD i default)) (hj:P (M.getD (k + 1) default)):PartR P a e (k + 1 - (i + 1)) (i + 1) k (swp M i (k + 1))∧k + 1 - (i + 1) < mu:=by
 have hne:i ≠ k + 1:=fun e=>hi (by rw [e]; exact hj)
 have hh:=h.hi
 have hlo:=h.lo
 have hmu:=h.mu
 refine ⟨⟨by omega,by omega,by omega,Nat.le_refl _,fun p h1 h2=>?_,fun q h1 h2=>?_⟩,by omega⟩
 ·rw [cf (by omega) (by omega),if_neg (by omega)]
  by_cases e:p=i
  ·rw [if_pos e]; exact hj
  ·rw [if_neg e]; exact h.up p h1 (by omega)
 ·rw [cf (by omega) (by omega)]
  by_cases e:q=k + 1
  ·rw [if_pos e]; exact hi
  ·rw [if_neg e,if_neg (by omega)]; exact h.dn q (by omega) h2
theorem f8 {M:List α} {i j k:Nat} (hi:i < M.length) (hj:j < M.length) (h1:k ≠ i) (h2:k ≠ j):(swp M i j).getD k default=M.getD k default:=by
 rw [cf hi hj,if_neg h2,if_neg h1]
attribute [local irreducible] aA ag aU aO aE aH ay aJ aQ aZ Go.Abs.Fn aL Go.Abs.Pure ak aB Yl
theorem PartR.done {P:α→Prop} {a e mu i j:Nat} {M:List α} {v:α} (hK:Ord K) (h:PartR P a e mu i j M) (hM:e ≤ M.length) (hji:j < i) (hv:M.getD a default=v) (hP:∀ x,P x ↔ K x v < 0):a ≤ j∧j < e∧(∀ p,a ≤ p→p < j→K ((swp M j a).getD p default) ((swp M j a).getD j default) < 0)∧(∀ q,j < q→q < e→¬ K ((swp M j a).getD q default) ((swp M j a).getD j default) < 0):=by
 have hlo:=h.lo; have hmid:=h.mid; have hhi:=h.hi
 have ej:(swp M j a).getD j default=v:=by
  rw [cf (by omega) (by omega)]
  split
  ·rename_i e; rw [e,hv]
  ·rw [if_pos rfl,hv]
 rw [ej]
 refine ⟨by omega,by omega,fun p h1 h2=>?_,fun q h1 h2=>?_⟩
 ·rw [cf (by omega) (by omega)]
  by_cases e:p=a
  ·rw [if_pos e]; exact (hP _).1 (h.up j (by omega) hji)
  ·rw [if_neg e,if_neg (by omega)]; exact (hP _).1 (h.up p (by omega) (by omega))
 ·rw [cf (by omega) (by omega),if_neg (by omega),if_neg (by omega),← hP]; exact h.dn q h1 h2
theorem wx (hc:Cmp Tryz.prog f K G g caps) {L:List α} {H:Hp} {b nx n a e pv:Nat} (hH:H b=some (L.map f)) (hn:L.length=n) (hG:∀ x ∈ L,G x) (hae:a < e) (hen:e ≤ n) (hn2:n ≤ 1000000000) (hpv:a ≤ pv∧pv < e) :
    Abs.Fn Tryz.prog 155 [.msl b n 1 0 n,.int .i64 a,.int .i64 e,.int .i64 pv,.func g caps] H nx fun r H' nx'=>nx'=nx∧∃ (L':List α) (m:Nat),r=.int .i64 m∧a < m∧m ≤ e∧H'=an H b (L'.map f)∧PermR a e L L'∧(∀ p,a ≤ p→p < m→¬ K (L.getD pv default) (L'.getD p default) < 0)∧(∀ q,m ≤ q→q < e→K (L.getD pv default) (L'.getD q default) < 0):=by
 have dcap:=hc.dcaps
 obtain ⟨v,hv0⟩:∃ v,L.getD pv default=v:=⟨_,rfl⟩
 rw [hv0]
 obtain ⟨P,hP⟩:∃ P:α→Prop,∀ x,P x ↔ ¬ K v x < 0:=⟨_,fun _=>Iff.rfl⟩
 obtain ⟨N,hN⟩:∃ N,swp L a pv=N:=⟨_,rfl⟩
 have hp1:PermR a e L N:=hN ▸ PermR.swap (by omega) (by omega) (by omega)
 have hv1:N.getD a default=v:=by
  rw [← hN,cf (by omega) (by omega),← hv0]
  split
  ·rename_i h; rw [h]
  ·rw [if_pos rfl]
 obtain ⟨M1,hl1,lm1,lm2⟩:=b4 (f:=f) (M:=L) (i:=a) (j:=pv) (by omega) (by omega)
 rw [hN] at lm2
 have lm3:=lm2
 simp only [bg,List.length_cons,List.length_nil,Nat.zero_add] at lm1 lm2
 obtain ⟨m,hm⟩:∃ m,e=m + 1:=⟨e - 1,by omega⟩
 have te:(e:Int) - 1=(m:Int):=by omega
 have ta:((a:Nat):Int) + 1=((a + 1:Nat):Int):=by omega
 refine Abs.Fn.of_c2 follows yB (Nat.le_of_ble_eq_true rfl) ?_
 simp only [zQ,cO,cG,cN,cM,cD,cF,cB,av,aF]
 (have zz:=aI @hH (aI @te (aI @ta (aI @Int.toNat_natCast (aI hc.cells (aI hc.one (aI @lm1 @lm2)))))); repeat' (first | refine zW ?_ | apply a_n | refine zO ?_ | refine vZ ?_ | refine stZ ?_ | fail)) <;> (try clear zz)
 refine be (X:=Nat × Nat × List α) (fun x=>[(0,.msl b n 1 0 n),(1,.int .i64 a),(4,.func g caps),(11,.int .i64 (x.1:Nat)),(12,.int .i64 (x.2.1:Nat))]) (fun x H' nxx=>PartR P a e (x.2.1 + 1 - x.1) x.1 x.2.1 x.2.2∧H'=an H b (x.2.2.map f)∧nx=nxx∧PermR a e L x.2.2∧x.2.2.getD a default=v) (fun x=>x.2.1 + 1 - x.1) (a + 1,m,N) ⟨by dsimp only; rw [hm]; exact .start (by omega),by dsimp only; rw [am,lm3],rfl,hp1,hv1⟩ ag0 ?_
 clear lm1 lm2 lm3 hl1 M1 hp1 hv1 hN N te ta hm m
 rintro ⟨i,j,M⟩ H' nxx ⟨hpt,rfl,rfl,hp,hv⟩
 dsimp only at *
 have hl:M.length=n:=by rw [hp.len,hn]
 have hGM:=hp.mem hG
 generalize hmu:j + 1 - i=mu at hpt ⊢
 clear hmu
 obtain ⟨T,hT,t0,t1,t4,t11,t12⟩:∃ T,tl [(0,.msl b n 1 0 n),(1,.int .i64 a),(4,.func g caps),(11,.int .i64 (i:Nat)),(12,.int .i64 (j:Nat))]=T∧T 0=.msl b n 1 0 n∧T 1=.int .i64 a∧T 4=.func g caps∧T 11=.int .i64 (i:Nat)∧T 12=.int .i64 (j:Nat):=⟨_,rfl,rfl,rfl,rfl,rfl,rfl⟩
 rw [hT]
 clear hT
 refine cU ?_
 refine aS (fun T H'' nx''=>∃ i:Nat,PartR P a e mu i j M∧(i ≤ j→¬ P (M.getD i default))∧T 0=.msl b n 1 0 n∧T 1=.int .i64 a∧T 4=.func g caps∧T 11=.int .i64 (i:Nat)∧T 12=.int .i64 (j:Nat)∧H''=an H b ((M).map f)∧nx=nx'') ?_ ?_
 ·(have zz:=aI @t0 (aI @t1 (aI @t4 (aI @t11 @t12))); repeat' (first | refine zW ?_ | apply a_n | refine zO ?_ | fail)) <;> (try clear zz)
  refine be (X:=Nat) (fun i=>[(0,.msl b n 1 0 n),(1,.int .i64 a),(4,.func g caps),(11,.int .i64 (i:Nat)),(12,.int .i64 (j:Nat))]) (fun i H' nxx=>PartR P a e mu i j M∧H'=an H b (M.map f)∧nx=nxx) (fun i=>j + 1 - i) i ⟨hpt,rfl,rfl⟩ (have zz:=aI @t0 (aI @t1 (aI @t4 (aI @t11 @t12))); agZ) ?_
  clear t0 t1 t4 t11 t12 hpt i
  rintro i H' nxx ⟨hpt,rfl,rfl⟩
  have hlo:=hpt.lo; have hmid:=hpt.mid; have hhi:=hpt.hi
  have ii:((i:Nat):Int) + 1=((i + 1:Nat):Int):=by omega
  by_cases hij:j < i
  ·(have zz:=and_self; repeat' (first | refine zW ?_ | refine zM ?_ | apply a_n | apply a_x | refine zO ?_ | refine vZ ?_ | refine gFZ ?_ | (refine zGZ ?_ ?_ <;> (intro _hg; try (exfalso; omega))) | refine cFZ ?_ | fail)) <;> (try clear zz)
   exact ⟨i,hpt,fun h=>absurd h (by omega),rfl,rfl,rfl,rfl,rfl,rfl,rfl⟩
  have lc:=hc.run (M.getD (a) default) (M.getD (i) default) (hGM _ (ai (by omega))) (hGM _ (ai (by omega)))
  have e1:=hc.dat (M.getD (a) default)
  have e2:=hc.dat (M.getD (i) default)
  have hPk:P (M.getD (i) default) ↔ ¬ K (M.getD (a) default) (M.getD (i) default) < 0:=by rw [hP,hv]
  generalize hKK:K (M.getD (a) default) (M.getD (i) default)=kk at lc hPk
  by_cases hlt:kk < 0
  ·(have zz:=aI @ii (aI @Int.toNat_natCast (aI hc.cells hc.one)); repeat' (first | refine zW ?_ | refine zM ?_ | apply a_n | apply a_x | refine zO ?_ | refine vZ ?_ | refine cZ ?_ (hp:=lc) (hs:=by (first | refine ah ?_ rfl | apply ap); (repeat' (first | exact af | apply aC | apply aq | exact e1 | exact e2 | exact ao dcap)); first | done | fail) | refine gTZ ?_ | (refine zGZ ?_ ?_ <;> (intro _hg; try (exfalso; omega))) | fail)) <;> (try clear zz)
   exact ⟨i,hpt,fun _=>(by rw [hPk]; first | exact hlt | exact fun h=>h hlt),rfl,rfl,rfl,rfl,rfl,rfl,rfl⟩
  ·(have zz:=aI @ii (aI @Int.toNat_natCast (aI hc.cells hc.one)); repeat' (first | refine zW ?_ | refine zM ?_ | apply a_n | refine zO ?_ | refine vZ ?_ | refine cZ ?_ (hp:=lc) (hs:=by (first | refine ah ?_ rfl | apply ap); (repeat' (first | exact af | apply aC | apply aq | exact e1 | exact e2 | exact ao dcap)); first | done | fail) | refine gTZ ?_ | (refine zGZ ?_ ?_ <;> (intro _hg; try (exfalso; omega))) | fail)) <;> (try clear zz)
   exact ⟨i + 1,by omega,⟨hpt.stepUp (by omega) (by rw [hPk]; exact hlt),rfl,rfl⟩,ag0⟩
 clear t0 t1 t4 t11 t12 hpt i
 rintro T _ _ ⟨i,hpt,hni,t0,t1,t4,t11,t12,rfl,rfl⟩
 refine aS (fun T H'' nx''=>∃ j:Nat,PartR P a e mu i j M∧(i ≤ j→¬ P (M.getD i default))∧(i ≤ j→P (M.getD j default))∧T 0=.msl b n 1 0 n∧T 1=.int .i64 a∧T 4=.func g caps∧T 11=.int .i64 (i:Nat)∧T 12=.int .i64 (j:Nat)∧H''=an H b ((M).map f)∧nx=nx'') ?_ ?_
 ·(have zz:=aI @t0 (aI @t1 (aI @t4 (aI @t11 @t12))); repeat' (first | refine zW ?_ | apply a_n | refine zO ?_ | fail)) <;> (try clear zz)
  refine be (X:=Nat) (fun j=>[(0,.msl b n 1 0 n),(1,.int .i64 a),(4,.func g caps),(11,.int .i64 (i:Nat)),(12,.int .i64 (j:Nat))]) (fun j H' nxx=>PartR P a e mu i j M∧(i ≤ j→¬ P (M.getD i default))∧H'=an H b (M.map f)∧nx=nxx) (fun j=>j) j ⟨hpt,hni,rfl,rfl⟩ (have zz:=aI @t0 (aI @t1 (aI @t4 (aI @t11 @t12))); agZ) ?_
  clear t0 t1 t4 t11 t12 hpt hni j
  rintro j H' nxx ⟨hpt,hni,rfl,rfl⟩
  have hlo:=hpt.lo; have hmid:=hpt.mid; have hhi:=hpt.hi
  by_cases hij:j < i
  ·(have zz:=and_self; repeat' (first | refine zW ?_ | refine zM ?_ | apply a_n | apply a_x | refine zO ?_ | refine vZ ?_ | refine gFZ ?_ | (refine zGZ ?_ ?_ <;> (intro _hg; try (exfalso; omega))) | refine cFZ ?_ | fail)) <;> (try clear zz)
   exact ⟨j,hpt,hni,fun h=>absurd h (by omega),rfl,rfl,rfl,rfl,rfl,rfl,rfl⟩
  obtain ⟨k,rfl⟩:∃ k,j=k + 1:=⟨j - 1,by omega⟩
  have tk:((k + 1:Nat):Int) - 1=(k:Int):=by omega
  have lc:=hc.run (M.getD (a) default) (M.getD (k + 1) default) (hGM _ (ai (by omega))) (hGM _ (ai (by omega)))
  have e1:=hc.dat (M.getD (a) default)
  have e2:=hc.dat (M.getD (k + 1) default)
  have hPk:P (M.getD (k + 1) default) ↔ ¬ K (M.getD (a) default) (M.getD (k + 1) default) < 0:=by rw [hP,hv]
  generalize hKK:K (M.getD (a) default) (M.getD (k + 1) default)=kk at lc hPk
  by_cases hlt:kk < 0
  ·(have zz:=aI @tk (aI @Int.toNat_natCast (aI hc.cells hc.one)); repeat' (first | refine zW ?_ | refine zM ?_ | apply a_n | refine zO ?_ | refine vZ ?_ | refine cZ ?_ (hp:=lc) (hs:=by (first | refine ah ?_ rfl | apply ap); (repeat' (first | exact af | apply aC | apply aq | exact e1 | exact e2 | exact ao dcap)); first | done | fail) | refine gTZ ?_ | (refine zGZ ?_ ?_ <;> (intro _hg; try (exfalso; omega))) | fail)) <;> (try clear zz)
   exact ⟨k,by omega,⟨hpt.stepDn (by omega) (by rw [hPk]; first | exact hlt | exact fun h=>h hlt),fun _=>hni (by omega),rfl,rfl⟩,ag0⟩
  ·(have zz:=aI @tk (aI @Int.toNat_natCast (aI hc.cells hc.one)); repeat' (first | refine zW ?_ | refine zM ?_ | apply a_n | apply a_x | refine zO ?_ | refine vZ ?_ | refine cZ ?_ (hp:=lc) (hs:=by (first | refine ah ?_ rfl | apply ap); (repeat' (first | exact af | apply aC | apply aq | exact e1 | exact e2 | exact ao dcap)); first | done | fail) | refine gTZ ?_ | (refine zGZ ?_ ?_ <;> (intro _hg; try (exfalso; omega))) | fail)) <;> (try clear zz)
   exact ⟨k + 1,hpt,hni,fun _=>(by rw [hPk]; exact hlt),rfl,rfl,rfl,rfl,rfl,rfl,rfl⟩
 clear t0 t1 t4 t11 t12 hpt hni j
 rintro T _ _ ⟨j,hpt,hni,hnj,t0,t1,t4,t11,t12,rfl,rfl⟩
 have hlo:=hpt.lo; have hmid:=hpt.mid; have hhi:=hpt.hi
 by_cases hji:j < i
 ·(have zz:=aI @t0 (aI @t1 (aI @t4 (aI @t11 @t12))); repeat' (first | refine zW ?_ | apply a_n | apply a_x | refine zO ?_ | refine vZ ?_ | (refine zGZ ?_ ?_ <;> (intro _hg; try (exfalso; omega))) | refine ae rfl ?_ | refine r1Z ?_ | fail)) <;> (try clear zz)
  refine ⟨rfl,M,i,rfl,by omega,by omega,rfl,hp,fun p h1 h2=>?_,fun q h1 h2=>by have:=hpt.dn q (by omega) h2; rw [hP] at this; exact Decidable.of_not_not this⟩
  by_cases ep:p=a
  ·rw [ep,hv]; exact hc.ord.irr _
  ·exact (hP _).1 (hpt.up p (by omega) h2)
 obtain ⟨k,rfl⟩:∃ k,j=k + 1:=⟨j - 1,by omega⟩
 have tk:((k + 1:Nat):Int) - 1=(k:Int):=by omega
 have ii:((i:Nat):Int) + 1=((i + 1:Nat):Int):=by omega
 obtain ⟨M1,hl1,lm1,lm2⟩:=b4 (f:=f) (M:=M) (i:=i) (j:=k + 1) (by omega) (by omega)
 have lm3:=lm2
 simp only [bg,List.length_cons,List.length_nil,Nat.zero_add] at lm1 lm2
 (have zz:=aI @t0 (aI @t1 (aI @t4 (aI @t11 (aI @t12 (aI @tk (aI @ii (aI @Int.toNat_natCast (aI hc.cells (aI hc.one (aI @lm1 @lm2)))))))))); repeat' (first | refine zW ?_ | apply a_n | refine zO ?_ | refine vZ ?_ | refine stZ ?_ | (refine zGZ ?_ ?_ <;> (intro _hg; try (exfalso; omega))) | fail)) <;> (try clear zz)
 obtain ⟨hq1,hq2⟩:=hpt.swap (by omega) (by omega) (hni (by omega)) (hnj (by omega))
 exact ⟨(i + 1,k,swp M i (k + 1)),hq2,⟨hq1,by dsimp only; rw [am,am,lm3],rfl,hp.trans (PermR.swap (by omega) (by omega) (by omega)),by dsimp only; rw [f8 (by omega) (by omega) (by omega) (by omega)]; exact hv⟩,(have zz:=aI @t0 (aI @t1 (aI @t4 (aI @t11 @t12))); agZ)⟩
theorem zY (hc:Cmp Tryz.prog f K G g caps) {L:List α} {H:Hp} {b nx n a e pv:Nat} (hH:H b=some (L.map f)) (hn:L.length=n) (hG:∀ x ∈ L,G x) (hae:a < e) (hen:e ≤ n) (hn2:n ≤ 1000000000) (hpv:a ≤ pv∧pv < e) :
    Abs.Fn Tryz.prog 156 [.msl b n 1 0 n,.int .i64 a,.int .i64 e,.int .i64 pv,.func g caps] H nx fun r H' nx'=>nx'=nx∧∃ (L':List α) (m:Nat) (t:Bool),r=.tup [.int .i64 m,.bool t]∧a ≤ m∧m < e∧H'=an H b (L'.map f)∧PermR a e L L'∧(∀ p,a ≤ p→p < m→K (L'.getD p default) (L'.getD m default) < 0)∧(∀ q,m < q→q < e→¬ K (L'.getD q default) (L'.getD m default) < 0):=by
 have dcap:=hc.dcaps
 obtain ⟨v,hv0⟩:∃ v,L.getD pv default=v:=⟨_,rfl⟩
 obtain ⟨P,hP⟩:∃ P:α→Prop,∀ x,P x ↔ K x v < 0:=⟨_,fun _=>Iff.rfl⟩
 obtain ⟨M,hN⟩:∃ N,swp L a pv=N:=⟨_,rfl⟩
 have hp:PermR a e L M:=hN ▸ PermR.swap (by omega) (by omega) (by omega)
 have hv:M.getD a default=v:=by
  rw [← hN,cf (by omega) (by omega),← hv0]
  split
  ·rename_i h; rw [h]
  ·rw [if_pos rfl]
 obtain ⟨M1,hl1,lm1,lm2⟩:=b4 (f:=f) (M:=L) (i:=a) (j:=pv) (by omega) (by omega)
 rw [hN] at lm2
 have lm3:=lm2
 simp only [bg,List.length_cons,List.length_nil,Nat.zero_add] at lm1 lm2
 obtain ⟨m,hm⟩:∃ m,e=m + 1:=⟨e - 1,by omega⟩
 have te:(e:Int) - 1=(m:Int):=by omega
 have ta:((a:Nat):Int) + 1=((a + 1:Nat):Int):=by omega
 refine Abs.Fn.of_c2 follows x3 (Nat.le_of_ble_eq_true rfl) ?_
 simp only [zF,cO,cG,cN,cM,cD,cF,cB,av,aF]
 refine aS (fun T H'' nx''=>T 0=.msl b n 1 0 n∧T 1=.int .i64 a∧T 2=.int .i64 e∧T 3=.int .i64 pv∧T 4=.func g caps∧H=H''∧nx=nx'') ?_ ?_
 ·(have zz:=and_self; repeat' (first | apply a_n | refine zO ?_ | refine vZ ?_ | fail)) <;> (try clear zz)
  exact ⟨rfl,rfl,rfl,rfl,rfl,rfl,rfl⟩
 rintro T _ _ ⟨t0,t1,t2,t3,t4,rfl,rfl⟩
 refine aS (fun T H'' nx''=>T 0=.msl b n 1 0 n∧T 1=.int .i64 a∧T 2=.int .i64 e∧T 3=.int .i64 pv∧T 4=.func g caps∧H''=an H b (M.map f)∧nx=nx'') ?_ ?_
 ·(have zz:=aI @t0 (aI @t1 (aI @t2 (aI @t3 (aI @t4 (aI @hH (aI @Int.toNat_natCast (aI hc.cells (aI hc.one (aI @lm1 @lm2))))))))); repeat' (first | apply a_n | refine zO ?_ | refine vZ ?_ | refine stZ ?_ | fail)) <;> (try clear zz)
  exact ⟨(have zz:=@t0; evZ),(have zz:=@t1; evZ),(have zz:=@t2; evZ),(have zz:=@t3; evZ),(have zz:=@t4; evZ),by rw [am,lm3],rfl⟩
 clear t0 t1 t2 t3 t4 lm1 lm2 lm3 hl1 M1 hN
 rintro T _ _ ⟨t0,t1,t2,t3,t4,rfl,rfl⟩
 refine aS (fun T H'' nx''=>∃ mu i j:Nat,PartR P a e mu i j M∧T 0=.msl b n 1 0 n∧T 1=.int .i64 a∧T 4=.func g caps∧T 12=.int .i64 (i:Nat)∧T 13=.int .i64 (j:Nat)∧H''=an H b ((M).map f)∧nx=nx'') ?_ ?_
 ·(have zz:=aI @t0 (aI @t1 (aI @t2 (aI @t3 (aI @t4 (aI @ta @te))))); repeat' (first | apply a_n | refine zO ?_ | refine vZ ?_ | fail)) <;> (try clear zz)
  exact ⟨_,a + 1,m,by rw [hm]; exact .start (by omega),(have zz:=@t0; evZ),(have zz:=@t1; evZ),(have zz:=@t4; evZ),ev0,ev0,rfl,rfl⟩
 clear t0 t1 t2 t3 t4 ta te hm m
 rintro T _ _ ⟨mu,i,j,hpt,t0,t1,t4,t12,t13,rfl,rfl⟩
 have hl:M.length=n:=by rw [hp.len,hn]
 have hGM:=hp.mem hG
 refine aS (fun T H'' nx''=>∃ i:Nat,PartR P a e mu i j M∧(i ≤ j→¬ P (M.getD i default))∧T 0=.msl b n 1 0 n∧T 1=.int .i64 a∧T 4=.func g caps∧T 12=.int .i64 (i:Nat)∧T 13=.int .i64 (j:Nat)∧H''=an H b ((M).map f)∧nx=nx'') ?_ ?_
 ·(have zz:=aI @t0 (aI @t1 (aI @t4 (aI @t12 @t13))); repeat' (first | refine zW ?_ | apply a_n | refine zO ?_ | fail)) <;> (try clear zz)
  refine be (X:=Nat) (fun i=>[(0,.msl b n 1 0 n),(1,.int .i64 a),(4,.func g caps),(12,.int .i64 (i:Nat)),(13,.int .i64 (j:Nat))]) (fun i H' nxx=>PartR P a e mu i j M∧H'=an H b (M.map f)∧nx=nxx) (fun i=>j + 1 - i) i ⟨hpt,rfl,rfl⟩ (have zz:=aI @t0 (aI @t1 (aI @t4 (aI @t12 @t13))); agZ) ?_
  clear t0 t1 t4 t12 t13 hpt i
  rintro i H' nxx ⟨hpt,rfl,rfl⟩
  have hlo:=hpt.lo; have hmid:=hpt.mid; have hhi:=hpt.hi
  have ii:((i:Nat):Int) + 1=((i + 1:Nat):Int):=by omega
  by_cases hij:j < i
  ·(have zz:=and_self; repeat' (first | refine zW ?_ | refine zM ?_ | apply a_n | apply a_x | refine zO ?_ | refine vZ ?_ | refine gFZ ?_ | (refine zGZ ?_ ?_ <;> (intro _hg; try (exfalso; omega))) | refine cFZ ?_ | fail)) <;> (try clear zz)
   exact ⟨i,hpt,fun h=>absurd h (by omega),rfl,rfl,rfl,rfl,rfl,rfl,rfl⟩
  have lc:=hc.run (M.getD (i) default) (M.getD (a) default) (hGM _ (ai (by omega))) (hGM _ (ai (by omega)))
  have e1:=hc.dat (M.getD (i) default)
  have e2:=hc.dat (M.getD (a) default)
  have hPk:P (M.getD (i) default) ↔ K (M.getD (i) default) (M.getD (a) default) < 0:=by rw [hP,hv]
  generalize hKK:K (M.getD (i) default) (M.getD (a) default)=kk at lc hPk
  by_cases hlt:kk < 0
  ·(have zz:=aI @ii (aI @Int.toNat_natCast (aI hc.cells hc.one)); repeat' (first | refine zW ?_ | refine zM ?_ | apply a_n | refine zO ?_ | refine vZ ?_ | refine cZ ?_ (hp:=lc) (hs:=by (first | refine ah ?_ rfl | apply ap); (repeat' (first | exact af | apply aC | apply aq | exact e1 | exact e2 | exact ao dcap)); first | done | fail) | refine gTZ ?_ | (refine zGZ ?_ ?_ <;> (intro _hg; try (exfalso; omega))) | fail)) <;> (try clear zz)
   exact ⟨i + 1,by omega,⟨hpt.stepUp (by omega) (by rw [hPk]; exact hlt),rfl,rfl⟩,ag0⟩
  ·(have zz:=aI @ii (aI @Int.toNat_natCast (aI hc.cells hc.one)); repeat' (first | refine zW ?_ | refine zM ?_ | apply a_n | apply a_x | refine zO ?_ | refine vZ ?_ | refine cZ ?_ (hp:=lc) (hs:=by (first | refine ah ?_ rfl | apply ap); (repeat' (first | exact af | apply aC | apply aq | exact e1 | exact e2 | exact ao dcap)); first | done | fail) | refine gTZ ?_ | (refine zGZ ?_ ?_ <;> (intro _hg; try (exfalso; omega))) | fail)) <;> (try clear zz)
   exact ⟨i,hpt,fun _=>(by rw [hPk]; first | exact hlt | exact fun h=>h hlt),rfl,rfl,rfl,rfl,rfl,rfl,rfl⟩
 clear t0 t1 t4 t12 t13 hpt i
 rintro T _ _ ⟨i,hpt,hni,t0,t1,t4,t12,t13,rfl,rfl⟩
 refine aS (fun T H'' nx''=>∃ j:Nat,PartR P a e mu i j M∧(i ≤ j→¬ P (M.getD i default))∧(i ≤ j→P (M.getD j default))∧T 0=.msl b n 1 0 n∧T 1=.int .i64 a∧T 4=.func g caps∧T 12=.int .i64 (i:Nat)∧T 13=.int .i64 (j:Nat)∧H''=an H b ((M).map f)∧nx=nx'') ?_ ?_
 ·(have zz:=aI @t0 (aI @t1 (aI @t4 (aI @t12 @t13))); repeat' (first | refine zW ?_ | apply a_n | refine zO ?_ | fail)) <;> (try clear zz)
  refine be (X:=Nat) (fun j=>[(0,.msl b n 1 0 n),(1,.int .i64 a),(4,.func g caps),(12,.int .i64 (i:Nat)),(13,.int .i64 (j:Nat))]) (fun j H' nxx=>PartR P a e mu i j M∧(i ≤ j→¬ P (M.getD i default))∧H'=an H b (M.map f)∧nx=nxx) (fun j=>j) j ⟨hpt,hni,rfl,rfl⟩ (have zz:=aI @t0 (aI @t1 (aI @t4 (aI @t12 @t13))); agZ) ?_
  clear t0 t1 t4 t12 t13 hpt hni j
  rintro j H' nxx ⟨hpt,hni,rfl,rfl⟩
  have hlo:=hpt.lo; have hmid:=hpt.mid; have hhi:=hpt.hi
  by_cases hij:j < i
  ·(have zz:=and_self; repeat' (first | refine zW ?_ | refine zM ?_ | apply a_n | apply a_x | refine zO ?_ | refine vZ ?_ | refine gFZ ?_ | (refine zGZ ?_ ?_ <;> (intro _hg; try (exfalso; omega))) | refine cFZ ?_ | fail)) <;> (try clear zz)
   exact ⟨j,hpt,hni,fun h=>absurd h (by omega),rfl,rfl,rfl,rfl,rfl,rfl,rfl⟩
  obtain ⟨k,rfl⟩:∃ k,j=k + 1:=⟨j - 1,by omega⟩
  have tk:((k + 1:Nat):Int) - 1=(k:Int):=by omega
  have lc:=hc.run (M.getD (k + 1) default) (M.getD (a) default) (hGM _ (ai (by omega))) (hGM _ (ai (by omega)))
  have e1:=hc.dat (M.getD (k + 1) default)
  have e2:=hc.dat (M.getD (a) default)
  have hPk:P (M.getD (k + 1) default) ↔ K (M.getD (k + 1) default) (M.getD (a) default) < 0:=by rw [hP,hv]
  generalize hKK:K (M.getD (k + 1) default) (M.getD (a) default)=kk at lc hPk
  by_cases hlt:kk < 0
  ·(have zz:=aI @tk (aI @Int.toNat_natCast (aI hc.cells hc.one)); repeat' (first | refine zW ?_ | refine zM ?_ | apply a_n | apply a_x | refine zO ?_ | refine vZ ?_ | refine cZ ?_ (hp:=lc) (hs:=by (first | refine ah ?_ rfl | apply ap); (repeat' (first | exact af | apply aC | apply aq | exact e1 | exact e2 | exact ao dcap)); first | done | fail) | refine gTZ ?_ | (refine zGZ ?_ ?_ <;> (intro _hg; try (exfalso; omega))) | fail)) <;> (try clear zz)
   exact ⟨k + 1,hpt,hni,fun _=>(by rw [hPk]; exact hlt),rfl,rfl,rfl,rfl,rfl,rfl,rfl⟩
  ·(have zz:=aI @tk (aI @Int.toNat_natCast (aI hc.cells hc.one)); repeat' (first | refine zW ?_ | refine zM ?_ | apply a_n | refine zO ?_ | refine vZ ?_ | refine cZ ?_ (hp:=lc) (hs:=by (first | refine ah ?_ rfl | apply ap); (repeat' (first | exact af | apply aC | apply aq | exact e1 | exact e2 | exact ao dcap)); first | done | fail) | refine gTZ ?_ | (refine zGZ ?_ ?_ <;> (intro _hg; try (exfalso; omega))) | fail)) <;> (try clear zz)
   exact ⟨k,by omega,⟨hpt.stepDn (by omega) (by rw [hPk]; first | exact hlt | exact fun h=>h hlt),fun _=>hni (by omega),rfl,rfl⟩,ag0⟩
 clear t0 t1 t4 t12 t13 hpt hni j
 rintro T _ _ ⟨j,hpt,hni,hnj,t0,t1,t4,t12,t13,rfl,rfl⟩
 have hlo:=hpt.lo; have hmid:=hpt.mid; have hhi:=hpt.hi
 by_cases hji:j < i
 ·clear hni hnj
  obtain ⟨z1,z2,z3,z4⟩:=hpt.done hc.ord (by omega) hji hv hP
  obtain ⟨M1,hl1,lm1,lm2⟩:=b4 (f:=f) (M:=M) (i:=j) (j:=a) (by omega) (by omega)
  have lm3:=lm2
  simp only [bg,List.length_cons,List.length_nil,Nat.zero_add] at lm1 lm2
  (have zz:=aI @t0 (aI @t1 (aI @t4 (aI @t12 (aI @t13 (aI @Int.toNat_natCast (aI hc.cells (aI hc.one (aI @lm1 @lm2)))))))); repeat' (first | refine zW ?_ | apply a_n | apply a_r | refine zO ?_ | refine vZ ?_ | refine stZ ?_ | (refine zGZ ?_ ?_ <;> (intro _hg; try (exfalso; omega))) | refine ae rfl ?_ | refine r2Z ?_ | fail)) <;> (try clear zz)
  exact ⟨rfl,swp M j a,j,true,rfl,z1,z2,by rw [am,am,lm3],hp.trans (PermR.swap (by omega) (by omega) (by omega)),z3,z4⟩
 obtain ⟨k,rfl⟩:∃ k,j=k + 1:=⟨j - 1,by omega⟩
 have tk:((k + 1:Nat):Int) - 1=(k:Int):=by omega
 have ii:((i:Nat):Int) + 1=((i + 1:Nat):Int):=by omega
 obtain ⟨M1,hl1,lm1,lm2⟩:=b4 (f:=f) (M:=M) (i:=i) (j:=k + 1) (by omega) (by omega)
 have lm3:=lm2
 simp only [bg,List.length_cons,List.length_nil,Nat.zero_add] at lm1 lm2
 (have zz:=aI @t0 (aI @t1 (aI @t4 (aI @t12 (aI @t13 (aI @tk (aI @ii (aI @Int.toNat_natCast (aI hc.cells (aI hc.one (aI @lm1 @lm2)))))))))); repeat' (first | refine zW ?_ | apply a_n | refine zO ?_ | refine vZ ?_ | refine stZ ?_ | (refine zGZ ?_ ?_ <;> (intro _hg; try (exfalso; omega))) | fail)) <;> (try clear zz)
 obtain ⟨hq1,hq2⟩:=hpt.swap (by omega) (by omega) (hni (by omega)) (hnj (by omega))
 have hp2:PermR a e L (swp M i (k + 1)):=hp.trans (PermR.swap (by omega) (by omega) (by omega))
 have hv2:(swp M i (k + 1)).getD a default=v:=by rw [f8 (by omega) (by omega) (by omega) (by omega)]; exact hv
 refine be (X:=Nat × Nat × List α) (fun x=>[(0,.msl b n 1 0 n),(1,.int .i64 a),(4,.func g caps),(12,.int .i64 (x.1:Nat)),(13,.int .i64 (x.2.1:Nat))]) (fun x H' nxx=>PartR P a e (x.2.1 + 1 - x.1) x.1 x.2.1 x.2.2∧H'=an H b (x.2.2.map f)∧nx=nxx∧PermR a e L x.2.2∧x.2.2.getD a default=v) (fun x=>x.2.1 + 1 - x.1) (i + 1,k,swp M i (k + 1)) ⟨hq1,by dsimp only; rw [am,am,lm3],rfl,hp2,hv2⟩ (have zz:=aI @t0 (aI @t1 (aI @t4 (aI @t12 @t13))); agZ) ?_
 clear t0 t1 t4 t12 t13 lm1 lm2 lm3 hl1 M1 hp2 hv2 hq1 hq2 hpt hni hnj hp hv hGM
 rintro ⟨i,j,M⟩ H' nxx ⟨hpt,rfl,rfl,hp,hv⟩
 dsimp only at *
 have hl:M.length=n:=by rw [hp.len,hn]
 have hGM:=hp.mem hG
 generalize hmu:j + 1 - i=mu at hpt ⊢
 clear hmu
 obtain ⟨T,hT,t0,t1,t4,t12,t13⟩:∃ T,tl [(0,.msl b n 1 0 n),(1,.int .i64 a),(4,.func g caps),(12,.int .i64 (i:Nat)),(13,.int .i64 (j:Nat))]=T∧T 0=.msl b n 1 0 n∧T 1=.int .i64 a∧T 4=.func g caps∧T 12=.int .i64 (i:Nat)∧T 13=.int .i64 (j:Nat):=⟨_,rfl,rfl,rfl,rfl,rfl,rfl⟩
 rw [hT]
 clear hT
 refine cU ?_
 refine aS (fun T H'' nx''=>∃ i:Nat,PartR P a e mu i j M∧(i ≤ j→¬ P (M.getD i default))∧T 0=.msl b n 1 0 n∧T 1=.int .i64 a∧T 4=.func g caps∧T 12=.int .i64 (i:Nat)∧T 13=.int .i64 (j:Nat)∧H''=an H b ((M).map f)∧nx=nx'') ?_ ?_
 ·(have zz:=aI @t0 (aI @t1 (aI @t4 (aI @t12 @t13))); repeat' (first | refine zW ?_ | apply a_n | refine zO ?_ | fail)) <;> (try clear zz)
  refine be (X:=Nat) (fun i=>[(0,.msl b n 1 0 n),(1,.int .i64 a),(4,.func g caps),(12,.int .i64 (i:Nat)),(13,.int .i64 (j:Nat))]) (fun i H' nxx=>PartR P a e mu i j M∧H'=an H b (M.map f)∧nx=nxx) (fun i=>j + 1 - i) i ⟨hpt,rfl,rfl⟩ (have zz:=aI @t0 (aI @t1 (aI @t4 (aI @t12 @t13))); agZ) ?_
  clear t0 t1 t4 t12 t13 hpt i
  rintro i H' nxx ⟨hpt,rfl,rfl⟩
  have hlo:=hpt.lo; have hmid:=hpt.mid; have hhi:=hpt.hi
  have ii:((i:Nat):Int) + 1=((i + 1:Nat):Int):=by omega
  by_cases hij:j < i
  ·(have zz:=and_self; repeat' (first | refine zW ?_ | refine zM ?_ | apply a_n | apply a_x | refine zO ?_ | refine vZ ?_ | refine gFZ ?_ | (refine zGZ ?_ ?_ <;> (intro _hg; try (exfalso; omega))) | refine cFZ ?_ | fail)) <;> (try clear zz)
   exact ⟨i,hpt,fun h=>absurd h (by omega),rfl,rfl,rfl,rfl,rfl,rfl,rfl⟩
  have lc:=hc.run (M.getD (i) default) (M.getD (a) default) (hGM _ (ai (by omega))) (hGM _ (ai (by omega)))
  have e1:=hc.dat (M.getD (i) default)
  have e2:=hc.dat (M.getD (a) default)
  have hPk:P (M.getD (i) default) ↔ K (M.getD (i) default) (M.getD (a) default) < 0:=by rw [hP,hv]
  generalize hKK:K (M.getD (i) default) (M.getD (a) default)=kk at lc hPk
  by_cases hlt:kk < 0
  ·(have zz:=aI @ii (aI @Int.toNat_natCast (aI hc.cells hc.one)); repeat' (first | refine zW ?_ | refine zM ?_ | apply a_n | refine zO ?_ | refine vZ ?_ | refine cZ ?_ (hp:=lc) (hs:=by (first | refine ah ?_ rfl | apply ap); (repeat' (first | exact af | apply aC | apply aq | exact e1 | exact e2 | exact ao dcap)); first | done | fail) | refine gTZ ?_ | (refine zGZ ?_ ?_ <;> (intro _hg; try (exfalso; omega))) | fail)) <;> (try clear zz)
   exact ⟨i + 1,by omega,⟨hpt.stepUp (by omega) (by rw [hPk]; exact hlt),rfl,rfl⟩,ag0⟩
  ·(have zz:=aI @ii (aI @Int.toNat_natCast (aI hc.cells hc.one)); repeat' (first | refine zW ?_ | refine zM ?_ | apply a_n | apply a_x | refine zO ?_ | refine vZ ?_ | refine cZ ?_ (hp:=lc) (hs:=by (first | refine ah ?_ rfl | apply ap); (repeat' (first | exact af | apply aC | apply aq | exact e1 | exact e2 | exact ao dcap)); first | done | fail) | refine gTZ ?_ | (refine zGZ ?_ ?_ <;> (intro _hg; try (exfalso; omega))) | fail)) <;> (try clear zz)
   exact ⟨i,hpt,fun _=>(by rw [hPk]; first | exact hlt | exact fun h=>h hlt),rfl,rfl,rfl,rfl,rfl,rfl,rfl⟩
 clear t0 t1 t4 t12 t13 hpt i
 rintro T _ _ ⟨i,hpt,hni,t0,t1,t4,t12,t13,rfl,rfl⟩
 refine aS (fun T H'' nx''=>∃ j:Nat,PartR P a e mu i j M∧(i ≤ j→¬ P (M.getD i default))∧(i ≤ j→P (M.getD j default))∧T 0=.msl b n 1 0 n∧T 1=.int .i64 a∧T 4=.func g caps∧T 12=.int .i64 (i:Nat)∧T 13=.int .i64 (j:Nat)∧H''=an H b ((M).map f)∧nx=nx'') ?_ ?_
 ·(have zz:=aI @t0 (aI @t1 (aI @t4 (aI @t12 @t13))); repeat' (first | refine zW ?_ | apply a_n | refine zO ?_ | fail)) <;> (try clear zz)
  refine be (X:=Nat) (fun j=>[(0,.msl b n 1 0 n),(1,.int .i64 a),(4,.func g caps),(12,.int .i64 (i:Nat)),(13,.int .i64 (j:Nat))]) (fun j H' nxx=>PartR P a e mu i j M∧(i ≤ j→¬ P (M.getD i default))∧H'=an H b (M.map f)∧nx=nxx) (fun j=>j) j ⟨hpt,hni,rfl,rfl⟩ (have zz:=aI @t0 (aI @t1 (aI @t4 (aI @t12 @t13))); agZ) ?_
  clear t0 t1 t4 t12 t13 hpt hni j
  rintro j H' nxx ⟨hpt,hni,rfl,rfl⟩
  have hlo:=hpt.lo; have hmid:=hpt.mid; have hhi:=hpt.hi
  by_cases hij:j < i
  ·(have zz:=and_self; repeat' (first | refine zW ?_ | refine zM ?_ | apply a_n | apply a_x | refine zO ?_ | refine vZ ?_ | refine gFZ ?_ | (refine zGZ ?_ ?_ <;> (intro _hg; try (exfalso; omega))) | refine cFZ ?_ | fail)) <;> (try clear zz)
   exact ⟨j,hpt,hni,fun h=>absurd h (by omega),rfl,rfl,rfl,rfl,rfl,rfl,rfl⟩
  obtain ⟨k,rfl⟩:∃ k,j=k + 1:=⟨j - 1,by omega⟩
  have tk:((k + 1:Nat):Int) - 1=(k:Int):=by omega
  have lc:=hc.run (M.getD (k + 1) default) (M.getD (a) default) (hGM _ (ai (by omega))) (hGM _ (ai (by omega)))
  have e1:=hc.dat (M.getD (k + 1) default)
  have e2:=hc.dat (M.getD (a) default)
  have hPk:P (M.getD (k + 1) default) ↔ K (M.getD (k + 1) default) (M.getD (a) default) < 0:=by rw [hP,hv]
  generalize hKK:K (M.getD (k + 1) default) (M.getD (a) default)=kk at lc hPk
  by_cases hlt:kk < 0
  ·(have zz:=aI @tk (aI @Int.toNat_natCast (aI hc.cells hc.one)); repeat' (first | refine zW ?_ | refine zM ?_ | apply a_n | apply a_x | refine zO ?_ | refine vZ ?_ | refine cZ ?_ (hp:=lc) (hs:=by (first | refine ah ?_ rfl | apply ap); (repeat' (first | exact af | apply aC | apply aq | exact e1 | exact e2 | exact ao dcap)); first | done | fail) | refine gTZ ?_ | (refine zGZ ?_ ?_ <;> (intro _hg; try (exfalso; omega))) | fail)) <;> (try clear zz)
   exact ⟨k + 1,hpt,hni,fun _=>(by rw [hPk]; exact hlt),rfl,rfl,rfl,rfl,rfl,rfl,rfl⟩
  ·(have zz:=aI @tk (aI @Int.toNat_natCast (aI hc.cells hc.one)); repeat' (first | refine zW ?_ | refine zM ?_ | apply a_n | refine zO ?_ | refine vZ ?_ | refine cZ ?_ (hp:=lc) (hs:=by (first | refine ah ?_ rfl | apply ap); (repeat' (first | exact af | apply aC | apply aq | exact e1 | exact e2 | exact ao dcap)); first | done | fail) | refine gTZ ?_ | (refine zGZ ?_ ?_ <;> (intro _hg; try (exfalso; omega))) | fail)) <;> (try clear zz)
   exact ⟨k,by omega,⟨hpt.stepDn (by omega) (by rw [hPk]; first | exact hlt | exact fun h=>h hlt),fun _=>hni (by omega),rfl,rfl⟩,ag0⟩
 clear t0 t1 t4 t12 t13 hpt hni j
 rintro T _ _ ⟨j,hpt,hni,hnj,t0,t1,t4,t12,t13,rfl,rfl⟩
 have hlo:=hpt.lo; have hmid:=hpt.mid; have hhi:=hpt.hi
 by_cases hji:j < i
 ·clear hni hnj
  obtain ⟨z1,z2,z3,z4⟩:=hpt.done hc.ord (by omega) hji hv hP
  obtain ⟨M1,hl1,lm1,lm2⟩:=b4 (f:=f) (M:=M) (i:=j) (j:=a) (by omega) (by omega)
  have lm3:=lm2
  simp only [bg,List.length_cons,List.length_nil,Nat.zero_add] at lm1 lm2
  (have zz:=aI @t0 (aI @t1 (aI @t4 (aI @t12 (aI @t13 (aI @Int.toNat_natCast (aI hc.cells (aI hc.one (aI @lm1 @lm2)))))))); repeat' (first | refine zW ?_ | apply a_n | apply a_x | refine zO ?_ | refine vZ ?_ | refine stZ ?_ | (refine zGZ ?_ ?_ <;> (intro _hg; try (exfalso; omega))) | refine ae rfl ?_ | refine r2Z ?_ | fail)) <;> (try clear zz)
  exact ⟨rfl,swp M j a,j,false,rfl,z1,z2,by rw [am,am,lm3],hp.trans (PermR.swap (by omega) (by omega) (by omega)),z3,z4⟩
 obtain ⟨k,rfl⟩:∃ k,j=k + 1:=⟨j - 1,by omega⟩
 have tk:((k + 1:Nat):Int) - 1=(k:Int):=by omega
 have ii:((i:Nat):Int) + 1=((i + 1:Nat):Int):=by omega
 obtain ⟨M1,hl1,lm1,lm2⟩:=b4 (f:=f) (M:=M) (i:=i) (j:=k + 1) (by omega) (by omega)
 have lm3:=lm2
 simp only [bg,List.length_cons,List.length_nil,Nat.zero_add] at lm1 lm2
 (have zz:=aI @t0 (aI @t1 (aI @t4 (aI @t12 (aI @t13 (aI @tk (aI @ii (aI @Int.toNat_natCast (aI hc.cells (aI hc.one (aI @lm1 @lm2)))))))))); repeat' (first | refine zW ?_ | apply a_n | refine zO ?_ | refine vZ ?_ | refine stZ ?_ | (refine zGZ ?_ ?_ <;> (intro _hg; try (exfalso; omega))) | fail)) <;> (try clear zz)
 obtain ⟨hq1,hq2⟩:=hpt.swap (by omega) (by omega) (hni (by omega)) (hnj (by omega))
 exact ⟨(i + 1,k,swp M i (k + 1)),hq2,⟨hq1,by dsimp only; rw [am,am,lm3],rfl,hp.trans (PermR.swap (by omega) (by omega) (by omega)),by dsimp only; rw [f8 (by omega) (by omega) (by omega) (by omega)]; exact hv⟩,(have zz:=aI @t0 (aI @t1 (aI @t4 (aI @t12 @t13))); agZ)⟩
end
end Go.Proofs.YtjgpfclngkcedaaGreat
namespace Go.Proofs.YtjgpfclngkcedaaGreat
open Go Go.Abs
def ju (x:Nat):Nat:=if x=0 then 0 else Nat.log2 x + 1
def ma:ByteArray:=ByteArray.mk (Array.mk [0,1,2,2,3,3,3,3,4,4,4,4,4,4,4,4,5,5,5,5,5,5,5,5,5,5,5,5,5,5,5,5,6,6,6,6,6,6,6,6,6,6,6,6,6,6,6,6,6,6,6,6,6,6,6,6,6,6,6,6,6,6,6,6,7,7,7,7,7,7,7,7,7,7,7,7,7,7,7,7,7,7,7,7,7,7,7,7,7,7,7,7,7,7,7,7,7,7,7,7,7,7,7,7,7,7,7,7,7,7,7,7,7,7,7,7,7,7,7,7,7,7,7,7,7,7,7,7,8,8,8,8,8,8,8,8,8,8,8,8,8,8,8,8,8,8,8,8,8,8,8,8,8,8,8,8,8,8,8,8,8,8,8,8,8,8,8,8,8,8,8,8,8,8,8,8,8,8,8,8,8,8,8,8,8,8,8,8,8,8,8,8,8,8,8,8,8,8,8,8,8,8,8,8,8,8,8,8,8,8,8,8,8,8,8,8,8,8,8,8,8,8,8,8,8,8,8,8,8,8,8,8,8,8,8,8,8,8,8,8,8,8,8,8,8,8,8,8,8,8,8,8,8,8,8,8])
theorem xJ (x:Nat):x < 2 ^ ju x:=by
 unfold ju
 split
 ·omega
 ·exact Nat.lt_log2_self
theorem sM {x:Nat} (h:0 < x):2 ^ ju x ≤ 2 * x:=by
 unfold ju
 rw [if_neg (by omega),Nat.pow_succ]
 have:=Nat.log2_self_le (n:=x) (by omega)
 omega
theorem rD {x:Nat} (hx:x < 256):jE (.str (ByteArray.mk (Array.mk [0,1,2,2,3,3,3,3,4,4,4,4,4,4,4,4,5,5,5,5,5,5,5,5,5,5,5,5,5,5,5,5,6,6,6,6,6,6,6,6,6,6,6,6,6,6,6,6,6,6,6,6,6,6,6,6,6,6,6,6,6,6,6,6,7,7,7,7,7,7,7,7,7,7,7,7,7,7,7,7,7,7,7,7,7,7,7,7,7,7,7,7,7,7,7,7,7,7,7,7,7,7,7,7,7,7,7,7,7,7,7,7,7,7,7,7,7,7,7,7,7,7,7,7,7,7,7,7,8,8,8,8,8,8,8,8,8,8,8,8,8,8,8,8,8,8,8,8,8,8,8,8,8,8,8,8,8,8,8,8,8,8,8,8,8,8,8,8,8,8,8,8,8,8,8,8,8,8,8,8,8,8,8,8,8,8,8,8,8,8,8,8,8,8,8,8,8,8,8,8,8,8,8,8,8,8,8,8,8,8,8,8,8,8,8,8,8,8,8,8,8,8,8,8,8,8,8,8,8,8,8,8,8,8,8,8,8,8,8,8,8,8,8,8,8,8,8,8,8,8,8,8,8,8,8,8]))) (.int .u8 (x:Nat))=some (.int .u8 (ju x:Nat)):=by
 have h1:ma.size=256:=by decide +kernel
 have h2:∀ i:Fin 256,(ma[i.val]?.getD 0).toNat=ju i.val:=by decide +kernel
 rw [SV2.2.2.2.2.2.2.2.2]
 have h3:=h2 ⟨x,hx⟩
 change (if 0 ≤ (x:Int)∧(x:Int) < ma.size then some (AV.int .u8 (ma[(x:Int).toNat]?.getD 0).toNat) else none)=_
 rw [if_pos ⟨by omega,by rw [h1]; omega⟩,Int.toNat_natCast]
 simp only at h3
 rw [h3]
theorem l9 {x s k:Nat} (hk:k=ju (x / 2 ^ s)) (h:0 < x / 2 ^ s):x < 2 ^ (k + s)∧2 ^ (k + s) ≤ 2 * x:=by
 subst hk
 have h1:=xJ (x / 2 ^ s)
 have h2:=sM h
 have hp:0 < 2 ^ s:=Nat.pow_pos (by omega)
 rw [Nat.pow_add]
 constructor
 ·have:=(Nat.div_lt_iff_lt_mul hp).1 h1
  exact this
 ·calc 2 ^ ju (x / 2 ^ s) * 2 ^ s ≤ 2 * (x / 2 ^ s) * 2 ^ s:=Nat.mul_le_mul_right _ h2
    _=2 * (x / 2 ^ s * 2 ^ s):=by rw [Nat.mul_assoc]
    _ ≤ 2 * x:=Nat.mul_le_mul_left _ (Nat.div_mul_le_self x (2 ^ s))
theorem gG {x:Nat} (hx:x < 256):ju x ≤ 8:=by
 rcases Nat.eq_zero_or_pos x with e | e
 ·subst e; decide
 ·have h:=sM e
  rcases Nat.lt_or_ge 8 (ju x) with h1 | h1
  ·have:=Nat.pow_le_pow_right (n:=2) (by omega) h1
   omega
  ·exact h1
theorem e5 {x:Int} (h:0 ≤ x) (h2:x < 18446744073709551616):IntKind.wrap .u64 x=x:=by
 simp only [IntKind.bits,IntKind.wrap,IntKind.signed]; simp; omega
theorem mQ {x:Int} (h:0 ≤ x) (h2:x < 256):IntKind.wrap .u8 x=x:=by
 simp only [IntKind.bits,IntKind.wrap,IntKind.signed]; simp; omega
def xr (a b:Int):Int:=IntKind.wrap .u64 (BitVec.ofInt 64 a ^^^ BitVec.ofInt 64 b).toNat
def AB (a:Int):Int:=IntKind.wrap .u64 (a * 2 ^ 13)
def Bn (a:Int):Int:=IntKind.wrap .u64 (a * 2 ^ 17)
def sr7 (a:Int):Int:=a.fdiv (2 ^ 7)
theorem SX:(∀ a b:Int,aV .xor false false (.int .u64 a) (.int .u64 b)=some (.int .u64 (xr a b)))∧(∀ a:Int,aV .shl false false (.int .u64 a) (.int .u64 13)=some (.int .u64 (AB a))) ∧
    (∀ a:Int,aV .shl false false (.int .u64 a) (.int .u64 17)=some (.int .u64 (Bn a)))∧(∀ a:Int,aV .shr false false (.int .u64 a) (.int .u64 7)=some (.int .u64 (sr7 a))) :=
 ⟨fun _ _=>rfl,fun _=>rfl,fun _=>rfl,fun _=>rfl⟩
attribute [irreducible] xr AB Bn sr7
attribute [local irreducible] aA ag aU aO aE aH ay aJ aQ aZ Go.Abs.Fn aL Go.Abs.Pure ak aB Yl
theorem u3 {H:Hp} {c nx:Nat} {s:Int} (hcc:H c=some [.int .u64 s]):Abs.Fn Tryz.prog 159 [.ptr c 1 0] H nx fun r H' nx'=>nx'=nx∧∃ s':Int,r=.int .u64 s'∧H'=an H c [.int .u64 s']:=by
 refine Abs.Fn.of_c2 follows xV (Nat.le_of_ble_eq_true rfl) ?_
 simp only [yX,cO,cG,cN,cM,cD,cF,cB,av,aF]
 have ls:∀ x y:AV,bg [x] 0 [y]=[y]:=fun _ _=>rfl
 simp only [bg,List.length_cons,List.length_nil,Nat.zero_add] at ls
 (have zz:=aI @hcc (aI @SV3 (aI @SX @ls)); repeat' (first | refine zW ?_ | apply a_n | refine zO ?_ | refine vZ ?_ | refine stZ ?_ | refine ae rfl ?_ | refine r1Z ?_ | fail)) <;> (try clear zz)
 exact ⟨rfl,_,rfl,by rw [am,am]; rfl⟩
set_option maxRecDepth 100000 in
theorem xk {H:Hp} {nx x:Nat} (hx:0 < x) (h2:x < 4294967296):Abs.Fn Tryz.prog 140 [.int .u64 x] H nx fun r H' nx'=>nx'=nx∧H'=H∧∃ k:Nat,r=.int .i64 k∧x < 2 ^ k∧2 ^ k ≤ 2 * x:=by
 refine Abs.Fn.of_c2 follows wa (Nat.le_of_ble_eq_true rfl) ?_
 delta xf cO cG cN cM cD cF cB av aF
 generalize hT:AV.str (ByteArray.mk (Array.mk [0,1,2,2,3,3,3,3,4,4,4,4,4,4,4,4,5,5,5,5,5,5,5,5,5,5,5,5,5,5,5,5,6,6,6,6,6,6,6,6,6,6,6,6,6,6,6,6,6,6,6,6,6,6,6,6,6,6,6,6,6,6,6,6,7,7,7,7,7,7,7,7,7,7,7,7,7,7,7,7,7,7,7,7,7,7,7,7,7,7,7,7,7,7,7,7,7,7,7,7,7,7,7,7,7,7,7,7,7,7,7,7,7,7,7,7,7,7,7,7,7,7,7,7,7,7,7,7,8,8,8,8,8,8,8,8,8,8,8,8,8,8,8,8,8,8,8,8,8,8,8,8,8,8,8,8,8,8,8,8,8,8,8,8,8,8,8,8,8,8,8,8,8,8,8,8,8,8,8,8,8,8,8,8,8,8,8,8,8,8,8,8,8,8,8,8,8,8,8,8,8,8,8,8,8,8,8,8,8,8,8,8,8,8,8,8,8,8,8,8,8,8,8,8,8,8,8,8,8,8,8,8,8,8,8,8,8,8,8,8,8,8,8,8,8,8,8,8,8,8,8,8,8,8,8,8]))=tb
 have htab:∀ x:Nat,x < 256→jE tb (.int .u8 (x:Nat))=some (.int .u8 (ju x:Nat)):=fun x hx=>by rw [← hT]; exact rD hx
 clear hT
 have s16:∀ z:Nat,aV .shr false false (.int .u64 (z:Nat)) (.int .u64 16)=some (.int .u64 ((z / 2 ^ 16:Nat):Int)):=fun z=>sX (b:=16) (k:=.u64) (k':=.u64) (by decide)
 have s8:∀ z:Nat,aV .shr false false (.int .u64 (z:Nat)) (.int .u64 8)=some (.int .u64 ((z / 2 ^ 8:Nat):Int)):=fun z=>sX (b:=8) (k:=.u64) (k':=.u64) (by decide)
 by_cases h16:65536 ≤ x
 ·obtain ⟨y,hy⟩:∃ y,x / 2 ^ 16=y:=⟨_,rfl⟩
  have hy1:0 < y:=by omega
  have hy2:y < 65536:=by omega
  by_cases h8:256 ≤ y
  ·obtain ⟨z,hz⟩:∃ z,y / 2 ^ 8=z:=⟨_,rfl⟩
   have hz1:0 < z:=by omega
   have hz2:z < 256:=by omega
   have hl:=gG hz2
   have w8:IntKind.wrap .u8 (z:Int)=z:=mQ (by omega) (by omega)
   have ht:=htab z hz2
   (have zz:=aI @s16 (aI @s8 (aI @hy (aI @hz (aI @w8 @ht)))); repeat' (first | refine zW ?_ | apply a_n | refine zO ?_ | refine vZ ?_ | (refine zGZ ?_ ?_ <;> (intro _hg; try (exfalso; omega))) | refine ae rfl ?_ | refine r1Z ?_ | fail)) <;> (try clear zz)
   have e:x / 2 ^ 24=z:=by rw [← hz,← hy,Nat.div_div_eq_div_mul]
   exact ⟨rfl,rfl,ju z + 24,by congr 1; omega,l9 (by rw [e]) (by omega)⟩
  ·have hl:=gG (x:=y) (by omega)
   have w8:IntKind.wrap .u8 (y:Int)=y:=mQ (by omega) (by omega)
   have ht:=htab y (by omega)
   (have zz:=aI @s16 (aI @s8 (aI @hy (aI @w8 @ht))); repeat' (first | refine zW ?_ | apply a_n | refine zO ?_ | refine vZ ?_ | (refine zGZ ?_ ?_ <;> (intro _hg; try (exfalso; omega))) | refine ae rfl ?_ | refine r1Z ?_ | fail)) <;> (try clear zz)
   exact ⟨rfl,rfl,ju y + 16,by congr 1; omega,l9 (by rw [hy]) (by omega)⟩
 ·by_cases h8:256 ≤ x
  ·obtain ⟨z,hz⟩:∃ z,x / 2 ^ 8=z:=⟨_,rfl⟩
   have hz1:0 < z:=by omega
   have hz2:z < 256:=by omega
   have hl:=gG hz2
   have w8:IntKind.wrap .u8 (z:Int)=z:=mQ (by omega) (by omega)
   have ht:=htab z hz2
   (have zz:=aI @s16 (aI @s8 (aI @hz (aI @w8 @ht))); repeat' (first | refine zW ?_ | apply a_n | refine zO ?_ | refine vZ ?_ | (refine zGZ ?_ ?_ <;> (intro _hg; try (exfalso; omega))) | refine ae rfl ?_ | refine r1Z ?_ | fail)) <;> (try clear zz)
   exact ⟨rfl,rfl,ju z + 8,by congr 1; omega,l9 (by rw [hz]) (by omega)⟩
  ·have hl:=gG (x:=x) (by omega)
   have w8:IntKind.wrap .u8 (x:Int)=x:=mQ (by omega) (by omega)
   have ht:=htab x (by omega)
   (have zz:=aI @w8 @ht; repeat' (first | refine zW ?_ | apply a_n | refine zO ?_ | refine vZ ?_ | (refine zGZ ?_ ?_ <;> (intro _hg; try (exfalso; omega))) | refine ae rfl ?_ | refine r1Z ?_ | fail)) <;> (try clear zz)
   exact ⟨rfl,rfl,ju x + 0,by congr 1; omega,l9 (s:=0) (by simp) (by simpa using hx)⟩
theorem vL {H:Hp} {nx x:Nat} (hx:0 < x) (h2:x < 4294967296):Abs.Fn Tryz.prog 112 [.int .u64 x] H nx fun r H' nx'=>nx'=nx∧H'=H∧∃ k:Nat,r=.int .i64 k∧x < 2 ^ k∧2 ^ k ≤ 2 * x:=by
 refine Abs.Fn.of_c2 follows wF (Nat.le_of_ble_eq_true rfl) ?_
 simp only [xw,cO,cG,cN,cM,cD,cF,cB,av,aF]
 (have zz:=and_self; repeat' (first | refine zW ?_ | apply a_n | refine zO ?_ | refine vZ ?_ | refine cFZ ?_ | fail)) <;> (try clear zz)
 refine aD ev0 ev0 (xk hx h2) ?_
 rintro _ _ _ ⟨rfl,rfl,k,rfl,h3,h4⟩
 (have zz:=and_self; repeat' (first | apply a_n | refine zO ?_ | refine vZ ?_ | refine ae rfl ?_ | refine r1Z ?_ | fail)) <;> (try clear zz)
 exact ⟨rfl,rfl,k,rfl,h3,h4⟩
theorem wz {H:Hp} {nx x:Nat} (hx:0 < x) (h2:x ≤ 1000000000):Abs.Fn Tryz.prog 158 [.int .i64 x] H nx fun r H' nx'=>nx'=nx∧H'=H∧∃ k:Nat,r=.int .u64 ((2 ^ k:Nat):Int)∧x < 2 ^ k∧2 ^ k ≤ 2 * x:=by
 have w:IntKind.wrap .u64 (x:Int)=x:=e5 (by omega) (by omega)
 refine Abs.Fn.of_c2 follows yh (Nat.le_of_ble_eq_true rfl) ?_
 simp only [y8,cO,cG,cN,cM,cD,cF,cB,av,aF]
 (have zz:=@w; repeat' (first | refine zW ?_ | apply a_n | refine zO ?_ | refine vZ ?_ | fail)) <;> (try clear zz)
 refine aD ev0 (have zz:=@w; evZ) (vL hx (by omega)) ?_
 rintro _ _ _ ⟨rfl,rfl,k,rfl,h3,h4⟩
 have hk:k ≤ 62:=by
  rcases Nat.lt_or_ge 62 k with h | h
  ·have:=Nat.pow_le_pow_right (n:=2) (by omega) h
   omega
  ·exact h
 have sh:aV .shl false false (.int .u64 1) (.int .i64 (k:Int))=some (.int .u64 ((2 ^ k:Nat):Int)):=by
  have h:=xC (k:=.u64) (k':=.i64) (a:=1) (b:=k) (tb:=false) (tf:=false) (by show k ≤ 64; omega) (by show 1 * 2 ^ k < 2 ^ 63; omega)
  rw [Nat.one_mul] at h
  exact h
 (have zz:=@sh; repeat' (first | apply a_n | refine zO ?_ | refine vZ ?_ | refine ae rfl ?_ | refine r1Z ?_ | fail)) <;> (try clear zz)
 exact ⟨rfl,rfl,k,rfl,h3,h4⟩
end Go.Proofs.YtjgpfclngkcedaaGreat
namespace Go.Proofs.YtjgpfclngkcedaaGreat
open Go Go.Abs
open Nat (reduceEqDiff reduceAdd reduceLeDiff)
theorem qm {a:Int} {m:Nat} (hm:m < 18446744073709551616):∃ r:Nat,aV .and false false (.int .u64 a) (.int .u64 (m:Nat))=some (.int .u64 (r:Nat))∧r ≤ m:=by
 refine ⟨(BitVec.ofInt 64 a).toNat &&& m,?_,Nat.and_le_right⟩
 show (if (IntKind.u64=IntKind.u64) then dz .and .u64 a m else none)=_
 rw [if_pos rfl]
 have h:(BitVec.ofInt 64 a &&& BitVec.ofInt 64 (m:Int)).toNat=(BitVec.ofInt 64 a).toNat &&& m:=by
  rw [BitVec.toNat_and]
  congr 1
  simp [BitVec.toNat_ofInt]
  omega
 have h2:(BitVec.ofInt 64 a).toNat &&& m ≤ m:=Nat.and_le_right
 show some (AV.int .u64 (IntKind.wrap .u64 ((BitVec.ofInt 64 a &&& BitVec.ofInt 64 (m:Int)).toNat:Int)))=_
 rw [h,e5 (by omega) (by omega)]
section
variable {α:Type} [Inhabited α] {f:α→AV} {K:α→α→Int} {G:α→Prop} {g:Nat} {caps:List AV}
attribute [local irreducible] aA ag aU aO aE aH ay aJ aQ aZ Go.Abs.Fn aL Go.Abs.Pure ak aB Yl
theorem xy (hc:Cmp Tryz.prog f K G g caps) {L:List α} {H:Hp} {b nx n a e:Nat} (hH:H b=some (L.map f)) (hbx:b < nx) (hn:L.length=n) (hae:a + 8 ≤ e) (hen:e ≤ n) (hn2:n ≤ 1000000000) :
    Abs.Fn Tryz.prog 151 [.msl b n 1 0 n,.int .i64 a,.int .i64 e,.func g caps] H nx fun r H' nx'=>nx'=nx + 1∧∃ L',H' b=some (L'.map f)∧(∀ i,i < nx→i ≠ b→H' i=H i)∧PermR a e L L':=by
 obtain ⟨l,rfl⟩:∃ l,e=a + l:=⟨e - a,by omega⟩
 have te:((a + l:Nat):Int) - (a:Int)=(l:Int):=by omega
 obtain ⟨w,hw⟩:∃ w,a + l / 4 * 2 - 1=w:=⟨_,rfl⟩
 have tq:aV .quo false false (.int .i64 (l:Int)) (.int .i64 4)=some (.int .i64 ((l / 4:Nat):Int)):=by
  rw [fC (by omega) (by omega) (by omega)]
  congr 2
 have w1:(a:Int) + ((l / 4:Nat):Int) * 2 - 1=(w:Int):=by omega
 have w2:(a:Int) + ((l / 4:Nat):Int) * 2 + 1=((w + 2:Nat):Int):=by omega
 have hbn:b ≠ nx:=by omega
 have wl:IntKind.wrap .u64 (l:Int)=l:=e5 (by omega) (by omega)
 refine Abs.Fn.of_c2 follows yi (Nat.le_of_ble_eq_true rfl) ?_
 simp only [zr,cO,cG,cN,cM,cD,cF,cB,av,aF]
 have ls:∀ x y:AV,bg [x] 0 [y]=[y]:=fun _ _=>rfl
 simp only [bg,List.length_cons,List.length_nil,Nat.zero_add] at ls
 (have zz:=aI @te (aI @wl @ls); repeat' (first | refine zW ?_ | apply a_n | refine zO ?_ | refine vZ ?_ | refine alZ ?_ | refine stZ ?_ | (refine zGZ ?_ ?_ <;> (intro _hg; try (exfalso; omega))) | fail)) <;> (try clear zz)
 refine aD ev0 ev0 (wz (x:=l) (by omega) (by omega)) ?_
 rintro _ _ _ ⟨rfl,rfl,k,rfl,hk1,hk2⟩
 obtain ⟨p,hp⟩:∃ p,2 ^ k=p + 1:=⟨2 ^ k - 1,by omega⟩
 rw [hp] at hk1 hk2 ⊢
 (have zz:=aI @te (aI @tq @w1); repeat' (first | refine zW ?_ | apply a_n | refine zO ?_ | refine vZ ?_ | fail)) <;> (try clear zz)
 have wm:IntKind.wrap .u64 (((p + 1:Nat):Int) - 1)=(p:Int):=by rw [e5 (by omega) (by omega)]; omega
 refine be (X:=Nat × List α) (fun x=>[(0,.msl b n 1 0 n),(1,.int .i64 a),(8,.int .i64 l),(9,.ptr nx 1 0),(10,.int .u64 ((p + 1:Nat):Int)),(11,.int .i64 (x.1:Nat))]) (fun x H' nxx=>w ≤ x.1∧x.1 ≤ w + 3∧H' b=some (x.2.map f)∧(∃ s,H' nx=some [.int .u64 s])∧(∀ i,i < nx→i ≠ b→H' i=H i)∧nxx=nx + 1∧PermR a (a + l) L x.2) (fun x=>w + 3 - x.1) (w,L) ⟨Nat.le_refl _,by dsimp only; omega,by dsimp only; rw [ac hbn]; first | exact hH | (rw [ac hbn]; exact hH),⟨_,au⟩,fun i h1 h2=>by rw [ac (by omega)]; first | rfl | exact ac (by omega),rfl,.refl⟩ (by simp (disch:=omega) only [agr,ZG,reduceEqDiff,↓reduceIte,List.length_cons,List.length_nil,Nat.zero_add,true_and]) ?_
 rintro ⟨i,M⟩ H1 nxx ⟨h1,h2,hb1,⟨s,hs⟩,hfr,rfl,hp1⟩
 dsimp only at *
 have hl:M.length=n:=by rw [hp1.len,hn]
 by_cases hi:i=w + 3
 ·subst hi
  (have zz:=aI @tq @w2; repeat' (first | refine zW ?_ | apply a_n | apply a_x | refine zO ?_ | refine vZ ?_ | (refine zGZ ?_ ?_ <;> (intro _hg; try (exfalso; omega))) | refine ae rfl ?_ | fail)) <;> (try clear zz)
  exact ⟨rfl,M,hb1,hfr,hp1⟩
 have ti:((i:Nat):Int) + 1=((i + 1:Nat):Int):=by omega
 (have zz:=aI @tq @w2; repeat' (first | refine zW ?_ | apply a_n | refine zO ?_ | refine vZ ?_ | (refine zGZ ?_ ?_ <;> (intro _hg; try (exfalso; omega))) | fail)) <;> (try clear zz)
 refine aD ev0 ev0 (u3 hs) ?_
 rintro _ _ _ ⟨rfl,s1,rfl,rfl⟩
 obtain ⟨r,hr1,hr2⟩:=qm (a:=s1) (m:=p) (by omega)
 obtain ⟨H2,hH2⟩:∃ H2,an H1 nx [.int .u64 s1]=H2:=⟨_,rfl⟩
 have hb2:H2 b=some (M.map f):=by rw [← hH2,ac hbn]; exact hb1
 have hs2:H2 nx=some [.int .u64 s1]:=by rw [← hH2]; exact au
 have hfr2:∀ i,i < nx→i ≠ b→H2 i=H i:=fun i k1 k2=>by rw [← hH2,ac (by omega)]; exact hfr i k1 k2
 rw [hH2]
 clear hH2 hb1 hs hfr
 obtain ⟨z,hz,hzl⟩:∃ z:Nat,(if l ≤ r then (r:Int) - l else (r:Int))=(z:Int)∧z < l:=by
  split
  ·exact ⟨r - l,by omega,by omega⟩
  ·exact ⟨r,rfl,by omega⟩
 obtain ⟨M1,hl1,lm1,lm2⟩:=b4 (f:=f) (M:=M) (i:=i) (j:=a + z) (by omega) (by omega)
 have lm3:=lm2
 simp only [bg,List.length_cons,List.length_nil,Nat.zero_add] at lm1 lm2
 by_cases hrl:l ≤ r
 ·rw [if_pos hrl] at hz
  (have zz:=aI @wm (aI @hr1 (aI @hz (aI @hb2 (aI @ti (aI @bO (aI hc.cells (aI hc.one (aI @lm1 @lm2)))))))); repeat' (first | refine zW ?_ | apply a_n | refine zO ?_ | refine vZ ?_ | refine stZ ?_ | (refine zGZ ?_ ?_ <;> (intro _hg; try (exfalso; omega))) | fail)) <;> (try clear zz)
  exact ⟨(i + 1,swp M i (a + z)),by dsimp only; omega,⟨by dsimp only; omega,by dsimp only; omega,by dsimp only; rw [am,lm3,au],⟨s1,by rw [am,ac (Ne.symm hbn)]; exact hs2⟩,fun i k1 k2=>by rw [am,ac k2]; exact hfr2 i k1 k2,rfl,hp1.trans (PermR.swap (by omega) (by omega) (by omega))⟩,ag0⟩
 ·rw [if_neg hrl] at hz
  have hz':r=z:=by omega
  subst hz'
  (have zz:=aI @wm (aI @hr1 (aI @hb2 (aI @ti (aI @bO (aI hc.cells (aI hc.one (aI @lm1 @lm2))))))); repeat' (first | refine zW ?_ | apply a_n | refine zO ?_ | refine vZ ?_ | refine stZ ?_ | (refine zGZ ?_ ?_ <;> (intro _hg; try (exfalso; omega))) | fail)) <;> (try clear zz)
  exact ⟨(i + 1,swp M i (a + r)),by dsimp only; omega,⟨by dsimp only; omega,by dsimp only; omega,by dsimp only; rw [am,lm3,au],⟨s1,by rw [am,ac (Ne.symm hbn)]; exact hs2⟩,fun i k1 k2=>by rw [am,ac k2]; exact hfr2 i k1 k2,rfl,hp1.trans (PermR.swap (by omega) (by omega) (by omega))⟩,ag0⟩
end
end Go.Proofs.YtjgpfclngkcedaaGreat
namespace Go.Proofs.YtjgpfclngkcedaaGreat
open Go Go.Abs
structure PS (H H1:Hp) (nx n1 b:Nat) (cs:List AV):Prop where
 at_:H1 b=some cs
 fr:∀ i,i < nx→i ≠ b→H1 i=H i
 le:nx ≤ n1
section
variable {H H1 H2:Hp} {nx n1 n2 b:Nat} {cs cs':List AV}
theorem PS.upd (h:PS H H1 nx n1 b cs):PS H (an H1 b cs') nx n1 b cs':=⟨au,fun i k1 k2=>by rw [ac k2]; exact h.fr i k1 k2,h.le⟩
theorem PS.new {v:List AV} (hb:b < nx) (h:PS H H1 nx n1 b cs):PS H (an H1 n1 v) nx (n1 + 1) b cs :=
 have h1:=h.le
 ⟨by rw [ac (by omega)]; exact h.at_,fun i k1 k2=>by rw [ac (by omega)]; exact h.fr i k1 k2,by omega⟩
theorem PS.rec_ (h:PS H H1 nx n1 b cs) (h1:H2 b=some cs') (h2:∀ i,i < n1→i ≠ b→H2 i=H1 i) (h3:n1 ≤ n2):PS H H2 nx n2 b cs' :=
 have h4:=h.le
 ⟨h1,fun i k1 k2=>by rw [h2 i (by omega) k2]; exact h.fr i k1 k2,by omega⟩
end
section
variable {α:Type} [Inhabited α] {f:α→AV} {K:α→α→Int} {G:α→Prop} {g:Nat} {caps:List AV}
structure PI {α:Type} [Inhabited α] (K:α→α→Int) (a e:Nat) (L:List α) (a1 e1:Nat) (M:List α):Prop where
 lo:a ≤ a1
 mid:a1 ≤ e1
 hi:e1 ≤ e
 len:e ≤ L.length
 perm:PermR a e L M
 low:lQ K a1 e1 M
 close:∀ N,PermR a1 e1 M N→aP K a1 e1 N→aP K a e N
variable {a e a1 e1:Nat} {L M N:List α}
theorem PI.mlen (h:PI K a e L a1 e1 M):e1 ≤ M.length:=by rw [h.perm.len]; exact Nat.le_trans h.hi h.len
theorem PI.start (h1:a ≤ e) (h2:e ≤ L.length) (h3:lQ K a e L):PI K a e L a e L:=⟨Nat.le_refl _,h1,Nat.le_refl _,h2,.refl,h3,fun _ _ h=>h⟩
theorem PI.swap (h:PI K a e L a1 e1 M) (hp:PermR a1 e1 M N):PI K a e L a1 e1 N :=
 ⟨h.lo,h.mid,h.hi,h.len,h.perm.trans (hp.mono h.lo h.hi),h.low.perm hp h.mid h.mlen,fun N' k1 k2=>h.close N' (hp.trans k1) k2⟩
theorem PI.done (h:PI K a e L a1 e1 M) (hp:PermR a1 e1 M N) (hs:aP K a1 e1 N):PermR a e L N∧aP K a e N:=⟨h.perm.trans (hp.mono h.lo h.hi),h.close N hp hs⟩
theorem PI.equal {v:α} {m:Nat} (hK:Ord K) (h:PI K a e L a1 e1 M) (hp:PermR a1 e1 M N) (hv:¬ K (M.getD (a1 - 1) default) v < 0) (ha:0 < a1) (hm:a1 < m∧m ≤ e1) (h1:∀ p,a1 ≤ p→p < m→¬ K v (N.getD p default) < 0) (h2:∀ q,m ≤ q→q < e1→K v (N.getD q default) < 0):PI K a e L m e1 N:=by
 have hN:=h.swap hp
 have hlow:=hN.low
 have ho:N.getD (a1 - 1) default=M.getD (a1 - 1) default:=hp.out _ (.inl (by omega))
 refine ⟨by have:=h.lo; omega,hm.2,h.hi,h.len,hN.perm,fun q k0 k1 k2=>hK.negtr _ _ _ (h1 (m - 1) (by omega) (by omega)) (hK.asym _ _ (h2 q k1 k2)),fun N' k1 k2=>hN.close N' (k1.mono (by omega) (Nat.le_refl _)) (fun p q c1 c2 c3=>?_)⟩
 by_cases e1':m ≤ p
 ·exact k2 p q e1' c2 c3
 ·rw [k1.out p (.inl (by omega))]
  refine hK.negtr _ _ _ (h1 p c1 (by omega)) ?_
  by_cases e2:m ≤ q
  ·exact hK.asym _ _ (k1.all (p:=fun x=>K v x < 0) hm.2 hN.mlen h2 q e2 c3)
  ·rw [k1.out q (.inl (by omega))]
   exact hK.negtr _ _ _ hv (by rw [← ho]; exact hlow q ha (by omega) c3)
theorem aP.glue {m:Nat} (hK:Ord K) (h1:aP K a1 m N) (h2:aP K (m + 1) e1 N) (h3:∀ p,a1 ≤ p→p < m→¬ K (N.getD m default) (N.getD p default) < 0) (h4:∀ q,m < q→q < e1→¬ K (N.getD q default) (N.getD m default) < 0):aP K a1 e1 N:=fun p q k1 k2 k3=>by
 by_cases c1:q < m
 ·exact h1 p q k1 k2 c1
 ·by_cases c2:m < p
  ·exact h2 p q c2 k2 k3
  ·by_cases c3:p=m
   ·subst c3; exact h4 q (by omega) k3
   ·by_cases c4:q=m
    ·subst c4; exact h3 p k1 k2
    ·exact hK.negtr _ _ _ (h3 p k1 (by omega)) (h4 q (by omega) k3)
structure TwoS {α:Type} [Inhabited α] (K:α→α→Int) (a1 e1 m:Nat) (N:List α):Prop where
 mid:a1 ≤ m∧m < e1
 lt:∀ p,a1 ≤ p→p < m→¬ K (N.getD m default) (N.getD p default) < 0
 ge:∀ q,m < q→q < e1→¬ K (N.getD q default) (N.getD m default) < 0
theorem TwoS.left {m:Nat} {N':List α} (h:TwoS K a1 e1 m N) (hp:PermR a1 m N N') (hl:e1 ≤ N.length):TwoS K a1 e1 m N' :=
 have hm:=h.mid
 ⟨hm,by
  rw [hp.out m (.inr (Nat.le_refl _))]
  exact hp.all (p:=fun x=>¬ K (N.getD m default) x < 0) hm.1 (by omega) h.lt,fun q k1 k2=>by rw [hp.out m (.inr (Nat.le_refl _)),hp.out q (.inr (by omega))]; exact h.ge q k1 k2⟩
theorem TwoS.right {m:Nat} {N':List α} (h:TwoS K a1 e1 m N) (hp:PermR (m + 1) e1 N N') (hl:e1 ≤ N.length):TwoS K a1 e1 m N' :=
 have hm:=h.mid
 ⟨hm,fun p k1 k2=>by rw [hp.out m (.inl (by omega)),hp.out p (.inl (by omega))]; exact h.lt p k1 k2,by
  rw [hp.out m (.inl (by omega))]
  exact fun q k1 k2=>hp.all (p:=fun x=>¬ K x (N.getD m default) < 0) (by omega) hl (fun i c1 c2=>h.ge i (by omega) c2) q (by omega) k2⟩
theorem PI.left {m:Nat} (hK:Ord K) (h:PI K a e L a1 e1 M) (ht:TwoS K a1 e1 m M) (hp:PermR a1 m M N) (hs:aP K a1 m N):PI K a e L (m + 1) e1 N:=by
 have hm:=ht.mid
 have hN:=h.swap (hp.mono (Nat.le_refl _) (by omega))
 have htN:=ht.left hp h.mlen
 refine ⟨by have:=h.lo; omega,by omega,h.hi,h.len,hN.perm,fun q k0 k1 k2=>by rw [Nat.add_sub_cancel]; exact htN.ge q k1 k2,fun N' k1 k2=>hN.close N' (k1.mono (by omega) (Nat.le_refl _)) ?_⟩
 have ht':=htN.right k1 hN.mlen
 exact aP.glue hK (fun p q c1 c2 c3=>by rw [k1.out p (.inl (by omega)),k1.out q (.inl (by omega))]; exact hs p q c1 c2 c3) k2 ht'.lt ht'.ge
theorem PI.right {m:Nat} (hK:Ord K) (h:PI K a e L a1 e1 M) (ht:TwoS K a1 e1 m M) (hp:PermR (m + 1) e1 M N) (hs:aP K (m + 1) e1 N):PI K a e L a1 m N:=by
 have hm:=ht.mid
 have hN:=h.swap (hp.mono (by omega) (Nat.le_refl _))
 have htN:=ht.right hp h.mlen
 refine ⟨h.lo,hm.1,by have:=h.hi; omega,h.len,hN.perm,fun q k0 k1 k2=>hN.low q k0 k1 (by omega),fun N' k1 k2=>hN.close N' (k1.mono (Nat.le_refl _) (by omega)) ?_⟩
 have ht':=htN.left k1 hN.mlen
 exact aP.glue hK k2 (fun p q c1 c2 c3=>by rw [k1.out p (.inr (by omega)),k1.out q (.inr (by omega))]; exact hs p q c1 c2 c3) ht'.lt ht'.ge
theorem lQ.sub {a e a' e':Nat} {M:List α} (h:lQ K a e M) (ha:a'=a) (he:e' ≤ e):lQ K a' e' M:=fun q k0 k1 k2=>by subst ha; exact h q k0 k1 (by omega)
end
end Go.Proofs.YtjgpfclngkcedaaGreat
namespace Go.Proofs.YtjgpfclngkcedaaGreat
open Go Go.Abs
section
variable {α:Type} [Inhabited α] {f:α→AV} {K:α→α→Int} {G:α→Prop} {g:Nat} {caps:List AV}
attribute [local irreducible] aA ag aU aO aE aH ay aJ aQ aZ Go.Abs.Fn aL Go.Abs.Pure ak aB Yl
theorem A8 (hc:Cmp Tryz.prog f K G g caps) {b n:Nat} (hn2:n ≤ 1000000000):∀ (sz a e lim:Nat) (L:List α) (H:Hp) (nx:Nat),e - a < sz→H b=some (L.map f)→b < nx→L.length=n→(∀ x ∈ L,G x)→a ≤ e→e ≤ n→lim ≤ 64→lQ K a e L →
    Abs.Fn Tryz.prog 130 [.msl b n 1 0 n,.int .i64 a,.int .i64 e,.int .i64 lim,.func g caps] H nx fun r H' nx'=>∃ L',PS H H' nx nx' b (L'.map f)∧PermR a e L L'∧aP K a e L':=by
 intro sz
 induction sz with
 | zero=>intro a e lim L H nx h; omega
 | succ sz ih =>
 intro a e lim L H nx hsz hH hbx hn hG hae hen hlim hlow
 have dcap:=hc.dcaps
 refine Abs.Fn.of_c2 follows u4 (Nat.le_of_ble_eq_true rfl) ?_
 simp only [wW,cO,cG,cN,cM,cD,cF,cB,av,aF]
 (have zz:=and_self; repeat' (first | refine zW ?_ | apply a_n | refine zO ?_ | refine vZ ?_ | fail)) <;> (try clear zz)
 refine be (X:=Nat × Nat × Nat × Bool × Bool × List α) (fun x=>[(0,.msl b n 1 0 n),(1,.int .i64 (x.1:Nat)),(2,.int .i64 (x.2.1:Nat)),(3,.int .i64 (x.2.2.1:Nat)),(4,.func g caps),(10,.bool x.2.2.2.1),(11,.bool x.2.2.2.2.1)]) (fun x H' nxx=>PI K a e L x.1 x.2.1 x.2.2.2.2.2∧PS H H' nx nxx b (x.2.2.2.2.2.map f)∧x.2.2.1 ≤ 64) (fun x=>x.2.1 - x.1) (a,e,lim,true,true,L) ⟨.start hae (by rw [hn]; exact hen) hlow,⟨hH,fun _ _ _=>rfl,Nat.le_refl _⟩,hlim⟩ ag0 ?_
 clear hlim hlow lim
 rintro ⟨a1,e1,lim,wb,wp,M⟩ H1 n1 ⟨hpi,hps,hlim⟩
 dsimp only at *
 have hlo:=hpi.lo; have hmid:=hpi.mid; have hhi:=hpi.hi
 obtain ⟨l,hl0⟩:∃ l,e1 - a1=l:=⟨_,rfl⟩
 rw [hl0]
 have te:(e1:Int) - (a1:Int)=(l:Int):=by omega
 have hlen:∀ M:List α,PI K a e L a1 e1 M→M.length=n:=fun M h=>by rw [h.perm.len,hn]
 have hGA:∀ M:List α,PI K a e L a1 e1 M→∀ x ∈ M,G x:=fun M h=>h.perm.mem hG
 have hbn:∀ (M:List α) (H1:Hp) (n1:Nat),PS H H1 nx n1 b (M.map f)→b < n1:=fun M H1 n1 h=>by have:=h.le; omega
 obtain ⟨T,hT,t0,t1,t2,t3,t4,t10,t11⟩:∃ T,tl [(0,.msl b n 1 0 n),(1,.int .i64 (a1:Nat)),(2,.int .i64 (e1:Nat)),(3,.int .i64 (lim:Nat)),(4,.func g caps),(10,.bool wb),(11,.bool wp)]=T∧T 0=.msl b n 1 0 n∧T 1=.int .i64 (a1:Nat)∧T 2=.int .i64 (e1:Nat)∧T 3=.int .i64 (lim:Nat)∧T 4=.func g caps∧T 10=.bool wb∧T 11=.bool wp:=⟨_,rfl,rfl,rfl,rfl,rfl,rfl,rfl,rfl⟩
 rw [hT]
 clear hT
 refine cU ?_
 refine aS (fun T H'' nx''=>T 0=.msl b n 1 0 n∧T 1=.int .i64 (a1:Nat)∧T 2=.int .i64 (e1:Nat)∧T 3=.int .i64 (lim:Nat)∧T 4=.func g caps∧T 10=.bool wb∧T 11=.bool wp∧T 12=.int .i64 (l:Nat)∧H1=H''∧n1=nx'') ?_ ?_
 ·(have zz:=aI @t0 (aI @t1 (aI @t2 (aI @t3 (aI @t4 (aI @t10 (aI @t11 @te)))))); repeat' (first | apply a_n | refine zO ?_ | refine vZ ?_ | fail)) <;> (try clear zz)
  exact ⟨(have zz:=@t0; evZ),(have zz:=@t1; evZ),(have zz:=@t2; evZ),(have zz:=@t3; evZ),(have zz:=@t4; evZ),(have zz:=@t10; evZ),(have zz:=@t11; evZ),ev0,rfl,rfl⟩
 clear t0 t1 t2 t3 t4 t10 t11
 rintro T _ _ ⟨t0,t1,t2,t3,t4,t10,t11,t12,rfl,rfl⟩
 refine aS (fun T H'' nx''=>T 0=.msl b n 1 0 n∧T 1=.int .i64 (a1:Nat)∧T 2=.int .i64 (e1:Nat)∧T 3=.int .i64 (lim:Nat)∧T 4=.func g caps∧T 10=.bool wb∧T 11=.bool wp∧T 12=.int .i64 (l:Nat)∧13 ≤ l∧H1=H''∧n1=nx'') ?_ ?_
 ·by_cases h12:l ≤ 12
  ·(have zz:=aI @t0 (aI @t1 (aI @t2 (aI @t3 (aI @t4 (aI @t10 (aI @t11 @t12)))))); repeat' (first | refine zW ?_ | apply a_n | refine zO ?_ | refine vZ ?_ | (refine zGZ ?_ ?_ <;> (intro _hg; try (exfalso; omega))) | fail)) <;> (try clear zz)
   refine aD ev0 (have zz:=aI @t0 (aI @t1 (aI @t2 (aI @t3 (aI @t4 (aI @t10 (aI @t11 @t12)))))); evZ) (BE hc (b:=b) hps.at_ (hlen _ hpi) (hGA _ hpi) (a:=a1) (e:=e1) hmid (by omega) hn2) ?_
   rintro _ _ _ ⟨rfl,N,rfl,hpN,hsN⟩
   (have zz:=and_self; repeat' (first | apply a_n | apply a_r | refine zO ?_ | refine ae rfl ?_ | fail)) <;> (try clear zz)
   exact ⟨N,hps.upd,hpi.done hpN hsN⟩
  ·(have zz:=aI @t0 (aI @t1 (aI @t2 (aI @t3 (aI @t4 (aI @t10 (aI @t11 @t12)))))); repeat' (first | refine zW ?_ | apply a_n | refine zO ?_ | refine vZ ?_ | (refine zGZ ?_ ?_ <;> (intro _hg; try (exfalso; omega))) | fail)) <;> (try clear zz)
   exact ⟨(have zz:=@t0; evZ),(have zz:=@t1; evZ),(have zz:=@t2; evZ),(have zz:=@t3; evZ),(have zz:=@t4; evZ),(have zz:=@t10; evZ),(have zz:=@t11; evZ),(have zz:=@t12; evZ),by omega,rfl,rfl⟩
 clear t0 t1 t2 t3 t4 t10 t11 t12
 rintro T _ _ ⟨t0,t1,t2,t3,t4,t10,t11,t12,h13,rfl,rfl⟩
 refine aS (fun T H'' nx''=>T 0=.msl b n 1 0 n∧T 1=.int .i64 (a1:Nat)∧T 2=.int .i64 (e1:Nat)∧T 3=.int .i64 (lim:Nat)∧T 4=.func g caps∧T 10=.bool wb∧T 11=.bool wp∧T 12=.int .i64 (l:Nat)∧0 < lim∧H1=H''∧n1=nx'') ?_ ?_
 ·by_cases h12:lim=0
  ·subst h12
   have tz:decide (((0:Nat):Int)=0)=true:=rfl
   (have zz:=aI @t0 (aI @t1 (aI @t2 (aI @t3 (aI @t4 (aI @t10 (aI @t11 (aI @t12 @tz))))))); repeat' (first | refine zW ?_ | apply a_n | refine zO ?_ | refine vZ ?_ | refine cTZ ?_ | fail)) <;> (try clear zz)
   refine aD ev0 (have zz:=aI @t0 (aI @t1 (aI @t2 (aI @t3 (aI @t4 (aI @t10 (aI @t11 @t12)))))); evZ) (z7 hc (b:=b) hps.at_ (hlen _ hpi) (hGA _ hpi) (a:=a1) (e:=e1) hmid (by omega) hn2) ?_
   rintro _ _ _ ⟨rfl,N,rfl,hpN,hsN⟩
   (have zz:=and_self; repeat' (first | apply a_n | apply a_r | refine zO ?_ | refine ae rfl ?_ | fail)) <;> (try clear zz)
   exact ⟨N,hps.upd,hpi.done hpN hsN⟩
  ·have tz:decide ((lim:Int)=0)=false:=decide_eq_false (by omega)
   (have zz:=aI @t0 (aI @t1 (aI @t2 (aI @t3 (aI @t4 (aI @t10 (aI @t11 (aI @t12 @tz))))))); repeat' (first | refine zW ?_ | apply a_n | refine zO ?_ | refine vZ ?_ | refine cFZ ?_ | fail)) <;> (try clear zz)
   exact ⟨(have zz:=@t0; evZ),(have zz:=@t1; evZ),(have zz:=@t2; evZ),(have zz:=@t3; evZ),(have zz:=@t4; evZ),(have zz:=@t10; evZ),(have zz:=@t11; evZ),(have zz:=@t12; evZ),by omega,rfl,rfl⟩
 clear t0 t1 t2 t3 t4 t10 t11 t12
 rintro T _ _ ⟨t0,t1,t2,t3,t4,t10,t11,t12,hlim1,rfl,rfl⟩
 refine aS (fun T H'' nx''=>∃ (lim:Nat) (M:List α),lim ≤ 64∧PI K a e L a1 e1 M∧PS H H'' nx nx'' b (M.map f)∧T 0=.msl b n 1 0 n∧T 1=.int .i64 (a1:Nat)∧T 2=.int .i64 (e1:Nat)∧T 3=.int .i64 (lim:Nat)∧T 4=.func g caps∧T 10=.bool wb∧T 11=.bool wp∧T 12=.int .i64 (l:Nat)) ?_ ?_
 ·cases wb
  ·obtain ⟨k,rfl⟩:∃ k,lim=k + 1:=⟨lim - 1,by omega⟩
   have tk:((k + 1:Nat):Int) - 1=(k:Int):=by omega
   (have zz:=aI @t0 (aI @t1 (aI @t2 (aI @t3 (aI @t4 (aI @t10 (aI @t11 @t12)))))); repeat' (first | refine zW ?_ | apply a_n | refine zO ?_ | refine vZ ?_ | refine cTZ ?_ | fail)) <;> (try clear zz)
   refine aD ev0 (have zz:=aI @t0 (aI @t1 (aI @t2 (aI @t3 (aI @t4 (aI @t10 (aI @t11 @t12)))))); evZ) (xy hc (b:=b) hps.at_ (hbn _ _ _ hps) (hlen _ hpi) (a:=a1) (e:=e1) (by omega) (by omega) hn2) ?_
   rintro _ _ _ ⟨rfl,N,hN1,hN2,hpN⟩
   (have zz:=aI @t0 (aI @t1 (aI @t2 (aI @t3 (aI @t4 (aI @t10 (aI @t11 (aI @t12 @tk))))))); repeat' (first | apply a_n | refine zO ?_ | refine vZ ?_ | fail)) <;> (try clear zz)
   exact ⟨k,N,by omega,hpi.swap hpN,hps.rec_ hN1 hN2 (Nat.le_succ _),(have zz:=@t0; evZ),(have zz:=@t1; evZ),(have zz:=@t2; evZ),(have zz:=@t3; evZ),(have zz:=@t4; evZ),(have zz:=@t10; evZ),(have zz:=@t11; evZ),(have zz:=@t12; evZ)⟩
  ·(have zz:=aI @t0 (aI @t1 (aI @t2 (aI @t3 (aI @t4 (aI @t10 (aI @t11 @t12)))))); repeat' (first | refine zW ?_ | apply a_n | refine zO ?_ | refine vZ ?_ | refine cFZ ?_ | fail)) <;> (try clear zz)
   exact ⟨lim,M,hlim,hpi,hps,(have zz:=@t0; evZ),(have zz:=@t1; evZ),(have zz:=@t2; evZ),(have zz:=@t3; evZ),(have zz:=@t4; evZ),(have zz:=@t10; evZ),(have zz:=@t11; evZ),(have zz:=@t12; evZ)⟩
 clear t0 t1 t2 t3 t4 t10 t11 t12 hpi hps hlim hlim1
 rintro T H1 n1 ⟨lim,M,hlim,hpi,hps,t0,t1,t2,t3,t4,t10,t11,t12⟩
 refine aS (fun T H'' nx''=>∃ (p:Nat) (hint:Int),a1 ≤ p∧p < e1∧PS H H'' nx nx'' b (M.map f)∧T 0=.msl b n 1 0 n∧T 1=.int .i64 (a1:Nat)∧T 2=.int .i64 (e1:Nat)∧T 3=.int .i64 (lim:Nat)∧T 4=.func g caps∧T 10=.bool wb∧T 11=.bool wp∧T 12=.int .i64 (l:Nat)∧T 13=.int .i64 (p:Nat)∧T 14=.int .i64 hint) ?_ ?_
 ·(have zz:=aI @t0 (aI @t1 (aI @t2 (aI @t3 (aI @t4 (aI @t10 (aI @t11 @t12)))))); repeat' (first | apply a_n | refine zO ?_ | refine vZ ?_ | fail)) <;> (try clear zz)
  refine aD ev0 (have zz:=aI @t0 (aI @t1 (aI @t2 (aI @t3 (aI @t4 (aI @t10 (aI @t11 @t12)))))); evZ) (uU hc (b:=b) hps.at_ (hbn _ _ _ hps) (hlen _ hpi) (hGA _ hpi) (a:=a1) (e:=e1) (by omega) (by omega) hn2) ?_
  rintro _ _ _ ⟨rfl,p,hint,v,rfl,hp1,hp2,rfl⟩
  (have zz:=aI @t0 (aI @t1 (aI @t2 (aI @t3 (aI @t4 (aI @t10 (aI @t11 @t12)))))); repeat' (first | apply a_n | refine zO ?_ | refine vZ ?_ | fail)) <;> (try clear zz)
  exact ⟨p,hint,hp1,hp2,hps.new hbx,(have zz:=@t0; evZ),(have zz:=@t1; evZ),(have zz:=@t2; evZ),(have zz:=@t3; evZ),(have zz:=@t4; evZ),(have zz:=@t10; evZ),(have zz:=@t11; evZ),(have zz:=@t12; evZ),ev0,ev0⟩
 clear t0 t1 t2 t3 t4 t10 t11 t12 hps
 rintro T H1 n1 ⟨p,hint,hp1,hp2,hps,t0,t1,t2,t3,t4,t10,t11,t12,t13,t14⟩
 refine aS (fun T H'' nx''=>∃ (p:Nat) (hint:Int) (M:List α),a1 ≤ p∧p < e1∧PI K a e L a1 e1 M∧PS H H'' nx nx'' b (M.map f)∧T 0=.msl b n 1 0 n∧T 1=.int .i64 (a1:Nat)∧T 2=.int .i64 (e1:Nat)∧T 3=.int .i64 (lim:Nat)∧T 4=.func g caps∧T 10=.bool wb∧T 11=.bool wp∧T 12=.int .i64 (l:Nat)∧T 13=.int .i64 (p:Nat)∧T 14=.int .i64 hint) ?_ ?_
 ·by_cases h2:hint=2
  ·subst h2
   obtain ⟨p2,hp3⟩:∃ p2,e1 - 1 - (p - a1)=p2:=⟨_,rfl⟩
   have tp:(e1:Int) - 1 - ((p:Int) - (a1:Int))=(p2:Int):=by omega
   have tz:decide ((2:Int)=2)=true:=rfl
   (have zz:=aI @t0 (aI @t1 (aI @t2 (aI @t3 (aI @t4 (aI @t10 (aI @t11 (aI @t12 (aI @t13 (aI @t14 @tz))))))))); repeat' (first | refine zW ?_ | apply a_n | refine zO ?_ | refine vZ ?_ | (refine zGZ ?_ ?_ <;> (intro _hg; try (exfalso; omega))) | fail)) <;> (try clear zz)
   refine aD ev0 (have zz:=aI @t0 (aI @t1 (aI @t2 (aI @t3 (aI @t4 (aI @t10 (aI @t11 @t12)))))); evZ) (BJ hc (b:=b) hps.at_ (hlen _ hpi) (a:=a1) (e:=e1) (by omega) (by omega) hn2) ?_
   rintro _ _ _ ⟨rfl,N,rfl,hpN⟩
   (have zz:=aI @t0 (aI @t1 (aI @t2 (aI @t3 (aI @t4 (aI @t10 (aI @t11 (aI @t12 (aI @t13 (aI @t14 @tp))))))))); repeat' (first | refine zW ?_ | apply a_n | refine zO ?_ | refine vZ ?_ | fail)) <;> (try clear zz)
   exact ⟨p2,1,N,by omega,by omega,hpi.swap hpN,hps.upd,(have zz:=@t0; evZ),(have zz:=@t1; evZ),(have zz:=@t2; evZ),(have zz:=@t3; evZ),(have zz:=@t4; evZ),(have zz:=@t10; evZ),(have zz:=@t11; evZ),(have zz:=@t12; evZ),ev0,ev0⟩
  ·have tz:decide (hint=2)=false:=decide_eq_false h2
   (have zz:=aI @t0 (aI @t1 (aI @t2 (aI @t3 (aI @t4 (aI @t10 (aI @t11 (aI @t12 (aI @t13 (aI @t14 @tz))))))))); repeat' (first | refine zW ?_ | apply a_n | refine zO ?_ | refine vZ ?_ | refine cFZ ?_ | fail)) <;> (try clear zz)
   exact ⟨p,hint,M,hp1,hp2,hpi,hps,(have zz:=@t0; evZ),(have zz:=@t1; evZ),(have zz:=@t2; evZ),(have zz:=@t3; evZ),(have zz:=@t4; evZ),(have zz:=@t10; evZ),(have zz:=@t11; evZ),(have zz:=@t12; evZ),(have zz:=@t13; evZ),(have zz:=@t14; evZ)⟩
 clear t0 t1 t2 t3 t4 t10 t11 t12 t13 t14 hps hpi hp1 hp2
 rintro T H1 n1 ⟨p,hint,M,hp1,hp2,hpi,hps,t0,t1,t2,t3,t4,t10,t11,t12,t13,t14⟩
 refine aS (fun T H'' nx''=>∃ (M:List α),PI K a e L a1 e1 M∧PS H H'' nx nx'' b (M.map f)∧T 0=.msl b n 1 0 n∧T 1=.int .i64 (a1:Nat)∧T 2=.int .i64 (e1:Nat)∧T 3=.int .i64 (lim:Nat)∧T 4=.func g caps∧T 10=.bool wb∧T 11=.bool wp∧T 12=.int .i64 (l:Nat)∧T 13=.int .i64 (p:Nat)) ?_ ?_
 ·cases wb
  ·cases wp
   ·(have zz:=aI @t0 (aI @t1 (aI @t2 (aI @t3 (aI @t4 (aI @t10 (aI @t11 (aI @t12 (aI @t13 @t14)))))))); repeat' (first | refine zW ?_ | apply a_n | refine zO ?_ | refine vZ ?_ | refine gFZ ?_ | refine cFZ ?_ | fail)) <;> (try clear zz)
    exact ⟨M,hpi,hps,(have zz:=@t0; evZ),(have zz:=@t1; evZ),(have zz:=@t2; evZ),(have zz:=@t3; evZ),(have zz:=@t4; evZ),(have zz:=@t10; evZ),(have zz:=@t11; evZ),(have zz:=@t12; evZ),(have zz:=@t13; evZ)⟩
   ·(have zz:=aI @t0 (aI @t1 (aI @t2 (aI @t3 (aI @t4 (aI @t10 (aI @t11 (aI @t12 (aI @t13 @t14)))))))); repeat' (first | refine zW ?_ | apply a_n | refine zO ?_ | refine vZ ?_ | refine gFZ ?_ | refine cFZ ?_ | fail)) <;> (try clear zz)
    exact ⟨M,hpi,hps,(have zz:=@t0; evZ),(have zz:=@t1; evZ),(have zz:=@t2; evZ),(have zz:=@t3; evZ),(have zz:=@t4; evZ),(have zz:=@t10; evZ),(have zz:=@t11; evZ),(have zz:=@t12; evZ),(have zz:=@t13; evZ)⟩
  ·cases wp
   ·(have zz:=aI @t0 (aI @t1 (aI @t2 (aI @t3 (aI @t4 (aI @t10 (aI @t11 (aI @t12 (aI @t13 @t14)))))))); repeat' (first | refine zW ?_ | apply a_n | refine zO ?_ | refine vZ ?_ | refine gTZ ?_ | refine gFZ ?_ | refine cFZ ?_ | fail)) <;> (try clear zz)
    exact ⟨M,hpi,hps,(have zz:=@t0; evZ),(have zz:=@t1; evZ),(have zz:=@t2; evZ),(have zz:=@t3; evZ),(have zz:=@t4; evZ),(have zz:=@t10; evZ),(have zz:=@t11; evZ),(have zz:=@t12; evZ),(have zz:=@t13; evZ)⟩
   ·by_cases h1:hint=1
    ·subst h1
     have tz:decide ((1:Int)=1)=true:=rfl
     (have zz:=aI @t0 (aI @t1 (aI @t2 (aI @t3 (aI @t4 (aI @t10 (aI @t11 (aI @t12 (aI @t13 (aI @t14 @tz))))))))); repeat' (first | refine zW ?_ | apply a_n | refine zO ?_ | refine vZ ?_ | refine gTZ ?_ | (refine zGZ ?_ ?_ <;> (intro _hg; try (exfalso; omega))) | fail)) <;> (try clear zz)
     refine aD ev0 (have zz:=aI @t0 (aI @t1 (aI @t2 (aI @t3 (aI @t4 (aI @t10 (aI @t11 @t12)))))); evZ) (uB hc (b:=b) hps.at_ (hlen _ hpi) (hGA _ hpi) (a:=a1) (e:=e1) (by omega) (by omega) hn2 hpi.low) ?_
     rintro _ _ _ ⟨rfl,N,t,rfl,rfl,hpN,hsN⟩
     cases t
     ·(have zz:=aI @t0 (aI @t1 (aI @t2 (aI @t3 (aI @t4 (aI @t10 (aI @t11 (aI @t12 (aI @t13 @t14)))))))); repeat' (first | apply a_n | refine zO ?_ | refine cFZ ?_ | fail)) <;> (try clear zz)
      exact ⟨N,hpi.swap hpN,hps.upd,(have zz:=@t0; evZ),(have zz:=@t1; evZ),(have zz:=@t2; evZ),(have zz:=@t3; evZ),(have zz:=@t4; evZ),(have zz:=@t10; evZ),(have zz:=@t11; evZ),(have zz:=@t12; evZ),(have zz:=@t13; evZ)⟩
     ·(have zz:=aI @t0 (aI @t1 (aI @t2 (aI @t3 (aI @t4 (aI @t10 (aI @t11 (aI @t12 (aI @t13 @t14)))))))); repeat' (first | apply a_n | apply a_r | refine zO ?_ | refine cTZ ?_ | refine ae rfl ?_ | fail)) <;> (try clear zz)
      exact ⟨N,hps.upd,hpi.done hpN (hsN rfl)⟩
    ·have tz:decide (hint=1)=false:=decide_eq_false h1
     (have zz:=aI @t0 (aI @t1 (aI @t2 (aI @t3 (aI @t4 (aI @t10 (aI @t11 (aI @t12 (aI @t13 (aI @t14 @tz))))))))); repeat' (first | refine zW ?_ | apply a_n | refine zO ?_ | refine vZ ?_ | refine gTZ ?_ | refine cFZ ?_ | fail)) <;> (try clear zz)
     exact ⟨M,hpi,hps,(have zz:=@t0; evZ),(have zz:=@t1; evZ),(have zz:=@t2; evZ),(have zz:=@t3; evZ),(have zz:=@t4; evZ),(have zz:=@t10; evZ),(have zz:=@t11; evZ),(have zz:=@t12; evZ),(have zz:=@t13; evZ)⟩
 clear t0 t1 t2 t3 t4 t10 t11 t12 t13 t14 hps hpi hint
 rintro T H1 n1 ⟨M,hpi,hps,t0,t1,t2,t3,t4,t10,t11,t12,t13⟩
 have hbb:=hps.at_
 have hl:=hlen _ hpi
 have hGM:=hGA _ hpi
 refine aS (fun T H'' nx''=>T 0=.msl b n 1 0 n∧T 1=.int .i64 (a1:Nat)∧T 2=.int .i64 (e1:Nat)∧T 3=.int .i64 (lim:Nat)∧T 4=.func g caps∧T 10=.bool wb∧T 11=.bool wp∧T 12=.int .i64 (l:Nat)∧T 13=.int .i64 (p:Nat)∧H1=H''∧n1=nx'') ?_ ?_
 ·by_cases ha0:a1=0
  ·have tz:decide ((0:Int) < (a1:Int))=false:=decide_eq_false (by omega)
   (have zz:=aI @t0 (aI @t1 (aI @t2 (aI @t3 (aI @t4 (aI @t10 (aI @t11 (aI @t12 (aI @t13 @tz)))))))); repeat' (first | refine zW ?_ | refine zM ?_ | apply a_n | refine zO ?_ | refine vZ ?_ | refine gFZ ?_ | refine cFZ ?_ | fail)) <;> (try clear zz)
   exact ⟨(have zz:=@t0; evZ),(have zz:=@t1; evZ),(have zz:=@t2; evZ),(have zz:=@t3; evZ),(have zz:=@t4; evZ),(have zz:=@t10; evZ),(have zz:=@t11; evZ),(have zz:=@t12; evZ),(have zz:=@t13; evZ),rfl,rfl⟩
  have tz:decide ((0:Int) < (a1:Int))=true:=decide_eq_true (by omega)
  obtain ⟨k,hk⟩:∃ k,a1 - 1=k:=⟨_,rfl⟩
  have tk:(a1:Int) - 1=(k:Int):=by omega
  have lc:=hc.run (M.getD k default) (M.getD p default) (hGM _ (ai (by omega))) (hGM _ (ai (by omega)))
  have d1:=hc.dat (M.getD k default)
  have d2:=hc.dat (M.getD p default)
  generalize hKK:K (M.getD k default) (M.getD p default)=kk at lc
  by_cases hlt:kk < 0
  ·(have zz:=aI @t0 (aI @t1 (aI @t2 (aI @t3 (aI @t4 (aI @t10 (aI @t11 (aI @t12 (aI @t13 (aI @tz (aI @tk (aI @hbb (aI @Int.toNat_natCast (aI hc.cells hc.one))))))))))))); repeat' (first | refine zW ?_ | refine zM ?_ | apply a_n | refine zO ?_ | refine vZ ?_ | refine cZ ?_ (hp:=lc) (hs:=by (first | refine ah ?_ rfl | apply ap); (repeat' (first | exact af | apply aC | apply aq | exact d1 | exact d2 | exact ao dcap)); first | done | fail) | refine gTZ ?_ | (refine zGZ ?_ ?_ <;> (intro _hg; try (exfalso; omega))) | fail)) <;> (try clear zz)
   exact ⟨(have zz:=@t0; evZ),(have zz:=@t1; evZ),(have zz:=@t2; evZ),(have zz:=@t3; evZ),(have zz:=@t4; evZ),(have zz:=@t10; evZ),(have zz:=@t11; evZ),(have zz:=@t12; evZ),(have zz:=@t13; evZ),rfl,rfl⟩
  ·(have zz:=aI @t0 (aI @t1 (aI @t2 (aI @t3 (aI @t4 (aI @t10 (aI @t11 (aI @t12 (aI @t13 (aI @tz (aI @tk (aI @hbb (aI @Int.toNat_natCast (aI hc.cells hc.one))))))))))))); repeat' (first | refine zW ?_ | refine zM ?_ | apply a_n | refine zO ?_ | refine vZ ?_ | refine cZ ?_ (hp:=lc) (hs:=by (first | refine ah ?_ rfl | apply ap); (repeat' (first | exact af | apply aC | apply aq | exact d1 | exact d2 | exact ao dcap)); first | done | fail) | refine gTZ ?_ | (refine zGZ ?_ ?_ <;> (intro _hg; try (exfalso; omega))) | fail)) <;> (try clear zz)
   refine aD ev0 (have zz:=aI @t0 (aI @t1 (aI @t2 (aI @t3 (aI @t4 (aI @t10 (aI @t11 (aI @t12 @t13))))))); evZ) (wx hc (b:=b) hps.at_ (hlen _ hpi) (hGA _ hpi) (a:=a1) (e:=e1) (pv:=p) (by omega) (by omega) hn2 ⟨hp1,hp2⟩) ?_
   rintro _ _ _ ⟨rfl,N,m,rfl,hm1,hm2,rfl,hpN,q1,q2⟩
   (have zz:=aI @t0 (aI @t1 (aI @t2 (aI @t3 (aI @t4 (aI @t10 (aI @t11 (aI @t12 @t13))))))); repeat' (first | refine zW ?_ | apply a_n | apply a_x | refine zO ?_ | refine vZ ?_ | fail)) <;> (try clear zz)
   exact ⟨(m,e1,lim,wb,wp,N),by dsimp only; omega,⟨hpi.equal hc.ord hpN (by rw [hk,hKK]; exact hlt) (by omega) ⟨hm1,hm2⟩ q1 q2,hps.upd,hlim⟩,(have zz:=aI @t0 (aI @t1 (aI @t2 (aI @t3 (aI @t4 (aI @t10 (aI @t11 @t12)))))); agZ)⟩
 clear t0 t1 t2 t3 t4 t10 t11 t12 t13
 rintro T _ _ ⟨t0,t1,t2,t3,t4,t10,t11,t12,t13,rfl,rfl⟩
 refine aS (fun T H'' nx''=>∃ (M:List α) (m:Nat) (t:Bool),PI K a e L a1 e1 M∧TwoS K a1 e1 m M∧PS H H'' nx nx'' b (M.map f)∧T 0=.msl b n 1 0 n∧T 1=.int .i64 (a1:Nat)∧T 2=.int .i64 (e1:Nat)∧T 3=.int .i64 (lim:Nat)∧T 4=.func g caps∧T 10=.bool wb∧T 11=.bool wp∧T 12=.int .i64 (l:Nat)∧T 16=.int .i64 (m:Nat)∧T 17=.bool t) ?_ ?_
 ·(have zz:=aI @t0 (aI @t1 (aI @t2 (aI @t3 (aI @t4 (aI @t10 (aI @t11 (aI @t12 @t13))))))); repeat' (first | apply a_n | refine zO ?_ | refine vZ ?_ | fail)) <;> (try clear zz)
  refine aD ev0 (have zz:=aI @t0 (aI @t1 (aI @t2 (aI @t3 (aI @t4 (aI @t10 (aI @t11 (aI @t12 @t13))))))); evZ) (zY hc (b:=b) hps.at_ (hlen _ hpi) (hGA _ hpi) (a:=a1) (e:=e1) (pv:=p) (by omega) (by omega) hn2 ⟨hp1,hp2⟩) ?_
  rintro _ _ _ ⟨rfl,N,m,t,rfl,hm1,hm2,rfl,hpN,q1,q2⟩
  (have zz:=aI @t0 (aI @t1 (aI @t2 (aI @t3 (aI @t4 (aI @t10 (aI @t11 (aI @t12 @t13))))))); repeat' (first | apply a_n | refine zO ?_ | refine vZ ?_ | fail)) <;> (try clear zz)
  exact ⟨N,m,t,hpi.swap hpN,⟨⟨hm1,hm2⟩,fun p k1 k2=>hc.ord.asym _ _ (q1 p k1 k2),q2⟩,hps.upd,(have zz:=@t0; evZ),(have zz:=@t1; evZ),(have zz:=@t2; evZ),(have zz:=@t3; evZ),(have zz:=@t4; evZ),(have zz:=@t10; evZ),(have zz:=@t11; evZ),(have zz:=@t12; evZ),ev0,ev0⟩
 clear t0 t1 t2 t3 t4 t10 t11 t12 t13 hbb hl hGM hpi hps hp1 hp2 p
 rintro T H1 n1 ⟨M,m,t,hpi,hts,hps,t0,t1,t2,t3,t4,t10,t11,t12,t16,t17⟩
 have hm:=hts.mid
 have hl:=hlen _ hpi
 have tq:aV .quo false false (.int .i64 (l:Int)) (.int .i64 8)=some (.int .i64 ((l / 8:Nat):Int)):=by
  rw [fC (by omega) (by omega) (by omega)]
  congr 2
 have tm:(m:Int) + 1=((m + 1:Nat):Int):=by omega
 by_cases hlr:(m:Int) - (a1:Int) < (e1:Int) - (m:Int)
 ·have tz:decide ((m:Int) - (a1:Int) < (e1:Int) - (m:Int))=true:=decide_eq_true hlr
  (have zz:=aI @t0 (aI @t1 (aI @t2 (aI @t3 (aI @t4 (aI @t10 (aI @t11 (aI @t12 (aI @t16 (aI @t17 (aI @tq @tz)))))))))); repeat' (first | refine zW ?_ | apply a_n | refine zO ?_ | refine vZ ?_ | refine cTZ ?_ | fail)) <;> (try clear zz)
  refine aD ev0 (have zz:=aI @t0 (aI @t1 (aI @t2 (aI @t3 (aI @t4 (aI @t10 (aI @t11 (aI @t12 (aI @t16 @t17)))))))); evZ) (ih a1 m lim M H1 n1 (by omega) hps.at_ (hbn _ _ _ hps) hl (hGA _ hpi) (by omega) (by omega) hlim (hpi.low.sub rfl (by omega))) ?_
  rintro _ H2 n2 ⟨N,hps2,hpN,hsN⟩
  (have zz:=aI @t0 (aI @t1 (aI @t2 (aI @t3 (aI @t4 (aI @t10 (aI @t11 (aI @t12 (aI @t16 (aI @t17 @tm))))))))); repeat' (first | apply a_n | refine zO ?_ | refine vZ ?_ | fail)) <;> (try clear zz)
  exact ⟨(m + 1,e1,lim,decide (((l / 8:Nat):Int) ≤ (m:Int) - (a1:Int)),t,N),by dsimp only; omega,⟨hpi.left hc.ord hts hpN hsN,hps.rec_ hps2.at_ hps2.fr hps2.le,hlim⟩,(have zz:=aI @t0 (aI @t1 (aI @t2 (aI @t3 (aI @t4 (aI @t10 (aI @t11 (aI @t12 (aI @t16 @t17)))))))); agZ)⟩
 ·have tz:decide ((m:Int) - (a1:Int) < (e1:Int) - (m:Int))=false:=decide_eq_false hlr
  (have zz:=aI @t0 (aI @t1 (aI @t2 (aI @t3 (aI @t4 (aI @t10 (aI @t11 (aI @t12 (aI @t16 (aI @t17 (aI @tq (aI @tz @tm))))))))))); repeat' (first | refine zW ?_ | apply a_n | refine zO ?_ | refine vZ ?_ | refine cFZ ?_ | fail)) <;> (try clear zz)
  refine aD ev0 (have zz:=aI @t0 (aI @t1 (aI @t2 (aI @t3 (aI @t4 (aI @t10 (aI @t11 (aI @t12 (aI @t16 @t17)))))))); evZ) (ih (m + 1) e1 lim M H1 n1 (by omega) hps.at_ (hbn _ _ _ hps) hl (hGA _ hpi) (by omega) (by omega) hlim (fun q k0 k1 k2=>by rw [Nat.add_sub_cancel]; exact hts.ge q k1 k2)) ?_
  rintro _ H2 n2 ⟨N,hps2,hpN,hsN⟩
  (have zz:=aI @t0 (aI @t1 (aI @t2 (aI @t3 (aI @t4 (aI @t10 (aI @t11 (aI @t12 (aI @t16 @t17)))))))); repeat' (first | apply a_n | refine zO ?_ | refine vZ ?_ | fail)) <;> (try clear zz)
  exact ⟨(a1,m,lim,decide (((l / 8:Nat):Int) ≤ (e1:Int) - (m:Int)),t,N),by dsimp only; omega,⟨hpi.right hc.ord hts hpN hsN,hps.rec_ hps2.at_ hps2.fr hps2.le,hlim⟩,(have zz:=aI @t0 (aI @t1 (aI @t2 (aI @t3 (aI @t4 (aI @t10 (aI @t11 (aI @t12 (aI @t16 @t17)))))))); agZ)⟩
end
end Go.Proofs.YtjgpfclngkcedaaGreat
namespace Go.Proofs.YtjgpfclngkcedaaGreat
open Go Go.Abs
open Nat (reduceEqDiff reduceAdd reduceLeDiff)
section
variable {α:Type} [Inhabited α] {f:α→AV} {K:α→α→Int} {G:α→Prop} {g:Nat} {caps:List AV}
attribute [local irreducible] aA ag aU aO aE aH ay aJ aQ aZ Go.Abs.Fn aL Go.Abs.Pure ak aB Yl
set_option maxRecDepth 100000 in
theorem w6 {H:Hp} {nx:Nat}:Abs.Fn Tryz.prog 140 [.int .u64 0] H nx fun r H' nx'=>nx'=nx∧H'=H∧r=.int .i64 0:=by
 refine Abs.Fn.of_c2 follows wa (Nat.le_of_ble_eq_true rfl) ?_
 delta xf cO cG cN cM cD cF cB av aF
 generalize hT:AV.str (ByteArray.mk (Array.mk [0,1,2,2,3,3,3,3,4,4,4,4,4,4,4,4,5,5,5,5,5,5,5,5,5,5,5,5,5,5,5,5,6,6,6,6,6,6,6,6,6,6,6,6,6,6,6,6,6,6,6,6,6,6,6,6,6,6,6,6,6,6,6,6,7,7,7,7,7,7,7,7,7,7,7,7,7,7,7,7,7,7,7,7,7,7,7,7,7,7,7,7,7,7,7,7,7,7,7,7,7,7,7,7,7,7,7,7,7,7,7,7,7,7,7,7,7,7,7,7,7,7,7,7,7,7,7,7,8,8,8,8,8,8,8,8,8,8,8,8,8,8,8,8,8,8,8,8,8,8,8,8,8,8,8,8,8,8,8,8,8,8,8,8,8,8,8,8,8,8,8,8,8,8,8,8,8,8,8,8,8,8,8,8,8,8,8,8,8,8,8,8,8,8,8,8,8,8,8,8,8,8,8,8,8,8,8,8,8,8,8,8,8,8,8,8,8,8,8,8,8,8,8,8,8,8,8,8,8,8,8,8,8,8,8,8,8,8,8,8,8,8,8,8,8,8,8,8,8,8,8,8,8,8,8,8]))=tb
 have ht:jE tb (.int .u8 0)=some (.int .u8 0):=by rw [← hT]; exact rD (x:=0) (by decide)
 clear hT
 have w8:IntKind.wrap .u8 0=0:=by decide
 (have zz:=aI @w8 @ht; repeat' (first | refine zW ?_ | apply a_n | refine zO ?_ | refine vZ ?_ | (refine zGZ ?_ ?_ <;> (intro _hg; try (exfalso; omega))) | refine ae rfl ?_ | refine r1Z ?_ | fail)) <;> (try clear zz)
 exact ⟨rfl,rfl,by congr 1⟩
theorem BD {H:Hp} {nx:Nat}:Abs.Fn Tryz.prog 112 [.int .u64 0] H nx fun r H' nx'=>nx'=nx∧H'=H∧r=.int .i64 0:=by
 refine Abs.Fn.of_c2 follows wF (Nat.le_of_ble_eq_true rfl) ?_
 simp only [xw,cO,cG,cN,cM,cD,cF,cB,av,aF]
 (have zz:=and_self; repeat' (first | refine zW ?_ | apply a_n | refine zO ?_ | refine vZ ?_ | refine cFZ ?_ | fail)) <;> (try clear zz)
 refine aD ev0 ev0 w6 ?_
 rintro _ _ _ ⟨rfl,rfl,rfl⟩
 (have zz:=and_self; repeat' (first | apply a_n | refine zO ?_ | refine vZ ?_ | refine ae rfl ?_ | refine r1Z ?_ | fail)) <;> (try clear zz)
 exact ⟨rfl,rfl,rfl⟩
theorem xM (hc:Cmp Tryz.prog f K G g caps) {L:List α} {H:Hp} {b nx n:Nat} (hH:H b=some (L.map f)) (hbx:b < nx) (hn:L.length=n) (hn0:0 < n) (hG:∀ x ∈ L,G x) (hn2:n ≤ 1000000000) :
    Abs.Fn Tryz.prog 107 [.msl b n 1 0 n,.func g caps] H nx fun r H' nx'=>∃ L',PS H H' nx nx' b (L'.map f)∧L'.Perm L∧aP K 0 n L':=by
 refine Abs.Fn.of_c2 follows v7 (Nat.le_of_ble_eq_true rfl) ?_
 simp only [wZ,cO,cG,cN,cM,cD,cF,cB,av,aF]
 have w:IntKind.wrap .u64 (n:Int)=n:=e5 (by omega) (by omega)
 (have zz:=@w; repeat' (first | refine zW ?_ | apply a_n | refine zO ?_ | refine vZ ?_ | fail)) <;> (try clear zz)
 refine aD ev0 (have zz:=@w; evZ) (vL hn0 (by omega)) ?_
 rintro _ _ _ ⟨rfl,rfl,k,rfl,h3,h4⟩
 have hk:k ≤ 62:=by
  rcases Nat.lt_or_ge 62 k with h | h
  ·have:=Nat.pow_le_pow_right (n:=2) (by omega) h
   omega
  ·exact h
 (have zz:=and_self; repeat' (first | apply a_n | refine zO ?_ | refine vZ ?_ | fail)) <;> (try clear zz)
 refine aD ev0 (have zz:=@Int.natCast_zero; evZ) (A8 hc hn2 (n + 1) 0 n k L _ _ (by omega) hH hbx hn hG (by omega) (Nat.le_refl _) (by omega) (fun q h=>by omega)) ?_
 rintro _ _ _ ⟨N,hps,hp,hs⟩
 (have zz:=and_self; repeat' (first | apply a_n | refine zO ?_ | refine ae rfl ?_ | fail)) <;> (try clear zz)
 exact ⟨N,hps,hp.perm,hs⟩
end
end Go.Proofs.YtjgpfclngkcedaaGreat
namespace Go.Proofs.YtjgpfclngkcedaaGreat
open Go Go.Abs
section
variable {α:Type} [Inhabited α] {f:α→AV} {K:α→α→Int} {G:α→Prop}
attribute [local irreducible] aA ag aU aO aE aH ay aJ aQ aZ Go.Abs.Fn aL Go.Abs.Pure ak aB Yl
end
end Go.Proofs.YtjgpfclngkcedaaGreat
namespace Go.Proofs.YtjgpfclngkcedaaGreat
open Go Go.Abs
section
variable {α:Type} [Inhabited α] {f:α→AV} {K:α→α→Int} {G:α→Prop}
attribute [local irreducible] aA ag aU aO aE aH ay aJ aQ aZ Go.Abs.Fn aL Go.Abs.Pure ak aB Yl
end
end Go.Proofs.YtjgpfclngkcedaaGreat
namespace Go.Proofs.YtjgpfclngkcedaaGreat
open Go Go.Abs
section
variable {α:Type} [Inhabited α] {f:α→AV} {K:α→α→Int} {G:α→Prop}
attribute [local irreducible] aA ag aU aO aE aH ay aJ aQ aZ Go.Abs.Fn aL Go.Abs.Pure ak aB Yl
end
end Go.Proofs.YtjgpfclngkcedaaGreat
namespace Go.Proofs.YtjgpfclngkcedaaGreat
open Go Go.Abs
section
variable {α:Type} [Inhabited α] {f:α→AV} {K:α→α→Int} {G:α→Prop}
attribute [local irreducible] aA ag aU aO aE aH ay aJ aQ aZ Go.Abs.Fn aL Go.Abs.Pure ak aB Yl
end
end Go.Proofs.YtjgpfclngkcedaaGreat
namespace Go.Proofs.YtjgpfclngkcedaaGreat
open Go Go.Abs
section
variable {α:Type} [Inhabited α] {f:α→AV} {K:α→α→Int} {G:α→Prop}
attribute [local irreducible] aA ag aU aO aE aH ay aJ aQ aZ Go.Abs.Fn aL Go.Abs.Pure ak aB Yl
end
end Go.Proofs.YtjgpfclngkcedaaGreat
namespace Go.Proofs.YtjgpfclngkcedaaGreat
open Go Go.Abs
section
variable {α:Type} [Inhabited α] {f:α→AV} {K:α→α→Int} {G:α→Prop}
attribute [local irreducible] aA ag aU aO aE aH ay aJ aQ aZ Go.Abs.Fn aL Go.Abs.Pure ak aB Yl
end
end Go.Proofs.YtjgpfclngkcedaaGreat
namespace Go.Proofs.YtjgpfclngkcedaaGreat
open Go Go.Abs
section
variable {α:Type} [Inhabited α] {f:α→AV} {K:α→α→Int} {G:α→Prop}
attribute [local irreducible] aA ag aU aO aE aH ay aJ aQ aZ Go.Abs.Fn aL Go.Abs.Pure ak aB Yl
end
end Go.Proofs.YtjgpfclngkcedaaGreat
namespace Go.Proofs.YtjgpfclngkcedaaGreat
open Go Go.Abs
section
variable {α:Type} [Inhabited α] {f:α→AV} {K:α→α→Int} {G:α→Prop}
attribute [local irreducible] aA ag aU aO aE aH ay aJ aQ aZ Go.Abs.Fn aL Go.Abs.Pure ak aB Yl
end
end Go.Proofs.YtjgpfclngkcedaaGreat
namespace Go.Proofs.YtjgpfclngkcedaaGreat
open Go Go.Abs
section
variable {α:Type} [Inhabited α] {f:α→AV} {K:α→α→Int} {G:α→Prop}
attribute [local irreducible] aA ag aU aO aE aH ay aJ aQ aZ Go.Abs.Fn aL Go.Abs.Pure ak aB Yl
end
end Go.Proofs.YtjgpfclngkcedaaGreat
namespace Go.Proofs.YtjgpfclngkcedaaGreat
open Go Go.Abs
attribute [local irreducible] aA ag aU aO aE aH ay aJ aQ aZ Go.Abs.Fn aL Go.Abs.Pure ak aB Yl
end Go.Proofs.YtjgpfclngkcedaaGreat
namespace Go.Proofs.YtjgpfclngkcedaaGreat
open Go Go.Abs
open Nat (reduceEqDiff reduceAdd reduceLeDiff)
theorem qT {t:TaskV} (h:aM t=0):1 ≤ t.n∧t.n ≤ 5:=by
 unfold aM at h
 by_cases c:t.n < 1 ∨ 5 < t.n ∨ t.ins < 1 ∨ 8 < t.ins ∨ t.outs < 1 ∨ 8 < t.outs
 ·rw [if_pos c] at h; exact absurd h (by decide)
 ·omega
attribute [local irreducible] aA ag aU aO aE aH ay aJ aQ aZ Go.Abs.Fn aL Go.Abs.Pure ak aB Yl
end Go.Proofs.YtjgpfclngkcedaaGreat
namespace Go.Proofs.YtjgpfclngkcedaaGreat
open Go Go.Abs
theorem mV {H:Hp} {d:Nat} {x y z:AV}:cP 3 (an H d [x,y,z]) (.msl d 3 3 0 1)=some (1,[x,y,z]):=kp (n:=3) (len:=1) (off:=0) (cs:=[x,y,z]) au rfl (by simp)
theorem de (c:CaseV):Dat (cr c):=Dat.agg (DatL.cons (a9 _) (DatL.cons (a7 _) (DatL.cons (a7 _) DatL.nil)))
attribute [local irreducible] aA ag aU aO aE aH ay aJ aQ aZ Go.Abs.Fn aL Go.Abs.Pure ak aB Yl
end Go.Proofs.YtjgpfclngkcedaaGreat
namespace Go.Proofs.YtjgpfclngkcedaaGreat
open Go Go.Abs
attribute [local irreducible] aA ag aU aO aE aH ay aJ aQ aZ Go.Abs.Fn aL Go.Abs.Pure ak aB Yl
end Go.Proofs.YtjgpfclngkcedaaGreat
namespace Go.Proofs.YtjgpfclngkcedaaGreat
open Go Go.Abs
open Nat (reduceEqDiff reduceAdd reduceLeDiff)
section
variable {t:TaskV} {S:List Nat} (hc:aM t=0) (hp:S.Pairwise (· < ·)) (hS:∀ i ∈ S,i < t.cases.length)
theorem fM (h:aM t=0):(¬ (t.n < 1 ∨ 5 < t.n ∨ t.ins < 1 ∨ 8 < t.ins ∨ t.outs < 1 ∨ 8 < t.outs))∧(1 ≤ t.cases.length∧t.cases.length ≤ 1024)∧∀ k,k < t.cases.length→aW (t.cases.getD k default).inp t.n t.ins=0∧bk t.n t.outs (t.cases.getD k default)=0:=by
 unfold aM at h
 split at h
 ·omega
 ·rename_i h1
  split at h
  ·omega
  ·rename_i h2
   refine ⟨h1,by omega,fun k hk=>?_⟩
   have h3:=dL h k hk
   unfold dX at h3
   split at h3
   ·exact absurd h3 ‹_›
   ·rename_i h4
    split at h3
    ·omega
    ·exact ⟨Decidable.byContradiction fun x=>h4 x,h3⟩
include hc in
theorem xt {i j:Nat} (hi:i < t.cases.length) (hj:j < t.cases.length) (h:(t.cases.getD i default).inp=(t.cases.getD j default).inp):i=j:=by
 rcases Nat.lt_trichotomy i j with hl | rfl | hl
 ·have:=gy hc j i hl hj
  rw [h,cH] at this; omega
 ·rfl
 ·have:=gy hc i j hl hi
  rw [h,cH] at this; omega
end
def Ch (w:Int) (i:Nat):Bool:=decide (IntKind.wrap .u16 ((BitVec.ofInt 16 (w.fdiv (2 ^ (min (i % 16) 16))) &&& BitVec.ofInt 16 1).toNat:Int)=1)
def sm (w:Int) (k:Nat):List Nat:=(List.range k).filter (Ch w)
attribute [local irreducible] aA ag aU aO aE aH ay aJ aQ aZ Go.Abs.Fn aL Go.Abs.Pure ak aB Yl
theorem sL (a:List Int) (ha:Sh a):Pure Tryz.prog 68 [aN a,aN a] (.int .i64 0):=by
 have:=nz a a ha ha
 rwa [cH] at this
theorem rk (a:List (List Int)) (ha:Sh a) (hs:∀ x ∈ a,Sh x):Pure Tryz.prog 27 [ax a,ax a] (.bool true):=by
 refine Pure.of_c2 follows Bq (Nat.le_of_ble_eq_true rfl) ?_
 simp only [b27,cO,cG,cN,cM,cD,cF,cB,av,aF]
 (have zz:=and_self; repeat' (first | refine zW ?_ | apply a_n | refine zO ?_ | refine vZ ?_ | (refine zGZ ?_ ?_ <;> (intro _hg; try (exfalso; omega))) | fail)) <;> (try clear zz)
 refine ie (X:=Nat) (fun k=>[(0,ax a),(1,ax a),(5,.int .i64 k)]) (fun k=>k ≤ a.length) (fun k=>a.length - k) 0 (Nat.zero_le _) ag0 ?_
 rintro k h1
 (have zz:=and_self; repeat' (first | refine zW ?_ | refine zM ?_ | apply a_n | apply a_x | refine zO ?_ | refine vZ ?_ | refine cZ ?_ (hp:=by exact sL _ (hs _ (ai (by omega)))) | (refine zGZ ?_ ?_ <;> (intro _hg; try (exfalso; omega))) | refine ae rfl ?_ | refine r1Z ?_ | fail)) <;> (try clear zz)
 ·refine ⟨k + 1,by omega,by omega,ag0,rfl,rfl⟩
 ·exact .bool _
theorem rL (t:TaskV) (h1:Sh t.cases) (h2:∀ c ∈ t.cases,ShC c):Pure Tryz.prog 20 [bo t,bo t] (.bool true):=by
 refine Pure.of_c2 follows AN (Nat.le_of_ble_eq_true rfl) ?_
 simp only [b20,cO,cG,cN,cM,cD,cF,cB,av,aF]
 (have zz:=aI @sd (aI @aj (aI @ab @aw)); repeat' (first | refine zW ?_ | apply a_n | refine zO ?_ | refine vZ ?_ | refine bxZ ?_ | refine gTZ ?_ | (refine zGZ ?_ ?_ <;> (intro _hg; try (exfalso; omega))) | fail)) <;> (try clear zz)
 refine be (X:=Nat) (fun k=>[(2,.ptr 0 4 0),(3,.ptr 1 4 0),(5,.int .i64 k)]) (fun k H nx=>k ≤ t.cases.length∧2 ≤ nx∧H 0=some [.int .i64 t.n,.int .i64 t.ins,.int .i64 t.outs,aR t.cases]∧H 1=some [.int .i64 t.n,.int .i64 t.ins,.int .i64 t.outs,aR t.cases]) (fun k=>t.cases.length - k) 0 ⟨Nat.zero_le _,Nat.le_refl _,rfl,rfl⟩ (by simp (disch:=omega) only [agr,ZG,reduceEqDiff,↓reduceIte,List.length_cons,List.length_nil,reduceAdd,Nat.zero_add]) ?_
 rintro k H nx ⟨hk,hn,g0,g1⟩
 by_cases hj:k < t.cases.length
 ·obtain ⟨s1,s2,s3,s4,s5⟩:=h2 _ (ai hj)
  (have zz:=aI @g0 (aI @g1 (aI @aj (aI @ab (aI @aw @bd)))); repeat' (first | refine zW ?_ | apply a_n | refine zO ?_ | refine vY ?_ | refine cY ?_ (hp:=by first | exact sL _ s1 | exact rk _ s2 s3 | exact rk _ s4 s5) | refine alY ?_ | refine stY ?_ | refine gTY ?_ | refine cFY ?_ | (refine zGY ?_ ?_ <;> (intro _hg; try (exfalso; omega))) | fail)) <;> (try clear zz)
  refine ⟨k + 1,by omega,⟨by omega,by omega,?_,?_⟩,ag0⟩
  ·rw [ac (by omega),ac (by omega),ac (by omega),ac (by omega),g0]
  ·rw [ac (by omega),ac (by omega),ac (by omega),ac (by omega),g1]
 ·(have zz:=aI @g0 (aI @g1 (aI @aj (aI @ab (aI @aw @bd)))); repeat' (first | refine zW ?_ | apply a_n | apply a_x | refine zO ?_ | refine vY ?_ | (refine zGY ?_ ?_ <;> (intro _hg; try (exfalso; omega))) | refine ae rfl ?_ | refine r1Y ?_ | fail)) <;> (try clear zz)
  exact .bool _
end Go.Proofs.YtjgpfclngkcedaaGreat
namespace Go.Proofs.YtjgpfclngkcedaaGreat
open Go Go.Abs
open Nat (reduceEqDiff reduceAdd reduceLeDiff)
theorem iW {v:List Int} {n most:Int} (h:aW v n most=0):(v.length:Int)=n∧∀ x ∈ v,0 ≤ x∧x < most:=by
 unfold aW at h
 by_cases c:(v.length:Int) ≠ n
 ·rw [if_pos c] at h; exact absurd h (by decide)
 ·rw [if_neg c] at h
  refine ⟨by omega,fun x hx=>?_⟩
  by_cases c2:v.any (fun x=>decide (x < 0 ∨ most ≤ x))=true
  ·rw [if_pos c2] at h; exact absurd h (by decide)
  ·rw [Bool.not_eq_true,List.any_eq_false] at c2
   have:=c2 x hx
   simp only [decide_eq_true_eq] at this
   omega
theorem oH {t:TaskV} {k:Nat} (h:aM t=0) (hk:k < t.cases.length) :
    (1 ≤ (t.cases.getD k default).out.length)∧(∀ v ∈ (t.cases.getD k default).out,(v.length:Int)=t.n∧∀ x ∈ v,0 ≤ x∧x < t.outs)∧(∀ v ∈ (t.cases.getD k default).calm,v ∈ (t.cases.getD k default).out):=by
 have h0:=((fM h).2.2 k hk).2
 generalize t.cases.getD k default=c at *
 unfold bk at h0
 split at h0
 ·exact absurd h0 (by decide)
 split at h0
 ·exact absurd h0 ‹_›
 rename_i g1 g2
 have o0:=dL (Decidable.of_not_not g2)
 have c0:=dL h0
 refine ⟨by omega,fun v hv=>?_,fun v hv=>?_⟩
 ·obtain ⟨j,hj,rfl⟩:=List.getElem_of_mem hv
  have:=o0 j hj
  unfold gd at this
  split at this
  ·exact absurd this ‹_›
  ·rename_i g3
   have e:=iW (Decidable.of_not_not g3)
   simpa [List.getD,hj] using e
 ·obtain ⟨j,hj,rfl⟩:=List.getElem_of_mem hv
  have:=c0 j hj
  unfold fx at this
  split at this
  ·rename_i g3; simpa [List.getD,hj] using g3
  ·exact absurd this (by decide)
theorem mO {t:TaskV} {k:Nat} {f:Int} (h:aM t=0) (hk:k < t.cases.length):(1 ≤ (ar (t.cases.getD k default) f).length)∧∀ v ∈ ar (t.cases.getD k default) f,(v.length:Int)=t.n∧∀ x ∈ v,0 ≤ x∧x < t.outs:=by
 obtain ⟨h1,h2,h3⟩:=oH h hk
 unfold ar
 split
 ·rename_i g; exact ⟨by omega,fun v hv=>h2 v (h3 v hv)⟩
 ·exact ⟨h1,h2⟩
attribute [local irreducible] aA ag aU aO aE aH ay aJ aQ aZ Go.Abs.Fn aL Go.Abs.Pure ak aB Yl
end Go.Proofs.YtjgpfclngkcedaaGreat
namespace Go.Proofs.YtjgpfclngkcedaaGreat
open Go Go.Abs
open Nat (reduceEqDiff reduceAdd reduceLeDiff)
section
variable {α β:Type} [Inhabited α]
theorem fP {l:List α} {f:α→Option β} (h:∀ i,i < l.length→f (l.getD i default)=none):l.findSome? f=none:=by
 rw [List.findSome?_eq_none_iff]
 intro x hx
 obtain ⟨i,hi,rfl⟩:=List.getElem_of_mem hx
 have:=h i hi
 rwa [show l.getD i default=l[i] by simp [List.getD,hi]] at this
theorem jL {l:List α} {f:α→Option β} {k:Nat} {w:β} (hk:k < l.length) (h:∀ i,i < k→f (l.getD i default)=none) (e:f (l.getD k default)=some w):l.findSome? f=some w:=by
 have e1:l=l.take k ++ l.drop k:=(List.take_append_drop k l).symm
 rw [e1,List.findSome?_append,fP (l:=l.take k) (fun i hi=>by
  rw [List.length_take] at hi
  rw [iL (by omega)]; exact h i (by omega)),bT hk,List.findSome?_cons,e]
 rfl
theorem kH {l:List α} {p:α→Bool} (h:∀ i,i < l.length→p (l.getD i default)=false):l.find? p=none:=by
 rw [List.find?_eq_none]
 intro x hx
 obtain ⟨i,hi,rfl⟩:=List.getElem_of_mem hx
 have:=h i hi
 rw [show l.getD i default=l[i] by simp [List.getD,hi]] at this
 rw [this]; decide
theorem u0 {l:List α} {p:α→Bool} {k:Nat} (hk:k < l.length) (h:∀ i,i < k→p (l.getD i default)=false) (e:p (l.getD k default)=true):l.find? p=some (l.getD k default):=by
 have e1:l=l.take k ++ l.drop k:=(List.take_append_drop k l).symm
 have e2:(l.take k ++ l.drop k).find? p=some (l.getD k default):=by
  rw [List.find?_append,kH (l:=l.take k) (fun i hi=>by
   rw [List.length_take] at hi
   rw [iL (by omega)]; exact h i (by omega)),bT hk,List.find?_cons_of_pos e]
  rfl
 rwa [← e1] at e2
end
theorem jG {n i:Nat} (h:i < n):(List.range n).getD i default=i:=by simp [List.getD,h]
def bF (a b:TaskV):Int:=if aM a ≠ 0 then aM a else if aM b ≠ 0 then aM b else if a.n ≠ b.n then 22 else 0
theorem tJ {a b:TaskV} (h:bF a b=0):aM a=0∧aM b=0∧a.n=b.n:=by
 unfold bF at h
 split at h
 ·exact absurd h ‹_›
 split at h
 ·exact absurd h ‹_›
 split at h
 ·exact absurd h (by decide)
 rename_i h1 h2 h3
 exact ⟨Decidable.of_not_not h1,Decidable.of_not_not h2,Decidable.of_not_not h3⟩
def b0 (t:TaskV) (v:List Int):Option CaseV:=if v ∈ t.cases.map CaseV.inp then some (t.cases.getD (pd t v) default) else none
theorem tc {t:TaskV} {v:List Int} (h:v ∈ t.cases.map CaseV.inp):pd t v < t.cases.length:=by
 unfold pd
 have:=List.findIdx_lt_length_of_exists (xs:=t.cases.map CaseV.inp) (p:=fun x=>decide (x=v)) ⟨v,h,by simp⟩
 rwa [List.length_map] at this
theorem bW {t:TaskV} {v:List Int} {c:CaseV} (h:b0 t v=some c):c ∈ t.cases∧c.inp=v:=by
 unfold b0 at h
 split at h
 ·rename_i hm
  cases h
  have hl:=tc hm
  refine ⟨ai hl,?_⟩
  rw [← fm hl]
  have hl2:pd t v < (t.cases.map CaseV.inp).length:=by rw [List.length_map]; exact hl
  have h3:(t.cases.map CaseV.inp).getD (pd t v) default=(t.cases.map CaseV.inp)[pd t v]:=by rw [List.getD_eq_getElem?_getD,List.getElem?_eq_getElem hl2]; rfl
  rw [h3]
  exact of_decide_eq_true (List.findIdx_getElem (xs:=t.cases.map CaseV.inp) (p:=fun x=>decide (x=v)) (w:=hl2))
 ·cases h
theorem gJ {t:TaskV} {v:List Int} (h:b0 t v=none):∀ c ∈ t.cases,c.inp ≠ v:=by
 unfold b0 at h
 split at h
 ·cases h
 ·rename_i hm
  exact fun c hc e=>hm (List.mem_map.2 ⟨c,hc,e⟩)
def zC:CaseV:=⟨[],[],[]⟩
def jO (c:CaseV) (f:Int) (v:List Int):Bool:=(ar c f).any fun w=>b5 w v f
def jQ (a:TaskV) (c:CaseV):Option (List Int × Int × List Int):=match b0 a c.inp with
 | none=>some (c.inp,0,[])
 | some x=>(List.range (2 ^ a.n.toNat)).findSome? fun (f:Nat)=>((ar x (f:Int)).find? fun v=>!jO c (f:Int) v).map fun v=>(c.inp,(f:Int),v)
def oS (a b:TaskV):Option (List Int × Int × List Int):=b.cases.findSome? (jQ a)
def e7 (a b:TaskV):List Int × Int × List Int × Bool × Int:=if bF a b ≠ 0 then ([],0,[],false,bF a b) else match oS a b with
 | none=>([],0,[],true,0)
 | some w=>(w.1,w.2.1,w.2.2,false,0)
def l7 (r:List Int × Int × List Int × Bool × Int):AV:=.tup [aN r.1,.int .i64 r.2.1,aN r.2.2.1,.bool r.2.2.2.1,.int .i64 r.2.2.2.2]
theorem kc {v w:List Int} {f:Int} (h:v.length=w.length):b5 v w f=b5 w v f:=by
 unfold b5
 rw [h]
 congr 1
 funext p
 rw [show decide (w.getD p default ≠ v.getD p default)=decide (v.getD p default ≠ w.getD p default) from decide_eq_decide.2 ⟨fun h e=>h e.symm,fun h e=>h e.symm⟩]
theorem uX {l:List (List Int)} {v:List Int} {f:Int} (h:∀ w ∈ l,w.length=v.length):(l.any fun w=>b5 v w f)=l.any fun w=>b5 w v f:=by
 rw [Bool.eq_iff_iff,List.any_eq_true,List.any_eq_true]
 exact ⟨fun ⟨w,hw,e⟩=>⟨w,hw,by rw [kc (h w hw)]; exact e⟩,fun ⟨w,hw,e⟩=>⟨w,hw,by rw [← kc (h w hw)]; exact e⟩⟩
theorem sG {H:Hp} {i o:List Int} {f e:Int} {k:Bool} {x y:AV} (hx:Snap H x (aN i)) (hy:Snap H y (aN o)):Snap H (.tup [x,.int .i64 f,y,.bool k,.int .i64 e]) (l7 (i,f,o,k,e)) :=
 ik (az hx (az (.int _ _) (az hy (az (.bool _) (az (.int _ _) af)))))
theorem uN {a:TaskV} {c x:CaseV} (h:b0 a c.inp=some x) (hz:∀ f:Nat,f < 2 ^ a.n.toNat→∀ i,i < (ar x f).length→jO c f ((ar x f).getD i default)=true):jQ a c=none:=by
 unfold jQ
 rw [h]
 refine fP fun i hi=>?_
 rw [List.length_range] at hi
 rw [jG hi,Option.map_eq_none_iff]
 refine kH fun j hj=>?_
 rw [hz i hi j hj]; rfl
theorem vF {a:TaskV} {c x:CaseV} {f k:Nat} (h:b0 a c.inp=some x) (hz:∀ g:Nat,g < f→∀ i,i < (ar x g).length→jO c g ((ar x g).getD i default)=true) (hf:f < 2 ^ a.n.toNat) (hk:k < (ar x f).length) (hi:∀ i,i < k→jO c f ((ar x f).getD i default)=true) (e:jO c f ((ar x f).getD k default)=false):jQ a c=some (c.inp,(f:Int),(ar x f).getD k default):=by
 unfold jQ
 rw [h]
 refine jL (k:=f) (by rw [List.length_range]; exact hf) (fun g hg=>?_) ?_
 ·rw [jG (by omega),Option.map_eq_none_iff]
  refine kH fun j hj=>?_
  rw [hz g hg j hj]; rfl
 ·rw [jG hf,u0 hk (fun i h=>by rw [hi i h]; rfl) (by rw [e]; rfl)]
  rfl
attribute [local irreducible] aA ag aU aO aE aH ay aJ aQ aZ Go.Abs.Fn aL Go.Abs.Pure ak aB Yl
theorem uc (l:List CaseV) (p:CaseV→Bool) (g:Nat) (caps:List AV) (hd:∀ x ∈ caps,Dat x) (hg:∀ x ∈ l,Pure Tryz.prog g (.agg [aN x.inp,ax x.out,ax x.calm] :: caps) (.bool (p x))) (hl:Sh l):Pure Tryz.prog 100 [aR l,.func g caps] (.int .i64 (if l.any p then (l.findIdx p:Nat) else -1)):=by
 refine Pure.of_c2 follows xU (Nat.le_of_ble_eq_true rfl) ?_
 simp only [yY,cO,cG,cN,cM,cD,cF,cB,av,aF]
 have hl':l.length ≤ 17592186044416:=hl
 (have zz:=aI @aj (aI @ab @aw); repeat' (first | refine zW ?_ | apply a_n | refine zO ?_ | refine vZ ?_ | fail)) <;> (try clear zz)
 refine ie (X:=Nat) (fun k=>[(0,aR l),(1,.func g caps),(7,.int .i64 l.length),(8,.int .i64 k)]) (fun k=>k ≤ l.length∧∀ i,i < k→p (l.getD i default)=false) (fun k=>l.length - k) 0 ⟨Nat.zero_le _,by simp⟩ ag0 ?_
 rintro k ⟨h1,h2⟩
 by_cases hk:k < l.length
 ·have hc:=hg _ (ai hk)
  have d3:=de (l.getD k default)
  have ix:=bd hk
  have e:l.getD k default=l[k]:=by simp [List.getD,hk]
  unfold cr at d3
  cases hb:p (l.getD k default)
  ·rw [hb] at hc
   (have zz:=aI @aj (aI @ab (aI @aw @ix)); repeat' (first | refine zW ?_ | apply a_n | refine zO ?_ | refine vZ ?_ | refine cZ ?_ (hp:=hc) (hs:=by (first | refine ah ?_ rfl | apply ap); (repeat' (first | exact af | apply aC | apply aq | exact d3 | exact ao hd)); first | done | fail) | refine cFZ ?_ | (refine zGZ ?_ ?_ <;> (intro _hg; try (exfalso; omega))) | fail)) <;> (try clear zz)
   refine ⟨k + 1,⟨by omega,fun i hi=>?_⟩,by omega,ag0,rfl,rfl⟩
   rcases Nat.lt_succ_iff_lt_or_eq.1 hi with h | rfl
   ·exact h2 i h
   ·exact hb
  ·rw [hb] at hc
   (have zz:=aI @aj (aI @ab (aI @aw @ix)); repeat' (first | refine zW ?_ | apply a_n | apply a_r | refine zO ?_ | refine vZ ?_ | refine cZ ?_ (hp:=hc) (hs:=by (first | refine ah ?_ rfl | apply ap); (repeat' (first | exact af | apply aC | apply aq | exact d3 | exact ao hd)); first | done | fail) | refine cTZ ?_ | (refine zGZ ?_ ?_ <;> (intro _hg; try (exfalso; omega))) | refine ae rfl ?_ | refine r1Z ?_ | fail)) <;> (try clear zz)
   refine bq ?_
   rw [e] at hb
   rw [if_pos (List.any_eq_true.2 ⟨l[k],List.getElem_mem hk,hb⟩),(List.findIdx_eq hk).2 ⟨hb,fun j hj=>by have:=h2 j hj; rwa [show l.getD j default=l[j] by simp [List.getD,show j < l.length by omega]] at this⟩]
 ·(have zz:=aI @aj (aI @ab @aw); repeat' (first | refine zW ?_ | apply a_n | apply a_x | refine zO ?_ | refine vZ ?_ | (refine zGZ ?_ ?_ <;> (intro _hg; try (exfalso; omega))) | refine ae rfl ?_ | refine r1Z ?_ | fail)) <;> (try clear zz)
  refine bq ?_
  rw [if_neg]
  rw [Bool.not_eq_true,List.any_eq_false]
  intro x hx
  obtain ⟨i,hi,e⟩:=List.getElem_of_mem hx
  have:=h2 i (by omega)
  rw [show l.getD i default=x by simp [List.getD,hi,e]] at this
  simp [this]
theorem va (c:CaseV) (v:List Int) (hc:Sh c.inp) (hv:Sh v):Pure Tryz.prog 101 [.agg [aN c.inp,ax c.out,ax c.calm],.iptr [aN v] 0] (.bool (decide (c.inp=v))):=by
 refine Pure.of_c2 follows x2 (Nat.le_of_ble_eq_true rfl) ?_
 simp only [z6,cO,cG,cN,cM,cD,cF,cB,av,aF]
 (have zz:=and_self; repeat' (first | refine zW ?_ | apply a_n | refine zO ?_ | refine vZ ?_ | refine cZ ?_ (hp:=by exact f0 _ _ hc hv) | refine bxZ ?_ | refine ae rfl ?_ | refine r1Z ?_ | fail)) <;> (try clear zz)
 exact .bool _
theorem z5 {H:Hp}:Snap H (.agg [.esl,.esl,.esl]) (cr zC):=g9 (az (.eslsl 1) (az (.eslsl 1) (az (.eslsl 1) af)))
theorem p6 (t:TaskV) (v:List Int) (hs:∀ c ∈ t.cases,ShC c) (hsc:Sh t.cases) (hv:Sh v):Pure Tryz.prog 41 [bo t,aN v] (.tup [cr ((b0 t v).getD zC),.bool (b0 t v).isSome]):=by
 refine Pure.of_c2 follows BB (Nat.le_of_ble_eq_true rfl) ?_
 simp only [b41,cO,cG,cN,cM,cD,cF,cB,av,aF]
 have hA:=uc t.cases (fun c=>decide (c.inp=v)) 101 [.iptr [aN v] 0] (fun x hx=>by
  simp only [List.mem_singleton] at hx; subst hx
  exact .iptr (DatL.cons (a9 _) DatL.nil)) (fun c hc=>va c v (hs c hc).1 hv) hsc
 have hany:(t.cases.any fun c=>decide (c.inp=v))=decide (v ∈ t.cases.map CaseV.inp):=by
  rw [← pH,List.any_map]; rfl
 have hidx:t.cases.findIdx (fun c=>decide (c.inp=v))=pd t v:=by
  unfold pd
  rw [List.findIdx_map]; rfl
 rw [hany,hidx] at hA
 unfold b0
 unfold bo
 by_cases hm:v ∈ t.cases.map CaseV.inp
 ·rw [if_pos (decide_eq_true hm)] at hA
  rw [if_pos hm]
  have hl:=tc hm
  have hl':t.cases.length ≤ 17592186044416:=hsc
  have ix:=bd hl
  generalize pd t v=q at *
  (have zz:=aI @aj (aI @ab @aw); repeat' (first | refine zW ?_ | apply a_n | refine zO ?_ | refine vZ ?_ | refine alZ ?_ | refine bxZ ?_ | fail)) <;> (try clear zz)
  refine cE ev0 ev0 hA (ah (by (repeat' (first | exact af | exact Dat.snap Dat.int | exact Dat.snap Dat.bool | exact Dat.snap Dat.str | exact Dat.snap Dat.esl | exact Dat.snap Dat.nilf | exact Dat.snap (a9 _) | exact Dat.snap (a7 _) | exact e9 _ _ | apply az | apply dY | apply d6 | (apply d7; (focus ((try simp only [bn,ZA,reduceEqDiff,↓reduceIte,reduceAdd,reduceLeDiff]); with_reducible rfl)); (focus rfl))))) rfl) ?_
  have d3:=de (t.cases.getD q default)
  (have zz:=aI @aj (aI @ab (aI @aw @ix)); repeat' (first | refine zW ?_ | apply a_n | refine zO ?_ | refine vZ ?_ | refine stZ ?_ | (refine zGZ ?_ ?_ <;> (intro _hg; try (exfalso; omega))) | refine ae rfl ?_ | refine r2Z ?_ | fail)) <;> (try clear zz)
  exact ik (az (d3 _) (az (.bool _) af))
 ·rw [if_neg (by simpa using hm)] at hA
  rw [if_neg hm]
  (have zz:=aI @aj (aI @ab @aw); repeat' (first | refine zW ?_ | apply a_n | refine zO ?_ | refine vZ ?_ | refine alZ ?_ | refine bxZ ?_ | fail)) <;> (try clear zz)
  refine cE ev0 ev0 hA (ah (by (repeat' (first | exact af | exact Dat.snap Dat.int | exact Dat.snap Dat.bool | exact Dat.snap Dat.str | exact Dat.snap Dat.esl | exact Dat.snap Dat.nilf | exact Dat.snap (a9 _) | exact Dat.snap (a7 _) | exact e9 _ _ | apply az | apply dY | apply d6 | (apply d7; (focus ((try simp only [bn,ZA,reduceEqDiff,↓reduceIte,reduceAdd,reduceLeDiff]); with_reducible rfl)); (focus rfl))))) rfl) ?_
  (have zz:=aI @aj (aI @ab @aw); repeat' (first | refine zW ?_ | apply a_n | apply a_r | refine zO ?_ | refine vZ ?_ | refine stZ ?_ | (refine zGZ ?_ ?_ <;> (intro _hg; try (exfalso; omega))) | refine ae rfl ?_ | refine r2Z ?_ | fail)) <;> (try clear zz)
  exact ik (az z5 (az (.bool _) af))
theorem pU (c:CaseV):Pure Tryz.prog 61 [.agg [aN c.inp,ax c.out,ax c.calm]] (ax (ar c 0)):=by
 refine Pure.of_c2 follows BF (Nat.le_of_ble_eq_true rfl) ?_
 simp only [b61,cO,cG,cN,cM,cD,cF,cB,av,aF]
 unfold ar
 (have zz:=and_self; repeat' (first | refine zW ?_ | apply a_n | apply a_r | refine zO ?_ | refine vZ ?_ | refine bxZ ?_ | (refine zGZ ?_ ?_ <;> (intro _hg; try (exfalso; omega))) | refine ae rfl ?_ | refine r1Z ?_ | fail)) <;> (try clear zz)
 ·rw [if_pos (by omega)]; exact a7 _ _
 ·rw [if_neg (by omega)]; exact a7 _ _
theorem mI (c:CaseV) (f:Int):Pure Tryz.prog 43 [.agg [aN c.inp,ax c.out,ax c.calm],.int .i64 f] (ax (ar c f)):=by
 refine Pure.of_c2 follows AZ (Nat.le_of_ble_eq_true rfl) ?_
 simp only [b43,cO,cG,cN,cM,cD,cF,cB,av,aF]
 have hc:=pU c
 have d3:=de c
 unfold cr at d3
 by_cases h:f=0
 ·subst h
  (have zz:=and_self; repeat' (first | refine zW ?_ | apply a_n | apply a_r | refine zO ?_ | refine vZ ?_ | refine cZ ?_ (hp:=hc) | refine bxZ ?_ | (refine zGZ ?_ ?_ <;> (intro _hg; try (exfalso; omega))) | refine ae rfl ?_ | refine r1Z ?_ | fail)) <;> (try clear zz)
  exact a7 _ _
 ·have e:ar c f=c.out:=by unfold ar; rw [if_neg (fun k=>h k.1)]
  rw [e]
  (have zz:=and_self; repeat' (first | refine zW ?_ | apply a_n | refine zO ?_ | refine vZ ?_ | refine bxZ ?_ | (refine zGZ ?_ ?_ <;> (intro _hg; try (exfalso; omega))) | refine ae rfl ?_ | refine r1Z ?_ | fail)) <;> (try clear zz)
  exact a7 _ _
theorem uI (v w:List Int) (f:Int) (hv:Sh v) (hl:v.length ≤ w.length) (hw:Sh w):Pure Tryz.prog 102 [aN w,.iptr [aN v] 0,.iptr [.int .i64 f] 0] (.bool (b5 v w f)):=by
 refine Pure.of_c2 follows yK (Nat.le_of_ble_eq_true rfl) ?_
 simp only [yN,cO,cG,cN,cM,cD,cF,cB,av,aF]
 have hv':v.length ≤ 17592186044416:=hv
 have hw':w.length ≤ 17592186044416:=hw
 (have zz:=and_self; repeat' (first | refine zW ?_ | apply a_n | refine zO ?_ | refine vZ ?_ | fail)) <;> (try clear zz)
 refine lN (fun k=>[(0,aN w),(1,.iptr [aN v] 0),(2,.iptr [.int .i64 f] 0),(7,.int .i64 v.length),(8,.int .i64 k)]) v.length (fun i=>(decide (rz (qQ f i)=0) && decide (w.getD i default ≠ v.getD i default))=false) ag0 ?_
 intro k hk h2
 have hno:(decide (rz (qQ f k)=0) && decide (w.getD k default ≠ v.getD k default))=true→k < v.length→b5 v w f=false:=fun h hk=>by
  unfold b5
  rw [Bool.eq_false_iff,ne_eq,List.all_eq_true]
  intro h'
  have:=h' k (List.mem_range.2 hk)
  rw [h] at this
  exact absurd this (by decide)
 by_cases hk2:k < v.length
 rotate_left
 ·have e:b5 v w f=true:=by
    unfold b5
    rw [List.all_eq_true]
    intro i hi
    rw [h2 i (by have:=List.mem_range.1 hi; omega)]
    rfl
  rw [e]
  (have zz:=and_self; repeat' (first | refine zW ?_ | apply a_n | apply a_x | refine zO ?_ | refine vZ ?_ | (refine zGZ ?_ ?_ <;> (intro _hg; try (exfalso; omega))) | refine ae rfl ?_ | refine r1Z ?_ | fail)) <;> (try clear zz)
  exact .bool _
 by_cases hA:rz (qQ f k)=0
 ·by_cases hd:v.getD k default=w.getD k default
  ·have z:decide (v.getD k default ≠ w.getD k default)=false:=decide_eq_false (fun h=>h hd)
   (have zz:=aI @so (aI @pm (aI @hA @z)); repeat' (first | refine zW ?_ | apply a_n | refine zO ?_ | refine vZ ?_ | refine gTZ ?_ | refine cFZ ?_ | (refine zGZ ?_ ?_ <;> (intro _hg; try (exfalso; omega))) | fail)) <;> (try clear zz)
   all_goals exact ⟨hk2,by rw [decide_eq_false (p:=w.getD k default ≠ v.getD k default) (fun h=>h hd.symm),Bool.and_false],ag0,rfl,rfl⟩
  ·have z:decide (v.getD k default ≠ w.getD k default)=true:=decide_eq_true hd
   rw [hno (by rw [decide_eq_true hA,decide_eq_true (p:=w.getD k default ≠ v.getD k default) (fun h=>hd h.symm)]; rfl) hk2]
   (have zz:=aI @so (aI @pm (aI @hA @z)); repeat' (first | refine zW ?_ | apply a_n | apply a_r | refine zO ?_ | refine vZ ?_ | refine gTZ ?_ | refine cTZ ?_ | (refine zGZ ?_ ?_ <;> (intro _hg; try (exfalso; omega))) | refine ae rfl ?_ | refine r1Z ?_ | fail)) <;> (try clear zz)
   all_goals exact .bool _
 ·have z:decide (rz (qQ f k)=0)=false:=decide_eq_false hA
  (have zz:=aI @so (aI @pm @z); repeat' (first | refine zW ?_ | apply a_n | refine zO ?_ | refine vZ ?_ | refine gFZ ?_ | refine cFZ ?_ | (refine zGZ ?_ ?_ <;> (intro _hg; try (exfalso; omega))) | fail)) <;> (try clear zz)
  all_goals exact ⟨hk2,by rw [z,Bool.false_and],ag0,rfl,rfl⟩
theorem ue (l:List (List Int)) (v:List Int) (f:Int) (hl:Sh l) (hv:v.length ≤ 17592186044416) (hw:∀ w ∈ l,w.length=v.length):Pure Tryz.prog 44 [ax l,.int .i64 f,aN v] (.bool (l.any fun w=>b5 w v f)):=by
 refine Pure.of_c2 follows Bi (Nat.le_of_ble_eq_true rfl) ?_
 simp only [b44,cO,cG,cN,cM,cD,cF,cB,av,aF]
 rw [← uX hw]
 have hA:=gv l (fun w=>b5 v w f) 102 [.iptr [aN v] 0,.iptr [.int .i64 f] 0] (fun x hx=>by
  simp only [List.mem_cons,List.not_mem_nil,or_false] at hx
  rcases hx with rfl | rfl
  ·exact .iptr (DatL.cons (a9 _) DatL.nil)
  ·exact .iptr (DatL.cons .int DatL.nil)) (fun w hw2=>uI v w f hv (by rw [hw w hw2]; exact Nat.le_refl _) (by show w.length ≤ _; rw [hw w hw2]; exact hv)) hl
 (have zz:=and_self; repeat' (first | refine zW ?_ | apply a_n | refine zO ?_ | refine vZ ?_ | refine bxZ ?_ | fail)) <;> (try clear zz)
 refine cE ev0 ev0 hA (ah (by (repeat' (first | exact af | exact Dat.snap Dat.int | exact Dat.snap Dat.bool | exact Dat.snap Dat.str | exact Dat.snap Dat.esl | exact Dat.snap Dat.nilf | exact Dat.snap (a9 _) | exact Dat.snap (a7 _) | apply az | apply dY | apply d6 | (apply d7; (focus ((try simp only [bn,ZA,reduceEqDiff,↓reduceIte,reduceAdd,reduceLeDiff]); with_reducible rfl)); (focus rfl))))) rfl) ?_
 (have zz:=and_self; repeat' (first | apply a_n | refine zO ?_ | refine vZ ?_ | refine ae rfl ?_ | refine r1Z ?_ | fail)) <;> (try clear zz)
 exact .bool _
theorem rQ (a b:TaskV) (ha:∀ c ∈ a.cases,ShC c) (ha2:Sh a.cases) (hb:∀ c ∈ b.cases,ShC c) (hb2:Sh b.cases):Pure Tryz.prog 40 [bo a,bo b] (.int .i64 (bF a b)):=by
 refine Pure.of_c2 follows Bu (Nat.le_of_ble_eq_true rfl) ?_
 simp only [b40,cO,cG,cN,cM,cD,cF,cB,av,aF]
 have c1:=tt a ha ha2
 have c2:=tt b hb hb2
 have d1:=bJ a
 have d2:=bJ b
 unfold bF
 generalize aM a=X at *
 generalize aM b=Y at *
 unfold bo at *
 by_cases hX:X=0
 rotate_left
 ·rw [if_pos hX]
  (have zz:=aI @aj @ab; repeat' (first | refine zW ?_ | apply a_n | apply a_r | refine zO ?_ | refine vZ ?_ | refine cZ ?_ (hp:=c1) | refine bxZ ?_ | (refine zGZ ?_ ?_ <;> (intro _hg; try (exfalso; omega))) | refine ae rfl ?_ | refine r1Z ?_ | fail)) <;> (try clear zz)
  exact .int _ _
 rw [if_neg (fun h=>h hX)]
 by_cases hY:Y=0
 rotate_left
 ·rw [if_pos hY]
  (have zz:=aI @aj @ab; repeat' (first | refine zW ?_ | apply a_n | apply a_r | refine zO ?_ | refine vZ ?_ | refine cZ ?_ (hp:=by first | exact c1 | exact c2) | refine bxZ ?_ | (refine zGZ ?_ ?_ <;> (intro _hg; try (exfalso; omega))) | refine ae rfl ?_ | refine r1Z ?_ | fail)) <;> (try clear zz)
  exact .int _ _
 rw [if_neg (fun h=>h hY)]
 by_cases hN:a.n=b.n
 ·have z:decide (a.n ≠ b.n)=false:=decide_eq_false (fun h=>h hN)
  rw [if_neg (fun h=>h hN)]
  (have zz:=aI @aj (aI @ab @z); repeat' (first | refine zW ?_ | apply a_n | refine zO ?_ | refine vZ ?_ | refine cZ ?_ (hp:=by first | exact c1 | exact c2) | refine bxZ ?_ | refine cFZ ?_ | (refine zGZ ?_ ?_ <;> (intro _hg; try (exfalso; omega))) | refine ae rfl ?_ | refine r1Z ?_ | fail)) <;> (try clear zz)
  exact .int _ _
 ·have z:decide (a.n ≠ b.n)=true:=decide_eq_true hN
  rw [if_pos hN]
  (have zz:=aI @aj (aI @ab @z); repeat' (first | refine zW ?_ | apply a_n | apply a_r | refine zO ?_ | refine vZ ?_ | refine cZ ?_ (hp:=by first | exact c1 | exact c2) | refine bxZ ?_ | refine cTZ ?_ | (refine zGZ ?_ ?_ <;> (intro _hg; try (exfalso; omega))) | refine ae rfl ?_ | refine r1Z ?_ | fail)) <;> (try clear zz)
  exact .int _ _
end Go.Proofs.YtjgpfclngkcedaaGreat
namespace Go.Proofs.YtjgpfclngkcedaaGreat
open Go Go.Abs
open Nat (reduceEqDiff reduceAdd reduceLeDiff)
theorem mb {t:TaskV} {c:CaseV} {f:Int} (h:aM t=0) (hc:c ∈ t.cases):∀ v ∈ ar c f,(v.length:Int)=t.n∧v.length ≤ 5:=by
 obtain ⟨i,hi,rfl⟩:=List.getElem_of_mem hc
 intro v hv
 have:=(mO (f:=f) h hi).2 v (by rw [show t.cases.getD i default=t.cases[i] by simp [List.getD,hi]]; exact hv)
 have:=qT h
 omega
theorem nJ {c:CaseV} {f:Int} (h:ShC c):Sh (ar c f):=by
 obtain ⟨s1,s2,s3,s4,s5⟩:=h
 unfold ar
 split
 ·exact s4
 ·exact s2
theorem rZ {a b:TaskV} (h:∀ i,i < b.cases.length→jQ a (b.cases.getD i default)=none):oS a b=none:=fP h
theorem uk {a b:TaskV} {k:Nat} {w:List Int × Int × List Int} (hk:k < b.cases.length) (h:∀ i,i < k→jQ a (b.cases.getD i default)=none) (e:jQ a (b.cases.getD k default)=some w):oS a b=some w:=jL hk h e
theorem jW {a b:TaskV} (h:bF a b=0) (hw:oS a b=none):e7 a b=([],0,[],true,0):=by
 unfold e7; rw [if_neg (fun k=>k h),hw]
theorem pG {a b:TaskV} {w:List Int × Int × List Int} (h:bF a b=0) (hw:oS a b=some w):e7 a b=(w.1,w.2.1,w.2.2,false,0):=by
 unfold e7; rw [if_neg (fun k=>k h),hw]
theorem BP {n:Int} (h:n ≤ 5):2 ^ n.toNat ≤ 32:=by
 have:2 ^ n.toNat ≤ 2 ^ 5:=Nat.pow_le_pow_right (by omega) (by omega)
 omega
attribute [local irreducible] aA ag aU aO aE aH ay aJ aQ aZ Go.Abs.Fn aL Go.Abs.Pure ak aB Yl
set_option maxHeartbeats 2000000 in
theorem eg (a b:TaskV) (ha:∀ c ∈ a.cases,ShC c) (ha2:Sh a.cases) (hb:∀ c ∈ b.cases,ShC c) (hb2:Sh b.cases):Pure Tryz.prog 13 [bo a,bo b] (l7 (e7 a b)):=by
 refine Pure.of_c2 follows BK (Nat.le_of_ble_eq_true rfl) ?_
 simp only [b13,cO,cG,cN,cM,cD,cF,cB,av,aF]
 have hp:=rQ a b ha ha2 hb hb2
 have d1:=bJ a
 have d2:=bJ b
 have hb2':b.cases.length ≤ 17592186044416:=hb2
 by_cases he:bF a b=0
 rotate_left
 ·have e:e7 a b=([],0,[],false,bF a b):=by unfold e7; rw [if_pos he]
  rw [e]
  generalize bF a b=C at *
  unfold bo at *
  (have zz:=aI @aj @ab; repeat' (first | refine zW ?_ | apply a_n | apply a_r | refine zO ?_ | refine vZ ?_ | refine cZ ?_ (hp:=hp) | refine bxZ ?_ | (refine zGZ ?_ ?_ <;> (intro _hg; try (exfalso; omega))) | refine ae rfl ?_ | refine r5Z ?_ | fail)) <;> (try clear zz)
  exact sG (.eslsl 1) (.eslsl 1)
 obtain ⟨ca,cb,hn⟩:=tJ he
 rw [he] at hp
 have hfind:=fun v hv=>p6 a v ha ha2 hv
 have hN5:=(qT ca)
 have hsh:=B2 false false a.n (by omega) hN5.2
 have hp32:=BP hN5.2
 unfold bo at *
 (have zz:=aI @aj (aI @ab @aw); repeat' (first | refine zW ?_ | apply a_n | refine zO ?_ | refine vZ ?_ | refine cZ ?_ (hp:=hp) | refine bxZ ?_ | (refine zGZ ?_ ?_ <;> (intro _hg; try (exfalso; omega))) | fail)) <;> (try clear zz)
 refine be (X:=Nat) (fun k=>[(2,.ptr 0 4 0),(3,.ptr 1 4 0),(24,aR b.cases),(25,.int .i64 b.cases.length),(26,.int .i64 k)]) (fun k H nx=>k ≤ b.cases.length∧(∀ i,i < k→jQ a (b.cases.getD i default)=none)∧2 ≤ nx∧H 0=some [.int .i64 a.n,.int .i64 a.ins,.int .i64 a.outs,aR a.cases]∧H 1=some [.int .i64 b.n,.int .i64 b.ins,.int .i64 b.outs,aR b.cases]) (fun k=>b.cases.length - k) 0 ⟨Nat.zero_le _,fun i h=>absurd h (by omega),Nat.le_refl _,rfl,rfl⟩ (by simp (disch:=omega) only [agr,ZG,reduceEqDiff,↓reduceIte,List.length_cons,List.length_nil,reduceAdd]) ?_
 rintro k H nx ⟨hk,hz,hnx,g0,g1⟩
 by_cases hk2:k < b.cases.length
 rotate_left
 ·(have zz:=and_self; repeat' (first | refine zW ?_ | apply a_n | apply a_x | refine zO ?_ | refine vZ ?_ | (refine zGZ ?_ ?_ <;> (intro _hg; try (exfalso; omega))) | refine ae rfl ?_ | refine r5Z ?_ | fail)) <;> (try clear zz)
  rw [jW he (rZ fun i hi=>hz i (by omega))]
  exact sG (.eslsl 1) (.eslsl 1)
 have ix:=bd hk2
 have hm:=ai hk2
 have hshc:=hb _ hm
 have hlens:=fun f=>mb (f:=f) cb hm
 have hfi:=hfind (b.cases.getD k default).inp hshc.1
 have hstr:=fun w=>pG (w:=w) he
 have hwk:=fun w=>uk (a:=a) (w:=w) hk2 hz
 have hnext:jQ a (b.cases.getD k default)=none→∀ i,i < k + 1→jQ a (b.cases.getD i default)=none:=fun h i hi=>by
  rcases Nat.lt_succ_iff_lt_or_eq.1 hi with h' | rfl
  ·exact hz i h'
  ·exact h
 generalize hc:b.cases.getD k default=c at *
 obtain ⟨inp,out,calm⟩:=c
 dsimp only at *
 have hcl:=j8 inp hshc.1
 cases hf:b0 a inp with
 | none =>
  have hw:jQ a ⟨inp,out,calm⟩=some (inp,0,[]):=by unfold jQ; rw [hf]
  rw [hf] at hfi
  have hfi':Pure Tryz.prog 41 [.agg [.int .i64 a.n,.int .i64 a.ins,.int .i64 a.outs,aR a.cases],aN inp] (.tup [.agg [aN [],ax [],ax []],.bool false]):=hfi
  (have zz:=aI @g0 (aI @g1 (aI @aj (aI @ab @ix))); repeat' (first | refine zW ?_ | apply a_n | refine zO ?_ | refine vY ?_ | refine cY ?_ (hp:=hfi') | refine alY ?_ | refine stY ?_ | refine cTY ?_ | (refine zGY ?_ ?_ <;> (intro _hg; try (exfalso; omega))) | fail)) <;> (try clear zz)
  refine kg ev0 ev0 hcl (az (a9 _ _) af) ?_
  (have zz:=aI @g0 @g1; repeat' (first | apply a_n | apply a_r | refine zO ?_ | refine vY ?_ | refine ae rfl ?_ | refine r5Y ?_ | fail)) <;> (try clear zz)
  rw [hstr _ (hwk _ hw)]
  exact sG (a9 _ _) (.eslsl 1)
 | some x =>
  obtain ⟨xm,xi⟩:=bW hf
  have hxs:=ha _ xm
  rw [hf] at hfi
  have hfi':Pure Tryz.prog 41 [.agg [.int .i64 a.n,.int .i64 a.ins,.int .i64 a.outs,aR a.cases],aN inp] (.tup [.agg [aN x.inp,ax x.out,ax x.calm],.bool true]):=hfi
  (have zz:=aI @g0 (aI @g1 (aI @aj (aI @ab (aI @ix @hsh)))); repeat' (first | refine zW ?_ | apply a_n | refine zO ?_ | refine vY ?_ | refine cY ?_ (hp:=hfi') | refine alY ?_ | refine stY ?_ | refine cFY ?_ | (refine zGY ?_ ?_ <;> (intro _hg; try (exfalso; omega))) | fail)) <;> (try clear zz)
  refine be (X:=Nat) (fun f=>[(2,.ptr 0 4 0),(3,.ptr 1 4 0),(24,aR b.cases),(25,.int .i64 b.cases.length),(26,.int .i64 k),(11,.ptr nx 3 0),(12,.ptr (nx + 1) 3 0),(44,.int .i64 (2 ^ a.n.toNat:Nat)),(45,.int .i64 (f:Nat))]) (fun f H' nx'=>f ≤ 2 ^ a.n.toNat∧(∀ g:Nat,g < f→∀ i,i < (ar x g).length→jO ⟨inp,out,calm⟩ g ((ar x g).getD i default)=true)∧nx'=nx + 2∧H' 0=some [.int .i64 a.n,.int .i64 a.ins,.int .i64 a.outs,aR a.cases]∧H' 1=some [.int .i64 b.n,.int .i64 b.ins,.int .i64 b.outs,aR b.cases]∧H' nx=some [aN inp,ax out,ax calm]∧H' (nx + 1)=some [aN x.inp,ax x.out,ax x.calm]) (fun f=>2 ^ a.n.toNat - f) 0 ⟨Nat.zero_le _,fun g h=>absurd h (by omega),by omega,by rw [ac (by omega),ac (by omega),ac (by omega),ac (by omega),g0],by rw [ac (by omega),ac (by omega),ac (by omega),ac (by omega),g1],by rw [ac (by omega),ac (by omega),au]; rfl,by rw [au]; rfl⟩ (by simp (disch:=omega) only [agr,ZG,reduceEqDiff,↓reduceIte,List.length_cons,List.length_nil,reduceAdd,Nat.zero_add]) ?_
  clear g0 g1
  rintro f H1 nx1 ⟨hf1,hfz,rfl,g0,g1,g2,g3⟩
  have hd:decide ((f:Int) < ((2 ^ a.n.toNat:Nat):Int))=decide (f < 2 ^ a.n.toNat):=decide_eq_decide.2 (by omega)
  by_cases hf2:f < 2 ^ a.n.toNat
  rotate_left
  ·rw [decide_eq_false hf2] at hd
   (have zz:=@hd; repeat' (first | refine zW ?_ | apply a_n | apply a_x | refine zO ?_ | refine vY ?_ | refine cFY ?_ | fail)) <;> (try clear zz)
   exact ⟨k + 1,by omega,⟨by omega,hnext (uN hf fun g hg=>hfz g (by omega)),by omega,g0,g1⟩,ag0⟩
  rw [decide_eq_true hf2] at hd
  have hv1:=mI x f
  have hv2:=mI ⟨inp,out,calm⟩ f
  dsimp only at hv2
  have dx:=de x
  have dc:=de ⟨inp,out,calm⟩
  unfold cr at dx dc
  dsimp only at dc
  have hLx:=mb (f:=f) ca xm
  have hLs:(ar x f).length ≤ 17592186044416:=nJ hxs
  have hLc:=hlens f
  have hLcs:=nJ (f:=f) hshc
  have hhit:=fun j hj hz e=>vF (a:=a) (c:=⟨inp,out,calm⟩) (x:=x) (f:=f) (k:=j) hf hfz hf2 hj hz e
  have hfnext:(∀ i,i < (ar x f).length→jO ⟨inp,out,calm⟩ f ((ar x f).getD i default)=true)→∀ g:Nat,g < f + 1→∀ i,i < (ar x g).length→jO ⟨inp,out,calm⟩ g ((ar x g).getD i default)=true:=fun h g hg=>by
   rcases Nat.lt_succ_iff_lt_or_eq.1 hg with h' | rfl
   ·exact hfz g h'
   ·exact h
  have hmay:∀ v,jO ⟨inp,out,calm⟩ f v=(ar ⟨inp,out,calm⟩ f).any fun w=>b5 w v f:=fun v=>rfl
  generalize hL:ar x f=L at *
  generalize hM:ar ⟨inp,out,calm⟩ f=M at *
  (have zz:=aI @hd (aI @g2 @g3); repeat' (first | refine zW ?_ | apply a_n | refine zO ?_ | refine vY ?_ | refine cY ?_ (hp:=hv1) | refine cTY ?_ | fail)) <;> (try clear zz)
  refine be (X:=Nat) (fun j=>[(2,.ptr 0 4 0),(3,.ptr 1 4 0),(24,aR b.cases),(25,.int .i64 b.cases.length),(26,.int .i64 k),(11,.ptr nx 3 0),(12,.ptr (nx + 1) 3 0),(44,.int .i64 (2 ^ a.n.toNat:Nat)),(45,.int .i64 (f:Nat)),(14,.int .i64 (f:Nat)),(50,ax L),(51,.int .i64 L.length),(52,.int .i64 j)]) (fun j H' nx'=>j ≤ L.length∧(∀ i,i < j→jO ⟨inp,out,calm⟩ f (L.getD i default)=true)∧nx'=nx + 2∧H'=H1) (fun j=>L.length - j) 0 ⟨Nat.zero_le _,fun i h=>absurd h (by omega),rfl,rfl⟩ ag0 ?_
  rintro j _ _ ⟨hj1,hjz,rfl,rfl⟩
  by_cases hj2:j < L.length
  rotate_left
  ·(have zz:=and_self; repeat' (first | refine zW ?_ | apply a_n | apply a_x | refine zO ?_ | refine vZ ?_ | (refine zGZ ?_ ?_ <;> (intro _hg; try (exfalso; omega))) | fail)) <;> (try clear zz)
   exact ⟨f + 1,by omega,⟨by omega,hfnext fun i hi=>hjz i (by omega),rfl,g0,g1,g2,g3⟩,ag0⟩
  have hvm:=ai hj2
  have hag:=ue M (L.getD j default) f hLcs (by have:=hLx _ hvm; omega) (fun w hw=>by have:=hLx _ hvm; have:=hLc w hw; omega)
  rw [← hmay] at hag
  have hcl2:=j8 (L.getD j default) (by have:=hLx _ hvm; show _ ≤ _; omega)
  cases hb2:jO ⟨inp,out,calm⟩ f (L.getD j default)
  ·rw [hb2] at hag
   (have zz:=aI @g2 @g3; repeat' (first | refine zW ?_ | apply a_n | refine zO ?_ | refine vY ?_ | refine cY ?_ (hp:=by first | exact hv2 | exact hag) | refine cTY ?_ | (refine zGY ?_ ?_ <;> (intro _hg; try (exfalso; omega))) | fail)) <;> (try clear zz)
   refine kg ev0 ev0 hcl (az (a9 _ _) af) ?_
   (have zz:=and_self; repeat' (first | apply a_n | refine zO ?_ | refine vY ?_ | fail)) <;> (try clear zz)
   refine kg ev0 ev0 hcl2 (az (a9 _ _) af) ?_
   (have zz:=and_self; repeat' (first | apply a_n | apply a_r | refine zO ?_ | refine vY ?_ | refine ae rfl ?_ | refine r5Y ?_ | fail)) <;> (try clear zz)
   rw [hstr _ (hwk _ (hhit j hj2 hjz hb2))]
   exact sG (a9 _ _) (a9 _ _)
  ·rw [hb2] at hag
   (have zz:=aI @g2 @g3; repeat' (first | refine zW ?_ | apply a_n | refine zO ?_ | refine vY ?_ | refine cY ?_ (hp:=by first | exact hv2 | exact hag) | refine cFY ?_ | (refine zGY ?_ ?_ <;> (intro _hg; try (exfalso; omega))) | fail)) <;> (try clear zz)
   refine ⟨j + 1,by omega,⟨by omega,fun i hi=>?_,rfl,rfl⟩,ag0⟩
   rcases Nat.lt_succ_iff_lt_or_eq.1 hi with h' | rfl
   ·exact hjz i h'
   ·exact hb2
end Go.Proofs.YtjgpfclngkcedaaGreat
namespace Go.Proofs.YtjgpfclngkcedaaGreat
open Go Go.Abs
open Nat (reduceEqDiff reduceAdd reduceLeDiff)
attribute [local irreducible] aA ag aU aO aE aH ay aJ aQ aZ Go.Abs.Fn aL Go.Abs.Pure ak aB Yl
end Go.Proofs.YtjgpfclngkcedaaGreat
namespace Go.Proofs.YtjgpfclngkcedaaGreat
open Go Go.Abs
def _root_.List.c3 {α:Type} (l:List α) (f:α→AV):List AV:=l.flatMap fun x=>(f x).cells
structure Cmp3 {α:Type} (P:Program) (f:α→AV) (K:α→α→Int) (G:α→Prop) (g:Nat) (caps:List AV):Prop where
 len:∀ x,(f x).cells.length=3
 agg:∀ x,AV.agg (f x).cells=f x
 ones:∀ x,AV.ones (f x).cells=true
 dat:∀ x,Dat (f x)
 dcaps:∀ x ∈ caps,Dat x
 run:∀ x y,G x→G y→Go.Abs.Pure P g (f x :: f y :: caps) (.int .i64 (K x y))
 ord:Ord K
section
variable {α:Type} {f:α→AV} (h:∀ x,(f x).cells.length=3)
include h
theorem bc (M:List α):(M.c3 f).length=M.length * 3:=by
 unfold List.c3
 induction M with
 | nil=>rfl
 | cons a l ih=>rw [List.flatMap_cons,List.length_append,ih,h,List.length_cons]; omega
theorem pn:∀ (M:List α) (k:Nat),(M.c3 f).drop (k * 3)=(M.drop k).c3 f
 | [],k=>by simp [List.c3]
 | a :: l,0=>by simp
 | a :: l,k + 1=>by
  have e:((a :: l).c3 f).drop ((k + 1) * 3)=(l.c3 f).drop (k * 3):=by
   show ((f a).cells ++ l.c3 f).drop _=_
   rw [List.drop_append,List.drop_eq_nil_of_le (by rw [h]; omega),List.nil_append,h]
   congr 1; omega
  rw [e,pn l k]; rfl
theorem sO:∀ (M:List α) (k:Nat),(M.c3 f).take (k * 3)=(M.take k).c3 f
 | [],k=>by simp [List.c3]
 | a :: l,0=>by simp [List.c3]
 | a :: l,k + 1=>by
  show ((f a).cells ++ l.c3 f).take _=(f a).cells ++ (l.take k).c3 f
  rw [List.take_append,List.take_of_length_le (by rw [h]; omega),h,show (k + 1) * 3 - 3=k * 3 by omega,sO l k]
theorem rdC [Inhabited α] (M:List α) (k:Nat) (hk:k < M.length):((M.c3 f).drop (k * 3)).take 3=(f (M.getD k default)).cells:=by
 rw [pn h,bT hk]
 show ((f (M.getD k default)).cells ++ _).take 3=_
 rw [List.take_append_of_le_length (by rw [h]; omega),List.take_of_length_le (by rw [h]; omega)]
theorem x7 {M:List α} {k:Nat} {x:α} (hk:k < M.length):bg (M.c3 f) (k * 3) (f x).cells=(M.set k x).c3 f:=by
 simp only [bg]
 rw [h,show k * 3 + 3=(k + 1) * 3 by omega,pn h,sO h,List.set_eq_take_append_cons_drop,if_pos hk]
 simp only [List.c3,List.flatMap_append,List.flatMap_cons,List.append_assoc]
theorem bK [Inhabited α] {M:List α} {i j:Nat} (hi:i < M.length) (hj:j < M.length):∃ M1:List α,M1.length=M.length∧bg (M.c3 f) (i * 3) (f (M.getD j default)).cells=M1.c3 f∧bg (M1.c3 f) (j * 3) (f (M.getD i default)).cells=(swp M i j).c3 f∧(M.c3 f).length=M.length * 3∧(M1.c3 f).length=M.length * 3∧(f (M.getD i default)).cells.length=3∧(f (M.getD j default)).cells.length=3 :=
 ⟨M.set i (M.getD j default),by simp,x7 h hi,by rw [x7 h (by simpa using hj)]; rfl,bc h M,by rw [bc h]; simp,h _,h _⟩
end
theorem bi {c:Prop} [Decidable c] {g:List AV→AV} {x:List AV}:Option.map g (if c then some x else none)=if c then some (g x) else none:=by
 split <;> rfl
section
variable {α:Type} [Inhabited α] {f:α→AV} {K:α→α→Int} {G:α→Prop} {g:Nat} {caps:List AV}
attribute [local irreducible] aA ag aU aO aE aH ay aJ aQ aZ Go.Abs.Fn aL Go.Abs.Pure ak aB Yl
theorem AP (hc:Cmp3 Tryz.prog f K G g caps) {L:List α} {H:Hp} {b nx n a e:Nat} (hH:H b=some (L.c3 f)) (hn:L.length=n) (hG:∀ x ∈ L,G x) (hae:a ≤ e) (hen:e ≤ n) (hn2:n ≤ 1000000000) :
    Abs.Fn Tryz.prog 131 [.msl b (n * 3) 3 0 n,.int .i64 a,.int .i64 e,.func g caps] H nx fun r H' nx'=>nx'=nx∧∃ L',H'=an H b (L'.c3 f)∧PermR a e L L'∧aP K a e L':=by
 refine Abs.Fn.of_c2 follows x9 (Nat.le_of_ble_eq_true rfl) ?_
 simp only [y9,cO,cG,cN,cM,cD,cF,cB,av,aF]
 (have zz:=and_self; repeat' (first | refine zW ?_ | apply a_n | refine zO ?_ | refine vZ ?_ | fail)) <;> (try clear zz)
 refine be (X:=Nat × List α) (fun x=>[(0,.msl b (n * 3) 3 0 n),(1,.int .i64 a),(2,.int .i64 e),(3,.func g caps),(8,.int .i64 (x.1:Nat))]) (fun x H' nx'=>a + 1 ≤ x.1∧(x.1 ≤ e ∨ x.1=a + 1)∧H'=an H b (x.2.c3 f)∧nx'=nx∧PermR a e L x.2∧aP K a x.1 x.2) (fun x=>e + 1 - x.1) (a + 1,L) ⟨Nat.le_refl _,.inr rfl,dt hH,rfl,.refl,aP.one (Nat.le_refl _)⟩ ag0 ?_
 rintro ⟨i,M0⟩ H' nx' ⟨h1,h2,rfl,rfl,hp0,hs0⟩
 dsimp only at *
 have hl0:M0.length=n:=by rw [hp0.len,hn]
 by_cases hi:i < e
 rotate_left
 ·(have zz:=and_self; repeat' (first | refine zW ?_ | apply a_n | apply a_x | refine zO ?_ | refine vZ ?_ | (refine zGZ ?_ ?_ <;> (intro _hg; try (exfalso; omega))) | refine ae rfl ?_ | fail)) <;> (try clear zz)
  exact ⟨rfl,M0,rfl,hp0,hs0.mono (Nat.le_refl _) (by omega)⟩
 (have zz:=and_self; repeat' (first | refine zW ?_ | apply a_n | refine zO ?_ | refine vZ ?_ | (refine zGZ ?_ ?_ <;> (intro _hg; try (exfalso; omega))) | fail)) <;> (try clear zz)
 refine be (X:=Nat × List α) (fun x=>[(0,.msl b (n * 3) 3 0 n),(1,.int .i64 a),(2,.int .i64 e),(3,.func g caps),(8,.int .i64 (i:Nat)),(9,.int .i64 (x.1:Nat))]) (fun x H' nxx=>a ≤ x.1∧x.1 ≤ i∧H'=an H b (x.2.c3 f)∧nxx=nx'∧PermR a e L x.2∧dl K a i x.1 x.2) (fun x=>x.1) (i,M0) ⟨by omega,Nat.le_refl _,rfl,rfl,hp0,.start hs0⟩ ag0 ?_
 clear hp0 hs0 hl0
 rintro ⟨j,M⟩ H' nxx ⟨a1,a2,rfl,rfl,hp,hal⟩
 dsimp only at *
 have hl:M.length=n:=by rw [hp.len,hn]
 have hGM:=hp.mem hG
 by_cases hja:j=a
 ·subst hja
  (have zz:=and_self; repeat' (first | refine zW ?_ | refine zM ?_ | apply a_n | apply a_x | refine zO ?_ | refine vZ ?_ | refine gFZ ?_ | (refine zGZ ?_ ?_ <;> (intro _hg; try (exfalso; omega))) | refine cFZ ?_ | fail)) <;> (try clear zz)
  exact ⟨(i + 1,M),by dsimp only; omega,⟨by dsimp only; omega,.inl (by dsimp only; omega),rfl,rfl,hp,hal.done hc.ord (.inl rfl)⟩,ag0⟩
 ·obtain ⟨k,rfl⟩:∃ k,j=k + 1:=⟨j - 1,by omega⟩
  have tj:((k + 1:Nat):Int) - 1=(k:Int):=by omega
  have lc:=hc.run (M.getD (k + 1) default) (M.getD k default) (hGM _ (ai (by omega))) (hGM _ (ai (by omega)))
  have d1:=hc.dat (M.getD (k + 1) default)
  have d2:=hc.dat (M.getD k default)
  have dcap:=hc.dcaps
  generalize hKK:K (M.getD (k + 1) default) (M.getD k default)=kk at lc
  by_cases hlt:kk < 0
  ·obtain ⟨M1,hl1,lm1,lm2,c1,c2,c3,c4⟩:=bK (f:=f) hc.len (M:=M) (i:=k + 1) (j:=k) (by omega) (by omega)
   have lm3:=lm2
   simp only [bg] at lm1 lm2
   (have zz:=aI @tj (aI @Int.toNat_natCast (aI @lm1 (aI @lm2 (aI (rdC hc.len) (aI (bc hc.len) (aI @bi (aI hc.agg hc.ones))))))); repeat' (first | refine zW ?_ | refine zM ?_ | apply a_n | refine zO ?_ | refine vZ ?_ | refine cZ ?_ (hp:=lc) (hs:=by (first | refine ah ?_ rfl | apply ap); (repeat' (first | exact af | apply aC | apply aq | exact d1 | exact d2 | exact ao dcap)); first | done | fail) | refine stZ ?_ | refine gTZ ?_ | (refine zGZ ?_ ?_ <;> (intro _hg; try (exfalso; omega))) | fail)) <;> (try clear zz)
   refine ⟨(k,swp M (k + 1) k),by dsimp only; omega,⟨by dsimp only; omega,by dsimp only; omega,?_,rfl,hp.trans (PermR.swap (by omega) (by omega) (by omega)),hal.step hc.ord (by omega) (by omega) (by omega) (by rw [hKK]; exact hlt)⟩,(have zz:=@tj; agZ)⟩
   dsimp only
   rw [am,am,lm3]
  ·(have zz:=aI @tj (aI @Int.toNat_natCast (aI (rdC hc.len) (aI (bc hc.len) (aI @bi (aI hc.agg hc.ones))))); repeat' (first | refine zW ?_ | refine zM ?_ | apply a_n | apply a_x | refine zO ?_ | refine vZ ?_ | refine cZ ?_ (hp:=lc) (hs:=by (first | refine ah ?_ rfl | apply ap); (repeat' (first | exact af | apply aC | apply aq | exact d1 | exact d2 | exact ao dcap)); first | done | fail) | refine gTZ ?_ | (refine zGZ ?_ ?_ <;> (intro _hg; try (exfalso; omega))) | fail)) <;> (try clear zz)
   exact ⟨(i + 1,M),by dsimp only; omega,⟨by dsimp only; omega,.inl (by dsimp only; omega),rfl,rfl,hp,hal.done hc.ord (.inr ⟨by omega,by rw [Nat.add_sub_cancel,hKK]; exact hlt⟩)⟩,ag0⟩
end
end Go.Proofs.YtjgpfclngkcedaaGreat
namespace Go.Proofs.YtjgpfclngkcedaaGreat
open Go Go.Abs
section
variable {α:Type} [Inhabited α] {f:α→AV} {K:α→α→Int} {G:α→Prop} {g:Nat} {caps:List AV}
attribute [local irreducible] aA ag aU aO aE aH ay aJ aQ aZ Go.Abs.Fn aL Go.Abs.Pure ak aB Yl
theorem vK (hc:Cmp3 Tryz.prog f K G g caps) {L:List α} {H:Hp} {b nx n a lo hi:Nat} (hH:H b=some (L.c3 f)) (hn:L.length=n) (hG:∀ x ∈ L,G x) (hhi:a + hi ≤ n) (hn2:n ≤ 1000000000) (hlo:lo ≤ n) (hheap:dD K a hi (lo + 1) L) :
    Abs.Fn Tryz.prog 157 [.msl b (n * 3) 3 0 n,.int .i64 lo,.int .i64 hi,.int .i64 a,.func g caps] H nx fun r H' nx'=>nx'=nx∧∃ L',H'=an H b (L'.c3 f)∧PermR a (a + hi) L L'∧dD K a hi lo L':=by
 refine Abs.Fn.of_c2 follows x1 (Nat.le_of_ble_eq_true rfl) ?_
 simp only [zV,cO,cG,cN,cM,cD,cF,cB,av,aF]
 (have zz:=and_self; repeat' (first | refine zW ?_ | apply a_n | refine zO ?_ | refine vZ ?_ | fail)) <;> (try clear zz)
 refine be (X:=Nat × List α) (fun x=>[(0,.msl b (n * 3) 3 0 n),(2,.int .i64 hi),(3,.int .i64 a),(4,.func g caps),(10,.int .i64 (x.1:Nat))]) (fun x H' nx'=>x.1 ≤ n∧H'=an H b (x.2.c3 f)∧nx'=nx∧PermR a (a + hi) L x.2∧SiftR K a hi lo x.1 x.2) (fun x=>n + 1 - x.1) (lo,L) ⟨hlo,dt hH,rfl,.refl,.start hheap⟩ ag0 ?_
 rintro ⟨root,M⟩ H' nx' ⟨h0,rfl,rfl,hp,hs⟩
 dsimp only at *
 have hl:M.length=n:=by rw [hp.len,hn]
 have hGM:=hp.mem hG
 by_cases hch:2 * root + 1 < hi
 rotate_left
 ·(have zz:=and_self; repeat' (first | refine zW ?_ | apply a_n | apply a_x | refine zO ?_ | refine vZ ?_ | (refine zGZ ?_ ?_ <;> (intro _hg; try (exfalso; omega))) | refine ae rfl ?_ | fail)) <;> (try clear zz)
  exact ⟨rfl,M,rfl,hp,hs.leaf (by omega)⟩
 have dcap:=hc.dcaps
 have tch:(2:Int) * (root:Int) + 1=((2 * root + 1:Nat):Int):=by omega
 have tch2:((2 * root + 1:Nat):Int) + 1=((2 * root + 1 + 1:Nat):Int):=by omega
 have w1:IntKind.wrap .i64 (2 * (root:Int))=2 * (root:Int):=mN (by omega) (by omega)
 obtain ⟨c,hkid,hchi,hbest,hsel⟩:∃ c,Kid root c∧c < hi∧(∀ d,Kid root d→d < hi→¬ K (M.getD (a + c) default) (M.getD (a + d) default) < 0)∧((c=2 * root + 1 + 1∧K (M.getD (a + (2 * root + 1)) default) (M.getD (a + (2 * root + 1 + 1)) default) < 0) ∨ (c=2 * root + 1∧(2 * root + 1 + 1 < hi→¬ K (M.getD (a + (2 * root + 1)) default) (M.getD (a + (2 * root + 1 + 1)) default) < 0))):=by
  by_cases h2:2 * root + 1 + 1 < hi∧K (M.getD (a + (2 * root + 1)) default) (M.getD (a + (2 * root + 1 + 1)) default) < 0
  ·refine ⟨2 * root + 1 + 1,.inr rfl,h2.1,fun d hd hd2=>?_,.inl ⟨rfl,h2.2⟩⟩
   rcases hd with rfl | rfl
   ·exact hc.ord.asym _ _ h2.2
   ·exact hc.ord.irr _
  ·refine ⟨2 * root + 1,.inl rfl,hch,fun d hd hd2=>?_,.inr ⟨rfl,fun h h3=>h2 ⟨h,h3⟩⟩⟩
   rcases hd with rfl | rfl
   ·exact hc.ord.irr _
   ·exact fun h3=>h2 ⟨hd2,h3⟩
 have lc2:=hc.run (M.getD (a + root) default) (M.getD (a + c) default) (hGM _ (ai (by omega))) (hGM _ (ai (by omega)))
 have e1:=hc.dat (M.getD (a + root) default)
 have e2:=hc.dat (M.getD (a + c) default)
 generalize hK2:K (M.getD (a + root) default) (M.getD (a + c) default)=k2 at lc2
 refine cU ?_
 refine aS (fun T H'' nx''=>T 0=.msl b (n * 3) 3 0 n∧T 2=.int .i64 hi∧T 3=.int .i64 a∧T 4=.func g caps∧T 10=.int .i64 (root:Nat)∧T 11=.int .i64 ((2 * root + 1:Nat):Int)∧H''=an H b (M.c3 f)∧nx'=nx'') ?_ ?_
 ·(have zz:=aI @w1 @tch; repeat' (first | apply a_n | refine zO ?_ | refine vZ ?_ | fail)) <;> (try clear zz)
  exact ⟨rfl,rfl,rfl,rfl,rfl,rfl,rfl,rfl⟩
 rintro T _ _ ⟨t0,t2,t3,t4,t10,t11,rfl,rfl⟩
 refine aS (fun T H'' nx''=>T 0=.msl b (n * 3) 3 0 n∧T 2=.int .i64 hi∧T 3=.int .i64 a∧T 4=.func g caps∧T 10=.int .i64 (root:Nat)∧T 11=.int .i64 ((2 * root + 1:Nat):Int)∧H''=an H b (M.c3 f)∧nx'=nx'') ?_ ?_
 ·(have zz:=aI @t0 (aI @t2 (aI @t3 (aI @t4 (aI @t10 @t11)))); repeat' (first | refine zW ?_ | apply a_n | refine zO ?_ | refine vZ ?_ | (refine zGZ ?_ ?_ <;> (intro _hg; try (exfalso; omega))) | fail)) <;> (try clear zz)
  all_goals exact ⟨(have zz:=@t0; evZ),(have zz:=@t2; evZ),(have zz:=@t3; evZ),(have zz:=@t4; evZ),(have zz:=@t10; evZ),(have zz:=@t11; evZ),rfl,rfl⟩
 clear t0 t2 t3 t4 t10 t11
 rintro T _ _ ⟨t0,t2,t3,t4,t10,t11,rfl,rfl⟩
 refine aS (fun T H'' nx''=>T 0=.msl b (n * 3) 3 0 n∧T 2=.int .i64 hi∧T 3=.int .i64 a∧T 4=.func g caps∧T 10=.int .i64 (root:Nat)∧T 11=.int .i64 (c:Nat)∧H''=an H b (M.c3 f)∧nx'=nx'') ?_ ?_
 ·by_cases h2:2 * root + 1 + 1 < hi
  ·have lc1:=hc.run (M.getD (a + (2 * root + 1)) default) (M.getD (a + (2 * root + 1 + 1)) default) (hGM _ (ai (by omega))) (hGM _ (ai (by omega)))
   have e3:=hc.dat (M.getD (a + (2 * root + 1)) default)
   have e4:=hc.dat (M.getD (a + (2 * root + 1 + 1)) default)
   generalize hK1:K (M.getD (a + (2 * root + 1)) default) (M.getD (a + (2 * root + 1 + 1)) default)=k1 at lc1 hsel
   have hlt:decide (((2 * root + 1 + 1:Nat):Int) < (hi:Int))=true:=decide_eq_true (by omega)
   generalize 2 * root + 1=ch at *
   rcases hsel with ⟨rfl,hk1⟩ | ⟨rfl,hk1⟩
   ·(have zz:=aI @t0 (aI @t2 (aI @t3 (aI @t4 (aI @t10 (aI @t11 (aI @tch2 (aI @hlt (aI @bO (aI @fJ (aI (rdC hc.len) (aI (bc hc.len) (aI @bi (aI hc.agg hc.ones))))))))))))); repeat' (first | refine zW ?_ | refine zM ?_ | apply a_n | refine zO ?_ | refine vZ ?_ | refine cZ ?_ (hp:=lc1) (hs:=by (first | refine ah ?_ rfl | apply ap); (repeat' (first | exact af | apply aC | apply aq | exact e3 | exact e4 | exact ao dcap)); first | done | fail) | refine gTZ ?_ | (refine zGZ ?_ ?_ <;> (intro _hg; try (exfalso; omega))) | fail)) <;> (try clear zz)
    all_goals exact ⟨(have zz:=@t0; evZ),(have zz:=@t2; evZ),(have zz:=@t3; evZ),(have zz:=@t4; evZ),(have zz:=@t10; evZ),(have zz:=@t11; evZ),rfl,rfl⟩
   ·have hk1:=hk1 h2
    (have zz:=aI @t0 (aI @t2 (aI @t3 (aI @t4 (aI @t10 (aI @t11 (aI @tch2 (aI @hlt (aI @bO (aI @fJ (aI (rdC hc.len) (aI (bc hc.len) (aI @bi (aI hc.agg hc.ones))))))))))))); repeat' (first | refine zW ?_ | refine zM ?_ | apply a_n | refine zO ?_ | refine vZ ?_ | refine cZ ?_ (hp:=lc1) (hs:=by (first | refine ah ?_ rfl | apply ap); (repeat' (first | exact af | apply aC | apply aq | exact e3 | exact e4 | exact ao dcap)); first | done | fail) | refine gTZ ?_ | (refine zGZ ?_ ?_ <;> (intro _hg; try (exfalso; omega))) | fail)) <;> (try clear zz)
    all_goals exact ⟨(have zz:=@t0; evZ),(have zz:=@t2; evZ),(have zz:=@t3; evZ),(have zz:=@t4; evZ),(have zz:=@t10; evZ),(have zz:=@t11; evZ),rfl,rfl⟩
  ·have hlt:decide (((2 * root + 1 + 1:Nat):Int) < (hi:Int))=false:=decide_eq_false (by omega)
   have hcc:c=2 * root + 1:=by
    rcases hsel with ⟨rfl,_⟩ | ⟨rfl,_⟩
    ·omega
    ·rfl
   subst hcc
   (have zz:=aI @t0 (aI @t2 (aI @t3 (aI @t4 (aI @t10 (aI @t11 (aI @tch2 @hlt)))))); repeat' (first | refine zW ?_ | refine zM ?_ | apply a_n | refine zO ?_ | refine vZ ?_ | refine gFZ ?_ | refine cFZ ?_ | fail)) <;> (try clear zz)
   all_goals exact ⟨(have zz:=@t0; evZ),(have zz:=@t2; evZ),(have zz:=@t3; evZ),(have zz:=@t4; evZ),(have zz:=@t10; evZ),(have zz:=@t11; evZ),rfl,rfl⟩
 clear t0 t2 t3 t4 t10 t11 hsel
 rintro T _ _ ⟨t0,t2,t3,t4,t10,t11,rfl,rfl⟩
 by_cases hk2:k2 < 0
 ·obtain ⟨M1,hl1,lm1,lm2,c1,c2,c3,c4⟩:=bK (f:=f) hc.len (M:=M) (i:=a + root) (j:=a + c) (by omega) (by omega)
  have lm3:=lm2
  simp only [bg] at lm1 lm2
  (have zz:=aI @t0 (aI @t2 (aI @t3 (aI @t4 (aI @t10 (aI @t11 (aI @bO (aI @lm1 (aI @lm2 (aI (rdC hc.len) (aI (bc hc.len) (aI @bi (aI hc.agg hc.ones)))))))))))); repeat' (first | refine zW ?_ | refine zM ?_ | apply a_n | refine zO ?_ | refine vZ ?_ | refine cZ ?_ (hp:=lc2) (hs:=by (first | refine ah ?_ rfl | apply ap); (repeat' (first | exact af | apply aC | apply aq | exact e1 | exact e2 | exact ao dcap)); first | done | fail) | refine stZ ?_ | (refine zGZ ?_ ?_ <;> (intro _hg; try (exfalso; omega))) | fail)) <;> (try clear zz)
  have hrc:root < c:=by unfold Kid at hkid; omega
  have hcn:c < n:=by omega
  refine ⟨(c,swp M (a + root) (a + c)),by dsimp only; omega,⟨by dsimp only; omega,?_,rfl,hp.trans (PermR.swap (by omega) (by omega) (by omega)),hs.step hc.ord hkid hchi (by omega) hbest (by rw [hK2]; exact hk2)⟩,(have zz:=aI @t0 (aI @t2 (aI @t3 @t4)); agZ)⟩
  dsimp only
  rw [am,am,lm3]
 ·(have zz:=aI @t0 (aI @t2 (aI @t3 (aI @t4 (aI @t10 (aI @t11 (aI @bO (aI (rdC hc.len) (aI (bc hc.len) (aI @bi (aI hc.agg hc.ones)))))))))); repeat' (first | refine zW ?_ | refine zM ?_ | apply a_n | apply a_r | refine zO ?_ | refine vZ ?_ | refine cZ ?_ (hp:=lc2) (hs:=by (first | refine ah ?_ rfl | apply ap); (repeat' (first | exact af | apply aC | apply aq | exact e1 | exact e2 | exact ao dcap)); first | done | fail) | (refine zGZ ?_ ?_ <;> (intro _hg; try (exfalso; omega))) | refine ae rfl ?_ | fail)) <;> (try clear zz)
  exact ⟨rfl,M,rfl,hp,hs.stop hc.ord hbest (by rw [hK2]; exact hk2)⟩
end
end Go.Proofs.YtjgpfclngkcedaaGreat
namespace Go.Proofs.YtjgpfclngkcedaaGreat
open Go Go.Abs
open Nat (reduceEqDiff reduceAdd reduceLeDiff)
section
variable {α:Type} [Inhabited α] {f:α→AV} {K:α→α→Int} {G:α→Prop} {g:Nat} {caps:List AV}
attribute [local irreducible] aA ag aU aO aE aH ay aJ aQ aZ Go.Abs.Fn aL Go.Abs.Pure ak aB Yl
theorem zP (hc:Cmp3 Tryz.prog f K G g caps) {L:List α} {H:Hp} {b nx n a e:Nat} (hH:H b=some (L.c3 f)) (hn:L.length=n) (hG:∀ x ∈ L,G x) (hae:a ≤ e) (hen:e ≤ n) (hn2:n ≤ 1000000000) :
    Abs.Fn Tryz.prog 132 [.msl b (n * 3) 3 0 n,.int .i64 a,.int .i64 e,.func g caps] H nx fun r H' nx'=>nx'=nx∧∃ L',H'=an H b (L'.c3 f)∧PermR a e L L'∧aP K a e L':=by
 obtain ⟨h,rfl⟩:∃ h,e=a + h:=⟨e - a,by omega⟩
 refine Abs.Fn.of_c2 follows xO (Nat.le_of_ble_eq_true rfl) ?_
 simp only [zU,cO,cG,cN,cM,cD,cF,cB,av,aF]
 have dcap:=hc.dcaps
 have te:((a + h:Nat):Int) - (a:Int)=(h:Int):=by omega
 obtain ⟨r,tr,hr,hrn⟩:∃ r:Nat,aV .quo false false (.int .i64 ((h:Int) - 1)) (.int .i64 2)=some (.int .i64 (r:Int))∧h ≤ 2 * (r + 1) + 1∧r ≤ h:=by
  rcases Nat.eq_zero_or_pos h with e | e
  ·subst e; exact ⟨0,rfl,by omega,by omega⟩
  ·refine ⟨(h - 1) / 2,?_,by omega,by omega⟩
   rw [fC (by omega) (by omega) (by omega)]
   congr 2
   omega
 (have zz:=aI @te @tr; repeat' (first | refine zW ?_ | apply a_n | refine zO ?_ | refine vZ ?_ | fail)) <;> (try clear zz)
 refine be (X:=Nat × List α) (fun x=>[(0,.msl b (n * 3) 3 0 n),(1,.int .i64 a),(3,.func g caps),(8,.int .i64 a),(9,.int .i64 0),(10,.int .i64 h),(11,.int .i64 ((x.1:Nat) - 1))]) (fun x H' nxx=>x.1 ≤ n + 1∧H'=an H b (x.2.c3 f)∧nx=nxx∧PermR a (a + h) L x.2∧dD K a h x.1 x.2) (fun x=>x.1) (r + 1,L) ⟨by dsimp only; omega,dt hH,rfl,.refl,dD.start (by dsimp only; omega)⟩ (by simp (disch:=omega) only [agr,ZG,reduceEqDiff,↓reduceIte,Int.add_sub_cancel]) ?_
 rintro ⟨i,M⟩ H' nxx ⟨h1,rfl,rfl,hp,hh⟩
 dsimp only at *
 have hl:M.length=n:=by rw [hp.len,hn]
 have hGM:=hp.mem hG
 rcases Nat.eq_zero_or_pos i with e | e
 ·subst e
  (have zz:=and_self; repeat' (first | refine zW ?_ | apply a_n | apply a_x | refine zO ?_ | refine vZ ?_ | (refine zGZ ?_ ?_ <;> (intro _hg; try (exfalso; omega))) | fail)) <;> (try clear zz)
  clear hGM
  refine be (X:=Nat × List α) (fun x=>[(0,.msl b (n * 3) 3 0 n),(3,.func g caps),(8,.int .i64 a),(9,.int .i64 0),(12,.int .i64 ((x.1:Nat) - 1))]) (fun x H' nxx'=>x.1 ≤ h∧H'=an H b (x.2.c3 f)∧nx=nxx'∧PermR a (a + h) L x.2∧dD K a x.1 0 x.2∧TailR K a (a + h) (a + x.1) x.2) (fun x=>x.1) (h,M) ⟨Nat.le_refl _,rfl,rfl,hp,hh,.start⟩ (by simp (disch:=omega) only [agr,ZG,reduceEqDiff,↓reduceIte,Int.add_sub_cancel]) ?_
  clear hp hh hl
  rintro ⟨i,M⟩ H' nxx ⟨h1,rfl,rfl,hp,hh,ht⟩
  dsimp only at *
  have hl:M.length=n:=by rw [hp.len,hn]
  have hGM:=hp.mem hG
  rcases Nat.eq_zero_or_pos i with e | e
  ·subst e
   (have zz:=and_self; repeat' (first | refine zW ?_ | apply a_n | apply a_x | refine zO ?_ | refine vZ ?_ | (refine zGZ ?_ ?_ <;> (intro _hg; try (exfalso; omega))) | refine ae rfl ?_ | fail)) <;> (try clear zz)
   exact ⟨rfl,M,rfl,hp,ht.done⟩
  ·obtain ⟨k,rfl⟩:∃ k,i=k + 1:=⟨i - 1,by omega⟩
   have tj:((k + 1:Nat):Int) - 1=(k:Int):=by omega
   obtain ⟨M1,hl1,lm1,lm2,c1,c2,c3,c4⟩:=bK (f:=f) hc.len (M:=M) (i:=a) (j:=a + k) (by omega) (by omega)
   have lm3:=lm2
   simp only [bg] at lm1 lm2
   have hp1:PermR a (a + h) L (swp M a (a + k)):=hp.trans (PermR.swap (by omega) (by omega) (by omega))
   have hsl:(swp M a (a + k)).length=n:=by rw [hp1.len,hn]
   (have zz:=aI @tj (aI @bO (aI @lm1 (aI @lm2 (aI (rdC hc.len) (aI (bc hc.len) (aI @bi (aI hc.agg hc.ones))))))); repeat' (first | refine zW ?_ | apply a_n | refine zO ?_ | refine vZ ?_ | refine stZ ?_ | (refine zGZ ?_ ?_ <;> (intro _hg; try (exfalso; omega))) | fail)) <;> (try clear zz)
   refine aD ev0 (have zz:=aI @tj @Int.natCast_zero; evZ) (vK hc (b:=b) (L:=swp M a (a + k)) (a:=a) (lo:=0) (hi:=k) (by rw [am,am,au,← lm3]) hsl (hp1.mem hG) (by omega) (by omega) (by omega) (hh.swapTop (by omega))) ?_
   rintro _ _ _ ⟨rfl,N,rfl,hpN,hhN⟩
   (have zz:=@tj; repeat' (first | apply a_n | refine zO ?_ | refine vZ ?_ | fail)) <;> (try clear zz)
   exact ⟨(k,N),by dsimp only; omega,⟨by dsimp only; omega,by dsimp only; rw [am,am,am],rfl,hp1.trans (hpN.mono (Nat.le_refl _) (by omega)),hhN,ht.step hc.ord hh (by omega) (by omega) hpN⟩,ag0⟩
 ·obtain ⟨k,rfl⟩:∃ k,i=k + 1:=⟨i - 1,by omega⟩
  have tj:((k + 1:Nat):Int) - 1=(k:Int):=by omega
  (have zz:=@tj; repeat' (first | refine zW ?_ | apply a_n | refine zO ?_ | refine vZ ?_ | (refine zGZ ?_ ?_ <;> (intro _hg; try (exfalso; omega))) | fail)) <;> (try clear zz)
  refine aD ev0 ev0 (vK hc (L:=M) (a:=a) (lo:=k) (hi:=h) au hl hGM (by omega) (by omega) (by omega) hh) ?_
  rintro _ _ _ ⟨rfl,N,rfl,hpN,hhN⟩
  (have zz:=@tj; repeat' (first | apply a_n | refine zO ?_ | refine vZ ?_ | fail)) <;> (try clear zz)
  exact ⟨(k,N),by dsimp only; omega,⟨by dsimp only; omega,by dsimp only; rw [am],rfl,hp.trans hpN,hhN⟩,ag0⟩
end
end Go.Proofs.YtjgpfclngkcedaaGreat
namespace Go.Proofs.YtjgpfclngkcedaaGreat
open Go Go.Abs
section
variable {α:Type} [Inhabited α] {f:α→AV} {K:α→α→Int} {G:α→Prop} {g:Nat} {caps:List AV}
attribute [local irreducible] aA ag aU aO aE aH ay aJ aQ aZ Go.Abs.Fn aL Go.Abs.Pure ak aB Yl
theorem BL (hc:Cmp3 Tryz.prog f K G g caps) {L:List α} {H:Hp} {b nx n a e:Nat} (hH:H b=some (L.c3 f)) (hn:L.length=n) (hae:a < e) (hen:e ≤ n) (hn2:n ≤ 1000000000) :
    Abs.Fn Tryz.prog 135 [.msl b (n * 3) 3 0 n,.int .i64 a,.int .i64 e,.func g caps] H nx fun r H' nx'=>nx'=nx∧∃ L',H'=an H b (L'.c3 f)∧PermR a e L L':=by
 obtain ⟨m,rfl⟩:∃ m,e=m + 1:=⟨e - 1,by omega⟩
 have te:((m + 1:Nat):Int) - 1=(m:Int):=by omega
 refine Abs.Fn.of_c2 follows yb (Nat.le_of_ble_eq_true rfl) ?_
 simp only [zZ,cO,cG,cN,cM,cD,cF,cB,av,aF]
 (have zz:=@te; repeat' (first | refine zW ?_ | apply a_n | refine zO ?_ | refine vZ ?_ | fail)) <;> (try clear zz)
 refine be (X:=Nat × Nat × List α) (fun x=>[(0,.msl b (n * 3) 3 0 n),(8,.int .i64 (x.1:Nat)),(9,.int .i64 (x.2.1:Nat))]) (fun x H' nxx=>a ≤ x.1∧x.2.1 ≤ m∧H'=an H b (x.2.2.c3 f)∧nx=nxx∧PermR a (m + 1) L x.2.2) (fun x=>x.2.1) (a,m,L) ⟨Nat.le_refl _,Nat.le_refl _,dt hH,rfl,.refl⟩ ag0 ?_
 rintro ⟨i,j,M⟩ H' nxx ⟨h1,h2,rfl,rfl,hp⟩
 dsimp only at *
 have hl:M.length=n:=by rw [hp.len,hn]
 by_cases hij:i < j
 ·obtain ⟨k,rfl⟩:∃ k,j=k + 1:=⟨j - 1,by omega⟩
  have tj:((k + 1:Nat):Int) - 1=(k:Int):=by omega
  have ti:((i:Nat):Int) + 1=((i + 1:Nat):Int):=by omega
  obtain ⟨M1,hl1,lm1,lm2,c1,c2,c3,c4⟩:=bK (f:=f) hc.len (M:=M) (i:=i) (j:=k + 1) (by omega) (by omega)
  have lm3:=lm2
  simp only [bg] at lm1 lm2
  (have zz:=aI @tj (aI @ti (aI @lm1 (aI @lm2 (aI (rdC hc.len) (aI (bc hc.len) (aI @bi (aI hc.agg hc.ones))))))); repeat' (first | refine zW ?_ | apply a_n | refine zO ?_ | refine vZ ?_ | refine stZ ?_ | (refine zGZ ?_ ?_ <;> (intro _hg; try (exfalso; omega))) | fail)) <;> (try clear zz)
  exact ⟨(i + 1,k,swp M i (k + 1)),by dsimp only; omega,⟨by dsimp only; omega,by dsimp only; omega,by dsimp only; rw [am,am,lm3],rfl,hp.trans (PermR.swap (by omega) (by omega) (by omega))⟩,ag0⟩
 ·(have zz:=and_self; repeat' (first | refine zW ?_ | apply a_n | apply a_x | refine zO ?_ | refine vZ ?_ | (refine zGZ ?_ ?_ <;> (intro _hg; try (exfalso; omega))) | refine ae rfl ?_ | fail)) <;> (try clear zz)
  exact ⟨rfl,M,rfl,hp⟩
theorem mH (hc:Cmp3 Tryz.prog f K G g caps) {L:List α} {H:Hp} {b c nx n i j s:Nat} (hH:H b=some (L.c3 f)) (hcc:H c=some [.int .i64 (s:Nat)]) (hn:L.length=n) (hG:∀ x ∈ L,G x) (hi:i < n) (hj:j < n) (hn2:n ≤ 1000000000) (hs:s ≤ 100) :
    Abs.Fn Tryz.prog 168 [.msl b (n * 3) 3 0 n,.int .i64 i,.int .i64 j,.ptr c 1 0,.func g caps] H nx fun r H' nx'=>nx'=nx∧∃ i' j' s':Nat,r=.tup [.int .i64 i',.int .i64 j']∧((i'=i∧j'=j) ∨ (i'=j∧j'=i))∧s' ≤ s + 1∧H'=an H c [.int .i64 s']:=by
 refine Abs.Fn.of_c2 follows xY (Nat.le_of_ble_eq_true rfl) ?_
 simp only [yP,cO,cG,cN,cM,cD,cF,cB,av,aF]
 have dcap:=hc.dcaps
 have lc:=hc.run (L.getD j default) (L.getD i default) (hG _ (ai (by omega))) (hG _ (ai (by omega)))
 have e1:=hc.dat (L.getD j default)
 have e2:=hc.dat (L.getD i default)
 have ts:((s:Nat):Int) + 1=((s + 1:Nat):Int):=by omega
 have ls:∀ x y:AV,bg [x] 0 [y]=[y]:=fun _ _=>rfl
 simp only [bg,List.length_cons,List.length_nil,Nat.zero_add] at ls
 generalize hKK:K (L.getD j default) (L.getD i default)=kk at lc
 by_cases hlt:kk < 0
 ·(have zz:=aI @hH (aI @hcc (aI @Int.toNat_natCast (aI (rdC hc.len) (aI (bc hc.len) (aI @bi (aI hc.agg (aI hc.ones (aI @ts (aI @ls @SV3))))))))); repeat' (first | refine zW ?_ | refine zM ?_ | apply a_n | apply a_r | refine zO ?_ | refine vZ ?_ | refine cZ ?_ (hp:=lc) (hs:=by (first | refine ah ?_ rfl | apply ap); (repeat' (first | exact af | apply aC | apply aq | exact e1 | exact e2 | exact ao dcap)); first | done | fail) | refine stZ ?_ | (refine zGZ ?_ ?_ <;> (intro _hg; try (exfalso; omega))) | refine ae rfl ?_ | refine r2Z ?_ | fail)) <;> (try clear zz)
  exact ⟨rfl,j,i,s + 1,rfl,.inr ⟨rfl,rfl⟩,Nat.le_refl _,rfl⟩
 ·(have zz:=aI @hH (aI @hcc (aI @Int.toNat_natCast (aI (rdC hc.len) (aI (bc hc.len) (aI @bi (aI hc.agg hc.ones)))))); repeat' (first | refine zW ?_ | refine zM ?_ | apply a_n | refine zO ?_ | refine vZ ?_ | refine cZ ?_ (hp:=lc) (hs:=by (first | refine ah ?_ rfl | apply ap); (repeat' (first | exact af | apply aC | apply aq | exact e1 | exact e2 | exact ao dcap)); first | done | fail) | (refine zGZ ?_ ?_ <;> (intro _hg; try (exfalso; omega))) | refine ae rfl ?_ | refine r2Z ?_ | fail)) <;> (try clear zz)
  exact ⟨rfl,i,j,s,rfl,.inl ⟨rfl,rfl⟩,Nat.le_succ _,dt hcc⟩
end
end Go.Proofs.YtjgpfclngkcedaaGreat
namespace Go.Proofs.YtjgpfclngkcedaaGreat
open Go Go.Abs
section
variable {α:Type} [Inhabited α] {f:α→AV} {K:α→α→Int} {G:α→Prop} {g:Nat} {caps:List AV}
attribute [local irreducible] aA ag aU aO aE aH ay aJ aQ aZ Go.Abs.Fn aL Go.Abs.Pure ak aB Yl
theorem mZ (hc:Cmp3 Tryz.prog f K G g caps) {L:List α} {H:Hp} {b c nx n i j k s lo hi:Nat} (hH:H b=some (L.c3 f)) (hbc:b ≠ c) (hcc:H c=some [.int .i64 (s:Nat)]) (hn:L.length=n) (hG:∀ x ∈ L,G x) (hi1:lo ≤ i∧i < hi) (hj1:lo ≤ j∧j < hi) (hk1:lo ≤ k∧k < hi) (hhi:hi ≤ n) (hn2:n ≤ 1000000000) (hs:s ≤ 50) :
    Abs.Fn Tryz.prog 161 [.msl b (n * 3) 3 0 n,.int .i64 i,.int .i64 j,.int .i64 k,.ptr c 1 0,.func g caps] H nx fun r H' nx'=>nx'=nx∧∃ p s':Nat,r=.int .i64 p∧lo ≤ p∧p < hi∧s' ≤ s + 3∧H'=an H c [.int .i64 s']:=by
 refine Abs.Fn.of_c2 follows yJ (Nat.le_of_ble_eq_true rfl) ?_
 simp only [zl,cO,cG,cN,cM,cD,cF,cB,av,aF]
 (have zz:=and_self; repeat' (first | refine zW ?_ | apply a_n | refine zO ?_ | refine vZ ?_ | fail)) <;> (try clear zz)
 refine aD ev0 ev0 (mH hc (b:=b) hH hcc hn hG (i:=i) (j:=j) (by omega) (by omega) hn2 (by omega)) ?_
 rintro _ _ _ ⟨rfl,i1,j1,s1,rfl,h1,hs1,rfl⟩
 (have zz:=and_self; repeat' (first | refine zW ?_ | apply a_n | refine zO ?_ | refine vZ ?_ | fail)) <;> (try clear zz)
 refine aD ev0 ev0 (mH hc (b:=b) (by rw [ac hbc]; exact hH) au hn hG (i:=j1) (j:=k) (by omega) (by omega) hn2 (by omega)) ?_
 rintro _ _ _ ⟨rfl,j2,k2,s2,rfl,h2,hs2,rfl⟩
 (have zz:=and_self; repeat' (first | refine zW ?_ | apply a_n | refine zO ?_ | refine vZ ?_ | fail)) <;> (try clear zz)
 refine aD ev0 ev0 (mH hc (b:=b) (by rw [am,ac hbc]; exact hH) au hn hG (i:=i1) (j:=j2) (by omega) (by omega) hn2 (by omega)) ?_
 rintro _ _ _ ⟨rfl,i3,j3,s3,rfl,h3,hs3,rfl⟩
 (have zz:=and_self; repeat' (first | refine zW ?_ | apply a_n | refine zO ?_ | refine vZ ?_ | refine ae rfl ?_ | refine r1Z ?_ | fail)) <;> (try clear zz)
 exact ⟨rfl,j3,s3,rfl,by omega,by omega,by omega,by rw [am,am]⟩
theorem mA (hc:Cmp3 Tryz.prog f K G g caps) {L:List α} {H:Hp} {b c nx n i s lo hi:Nat} (hH:H b=some (L.c3 f)) (hbc:b ≠ c) (hcc:H c=some [.int .i64 (s:Nat)]) (hn:L.length=n) (hG:∀ x ∈ L,G x) (hi1:lo + 1 ≤ i∧i + 1 < hi) (hhi:hi ≤ n) (hn2:n ≤ 1000000000) (hs:s ≤ 50) :
    Abs.Fn Tryz.prog 160 [.msl b (n * 3) 3 0 n,.int .i64 i,.ptr c 1 0,.func g caps] H nx fun r H' nx'=>nx'=nx∧∃ p s':Nat,r=.int .i64 p∧lo ≤ p∧p < hi∧s' ≤ s + 3∧H'=an H c [.int .i64 s']:=by
 obtain ⟨m,rfl⟩:∃ m,i=m + 1:=⟨i - 1,by omega⟩
 have t1:((m + 1:Nat):Int) - 1=(m:Int):=by omega
 have t2:((m + 1:Nat):Int) + 1=((m + 1 + 1:Nat):Int):=by omega
 refine Abs.Fn.of_c2 follows yq (Nat.le_of_ble_eq_true rfl) ?_
 simp only [zD,cO,cG,cN,cM,cD,cF,cB,av,aF]
 (have zz:=aI @t1 @t2; repeat' (first | refine zW ?_ | apply a_n | refine zO ?_ | refine vZ ?_ | fail)) <;> (try clear zz)
 refine aD ev0 ev0 (mZ hc (b:=b) hH hbc hcc hn hG (i:=m) (j:=m + 1) (k:=m + 1 + 1) (lo:=lo) (hi:=hi) (by omega) (by omega) (by omega) hhi hn2 hs) ?_
 rintro _ _ _ ⟨rfl,p,s1,rfl,h1,h2,hs1,rfl⟩
 (have zz:=and_self; repeat' (first | apply a_n | refine zO ?_ | refine vZ ?_ | refine ae rfl ?_ | refine r1Z ?_ | fail)) <;> (try clear zz)
 exact ⟨rfl,p,s1,rfl,h1,h2,hs1,rfl⟩
theorem ve (hc:Cmp3 Tryz.prog f K G g caps) {L:List α} {H:Hp} {b nx n a e:Nat} (hH:H b=some (L.c3 f)) (hbx:b < nx) (hn:L.length=n) (hG:∀ x ∈ L,G x) (hae:a + 8 ≤ e) (hen:e ≤ n) (hn2:n ≤ 1000000000) :
    Abs.Fn Tryz.prog 134 [.msl b (n * 3) 3 0 n,.int .i64 a,.int .i64 e,.func g caps] H nx fun r H' nx'=>nx'=nx + 1∧∃ (p:Nat) (hint:Int) (v:List AV),r=.tup [.int .i64 p,.int .i64 hint]∧a ≤ p∧p < e∧H'=an H nx v:=by
 obtain ⟨l,rfl⟩:∃ l,e=a + l:=⟨e - a,by omega⟩
 have te:((a + l:Nat):Int) - (a:Int)=(l:Int):=by omega
 obtain ⟨q,hq⟩:∃ q,l / 4=q:=⟨_,rfl⟩
 have tq:aV .quo false false (.int .i64 (l:Int)) (.int .i64 4)=some (.int .i64 (q:Int)):=by
  rw [fC (by omega) (by omega) (by omega)]
  congr 2
  omega
 have w1:(a:Int) + (q:Int) * 1=((a + q:Nat):Int):=by omega
 have w2:(a:Int) + (q:Int) * 2=((a + q * 2:Nat):Int):=by omega
 have w3:(a:Int) + (q:Int) * 3=((a + q * 3:Nat):Int):=by omega
 have hbn:b ≠ nx:=by omega
 refine Abs.Fn.of_c2 follows yL (Nat.le_of_ble_eq_true rfl) ?_
 simp only [y1,cO,cG,cN,cM,cD,cF,cB,av,aF]
 have last:∀ (s:Nat) (H1:Hp),H1=an (an H nx [.int .i64 0]) nx [.int .i64 s]→H1 nx=some [.int .i64 (s:Nat)]:=fun s H1 h=>by rw [h]; exact au
 have hHn:∀ v,an H nx v b=some (L.c3 f):=fun v=>by rw [ac hbn]; exact hH
 by_cases h50:50 ≤ l
 ·(have zz:=aI @te (aI @tq (aI @w1 (aI @w2 @w3))); repeat' (first | refine zW ?_ | apply a_n | refine zO ?_ | refine vZ ?_ | refine alZ ?_ | (refine zGZ ?_ ?_ <;> (intro _hg; try (exfalso; omega))) | fail)) <;> (try clear zz)
  refine aD ev0 ev0 (mA hc (b:=b) (c:=nx) (s:=0) (i:=a + q) (lo:=a) (hi:=a + l) (hHn _) hbn au hn hG (by omega) (by omega) hn2 (by omega)) ?_
  rintro _ _ _ ⟨rfl,p1,s1,rfl,k1,k2,hs1,rfl⟩
  rw [am]
  (have zz:=and_self; repeat' (first | refine zW ?_ | apply a_n | refine zO ?_ | refine vZ ?_ | fail)) <;> (try clear zz)
  refine aD ev0 ev0 (mA hc (b:=b) (c:=nx) (s:=s1) (i:=a + q * 2) (lo:=a) (hi:=a + l) (hHn _) hbn au hn hG (by omega) (by omega) hn2 (by omega)) ?_
  rintro _ _ _ ⟨rfl,p2,s2,rfl,k3,k4,hs2,rfl⟩
  rw [am]
  (have zz:=and_self; repeat' (first | apply a_n | refine zO ?_ | refine vZ ?_ | fail)) <;> (try clear zz)
  refine aD ev0 ev0 (mA hc (b:=b) (c:=nx) (s:=s2) (i:=a + q * 3) (lo:=a) (hi:=a + l) (hHn _) hbn au hn hG (by omega) (by omega) hn2 (by omega)) ?_
  rintro _ _ _ ⟨rfl,p3,s3,rfl,k5,k6,hs3,rfl⟩
  rw [am]
  (have zz:=and_self; repeat' (first | apply a_n | refine zO ?_ | refine vZ ?_ | fail)) <;> (try clear zz)
  refine aD ev0 ev0 (mZ hc (b:=b) (c:=nx) (s:=s3) (i:=p1) (j:=p2) (k:=p3) (lo:=a) (hi:=a + l) (hHn _) hbn au hn hG (by omega) (by omega) (by omega) (by omega) hn2 (by omega)) ?_
  rintro _ _ _ ⟨rfl,p4,s4,rfl,k7,k8,hs4,rfl⟩
  rw [am]
  (have zz:=and_self; repeat' (first | refine zW ?_ | apply a_n | refine zO ?_ | refine vZ ?_ | (refine zGZ ?_ ?_ <;> (intro _hg; try (exfalso; omega))) | refine ae rfl ?_ | refine r2Z ?_ | fail)) <;> (try clear zz)
  all_goals exact ⟨rfl,p4,_,_,rfl,by omega,by omega,rfl⟩
 ·(have zz:=aI @te (aI @tq (aI @w1 (aI @w2 @w3))); repeat' (first | refine zW ?_ | apply a_n | refine zO ?_ | refine vZ ?_ | refine alZ ?_ | (refine zGZ ?_ ?_ <;> (intro _hg; try (exfalso; omega))) | fail)) <;> (try clear zz)
  refine aD ev0 ev0 (mZ hc (b:=b) (c:=nx) (s:=0) (i:=a + q) (j:=a + q * 2) (k:=a + q * 3) (lo:=a) (hi:=a + l) (hHn _) hbn au hn hG (by omega) (by omega) (by omega) (by omega) hn2 (by omega)) ?_
  rintro _ _ _ ⟨rfl,p4,s4,rfl,k7,k8,hs4,rfl⟩
  rw [am]
  (have zz:=and_self; repeat' (first | refine zW ?_ | apply a_n | refine zO ?_ | refine vZ ?_ | (refine zGZ ?_ ?_ <;> (intro _hg; try (exfalso; omega))) | refine ae rfl ?_ | refine r2Z ?_ | fail)) <;> (try clear zz)
  all_goals exact ⟨rfl,p4,_,_,rfl,by omega,by omega,rfl⟩
end
end Go.Proofs.YtjgpfclngkcedaaGreat
namespace Go.Proofs.YtjgpfclngkcedaaGreat
open Go Go.Abs
section
variable {α:Type} [Inhabited α] {f:α→AV} {K:α→α→Int} {G:α→Prop} {g:Nat} {caps:List AV}
attribute [local irreducible] aA ag aU aO aE aH ay aJ aQ aZ Go.Abs.Fn aL Go.Abs.Pure ak aB Yl
set_option maxHeartbeats 1000000 in
theorem uC (hc:Cmp3 Tryz.prog f K G g caps) {L:List α} {H:Hp} {b nx n a e:Nat} (hH:H b=some (L.c3 f)) (hn:L.length=n) (hG:∀ x ∈ L,G x) (hae:a < e) (hen:e ≤ n) (hn2:n ≤ 1000000000) (hlow:lQ K a e L) :
    Abs.Fn Tryz.prog 136 [.msl b (n * 3) 3 0 n,.int .i64 a,.int .i64 e,.func g caps] H nx fun r H' nx'=>nx'=nx∧∃ L' t,r=.bool t∧H'=an H b (L'.c3 f)∧PermR a e L L'∧(t=true→aP K a e L'):=by
 have dcap:=hc.dcaps
 refine Abs.Fn.of_c2 follows ye (Nat.le_of_ble_eq_true rfl) ?_
 simp only [yZ,cO,cG,cN,cM,cD,cF,cB,av,aF]
 (have zz:=and_self; repeat' (first | refine zW ?_ | apply a_n | refine zO ?_ | refine vZ ?_ | fail)) <;> (try clear zz)
 refine be (X:=Nat × Nat × List α) (fun x=>[(0,.msl b (n * 3) 3 0 n),(1,.int .i64 a),(2,.int .i64 e),(3,.func g caps),(9,.int .i64 (x.2.1:Nat)),(10,.int .i64 (x.1:Nat))]) (fun x H' nxx=>x.1 ≤ 5∧a + 1 ≤ x.2.1∧x.2.1 ≤ e∧H'=an H b (x.2.2.c3 f)∧nx=nxx∧PermR a e L x.2.2∧aP K a x.2.1 x.2.2) (fun x=>5 - x.1) (0,a + 1,L) ⟨by dsimp only; omega,Nat.le_refl _,hae,dt hH,rfl,.refl,aP.one (Nat.le_refl _)⟩ ag0 ?_
 rintro ⟨jj,i0,M0⟩ H' nxx ⟨h1,h2,h3,rfl,rfl,hp0,hs0⟩
 dsimp only at *
 by_cases h5:jj=5
 ·subst h5
  (have zz:=and_self; repeat' (first | refine zW ?_ | apply a_n | apply a_x | refine zO ?_ | refine vZ ?_ | (refine zGZ ?_ ?_ <;> (intro _hg; try (exfalso; omega))) | refine ae rfl ?_ | refine r1Z ?_ | fail)) <;> (try clear zz)
  exact ⟨rfl,M0,false,rfl,rfl,hp0,fun h=>absurd h (by decide)⟩
 have hl:M0.length=n:=by rw [hp0.len,hn]
 have hGM:=hp0.mem hG
 refine aS (fun T H'' nx''=>T 0=.msl b (n * 3) 3 0 n∧T 1=.int .i64 a∧T 2=.int .i64 e∧T 3=.func g caps∧T 9=.int .i64 (i0:Nat)∧T 10=.int .i64 (jj:Nat)∧H''=an H b ((M0).c3 f)∧nx=nx'') ?_ ?_
 ·(have zz:=and_self; repeat' (first | refine zW ?_ | apply a_n | refine zO ?_ | refine vZ ?_ | (refine zGZ ?_ ?_ <;> (intro _hg; try (exfalso; omega))) | fail)) <;> (try clear zz)
  exact ⟨rfl,rfl,rfl,rfl,rfl,rfl,rfl,rfl⟩
 rintro T _ _ ⟨t0,t1,t2,t3,t9,t10,rfl,rfl⟩
 refine aS (fun T H'' nx''=>∃ (i:Nat) (M:List α),a + 1 ≤ i∧i ≤ e∧PermR a e L M∧aP K a i M∧T 0=.msl b (n * 3) 3 0 n∧T 1=.int .i64 a∧T 2=.int .i64 e∧T 3=.func g caps∧T 9=.int .i64 (i:Nat)∧T 10=.int .i64 (jj:Nat)∧H''=an H b ((M).c3 f)∧nx=nx'') ?_ ?_
 rotate_left
 ·clear t0 t1 t2 t3 t9 t10
  rintro T _ _ ⟨i,M,k1,k2,hp,hs,t0,t1,t2,t3,t9,t10,rfl,rfl⟩
  (have zz:=aI @t0 (aI @t1 (aI @t2 (aI @t3 (aI @t9 @t10)))); repeat' (first | apply a_n | refine zO ?_ | refine vZ ?_ | fail)) <;> (try clear zz)
  exact ⟨(jj + 1,i,M),by dsimp only; omega,⟨by dsimp only; omega,k1,k2,rfl,rfl,hp,hs⟩,(have zz:=aI @t0 (aI @t1 (aI @t2 (aI @t3 (aI @t9 @t10)))); agZ)⟩
 refine cU ?_
 refine aS (fun T H'' nx''=>∃ (i:Nat),a + 1 ≤ i∧i ≤ e∧aP K a i M0∧(i < e→K (M0.getD i default) (M0.getD (i - 1) default) < 0)∧T 0=.msl b (n * 3) 3 0 n∧T 1=.int .i64 a∧T 2=.int .i64 e∧T 3=.func g caps∧T 9=.int .i64 (i:Nat)∧T 10=.int .i64 (jj:Nat)∧H''=an H b ((M0).c3 f)∧nx=nx'') ?_ ?_
 ·(have zz:=aI @t0 (aI @t1 (aI @t2 (aI @t3 (aI @t9 @t10)))); repeat' (first | refine zW ?_ | apply a_n | refine zO ?_ | fail)) <;> (try clear zz)
  refine be (X:=Nat) (fun i=>[(0,.msl b (n * 3) 3 0 n),(1,.int .i64 a),(2,.int .i64 e),(3,.func g caps),(9,.int .i64 (i:Nat)),(10,.int .i64 (jj:Nat))]) (fun i H' nxx=>a + 1 ≤ i∧i ≤ e∧H'=an H b (M0.c3 f)∧nx=nxx∧aP K a i M0) (fun i=>e - i) i0 ⟨h2,h3,rfl,rfl,hs0⟩ (have zz:=aI @t0 (aI @t1 (aI @t2 (aI @t3 (aI @t9 @t10)))); agZ) ?_
  clear hs0 h2 h3
  rintro i H' nxx ⟨h2,h3,rfl,rfl,hs⟩
  by_cases hie:i=e
  ·subst hie
   (have zz:=and_self; repeat' (first | refine zW ?_ | refine zM ?_ | apply a_n | apply a_x | refine zO ?_ | refine vZ ?_ | refine gFZ ?_ | (refine zGZ ?_ ?_ <;> (intro _hg; try (exfalso; omega))) | refine cFZ ?_ | fail)) <;> (try clear zz)
   exact ⟨i,h2,h3,hs,fun h=>absurd h (Nat.lt_irrefl _),rfl,rfl,rfl,rfl,rfl,rfl,rfl,rfl⟩
  obtain ⟨m,rfl⟩:∃ m,i=m + 1:=⟨i - 1,by omega⟩
  have tj:((m + 1:Nat):Int) - 1=(m:Int):=by omega
  have lc:=hc.run (M0.getD (m + 1) default) (M0.getD m default) (hGM _ (ai (by omega))) (hGM _ (ai (by omega)))
  have e1:=hc.dat (M0.getD (m + 1) default)
  have e2:=hc.dat (M0.getD m default)
  generalize hKK:K (M0.getD (m + 1) default) (M0.getD m default)=kk at lc
  by_cases hlt:kk < 0
  ·(have zz:=aI @tj (aI @Int.toNat_natCast (aI (rdC hc.len) (aI (bc hc.len) (aI @bi (aI hc.agg hc.ones))))); repeat' (first | refine zW ?_ | refine zM ?_ | apply a_n | apply a_x | refine zO ?_ | refine vZ ?_ | refine cZ ?_ (hp:=lc) (hs:=by (first | refine ah ?_ rfl | apply ap); (repeat' (first | exact af | apply aC | apply aq | exact e1 | exact e2 | exact ao dcap)); first | done | fail) | refine gTZ ?_ | (refine zGZ ?_ ?_ <;> (intro _hg; try (exfalso; omega))) | fail)) <;> (try clear zz)
   exact ⟨m + 1,h2,h3,hs,fun _=>by rw [Nat.add_sub_cancel,hKK]; exact hlt,rfl,rfl,rfl,rfl,rfl,rfl,rfl,rfl⟩
  ·(have zz:=aI @tj (aI @Int.toNat_natCast (aI (rdC hc.len) (aI (bc hc.len) (aI @bi (aI hc.agg hc.ones))))); repeat' (first | refine zW ?_ | refine zM ?_ | apply a_n | refine zO ?_ | refine vZ ?_ | refine cZ ?_ (hp:=lc) (hs:=by (first | refine ah ?_ rfl | apply ap); (repeat' (first | exact af | apply aC | apply aq | exact e1 | exact e2 | exact ao dcap)); first | done | fail) | refine gTZ ?_ | (refine zGZ ?_ ?_ <;> (intro _hg; try (exfalso; omega))) | fail)) <;> (try clear zz)
   exact ⟨m + 1 + 1,by omega,⟨by omega,by omega,rfl,rfl,hs.snoc hc.ord (by omega) (by rw [Nat.add_sub_cancel,hKK]; exact hlt)⟩,ag0⟩
 clear t0 t1 t2 t3 t9 t10 hs0 h2 h3
 rintro T _ _ ⟨i,h2,h3,hs,hless,t0,t1,t2,t3,t9,t10,rfl,rfl⟩
 by_cases hie:i=e
 ·subst hie
  have ten:decide ((i:Int)=(i:Int))=true:=decide_eq_true rfl
  (have zz:=aI @t0 (aI @t1 (aI @t2 (aI @t3 (aI @t9 (aI @t10 @ten))))); repeat' (first | refine zW ?_ | apply a_n | apply a_r | refine zO ?_ | refine vZ ?_ | (refine zGZ ?_ ?_ <;> (intro _hg; try (exfalso; omega))) | refine ae rfl ?_ | refine r1Z ?_ | fail)) <;> (try clear zz)
  exact ⟨rfl,M0,true,rfl,rfl,hp0,fun _=>hs⟩
 replace hless:=hless (by omega)
 have ten:decide ((i:Int)=(e:Int))=false:=decide_eq_false (by omega)
 refine aS (fun T H'' nx''=>T 0=.msl b (n * 3) 3 0 n∧T 1=.int .i64 a∧T 2=.int .i64 e∧T 3=.func g caps∧T 9=.int .i64 (i:Nat)∧T 10=.int .i64 (jj:Nat)∧H''=an H b ((M0).c3 f)∧nx=nx'') ?_ ?_
 ·(have zz:=aI @t0 (aI @t1 (aI @t2 (aI @t3 (aI @t9 (aI @t10 @ten))))); repeat' (first | refine zW ?_ | apply a_n | refine zO ?_ | refine vZ ?_ | refine cFZ ?_ | fail)) <;> (try clear zz)
  exact ⟨(have zz:=@t0; evZ),(have zz:=@t1; evZ),(have zz:=@t2; evZ),(have zz:=@t3; evZ),(have zz:=@t9; evZ),(have zz:=@t10; evZ),rfl,rfl⟩
 clear t0 t1 t2 t3 t9 t10 ten
 rintro T _ _ ⟨t0,t1,t2,t3,t9,t10,rfl,rfl⟩
 refine aS (fun T H'' nx''=>T 0=.msl b (n * 3) 3 0 n∧T 1=.int .i64 a∧T 2=.int .i64 e∧T 3=.func g caps∧T 9=.int .i64 (i:Nat)∧T 10=.int .i64 (jj:Nat)∧H''=an H b ((M0).c3 f)∧nx=nx'') ?_ ?_
 ·(have zz:=aI @t0 (aI @t1 (aI @t2 (aI @t3 (aI @t9 @t10)))); repeat' (first | refine zW ?_ | apply a_n | apply a_r | refine zO ?_ | refine vZ ?_ | (refine zGZ ?_ ?_ <;> (intro _hg; try (exfalso; omega))) | refine ae rfl ?_ | refine r1Z ?_ | fail)) <;> (try clear zz)
  ·exact ⟨rfl,M0,false,rfl,rfl,hp0,fun h=>absurd h (by decide)⟩
  ·exact ⟨(have zz:=@t0; evZ),(have zz:=@t1; evZ),(have zz:=@t2; evZ),(have zz:=@t3; evZ),(have zz:=@t9; evZ),(have zz:=@t10; evZ),rfl,rfl⟩
 clear t0 t1 t2 t3 t9 t10
 rintro T _ _ ⟨t0,t1,t2,t3,t9,t10,rfl,rfl⟩
 obtain ⟨m,rfl⟩:∃ m,i=m + 1:=⟨i - 1,by omega⟩
 have tj:((m + 1:Nat):Int) - 1=(m:Int):=by omega
 rw [Nat.add_sub_cancel] at hless
 obtain ⟨M1,hl1,lm1,lm2,c1,c2,c3,c4⟩:=bK (f:=f) hc.len (M:=M0) (i:=m + 1) (j:=m) (by omega) (by omega)
 have lm3:=lm2
 simp only [bg] at lm1 lm2
 refine aS (fun T H'' nx''=>T 0=.msl b (n * 3) 3 0 n∧T 1=.int .i64 a∧T 2=.int .i64 e∧T 3=.func g caps∧T 9=.int .i64 (m + 1:Nat)∧T 10=.int .i64 (jj:Nat)∧H''=an H b ((swp M0 (m + 1) m).c3 f)∧nx=nx'') ?_ ?_
 ·(have zz:=aI @t0 (aI @t1 (aI @t2 (aI @t3 (aI @t9 (aI @t10 (aI @Int.toNat_natCast (aI (rdC hc.len) (aI (bc hc.len) (aI @bi (aI hc.agg (aI hc.ones (aI @tj (aI @lm1 @lm2))))))))))))); repeat' (first | apply a_n | refine zO ?_ | refine vZ ?_ | refine stZ ?_ | fail)) <;> (try clear zz)
  exact ⟨(have zz:=@t0; evZ),(have zz:=@t1; evZ),(have zz:=@t2; evZ),(have zz:=@t3; evZ),(have zz:=@t9; evZ),(have zz:=@t10; evZ),by rw [am,am,lm3],rfl⟩
 clear t0 t1 t2 t3 t9 t10
 have hp1:PermR a e L (swp M0 (m + 1) m):=hp0.trans (PermR.swap (by omega) (by omega) (by omega))
 have hal:=(dl.start hs).step hc.ord (by omega) (Nat.le_refl _) (by omega) hless
 clear hs hless lm1 lm2 lm3 hl1 c1 c2 c3 c4 M1
 generalize swp M0 (m + 1) m=M2 at hp1 hal
 clear hp0 hGM hl
 rintro T _ _ ⟨t0,t1,t2,t3,t9,t10,rfl,rfl⟩
 refine aS (fun T H'' nx''=>∃ M:List α,PermR a e L M∧aP K a (m + 1) M∧T 0=.msl b (n * 3) 3 0 n∧T 1=.int .i64 a∧T 2=.int .i64 e∧T 3=.func g caps∧T 9=.int .i64 (m + 1:Nat)∧T 10=.int .i64 (jj:Nat)∧H''=an H b ((M).c3 f)∧nx=nx'') ?_ ?_
 ·by_cases h2a:m=a
  ·subst h2a
   have td:decide ((2:Int) ≤ ((m + 1:Nat):Int) - (m:Int))=false:=decide_eq_false (by omega)
   (have zz:=aI @t0 (aI @t1 (aI @t2 (aI @t3 (aI @t9 (aI @t10 @td))))); repeat' (first | refine zW ?_ | apply a_n | refine zO ?_ | refine vZ ?_ | refine cFZ ?_ | fail)) <;> (try clear zz)
   exact ⟨M2,hp1,(hal.done hc.ord (.inl rfl)).mono (Nat.le_refl _) (by omega),(have zz:=@t0; evZ),(have zz:=@t1; evZ),(have zz:=@t2; evZ),(have zz:=@t3; evZ),(have zz:=@t9; evZ),(have zz:=@t10; evZ),rfl,rfl⟩
  have td:decide ((2:Int) ≤ ((m + 1:Nat):Int) - (a:Int))=true:=decide_eq_true (by omega)
  (have zz:=aI @t0 (aI @t1 (aI @t2 (aI @t3 (aI @t9 (aI @t10 (aI @td @tj)))))); repeat' (first | refine zW ?_ | apply a_n | refine zO ?_ | refine vZ ?_ | refine cTZ ?_ | fail)) <;> (try clear zz)
  refine be (X:=Nat × List α) (fun x=>[(0,.msl b (n * 3) 3 0 n),(1,.int .i64 a),(2,.int .i64 e),(3,.func g caps),(9,.int .i64 (m + 1:Nat)),(10,.int .i64 (jj:Nat)),(11,.int .i64 (x.1:Nat))]) (fun x H' nxx=>a ≤ x.1∧x.1 ≤ m∧H'=an H b (x.2.c3 f)∧nx=nxx∧PermR a e L x.2∧dl K a (m + 1) x.1 x.2) (fun x=>x.1) (m,M2) ⟨by dsimp only; omega,Nat.le_refl _,rfl,rfl,hp1,hal⟩ (have zz:=aI @t0 (aI @t1 (aI @t2 (aI @t3 (aI @t9 @t10)))); agZ) ?_
  clear t0 t1 t2 t3 t9 t10 hp1 hal M2
  rintro ⟨j,M⟩ H' nxx ⟨a1,a2,rfl,rfl,hp,hal⟩
  dsimp only at *
  have hl:M.length=n:=by rw [hp.len,hn]
  have hGM:=hp.mem hG
  rcases Nat.eq_zero_or_pos j with ej | ej
  ·subst ej
   (have zz:=and_self; repeat' (first | refine zW ?_ | apply a_n | apply a_x | refine zO ?_ | refine vZ ?_ | (refine zGZ ?_ ?_ <;> (intro _hg; try (exfalso; omega))) | fail)) <;> (try clear zz)
   exact ⟨M,hp,(hal.done hc.ord (.inl (by omega))).mono (Nat.le_refl _) (by omega),rfl,rfl,rfl,rfl,rfl,rfl,rfl,rfl⟩
  obtain ⟨k,rfl⟩:∃ k,j=k + 1:=⟨j - 1,by omega⟩
  have tk:((k + 1:Nat):Int) - 1=(k:Int):=by omega
  have lc:=hc.run (M.getD (k + 1) default) (M.getD k default) (hGM _ (ai (by omega))) (hGM _ (ai (by omega)))
  have e1:=hc.dat (M.getD (k + 1) default)
  have e2:=hc.dat (M.getD k default)
  have hlw:=hlow.perm hp (by omega) (by omega)
  generalize hKK:K (M.getD (k + 1) default) (M.getD k default)=kk at lc
  by_cases hlt:kk < 0
  ·have hak:k + 1 ≠ a:=fun h=>by
     subst h
     have:=hlw (k + 1) (by omega) (Nat.le_refl _) (by omega)
     rw [Nat.add_sub_cancel,hKK] at this
     exact this hlt
   obtain ⟨M1,hl1,lm1,lm2,c1,c2,c3,c4⟩:=bK (f:=f) hc.len (M:=M) (i:=k + 1) (j:=k) (by omega) (by omega)
   have lm3:=lm2
   simp only [bg] at lm1 lm2
   (have zz:=aI @tk (aI @Int.toNat_natCast (aI (rdC hc.len) (aI (bc hc.len) (aI @bi (aI hc.agg (aI hc.ones (aI @lm1 @lm2))))))); repeat' (first | refine zW ?_ | refine zM ?_ | apply a_n | refine zO ?_ | refine vZ ?_ | refine cZ ?_ (hp:=lc) (hs:=by (first | refine ah ?_ rfl | apply ap); (repeat' (first | exact af | apply aC | apply aq | exact e1 | exact e2 | exact ao dcap)); first | done | fail) | refine stZ ?_ | (refine zGZ ?_ ?_ <;> (intro _hg; try (exfalso; omega))) | fail)) <;> (try clear zz)
   exact ⟨(k,swp M (k + 1) k),by dsimp only; omega,⟨by dsimp only; omega,by dsimp only; omega,by dsimp only; rw [am,am,lm3],rfl,hp.trans (PermR.swap (by omega) (by omega) (by omega)),hal.step hc.ord (by omega) (by omega) (by omega) (by rw [hKK]; exact hlt)⟩,(have zz:=@tk; agZ)⟩
  ·have hd:k + 1=a ∨ (a < k + 1∧¬ K (M.getD (k + 1) default) (M.getD (k + 1 - 1) default) < 0):=by
     by_cases h:k + 1=a
     ·exact .inl h
     ·exact .inr ⟨by omega,by rw [Nat.add_sub_cancel,hKK]; exact hlt⟩
   (have zz:=aI @tk (aI @Int.toNat_natCast (aI (rdC hc.len) (aI (bc hc.len) (aI @bi (aI hc.agg hc.ones))))); repeat' (first | refine zW ?_ | refine zM ?_ | apply a_n | apply a_x | refine zO ?_ | refine vZ ?_ | refine cZ ?_ (hp:=lc) (hs:=by (first | refine ah ?_ rfl | apply ap); (repeat' (first | exact af | apply aC | apply aq | exact e1 | exact e2 | exact ao dcap)); first | done | fail) | (refine zGZ ?_ ?_ <;> (intro _hg; try (exfalso; omega))) | fail)) <;> (try clear zz)
   exact ⟨M,hp,(hal.done hc.ord hd).mono (Nat.le_refl _) (by omega),rfl,rfl,rfl,rfl,rfl,rfl,rfl,rfl⟩
 clear t0 t1 t2 t3 t9 t10 hp1 hal M2
 rintro T _ _ ⟨M2,hp1,hs,t0,t1,t2,t3,t9,t10,rfl,rfl⟩
 by_cases h2a:m + 1 + 2 ≤ e
 rotate_left
 ·have td:decide ((2:Int) ≤ (e:Int) - ((m + 1:Nat):Int))=false:=decide_eq_false (by omega)
  (have zz:=aI @t0 (aI @t1 (aI @t2 (aI @t3 (aI @t9 (aI @t10 @td))))); repeat' (first | refine zW ?_ | apply a_n | refine zO ?_ | refine vZ ?_ | refine cFZ ?_ | fail)) <;> (try clear zz)
  exact ⟨m + 1,M2,h2,h3,hp1,hs,(have zz:=@t0; evZ),(have zz:=@t1; evZ),(have zz:=@t2; evZ),(have zz:=@t3; evZ),(have zz:=@t9; evZ),(have zz:=@t10; evZ),rfl,rfl⟩
 have td:decide ((2:Int) ≤ (e:Int) - ((m + 1:Nat):Int))=true:=decide_eq_true (by omega)
 have tj2:((m + 1:Nat):Int) + 1=((m + 1 + 1:Nat):Int):=by omega
 (have zz:=aI @t0 (aI @t1 (aI @t2 (aI @t3 (aI @t9 (aI @t10 (aI @td @tj2)))))); repeat' (first | refine zW ?_ | apply a_n | refine zO ?_ | refine vZ ?_ | refine cTZ ?_ | fail)) <;> (try clear zz)
 refine be (X:=Nat × List α) (fun x=>[(0,.msl b (n * 3) 3 0 n),(1,.int .i64 a),(2,.int .i64 e),(3,.func g caps),(9,.int .i64 (m + 1:Nat)),(10,.int .i64 (jj:Nat)),(12,.int .i64 (x.1:Nat))]) (fun x H' nxx=>m + 1 + 1 ≤ x.1∧x.1 ≤ e∧H'=an H b (x.2.c3 f)∧nx=nxx∧PermR a e L x.2∧aP K a (m + 1) x.2) (fun x=>e - x.1) (m + 1 + 1,M2) ⟨Nat.le_refl _,by dsimp only; omega,rfl,rfl,hp1,hs⟩ (have zz:=aI @t0 (aI @t1 (aI @t2 (aI @t3 (aI @t9 @t10)))); agZ) ?_
 clear t0 t1 t2 t3 t9 t10 hp1 hs M2
 rintro ⟨j,M⟩ H' nxx ⟨a1,a2,rfl,rfl,hp,hs⟩
 dsimp only at *
 have hl:M.length=n:=by rw [hp.len,hn]
 have hGM:=hp.mem hG
 by_cases hje:j=e
 ·subst hje
  (have zz:=and_self; repeat' (first | refine zW ?_ | apply a_n | apply a_x | refine zO ?_ | refine vZ ?_ | (refine zGZ ?_ ?_ <;> (intro _hg; try (exfalso; omega))) | fail)) <;> (try clear zz)
  exact ⟨m + 1,M,h2,h3,hp,hs,rfl,rfl,rfl,rfl,rfl,rfl,rfl,rfl⟩
 obtain ⟨k,rfl⟩:∃ k,j=k + 1:=⟨j - 1,by omega⟩
 have tk:((k + 1:Nat):Int) - 1=(k:Int):=by omega
 have lc:=hc.run (M.getD (k + 1) default) (M.getD k default) (hGM _ (ai (by omega))) (hGM _ (ai (by omega)))
 have e1:=hc.dat (M.getD (k + 1) default)
 have e2:=hc.dat (M.getD k default)
 generalize hKK:K (M.getD (k + 1) default) (M.getD k default)=kk at lc
 by_cases hlt:kk < 0
 ·obtain ⟨M1,hl1,lm1,lm2,c1,c2,c3,c4⟩:=bK (f:=f) hc.len (M:=M) (i:=k + 1) (j:=k) (by omega) (by omega)
  have lm3:=lm2
  simp only [bg] at lm1 lm2
  (have zz:=aI @tk (aI @Int.toNat_natCast (aI (rdC hc.len) (aI (bc hc.len) (aI @bi (aI hc.agg (aI hc.ones (aI @lm1 @lm2))))))); repeat' (first | refine zW ?_ | refine zM ?_ | apply a_n | refine zO ?_ | refine vZ ?_ | refine cZ ?_ (hp:=lc) (hs:=by (first | refine ah ?_ rfl | apply ap); (repeat' (first | exact af | apply aC | apply aq | exact e1 | exact e2 | exact ao dcap)); first | done | fail) | refine stZ ?_ | (refine zGZ ?_ ?_ <;> (intro _hg; try (exfalso; omega))) | fail)) <;> (try clear zz)
  exact ⟨(k + 1 + 1,swp M (k + 1) k),by dsimp only; omega,⟨by dsimp only; omega,by dsimp only; omega,by dsimp only; rw [am,am,lm3],rfl,hp.trans (PermR.swap (by omega) (by omega) (by omega)),hs.out (e:=e) (PermR.swap (by omega) (by omega) (by omega))⟩,ag0⟩
 ·(have zz:=aI @tk (aI @Int.toNat_natCast (aI (rdC hc.len) (aI (bc hc.len) (aI @bi (aI hc.agg hc.ones))))); repeat' (first | refine zW ?_ | refine zM ?_ | apply a_n | apply a_x | refine zO ?_ | refine vZ ?_ | refine cZ ?_ (hp:=lc) (hs:=by (first | refine ah ?_ rfl | apply ap); (repeat' (first | exact af | apply aC | apply aq | exact e1 | exact e2 | exact ao dcap)); first | done | fail) | (refine zGZ ?_ ?_ <;> (intro _hg; try (exfalso; omega))) | fail)) <;> (try clear zz)
  exact ⟨m + 1,M,h2,h3,hp,hs,rfl,rfl,rfl,rfl,rfl,rfl,rfl,rfl⟩
end
end Go.Proofs.YtjgpfclngkcedaaGreat
namespace Go.Proofs.YtjgpfclngkcedaaGreat
open Go Go.Abs
section
variable {α:Type} [Inhabited α] {f:α→AV} {K:α→α→Int} {G:α→Prop} {g:Nat} {caps:List AV}
attribute [local irreducible] aA ag aU aO aE aH ay aJ aQ aZ Go.Abs.Fn aL Go.Abs.Pure ak aB Yl
set_option maxHeartbeats 1000000 in
theorem vb (hc:Cmp3 Tryz.prog f K G g caps) {L:List α} {H:Hp} {b nx n a e pv:Nat} (hH:H b=some (L.c3 f)) (hn:L.length=n) (hG:∀ x ∈ L,G x) (hae:a < e) (hen:e ≤ n) (hn2:n ≤ 1000000000) (hpv:a ≤ pv∧pv < e) :
    Abs.Fn Tryz.prog 137 [.msl b (n * 3) 3 0 n,.int .i64 a,.int .i64 e,.int .i64 pv,.func g caps] H nx fun r H' nx'=>nx'=nx∧∃ (L':List α) (m:Nat),r=.int .i64 m∧a < m∧m ≤ e∧H'=an H b (L'.c3 f)∧PermR a e L L'∧(∀ p,a ≤ p→p < m→¬ K (L.getD pv default) (L'.getD p default) < 0)∧(∀ q,m ≤ q→q < e→K (L.getD pv default) (L'.getD q default) < 0):=by
 have dcap:=hc.dcaps
 obtain ⟨v,hv0⟩:∃ v,L.getD pv default=v:=⟨_,rfl⟩
 rw [hv0]
 obtain ⟨P,hP⟩:∃ P:α→Prop,∀ x,P x ↔ ¬ K v x < 0:=⟨_,fun _=>Iff.rfl⟩
 obtain ⟨N,hN⟩:∃ N,swp L a pv=N:=⟨_,rfl⟩
 have hp1:PermR a e L N:=hN ▸ PermR.swap (by omega) (by omega) (by omega)
 have hv1:N.getD a default=v:=by
  rw [← hN,cf (by omega) (by omega),← hv0]
  split
  ·rename_i h; rw [h]
  ·rw [if_pos rfl]
 obtain ⟨M1,hl1,lm1,lm2,c1,c2,c3,c4⟩:=bK (f:=f) hc.len (M:=L) (i:=a) (j:=pv) (by omega) (by omega)
 rw [hN] at lm2
 have lm3:=lm2
 simp only [bg] at lm1 lm2
 obtain ⟨m,hm⟩:∃ m,e=m + 1:=⟨e - 1,by omega⟩
 have te:(e:Int) - 1=(m:Int):=by omega
 have ta:((a:Nat):Int) + 1=((a + 1:Nat):Int):=by omega
 refine Abs.Fn.of_c2 follows yA (Nat.le_of_ble_eq_true rfl) ?_
 simp only [zJ,cO,cG,cN,cM,cD,cF,cB,av,aF]
 (have zz:=aI @hH (aI @te (aI @ta (aI @Int.toNat_natCast (aI (rdC hc.len) (aI (bc hc.len) (aI @bi (aI hc.agg (aI hc.ones (aI @lm1 @lm2))))))))); repeat' (first | refine zW ?_ | apply a_n | refine zO ?_ | refine vZ ?_ | refine stZ ?_ | fail)) <;> (try clear zz)
 refine be (X:=Nat × Nat × List α) (fun x=>[(0,.msl b (n * 3) 3 0 n),(1,.int .i64 a),(4,.func g caps),(11,.int .i64 (x.1:Nat)),(12,.int .i64 (x.2.1:Nat))]) (fun x H' nxx=>PartR P a e (x.2.1 + 1 - x.1) x.1 x.2.1 x.2.2∧H'=an H b (x.2.2.c3 f)∧nx=nxx∧PermR a e L x.2.2∧x.2.2.getD a default=v) (fun x=>x.2.1 + 1 - x.1) (a + 1,m,N) ⟨by dsimp only; rw [hm]; exact .start (by omega),by dsimp only; rw [am,lm3],rfl,hp1,hv1⟩ ag0 ?_
 clear lm1 lm2 lm3 hl1 c1 c2 c3 c4 M1 hp1 hv1 hN N te ta hm m
 rintro ⟨i,j,M⟩ H' nxx ⟨hpt,rfl,rfl,hp,hv⟩
 dsimp only at *
 have hl:M.length=n:=by rw [hp.len,hn]
 have hGM:=hp.mem hG
 generalize hmu:j + 1 - i=mu at hpt ⊢
 clear hmu
 obtain ⟨T,hT,t0,t1,t4,t11,t12⟩:∃ T,tl [(0,.msl b (n * 3) 3 0 n),(1,.int .i64 a),(4,.func g caps),(11,.int .i64 (i:Nat)),(12,.int .i64 (j:Nat))]=T∧T 0=.msl b (n * 3) 3 0 n∧T 1=.int .i64 a∧T 4=.func g caps∧T 11=.int .i64 (i:Nat)∧T 12=.int .i64 (j:Nat):=⟨_,rfl,rfl,rfl,rfl,rfl,rfl⟩
 rw [hT]
 clear hT
 refine cU ?_
 refine aS (fun T H'' nx''=>∃ i:Nat,PartR P a e mu i j M∧(i ≤ j→¬ P (M.getD i default))∧T 0=.msl b (n * 3) 3 0 n∧T 1=.int .i64 a∧T 4=.func g caps∧T 11=.int .i64 (i:Nat)∧T 12=.int .i64 (j:Nat)∧H''=an H b ((M).c3 f)∧nx=nx'') ?_ ?_
 ·(have zz:=aI @t0 (aI @t1 (aI @t4 (aI @t11 @t12))); repeat' (first | refine zW ?_ | apply a_n | refine zO ?_ | fail)) <;> (try clear zz)
  refine be (X:=Nat) (fun i=>[(0,.msl b (n * 3) 3 0 n),(1,.int .i64 a),(4,.func g caps),(11,.int .i64 (i:Nat)),(12,.int .i64 (j:Nat))]) (fun i H' nxx=>PartR P a e mu i j M∧H'=an H b (M.c3 f)∧nx=nxx) (fun i=>j + 1 - i) i ⟨hpt,rfl,rfl⟩ (have zz:=aI @t0 (aI @t1 (aI @t4 (aI @t11 @t12))); agZ) ?_
  clear t0 t1 t4 t11 t12 hpt i
  rintro i H' nxx ⟨hpt,rfl,rfl⟩
  have hlo:=hpt.lo; have hmid:=hpt.mid; have hhi:=hpt.hi
  have ii:((i:Nat):Int) + 1=((i + 1:Nat):Int):=by omega
  by_cases hij:j < i
  ·(have zz:=and_self; repeat' (first | refine zW ?_ | refine zM ?_ | apply a_n | apply a_x | refine zO ?_ | refine vZ ?_ | refine gFZ ?_ | (refine zGZ ?_ ?_ <;> (intro _hg; try (exfalso; omega))) | refine cFZ ?_ | fail)) <;> (try clear zz)
   exact ⟨i,hpt,fun h=>absurd h (by omega),rfl,rfl,rfl,rfl,rfl,rfl,rfl⟩
  have lc:=hc.run (M.getD (a) default) (M.getD (i) default) (hGM _ (ai (by omega))) (hGM _ (ai (by omega)))
  have e1:=hc.dat (M.getD (a) default)
  have e2:=hc.dat (M.getD (i) default)
  have hPk:P (M.getD (i) default) ↔ ¬ K (M.getD (a) default) (M.getD (i) default) < 0:=by rw [hP,hv]
  generalize hKK:K (M.getD (a) default) (M.getD (i) default)=kk at lc hPk
  by_cases hlt:kk < 0
  ·(have zz:=aI @ii (aI @Int.toNat_natCast (aI (rdC hc.len) (aI (bc hc.len) (aI @bi (aI hc.agg hc.ones))))); repeat' (first | refine zW ?_ | refine zM ?_ | apply a_n | apply a_x | refine zO ?_ | refine vZ ?_ | refine cZ ?_ (hp:=lc) (hs:=by (first | refine ah ?_ rfl | apply ap); (repeat' (first | exact af | apply aC | apply aq | exact e1 | exact e2 | exact ao dcap)); first | done | fail) | refine gTZ ?_ | (refine zGZ ?_ ?_ <;> (intro _hg; try (exfalso; omega))) | fail)) <;> (try clear zz)
   exact ⟨i,hpt,fun _=>(by rw [hPk]; first | exact hlt | exact fun h=>h hlt),rfl,rfl,rfl,rfl,rfl,rfl,rfl⟩
  ·(have zz:=aI @ii (aI @Int.toNat_natCast (aI (rdC hc.len) (aI (bc hc.len) (aI @bi (aI hc.agg hc.ones))))); repeat' (first | refine zW ?_ | refine zM ?_ | apply a_n | refine zO ?_ | refine vZ ?_ | refine cZ ?_ (hp:=lc) (hs:=by (first | refine ah ?_ rfl | apply ap); (repeat' (first | exact af | apply aC | apply aq | exact e1 | exact e2 | exact ao dcap)); first | done | fail) | refine gTZ ?_ | (refine zGZ ?_ ?_ <;> (intro _hg; try (exfalso; omega))) | fail)) <;> (try clear zz)
   exact ⟨i + 1,by omega,⟨hpt.stepUp (by omega) (by rw [hPk]; exact hlt),rfl,rfl⟩,ag0⟩
 clear t0 t1 t4 t11 t12 hpt i
 rintro T _ _ ⟨i,hpt,hni,t0,t1,t4,t11,t12,rfl,rfl⟩
 refine aS (fun T H'' nx''=>∃ j:Nat,PartR P a e mu i j M∧(i ≤ j→¬ P (M.getD i default))∧(i ≤ j→P (M.getD j default))∧T 0=.msl b (n * 3) 3 0 n∧T 1=.int .i64 a∧T 4=.func g caps∧T 11=.int .i64 (i:Nat)∧T 12=.int .i64 (j:Nat)∧H''=an H b ((M).c3 f)∧nx=nx'') ?_ ?_
 ·(have zz:=aI @t0 (aI @t1 (aI @t4 (aI @t11 @t12))); repeat' (first | refine zW ?_ | apply a_n | refine zO ?_ | fail)) <;> (try clear zz)
  refine be (X:=Nat) (fun j=>[(0,.msl b (n * 3) 3 0 n),(1,.int .i64 a),(4,.func g caps),(11,.int .i64 (i:Nat)),(12,.int .i64 (j:Nat))]) (fun j H' nxx=>PartR P a e mu i j M∧(i ≤ j→¬ P (M.getD i default))∧H'=an H b (M.c3 f)∧nx=nxx) (fun j=>j) j ⟨hpt,hni,rfl,rfl⟩ (have zz:=aI @t0 (aI @t1 (aI @t4 (aI @t11 @t12))); agZ) ?_
  clear t0 t1 t4 t11 t12 hpt hni j
  rintro j H' nxx ⟨hpt,hni,rfl,rfl⟩
  have hlo:=hpt.lo; have hmid:=hpt.mid; have hhi:=hpt.hi
  by_cases hij:j < i
  ·(have zz:=and_self; repeat' (first | refine zW ?_ | refine zM ?_ | apply a_n | apply a_x | refine zO ?_ | refine vZ ?_ | refine gFZ ?_ | (refine zGZ ?_ ?_ <;> (intro _hg; try (exfalso; omega))) | refine cFZ ?_ | fail)) <;> (try clear zz)
   exact ⟨j,hpt,hni,fun h=>absurd h (by omega),rfl,rfl,rfl,rfl,rfl,rfl,rfl⟩
  obtain ⟨k,rfl⟩:∃ k,j=k + 1:=⟨j - 1,by omega⟩
  have tk:((k + 1:Nat):Int) - 1=(k:Int):=by omega
  have lc:=hc.run (M.getD (a) default) (M.getD (k + 1) default) (hGM _ (ai (by omega))) (hGM _ (ai (by omega)))
  have e1:=hc.dat (M.getD (a) default)
  have e2:=hc.dat (M.getD (k + 1) default)
  have hPk:P (M.getD (k + 1) default) ↔ ¬ K (M.getD (a) default) (M.getD (k + 1) default) < 0:=by rw [hP,hv]
  generalize hKK:K (M.getD (a) default) (M.getD (k + 1) default)=kk at lc hPk
  by_cases hlt:kk < 0
  ·(have zz:=aI @tk (aI @Int.toNat_natCast (aI (rdC hc.len) (aI (bc hc.len) (aI @bi (aI hc.agg hc.ones))))); repeat' (first | refine zW ?_ | refine zM ?_ | apply a_n | refine zO ?_ | refine vZ ?_ | refine cZ ?_ (hp:=lc) (hs:=by (first | refine ah ?_ rfl | apply ap); (repeat' (first | exact af | apply aC | apply aq | exact e1 | exact e2 | exact ao dcap)); first | done | fail) | refine gTZ ?_ | (refine zGZ ?_ ?_ <;> (intro _hg; try (exfalso; omega))) | fail)) <;> (try clear zz)
   exact ⟨k,by omega,⟨hpt.stepDn (by omega) (by rw [hPk]; first | exact hlt | exact fun h=>h hlt),fun _=>hni (by omega),rfl,rfl⟩,ag0⟩
  ·(have zz:=aI @tk (aI @Int.toNat_natCast (aI (rdC hc.len) (aI (bc hc.len) (aI @bi (aI hc.agg hc.ones))))); repeat' (first | refine zW ?_ | refine zM ?_ | apply a_n | apply a_x | refine zO ?_ | refine vZ ?_ | refine cZ ?_ (hp:=lc) (hs:=by (first | refine ah ?_ rfl | apply ap); (repeat' (first | exact af | apply aC | apply aq | exact e1 | exact e2 | exact ao dcap)); first | done | fail) | refine gTZ ?_ | (refine zGZ ?_ ?_ <;> (intro _hg; try (exfalso; omega))) | fail)) <;> (try clear zz)
   exact ⟨k + 1,hpt,hni,fun _=>(by rw [hPk]; exact hlt),rfl,rfl,rfl,rfl,rfl,rfl,rfl⟩
 clear t0 t1 t4 t11 t12 hpt hni j
 rintro T _ _ ⟨j,hpt,hni,hnj,t0,t1,t4,t11,t12,rfl,rfl⟩
 have hlo:=hpt.lo; have hmid:=hpt.mid; have hhi:=hpt.hi
 by_cases hji:j < i
 ·(have zz:=aI @t0 (aI @t1 (aI @t4 (aI @t11 @t12))); repeat' (first | refine zW ?_ | apply a_n | apply a_x | refine zO ?_ | refine vZ ?_ | (refine zGZ ?_ ?_ <;> (intro _hg; try (exfalso; omega))) | refine ae rfl ?_ | refine r1Z ?_ | fail)) <;> (try clear zz)
  refine ⟨rfl,M,i,rfl,by omega,by omega,rfl,hp,fun p h1 h2=>?_,fun q h1 h2=>by have:=hpt.dn q (by omega) h2; rw [hP] at this; exact Decidable.of_not_not this⟩
  by_cases ep:p=a
  ·rw [ep,hv]; exact hc.ord.irr _
  ·exact (hP _).1 (hpt.up p (by omega) h2)
 obtain ⟨k,rfl⟩:∃ k,j=k + 1:=⟨j - 1,by omega⟩
 have tk:((k + 1:Nat):Int) - 1=(k:Int):=by omega
 have ii:((i:Nat):Int) + 1=((i + 1:Nat):Int):=by omega
 obtain ⟨M1,hl1,lm1,lm2,c1,c2,c3,c4⟩:=bK (f:=f) hc.len (M:=M) (i:=i) (j:=k + 1) (by omega) (by omega)
 have lm3:=lm2
 simp only [bg] at lm1 lm2
 (have zz:=aI @t0 (aI @t1 (aI @t4 (aI @t11 (aI @t12 (aI @tk (aI @ii (aI @Int.toNat_natCast (aI (rdC hc.len) (aI (bc hc.len) (aI @bi (aI hc.agg (aI hc.ones (aI @lm1 @lm2))))))))))))); repeat' (first | refine zW ?_ | apply a_n | refine zO ?_ | refine vZ ?_ | refine stZ ?_ | (refine zGZ ?_ ?_ <;> (intro _hg; try (exfalso; omega))) | fail)) <;> (try clear zz)
 obtain ⟨hq1,hq2⟩:=hpt.swap (by omega) (by omega) (hni (by omega)) (hnj (by omega))
 exact ⟨(i + 1,k,swp M i (k + 1)),hq2,⟨hq1,by dsimp only; rw [am,am,lm3],rfl,hp.trans (PermR.swap (by omega) (by omega) (by omega)),by dsimp only; rw [f8 (by omega) (by omega) (by omega) (by omega)]; exact hv⟩,(have zz:=aI @t0 (aI @t1 (aI @t4 (aI @t11 @t12))); agZ)⟩
set_option maxHeartbeats 1000000 in
theorem zy (hc:Cmp3 Tryz.prog f K G g caps) {L:List α} {H:Hp} {b nx n a e pv:Nat} (hH:H b=some (L.c3 f)) (hn:L.length=n) (hG:∀ x ∈ L,G x) (hae:a < e) (hen:e ≤ n) (hn2:n ≤ 1000000000) (hpv:a ≤ pv∧pv < e) :
    Abs.Fn Tryz.prog 138 [.msl b (n * 3) 3 0 n,.int .i64 a,.int .i64 e,.int .i64 pv,.func g caps] H nx fun r H' nx'=>nx'=nx∧∃ (L':List α) (m:Nat) (t:Bool),r=.tup [.int .i64 m,.bool t]∧a ≤ m∧m < e∧H'=an H b (L'.c3 f)∧PermR a e L L'∧(∀ p,a ≤ p→p < m→K (L'.getD p default) (L'.getD m default) < 0)∧(∀ q,m < q→q < e→¬ K (L'.getD q default) (L'.getD m default) < 0):=by
 have dcap:=hc.dcaps
 obtain ⟨v,hv0⟩:∃ v,L.getD pv default=v:=⟨_,rfl⟩
 obtain ⟨P,hP⟩:∃ P:α→Prop,∀ x,P x ↔ K x v < 0:=⟨_,fun _=>Iff.rfl⟩
 obtain ⟨M,hN⟩:∃ N,swp L a pv=N:=⟨_,rfl⟩
 have hp:PermR a e L M:=hN ▸ PermR.swap (by omega) (by omega) (by omega)
 have hv:M.getD a default=v:=by
  rw [← hN,cf (by omega) (by omega),← hv0]
  split
  ·rename_i h; rw [h]
  ·rw [if_pos rfl]
 obtain ⟨M1,hl1,lm1,lm2,c1,c2,c3,c4⟩:=bK (f:=f) hc.len (M:=L) (i:=a) (j:=pv) (by omega) (by omega)
 rw [hN] at lm2
 have lm3:=lm2
 simp only [bg] at lm1 lm2
 obtain ⟨m,hm⟩:∃ m,e=m + 1:=⟨e - 1,by omega⟩
 have te:(e:Int) - 1=(m:Int):=by omega
 have ta:((a:Nat):Int) + 1=((a + 1:Nat):Int):=by omega
 refine Abs.Fn.of_c2 follows yG (Nat.le_of_ble_eq_true rfl) ?_
 simp only [zH,cO,cG,cN,cM,cD,cF,cB,av,aF]
 refine aS (fun T H'' nx''=>T 0=.msl b (n * 3) 3 0 n∧T 1=.int .i64 a∧T 2=.int .i64 e∧T 3=.int .i64 pv∧T 4=.func g caps∧H=H''∧nx=nx'') ?_ ?_
 ·(have zz:=and_self; repeat' (first | apply a_n | refine zO ?_ | refine vZ ?_ | fail)) <;> (try clear zz)
  exact ⟨rfl,rfl,rfl,rfl,rfl,rfl,rfl⟩
 rintro T _ _ ⟨t0,t1,t2,t3,t4,rfl,rfl⟩
 refine aS (fun T H'' nx''=>T 0=.msl b (n * 3) 3 0 n∧T 1=.int .i64 a∧T 2=.int .i64 e∧T 3=.int .i64 pv∧T 4=.func g caps∧H''=an H b (M.c3 f)∧nx=nx'') ?_ ?_
 ·(have zz:=aI @t0 (aI @t1 (aI @t2 (aI @t3 (aI @t4 (aI @hH (aI @Int.toNat_natCast (aI (rdC hc.len) (aI (bc hc.len) (aI @bi (aI hc.agg (aI hc.ones (aI @lm1 @lm2)))))))))))); repeat' (first | apply a_n | refine zO ?_ | refine vZ ?_ | refine stZ ?_ | fail)) <;> (try clear zz)
  exact ⟨(have zz:=@t0; evZ),(have zz:=@t1; evZ),(have zz:=@t2; evZ),(have zz:=@t3; evZ),(have zz:=@t4; evZ),by rw [am,lm3],rfl⟩
 clear t0 t1 t2 t3 t4 lm1 lm2 lm3 hl1 c1 c2 c3 c4 M1 hN
 rintro T _ _ ⟨t0,t1,t2,t3,t4,rfl,rfl⟩
 refine aS (fun T H'' nx''=>∃ mu i j:Nat,PartR P a e mu i j M∧T 0=.msl b (n * 3) 3 0 n∧T 1=.int .i64 a∧T 4=.func g caps∧T 12=.int .i64 (i:Nat)∧T 13=.int .i64 (j:Nat)∧H''=an H b ((M).c3 f)∧nx=nx'') ?_ ?_
 ·(have zz:=aI @t0 (aI @t1 (aI @t2 (aI @t3 (aI @t4 (aI @ta @te))))); repeat' (first | apply a_n | refine zO ?_ | refine vZ ?_ | fail)) <;> (try clear zz)
  exact ⟨_,a + 1,m,by rw [hm]; exact .start (by omega),(have zz:=@t0; evZ),(have zz:=@t1; evZ),(have zz:=@t4; evZ),ev0,ev0,rfl,rfl⟩
 clear t0 t1 t2 t3 t4 ta te hm m
 rintro T _ _ ⟨mu,i,j,hpt,t0,t1,t4,t12,t13,rfl,rfl⟩
 have hl:M.length=n:=by rw [hp.len,hn]
 have hGM:=hp.mem hG
 refine aS (fun T H'' nx''=>∃ i:Nat,PartR P a e mu i j M∧(i ≤ j→¬ P (M.getD i default))∧T 0=.msl b (n * 3) 3 0 n∧T 1=.int .i64 a∧T 4=.func g caps∧T 12=.int .i64 (i:Nat)∧T 13=.int .i64 (j:Nat)∧H''=an H b ((M).c3 f)∧nx=nx'') ?_ ?_
 ·(have zz:=aI @t0 (aI @t1 (aI @t4 (aI @t12 @t13))); repeat' (first | refine zW ?_ | apply a_n | refine zO ?_ | fail)) <;> (try clear zz)
  refine be (X:=Nat) (fun i=>[(0,.msl b (n * 3) 3 0 n),(1,.int .i64 a),(4,.func g caps),(12,.int .i64 (i:Nat)),(13,.int .i64 (j:Nat))]) (fun i H' nxx=>PartR P a e mu i j M∧H'=an H b (M.c3 f)∧nx=nxx) (fun i=>j + 1 - i) i ⟨hpt,rfl,rfl⟩ (have zz:=aI @t0 (aI @t1 (aI @t4 (aI @t12 @t13))); agZ) ?_
  clear t0 t1 t4 t12 t13 hpt i
  rintro i H' nxx ⟨hpt,rfl,rfl⟩
  have hlo:=hpt.lo; have hmid:=hpt.mid; have hhi:=hpt.hi
  have ii:((i:Nat):Int) + 1=((i + 1:Nat):Int):=by omega
  by_cases hij:j < i
  ·(have zz:=and_self; repeat' (first | refine zW ?_ | refine zM ?_ | apply a_n | apply a_x | refine zO ?_ | refine vZ ?_ | refine gFZ ?_ | (refine zGZ ?_ ?_ <;> (intro _hg; try (exfalso; omega))) | refine cFZ ?_ | fail)) <;> (try clear zz)
   exact ⟨i,hpt,fun h=>absurd h (by omega),rfl,rfl,rfl,rfl,rfl,rfl,rfl⟩
  have lc:=hc.run (M.getD (i) default) (M.getD (a) default) (hGM _ (ai (by omega))) (hGM _ (ai (by omega)))
  have e1:=hc.dat (M.getD (i) default)
  have e2:=hc.dat (M.getD (a) default)
  have hPk:P (M.getD (i) default) ↔ K (M.getD (i) default) (M.getD (a) default) < 0:=by rw [hP,hv]
  generalize hKK:K (M.getD (i) default) (M.getD (a) default)=kk at lc hPk
  by_cases hlt:kk < 0
  ·(have zz:=aI @ii (aI @Int.toNat_natCast (aI (rdC hc.len) (aI (bc hc.len) (aI @bi (aI hc.agg hc.ones))))); repeat' (first | refine zW ?_ | refine zM ?_ | apply a_n | refine zO ?_ | refine vZ ?_ | refine cZ ?_ (hp:=lc) (hs:=by (first | refine ah ?_ rfl | apply ap); (repeat' (first | exact af | apply aC | apply aq | exact e1 | exact e2 | exact ao dcap)); first | done | fail) | refine gTZ ?_ | (refine zGZ ?_ ?_ <;> (intro _hg; try (exfalso; omega))) | fail)) <;> (try clear zz)
   exact ⟨i + 1,by omega,⟨hpt.stepUp (by omega) (by rw [hPk]; exact hlt),rfl,rfl⟩,ag0⟩
  ·(have zz:=aI @ii (aI @Int.toNat_natCast (aI (rdC hc.len) (aI (bc hc.len) (aI @bi (aI hc.agg hc.ones))))); repeat' (first | refine zW ?_ | refine zM ?_ | apply a_n | apply a_x | refine zO ?_ | refine vZ ?_ | refine cZ ?_ (hp:=lc) (hs:=by (first | refine ah ?_ rfl | apply ap); (repeat' (first | exact af | apply aC | apply aq | exact e1 | exact e2 | exact ao dcap)); first | done | fail) | refine gTZ ?_ | (refine zGZ ?_ ?_ <;> (intro _hg; try (exfalso; omega))) | fail)) <;> (try clear zz)
   exact ⟨i,hpt,fun _=>(by rw [hPk]; first | exact hlt | exact fun h=>h hlt),rfl,rfl,rfl,rfl,rfl,rfl,rfl⟩
 clear t0 t1 t4 t12 t13 hpt i
 rintro T _ _ ⟨i,hpt,hni,t0,t1,t4,t12,t13,rfl,rfl⟩
 refine aS (fun T H'' nx''=>∃ j:Nat,PartR P a e mu i j M∧(i ≤ j→¬ P (M.getD i default))∧(i ≤ j→P (M.getD j default))∧T 0=.msl b (n * 3) 3 0 n∧T 1=.int .i64 a∧T 4=.func g caps∧T 12=.int .i64 (i:Nat)∧T 13=.int .i64 (j:Nat)∧H''=an H b ((M).c3 f)∧nx=nx'') ?_ ?_
 ·(have zz:=aI @t0 (aI @t1 (aI @t4 (aI @t12 @t13))); repeat' (first | refine zW ?_ | apply a_n | refine zO ?_ | fail)) <;> (try clear zz)
  refine be (X:=Nat) (fun j=>[(0,.msl b (n * 3) 3 0 n),(1,.int .i64 a),(4,.func g caps),(12,.int .i64 (i:Nat)),(13,.int .i64 (j:Nat))]) (fun j H' nxx=>PartR P a e mu i j M∧(i ≤ j→¬ P (M.getD i default))∧H'=an H b (M.c3 f)∧nx=nxx) (fun j=>j) j ⟨hpt,hni,rfl,rfl⟩ (have zz:=aI @t0 (aI @t1 (aI @t4 (aI @t12 @t13))); agZ) ?_
  clear t0 t1 t4 t12 t13 hpt hni j
  rintro j H' nxx ⟨hpt,hni,rfl,rfl⟩
  have hlo:=hpt.lo; have hmid:=hpt.mid; have hhi:=hpt.hi
  by_cases hij:j < i
  ·(have zz:=and_self; repeat' (first | refine zW ?_ | refine zM ?_ | apply a_n | apply a_x | refine zO ?_ | refine vZ ?_ | refine gFZ ?_ | (refine zGZ ?_ ?_ <;> (intro _hg; try (exfalso; omega))) | refine cFZ ?_ | fail)) <;> (try clear zz)
   exact ⟨j,hpt,hni,fun h=>absurd h (by omega),rfl,rfl,rfl,rfl,rfl,rfl,rfl⟩
  obtain ⟨k,rfl⟩:∃ k,j=k + 1:=⟨j - 1,by omega⟩
  have tk:((k + 1:Nat):Int) - 1=(k:Int):=by omega
  have lc:=hc.run (M.getD (k + 1) default) (M.getD (a) default) (hGM _ (ai (by omega))) (hGM _ (ai (by omega)))
  have e1:=hc.dat (M.getD (k + 1) default)
  have e2:=hc.dat (M.getD (a) default)
  have hPk:P (M.getD (k + 1) default) ↔ K (M.getD (k + 1) default) (M.getD (a) default) < 0:=by rw [hP,hv]
  generalize hKK:K (M.getD (k + 1) default) (M.getD (a) default)=kk at lc hPk
  by_cases hlt:kk < 0
  ·(have zz:=aI @tk (aI @Int.toNat_natCast (aI (rdC hc.len) (aI (bc hc.len) (aI @bi (aI hc.agg hc.ones))))); repeat' (first | refine zW ?_ | refine zM ?_ | apply a_n | apply a_x | refine zO ?_ | refine vZ ?_ | refine cZ ?_ (hp:=lc) (hs:=by (first | refine ah ?_ rfl | apply ap); (repeat' (first | exact af | apply aC | apply aq | exact e1 | exact e2 | exact ao dcap)); first | done | fail) | refine gTZ ?_ | (refine zGZ ?_ ?_ <;> (intro _hg; try (exfalso; omega))) | fail)) <;> (try clear zz)
   exact ⟨k + 1,hpt,hni,fun _=>(by rw [hPk]; exact hlt),rfl,rfl,rfl,rfl,rfl,rfl,rfl⟩
  ·(have zz:=aI @tk (aI @Int.toNat_natCast (aI (rdC hc.len) (aI (bc hc.len) (aI @bi (aI hc.agg hc.ones))))); repeat' (first | refine zW ?_ | refine zM ?_ | apply a_n | refine zO ?_ | refine vZ ?_ | refine cZ ?_ (hp:=lc) (hs:=by (first | refine ah ?_ rfl | apply ap); (repeat' (first | exact af | apply aC | apply aq | exact e1 | exact e2 | exact ao dcap)); first | done | fail) | refine gTZ ?_ | (refine zGZ ?_ ?_ <;> (intro _hg; try (exfalso; omega))) | fail)) <;> (try clear zz)
   exact ⟨k,by omega,⟨hpt.stepDn (by omega) (by rw [hPk]; first | exact hlt | exact fun h=>h hlt),fun _=>hni (by omega),rfl,rfl⟩,ag0⟩
 clear t0 t1 t4 t12 t13 hpt hni j
 rintro T _ _ ⟨j,hpt,hni,hnj,t0,t1,t4,t12,t13,rfl,rfl⟩
 have hlo:=hpt.lo; have hmid:=hpt.mid; have hhi:=hpt.hi
 by_cases hji:j < i
 ·clear hni hnj
  obtain ⟨z1,z2,z3,z4⟩:=hpt.done hc.ord (by omega) hji hv hP
  obtain ⟨M1,hl1,lm1,lm2,c1,c2,c3,c4⟩:=bK (f:=f) hc.len (M:=M) (i:=j) (j:=a) (by omega) (by omega)
  have lm3:=lm2
  simp only [bg] at lm1 lm2
  (have zz:=aI @t0 (aI @t1 (aI @t4 (aI @t12 (aI @t13 (aI @Int.toNat_natCast (aI (rdC hc.len) (aI (bc hc.len) (aI @bi (aI hc.agg (aI hc.ones (aI @lm1 @lm2))))))))))); repeat' (first | refine zW ?_ | apply a_n | apply a_r | refine zO ?_ | refine vZ ?_ | refine stZ ?_ | (refine zGZ ?_ ?_ <;> (intro _hg; try (exfalso; omega))) | refine ae rfl ?_ | refine r2Z ?_ | fail)) <;> (try clear zz)
  exact ⟨rfl,swp M j a,j,true,rfl,z1,z2,by rw [am,am,lm3],hp.trans (PermR.swap (by omega) (by omega) (by omega)),z3,z4⟩
 obtain ⟨k,rfl⟩:∃ k,j=k + 1:=⟨j - 1,by omega⟩
 have tk:((k + 1:Nat):Int) - 1=(k:Int):=by omega
 have ii:((i:Nat):Int) + 1=((i + 1:Nat):Int):=by omega
 obtain ⟨M1,hl1,lm1,lm2,c1,c2,c3,c4⟩:=bK (f:=f) hc.len (M:=M) (i:=i) (j:=k + 1) (by omega) (by omega)
 have lm3:=lm2
 simp only [bg] at lm1 lm2
 (have zz:=aI @t0 (aI @t1 (aI @t4 (aI @t12 (aI @t13 (aI @tk (aI @ii (aI @Int.toNat_natCast (aI (rdC hc.len) (aI (bc hc.len) (aI @bi (aI hc.agg (aI hc.ones (aI @lm1 @lm2))))))))))))); repeat' (first | refine zW ?_ | apply a_n | refine zO ?_ | refine vZ ?_ | refine stZ ?_ | (refine zGZ ?_ ?_ <;> (intro _hg; try (exfalso; omega))) | fail)) <;> (try clear zz)
 obtain ⟨hq1,hq2⟩:=hpt.swap (by omega) (by omega) (hni (by omega)) (hnj (by omega))
 have hp2:PermR a e L (swp M i (k + 1)):=hp.trans (PermR.swap (by omega) (by omega) (by omega))
 have hv2:(swp M i (k + 1)).getD a default=v:=by rw [f8 (by omega) (by omega) (by omega) (by omega)]; exact hv
 refine be (X:=Nat × Nat × List α) (fun x=>[(0,.msl b (n * 3) 3 0 n),(1,.int .i64 a),(4,.func g caps),(12,.int .i64 (x.1:Nat)),(13,.int .i64 (x.2.1:Nat))]) (fun x H' nxx=>PartR P a e (x.2.1 + 1 - x.1) x.1 x.2.1 x.2.2∧H'=an H b (x.2.2.c3 f)∧nx=nxx∧PermR a e L x.2.2∧x.2.2.getD a default=v) (fun x=>x.2.1 + 1 - x.1) (i + 1,k,swp M i (k + 1)) ⟨hq1,by dsimp only; rw [am,am,lm3],rfl,hp2,hv2⟩ (have zz:=aI @t0 (aI @t1 (aI @t4 (aI @t12 @t13))); agZ) ?_
 clear t0 t1 t4 t12 t13 lm1 lm2 lm3 hl1 c1 c2 c3 c4 M1 hp2 hv2 hq1 hq2 hpt hni hnj hp hv hGM
 rintro ⟨i,j,M⟩ H' nxx ⟨hpt,rfl,rfl,hp,hv⟩
 dsimp only at *
 have hl:M.length=n:=by rw [hp.len,hn]
 have hGM:=hp.mem hG
 generalize hmu:j + 1 - i=mu at hpt ⊢
 clear hmu
 obtain ⟨T,hT,t0,t1,t4,t12,t13⟩:∃ T,tl [(0,.msl b (n * 3) 3 0 n),(1,.int .i64 a),(4,.func g caps),(12,.int .i64 (i:Nat)),(13,.int .i64 (j:Nat))]=T∧T 0=.msl b (n * 3) 3 0 n∧T 1=.int .i64 a∧T 4=.func g caps∧T 12=.int .i64 (i:Nat)∧T 13=.int .i64 (j:Nat):=⟨_,rfl,rfl,rfl,rfl,rfl,rfl⟩
 rw [hT]
 clear hT
 refine cU ?_
 refine aS (fun T H'' nx''=>∃ i:Nat,PartR P a e mu i j M∧(i ≤ j→¬ P (M.getD i default))∧T 0=.msl b (n * 3) 3 0 n∧T 1=.int .i64 a∧T 4=.func g caps∧T 12=.int .i64 (i:Nat)∧T 13=.int .i64 (j:Nat)∧H''=an H b ((M).c3 f)∧nx=nx'') ?_ ?_
 ·(have zz:=aI @t0 (aI @t1 (aI @t4 (aI @t12 @t13))); repeat' (first | refine zW ?_ | apply a_n | refine zO ?_ | fail)) <;> (try clear zz)
  refine be (X:=Nat) (fun i=>[(0,.msl b (n * 3) 3 0 n),(1,.int .i64 a),(4,.func g caps),(12,.int .i64 (i:Nat)),(13,.int .i64 (j:Nat))]) (fun i H' nxx=>PartR P a e mu i j M∧H'=an H b (M.c3 f)∧nx=nxx) (fun i=>j + 1 - i) i ⟨hpt,rfl,rfl⟩ (have zz:=aI @t0 (aI @t1 (aI @t4 (aI @t12 @t13))); agZ) ?_
  clear t0 t1 t4 t12 t13 hpt i
  rintro i H' nxx ⟨hpt,rfl,rfl⟩
  have hlo:=hpt.lo; have hmid:=hpt.mid; have hhi:=hpt.hi
  have ii:((i:Nat):Int) + 1=((i + 1:Nat):Int):=by omega
  by_cases hij:j < i
  ·(have zz:=and_self; repeat' (first | refine zW ?_ | refine zM ?_ | apply a_n | apply a_x | refine zO ?_ | refine vZ ?_ | refine gFZ ?_ | (refine zGZ ?_ ?_ <;> (intro _hg; try (exfalso; omega))) | refine cFZ ?_ | fail)) <;> (try clear zz)
   exact ⟨i,hpt,fun h=>absurd h (by omega),rfl,rfl,rfl,rfl,rfl,rfl,rfl⟩
  have lc:=hc.run (M.getD (i) default) (M.getD (a) default) (hGM _ (ai (by omega))) (hGM _ (ai (by omega)))
  have e1:=hc.dat (M.getD (i) default)
  have e2:=hc.dat (M.getD (a) default)
  have hPk:P (M.getD (i) default) ↔ K (M.getD (i) default) (M.getD (a) default) < 0:=by rw [hP,hv]
  generalize hKK:K (M.getD (i) default) (M.getD (a) default)=kk at lc hPk
  by_cases hlt:kk < 0
  ·(have zz:=aI @ii (aI @Int.toNat_natCast (aI (rdC hc.len) (aI (bc hc.len) (aI @bi (aI hc.agg hc.ones))))); repeat' (first | refine zW ?_ | refine zM ?_ | apply a_n | refine zO ?_ | refine vZ ?_ | refine cZ ?_ (hp:=lc) (hs:=by (first | refine ah ?_ rfl | apply ap); (repeat' (first | exact af | apply aC | apply aq | exact e1 | exact e2 | exact ao dcap)); first | done | fail) | refine gTZ ?_ | (refine zGZ ?_ ?_ <;> (intro _hg; try (exfalso; omega))) | fail)) <;> (try clear zz)
   exact ⟨i + 1,by omega,⟨hpt.stepUp (by omega) (by rw [hPk]; exact hlt),rfl,rfl⟩,ag0⟩
  ·(have zz:=aI @ii (aI @Int.toNat_natCast (aI (rdC hc.len) (aI (bc hc.len) (aI @bi (aI hc.agg hc.ones))))); repeat' (first | refine zW ?_ | refine zM ?_ | apply a_n | apply a_x | refine zO ?_ | refine vZ ?_ | refine cZ ?_ (hp:=lc) (hs:=by (first | refine ah ?_ rfl | apply ap); (repeat' (first | exact af | apply aC | apply aq | exact e1 | exact e2 | exact ao dcap)); first | done | fail) | refine gTZ ?_ | (refine zGZ ?_ ?_ <;> (intro _hg; try (exfalso; omega))) | fail)) <;> (try clear zz)
   exact ⟨i,hpt,fun _=>(by rw [hPk]; first | exact hlt | exact fun h=>h hlt),rfl,rfl,rfl,rfl,rfl,rfl,rfl⟩
 clear t0 t1 t4 t12 t13 hpt i
 rintro T _ _ ⟨i,hpt,hni,t0,t1,t4,t12,t13,rfl,rfl⟩
 refine aS (fun T H'' nx''=>∃ j:Nat,PartR P a e mu i j M∧(i ≤ j→¬ P (M.getD i default))∧(i ≤ j→P (M.getD j default))∧T 0=.msl b (n * 3) 3 0 n∧T 1=.int .i64 a∧T 4=.func g caps∧T 12=.int .i64 (i:Nat)∧T 13=.int .i64 (j:Nat)∧H''=an H b ((M).c3 f)∧nx=nx'') ?_ ?_
 ·(have zz:=aI @t0 (aI @t1 (aI @t4 (aI @t12 @t13))); repeat' (first | refine zW ?_ | apply a_n | refine zO ?_ | fail)) <;> (try clear zz)
  refine be (X:=Nat) (fun j=>[(0,.msl b (n * 3) 3 0 n),(1,.int .i64 a),(4,.func g caps),(12,.int .i64 (i:Nat)),(13,.int .i64 (j:Nat))]) (fun j H' nxx=>PartR P a e mu i j M∧(i ≤ j→¬ P (M.getD i default))∧H'=an H b (M.c3 f)∧nx=nxx) (fun j=>j) j ⟨hpt,hni,rfl,rfl⟩ (have zz:=aI @t0 (aI @t1 (aI @t4 (aI @t12 @t13))); agZ) ?_
  clear t0 t1 t4 t12 t13 hpt hni j
  rintro j H' nxx ⟨hpt,hni,rfl,rfl⟩
  have hlo:=hpt.lo; have hmid:=hpt.mid; have hhi:=hpt.hi
  by_cases hij:j < i
  ·(have zz:=and_self; repeat' (first | refine zW ?_ | refine zM ?_ | apply a_n | apply a_x | refine zO ?_ | refine vZ ?_ | refine gFZ ?_ | (refine zGZ ?_ ?_ <;> (intro _hg; try (exfalso; omega))) | refine cFZ ?_ | fail)) <;> (try clear zz)
   exact ⟨j,hpt,hni,fun h=>absurd h (by omega),rfl,rfl,rfl,rfl,rfl,rfl,rfl⟩
  obtain ⟨k,rfl⟩:∃ k,j=k + 1:=⟨j - 1,by omega⟩
  have tk:((k + 1:Nat):Int) - 1=(k:Int):=by omega
  have lc:=hc.run (M.getD (k + 1) default) (M.getD (a) default) (hGM _ (ai (by omega))) (hGM _ (ai (by omega)))
  have e1:=hc.dat (M.getD (k + 1) default)
  have e2:=hc.dat (M.getD (a) default)
  have hPk:P (M.getD (k + 1) default) ↔ K (M.getD (k + 1) default) (M.getD (a) default) < 0:=by rw [hP,hv]
  generalize hKK:K (M.getD (k + 1) default) (M.getD (a) default)=kk at lc hPk
  by_cases hlt:kk < 0
  ·(have zz:=aI @tk (aI @Int.toNat_natCast (aI (rdC hc.len) (aI (bc hc.len) (aI @bi (aI hc.agg hc.ones))))); repeat' (first | refine zW ?_ | refine zM ?_ | apply a_n | apply a_x | refine zO ?_ | refine vZ ?_ | refine cZ ?_ (hp:=lc) (hs:=by (first | refine ah ?_ rfl | apply ap); (repeat' (first | exact af | apply aC | apply aq | exact e1 | exact e2 | exact ao dcap)); first | done | fail) | refine gTZ ?_ | (refine zGZ ?_ ?_ <;> (intro _hg; try (exfalso; omega))) | fail)) <;> (try clear zz)
   exact ⟨k + 1,hpt,hni,fun _=>(by rw [hPk]; exact hlt),rfl,rfl,rfl,rfl,rfl,rfl,rfl⟩
  ·(have zz:=aI @tk (aI @Int.toNat_natCast (aI (rdC hc.len) (aI (bc hc.len) (aI @bi (aI hc.agg hc.ones))))); repeat' (first | refine zW ?_ | refine zM ?_ | apply a_n | refine zO ?_ | refine vZ ?_ | refine cZ ?_ (hp:=lc) (hs:=by (first | refine ah ?_ rfl | apply ap); (repeat' (first | exact af | apply aC | apply aq | exact e1 | exact e2 | exact ao dcap)); first | done | fail) | refine gTZ ?_ | (refine zGZ ?_ ?_ <;> (intro _hg; try (exfalso; omega))) | fail)) <;> (try clear zz)
   exact ⟨k,by omega,⟨hpt.stepDn (by omega) (by rw [hPk]; first | exact hlt | exact fun h=>h hlt),fun _=>hni (by omega),rfl,rfl⟩,ag0⟩
 clear t0 t1 t4 t12 t13 hpt hni j
 rintro T _ _ ⟨j,hpt,hni,hnj,t0,t1,t4,t12,t13,rfl,rfl⟩
 have hlo:=hpt.lo; have hmid:=hpt.mid; have hhi:=hpt.hi
 by_cases hji:j < i
 ·clear hni hnj
  obtain ⟨z1,z2,z3,z4⟩:=hpt.done hc.ord (by omega) hji hv hP
  obtain ⟨M1,hl1,lm1,lm2,c1,c2,c3,c4⟩:=bK (f:=f) hc.len (M:=M) (i:=j) (j:=a) (by omega) (by omega)
  have lm3:=lm2
  simp only [bg] at lm1 lm2
  (have zz:=aI @t0 (aI @t1 (aI @t4 (aI @t12 (aI @t13 (aI @Int.toNat_natCast (aI (rdC hc.len) (aI (bc hc.len) (aI @bi (aI hc.agg (aI hc.ones (aI @lm1 @lm2))))))))))); repeat' (first | refine zW ?_ | apply a_n | apply a_x | refine zO ?_ | refine vZ ?_ | refine stZ ?_ | (refine zGZ ?_ ?_ <;> (intro _hg; try (exfalso; omega))) | refine ae rfl ?_ | refine r2Z ?_ | fail)) <;> (try clear zz)
  exact ⟨rfl,swp M j a,j,false,rfl,z1,z2,by rw [am,am,lm3],hp.trans (PermR.swap (by omega) (by omega) (by omega)),z3,z4⟩
 obtain ⟨k,rfl⟩:∃ k,j=k + 1:=⟨j - 1,by omega⟩
 have tk:((k + 1:Nat):Int) - 1=(k:Int):=by omega
 have ii:((i:Nat):Int) + 1=((i + 1:Nat):Int):=by omega
 obtain ⟨M1,hl1,lm1,lm2,c1,c2,c3,c4⟩:=bK (f:=f) hc.len (M:=M) (i:=i) (j:=k + 1) (by omega) (by omega)
 have lm3:=lm2
 simp only [bg] at lm1 lm2
 (have zz:=aI @t0 (aI @t1 (aI @t4 (aI @t12 (aI @t13 (aI @tk (aI @ii (aI @Int.toNat_natCast (aI (rdC hc.len) (aI (bc hc.len) (aI @bi (aI hc.agg (aI hc.ones (aI @lm1 @lm2))))))))))))); repeat' (first | refine zW ?_ | apply a_n | refine zO ?_ | refine vZ ?_ | refine stZ ?_ | (refine zGZ ?_ ?_ <;> (intro _hg; try (exfalso; omega))) | fail)) <;> (try clear zz)
 obtain ⟨hq1,hq2⟩:=hpt.swap (by omega) (by omega) (hni (by omega)) (hnj (by omega))
 exact ⟨(i + 1,k,swp M i (k + 1)),hq2,⟨hq1,by dsimp only; rw [am,am,lm3],rfl,hp.trans (PermR.swap (by omega) (by omega) (by omega)),by dsimp only; rw [f8 (by omega) (by omega) (by omega) (by omega)]; exact hv⟩,(have zz:=aI @t0 (aI @t1 (aI @t4 (aI @t12 @t13))); agZ)⟩
end
end Go.Proofs.YtjgpfclngkcedaaGreat
namespace Go.Proofs.YtjgpfclngkcedaaGreat
open Go Go.Abs
open Nat (reduceEqDiff reduceAdd reduceLeDiff)
section
variable {α:Type} [Inhabited α] {f:α→AV} {K:α→α→Int} {G:α→Prop} {g:Nat} {caps:List AV}
attribute [local irreducible] aA ag aU aO aE aH ay aJ aQ aZ Go.Abs.Fn aL Go.Abs.Pure ak aB Yl
theorem xG (hc:Cmp3 Tryz.prog f K G g caps) {L:List α} {H:Hp} {b nx n a e:Nat} (hH:H b=some (L.c3 f)) (hbx:b < nx) (hn:L.length=n) (hae:a + 8 ≤ e) (hen:e ≤ n) (hn2:n ≤ 1000000000) :
    Abs.Fn Tryz.prog 133 [.msl b (n * 3) 3 0 n,.int .i64 a,.int .i64 e,.func g caps] H nx fun r H' nx'=>nx'=nx + 1∧∃ L',H' b=some (L'.c3 f)∧(∀ i,i < nx→i ≠ b→H' i=H i)∧PermR a e L L':=by
 obtain ⟨l,rfl⟩:∃ l,e=a + l:=⟨e - a,by omega⟩
 have te:((a + l:Nat):Int) - (a:Int)=(l:Int):=by omega
 obtain ⟨w,hw⟩:∃ w,a + l / 4 * 2 - 1=w:=⟨_,rfl⟩
 have tq:aV .quo false false (.int .i64 (l:Int)) (.int .i64 4)=some (.int .i64 ((l / 4:Nat):Int)):=by
  rw [fC (by omega) (by omega) (by omega)]
  congr 2
 have w1:(a:Int) + ((l / 4:Nat):Int) * 2 - 1=(w:Int):=by omega
 have w2:(a:Int) + ((l / 4:Nat):Int) * 2 + 1=((w + 2:Nat):Int):=by omega
 have hbn:b ≠ nx:=by omega
 have wl:IntKind.wrap .u64 (l:Int)=l:=e5 (by omega) (by omega)
 refine Abs.Fn.of_c2 follows xQ (Nat.le_of_ble_eq_true rfl) ?_
 simp only [zL,cO,cG,cN,cM,cD,cF,cB,av,aF]
 have ls:∀ x y:AV,bg [x] 0 [y]=[y]:=fun _ _=>rfl
 simp only [bg,List.length_cons,List.length_nil,Nat.zero_add] at ls
 (have zz:=aI @te (aI @wl @ls); repeat' (first | refine zW ?_ | apply a_n | refine zO ?_ | refine vZ ?_ | refine alZ ?_ | refine stZ ?_ | (refine zGZ ?_ ?_ <;> (intro _hg; try (exfalso; omega))) | fail)) <;> (try clear zz)
 refine aD ev0 ev0 (wz (x:=l) (by omega) (by omega)) ?_
 rintro _ _ _ ⟨rfl,rfl,k,rfl,hk1,hk2⟩
 obtain ⟨p,hp⟩:∃ p,2 ^ k=p + 1:=⟨2 ^ k - 1,by omega⟩
 rw [hp] at hk1 hk2 ⊢
 (have zz:=aI @te (aI @tq @w1); repeat' (first | refine zW ?_ | apply a_n | refine zO ?_ | refine vZ ?_ | fail)) <;> (try clear zz)
 have wm:IntKind.wrap .u64 (((p + 1:Nat):Int) - 1)=(p:Int):=by rw [e5 (by omega) (by omega)]; omega
 refine be (X:=Nat × List α) (fun x=>[(0,.msl b (n * 3) 3 0 n),(1,.int .i64 a),(8,.int .i64 l),(9,.ptr nx 1 0),(10,.int .u64 ((p + 1:Nat):Int)),(11,.int .i64 (x.1:Nat))]) (fun x H' nxx=>w ≤ x.1∧x.1 ≤ w + 3∧H' b=some (x.2.c3 f)∧(∃ s,H' nx=some [.int .u64 s])∧(∀ i,i < nx→i ≠ b→H' i=H i)∧nxx=nx + 1∧PermR a (a + l) L x.2) (fun x=>w + 3 - x.1) (w,L) ⟨Nat.le_refl _,by dsimp only; omega,by dsimp only; rw [ac hbn]; first | exact hH | (rw [ac hbn]; exact hH),⟨_,au⟩,fun i h1 h2=>by rw [ac (by omega)]; first | rfl | exact ac (by omega),rfl,.refl⟩ (by simp (disch:=omega) only [agr,ZG,reduceEqDiff,↓reduceIte,List.length_cons,List.length_nil,Nat.zero_add,true_and]) ?_
 rintro ⟨i,M⟩ H1 nxx ⟨h1,h2,hb1,⟨s,hs⟩,hfr,rfl,hp1⟩
 dsimp only at *
 have hl:M.length=n:=by rw [hp1.len,hn]
 by_cases hi:i=w + 3
 ·subst hi
  (have zz:=aI @tq @w2; repeat' (first | refine zW ?_ | apply a_n | apply a_x | refine zO ?_ | refine vZ ?_ | (refine zGZ ?_ ?_ <;> (intro _hg; try (exfalso; omega))) | refine ae rfl ?_ | fail)) <;> (try clear zz)
  exact ⟨rfl,M,hb1,hfr,hp1⟩
 have ti:((i:Nat):Int) + 1=((i + 1:Nat):Int):=by omega
 (have zz:=aI @tq @w2; repeat' (first | refine zW ?_ | apply a_n | refine zO ?_ | refine vZ ?_ | (refine zGZ ?_ ?_ <;> (intro _hg; try (exfalso; omega))) | fail)) <;> (try clear zz)
 refine aD ev0 ev0 (u3 hs) ?_
 rintro _ _ _ ⟨rfl,s1,rfl,rfl⟩
 obtain ⟨r,hr1,hr2⟩:=qm (a:=s1) (m:=p) (by omega)
 obtain ⟨H2,hH2⟩:∃ H2,an H1 nx [.int .u64 s1]=H2:=⟨_,rfl⟩
 have hb2:H2 b=some (M.c3 f):=by rw [← hH2,ac hbn]; exact hb1
 have hs2:H2 nx=some [.int .u64 s1]:=by rw [← hH2]; exact au
 have hfr2:∀ i,i < nx→i ≠ b→H2 i=H i:=fun i k1 k2=>by rw [← hH2,ac (by omega)]; exact hfr i k1 k2
 rw [hH2]
 clear hH2 hb1 hs hfr
 obtain ⟨z,hz,hzl⟩:∃ z:Nat,(if l ≤ r then (r:Int) - l else (r:Int))=(z:Int)∧z < l:=by
  split
  ·exact ⟨r - l,by omega,by omega⟩
  ·exact ⟨r,rfl,by omega⟩
 obtain ⟨M1,hl1,lm1,lm2,c1,c2,c3,c4⟩:=bK (f:=f) hc.len (M:=M) (i:=i) (j:=a + z) (by omega) (by omega)
 have lm3:=lm2
 simp only [bg] at lm1 lm2
 by_cases hrl:l ≤ r
 ·rw [if_pos hrl] at hz
  (have zz:=aI @wm (aI @hr1 (aI @hz (aI @hb2 (aI @ti (aI @bO (aI (rdC hc.len) (aI (bc hc.len) (aI @bi (aI hc.agg (aI hc.ones (aI @lm1 @lm2))))))))))); repeat' (first | refine zW ?_ | apply a_n | refine zO ?_ | refine vZ ?_ | refine stZ ?_ | (refine zGZ ?_ ?_ <;> (intro _hg; try (exfalso; omega))) | fail)) <;> (try clear zz)
  exact ⟨(i + 1,swp M i (a + z)),by dsimp only; omega,⟨by dsimp only; omega,by dsimp only; omega,by dsimp only; rw [am,lm3,au],⟨s1,by rw [am,ac (Ne.symm hbn)]; exact hs2⟩,fun i k1 k2=>by rw [am,ac k2]; exact hfr2 i k1 k2,rfl,hp1.trans (PermR.swap (by omega) (by omega) (by omega))⟩,ag0⟩
 ·rw [if_neg hrl] at hz
  have hz':r=z:=by omega
  subst hz'
  (have zz:=aI @wm (aI @hr1 (aI @hb2 (aI @ti (aI @bO (aI (rdC hc.len) (aI (bc hc.len) (aI @bi (aI hc.agg (aI hc.ones (aI @lm1 @lm2)))))))))); repeat' (first | refine zW ?_ | apply a_n | refine zO ?_ | refine vZ ?_ | refine stZ ?_ | (refine zGZ ?_ ?_ <;> (intro _hg; try (exfalso; omega))) | fail)) <;> (try clear zz)
  exact ⟨(i + 1,swp M i (a + r)),by dsimp only; omega,⟨by dsimp only; omega,by dsimp only; omega,by dsimp only; rw [am,lm3,au],⟨s1,by rw [am,ac (Ne.symm hbn)]; exact hs2⟩,fun i k1 k2=>by rw [am,ac k2]; exact hfr2 i k1 k2,rfl,hp1.trans (PermR.swap (by omega) (by omega) (by omega))⟩,ag0⟩
end
end Go.Proofs.YtjgpfclngkcedaaGreat