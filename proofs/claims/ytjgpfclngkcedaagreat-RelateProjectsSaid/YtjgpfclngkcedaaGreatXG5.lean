/- Texts of this claim, one after the other: U6v, U7v, U8v, U9v, U10v, U11v, U12v, U13v, U2o, U3o, U4o, U5o, U6o, U7o, U8o, U10o, U12o, U13o, T20, T10, T21, T11, T22, T40, T41, T42, U2k, U3k, U4k, U5k, U6k, U7k, U8k, U10k, U12k, U13k, T31, T32, T33, T34, T35, T23, T24, T25, T26, A11, T27, T36, T29, T37, T43, T47, T48, T49, T50, T44, T45, T51, T52, T53, T54, T55, T56, T57, T63, T64, T59. -/
import Derived.Test.YtjgpfclngkcedaaGreatXG4
import Derived.Test.YtjgpfclngkcedaaGreatXG3

set_option linter.unusedSimpArgs false
set_option linter.unusedVariables false
namespace Go.Proofs.YtjgpfclngkcedaaGreat
open Go Go.Abs
section
variable {α:Type} [Inhabited α] {f:α→AV} {K:α→α→Int} {G:α→Prop} {g:Nat} {caps:List AV}
attribute [local irreducible] aw ac aP aK ay aA am aB aM aX Go.Abs.Fn aH Go.Abs.Pure ag ax Yl
theorem mY (hc:Cmp Tryz.prog f K G g caps) {L:List α} {H:Hp} {b c nx n i j k s lo hi:Nat} (hH:H b=some (L.map f)) (hbc:b ≠ c) (hcc:H c=some [.int .i64 (s:Nat)]) (hn:L.length=n) (hG:∀ x ∈ L,G x) (hi1:lo ≤ i∧i < hi) (hj1:lo ≤ j∧j < hi) (hk1:lo ≤ k∧k < hi) (hhi:hi ≤ n) (hn2:n ≤ 1000000000) (hs:s ≤ 50) :
    Abs.Fn Tryz.prog 167 [.msl b n 1 0 n,.int .i64 i,.int .i64 j,.int .i64 k,.ptr c 1 0,.func g caps] H nx fun r H' nx'=>nx'=nx∧∃ p s':Nat,r=.int .i64 p∧lo ≤ p∧p < hi∧s' ≤ s + 3∧H'=ak H c [.int .i64 s']:=by
 refine Abs.Fn.of_c2 follows xI (Nat.le_of_ble_eq_true rfl) ?_
 simp only [yE,cO,cG,cN,cM,cD,cF,cB,aq,aL]
 (have zz:=and_self; repeat' (first | refine zW ?_ | apply a_n | refine zO ?_ | refine vZ ?_ | fail)) <;> (try clear zz)
 refine aR ev0 ev0 (mm hc (b:=b) hH hcc hn hG (i:=i) (j:=j) (by omega) (by omega) hn2 (by omega)) ?_
 rintro _ _ _ ⟨rfl,i1,j1,s1,rfl,h1,hs1,rfl⟩
 (have zz:=and_self; repeat' (first | refine zW ?_ | apply a_n | refine zO ?_ | refine vZ ?_ | fail)) <;> (try clear zz)
 refine aR ev0 ev0 (mm hc (b:=b) (by rw [al hbc]; exact hH) au hn hG (i:=j1) (j:=k) (by omega) (by omega) hn2 (by omega)) ?_
 rintro _ _ _ ⟨rfl,j2,k2,s2,rfl,h2,hs2,rfl⟩
 (have zz:=and_self; repeat' (first | refine zW ?_ | apply a_n | refine zO ?_ | refine vZ ?_ | fail)) <;> (try clear zz)
 refine aR ev0 ev0 (mm hc (b:=b) (by rw [aG,al hbc]; exact hH) au hn hG (i:=i1) (j:=j2) (by omega) (by omega) hn2 (by omega)) ?_
 rintro _ _ _ ⟨rfl,i3,j3,s3,rfl,h3,hs3,rfl⟩
 (have zz:=and_self; repeat' (first | refine zW ?_ | apply a_n | refine zO ?_ | refine vZ ?_ | refine ae rfl ?_ | refine r1Z ?_ | fail)) <;> (try clear zz)
 exact ⟨rfl,j3,s3,rfl,by omega,by omega,by omega,by rw [aG,aG]⟩
theorem mc (hc:Cmp Tryz.prog f K G g caps) {L:List α} {H:Hp} {b c nx n i s lo hi:Nat} (hH:H b=some (L.map f)) (hbc:b ≠ c) (hcc:H c=some [.int .i64 (s:Nat)]) (hn:L.length=n) (hG:∀ x ∈ L,G x) (hi1:lo + 1 ≤ i∧i + 1 < hi) (hhi:hi ≤ n) (hn2:n ≤ 1000000000) (hs:s ≤ 50) :
    Abs.Fn Tryz.prog 166 [.msl b n 1 0 n,.int .i64 i,.ptr c 1 0,.func g caps] H nx fun r H' nx'=>nx'=nx∧∃ p s':Nat,r=.int .i64 p∧lo ≤ p∧p < hi∧s' ≤ s + 3∧H'=ak H c [.int .i64 s']:=by
 obtain ⟨m,rfl⟩:∃ m,i=m + 1:=⟨i - 1,by omega⟩
 have t1:((m + 1:Nat):Int) - 1=(m:Int):=by omega
 have t2:((m + 1:Nat):Int) + 1=((m + 1 + 1:Nat):Int):=by omega
 refine Abs.Fn.of_c2 follows x1 (Nat.le_of_ble_eq_true rfl) ?_
 simp only [yQ,cO,cG,cN,cM,cD,cF,cB,aq,aL]
 (have zz:=aI @t1 @t2; repeat' (first | refine zW ?_ | apply a_n | refine zO ?_ | refine vZ ?_ | fail)) <;> (try clear zz)
 refine aR ev0 ev0 (mY hc (b:=b) hH hbc hcc hn hG (i:=m) (j:=m + 1) (k:=m + 1 + 1) (lo:=lo) (hi:=hi) (by omega) (by omega) (by omega) hhi hn2 hs) ?_
 rintro _ _ _ ⟨rfl,p,s1,rfl,h1,h2,hs1,rfl⟩
 (have zz:=and_self; repeat' (first | apply a_n | refine zO ?_ | refine vZ ?_ | refine ae rfl ?_ | refine r1Z ?_ | fail)) <;> (try clear zz)
 exact ⟨rfl,p,s1,rfl,h1,h2,hs1,rfl⟩
theorem v6 (hc:Cmp Tryz.prog f K G g caps) {L:List α} {H:Hp} {b nx n a e:Nat} (hH:H b=some (L.map f)) (hbx:b < nx) (hn:L.length=n) (hG:∀ x ∈ L,G x) (hae:a + 8 ≤ e) (hen:e ≤ n) (hn2:n ≤ 1000000000) :
    Abs.Fn Tryz.prog 152 [.msl b n 1 0 n,.int .i64 a,.int .i64 e,.func g caps] H nx fun r H' nx'=>nx'=nx + 1∧∃ (p:Nat) (hint:Int) (v:List AV),r=.tup [.int .i64 p,.int .i64 hint]∧a ≤ p∧p < e∧H'=ak H nx v:=by
 obtain ⟨l,rfl⟩:∃ l,e=a + l:=⟨e - a,by omega⟩
 have te:((a + l:Nat):Int) - (a:Int)=(l:Int):=by omega
 obtain ⟨q,hq⟩:∃ q,l / 4=q:=⟨_,rfl⟩
 have tq:aQ .quo false false (.int .i64 (l:Int)) (.int .i64 4)=some (.int .i64 (q:Int)):=by
  rw [jp (by omega) (by omega) (by omega)]
  congr 2
  omega
 have w1:(a:Int) + (q:Int) * 1=((a + q:Nat):Int):=by omega
 have w2:(a:Int) + (q:Int) * 2=((a + q * 2:Nat):Int):=by omega
 have w3:(a:Int) + (q:Int) * 3=((a + q * 3:Nat):Int):=by omega
 have hbn:b ≠ nx:=by omega
 refine Abs.Fn.of_c2 follows xM (Nat.le_of_ble_eq_true rfl) ?_
 simp only [y8,cO,cG,cN,cM,cD,cF,cB,aq,aL]
 have last:∀ (s:Nat) (H1:Hp),H1=ak (ak H nx [.int .i64 0]) nx [.int .i64 s]→H1 nx=some [.int .i64 (s:Nat)]:=fun s H1 h=>by rw [h]; exact au
 have hHn:∀ v,ak H nx v b=some (L.map f):=fun v=>by rw [al hbn]; exact hH
 by_cases h50:50 ≤ l
 ·(have zz:=aI @te (aI @tq (aI @w1 (aI @w2 @w3))); repeat' (first | refine zW ?_ | apply a_n | refine zO ?_ | refine vZ ?_ | refine alZ ?_ | (refine zGZ ?_ ?_ <;> (intro _hg; try (exfalso; omega))) | fail)) <;> (try clear zz)
  refine aR ev0 ev0 (mc hc (b:=b) (c:=nx) (s:=0) (i:=a + q) (lo:=a) (hi:=a + l) (hHn _) hbn au hn hG (by omega) (by omega) hn2 (by omega)) ?_
  rintro _ _ _ ⟨rfl,p1,s1,rfl,k1,k2,hs1,rfl⟩
  rw [aG]
  (have zz:=and_self; repeat' (first | refine zW ?_ | apply a_n | refine zO ?_ | refine vZ ?_ | fail)) <;> (try clear zz)
  refine aR ev0 ev0 (mc hc (b:=b) (c:=nx) (s:=s1) (i:=a + q * 2) (lo:=a) (hi:=a + l) (hHn _) hbn au hn hG (by omega) (by omega) hn2 (by omega)) ?_
  rintro _ _ _ ⟨rfl,p2,s2,rfl,k3,k4,hs2,rfl⟩
  rw [aG]
  (have zz:=and_self; repeat' (first | apply a_n | refine zO ?_ | refine vZ ?_ | fail)) <;> (try clear zz)
  refine aR ev0 ev0 (mc hc (b:=b) (c:=nx) (s:=s2) (i:=a + q * 3) (lo:=a) (hi:=a + l) (hHn _) hbn au hn hG (by omega) (by omega) hn2 (by omega)) ?_
  rintro _ _ _ ⟨rfl,p3,s3,rfl,k5,k6,hs3,rfl⟩
  rw [aG]
  (have zz:=and_self; repeat' (first | apply a_n | refine zO ?_ | refine vZ ?_ | fail)) <;> (try clear zz)
  refine aR ev0 ev0 (mY hc (b:=b) (c:=nx) (s:=s3) (i:=p1) (j:=p2) (k:=p3) (lo:=a) (hi:=a + l) (hHn _) hbn au hn hG (by omega) (by omega) (by omega) (by omega) hn2 (by omega)) ?_
  rintro _ _ _ ⟨rfl,p4,s4,rfl,k7,k8,hs4,rfl⟩
  rw [aG]
  (have zz:=and_self; repeat' (first | refine zW ?_ | apply a_n | refine zO ?_ | refine vZ ?_ | (refine zGZ ?_ ?_ <;> (intro _hg; try (exfalso; omega))) | refine ae rfl ?_ | refine r2Z ?_ | fail)) <;> (try clear zz)
  all_goals exact ⟨rfl,p4,_,_,rfl,by omega,by omega,rfl⟩
 ·(have zz:=aI @te (aI @tq (aI @w1 (aI @w2 @w3))); repeat' (first | refine zW ?_ | apply a_n | refine zO ?_ | refine vZ ?_ | refine alZ ?_ | (refine zGZ ?_ ?_ <;> (intro _hg; try (exfalso; omega))) | fail)) <;> (try clear zz)
  refine aR ev0 ev0 (mY hc (b:=b) (c:=nx) (s:=0) (i:=a + q) (j:=a + q * 2) (k:=a + q * 3) (lo:=a) (hi:=a + l) (hHn _) hbn au hn hG (by omega) (by omega) (by omega) (by omega) hn2 (by omega)) ?_
  rintro _ _ _ ⟨rfl,p4,s4,rfl,k7,k8,hs4,rfl⟩
  rw [aG]
  (have zz:=and_self; repeat' (first | refine zW ?_ | apply a_n | refine zO ?_ | refine vZ ?_ | (refine zGZ ?_ ?_ <;> (intro _hg; try (exfalso; omega))) | refine ae rfl ?_ | refine r2Z ?_ | fail)) <;> (try clear zz)
  all_goals exact ⟨rfl,p4,_,_,rfl,by omega,by omega,rfl⟩
end
end Go.Proofs.YtjgpfclngkcedaaGreat
namespace Go.Proofs.YtjgpfclngkcedaaGreat
open Go Go.Abs
def nF {α:Type} [Inhabited α] (K:α→α→Int) (a e:Nat) (M:List α):Prop:=∀ q,0 < a→a ≤ q→q < e→¬ K (M.getD q default) (M.getD (a - 1) default) < 0
section
variable {α:Type} [Inhabited α] {f:α→AV} {K:α→α→Int} {G:α→Prop} {g:Nat} {caps:List AV}
theorem nF.perm {a e:Nat} {L M:List α} (h:nF K a e L) (hp:PermR a e L M) (hae:a ≤ e) (he:e ≤ L.length):nF K a e M:=fun q h0 h1 h2=>by
 rw [hp.out (a - 1) (.inl (by omega))]
 exact hp.all (p:=fun x=>¬ K x (L.getD (a - 1) default) < 0) hae he (fun i k1 k2=>h i h0 k1 k2) q h1 h2
theorem aW.out {a i e:Nat} {L M:List α} (h:aW K a i L) (hp:PermR i e L M):aW K a i M:=fun p q h1 h2 h3=>by
 rw [hp.out p (.inl (by omega)),hp.out q (.inl h3)]; exact h p q h1 h2 h3
theorem aW.snoc {a i:Nat} {M:List α} (hK:Ord K) (h:aW K a i M) (ha:a < i) (hn:¬ K (M.getD i default) (M.getD (i - 1) default) < 0):aW K a (i + 1) M:=fun p q h1 h2 h3=>by
 by_cases e:q=i
 ·subst e
  by_cases e2:p=q - 1
  ·rw [e2]; exact hn
  ·exact hK.negtr _ _ _ (h p (q - 1) h1 (by omega) (by omega)) hn
 ·exact h p q h1 h2 (by omega)
attribute [local irreducible] aw ac aP aK ay aA am aB aM aX Go.Abs.Fn aH Go.Abs.Pure ag ax Yl
theorem tZ (hc:Cmp Tryz.prog f K G g caps) {L:List α} {H:Hp} {b nx n a e:Nat} (hH:H b=some (L.map f)) (hn:L.length=n) (hG:∀ x ∈ L,G x) (hae:a < e) (hen:e ≤ n) (hn2:n ≤ 1000000000) (hlow:nF K a e L) :
    Abs.Fn Tryz.prog 154 [.msl b n 1 0 n,.int .i64 a,.int .i64 e,.func g caps] H nx fun r H' nx'=>nx'=nx∧∃ L' t,r=.bool t∧H'=ak H b (L'.map f)∧PermR a e L L'∧(t=true→aW K a e L'):=by
 have dcap:=hc.dcaps
 refine Abs.Fn.of_c2 follows x5 (Nat.le_of_ble_eq_true rfl) ?_
 simp only [yj,cO,cG,cN,cM,cD,cF,cB,aq,aL]
 (have zz:=and_self; repeat' (first | refine zW ?_ | apply a_n | refine zO ?_ | refine vZ ?_ | fail)) <;> (try clear zz)
 refine br (X:=Nat × Nat × List α) (fun x=>[(0,.msl b n 1 0 n),(1,.int .i64 a),(2,.int .i64 e),(3,.func g caps),(9,.int .i64 (x.2.1:Nat)),(10,.int .i64 (x.1:Nat))]) (fun x H' nxx=>x.1 ≤ 5∧a + 1 ≤ x.2.1∧x.2.1 ≤ e∧H'=ak H b (x.2.2.map f)∧nx=nxx∧PermR a e L x.2.2∧aW K a x.2.1 x.2.2) (fun x=>5 - x.1) (0,a + 1,L) ⟨by dsimp only; omega,Nat.le_refl _,hae,e7 hH,rfl,.refl,aW.one (Nat.le_refl _)⟩ ag0 ?_
 rintro ⟨jj,i0,M0⟩ H' nxx ⟨h1,h2,h3,rfl,rfl,hp0,hs0⟩
 dsimp only at *
 by_cases h5:jj=5
 ·subst h5
  (have zz:=and_self; repeat' (first | refine zW ?_ | apply a_n | apply a_x | refine zO ?_ | refine vZ ?_ | (refine zGZ ?_ ?_ <;> (intro _hg; try (exfalso; omega))) | refine ae rfl ?_ | refine r1Z ?_ | fail)) <;> (try clear zz)
  exact ⟨rfl,M0,false,rfl,rfl,hp0,fun h=>absurd h (by decide)⟩
 have hl:M0.length=n:=by rw [hp0.len,hn]
 have hGM:=hp0.mem hG
 refine ba (fun T H'' nx''=>T 0=.msl b n 1 0 n∧T 1=.int .i64 a∧T 2=.int .i64 e∧T 3=.func g caps∧T 9=.int .i64 (i0:Nat)∧T 10=.int .i64 (jj:Nat)∧H''=ak H b ((M0).map f)∧nx=nx'') ?_ ?_
 ·(have zz:=and_self; repeat' (first | refine zW ?_ | apply a_n | refine zO ?_ | refine vZ ?_ | (refine zGZ ?_ ?_ <;> (intro _hg; try (exfalso; omega))) | fail)) <;> (try clear zz)
  exact ⟨rfl,rfl,rfl,rfl,rfl,rfl,rfl,rfl⟩
 rintro T _ _ ⟨t0,t1,t2,t3,t9,t10,rfl,rfl⟩
 refine ba (fun T H'' nx''=>∃ (i:Nat) (M:List α),a + 1 ≤ i∧i ≤ e∧PermR a e L M∧aW K a i M∧T 0=.msl b n 1 0 n∧T 1=.int .i64 a∧T 2=.int .i64 e∧T 3=.func g caps∧T 9=.int .i64 (i:Nat)∧T 10=.int .i64 (jj:Nat)∧H''=ak H b ((M).map f)∧nx=nx'') ?_ ?_
 rotate_left
 ·clear t0 t1 t2 t3 t9 t10
  rintro T _ _ ⟨i,M,k1,k2,hp,hs,t0,t1,t2,t3,t9,t10,rfl,rfl⟩
  (have zz:=aI @t0 (aI @t1 (aI @t2 (aI @t3 (aI @t9 @t10)))); repeat' (first | apply a_n | refine zO ?_ | refine vZ ?_ | fail)) <;> (try clear zz)
  exact ⟨(jj + 1,i,M),by dsimp only; omega,⟨by dsimp only; omega,k1,k2,rfl,rfl,hp,hs⟩,(have zz:=aI @t0 (aI @t1 (aI @t2 (aI @t3 (aI @t9 @t10)))); agZ)⟩
 refine eK ?_
 refine ba (fun T H'' nx''=>∃ (i:Nat),a + 1 ≤ i∧i ≤ e∧aW K a i M0∧(i < e→K (M0.getD i default) (M0.getD (i - 1) default) < 0)∧T 0=.msl b n 1 0 n∧T 1=.int .i64 a∧T 2=.int .i64 e∧T 3=.func g caps∧T 9=.int .i64 (i:Nat)∧T 10=.int .i64 (jj:Nat)∧H''=ak H b ((M0).map f)∧nx=nx'') ?_ ?_
 ·(have zz:=aI @t0 (aI @t1 (aI @t2 (aI @t3 (aI @t9 @t10)))); repeat' (first | refine zW ?_ | apply a_n | refine zO ?_ | fail)) <;> (try clear zz)
  refine br (X:=Nat) (fun i=>[(0,.msl b n 1 0 n),(1,.int .i64 a),(2,.int .i64 e),(3,.func g caps),(9,.int .i64 (i:Nat)),(10,.int .i64 (jj:Nat))]) (fun i H' nxx=>a + 1 ≤ i∧i ≤ e∧H'=ak H b (M0.map f)∧nx=nxx∧aW K a i M0) (fun i=>e - i) i0 ⟨h2,h3,rfl,rfl,hs0⟩ (have zz:=aI @t0 (aI @t1 (aI @t2 (aI @t3 (aI @t9 @t10)))); agZ) ?_
  clear hs0 h2 h3
  rintro i H' nxx ⟨h2,h3,rfl,rfl,hs⟩
  by_cases hie:i=e
  ·subst hie
   (have zz:=and_self; repeat' (first | refine zW ?_ | refine zM ?_ | apply a_n | apply a_x | refine zO ?_ | refine vZ ?_ | refine gFZ ?_ | (refine zGZ ?_ ?_ <;> (intro _hg; try (exfalso; omega))) | refine cFZ ?_ | fail)) <;> (try clear zz)
   exact ⟨i,h2,h3,hs,fun h=>absurd h (Nat.lt_irrefl _),rfl,rfl,rfl,rfl,rfl,rfl,rfl,rfl⟩
  obtain ⟨m,rfl⟩:∃ m,i=m + 1:=⟨i - 1,by omega⟩
  have tj:((m + 1:Nat):Int) - 1=(m:Int):=by omega
  have lc:=hc.run (M0.getD (m + 1) default) (M0.getD m default) (hGM _ (ah (by omega))) (hGM _ (ah (by omega)))
  have e1:=hc.dat (M0.getD (m + 1) default)
  have e2:=hc.dat (M0.getD m default)
  generalize hKK:K (M0.getD (m + 1) default) (M0.getD m default)=kk at lc
  by_cases hlt:kk < 0
  ·(have zz:=aI @tj (aI @Int.toNat_natCast (aI hc.cells hc.one)); repeat' (first | refine zW ?_ | refine zM ?_ | apply a_n | apply a_x | refine zO ?_ | refine vZ ?_ | refine cZ ?_ (hp:=lc) (hs:=by (first | refine an ?_ rfl | apply aC); (repeat' (first | exact ai | apply aS | apply aE | exact e1 | exact e2 | exact aJ dcap)); first | done | fail) | refine gTZ ?_ | (refine zGZ ?_ ?_ <;> (intro _hg; try (exfalso; omega))) | fail)) <;> (try clear zz)
   exact ⟨m + 1,h2,h3,hs,fun _=>by rw [Nat.add_sub_cancel,hKK]; exact hlt,rfl,rfl,rfl,rfl,rfl,rfl,rfl,rfl⟩
  ·(have zz:=aI @tj (aI @Int.toNat_natCast (aI hc.cells hc.one)); repeat' (first | refine zW ?_ | refine zM ?_ | apply a_n | refine zO ?_ | refine vZ ?_ | refine cZ ?_ (hp:=lc) (hs:=by (first | refine an ?_ rfl | apply aC); (repeat' (first | exact ai | apply aS | apply aE | exact e1 | exact e2 | exact aJ dcap)); first | done | fail) | refine gTZ ?_ | (refine zGZ ?_ ?_ <;> (intro _hg; try (exfalso; omega))) | fail)) <;> (try clear zz)
   exact ⟨m + 1 + 1,by omega,⟨by omega,by omega,rfl,rfl,hs.snoc hc.ord (by omega) (by rw [Nat.add_sub_cancel,hKK]; exact hlt)⟩,ag0⟩
 clear t0 t1 t2 t3 t9 t10 hs0 h2 h3
 rintro T _ _ ⟨i,h2,h3,hs,hless,t0,t1,t2,t3,t9,t10,rfl,rfl⟩
 by_cases hie:i=e
 ·subst hie
  have ten:decide ((i:Int)=(i:Int))=true:=decide_eq_true rfl
  (have zz:=aI @t0 (aI @t1 (aI @t2 (aI @t3 (aI @t9 (aI @t10 @ten))))); repeat' (first | refine zW ?_ | apply a_n | apply a_r | refine zO ?_ | refine vZ ?_ | (refine zGZ ?_ ?_ <;> (intro _hg; try (exfalso; omega))) | refine ae rfl ?_ | refine r1Z ?_ | fail)) <;> (try clear zz)
  exact ⟨rfl,M0,true,rfl,rfl,hp0,fun _=>hs⟩
 replace hless:=hless (by omega)
 have ten:decide ((i:Int)=(e:Int))=false:=decide_eq_false (by omega)
 refine ba (fun T H'' nx''=>T 0=.msl b n 1 0 n∧T 1=.int .i64 a∧T 2=.int .i64 e∧T 3=.func g caps∧T 9=.int .i64 (i:Nat)∧T 10=.int .i64 (jj:Nat)∧H''=ak H b ((M0).map f)∧nx=nx'') ?_ ?_
 ·(have zz:=aI @t0 (aI @t1 (aI @t2 (aI @t3 (aI @t9 (aI @t10 @ten))))); repeat' (first | refine zW ?_ | apply a_n | refine zO ?_ | refine vZ ?_ | refine cFZ ?_ | fail)) <;> (try clear zz)
  exact ⟨(have zz:=@t0; evZ),(have zz:=@t1; evZ),(have zz:=@t2; evZ),(have zz:=@t3; evZ),(have zz:=@t9; evZ),(have zz:=@t10; evZ),rfl,rfl⟩
 clear t0 t1 t2 t3 t9 t10 ten
 rintro T _ _ ⟨t0,t1,t2,t3,t9,t10,rfl,rfl⟩
 refine ba (fun T H'' nx''=>T 0=.msl b n 1 0 n∧T 1=.int .i64 a∧T 2=.int .i64 e∧T 3=.func g caps∧T 9=.int .i64 (i:Nat)∧T 10=.int .i64 (jj:Nat)∧H''=ak H b ((M0).map f)∧nx=nx'') ?_ ?_
 ·(have zz:=aI @t0 (aI @t1 (aI @t2 (aI @t3 (aI @t9 @t10)))); repeat' (first | refine zW ?_ | apply a_n | apply a_r | refine zO ?_ | refine vZ ?_ | (refine zGZ ?_ ?_ <;> (intro _hg; try (exfalso; omega))) | refine ae rfl ?_ | refine r1Z ?_ | fail)) <;> (try clear zz)
  ·exact ⟨rfl,M0,false,rfl,rfl,hp0,fun h=>absurd h (by decide)⟩
  ·exact ⟨(have zz:=@t0; evZ),(have zz:=@t1; evZ),(have zz:=@t2; evZ),(have zz:=@t3; evZ),(have zz:=@t9; evZ),(have zz:=@t10; evZ),rfl,rfl⟩
 clear t0 t1 t2 t3 t9 t10
 rintro T _ _ ⟨t0,t1,t2,t3,t9,t10,rfl,rfl⟩
 obtain ⟨m,rfl⟩:∃ m,i=m + 1:=⟨i - 1,by omega⟩
 have tj:((m + 1:Nat):Int) - 1=(m:Int):=by omega
 rw [Nat.add_sub_cancel] at hless
 obtain ⟨M1,hl1,lm1,lm2⟩:=bW (f:=f) (M:=M0) (i:=m + 1) (j:=m) (by omega) (by omega)
 have lm3:=lm2
 simp only [bF,List.length_cons,List.length_nil,Nat.zero_add] at lm1 lm2
 refine ba (fun T H'' nx''=>T 0=.msl b n 1 0 n∧T 1=.int .i64 a∧T 2=.int .i64 e∧T 3=.func g caps∧T 9=.int .i64 (m + 1:Nat)∧T 10=.int .i64 (jj:Nat)∧H''=ak H b ((swp M0 (m + 1) m).map f)∧nx=nx'') ?_ ?_
 ·(have zz:=aI @t0 (aI @t1 (aI @t2 (aI @t3 (aI @t9 (aI @t10 (aI @Int.toNat_natCast (aI hc.cells (aI hc.one (aI @tj (aI @lm1 @lm2)))))))))); repeat' (first | apply a_n | refine zO ?_ | refine vZ ?_ | refine stZ ?_ | fail)) <;> (try clear zz)
  exact ⟨(have zz:=@t0; evZ),(have zz:=@t1; evZ),(have zz:=@t2; evZ),(have zz:=@t3; evZ),(have zz:=@t9; evZ),(have zz:=@t10; evZ),by rw [aG,aG,lm3],rfl⟩
 clear t0 t1 t2 t3 t9 t10
 have hp1:PermR a e L (swp M0 (m + 1) m):=hp0.trans (PermR.swap (by omega) (by omega) (by omega))
 have hal:=(d6.start hs).step hc.ord (by omega) (Nat.le_refl _) (by omega) hless
 clear hs hless lm1 lm2 lm3 hl1 M1
 generalize swp M0 (m + 1) m=M2 at hp1 hal
 clear hp0 hGM hl
 rintro T _ _ ⟨t0,t1,t2,t3,t9,t10,rfl,rfl⟩
 refine ba (fun T H'' nx''=>∃ M:List α,PermR a e L M∧aW K a (m + 1) M∧T 0=.msl b n 1 0 n∧T 1=.int .i64 a∧T 2=.int .i64 e∧T 3=.func g caps∧T 9=.int .i64 (m + 1:Nat)∧T 10=.int .i64 (jj:Nat)∧H''=ak H b ((M).map f)∧nx=nx'') ?_ ?_
 ·by_cases h2a:m=a
  ·subst h2a
   have td:decide ((2:Int) ≤ ((m + 1:Nat):Int) - (m:Int))=false:=decide_eq_false (by omega)
   (have zz:=aI @t0 (aI @t1 (aI @t2 (aI @t3 (aI @t9 (aI @t10 @td))))); repeat' (first | refine zW ?_ | apply a_n | refine zO ?_ | refine vZ ?_ | refine cFZ ?_ | fail)) <;> (try clear zz)
   exact ⟨M2,hp1,(hal.done hc.ord (.inl rfl)).mono (Nat.le_refl _) (by omega),(have zz:=@t0; evZ),(have zz:=@t1; evZ),(have zz:=@t2; evZ),(have zz:=@t3; evZ),(have zz:=@t9; evZ),(have zz:=@t10; evZ),rfl,rfl⟩
  have td:decide ((2:Int) ≤ ((m + 1:Nat):Int) - (a:Int))=true:=decide_eq_true (by omega)
  (have zz:=aI @t0 (aI @t1 (aI @t2 (aI @t3 (aI @t9 (aI @t10 (aI @td @tj)))))); repeat' (first | refine zW ?_ | apply a_n | refine zO ?_ | refine vZ ?_ | refine cTZ ?_ | fail)) <;> (try clear zz)
  refine br (X:=Nat × List α) (fun x=>[(0,.msl b n 1 0 n),(1,.int .i64 a),(2,.int .i64 e),(3,.func g caps),(9,.int .i64 (m + 1:Nat)),(10,.int .i64 (jj:Nat)),(11,.int .i64 (x.1:Nat))]) (fun x H' nxx=>a ≤ x.1∧x.1 ≤ m∧H'=ak H b (x.2.map f)∧nx=nxx∧PermR a e L x.2∧d6 K a (m + 1) x.1 x.2) (fun x=>x.1) (m,M2) ⟨by dsimp only; omega,Nat.le_refl _,rfl,rfl,hp1,hal⟩ (have zz:=aI @t0 (aI @t1 (aI @t2 (aI @t3 (aI @t9 @t10)))); agZ) ?_
  clear t0 t1 t2 t3 t9 t10 hp1 hal M2
  rintro ⟨j,M⟩ H' nxx ⟨a1,a2,rfl,rfl,hp,hal⟩
  dsimp only at *
  have hl:M.length=n:=by rw [hp.len,hn]
  have hGM:=hp.mem hG
  rcases Nat.eq_zero_or_pos j with ej | ej
  ·subst ej
   (have zz:=and_self; repeat' (first | refine zW ?_ | apply a_n | apply a_x | refine zO ?_ | refine vZ ?_ | (refine zGZ ?_ ?_ <;> (intro _hg; try (exfalso; omega))) | fail)) <;> (try clear zz)
   exact ⟨M,hp,(hal.done hc.ord (.inl (by omega))).mono (Nat.le_refl _) (by omega),rfl,rfl,rfl,rfl,rfl,rfl,rfl,rfl⟩
  obtain ⟨k,rfl⟩:∃ k,j=k + 1:=⟨j - 1,by omega⟩
  have tk:((k + 1:Nat):Int) - 1=(k:Int):=by omega
  have lc:=hc.run (M.getD (k + 1) default) (M.getD k default) (hGM _ (ah (by omega))) (hGM _ (ah (by omega)))
  have e1:=hc.dat (M.getD (k + 1) default)
  have e2:=hc.dat (M.getD k default)
  have hlw:=hlow.perm hp (by omega) (by omega)
  generalize hKK:K (M.getD (k + 1) default) (M.getD k default)=kk at lc
  by_cases hlt:kk < 0
  ·have hak:k + 1 ≠ a:=fun h=>by
     subst h
     have:=hlw (k + 1) (by omega) (Nat.le_refl _) (by omega)
     rw [Nat.add_sub_cancel,hKK] at this
     exact this hlt
   obtain ⟨M1,hl1,lm1,lm2⟩:=bW (f:=f) (M:=M) (i:=k + 1) (j:=k) (by omega) (by omega)
   have lm3:=lm2
   simp only [bF,List.length_cons,List.length_nil,Nat.zero_add] at lm1 lm2
   (have zz:=aI @tk (aI @Int.toNat_natCast (aI hc.cells (aI hc.one (aI @lm1 @lm2)))); repeat' (first | refine zW ?_ | refine zM ?_ | apply a_n | refine zO ?_ | refine vZ ?_ | refine cZ ?_ (hp:=lc) (hs:=by (first | refine an ?_ rfl | apply aC); (repeat' (first | exact ai | apply aS | apply aE | exact e1 | exact e2 | exact aJ dcap)); first | done | fail) | refine stZ ?_ | (refine zGZ ?_ ?_ <;> (intro _hg; try (exfalso; omega))) | fail)) <;> (try clear zz)
   exact ⟨(k,swp M (k + 1) k),by dsimp only; omega,⟨by dsimp only; omega,by dsimp only; omega,by dsimp only; rw [aG,aG,lm3],rfl,hp.trans (PermR.swap (by omega) (by omega) (by omega)),hal.step hc.ord (by omega) (by omega) (by omega) (by rw [hKK]; exact hlt)⟩,(have zz:=@tk; agZ)⟩
  ·have hd:k + 1=a ∨ (a < k + 1∧¬ K (M.getD (k + 1) default) (M.getD (k + 1 - 1) default) < 0):=by
     by_cases h:k + 1=a
     ·exact .inl h
     ·exact .inr ⟨by omega,by rw [Nat.add_sub_cancel,hKK]; exact hlt⟩
   (have zz:=aI @tk (aI @Int.toNat_natCast (aI hc.cells hc.one)); repeat' (first | refine zW ?_ | refine zM ?_ | apply a_n | apply a_x | refine zO ?_ | refine vZ ?_ | refine cZ ?_ (hp:=lc) (hs:=by (first | refine an ?_ rfl | apply aC); (repeat' (first | exact ai | apply aS | apply aE | exact e1 | exact e2 | exact aJ dcap)); first | done | fail) | (refine zGZ ?_ ?_ <;> (intro _hg; try (exfalso; omega))) | fail)) <;> (try clear zz)
   exact ⟨M,hp,(hal.done hc.ord hd).mono (Nat.le_refl _) (by omega),rfl,rfl,rfl,rfl,rfl,rfl,rfl,rfl⟩
 clear t0 t1 t2 t3 t9 t10 hp1 hal M2
 rintro T _ _ ⟨M2,hp1,hs,t0,t1,t2,t3,t9,t10,rfl,rfl⟩
 by_cases h2a:m + 1 + 2 ≤ e
 rotate_left
 ·have td:decide ((2:Int) ≤ (e:Int) - ((m + 1:Nat):Int))=false:=decide_eq_false (by omega)
  (have zz:=aI @t0 (aI @t1 (aI @t2 (aI @t3 (aI @t9 (aI @t10 @td))))); repeat' (first | refine zW ?_ | apply a_n | refine zO ?_ | refine vZ ?_ | refine cFZ ?_ | fail)) <;> (try clear zz)
  exact ⟨m + 1,M2,h2,h3,hp1,hs,(have zz:=@t0; evZ),(have zz:=@t1; evZ),(have zz:=@t2; evZ),(have zz:=@t3; evZ),(have zz:=@t9; evZ),(have zz:=@t10; evZ),rfl,rfl⟩
 have td:decide ((2:Int) ≤ (e:Int) - ((m + 1:Nat):Int))=true:=decide_eq_true (by omega)
 have tj2:((m + 1:Nat):Int) + 1=((m + 1 + 1:Nat):Int):=by omega
 (have zz:=aI @t0 (aI @t1 (aI @t2 (aI @t3 (aI @t9 (aI @t10 (aI @td @tj2)))))); repeat' (first | refine zW ?_ | apply a_n | refine zO ?_ | refine vZ ?_ | refine cTZ ?_ | fail)) <;> (try clear zz)
 refine br (X:=Nat × List α) (fun x=>[(0,.msl b n 1 0 n),(1,.int .i64 a),(2,.int .i64 e),(3,.func g caps),(9,.int .i64 (m + 1:Nat)),(10,.int .i64 (jj:Nat)),(12,.int .i64 (x.1:Nat))]) (fun x H' nxx=>m + 1 + 1 ≤ x.1∧x.1 ≤ e∧H'=ak H b (x.2.map f)∧nx=nxx∧PermR a e L x.2∧aW K a (m + 1) x.2) (fun x=>e - x.1) (m + 1 + 1,M2) ⟨Nat.le_refl _,by dsimp only; omega,rfl,rfl,hp1,hs⟩ (have zz:=aI @t0 (aI @t1 (aI @t2 (aI @t3 (aI @t9 @t10)))); agZ) ?_
 clear t0 t1 t2 t3 t9 t10 hp1 hs M2
 rintro ⟨j,M⟩ H' nxx ⟨a1,a2,rfl,rfl,hp,hs⟩
 dsimp only at *
 have hl:M.length=n:=by rw [hp.len,hn]
 have hGM:=hp.mem hG
 by_cases hje:j=e
 ·subst hje
  (have zz:=and_self; repeat' (first | refine zW ?_ | apply a_n | apply a_x | refine zO ?_ | refine vZ ?_ | (refine zGZ ?_ ?_ <;> (intro _hg; try (exfalso; omega))) | fail)) <;> (try clear zz)
  exact ⟨m + 1,M,h2,h3,hp,hs,rfl,rfl,rfl,rfl,rfl,rfl,rfl,rfl⟩
 obtain ⟨k,rfl⟩:∃ k,j=k + 1:=⟨j - 1,by omega⟩
 have tk:((k + 1:Nat):Int) - 1=(k:Int):=by omega
 have lc:=hc.run (M.getD (k + 1) default) (M.getD k default) (hGM _ (ah (by omega))) (hGM _ (ah (by omega)))
 have e1:=hc.dat (M.getD (k + 1) default)
 have e2:=hc.dat (M.getD k default)
 generalize hKK:K (M.getD (k + 1) default) (M.getD k default)=kk at lc
 by_cases hlt:kk < 0
 ·obtain ⟨M1,hl1,lm1,lm2⟩:=bW (f:=f) (M:=M) (i:=k + 1) (j:=k) (by omega) (by omega)
  have lm3:=lm2
  simp only [bF,List.length_cons,List.length_nil,Nat.zero_add] at lm1 lm2
  (have zz:=aI @tk (aI @Int.toNat_natCast (aI hc.cells (aI hc.one (aI @lm1 @lm2)))); repeat' (first | refine zW ?_ | refine zM ?_ | apply a_n | refine zO ?_ | refine vZ ?_ | refine cZ ?_ (hp:=lc) (hs:=by (first | refine an ?_ rfl | apply aC); (repeat' (first | exact ai | apply aS | apply aE | exact e1 | exact e2 | exact aJ dcap)); first | done | fail) | refine stZ ?_ | (refine zGZ ?_ ?_ <;> (intro _hg; try (exfalso; omega))) | fail)) <;> (try clear zz)
  exact ⟨(k + 1 + 1,swp M (k + 1) k),by dsimp only; omega,⟨by dsimp only; omega,by dsimp only; omega,by dsimp only; rw [aG,aG,lm3],rfl,hp.trans (PermR.swap (by omega) (by omega) (by omega)),hs.out (e:=e) (PermR.swap (by omega) (by omega) (by omega))⟩,ag0⟩
 ·(have zz:=aI @tk (aI @Int.toNat_natCast (aI hc.cells hc.one)); repeat' (first | refine zW ?_ | refine zM ?_ | apply a_n | apply a_x | refine zO ?_ | refine vZ ?_ | refine cZ ?_ (hp:=lc) (hs:=by (first | refine an ?_ rfl | apply aC); (repeat' (first | exact ai | apply aS | apply aE | exact e1 | exact e2 | exact aJ dcap)); first | done | fail) | (refine zGZ ?_ ?_ <;> (intro _hg; try (exfalso; omega))) | fail)) <;> (try clear zz)
  exact ⟨m + 1,M,h2,h3,hp,hs,rfl,rfl,rfl,rfl,rfl,rfl,rfl,rfl⟩
end
end Go.Proofs.YtjgpfclngkcedaaGreat
namespace Go.Proofs.YtjgpfclngkcedaaGreat
open Go Go.Abs
structure PartR {α:Type} [Inhabited α] (P:α→Prop) (a e mu i j:Nat) (M:List α):Prop where
 lo:a + 1 ≤ i
 mid:i ≤ j + 1
 hi:j < e
 mu:j + 1 - i ≤ mu
 up:∀ p,a + 1 ≤ p→p < i→P (M.getD p default)
 dn:∀ q,j < q→q < e→¬ P (M.getD q default)
section
variable {α:Type} [Inhabited α] {f:α→AV} {K:α→α→Int} {G:α→Prop} {g:Nat} {caps:List AV}
theorem PartR.start {P:α→Prop} {a m:Nat} {M:List α} (h:a ≤ m):PartR P a (m + 1) (m + 1 - (a + 1)) (a + 1) m M:=⟨Nat.le_refl _,by omega,by omega,Nat.le_refl _,fun p h1 h2=>by omega,fun q h1 h2=>by omega⟩
theorem PartR.stepUp {P:α→Prop} {a e mu i j:Nat} {M:List α} (h:PartR P a e mu i j M) (hij:i ≤ j) (hp:P (M.getD i default)):PartR P a e mu (i + 1) j M :=
 ⟨by have:=h.lo; omega,by omega,h.hi,by have:=h.mu; omega,fun p h1 h2=>by
  by_cases e:p=i
  ·rw [e]; exact hp
  ·exact h.up p h1 (by omega),h.dn⟩
theorem PartR.stepDn {P:α→Prop} {a e mu i k:Nat} {M:List α} (h:PartR P a e mu i (k + 1) M) (hij:i ≤ k + 1) (hp:¬ P (M.getD (k + 1) default)):PartR P a e mu i k M :=
 ⟨h.lo,hij,by have:=h.hi; omega,by have:=h.mu; omega,h.up,fun q h1 h2=>by
  by_cases e:q=k + 1
  ·rw [e]; exact hp
  ·exact h.dn q (by omega) h2⟩
theorem PartR.swap {P:α→Prop} {a e mu i k:Nat} {M:List α} (h:PartR P a e mu i (k + 1) M) (hM:e ≤ M.length) (hij:i ≤ k + 1) (hi:¬ P (M.getD i default)) (hj:P (M.getD (k + 1) default)):PartR P a e (k + 1 - (i + 1)) (i + 1) k (swp M i (k + 1))∧k + 1 - (i + 1) < mu:=by
 have hne:i ≠ k + 1:=fun e=>hi (by rw [e]; exact hj)
 have hh:=h.hi
 have hlo:=h.lo
 have hmu:=h.mu
 refine ⟨⟨by omega,by omega,by omega,Nat.le_refl _,fun p h1 h2=>?_,fun q h1 h2=>?_⟩,by omega⟩
 ·rw [cJ (by omega) (by omega),if_neg (by omega)]
  by_cases e:p=i
  ·rw [if_pos e]; exact hj
  ·rw [if_neg e]; exact h.up p h1 (by omega)
 ·rw [cJ (by omega) (by omega)]
  by_cases e:q=k + 1
  ·rw [if_pos e]; exact hi
  ·rw [if_neg e,if_neg (by omega)]; exact h.dn q (by omega) h2
theorem my {M:List α} {i j k:Nat} (hi:i < M.length) (hj:j < M.length) (h1:k ≠ i) (h2:k ≠ j):(swp M i j).getD k default=M.getD k default:=by
 rw [cJ hi hj,if_neg h2,if_neg h1]
attribute [local irreducible] aw ac aP aK ay aA am aB aM aX Go.Abs.Fn aH Go.Abs.Pure ag ax Yl
theorem PartR.done {P:α→Prop} {a e mu i j:Nat} {M:List α} {v:α} (hK:Ord K) (h:PartR P a e mu i j M) (hM:e ≤ M.length) (hji:j < i) (hv:M.getD a default=v) (hP:∀ x,P x ↔ K x v < 0):a ≤ j∧j < e∧(∀ p,a ≤ p→p < j→K ((swp M j a).getD p default) ((swp M j a).getD j default) < 0)∧(∀ q,j < q→q < e→¬ K ((swp M j a).getD q default) ((swp M j a).getD j default) < 0):=by
 have hlo:=h.lo; have hmid:=h.mid; have hhi:=h.hi
 have ej:(swp M j a).getD j default=v:=by
  rw [cJ (by omega) (by omega)]
  split
  ·rename_i e; rw [e,hv]
  ·rw [if_pos rfl,hv]
 rw [ej]
 refine ⟨by omega,by omega,fun p h1 h2=>?_,fun q h1 h2=>?_⟩
 ·rw [cJ (by omega) (by omega)]
  by_cases e:p=a
  ·rw [if_pos e]; exact (hP _).1 (h.up j (by omega) hji)
  ·rw [if_neg e,if_neg (by omega)]; exact (hP _).1 (h.up p (by omega) (by omega))
 ·rw [cJ (by omega) (by omega),if_neg (by omega),if_neg (by omega),← hP]; exact h.dn q h1 h2
theorem wj (hc:Cmp Tryz.prog f K G g caps) {L:List α} {H:Hp} {b nx n a e pv:Nat} (hH:H b=some (L.map f)) (hn:L.length=n) (hG:∀ x ∈ L,G x) (hae:a < e) (hen:e ≤ n) (hn2:n ≤ 1000000000) (hpv:a ≤ pv∧pv < e) :
    Abs.Fn Tryz.prog 155 [.msl b n 1 0 n,.int .i64 a,.int .i64 e,.int .i64 pv,.func g caps] H nx fun r H' nx'=>nx'=nx∧∃ (L':List α) (m:Nat),r=.int .i64 m∧a < m∧m ≤ e∧H'=ak H b (L'.map f)∧PermR a e L L'∧(∀ p,a ≤ p→p < m→¬ K (L.getD pv default) (L'.getD p default) < 0)∧(∀ q,m ≤ q→q < e→K (L.getD pv default) (L'.getD q default) < 0):=by
 have dcap:=hc.dcaps
 obtain ⟨v,hv0⟩:∃ v,L.getD pv default=v:=⟨_,rfl⟩
 rw [hv0]
 obtain ⟨P,hP⟩:∃ P:α→Prop,∀ x,P x ↔ ¬ K v x < 0:=⟨_,fun _=>Iff.rfl⟩
 obtain ⟨N,hN⟩:∃ N,swp L a pv=N:=⟨_,rfl⟩
 have hp1:PermR a e L N:=hN ▸ PermR.swap (by omega) (by omega) (by omega)
 have hv1:N.getD a default=v:=by
  rw [← hN,cJ (by omega) (by omega),← hv0]
  split
  ·rename_i h; rw [h]
  ·rw [if_pos rfl]
 obtain ⟨M1,hl1,lm1,lm2⟩:=bW (f:=f) (M:=L) (i:=a) (j:=pv) (by omega) (by omega)
 rw [hN] at lm2
 have lm3:=lm2
 simp only [bF,List.length_cons,List.length_nil,Nat.zero_add] at lm1 lm2
 obtain ⟨m,hm⟩:∃ m,e=m + 1:=⟨e - 1,by omega⟩
 have te:(e:Int) - 1=(m:Int):=by omega
 have ta:((a:Nat):Int) + 1=((a + 1:Nat):Int):=by omega
 refine Abs.Fn.of_c2 follows xA (Nat.le_of_ble_eq_true rfl) ?_
 simp only [yS,cO,cG,cN,cM,cD,cF,cB,aq,aL]
 (have zz:=aI @hH (aI @te (aI @ta (aI @Int.toNat_natCast (aI hc.cells (aI hc.one (aI @lm1 @lm2)))))); repeat' (first | refine zW ?_ | apply a_n | refine zO ?_ | refine vZ ?_ | refine stZ ?_ | fail)) <;> (try clear zz)
 refine br (X:=Nat × Nat × List α) (fun x=>[(0,.msl b n 1 0 n),(1,.int .i64 a),(4,.func g caps),(11,.int .i64 (x.1:Nat)),(12,.int .i64 (x.2.1:Nat))]) (fun x H' nxx=>PartR P a e (x.2.1 + 1 - x.1) x.1 x.2.1 x.2.2∧H'=ak H b (x.2.2.map f)∧nx=nxx∧PermR a e L x.2.2∧x.2.2.getD a default=v) (fun x=>x.2.1 + 1 - x.1) (a + 1,m,N) ⟨by dsimp only; rw [hm]; exact .start (by omega),by dsimp only; rw [aG,lm3],rfl,hp1,hv1⟩ ag0 ?_
 clear lm1 lm2 lm3 hl1 M1 hp1 hv1 hN N te ta hm m
 rintro ⟨i,j,M⟩ H' nxx ⟨hpt,rfl,rfl,hp,hv⟩
 dsimp only at *
 have hl:M.length=n:=by rw [hp.len,hn]
 have hGM:=hp.mem hG
 generalize hmu:j + 1 - i=mu at hpt ⊢
 clear hmu
 obtain ⟨T,hT,t0,t1,t4,t11,t12⟩:∃ T,tl [(0,.msl b n 1 0 n),(1,.int .i64 a),(4,.func g caps),(11,.int .i64 (i:Nat)),(12,.int .i64 (j:Nat))]=T∧T 0=.msl b n 1 0 n∧T 1=.int .i64 a∧T 4=.func g caps∧T 11=.int .i64 (i:Nat)∧T 12=.int .i64 (j:Nat):=⟨_,rfl,rfl,rfl,rfl,rfl,rfl⟩
 rw [hT]
 clear hT
 refine eK ?_
 refine ba (fun T H'' nx''=>∃ i:Nat,PartR P a e mu i j M∧(i ≤ j→¬ P (M.getD i default))∧T 0=.msl b n 1 0 n∧T 1=.int .i64 a∧T 4=.func g caps∧T 11=.int .i64 (i:Nat)∧T 12=.int .i64 (j:Nat)∧H''=ak H b ((M).map f)∧nx=nx'') ?_ ?_
 ·(have zz:=aI @t0 (aI @t1 (aI @t4 (aI @t11 @t12))); repeat' (first | refine zW ?_ | apply a_n | refine zO ?_ | fail)) <;> (try clear zz)
  refine br (X:=Nat) (fun i=>[(0,.msl b n 1 0 n),(1,.int .i64 a),(4,.func g caps),(11,.int .i64 (i:Nat)),(12,.int .i64 (j:Nat))]) (fun i H' nxx=>PartR P a e mu i j M∧H'=ak H b (M.map f)∧nx=nxx) (fun i=>j + 1 - i) i ⟨hpt,rfl,rfl⟩ (have zz:=aI @t0 (aI @t1 (aI @t4 (aI @t11 @t12))); agZ) ?_
  clear t0 t1 t4 t11 t12 hpt i
  rintro i H' nxx ⟨hpt,rfl,rfl⟩
  have hlo:=hpt.lo; have hmid:=hpt.mid; have hhi:=hpt.hi
  have ii:((i:Nat):Int) + 1=((i + 1:Nat):Int):=by omega
  by_cases hij:j < i
  ·(have zz:=and_self; repeat' (first | refine zW ?_ | refine zM ?_ | apply a_n | apply a_x | refine zO ?_ | refine vZ ?_ | refine gFZ ?_ | (refine zGZ ?_ ?_ <;> (intro _hg; try (exfalso; omega))) | refine cFZ ?_ | fail)) <;> (try clear zz)
   exact ⟨i,hpt,fun h=>absurd h (by omega),rfl,rfl,rfl,rfl,rfl,rfl,rfl⟩
  have lc:=hc.run (M.getD (a) default) (M.getD (i) default) (hGM _ (ah (by omega))) (hGM _ (ah (by omega)))
  have e1:=hc.dat (M.getD (a) default)
  have e2:=hc.dat (M.getD (i) default)
  have hPk:P (M.getD (i) default) ↔ ¬ K (M.getD (a) default) (M.getD (i) default) < 0:=by rw [hP,hv]
  generalize hKK:K (M.getD (a) default) (M.getD (i) default)=kk at lc hPk
  by_cases hlt:kk < 0
  ·(have zz:=aI @ii (aI @Int.toNat_natCast (aI hc.cells hc.one)); repeat' (first | refine zW ?_ | refine zM ?_ | apply a_n | apply a_x | refine zO ?_ | refine vZ ?_ | refine cZ ?_ (hp:=lc) (hs:=by (first | refine an ?_ rfl | apply aC); (repeat' (first | exact ai | apply aS | apply aE | exact e1 | exact e2 | exact aJ dcap)); first | done | fail) | refine gTZ ?_ | (refine zGZ ?_ ?_ <;> (intro _hg; try (exfalso; omega))) | fail)) <;> (try clear zz)
   exact ⟨i,hpt,fun _=>(by rw [hPk]; first | exact hlt | exact fun h=>h hlt),rfl,rfl,rfl,rfl,rfl,rfl,rfl⟩
  ·(have zz:=aI @ii (aI @Int.toNat_natCast (aI hc.cells hc.one)); repeat' (first | refine zW ?_ | refine zM ?_ | apply a_n | refine zO ?_ | refine vZ ?_ | refine cZ ?_ (hp:=lc) (hs:=by (first | refine an ?_ rfl | apply aC); (repeat' (first | exact ai | apply aS | apply aE | exact e1 | exact e2 | exact aJ dcap)); first | done | fail) | refine gTZ ?_ | (refine zGZ ?_ ?_ <;> (intro _hg; try (exfalso; omega))) | fail)) <;> (try clear zz)
   exact ⟨i + 1,by omega,⟨hpt.stepUp (by omega) (by rw [hPk]; exact hlt),rfl,rfl⟩,ag0⟩
 clear t0 t1 t4 t11 t12 hpt i
 rintro T _ _ ⟨i,hpt,hni,t0,t1,t4,t11,t12,rfl,rfl⟩
 refine ba (fun T H'' nx''=>∃ j:Nat,PartR P a e mu i j M∧(i ≤ j→¬ P (M.getD i default))∧(i ≤ j→P (M.getD j default))∧T 0=.msl b n 1 0 n∧T 1=.int .i64 a∧T 4=.func g caps∧T 11=.int .i64 (i:Nat)∧T 12=.int .i64 (j:Nat)∧H''=ak H b ((M).map f)∧nx=nx'') ?_ ?_
 ·(have zz:=aI @t0 (aI @t1 (aI @t4 (aI @t11 @t12))); repeat' (first | refine zW ?_ | apply a_n | refine zO ?_ | fail)) <;> (try clear zz)
  refine br (X:=Nat) (fun j=>[(0,.msl b n 1 0 n),(1,.int .i64 a),(4,.func g caps),(11,.int .i64 (i:Nat)),(12,.int .i64 (j:Nat))]) (fun j H' nxx=>PartR P a e mu i j M∧(i ≤ j→¬ P (M.getD i default))∧H'=ak H b (M.map f)∧nx=nxx) (fun j=>j) j ⟨hpt,hni,rfl,rfl⟩ (have zz:=aI @t0 (aI @t1 (aI @t4 (aI @t11 @t12))); agZ) ?_
  clear t0 t1 t4 t11 t12 hpt hni j
  rintro j H' nxx ⟨hpt,hni,rfl,rfl⟩
  have hlo:=hpt.lo; have hmid:=hpt.mid; have hhi:=hpt.hi
  by_cases hij:j < i
  ·(have zz:=and_self; repeat' (first | refine zW ?_ | refine zM ?_ | apply a_n | apply a_x | refine zO ?_ | refine vZ ?_ | refine gFZ ?_ | (refine zGZ ?_ ?_ <;> (intro _hg; try (exfalso; omega))) | refine cFZ ?_ | fail)) <;> (try clear zz)
   exact ⟨j,hpt,hni,fun h=>absurd h (by omega),rfl,rfl,rfl,rfl,rfl,rfl,rfl⟩
  obtain ⟨k,rfl⟩:∃ k,j=k + 1:=⟨j - 1,by omega⟩
  have tk:((k + 1:Nat):Int) - 1=(k:Int):=by omega
  have lc:=hc.run (M.getD (a) default) (M.getD (k + 1) default) (hGM _ (ah (by omega))) (hGM _ (ah (by omega)))
  have e1:=hc.dat (M.getD (a) default)
  have e2:=hc.dat (M.getD (k + 1) default)
  have hPk:P (M.getD (k + 1) default) ↔ ¬ K (M.getD (a) default) (M.getD (k + 1) default) < 0:=by rw [hP,hv]
  generalize hKK:K (M.getD (a) default) (M.getD (k + 1) default)=kk at lc hPk
  by_cases hlt:kk < 0
  ·(have zz:=aI @tk (aI @Int.toNat_natCast (aI hc.cells hc.one)); repeat' (first | refine zW ?_ | refine zM ?_ | apply a_n | refine zO ?_ | refine vZ ?_ | refine cZ ?_ (hp:=lc) (hs:=by (first | refine an ?_ rfl | apply aC); (repeat' (first | exact ai | apply aS | apply aE | exact e1 | exact e2 | exact aJ dcap)); first | done | fail) | refine gTZ ?_ | (refine zGZ ?_ ?_ <;> (intro _hg; try (exfalso; omega))) | fail)) <;> (try clear zz)
   exact ⟨k,by omega,⟨hpt.stepDn (by omega) (by rw [hPk]; first | exact hlt | exact fun h=>h hlt),fun _=>hni (by omega),rfl,rfl⟩,ag0⟩
  ·(have zz:=aI @tk (aI @Int.toNat_natCast (aI hc.cells hc.one)); repeat' (first | refine zW ?_ | refine zM ?_ | apply a_n | apply a_x | refine zO ?_ | refine vZ ?_ | refine cZ ?_ (hp:=lc) (hs:=by (first | refine an ?_ rfl | apply aC); (repeat' (first | exact ai | apply aS | apply aE | exact e1 | exact e2 | exact aJ dcap)); first | done | fail) | refine gTZ ?_ | (refine zGZ ?_ ?_ <;> (intro _hg; try (exfalso; omega))) | fail)) <;> (try clear zz)
   exact ⟨k + 1,hpt,hni,fun _=>(by rw [hPk]; exact hlt),rfl,rfl,rfl,rfl,rfl,rfl,rfl⟩
 clear t0 t1 t4 t11 t12 hpt hni j
 rintro T _ _ ⟨j,hpt,hni,hnj,t0,t1,t4,t11,t12,rfl,rfl⟩
 have hlo:=hpt.lo; have hmid:=hpt.mid; have hhi:=hpt.hi
 by_cases hji:j < i
 ·(have zz:=aI @t0 (aI @t1 (aI @t4 (aI @t11 @t12))); repeat' (first | refine zW ?_ | apply a_n | apply a_x | refine zO ?_ | refine vZ ?_ | (refine zGZ ?_ ?_ <;> (intro _hg; try (exfalso; omega))) | refine ae rfl ?_ | refine r1Z ?_ | fail)) <;> (try clear zz)
  refine ⟨rfl,M,i,rfl,by omega,by omega,rfl,hp,fun p h1 h2=>?_,fun q h1 h2=>by have:=hpt.dn q (by omega) h2; rw [hP] at this; exact Decidable.of_not_not this⟩
  by_cases ep:p=a
  ·rw [ep,hv]; exact hc.ord.irr _
  ·exact (hP _).1 (hpt.up p (by omega) h2)
 obtain ⟨k,rfl⟩:∃ k,j=k + 1:=⟨j - 1,by omega⟩
 have tk:((k + 1:Nat):Int) - 1=(k:Int):=by omega
 have ii:((i:Nat):Int) + 1=((i + 1:Nat):Int):=by omega
 obtain ⟨M1,hl1,lm1,lm2⟩:=bW (f:=f) (M:=M) (i:=i) (j:=k + 1) (by omega) (by omega)
 have lm3:=lm2
 simp only [bF,List.length_cons,List.length_nil,Nat.zero_add] at lm1 lm2
 (have zz:=aI @t0 (aI @t1 (aI @t4 (aI @t11 (aI @t12 (aI @tk (aI @ii (aI @Int.toNat_natCast (aI hc.cells (aI hc.one (aI @lm1 @lm2)))))))))); repeat' (first | refine zW ?_ | apply a_n | refine zO ?_ | refine vZ ?_ | refine stZ ?_ | (refine zGZ ?_ ?_ <;> (intro _hg; try (exfalso; omega))) | fail)) <;> (try clear zz)
 obtain ⟨hq1,hq2⟩:=hpt.swap (by omega) (by omega) (hni (by omega)) (hnj (by omega))
 exact ⟨(i + 1,k,swp M i (k + 1)),hq2,⟨hq1,by dsimp only; rw [aG,aG,lm3],rfl,hp.trans (PermR.swap (by omega) (by omega) (by omega)),by dsimp only; rw [my (by omega) (by omega) (by omega) (by omega)]; exact hv⟩,(have zz:=aI @t0 (aI @t1 (aI @t4 (aI @t11 @t12))); agZ)⟩
theorem yH (hc:Cmp Tryz.prog f K G g caps) {L:List α} {H:Hp} {b nx n a e pv:Nat} (hH:H b=some (L.map f)) (hn:L.length=n) (hG:∀ x ∈ L,G x) (hae:a < e) (hen:e ≤ n) (hn2:n ≤ 1000000000) (hpv:a ≤ pv∧pv < e) :
    Abs.Fn Tryz.prog 156 [.msl b n 1 0 n,.int .i64 a,.int .i64 e,.int .i64 pv,.func g caps] H nx fun r H' nx'=>nx'=nx∧∃ (L':List α) (m:Nat) (t:Bool),r=.tup [.int .i64 m,.bool t]∧a ≤ m∧m < e∧H'=ak H b (L'.map f)∧PermR a e L L'∧(∀ p,a ≤ p→p < m→K (L'.getD p default) (L'.getD m default) < 0)∧(∀ q,m < q→q < e→¬ K (L'.getD q default) (L'.getD m default) < 0):=by
 have dcap:=hc.dcaps
 obtain ⟨v,hv0⟩:∃ v,L.getD pv default=v:=⟨_,rfl⟩
 obtain ⟨P,hP⟩:∃ P:α→Prop,∀ x,P x ↔ K x v < 0:=⟨_,fun _=>Iff.rfl⟩
 obtain ⟨M,hN⟩:∃ N,swp L a pv=N:=⟨_,rfl⟩
 have hp:PermR a e L M:=hN ▸ PermR.swap (by omega) (by omega) (by omega)
 have hv:M.getD a default=v:=by
  rw [← hN,cJ (by omega) (by omega),← hv0]
  split
  ·rename_i h; rw [h]
  ·rw [if_pos rfl]
 obtain ⟨M1,hl1,lm1,lm2⟩:=bW (f:=f) (M:=L) (i:=a) (j:=pv) (by omega) (by omega)
 rw [hN] at lm2
 have lm3:=lm2
 simp only [bF,List.length_cons,List.length_nil,Nat.zero_add] at lm1 lm2
 obtain ⟨m,hm⟩:∃ m,e=m + 1:=⟨e - 1,by omega⟩
 have te:(e:Int) - 1=(m:Int):=by omega
 have ta:((a:Nat):Int) + 1=((a + 1:Nat):Int):=by omega
 refine Abs.Fn.of_c2 follows xX (Nat.le_of_ble_eq_true rfl) ?_
 simp only [ym,cO,cG,cN,cM,cD,cF,cB,aq,aL]
 refine ba (fun T H'' nx''=>T 0=.msl b n 1 0 n∧T 1=.int .i64 a∧T 2=.int .i64 e∧T 3=.int .i64 pv∧T 4=.func g caps∧H=H''∧nx=nx'') ?_ ?_
 ·(have zz:=and_self; repeat' (first | apply a_n | refine zO ?_ | refine vZ ?_ | fail)) <;> (try clear zz)
  exact ⟨rfl,rfl,rfl,rfl,rfl,rfl,rfl⟩
 rintro T _ _ ⟨t0,t1,t2,t3,t4,rfl,rfl⟩
 refine ba (fun T H'' nx''=>T 0=.msl b n 1 0 n∧T 1=.int .i64 a∧T 2=.int .i64 e∧T 3=.int .i64 pv∧T 4=.func g caps∧H''=ak H b (M.map f)∧nx=nx'') ?_ ?_
 ·(have zz:=aI @t0 (aI @t1 (aI @t2 (aI @t3 (aI @t4 (aI @hH (aI @Int.toNat_natCast (aI hc.cells (aI hc.one (aI @lm1 @lm2))))))))); repeat' (first | apply a_n | refine zO ?_ | refine vZ ?_ | refine stZ ?_ | fail)) <;> (try clear zz)
  exact ⟨(have zz:=@t0; evZ),(have zz:=@t1; evZ),(have zz:=@t2; evZ),(have zz:=@t3; evZ),(have zz:=@t4; evZ),by rw [aG,lm3],rfl⟩
 clear t0 t1 t2 t3 t4 lm1 lm2 lm3 hl1 M1 hN
 rintro T _ _ ⟨t0,t1,t2,t3,t4,rfl,rfl⟩
 refine ba (fun T H'' nx''=>∃ mu i j:Nat,PartR P a e mu i j M∧T 0=.msl b n 1 0 n∧T 1=.int .i64 a∧T 4=.func g caps∧T 12=.int .i64 (i:Nat)∧T 13=.int .i64 (j:Nat)∧H''=ak H b ((M).map f)∧nx=nx'') ?_ ?_
 ·(have zz:=aI @t0 (aI @t1 (aI @t2 (aI @t3 (aI @t4 (aI @ta @te))))); repeat' (first | apply a_n | refine zO ?_ | refine vZ ?_ | fail)) <;> (try clear zz)
  exact ⟨_,a + 1,m,by rw [hm]; exact .start (by omega),(have zz:=@t0; evZ),(have zz:=@t1; evZ),(have zz:=@t4; evZ),ev0,ev0,rfl,rfl⟩
 clear t0 t1 t2 t3 t4 ta te hm m
 rintro T _ _ ⟨mu,i,j,hpt,t0,t1,t4,t12,t13,rfl,rfl⟩
 have hl:M.length=n:=by rw [hp.len,hn]
 have hGM:=hp.mem hG
 refine ba (fun T H'' nx''=>∃ i:Nat,PartR P a e mu i j M∧(i ≤ j→¬ P (M.getD i default))∧T 0=.msl b n 1 0 n∧T 1=.int .i64 a∧T 4=.func g caps∧T 12=.int .i64 (i:Nat)∧T 13=.int .i64 (j:Nat)∧H''=ak H b ((M).map f)∧nx=nx'') ?_ ?_
 ·(have zz:=aI @t0 (aI @t1 (aI @t4 (aI @t12 @t13))); repeat' (first | refine zW ?_ | apply a_n | refine zO ?_ | fail)) <;> (try clear zz)
  refine br (X:=Nat) (fun i=>[(0,.msl b n 1 0 n),(1,.int .i64 a),(4,.func g caps),(12,.int .i64 (i:Nat)),(13,.int .i64 (j:Nat))]) (fun i H' nxx=>PartR P a e mu i j M∧H'=ak H b (M.map f)∧nx=nxx) (fun i=>j + 1 - i) i ⟨hpt,rfl,rfl⟩ (have zz:=aI @t0 (aI @t1 (aI @t4 (aI @t12 @t13))); agZ) ?_
  clear t0 t1 t4 t12 t13 hpt i
  rintro i H' nxx ⟨hpt,rfl,rfl⟩
  have hlo:=hpt.lo; have hmid:=hpt.mid; have hhi:=hpt.hi
  have ii:((i:Nat):Int) + 1=((i + 1:Nat):Int):=by omega
  by_cases hij:j < i
  ·(have zz:=and_self; repeat' (first | refine zW ?_ | refine zM ?_ | apply a_n | apply a_x | refine zO ?_ | refine vZ ?_ | refine gFZ ?_ | (refine zGZ ?_ ?_ <;> (intro _hg; try (exfalso; omega))) | refine cFZ ?_ | fail)) <;> (try clear zz)
   exact ⟨i,hpt,fun h=>absurd h (by omega),rfl,rfl,rfl,rfl,rfl,rfl,rfl⟩
  have lc:=hc.run (M.getD (i) default) (M.getD (a) default) (hGM _ (ah (by omega))) (hGM _ (ah (by omega)))
  have e1:=hc.dat (M.getD (i) default)
  have e2:=hc.dat (M.getD (a) default)
  have hPk:P (M.getD (i) default) ↔ K (M.getD (i) default) (M.getD (a) default) < 0:=by rw [hP,hv]
  generalize hKK:K (M.getD (i) default) (M.getD (a) default)=kk at lc hPk
  by_cases hlt:kk < 0
  ·(have zz:=aI @ii (aI @Int.toNat_natCast (aI hc.cells hc.one)); repeat' (first | refine zW ?_ | refine zM ?_ | apply a_n | refine zO ?_ | refine vZ ?_ | refine cZ ?_ (hp:=lc) (hs:=by (first | refine an ?_ rfl | apply aC); (repeat' (first | exact ai | apply aS | apply aE | exact e1 | exact e2 | exact aJ dcap)); first | done | fail) | refine gTZ ?_ | (refine zGZ ?_ ?_ <;> (intro _hg; try (exfalso; omega))) | fail)) <;> (try clear zz)
   exact ⟨i + 1,by omega,⟨hpt.stepUp (by omega) (by rw [hPk]; exact hlt),rfl,rfl⟩,ag0⟩
  ·(have zz:=aI @ii (aI @Int.toNat_natCast (aI hc.cells hc.one)); repeat' (first | refine zW ?_ | refine zM ?_ | apply a_n | apply a_x | refine zO ?_ | refine vZ ?_ | refine cZ ?_ (hp:=lc) (hs:=by (first | refine an ?_ rfl | apply aC); (repeat' (first | exact ai | apply aS | apply aE | exact e1 | exact e2 | exact aJ dcap)); first | done | fail) | refine gTZ ?_ | (refine zGZ ?_ ?_ <;> (intro _hg; try (exfalso; omega))) | fail)) <;> (try clear zz)
   exact ⟨i,hpt,fun _=>(by rw [hPk]; first | exact hlt | exact fun h=>h hlt),rfl,rfl,rfl,rfl,rfl,rfl,rfl⟩
 clear t0 t1 t4 t12 t13 hpt i
 rintro T _ _ ⟨i,hpt,hni,t0,t1,t4,t12,t13,rfl,rfl⟩
 refine ba (fun T H'' nx''=>∃ j:Nat,PartR P a e mu i j M∧(i ≤ j→¬ P (M.getD i default))∧(i ≤ j→P (M.getD j default))∧T 0=.msl b n 1 0 n∧T 1=.int .i64 a∧T 4=.func g caps∧T 12=.int .i64 (i:Nat)∧T 13=.int .i64 (j:Nat)∧H''=ak H b ((M).map f)∧nx=nx'') ?_ ?_
 ·(have zz:=aI @t0 (aI @t1 (aI @t4 (aI @t12 @t13))); repeat' (first | refine zW ?_ | apply a_n | refine zO ?_ | fail)) <;> (try clear zz)
  refine br (X:=Nat) (fun j=>[(0,.msl b n 1 0 n),(1,.int .i64 a),(4,.func g caps),(12,.int .i64 (i:Nat)),(13,.int .i64 (j:Nat))]) (fun j H' nxx=>PartR P a e mu i j M∧(i ≤ j→¬ P (M.getD i default))∧H'=ak H b (M.map f)∧nx=nxx) (fun j=>j) j ⟨hpt,hni,rfl,rfl⟩ (have zz:=aI @t0 (aI @t1 (aI @t4 (aI @t12 @t13))); agZ) ?_
  clear t0 t1 t4 t12 t13 hpt hni j
  rintro j H' nxx ⟨hpt,hni,rfl,rfl⟩
  have hlo:=hpt.lo; have hmid:=hpt.mid; have hhi:=hpt.hi
  by_cases hij:j < i
  ·(have zz:=and_self; repeat' (first | refine zW ?_ | refine zM ?_ | apply a_n | apply a_x | refine zO ?_ | refine vZ ?_ | refine gFZ ?_ | (refine zGZ ?_ ?_ <;> (intro _hg; try (exfalso; omega))) | refine cFZ ?_ | fail)) <;> (try clear zz)
   exact ⟨j,hpt,hni,fun h=>absurd h (by omega),rfl,rfl,rfl,rfl,rfl,rfl,rfl⟩
  obtain ⟨k,rfl⟩:∃ k,j=k + 1:=⟨j - 1,by omega⟩
  have tk:((k + 1:Nat):Int) - 1=(k:Int):=by omega
  have lc:=hc.run (M.getD (k + 1) default) (M.getD (a) default) (hGM _ (ah (by omega))) (hGM _ (ah (by omega)))
  have e1:=hc.dat (M.getD (k + 1) default)
  have e2:=hc.dat (M.getD (a) default)
  have hPk:P (M.getD (k + 1) default) ↔ K (M.getD (k + 1) default) (M.getD (a) default) < 0:=by rw [hP,hv]
  generalize hKK:K (M.getD (k + 1) default) (M.getD (a) default)=kk at lc hPk
  by_cases hlt:kk < 0
  ·(have zz:=aI @tk (aI @Int.toNat_natCast (aI hc.cells hc.one)); repeat' (first | refine zW ?_ | refine zM ?_ | apply a_n | apply a_x | refine zO ?_ | refine vZ ?_ | refine cZ ?_ (hp:=lc) (hs:=by (first | refine an ?_ rfl | apply aC); (repeat' (first | exact ai | apply aS | apply aE | exact e1 | exact e2 | exact aJ dcap)); first | done | fail) | refine gTZ ?_ | (refine zGZ ?_ ?_ <;> (intro _hg; try (exfalso; omega))) | fail)) <;> (try clear zz)
   exact ⟨k + 1,hpt,hni,fun _=>(by rw [hPk]; exact hlt),rfl,rfl,rfl,rfl,rfl,rfl,rfl⟩
  ·(have zz:=aI @tk (aI @Int.toNat_natCast (aI hc.cells hc.one)); repeat' (first | refine zW ?_ | refine zM ?_ | apply a_n | refine zO ?_ | refine vZ ?_ | refine cZ ?_ (hp:=lc) (hs:=by (first | refine an ?_ rfl | apply aC); (repeat' (first | exact ai | apply aS | apply aE | exact e1 | exact e2 | exact aJ dcap)); first | done | fail) | refine gTZ ?_ | (refine zGZ ?_ ?_ <;> (intro _hg; try (exfalso; omega))) | fail)) <;> (try clear zz)
   exact ⟨k,by omega,⟨hpt.stepDn (by omega) (by rw [hPk]; first | exact hlt | exact fun h=>h hlt),fun _=>hni (by omega),rfl,rfl⟩,ag0⟩
 clear t0 t1 t4 t12 t13 hpt hni j
 rintro T _ _ ⟨j,hpt,hni,hnj,t0,t1,t4,t12,t13,rfl,rfl⟩
 have hlo:=hpt.lo; have hmid:=hpt.mid; have hhi:=hpt.hi
 by_cases hji:j < i
 ·clear hni hnj
  obtain ⟨z1,z2,z3,z4⟩:=hpt.done hc.ord (by omega) hji hv hP
  obtain ⟨M1,hl1,lm1,lm2⟩:=bW (f:=f) (M:=M) (i:=j) (j:=a) (by omega) (by omega)
  have lm3:=lm2
  simp only [bF,List.length_cons,List.length_nil,Nat.zero_add] at lm1 lm2
  (have zz:=aI @t0 (aI @t1 (aI @t4 (aI @t12 (aI @t13 (aI @Int.toNat_natCast (aI hc.cells (aI hc.one (aI @lm1 @lm2)))))))); repeat' (first | refine zW ?_ | apply a_n | apply a_r | refine zO ?_ | refine vZ ?_ | refine stZ ?_ | (refine zGZ ?_ ?_ <;> (intro _hg; try (exfalso; omega))) | refine ae rfl ?_ | refine r2Z ?_ | fail)) <;> (try clear zz)
  exact ⟨rfl,swp M j a,j,true,rfl,z1,z2,by rw [aG,aG,lm3],hp.trans (PermR.swap (by omega) (by omega) (by omega)),z3,z4⟩
 obtain ⟨k,rfl⟩:∃ k,j=k + 1:=⟨j - 1,by omega⟩
 have tk:((k + 1:Nat):Int) - 1=(k:Int):=by omega
 have ii:((i:Nat):Int) + 1=((i + 1:Nat):Int):=by omega
 obtain ⟨M1,hl1,lm1,lm2⟩:=bW (f:=f) (M:=M) (i:=i) (j:=k + 1) (by omega) (by omega)
 have lm3:=lm2
 simp only [bF,List.length_cons,List.length_nil,Nat.zero_add] at lm1 lm2
 (have zz:=aI @t0 (aI @t1 (aI @t4 (aI @t12 (aI @t13 (aI @tk (aI @ii (aI @Int.toNat_natCast (aI hc.cells (aI hc.one (aI @lm1 @lm2)))))))))); repeat' (first | refine zW ?_ | apply a_n | refine zO ?_ | refine vZ ?_ | refine stZ ?_ | (refine zGZ ?_ ?_ <;> (intro _hg; try (exfalso; omega))) | fail)) <;> (try clear zz)
 obtain ⟨hq1,hq2⟩:=hpt.swap (by omega) (by omega) (hni (by omega)) (hnj (by omega))
 have hp2:PermR a e L (swp M i (k + 1)):=hp.trans (PermR.swap (by omega) (by omega) (by omega))
 have hv2:(swp M i (k + 1)).getD a default=v:=by rw [my (by omega) (by omega) (by omega) (by omega)]; exact hv
 refine br (X:=Nat × Nat × List α) (fun x=>[(0,.msl b n 1 0 n),(1,.int .i64 a),(4,.func g caps),(12,.int .i64 (x.1:Nat)),(13,.int .i64 (x.2.1:Nat))]) (fun x H' nxx=>PartR P a e (x.2.1 + 1 - x.1) x.1 x.2.1 x.2.2∧H'=ak H b (x.2.2.map f)∧nx=nxx∧PermR a e L x.2.2∧x.2.2.getD a default=v) (fun x=>x.2.1 + 1 - x.1) (i + 1,k,swp M i (k + 1)) ⟨hq1,by dsimp only; rw [aG,aG,lm3],rfl,hp2,hv2⟩ (have zz:=aI @t0 (aI @t1 (aI @t4 (aI @t12 @t13))); agZ) ?_
 clear t0 t1 t4 t12 t13 lm1 lm2 lm3 hl1 M1 hp2 hv2 hq1 hq2 hpt hni hnj hp hv hGM
 rintro ⟨i,j,M⟩ H' nxx ⟨hpt,rfl,rfl,hp,hv⟩
 dsimp only at *
 have hl:M.length=n:=by rw [hp.len,hn]
 have hGM:=hp.mem hG
 generalize hmu:j + 1 - i=mu at hpt ⊢
 clear hmu
 obtain ⟨T,hT,t0,t1,t4,t12,t13⟩:∃ T,tl [(0,.msl b n 1 0 n),(1,.int .i64 a),(4,.func g caps),(12,.int .i64 (i:Nat)),(13,.int .i64 (j:Nat))]=T∧T 0=.msl b n 1 0 n∧T 1=.int .i64 a∧T 4=.func g caps∧T 12=.int .i64 (i:Nat)∧T 13=.int .i64 (j:Nat):=⟨_,rfl,rfl,rfl,rfl,rfl,rfl⟩
 rw [hT]
 clear hT
 refine eK ?_
 refine ba (fun T H'' nx''=>∃ i:Nat,PartR P a e mu i j M∧(i ≤ j→¬ P (M.getD i default))∧T 0=.msl b n 1 0 n∧T 1=.int .i64 a∧T 4=.func g caps∧T 12=.int .i64 (i:Nat)∧T 13=.int .i64 (j:Nat)∧H''=ak H b ((M).map f)∧nx=nx'') ?_ ?_
 ·(have zz:=aI @t0 (aI @t1 (aI @t4 (aI @t12 @t13))); repeat' (first | refine zW ?_ | apply a_n | refine zO ?_ | fail)) <;> (try clear zz)
  refine br (X:=Nat) (fun i=>[(0,.msl b n 1 0 n),(1,.int .i64 a),(4,.func g caps),(12,.int .i64 (i:Nat)),(13,.int .i64 (j:Nat))]) (fun i H' nxx=>PartR P a e mu i j M∧H'=ak H b (M.map f)∧nx=nxx) (fun i=>j + 1 - i) i ⟨hpt,rfl,rfl⟩ (have zz:=aI @t0 (aI @t1 (aI @t4 (aI @t12 @t13))); agZ) ?_
  clear t0 t1 t4 t12 t13 hpt i
  rintro i H' nxx ⟨hpt,rfl,rfl⟩
  have hlo:=hpt.lo; have hmid:=hpt.mid; have hhi:=hpt.hi
  have ii:((i:Nat):Int) + 1=((i + 1:Nat):Int):=by omega
  by_cases hij:j < i
  ·(have zz:=and_self; repeat' (first | refine zW ?_ | refine zM ?_ | apply a_n | apply a_x | refine zO ?_ | refine vZ ?_ | refine gFZ ?_ | (refine zGZ ?_ ?_ <;> (intro _hg; try (exfalso; omega))) | refine cFZ ?_ | fail)) <;> (try clear zz)
   exact ⟨i,hpt,fun h=>absurd h (by omega),rfl,rfl,rfl,rfl,rfl,rfl,rfl⟩
  have lc:=hc.run (M.getD (i) default) (M.getD (a) default) (hGM _ (ah (by omega))) (hGM _ (ah (by omega)))
  have e1:=hc.dat (M.getD (i) default)
  have e2:=hc.dat (M.getD (a) default)
  have hPk:P (M.getD (i) default) ↔ K (M.getD (i) default) (M.getD (a) default) < 0:=by rw [hP,hv]
  generalize hKK:K (M.getD (i) default) (M.getD (a) default)=kk at lc hPk
  by_cases hlt:kk < 0
  ·(have zz:=aI @ii (aI @Int.toNat_natCast (aI hc.cells hc.one)); repeat' (first | refine zW ?_ | refine zM ?_ | apply a_n | refine zO ?_ | refine vZ ?_ | refine cZ ?_ (hp:=lc) (hs:=by (first | refine an ?_ rfl | apply aC); (repeat' (first | exact ai | apply aS | apply aE | exact e1 | exact e2 | exact aJ dcap)); first | done | fail) | refine gTZ ?_ | (refine zGZ ?_ ?_ <;> (intro _hg; try (exfalso; omega))) | fail)) <;> (try clear zz)
   exact ⟨i + 1,by omega,⟨hpt.stepUp (by omega) (by rw [hPk]; exact hlt),rfl,rfl⟩,ag0⟩
  ·(have zz:=aI @ii (aI @Int.toNat_natCast (aI hc.cells hc.one)); repeat' (first | refine zW ?_ | refine zM ?_ | apply a_n | apply a_x | refine zO ?_ | refine vZ ?_ | refine cZ ?_ (hp:=lc) (hs:=by (first | refine an ?_ rfl | apply aC); (repeat' (first | exact ai | apply aS | apply aE | exact e1 | exact e2 | exact aJ dcap)); first | done | fail) | refine gTZ ?_ | (refine zGZ ?_ ?_ <;> (intro _hg; try (exfalso; omega))) | fail)) <;> (try clear zz)
   exact ⟨i,hpt,fun _=>(by rw [hPk]; first | exact hlt | exact fun h=>h hlt),rfl,rfl,rfl,rfl,rfl,rfl,rfl⟩
 clear t0 t1 t4 t12 t13 hpt i
 rintro T _ _ ⟨i,hpt,hni,t0,t1,t4,t12,t13,rfl,rfl⟩
 refine ba (fun T H'' nx''=>∃ j:Nat,PartR P a e mu i j M∧(i ≤ j→¬ P (M.getD i default))∧(i ≤ j→P (M.getD j default))∧T 0=.msl b n 1 0 n∧T 1=.int .i64 a∧T 4=.func g caps∧T 12=.int .i64 (i:Nat)∧T 13=.int .i64 (j:Nat)∧H''=ak H b ((M).map f)∧nx=nx'') ?_ ?_
 ·(have zz:=aI @t0 (aI @t1 (aI @t4 (aI @t12 @t13))); repeat' (first | refine zW ?_ | apply a_n | refine zO ?_ | fail)) <;> (try clear zz)
  refine br (X:=Nat) (fun j=>[(0,.msl b n 1 0 n),(1,.int .i64 a),(4,.func g caps),(12,.int .i64 (i:Nat)),(13,.int .i64 (j:Nat))]) (fun j H' nxx=>PartR P a e mu i j M∧(i ≤ j→¬ P (M.getD i default))∧H'=ak H b (M.map f)∧nx=nxx) (fun j=>j) j ⟨hpt,hni,rfl,rfl⟩ (have zz:=aI @t0 (aI @t1 (aI @t4 (aI @t12 @t13))); agZ) ?_
  clear t0 t1 t4 t12 t13 hpt hni j
  rintro j H' nxx ⟨hpt,hni,rfl,rfl⟩
  have hlo:=hpt.lo; have hmid:=hpt.mid; have hhi:=hpt.hi
  by_cases hij:j < i
  ·(have zz:=and_self; repeat' (first | refine zW ?_ | refine zM ?_ | apply a_n | apply a_x | refine zO ?_ | refine vZ ?_ | refine gFZ ?_ | (refine zGZ ?_ ?_ <;> (intro _hg; try (exfalso; omega))) | refine cFZ ?_ | fail)) <;> (try clear zz)
   exact ⟨j,hpt,hni,fun h=>absurd h (by omega),rfl,rfl,rfl,rfl,rfl,rfl,rfl⟩
  obtain ⟨k,rfl⟩:∃ k,j=k + 1:=⟨j - 1,by omega⟩
  have tk:((k + 1:Nat):Int) - 1=(k:Int):=by omega
  have lc:=hc.run (M.getD (k + 1) default) (M.getD (a) default) (hGM _ (ah (by omega))) (hGM _ (ah (by omega)))
  have e1:=hc.dat (M.getD (k + 1) default)
  have e2:=hc.dat (M.getD (a) default)
  have hPk:P (M.getD (k + 1) default) ↔ K (M.getD (k + 1) default) (M.getD (a) default) < 0:=by rw [hP,hv]
  generalize hKK:K (M.getD (k + 1) default) (M.getD (a) default)=kk at lc hPk
  by_cases hlt:kk < 0
  ·(have zz:=aI @tk (aI @Int.toNat_natCast (aI hc.cells hc.one)); repeat' (first | refine zW ?_ | refine zM ?_ | apply a_n | apply a_x | refine zO ?_ | refine vZ ?_ | refine cZ ?_ (hp:=lc) (hs:=by (first | refine an ?_ rfl | apply aC); (repeat' (first | exact ai | apply aS | apply aE | exact e1 | exact e2 | exact aJ dcap)); first | done | fail) | refine gTZ ?_ | (refine zGZ ?_ ?_ <;> (intro _hg; try (exfalso; omega))) | fail)) <;> (try clear zz)
   exact ⟨k + 1,hpt,hni,fun _=>(by rw [hPk]; exact hlt),rfl,rfl,rfl,rfl,rfl,rfl,rfl⟩
  ·(have zz:=aI @tk (aI @Int.toNat_natCast (aI hc.cells hc.one)); repeat' (first | refine zW ?_ | refine zM ?_ | apply a_n | refine zO ?_ | refine vZ ?_ | refine cZ ?_ (hp:=lc) (hs:=by (first | refine an ?_ rfl | apply aC); (repeat' (first | exact ai | apply aS | apply aE | exact e1 | exact e2 | exact aJ dcap)); first | done | fail) | refine gTZ ?_ | (refine zGZ ?_ ?_ <;> (intro _hg; try (exfalso; omega))) | fail)) <;> (try clear zz)
   exact ⟨k,by omega,⟨hpt.stepDn (by omega) (by rw [hPk]; first | exact hlt | exact fun h=>h hlt),fun _=>hni (by omega),rfl,rfl⟩,ag0⟩
 clear t0 t1 t4 t12 t13 hpt hni j
 rintro T _ _ ⟨j,hpt,hni,hnj,t0,t1,t4,t12,t13,rfl,rfl⟩
 have hlo:=hpt.lo; have hmid:=hpt.mid; have hhi:=hpt.hi
 by_cases hji:j < i
 ·clear hni hnj
  obtain ⟨z1,z2,z3,z4⟩:=hpt.done hc.ord (by omega) hji hv hP
  obtain ⟨M1,hl1,lm1,lm2⟩:=bW (f:=f) (M:=M) (i:=j) (j:=a) (by omega) (by omega)
  have lm3:=lm2
  simp only [bF,List.length_cons,List.length_nil,Nat.zero_add] at lm1 lm2
  (have zz:=aI @t0 (aI @t1 (aI @t4 (aI @t12 (aI @t13 (aI @Int.toNat_natCast (aI hc.cells (aI hc.one (aI @lm1 @lm2)))))))); repeat' (first | refine zW ?_ | apply a_n | apply a_x | refine zO ?_ | refine vZ ?_ | refine stZ ?_ | (refine zGZ ?_ ?_ <;> (intro _hg; try (exfalso; omega))) | refine ae rfl ?_ | refine r2Z ?_ | fail)) <;> (try clear zz)
  exact ⟨rfl,swp M j a,j,false,rfl,z1,z2,by rw [aG,aG,lm3],hp.trans (PermR.swap (by omega) (by omega) (by omega)),z3,z4⟩
 obtain ⟨k,rfl⟩:∃ k,j=k + 1:=⟨j - 1,by omega⟩
 have tk:((k + 1:Nat):Int) - 1=(k:Int):=by omega
 have ii:((i:Nat):Int) + 1=((i + 1:Nat):Int):=by omega
 obtain ⟨M1,hl1,lm1,lm2⟩:=bW (f:=f) (M:=M) (i:=i) (j:=k + 1) (by omega) (by omega)
 have lm3:=lm2
 simp only [bF,List.length_cons,List.length_nil,Nat.zero_add] at lm1 lm2
 (have zz:=aI @t0 (aI @t1 (aI @t4 (aI @t12 (aI @t13 (aI @tk (aI @ii (aI @Int.toNat_natCast (aI hc.cells (aI hc.one (aI @lm1 @lm2)))))))))); repeat' (first | refine zW ?_ | apply a_n | refine zO ?_ | refine vZ ?_ | refine stZ ?_ | (refine zGZ ?_ ?_ <;> (intro _hg; try (exfalso; omega))) | fail)) <;> (try clear zz)
 obtain ⟨hq1,hq2⟩:=hpt.swap (by omega) (by omega) (hni (by omega)) (hnj (by omega))
 exact ⟨(i + 1,k,swp M i (k + 1)),hq2,⟨hq1,by dsimp only; rw [aG,aG,lm3],rfl,hp.trans (PermR.swap (by omega) (by omega) (by omega)),by dsimp only; rw [my (by omega) (by omega) (by omega) (by omega)]; exact hv⟩,(have zz:=aI @t0 (aI @t1 (aI @t4 (aI @t12 @t13))); agZ)⟩
end
end Go.Proofs.YtjgpfclngkcedaaGreat
namespace Go.Proofs.YtjgpfclngkcedaaGreat
open Go Go.Abs
def je (x:Nat):Nat:=if x=0 then 0 else Nat.log2 x + 1
def lK:ByteArray:=ByteArray.mk (Array.mk [0,1,2,2,3,3,3,3,4,4,4,4,4,4,4,4,5,5,5,5,5,5,5,5,5,5,5,5,5,5,5,5,6,6,6,6,6,6,6,6,6,6,6,6,6,6,6,6,6,6,6,6,6,6,6,6,6,6,6,6,6,6,6,6,7,7,7,7,7,7,7,7,7,7,7,7,7,7,7,7,7,7,7,7,7,7,7,7,7,7,7,7,7,7,7,7,7,7,7,7,7,7,7,7,7,7,7,7,7,7,7,7,7,7,7,7,7,7,7,7,7,7,7,7,7,7,7,7,8,8,8,8,8,8,8,8,8,8,8,8,8,8,8,8,8,8,8,8,8,8,8,8,8,8,8,8,8,8,8,8,8,8,8,8,8,8,8,8,8,8,8,8,8,8,8,8,8,8,8,8,8,8,8,8,8,8,8,8,8,8,8,8,8,8,8,8,8,8,8,8,8,8,8,8,8,8,8,8,8,8,8,8,8,8,8,8,8,8,8,8,8,8,8,8,8,8,8,8,8,8,8,8,8,8,8,8,8,8,8,8,8,8,8,8,8,8,8,8,8,8,8,8,8,8,8,8])
theorem wq (x:Nat):x < 2 ^ je x:=by
 unfold je
 split
 ·omega
 ·exact Nat.lt_log2_self
theorem sE {x:Nat} (h:0 < x):2 ^ je x ≤ 2 * x:=by
 unfold je
 rw [if_neg (by omega),Nat.pow_succ]
 have:=Nat.log2_self_le (n:=x) (by omega)
 omega
theorem qw {x:Nat} (hx:x < 256):jg (.str (ByteArray.mk (Array.mk [0,1,2,2,3,3,3,3,4,4,4,4,4,4,4,4,5,5,5,5,5,5,5,5,5,5,5,5,5,5,5,5,6,6,6,6,6,6,6,6,6,6,6,6,6,6,6,6,6,6,6,6,6,6,6,6,6,6,6,6,6,6,6,6,7,7,7,7,7,7,7,7,7,7,7,7,7,7,7,7,7,7,7,7,7,7,7,7,7,7,7,7,7,7,7,7,7,7,7,7,7,7,7,7,7,7,7,7,7,7,7,7,7,7,7,7,7,7,7,7,7,7,7,7,7,7,7,7,8,8,8,8,8,8,8,8,8,8,8,8,8,8,8,8,8,8,8,8,8,8,8,8,8,8,8,8,8,8,8,8,8,8,8,8,8,8,8,8,8,8,8,8,8,8,8,8,8,8,8,8,8,8,8,8,8,8,8,8,8,8,8,8,8,8,8,8,8,8,8,8,8,8,8,8,8,8,8,8,8,8,8,8,8,8,8,8,8,8,8,8,8,8,8,8,8,8,8,8,8,8,8,8,8,8,8,8,8,8,8,8,8,8,8,8,8,8,8,8,8,8,8,8,8,8,8,8]))) (.int .u8 (x:Nat))=some (.int .u8 (je x:Nat)):=by
 have h1:lK.size=256:=by decide +kernel
 have h2:∀ i:Fin 256,(lK[i.val]?.getD 0).toNat=je i.val:=by decide +kernel
 rw [SV2.2.2.2.2.2.2.2.2]
 have h3:=h2 ⟨x,hx⟩
 change (if 0 ≤ (x:Int)∧(x:Int) < lK.size then some (AV.int .u8 (lK[(x:Int).toNat]?.getD 0).toNat) else none)=_
 rw [if_pos ⟨by omega,by rw [h1]; omega⟩,Int.toNat_natCast]
 simp only at h3
 rw [h3]
theorem lJ {x s k:Nat} (hk:k=je (x / 2 ^ s)) (h:0 < x / 2 ^ s):x < 2 ^ (k + s)∧2 ^ (k + s) ≤ 2 * x:=by
 subst hk
 have h1:=wq (x / 2 ^ s)
 have h2:=sE h
 have hp:0 < 2 ^ s:=Nat.pow_pos (by omega)
 rw [Nat.pow_add]
 constructor
 ·have:=(Nat.div_lt_iff_lt_mul hp).1 h1
  exact this
 ·calc 2 ^ je (x / 2 ^ s) * 2 ^ s ≤ 2 * (x / 2 ^ s) * 2 ^ s:=Nat.mul_le_mul_right _ h2
    _=2 * (x / 2 ^ s * 2 ^ s):=by rw [Nat.mul_assoc]
    _ ≤ 2 * x:=Nat.mul_le_mul_left _ (Nat.div_mul_le_self x (2 ^ s))
theorem gf {x:Nat} (hx:x < 256):je x ≤ 8:=by
 rcases Nat.eq_zero_or_pos x with e | e
 ·subst e; decide
 ·have h:=sE e
  rcases Nat.lt_or_ge 8 (je x) with h1 | h1
  ·have:=Nat.pow_le_pow_right (n:=2) (by omega) h1
   omega
  ·exact h1
theorem iu {x:Int} (h:0 ≤ x) (h2:x < 18446744073709551616):IntKind.wrap .u64 x=x:=by
 simp only [IntKind.bits,IntKind.wrap,IntKind.signed]; simp; omega
theorem mz {x:Int} (h:0 ≤ x) (h2:x < 256):IntKind.wrap .u8 x=x:=by
 simp only [IntKind.bits,IntKind.wrap,IntKind.signed]; simp; omega
def xr (a b:Int):Int:=IntKind.wrap .u64 (BitVec.ofInt 64 a ^^^ BitVec.ofInt 64 b).toNat
def zI (a:Int):Int:=IntKind.wrap .u64 (a * 2 ^ 13)
def Az (a:Int):Int:=IntKind.wrap .u64 (a * 2 ^ 17)
def sr7 (a:Int):Int:=a.fdiv (2 ^ 7)
theorem SX:(∀ a b:Int,aQ .xor false false (.int .u64 a) (.int .u64 b)=some (.int .u64 (xr a b)))∧(∀ a:Int,aQ .shl false false (.int .u64 a) (.int .u64 13)=some (.int .u64 (zI a))) ∧
    (∀ a:Int,aQ .shl false false (.int .u64 a) (.int .u64 17)=some (.int .u64 (Az a)))∧(∀ a:Int,aQ .shr false false (.int .u64 a) (.int .u64 7)=some (.int .u64 (sr7 a))) :=
 ⟨fun _ _=>rfl,fun _=>rfl,fun _=>rfl,fun _=>rfl⟩
attribute [irreducible] xr zI Az sr7
attribute [local irreducible] aw ac aP aK ay aA am aB aM aX Go.Abs.Fn aH Go.Abs.Pure ag ax Yl
theorem yn {H:Hp} {c nx:Nat} {s:Int} (hcc:H c=some [.int .u64 s]):Abs.Fn Tryz.prog 159 [.ptr c 1 0] H nx fun r H' nx'=>nx'=nx∧∃ s':Int,r=.int .u64 s'∧H'=ak H c [.int .u64 s']:=by
 refine Abs.Fn.of_c2 follows xU (Nat.le_of_ble_eq_true rfl) ?_
 simp only [yX,cO,cG,cN,cM,cD,cF,cB,aq,aL]
 have ls:∀ x y:AV,bF [x] 0 [y]=[y]:=fun _ _=>rfl
 simp only [bF,List.length_cons,List.length_nil,Nat.zero_add] at ls
 (have zz:=aI @hcc (aI @SV3 (aI @SX @ls)); repeat' (first | refine zW ?_ | apply a_n | refine zO ?_ | refine vZ ?_ | refine stZ ?_ | refine ae rfl ?_ | refine r1Z ?_ | fail)) <;> (try clear zz)
 exact ⟨rfl,_,rfl,by rw [aG,aG]; rfl⟩
set_option maxRecDepth 100000 in
theorem xc {H:Hp} {nx x:Nat} (hx:0 < x) (h2:x < 4294967296):Abs.Fn Tryz.prog 140 [.int .u64 x] H nx fun r H' nx'=>nx'=nx∧H'=H∧∃ k:Nat,r=.int .i64 k∧x < 2 ^ k∧2 ^ k ≤ 2 * x:=by
 refine Abs.Fn.of_c2 follows uG (Nat.le_of_ble_eq_true rfl) ?_
 delta wA cO cG cN cM cD cF cB aq aL
 generalize hT:AV.str (ByteArray.mk (Array.mk [0,1,2,2,3,3,3,3,4,4,4,4,4,4,4,4,5,5,5,5,5,5,5,5,5,5,5,5,5,5,5,5,6,6,6,6,6,6,6,6,6,6,6,6,6,6,6,6,6,6,6,6,6,6,6,6,6,6,6,6,6,6,6,6,7,7,7,7,7,7,7,7,7,7,7,7,7,7,7,7,7,7,7,7,7,7,7,7,7,7,7,7,7,7,7,7,7,7,7,7,7,7,7,7,7,7,7,7,7,7,7,7,7,7,7,7,7,7,7,7,7,7,7,7,7,7,7,7,8,8,8,8,8,8,8,8,8,8,8,8,8,8,8,8,8,8,8,8,8,8,8,8,8,8,8,8,8,8,8,8,8,8,8,8,8,8,8,8,8,8,8,8,8,8,8,8,8,8,8,8,8,8,8,8,8,8,8,8,8,8,8,8,8,8,8,8,8,8,8,8,8,8,8,8,8,8,8,8,8,8,8,8,8,8,8,8,8,8,8,8,8,8,8,8,8,8,8,8,8,8,8,8,8,8,8,8,8,8,8,8,8,8,8,8,8,8,8,8,8,8,8,8,8,8,8,8]))=tb
 have htab:∀ x:Nat,x < 256→jg tb (.int .u8 (x:Nat))=some (.int .u8 (je x:Nat)):=fun x hx=>by rw [← hT]; exact qw hx
 clear hT
 have s16:∀ z:Nat,aQ .shr false false (.int .u64 (z:Nat)) (.int .u64 16)=some (.int .u64 ((z / 2 ^ 16:Nat):Int)):=fun z=>sU (b:=16) (k:=.u64) (k':=.u64) (by decide)
 have s8:∀ z:Nat,aQ .shr false false (.int .u64 (z:Nat)) (.int .u64 8)=some (.int .u64 ((z / 2 ^ 8:Nat):Int)):=fun z=>sU (b:=8) (k:=.u64) (k':=.u64) (by decide)
 by_cases h16:65536 ≤ x
 ·obtain ⟨y,hy⟩:∃ y,x / 2 ^ 16=y:=⟨_,rfl⟩
  have hy1:0 < y:=by omega
  have hy2:y < 65536:=by omega
  by_cases h8:256 ≤ y
  ·obtain ⟨z,hz⟩:∃ z,y / 2 ^ 8=z:=⟨_,rfl⟩
   have hz1:0 < z:=by omega
   have hz2:z < 256:=by omega
   have hl:=gf hz2
   have w8:IntKind.wrap .u8 (z:Int)=z:=mz (by omega) (by omega)
   have ht:=htab z hz2
   (have zz:=aI @s16 (aI @s8 (aI @hy (aI @hz (aI @w8 @ht)))); repeat' (first | refine zW ?_ | apply a_n | refine zO ?_ | refine vZ ?_ | (refine zGZ ?_ ?_ <;> (intro _hg; try (exfalso; omega))) | refine ae rfl ?_ | refine r1Z ?_ | fail)) <;> (try clear zz)
   have e:x / 2 ^ 24=z:=by rw [← hz,← hy,Nat.div_div_eq_div_mul]
   exact ⟨rfl,rfl,je z + 24,by congr 1; omega,lJ (by rw [e]) (by omega)⟩
  ·have hl:=gf (x:=y) (by omega)
   have w8:IntKind.wrap .u8 (y:Int)=y:=mz (by omega) (by omega)
   have ht:=htab y (by omega)
   (have zz:=aI @s16 (aI @s8 (aI @hy (aI @w8 @ht))); repeat' (first | refine zW ?_ | apply a_n | refine zO ?_ | refine vZ ?_ | (refine zGZ ?_ ?_ <;> (intro _hg; try (exfalso; omega))) | refine ae rfl ?_ | refine r1Z ?_ | fail)) <;> (try clear zz)
   exact ⟨rfl,rfl,je y + 16,by congr 1; omega,lJ (by rw [hy]) (by omega)⟩
 ·by_cases h8:256 ≤ x
  ·obtain ⟨z,hz⟩:∃ z,x / 2 ^ 8=z:=⟨_,rfl⟩
   have hz1:0 < z:=by omega
   have hz2:z < 256:=by omega
   have hl:=gf hz2
   have w8:IntKind.wrap .u8 (z:Int)=z:=mz (by omega) (by omega)
   have ht:=htab z hz2
   (have zz:=aI @s16 (aI @s8 (aI @hz (aI @w8 @ht))); repeat' (first | refine zW ?_ | apply a_n | refine zO ?_ | refine vZ ?_ | (refine zGZ ?_ ?_ <;> (intro _hg; try (exfalso; omega))) | refine ae rfl ?_ | refine r1Z ?_ | fail)) <;> (try clear zz)
   exact ⟨rfl,rfl,je z + 8,by congr 1; omega,lJ (by rw [hz]) (by omega)⟩
  ·have hl:=gf (x:=x) (by omega)
   have w8:IntKind.wrap .u8 (x:Int)=x:=mz (by omega) (by omega)
   have ht:=htab x (by omega)
   (have zz:=aI @w8 @ht; repeat' (first | refine zW ?_ | apply a_n | refine zO ?_ | refine vZ ?_ | (refine zGZ ?_ ?_ <;> (intro _hg; try (exfalso; omega))) | refine ae rfl ?_ | refine r1Z ?_ | fail)) <;> (try clear zz)
   exact ⟨rfl,rfl,je x + 0,by congr 1; omega,lJ (s:=0) (by simp) (by simpa using hx)⟩
theorem xj {H:Hp} {nx x:Nat} (hx:0 < x) (h2:x < 4294967296):Abs.Fn Tryz.prog 112 [.int .u64 x] H nx fun r H' nx'=>nx'=nx∧H'=H∧∃ k:Nat,r=.int .i64 k∧x < 2 ^ k∧2 ^ k ≤ 2 * x:=by
 refine Abs.Fn.of_c2 follows u4 (Nat.le_of_ble_eq_true rfl) ?_
 simp only [ww,cO,cG,cN,cM,cD,cF,cB,aq,aL]
 (have zz:=and_self; repeat' (first | refine zW ?_ | apply a_n | refine zO ?_ | refine vZ ?_ | refine cFZ ?_ | fail)) <;> (try clear zz)
 refine aR ev0 ev0 (xc hx h2) ?_
 rintro _ _ _ ⟨rfl,rfl,k,rfl,h3,h4⟩
 (have zz:=and_self; repeat' (first | apply a_n | refine zO ?_ | refine vZ ?_ | refine ae rfl ?_ | refine r1Z ?_ | fail)) <;> (try clear zz)
 exact ⟨rfl,rfl,k,rfl,h3,h4⟩
theorem yr {H:Hp} {nx x:Nat} (hx:0 < x) (h2:x ≤ 1000000000):Abs.Fn Tryz.prog 158 [.int .i64 x] H nx fun r H' nx'=>nx'=nx∧H'=H∧∃ k:Nat,r=.int .u64 ((2 ^ k:Nat):Int)∧x < 2 ^ k∧2 ^ k ≤ 2 * x:=by
 have w:IntKind.wrap .u64 (x:Int)=x:=iu (by omega) (by omega)
 refine Abs.Fn.of_c2 follows xC (Nat.le_of_ble_eq_true rfl) ?_
 simp only [yu,cO,cG,cN,cM,cD,cF,cB,aq,aL]
 (have zz:=@w; repeat' (first | refine zW ?_ | apply a_n | refine zO ?_ | refine vZ ?_ | fail)) <;> (try clear zz)
 refine aR ev0 (have zz:=@w; evZ) (xj hx (by omega)) ?_
 rintro _ _ _ ⟨rfl,rfl,k,rfl,h3,h4⟩
 have hk:k ≤ 62:=by
  rcases Nat.lt_or_ge 62 k with h | h
  ·have:=Nat.pow_le_pow_right (n:=2) (by omega) h
   omega
  ·exact h
 have sh:aQ .shl false false (.int .u64 1) (.int .i64 (k:Int))=some (.int .u64 ((2 ^ k:Nat):Int)):=by
  have h:=wI (k:=.u64) (k':=.i64) (a:=1) (b:=k) (tb:=false) (tf:=false) (by show k ≤ 64; omega) (by show 1 * 2 ^ k < 2 ^ 63; omega)
  rw [Nat.one_mul] at h
  exact h
 (have zz:=@sh; repeat' (first | apply a_n | refine zO ?_ | refine vZ ?_ | refine ae rfl ?_ | refine r1Z ?_ | fail)) <;> (try clear zz)
 exact ⟨rfl,rfl,k,rfl,h3,h4⟩
end Go.Proofs.YtjgpfclngkcedaaGreat
namespace Go.Proofs.YtjgpfclngkcedaaGreat
open Go Go.Abs
open Nat (reduceEqDiff reduceAdd reduceLeDiff)
theorem uJ {a:Int} {m:Nat} (hm:m < 18446744073709551616):∃ r:Nat,aQ .and false false (.int .u64 a) (.int .u64 (m:Nat))=some (.int .u64 (r:Nat))∧r ≤ m:=by
 refine ⟨(BitVec.ofInt 64 a).toNat &&& m,?_,Nat.and_le_right⟩
 show (if (IntKind.u64=IntKind.u64) then cC .and .u64 a m else none)=_
 rw [if_pos rfl]
 have h:(BitVec.ofInt 64 a &&& BitVec.ofInt 64 (m:Int)).toNat=(BitVec.ofInt 64 a).toNat &&& m:=by
  rw [BitVec.toNat_and]
  congr 1
  simp [BitVec.toNat_ofInt]
  omega
 have h2:(BitVec.ofInt 64 a).toNat &&& m ≤ m:=Nat.and_le_right
 show some (AV.int .u64 (IntKind.wrap .u64 ((BitVec.ofInt 64 a &&& BitVec.ofInt 64 (m:Int)).toNat:Int)))=_
 rw [h,iu (by omega) (by omega)]
section
variable {α:Type} [Inhabited α] {f:α→AV} {K:α→α→Int} {G:α→Prop} {g:Nat} {caps:List AV}
attribute [local irreducible] aw ac aP aK ay aA am aB aM aX Go.Abs.Fn aH Go.Abs.Pure ag ax Yl
theorem wP (hc:Cmp Tryz.prog f K G g caps) {L:List α} {H:Hp} {b nx n a e:Nat} (hH:H b=some (L.map f)) (hbx:b < nx) (hn:L.length=n) (hae:a + 8 ≤ e) (hen:e ≤ n) (hn2:n ≤ 1000000000) :
    Abs.Fn Tryz.prog 151 [.msl b n 1 0 n,.int .i64 a,.int .i64 e,.func g caps] H nx fun r H' nx'=>nx'=nx + 1∧∃ L',H' b=some (L'.map f)∧(∀ i,i < nx→i ≠ b→H' i=H i)∧PermR a e L L':=by
 obtain ⟨l,rfl⟩:∃ l,e=a + l:=⟨e - a,by omega⟩
 have te:((a + l:Nat):Int) - (a:Int)=(l:Int):=by omega
 obtain ⟨w,hw⟩:∃ w,a + l / 4 * 2 - 1=w:=⟨_,rfl⟩
 have tq:aQ .quo false false (.int .i64 (l:Int)) (.int .i64 4)=some (.int .i64 ((l / 4:Nat):Int)):=by
  rw [jp (by omega) (by omega) (by omega)]
  congr 2
 have w1:(a:Int) + ((l / 4:Nat):Int) * 2 - 1=(w:Int):=by omega
 have w2:(a:Int) + ((l / 4:Nat):Int) * 2 + 1=((w + 2:Nat):Int):=by omega
 have hbn:b ≠ nx:=by omega
 have wl:IntKind.wrap .u64 (l:Int)=l:=iu (by omega) (by omega)
 refine Abs.Fn.of_c2 follows xx (Nat.le_of_ble_eq_true rfl) ?_
 simp only [yg,cO,cG,cN,cM,cD,cF,cB,aq,aL]
 have ls:∀ x y:AV,bF [x] 0 [y]=[y]:=fun _ _=>rfl
 simp only [bF,List.length_cons,List.length_nil,Nat.zero_add] at ls
 (have zz:=aI @te (aI @wl @ls); repeat' (first | refine zW ?_ | apply a_n | refine zO ?_ | refine vZ ?_ | refine alZ ?_ | refine stZ ?_ | (refine zGZ ?_ ?_ <;> (intro _hg; try (exfalso; omega))) | fail)) <;> (try clear zz)
 refine aR ev0 ev0 (yr (x:=l) (by omega) (by omega)) ?_
 rintro _ _ _ ⟨rfl,rfl,k,rfl,hk1,hk2⟩
 obtain ⟨p,hp⟩:∃ p,2 ^ k=p + 1:=⟨2 ^ k - 1,by omega⟩
 rw [hp] at hk1 hk2 ⊢
 (have zz:=aI @te (aI @tq @w1); repeat' (first | refine zW ?_ | apply a_n | refine zO ?_ | refine vZ ?_ | fail)) <;> (try clear zz)
 have wm:IntKind.wrap .u64 (((p + 1:Nat):Int) - 1)=(p:Int):=by rw [iu (by omega) (by omega)]; omega
 refine br (X:=Nat × List α) (fun x=>[(0,.msl b n 1 0 n),(1,.int .i64 a),(8,.int .i64 l),(9,.ptr nx 1 0),(10,.int .u64 ((p + 1:Nat):Int)),(11,.int .i64 (x.1:Nat))]) (fun x H' nxx=>w ≤ x.1∧x.1 ≤ w + 3∧H' b=some (x.2.map f)∧(∃ s,H' nx=some [.int .u64 s])∧(∀ i,i < nx→i ≠ b→H' i=H i)∧nxx=nx + 1∧PermR a (a + l) L x.2) (fun x=>w + 3 - x.1) (w,L) ⟨Nat.le_refl _,by dsimp only; omega,by dsimp only; rw [al hbn]; first | exact hH | (rw [al hbn]; exact hH),⟨_,au⟩,fun i h1 h2=>by rw [al (by omega)]; first | rfl | exact al (by omega),rfl,.refl⟩ (by simp (disch:=omega) only [agr,ZG,reduceEqDiff,↓reduceIte,List.length_cons,List.length_nil,Nat.zero_add,true_and]) ?_
 rintro ⟨i,M⟩ H1 nxx ⟨h1,h2,hb1,⟨s,hs⟩,hfr,rfl,hp1⟩
 dsimp only at *
 have hl:M.length=n:=by rw [hp1.len,hn]
 by_cases hi:i=w + 3
 ·subst hi
  (have zz:=aI @tq @w2; repeat' (first | refine zW ?_ | apply a_n | apply a_x | refine zO ?_ | refine vZ ?_ | (refine zGZ ?_ ?_ <;> (intro _hg; try (exfalso; omega))) | refine ae rfl ?_ | fail)) <;> (try clear zz)
  exact ⟨rfl,M,hb1,hfr,hp1⟩
 have ti:((i:Nat):Int) + 1=((i + 1:Nat):Int):=by omega
 (have zz:=aI @tq @w2; repeat' (first | refine zW ?_ | apply a_n | refine zO ?_ | refine vZ ?_ | (refine zGZ ?_ ?_ <;> (intro _hg; try (exfalso; omega))) | fail)) <;> (try clear zz)
 refine aR ev0 ev0 (yn hs) ?_
 rintro _ _ _ ⟨rfl,s1,rfl,rfl⟩
 obtain ⟨r,hr1,hr2⟩:=uJ (a:=s1) (m:=p) (by omega)
 obtain ⟨H2,hH2⟩:∃ H2,ak H1 nx [.int .u64 s1]=H2:=⟨_,rfl⟩
 have hb2:H2 b=some (M.map f):=by rw [← hH2,al hbn]; exact hb1
 have hs2:H2 nx=some [.int .u64 s1]:=by rw [← hH2]; exact au
 have hfr2:∀ i,i < nx→i ≠ b→H2 i=H i:=fun i k1 k2=>by rw [← hH2,al (by omega)]; exact hfr i k1 k2
 rw [hH2]
 clear hH2 hb1 hs hfr
 obtain ⟨z,hz,hzl⟩:∃ z:Nat,(if l ≤ r then (r:Int) - l else (r:Int))=(z:Int)∧z < l:=by
  split
  ·exact ⟨r - l,by omega,by omega⟩
  ·exact ⟨r,rfl,by omega⟩
 obtain ⟨M1,hl1,lm1,lm2⟩:=bW (f:=f) (M:=M) (i:=i) (j:=a + z) (by omega) (by omega)
 have lm3:=lm2
 simp only [bF,List.length_cons,List.length_nil,Nat.zero_add] at lm1 lm2
 by_cases hrl:l ≤ r
 ·rw [if_pos hrl] at hz
  (have zz:=aI @wm (aI @hr1 (aI @hz (aI @hb2 (aI @ti (aI @dT (aI hc.cells (aI hc.one (aI @lm1 @lm2)))))))); repeat' (first | refine zW ?_ | apply a_n | refine zO ?_ | refine vZ ?_ | refine stZ ?_ | (refine zGZ ?_ ?_ <;> (intro _hg; try (exfalso; omega))) | fail)) <;> (try clear zz)
  exact ⟨(i + 1,swp M i (a + z)),by dsimp only; omega,⟨by dsimp only; omega,by dsimp only; omega,by dsimp only; rw [aG,lm3,au],⟨s1,by rw [aG,al (Ne.symm hbn)]; exact hs2⟩,fun i k1 k2=>by rw [aG,al k2]; exact hfr2 i k1 k2,rfl,hp1.trans (PermR.swap (by omega) (by omega) (by omega))⟩,ag0⟩
 ·rw [if_neg hrl] at hz
  have hz':r=z:=by omega
  subst hz'
  (have zz:=aI @wm (aI @hr1 (aI @hb2 (aI @ti (aI @dT (aI hc.cells (aI hc.one (aI @lm1 @lm2))))))); repeat' (first | refine zW ?_ | apply a_n | refine zO ?_ | refine vZ ?_ | refine stZ ?_ | (refine zGZ ?_ ?_ <;> (intro _hg; try (exfalso; omega))) | fail)) <;> (try clear zz)
  exact ⟨(i + 1,swp M i (a + r)),by dsimp only; omega,⟨by dsimp only; omega,by dsimp only; omega,by dsimp only; rw [aG,lm3,au],⟨s1,by rw [aG,al (Ne.symm hbn)]; exact hs2⟩,fun i k1 k2=>by rw [aG,al k2]; exact hfr2 i k1 k2,rfl,hp1.trans (PermR.swap (by omega) (by omega) (by omega))⟩,ag0⟩
end
end Go.Proofs.YtjgpfclngkcedaaGreat
namespace Go.Proofs.YtjgpfclngkcedaaGreat
open Go Go.Abs
structure PS (H H1:Hp) (nx n1 b:Nat) (cs:List AV):Prop where
 at_:H1 b=some cs
 fr:∀ i,i < nx→i ≠ b→H1 i=H i
 le:nx ≤ n1
section
variable {H H1 H2:Hp} {nx n1 n2 b:Nat} {cs cs':List AV}
theorem PS.upd (h:PS H H1 nx n1 b cs):PS H (ak H1 b cs') nx n1 b cs':=⟨au,fun i k1 k2=>by rw [al k2]; exact h.fr i k1 k2,h.le⟩
theorem PS.new {v:List AV} (hb:b < nx) (h:PS H H1 nx n1 b cs):PS H (ak H1 n1 v) nx (n1 + 1) b cs :=
 have h1:=h.le
 ⟨by rw [al (by omega)]; exact h.at_,fun i k1 k2=>by rw [al (by omega)]; exact h.fr i k1 k2,by omega⟩
theorem PS.rec_ (h:PS H H1 nx n1 b cs) (h1:H2 b=some cs') (h2:∀ i,i < n1→i ≠ b→H2 i=H1 i) (h3:n1 ≤ n2):PS H H2 nx n2 b cs' :=
 have h4:=h.le
 ⟨h1,fun i k1 k2=>by rw [h2 i (by omega) k2]; exact h.fr i k1 k2,by omega⟩
end
section
variable {α:Type} [Inhabited α] {f:α→AV} {K:α→α→Int} {G:α→Prop} {g:Nat} {caps:List AV}
structure PI {α:Type} [Inhabited α] (K:α→α→Int) (a e:Nat) (L:List α) (a1 e1:Nat) (M:List α):Prop where
 lo:a ≤ a1
 mid:a1 ≤ e1
 hi:e1 ≤ e
 len:e ≤ L.length
 perm:PermR a e L M
 low:nF K a1 e1 M
 close:∀ N,PermR a1 e1 M N→aW K a1 e1 N→aW K a e N
variable {a e a1 e1:Nat} {L M N:List α}
theorem PI.mlen (h:PI K a e L a1 e1 M):e1 ≤ M.length:=by rw [h.perm.len]; exact Nat.le_trans h.hi h.len
theorem PI.start (h1:a ≤ e) (h2:e ≤ L.length) (h3:nF K a e L):PI K a e L a e L:=⟨Nat.le_refl _,h1,Nat.le_refl _,h2,.refl,h3,fun _ _ h=>h⟩
theorem PI.swap (h:PI K a e L a1 e1 M) (hp:PermR a1 e1 M N):PI K a e L a1 e1 N :=
 ⟨h.lo,h.mid,h.hi,h.len,h.perm.trans (hp.mono h.lo h.hi),h.low.perm hp h.mid h.mlen,fun N' k1 k2=>h.close N' (hp.trans k1) k2⟩
theorem PI.done (h:PI K a e L a1 e1 M) (hp:PermR a1 e1 M N) (hs:aW K a1 e1 N):PermR a e L N∧aW K a e N:=⟨h.perm.trans (hp.mono h.lo h.hi),h.close N hp hs⟩
theorem PI.equal {v:α} {m:Nat} (hK:Ord K) (h:PI K a e L a1 e1 M) (hp:PermR a1 e1 M N) (hv:¬ K (M.getD (a1 - 1) default) v < 0) (ha:0 < a1) (hm:a1 < m∧m ≤ e1) (h1:∀ p,a1 ≤ p→p < m→¬ K v (N.getD p default) < 0) (h2:∀ q,m ≤ q→q < e1→K v (N.getD q default) < 0):PI K a e L m e1 N:=by
 have hN:=h.swap hp
 have hlow:=hN.low
 have ho:N.getD (a1 - 1) default=M.getD (a1 - 1) default:=hp.out _ (.inl (by omega))
 refine ⟨by have:=h.lo; omega,hm.2,h.hi,h.len,hN.perm,fun q k0 k1 k2=>hK.negtr _ _ _ (h1 (m - 1) (by omega) (by omega)) (hK.asym _ _ (h2 q k1 k2)),fun N' k1 k2=>hN.close N' (k1.mono (by omega) (Nat.le_refl _)) (fun p q c1 c2 c3=>?_)⟩
 by_cases e1':m ≤ p
 ·exact k2 p q e1' c2 c3
 ·rw [k1.out p (.inl (by omega))]
  refine hK.negtr _ _ _ (h1 p c1 (by omega)) ?_
  by_cases e2:m ≤ q
  ·exact hK.asym _ _ (k1.all (p:=fun x=>K v x < 0) hm.2 hN.mlen h2 q e2 c3)
  ·rw [k1.out q (.inl (by omega))]
   exact hK.negtr _ _ _ hv (by rw [← ho]; exact hlow q ha (by omega) c3)
theorem aW.glue {m:Nat} (hK:Ord K) (h1:aW K a1 m N) (h2:aW K (m + 1) e1 N) (h3:∀ p,a1 ≤ p→p < m→¬ K (N.getD m default) (N.getD p default) < 0) (h4:∀ q,m < q→q < e1→¬ K (N.getD q default) (N.getD m default) < 0):aW K a1 e1 N:=fun p q k1 k2 k3=>by
 by_cases c1:q < m
 ·exact h1 p q k1 k2 c1
 ·by_cases c2:m < p
  ·exact h2 p q c2 k2 k3
  ·by_cases c3:p=m
   ·subst c3; exact h4 q (by omega) k3
   ·by_cases c4:q=m
    ·subst c4; exact h3 p k1 k2
    ·exact hK.negtr _ _ _ (h3 p k1 (by omega)) (h4 q (by omega) k3)
structure TwoS {α:Type} [Inhabited α] (K:α→α→Int) (a1 e1 m:Nat) (N:List α):Prop where
 mid:a1 ≤ m∧m < e1
 lt:∀ p,a1 ≤ p→p < m→¬ K (N.getD m default) (N.getD p default) < 0
 ge:∀ q,m < q→q < e1→¬ K (N.getD q default) (N.getD m default) < 0
theorem TwoS.left {m:Nat} {N':List α} (h:TwoS K a1 e1 m N) (hp:PermR a1 m N N') (hl:e1 ≤ N.length):TwoS K a1 e1 m N' :=
 have hm:=h.mid
 ⟨hm,by
  rw [hp.out m (.inr (Nat.le_refl _))]
  exact hp.all (p:=fun x=>¬ K (N.getD m default) x < 0) hm.1 (by omega) h.lt,fun q k1 k2=>by rw [hp.out m (.inr (Nat.le_refl _)),hp.out q (.inr (by omega))]; exact h.ge q k1 k2⟩
theorem TwoS.right {m:Nat} {N':List α} (h:TwoS K a1 e1 m N) (hp:PermR (m + 1) e1 N N') (hl:e1 ≤ N.length):TwoS K a1 e1 m N' :=
 have hm:=h.mid
 ⟨hm,fun p k1 k2=>by rw [hp.out m (.inl (by omega)),hp.out p (.inl (by omega))]; exact h.lt p k1 k2,by
  rw [hp.out m (.inl (by omega))]
  exact fun q k1 k2=>hp.all (p:=fun x=>¬ K x (N.getD m default) < 0) (by omega) hl (fun i c1 c2=>h.ge i (by omega) c2) q (by omega) k2⟩
theorem PI.left {m:Nat} (hK:Ord K) (h:PI K a e L a1 e1 M) (ht:TwoS K a1 e1 m M) (hp:PermR a1 m M N) (hs:aW K a1 m N):PI K a e L (m + 1) e1 N:=by
 have hm:=ht.mid
 have hN:=h.swap (hp.mono (Nat.le_refl _) (by omega))
 have htN:=ht.left hp h.mlen
 refine ⟨by have:=h.lo; omega,by omega,h.hi,h.len,hN.perm,fun q k0 k1 k2=>by rw [Nat.add_sub_cancel]; exact htN.ge q k1 k2,fun N' k1 k2=>hN.close N' (k1.mono (by omega) (Nat.le_refl _)) ?_⟩
 have ht':=htN.right k1 hN.mlen
 exact aW.glue hK (fun p q c1 c2 c3=>by rw [k1.out p (.inl (by omega)),k1.out q (.inl (by omega))]; exact hs p q c1 c2 c3) k2 ht'.lt ht'.ge
theorem PI.right {m:Nat} (hK:Ord K) (h:PI K a e L a1 e1 M) (ht:TwoS K a1 e1 m M) (hp:PermR (m + 1) e1 M N) (hs:aW K (m + 1) e1 N):PI K a e L a1 m N:=by
 have hm:=ht.mid
 have hN:=h.swap (hp.mono (by omega) (Nat.le_refl _))
 have htN:=ht.right hp h.mlen
 refine ⟨h.lo,hm.1,by have:=h.hi; omega,h.len,hN.perm,fun q k0 k1 k2=>hN.low q k0 k1 (by omega),fun N' k1 k2=>hN.close N' (k1.mono (Nat.le_refl _) (by omega)) ?_⟩
 have ht':=htN.left k1 hN.mlen
 exact aW.glue hK k2 (fun p q c1 c2 c3=>by rw [k1.out p (.inr (by omega)),k1.out q (.inr (by omega))]; exact hs p q c1 c2 c3) ht'.lt ht'.ge
theorem nF.sub {a e a' e':Nat} {M:List α} (h:nF K a e M) (ha:a'=a) (he:e' ≤ e):nF K a' e' M:=fun q k0 k1 k2=>by subst ha; exact h q k0 k1 (by omega)
end
end Go.Proofs.YtjgpfclngkcedaaGreat
namespace Go.Proofs.YtjgpfclngkcedaaGreat
open Go Go.Abs
section
variable {α:Type} [Inhabited α] {f:α→AV} {K:α→α→Int} {G:α→Prop} {g:Nat} {caps:List AV}
attribute [local irreducible] aw ac aP aK ay aA am aB aM aX Go.Abs.Fn aH Go.Abs.Pure ag ax Yl
theorem zD (hc:Cmp Tryz.prog f K G g caps) {b n:Nat} (hn2:n ≤ 1000000000):∀ (sz a e lim:Nat) (L:List α) (H:Hp) (nx:Nat),e - a < sz→H b=some (L.map f)→b < nx→L.length=n→(∀ x ∈ L,G x)→a ≤ e→e ≤ n→lim ≤ 64→nF K a e L →
    Abs.Fn Tryz.prog 130 [.msl b n 1 0 n,.int .i64 a,.int .i64 e,.int .i64 lim,.func g caps] H nx fun r H' nx'=>∃ L',PS H H' nx nx' b (L'.map f)∧PermR a e L L'∧aW K a e L':=by
 intro sz
 induction sz with
 | zero=>intro a e lim L H nx h; omega
 | succ sz ih =>
 intro a e lim L H nx hsz hH hbx hn hG hae hen hlim hlow
 have dcap:=hc.dcaps
 refine Abs.Fn.of_c2 follows vF (Nat.le_of_ble_eq_true rfl) ?_
 simp only [w5,cO,cG,cN,cM,cD,cF,cB,aq,aL]
 (have zz:=and_self; repeat' (first | refine zW ?_ | apply a_n | refine zO ?_ | refine vZ ?_ | fail)) <;> (try clear zz)
 refine br (X:=Nat × Nat × Nat × Bool × Bool × List α) (fun x=>[(0,.msl b n 1 0 n),(1,.int .i64 (x.1:Nat)),(2,.int .i64 (x.2.1:Nat)),(3,.int .i64 (x.2.2.1:Nat)),(4,.func g caps),(10,.bool x.2.2.2.1),(11,.bool x.2.2.2.2.1)]) (fun x H' nxx=>PI K a e L x.1 x.2.1 x.2.2.2.2.2∧PS H H' nx nxx b (x.2.2.2.2.2.map f)∧x.2.2.1 ≤ 64) (fun x=>x.2.1 - x.1) (a,e,lim,true,true,L) ⟨.start hae (by rw [hn]; exact hen) hlow,⟨hH,fun _ _ _=>rfl,Nat.le_refl _⟩,hlim⟩ ag0 ?_
 clear hlim hlow lim
 rintro ⟨a1,e1,lim,wb,wp,M⟩ H1 n1 ⟨hpi,hps,hlim⟩
 dsimp only at *
 have hlo:=hpi.lo; have hmid:=hpi.mid; have hhi:=hpi.hi
 obtain ⟨l,hl0⟩:∃ l,e1 - a1=l:=⟨_,rfl⟩
 rw [hl0]
 have te:(e1:Int) - (a1:Int)=(l:Int):=by omega
 have hlen:∀ M:List α,PI K a e L a1 e1 M→M.length=n:=fun M h=>by rw [h.perm.len,hn]
 have hGA:∀ M:List α,PI K a e L a1 e1 M→∀ x ∈ M,G x:=fun M h=>h.perm.mem hG
 have hbn:∀ (M:List α) (H1:Hp) (n1:Nat),PS H H1 nx n1 b (M.map f)→b < n1:=fun M H1 n1 h=>by have:=h.le; omega
 obtain ⟨T,hT,t0,t1,t2,t3,t4,t10,t11⟩:∃ T,tl [(0,.msl b n 1 0 n),(1,.int .i64 (a1:Nat)),(2,.int .i64 (e1:Nat)),(3,.int .i64 (lim:Nat)),(4,.func g caps),(10,.bool wb),(11,.bool wp)]=T∧T 0=.msl b n 1 0 n∧T 1=.int .i64 (a1:Nat)∧T 2=.int .i64 (e1:Nat)∧T 3=.int .i64 (lim:Nat)∧T 4=.func g caps∧T 10=.bool wb∧T 11=.bool wp:=⟨_,rfl,rfl,rfl,rfl,rfl,rfl,rfl,rfl⟩
 rw [hT]
 clear hT
 refine eK ?_
 refine ba (fun T H'' nx''=>T 0=.msl b n 1 0 n∧T 1=.int .i64 (a1:Nat)∧T 2=.int .i64 (e1:Nat)∧T 3=.int .i64 (lim:Nat)∧T 4=.func g caps∧T 10=.bool wb∧T 11=.bool wp∧T 12=.int .i64 (l:Nat)∧H1=H''∧n1=nx'') ?_ ?_
 ·(have zz:=aI @t0 (aI @t1 (aI @t2 (aI @t3 (aI @t4 (aI @t10 (aI @t11 @te)))))); repeat' (first | apply a_n | refine zO ?_ | refine vZ ?_ | fail)) <;> (try clear zz)
  exact ⟨(have zz:=@t0; evZ),(have zz:=@t1; evZ),(have zz:=@t2; evZ),(have zz:=@t3; evZ),(have zz:=@t4; evZ),(have zz:=@t10; evZ),(have zz:=@t11; evZ),ev0,rfl,rfl⟩
 clear t0 t1 t2 t3 t4 t10 t11
 rintro T _ _ ⟨t0,t1,t2,t3,t4,t10,t11,t12,rfl,rfl⟩
 refine ba (fun T H'' nx''=>T 0=.msl b n 1 0 n∧T 1=.int .i64 (a1:Nat)∧T 2=.int .i64 (e1:Nat)∧T 3=.int .i64 (lim:Nat)∧T 4=.func g caps∧T 10=.bool wb∧T 11=.bool wp∧T 12=.int .i64 (l:Nat)∧13 ≤ l∧H1=H''∧n1=nx'') ?_ ?_
 ·by_cases h12:l ≤ 12
  ·(have zz:=aI @t0 (aI @t1 (aI @t2 (aI @t3 (aI @t4 (aI @t10 (aI @t11 @t12)))))); repeat' (first | refine zW ?_ | apply a_n | refine zO ?_ | refine vZ ?_ | (refine zGZ ?_ ?_ <;> (intro _hg; try (exfalso; omega))) | fail)) <;> (try clear zz)
   refine aR ev0 (have zz:=aI @t0 (aI @t1 (aI @t2 (aI @t3 (aI @t4 (aI @t10 (aI @t11 @t12)))))); evZ) (AJ hc (b:=b) hps.at_ (hlen _ hpi) (hGA _ hpi) (a:=a1) (e:=e1) hmid (by omega) hn2) ?_
   rintro _ _ _ ⟨rfl,N,rfl,hpN,hsN⟩
   (have zz:=and_self; repeat' (first | apply a_n | apply a_r | refine zO ?_ | refine ae rfl ?_ | fail)) <;> (try clear zz)
   exact ⟨N,hps.upd,hpi.done hpN hsN⟩
  ·(have zz:=aI @t0 (aI @t1 (aI @t2 (aI @t3 (aI @t4 (aI @t10 (aI @t11 @t12)))))); repeat' (first | refine zW ?_ | apply a_n | refine zO ?_ | refine vZ ?_ | (refine zGZ ?_ ?_ <;> (intro _hg; try (exfalso; omega))) | fail)) <;> (try clear zz)
   exact ⟨(have zz:=@t0; evZ),(have zz:=@t1; evZ),(have zz:=@t2; evZ),(have zz:=@t3; evZ),(have zz:=@t4; evZ),(have zz:=@t10; evZ),(have zz:=@t11; evZ),(have zz:=@t12; evZ),by omega,rfl,rfl⟩
 clear t0 t1 t2 t3 t4 t10 t11 t12
 rintro T _ _ ⟨t0,t1,t2,t3,t4,t10,t11,t12,h13,rfl,rfl⟩
 refine ba (fun T H'' nx''=>T 0=.msl b n 1 0 n∧T 1=.int .i64 (a1:Nat)∧T 2=.int .i64 (e1:Nat)∧T 3=.int .i64 (lim:Nat)∧T 4=.func g caps∧T 10=.bool wb∧T 11=.bool wp∧T 12=.int .i64 (l:Nat)∧0 < lim∧H1=H''∧n1=nx'') ?_ ?_
 ·by_cases h12:lim=0
  ·subst h12
   have tz:decide (((0:Nat):Int)=0)=true:=rfl
   (have zz:=aI @t0 (aI @t1 (aI @t2 (aI @t3 (aI @t4 (aI @t10 (aI @t11 (aI @t12 @tz))))))); repeat' (first | refine zW ?_ | apply a_n | refine zO ?_ | refine vZ ?_ | refine cTZ ?_ | fail)) <;> (try clear zz)
   refine aR ev0 (have zz:=aI @t0 (aI @t1 (aI @t2 (aI @t3 (aI @t4 (aI @t10 (aI @t11 @t12)))))); evZ) (yo hc (b:=b) hps.at_ (hlen _ hpi) (hGA _ hpi) (a:=a1) (e:=e1) hmid (by omega) hn2) ?_
   rintro _ _ _ ⟨rfl,N,rfl,hpN,hsN⟩
   (have zz:=and_self; repeat' (first | apply a_n | apply a_r | refine zO ?_ | refine ae rfl ?_ | fail)) <;> (try clear zz)
   exact ⟨N,hps.upd,hpi.done hpN hsN⟩
  ·have tz:decide ((lim:Int)=0)=false:=decide_eq_false (by omega)
   (have zz:=aI @t0 (aI @t1 (aI @t2 (aI @t3 (aI @t4 (aI @t10 (aI @t11 (aI @t12 @tz))))))); repeat' (first | refine zW ?_ | apply a_n | refine zO ?_ | refine vZ ?_ | refine cFZ ?_ | fail)) <;> (try clear zz)
   exact ⟨(have zz:=@t0; evZ),(have zz:=@t1; evZ),(have zz:=@t2; evZ),(have zz:=@t3; evZ),(have zz:=@t4; evZ),(have zz:=@t10; evZ),(have zz:=@t11; evZ),(have zz:=@t12; evZ),by omega,rfl,rfl⟩
 clear t0 t1 t2 t3 t4 t10 t11 t12
 rintro T _ _ ⟨t0,t1,t2,t3,t4,t10,t11,t12,hlim1,rfl,rfl⟩
 refine ba (fun T H'' nx''=>∃ (lim:Nat) (M:List α),lim ≤ 64∧PI K a e L a1 e1 M∧PS H H'' nx nx'' b (M.map f)∧T 0=.msl b n 1 0 n∧T 1=.int .i64 (a1:Nat)∧T 2=.int .i64 (e1:Nat)∧T 3=.int .i64 (lim:Nat)∧T 4=.func g caps∧T 10=.bool wb∧T 11=.bool wp∧T 12=.int .i64 (l:Nat)) ?_ ?_
 ·cases wb
  ·obtain ⟨k,rfl⟩:∃ k,lim=k + 1:=⟨lim - 1,by omega⟩
   have tk:((k + 1:Nat):Int) - 1=(k:Int):=by omega
   (have zz:=aI @t0 (aI @t1 (aI @t2 (aI @t3 (aI @t4 (aI @t10 (aI @t11 @t12)))))); repeat' (first | refine zW ?_ | apply a_n | refine zO ?_ | refine vZ ?_ | refine cTZ ?_ | fail)) <;> (try clear zz)
   refine aR ev0 (have zz:=aI @t0 (aI @t1 (aI @t2 (aI @t3 (aI @t4 (aI @t10 (aI @t11 @t12)))))); evZ) (wP hc (b:=b) hps.at_ (hbn _ _ _ hps) (hlen _ hpi) (a:=a1) (e:=e1) (by omega) (by omega) hn2) ?_
   rintro _ _ _ ⟨rfl,N,hN1,hN2,hpN⟩
   (have zz:=aI @t0 (aI @t1 (aI @t2 (aI @t3 (aI @t4 (aI @t10 (aI @t11 (aI @t12 @tk))))))); repeat' (first | apply a_n | refine zO ?_ | refine vZ ?_ | fail)) <;> (try clear zz)
   exact ⟨k,N,by omega,hpi.swap hpN,hps.rec_ hN1 hN2 (Nat.le_succ _),(have zz:=@t0; evZ),(have zz:=@t1; evZ),(have zz:=@t2; evZ),(have zz:=@t3; evZ),(have zz:=@t4; evZ),(have zz:=@t10; evZ),(have zz:=@t11; evZ),(have zz:=@t12; evZ)⟩
  ·(have zz:=aI @t0 (aI @t1 (aI @t2 (aI @t3 (aI @t4 (aI @t10 (aI @t11 @t12)))))); repeat' (first | refine zW ?_ | apply a_n | refine zO ?_ | refine vZ ?_ | refine cFZ ?_ | fail)) <;> (try clear zz)
   exact ⟨lim,M,hlim,hpi,hps,(have zz:=@t0; evZ),(have zz:=@t1; evZ),(have zz:=@t2; evZ),(have zz:=@t3; evZ),(have zz:=@t4; evZ),(have zz:=@t10; evZ),(have zz:=@t11; evZ),(have zz:=@t12; evZ)⟩
 clear t0 t1 t2 t3 t4 t10 t11 t12 hpi hps hlim hlim1
 rintro T H1 n1 ⟨lim,M,hlim,hpi,hps,t0,t1,t2,t3,t4,t10,t11,t12⟩
 refine ba (fun T H'' nx''=>∃ (p:Nat) (hint:Int),a1 ≤ p∧p < e1∧PS H H'' nx nx'' b (M.map f)∧T 0=.msl b n 1 0 n∧T 1=.int .i64 (a1:Nat)∧T 2=.int .i64 (e1:Nat)∧T 3=.int .i64 (lim:Nat)∧T 4=.func g caps∧T 10=.bool wb∧T 11=.bool wp∧T 12=.int .i64 (l:Nat)∧T 13=.int .i64 (p:Nat)∧T 14=.int .i64 hint) ?_ ?_
 ·(have zz:=aI @t0 (aI @t1 (aI @t2 (aI @t3 (aI @t4 (aI @t10 (aI @t11 @t12)))))); repeat' (first | apply a_n | refine zO ?_ | refine vZ ?_ | fail)) <;> (try clear zz)
  refine aR ev0 (have zz:=aI @t0 (aI @t1 (aI @t2 (aI @t3 (aI @t4 (aI @t10 (aI @t11 @t12)))))); evZ) (v6 hc (b:=b) hps.at_ (hbn _ _ _ hps) (hlen _ hpi) (hGA _ hpi) (a:=a1) (e:=e1) (by omega) (by omega) hn2) ?_
  rintro _ _ _ ⟨rfl,p,hint,v,rfl,hp1,hp2,rfl⟩
  (have zz:=aI @t0 (aI @t1 (aI @t2 (aI @t3 (aI @t4 (aI @t10 (aI @t11 @t12)))))); repeat' (first | apply a_n | refine zO ?_ | refine vZ ?_ | fail)) <;> (try clear zz)
  exact ⟨p,hint,hp1,hp2,hps.new hbx,(have zz:=@t0; evZ),(have zz:=@t1; evZ),(have zz:=@t2; evZ),(have zz:=@t3; evZ),(have zz:=@t4; evZ),(have zz:=@t10; evZ),(have zz:=@t11; evZ),(have zz:=@t12; evZ),ev0,ev0⟩
 clear t0 t1 t2 t3 t4 t10 t11 t12 hps
 rintro T H1 n1 ⟨p,hint,hp1,hp2,hps,t0,t1,t2,t3,t4,t10,t11,t12,t13,t14⟩
 refine ba (fun T H'' nx''=>∃ (p:Nat) (hint:Int) (M:List α),a1 ≤ p∧p < e1∧PI K a e L a1 e1 M∧PS H H'' nx nx'' b (M.map f)∧T 0=.msl b n 1 0 n∧T 1=.int .i64 (a1:Nat)∧T 2=.int .i64 (e1:Nat)∧T 3=.int .i64 (lim:Nat)∧T 4=.func g caps∧T 10=.bool wb∧T 11=.bool wp∧T 12=.int .i64 (l:Nat)∧T 13=.int .i64 (p:Nat)∧T 14=.int .i64 hint) ?_ ?_
 ·by_cases h2:hint=2
  ·subst h2
   obtain ⟨p2,hp3⟩:∃ p2,e1 - 1 - (p - a1)=p2:=⟨_,rfl⟩
   have tp:(e1:Int) - 1 - ((p:Int) - (a1:Int))=(p2:Int):=by omega
   have tz:decide ((2:Int)=2)=true:=rfl
   (have zz:=aI @t0 (aI @t1 (aI @t2 (aI @t3 (aI @t4 (aI @t10 (aI @t11 (aI @t12 (aI @t13 (aI @t14 @tz))))))))); repeat' (first | refine zW ?_ | apply a_n | refine zO ?_ | refine vZ ?_ | (refine zGZ ?_ ?_ <;> (intro _hg; try (exfalso; omega))) | fail)) <;> (try clear zz)
   refine aR ev0 (have zz:=aI @t0 (aI @t1 (aI @t2 (aI @t3 (aI @t4 (aI @t10 (aI @t11 @t12)))))); evZ) (zq hc (b:=b) hps.at_ (hlen _ hpi) (a:=a1) (e:=e1) (by omega) (by omega) hn2) ?_
   rintro _ _ _ ⟨rfl,N,rfl,hpN⟩
   (have zz:=aI @t0 (aI @t1 (aI @t2 (aI @t3 (aI @t4 (aI @t10 (aI @t11 (aI @t12 (aI @t13 (aI @t14 @tp))))))))); repeat' (first | refine zW ?_ | apply a_n | refine zO ?_ | refine vZ ?_ | fail)) <;> (try clear zz)
   exact ⟨p2,1,N,by omega,by omega,hpi.swap hpN,hps.upd,(have zz:=@t0; evZ),(have zz:=@t1; evZ),(have zz:=@t2; evZ),(have zz:=@t3; evZ),(have zz:=@t4; evZ),(have zz:=@t10; evZ),(have zz:=@t11; evZ),(have zz:=@t12; evZ),ev0,ev0⟩
  ·have tz:decide (hint=2)=false:=decide_eq_false h2
   (have zz:=aI @t0 (aI @t1 (aI @t2 (aI @t3 (aI @t4 (aI @t10 (aI @t11 (aI @t12 (aI @t13 (aI @t14 @tz))))))))); repeat' (first | refine zW ?_ | apply a_n | refine zO ?_ | refine vZ ?_ | refine cFZ ?_ | fail)) <;> (try clear zz)
   exact ⟨p,hint,M,hp1,hp2,hpi,hps,(have zz:=@t0; evZ),(have zz:=@t1; evZ),(have zz:=@t2; evZ),(have zz:=@t3; evZ),(have zz:=@t4; evZ),(have zz:=@t10; evZ),(have zz:=@t11; evZ),(have zz:=@t12; evZ),(have zz:=@t13; evZ),(have zz:=@t14; evZ)⟩
 clear t0 t1 t2 t3 t4 t10 t11 t12 t13 t14 hps hpi hp1 hp2
 rintro T H1 n1 ⟨p,hint,M,hp1,hp2,hpi,hps,t0,t1,t2,t3,t4,t10,t11,t12,t13,t14⟩
 refine ba (fun T H'' nx''=>∃ (M:List α),PI K a e L a1 e1 M∧PS H H'' nx nx'' b (M.map f)∧T 0=.msl b n 1 0 n∧T 1=.int .i64 (a1:Nat)∧T 2=.int .i64 (e1:Nat)∧T 3=.int .i64 (lim:Nat)∧T 4=.func g caps∧T 10=.bool wb∧T 11=.bool wp∧T 12=.int .i64 (l:Nat)∧T 13=.int .i64 (p:Nat)) ?_ ?_
 ·cases wb
  ·cases wp
   ·(have zz:=aI @t0 (aI @t1 (aI @t2 (aI @t3 (aI @t4 (aI @t10 (aI @t11 (aI @t12 (aI @t13 @t14)))))))); repeat' (first | refine zW ?_ | apply a_n | refine zO ?_ | refine vZ ?_ | refine gFZ ?_ | refine cFZ ?_ | fail)) <;> (try clear zz)
    exact ⟨M,hpi,hps,(have zz:=@t0; evZ),(have zz:=@t1; evZ),(have zz:=@t2; evZ),(have zz:=@t3; evZ),(have zz:=@t4; evZ),(have zz:=@t10; evZ),(have zz:=@t11; evZ),(have zz:=@t12; evZ),(have zz:=@t13; evZ)⟩
   ·(have zz:=aI @t0 (aI @t1 (aI @t2 (aI @t3 (aI @t4 (aI @t10 (aI @t11 (aI @t12 (aI @t13 @t14)))))))); repeat' (first | refine zW ?_ | apply a_n | refine zO ?_ | refine vZ ?_ | refine gFZ ?_ | refine cFZ ?_ | fail)) <;> (try clear zz)
    exact ⟨M,hpi,hps,(have zz:=@t0; evZ),(have zz:=@t1; evZ),(have zz:=@t2; evZ),(have zz:=@t3; evZ),(have zz:=@t4; evZ),(have zz:=@t10; evZ),(have zz:=@t11; evZ),(have zz:=@t12; evZ),(have zz:=@t13; evZ)⟩
  ·cases wp
   ·(have zz:=aI @t0 (aI @t1 (aI @t2 (aI @t3 (aI @t4 (aI @t10 (aI @t11 (aI @t12 (aI @t13 @t14)))))))); repeat' (first | refine zW ?_ | apply a_n | refine zO ?_ | refine vZ ?_ | refine gTZ ?_ | refine gFZ ?_ | refine cFZ ?_ | fail)) <;> (try clear zz)
    exact ⟨M,hpi,hps,(have zz:=@t0; evZ),(have zz:=@t1; evZ),(have zz:=@t2; evZ),(have zz:=@t3; evZ),(have zz:=@t4; evZ),(have zz:=@t10; evZ),(have zz:=@t11; evZ),(have zz:=@t12; evZ),(have zz:=@t13; evZ)⟩
   ·by_cases h1:hint=1
    ·subst h1
     have tz:decide ((1:Int)=1)=true:=rfl
     (have zz:=aI @t0 (aI @t1 (aI @t2 (aI @t3 (aI @t4 (aI @t10 (aI @t11 (aI @t12 (aI @t13 (aI @t14 @tz))))))))); repeat' (first | refine zW ?_ | apply a_n | refine zO ?_ | refine vZ ?_ | refine gTZ ?_ | (refine zGZ ?_ ?_ <;> (intro _hg; try (exfalso; omega))) | fail)) <;> (try clear zz)
     refine aR ev0 (have zz:=aI @t0 (aI @t1 (aI @t2 (aI @t3 (aI @t4 (aI @t10 (aI @t11 @t12)))))); evZ) (tZ hc (b:=b) hps.at_ (hlen _ hpi) (hGA _ hpi) (a:=a1) (e:=e1) (by omega) (by omega) hn2 hpi.low) ?_
     rintro _ _ _ ⟨rfl,N,t,rfl,rfl,hpN,hsN⟩
     cases t
     ·(have zz:=aI @t0 (aI @t1 (aI @t2 (aI @t3 (aI @t4 (aI @t10 (aI @t11 (aI @t12 (aI @t13 @t14)))))))); repeat' (first | apply a_n | refine zO ?_ | refine cFZ ?_ | fail)) <;> (try clear zz)
      exact ⟨N,hpi.swap hpN,hps.upd,(have zz:=@t0; evZ),(have zz:=@t1; evZ),(have zz:=@t2; evZ),(have zz:=@t3; evZ),(have zz:=@t4; evZ),(have zz:=@t10; evZ),(have zz:=@t11; evZ),(have zz:=@t12; evZ),(have zz:=@t13; evZ)⟩
     ·(have zz:=aI @t0 (aI @t1 (aI @t2 (aI @t3 (aI @t4 (aI @t10 (aI @t11 (aI @t12 (aI @t13 @t14)))))))); repeat' (first | apply a_n | apply a_r | refine zO ?_ | refine cTZ ?_ | refine ae rfl ?_ | fail)) <;> (try clear zz)
      exact ⟨N,hps.upd,hpi.done hpN (hsN rfl)⟩
    ·have tz:decide (hint=1)=false:=decide_eq_false h1
     (have zz:=aI @t0 (aI @t1 (aI @t2 (aI @t3 (aI @t4 (aI @t10 (aI @t11 (aI @t12 (aI @t13 (aI @t14 @tz))))))))); repeat' (first | refine zW ?_ | apply a_n | refine zO ?_ | refine vZ ?_ | refine gTZ ?_ | refine cFZ ?_ | fail)) <;> (try clear zz)
     exact ⟨M,hpi,hps,(have zz:=@t0; evZ),(have zz:=@t1; evZ),(have zz:=@t2; evZ),(have zz:=@t3; evZ),(have zz:=@t4; evZ),(have zz:=@t10; evZ),(have zz:=@t11; evZ),(have zz:=@t12; evZ),(have zz:=@t13; evZ)⟩
 clear t0 t1 t2 t3 t4 t10 t11 t12 t13 t14 hps hpi hint
 rintro T H1 n1 ⟨M,hpi,hps,t0,t1,t2,t3,t4,t10,t11,t12,t13⟩
 have hbb:=hps.at_
 have hl:=hlen _ hpi
 have hGM:=hGA _ hpi
 refine ba (fun T H'' nx''=>T 0=.msl b n 1 0 n∧T 1=.int .i64 (a1:Nat)∧T 2=.int .i64 (e1:Nat)∧T 3=.int .i64 (lim:Nat)∧T 4=.func g caps∧T 10=.bool wb∧T 11=.bool wp∧T 12=.int .i64 (l:Nat)∧T 13=.int .i64 (p:Nat)∧H1=H''∧n1=nx'') ?_ ?_
 ·by_cases ha0:a1=0
  ·have tz:decide ((0:Int) < (a1:Int))=false:=decide_eq_false (by omega)
   (have zz:=aI @t0 (aI @t1 (aI @t2 (aI @t3 (aI @t4 (aI @t10 (aI @t11 (aI @t12 (aI @t13 @tz)))))))); repeat' (first | refine zW ?_ | refine zM ?_ | apply a_n | refine zO ?_ | refine vZ ?_ | refine gFZ ?_ | refine cFZ ?_ | fail)) <;> (try clear zz)
   exact ⟨(have zz:=@t0; evZ),(have zz:=@t1; evZ),(have zz:=@t2; evZ),(have zz:=@t3; evZ),(have zz:=@t4; evZ),(have zz:=@t10; evZ),(have zz:=@t11; evZ),(have zz:=@t12; evZ),(have zz:=@t13; evZ),rfl,rfl⟩
  have tz:decide ((0:Int) < (a1:Int))=true:=decide_eq_true (by omega)
  obtain ⟨k,hk⟩:∃ k,a1 - 1=k:=⟨_,rfl⟩
  have tk:(a1:Int) - 1=(k:Int):=by omega
  have lc:=hc.run (M.getD k default) (M.getD p default) (hGM _ (ah (by omega))) (hGM _ (ah (by omega)))
  have d1:=hc.dat (M.getD k default)
  have d2:=hc.dat (M.getD p default)
  generalize hKK:K (M.getD k default) (M.getD p default)=kk at lc
  by_cases hlt:kk < 0
  ·(have zz:=aI @t0 (aI @t1 (aI @t2 (aI @t3 (aI @t4 (aI @t10 (aI @t11 (aI @t12 (aI @t13 (aI @tz (aI @tk (aI @hbb (aI @Int.toNat_natCast (aI hc.cells hc.one))))))))))))); repeat' (first | refine zW ?_ | refine zM ?_ | apply a_n | refine zO ?_ | refine vZ ?_ | refine cZ ?_ (hp:=lc) (hs:=by (first | refine an ?_ rfl | apply aC); (repeat' (first | exact ai | apply aS | apply aE | exact d1 | exact d2 | exact aJ dcap)); first | done | fail) | refine gTZ ?_ | (refine zGZ ?_ ?_ <;> (intro _hg; try (exfalso; omega))) | fail)) <;> (try clear zz)
   exact ⟨(have zz:=@t0; evZ),(have zz:=@t1; evZ),(have zz:=@t2; evZ),(have zz:=@t3; evZ),(have zz:=@t4; evZ),(have zz:=@t10; evZ),(have zz:=@t11; evZ),(have zz:=@t12; evZ),(have zz:=@t13; evZ),rfl,rfl⟩
  ·(have zz:=aI @t0 (aI @t1 (aI @t2 (aI @t3 (aI @t4 (aI @t10 (aI @t11 (aI @t12 (aI @t13 (aI @tz (aI @tk (aI @hbb (aI @Int.toNat_natCast (aI hc.cells hc.one))))))))))))); repeat' (first | refine zW ?_ | refine zM ?_ | apply a_n | refine zO ?_ | refine vZ ?_ | refine cZ ?_ (hp:=lc) (hs:=by (first | refine an ?_ rfl | apply aC); (repeat' (first | exact ai | apply aS | apply aE | exact d1 | exact d2 | exact aJ dcap)); first | done | fail) | refine gTZ ?_ | (refine zGZ ?_ ?_ <;> (intro _hg; try (exfalso; omega))) | fail)) <;> (try clear zz)
   refine aR ev0 (have zz:=aI @t0 (aI @t1 (aI @t2 (aI @t3 (aI @t4 (aI @t10 (aI @t11 (aI @t12 @t13))))))); evZ) (wj hc (b:=b) hps.at_ (hlen _ hpi) (hGA _ hpi) (a:=a1) (e:=e1) (pv:=p) (by omega) (by omega) hn2 ⟨hp1,hp2⟩) ?_
   rintro _ _ _ ⟨rfl,N,m,rfl,hm1,hm2,rfl,hpN,q1,q2⟩
   (have zz:=aI @t0 (aI @t1 (aI @t2 (aI @t3 (aI @t4 (aI @t10 (aI @t11 (aI @t12 @t13))))))); repeat' (first | refine zW ?_ | apply a_n | apply a_x | refine zO ?_ | refine vZ ?_ | fail)) <;> (try clear zz)
   exact ⟨(m,e1,lim,wb,wp,N),by dsimp only; omega,⟨hpi.equal hc.ord hpN (by rw [hk,hKK]; exact hlt) (by omega) ⟨hm1,hm2⟩ q1 q2,hps.upd,hlim⟩,(have zz:=aI @t0 (aI @t1 (aI @t2 (aI @t3 (aI @t4 (aI @t10 (aI @t11 @t12)))))); agZ)⟩
 clear t0 t1 t2 t3 t4 t10 t11 t12 t13
 rintro T _ _ ⟨t0,t1,t2,t3,t4,t10,t11,t12,t13,rfl,rfl⟩
 refine ba (fun T H'' nx''=>∃ (M:List α) (m:Nat) (t:Bool),PI K a e L a1 e1 M∧TwoS K a1 e1 m M∧PS H H'' nx nx'' b (M.map f)∧T 0=.msl b n 1 0 n∧T 1=.int .i64 (a1:Nat)∧T 2=.int .i64 (e1:Nat)∧T 3=.int .i64 (lim:Nat)∧T 4=.func g caps∧T 10=.bool wb∧T 11=.bool wp∧T 12=.int .i64 (l:Nat)∧T 16=.int .i64 (m:Nat)∧T 17=.bool t) ?_ ?_
 ·(have zz:=aI @t0 (aI @t1 (aI @t2 (aI @t3 (aI @t4 (aI @t10 (aI @t11 (aI @t12 @t13))))))); repeat' (first | apply a_n | refine zO ?_ | refine vZ ?_ | fail)) <;> (try clear zz)
  refine aR ev0 (have zz:=aI @t0 (aI @t1 (aI @t2 (aI @t3 (aI @t4 (aI @t10 (aI @t11 (aI @t12 @t13))))))); evZ) (yH hc (b:=b) hps.at_ (hlen _ hpi) (hGA _ hpi) (a:=a1) (e:=e1) (pv:=p) (by omega) (by omega) hn2 ⟨hp1,hp2⟩) ?_
  rintro _ _ _ ⟨rfl,N,m,t,rfl,hm1,hm2,rfl,hpN,q1,q2⟩
  (have zz:=aI @t0 (aI @t1 (aI @t2 (aI @t3 (aI @t4 (aI @t10 (aI @t11 (aI @t12 @t13))))))); repeat' (first | apply a_n | refine zO ?_ | refine vZ ?_ | fail)) <;> (try clear zz)
  exact ⟨N,m,t,hpi.swap hpN,⟨⟨hm1,hm2⟩,fun p k1 k2=>hc.ord.asym _ _ (q1 p k1 k2),q2⟩,hps.upd,(have zz:=@t0; evZ),(have zz:=@t1; evZ),(have zz:=@t2; evZ),(have zz:=@t3; evZ),(have zz:=@t4; evZ),(have zz:=@t10; evZ),(have zz:=@t11; evZ),(have zz:=@t12; evZ),ev0,ev0⟩
 clear t0 t1 t2 t3 t4 t10 t11 t12 t13 hbb hl hGM hpi hps hp1 hp2 p
 rintro T H1 n1 ⟨M,m,t,hpi,hts,hps,t0,t1,t2,t3,t4,t10,t11,t12,t16,t17⟩
 have hm:=hts.mid
 have hl:=hlen _ hpi
 have tq:aQ .quo false false (.int .i64 (l:Int)) (.int .i64 8)=some (.int .i64 ((l / 8:Nat):Int)):=by
  rw [jp (by omega) (by omega) (by omega)]
  congr 2
 have tm:(m:Int) + 1=((m + 1:Nat):Int):=by omega
 by_cases hlr:(m:Int) - (a1:Int) < (e1:Int) - (m:Int)
 ·have tz:decide ((m:Int) - (a1:Int) < (e1:Int) - (m:Int))=true:=decide_eq_true hlr
  (have zz:=aI @t0 (aI @t1 (aI @t2 (aI @t3 (aI @t4 (aI @t10 (aI @t11 (aI @t12 (aI @t16 (aI @t17 (aI @tq @tz)))))))))); repeat' (first | refine zW ?_ | apply a_n | refine zO ?_ | refine vZ ?_ | refine cTZ ?_ | fail)) <;> (try clear zz)
  refine aR ev0 (have zz:=aI @t0 (aI @t1 (aI @t2 (aI @t3 (aI @t4 (aI @t10 (aI @t11 (aI @t12 (aI @t16 @t17)))))))); evZ) (ih a1 m lim M H1 n1 (by omega) hps.at_ (hbn _ _ _ hps) hl (hGA _ hpi) (by omega) (by omega) hlim (hpi.low.sub rfl (by omega))) ?_
  rintro _ H2 n2 ⟨N,hps2,hpN,hsN⟩
  (have zz:=aI @t0 (aI @t1 (aI @t2 (aI @t3 (aI @t4 (aI @t10 (aI @t11 (aI @t12 (aI @t16 (aI @t17 @tm))))))))); repeat' (first | apply a_n | refine zO ?_ | refine vZ ?_ | fail)) <;> (try clear zz)
  exact ⟨(m + 1,e1,lim,decide (((l / 8:Nat):Int) ≤ (m:Int) - (a1:Int)),t,N),by dsimp only; omega,⟨hpi.left hc.ord hts hpN hsN,hps.rec_ hps2.at_ hps2.fr hps2.le,hlim⟩,(have zz:=aI @t0 (aI @t1 (aI @t2 (aI @t3 (aI @t4 (aI @t10 (aI @t11 (aI @t12 (aI @t16 @t17)))))))); agZ)⟩
 ·have tz:decide ((m:Int) - (a1:Int) < (e1:Int) - (m:Int))=false:=decide_eq_false hlr
  (have zz:=aI @t0 (aI @t1 (aI @t2 (aI @t3 (aI @t4 (aI @t10 (aI @t11 (aI @t12 (aI @t16 (aI @t17 (aI @tq (aI @tz @tm))))))))))); repeat' (first | refine zW ?_ | apply a_n | refine zO ?_ | refine vZ ?_ | refine cFZ ?_ | fail)) <;> (try clear zz)
  refine aR ev0 (have zz:=aI @t0 (aI @t1 (aI @t2 (aI @t3 (aI @t4 (aI @t10 (aI @t11 (aI @t12 (aI @t16 @t17)))))))); evZ) (ih (m + 1) e1 lim M H1 n1 (by omega) hps.at_ (hbn _ _ _ hps) hl (hGA _ hpi) (by omega) (by omega) hlim (fun q k0 k1 k2=>by rw [Nat.add_sub_cancel]; exact hts.ge q k1 k2)) ?_
  rintro _ H2 n2 ⟨N,hps2,hpN,hsN⟩
  (have zz:=aI @t0 (aI @t1 (aI @t2 (aI @t3 (aI @t4 (aI @t10 (aI @t11 (aI @t12 (aI @t16 @t17)))))))); repeat' (first | apply a_n | refine zO ?_ | refine vZ ?_ | fail)) <;> (try clear zz)
  exact ⟨(a1,m,lim,decide (((l / 8:Nat):Int) ≤ (e1:Int) - (m:Int)),t,N),by dsimp only; omega,⟨hpi.right hc.ord hts hpN hsN,hps.rec_ hps2.at_ hps2.fr hps2.le,hlim⟩,(have zz:=aI @t0 (aI @t1 (aI @t2 (aI @t3 (aI @t4 (aI @t10 (aI @t11 (aI @t12 (aI @t16 @t17)))))))); agZ)⟩
end
end Go.Proofs.YtjgpfclngkcedaaGreat
namespace Go.Proofs.YtjgpfclngkcedaaGreat
open Go Go.Abs
open Nat (reduceEqDiff reduceAdd reduceLeDiff)
section
variable {α:Type} [Inhabited α] {f:α→AV} {K:α→α→Int} {G:α→Prop} {g:Nat} {caps:List AV}
attribute [local irreducible] aw ac aP aK ay aA am aB aM aX Go.Abs.Fn aH Go.Abs.Pure ag ax Yl
set_option maxRecDepth 100000 in
theorem wU {H:Hp} {nx:Nat}:Abs.Fn Tryz.prog 140 [.int .u64 0] H nx fun r H' nx'=>nx'=nx∧H'=H∧r=.int .i64 0:=by
 refine Abs.Fn.of_c2 follows uG (Nat.le_of_ble_eq_true rfl) ?_
 delta wA cO cG cN cM cD cF cB aq aL
 generalize hT:AV.str (ByteArray.mk (Array.mk [0,1,2,2,3,3,3,3,4,4,4,4,4,4,4,4,5,5,5,5,5,5,5,5,5,5,5,5,5,5,5,5,6,6,6,6,6,6,6,6,6,6,6,6,6,6,6,6,6,6,6,6,6,6,6,6,6,6,6,6,6,6,6,6,7,7,7,7,7,7,7,7,7,7,7,7,7,7,7,7,7,7,7,7,7,7,7,7,7,7,7,7,7,7,7,7,7,7,7,7,7,7,7,7,7,7,7,7,7,7,7,7,7,7,7,7,7,7,7,7,7,7,7,7,7,7,7,7,8,8,8,8,8,8,8,8,8,8,8,8,8,8,8,8,8,8,8,8,8,8,8,8,8,8,8,8,8,8,8,8,8,8,8,8,8,8,8,8,8,8,8,8,8,8,8,8,8,8,8,8,8,8,8,8,8,8,8,8,8,8,8,8,8,8,8,8,8,8,8,8,8,8,8,8,8,8,8,8,8,8,8,8,8,8,8,8,8,8,8,8,8,8,8,8,8,8,8,8,8,8,8,8,8,8,8,8,8,8,8,8,8,8,8,8,8,8,8,8,8,8,8,8,8,8,8,8]))=tb
 have ht:jg tb (.int .u8 0)=some (.int .u8 0):=by rw [← hT]; exact qw (x:=0) (by decide)
 clear hT
 have w8:IntKind.wrap .u8 0=0:=by decide
 (have zz:=aI @w8 @ht; repeat' (first | refine zW ?_ | apply a_n | refine zO ?_ | refine vZ ?_ | (refine zGZ ?_ ?_ <;> (intro _hg; try (exfalso; omega))) | refine ae rfl ?_ | refine r1Z ?_ | fail)) <;> (try clear zz)
 exact ⟨rfl,rfl,by congr 1⟩
theorem zX {H:Hp} {nx:Nat}:Abs.Fn Tryz.prog 112 [.int .u64 0] H nx fun r H' nx'=>nx'=nx∧H'=H∧r=.int .i64 0:=by
 refine Abs.Fn.of_c2 follows u4 (Nat.le_of_ble_eq_true rfl) ?_
 simp only [ww,cO,cG,cN,cM,cD,cF,cB,aq,aL]
 (have zz:=and_self; repeat' (first | refine zW ?_ | apply a_n | refine zO ?_ | refine vZ ?_ | refine cFZ ?_ | fail)) <;> (try clear zz)
 refine aR ev0 ev0 wU ?_
 rintro _ _ _ ⟨rfl,rfl,rfl⟩
 (have zz:=and_self; repeat' (first | apply a_n | refine zO ?_ | refine vZ ?_ | refine ae rfl ?_ | refine r1Z ?_ | fail)) <;> (try clear zz)
 exact ⟨rfl,rfl,rfl⟩
theorem wD (hc:Cmp Tryz.prog f K G g caps) {L:List α} {H:Hp} {b nx n:Nat} (hH:H b=some (L.map f)) (hbx:b < nx) (hn:L.length=n) (hn0:0 < n) (hG:∀ x ∈ L,G x) (hn2:n ≤ 1000000000) :
    Abs.Fn Tryz.prog 107 [.msl b n 1 0 n,.func g caps] H nx fun r H' nx'=>∃ L',PS H H' nx nx' b (L'.map f)∧L'.Perm L∧aW K 0 n L':=by
 refine Abs.Fn.of_c2 follows vO (Nat.le_of_ble_eq_true rfl) ?_
 simp only [wZ,cO,cG,cN,cM,cD,cF,cB,aq,aL]
 have w:IntKind.wrap .u64 (n:Int)=n:=iu (by omega) (by omega)
 (have zz:=@w; repeat' (first | refine zW ?_ | apply a_n | refine zO ?_ | refine vZ ?_ | fail)) <;> (try clear zz)
 refine aR ev0 (have zz:=@w; evZ) (xj hn0 (by omega)) ?_
 rintro _ _ _ ⟨rfl,rfl,k,rfl,h3,h4⟩
 have hk:k ≤ 62:=by
  rcases Nat.lt_or_ge 62 k with h | h
  ·have:=Nat.pow_le_pow_right (n:=2) (by omega) h
   omega
  ·exact h
 (have zz:=and_self; repeat' (first | apply a_n | refine zO ?_ | refine vZ ?_ | fail)) <;> (try clear zz)
 refine aR ev0 (have zz:=@Int.natCast_zero; evZ) (zD hc hn2 (n + 1) 0 n k L _ _ (by omega) hH hbx hn hG (by omega) (Nat.le_refl _) (by omega) (fun q h=>by omega)) ?_
 rintro _ _ _ ⟨N,hps,hp,hs⟩
 (have zz:=and_self; repeat' (first | apply a_n | refine zO ?_ | refine ae rfl ?_ | fail)) <;> (try clear zz)
 exact ⟨N,hps,hp.perm,hs⟩
end
end Go.Proofs.YtjgpfclngkcedaaGreat
namespace Go.Proofs.YtjgpfclngkcedaaGreat
open Go Go.Abs
section
variable {α:Type} [Inhabited α] {f:α→AV} {K:α→α→Int} {G:α→Prop}
attribute [local irreducible] aw ac aP aK ay aA am aB aM aX Go.Abs.Fn aH Go.Abs.Pure ag ax Yl
end
end Go.Proofs.YtjgpfclngkcedaaGreat
namespace Go.Proofs.YtjgpfclngkcedaaGreat
open Go Go.Abs
section
variable {α:Type} [Inhabited α] {f:α→AV} {K:α→α→Int} {G:α→Prop}
attribute [local irreducible] aw ac aP aK ay aA am aB aM aX Go.Abs.Fn aH Go.Abs.Pure ag ax Yl
end
end Go.Proofs.YtjgpfclngkcedaaGreat
namespace Go.Proofs.YtjgpfclngkcedaaGreat
open Go Go.Abs
section
variable {α:Type} [Inhabited α] {f:α→AV} {K:α→α→Int} {G:α→Prop}
attribute [local irreducible] aw ac aP aK ay aA am aB aM aX Go.Abs.Fn aH Go.Abs.Pure ag ax Yl
end
end Go.Proofs.YtjgpfclngkcedaaGreat
namespace Go.Proofs.YtjgpfclngkcedaaGreat
open Go Go.Abs
section
variable {α:Type} [Inhabited α] {f:α→AV} {K:α→α→Int} {G:α→Prop}
attribute [local irreducible] aw ac aP aK ay aA am aB aM aX Go.Abs.Fn aH Go.Abs.Pure ag ax Yl
end
end Go.Proofs.YtjgpfclngkcedaaGreat
namespace Go.Proofs.YtjgpfclngkcedaaGreat
open Go Go.Abs
section
variable {α:Type} [Inhabited α] {f:α→AV} {K:α→α→Int} {G:α→Prop}
attribute [local irreducible] aw ac aP aK ay aA am aB aM aX Go.Abs.Fn aH Go.Abs.Pure ag ax Yl
end
end Go.Proofs.YtjgpfclngkcedaaGreat
namespace Go.Proofs.YtjgpfclngkcedaaGreat
open Go Go.Abs
section
variable {α:Type} [Inhabited α] {f:α→AV} {K:α→α→Int} {G:α→Prop}
attribute [local irreducible] aw ac aP aK ay aA am aB aM aX Go.Abs.Fn aH Go.Abs.Pure ag ax Yl
end
end Go.Proofs.YtjgpfclngkcedaaGreat
namespace Go.Proofs.YtjgpfclngkcedaaGreat
open Go Go.Abs
section
variable {α:Type} [Inhabited α] {f:α→AV} {K:α→α→Int} {G:α→Prop}
attribute [local irreducible] aw ac aP aK ay aA am aB aM aX Go.Abs.Fn aH Go.Abs.Pure ag ax Yl
end
end Go.Proofs.YtjgpfclngkcedaaGreat
namespace Go.Proofs.YtjgpfclngkcedaaGreat
open Go Go.Abs
section
variable {α:Type} [Inhabited α] {f:α→AV} {K:α→α→Int} {G:α→Prop}
attribute [local irreducible] aw ac aP aK ay aA am aB aM aX Go.Abs.Fn aH Go.Abs.Pure ag ax Yl
end
end Go.Proofs.YtjgpfclngkcedaaGreat
namespace Go.Proofs.YtjgpfclngkcedaaGreat
open Go Go.Abs
section
variable {α:Type} [Inhabited α] {f:α→AV} {K:α→α→Int} {G:α→Prop}
attribute [local irreducible] aw ac aP aK ay aA am aB aM aX Go.Abs.Fn aH Go.Abs.Pure ag ax Yl
end
end Go.Proofs.YtjgpfclngkcedaaGreat
namespace Go.Proofs.YtjgpfclngkcedaaGreat
open Go Go.Abs
attribute [local irreducible] aw ac aP aK ay aA am aB aM aX Go.Abs.Fn aH Go.Abs.Pure ag ax Yl
end Go.Proofs.YtjgpfclngkcedaaGreat
namespace Go.Proofs.YtjgpfclngkcedaaGreat
open Go Go.Abs
open Nat (reduceEqDiff reduceAdd reduceLeDiff)
theorem gD {t:TaskV} (h:aN t=0):1 ≤ t.n∧t.n ≤ 5:=by
 unfold aN at h
 by_cases c:t.n < 1 ∨ 5 < t.n ∨ t.ins < 1 ∨ 8 < t.ins ∨ t.outs < 1 ∨ 8 < t.outs
 ·rw [if_pos c] at h; exact absurd h (by decide)
 ·omega
attribute [local irreducible] aw ac aP aK ay aA am aB aM aX Go.Abs.Fn aH Go.Abs.Pure ag ax Yl
end Go.Proofs.YtjgpfclngkcedaaGreat
namespace Go.Proofs.YtjgpfclngkcedaaGreat
open Go Go.Abs
theorem mU {H:Hp} {d:Nat} {x y z:AV}:cm 3 (ak H d [x,y,z]) (.msl d 3 3 0 1)=some (1,[x,y,z]):=ec (n:=3) (len:=1) (off:=0) (cs:=[x,y,z]) au rfl (by simp)
theorem qv {H:Hp} {b:Nat} {cs:List AV} (h:H b=some cs):Sub (only b cs) H:=fun x c hx=>by
 unfold only at hx; split at hx <;> cases hx; subst_vars; exact h
theorem dQ (c:CaseV):Dat (dM c):=Dat.agg (DatL.cons (aZ _) (DatL.cons (bc _) (DatL.cons (bc _) DatL.nil)))
attribute [local irreducible] aw ac aP aK ay aA am aB aM aX Go.Abs.Fn aH Go.Abs.Pure ag ax Yl
end Go.Proofs.YtjgpfclngkcedaaGreat
namespace Go.Proofs.YtjgpfclngkcedaaGreat
open Go Go.Abs
attribute [local irreducible] aw ac aP aK ay aA am aB aM aX Go.Abs.Fn aH Go.Abs.Pure ag ax Yl
end Go.Proofs.YtjgpfclngkcedaaGreat
namespace Go.Proofs.YtjgpfclngkcedaaGreat
open Go Go.Abs
open Nat (reduceEqDiff reduceAdd reduceLeDiff)
section
variable {t:TaskV} {S:List Nat} (hc:aN t=0) (hp:S.Pairwise (· < ·)) (hS:∀ i ∈ S,i < t.cases.length)
theorem d8 (h:aN t=0):(¬ (t.n < 1 ∨ 5 < t.n ∨ t.ins < 1 ∨ 8 < t.ins ∨ t.outs < 1 ∨ 8 < t.outs))∧(1 ≤ t.cases.length∧t.cases.length ≤ 1024)∧∀ k,k < t.cases.length→aV (t.cases.getD k default).inp t.n t.ins=0∧bg t.n t.outs (t.cases.getD k default)=0:=by
 unfold aN at h
 split at h
 ·omega
 ·rename_i h1
  split at h
  ·omega
  ·rename_i h2
   refine ⟨h1,by omega,fun k hk=>?_⟩
   have h3:=dr h k hk
   unfold dz at h3
   split at h3
   ·exact absurd h3 ‹_›
   ·rename_i h4
    split at h3
    ·omega
    ·exact ⟨Decidable.byContradiction fun x=>h4 x,h3⟩
include hc in
theorem wF {i j:Nat} (hi:i < t.cases.length) (hj:j < t.cases.length) (h:(t.cases.getD i default).inp=(t.cases.getD j default).inp):i=j:=by
 rcases Nat.lt_trichotomy i j with hl | rfl | hl
 ·have:=fY hc j i hl hj
  rw [h,cT] at this; omega
 ·rfl
 ·have:=fY hc i j hl hi
  rw [h,cT] at this; omega
end
def Br (w:Int) (i:Nat):Bool:=decide (IntKind.wrap .u16 ((BitVec.ofInt 16 (w.fdiv (2 ^ (min (i % 16) 16))) &&& BitVec.ofInt 16 1).toNat:Int)=1)
def sm (w:Int) (k:Nat):List Nat:=(List.range k).filter (Br w)
attribute [local irreducible] aw ac aP aK ay aA am aB aM aX Go.Abs.Fn aH Go.Abs.Pure ag ax Yl
end Go.Proofs.YtjgpfclngkcedaaGreat
namespace Go.Proofs.YtjgpfclngkcedaaGreat
open Go Go.Abs
open Nat (reduceEqDiff reduceAdd reduceLeDiff)
theorem eO {v:List Int} {n most:Int} (h:aV v n most=0):(v.length:Int)=n∧∀ x ∈ v,0 ≤ x∧x < most:=by
 unfold aV at h
 by_cases c:(v.length:Int) ≠ n
 ·rw [if_pos c] at h; exact absurd h (by decide)
 ·rw [if_neg c] at h
  refine ⟨by omega,fun x hx=>?_⟩
  by_cases c2:v.any (fun x=>decide (x < 0 ∨ most ≤ x))=true
  ·rw [if_pos c2] at h; exact absurd h (by decide)
  ·rw [Bool.not_eq_true,List.any_eq_false] at c2
   have:=c2 x hx
   simp only [decide_eq_true_eq] at this
   omega
theorem uw {t:TaskV} {k:Nat} (h:aN t=0) (hk:k < t.cases.length) :
    (1 ≤ (t.cases.getD k default).out.length)∧(∀ v ∈ (t.cases.getD k default).out,(v.length:Int)=t.n∧∀ x ∈ v,0 ≤ x∧x < t.outs)∧(∀ v ∈ (t.cases.getD k default).calm,v ∈ (t.cases.getD k default).out):=by
 have h0:=((d8 h).2.2 k hk).2
 generalize t.cases.getD k default=c at *
 unfold bg at h0
 split at h0
 ·exact absurd h0 (by decide)
 split at h0
 ·exact absurd h0 ‹_›
 rename_i g1 g2
 have o0:=dr (Decidable.of_not_not g2)
 have c0:=dr h0
 refine ⟨by omega,fun v hv=>?_,fun v hv=>?_⟩
 ·obtain ⟨j,hj,rfl⟩:=List.getElem_of_mem hv
  have:=o0 j hj
  unfold fQ at this
  split at this
  ·exact absurd this ‹_›
  ·rename_i g3
   have e:=eO (Decidable.of_not_not g3)
   simpa [List.getD,hj] using e
 ·obtain ⟨j,hj,rfl⟩:=List.getElem_of_mem hv
  have:=c0 j hj
  unfold fo at this
  split at this
  ·rename_i g3; simpa [List.getD,hj] using g3
  ·exact absurd this (by decide)
theorem rZ {t:TaskV} {k:Nat} {f:Int} (h:aN t=0) (hk:k < t.cases.length):(1 ≤ (ao (t.cases.getD k default) f).length)∧∀ v ∈ ao (t.cases.getD k default) f,(v.length:Int)=t.n∧∀ x ∈ v,0 ≤ x∧x < t.outs:=by
 obtain ⟨h1,h2,h3⟩:=uw h hk
 unfold ao
 split
 ·rename_i g; exact ⟨by omega,fun v hv=>h2 v (h3 v hv)⟩
 ·exact ⟨h1,h2⟩
attribute [local irreducible] aw ac aP aK ay aA am aB aM aX Go.Abs.Fn aH Go.Abs.Pure ag ax Yl
end Go.Proofs.YtjgpfclngkcedaaGreat
namespace Go.Proofs.YtjgpfclngkcedaaGreat
open Go Go.Abs
open Nat (reduceEqDiff reduceAdd reduceLeDiff)
section
variable {α β:Type} [Inhabited α]
theorem fv {l:List α} {f:α→Option β} (h:∀ i,i < l.length→f (l.getD i default)=none):l.findSome? f=none:=by
 rw [List.findSome?_eq_none_iff]
 intro x hx
 obtain ⟨i,hi,rfl⟩:=List.getElem_of_mem hx
 have:=h i hi
 rwa [show l.getD i default=l[i] by simp [List.getD,hi]] at this
theorem jy {l:List α} {f:α→Option β} {k:Nat} {w:β} (hk:k < l.length) (h:∀ i,i < k→f (l.getD i default)=none) (e:f (l.getD k default)=some w):l.findSome? f=some w:=by
 have e1:l=l.take k ++ l.drop k:=(List.take_append_drop k l).symm
 rw [e1,List.findSome?_append,fv (l:=l.take k) (fun i hi=>by
  rw [List.length_take] at hi
  rw [ik (by omega)]; exact h i (by omega)),bU hk,List.findSome?_cons,e]
 rfl
theorem ko {l:List α} {p:α→Bool} (h:∀ i,i < l.length→p (l.getD i default)=false):l.find? p=none:=by
 rw [List.find?_eq_none]
 intro x hx
 obtain ⟨i,hi,rfl⟩:=List.getElem_of_mem hx
 have:=h i hi
 rw [show l.getD i default=l[i] by simp [List.getD,hi]] at this
 rw [this]; decide
theorem u3 {l:List α} {p:α→Bool} {k:Nat} (hk:k < l.length) (h:∀ i,i < k→p (l.getD i default)=false) (e:p (l.getD k default)=true):l.find? p=some (l.getD k default):=by
 have e1:l=l.take k ++ l.drop k:=(List.take_append_drop k l).symm
 have e2:(l.take k ++ l.drop k).find? p=some (l.getD k default):=by
  rw [List.find?_append,ko (l:=l.take k) (fun i hi=>by
   rw [List.length_take] at hi
   rw [ik (by omega)]; exact h i (by omega)),bU hk,List.find?_cons_of_pos e]
  rfl
 rwa [← e1] at e2
end
theorem jf {n i:Nat} (h:i < n):(List.range n).getD i default=i:=by simp [List.getD,h]
def cR (a b:TaskV):Int:=if aN a ≠ 0 then aN a else if aN b ≠ 0 then aN b else if a.n ≠ b.n then 22 else 0
theorem sQ {a b:TaskV} (h:cR a b=0):aN a=0∧aN b=0∧a.n=b.n:=by
 unfold cR at h
 split at h
 ·exact absurd h ‹_›
 split at h
 ·exact absurd h ‹_›
 split at h
 ·exact absurd h (by decide)
 rename_i h1 h2 h3
 exact ⟨Decidable.of_not_not h1,Decidable.of_not_not h2,Decidable.of_not_not h3⟩
def cV (t:TaskV) (v:List Int):Option CaseV:=if v ∈ t.cases.map CaseV.inp then some (t.cases.getD (oV t v) default) else none
theorem sX {t:TaskV} {v:List Int} (h:v ∈ t.cases.map CaseV.inp):oV t v < t.cases.length:=by
 unfold oV
 have:=List.findIdx_lt_length_of_exists (xs:=t.cases.map CaseV.inp) (p:=fun x=>decide (x=v)) ⟨v,h,by simp⟩
 rwa [List.length_map] at this
theorem d4 {t:TaskV} {v:List Int} {c:CaseV} (h:cV t v=some c):c ∈ t.cases∧c.inp=v:=by
 unfold cV at h
 split at h
 ·rename_i hm
  cases h
  have hl:=sX hm
  refine ⟨ah hl,?_⟩
  rw [← eU hl]
  have hl2:oV t v < (t.cases.map CaseV.inp).length:=by rw [List.length_map]; exact hl
  have h3:(t.cases.map CaseV.inp).getD (oV t v) default=(t.cases.map CaseV.inp)[oV t v]:=by rw [List.getD_eq_getElem?_getD,List.getElem?_eq_getElem hl2]; rfl
  rw [h3]
  exact of_decide_eq_true (List.findIdx_getElem (xs:=t.cases.map CaseV.inp) (p:=fun x=>decide (x=v)) (w:=hl2))
 ·cases h
theorem rM {t:TaskV} {v:List Int} (h:cV t v=none):∀ c ∈ t.cases,c.inp ≠ v:=by
 unfold cV at h
 split at h
 ·cases h
 ·rename_i hm
  exact fun c hc e=>hm (List.mem_map.2 ⟨c,hc,e⟩)
def zC:CaseV:=⟨[],[],[]⟩
def jK (c:CaseV) (f:Int) (v:List Int):Bool:=(ao c f).any fun w=>bV w v f
def ju (a:TaskV) (c:CaseV):Option (List Int × Int × List Int):=match cV a c.inp with
 | none=>some (c.inp,0,[])
 | some x=>(List.range (2 ^ a.n.toNat)).findSome? fun (f:Nat)=>((ao x (f:Int)).find? fun v=>!jK c (f:Int) v).map fun v=>(c.inp,(f:Int),v)
def oB (a b:TaskV):Option (List Int × Int × List Int):=b.cases.findSome? (ju a)
def fe (a b:TaskV):List Int × Int × List Int × Bool × Int:=if cR a b ≠ 0 then ([],0,[],false,cR a b) else match oB a b with
 | none=>([],0,[],true,0)
 | some w=>(w.1,w.2.1,w.2.2,false,0)
def pq (r:List Int × Int × List Int × Bool × Int):AV:=.tup [aF r.1,.int .i64 r.2.1,aF r.2.2.1,.bool r.2.2.2.1,.int .i64 r.2.2.2.2]
theorem jE {v w:List Int} {f:Int} (h:v.length=w.length):bV v w f=bV w v f:=by
 unfold bV
 rw [h]
 congr 1
 funext p
 rw [show decide (w.getD p default ≠ v.getD p default)=decide (v.getD p default ≠ w.getD p default) from decide_eq_decide.2 ⟨fun h e=>h e.symm,fun h e=>h e.symm⟩]
theorem uK {l:List (List Int)} {v:List Int} {f:Int} (h:∀ w ∈ l,w.length=v.length):(l.any fun w=>bV v w f)=l.any fun w=>bV w v f:=by
 rw [Bool.eq_iff_iff,List.any_eq_true,List.any_eq_true]
 exact ⟨fun ⟨w,hw,e⟩=>⟨w,hw,by rw [jE (h w hw)]; exact e⟩,fun ⟨w,hw,e⟩=>⟨w,hw,by rw [← jE (h w hw)]; exact e⟩⟩
theorem ss {H:Hp} {i o:List Int} {f e:Int} {k:Bool} {x y:AV} (hx:Snap H x (aF i)) (hy:Snap H y (aF o)):Snap H (.tup [x,.int .i64 f,y,.bool k,.int .i64 e]) (pq (i,f,o,k,e)) :=
 gF (aj hx (aj (.int _ _) (aj hy (aj (.bool _) (aj (.int _ _) ai)))))
theorem ux {a:TaskV} {c x:CaseV} (h:cV a c.inp=some x) (hz:∀ f:Nat,f < 2 ^ a.n.toNat→∀ i,i < (ao x f).length→jK c f ((ao x f).getD i default)=true):ju a c=none:=by
 unfold ju
 rw [h]
 refine fv fun i hi=>?_
 rw [List.length_range] at hi
 rw [jf hi,Option.map_eq_none_iff]
 refine ko fun j hj=>?_
 rw [hz i hi j hj]; rfl
theorem v7 {a:TaskV} {c x:CaseV} {f k:Nat} (h:cV a c.inp=some x) (hz:∀ g:Nat,g < f→∀ i,i < (ao x g).length→jK c g ((ao x g).getD i default)=true) (hf:f < 2 ^ a.n.toNat) (hk:k < (ao x f).length) (hi:∀ i,i < k→jK c f ((ao x f).getD i default)=true) (e:jK c f ((ao x f).getD k default)=false):ju a c=some (c.inp,(f:Int),(ao x f).getD k default):=by
 unfold ju
 rw [h]
 refine jy (k:=f) (by rw [List.length_range]; exact hf) (fun g hg=>?_) ?_
 ·rw [jf (by omega),Option.map_eq_none_iff]
  refine ko fun j hj=>?_
  rw [hz g hg j hj]; rfl
 ·rw [jf hf,u3 hk (fun i h=>by rw [hi i h]; rfl) (by rw [e]; rfl)]
  rfl
attribute [local irreducible] aw ac aP aK ay aA am aB aM aX Go.Abs.Fn aH Go.Abs.Pure ag ax Yl
theorem ur (l:List CaseV) (p:CaseV→Bool) (g:Nat) (caps:List AV) (hd:∀ x ∈ caps,Dat x) (hg:∀ x ∈ l,Pure Tryz.prog g (.agg [aF x.inp,ar x.out,ar x.calm] :: caps) (.bool (p x))) (hl:Sh l):Pure Tryz.prog 100 [aO l,.func g caps] (.int .i64 (if l.any p then (l.findIdx p:Nat) else -1)):=by
 refine Pure.of_c2 follows xZ (Nat.le_of_ble_eq_true rfl) ?_
 simp only [y9,cO,cG,cN,cM,cD,cF,cB,aq,aL]
 have hl':l.length ≤ 17592186044416:=hl
 (have zz:=aI @af (aI @ab @ap); repeat' (first | refine zW ?_ | apply a_n | refine zO ?_ | refine vZ ?_ | fail)) <;> (try clear zz)
 refine jL (X:=Nat) (fun k=>[(0,aO l),(1,.func g caps),(7,.int .i64 l.length),(8,.int .i64 k)]) (fun k=>k ≤ l.length∧∀ i,i < k→p (l.getD i default)=false) (fun k=>l.length - k) 0 ⟨Nat.zero_le _,by simp⟩ ag0 ?_
 rintro k ⟨h1,h2⟩
 by_cases hk:k < l.length
 ·have hc:=hg _ (ah hk)
  have d3:=dQ (l.getD k default)
  have ix:=bd hk
  have e:l.getD k default=l[k]:=by simp [List.getD,hk]
  unfold dM at d3
  cases hb:p (l.getD k default)
  ·rw [hb] at hc
   (have zz:=aI @af (aI @ab (aI @ap @ix)); repeat' (first | refine zW ?_ | apply a_n | refine zO ?_ | refine vZ ?_ | refine cZ ?_ (hp:=hc) (hs:=by (first | refine an ?_ rfl | apply aC); (repeat' (first | exact ai | apply aS | apply aE | exact d3 | exact aJ hd)); first | done | fail) | refine cFZ ?_ | (refine zGZ ?_ ?_ <;> (intro _hg; try (exfalso; omega))) | fail)) <;> (try clear zz)
   refine ⟨k + 1,⟨by omega,fun i hi=>?_⟩,by omega,ag0,rfl,rfl⟩
   rcases Nat.lt_succ_iff_lt_or_eq.1 hi with h | rfl
   ·exact h2 i h
   ·exact hb
  ·rw [hb] at hc
   (have zz:=aI @af (aI @ab (aI @ap @ix)); repeat' (first | refine zW ?_ | apply a_n | apply a_r | refine zO ?_ | refine vZ ?_ | refine cZ ?_ (hp:=hc) (hs:=by (first | refine an ?_ rfl | apply aC); (repeat' (first | exact ai | apply aS | apply aE | exact d3 | exact aJ hd)); first | done | fail) | refine cTZ ?_ | (refine zGZ ?_ ?_ <;> (intro _hg; try (exfalso; omega))) | refine ae rfl ?_ | refine r1Z ?_ | fail)) <;> (try clear zz)
   refine bm ?_
   rw [e] at hb
   rw [if_pos (List.any_eq_true.2 ⟨l[k],List.getElem_mem hk,hb⟩),(List.findIdx_eq hk).2 ⟨hb,fun j hj=>by have:=h2 j hj; rwa [show l.getD j default=l[j] by simp [List.getD,show j < l.length by omega]] at this⟩]
 ·(have zz:=aI @af (aI @ab @ap); repeat' (first | refine zW ?_ | apply a_n | apply a_x | refine zO ?_ | refine vZ ?_ | (refine zGZ ?_ ?_ <;> (intro _hg; try (exfalso; omega))) | refine ae rfl ?_ | refine r1Z ?_ | fail)) <;> (try clear zz)
  refine bm ?_
  rw [if_neg]
  rw [Bool.not_eq_true,List.any_eq_false]
  intro x hx
  obtain ⟨i,hi,e⟩:=List.getElem_of_mem hx
  have:=h2 i (by omega)
  rw [show l.getD i default=x by simp [List.getD,hi,e]] at this
  simp [this]
theorem vn (c:CaseV) (v:List Int) (hc:Sh c.inp) (hv:Sh v):Pure Tryz.prog 101 [.agg [aF c.inp,ar c.out,ar c.calm],.iptr [aF v] 0] (.bool (decide (c.inp=v))):=by
 refine Pure.of_c2 follows xo (Nat.le_of_ble_eq_true rfl) ?_
 simp only [x6,cO,cG,cN,cM,cD,cF,cB,aq,aL]
 (have zz:=and_self; repeat' (first | refine zW ?_ | apply a_n | refine zO ?_ | refine vZ ?_ | refine cZ ?_ (hp:=by exact gA _ _ hc hv) | refine bxZ ?_ | refine ae rfl ?_ | refine r1Z ?_ | fail)) <;> (try clear zz)
 exact .bool _
theorem zb {H:Hp}:Snap H (.agg [.esl,.esl,.esl]) (dM zC):=gV (aj (.eslsl 1) (aj (.eslsl 1) (aj (.eslsl 1) ai)))
theorem sS (t:TaskV) (v:List Int) (hs:∀ c ∈ t.cases,ShC c) (hsc:Sh t.cases) (hv:Sh v):Pure Tryz.prog 41 [bn t,aF v] (.tup [dM ((cV t v).getD zC),.bool (cV t v).isSome]):=by
 refine Pure.of_c2 follows AM (Nat.le_of_ble_eq_true rfl) ?_
 simp only [b41,cO,cG,cN,cM,cD,cF,cB,aq,aL]
 have hA:=ur t.cases (fun c=>decide (c.inp=v)) 101 [.iptr [aF v] 0] (fun x hx=>by
  simp only [List.mem_singleton] at hx; subst hx
  exact .iptr (DatL.cons (aZ _) DatL.nil)) (fun c hc=>vn c v (hs c hc).1 hv) hsc
 have hany:(t.cases.any fun c=>decide (c.inp=v))=decide (v ∈ t.cases.map CaseV.inp):=by
  rw [← sC,List.any_map]; rfl
 have hidx:t.cases.findIdx (fun c=>decide (c.inp=v))=oV t v:=by
  unfold oV
  rw [List.findIdx_map]; rfl
 rw [hany,hidx] at hA
 unfold cV
 unfold bn
 by_cases hm:v ∈ t.cases.map CaseV.inp
 ·rw [if_pos (decide_eq_true hm)] at hA
  rw [if_pos hm]
  have hl:=sX hm
  have hl':t.cases.length ≤ 17592186044416:=hsc
  have ix:=bd hl
  generalize oV t v=q at *
  (have zz:=aI @af (aI @ab @ap); repeat' (first | refine zW ?_ | apply a_n | refine zO ?_ | refine vZ ?_ | refine alZ ?_ | refine bxZ ?_ | fail)) <;> (try clear zz)
  refine da ev0 ev0 hA (an (by (repeat' (first | exact ai | exact Dat.snap Dat.int | exact Dat.snap Dat.bool | exact Dat.snap Dat.str | exact Dat.snap Dat.esl | exact Dat.snap Dat.nilf | exact Dat.snap (aZ _) | exact Dat.snap (bc _) | exact b7 _ _ | apply aj | apply dI | apply dK | (apply cf; (focus ((try simp only [bi,ZA,reduceEqDiff,↓reduceIte,reduceAdd,reduceLeDiff]); with_reducible rfl)); (focus rfl))))) rfl) ?_
  have d3:=dQ (t.cases.getD q default)
  (have zz:=aI @af (aI @ab (aI @ap @ix)); repeat' (first | refine zW ?_ | apply a_n | refine zO ?_ | refine vZ ?_ | refine stZ ?_ | (refine zGZ ?_ ?_ <;> (intro _hg; try (exfalso; omega))) | refine ae rfl ?_ | refine r2Z ?_ | fail)) <;> (try clear zz)
  exact gF (aj (d3 _) (aj (.bool _) ai))
 ·rw [if_neg (by simpa using hm)] at hA
  rw [if_neg hm]
  (have zz:=aI @af (aI @ab @ap); repeat' (first | refine zW ?_ | apply a_n | refine zO ?_ | refine vZ ?_ | refine alZ ?_ | refine bxZ ?_ | fail)) <;> (try clear zz)
  refine da ev0 ev0 hA (an (by (repeat' (first | exact ai | exact Dat.snap Dat.int | exact Dat.snap Dat.bool | exact Dat.snap Dat.str | exact Dat.snap Dat.esl | exact Dat.snap Dat.nilf | exact Dat.snap (aZ _) | exact Dat.snap (bc _) | exact b7 _ _ | apply aj | apply dI | apply dK | (apply cf; (focus ((try simp only [bi,ZA,reduceEqDiff,↓reduceIte,reduceAdd,reduceLeDiff]); with_reducible rfl)); (focus rfl))))) rfl) ?_
  (have zz:=aI @af (aI @ab @ap); repeat' (first | refine zW ?_ | apply a_n | apply a_r | refine zO ?_ | refine vZ ?_ | refine stZ ?_ | (refine zGZ ?_ ?_ <;> (intro _hg; try (exfalso; omega))) | refine ae rfl ?_ | refine r2Z ?_ | fail)) <;> (try clear zz)
  exact gF (aj zb (aj (.bool _) ai))
theorem rB (c:CaseV):Pure Tryz.prog 61 [.agg [aF c.inp,ar c.out,ar c.calm]] (ar (ao c 0)):=by
 refine Pure.of_c2 follows zA (Nat.le_of_ble_eq_true rfl) ?_
 simp only [b61,cO,cG,cN,cM,cD,cF,cB,aq,aL]
 unfold ao
 (have zz:=and_self; repeat' (first | refine zW ?_ | apply a_n | apply a_r | refine zO ?_ | refine vZ ?_ | refine bxZ ?_ | (refine zGZ ?_ ?_ <;> (intro _hg; try (exfalso; omega))) | refine ae rfl ?_ | refine r1Z ?_ | fail)) <;> (try clear zz)
 ·rw [if_pos (by omega)]; exact bc _ _
 ·rw [if_neg (by omega)]; exact bc _ _
theorem ms (c:CaseV) (f:Int):Pure Tryz.prog 43 [.agg [aF c.inp,ar c.out,ar c.calm],.int .i64 f] (ar (ao c f)):=by
 refine Pure.of_c2 follows AR (Nat.le_of_ble_eq_true rfl) ?_
 simp only [b43,cO,cG,cN,cM,cD,cF,cB,aq,aL]
 have hc:=rB c
 have d3:=dQ c
 unfold dM at d3
 by_cases h:f=0
 ·subst h
  (have zz:=and_self; repeat' (first | refine zW ?_ | apply a_n | apply a_r | refine zO ?_ | refine vZ ?_ | refine cZ ?_ (hp:=hc) | refine bxZ ?_ | (refine zGZ ?_ ?_ <;> (intro _hg; try (exfalso; omega))) | refine ae rfl ?_ | refine r1Z ?_ | fail)) <;> (try clear zz)
  exact bc _ _
 ·have e:ao c f=c.out:=by unfold ao; rw [if_neg (fun k=>h k.1)]
  rw [e]
  (have zz:=and_self; repeat' (first | refine zW ?_ | apply a_n | refine zO ?_ | refine vZ ?_ | refine bxZ ?_ | (refine zGZ ?_ ?_ <;> (intro _hg; try (exfalso; omega))) | refine ae rfl ?_ | refine r1Z ?_ | fail)) <;> (try clear zz)
  exact bc _ _
theorem th (v w:List Int) (f:Int) (hv:Sh v) (hl:v.length ≤ w.length) (hw:Sh w):Pure Tryz.prog 102 [aF w,.iptr [aF v] 0,.iptr [.int .i64 f] 0] (.bool (bV v w f)):=by
 refine Pure.of_c2 follows xk (Nat.le_of_ble_eq_true rfl) ?_
 simp only [yU,cO,cG,cN,cM,cD,cF,cB,aq,aL]
 have hv':v.length ≤ 17592186044416:=hv
 have hw':w.length ≤ 17592186044416:=hw
 (have zz:=and_self; repeat' (first | refine zW ?_ | apply a_n | refine zO ?_ | refine vZ ?_ | fail)) <;> (try clear zz)
 refine kI (fun k=>[(0,aF w),(1,.iptr [aF v] 0),(2,.iptr [.int .i64 f] 0),(7,.int .i64 v.length),(8,.int .i64 k)]) v.length (fun i=>(decide (qj (p8 f i)=0) && decide (w.getD i default ≠ v.getD i default))=false) ag0 ?_
 intro k hk h2
 have hno:(decide (qj (p8 f k)=0) && decide (w.getD k default ≠ v.getD k default))=true→k < v.length→bV v w f=false:=fun h hk=>by
  unfold bV
  rw [Bool.eq_false_iff,ne_eq,List.all_eq_true]
  intro h'
  have:=h' k (List.mem_range.2 hk)
  rw [h] at this
  exact absurd this (by decide)
 by_cases hk2:k < v.length
 rotate_left
 ·have e:bV v w f=true:=by
    unfold bV
    rw [List.all_eq_true]
    intro i hi
    rw [h2 i (by have:=List.mem_range.1 hi; omega)]
    rfl
  rw [e]
  (have zz:=and_self; repeat' (first | refine zW ?_ | apply a_n | apply a_x | refine zO ?_ | refine vZ ?_ | (refine zGZ ?_ ?_ <;> (intro _hg; try (exfalso; omega))) | refine ae rfl ?_ | refine r1Z ?_ | fail)) <;> (try clear zz)
  exact .bool _
 by_cases hA:qj (p8 f k)=0
 ·by_cases hd:v.getD k default=w.getD k default
  ·have z:decide (v.getD k default ≠ w.getD k default)=false:=decide_eq_false (fun h=>h hd)
   (have zz:=aI @rF (aI @po (aI @hA @z)); repeat' (first | refine zW ?_ | apply a_n | refine zO ?_ | refine vZ ?_ | refine gTZ ?_ | refine cFZ ?_ | (refine zGZ ?_ ?_ <;> (intro _hg; try (exfalso; omega))) | fail)) <;> (try clear zz)
   all_goals exact ⟨hk2,by rw [decide_eq_false (p:=w.getD k default ≠ v.getD k default) (fun h=>h hd.symm),Bool.and_false],ag0,rfl,rfl⟩
  ·have z:decide (v.getD k default ≠ w.getD k default)=true:=decide_eq_true hd
   rw [hno (by rw [decide_eq_true hA,decide_eq_true (p:=w.getD k default ≠ v.getD k default) (fun h=>hd h.symm)]; rfl) hk2]
   (have zz:=aI @rF (aI @po (aI @hA @z)); repeat' (first | refine zW ?_ | apply a_n | apply a_r | refine zO ?_ | refine vZ ?_ | refine gTZ ?_ | refine cTZ ?_ | (refine zGZ ?_ ?_ <;> (intro _hg; try (exfalso; omega))) | refine ae rfl ?_ | refine r1Z ?_ | fail)) <;> (try clear zz)
   all_goals exact .bool _
 ·have z:decide (qj (p8 f k)=0)=false:=decide_eq_false hA
  (have zz:=aI @rF (aI @po @z); repeat' (first | refine zW ?_ | apply a_n | refine zO ?_ | refine vZ ?_ | refine gFZ ?_ | refine cFZ ?_ | (refine zGZ ?_ ?_ <;> (intro _hg; try (exfalso; omega))) | fail)) <;> (try clear zz)
  all_goals exact ⟨hk2,by rw [z,Bool.false_and],ag0,rfl,rfl⟩
theorem ue (l:List (List Int)) (v:List Int) (f:Int) (hl:Sh l) (hv:v.length ≤ 17592186044416) (hw:∀ w ∈ l,w.length=v.length):Pure Tryz.prog 44 [ar l,.int .i64 f,aF v] (.bool (l.any fun w=>bV w v f)):=by
 refine Pure.of_c2 follows AC (Nat.le_of_ble_eq_true rfl) ?_
 simp only [b44,cO,cG,cN,cM,cD,cF,cB,aq,aL]
 rw [← uK hw]
 have hA:=jN l (fun w=>bV v w f) 102 [.iptr [aF v] 0,.iptr [.int .i64 f] 0] (fun x hx=>by
  simp only [List.mem_cons,List.not_mem_nil,or_false] at hx
  rcases hx with rfl | rfl
  ·exact .iptr (DatL.cons (aZ _) DatL.nil)
  ·exact .iptr (DatL.cons .int DatL.nil)) (fun w hw2=>th v w f hv (by rw [hw w hw2]; exact Nat.le_refl _) (by show w.length ≤ _; rw [hw w hw2]; exact hv)) hl
 (have zz:=and_self; repeat' (first | refine zW ?_ | apply a_n | refine zO ?_ | refine vZ ?_ | refine bxZ ?_ | fail)) <;> (try clear zz)
 refine da ev0 ev0 hA (an (by (repeat' (first | exact ai | exact Dat.snap Dat.int | exact Dat.snap Dat.bool | exact Dat.snap Dat.str | exact Dat.snap Dat.esl | exact Dat.snap Dat.nilf | exact Dat.snap (aZ _) | exact Dat.snap (bc _) | apply aj | apply dI | apply dK | (apply cf; (focus ((try simp only [bi,ZA,reduceEqDiff,↓reduceIte,reduceAdd,reduceLeDiff]); with_reducible rfl)); (focus rfl))))) rfl) ?_
 (have zz:=and_self; repeat' (first | apply a_n | refine zO ?_ | refine vZ ?_ | refine ae rfl ?_ | refine r1Z ?_ | fail)) <;> (try clear zz)
 exact .bool _
theorem uR (a b:TaskV) (ha:∀ c ∈ a.cases,ShC c) (ha2:Sh a.cases) (hb:∀ c ∈ b.cases,ShC c) (hb2:Sh b.cases):Pure Tryz.prog 40 [bn a,bn b] (.int .i64 (cR a b)):=by
 refine Pure.of_c2 follows Ac (Nat.le_of_ble_eq_true rfl) ?_
 simp only [b40,cO,cG,cN,cM,cD,cF,cB,aq,aL]
 have c1:=pg a ha ha2
 have c2:=pg b hb hb2
 have d1:=bK a
 have d2:=bK b
 unfold cR
 generalize aN a=X at *
 generalize aN b=Y at *
 unfold bn at *
 by_cases hX:X=0
 rotate_left
 ·rw [if_pos hX]
  (have zz:=aI @af @ab; repeat' (first | refine zW ?_ | apply a_n | apply a_r | refine zO ?_ | refine vZ ?_ | refine cZ ?_ (hp:=c1) | refine bxZ ?_ | (refine zGZ ?_ ?_ <;> (intro _hg; try (exfalso; omega))) | refine ae rfl ?_ | refine r1Z ?_ | fail)) <;> (try clear zz)
  exact .int _ _
 rw [if_neg (fun h=>h hX)]
 by_cases hY:Y=0
 rotate_left
 ·rw [if_pos hY]
  (have zz:=aI @af @ab; repeat' (first | refine zW ?_ | apply a_n | apply a_r | refine zO ?_ | refine vZ ?_ | refine cZ ?_ (hp:=by first | exact c1 | exact c2) | refine bxZ ?_ | (refine zGZ ?_ ?_ <;> (intro _hg; try (exfalso; omega))) | refine ae rfl ?_ | refine r1Z ?_ | fail)) <;> (try clear zz)
  exact .int _ _
 rw [if_neg (fun h=>h hY)]
 by_cases hN:a.n=b.n
 ·have z:decide (a.n ≠ b.n)=false:=decide_eq_false (fun h=>h hN)
  rw [if_neg (fun h=>h hN)]
  (have zz:=aI @af (aI @ab @z); repeat' (first | refine zW ?_ | apply a_n | refine zO ?_ | refine vZ ?_ | refine cZ ?_ (hp:=by first | exact c1 | exact c2) | refine bxZ ?_ | refine cFZ ?_ | (refine zGZ ?_ ?_ <;> (intro _hg; try (exfalso; omega))) | refine ae rfl ?_ | refine r1Z ?_ | fail)) <;> (try clear zz)
  exact .int _ _
 ·have z:decide (a.n ≠ b.n)=true:=decide_eq_true hN
  rw [if_pos hN]
  (have zz:=aI @af (aI @ab @z); repeat' (first | refine zW ?_ | apply a_n | apply a_r | refine zO ?_ | refine vZ ?_ | refine cZ ?_ (hp:=by first | exact c1 | exact c2) | refine bxZ ?_ | refine cTZ ?_ | (refine zGZ ?_ ?_ <;> (intro _hg; try (exfalso; omega))) | refine ae rfl ?_ | refine r1Z ?_ | fail)) <;> (try clear zz)
  exact .int _ _
end Go.Proofs.YtjgpfclngkcedaaGreat
namespace Go.Proofs.YtjgpfclngkcedaaGreat
open Go Go.Abs
open Nat (reduceEqDiff reduceAdd reduceLeDiff)
theorem mR {t:TaskV} {c:CaseV} {f:Int} (h:aN t=0) (hc:c ∈ t.cases):∀ v ∈ ao c f,(v.length:Int)=t.n∧v.length ≤ 5:=by
 obtain ⟨i,hi,rfl⟩:=List.getElem_of_mem hc
 intro v hv
 have:=(rZ (f:=f) h hi).2 v (by rw [show t.cases.getD i default=t.cases[i] by simp [List.getD,hi]]; exact hv)
 have:=gD h
 omega
theorem pN {c:CaseV} {f:Int} (h:ShC c):Sh (ao c f):=by
 obtain ⟨s1,s2,s3,s4,s5⟩:=h
 unfold ao
 split
 ·exact s4
 ·exact s2
theorem rN {a b:TaskV} (h:∀ i,i < b.cases.length→ju a (b.cases.getD i default)=none):oB a b=none:=fv h
theorem ua {a b:TaskV} {k:Nat} {w:List Int × Int × List Int} (hk:k < b.cases.length) (h:∀ i,i < k→ju a (b.cases.getD i default)=none) (e:ju a (b.cases.getD k default)=some w):oB a b=some w:=jy hk h e
theorem jo {a b:TaskV} (h:cR a b=0) (hw:oB a b=none):fe a b=([],0,[],true,0):=by
 unfold fe; rw [if_neg (fun k=>k h),hw]
theorem oS {a b:TaskV} {w:List Int × Int × List Int} (h:cR a b=0) (hw:oB a b=some w):fe a b=(w.1,w.2.1,w.2.2,false,0):=by
 unfold fe; rw [if_neg (fun k=>k h),hw]
theorem Bx {n:Int} (h:n ≤ 5):2 ^ n.toNat ≤ 32:=by
 have:2 ^ n.toNat ≤ 2 ^ 5:=Nat.pow_le_pow_right (by omega) (by omega)
 omega
attribute [local irreducible] aw ac aP aK ay aA am aB aM aX Go.Abs.Fn aH Go.Abs.Pure ag ax Yl
set_option maxHeartbeats 2000000 in
theorem f9 (a b:TaskV) (ha:∀ c ∈ a.cases,ShC c) (ha2:Sh a.cases) (hb:∀ c ∈ b.cases,ShC c) (hb2:Sh b.cases):Pure Tryz.prog 13 [bn a,bn b] (pq (fe a b)):=by
 refine Pure.of_c2 follows zL (Nat.le_of_ble_eq_true rfl) ?_
 simp only [b13,cO,cG,cN,cM,cD,cF,cB,aq,aL]
 have hp:=uR a b ha ha2 hb hb2
 have d1:=bK a
 have d2:=bK b
 have hb2':b.cases.length ≤ 17592186044416:=hb2
 by_cases he:cR a b=0
 rotate_left
 ·have e:fe a b=([],0,[],false,cR a b):=by unfold fe; rw [if_pos he]
  rw [e]
  generalize cR a b=C at *
  unfold bn at *
  (have zz:=aI @af @ab; repeat' (first | refine zW ?_ | apply a_n | apply a_r | refine zO ?_ | refine vZ ?_ | refine cZ ?_ (hp:=hp) | refine bxZ ?_ | (refine zGZ ?_ ?_ <;> (intro _hg; try (exfalso; omega))) | refine ae rfl ?_ | refine r5Z ?_ | fail)) <;> (try clear zz)
  exact ss (.eslsl 1) (.eslsl 1)
 obtain ⟨ca,cb,hn⟩:=sQ he
 rw [he] at hp
 have hfind:=fun v hv=>sS a v ha ha2 hv
 have hN5:=(gD ca)
 have hsh:=Bs false false a.n (by omega) hN5.2
 have hp32:=Bx hN5.2
 unfold bn at *
 (have zz:=aI @af (aI @ab @ap); repeat' (first | refine zW ?_ | apply a_n | refine zO ?_ | refine vZ ?_ | refine cZ ?_ (hp:=hp) | refine bxZ ?_ | (refine zGZ ?_ ?_ <;> (intro _hg; try (exfalso; omega))) | fail)) <;> (try clear zz)
 refine br (X:=Nat) (fun k=>[(2,.ptr 0 4 0),(3,.ptr 1 4 0),(24,aO b.cases),(25,.int .i64 b.cases.length),(26,.int .i64 k)]) (fun k H nx=>k ≤ b.cases.length∧(∀ i,i < k→ju a (b.cases.getD i default)=none)∧2 ≤ nx∧H 0=some [.int .i64 a.n,.int .i64 a.ins,.int .i64 a.outs,aO a.cases]∧H 1=some [.int .i64 b.n,.int .i64 b.ins,.int .i64 b.outs,aO b.cases]) (fun k=>b.cases.length - k) 0 ⟨Nat.zero_le _,fun i h=>absurd h (by omega),Nat.le_refl _,rfl,rfl⟩ (by simp (disch:=omega) only [agr,ZG,reduceEqDiff,↓reduceIte,List.length_cons,List.length_nil,reduceAdd]) ?_
 rintro k H nx ⟨hk,hz,hnx,g0,g1⟩
 by_cases hk2:k < b.cases.length
 rotate_left
 ·(have zz:=and_self; repeat' (first | refine zW ?_ | apply a_n | apply a_x | refine zO ?_ | refine vZ ?_ | (refine zGZ ?_ ?_ <;> (intro _hg; try (exfalso; omega))) | refine ae rfl ?_ | refine r5Z ?_ | fail)) <;> (try clear zz)
  rw [jo he (rN fun i hi=>hz i (by omega))]
  exact ss (.eslsl 1) (.eslsl 1)
 have ix:=bd hk2
 have hm:=ah hk2
 have hshc:=hb _ hm
 have hlens:=fun f=>mR (f:=f) cb hm
 have hfi:=hfind (b.cases.getD k default).inp hshc.1
 have hstr:=fun w=>oS (w:=w) he
 have hwk:=fun w=>ua (a:=a) (w:=w) hk2 hz
 have hnext:ju a (b.cases.getD k default)=none→∀ i,i < k + 1→ju a (b.cases.getD i default)=none:=fun h i hi=>by
  rcases Nat.lt_succ_iff_lt_or_eq.1 hi with h' | rfl
  ·exact hz i h'
  ·exact h
 generalize hc:b.cases.getD k default=c at *
 obtain ⟨inp,out,calm⟩:=c
 dsimp only at *
 have hcl:=g9 inp hshc.1
 cases hf:cV a inp with
 | none =>
  have hw:ju a ⟨inp,out,calm⟩=some (inp,0,[]):=by unfold ju; rw [hf]
  rw [hf] at hfi
  have hfi':Pure Tryz.prog 41 [.agg [.int .i64 a.n,.int .i64 a.ins,.int .i64 a.outs,aO a.cases],aF inp] (.tup [.agg [aF [],ar [],ar []],.bool false]):=hfi
  (have zz:=aI @g0 (aI @g1 (aI @af (aI @ab @ix))); repeat' (first | refine zW ?_ | apply a_n | refine zO ?_ | refine vY ?_ | refine cY ?_ (hp:=hfi') | refine alY ?_ | refine stY ?_ | refine cTY ?_ | (refine zGY ?_ ?_ <;> (intro _hg; try (exfalso; omega))) | fail)) <;> (try clear zz)
  refine iz ev0 ev0 hcl (aj (aZ _ _) ai) ?_
  (have zz:=aI @g0 @g1; repeat' (first | apply a_n | apply a_r | refine zO ?_ | refine vY ?_ | refine ae rfl ?_ | refine r5Y ?_ | fail)) <;> (try clear zz)
  rw [hstr _ (hwk _ hw)]
  exact ss (aZ _ _) (.eslsl 1)
 | some x =>
  obtain ⟨xm,xi⟩:=d4 hf
  have hxs:=ha _ xm
  rw [hf] at hfi
  have hfi':Pure Tryz.prog 41 [.agg [.int .i64 a.n,.int .i64 a.ins,.int .i64 a.outs,aO a.cases],aF inp] (.tup [.agg [aF x.inp,ar x.out,ar x.calm],.bool true]):=hfi
  (have zz:=aI @g0 (aI @g1 (aI @af (aI @ab (aI @ix @hsh)))); repeat' (first | refine zW ?_ | apply a_n | refine zO ?_ | refine vY ?_ | refine cY ?_ (hp:=hfi') | refine alY ?_ | refine stY ?_ | refine cFY ?_ | (refine zGY ?_ ?_ <;> (intro _hg; try (exfalso; omega))) | fail)) <;> (try clear zz)
  refine br (X:=Nat) (fun f=>[(2,.ptr 0 4 0),(3,.ptr 1 4 0),(24,aO b.cases),(25,.int .i64 b.cases.length),(26,.int .i64 k),(11,.ptr nx 3 0),(12,.ptr (nx + 1) 3 0),(44,.int .i64 (2 ^ a.n.toNat:Nat)),(45,.int .i64 (f:Nat))]) (fun f H' nx'=>f ≤ 2 ^ a.n.toNat∧(∀ g:Nat,g < f→∀ i,i < (ao x g).length→jK ⟨inp,out,calm⟩ g ((ao x g).getD i default)=true)∧nx'=nx + 2∧H' 0=some [.int .i64 a.n,.int .i64 a.ins,.int .i64 a.outs,aO a.cases]∧H' 1=some [.int .i64 b.n,.int .i64 b.ins,.int .i64 b.outs,aO b.cases]∧H' nx=some [aF inp,ar out,ar calm]∧H' (nx + 1)=some [aF x.inp,ar x.out,ar x.calm]) (fun f=>2 ^ a.n.toNat - f) 0 ⟨Nat.zero_le _,fun g h=>absurd h (by omega),by omega,by rw [al (by omega),al (by omega),al (by omega),al (by omega),g0],by rw [al (by omega),al (by omega),al (by omega),al (by omega),g1],by rw [al (by omega),al (by omega),au]; rfl,by rw [au]; rfl⟩ (by simp (disch:=omega) only [agr,ZG,reduceEqDiff,↓reduceIte,List.length_cons,List.length_nil,reduceAdd,Nat.zero_add]) ?_
  clear g0 g1
  rintro f H1 nx1 ⟨hf1,hfz,rfl,g0,g1,g2,g3⟩
  have hd:decide ((f:Int) < ((2 ^ a.n.toNat:Nat):Int))=decide (f < 2 ^ a.n.toNat):=decide_eq_decide.2 (by omega)
  by_cases hf2:f < 2 ^ a.n.toNat
  rotate_left
  ·rw [decide_eq_false hf2] at hd
   (have zz:=@hd; repeat' (first | refine zW ?_ | apply a_n | apply a_x | refine zO ?_ | refine vY ?_ | refine cFY ?_ | fail)) <;> (try clear zz)
   exact ⟨k + 1,by omega,⟨by omega,hnext (ux hf fun g hg=>hfz g (by omega)),by omega,g0,g1⟩,ag0⟩
  rw [decide_eq_true hf2] at hd
  have hv1:=ms x f
  have hv2:=ms ⟨inp,out,calm⟩ f
  dsimp only at hv2
  have dx:=dQ x
  have dc:=dQ ⟨inp,out,calm⟩
  unfold dM at dx dc
  dsimp only at dc
  have hLx:=mR (f:=f) ca xm
  have hLs:(ao x f).length ≤ 17592186044416:=pN hxs
  have hLc:=hlens f
  have hLcs:=pN (f:=f) hshc
  have hhit:=fun j hj hz e=>v7 (a:=a) (c:=⟨inp,out,calm⟩) (x:=x) (f:=f) (k:=j) hf hfz hf2 hj hz e
  have hfnext:(∀ i,i < (ao x f).length→jK ⟨inp,out,calm⟩ f ((ao x f).getD i default)=true)→∀ g:Nat,g < f + 1→∀ i,i < (ao x g).length→jK ⟨inp,out,calm⟩ g ((ao x g).getD i default)=true:=fun h g hg=>by
   rcases Nat.lt_succ_iff_lt_or_eq.1 hg with h' | rfl
   ·exact hfz g h'
   ·exact h
  have hmay:∀ v,jK ⟨inp,out,calm⟩ f v=(ao ⟨inp,out,calm⟩ f).any fun w=>bV w v f:=fun v=>rfl
  generalize hL:ao x f=L at *
  generalize hM:ao ⟨inp,out,calm⟩ f=M at *
  (have zz:=aI @hd (aI @g2 @g3); repeat' (first | refine zW ?_ | apply a_n | refine zO ?_ | refine vY ?_ | refine cY ?_ (hp:=hv1) | refine cTY ?_ | fail)) <;> (try clear zz)
  refine br (X:=Nat) (fun j=>[(2,.ptr 0 4 0),(3,.ptr 1 4 0),(24,aO b.cases),(25,.int .i64 b.cases.length),(26,.int .i64 k),(11,.ptr nx 3 0),(12,.ptr (nx + 1) 3 0),(44,.int .i64 (2 ^ a.n.toNat:Nat)),(45,.int .i64 (f:Nat)),(14,.int .i64 (f:Nat)),(50,ar L),(51,.int .i64 L.length),(52,.int .i64 j)]) (fun j H' nx'=>j ≤ L.length∧(∀ i,i < j→jK ⟨inp,out,calm⟩ f (L.getD i default)=true)∧nx'=nx + 2∧H'=H1) (fun j=>L.length - j) 0 ⟨Nat.zero_le _,fun i h=>absurd h (by omega),rfl,rfl⟩ ag0 ?_
  rintro j _ _ ⟨hj1,hjz,rfl,rfl⟩
  by_cases hj2:j < L.length
  rotate_left
  ·(have zz:=and_self; repeat' (first | refine zW ?_ | apply a_n | apply a_x | refine zO ?_ | refine vZ ?_ | (refine zGZ ?_ ?_ <;> (intro _hg; try (exfalso; omega))) | fail)) <;> (try clear zz)
   exact ⟨f + 1,by omega,⟨by omega,hfnext fun i hi=>hjz i (by omega),rfl,g0,g1,g2,g3⟩,ag0⟩
  have hvm:=ah hj2
  have hag:=ue M (L.getD j default) f hLcs (by have:=hLx _ hvm; omega) (fun w hw=>by have:=hLx _ hvm; have:=hLc w hw; omega)
  rw [← hmay] at hag
  have hcl2:=g9 (L.getD j default) (by have:=hLx _ hvm; show _ ≤ _; omega)
  cases hb2:jK ⟨inp,out,calm⟩ f (L.getD j default)
  ·rw [hb2] at hag
   (have zz:=aI @g2 @g3; repeat' (first | refine zW ?_ | apply a_n | refine zO ?_ | refine vY ?_ | refine cY ?_ (hp:=by first | exact hv2 | exact hag) | refine cTY ?_ | (refine zGY ?_ ?_ <;> (intro _hg; try (exfalso; omega))) | fail)) <;> (try clear zz)
   refine iz ev0 ev0 hcl (aj (aZ _ _) ai) ?_
   (have zz:=and_self; repeat' (first | apply a_n | refine zO ?_ | refine vY ?_ | fail)) <;> (try clear zz)
   refine iz ev0 ev0 hcl2 (aj (aZ _ _) ai) ?_
   (have zz:=and_self; repeat' (first | apply a_n | apply a_r | refine zO ?_ | refine vY ?_ | refine ae rfl ?_ | refine r5Y ?_ | fail)) <;> (try clear zz)
   rw [hstr _ (hwk _ (hhit j hj2 hjz hb2))]
   exact ss (aZ _ _) (aZ _ _)
  ·rw [hb2] at hag
   (have zz:=aI @g2 @g3; repeat' (first | refine zW ?_ | apply a_n | refine zO ?_ | refine vY ?_ | refine cY ?_ (hp:=by first | exact hv2 | exact hag) | refine cFY ?_ | (refine zGY ?_ ?_ <;> (intro _hg; try (exfalso; omega))) | fail)) <;> (try clear zz)
   refine ⟨j + 1,by omega,⟨by omega,fun i hi=>?_,rfl,rfl⟩,ag0⟩
   rcases Nat.lt_succ_iff_lt_or_eq.1 hi with h' | rfl
   ·exact hjz i h'
   ·exact hb2
end Go.Proofs.YtjgpfclngkcedaaGreat
namespace Go.Proofs.YtjgpfclngkcedaaGreat
open Go Go.Abs
open Nat (reduceEqDiff reduceAdd reduceLeDiff)
attribute [local irreducible] aw ac aP aK ay aA am aB aM aX Go.Abs.Fn aH Go.Abs.Pure ag ax Yl
end Go.Proofs.YtjgpfclngkcedaaGreat
namespace Go.Proofs.YtjgpfclngkcedaaGreat
open Go Go.Abs
def _root_.List.c3 {α:Type} (l:List α) (f:α→AV):List AV:=l.flatMap fun x=>(f x).cells
structure Cmp3 {α:Type} (P:Program) (f:α→AV) (K:α→α→Int) (G:α→Prop) (g:Nat) (caps:List AV):Prop where
 len:∀ x,(f x).cells.length=3
 agg:∀ x,AV.agg (f x).cells=f x
 ones:∀ x,AV.ones (f x).cells=true
 dat:∀ x,Dat (f x)
 dcaps:∀ x ∈ caps,Dat x
 run:∀ x y,G x→G y→Go.Abs.Pure P g (f x :: f y :: caps) (.int .i64 (K x y))
 ord:Ord K
section
variable {α:Type} {f:α→AV} (h:∀ x,(f x).cells.length=3)
include h
theorem rt (M:List α):(M.c3 f).length=M.length * 3:=by
 unfold List.c3
 induction M with
 | nil=>rfl
 | cons a l ih=>rw [List.flatMap_cons,List.length_append,ih,h,List.length_cons]; omega
end
section
variable {α:Type} [Inhabited α] {f:α→AV} {K:α→α→Int} {G:α→Prop} {g:Nat} {caps:List AV}
attribute [local irreducible] aw ac aP aK ay aA am aB aM aX Go.Abs.Fn aH Go.Abs.Pure ag ax Yl
end
end Go.Proofs.YtjgpfclngkcedaaGreat
namespace Go.Proofs.YtjgpfclngkcedaaGreat
open Go Go.Abs
section
variable {α:Type} [Inhabited α] {f:α→AV} {K:α→α→Int} {G:α→Prop} {g:Nat} {caps:List AV}
attribute [local irreducible] aw ac aP aK ay aA am aB aM aX Go.Abs.Fn aH Go.Abs.Pure ag ax Yl
end
end Go.Proofs.YtjgpfclngkcedaaGreat
namespace Go.Proofs.YtjgpfclngkcedaaGreat
open Go Go.Abs
open Nat (reduceEqDiff reduceAdd reduceLeDiff)
section
variable {α:Type} [Inhabited α] {f:α→AV} {K:α→α→Int} {G:α→Prop} {g:Nat} {caps:List AV}
attribute [local irreducible] aw ac aP aK ay aA am aB aM aX Go.Abs.Fn aH Go.Abs.Pure ag ax Yl
end
end Go.Proofs.YtjgpfclngkcedaaGreat
namespace Go.Proofs.YtjgpfclngkcedaaGreat
open Go Go.Abs
section
variable {α:Type} [Inhabited α] {f:α→AV} {K:α→α→Int} {G:α→Prop} {g:Nat} {caps:List AV}
attribute [local irreducible] aw ac aP aK ay aA am aB aM aX Go.Abs.Fn aH Go.Abs.Pure ag ax Yl
end
end Go.Proofs.YtjgpfclngkcedaaGreat
namespace Go.Proofs.YtjgpfclngkcedaaGreat
open Go Go.Abs
section
variable {α:Type} [Inhabited α] {f:α→AV} {K:α→α→Int} {G:α→Prop} {g:Nat} {caps:List AV}
attribute [local irreducible] aw ac aP aK ay aA am aB aM aX Go.Abs.Fn aH Go.Abs.Pure ag ax Yl
end
end Go.Proofs.YtjgpfclngkcedaaGreat
namespace Go.Proofs.YtjgpfclngkcedaaGreat
open Go Go.Abs
section
variable {α:Type} [Inhabited α] {f:α→AV} {K:α→α→Int} {G:α→Prop} {g:Nat} {caps:List AV}
attribute [local irreducible] aw ac aP aK ay aA am aB aM aX Go.Abs.Fn aH Go.Abs.Pure ag ax Yl
end
end Go.Proofs.YtjgpfclngkcedaaGreat
namespace Go.Proofs.YtjgpfclngkcedaaGreat
open Go Go.Abs
section
variable {α:Type} [Inhabited α] {f:α→AV} {K:α→α→Int} {G:α→Prop} {g:Nat} {caps:List AV}
attribute [local irreducible] aw ac aP aK ay aA am aB aM aX Go.Abs.Fn aH Go.Abs.Pure ag ax Yl
end
end Go.Proofs.YtjgpfclngkcedaaGreat
namespace Go.Proofs.YtjgpfclngkcedaaGreat
open Go Go.Abs
open Nat (reduceEqDiff reduceAdd reduceLeDiff)
section
variable {α:Type} [Inhabited α] {f:α→AV} {K:α→α→Int} {G:α→Prop} {g:Nat} {caps:List AV}
attribute [local irreducible] aw ac aP aK ay aA am aB aM aX Go.Abs.Fn aH Go.Abs.Pure ag ax Yl
end
end Go.Proofs.YtjgpfclngkcedaaGreat
namespace Go.Proofs.YtjgpfclngkcedaaGreat
open Go Go.Abs
section
variable {α:Type} [Inhabited α] {f:α→AV} {K:α→α→Int} {G:α→Prop} {g:Nat} {caps:List AV}
attribute [local irreducible] aw ac aP aK ay aA am aB aM aX Go.Abs.Fn aH Go.Abs.Pure ag ax Yl
end
end Go.Proofs.YtjgpfclngkcedaaGreat
namespace Go.Proofs.YtjgpfclngkcedaaGreat
open Go Go.Abs
open Nat (reduceEqDiff reduceAdd reduceLeDiff)
section
variable {α:Type} [Inhabited α] {f:α→AV} {K:α→α→Int} {G:α→Prop} {g:Nat} {caps:List AV}
attribute [local irreducible] aw ac aP aK ay aA am aB aM aX Go.Abs.Fn aH Go.Abs.Pure ag ax Yl
end
end Go.Proofs.YtjgpfclngkcedaaGreat
namespace Go.Proofs.YtjgpfclngkcedaaGreat
open Go Go.Abs
open Nat (reduceEqDiff reduceAdd reduceLeDiff)
def Ad (l:List Int) (i:Nat):Int:=if l.getD i default < 0 ∨ (l.length:Int) ≤ l.getD i default then 2 else if (l.take i).any (fun x=>decide (x=l.getD i default)) then 7 else 0
def xh (l:List Int):Int:=if l.length < 1 ∨ 5 < l.length then 2 else bw (Ad l) l.length
attribute [local irreducible] aw ac aP aK ay aA am aB aM aX Go.Abs.Fn aH Go.Abs.Pure ag ax Yl
end Go.Proofs.YtjgpfclngkcedaaGreat
namespace Go.Proofs.YtjgpfclngkcedaaGreat
open Go Go.Abs
open Nat (reduceEqDiff reduceAdd reduceLeDiff)
section
variable {α:Type} [Inhabited α] {K:α→α→Int}
def jx (K:α→α→Int) (l:List α) (v:α):Nat→Nat
 | 0=>0
 | k + 1=>if K v (l.getD k default) < 0 then jx K l v k else k + 1
def lV (K:α→α→Int) (l:List α) (v:α):List α:=l.take (jx K l v l.length) ++ v :: l.drop (jx K l v l.length)
def oe (K:α→α→Int) (l:List α):List α:=l.foldl (lV K) []
theorem sN (l:List α) (v:α):∀ k,jx K l v k ≤ k
 | 0=>Nat.le_refl _
 | k + 1=>by
  rw [jx]
  split
  ·exact Nat.le_succ_of_le (sN l v k)
  ·exact Nat.le_refl _
theorem np {l:List α} {v:α}:∀ {k i:Nat},jx K l v k ≤ i→i < k→K v (l.getD i default) < 0
 | 0,i,_,h=>absurd h (by omega)
 | k + 1,i,h1,h2=>by
  rw [jx] at h1
  split at h1
  ·by_cases e:i=k
   ·subst e; assumption
   ·exact np h1 (by omega)
  ·omega
theorem na {l:List α} {v:α}:∀ {k:Nat},0 < jx K l v k→¬ K v (l.getD (jx K l v k - 1) default) < 0
 | 0,h=>absurd h (Nat.lt_irrefl _)
 | k + 1,h=>by
  rw [jx] at h ⊢
  split
  ·rename_i c
   rw [if_pos c] at h
   exact na h
  ·rename_i c
   rw [Nat.add_sub_cancel]; exact c
theorem iv (l:List α) (v:α):(lV K l v).Perm (v :: l):=by
 unfold lV
 refine List.perm_middle.trans ?_
 rw [List.take_append_drop]
theorem vG (l:List α) (v:α):(lV K l v).length=l.length + 1:=by
 rw [(iv l v).length_eq]; rfl
def bv (K:α→α→Int) (l:List α):Prop:=l.Pairwise fun x y=>¬ K y x < 0
theorem bv.of {l:List α} (h:aW K 0 l.length l):bv K l:=by
 unfold bv
 rw [List.pairwise_iff_getElem]
 intro i j hi hj hij
 have:=h i j (Nat.zero_le _) hij hj
 simpa [List.getD,hi,hj] using this
theorem kN (hK:Ord K) {l:List α} {v:α} (h:bv K l):bv K (lV K l v):=by
 unfold lV
 have hle:=sN (K:=K) l v l.length
 have hab:∀ i,jx K l v l.length ≤ i→i < l.length→K v (l.getD i default) < 0:=fun i h1 h2=>np h1 h2
 have hbe:0 < jx K l v l.length→¬ K v (l.getD (jx K l v l.length - 1) default) < 0:=fun h=>na h
 generalize jx K l v l.length=k at *
 have hs:∀ i j (hi:i < l.length) (hj:j < l.length),i < j→¬ K l[j] l[i] < 0:=List.pairwise_iff_getElem.1 h
 have hlow:∀ x ∈ l.take k,¬ K v x < 0:=fun x hx=>by
  obtain ⟨i,hi,rfl⟩:=List.getElem_of_mem hx
  rw [List.length_take] at hi
  rw [List.getElem_take]
  have hk:=hbe (by omega)
  have e:l.getD (k - 1) default=l[k - 1]'(by omega):=by simp [List.getD,show k - 1 < l.length by omega]
  rw [e] at hk
  by_cases hik:i=k - 1
  ·subst hik; exact hk
  ·exact hK.negtr _ _ _ (hs i (k - 1) (by omega) (by omega) (by omega)) hk
 have hup:∀ x ∈ l.drop k,K v x < 0:=fun x hx=>by
  obtain ⟨i,hi,rfl⟩:=List.getElem_of_mem hx
  rw [List.length_drop] at hi
  rw [List.getElem_drop]
  have:=hab (k + i) (by omega) (by omega)
  simpa [List.getD,show k + i < l.length by omega] using this
 unfold bv
 rw [List.pairwise_append,List.pairwise_cons]
 refine ⟨List.Pairwise.sublist (List.take_sublist _ _) h,⟨fun x hx=>hK.asym _ _ (hup x hx),List.Pairwise.sublist (List.drop_sublist _ _) h⟩,fun x hx y hy=>?_⟩
 rcases List.mem_cons.1 hy with rfl | hy
 ·exact hlow x hx
 ·exact hK.negtr _ _ _ (hlow x hx) (hK.asym _ _ (hup y hy))
theorem gS:∀ (l acc:List α),(l.foldl (lV K) acc).Perm (acc ++ l)
 | [],acc=>by simp
 | v :: l,acc=>by
  refine (gS l (lV K acc v)).trans ?_
  refine (List.Perm.append_right l (iv acc v)).trans ?_
  rw [List.cons_append]
  exact List.perm_middle.symm
theorem fB (hK:Ord K):∀ (l acc:List α),bv K acc→bv K (l.foldl (lV K) acc)
 | [],acc,h=>h
 | v :: l,acc,h=>fB hK l (lV K acc v) (kN hK h)
theorem jd (l:List α):(oe K l).Perm l:=by
 have:=gS (K:=K) l []
 rwa [List.nil_append] at this
theorem jR (hK:Ord K) (l:List α):bv K (oe K l):=fB hK l [] .nil
theorem oZ (hK:Ord K) {L L':List α} (hA:∀ x ∈ L,∀ y ∈ L,¬ K x y < 0→¬ K y x < 0→x=y) (hs:bv K L') (hp:L'.Perm L):L'=oe K L :=
 List.Perm.eq_of_pairwise (fun x y hx hy hxy hyx=>hA x (hp.mem_iff.1 hx) y ((jd L).mem_iff.1 hy) hyx hxy) hs (jR hK L) (hp.trans (jd L).symm)
end
theorem qN:Ord aY where
 irr x:=by rw [cT]; omega
 asym x y h:=by rw [du]; omega
 negtr x y z h1 h2 h3:=by
  rcases ga y x with h | h | h
  ·omega
  ·have e:=fO h; subst e; exact h2 h3
  ·have hxy:aY x y < 0:=by rw [du]; omega
   have:=gH h3 hxy
   omega
theorem uM {x y:List Int} (h1:¬ aY x y < 0) (h2:¬ aY y x < 0):x=y:=by
 rw [du] at h2
 exact fO (by omega)
abbrev vu (l:List (List Int)):List (List Int):=oe aY l
theorem Be:Cmp Tryz.prog aF aY (fun l=>Sh l) 64 [] where
 cells _:=rfl
 one _:=rfl
 dat v:=aZ v
 dcaps:=by simp
 run x y hx hy:=kD x y hx hy
 ord:=qN
attribute [local irreducible] aw ac aP aK ay aA am aB aM aX Go.Abs.Fn aH Go.Abs.Pure ag ax Yl
end Go.Proofs.YtjgpfclngkcedaaGreat
namespace Go.Proofs.YtjgpfclngkcedaaGreat
open Go Go.Abs
open Nat (reduceEqDiff reduceAdd reduceLeDiff)
def KC (c d:CaseV):Int:=aY c.inp d.inp
attribute [local irreducible] aw ac aP aK ay aA am aB aM aX Go.Abs.Fn aH Go.Abs.Pure ag ax Yl
end Go.Proofs.YtjgpfclngkcedaaGreat
namespace Go.Proofs.YtjgpfclngkcedaaGreat
open Go Go.Abs
open Nat (reduceEqDiff reduceAdd reduceLeDiff)
section
variable {P:Program} {T:Tm} {H:Hp} {nx:Nat}
end
theorem nX {H:Hp} {sv:AV} {M:List CaseV} (h:Row H 3 sv (M.c3 dM)):Snap H sv (aO M):=by
 refine Row.snap (elems:=M.map dM) (by rw [List.flatMap_map]; exact h) (fun y hy=>?_) (by omega) (fun y hy c hc=>?_)
 ·obtain ⟨x,_,rfl⟩:=List.mem_map.1 hy; rfl
 ·obtain ⟨x,_,rfl⟩:=List.mem_map.1 hy
  simp only [dM,AV.cells,List.mem_cons,List.not_mem_nil,or_false] at hc
  rcases hc with rfl | rfl | rfl
  ·exact aZ _
  ·exact bc _
  ·exact bc _
theorem y3 (A B:List CaseV):(A ++ B).c3 dM=A.c3 dM ++ B.c3 dM:=List.flatMap_append
attribute [local irreducible] aw ac aP aK ay aA am aB aM aX Go.Abs.Fn aH Go.Abs.Pure ag ax Yl
end Go.Proofs.YtjgpfclngkcedaaGreat
namespace Go.Proofs.YtjgpfclngkcedaaGreat
open Go Go.Abs
attribute [local irreducible] aw ac aP aK ay aA am aB aM aX Go.Abs.Fn aH Go.Abs.Pure ag ax Yl
end Go.Proofs.YtjgpfclngkcedaaGreat
namespace Go.Proofs.YtjgpfclngkcedaaGreat
open Go Go.Abs
attribute [local irreducible] aw ac aP aK ay aA am aB aM aX Go.Abs.Fn aH Go.Abs.Pure ag ax Yl
def dd (l:List Int):Nat→List Int
 | 0=>[]
 | k + 1=>dd l k ++ if k=0 ∨ l.getD k default ≠ l.getD (k - 1) default then [l.getD k default] else []
end Go.Proofs.YtjgpfclngkcedaaGreat
namespace Go.Proofs.YtjgpfclngkcedaaGreat
open Go Go.Abs
def inV (l:List (List Int)) (p v:Nat):Bool:=l.any fun w=>decide (w.getD p default=(v:Int))
def vals (l:List (List Int)) (p o:Nat):List Int:=((List.range o).filter (inV l p)).map Int.ofNat
attribute [local irreducible] aw ac aP aK ay aA am aB aM aX Go.Abs.Fn aH Go.Abs.Pure ag ax Yl
end Go.Proofs.YtjgpfclngkcedaaGreat
namespace Go.Proofs.YtjgpfclngkcedaaGreat
open Go Go.Abs
attribute [local irreducible] aw ac aP aK ay aA am aB aM aX Go.Abs.Fn aH Go.Abs.Pure ag ax Yl
end Go.Proofs.YtjgpfclngkcedaaGreat
namespace Go.Proofs.YtjgpfclngkcedaaGreat
open Go Go.Abs
attribute [local irreducible] aw ac aP aK ay aA am aB aM aX Go.Abs.Fn aH Go.Abs.Pure ag ax Yl
end Go.Proofs.YtjgpfclngkcedaaGreat
namespace Go.Proofs.YtjgpfclngkcedaaGreat
open Go Go.Abs
end Go.Proofs.YtjgpfclngkcedaaGreat
namespace Go.Proofs.YtjgpfclngkcedaaGreat
open Go Go.Abs
structure PlaceV where
 index:Int
 faulty:Int
 proc:Int
 outs:List Int
attribute [local irreducible] aw ac aP aK ay aA am aB aM aX Go.Abs.Fn aH Go.Abs.Pure ag ax Yl
end Go.Proofs.YtjgpfclngkcedaaGreat
namespace Go.Proofs.YtjgpfclngkcedaaGreat
open Go Go.Abs
attribute [local irreducible] aw ac aP aK ay aA am aB aM aX Go.Abs.Fn aH Go.Abs.Pure ag ax Yl
end Go.Proofs.YtjgpfclngkcedaaGreat
namespace Go.Proofs.YtjgpfclngkcedaaGreat
open Go Go.Abs
attribute [local irreducible] aw ac aP aK ay aA am aB aM aX Go.Abs.Fn aH Go.Abs.Pure ag ax Yl
end Go.Proofs.YtjgpfclngkcedaaGreat
namespace Go.Proofs.YtjgpfclngkcedaaGreat
open Go Go.Abs
section
variable {p:List Int}
end
theorem rU {l:List (List Int)} (h:∀ i,i < l.length→bu l i=false):bv aY l:=by
 unfold bv
 rw [List.pairwise_iff_getElem]
 intro i j hi hj hij
 have:=pm h j i hij hj
 rw [show l.getD i default=l[i] by simp [List.getD,hi],show l.getD j default=l[j] by simp [List.getD,hj]] at this
 exact qN.asym _ _ this
theorem uy {l:List (List Int)} (h:∀ i,i < l.length→bu l i=false):l.Nodup:=by
 rw [List.nodup_iff_pairwise_ne,List.pairwise_iff_getElem]
 intro i j hi hj hij e
 have:=pm h j i hij hj
 rw [show l.getD i default=l[i] by simp [List.getD,hi],show l.getD j default=l[j] by simp [List.getD,hj],e,cT] at this
 omega
theorem jB {l:List (List Int)} (hs:bv aY l) (hn:l.Nodup):∀ i,i < l.length→bu l i=false:=fun i hi=>by
 unfold bu
 by_cases h0:0 < i
 ·rw [decide_eq_true h0,Bool.true_and,decide_eq_false_iff_not]
  have h1:=List.pairwise_iff_getElem.1 hs (i - 1) i (by omega) hi (by omega)
  have h2:=List.pairwise_iff_getElem.1 (List.nodup_iff_pairwise_ne.1 hn) (i - 1) i (by omega) hi (by omega)
  rw [show l.getD i default=l[i] by simp [List.getD,hi],show l.getD (i - 1) default=l[i - 1] by simp [List.getD,show i - 1 < l.length by omega]]
  intro h3
  have h4:=du l[i - 1] l[i]
  rcases ga l[i - 1] l[i] with h | h | h
  ·omega
  ·exact h2 (fO h)
  ·exact h1 (by omega)
 ·rw [decide_eq_false h0,Bool.false_and]
theorem ng {v:List Int} {n most:Int} (h1:(v.length:Int)=n) (h2:∀ x ∈ v,0 ≤ x∧x < most):aV v n most=0:=by
 unfold aV
 rw [if_neg (fun h=>h h1),if_neg]
 intro h
 rw [List.any_eq_true] at h
 obtain ⟨x,hx,e⟩:=h
 have:=of_decide_eq_true e
 have:=h2 x hx
 omega
theorem bo {n outs:Int} {c:CaseV} (h:bg n outs c=0):(1 ≤ c.out.length∧c.out.length ≤ 1024)∧(∀ v ∈ c.out,aV v n outs=0)∧(∀ i,i < c.out.length→bu c.out i=false)∧(∀ v ∈ c.calm,v ∈ c.out)∧(∀ i,i < c.calm.length→bu c.calm i=false):=by
 unfold bg at h
 split at h
 ·exact absurd h (by decide)
 rename_i g1
 split at h
 ·exact absurd h ‹_›
 rename_i g2
 have o0:=dr (Decidable.of_not_not g2)
 have c0:=dr h
 have o1:∀ j,j < c.out.length→aV (c.out.getD j default) n outs=0∧bu c.out j=false:=fun j hj=>by
  have:=o0 j hj
  unfold fQ at this
  split at this
  ·exact absurd this ‹_›
  ·rename_i g3
   split at this
   ·exact absurd this (by decide)
   ·rename_i g4
    exact ⟨Decidable.of_not_not g3,by simpa using g4⟩
 have c1:∀ j,j < c.calm.length→c.calm.getD j default ∈ c.out∧bu c.calm j=false:=fun j hj=>by
  have:=c0 j hj
  unfold fo at this
  split at this
  ·rename_i g3
   split at this
   ·exact absurd this (by decide)
   ·rename_i g4
    exact ⟨g3,by simpa using g4⟩
  ·exact absurd this (by decide)
 refine ⟨by omega,fun v hv=>?_,fun i hi=>(o1 i hi).2,fun v hv=>?_,fun i hi=>(c1 i hi).2⟩
 ·obtain ⟨j,hj,rfl⟩:=List.getElem_of_mem hv
  have:=(o1 j hj).1
  rwa [show c.out.getD j default=c.out[j] by simp [List.getD,hj]] at this
 ·obtain ⟨j,hj,rfl⟩:=List.getElem_of_mem hv
  have:=(c1 j hj).1
  rwa [show c.calm.getD j default=c.calm[j] by simp [List.getD,hj]] at this
theorem kQ {n outs:Int} {c:CaseV} (h1:1 ≤ c.out.length∧c.out.length ≤ 1024) (h2:∀ v ∈ c.out,aV v n outs=0) (h3:∀ i,i < c.out.length→bu c.out i=false) (h4:∀ v ∈ c.calm,v ∈ c.out) (h5:∀ i,i < c.calm.length→bu c.calm i=false):bg n outs c=0:=by
 unfold bg
 have e1:bw (fQ n outs c.out) c.out.length=0:=bG fun k hk=>by
  unfold fQ
  rw [h2 _ (ah hk),if_neg (by simp),h3 k hk,if_neg (by simp)]
 have e2:bw (fo c.out c.calm) c.calm.length=0:=bG fun k hk=>by
  unfold fo
  rw [if_pos (h4 _ (ah hk)),h5 k hk,if_neg (by simp)]
 rw [if_neg (by omega),e1,if_neg (by simp),e2]
section
variable {p:List Int} (hp:xh p=0)
include hp
end
theorem jn {t:TaskV} (h:aN t=0):bv KC t.cases:=by
 unfold bv
 rw [List.pairwise_iff_getElem]
 intro i j hi hj hij
 have:=fY h j i hij hj
 rw [show t.cases.getD i default=t.cases[i] by simp [List.getD,hi],show t.cases.getD j default=t.cases[j] by simp [List.getD,hj]] at this
 exact qN.asym _ _ this
theorem uB {t:TaskV} (h:aN t=0) {c d:CaseV} (hc:c ∈ t.cases) (hd:d ∈ t.cases) (e:c.inp=d.inp):c=d:=by
 obtain ⟨i,hi,rfl⟩:=List.getElem_of_mem hc
 obtain ⟨j,hj,rfl⟩:=List.getElem_of_mem hd
 have ei:t.cases.getD i default=t.cases[i]:=by simp [List.getD,hi]
 have ej:t.cases.getD j default=t.cases[j]:=by simp [List.getD,hj]
 have:=wF h hi hj (by rw [ei,ej]; exact e)
 subst this; rfl
theorem bQ {t:TaskV} (h:aN t=0) {c:CaseV} (hc:c ∈ t.cases):aV c.inp t.n t.ins=0∧bg t.n t.outs c=0:=by
 obtain ⟨i,hi,rfl⟩:=List.getElem_of_mem hc
 have:=(d8 h).2.2 i hi
 rwa [show t.cases.getD i default=t.cases[i] by simp [List.getD,hi]] at this
section
variable {t:TaskV} {p:List Int} (h:aN t=0) (hp:xh p=0) (hn:(p.length:Int)=t.n)
include h hp hn
end
end Go.Proofs.YtjgpfclngkcedaaGreat
namespace Go.Proofs.YtjgpfclngkcedaaGreat
open Go Go.Abs
open Nat (reduceEqDiff reduceAdd reduceLeDiff)
def eX (i:List Int) (x y:List (List Int)):CaseV:=⟨i,x,if x=y then [] else y⟩
def jJ (F:List (List Int)→List (List Int)→List (List Int)) (b:TaskV) (c:CaseV):Option CaseV:=(cV b c.inp).map fun d=>eX c.inp (F c.out d.out) (F (ao c 0) (ao d 0))
def go (F:List (List Int)→List (List Int)→List (List Int)) (b:TaskV) (c:CaseV):Bool:=match cV b c.inp with
 | none=>true
 | some d=>decide (0 < (F c.out d.out).length) && decide (0 < (F (ao c 0) (ao d 0)).length)
def fE (F:List (List Int)→List (List Int)→List (List Int)) (b:TaskV) (c:CaseV):Bool:=match cV b c.inp with
 | none=>false
 | some d=>decide (1024 < (F c.out d.out).length) || decide (1024 < (F (ao c 0) (ao d 0)).length)
def ce (F:List (List Int)→List (List Int)→List (List Int)) (b:TaskV) (l:List CaseV):List CaseV:=l.filterMap (jJ F b)
theorem nP {l:List CaseV} {p:CaseV→Bool} {k:Nat} (h:k < l.length):(l.take (k + 1)).all p=((l.take k).all p && p (l.getD k default)):=by
 rw [bZ h,List.all_append]; simp
theorem nM {l:List CaseV} {p:CaseV→Bool} {k:Nat} (h:k < l.length):(l.take (k + 1)).any p=((l.take k).any p || p (l.getD k default)):=by
 rw [bZ h,List.any_append]; simp
theorem mq {F:List (List Int)→List (List Int)→List (List Int)} {b:TaskV} {l:List CaseV} {k:Nat} (h:k < l.length):ce F b (l.take (k + 1))=ce F b (l.take k) ++ (jJ F b (l.getD k default)).toList:=by
 rw [bZ h]
 unfold ce
 rw [List.filterMap_append]
 congr 1
theorem fK {F:List (List Int)→List (List Int)→List (List Int)} {b:TaskV} {l:List CaseV}:(ce F b l).length ≤ l.length:=List.length_filterMap_le _ _
attribute [local irreducible] aw ac aP aK ay aA am aB aM aX Go.Abs.Fn aH Go.Abs.Pure ag ax Yl
theorem tH (x y:List (List Int)) (hx:Sh x) (hy:Sh y) (hxs:∀ v ∈ x,Sh v) (hys:∀ v ∈ y,Sh v):Pure Tryz.prog 110 [ar x,ar y,.func 15 []] (.bool (decide (x=y))):=by
 refine Pure.of_c2 follows xl (Nat.le_of_ble_eq_true rfl) ?_
 simp only [yY,cO,cG,cN,cM,cD,cF,cB,aq,aL]
 have hx':x.length ≤ 17592186044416:=hx
 have hy':y.length ≤ 17592186044416:=hy
 by_cases hlen:x.length=y.length
 rotate_left
 ·have z:decide ((x.length:Int) ≠ y.length)=true:=decide_eq_true (by omega)
  rw [decide_eq_false (fun e=>hlen (by rw [e]))]
  (have zz:=@z; repeat' (first | refine zW ?_ | apply a_n | apply a_r | refine zO ?_ | refine vZ ?_ | refine cTZ ?_ | refine ae rfl ?_ | refine r1Z ?_ | fail)) <;> (try clear zz)
  exact .bool _
 have z:decide ((x.length:Int) ≠ y.length)=false:=decide_eq_false (by omega)
 (have zz:=@z; repeat' (first | refine zW ?_ | apply a_n | refine zO ?_ | refine vZ ?_ | refine cFZ ?_ | fail)) <;> (try clear zz)
 refine kI (fun k=>[(0,ar x),(1,ar y),(2,.func 15 []),(15,ar x),(16,.int .i64 x.length),(17,.int .i64 k)]) x.length (fun k=>x.getD k default=y.getD k default) ag0 ?_
 intro k hk hz
 by_cases hk2:k < x.length
 rotate_left
 ·(have zz:=and_self; repeat' (first | refine zW ?_ | apply a_n | apply a_x | refine zO ?_ | refine vZ ?_ | (refine zGZ ?_ ?_ <;> (intro _hg; try (exfalso; omega))) | refine ae rfl ?_ | refine r1Z ?_ | fail)) <;> (try clear zz)
  refine bN ?_
  symm; rw [decide_eq_true_iff]
  refine List.ext_getElem hlen fun i h3 h4=>?_
  have:=hz i (by omega)
  simpa [List.getD,h3,h4] using this
 have hc:=gA (x.getD k default) (y.getD k default) (hxs _ (ah hk2)) (hys _ (ah (by omega)))
 by_cases he:x.getD k default=y.getD k default
 ·rw [decide_eq_true he] at hc
  (have zz:=and_self; repeat' (first | refine zW ?_ | apply a_n | refine zO ?_ | refine vZ ?_ | refine cZ ?_ (hp:=hc) | refine cFZ ?_ | (refine zGZ ?_ ?_ <;> (intro _hg; try (exfalso; omega))) | fail)) <;> (try clear zz)
  exact ⟨hk2,he,ag0,rfl,rfl⟩
 ·rw [decide_eq_false he] at hc
  rw [decide_eq_false (p:=x=y) (fun e=>he (by rw [e]))]
  (have zz:=and_self; repeat' (first | refine zW ?_ | apply a_n | apply a_r | refine zO ?_ | refine vZ ?_ | refine cZ ?_ (hp:=hc) | refine cTZ ?_ | (refine zGZ ?_ ?_ <;> (intro _hg; try (exfalso; omega))) | refine ae rfl ?_ | refine r1Z ?_ | fail)) <;> (try clear zz)
  exact .bool _
theorem nV (l:List (List Int)) (hl:l.length ≤ 100000) (hs:∀ x ∈ l,Sh x):Pure Tryz.prog 75 [ar l] (ar l):=by
 refine Pure.of_c2 follows y1 (Nat.le_of_ble_eq_true rfl) ?_
 simp only [b75,cO,cG,cN,cM,cD,cF,cB,aq,aL]
 (have zz:=and_self; repeat' (first | refine zW ?_ | apply a_n | refine zO ?_ | refine vZ ?_ | fail)) <;> (try clear zz)
 refine br (X:=AV × Nat) (fun x=>[(3,x.1),(6,ar l),(7,.int .i64 l.length),(8,.int .i64 x.2)]) (fun x H nx=>x.2 ≤ l.length∧Row H 1 x.1 ((l.take x.2).map aF)∧∀ b,ef x.1=some b→b < nx) (fun x=>l.length - x.2) (.esl,0) ⟨Nat.zero_le _,Row.nil,fun b hb=>(by cases hb)⟩ ag0 ?_
 rintro ⟨s,j⟩ H nx ⟨h1,h2,h3⟩
 dsimp only at h1 h2 h3 ⊢
 by_cases hj:j < l.length
 ·have hw:=ah hj
  have hcl:=g9 _ (hs _ hw)
  (have zz:=@h1; repeat' (first | refine zW ?_ | apply a_n | refine zO ?_ | refine vY ?_ | (refine zGY ?_ ?_ <;> (intro _hg; try (exfalso; omega))) | fail)) <;> (try clear zz)
  refine iz ev0 ev0 hcl (aj (aZ _ _) ai) ?_
  (have zz:=@h1; repeat' (first | apply a_n | refine zO ?_ | refine blY ?_ | fail)) <;> (try clear zz)
  refine ma rfl ev0 (h2.same fun b hb=>?_) ev0 qR rfl rfl Nat.one_pos (by simp; omega) (by simp; omega) ?_
  ·have:=h3 b hb
   rw [al (by omega)]
  rintro s2 E e hrow hle1 hle2 hsame hb2
  (have zz:=and_self; repeat' (first | apply a_n | refine zO ?_ | refine vZ ?_ | fail)) <;> (try clear zz)
  refine ⟨(s2,j + 1),by dsimp only; omega,⟨by dsimp only; omega,?_,fun b hb=>?_⟩,ag0⟩
  ·dsimp only
   rw [bZ hj,List.map_append]
   exact hrow
  ·rcases hb2 b hb with h | h
   ·have:=h3 b h; omega
   ·omega
 ·(have zz:=@h1; repeat' (first | refine zW ?_ | apply a_n | apply a_x | refine zO ?_ | refine vY ?_ | (refine zGY ?_ ?_ <;> (intro _hg; try (exfalso; omega))) | refine ae rfl ?_ | refine r1Y ?_ | fail)) <;> (try clear zz)
  rw [List.take_of_length_le (by omega)] at h2
  exact h2.snapV
theorem x7 (i:List Int) (x y:List (List Int)) (hi:Sh i) (hx:x.length ≤ 100000) (hy:y.length ≤ 100000) (hxs:∀ v ∈ x,Sh v) (hys:∀ v ∈ y,Sh v):Pure Tryz.prog 60 [aF i,ar x,ar y] (.agg [aF i,ar x,ar (eX i x y).calm]):=by
 refine Pure.of_c2 follows AS (Nat.le_of_ble_eq_true rfl) ?_
 simp only [b60,cO,cG,cN,cM,cD,cF,cB,aq,aL]
 have hcl:=g9 i hi
 have h1:Pure Tryz.prog 75 [ar x] (ar x):=nV x hx hxs
 have h2:Pure Tryz.prog 75 [ar y] (ar y):=nV y hy hys
 have hE:=tH x y (show x.length ≤ _ by omega) (show y.length ≤ _ by omega) hxs hys
 unfold eX
 (have zz:=and_self; repeat' (first | refine zW ?_ | apply a_n | refine zO ?_ | refine vZ ?_ | refine alZ ?_ | fail)) <;> (try clear zz)
 refine iz ev0 ev0 hcl (aj (aZ _ _) ai) ?_
 by_cases he:x=y
 ·rw [decide_eq_true he] at hE
  rw [if_pos he]
  (have zz:=and_self; repeat' (first | refine zW ?_ | apply a_n | refine zO ?_ | refine vZ ?_ | refine cZ ?_ (hp:=by first | exact h1 | exact h2 | exact hE) (hs:=by (first | refine an ?_ rfl | apply aC); (repeat' (first | exact ai | apply aS | apply aE | exact Dat.func DatL.nil)); first | done | fail) | refine alZ ?_ | refine stZ ?_ | refine cFZ ?_ | refine ae rfl ?_ | refine r1Z ?_ | fail)) <;> (try clear zz)
  exact gV (aj (aZ _ _) (aj (bc _ _) (aj (.eslsl 1) ai)))
 ·rw [decide_eq_false he] at hE
  rw [if_neg he]
  (have zz:=and_self; repeat' (first | refine zW ?_ | apply a_n | refine zO ?_ | refine vZ ?_ | refine cZ ?_ (hp:=by first | exact h1 | exact h2 | exact hE) (hs:=by (first | refine an ?_ rfl | apply aC); (repeat' (first | exact ai | apply aS | apply aE | exact Dat.func DatL.nil)); first | done | fail) | refine alZ ?_ | refine stZ ?_ | refine cTZ ?_ | refine ae rfl ?_ | refine r1Z ?_ | fail)) <;> (try clear zz)
  exact gV (aj (aZ _ _) (aj (bc _ _) (aj (bc _ _) ai)))
end Go.Proofs.YtjgpfclngkcedaaGreat
namespace Go.Proofs.YtjgpfclngkcedaaGreat
open Go Go.Abs
def eF (l:List (List Int)):Prop:=l.Pairwise fun x y=>aY x y < 0
theorem eF.nodup {l:List (List Int)} (h:eF l):l.Nodup:=List.Pairwise.imp (fun {a b} h e=>by subst e; rw [cT] at h; omega) h
theorem eF.sorted {l:List (List Int)} (h:eF l):bv aY l:=List.Pairwise.imp (fun {a b} h=>qN.asym _ _ h) h
theorem eF.of {l:List (List Int)} (hs:bv aY l) (hn:l.Nodup):eF l:=by
 have h2:=List.nodup_iff_pairwise_ne.1 hn
 refine List.Pairwise.imp₂ (fun a b h1 h2=>?_) hs h2
 rcases ga a b with h | h | h
 ·omega
 ·exact absurd (fO h) h2
 ·have:=du a b
  exact absurd (show aY b a < 0 by omega) h1
theorem mM {a b:List (List Int)} (ha:eF a) (hb:eF b) (h:∀ x,x ∈ a ↔ x ∈ b):a=b:=by
 have hp:a.Perm b:=(List.perm_ext_iff_of_nodup ha.nodup hb.nodup).2 h
 exact List.Perm.eq_of_pairwise (fun x y _ _ h1 h2=>by have:=du x y; omega) ha hb hp
theorem kE {l:List (List Int)} (h:eF l):∀ i,i < l.length→bu l i=false:=jB h.sorted h.nodup
theorem oC {l:List (List Int)} (h:∀ i,i < l.length→bu l i=false):eF l:=eF.of (rU h) (uy h)
def nI (acc:List (List Int)) (v:List Int):List (List Int):=if v ∈ acc then acc else lV aY acc v
theorem uV {acc:List (List Int)} {v:List Int} (h:eF acc):eF (nI acc v):=by
 unfold nI
 split
 ·exact h
 ·rename_i hn
  refine eF.of (kN qN h.sorted) ?_
  rw [(iv acc v).nodup_iff,List.nodup_cons]
  exact ⟨hn,h.nodup⟩
theorem vX {acc:List (List Int)} {v x:List Int}:x ∈ nI acc v ↔ x ∈ acc ∨ x=v:=by
 unfold nI
 split
 ·rename_i h
  exact ⟨.inl,fun h2=>h2.elim id (fun e=>e ▸ h)⟩
 ·rw [(iv acc v).mem_iff,List.mem_cons]
  exact ⟨fun h=>h.elim .inr .inl,fun h=>h.elim .inr .inl⟩
theorem u2 {acc:List (List Int)} {v:List Int}:(nI acc v).length ≤ acc.length + 1:=by
 unfold nI
 split
 ·omega
 ·rw [vG]; exact Nat.le_refl _
def nC (acc l:List (List Int)):List (List Int):=l.foldl nI acc
theorem qG:∀ {l acc:List (List Int)},eF acc→eF (nC acc l)
 | [],_,h=>h
 | v :: l,acc,h=>qG (l:=l) (uV (v:=v) h)
theorem rc:∀ {l acc:List (List Int)} {x:List Int},x ∈ nC acc l ↔ x ∈ acc ∨ x ∈ l
 | [],acc,x=>by simp [nC]
 | v :: l,acc,x=>by
  rw [show nC acc (v :: l)=nC (nI acc v) l from rfl,rc,vX,List.mem_cons,or_assoc]
theorem qX:∀ {l acc:List (List Int)},(nC acc l).length ≤ acc.length + l.length
 | [],acc=>by simp [nC]
 | v :: l,acc=>by
  rw [show nC acc (v :: l)=nC (nI acc v) l from rfl]
  have:=qX (l:=l) (acc:=nI acc v)
  have:=u2 (acc:=acc) (v:=v)
  rw [List.length_cons]; omega
def gq (l:List (List Int)):List (List Int):=nC [] l
theorem gY (l:List (List Int)):eF (gq l):=qG List.Pairwise.nil
theorem ia {l:List (List Int)} {x:List Int}:x ∈ gq l ↔ x ∈ l:=by
 unfold gq; rw [rc]; simp
theorem vj {l:List (List Int)}:(gq l).length ≤ l.length:=by
 have:=qX (l:=l) (acc:=[])
 unfold gq
 rw [List.length_nil] at this
 omega
section
variable {α:Type} [Inhabited α] [DecidableEq α]
def bl (l:List α):Nat→Nat
 | 0=>0
 | k + 1=>bl l k + if k=0 ∨ l.getD k default ≠ l.getD (k - 1) default then 1 else 0
theorem s6 (l:List α) (k:Nat):bl l k ≤ k:=by
 induction k with
 | zero=>exact Nat.le_refl _
 | succ k ih=>unfold bl; split <;> omega
theorem fh {l:List α} {k:Nat} (hk:k ≠ 0) (h:l.getD k default=l.getD (k - 1) default):bl l (k + 1)=bl l k:=by
 rw [bl,if_neg (by rintro (h' | h'); exact hk h'; exact h' h)]; rfl
theorem kL {l:List α} {k:Nat} (h:l.getD k default ≠ l.getD (k - 1) default):bl l (k + 1)=bl l k + 1:=by
 rw [bl,if_pos (.inr h)]
def ddG (l:List α):Nat→List α
 | 0=>[]
 | k + 1=>ddG l k ++ if k=0 ∨ l.getD k default ≠ l.getD (k - 1) default then [l.getD k default] else []
theorem wx (l:List α) (k:Nat):(ddG l k).length=bl l k:=by
 induction k with
 | zero=>rfl
 | succ k ih=>rw [ddG,bl,List.length_append,ih]; split <;> rfl
theorem pP {l:List α} {k:Nat} (hk:k ≠ 0) (h:l.getD k default=l.getD (k - 1) default):ddG l (k + 1)=ddG l k:=by
 rw [ddG,if_neg (by rintro (h' | h'); exact hk h'; exact h' h),List.append_nil]
theorem qg {l:List α} {k:Nat} (h:l.getD k default ≠ l.getD (k - 1) default):ddG l (k + 1)=ddG l k ++ [l.getD k default]:=by
 rw [ddG,if_pos (.inr h)]
theorem pC {l:List α}:∀ {k:Nat},k ≤ l.length→∀ x,x ∈ ddG l k ↔ ∃ j,j < k∧l.getD j default=x
 | 0,_,x=>by simp [ddG]
 | k + 1,hk,x=>by
  have ih:=pC (l:=l) (k:=k) (by omega) x
  rw [ddG,List.mem_append,ih]
  constructor
  ·rintro (⟨j,h1,h2⟩ | h)
   ·exact ⟨j,by omega,h2⟩
   ·split at h
    ·rw [List.mem_singleton] at h; exact ⟨k,by omega,h.symm⟩
    ·simp at h
  ·rintro ⟨j,h1,h2⟩
   by_cases e:j=k
   ·subst e
    by_cases c:j=0 ∨ l.getD j default ≠ l.getD (j - 1) default
    ·right; rw [if_pos c,List.mem_singleton]; exact h2.symm
    ·left
     have c1:j ≠ 0:=fun h=>c (.inl h)
     have c2:l.getD j default=l.getD (j - 1) default:=Decidable.of_not_not fun h=>c (.inr h)
     exact ⟨j - 1,by omega,by rw [← c2]; exact h2⟩
   ·left; exact ⟨j,by omega,h2⟩
theorem sP {K:α→α→Int} (hK:Ord K) (hA:∀ x y,¬ K x y < 0→¬ K y x < 0→x=y) {l:List α} (hs:∀ i j,i < j→j < l.length→¬ K (l.getD j default) (l.getD i default) < 0):∀ {k:Nat},k ≤ l.length→(ddG l k).Pairwise fun x y=>K x y < 0
 | 0,_=>List.Pairwise.nil
 | k + 1,hk=>by
  have ih:=sP hK hA hs (k:=k) (by omega)
  rw [ddG,List.pairwise_append]
  refine ⟨ih,by split <;> simp,fun x hx y hy=>?_⟩
  split at hy
  ·rename_i c
   rw [List.mem_singleton] at hy
   subst hy
   obtain ⟨j,h1,rfl⟩:=(pC (by omega) x).1 hx
   rcases c with c | c
   ·omega
   ·refine Decidable.byContradiction fun hn=>?_
    have a2:=hs (k - 1) k (by omega) (by omega)
    have hne:K (l.getD (k - 1) default) (l.getD k default) < 0:=Decidable.byContradiction fun h3=>c (hA _ _ a2 h3)
    by_cases e:j=k - 1
    ·rw [e] at hn; exact hn hne
    ·have a1:=hs j (k - 1) (by omega) (by omega)
     exact hK.negtr _ _ _ hn a1 hne
  ·simp at hy
omit [DecidableEq α] in
theorem pu {M:List α} {x:α}:(∃ j,j < M.length∧M.getD j default=x) ↔ x ∈ M:=by
 constructor
 ·rintro ⟨j,h1,rfl⟩; exact ah h1
 ·intro h
  obtain ⟨j,hj,rfl⟩:=List.getElem_of_mem h
  exact ⟨j,hj,by simp [List.getD,hj]⟩
end
theorem wJ (l:List (List Int)):ddG (vu l) (vu l).length=gq l:=by
 refine mM (sP qN (fun _ _=>uM) (fun i j h1 h2=>?_) (Nat.le_refl _)) (gY l) fun x=>?_
 ·have h3:j < (oe aY l).length:=h2
  have:=List.pairwise_iff_getElem.1 (jR qN l) i j (by omega) h3 h1
  simpa [List.getD,h3,show i < (oe aY l).length by omega] using this
 ·rw [pC (Nat.le_refl _),pu,(jd l).mem_iff,ia]
end Go.Proofs.YtjgpfclngkcedaaGreat
namespace Go.Proofs.YtjgpfclngkcedaaGreat
open Go Go.Abs
open Nat (reduceEqDiff reduceAdd reduceLeDiff)
section
variable {P:Program} {T:Tm} {H:Hp} {nx:Nat}
end
theorem ud {α:Type} [Inhabited α] {L:List α} {h:Nat} {x:α} (hh:h < L.length):(L.set h x).take (h + 1)=L.take h ++ [x]:=by
 rw [bZ (by simpa using hh),List.take_set_of_le (Nat.le_refl h)]
 simp [List.getD,hh]
theorem mI {B n len k:Nat} (h:k < len) (hn:n ≠ 0):r6 1 (.msl B n 1 0 len) (some (.int .i64 k)) none none=some (.msl B n 1 k (len - k)):=by
 simp only [r6,bf,Int.natCast_nonneg,if_true,Int.toNat_natCast]
 rw [if_pos ⟨trivial,by omega,Nat.le_refl _,hn⟩,if_pos (.inr h),Nat.zero_add,Nat.mul_one]
theorem rI {B n len k:Nat} (h:k ≤ len) (hn:n ≠ 0):r6 1 (.msl B n 1 0 len) none (some (.int .i64 k)) none=some (.msl B n 1 0 k):=by
 simp only [r6,bf,Int.natCast_nonneg,if_true,Int.toNat_natCast]
 rw [if_pos ⟨trivial,by omega,h,hn⟩,if_pos (.inl trivial),Nat.zero_mul,Nat.sub_zero]
attribute [local irreducible] aw ac aP aK ay aA am aB aM aX Go.Abs.Fn aH Go.Abs.Pure ag ax Yl
theorem u0 (s:AV) (l:List (List Int)) (hl:l.length ≤ 1000000) (H:Hp) (nx:Nat) (hn:d9 s=some l.length) (hs:∀ H',(∀ x,x < nx→H' x=H x)→cm 1 H' s=some (l.length,l.map aF)):Abs.Fn Tryz.prog 106 [s] H nx fun r H' nx'=>nx' ≤ nx + 1∧nx ≤ nx'∧(∀ x,x < nx→H' x=H x)∧if l=[] then b0 r=some (.int .i64 0)∧∀ H'',Snap H'' r (ar []) else r=.msl nx l.length 1 0 l.length∧H'=ak H nx (l.map aF)∧nx'=nx + 1:=by
 refine Abs.Fn.of_c2 follows vT (Nat.le_of_ble_eq_true rfl) ?_
 simp only [wG,cO,cG,cN,cM,cD,cF,cB,aq,aL]
 (have zz:=and_self; repeat' (first | refine zW ?_ | apply a_n | refine zO ?_ | refine vY ?_ | fail)) <;> (try clear zz)
 refine mN (k:=l.length) (by ((try simp only [bi,ZA,reduceEqDiff,↓reduceIte,reduceAdd,reduceLeDiff]); (try with_reducible rfl)); exact hn) (fun h=>?_) (fun h=>?_) (fun h=>?_)
 ·(have zz:=and_self; repeat' (first | refine zW ?_ | apply a_n | refine zO ?_ | refine vY ?_ | refine b0Y ?_ | refine cFY ?_ | fail)) <;> (try clear zz)
  refine mi rfl ev0 ev0 (hs _ fun x _=>rfl) im (by omega) (by omega) ?_
  (have zz:=and_self; repeat' (first | apply a_n | refine zO ?_ | refine vY ?_ | refine ae rfl ?_ | refine r1Y ?_ | fail)) <;> (try clear zz)
  refine ⟨Nat.le_refl _,by omega,fun x hx=>al (by omega),?_⟩
  rw [if_neg (by rintro rfl; exact absurd h (by simp))]
  exact ⟨rfl,rfl,rfl⟩
 ·(have zz:=and_self; repeat' (first | refine zW ?_ | apply a_n | apply a_r | refine zO ?_ | refine vY ?_ | refine cTY ?_ | refine ae rfl ?_ | refine r1Y ?_ | fail)) <;> (try clear zz)
  refine ⟨by omega,Nat.le_refl _,fun x hx=>rfl,?_⟩
  rw [if_pos (List.length_eq_zero_iff.1 h)]
  exact ⟨rfl,fun _=>.eslsl 1⟩
 ·(have zz:=and_self; repeat' (first | refine zW ?_ | apply a_n | refine zO ?_ | refine vY ?_ | refine b0Y ?_ | refine cFY ?_ | fail)) <;> (try clear zz)
  refine mi rfl ev0 ev0 (hs _ fun x _=>rfl) im (by omega) (by omega) ?_
  (have zz:=and_self; repeat' (first | apply a_n | refine zO ?_ | refine vY ?_ | refine ae rfl ?_ | refine r1Y ?_ | fail)) <;> (try clear zz)
  refine ⟨Nat.le_refl _,by omega,fun x hx=>al (by omega),?_⟩
  obtain rfl:=List.length_eq_zero_iff.1 h
  rw [if_pos rfl]
  exact ⟨rfl,fun _=>.mslnil _ _ _ _ _⟩
section
variable {g:Nat} {caps:List AV} {s:AV}
theorem zg (hs:b0 s=some (.int .i64 0)) {H:Hp} {nx:Nat}:Abs.Fn Tryz.prog 149 [s,.int .i64 0,.int .i64 0,.func g caps] H nx fun r H' nx'=>nx'=nx∧H'=H:=by
 refine Abs.Fn.of_c2 follows vN (Nat.le_of_ble_eq_true rfl) ?_
 simp only [wH,cO,cG,cN,cM,cD,cF,cB,aq,aL]
 (have zz:=and_self; repeat' (first | refine zW ?_ | apply a_n | refine zO ?_ | refine vZ ?_ | fail)) <;> (try clear zz)
 refine br (X:=Unit) (fun x=>[(0,s),(1,.int .i64 0),(2,.int .i64 0),(3,.func g caps),(8,.int .i64 1)]) (fun x H' nx'=>H'=H∧nx'=nx) (fun x=>0) () ⟨rfl,rfl⟩ (by simp (disch:=omega) only [agr,ZG,reduceEqDiff,↓reduceIte,Int.zero_add,true_and]) ?_
 rintro _ _ _ ⟨rfl,rfl⟩
 (have zz:=and_self; repeat' (first | refine zW ?_ | apply a_n | apply a_x | refine zO ?_ | refine vZ ?_ | (refine zGZ ?_ ?_ <;> (intro _hg; try (exfalso; omega))) | refine ae rfl ?_ | fail)) <;> (try clear zz)
 exact ⟨rfl,rfl⟩
theorem AI (hs:b0 s=some (.int .i64 0)) {H:Hp} {nx:Nat}:Abs.Fn Tryz.prog 130 [s,.int .i64 0,.int .i64 0,.int .i64 0,.func g caps] H nx fun r H' nx'=>nx'=nx∧H'=H:=by
 refine Abs.Fn.of_c2 follows vF (Nat.le_of_ble_eq_true rfl) ?_
 simp only [w5,cO,cG,cN,cM,cD,cF,cB,aq,aL]
 (have zz:=and_self; repeat' (first | refine zW ?_ | apply a_n | refine zO ?_ | refine vZ ?_ | fail)) <;> (try clear zz)
 refine br (X:=Unit) (fun x=>[(0,s),(1,.int .i64 0),(2,.int .i64 0),(3,.int .i64 0),(4,.func g caps)]) (fun x H' nx'=>H'=H∧nx'=nx) (fun x=>0) () ⟨rfl,rfl⟩ ag0 ?_
 rintro _ _ _ ⟨rfl,rfl⟩
 (have zz:=and_self; repeat' (first | refine zW ?_ | apply a_n | refine zO ?_ | refine vZ ?_ | (refine zGZ ?_ ?_ <;> (intro _hg; try (exfalso; omega))) | fail)) <;> (try clear zz)
 refine aR ev0 ev0 (zg hs) ?_
 rintro _ _ _ ⟨rfl,rfl⟩
 (have zz:=and_self; repeat' (first | apply a_n | apply a_r | refine zO ?_ | refine ae rfl ?_ | fail)) <;> (try clear zz)
 exact ⟨rfl,rfl⟩
theorem w9 (hs:b0 s=some (.int .i64 0)) {H:Hp} {nx:Nat}:Abs.Fn Tryz.prog 107 [s,.func g caps] H nx fun r H' nx'=>nx'=nx∧H'=H:=by
 refine Abs.Fn.of_c2 follows vO (Nat.le_of_ble_eq_true rfl) ?_
 simp only [wZ,cO,cG,cN,cM,cD,cF,cB,aq,aL]
 have w8:IntKind.wrap .u64 0=0:=by decide
 (have zz:=aI @w8 @hs; repeat' (first | refine zW ?_ | apply a_n | refine zO ?_ | refine vZ ?_ | fail)) <;> (try clear zz)
 refine aR ev0 (have zz:=@w8; evZ) zX ?_
 rintro _ _ _ ⟨rfl,rfl,rfl⟩
 (have zz:=and_self; repeat' (first | apply a_n | refine zO ?_ | refine vZ ?_ | fail)) <;> (try clear zz)
 refine aR ev0 ev0 (AI hs) ?_
 rintro _ _ _ ⟨rfl,rfl⟩
 (have zz:=and_self; repeat' (first | apply a_n | refine zO ?_ | refine ae rfl ?_ | fail)) <;> (try clear zz)
 exact ⟨rfl,rfl⟩
end
end Go.Proofs.YtjgpfclngkcedaaGreat
namespace Go.Proofs.YtjgpfclngkcedaaGreat
open Go Go.Abs
open Nat (reduceEqDiff reduceAdd reduceLeDiff)
attribute [local irreducible] aw ac aP aK ay aA am aB aM aX Go.Abs.Fn aH Go.Abs.Pure ag ax Yl
set_option maxHeartbeats 2000000 in
theorem r8 (l:List (List Int)) (hl:l.length ≤ 1000000) (hls:∀ v ∈ l,Sh v) (h0:l ≠ []) (H:Hp) (B nx:Nat) (hH:H B=some (l.map aF)) (hB:B < nx) :
    Abs.Fn Tryz.prog 108 [.msl B l.length 1 0 l.length,.func 15 []] H nx fun r H' nx'=>r=.msl B l.length 1 0 (bl l l.length)∧(∃ C,H'=ak H B C∧C.length=l.length∧C.take (bl l l.length)=(ddG l l.length).map aF)∧nx'=nx:=by
 refine Abs.Fn.of_c2 follows uZ (Nat.le_of_ble_eq_true rfl) ?_
 simp only [wt,cO,cG,cN,cM,cD,cF,cB,aq,aL]
 have hpos:=List.length_pos_iff.2 h0
 have hid:H=ak H B (l.map aF):=e7 hH
 have heq:=fun i j (hi:i < l.length) (hj:j < l.length)=>gA (l.getD i default) (l.getD j default) (hls _ (ah hi)) (hls _ (ah hj))
 have hh1:bl l 1=1:=rfl
 by_cases h1:l.length < 2
 ·have e1:l.length=1:=by omega
  have e2:ddG l l.length=l:=by
   match l,e1 with
   | [a],_=>rfl
  have z:decide ((l.length:Int) < 2)=true:=decide_eq_true (by omega)
  (have zz:=@z; repeat' (first | refine zW ?_ | apply a_n | apply a_r | refine zO ?_ | refine vZ ?_ | refine cTZ ?_ | refine ae rfl ?_ | refine r1Z ?_ | fail)) <;> (try clear zz)
  refine ⟨?_,⟨_,hid,by simp,?_⟩,rfl⟩
  ·rw [show bl l l.length=l.length by rw [e1]; rfl]
  ·rw [e2,show bl l l.length=l.length by rw [e1]; rfl,List.take_of_length_le (by simp)]
 have z:decide ((l.length:Int) < 2)=false:=decide_eq_false (by omega)
 (have zz:=@z; repeat' (first | refine zW ?_ | apply a_n | refine zO ?_ | refine vZ ?_ | refine cFZ ?_ | fail)) <;> (try clear zz)
 refine br (X:=Nat) (fun k=>[(0,.msl B l.length 1 0 l.length),(1,.func 15 []),(5,.int .i64 k)]) (fun k H' nx'=>H'=H∧nx'=nx∧1 ≤ k∧k ≤ l.length∧bl l k=k∧ddG l k=l.take k) (fun k=>l.length - k) 1 ⟨rfl,rfl,Nat.le_refl _,hpos,rfl,by match l,h0 with | a :: r,_=>rfl⟩ ag0 ?_
 rintro k H' nx' ⟨rfl,rfl,k1,k2,k3,k4⟩
 by_cases hk:k < l.length
 rotate_left
 ·(have zz:=and_self; repeat' (first | refine zW ?_ | apply a_n | apply a_x | refine zO ?_ | refine vZ ?_ | (refine zGZ ?_ ?_ <;> (intro _hg; try (exfalso; omega))) | refine ae rfl ?_ | refine r1Z ?_ | fail)) <;> (try clear zz)
  have e:l.length=k:=by omega
  refine ⟨by rw [e,k3],⟨_,hid,by simp,?_⟩,rfl⟩
  rw [e,k3,k4,← List.map_take]
 have tk:(k:Int) - 1=(k - 1:Nat):=by omega
 have hc:=heq k (k - 1) hk (by omega)
 by_cases he:l.getD k default=l.getD (k - 1) default
 rotate_left
 ·rw [decide_eq_false he] at hc
  (have zz:=aI @tk (aI @hH @Int.toNat_natCast); repeat' (first | refine zW ?_ | refine zM ?_ | apply a_n | refine zO ?_ | refine vZ ?_ | refine cZ ?_ (hp:=hc) | refine cFZ ?_ | (refine zGZ ?_ ?_ <;> (intro _hg; try (exfalso; omega))) | fail)) <;> (try clear zz)
  exact ⟨k + 1,by omega,⟨rfl,rfl,by omega,by omega,by rw [kL he,k3],by rw [qg he,k4,bZ hk]⟩,ag0⟩
 have hs:=mI (B:=B) hk (Nat.ne_of_gt hpos)
 rw [decide_eq_true he] at hc
 (have zz:=aI @tk (aI @hH (aI @Int.toNat_natCast @hs)); repeat' (first | refine zW ?_ | refine zM ?_ | apply a_n | refine zO ?_ | refine vZ ?_ | refine cZ ?_ (hp:=hc) | refine cTZ ?_ | (refine zGZ ?_ ?_ <;> (intro _hg; try (exfalso; omega))) | fail)) <;> (try clear zz)
 refine br (X:=Nat × List (List Int)) (fun x=>[(0,.msl B l.length 1 0 l.length),(1,.func 15 []),(5,.int .i64 (bl l (k + x.1):Nat)),(6,.msl B l.length 1 k (l.length - k)),(7,.int .i64 x.1)]) (fun x H2 nx2=>x.2.length=l.length∧1 ≤ x.1∧k + x.1 ≤ l.length∧bl l (k + x.1) + 1 ≤ k + x.1∧H2=ak H' B (x.2.map aF)∧nx2=nx'∧(∀ p,k + x.1 ≤ p + 1→x.2.getD p default=l.getD p default)∧x.2.take (bl l (k + x.1))=ddG l (k + x.1)) (fun x=>l.length - x.1) (1,l)
  ⟨rfl,Nat.le_refl _,hk,by dsimp only; rw [fh (by omega) he]; omega,hid,rfl,fun _ _=>rfl,by dsimp only; rw [fh (by omega) he,pP (by omega) he,k3,k4]⟩ (by simp (disch:=omega) only [agr,ZG,reduceEqDiff,↓reduceIte,fh (show k ≠ 0 by omega) he,k3]) ?_
 rintro ⟨j,L⟩ H2 nx2 ⟨a1,a2,a3,a4,rfl,rfl,a5,a6⟩
 dsimp only at a1 a2 a3 a4 a5 a6 ⊢
 by_cases hj:k + j < l.length
 ·have tj:(j:Int) - 1=(j - 1:Nat):=by omega
  have r1:=a5 (k + j) (by omega)
  have r2:=a5 (k + (j - 1)) (by omega)
  have hc2:=heq (k + j) (k + (j - 1)) hj (by omega)
  by_cases hd:l.getD (k + j) default=l.getD (k + (j - 1)) default
  ·have hq:bl l (k + (j + 1))=bl l (k + j):=fh (l:=l) (k:=k + j) (by omega) (by rw [hd,show k + j - 1=k + (j - 1) by omega])
   rw [decide_eq_true hd] at hc2
   (have zz:=aI @tj (aI @Int.toNat_natCast (aI @r1 @r2)); repeat' (first | refine zW ?_ | refine zM ?_ | apply a_n | refine zO ?_ | refine vZ ?_ | refine cZ ?_ (hp:=hc2) | refine cFZ ?_ | (refine zGZ ?_ ?_ <;> (intro _hg; try (exfalso; omega))) | fail)) <;> (try clear zz)
   refine ⟨(j + 1,L),by dsimp only; omega,⟨a1,by dsimp only; omega,by dsimp only; omega,?_,rfl,rfl,fun p hp=>a5 p (by dsimp only at hp; omega),by dsimp only; rw [hq,show k + (j + 1)=k + j + 1 from rfl,pP (by omega) (by rw [hd,show k + j - 1=k + (j - 1) by omega])]; exact a6⟩,(have zz:=@hq; agZ)⟩
   dsimp only
   rw [hq]
   omega
  ·have hq:bl l (k + (j + 1))=bl l (k + j) + 1:=kL (l:=l) (k:=k + j) (by rw [show k + j - 1=k + (j - 1) by omega]; exact hd)
   have hlm:=dX (f:=aF) (l:=L) (k:=bl l (k + j)) (x:=l.getD (k + j) default) (by omega)
   rw [decide_eq_false hd] at hc2
   (have zz:=aI @tj (aI @Int.toNat_natCast (aI @r1 @r2)); repeat' (first | refine zW ?_ | refine zM ?_ | apply a_n | refine zO ?_ | refine vZ ?_ | refine cZ ?_ (hp:=hc2) | refine stZ ?_ | refine cTZ ?_ | (refine zGZ ?_ ?_ <;> (intro _hg; try (exfalso; omega))) | fail)) <;> (try clear zz)
   refine ⟨(j + 1,L.set (bl l (k + j)) (l.getD (k + j) default)),by dsimp only; omega,⟨by simp [a1],by dsimp only; omega,by dsimp only; omega,?_,?_,rfl,fun p hp=>?_,by dsimp only; rw [hq,ud (by omega),a6,show k + (j + 1)=k + j + 1 from rfl,qg (by rw [show k + j - 1=k + (j - 1) by omega]; exact hd)]⟩,(have zz:=@hq; agZ)⟩
   ·dsimp only
    rw [hq]
    omega
   ·dsimp only
    rw [aG,hlm]
   ·dsimp only at hp ⊢
    rw [List.getD_eq_getElem?_getD,List.getElem?_set_ne (by omega),← List.getD_eq_getElem?_getD]
    exact a5 p (by omega)
 ·have hn:k + j=l.length:=by omega
  have hl1:=mI (B:=B) (n:=l.length) (show bl l (k + j) < l.length by omega) (Nat.ne_of_gt hpos)
  have hl2:=rI (B:=B) (n:=l.length) (show bl l (k + j) ≤ l.length by omega) (Nat.ne_of_gt hpos)
  (have zz:=aI @hl1 @hl2; repeat' (first | refine zW ?_ | apply a_n | apply a_x | refine zO ?_ | refine vZ ?_ | (refine zGZ ?_ ?_ <;> (intro _hg; try (exfalso; omega))) | fail)) <;> (try clear zz)
  refine As (H':=ak (ak H' B (L.map aF)) B (bF (L.map aF) (bl l (k + j)) (a8 .esl (l.length - bl l (k + j))))) ?_ ?_
  ·((try simp only [bi,ZA,reduceEqDiff,↓reduceIte,reduceAdd,reduceLeDiff]); (try with_reducible rfl))
   simp only [fw]
   rw [if_neg (by omega),au]
   dsimp only
   rw [if_pos ⟨by simp [a1],trivial,rfl,rfl,by omega⟩]
   rfl
  ·(have zz:=@hl2; repeat' (first | refine zW ?_ | apply a_n | apply a_r | refine zO ?_ | refine vZ ?_ | refine ae rfl ?_ | refine r1Z ?_ | fail)) <;> (try clear zz)
   refine ⟨by rw [hn],⟨_,aG _ _ _ _,?_,?_⟩,rfl⟩
   ·have hz:(a8 AV.esl (l.length - bl l (k + j))).length=l.length - bl l (k + j):=by simp [a8,show (AV.esl).cells.length=1 from rfl]
    simp [bF,hz]
    omega
   ·rw [← hn,← a6,List.map_take]
    simp only [bF]
    rw [List.append_assoc,List.take_append_of_le_length (by simp; omega),List.take_of_length_le (by simp; omega)]
theorem mb (s:AV) (l:List (List Int)) (hl:l.length ≤ 1000000) (hls:∀ v ∈ l,Sh v) (H:Hp) (nx:Nat) (hn:d9 s=some l.length) (hs:∀ H',(∀ x,x < nx→H' x=H x)→cm 1 H' s=some (l.length,l.map aF)):Abs.Fn Tryz.prog 57 [s] H nx fun r H' nx'=>Snap H' r (ar (gq l))∧(∀ x,x < nx→H' x=H x)∧nx ≤ nx':=by
 refine Abs.Fn.of_c2 follows z6 (Nat.le_of_ble_eq_true rfl) ?_
 simp only [b57,cO,cG,cN,cM,cD,cF,cB,aq,aL]
 (have zz:=and_self; repeat' (first | refine zW ?_ | apply a_n | refine zO ?_ | refine vY ?_ | fail)) <;> (try clear zz)
 refine aR ev0 ev0 (u0 s l hl H nx hn hs) ?_
 rintro r H1 n1 ⟨h1,h2,h3,h4⟩
 by_cases h0:l=[]
 ·subst h0
  rw [if_pos rfl] at h4
  obtain ⟨r1,r2⟩:=h4
  (have zz:=and_self; repeat' (first | refine zW ?_ | apply a_n | refine zO ?_ | refine vY ?_ | fail)) <;> (try clear zz)
  refine aR ev0 ev0 (w9 r1) ?_
  rintro _ _ _ ⟨rfl,rfl⟩
  (have zz:=and_self; repeat' (first | refine zW ?_ | apply a_n | refine zO ?_ | refine vY ?_ | fail)) <;> (try clear zz)
  have hcf:∀ H2 n2,Abs.Fn Tryz.prog 108 [r,.func 15 []] H2 n2 fun r' H' nx'=>r'=r∧H'=H2∧nx'=n2:=fun H2 n2=>by
   refine Abs.Fn.of_c2 follows uZ (Nat.le_of_ble_eq_true rfl) ?_
   simp only [wt,cO,cG,cN,cM,cD,cF,cB,aq,aL]
   (have zz:=@r1; repeat' (first | refine zW ?_ | apply a_n | apply a_r | refine zO ?_ | refine vZ ?_ | (refine zGZ ?_ ?_ <;> (intro _hg; try (exfalso; omega))) | refine ae rfl ?_ | refine r1Z ?_ | fail)) <;> (try clear zz)
   exact ⟨rfl,rfl,rfl⟩
  refine aR ev0 ev0 (hcf _ _) ?_
  rintro _ _ _ ⟨rfl,rfl,rfl⟩
  (have zz:=and_self; repeat' (first | apply a_n | refine zO ?_ | refine vY ?_ | refine ae rfl ?_ | refine r1Y ?_ | fail)) <;> (try clear zz)
  exact ⟨r2 _,h3,h2⟩
 rw [if_neg h0] at h4
 obtain ⟨rfl,rfl,rfl⟩:=h4
 have hpos:=List.length_pos_iff.2 h0
 (have zz:=and_self; repeat' (first | refine zW ?_ | apply a_n | refine zO ?_ | refine vY ?_ | fail)) <;> (try clear zz)
 refine aR ev0 ev0 (wD Be au (Nat.lt_succ_self nx) rfl hpos hls (by omega)) ?_
 rintro _ H2 n2 ⟨M,hps,hpM,hsM⟩
 have hMl:M.length=l.length:=hpM.length_eq
 have hM:M=vu l:=oZ qN (fun x _ y _=>uM) (bv.of (by rw [hMl]; exact hsM)) hpM
 have hMs:∀ v ∈ M,Sh v:=fun v hv=>hls v (hpM.mem_iff.1 hv)
 have hM0:M ≠ []:=fun e=>by rw [e] at hMl; simp at hMl; omega
 have hcp:=r8 M (by omega) hMs hM0 H2 nx n2 hps.at_ (by have:=hps.le; omega)
 rw [hMl] at hcp
 (have zz:=and_self; repeat' (first | refine zW ?_ | apply a_n | refine zO ?_ | refine vY ?_ | fail)) <;> (try clear zz)
 refine aR ev0 ev0 hcp ?_
 rintro _ _ _ ⟨rfl,⟨C,rfl,c1,c2⟩,rfl⟩
 (have zz:=and_self; repeat' (first | apply a_n | refine zO ?_ | refine vY ?_ | refine ae rfl ?_ | refine r1Y ?_ | fail)) <;> (try clear zz)
 refine ⟨?_,fun x hx=>by rw [al (by omega),hps.fr x (by omega) (by omega),al (by omega)],by have:=hps.le; omega⟩
 have hdd:ddG M l.length=gq l:=by
  have:=wJ l
  rw [← hM,hMl] at this
  exact this
 have hhl:=wx M l.length
 have hle:=s6 M l.length
 rw [hdd] at c2 hhl
 refine qb (cs:=C) au c1 (by omega) (by simp [hhl]) (fun y hy=>?_) (fun i x y hx hy=>?_)
 ·obtain ⟨v,_,rfl⟩:=List.mem_map.1 hy; rfl
 ·rw [Nat.zero_add] at hx
  have hil:i < bl M l.length:=by
   have:=(List.getElem?_eq_some_iff.1 hy).1
   rw [List.length_map] at this
   omega
  have e1:(C.take (bl M l.length))[i]?=some x:=by rw [List.getElem?_take,if_pos hil]; exact hx
  rw [c2,hy] at e1
  cases e1
  obtain ⟨v,_,rfl⟩:=List.mem_map.1 (List.mem_of_getElem? hy)
  exact aZ _ _
end Go.Proofs.YtjgpfclngkcedaaGreat
namespace Go.Proofs.YtjgpfclngkcedaaGreat
open Go Go.Abs
open Nat (reduceEqDiff reduceAdd reduceLeDiff)
attribute [local irreducible] aw ac aP aK ay aA am aB aM aX Go.Abs.Fn aH Go.Abs.Pure ag ax Yl
end Go.Proofs.YtjgpfclngkcedaaGreat
namespace Go.Proofs.YtjgpfclngkcedaaGreat
open Go Go.Abs
open Nat (reduceEqDiff reduceAdd reduceLeDiff)
theorem rQ {F:List (List Int)→List (List Int)→List (List Int)} {b:TaskV} {c:CaseV} (h:cV b c.inp=none):jJ F b c=none∧go F b c=true∧fE F b c=false:=by
 unfold jJ go fE; rw [h]; exact ⟨rfl,rfl,rfl⟩
theorem m8 {F:List (List Int)→List (List Int)→List (List Int)} {b:TaskV} {c d:CaseV} (h:cV b c.inp=some d):jJ F b c=some (eX c.inp (F c.out d.out) (F (ao c 0) (ao d 0)))∧go F b c=(decide (0 < (F c.out d.out).length) && decide (0 < (F (ao c 0) (ao d 0)).length))∧fE F b c=(decide (1024 < (F c.out d.out).length) || decide (1024 < (F (ao c 0) (ao d 0)).length)):=by
 unfold jJ go fE; rw [h]; exact ⟨rfl,rfl,rfl⟩
attribute [local irreducible] aw ac aP aK ay aA am aB aM aX Go.Abs.Fn aH Go.Abs.Pure ag ax Yl
set_option maxHeartbeats 2000000 in
theorem sa (a b:TaskV) (F:List (List Int)→List (List Int)→List (List Int)) (g:Nat) (caps:List AV) (hd:∀ x ∈ caps,Dat x) (ha:∀ c ∈ a.cases,ShC c) (ha2:a.cases.length ≤ 100000) (hb:∀ c ∈ b.cases,ShC c) (hb2:Sh b.cases)
    (hF:∀ c ∈ a.cases,∀ d ∈ b.cases,Pure Tryz.prog g (ar c.out :: ar d.out :: caps) (ar (F c.out d.out))∧Pure Tryz.prog g (ar (ao c 0) :: ar (ao d 0) :: caps) (ar (F (ao c 0) (ao d 0)))∧((F c.out d.out).length ≤ 100000∧∀ v ∈ F c.out d.out,Sh v)∧(F (ao c 0) (ao d 0)).length ≤ 100000∧∀ v ∈ F (ao c 0) (ao d 0),Sh v) (H:Hp) (nx:Nat) :
    Abs.Fn Tryz.prog 47 [bn a,bn b,.func g caps] H nx fun r H' nx'=>∃ sv,r=.tup [sv,.bool (a.cases.all (go F b)),.bool (a.cases.any (fE F b))]∧Row H' 3 sv ((ce F b a.cases).c3 dM)∧(∀ x,ef sv=some x→nx ≤ x∧x < nx')∧(∀ x,x < nx→H' x=H x)∧nx ≤ nx':=by
 refine Abs.Fn.of_c2 follows Aw (Nat.le_of_ble_eq_true rfl) ?_
 simp only [b47,cO,cG,cN,cM,cD,cF,cB,aq,aL]
 have d2:=bK b
 have hfind:=fun v hv=>sS b v hb hb2 hv
 unfold bn at *
 (have zz:=aI @af (aI @ab @ap); repeat' (first | refine zW ?_ | apply a_n | refine zO ?_ | refine vY ?_ | refine bxY ?_ | fail)) <;> (try clear zz)
 refine br (X:=AV × Nat) (fun x=>[(2,.func g caps),(3,.ptr nx 4 0),(4,.ptr (nx + 1) 4 0),(9,x.1),(10,.bool ((a.cases.take x.2).all (go F b))),(11,.bool ((a.cases.take x.2).any (fE F b))),(19,aO a.cases),(20,.int .i64 a.cases.length),(21,.int .i64 x.2)]) (fun x H' nx'=>x.2 ≤ a.cases.length∧nx + 2 ≤ nx'∧(∀ x,x < nx→H' x=H x)∧H' (nx + 1)=some [.int .i64 b.n,.int .i64 b.ins,.int .i64 b.outs,aO b.cases]∧Row H' 3 x.1 ((ce F b (a.cases.take x.2)).c3 dM)∧∀ y,ef x.1=some y→nx + 2 ≤ y∧y < nx') (fun x=>a.cases.length - x.2) (.esl,0) ⟨Nat.zero_le _,Nat.le_refl _,fun x hx=>by rw [al (by omega),al (by omega)],au,Row.nil,fun b hb=>(by cases hb)⟩ (by simp (disch:=omega) only [agr,ZG,reduceEqDiff,↓reduceIte,List.length_cons,List.length_nil,reduceAdd,Nat.zero_add,List.take_zero,List.all_nil,List.any_nil]) ?_
 rintro ⟨sv,k⟩ H1 nx1 ⟨hk,hnx,hsame,g1,hrow,hbd⟩
 dsimp only at hk hrow hbd ⊢
 by_cases hk2:k < a.cases.length
 rotate_left
 ·rw [List.take_of_length_le (by omega)] at hrow ⊢
  (have zz:=and_self; repeat' (first | refine zW ?_ | apply a_n | apply a_x | refine zO ?_ | refine vZ ?_ | (refine zGZ ?_ ?_ <;> (intro _hg; try (exfalso; omega))) | refine ae rfl ?_ | refine r3Z ?_ | fail)) <;> (try clear zz)
  exact ⟨sv,rfl,hrow,fun x hx=>by have:=hbd x hx; omega,hsame,by omega⟩
 have ix:=bd hk2
 have hm:=ah hk2
 have hall:=nP (p:=go F b) hk2
 have hany:=nM (p:=fE F b) hk2
 have hcomb:=mq (F:=F) (b:=b) hk2
 have hFc:=hF _ hm
 have hsc:=ha _ hm
 have hfi:=hfind _ hsc.1
 have hln:(ce F b (a.cases.take k)).length ≤ a.cases.length:=Nat.le_trans fK (by rw [List.length_take]; omega)
 have hlen3:((ce F b (a.cases.take k)).c3 dM).length=(ce F b (a.cases.take k)).length * 3:=rt (fun _=>rfl) _
 generalize a.cases.getD k default=c at *
 obtain ⟨q1,q2⟩:=hrow.one
 cases hf:cV b c.inp with
 | none =>
  obtain ⟨n1,n2,n3⟩:=rQ (F:=F) hf
  rw [n1] at hcomb
  rw [n2,Bool.and_true] at hall
  rw [n3,Bool.or_false] at hany
  rw [hf] at hfi
  have hfi':Pure Tryz.prog 41 [.agg [.int .i64 b.n,.int .i64 b.ins,.int .i64 b.outs,aO b.cases],aF c.inp] (.tup [.agg [aF [],ar [],ar []],.bool false]):=hfi
  (have zz:=aI @g1 (aI @af (aI @ab @ix)); repeat' (first | refine zW ?_ | apply a_n | apply a_x | refine zO ?_ | refine vY ?_ | refine cY ?_ (hp:=hfi') | refine alY ?_ | refine stY ?_ | refine cTY ?_ | (refine zGY ?_ ?_ <;> (intro _hg; try (exfalso; omega))) | fail)) <;> (try clear zz)
  refine ⟨(sv,k + 1),by dsimp only; omega,⟨by dsimp only; omega,by omega,fun x hx=>?_,?_,?_,fun y hy=>?_⟩,(have zz:=aI @hall @hany; agZ)⟩
  ·rw [al (by omega),al (by omega),al (by omega),al (by omega),hsame x hx]
  ·rw [al (by omega),al (by omega),al (by omega),al (by omega),g1]
  ·dsimp only
   rw [hcomb]
   simp only [Option.toList,List.append_nil]
   exact hrow.same fun y hy=>by have:=hbd y hy; rw [al (by omega),al (by omega),al (by omega),al (by omega)]
  ·have:=hbd y hy; omega
 | some d =>
  obtain ⟨n1,n2,n3⟩:=m8 (F:=F) hf
  obtain ⟨dm,di⟩:=d4 hf
  obtain ⟨f1,f2,⟨f3,f4⟩,f5,f6⟩:=hFc d dm
  rw [hf] at hfi
  have hfi':Pure Tryz.prog 41 [.agg [.int .i64 b.n,.int .i64 b.ins,.int .i64 b.outs,aO b.cases],aF c.inp] (.tup [.agg [aF d.inp,ar d.out,ar d.calm],.bool true]):=hfi
  have hc1:=rB c
  have hc2:=rB d
  have dc:=dQ c
  have dd:=dQ d
  unfold dM at dc dd
  have hmd:=x7 c.inp (F c.out d.out) (F (ao c 0) (ao d 0)) hsc.1 f3 f5 f4 f6
  have hmi:(eX c.inp (F c.out d.out) (F (ao c 0) (ao d 0))).inp=c.inp∧(eX c.inp (F c.out d.out) (F (ao c 0) (ao d 0))).out=F c.out d.out:=⟨rfl,rfl⟩
  rw [n1] at hcomb
  rw [n2] at hall
  rw [n3] at hany
  have hX:(F c.out d.out).length ≤ 17592186044416:=by omega
  have hY:(F (ao c 0) (ao d 0)).length ≤ 17592186044416:=by omega
  generalize eX c.inp (F c.out d.out) (F (ao c 0) (ao d 0))=M at *
  generalize F c.out d.out=X at *
  generalize F (ao c 0) (ao d 0)=Y at *
  refine bI ?_
  (have zz:=and_self; repeat' (first | apply a_n | refine zO ?_ | refine vY ?_ | fail)) <;> (try clear zz)
  refine bI ?_
  (have zz:=and_self; repeat' (first | apply a_n | refine zO ?_ | (refine zGY ?_ ?_ <;> (intro _hg; try (exfalso; omega))) | fail)) <;> (try clear zz)
  refine bI ?_
  refine eK ?_
  refine bI ?_
  (have zz:=@ix; repeat' (first | apply a_n | refine zO ?_ | refine vY ?_ | refine alY ?_ | refine stY ?_ | fail)) <;> (try clear zz)
  refine bI ?_
  (have zz:=aI @g1 (aI @af (aI @ab @ix)); repeat' (first | apply a_n | refine zO ?_ | refine vY ?_ | refine cY ?_ (hp:=hfi') | refine alY ?_ | refine stY ?_ | fail)) <;> (try clear zz)
  refine bI ?_
  refine bI ?_
  (have zz:=and_self; repeat' (first | apply a_n | refine zO ?_ | refine vY ?_ | refine cFY ?_ | fail)) <;> (try clear zz)
  refine ba (fun T' H' nx'=>T' 2=.func g caps∧T' 3=.ptr nx 4 0∧T' 4=.ptr (nx + 1) 4 0∧T' 9=sv∧T' 10=.bool ((a.cases.take k).all (go F b))∧T' 11=.bool ((a.cases.take k).any (fE F b))∧T' 13=.ptr nx1 3 0∧T' 16=ar X∧T' 17=ar Y∧T' 19=aO a.cases∧T' 20=.int .i64 a.cases.length∧T' 21=.int .i64 k∧nx'=nx1 + 2∧H' nx1=some [aF c.inp,ar c.out,ar c.calm]∧∀ x,x < nx1→H' x=H1 x) ?_ ?_
  ·(have zz:=and_self; repeat' (first | refine zM ?_ | apply a_n | refine zO ?_ | refine vY ?_ | refine cY ?_ (hp:=by first | exact f1 | exact f2 | exact hc1 | exact hc2) (hs:=by (first | refine an ?_ rfl | apply aC); (repeat' (first | exact ai | apply aS | apply aE | exact dc | exact dd | exact aJ hd)); first | done | fail) | fail)) <;> (try clear zz)
   exact ⟨rfl,rfl,rfl,rfl,rfl,rfl,rfl,rfl,rfl,rfl,rfl,rfl,rfl,by rw [al (by omega),al (by omega),au]; rfl,fun x hx=>by rw [al (by omega),al (by omega),al (by omega),al (by omega)]⟩
  rintro T H2 _ ⟨t2,t3,t4,t9,t10,t11,t13,t16,t17,t19,t20,t21,rfl,g13,gs⟩
  refine ba (fun T' H' nx'=>T' 2=.func g caps∧T' 3=.ptr nx 4 0∧T' 4=.ptr (nx + 1) 4 0∧T' 9=sv∧T' 10=.bool ((a.cases.take (k + 1)).all (go F b))∧T' 11=.bool ((a.cases.take k).any (fE F b))∧T' 13=.ptr nx1 3 0∧T' 16=ar X∧T' 17=ar Y∧T' 19=aO a.cases∧T' 20=.int .i64 a.cases.length∧T' 21=.int .i64 k∧nx'=nx1 + 2∧H2=H') ?_ ?_
  ·rw [hall]
   generalize (a.cases.take k).all (go F b)=A at *
   cases A <;> (
    (have zz:=aI @t10 (aI @t16 @t17); repeat' (first | apply a_n | refine zO ?_ | refine vZ ?_ | refine gTZ ?_ | refine gFZ ?_ | (refine zGZ ?_ ?_ <;> (intro _hg; try (exfalso; omega))) | fail)) <;> (try clear zz)
    all_goals exact ⟨(have zz:=@t2; evZ),(have zz:=@t3; evZ),(have zz:=@t4; evZ),(have zz:=@t9; evZ),by ((try simp only [bi,ZA,reduceEqDiff,↓reduceIte,reduceAdd,reduceLeDiff]); (try with_reducible rfl)); refine congrArg AV.bool ?_; rw [Bool.eq_iff_iff]; simp only [Bool.or_eq_true,Bool.and_eq_true,decide_eq_true_eq,Bool.false_eq_true,false_or,true_or,false_and,true_and,true_iff,false_iff]; first | done | omega,(have zz:=@t11; evZ),(have zz:=@t13; evZ),(have zz:=@t16; evZ),(have zz:=@t17; evZ),(have zz:=@t19; evZ),(have zz:=@t20; evZ),(have zz:=@t21; evZ),rfl,rfl⟩)
  clear t2 t3 t4 t9 t10 t11 t13 t16 t17 t19 t20 t21
  rintro T _ _ ⟨t2,t3,t4,t9,t10,t11,t13,t16,t17,t19,t20,t21,rfl,rfl⟩
  refine ba (fun T' H' nx'=>T' 2=.func g caps∧T' 3=.ptr nx 4 0∧T' 4=.ptr (nx + 1) 4 0∧T' 9=sv∧T' 10=.bool ((a.cases.take (k + 1)).all (go F b))∧T' 11=.bool ((a.cases.take (k + 1)).any (fE F b))∧T' 13=.ptr nx1 3 0∧T' 16=ar X∧T' 17=ar Y∧T' 19=aO a.cases∧T' 20=.int .i64 a.cases.length∧T' 21=.int .i64 k∧nx'=nx1 + 2∧H2=H') ?_ ?_
  ·rw [hany]
   generalize (a.cases.take k).any (fE F b)=A at *
   cases A <;> (
    (have zz:=aI @t11 (aI @t16 @t17); repeat' (first | apply a_n | refine zO ?_ | refine vZ ?_ | refine gTZ ?_ | refine gFZ ?_ | (refine zGZ ?_ ?_ <;> (intro _hg; try (exfalso; omega))) | fail)) <;> (try clear zz)
    all_goals exact ⟨(have zz:=@t2; evZ),(have zz:=@t3; evZ),(have zz:=@t4; evZ),(have zz:=@t9; evZ),(have zz:=@t10; evZ),by ((try simp only [bi,ZA,reduceEqDiff,↓reduceIte,reduceAdd,reduceLeDiff]); (try with_reducible rfl)); refine congrArg AV.bool ?_; rw [Bool.eq_iff_iff]; simp only [Bool.or_eq_true,Bool.and_eq_true,decide_eq_true_eq,Bool.false_eq_true,false_or,true_or,false_and,true_and,true_iff,false_iff]; first | done | omega,(have zz:=@t13; evZ),(have zz:=@t16; evZ),(have zz:=@t17; evZ),(have zz:=@t19; evZ),(have zz:=@t20; evZ),(have zz:=@t21; evZ),rfl,rfl⟩)
  clear t2 t3 t4 t9 t10 t11 t13 t16 t17 t19 t20 t21
  rintro T _ _ ⟨t2,t3,t4,t9,t10,t11,t13,t16,t17,t19,t20,t21,rfl,rfl⟩
  (have zz:=aI @t9 (aI @t13 (aI @t16 (aI @t17 @g13))); repeat' (first | apply a_n | refine zO ?_ | refine vY ?_ | refine cY ?_ (hp:=hmd) | refine blY ?_ | fail)) <;> (try clear zz)
  refine ma rfl ev0 (hrow.same fun y hy=>?_) ev0 mU rfl rfl (by omega) (by rw [hlen3]; omega) (by rw [hlen3]; omega) ?_
  ·have:=hbd y hy
   rw [al (by omega),gs y (by omega)]
  rintro s2 E e hrw hle1 hle2 hsm hb2
  (have zz:=@t21; repeat' (first | apply a_n | refine zO ?_ | refine vY ?_ | fail)) <;> (try clear zz)
  refine ⟨(s2,k + 1),by dsimp only; omega,⟨by dsimp only; omega,by omega,fun x hx=>?_,?_,?_,fun y hy=>?_⟩,(have zz:=aI @t2 (aI @t3 (aI @t4 (aI @t10 (aI @t11 (aI @t19 @t20))))); agZ)⟩
  ·rw [hsm x (by omega) (fun h=>by have:=hbd x h; omega),al (by omega),gs x (by omega),hsame x hx]
  ·rw [hsm (nx + 1) (by omega) (fun h=>by have:=hbd _ h; omega),al (by omega),gs _ (by omega),g1]
  ·dsimp only
   rw [hcomb,y3]
   obtain ⟨i,o,q⟩:=M
   obtain ⟨rfl,rfl⟩:=hmi
   simpa [List.c3,dM,AV.cells] using hrw
  ·rcases hb2 y hy with h | h
   ·have:=hbd y h; omega
   ·omega
end Go.Proofs.YtjgpfclngkcedaaGreat
namespace Go.Proofs.YtjgpfclngkcedaaGreat
open Go Go.Abs
theorem mn2 {a b:Int}:dS gz (.int .i64 a) [.int .i64 b]=some (.int .i64 (min a b)):=by
 simp only [dS,gz,if_true]
 rw [show (if b < a then b else a)=min a b by split <;> omega]
theorem sZ {c:CaseV} {f:Int} (h:ShC c):∀ v ∈ ao c f,Sh v:=by
 obtain ⟨s1,s2,s3,s4,s5⟩:=h
 unfold ao
 split
 ·exact s5
 ·exact s3
theorem eG {c:CaseV} {f:Int} {n:Nat} (h:c.out.length ≤ n∧c.calm.length ≤ n):(ao c f).length ≤ n:=by
 unfold ao
 split
 ·exact h.2
 ·exact h.1
theorem zV {H:Hp} {n i o:Int} {sv:AV} {L:List CaseV} (h:Snap H sv (aO L)):Snap H (.agg [.int .i64 n,.int .i64 i,.int .i64 o,sv]) (bn ⟨n,i,o,L⟩) :=
 gV (aj (.int _ _) (aj (.int _ _) (aj (.int _ _) (aj h ai))))
theorem v8 {H:Hp} {n i o e:Int} {sv:AV} {L:List CaseV} (h:Snap H sv (aO L)):Snap H (.tup [.agg [.int .i64 n,.int .i64 i,.int .i64 o,sv],.int .i64 e]) (.tup [bn ⟨n,i,o,L⟩,.int .i64 e]) :=
 gF (aj (zV h) (aj (.int _ _) ai))
attribute [local irreducible] aw ac aP aK ay aA am aB aM aX Go.Abs.Fn aH Go.Abs.Pure ag ax Yl
end Go.Proofs.YtjgpfclngkcedaaGreat
namespace Go.Proofs.YtjgpfclngkcedaaGreat
open Go Go.Abs
open Nat (reduceEqDiff reduceAdd reduceLeDiff)
attribute [local irreducible] aw ac aP aK ay aA am aB aM aX Go.Abs.Fn aH Go.Abs.Pure ag ax Yl
end Go.Proofs.YtjgpfclngkcedaaGreat
namespace Go.Proofs.YtjgpfclngkcedaaGreat
open Go Go.Abs
theorem gw {t:TaskV} (h:aN t=0) {c:CaseV} (hc:c ∈ t.cases):cV t c.inp=some c:=by
 cases hf:cV t c.inp with
 | none=>exact absurd rfl (rM hf c hc)
 | some d =>
  obtain ⟨h1,h2⟩:=d4 hf
  rw [uB h h1 hc h2]
theorem tF {F:List (List Int)→List (List Int)→List (List Int)} {b:TaskV} {l:List CaseV} {x:CaseV} (h:x ∈ ce F b l):∃ c ∈ l,∃ d,cV b c.inp=some d∧x=eX c.inp (F c.out d.out) (F (ao c 0) (ao d 0)):=by
 obtain ⟨c,hc,e⟩:=List.mem_filterMap.1 h
 unfold jJ at e
 rw [Option.map_eq_some_iff] at e
 obtain ⟨d,hd,rfl⟩:=e
 exact ⟨c,hc,d,hd,rfl⟩
theorem vw {i:List Int} {x y:List (List Int)} (hi:Sh i) (hx:x.length ≤ 1000000) (hxs:∀ v ∈ x,Sh v) (hy:y.length ≤ 1000000) (hys:∀ v ∈ y,Sh v):ShC (eX i x y):=by
 refine ⟨hi,show _ ≤ _ by show x.length ≤ _; omega,hxs,?_,?_⟩
 ·unfold eX
  dsimp only
  split
  ·exact Nat.zero_le _
  ·show y.length ≤ _; omega
 ·unfold eX
  dsimp only
  split
  ·intro v hv; exact (by cases hv)
  ·exact hys
structure Fit (t:TaskV):Prop where
 sh:∀ c ∈ t.cases,ShC c
 len:t.cases.length ≤ 100000
 q:∀ c ∈ t.cases,c.out.length ≤ 100000∧c.calm.length ≤ 100000
theorem Fit.sh2 {t:TaskV} (h:Fit t):Sh t.cases:=by have:=h.len; show _ ≤ _; omega
theorem Fit.qa {t:TaskV} (h:Fit t) {c:CaseV} (hc:c ∈ t.cases) {f:Int}:(ao c f).length ≤ 100000∧∀ v ∈ ao c f,Sh v:=⟨eG (h.q c hc),sZ (h.sh c hc)⟩
structure Fit4 (t:TaskV):Prop where
 fit:Fit t
 q4:∀ c ∈ t.cases,c.out.length ≤ 40000∧c.calm.length ≤ 40000
attribute [local irreducible] aw ac aP aK ay aA am aB aM aX Go.Abs.Fn aH Go.Abs.Pure ag ax Yl
end Go.Proofs.YtjgpfclngkcedaaGreat
namespace Go.Proofs.YtjgpfclngkcedaaGreat
open Go Go.Abs
open Nat (reduceEqDiff reduceAdd reduceLeDiff)
theorem eb {t:TaskV} (h:aN t=0) {c:CaseV} (hc:c ∈ t.cases):eF c.out∧eF c.calm∧(∀ f,eF (ao c f))∧∀ f,∀ v ∈ ao c f,v ∈ c.out:=by
 obtain ⟨g1,g2,g3,g4,g5⟩:=bo (bQ h hc).2
 have a1:=oC g3
 have a2:=oC g5
 refine ⟨a1,a2,fun f=>?_,fun f v hv=>?_⟩
 ·unfold ao; split <;> assumption
 ·unfold ao at hv
  split at hv
  ·exact g4 v hv
  ·exact hv
attribute [local irreducible] aw ac aP aK ay aA am aB aM aX Go.Abs.Fn aH Go.Abs.Pure ag ax Yl
end Go.Proofs.YtjgpfclngkcedaaGreat
namespace Go.Proofs.YtjgpfclngkcedaaGreat
open Go Go.Abs
attribute [local irreducible] aw ac aP aK ay aA am aB aM aX Go.Abs.Fn aH Go.Abs.Pure ag ax Yl
end Go.Proofs.YtjgpfclngkcedaaGreat
namespace Go.Proofs.YtjgpfclngkcedaaGreat
open Go Go.Abs
open Nat (reduceEqDiff reduceAdd reduceLeDiff)
def bj (m:Int) (v w:List Int):List Int:=(List.range v.length).map fun p=>v.getD p default * m + w.getD p default
theorem ff {m:Int} {v w:List Int}:(bj m v w).length=v.length:=by simp [bj]
def dw (m:Int) (x y:List (List Int)):List (List Int):=x.flatMap fun v=>y.map fun w=>bj m v w
theorem jm {m:Int} {x y:List (List Int)}:(dw m x y).length=x.length * y.length:=by
 unfold dw
 induction x with
 | nil=>simp
 | cons a l ih=>rw [List.flatMap_cons,List.length_append,ih,List.length_map,List.length_cons,Nat.add_mul]; omega
theorem i7 {m:Int} {x y:List (List Int)} {u:List Int}:u ∈ dw m x y ↔ ∃ v ∈ x,∃ w ∈ y,bj m v w=u:=by
 unfold dw
 rw [List.mem_flatMap]
 constructor
 ·rintro ⟨v,hv,h⟩
  obtain ⟨w,hw,e⟩:=List.mem_map.1 h
  exact ⟨v,hv,w,hw,e⟩
 ·rintro ⟨v,hv,w,hw,e⟩
  exact ⟨v,hv,List.mem_map.2 ⟨w,hw,e⟩⟩
def bE (m:Int) (x y:List (List Int)):List (List Int):=gq (dw m x y)
theorem Bv {x m:Int} (h0:0 ≤ x) (h1:x < 8) (h2:1 ≤ m) (h3:m ≤ 8):0 ≤ x * m∧x * m ≤ 56:=by
 have:m=1 ∨ m=2 ∨ m=3 ∨ m=4 ∨ m=5 ∨ m=6 ∨ m=7 ∨ m=8:=by omega
 rcases this with rfl | rfl | rfl | rfl | rfl | rfl | rfl | rfl <;> omega
structure Fit30 (t:TaskV):Prop where
 sh:∀ c ∈ t.cases,ShC c
 len:t.cases.length ≤ 30
 q:∀ c ∈ t.cases,c.out.length ≤ 30∧c.calm.length ≤ 30
theorem Fit30.of {t:TaskV} (h:nH t=true):Fit30 t:=by
 have hsh:=w6 h
 unfold nH at h
 rw [Bool.and_eq_true,decide_eq_true_iff,List.all_eq_true] at h
 refine ⟨hsh.2,h.1,fun c hc=>?_⟩
 have hf:=h.2 c hc
 unfold pA iK at hf
 simp only [Bool.and_eq_true,decide_eq_true_iff,List.all_eq_true] at hf
 exact ⟨hf.1.2.1,hf.2.1⟩
theorem Fit30.four {t:TaskV} (h:Fit30 t):Fit4 t:=⟨⟨h.sh,by have:=h.len; omega,fun c hc=>by have:=h.q c hc; omega⟩,fun c hc=>by have:=h.q c hc; omega⟩
theorem Fit30.fit {t:TaskV} (h:Fit30 t):Fit t:=h.four.fit
theorem wB {H:Hp} {sv:AV} {l:List (List Int)} {nx:Nat} (h:Row H 1 sv (l.map aF)) (hb:∀ b,ef sv=some b→b < nx):d9 sv=some l.length∧∀ H',(∀ x,x < nx→H' x=H x)→cm 1 H' sv=some (l.length,l.map aF):=by
 generalize hcs:l.map aF=cs at h
 have hl:cs.length=l.length:=by rw [← hcs,List.length_map]
 cases h with
 | nil =>
  have:l.length=0:=by rw [← hl]; rfl
  rw [this]
  exact ⟨rfl,fun _ _=>rfl⟩
 | box B len cs h1 h2 =>
  have e:len=l.length:=by omega
  subst e
  refine ⟨by simp [d9],fun H' hH=>?_⟩
  rw [ec ((hH B (hb B rfl)).trans h1) (by omega) (by omega),List.drop_zero,List.take_of_length_le (by omega)]
theorem ut {f:Nat→Int} {v:List Int} {p:Nat} (hp:p < v.length):bF ((((List.range v.length).map fun i=>if i < p then f i else v.getD i default)).map (AV.int .i64)) p [.int .i64 (f p)]=((List.range v.length).map fun (i:Nat)=>if i < p + 1 then f i else v.getD i default).map (AV.int .i64):=by
 rw [dX (f:=AV.int .i64) (by simpa using hp)]
 congr 1
 refine List.ext_getElem (by simp) fun i h1 h2=>?_
 simp only [List.length_set,List.length_map,List.length_range] at h1 h2
 rw [List.getElem_set]
 simp only [List.getElem_map,List.getElem_range]
 by_cases e:p=i
 ·subst e; rw [if_pos rfl,if_pos (by omega)]
 ·rw [if_neg e]
  by_cases c:i < p
  ·rw [if_pos c,if_pos (by omega)]
  ·rw [if_neg c,if_neg (by omega)]
attribute [local irreducible] aw ac aP aK ay aA am aB aM aX Go.Abs.Fn aH Go.Abs.Pure ag ax Yl
theorem qI (v:List Int) (hv:v.length ≤ 1000000) (h0:v ≠ []) (H:Hp) (nx:Nat):Abs.Fn Tryz.prog 42 [aF v] H nx fun r H' nx'=>r=.msl nx v.length 1 0 v.length∧H'=ak H nx (v.map (AV.int .i64))∧nx'=nx + 1:=by
 refine Abs.Fn.of_c2 follows wV (Nat.le_of_ble_eq_true rfl) ?_
 simp only [b42,cO,cG,cN,cM,cD,cF,cB,aq,aL]
 have hp:=List.length_pos_iff.2 h0
 (have zz:=and_self; repeat' (first | refine zW ?_ | apply a_n | refine zO ?_ | refine vY ?_ | fail)) <;> (try clear zz)
 refine mN (k:=v.length) (by ((try simp only [bi,ZA,reduceEqDiff,↓reduceIte,reduceAdd,reduceLeDiff]); (try with_reducible rfl)); exact nd) (fun h=>?_) (fun h=>by omega) (fun h=>by omega)
 (have zz:=and_self; repeat' (first | refine zW ?_ | apply a_n | refine zO ?_ | refine vY ?_ | refine b0Y ?_ | refine a0Y ?_ | refine cFY ?_ | refine ae rfl ?_ | refine r1Y ?_ | fail)) <;> (try clear zz)
 exact ⟨rfl,rfl,rfl⟩
set_option maxHeartbeats 2000000 in
theorem lW (b:TaskV) (n:Nat) (x y:List (List Int)) (h0:0 < n) (hn:n ≤ 5) (hm1:1 ≤ b.outs) (hm8:b.outs ≤ 8) (hx:x.length ≤ 300) (hy:y.length ≤ 300) (hxs:∀ v ∈ x,v.length=n∧∀ z ∈ v,0 ≤ z∧z < 8) (hys:∀ v ∈ y,v.length=n∧∀ z ∈ v,0 ≤ z∧z < 8):Pure Tryz.prog 69 [ar x,ar y,.iptr [.int .i64 b.n,.int .i64 b.ins,.int .i64 b.outs,aO b.cases] 0] (ar (bE b.outs x y)):=by
 refine Pure.of_c2 follows Av (Nat.le_of_ble_eq_true rfl) ?_
 simp only [b69,cO,cG,cN,cM,cD,cF,cB,aq,aL]
 refine bI ?_
 (have zz:=and_self; repeat' (first | apply a_n | refine zO ?_ | refine vZ ?_ | fail)) <;> (try clear zz)
 refine bI ?_
 (have zz:=and_self; repeat' (first | apply a_n | refine zO ?_ | refine vZ ?_ | fail)) <;> (try clear zz)
 refine ba (fun T H nx=>∃ sv,T 6=sv∧Row H 1 sv ((dw b.outs x y).map aF)∧∀ z,ef sv=some z→z < nx) ?_ ?_
 rotate_left
 ·rintro T H nx ⟨sv,t6,hrow,hbd⟩
  obtain ⟨s1,s2⟩:=wB hrow hbd
  have hpl:(dw b.outs x y).length ≤ 90000:=by
   rw [jm]
   calc x.length * y.length ≤ 300 * 300:=Nat.mul_le_mul hx hy
    _=90000:=rfl
  (have zz:=@t6; repeat' (first | refine zW ?_ | apply a_n | refine zO ?_ | refine vY ?_ | fail)) <;> (try clear zz)
  refine aR (have zz:=@t6; evY) (have zz:=@t6; evY) (mb sv (dw b.outs x y) (by omega) (fun u hu=>by
   obtain ⟨v,hv,w,hw,rfl⟩:=i7.1 hu
   show (bj _ _ _).length ≤ _
   rw [ff,(hxs v hv).1]; omega) _ _ s1 s2) ?_
  rintro r H1 n1 ⟨h1,h2,h3⟩
  (have zz:=and_self; repeat' (first | apply a_n | refine zO ?_ | refine vY ?_ | refine ae rfl ?_ | refine r1Y ?_ | fail)) <;> (try clear zz)
  exact h1
 (have zz:=and_self; repeat' (first | refine zW ?_ | apply a_n | refine zO ?_ | refine vY ?_ | fail)) <;> (try clear zz)
 generalize hC:AV.iptr [.int .i64 b.n,.int .i64 b.ins,.int .i64 b.outs,aO b.cases] 0=C
 refine br (X:=AV × Nat) (fun s=>[(1,ar y),(2,C),(6,s.1),(13,ar x),(14,.int .i64 x.length),(15,.int .i64 s.2)]) (fun s H nx=>s.2 ≤ x.length∧Row H 1 s.1 ((dw b.outs (x.take s.2) y).map aF)∧∀ z,ef s.1=some z→z < nx) (fun s=>x.length - s.2) (.esl,0) ⟨Nat.zero_le _,Row.nil,fun b hb=>(by cases hb)⟩ (have zz:=@hC; agZ) ?_
 rintro ⟨s,i⟩ H nx ⟨hi,hrow,hbd⟩
 dsimp only at hi hrow hbd ⊢
 by_cases hi2:i < x.length
 rotate_left
 ·rw [List.take_of_length_le (by omega)] at hrow
  (have zz:=and_self; repeat' (first | refine zW ?_ | apply a_n | apply a_x | refine zO ?_ | refine vY ?_ | (refine zGY ?_ ?_ <;> (intro _hg; try (exfalso; omega))) | fail)) <;> (try clear zz)
  exact ⟨s,rfl,hrow,hbd⟩
 obtain ⟨vl,vb⟩:=hxs _ (ah hi2)
 have hst:dw b.outs (x.take (i + 1)) y=dw b.outs (x.take i) y ++ y.map fun w=>bj b.outs (x.getD i default) w:=by
  rw [bZ hi2]
  unfold dw
  rw [List.flatMap_append]; simp
 have hlenP:(dw b.outs (x.take i) y).length ≤ 90000:=by
  rw [jm,List.length_take]
  calc min i x.length * y.length ≤ 300 * 300:=Nat.mul_le_mul (by omega) hy
   _=90000:=rfl
 (have zz:=and_self; repeat' (first | refine zW ?_ | apply a_n | refine zO ?_ | refine vY ?_ | (refine zGY ?_ ?_ <;> (intro _hg; try (exfalso; omega))) | fail)) <;> (try clear zz)
 generalize x.getD i default=v at *
 generalize dw b.outs (x.take i) y=P at *
 refine br (X:=AV × Nat) (fun s=>[(1,ar y),(2,C),(6,s.1),(8,aF v),(13,ar x),(14,.int .i64 x.length),(15,.int .i64 i),(19,ar y),(20,.int .i64 y.length),(21,.int .i64 s.2)]) (fun s H nx=>s.2 ≤ y.length∧Row H 1 s.1 ((P ++ (y.take s.2).map fun w=>bj b.outs v w).map aF)∧∀ z,ef s.1=some z→z < nx) (fun s=>y.length - s.2) (s,0) ⟨Nat.zero_le _,by simpa using hrow,hbd⟩ ag0 ?_
 clear hrow hbd
 rintro ⟨s,j⟩ H nx ⟨hj,hrow,hbd⟩
 dsimp only at hj hrow hbd ⊢
 by_cases hj2:j < y.length
 rotate_left
 ·rw [List.take_of_length_le (by omega),← hst] at hrow
  (have zz:=and_self; repeat' (first | refine zW ?_ | apply a_n | apply a_x | refine zO ?_ | refine vY ?_ | (refine zGY ?_ ?_ <;> (intro _hg; try (exfalso; omega))) | fail)) <;> (try clear zz)
  exact ⟨(s,i + 1),by dsimp only; omega,⟨by dsimp only; omega,hrow,hbd⟩,ag0⟩
 obtain ⟨wl,wb⟩:=hys _ (ah hj2)
 have hst2:(y.take (j + 1)).map (fun w=>bj b.outs v w)=(y.take j).map (fun w=>bj b.outs v w) ++ [bj b.outs v (y.getD j default)]:=by rw [bZ hj2,List.map_append]; rfl
 have hlenQ:(P ++ (y.take j).map fun w=>bj b.outs v w).length ≤ 90300:=by
  rw [List.length_append,List.length_map,List.length_take]; omega
 generalize hw:y.getD j default=w at *
 have hv0:v ≠ []:=fun e=>by rw [e] at vl; simp at vl; omega
 (have zz:=@hw; repeat' (first | refine zW ?_ | apply a_n | refine zO ?_ | refine vY ?_ | (refine zGY ?_ ?_ <;> (intro _hg; try (exfalso; omega))) | fail)) <;> (try clear zz)
 refine aR (have zz:=@hw; evY) (have zz:=@hw; evY) (qI v (by omega) hv0 H nx) ?_
 rintro _ _ _ ⟨rfl,rfl,rfl⟩
 have hid:v.map (AV.int .i64)=((List.range v.length).map fun (q:Nat)=>if q < 0 then v.getD q default * b.outs + w.getD q default else v.getD q default).map (AV.int .i64):=by
  congr 1
  refine List.ext_getElem (by simp) fun q h1 h2=>?_
  simp [List.getD,h1]
 have hfin:((List.range v.length).map fun (q:Nat)=>if q < v.length then v.getD q default * b.outs + w.getD q default else v.getD q default)=bj b.outs v w:=by
  unfold bj
  exact List.map_congr_left fun q hq=>if_pos (List.mem_range.1 hq)
 (have zz:=and_self; repeat' (first | apply a_n | refine zO ?_ | refine vY ?_ | fail)) <;> (try clear zz)
 refine ba (fun T' H' nx'=>T' 1=ar y∧T' 2=C∧T' 6=s∧T' 8=aF v∧T' 11=.msl nx v.length 1 0 v.length∧T' 13=ar x∧T' 14=.int .i64 x.length∧T' 15=.int .i64 i∧T' 19=ar y∧T' 20=.int .i64 y.length∧T' 21=.int .i64 j∧H'=ak H nx ((bj b.outs v w).map (AV.int .i64))∧nx'=nx + 1) ?_ ?_
 ·(have zz:=and_self; repeat' (first | refine zW ?_ | apply a_n | refine zO ?_ | refine vY ?_ | fail)) <;> (try clear zz)
  refine br (X:=Nat) (fun p=>[(1,ar y),(2,C),(6,s),(8,aF v),(10,aF w),(11,.msl nx v.length 1 0 v.length),(13,ar x),(14,.int .i64 x.length),(15,.int .i64 i),(19,ar y),(20,.int .i64 y.length),(21,.int .i64 j),(28,.int .i64 v.length),(29,.int .i64 (p:Nat))]) (fun p H' nx'=>p ≤ v.length∧H'=ak H nx (((List.range v.length).map fun (q:Nat)=>if q < p then v.getD q default * b.outs + w.getD q default else v.getD q default).map (AV.int .i64))∧nx'=nx + 1) (fun p=>v.length - p) 0 ⟨Nat.zero_le _,by rw [hid],rfl⟩ ag0 ?_
  rintro p _ _ ⟨hp,rfl,rfl⟩
  by_cases hp2:p < v.length
  rotate_left
  ·(have zz:=and_self; repeat' (first | refine zW ?_ | apply a_n | apply a_x | refine zO ?_ | refine vY ?_ | (refine zGY ?_ ?_ <;> (intro _hg; try (exfalso; omega))) | fail)) <;> (try clear zz)
   refine ⟨rfl,rfl,rfl,rfl,rfl,rfl,rfl,rfl,rfl,rfl,rfl,?_,rfl⟩
   rw [← hfin,show p=v.length by omega]
  have b1:=vb _ (ah hp2)
  have b2:=wb _ (ah (l:=w) (k:=p) (by omega))
  have b3:=Bv b1.1 b1.2 hm1 hm8
  have hlp:=ut (f:=fun q=>v.getD q default * b.outs + w.getD q default) hp2
  subst hC
  (have zz:=aI @af @ab; repeat' (first | refine zW ?_ | apply a_n | refine zO ?_ | refine vY ?_ | (refine zGY ?_ ?_ <;> (intro _hg; try (exfalso; omega))) | fail)) <;> (try clear zz)
  refine yt (b:=nx) (n:=v.length) (off:=p) rfl (have zz:=and_self; evY) (have zz:=and_self; evY) au rfl rfl (by simp) rfl (by omega) ?_
  (have zz:=and_self; repeat' (first | apply a_n | refine zO ?_ | refine vY ?_ | fail)) <;> (try clear zz)
  refine ⟨p + 1,by omega,⟨by omega,?_,rfl⟩,ag0⟩
  rw [aG,← hlp]; rfl
 rintro T _ _ ⟨t1,t2,t6,t8,t11,t13,t14,t15,t19,t20,t21,rfl,rfl⟩
 refine jq (only nx ((bj b.outs v w).map (AV.int .i64))) (bS (ak H nx ((bj b.outs v w).map (AV.int .i64))) nx) [(1,ar y),(2,C),(6,s),(8,aF v),(11,aF (bj b.outs v w)),(13,ar x),(14,.int .i64 x.length),(15,.int .i64 i),(19,ar y),(20,.int .i64 y.length),(21,.int .i64 j)] (Fz.one au) ⟨.inl t1,.inl t2,.inl t6,.inl t8,.inr (by rw [t11]; exact pS lG rfl ff),.inl t13,.inl t14,.inl t15,.inl t19,.inl t20,.inl t21,trivial⟩ ?_
 have hrow':Row (bS (ak H nx ((bj b.outs v w).map (AV.int .i64))) nx) 1 s ((P ++ (y.take j).map fun w=>bj b.outs v w).map aF):=hrow.same fun z hz=>by have:=hbd z hz; rw [fU (by omega),al (by omega)]
 generalize bS (ak H nx ((bj b.outs v w).map (AV.int .i64))) nx=H1 at *
 (have zz:=and_self; repeat' (first | apply a_n | refine zO ?_ | refine vY ?_ | refine blY ?_ | fail)) <;> (try clear zz)
 refine ma rfl ev0 (hrow'.same fun z hz=>?_) ev0 qR rfl rfl Nat.one_pos (by rw [List.length_map]; omega) (by rw [List.length_map]; omega) ?_
 ·have:=hbd z hz
  rw [al (by omega)]
 rintro s2 E e hrw hle1 hle2 hsm hb2
 (have zz:=and_self; repeat' (first | apply a_n | refine zO ?_ | refine vY ?_ | fail)) <;> (try clear zz)
 refine ⟨(s2,j + 1),by dsimp only; omega,⟨by dsimp only; omega,?_,fun z hz=>?_⟩,ag0⟩
 ·dsimp only
  rw [hst2,← List.append_assoc,List.map_append (l₁:=P ++ _)]
  exact hrw
 ·rcases hb2 z hz with h | h
  ·have:=hbd z h; omega
  ·omega
end Go.Proofs.YtjgpfclngkcedaaGreat
namespace Go.Proofs.YtjgpfclngkcedaaGreat
open Go Go.Abs
def k9 (a b:TaskV):TaskV × Int:=if cR a b ≠ 0 then (T00,cR a b) else if 8 < a.outs * b.outs then (T00,5) else if (ce (bE b.outs) b a.cases).length=0 then (T00,16) else (⟨a.n,min a.ins b.ins,a.outs * b.outs,ce (bE b.outs) b a.cases⟩,0)
theorem c7 {m:Int} {x y:List (List Int)} (hx:x.length ≤ 30) (hy:y.length ≤ 30):(bE m x y).length ≤ 900:=by
 have h1:=vj (l:=dw m x y)
 rw [jm] at h1
 have h2:x.length * y.length ≤ 30 * 30:=Nat.mul_le_mul hx hy
 unfold bE
 omega
theorem jF {m:Int} {x y:List (List Int)} (hx:∀ v ∈ x,v.length ≤ 5):∀ u ∈ bE m x y,Sh u:=fun u hu=>by
 obtain ⟨v,hv,w,hw,rfl⟩:=i7.1 (ia.1 hu)
 have:=hx v hv
 show (bj _ _ _).length ≤ _
 rw [ff]; omega
theorem cX {t:TaskV} (h:aN t=0) {c:CaseV} (hc:c ∈ t.cases):(∀ v ∈ c.out,(v.length:Int)=t.n∧∀ z ∈ v,0 ≤ z∧z < t.outs)∧∀ f,∀ v ∈ ao c f,(v.length:Int)=t.n∧∀ z ∈ v,0 ≤ z∧z < t.outs:=by
 obtain ⟨g1,g2,g3,g4,g5⟩:=bo (bQ h hc).2
 have h1:∀ v ∈ c.out,(v.length:Int)=t.n∧∀ z ∈ v,0 ≤ z∧z < t.outs:=fun v hv=>eO (g2 v hv)
 exact ⟨h1,fun f v hv=>h1 v ((eb h hc).2.2.2 f v hv)⟩
theorem hJ {x y:Int} (hx:1 ≤ x∧x ≤ 8) (hy:1 ≤ y∧y ≤ 8):1 ≤ x * y∧x * y ≤ 64:=by
 have:y=1 ∨ y=2 ∨ y=3 ∨ y=4 ∨ y=5 ∨ y=6 ∨ y=7 ∨ y=8:=by omega
 rcases this with rfl | rfl | rfl | rfl | rfl | rfl | rfl | rfl <;> omega
theorem tJ {m:Int} {a b:TaskV} (fa:Fit30 a) (fb:Fit30 b):a.cases.any (fE (bE m) b)=false:=by
 rw [List.any_eq_false]
 intro c hc
 unfold fE
 cases hf:cV b c.inp with
 | none=>exact Bool.false_ne_true
 | some d =>
  have hd:=(d4 hf).1
  have h1:=fa.q c hc
  have h2:=fb.q d hd
  have h3:=c7 (m:=m) h1.1 h2.1
  have h4:=c7 (m:=m) (eG (f:=0) h1) (eG (f:=0) h2)
  dsimp only
  rw [decide_eq_false (by omega),decide_eq_false (by omega)]
  decide
attribute [local irreducible] aw ac aP aK ay aA am aB aM aX Go.Abs.Fn aH Go.Abs.Pure ag ax Yl
set_option maxHeartbeats 2000000 in
theorem tO (a b:TaskV) (fa:Fit30 a) (fb:Fit30 b):Pure Tryz.prog 21 [bn a,bn b] (.tup [bn (k9 a b).1,.int .i64 (k9 a b).2]):=by
 refine Pure.of_c2 follows zZ (Nat.le_of_ble_eq_true rfl) ?_
 simp only [b21,cO,cG,cN,cM,cD,cF,cB,aq,aL]
 have hp:=uR a b fa.sh fa.fit.sh2 fb.sh fb.fit.sh2
 have d1:=bK a
 have d2:=bK b
 by_cases he:cR a b=0
 rotate_left
 ·have e:k9 a b=(T00,cR a b):=by unfold k9; rw [if_pos he]
  rw [e]
  generalize cR a b=C at *
  unfold bn at hp d1 d2
  rw [show bn a=.agg [.int .i64 a.n,.int .i64 a.ins,.int .i64 a.outs,aO a.cases] from rfl,show bn b=.agg [.int .i64 b.n,.int .i64 b.ins,.int .i64 b.outs,aO b.cases] from rfl]
  (have zz:=aI @af @ab; repeat' (first | refine zW ?_ | apply a_n | apply a_r | refine zO ?_ | refine vZ ?_ | refine cZ ?_ (hp:=hp) | refine alZ ?_ | refine bxZ ?_ | refine stZ ?_ | (refine zGZ ?_ ?_ <;> (intro _hg; try (exfalso; omega))) | refine ae rfl ?_ | refine r2Z ?_ | fail)) <;> (try clear zz)
  exact fm _
 obtain ⟨ca,cb,hn⟩:=sQ he
 rw [he] at hp
 have e:k9 a b=if 8 < a.outs * b.outs then (T00,5) else if (ce (bE b.outs) b a.cases).length=0 then (T00,16) else (⟨a.n,min a.ins b.ins,a.outs * b.outs,ce (bE b.outs) b a.cases⟩,0):=by unfold k9; rw [if_neg (fun h=>h he)]
 rw [e]
 have pa:=(d8 ca).1
 have pb:=(d8 cb).1
 have nn:=gD ca
 have hab:=hJ (x:=a.outs) (y:=b.outs) (by omega) (by omega)
 have hco:=fun H nx=>sa a b (bE b.outs) 69 [.iptr [.int .i64 b.n,.int .i64 b.ins,.int .i64 b.outs,aO b.cases] 0] (DatL.cons (Dat.iptr (DatL.cons .int (DatL.cons .int (DatL.cons .int (DatL.cons (b7 _) DatL.nil))))) DatL.nil) fa.sh fa.fit.len fb.sh fb.fit.sh2 (fun c hc d hd=>by
  have h1:=fa.q c hc
  have h2:=fb.q d hd
  have h3:=eG (f:=0) h1
  have h4:=eG (f:=0) h2
  obtain ⟨v1,v2⟩:=cX ca hc
  obtain ⟨w1,w2⟩:=cX cb hd
  have l1:=c7 (m:=b.outs) h1.1 h2.1
  have l2:=c7 (m:=b.outs) h3 h4
  refine ⟨lW b a.n.toNat _ _ (by omega) (by omega) (by omega) (by omega) (by omega) (by omega) (fun v hv=>⟨by have:=(v1 v hv).1; omega,fun z hz=>by have:=(v1 v hv).2 z hz; omega⟩) (fun v hv=>⟨by have:=(w1 v hv).1; omega,fun z hz=>by have:=(w1 v hv).2 z hz; omega⟩),lW b a.n.toNat _ _ (by omega) (by omega) (by omega) (by omega) (by omega) (by omega) (fun v hv=>⟨by have:=(v2 0 v hv).1; omega,fun z hz=>by have:=(v2 0 v hv).2 z hz; omega⟩) (fun v hv=>⟨by have:=(w2 0 v hv).1; omega,fun z hz=>by have:=(w2 0 v hv).2 z hz; omega⟩),⟨by omega,jF fun v hv=>by have:=(v1 v hv).1; omega⟩,by omega,jF fun v hv=>by have:=(v2 0 v hv).1; omega⟩) H nx
 have hcl:(ce (bE b.outs) b a.cases).length ≤ a.cases.length:=fK
 have hal:=fa.len
 rw [tJ fa fb] at hco
 generalize a.cases.all (go (bE b.outs) b)=A at *
 generalize ce (bE b.outs) b a.cases=L at *
 unfold bn at hp d1 d2 hco
 rw [show bn a=.agg [.int .i64 a.n,.int .i64 a.ins,.int .i64 a.outs,aO a.cases] from rfl,show bn b=.agg [.int .i64 b.n,.int .i64 b.ins,.int .i64 b.outs,aO b.cases] from rfl]
 refine bI ?_
 (have zz:=aI @af @ab; repeat' (first | apply a_n | refine zO ?_ | refine vZ ?_ | refine alZ ?_ | refine bxZ ?_ | fail)) <;> (try clear zz)
 refine ba (fun T H nx=>T 2=.ptr 0 4 0∧T 3=.ptr 1 4 0∧T 4=.ptr 2 4 0∧H 0=some [.int .i64 a.n,.int .i64 a.ins,.int .i64 a.outs,aO a.cases]∧H 1=some [.int .i64 b.n,.int .i64 b.ins,.int .i64 b.outs,aO b.cases]∧H 2=some [.int .i64 0,.int .i64 0,.int .i64 0,.esl]∧nx=3) ?_ ?_
 ·(have zz:=aI @af @ab; repeat' (first | refine zW ?_ | apply a_n | refine zO ?_ | refine vZ ?_ | refine cZ ?_ (hp:=hp) | (refine zGZ ?_ ?_ <;> (intro _hg; try (exfalso; omega))) | fail)) <;> (try clear zz)
  exact ⟨rfl,rfl,rfl,rfl,rfl,rfl,rfl⟩
 rintro T H _ ⟨t2,t3,t4,g0,g1,g2,rfl⟩
 by_cases h8:8 < a.outs * b.outs
 ·have z:decide (8 < a.outs * b.outs)=true:=decide_eq_true h8
  rw [if_pos h8]
  (have zz:=aI @t2 (aI @t3 (aI @t4 (aI @g0 (aI @g1 (aI @g2 @z))))); repeat' (first | refine zW ?_ | apply a_n | apply a_r | refine zO ?_ | refine vY ?_ | refine stY ?_ | refine cTY ?_ | refine ae rfl ?_ | refine r2Y ?_ | fail)) <;> (try clear zz)
  exact fm _
 have z:decide (8 < a.outs * b.outs)=false:=decide_eq_false h8
 rw [if_neg h8]
 refine ba (fun T H nx=>T 2=.ptr 0 4 0∧T 3=.ptr 1 4 0∧T 4=.ptr 2 4 0∧H 0=some [.int .i64 a.n,.int .i64 a.ins,.int .i64 a.outs,aO a.cases]∧H 1=some [.int .i64 b.n,.int .i64 b.ins,.int .i64 b.outs,aO b.cases]∧H 2=some [.int .i64 0,.int .i64 0,.int .i64 0,.esl]∧nx=3) ?_ ?_
 ·(have zz:=aI @t2 (aI @t3 (aI @t4 (aI @g0 (aI @g1 (aI @g2 @z))))); repeat' (first | refine zW ?_ | apply a_n | refine zO ?_ | refine vY ?_ | refine cFY ?_ | fail)) <;> (try clear zz)
  exact ⟨(have zz:=@t2; evZ),(have zz:=@t3; evZ),(have zz:=@t4; evZ),g0,g1,g2,rfl⟩
 clear t2 t3 t4 g0 g1 g2
 rintro T H _ ⟨t2,t3,t4,g0,g1,g2,rfl⟩
 refine bI ?_
 refine jq (only 1 [.int .i64 b.n,.int .i64 b.ins,.int .i64 b.outs,aO b.cases]) (bS H 1) [(2,.ptr 0 4 0),(3,.iptr [.int .i64 b.n,.int .i64 b.ins,.int .i64 b.outs,aO b.cases] 0),(4,.ptr 2 4 0)] (Fz.one g1) ⟨.inl t2,.inr (by rw [t3]; exact cf lG rfl (aj (.int _ _) (aj (.int _ _) (aj (.int _ _) (aj (b7 _ _) ai))))),.inl t4,trivial⟩ ?_
 have k0:bS H 1 0=some [.int .i64 a.n,.int .i64 a.ins,.int .i64 a.outs,aO a.cases]:=by rw [fU (by omega),g0]
 have k2:bS H 1 2=some [.int .i64 0,.int .i64 0,.int .i64 0,.esl]:=by rw [fU (by omega),g2]
 generalize bS H 1=H0 at *
 (have zz:=aI @k0 (aI @af @ab); repeat' (first | apply a_n | refine zO ?_ | refine vY ?_ | fail)) <;> (try clear zz)
 refine aR (have zz:=and_self; evY) (have zz:=aI @k0 (aI @af @ab); evY) (hco _ _) ?_
 rintro _ H1 n1 ⟨sv,rfl,hrow,hbd,hsm,hnx⟩
 have m0:=(hsm 0 (by omega)).trans k0
 have m2:=(hsm 2 (by omega)).trans k2
 have hlS:b0 sv=some (.int .i64 L.length):=hrow.lenS (by rw [rt (fun _=>rfl)]) (by omega)
 obtain ⟨q1,q2⟩:=hrow.one
 by_cases hL:L.length=0
 ·have zl:decide ((L.length:Int)=0)=true:=decide_eq_true (by omega)
  rw [if_pos hL]
  (have zz:=aI @m0 (aI @m2 (aI @hlS @zl)); repeat' (first | refine zW ?_ | apply a_n | apply a_r | refine zO ?_ | refine vY ?_ | refine stY ?_ | refine cTY ?_ | refine ae rfl ?_ | refine r2Y ?_ | fail)) <;> (try clear zz)
  all_goals exact fm _
 have zl:decide ((L.length:Int)=0)=false:=decide_eq_false (by omega)
 rw [if_neg hL]
 (have zz:=aI @m0 (aI @m2 (aI @hlS (aI @zl (aI @mn2 (aI @q1 (aI @q2 (aI @af @ab))))))); repeat' (first | refine zW ?_ | apply a_n | refine zO ?_ | refine vY ?_ | refine stY ?_ | refine cFY ?_ | refine ae rfl ?_ | refine r2Y ?_ | fail)) <;> (try clear zz)
 all_goals exact v8 (nX (hrow.same fun x hx=>by have:=hbd x hx; rw [al (by omega)]))
end Go.Proofs.YtjgpfclngkcedaaGreat
namespace Go.Proofs.YtjgpfclngkcedaaGreat
open Go Go.Abs
attribute [local irreducible] aw ac aP aK ay aA am aB aM aX Go.Abs.Fn aH Go.Abs.Pure ag ax Yl
end Go.Proofs.YtjgpfclngkcedaaGreat
namespace Go.Proofs.YtjgpfclngkcedaaGreat
open Go Go.Abs
open Nat (reduceEqDiff reduceAdd reduceLeDiff)
attribute [local irreducible] aw ac aP aK ay aA am aB aM aX Go.Abs.Fn aH Go.Abs.Pure ag ax Yl
end Go.Proofs.YtjgpfclngkcedaaGreat
namespace Go.Proofs.YtjgpfclngkcedaaGreat
open Go Go.Abs
attribute [local irreducible] aw ac aP aK ay aA am aB aM aX Go.Abs.Fn aH Go.Abs.Pure ag ax Yl
end Go.Proofs.YtjgpfclngkcedaaGreat
namespace Go.Proofs.YtjgpfclngkcedaaGreat
open Go Go.Abs
def dg (to:List Int) (v:List Int):List Int:=v.map fun z=>to.getD z.toNat default
theorem wa {to v:List Int}:(dg to v).length=v.length:=by simp [dg]
def bP (bs:List Nat) (n:Nat):List AV:=bs.map fun b=>.msl b n 1 0 n
structure BoxesM (H:Hp) (bs:List Nat) (l:List (List Int)):Prop where
 len:bs.length=l.length
 at_:∀ i,i < l.length→H (bs.getD i 0)=some ((l.getD i default).map (AV.int .i64))
 nodup:bs.Nodup
theorem BoxesM.same {H H':Hp} {bs:List Nat} {l:List (List Int)} (h:BoxesM H bs l) (hs:∀ b ∈ bs,H' b=H b):BoxesM H' bs l :=
 ⟨h.len,fun i hi=>(hs _ (by have:=h.len; rw [List.getD_eq_getElem?_getD,List.getElem?_eq_getElem (by omega)]; exact List.getElem_mem _)).trans (h.at_ i hi),h.nodup⟩
theorem rp {bs:List Nat} {i:Nat} (h:i < bs.length):bs.getD i 0 ∈ bs:=by
 rw [List.getD_eq_getElem?_getD,List.getElem?_eq_getElem h]; exact List.getElem_mem _
theorem yh {bs:List Nat} (h:bs.Nodup) {i j:Nat} (hi:i < bs.length) (hj:j < bs.length) (e:bs.getD i 0=bs.getD j 0):i=j:=by
 rw [List.getD_eq_getElem?_getD,List.getD_eq_getElem?_getD,List.getElem?_eq_getElem hi,List.getElem?_eq_getElem hj] at e
 have hp:=List.pairwise_iff_getElem.1 (List.nodup_iff_pairwise_ne.1 h)
 rcases Nat.lt_trichotomy i j with c | c | c
 ·exact absurd e (hp i j hi hj c)
 ·exact c
 ·exact absurd e.symm (hp j i hj hi c)
theorem BoxesM.snoc {H:Hp} {bs:List Nat} {l:List (List Int)} {b:Nat} {v:List Int} (h:BoxesM H bs l) (hb:H b=some (v.map (AV.int .i64))) (hn:b ∉ bs):BoxesM H (bs ++ [b]) (l ++ [v]):=by
 refine ⟨by simp [h.len],fun i hi=>?_,?_⟩
 ·rw [List.length_append,List.length_singleton] at hi
  have hl:=h.len
  by_cases e:i=l.length
  ·subst e
   rw [← hl]
   simp only [List.getD_eq_getElem?_getD,List.getElem?_append_right (Nat.le_refl _),Nat.sub_self]
   rw [hl,List.getElem?_append_right (Nat.le_refl _),Nat.sub_self]
   exact hb
  ·have:=h.at_ i (by omega)
   simp only [List.getD_eq_getElem?_getD] at this ⊢
   rw [List.getElem?_append_left (by omega),List.getElem?_append_left (by omega)]
   exact this
 ·rw [List.nodup_append]
  exact ⟨h.nodup,by simp,fun x hx y hy e=>hn (by simp at hy; subst hy; subst e; exact hx)⟩
theorem vv {H:Hp} {bs:List Nat} {l:List (List Int)} {B n:Nat} (h:BoxesM H bs l) (hl:∀ v ∈ l,v.length=n) (hB:H B=some (bP bs n)) (hBn:B ∉ bs):Fz (fun x=>if x ∈ bs then H x else none) H (ak (fun x=>if x ∈ bs then none else H x) B (l.map aF)):=by
 refine ⟨fun b c hb=>?_,fun b c hb=>?_⟩
 ·(try dsimp only at hb)
  split at hb
  ·exact hb
  ·cases hb
 ·by_cases e:b=B
  ·subst e
   rw [au] at hb
   cases hb
   refine ⟨_,hB,if_neg hBn,by simp [bP,h.len],fun i x x' hx hx'=>.inr ?_⟩
   have hi:i < bs.length:=by have:=(List.getElem?_eq_some_iff.1 hx).1; simpa [bP] using this
   have hil:i < l.length:=by have:=h.len; omega
   have e1:x=.msl (bs.getD i 0) n 1 0 n:=by
    have:(bP bs n)[i]?=some (.msl (bs.getD i 0) n 1 0 n):=by simp [bP,List.getD,hi]
    rw [this] at hx; cases hx; rfl
   have e2:x'=aF (l.getD i default):=by
    have:(l.map aF)[i]?=some (aF (l.getD i default)):=by simp [List.getD,hil]
    rw [this] at hx'; cases hx'; rfl
   subst e1; subst e2
   refine pS (by (try dsimp only); rw [if_pos (rp hi)]; exact h.at_ i hil) rfl (hl _ (ah hil))
  ·rw [al e] at hb
   (try dsimp only at hb)
   split at hb
   ·cases hb
   ·rename_i hn
    exact ⟨c,hb,if_neg hn,eZ.refl _ _⟩
attribute [local irreducible] aw ac aP aK ay aA am aB aM aX Go.Abs.Fn aH Go.Abs.Pure ag ax Yl
theorem s9 (l:List (List Int)) (n:Nat) (h0:0 < n) (hn:n ≤ 5) (hl:l.length ≤ 100000) (hls:∀ v ∈ l,v.length=n) (H:Hp) (nx:Nat):Abs.Fn Tryz.prog 75 [ar l] H nx fun r H' nx'=>∃ bs,Row H' 1 r (bP bs n)∧BoxesM H' bs l∧(∀ b,ef r=some b→nx ≤ b∧b < nx'∧b ∉ bs)∧(∀ b ∈ bs,nx ≤ b∧b < nx')∧(∀ x,x < nx→H' x=H x)∧nx ≤ nx':=by
 refine Abs.Fn.of_c2 follows y1 (Nat.le_of_ble_eq_true rfl) ?_
 simp only [b75,cO,cG,cN,cM,cD,cF,cB,aq,aL]
 (have zz:=and_self; repeat' (first | refine zW ?_ | apply a_n | refine zO ?_ | refine vY ?_ | fail)) <;> (try clear zz)
 refine br (X:=AV × Nat) (fun x=>[(3,x.1),(6,ar l),(7,.int .i64 l.length),(8,.int .i64 x.2)]) (fun x H' nx'=>x.2 ≤ l.length∧nx ≤ nx'∧(∀ y,y < nx→H' y=H y)∧∃ bs,Row H' 1 x.1 (bP bs n)∧BoxesM H' bs (l.take x.2)∧(∀ b,ef x.1=some b→nx ≤ b∧b < nx'∧b ∉ bs)∧∀ b ∈ bs,nx ≤ b∧b < nx') (fun x=>l.length - x.2) (.esl,0) ⟨Nat.zero_le _,Nat.le_refl _,fun _ _=>rfl,[],Row.nil,⟨rfl,fun i hi=>absurd hi (by simp),List.nodup_nil⟩,fun b hb=>(by cases hb),fun b hb=>(by cases hb)⟩ ag0 ?_
 rintro ⟨s,j⟩ H1 nx1 ⟨h1,h2,h3,bs,hrow,hbx,hbd,hbb⟩
 dsimp only at h1 hrow hbx hbd ⊢
 by_cases hj:j < l.length
 rotate_left
 ·rw [List.take_of_length_le (by omega)] at hbx
  (have zz:=and_self; repeat' (first | refine zW ?_ | apply a_n | apply a_x | refine zO ?_ | refine vY ?_ | (refine zGY ?_ ?_ <;> (intro _hg; try (exfalso; omega))) | refine ae rfl ?_ | refine r1Y ?_ | fail)) <;> (try clear zz)
  exact ⟨bs,hrow,hbx,hbd,hbb,h3,h2⟩
 have hw:=hls _ (ah hj)
 have hst:l.take (j + 1)=l.take j ++ [l.getD j default]:=bZ hj
 have hbl:bs.length=j:=by rw [hbx.len,List.length_take]; omega
 generalize hv:l.getD j default=v at *
 have hv0:v ≠ []:=fun e=>by rw [e] at hw; simp at hw; omega
 (have zz:=@hv; repeat' (first | refine zW ?_ | apply a_n | refine zO ?_ | refine vY ?_ | (refine zGY ?_ ?_ <;> (intro _hg; try (exfalso; omega))) | fail)) <;> (try clear zz)
 refine aR (have zz:=and_self; evY) (have zz:=@hv; evY) (qI v (by omega) hv0 H1 nx1) ?_
 rintro _ _ _ ⟨rfl,rfl,rfl⟩
 rw [hw]
 (have zz:=and_self; repeat' (first | apply a_n | refine zO ?_ | refine blY ?_ | fail)) <;> (try clear zz)
 refine ma (k:=1) (new:=[.msl nx1 n 1 0 n]) rfl ev0 (hrow.same fun b hb=>?_) ev0 (ec (n:=1) (len:=1) (off:=0) (cs:=[.msl nx1 n 1 0 n]) au rfl (by simp)) rfl rfl Nat.one_pos (by simp [bP]; omega) (by simp [bP]; omega) ?_
 ·have:=hbd b hb
  rw [al (by omega),al (by omega)]
 rintro s2 E e hrw hle1 hle2 hsm hb2
 (have zz:=and_self; repeat' (first | apply a_n | refine zO ?_ | refine vY ?_ | fail)) <;> (try clear zz)
 have hE:∀ x,x ≤ nx1→ef s ≠ some x→E x=ak H1 nx1 (v.map (AV.int .i64)) x:=fun x hx hr=>(hsm x (by omega) hr).trans (by rw [al (by omega)])
 have hrn:∀ b,(b ∈ bs ∨ b=nx1)→ef s ≠ some b:=fun b hb hr=>by
  have:=hbd b hr
  rcases hb with hb | rfl
  ·exact this.2.2 hb
  ·omega
 refine ⟨(s2,j + 1),by dsimp only; omega,⟨by dsimp only; omega,by omega,fun y hy=>?_,bs ++ [nx1],?_,?_,fun b hb=>?_,fun b hb=>?_⟩,ag0⟩
 ·rw [hE y (by omega) (fun h=>by have:=hbd y h; omega),al (by omega),h3 y hy]
 ·dsimp only
  have:bP (bs ++ [nx1]) n=bP bs n ++ [.msl nx1 n 1 0 n]:=by simp [bP]
  rw [this]; exact hrw
 ·dsimp only
  rw [hst]
  refine BoxesM.snoc (hbx.same fun b hb=>?_) ?_ (fun h=>by have:=hbb _ h; omega)
  ·have:=hbb b hb
   rw [hE b (by omega) (hrn b (.inl hb)),al (by omega)]
  ·rw [hE nx1 (Nat.le_refl _) (hrn nx1 (.inr rfl)),au]
 ·rcases hb2 b hb with h | h
  ·have:=hbd b h
   refine ⟨by omega,by omega,fun hm=>?_⟩
   rcases List.mem_append.1 hm with hm | hm
   ·exact this.2.2 hm
   ·simp at hm; omega
  ·refine ⟨by omega,by omega,fun hm=>?_⟩
   rcases List.mem_append.1 hm with hm | hm
   ·have:=hbb b hm; omega
   ·simp at hm; omega
 ·rcases List.mem_append.1 hb with hb | hb
  ·have:=hbb b hb; omega
  ·simp at hb; omega
end Go.Proofs.YtjgpfclngkcedaaGreat