/- Texts of this claim, one after the other: U8s, U9s, U10s, U11s, U12s, U13s, U2p, U3p, U4p, U5p, U6p, U7p, U8p, U10p, U12p, U13p, T106, T109, T110, T111, T112, T113, T107, T114, T115, T116, T117, T119, T124, T125, T120, T123, T126, T127, T128, T135, T136, T137, T129, T130, T131, T138, T170, T172, T132. -/
import Derived.Test.YtfcenbapjhecfaaXG4

set_option linter.unusedSimpArgs false
set_option linter.unusedVariables false
namespace Go.Proofs.Ytfcenbapjhecfaa
open Go Go.Abs
structure PartR {α:Type} [Inhabited α] (P:α→Prop) (a e mu i j:Nat) (M:List α):Prop where
 lo:a + 1 ≤ i
 mid:i ≤ j + 1
 hi:j < e
 mu:j + 1 - i ≤ mu
 up:∀ p,a + 1 ≤ p→p < i→P (M.getD p default)
 dn:∀ q,j < q→q < e→¬ P (M.getD q default)
section
variable {α:Type} [Inhabited α] {f:α→AV} {K:α→α→Int} {G:α→Prop} {g:Nat} {caps:List AV}
theorem PartR.start {P:α→Prop} {a m:Nat} {M:List α} (h:a ≤ m):PartR P a (m + 1) (m + 1 - (a + 1)) (a + 1) m M:=⟨Nat.le_refl _,by omega,by omega,Nat.le_refl _,fun p h1 h2=>by omega,fun q h1 h2=>by omega⟩
theorem PartR.stepUp {P:α→Prop} {a e mu i j:Nat} {M:List α} (h:PartR P a e mu i j M) (hij:i ≤ j) (hp:P (M.getD i default)):PartR P a e mu (i + 1) j M :=
 ⟨by have:=h.lo; omega,by omega,h.hi,by have:=h.mu; omega,fun p h1 h2=>by
  by_cases e:p=i
  ·rw [e]; exact hp
  ·exact h.up p h1 (by omega),h.dn⟩
theorem PartR.stepDn {P:α→Prop} {a e mu i k:Nat} {M:List α} (h:PartR P a e mu i (k + 1) M) (hij:i ≤ k + 1) (hp:¬ P (M.getD (k + 1) default)):PartR P a e mu i k M :=
 ⟨h.lo,hij,by have:=h.hi; omega,by have:=h.mu; omega,h.up,fun q h1 h2=>by
  by_cases e:q=k + 1
  ·rw [e]; exact hp
  ·exact h.dn q (by omega) h2⟩
theorem PartR.swap {P:α→Prop} {a e mu i k:Nat} {M:List α} (h:PartR P a e mu i (k + 1) M) (hM:e ≤ M.length) (hij:i ≤ k + 1) (hi:¬ P (M.getD i default)) (hj:P (M.getD (k + 1) default)):PartR P a e (k + 1 - (i + 1)) (i + 1) k (swp M i (k + 1))∧k + 1 - (i + 1) < mu:=by
 have hne:i ≠ k + 1:=fun e=>hi (by rw [e]; exact hj)
 have hh:=h.hi
 have hlo:=h.lo
 have hmu:=h.mu
 refine ⟨⟨by omega,by omega,by omega,Nat.le_refl _,fun p h1 h2=>?_,fun q h1 h2=>?_⟩,by omega⟩
 ·rw [cV (by omega) (by omega),if_neg (by omega)]
  by_cases e:p=i
  ·rw [if_pos e]; exact hj
  ·rw [if_neg e]; exact h.up p h1 (by omega)
 ·rw [cV (by omega) (by omega)]
  by_cases e:q=k + 1
  ·rw [if_pos e]; exact hi
  ·rw [if_neg e,if_neg (by omega)]; exact h.dn q (by omega) h2
theorem mS {M:List α} {i j k:Nat} (hi:i < M.length) (hj:j < M.length) (h1:k ≠ i) (h2:k ≠ j):(swp M i j).getD k default=M.getD k default:=by
 rw [cV hi hj,if_neg h2,if_neg h1]
attribute [local irreducible] aD aj aX aP aH aK az aL aR bd Go.Abs.Fn aO Go.Abs.Pure av aF Yl
theorem PartR.done {P:α→Prop} {a e mu i j:Nat} {M:List α} {v:α} (hK:Ord K) (h:PartR P a e mu i j M) (hM:e ≤ M.length) (hji:j < i) (hv:M.getD a default=v) (hP:∀ x,P x ↔ K x v < 0):a ≤ j∧j < e∧(∀ p,a ≤ p→p < j→K ((swp M j a).getD p default) ((swp M j a).getD j default) < 0)∧(∀ q,j < q→q < e→¬ K ((swp M j a).getD q default) ((swp M j a).getD j default) < 0):=by
 have hlo:=h.lo; have hmid:=h.mid; have hhi:=h.hi
 have ej:(swp M j a).getD j default=v:=by
  rw [cV (by omega) (by omega)]
  split
  ·rename_i e; rw [e,hv]
  ·rw [if_pos rfl,hv]
 rw [ej]
 refine ⟨by omega,by omega,fun p h1 h2=>?_,fun q h1 h2=>?_⟩
 ·rw [cV (by omega) (by omega)]
  by_cases e:p=a
  ·rw [if_pos e]; exact (hP _).1 (h.up j (by omega) hji)
  ·rw [if_neg e,if_neg (by omega)]; exact (hP _).1 (h.up p (by omega) (by omega))
 ·rw [cV (by omega) (by omega),if_neg (by omega),if_neg (by omega),← hP]; exact h.dn q h1 h2
theorem wT (hc:Cmp Try.prog f K G g caps) {L:List α} {H:Hp} {b nx n a e pv:Nat} (hH:H b=some (L.map f)) (hn:L.length=n) (hG:∀ x ∈ L,G x) (hae:a < e) (hen:e ≤ n) (hn2:n ≤ 1000000000) (hpv:a ≤ pv∧pv < e) :
    Abs.Fn Try.prog 104 [.msl b n 1 0 n,.int .i64 a,.int .i64 e,.int .i64 pv,.func g caps] H nx fun r H' nx'=>nx'=nx∧∃ (L':List α) (m:Nat),r=.int .i64 m∧a < m∧m ≤ e∧H'=aq H b (L'.map f)∧PermR a e L L'∧(∀ p,a ≤ p→p < m→¬ K (L.getD pv default) (L'.getD p default) < 0)∧(∀ q,m ≤ q→q < e→K (L.getD pv default) (L'.getD q default) < 0):=by
 have dcap:=hc.dcaps
 obtain ⟨v,hv0⟩:∃ v,L.getD pv default=v:=⟨_,rfl⟩
 rw [hv0]
 obtain ⟨P,hP⟩:∃ P:α→Prop,∀ x,P x ↔ ¬ K v x < 0:=⟨_,fun _=>Iff.rfl⟩
 obtain ⟨N,hN⟩:∃ N,swp L a pv=N:=⟨_,rfl⟩
 have hp1:PermR a e L N:=hN ▸ PermR.swap (by omega) (by omega) (by omega)
 have hv1:N.getD a default=v:=by
  rw [← hN,cV (by omega) (by omega),← hv0]
  split
  ·rename_i h; rw [h]
  ·rw [if_pos rfl]
 obtain ⟨M1,hl1,lm1,lm2⟩:=ca (f:=f) (M:=L) (i:=a) (j:=pv) (by omega) (by omega)
 rw [hN] at lm2
 have lm3:=lm2
 simp only [br,List.length_cons,List.length_nil,Nat.zero_add] at lm1 lm2
 obtain ⟨m,hm⟩:∃ m,e=m + 1:=⟨e - 1,by omega⟩
 have te:(e:Int) - 1=(m:Int):=by omega
 have ta:((a:Nat):Int) + 1=((a + 1:Nat):Int):=by omega
 refine Abs.Fn.of_c2 follows z6 (Nat.le_of_ble_eq_true rfl) ?_
 simp only [AR,cO,cG,cN,cM,cD,cF,cB,aB,aS]
 (have zz:=aI @hH (aI @te (aI @ta (aI @Int.toNat_natCast (aI hc.cells (aI hc.one (aI @lm1 @lm2)))))); repeat' (first|refine zW ?_|apply a_n|refine zO ?_|refine vZ ?_|refine stZ ?_|fail)) <;> (try clear zz)
 refine ba (X:=Nat × Nat × List α) (fun x=>[(0,.msl b n 1 0 n),(1,.int .i64 a),(4,.func g caps),(11,.int .i64 (x.1:Nat)),(12,.int .i64 (x.2.1:Nat))]) (fun x H' nxx=>PartR P a e (x.2.1 + 1 - x.1) x.1 x.2.1 x.2.2∧H'=aq H b (x.2.2.map f)∧nx=nxx∧PermR a e L x.2.2∧x.2.2.getD a default=v) (fun x=>x.2.1 + 1 - x.1) (a + 1,m,N) ⟨by dsimp only; rw [hm]; exact .start (by omega),by dsimp only; rw [aN,lm3],rfl,hp1,hv1⟩ ag0 ?_
 clear lm1 lm2 lm3 hl1 M1 hp1 hv1 hN N te ta hm m
 rintro ⟨i,j,M⟩ H' nxx ⟨hpt,rfl,rfl,hp,hv⟩
 dsimp only at *
 have hl:M.length=n:=by rw [hp.len,hn]
 have hGM:=hp.mem hG
 generalize hmu:j + 1 - i=mu at hpt ⊢
 clear hmu
 obtain ⟨T,hT,t0,t1,t4,t11,t12⟩:∃ T,tl [(0,.msl b n 1 0 n),(1,.int .i64 a),(4,.func g caps),(11,.int .i64 (i:Nat)),(12,.int .i64 (j:Nat))]=T∧T 0=.msl b n 1 0 n∧T 1=.int .i64 a∧T 4=.func g caps∧T 11=.int .i64 (i:Nat)∧T 12=.int .i64 (j:Nat):=⟨_,rfl,rfl,rfl,rfl,rfl,rfl⟩
 rw [hT]
 clear hT
 refine f8 ?_
 refine bw (fun T H'' nx''=>∃ i:Nat,PartR P a e mu i j M∧(i ≤ j→¬ P (M.getD i default))∧T 0=.msl b n 1 0 n∧T 1=.int .i64 a∧T 4=.func g caps∧T 11=.int .i64 (i:Nat)∧T 12=.int .i64 (j:Nat)∧H''=aq H b ((M).map f)∧nx=nx'') ?_ ?_
 ·(have zz:=aI @t0 (aI @t1 (aI @t4 (aI @t11 @t12))); repeat' (first|refine zW ?_|apply a_n|refine zO ?_|fail)) <;> (try clear zz)
  refine ba (X:=Nat) (fun i=>[(0,.msl b n 1 0 n),(1,.int .i64 a),(4,.func g caps),(11,.int .i64 (i:Nat)),(12,.int .i64 (j:Nat))]) (fun i H' nxx=>PartR P a e mu i j M∧H'=aq H b (M.map f)∧nx=nxx) (fun i=>j + 1 - i) i ⟨hpt,rfl,rfl⟩ (have zz:=aI @t0 (aI @t1 (aI @t4 (aI @t11 @t12))); agZ) ?_
  clear t0 t1 t4 t11 t12 hpt i
  rintro i H' nxx ⟨hpt,rfl,rfl⟩
  have hlo:=hpt.lo; have hmid:=hpt.mid; have hhi:=hpt.hi
  have ii:((i:Nat):Int) + 1=((i + 1:Nat):Int):=by omega
  by_cases hij:j < i
  ·(have zz:=and_self; repeat' (first|refine zW ?_|refine zM ?_|apply a_n|apply a_x|refine zO ?_|refine vZ ?_|refine gFZ ?_|(refine zGZ ?_ ?_ <;> (intro _hg; try (exfalso; omega)))|refine cFZ ?_|fail)) <;> (try clear zz)
   exact ⟨i,hpt,fun h=>absurd h (by omega),rfl,rfl,rfl,rfl,rfl,rfl,rfl⟩
  have lc:=hc.run (M.getD (a) default) (M.getD (i) default) (hGM _ (aJ (by omega))) (hGM _ (aJ (by omega)))
  have e1:=hc.dat (M.getD (a) default)
  have e2:=hc.dat (M.getD (i) default)
  have hPk:P (M.getD (i) default) ↔ ¬ K (M.getD (a) default) (M.getD (i) default) < 0:=by rw [hP,hv]
  generalize hKK:K (M.getD (a) default) (M.getD (i) default)=kk at lc hPk
  by_cases hlt:kk < 0
  ·(have zz:=aI @ii (aI @Int.toNat_natCast (aI hc.cells hc.one)); repeat' (first|refine zW ?_|refine zM ?_|apply a_n|apply a_x|refine zO ?_|refine vZ ?_|refine cZ ?_ (hp:=lc) (hs:=by (first | refine ac ?_ rfl | apply ag); (repeat' (first | exact aa | apply an | apply ai | exact e1 | exact e2 | exact aU dcap)); first | done | fail)|refine gTZ ?_|(refine zGZ ?_ ?_ <;> (intro _hg; try (exfalso; omega)))|fail)) <;> (try clear zz)
   exact ⟨i,hpt,fun _=>(by rw [hPk]; first | exact hlt | exact fun h=>h hlt),rfl,rfl,rfl,rfl,rfl,rfl,rfl⟩
  ·(have zz:=aI @ii (aI @Int.toNat_natCast (aI hc.cells hc.one)); repeat' (first|refine zW ?_|refine zM ?_|apply a_n|refine zO ?_|refine vZ ?_|refine cZ ?_ (hp:=lc) (hs:=by (first | refine ac ?_ rfl | apply ag); (repeat' (first | exact aa | apply an | apply ai | exact e1 | exact e2 | exact aU dcap)); first | done | fail)|refine gTZ ?_|(refine zGZ ?_ ?_ <;> (intro _hg; try (exfalso; omega)))|fail)) <;> (try clear zz)
   exact ⟨i + 1,by omega,⟨hpt.stepUp (by omega) (by rw [hPk]; exact hlt),rfl,rfl⟩,ag0⟩
 clear t0 t1 t4 t11 t12 hpt i
 rintro T _ _ ⟨i,hpt,hni,t0,t1,t4,t11,t12,rfl,rfl⟩
 refine bw (fun T H'' nx''=>∃ j:Nat,PartR P a e mu i j M∧(i ≤ j→¬ P (M.getD i default))∧(i ≤ j→P (M.getD j default))∧T 0=.msl b n 1 0 n∧T 1=.int .i64 a∧T 4=.func g caps∧T 11=.int .i64 (i:Nat)∧T 12=.int .i64 (j:Nat)∧H''=aq H b ((M).map f)∧nx=nx'') ?_ ?_
 ·(have zz:=aI @t0 (aI @t1 (aI @t4 (aI @t11 @t12))); repeat' (first|refine zW ?_|apply a_n|refine zO ?_|fail)) <;> (try clear zz)
  refine ba (X:=Nat) (fun j=>[(0,.msl b n 1 0 n),(1,.int .i64 a),(4,.func g caps),(11,.int .i64 (i:Nat)),(12,.int .i64 (j:Nat))]) (fun j H' nxx=>PartR P a e mu i j M∧(i ≤ j→¬ P (M.getD i default))∧H'=aq H b (M.map f)∧nx=nxx) (fun j=>j) j ⟨hpt,hni,rfl,rfl⟩ (have zz:=aI @t0 (aI @t1 (aI @t4 (aI @t11 @t12))); agZ) ?_
  clear t0 t1 t4 t11 t12 hpt hni j
  rintro j H' nxx ⟨hpt,hni,rfl,rfl⟩
  have hlo:=hpt.lo; have hmid:=hpt.mid; have hhi:=hpt.hi
  by_cases hij:j < i
  ·(have zz:=and_self; repeat' (first|refine zW ?_|refine zM ?_|apply a_n|apply a_x|refine zO ?_|refine vZ ?_|refine gFZ ?_|(refine zGZ ?_ ?_ <;> (intro _hg; try (exfalso; omega)))|refine cFZ ?_|fail)) <;> (try clear zz)
   exact ⟨j,hpt,hni,fun h=>absurd h (by omega),rfl,rfl,rfl,rfl,rfl,rfl,rfl⟩
  obtain ⟨k,rfl⟩:∃ k,j=k + 1:=⟨j - 1,by omega⟩
  have tk:((k + 1:Nat):Int) - 1=(k:Int):=by omega
  have lc:=hc.run (M.getD (a) default) (M.getD (k + 1) default) (hGM _ (aJ (by omega))) (hGM _ (aJ (by omega)))
  have e1:=hc.dat (M.getD (a) default)
  have e2:=hc.dat (M.getD (k + 1) default)
  have hPk:P (M.getD (k + 1) default) ↔ ¬ K (M.getD (a) default) (M.getD (k + 1) default) < 0:=by rw [hP,hv]
  generalize hKK:K (M.getD (a) default) (M.getD (k + 1) default)=kk at lc hPk
  by_cases hlt:kk < 0
  ·(have zz:=aI @tk (aI @Int.toNat_natCast (aI hc.cells hc.one)); repeat' (first|refine zW ?_|refine zM ?_|apply a_n|refine zO ?_|refine vZ ?_|refine cZ ?_ (hp:=lc) (hs:=by (first | refine ac ?_ rfl | apply ag); (repeat' (first | exact aa | apply an | apply ai | exact e1 | exact e2 | exact aU dcap)); first | done | fail)|refine gTZ ?_|(refine zGZ ?_ ?_ <;> (intro _hg; try (exfalso; omega)))|fail)) <;> (try clear zz)
   exact ⟨k,by omega,⟨hpt.stepDn (by omega) (by rw [hPk]; first | exact hlt | exact fun h=>h hlt),fun _=>hni (by omega),rfl,rfl⟩,ag0⟩
  ·(have zz:=aI @tk (aI @Int.toNat_natCast (aI hc.cells hc.one)); repeat' (first|refine zW ?_|refine zM ?_|apply a_n|apply a_x|refine zO ?_|refine vZ ?_|refine cZ ?_ (hp:=lc) (hs:=by (first | refine ac ?_ rfl | apply ag); (repeat' (first | exact aa | apply an | apply ai | exact e1 | exact e2 | exact aU dcap)); first | done | fail)|refine gTZ ?_|(refine zGZ ?_ ?_ <;> (intro _hg; try (exfalso; omega)))|fail)) <;> (try clear zz)
   exact ⟨k + 1,hpt,hni,fun _=>(by rw [hPk]; exact hlt),rfl,rfl,rfl,rfl,rfl,rfl,rfl⟩
 clear t0 t1 t4 t11 t12 hpt hni j
 rintro T _ _ ⟨j,hpt,hni,hnj,t0,t1,t4,t11,t12,rfl,rfl⟩
 have hlo:=hpt.lo; have hmid:=hpt.mid; have hhi:=hpt.hi
 by_cases hji:j < i
 ·(have zz:=aI @t0 (aI @t1 (aI @t4 (aI @t11 @t12))); repeat' (first|refine zW ?_|apply a_n|apply a_x|refine zO ?_|refine vZ ?_|(refine zGZ ?_ ?_ <;> (intro _hg; try (exfalso; omega)))|refine ak rfl ?_|refine r1Z ?_|fail)) <;> (try clear zz)
  refine ⟨rfl,M,i,rfl,by omega,by omega,rfl,hp,fun p h1 h2=>?_,fun q h1 h2=>by have:=hpt.dn q (by omega) h2; rw [hP] at this; exact Decidable.of_not_not this⟩
  by_cases ep:p=a
  ·rw [ep,hv]; exact hc.ord.irr _
  ·exact (hP _).1 (hpt.up p (by omega) h2)
 obtain ⟨k,rfl⟩:∃ k,j=k + 1:=⟨j - 1,by omega⟩
 have tk:((k + 1:Nat):Int) - 1=(k:Int):=by omega
 have ii:((i:Nat):Int) + 1=((i + 1:Nat):Int):=by omega
 obtain ⟨M1,hl1,lm1,lm2⟩:=ca (f:=f) (M:=M) (i:=i) (j:=k + 1) (by omega) (by omega)
 have lm3:=lm2
 simp only [br,List.length_cons,List.length_nil,Nat.zero_add] at lm1 lm2
 (have zz:=aI @t0 (aI @t1 (aI @t4 (aI @t11 (aI @t12 (aI @tk (aI @ii (aI @Int.toNat_natCast (aI hc.cells (aI hc.one (aI @lm1 @lm2)))))))))); repeat' (first|refine zW ?_|apply a_n|refine zO ?_|refine vZ ?_|refine stZ ?_|(refine zGZ ?_ ?_ <;> (intro _hg; try (exfalso; omega)))|fail)) <;> (try clear zz)
 obtain ⟨hq1,hq2⟩:=hpt.swap (by omega) (by omega) (hni (by omega)) (hnj (by omega))
 exact ⟨(i + 1,k,swp M i (k + 1)),hq2,⟨hq1,by dsimp only; rw [aN,aN,lm3],rfl,hp.trans (PermR.swap (by omega) (by omega) (by omega)),by dsimp only; rw [mS (by omega) (by omega) (by omega) (by omega)]; exact hv⟩,(have zz:=aI @t0 (aI @t1 (aI @t4 (aI @t11 @t12))); agZ)⟩
theorem zj (hc:Cmp Try.prog f K G g caps) {L:List α} {H:Hp} {b nx n a e pv:Nat} (hH:H b=some (L.map f)) (hn:L.length=n) (hG:∀ x ∈ L,G x) (hae:a < e) (hen:e ≤ n) (hn2:n ≤ 1000000000) (hpv:a ≤ pv∧pv < e) :
    Abs.Fn Try.prog 105 [.msl b n 1 0 n,.int .i64 a,.int .i64 e,.int .i64 pv,.func g caps] H nx fun r H' nx'=>nx'=nx∧∃ (L':List α) (m:Nat) (t:Bool),r=.tup [.int .i64 m,.bool t]∧a ≤ m∧m < e∧H'=aq H b (L'.map f)∧PermR a e L L'∧(∀ p,a ≤ p→p < m→K (L'.getD p default) (L'.getD m default) < 0)∧(∀ q,m < q→q < e→¬ K (L'.getD q default) (L'.getD m default) < 0):=by
 have dcap:=hc.dcaps
 obtain ⟨v,hv0⟩:∃ v,L.getD pv default=v:=⟨_,rfl⟩
 obtain ⟨P,hP⟩:∃ P:α→Prop,∀ x,P x ↔ K x v < 0:=⟨_,fun _=>Iff.rfl⟩
 obtain ⟨M,hN⟩:∃ N,swp L a pv=N:=⟨_,rfl⟩
 have hp:PermR a e L M:=hN ▸ PermR.swap (by omega) (by omega) (by omega)
 have hv:M.getD a default=v:=by
  rw [← hN,cV (by omega) (by omega),← hv0]
  split
  ·rename_i h; rw [h]
  ·rw [if_pos rfl]
 obtain ⟨M1,hl1,lm1,lm2⟩:=ca (f:=f) (M:=L) (i:=a) (j:=pv) (by omega) (by omega)
 rw [hN] at lm2
 have lm3:=lm2
 simp only [br,List.length_cons,List.length_nil,Nat.zero_add] at lm1 lm2
 obtain ⟨m,hm⟩:∃ m,e=m + 1:=⟨e - 1,by omega⟩
 have te:(e:Int) - 1=(m:Int):=by omega
 have ta:((a:Nat):Int) + 1=((a + 1:Nat):Int):=by omega
 refine Abs.Fn.of_c2 follows AP (Nat.le_of_ble_eq_true rfl) ?_
 simp only [AF,cO,cG,cN,cM,cD,cF,cB,aB,aS]
 refine bw (fun T H'' nx''=>T 0=.msl b n 1 0 n∧T 1=.int .i64 a∧T 2=.int .i64 e∧T 3=.int .i64 pv∧T 4=.func g caps∧H=H''∧nx=nx'') ?_ ?_
 ·(have zz:=and_self; repeat' (first|apply a_n|refine zO ?_|refine vZ ?_|fail)) <;> (try clear zz)
  exact ⟨rfl,rfl,rfl,rfl,rfl,rfl,rfl⟩
 rintro T _ _ ⟨t0,t1,t2,t3,t4,rfl,rfl⟩
 refine bw (fun T H'' nx''=>T 0=.msl b n 1 0 n∧T 1=.int .i64 a∧T 2=.int .i64 e∧T 3=.int .i64 pv∧T 4=.func g caps∧H''=aq H b (M.map f)∧nx=nx'') ?_ ?_
 ·(have zz:=aI @t0 (aI @t1 (aI @t2 (aI @t3 (aI @t4 (aI @hH (aI @Int.toNat_natCast (aI hc.cells (aI hc.one (aI @lm1 @lm2))))))))); repeat' (first|apply a_n|refine zO ?_|refine vZ ?_|refine stZ ?_|fail)) <;> (try clear zz)
  exact ⟨(have zz:=@t0; evZ),(have zz:=@t1; evZ),(have zz:=@t2; evZ),(have zz:=@t3; evZ),(have zz:=@t4; evZ),by rw [aN,lm3],rfl⟩
 clear t0 t1 t2 t3 t4 lm1 lm2 lm3 hl1 M1 hN
 rintro T _ _ ⟨t0,t1,t2,t3,t4,rfl,rfl⟩
 refine bw (fun T H'' nx''=>∃ mu i j:Nat,PartR P a e mu i j M∧T 0=.msl b n 1 0 n∧T 1=.int .i64 a∧T 4=.func g caps∧T 12=.int .i64 (i:Nat)∧T 13=.int .i64 (j:Nat)∧H''=aq H b ((M).map f)∧nx=nx'') ?_ ?_
 ·(have zz:=aI @t0 (aI @t1 (aI @t2 (aI @t3 (aI @t4 (aI @ta @te))))); repeat' (first|apply a_n|refine zO ?_|refine vZ ?_|fail)) <;> (try clear zz)
  exact ⟨_,a + 1,m,by rw [hm]; exact .start (by omega),(have zz:=@t0; evZ),(have zz:=@t1; evZ),(have zz:=@t4; evZ),ev0,ev0,rfl,rfl⟩
 clear t0 t1 t2 t3 t4 ta te hm m
 rintro T _ _ ⟨mu,i,j,hpt,t0,t1,t4,t12,t13,rfl,rfl⟩
 have hl:M.length=n:=by rw [hp.len,hn]
 have hGM:=hp.mem hG
 refine bw (fun T H'' nx''=>∃ i:Nat,PartR P a e mu i j M∧(i ≤ j→¬ P (M.getD i default))∧T 0=.msl b n 1 0 n∧T 1=.int .i64 a∧T 4=.func g caps∧T 12=.int .i64 (i:Nat)∧T 13=.int .i64 (j:Nat)∧H''=aq H b ((M).map f)∧nx=nx'') ?_ ?_
 ·(have zz:=aI @t0 (aI @t1 (aI @t4 (aI @t12 @t13))); repeat' (first|refine zW ?_|apply a_n|refine zO ?_|fail)) <;> (try clear zz)
  refine ba (X:=Nat) (fun i=>[(0,.msl b n 1 0 n),(1,.int .i64 a),(4,.func g caps),(12,.int .i64 (i:Nat)),(13,.int .i64 (j:Nat))]) (fun i H' nxx=>PartR P a e mu i j M∧H'=aq H b (M.map f)∧nx=nxx) (fun i=>j + 1 - i) i ⟨hpt,rfl,rfl⟩ (have zz:=aI @t0 (aI @t1 (aI @t4 (aI @t12 @t13))); agZ) ?_
  clear t0 t1 t4 t12 t13 hpt i
  rintro i H' nxx ⟨hpt,rfl,rfl⟩
  have hlo:=hpt.lo; have hmid:=hpt.mid; have hhi:=hpt.hi
  have ii:((i:Nat):Int) + 1=((i + 1:Nat):Int):=by omega
  by_cases hij:j < i
  ·(have zz:=and_self; repeat' (first|refine zW ?_|refine zM ?_|apply a_n|apply a_x|refine zO ?_|refine vZ ?_|refine gFZ ?_|(refine zGZ ?_ ?_ <;> (intro _hg; try (exfalso; omega)))|refine cFZ ?_|fail)) <;> (try clear zz)
   exact ⟨i,hpt,fun h=>absurd h (by omega),rfl,rfl,rfl,rfl,rfl,rfl,rfl⟩
  have lc:=hc.run (M.getD (i) default) (M.getD (a) default) (hGM _ (aJ (by omega))) (hGM _ (aJ (by omega)))
  have e1:=hc.dat (M.getD (i) default)
  have e2:=hc.dat (M.getD (a) default)
  have hPk:P (M.getD (i) default) ↔ K (M.getD (i) default) (M.getD (a) default) < 0:=by rw [hP,hv]
  generalize hKK:K (M.getD (i) default) (M.getD (a) default)=kk at lc hPk
  by_cases hlt:kk < 0
  ·(have zz:=aI @ii (aI @Int.toNat_natCast (aI hc.cells hc.one)); repeat' (first|refine zW ?_|refine zM ?_|apply a_n|refine zO ?_|refine vZ ?_|refine cZ ?_ (hp:=lc) (hs:=by (first | refine ac ?_ rfl | apply ag); (repeat' (first | exact aa | apply an | apply ai | exact e1 | exact e2 | exact aU dcap)); first | done | fail)|refine gTZ ?_|(refine zGZ ?_ ?_ <;> (intro _hg; try (exfalso; omega)))|fail)) <;> (try clear zz)
   exact ⟨i + 1,by omega,⟨hpt.stepUp (by omega) (by rw [hPk]; exact hlt),rfl,rfl⟩,ag0⟩
  ·(have zz:=aI @ii (aI @Int.toNat_natCast (aI hc.cells hc.one)); repeat' (first|refine zW ?_|refine zM ?_|apply a_n|apply a_x|refine zO ?_|refine vZ ?_|refine cZ ?_ (hp:=lc) (hs:=by (first | refine ac ?_ rfl | apply ag); (repeat' (first | exact aa | apply an | apply ai | exact e1 | exact e2 | exact aU dcap)); first | done | fail)|refine gTZ ?_|(refine zGZ ?_ ?_ <;> (intro _hg; try (exfalso; omega)))|fail)) <;> (try clear zz)
   exact ⟨i,hpt,fun _=>(by rw [hPk]; first | exact hlt | exact fun h=>h hlt),rfl,rfl,rfl,rfl,rfl,rfl,rfl⟩
 clear t0 t1 t4 t12 t13 hpt i
 rintro T _ _ ⟨i,hpt,hni,t0,t1,t4,t12,t13,rfl,rfl⟩
 refine bw (fun T H'' nx''=>∃ j:Nat,PartR P a e mu i j M∧(i ≤ j→¬ P (M.getD i default))∧(i ≤ j→P (M.getD j default))∧T 0=.msl b n 1 0 n∧T 1=.int .i64 a∧T 4=.func g caps∧T 12=.int .i64 (i:Nat)∧T 13=.int .i64 (j:Nat)∧H''=aq H b ((M).map f)∧nx=nx'') ?_ ?_
 ·(have zz:=aI @t0 (aI @t1 (aI @t4 (aI @t12 @t13))); repeat' (first|refine zW ?_|apply a_n|refine zO ?_|fail)) <;> (try clear zz)
  refine ba (X:=Nat) (fun j=>[(0,.msl b n 1 0 n),(1,.int .i64 a),(4,.func g caps),(12,.int .i64 (i:Nat)),(13,.int .i64 (j:Nat))]) (fun j H' nxx=>PartR P a e mu i j M∧(i ≤ j→¬ P (M.getD i default))∧H'=aq H b (M.map f)∧nx=nxx) (fun j=>j) j ⟨hpt,hni,rfl,rfl⟩ (have zz:=aI @t0 (aI @t1 (aI @t4 (aI @t12 @t13))); agZ) ?_
  clear t0 t1 t4 t12 t13 hpt hni j
  rintro j H' nxx ⟨hpt,hni,rfl,rfl⟩
  have hlo:=hpt.lo; have hmid:=hpt.mid; have hhi:=hpt.hi
  by_cases hij:j < i
  ·(have zz:=and_self; repeat' (first|refine zW ?_|refine zM ?_|apply a_n|apply a_x|refine zO ?_|refine vZ ?_|refine gFZ ?_|(refine zGZ ?_ ?_ <;> (intro _hg; try (exfalso; omega)))|refine cFZ ?_|fail)) <;> (try clear zz)
   exact ⟨j,hpt,hni,fun h=>absurd h (by omega),rfl,rfl,rfl,rfl,rfl,rfl,rfl⟩
  obtain ⟨k,rfl⟩:∃ k,j=k + 1:=⟨j - 1,by omega⟩
  have tk:((k + 1:Nat):Int) - 1=(k:Int):=by omega
  have lc:=hc.run (M.getD (k + 1) default) (M.getD (a) default) (hGM _ (aJ (by omega))) (hGM _ (aJ (by omega)))
  have e1:=hc.dat (M.getD (k + 1) default)
  have e2:=hc.dat (M.getD (a) default)
  have hPk:P (M.getD (k + 1) default) ↔ K (M.getD (k + 1) default) (M.getD (a) default) < 0:=by rw [hP,hv]
  generalize hKK:K (M.getD (k + 1) default) (M.getD (a) default)=kk at lc hPk
  by_cases hlt:kk < 0
  ·(have zz:=aI @tk (aI @Int.toNat_natCast (aI hc.cells hc.one)); repeat' (first|refine zW ?_|refine zM ?_|apply a_n|apply a_x|refine zO ?_|refine vZ ?_|refine cZ ?_ (hp:=lc) (hs:=by (first | refine ac ?_ rfl | apply ag); (repeat' (first | exact aa | apply an | apply ai | exact e1 | exact e2 | exact aU dcap)); first | done | fail)|refine gTZ ?_|(refine zGZ ?_ ?_ <;> (intro _hg; try (exfalso; omega)))|fail)) <;> (try clear zz)
   exact ⟨k + 1,hpt,hni,fun _=>(by rw [hPk]; exact hlt),rfl,rfl,rfl,rfl,rfl,rfl,rfl⟩
  ·(have zz:=aI @tk (aI @Int.toNat_natCast (aI hc.cells hc.one)); repeat' (first|refine zW ?_|refine zM ?_|apply a_n|refine zO ?_|refine vZ ?_|refine cZ ?_ (hp:=lc) (hs:=by (first | refine ac ?_ rfl | apply ag); (repeat' (first | exact aa | apply an | apply ai | exact e1 | exact e2 | exact aU dcap)); first | done | fail)|refine gTZ ?_|(refine zGZ ?_ ?_ <;> (intro _hg; try (exfalso; omega)))|fail)) <;> (try clear zz)
   exact ⟨k,by omega,⟨hpt.stepDn (by omega) (by rw [hPk]; first | exact hlt | exact fun h=>h hlt),fun _=>hni (by omega),rfl,rfl⟩,ag0⟩
 clear t0 t1 t4 t12 t13 hpt hni j
 rintro T _ _ ⟨j,hpt,hni,hnj,t0,t1,t4,t12,t13,rfl,rfl⟩
 have hlo:=hpt.lo; have hmid:=hpt.mid; have hhi:=hpt.hi
 by_cases hji:j < i
 ·clear hni hnj
  obtain ⟨z1,z2,z3,z4⟩:=hpt.done hc.ord (by omega) hji hv hP
  obtain ⟨M1,hl1,lm1,lm2⟩:=ca (f:=f) (M:=M) (i:=j) (j:=a) (by omega) (by omega)
  have lm3:=lm2
  simp only [br,List.length_cons,List.length_nil,Nat.zero_add] at lm1 lm2
  (have zz:=aI @t0 (aI @t1 (aI @t4 (aI @t12 (aI @t13 (aI @Int.toNat_natCast (aI hc.cells (aI hc.one (aI @lm1 @lm2)))))))); repeat' (first|refine zW ?_|apply a_n|apply a_r|refine zO ?_|refine vZ ?_|refine stZ ?_|(refine zGZ ?_ ?_ <;> (intro _hg; try (exfalso; omega)))|refine ak rfl ?_|refine r2Z ?_|fail)) <;> (try clear zz)
  exact ⟨rfl,swp M j a,j,true,rfl,z1,z2,by rw [aN,aN,lm3],hp.trans (PermR.swap (by omega) (by omega) (by omega)),z3,z4⟩
 obtain ⟨k,rfl⟩:∃ k,j=k + 1:=⟨j - 1,by omega⟩
 have tk:((k + 1:Nat):Int) - 1=(k:Int):=by omega
 have ii:((i:Nat):Int) + 1=((i + 1:Nat):Int):=by omega
 obtain ⟨M1,hl1,lm1,lm2⟩:=ca (f:=f) (M:=M) (i:=i) (j:=k + 1) (by omega) (by omega)
 have lm3:=lm2
 simp only [br,List.length_cons,List.length_nil,Nat.zero_add] at lm1 lm2
 (have zz:=aI @t0 (aI @t1 (aI @t4 (aI @t12 (aI @t13 (aI @tk (aI @ii (aI @Int.toNat_natCast (aI hc.cells (aI hc.one (aI @lm1 @lm2)))))))))); repeat' (first|refine zW ?_|apply a_n|refine zO ?_|refine vZ ?_|refine stZ ?_|(refine zGZ ?_ ?_ <;> (intro _hg; try (exfalso; omega)))|fail)) <;> (try clear zz)
 obtain ⟨hq1,hq2⟩:=hpt.swap (by omega) (by omega) (hni (by omega)) (hnj (by omega))
 have hp2:PermR a e L (swp M i (k + 1)):=hp.trans (PermR.swap (by omega) (by omega) (by omega))
 have hv2:(swp M i (k + 1)).getD a default=v:=by rw [mS (by omega) (by omega) (by omega) (by omega)]; exact hv
 refine ba (X:=Nat × Nat × List α) (fun x=>[(0,.msl b n 1 0 n),(1,.int .i64 a),(4,.func g caps),(12,.int .i64 (x.1:Nat)),(13,.int .i64 (x.2.1:Nat))]) (fun x H' nxx=>PartR P a e (x.2.1 + 1 - x.1) x.1 x.2.1 x.2.2∧H'=aq H b (x.2.2.map f)∧nx=nxx∧PermR a e L x.2.2∧x.2.2.getD a default=v) (fun x=>x.2.1 + 1 - x.1) (i + 1,k,swp M i (k + 1)) ⟨hq1,by dsimp only; rw [aN,aN,lm3],rfl,hp2,hv2⟩ (have zz:=aI @t0 (aI @t1 (aI @t4 (aI @t12 @t13))); agZ) ?_
 clear t0 t1 t4 t12 t13 lm1 lm2 lm3 hl1 M1 hp2 hv2 hq1 hq2 hpt hni hnj hp hv hGM
 rintro ⟨i,j,M⟩ H' nxx ⟨hpt,rfl,rfl,hp,hv⟩
 dsimp only at *
 have hl:M.length=n:=by rw [hp.len,hn]
 have hGM:=hp.mem hG
 generalize hmu:j + 1 - i=mu at hpt ⊢
 clear hmu
 obtain ⟨T,hT,t0,t1,t4,t12,t13⟩:∃ T,tl [(0,.msl b n 1 0 n),(1,.int .i64 a),(4,.func g caps),(12,.int .i64 (i:Nat)),(13,.int .i64 (j:Nat))]=T∧T 0=.msl b n 1 0 n∧T 1=.int .i64 a∧T 4=.func g caps∧T 12=.int .i64 (i:Nat)∧T 13=.int .i64 (j:Nat):=⟨_,rfl,rfl,rfl,rfl,rfl,rfl⟩
 rw [hT]
 clear hT
 refine f8 ?_
 refine bw (fun T H'' nx''=>∃ i:Nat,PartR P a e mu i j M∧(i ≤ j→¬ P (M.getD i default))∧T 0=.msl b n 1 0 n∧T 1=.int .i64 a∧T 4=.func g caps∧T 12=.int .i64 (i:Nat)∧T 13=.int .i64 (j:Nat)∧H''=aq H b ((M).map f)∧nx=nx'') ?_ ?_
 ·(have zz:=aI @t0 (aI @t1 (aI @t4 (aI @t12 @t13))); repeat' (first|refine zW ?_|apply a_n|refine zO ?_|fail)) <;> (try clear zz)
  refine ba (X:=Nat) (fun i=>[(0,.msl b n 1 0 n),(1,.int .i64 a),(4,.func g caps),(12,.int .i64 (i:Nat)),(13,.int .i64 (j:Nat))]) (fun i H' nxx=>PartR P a e mu i j M∧H'=aq H b (M.map f)∧nx=nxx) (fun i=>j + 1 - i) i ⟨hpt,rfl,rfl⟩ (have zz:=aI @t0 (aI @t1 (aI @t4 (aI @t12 @t13))); agZ) ?_
  clear t0 t1 t4 t12 t13 hpt i
  rintro i H' nxx ⟨hpt,rfl,rfl⟩
  have hlo:=hpt.lo; have hmid:=hpt.mid; have hhi:=hpt.hi
  have ii:((i:Nat):Int) + 1=((i + 1:Nat):Int):=by omega
  by_cases hij:j < i
  ·(have zz:=and_self; repeat' (first|refine zW ?_|refine zM ?_|apply a_n|apply a_x|refine zO ?_|refine vZ ?_|refine gFZ ?_|(refine zGZ ?_ ?_ <;> (intro _hg; try (exfalso; omega)))|refine cFZ ?_|fail)) <;> (try clear zz)
   exact ⟨i,hpt,fun h=>absurd h (by omega),rfl,rfl,rfl,rfl,rfl,rfl,rfl⟩
  have lc:=hc.run (M.getD (i) default) (M.getD (a) default) (hGM _ (aJ (by omega))) (hGM _ (aJ (by omega)))
  have e1:=hc.dat (M.getD (i) default)
  have e2:=hc.dat (M.getD (a) default)
  have hPk:P (M.getD (i) default) ↔ K (M.getD (i) default) (M.getD (a) default) < 0:=by rw [hP,hv]
  generalize hKK:K (M.getD (i) default) (M.getD (a) default)=kk at lc hPk
  by_cases hlt:kk < 0
  ·(have zz:=aI @ii (aI @Int.toNat_natCast (aI hc.cells hc.one)); repeat' (first|refine zW ?_|refine zM ?_|apply a_n|refine zO ?_|refine vZ ?_|refine cZ ?_ (hp:=lc) (hs:=by (first | refine ac ?_ rfl | apply ag); (repeat' (first | exact aa | apply an | apply ai | exact e1 | exact e2 | exact aU dcap)); first | done | fail)|refine gTZ ?_|(refine zGZ ?_ ?_ <;> (intro _hg; try (exfalso; omega)))|fail)) <;> (try clear zz)
   exact ⟨i + 1,by omega,⟨hpt.stepUp (by omega) (by rw [hPk]; exact hlt),rfl,rfl⟩,ag0⟩
  ·(have zz:=aI @ii (aI @Int.toNat_natCast (aI hc.cells hc.one)); repeat' (first|refine zW ?_|refine zM ?_|apply a_n|apply a_x|refine zO ?_|refine vZ ?_|refine cZ ?_ (hp:=lc) (hs:=by (first | refine ac ?_ rfl | apply ag); (repeat' (first | exact aa | apply an | apply ai | exact e1 | exact e2 | exact aU dcap)); first | done | fail)|refine gTZ ?_|(refine zGZ ?_ ?_ <;> (intro _hg; try (exfalso; omega)))|fail)) <;> (try clear zz)
   exact ⟨i,hpt,fun _=>(by rw [hPk]; first | exact hlt | exact fun h=>h hlt),rfl,rfl,rfl,rfl,rfl,rfl,rfl⟩
 clear t0 t1 t4 t12 t13 hpt i
 rintro T _ _ ⟨i,hpt,hni,t0,t1,t4,t12,t13,rfl,rfl⟩
 refine bw (fun T H'' nx''=>∃ j:Nat,PartR P a e mu i j M∧(i ≤ j→¬ P (M.getD i default))∧(i ≤ j→P (M.getD j default))∧T 0=.msl b n 1 0 n∧T 1=.int .i64 a∧T 4=.func g caps∧T 12=.int .i64 (i:Nat)∧T 13=.int .i64 (j:Nat)∧H''=aq H b ((M).map f)∧nx=nx'') ?_ ?_
 ·(have zz:=aI @t0 (aI @t1 (aI @t4 (aI @t12 @t13))); repeat' (first|refine zW ?_|apply a_n|refine zO ?_|fail)) <;> (try clear zz)
  refine ba (X:=Nat) (fun j=>[(0,.msl b n 1 0 n),(1,.int .i64 a),(4,.func g caps),(12,.int .i64 (i:Nat)),(13,.int .i64 (j:Nat))]) (fun j H' nxx=>PartR P a e mu i j M∧(i ≤ j→¬ P (M.getD i default))∧H'=aq H b (M.map f)∧nx=nxx) (fun j=>j) j ⟨hpt,hni,rfl,rfl⟩ (have zz:=aI @t0 (aI @t1 (aI @t4 (aI @t12 @t13))); agZ) ?_
  clear t0 t1 t4 t12 t13 hpt hni j
  rintro j H' nxx ⟨hpt,hni,rfl,rfl⟩
  have hlo:=hpt.lo; have hmid:=hpt.mid; have hhi:=hpt.hi
  by_cases hij:j < i
  ·(have zz:=and_self; repeat' (first|refine zW ?_|refine zM ?_|apply a_n|apply a_x|refine zO ?_|refine vZ ?_|refine gFZ ?_|(refine zGZ ?_ ?_ <;> (intro _hg; try (exfalso; omega)))|refine cFZ ?_|fail)) <;> (try clear zz)
   exact ⟨j,hpt,hni,fun h=>absurd h (by omega),rfl,rfl,rfl,rfl,rfl,rfl,rfl⟩
  obtain ⟨k,rfl⟩:∃ k,j=k + 1:=⟨j - 1,by omega⟩
  have tk:((k + 1:Nat):Int) - 1=(k:Int):=by omega
  have lc:=hc.run (M.getD (k + 1) default) (M.getD (a) default) (hGM _ (aJ (by omega))) (hGM _ (aJ (by omega)))
  have e1:=hc.dat (M.getD (k + 1) default)
  have e2:=hc.dat (M.getD (a) default)
  have hPk:P (M.getD (k + 1) default) ↔ K (M.getD (k + 1) default) (M.getD (a) default) < 0:=by rw [hP,hv]
  generalize hKK:K (M.getD (k + 1) default) (M.getD (a) default)=kk at lc hPk
  by_cases hlt:kk < 0
  ·(have zz:=aI @tk (aI @Int.toNat_natCast (aI hc.cells hc.one)); repeat' (first|refine zW ?_|refine zM ?_|apply a_n|apply a_x|refine zO ?_|refine vZ ?_|refine cZ ?_ (hp:=lc) (hs:=by (first | refine ac ?_ rfl | apply ag); (repeat' (first | exact aa | apply an | apply ai | exact e1 | exact e2 | exact aU dcap)); first | done | fail)|refine gTZ ?_|(refine zGZ ?_ ?_ <;> (intro _hg; try (exfalso; omega)))|fail)) <;> (try clear zz)
   exact ⟨k + 1,hpt,hni,fun _=>(by rw [hPk]; exact hlt),rfl,rfl,rfl,rfl,rfl,rfl,rfl⟩
  ·(have zz:=aI @tk (aI @Int.toNat_natCast (aI hc.cells hc.one)); repeat' (first|refine zW ?_|refine zM ?_|apply a_n|refine zO ?_|refine vZ ?_|refine cZ ?_ (hp:=lc) (hs:=by (first | refine ac ?_ rfl | apply ag); (repeat' (first | exact aa | apply an | apply ai | exact e1 | exact e2 | exact aU dcap)); first | done | fail)|refine gTZ ?_|(refine zGZ ?_ ?_ <;> (intro _hg; try (exfalso; omega)))|fail)) <;> (try clear zz)
   exact ⟨k,by omega,⟨hpt.stepDn (by omega) (by rw [hPk]; first | exact hlt | exact fun h=>h hlt),fun _=>hni (by omega),rfl,rfl⟩,ag0⟩
 clear t0 t1 t4 t12 t13 hpt hni j
 rintro T _ _ ⟨j,hpt,hni,hnj,t0,t1,t4,t12,t13,rfl,rfl⟩
 have hlo:=hpt.lo; have hmid:=hpt.mid; have hhi:=hpt.hi
 by_cases hji:j < i
 ·clear hni hnj
  obtain ⟨z1,z2,z3,z4⟩:=hpt.done hc.ord (by omega) hji hv hP
  obtain ⟨M1,hl1,lm1,lm2⟩:=ca (f:=f) (M:=M) (i:=j) (j:=a) (by omega) (by omega)
  have lm3:=lm2
  simp only [br,List.length_cons,List.length_nil,Nat.zero_add] at lm1 lm2
  (have zz:=aI @t0 (aI @t1 (aI @t4 (aI @t12 (aI @t13 (aI @Int.toNat_natCast (aI hc.cells (aI hc.one (aI @lm1 @lm2)))))))); repeat' (first|refine zW ?_|apply a_n|apply a_x|refine zO ?_|refine vZ ?_|refine stZ ?_|(refine zGZ ?_ ?_ <;> (intro _hg; try (exfalso; omega)))|refine ak rfl ?_|refine r2Z ?_|fail)) <;> (try clear zz)
  exact ⟨rfl,swp M j a,j,false,rfl,z1,z2,by rw [aN,aN,lm3],hp.trans (PermR.swap (by omega) (by omega) (by omega)),z3,z4⟩
 obtain ⟨k,rfl⟩:∃ k,j=k + 1:=⟨j - 1,by omega⟩
 have tk:((k + 1:Nat):Int) - 1=(k:Int):=by omega
 have ii:((i:Nat):Int) + 1=((i + 1:Nat):Int):=by omega
 obtain ⟨M1,hl1,lm1,lm2⟩:=ca (f:=f) (M:=M) (i:=i) (j:=k + 1) (by omega) (by omega)
 have lm3:=lm2
 simp only [br,List.length_cons,List.length_nil,Nat.zero_add] at lm1 lm2
 (have zz:=aI @t0 (aI @t1 (aI @t4 (aI @t12 (aI @t13 (aI @tk (aI @ii (aI @Int.toNat_natCast (aI hc.cells (aI hc.one (aI @lm1 @lm2)))))))))); repeat' (first|refine zW ?_|apply a_n|refine zO ?_|refine vZ ?_|refine stZ ?_|(refine zGZ ?_ ?_ <;> (intro _hg; try (exfalso; omega)))|fail)) <;> (try clear zz)
 obtain ⟨hq1,hq2⟩:=hpt.swap (by omega) (by omega) (hni (by omega)) (hnj (by omega))
 exact ⟨(i + 1,k,swp M i (k + 1)),hq2,⟨hq1,by dsimp only; rw [aN,aN,lm3],rfl,hp.trans (PermR.swap (by omega) (by omega) (by omega)),by dsimp only; rw [mS (by omega) (by omega) (by omega) (by omega)]; exact hv⟩,(have zz:=aI @t0 (aI @t1 (aI @t4 (aI @t12 @t13))); agZ)⟩
end
end Go.Proofs.Ytfcenbapjhecfaa
namespace Go.Proofs.Ytfcenbapjhecfaa
open Go Go.Abs
def iY (x:Nat):Nat:=if x=0 then 0 else Nat.log2 x + 1
def lR:ByteArray:=ByteArray.mk (Array.mk [0,1,2,2,3,3,3,3,4,4,4,4,4,4,4,4,5,5,5,5,5,5,5,5,5,5,5,5,5,5,5,5,6,6,6,6,6,6,6,6,6,6,6,6,6,6,6,6,6,6,6,6,6,6,6,6,6,6,6,6,6,6,6,6,7,7,7,7,7,7,7,7,7,7,7,7,7,7,7,7,7,7,7,7,7,7,7,7,7,7,7,7,7,7,7,7,7,7,7,7,7,7,7,7,7,7,7,7,7,7,7,7,7,7,7,7,7,7,7,7,7,7,7,7,7,7,7,7,8,8,8,8,8,8,8,8,8,8,8,8,8,8,8,8,8,8,8,8,8,8,8,8,8,8,8,8,8,8,8,8,8,8,8,8,8,8,8,8,8,8,8,8,8,8,8,8,8,8,8,8,8,8,8,8,8,8,8,8,8,8,8,8,8,8,8,8,8,8,8,8,8,8,8,8,8,8,8,8,8,8,8,8,8,8,8,8,8,8,8,8,8,8,8,8,8,8,8,8,8,8,8,8,8,8,8,8,8,8,8,8,8,8,8,8,8,8,8,8,8,8,8,8,8,8,8,8])
theorem xY (x:Nat):x < 2 ^ iY x:=by
 unfold iY
 split
 ·omega
 ·exact Nat.lt_log2_self
theorem tR {x:Nat} (h:0 < x):2 ^ iY x ≤ 2 * x:=by
 unfold iY
 rw [if_neg (by omega),Nat.pow_succ]
 have:=Nat.log2_self_le (n:=x) (by omega)
 omega
theorem ro {x:Nat} (hx:x < 256):iM (.str (ByteArray.mk (Array.mk [0,1,2,2,3,3,3,3,4,4,4,4,4,4,4,4,5,5,5,5,5,5,5,5,5,5,5,5,5,5,5,5,6,6,6,6,6,6,6,6,6,6,6,6,6,6,6,6,6,6,6,6,6,6,6,6,6,6,6,6,6,6,6,6,7,7,7,7,7,7,7,7,7,7,7,7,7,7,7,7,7,7,7,7,7,7,7,7,7,7,7,7,7,7,7,7,7,7,7,7,7,7,7,7,7,7,7,7,7,7,7,7,7,7,7,7,7,7,7,7,7,7,7,7,7,7,7,7,8,8,8,8,8,8,8,8,8,8,8,8,8,8,8,8,8,8,8,8,8,8,8,8,8,8,8,8,8,8,8,8,8,8,8,8,8,8,8,8,8,8,8,8,8,8,8,8,8,8,8,8,8,8,8,8,8,8,8,8,8,8,8,8,8,8,8,8,8,8,8,8,8,8,8,8,8,8,8,8,8,8,8,8,8,8,8,8,8,8,8,8,8,8,8,8,8,8,8,8,8,8,8,8,8,8,8,8,8,8,8,8,8,8,8,8,8,8,8,8,8,8,8,8,8,8,8,8]))) (.int .u8 (x:Nat))=some (.int .u8 (iY x:Nat)):=by
 have h1:lR.size=256:=by decide +kernel
 have h2:∀ i:Fin 256,(lR[i.val]?.getD 0).toNat=iY i.val:=by decide +kernel
 rw [SV2.2.2.2.2.2.2.2.2]
 have h3:=h2 ⟨x,hx⟩
 change (if 0 ≤ (x:Int)∧(x:Int) < lR.size then some (AV.int .u8 (lR[(x:Int).toNat]?.getD 0).toNat) else none)=_
 rw [if_pos ⟨by omega,by rw [h1]; omega⟩,Int.toNat_natCast]
 simp only at h3
 rw [h3]
theorem lL {x s k:Nat} (hk:k=iY (x / 2 ^ s)) (h:0 < x / 2 ^ s):x < 2 ^ (k + s)∧2 ^ (k + s) ≤ 2 * x:=by
 subst hk
 have h1:=xY (x / 2 ^ s)
 have h2:=tR h
 have hp:0 < 2 ^ s:=Nat.pow_pos (by omega)
 rw [Nat.pow_add]
 constructor
 ·have:=(Nat.div_lt_iff_lt_mul hp).1 h1
  exact this
 ·calc 2 ^ iY (x / 2 ^ s) * 2 ^ s ≤ 2 * (x / 2 ^ s) * 2 ^ s:=Nat.mul_le_mul_right _ h2
    _=2 * (x / 2 ^ s * 2 ^ s):=by rw [Nat.mul_assoc]
    _ ≤ 2 * x:=Nat.mul_le_mul_left _ (Nat.div_mul_le_self x (2 ^ s))
theorem fY {x:Nat} (hx:x < 256):iY x ≤ 8:=by
 rcases Nat.eq_zero_or_pos x with e | e
 ·subst e; decide
 ·have h:=tR e
  rcases Nat.lt_or_ge 8 (iY x) with h1 | h1
  ·have:=Nat.pow_le_pow_right (n:=2) (by omega) h1
   omega
  ·exact h1
theorem fh {x:Int} (h:0 ≤ x) (h2:x < 18446744073709551616):IntKind.wrap .u64 x=x:=by
 simp only [IntKind.bits,IntKind.wrap,IntKind.signed]; simp; omega
theorem nj {x:Int} (h:0 ≤ x) (h2:x < 256):IntKind.wrap .u8 x=x:=by
 simp only [IntKind.bits,IntKind.wrap,IntKind.signed]; simp; omega
def xr (a b:Int):Int:=IntKind.wrap .u64 (BitVec.ofInt 64 a ^^^ BitVec.ofInt 64 b).toNat
def zQ (a:Int):Int:=IntKind.wrap .u64 (a * 2 ^ 13)
def Ap (a:Int):Int:=IntKind.wrap .u64 (a * 2 ^ 17)
def sr7 (a:Int):Int:=a.fdiv (2 ^ 7)
theorem SX:(∀ a b:Int,aZ .xor false false (.int .u64 a) (.int .u64 b)=some (.int .u64 (xr a b)))∧(∀ a:Int,aZ .shl false false (.int .u64 a) (.int .u64 13)=some (.int .u64 (zQ a))) ∧
    (∀ a:Int,aZ .shl false false (.int .u64 a) (.int .u64 17)=some (.int .u64 (Ap a)))∧(∀ a:Int,aZ .shr false false (.int .u64 a) (.int .u64 7)=some (.int .u64 (sr7 a))) :=
 ⟨fun _ _=>rfl,fun _=>rfl,fun _=>rfl,fun _=>rfl⟩
attribute [irreducible] xr zQ Ap sr7
attribute [local irreducible] aD aj aX aP aH aK az aL aR bd Go.Abs.Fn aO Go.Abs.Pure av aF Yl
theorem y8 {H:Hp} {c nx:Nat} {s:Int} (hcc:H c=some [.int .u64 s]):Abs.Fn Try.prog 113 [.ptr c 1 0] H nx fun r H' nx'=>nx'=nx∧∃ s':Int,r=.int .u64 s'∧H'=aq H c [.int .u64 s']:=by
 refine Abs.Fn.of_c2 follows AY (Nat.le_of_ble_eq_true rfl) ?_
 simp only [zR,cO,cG,cN,cM,cD,cF,cB,aB,aS]
 have ls:∀ x y:AV,br [x] 0 [y]=[y]:=fun _ _=>rfl
 simp only [br,List.length_cons,List.length_nil,Nat.zero_add] at ls
 (have zz:=aI @hcc (aI @SV3 (aI @SX @ls)); repeat' (first|refine zW ?_|apply a_n|refine zO ?_|refine vZ ?_|refine stZ ?_|refine ak rfl ?_|refine r1Z ?_|fail)) <;> (try clear zz)
 exact ⟨rfl,_,rfl,by rw [aN,aN]; rfl⟩
set_option maxRecDepth 100000 in
theorem xW {H:Hp} {nx x:Nat} (hx:0 < x) (h2:x < 4294967296):Abs.Fn Try.prog 107 [.int .u64 x] H nx fun r H' nx'=>nx'=nx∧H'=H∧∃ k:Nat,r=.int .i64 k∧x < 2 ^ k∧2 ^ k ≤ 2 * x:=by
 refine Abs.Fn.of_c2 follows yr (Nat.le_of_ble_eq_true rfl) ?_
 delta zb cO cG cN cM cD cF cB aB aS
 generalize hT:AV.str (ByteArray.mk (Array.mk [0,1,2,2,3,3,3,3,4,4,4,4,4,4,4,4,5,5,5,5,5,5,5,5,5,5,5,5,5,5,5,5,6,6,6,6,6,6,6,6,6,6,6,6,6,6,6,6,6,6,6,6,6,6,6,6,6,6,6,6,6,6,6,6,7,7,7,7,7,7,7,7,7,7,7,7,7,7,7,7,7,7,7,7,7,7,7,7,7,7,7,7,7,7,7,7,7,7,7,7,7,7,7,7,7,7,7,7,7,7,7,7,7,7,7,7,7,7,7,7,7,7,7,7,7,7,7,7,8,8,8,8,8,8,8,8,8,8,8,8,8,8,8,8,8,8,8,8,8,8,8,8,8,8,8,8,8,8,8,8,8,8,8,8,8,8,8,8,8,8,8,8,8,8,8,8,8,8,8,8,8,8,8,8,8,8,8,8,8,8,8,8,8,8,8,8,8,8,8,8,8,8,8,8,8,8,8,8,8,8,8,8,8,8,8,8,8,8,8,8,8,8,8,8,8,8,8,8,8,8,8,8,8,8,8,8,8,8,8,8,8,8,8,8,8,8,8,8,8,8,8,8,8,8,8,8]))=tb
 have htab:∀ x:Nat,x < 256→iM tb (.int .u8 (x:Nat))=some (.int .u8 (iY x:Nat)):=fun x hx=>by rw [← hT]; exact ro hx
 clear hT
 have s16:∀ z:Nat,aZ .shr false false (.int .u64 (z:Nat)) (.int .u64 16)=some (.int .u64 ((z / 2 ^ 16:Nat):Int)):=fun z=>pj (b:=16) (k:=.u64) (k':=.u64) (by decide)
 have s8:∀ z:Nat,aZ .shr false false (.int .u64 (z:Nat)) (.int .u64 8)=some (.int .u64 ((z / 2 ^ 8:Nat):Int)):=fun z=>pj (b:=8) (k:=.u64) (k':=.u64) (by decide)
 by_cases h16:65536 ≤ x
 ·obtain ⟨y,hy⟩:∃ y,x / 2 ^ 16=y:=⟨_,rfl⟩
  have hy1:0 < y:=by omega
  have hy2:y < 65536:=by omega
  by_cases h8:256 ≤ y
  ·obtain ⟨z,hz⟩:∃ z,y / 2 ^ 8=z:=⟨_,rfl⟩
   have hz1:0 < z:=by omega
   have hz2:z < 256:=by omega
   have hl:=fY hz2
   have w8:IntKind.wrap .u8 (z:Int)=z:=nj (by omega) (by omega)
   have ht:=htab z hz2
   (have zz:=aI @s16 (aI @s8 (aI @hy (aI @hz (aI @w8 @ht)))); repeat' (first|refine zW ?_|apply a_n|refine zO ?_|refine vZ ?_|(refine zGZ ?_ ?_ <;> (intro _hg; try (exfalso; omega)))|refine ak rfl ?_|refine r1Z ?_|fail)) <;> (try clear zz)
   have e:x / 2 ^ 24=z:=by rw [← hz,← hy,Nat.div_div_eq_div_mul]
   exact ⟨rfl,rfl,iY z + 24,by congr 1; omega,lL (by rw [e]) (by omega)⟩
  ·have hl:=fY (x:=y) (by omega)
   have w8:IntKind.wrap .u8 (y:Int)=y:=nj (by omega) (by omega)
   have ht:=htab y (by omega)
   (have zz:=aI @s16 (aI @s8 (aI @hy (aI @w8 @ht))); repeat' (first|refine zW ?_|apply a_n|refine zO ?_|refine vZ ?_|(refine zGZ ?_ ?_ <;> (intro _hg; try (exfalso; omega)))|refine ak rfl ?_|refine r1Z ?_|fail)) <;> (try clear zz)
   exact ⟨rfl,rfl,iY y + 16,by congr 1; omega,lL (by rw [hy]) (by omega)⟩
 ·by_cases h8:256 ≤ x
  ·obtain ⟨z,hz⟩:∃ z,x / 2 ^ 8=z:=⟨_,rfl⟩
   have hz1:0 < z:=by omega
   have hz2:z < 256:=by omega
   have hl:=fY hz2
   have w8:IntKind.wrap .u8 (z:Int)=z:=nj (by omega) (by omega)
   have ht:=htab z hz2
   (have zz:=aI @s16 (aI @s8 (aI @hz (aI @w8 @ht))); repeat' (first|refine zW ?_|apply a_n|refine zO ?_|refine vZ ?_|(refine zGZ ?_ ?_ <;> (intro _hg; try (exfalso; omega)))|refine ak rfl ?_|refine r1Z ?_|fail)) <;> (try clear zz)
   exact ⟨rfl,rfl,iY z + 8,by congr 1; omega,lL (by rw [hz]) (by omega)⟩
  ·have hl:=fY (x:=x) (by omega)
   have w8:IntKind.wrap .u8 (x:Int)=x:=nj (by omega) (by omega)
   have ht:=htab x (by omega)
   (have zz:=aI @w8 @ht; repeat' (first|refine zW ?_|apply a_n|refine zO ?_|refine vZ ?_|(refine zGZ ?_ ?_ <;> (intro _hg; try (exfalso; omega)))|refine ak rfl ?_|refine r1Z ?_|fail)) <;> (try clear zz)
   exact ⟨rfl,rfl,iY x + 0,by congr 1; omega,lL (s:=0) (by simp) (by simpa using hx)⟩
theorem yz {H:Hp} {nx x:Nat} (hx:0 < x) (h2:x < 4294967296):Abs.Fn Try.prog 90 [.int .u64 x] H nx fun r H' nx'=>nx'=nx∧H'=H∧∃ k:Nat,r=.int .i64 k∧x < 2 ^ k∧2 ^ k ≤ 2 * x:=by
 refine Abs.Fn.of_c2 follows AB (Nat.le_of_ble_eq_true rfl) ?_
 simp only [b90,cO,cG,cN,cM,cD,cF,cB,aB,aS]
 (have zz:=and_self; repeat' (first|refine zW ?_|apply a_n|refine zO ?_|refine vZ ?_|refine cFZ ?_|fail)) <;> (try clear zz)
 refine aV ev0 ev0 (xW hx h2) ?_
 rintro _ _ _ ⟨rfl,rfl,k,rfl,h3,h4⟩
 (have zz:=and_self; repeat' (first|apply a_n|refine zO ?_|refine vZ ?_|refine ak rfl ?_|refine r1Z ?_|fail)) <;> (try clear zz)
 exact ⟨rfl,rfl,k,rfl,h3,h4⟩
theorem yX {H:Hp} {nx x:Nat} (hx:0 < x) (h2:x ≤ 1000000000):Abs.Fn Try.prog 112 [.int .i64 x] H nx fun r H' nx'=>nx'=nx∧H'=H∧∃ k:Nat,r=.int .u64 ((2 ^ k:Nat):Int)∧x < 2 ^ k∧2 ^ k ≤ 2 * x:=by
 have w:IntKind.wrap .u64 (x:Int)=x:=fh (by omega) (by omega)
 refine Abs.Fn.of_c2 follows Ah (Nat.le_of_ble_eq_true rfl) ?_
 simp only [Ac,cO,cG,cN,cM,cD,cF,cB,aB,aS]
 (have zz:=@w; repeat' (first|refine zW ?_|apply a_n|refine zO ?_|refine vZ ?_|fail)) <;> (try clear zz)
 refine aV ev0 (have zz:=@w; evZ) (yz hx (by omega)) ?_
 rintro _ _ _ ⟨rfl,rfl,k,rfl,h3,h4⟩
 have hk:k ≤ 62:=by
  rcases Nat.lt_or_ge 62 k with h | h
  ·have:=Nat.pow_le_pow_right (n:=2) (by omega) h
   omega
  ·exact h
 have sh:aZ .shl false false (.int .u64 1) (.int .i64 (k:Int))=some (.int .u64 ((2 ^ k:Nat):Int)):=by
  have h:=xG (k:=.u64) (k':=.i64) (a:=1) (b:=k) (tb:=false) (tf:=false) (by show k ≤ 64; omega) (by show 1 * 2 ^ k < 2 ^ 63; omega)
  rw [Nat.one_mul] at h
  exact h
 (have zz:=@sh; repeat' (first|apply a_n|refine zO ?_|refine vZ ?_|refine ak rfl ?_|refine r1Z ?_|fail)) <;> (try clear zz)
 exact ⟨rfl,rfl,k,rfl,h3,h4⟩
end Go.Proofs.Ytfcenbapjhecfaa
namespace Go.Proofs.Ytfcenbapjhecfaa
open Go Go.Abs
open Nat (reduceEqDiff reduceAdd reduceLeDiff)
theorem w7 {a:Int} {m:Nat} (hm:m < 18446744073709551616):∃ r:Nat,aZ .and false false (.int .u64 a) (.int .u64 (m:Nat))=some (.int .u64 (r:Nat))∧r ≤ m:=by
 refine ⟨(BitVec.ofInt 64 a).toNat &&& m,?_,Nat.and_le_right⟩
 show (if (IntKind.u64=IntKind.u64) then cQ .and .u64 a m else none)=_
 rw [if_pos rfl]
 have h:(BitVec.ofInt 64 a &&& BitVec.ofInt 64 (m:Int)).toNat=(BitVec.ofInt 64 a).toNat &&& m:=by
  rw [BitVec.toNat_and]
  congr 1
  simp [BitVec.toNat_ofInt]
  omega
 have h2:(BitVec.ofInt 64 a).toNat &&& m ≤ m:=Nat.and_le_right
 show some (AV.int .u64 (IntKind.wrap .u64 ((BitVec.ofInt 64 a &&& BitVec.ofInt 64 (m:Int)).toNat:Int)))=_
 rw [h,fh (by omega) (by omega)]
section
variable {α:Type} [Inhabited α] {f:α→AV} {K:α→α→Int} {G:α→Prop} {g:Nat} {caps:List AV}
attribute [local irreducible] aD aj aX aP aH aK az aL aR bd Go.Abs.Fn aO Go.Abs.Pure av aF Yl
theorem xI (hc:Cmp Try.prog f K G g caps) {L:List α} {H:Hp} {b nx n a e:Nat} (hH:H b=some (L.map f)) (hbx:b < nx) (hn:L.length=n) (hae:a + 8 ≤ e) (hen:e ≤ n) (hn2:n ≤ 1000000000) :
    Abs.Fn Try.prog 100 [.msl b n 1 0 n,.int .i64 a,.int .i64 e,.func g caps] H nx fun r H' nx'=>nx'=nx + 1∧∃ L',H' b=some (L'.map f)∧(∀ i,i < nx→i ≠ b→H' i=H i)∧PermR a e L L':=by
 obtain ⟨l,rfl⟩:∃ l,e=a + l:=⟨e - a,by omega⟩
 have te:((a + l:Nat):Int) - (a:Int)=(l:Int):=by omega
 obtain ⟨w,hw⟩:∃ w,a + l / 4 * 2 - 1=w:=⟨_,rfl⟩
 have tq:aZ .quo false false (.int .i64 (l:Int)) (.int .i64 4)=some (.int .i64 ((l / 4:Nat):Int)):=by
  rw [lN (by omega) (by omega) (by omega)]
  congr 2
 have w1:(a:Int) + ((l / 4:Nat):Int) * 2 - 1=(w:Int):=by omega
 have w2:(a:Int) + ((l / 4:Nat):Int) * 2 + 1=((w + 2:Nat):Int):=by omega
 have hbn:b ≠ nx:=by omega
 have wl:IntKind.wrap .u64 (l:Int)=l:=fh (by omega) (by omega)
 refine Abs.Fn.of_c2 follows Ae (Nat.le_of_ble_eq_true rfl) ?_
 simp only [Ag,cO,cG,cN,cM,cD,cF,cB,aB,aS]
 have ls:∀ x y:AV,br [x] 0 [y]=[y]:=fun _ _=>rfl
 simp only [br,List.length_cons,List.length_nil,Nat.zero_add] at ls
 (have zz:=aI @te (aI @wl @ls); repeat' (first|refine zW ?_|apply a_n|refine zO ?_|refine vZ ?_|refine alZ ?_|refine stZ ?_|(refine zGZ ?_ ?_ <;> (intro _hg; try (exfalso; omega)))|fail)) <;> (try clear zz)
 refine aV ev0 ev0 (yX (x:=l) (by omega) (by omega)) ?_
 rintro _ _ _ ⟨rfl,rfl,k,rfl,hk1,hk2⟩
 obtain ⟨p,hp⟩:∃ p,2 ^ k=p + 1:=⟨2 ^ k - 1,by omega⟩
 rw [hp] at hk1 hk2 ⊢
 (have zz:=aI @te (aI @tq @w1); repeat' (first|refine zW ?_|apply a_n|refine zO ?_|refine vZ ?_|fail)) <;> (try clear zz)
 have wm:IntKind.wrap .u64 (((p + 1:Nat):Int) - 1)=(p:Int):=by rw [fh (by omega) (by omega)]; omega
 refine ba (X:=Nat × List α) (fun x=>[(0,.msl b n 1 0 n),(1,.int .i64 a),(8,.int .i64 l),(9,.ptr nx 1 0),(10,.int .u64 ((p + 1:Nat):Int)),(11,.int .i64 (x.1:Nat))]) (fun x H' nxx=>w ≤ x.1∧x.1 ≤ w + 3∧H' b=some (x.2.map f)∧(∃ s,H' nx=some [.int .u64 s])∧(∀ i,i < nx→i ≠ b→H' i=H i)∧nxx=nx + 1∧PermR a (a + l) L x.2) (fun x=>w + 3 - x.1) (w,L) ⟨Nat.le_refl _,by dsimp only; omega,by dsimp only; rw [af hbn]; first | exact hH | (rw [af hbn]; exact hH),⟨_,ah⟩,fun i h1 h2=>by rw [af (by omega)]; first | rfl | exact af (by omega),rfl,.refl⟩ (by simp (disch:=omega) only [agr,ZG,reduceEqDiff,↓reduceIte,List.length_cons,List.length_nil,Nat.zero_add,true_and]) ?_
 rintro ⟨i,M⟩ H1 nxx ⟨h1,h2,hb1,⟨s,hs⟩,hfr,rfl,hp1⟩
 dsimp only at *
 have hl:M.length=n:=by rw [hp1.len,hn]
 by_cases hi:i=w + 3
 ·subst hi
  (have zz:=aI @tq @w2; repeat' (first|refine zW ?_|apply a_n|apply a_x|refine zO ?_|refine vZ ?_|(refine zGZ ?_ ?_ <;> (intro _hg; try (exfalso; omega)))|refine ak rfl ?_|fail)) <;> (try clear zz)
  exact ⟨rfl,M,hb1,hfr,hp1⟩
 have ti:((i:Nat):Int) + 1=((i + 1:Nat):Int):=by omega
 (have zz:=aI @tq @w2; repeat' (first|refine zW ?_|apply a_n|refine zO ?_|refine vZ ?_|(refine zGZ ?_ ?_ <;> (intro _hg; try (exfalso; omega)))|fail)) <;> (try clear zz)
 refine aV ev0 ev0 (y8 hs) ?_
 rintro _ _ _ ⟨rfl,s1,rfl,rfl⟩
 obtain ⟨r,hr1,hr2⟩:=w7 (a:=s1) (m:=p) (by omega)
 obtain ⟨H2,hH2⟩:∃ H2,aq H1 nx [.int .u64 s1]=H2:=⟨_,rfl⟩
 have hb2:H2 b=some (M.map f):=by rw [← hH2,af hbn]; exact hb1
 have hs2:H2 nx=some [.int .u64 s1]:=by rw [← hH2]; exact ah
 have hfr2:∀ i,i < nx→i ≠ b→H2 i=H i:=fun i k1 k2=>by rw [← hH2,af (by omega)]; exact hfr i k1 k2
 rw [hH2]
 clear hH2 hb1 hs hfr
 obtain ⟨z,hz,hzl⟩:∃ z:Nat,(if l ≤ r then (r:Int) - l else (r:Int))=(z:Int)∧z < l:=by
  split
  ·exact ⟨r - l,by omega,by omega⟩
  ·exact ⟨r,rfl,by omega⟩
 obtain ⟨M1,hl1,lm1,lm2⟩:=ca (f:=f) (M:=M) (i:=i) (j:=a + z) (by omega) (by omega)
 have lm3:=lm2
 simp only [br,List.length_cons,List.length_nil,Nat.zero_add] at lm1 lm2
 by_cases hrl:l ≤ r
 ·rw [if_pos hrl] at hz
  (have zz:=aI @wm (aI @hr1 (aI @hz (aI @hb2 (aI @ti (aI @dU (aI hc.cells (aI hc.one (aI @lm1 @lm2)))))))); repeat' (first|refine zW ?_|apply a_n|refine zO ?_|refine vZ ?_|refine stZ ?_|(refine zGZ ?_ ?_ <;> (intro _hg; try (exfalso; omega)))|fail)) <;> (try clear zz)
  exact ⟨(i + 1,swp M i (a + z)),by dsimp only; omega,⟨by dsimp only; omega,by dsimp only; omega,by dsimp only; rw [aN,lm3,ah],⟨s1,by rw [aN,af (Ne.symm hbn)]; exact hs2⟩,fun i k1 k2=>by rw [aN,af k2]; exact hfr2 i k1 k2,rfl,hp1.trans (PermR.swap (by omega) (by omega) (by omega))⟩,ag0⟩
 ·rw [if_neg hrl] at hz
  have hz':r=z:=by omega
  subst hz'
  (have zz:=aI @wm (aI @hr1 (aI @hb2 (aI @ti (aI @dU (aI hc.cells (aI hc.one (aI @lm1 @lm2))))))); repeat' (first|refine zW ?_|apply a_n|refine zO ?_|refine vZ ?_|refine stZ ?_|(refine zGZ ?_ ?_ <;> (intro _hg; try (exfalso; omega)))|fail)) <;> (try clear zz)
  exact ⟨(i + 1,swp M i (a + r)),by dsimp only; omega,⟨by dsimp only; omega,by dsimp only; omega,by dsimp only; rw [aN,lm3,ah],⟨s1,by rw [aN,af (Ne.symm hbn)]; exact hs2⟩,fun i k1 k2=>by rw [aN,af k2]; exact hfr2 i k1 k2,rfl,hp1.trans (PermR.swap (by omega) (by omega) (by omega))⟩,ag0⟩
end
end Go.Proofs.Ytfcenbapjhecfaa
namespace Go.Proofs.Ytfcenbapjhecfaa
open Go Go.Abs
structure PS (H H1:Hp) (nx n1 b:Nat) (cs:List AV):Prop where
 at_:H1 b=some cs
 fr:∀ i,i < nx→i ≠ b→H1 i=H i
 le:nx ≤ n1
section
variable {H H1 H2:Hp} {nx n1 n2 b:Nat} {cs cs':List AV}
theorem PS.upd (h:PS H H1 nx n1 b cs):PS H (aq H1 b cs') nx n1 b cs':=⟨ah,fun i k1 k2=>by rw [af k2]; exact h.fr i k1 k2,h.le⟩
theorem PS.new {v:List AV} (hb:b < nx) (h:PS H H1 nx n1 b cs):PS H (aq H1 n1 v) nx (n1 + 1) b cs :=
 have h1:=h.le
 ⟨by rw [af (by omega)]; exact h.at_,fun i k1 k2=>by rw [af (by omega)]; exact h.fr i k1 k2,by omega⟩
theorem PS.rec_ (h:PS H H1 nx n1 b cs) (h1:H2 b=some cs') (h2:∀ i,i < n1→i ≠ b→H2 i=H1 i) (h3:n1 ≤ n2):PS H H2 nx n2 b cs' :=
 have h4:=h.le
 ⟨h1,fun i k1 k2=>by rw [h2 i (by omega) k2]; exact h.fr i k1 k2,by omega⟩
end
section
variable {α:Type} [Inhabited α] {f:α→AV} {K:α→α→Int} {G:α→Prop} {g:Nat} {caps:List AV}
structure PI {α:Type} [Inhabited α] (K:α→α→Int) (a e:Nat) (L:List α) (a1 e1:Nat) (M:List α):Prop where
 lo:a ≤ a1
 mid:a1 ≤ e1
 hi:e1 ≤ e
 len:e ≤ L.length
 perm:PermR a e L M
 low:nY K a1 e1 M
 close:∀ N,PermR a1 e1 M N→a5 K a1 e1 N→a5 K a e N
variable {a e a1 e1:Nat} {L M N:List α}
theorem PI.mlen (h:PI K a e L a1 e1 M):e1 ≤ M.length:=by rw [h.perm.len]; exact Nat.le_trans h.hi h.len
theorem PI.start (h1:a ≤ e) (h2:e ≤ L.length) (h3:nY K a e L):PI K a e L a e L:=⟨Nat.le_refl _,h1,Nat.le_refl _,h2,.refl,h3,fun _ _ h=>h⟩
theorem PI.swap (h:PI K a e L a1 e1 M) (hp:PermR a1 e1 M N):PI K a e L a1 e1 N :=
 ⟨h.lo,h.mid,h.hi,h.len,h.perm.trans (hp.mono h.lo h.hi),h.low.perm hp h.mid h.mlen,fun N' k1 k2=>h.close N' (hp.trans k1) k2⟩
theorem PI.done (h:PI K a e L a1 e1 M) (hp:PermR a1 e1 M N) (hs:a5 K a1 e1 N):PermR a e L N∧a5 K a e N:=⟨h.perm.trans (hp.mono h.lo h.hi),h.close N hp hs⟩
theorem PI.equal {v:α} {m:Nat} (hK:Ord K) (h:PI K a e L a1 e1 M) (hp:PermR a1 e1 M N) (hv:¬ K (M.getD (a1 - 1) default) v < 0) (ha:0 < a1) (hm:a1 < m∧m ≤ e1) (h1:∀ p,a1 ≤ p→p < m→¬ K v (N.getD p default) < 0) (h2:∀ q,m ≤ q→q < e1→K v (N.getD q default) < 0):PI K a e L m e1 N:=by
 have hN:=h.swap hp
 have hlow:=hN.low
 have ho:N.getD (a1 - 1) default=M.getD (a1 - 1) default:=hp.out _ (.inl (by omega))
 refine ⟨by have:=h.lo; omega,hm.2,h.hi,h.len,hN.perm,fun q k0 k1 k2=>hK.negtr _ _ _ (h1 (m - 1) (by omega) (by omega)) (hK.asym _ _ (h2 q k1 k2)),fun N' k1 k2=>hN.close N' (k1.mono (by omega) (Nat.le_refl _)) (fun p q c1 c2 c3=>?_)⟩
 by_cases e1':m ≤ p
 ·exact k2 p q e1' c2 c3
 ·rw [k1.out p (.inl (by omega))]
  refine hK.negtr _ _ _ (h1 p c1 (by omega)) ?_
  by_cases e2:m ≤ q
  ·exact hK.asym _ _ (k1.all (p:=fun x=>K v x < 0) hm.2 hN.mlen h2 q e2 c3)
  ·rw [k1.out q (.inl (by omega))]
   exact hK.negtr _ _ _ hv (by rw [← ho]; exact hlow q ha (by omega) c3)
theorem a5.glue {m:Nat} (hK:Ord K) (h1:a5 K a1 m N) (h2:a5 K (m + 1) e1 N) (h3:∀ p,a1 ≤ p→p < m→¬ K (N.getD m default) (N.getD p default) < 0) (h4:∀ q,m < q→q < e1→¬ K (N.getD q default) (N.getD m default) < 0):a5 K a1 e1 N:=fun p q k1 k2 k3=>by
 by_cases c1:q < m
 ·exact h1 p q k1 k2 c1
 ·by_cases c2:m < p
  ·exact h2 p q c2 k2 k3
  ·by_cases c3:p=m
   ·subst c3; exact h4 q (by omega) k3
   ·by_cases c4:q=m
    ·subst c4; exact h3 p k1 k2
    ·exact hK.negtr _ _ _ (h3 p k1 (by omega)) (h4 q (by omega) k3)
structure TwoS {α:Type} [Inhabited α] (K:α→α→Int) (a1 e1 m:Nat) (N:List α):Prop where
 mid:a1 ≤ m∧m < e1
 lt:∀ p,a1 ≤ p→p < m→¬ K (N.getD m default) (N.getD p default) < 0
 ge:∀ q,m < q→q < e1→¬ K (N.getD q default) (N.getD m default) < 0
theorem TwoS.left {m:Nat} {N':List α} (h:TwoS K a1 e1 m N) (hp:PermR a1 m N N') (hl:e1 ≤ N.length):TwoS K a1 e1 m N' :=
 have hm:=h.mid
 ⟨hm,by
  rw [hp.out m (.inr (Nat.le_refl _))]
  exact hp.all (p:=fun x=>¬ K (N.getD m default) x < 0) hm.1 (by omega) h.lt,fun q k1 k2=>by rw [hp.out m (.inr (Nat.le_refl _)),hp.out q (.inr (by omega))]; exact h.ge q k1 k2⟩
theorem TwoS.right {m:Nat} {N':List α} (h:TwoS K a1 e1 m N) (hp:PermR (m + 1) e1 N N') (hl:e1 ≤ N.length):TwoS K a1 e1 m N' :=
 have hm:=h.mid
 ⟨hm,fun p k1 k2=>by rw [hp.out m (.inl (by omega)),hp.out p (.inl (by omega))]; exact h.lt p k1 k2,by
  rw [hp.out m (.inl (by omega))]
  exact fun q k1 k2=>hp.all (p:=fun x=>¬ K x (N.getD m default) < 0) (by omega) hl (fun i c1 c2=>h.ge i (by omega) c2) q (by omega) k2⟩
theorem PI.left {m:Nat} (hK:Ord K) (h:PI K a e L a1 e1 M) (ht:TwoS K a1 e1 m M) (hp:PermR a1 m M N) (hs:a5 K a1 m N):PI K a e L (m + 1) e1 N:=by
 have hm:=ht.mid
 have hN:=h.swap (hp.mono (Nat.le_refl _) (by omega))
 have htN:=ht.left hp h.mlen
 refine ⟨by have:=h.lo; omega,by omega,h.hi,h.len,hN.perm,fun q k0 k1 k2=>by rw [Nat.add_sub_cancel]; exact htN.ge q k1 k2,fun N' k1 k2=>hN.close N' (k1.mono (by omega) (Nat.le_refl _)) ?_⟩
 have ht':=htN.right k1 hN.mlen
 exact a5.glue hK (fun p q c1 c2 c3=>by rw [k1.out p (.inl (by omega)),k1.out q (.inl (by omega))]; exact hs p q c1 c2 c3) k2 ht'.lt ht'.ge
theorem PI.right {m:Nat} (hK:Ord K) (h:PI K a e L a1 e1 M) (ht:TwoS K a1 e1 m M) (hp:PermR (m + 1) e1 M N) (hs:a5 K (m + 1) e1 N):PI K a e L a1 m N:=by
 have hm:=ht.mid
 have hN:=h.swap (hp.mono (by omega) (Nat.le_refl _))
 have htN:=ht.right hp h.mlen
 refine ⟨h.lo,hm.1,by have:=h.hi; omega,h.len,hN.perm,fun q k0 k1 k2=>hN.low q k0 k1 (by omega),fun N' k1 k2=>hN.close N' (k1.mono (Nat.le_refl _) (by omega)) ?_⟩
 have ht':=htN.left k1 hN.mlen
 exact a5.glue hK k2 (fun p q c1 c2 c3=>by rw [k1.out p (.inr (by omega)),k1.out q (.inr (by omega))]; exact hs p q c1 c2 c3) ht'.lt ht'.ge
theorem nY.sub {a e a' e':Nat} {M:List α} (h:nY K a e M) (ha:a'=a) (he:e' ≤ e):nY K a' e' M:=fun q k0 k1 k2=>by subst ha; exact h q k0 k1 (by omega)
end
end Go.Proofs.Ytfcenbapjhecfaa
namespace Go.Proofs.Ytfcenbapjhecfaa
open Go Go.Abs
section
variable {α:Type} [Inhabited α] {f:α→AV} {K:α→α→Int} {G:α→Prop} {g:Nat} {caps:List AV}
attribute [local irreducible] aD aj aX aP aH aK az aL aR bd Go.Abs.Fn aO Go.Abs.Pure av aF Yl
theorem AK (hc:Cmp Try.prog f K G g caps) {b n:Nat} (hn2:n ≤ 1000000000):∀ (sz a e lim:Nat) (L:List α) (H:Hp) (nx:Nat),e - a < sz→H b=some (L.map f)→b < nx→L.length=n→(∀ x ∈ L,G x)→a ≤ e→e ≤ n→lim ≤ 64→nY K a e L →
    Abs.Fn Try.prog 89 [.msl b n 1 0 n,.int .i64 a,.int .i64 e,.int .i64 lim,.func g caps] H nx fun r H' nx'=>∃ L',PS H H' nx nx' b (L'.map f)∧PermR a e L L'∧a5 K a e L':=by
 intro sz
 induction sz with
 | zero=>intro a e lim L H nx h; omega
 | succ sz ih =>
 intro a e lim L H nx hsz hH hbx hn hG hae hen hlim hlow
 have dcap:=hc.dcaps
 refine Abs.Fn.of_c2 follows Al (Nat.le_of_ble_eq_true rfl) ?_
 simp only [b89,cO,cG,cN,cM,cD,cF,cB,aB,aS]
 (have zz:=and_self; repeat' (first|refine zW ?_|apply a_n|refine zO ?_|refine vZ ?_|fail)) <;> (try clear zz)
 refine ba (X:=Nat × Nat × Nat × Bool × Bool × List α) (fun x=>[(0,.msl b n 1 0 n),(1,.int .i64 (x.1:Nat)),(2,.int .i64 (x.2.1:Nat)),(3,.int .i64 (x.2.2.1:Nat)),(4,.func g caps),(10,.bool x.2.2.2.1),(11,.bool x.2.2.2.2.1)]) (fun x H' nxx=>PI K a e L x.1 x.2.1 x.2.2.2.2.2∧PS H H' nx nxx b (x.2.2.2.2.2.map f)∧x.2.2.1 ≤ 64) (fun x=>x.2.1 - x.1) (a,e,lim,true,true,L) ⟨.start hae (by rw [hn]; exact hen) hlow,⟨hH,fun _ _ _=>rfl,Nat.le_refl _⟩,hlim⟩ ag0 ?_
 clear hlim hlow lim
 rintro ⟨a1,e1,lim,wb,wp,M⟩ H1 n1 ⟨hpi,hps,hlim⟩
 dsimp only at *
 have hlo:=hpi.lo; have hmid:=hpi.mid; have hhi:=hpi.hi
 obtain ⟨l,hl0⟩:∃ l,e1 - a1=l:=⟨_,rfl⟩
 rw [hl0]
 have te:(e1:Int) - (a1:Int)=(l:Int):=by omega
 have hlen:∀ M:List α,PI K a e L a1 e1 M→M.length=n:=fun M h=>by rw [h.perm.len,hn]
 have hGA:∀ M:List α,PI K a e L a1 e1 M→∀ x ∈ M,G x:=fun M h=>h.perm.mem hG
 have hbn:∀ (M:List α) (H1:Hp) (n1:Nat),PS H H1 nx n1 b (M.map f)→b < n1:=fun M H1 n1 h=>by have:=h.le; omega
 obtain ⟨T,hT,t0,t1,t2,t3,t4,t10,t11⟩:∃ T,tl [(0,.msl b n 1 0 n),(1,.int .i64 (a1:Nat)),(2,.int .i64 (e1:Nat)),(3,.int .i64 (lim:Nat)),(4,.func g caps),(10,.bool wb),(11,.bool wp)]=T∧T 0=.msl b n 1 0 n∧T 1=.int .i64 (a1:Nat)∧T 2=.int .i64 (e1:Nat)∧T 3=.int .i64 (lim:Nat)∧T 4=.func g caps∧T 10=.bool wb∧T 11=.bool wp:=⟨_,rfl,rfl,rfl,rfl,rfl,rfl,rfl,rfl⟩
 rw [hT]
 clear hT
 refine f8 ?_
 refine bw (fun T H'' nx''=>T 0=.msl b n 1 0 n∧T 1=.int .i64 (a1:Nat)∧T 2=.int .i64 (e1:Nat)∧T 3=.int .i64 (lim:Nat)∧T 4=.func g caps∧T 10=.bool wb∧T 11=.bool wp∧T 12=.int .i64 (l:Nat)∧H1=H''∧n1=nx'') ?_ ?_
 ·(have zz:=aI @t0 (aI @t1 (aI @t2 (aI @t3 (aI @t4 (aI @t10 (aI @t11 @te)))))); repeat' (first|apply a_n|refine zO ?_|refine vZ ?_|fail)) <;> (try clear zz)
  exact ⟨(have zz:=@t0; evZ),(have zz:=@t1; evZ),(have zz:=@t2; evZ),(have zz:=@t3; evZ),(have zz:=@t4; evZ),(have zz:=@t10; evZ),(have zz:=@t11; evZ),ev0,rfl,rfl⟩
 clear t0 t1 t2 t3 t4 t10 t11
 rintro T _ _ ⟨t0,t1,t2,t3,t4,t10,t11,t12,rfl,rfl⟩
 refine bw (fun T H'' nx''=>T 0=.msl b n 1 0 n∧T 1=.int .i64 (a1:Nat)∧T 2=.int .i64 (e1:Nat)∧T 3=.int .i64 (lim:Nat)∧T 4=.func g caps∧T 10=.bool wb∧T 11=.bool wp∧T 12=.int .i64 (l:Nat)∧13 ≤ l∧H1=H''∧n1=nx'') ?_ ?_
 ·by_cases h12:l ≤ 12
  ·(have zz:=aI @t0 (aI @t1 (aI @t2 (aI @t3 (aI @t4 (aI @t10 (aI @t11 @t12)))))); repeat' (first|refine zW ?_|apply a_n|refine zO ?_|refine vZ ?_|(refine zGZ ?_ ?_ <;> (intro _hg; try (exfalso; omega)))|fail)) <;> (try clear zz)
   refine aV ev0 (have zz:=aI @t0 (aI @t1 (aI @t2 (aI @t3 (aI @t4 (aI @t10 (aI @t11 @t12)))))); evZ) (Ak hc (b:=b) hps.at_ (hlen _ hpi) (hGA _ hpi) (a:=a1) (e:=e1) hmid (by omega) hn2) ?_
   rintro _ _ _ ⟨rfl,N,rfl,hpN,hsN⟩
   (have zz:=and_self; repeat' (first|apply a_n|apply a_r|refine zO ?_|refine ak rfl ?_|fail)) <;> (try clear zz)
   exact ⟨N,hps.upd,hpi.done hpN hsN⟩
  ·(have zz:=aI @t0 (aI @t1 (aI @t2 (aI @t3 (aI @t4 (aI @t10 (aI @t11 @t12)))))); repeat' (first|refine zW ?_|apply a_n|refine zO ?_|refine vZ ?_|(refine zGZ ?_ ?_ <;> (intro _hg; try (exfalso; omega)))|fail)) <;> (try clear zz)
   exact ⟨(have zz:=@t0; evZ),(have zz:=@t1; evZ),(have zz:=@t2; evZ),(have zz:=@t3; evZ),(have zz:=@t4; evZ),(have zz:=@t10; evZ),(have zz:=@t11; evZ),(have zz:=@t12; evZ),by omega,rfl,rfl⟩
 clear t0 t1 t2 t3 t4 t10 t11 t12
 rintro T _ _ ⟨t0,t1,t2,t3,t4,t10,t11,t12,h13,rfl,rfl⟩
 refine bw (fun T H'' nx''=>T 0=.msl b n 1 0 n∧T 1=.int .i64 (a1:Nat)∧T 2=.int .i64 (e1:Nat)∧T 3=.int .i64 (lim:Nat)∧T 4=.func g caps∧T 10=.bool wb∧T 11=.bool wp∧T 12=.int .i64 (l:Nat)∧0 < lim∧H1=H''∧n1=nx'') ?_ ?_
 ·by_cases h12:lim=0
  ·subst h12
   have tz:decide (((0:Nat):Int)=0)=true:=rfl
   (have zz:=aI @t0 (aI @t1 (aI @t2 (aI @t3 (aI @t4 (aI @t10 (aI @t11 (aI @t12 @tz))))))); repeat' (first|refine zW ?_|apply a_n|refine zO ?_|refine vZ ?_|refine cTZ ?_|fail)) <;> (try clear zz)
   refine aV ev0 (have zz:=aI @t0 (aI @t1 (aI @t2 (aI @t3 (aI @t4 (aI @t10 (aI @t11 @t12)))))); evZ) (yQ hc (b:=b) hps.at_ (hlen _ hpi) (hGA _ hpi) (a:=a1) (e:=e1) hmid (by omega) hn2) ?_
   rintro _ _ _ ⟨rfl,N,rfl,hpN,hsN⟩
   (have zz:=and_self; repeat' (first|apply a_n|apply a_r|refine zO ?_|refine ak rfl ?_|fail)) <;> (try clear zz)
   exact ⟨N,hps.upd,hpi.done hpN hsN⟩
  ·have tz:decide ((lim:Int)=0)=false:=decide_eq_false (by omega)
   (have zz:=aI @t0 (aI @t1 (aI @t2 (aI @t3 (aI @t4 (aI @t10 (aI @t11 (aI @t12 @tz))))))); repeat' (first|refine zW ?_|apply a_n|refine zO ?_|refine vZ ?_|refine cFZ ?_|fail)) <;> (try clear zz)
   exact ⟨(have zz:=@t0; evZ),(have zz:=@t1; evZ),(have zz:=@t2; evZ),(have zz:=@t3; evZ),(have zz:=@t4; evZ),(have zz:=@t10; evZ),(have zz:=@t11; evZ),(have zz:=@t12; evZ),by omega,rfl,rfl⟩
 clear t0 t1 t2 t3 t4 t10 t11 t12
 rintro T _ _ ⟨t0,t1,t2,t3,t4,t10,t11,t12,hlim1,rfl,rfl⟩
 refine bw (fun T H'' nx''=>∃ (lim:Nat) (M:List α),lim ≤ 64∧PI K a e L a1 e1 M∧PS H H'' nx nx'' b (M.map f)∧T 0=.msl b n 1 0 n∧T 1=.int .i64 (a1:Nat)∧T 2=.int .i64 (e1:Nat)∧T 3=.int .i64 (lim:Nat)∧T 4=.func g caps∧T 10=.bool wb∧T 11=.bool wp∧T 12=.int .i64 (l:Nat)) ?_ ?_
 ·cases wb
  ·obtain ⟨k,rfl⟩:∃ k,lim=k + 1:=⟨lim - 1,by omega⟩
   have tk:((k + 1:Nat):Int) - 1=(k:Int):=by omega
   (have zz:=aI @t0 (aI @t1 (aI @t2 (aI @t3 (aI @t4 (aI @t10 (aI @t11 @t12)))))); repeat' (first|refine zW ?_|apply a_n|refine zO ?_|refine vZ ?_|refine cTZ ?_|fail)) <;> (try clear zz)
   refine aV ev0 (have zz:=aI @t0 (aI @t1 (aI @t2 (aI @t3 (aI @t4 (aI @t10 (aI @t11 @t12)))))); evZ) (xI hc (b:=b) hps.at_ (hbn _ _ _ hps) (hlen _ hpi) (a:=a1) (e:=e1) (by omega) (by omega) hn2) ?_
   rintro _ _ _ ⟨rfl,N,hN1,hN2,hpN⟩
   (have zz:=aI @t0 (aI @t1 (aI @t2 (aI @t3 (aI @t4 (aI @t10 (aI @t11 (aI @t12 @tk))))))); repeat' (first|apply a_n|refine zO ?_|refine vZ ?_|fail)) <;> (try clear zz)
   exact ⟨k,N,by omega,hpi.swap hpN,hps.rec_ hN1 hN2 (Nat.le_succ _),(have zz:=@t0; evZ),(have zz:=@t1; evZ),(have zz:=@t2; evZ),(have zz:=@t3; evZ),(have zz:=@t4; evZ),(have zz:=@t10; evZ),(have zz:=@t11; evZ),(have zz:=@t12; evZ)⟩
  ·(have zz:=aI @t0 (aI @t1 (aI @t2 (aI @t3 (aI @t4 (aI @t10 (aI @t11 @t12)))))); repeat' (first|refine zW ?_|apply a_n|refine zO ?_|refine vZ ?_|refine cFZ ?_|fail)) <;> (try clear zz)
   exact ⟨lim,M,hlim,hpi,hps,(have zz:=@t0; evZ),(have zz:=@t1; evZ),(have zz:=@t2; evZ),(have zz:=@t3; evZ),(have zz:=@t4; evZ),(have zz:=@t10; evZ),(have zz:=@t11; evZ),(have zz:=@t12; evZ)⟩
 clear t0 t1 t2 t3 t4 t10 t11 t12 hpi hps hlim hlim1
 rintro T H1 n1 ⟨lim,M,hlim,hpi,hps,t0,t1,t2,t3,t4,t10,t11,t12⟩
 refine bw (fun T H'' nx''=>∃ (p:Nat) (hint:Int),a1 ≤ p∧p < e1∧PS H H'' nx nx'' b (M.map f)∧T 0=.msl b n 1 0 n∧T 1=.int .i64 (a1:Nat)∧T 2=.int .i64 (e1:Nat)∧T 3=.int .i64 (lim:Nat)∧T 4=.func g caps∧T 10=.bool wb∧T 11=.bool wp∧T 12=.int .i64 (l:Nat)∧T 13=.int .i64 (p:Nat)∧T 14=.int .i64 hint) ?_ ?_
 ·(have zz:=aI @t0 (aI @t1 (aI @t2 (aI @t3 (aI @t4 (aI @t10 (aI @t11 @t12)))))); repeat' (first|apply a_n|refine zO ?_|refine vZ ?_|fail)) <;> (try clear zz)
  refine aV ev0 (have zz:=aI @t0 (aI @t1 (aI @t2 (aI @t3 (aI @t4 (aI @t10 (aI @t11 @t12)))))); evZ) (v4 hc (b:=b) hps.at_ (hbn _ _ _ hps) (hlen _ hpi) (hGA _ hpi) (a:=a1) (e:=e1) (by omega) (by omega) hn2) ?_
  rintro _ _ _ ⟨rfl,p,hint,v,rfl,hp1,hp2,rfl⟩
  (have zz:=aI @t0 (aI @t1 (aI @t2 (aI @t3 (aI @t4 (aI @t10 (aI @t11 @t12)))))); repeat' (first|apply a_n|refine zO ?_|refine vZ ?_|fail)) <;> (try clear zz)
  exact ⟨p,hint,hp1,hp2,hps.new hbx,(have zz:=@t0; evZ),(have zz:=@t1; evZ),(have zz:=@t2; evZ),(have zz:=@t3; evZ),(have zz:=@t4; evZ),(have zz:=@t10; evZ),(have zz:=@t11; evZ),(have zz:=@t12; evZ),ev0,ev0⟩
 clear t0 t1 t2 t3 t4 t10 t11 t12 hps
 rintro T H1 n1 ⟨p,hint,hp1,hp2,hps,t0,t1,t2,t3,t4,t10,t11,t12,t13,t14⟩
 refine bw (fun T H'' nx''=>∃ (p:Nat) (hint:Int) (M:List α),a1 ≤ p∧p < e1∧PI K a e L a1 e1 M∧PS H H'' nx nx'' b (M.map f)∧T 0=.msl b n 1 0 n∧T 1=.int .i64 (a1:Nat)∧T 2=.int .i64 (e1:Nat)∧T 3=.int .i64 (lim:Nat)∧T 4=.func g caps∧T 10=.bool wb∧T 11=.bool wp∧T 12=.int .i64 (l:Nat)∧T 13=.int .i64 (p:Nat)∧T 14=.int .i64 hint) ?_ ?_
 ·by_cases h2:hint=2
  ·subst h2
   obtain ⟨p2,hp3⟩:∃ p2,e1 - 1 - (p - a1)=p2:=⟨_,rfl⟩
   have tp:(e1:Int) - 1 - ((p:Int) - (a1:Int))=(p2:Int):=by omega
   have tz:decide ((2:Int)=2)=true:=rfl
   (have zz:=aI @t0 (aI @t1 (aI @t2 (aI @t3 (aI @t4 (aI @t10 (aI @t11 (aI @t12 (aI @t13 (aI @t14 @tz))))))))); repeat' (first|refine zW ?_|apply a_n|refine zO ?_|refine vZ ?_|(refine zGZ ?_ ?_ <;> (intro _hg; try (exfalso; omega)))|fail)) <;> (try clear zz)
   refine aV ev0 (have zz:=aI @t0 (aI @t1 (aI @t2 (aI @t3 (aI @t4 (aI @t10 (aI @t11 @t12)))))); evZ) (z5 hc (b:=b) hps.at_ (hlen _ hpi) (a:=a1) (e:=e1) (by omega) (by omega) hn2) ?_
   rintro _ _ _ ⟨rfl,N,rfl,hpN⟩
   (have zz:=aI @t0 (aI @t1 (aI @t2 (aI @t3 (aI @t4 (aI @t10 (aI @t11 (aI @t12 (aI @t13 (aI @t14 @tp))))))))); repeat' (first|refine zW ?_|apply a_n|refine zO ?_|refine vZ ?_|fail)) <;> (try clear zz)
   exact ⟨p2,1,N,by omega,by omega,hpi.swap hpN,hps.upd,(have zz:=@t0; evZ),(have zz:=@t1; evZ),(have zz:=@t2; evZ),(have zz:=@t3; evZ),(have zz:=@t4; evZ),(have zz:=@t10; evZ),(have zz:=@t11; evZ),(have zz:=@t12; evZ),ev0,ev0⟩
  ·have tz:decide (hint=2)=false:=decide_eq_false h2
   (have zz:=aI @t0 (aI @t1 (aI @t2 (aI @t3 (aI @t4 (aI @t10 (aI @t11 (aI @t12 (aI @t13 (aI @t14 @tz))))))))); repeat' (first|refine zW ?_|apply a_n|refine zO ?_|refine vZ ?_|refine cFZ ?_|fail)) <;> (try clear zz)
   exact ⟨p,hint,M,hp1,hp2,hpi,hps,(have zz:=@t0; evZ),(have zz:=@t1; evZ),(have zz:=@t2; evZ),(have zz:=@t3; evZ),(have zz:=@t4; evZ),(have zz:=@t10; evZ),(have zz:=@t11; evZ),(have zz:=@t12; evZ),(have zz:=@t13; evZ),(have zz:=@t14; evZ)⟩
 clear t0 t1 t2 t3 t4 t10 t11 t12 t13 t14 hps hpi hp1 hp2
 rintro T H1 n1 ⟨p,hint,M,hp1,hp2,hpi,hps,t0,t1,t2,t3,t4,t10,t11,t12,t13,t14⟩
 refine bw (fun T H'' nx''=>∃ (M:List α),PI K a e L a1 e1 M∧PS H H'' nx nx'' b (M.map f)∧T 0=.msl b n 1 0 n∧T 1=.int .i64 (a1:Nat)∧T 2=.int .i64 (e1:Nat)∧T 3=.int .i64 (lim:Nat)∧T 4=.func g caps∧T 10=.bool wb∧T 11=.bool wp∧T 12=.int .i64 (l:Nat)∧T 13=.int .i64 (p:Nat)) ?_ ?_
 ·cases wb
  ·cases wp
   ·(have zz:=aI @t0 (aI @t1 (aI @t2 (aI @t3 (aI @t4 (aI @t10 (aI @t11 (aI @t12 (aI @t13 @t14)))))))); repeat' (first|refine zW ?_|apply a_n|refine zO ?_|refine vZ ?_|refine gFZ ?_|refine cFZ ?_|fail)) <;> (try clear zz)
    exact ⟨M,hpi,hps,(have zz:=@t0; evZ),(have zz:=@t1; evZ),(have zz:=@t2; evZ),(have zz:=@t3; evZ),(have zz:=@t4; evZ),(have zz:=@t10; evZ),(have zz:=@t11; evZ),(have zz:=@t12; evZ),(have zz:=@t13; evZ)⟩
   ·(have zz:=aI @t0 (aI @t1 (aI @t2 (aI @t3 (aI @t4 (aI @t10 (aI @t11 (aI @t12 (aI @t13 @t14)))))))); repeat' (first|refine zW ?_|apply a_n|refine zO ?_|refine vZ ?_|refine gFZ ?_|refine cFZ ?_|fail)) <;> (try clear zz)
    exact ⟨M,hpi,hps,(have zz:=@t0; evZ),(have zz:=@t1; evZ),(have zz:=@t2; evZ),(have zz:=@t3; evZ),(have zz:=@t4; evZ),(have zz:=@t10; evZ),(have zz:=@t11; evZ),(have zz:=@t12; evZ),(have zz:=@t13; evZ)⟩
  ·cases wp
   ·(have zz:=aI @t0 (aI @t1 (aI @t2 (aI @t3 (aI @t4 (aI @t10 (aI @t11 (aI @t12 (aI @t13 @t14)))))))); repeat' (first|refine zW ?_|apply a_n|refine zO ?_|refine vZ ?_|refine gTZ ?_|refine gFZ ?_|refine cFZ ?_|fail)) <;> (try clear zz)
    exact ⟨M,hpi,hps,(have zz:=@t0; evZ),(have zz:=@t1; evZ),(have zz:=@t2; evZ),(have zz:=@t3; evZ),(have zz:=@t4; evZ),(have zz:=@t10; evZ),(have zz:=@t11; evZ),(have zz:=@t12; evZ),(have zz:=@t13; evZ)⟩
   ·by_cases h1:hint=1
    ·subst h1
     have tz:decide ((1:Int)=1)=true:=rfl
     (have zz:=aI @t0 (aI @t1 (aI @t2 (aI @t3 (aI @t4 (aI @t10 (aI @t11 (aI @t12 (aI @t13 (aI @t14 @tz))))))))); repeat' (first|refine zW ?_|apply a_n|refine zO ?_|refine vZ ?_|refine gTZ ?_|(refine zGZ ?_ ?_ <;> (intro _hg; try (exfalso; omega)))|fail)) <;> (try clear zz)
     refine aV ev0 (have zz:=aI @t0 (aI @t1 (aI @t2 (aI @t3 (aI @t4 (aI @t10 (aI @t11 @t12)))))); evZ) (u6 hc (b:=b) hps.at_ (hlen _ hpi) (hGA _ hpi) (a:=a1) (e:=e1) (by omega) (by omega) hn2 hpi.low) ?_
     rintro _ _ _ ⟨rfl,N,t,rfl,rfl,hpN,hsN⟩
     cases t
     ·(have zz:=aI @t0 (aI @t1 (aI @t2 (aI @t3 (aI @t4 (aI @t10 (aI @t11 (aI @t12 (aI @t13 @t14)))))))); repeat' (first|apply a_n|refine zO ?_|refine cFZ ?_|fail)) <;> (try clear zz)
      exact ⟨N,hpi.swap hpN,hps.upd,(have zz:=@t0; evZ),(have zz:=@t1; evZ),(have zz:=@t2; evZ),(have zz:=@t3; evZ),(have zz:=@t4; evZ),(have zz:=@t10; evZ),(have zz:=@t11; evZ),(have zz:=@t12; evZ),(have zz:=@t13; evZ)⟩
     ·(have zz:=aI @t0 (aI @t1 (aI @t2 (aI @t3 (aI @t4 (aI @t10 (aI @t11 (aI @t12 (aI @t13 @t14)))))))); repeat' (first|apply a_n|apply a_r|refine zO ?_|refine cTZ ?_|refine ak rfl ?_|fail)) <;> (try clear zz)
      exact ⟨N,hps.upd,hpi.done hpN (hsN rfl)⟩
    ·have tz:decide (hint=1)=false:=decide_eq_false h1
     (have zz:=aI @t0 (aI @t1 (aI @t2 (aI @t3 (aI @t4 (aI @t10 (aI @t11 (aI @t12 (aI @t13 (aI @t14 @tz))))))))); repeat' (first|refine zW ?_|apply a_n|refine zO ?_|refine vZ ?_|refine gTZ ?_|refine cFZ ?_|fail)) <;> (try clear zz)
     exact ⟨M,hpi,hps,(have zz:=@t0; evZ),(have zz:=@t1; evZ),(have zz:=@t2; evZ),(have zz:=@t3; evZ),(have zz:=@t4; evZ),(have zz:=@t10; evZ),(have zz:=@t11; evZ),(have zz:=@t12; evZ),(have zz:=@t13; evZ)⟩
 clear t0 t1 t2 t3 t4 t10 t11 t12 t13 t14 hps hpi hint
 rintro T H1 n1 ⟨M,hpi,hps,t0,t1,t2,t3,t4,t10,t11,t12,t13⟩
 have hbb:=hps.at_
 have hl:=hlen _ hpi
 have hGM:=hGA _ hpi
 refine bw (fun T H'' nx''=>T 0=.msl b n 1 0 n∧T 1=.int .i64 (a1:Nat)∧T 2=.int .i64 (e1:Nat)∧T 3=.int .i64 (lim:Nat)∧T 4=.func g caps∧T 10=.bool wb∧T 11=.bool wp∧T 12=.int .i64 (l:Nat)∧T 13=.int .i64 (p:Nat)∧H1=H''∧n1=nx'') ?_ ?_
 ·by_cases ha0:a1=0
  ·have tz:decide ((0:Int) < (a1:Int))=false:=decide_eq_false (by omega)
   (have zz:=aI @t0 (aI @t1 (aI @t2 (aI @t3 (aI @t4 (aI @t10 (aI @t11 (aI @t12 (aI @t13 @tz)))))))); repeat' (first|refine zW ?_|refine zM ?_|apply a_n|refine zO ?_|refine vZ ?_|refine gFZ ?_|refine cFZ ?_|fail)) <;> (try clear zz)
   exact ⟨(have zz:=@t0; evZ),(have zz:=@t1; evZ),(have zz:=@t2; evZ),(have zz:=@t3; evZ),(have zz:=@t4; evZ),(have zz:=@t10; evZ),(have zz:=@t11; evZ),(have zz:=@t12; evZ),(have zz:=@t13; evZ),rfl,rfl⟩
  have tz:decide ((0:Int) < (a1:Int))=true:=decide_eq_true (by omega)
  obtain ⟨k,hk⟩:∃ k,a1 - 1=k:=⟨_,rfl⟩
  have tk:(a1:Int) - 1=(k:Int):=by omega
  have lc:=hc.run (M.getD k default) (M.getD p default) (hGM _ (aJ (by omega))) (hGM _ (aJ (by omega)))
  have d1:=hc.dat (M.getD k default)
  have d2:=hc.dat (M.getD p default)
  generalize hKK:K (M.getD k default) (M.getD p default)=kk at lc
  by_cases hlt:kk < 0
  ·(have zz:=aI @t0 (aI @t1 (aI @t2 (aI @t3 (aI @t4 (aI @t10 (aI @t11 (aI @t12 (aI @t13 (aI @tz (aI @tk (aI @hbb (aI @Int.toNat_natCast (aI hc.cells hc.one))))))))))))); repeat' (first|refine zW ?_|refine zM ?_|apply a_n|refine zO ?_|refine vZ ?_|refine cZ ?_ (hp:=lc) (hs:=by (first | refine ac ?_ rfl | apply ag); (repeat' (first | exact aa | apply an | apply ai | exact d1 | exact d2 | exact aU dcap)); first | done | fail)|refine gTZ ?_|(refine zGZ ?_ ?_ <;> (intro _hg; try (exfalso; omega)))|fail)) <;> (try clear zz)
   exact ⟨(have zz:=@t0; evZ),(have zz:=@t1; evZ),(have zz:=@t2; evZ),(have zz:=@t3; evZ),(have zz:=@t4; evZ),(have zz:=@t10; evZ),(have zz:=@t11; evZ),(have zz:=@t12; evZ),(have zz:=@t13; evZ),rfl,rfl⟩
  ·(have zz:=aI @t0 (aI @t1 (aI @t2 (aI @t3 (aI @t4 (aI @t10 (aI @t11 (aI @t12 (aI @t13 (aI @tz (aI @tk (aI @hbb (aI @Int.toNat_natCast (aI hc.cells hc.one))))))))))))); repeat' (first|refine zW ?_|refine zM ?_|apply a_n|refine zO ?_|refine vZ ?_|refine cZ ?_ (hp:=lc) (hs:=by (first | refine ac ?_ rfl | apply ag); (repeat' (first | exact aa | apply an | apply ai | exact d1 | exact d2 | exact aU dcap)); first | done | fail)|refine gTZ ?_|(refine zGZ ?_ ?_ <;> (intro _hg; try (exfalso; omega)))|fail)) <;> (try clear zz)
   refine aV ev0 (have zz:=aI @t0 (aI @t1 (aI @t2 (aI @t3 (aI @t4 (aI @t10 (aI @t11 (aI @t12 @t13))))))); evZ) (wT hc (b:=b) hps.at_ (hlen _ hpi) (hGA _ hpi) (a:=a1) (e:=e1) (pv:=p) (by omega) (by omega) hn2 ⟨hp1,hp2⟩) ?_
   rintro _ _ _ ⟨rfl,N,m,rfl,hm1,hm2,rfl,hpN,q1,q2⟩
   (have zz:=aI @t0 (aI @t1 (aI @t2 (aI @t3 (aI @t4 (aI @t10 (aI @t11 (aI @t12 @t13))))))); repeat' (first|refine zW ?_|apply a_n|apply a_x|refine zO ?_|refine vZ ?_|fail)) <;> (try clear zz)
   exact ⟨(m,e1,lim,wb,wp,N),by dsimp only; omega,⟨hpi.equal hc.ord hpN (by rw [hk,hKK]; exact hlt) (by omega) ⟨hm1,hm2⟩ q1 q2,hps.upd,hlim⟩,(have zz:=aI @t0 (aI @t1 (aI @t2 (aI @t3 (aI @t4 (aI @t10 (aI @t11 @t12)))))); agZ)⟩
 clear t0 t1 t2 t3 t4 t10 t11 t12 t13
 rintro T _ _ ⟨t0,t1,t2,t3,t4,t10,t11,t12,t13,rfl,rfl⟩
 refine bw (fun T H'' nx''=>∃ (M:List α) (m:Nat) (t:Bool),PI K a e L a1 e1 M∧TwoS K a1 e1 m M∧PS H H'' nx nx'' b (M.map f)∧T 0=.msl b n 1 0 n∧T 1=.int .i64 (a1:Nat)∧T 2=.int .i64 (e1:Nat)∧T 3=.int .i64 (lim:Nat)∧T 4=.func g caps∧T 10=.bool wb∧T 11=.bool wp∧T 12=.int .i64 (l:Nat)∧T 16=.int .i64 (m:Nat)∧T 17=.bool t) ?_ ?_
 ·(have zz:=aI @t0 (aI @t1 (aI @t2 (aI @t3 (aI @t4 (aI @t10 (aI @t11 (aI @t12 @t13))))))); repeat' (first|apply a_n|refine zO ?_|refine vZ ?_|fail)) <;> (try clear zz)
  refine aV ev0 (have zz:=aI @t0 (aI @t1 (aI @t2 (aI @t3 (aI @t4 (aI @t10 (aI @t11 (aI @t12 @t13))))))); evZ) (zj hc (b:=b) hps.at_ (hlen _ hpi) (hGA _ hpi) (a:=a1) (e:=e1) (pv:=p) (by omega) (by omega) hn2 ⟨hp1,hp2⟩) ?_
  rintro _ _ _ ⟨rfl,N,m,t,rfl,hm1,hm2,rfl,hpN,q1,q2⟩
  (have zz:=aI @t0 (aI @t1 (aI @t2 (aI @t3 (aI @t4 (aI @t10 (aI @t11 (aI @t12 @t13))))))); repeat' (first|apply a_n|refine zO ?_|refine vZ ?_|fail)) <;> (try clear zz)
  exact ⟨N,m,t,hpi.swap hpN,⟨⟨hm1,hm2⟩,fun p k1 k2=>hc.ord.asym _ _ (q1 p k1 k2),q2⟩,hps.upd,(have zz:=@t0; evZ),(have zz:=@t1; evZ),(have zz:=@t2; evZ),(have zz:=@t3; evZ),(have zz:=@t4; evZ),(have zz:=@t10; evZ),(have zz:=@t11; evZ),(have zz:=@t12; evZ),ev0,ev0⟩
 clear t0 t1 t2 t3 t4 t10 t11 t12 t13 hbb hl hGM hpi hps hp1 hp2 p
 rintro T H1 n1 ⟨M,m,t,hpi,hts,hps,t0,t1,t2,t3,t4,t10,t11,t12,t16,t17⟩
 have hm:=hts.mid
 have hl:=hlen _ hpi
 have tq:aZ .quo false false (.int .i64 (l:Int)) (.int .i64 8)=some (.int .i64 ((l / 8:Nat):Int)):=by
  rw [lN (by omega) (by omega) (by omega)]
  congr 2
 have tm:(m:Int) + 1=((m + 1:Nat):Int):=by omega
 by_cases hlr:(m:Int) - (a1:Int) < (e1:Int) - (m:Int)
 ·have tz:decide ((m:Int) - (a1:Int) < (e1:Int) - (m:Int))=true:=decide_eq_true hlr
  (have zz:=aI @t0 (aI @t1 (aI @t2 (aI @t3 (aI @t4 (aI @t10 (aI @t11 (aI @t12 (aI @t16 (aI @t17 (aI @tq @tz)))))))))); repeat' (first|refine zW ?_|apply a_n|refine zO ?_|refine vZ ?_|refine cTZ ?_|fail)) <;> (try clear zz)
  refine aV ev0 (have zz:=aI @t0 (aI @t1 (aI @t2 (aI @t3 (aI @t4 (aI @t10 (aI @t11 (aI @t12 (aI @t16 @t17)))))))); evZ) (ih a1 m lim M H1 n1 (by omega) hps.at_ (hbn _ _ _ hps) hl (hGA _ hpi) (by omega) (by omega) hlim (hpi.low.sub rfl (by omega))) ?_
  rintro _ H2 n2 ⟨N,hps2,hpN,hsN⟩
  (have zz:=aI @t0 (aI @t1 (aI @t2 (aI @t3 (aI @t4 (aI @t10 (aI @t11 (aI @t12 (aI @t16 (aI @t17 @tm))))))))); repeat' (first|apply a_n|refine zO ?_|refine vZ ?_|fail)) <;> (try clear zz)
  exact ⟨(m + 1,e1,lim,decide (((l / 8:Nat):Int) ≤ (m:Int) - (a1:Int)),t,N),by dsimp only; omega,⟨hpi.left hc.ord hts hpN hsN,hps.rec_ hps2.at_ hps2.fr hps2.le,hlim⟩,(have zz:=aI @t0 (aI @t1 (aI @t2 (aI @t3 (aI @t4 (aI @t10 (aI @t11 (aI @t12 (aI @t16 @t17)))))))); agZ)⟩
 ·have tz:decide ((m:Int) - (a1:Int) < (e1:Int) - (m:Int))=false:=decide_eq_false hlr
  (have zz:=aI @t0 (aI @t1 (aI @t2 (aI @t3 (aI @t4 (aI @t10 (aI @t11 (aI @t12 (aI @t16 (aI @t17 (aI @tq (aI @tz @tm))))))))))); repeat' (first|refine zW ?_|apply a_n|refine zO ?_|refine vZ ?_|refine cFZ ?_|fail)) <;> (try clear zz)
  refine aV ev0 (have zz:=aI @t0 (aI @t1 (aI @t2 (aI @t3 (aI @t4 (aI @t10 (aI @t11 (aI @t12 (aI @t16 @t17)))))))); evZ) (ih (m + 1) e1 lim M H1 n1 (by omega) hps.at_ (hbn _ _ _ hps) hl (hGA _ hpi) (by omega) (by omega) hlim (fun q k0 k1 k2=>by rw [Nat.add_sub_cancel]; exact hts.ge q k1 k2)) ?_
  rintro _ H2 n2 ⟨N,hps2,hpN,hsN⟩
  (have zz:=aI @t0 (aI @t1 (aI @t2 (aI @t3 (aI @t4 (aI @t10 (aI @t11 (aI @t12 (aI @t16 @t17)))))))); repeat' (first|apply a_n|refine zO ?_|refine vZ ?_|fail)) <;> (try clear zz)
  exact ⟨(a1,m,lim,decide (((l / 8:Nat):Int) ≤ (e1:Int) - (m:Int)),t,N),by dsimp only; omega,⟨hpi.right hc.ord hts hpN hsN,hps.rec_ hps2.at_ hps2.fr hps2.le,hlim⟩,(have zz:=aI @t0 (aI @t1 (aI @t2 (aI @t3 (aI @t4 (aI @t10 (aI @t11 (aI @t12 (aI @t16 @t17)))))))); agZ)⟩
end
end Go.Proofs.Ytfcenbapjhecfaa
namespace Go.Proofs.Ytfcenbapjhecfaa
open Go Go.Abs
open Nat (reduceEqDiff reduceAdd reduceLeDiff)
section
variable {α:Type} [Inhabited α] {f:α→AV} {K:α→α→Int} {G:α→Prop} {g:Nat} {caps:List AV}
attribute [local irreducible] aD aj aX aP aH aK az aL aR bd Go.Abs.Fn aO Go.Abs.Pure av aF Yl
set_option maxRecDepth 100000 in
theorem xo {H:Hp} {nx:Nat}:Abs.Fn Try.prog 107 [.int .u64 0] H nx fun r H' nx'=>nx'=nx∧H'=H∧r=.int .i64 0:=by
 refine Abs.Fn.of_c2 follows yr (Nat.le_of_ble_eq_true rfl) ?_
 delta zb cO cG cN cM cD cF cB aB aS
 generalize hT:AV.str (ByteArray.mk (Array.mk [0,1,2,2,3,3,3,3,4,4,4,4,4,4,4,4,5,5,5,5,5,5,5,5,5,5,5,5,5,5,5,5,6,6,6,6,6,6,6,6,6,6,6,6,6,6,6,6,6,6,6,6,6,6,6,6,6,6,6,6,6,6,6,6,7,7,7,7,7,7,7,7,7,7,7,7,7,7,7,7,7,7,7,7,7,7,7,7,7,7,7,7,7,7,7,7,7,7,7,7,7,7,7,7,7,7,7,7,7,7,7,7,7,7,7,7,7,7,7,7,7,7,7,7,7,7,7,7,8,8,8,8,8,8,8,8,8,8,8,8,8,8,8,8,8,8,8,8,8,8,8,8,8,8,8,8,8,8,8,8,8,8,8,8,8,8,8,8,8,8,8,8,8,8,8,8,8,8,8,8,8,8,8,8,8,8,8,8,8,8,8,8,8,8,8,8,8,8,8,8,8,8,8,8,8,8,8,8,8,8,8,8,8,8,8,8,8,8,8,8,8,8,8,8,8,8,8,8,8,8,8,8,8,8,8,8,8,8,8,8,8,8,8,8,8,8,8,8,8,8,8,8,8,8,8,8]))=tb
 have ht:iM tb (.int .u8 0)=some (.int .u8 0):=by rw [← hT]; exact ro (x:=0) (by decide)
 clear hT
 have w8:IntKind.wrap .u8 0=0:=by decide
 (have zz:=aI @w8 @ht; repeat' (first|refine zW ?_|apply a_n|refine zO ?_|refine vZ ?_|(refine zGZ ?_ ?_ <;> (intro _hg; try (exfalso; omega)))|refine ak rfl ?_|refine r1Z ?_|fail)) <;> (try clear zz)
 exact ⟨rfl,rfl,by congr 1⟩
theorem zD {H:Hp} {nx:Nat}:Abs.Fn Try.prog 90 [.int .u64 0] H nx fun r H' nx'=>nx'=nx∧H'=H∧r=.int .i64 0:=by
 refine Abs.Fn.of_c2 follows AB (Nat.le_of_ble_eq_true rfl) ?_
 simp only [b90,cO,cG,cN,cM,cD,cF,cB,aB,aS]
 (have zz:=and_self; repeat' (first|refine zW ?_|apply a_n|refine zO ?_|refine vZ ?_|refine cFZ ?_|fail)) <;> (try clear zz)
 refine aV ev0 ev0 xo ?_
 rintro _ _ _ ⟨rfl,rfl,rfl⟩
 (have zz:=and_self; repeat' (first|apply a_n|refine zO ?_|refine vZ ?_|refine ak rfl ?_|refine r1Z ?_|fail)) <;> (try clear zz)
 exact ⟨rfl,rfl,rfl⟩
theorem s7 (hc:Cmp Try.prog f K G g caps) {L:List α} {H:Hp} {b nx n:Nat} (hH:H b=some (L.map f)) (hbx:b < nx) (hn:L.length=n) (hn0:0 < n) (hG:∀ x ∈ L,G x) (hn2:n ≤ 1000000000) :
    Abs.Fn Try.prog 73 [.msl b n 1 0 n,.func g caps] H nx fun r H' nx'=>∃ L',PS H H' nx nx' b (L'.map f)∧L'.Perm L∧a5 K 0 n L':=by
 refine Abs.Fn.of_c2 follows Ab (Nat.le_of_ble_eq_true rfl) ?_
 simp only [b73,cO,cG,cN,cM,cD,cF,cB,aB,aS]
 have w:IntKind.wrap .u64 (n:Int)=n:=fh (by omega) (by omega)
 (have zz:=@w; repeat' (first|refine zW ?_|apply a_n|refine zO ?_|refine vZ ?_|fail)) <;> (try clear zz)
 refine aV ev0 (have zz:=@w; evZ) (yz hn0 (by omega)) ?_
 rintro _ _ _ ⟨rfl,rfl,k,rfl,h3,h4⟩
 have hk:k ≤ 62:=by
  rcases Nat.lt_or_ge 62 k with h | h
  ·have:=Nat.pow_le_pow_right (n:=2) (by omega) h
   omega
  ·exact h
 (have zz:=and_self; repeat' (first|apply a_n|refine zO ?_|refine vZ ?_|fail)) <;> (try clear zz)
 refine aV ev0 (have zz:=@Int.natCast_zero; evZ) (AK hc hn2 (n + 1) 0 n k L _ _ (by omega) hH hbx hn hG (by omega) (Nat.le_refl _) (by omega) (fun q h=>by omega)) ?_
 rintro _ _ _ ⟨N,hps,hp,hs⟩
 (have zz:=and_self; repeat' (first|apply a_n|refine zO ?_|refine ak rfl ?_|fail)) <;> (try clear zz)
 exact ⟨N,hps,hp.perm,hs⟩
end
end Go.Proofs.Ytfcenbapjhecfaa
namespace Go.Proofs.Ytfcenbapjhecfaa
open Go Go.Abs
def _root_.List.c2 {α:Type} (l:List α) (f:α→AV):List AV:=l.flatMap fun x=>(f x).cells
structure Cmp2 {α:Type} (P:Program) (f:α→AV) (K:α→α→Int) (G:α→Prop) (g:Nat) (caps:List AV):Prop where
 len:∀ x,(f x).cells.length=2
 agg:∀ x,AV.agg (f x).cells=f x
 ones:∀ x,AV.ones (f x).cells=true
 dat:∀ x,Dat (f x)
 dcaps:∀ x ∈ caps,Dat x
 run:∀ x y,G x→G y→Go.Abs.Pure P g (f x :: f y :: caps) (.int .i64 (K x y))
 ord:Ord K
section
variable {α:Type} {f:α→AV} (h:∀ x,(f x).cells.length=2)
include h
end
section
variable {α:Type} [Inhabited α] {f:α→AV} {K:α→α→Int} {G:α→Prop} {g:Nat} {caps:List AV}
attribute [local irreducible] aD aj aX aP aH aK az aL aR bd Go.Abs.Fn aO Go.Abs.Pure av aF Yl
end
end Go.Proofs.Ytfcenbapjhecfaa
namespace Go.Proofs.Ytfcenbapjhecfaa
open Go Go.Abs
section
variable {α:Type} [Inhabited α] {f:α→AV} {K:α→α→Int} {G:α→Prop} {g:Nat} {caps:List AV}
attribute [local irreducible] aD aj aX aP aH aK az aL aR bd Go.Abs.Fn aO Go.Abs.Pure av aF Yl
end
end Go.Proofs.Ytfcenbapjhecfaa
namespace Go.Proofs.Ytfcenbapjhecfaa
open Go Go.Abs
section
variable {α:Type} [Inhabited α] {f:α→AV} {K:α→α→Int} {G:α→Prop} {g:Nat} {caps:List AV}
attribute [local irreducible] aD aj aX aP aH aK az aL aR bd Go.Abs.Fn aO Go.Abs.Pure av aF Yl
end
end Go.Proofs.Ytfcenbapjhecfaa
namespace Go.Proofs.Ytfcenbapjhecfaa
open Go Go.Abs
section
variable {α:Type} [Inhabited α] {f:α→AV} {K:α→α→Int} {G:α→Prop} {g:Nat} {caps:List AV}
attribute [local irreducible] aD aj aX aP aH aK az aL aR bd Go.Abs.Fn aO Go.Abs.Pure av aF Yl
end
end Go.Proofs.Ytfcenbapjhecfaa
namespace Go.Proofs.Ytfcenbapjhecfaa
open Go Go.Abs
section
variable {α:Type} [Inhabited α] {f:α→AV} {K:α→α→Int} {G:α→Prop} {g:Nat} {caps:List AV}
attribute [local irreducible] aD aj aX aP aH aK az aL aR bd Go.Abs.Fn aO Go.Abs.Pure av aF Yl
end
end Go.Proofs.Ytfcenbapjhecfaa
namespace Go.Proofs.Ytfcenbapjhecfaa
open Go Go.Abs
section
variable {α:Type} [Inhabited α] {f:α→AV} {K:α→α→Int} {G:α→Prop} {g:Nat} {caps:List AV}
attribute [local irreducible] aD aj aX aP aH aK az aL aR bd Go.Abs.Fn aO Go.Abs.Pure av aF Yl
end
end Go.Proofs.Ytfcenbapjhecfaa
namespace Go.Proofs.Ytfcenbapjhecfaa
open Go Go.Abs
section
variable {α:Type} [Inhabited α] {f:α→AV} {K:α→α→Int} {G:α→Prop} {g:Nat} {caps:List AV}
attribute [local irreducible] aD aj aX aP aH aK az aL aR bd Go.Abs.Fn aO Go.Abs.Pure av aF Yl
end
end Go.Proofs.Ytfcenbapjhecfaa
namespace Go.Proofs.Ytfcenbapjhecfaa
open Go Go.Abs
section
variable {α:Type} [Inhabited α] {f:α→AV} {K:α→α→Int} {G:α→Prop} {g:Nat} {caps:List AV}
attribute [local irreducible] aD aj aX aP aH aK az aL aR bd Go.Abs.Fn aO Go.Abs.Pure av aF Yl
end
end Go.Proofs.Ytfcenbapjhecfaa
namespace Go.Proofs.Ytfcenbapjhecfaa
open Go Go.Abs
section
variable {α:Type} [Inhabited α] {f:α→AV} {K:α→α→Int} {G:α→Prop} {g:Nat} {caps:List AV}
attribute [local irreducible] aD aj aX aP aH aK az aL aR bd Go.Abs.Fn aO Go.Abs.Pure av aF Yl
end
end Go.Proofs.Ytfcenbapjhecfaa
namespace Go.Proofs.Ytfcenbapjhecfaa
open Go Go.Abs
section
variable {α:Type} [Inhabited α] {f:α→AV} {K:α→α→Int} {G:α→Prop} {g:Nat} {caps:List AV}
attribute [local irreducible] aD aj aX aP aH aK az aL aR bd Go.Abs.Fn aO Go.Abs.Pure av aF Yl
end
end Go.Proofs.Ytfcenbapjhecfaa
namespace Go.Proofs.Ytfcenbapjhecfaa
open Go Go.Abs
theorem r8 {B n len k:Nat} (h:k ≤ len) (hn:n ≠ 0):ip 2 (.msl B n 2 0 len) none (some (.int .i64 k)) none=some (.msl B n 2 0 k):=by
 simp only [ip,bc,Int.natCast_nonneg,if_true,Int.toNat_natCast]
 rw [if_pos ⟨trivial,by omega,h,hn⟩,if_pos (.inl trivial),Nat.zero_mul,Nat.sub_zero]
theorem t7 {H:Hp} {B:Nat} {cs:List AV} (hH:H B=some cs):H=aq H B cs:=by
 funext b
 by_cases e:b=B
 ·subst e; rw [ah]; exact hH
 ·rw [af e]
attribute [local irreducible] aD aj aX aP aH aK az aL aR bd Go.Abs.Fn aO Go.Abs.Pure av aF Yl
end Go.Proofs.Ytfcenbapjhecfaa
namespace Go.Proofs.Ytfcenbapjhecfaa
open Go Go.Abs
theorem yI (a b:Vtx):jE (.st [.int,.int]) (bQ a) (bQ b)=some (decide (a=b)):=by
 show bN [.int,.int] [.int .i64 a.color,.int .i64 a.label] [.int .i64 b.color,.int .i64 b.label]=_
 rw [sK,p9]
theorem vC (v:Vtx) (ks:List Vtx):bG (.st [.int,.int]) (bQ v) (ks.map bQ)=some (if v ∈ ks then some (ks.idxOf v) else none):=ko _ bQ yI v ks
theorem vX (v:Vtx):eJ (.st [.int,.int]) (bQ v)=true:=rfl
def iq (l:List Spx) (i:Nat) (v:Vtx):List Nat:=(List.range i).filter fun k=>decide (v ∈ l.getD k default)
def js (l:List Spx) (i j:Nat) (v:Vtx):List Nat:=iq l i v ++ if v ∈ (l.getD i default).take j then [i] else []
theorem tZ {l:List Spx} {i:Nat} {v:Vtx}:iq l (i + 1) v=js l i (l.getD i default).length v:=by
 unfold iq js
 rw [List.range_succ,List.filter_append,List.take_length]
 congr 1
 by_cases h:v ∈ l.getD i default
 ·rw [if_pos h]; simp only [List.filter,h,decide_true]
 ·rw [if_neg h]; simp only [List.filter,h,decide_false]
theorem ut {l:List Spx} {i:Nat} {v:Vtx}:js l i 0 v=iq l i v:=by unfold js; simp
theorem u9 {l:List Spx} {i j:Nat} {v:Vtx} (hj:j < (l.getD i default).length) (ha:bo bv (l.getD i default)):js l i (j + 1) v=if v=(l.getD i default).getD j default then js l i j v ++ [i] else js l i j v:=by
 unfold js
 generalize l.getD i default=s at *
 rw [bB hj]
 by_cases h:v=s.getD j default
 ·have hn:v ∉ s.take j:=fun hm=>by
    obtain ⟨k,hk,e⟩:=List.getElem_of_mem hm
    rw [List.length_take] at hk
    rw [List.getElem_take] at e
    have:=ce ha (i:=k) (j:=j) (by omega) hj
    rw [← h,← e] at this
    have e2:s.getD k default=s[k]:=by simp [List.getD,show k < s.length by omega]
    rw [e2] at this
    exact sL.ord.irr _ this
  rw [if_pos h,if_neg hn,if_pos (by rw [List.mem_append,h]; simp)]
  simp
 ·rw [if_neg h]
  congr 1
  have e:v ∈ s.take j ++ [s.getD j default] ↔ v ∈ s.take j:=by rw [List.mem_append,List.mem_singleton]; exact ⟨fun h'=>h'.resolve_right h,.inl⟩
  by_cases h2:v ∈ s.take j
  ·rw [if_pos (e.2 h2),if_pos h2]
  ·rw [if_neg (fun h=>h2 (e.1 h)),if_neg h2]
def rX (i:Nat):AV:=.int .i64 (i:Int)
structure IncOk (H:Hp) (b lo hi:Nat) (F:Vtx→List Nat) (ks:List Vtx) (vs:List AV):Prop where
 box:H b=some [.omap (ks.map bQ) vs]
 len:vs.length=ks.length
 nodup:ks.Nodup
 dom:∀ v,v ∈ ks ↔ F v ≠ []
 row:∀ j,j < ks.length→Row H 1 (vs.getD j .undef) ((F (ks.getD j default)).map rX)
 bnd:∀ j B,j < ks.length→bT (vs.getD j .undef)=some B→lo ≤ B∧B < hi∧B ≠ b
 apart:∀ i j B,i < ks.length→j < ks.length→i ≠ j→bT (vs.getD i .undef)=some B→bT (vs.getD j .undef) ≠ some B
 lt:b < hi
theorem kI {l:List AV} {i j:Nat} {x:AV} (h:i < l.length):(l.set i x).getD j .undef=if i=j then x else l.getD j .undef:=by
 simp only [List.getD,List.getElem?_set]
 split
 ·rename_i e; subst e; simp [h]
 ·rfl
theorem qt {α:Type} {l m:List α} {j:Nat} {d:α} (h:j < l.length):(l ++ m).getD j d=l.getD j d:=by
 simp [List.getD,List.getElem?_append_left h]
theorem oH {α:Type} {l:List α} {x d:α}:(l ++ [x]).getD l.length d=x:=by simp [List.getD]
theorem pO {l:List Vtx} {v:Vtx} (h:v ∈ l):l.idxOf v < l.length∧l.getD (l.idxOf v) default=v:=by
 have h1:=List.idxOf_lt_length_iff.2 h
 exact ⟨h1,by simp [List.getD,h1]⟩
theorem uC {l:List Vtx} (h:l.Nodup) {i j:Nat} (hi:i < l.length) (hj:j < l.length) (e:l.getD i default=l.getD j default):i=j:=by
 have hp:=List.pairwise_iff_getElem.1 (List.nodup_iff_pairwise_ne.1 h)
 rw [show l.getD i default=l[i] by simp [List.getD,hi],show l.getD j default=l[j] by simp [List.getD,hj]] at e
 rcases Nat.lt_trichotomy i j with c | c | c
 ·exact absurd e (hp i j hi hj c)
 ·exact c
 ·exact absurd e.symm (hp j i hj hi c)
theorem IncOk.same {H H':Hp} {b lo hi hi':Nat} {F:Vtx→List Nat} {ks:List Vtx} {vs:List AV} (h:IncOk H b lo hi F ks vs) (hb:H' b=H b) (hs:∀ x,lo ≤ x→x < hi→x ≠ b→H' x=H x) (hh:hi ≤ hi'):IncOk H' b lo hi' F ks vs :=
 ⟨hb.trans h.box,h.len,h.nodup,h.dom,fun j hj=>(h.row j hj).same fun B hB=>by have:=h.bnd j B hj hB; exact hs B this.1 this.2.1 this.2.2,fun j B hj hB=>by have:=h.bnd j B hj hB; exact ⟨this.1,by omega,this.2.2⟩,h.apart,by have:=h.lt; omega⟩
theorem IncOk.put {H H':Hp} {b lo hi hi' i:Nat} {F G:Vtx→List Nat} {ks:List Vtx} {vs:List AV} {w:Vtx} {sv:AV} (h:IncOk H b lo hi F ks vs) (hw:w ∈ ks) (hG:∀ v,G v=if v=w then F v ++ [i] else F v) (hrow:Row H' 1 sv ((F w ++ [i]).map rX)) (hB:∀ B,bT sv=some B→bT (vs.getD (ks.idxOf w) .undef)=some B ∨ hi ≤ B∧B < hi'∧B ≠ b) (hb:H' b=some [.omap (ks.map bQ) (vs.set (ks.idxOf w) sv)])
    (hs:∀ x,lo ≤ x→x < hi→x ≠ b→bT (vs.getD (ks.idxOf w) .undef) ≠ some x→H' x=H x) (hh:hi ≤ hi') (hlo:lo ≤ hi):IncOk H' b lo hi' G ks (vs.set (ks.idxOf w) sv):=by
 obtain ⟨k1,k2⟩:=pO hw
 have hl:=h.len
 have hg:∀ j,(vs.set (ks.idxOf w) sv).getD j .undef=if ks.idxOf w=j then sv else vs.getD j .undef:=fun j=>kI (by omega)
 have hne:∀ j,j < ks.length→ks.idxOf w ≠ j→ks.getD j default ≠ w:=fun j hj hn e=>hn (uC h.nodup k1 hj (by rw [k2,e]))
 refine ⟨hb,by simp [hl],h.nodup,fun v=>?_,fun j hj=>?_,fun j B hj=>?_,fun p q B hp hq hpq=>?_,by have:=h.lt; omega⟩
 ·rw [hG,h.dom]
  by_cases e:v=w
  ·subst e
   rw [if_pos rfl]
   exact ⟨fun _=>by simp,fun _=>(h.dom v).1 hw⟩
  ·rw [if_neg e]
 ·rw [hg,hG]
  by_cases e:ks.idxOf w=j
  ·rw [if_pos e,if_pos (by rw [← e]; exact k2),← e,k2]; exact hrow
  ·rw [if_neg e,if_neg (hne j hj e)]
   exact (h.row j hj).same fun B hB'=>by
    have:=h.bnd j B hj hB'
    exact hs B this.1 this.2.1 this.2.2 fun h'=>h.apart (ks.idxOf w) j B k1 hj e h' hB'
 ·rw [hg]
  by_cases e:ks.idxOf w=j
  ·rw [if_pos e]
   intro hB'
   rcases hB B hB' with h' | h'
   ·have:=h.bnd _ B k1 h'; exact ⟨this.1,by omega,this.2.2⟩
   ·exact ⟨by omega,h'.2⟩
  ·rw [if_neg e]
   intro hB'
   have:=h.bnd j B hj hB'
   exact ⟨this.1,by omega,this.2.2⟩
 ·rw [hg,hg]
  by_cases e1:ks.idxOf w=p
  ·rw [if_pos e1,if_neg (by omega)]
   intro h1 h2
   rcases hB B h1 with h' | h'
   ·exact h.apart (ks.idxOf w) q B k1 hq (by omega) h' h2
   ·have:=h.bnd q B hq h2; omega
  ·rw [if_neg e1]
   by_cases e2:ks.idxOf w=q
   ·rw [if_pos e2]
    intro h1 h2
    rcases hB B h2 with h' | h'
    ·exact h.apart p (ks.idxOf w) B hp k1 (by omega) h1 h'
    ·have:=h.bnd p B hp h1; omega
   ·rw [if_neg e2]; exact h.apart p q B hp hq hpq
theorem IncOk.new {H H':Hp} {b lo hi hi' i:Nat} {F G:Vtx→List Nat} {ks:List Vtx} {vs:List AV} {w:Vtx} {sv:AV} (h:IncOk H b lo hi F ks vs) (hw:w ∉ ks) (hG:∀ v,G v=if v=w then F v ++ [i] else F v) (hrow:Row H' 1 sv ([i].map rX)) (hB:∀ B,bT sv=some B→hi ≤ B∧B < hi'∧B ≠ b) (hb:H' b=some [.omap ((ks ++ [w]).map bQ) (vs ++ [sv])])
    (hs:∀ x,lo ≤ x→x < hi→x ≠ b→H' x=H x) (hh:hi ≤ hi') (hlo:lo ≤ hi):IncOk H' b lo hi' G (ks ++ [w]) (vs ++ [sv]):=by
 have hl:=h.len
 have hF:F w=[]:=by
  cases hf:F w with
  | nil=>rfl
  | cons a r=>exact absurd ((h.dom w).2 (by rw [hf]; simp)) hw
 have g1:∀ j,j < ks.length→(ks ++ [w]).getD j default=ks.getD j default∧(vs ++ [sv]).getD j .undef=vs.getD j .undef:=fun j hj=>⟨qt hj,qt (by omega)⟩
 have g2:(ks ++ [w]).getD ks.length default=w∧(vs ++ [sv]).getD ks.length .undef=sv:=⟨oH,by rw [← hl]; exact oH⟩
 refine ⟨hb,by simp [hl],?_,fun v=>?_,fun j hj=>?_,fun j B hj=>?_,fun p q B hp hq hpq=>?_,by have:=h.lt; omega⟩
 ·rw [List.nodup_append]
  exact ⟨h.nodup,by simp,fun a ha c hc e=>by rw [List.mem_singleton] at hc; exact hw (by rw [← hc,← e]; exact ha)⟩
 ·rw [hG,List.mem_append,List.mem_singleton]
  by_cases e:v=w
  ·subst e; rw [if_pos rfl]; simp
  ·rw [if_neg e,← h.dom]; simp [e]
 ·rw [List.length_append,List.length_singleton] at hj
  by_cases e:j=ks.length
  ·subst e
   rw [g2.1,g2.2,hG,if_pos rfl,hF]; exact hrow
  ·obtain ⟨e1,e2⟩:=g1 j (by omega)
   have hne:ks.getD j default ≠ w:=fun e'=>hw (e' ▸ aQ (by omega))
   rw [e1,e2,hG,if_neg hne]
   exact (h.row j (by omega)).same fun B hB'=>by have:=h.bnd j B (by omega) hB'; exact hs B this.1 this.2.1 this.2.2
 ·rw [List.length_append,List.length_singleton] at hj
  by_cases e:j=ks.length
  ·subst e
   rw [g2.2]; intro hB'
   have:=hB B hB'; exact ⟨by omega,this.2⟩
  ·rw [(g1 j (by omega)).2]; intro hB'
   have:=h.bnd j B (by omega) hB'; exact ⟨this.1,by omega,this.2.2⟩
 ·rw [List.length_append,List.length_singleton] at hp hq
  by_cases e1:p=ks.length
  ·subst e1
   rw [g2.2,(g1 q (by omega)).2]
   intro h1 h2
   have:=hB B h1
   have:=h.bnd q B (by omega) h2
   omega
  ·rw [(g1 p (by omega)).2]
   by_cases e2:q=ks.length
   ·subst e2
    rw [g2.2]
    intro h1 h2
    have:=hB B h2
    have:=h.bnd p B (by omega) h1
    omega
   ·rw [(g1 q (by omega)).2]; exact h.apart p q B (by omega) (by omega) hpq
end Go.Proofs.Ytfcenbapjhecfaa
namespace Go.Proofs.Ytfcenbapjhecfaa
open Go Go.Abs
theorem bC {H:Hp} {d:Nat} {x:AV}:dl 1 (aq H d [x]) (.msl d 1 1 0 1)=some (1,[x]):=gR (n:=1) (len:=1) (off:=0) (cs:=[x]) ah rfl (by simp)
theorem qa {l:List Spx} {i:Nat} {v:Vtx}:(iq l i v).length ≤ i:=by
 unfold iq
 have:=List.length_filter_le (fun k=>decide (v ∈ l.getD k default)) (List.range i)
 rwa [List.length_range] at this
theorem wL {l:List Spx} {i j:Nat} {v:Vtx}:(js l i j v).length ≤ i + 1:=by
 unfold js
 have:=qa (l:=l) (i:=i) (v:=v)
 rw [List.length_append]
 split <;> simp <;> omega
attribute [local irreducible] aD aj aX aP aH aK az aL aR bd Go.Abs.Fn aO Go.Abs.Pure av aF Yl
set_option maxHeartbeats 2000000 in
theorem rB (l:List Spx) (hl:l.length ≤ 100000) (hs:∀ s ∈ l,bo bv s∧s.length ≤ 1000000) (H:Hp) (nx:Nat):Abs.Fn Try.prog 76 [ar l] H nx fun r H' nx'=>∃ ks vs,r=.mp nx∧IncOk H' nx nx nx' (iq l l.length) ks vs∧(∀ x,x < nx→H' x=H x)∧nx < nx':=by
 refine Abs.Fn.of_c2 follows BI (Nat.le_of_ble_eq_true rfl) ?_
 simp only [b76,cO,cG,cN,cM,cD,cF,cB,aB,aS]
 refine en ?_
 (have zz:=and_self; repeat' (first|apply a_n|refine zO ?_|refine vZ ?_|fail)) <;> (try clear zz)
 refine en ?_
 (have zz:=and_self; repeat' (first|apply a_n|refine zO ?_|fail)) <;> (try clear zz)
 refine yn ?_
 (have zz:=@ae; repeat' (first|refine zW ?_|apply a_n|refine zO ?_|refine vY ?_|fail)) <;> (try clear zz)
 refine ba (X:=Nat × List Vtx × List AV) (fun x=>[(3,.mp nx),(9,ar l),(10,.int .i64 l.length),(11,.int .i64 x.1)]) (fun x H' nx'=>x.1 ≤ l.length∧IncOk H' nx nx nx' (iq l x.1) x.2.1 x.2.2∧(∀ y,y < nx→H' y=H y)∧nx < nx') (fun x=>l.length - x.1) (0,[],[]) ⟨Nat.zero_le _,⟨ah,rfl,List.nodup_nil,fun v=>by simp [iq],fun j h=>absurd h (by simp),fun j B h=>absurd h (by simp),fun i j B h=>absurd h (by simp),by omega⟩,fun y hy=>af (by omega),by omega⟩ ag0 ?_
 rintro ⟨i,ks,vs⟩ H1 nx1 ⟨h1,h2,h3,h4⟩
 dsimp only at h1 h2 ⊢
 by_cases hi:i < l.length
 rotate_left
 ·obtain rfl:i=l.length:=by omega
  (have zz:=and_self; repeat' (first|refine zW ?_|apply a_n|apply a_x|refine zO ?_|refine vY ?_|(refine zGY ?_ ?_ <;> (intro _hg; try (exfalso; omega)))|refine ak rfl ?_|refine r1Y ?_|fail)) <;> (try clear zz)
  exact ⟨ks,vs,rfl,h2,h3,h4⟩
 have ix:=dp hi
 obtain ⟨hsa,hsl⟩:=hs _ (aQ hi)
 have hstep:=fun j v hj=>u9 (l:=l) (i:=i) (j:=j) (v:=v) hj hsa
 have hend:=fun v=>tZ (l:=l) (i:=i) (v:=v)
 have hlen:=fun j v=>wL (l:=l) (i:=i) (j:=j) (v:=v)
 have h20:IncOk H1 nx nx nx1 (js l i 0) ks vs:=by rw [show js l i 0=iq l i from funext fun v=>ut]; exact h2
 have hend':iq l (i + 1)=js l i (l.getD i default).length:=funext hend
 clear h2
 generalize l.getD i default=s at *
 (have zz:=aI @ix @ap; repeat' (first|refine zW ?_|apply a_n|refine zO ?_|refine vY ?_|(refine zGY ?_ ?_ <;> (intro _hg; try (exfalso; omega)))|fail)) <;> (try clear zz)
 refine ba (X:=Nat × List Vtx × List AV) (fun x=>[(3,.mp nx),(9,ar l),(10,.int .i64 l.length),(11,.int .i64 i),(4,.int .i64 i),(5,aw s),(16,aw s),(17,.int .i64 s.length),(18,.int .i64 x.1)]) (fun x H' nx'=>x.1 ≤ s.length∧IncOk H' nx nx nx' (js l i x.1) x.2.1 x.2.2∧(∀ y,y < nx→H' y=H y)∧nx < nx') (fun x=>s.length - x.1) (0,ks,vs) ⟨Nat.zero_le _,h20,h3,h4⟩ ag0 ?_
 clear h20 h3 h4
 rintro ⟨j,ks,vs⟩ H2 nx2 ⟨k1,k2,k3,k4⟩
 dsimp only at k1 k2 ⊢
 by_cases hj:j < s.length
 rotate_left
 ·obtain rfl:j=s.length:=by omega
  (have zz:=and_self; repeat' (first|refine zW ?_|apply a_n|apply a_x|refine zO ?_|refine vY ?_|(refine zGY ?_ ?_ <;> (intro _hg; try (exfalso; omega)))|fail)) <;> (try clear zz)
  exact ⟨(i + 1,ks,vs),by dsimp only; omega,⟨by dsimp only; omega,by dsimp only; rw [hend']; exact k2,k3,k4⟩,ag0⟩
 have iy:=ix2 hj
 have hG:=fun v=>hstep j v hj
 have hcl:=hlen j (s.getD j default)
 generalize s.getD j default=w at *
 (have zz:=@iy; repeat' (first|refine zW ?_|apply a_n|refine zO ?_|refine vY ?_|refine alY ?_|refine stY ?_|refine blY ?_|(refine zGY ?_ ?_ <;> (intro _hg; try (exfalso; omega)))|fail)) <;> (try clear zz)
 have g3:∀ x,x < nx2→aq (aq (aq H2 nx2 [.int .i64 0,.int .i64 0]) nx2 (br [.int .i64 0,.int .i64 0] 0 [.int .i64 w.color,.int .i64 w.label])) (nx2 + 1) [.int .i64 i] x=H2 x:=fun x hx=>by rw [af (by omega),af (by omega),af (by omega)]
 have g4:aq (aq (aq H2 nx2 [.int .i64 0,.int .i64 0]) nx2 (br [.int .i64 0,.int .i64 0] 0 [.int .i64 w.color,.int .i64 w.label])) (nx2 + 1) [.int .i64 i] (nx2 + 1)=some [.int .i64 i]:=ah
 generalize aq (aq (aq H2 nx2 [.int .i64 0,.int .i64 0]) nx2 (br [.int .i64 0,.int .i64 0] 0 [.int .i64 w.color,.int .i64 w.label])) (nx2 + 1) [.int .i64 i]=H3 at *
 have hmf:=vC w ks
 have hkl:(ks.map bQ).length=ks.length:=List.length_map ..
 by_cases hw:w ∈ ks
 ·rw [if_pos hw] at hmf
  obtain ⟨m1,m2⟩:=pO hw
  have hr:=k2.row (ks.idxOf w) m1
  rw [m2] at hr
  refine wF ev0 ((g3 nx (by omega)).trans k2.box) ev0 (vX w) hmf ?_
  have g5:∀ x,x < nx2→x ≠ nx→aq H3 nx [.omap (bx (bQ w) (some (ks.idxOf w)) (ks.map bQ)) (gz .esl (some (ks.idxOf w)) vs)] x=H2 x:=fun x hx hn=>by rw [af hn,g3 x hx]
  have g6:aq H3 nx [.omap (bx (bQ w) (some (ks.idxOf w)) (ks.map bQ)) (gz .esl (some (ks.idxOf w)) vs)] nx=some [.omap (ks.map bQ) vs]:=ah
  have g7:aq H3 nx [.omap (bx (bQ w) (some (ks.idxOf w)) (ks.map bQ)) (gz .esl (some (ks.idxOf w)) vs)] (nx2 + 1)=some [.int .i64 i]:=by rw [af (by omega)]; exact g4
  generalize aq H3 nx [.omap (bx (bQ w) (some (ks.idxOf w)) (ks.map bQ)) (gz .esl (some (ks.idxOf w)) vs)]=H4 at *
  rw [show rQ .esl (some (ks.idxOf w)) vs=vs.getD (ks.idxOf w) .undef from rfl,show qz (some (ks.idxOf w)) (ks.map bQ)=ks.idxOf w from rfl]
  (have zz:=and_self; repeat' (first|apply a_n|refine zO ?_|refine vY ?_|fail)) <;> (try clear zz)
  refine dK (k:=1) (new:=[.int .i64 i]) rfl ev0 (hr.same fun B hB=>?_) ev0 (gR (n:=1) (len:=1) (off:=0) g7 rfl (by omega)) rfl rfl Nat.one_pos (by rw [List.length_map]; omega) (by rw [List.length_map]; omega) ?_
  ·have:=k2.bnd _ B m1 hB
   exact g5 B this.2.1 this.2.2
  rintro s2 H5 nx5 hr5 i1 i2 i3 i4
  (have zz:=and_self; repeat' (first|apply a_n|refine zO ?_|refine vY ?_|fail)) <;> (try clear zz)
  refine vP ev0 ((i3 nx (by omega) (fun h=>(k2.bnd _ nx m1 h).2.2 rfl)).trans g6) ev0 (by rw [hkl]; exact m1) ev0 ?_
  (have zz:=and_self; repeat' (first|apply a_n|refine zO ?_|refine vY ?_|fail)) <;> (try clear zz)
  refine ⟨(j + 1,ks,vs.set (ks.idxOf w) s2),by dsimp only; omega,⟨by dsimp only; omega,IncOk.put k2 hw hG ?_ (fun B hB=>?_) ah (fun x hx hx2 hxn hxr=>?_) (by omega) (by omega),fun y hy=>?_,by omega⟩,ag0⟩
  ·rw [List.map_append]
   exact hr5.same fun B hB=>af fun e=>by
    rcases i4 B hB with h | h
    ·exact (k2.bnd _ B m1 h).2.2 e
    ·omega
  ·rcases i4 B hB with h | h
   ·exact .inl h
   ·exact .inr (by omega)
  ·rw [af hxn,i3 x (by omega) hxr,g5 x hx2 hxn]
  ·rw [af (by omega),i3 y (by omega) (fun h=>by have:=k2.bnd _ y m1 h; omega),g5 y (by omega) (by omega)]; exact k3 y hy
 ·rw [if_neg hw] at hmf
  refine wF ev0 ((g3 nx (by omega)).trans k2.box) ev0 (vX w) hmf ?_
  have g5:∀ x,x < nx2→x ≠ nx→aq H3 nx [.omap (bx (bQ w) none (ks.map bQ)) (gz .esl none vs)] x=H2 x:=fun x hx hn=>by rw [af hn,g3 x hx]
  have g6:aq H3 nx [.omap (bx (bQ w) none (ks.map bQ)) (gz .esl none vs)] nx=some [.omap (ks.map bQ ++ [bQ w]) (vs ++ [.esl])]:=ah
  have g7:aq H3 nx [.omap (bx (bQ w) none (ks.map bQ)) (gz .esl none vs)] (nx2 + 1)=some [.int .i64 i]:=by rw [af (by omega)]; exact g4
  generalize aq H3 nx [.omap (bx (bQ w) none (ks.map bQ)) (gz .esl none vs)]=H4 at *
  rw [show rQ .esl none vs=.esl from rfl,show qz none (ks.map bQ)=ks.length from hkl]
  (have zz:=and_self; repeat' (first|apply a_n|refine zO ?_|refine vY ?_|fail)) <;> (try clear zz)
  refine dK (k:=1) (new:=[.int .i64 i]) (cs:=[]) rfl ev0 Row.nil ev0 (gR (n:=1) (len:=1) (off:=0) g7 rfl (by omega)) rfl rfl Nat.one_pos (by simp) (by simp) ?_
  rintro s2 H5 nx5 hr5 i1 i2 i3 i4
  have i4':∀ B,bT s2=some B→B=nx2 + 1 + 1∧nx5=nx2 + 1 + 1 + 1:=fun B hB=>(i4 B hB).elim (fun h=>by cases h) id
  (have zz:=and_self; repeat' (first|apply a_n|refine zO ?_|refine vY ?_|fail)) <;> (try clear zz)
  refine vP (i:=ks.length) ev0 ((i3 nx (by omega) (fun h=>by cases h)).trans g6) ev0 (by rw [List.length_append,hkl]; simp) ev0 ?_
  have hset:(vs ++ [AV.esl]).set ks.length s2=vs ++ [s2]:=by rw [← k2.len]; simp
  rw [hset]
  (have zz:=and_self; repeat' (first|apply a_n|refine zO ?_|refine vY ?_|fail)) <;> (try clear zz)
  refine ⟨(j + 1,ks ++ [w],vs ++ [s2]),by dsimp only; omega,⟨by dsimp only; omega,IncOk.new k2 hw hG ?_ (fun B hB=>?_) (by rw [List.map_append]; exact ah) (fun x hx hx2 hxn=>?_) (by omega) (by omega),fun y hy=>?_,by omega⟩,ag0⟩
  ·exact hr5.same fun B hB=>af (by have:=i4' B hB; omega)
  ·have:=i4' B hB; omega
  ·rw [af hxn,i3 x (by omega) (fun h=>by cases h),g5 x hx2 hxn]
  ·rw [af (by omega),i3 y (by omega) (fun h=>by cases h),g5 y (by omega) (by omega)]; exact k3 y hy
end Go.Proofs.Ytfcenbapjhecfaa
namespace Go.Proofs.Ytfcenbapjhecfaa
open Go Go.Abs
def bM (l:List Spx) (s:Spx):Bool:=l.any fun t=>decide (s.length < t.length) && cU s t
def kd (c:List Spx) (k:Nat):Int:=if bj (c.getD k default) ≠ 0 then bj (c.getD k default) else if 0 < k∧0 ≤ aM (c.getD (k - 1) default) (c.getD k default) then 14 else 0
def be (c:List Spx):Int:=if 4096 < c.length then 5 else if b4 (kd c) c.length ≠ 0 then b4 (kd c) c.length else if c.any (bM c)=true then 7 else 0
theorem dC {a b:Spx}:cU a b=true ↔ ∀ v ∈ a,v ∈ b:=by
 unfold cU; rw [List.all_eq_true]
 exact ⟨fun h v hv=>of_decide_eq_true (h v hv),fun h v hv=>decide_eq_true (h v hv)⟩
theorem jp {l:List Spx} {s:Spx}:bM l s=true ↔ ∃ t ∈ l,s.length < t.length∧∀ v ∈ s,v ∈ t:=by
 unfold bM; rw [List.any_eq_true]
 constructor
 ·rintro ⟨t,ht,h⟩
  rw [Bool.and_eq_true,decide_eq_true_iff,dC] at h
  exact ⟨t,ht,h⟩
 ·rintro ⟨t,ht,h⟩
  exact ⟨t,ht,by rw [Bool.and_eq_true,decide_eq_true_iff,dC]; exact h⟩
theorem yG {a b:Spx} (ha:bo bv a) (hb:bo bv b) (h:∀ v ∈ a,v ∈ b) (hne:a ≠ b):a.length < b.length:=by
 have h1:a.length ≤ b.length:=List.Nodup.length_le_of_subset (ha.nodup sL) h
 rcases Nat.lt_or_ge a.length b.length with h2 | h2
 ·exact h2
 ·exfalso
  refine hne (kJ sL ha hb fun x=>⟨h x,fun hx=>Decidable.byContradiction fun hn=>?_⟩)
  have h3:(x :: a).length ≤ b.length:=List.Nodup.length_le_of_subset (List.nodup_cons.2 ⟨hn,ha.nodup sL⟩) fun y hy=>by
   rcases List.mem_cons.1 hy with rfl | hy
   ·exact hx
   ·exact h y hy
  rw [List.length_cons] at h3
  omega
theorem sI {c:List Spx} (h:b4 (kd c) c.length=0):(∀ s ∈ c,bj s=0)∧bo aM c:=by
 have hz:=eU h
 have h3:∀ k,k < c.length→bj (c.getD k default)=0∧(0 < k→aM (c.getD (k - 1) default) (c.getD k default) < 0):=fun k hk=>by
  have:=hz k hk
  unfold kd at this
  split at this
  ·exact absurd this ‹_›
  rename_i g1
  split at this
  ·exact absurd this (by decide)
  rename_i g2
  exact ⟨Decidable.of_not_not g1,fun h0=>by omega⟩
 constructor
 ·intro s hs
  obtain ⟨i,hi,rfl⟩:=List.getElem_of_mem hs
  have:=(h3 i hi).1
  rwa [show c.getD i default=c[i] by simp [List.getD,hi]] at this
 ·have step:∀ j i,i < j→j < c.length→aM (c.getD i default) (c.getD j default) < 0:=by
    intro j
    induction j with
    | zero=>intro i h; omega
    | succ j ih =>
     intro i hi hj
     have hs:=(h3 (j + 1) hj).2 (by omega)
     rw [Nat.add_sub_cancel] at hs
     by_cases e:i=j
     ·subst e; exact hs
     ·exact gS.trans (ih i (by omega) (by omega)) hs
  unfold bo
  rw [List.pairwise_iff_getElem]
  intro i j hi hj hij
  have:=step j i hij hj
  simpa [List.getD,hi,hj] using this
theorem fT {c:List Spx} (h:be c=0):c.length ≤ 4096∧(∀ s ∈ c,bj s=0)∧bo aM c∧∀ s ∈ c,bM c s=false:=by
 unfold be at h
 split at h
 ·exact absurd h (by decide)
 split at h
 ·exact absurd h ‹_›
 split at h
 ·exact absurd h (by decide)
 rename_i h1 h2 h3
 have:=sI (Decidable.of_not_not h2)
 refine ⟨by omega,this.1,this.2,fun s hs=>?_⟩
 cases hc:bM c s
 ·rfl
 ·exact absurd (List.any_eq_true.2 ⟨s,hs,hc⟩) h3
theorem xL {l:List Spx} {s:Spx} {p:Spx→Bool} (h0:0 < s.length) (hp:∀ t,p t=true→s.getD 0 default ∈ t):((iq l l.length (s.getD 0 default)).map fun (n:Nat)=>(n:Int)).any (fun i=>p (l.getD i.toNat default))=l.any p:=by
 rw [Bool.eq_iff_iff,List.any_eq_true,List.any_eq_true]
 constructor
 ·rintro ⟨x,hx,h⟩
  obtain ⟨n,hn,rfl⟩:=List.mem_map.1 hx
  unfold iq at hn
  obtain ⟨h1,_⟩:=List.mem_filter.1 hn
  rw [Int.toNat_natCast] at h
  exact ⟨_,aQ (List.mem_range.1 h1),h⟩
 ·rintro ⟨t,ht,h⟩
  obtain ⟨i,hi,rfl⟩:=List.getElem_of_mem ht
  have e:l.getD i default=l[i]:=by simp [List.getD,hi]
  refine ⟨(i:Int),List.mem_map.2 ⟨i,List.mem_filter.2 ⟨List.mem_range.2 hi,decide_eq_true ?_⟩,rfl⟩,?_⟩
  ·rw [e]; exact hp _ h
  ·rw [Int.toNat_natCast,e]; exact h
attribute [local irreducible] aD aj aX aP aH aK az aL aR bd Go.Abs.Fn aO Go.Abs.Pure av aF Yl
theorem uB (l:List Int) (p:Int→Bool) (g:Nat) (caps:List AV) (hd:∀ x ∈ caps,Dat x) (hg:∀ x ∈ l,Pure Try.prog g (.int .i64 x :: caps) (.bool (p x))) (hl:Shn l):Pure Try.prog 108 [bg l,.func g caps] (.int .i64 (if l.any p then (l.findIdx p:Nat) else -1)):=by
 refine Pure.of_c2 follows A0 (Nat.le_of_ble_eq_true rfl) ?_
 simp only [zK,cO,cG,cN,cM,cD,cF,cB,aB,aS]
 have hl':l.length ≤ 17592186044416:=hl
 (have zz:=and_self; repeat' (first|refine zW ?_|apply a_n|refine zO ?_|refine vZ ?_|fail)) <;> (try clear zz)
 refine ba (X:=Nat) (fun k=>[(0,bg l),(1,.func g caps),(6,bg l),(7,.int .i64 l.length),(8,.int .i64 k)]) (fun k H nx=>k ≤ l.length∧∀ i,i < k→p (l.getD i default)=false) (fun k=>l.length - k) 0 ⟨Nat.zero_le _,fun i h=>absurd h (by omega)⟩ ag0 ?_
 rintro k H nx ⟨hk,hz⟩
 by_cases hk2:k < l.length
 rotate_left
 ·rw [kL fun i hi=>hz i (by omega),if_neg (by decide)]
  (have zz:=and_self; repeat' (first|refine zW ?_|apply a_n|apply a_x|refine zO ?_|refine vY ?_|(refine zGY ?_ ?_ <;> (intro _hg; try (exfalso; omega)))|refine ak rfl ?_|refine r1Y ?_|fail)) <;> (try clear zz)
  exact co rfl
 have hc:=hg _ (aJ hk2)
 cases hp:p (l.getD k default)
 ·rw [hp] at hc
  (have zz:=and_self; repeat' (first|refine zW ?_|apply a_n|refine zO ?_|refine vY ?_|(refine zGY ?_ ?_ <;> (intro _hg; try (exfalso; omega)))|fail)) <;> (try clear zz)
  refine bP ev0 ev0 hc (ag (ao (.int _ _) (aU hd))) ?_
  (have zz:=and_self; repeat' (first|apply a_n|refine zO ?_|refine vY ?_|refine cFY ?_|fail)) <;> (try clear zz)
  exact ⟨k + 1,by omega,⟨by omega,fun i hi=>by
   rcases Nat.lt_succ_iff_lt_or_eq.1 hi with h | rfl
   ·exact hz i h
   ·exact hp⟩,ag0⟩
 ·rw [hp] at hc
  obtain ⟨e1,e2⟩:=qm hk2 hz hp
  rw [e1,e2,if_pos rfl]
  (have zz:=and_self; repeat' (first|refine zW ?_|apply a_n|refine zO ?_|refine vY ?_|(refine zGY ?_ ?_ <;> (intro _hg; try (exfalso; omega)))|fail)) <;> (try clear zz)
  refine bP ev0 ev0 hc (ag (ao (.int _ _) (aU hd))) ?_
  (have zz:=and_self; repeat' (first|refine zW ?_|apply a_n|apply a_r|refine zO ?_|refine vY ?_|refine cTY ?_|refine ak rfl ?_|refine r1Y ?_|fail)) <;> (try clear zz)
  exact .int _ _
theorem pW (l:List Int) (p:Int→Bool) (g:Nat) (caps:List AV) (hd:∀ x ∈ caps,Dat x) (hg:∀ x ∈ l,Pure Try.prog g (.int .i64 x :: caps) (.bool (p x))) (hl:Shn l):Pure Try.prog 91 [bg l,.func g caps] (.bool (l.any p)):=by
 refine Pure.of_c2 follows BT (Nat.le_of_ble_eq_true rfl) ?_
 simp only [b91,cO,cG,cN,cM,cD,cF,cB,aB,aS]
 have h:=uB l p g caps hd hg hl
 (have zz:=and_self; repeat' (first|refine zW ?_|apply a_n|refine zO ?_|refine vZ ?_|refine cZ ?_ (hp:=h) (hs:=by (first | refine ac ?_ rfl | apply ag); (repeat' (first | exact aa | apply an | apply ai | exact dr _ | exact Dat.func hd)); first | done | fail)|refine ak rfl ?_|refine r1Z ?_|fail)) <;> (try clear zz)
 cases hA:l.any p
 ·exact bt (by simp)
 ·exact bt (by simp)
def OkS (l:List Spx):Prop:=l.length ≤ 100000∧∀ s ∈ l,bo bv s∧s.length ≤ 1000
theorem su (l:List Spx) (s:Spx) (i:Nat) (hl:OkS l) (hs:bo bv s∧s.length ≤ 1000) (hi:i < l.length):Pure Try.prog 92 [.int .i64 i,.iptr [ar l] 0,.iptr [aw s] 0] (.bool (decide (s.length < (l.getD i default).length) && cU s (l.getD i default))):=by
 refine Pure.of_c2 follows BW (Nat.le_of_ble_eq_true rfl) ?_
 simp only [b92,cO,cG,cN,cM,cD,cF,cB,aB,aS]
 have ix:=dp hi
 obtain ⟨t1,t2⟩:=hl.2 _ (aQ hi)
 have hf:=zm s (l.getD i default) hs.1 t1 (by omega) (by omega)
 generalize l.getD i default=t at *
 by_cases h:s.length < t.length
 ·have z:decide ((s.length:Int) < t.length)=true:=decide_eq_true (by omega)
  rw [decide_eq_true h,Bool.true_and]
  (have zz:=aI @ap (aI @ix @z); repeat' (first|refine zW ?_|refine zM ?_|apply a_n|refine zO ?_|refine vZ ?_|refine cZ ?_ (hp:=hf) (hs:=by (first | refine ac ?_ rfl | apply ag); (repeat' (first | exact aa | apply an | apply ai | exact ay _)); first | done | fail)|refine gTZ ?_|refine ak rfl ?_|refine r1Z ?_|fail)) <;> (try clear zz)
  exact .bool _
 ·have z:decide ((s.length:Int) < t.length)=false:=decide_eq_false (by omega)
  rw [decide_eq_false h,Bool.false_and]
  (have zz:=aI @ap (aI @ix @z); repeat' (first|refine zW ?_|refine zM ?_|apply a_n|refine zO ?_|refine vZ ?_|refine gFZ ?_|refine ak rfl ?_|refine r1Z ?_|fail)) <;> (try clear zz)
  exact .bool _
theorem uy (l:List Spx) (s:Spx) (hl:OkS l) (hs:bo bv s∧s.length ≤ 1000) (h0:0 < s.length):Pure Try.prog 77 [ar l,bg ((iq l l.length (s.getD 0 default)).map fun (n:Nat)=>(n:Int)),aw s] (.bool (bM l s)):=by
 refine Pure.of_c2 follows BO (Nat.le_of_ble_eq_true rfl) ?_
 simp only [b77,cO,cG,cN,cM,cD,cF,cB,aB,aS]
 have hll:=hl.1
 have h:=pW ((iq l l.length (s.getD 0 default)).map fun (n:Nat)=>(n:Int)) (fun i=>decide (s.length < (l.getD i.toNat default).length) && cU s (l.getD i.toNat default)) 92 [.iptr [ar l] 0,.iptr [aw s] 0] (DatL.cons (Dat.iptr (DatL.cons (aC _) DatL.nil)) (DatL.cons (Dat.iptr (DatL.cons (ay _) DatL.nil)) DatL.nil)) (fun x hx=>by
  obtain ⟨n,hn,rfl⟩:=List.mem_map.1 hx
  have hn2:n < l.length:=List.mem_range.1 (List.mem_filter.1 hn).1
  rw [Int.toNat_natCast]
  exact su l s n hl hs hn2) (by rw [Shn,List.length_map]; have:=qa (l:=l) (i:=l.length) (v:=s.getD 0 default); omega)
 rw [xL (p:=fun t=>decide (s.length < t.length) && cU s t) h0 (fun t ht=>by
  rw [Bool.and_eq_true,dC] at ht
  exact ht.2 _ (aQ h0))] at h
 (have zz:=aI @au (aI @am (aI @aA @ax)); repeat' (first|refine zW ?_|apply a_n|refine zO ?_|refine vZ ?_|refine bxZ ?_|fail)) <;> (try clear zz)
 refine bP (have zz:=aI @au (aI @am (aI @aA @ax)); evZ) (have zz:=aI @au (aI @am (aI @aA @ax)); evZ) h (ac (ao (dr _ _) (ao (uA (ao (qE rfl rfl (ao (aC _ _) aa)) (ao (qE rfl rfl (ao (ay _ _) aa)) aa))) aa)) rfl) ?_
 (have zz:=and_self; repeat' (first|apply a_n|refine zO ?_|refine vZ ?_|refine ak rfl ?_|refine r1Z ?_|fail)) <;> (try clear zz)
 exact .bool _
end Go.Proofs.Ytfcenbapjhecfaa
namespace Go.Proofs.Ytfcenbapjhecfaa
open Go Go.Abs
theorem wh {H:Hp} {sv:AV} {F:List Nat} (h:Row H 1 sv (F.map rX)):Snap H sv (bg (F.map fun (n:Nat)=>(n:Int))):=by
 refine Row.snapI ?_
 rw [List.map_map]; exact h
theorem nB {c:List Spx} {k:Nat}:kd c k=if bj (c.getD k default) ≠ 0 then bj (c.getD k default) else if 0 < k∧0 ≤ aM (c.getD (k - 1) default) (c.getD k default) then 14 else 0:=rfl
theorem wu {c:List Spx} (h1:c.length ≤ 4096) (h:∀ s ∈ c,bj s=0):OkS c:=⟨by omega,fun s hs=>by
 obtain ⟨a1,a2,a3,a4⟩:=cz (h s hs)
 exact ⟨a3,by omega⟩⟩
theorem i7 {H:Hp} {b:Nat} {cs:List AV} (h:H b=some cs):Sub (only b cs) H:=fun x c hx=>by
 unfold only at hx
 split at hx
 ·rename_i e; rw [e,h]; exact hx
 ·cases hx
def on2 (b1:Nat) (c1:List AV) (b2:Nat) (c2:List AV):Hp:=fun x=>if x=b1 then some c1 else if x=b2 then some c2 else none
theorem yo {b1 b2:Nat} {c1 c2:List AV}:on2 b1 c1 b2 c2 b1=some c1:=if_pos rfl
theorem yp {b1 b2:Nat} {c1 c2:List AV} (h:b2 ≠ b1):on2 b1 c1 b2 c2 b2=some c2:=by unfold on2; rw [if_neg h,if_pos rfl]
theorem pi {b1 b2:Nat} {c1 c2:List AV} {H:Hp} (h1:H b1=some c1) (h2:H b2=some c2):Sub (on2 b1 c1 b2 c2) H:=fun x cs h=>by
 unfold on2 at h
 split at h
 ·rename_i e; rw [e,h1]; exact h
 ·split at h
  ·rename_i e; rw [e,h2]; exact h
  ·cases h
theorem mb {P:Program} {T:Tm} {H:Hp} {nx:Nat} (b1 b2:Nat) {c1 c2:List AV} {K:CP} {m:Nat} {l:List Op2} {C:List (Nat × Nat)} (h1:H b1=some c1) (h2:H b2=some c2) (hne:b2 ≠ b1) (k:∀ S:Hp,S b1=some c1→S b2=some c2→(∀ H':Hp,H' b1=some c1→H' b2=some c2→Sub S H')→a6 P S (C.map fun k=>(l.getD k.1 ⟨none,none,.dead⟩,k.2)) T H nx fun T H nx=>K .normal T H nx):aD P (.mixS m l C) T H nx K :=
 pE (on2 b1 c1 b2 c2) rfl (pi h1 h2) (k _ yo (yp hne) fun _ a b=>pi a b)
theorem mH {P:Program} {T:Tm} {H:Hp} {nx:Nat} (b:Nat) {c:List AV} {K:CP} {m:Nat} {l:List Op2} {C:List (Nat × Nat)} (h:H b=some c) (k:∀ S:Hp,S b=some c→(∀ H':Hp,H' b=some c→Sub S H')→a6 P S (C.map fun k=>(l.getD k.1 ⟨none,none,.dead⟩,k.2)) T H nx fun T H nx=>K .normal T H nx):aD P (.mixS m l C) T H nx K :=
 pE (only b c) rfl (i7 h) (k _ jK fun _ h=>i7 h)
attribute [local irreducible] aD aj aX aP aH aK az aL aR bd Go.Abs.Fn aO Go.Abs.Pure av aF Yl
set_option maxHeartbeats 2000000 in
theorem nA (c:List Spx) (hc:Shn c) (hs:∀ s ∈ c,Shn s):Pure Try.prog 49 [fc c] (.int .i64 (be c)):=by
 refine Pure.of_c2 follows BV (Nat.le_of_ble_eq_true rfl) ?_
 simp only [b49,cO,cG,cN,cM,cD,cF,cB,aB,aS]
 have hc':c.length ≤ 17592186044416:=hc
 by_cases h0:4096 < c.length
 ·rw [show be c=5 by unfold be; rw [if_pos h0]]
  (have zz:=aI @ae (aI @au @am); repeat' (first|refine zW ?_|apply a_n|apply a_r|refine zO ?_|refine vZ ?_|refine bxZ ?_|(refine zGZ ?_ ?_ <;> (intro _hg; try (exfalso; omega)))|refine ak rfl ?_|refine r1Z ?_|fail)) <;> (try clear zz)
  all_goals exact co rfl
 rw [show be c=if b4 (kd c) c.length ≠ 0 then b4 (kd c) c.length else if c.any (bM c)=true then 7 else 0 by unfold be; rw [if_neg h0]]
 refine en ?_
 (have zz:=aI @ae (aI @au @am); repeat' (first|apply a_n|refine zO ?_|refine vZ ?_|refine bxZ ?_|fail)) <;> (try clear zz)
 refine en (en ?_)
 (have zz:=aI @ae (aI @au @am); repeat' (first|apply a_n|refine zO ?_|refine vZ ?_|(refine zGZ ?_ ?_ <;> (intro _hg; try (exfalso; omega)))|fail)) <;> (try clear zz)
 by_cases hz:b4 (kd c) c.length ≠ 0
 ·rw [if_pos hz]
  (have zz:=aI @ae (aI @au @am); repeat' (first|refine zW ?_|apply a_n|refine zO ?_|refine vZ ?_|fail)) <;> (try clear zz)
  refine ba (X:=Nat) (fun k=>[(1,.ptr 0 1 0),(14,ar c),(15,.int .i64 c.length),(16,.int .i64 k)]) (fun k H nx=>k ≤ c.length∧H 0=some [ar c]∧∀ i,i < k→kd c i=0) (fun k=>c.length - k) 0 ⟨Nat.zero_le _,rfl,fun i h=>absurd h (by omega)⟩ (by (iterate 4 refine And.intro rfl ?_); trivial) ?_
  rintro k H nx ⟨h1,g0,h2⟩
  by_cases hk:k < c.length
  rotate_left
  ·exact absurd (cu fun i hi=>h2 i (by omega)) hz
  have ix:=dp hk
  have hs1:=hs _ (aQ hk)
  have hp:=jN (c.getD k default) hs1
  have hsp:=nB (c:=c) (k:=k)
  by_cases he:bj (c.getD k default) ≠ 0
  ·rw [if_pos he] at hsp
   rw [bL hk h2 (by rw [hsp]; exact he),hsp]
   have z:decide (bj (c.getD k default) ≠ 0)=true:=decide_eq_true he
   (have zz:=aI @ae (aI @ix @z); repeat' (first|refine zW ?_|apply a_n|apply a_r|refine zO ?_|refine vY ?_|refine cY ?_ (hp:=hp) (hs:=by (first | refine ac ?_ rfl | apply ag); (repeat' (first | exact aa | apply an | apply ai | exact ay _)); first | done | fail)|refine cTY ?_|(refine zGY ?_ ?_ <;> (intro _hg; try (exfalso; omega)))|refine ak rfl ?_|refine r1Y ?_|fail)) <;> (try clear zz)
   exact .int _ _
  rw [if_neg he] at hsp
  have he:=Decidable.of_not_not he
  rw [he] at hp
  have z:decide ((0:Int) ≠ 0)=false:=rfl
  by_cases hk0:0 < k
  rotate_left
  ·rw [if_neg (fun h=>hk0 h.1)] at hsp
   have zk:decide (0 < (k:Int))=false:=decide_eq_false (by omega)
   (have zz:=aI @ae (aI @ix (aI @z @zk)); repeat' (first|refine zW ?_|apply a_n|refine zO ?_|refine vY ?_|refine cY ?_ (hp:=hp) (hs:=by (first | refine ac ?_ rfl | apply ag); (repeat' (first | exact aa | apply an | apply ai | exact ay _)); first | done | fail)|refine gFY ?_|refine cFY ?_|(refine zGY ?_ ?_ <;> (intro _hg; try (exfalso; omega)))|fail)) <;> (try clear zz)
   exact ⟨k + 1,by omega,⟨by omega,g0,fun i hi=>by
    rcases Nat.lt_succ_iff_lt_or_eq.1 hi with h' | rfl
    ·exact h2 i h'
    ·exact hsp⟩,ag0⟩
  have zk:decide (0 < (k:Int))=true:=decide_eq_true (by omega)
  have iy:cR 1 (ar c) (.int .i64 ((k:Int) - 1))=some (.iptr [aw (c.getD (k - 1) default)] 0):=by
   have:=dp (l:=c) (k:=k - 1) (by omega)
   rwa [show ((k - 1:Nat):Int)=(k:Int) - 1 by omega] at this
  have hcm:=dR (c.getD (k - 1) default) (c.getD k default) (hs _ (aQ (by omega))) hs1
  by_cases hv:0 ≤ aM (c.getD (k - 1) default) (c.getD k default)
  ·have z2:decide (0 ≤ aM (c.getD (k - 1) default) (c.getD k default))=true:=decide_eq_true hv
   rw [if_pos ⟨hk0,hv⟩] at hsp
   rw [bL hk h2 (by rw [hsp]; decide),hsp]
   (have zz:=aI @ae (aI @ix (aI @iy (aI @z (aI @zk (aI @z2 @g0))))); repeat' (first|refine zW ?_|apply a_n|apply a_r|refine zO ?_|refine vY ?_|refine cY ?_ (hp:=by first | exact hp | exact hcm) (hs:=by (first | refine ac ?_ rfl | apply ag); (repeat' (first | exact aa | apply an | apply ai | exact ay _)); first | done | fail)|refine gTY ?_|refine cTY ?_|refine cFY ?_|(refine zGY ?_ ?_ <;> (intro _hg; try (exfalso; omega)))|refine ak rfl ?_|refine r1Y ?_|fail)) <;> (try clear zz)
   exact .int _ _
  ·have z2:decide (0 ≤ aM (c.getD (k - 1) default) (c.getD k default))=false:=decide_eq_false hv
   rw [if_neg (fun h=>hv h.2)] at hsp
   (have zz:=aI @ae (aI @ix (aI @iy (aI @z (aI @zk (aI @z2 @g0))))); repeat' (first|refine zW ?_|apply a_n|refine zO ?_|refine vY ?_|refine cY ?_ (hp:=by first | exact hp | exact hcm) (hs:=by (first | refine ac ?_ rfl | apply ag); (repeat' (first | exact aa | apply an | apply ai | exact ay _)); first | done | fail)|refine gTY ?_|refine cFY ?_|(refine zGY ?_ ?_ <;> (intro _hg; try (exfalso; omega)))|fail)) <;> (try clear zz)
   exact ⟨k + 1,by omega,⟨by omega,g0,fun i hi=>by
    rcases Nat.lt_succ_iff_lt_or_eq.1 hi with h' | rfl
    ·exact h2 i h'
    ·exact hsp⟩,ag0⟩
 have hz:=Decidable.of_not_not hz
 rw [if_neg (fun h=>h hz)]
 obtain ⟨a1,a2⟩:=sI hz
 have hall:=eU hz
 have hok:=wu (by omega) a1
 refine bw (fun T H nx=>T 1=.ptr 0 1 0∧H 0=some [ar c]∧1 ≤ nx) ?_ ?_
 ·(have zz:=aI @ae (aI @au @am); repeat' (first|refine zW ?_|apply a_n|refine zO ?_|refine vZ ?_|fail)) <;> (try clear zz)
  refine ba (X:=Nat) (fun k=>[(1,.ptr 0 1 0),(14,ar c),(15,.int .i64 c.length),(16,.int .i64 k)]) (fun k H nx=>k ≤ c.length∧H 0=some [ar c]∧1 ≤ nx) (fun k=>c.length - k) 0 ⟨Nat.zero_le _,rfl,by omega⟩ (by (iterate 4 refine And.intro rfl ?_); trivial) ?_
  rintro k H nx ⟨h1,g0,hnx⟩
  by_cases hk:k < c.length
  rotate_left
  ·(have zz:=and_self; repeat' (first|refine zW ?_|apply a_n|apply a_x|refine zO ?_|refine vY ?_|(refine zGY ?_ ?_ <;> (intro _hg; try (exfalso; omega)))|fail)) <;> (try clear zz)
   exact ⟨rfl,g0,hnx⟩
  have ix:=dp hk
  have hs1:=hs _ (aQ hk)
  have hp:=jN (c.getD k default) hs1
  rw [a1 _ (aQ hk)] at hp
  have z:decide ((0:Int) ≠ 0)=false:=rfl
  by_cases hk0:0 < k
  rotate_left
  ·have zk:decide (0 < (k:Int))=false:=decide_eq_false (by omega)
   (have zz:=aI @ae (aI @ix (aI @z @zk)); repeat' (first|refine zW ?_|apply a_n|refine zO ?_|refine vY ?_|refine cY ?_ (hp:=hp) (hs:=by (first | refine ac ?_ rfl | apply ag); (repeat' (first | exact aa | apply an | apply ai | exact ay _)); first | done | fail)|refine gFY ?_|refine cFY ?_|(refine zGY ?_ ?_ <;> (intro _hg; try (exfalso; omega)))|fail)) <;> (try clear zz)
   exact ⟨k + 1,by omega,⟨by omega,g0,hnx⟩,ag0⟩
  have zk:decide (0 < (k:Int))=true:=decide_eq_true (by omega)
  have iy:cR 1 (ar c) (.int .i64 ((k:Int) - 1))=some (.iptr [aw (c.getD (k - 1) default)] 0):=by
   have:=dp (l:=c) (k:=k - 1) (by omega)
   rwa [show ((k - 1:Nat):Int)=(k:Int) - 1 by omega] at this
  have hcm:=dR (c.getD (k - 1) default) (c.getD k default) (hs _ (aQ (by omega))) hs1
  have z2:decide (0 ≤ aM (c.getD (k - 1) default) (c.getD k default))=false:=decide_eq_false (by have:=ce a2 (i:=k - 1) (j:=k) (by omega) hk; omega)
  (have zz:=aI @ae (aI @ix (aI @iy (aI @z (aI @zk (aI @z2 @g0))))); repeat' (first|refine zW ?_|apply a_n|refine zO ?_|refine vY ?_|refine cY ?_ (hp:=by first | exact hp | exact hcm) (hs:=by (first | refine ac ?_ rfl | apply ag); (repeat' (first | exact aa | apply an | apply ai | exact ay _)); first | done | fail)|refine gTY ?_|refine cFY ?_|(refine zGY ?_ ?_ <;> (intro _hg; try (exfalso; omega)))|fail)) <;> (try clear zz)
  exact ⟨k + 1,by omega,⟨by omega,g0,hnx⟩,ag0⟩
 rintro T H nx ⟨t1,g0,hnx⟩
 (have zz:=aI @t1 @g0; repeat' (first|refine zW ?_|apply a_n|refine zO ?_|refine vY ?_|fail)) <;> (try clear zz)
 refine aV ev0 (have zz:=@t1; evZ) (rB c hok.1 (fun s hs=>⟨(hok.2 s hs).1,by have:=(hok.2 s hs).2; omega⟩) _ _) ?_
 rintro _ H1 nx1 ⟨ks,vs,rfl,hinc,hsame,hlt⟩
 have g0':H1 0=some [ar c]:=(hsame 0 (by omega)).trans g0
 (have zz:=aI @t1 (aI @g0' @ae); repeat' (first|refine zW ?_|apply a_n|refine zO ?_|refine vY ?_|fail)) <;> (try clear zz)
 refine ba (X:=Nat) (fun k=>[(1,.ptr 0 1 0),(6,.mp nx),(44,ar c),(45,.int .i64 c.length),(46,.int .i64 k)]) (fun k H' nx'=>k ≤ c.length∧H'=H1∧nx'=nx1∧∀ i,i < k→bM c (c.getD i default)=false) (fun k=>c.length - k) 0 ⟨Nat.zero_le _,rfl,rfl,fun i h=>absurd h (by omega)⟩ (have zz:=@t1; agZ) ?_
 rintro k H' nx' ⟨h1,rfl,rfl,h2⟩
 by_cases hk:k < c.length
 rotate_left
 ·rw [kL fun i hi=>h2 i (by omega),if_neg (by decide)]
  (have zz:=and_self; repeat' (first|refine zW ?_|apply a_n|apply a_x|refine zO ?_|refine vY ?_|(refine zGY ?_ ?_ <;> (intro _hg; try (exfalso; omega)))|refine ak rfl ?_|refine r1Y ?_|fail)) <;> (try clear zz)
  exact .int _ _
 have ix:=dp hk
 obtain ⟨p1,p2,p3,p4⟩:=cz (a1 _ (aQ hk))
 have hcv:=uy c (c.getD k default) hok (hok.2 _ (aQ hk)) (by omega)
 have iy:=ix2 (l:=c.getD k default) (k:=0) (by omega)
 rw [show ((0:Nat):Int)=0 from rfl] at iy
 have hks:(c.getD k default).getD 0 default ∈ ks:=(hinc.dom _).2 fun e=>by
  have:k ∈ iq c c.length ((c.getD k default).getD 0 default):=List.mem_filter.2 ⟨List.mem_range.2 hk,decide_eq_true (aQ (by omega))⟩
  rw [e] at this; cases this
 have hmf:=vC ((c.getD k default).getD 0 default) ks
 rw [if_pos hks] at hmf
 obtain ⟨m1,m2⟩:=pO hks
 have hr:=hinc.row _ m1
 rw [m2] at hr
 have hcb:bM c (c.getD k default)=true→c.any (bM c)=true:=fun h=>List.any_eq_true.2 ⟨_,aQ hk,h⟩
 generalize hsk:c.getD k default=s at *
 (have zz:=@ix; repeat' (first|refine zW ?_|apply a_n|refine zO ?_|refine vY ?_|(refine zGY ?_ ?_ <;> (intro _hg; try (exfalso; omega)))|fail)) <;> (try clear zz)
 refine mH 0 g0' fun S hS0 hsub'=>?_
 have hsub:=hsub' H' g0'
 (have zz:=aI @hS0 @iy; repeat' (first|apply a_n|refine zO ?_|refine nvY ?_|fail)) <;> (try clear zz)
 refine fw ?_
 refine sc ev0 hinc.box ev0 (vX _) hmf ?_
 refine lg ⟨hsub,?_⟩
 rw [show mget .esl false (some (ks.idxOf (s.getD 0 default))) vs=vs.getD (ks.idxOf (s.getD 0 default)) .undef from rfl]
 refine gr ?_
 cases hb:bM c s
 ·rw [hb] at hcv
  refine bP ev0 ev0 hcv (ac (ao (aC _ _) (ao (wh hr) (ao (ay _ _) aa))) rfl) ?_
  (have zz:=and_self; repeat' (first|apply a_n|refine zO ?_|refine vY ?_|refine cFY ?_|fail)) <;> (try clear zz)
  exact ⟨k + 1,by omega,⟨by omega,rfl,rfl,fun i hi=>by
   rcases Nat.lt_succ_iff_lt_or_eq.1 hi with h' | rfl
   ·exact h2 i h'
   ·rw [hsk]; exact hb⟩,ag0⟩
 ·rw [hb] at hcv
  rw [hcb hb,if_pos rfl]
  refine bP ev0 ev0 hcv (ac (ao (aC _ _) (ao (wh hr) (ao (ay _ _) aa))) rfl) ?_
  (have zz:=and_self; repeat' (first|refine zW ?_|apply a_n|apply a_r|refine zO ?_|refine vY ?_|refine cTY ?_|refine ak rfl ?_|refine r1Y ?_|fail)) <;> (try clear zz)
  exact .int _ _
end Go.Proofs.Ytfcenbapjhecfaa
namespace Go.Proofs.Ytfcenbapjhecfaa
open Go Go.Abs
theorem u0 {c:List Spx} (h1:∀ s ∈ c,bo bv s) (h2:bo aM c) {i k:Nat} (hi:i < c.length) (hk:k < c.length) (hik:i ≠ k) (h:cU (c.getD i default) (c.getD k default)=true):bM c (c.getD i default)=true:=by
 refine jp.2 ⟨_,aQ hk,yG (h1 _ (aQ hi)) (h1 _ (aQ hk)) (dC.1 h) fun e=>?_,dC.1 h⟩
 rcases Nat.lt_trichotomy i k with q | q | q
 ·have:=ce h2 q hk; rw [e] at this; exact gS.ord.irr _ this
 ·exact hik q
 ·have:=ce h2 q hi; rw [e] at this; exact gS.ord.irr _ this
theorem wz {c:List Spx} {i:Nat} (h:bM c (c.getD i default)=true):∃ k,k < c.length∧i ≠ k∧cU (c.getD i default) (c.getD k default)=true:=by
 obtain ⟨t,ht,h1,h2⟩:=jp.1 h
 obtain ⟨k,hk,rfl⟩:=List.getElem_of_mem ht
 have e:c.getD k default=c[k]:=by simp [List.getD,hk]
 refine ⟨k,hk,fun hik=>?_,by rw [e]; exact dC.2 h2⟩
 subst hik
 rw [e] at h1; omega
attribute [local irreducible] aD aj aX aP aH aK az aL aR bd Go.Abs.Fn aO Go.Abs.Pure av aF Yl
set_option maxHeartbeats 2000000 in
theorem xx (c:List Spx) (hc:Shn c) (hs:∀ s ∈ c,Shn s):Pure Try.prog 30 [fc c] (.int .i64 (be c)):=by
 refine Pure.of_c2 follows BP (Nat.le_of_ble_eq_true rfl) ?_
 simp only [b30,cO,cG,cN,cM,cD,cF,cB,aB,aS]
 have hc':c.length ≤ 17592186044416:=hc
 by_cases h0:4096 < c.length
 ·rw [show be c=5 by unfold be; rw [if_pos h0]]
  (have zz:=aI @ae (aI @au @am); repeat' (first|refine zW ?_|apply a_n|apply a_r|refine zO ?_|refine vZ ?_|refine bxZ ?_|(refine zGZ ?_ ?_ <;> (intro _hg; try (exfalso; omega)))|refine ak rfl ?_|refine r1Z ?_|fail)) <;> (try clear zz)
  all_goals exact co rfl
 rw [show be c=if b4 (kd c) c.length ≠ 0 then b4 (kd c) c.length else if c.any (bM c)=true then 7 else 0 by unfold be; rw [if_neg h0]]
 refine en ?_
 (have zz:=aI @ae (aI @au @am); repeat' (first|apply a_n|refine zO ?_|refine vZ ?_|refine bxZ ?_|fail)) <;> (try clear zz)
 refine en ?_
 (have zz:=aI @ae (aI @au @am); repeat' (first|apply a_n|refine zO ?_|refine vZ ?_|fail)) <;> (try clear zz)
 refine en (en ?_)
 (have zz:=aI @ae (aI @au @am); repeat' (first|apply a_n|refine zO ?_|refine vZ ?_|(refine zGZ ?_ ?_ <;> (intro _hg; try (exfalso; omega)))|fail)) <;> (try clear zz)
 by_cases hz:b4 (kd c) c.length ≠ 0
 ·rw [if_pos hz]
  (have zz:=aI @ae (aI @au @am); repeat' (first|refine zW ?_|apply a_n|refine zO ?_|refine vZ ?_|fail)) <;> (try clear zz)
  refine ba (X:=Nat) (fun k=>[(3,ar c),(4,.int .i64 k)]) (fun k H nx=>k ≤ c.length∧∀ i,i < k→kd c i=0) (fun k=>c.length - k) 0 ⟨Nat.zero_le _,fun i h=>absurd h (by omega)⟩ ag0 ?_
  rintro k H nx ⟨h1,h2⟩
  by_cases hk:k < c.length
  rotate_left
  ·exact absurd (cu fun i hi=>h2 i (by omega)) hz
  have ix:=dp hk
  have hs1:=hs _ (aQ hk)
  have hp:=sS (c.getD k default) hs1
  have hsp:=nB (c:=c) (k:=k)
  by_cases he:bj (c.getD k default) ≠ 0
  ·rw [if_pos he] at hsp
   rw [bL hk h2 (by rw [hsp]; exact he),hsp]
   have z:decide (bj (c.getD k default) ≠ 0)=true:=decide_eq_true he
   (have zz:=aI @ae (aI @ix @z); repeat' (first|refine zW ?_|apply a_n|apply a_r|refine zO ?_|refine vY ?_|refine cY ?_ (hp:=hp) (hs:=by (first | refine ac ?_ rfl | apply ag); (repeat' (first | exact aa | apply an | apply ai | exact ay _)); first | done | fail)|refine cTY ?_|(refine zGY ?_ ?_ <;> (intro _hg; try (exfalso; omega)))|refine ak rfl ?_|refine r1Y ?_|fail)) <;> (try clear zz)
   exact .int _ _
  rw [if_neg he] at hsp
  have he:=Decidable.of_not_not he
  rw [he] at hp
  have z:decide ((0:Int) ≠ 0)=false:=rfl
  by_cases hk0:0 < k
  rotate_left
  ·rw [if_neg (fun h=>hk0 h.1)] at hsp
   have zk:decide (0 < (k:Int))=false:=decide_eq_false (by omega)
   (have zz:=aI @ae (aI @ix (aI @z @zk)); repeat' (first|refine zW ?_|refine zM ?_|apply a_n|refine zO ?_|refine vY ?_|refine cY ?_ (hp:=hp) (hs:=by (first | refine ac ?_ rfl | apply ag); (repeat' (first | exact aa | apply an | apply ai | exact ay _)); first | done | fail)|refine gFY ?_|refine cFY ?_|(refine zGY ?_ ?_ <;> (intro _hg; try (exfalso; omega)))|fail)) <;> (try clear zz)
   exact ⟨k + 1,by omega,⟨by omega,fun i hi=>by
    rcases Nat.lt_succ_iff_lt_or_eq.1 hi with h' | rfl
    ·exact h2 i h'
    ·exact hsp⟩,ag0⟩
  have zk:decide (0 < (k:Int))=true:=decide_eq_true (by omega)
  have iy:cR 1 (ar c) (.int .i64 ((k:Int) - 1))=some (.iptr [aw (c.getD (k - 1) default)] 0):=by
   have:=dp (l:=c) (k:=k - 1) (by omega)
   rwa [show ((k - 1:Nat):Int)=(k:Int) - 1 by omega] at this
  have hcm:=gg (c.getD (k - 1) default) (c.getD k default) (hs _ (aQ (by omega))) hs1
  by_cases hv:0 ≤ aM (c.getD (k - 1) default) (c.getD k default)
  ·have z2:decide (0 ≤ aM (c.getD (k - 1) default) (c.getD k default))=true:=decide_eq_true hv
   rw [if_pos ⟨hk0,hv⟩] at hsp
   rw [bL hk h2 (by rw [hsp]; decide),hsp]
   (have zz:=aI @ae (aI @ix (aI @iy (aI @z (aI @zk @z2)))); repeat' (first|refine zW ?_|refine zM ?_|apply a_n|apply a_r|refine zO ?_|refine vY ?_|refine cY ?_ (hp:=by first | exact hp | exact hcm) (hs:=by (first | refine ac ?_ rfl | apply ag); (repeat' (first | exact aa | apply an | apply ai | exact ay _)); first | done | fail)|refine gTY ?_|refine cTY ?_|refine cFY ?_|(refine zGY ?_ ?_ <;> (intro _hg; try (exfalso; omega)))|refine ak rfl ?_|refine r1Y ?_|fail)) <;> (try clear zz)
   exact .int _ _
  ·have z2:decide (0 ≤ aM (c.getD (k - 1) default) (c.getD k default))=false:=decide_eq_false hv
   rw [if_neg (fun h=>hv h.2)] at hsp
   (have zz:=aI @ae (aI @ix (aI @iy (aI @z (aI @zk @z2)))); repeat' (first|refine zW ?_|refine zM ?_|apply a_n|refine zO ?_|refine vY ?_|refine cY ?_ (hp:=by first | exact hp | exact hcm) (hs:=by (first | refine ac ?_ rfl | apply ag); (repeat' (first | exact aa | apply an | apply ai | exact ay _)); first | done | fail)|refine gTY ?_|refine cFY ?_|(refine zGY ?_ ?_ <;> (intro _hg; try (exfalso; omega)))|fail)) <;> (try clear zz)
   exact ⟨k + 1,by omega,⟨by omega,fun i hi=>by
    rcases Nat.lt_succ_iff_lt_or_eq.1 hi with h' | rfl
    ·exact h2 i h'
    ·exact hsp⟩,ag0⟩
 have hz:=Decidable.of_not_not hz
 rw [if_neg (fun h=>h hz)]
 obtain ⟨a1,a2⟩:=sI hz
 have hok:=wu (by omega) a1
 refine bw (fun T H nx=>T 3=ar c) ?_ ?_
 ·(have zz:=aI @ae (aI @au @am); repeat' (first|refine zW ?_|apply a_n|refine zO ?_|refine vZ ?_|fail)) <;> (try clear zz)
  refine ba (X:=Nat) (fun k=>[(3,ar c),(4,.int .i64 k)]) (fun k H nx=>k ≤ c.length) (fun k=>c.length - k) 0 (Nat.zero_le _) ag0 ?_
  rintro k H nx h1
  by_cases hk:k < c.length
  rotate_left
  ·(have zz:=@ae; repeat' (first|refine zW ?_|apply a_n|apply a_x|refine zO ?_|refine vY ?_|(refine zGY ?_ ?_ <;> (intro _hg; try (exfalso; omega)))|fail)) <;> (try clear zz)
   exact rfl
  have ix:=dp hk
  have hs1:=hs _ (aQ hk)
  have hp:=sS (c.getD k default) hs1
  rw [a1 _ (aQ hk)] at hp
  have z:decide ((0:Int) ≠ 0)=false:=rfl
  by_cases hk0:0 < k
  rotate_left
  ·have zk:decide (0 < (k:Int))=false:=decide_eq_false (by omega)
   (have zz:=aI @ae (aI @ix (aI @z @zk)); repeat' (first|refine zW ?_|refine zM ?_|apply a_n|refine zO ?_|refine vY ?_|refine cY ?_ (hp:=hp) (hs:=by (first | refine ac ?_ rfl | apply ag); (repeat' (first | exact aa | apply an | apply ai | exact ay _)); first | done | fail)|refine gFY ?_|refine cFY ?_|(refine zGY ?_ ?_ <;> (intro _hg; try (exfalso; omega)))|fail)) <;> (try clear zz)
   exact ⟨k + 1,by omega,by omega,ag0⟩
  have zk:decide (0 < (k:Int))=true:=decide_eq_true (by omega)
  have iy:cR 1 (ar c) (.int .i64 ((k:Int) - 1))=some (.iptr [aw (c.getD (k - 1) default)] 0):=by
   have:=dp (l:=c) (k:=k - 1) (by omega)
   rwa [show ((k - 1:Nat):Int)=(k:Int) - 1 by omega] at this
  have hcm:=gg (c.getD (k - 1) default) (c.getD k default) (hs _ (aQ (by omega))) hs1
  have z2:decide (0 ≤ aM (c.getD (k - 1) default) (c.getD k default))=false:=decide_eq_false (by have:=ce a2 (i:=k - 1) (j:=k) (by omega) hk; omega)
  (have zz:=aI @ae (aI @ix (aI @iy (aI @z (aI @zk @z2)))); repeat' (first|refine zW ?_|refine zM ?_|apply a_n|refine zO ?_|refine vY ?_|refine cY ?_ (hp:=by first | exact hp | exact hcm) (hs:=by (first | refine ac ?_ rfl | apply ag); (repeat' (first | exact aa | apply an | apply ai | exact ay _)); first | done | fail)|refine gTY ?_|refine cFY ?_|(refine zGY ?_ ?_ <;> (intro _hg; try (exfalso; omega)))|fail)) <;> (try clear zz)
  exact ⟨k + 1,by omega,by omega,ag0⟩
 rintro T H nx t3
 (have zz:=@t3; repeat' (first|refine zW ?_|apply a_n|refine zO ?_|refine vY ?_|fail)) <;> (try clear zz)
 refine ba (X:=Nat) (fun k=>[(3,ar c),(6,.int .i64 k)]) (fun k H' nx'=>k ≤ c.length∧∀ i,i < k→bM c (c.getD i default)=false) (fun k=>c.length - k) 0 ⟨Nat.zero_le _,fun i h=>absurd h (by omega)⟩ (have zz:=@t3; agZ) ?_
 clear t3
 rintro i H1 nx1 ⟨h1,h2⟩
 by_cases hi:i < c.length
 rotate_left
 ·rw [kL fun i hi=>h2 i (by omega),if_neg (by decide)]
  (have zz:=@ae; repeat' (first|refine zW ?_|apply a_n|apply a_x|refine zO ?_|refine vY ?_|(refine zGY ?_ ?_ <;> (intro _hg; try (exfalso; omega)))|refine ak rfl ?_|refine r1Y ?_|fail)) <;> (try clear zz)
  exact .int _ _
 (have zz:=@ae; repeat' (first|refine zW ?_|apply a_n|refine zO ?_|refine vY ?_|(refine zGY ?_ ?_ <;> (intro _hg; try (exfalso; omega)))|fail)) <;> (try clear zz)
 refine ba (X:=Nat) (fun k=>[(3,ar c),(6,.int .i64 i),(7,.int .i64 k)]) (fun k H' nx'=>k ≤ c.length∧∀ j,j < k→i ≠ j→cU (c.getD i default) (c.getD j default)=false) (fun k=>c.length - k) 0 ⟨Nat.zero_le _,fun i h=>absurd h (by omega)⟩ ag0 ?_
 rintro k H2 nx2 ⟨k1,k2⟩
 by_cases hk:k < c.length
 rotate_left
 ·(have zz:=@ae; repeat' (first|refine zW ?_|apply a_n|apply a_x|refine zO ?_|refine vY ?_|(refine zGY ?_ ?_ <;> (intro _hg; try (exfalso; omega)))|fail)) <;> (try clear zz)
  refine ⟨i + 1,by omega,⟨by omega,fun j hj=>?_⟩,ag0⟩
  rcases Nat.lt_succ_iff_lt_or_eq.1 hj with h' | rfl
  ·exact h2 j h'
  ·cases hb:bM c (c.getD j default)
   ·rfl
   ·obtain ⟨q,q1,q2,q3⟩:=wz hb
    rw [k2 q (by omega) q2] at q3; cases q3
 have ix:=dp hi
 have iy:=dp hk
 by_cases hik:i=k
 ·have z:decide ((i:Int) ≠ (k:Int))=false:=decide_eq_false (by omega)
  (have zz:=aI @ae @z; repeat' (first|refine zW ?_|refine zM ?_|apply a_n|refine zO ?_|refine vY ?_|refine gFY ?_|refine cFY ?_|(refine zGY ?_ ?_ <;> (intro _hg; try (exfalso; omega)))|fail)) <;> (try clear zz)
  exact ⟨k + 1,by omega,⟨by omega,fun j hj hij=>k2 j (by omega) hij⟩,ag0⟩
 have z:decide ((i:Int) ≠ (k:Int))=true:=decide_eq_true (by omega)
 have hin:=vt (c.getD i default) (c.getD k default) (hs _ (aQ hi)) (hs _ (aQ hk))
 have ht:=u0 (fun s hs=>(hok.2 s hs).1) a2 hi hk hik
 cases hb:cU (c.getD i default) (c.getD k default)
 ·rw [hb] at hin
  (have zz:=aI @ae (aI @ix (aI @iy @z)); repeat' (first|refine zW ?_|refine zM ?_|apply a_n|refine zO ?_|refine vY ?_|refine cY ?_ (hp:=hin) (hs:=by (first | refine ac ?_ rfl | apply ag); (repeat' (first | exact aa | apply an | apply ai | exact ay _)); first | done | fail)|refine gTY ?_|refine cFY ?_|(refine zGY ?_ ?_ <;> (intro _hg; try (exfalso; omega)))|fail)) <;> (try clear zz)
  exact ⟨k + 1,by omega,⟨by omega,fun j hj hij=>by
   rcases Nat.lt_succ_iff_lt_or_eq.1 hj with h' | rfl
   ·exact k2 j h' hij
   ·exact hb⟩,ag0⟩
 ·rw [hb] at hin
  rw [if_pos (List.any_eq_true.2 ⟨_,aQ hi,ht hb⟩)]
  (have zz:=aI @ae (aI @ix (aI @iy @z)); repeat' (first|refine zW ?_|refine zM ?_|apply a_n|apply a_r|refine zO ?_|refine vY ?_|refine cY ?_ (hp:=hin) (hs:=by (first | refine ac ?_ rfl | apply ag); (repeat' (first | exact aa | apply an | apply ai | exact ay _)); first | done | fail)|refine gTY ?_|refine cTY ?_|(refine zGY ?_ ?_ <;> (intro _hg; try (exfalso; omega)))|refine ak rfl ?_|refine r1Y ?_|fail)) <;> (try clear zz)
  exact .int _ _
end Go.Proofs.Ytfcenbapjhecfaa
namespace Go.Proofs.Ytfcenbapjhecfaa
open Go Go.Abs
structure MapV where
 fr:Spx
 to:Spx
 deriving Inhabited,DecidableEq
abbrev AG (m:MapV):AV:=.agg [aw m.fr,aw m.to]
theorem wg (m:MapV):Dat (AG m):=Dat.agg (DatL.cons (ay _) (DatL.cons (ay _) DatL.nil))
instance datI_encM {m:MapV}:DatI (AG m):=⟨wg m⟩
attribute [local irreducible] aD aj aX aP aH aK az aL aR bd Go.Abs.Fn aO Go.Abs.Pure av aF Yl
theorem wj {H:Hp} {a b:Bool} {e f:Int} (h1:a=b) (h2:e=f):Snap H (.tup [.bool a,.int .i64 e]) (.tup [.bool b,.int .i64 f]):=by
 subst h1 h2; exact e7 (ao (.bool _) (ao (.int _ _) aa))
end Go.Proofs.Ytfcenbapjhecfaa
namespace Go.Proofs.Ytfcenbapjhecfaa
open Go Go.Abs
attribute [local irreducible] aD aj aX aP aH aK az aL aR bd Go.Abs.Fn aO Go.Abs.Pure av aF Yl
end Go.Proofs.Ytfcenbapjhecfaa
namespace Go.Proofs.Ytfcenbapjhecfaa
open Go Go.Abs
attribute [local irreducible] aD aj aX aP aH aK az aL aR bd Go.Abs.Fn aO Go.Abs.Pure av aF Yl
end Go.Proofs.Ytfcenbapjhecfaa
namespace Go.Proofs.Ytfcenbapjhecfaa
open Go Go.Abs
attribute [local irreducible] aD aj aX aP aH aK az aL aR bd Go.Abs.Fn aO Go.Abs.Pure av aF Yl
end Go.Proofs.Ytfcenbapjhecfaa
namespace Go.Proofs.Ytfcenbapjhecfaa
open Go Go.Abs
theorem sd {c:List Spx}:ia c=true ↔ c.length ≤ 30∧∀ s ∈ c,s.length ≤ 10:=by
 unfold ia
 rw [Bool.and_eq_true,decide_eq_true_iff,List.all_eq_true]
 simp only [decide_eq_true_iff]
attribute [local irreducible] aD aj aX aP aH aK az aL aR bd Go.Abs.Fn aO Go.Abs.Pure av aF Yl
end Go.Proofs.Ytfcenbapjhecfaa
namespace Go.Proofs.Ytfcenbapjhecfaa
open Go Go.Abs
def bq:Spx→Nat→List Spx
 | _,0=>[[]]
 | [],_ + 1=>[]
 | x :: l,k + 1=>(bq l k).map (x :: ·) ++ bq l (k + 1)
theorem iQ {l:Spx}:bq l 0=[[]]:=by cases l <;> rfl
theorem rh {k:Nat}:bq [] (k + 1)=[]:=rfl
theorem eS {x:Vtx} {l:Spx} {k:Nat}:bq (x :: l) (k + 1)=(bq l k).map (x :: ·) ++ bq l (k + 1):=rfl
theorem cr:∀ {l:Spx} {k:Nat} {s:Spx},s ∈ bq l k ↔ s.Sublist l∧s.length=k
 | l,0,s=>by
  rw [iQ,List.mem_singleton]
  exact ⟨fun h=>by subst h; exact ⟨List.nil_sublist _,rfl⟩,fun h=>List.length_eq_zero_iff.1 h.2⟩
 | [],k + 1,s=>by
  rw [rh]
  refine ⟨fun h=>(by cases h),fun ⟨h1,h2⟩=>?_⟩
  rw [List.sublist_nil] at h1
  subst h1; simp at h2
 | x :: l,k + 1,s=>by
  rw [eS,List.mem_append,List.mem_map,cr]
  constructor
  ·rintro (⟨t,ht,rfl⟩ | ⟨h1,h2⟩)
   ·have:=cr.1 ht
    exact ⟨this.1.cons_cons x,by simp [this.2]⟩
   ·exact ⟨h1.cons x,h2⟩
  ·rintro ⟨h1,h2⟩
   cases h1 with
   | cons _ h=>exact .inr ⟨h,h2⟩
   | cons_cons _ h=>exact .inl ⟨_,cr.2 ⟨h,by simpa using h2⟩,rfl⟩
theorem ga {l:Spx} {k:Nat} (h:l.length < k):bq l k=[]:=by
 cases e:bq l k with
 | nil=>rfl
 | cons a r =>
  have:=cr.1 (show a ∈ bq l k by rw [e]; exact List.mem_cons_self)
  have:=this.1.length_le
  omega
def chK:Nat→Nat→Nat
 | _,0=>1
 | 0,_ + 1=>0
 | n + 1,k + 1=>chK n k + chK n (k + 1)
theorem zU {n:Nat}:chK n 0=1:=by cases n <;> rfl
theorem nJ:∀ {l:Spx} {k:Nat},(bq l k).length=chK l.length k
 | l,0=>by rw [iQ,zU]; rfl
 | [],k + 1=>rfl
 | x :: l,k + 1=>by
  rw [eS,List.length_append,List.length_map,nJ,nJ]; rfl
theorem yR {n k:Nat} (hn:n ≤ 8):chK n k ≤ 70:=by
 by_cases hk:k ≤ 8
 ·have:∀ n,n < 9→∀ k,k < 9→chK n k ≤ 70:=by decide
  exact this n (by omega) k (by omega)
 ·have:∀ n k,n < k→chK n k=0:=by
    intro n
    induction n with
    | zero=>intro k h; match k,h with | k + 1,_=>rfl
    | succ n ih=>intro k h; match k,h with | k + 1,h=>show chK n k + chK n (k + 1)=0; rw [ih k (by omega),ih (k + 1) (by omega)]
  rw [this n k (by omega)]; omega
theorem ji {l:Spx} {k:Nat} (h:l.length ≤ 8):(bq l k).length ≤ 70:=by rw [nJ]; exact yR h
theorem n6 {l:Spx} {i k:Nat} (hi:i < l.length):bq (l.drop i) (k + 1)=(bq (l.drop (i + 1)) k).map (l.getD i default :: ·) ++ bq (l.drop (i + 1)) (k + 1):=by
 rw [List.drop_eq_getElem_cons hi,eS]
 simp [List.getD,hi]
theorem oa {v w:Vtx} {l m:Spx}:aM (v :: l) (w :: m)=if bv v w ≠ 0 then bv v w else aM l m:=rfl
theorem ua {v:Vtx} {l m:Spx}:aM (v :: l) (v :: m)=aM l m:=by
 rw [oa,if_neg (fun h=>h (eR.2 rfl))]
theorem gL:∀ {l:Spx} {k:Nat},bo bv l→bo aM (bq l k)
 | l,0,_=>by rw [iQ]; exact List.pairwise_singleton _ _
 | [],k + 1,_=>List.Pairwise.nil
 | x :: l,k + 1,h=>by
  have h':=List.pairwise_cons.1 h
  rw [eS]
  unfold bo
  rw [List.pairwise_append]
  refine ⟨?_,gL h'.2,?_⟩
  ·rw [List.pairwise_map]
   exact List.Pairwise.imp (fun {a b} hab=>by rw [ua]; exact hab) (gL (k:=k) h'.2)
  ·intro a ha b hb
   obtain ⟨t,_,rfl⟩:=List.mem_map.1 ha
   have hb':=cr.1 hb
   cases b with
   | nil=>simp at hb'
   | cons y r =>
    have hy:y ∈ l:=hb'.1.subset List.mem_cons_self
    have:=h'.1 y hy
    rw [oa,if_pos (by omega)]
    exact this
end Go.Proofs.Ytfcenbapjhecfaa
namespace Go.Proofs.Ytfcenbapjhecfaa
open Go Go.Abs
open Nat (reduceEqDiff reduceAdd reduceLeDiff)
attribute [local irreducible] aD aj aX aP aH aK az aL aR bd Go.Abs.Fn aO Go.Abs.Pure av aF Yl
theorem vO (s:AV) (l:Spx) (hl:l.length ≤ 1000000) (h0:l ≠ []) (H:Hp) (nx:Nat) (hn:dP s=some l.length) (hs:∀ H',(∀ x,x < nx→H' x=H x)→dl 2 H' s=some (l.length,cX l)):Abs.Fn Try.prog 83 [s] H nx fun r H' nx'=>r=.msl nx (l.length * 2) 2 0 l.length∧H'=aq H nx (cX l)∧nx'=nx + 1:=by
 have hpos:=List.length_pos_iff.2 h0
 refine Abs.Fn.of_c2 follows Av (Nat.le_of_ble_eq_true rfl) ?_
 simp only [b83,cO,cG,cN,cM,cD,cF,cB,aB,aS]
 (have zz:=and_self; repeat' (first|refine zW ?_|apply a_n|refine zO ?_|refine vY ?_|fail)) <;> (try clear zz)
 refine vM (k:=l.length) (by ((try simp only [bR,ZA,reduceEqDiff,↓reduceIte,reduceAdd,reduceLeDiff]); (try with_reducible rfl)); exact hn) (fun h=>?_) (fun h=>by omega) (fun h=>by omega)
 (have zz:=and_self; repeat' (first|refine zW ?_|apply a_n|refine zO ?_|refine vY ?_|refine b0Y ?_|refine cFY ?_|fail)) <;> (try clear zz)
 refine pD rfl ev0 ev0 (hs _ fun x _=>rfl) (fU _) (by omega) (by omega) ?_
 (have zz:=and_self; repeat' (first|apply a_n|refine zO ?_|refine vY ?_|refine ak rfl ?_|refine r1Y ?_|fail)) <;> (try clear zz)
 exact ⟨rfl,rfl,rfl⟩
theorem zx {y lo kb sb k N:Nat} {s:Spx} (hs:s.length ≤ 1000) (hk:k ≤ 1000) (I:List Spx→Hp→Nat→Prop)
    (hp:∀ S H nx,I S H nx→H kb=some [.int .i64 k]∧H sb=some [aw s]∧lo + 3 ≤ nx∧kb < lo∧sb < lo)
    (stab:∀ S H H' nx nx',I S H nx→nx ≤ nx'→(∀ i,i < nx→¬ (lo ≤ i∧i < lo + 3)→H' i=H i)→I S H' nx')
    (rnd:∀ S f H nx,I S H nx→f.length=k→f ≠ []→S.length < N→Yl Try.prog y [.msl nx (k * 2) 2 0 k] (aq H nx (cX f)) (nx + 1) fun r H' nx'=>r=.bool true∧I (S ++ [f]) H' nx'∧nx ≤ nx'∧∀ i,lo ≤ i→i < lo + 3→H' i=H i) :
    ∀ (j:Nat) (ch:Spx) (at_:Nat) (S:List Spx) (H:Hp) (nx:Nat),0 < k→ch.length + j=k→S.length + (bq (s.drop at_) j).length ≤ N→at_ ≤ s.length→I S H nx→H lo=some [.yld y]→H (lo + 1)=some [.func 118 [.ptr kb 1 0,.ptr lo 1 0,.ptr sb 1 0,.ptr (lo + 1) 1 0]]→(∃ C,H (lo + 2)=some C∧C.length=k * 2∧C.take (ch.length * 2)=cX ch) →
     Abs.Fn Try.prog 118 [.int .i64 at_,.msl (lo + 2) (k * 2) 2 0 ch.length,.ptr kb 1 0,.ptr lo 1 0,.ptr sb 1 0,.ptr (lo + 1) 1 0] H nx fun r H' nx'=>r=.bool true∧I (S ++ (bq (s.drop at_) j).map (ch ++ ·)) H' nx'∧nx ≤ nx'∧H' lo=H lo∧H' (lo + 1)=H (lo + 1)∧∃ C,H' (lo + 2)=some C∧C.length=k * 2∧C.take (ch.length * 2)=cX ch:=by
 intro j
 induction j with
 | zero =>
  intro ch at_ S H nx hk0 hj hN hat hI h1 h2 ⟨C,h3,hc1,hc2⟩
  obtain ⟨g1,g2,g3,g4,g5⟩:=hp _ _ _ hI
  have hlen:ch.length=k:=by omega
  have hne:ch ≠ []:=fun e=>by rw [e] at hlen; simp at hlen; omega
  obtain rfl:C=cX ch:=by rw [← hc2,List.take_of_length_le (by omega)]
  refine Abs.Fn.of_c2 follows yA (Nat.le_of_ble_eq_true rfl) ?_
  simp only [yL,cO,cG,cN,cM,cD,cF,cB,aB,aS]
  have hcl:=vO (.msl (lo + 2) (k * 2) 2 0 k) ch (by omega) hne H nx (by rw [hlen]; rfl) (fun H' hH'=>by rw [hlen]; exact (gR (n:=k * 2) (off:=0) (len:=k) ((hH' (lo + 2) (by omega)).trans h3) hc1 (by omega)).trans (by rw [List.drop_zero,List.take_of_length_le (by omega)]))
  rw [hlen] at hcl
  rw [hlen]
  have z:decide ((k:Int)=k)=true:=decide_eq_true rfl
  (have zz:=aI @g1 (aI @g2 (aI @h1 (aI @h2 @z))); repeat' (first|refine zW ?_|apply a_n|refine zO ?_|refine vY ?_|(refine zGY ?_ ?_ <;> (intro _hg; try (exfalso; omega)))|fail)) <;> (try clear zz)
  refine mH lo h1 fun S0 hS hsub=>?_
  (have zz:=@hS; repeat' (first|apply a_n|refine zO ?_|refine nvY ?_|fail)) <;> (try clear zz)
  refine fw ?_
  refine aV ev0 ev0 hcl ?_
  rintro _ H2 nx2 ⟨rfl,rfl,rfl⟩
  refine lg ⟨hsub _ (by rw [af (by omega)]; exact h1),?_⟩
  refine gr ?_
  refine pR ev0 ev0 (Yl.mono (rnd S ch H nx hI hlen hne (by rw [iQ] at hN; exact hN)) ?_)
  rintro r H3 nx3 ⟨rfl,e1,e2,e3⟩
  (have zz:=and_self; repeat' (first|apply a_n|apply a_r|refine zO ?_|refine nvY ?_|refine ak rfl ?_|refine r1Y ?_|fail)) <;> (try clear zz)
  refine ⟨rfl,?_,e2,e3 _ (by omega) (by omega),e3 _ (by omega) (by omega),cX ch,(e3 _ (by omega) (by omega)).trans h3,hc1,by rw [← hlen]; exact hc2⟩
  rw [iQ,List.map_cons,List.map_nil,List.append_nil]
  exact e1
 | succ j ih =>
  intro ch at_ S H nx hk0 hj hN hat hI h1 h2 ⟨C,h3,hc1,hc2⟩
  obtain ⟨g1,g2,g3,g4,g5⟩:=hp _ _ _ hI
  refine Abs.Fn.of_c2 follows yA (Nat.le_of_ble_eq_true rfl) ?_
  simp only [yL,cO,cG,cN,cM,cD,cF,cB,aB,aS]
  have z:decide ((ch.length:Int)=k)=false:=decide_eq_false (by omega)
  (have zz:=aI @g1 (aI @g2 (aI @h1 (aI @h2 @z))); repeat' (first|refine zW ?_|apply a_n|refine zO ?_|refine vY ?_|refine cFY ?_|fail)) <;> (try clear zz)
  refine ba (X:=Nat × List Spx) (fun x=>[(1,.msl (lo + 2) (k * 2) 2 0 ch.length),(4,.ptr sb 1 0),(5,.ptr (lo + 1) 1 0),(9,.int .i64 x.1)]) (fun x H' nx'=>x.1 ≤ s.length∧I x.2 H' nx'∧nx ≤ nx'∧H' lo=H lo∧H' (lo + 1)=H (lo + 1)∧(∃ C,H' (lo + 2)=some C∧C.length=k * 2∧C.take (ch.length * 2)=cX ch)∧x.2 ++ (bq (s.drop x.1) (j + 1)).map (ch ++ ·)=S ++ (bq (s.drop at_) (j + 1)).map (ch ++ ·)) (fun x=>s.length - x.1) (at_,S) ⟨hat,hI,Nat.le_refl _,rfl,rfl,⟨C,h3,hc1,hc2⟩,rfl⟩ ag0 ?_
  rintro ⟨i,S1⟩ H1 nx1 ⟨i1,hI1,i2,i3,i4,⟨C1,k3,d1,d2⟩,htot⟩
  dsimp only at i1 hI1 htot ⊢
  obtain ⟨q1,q2,q3,q4,q5⟩:=hp _ _ _ hI1
  have w1:=i3.trans h1
  have w2:=i4.trans h2
  by_cases hi:i < s.length
  rotate_left
  ·(have zz:=aI @q1 (aI @q2 @ap); repeat' (first|refine zW ?_|apply a_n|apply a_x|refine zO ?_|refine vY ?_|(refine zGY ?_ ?_ <;> (intro _hg; try (exfalso; omega)))|refine ak rfl ?_|refine r1Y ?_|fail)) <;> (try clear zz)
   rw [show s.drop i=[] from List.drop_eq_nil_of_le (by omega),rh,List.map_nil,List.append_nil] at htot
   exact ⟨rfl,by rw [← htot]; exact hI1,i2,i3,i4,C1,k3,d1,d2⟩
  have ix:=ix2 hi
  rw [n6 hi,List.map_append,List.map_map,← List.append_assoc] at htot
  have hmm:(bq (s.drop (i + 1)) j).map ((fun x=>ch ++ x) ∘ fun x=>s.getD i default :: x)=(bq (s.drop (i + 1)) j).map ((ch ++ [s.getD i default]) ++ ·):=List.map_congr_left fun x _=>by simp
  rw [hmm] at htot
  generalize s.getD i default=v at *
  (have zz:=aI @q1 (aI @q2 @ap); repeat' (first|refine zW ?_|apply a_n|refine zO ?_|refine vY ?_|(refine zGY ?_ ?_ <;> (intro _hg; try (exfalso; omega)))|fail)) <;> (try clear zz)
  refine mb sb (lo + 1) q2 w2 (by omega) fun S0 hS1 hS2 hsub=>?_
  (have zz:=aI @hS1 (aI @hS2 @ix); repeat' (first|apply a_n|refine zO ?_|refine nvY ?_|fail)) <;> (try clear zz)
  refine fw ?_
  (have zz:=and_self; repeat' (first|apply a_n|refine zO ?_|refine blY ?_|fail)) <;> (try clear zz)
  refine ⟨hsub _ (by rw [af (by omega)]; exact q2) (by rw [af (by omega)]; exact w2),?_⟩
  refine fw ?_
  refine so (b:=lo + 2) (m:=k * 2) (off:=0) (len:=ch.length) (n:=1) rfl ev0 (by rw [af (by omega)]; exact k3) ev0 oK rfl d1 (fun _=>by omega) (by omega) (by omega) ?_
  refine lg ⟨hsub _ (by rw [af (by omega),af (by omega)]; exact q2) (by rw [af (by omega),af (by omega)]; exact w2),?_⟩
  refine gr ?_
  have hl1:(ch ++ [v]).length=ch.length + 1:=by simp
  have hcc:=dT ch
  have hput:(br C1 (0 + ch.length * 2) [.int .i64 v.color,.int .i64 v.label]).length=k * 2∧(br C1 (0 + ch.length * 2) [.int .i64 v.color,.int .i64 v.label]).take ((ch.length + 1) * 2)=cX (ch ++ [v]):=by
   rw [Nat.zero_add]
   simp only [br]
   refine ⟨by simp [d1]; omega,?_⟩
   rw [d2,g9,yN,List.take_append_of_le_length (by simp [hcc]; omega),List.take_of_length_le (by simp [hcc]; omega)]
  have hN1:S1.length + (bq (s.drop (i + 1)) j).length ≤ N:=by
   have:=congrArg List.length htot
   simp only [List.length_append,List.length_map] at this
   omega
  have hih:=ih (ch ++ [v]) (i + 1) S1 (aq (aq H1 nx1 [.int .i64 v.color,.int .i64 v.label]) (lo + 2) (br C1 (0 + ch.length * 2) [.int .i64 v.color,.int .i64 v.label])) (nx1 + 1) hk0 (by omega) hN1 (by omega) (stab _ _ _ _ _ hI1 (by omega) (fun x hx hn=>by rw [af (by omega),af (by omega)])) (by rw [af (by omega),af (by omega)]; exact w1) (by rw [af (by omega),af (by omega)]; exact w2) ⟨_,ah,hput.1,by rw [hl1]; exact hput.2⟩
  rw [hl1,show ((i + 1:Nat):Int)=(i:Int) + 1 by omega] at hih
  refine aV ev0 ev0 hih ?_
  rintro r H4 nx4 ⟨rfl,f1,f2,f3,f4,C4,f5,f6,f7⟩
  (have zz:=and_self; repeat' (first|apply a_n|refine zO ?_|refine vY ?_|refine nvY ?_|refine cFY ?_|fail)) <;> (try clear zz)
  refine ⟨(i + 1,S1 ++ (bq (s.drop (i + 1)) j).map ((ch ++ [v]) ++ ·)),by dsimp only; omega,⟨by dsimp only; omega,f1,by omega,f3.trans ?_,f4.trans ?_,⟨C4,f5,f6,?_⟩,htot⟩,ag0⟩
  ·rw [af (by omega),af (by omega)]; exact i3
  ·rw [af (by omega),af (by omega)]; exact i4
  ·have:=congrArg (List.take (ch.length * 2)) f7
   rw [List.take_take,Nat.min_eq_left (by omega),g9,List.take_append_of_le_length (by omega)] at this
   rw [this]
   exact List.take_of_length_le (by omega)
end Go.Proofs.Ytfcenbapjhecfaa
namespace Go.Proofs.Ytfcenbapjhecfaa
open Go Go.Abs
open Nat (reduceEqDiff reduceAdd reduceLeDiff)
attribute [local irreducible] aD aj aX aP aH aK az aL aR bd Go.Abs.Fn aO Go.Abs.Pure av aF Yl
theorem v5 {y kb sb k:Nat} {s:Spx} {H:Hp} {nx:Nat} (hs:s.length ≤ 1000) (hk0:0 < k) (hk:k ≤ 1000) (I:List Spx→Hp→Nat→Prop)
    (hp:∀ S H nx',I S H nx'→H kb=some [.int .i64 k]∧H sb=some [aw s]∧nx + 3 ≤ nx'∧kb < nx∧sb < nx)
    (stab:∀ S H H' nx1 nx',I S H nx1→nx1 ≤ nx'→(∀ i,i < nx1→¬ (nx ≤ i∧i < nx + 3)→H' i=H i)→I S H' nx')
    (rnd:∀ S f H nx1,I S H nx1→f.length=k→f ≠ []→S.length < (bq s k).length→Yl Try.prog y [.msl nx1 (k * 2) 2 0 k] (aq H nx1 (cX f)) (nx1 + 1) fun r H' nx'=>r=.bool true∧I (S ++ [f]) H' nx'∧nx1 ≤ nx'∧∀ i,nx ≤ i→i < nx + 3→H' i=H i)
    (gk:H kb=some [.int .i64 k]) (lk:kb < nx) (h0:∀ H',(∀ i,i < nx→H' i=H i)→I [] H' (nx + 3)) :
    Abs.Fn Try.prog 117 [.yld y,.ptr kb 1 0,.ptr sb 1 0] H nx fun _ H' nx'=>I (bq s k) H' nx':=by
 refine Abs.Fn.of_c2 follows Ar (Nat.le_of_ble_eq_true rfl) ?_
 simp only [AX,cO,cG,cN,cM,cD,cF,cB,aB,aS]
 (have zz:=@gk; repeat' (first|refine zW ?_|apply a_n|refine zO ?_|refine vY ?_|refine alY ?_|refine bxY ?_|refine stY ?_|fail)) <;> (try clear zz)
 generalize hH:aq (aq (aq H nx [.yld y]) (nx + 1) [.nilf]) (nx + 1) (br [.nilf] 0 [.func 118 [.ptr kb 1 0,.ptr nx 1 0,.ptr sb 1 0,.ptr (nx + 1) 1 0]])=H1
 have hfn:H1 (nx + 1)=some [.func 118 [.ptr kb 1 0,.ptr nx 1 0,.ptr sb 1 0,.ptr (nx + 1) 1 0]]:=by rw [← hH,ah]; rfl
 have hfk:H1 kb=some [.int .i64 k]:=by rw [← hH,af (by omega),af (by omega),af (by omega)]; exact gk
 have hfy:H1 nx=some [.yld y]:=by rw [← hH,af (by omega),af (by omega),ah]
 have hfo:∀ i,i < nx→H1 i=H i:=fun i hi=>by rw [← hH,af (by omega),af (by omega),af (by omega)]
 clear hH
 refine mb kb (nx + 1) hfk hfn (by omega) fun S0 hS1 hS2 hsub=>?_
 (have zz:=aI @hS1 @hS2; repeat' (first|apply a_n|refine zO ?_|refine nvY ?_|fail)) <;> (try clear zz)
 refine fw ?_
 refine sP (k1:=.i64) (k2:=.i64) (n:=0) (m:=k) rfl ev0 ev0 (Int.le_refl _) (by omega) (by omega) (by omega) ?_
 refine lg ⟨hsub _ (by rw [af (by omega)]; exact hfk) (by rw [af (by omega)]; exact hfn),?_⟩
 refine gr ?_
 have hz:(aY (AV.agg [AV.int .i64 0,AV.int .i64 0]) k).length=k * 2:=by simp [aY,AV.cells]
 have hih:=zx (y:=y) (N:=(bq s k).length) (lo:=nx) (kb:=kb) (sb:=sb) (k:=k) (s:=s) hs hk I hp stab rnd k [] 0 [] (aq H1 (nx + 2) (aY (AV.agg [AV.int .i64 0,AV.int .i64 0]) k)) (nx + 3) hk0 (by simp) (by simp) (Nat.zero_le _) (h0 _ (fun i hi=>by rw [af (by omega)]; exact hfo i hi)) (by rw [af (by omega)]; exact hfy) (by rw [af (by omega)]; exact hfn) ⟨_,ah,hz,rfl⟩
 refine aV ev0 (by ((try simp only [bR,ZA,reduceEqDiff,↓reduceIte,reduceAdd,reduceLeDiff]); (try with_reducible rfl)); rfl) hih ?_
 rintro r H4 nx4 ⟨rfl,f1,-⟩
 (have zz:=and_self; repeat' (first|apply a_n|refine zO ?_|apply yi|refine ak rfl ?_|fail)) <;> (try clear zz)
 rw [List.drop_zero,List.nil_append,show (fun x:Spx=>([]:Spx) ++ x)=id from rfl,List.map_id] at f1
 exact f1
theorem rt {kb sb k:Nat} {s:Spx} {H:Hp} {nx:Nat} (hs:s.length ≤ 8) (hk0:0 < k) (hk:k ≤ 1000) (gk:H kb=some [.int .i64 k]) (gs:H sb=some [aw s]) (lk:kb < nx) (ls:sb < nx) :
    Abs.Fn Try.prog 116 [.esl,.func 117 [.ptr kb 1 0,.ptr sb 1 0]] H nx fun r H' nx'=>Row H' 1 r ((bq s k).map aw)∧nx ≤ nx'∧∀ b',bT r=some b'→nx ≤ b'∧b' < nx':=by
 refine Abs.Fn.of_c2 follows AA (Nat.le_of_ble_eq_true rfl) ?_
 simp only [Aa,cO,cG,cN,cM,cD,cF,cB,aB,aS]
 (have zz:=and_self; repeat' (first|refine zW ?_|apply a_n|refine zO ?_|refine vY ?_|refine bxY ?_|fail)) <;> (try clear zz)
 refine ij (nx + 1) (nx + 2) rfl rfl ev0 (fun c0 cj hy=>?_)
 refine Abs.Fn.mono (v5 (nx:=nx + 2) (kb:=kb) (sb:=sb) (k:=k) (s:=s) (by omega) hk0 hk (fun S H' nx'=>nx + 5 ≤ nx'∧H' kb=some [.int .i64 k]∧H' sb=some [aw s]∧H' (nx + 1)=some [c0]∧∃ sv,H' nx=some [sv]∧Row H' 1 sv (S.map aw)∧∀ b',bT sv=some b'→nx + 5 ≤ b'∧b' < nx') ?_ ?_ ?_ ?_ ?_ ?_) ?_
 ·rintro S H' nx' ⟨h1,h2,h3,h4,h5⟩
  exact ⟨h2,h3,by omega,by omega,by omega⟩
 ·rintro S H1 H2 a c ⟨h1,h2,h3,h4,sv,h5,h6,h7⟩ hac hs'
  refine ⟨by omega,(hs' _ (by omega) (by omega)).trans h2,(hs' _ (by omega) (by omega)).trans h3,(hs' _ (by omega) (by omega)).trans h4,sv,(hs' _ (by omega) (by omega)).trans h5,h6.same (fun b' hb'=>hs' _ (h7 b' hb').2 (by have:=h7 b' hb'; omega)),fun b' hb'=>⟨(h7 b' hb').1,by have:=h7 b' hb'; omega⟩⟩
 ·rintro S f H' nx' ⟨h1,h2,h3,h4,sv,h5,h6,h7⟩ hfl hf0 hSN
  have h4':aq H' nx' (cX f) (nx + 1)=some [c0]:=by rw [af (by omega)]; exact h4
  refine hy _ _ _ _ h4' rfl ?_
  clear hy
  (have zz:=and_self; repeat' (first|apply a_n|refine zO ?_|refine vZ ?_|fail)) <;> (try clear zz)
  refine ⟨h4',?_⟩
  have hS70:=Nat.lt_of_lt_of_le hSN (ji (k:=k) hs)
  have hd:bK (aq H' nx' (cX f)) (nx + 1) nx'=some (cX f):=by rw [bJ (by omega),ah]
  have hdo:∀ x,x < nx'→x ≠ nx + 1→bK (aq H' nx' (cX f)) (nx + 1) x=H' x:=fun x a b=>by rw [bJ b,af (by omega)]
  generalize bK (aq H' nx' (cX f)) (nx + 1)=H1 at *
  refine f8 ?_
  refine tT (only nx' (cX f)) (bK H1 nx') [(2,.ptr nx 1 0),(5,aw f)] (Fz.one hd) ⟨.inl rfl,.inr (w9 (s:=.msl nx' (k * 2) 2 0 k) (by rw [← hfl]; exact Row.box nx' f.length (cX f) jK (dT f))),trivial⟩ ?_
  have he:∀ x,x < nx'→x ≠ nx + 1→bK H1 nx' x=H' x:=fun x a b=>by rw [bJ (by omega)]; exact hdo x a b
  have g5:bK H1 nx' nx=some [sv]:=(he nx (by omega) (by omega)).trans h5
  clear hd hdo
  generalize bK H1 nx'=H2 at *
  (have zz:=aI @g5 (aI @aA @ax); repeat' (first|apply a_n|refine zO ?_|refine vY ?_|refine blY ?_|fail)) <;> (try clear zz)
  refine dK rfl ev0 (h6.same fun b' hb'=>?_) ev0 bC rfl rfl Nat.one_pos (by rw [List.length_map]; omega) (by rw [List.length_map]; omega) ?_
  ·have:=h7 b' hb'
   rw [af (by omega)]; exact he _ (by omega) (by omega)
  rintro sv' H3 nx3 r1 r2 r3 r4 r5
  have zs:∀ x,x < nx + 5→bT sv ≠ some x:=fun x hx e=>by have:=h7 x e; omega
  have z:∀ x,x < nx'→x ≠ nx + 1→bT sv ≠ some x→H3 x=H' x:=fun x a1 a2 a3=>(r4 x (by omega) a3).trans (by rw [af (by omega)]; exact he x a1 a2)
  have g6:H3 nx=some [sv]:=(z nx (by omega) (by omega) (zs _ (by omega))).trans h5
  obtain ⟨q1,q2⟩:=r1.one
  (have zz:=aI @g6 (aI @q1 @q2); repeat' (first|apply a_n|refine zO ?_|refine stY ?_|fail)) <;> (try clear zz)
  have w:∀ x,x ≠ nx→x ≠ nx + 1→aq (aq H3 nx (br [sv] 0 [sv'])) (nx + 1) [c0] x=H3 x:=fun x a1 a2=>by rw [af a2,af a1]
  have u7:∀ b',bT sv'=some b'→nx + 5 ≤ b'∧b' < nx3:=fun b' hb'=>by
   rcases r5 b' hb' with e | ⟨e1,e2⟩
   ·have:=h7 b' e; omega
   ·omega
  refine ⟨rfl,⟨by omega,?_,?_,ah,sv',?_,?_,u7⟩,by omega,fun x x1 x2=>?_⟩
  ·rw [w _ (by omega) (by omega),z _ (by omega) (by omega) (zs _ (by omega)),h2]
  ·rw [w _ (by omega) (by omega),z _ (by omega) (by omega) (zs _ (by omega)),h3]
  ·rw [af (by omega),ah]; rfl
  ·rw [List.map_append]
   exact r1.same (fun b' hb'=>w b' (by have:=u7 b' hb'; omega) (by have:=u7 b' hb'; omega))
  ·rw [w _ (by omega) (by omega),z _ (by omega) (by omega) (zs _ (by omega))]
 ·rw [af (by omega),af (by omega)]; exact gk
 ·omega
 ·intro H' hH'
  refine ⟨by omega,?_,?_,?_,.esl,?_,.nil,fun b' hb'=>(by cases hb')⟩
  ·rw [hH' _ (by omega),af (by omega),af (by omega),gk]
  ·rw [hH' _ (by omega),af (by omega),af (by omega),gs]
  ·rw [hH' _ (by omega),ah]
  ·rw [hH' _ (by omega),af (by omega),ah]
 ·rintro r H' nx' ⟨h1,h2,h3,h4,sv,h5,h6,h7⟩
  refine .inl ⟨h4,?_⟩
  (have zz:=@h5; repeat' (first|refine zW ?_|apply a_n|refine zO ?_|refine vY ?_|refine ak rfl ?_|refine r1Y ?_|fail)) <;> (try clear zz)
  exact ⟨h6.same (fun b' hb'=>bJ (by have:=h7 b' hb'; omega)),by omega,fun b' hb'=>by have:=h7 b' hb'; omega⟩
end Go.Proofs.Ytfcenbapjhecfaa
namespace Go.Proofs.Ytfcenbapjhecfaa
open Go Go.Abs
end Go.Proofs.Ytfcenbapjhecfaa
namespace Go.Proofs.Ytfcenbapjhecfaa
open Go Go.Abs
attribute [local irreducible] aD aj aX aP aH aK az aL aR bd Go.Abs.Fn aO Go.Abs.Pure av aF Yl
end Go.Proofs.Ytfcenbapjhecfaa
namespace Go.Proofs.Ytfcenbapjhecfaa
open Go Go.Abs
def ma (s:Spx) (k:Int):List Spx × Int:=if bj s ≠ 0 then ([],bj s) else if k < 1 ∨ (s.length:Int) < k then ([],2) else (bq s k.toNat,0)
theorem cA {H:Hp} {s:AV} {l:List Spx} {e f:Int} (h:Snap H s (ar l)) (he:e=f):Snap H (.tup [s,.int .i64 e]) (.tup [ar l,.int .i64 f]):=by
 subst he; exact e7 (ao h (ao (.int _ _) aa))
attribute [local irreducible] aD aj aX aP aH aK az aL aR bd Go.Abs.Fn aO Go.Abs.Pure av aF Yl
theorem we (s:Spx) (k:Nat) (H:Hp) (nx:Nat):Abs.Fn Try.prog 110 [aw s,.int .i64 k] H nx fun r H' nx'=>r=.func 117 [.ptr (nx + 1) 1 0,.ptr nx 1 0]∧H'=aq (aq H nx [aw s]) (nx + 1) [.int .i64 k]∧nx'=nx + 2:=by
 refine Abs.Fn.of_c2 follows Ad (Nat.le_of_ble_eq_true rfl) ?_
 simp only [zG,cO,cG,cN,cM,cD,cF,cB,aB,aS]
 (have zz:=aI @aA @ax; repeat' (first|refine zW ?_|apply a_n|refine zO ?_|refine vY ?_|refine bxY ?_|refine ak rfl ?_|refine r1Y ?_|fail)) <;> (try clear zz)
 exact ⟨rfl,rfl,rfl⟩
theorem uV {kb sb k:Nat} {s:Spx} {H:Hp} {nx:Nat} (hs:s.length ≤ 8) (hk0:0 < k) (hk:k ≤ 1000) (gk:H kb=some [.int .i64 k]) (gs:H sb=some [aw s]) (lk:kb < nx) (ls:sb < nx) :
    Abs.Fn Try.prog 109 [.func 117 [.ptr kb 1 0,.ptr sb 1 0]] H nx fun r H' nx'=>Row H' 1 r ((bq s k).map aw)∧nx ≤ nx':=by
 refine Abs.Fn.of_c2 follows zT (Nat.le_of_ble_eq_true rfl) ?_
 simp only [Aw,cO,cG,cN,cM,cD,cF,cB,aB,aS]
 (have zz:=and_self; repeat' (first|refine zW ?_|apply a_n|refine zO ?_|refine vY ?_|fail)) <;> (try clear zz)
 refine aV ev0 ev0 (rt hs hk0 hk gk gs lk ls) ?_
 rintro r H1 nx1 ⟨r1,r2,r3⟩
 obtain ⟨q1,q2⟩:=r1.one
 (have zz:=aI @q1 @q2; repeat' (first|apply a_n|refine zO ?_|refine vY ?_|refine ak rfl ?_|refine r1Y ?_|fail)) <;> (try clear zz)
 exact ⟨r1,r2⟩
theorem vQ (s:Spx) (k:Int) (hs:Shn s):Pure Try.prog 95 [aw s,.int .i64 k] (.tup [ar (ma s k).1,.int .i64 (ma s k).2]):=by
 refine Pure.of_c2 follows B5 (Nat.le_of_ble_eq_true rfl) ?_
 simp only [b95,cO,cG,cN,cM,cD,cF,cB,aB,aS]
 have hc:=jN s hs
 unfold ma
 by_cases he:bj s=0
 rotate_left
 ·rw [if_pos he]
  have z:decide (bj s ≠ 0)=true:=decide_eq_true he
  (have zz:=@z; repeat' (first|refine zW ?_|apply a_n|apply a_r|refine zO ?_|refine vY ?_|refine cY ?_ (hp:=hc) (hs:=by (first | refine ac ?_ rfl | apply ag); (repeat' (first | exact aa | apply an | apply ai | exact ay _)); first | done | fail)|refine cTY ?_|refine ak rfl ?_|refine r2Y ?_|fail)) <;> (try clear zz)
  exact cA (.eslsl _) rfl
 rw [if_neg (fun h=>h he)]
 rw [he] at hc
 obtain ⟨p1,p2,p3,p4⟩:=cz he
 have z0:decide ((0:Int) ≠ 0)=false:=rfl
 by_cases hk:k < 1 ∨ (s.length:Int) < k
 ·rw [if_pos hk]
  (have zz:=aI @z0 @ap; repeat' (first|refine zW ?_|apply a_n|apply a_r|refine zO ?_|refine vY ?_|refine cY ?_ (hp:=hc) (hs:=by (first | refine ac ?_ rfl | apply ag); (repeat' (first | exact aa | apply an | apply ai | exact ay _)); first | done | fail)|refine gTY ?_|refine gFY ?_|refine cTY ?_|refine cFY ?_|(refine zGY ?_ ?_ <;> (intro _hg; try (exfalso; omega)))|refine ak rfl ?_|refine r2Y ?_|fail)) <;> (try clear zz)
  all_goals first | exact cA (.eslsl _) rfl | (exfalso; omega)
 rw [if_neg hk]
 obtain ⟨n,rfl⟩:∃ n:Nat,k=n:=⟨k.toNat,by omega⟩
 rw [Int.toNat_natCast]
 (have zz:=aI @z0 @ap; repeat' (first|refine zW ?_|apply a_n|refine zO ?_|refine vY ?_|refine cY ?_ (hp:=hc) (hs:=by (first | refine ac ?_ rfl | apply ag); (repeat' (first | exact aa | apply an | apply ai | exact ay _)); first | done | fail)|refine gTY ?_|refine cFY ?_|(refine zGY ?_ ?_ <;> (intro _hg; try (exfalso; omega)))|fail)) <;> (try clear zz)
 refine aV ev0 ev0 (we s n _ _) ?_
 rintro _ H1 nx1 ⟨rfl,rfl,rfl⟩
 refine aV ev0 ev0 (uV (kb:=0 + 1) (sb:=0) (k:=n) (s:=s) p2 (by omega) (by omega) ah (by rw [af (by omega),ah]) (by omega) (by omega)) ?_
 rintro r H2 nx2 ⟨r1,r2⟩
 obtain ⟨q1,q2⟩:=r1.one
 (have zz:=aI @q1 @q2; repeat' (first|apply a_n|refine zO ?_|refine vY ?_|refine ak rfl ?_|refine r2Y ?_|fail)) <;> (try clear zz)
 exact cA (eD r1) rfl
end Go.Proofs.Ytfcenbapjhecfaa
namespace Go.Proofs.Ytfcenbapjhecfaa
open Go Go.Abs
def pe (l:List Spx) (v:Spx) (k:Nat):List Spx:=if (l.take k).any (fun y=>decide (aM v y < 0))=true then f0 aM (l.take k) v else l.take k
theorem uP {l:List Spx} {v:Spx} {k:Nat} (hk:k < l.length):pe l v (k + 1)=(if (l.take k).any (fun y=>decide (aM v y < 0))=false∧aM v (l.getD k default) < 0 then pe l v k ++ [v] else pe l v k) ++ [l.getD k default]∧(l.take (k + 1)).any (fun y=>decide (aM v y < 0))=((l.take k).any (fun y=>decide (aM v y < 0)) || decide (aM v (l.getD k default) < 0)):=by
 unfold pe
 rw [bB hk,wB]
 refine ⟨?_,rfl⟩
 by_cases hv:aM v (l.getD k default) < 0
 ·rw [decide_eq_true hv,Bool.or_true,if_pos rfl]
  cases ha:(l.take k).any fun y=>decide (aM v y < 0)
  ·rw [if_pos ⟨rfl,hv⟩,if_neg (by decide),uJ ha hv]
  ·rw [if_neg (fun h=>by cases h.1),if_pos rfl,qO ha]
 ·rw [decide_eq_false hv,Bool.or_false]
  cases ha:(l.take k).any fun y=>decide (aM v y < 0)
  ·simp
   simpa using hv
  ·simp [hv,qO ha]
theorem vR {l:List Spx} {v:Spx} {k:Nat}:(pe l v k).length ≤ l.length + 1:=by
 unfold pe
 split
 ·rw [qX,List.length_take]; omega
 ·rw [List.length_take]; omega
attribute [local irreducible] aD aj aX aP aH aK az aL aR bd Go.Abs.Fn aO Go.Abs.Pure av aF Yl
theorem xw (l:List Spx) (v:Spx) (hl:l.length ≤ 1000000) (hs:∀ s ∈ l,Shn s) (hv:Shn v):Pure Try.prog 67 [ar l,aw v] (ar (gy aM l v)):=by
 refine Pure.of_c2 follows B4 (Nat.le_of_ble_eq_true rfl) ?_
 simp only [b67,cO,cG,cN,cM,cD,cF,cB,aB,aS]
 (have zz:=@ae; repeat' (first|refine zW ?_|apply a_n|refine zO ?_|refine vY ?_|fail)) <;> (try clear zz)
 refine ba (X:=Nat × AV) (fun x=>[(0,ar l),(1,aw v),(5,x.2),(6,.bool ((l.take x.1).any fun y=>decide (aM v y < 0))),(7,.int .i64 x.1)]) (fun x H nx=>x.1 ≤ l.length∧Row H 1 x.2 ((pe l v x.1).map aw)∧(∀ b,bT x.2=some b→b < nx)∧∀ i,i < x.1→l.getD i default ≠ v) (fun x=>l.length - x.1) (0,.esl) ⟨Nat.zero_le _,Row.nil,fun b h=>(by cases h),fun i h=>absurd h (by omega)⟩ (by (iterate 5 refine And.intro rfl ?_); trivial) ?_
 rintro ⟨k,sv⟩ H nx ⟨hk,hrow,hbd,hne⟩
 dsimp only at hk hrow hbd hne ⊢
 by_cases hk2:k < l.length
 rotate_left
 ·obtain rfl:k=l.length:=by omega
  unfold pe at hrow
  rw [List.take_length] at hrow ⊢
  have hnm:v ∉ l:=fun hm=>by
   obtain ⟨i,hi,e⟩:=List.getElem_of_mem hm
   exact hne i hi (by simp [List.getD,hi,e])
  unfold gy
  rw [if_neg hnm]
  cases ha:l.any fun y=>decide (aM v y < 0)
  ·rw [ha,if_neg (by decide)] at hrow
   (have zz:=aI @ae (aI @aA @ax); repeat' (first|refine zW ?_|apply a_n|apply a_x|refine zO ?_|refine vY ?_|refine blY ?_|refine cTY ?_|(refine zGY ?_ ?_ <;> (intro _hg; try (exfalso; omega)))|fail)) <;> (try clear zz)
   refine dK rfl ev0 (hrow.same fun b hb=>?_) ev0 bC rfl rfl (by omega) (by simp; omega) (by simp; omega) ?_
   ·have:=hbd b hb; rw [af (by omega)]
   rintro s2 H2 nx2 hr2 _ _ _ _
   obtain ⟨o1,o2⟩:=hr2.one
   (have zz:=aI @o1 @o2; repeat' (first|refine zW ?_|apply a_n|refine zO ?_|refine vY ?_|refine ak rfl ?_|refine r1Y ?_|fail)) <;> (try clear zz)
   rw [ur ha]
   refine eD ?_
   rw [List.map_append]; exact hr2
  ·rw [ha,if_pos rfl] at hrow
   obtain ⟨o1,o2⟩:=hrow.one
   (have zz:=aI @ae (aI @o1 @o2); repeat' (first|refine zW ?_|apply a_n|apply a_x|refine zO ?_|refine vY ?_|refine cFY ?_|(refine zGY ?_ ?_ <;> (intro _hg; try (exfalso; omega)))|refine ak rfl ?_|refine r1Y ?_|fail)) <;> (try clear zz)
   exact eD hrow
 have ix:=dp hk2
 have hc:=gg v (l.getD k default) hv (hs _ (aQ hk2))
 have hz:=@oI v (l.getD k default)
 obtain ⟨e1,e2⟩:=uP (v:=v) hk2
 have hl1:((pe l v k).map aw).length ≤ 1000001:=by rw [List.length_map]; have:=vR (l:=l) (v:=v) (k:=k); omega
 have hmem:l.getD k default ∈ l:=aQ hk2
 by_cases h0:aM v (l.getD k default)=0
 ·have e:=hz.1 h0
  have hp:gy aM l v=l:=by unfold gy; rw [if_pos (by rw [e]; exact hmem)]
  rw [hp]
  rw [h0] at hc
  have z0:decide ((0:Int)=0)=true:=rfl
  generalize l.getD k default=w at *
  (have zz:=aI @ae (aI @ix (aI @z0 (aI @aA @ax))); repeat' (first|refine zW ?_|apply a_n|apply a_r|refine zO ?_|refine vY ?_|refine cY ?_ (hp:=hc) (hs:=by (first | refine ac ?_ rfl | apply ag); (repeat' (first | exact aa | apply an | apply ai | exact ay _)); first | done | fail)|(refine zGY ?_ ?_ <;> (intro _hg; try (exfalso; omega)))|refine ak rfl ?_|refine r1Y ?_|fail)) <;> (try clear zz)
  exact aC _ _
 have hnew:∀ i,i < k + 1→l.getD i default ≠ v:=fun i hi=>by
  rcases Nat.lt_succ_iff_lt_or_eq.1 hi with h' | rfl
  ·exact hne i h'
  ·exact fun e=>h0 (hz.2 e.symm)
 have z0:decide (aM v (l.getD k default)=0)=false:=decide_eq_false h0
 by_cases hd:(l.take k).any (fun y=>decide (aM v y < 0))=false∧aM v (l.getD k default) < 0
 ·rw [if_pos hd] at e1
  rw [hd.1,decide_eq_true hd.2,Bool.false_or] at e2
  obtain ⟨d1,d2⟩:=hd
  rw [d1]
  have z:decide (aM v (l.getD k default) < 0)=true:=decide_eq_true d2
  generalize aM v (l.getD k default)=cv at *
  generalize l.getD k default=w at *
  (have zz:=aI @ae (aI @ix (aI @z (aI @z0 (aI @aA @ax)))); repeat' (first|refine zW ?_|apply a_n|refine zO ?_|refine vY ?_|refine cY ?_ (hp:=hc) (hs:=by (first | refine ac ?_ rfl | apply ag); (repeat' (first | exact aa | apply an | apply ai | exact ay _)); first | done | fail)|refine blY ?_|refine gTY ?_|refine cTY ?_|refine cFY ?_|(refine zGY ?_ ?_ <;> (intro _hg; try (exfalso; omega)))|fail)) <;> (try clear zz)
  refine dK rfl ev0 (hrow.same fun b hb=>?_) ev0 bC rfl rfl (by omega) (by omega) (by omega) ?_
  ·have:=hbd b hb; rw [af (by omega)]
  rintro s1 H1 nx1 hr1 j1 j2 j3 j4
  have hb1:∀ b,bT s1=some b→b < nx1:=fun b hb=>by
   rcases j4 b hb with h | h
   ·have:=hbd b h; omega
   ·omega
  obtain ⟨o1,o2⟩:=hr1.one
  (have zz:=aI @ix (aI @o1 (aI @o2 (aI @aA @ax))); repeat' (first|apply a_n|refine zO ?_|refine vY ?_|refine blY ?_|fail)) <;> (try clear zz)
  refine dK rfl ev0 (hr1.same fun b hb=>?_) ev0 bC rfl rfl (by omega) (by simp at hl1 ⊢; omega) (by simp at hl1 ⊢; omega) ?_
  ·have:=hb1 b hb; rw [af (by omega)]
  rintro s2 H2 nx2 hr2 i1 i2 i3 i4
  (have zz:=@e2; repeat' (first|apply a_n|refine zO ?_|refine vY ?_|fail)) <;> (try clear zz)
  refine ⟨(k + 1,s2),by dsimp only; omega,⟨by dsimp only; omega,?_,fun b hb=>?_,hnew⟩,(have zz:=@e2; agZ)⟩
  ·dsimp only
   rw [e1,List.map_append,List.map_append]; exact hr2
  ·rcases i4 b hb with h | h
   ·have:=hb1 b h; omega
   ·omega
 rw [if_neg hd] at e1
 cases ha:(l.take k).any fun y=>decide (aM v y < 0)
 ·have d2:¬ aM v (l.getD k default) < 0:=fun h=>hd ⟨ha,h⟩
  rw [ha,decide_eq_false d2,Bool.false_or] at e2
  have z:decide (aM v (l.getD k default) < 0)=false:=decide_eq_false d2
  generalize aM v (l.getD k default)=cv at *
  generalize l.getD k default=w at *
  (have zz:=aI @ae (aI @ix (aI @z (aI @z0 (aI @aA @ax)))); repeat' (first|refine zW ?_|apply a_n|refine zO ?_|refine vY ?_|refine cY ?_ (hp:=hc) (hs:=by (first | refine ac ?_ rfl | apply ag); (repeat' (first | exact aa | apply an | apply ai | exact ay _)); first | done | fail)|refine blY ?_|refine gTY ?_|refine cFY ?_|(refine zGY ?_ ?_ <;> (intro _hg; try (exfalso; omega)))|fail)) <;> (try clear zz)
  refine dK rfl ev0 (hrow.same fun b hb=>?_) ev0 bC rfl rfl (by omega) (by omega) (by omega) ?_
  ·have:=hbd b hb; rw [af (by omega)]
  rintro s2 H2 nx2 hr2 i1 i2 i3 i4
  (have zz:=@e2; repeat' (first|apply a_n|refine zO ?_|refine vY ?_|fail)) <;> (try clear zz)
  refine ⟨(k + 1,s2),by dsimp only; omega,⟨by dsimp only; omega,?_,fun b hb=>?_,hnew⟩,(have zz:=@e2; agZ)⟩
  ·dsimp only
   rw [e1,List.map_append]; exact hr2
  ·rcases i4 b hb with h | h
   ·have:=hbd b h; omega
   ·omega
 ·rw [ha,Bool.true_or] at e2
  generalize aM v (l.getD k default)=cv at *
  generalize l.getD k default=w at *
  (have zz:=aI @ae (aI @ix (aI @z0 (aI @aA @ax))); repeat' (first|refine zW ?_|apply a_n|refine zO ?_|refine vY ?_|refine cY ?_ (hp:=hc) (hs:=by (first | refine ac ?_ rfl | apply ag); (repeat' (first | exact aa | apply an | apply ai | exact ay _)); first | done | fail)|refine blY ?_|refine gFY ?_|refine cFY ?_|(refine zGY ?_ ?_ <;> (intro _hg; try (exfalso; omega)))|fail)) <;> (try clear zz)
  refine dK rfl ev0 (hrow.same fun b hb=>?_) ev0 bC rfl rfl (by omega) (by omega) (by omega) ?_
  ·have:=hbd b hb; rw [af (by omega)]
  rintro s2 H2 nx2 hr2 i1 i2 i3 i4
  (have zz:=@e2; repeat' (first|apply a_n|refine zO ?_|refine vY ?_|fail)) <;> (try clear zz)
  refine ⟨(k + 1,s2),by dsimp only; omega,⟨by dsimp only; omega,?_,fun b hb=>?_,hnew⟩,(have zz:=@e2; agZ)⟩
  ·dsimp only
   rw [e1,List.map_append]; exact hr2
  ·rcases i4 b hb with h | h
   ·have:=hbd b h; omega
   ·omega
end Go.Proofs.Ytfcenbapjhecfaa
namespace Go.Proofs.Ytfcenbapjhecfaa
open Go Go.Abs
attribute [local irreducible] aD aj aX aP aH aK az aL aR bd Go.Abs.Fn aO Go.Abs.Pure av aF Yl
end Go.Proofs.Ytfcenbapjhecfaa
namespace Go.Proofs.Ytfcenbapjhecfaa
open Go Go.Abs
theorem qC {H:Hp} {t x x':AV} {cs c:List AV} {nb:Nat} (hrow:Row H 1 t (cs ++ [x])) (hx:H nb=some c) (hs:Snap (only nb c) x x') (hne:bT t ≠ some nb):∃ H',Fz (only nb c) H H'∧Row H' 1 t (cs ++ [x'])∧∀ y,y ≠ nb→bT t ≠ some y→H' y=H y:=by
 generalize hcs:cs ++ [x]=ds at hrow
 cases hrow with
 | nil=>exact absurd (congrArg List.length hcs) (by simp)
 | box b len ds g1 g2 =>
  have hb:b ≠ nb:=fun e=>hne (by rw [e]; rfl)
  refine ⟨aq (bK H nb) b (cs ++ [x']),⟨fun y d h=>?_,fun y d h=>?_⟩,Row.box b len _ ah (by rw [← g2,← hcs]; simp),fun y h1 h2=>?_⟩
  ·unfold only at h
   split at h
   ·rename_i e; rw [e,hx]; exact h
   ·cases h
  ·by_cases e:y=b
   ·subst e
    rw [ah] at h; cases h
    exact ⟨ds,g1,if_neg hb,by rw [← hcs]; exact eM.snoc hs⟩
   ·rw [af e] at h
    by_cases e2:y=nb
    ·rw [e2] at h; exact absurd h (by simp [bK])
    ·rw [bJ e2] at h
     exact ⟨d,h,if_neg e2,eM.refl _ _⟩
  ·rw [af (fun e=>h2 (by rw [e]; rfl)),bJ h1]
theorem mM {l:Spx} {k:Nat} (h:k ≤ l.length):ip 2 (aw l) (some (.int .i64 k)) none none=some (aw (l.drop k)):=eF h
attribute [local irreducible] aD aj aX aP aH aK az aL aR bd Go.Abs.Fn aO Go.Abs.Pure av aF Yl
theorem rT:∀ (k:Nat) (s:Spx),k ≤ 1000→s.length ≤ 8→Pure Try.prog 66 [aw s,.int .i64 k] (ar (bq s k)):=by
 intro k
 induction k with
 | zero =>
  intro s hkk hs
  refine Pure.of_c2 follows AW (Nat.le_of_ble_eq_true rfl) ?_
  simp only [b66,cO,cG,cN,cM,cD,cF,cB,aB,aS]
  rw [iQ]
  have z:decide (((0:Nat):Int)=0)=true:=rfl
  (have zz:=@z; repeat' (first|refine zW ?_|apply a_n|apply a_r|refine zO ?_|refine vY ?_|refine blY ?_|refine cTY ?_|refine ak rfl ?_|refine r1Y ?_|fail)) <;> (try clear zz)
  refine fK (l:=[aw []]) ah rfl (by simp) rfl (fun y hy=>?_) (fun i a c ha hc=>?_)
  ·simp at hy; subst hy; rfl
  ·match i with
   | 0=>simp at ha hc; subst ha hc; exact .eslsl 2
 | succ k ih =>
  intro s hkk hs
  refine Pure.of_c2 follows AW (Nat.le_of_ble_eq_true rfl) ?_
  simp only [b66,cO,cG,cN,cM,cD,cF,cB,aB,aS]
  have z:decide (((k + 1:Nat):Int)=0)=false:=decide_eq_false (by omega)
  have htot:=ji (l:=s) (k:=k + 1) hs
  (have zz:=@z; repeat' (first|refine zW ?_|apply a_n|refine zO ?_|refine vY ?_|refine cFY ?_|fail)) <;> (try clear zz)
  refine ba (X:=Nat × AV × List Spx) (fun x=>[(0,aw s),(1,.int .i64 ((k + 1:Nat):Int)),(5,x.2.1),(6,.int .i64 x.1)]) (fun x H nx=>x.1 ≤ s.length∧Row H 1 x.2.1 (x.2.2.map aw)∧(∀ b,bT x.2.1=some b→b < nx)∧x.2.2 ++ bq (s.drop x.1) (k + 1)=bq s (k + 1)) (fun x=>s.length - x.1) (0,.esl,[]) ⟨Nat.zero_le _,Row.nil,fun b h=>(by cases h),rfl⟩ (by (iterate 4 refine And.intro rfl ?_); trivial) ?_
  rintro ⟨i,sv,D⟩ H nx ⟨h1,hrow,hbd,hD⟩
  dsimp only at h1 hrow hbd hD ⊢
  by_cases hi:i + (k + 1) ≤ s.length
  rotate_left
  ·have z2:decide ((i:Int) + ((k + 1:Nat):Int) ≤ s.length)=false:=decide_eq_false (by omega)
   obtain ⟨o1,o2⟩:=hrow.one
   (have zz:=aI @ap (aI @z2 (aI @o1 @o2)); repeat' (first|refine zW ?_|apply a_n|apply a_x|refine zO ?_|refine vY ?_|refine cFY ?_|refine ak rfl ?_|refine r1Y ?_|fail)) <;> (try clear zz)
   rw [ga (by rw [List.length_drop]; omega),List.append_nil] at hD
   rw [← hD]
   exact eD hrow
  have z2:decide ((i:Int) + ((k + 1:Nat):Int) ≤ s.length)=true:=decide_eq_true (by omega)
  have hi2:i < s.length:=by omega
  have tk:((k + 1:Nat):Int) - 1=(k:Nat):=by omega
  have ti:(i:Int) + 1=(i + 1:Nat):=by omega
  have hsl:=mM (l:=s) (k:=i + 1) (by omega)
  have hcall:=ih (s.drop (i + 1)) (by omega) (by rw [List.length_drop]; omega)
  have hR:=ji (l:=s.drop (i + 1)) (k:=k) (by rw [List.length_drop]; omega)
  have hRl:∀ f ∈ bq (s.drop (i + 1)) k,f.length ≤ 8:=fun f hf=>by
   have:=(cr.1 hf).1.length_le
   rw [List.length_drop] at this; omega
  have ix:=ix2 hi2
  have hDD:D ++ (bq (s.drop (i + 1)) k).map (s.getD i default :: ·) ++ bq (s.drop (i + 1)) (k + 1)=bq s (k + 1):=by rw [← hD,n6 hi2,List.append_assoc]
  have hDl:D.length + (bq (s.drop (i + 1)) k).length ≤ 70:=by
   have:=congrArg List.length hDD
   rw [List.length_append,List.length_append,List.length_map] at this
   omega
  clear hD htot
  generalize bq (s.drop (i + 1)) k=R at *
  generalize s.getD i default=v at *
  obtain ⟨o1,o2⟩:=hrow.one
  (have zz:=aI @ap (aI @ae (aI @z2 (aI @tk (aI @ti (aI @hsl (aI @o1 @o2)))))); repeat' (first|refine zW ?_|apply a_n|refine zO ?_|refine vY ?_|refine cY ?_ (hp:=hcall) (hs:=by (first | refine ac ?_ rfl | apply ag); (repeat' (first | exact aa | apply an | apply ai | exact ay _)); first | done | fail)|refine cTY ?_|fail)) <;> (try clear zz)
  refine wv (X:=Nat × AV) (fun x=>[(0,aw s),(1,.int .i64 ((k + 1:Nat):Int)),(5,x.2),(6,.int .i64 i),(7,ar R),(8,.int .i64 x.1)]) (fun x H nx=>x.1 ≤ R.length∧Row H 1 x.2 ((D ++ (R.take x.1).map (v :: ·)).map aw)∧∀ b,bT x.2=some b→b < nx) (fun x=>R.length - x.1) (0,sv) ⟨bk,_,Fz.none,⟨Nat.zero_le _,by rw [List.take_zero,List.map_nil,List.append_nil]; exact hrow,hbd⟩,gZ ag0⟩ ?_
  clear hrow hbd o1 o2
  rintro ⟨j,sv⟩ H1 nx1 ⟨j1,hrow,hbd⟩
  dsimp only at j1 hrow hbd ⊢
  obtain ⟨o1,o2⟩:=hrow.one
  by_cases hj:j < R.length
  rotate_left
  ·rw [List.take_of_length_le (by omega)] at hrow
   (have zz:=aI @ae (aI @o1 @o2); repeat' (first|refine zW ?_|apply a_n|apply a_x|refine zO ?_|refine vY ?_|(refine zGY ?_ ?_ <;> (intro _hg; try (exfalso; omega)))|fail)) <;> (try clear zz)
   exact ⟨(i + 1,sv,D ++ R.map (v :: ·)),by dsimp only; omega,⟨by dsimp only; omega,hrow,hbd,hDD⟩,ag0⟩
  have iy:=dp hj
  have hfl:=hRl _ (aQ hj)
  have e1:(D ++ (R.take (j + 1)).map (v :: ·)).map aw=(D ++ (R.take j).map (v :: ·)).map aw ++ [aw (v :: R.getD j default)]:=by
   simp only [bB hj,List.map_append,List.append_assoc,List.map_cons,List.map_nil]
  have hln:((D ++ (R.take j).map (v :: ·)).map aw).length ≤ 70:=by simp; omega
  generalize R.getD j default=f at *
  (have zz:=aI @ae (aI @ix (aI @iy (aI @o1 @o2))); repeat' (first|refine zW ?_|apply a_n|refine zO ?_|refine vY ?_|(refine zGY ?_ ?_ <;> (intro _hg; try (exfalso; omega)))|fail)) <;> (try clear zz)
  refine pE bk rfl (fun y cs h=>by cases h) ?_
  (have zz:=aI @ix @iy; repeat' (first|apply a_n|refine zO ?_|refine nvY ?_|fail)) <;> (try clear zz)
  refine fw ?_
  (have zz:=and_self; repeat' (first|apply a_n|refine zO ?_|refine blY ?_|fail)) <;> (try clear zz)
  refine ⟨fun y cs h=>(by cases h),?_⟩
  refine gr ?_
  refine dK (sv:=.msl nx1 2 2 0 1) (cs:=[.int .i64 v.color,.int .i64 v.label]) rfl ev0 (Row.box nx1 1 _ ah rfl) ev0 ou (fU f) (dT f) (by omega) (by simp; omega) (by simp; omega) ?_
  rintro s2 H2 nx2 r1 r2 r3 r4 r5
  obtain ⟨b2,rfl,hb2,hb3⟩:∃ b2,s2=.msl b2 ((f.length + 1) * 2) 2 0 (f.length + 1)∧H2 b2=some (cX (v :: f))∧nx1 ≤ b2∧b2 < nx2:=by
   have hcl:=dT (v :: f)
   have h5:=r5
   have r1':Row H2 2 s2 (cX (v :: f)):=r1
   generalize cX (v :: f)=cs at r1' hcl ⊢
   cases r1' with
   | nil=>simp at hcl
   | box b len cs g1 g2 =>
    obtain rfl:len=f.length + 1:=by rw [hcl] at g2; simp at g2; omega
    refine ⟨b,rfl,g1,?_,?_⟩
    ·rcases h5 b rfl with e | ⟨e,_⟩
     ·cases e; omega
     ·omega
    ·rcases h5 b rfl with e | ⟨e,e2⟩
     ·cases e; omega
     ·omega
  refine lg ?_
  refine zL (pv:=[(0,1,.msl b2 ((f.length + 1) * 2) 2 0 (f.length + 1))]) (cs:=[.msl b2 ((f.length + 1) * 2) 2 0 (f.length + 1)]) ev0 rfl (by decide) rfl rfl ?_
  refine gr ?_
  have hold:∀ b,b < nx1→H2 b=H1 b:=fun b hb=>by rw [r4 b (by omega) (fun e=>by cases e; omega),af (by omega)]
  refine dK rfl ev0 (hrow.same fun b hb=>hold b (hbd b hb)) ev0 (k:=1) (new:=[.msl b2 ((f.length + 1) * 2) 2 0 (f.length + 1)]) (by rw [o6]; rfl) rfl rfl Nat.one_pos (by omega) (by omega) ?_
  rintro s3 H3 nx3 u1 u2 u3 u4 u5
  have hb4:H3 b2=some (cX (v :: f)):=(u4 b2 (by omega) (fun e=>by have:=hbd b2 e; omega)).trans hb2
  obtain ⟨H4,hfz,hr4,hs4⟩:=qC (x':=aw (v :: f)) u1 hb4 (w9 (Row.box b2 (f.length + 1) _ jK (dT _))) (fun e=>by
   rcases u5 b2 e with h | h
   ·have:=hbd b2 h; omega
   ·omega)
  (have zz:=and_self; repeat' (first|apply a_n|refine zO ?_|refine vY ?_|refine nvY ?_|fail)) <;> (try clear zz)
  refine ⟨(j + 1,s3),by dsimp only; omega,_,H4,hfz,⟨by dsimp only; omega,?_,fun b hb=>?_⟩,gZ ag0⟩
  ·dsimp only
   rw [e1]; exact hr4
  ·rcases u5 b hb with h | h
   ·have:=hbd b h; omega
   ·omega
end Go.Proofs.Ytfcenbapjhecfaa
namespace Go.Proofs.Ytfcenbapjhecfaa
open Go Go.Abs
open Nat (reduceEqDiff reduceAdd reduceLeDiff)
def ir (c:List Spx) (k:Nat):List Spx:=gD aM (c.flatMap fun s=>bq s k)
theorem ow {c:List Spx} {k i:Nat} (hi:i < c.length):(c.take (i + 1)).flatMap (fun s=>bq s k)=(c.take i).flatMap (fun s=>bq s k) ++ bq (c.getD i default) k:=by
 rw [bB hi,List.flatMap_append]; simp
theorem fD {k:Nat}:∀ {c:List Spx},(∀ s ∈ c,s.length ≤ 8)→(c.flatMap fun s=>bq s k).length ≤ 70 * c.length
 | [],_=>by simp
 | s :: c,h=>by
  rw [List.flatMap_cons,List.length_append,List.length_cons]
  have:=ji (l:=s) (k:=k) (h s List.mem_cons_self)
  have:=fD (k:=k) (c:=c) (fun t ht=>h t (List.mem_cons_of_mem _ ht))
  omega
theorem gC {c:List Spx} {k:Nat} {s:Spx}:s ∈ c.flatMap (fun s=>bq s k) ↔ ∃ t ∈ c,s ∈ bq t k:=by rw [List.mem_flatMap]
theorem tI {c:List Spx} {k:Nat} (h:∀ s ∈ c,s.length ≤ 8):∀ s ∈ c.flatMap (fun s=>bq s k),Shn s:=fun s hs=>by
 obtain ⟨t,t1,t2⟩:=gC.1 hs
 have:=(cr.1 t2).1.length_le
 have:=h t t1
 show _ ≤ _; omega
def dS (c:List Spx) (k:Int):List Spx × Int:=if be c ≠ 0 then ([],be c) else if k < 1 ∨ 8 < k then ([],2) else (ir c k.toNat,0)
attribute [local irreducible] aD aj aX aP aH aK az aL aR bd Go.Abs.Fn aO Go.Abs.Pure av aF Yl
theorem wC (c:List Spx) (k:Nat) (hc:c.length ≤ 50) (hs:∀ s ∈ c,s.length ≤ 8) (hk:k ≤ 1000):Pure Try.prog 34 [fc c,.int .i64 k] (ar (ir c k)):=by
 refine Pure.of_c2 follows Bf (Nat.le_of_ble_eq_true rfl) ?_
 simp only [b34,cO,cG,cN,cM,cD,cF,cB,aB,aS]
 have hfl:=fD (k:=k) hs
 have hfe:=tI (k:=k) hs
 (have zz:=aI @au @am; repeat' (first|refine zW ?_|apply a_n|refine zO ?_|refine vZ ?_|refine bxZ ?_|fail)) <;> (try clear zz)
 refine wv (X:=Nat) (fun i=>[(1,.int .i64 k),(2,.ptr 0 1 0),(5,ar (gD aM ((c.take i).flatMap fun s=>bq s k))),(6,.int .i64 i)]) (fun i H nx=>i ≤ c.length∧H 0=some [ar c]) (fun i=>c.length - i) 0 ⟨bk,_,Fz.none,⟨Nat.zero_le _,ah⟩,.inl rfl,.inl rfl,.inr (.eslsl 1),.inl rfl,trivial⟩ ?_
 rintro i H nx ⟨h1,g0⟩
 by_cases hi:i < c.length
 rotate_left
 ·rw [List.take_of_length_le (by omega)]
  (have zz:=aI @ae @g0; repeat' (first|refine zW ?_|apply a_n|apply a_x|refine zO ?_|refine vY ?_|(refine zGY ?_ ?_ <;> (intro _hg; try (exfalso; omega)))|refine ak rfl ?_|refine r1Y ?_|fail)) <;> (try clear zz)
  exact aC _ _
 have ix:=dp hi
 have hft:=ow (k:=k) hi
 have hpre:∀ s ∈ (c.take (i + 1)).flatMap (fun s=>bq s k),Shn s:=tI fun s h=>hs s (List.mem_of_mem_take h)
 have hprl:=fD (k:=k) (c:=c.take (i + 1)) (fun s h=>hs s (List.mem_of_mem_take h))
 rw [hft] at hpre hprl
 rw [List.length_take,List.length_append] at hprl
 have hcall:=rT k (c.getD i default) hk (hs _ (aQ hi))
 by_cases hlt:(c.getD i default).length < k
 ·have z:decide (((c.getD i default).length:Int) < k)=true:=decide_eq_true (by omega)
  rw [ga hlt,List.append_nil] at hft
  generalize c.getD i default=s at *
  (have zz:=aI @ae (aI @ap (aI @ix (aI @g0 @z))); repeat' (first|refine zW ?_|apply a_n|apply a_x|refine zO ?_|refine vY ?_|refine cTY ?_|(refine zGY ?_ ?_ <;> (intro _hg; try (exfalso; omega)))|fail)) <;> (try clear zz)
  exact ⟨i + 1,by omega,bk,_,Fz.none,⟨by omega,g0⟩,gZ (have zz:=@hft; agZ)⟩
 have z:decide (((c.getD i default).length:Int) < k)=false:=decide_eq_false (by omega)
 generalize c.getD i default=s at *
 generalize bq s k=R at *
 generalize (c.take i).flatMap (fun s=>bq s k)=P at *
 (have zz:=aI @ae (aI @ap (aI @ix (aI @g0 @z))); repeat' (first|refine zW ?_|apply a_n|refine zO ?_|refine vY ?_|refine cY ?_ (hp:=hcall) (hs:=by (first | refine ac ?_ rfl | apply ag); (repeat' (first | exact aa | apply an | apply ai | exact ay _)); first | done | fail)|refine cFY ?_|(refine zGY ?_ ?_ <;> (intro _hg; try (exfalso; omega)))|fail)) <;> (try clear zz)
 refine ba (X:=Nat) (fun j=>[(1,.int .i64 k),(2,.ptr 0 1 0),(5,ar (gD aM (P ++ R.take j))),(6,.int .i64 i),(7,ar R),(8,.int .i64 j)]) (fun j H nx=>j ≤ R.length∧H 0=some [ar c]) (fun j=>R.length - j) 0 ⟨Nat.zero_le _,g0⟩ (by simp (disch:=omega) only [agr,ZG,reduceEqDiff,↓reduceIte,List.take_zero,List.append_nil]) ?_
 clear g0
 rintro j H nx ⟨j1,g0⟩
 by_cases hj:j < R.length
 rotate_left
 ·rw [List.take_of_length_le (by omega)]
  (have zz:=@ae; repeat' (first|refine zW ?_|apply a_n|apply a_x|refine zO ?_|refine vY ?_|(refine zGY ?_ ?_ <;> (intro _hg; try (exfalso; omega)))|fail)) <;> (try clear zz)
  exact ⟨i + 1,by omega,bk,_,Fz.none,⟨by omega,g0⟩,gZ (have zz:=@hft; agZ)⟩
 have iy:=dp hj
 have e1:gD aM (P ++ R.take (j + 1))=gy aM (gD aM (P ++ R.take j)) (R.getD j default):=by rw [bB hj,← List.append_assoc,ul]
 have hput:=xw (gD aM (P ++ R.take j)) (R.getD j default) (Nat.le_trans qS (by rw [List.length_append,List.length_take]; omega)) (fun t ht=>hpre t (by
  have:=gO.1 ht
  rcases List.mem_append.1 this with h | h
  ·exact List.mem_append_left _ h
  ·exact List.mem_append_right _ (List.mem_of_mem_take h))) (hpre _ (List.mem_append_right _ (aQ hj)))
 rw [← e1] at hput
 generalize R.getD j default=f at *
 (have zz:=aI @ae @iy; repeat' (first|refine zW ?_|apply a_n|refine zO ?_|refine vY ?_|refine cY ?_ (hp:=hput) (hs:=by (first | refine ac ?_ rfl | apply ag); (repeat' (first | exact aa | apply an | apply ai | exact ay _ | exact aC _)); first | done | fail)|(refine zGY ?_ ?_ <;> (intro _hg; try (exfalso; omega)))|fail)) <;> (try clear zz)
 exact ⟨j + 1,by omega,⟨by omega,g0⟩,ag0⟩
end Go.Proofs.Ytfcenbapjhecfaa
namespace Go.Proofs.Ytfcenbapjhecfaa
open Go Go.Abs
open Nat (reduceEqDiff reduceAdd reduceLeDiff)
def d8:Nat→Spx→List Int
 | 0,_=>[]
 | n + 1,[]=>(-1) :: 0 :: d8 n []
 | n + 1,v :: l=>v.color :: v.label :: d8 n l
theorem jJ:∀ {n:Nat} {s:Spx},(d8 n s).length=2 * n
 | 0,_=>rfl
 | n + 1,[]=>by show (d8 n []).length + 1 + 1=_; rw [jJ]; omega
 | n + 1,v :: l=>by show (d8 n l).length + 1 + 1=_; rw [jJ]; omega
theorem qd:∀ {n:Nat} {s t:Spx},s.length ≤ n→t.length ≤ n→(∀ v ∈ s,0 ≤ v.color)→(∀ v ∈ t,0 ≤ v.color)→d8 n s=d8 n t→s=t
 | 0,[],[],_,_,_,_,_=>rfl
 | 0,_ :: _,_,h,_,_,_,_=>absurd h (by simp)
 | 0,[],_ :: _,_,h,_,_,_=>absurd h (by simp)
 | n + 1,[],[],_,_,_,_,_=>rfl
 | n + 1,[],w :: m,_,_,_,h2,e=>by
  have:(-1:Int)=w.color:=(List.cons.inj e).1
  have:=h2 w List.mem_cons_self
  omega
 | n + 1,v :: l,[],_,_,h1,_,e=>by
  have:v.color=(-1:Int):=(List.cons.inj e).1
  have:=h1 v List.mem_cons_self
  omega
 | n + 1,v :: l,w :: m,hl,hm,h1,h2,e=>by
  obtain ⟨e1,e2⟩:=List.cons.inj e
  obtain ⟨e2,e3⟩:=List.cons.inj e2
  have:=qd (n:=n) (by simp at hl; omega) (by simp at hm; omega) (fun x hx=>h1 x (List.mem_cons_of_mem _ hx)) (fun x hx=>h2 x (List.mem_cons_of_mem _ hx)) e3
  rw [this,i8.2 ⟨e1,e2⟩]
def wY (x:List Int):AV:=.agg (x.map (AV.int .i64))
theorem vG (x:List Int):Dat (wY x):=Dat.agg (by
 induction x with
 | nil=>exact DatL.nil
 | cons a l ih=>exact DatL.cons .int ih)
theorem sU:∀ {n:Nat} {s:Spx},s.length ≤ n→cX s ++ ((d8 n []).map (AV.int .i64)).drop (s.length * 2)=(d8 n s).map (AV.int .i64)
 | n,[],_=>by simp [cX]
 | 0,_ :: _,h=>absurd h (by simp)
 | n + 1,v :: l,h=>by
  have:=sU (n:=n) (s:=l) (by simp at h; omega)
  show [AV.int .i64 v.color,AV.int .i64 v.label] ++ cX l ++ _=AV.int .i64 v.color :: AV.int .i64 v.label :: (d8 n l).map (AV.int .i64)
  rw [← this,List.length_cons,show (l.length + 1) * 2=l.length * 2 + 1 + 1 by omega]
  rfl
def kc (k:Nat):List AV:=(d8 k [] ++ List.replicate (2 * (8 - k)) 0).map (AV.int .i64)
attribute [local irreducible] aD aj aX aP aH aK az aL aR bd Go.Abs.Fn aO Go.Abs.Pure av aF Yl
theorem xQ (s:Spx) (h1:1 ≤ s.length) (hs:s.length ≤ 8):Pure Try.prog 96 [aw s] (wY (d8 8 s)):=by
 refine Pure.of_c2 follows BQ (Nat.le_of_ble_eq_true rfl) ?_
 simp only [b96,cO,cG,cN,cM,cD,cF,cB,aB,aS]
 have hn:dP (aw s)=some s.length:=by unfold aw fg; simp [dP]
 have hput:=sU (n:=8) (s:=s) hs
 (have zz:=and_self; repeat' (first|refine zW ?_|apply a_n|refine zO ?_|refine vY ?_|refine alY ?_|fail)) <;> (try clear zz)
 refine ba (X:=Nat) (fun k=>[(0,aw s),(2,.ptr 0 16 0),(3,.ptr 1 16 0),(5,.int .i64 k)]) (fun k H nx=>k ≤ 8∧H 0=some (kc 0)∧H 1=some (kc k)) (fun k=>8 - k) 0 ⟨Nat.zero_le _,by rw [af (by omega),ah]; rfl,ah⟩ (by (iterate 4 refine And.intro rfl ?_); trivial) ?_
 rintro k H nx ⟨hk,g0,g1⟩
 rcases (by omega:k=8 ∨ k=0 ∨ k=1 ∨ k=2 ∨ k=3 ∨ k=4 ∨ k=5 ∨ k=6 ∨ k=7) with rfl | rfl | rfl | rfl | rfl | rfl | rfl | rfl | rfl
 ·(have zz:=aI @g0 @g1; repeat' (first|refine zW ?_|apply a_n|apply a_x|refine zO ?_|refine vY ?_|(refine zGY ?_ ?_ <;> (intro _hg; try (exfalso; omega)))|fail)) <;> (try clear zz)
  refine yB rfl g1 rfl rfl ?_
  (have zz:=and_self; repeat' (first|apply a_n|refine zO ?_|refine vY ?_|fail)) <;> (try clear zz)
  refine yu (n:=s.length) (H':=aq H 1 ((d8 8 s).map (AV.int .i64))) ?_ ?_
  ·((try simp only [bR,ZA,reduceEqDiff,↓reduceIte,reduceAdd,reduceLeDiff]); (try with_reducible rfl))
   have htr:oq s.length (aw s)=aw s:=by unfold aw fg; simp [oq]; exact List.take_of_length_le (by simp)
   have hmin:min s.length 8=s.length:=Nat.min_eq_left hs
   have hal:dP (.msl 1 16 2 0 8)=some 8:=rfl
   simp only [kV,hal,hn,hmin,if_neg (show ¬ s.length=0 by omega),g1,htr,ou]
   rw [if_pos (by refine ⟨?_,?_,?_,?_⟩ <;> first | rfl | trivial | omega | exact fU s)]
   have:br (kc 8) 0 (cX s)=(d8 8 s).map (AV.int .i64):=by
    rw [← hput]
    simp only [br,List.take_zero,List.nil_append,Nat.zero_add,dT]
    rfl
   rw [this]
  ·have hl:((d8 8 s).map (AV.int .i64)).length=16:=by rw [List.length_map,jJ]
   have g1':aq H 1 ((d8 8 s).map (AV.int .i64)) 1=some ((d8 8 s).map (AV.int .i64)):=ah
   have g0':aq H 1 ((d8 8 s).map (AV.int .i64)) 0=some (kc 0):=by rw [af (by omega)]; exact g0
   have hl0:(kc 0).length=16:=rfl
   unfold wY
   have ht:((d8 8 s).map (AV.int .i64)).take 16=(d8 8 s).map (AV.int .i64):=List.take_of_length_le (by omega)
   have hd:=vG (d8 8 s)
   unfold wY at hd
   have hfl:AV.ones ((d8 8 s).map (AV.int .i64))=true:=by
    unfold AV.ones
    rw [List.all_eq_true]
    intro x hx
    obtain ⟨y,_,rfl⟩:=List.mem_map.1 hx
    rfl
   have hlp:br (kc 0) 0 ((d8 8 s).map (AV.int .i64))=(d8 8 s).map (AV.int .i64):=by
    simp only [br,List.take_zero,List.nil_append,Nat.zero_add,hl]
    rw [List.drop_of_length_le (by decide),List.append_nil]
   generalize (d8 8 s).map (AV.int .i64)=K at *
   (have zz:=aI @g0' (aI @g1' (aI @hl (aI @hl0 @ht))); repeat' (first|refine zW ?_|apply a_n|refine zO ?_|refine vY ?_|fail)) <;> (try clear zz)
   refine zf (v:=.agg K) (cs:=kc 0) (vs:=K) (b:=0) (n:=16) (off:=0) rfl ev0 ev0 g0' rfl hfl hl0 hl (by omega) ?_
   rw [hlp]
   (have zz:=aI @hl @ht; repeat' (first|apply a_n|refine zO ?_|refine ak rfl ?_|refine r1Y ?_|fail)) <;> (try clear zz)
   exact hd _
 ·(have zz:=aI @g0 @g1; repeat' (first|refine zW ?_|apply a_n|refine zO ?_|refine vY ?_|(refine zGY ?_ ?_ <;> (intro _hg; try (exfalso; omega)))|fail)) <;> (try clear zz)
  refine iG (r:=.ptr 1 16 0) rfl rfl rfl ?_
  have hl:(kc 0).length=16:=rfl
  (have zz:=aI @g1 @hl; repeat' (first|apply a_n|refine zO ?_|refine vY ?_|refine stY ?_|fail)) <;> (try clear zz)
  exact ⟨1,by omega,⟨by omega,by rw [af (by omega)]; exact g0,by rw [ah]; rfl⟩,by (iterate 4 refine And.intro rfl ?_); trivial⟩
 ·(have zz:=aI @g0 @g1; repeat' (first|refine zW ?_|apply a_n|refine zO ?_|refine vY ?_|(refine zGY ?_ ?_ <;> (intro _hg; try (exfalso; omega)))|fail)) <;> (try clear zz)
  refine iG (r:=.ptr 1 16 2) rfl rfl rfl ?_
  have hl:(kc 1).length=16:=rfl
  (have zz:=aI @g1 @hl; repeat' (first|apply a_n|refine zO ?_|refine vY ?_|refine stY ?_|fail)) <;> (try clear zz)
  exact ⟨2,by omega,⟨by omega,by rw [af (by omega)]; exact g0,by rw [ah]; rfl⟩,by (iterate 4 refine And.intro rfl ?_); trivial⟩
 ·(have zz:=aI @g0 @g1; repeat' (first|refine zW ?_|apply a_n|refine zO ?_|refine vY ?_|(refine zGY ?_ ?_ <;> (intro _hg; try (exfalso; omega)))|fail)) <;> (try clear zz)
  refine iG (r:=.ptr 1 16 4) rfl rfl rfl ?_
  have hl:(kc 2).length=16:=rfl
  (have zz:=aI @g1 @hl; repeat' (first|apply a_n|refine zO ?_|refine vY ?_|refine stY ?_|fail)) <;> (try clear zz)
  exact ⟨3,by omega,⟨by omega,by rw [af (by omega)]; exact g0,by rw [ah]; rfl⟩,by (iterate 4 refine And.intro rfl ?_); trivial⟩
 ·(have zz:=aI @g0 @g1; repeat' (first|refine zW ?_|apply a_n|refine zO ?_|refine vY ?_|(refine zGY ?_ ?_ <;> (intro _hg; try (exfalso; omega)))|fail)) <;> (try clear zz)
  refine iG (r:=.ptr 1 16 6) rfl rfl rfl ?_
  have hl:(kc 3).length=16:=rfl
  (have zz:=aI @g1 @hl; repeat' (first|apply a_n|refine zO ?_|refine vY ?_|refine stY ?_|fail)) <;> (try clear zz)
  exact ⟨4,by omega,⟨by omega,by rw [af (by omega)]; exact g0,by rw [ah]; rfl⟩,by (iterate 4 refine And.intro rfl ?_); trivial⟩
 ·(have zz:=aI @g0 @g1; repeat' (first|refine zW ?_|apply a_n|refine zO ?_|refine vY ?_|(refine zGY ?_ ?_ <;> (intro _hg; try (exfalso; omega)))|fail)) <;> (try clear zz)
  refine iG (r:=.ptr 1 16 8) rfl rfl rfl ?_
  have hl:(kc 4).length=16:=rfl
  (have zz:=aI @g1 @hl; repeat' (first|apply a_n|refine zO ?_|refine vY ?_|refine stY ?_|fail)) <;> (try clear zz)
  exact ⟨5,by omega,⟨by omega,by rw [af (by omega)]; exact g0,by rw [ah]; rfl⟩,by (iterate 4 refine And.intro rfl ?_); trivial⟩
 ·(have zz:=aI @g0 @g1; repeat' (first|refine zW ?_|apply a_n|refine zO ?_|refine vY ?_|(refine zGY ?_ ?_ <;> (intro _hg; try (exfalso; omega)))|fail)) <;> (try clear zz)
  refine iG (r:=.ptr 1 16 10) rfl rfl rfl ?_
  have hl:(kc 5).length=16:=rfl
  (have zz:=aI @g1 @hl; repeat' (first|apply a_n|refine zO ?_|refine vY ?_|refine stY ?_|fail)) <;> (try clear zz)
  exact ⟨6,by omega,⟨by omega,by rw [af (by omega)]; exact g0,by rw [ah]; rfl⟩,by (iterate 4 refine And.intro rfl ?_); trivial⟩
 ·(have zz:=aI @g0 @g1; repeat' (first|refine zW ?_|apply a_n|refine zO ?_|refine vY ?_|(refine zGY ?_ ?_ <;> (intro _hg; try (exfalso; omega)))|fail)) <;> (try clear zz)
  refine iG (r:=.ptr 1 16 12) rfl rfl rfl ?_
  have hl:(kc 6).length=16:=rfl
  (have zz:=aI @g1 @hl; repeat' (first|apply a_n|refine zO ?_|refine vY ?_|refine stY ?_|fail)) <;> (try clear zz)
  exact ⟨7,by omega,⟨by omega,by rw [af (by omega)]; exact g0,by rw [ah]; rfl⟩,by (iterate 4 refine And.intro rfl ?_); trivial⟩
 ·(have zz:=aI @g0 @g1; repeat' (first|refine zW ?_|apply a_n|refine zO ?_|refine vY ?_|(refine zGY ?_ ?_ <;> (intro _hg; try (exfalso; omega)))|fail)) <;> (try clear zz)
  refine iG (r:=.ptr 1 16 14) rfl rfl rfl ?_
  have hl:(kc 7).length=16:=rfl
  (have zz:=aI @g1 @hl; repeat' (first|apply a_n|refine zO ?_|refine vY ?_|refine stY ?_|fail)) <;> (try clear zz)
  exact ⟨8,by omega,⟨by omega,by rw [af (by omega)]; exact g0,by rw [ah]; rfl⟩,by (iterate 4 refine And.intro rfl ?_); trivial⟩
end Go.Proofs.Ytfcenbapjhecfaa
namespace Go.Proofs.Ytfcenbapjhecfaa
open Go Go.Abs
attribute [local irreducible] aD aj aX aP aH aK az aL aR bd Go.Abs.Fn aO Go.Abs.Pure av aF Yl
end Go.Proofs.Ytfcenbapjhecfaa
namespace Go.Proofs.Ytfcenbapjhecfaa
open Go Go.Abs
open Nat (reduceEqDiff reduceAdd reduceLeDiff)
theorem tY {H:Hp} {sz:Nat} {s:AV} {elems:List AV} (h:Row H sz s (elems.flatMap AV.cells)) (hc:∀ y ∈ elems,y.cells.length=sz) (hz:0 < sz) (hd:∀ y ∈ elems,∀ c ∈ y.cells,SnapF H c c):SnapF H s (.sl sz elems):=by
 obtain ⟨f1,f2⟩:=b8 elems hc
 generalize he:elems.flatMap AV.cells=cs at h
 cases h with
 | nil =>
  have:elems.length * sz=0:=by rw [← f1,he]; rfl
  have:elems=[]:=List.length_eq_zero_iff.1 (by
   rcases Nat.mul_eq_zero.1 this with h | h
   ·exact h
   ·omega)
  subst this; exact .eslsl sz
 | box b len cs hb hl =>
  have hlen:elems.length=len:=Nat.eq_of_mul_eq_mul_right hz (by rw [← f1,he,hl])
  refine .msl b (len * sz) sz 0 len cs elems hb hl (by omega) hlen hc (fun i j y a c hy hc' ha=>?_)
  have hj:j < sz:=by rw [← hc y (List.mem_of_getElem? hy)]; exact (List.getElem?_eq_some_iff.1 hc').1
  have key:∀ (l:List AV) (i j:Nat) (y c:AV),(∀ z ∈ l,z.cells.length=sz)→l[i]?=some y→y.cells[j]?=some c→j < sz→(l.flatMap AV.cells)[i * sz + j]?=some c:=by
   intro l
   induction l with
   | nil=>intro i j y c _ h; simp at h
   | cons x l ih =>
    intro i j y c hl hy hc hj
    rw [List.flatMap_cons]
    cases i with
    | zero =>
     simp at hy; subst hy
     rw [Nat.zero_mul,Nat.zero_add,List.getElem?_append_left (by rw [hl x (by simp)]; exact hj)]; exact hc
    | succ i =>
     rw [List.getElem?_append_right (by rw [hl x (by simp),Nat.add_mul]; omega),hl x (by simp)]
     have:=ih i j y c (fun z hz=>hl z (by simp [hz])) (by simpa using hy) hc hj
     rw [← this]; congr 1; rw [Nat.add_mul]; omega
  have:=key elems i j y c hc hy hc' hj
  rw [he,← Nat.zero_add (i * sz)] at this
  rw [this] at ha; cases ha
  exact hd y (List.mem_of_getElem? hy) a (List.mem_of_getElem? hc')
theorem lJ {H:Hp} {s:AV} {l:Spx} (h:Row H 2 s (cX l)):SnapF H s (aw l):=by
 refine tY (elems:=l.map bQ) (by rw [sH]; exact h) (fun y hy=>?_) (by omega) (fun y hy c hx=>?_)
 ·obtain ⟨n,_,rfl⟩:=List.mem_map.1 hy; rfl
 ·obtain ⟨n,_,rfl⟩:=List.mem_map.1 hy
  simp only [bQ,AV.cells,List.mem_cons,List.not_mem_nil,or_false] at hx
  rcases hx with rfl | rfl <;> exact .int _ _
attribute [local irreducible] aD aj aX aP aH aK az aL aR bd Go.Abs.Fn aO Go.Abs.Pure av aF Yl
theorem uN (l:Spx) (hl:l.length ≤ 1000000):dt Try.prog 83 [aw l] (aw l):=by
 refine dt.of_c2 follows Av (Nat.le_of_ble_eq_true rfl) ?_
 simp only [b83,cO,cG,cN,cM,cD,cF,cB,aB,aS]
 (have zz:=and_self; repeat' (first|refine zW ?_|apply a_n|refine zO ?_|refine vY ?_|fail)) <;> (try clear zz)
 have hn:dP (aw l)=some l.length:=by unfold aw fg; simp [dP]
 refine vM (k:=l.length) (by ((try simp only [bR,ZA,reduceEqDiff,↓reduceIte,reduceAdd,reduceLeDiff]); (try with_reducible rfl)); exact hn) (fun h=>?_) (fun h=>?_) (fun h=>?_)
 ·(have zz:=and_self; repeat' (first|refine zW ?_|apply a_n|refine zO ?_|refine vY ?_|refine b0Y ?_|refine cFY ?_|fail)) <;> (try clear zz)
  refine pD rfl ev0 ev0 ou (fU _) (by omega) (by omega) ?_
  (have zz:=and_self; repeat' (first|apply a_n|refine zO ?_|refine vY ?_|refine ak rfl ?_|refine r1Y ?_|fail)) <;> (try clear zz)
  exact lJ (Row.box _ l.length (cX l) ah (dT l))
 ·(have zz:=and_self; repeat' (first|refine zW ?_|apply a_n|apply a_r|refine zO ?_|refine vY ?_|refine cTY ?_|refine ak rfl ?_|refine r1Y ?_|fail)) <;> (try clear zz)
  obtain rfl:=List.length_eq_zero_iff.1 h
  exact .eslsl 2
 ·(have zz:=and_self; repeat' (first|refine zW ?_|apply a_n|refine zO ?_|refine vY ?_|refine b0Y ?_|refine cFY ?_|fail)) <;> (try clear zz)
  refine pD rfl ev0 ev0 ou (fU _) (by omega) (by omega) ?_
  (have zz:=and_self; repeat' (first|apply a_n|refine zO ?_|refine vY ?_|refine ak rfl ?_|refine r1Y ?_|fail)) <;> (try clear zz)
  exact lJ (Row.box _ l.length (cX l) ah (dT l))
section
variable {g:Nat} {caps:List AV} {s:AV}
theorem zt (hs:bE s=some (.int .i64 0)) {H:Hp} {nx:Nat}:Abs.Fn Try.prog 98 [s,.int .i64 0,.int .i64 0,.func g caps] H nx fun r H' nx'=>nx'=nx∧H'=H:=by
 refine Abs.Fn.of_c2 follows AO (Nat.le_of_ble_eq_true rfl) ?_
 simp only [b98,cO,cG,cN,cM,cD,cF,cB,aB,aS]
 (have zz:=and_self; repeat' (first|refine zW ?_|apply a_n|refine zO ?_|refine vZ ?_|fail)) <;> (try clear zz)
 refine ba (X:=Unit) (fun x=>[(0,s),(1,.int .i64 0),(2,.int .i64 0),(3,.func g caps),(8,.int .i64 1)]) (fun x H' nx'=>H'=H∧nx'=nx) (fun x=>0) () ⟨rfl,rfl⟩ (by simp (disch:=omega) only [agr,ZG,reduceEqDiff,↓reduceIte,Int.zero_add,true_and]) ?_
 rintro _ _ _ ⟨rfl,rfl⟩
 (have zz:=and_self; repeat' (first|refine zW ?_|apply a_n|apply a_x|refine zO ?_|refine vZ ?_|(refine zGZ ?_ ?_ <;> (intro _hg; try (exfalso; omega)))|refine ak rfl ?_|fail)) <;> (try clear zz)
 exact ⟨rfl,rfl⟩
theorem za (hs:bE s=some (.int .i64 0)) {H:Hp} {nx:Nat}:Abs.Fn Try.prog 89 [s,.int .i64 0,.int .i64 0,.int .i64 0,.func g caps] H nx fun r H' nx'=>nx'=nx∧H'=H:=by
 refine Abs.Fn.of_c2 follows Al (Nat.le_of_ble_eq_true rfl) ?_
 simp only [b89,cO,cG,cN,cM,cD,cF,cB,aB,aS]
 (have zz:=and_self; repeat' (first|refine zW ?_|apply a_n|refine zO ?_|refine vZ ?_|fail)) <;> (try clear zz)
 refine ba (X:=Unit) (fun x=>[(0,s),(1,.int .i64 0),(2,.int .i64 0),(3,.int .i64 0),(4,.func g caps)]) (fun x H' nx'=>H'=H∧nx'=nx) (fun x=>0) () ⟨rfl,rfl⟩ ag0 ?_
 rintro _ _ _ ⟨rfl,rfl⟩
 (have zz:=and_self; repeat' (first|refine zW ?_|apply a_n|refine zO ?_|refine vZ ?_|(refine zGZ ?_ ?_ <;> (intro _hg; try (exfalso; omega)))|fail)) <;> (try clear zz)
 refine aV ev0 ev0 (zt hs) ?_
 rintro _ _ _ ⟨rfl,rfl⟩
 (have zz:=and_self; repeat' (first|apply a_n|apply a_r|refine zO ?_|refine ak rfl ?_|fail)) <;> (try clear zz)
 exact ⟨rfl,rfl⟩
theorem jA (hs:bE s=some (.int .i64 0)) {H:Hp} {nx:Nat}:Abs.Fn Try.prog 73 [s,.func g caps] H nx fun r H' nx'=>nx'=nx∧H'=H:=by
 refine Abs.Fn.of_c2 follows Ab (Nat.le_of_ble_eq_true rfl) ?_
 simp only [b73,cO,cG,cN,cM,cD,cF,cB,aB,aS]
 have w8:IntKind.wrap .u64 0=0:=by decide
 (have zz:=aI @w8 @hs; repeat' (first|refine zW ?_|apply a_n|refine zO ?_|refine vZ ?_|fail)) <;> (try clear zz)
 refine aV ev0 (have zz:=@w8; evZ) zD ?_
 rintro _ _ _ ⟨rfl,rfl,rfl⟩
 (have zz:=and_self; repeat' (first|apply a_n|refine zO ?_|refine vZ ?_|fail)) <;> (try clear zz)
 refine aV ev0 ev0 (za hs) ?_
 rintro _ _ _ ⟨rfl,rfl⟩
 (have zz:=and_self; repeat' (first|apply a_n|refine zO ?_|refine ak rfl ?_|fail)) <;> (try clear zz)
 exact ⟨rfl,rfl⟩
end
end Go.Proofs.Ytfcenbapjhecfaa
namespace Go.Proofs.Ytfcenbapjhecfaa
open Go Go.Abs
attribute [local irreducible] aD aj aX aP aH aK az aL aR bd Go.Abs.Fn aO Go.Abs.Pure av aF Yl
theorem zC:Cmp Try.prog aw aM (fun s=>Shn s) 40 [] where
 cells _:=rfl
 one _:=rfl
 dat x:=ay x
 dcaps x hx:=by cases hx
 run x y hx hy:=dR x y hx hy
 ord:=gS.ord
end Go.Proofs.Ytfcenbapjhecfaa
namespace Go.Proofs.Ytfcenbapjhecfaa
open Go Go.Abs
def K16:Type:={x:List Int // x.length=16}
instance:DecidableEq K16:=inferInstanceAs (DecidableEq {x:List Int // x.length=16})
def kK (s:Spx):K16:=⟨d8 8 s,by rw [jJ]⟩
def eK (x:K16):AV:=wY x.1
theorem lX:∀ {n:Nat} {xs ys:List Int},xs.length=n→ys.length=n→bN (List.replicate n .int) (xs.map (AV.int .i64)) (ys.map (AV.int .i64))=some (decide (xs=ys))
 | 0,[],[],_,_=>rfl
 | 0,_ :: _,_,h,_=>absurd h (by simp)
 | 0,[],_ :: _,_,h=>absurd h (by simp)
 | n + 1,[],_,h,_=>absurd h (by simp)
 | n + 1,_ :: _,[],_,h=>absurd h (by simp)
 | n + 1,x :: xs,y :: ys,h1,h2=>by
  have ih:=lX (n:=n) (xs:=xs) (ys:=ys) (by simpa using h1) (by simpa using h2)
  have e:(x == y)=decide (x=y):=rfl
  rw [List.replicate_succ,List.map_cons,List.map_cons]
  by_cases hxy:x=y
  ·subst hxy
   simp only [bN,eW,if_true,e,decide_true,ih]
   simp
  ·simp only [bN,eW,if_true,e,decide_eq_false hxy]
   simp [hxy]
theorem yM (a b:K16):jE (.st [.int,.int,.int,.int,.int,.int,.int,.int,.int,.int,.int,.int,.int,.int,.int,.int]) (eK a) (eK b)=some (decide (a=b)):=by
 show bN (List.replicate 16 .int) (a.1.map (AV.int .i64)) (b.1.map (AV.int .i64))=_
 rw [lX a.2 b.2]
 congr 1
 exact decide_eq_decide.2 ⟨Subtype.ext,fun h=>congrArg Subtype.val h⟩
theorem xa (v:K16) (ks:List K16):bG (.st [.int,.int,.int,.int,.int,.int,.int,.int,.int,.int,.int,.int,.int,.int,.int,.int]) (eK v) (ks.map eK)=some (if v ∈ ks then some (ks.idxOf v) else none):=ko _ eK yM v ks
theorem tK (v:K16):eJ (.st [.int,.int,.int,.int,.int,.int,.int,.int,.int,.int,.int,.int,.int,.int,.int,.int]) (eK v)=true:=by
 show (16 == (v.1.map (AV.int .i64)).length)=true
 rw [List.length_map,v.2]; rfl
def gI (s:Spx):Prop:=1 ≤ s.length∧s.length ≤ 8∧∀ v ∈ s,0 ≤ v.color
theorem y3 {s t:Spx} (hs:gI s) (ht:gI t) (h:kK s=kK t):s=t:=qd hs.2.1 ht.2.1 hs.2.2 ht.2.2 (congrArg Subtype.val h)
theorem yW {O:List Spx} {f:Spx} (hO:∀ s ∈ O,gI s) (hf:gI f):kK f ∈ O.map kK ↔ f ∈ O:=by
 rw [List.mem_map]
 exact ⟨fun ⟨s,h1,h2⟩=>by rw [← y3 (hO s h1) hf h2]; exact h1,fun h=>⟨f,h,rfl⟩⟩
theorem xC {s:Spx} (h:bj s=0):gI s:=by
 obtain ⟨p1,p2,p3,p4⟩:=cz h
 refine ⟨p1,p2,fun v hv=>?_⟩
 have:=p4 v hv
 unfold dw at this
 simp only [Bool.and_eq_true,decide_eq_true_eq] at this
 exact this.1.1
theorem wt {s t:Spx} {k:Nat} (hs:gI s) (hk:1 ≤ k) (h:t ∈ bq s k):gI t:=by
 obtain ⟨h1,h2⟩:=cr.1 h
 exact ⟨by omega,Nat.le_trans h1.length_le hs.2.1,fun v hv=>hs.2.2 v (h1.subset hv)⟩
theorem lq {O L P:List Spx} (hp:L.Perm O) (hs:a5 aM 0 L.length L) (hn:O.Nodup) (hm:∀ s,s ∈ O ↔ s ∈ P):L=gD aM P:=by
 refine kJ gS ?_ (mh gS P) fun s=>by rw [hp.mem_iff,hm,gO]
 unfold bo
 rw [List.pairwise_iff_getElem]
 intro i j hi hj hij
 have h1:=hs i j (Nat.zero_le _) hij hj
 rw [show L.getD i default=L[i] by simp [List.getD,hi],show L.getD j default=L[j] by simp [List.getD,hj]] at h1
 rcases gS.tri L[i] L[j] with h | h | h
 ·exact h
 ·have:=(List.nodup_iff_pairwise_ne.1 (hp.nodup_iff.2 hn))
  exact absurd h ((List.pairwise_iff_getElem.1 this) i j hi hj hij)
 ·exact absurd h h1
end Go.Proofs.Ytfcenbapjhecfaa
namespace Go.Proofs.Ytfcenbapjhecfaa
open Go Go.Abs
section
variable {α:Type} {K:α→α→Int}
def pb (K:α→α→Int):Nat→List α→List α→List α
 | 0,_,_=>[]
 | _ + 1,[],b=>b
 | _ + 1,x :: a,[]=>x :: a
 | n + 1,x :: a,y :: b=>if K x y < 0 then x :: pb K n a (y :: b) else if K y x < 0 then y :: pb K n (x :: a) b else pb K n a b
def c6 (K:α→α→Int) (a b:List α):List α:=pb K (a.length + b.length + 1) a b
theorem ig:∀ (n m:Nat) (a b:List α),a.length + b.length < n→a.length + b.length < m→pb K n a b=pb K m a b
 | 0,_,_,_,h,_=>absurd h (by omega)
 | _ + 1,0,_,_,_,h=>absurd h (by omega)
 | _ + 1,_ + 1,[],b,_,_=>rfl
 | _ + 1,_ + 1,x :: a,[],_,_=>rfl
 | n + 1,m + 1,x :: a,y :: b,h1,h2=>by
  simp only [List.length_cons] at h1 h2
  simp only [pb]
  rw [ig n m a (y :: b) (by simp only [List.length_cons]; omega) (by simp only [List.length_cons]; omega),ig n m (x :: a) b (by simp only [List.length_cons]; omega) (by simp only [List.length_cons]; omega),ig n m a b (by omega) (by omega)]
theorem mr {b:List α}:c6 K [] b=b:=rfl
theorem pG {a:List α}:c6 K a []=a:=by cases a <;> rfl
theorem sO {x y:α} {a b:List α}:c6 K (x :: a) (y :: b)=if K x y < 0 then x :: c6 K a (y :: b) else if K y x < 0 then y :: c6 K (x :: a) b else c6 K a b:=by
 show pb K (a.length + 1 + (b.length + 1) + 1) (x :: a) (y :: b)=_
 simp only [pb]
 unfold c6
 rw [ig (a.length + 1 + (b.length + 1)) (a.length + (y :: b).length + 1) a (y :: b) (by simp only [List.length_cons]; omega) (by simp only [List.length_cons]; omega),ig (a.length + 1 + (b.length + 1)) ((x :: a).length + b.length + 1) (x :: a) b (by simp only [List.length_cons]; omega) (by simp only [List.length_cons]; omega),ig (a.length + 1 + (b.length + 1)) (a.length + b.length + 1) a b (by omega) (by omega)]
theorem jb:∀ (n:Nat) (a b:List α),a.length + b.length ≤ n→(c6 K a b).length ≤ a.length + b.length
 | _,[],b,_=>by rw [mr]; simp
 | _,x :: a,[],_=>by rw [pG]; simp
 | 0,x :: a,y :: b,h=>by simp only [List.length_cons] at h; omega
 | n + 1,x :: a,y :: b,h=>by
  simp only [List.length_cons] at h ⊢
  rw [sO]
  have h1:=jb n a (y :: b) (by simp only [List.length_cons]; omega)
  have h2:=jb n (x :: a) b (by simp only [List.length_cons]; omega)
  have h3:=jb n a b (by omega)
  simp only [List.length_cons] at h1 h2
  split
  ·simp only [List.length_cons]; omega
  split
  ·simp only [List.length_cons]; omega
  ·omega
theorem gN (hK:LinK K):∀ (n:Nat) (a b:List α),a.length + b.length ≤ n→bo K a→bo K b→bo K (c6 K a b)∧∀ z,z ∈ c6 K a b ↔ (z ∈ a∧z ∉ b) ∨ (z ∈ b∧z ∉ a)
 | _,[],b,_,_,hb=>by rw [mr]; exact ⟨hb,fun z=>by simp⟩
 | _,x :: a,[],_,ha,_=>by rw [pG]; exact ⟨ha,fun z=>by simp⟩
 | 0,x :: a,y :: b,h,_,_=>by simp only [List.length_cons] at h; omega
 | n + 1,x :: a,y :: b,h,ha,hb=>by
  simp only [List.length_cons] at h
  obtain ⟨a1,a2⟩:=List.pairwise_cons.1 ha
  obtain ⟨b1,b2⟩:=List.pairwise_cons.1 hb
  have irr:=fun v=>hK.ord.irr v
  rw [sO]
  by_cases g1:K x y < 0
  ·rw [if_pos g1]
   obtain ⟨h1,h2⟩:=gN hK n a (y :: b) (by simp only [List.length_cons]; omega) a2 hb
   have hxb:∀ z ∈ y :: b,K x z < 0:=fun z hz=>by
    rcases List.mem_cons.1 hz with rfl | hz
    ·exact g1
    ·exact hK.trans g1 (b1 z hz)
   refine ⟨List.pairwise_cons.2 ⟨fun z hz=>?_,h1⟩,fun z=>?_⟩
   ·rcases (h2 z).1 hz with ⟨q,_⟩ | ⟨q,_⟩
    ·exact a1 z q
    ·exact hxb z q
   ·rw [List.mem_cons,h2,List.mem_cons (a:=z) (b:=x)]
    by_cases hz:z=x
    ·subst hz
     have:z ∉ y :: b:=fun q=>irr _ (hxb z q)
     simp [this]
    ·simp [hz]
  rw [if_neg g1]
  by_cases g2:K y x < 0
  ·rw [if_pos g2]
   obtain ⟨h1,h2⟩:=gN hK n (x :: a) b (by simp only [List.length_cons]; omega) ha b2
   have hya:∀ z ∈ x :: a,K y z < 0:=fun z hz=>by
    rcases List.mem_cons.1 hz with rfl | hz
    ·exact g2
    ·exact hK.trans g2 (a1 z hz)
   refine ⟨List.pairwise_cons.2 ⟨fun z hz=>?_,h1⟩,fun z=>?_⟩
   ·rcases (h2 z).1 hz with ⟨q,_⟩ | ⟨q,_⟩
    ·exact hya z q
    ·exact b1 z q
   ·rw [List.mem_cons,h2,List.mem_cons (a:=z) (b:=y)]
    by_cases hz:z=y
    ·subst hz
     have:z ∉ x :: a:=fun q=>irr _ (hya z q)
     simp [this]
    ·simp [hz]
  rw [if_neg g2]
  obtain rfl:x=y:=by
   rcases hK.tri x y with q | q | q
   ·exact absurd q g1
   ·exact q
   ·exact absurd q g2
  obtain ⟨h1,h2⟩:=gN hK n a b (by omega) a2 b2
  refine ⟨h1,fun z=>?_⟩
  rw [h2]
  by_cases hz:z=x
  ·subst hz
   have q1:z ∉ a:=fun q=>irr _ (a1 z q)
   have q2:z ∉ b:=fun q=>irr _ (b1 z q)
   simp [q1,q2]
  ·simp [hz]
theorem xA (hK:LinK K) {a b:List α} (ha:bo K a) (hb:bo K b):bo K (c6 K a b):=(gN hK _ a b (Nat.le_refl _) ha hb).1
theorem sX (hK:LinK K) {a b:List α} (ha:bo K a) (hb:bo K b) {z:α}:z ∈ c6 K a b ↔ (z ∈ a∧z ∉ b) ∨ (z ∈ b∧z ∉ a):=(gN hK _ a b (Nat.le_refl _) ha hb).2 z
theorem s0 {a b:List α}:(c6 K a b).length ≤ a.length + b.length:=jb _ a b (Nat.le_refl _)
end
def a7 (s:Spx):List Spx:=if s.length < 2 then [] else bq s (s.length - 1)
def mR (a:List Spx) (o:List Spx):List Spx:=a.foldl (fun o s=>c6 aM o (a7 s)) o
def cg (a:List Spx):List Spx:=mR a []
theorem nw {s:Spx} (h:bo bv s):bo aM (a7 s):=by
 unfold a7; split
 ·exact bo.nil
 ·exact gL h
theorem eV {s f:Spx}:f ∈ a7 s ↔ 2 ≤ s.length∧f.Sublist s∧f.length=s.length - 1:=by
 unfold a7; split
 ·exact ⟨fun h=>(by cases h),fun h=>absurd h.1 (by omega)⟩
 ·rw [cr]; exact ⟨fun h=>⟨by omega,h⟩,fun h=>h.2⟩
def iT (a:List Spx) (f:Spx):Nat:=(a.map fun s=>(a7 s).count f).sum
theorem oA {s:Spx} {a:List Spx} {f:Spx}:iT (s :: a) f=(a7 s).count f + iT a f:=by unfold iT; rw [List.map_cons,List.sum_cons]
theorem uh {L:List Spx} (h:bo aM L) (f:Spx):L.count f % 2=1 ↔ f ∈ L:=by
 by_cases hf:f ∈ L
 ·have h1:=List.count_pos_iff.2 hf
  have h2:=List.nodup_iff_count.1 (h.nodup gS) f
  exact ⟨fun _=>hf,fun _=>by omega⟩
 ·rw [List.count_eq_zero_of_not_mem hf]; exact ⟨fun h=>absurd h (by decide),fun h=>absurd h hf⟩
theorem mz:∀ (a o:List Spx) (c:Spx→Nat),(∀ s ∈ a,bo bv s)→bo aM o→(∀ f,f ∈ o ↔ c f % 2=1)→bo aM (mR a o)∧∀ f,f ∈ mR a o ↔ (c f + iT a f) % 2=1
 | [],o,c,_,ho,hc=>⟨ho,fun f=>by show f ∈ o ↔ _; rw [hc]; rfl⟩
 | s :: a,o,c,hs,ho,hc=>by
  have hf:=nw (hs s List.mem_cons_self)
  obtain ⟨h1,h2⟩:=mz a (c6 aM o (a7 s)) (fun f=>c f + (a7 s).count f) (fun t ht=>hs t (List.mem_cons_of_mem _ ht)) (xA gS ho hf) fun f=>by
   rw [sX gS ho hf,hc,← uh hf f]
   omega
  refine ⟨h1,fun f=>?_⟩
  show f ∈ mR a (c6 aM o (a7 s)) ↔ _
  rw [h2,oA,Nat.add_assoc]
theorem fV {a:List Spx} (hs:∀ s ∈ a,bo bv s):bo aM (cg a)∧∀ f,f ∈ cg a ↔ iT a f % 2=1:=by
 obtain ⟨h1,h2⟩:=mz a [] (fun _=>0) hs bo.nil fun f=>⟨fun h=>(by cases h),fun h=>absurd h (by decide)⟩
 exact ⟨h1,fun f=>by rw [show cg a=mR a [] from rfl,h2,Nat.zero_add]⟩
theorem uU {a:List Spx} (hs:∀ s ∈ a,bo bv s):bo aM (cg a):=(fV hs).1
theorem sA {a:List Spx} (hs:∀ s ∈ a,bo bv s) {f:Spx} (hf:f ∈ cg a):∃ s ∈ a,f ∈ a7 s:=by
 have h:=((fV hs).2 f).1 hf
 have hp:0 < iT a f:=by omega
 clear h hf hs
 induction a with
 | nil=>exact absurd hp (Nat.lt_irrefl 0)
 | cons s a ih =>
  rw [oA] at hp
  by_cases h:0 < (a7 s).count f
  ·exact ⟨s,List.mem_cons_self,List.count_pos_iff.1 h⟩
  ·obtain ⟨t,h1,h2⟩:=ih (by omega)
   exact ⟨t,List.mem_cons_of_mem _ h1,h2⟩
theorem n7:∀ (a o:List Spx),(∀ s ∈ a,s.length ≤ 8)→(mR a o).length ≤ o.length + a.length * 70
 | [],o,_=>Nat.le_add_right _ _
 | s :: a,o,h=>by
  have h1:=n7 a (c6 aM o (a7 s)) fun t ht=>h t (List.mem_cons_of_mem _ ht)
  have h2:=s0 (K:=aM) (a:=o) (b:=a7 s)
  have h3:(a7 s).length ≤ 70:=by
   unfold a7; split
   ·exact Nat.zero_le _
   ·exact ji (h s List.mem_cons_self)
  show (mR a (c6 aM o (a7 s))).length ≤ _
  rw [List.length_cons]; omega
theorem o0 {a:List Spx} (h:∀ s ∈ a,s.length ≤ 8):(cg a).length ≤ a.length * 70:=by
 have:=n7 a [] h
 rw [List.length_nil,Nat.zero_add] at this
 exact this
theorem vF {a b:List Spx} (ha:bo aM a) (hb:bo aM b) (P:Spx→Prop) (h1:∀ s ∈ a,P s) (h2:∀ s ∈ b,P s):∀ s ∈ c6 aM a b,P s:=fun s hs=>by
 rcases (sX gS ha hb).1 hs with ⟨h,_⟩ | ⟨h,_⟩
 ·exact h1 s h
 ·exact h2 s h
def fc0:Spx→List Spx
 | []=>[]
 | x :: s=>s :: (fc0 s).map (x :: ·)
theorem oU:∀ {s:Spx},bq s s.length=[s]
 | []=>rfl
 | x :: s=>by rw [List.length_cons,eS,oU,ga (by omega)]; rfl
theorem jx:∀ {s:Spx},s ≠ []→(bq s (s.length - 1)).Perm (fc0 s)
 | [],h=>absurd rfl h
 | [x],_=>by show (bq [x] 0).Perm _; rw [iQ]; exact List.Perm.refl _
 | x :: y :: s,_=>by
  show (bq (x :: y :: s) (s.length + 1)).Perm _
  rw [eS,show s.length + 1=(y :: s).length from rfl,oU]
  have ih:=jx (s:=y :: s) (by simp)
  show ((bq (y :: s) s.length).map (x :: ·) ++ [y :: s]).Perm ((y :: s) :: (fc0 (y :: s)).map (x :: ·))
  exact List.perm_append_comm.trans ((ih.map (x :: ·)).cons _)
theorem uF {s g:Spx} (h:s ≠ []):(bq s (s.length - 1)).count g=(fc0 s).count g:=(jx h).count_eq g
theorem tB {α:Type} {f g:α→Nat}:∀ {l:List α},(l.map fun x=>f x + g x).sum=(l.map f).sum + (l.map g).sum
 | []=>rfl
 | x :: l=>by simp only [List.map_cons,List.sum_cons]; rw [tB]; omega
theorem gU {x:Vtx} {g:Spx}:∀ {L:List Spx},(L.map (x :: ·)).count (x :: g)=L.count g
 | []=>rfl
 | f :: L=>by
  rw [List.map_cons,List.count_cons,List.count_cons,gU]
  congr 1
  by_cases h:f=g
  ·subst h; simp
  ·simp [h]
theorem tV {g:Spx}:∀ {L:List Spx},(L.map fun f=>if f=g then 1 else 0).sum=L.count g
 | []=>rfl
 | f :: L=>by
  rw [List.map_cons,List.sum_cons,tV,List.count_cons,Nat.add_comm]
  congr 1
  by_cases h:f=g
  ·subst h; simp
  ·simp [h]
theorem dd0:∀ (s g:Spx),((fc0 s).map fun f=>(fc0 f).count g).sum % 2=0
 | [],_=>rfl
 | x :: s,g=>by
  show (((s :: (fc0 s).map (x :: ·)).map fun f=>(fc0 f).count g).sum) % 2=0
  rw [List.map_cons,List.sum_cons,List.map_map]
  have e:((fun f=>(fc0 f).count g) ∘ (x :: ·):Spx→Nat)=fun f=>(if f=g then 1 else 0) + ((fc0 f).map (x :: ·)).count g:=by
   funext f
   show (f :: (fc0 f).map (x :: ·)).count g=_
   rw [List.count_cons,Nat.add_comm]
   congr 1
   by_cases h:f=g
   ·subst h; simp
   ·simp [h]
  rw [e,tB,tV]
  match g with
  | [] =>
   have:∀ L:List Spx,(L.map fun f=>((fc0 f).map (x :: ·)).count ([]:Spx)).sum=0:=fun L=>by
    induction L with
    | nil=>rfl
    | cons f L ih =>
     rw [List.map_cons,List.sum_cons,ih,List.count_eq_zero_of_not_mem (by simp)]
   rw [this]; omega
  | y :: g' =>
   by_cases h:x=y
   ·subst h
    have h1:(fun f:Spx=>((fc0 f).map (x :: ·)).count (x :: g'))=fun f=>(fc0 f).count g':=by funext f; exact gU
    rw [h1]
    have:=dd0 s g'
    omega
   ·have:∀ L:List Spx,(L.map fun f=>((fc0 f).map (x :: ·)).count (y :: g')).sum=0:=fun L=>by
      induction L with
      | nil=>rfl
      | cons f L ih =>
       rw [List.map_cons,List.sum_cons,ih,List.count_eq_zero_of_not_mem (by simp [h])]
    rw [this]; omega
theorem dd1 (s g:Spx):((a7 s).map fun f=>(a7 f).count g).sum % 2=0:=by
 by_cases h:s.length ≤ 2
 ·have:∀ f ∈ a7 s,(a7 f).count g=0:=fun f hf=>by
    obtain ⟨_,_,h3⟩:=eV.1 hf
    unfold a7
    rw [if_pos (by omega)]; rfl
  have h2:∀ L:List Spx,(∀ f ∈ L,(a7 f).count g=0)→(L.map fun f=>(a7 f).count g).sum=0:=fun L hL=>by
   induction L with
   | nil=>rfl
   | cons f L ih =>
    rw [List.map_cons,List.sum_cons,ih fun t ht=>hL t (List.mem_cons_of_mem _ ht),hL f List.mem_cons_self]
  rw [h2 _ this]
 ·have h1:(a7 s).map (fun f=>(a7 f).count g)=(bq s (s.length - 1)).map fun f=>(fc0 f).count g:=by
    rw [show a7 s=bq s (s.length - 1) by unfold a7; rw [if_neg (by omega)]]
    refine List.map_congr_left fun f hf=>?_
    have hl:=(cr.1 hf).2
    have hne:f ≠ []:=fun e=>by rw [e] at hl; simp at hl; omega
    rw [← uF hne]
    unfold a7
    rw [if_neg (by omega)]
  rw [h1,((jx (s:=s) (fun e=>by rw [e] at h; simp at h)).map _).sum_nat]
  exact dd0 s g
def xf (a:List Spx) (k:Nat):Int:=if bj (a.getD k default) ≠ 0 then bj (a.getD k default) else if (a.getD k default).length ≠ (a.getD 0 default).length then 15 else if 0 < k∧0 ≤ aM (a.getD (k - 1) default) (a.getD k default) then 14 else 0
def cC (a:List Spx):Int:=if 4096 < a.length then 5 else b4 (xf a) a.length
theorem e8 {a:List Spx} (h:cC a=0):a.length ≤ 4096∧(∀ s ∈ a,bj s=0)∧bo aM a∧∀ s ∈ a,s.length=(a.getD 0 default).length:=by
 unfold cC at h
 split at h
 ·exact absurd h (by decide)
 rename_i hl
 have h0:=eU h
 have hk:∀ k,k < a.length→bj (a.getD k default)=0∧(a.getD k default).length=(a.getD 0 default).length∧(0 < k→aM (a.getD (k - 1) default) (a.getD k default) < 0):=fun k hk=>by
  have q:=h0 k hk
  unfold xf at q
  split at q
  ·exact absurd q ‹_›
  split at q
  ·exact absurd q (by decide)
  split at q
  ·exact absurd q (by decide)
  ·rename_i q1 q2 q3
   exact ⟨Decidable.of_not_not q1,Decidable.of_not_not q2,fun h0=>by omega⟩
 have hm:∀ s ∈ a,∃ k,k < a.length∧a.getD k default=s:=fun s hs=>by
  obtain ⟨k,h1,h2⟩:=List.getElem_of_mem hs
  exact ⟨k,h1,by simp [List.getD,h1,h2]⟩
 refine ⟨by omega,fun s hs=>?_,?_,fun s hs=>?_⟩
 ·obtain ⟨k,h1,rfl⟩:=hm s hs; exact (hk k h1).1
 ·have hchain:∀ j i,i < j→j < a.length→aM (a.getD i default) (a.getD j default) < 0:=fun j=>by
    induction j with
    | zero=>intro i hi; omega
    | succ j ih =>
     intro i hi hj
     have q:=(hk (j + 1) hj).2.2 (by omega)
     rw [Nat.add_sub_cancel] at q
     rcases (by omega:i < j ∨ i=j) with h | rfl
     ·exact gS.trans (ih i h (by omega)) q
     ·exact q
  unfold bo
  rw [List.pairwise_iff_getElem]
  intro i j hi hj hij
  have:=hchain j i hij hj
  rwa [show a.getD i default=a[i] by simp [List.getD,hi],show a.getD j default=a[j] by simp [List.getD,hj]] at this
 ·obtain ⟨k,h1,rfl⟩:=hm s hs; exact (hk k h1).2.1
theorem jf {a:List Spx} (h:∀ s ∈ a,bj s=0):∀ s ∈ a,bo bv s:=fun s hs=>(cz (h s hs)).2.2.1
end Go.Proofs.Ytfcenbapjhecfaa
namespace Go.Proofs.Ytfcenbapjhecfaa
open Go Go.Abs
theorem rS {a:List Spx} {k:Nat}:xf a k=if bj (a.getD k default) ≠ 0 then bj (a.getD k default) else if (a.getD k default).length ≠ (a.getD 0 default).length then 15 else if 0 < k∧0 ≤ aM (a.getD (k - 1) default) (a.getD k default) then 14 else 0:=rfl
def fq (l:List (List Spx)):AV:=fg 1 ar l
theorem qq (l:List (List Spx)):Dat (fq l):=vh (fun _=>rfl) aC
instance datI_encXsss {l:List (List Spx)}:DatI (fq l):=⟨qq l⟩
theorem nM {l:List (List Spx)}:bE (fq l)=some (.int .i64 l.length):=iR
theorem Bw {l:List (List Spx)} {k:Nat} (h:k < l.length):cR 1 (fq l) (.int .i64 (k:Int))=some (.iptr [ar (l.getD k default)] 0):=by
 unfold fq
 rw [jS,if_pos ⟨by omega,by omega⟩,Int.toNat_natCast]; rfl
theorem sM {l:List Spx} (h:0 < l.length):cR 1 (ar l) (.int .i64 0)=some (.iptr [aw (l.getD 0 default)] 0):=dp h
abbrev ShC (a:List Spx):Prop:=Shn a∧∀ s ∈ a,Shn s
attribute [local irreducible] aD aj aX aP aH aK az aL aR bd Go.Abs.Fn aO Go.Abs.Pure av aF Yl
theorem jO (a:List Spx) (ha:ShC a):Pure Try.prog 14 [ar a] (.int .i64 (cC a)):=by
 refine Pure.of_c2 follows BF (Nat.le_of_ble_eq_true rfl) ?_
 simp only [b14,cO,cG,cN,cM,cD,cF,cB,aB,aS]
 have ha':a.length ≤ 17592186044416:=ha.1
 unfold cC
 by_cases h0:4096 < a.length
 ·rw [if_pos h0]
  (have zz:=aI @ae (aI @au @am); repeat' (first|refine zW ?_|apply a_n|apply a_r|refine zO ?_|refine vZ ?_|(refine zGZ ?_ ?_ <;> (intro _hg; try (exfalso; omega)))|refine ak rfl ?_|refine r1Z ?_|fail)) <;> (try clear zz)
  all_goals exact co rfl
 rw [if_neg h0]
 (have zz:=aI @ae (aI @au @am); repeat' (first|refine zW ?_|apply a_n|refine zO ?_|refine vZ ?_|(refine zGZ ?_ ?_ <;> (intro _hg; try (exfalso; omega)))|fail)) <;> (try clear zz)
 refine jH (X:=Nat) (fun k=>[(0,ar a),(9,ar a),(10,.int .i64 a.length),(11,.int .i64 k)]) (fun k=>k ≤ a.length∧∀ i,i < k→xf a i=0) (fun k=>a.length - k) 0 ⟨Nat.zero_le _,fun i h=>absurd h (by omega)⟩ ag0 ?_
 rintro k ⟨h1,h2⟩
 by_cases hk:k < a.length
 rotate_left
 ·rw [cu fun i hi=>h2 i (by omega)]
  (have zz:=and_self; repeat' (first|refine zW ?_|apply a_n|apply a_x|refine zO ?_|refine vY ?_|(refine zGY ?_ ?_ <;> (intro _hg; try (exfalso; omega)))|refine ak rfl ?_|refine r1Y ?_|fail)) <;> (try clear zz)
  exact .int _ _
 have ix:=dp hk
 have i0:=sM (l:=a) (by omega)
 have hs1:=ha.2 _ (aQ hk)
 have hp:=jN (a.getD k default) hs1
 have hsp:=rS (a:=a) (k:=k)
 by_cases he:bj (a.getD k default) ≠ 0
 ·rw [if_pos he] at hsp
  rw [bL hk h2 (by rw [hsp]; exact he),hsp]
  have z:decide (bj (a.getD k default) ≠ 0)=true:=decide_eq_true he
  (have zz:=aI @ae (aI @ap (aI @ix @z)); repeat' (first|refine zW ?_|apply a_n|apply a_r|refine zO ?_|refine vY ?_|refine cY ?_ (hp:=hp) (hs:=by (first | refine ac ?_ rfl | apply ag); (repeat' (first | exact aa | apply an | apply ai | exact ay _)); first | done | fail)|refine cTY ?_|(refine zGY ?_ ?_ <;> (intro _hg; try (exfalso; omega)))|refine ak rfl ?_|refine r1Y ?_|fail)) <;> (try clear zz)
  exact .int _ _
 rw [if_neg he] at hsp
 have he:=Decidable.of_not_not he
 rw [he] at hp
 have z:decide ((0:Int) ≠ 0)=false:=rfl
 by_cases hl:(a.getD k default).length ≠ (a.getD 0 default).length
 ·rw [if_pos hl] at hsp
  rw [bL hk h2 (by rw [hsp]; decide),hsp]
  have z1:decide (((a.getD k default).length:Int) ≠ (a.getD 0 default).length)=true:=decide_eq_true (by omega)
  (have zz:=aI @ae (aI @ap (aI @ix (aI @i0 (aI @z @z1)))); repeat' (first|refine zW ?_|apply a_n|apply a_r|refine zO ?_|refine vY ?_|refine cY ?_ (hp:=hp) (hs:=by (first | refine ac ?_ rfl | apply ag); (repeat' (first | exact aa | apply an | apply ai | exact ay _)); first | done | fail)|refine cTY ?_|refine cFY ?_|(refine zGY ?_ ?_ <;> (intro _hg; try (exfalso; omega)))|refine ak rfl ?_|refine r1Y ?_|fail)) <;> (try clear zz)
  exact .int _ _
 rw [if_neg hl] at hsp
 have z1:decide (((a.getD k default).length:Int) ≠ (a.getD 0 default).length)=false:=decide_eq_false (by omega)
 by_cases hk0:0 < k
 rotate_left
 ·rw [if_neg (fun h=>hk0 h.1)] at hsp
  have zk:decide (0 < (k:Int))=false:=decide_eq_false (by omega)
  (have zz:=aI @ae (aI @ap (aI @ix (aI @i0 (aI @z (aI @z1 @zk))))); repeat' (first|refine zW ?_|apply a_n|refine zO ?_|refine vY ?_|refine cY ?_ (hp:=hp) (hs:=by (first | refine ac ?_ rfl | apply ag); (repeat' (first | exact aa | apply an | apply ai | exact ay _)); first | done | fail)|refine gFY ?_|refine cFY ?_|(refine zGY ?_ ?_ <;> (intro _hg; try (exfalso; omega)))|fail)) <;> (try clear zz)
  exact ⟨k + 1,⟨by omega,fun i hi=>by
   rcases Nat.lt_succ_iff_lt_or_eq.1 hi with h' | rfl
   ·exact h2 i h'
   ·exact hsp⟩,by omega,ag0,rfl,rfl⟩
 have zk:decide (0 < (k:Int))=true:=decide_eq_true (by omega)
 have iy:cR 1 (ar a) (.int .i64 ((k:Int) - 1))=some (.iptr [aw (a.getD (k - 1) default)] 0):=by
  have:=dp (l:=a) (k:=k - 1) (by omega)
  rwa [show ((k - 1:Nat):Int)=(k:Int) - 1 by omega] at this
 have hcm:=dR (a.getD (k - 1) default) (a.getD k default) (ha.2 _ (aQ (by omega))) hs1
 by_cases hv:0 ≤ aM (a.getD (k - 1) default) (a.getD k default)
 ·have z2:decide (0 ≤ aM (a.getD (k - 1) default) (a.getD k default))=true:=decide_eq_true hv
  rw [if_pos ⟨hk0,hv⟩] at hsp
  rw [bL hk h2 (by rw [hsp]; decide),hsp]
  (have zz:=aI @ae (aI @ap (aI @ix (aI @i0 (aI @iy (aI @z (aI @z1 (aI @zk @z2))))))); repeat' (first|refine zW ?_|apply a_n|apply a_r|refine zO ?_|refine vY ?_|refine cY ?_ (hp:=by first | exact hp | exact hcm) (hs:=by (first | refine ac ?_ rfl | apply ag); (repeat' (first | exact aa | apply an | apply ai | exact ay _)); first | done | fail)|refine gTY ?_|refine cTY ?_|refine cFY ?_|(refine zGY ?_ ?_ <;> (intro _hg; try (exfalso; omega)))|refine ak rfl ?_|refine r1Y ?_|fail)) <;> (try clear zz)
  exact .int _ _
 ·have z2:decide (0 ≤ aM (a.getD (k - 1) default) (a.getD k default))=false:=decide_eq_false hv
  rw [if_neg (fun h=>hv h.2)] at hsp
  (have zz:=aI @ae (aI @ap (aI @ix (aI @i0 (aI @iy (aI @z (aI @z1 (aI @zk @z2))))))); repeat' (first|refine zW ?_|apply a_n|refine zO ?_|refine vY ?_|refine cY ?_ (hp:=by first | exact hp | exact hcm) (hs:=by (first | refine ac ?_ rfl | apply ag); (repeat' (first | exact aa | apply an | apply ai | exact ay _)); first | done | fail)|refine gTY ?_|refine cFY ?_|(refine zGY ?_ ?_ <;> (intro _hg; try (exfalso; omega)))|fail)) <;> (try clear zz)
  exact ⟨k + 1,⟨by omega,fun i hi=>by
   rcases Nat.lt_succ_iff_lt_or_eq.1 hi with h' | rfl
   ·exact h2 i h'
   ·exact hsp⟩,by omega,ag0,rfl,rfl⟩
def iU:List (List Spx)→Int
 | []=>0
 | a :: l=>if cC a ≠ 0 then cC a else iU l
theorem pY {l:List (List Spx)} {k:Nat} (h:k < l.length):iU (l.drop k)=if cC (l.getD k default) ≠ 0 then cC (l.getD k default) else iU (l.drop (k + 1)):=by
 rw [fJ h]; rfl
theorem xk (l:List (List Spx)) (hl:Shn l) (h:∀ a ∈ l,ShC a):Pure Try.prog 37 [fq l] (.int .i64 (iU l)):=by
 refine Pure.of_c2 follows Bu (Nat.le_of_ble_eq_true rfl) ?_
 simp only [b37,cO,cG,cN,cM,cD,cF,cB,aB,aS]
 have hl':l.length ≤ 17592186044416:=hl
 (have zz:=@nM; repeat' (first|refine zW ?_|apply a_n|refine zO ?_|refine vZ ?_|fail)) <;> (try clear zz)
 refine jH (X:=Nat) (fun k=>[(6,fq l),(7,.int .i64 l.length),(8,.int .i64 k)]) (fun k=>k ≤ l.length∧iU (l.drop k)=iU l) (fun k=>l.length - k) 0 ⟨Nat.zero_le _,rfl⟩ ag0 ?_
 rintro k ⟨h1,h2⟩
 by_cases hk:k < l.length
 rotate_left
 ·rw [← h2,List.drop_of_length_le (by omega)]
  (have zz:=and_self; repeat' (first|refine zW ?_|apply a_n|apply a_x|refine zO ?_|refine vY ?_|(refine zGY ?_ ?_ <;> (intro _hg; try (exfalso; omega)))|refine ak rfl ?_|refine r1Y ?_|fail)) <;> (try clear zz)
  exact .int _ _
 have ix:=Bw hk
 have hc:=jO _ (h _ (aQ hk))
 rw [pY hk] at h2
 generalize l.getD k default=a at *
 by_cases he:cC a=0
 rotate_left
 ·rw [if_pos he] at h2
  rw [← h2]
  have z:decide (cC a ≠ 0)=true:=decide_eq_true he
  (have zz:=aI @ix @z; repeat' (first|refine zW ?_|apply a_n|apply a_r|refine zO ?_|refine vY ?_|refine cY ?_ (hp:=hc) (hs:=by (first | refine ac ?_ rfl | apply ag); (repeat' (first | exact aa | apply an | apply ai | exact aC _)); first | done | fail)|refine cTY ?_|(refine zGY ?_ ?_ <;> (intro _hg; try (exfalso; omega)))|refine ak rfl ?_|refine r1Y ?_|fail)) <;> (try clear zz)
  exact .int _ _
 ·rw [if_neg (fun q=>q he)] at h2
  rw [he] at hc
  have z:decide ((0:Int) ≠ 0)=false:=rfl
  (have zz:=aI @ix @z; repeat' (first|refine zW ?_|apply a_n|refine zO ?_|refine vY ?_|refine cY ?_ (hp:=hc) (hs:=by (first | refine ac ?_ rfl | apply ag); (repeat' (first | exact aa | apply an | apply ai | exact aC _)); first | done | fail)|refine cFY ?_|(refine zGY ?_ ?_ <;> (intro _hg; try (exfalso; omega)))|fail)) <;> (try clear zz)
  exact ⟨k + 1,⟨by omega,h2⟩,by omega,ag0,rfl,rfl⟩
end Go.Proofs.Ytfcenbapjhecfaa
namespace Go.Proofs.Ytfcenbapjhecfaa
open Go Go.Abs
attribute [local irreducible] aD aj aX aP aH aK az aL aR bd Go.Abs.Fn aO Go.Abs.Pure av aF Yl
end Go.Proofs.Ytfcenbapjhecfaa