/- Texts of this claim, one after the other: U9v, U10v, U11v, U12v, U13v, U2o, U3o, U4o, U5o, U6o, U7o, U8o, U10o, U12o, U13o, T20, T10, T21, T11, T22, T40, T41, T42, U2k, U3k, U4k, U5k, U6k, U7k, U8k, U10k, U12k, U13k, T31, T32, T33, T34, T35, T23, T24, T25, T26, A11, T27, T36, T29, T37, T43, T47, T48, T49, T50, T44, T45, T51, T52, T53, T54, T55, T56, T57, T63, T64, T59, T60, T58, T61, T62, T65, T66, A14, T46, T67, T68, T69, T70, T8, T9. -/
import Derived.Test.YtjgpfclngkcedaaGreatXG4
import Derived.Test.YtjgpfclngkcedaaGreatXG3
import Derived.Test.YtjgpfclngkcedaaGreatRows
import Derived.WalkKit
import Derived.ProofKit
import Derived.OpenShut

set_option linter.unusedSimpArgs false
set_option linter.unusedVariables false
namespace Go.Proofs.YtjgpfclngkcedaaGreat
open Go Go.Abs
theorem lG {x:Int} (h:0 ≤ x) (h2:x < 18446744073709551616):IntKind.wrap .u64 x=x:=by
  simp only [IntKind.bits,IntKind.wrap,IntKind.signed]; simp; omega
def xr (a b:Int):Int:=IntKind.wrap .u64 (BitVec.ofInt 64 a ^^^ BitVec.ofInt 64 b).toNat
def wG (a:Int):Int:=IntKind.wrap .u64 (a * 2 ^ 13)
def wD (a:Int):Int:=IntKind.wrap .u64 (a * 2 ^ 17)
def sr7 (a:Int):Int:=a.fdiv (2 ^ 7)
attribute [irreducible] xr wG wD sr7
attribute [local irreducible] am ac aB ax an ao ai ap ay aG Go.Abs.Fn aw Go.Abs.Pure ae ak Yl
end Go.Proofs.YtjgpfclngkcedaaGreat
namespace Go.Proofs.YtjgpfclngkcedaaGreat
open Go Go.Abs
open Nat (reduceEqDiff reduceAdd reduceLeDiff)
section
variable {α:Type} [Inhabited α] {f:α→AV} {K:α→α→Int} {G:α→Prop} {g:Nat} {caps:List AV}
attribute [local irreducible] am ac aB ax an ao ai ap ay aG Go.Abs.Fn aw Go.Abs.Pure ae ak Yl
end
end Go.Proofs.YtjgpfclngkcedaaGreat
namespace Go.Proofs.YtjgpfclngkcedaaGreat
open Go Go.Abs
structure PS (H H1:Hp) (nx n1 b:Nat) (cs:List AV):Prop where
  at_:H1 b=some cs
  fr:∀ i,i < nx→i ≠ b→H1 i=H i
  le:nx ≤ n1
section
variable {H H1 H2:Hp} {nx n1 n2 b:Nat} {cs cs':List AV}
theorem PS.upd (h:PS H H1 nx n1 b cs):PS H (av H1 b cs') nx n1 b cs':=⟨bj,fun i k1 k2=>by rw [aO k2]; exact h.fr i k1 k2,h.le⟩
theorem PS.new {v:List AV} (hb:b < nx) (h:PS H H1 nx n1 b cs):PS H (av H1 n1 v) nx (n1 + 1) b cs :=
  have h1:=h.le
  ⟨by rw [aO (by omega)]; exact h.at_,fun i k1 k2=>by rw [aO (by omega)]; exact h.fr i k1 k2,by omega⟩
end
section
variable {α:Type} [Inhabited α] {f:α→AV} {K:α→α→Int} {G:α→Prop} {g:Nat} {caps:List AV}
structure PI {α:Type} [Inhabited α] (K:α→α→Int) (a e:Nat) (L:List α) (a1 e1:Nat) (M:List α):Prop where
  lo:a ≤ a1
  mid:a1 ≤ e1
  hi:e1 ≤ e
  len:e ≤ L.length
  perm:PermR a e L M
  low:mM K a1 e1 M
  close:∀ N,PermR a1 e1 M N→a7 K a1 e1 N→a7 K a e N
variable {a e a1 e1:Nat} {L M N:List α}
theorem PI.mlen (h:PI K a e L a1 e1 M):e1 ≤ M.length:=by rw [h.perm.len]; exact Nat.le_trans h.hi h.len
theorem PI.start (h1:a ≤ e) (h2:e ≤ L.length) (h3:mM K a e L):PI K a e L a e L:=⟨Nat.le_refl _,h1,Nat.le_refl _,h2,.refl,h3,fun _ _ h=>h⟩
theorem PI.swap (h:PI K a e L a1 e1 M) (hp:PermR a1 e1 M N):PI K a e L a1 e1 N :=
  ⟨h.lo,h.mid,h.hi,h.len,h.perm.trans (hp.mono h.lo h.hi),h.low.perm hp h.mid h.mlen,fun N' k1 k2=>h.close N' (hp.trans k1) k2⟩
theorem PI.done (h:PI K a e L a1 e1 M) (hp:PermR a1 e1 M N) (hs:a7 K a1 e1 N):PermR a e L N∧a7 K a e N:=⟨h.perm.trans (hp.mono h.lo h.hi),h.close N hp hs⟩
theorem PI.equal {v:α} {m:Nat} (hK:Ord K) (h:PI K a e L a1 e1 M) (hp:PermR a1 e1 M N) (hv:¬ K (M.getD (a1 - 1) default) v < 0) (ha:0 < a1) (hm:a1 < m∧m ≤ e1) (h1:∀ p,a1 ≤ p→p < m→¬ K v (N.getD p default) < 0) (h2:∀ q,m ≤ q→q < e1→K v (N.getD q default) < 0):PI K a e L m e1 N:=by
  have hN:=h.swap hp
  have hlow:=hN.low
  have ho:N.getD (a1 - 1) default=M.getD (a1 - 1) default:=hp.out _ (.inl (by omega))
  refine ⟨by have:=h.lo; omega,hm.2,h.hi,h.len,hN.perm,fun q k0 k1 k2=>hK.negtr _ _ _ (h1 (m - 1) (by omega) (by omega)) (hK.asym _ _ (h2 q k1 k2)),fun N' k1 k2=>hN.close N' (k1.mono (by omega) (Nat.le_refl _)) (fun p q c1 c2 c3=>?_)⟩
  by_cases e1':m ≤ p
  · exact k2 p q e1' c2 c3
  · rw [k1.out p (.inl (by omega))]
    refine hK.negtr _ _ _ (h1 p c1 (by omega)) ?_
    by_cases e2:m ≤ q
    · exact hK.asym _ _ (k1.all (p:=fun x=>K v x < 0) hm.2 hN.mlen h2 q e2 c3)
    · rw [k1.out q (.inl (by omega))]
      exact hK.negtr _ _ _ hv (by rw [← ho]; exact hlow q ha (by omega) c3)
theorem a7.glue {m:Nat} (hK:Ord K) (h1:a7 K a1 m N) (h2:a7 K (m + 1) e1 N) (h3:∀ p,a1 ≤ p→p < m→¬ K (N.getD m default) (N.getD p default) < 0) (h4:∀ q,m < q→q < e1→¬ K (N.getD q default) (N.getD m default) < 0):a7 K a1 e1 N:=fun p q k1 k2 k3=>by
  by_cases c1:q < m
  · exact h1 p q k1 k2 c1
  · by_cases c2:m < p
    · exact h2 p q c2 k2 k3
    · by_cases c3:p=m
      · subst c3; exact h4 q (by omega) k3
      · by_cases c4:q=m
        · subst c4; exact h3 p k1 k2
        · exact hK.negtr _ _ _ (h3 p k1 (by omega)) (h4 q (by omega) k3)
structure TwoS {α:Type} [Inhabited α] (K:α→α→Int) (a1 e1 m:Nat) (N:List α):Prop where
  mid:a1 ≤ m∧m < e1
  lt:∀ p,a1 ≤ p→p < m→¬ K (N.getD m default) (N.getD p default) < 0
  ge:∀ q,m < q→q < e1→¬ K (N.getD q default) (N.getD m default) < 0
theorem TwoS.left {m:Nat} {N':List α} (h:TwoS K a1 e1 m N) (hp:PermR a1 m N N') (hl:e1 ≤ N.length):TwoS K a1 e1 m N' :=
  have hm:=h.mid
  ⟨hm,by
    rw [hp.out m (.inr (Nat.le_refl _))]
    exact hp.all (p:=fun x=>¬ K (N.getD m default) x < 0) hm.1 (by omega) h.lt,fun q k1 k2=>by rw [hp.out m (.inr (Nat.le_refl _)),hp.out q (.inr (by omega))]; exact h.ge q k1 k2⟩
theorem TwoS.right {m:Nat} {N':List α} (h:TwoS K a1 e1 m N) (hp:PermR (m + 1) e1 N N') (hl:e1 ≤ N.length):TwoS K a1 e1 m N' :=
  have hm:=h.mid
  ⟨hm,fun p k1 k2=>by rw [hp.out m (.inl (by omega)),hp.out p (.inl (by omega))]; exact h.lt p k1 k2,by
    rw [hp.out m (.inl (by omega))]
    exact fun q k1 k2=>hp.all (p:=fun x=>¬ K x (N.getD m default) < 0) (by omega) hl (fun i c1 c2=>h.ge i (by omega) c2) q (by omega) k2⟩
theorem PI.left {m:Nat} (hK:Ord K) (h:PI K a e L a1 e1 M) (ht:TwoS K a1 e1 m M) (hp:PermR a1 m M N) (hs:a7 K a1 m N):PI K a e L (m + 1) e1 N:=by
  have hm:=ht.mid
  have hN:=h.swap (hp.mono (Nat.le_refl _) (by omega))
  have htN:=ht.left hp h.mlen
  refine ⟨by have:=h.lo; omega,by omega,h.hi,h.len,hN.perm,fun q k0 k1 k2=>by rw [Nat.add_sub_cancel]; exact htN.ge q k1 k2,fun N' k1 k2=>hN.close N' (k1.mono (by omega) (Nat.le_refl _)) ?_⟩
  have ht':=htN.right k1 hN.mlen
  exact a7.glue hK (fun p q c1 c2 c3=>by rw [k1.out p (.inl (by omega)),k1.out q (.inl (by omega))]; exact hs p q c1 c2 c3) k2 ht'.lt ht'.ge
theorem PI.right {m:Nat} (hK:Ord K) (h:PI K a e L a1 e1 M) (ht:TwoS K a1 e1 m M) (hp:PermR (m + 1) e1 M N) (hs:a7 K (m + 1) e1 N):PI K a e L a1 m N:=by
  have hm:=ht.mid
  have hN:=h.swap (hp.mono (by omega) (Nat.le_refl _))
  have htN:=ht.right hp h.mlen
  refine ⟨h.lo,hm.1,by have:=h.hi; omega,h.len,hN.perm,fun q k0 k1 k2=>hN.low q k0 k1 (by omega),fun N' k1 k2=>hN.close N' (k1.mono (Nat.le_refl _) (by omega)) ?_⟩
  have ht':=htN.left k1 hN.mlen
  exact a7.glue hK k2 (fun p q c1 c2 c3=>by rw [k1.out p (.inr (by omega)),k1.out q (.inr (by omega))]; exact hs p q c1 c2 c3) ht'.lt ht'.ge
theorem mM.sub {a e a' e':Nat} {M:List α} (h:mM K a e M) (ha:a'=a) (he:e' ≤ e):mM K a' e' M:=fun q k0 k1 k2=>by subst ha; exact h q k0 k1 (by omega)
end
end Go.Proofs.YtjgpfclngkcedaaGreat
namespace Go.Proofs.YtjgpfclngkcedaaGreat
open Go Go.Abs
section
variable {α:Type} [Inhabited α] {f:α→AV} {K:α→α→Int} {G:α→Prop} {g:Nat} {caps:List AV}
attribute [local irreducible] am ac aB ax an ao ai ap ay aG Go.Abs.Fn aw Go.Abs.Pure ae ak Yl
end
end Go.Proofs.YtjgpfclngkcedaaGreat
namespace Go.Proofs.YtjgpfclngkcedaaGreat
open Go Go.Abs
open Nat (reduceEqDiff reduceAdd reduceLeDiff)
section
variable {α:Type} [Inhabited α] {f:α→AV} {K:α→α→Int} {G:α→Prop} {g:Nat} {caps:List AV}
attribute [local irreducible] am ac aB ax an ao ai ap ay aG Go.Abs.Fn aw Go.Abs.Pure ae ak Yl
end
end Go.Proofs.YtjgpfclngkcedaaGreat
namespace Go.Proofs.YtjgpfclngkcedaaGreat
open Go Go.Abs
section
variable {α:Type} [Inhabited α] {f:α→AV} {K:α→α→Int} {G:α→Prop}
attribute [local irreducible] am ac aB ax an ao ai ap ay aG Go.Abs.Fn aw Go.Abs.Pure ae ak Yl
end
end Go.Proofs.YtjgpfclngkcedaaGreat
namespace Go.Proofs.YtjgpfclngkcedaaGreat
open Go Go.Abs
section
variable {α:Type} [Inhabited α] {f:α→AV} {K:α→α→Int} {G:α→Prop}
attribute [local irreducible] am ac aB ax an ao ai ap ay aG Go.Abs.Fn aw Go.Abs.Pure ae ak Yl
end
end Go.Proofs.YtjgpfclngkcedaaGreat
namespace Go.Proofs.YtjgpfclngkcedaaGreat
open Go Go.Abs
section
variable {α:Type} [Inhabited α] {f:α→AV} {K:α→α→Int} {G:α→Prop}
attribute [local irreducible] am ac aB ax an ao ai ap ay aG Go.Abs.Fn aw Go.Abs.Pure ae ak Yl
end
end Go.Proofs.YtjgpfclngkcedaaGreat
namespace Go.Proofs.YtjgpfclngkcedaaGreat
open Go Go.Abs
section
variable {α:Type} [Inhabited α] {f:α→AV} {K:α→α→Int} {G:α→Prop}
attribute [local irreducible] am ac aB ax an ao ai ap ay aG Go.Abs.Fn aw Go.Abs.Pure ae ak Yl
end
end Go.Proofs.YtjgpfclngkcedaaGreat
namespace Go.Proofs.YtjgpfclngkcedaaGreat
open Go Go.Abs
section
variable {α:Type} [Inhabited α] {f:α→AV} {K:α→α→Int} {G:α→Prop}
attribute [local irreducible] am ac aB ax an ao ai ap ay aG Go.Abs.Fn aw Go.Abs.Pure ae ak Yl
end
end Go.Proofs.YtjgpfclngkcedaaGreat
namespace Go.Proofs.YtjgpfclngkcedaaGreat
open Go Go.Abs
section
variable {α:Type} [Inhabited α] {f:α→AV} {K:α→α→Int} {G:α→Prop}
attribute [local irreducible] am ac aB ax an ao ai ap ay aG Go.Abs.Fn aw Go.Abs.Pure ae ak Yl
end
end Go.Proofs.YtjgpfclngkcedaaGreat
namespace Go.Proofs.YtjgpfclngkcedaaGreat
open Go Go.Abs
section
variable {α:Type} [Inhabited α] {f:α→AV} {K:α→α→Int} {G:α→Prop}
attribute [local irreducible] am ac aB ax an ao ai ap ay aG Go.Abs.Fn aw Go.Abs.Pure ae ak Yl
end
end Go.Proofs.YtjgpfclngkcedaaGreat
namespace Go.Proofs.YtjgpfclngkcedaaGreat
open Go Go.Abs
section
variable {α:Type} [Inhabited α] {f:α→AV} {K:α→α→Int} {G:α→Prop}
attribute [local irreducible] am ac aB ax an ao ai ap ay aG Go.Abs.Fn aw Go.Abs.Pure ae ak Yl
end
end Go.Proofs.YtjgpfclngkcedaaGreat
namespace Go.Proofs.YtjgpfclngkcedaaGreat
open Go Go.Abs
section
variable {α:Type} [Inhabited α] {f:α→AV} {K:α→α→Int} {G:α→Prop}
attribute [local irreducible] am ac aB ax an ao ai ap ay aG Go.Abs.Fn aw Go.Abs.Pure ae ak Yl
end
end Go.Proofs.YtjgpfclngkcedaaGreat
namespace Go.Proofs.YtjgpfclngkcedaaGreat
open Go Go.Abs
attribute [local irreducible] am ac aB ax an ao ai ap ay aG Go.Abs.Fn aw Go.Abs.Pure ae ak Yl
end Go.Proofs.YtjgpfclngkcedaaGreat
namespace Go.Proofs.YtjgpfclngkcedaaGreat
open Go Go.Abs
open Nat (reduceEqDiff reduceAdd reduceLeDiff)
def bF (t:TaskV) (i f:Int):Int:=if aA t ≠ 0 then aA t else if i < 0 ∨ (t.cases.length:Int) ≤ i then 6 else if f < 0 ∨ ((2 ^ t.n.toNat:Nat):Int) ≤ f then 2 else 0
theorem gX {t:TaskV} (h:aA t=0):1 ≤ t.n∧t.n ≤ 5:=by
  unfold aA at h
  by_cases c:t.n < 1 ∨ 5 < t.n ∨ t.ins < 1 ∨ 8 < t.ins ∨ t.outs < 1 ∨ 8 < t.outs
  · rw [if_pos c] at h; exact absurd h (by decide)
  · omega
attribute [local irreducible] am ac aB ax an ao ai ap ay aG Go.Abs.Fn aw Go.Abs.Pure ae ak Yl
theorem oV (t:TaskV) (i f:Int) (hs:∀ c ∈ t.cases,ShC c) (hsc:Sh t.cases):Pure Tryz.prog 92 [a5 t,.int .i64 i,.int .i64 f] (.int .i64 (bF t i f)):=by
  refine Pure.of_c2 follows w8 (Nat.le_of_ble_eq_true rfl) ?_
  simp only [b92,cO,cG,cN,cM,cD,cF,cB,al,aC]
  have hsc':t.cases.length ≤ 17592186044416:=hsc
  have hc:=jw t hs hsc
  have d2:=bx t
  by_cases he:aA t=0
  rotate_left
  · have e:bF t i f=aA t:=by unfold bF; rw [if_pos he]
    rw [e]
    generalize aA t=C at *
    unfold a5 at hc d2
    rw [show a5 t=.agg [.int .i64 t.n,.int .i64 t.ins,.int .i64 t.outs,aJ t.cases] from rfl]
    (have zz:=aI @af (aI @ab @ag); repeat' (first | refine zW ?_ | apply a_n | apply a_r | refine zO ?_ | refine vZ ?_ | refine cZ ?_ (hp:=hc) | refine bxZ ?_ | (refine zGZ ?_ ?_ <;> (intro _hg; try (exfalso; omega))) | refine ah rfl ?_ | refine r1Z ?_ | fail)) <;> (try clear zz)
    exact aS rfl
  obtain ⟨n1,n5⟩:=gX he
  obtain ⟨nn,hnn⟩:∃ nn:Nat,t.n=nn:=⟨t.n.toNat,by omega⟩
  have sh:aL .shl false false (.int .i64 1) (.int .i64 t.n)=some (.int .i64 ((2 ^ t.n.toNat:Nat):Int)):=by
    have h2:2 ^ nn ≤ 2 ^ 5:=Nat.pow_le_pow_right (by omega) (by omega)
    have h:=rD (k:=.i64) (k':=.i64) (a:=1) (b:=nn) (tb:=false) (tf:=false) (by show nn ≤ 64; omega) (by show 1 * 2 ^ nn < 2 ^ 63; omega)
    rw [Nat.one_mul] at h
    rw [hnn]
    exact h
  have e:bF t i f=if i < 0 ∨ (t.cases.length:Int) ≤ i then 6 else if f < 0 ∨ ((2 ^ t.n.toNat:Nat):Int) ≤ f then 2 else 0:=by unfold bF; rw [if_neg (fun h=>h he)]
  rw [e]
  rw [he] at hc
  generalize ((2 ^ t.n.toNat:Nat):Int)=W at *
  unfold a5 at hc d2
  rw [show a5 t=.agg [.int .i64 t.n,.int .i64 t.ins,.int .i64 t.outs,aJ t.cases] from rfl]
  by_cases h1:i < 0 ∨ (t.cases.length:Int) ≤ i
  · rw [if_pos h1]
    (have zz:=aI @af (aI @ab (aI @ag @sh)); repeat' (first | refine zW ?_ | apply a_n | apply a_r | refine zO ?_ | refine vZ ?_ | refine cZ ?_ (hp:=hc) | refine bxZ ?_ | refine gTZ ?_ | refine gFZ ?_ | refine cTZ ?_ | (refine zGZ ?_ ?_ <;> (intro _hg; try (exfalso; omega))) | refine ah rfl ?_ | refine r1Z ?_ | fail)) <;> (try clear zz)
    all_goals exact aS rfl
  · rw [if_neg h1]
    by_cases h2:f < 0 ∨ W ≤ f
    · rw [if_pos h2]
      (have zz:=aI @af (aI @ab (aI @ag @sh)); repeat' (first | refine zW ?_ | apply a_n | apply a_r | refine zO ?_ | refine vZ ?_ | refine cZ ?_ (hp:=hc) | refine bxZ ?_ | refine gTZ ?_ | refine gFZ ?_ | refine cTZ ?_ | (refine zGZ ?_ ?_ <;> (intro _hg; try (exfalso; omega))) | refine ah rfl ?_ | refine r1Z ?_ | fail)) <;> (try clear zz)
      all_goals exact aS rfl
    · rw [if_neg h2]
      (have zz:=aI @af (aI @ab (aI @ag @sh)); repeat' (first | refine zW ?_ | apply a_n | refine zO ?_ | refine vZ ?_ | refine cZ ?_ (hp:=hc) | refine bxZ ?_ | refine gTZ ?_ | (refine zGZ ?_ ?_ <;> (intro _hg; try (exfalso; omega))) | refine ah rfl ?_ | refine r1Z ?_ | fail)) <;> (try clear zz)
      all_goals exact aS rfl
end Go.Proofs.YtjgpfclngkcedaaGreat
namespace Go.Proofs.YtjgpfclngkcedaaGreat
open Go Go.Abs
def mI (t:TaskV) (i:Int):CaseV:=t.cases.getD i.toNat default
theorem dI (c:CaseV):Dat (jj c):=Dat.agg (DatL.cons (aW _) (DatL.cons (aP _) (DatL.cons (aP _) DatL.nil)))
attribute [local irreducible] am ac aB ax an ao ai ap ay aG Go.Abs.Fn aw Go.Abs.Pure ae ak Yl
end Go.Proofs.YtjgpfclngkcedaaGreat
namespace Go.Proofs.YtjgpfclngkcedaaGreat
open Go Go.Abs
def gA (t:TaskV) (i f:Int):List (List Int):=if bF t i f=0 then aE (mI t i) f else []
theorem nd {t:TaskV} {i f:Int} (h:bF t i f=0):aA t=0∧0 ≤ i∧i < t.cases.length∧0 ≤ f:=by
  unfold bF at h
  by_cases c:aA t=0
  · rw [if_neg (fun k=>k c)] at h
    by_cases c1:i < 0 ∨ (t.cases.length:Int) ≤ i
    · rw [if_pos c1] at h; exact absurd h (by decide)
    · rw [if_neg c1] at h
      by_cases c2:f < 0 ∨ ((2 ^ t.n.toNat:Nat):Int) ≤ f
      · rw [if_pos c2] at h; exact absurd h (by decide)
      · exact ⟨c,by omega,by omega,by omega⟩
  · rw [if_pos c] at h; exact absurd h c
theorem rN {H:Hp} (e:Int):Snap H (.tup [.esl,.int .i64 e]) (.tup [az [],.int .i64 e]):=bw (aj (.eslsl 1) (aj (.int _ _) au))
attribute [local irreducible] am ac aB ax an ao ai ap ay aG Go.Abs.Fn aw Go.Abs.Pure ae ak Yl
theorem nM (t:TaskV) (i f:Int) (hs:∀ c ∈ t.cases,ShC c) (hsc:Sh t.cases) (hq:∀ c ∈ t.cases,c.out.length ≤ 100000∧c.calm.length ≤ 100000):Pure Tryz.prog 36 [a5 t,.int .i64 i,.int .i64 f] (.tup [az (gA t i f),.int .i64 (bF t i f)]):=by
  refine Pure.of_c2 follows wr (Nat.le_of_ble_eq_true rfl) ?_
  simp only [b36,cO,cG,cN,cM,cD,cF,cB,al,aC]
  have hsc':t.cases.length ≤ 17592186044416:=hsc
  have hc:=oV t i f hs hsc
  have d2:=bx t
  by_cases he:bF t i f=0
  rotate_left
  · have e:gA t i f=[]:=by unfold gA; rw [if_neg he]
    rw [e]
    generalize bF t i f=C at *
    unfold a5 at hc d2
    rw [show a5 t=.agg [.int .i64 t.n,.int .i64 t.ins,.int .i64 t.outs,aJ t.cases] from rfl]
    (have zz:=aI @af (aI @ab @ag); repeat' (first | refine zW ?_ | apply a_n | apply a_r | refine zO ?_ | refine vZ ?_ | refine cZ ?_ (hp:=hc) | refine bxZ ?_ | (refine zGZ ?_ ?_ <;> (intro _hg; try (exfalso; omega))) | refine ah rfl ?_ | refine r2Z ?_ | fail)) <;> (try clear zz)
    exact rN _
  obtain ⟨e0,e1,e2,e3⟩:=nd he
  obtain ⟨k,rfl⟩:∃ k:Nat,i=k:=⟨i.toNat,by omega⟩
  have hk:k < t.cases.length:=by omega
  have hm:=aF hk
  have e:gA t k f=aE (t.cases.getD k default) f:=by unfold gA; rw [if_pos he]; rfl
  rw [e]
  rw [he] at hc ⊢
  have ix:=aN hk
  have hq1:=hq _ hm
  obtain ⟨s1,s2,s3,s4,s5⟩:=hs _ hm
  generalize t.cases.getD k default=c at *
  have ha:=la c f
  have hcp:Pure Tryz.prog 93 [az (aE c f)] (az (aE c f)):=qT _ (by unfold aE; split <;> omega) (by
    unfold aE
    split
    · exact s5
    · exact s3)
  have ha2:Pure Tryz.prog 94 [.agg [aD c.inp,az c.out,az c.calm],.int .i64 f] (az (aE c f)):=ha
  obtain ⟨inp,out,calm⟩:=c
  have d3:Dat (.agg [aD inp,az out,az calm]):=dI ⟨inp,out,calm⟩
  dsimp only at *
  unfold a5 at hc d2
  rw [show a5 t=.agg [.int .i64 t.n,.int .i64 t.ins,.int .i64 t.outs,aJ t.cases] from rfl]
  (have zz:=aI @af (aI @ab (aI @ag @ix)); repeat' (first | refine zW ?_ | apply a_n | refine zO ?_ | refine vZ ?_ | refine cZ ?_ (hp:=by first | exact hc | exact ha2 | exact hcp) | refine bxZ ?_ | (refine zGZ ?_ ?_ <;> (intro _hg; try (exfalso; omega))) | refine ah rfl ?_ | refine r2Z ?_ | fail)) <;> (try clear zz)
  exact bw (aj (Dat.snap (aP _)) (aj (.int _ _) au))
theorem qy {a:Nat}:eE (a:Int)=((a % 2:Nat):Int):=by
  have h:(BitVec.ofInt 64 (a:Int) &&& BitVec.ofInt 64 1).toNat=a % 2:=by
    rw [BitVec.toNat_and]
    have e:(BitVec.ofInt 64 1).toNat=2 ^ 1 - 1:=rfl
    rw [e,Nat.and_two_pow_sub_one_eq_mod]
    simp [BitVec.toNat_ofInt]
  unfold eE
  rw [h,ot (by omega) (by omega)]
end Go.Proofs.YtjgpfclngkcedaaGreat
namespace Go.Proofs.YtjgpfclngkcedaaGreat
open Go Go.Abs
open Nat (reduceEqDiff reduceAdd reduceLeDiff)
section
variable {t:TaskV} {S:List Nat} (hc:aA t=0) (hp:S.Pairwise (· < ·)) (hS:∀ i ∈ S,i < t.cases.length)
theorem mY (h:aA t=0):(¬ (t.n < 1 ∨ 5 < t.n ∨ t.ins < 1 ∨ 8 < t.ins ∨ t.outs < 1 ∨ 8 < t.outs))∧(1 ≤ t.cases.length∧t.cases.length ≤ 1024)∧∀ k,k < t.cases.length→aV (t.cases.getD k default).inp t.n t.ins=0∧bm t.n t.outs (t.cases.getD k default)=0:=by
  unfold aA at h
  split at h
  · omega
  · rename_i h1
    split at h
    · omega
    · rename_i h2
      refine ⟨h1,by omega,fun k hk=>?_⟩
      have h3:=dQ h k hk
      unfold cS at h3
      split at h3
      · exact absurd h3 ‹_›
      · rename_i h4
        split at h3
        · omega
        · exact ⟨Decidable.byContradiction fun x=>h4 x,h3⟩
include hc in
theorem r5 {i j:Nat} (hi:i < t.cases.length) (hj:j < t.cases.length) (h:(t.cases.getD i default).inp=(t.cases.getD j default).inp):i=j:=by
  rcases Nat.lt_trichotomy i j with hl | rfl | hl
  · have:=gx hc j i hl hj
    rw [h,cm] at this; omega
  · rfl
  · have:=gx hc i j hl hi
    rw [h,cm] at this; omega
end
def wx (w:Int) (i:Nat):Bool:=decide (IntKind.wrap .u16 ((BitVec.ofInt 16 (w.fdiv (2 ^ (min (i % 16) 16))) &&& BitVec.ofInt 16 1).toNat:Int)=1)
def sm (w:Int) (k:Nat):List Nat:=(List.range k).filter (wx w)
attribute [local irreducible] am ac aB ax an ao ai ap ay aG Go.Abs.Fn aw Go.Abs.Pure ae ak Yl
end Go.Proofs.YtjgpfclngkcedaaGreat
namespace Go.Proofs.YtjgpfclngkcedaaGreat
open Go Go.Abs
open Nat (reduceEqDiff reduceAdd reduceLeDiff)
theorem pL {v:List Int} {n most:Int} (h:aV v n most=0):(v.length:Int)=n∧∀ x ∈ v,0 ≤ x∧x < most:=by
  unfold aV at h
  by_cases c:(v.length:Int) ≠ n
  · rw [if_pos c] at h; exact absurd h (by decide)
  · rw [if_neg c] at h
    refine ⟨by omega,fun x hx=>?_⟩
    by_cases c2:v.any (fun x=>decide (x < 0 ∨ most ≤ x))=true
    · rw [if_pos c2] at h; exact absurd h (by decide)
    · rw [Bool.not_eq_true,List.any_eq_false] at c2
      have:=c2 x hx
      simp only [decide_eq_true_eq] at this
      omega
theorem pk {t:TaskV} {k:Nat} (h:aA t=0) (hk:k < t.cases.length) :
    (1 ≤ (t.cases.getD k default).out.length)∧(∀ v ∈ (t.cases.getD k default).out,(v.length:Int)=t.n∧∀ x ∈ v,0 ≤ x∧x < t.outs)∧(∀ v ∈ (t.cases.getD k default).calm,v ∈ (t.cases.getD k default).out):=by
  have h0:=((mY h).2.2 k hk).2
  generalize t.cases.getD k default=c at *
  unfold bm at h0
  split at h0
  · exact absurd h0 (by decide)
  split at h0
  · exact absurd h0 ‹_›
  rename_i g1 g2
  have o0:=dQ (Decidable.of_not_not g2)
  have c0:=dQ h0
  refine ⟨by omega,fun v hv=>?_,fun v hv=>?_⟩
  · obtain ⟨j,hj,rfl⟩:=List.getElem_of_mem hv
    have:=o0 j hj
    unfold fh at this
    split at this
    · exact absurd this ‹_›
    · rename_i g3
      have e:=pL (Decidable.of_not_not g3)
      simpa [List.getD,hj] using e
  · obtain ⟨j,hj,rfl⟩:=List.getElem_of_mem hv
    have:=c0 j hj
    unfold fo at this
    split at this
    · rename_i g3; simpa [List.getD,hj] using g3
    · exact absurd this (by decide)
theorem gu {t:TaskV} {k:Nat} {f:Int} (h:aA t=0) (hk:k < t.cases.length):(1 ≤ (aE (t.cases.getD k default) f).length)∧∀ v ∈ aE (t.cases.getD k default) f,(v.length:Int)=t.n∧∀ x ∈ v,0 ≤ x∧x < t.outs:=by
  obtain ⟨h1,h2,h3⟩:=pk h hk
  unfold aE
  split
  · rename_i g; exact ⟨by omega,fun v hv=>h2 v (h3 v hv)⟩
  · exact ⟨h1,h2⟩
def i5 (t:TaskV) (i f:Int) (outs:List Int):Bool × Int:=if bF t i f ≠ 0 then (false,bF t i f) else if (outs.length:Int) ≠ t.n then (false,15) else if outs.any (fun x=>decide (x < -1 ∨ t.outs ≤ x)) then (false,2) else ((aE (mI t i) f).any (fun v=>a6 v outs f),0)
attribute [local irreducible] am ac aB ax an ao ai ap ay aG Go.Abs.Fn aw Go.Abs.Pure ae ak Yl
theorem nD (t:TaskV) (i f:Int) (outs:List Int) (hs:∀ c ∈ t.cases,ShC c) (hsc:Sh t.cases) (ho:Sh outs):Pure Tryz.prog 37 [a5 t,.int .i64 i,.int .i64 f,aD outs] (.tup [.bool (i5 t i f outs).1,.int .i64 (i5 t i f outs).2]):=by
  refine Pure.of_c2 follows wN (Nat.le_of_ble_eq_true rfl) ?_
  simp only [b37,cO,cG,cN,cM,cD,cF,cB,al,aC]
  have hsc':t.cases.length ≤ 17592186044416:=hsc
  have ho':outs.length ≤ 17592186044416:=ho
  have hc:=oV t i f hs hsc
  have d2:=bx t
  have dT:Dat (aJ t.cases):=cJ _
  by_cases he:bF t i f=0
  rotate_left
  · have e:i5 t i f outs=(false,bF t i f):=by unfold i5; rw [if_pos he]
    rw [e]
    generalize bF t i f=C at *
    unfold a5 at hc d2
    rw [show a5 t=.agg [.int .i64 t.n,.int .i64 t.ins,.int .i64 t.outs,aJ t.cases] from rfl]
    (have zz:=aI @af (aI @ab @ag); repeat' (first | refine zW ?_ | apply a_n | apply a_r | refine zO ?_ | refine vZ ?_ | refine cZ ?_ (hp:=hc) | refine bxZ ?_ | (refine zGZ ?_ ?_ <;> (intro _hg; try (exfalso; omega))) | refine ah rfl ?_ | refine r2Z ?_ | fail)) <;> (try clear zz)
    exact bw (aj (.bool _) (aj (.int _ _) au))
  obtain ⟨e0,e1,e2,e3⟩:=nd he
  obtain ⟨k,rfl⟩:∃ k:Nat,i=k:=⟨i.toNat,by omega⟩
  have hk:k < t.cases.length:=by omega
  have hm:=aF hk
  have e:i5 t k f outs=if (outs.length:Int) ≠ t.n then (false,15) else if outs.any (fun x=>decide (x < -1 ∨ t.outs ≤ x)) then (false,2) else ((aE (t.cases.getD k default) f).any (fun v=>a6 v outs f),0):=by unfold i5; rw [if_neg (fun h=>h he)]; rfl
  rw [e]
  rw [he] at hc
  have ix:=aN hk
  have hav:=(gu (f:=f) e0 hk).2
  obtain ⟨s1,s2,s3,s4,s5⟩:=hs _ hm
  by_cases hn:(outs.length:Int) ≠ t.n
  · rw [if_pos hn]
    unfold a5 at hc d2
    rw [show a5 t=.agg [.int .i64 t.n,.int .i64 t.ins,.int .i64 t.outs,aJ t.cases] from rfl]
    (have zz:=aI @af (aI @ab @ag); repeat' (first | refine zW ?_ | apply a_n | apply a_r | refine zO ?_ | refine vZ ?_ | refine cZ ?_ (hp:=hc) | refine bxZ ?_ | (refine zGZ ?_ ?_ <;> (intro _hg; try (exfalso; omega))) | refine ah rfl ?_ | refine r2Z ?_ | fail)) <;> (try clear zz)
    exact bw (aj (.bool _) (aj (.int _ _) au))
  rw [if_neg hn]
  have hA:=iZ outs (fun x=>decide (x < -1 ∨ t.outs ≤ x)) 95 [.iptr [.int .i64 t.n,.int .i64 t.ins,.int .i64 t.outs,aJ t.cases] 0] (fun x hx=>by
    simp only [List.mem_singleton] at hx; subst hx
    exact .iptr (DatL.cons .int (DatL.cons .int (DatL.cons .int (DatL.cons dT DatL.nil))))) (fun x _=>lw x t) ho
  generalize t.cases.getD k default=c at *
  have sA:Sh (aE c f)∧∀ v ∈ aE c f,Sh v:=by
    unfold aE
    split
    · exact ⟨s4,s5⟩
    · exact ⟨s2,s3⟩
  have hB:=eR (aE c f) (fun v=>a6 v outs f) 97 [.iptr [aD outs] 0,.iptr [.int .i64 f] 0] (fun x hx=>by
    simp only [List.mem_cons,List.not_mem_nil,or_false] at hx
    rcases hx with rfl | rfl
    · exact .iptr (DatL.cons (aW _) DatL.nil)
    · exact .iptr (DatL.cons .int DatL.nil)) (fun v hv=>lu v outs f (sA.2 v hv) ho (by have:=(hav v hv).1; omega)) sA.1
  have ha2:Pure Tryz.prog 94 [.agg [aD c.inp,az c.out,az c.calm],.int .i64 f] (az (aE c f)):=la c f
  have d3:Dat (.agg [aD c.inp,az c.out,az c.calm]):=dI c
  have hn:(outs.length:Int)=t.n:=Decidable.of_not_not hn
  clear hav hm hs
  unfold a5 at hc d2
  rw [show a5 t=.agg [.int .i64 t.n,.int .i64 t.ins,.int .i64 t.outs,aJ t.cases] from rfl]
  (have zz:=aI @af (aI @ab (aI @ag @ix)); repeat' (first | refine zW ?_ | apply a_n | refine zO ?_ | refine vZ ?_ | refine cZ ?_ (hp:=by first | exact hc | exact ha2) | refine bxZ ?_ | (refine zGZ ?_ ?_ <;> (intro _hg; try (exfalso; omega))) | fail)) <;> (try clear zz)
  refine cP ev0 ev0 hA (aK (by (repeat' (first | exact au | exact Dat.snap Dat.int | exact Dat.snap Dat.bool | exact Dat.snap Dat.str | exact Dat.snap Dat.esl | exact Dat.snap Dat.nilf | exact Dat.snap (aW _) | exact Dat.snap (aP _) | exact Dat.snap dT | apply aj | apply cX | apply cU | (apply dJ; (focus ((try simp only [bb,ZA,reduceEqDiff,↓reduceIte,reduceAdd,reduceLeDiff]); with_reducible rfl)); (focus rfl))))) rfl) ?_
  cases hb:outs.any (fun x=>decide (x < -1 ∨ t.outs ≤ x))
  · (have zz:=aI @af (aI @ab (aI @ag (aI @ix @Bool.false_eq_true))); repeat' (first | refine zW ?_ | refine zM ?_ | apply a_n | refine zO ?_ | refine vZ ?_ | refine cZ ?_ (hp:=by first | exact hc | exact ha2) | refine cFZ ?_ | fail)) <;> (try clear zz)
    refine cP ev0 ev0 hB (aK (by (repeat' (first | exact au | exact Dat.snap Dat.int | exact Dat.snap Dat.bool | exact Dat.snap Dat.str | exact Dat.snap Dat.esl | exact Dat.snap Dat.nilf | exact Dat.snap (aW _) | exact Dat.snap (aP _) | apply aj | apply cX | apply cU | (apply dJ; (focus ((try simp only [bb,ZA,reduceEqDiff,↓reduceIte,reduceAdd,reduceLeDiff]); with_reducible rfl)); (focus rfl))))) rfl) ?_
    (have zz:=and_self; repeat' (first | apply a_n | refine zO ?_ | refine vZ ?_ | refine ah rfl ?_ | refine r2Z ?_ | fail)) <;> (try clear zz)
    exact bw (aj (.bool _) (aj (.int _ _) au))
  · (have zz:=aI @af (aI @ab (aI @ag @ix)); repeat' (first | refine zW ?_ | apply a_n | apply a_r | refine zO ?_ | refine vZ ?_ | refine cTZ ?_ | refine ah rfl ?_ | refine r2Z ?_ | fail)) <;> (try clear zz)
    exact bw (aj (.bool _) (aj (.int _ _) au))
end Go.Proofs.YtjgpfclngkcedaaGreat
namespace Go.Proofs.YtjgpfclngkcedaaGreat
open Go Go.Abs
open Nat (reduceEqDiff reduceAdd reduceLeDiff)
section
variable {α β:Type} [Inhabited α]
theorem ec {l:List α} {f:α→Option β} (h:∀ i,i < l.length→f (l.getD i default)=none):l.findSome? f=none:=by
  rw [List.findSome?_eq_none_iff]
  intro x hx
  obtain ⟨i,hi,rfl⟩:=List.getElem_of_mem hx
  have:=h i hi
  rwa [show l.getD i default=l[i] by simp [List.getD,hi]] at this
theorem gQ {l:List α} {f:α→Option β} {k:Nat} {w:β} (hk:k < l.length) (h:∀ i,i < k→f (l.getD i default)=none) (e:f (l.getD k default)=some w):l.findSome? f=some w:=by
  have e1:l=l.take k ++ l.drop k:=(List.take_append_drop k l).symm
  rw [e1,List.findSome?_append,ec (l:=l.take k) (fun i hi=>by
    rw [List.length_take] at hi
    rw [fV (by omega)]; exact h i (by omega)),bv hk,List.findSome?_cons,e]
  rfl
theorem iJ {l:List α} {p:α→Bool} (h:∀ i,i < l.length→p (l.getD i default)=false):l.find? p=none:=by
  rw [List.find?_eq_none]
  intro x hx
  obtain ⟨i,hi,rfl⟩:=List.getElem_of_mem hx
  have:=h i hi
  rw [show l.getD i default=l[i] by simp [List.getD,hi]] at this
  rw [this]; decide
theorem rk {l:List α} {p:α→Bool} {k:Nat} (hk:k < l.length) (h:∀ i,i < k→p (l.getD i default)=false) (e:p (l.getD k default)=true):l.find? p=some (l.getD k default):=by
  have e1:l=l.take k ++ l.drop k:=(List.take_append_drop k l).symm
  have e2:(l.take k ++ l.drop k).find? p=some (l.getD k default):=by
    rw [List.find?_append,iJ (l:=l.take k) (fun i hi=>by
      rw [List.length_take] at hi
      rw [fV (by omega)]; exact h i (by omega)),bv hk,List.find?_cons_of_pos e]
    rfl
  rwa [← e1] at e2
end
theorem gq {n i:Nat} (h:i < n):(List.range n).getD i default=i:=by simp [List.getD,h]
def cz (a b:TaskV):Int:=if aA a ≠ 0 then aA a else if aA b ≠ 0 then aA b else if a.n ≠ b.n then 22 else 0
theorem rC {a b:TaskV} (h:cz a b=0):aA a=0∧aA b=0∧a.n=b.n:=by
  unfold cz at h
  split at h
  · exact absurd h ‹_›
  split at h
  · exact absurd h ‹_›
  split at h
  · exact absurd h (by decide)
  rename_i h1 h2 h3
  exact ⟨Decidable.of_not_not h1,Decidable.of_not_not h2,Decidable.of_not_not h3⟩
def de (t:TaskV) (v:List Int):Option CaseV:=if v ∈ t.cases.map CaseV.inp then some (t.cases.getD (gw t v) default) else none
theorem lQ {t:TaskV} {v:List Int} (h:v ∈ t.cases.map CaseV.inp):gw t v < t.cases.length:=by
  unfold gw
  have:=List.findIdx_lt_length_of_exists (xs:=t.cases.map CaseV.inp) (p:=fun x=>decide (x=v)) ⟨v,h,by simp⟩
  rwa [List.length_map] at this
theorem eL {t:TaskV} {v:List Int} {c:CaseV} (h:de t v=some c):c ∈ t.cases∧c.inp=v:=by
  unfold de at h
  split at h
  · rename_i hm
    cases h
    have hl:=lQ hm
    refine ⟨aF hl,?_⟩
    rw [← bU hl]
    have hl2:gw t v < (t.cases.map CaseV.inp).length:=by rw [List.length_map]; exact hl
    have h3:(t.cases.map CaseV.inp).getD (gw t v) default=(t.cases.map CaseV.inp)[gw t v]:=by rw [List.getD_eq_getElem?_getD,List.getElem?_eq_getElem hl2]; rfl
    rw [h3]
    exact of_decide_eq_true (List.findIdx_getElem (xs:=t.cases.map CaseV.inp) (p:=fun x=>decide (x=v)) (w:=hl2))
  · cases h
theorem nQ {t:TaskV} {v:List Int} (h:de t v=none):∀ c ∈ t.cases,c.inp ≠ v:=by
  unfold de at h
  split at h
  · cases h
  · rename_i hm
    exact fun c hc e=>hm (List.mem_map.2 ⟨c,hc,e⟩)
def zC:CaseV:=⟨[],[],[]⟩
def f0 (c:CaseV) (f:Int) (v:List Int):Bool:=(aE c f).any fun w=>a6 w v f
def gp (a:TaskV) (c:CaseV):Option (List Int × Int × List Int):=match de a c.inp with
  | none=>some (c.inp,0,[])
  | some x=>(List.range (2 ^ a.n.toNat)).findSome? fun (f:Nat)=>((aE x (f:Int)).find? fun v=>!f0 c (f:Int) v).map fun v=>(c.inp,(f:Int),v)
def dw (a b:TaskV):Option (List Int × Int × List Int):=b.cases.findSome? (gp a)
def dU (a b:TaskV):List Int × Int × List Int × Bool × Int:=if cz a b ≠ 0 then ([],0,[],false,cz a b) else match dw a b with
  | none=>([],0,[],true,0)
  | some w=>(w.1,w.2.1,w.2.2,false,0)
def lK (r:List Int × Int × List Int × Bool × Int):AV:=.tup [aD r.1,.int .i64 r.2.1,aD r.2.2.1,.bool r.2.2.2.1,.int .i64 r.2.2.2.2]
theorem gL {v w:List Int} {f:Int} (h:v.length=w.length):a6 v w f=a6 w v f:=by
  unfold a6
  rw [h]
  congr 1
  funext p
  rw [show decide (w.getD p default ≠ v.getD p default)=decide (v.getD p default ≠ w.getD p default) from decide_eq_decide.2 ⟨fun h e=>h e.symm,fun h e=>h e.symm⟩]
theorem qV {l:List (List Int)} {v:List Int} {f:Int} (h:∀ w ∈ l,w.length=v.length):(l.any fun w=>a6 v w f)=l.any fun w=>a6 w v f:=by
  rw [Bool.eq_iff_iff,List.any_eq_true,List.any_eq_true]
  exact ⟨fun ⟨w,hw,e⟩=>⟨w,hw,by rw [gL (h w hw)]; exact e⟩,fun ⟨w,hw,e⟩=>⟨w,hw,by rw [← gL (h w hw)]; exact e⟩⟩
theorem oM {H:Hp} {i o:List Int} {f e:Int} {k:Bool} {x y:AV} (hx:Snap H x (aD i)) (hy:Snap H y (aD o)):Snap H (.tup [x,.int .i64 f,y,.bool k,.int .i64 e]) (lK (i,f,o,k,e)) :=
  bw (aj hx (aj (.int _ _) (aj hy (aj (.bool _) (aj (.int _ _) au)))))
theorem pF {a:TaskV} {c x:CaseV} (h:de a c.inp=some x) (hz:∀ f:Nat,f < 2 ^ a.n.toNat→∀ i,i < (aE x f).length→f0 c f ((aE x f).getD i default)=true):gp a c=none:=by
  unfold gp
  rw [h]
  refine ec fun i hi=>?_
  rw [List.length_range] at hi
  rw [gq hi,Option.map_eq_none_iff]
  refine iJ fun j hj=>?_
  rw [hz i hi j hj]; rfl
theorem qD {a:TaskV} {c x:CaseV} {f k:Nat} (h:de a c.inp=some x) (hz:∀ g:Nat,g < f→∀ i,i < (aE x g).length→f0 c g ((aE x g).getD i default)=true) (hf:f < 2 ^ a.n.toNat) (hk:k < (aE x f).length) (hi:∀ i,i < k→f0 c f ((aE x f).getD i default)=true) (e:f0 c f ((aE x f).getD k default)=false):gp a c=some (c.inp,(f:Int),(aE x f).getD k default):=by
  unfold gp
  rw [h]
  refine gQ (k:=f) (by rw [List.length_range]; exact hf) (fun g hg=>?_) ?_
  · rw [gq (by omega),Option.map_eq_none_iff]
    refine iJ fun j hj=>?_
    rw [hz g hg j hj]; rfl
  · rw [gq hf,rk hk (fun i h=>by rw [hi i h]; rfl) (by rw [e]; rfl)]
    rfl
attribute [local irreducible] am ac aB ax an ao ai ap ay aG Go.Abs.Fn aw Go.Abs.Pure ae ak Yl
theorem pB (l:List CaseV) (p:CaseV→Bool) (g:Nat) (caps:List AV) (hd:∀ x ∈ caps,Dat x) (hg:∀ x ∈ l,Pure Tryz.prog g (.agg [aD x.inp,az x.out,az x.calm] :: caps) (.bool (p x))) (hl:Sh l):Pure Tryz.prog 100 [aJ l,.func g caps] (.int .i64 (if l.any p then (l.findIdx p:Nat) else -1)):=by
  refine Pure.of_c2 follows sG (Nat.le_of_ble_eq_true rfl) ?_
  simp only [tp,cO,cG,cN,cM,cD,cF,cB,al,aC]
  have hl':l.length ≤ 17592186044416:=hl
  (have zz:=aI @af (aI @ab @ag); repeat' (first | refine zW ?_ | apply a_n | refine zO ?_ | refine vZ ?_ | fail)) <;> (try clear zz)
  refine fL (X:=Nat) (fun k=>[(0,aJ l),(1,.func g caps),(7,.int .i64 l.length),(8,.int .i64 k)]) (fun k=>k ≤ l.length∧∀ i,i < k→p (l.getD i default)=false) (fun k=>l.length - k) 0 ⟨Nat.zero_le _,by simp⟩ ag0 ?_
  rintro k ⟨h1,h2⟩
  by_cases hk:k < l.length
  · have hc:=hg _ (aF hk)
    have d3:=dI (l.getD k default)
    have ix:=aN hk
    have e:l.getD k default=l[k]:=by simp [List.getD,hk]
    unfold jj at d3
    cases hb:p (l.getD k default)
    · rw [hb] at hc
      (have zz:=aI @af (aI @ab (aI @ag @ix)); repeat' (first | refine zW ?_ | apply a_n | refine zO ?_ | refine vZ ?_ | refine cZ ?_ (hp:=hc) (hs:=by (first | refine aK ?_ rfl | apply bq); (repeat' (first | exact au | apply b9 | apply bk | exact d3 | exact dR hd)); first | done | fail) | refine cFZ ?_ | (refine zGZ ?_ ?_ <;> (intro _hg; try (exfalso; omega))) | fail)) <;> (try clear zz)
      refine ⟨k + 1,⟨by omega,fun i hi=>?_⟩,by omega,ag0,rfl,rfl⟩
      rcases Nat.lt_succ_iff_lt_or_eq.1 hi with h | rfl
      · exact h2 i h
      · exact hb
    · rw [hb] at hc
      (have zz:=aI @af (aI @ab (aI @ag @ix)); repeat' (first | refine zW ?_ | apply a_n | apply a_r | refine zO ?_ | refine vZ ?_ | refine cZ ?_ (hp:=hc) (hs:=by (first | refine aK ?_ rfl | apply bq); (repeat' (first | exact au | apply b9 | apply bk | exact d3 | exact dR hd)); first | done | fail) | refine cTZ ?_ | (refine zGZ ?_ ?_ <;> (intro _hg; try (exfalso; omega))) | refine ah rfl ?_ | refine r1Z ?_ | fail)) <;> (try clear zz)
      refine aS ?_
      rw [e] at hb
      rw [if_pos (List.any_eq_true.2 ⟨l[k],List.getElem_mem hk,hb⟩),(List.findIdx_eq hk).2 ⟨hb,fun j hj=>by have:=h2 j hj; rwa [show l.getD j default=l[j] by simp [List.getD,show j < l.length by omega]] at this⟩]
  · (have zz:=aI @af (aI @ab @ag); repeat' (first | refine zW ?_ | apply a_n | apply a_x | refine zO ?_ | refine vZ ?_ | (refine zGZ ?_ ?_ <;> (intro _hg; try (exfalso; omega))) | refine ah rfl ?_ | refine r1Z ?_ | fail)) <;> (try clear zz)
    refine aS ?_
    rw [if_neg]
    rw [Bool.not_eq_true,List.any_eq_false]
    intro x hx
    obtain ⟨i,hi,e⟩:=List.getElem_of_mem hx
    have:=h2 i (by omega)
    rw [show l.getD i default=x by simp [List.getD,hi,e]] at this
    simp [this]
theorem rg (c:CaseV) (v:List Int) (hc:Sh c.inp) (hv:Sh v):Pure Tryz.prog 101 [.agg [aD c.inp,az c.out,az c.calm],.iptr [aD v] 0] (.bool (decide (c.inp=v))):=by
  refine Pure.of_c2 follows sb (Nat.le_of_ble_eq_true rfl) ?_
  simp only [sX,cO,cG,cN,cM,cD,cF,cB,al,aC]
  (have zz:=and_self; repeat' (first | refine zW ?_ | apply a_n | refine zO ?_ | refine vZ ?_ | refine cZ ?_ (hp:=by exact nu _ _ hc hv) | refine bxZ ?_ | refine ah rfl ?_ | refine r1Z ?_ | fail)) <;> (try clear zz)
  exact .bool _
theorem tt {H:Hp}:Snap H (.agg [.esl,.esl,.esl]) (jj zC):=qf (aj (.eslsl 1) (aj (.eslsl 1) (aj (.eslsl 1) au)))
theorem rB (t:TaskV) (v:List Int) (hs:∀ c ∈ t.cases,ShC c) (hsc:Sh t.cases) (hv:Sh v):Pure Tryz.prog 41 [a5 t,aD v] (.tup [jj ((de t v).getD zC),.bool (de t v).isSome]):=by
  refine Pure.of_c2 follows wk (Nat.le_of_ble_eq_true rfl) ?_
  simp only [b41,cO,cG,cN,cM,cD,cF,cB,al,aC]
  have hA:=pB t.cases (fun c=>decide (c.inp=v)) 101 [.iptr [aD v] 0] (fun x hx=>by
    simp only [List.mem_singleton] at hx; subst hx
    exact .iptr (DatL.cons (aW _) DatL.nil)) (fun c hc=>rg c v (hs c hc).1 hv) hsc
  have hany:(t.cases.any fun c=>decide (c.inp=v))=decide (v ∈ t.cases.map CaseV.inp):=by
    rw [← oE,List.any_map]; rfl
  have hidx:t.cases.findIdx (fun c=>decide (c.inp=v))=gw t v:=by
    unfold gw
    rw [List.findIdx_map]; rfl
  rw [hany,hidx] at hA
  unfold de
  unfold a5
  by_cases hm:v ∈ t.cases.map CaseV.inp
  · rw [if_pos (decide_eq_true hm)] at hA
    rw [if_pos hm]
    have hl:=lQ hm
    have hl':t.cases.length ≤ 17592186044416:=hsc
    have ix:=aN hl
    generalize gw t v=q at *
    (have zz:=aI @af (aI @ab @ag); repeat' (first | refine zW ?_ | apply a_n | refine zO ?_ | refine vZ ?_ | refine alZ ?_ | refine bxZ ?_ | fail)) <;> (try clear zz)
    refine cP ev0 ev0 hA (aK (by (repeat' (first | exact au | exact Dat.snap Dat.int | exact Dat.snap Dat.bool | exact Dat.snap Dat.str | exact Dat.snap Dat.esl | exact Dat.snap Dat.nilf | exact Dat.snap (aW _) | exact Dat.snap (aP _) | exact cJ _ _ | apply aj | apply cX | apply cU | (apply dJ; (focus ((try simp only [bb,ZA,reduceEqDiff,↓reduceIte,reduceAdd,reduceLeDiff]); with_reducible rfl)); (focus rfl))))) rfl) ?_
    have d3:=dI (t.cases.getD q default)
    (have zz:=aI @af (aI @ab (aI @ag @ix)); repeat' (first | refine zW ?_ | apply a_n | refine zO ?_ | refine vZ ?_ | refine stZ ?_ | (refine zGZ ?_ ?_ <;> (intro _hg; try (exfalso; omega))) | refine ah rfl ?_ | refine r2Z ?_ | fail)) <;> (try clear zz)
    exact bw (aj (d3 _) (aj (.bool _) au))
  · rw [if_neg (by simpa using hm)] at hA
    rw [if_neg hm]
    (have zz:=aI @af (aI @ab @ag); repeat' (first | refine zW ?_ | apply a_n | refine zO ?_ | refine vZ ?_ | refine alZ ?_ | refine bxZ ?_ | fail)) <;> (try clear zz)
    refine cP ev0 ev0 hA (aK (by (repeat' (first | exact au | exact Dat.snap Dat.int | exact Dat.snap Dat.bool | exact Dat.snap Dat.str | exact Dat.snap Dat.esl | exact Dat.snap Dat.nilf | exact Dat.snap (aW _) | exact Dat.snap (aP _) | exact cJ _ _ | apply aj | apply cX | apply cU | (apply dJ; (focus ((try simp only [bb,ZA,reduceEqDiff,↓reduceIte,reduceAdd,reduceLeDiff]); with_reducible rfl)); (focus rfl))))) rfl) ?_
    (have zz:=aI @af (aI @ab @ag); repeat' (first | refine zW ?_ | apply a_n | apply a_r | refine zO ?_ | refine vZ ?_ | refine stZ ?_ | (refine zGZ ?_ ?_ <;> (intro _hg; try (exfalso; omega))) | refine ah rfl ?_ | refine r2Z ?_ | fail)) <;> (try clear zz)
    exact bw (aj tt (aj (.bool _) au))
theorem ta (c:CaseV):Pure Tryz.prog 61 [.agg [aD c.inp,az c.out,az c.calm]] (az (aE c 0)):=by
  refine Pure.of_c2 follows u2 (Nat.le_of_ble_eq_true rfl) ?_
  simp only [b61,cO,cG,cN,cM,cD,cF,cB,al,aC]
  unfold aE
  (have zz:=and_self; repeat' (first | refine zW ?_ | apply a_n | apply a_r | refine zO ?_ | refine vZ ?_ | refine bxZ ?_ | (refine zGZ ?_ ?_ <;> (intro _hg; try (exfalso; omega))) | refine ah rfl ?_ | refine r1Z ?_ | fail)) <;> (try clear zz)
  · rw [if_pos (by omega)]; exact aP _ _
  · rw [if_neg (by omega)]; exact aP _ _
theorem kf (c:CaseV) (f:Int):Pure Tryz.prog 43 [.agg [aD c.inp,az c.out,az c.calm],.int .i64 f] (az (aE c f)):=by
  refine Pure.of_c2 follows wi (Nat.le_of_ble_eq_true rfl) ?_
  simp only [b43,cO,cG,cN,cM,cD,cF,cB,al,aC]
  have hc:=ta c
  have d3:=dI c
  unfold jj at d3
  by_cases h:f=0
  · subst h
    (have zz:=and_self; repeat' (first | refine zW ?_ | apply a_n | apply a_r | refine zO ?_ | refine vZ ?_ | refine cZ ?_ (hp:=hc) | refine bxZ ?_ | (refine zGZ ?_ ?_ <;> (intro _hg; try (exfalso; omega))) | refine ah rfl ?_ | refine r1Z ?_ | fail)) <;> (try clear zz)
    exact aP _ _
  · have e:aE c f=c.out:=by unfold aE; rw [if_neg (fun k=>h k.1)]
    rw [e]
    (have zz:=and_self; repeat' (first | refine zW ?_ | apply a_n | refine zO ?_ | refine vZ ?_ | refine bxZ ?_ | (refine zGZ ?_ ?_ <;> (intro _hg; try (exfalso; omega))) | refine ah rfl ?_ | refine r1Z ?_ | fail)) <;> (try clear zz)
    exact aP _ _
theorem pO (v w:List Int) (f:Int) (hv:Sh v) (hl:v.length ≤ w.length) (hw:Sh w):Pure Tryz.prog 102 [aD w,.iptr [aD v] 0,.iptr [.int .i64 f] 0] (.bool (a6 v w f)):=by
  refine Pure.of_c2 follows sk (Nat.le_of_ble_eq_true rfl) ?_
  simp only [sQ,cO,cG,cN,cM,cD,cF,cB,al,aC]
  have hv':v.length ≤ 17592186044416:=hv
  have hw':w.length ≤ 17592186044416:=hw
  (have zz:=and_self; repeat' (first | refine zW ?_ | apply a_n | refine zO ?_ | refine vZ ?_ | fail)) <;> (try clear zz)
  refine ki (fun k=>[(0,aD w),(1,.iptr [aD v] 0),(2,.iptr [.int .i64 f] 0),(7,.int .i64 v.length),(8,.int .i64 k)]) v.length (fun i=>(decide (eE (eS f i)=0) && decide (w.getD i default ≠ v.getD i default))=false) ag0 ?_
  intro k hk h2
  have hno:(decide (eE (eS f k)=0) && decide (w.getD k default ≠ v.getD k default))=true→k < v.length→a6 v w f=false:=fun h hk=>by
    unfold a6
    rw [Bool.eq_false_iff,ne_eq,List.all_eq_true]
    intro h'
    have:=h' k (List.mem_range.2 hk)
    rw [h] at this
    exact absurd this (by decide)
  by_cases hk2:k < v.length
  rotate_left
  · have e:a6 v w f=true:=by
      unfold a6
      rw [List.all_eq_true]
      intro i hi
      rw [h2 i (by have:=List.mem_range.1 hi; omega)]
      rfl
    rw [e]
    (have zz:=and_self; repeat' (first | refine zW ?_ | apply a_n | apply a_x | refine zO ?_ | refine vZ ?_ | (refine zGZ ?_ ?_ <;> (intro _hg; try (exfalso; omega))) | refine ah rfl ?_ | refine r1Z ?_ | fail)) <;> (try clear zz)
    exact .bool _
  by_cases hA:eE (eS f k)=0
  · by_cases hd:v.getD k default=w.getD k default
    · have z:decide (v.getD k default ≠ w.getD k default)=false:=decide_eq_false (fun h=>h hd)
      (have zz:=aI @iR (aI @fP (aI @hA @z)); repeat' (first | refine zW ?_ | apply a_n | refine zO ?_ | refine vZ ?_ | refine gTZ ?_ | refine cFZ ?_ | (refine zGZ ?_ ?_ <;> (intro _hg; try (exfalso; omega))) | fail)) <;> (try clear zz)
      all_goals exact ⟨hk2,by rw [decide_eq_false (p:=w.getD k default ≠ v.getD k default) (fun h=>h hd.symm),Bool.and_false],ag0,rfl,rfl⟩
    · have z:decide (v.getD k default ≠ w.getD k default)=true:=decide_eq_true hd
      rw [hno (by rw [decide_eq_true hA,decide_eq_true (p:=w.getD k default ≠ v.getD k default) (fun h=>hd h.symm)]; rfl) hk2]
      (have zz:=aI @iR (aI @fP (aI @hA @z)); repeat' (first | refine zW ?_ | apply a_n | apply a_r | refine zO ?_ | refine vZ ?_ | refine gTZ ?_ | refine cTZ ?_ | (refine zGZ ?_ ?_ <;> (intro _hg; try (exfalso; omega))) | refine ah rfl ?_ | refine r1Z ?_ | fail)) <;> (try clear zz)
      all_goals exact .bool _
  · have z:decide (eE (eS f k)=0)=false:=decide_eq_false hA
    (have zz:=aI @iR (aI @fP @z); repeat' (first | refine zW ?_ | apply a_n | refine zO ?_ | refine vZ ?_ | refine gFZ ?_ | refine cFZ ?_ | (refine zGZ ?_ ?_ <;> (intro _hg; try (exfalso; omega))) | fail)) <;> (try clear zz)
    all_goals exact ⟨hk2,by rw [z,Bool.false_and],ag0,rfl,rfl⟩
theorem pq (l:List (List Int)) (v:List Int) (f:Int) (hl:Sh l) (hv:v.length ≤ 17592186044416) (hw:∀ w ∈ l,w.length=v.length):Pure Tryz.prog 44 [az l,.int .i64 f,aD v] (.bool (l.any fun w=>a6 w v f)):=by
  refine Pure.of_c2 follows tY (Nat.le_of_ble_eq_true rfl) ?_
  simp only [b44,cO,cG,cN,cM,cD,cF,cB,al,aC]
  rw [← qV hw]
  have hA:=eR l (fun w=>a6 v w f) 102 [.iptr [aD v] 0,.iptr [.int .i64 f] 0] (fun x hx=>by
    simp only [List.mem_cons,List.not_mem_nil,or_false] at hx
    rcases hx with rfl | rfl
    · exact .iptr (DatL.cons (aW _) DatL.nil)
    · exact .iptr (DatL.cons .int DatL.nil)) (fun w hw2=>pO v w f hv (by rw [hw w hw2]; exact Nat.le_refl _) (by show w.length ≤ _; rw [hw w hw2]; exact hv)) hl
  (have zz:=and_self; repeat' (first | refine zW ?_ | apply a_n | refine zO ?_ | refine vZ ?_ | refine bxZ ?_ | fail)) <;> (try clear zz)
  refine cP ev0 ev0 hA (aK (by (repeat' (first | exact au | exact Dat.snap Dat.int | exact Dat.snap Dat.bool | exact Dat.snap Dat.str | exact Dat.snap Dat.esl | exact Dat.snap Dat.nilf | exact Dat.snap (aW _) | exact Dat.snap (aP _) | apply aj | apply cX | apply cU | (apply dJ; (focus ((try simp only [bb,ZA,reduceEqDiff,↓reduceIte,reduceAdd,reduceLeDiff]); with_reducible rfl)); (focus rfl))))) rfl) ?_
  (have zz:=and_self; repeat' (first | apply a_n | refine zO ?_ | refine vZ ?_ | refine ah rfl ?_ | refine r1Z ?_ | fail)) <;> (try clear zz)
  exact .bool _
theorem sO (a b:TaskV) (ha:∀ c ∈ a.cases,ShC c) (ha2:Sh a.cases) (hb:∀ c ∈ b.cases,ShC c) (hb2:Sh b.cases):Pure Tryz.prog 40 [a5 a,a5 b] (.int .i64 (cz a b)):=by
  refine Pure.of_c2 follows vD (Nat.le_of_ble_eq_true rfl) ?_
  simp only [b40,cO,cG,cN,cM,cD,cF,cB,al,aC]
  have c1:=jw a ha ha2
  have c2:=jw b hb hb2
  have d1:=bx a
  have d2:=bx b
  unfold cz
  generalize aA a=X at *
  generalize aA b=Y at *
  unfold a5 at *
  by_cases hX:X=0
  rotate_left
  · rw [if_pos hX]
    (have zz:=aI @af @ab; repeat' (first | refine zW ?_ | apply a_n | apply a_r | refine zO ?_ | refine vZ ?_ | refine cZ ?_ (hp:=c1) | refine bxZ ?_ | (refine zGZ ?_ ?_ <;> (intro _hg; try (exfalso; omega))) | refine ah rfl ?_ | refine r1Z ?_ | fail)) <;> (try clear zz)
    exact .int _ _
  rw [if_neg (fun h=>h hX)]
  by_cases hY:Y=0
  rotate_left
  · rw [if_pos hY]
    (have zz:=aI @af @ab; repeat' (first | refine zW ?_ | apply a_n | apply a_r | refine zO ?_ | refine vZ ?_ | refine cZ ?_ (hp:=by first | exact c1 | exact c2) | refine bxZ ?_ | (refine zGZ ?_ ?_ <;> (intro _hg; try (exfalso; omega))) | refine ah rfl ?_ | refine r1Z ?_ | fail)) <;> (try clear zz)
    exact .int _ _
  rw [if_neg (fun h=>h hY)]
  by_cases hN:a.n=b.n
  · have z:decide (a.n ≠ b.n)=false:=decide_eq_false (fun h=>h hN)
    rw [if_neg (fun h=>h hN)]
    (have zz:=aI @af (aI @ab @z); repeat' (first | refine zW ?_ | apply a_n | refine zO ?_ | refine vZ ?_ | refine cZ ?_ (hp:=by first | exact c1 | exact c2) | refine bxZ ?_ | refine cFZ ?_ | (refine zGZ ?_ ?_ <;> (intro _hg; try (exfalso; omega))) | refine ah rfl ?_ | refine r1Z ?_ | fail)) <;> (try clear zz)
    exact .int _ _
  · have z:decide (a.n ≠ b.n)=true:=decide_eq_true hN
    rw [if_pos hN]
    (have zz:=aI @af (aI @ab @z); repeat' (first | refine zW ?_ | apply a_n | apply a_r | refine zO ?_ | refine vZ ?_ | refine cZ ?_ (hp:=by first | exact c1 | exact c2) | refine bxZ ?_ | refine cTZ ?_ | (refine zGZ ?_ ?_ <;> (intro _hg; try (exfalso; omega))) | refine ah rfl ?_ | refine r1Z ?_ | fail)) <;> (try clear zz)
    exact .int _ _
end Go.Proofs.YtjgpfclngkcedaaGreat
namespace Go.Proofs.YtjgpfclngkcedaaGreat
open Go Go.Abs
open Nat (reduceEqDiff reduceAdd reduceLeDiff)
theorem eG {t:TaskV} {c:CaseV} {f:Int} (h:aA t=0) (hc:c ∈ t.cases):∀ v ∈ aE c f,(v.length:Int)=t.n∧v.length ≤ 5:=by
  obtain ⟨i,hi,rfl⟩:=List.getElem_of_mem hc
  intro v hv
  have:=(gu (f:=f) h hi).2 v (by rw [show t.cases.getD i default=t.cases[i] by simp [List.getD,hi]]; exact hv)
  have:=gX h
  omega
theorem kq {c:CaseV} {f:Int} (h:ShC c):Sh (aE c f):=by
  obtain ⟨s1,s2,s3,s4,s5⟩:=h
  unfold aE
  split
  · exact s4
  · exact s2
theorem nO {a b:TaskV} (h:∀ i,i < b.cases.length→gp a (b.cases.getD i default)=none):dw a b=none:=ec h
theorem pt {a b:TaskV} {k:Nat} {w:List Int × Int × List Int} (hk:k < b.cases.length) (h:∀ i,i < k→gp a (b.cases.getD i default)=none) (e:gp a (b.cases.getD k default)=some w):dw a b=some w:=gQ hk h e
theorem gO {a b:TaskV} (h:cz a b=0) (hw:dw a b=none):dU a b=([],0,[],true,0):=by
  unfold dU; rw [if_neg (fun k=>k h),hw]
theorem gV {a b:TaskV} {w:List Int × Int × List Int} (h:cz a b=0) (hw:dw a b=some w):dU a b=(w.1,w.2.1,w.2.2,false,0):=by
  unfold dU; rw [if_neg (fun k=>k h),hw]
theorem vT {n:Int} (h:n ≤ 5):2 ^ n.toNat ≤ 32:=by
  have:2 ^ n.toNat ≤ 2 ^ 5:=Nat.pow_le_pow_right (by omega) (by omega)
  omega
attribute [local irreducible] am ac aB ax an ao ai ap ay aG Go.Abs.Fn aw Go.Abs.Pure ae ak Yl
set_option maxHeartbeats 2000000 in
theorem eK (a b:TaskV) (ha:∀ c ∈ a.cases,ShC c) (ha2:Sh a.cases) (hb:∀ c ∈ b.cases,ShC c) (hb2:Sh b.cases):Pure Tryz.prog 13 [a5 a,a5 b] (lK (dU a b)):=by
  refine Pure.of_c2 follows vC (Nat.le_of_ble_eq_true rfl) ?_
  simp only [b13,cO,cG,cN,cM,cD,cF,cB,al,aC]
  have hp:=sO a b ha ha2 hb hb2
  have d1:=bx a
  have d2:=bx b
  have hb2':b.cases.length ≤ 17592186044416:=hb2
  by_cases he:cz a b=0
  rotate_left
  · have e:dU a b=([],0,[],false,cz a b):=by unfold dU; rw [if_pos he]
    rw [e]
    generalize cz a b=C at *
    unfold a5 at *
    (have zz:=aI @af @ab; repeat' (first | refine zW ?_ | apply a_n | apply a_r | refine zO ?_ | refine vZ ?_ | refine cZ ?_ (hp:=hp) | refine bxZ ?_ | (refine zGZ ?_ ?_ <;> (intro _hg; try (exfalso; omega))) | refine ah rfl ?_ | refine r5Z ?_ | fail)) <;> (try clear zz)
    exact oM (.eslsl 1) (.eslsl 1)
  obtain ⟨ca,cb,hn⟩:=rC he
  rw [he] at hp
  have hfind:=fun v hv=>rB a v ha ha2 hv
  have hN5:=(gX ca)
  have hsh:=vQ false false a.n (by omega) hN5.2
  have hp32:=vT hN5.2
  unfold a5 at *
  (have zz:=aI @af (aI @ab @ag); repeat' (first | refine zW ?_ | apply a_n | refine zO ?_ | refine vZ ?_ | refine cZ ?_ (hp:=hp) | refine bxZ ?_ | (refine zGZ ?_ ?_ <;> (intro _hg; try (exfalso; omega))) | fail)) <;> (try clear zz)
  refine fm (X:=Nat) (fun k=>[(2,.ptr 0 4 0),(3,.ptr 1 4 0),(24,aJ b.cases),(25,.int .i64 b.cases.length),(26,.int .i64 k)]) (fun k H nx=>k ≤ b.cases.length∧(∀ i,i < k→gp a (b.cases.getD i default)=none)∧2 ≤ nx∧H 0=some [.int .i64 a.n,.int .i64 a.ins,.int .i64 a.outs,aJ a.cases]∧H 1=some [.int .i64 b.n,.int .i64 b.ins,.int .i64 b.outs,aJ b.cases]) (fun k=>b.cases.length - k) 0 ⟨Nat.zero_le _,fun i h=>absurd h (by omega),Nat.le_refl _,rfl,rfl⟩ (by simp (disch:=omega) only [agr,ZG,reduceEqDiff,↓reduceIte,List.length_cons,List.length_nil,reduceAdd]) ?_
  rintro k H nx ⟨hk,hz,hnx,g0,g1⟩
  by_cases hk2:k < b.cases.length
  rotate_left
  · (have zz:=and_self; repeat' (first | refine zW ?_ | apply a_n | apply a_x | refine zO ?_ | refine vZ ?_ | (refine zGZ ?_ ?_ <;> (intro _hg; try (exfalso; omega))) | refine ah rfl ?_ | refine r5Z ?_ | fail)) <;> (try clear zz)
    rw [gO he (nO fun i hi=>hz i (by omega))]
    exact oM (.eslsl 1) (.eslsl 1)
  have ix:=aN hk2
  have hm:=aF hk2
  have hshc:=hb _ hm
  have hlens:=fun f=>eG (f:=f) cb hm
  have hfi:=hfind (b.cases.getD k default).inp hshc.1
  have hstr:=fun w=>gV (w:=w) he
  have hwk:=fun w=>pt (a:=a) (w:=w) hk2 hz
  have hnext:gp a (b.cases.getD k default)=none→∀ i,i < k + 1→gp a (b.cases.getD i default)=none:=fun h i hi=>by
    rcases Nat.lt_succ_iff_lt_or_eq.1 hi with h' | rfl
    · exact hz i h'
    · exact h
  generalize hc:b.cases.getD k default=c at *
  obtain ⟨inp,out,calm⟩:=c
  dsimp only at *
  have hcl:=jB inp hshc.1
  cases hf:de a inp with
  | none =>
    have hw:gp a ⟨inp,out,calm⟩=some (inp,0,[]):=by unfold gp; rw [hf]
    rw [hf] at hfi
    have hfi':Pure Tryz.prog 41 [.agg [.int .i64 a.n,.int .i64 a.ins,.int .i64 a.outs,aJ a.cases],aD inp] (.tup [.agg [aD [],az [],az []],.bool false]):=hfi
    (have zz:=aI @g0 (aI @g1 (aI @af (aI @ab @ix))); repeat' (first | refine zW ?_ | apply a_n | refine zO ?_ | refine vY ?_ | refine cY ?_ (hp:=hfi') | refine alY ?_ | refine stY ?_ | refine cTY ?_ | (refine zGY ?_ ?_ <;> (intro _hg; try (exfalso; omega))) | fail)) <;> (try clear zz)
    refine ju ev0 ev0 hcl (aj (aW _ _) au) ?_
    (have zz:=aI @g0 @g1; repeat' (first | apply a_n | apply a_r | refine zO ?_ | refine vY ?_ | refine ah rfl ?_ | refine r5Y ?_ | fail)) <;> (try clear zz)
    rw [hstr _ (hwk _ hw)]
    exact oM (aW _ _) (.eslsl 1)
  | some x =>
    obtain ⟨xm,xi⟩:=eL hf
    have hxs:=ha _ xm
    rw [hf] at hfi
    have hfi':Pure Tryz.prog 41 [.agg [.int .i64 a.n,.int .i64 a.ins,.int .i64 a.outs,aJ a.cases],aD inp] (.tup [.agg [aD x.inp,az x.out,az x.calm],.bool true]):=hfi
    (have zz:=aI @g0 (aI @g1 (aI @af (aI @ab (aI @ix @hsh)))); repeat' (first | refine zW ?_ | apply a_n | refine zO ?_ | refine vY ?_ | refine cY ?_ (hp:=hfi') | refine alY ?_ | refine stY ?_ | refine cFY ?_ | (refine zGY ?_ ?_ <;> (intro _hg; try (exfalso; omega))) | fail)) <;> (try clear zz)
    refine fm (X:=Nat) (fun f=>[(2,.ptr 0 4 0),(3,.ptr 1 4 0),(24,aJ b.cases),(25,.int .i64 b.cases.length),(26,.int .i64 k),(11,.ptr nx 3 0),(12,.ptr (nx + 1) 3 0),(44,.int .i64 (2 ^ a.n.toNat:Nat)),(45,.int .i64 (f:Nat))]) (fun f H' nx'=>f ≤ 2 ^ a.n.toNat∧(∀ g:Nat,g < f→∀ i,i < (aE x g).length→f0 ⟨inp,out,calm⟩ g ((aE x g).getD i default)=true)∧nx'=nx + 2∧H' 0=some [.int .i64 a.n,.int .i64 a.ins,.int .i64 a.outs,aJ a.cases]∧H' 1=some [.int .i64 b.n,.int .i64 b.ins,.int .i64 b.outs,aJ b.cases]∧H' nx=some [aD inp,az out,az calm]∧H' (nx + 1)=some [aD x.inp,az x.out,az x.calm]) (fun f=>2 ^ a.n.toNat - f) 0 ⟨Nat.zero_le _,fun g h=>absurd h (by omega),by omega,by rw [aO (by omega),aO (by omega),aO (by omega),aO (by omega),g0],by rw [aO (by omega),aO (by omega),aO (by omega),aO (by omega),g1],by rw [aO (by omega),aO (by omega),bj]; rfl,by rw [bj]; rfl⟩ (by simp (disch:=omega) only [agr,ZG,reduceEqDiff,↓reduceIte,List.length_cons,List.length_nil,reduceAdd,Nat.zero_add]) ?_
    clear g0 g1
    rintro f H1 nx1 ⟨hf1,hfz,rfl,g0,g1,g2,g3⟩
    have hd:decide ((f:Int) < ((2 ^ a.n.toNat:Nat):Int))=decide (f < 2 ^ a.n.toNat):=decide_eq_decide.2 (by omega)
    by_cases hf2:f < 2 ^ a.n.toNat
    rotate_left
    · rw [decide_eq_false hf2] at hd
      (have zz:=@hd; repeat' (first | refine zW ?_ | apply a_n | apply a_x | refine zO ?_ | refine vY ?_ | refine cFY ?_ | fail)) <;> (try clear zz)
      exact ⟨k + 1,by omega,⟨by omega,hnext (pF hf fun g hg=>hfz g (by omega)),by omega,g0,g1⟩,ag0⟩
    rw [decide_eq_true hf2] at hd
    have hv1:=kf x f
    have hv2:=kf ⟨inp,out,calm⟩ f
    dsimp only at hv2
    have dx:=dI x
    have dc:=dI ⟨inp,out,calm⟩
    unfold jj at dx dc
    dsimp only at dc
    have hLx:=eG (f:=f) ca xm
    have hLs:(aE x f).length ≤ 17592186044416:=kq hxs
    have hLc:=hlens f
    have hLcs:=kq (f:=f) hshc
    have hhit:=fun j hj hz e=>qD (a:=a) (c:=⟨inp,out,calm⟩) (x:=x) (f:=f) (k:=j) hf hfz hf2 hj hz e
    have hfnext:(∀ i,i < (aE x f).length→f0 ⟨inp,out,calm⟩ f ((aE x f).getD i default)=true)→∀ g:Nat,g < f + 1→∀ i,i < (aE x g).length→f0 ⟨inp,out,calm⟩ g ((aE x g).getD i default)=true:=fun h g hg=>by
      rcases Nat.lt_succ_iff_lt_or_eq.1 hg with h' | rfl
      · exact hfz g h'
      · exact h
    have hmay:∀ v,f0 ⟨inp,out,calm⟩ f v=(aE ⟨inp,out,calm⟩ f).any fun w=>a6 w v f:=fun v=>rfl
    generalize hL:aE x f=L at *
    generalize hM:aE ⟨inp,out,calm⟩ f=M at *
    (have zz:=aI @hd (aI @g2 @g3); repeat' (first | refine zW ?_ | apply a_n | refine zO ?_ | refine vY ?_ | refine cY ?_ (hp:=hv1) | refine cTY ?_ | fail)) <;> (try clear zz)
    refine fm (X:=Nat) (fun j=>[(2,.ptr 0 4 0),(3,.ptr 1 4 0),(24,aJ b.cases),(25,.int .i64 b.cases.length),(26,.int .i64 k),(11,.ptr nx 3 0),(12,.ptr (nx + 1) 3 0),(44,.int .i64 (2 ^ a.n.toNat:Nat)),(45,.int .i64 (f:Nat)),(14,.int .i64 (f:Nat)),(50,az L),(51,.int .i64 L.length),(52,.int .i64 j)]) (fun j H' nx'=>j ≤ L.length∧(∀ i,i < j→f0 ⟨inp,out,calm⟩ f (L.getD i default)=true)∧nx'=nx + 2∧H'=H1) (fun j=>L.length - j) 0 ⟨Nat.zero_le _,fun i h=>absurd h (by omega),rfl,rfl⟩ ag0 ?_
    rintro j _ _ ⟨hj1,hjz,rfl,rfl⟩
    by_cases hj2:j < L.length
    rotate_left
    · (have zz:=and_self; repeat' (first | refine zW ?_ | apply a_n | apply a_x | refine zO ?_ | refine vZ ?_ | (refine zGZ ?_ ?_ <;> (intro _hg; try (exfalso; omega))) | fail)) <;> (try clear zz)
      exact ⟨f + 1,by omega,⟨by omega,hfnext fun i hi=>hjz i (by omega),rfl,g0,g1,g2,g3⟩,ag0⟩
    have hvm:=aF hj2
    have hag:=pq M (L.getD j default) f hLcs (by have:=hLx _ hvm; omega) (fun w hw=>by have:=hLx _ hvm; have:=hLc w hw; omega)
    rw [← hmay] at hag
    have hcl2:=jB (L.getD j default) (by have:=hLx _ hvm; show _ ≤ _; omega)
    cases hb2:f0 ⟨inp,out,calm⟩ f (L.getD j default)
    · rw [hb2] at hag
      (have zz:=aI @g2 @g3; repeat' (first | refine zW ?_ | apply a_n | refine zO ?_ | refine vY ?_ | refine cY ?_ (hp:=by first | exact hv2 | exact hag) | refine cTY ?_ | (refine zGY ?_ ?_ <;> (intro _hg; try (exfalso; omega))) | fail)) <;> (try clear zz)
      refine ju ev0 ev0 hcl (aj (aW _ _) au) ?_
      (have zz:=and_self; repeat' (first | apply a_n | refine zO ?_ | refine vY ?_ | fail)) <;> (try clear zz)
      refine ju ev0 ev0 hcl2 (aj (aW _ _) au) ?_
      (have zz:=and_self; repeat' (first | apply a_n | apply a_r | refine zO ?_ | refine vY ?_ | refine ah rfl ?_ | refine r5Y ?_ | fail)) <;> (try clear zz)
      rw [hstr _ (hwk _ (hhit j hj2 hjz hb2))]
      exact oM (aW _ _) (aW _ _)
    · rw [hb2] at hag
      (have zz:=aI @g2 @g3; repeat' (first | refine zW ?_ | apply a_n | refine zO ?_ | refine vY ?_ | refine cY ?_ (hp:=by first | exact hv2 | exact hag) | refine cFY ?_ | (refine zGY ?_ ?_ <;> (intro _hg; try (exfalso; omega))) | fail)) <;> (try clear zz)
      refine ⟨j + 1,by omega,⟨by omega,fun i hi=>?_,rfl,rfl⟩,ag0⟩
      rcases Nat.lt_succ_iff_lt_or_eq.1 hi with h' | rfl
      · exact hjz i h'
      · exact hb2
end Go.Proofs.YtjgpfclngkcedaaGreat
namespace Go.Proofs.YtjgpfclngkcedaaGreat
open Go Go.Abs
open Nat (reduceEqDiff reduceAdd reduceLeDiff)
attribute [local irreducible] am ac aB ax an ao ai ap ay aG Go.Abs.Fn aw Go.Abs.Pure ae ak Yl
end Go.Proofs.YtjgpfclngkcedaaGreat
namespace Go.Proofs.YtjgpfclngkcedaaGreat
open Go Go.Abs
def _root_.List.c3 {α:Type} (l:List α) (f:α→AV):List AV:=l.flatMap fun x=>(f x).cells
structure Cmp3 {α:Type} (P:Program) (f:α→AV) (K:α→α→Int) (G:α→Prop) (g:Nat) (caps:List AV):Prop where
  len:∀ x,(f x).cells.length=3
  agg:∀ x,AV.agg (f x).cells=f x
  ones:∀ x,AV.ones (f x).cells=true
  dat:∀ x,Dat (f x)
  dcaps:∀ x ∈ caps,Dat x
  run:∀ x y,G x→G y→Go.Abs.Pure P g (f x :: f y :: caps) (.int .i64 (K x y))
  ord:Ord K
section
variable {α:Type} {f:α→AV} (h:∀ x,(f x).cells.length=3)
include h
end
section
variable {α:Type} [Inhabited α] {f:α→AV} {K:α→α→Int} {G:α→Prop} {g:Nat} {caps:List AV}
attribute [local irreducible] am ac aB ax an ao ai ap ay aG Go.Abs.Fn aw Go.Abs.Pure ae ak Yl
end
end Go.Proofs.YtjgpfclngkcedaaGreat
namespace Go.Proofs.YtjgpfclngkcedaaGreat
open Go Go.Abs
section
variable {α:Type} [Inhabited α] {f:α→AV} {K:α→α→Int} {G:α→Prop} {g:Nat} {caps:List AV}
attribute [local irreducible] am ac aB ax an ao ai ap ay aG Go.Abs.Fn aw Go.Abs.Pure ae ak Yl
end
end Go.Proofs.YtjgpfclngkcedaaGreat
namespace Go.Proofs.YtjgpfclngkcedaaGreat
open Go Go.Abs
open Nat (reduceEqDiff reduceAdd reduceLeDiff)
section
variable {α:Type} [Inhabited α] {f:α→AV} {K:α→α→Int} {G:α→Prop} {g:Nat} {caps:List AV}
attribute [local irreducible] am ac aB ax an ao ai ap ay aG Go.Abs.Fn aw Go.Abs.Pure ae ak Yl
end
end Go.Proofs.YtjgpfclngkcedaaGreat
namespace Go.Proofs.YtjgpfclngkcedaaGreat
open Go Go.Abs
section
variable {α:Type} [Inhabited α] {f:α→AV} {K:α→α→Int} {G:α→Prop} {g:Nat} {caps:List AV}
attribute [local irreducible] am ac aB ax an ao ai ap ay aG Go.Abs.Fn aw Go.Abs.Pure ae ak Yl
end
end Go.Proofs.YtjgpfclngkcedaaGreat
namespace Go.Proofs.YtjgpfclngkcedaaGreat
open Go Go.Abs
section
variable {α:Type} [Inhabited α] {f:α→AV} {K:α→α→Int} {G:α→Prop} {g:Nat} {caps:List AV}
attribute [local irreducible] am ac aB ax an ao ai ap ay aG Go.Abs.Fn aw Go.Abs.Pure ae ak Yl
end
end Go.Proofs.YtjgpfclngkcedaaGreat
namespace Go.Proofs.YtjgpfclngkcedaaGreat
open Go Go.Abs
section
variable {α:Type} [Inhabited α] {f:α→AV} {K:α→α→Int} {G:α→Prop} {g:Nat} {caps:List AV}
attribute [local irreducible] am ac aB ax an ao ai ap ay aG Go.Abs.Fn aw Go.Abs.Pure ae ak Yl
end
end Go.Proofs.YtjgpfclngkcedaaGreat
namespace Go.Proofs.YtjgpfclngkcedaaGreat
open Go Go.Abs
section
variable {α:Type} [Inhabited α] {f:α→AV} {K:α→α→Int} {G:α→Prop} {g:Nat} {caps:List AV}
attribute [local irreducible] am ac aB ax an ao ai ap ay aG Go.Abs.Fn aw Go.Abs.Pure ae ak Yl
end
end Go.Proofs.YtjgpfclngkcedaaGreat
namespace Go.Proofs.YtjgpfclngkcedaaGreat
open Go Go.Abs
open Nat (reduceEqDiff reduceAdd reduceLeDiff)
section
variable {α:Type} [Inhabited α] {f:α→AV} {K:α→α→Int} {G:α→Prop} {g:Nat} {caps:List AV}
attribute [local irreducible] am ac aB ax an ao ai ap ay aG Go.Abs.Fn aw Go.Abs.Pure ae ak Yl
end
end Go.Proofs.YtjgpfclngkcedaaGreat
namespace Go.Proofs.YtjgpfclngkcedaaGreat
open Go Go.Abs
section
variable {α:Type} [Inhabited α] {f:α→AV} {K:α→α→Int} {G:α→Prop} {g:Nat} {caps:List AV}
attribute [local irreducible] am ac aB ax an ao ai ap ay aG Go.Abs.Fn aw Go.Abs.Pure ae ak Yl
end
end Go.Proofs.YtjgpfclngkcedaaGreat
namespace Go.Proofs.YtjgpfclngkcedaaGreat
open Go Go.Abs
open Nat (reduceEqDiff reduceAdd reduceLeDiff)
section
variable {α:Type} [Inhabited α] {f:α→AV} {K:α→α→Int} {G:α→Prop} {g:Nat} {caps:List AV}
attribute [local irreducible] am ac aB ax an ao ai ap ay aG Go.Abs.Fn aw Go.Abs.Pure ae ak Yl
end
end Go.Proofs.YtjgpfclngkcedaaGreat
namespace Go.Proofs.YtjgpfclngkcedaaGreat
open Go Go.Abs
open Nat (reduceEqDiff reduceAdd reduceLeDiff)
def uG (l:List Int) (i:Nat):Int:=if l.getD i default < 0 ∨ (l.length:Int) ≤ l.getD i default then 2 else if (l.take i).any (fun x=>decide (x=l.getD i default)) then 7 else 0
def sB (l:List Int):Int:=if l.length < 1 ∨ 5 < l.length then 2 else bf (uG l) l.length
attribute [local irreducible] am ac aB ax an ao ai ap ay aG Go.Abs.Fn aw Go.Abs.Pure ae ak Yl
end Go.Proofs.YtjgpfclngkcedaaGreat
namespace Go.Proofs.YtjgpfclngkcedaaGreat
open Go Go.Abs
open Nat (reduceEqDiff reduceAdd reduceLeDiff)
section
variable {α:Type} [Inhabited α] {K:α→α→Int}
def jt (K:α→α→Int) (l:List α):Prop:=l.Pairwise fun x y=>¬ K y x < 0
theorem jt.of {l:List α} (h:a7 K 0 l.length l):jt K l:=by
  unfold jt
  rw [List.pairwise_iff_getElem]
  intro i j hi hj hij
  have:=h i j (Nat.zero_le _) hij hj
  simpa [List.getD,hi,hj] using this
end
attribute [local irreducible] am ac aB ax an ao ai ap ay aG Go.Abs.Fn aw Go.Abs.Pure ae ak Yl
end Go.Proofs.YtjgpfclngkcedaaGreat
namespace Go.Proofs.YtjgpfclngkcedaaGreat
open Go Go.Abs
open Nat (reduceEqDiff reduceAdd reduceLeDiff)
attribute [local irreducible] am ac aB ax an ao ai ap ay aG Go.Abs.Fn aw Go.Abs.Pure ae ak Yl
end Go.Proofs.YtjgpfclngkcedaaGreat
namespace Go.Proofs.YtjgpfclngkcedaaGreat
open Go Go.Abs
open Nat (reduceEqDiff reduceAdd reduceLeDiff)
section
variable {P:Program} {T:Tm} {H:Hp} {nx:Nat}
end
attribute [local irreducible] am ac aB ax an ao ai ap ay aG Go.Abs.Fn aw Go.Abs.Pure ae ak Yl
end Go.Proofs.YtjgpfclngkcedaaGreat
namespace Go.Proofs.YtjgpfclngkcedaaGreat
open Go Go.Abs
attribute [local irreducible] am ac aB ax an ao ai ap ay aG Go.Abs.Fn aw Go.Abs.Pure ae ak Yl
end Go.Proofs.YtjgpfclngkcedaaGreat
namespace Go.Proofs.YtjgpfclngkcedaaGreat
open Go Go.Abs
attribute [local irreducible] am ac aB ax an ao ai ap ay aG Go.Abs.Fn aw Go.Abs.Pure ae ak Yl
def dd (l:List Int):Nat→List Int
  | 0=>[]
  | k + 1=>dd l k ++ if k=0 ∨ l.getD k default ≠ l.getD (k - 1) default then [l.getD k default] else []
end Go.Proofs.YtjgpfclngkcedaaGreat
namespace Go.Proofs.YtjgpfclngkcedaaGreat
open Go Go.Abs
def inV (l:List (List Int)) (p v:Nat):Bool:=l.any fun w=>decide (w.getD p default=(v:Int))
def vals (l:List (List Int)) (p o:Nat):List Int:=((List.range o).filter (inV l p)).map Int.ofNat
attribute [local irreducible] am ac aB ax an ao ai ap ay aG Go.Abs.Fn aw Go.Abs.Pure ae ak Yl
end Go.Proofs.YtjgpfclngkcedaaGreat
namespace Go.Proofs.YtjgpfclngkcedaaGreat
open Go Go.Abs
attribute [local irreducible] am ac aB ax an ao ai ap ay aG Go.Abs.Fn aw Go.Abs.Pure ae ak Yl
end Go.Proofs.YtjgpfclngkcedaaGreat
namespace Go.Proofs.YtjgpfclngkcedaaGreat
open Go Go.Abs
attribute [local irreducible] am ac aB ax an ao ai ap ay aG Go.Abs.Fn aw Go.Abs.Pure ae ak Yl
end Go.Proofs.YtjgpfclngkcedaaGreat
namespace Go.Proofs.YtjgpfclngkcedaaGreat
open Go Go.Abs
end Go.Proofs.YtjgpfclngkcedaaGreat
namespace Go.Proofs.YtjgpfclngkcedaaGreat
open Go Go.Abs
structure PlaceV where
  index:Int
  faulty:Int
  proc:Int
  outs:List Int
attribute [local irreducible] am ac aB ax an ao ai ap ay aG Go.Abs.Fn aw Go.Abs.Pure ae ak Yl
end Go.Proofs.YtjgpfclngkcedaaGreat
namespace Go.Proofs.YtjgpfclngkcedaaGreat
open Go Go.Abs
attribute [local irreducible] am ac aB ax an ao ai ap ay aG Go.Abs.Fn aw Go.Abs.Pure ae ak Yl
end Go.Proofs.YtjgpfclngkcedaaGreat
namespace Go.Proofs.YtjgpfclngkcedaaGreat
open Go Go.Abs
attribute [local irreducible] am ac aB ax an ao ai ap ay aG Go.Abs.Fn aw Go.Abs.Pure ae ak Yl
end Go.Proofs.YtjgpfclngkcedaaGreat
namespace Go.Proofs.YtjgpfclngkcedaaGreat
open Go Go.Abs
section
variable {p:List Int}
end
section
variable {p:List Int} (hp:sB p=0)
include hp
end
theorem qt {t:TaskV} (h:aA t=0) {c d:CaseV} (hc:c ∈ t.cases) (hd:d ∈ t.cases) (e:c.inp=d.inp):c=d:=by
  obtain ⟨i,hi,rfl⟩:=List.getElem_of_mem hc
  obtain ⟨j,hj,rfl⟩:=List.getElem_of_mem hd
  have ei:t.cases.getD i default=t.cases[i]:=by simp [List.getD,hi]
  have ej:t.cases.getD j default=t.cases[j]:=by simp [List.getD,hj]
  have:=r5 h hi hj (by rw [ei,ej]; exact e)
  subst this; rfl
section
variable {t:TaskV} {p:List Int} (h:aA t=0) (hp:sB p=0) (hn:(p.length:Int)=t.n)
include h hp hn
end
end Go.Proofs.YtjgpfclngkcedaaGreat
namespace Go.Proofs.YtjgpfclngkcedaaGreat
open Go Go.Abs
open Nat (reduceEqDiff reduceAdd reduceLeDiff)
attribute [local irreducible] am ac aB ax an ao ai ap ay aG Go.Abs.Fn aw Go.Abs.Pure ae ak Yl
end Go.Proofs.YtjgpfclngkcedaaGreat
namespace Go.Proofs.YtjgpfclngkcedaaGreat
open Go Go.Abs
def rp (l:List (List Int)):Prop:=l.Pairwise fun x y=>aM x y < 0
theorem rp.nodup {l:List (List Int)} (h:rp l):l.Nodup:=List.Pairwise.imp (fun {a b} h e=>by subst e; rw [cm] at h; omega) h
theorem rp.of {l:List (List Int)} (hs:jt aM l) (hn:l.Nodup):rp l:=by
  have h2:=List.nodup_iff_pairwise_ne.1 hn
  refine List.Pairwise.imp₂ (fun a b h1 h2=>?_) hs h2
  rcases gB a b with h | h | h
  · omega
  · exact absurd (fC h) h2
  · have:=kv a b
    exact absurd (show aM b a < 0 by omega) h1
section
variable {α:Type} [Inhabited α] [DecidableEq α]
end
end Go.Proofs.YtjgpfclngkcedaaGreat
namespace Go.Proofs.YtjgpfclngkcedaaGreat
open Go Go.Abs
open Nat (reduceEqDiff reduceAdd reduceLeDiff)
section
variable {P:Program} {T:Tm} {H:Hp} {nx:Nat}
end
attribute [local irreducible] am ac aB ax an ao ai ap ay aG Go.Abs.Fn aw Go.Abs.Pure ae ak Yl
section
variable {g:Nat} {caps:List AV} {s:AV}
end
end Go.Proofs.YtjgpfclngkcedaaGreat
namespace Go.Proofs.YtjgpfclngkcedaaGreat
open Go Go.Abs
open Nat (reduceEqDiff reduceAdd reduceLeDiff)
attribute [local irreducible] am ac aB ax an ao ai ap ay aG Go.Abs.Fn aw Go.Abs.Pure ae ak Yl
end Go.Proofs.YtjgpfclngkcedaaGreat
namespace Go.Proofs.YtjgpfclngkcedaaGreat
open Go Go.Abs
open Nat (reduceEqDiff reduceAdd reduceLeDiff)
attribute [local irreducible] am ac aB ax an ao ai ap ay aG Go.Abs.Fn aw Go.Abs.Pure ae ak Yl
end Go.Proofs.YtjgpfclngkcedaaGreat
namespace Go.Proofs.YtjgpfclngkcedaaGreat
open Go Go.Abs
open Nat (reduceEqDiff reduceAdd reduceLeDiff)
attribute [local irreducible] am ac aB ax an ao ai ap ay aG Go.Abs.Fn aw Go.Abs.Pure ae ak Yl
end Go.Proofs.YtjgpfclngkcedaaGreat
namespace Go.Proofs.YtjgpfclngkcedaaGreat
open Go Go.Abs
attribute [local irreducible] am ac aB ax an ao ai ap ay aG Go.Abs.Fn aw Go.Abs.Pure ae ak Yl
end Go.Proofs.YtjgpfclngkcedaaGreat
namespace Go.Proofs.YtjgpfclngkcedaaGreat
open Go Go.Abs
open Nat (reduceEqDiff reduceAdd reduceLeDiff)
attribute [local irreducible] am ac aB ax an ao ai ap ay aG Go.Abs.Fn aw Go.Abs.Pure ae ak Yl
end Go.Proofs.YtjgpfclngkcedaaGreat
namespace Go.Proofs.YtjgpfclngkcedaaGreat
open Go Go.Abs
theorem np {t:TaskV} (h:aA t=0) {c:CaseV} (hc:c ∈ t.cases):de t c.inp=some c:=by
  cases hf:de t c.inp with
  | none=>exact absurd rfl (nQ hf c hc)
  | some d =>
    obtain ⟨h1,h2⟩:=eL hf
    rw [qt h h1 hc h2]
structure Fit (t:TaskV):Prop where
  sh:∀ c ∈ t.cases,ShC c
  len:t.cases.length ≤ 100000
  q:∀ c ∈ t.cases,c.out.length ≤ 100000∧c.calm.length ≤ 100000
structure Fit4 (t:TaskV):Prop where
  fit:Fit t
  q4:∀ c ∈ t.cases,c.out.length ≤ 40000∧c.calm.length ≤ 40000
attribute [local irreducible] am ac aB ax an ao ai ap ay aG Go.Abs.Fn aw Go.Abs.Pure ae ak Yl
end Go.Proofs.YtjgpfclngkcedaaGreat
namespace Go.Proofs.YtjgpfclngkcedaaGreat
open Go Go.Abs
open Nat (reduceEqDiff reduceAdd reduceLeDiff)
attribute [local irreducible] am ac aB ax an ao ai ap ay aG Go.Abs.Fn aw Go.Abs.Pure ae ak Yl
end Go.Proofs.YtjgpfclngkcedaaGreat
namespace Go.Proofs.YtjgpfclngkcedaaGreat
open Go Go.Abs
attribute [local irreducible] am ac aB ax an ao ai ap ay aG Go.Abs.Fn aw Go.Abs.Pure ae ak Yl
end Go.Proofs.YtjgpfclngkcedaaGreat
namespace Go.Proofs.YtjgpfclngkcedaaGreat
open Go Go.Abs
open Nat (reduceEqDiff reduceAdd reduceLeDiff)
structure Fit30 (t:TaskV):Prop where
  sh:∀ c ∈ t.cases,ShC c
  len:t.cases.length ≤ 30
  q:∀ c ∈ t.cases,c.out.length ≤ 30∧c.calm.length ≤ 30
theorem Fit30.of {t:TaskV} (h:jS t=true):Fit30 t:=by
  have hsh:=rG h
  unfold jS at h
  rw [Bool.and_eq_true,decide_eq_true_iff,List.all_eq_true] at h
  refine ⟨hsh.2,h.1,fun c hc=>?_⟩
  have hf:=h.2 c hc
  unfold lS f8 at hf
  simp only [Bool.and_eq_true,decide_eq_true_iff,List.all_eq_true] at hf
  exact ⟨hf.1.2.1,hf.2.1⟩
theorem Fit30.four {t:TaskV} (h:Fit30 t):Fit4 t:=⟨⟨h.sh,by have:=h.len; omega,fun c hc=>by have:=h.q c hc; omega⟩,fun c hc=>by have:=h.q c hc; omega⟩
theorem Fit30.fit {t:TaskV} (h:Fit30 t):Fit t:=h.four.fit
attribute [local irreducible] am ac aB ax an ao ai ap ay aG Go.Abs.Fn aw Go.Abs.Pure ae ak Yl
end Go.Proofs.YtjgpfclngkcedaaGreat
namespace Go.Proofs.YtjgpfclngkcedaaGreat
open Go Go.Abs
attribute [local irreducible] am ac aB ax an ao ai ap ay aG Go.Abs.Fn aw Go.Abs.Pure ae ak Yl
end Go.Proofs.YtjgpfclngkcedaaGreat
namespace Go.Proofs.YtjgpfclngkcedaaGreat
open Go Go.Abs
theorem kT {H:Hp} {d:Nat} {x:Int}:b6 1 (av H d [.int .i64 x]) (.msl d 1 1 0 1)=some (1,[.int .i64 x]):=jZ (n:=1) (len:=1) (off:=0) (cs:=[.int .i64 x]) bj rfl (by simp)
attribute [local irreducible] am ac aB ax an ao ai ap ay aG Go.Abs.Fn aw Go.Abs.Pure ae ak Yl
end Go.Proofs.YtjgpfclngkcedaaGreat
namespace Go.Proofs.YtjgpfclngkcedaaGreat
open Go Go.Abs
open Nat (reduceEqDiff reduceAdd reduceLeDiff)
attribute [local irreducible] am ac aB ax an ao ai ap ay aG Go.Abs.Fn aw Go.Abs.Pure ae ak Yl
end Go.Proofs.YtjgpfclngkcedaaGreat
namespace Go.Proofs.YtjgpfclngkcedaaGreat
open Go Go.Abs
attribute [local irreducible] am ac aB ax an ao ai ap ay aG Go.Abs.Fn aw Go.Abs.Pure ae ak Yl
end Go.Proofs.YtjgpfclngkcedaaGreat
namespace Go.Proofs.YtjgpfclngkcedaaGreat
open Go Go.Abs
structure BoxesM (H:Hp) (bs:List Nat) (l:List (List Int)):Prop where
  len:bs.length=l.length
  at_:∀ i,i < l.length→H (bs.getD i 0)=some ((l.getD i default).map (AV.int .i64))
  nodup:bs.Nodup
theorem BoxesM.same {H H':Hp} {bs:List Nat} {l:List (List Int)} (h:BoxesM H bs l) (hs:∀ b ∈ bs,H' b=H b):BoxesM H' bs l :=
  ⟨h.len,fun i hi=>(hs _ (by have:=h.len; rw [List.getD_eq_getElem?_getD,List.getElem?_eq_getElem (by omega)]; exact List.getElem_mem _)).trans (h.at_ i hi),h.nodup⟩
theorem tg {bs:List Nat} (h:bs.Nodup) {i j:Nat} (hi:i < bs.length) (hj:j < bs.length) (e:bs.getD i 0=bs.getD j 0):i=j:=by
  rw [List.getD_eq_getElem?_getD,List.getD_eq_getElem?_getD,List.getElem?_eq_getElem hi,List.getElem?_eq_getElem hj] at e
  have hp:=List.pairwise_iff_getElem.1 (List.nodup_iff_pairwise_ne.1 h)
  rcases Nat.lt_trichotomy i j with c | c | c
  · exact absurd e (hp i j hi hj c)
  · exact c
  · exact absurd e.symm (hp j i hj hi c)
attribute [local irreducible] am ac aB ax an ao ai ap ay aG Go.Abs.Fn aw Go.Abs.Pure ae ak Yl
end Go.Proofs.YtjgpfclngkcedaaGreat
namespace Go.Proofs.YtjgpfclngkcedaaGreat
open Go Go.Abs
section
variable {α:Type} [Inhabited α] {g:α→α} {l:List α}
end
theorem BoxesM.set {H:Hp} {bs:List Nat} {l:List (List Int)} {i:Nat} {v:List Int} (h:BoxesM H bs l) (hi:i < l.length):BoxesM (av H (bs.getD i 0) (v.map (AV.int .i64))) bs (l.set i v):=by
  refine ⟨by rw [List.length_set]; exact h.len,fun j hj=>?_,h.nodup⟩
  rw [List.length_set] at hj
  by_cases e:j=i
  · subst e
    rw [bj]
    simp [List.getD,hj]
  · rw [aO (fun k=>e (tg h.nodup (by have:=h.len; omega) (by have:=h.len; omega) k)),h.at_ j hj]
    simp only [List.getD_eq_getElem?_getD]
    rw [List.getElem?_set_ne (by omega)]
attribute [local irreducible] am ac aB ax an ao ai ap ay aG Go.Abs.Fn aw Go.Abs.Pure ae ak Yl
end Go.Proofs.YtjgpfclngkcedaaGreat
namespace Go.Proofs.YtjgpfclngkcedaaGreat
open Go Go.Abs
open Nat (reduceEqDiff reduceAdd reduceLeDiff)
attribute [local irreducible] am ac aB ax an ao ai ap ay aG Go.Abs.Fn aw Go.Abs.Pure ae ak Yl
end Go.Proofs.YtjgpfclngkcedaaGreat
namespace Go.Proofs.YtjgpfclngkcedaaGreat
open Go Go.Abs
open Nat (reduceEqDiff reduceAdd reduceLeDiff)
attribute [local irreducible] am ac aB ax an ao ai ap ay aG Go.Abs.Fn aw Go.Abs.Pure ae ak Yl
end Go.Proofs.YtjgpfclngkcedaaGreat
namespace Go.Proofs.YtjgpfclngkcedaaGreat
open Go Go.Abs
open Nat (reduceEqDiff reduceAdd reduceLeDiff)
attribute [local irreducible] am ac aB ax an ao ai ap ay aG Go.Abs.Fn aw Go.Abs.Pure ae ak Yl
end Go.Proofs.YtjgpfclngkcedaaGreat
namespace Go.Proofs.YtjgpfclngkcedaaGreat
open Go Go.Abs
open Nat (reduceEqDiff reduceAdd reduceLeDiff)
attribute [local irreducible] am ac aB ax an ao ai ap ay aG Go.Abs.Fn aw Go.Abs.Pure ae ak Yl
end Go.Proofs.YtjgpfclngkcedaaGreat
namespace Go.Proofs.YtjgpfclngkcedaaGreat
open Go Go.Abs
open Nat (reduceEqDiff reduceAdd reduceLeDiff)
attribute [local irreducible] am ac aB ax an ao ai ap ay aG Go.Abs.Fn aw Go.Abs.Pure ae ak Yl
end Go.Proofs.YtjgpfclngkcedaaGreat
namespace Go.Proofs.YtjgpfclngkcedaaGreat
open Go Go.Abs
open Nat (reduceEqDiff reduceAdd reduceLeDiff)
section
attribute [local irreducible] am ac aB ax an ao ai ap ay aG Go.Abs.Fn aw Go.Abs.Pure ae ak Yl
theorem nL (H:Hp) (nx:Nat):Abs.Fn Tryz.prog 42 [.esl] H nx fun r H' nx'=>(r=.esl ∨ r=.msl nx 0 1 0 0)∧(H'=H∧nx'=nx ∨ H'=av H nx []∧nx'=nx + 1):=by
  refine Abs.Fn.of_c2 follows sY (Nat.le_of_ble_eq_true rfl) ?_
  simp only [b42,cO,cG,cN,cM,cD,cF,cB,al,aC]
  (have zz:=and_self; repeat' (first | refine zW ?_ | apply a_n | refine zO ?_ | refine vZ ?_ | fail)) <;> (try clear zz)
  refine n6 (k:=0) (by ((try simp only [bb,ZA,reduceEqDiff,↓reduceIte,reduceAdd,reduceLeDiff]); (try with_reducible rfl)); rfl) (fun h=>by omega) (fun h=>?_) (fun h=>?_)
  ((all_goals (try have zz:=and_self)); (repeat' (first | refine zW ?_ | apply a_n | apply a_r | refine zO ?_ | refine vZ ?_ | refine b0Z ?_ | refine a0Z ?_ | refine cTZ ?_ | refine cFZ ?_ | refine ah rfl ?_ | refine r1Z ?_ | fail)); (all_goals (try clear zz)))
  all_goals first | exact ⟨.inl rfl,.inl ⟨rfl,rfl⟩⟩ | exact ⟨.inr rfl,.inr ⟨rfl,rfl⟩⟩
theorem oA (H:Hp) (nx:Nat):Abs.Fn Tryz.prog 106 [.esl] H nx fun r H' nx'=>(r=.esl ∨ r=.msl nx 0 1 0 0)∧(H'=H∧nx'=nx ∨ H'=av H nx []∧nx'=nx + 1):=by
  refine Abs.Fn.of_c2 follows so (Nat.le_of_ble_eq_true rfl) ?_
  simp only [tF,cO,cG,cN,cM,cD,cF,cB,al,aC]
  (have zz:=and_self; repeat' (first | refine zW ?_ | apply a_n | refine zO ?_ | refine vZ ?_ | fail)) <;> (try clear zz)
  refine n6 (k:=0) (by ((try simp only [bb,ZA,reduceEqDiff,↓reduceIte,reduceAdd,reduceLeDiff]); (try with_reducible rfl)); rfl) (fun h=>by omega) (fun h=>?_) (fun h=>?_)
  ((all_goals (try have zz:=and_self)); (repeat' (first | refine zW ?_ | apply a_n | apply a_r | refine zO ?_ | refine vZ ?_ | refine b0Z ?_ | refine a0Z ?_ | refine cTZ ?_ | refine cFZ ?_ | refine ah rfl ?_ | refine r1Z ?_ | fail)); (all_goals (try clear zz)))
  all_goals first | exact ⟨.inl rfl,.inl ⟨rfl,rfl⟩⟩ | exact ⟨.inr rfl,.inr ⟨rfl,rfl⟩⟩
end
def ctC:FuncId→List AV→Nat→Option AV:=fun g args nx=>match Nat.beq g 42 || Nat.beq g 106,args with
  | true,[.esl]=>some (.msl nx 0 1 0 0)
  | _,_=>none
theorem sx {g:Nat} {args:List AV} {H:Hp} {nx:Nat} {R:AV→Hp→Nat→Prop} (h:Abs.Fn Tryz.prog g args H nx fun r' H' nx'=>(r'=.esl ∨ r'=.msl nx 0 1 0 0)∧(H'=H∧nx'=nx ∨ H'=av H nx []∧nx'=nx + 1)) (hR:R (.msl nx 0 1 0 0) (av H nx []) (nx + 1)):Abs.Fn Tryz.prog g args H nx R :=
  ⟨h.1,fun E w vs h1 h2 h3 h4=>(h.2 E w vs h1 h2 h3 h4).mono fun e w' ⟨v,E',r',H',nx',k1,k2,k3,k4,k5,k6,a,b⟩=>by
    have hr:Rel E' w' (.msl nx 0 1 0 0) v:=by
      rcases a with rfl | rfl
      · cases k6 with
        | eslnil=>exact .msl0 _ _ _ (.inl rfl)
        | esl a=>exact .msl0 _ _ _ (.inr ⟨a,rfl⟩)
      · exact k6
    rcases b with ⟨rfl,rfl⟩ | ⟨rfl,rfl⟩
    · exact ⟨v,E',_,_,_,k1,k2,k3,k4.virtual (k5 _ (Nat.le_refl _)),fun b hb=>k5 b (by omega),hr,hR⟩
    · exact ⟨v,E',_,_,_,k1,k2,k3,k4,k5,hr,hR⟩⟩
def ctE (q:FuncId→List AV→Option AV):CT:=⟨ctC,q⟩
theorem sW (g:FuncId) (args:List AV) (nx:Nat) (r:AV) (h:ctC g args nx=some r) (H:Hp) (R:AV→Hp→Nat→Prop) (hR:R r (av H nx []) (nx + 1)):Abs.Fn Tryz.prog g args H nx R:=by
  unfold ctC at h
  split at h
  · rename_i hg
    cases h
    rcases Bool.or_eq_true _ _ |>.mp hg with hg | hg
    · cases Nat.eq_of_beq_eq_true hg
      exact sx (nL H nx) hR
    · cases Nat.eq_of_beq_eq_true hg
      exact sx (oA H nx) hR
  · cases h
theorem fv {q:FuncId→List AV→Option AV} (hq:∀ (g:FuncId) (args:List AV) (r:AV),q g args=some r→Go.Abs.Pure Tryz.prog g args r):CTok Tryz.prog (ctE q):=⟨sW,hq⟩
def uN:List (Nat × F2):=[(12,b12),(13,b13),(15,b15),(16,b16),(18,b18),(20,b20),(21,b21),(23,b23),(25,b25),(27,b27),(33,b33),(39,b39),(40,b40),(41,b41),(42,b42),(43,b43),(44,b44),(47,b47),(48,b48),(49,b49),(50,b50),(51,b51),(56,b56),(57,b57),(58,b58),(59,b59),(60,b60),(61,b61),(62,b62),(63,b63),(64,b64),(68,b68),(69,b69),(71,b71),(72,b72),(73,b73),(74,b74),(75,b75),(77,b77),(78,b78),(79,b79),(83,b83),(86,b86),(87,b87),(88,b88),(96,b96),(100,tp),(101,sX),(102,sQ),(104,v5),(106,tF),(107,u9),(108,uY),(109,vL),(110,uL),(111,wg),(112,wc),(113,tC),(115,tq),(116,tH),(117,td),(118,uv),(119,ui),(120,vG),(121,ve),(126,uw),(127,sV),(130,t7),(131,vv),(132,uW),(133,uR),(134,uV),(135,v9),(136,t0),(137,vK),(138,vo),(139,vM),(140,uJ),(141,tj),(142,tK),(143,sR),(144,sI),(145,t8),(149,vI),(150,vV),(151,va),(152,u6),(153,vE),(154,vn),(155,uZ),(156,vh),(157,uD),(158,ux),(159,uA),(160,uo),(161,vw),(162,th),(163,vu),(165,vU),(166,vt),(167,vq),(168,tU),(169,uj)]
theorem iV:gn Tryz.prog (lookup uN) :=
  (aa wQ (aa vC (aa wa (aa wT (aa xk (aa wV (aa xh (aa wI (aa wE (aa wt (aa wP (aa wB (aa vD (aa wk (aa sY (aa wi (aa tY (aa xa (aa wU (aa wY (aa w6 (aa wz (aa wo (aa xj (aa wL (aa wC (aa wm (aa u2 (aa xf (aa xd (aa tO (aa v8 (aa w5 (aa vO (aa vW (aa wJ (aa xl (aa wX (aa w7 (aa wO (aa xo (aa w9 (aa wW (aa wA (aa wR (aa uQ (aa sG (aa sb (aa sk (aa uI (aa so (aa t6 (aa vB (aa uC (aa vR (aa tM (aa wb (aa ss (aa r8 (aa sq (aa sg (aa tL (aa um (aa uk (aa ud (aa v6 (aa si (aa vS (aa vb (aa vj (aa uu (aa u3 (aa wd (aa ue (aa uf (aa tW (aa uT (aa v7 (aa su (aa sC (aa sF (aa sD (aa uF (aa u7 (aa uh (aa uH (aa vJ (aa u1 (aa u0 (aa ur (aa ut (aa ub (aa uz (aa tQ (aa vX (aa ul (aa sE (aa uc (aa uK (aa ua (aa uM (aa tV (aa wh pE)))))))))))))))))))))))))))))))))))))))))))))))))))))))))))))))))))))))))))))))))))))))))))))))))))))))
def eI (n:Int):AV:=.int .i64 n
def eV (a b:Int):AV:=.sl 1 [eI a,eI b]
def eC (a b:Int) (o:List AV):AV:=.agg [eV a b,.sl 1 o,.esl]
def eT (o:Int) (l:List AV):AV:=.agg [eI 2,eI 2,eI o,.sl 3 l]
def e4:List AV:=[eV 0 0,eV 0 1,eV 1 0,eV 1 1]
def e2:List AV:=[eV 0 0,eV 1 1]
def eP:List AV:=[eV 0 0,eV 1 1,eV 2 2,eV 3 3]
def tA:AV:=eT 2 [eC 0 0 [eV 0 0],eC 0 1 e2,eC 1 0 e2,eC 1 1 [eV 1 1]]
def tB:AV:=eT 2 [eC 0 0 e4,eC 0 1 e4,eC 1 0 e4,eC 1 1 e4]
def tP:AV:=eT 4 [eC 0 0 [eV 0 0],eC 0 1 eP,eC 1 0 eP,eC 1 1 [eV 3 3]]
def pfE:FuncId→Bool:=sd [39,13,16,18,21,25,23,33,87,77]
theorem isV {v:AV} (r:AV) (h:eqA 60 r v=true):r=v:=nK _ _ _ h
set_option maxRecDepth 100000 in
theorem q1:Go.Abs.Pure Tryz.prog 39 [] (.tup [tA,tB]):=Pure.of_runC follows iV (fv dW) (pf:=pfE) (n:=2000) (by decide +kernel) isV
set_option maxRecDepth 100000 in
theorem q2:Go.Abs.Pure Tryz.prog 13 [tA,tB] (.tup [.esl,eI 0,.esl,.bool true,eI 0]):=Pure.of_runC follows iV (fv dW) (pf:=pfE) (n:=2000) (by decide +kernel) isV
set_option maxRecDepth 100000 in
theorem q3:Go.Abs.Pure Tryz.prog 13 [tB,tA] (.tup [eV 0 0,eI 0,eV 0 1,.bool false,eI 0]):=Pure.of_runC follows iV (fv dW) (pf:=pfE) (n:=2000) (by decide +kernel) isV
set_option maxRecDepth 100000 in
theorem q4:Go.Abs.Pure Tryz.prog 16 [tA,tB] (.tup [tA,eI 0]):=Pure.of_runC follows iV (fv dW) (pf:=pfE) (n:=2000) (by decide +kernel) isV
set_option maxRecDepth 100000 in
theorem q5:Go.Abs.Pure Tryz.prog 18 [tA,tB] (.tup [tB,eI 0]):=Pure.of_runC follows iV (fv dW) (pf:=pfE) (n:=2000) (by decide +kernel) isV
set_option maxRecDepth 100000 in
theorem q6:Go.Abs.Pure Tryz.prog 21 [tA,tA] (.tup [tP,eI 0]):=Pure.of_runC follows iV (fv dW) (pf:=pfE) (n:=2000) (by decide +kernel) isV
set_option maxRecDepth 100000 in
theorem q7:Go.Abs.Pure Tryz.prog 25 [tA] (.tup [.sl 1 [eV 0 1,eV 1 0],eI 0]):=Pure.of_runC follows iV (fv dW) (pf:=pfE) (n:=2000) (by decide +kernel) isV
set_option maxRecDepth 100000 in
theorem rH:Go.Abs.Pure Tryz.prog 12 [] (.bool true):=Pure.of_runC follows iV (fv (dL q1 (dL q2 (dL q3 (dL q4 (dL q5 (dL q6 (dL q7 dW)))))))) (pf:=pfE) (n:=2000) (good:=isTrue) (by decide +kernel) p7
end Go.Proofs.YtjgpfclngkcedaaGreat
namespace Go.Proofs.YtjgpfclngkcedaaGreat
open Go Go.Abs
open Nat (reduceEqDiff reduceAdd reduceLeDiff)
attribute [local irreducible] am ac aB ax an ao ai ap ay aG Go.Abs.Fn aw Go.Abs.Pure ae ak Yl
end Go.Proofs.YtjgpfclngkcedaaGreat
namespace Go.Proofs.YtjgpfclngkcedaaGreat
open Go Go.Abs
def gi (l:List TaskV):AV:=.sl 4 (l.map a5)
theorem nj {l:List TaskV}:cf (gi l)=some (.int .i64 l.length):=by simp [cf,gi]
theorem jR {l:List TaskV} {k:Nat} (h:k < l.length):ex 4 (gi l) (.int .i64 k)=some (.iptr [.int .i64 (l.getD k default).n,.int .i64 (l.getD k default).ins,.int .i64 (l.getD k default).outs,aJ (l.getD k default).cases] 0):=by
  simp [ex,gi,h,List.getD,a5,AV.cells]
theorem oD {H:Hp} {b:Nat} {a c e:TaskV} (hb:H b=some [.int .i64 a.n,.int .i64 a.ins,.int .i64 a.outs,aJ a.cases,.int .i64 c.n,.int .i64 c.ins,.int .i64 c.outs,aJ c.cases,.int .i64 e.n,.int .i64 e.ins,.int .i64 e.outs,aJ e.cases]):Snap H (.msl b 12 4 0 3) (gi [a,c,e]):=by
  have hr:Row H 4 (.msl b (3 * 4) 4 0 3) ([a5 a,a5 c,a5 e].flatMap AV.cells):=Row.box b 3 _ (by simpa [a5,AV.cells] using hb) rfl
  refine Row.snap (elems:=[a5 a,a5 c,a5 e]) hr (fun y hy=>?_) (by omega) (fun y hy d hd=>?_)
  · simp at hy; rcases hy with rfl | rfl | rfl <;> rfl
  · simp only [List.mem_cons,List.not_mem_nil,or_false] at hy
    rcases hy with rfl | rfl | rfl <;>
    · simp only [a5,AV.cells,List.mem_cons,List.not_mem_nil,or_false] at hd
      rcases hd with rfl | rfl | rfl | rfl
      · exact .int
      · exact .int
      · exact .int
      · exact cJ _
def Ok (t:TaskV):Prop:=Sh t.cases∧∀ c ∈ t.cases,ShC c
attribute [local irreducible] am ac aB ax an ao ai ap ay aG Go.Abs.Fn aw Go.Abs.Pure ae ak Yl
end Go.Proofs.YtjgpfclngkcedaaGreat
namespace Go.Proofs.YtjgpfclngkcedaaGreat
open Go Go.Abs
def gj (z t:TaskV):Bool:=jS t && decide (aA t=0) && decide (t.n=z.n)
def jF (l:List TaskV):Bool:=l.all (gj (l.getD 0 default))
attribute [local irreducible] am ac aB ax an ao ai ap ay aG Go.Abs.Fn aw Go.Abs.Pure ae ak Yl
theorem qb (l:List TaskV) (hl:l.length ≤ 100) (hs:∀ t ∈ l,Ok t):Pure Tryz.prog 28 [gi l] (.bool (jF l)):=by
  refine Pure.of_c2 follows ws (Nat.le_of_ble_eq_true rfl) ?_
  simp only [b28,cO,cG,cN,cM,cD,cF,cB,al,aC]
  have one:(gi l).one=true:=rfl
  (have zz:=@nj; repeat' (first | refine zW ?_ | apply a_n | refine zO ?_ | refine vY ?_ | fail)) <;> (try clear zz)
  refine fm (X:=Nat) (fun k=>[(0,gi l),(5,gi l),(6,.int .i64 l.length),(7,.int .i64 k)]) (fun k H nx=>k ≤ l.length∧∀ i,i < k→gj (l.getD 0 default) (l.getD i default)=true) (fun k=>l.length - k) 0 ⟨Nat.zero_le _,fun i h=>absurd h (by omega)⟩ ag0 ?_
  rintro k H nx ⟨hk,hz⟩
  by_cases hk2:k < l.length
  rotate_left
  · (have zz:=and_self; repeat' (first | refine zW ?_ | apply a_n | apply a_x | refine zO ?_ | refine vY ?_ | (refine zGY ?_ ?_ <;> (intro _hg; try (exfalso; omega))) | refine ah rfl ?_ | refine r1Y ?_ | fail)) <;> (try clear zz)
    rw [jF,j8 fun i hi=>hz i (by omega)]
    exact .bool _
  have ix:=jR hk2
  have i0:ex 4 (gi l) (.int .i64 0)=_:=jR (k:=0) (by omega)
  obtain ⟨s1,s2⟩:=hs _ (aF hk2)
  have hf:=wv (l.getD k default) s2 s1
  have hc:=sZ (l.getD k default) s2 s1
  have hbad:gj (l.getD 0 default) (l.getD k default)=false→jF l=false:=fun h=>fS hk2 h
  have hnext:gj (l.getD 0 default) (l.getD k default)=true→∀ i,i < k + 1→gj (l.getD 0 default) (l.getD i default)=true:=fun h i hi=>by
    rcases Nat.lt_succ_iff_lt_or_eq.1 hi with h' | rfl
    · exact hz i h'
    · exact h
  have d1:=bx (l.getD k default)
  generalize l.getD k default=t at *
  generalize l.getD 0 default=z at *
  unfold a5 at hf d1 hc
  cases hb:jS t
  · rw [hb] at hf
    rw [hbad (by simp [gj,hb])]
    (have zz:=aI @ix (aI @af @ab); repeat' (first | refine zW ?_ | refine zM ?_ | apply a_n | apply a_r | refine zO ?_ | refine vY ?_ | refine cY ?_ (hp:=hf) | refine alY ?_ | refine stY ?_ | refine gFY ?_ | refine cTY ?_ | (refine zGY ?_ ?_ <;> (intro _hg; try (exfalso; omega))) | refine ah rfl ?_ | refine r1Y ?_ | fail)) <;> (try clear zz)
    exact .bool _
  rw [hb] at hf
  by_cases h0:aA t=0
  rotate_left
  · have hne:decide (aA t ≠ 0)=true:=decide_eq_true h0
    rw [hbad (by simp [gj,h0])]
    (have zz:=aI @ix (aI @af (aI @ab @hne)); repeat' (first | refine zW ?_ | refine zM ?_ | apply a_n | apply a_r | refine zO ?_ | refine vY ?_ | refine cY ?_ (hp:=by first | exact hf | exact hc) | refine alY ?_ | refine stY ?_ | refine gTY ?_ | refine gFY ?_ | refine cTY ?_ | (refine zGY ?_ ?_ <;> (intro _hg; try (exfalso; omega))) | refine ah rfl ?_ | refine r1Y ?_ | fail)) <;> (try clear zz)
    exact .bool _
  rw [h0] at hc
  have z0:decide ((0:Int) ≠ 0)=false:=rfl
  by_cases h1:t.n=z.n
  rotate_left
  · have hne:decide (t.n ≠ z.n)=true:=decide_eq_true h1
    rw [hbad (by simp [gj,h1])]
    (have zz:=aI @ix (aI @i0 (aI @af (aI @ab (aI @hne @z0)))); repeat' (first | refine zW ?_ | refine zM ?_ | apply a_n | apply a_r | refine zO ?_ | refine vY ?_ | refine cY ?_ (hp:=by first | exact hf | exact hc) | refine alY ?_ | refine stY ?_ | refine gTY ?_ | refine cTY ?_ | (refine zGY ?_ ?_ <;> (intro _hg; try (exfalso; omega))) | refine ah rfl ?_ | refine r1Y ?_ | fail)) <;> (try clear zz)
    exact .bool _
  have hne:decide (t.n ≠ z.n)=false:=decide_eq_false (fun h=>h h1)
  (have zz:=aI @ix (aI @i0 (aI @af (aI @ab (aI @hne @z0)))); repeat' (first | refine zW ?_ | refine zM ?_ | apply a_n | refine zO ?_ | refine vY ?_ | refine cY ?_ (hp:=by first | exact hf | exact hc) | refine alY ?_ | refine stY ?_ | refine gTY ?_ | refine cFY ?_ | (refine zGY ?_ ?_ <;> (intro _hg; try (exfalso; omega))) | fail)) <;> (try clear zz)
  exact ⟨k + 1,by omega,⟨by omega,hnext (by simp [gj,hb,h0,h1])⟩,ag0⟩
end Go.Proofs.YtjgpfclngkcedaaGreat
namespace Go.Proofs.YtjgpfclngkcedaaGreat
open Go Go.Abs
def Stg (a b:TaskV):Prop:=∀ c ∈ b.cases,∃ x,de a c.inp=some x∧∀ f:Nat,f < 2 ^ a.n.toNat→∀ v ∈ aE x f,f0 c f v=true
theorem nI {a b:TaskV} (h:dw a b=none):Stg a b:=by
  intro c hc
  have hw:=List.findSome?_eq_none_iff.1 h c hc
  unfold gp at hw
  cases hf:de a c.inp with
  | none=>rw [hf] at hw; cases hw
  | some x =>
    rw [hf] at hw
    refine ⟨x,rfl,fun f hf2 v hv=>?_⟩
    have h2:=List.findSome?_eq_none_iff.1 hw f (List.mem_range.2 hf2)
    rw [Option.map_eq_none_iff,List.find?_eq_none] at h2
    have:=h2 v hv
    cases hm:f0 c f v
    · rw [hm] at this; exact absurd rfl this
    · rfl
theorem qC {a b:TaskV} (h:Stg a b):dw a b=none:=by
  refine List.findSome?_eq_none_iff.2 fun c hc=>?_
  obtain ⟨x,hx,hv⟩:=h c hc
  unfold gp
  rw [hx]
  refine List.findSome?_eq_none_iff.2 fun f hf=>?_
  rw [Option.map_eq_none_iff,List.find?_eq_none]
  intro v hm
  rw [hv f (List.mem_range.1 hf) v hm]
  exact Bool.false_ne_true
theorem cT {v w:List Int} {f:Int}:a6 v w f=true ↔ ∀ p,p < v.length→eE (eS f p)=0→w.getD p default=v.getD p default:=by
  unfold a6
  rw [List.all_eq_true]
  refine ⟨fun h p hp h0=>?_,fun h p hp=>?_⟩
  · have:=h p (List.mem_range.2 hp)
    by_cases e:w.getD p default=v.getD p default
    · exact e
    · rw [decide_eq_true h0,decide_eq_true e] at this; cases this
  · have:=h p (List.mem_range.1 hp)
    by_cases h0:eE (eS f p)=0
    · rw [decide_eq_true h0,decide_eq_false (fun k=>k (this h0))]; rfl
    · rw [decide_eq_false h0]; rfl
theorem fj {c:CaseV} {f:Int} {v:List Int}:f0 c f v=true ↔ ∃ w ∈ aE c f,a6 w v f=true:=by
  unfold f0; rw [List.any_eq_true]
theorem kY {t:TaskV} {c:CaseV} {f:Int} (h:aA t=0) (hc:c ∈ t.cases) {v:List Int} (hv:v ∈ aE c f):(v.length:Int)=t.n:=(eG h hc v hv).1
theorem qs {a:TaskV} (h:aA a=0):Stg a a:=fun c hc=>⟨c,np h hc,fun f _ v hv=>fj.2 ⟨v,hv,cT.2 fun _ _ _=>rfl⟩⟩
theorem pI {a b c:TaskV} (hb:aA b=0) (hc:aA c=0) (hab:a.n=b.n) (hbc:b.n=c.n) (h1:Stg a b) (h2:Stg b c):Stg a c:=by
  intro d hd
  obtain ⟨y,hy,hv⟩:=h2 d hd
  obtain ⟨ym,yi⟩:=eL hy
  obtain ⟨x,hx,hw⟩:=h1 y ym
  rw [yi] at hx
  refine ⟨x,hx,fun f hf v hvm=>?_⟩
  obtain ⟨w,hwm,ha⟩:=fj.1 (hw f hf v hvm)
  obtain ⟨u,hum,hu⟩:=fj.1 (hv f (by rw [← hab]; exact hf) w hwm)
  refine fj.2 ⟨u,hum,cT.2 fun p hp h0=>?_⟩
  have l1:=kY hb ym hwm
  have l2:=kY hc hd hum
  rw [cT.1 ha p (by omega) h0,cT.1 hu p hp h0]
theorem dY {a b:TaskV} (h:cz a b=0):∃ i f o,lK (dU a b)=.tup [aD i,.int .i64 f,aD o,.bool (dw a b).isNone,.int .i64 0]:=by
  cases hw:dw a b with
  | none=>rw [gO h hw]; exact ⟨_,_,_,rfl⟩
  | some w=>rw [gV h hw]; exact ⟨_,_,_,rfl⟩
def d4 (f:Int) (v:List Int):List Int:=(List.range v.length).map fun p=>if eE (eS f p)=1 then -1 else v.getD p default
theorem eh {f:Int} {v:List Int}:(d4 f v).length=v.length:=by simp [d4]
theorem kH {f:Int} {v:List Int} {p:Nat} (hp:p < v.length):(d4 f v).getD p default=if eE (eS f p)=1 then -1 else v.getD p default:=by
  simp [d4,List.getD,hp]
theorem rM {f p:Nat}:eE (eS f p)=0 ∨ eE (eS f p)=1:=by
  have:eS f p=((f / 2 ^ (min p 64):Nat):Int):=by unfold eS; rw [Int.fdiv_eq_ediv_of_nonneg _ (Int.le_of_lt (Int.pow_pos (by decide)))]; simp [Int.natCast_ediv,Int.natCast_pow]
  rw [this,qy]; omega
theorem rU {b:TaskV} {i f:Nat} {v:List Int} (hb:aA b=0) (hi:i < b.cases.length) (hf:f < 2 ^ b.n.toNat) (hv:(v.length:Int)=b.n) (hm:f0 (b.cases.getD i default) f v=true):i5 b i f (d4 f v)=(true,0):=by
  have hp:bF b i f=0:=by
    unfold bF
    rw [if_neg (fun k=>k hb),if_neg (by omega),if_neg]
    generalize 2 ^ b.n.toNat=N at *
    omega
  obtain ⟨w,hw,ha⟩:=fj.1 hm
  have ha:=cT.1 ha
  obtain ⟨hwl,hwv⟩:=(gu hb hi).2 w hw
  have hlen:w.length=v.length:=by omega
  unfold i5
  rw [if_neg (fun k=>k hp),if_neg (fun k=>k (by rw [eh]; exact hv)),if_neg]
  · have:(aE (mI b i) f).any (fun v_1=>a6 v_1 (d4 f v) f)=true:=List.any_eq_true.2 ⟨w,by simpa [mI] using hw,cT.2 fun p hp0 h0=>by
      rw [kH (by omega),if_neg (by omega),ha p hp0 h0]⟩
    rw [this]
  · intro hbad
    obtain ⟨x,hx,hx2⟩:=List.any_eq_true.1 hbad
    have hx2:=of_decide_eq_true hx2
    obtain ⟨p,hp0,rfl⟩:=List.getElem_of_mem hx
    have e:(d4 f v)[p]=(d4 f v).getD p default:=by simp [List.getD,hp0]
    rw [eh] at hp0
    rw [e,kH hp0] at hx2
    have hout:1 ≤ b.outs:=by
      have:=hwv
      unfold aA at hb
      by_cases c:b.n < 1 ∨ 5 < b.n ∨ b.ins < 1 ∨ 8 < b.ins ∨ b.outs < 1 ∨ 8 < b.outs
      · rw [if_pos c] at hb; exact absurd hb (by decide)
      · omega
    rcases rM (f:=f) (p:=p) with h0 | h1
    · rw [if_neg (by omega),ha p (by omega) h0] at hx2
      have:=hwv (w.getD p default) (by rw [List.getD,List.getElem?_eq_getElem (by omega)]; exact List.getElem_mem _)
      omega
    · rw [if_pos h1] at hx2; omega
end Go.Proofs.YtjgpfclngkcedaaGreat
namespace Go.Proofs.YtjgpfclngkcedaaGreat
open Go Go.Abs
theorem mX {a:TaskV} {v:List Int} {x:CaseV} (h:aA a=0) (hf:de a v=some x):gd a v=(((gw a v:Nat):Int),0)∧gw a v < a.cases.length∧a.cases.getD (gw a v) default=x:=by
  unfold de at hf
  split at hf
  · rename_i hm
    unfold gd
    rw [if_neg (fun k=>k h),if_pos hm]
    exact ⟨rfl,lQ hm,Option.some.inj hf⟩
  · cases hf
theorem pe {a:TaskV} {i f:Nat} (h:aA a=0) (hi:i < a.cases.length) (hf:f < 2 ^ a.n.toNat):bF a i f=0:=by
  unfold bF
  rw [if_neg (fun k=>k h),if_neg (by omega),if_neg]
  generalize 2 ^ a.n.toNat=N at *
  omega
theorem od {f:Int} {v:List Int} {p:Nat} (hp:p < v.length):(d4 f v).take (p + 1)=(d4 f v).take p ++ [if eE (eS f p)=1 then -1 else v.getD p default]:=by
  rw [List.take_add_one,List.getElem?_eq_getElem (by rw [eh]; exact hp),← kH hp]
  simp [List.getD,eh,hp]
theorem wS:Int.ofNat 0=0:=rfl
theorem xp:Int.ofNat 1=1:=rfl
theorem tT:Int.negSucc 0=-1:=rfl
attribute [local irreducible] am ac aB ax an ao ai ap ay aG Go.Abs.Fn aw Go.Abs.Pure ae ak Yl
set_option maxHeartbeats 4000000 in
theorem n4 (a b c:TaskV) (ha:Ok a) (hb:Ok b) (hc:Ok c):Pure Tryz.prog 10 [a5 a,a5 b,a5 c] (.bool true):=by
  refine Pure.of_c2 follows wM (Nat.le_of_ble_eq_true rfl) ?_
  simp only [b10,cO,cG,cN,cM,cD,cF,cB,al,aC]
  simp only [wS,xp,tT]
  have haw:=rH
  have hr:=qb [a,b,c] (by simp) (by simp; exact ⟨ha,hb,hc⟩)
  have d1:=bx a
  have d2:=bx b
  have d3:=bx c
  cases hR:jF [a,b,c]
  · rw [hR] at hr
    unfold a5 at d1 d2 d3
    rw [show a5 a=.agg [.int .i64 a.n,.int .i64 a.ins,.int .i64 a.outs,aJ a.cases] from rfl,show a5 b=.agg [.int .i64 b.n,.int .i64 b.ins,.int .i64 b.outs,aJ b.cases] from rfl,show a5 c=.agg [.int .i64 c.n,.int .i64 c.ins,.int .i64 c.outs,aJ c.cases] from rfl]
    (have zz:=aI @af @ab; repeat' (first | refine zW ?_ | apply a_n | refine zO ?_ | refine vZ ?_ | refine bxZ ?_ | refine blZ ?_ | fail)) <;> (try clear zz)
    refine cP ev0 ev0 hr (aK (aj (oD bj) au) rfl) ?_
    (have zz:=aI @af @ab; repeat' (first | refine zW ?_ | apply a_n | apply a_r | refine zO ?_ | refine vZ ?_ | refine cZ ?_ (hp:=haw) | refine cTZ ?_ | refine ah rfl ?_ | refine r1Z ?_ | fail)) <;> (try clear zz)
    exact .bool _
  rw [hR] at hr
  have hR':(jS a=true∧aA a=0)∧((jS b=true∧aA b=0)∧b.n=a.n)∧(jS c=true∧aA c=0)∧c.n=a.n:=by simpa [jF,gj] using hR
  obtain ⟨⟨fwa,ca⟩,⟨⟨fwb,cb⟩,nb⟩,⟨fwc,cc⟩,nc⟩:=hR'
  have fa:=(Fit30.of fwa).four
  have paa:cz a a=0:=by simp [cz,ca]
  have pab:cz a b=0:=by simp [cz,ca,cb,nb]
  have pbc:cz b c=0:=by simp [cz,cb,cc,nb,nc]
  have pac:cz a c=0:=by simp [cz,ca,cc,nc]
  have c1:=eK a a ha.2 ha.1 ha.2 ha.1
  have c2:=eK a b ha.2 ha.1 hb.2 hb.1
  have c3:=eK b c hb.2 hb.1 hc.2 hc.1
  have c4:=eK a c ha.2 ha.1 hc.2 hc.1
  obtain ⟨i1,f1,o1,e1⟩:=dY paa
  obtain ⟨i2,f2,o2,e2⟩:=dY pab
  obtain ⟨i3,f3,o3,e3⟩:=dY pbc
  obtain ⟨i4,f4,o4,e4⟩:=dY pac
  rw [e1,qC (qs ca),Option.isNone_none] at c1
  rw [e2] at c2
  rw [e3] at c3
  rw [e4] at c4
  have htr:(dw a b).isNone=true→(dw b c).isNone=true→(dw a c).isNone=true:=fun h1 h2=>by
    rw [Option.isNone_iff_eq_none] at h1 h2 ⊢
    exact qC (pI cb cc (by omega) (by omega) (nI h1) (nI h2))
  have hst:(dw a b).isNone=true→Stg a b:=fun h=>nI (Option.isNone_iff_eq_none.1 h)
  clear e1 e2 e3 e4
  generalize (dw a b).isNone=B1 at *
  generalize (dw b c).isNone=B2 at *
  generalize (dw a c).isNone=B3 at *
  have z0:decide ((0:Int) ≠ 0)=false:=rfl
  unfold a5 at d1 d2 d3 c1 c2 c3 c4
  rw [show a5 a=.agg [.int .i64 a.n,.int .i64 a.ins,.int .i64 a.outs,aJ a.cases] from rfl,show a5 b=.agg [.int .i64 b.n,.int .i64 b.ins,.int .i64 b.outs,aJ b.cases] from rfl,show a5 c=.agg [.int .i64 c.n,.int .i64 c.ins,.int .i64 c.outs,aJ c.cases] from rfl]
  (have zz:=aI @af @ab; repeat' (first | refine zW ?_ | apply a_n | refine zO ?_ | refine vZ ?_ | refine bxZ ?_ | refine blZ ?_ | fail)) <;> (try clear zz)
  refine cP ev0 ev0 hr (aK (aj (oD bj) au) rfl) ?_
  cases B1
  · (have zz:=aI @af (aI @ab @z0); repeat' (first | refine zW ?_ | apply a_n | apply a_r | refine zO ?_ | refine vZ ?_ | refine cZ ?_ (hp:=by first | exact haw | exact c1 | exact c2 | exact c3 | exact c4) | refine gTZ ?_ | refine gFZ ?_ | (refine zGZ ?_ ?_ <;> (intro _hg; try (exfalso; omega))) | refine cTZ ?_ | refine cFZ ?_ | refine ah rfl ?_ | refine r1Z ?_ | fail)) <;> (try clear zz)
    all_goals exact .bool _
  have hst:=hst rfl
  have htr:=htr rfl
  (have zz:=aI @af (aI @ab @z0); repeat' (first | refine zW ?_ | apply a_n | refine zO ?_ | refine vZ ?_ | refine cZ ?_ (hp:=by first | exact c1 | exact c2 | exact c3) | refine cFZ ?_ | fail)) <;> (try clear zz)
  (have zz:=aI @af (aI @ab @z0); repeat' (first | apply a_n | refine zO ?_ | refine vZ ?_ | refine cZ ?_ (hp:=c4) | fail)) <;> (try clear zz)
  refine jP (fun T' H' nx'=>T' 3=.ptr 0 4 0∧T' 4=.ptr 1 4 0∧T' 15=.bool true∧H' 0=some [.int .i64 a.n,.int .i64 a.ins,.int .i64 a.outs,aJ a.cases]∧H' 1=some [.int .i64 b.n,.int .i64 b.ins,.int .i64 b.outs,aJ b.cases]∧3 ≤ nx') ?_ ?_
  · cases B2
    · (have zz:=@z0; repeat' (first | refine zW ?_ | apply a_n | refine zO ?_ | refine vZ ?_ | refine gTZ ?_ | refine gFZ ?_ | (refine zGZ ?_ ?_ <;> (intro _hg; try (exfalso; omega))) | refine cFZ ?_ | fail)) <;> (try clear zz)
      exact ⟨rfl,rfl,rfl,rfl,rfl,by omega⟩
    · obtain rfl:=htr rfl
      (have zz:=@z0; repeat' (first | refine zW ?_ | apply a_n | refine zO ?_ | refine vZ ?_ | refine gTZ ?_ | (refine zGZ ?_ ?_ <;> (intro _hg; try (exfalso; omega))) | refine cFZ ?_ | fail)) <;> (try clear zz)
      exact ⟨rfl,rfl,rfl,rfl,rfl,by omega⟩
  clear hr htr c1 c2 c3 c4
  rintro T H nx ⟨t3,t4,t15,g0,g1,hnx⟩
  have hN5:=gX ca
  have hsh:=vQ false false a.n (by omega) hN5.2
  have hp32:=vT hN5.2
  have hb2':b.cases.length ≤ 17592186044416:=hb.1
  (have zz:=aI @t3 (aI @t4 (aI @t15 (aI @g0 (aI @g1 (aI @af (aI @ab @ag)))))); repeat' (first | refine zW ?_ | apply a_n | refine zO ?_ | refine vY ?_ | refine cFY ?_ | fail)) <;> (try clear zz)
  refine fm (X:=Nat) (fun k=>[(3,.ptr 0 4 0),(4,.ptr 1 4 0),(110,aJ b.cases),(111,.int .i64 b.cases.length),(112,.int .i64 k)]) (fun k H nx=>k ≤ b.cases.length∧3 ≤ nx∧H 0=some [.int .i64 a.n,.int .i64 a.ins,.int .i64 a.outs,aJ a.cases]∧H 1=some [.int .i64 b.n,.int .i64 b.ins,.int .i64 b.outs,aJ b.cases]) (fun k=>b.cases.length - k) 0 ⟨Nat.zero_le _,hnx,g0,g1⟩ (have zz:=aI @t3 @t4; agZ) ?_
  clear g0 g1 hnx t3 t4 t15
  rintro k H nx ⟨hk,hnx,g0,g1⟩
  by_cases hk2:k < b.cases.length
  rotate_left
  · (have zz:=and_self; repeat' (first | refine zW ?_ | apply a_n | apply a_x | refine zO ?_ | refine vY ?_ | refine cY ?_ (hp:=haw) | (refine zGY ?_ ?_ <;> (intro _hg; try (exfalso; omega))) | refine ah rfl ?_ | refine r1Y ?_ | fail)) <;> (try clear zz)
    exact .bool _
  have ix:=aN hk2
  have hm:=aF hk2
  have hshc:=hb.2 _ hm
  obtain ⟨x,hx,hmay⟩:=hst _ hm
  have hfind:=te a (b.cases.getD k default).inp ha.2 ha.1 hshc.1
  obtain ⟨p1,p2,p3⟩:=mX ca hx
  obtain ⟨xm,_⟩:=eL hx
  rw [p1] at hfind
  dsimp only at hfind
  generalize gw a (b.cases.getD k default).inp=K at *
  unfold a5 at hfind
  (have zz:=aI @ix (aI @g0 (aI @g1 (aI @af (aI @ab (aI @hsh @z0))))); repeat' (first | refine zW ?_ | apply a_n | refine zO ?_ | refine vY ?_ | refine cY ?_ (hp:=hfind) | refine alY ?_ | refine stY ?_ | refine cFY ?_ | (refine zGY ?_ ?_ <;> (intro _hg; try (exfalso; omega))) | fail)) <;> (try clear zz)
  refine fm (X:=Nat) (fun f=>[(3,.ptr 0 4 0),(4,.ptr 1 4 0),(110,aJ b.cases),(111,.int .i64 b.cases.length),(112,.int .i64 k),(27,.int .i64 k),(29,.int .i64 K),(128,.int .i64 (2 ^ a.n.toNat:Nat)),(129,.int .i64 (f:Nat))]) (fun f H nx=>f ≤ 2 ^ a.n.toNat∧3 ≤ nx∧H 0=some [.int .i64 a.n,.int .i64 a.ins,.int .i64 a.outs,aJ a.cases]∧H 1=some [.int .i64 b.n,.int .i64 b.ins,.int .i64 b.outs,aJ b.cases]) (fun f=>2 ^ a.n.toNat - f) 0 ⟨Nat.zero_le _,by omega,by rw [aO (by omega),aO (by omega)]; exact g0,by rw [aO (by omega),aO (by omega)]; exact g1⟩ ag0 ?_
  clear g0 g1 hnx
  rintro f H nx ⟨hf,hnx,g0,g1⟩
  have hd:decide ((f:Int) < ((2 ^ a.n.toNat:Nat):Int))=decide (f < 2 ^ a.n.toNat):=decide_eq_decide.2 (by omega)
  by_cases hf2:f < 2 ^ a.n.toNat
  rotate_left
  · rw [decide_eq_false hf2] at hd
    (have zz:=@hd; repeat' (first | refine zW ?_ | apply a_n | apply a_x | refine zO ?_ | refine vY ?_ | refine cFY ?_ | fail)) <;> (try clear zz)
    exact ⟨k + 1,by omega,⟨by omega,hnx,g0,g1⟩,ag0⟩
  rw [decide_eq_true hf2] at hd
  have hal:=nM a K f ha.2 ha.1 fa.fit.q
  have hal2:gA a K f=aE x f:=by unfold gA mI; rw [if_pos (pe ca p2 hf2),Int.toNat_natCast,p3]
  rw [hal2,pe ca p2 hf2] at hal
  have hLx:=eG (f:=f) ca xm
  have hLs:(aE x f).length ≤ 17592186044416:=kq (ha.2 _ xm)
  have hmay2:=hmay f hf2
  generalize aE x f=L at *
  unfold a5 at hal
  (have zz:=aI @hd (aI @g0 (aI @g1 (aI @af (aI @ab @z0)))); repeat' (first | refine zW ?_ | apply a_n | refine zO ?_ | refine vY ?_ | refine cY ?_ (hp:=hal) | refine cTY ?_ | refine cFY ?_ | fail)) <;> (try clear zz)
  refine fm (X:=Nat) (fun j=>[(3,.ptr 0 4 0),(4,.ptr 1 4 0),(110,aJ b.cases),(111,.int .i64 b.cases.length),(112,.int .i64 k),(27,.int .i64 k),(29,.int .i64 K),(128,.int .i64 (2 ^ a.n.toNat:Nat)),(129,.int .i64 (f:Nat)),(31,.int .i64 (f:Nat)),(141,az L),(142,.int .i64 L.length),(143,.int .i64 j)]) (fun j H nx=>j ≤ L.length∧3 ≤ nx∧H 0=some [.int .i64 a.n,.int .i64 a.ins,.int .i64 a.outs,aJ a.cases]∧H 1=some [.int .i64 b.n,.int .i64 b.ins,.int .i64 b.outs,aJ b.cases]) (fun j=>L.length - j) 0 ⟨Nat.zero_le _,hnx,g0,g1⟩ ag0 ?_
  clear g0 g1 hnx
  rintro j H nx ⟨hj,hnx,g0,g1⟩
  by_cases hj2:j < L.length
  rotate_left
  · (have zz:=and_self; repeat' (first | refine zW ?_ | apply a_n | apply a_x | refine zO ?_ | refine vY ?_ | (refine zGY ?_ ?_ <;> (intro _hg; try (exfalso; omega))) | fail)) <;> (try clear zz)
    exact ⟨f + 1,by omega,⟨by omega,hnx,g0,g1⟩,ag0⟩
  have hvm:=aF hj2
  obtain ⟨hv1,hv5⟩:=hLx _ hvm
  have hok:=rU cb hk2 (by rw [nb]; exact hf2) (by rw [nb]; exact hv1) (hmay2 _ hvm)
  have hvl:ex 1 (az L) (.int .i64 j)=some (.iptr [aD (L.getD j default)] 0):=by rw [kA,if_pos ⟨by omega,by omega⟩,Int.toNat_natCast]
  generalize L.getD j default=v at *
  have hml:(d4 (f:Int) v).length=v.length:=eh
  have hpm:=nD b k f (d4 f v) hb.2 hb.1 (by show _ ≤ _; omega)
  rw [hok] at hpm
  dsimp only at hpm
  unfold a5 at hpm
  (have zz:=aI @hvl (aI @af @ab); repeat' (first | refine zW ?_ | apply a_n | refine zO ?_ | refine vY ?_ | (refine zGY ?_ ?_ <;> (intro _hg; try (exfalso; omega))) | fail)) <;> (try clear zz)
  refine fm (X:=AV × Nat) (fun r=>[(3,.ptr 0 4 0),(4,.ptr 1 4 0),(110,aJ b.cases),(111,.int .i64 b.cases.length),(112,.int .i64 k),(27,.int .i64 k),(29,.int .i64 K),(128,.int .i64 (2 ^ a.n.toNat:Nat)),(129,.int .i64 (f:Nat)),(31,.int .i64 (f:Nat)),(141,az L),(142,.int .i64 L.length),(143,.int .i64 j),(36,r.1),(147,aD v),(148,.int .i64 v.length),(149,.int .i64 r.2)]) (fun r H nx=>r.2 ≤ v.length∧Row H 1 r.1 (((d4 f v).take r.2).map (AV.int .i64))∧(∀ z,pJ r.1=some z→3 ≤ z∧z < nx)∧3 ≤ nx∧H 0=some [.int .i64 a.n,.int .i64 a.ins,.int .i64 a.outs,aJ a.cases]∧H 1=some [.int .i64 b.n,.int .i64 b.ins,.int .i64 b.outs,aJ b.cases]) (fun r=>v.length - r.2) (.esl,0) ⟨Nat.zero_le _,Row.nil,fun z hz=>(by cases hz),hnx,g0,g1⟩ ag0 ?_
  clear g0 g1 hnx
  rintro ⟨sv,p⟩ H nx ⟨hp,hrow,hbd,hnx,g0,g1⟩
  dsimp only at hp hrow hbd ⊢
  by_cases hp2:p < v.length
  rotate_left
  · rw [List.take_of_length_le (by omega)] at hrow
    (have zz:=@g1; repeat' (first | refine zW ?_ | apply a_n | apply a_x | refine zO ?_ | refine vY ?_ | (refine zGY ?_ ?_ <;> (intro _hg; try (exfalso; omega))) | fail)) <;> (try clear zz)
    refine cP ev0 ev0 hpm (aK (aj (d2 _) (aj (.int _ _) (aj (.int _ _) (aj hrow.snapI au)))) rfl) ?_
    (have zz:=@z0; repeat' (first | refine zW ?_ | apply a_n | refine zO ?_ | refine vY ?_ | refine gTY ?_ | refine cFY ?_ | fail)) <;> (try clear zz)
    exact ⟨j + 1,by omega,⟨by omega,hnx,g0,g1⟩,ag0⟩
  have hmt:=od (f:=f) hp2
  have hlt:((d4 (f:Int) v).take p).length=p:=by rw [List.length_take]; omega
  by_cases hbit:eE (eS f p)=1
  · rw [if_pos hbit] at hmt
    have zb:decide (eE (eS f p)=1)=true:=decide_eq_true hbit
    (have zz:=aI @zb (aI @iR @fP); repeat' (first | refine zW ?_ | apply a_n | refine zO ?_ | refine vY ?_ | refine blY ?_ | refine cTY ?_ | (refine zGY ?_ ?_ <;> (intro _hg; try (exfalso; omega))) | fail)) <;> (try clear zz)
    refine qS rfl ev0 (hrow.same fun z hz=>?_) ev0 kT rfl rfl Nat.one_pos (by rw [List.length_map,hlt]; omega) (by rw [List.length_map,hlt]; omega) ?_
    · have:=hbd z hz
      rw [aO (by omega)]
    rintro s2 E e hrw hle1 hle2 hsm hb2
    (have zz:=and_self; repeat' (first | apply a_n | refine zO ?_ | refine vY ?_ | fail)) <;> (try clear zz)
    have h0:=(hsm 0 (by omega) (fun h=>by have:=hbd _ h; omega)).trans ((aO (by omega)).trans g0)
    have h1:=(hsm 1 (by omega) (fun h=>by have:=hbd _ h; omega)).trans ((aO (by omega)).trans g1)
    refine ⟨(s2,p + 1),by dsimp only; omega,⟨by dsimp only; omega,?_,fun z hz=>?_,by omega,h0,h1⟩,ag0⟩
    · dsimp only
      rw [hmt,List.map_append]
      exact hrw
    · rcases hb2 z hz with h | h
      · have:=hbd z h; omega
      · omega
  · rw [if_neg hbit] at hmt
    have zb:decide (eE (eS f p)=1)=false:=decide_eq_false hbit
    (have zz:=aI @zb (aI @iR @fP); repeat' (first | refine zW ?_ | apply a_n | refine zO ?_ | refine vY ?_ | refine blY ?_ | refine cFY ?_ | (refine zGY ?_ ?_ <;> (intro _hg; try (exfalso; omega))) | fail)) <;> (try clear zz)
    refine qS rfl ev0 (hrow.same fun z hz=>?_) ev0 kT rfl rfl Nat.one_pos (by rw [List.length_map,hlt]; omega) (by rw [List.length_map,hlt]; omega) ?_
    · have:=hbd z hz
      rw [aO (by omega)]
    rintro s2 E e hrw hle1 hle2 hsm hb2
    (have zz:=and_self; repeat' (first | apply a_n | refine zO ?_ | refine vY ?_ | fail)) <;> (try clear zz)
    have h0:=(hsm 0 (by omega) (fun h=>by have:=hbd _ h; omega)).trans ((aO (by omega)).trans g0)
    have h1:=(hsm 1 (by omega) (fun h=>by have:=hbd _ h; omega)).trans ((aO (by omega)).trans g1)
    refine ⟨(s2,p + 1),by dsimp only; omega,⟨by dsimp only; omega,?_,fun z hz=>?_,by omega,h0,h1⟩,ag0⟩
    · dsimp only
      rw [hmt,List.map_append]
      exact hrw
    · rcases hb2 z hz with h | h
      · have:=hbd z h; omega
      · omega
end Go.Proofs.YtjgpfclngkcedaaGreat
namespace Go.Proofs.YtjgpfclngkcedaaGreat
open Go Go.Abs Go.RowKit
section
variable {H:Type} {enc:TypeId × Value→H} {W:World}
theorem oi:ce enc Tryz.prog W 3 (AV.int .i64) (fun n=>(Lit.int .i64 n).wf=true):=pH Tryz.underlying3
theorem oL1:ce enc Tryz.prog W 27 aD Sh :=
  (fJ Tryz.underlying27 (sz:=1) (by_:=8) (by kernel_rfl) (by kernel_rfl) Nat.one_pos (fun _=>rfl) oi).mono fun l h=>by have:=h.2.2; show _ ≤ _; omega
theorem oL2:ce enc Tryz.prog W 41 az (fun l=>Sh l∧∀ x ∈ l,Sh x) :=
  (fJ Tryz.underlying41 (sz:=1) (by_:=24) (by kernel_rfl) (by kernel_rfl) Nat.one_pos (fun _=>rfl) oL1).mono fun l h=>⟨by have:=h.2.2; show _ ≤ _; omega,h.1⟩
set_option maxRecDepth 100000 in
theorem uy:ce enc Tryz.prog W 57 jj ShC :=
  (gN Tryz.underlying57 (by kernel_rfl) (bZ (off:=0) (off':=1) rfl (by kernel_rfl) oL1 (bZ (off:=1) (off':=2) rfl (by kernel_rfl) oL2 (bZ (off:=2) (off':=3) rfl (by kernel_rfl) oL2 jJ)))).map
    (fun a=>(⟨a.1,a.2.1,a.2.2.1⟩:CaseV)) (by
      rintro ⟨i,o,c,u⟩ ⟨h1,h2,h3,_⟩
      exact ⟨h1,h2.1,h2.2,h3.1,h3.2⟩) (fun _ _=>rfl)
theorem tG:ce enc Tryz.prog W 22 aJ (fun l=>Sh l∧∀ c ∈ l,ShC c) :=
  (fJ Tryz.underlying22 (sz:=3) (by_:=72) (by kernel_rfl) (by kernel_rfl) (by omega) (fun _=>rfl) uy).mono fun l h=>⟨by have:=h.2.2; show _ ≤ _; omega,h.1⟩
set_option maxRecDepth 100000 in
theorem qp:ce enc Tryz.prog W 24 a5 (fun t=>Sh t.cases∧∀ c ∈ t.cases,ShC c) :=
  (gN Tryz.underlying24 (by kernel_rfl) (bZ (off:=0) (off':=1) rfl (by kernel_rfl) oi (bZ (off:=1) (off':=2) rfl (by kernel_rfl) oi (bZ (off:=2) (off':=3) rfl (by kernel_rfl) oi (bZ (off:=3) (off':=4) rfl (by kernel_rfl) tG jJ))))).map
    (fun a=>(⟨a.1,a.2.1,a.2.2.1,a.2.2.2.1⟩:TaskV)) (by
      rintro ⟨n,i,o,c,u⟩ ⟨_,_,_,h,_⟩
      exact h) (fun _ _=>rfl)
end
theorem jK {f:FuncId} {xs:List AV} {vs:List Value} (h:Go.Abs.Pure Tryz.prog f xs (.bool true)) (w:World) (hv:bl (E0 (lD w)) w xs vs) :
    Calls Tryz.prog f vs.toArray w fun e w'=>e=.returned (.bool true)∧Below w.heap.size w w':=by
  refine (h.2 (lD w) w vs (fun _ h=>h) hv).mono ?_
  rintro e w' ⟨v,imm',rfl,hb,_,_,_,hr⟩
  cases hr
  exact ⟨rfl,hb⟩
theorem xb:laidOutB Tryz.prog=true:=by kernel_rfl
end Go.Proofs.YtjgpfclngkcedaaGreat
namespace Go.Proofs.YtjgpfclngkcedaaGreat
open Go Go.Abs Go.RowKit Go.ChangeShapes Go.WideShapes Go.ChangeAt
theorem kM {H:Type} {enc:TypeId × Value→H} {P:Program} {f:Func} {s:ChangeSpec} {apart fresh handsOn again:Bool} {W W':World} {args:Array Value} {v:Value} {ds gs:List (DataW H)} {before pa pv:List MemPlace}
    (hW:DataW.Whole enc P f.params.toList s.vars apart W args.toList ds gs before)
    (hres:∀ (b:Nat) (sp:Nat→Bool) (hd:Bool),DataW.TrodAll enc P W' b sp hd f.resultTypes.toList (v.resultList f.resultTypes.size) (s.fn H (ds ++ gs)).results [])
    (hargs:∀ sp:Nat→Bool,(∀ p ∈ before,sp p.block=true)→DataW.TrodAll enc P W' 0 sp true f.params.toList args.toList (s.fn H (ds ++ gs)).args pa)
    (hvars:∀ sp:Nat→Bool,(∀ p ∈ before,sp p.block=true)→DataW.TrodVars enc P W' sp s.vars (s.fn H (ds ++ gs)).vars pv)
    (hps:before=pa ++ pv) (hb:Below W.heap.size W W')
    (hok:∀ (j:Nat) (t:TypeId) (r:Value),f.resultTypes[j]?=some t→(v.resultList f.resultTypes.size)[j]?=some r→Value.okWide P W' .any 0 t r) :
    s.post enc P f apart fresh handsOn again W args v W':=by
  have hold:∀ p ∈ before,(fun b=>decide (b < W.heap.size)) p.block=true:=fun p hp=>by simpa using hW.lt p hp
  have hlt:=fun p hp=>hW.lt p hp
  refine ⟨ds,gs,before,[],pa,pv,hW,hres _ _ _,hargs _ hold,hvars _ hold,World.keptBut_mono (fun p hp=>⟨hp,?_⟩) (hb.frame _),fun _=>?_⟩
  · rw [hps,List.mem_append] at hp
    exact Or.inr hp
  · obtain ⟨_,_,_,_,_,hz,hn⟩:=hW
    refine ⟨hok,_,_,([] ++ pa) ++ pv,⟨[] ++ pa,pv,trodAll_append (hargs _ (fun _ _=>rfl)) (hres _ _ _),hvars _ (fun _ _=>rfl),rfl,?_,?_⟩,?_⟩
    · intro b off hp
      have hp':MemPlace.cell b off ∈ before:=by rw [hps]; simpa using hp
      rw [hb.frozen (hlt _ hp')]
      exact hz b off hp'
    · intro ha
      have:=hn ha
      rw [hps] at this
      simpa using this
    · intro p hp _
      rw [hps]
      simpa using hp
theorem qP {E:Env} {w:World}:bl E w [] []:=⟨rfl,fun i x y h=>(by cases h)⟩
theorem il {E:Env} {w:World} {x:AV} {y:Value} {xs:List AV} {ys:List Value} (h:Rel E w x y) (hs:bl E w xs ys):bl E w (x :: xs) (y :: ys):=by
  refine ⟨by simp [hs.1],fun i a b ha hb=>?_⟩
  cases i with
  | zero=>simp at ha hb; subst ha hb; exact h
  | succ i=>simp at ha hb; exact hs.2 i a b ha hb
theorem own:ownKnob Tryz.prog.godebug=none:=by kernel_rfl
end Go.Proofs.YtjgpfclngkcedaaGreat
